/- The abstract machine, part 4: the operations that leave memory alone are sound. -/
import Derived.Test.YtkdepbmeaiefeaaShvSem
import Derived.Laws.Strings
import Derived.Laws.StructEq
namespace Go.Proofs.Ytkdepbmeaiefeaa.Shv
set_option linter.all false
open Go

section
variable {P : Program} {Γ : Ctx} {nt : Nat} {φ : Phi} {S : Stab} {env : Env} {σ : Store} {n : Nat → Bool} {key : Nat} {a : Act} {w : World}

def Good (P : Program) (Γ : Ctx) (nt : Nat) (env : Env) (σ' : Store) (n' : Nat → Bool) (a : Act) (v : V) (r : Result Next) : Prop :=
  ∃ x φ' S' w', (r = .ok (.value x) w' ∨ (r = .ok .skip w' ∧ x = undef)) ∧ RV φ' w' S' v x ∧ v.bnd n' = true ∧ Rel Γ nt φ' S' env σ' n' a w'

theorem ins_self {n : Nat → Bool} {k : Nat} : ins n k k = true := by simp [ins]
theorem ins_of {n : Nat → Bool} {k b : Nat} (h : n b = true) : ins n k b = true := by simp [ins, h]

theorem C.bnd_mono {n n' : Nat → Bool} (h : ∀ b, n b = true → n' b = true) {c : C} (hc : c.bnd n = true) : c.bnd n' = true := by
  cases c <;> simp only [C.bnd, List.all_eq_true] at * <;> first | exact h _ hc | exact fun b hb => h b (hc b hb)

theorem bnds_of_get {n : Nat → Bool} : ∀ {vs : List V}, (∀ (i : Nat) v, vs[i]? = some v → v.bnd n = true) → V.bnd.V.bnds n vs = true
  | [], _ => rfl
  | v :: vs, h => by
    simp only [V.bnd.V.bnds, Bool.and_eq_true]
    exact ⟨h 0 v rfl, bnds_of_get fun i v hv => h (i + 1) v hv⟩

theorem V.bnd_mono {n n' : Nat → Bool} (h : ∀ b, n b = true → n' b = true) : ∀ {v : V}, v.bnd n = true → v.bnd n' = true
  | .c x, hv => by simp only [V.bnd] at hv ⊢; exact C.bnd_mono h hv
  | .agg cs, hv => by
    simp only [V.bnd, List.all_eq_true] at hv ⊢
    exact fun c hc => C.bnd_mono h (hv c hc)
  | .tup vs, hv => by
    simp only [V.bnd] at hv ⊢
    exact go vs hv
where go : ∀ vs, V.bnd.V.bnds n vs = true → V.bnd.V.bnds n' vs = true
  | [], _ => rfl
  | v :: vs, hv => by
    simp only [V.bnd.V.bnds, Bool.and_eq_true] at hv ⊢
    exact ⟨V.bnd_mono h hv.1, go vs hv.2⟩

theorem Blk.bnd_mono {n n' : Nat → Bool} (h : ∀ b, n b = true → n' b = true) {x : Blk} (hx : x.bnd n = true) : x.bnd n' = true := by
  cases x with
  | box cs =>
    simp only [Blk.bnd, List.all_eq_true] at hx ⊢
    exact fun c hc => C.bnd_mono h (hx c hc)
  | arr => rfl

theorem Rel.more (R : Rel Γ nt φ S env σ n a w) {n' : Nat → Bool} (h : ∀ b, n b = true → n' b = true) : Rel Γ nt φ S env σ n' a w :=
  ⟨R.sim, R.envs, R.envn, fun k g v hl hg => V.bnd_mono h (R.ebnd k g v hl hg), fun b x hx => ⟨h b (R.sbnd b x hx).1, Blk.bnd_mono h (R.sbnd b x hx).2⟩, R.size, R.defers, R.ext, R.own, R.fix, fun b hb => h b (R.kn b hb)⟩

theorem Good.pure (R : Rel Γ nt φ S env σ n a w) {v : V} {x : Value} {r : Result Next} (hr : r = .ok (.value x) w) (hv : RV φ w S v x) (hb : v.bnd n = true) :
    Good P Γ nt env σ (ins n key) a v r := ⟨x, φ, S, w, .inl hr, hv, V.bnd_mono (fun _ h => ins_of h) hb, R.more fun _ h => ins_of h⟩

theorem ofVal_sound {v : Value} {c : C} (h : ofVal v = some c) : RC φ w S c v ∧ c.bnd n = true := by
  unfold ofVal at h
  split at h <;> simp at h
  · subst h; exact ⟨.bool _, rfl⟩
  · subst h; exact ⟨.int _ _, rfl⟩
  · obtain ⟨hs, rfl⟩ := h; exact ⟨.str _ hs, rfl⟩
  · subst h; exact ⟨⟨_, rfl⟩, rfl⟩
  · subst h; exact ⟨rfl, rfl⟩
  · subst h; exact ⟨rfl, rfl⟩

theorem ofVals_sound : ∀ {vs : List Value} {cs : List C}, ofVals vs = some cs → All2 (RC φ w S) cs vs ∧ cs.all (C.bnd n) = true
  | [], cs, h => by simp [ofVals] at h; subst h; exact ⟨.nil, rfl⟩
  | v :: vs, cs, h => by
    simp only [ofVals, Option.bind_eq_some_iff, Option.map_eq_some_iff] at h
    obtain ⟨c, hc, cs', hcs, rfl⟩ := h
    have h1 := ofVal_sound (φ := φ) (w := w) (S := S) (n := n) hc
    have h2 := ofVals_sound hcs
    exact ⟨.cons h1.1 h2.1, by simp [h1.2]; simpa using h2.2⟩

theorem ofConst_sound {v : Value} {V0 : V} (h : ofConst v = some V0) : RV φ w S V0 v ∧ V0.bnd n = true := by
  unfold ofConst at h
  split at h
  · rename_i cs
    simp only [Option.map_eq_some_iff] at h
    obtain ⟨l, hl, rfl⟩ := h
    have := ofVals_sound (φ := φ) (w := w) (S := S) (n := n) hl
    refine ⟨?_, by simpa [V.bnd] using this.2⟩
    have e := RV.agg (φ := φ) (w := w) (S := S) this.1
    simpa using e
  · simp only [Option.map_eq_some_iff] at h
    obtain ⟨l, hl, rfl⟩ := h
    have := ofVal_sound (φ := φ) (w := w) (S := S) (n := n) hl
    exact ⟨.c this.1, by simpa [V.bnd] using this.2⟩

theorem get_sound (R : Rel Γ nt φ S env σ n a w) {x : Operand} {ao : AO} (hx : opd x = some ao) {p : Prop} {v : V} (h : ao.get env = some (p, v)) (hp : p) :
    RV φ w S v (a.eval x) ∧ v.bnd n = true := by
  cases x with
  | tmp t =>
    simp [opd] at hx; subst hx
    simp only [AO.get, Option.map_eq_some_iff] at h
    obtain ⟨⟨g, v'⟩, hl, he⟩ := h
    simp only [Option.some.injEq, Prod.mk.injEq] at he
    obtain ⟨rfl, rfl⟩ := he
    obtain ⟨y, hy, hr⟩ := R.envs t g v' hl hp
    refine ⟨?_, R.ebnd t g v' hl hp⟩
    simp only [Act.eval, Array.getD_eq_getD_getElem?, hy, Option.getD_some]
    exact hr
  | const c =>
    simp only [opd, Option.map_eq_some_iff] at hx
    obtain ⟨V0, hV, rfl⟩ := hx
    simp [AO.get] at h
    obtain ⟨_, rfl⟩ := h
    exact ofConst_sound hV
  | global g => simp [opd] at hx
  | func f =>
    simp [opd] at hx; subst hx
    simp [AO.get] at h
    obtain ⟨_, rfl⟩ := h
    exact ⟨.c (by simp [RC, Act.eval]), by simp [V.bnd, C.bnd]⟩

theorem gets_sound (R : Rel Γ nt φ S env σ n a w) : ∀ {xs : List Operand} {aos : List AO} (_ : opds xs = some aos) {p : Prop} {vs : List V} (_ : gets env aos = some (p, vs)) (_ : p),
    All2 (RV φ w S) vs (xs.map a.eval) ∧ V.bnd.V.bnds n vs = true
  | [], aos, hx, p, vs, h, hp => by
    simp [opds] at hx; subst hx; simp [gets] at h; obtain ⟨_, rfl⟩ := h; exact ⟨.nil, rfl⟩
  | x :: xs, aos, hx, p, vs, h, hp => by
    simp only [opds, Option.bind_eq_some_iff, Option.map_eq_some_iff] at hx
    obtain ⟨ao, hao, aos', haos, rfl⟩ := hx
    simp only [gets, Option.bind_eq_some_iff, Option.map_eq_some_iff] at h
    obtain ⟨⟨q, v⟩, hq, ⟨q', vs'⟩, hq', he⟩ := h
    simp only [Option.some.injEq, Prod.mk.injEq] at he
    obtain ⟨rfl, rfl⟩ := he
    have h1 := get_sound R hao hq hp.1
    have h2 := gets_sound R haos hq' hp.2
    exact ⟨.cons h1.1 h2.1, by simp [V.bnd.V.bnds, h1.2, h2.2]⟩

theorem RV.bool_inv {b : Bool} {x : Value} (h : RV φ w S (.c (.t (.bool b))) x) : x = .bool b := by
  cases h with | c h => cases h; rfl
theorem RV.int_inv {k : IntKind} {m : Int} {x : Value} (h : RV φ w S (.c (.t (.int k m))) x) : x = .int k m := by
  cases h with | c h => cases h; rfl
theorem RV.str_inv {s : List UInt8} {x : Value} (h : RV φ w S (.c (.t (.str s))) x) : ∃ bs : ByteArray, x = .string bs ∧ bs.data.toList = s ∧ bs.size ≤ strMax := by
  cases h with | c h => cases h with | str s h => exact ⟨s, rfl, rfl, h⟩
theorem RV.ptr_inv {b o : Nat} {x : Value} (h : RV φ w S (.c (.ptr b o)) x) : x = .pointer (some ⟨(φ b).1, o, none⟩) := by
  cases h with | c h => exact h
theorem RV.eptr_inv {b sz i o : Nat} {x : Value} (h : RV φ w S (.c (.eptr b sz i o)) x) : x = .pointer (some ⟨(φ b).1, i * sz + o, none⟩) := by
  cases h with | c h => exact h
theorem RV.agg_inv {cs : List C} {x : Value} (h : RV φ w S (.agg cs) x) : ∃ vs : List Value, x = .agg vs.toArray ∧ All2 (RC φ w S) cs vs := by
  cases h with | agg h => exact ⟨_, rfl, h⟩
theorem RV.c_inv {c : C} {x : Value} (h : RV φ w S (.c c) x) : RC φ w S c x := by cases h with | c h => exact h

theorem RV.boolI (b : Bool) : RV φ w S (.c (.t (.bool b))) (.bool b) := .c (.bool b)
theorem RV.intI (k : IntKind) (m : Int) : RV φ w S (.c (.t (.int k m))) (.int k m) := .c (.int k m)

theorem sound_mov (R : Rel Γ nt φ S env σ n a w) {o : Oper} {x : Operand} (ho : o.op = .move x ∨ o.op = .assign x) {ao : AO} (hx : opd x = some ao)
    {p v σ'} (hk : n key = false) (h : aval (.mov ao) env σ key = some (p, v, σ')) (hp : p) : Good P Γ nt env σ' (ins n key) a v ((execOp a.eval o).run P w) := by
  simp only [aval, Option.map_eq_some_iff] at h
  obtain ⟨⟨q, u⟩, hq, he⟩ := h
  simp only [Option.some.injEq, Prod.mk.injEq] at he
  obtain ⟨rfl, rfl, rfl⟩ := he
  have hg := get_sound R hx hq hp
  refine Good.pure R ?_ hg.1 hg.2
  rcases ho with ho | ho <;> simp [execOp, ho]

theorem sound_pick (R : Rel Γ nt φ S env σ n a w) {o : Oper} {c x y : Operand} (ho : o.op = .pick c x y) {ac ax ay : AO} (hc : opd c = some ac) (hx : opd x = some ax) (hy : opd y = some ay)
    {p v σ'} (hk : n key = false) (h : aval (.pick ac ax ay) env σ key = some (p, v, σ')) (hp : p) : Good P Γ nt env σ' (ins n key) a v ((execOp a.eval o).run P w) := by
  simp only [aval, Option.bind_eq_some_iff] at h
  obtain ⟨⟨pc, vc⟩, hgc, ⟨px, vx⟩, hgx, ⟨py, vy⟩, hgy, he⟩ := h
  simp only at he
  split at he
  · rename_i b q1 q2
    simp only [Option.some.injEq, Prod.mk.injEq] at he
    obtain ⟨rfl, rfl, rfl⟩ := he
    obtain ⟨h1, h2, h3⟩ := hp
    have ec := (get_sound R hc hgc h1).1.bool_inv
    cases b with
    | true =>
      have ex := (get_sound R hx hgx (h2 rfl)).1.bool_inv
      exact Good.pure R (x := .bool q1) (by simp [execOp, ho, ec, asBool, ex]) (.boolI _) rfl
    | false =>
      have ey := (get_sound R hy hgy (h3 rfl)).1.bool_inv
      exact Good.pure R (x := .bool q2) (by simp [execOp, ho, ec, asBool, ey]) (.boolI _) rfl
  · cases he

theorem size_data (b : ByteArray) : b.data.toList.length = b.size := by cases b; simp [ByteArray.size]

theorem binT_sound {op : BinOp} {s t r : T} {p : Prop} (h : binT op s t = some (p, r)) (hp : p) {ty : TypeId} {x y : Value} (hx : RT w S s x) (hy : RT w S t y) :
    ∃ z, (binOp op ty x y).run P w = .ok z w ∧ RT w S r z := by
  have eqd : ∀ a b : List UInt8, (a == b) = decide (a = b) := fun a b => by by_cases h : a = b <;> simp [h]
  unfold binT at h
  split at h <;> (first | simp only [Option.ite_none_right_eq_some, Option.some.injEq, Prod.mk.injEq] at h | cases h)
  all_goals cases hx; cases hy
  case h_1 => obtain ⟨rfl, rfl, rfl⟩ := h; exact ⟨_, by simp [binOp, Op.intArith], .int _ _⟩
  case h_2 => obtain ⟨rfl, rfl, rfl⟩ := h; exact ⟨_, by simp [binOp, Op.intArith], .int _ _⟩
  case h_3 => obtain ⟨rfl, rfl, rfl⟩ := h; exact ⟨_, by simp [binOp, Op.intArith], .int _ _⟩
  case h_4 => obtain ⟨rfl, rfl, rfl⟩ := h; exact ⟨_, by simp [binOp, Op.intDiv, hp], .int _ _⟩
  case h_5 => obtain ⟨rfl, rfl, rfl⟩ := h; exact ⟨_, by simp [binOp, Op.intDiv, hp], .int _ _⟩
  case h_6 => obtain ⟨rfl, rfl, rfl⟩ := h; exact ⟨_, by simp [binOp, Op.intBits], .int _ _⟩
  case h_7 => obtain ⟨rfl, rfl, rfl⟩ := h; exact ⟨_, by simp [binOp, Op.intBits], .int _ _⟩
  case h_8 => obtain ⟨rfl, rfl, rfl⟩ := h; exact ⟨_, by simp [binOp, Op.intBits], .int _ _⟩
  case h_9 => obtain ⟨rfl, rfl, rfl⟩ := h; exact ⟨_, by simp [binOp, Op.intBits], .int _ _⟩
  case h_10 => obtain ⟨rfl, rfl⟩ := h; exact ⟨_, by simp only [binOp, Op.shift]; rw [if_neg (by omega)]; rfl, .int _ _⟩
  case h_11 => obtain ⟨rfl, rfl⟩ := h; exact ⟨_, by simp only [binOp, Op.shift]; rw [if_neg (by omega)]; rfl, .int _ _⟩
  case h_12 => obtain ⟨rfl, rfl, rfl⟩ := h; exact ⟨_, by simp [binOp, Op.intCmp]; rfl, .bool _⟩
  case h_13 => obtain ⟨rfl, rfl, rfl⟩ := h; exact ⟨_, by simp [binOp, Op.intCmp, bne, BEq.beq], .bool _⟩
  case h_14 => obtain ⟨rfl, rfl, rfl⟩ := h; exact ⟨_, by simp [binOp, Op.intCmp], .bool _⟩
  case h_15 => obtain ⟨rfl, rfl, rfl⟩ := h; exact ⟨_, by simp [binOp, Op.intCmp], .bool _⟩
  case h_16 => obtain ⟨rfl, rfl, rfl⟩ := h; exact ⟨_, by simp [binOp, Op.intCmp], .bool _⟩
  case h_17 => obtain ⟨rfl, rfl, rfl⟩ := h; exact ⟨_, by simp [binOp, Op.intCmp], .bool _⟩
  case h_18 s hs t ht =>
    obtain ⟨rfl, rfl⟩ := h
    simp only [size_data] at hp
    have e : (s ++ t).data.toList = s.data.toList ++ t.data.toList := by simp
    refine ⟨.string (s ++ t), ?_, e ▸ .str _ (by rw [ByteArray.size_append]; exact hp)⟩
    have : ¬ (((s.size + t.size : Nat) : Int) > IntKind.i64.max) := by simp only [IntKind.max]; unfold strMax at hp; simp [IntKind.signed, IntKind.bits]; omega
    simp only [binOp, Op.stringOp, if_neg this]; rfl
  case h_19 s hs t ht => obtain ⟨rfl, rfl⟩ := h; exact ⟨_, by simp only [binOp, Op.stringOp, ByteArray.toList_eq, eqd]; rfl, .bool _⟩
  case h_20 s hs t ht => obtain ⟨rfl, rfl⟩ := h; exact ⟨_, by simp only [binOp, Op.stringOp, ByteArray.toList_eq, eqd]; rfl, .bool _⟩
  case h_21 s hs t ht => obtain ⟨rfl, rfl⟩ := h; exact ⟨_, by simp only [binOp, Op.stringOp, ByteArray.toList_eq]; rfl, .bool _⟩
  case h_22 s hs t ht => obtain ⟨rfl, rfl⟩ := h; exact ⟨_, by simp only [binOp, Op.stringOp, ByteArray.toList_eq, eqd]; rfl, .bool _⟩
  case h_23 s hs t ht => obtain ⟨rfl, rfl⟩ := h; exact ⟨_, by simp only [binOp, Op.stringOp, ByteArray.toList_eq, eqd]; rfl, .bool _⟩
  case h_24 s hs t ht => obtain ⟨rfl, rfl⟩ := h; exact ⟨_, by simp only [binOp, Op.stringOp, ByteArray.toList_eq]; rfl, .bool _⟩


theorem eqGuard_run {op : BinOp} {ty : TypeId} {x y : Operand} {u v : Value} (h1 : u ≠ .nilIface) (h2 : ∀ cs, u ≠ .agg cs) : (eqGuard op ty x y u v).run P w = .ok () w := by
  unfold eqGuard
  cases u <;> first | exact absurd rfl h1 | exact absurd rfl (h2 _) | (cases op <;> rfl)

theorem RT.guard {t : T} {u : Value} (h : RT w S t u) : u ≠ .nilIface ∧ ∀ cs, u ≠ .agg cs := by
  cases h <;> exact ⟨by simp, by simp⟩

theorem equal_bool {ty : TypeId} (hty : P.underlying ty = some .bool) (b1 b2 : Bool) : (Op.equal ty (.bool b1) (.bool b2)).run P w = .ok (b1 == b2) w := by
  obtain ⟨d, hd⟩ : ∃ d, Op.maxDepth = d + 1 := ⟨9999, rfl⟩
  unfold Op.equal
  rw [hd]
  unfold Op.equalIn
  simp only [Sem.run_bind, run_underlying hty, Result.andThen_ok]
  rfl

theorem sound_bin (R : Rel Γ nt φ S env σ n a w) {o : Oper} {op : BinOp} {ty yt : TypeId} {x y : Operand} (ho : o.op = .binOp op ty x y yt) {ax ay : AO} (hx : opd x = some ax) (hy : opd y = some ay)
    {p v σ'} (hk : n key = false) (h : aval (.bin op ax ay) env σ key = some (p, v, σ')) (hp : p) : Good P Γ nt env σ' (ins n key) a v ((execOp a.eval o).run P w) := by
  simp only [aval, Option.bind_eq_some_iff] at h
  obtain ⟨⟨px, vx⟩, hgx, ⟨py, vy⟩, hgy, he⟩ := h
  simp only at he
  split at he
  · rename_i t1 t2
    simp only [Option.map_eq_some_iff, Prod.mk.injEq] at he
    obtain ⟨⟨pr, r⟩, hr, rfl, rfl, rfl⟩ := he
    have h1 := (get_sound R hx hgx hp.1).1.c_inv
    have h2 := (get_sound R hy hgy hp.2.1).1.c_inv
    obtain ⟨z, hz, hzr⟩ := binT_sound (P := P) (ty := ty) hr hp.2.2 h1 h2
    refine Good.pure R (x := z) ?_ (.c hzr) rfl
    have eg : (eqGuard op ty x y (a.eval x) (a.eval y)).run P w = .ok () w := eqGuard_run (RT.guard h1).1 (RT.guard h1).2
    simp [execOp, ho, eg, hz]
  · cases he

theorem sound_eqBool (R : Rel Γ nt φ S env σ n a w) {o : Oper} {op : BinOp} {ty yt : TypeId} {x y : Operand} (ho : o.op = .binOp op ty x y yt) (hop : op = .eql ∨ op = .neq) (hty : P.underlying ty = some .bool)
    {ax ay : AO} (hx : opd x = some ax) (hy : opd y = some ay)
    {p v σ'} (hk : n key = false) (h : aval (.eqBool (op == .neq) ax ay) env σ key = some (p, v, σ')) (hp : p) : Good P Γ nt env σ' (ins n key) a v ((execOp a.eval o).run P w) := by
  simp only [aval, Option.bind_eq_some_iff] at h
  obtain ⟨⟨px, vx⟩, hgx, ⟨py, vy⟩, hgy, he⟩ := h
  simp only at he
  split at he
  · rename_i b1 b2
    simp only [Option.some.injEq, Prod.mk.injEq] at he
    obtain ⟨rfl, rfl, rfl⟩ := he
    have h1 := (get_sound R hx hgx hp.1).1.bool_inv
    have h2 := (get_sound R hy hgy hp.2).1.bool_inv
    refine Good.pure R (x := .bool (if (op == .neq) then !(b1 == b2) else (b1 == b2))) ?_ (.boolI _) rfl
    have eg : (eqGuard op ty x y (a.eval x) (a.eval y)).run P w = .ok () w := eqGuard_run (by rw [h1]; simp) (by rw [h1]; simp)
    have ev : (binOp op ty (a.eval x) (a.eval y)).run P w = .ok (.bool (if (op == .neq) then !(b1 == b2) else (b1 == b2))) w := by
      rcases hop with rfl | rfl
      · rw [h1, h2]; simp only [binOp, Sem.run_bind, equal_bool hty]; rfl
      · rw [h1, h2]; simp only [binOp, Sem.run_bind, equal_bool hty]; rfl
    simp [execOp, ho, eg, ev]
  · cases he

theorem sound_not (R : Rel Γ nt φ S env σ n a w) {o : Oper} {ty : TypeId} {x : Operand} (ho : o.op = .unOp .not ty x) {ax : AO} (hx : opd x = some ax)
    {p v σ'} (hk : n key = false) (h : aval (.not ax) env σ key = some (p, v, σ')) (hp : p) : Good P Γ nt env σ' (ins n key) a v ((execOp a.eval o).run P w) := by
  simp only [aval, Option.bind_eq_some_iff] at h
  obtain ⟨⟨px, vx⟩, hgx, he⟩ := h
  simp only at he
  split at he
  · simp only [Option.some.injEq, Prod.mk.injEq] at he
    obtain ⟨rfl, rfl, rfl⟩ := he
    have h1 := (get_sound R hx hgx hp).1.bool_inv
    exact Good.pure R (by simp [execOp, ho, h1, Op.unary]) (.boolI _) rfl
  · cases he

theorem sound_conv (R : Rel Γ nt φ S env σ n a w) {o : Oper} {s d : TypeId} {x : Operand} (ho : o.op = .convert s d x) {k0 k : IntKind} (hs : P.underlying s = some (.int k0)) (hd : P.underlying d = some (.int k)) {ax : AO} (hx : opd x = some ax)
    {p v σ'} (hk : n key = false) (h : aval (.conv k ax) env σ key = some (p, v, σ')) (hp : p) : Good P Γ nt env σ' (ins n key) a v ((execOp a.eval o).run P w) := by
  simp only [aval, Option.bind_eq_some_iff] at h
  obtain ⟨⟨px, vx⟩, hgx, he⟩ := h
  simp only at he
  split at he
  · simp only [Option.some.injEq, Prod.mk.injEq] at he
    obtain ⟨rfl, rfl, rfl⟩ := he
    have h1 := (get_sound R hx hgx hp).1.int_inv
    exact Good.pure R (by simp [execOp, ho, h1, convert, underlying, hs, hd, Conv.intToInt]) (.intI _ _) rfl
  · cases he

theorem encode_small (m : Int) : (Utf8.encode m).size ≤ strMax := by
  unfold strMax Utf8.encode
  generalize (if Utf8.valid m = true then m.toNat else Utf8.runeError) = c
  dsimp only
  (repeat' split) <;> simp [ByteArray.size]

theorem sound_i2s (R : Rel Γ nt φ S env σ n a w) {o : Oper} {s d : TypeId} {x : Operand} (ho : o.op = .convert s d x) {k0 : IntKind} (hs : P.underlying s = some (.int k0)) (hd : P.underlying d = some .string) {ax : AO} (hx : opd x = some ax)
    {p v σ'} (hk : n key = false) (h : aval (.i2s ax) env σ key = some (p, v, σ')) (hp : p) : Good P Γ nt env σ' (ins n key) a v ((execOp a.eval o).run P w) := by
  simp only [aval, Option.bind_eq_some_iff] at h
  obtain ⟨⟨px, vx⟩, hgx, he⟩ := h
  simp only at he
  split at he
  · simp only [Option.some.injEq, Prod.mk.injEq] at he
    obtain ⟨rfl, rfl, rfl⟩ := he
    have h1 := (get_sound R hx hgx hp).1.int_inv
    exact Good.pure R (by simp [execOp, ho, h1, convert, underlying, hs, hd, Conv.intToString]) (.c (.str _ (encode_small _))) rfl
  · cases he

theorem sound_s2s (R : Rel Γ nt φ S env σ n a w) {o : Oper} {s d : TypeId} {x : Operand} (ho : o.op = .convert s d x) (hs : P.underlying s = some .string) (hd : P.underlying d = some .string) {ax : AO} (hx : opd x = some ax)
    {p v σ'} (hk : n key = false) (h : aval (.s2s ax) env σ key = some (p, v, σ')) (hp : p) : Good P Γ nt env σ' (ins n key) a v ((execOp a.eval o).run P w) := by
  simp only [aval, Option.bind_eq_some_iff] at h
  obtain ⟨⟨px, vx⟩, hgx, he⟩ := h
  simp only at he
  split at he
  · simp only [Option.some.injEq, Prod.mk.injEq] at he
    obtain ⟨rfl, rfl, rfl⟩ := he
    have hg := get_sound R hx hgx hp
    obtain ⟨bs, h1, rfl, _⟩ := hg.1.str_inv
    refine Good.pure R (x := .string bs) ?_ (h1 ▸ hg.1) rfl
    simp [execOp, ho, h1, convert, underlying, hs, hd]
  · cases he

theorem sound_nilCheck (R : Rel Γ nt φ S env σ n a w) {o : Oper} {x : Operand} (ho : o.op = .nilCheck x) {ax : AO} (hx : opd x = some ax)
    {p v σ'} (hk : n key = false) (h : aval (.nilCheck ax) env σ key = some (p, v, σ')) (hp : p) : Good P Γ nt env σ' (ins n key) a v ((execOp a.eval o).run P w) := by
  simp only [aval, Option.bind_eq_some_iff] at h
  obtain ⟨⟨px, vx⟩, hgx, he⟩ := h
  simp only at he
  split at he <;> simp only [Option.some.injEq, Prod.mk.injEq, reduceCtorEq] at he
  all_goals
    obtain ⟨rfl, rfl, rfl⟩ := he
    have hg := get_sound R hx hgx hp
    have h1 := hg.1.c_inv
    refine Good.pure R (x := a.eval x) ?_ hg.1 hg.2
  · simp only [RC] at h1; simp [execOp, ho, h1]
  · simp only [RC] at h1; simp [execOp, ho, h1]
  · obtain ⟨_, _, _, h1, _⟩ := h1; simp [execOp, ho, h1]

theorem sound_fldA (R : Rel Γ nt φ S env σ n a w) {o : Oper} {ty : TypeId} {x : Operand} {f : Nat} (ho : o.op = .fieldAddr ty x f) {fs : Array Field} (hty : P.underlying ty = some (.struct fs)) {fd : Field} (hf : fs[f]? = some fd)
    {m : Nat} (hm : sizeT P fd.type = some m) (hm0 : m ≠ 0) {ax : AO} (hx : opd x = some ax)
    {p v σ'} (hk : n key = false) (h : aval (.fldA fd.offset ax) env σ key = some (p, v, σ')) (hp : p) : Good P Γ nt env σ' (ins n key) a v ((execOp a.eval o).run P w) := by
  simp only [aval, Option.bind_eq_some_iff] at h
  obtain ⟨⟨px, vx⟩, hgx, he⟩ := h
  simp only at he
  have hu : ∀ w, (underlying ty).run P w = .ok (.struct fs) w := by intro w; simp [underlying, hty]
  have hsz : ∀ w, (sizeOf fd.type).run P w = .ok m w := by
    intro w; simp only [sizeT, Option.map_eq_some_iff] at hm; obtain ⟨i, hi, rfl⟩ := hm; simp [sizeOf, typeInfo, hi]
  have hrun : ∀ (b off : Nat), a.eval x = .pointer (some ⟨b, off, none⟩) → (execOp a.eval o).run P w = .ok (.value (.pointer (some ⟨b, off + fd.offset, none⟩))) w := by
    intro b off e
    simp [execOp, ho, e, Instr.fieldAt, hu, hf, Instr.sureAddr, fieldPlace, hsz, hm0, Addr.add]
    try (split <;> simp_all)
  split at he <;> simp only [Option.some.injEq, Prod.mk.injEq, reduceCtorEq] at he
  all_goals
    obtain ⟨rfl, rfl, rfl⟩ := he
    have hg := get_sound R hx hgx hp
    have h1 := hg.1.c_inv
  · simp only [RC] at h1
    exact Good.pure R (hrun _ _ h1) (.c rfl) hg.2
  · simp only [RC] at h1
    exact Good.pure R (hrun _ _ h1) (.c (by simp [RC, Nat.add_assoc])) hg.2
  · obtain ⟨blk, off, f, h1, hh⟩ := h1
    exact Good.pure R (hrun _ _ h1) (.c ⟨blk, off, f, by simp [Nat.add_assoc], hh⟩) hg.2

theorem All2.map_t {w : World} {S : Stab} {φ : Phi} {ts : List T} {vs : List Value} (h : All2 (RT w S) ts vs) : All2 (RC φ w S) (ts.map .t) vs := by
  induction h with
  | nil => exact .nil
  | cons h _ ih => exact .cons h ih

theorem all_map_t (n : Nat → Bool) (ts : List T) : (ts.map C.t).all (C.bnd n) = true := by simp [C.bnd]

theorem all_take_drop {n : Nat → Bool} {cs : List C} (h : cs.all (C.bnd n) = true) (o k : Nat) : ((cs.drop o).take k).all (C.bnd n) = true := by
  simp only [List.all_eq_true] at h ⊢
  intro x hx
  exact h x (List.mem_of_mem_drop (List.mem_of_mem_take hx))

theorem isAggT_agg {ty : TypeId} {g : Bool} (hg : isAggT P ty = some g) (w : World) : (isAgg ty).run P w = .ok g w := by
  unfold isAggT at hg
  split at hg <;> simp_all [isAgg, underlying]

theorem sizeT_run {ty : TypeId} {k : Nat} (hk : sizeT P ty = some k) (w : World) : (sizeOf ty).run P w = .ok k w := by
  simp only [sizeT, Option.map_eq_some_iff] at hk; obtain ⟨i, hi, rfl⟩ := hk; simp [sizeOf, typeInfo, hi]

theorem loadOf_inv {ty : TypeId} {g : Bool × Nat} (h : loadOf P ty = some g) : isAggT P ty = some g.1 ∧ sizeT P ty = some g.2 ∧ (g.1 = false → g.2 = 1) := by
  simp only [loadOf, Option.bind_eq_some_iff, Option.ite_none_right_eq_some, Option.some.injEq] at h
  obtain ⟨b, hb, k, hk, h1, rfl⟩ := h
  exact ⟨hb, hk, h1⟩

/-- a variable of the model is loaded -/
theorem run_loadVar {ty : TypeId} {g : Bool} {k : Nat} (hg : isAggT P ty = some g) (hk : sizeT P ty = some k) {b o : Nat} {vs : List Value}
    (hc : ∀ j, j < k → w.cell? ⟨b, o + j, none⟩ = vs[j]?) (hl : vs.length = k) (h1 : g = false → k = 1) :
    (loadVar ty ⟨b, o, none⟩).run P w = .ok (if g then .agg vs.toArray else vs.getD 0 undef) w := by
  cases g with
  | true =>
    have := run_loadCells_list (P := P) w ⟨b, o, none⟩ vs (fun j v hj => by
      have hj' : j < k := by rw [← hl]; exact (List.getElem?_eq_some_iff.1 hj).1
      rw [← hj, ← hc j hj']
      unfold Addr.add; split
      · rename_i h0; subst h0; rfl
      · rfl)
    rw [hl] at this
    simp [loadVar, isAggT_agg hg, sizeT_run hk, this]
  | false =>
    have hk1 := h1 rfl; subst hk1
    obtain ⟨v, rfl⟩ : ∃ v, vs = [v] := by
      match vs, hl with
      | [v], _ => exact ⟨v, rfl⟩
    have := hc 0 (by omega)
    simp at this
    simp [loadVar, isAggT_agg hg, this]

end
end Go.Proofs.Ytkdepbmeaiefeaa.Shv
