/- The abstract machine, part 5: the operations that leave memory alone are sound (second half). -/
import Derived.Test.YtkdepbmeaiefeaaShvSnd1
namespace Go.Proofs.Ytkdepbmeaiefeaa.Shv
set_option linter.all false
open Go

section
variable {P : Program} {Γ : Ctx} {nt : Nat} {φ : Phi} {S : Stab} {env : Env} {σ : Store} {n : Nat → Bool} {key : Nat} {a : Act} {w : World}

theorem RC.single {c : C} {v : Value} (h : RC φ w S c v) : v.cells = #[v] := by
  have := RC.oneCell h
  cases v <;> simp [Value.oneCell'] at this <;> rfl

theorem vcells_sound {v : V} {x : Value} {cs : List C} (h : RV φ w S v x) (hc : vcells v = some cs) (hb : v.bnd n = true) : All2 (RC φ w S) cs x.cells.toList ∧ cs.all (C.bnd n) = true := by
  cases h with
  | c h =>
    simp [vcells] at hc; subst hc
    rw [RC.single h]
    exact ⟨.cons h .nil, by simpa [V.bnd] using hb⟩
  | agg h =>
    simp [vcells] at hc; subst hc
    exact ⟨by simpa [Value.cells] using h, by simpa [V.bnd] using hb⟩
  | tup => simp [vcells] at hc

theorem loadC_sound {agg : Bool} {k o : Nat} {cs : List C} {vs : List Value} {v : V} (h : All2 (RC φ w S) cs vs) (hb : cs.all (C.bnd n) = true) (hl : loadC agg k cs o = some v) (h1 : agg = false → k = 1) :
    o + k ≤ cs.length ∧ RV φ w S v (if agg then .agg ((vs.drop o).take k).toArray else ((vs.drop o).take k).getD 0 undef) ∧ v.bnd n = true := by
  unfold loadC at hl
  cases agg with
  | true =>
    simp only [if_true, Option.ite_none_right_eq_some, Option.some.injEq] at hl
    obtain ⟨hle, rfl⟩ := hl
    refine ⟨hle, ?_, by simpa [V.bnd] using all_take_drop hb o k⟩
    simpa using RV.agg ((h.drop o).take k)
  | false =>
    have := h1 rfl; subst this
    simp only [Bool.false_eq_true, if_false, Option.map_eq_some_iff] at hl
    obtain ⟨c, hc, rfl⟩ := hl
    obtain ⟨x, hx, hr⟩ := h.get hc
    have hlt : o < cs.length := (List.getElem?_eq_some_iff.1 hc).1
    refine ⟨by omega, ?_, ?_⟩
    · have : ((vs.drop o).take 1).getD 0 undef = x := by
        simp [List.getD, List.getElem?_take, hx]
      simp only [Bool.false_eq_true, if_false, this]
      exact .c hr
    · simp only [List.all_eq_true] at hb
      simpa [V.bnd] using hb c (List.mem_of_getElem? hc)

theorem loadT_eq {agg : Bool} {k o : Nat} {ts : List T} {v : V} (hl : loadT agg k ts o = some v) : loadC agg k (ts.map .t) o = some v := by
  unfold loadT at hl; unfold loadC
  cases agg with
  | true => simpa using hl
  | false => simpa [Option.map_map] using hl

theorem run_part {ty : TypeId} {g : Bool} {k off : Nat} {vs : List Value} (hg : isAggT P ty = some g) (hk : sizeT P ty = some k) (h1 : g = false → k = 1) (hle : off + k ≤ vs.length) :
    (part ty vs.toArray off).run P w = .ok (if g then .agg ((vs.drop off).take k).toArray else ((vs.drop off).take k).getD 0 undef) w := by
  cases g with
  | true =>
    simp only [part, Sem.run_bind, isAggT_agg hg, Result.andThen_ok, if_true, sizeT_run hk, Sem.run_pure]
    congr 2
    apply Array.ext'
    simp [Array.toList_extract, List.extract, List.take_drop]
  | false =>
    have := h1 rfl; subst this
    have hlt : off < vs.length := by omega
    simp [part, isAggT_agg hg, List.getElem?_eq_getElem hlt, List.getD, List.getElem?_take]

theorem sound_fld (R : Rel Γ nt φ S env σ n a w) {o : Oper} {ty : TypeId} {x : Operand} {f : Nat} (ho : o.op = .field ty x f) {fs : Array Field} (hty : P.underlying ty = some (.struct fs)) {fd : Field} (hf : fs[f]? = some fd)
    {m : Nat} (hm : sizeT P fd.type = some m) {g : Bool} (hg : isAggT P fd.type = some g) (h1 : g = false → m = 1) {ax : AO} (hx : opd x = some ax)
    {p v σ'} (hk : n key = false) (h : aval (.fld g fd.offset m ax) env σ key = some (p, v, σ')) (hp : p) : Good P Γ nt env σ' (ins n key) a v ((execOp a.eval o).run P w) := by
  simp only [aval, Option.bind_eq_some_iff] at h
  obtain ⟨⟨px, vx⟩, hgx, he⟩ := h
  simp only at he
  split at he
  · rename_i cs
    simp only [Option.map_eq_some_iff, Prod.mk.injEq] at he
    obtain ⟨v0, hv0, rfl, rfl, rfl⟩ := he
    have hgs := get_sound R hx hgx hp
    obtain ⟨vs, hvs, hall⟩ := hgs.1.agg_inv
    obtain ⟨hle, hrv, hb⟩ := loadC_sound hall (by simpa [V.bnd] using hgs.2) hv0 h1
    have hr := run_part (P := P) (w := w) (vs := vs) hg hm h1 (by rw [← hall.length]; exact hle)
    exact Good.pure R (by simp [execOp, ho, hvs, Instr.field, underlying, hty, hf, asAgg, hr]) hrv hb
  · cases he

theorem sound_ext (R : Rel Γ nt φ S env σ n a w) {o : Oper} {x : Operand} {i : Nat} (ho : o.op = .extract x i) {ax : AO} (hx : opd x = some ax)
    {p v σ'} (hk : n key = false) (h : aval (.ext ax i) env σ key = some (p, v, σ')) (hp : p) : Good P Γ nt env σ' (ins n key) a v ((execOp a.eval o).run P w) := by
  simp only [aval, Option.bind_eq_some_iff] at h
  obtain ⟨⟨px, vx⟩, hgx, he⟩ := h
  simp only at he
  split at he
  · rename_i vs
    simp only [Option.map_eq_some_iff, Prod.mk.injEq] at he
    obtain ⟨v0, hv0, rfl, rfl, rfl⟩ := he
    have hgs := get_sound R hx hgx hp
    generalize ha : a.eval x = y at hgs
    obtain ⟨hr, hb⟩ := hgs
    cases hr with
    | tup _ xs hl hh =>
      have hlt : i < xs.length := by rw [← hl]; exact (List.getElem?_eq_some_iff.1 hv0).1
      have hxs : xs[i]? = some xs[i] := List.getElem?_eq_getElem hlt
      refine Good.pure R (x := xs[i]) ?_ (hh i _ _ hv0 hxs) (bnds_get (by simpa [V.bnd] using hb) hv0)
      simp [execOp, ho, ha, Instr.extract, hxs]
  · cases he

theorem sound_max2 (R : Rel Γ nt φ S env σ n a w) {o : Oper} {x y : Operand} {at' : Array TypeId} (ho : o.op = .call { callee := .builtin .max, args := #[x, y], argTypes := at' }) {ax ay : AO} (hx : opd x = some ax) (hy : opd y = some ay)
    {p v σ'} (hk : n key = false) (h : aval (.max2 ax ay) env σ key = some (p, v, σ')) (hp : p) : Good P Γ nt env σ' (ins n key) a v ((execOp a.eval o).run P w) := by
  simp only [aval, Option.bind_eq_some_iff] at h
  obtain ⟨⟨px, vx⟩, hgx, ⟨py, vy⟩, hgy, he⟩ := h
  simp only at he
  split at he
  · rename_i k p k' q
    simp only [Option.ite_none_right_eq_some, Option.some.injEq, Prod.mk.injEq] at he
    obtain ⟨rfl, rfl, rfl, rfl⟩ := he
    have h1 := (get_sound R hx hgx hp.1).1.int_inv
    have h2 := (get_sound R hy hgy hp.2).1.int_inv
    refine Good.pure R (x := .int k (max p q)) ?_ (.intI _ _) rfl
    have : (if p < q then q else p) = max p q := by omega
    simp [execOp, ho, resolve, invoke, builtin, Builtin.max_, Builtin.max2, h1, h2, Go.resolve, this]
  · cases he

theorem sound_min2 (R : Rel Γ nt φ S env σ n a w) {o : Oper} {x y : Operand} {at' : Array TypeId} (ho : o.op = .call { callee := .builtin .min, args := #[x, y], argTypes := at' }) {ax ay : AO} (hx : opd x = some ax) (hy : opd y = some ay)
    {p v σ'} (hk : n key = false) (h : aval (.min2 ax ay) env σ key = some (p, v, σ')) (hp : p) : Good P Γ nt env σ' (ins n key) a v ((execOp a.eval o).run P w) := by
  simp only [aval, Option.bind_eq_some_iff] at h
  obtain ⟨⟨px, vx⟩, hgx, ⟨py, vy⟩, hgy, he⟩ := h
  simp only at he
  split at he
  · rename_i k p k' q
    simp only [Option.ite_none_right_eq_some, Option.some.injEq, Prod.mk.injEq] at he
    obtain ⟨rfl, rfl, rfl, rfl⟩ := he
    have h1 := (get_sound R hx hgx hp.1).1.int_inv
    have h2 := (get_sound R hy hgy hp.2).1.int_inv
    refine Good.pure R (x := .int k (min p q)) ?_ (.intI _ _) rfl
    have : (if q < p then q else p) = min p q := by omega
    simp [execOp, ho, invoke, builtin, Builtin.min_, Builtin.min2, h1, h2, Go.resolve, this]
  · cases he

theorem RT.slice_inv {es : List (List T)} {v : Value} (h : RT w S (.slice es) v) : ∃ (a : Option Addr) (cap sz b o : Nat) (f : Nat → Nat → Value), v = .slice a es.length cap ∧ es.length ≤ cap ∧ es.length ≤ sliceMax ∧ (∀ e, e ∈ es → e.length = sz) ∧ (es ≠ [] → a = some ⟨b, o, none⟩) ∧
    (∀ i j : Nat, i < es.length → j < sz → S b (o + i * sz + j) ∧ w.cell? ⟨b, o + i * sz + j, none⟩ = some (f i j)) ∧ (∀ (i j : Nat) e t, es[i]? = some e → e[j]? = some t → RT w S t (f i j)) := by
  cases h
  exact ⟨_, _, _, _, _, _, rfl, by assumption, by assumption, by assumption, by assumption, by assumption, by assumption⟩

theorem RC.arr_inv {b sz off len : Nat} {v : Value} (h : RC φ w S (.arr b sz off len) v) : ∃ a, v = .slice a len ((φ b).2 - off) ∧ ((φ b).2 ≠ 0 → a = some ⟨(φ b).1, off * sz, none⟩) ∧ off + len ≤ (φ b).2 := h

theorem sound_len (R : Rel Γ nt φ S env σ n a w) {o : Oper} {x : Operand} {ty : TypeId} (ho : o.op = .call { callee := .builtin .len, args := #[x], argTypes := #[ty] }) {str : Bool}
    (hty : if str then P.underlying ty = some .string else ∃ e, P.underlying ty = some (.slice e)) {ax : AO} (hx : opd x = some ax)
    {p v σ'} (hk : n key = false) (h : aval (.len str ax) env σ key = some (p, v, σ')) (hp : p) : Good P Γ nt env σ' (ins n key) a v ((execOp a.eval o).run P w) := by
  simp only [aval, Option.bind_eq_some_iff] at h
  obtain ⟨⟨px, vx⟩, hgx, he⟩ := h
  simp only at he
  split at he <;> simp only [Option.some.injEq, Prod.mk.injEq, reduceCtorEq] at he
  all_goals
    obtain ⟨rfl, rfl, rfl⟩ := he
    have h1 := (get_sound R hx hgx hp).1.c_inv
  · obtain ⟨e, hty⟩ := hty
    obtain ⟨a', cap, _, _, _, _, h1, _⟩ := RT.slice_inv h1
    exact Good.pure R (by simp [execOp, ho, Go.resolve, invoke, builtin, Builtin.len_, underlying, hty, h1, goInt]) (.intI _ _) rfl
  · obtain ⟨e, hty⟩ := hty
    obtain ⟨a', h1, _⟩ := RC.arr_inv h1
    exact Good.pure R (by simp [execOp, ho, Go.resolve, invoke, builtin, Builtin.len_, underlying, hty, h1, goInt]) (.intI _ _) rfl
  · obtain ⟨e, hty⟩ := hty
    obtain ⟨a', h1⟩ := h1
    exact Good.pure R (by simp [execOp, ho, Go.resolve, invoke, builtin, Builtin.len_, underlying, hty, h1, goInt]) (.intI _ _) rfl
  · simp only [if_true] at hty
    obtain ⟨bs, hbs, rfl, _⟩ := RV.str_inv (.c h1)
    exact Good.pure R (x := .int .i64 bs.size) (by simp [execOp, ho, Go.resolve, invoke, builtin, Builtin.len_, underlying, hty, hbs, goInt]) (by rw [size_data]; exact .intI _ _) rfl

theorem sound_idxA (R : Rel Γ nt φ S env σ n a w) {o : Oper} {ty : TypeId} {x i : Operand} (ho : o.op = .indexAddr ty x i) {e : TypeId} (hty : P.underlying ty = some (.slice e)) {sz : Nat} (hsz : sizeT P e = some sz) (h0 : sz ≠ 0)
    {ax ai : AO} (hx : opd x = some ax) (hi : opd i = some ai)
    {p v σ'} (hk : n key = false) (h : aval (.idxA sz ax ai) env σ key = some (p, v, σ')) (hp : p) : Good P Γ nt env σ' (ins n key) a v ((execOp a.eval o).run P w) := by
  simp only [aval, Option.bind_eq_some_iff] at h
  obtain ⟨⟨px, vx⟩, hgx, ⟨pi, vi⟩, hgi, he⟩ := h
  simp only at he
  have hadd : ∀ (b off m : Nat), (Addr.add ⟨b, off, none⟩ (m * sz) : Addr) = ⟨b, off + m * sz, none⟩ := by
    intro b off m; unfold Addr.add; split
    · rename_i h; simp [h]
    · rfl
  split at he
  · rename_i es k m
    simp only [Option.some.injEq, Prod.mk.injEq] at he
    obtain ⟨rfl, rfl, rfl⟩ := he
    obtain ⟨hp1, hp2, hm0, hm1, hel⟩ := hp
    have h1 := (get_sound R hx hgx hp1).1.c_inv
    have h2 := (get_sound R hi hgi hp2).1.int_inv
    obtain ⟨a', cap, sz', b, off, f, h1, hcap, hmax, hszs, ha, hc, hv⟩ := RT.slice_inv h1
    have hne : es ≠ [] := by intro h; subst h; simp at hm1
    have hele : es[m.toNat]? = some (el es m.toNat) := by
      unfold el; rw [List.getD, List.getElem?_eq_getElem hm1]; rfl
    have hszz : sz' = sz := by rw [← hel]; exact (hszs _ (List.mem_of_getElem? hele)).symm
    subst hszz
    rw [ha hne] at h1
    refine Good.pure R (x := .pointer (some ⟨b, off + m.toNat * sz', none⟩)) ?_ ?_ rfl
    · have hc' : 0 ≤ m ∧ m < (es.length : Int) := ⟨hm0, by omega⟩
      simp [execOp, ho, h1, h2, Instr.indexAt, asIntOf, underlying, hty, hc', sizeT_run hsz, hadd]
    · refine .c ⟨b, off + m.toNat * sz', fun j => f m.toNat j, by simp, fun j t ht => ?_⟩
      have hj : j < sz' := by rw [← hel]; exact (List.getElem?_eq_some_iff.1 ht).1
      exact ⟨(hc _ _ hm1 hj).1, (hc _ _ hm1 hj).2, hv _ _ _ _ hele ht⟩
  · rename_i b sz' off len k m
    simp only [Option.some.injEq, Prod.mk.injEq] at he
    obtain ⟨rfl, rfl, rfl⟩ := he
    obtain ⟨hp1, hp2, hm0, hm1, rfl⟩ := hp
    have hg := get_sound R hx hgx hp1
    have h1 := hg.1.c_inv
    have h2 := (get_sound R hi hgi hp2).1.int_inv
    obtain ⟨a', h1, ha, hle⟩ := RC.arr_inv h1
    rw [ha (by omega)] at h1
    refine Good.pure R (x := .pointer (some ⟨(φ b).1, off * sz + m.toNat * sz, none⟩)) ?_ (.c ?_) (by simpa [V.bnd, C.bnd] using hg.2)
    · have hc' : 0 ≤ m ∧ m < (len : Int) := ⟨hm0, by omega⟩
      simp [execOp, ho, h1, h2, Instr.indexAt, asIntOf, underlying, hty, hc', sizeT_run hsz, hadd]
    · simp [RC, Nat.add_mul]
  · cases he

theorem sound_idxS (R : Rel Γ nt φ S env σ n a w) {o : Oper} {ty : TypeId} {x i : Operand} (ho : o.op = .index ty x i) (hty : P.underlying ty = some .string)
    {ax ai : AO} (hx : opd x = some ax) (hi : opd i = some ai)
    {p v σ'} (hk : n key = false) (h : aval (.idxS ax ai) env σ key = some (p, v, σ')) (hp : p) : Good P Γ nt env σ' (ins n key) a v ((execOp a.eval o).run P w) := by
  simp only [aval, Option.bind_eq_some_iff] at h
  obtain ⟨⟨px, vx⟩, hgx, ⟨pi, vi⟩, hgi, he⟩ := h
  simp only at he
  split at he
  · rename_i s k m
    simp only [Option.some.injEq, Prod.mk.injEq] at he
    obtain ⟨rfl, rfl, rfl⟩ := he
    obtain ⟨hp1, hp2, hm0, hm1⟩ := hp
    obtain ⟨bs, h1, rfl, hs⟩ := (get_sound R hx hgx hp1).1.str_inv
    have h2 := (get_sound R hi hgi hp2).1.int_inv
    have hlt : m.toNat < bs.size := by rw [← size_data]; exact hm1
    refine Good.pure R (x := .int .u8 (bs.data.toList.getD m.toNat 0).toNat) ?_ (.intI _ _) rfl
    have hb : bs[m.toNat]? = some (bs.data.toList.getD m.toNat 0) := by
      rw [getElem?_pos bs m.toNat hlt]
      congr 1
      simp only [List.getD, List.getElem?_eq_getElem hm1, Option.getD_some, Array.getElem_toList]
      rfl
    simp [execOp, ho, h1, h2, Instr.index, asIntOf, underlying, hty, hm0, hb]
  · cases he

theorem capsOf_sound : ∀ {vs : List V} {l : List Nat} {xs : List Value}, aval.capsOf vs = some l → All2 (RV φ w S) vs xs → V.bnd.V.bnds n vs = true →
    xs = l.map (fun b => Value.pointer (some ⟨(φ b).1, 0, none⟩)) ∧ (l.all fun b => n b) = true
  | [], l, xs, h, ha, hb => by simp [aval.capsOf] at h; subst h; cases ha; simp
  | v :: vs, l, xs, h, ha, hb => by
    cases ha with
    | cons hab ht =>
      unfold aval.capsOf at h
      split at h
      · rename_i e; cases e
      · rename_i b r e
        cases e
        simp only [Option.map_eq_some_iff] at h
        obtain ⟨l', hl', rfl⟩ := h
        simp only [V.bnd.V.bnds, Bool.and_eq_true] at hb
        obtain ⟨rfl, h2⟩ := capsOf_sound hl' ht hb.2
        have := hab.ptr_inv
        subst this
        refine ⟨by simp, ?_⟩
        simp only [List.all_cons, h2, Bool.and_true]
        simpa [V.bnd, C.bnd] using hb.1
      · cases h

theorem sound_mkfn (R : Rel Γ nt φ S env σ n a w) {o : Oper} {f : Nat} {caps : Array Operand} (ho : o.op = .makeFunc (.func f) #[] caps) {al : List AO} (hx : opds caps.toList = some al)
    {p v σ'} (hk : n key = false) (h : aval (.mkfn f al) env σ key = some (p, v, σ')) (hp : p) : Good P Γ nt env σ' (ins n key) a v ((execOp a.eval o).run P w) := by
  simp only [aval, Option.bind_eq_some_iff] at h
  obtain ⟨⟨px, vs⟩, hgx, he⟩ := h
  simp only at he
  split at he
  · rename_i l hl
    simp only [Option.some.injEq, Prod.mk.injEq] at he
    obtain ⟨rfl, rfl, rfl⟩ := he
    have hg := gets_sound R hx hgx hp
    obtain ⟨h1, h2⟩ := capsOf_sound hl hg.1 hg.2
    refine Good.pure R (x := .func (.func f) #[] (l.map fun b => Value.pointer (some ⟨(φ b).1, 0, none⟩)).toArray) ?_ (.c rfl) (by simpa [V.bnd, C.bnd] using h2)
    have : caps.map a.eval = (l.map fun b => Value.pointer (some ⟨(φ b).1, 0, none⟩)).toArray := by
      apply Array.ext'
      simpa using h1
    simp [execOp, ho, Instr.makeFunc, this]
  · cases he


theorem getO_sound (R : Rel Γ nt φ S env σ n a w) {x : Option Operand} {ax : Option AO} (hx : opdO x = some ax) {p : Prop} {m : Option Int} (h : getO env ax = some (p, m)) (hp : p) :
    (x.map a.eval = none ∧ m = none) ∨ ∃ k i, x.map a.eval = some (.int k i) ∧ m = some i := by
  cases x with
  | none => simp [opdO] at hx; subst hx; simp [getO] at h; exact .inl ⟨rfl, h.2.symm⟩
  | some x =>
    simp only [opdO, Option.map_eq_some_iff] at hx
    obtain ⟨ao, hao, rfl⟩ := hx
    simp only [getO, Option.bind_eq_some_iff] at h
    obtain ⟨⟨q, v⟩, hq, he⟩ := h
    simp only at he
    split at he
    · simp only [Option.some.injEq, Prod.mk.injEq] at he
      obtain ⟨rfl, rfl⟩ := he
      have := (get_sound R hao hq hp).1.int_inv
      exact .inr ⟨_, _, congrArg some this, rfl⟩
    · cases he

/-- the bounds of a slice expression -/
theorem run_bounds {isSlice : Bool} {len cap : Nat} {lo hi : Option Value} {l h : Option Int} (hlo : (lo = none ∧ l = none) ∨ ∃ k i, lo = some (.int k i) ∧ l = some i) (hhi : (hi = none ∧ h = none) ∨ ∃ k i, hi = some (.int k i) ∧ h = some i)
    (h0 : 0 ≤ l.getD 0) (h1 : l.getD 0 ≤ h.getD len) (h2 : h.getD len ≤ len) (h3 : len ≤ cap) :
    (Instr.sliceBounds isSlice len cap lo hi none).run P w = .ok ((l.getD 0).toNat, (h.getD len).toNat, cap) w := by
  have h4 : h.getD len ≤ (cap : Int) := by omega
  have h5 : 0 ≤ h.getD (len : Int) := by omega
  rcases hlo with ⟨rfl, rfl⟩ | ⟨k, i, rfl, rfl⟩ <;> rcases hhi with ⟨rfl, rfl⟩ | ⟨k', i', rfl, rfl⟩ <;> simp_all [Instr.sliceBounds, Instr.sliceBound, asIntOf]
  · omega

theorem sound_slcS (R : Rel Γ nt φ S env σ n a w) {o : Oper} {ty : TypeId} {x : Operand} {lo hi : Option Operand} (ho : o.op = .slice ty x lo hi none) (hty : P.underlying ty = some .string)
    {ax : AO} {al ah : Option AO} (hx : opd x = some ax) (hlo : opdO lo = some al) (hhi : opdO hi = some ah)
    {p v σ'} (hk : n key = false) (h : aval (.slcS ax al ah) env σ key = some (p, v, σ')) (hp : p) : Good P Γ nt env σ' (ins n key) a v ((execOp a.eval o).run P w) := by
  simp only [aval, Option.bind_eq_some_iff] at h
  obtain ⟨⟨px, vx⟩, hgx, ⟨pl, l⟩, hgl, ⟨ph, h⟩, hgh, he⟩ := h
  simp only at he
  split at he
  · rename_i s
    simp only [Option.some.injEq, Prod.mk.injEq] at he
    obtain ⟨rfl, rfl, rfl⟩ := he
    obtain ⟨hp1, hp2, hp3, h0, h1, h2⟩ := hp
    obtain ⟨bs, hx1, rfl, hs⟩ := (get_sound R hx hgx hp1).1.str_inv
    have hl := getO_sound R hlo hgl hp2
    have hh := getO_sound R hhi hgh hp3
    rw [size_data] at h1 h2
    have hb := run_bounds (P := P) (w := w) (isSlice := false) (cap := bs.size) hl hh h0 h1 h2 (Nat.le_refl _)
    rw [size_data]
    have e : (bs.extract (l.getD 0).toNat (h.getD bs.size).toNat).data.toList = (bs.data.toList.take (h.getD bs.size).toNat).drop (l.getD 0).toNat := by
      simp [ByteArray.data_extract, Array.toList_extract, List.extract, List.drop_take]
    refine Good.pure R (x := .string (bs.extract (l.getD 0).toNat (h.getD bs.size).toNat)) ?_ (.c ?_) rfl
    · simp [execOp, ho, Instr.sliceAt, Instr.slice, underlying, hty, hx1, hb]
    · show RT w S _ _
      rw [← e]
      refine .str _ ?_
      rw [ByteArray.size_extract]; omega
  · cases he

theorem sound_slc (R : Rel Γ nt φ S env σ n a w) {o : Oper} {ty : TypeId} {x : Operand} {lo hi : Option Operand} (ho : o.op = .slice ty x lo hi none) {e : TypeId} (hty : P.underlying ty = some (.slice e)) {sz : Nat} (hsz : sizeT P e = some sz)
    {ax : AO} {al ah : Option AO} (hx : opd x = some ax) (hlo : opdO lo = some al) (hhi : opdO hi = some ah)
    {p v σ'} (hk : n key = false) (h : aval (.slc sz ax al ah) env σ key = some (p, v, σ')) (hp : p) : Good P Γ nt env σ' (ins n key) a v ((execOp a.eval o).run P w) := by
  simp only [aval, Option.bind_eq_some_iff] at h
  obtain ⟨⟨px, vx⟩, hgx, ⟨pl, l⟩, hgl, ⟨ph, h⟩, hgh, he⟩ := h
  simp only at he
  split at he
  · rename_i es
    simp only [Option.some.injEq, Prod.mk.injEq] at he
    obtain ⟨rfl, rfl, rfl⟩ := he
    obtain ⟨hp1, hp2, hp3, h0, h1, h2, hel⟩ := hp
    obtain ⟨a', cap, sz', b, off, f, hx1, hcap, hmax, hszs, ha, hc, hv⟩ := RT.slice_inv (get_sound R hx hgx hp1).1.c_inv
    have hl := getO_sound R hlo hgl hp2
    have hh := getO_sound R hhi hgh hp3
    have hb := run_bounds (P := P) (w := w) (isSlice := true) (cap := cap) hl hh h0 h1 h2 hcap
    generalize hL : (l.getD 0).toNat = L at *
    generalize hH : (h.getD (es.length : Int)).toNat = H at *
    have hLH : L ≤ H := by omega
    have hHl : H ≤ es.length := by omega
    have hlen : ((es.take H).drop L).length = H - L := by simp; omega
    refine Good.pure R (x := .slice (if cap = L then a' else a'.map (·.add (L * sz))) (H - L) (cap - L)) ?_ (.c ?_) rfl
    · simp [execOp, ho, Instr.sliceAt, Instr.slice, underlying, hty, hx1, hb, sizeT_run hsz]
    · show RT w S _ _
      rw [← hlen]
      have hget : ∀ (i : Nat) e, ((es.take H).drop L)[i]? = some e → es[L + i]? = some e ∧ L + i < H := by
        intro i e he
        rw [List.getElem?_drop] at he
        have := (List.getElem?_eq_some_iff.1 he).1
        simp at this
        rw [List.getElem?_take] at he
        rw [if_pos (by omega)] at he
        exact ⟨he, by omega⟩
      by_cases hne : es = []
      · subst hne
        simp
        exact RT.slice [] _ _ 0 0 0 (fun _ _ => undef) (by simp) (by simp [sliceMax]) (by simp) (by simp) (by simp) (by simp)
      · have hszz : sz' = sz := by
          obtain ⟨e0, he0⟩ := List.exists_mem_of_ne_nil es hne
          rw [← hszs _ he0, hel _ he0]
        subst hszz
        refine RT.slice _ _ _ sz' b (off + L * sz') (fun i j => f (L + i) j) (by rw [hlen]; omega) (by rw [hlen]; omega) (fun e he => hel e (List.mem_of_mem_take (List.mem_of_mem_drop he))) ?_ ?_ ?_
        · intro hn
          have : L < H := by
            rcases Nat.lt_or_ge L H with h | h
            · exact h
            · exfalso; apply hn; apply List.eq_nil_of_length_eq_zero; rw [hlen]; omega
          rw [if_neg (by omega), ha hne]
          simp only [Option.map_some, Option.some.injEq]
          unfold Addr.add; split
          · rename_i h; simp [h]
          · rfl
        · intro i j hi hj
          rw [hlen] at hi
          have := hc (L + i) j (by omega) hj
          rw [show off + L * sz' + i * sz' + j = off + (L + i) * sz' + j by rw [Nat.add_mul]; omega]
          exact this
        · intro i j e t he ht
          exact hv _ _ _ _ (hget i e he).1 ht
  · cases he

theorem sound_slc0 (R : Rel Γ nt φ S env σ n a w) {o : Oper} {ty : TypeId} {x : Operand} {k k' : IntKind} (ho : o.op = .slice ty x none (some (.const (.int k 0))) (some (.const (.int k' 0)))) {e : TypeId} (hty : P.underlying ty = some (.slice e))
    {sz : Nat} (hsz : sizeT P e = some sz) {ax : AO} (hx : opd x = some ax)
    {p v σ'} (hk : n key = false) (h : aval (.slc0 ax) env σ key = some (p, v, σ')) (hp : p) : Good P Γ nt env σ' (ins n key) a v ((execOp a.eval o).run P w) := by
  simp only [aval, Option.bind_eq_some_iff] at h
  obtain ⟨⟨px, vx⟩, hgx, he⟩ := h
  simp only at he
  have hrun : ∀ (a' : Option Addr) (l c : Nat), a.eval x = .slice a' l c → ∃ a2, (execOp a.eval o).run P w = .ok (.value (.slice a2 0 0)) w := by
    intro a' l c hx1
    have e0 : ∀ v, a.eval (.const v) = v := fun _ => rfl
    exact ⟨_, by simp [execOp, ho, Instr.sliceAt, Instr.slice, underlying, hty, hx1, sizeT_run hsz, Instr.sliceBounds, Instr.sliceBound, asIntOf, e0]; rfl⟩
  split at he <;> simp only [Option.some.injEq, Prod.mk.injEq, reduceCtorEq] at he
  all_goals
    obtain ⟨rfl, rfl, rfl⟩ := he
    have h1 := (get_sound R hx hgx hp).1.c_inv
  · obtain ⟨a', cap, sz', b, off, f, hx1, _⟩ := RT.slice_inv h1
    obtain ⟨a2, h2⟩ := hrun _ _ _ hx1
    exact Good.pure R h2 (.c ⟨a2, rfl⟩) rfl
  · obtain ⟨a', hx1⟩ := h1
    obtain ⟨a2, h2⟩ := hrun _ _ _ hx1
    exact Good.pure R h2 (.c ⟨a2, rfl⟩) rfl
  · obtain ⟨a', hx1, _⟩ := RC.arr_inv h1
    obtain ⟨a2, h2⟩ := hrun _ _ _ hx1
    exact Good.pure R h2 (.c ⟨a2, rfl⟩) rfl

end
end Go.Proofs.Ytkdepbmeaiefeaa.Shv
