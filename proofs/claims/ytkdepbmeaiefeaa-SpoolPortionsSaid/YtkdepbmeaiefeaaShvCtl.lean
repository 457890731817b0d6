/- The abstract machine, part 12: regions, code, calls. -/
import Derived.Test.YtkdepbmeaiefeaaShvStep
import Derived.Orders
namespace Go.Proofs.Ytkdepbmeaiefeaa.Shv
set_option linter.all false
open Go

def insR (n : Nat → Bool) (k : Nat) : Nat → Bool := fun b => n b || (decide (k ≤ b) && decide (b < k + 16))

/-- a call, as the machine sees it -/
def ACall (P : Program) (f : Nat) (args : List V) (σ : Store) (key : Nat) (K : V → Store → Prop) : Prop :=
  ∀ Γ nt φ S env n a w, Rel Γ nt φ S env σ n a w → (∀ b, key ≤ b → b < key + 16 → n b = false) → V.bnd.V.bnds n args = true → ∀ vs : List Value, All2 (RV φ w S) args vs →
    Calls P f vs.toArray w fun e w' => ∃ v r φ' S' σ', e = .returned v ∧ K r σ' ∧ RV φ' w' S' r v ∧ r.bnd (insR n key) = true ∧ Rel Γ nt φ' S' env σ' (insR n key) a w'

theorem ACall.mono {P : Program} {f : Nat} {args : List V} {σ : Store} {key : Nat} {K K' : V → Store → Prop} (h : ACall P f args σ key K) (hk : ∀ r σ', K r σ' → K' r σ') : ACall P f args σ key K' :=
  fun Γ nt φ S env n a w R hn hb vs hv => (h Γ nt φ S env n a w R hn hb vs hv).mono fun e w' ⟨v, r, φ', S', σ', h1, h2, h3⟩ => ⟨v, r, φ', S', σ', h1, hk _ _ h2, h3⟩

def aguard (env : Env) : Option (Nat × Bool) → Option Bool
  | none => some true
  | some (t, b) => match look env t with
    | some (g, .c (.t (.bool x))) => some (g && (x == b))
    | _ => none

def bindDst (env : Env) (dst : Option Nat) (g : Bool) (v : V) : Env :=
  match dst with
  | none => env
  | some d => (d, g, v) :: env

def boolV (b : Bool) : V := .c (.t (.bool b))

def astep (P : Program) (o : AOper) (key : Nat) (env : Env) (σ : Store) (K : Env → Store → Prop) : Prop :=
  match aguard env o.guard with
  | none => False
  | some g => (g = false ∧ ∃ v, K (bindDst env o.dst g v) σ) ∨
    match o.op with
    | .call f args => match gets env args with
      | some (p, vs) => match o.guard with
        | none => p ∧ ACall P f vs σ key (fun r σ' => K (bindDst env o.dst true r) σ')
        | some _ => ∃ r, (g = true → p ∧ ACall P f vs σ key (fun r' σ' => r' = r ∧ σ' = σ)) ∧ K (bindDst env o.dst g r) σ
      | none => False
    | .callv x args => match x.get env, gets env args with
      | some (q, .c (.fn f caps)), some (p, vs) => o.guard = none ∧ hasBody P f = true ∧ q ∧ p ∧ ACall P f (vs ++ caps.map (fun b => V.c (.ptr b 0))) σ key (fun r σ' => K (bindDst env o.dst true r) σ')
      | _, _ => False
    | .eqNil neg x => match x.get env with
      | some (p, .c (.t (.slice es))) => o.guard = none ∧ p ∧ ∀ b : Bool, (es ≠ [] → b = false) → K (bindDst env o.dst true (boolV (if neg then !b else b))) σ
      | some (p, .c .cap0) => o.guard = none ∧ p ∧ ∀ b : Bool, K (bindDst env o.dst true (boolV (if neg then !b else b))) σ
      | some (p, .c (.arr _ _ _ l)) => o.guard = none ∧ p ∧ ∀ b : Bool, (l ≠ 0 → b = false) → K (bindDst env o.dst true (boolV (if neg then !b else b))) σ
      | _ => False
    | op => match aval op env σ key with
      | some (p, v, σ') => (g = true → p) ∧ (op.neutral = true ∨ g = true) ∧ K (bindDst env o.dst g v) (if op.neutral then σ else σ')
      | none => False

def aops (P : Program) : List AOper → Nat → Env → Store → (Env → Store → Prop) → Prop
  | [], _, env, σ, K => K env σ
  | o :: r, key, env, σ, K => astep P o key env σ fun env' σ' => aops P r (key + 16) env' σ' K

theorem astep_mono {P : Program} {o : AOper} {key : Nat} {env : Env} {σ : Store} {K K' : Env → Store → Prop} (hk : ∀ e s, K e s → K' e s) (h : astep P o key env σ K) : astep P o key env σ K' := by
  unfold astep at *
  split at h
  · exact h.elim
  · rcases h with ⟨h1, v, h2⟩ | h
    · exact .inl ⟨h1, v, hk _ _ h2⟩
    refine .inr ?_
    split at h
    · split at h
      · split at h
        · exact ⟨h.1, h.2.mono fun _ _ => hk _ _⟩
        · obtain ⟨r, h1, h2⟩ := h; exact ⟨r, h1, hk _ _ h2⟩
      · exact h.elim
    · split at h
      · exact ⟨h.1, h.2.1, h.2.2.1, h.2.2.2.1, h.2.2.2.2.mono fun _ _ => hk _ _⟩
      · exact h.elim
    · split at h
      · exact ⟨h.1, h.2.1, fun b hb => hk _ _ (h.2.2 b hb)⟩
      · exact ⟨h.1, h.2.1, fun b => hk _ _ (h.2.2 b)⟩
      · exact ⟨h.1, h.2.1, fun b hb => hk _ _ (h.2.2 b hb)⟩
      · exact h.elim
    · split at h
      · exact ⟨h.1, h.2.1, hk _ _ h.2.2⟩
      · exact h.elim

section
variable {P : Program} {Γ : Ctx} {nt : Nat} {φ : Phi} {S : Stab} {env : Env} {σ : Store} {n : Nat → Bool} {key : Nat} {a : Act} {w : World}

theorem insR_of {b : Nat} (h : n b = true) : insR n key b = true := by simp [insR, h]
theorem insR_ins {b : Nat} (h : ins n key b = true) : insR n key b = true := by
  simp only [ins, insR, Bool.or_eq_true, beq_iff_eq, Bool.and_eq_true, decide_eq_true_eq] at *
  rcases h with h | h
  · exact .inl h
  · exact .inr (by omega)

theorem look_bind {dst : Option Nat} {g : Bool} {v : V} {k : Nat} : look (bindDst env dst g v) k = if dst = some k then some (g, v) else look env k := by
  unfold bindDst
  cases dst with
  | none => simp
  | some d => simp [look]

theorem Rel.bindv (R : Rel Γ nt φ S env σ n a w) {dst : Option Nat} (hd : ∀ d, dst = some d → d < nt) {g : Bool} {x : Value} {v : V} (hx : g = true → RV φ w S v x) (hu : g = false → x = undef) (hb : g = true → v.bnd n = true) :
    Rel Γ nt φ S (bindDst env dst g v) σ n (a.put dst x) w := by
  have hput : ∀ k : Nat, (a.put dst x).tmps[k]? = if dst = some k then some x else a.tmps[k]? := by
    intro k
    cases dst with
    | none => simp [Act.put]
    | some d =>
      have hlt : d < a.tmps.size := by rw [R.size]; exact hd d rfl
      simp only [Act.put, Array.getElem?_setIfInBounds, Option.some.injEq]
      by_cases h : d = k
      · subst h; simp [hlt]
      · simp [h]
  refine ⟨R.sim, fun k g' v' hl hg => ?_, fun k g' v' hl hg => ?_, fun k g' v' hl hg => ?_, R.sbnd, ?_, ?_, R.ext, R.own, R.fix, R.kn⟩
  · rw [look_bind] at hl; rw [hput]
    split at hl
    · rename_i h; cases hl; rw [if_pos h]; exact ⟨x, rfl, hx hg⟩
    · rename_i h; rw [if_neg h]; exact R.envs k g' v' hl hg
  · rw [look_bind] at hl; rw [hput]
    split at hl
    · rename_i h; cases hl; rw [if_pos h, hu hg]
    · rename_i h; rw [if_neg h]; exact R.envn k g' v' hl hg
  · rw [look_bind] at hl
    split at hl
    · cases hl; exact hb hg
    · exact R.ebnd k g' v' hl hg
  · cases dst <;> simp [Act.put, R.size]
  · cases dst <;> simp [Act.put, R.defers]

theorem guard_sound (R : Rel Γ nt φ S env σ n a w) {ops : Array Oper} {o : Oper} {gd : Option (Nat × Bool)} (hr : resolveGuard ops o.guard = some gd) {g : Bool} (hg : aguard env gd = some g) : Region.wanted o (yielded ops a.tmps) = g := by
  unfold Region.wanted
  cases hog : o.guard with
  | none =>
    rw [hog] at hr
    simp [resolveGuard] at hr
    subst hr
    simp [aguard] at hg
    subst hg; rfl
  | some jb =>
    obtain ⟨j, b⟩ := jb
    rw [hog] at hr
    simp only [resolveGuard, Option.map_eq_some_iff] at hr
    obtain ⟨d, hd, rfl⟩ := hr
    simp only [aguard] at hg
    split at hg
    · rename_i g' x hl
      simp only [Option.some.injEq] at hg
      subst hg
      simp only [yielded, hd, Option.bind_some]
      cases hg' : g' with
      | true =>
        obtain ⟨y, hy, hr⟩ := R.envs d g' _ hl hg'
        have := hr.bool_inv
        subst this
        simp only [hy]
        cases x <;> cases b <;> rfl
      | false =>
        have := R.envn d g' _ hl hg'
        simp only [this]
        cases x <;> rfl
    · cases hg

def Post (Γ : Ctx) (nt : Nat) (n : Nat → Bool) (K : Env → Store → Prop) (a : Act) (w : World) : Prop := ∃ φ S env σ, K env σ ∧ Rel Γ nt φ S env σ n a w

theorem hasBody_inv {f : Nat} (h : hasBody P f = true) : ∃ fn, P.funcs[f]? = some fn ∧ fn.body.isSome = true ∧ (fn.name == "runtime.NumGoroutine") = false := by
  unfold hasBody at h
  split at h
  · rename_i fn hf
    simp only [Bool.and_eq_true, Bool.not_eq_true'] at h
    exact ⟨fn, hf, h.1, h.2⟩
  · cases h

theorem callFunc_run {f : Nat} (h : hasBody P f = true) (args : Array Value) (w : World) : (callFunc f args).run P w = .ok (.enter f args) w := by
  obtain ⟨fn, h1, h2, h3⟩ := hasBody_inv h
  obtain ⟨c, hc⟩ := Option.isSome_iff_exists.1 h2
  simp only [callFunc, Sem.run_bind, run_program, Result.andThen_ok, h1, h3, hc, Bool.false_eq_true, if_false, Option.isNone_some, Sem.run_pure]

theorem neutral_store {o : AOp} (h : o.neutral = true) {p v σ'} (ha : aval o env σ key = some (p, v, σ')) : σ' = σ := by
  cases o <;> simp only [AOp.neutral, reduceCtorEq, Bool.false_eq_true] at h <;> simp only [aval, Option.bind_eq_some_iff, Option.map_eq_some_iff, Prod.mk.injEq] at ha
  all_goals
    (try (obtain ⟨a1, h1, ha⟩ := ha))
    (try (obtain ⟨a2, h2, ha⟩ := ha))
    (try (obtain ⟨a3, h3, ha⟩ := ha))
    (try dsimp only at ha)
    (try split at ha)
    (try (simp_all; done))
    (try split at ha)
    (try (simp_all; done))
    (try (obtain ⟨_, _, _, _, rfl⟩ := ha; rfl))
  all_goals first
    | (cases ha; rfl)
    | (cases ha; done)
    | (simp only [Option.map_eq_some_iff, Prod.mk.injEq] at ha; obtain ⟨_, _, _, _, rfl⟩ := ha; rfl)
    | (split at ha <;> first
        | (cases ha; rfl)
        | (cases ha; done)
        | (simp only [Option.map_eq_some_iff, Prod.mk.injEq] at ha; obtain ⟨_, _, _, _, rfl⟩ := ha; rfl))
    | skip

theorem resolveOper_inv {ops : Array Oper} {o : Oper} {ao : AOper} (h : resolveOper P nt ops o = some ao) :
    resolveOp P o.op = some ao.op ∧ resolveGuard ops o.guard = some ao.guard ∧ ao.dst = o.dst ∧ ∀ d, ao.dst = some d → d < nt := by
  simp only [resolveOper, Option.bind_eq_some_iff] at h
  obtain ⟨p, hp, g, hg, h⟩ := h
  split at h
  · rename_i hd
    cases h; exact ⟨hp, hg, hd.symm, by simp⟩
  · rename_i d hd
    simp only [Option.ite_none_right_eq_some, Option.some.injEq] at h
    obtain ⟨hlt, rfl⟩ := h
    exact ⟨hp, hg, hd.symm, fun d' h => by cases h; exact hlt⟩

theorem guard_none {ops : Array Oper} {o : Oper} {g : Option (Nat × Bool)} (h : resolveGuard ops o.guard = some g) (hg : g = none) : o.guard = none := by
  subst hg
  cases ho : o.guard with
  | none => rfl
  | some x =>
    rw [ho] at h; obtain ⟨j, b⟩ := x
    simp only [resolveGuard, Option.map_eq_some_iff] at h
    obtain ⟨d, _, h⟩ := h; cases h

theorem resolve_call_inv {op : Op} {f : Nat} {args : List AO} (h : resolveOp P op = some (.call f args)) : ∃ c, op = .call c ∧ resolveCall P c = some (.call f args) := by
  cases op with
  | call c => exact ⟨c, rfl, h⟩
  | unOp u t x => exfalso; cases u <;> simp [resolveOp] at h
  | makeFunc fn b c => exfalso; cases fn <;> simp [resolveOp] at h
  | _ =>
    exfalso
    simp only [resolveOp] at h
    (repeat' split at h) <;> (first | (cases h; done) | simp [Option.bind_eq_some_iff, Option.map_eq_some_iff] at h)

theorem resolve_callv_inv {op : Op} {x : AO} {args : List AO} (h : resolveOp P op = some (.callv x args)) : ∃ c, op = .call c ∧ resolveCall P c = some (.callv x args) := by
  cases op with
  | call c => exact ⟨c, rfl, h⟩
  | unOp u t x => exfalso; cases u <;> simp [resolveOp] at h
  | makeFunc fn b c => exfalso; cases fn <;> simp [resolveOp] at h
  | _ =>
    exfalso
    simp only [resolveOp] at h
    (repeat' split at h) <;> (first | (cases h; done) | simp [Option.bind_eq_some_iff, Option.map_eq_some_iff] at h)

theorem resolveCall_call {c : Call} {f : Nat} {args : List AO} (h : resolveCall P c = some (.call f args)) : c.callee = .value (.func f) ∧ hasBody P f = true ∧ opds c.args.toList = some args := by
  unfold resolveCall at h
  (repeat' split at h) <;> simp [Option.bind_eq_some_iff, Option.map_eq_some_iff] at h
  rename_i hc hb
  obtain ⟨h, rfl⟩ := h
  exact ⟨hc, hb, h⟩

theorem resolveCall_callv {c : Call} {x : AO} {args : List AO} (h : resolveCall P c = some (.callv x args)) : ∃ t, x = .tmp t ∧ c.callee = .value (.tmp t) ∧ opds c.args.toList = some args := by
  unfold resolveCall at h
  (repeat' split at h) <;> simp [Option.bind_eq_some_iff, Option.map_eq_some_iff] at h
  rename_i t hc
  exact ⟨t, h.2.symm, hc, h.1⟩

theorem resolve_eqNil_inv {op : Op} {neg : Bool} {x : AO} (h : resolveOp P op = some (.eqNil neg x)) :
    ∃ bo t y z yt e, op = .binOp bo t y z yt ∧ (bo = .eql ∨ bo = .neq) ∧ neg = (bo == .neq) ∧ P.underlying t = some (.slice e) ∧ isNilConst z = true ∧ opd y = some x := by
  cases op with
  | binOp bo t y z yt =>
    simp only [resolveOp] at h
    (repeat' split at h) <;> (try (cases h; done)) <;> simp only [Option.bind_eq_some_iff, Option.map_eq_some_iff, AOp.eqNil.injEq, reduceCtorEq, and_false, exists_false, exists_const] at h
    rename_i hop _ _ hu hz
    obtain ⟨ax, h1, h2, rfl⟩ := h
    exact ⟨bo, t, y, z, yt, _, rfl, hop, h2.symm, hu, hz, h1⟩
  | call c =>
    exfalso
    simp only [resolveOp] at h
    unfold resolveCall at h
    (repeat' split at h) <;> (first | (cases h; done) | simp [Option.bind_eq_some_iff, Option.map_eq_some_iff] at h)
  | unOp u t x => exfalso; cases u <;> simp [resolveOp] at h
  | makeFunc fn b c => exfalso; cases fn <;> simp [resolveOp] at h
  | _ =>
    exfalso
    simp only [resolveOp] at h
    (repeat' split at h) <;> (first | (cases h; done) | simp [Option.bind_eq_some_iff, Option.map_eq_some_iff] at h)

/-- the model's run of a call by a function's value -/
theorem run_call {o : Oper} {c : Call} (ho : o.op = .call c) {x : Operand} (hc : c.callee = .value x) {f : Nat} {caps : List Value} (hx : a.eval x = .func (.func f) #[] caps.toArray) (hb : hasBody P f = true) :
    (execOp a.eval o).run P w = .ok (.enter f (c.args.toList.map a.eval ++ caps).toArray) w := by
  have e : (c.args.map a.eval ++ caps.toArray) = (c.args.toList.map a.eval ++ caps).toArray := by apply Array.ext'; simp
  simp only [execOp, ho, Go.resolve, hc, hx, Deferred.ofValue, Sem.run_bind, Sem.run_pure, Result.andThen_ok, invoke]
  rw [show (#[] ++ c.args.map a.eval) = c.args.map a.eval by simp, e]
  exact callFunc_run hb _ _

theorem Calls.next {f : Nat} {args : Array Value} {key : Nat} {K : Env → Store → Prop} {dst : Option Nat} {Q : Exit → Act → World → Prop} {o : Oper} (hdst : dst = o.dst) (hd : ∀ d, dst = some d → d < nt) {g : Bool} (hg : g = true) {K2 : V → Store → Prop}
    (hK : ∀ r s, K2 r s → K (bindDst env dst g r) s)
    (h : Calls P f args w fun e w' => ∃ v r φ' S' σ', e = .returned v ∧ K2 r σ' ∧ RV φ' w' S' r v ∧ r.bnd (insR n key) = true ∧ Rel Γ nt φ' S' env σ' (insR n key) a w')
    (hrun : (execOp a.eval o).run P w = .ok (.enter f args) w) : o.wp P a w (Post Γ nt (insR n key) K) Q := by
  unfold Oper.wp
  rw [hrun, Oper.upon_enter]
  refine h.mono ?_
  rintro e w' ⟨v, r, φ', S', σ', rfl, h1, h2, h3, h4⟩
  subst hdst
  exact ⟨φ', S', _, σ', hK _ _ h1, h4.bindv hd (fun _ => h2) (fun h => by rw [hg] at h; cases h) (fun _ => h3)⟩

/-- one operation -/
theorem step_sound (R : Rel Γ nt φ S env σ n a w) (hn : ∀ b, key ≤ b → b < key + 16 → n b = false) {ops : Array Oper} {o : Oper} {ao : AOper} (hr : resolveOper P nt ops o = some ao) {K : Env → Store → Prop} (h : astep P ao key env σ K) {Q : Exit → Act → World → Prop} :
    if Region.wanted o (yielded ops a.tmps) then o.wp P a w (Post Γ nt (insR n key) K) Q else Post Γ nt (insR n key) K (a.put o.dst undef) w := by
  obtain ⟨h1, h2, h3, h4⟩ := resolveOper_inv hr
  have hk : n key = false := hn key (Nat.le_refl _) (by omega)
  unfold astep at h
  split at h
  · exact h.elim
  · rename_i g hg
    have hw := guard_sound R h2 hg
    rw [hw]
    have Runw : ∀ {v : V} {s : Store}, K (bindDst env ao.dst g v) s → s = σ → g = false → Post Γ nt (insR n key) K (a.put o.dst undef) w := by
      intro v s hK hs hgf
      subst hs
      rw [← h3]
      exact ⟨φ, S, _, _, hK, (R.more fun _ h => insR_of h).bindv h4 (fun h => by rw [hgf] at h; cases h) (fun _ => rfl) (fun h => by rw [hgf] at h; cases h)⟩
    rcases h with ⟨hgf, v, hK⟩ | h
    · rw [hgf]
      simp only [Bool.false_eq_true, if_false]
      exact Runw hK rfl hgf
    split at h
    · -- a call
      rename_i f args hop
      rw [hop] at h1
      have hcall : ∃ c, o.op = .call c ∧ c.callee = .value (.func f) ∧ hasBody P f = true ∧ opds c.args.toList = some args := by
        obtain ⟨c, hc, hr⟩ := resolve_call_inv h1
        exact ⟨c, hc, resolveCall_call hr⟩
      obtain ⟨c, hc1, hc2, hb, hargs⟩ := hcall
      split at h
      · rename_i p vs hgs
        have hrun : ∀ w' : World, (execOp a.eval o).run P w = .ok (.enter f (c.args.toList.map a.eval).toArray) w := by
          intro _
          have := run_call (P := P) (w := w) (a := a) hc1 hc2 (f := f) (caps := []) rfl hb
          simpa using this
        split at h
        · rename_i hgn
          have hgt : g = true := by rw [hgn] at hg; simp [aguard] at hg; exact hg
          subst hgt
          obtain ⟨hp, hA⟩ := h
          obtain ⟨g1, g2⟩ := gets_sound R hargs hgs hp
          exact Calls.next h3 h4 rfl (fun _ _ h => h) (hA Γ nt φ S env n a w R hn g2 _ g1) (hrun w)
        · obtain ⟨r, hA, hK⟩ := h
          cases hgv : g with
          | true =>
            obtain ⟨hp, hA⟩ := hA hgv
            obtain ⟨g1, g2⟩ := gets_sound R hargs hgs hp
            simp only [if_true]
            refine Calls.next (K2 := fun r' σ' => r' = r ∧ σ' = σ) h3 h4 hgv (fun r' s hh => ?_) (hA Γ nt φ S env n a w R hn g2 _ g1) (hrun w)
            obtain ⟨rfl, rfl⟩ := hh
            exact hK
          | false =>
            simp only [Bool.false_eq_true, if_false]
            exact Runw hK rfl hgv
      · exact h.elim
    · rename_i x args hop
      rw [hop] at h1
      obtain ⟨c, hc1, hr⟩ := resolve_callv_inv h1
      obtain ⟨t, rfl, hc2, hargs⟩ := resolveCall_callv hr
      split at h
      · rename_i q f caps p vs hgx hgs
        obtain ⟨hgn, hb, hq, hp, hA⟩ := h
        have hgt : g = true := by rw [hgn] at hg; simp [aguard] at hg; exact hg
        subst hgt
        obtain ⟨g1, g2⟩ := gets_sound R hargs hgs hp
        have hx := get_sound (x := .tmp t) R rfl hgx hq
        have hxe : a.eval (.tmp t) = .func (.func f) #[] (caps.map fun b => Value.pointer (some ⟨(φ b).1, 0, none⟩)).toArray := hx.1.c_inv
        have hcaps : All2 (RV φ w S) (caps.map fun b => V.c (.ptr b 0)) (caps.map fun b => Value.pointer (some ⟨(φ b).1, 0, none⟩)) := by
          refine All2.of_get (by simp) ?_
          intro i v x h1 h2
          simp only [List.getElem?_map, Option.map_eq_some_iff] at h1 h2
          obtain ⟨b, hb1, rfl⟩ := h1
          obtain ⟨b', hb2, rfl⟩ := h2
          rw [hb1] at hb2; cases hb2
          exact .c rfl
        have hcb : V.bnd.V.bnds n (vs ++ caps.map fun b => V.c (.ptr b 0)) = true := by
          refine bnds_of_get ?_
          intro i v hv
          by_cases hi : i < vs.length
          · rw [List.getElem?_append_left hi] at hv; exact bnds_get g2 hv
          · rw [List.getElem?_append_right (by omega)] at hv
            simp only [List.getElem?_map, Option.map_eq_some_iff] at hv
            obtain ⟨b, hb1, rfl⟩ := hv
            have hh := hx.2
            simp only [V.bnd, C.bnd, List.all_eq_true] at hh ⊢
            exact hh b (List.mem_of_getElem? hb1)
        exact Calls.next h3 h4 rfl (fun _ _ h => h) (hA Γ nt φ S env n a w R hn hcb _ (g1.append hcaps)) (run_call hc1 hc2 hxe hb)
      · exact h.elim
    · rename_i neg x hop
      rw [hop] at h1
      obtain ⟨bo, ty, y, z, yt, e, hoo, hbo, rfl, hu, hz, hy⟩ := resolve_eqNil_inv h1
      have key0 : ∀ (b : Bool) (ad : Option Addr) (l c : Nat), a.eval y = .slice ad l c → ad.isNone = b → (execOp a.eval o).run P w = .ok (.value (.bool (if (bo == .neq) then !b else b))) w := by
        intro b ad l c hv hb
        subst hb
        obtain ⟨z', hz', hz2⟩ : ∃ z' : Value, a.eval z = z' ∧ z' = .slice none 0 0 := by
          unfold isNilConst at hz
          split at hz
          · exact ⟨_, rfl, rfl⟩
          · cases hz
        subst hz2
        have eg : (eqGuard bo ty y z (a.eval y) (a.eval z)).run P w = .ok () w := eqGuard_run (by rw [hv]; simp) (by rw [hv]; simp)
        have ee : (Op.equal ty (.slice ad l c) (.slice none 0 0)).run P w = .ok ad.isNone w := by
          obtain ⟨d, hd⟩ : ∃ d, Op.maxDepth = d + 1 := ⟨9999, rfl⟩
          unfold Op.equal
          rw [hd]
          unfold Op.equalIn
          cases ad with
          | none => simp only [Sem.run_bind, run_underlying hu, Result.andThen_ok]; rfl
          | some ad => simp only [Sem.run_bind, run_underlying hu, Result.andThen_ok]; rfl
        have ev : (binOp bo ty (a.eval y) (a.eval z)).run P w = .ok (.bool (if (bo == .neq) then !ad.isNone else ad.isNone)) w := by
          rcases hbo with rfl | rfl
          · rw [hv, hz']; simp only [binOp, Sem.run_bind, ee]; rfl
          · rw [hv, hz']; simp only [binOp, Sem.run_bind, ee]; rfl
        simp [execOp, hoo, eg, ev]
      have fin : ∀ (b : Bool) (ad : Option Addr) (l c : Nat), o.guard = none → a.eval y = .slice ad l c → ad.isNone = b → K (bindDst env ao.dst true (boolV (if (bo == .neq) then !b else b))) σ →
          (if g = true then o.wp P a w (Post Γ nt (insR n key) K) Q else Post Γ nt (insR n key) K (a.put o.dst undef) w) := by
        intro b ad l c hgn hv hb hK
        have hgt : g = true := by
          have : Region.wanted o (yielded ops a.tmps) = true := by simp [Region.wanted, hgn]
          rw [← hw]; exact this
        rw [if_pos hgt]
        unfold Oper.wp
        rw [key0 b ad l c hv hb]
        show Post Γ nt (insR n key) K (a.put o.dst _) w
        rw [← h3]
        exact ⟨φ, S, _, _, hK, (R.more fun _ h => insR_of h).bindv h4 (fun _ => .boolI _) (fun h => by cases h) (fun _ => rfl)⟩
      split at h
      · rename_i p es hgx
        obtain ⟨hgn, hp, hK⟩ := h
        obtain ⟨ad, cap, sz, b, off, f, hv, _, _, _, hne, _⟩ := RT.slice_inv (get_sound R hy hgx hp).1.c_inv
        exact fin ad.isNone ad _ _ (guard_none h2 hgn) hv rfl (hK _ fun h => by rw [hne h]; rfl)
      · rename_i p hgx
        obtain ⟨hgn, hp, hK⟩ := h
        obtain ⟨ad, hv⟩ := (get_sound R hy hgx hp).1.c_inv
        exact fin ad.isNone ad _ _ (guard_none h2 hgn) hv rfl (hK _)
      · rename_i p b sz off l hgx
        obtain ⟨hgn, hp, hK⟩ := h
        obtain ⟨ad, hv, ha, hle⟩ := RC.arr_inv (get_sound R hy hgx hp).1.c_inv
        exact fin ad.isNone ad _ _ (guard_none h2 hgn) hv rfl (hK _ fun h => by rw [ha (by omega)]; rfl)
      · exact h.elim
    · rename_i hc1 hc2 hc3
      split at h
      · rename_i p v σ' ha
        obtain ⟨hp, hne, hK⟩ := h
        cases hgv : g with
        | true =>
          simp only [if_true]
          obtain ⟨x, φ', S', w', hres, hrv, hbn, R'⟩ := aval_sound R h1 hk ha (hp hgv)
          have hσ : (if ao.op.neutral = true then σ else σ') = σ' := by
            split
            · rename_i hneu; exact (neutral_store hneu ha).symm
            · rfl
          rw [hσ] at hK
          have fin : Post Γ nt (insR n key) K (a.put o.dst x) w' := by
            rw [← h3]
            exact ⟨φ', S', _, _, hK, (R'.more fun _ h => insR_ins h).bindv h4 (fun _ => hrv) (fun h => by rw [hgv] at h; cases h) (fun _ => V.bnd_mono (fun _ h => insR_ins h) hbn)⟩
          unfold Oper.wp
          rcases hres with hres | ⟨hres, rfl⟩
          · rw [hres]; exact fin
          · rw [hres]; exact fin
        | false =>
          simp only [Bool.false_eq_true, if_false]
          rcases hne with hne | hne
          · rw [if_pos hne] at hK
            exact Runw hK rfl hgv
          · rw [hgv] at hne; cases hne
      · exact h.elim

end
end Go.Proofs.Ytkdepbmeaiefeaa.Shv
