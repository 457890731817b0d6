/- The abstract machine, part 15: freezing an array, contracts of functions. -/
import Derived.Test.YtkdepbmeaiefeaaShvCon
namespace Go.Proofs.Ytkdepbmeaiefeaa.Shv
set_option linter.all false
open Go

/-- a part of an array's elements as an immutable slice -/
def cut (es : List (List T)) (off len : Nat) : List (List T) := if off = 0 ∧ len = es.length then es else (es.drop off).take len

def C.frz (b0 sz0 : Nat) (es : List (List T)) : C → C
  | .arr b sz off len => if b = b0 then (if sz = sz0 ∧ off + len ≤ es.length then .t (.slice (cut es off len)) else .dead) else .arr b sz off len
  | .eptr b sz i o => if b = b0 then .dead else .eptr b sz i o
  | c => c

def V.frz (b0 sz0 : Nat) (es : List (List T)) : V → V
  | .c x => .c (x.frz b0 sz0 es)
  | .agg cs => .agg (cs.map (C.frz b0 sz0 es))
  | .tup vs => .tup (go b0 sz0 es vs)
where go (b0 sz0 : Nat) (es : List (List T)) : List V → List V
  | [] => []
  | v :: vs => v.frz b0 sz0 es :: go b0 sz0 es vs

def Blk.frz (b0 sz0 : Nat) (es : List (List T)) : Blk → Blk
  | .box cs => .box (cs.map (C.frz b0 sz0 es))
  | .arr sz l => .arr sz l

def frzEnv (b0 sz0 : Nat) (es : List (List T)) : Env → Env
  | [] => []
  | (k, g, v) :: r => (k, g, v.frz b0 sz0 es) :: frzEnv b0 sz0 es r

def frzSt (b0 sz0 : Nat) (es : List (List T)) : Store → Store
  | [] => []
  | (k, x) :: r => if k = b0 then frzSt b0 sz0 es r else (k, x.frz b0 sz0 es) :: frzSt b0 sz0 es r

section
variable {P : Program} {Γ : Ctx} {nt kk : Nat} {φ : Phi} {S : Stab} {env : Env} {σ : Store} {N : Nat} {n : Nat → Bool} {a : Act} {w : World}

theorem look_frz {b0 sz0 : Nat} {es : List (List T)} : ∀ {env : Env} {k : Nat}, look (frzEnv b0 sz0 es env) k = (look env k).map fun x => (x.1, x.2.frz b0 sz0 es)
  | [], k => rfl
  | (i, g, v) :: r, k => by
    simp only [frzEnv, look]
    split
    · rfl
    · exact look_frz

theorem sget_frz {b0 sz0 : Nat} {es : List (List T)} : ∀ {σ : Store} {k : Nat}, sget (frzSt b0 sz0 es σ) k = if k = b0 then none else (sget σ k).map (Blk.frz b0 sz0 es)
  | [], k => by simp [frzSt, sget]
  | (i, x) :: r, k => by
    simp only [frzSt, sget]
    by_cases h : i = b0
    · rw [if_pos h, sget_frz]
      by_cases h2 : k = b0
      · rw [if_pos h2, if_pos h2]
      · rw [if_neg h2, if_neg h2, if_neg (by omega)]
    · rw [if_neg h]
      simp only [sget]
      by_cases h2 : i = k
      · subst h2; rw [if_pos rfl, if_neg h, if_pos rfl]; rfl
      · rw [if_neg h2, if_neg h2, sget_frz]

/-- the cells that an array gives up -/
def stabOf (S : Stab) (q : Nat × Nat) : Stab := fun b j => S b j ∨ (q.2 ≠ 0 ∧ b = q.1)

theorem cut_mem {es : List (List T)} {off len : Nat} {e : List T} (h : e ∈ cut es off len) : e ∈ es := by
  unfold cut at h
  split at h
  · exact h
  · exact List.mem_of_mem_drop (List.mem_of_mem_take h)

theorem cut_get {es : List (List T)} {off len i : Nat} {e : List T} (hle : off + len ≤ es.length) (h : (cut es off len)[i]? = some e) : es[off + i]? = some e ∧ i < len := by
  unfold cut at h
  split at h
  · rename_i hc
    obtain ⟨rfl, rfl⟩ := hc
    exact ⟨by simpa using h, (List.getElem?_eq_some_iff.1 h).1⟩
  · rw [List.getElem?_take] at h
    split at h
    · rename_i hi; rw [List.getElem?_drop] at h; exact ⟨h, hi⟩
    · cases h

theorem cut_length {es : List (List T)} {off len : Nat} (hle : off + len ≤ es.length) : (cut es off len).length = len := by
  unfold cut
  split
  · rename_i h; exact h.2.symm
  · simp; omega

theorem C.bnd_true (c : C) : c.bnd (fun _ => true) = true := by cases c <;> simp [C.bnd]

theorem RC.frz {b0 sz0 : Nat} {es : List (List T)} (hB : RB φ w S b0 (.arr sz0 es)) {c : C} {v : Value} (h : RC φ w S c v) : RC φ w (stabOf S (φ b0)) (c.frz b0 sz0 es) v := by
  have m : Mono w S w (stabOf S (φ b0)) := ⟨fun _ _ h => .inl h, fun _ _ _ => rfl⟩
  have ho := RC.oneCell h
  cases c with
  | arr b sz off len =>
    simp only [C.frz]
    by_cases hb : b = b0
    · subst hb
      rw [if_pos rfl]
      split
      · rename_i hc
        obtain ⟨rfl, hle⟩ := hc
        obtain ⟨h1, h2, h3, h4, h5⟩ := hB
        obtain ⟨ad, rfl, ha, hle2⟩ := RC.arr_inv h
        have hl := cut_length hle
        show RT w _ (.slice (cut es off len)) _
        have e1 : Value.slice ad len ((φ b).2 - off) = Value.slice ad (cut es off len).length ((φ b).2 - off) := by rw [hl]
        rw [e1]
        by_cases h0 : (φ b).2 = 0
        · have : cut es off len = [] := List.eq_nil_of_length_eq_zero (by omega)
          rw [this]
          exact RT.slice [] _ _ 0 0 0 (fun _ _ => undef) (by simp) (by simp) (by simp) (by simp) (by simp) (by simp)
        · obtain ⟨vs, E, hh, hvl, hr, hs⟩ := h5 h0
          refine RT.slice _ _ _ sz (φ b).1 (off * sz) (fun i j => (vs.getD ((off + i) * sz + j) undef)) (by omega) (by omega) (fun e he => h3 e (cut_mem he)) (fun _ => ha h0) ?_ ?_
          · intro i j hi hj
            rw [hl] at hi
            refine ⟨.inr ⟨h0, rfl⟩, ?_⟩
            rw [cell_of_heap hh, show off * sz + i * sz + j = (off + i) * sz + j by rw [Nat.add_mul]]
            have hlt : (off + i) * sz + j < vs.length := by
              have := Nat.mul_le_mul_right sz (show off + i + 1 ≤ (φ b).2 by omega)
              rw [Nat.add_mul] at this
              rw [hvl]; omega
            simp [List.getD, List.getElem?_eq_getElem hlt]
          · intro i j e t he ht
            obtain ⟨hei, hi⟩ := cut_get hle he
            obtain ⟨v, hv, hrt⟩ := hr _ _ _ _ hei ht
            simp only [List.getD, hv, Option.getD_some]
            exact RT.mono m hrt
      · exact ho
    · rw [if_neg hb]; exact RC.mono (n := fun _ => true) m (fun _ _ => rfl) (C.bnd_true _) h
  | eptr b sz i o =>
    simp only [C.frz]
    split
    · exact ho
    · exact h
  | _ => exact RC.mono (n := fun _ => true) m (fun _ _ => rfl) (C.bnd_true _) h

theorem frz_go_get {b0 sz0 : Nat} {es : List (List T)} : ∀ {vs : List V} {i : Nat}, (V.frz.go b0 sz0 es vs)[i]? = (vs[i]?).map (V.frz b0 sz0 es)
  | [], i => by simp [V.frz.go]
  | v :: vs, 0 => by simp [V.frz.go]
  | v :: vs, i + 1 => by simp [V.frz.go, frz_go_get]

theorem frz_go_length {b0 sz0 : Nat} {es : List (List T)} : ∀ {vs : List V}, (V.frz.go b0 sz0 es vs).length = vs.length
  | [] => rfl
  | v :: vs => by simp [V.frz.go, frz_go_length]

theorem RV.frz {b0 sz0 : Nat} {es : List (List T)} (hB : RB φ w S b0 (.arr sz0 es)) {v : V} {x : Value} (h : RV φ w S v x) : RV φ w (stabOf S (φ b0)) (v.frz b0 sz0 es) x := by
  induction h with
  | c h => exact .c (RC.frz hB h)
  | agg h => exact .agg (h.map_left fun _ _ => RC.frz hB)
  | tup vs xs hl h ih =>
    refine .tup _ xs (by rw [frz_go_length]; exact hl) ?_
    intro i v x hv hx
    rw [frz_go_get, Option.map_eq_some_iff] at hv
    obtain ⟨v0, hv0, rfl⟩ := hv
    exact ih i v0 x hv0 hx

theorem C.frz_bnd {b0 sz0 : Nat} {es : List (List T)} {c : C} (h : c.bnd n = true) : (c.frz b0 sz0 es).bnd n = true := by
  cases c with
  | arr b sz off len => simp only [C.frz]; split; split; rfl; rfl; exact h
  | eptr b sz i o => simp only [C.frz]; split; rfl; exact h
  | _ => exact h

theorem V.frz_bnd {b0 sz0 : Nat} {es : List (List T)} : ∀ {v : V}, v.bnd n = true → (v.frz b0 sz0 es).bnd n = true
  | .c x, h => by simp only [V.frz, V.bnd] at h ⊢; exact C.frz_bnd h
  | .agg cs, h => by simp only [V.frz, V.bnd, List.all_map, List.all_eq_true] at h ⊢; intro c hc; exact C.frz_bnd (h c hc)
  | .tup vs, h => by simp only [V.frz, V.bnd] at h ⊢; exact go vs h
where go : ∀ vs, V.bnd.V.bnds n vs = true → V.bnd.V.bnds n (V.frz.go b0 sz0 es vs) = true
  | [], _ => rfl
  | v :: vs, h => by simp only [V.frz.go, V.bnd.V.bnds, Bool.and_eq_true] at h ⊢; exact ⟨V.frz_bnd h.1, go vs h.2⟩

/-- an array is given up: it is immutable from now on -/
theorem Rel.freeze (R : Rel Γ nt φ S env σ n a w) {b0 sz0 : Nat} {es : List (List T)} (hσ : sget σ b0 = some (.arr sz0 es)) :
    Rel Γ nt φ (stabOf S (φ b0)) (frzEnv b0 sz0 es env) (frzSt b0 sz0 es σ) n a w := by
  have hB := R.sim.blk b0 _ hσ
  have m : Mono w S w (stabOf S (φ b0)) := ⟨fun _ _ h => .inl h, fun _ _ _ => rfl⟩
  have hsub : ∀ b x, sget (frzSt b0 sz0 es σ) b = some x → b ≠ b0 ∧ ∃ x0, sget σ b = some x0 ∧ x = x0.frz b0 sz0 es := by
    intro b x hx
    rw [sget_frz] at hx
    split at hx
    · cases hx
    · rename_i h
      simp only [Option.map_eq_some_iff] at hx
      obtain ⟨x0, h1, h2⟩ := hx
      exact ⟨h, x0, h1, h2.symm⟩
  have hnS : ∀ b x, b ≠ b0 → sget σ b = some x → (φ b).2 ≠ 0 → ∀ j, ¬ stabOf S (φ b0) (φ b).1 j := by
    intro b x hne hx h0 j hj
    rcases hj with hj | ⟨hj0, hj⟩
    · exact (R.sim.blk b x hx).notS h0 j hj
    · exact R.sim.inj b b0 x _ hx hσ hne h0 hj0 hj
  refine ⟨⟨fun b x hx => ?_, fun b b' x y hx hy hne h0 h0' => ?_, fun b j hj => ?_⟩, fun k g v hl hg => ?_, fun k g v hl hg => ?_, fun k g v hl hg => ?_, fun b x hx => ?_, R.size, R.defers, ?_, fun b x hx h0 => ?_, R.fix, R.kn⟩
  · obtain ⟨hne, x0, hx0, rfl⟩ := hsub b x hx
    have hR := R.sim.blk b x0 hx0
    cases x0 with
    | box cs =>
      obtain ⟨h0, vs, E, h1, h2, h3⟩ := hR
      exact ⟨h0, vs, E, h1, h2.map_left fun _ _ => RC.frz hB, hnS b _ hne hx0 h0⟩
    | arr sz l =>
      obtain ⟨h1, h2, h3, h4, h5⟩ := hR
      refine ⟨h1, h2, h3, h4, fun h0 => ?_⟩
      obtain ⟨vs, E, k1, k2, k3, k4⟩ := h5 h0
      exact ⟨vs, E, k1, k2, fun i j e t he ht => let ⟨v, hv, hr⟩ := k3 i j e t he ht; ⟨v, hv, RT.mono m hr⟩, hnS b _ hne hx0 h0⟩
  · obtain ⟨_, x0, hx0, rfl⟩ := hsub b x hx
    obtain ⟨_, y0, hy0, rfl⟩ := hsub b' y hy
    exact R.sim.inj b b' x0 y0 hx0 hy0 hne h0 h0'
  · rcases hj with hj | ⟨hj0, rfl⟩
    · exact R.sim.st b j hj
    · exact hB.real_lt hj0
  · rw [look_frz, Option.map_eq_some_iff] at hl
    obtain ⟨⟨g0, v0⟩, hl0, he⟩ := hl
    cases he
    obtain ⟨x, hx, hr⟩ := R.envs k g0 v0 hl0 hg
    exact ⟨x, hx, RV.frz hB hr⟩
  · rw [look_frz, Option.map_eq_some_iff] at hl
    obtain ⟨⟨g0, v0⟩, hl0, he⟩ := hl
    cases he
    exact R.envn k g0 v0 hl0 hg
  · rw [look_frz, Option.map_eq_some_iff] at hl
    obtain ⟨⟨g0, v0⟩, hl0, he⟩ := hl
    cases he
    exact V.frz_bnd (R.ebnd k g0 v0 hl0 hg)
  · obtain ⟨_, x0, hx0, rfl⟩ := hsub b x hx
    refine ⟨(R.sbnd b x0 hx0).1, ?_⟩
    have := (R.sbnd b x0 hx0).2
    cases x0 with
    | box cs => simp only [Blk.frz, Blk.bnd, List.all_map, List.all_eq_true] at this ⊢; intro c hc; exact C.frz_bnd (this c hc)
    | arr sz l => rfl
  · refine ⟨R.ext.os, R.ext.tape, R.ext.output, R.ext.size, R.ext.block, R.ext.mono.trans m, fun b j hj => ?_⟩
    rcases hj with hj | ⟨hj0, rfl⟩
    · exact R.ext.snew b j hj
    · rcases R.own b0 _ hσ hj0 with h | h
      · exact .inr (.inl h)
      · exact .inr (.inr h)
  · obtain ⟨_, x0, hx0, rfl⟩ := hsub b x hx
    exact R.own b x0 hx0 h0

theorem AW.freeze {c : ACode} {Q : Exit → Env → Store → Nat → Prop} (b0 : Nat) {sz0 : Nat} {es : List (List T)} (hσ : sget σ b0 = some (.arr sz0 es)) (h : AW P nt kk c (frzEnv b0 sz0 es env) (frzSt b0 sz0 es σ) N Q) : AW P nt kk c env σ N Q := by
  intro code hc Γ φ S a w hkk R
  exact h code hc Γ φ _ a w hkk (R.freeze hσ)

/-- where a function's results lie -/
inductive AR where
  | tmp (t : Nat)
  | cell (t : Nat) (agg : Bool) (n : Nat)

def resolveRes (P : Program) : List ResultVar → Option (List AR)
  | [] => some []
  | .tmp t :: r => (resolveRes P r).map (.tmp t :: ·)
  | .cell a ty :: r => (loadOf P ty).bind fun g => (resolveRes P r).map (.cell a g.1 g.2 :: ·)

def resOne (env : Env) (σ : Store) : AR → Option (Prop × V)
  | .tmp t => (look env t).map fun x => (x.1 = true, x.2)
  | .cell t g k => match look env t with
    | some (g0, .c (.ptr b o)) => match sget σ b with
      | some (.box cs) => (loadC g k cs o).map fun v => (g0 = true, v)
      | _ => none
    | _ => none

def resAll (env : Env) (σ : Store) : List AR → Option (Prop × List V)
  | [] => some (True, [])
  | r :: rs => (resOne env σ r).bind fun x => (resAll env σ rs).map fun y => (x.1 ∧ y.1, x.2 :: y.2)

def resV : List V → V
  | [v] => v
  | vs => .tup vs

/-- a contract: in the function's own numbering of the blocks that it is handed -/
def Con (P : Program) (f : Nat) (args : List V) (σ : Store) (k : Nat) (Q : V → Store → Nat → Prop) : Prop :=
  ∀ (φ : Phi) (S : Stab) (w : World) (B : Nat → Prop), Sim φ w S σ → (∀ (b : Nat) x, sget σ b = some x → b < k ∧ x.bnd (lt k) = true) → (∀ (b : Nat) x, sget σ b = some x → (φ b).2 ≠ 0 → B (φ b).1) →
    V.bnd.V.bnds (lt k) args = true → ∀ vs : List Value, All2 (RV φ w S) args vs →
    Calls P f vs.toArray w fun e w' => ∃ v r φ' S' σ' N', e = .returned v ∧ Q r σ' N' ∧ RV φ' w' S' r v ∧ r.bnd (lt N') = true ∧ Sim φ' w' S' σ' ∧ (∀ (b : Nat) x, sget σ' b = some x → b < N' ∧ x.bnd (lt N') = true) ∧ Ext B S S' w w' ∧
      (∀ (b : Nat) x, sget σ' b = some x → (φ' b).2 ≠ 0 → B (φ' b).1 ∨ w.heap.size ≤ (φ' b).1) ∧ ∀ b, b < k → φ' b = φ b

theorem Ext.refl {B : Nat → Prop} : Ext B S S w w := ⟨rfl, rfl, rfl, Nat.le_refl _, fun _ _ _ => rfl, Mono.refl _ _, fun _ _ h => .inl h⟩

/-- the frame at a call -/
def env0 : Nat → List V → Env
  | _, [] => []
  | i, v :: vs => (i, true, v) :: env0 (i + 1) vs

theorem look_env0 : ∀ {vs : List V} {i k : Nat} {g : Bool} {v : V}, look (env0 i vs) k = some (g, v) → g = true ∧ ∃ j, k = i + j ∧ vs[j]? = some v
  | [], i, k, g, v, h => by simp [env0, look] at h
  | x :: vs, i, k, g, v, h => by
    simp only [env0, look] at h
    split at h
    · rename_i e; cases h; exact ⟨rfl, 0, by omega, rfl⟩
    · obtain ⟨h1, j, h2, h3⟩ := look_env0 h
      exact ⟨h1, j + 1, by omega, by simpa using h3⟩

/-- the model's reading of a result variable -/
def rvSem (a : Act) : ResultVar → Sem Value
  | .tmp t => Pure.pure (a.tmps.getD t undef)
  | .cell ad ty => do loadVar ty (← asAddr (a.tmps.getD ad undef))

theorem results_eq (fn : Func) (a : Act) : results fn a.tmps = (fn.results.mapM (rvSem a) >>= fun vs => Pure.pure (if h : vs.size = 1 then vs[0] else .tuple vs)) := by
  have e : ∀ (f : ResultVar → Sem Value) (g : Array Value → Sem Value), (∀ rv, f rv = rvSem a rv) → (fn.results.mapM f >>= g) = (fn.results.mapM (rvSem a) >>= g) := fun f g h => by rw [funext h]
  exact e _ _ (fun rv => by cases rv <;> rfl)

theorem resOne_sound (R : Rel Γ nt φ S env σ n a w) {rv : ResultVar} {ar : AR} (hr : resolveRes P [rv] = some [ar]) {p : Prop} {v : V} (h : resOne env σ ar = some (p, v)) (hp : p) :
    ∃ x, (rvSem a rv).run P w = .ok x w ∧ RV φ w S v x ∧ v.bnd n = true := by
  cases rv with
  | tmp t =>
    simp [resolveRes] at hr
    subst hr
    simp only [resOne, Option.map_eq_some_iff, Prod.mk.injEq] at h
    obtain ⟨⟨g, v0⟩, hl, rfl, rfl⟩ := h
    obtain ⟨x, hx, hrv⟩ := R.envs t g v0 hl hp
    refine ⟨x, ?_, hrv, R.ebnd t g v0 hl hp⟩
    simp [rvSem, hx]
  | cell ad ty =>
    simp only [resolveRes, Option.bind_eq_some_iff, Option.map_eq_some_iff] at hr
    obtain ⟨g, hg, l, hl, he⟩ := hr
    simp at hl
    subst hl
    simp at he
    subst he
    simp only [resOne] at h
    split at h
    · rename_i g0 b o hl
      split at h
      · rename_i cs hσ
        simp only [Option.map_eq_some_iff, Prod.mk.injEq] at h
        obtain ⟨v0, hv0, rfl, rfl⟩ := h
        obtain ⟨x, hx, hrv⟩ := R.envs ad g0 _ hl hp
        have := hrv.ptr_inv
        subst this
        obtain ⟨_, vs, E, hh, hall, _⟩ := R.sim.blk _ _ hσ
        obtain ⟨y, hy, h1, h2⟩ := load_gen (n := n) hg hall (R.sbnd _ _ hσ).2 (fun j _ => by rw [cell_of_heap hh, Nat.zero_add]) hv0
        rw [Nat.zero_add] at hy
        refine ⟨y, ?_, h1, h2⟩
        simp [rvSem, hx, asAddr, hy]
      · cases h
    · cases h

theorem resAll_sound (R : Rel Γ nt φ S env σ n a w) : ∀ {rvs : List ResultVar} {ars : List AR} {p : Prop} {vs : List V}, resolveRes P rvs = some ars → resAll env σ ars = some (p, vs) → p →
    ∃ xs : List Value, (rvs.mapM (rvSem a)).run P w = .ok xs w ∧ All2 (RV φ w S) vs xs ∧ V.bnd.V.bnds n vs = true
  | [], ars, p, vs, hr, h, hp => by
    simp [resolveRes] at hr; subst hr
    simp [resAll] at h
    obtain ⟨_, rfl⟩ := h
    exact ⟨[], by simp, .nil, rfl⟩
  | rv :: rvs, ars, p, vs, hr, h, hp => by
    have hsplit : ∃ ar ars', ars = ar :: ars' ∧ resolveRes P [rv] = some [ar] ∧ resolveRes P rvs = some ars' := by
      cases rv with
      | tmp t =>
        simp only [resolveRes, Option.map_eq_some_iff] at hr
        obtain ⟨l, hl, rfl⟩ := hr
        exact ⟨_, l, rfl, rfl, hl⟩
      | cell ad ty =>
        simp only [resolveRes, Option.bind_eq_some_iff, Option.map_eq_some_iff] at hr
        obtain ⟨g, hg, l, hl, rfl⟩ := hr
        exact ⟨_, l, rfl, by simp [resolveRes, hg], hl⟩
    obtain ⟨ar, ars', rfl, h1, h2⟩ := hsplit
    simp only [resAll, Option.bind_eq_some_iff, Option.map_eq_some_iff] at h
    obtain ⟨⟨q, v⟩, hq, ⟨q', vs'⟩, hq', he⟩ := h
    simp only [Prod.mk.injEq] at he
    obtain ⟨rfl, rfl⟩ := he
    obtain ⟨x, hx, hv, hb⟩ := resOne_sound R h1 hq hp.1
    obtain ⟨xs, hxs, hvs, hbs⟩ := resAll_sound R h2 hq' hp.2
    refine ⟨x :: xs, ?_, .cons hv hvs, by simp [V.bnd.V.bnds, hb, hbs]⟩
    rw [List.mapM_cons]
    simp only [Sem.run_bind, hx, Result.andThen_ok, hxs, Sem.run_pure]

theorem RV.resV {vs : List V} {xs : List Value} (h : All2 (RV φ w S) vs xs) : RV φ w S (resV vs) (if h : xs.toArray.size = 1 then xs.toArray[0] else .tuple xs.toArray) := by
  cases h with
  | nil => exact .tup [] [] rfl (by simp)
  | cons h1 h2 =>
    cases h2 with
    | nil => simpa [Shv.resV] using h1
    | cons h2 h3 =>
      rw [dif_neg (by simp)]
      refine .tup _ _ (by simp [h3.length]) ?_
      intro i v x hv hx
      have := (All2.cons h1 (.cons h2 h3)).get hv
      obtain ⟨y, hy, hr⟩ := this
      rw [hy] at hx; cases hx; exact hr

theorem resV_bnd {vs : List V} (h : V.bnd.V.bnds n vs = true) : (resV vs).bnd n = true := by
  unfold resV
  split
  · simp [V.bnd.V.bnds] at h; exact h
  · simpa [V.bnd] using h

/-- what a body's end owes -/
def Done (ars : List AR) (Q : V → Store → Nat → Prop) : Exit → Env → Store → Nat → Prop
  | .normal, env, σ, N => ∃ p vs, resAll env σ ars = some (p, vs) ∧ p ∧ Q (resV vs) σ N
  | .ret, env, σ, N => ∃ p vs, resAll env σ ars = some (p, vs) ∧ p ∧ Q (resV vs) σ N
  | _, _, _, _ => False

/-- a function's contract out of its body -/
theorem Con.of_body {f : Nat} {fn : Func} {code : Code} {c : ACode} {ars : List AR} (hf : P.funcs[f]? = some fn) (hb : fn.body = some code) (hc : resolve P fn.ntmps code = some c) (hr : resolveRes P fn.results.toList = some ars)
    {args : List V} (hn : args.length ≤ fn.ntmps) {k : Nat} {Q : V → Store → Nat → Prop} (h : AW P fn.ntmps k c (env0 0 args) σ k (Done ars Q)) : Con P f args σ k Q := by
  intro φ S w B hsim hsb hown hab vs hvs
  have hl := hvs.length
  refine calls_of_wp hf hb ?_
  have R : Rel ⟨w, S, B, φ, k⟩ fn.ntmps φ S (env0 0 args) σ (lt k) { tmps := vs.toArray ++ Array.replicate (fn.ntmps - vs.toArray.size) undef, defers := [] } w := by
    refine ⟨hsim, fun i g v hlk hg => ?_, fun i g v hlk hg => ?_, fun i g v hlk hg => ?_, fun b x hx => ?_, ?_, rfl, Ext.refl, fun b x hx h0 => .inl (hown b x hx h0), fun _ _ => rfl, fun b hb => by simp [lt]; exact hb⟩
    · obtain ⟨_, j, rfl, hj⟩ := look_env0 hlk
      obtain ⟨x, hx, hr⟩ := hvs.get hj
      have hlt := (List.getElem?_eq_some_iff.1 hx).1
      refine ⟨x, ?_, hr⟩
      rw [Nat.zero_add, Array.getElem?_append_left (by simpa using hlt)]
      simpa using hx
    · have := (look_env0 hlk).1; rw [this] at hg; cases hg
    · obtain ⟨_, j, rfl, hj⟩ := look_env0 hlk
      exact bnds_get hab hj
    · obtain ⟨h1, h2⟩ := hsb b x hx; exact ⟨by simp [lt]; exact h1, h2⟩
    · simp; omega
  refine wp_mono (h code hc ⟨w, S, B, φ, k⟩ φ S _ w rfl R) ?_
  rintro e a' w' ⟨φ', S', env', σ', N', hq, R'⟩
  have fin : (∃ p vs, resAll env' σ' ars = some (p, vs) ∧ p ∧ Q (resV vs) σ' N') → a'.defers = [] ∧ ∃ v, (results fn a'.tmps).run P w' = .ok v w' ∧ (∃ v' r φ'' S'' σ'' N'', Ending.returned v = .returned v' ∧ Q r σ'' N'' ∧ RV φ'' w' S'' r v' ∧ r.bnd (lt N'') = true ∧ Sim φ'' w' S'' σ'' ∧ (∀ (b : Nat) x, sget σ'' b = some x → b < N'' ∧ x.bnd (lt N'') = true) ∧ Ext B S S'' w w' ∧
      (∀ (b : Nat) x, sget σ'' b = some x → (φ'' b).2 ≠ 0 → B (φ'' b).1 ∨ w.heap.size ≤ (φ'' b).1) ∧ ∀ b, b < k → φ'' b = φ b) := by
    rintro ⟨p, rs, h1, h2, h3⟩
    obtain ⟨xs, hxs, hrv, hbn⟩ := resAll_sound R' hr h1 h2
    refine ⟨R'.defers, _, ?_, _, resV rs, φ', S', σ', N', rfl, h3, RV.resV hrv, resV_bnd hbn, R'.sim, fun b x hx => ?_, R'.ext, R'.own, R'.fix⟩
    · have hm : (fn.results.mapM (rvSem a')).run P w' = .ok xs.toArray w' := by
        rw [Array.mapM_eq_mapM_toList]
        simp only [Sem.run_map, hxs]; rfl
      rw [results_eq]
      simp only [Sem.run_bind, hm, Result.andThen_ok]
      rfl
    · obtain ⟨h1, h2⟩ := R'.sbnd b x hx
      exact ⟨by simpa [lt] using h1, h2⟩
  cases e with
  | normal => exact fin hq
  | ret => exact fin hq
  | exit id => exact hq.elim
  | goto l => exact hq.elim
  | panic ch => exact hq.elim
  | outgrown => exact hq.elim

end
end Go.Proofs.Ytkdepbmeaiefeaa.Shv
