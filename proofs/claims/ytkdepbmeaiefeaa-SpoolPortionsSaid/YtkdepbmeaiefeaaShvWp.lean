/- The abstract machine, part 13: code, contracts. -/
import Derived.Test.YtkdepbmeaiefeaaShvCtl
import Derived.LoopN
namespace Go.Proofs.Ytkdepbmeaiefeaa.Shv
set_option linter.all false
open Go

def lt (N : Nat) : Nat → Bool := fun b => decide (b < N)

theorem lt_ins {N b : Nat} (h : insR (lt N) N b = true) : lt (N + 16) b = true := by
  simp only [insR, lt, Bool.or_eq_true, decide_eq_true_eq, Bool.and_eq_true] at *
  omega
theorem lt_fresh {N b : Nat} (h : N ≤ b) : lt N b = false := by simp [lt]; omega
theorem lt_mono {N M b : Nat} (h : N ≤ M) (hb : lt N b = true) : lt M b = true := by simp only [lt, decide_eq_true_eq] at *; omega

section
variable {P : Program} {Γ : Ctx} {nt kk : Nat} {φ : Phi} {S : Stab} {env : Env} {σ : Store} {N : Nat} {a : Act} {w : World}

theorem ops_sound {ops : Array Oper} {Q : Exit → Act → World → Prop} {K : Env → Store → Nat → Prop} : ∀ {l : List Oper} {aos : List AOper} {k N : Nat} {env : Env} {σ : Store} {φ : Phi} {S : Stab} {a : Act} {w : World}, resolveOps P nt ops l = some aos → (∀ i : Nat, i < l.length → l[i]? = ops[k + i]?) →
    Rel Γ nt φ S env σ (lt N) a w → aops P aos N env σ (fun e s => K e s (N + 16 * aos.length)) → (∀ φ S e s N a w, K e s N → Rel Γ nt φ S e s (lt N) a w → Q .normal a w) → wpOps P ops Q (List.range' k l.length) a w
  | [], aos, k, N, env, σ, φ, S, a, w, hr, hi, R, h, hQ => by
    simp [resolveOps] at hr; subst hr
    simp only [List.length_nil, List.range'_zero, wpOps]
    exact hQ _ _ _ _ _ _ _ h R
  | o :: l, aos, k, N, env, σ, φ, S, a, w, hr, hi, R, h, hQ => by
    simp only [resolveOps, Option.bind_eq_some_iff, Option.map_eq_some_iff] at hr
    obtain ⟨ao, hao, aos', haos, rfl⟩ := hr
    have ho : ops[k]? = some o := by have := hi 0 (by simp); simpa using this.symm
    rw [List.length_cons, List.range'_succ, wpOps_cons]
    unfold wpOp
    rw [ho]
    simp only
    have hs := step_sound R (fun b h1 _ => lt_fresh h1) hao (K := fun e s => aops P aos' (N + 16) e s fun e s => K e s (N + 16 * (aos'.length + 1))) (by
      simp only [aops, List.length_cons] at h; exact h) (Q := Q)
    have next : ∀ a' w', Post Γ nt (insR (lt N) N) (fun e s => aops P aos' (N + 16) e s fun e s => K e s (N + 16 * (aos'.length + 1))) a' w' → wpOps P ops Q (List.range' (k + 1) l.length) a' w' := by
      rintro a' w' ⟨φ', S', e, s, hK, R'⟩
      refine ops_sound (k := k + 1) (N := N + 16) haos (fun i hlt => ?_) (R'.more fun _ h => lt_ins h) (K := K) ?_ hQ
      · have := hi (i + 1) (by simp; omega)
        rw [show k + 1 + i = k + (i + 1) by omega]
        simpa using this
      · rw [show N + 16 + 16 * aos'.length = N + 16 * (aos'.length + 1) by omega]; exact hK
    split at hs
    · rename_i hw; rw [if_pos hw]; exact .inl (Oper.wp_mono next hs)
    · rename_i hw; rw [if_neg hw]; exact next _ _ hs

/-- the abstract weakest precondition of code -/
def AWP (P : Program) (nt kk : Nat) (c : Code) (env : Env) (σ : Store) (N : Nat) (Q : Exit → Env → Store → Nat → Prop) : Prop :=
  ∀ Γ φ S a w, Γ.k = kk → Rel Γ nt φ S env σ (lt N) a w → c.wp P (fun e a' w' => ∃ φ' S' env' σ' N', Q e env' σ' N' ∧ Rel Γ nt φ' S' env' σ' (lt N') a' w') a w

def AW (P : Program) (nt kk : Nat) (c : ACode) (env : Env) (σ : Store) (N : Nat) (Q : Exit → Env → Store → Nat → Prop) : Prop :=
  ∀ code, resolve P nt code = some c → AWP P nt kk code env σ N Q

variable {Q Q' : Exit → Env → Store → Nat → Prop}

theorem AW.mono {c : ACode} (h : AW P nt kk c env σ N Q) (hq : ∀ e env σ N, Q e env σ N → Q' e env σ N) : AW P nt kk c env σ N Q' :=
  fun code hc Γ φ S a w hkk R => wp_mono (h code hc Γ φ S a w hkk R) fun e a w ⟨φ', S', env', σ', N', h1, h2⟩ => ⟨φ', S', env', σ', N', hq _ _ _ _ h1, h2⟩

theorem AW.skip (h : Q .normal env σ N) : AW P nt kk .skip env σ N Q := by
  intro code hc Γ φ S a w hkk R
  cases code <;> simp only [resolve, Option.bind_eq_some_iff, Option.map_eq_some_iff, reduceCtorEq, and_false, exists_false] at hc <;> (try (first | (cases hc; done) | (obtain ⟨l, _, hc⟩ := hc; (repeat' split at hc) <;> cases hc; done)))
  exact wp_skip ⟨φ, S, env, σ, N, h, R⟩

theorem AW.ret (h : Q .ret env σ N) : AW P nt kk .ret env σ N Q := by
  intro code hc Γ φ S a w hkk R
  cases code <;> simp only [resolve, Option.bind_eq_some_iff, Option.map_eq_some_iff, reduceCtorEq, and_false, exists_false] at hc <;> (try (first | (cases hc; done) | (obtain ⟨l, _, hc⟩ := hc; (repeat' split at hc) <;> cases hc; done)))
  exact wp_ret ⟨φ, S, env, σ, N, h, R⟩

theorem AW.exit {id : Nat} (h : Q (.exit id) env σ N) : AW P nt kk (.exit id) env σ N Q := by
  intro code hc Γ φ S a w hkk R
  cases code <;> simp only [resolve, Option.bind_eq_some_iff, Option.map_eq_some_iff, reduceCtorEq, and_false, exists_false] at hc <;> (try (first | (cases hc; done) | (obtain ⟨l, _, hc⟩ := hc; (repeat' split at hc) <;> cases hc; done)))
  cases hc
  exact wp_exit ⟨φ, S, env, σ, N, h, R⟩

/-- what follows a piece of code -/
def andThen (next : Env → Store → Nat → Prop) (Q : Exit → Env → Store → Nat → Prop) : Exit → Env → Store → Nat → Prop
  | .normal, env, σ, N => next env σ N
  | e, env, σ, N => Q e env σ N

theorem resolve_seq {code : Code} {x y : ACode} (h : resolve P nt code = some (.seq x y)) : ∃ a b, code = .seq a b ∧ resolve P nt a = some x ∧ resolve P nt b = some y := by
  cases code with
  | seq a b =>
    simp only [resolve, Option.bind_eq_some_iff, Option.map_eq_some_iff] at h
    obtain ⟨x', hx, y', hy, he⟩ := h
    cases he
    exact ⟨a, b, rfl, hx, hy⟩
  | region id ops draw =>
    simp only [resolve, Option.bind_eq_some_iff] at h
    obtain ⟨l, _, h⟩ := h
    (repeat' split at h) <;> cases h
  | _ => simp [resolve, Option.bind_eq_some_iff, Option.map_eq_some_iff] at h

theorem resolve_cond {code : Code} {c : AO} {x y : ACode} (h : resolve P nt code = some (.cond c x y)) : ∃ o a b, code = .cond o a b ∧ opd o = some c ∧ resolve P nt a = some x ∧ resolve P nt b = some y := by
  cases code with
  | cond o a b =>
    simp only [resolve, Option.bind_eq_some_iff, Option.map_eq_some_iff] at h
    obtain ⟨c', hc, x', hx, y', hy, he⟩ := h
    cases he
    exact ⟨o, a, b, rfl, hc, hx, hy⟩
  | region id ops draw =>
    simp only [resolve, Option.bind_eq_some_iff] at h
    obtain ⟨l, _, h⟩ := h
    (repeat' split at h) <;> cases h
  | _ => simp [resolve, Option.bind_eq_some_iff, Option.map_eq_some_iff] at h

theorem resolve_block {code : Code} {id : Nat} {x : ACode} (h : resolve P nt code = some (.block id x)) : ∃ b, code = .block id b ∧ resolve P nt b = some x := by
  cases code with
  | block i b =>
    simp only [resolve, Option.map_eq_some_iff] at h
    obtain ⟨x', hx, he⟩ := h
    cases he
    exact ⟨b, rfl, hx⟩
  | region id ops draw =>
    simp only [resolve, Option.bind_eq_some_iff] at h
    obtain ⟨l, _, h⟩ := h
    (repeat' split at h) <;> cases h
  | _ => simp [resolve, Option.bind_eq_some_iff, Option.map_eq_some_iff] at h

theorem resolve_loop {code : Code} {x : ACode} (h : resolve P nt code = some (.loop x)) : ∃ b, code = .loop b ∧ resolve P nt b = some x := by
  cases code with
  | loop b =>
    simp only [resolve, Option.map_eq_some_iff] at h
    obtain ⟨x', hx, he⟩ := h
    cases he
    exact ⟨b, rfl, hx⟩
  | region id ops draw =>
    simp only [resolve, Option.bind_eq_some_iff] at h
    obtain ⟨l, _, h⟩ := h
    (repeat' split at h) <;> cases h
  | _ => simp [resolve, Option.bind_eq_some_iff, Option.map_eq_some_iff] at h

theorem resolve_region {code : Code} {aos : List AOper} (h : resolve P nt code = some (.region aos)) : ∃ id ops, code = .region id ops false ∧ resolveOps P nt ops ops.toList = some aos := by
  cases code with
  | region id ops draw =>
    simp only [resolve, Option.bind_eq_some_iff] at h
    obtain ⟨l, hl, h⟩ := h
    split at h
    · split at h <;> cases h
    · rename_i hd
      cases h
      simp at hd
      subst hd
      exact ⟨id, ops, rfl, hl⟩
  | _ => simp [resolve, Option.bind_eq_some_iff, Option.map_eq_some_iff] at h

theorem resolve_regionD {code : Code} {aos : List AOper} {crit : List (Nat × Nat)} (h : resolve P nt code = some (.regionD aos crit)) :
    ∃ id ops, code = .region id ops true ∧ resolveOps P nt ops ops.toList = some aos ∧ drawOk (withDeps ops aos) = true ∧ P.follows .mixedOrders = true ∧ crit = critOf (withDeps ops aos) := by
  cases code with
  | region id ops draw =>
    simp only [resolve, Option.bind_eq_some_iff] at h
    obtain ⟨l, hl, h⟩ := h
    split at h
    · rename_i hd
      split at h
      · rename_i h2
        cases h
        subst hd
        simp only [Bool.and_eq_true] at h2
        exact ⟨id, ops, rfl, hl, h2.1, h2.2, rfl⟩
      · cases h
    · cases h
  | _ => simp [resolve, Option.bind_eq_some_iff, Option.map_eq_some_iff] at h

theorem AW.seq {x y : ACode} (h : AW P nt kk x env σ N (andThen (fun env σ N => AW P nt kk y env σ N Q) Q)) : AW P nt kk (.seq x y) env σ N Q := by
  intro code hc Γ φ S a w hkk R
  obtain ⟨cx, cy, rfl, hx, hy⟩ := resolve_seq hc
  refine wp_seq (wp_mono (h _ hx Γ φ S a w hkk R) ?_)
  rintro e a' w' ⟨φ', S', env', σ', N', hq, R'⟩
  cases e with
  | normal => exact hq _ hy Γ φ' S' a' w' hkk R'
  | _ => exact ⟨φ', S', env', σ', N', hq, R'⟩

theorem AW.cond {c : AO} {x y : ACode} {p : Prop} {b : Bool} (hc : c.get env = some (p, boolV b)) (hp : p) (hx : b = true → AW P nt kk x env σ N Q) (hy : b = false → AW P nt kk y env σ N Q) : AW P nt kk (.cond c x y) env σ N Q := by
  intro code hcode Γ φ S a w hkk R
  obtain ⟨o, cx, cy, rfl, ho, hx', hy'⟩ := resolve_cond hcode
  have hb := (get_sound R ho hc hp).1.bool_inv
  refine wp_cond hb ?_
  cases b with
  | true => exact hx rfl _ hx' Γ φ S a w hkk R
  | false => exact hy rfl _ hy' Γ φ S a w hkk R

/-- the exit out of a block -/
def inBlock (id : Nat) (Q : Exit → Env → Store → Nat → Prop) : Exit → Env → Store → Nat → Prop
  | .exit i, env, σ, N => if i = id then Q .normal env σ N else Q (.exit i) env σ N
  | e, env, σ, N => Q e env σ N

theorem AW.block {id : Nat} {x : ACode} (h : AW P nt kk x env σ N (inBlock id Q)) : AW P nt kk (.block id x) env σ N Q := by
  intro code hc Γ φ S a w hkk R
  obtain ⟨b, rfl, hb⟩ := resolve_block hc
  refine wp_block (wp_mono (h _ hb Γ φ S a w hkk R) ?_)
  rintro e a' w' ⟨φ', S', env', σ', N', hq, R'⟩
  cases e with
  | exit i =>
    simp only [inBlock] at hq
    simp only [Exit.inBlock]
    split
    · rename_i h; rw [if_pos h] at hq; exact ⟨φ', S', env', σ', N', hq, R'⟩
    · rename_i h; rw [if_neg h] at hq; exact ⟨φ', S', env', σ', N', hq, R'⟩
  | _ => exact ⟨φ', S', env', σ', N', hq, R'⟩

theorem AW.region {aos : List AOper} (h : aops P aos N env σ (fun e s => Q .normal e s (N + 16 * aos.length))) : AW P nt kk (.region aos) env σ N Q := by
  intro code hc Γ φ S a w hkk R
  obtain ⟨id, ops, rfl, hr⟩ := resolve_region hc
  refine wp_region ?_
  have := ops_sound (P := P) (ops := ops) (K := fun e s N => Q .normal e s N) (Q := fun e a' w' => ∃ φ' S' env' σ' N', Q e env' σ' N' ∧ Rel Γ nt φ' S' env' σ' (lt N') a' w') (k := 0) hr (fun i hi => by simp) R h
    (fun φ S e s N a w hK hR => ⟨φ, S, e, s, N, hK, hR⟩)
  rw [List.range_eq_range']
  simpa using this

/-- a loop: some number of rounds -/
def arounds (P : Program) (nt kk : Nat) (c : ACode) (Q : Exit → Env → Store → Nat → Prop) : Nat → Env → Store → Nat → Prop
  | 0, _, _, _ => False
  | m + 1, env, σ, N => AW P nt kk c env σ N (andThen (arounds P nt kk c Q m) Q)

theorem AW.loop_rounds {c : ACode} (m : Nat) (h : arounds P nt kk c Q m env σ N) : AW P nt kk (.loop c) env σ N Q := by
  intro code hc Γ φ S a w hkk R
  obtain ⟨b, rfl, hb⟩ := resolve_loop hc
  refine wp_loop_rounds m ?_
  induction m generalizing env σ N φ S a w with
  | zero => exact h.elim
  | succ m ih =>
    rw [rounds_succ]
    refine wp_mono (h _ hb Γ φ S a w hkk R) ?_
    rintro e a' w' ⟨φ', S', env', σ', N', hq, R'⟩
    cases e with
    | normal => exact ih hq φ' S' a' w' R'
    | _ => exact ⟨φ', S', env', σ', N', hq, R'⟩

theorem arounds_mono {c : ACode} : ∀ {m : Nat} {env : Env} {σ : Store} {N : Nat}, arounds P nt kk c Q m env σ N → ∀ k, arounds P nt kk c Q (m + k) env σ N
  | 0, _, _, _, h, _ => h.elim
  | m + 1, env, σ, N, h, k => by
    rw [show m + 1 + k = (m + k) + 1 by omega]
    exact AW.mono h fun e env σ N hq => by
      cases e with
      | normal => exact arounds_mono hq k
      | _ => exact hq

/-- a loop by a measure: an invariant that holds at every round's head -/
theorem AW.loop_inv {c : ACode} (I : Nat → Env → Store → Nat → Prop) {m : Nat} (h0 : I m env σ N)
    (hr : ∀ m env σ N, I m env σ N → AW P nt kk c env σ N (andThen (fun env σ N => ∃ k, k < m ∧ I k env σ N) Q)) : AW P nt kk (.loop c) env σ N Q := by
  refine AW.loop_rounds (m + 1) ?_
  have key : ∀ m k env σ N, k ≤ m → I k env σ N → arounds P nt kk c Q (m + 1) env σ N := by
    intro m
    induction m with
    | zero =>
      intro k env σ N hk hI
      have : k = 0 := by omega
      subst this
      exact AW.mono (hr 0 env σ N hI) fun e env σ N hq => by
        cases e with
        | normal => obtain ⟨j, hj, _⟩ := hq; omega
        | _ => exact hq
    | succ m ih =>
      intro k env σ N hk hI
      exact AW.mono (hr k env σ N hI) fun e env σ N hq => by
        cases e with
        | normal => obtain ⟨j, hj, hI'⟩ := hq; exact ih j env σ N (by omega) hI'
        | _ => exact hq
  exact key m m env σ N (Nat.le_refl _) h0

end
end Go.Proofs.Ytkdepbmeaiefeaa.Shv
