/- The abstract machine, part 14: contracts of functions, and how they are used; tidying the abstract state. -/
import Derived.Test.YtkdepbmeaiefeaaShvWp
namespace Go.Proofs.Ytkdepbmeaiefeaa.Shv
set_option linter.all false
open Go

def pos : List Nat → Nat → Option Nat
  | [], _ => none
  | x :: r, b => if x = b then some 0 else (pos r b).map (· + 1)

theorem pos_get : ∀ {bs : List Nat} {b i : Nat}, pos bs b = some i → bs[i]? = some b
  | [], b, i, h => by simp [pos] at h
  | x :: r, b, i, h => by
    unfold pos at h
    split at h
    · rename_i e; cases h; simp [e]
    · simp only [Option.map_eq_some_iff] at h
      obtain ⟨j, hj, rfl⟩ := h
      simpa using pos_get hj

def posAll (bs : List Nat) : List Nat → Option (List Nat)
  | [] => some []
  | c :: r => match pos bs c, posAll bs r with
    | some i, some l => some (i :: l)
    | _, _ => none

def C.ren (bs : List Nat) : C → C
  | .t x => .t x
  | .ptr b o => match pos bs b with | some i => .ptr i o | none => .dead
  | .eptr b sz i o => match pos bs b with | some j => .eptr j sz i o | none => .dead
  | .iptr ts o => .iptr ts o
  | .arr b sz off len => match pos bs b with | some i => .arr i sz off len | none => .dead
  | .cap0 => .cap0
  | .nilp => .nilp
  | .nilfn => .nilfn
  | .fn f caps => match posAll bs caps with | some l => .fn f l | none => .dead
  | .dead => .dead

def V.ren (bs : List Nat) : V → V
  | .c x => .c (x.ren bs)
  | .agg cs => .agg (cs.map (C.ren bs))
  | .tup vs => .tup (go bs vs)
where go (bs : List Nat) : List V → List V
  | [] => []
  | v :: vs => v.ren bs :: go bs vs

def Blk.ren (bs : List Nat) : Blk → Blk
  | .box cs => .box (cs.map (C.ren bs))
  | .arr sz es => .arr sz es

def tidyEnv (bs : List Nat) (env : Env) : List Nat → Env
  | [] => []
  | k :: ks => match look env k with
    | some (g, v) => (k, g, v.ren bs) :: tidyEnv bs env ks
    | none => tidyEnv bs env ks

def tidySt (bs : List Nat) (σ : Store) : Nat → List Nat → Store
  | _, [] => []
  | i, b :: r => match sget σ b with
    | some x => (i, x.ren bs) :: tidySt bs σ (i + 1) r
    | none => tidySt bs σ (i + 1) r

def keeps (k : Nat) (bs : List Nat) : Bool := (List.range k).all fun i => bs[i]? == some i

section
variable {P : Program} {Γ : Ctx} {nt kk : Nat} {φ : Phi} {S : Stab} {env : Env} {σ : Store} {N : Nat} {n : Nat → Bool} {a : Act} {w : World}

theorem posAll_get : ∀ {bs caps l : List Nat}, posAll bs caps = some l → caps.length = l.length ∧ ∀ (i b j : Nat), caps[i]? = some b → l[i]? = some j → bs[j]? = some b
  | bs, [], l, h => by simp [posAll] at h; subst h; simp
  | bs, c :: r, l, h => by
    unfold posAll at h
    split at h
    · rename_i j l' hj hl
      cases h
      obtain ⟨h1, h2⟩ := posAll_get hl
      refine ⟨by simp [h1], ?_⟩
      intro i b j' hb hj'
      cases i with
      | zero => simp at hb hj'; subst hb; subst hj'; exact pos_get hj
      | succ i => exact h2 i b j' (by simpa using hb) (by simpa using hj')
    · cases h

theorem RC.ren {φ' : Phi} {bs : List Nat} (hφ : ∀ (i : Nat) b, bs[i]? = some b → φ' i = φ b) {c : C} {v : Value} (h : RC φ w S c v) : RC φ' w S (c.ren bs) v := by
  have ho := RC.oneCell h
  cases c with
  | ptr b o =>
    simp only [C.ren]
    split
    · rename_i i hi; simp only [RC, hφ i b (pos_get hi)]; exact h
    · exact ho
  | eptr b sz i o =>
    simp only [C.ren]
    split
    · rename_i j hj; simp only [RC, hφ j b (pos_get hj)]; exact h
    · exact ho
  | arr b sz off len =>
    simp only [C.ren]
    split
    · rename_i i hi; simp only [RC, hφ i b (pos_get hi)]; exact h
    · exact ho
  | fn f caps =>
    simp only [C.ren]
    split
    · rename_i l hl
      obtain ⟨h1, h2⟩ := posAll_get hl
      simp only [RC] at h ⊢
      rw [h]
      congr 2
      apply List.ext_getElem (by simp [h1])
      intro i hi1 hi2
      simp at hi1 hi2
      simp only [List.getElem_map]
      rw [hφ _ _ (h2 i _ _ (List.getElem?_eq_getElem hi1) (List.getElem?_eq_getElem hi2))]
    · exact ho
  | _ => exact h

theorem ren_go_get {bs : List Nat} : ∀ {vs : List V} {i : Nat}, (V.ren.go bs vs)[i]? = (vs[i]?).map (V.ren bs)
  | [], i => by simp [V.ren.go]
  | v :: vs, 0 => by simp [V.ren.go]
  | v :: vs, i + 1 => by simp [V.ren.go, ren_go_get]

theorem ren_go_length {bs : List Nat} : ∀ {vs : List V}, (V.ren.go bs vs).length = vs.length
  | [] => rfl
  | v :: vs => by simp [V.ren.go, ren_go_length]

theorem All2.map_left {α β γ : Type} {R : α → β → Prop} {R' : γ → β → Prop} {f : α → γ} {l : List α} {m : List β} (h : All2 R l m) (k : ∀ a b, R a b → R' (f a) b) : All2 R' (l.map f) m := by
  induction h with
  | nil => exact .nil
  | cons hab _ ih => exact .cons (k _ _ hab) ih

theorem RV.ren {φ' : Phi} {bs : List Nat} (hφ : ∀ (i : Nat) b, bs[i]? = some b → φ' i = φ b) {v : V} {x : Value} (h : RV φ w S v x) : RV φ' w S (v.ren bs) x := by
  induction h with
  | c h => exact .c (RC.ren hφ h)
  | agg h => exact .agg (h.map_left fun _ _ => RC.ren hφ)
  | tup vs xs hl h ih =>
    refine .tup _ xs (by rw [ren_go_length]; exact hl) ?_
    intro i v x hv hx
    rw [ren_go_get, Option.map_eq_some_iff] at hv
    obtain ⟨v0, hv0, rfl⟩ := hv
    exact ih i v0 x hv0 hx

theorem pos_lt {bs : List Nat} {b i : Nat} (h : pos bs b = some i) : i < bs.length := (List.getElem?_eq_some_iff.1 (pos_get h)).1

theorem C.ren_bnd {bs : List Nat} (c : C) : (c.ren bs).bnd (lt bs.length) = true := by
  cases c with
  | ptr b o => simp only [C.ren]; split <;> simp [C.bnd, lt]; rename_i h; exact pos_lt h
  | eptr b sz i o => simp only [C.ren]; split <;> simp [C.bnd, lt]; rename_i h; exact pos_lt h
  | arr b sz off len => simp only [C.ren]; split <;> simp [C.bnd, lt]; rename_i h; exact pos_lt h
  | fn f caps =>
    simp only [C.ren]; split
    · rename_i l hl
      obtain ⟨h1, h2⟩ := posAll_get hl
      simp only [C.bnd, List.all_eq_true, lt, decide_eq_true_eq]
      intro j hj
      obtain ⟨i, hi, rfl⟩ := List.getElem_of_mem hj
      exact (List.getElem?_eq_some_iff.1 (h2 i _ _ (List.getElem?_eq_getElem (by omega)) (List.getElem?_eq_getElem hi))).1
    · rfl
  | _ => rfl

theorem V.ren_bnd {bs : List Nat} : ∀ (v : V), (v.ren bs).bnd (lt bs.length) = true
  | .c x => by simp only [V.ren, V.bnd]; exact C.ren_bnd x
  | .agg cs => by simp only [V.ren, V.bnd, List.all_map, List.all_eq_true]; intro c _; exact C.ren_bnd c
  | .tup vs => by simp only [V.ren, V.bnd]; exact go vs
where go : ∀ vs, V.bnd.V.bnds (lt bs.length) (V.ren.go bs vs) = true
  | [] => rfl
  | v :: vs => by simp only [V.ren.go, V.bnd.V.bnds, Bool.and_eq_true]; exact ⟨V.ren_bnd v, go vs⟩

theorem look_tidy {bs : List Nat} : ∀ {ks : List Nat} {k : Nat} {g : Bool} {v : V}, look (tidyEnv bs env ks) k = some (g, v) → ∃ v0, look env k = some (g, v0) ∧ v = v0.ren bs
  | [], k, g, v, h => by simp [tidyEnv, look] at h
  | x :: ks, k, g, v, h => by
    unfold tidyEnv at h
    split at h
    · rename_i g' v' hl
      unfold look at h
      split at h
      · rename_i e; cases h; subst e; exact ⟨v', hl, rfl⟩
      · exact look_tidy h
    · exact look_tidy h

theorem sget_tidy {bs : List Nat} : ∀ {r : List Nat} {i : Nat} {b : Nat} {x : Blk}, sget (tidySt bs σ i r) b = some x → ∃ j c x0, b = i + j ∧ r[j]? = some c ∧ sget σ c = some x0 ∧ x = x0.ren bs
  | [], i, b, x, h => by simp [tidySt, sget] at h
  | c :: r, i, b, x, h => by
    unfold tidySt at h
    split at h
    · rename_i x0 hx0
      unfold sget at h
      split at h
      · rename_i e; cases h; exact ⟨0, c, x0, by omega, rfl, hx0, rfl⟩
      · obtain ⟨j, c', x0', h1, h2, h3, h4⟩ := sget_tidy h
        exact ⟨j + 1, c', x0', by omega, by simpa using h2, h3, h4⟩
    · obtain ⟨j, c', x0', h1, h2, h3, h4⟩ := sget_tidy h
      exact ⟨j + 1, c', x0', by omega, by simpa using h2, h3, h4⟩

theorem RB.ren {φ' : Phi} {bs : List Nat} (hφ : ∀ (i : Nat) b, bs[i]? = some b → φ' i = φ b) {i b : Nat} (hi : bs[i]? = some b) {x : Blk} (h : RB φ w S b x) : RB φ' w S i (x.ren bs) := by
  cases x with
  | box cs =>
    obtain ⟨h0, vs, E, h1, h2, h3⟩ := h
    simp only [Blk.ren, RB, hφ i b hi]
    exact ⟨h0, vs, E, h1, h2.map_left fun _ _ => RC.ren hφ, h3⟩
  | arr sz es => simp only [Blk.ren, RB, hφ i b hi]; exact h

/-- what is not wanted any more is dropped; the blocks are numbered anew -/
theorem Rel.tidy (R : Rel Γ nt φ S env σ (lt N) a w) (ks bs : List Nat) (hnd : bs.Nodup) (hk : keeps Γ.k bs = true) :
    ∃ φ', Rel Γ nt φ' S (tidyEnv bs env ks) (tidySt bs σ 0 bs) (lt bs.length) a w := by
  have hφ : ∀ (i : Nat) b, bs[i]? = some b → (fun i => φ ((bs[i]?).getD 0)) i = φ b := by intro i b h; simp [h]
  have hkeep : ∀ i : Nat, i < Γ.k → bs[i]? = some i := by
    intro i hi
    simp only [keeps, List.all_eq_true, List.mem_range, beq_iff_eq] at hk
    exact hk i hi
  refine ⟨fun i => φ ((bs[i]?).getD 0), ⟨⟨fun b x hx => ?_, fun b b' x y hx hy hne h0 h0' => ?_, R.sim.st⟩, fun k g v hl hg => ?_, fun k g v hl hg => ?_, fun k g v hl hg => ?_, fun b x hx => ?_, R.size, R.defers, R.ext, fun b x hx h0 => ?_, fun b hb => ?_, fun b hb => ?_⟩⟩
  · obtain ⟨j, c, x0, rfl, h2, h3, rfl⟩ := sget_tidy hx
    rw [Nat.zero_add]
    exact RB.ren hφ h2 (R.sim.blk c x0 h3)
  · obtain ⟨j, c, x0, rfl, h2, h3, rfl⟩ := sget_tidy hx
    obtain ⟨j', c', x0', rfl, h2', h3', rfl⟩ := sget_tidy hy
    simp only [Nat.zero_add, h2, h2', Option.getD_some] at h0 h0' ⊢
    refine R.sim.inj c c' x0 x0' h3 h3' ?_ h0 h0'
    intro e
    subst e
    have l1 := (List.getElem?_eq_some_iff.1 h2)
    have l2 := (List.getElem?_eq_some_iff.1 h2')
    obtain ⟨a1, b1⟩ := l1
    obtain ⟨a2, b2⟩ := l2
    have hp := List.pairwise_iff_getElem.1 hnd
    rcases Nat.lt_trichotomy j j' with h | h | h
    · exact hp j j' a1 a2 h (b1.trans b2.symm)
    · subst h; exact hne rfl
    · exact hp j' j a2 a1 h (b2.trans b1.symm)
  · obtain ⟨v0, h1, rfl⟩ := look_tidy hl
    obtain ⟨x, hx, hr⟩ := R.envs k g v0 h1 hg
    exact ⟨x, hx, RV.ren hφ hr⟩
  · obtain ⟨v0, h1, rfl⟩ := look_tidy hl
    exact R.envn k g v0 h1 hg
  · obtain ⟨v0, h1, rfl⟩ := look_tidy hl
    exact V.ren_bnd v0
  · obtain ⟨j, c, x0, rfl, h2, h3, rfl⟩ := sget_tidy hx
    refine ⟨by simp [lt]; exact (List.getElem?_eq_some_iff.1 h2).1, ?_⟩
    cases x0 with
    | box cs => simp only [Blk.ren, Blk.bnd, List.all_map, List.all_eq_true]; intro c _; exact C.ren_bnd c
    | arr sz es => rfl
  · obtain ⟨j, c, x0, rfl, h2, h3, rfl⟩ := sget_tidy hx
    simp only [Nat.zero_add, h2, Option.getD_some] at h0 ⊢
    exact R.own c x0 h3 h0
  · simp only [hkeep b hb, Option.getD_some]; exact R.fix b hb
  · simp only [lt, decide_eq_true_eq]; exact (List.getElem?_eq_some_iff.1 (hkeep b hb)).1

theorem AW.tidy {c : ACode} {Q : Exit → Env → Store → Nat → Prop} (ks bs : List Nat) (hnd : bs.Nodup) (hk : keeps kk bs = true) (h : AW P nt kk c (tidyEnv bs env ks) (tidySt bs σ 0 bs) bs.length Q) : AW P nt kk c env σ N Q := by
  intro code hc Γ φ S a w hkk R
  subst hkk
  obtain ⟨φ', R'⟩ := R.tidy ks bs hnd hk
  exact h code hc Γ φ' S a w rfl R'

end
end Go.Proofs.Ytkdepbmeaiefeaa.Shv
