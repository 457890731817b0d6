/- The abstract machine, part 19: the rule for a region that draws its order. -/
import Derived.Test.YtkdepbmeaiefeaaShvDraw2
namespace Go.Proofs.Ytkdepbmeaiefeaa.Shv
set_option linter.all false
open Go

def critOk (aos : List AOper) (env : Env) (N : Nat) : List (Nat × Nat) → Bool
  | [] => true
  | (i, j) :: r => (match aos[i]?, aos[j]? with
    | some x, some y => (tch y.op env (N + 16 * j)).all fun b => !(wrB x.op env (N + 16 * i) b)
    | _, _ => false) && critOk aos env N r

theorem critOk_get {aos : List AOper} {env : Env} {N : Nat} : ∀ {crit : List (Nat × Nat)} {i j : Nat} {x y : AOper}, critOk aos env N crit = true → (i, j) ∈ crit → aos[i]? = some x → aos[j]? = some y → ∀ b, b ∈ tch y.op env (N + 16 * j) → wrB x.op env (N + 16 * i) b = false
  | [], i, j, x, y, h, hm, _, _, _, _ => by simp at hm
  | (i0, j0) :: r, i, j, x, y, h, hm, hx, hy, b, hb => by
    simp only [critOk, Bool.and_eq_true] at h
    rcases List.mem_cons.1 hm with e | hm
    · cases e
      rw [hx, hy] at h
      have := h.1
      simp only [List.all_eq_true, Bool.not_eq_true'] at this
      exact this b hb
    · exact critOk_get h.2 hm hx hy b hb

section
variable {P : Program} {Γ : Ctx} {nt kk : Nat} {N : Nat} {ops : Array Oper} {aos : List AOper} {E : Nat → Env} {T : Nat → Store} {G : Nat → Bool} {W : Nat → V}

theorem withDeps_get {i : Nat} {o : Oper} {x : AOper} (ho : ops[i]? = some o) (hx : aos[i]? = some x) : (withDeps ops aos)[i]? = some (x, depsOf o) := by
  unfold withDeps
  rw [List.getElem?_zip_eq_some]
  refine ⟨hx, ?_⟩
  rw [List.getElem?_map]
  simp [ho]

theorem stat_of (hlen : aos.length = ops.size) (hok : drawOk (withDeps ops aos) = true) (hr : DRun P aos N E T G W) (hcrit : critOk aos (E aos.length) N (critOf (withDeps ops aos)) = true) :
    Stat aos (fun i => ((ops[i]?).map depsOf).getD []) E N := by
  simp only [drawOk, Bool.and_eq_true] at hok
  obtain ⟨⟨hback, hssa⟩, _⟩ := hok
  have hget : ∀ i, i < aos.length → ∃ o x, ops[i]? = some o ∧ aos[i]? = some x ∧ (withDeps ops aos)[i]? = some (x, depsOf o) := by
    intro i hi
    have ho : ops[i]? = some ops[i] := Array.getElem?_eq_getElem (by omega)
    have hx : aos[i]? = some aos[i] := List.getElem?_eq_getElem hi
    exact ⟨_, _, ho, hx, withDeps_get ho hx⟩
  have hahead : ∀ i j, ahead (withDeps ops aos) j i = true → j < i ∧ j ∈ ((ops[i]?).map depsOf).getD [] := by
    intro i j h
    obtain ⟨h1, y, h2, h3⟩ := ahead_inv h
    refine ⟨h1, ?_⟩
    have hi : i < aos.length := by
      have := (List.getElem?_eq_some_iff.1 h2).1
      unfold withDeps at this; simp at this; omega
    obtain ⟨o, x, ho, hx, hL⟩ := hget i hi
    rw [hL] at h2; cases h2
    rw [ho]; exact h3
  have hssa' : ∀ (i j : Nat) (x y : AOper) (d : Nat), aos[i]? = some x → aos[j]? = some y → y.dst = some d → (d ∈ x.rd → (j < i ∧ j ∈ ((ops[i]?).map depsOf).getD []) ∨ (x.op.neutral = true ∧ x.op.touches = false ∧ i < j ∧ i ∈ ((ops[j]?).map depsOf).getD [])) ∧ (i = j ∨ x.dst ≠ some d) := by
    intro i j x y d hx hy hyd
    obtain ⟨oi, x', hoi, hx', hLi⟩ := hget i (List.getElem?_eq_some_iff.1 hx).1
    obtain ⟨oj, y', hoj, hy', hLj⟩ := hget j (List.getElem?_eq_some_iff.1 hy).1
    rw [hx] at hx'; cases hx'
    rw [hy] at hy'; cases hy'
    simp only [ssaOk, List.all_eq_true] at hssa
    have h1 := hssa ((x, depsOf oi), i) (List.mem_of_getElem? (i := i) (by simp [List.getElem?_zipIdx, hLi]))
    have h2 := h1 ((y, depsOf oj), j) (List.mem_of_getElem? (i := j) (by simp [List.getElem?_zipIdx, hLj]))
    simp only [hyd, Bool.and_eq_true, Bool.or_eq_true, Bool.not_eq_true', beq_iff_eq] at h2
    refine ⟨fun hd => ?_, ?_⟩
    · rcases h2.1 with (h | h) | ⟨⟨h, h'⟩, h''⟩
      · rw [List.contains_eq_mem] at h; simp at h; exact absurd hd h
      · exact .inl (hahead i j h)
      · exact .inr ⟨h, h', (hahead j i h'').1, (hahead j i h'').2⟩
    · rcases h2.2 with h | h
      · exact .inl h
      · exact .inr (by simpa using h)
  refine ⟨fun i d hi hd => ?_, hssa', ?_⟩
  · obtain ⟨o, x, ho, hx, hL⟩ := hget i hi
    rw [ho] at hd
    have := depsBack_get hback hL d hd
    omega
  · -- two operations that touch one block
    have hlook : ∀ (i : Nat) (x : AOper), aos[i]? = some x → ¬ (x.op.neutral = true ∧ x.op.touches = false) → ∀ t, t ∈ x.op.reads → look (E aos.length) t = look (E i) t := by
      intro i x hx hnn t ht
      have hi := (List.getElem?_eq_some_iff.1 hx).1
      refine run_look hr (by omega) (Nat.le_refl _) fun j y hj1 hj2 hy hyt => ?_
      rcases (hssa' i j x y t hx hy hyt).1 (rd_reads ht) with h | h
      · omega
      · exact hnn ⟨h.1, h.2.1⟩
    have hpair : ∀ (i j : Nat) (x y : AOper) (b : Nat), i ≠ j → aos[i]? = some x → aos[j]? = some y → wrB x.op (E i) (N + 16 * i) b = true → b ∈ tch y.op (E j) (N + 16 * j) → ahead (withDeps ops aos) i j = true ∨ ahead (withDeps ops aos) j i = true := by
      intro i j x y b hne hx hy hw hb
      by_cases h1 : ahead (withDeps ops aos) i j = true
      · exact .inl h1
      · by_cases h2 : ahead (withDeps ops aos) j i = true
        · exact .inr h2
        · exfalso
          obtain ⟨oi, x', hoi, hx', hLi⟩ := hget i (List.getElem?_eq_some_iff.1 hx).1
          obtain ⟨oj, y', hoj, hy', hLj⟩ := hget j (List.getElem?_eq_some_iff.1 hy).1
          rw [hx] at hx'; cases hx'
          rw [hy] at hy'; cases hy'
          have ht : y.op.touches = true := by
            cases h : y.op.touches with
            | true => rfl
            | false => rw [not_touches h] at hb; simp at hb
          have hm : (i, j) ∈ critOf (withDeps ops aos) := by
            simp only [critOf, List.mem_flatMap]
            refine ⟨((x, depsOf oi), i), List.mem_of_getElem? (i := i) (by simp [List.getElem?_zipIdx, hLi]), ?_⟩
            dsimp only
            rw [wr_effect hw]
            simp only [Bool.false_eq_true, if_false, List.mem_filterMap]
            refine ⟨((y, depsOf oj), j), List.mem_of_getElem? (i := j) (by simp [List.getElem?_zipIdx, hLj]), ?_⟩
            dsimp only
            rw [if_pos]
            simp [ht, hne, h1, h2]
          have := critOk_get hcrit hm hx hy b (by rw [tch_congr (hlook j y hy (fun h => by rw [ht] at h; cases h.2))]; exact hb)
          rw [wrB_congr (hlook i x hx (fun h => by rw [wr_effect hw] at h; cases h.1))] at this
          rw [hw] at this; cases this
    intro i j b hne hi hj hw hb
    obtain ⟨oi, x, hoi, hx, hLi⟩ := hget i hi
    obtain ⟨oj, y, hoj, hy, hLj⟩ := hget j hj
    have hwx : wrB x.op (E i) (N + 16 * i) b = true := by unfold wrAt at hw; rw [hx] at hw; exact hw
    have conv : (ahead (withDeps ops aos) i j = true ∨ ahead (withDeps ops aos) j i = true) → (i < j ∧ i ∈ ((ops[j]?).map depsOf).getD []) ∨ (j < i ∧ j ∈ ((ops[i]?).map depsOf).getD []) := by
      rintro (h | h)
      · exact .inl (hahead j i h)
      · exact .inr (hahead i j h)
    rcases hb with ⟨y', hy', hb⟩ | hb
    · rw [hy] at hy'; cases hy'
      exact conv (hpair i j x y b hne hx hy hwx hb)
    · have hwy : wrB y.op (E j) (N + 16 * j) b = true := by unfold wrAt at hb; rw [hy] at hb; exact hb
      cases hty : y.op.touches with
      | true => exact conv (hpair i j x y b hne hx hy hwx (touches_wr hty hwy))
      | false =>
        cases htx : x.op.touches with
        | true => exact conv (hpair j i y x b (Ne.symm hne) hy hx hwy (touches_wr htx hwx)).symm
        | false =>
          have h1 := wr_call htx hwx
          have h2 := wr_call hty hwy
          exfalso; omega

theorem AW.regionD {crit : List (Nat × Nat)} {env : Env} {σ : Store} {Q : Exit → Env → Store → Nat → Prop} (h : dops P aos N env σ (fun e s => critOk aos e N crit = true ∧ Q .normal e s (N + 16 * aos.length))) : AW P nt kk (.regionD aos crit) env σ N Q := by
  intro code hc Γ φ S a w hkk R
  obtain ⟨id, ops, rfl, hres, hok, hmix, rfl⟩ := resolve_regionD hc
  have hlen := resolveOps_length hres
  simp at hlen
  obtain ⟨E, T, G, W, hr, e0, t0, hcr, hQ⟩ := dops_run h
  refine wp_region_any hmix ?_
  refine wpAny_of_run (Γ := Γ) (nt := nt) (stat_of hlen hok hr hcr) hr hres (fun i o ho => by simp [ho]) (fun φ S a w R' => ⟨φ, S, _, _, _, hQ, R'⟩) ops.size _ φ S env σ a _ ?_ ?_
  · have := List.countP_le_length (p := fun x : Bool => x == false) (l := (Array.replicate ops.size false).toList)
    simpa using this
  · have R' : Rel Γ nt φ S env σ (lt N) a { w with drawn := w.drawn + 1 } := R.drew
    refine ⟨R'.more fun b hb => by simp [used, hb], by simp [hlen], fun i hi hl => ?_, fun t _ => by rw [e0], fun t i o ho hl => ?_, fun b _ => by rw [t0], fun b i hi hl => ?_⟩
    · simp at hl; exact absurd hl (by cases h : (Array.replicate ops.size false)[i]? <;> simp_all [Array.getElem?_replicate])
    · exfalso; simp [Array.getElem?_replicate] at hl; split at hl <;> simp at hl
    · exfalso; simp [Array.getElem?_replicate] at hl; split at hl <;> simp at hl

end
end Go.Proofs.Ytkdepbmeaiefeaa.Shv
