/- The abstract machine, part 20: loops whose state is tidied at every round's end. -/
import Derived.Test.YtkdepbmeaiefeaaShvDraw3
namespace Go.Proofs.Ytkdepbmeaiefeaa.Shv
set_option linter.all false
open Go

section
variable {P : Program} {nt kk : Nat} {env : Env} {σ : Store} {N : Nat} {Q : Exit → Env → Store → Nat → Prop}

theorem arounds_tidy {c : ACode} {m : Nat} (ks bs : List Nat) (hnd : bs.Nodup) (hk : keeps kk bs = true) (h : arounds P nt kk c Q (m + 1) (tidyEnv bs env ks) (tidySt bs σ 0 bs) bs.length) : arounds P nt kk c Q (m + 1) env σ N :=
  AW.tidy ks bs hnd hk h

/-- a loop by a measure; at a round's end the slots ks and the blocks bs are kept -/
theorem AW.loop_tidy {c : ACode} (ks bs : List Nat) (hnd : bs.Nodup) (hk : keeps kk bs = true) (I : Nat → Env → Store → Nat → Prop) {m : Nat} (h0 : I m (tidyEnv bs env ks) (tidySt bs σ 0 bs) bs.length)
    (hr : ∀ m env σ N, I m env σ N → AW P nt kk c env σ N (andThen (fun env σ N => ∃ k, k < m ∧ I k (tidyEnv bs env ks) (tidySt bs σ 0 bs) bs.length) Q)) : AW P nt kk (.loop c) env σ N Q := by
  have key : ∀ m k env σ N, k ≤ m → I k env σ N → arounds P nt kk c Q (m + 1) env σ N := by
    intro m
    induction m with
    | zero =>
      intro k env σ N hk' hI
      have : k = 0 := by omega
      subst this
      exact AW.mono (hr 0 env σ N hI) fun e env σ N hq => by
        cases e with
        | normal => obtain ⟨j, hj, _⟩ := hq; omega
        | _ => exact hq
    | succ m ih =>
      intro k env σ N hk' hI
      exact AW.mono (hr k env σ N hI) fun e env σ N hq => by
        cases e with
        | normal => obtain ⟨j, hj, hI'⟩ := hq; exact arounds_tidy ks bs hnd hk (ih j _ _ _ (by omega) hI')
        | _ => exact hq
  exact AW.loop_rounds (m + 1) (arounds_tidy ks bs hnd hk (key m m _ _ _ (Nat.le_refl _) h0))

end
end Go.Proofs.Ytkdepbmeaiefeaa.Shv
