/- The laws of the spool as the rows ask for them. -/
import Derived.Test.YtkdepbmeaiefeaaSpoL3
namespace Go.Proofs.Ytkdepbmeaiefeaa
open Go Go.Proofs.Ytkdepbmeaiefeaa.Shv
set_option linter.all false

theorem fits_of {s : Spool} (h : ∀ d, d ∈ (Ty.nm 0).row Un s → WF Un d) : Fits s := by
  have h1 := h ⟨.slice (.nm 1), s.Items⟩ (by simp only [Ty.row, Un, uFlds]; exact List.mem_cons_self ..)
  cases h1 with
  | slice _ _ h2 _ => exact h2

theorem ok_one1 {t : Ty} {x : t.den Un.D} (h : Ok Un [t] x) : ∀ d, d ∈ t.row Un x → WF Un d := fun d hd => h ⟨t, x⟩ (List.mem_cons_self ..) d hd

theorem lawSpoolValid (h : Hs Un.D [.nm 0]) (hk : Ok Un [.nm 0] h) : sheavelaw51_SpoolValid h = some true := SpoolValid_law (fits_of (ok_one1 (t := .nm 0) hk))

end Go.Proofs.Ytkdepbmeaiefeaa
