/- The statement CertifyCheck in its bounded form holds as its second tied card states it: the law returns true, whatever the arguments, where these hold at most 1048576 values and letters, each counted each time it is reached. -/
import Derived.Test.YtopcfbelfjclmaaGreatDoorCkZ
import Derived.Test.YtopcfbelfjclmaaGreatDoorTie
import Derived.Test.YtopcfbelfjclmaaGreatDoorCards
import Derived.SevenTiedAt
namespace Go.Proofs.YtopcfbelfjclmaaGreatDoor.certifyCheck
open Go Go.Proofs.YtopcfbelfjclmaaGreatDoor
set_option linter.all false
set_option maxRecDepth 100000
theorem c1 : Rows.certifyCheckUptoRow.wfByText (Rows.OpenSpec.upto Rows.certifyCheckSpec) = true := by kernel_rfl
theorem c2 : Tryz.pinned.checked.prog.mainIs = some (true, "be5e2f4204c076c8826c038efdb5c1d862b99035a622440831938946ebf3c67e".toList) := by kernel_rfl
theorem c3 : false = Tryz.pinned.checked.prog.looks [] := by kernel_rfl
theorem c4 : (Tryz.f3.params.toList.all fun u => !Tryz.prog.wantsStandIn u) = true := by kernel_rfl
theorem c5 : false = Rows.certifyCheckUptoRow.goesBy Tryz.pinned.checked.prog := by kernel_rfl
theorem proved : Rows.CertifyCheckUptoCardSaid :=
  Claim7.holds_tied_plain_at .later [] [.data, .data, .data] true (true, "be5e2f4204c076c8826c038efdb5c1d862b99035a622440831938946ebf3c67e") false
    bare (fun _ h => by cases h) c1 (fun _ h => by cases h) certifyCheckUpto_row_tie rfl ⟨rfl, rfl⟩ c2 rfl
    (fun f fn hf hfn => by
      obtain rfl : f = 3 := Option.some.inj (kN.symm.trans hf) |>.symm
      obtain rfl : fn = Tryz.f3 := (Option.some.inj (Tryz.func3.symm.trans hfn)).symm
      exact ⟨c3, fun j t ht => by
        have hm : t ∈ Tryz.f3.params.toList := by simpa using Array.mem_of_getElem? ht
        have := List.all_eq_true.1 c4 t hm
        rw [Bool.not_eq_true'] at this
        exact this⟩)
    c5
end Go.Proofs.YtopcfbelfjclmaaGreatDoor.certifyCheck
