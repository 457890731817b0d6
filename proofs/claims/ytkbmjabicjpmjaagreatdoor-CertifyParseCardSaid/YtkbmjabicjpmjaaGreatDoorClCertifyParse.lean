/- The tied card of CertifyParse. -/
import Derived.Test.YtkbmjabicjpmjaaGreatDoorCuZ
import Derived.Test.YtkbmjabicjpmjaaGreatDoorTie
import Derived.Test.YtkbmjabicjpmjaaGreatDoorCards
import Derived.SevenTiedAt
namespace Go.Proofs.YtkbmjabicjpmjaaGreatDoor.certifyParse
open Go Go.Proofs.YtkbmjabicjpmjaaGreatDoor
set_option linter.all false
set_option maxRecDepth 100000
theorem c1 : Rows.certifyParseRow.wfByText (OpenSpec.ofChange Rows.certifyParseSpec) = true := by kernel_rfl
theorem c2 : Tryz.pinned.checked.prog.mainIs = some (true, "3b285d9c6a17fb36c0427ec59b8b8315546b8d8b8184c5ec67fd70d7a8c1116c".toList) := by kernel_rfl
theorem c3 : true = Tryz.pinned.checked.prog.looks [] := by kernel_rfl
theorem c4 : (Tryz.f10.params.toList.all fun u => !Tryz.prog.wantsStandIn u) = true := by kernel_rfl
theorem c5 : false = Rows.certifyParseRow.goesBy Tryz.pinned.checked.prog := by kernel_rfl
theorem proved : Rows.CertifyParseCardSaid :=
  Claim7.holds_tied_plain_at .later [] [.data, .data, .data, .data, .sentinel, .sentinel, .pinned] true (true, "3b285d9c6a17fb36c0427ec59b8b8315546b8d8b8184c5ec67fd70d7a8c1116c") true
    bare (fun _ h => by cases h) c1 (fun _ h => by cases h) certifyParse_row_tie rfl ⟨rfl, rfl⟩ c2 rfl
    (fun f fn hf hfn => by
      obtain rfl : f = 10 := Option.some.inj (kN.symm.trans hf) |>.symm
      obtain rfl : fn = Tryz.f10 := (Option.some.inj (Tryz.func10.symm.trans hfn)).symm
      exact ⟨c3, fun j t ht => by
        have hm : t ∈ Tryz.f10.params.toList := by simpa using Array.mem_of_getElem? ht
        have := List.all_eq_true.1 c4 t hm
        rw [Bool.not_eq_true'] at this
        exact this⟩)
    c5
end Go.Proofs.YtkbmjabicjpmjaaGreatDoor.certifyParse
