/- The tied card of CertifyPath. -/
import Derived.Test.YtkbmjabicjpmjaaGreatDoorCbZ
import Derived.Test.YtkbmjabicjpmjaaGreatDoorTie
import Derived.Test.YtkbmjabicjpmjaaGreatDoorCards
import Derived.SevenTiedAt
namespace Go.Proofs.YtkbmjabicjpmjaaGreatDoor.certifyPath
open Go Go.Proofs.YtkbmjabicjpmjaaGreatDoor
set_option linter.all false
set_option maxRecDepth 100000
theorem c1:Rows.certifyPathRow.wfByText (OpenSpec.ofChange Rows.certifyPathSpec) = true:= by kernel_rfl
theorem c2:Tryz.pinned.checked.prog.mainIs = some (true, "3b285d9c6a17fb36c0427ec59b8b8315546b8d8b8184c5ec67fd70d7a8c1116c".toList):= by kernel_rfl
theorem c3:true = Tryz.pinned.checked.prog.looks []:= by kernel_rfl
theorem c4:(Tryz.f5.params.toList.all λu=> !Tryz.prog.wantsStandIn u) = true:= by kernel_rfl
theorem c5:false = Rows.certifyPathRow.goesBy Tryz.pinned.checked.prog:= by kernel_rfl
theorem proved:Rows.CertifyPathCardSaid:=
  Claim7.holds_tied_plain_at .later [] [.data, .data, .data] true (true, "3b285d9c6a17fb36c0427ec59b8b8315546b8d8b8184c5ec67fd70d7a8c1116c") true
    bare (λ_ h=>by cases h) c1 (λ_ h=>by cases h) certifyPath_row_tie rfl ⟨rfl,rfl⟩ c2 rfl
    (λf fn hf hfn=>by
      obtain rfl:f = 5:= Option.some.inj (kN.symm.trans hf) |>.symm
      obtain rfl:fn = Tryz.f5:= (Option.some.inj (Tryz.func5.symm.trans hfn)).symm
      exact ⟨c3,λj t ht=>by
        have hm:t∈Tryz.f5.params.toList:= by simpa using Array.mem_of_getElem? ht
        have:= List.all_eq_true.1 c4 t hm
        rw [Bool.not_eq_true'] at this
        exact this⟩)
    c5
end Go.Proofs.YtkbmjabicjpmjaaGreatDoor.certifyPath
