/- The tied card of TopReadings. -/
import Derived.Test.YtfcnkdegapjgnaaGreatDoorTrZ
import Derived.Test.YtfcnkdegapjgnaaGreatDoorTie
import Derived.Test.YtfcnkdegapjgnaaGreatDoorCards
import Derived.SevenTiedAt
namespace Go.Proofs.YtfcnkdegapjgnaaGreatDoor.topReadings
open Go Go.Proofs.YtfcnkdegapjgnaaGreatDoor
set_option linter.all false
set_option maxRecDepth 100000
theorem c1:Rows.topReadingsRow.wfByText (OpenSpec.ofChange Rows.topReadingsSpec)=true:=by kernel_rfl
theorem c2:Tryz.pinned.checked.prog.mainIs = some (true, "bda40b8949e1d184136f3958d5f985d915529d6fbb506f233cd558ab37c60d94".toList):= by kernel_rfl
theorem c3:true=Tryz.pinned.checked.prog.looks []:=by kernel_rfl
theorem c4:(Tryz.f3.params.toList.all λu=>!Tryz.prog.wantsStandIn u)=true:=by kernel_rfl
theorem c5:false=Rows.topReadingsRow.goesBy Tryz.pinned.checked.prog:=by kernel_rfl
theorem proved:Rows.TopReadingsCardSaid:=
  Claim7.holds_tied_plain_at .later [] [.data, .data, .data, .sentinel, .sentinel, .widerDeep] true (true, "bda40b8949e1d184136f3958d5f985d915529d6fbb506f233cd558ab37c60d94") true
    bare (λ_ h=>by cases h) c1 (λ_ h=>by cases h) topReadings_row_tie rfl ⟨rfl,rfl⟩ c2 rfl
    (λf fn ag9 ahk=>by
      obtain rfl:f = 3:= Option.some.inj (PX.symm.trans ag9) |>.symm
      obtain rfl:fn = Tryz.f3:= (Option.some.inj (Tryz.func3.symm.trans ahk)).symm
      exact ⟨c3,λj t ht=>by
        have hm:t∈Tryz.f3.params.toList:= by simpa using Array.mem_of_getElem? ht
        have:= List.all_eq_true.1 c4 t hm
        rw [Bool.not_eq_true'] at this
        exact this⟩)
    c5
end Go.Proofs.YtfcnkdegapjgnaaGreatDoor.topReadings
