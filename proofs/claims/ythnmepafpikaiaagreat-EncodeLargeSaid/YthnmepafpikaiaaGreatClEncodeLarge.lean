/- The statement EncodeLarge holds as its row states it, for every input. -/
import Derived.Test.YthnmepafpikaiaaGreatRows
import Derived.Test.YthnmepafpikaiaaGreatElB
import Derived.OpenShut
import Derived.JoinedOf
namespace Go.Proofs.YthnmepafpikaiaaGreat.encodeLarge
open Go Go.ChangeShapes Go.WideShapes Go.ChangeAt Go.RowKit Go.Proofs.YthnmepafpikaiaaGreat Go.Proofs.YthnmepafpikaiaaGreat.Shv
set_option linter.all false
set_option maxRecDepth 100000

theorem own : ownKnob Tryz.prog.godebug = none := by kernel_rfl

/-- the numbers of the structs, by the types of the program -/
def strL : List (TypeId × Nat) := [(37, 9), (40, 5), (47, 13), (49, 12), (53, 1), (72, 8), (77, 3), (91, 10), (98, 4), (103, 7), (119, 0), (139, 11), (154, 2), (183, 6)]
def strs : TypeId → Option Nat := stOf strL
theorem strsOk : StOk Tryz.prog Un strs := gz0 (by kernel_rfl)

theorem parts : parOk Tryz.prog Un strs Tryz.f10.params.toList e10.sa e10.ts = true := by kernel_rfl

theorem plain : ∀ h : Hs Un.D e10.ts, Ok Un e10.ts h → g4b h = some true := fun h hk => law_EncodeLarge h hk

theorem contract (H : Type) (enc : TypeId × Value → H) (W : World) (base : Nat) (args : Array Value) (ds gs : List (DataW H)) (before : List MemPlace)
    (hval : ∀ (j : Nat) t v, Tryz.f10.params[j]? = some t → args[j]? = some v → Value.okWide Tryz.prog W .any base t v)
    (hW : DataW.Whole enc Tryz.prog Tryz.f10.params.toList Rows.encodeLargeSpec.vars false W args.toList ds gs before)
    (hk : (DataW.weightsEach Tryz.prog (Tryz.f10.params.toList ++ Rows.encodeLargeSpec.plain.varTypes Tryz.prog) (ds ++ gs)).all (· ≤ reachBytes) = true) :
    Calls Tryz.prog 10 args W fun e W' => ∃ v, e = .returned v ∧ Rows.encodeLargeSpec.post enc Tryz.prog Tryz.f10 false true false false W args v W' :=
  law_contract (U := Un) (st := strs) gyz gmu.2 plain strsOk parts (hres := rfl) (htb := by kernel_rfl) rfl
    (fun ds hd => match ds, hd with | [d0, d1, d2], _ => ⟨rfl, rfl, rfl⟩) (by kernel_rfl) (by kernel_rfl) (by kernel_rfl) hval hW hk

theorem lifted (os : Os) (started : os.Started) (H : Type) (enc : TypeId × Value → H) :
    ReturnsInHanded {} Tryz.checked os 10 .any (Rows.encodeLargeSpec.pre6 enc Tryz.prog Tryz.f10 Rows.encodeLargeRow.domain false) (Rows.encodeLargeSpec.post enc Tryz.prog Tryz.f10 false true false false) := by
  refine returnsInHanded_of_change_sized (C := Tryz.checked) own started (by kernel_rfl) Tryz.func10
    (ChangeSpec.witness6 (enc := enc) (C := Tryz.checked) false ⟨#[], #[.int .u8 0, .int .u8 0, .int .u8 0], []⟩ 12 (by kernel_rfl) (by kernel_rfl) (by kernel_rfl) (by kernel_rfl)) ?_
  intro W base args ds gs before hval hW _ hk _
  exact contract H enc W base args ds gs before hval hW hk

theorem proved : Rows.EncodeLargeSaid :=
  OpenClaim.holds_of_wide 10 Tryz.f10 rfl rfl rfl rfl rfl rfl rfl ⟨rfl, rfl, rfl, rfl, rfl⟩ rfl rfl rfl rfl rfl (by kernel_rfl) Tryz.func10 (by kernel_rfl)
    (of_decide_eq_true (by kernel_rfl)) (by unfold Func.isWrapper; first | (rw [if_pos (by decide +kernel)]; kernel_rfl) | (rw [if_neg (by decide +kernel)]; exact ⟨rfl, rfl⟩))
    (fun os started H enc _ => lifted os started H enc)
end Go.Proofs.YthnmepafpikaiaaGreat.encodeLarge
