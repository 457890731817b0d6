/- The statement MeaningDecode holds as its row states it, for every input. -/
import Derived.Test.YtandcioiaooocaaGreatRows
import Derived.Test.YtandcioiaooocaaGreatMdD
import Derived.OpenShut
import Derived.JoinedOf
namespace Go.Proofs.YtandcioiaooocaaGreat.meaningDecode
open Go Go.ChangeShapes Go.WideShapes Go.ChangeAt Go.RowKit Go.Proofs.YtandcioiaooocaaGreat Go.Proofs.YtandcioiaooocaaGreat.Shv
set_option linter.all false
set_option maxRecDepth 100000

theorem own : ownKnob Tryz.prog.godebug = none := by kernel_rfl

/-- the numbers of the structs, by the types of the program -/
def strL : List (TypeId × Nat) := [(24, 1), (27, 0), (30, 12), (33, 9), (37, 7), (59, 11), (74, 6), (81, 8), (88, 14), (96, 4), (102, 16), (112, 2), (118, 5), (122, 13), (125, 3), (206, 15), (245, 10)]
def strs : TypeId → Option Nat := stOf strL
theorem strsOk : StOk Tryz.prog Un strs := N6 (by kernel_rfl)

theorem parts : parOk Tryz.prog Un strs Tryz.f9.params.toList e9.sa e9.ts = true := by kernel_rfl

theorem plain : ∀ h : Hs Un.D e9.ts, Ok Un e9.ts h → nb h = some true := fun h hk => law_MeaningDecode h hk

theorem contract (H : Type) (enc : TypeId × Value → H) (W : World) (base : Nat) (args : Array Value) (ds gs : List (DataW H)) (before : List MemPlace)
    (hval : ∀ (j : Nat) t v, Tryz.f9.params[j]? = some t → args[j]? = some v → Value.okWide Tryz.prog W .any base t v)
    (hW : DataW.Whole enc Tryz.prog Tryz.f9.params.toList Rows.meaningDecodeSpec.vars false W args.toList ds gs before)
    (hk : (DataW.weightsEach Tryz.prog (Tryz.f9.params.toList ++ Rows.meaningDecodeSpec.plain.varTypes Tryz.prog) (ds ++ gs)).all (· ≤ reachBytes) = true) :
    Calls Tryz.prog 9 args W fun e W' => ∃ v, e = .returned v ∧ Rows.meaningDecodeSpec.post enc Tryz.prog Tryz.f9 false true false false W args v W' :=
  law_contract (U := Un) (st := strs) N5 N4.2 plain strsOk parts (hres := rfl) (htb := by kernel_rfl) rfl
    (fun ds hd => match ds, hd with | [d0], _ => ⟨rfl, rfl, rfl⟩) (by kernel_rfl) (by kernel_rfl) (by kernel_rfl) hval hW hk

theorem lifted (os : Os) (started : os.Started) (H : Type) (enc : TypeId × Value → H) :
    ReturnsInHanded {} Tryz.checked os 9 .any (Rows.meaningDecodeSpec.pre6 enc Tryz.prog Tryz.f9 Rows.meaningDecodeRow.domain false) (Rows.meaningDecodeSpec.post enc Tryz.prog Tryz.f9 false true false false) := by
  refine returnsInHanded_of_change_sized (C := Tryz.checked) own started (by kernel_rfl) Tryz.func9
    (ChangeSpec.witness6 (enc := enc) (C := Tryz.checked) false ⟨#[], #[.agg #[.slice none 0 0, .int .u8 0, .slice none 0 0, .slice none 0 0]], []⟩ 12 (by kernel_rfl) (by kernel_rfl) (by kernel_rfl) (by kernel_rfl)) ?_
  intro W base args ds gs before hval hW _ hk _
  exact contract H enc W base args ds gs before hval hW hk

theorem proved : Rows.MeaningDecodeSaid :=
  OpenClaim.holds_of_wide 9 Tryz.f9 rfl rfl rfl rfl rfl rfl rfl ⟨rfl, rfl, rfl, rfl, rfl⟩ rfl rfl rfl rfl rfl (by kernel_rfl) Tryz.func9 (by kernel_rfl)
    (of_decide_eq_true (by kernel_rfl)) (by unfold Func.isWrapper; first | (rw [if_pos (by decide +kernel)]; kernel_rfl) | (rw [if_neg (by decide +kernel)]; exact ⟨rfl, rfl⟩))
    (fun os started H enc _ => lifted os started H enc)
end Go.Proofs.YtandcioiaooocaaGreat.meaningDecode
