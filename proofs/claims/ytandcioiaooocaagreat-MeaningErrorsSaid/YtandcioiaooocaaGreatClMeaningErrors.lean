/- The statement MeaningErrors holds as its row states it, for every input. -/
import Derived.Test.YtandcioiaooocaaGreatRows
import Derived.Test.YtandcioiaooocaaGreatMeB
import Derived.OpenShut
import Derived.JoinedOf
namespace Go.Proofs.YtandcioiaooocaaGreat.meaningErrors
open Go Go.ChangeShapes Go.WideShapes Go.ChangeAt Go.RowKit Go.Proofs.YtandcioiaooocaaGreat Go.Proofs.YtandcioiaooocaaGreat.Shv
set_option linter.all false
set_option maxRecDepth 100000

theorem own : ownKnob Tryz.prog.godebug = none := by kernel_rfl

/-- the numbers of the structs, by the types of the program -/
def strL : List (TypeId × Nat) := [(24, 1), (27, 0), (33, 9), (37, 7), (59, 11), (74, 6), (81, 8), (88, 15), (96, 4), (102, 13), (106, 14), (112, 2), (118, 5), (125, 3), (206, 12), (245, 10)]
def strs : TypeId → Option Nat := stOf strL
theorem strsOk : StOk Tryz.prog Un strs := gz4 (by kernel_rfl)

theorem parts : parOk Tryz.prog Un strs Tryz.f8.params.toList e8.sa e8.ts = true := by kernel_rfl

theorem plain : ∀ h : Hs Un.D e8.ts, Ok Un e8.ts h → g40 h = some true := fun h hk => law_MeaningErrors h hk

theorem contract (H : Type) (enc : TypeId × Value → H) (W : World) (base : Nat) (args : Array Value) (ds gs : List (DataW H)) (before : List MemPlace)
    (hval : ∀ (j : Nat) t v, Tryz.f8.params[j]? = some t → args[j]? = some v → Value.okWide Tryz.prog W .any base t v)
    (hW : DataW.Whole enc Tryz.prog Tryz.f8.params.toList Rows.meaningErrorsSpec.vars false W args.toList ds gs before)
    (hk : (DataW.weightsEach Tryz.prog (Tryz.f8.params.toList ++ Rows.meaningErrorsSpec.plain.varTypes Tryz.prog) (ds ++ gs)).all (· ≤ reachBytes) = true) :
    Calls Tryz.prog 8 args W fun e W' => ∃ v, e = .returned v ∧ Rows.meaningErrorsSpec.post enc Tryz.prog Tryz.f8 false true false false W args v W' :=
  law_contract (U := Un) (st := strs) gz3 gn4.2 plain strsOk parts (hres := rfl) (htb := by kernel_rfl) rfl
    (fun ds hd => match ds, hd with | [d0], _ => ⟨rfl, rfl, rfl⟩) (by kernel_rfl) (by kernel_rfl) (by kernel_rfl) hval hW hk

theorem lifted (os : Os) (started : os.Started) (H : Type) (enc : TypeId × Value → H) :
    ReturnsInHanded {} Tryz.checked os 8 .any (Rows.meaningErrorsSpec.pre6 enc Tryz.prog Tryz.f8 Rows.meaningErrorsRow.domain false) (Rows.meaningErrorsSpec.post enc Tryz.prog Tryz.f8 false true false false) := by
  refine returnsInHanded_of_change_sized (C := Tryz.checked) own started (by kernel_rfl) Tryz.func8
    (ChangeSpec.witness6 (enc := enc) (C := Tryz.checked) false ⟨#[], #[.agg #[.slice none 0 0, .slice none 0 0, .int .i64 0, .int .i64 0, .int .i64 0, .bool false, .int .i64 0, .string ByteArray.empty, .int .i64 0, .slice none 0 0, .slice none 0 0, .slice none 0 0]], []⟩ 12 (by kernel_rfl) (by kernel_rfl) (by kernel_rfl) (by kernel_rfl)) ?_
  intro W base args ds gs before hval hW _ hk _
  exact contract H enc W base args ds gs before hval hW hk

theorem proved : Rows.MeaningErrorsSaid :=
  OpenClaim.holds_of_wide 8 Tryz.f8 rfl rfl rfl rfl rfl rfl rfl ⟨rfl, rfl, rfl, rfl, rfl⟩ rfl rfl rfl rfl rfl (by kernel_rfl) Tryz.func8 (by kernel_rfl)
    (of_decide_eq_true (by kernel_rfl)) (by unfold Func.isWrapper; first | (rw [if_pos (by decide +kernel)]; kernel_rfl) | (rw [if_neg (by decide +kernel)]; exact ⟨rfl, rfl⟩))
    (fun os started H enc _ => lifted os started H enc)
end Go.Proofs.YtandcioiaooocaaGreat.meaningErrors
