/- The statement SpoolErrors holds as its row states it, for every input. -/
import Derived.Test.YtbciniegpkkapaaGreatRows
import Derived.Test.YtbciniegpkkapaaGreatSeA
import Derived.OpenShut
import Derived.JoinedOf
namespace Go.Proofs.YtbciniegpkkapaaGreat.spoolErrors
open Go Go.ChangeShapes Go.WideShapes Go.ChangeAt Go.RowKit Go.Proofs.YtbciniegpkkapaaGreat Go.Proofs.YtbciniegpkkapaaGreat.Shv
set_option linter.all false
set_option maxRecDepth 100000

theorem own : ownKnob Tryz.prog.godebug = none := by kernel_rfl

/-- the numbers of the structs, by the types of the program -/
def strL : List (TypeId × Nat) := [(24, 0), (26, 2), (41, 1), (60, 4), (62, 3), (70, 8), (113, 5), (141, 9), (145, 7), (194, 6)]
def strs : TypeId → Option Nat := stOf strL
theorem strsOk : StOk Tryz.prog Un strs := qS (by kernel_rfl)

theorem parts : parOk Tryz.prog Un strs Tryz.f3.params.toList e3.sa e3.ts = true := by kernel_rfl

theorem plain : ∀ h : Hs Un.D e3.ts, Ok Un e3.ts h → ep h = some true := fun h hk => law_SpoolErrors h hk

theorem contract (H : Type) (enc : TypeId × Value → H) (W : World) (base : Nat) (args : Array Value) (ds gs : List (DataW H)) (before : List MemPlace)
    (hval : ∀ (j : Nat) t v, Tryz.f3.params[j]? = some t → args[j]? = some v → Value.okWide Tryz.prog W .any base t v)
    (hW : DataW.Whole enc Tryz.prog Tryz.f3.params.toList Rows.spoolErrorsSpec.vars false W args.toList ds gs before)
    (hk : (DataW.weightsEach Tryz.prog (Tryz.f3.params.toList ++ Rows.spoolErrorsSpec.plain.varTypes Tryz.prog) (ds ++ gs)).all (· ≤ reachBytes) = true) :
    Calls Tryz.prog 3 args W fun e W' => ∃ v, e = .returned v ∧ Rows.spoolErrorsSpec.post enc Tryz.prog Tryz.f3 false true false false W args v W' :=
  law_contract (U := Un) (st := strs) qR qQ.2 plain strsOk parts (hres := rfl) (htb := by kernel_rfl) rfl
    (fun ds hd => match ds, hd with | [d0, d1], _ => ⟨rfl, rfl, rfl⟩) (by kernel_rfl) (by kernel_rfl) (by kernel_rfl) hval hW hk

theorem lifted (os : Os) (started : os.Started) (H : Type) (enc : TypeId × Value → H) :
    ReturnsInHanded {} Tryz.checked os 3 .any (Rows.spoolErrorsSpec.pre6 enc Tryz.prog Tryz.f3 Rows.spoolErrorsRow.domain false) (Rows.spoolErrorsSpec.post enc Tryz.prog Tryz.f3 false true false false) := by
  refine returnsInHanded_of_change_sized (C := Tryz.checked) own started (by kernel_rfl) Tryz.func3
    (ChangeSpec.witness6 (enc := enc) (C := Tryz.checked) false ⟨#[], #[.agg #[.slice none 0 0, .int .i64 0, .int .i64 0], .agg #[.int .u8 0, .int .i64 0, .int .i64 0]], []⟩ 12 (by kernel_rfl) (by kernel_rfl) (by kernel_rfl) (by kernel_rfl)) ?_
  intro W base args ds gs before hval hW _ hk _
  exact contract H enc W base args ds gs before hval hW hk

theorem proved : Rows.SpoolErrorsSaid :=
  OpenClaim.holds_of_wide 3 Tryz.f3 rfl rfl rfl rfl rfl rfl rfl ⟨rfl, rfl, rfl, rfl, rfl⟩ rfl rfl rfl rfl rfl (by kernel_rfl) Tryz.func3 (by kernel_rfl)
    (of_decide_eq_true (by kernel_rfl)) (by unfold Func.isWrapper; first | (rw [if_pos (by decide +kernel)]; kernel_rfl) | (rw [if_neg (by decide +kernel)]; exact ⟨rfl, rfl⟩))
    (fun os started H enc _ => lifted os started H enc)
end Go.Proofs.YtbciniegpkkapaaGreat.spoolErrors
