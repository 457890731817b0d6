/- The statement SpoolPortions holds as its row states it, for every input. -/
import Derived.Test.YtkdepbmeaiefeaaRows
import Derived.Test.YtkdepbmeaiefeaaSpoL7
import Derived.OpenShut
import Derived.JoinedOf
namespace Go.Proofs.Ytkdepbmeaiefeaa.spoolPortions
open Go Go.ChangeShapes Go.WideShapes Go.ChangeAt Go.RowKit Go.Proofs.Ytkdepbmeaiefeaa Go.Proofs.Ytkdepbmeaiefeaa.Shv
set_option linter.all false
set_option maxRecDepth 100000

theorem own : ownKnob Try.prog.godebug = none := by kernel_rfl

/-- the numbers of the structs, by the types of the program -/
def strs : TypeId → Option Nat
  | 24 => some 0
  | 34 => some 2
  | 42 => some 3
  | 46 => some 1
  | _ => none

theorem parts : parOk Try.prog Un strs Try.f7.params.toList sheavelaw51_SpoolPortions_s.sa sheavelaw51_SpoolPortions_s.ts = true := by kernel_rfl

theorem plain : ∀ h : Hs Un.D sheavelaw51_SpoolPortions_s.ts, Ok Un sheavelaw51_SpoolPortions_s.ts h → sheavelaw51_SpoolPortions_s.F h = some true := fun h hk => lawSpoolPortions h hk

theorem contract (H : Type) (enc : TypeId × Value → H) (W : World) (base : Nat) (args : Array Value) (ds gs : List (DataW H)) (before : List MemPlace)
    (hval : ∀ (j : Nat) t v, Try.f7.params[j]? = some t → args[j]? = some v → Value.okWide Try.prog W .any base t v)
    (hW : DataW.Whole enc Try.prog Try.f7.params.toList Rows.spoolPortionsSpec.vars false W args.toList ds gs before)
    (hk : (DataW.weightsEach Try.prog (Try.f7.params.toList ++ Rows.spoolPortionsSpec.plain.varTypes Try.prog) (ds ++ gs)).all (· ≤ reachBytes) = true) :
    Calls Try.prog 7 args W fun e W' => ∃ v, e = .returned v ∧ Rows.spoolPortionsSpec.post enc Try.prog Try.f7 false true false false W args v W' :=
  law_contract (U := Un) (st := strs) un_total sheavelaw51_SpoolPortions_snd plain parts (hres := rfl) (htb := by kernel_rfl) rfl
    (fun ds hd => match ds, hd with | [d0, d1, d2], _ => ⟨rfl, rfl, rfl⟩) (by kernel_rfl) (by kernel_rfl) (by kernel_rfl) hval hW hk

theorem lifted (os : Os) (started : os.Started) (H : Type) (enc : TypeId × Value → H) :
    ReturnsInHanded {} Try.checked os 7 .any (Rows.spoolPortionsSpec.pre6 enc Try.prog Try.f7 Rows.spoolPortionsRow.domain false) (Rows.spoolPortionsSpec.post enc Try.prog Try.f7 false true false false) := by
  refine returnsInHanded_of_change_sized (C := Try.checked) own started (by kernel_rfl) Try.func7
    (ChangeSpec.witness6 (enc := enc) (C := Try.checked) false ⟨#[], #[.agg #[.slice none 0 0, .int .u8 0, .int .u8 0], .agg #[.int .u8 0, .int .i64 0, .int .i64 0], .slice none 0 0], []⟩ 12 (by kernel_rfl) (by kernel_rfl) (by kernel_rfl) (by kernel_rfl)) ?_
  intro W base args ds gs before hval hW _ hk _
  exact contract H enc W base args ds gs before hval hW hk

theorem proved : Rows.SpoolPortionsSaid :=
  OpenClaim.holds_of_wide 7 Try.f7 rfl rfl rfl rfl rfl rfl rfl ⟨rfl, rfl, rfl, rfl, rfl⟩ rfl rfl rfl rfl rfl (by kernel_rfl) Try.func7 (by kernel_rfl)
    (of_decide_eq_true (by kernel_rfl)) (by unfold Func.isWrapper; first | (rw [if_pos (by decide +kernel)]; kernel_rfl) | (rw [if_neg (by decide +kernel)]; exact ⟨rfl, rfl⟩))
    (fun os started H enc _ => lifted os started H enc)
end Go.Proofs.Ytkdepbmeaiefeaa.spoolPortions
