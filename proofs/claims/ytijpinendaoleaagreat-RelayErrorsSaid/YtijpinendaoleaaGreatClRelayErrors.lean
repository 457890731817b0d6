/- The statement RelayErrors holds as its row states it, for every input. -/
import Derived.Test.YtijpinendaoleaaGreatRows
import Derived.Test.YtijpinendaoleaaGreatReB
import Derived.OpenShut
import Derived.JoinedOf
namespace Go.Proofs.YtijpinendaoleaaGreat.relayErrors
open Go Go.ChangeShapes Go.WideShapes Go.ChangeAt Go.RowKit Go.Proofs.YtijpinendaoleaaGreat Go.Proofs.YtijpinendaoleaaGreat.Shv
set_option linter.all false
set_option maxRecDepth 100000

theorem own :ownKnob Tryz.prog.godebug=none:=by kernel_rfl

/-- apN numbers of apN structs, by apN types of apN program -/
def aMg :List (TypeId × Nat):=[(24,0),(27,8),(37,15),(41,6),(52,17),(58,19),(66,16),(74,20),(84,1),(89,3),(94,4),(100,7),(111,18),(114,2),(127,5),(134,14),(143,10),(147,13),(155,12),(194,9),(233,11)]
def strs :TypeId→Option Nat:=adk aMg
theorem strsOk :Z9 Tryz.prog oi strs:=aI9 (by kernel_rfl)

theorem parts :TL Tryz.prog oi strs Tryz.f8.params.toList e8.MR e8.ts=true:=by kernel_rfl

theorem plain :∀h:d' oi.D e8.ts,Ok oi e8.ts h→ae2 h=some true:=λh hk=>aLt h hk

theorem contract (H:Type) (enc:TypeId × Value→H) (W:World) (base:Nat) (args:Array Value) (ds gs:List (DataW H)) (before:List MemPlace)
    (acT : ∀ (j : Nat) t v, Tryz.f8.params[j]? = some t → args[j]? = some v → Value.okWide Tryz.prog W .any base t v)
    (QZ : DataW.Whole enc Tryz.prog Tryz.f8.params.toList Rows.relayErrorsSpec.vars false W args.toList ds gs before)
    (hk : (DataW.weightsEach Tryz.prog (Tryz.f8.params.toList ++ Rows.relayErrorsSpec.plain.varTypes Tryz.prog) (ds ++ gs)).all (· ≤ reachBytes) = true) :
    Calls Tryz.prog 8 args W λe QN => ∃ v, e = .returned v ∧ Rows.relayErrorsSpec.post enc Tryz.prog Tryz.f8 false true false false W args v QN :=
  aLv (U := oi) (st := strs) aI8 aI7.2 plain strsOk parts (hres := rfl) (htb := by kernel_rfl) rfl
    (λds a6 => match ds, a6 with | [d0, d1, d2], _ => ⟨rfl, rfl, rfl⟩) (by kernel_rfl) (by kernel_rfl) (by kernel_rfl) acT QZ hk

theorem lifted(os:Os)(started:os.Started)(H:Type)(enc:TypeId × Value→H) :
    ReturnsInHanded {} Tryz.checked os 8 .any (Rows.relayErrorsSpec.pre6 enc Tryz.prog Tryz.f8 Rows.relayErrorsRow.domain false) (Rows.relayErrorsSpec.post enc Tryz.prog Tryz.f8 false true false false) := by
  refine returnsInHanded_of_change_sized (C := Tryz.checked) own started (by kernel_rfl) Tryz.func8
    (ChangeSpec.witness6 (enc := enc) (C := Tryz.checked) false ⟨#[], #[.agg #[.slice none 0 0], .int .i64 0, .agg #[.int .i64 0, .bool false, .int .i64 0, .string ByteArray.empty, .int .i64 0, .slice none 0 0, .slice none 0 0, .slice none 0 0, .int .i64 0, .bool false, .int .i64 0, .string ByteArray.empty, .int .i64 0, .slice none 0 0, .slice none 0 0, .slice none 0 0]], []⟩ 12 (by kernel_rfl) (by kernel_rfl) (by kernel_rfl) (by kernel_rfl)) ?_
  intro W base args ds gs before acT QZ _ hk _
  exact contract H enc W base args ds gs before acT QZ hk

theorem proved :Rows.RelayErrorsSaid:=
  OpenClaim.holds_of_wide 8 Tryz.f8 rfl rfl rfl rfl rfl rfl rfl ⟨rfl, rfl, rfl, rfl, rfl⟩ rfl rfl rfl rfl rfl (by kernel_rfl) Tryz.func8 (by kernel_rfl)
    (of_decide_eq_true (by kernel_rfl)) (by unfold Func.isWrapper; first | (rw [if_pos (by decide +kernel)]; kernel_rfl) | (rw [if_neg (by decide +kernel)]; exact ⟨rfl, rfl⟩))
    (λos started H enc _ => lifted os started H enc)
end Go.Proofs.YtijpinendaoleaaGreat.relayErrors
