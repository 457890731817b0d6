/- The statement RelayChain holds as its row states it, for every input. -/
import Derived.Test.YtijpinendaoleaaGreatRows
import Derived.Test.YtijpinendaoleaaGreatRhD
import Derived.OpenShut
import Derived.JoinedOf
namespace Go.Proofs.YtijpinendaoleaaGreat.relayChain
open Go Go.ChangeShapes Go.WideShapes Go.ChangeAt Go.RowKit Go.Proofs.YtijpinendaoleaaGreat Go.Proofs.YtijpinendaoleaaGreat.Shv
set_option linter.all false
set_option maxRecDepth 100000

theorem own :ownKnob Tryz.prog.godebug=none:=by kernel_rfl

/-- azV numbers of azV structs, by azV types of azV program -/
def a2f :List (TypeId × Nat):=[(24,0),(27,8),(37,15),(41,6),(52,17),(58,19),(66,16),(74,20),(84,1),(89,3),(94,4),(100,7),(111,18),(114,2),(127,5),(134,14),(143,10),(147,13),(155,12),(194,9),(233,11)]
def strs :TypeId→Option Nat:=ajE a2f
theorem strsOk :afr Tryz.prog u0 strs:=aYY (by kernel_rfl)

theorem parts :Yg Tryz.prog u0 strs Tryz.f5.params.toList QH.Pl QH.ts=true:=by kernel_rfl

theorem plain :∀h:ey u0.D QH.ts,Ok u0 QH.ts h→alj h=some true:=λh hk=>a04 h hk

theorem contract (H:Type) (enc:TypeId × Value→H) (W:World) (base:Nat) (args:Array Value) (ds gs:List (DataW H)) (before:List MemPlace)
    (ai1 : ∀ (j : Nat) t v, Tryz.f5.params[j]? = some t → args[j]? = some v → Value.okWide Tryz.prog W .any base t v)
    (v' : DataW.Whole enc Tryz.prog Tryz.f5.params.toList Rows.relayChainSpec.vars false W args.toList ds gs before)
    (hk : (DataW.weightsEach Tryz.prog (Tryz.f5.params.toList ++ Rows.relayChainSpec.plain.varTypes Tryz.prog) (ds ++ gs)).all (· ≤ reachBytes) = true) :
    Calls Tryz.prog 5 args W λe VT => ∃ v, e = .returned v ∧ Rows.relayChainSpec.post enc Tryz.prog Tryz.f5 false true false false W args v VT :=
  a06 (U := u0) (st := strs) aYX aX8.2 plain strsOk parts (hres := rfl) (htb := by kernel_rfl) rfl
    (λds a7 => match ds, a7 with | [d0], _ => ⟨rfl, rfl, rfl⟩) (by kernel_rfl) (by kernel_rfl) (by kernel_rfl) ai1 v' hk

theorem lifted(os:Os)(started:os.Started)(H:Type)(enc:TypeId × Value→H) :
    ReturnsInHanded {} Tryz.checked os 5 .any (Rows.relayChainSpec.pre6 enc Tryz.prog Tryz.f5 Rows.relayChainRow.domain false) (Rows.relayChainSpec.post enc Tryz.prog Tryz.f5 false true false false) := by
  refine returnsInHanded_of_change_sized (C := Tryz.checked) own started (by kernel_rfl) Tryz.func5
    (ChangeSpec.witness6 (enc := enc) (C := Tryz.checked) false ⟨#[], #[.agg #[.slice none 0 0, .int .u8 0, .slice none 0 0, .slice none 0 0]], []⟩ 12 (by kernel_rfl) (by kernel_rfl) (by kernel_rfl) (by kernel_rfl)) ?_
  intro W base args ds gs before ai1 v' _ hk _
  exact contract H enc W base args ds gs before ai1 v' hk

theorem proved :Rows.RelayChainSaid:=
  OpenClaim.holds_of_wide 5 Tryz.f5 rfl rfl rfl rfl rfl rfl rfl ⟨rfl, rfl, rfl, rfl, rfl⟩ rfl rfl rfl rfl rfl (by kernel_rfl) Tryz.func5 (by kernel_rfl)
    (of_decide_eq_true (by kernel_rfl)) (by unfold Func.isWrapper; first | (rw [if_pos (by decide +kernel)]; kernel_rfl) | (rw [if_neg (by decide +kernel)]; exact ⟨rfl, rfl⟩))
    (λos started H enc _ => lifted os started H enc)
end Go.Proofs.YtijpinendaoleaaGreat.relayChain
