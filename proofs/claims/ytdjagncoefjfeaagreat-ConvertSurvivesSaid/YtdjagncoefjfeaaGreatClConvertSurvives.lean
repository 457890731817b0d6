/- The statement ConvertSurvives holds as its row states it, for every input. -/
import Derived.Test.YtdjagncoefjfeaaGreatRows
import Derived.Test.YtdjagncoefjfeaaGreatCuD
import Derived.OpenShut
import Derived.JoinedOf
namespace Go.Proofs.YtdjagncoefjfeaaGreat.convertSurvives
open Go Go.ChangeShapes Go.WideShapes Go.ChangeAt Go.RowKit Go.Proofs.YtdjagncoefjfeaaGreat Go.Proofs.YtdjagncoefjfeaaGreat.Shv
set_option linter.all false
set_option maxRecDepth 100000

theorem own:ownKnob Tryz.prog.godebug=none:=by kernel_rfl

/-- ahH numbers of ahH structs,by ahH types of ahH program -/
def ag0:List (TypeId×Nat):=[(24,3),(27,2),(30,1),(32,0),(35,12),(37,13),(48,10),(72,22),(85,9),(90,18),(94,21),(101,20),(104,15),(106,19),(112,7),(117,11),(134,6),(138,4),(140,5),(146,8),(196,16),(236,14),(276,17)]
def strs:TypeId→Option Nat:=wD ag0
theorem strsOk:rY Tryz.prog cO strs:=adJ (by kernel_rfl)

theorem parts:l1 Tryz.prog cO strs Tryz.f7.params.toList se.gB se.ts=true:=by kernel_rfl

theorem plain:∀h:aL cO.D se.ts,Ok cO se.ts h→Ar h=some true:=λh hk=>agd h hk

theorem contract (H:Type)(enc:TypeId×Value→H)(W:World)(base:Nat)(args:Array Value)(ds gs:List (DataW H))(before:List MemPlace)
    (ahG:∀ (j:Nat) t v,Tryz.f7.params[j]? = some t → args[j]? = some v → Value.okWide Tryz.prog W .any base t v)
    (dh:DataW.Whole enc Tryz.prog Tryz.f7.params.toList Rows.convertSurvivesSpec.vars false W args.toList ds gs before)
    (hk:(DataW.weightsEach Tryz.prog (Tryz.f7.params.toList++Rows.convertSurvivesSpec.plain.varTypes Tryz.prog) (ds++gs)).all (· ≤ reachBytes) = true) :
    Calls Tryz.prog 7 args W λe ahF=>∃ v,e = .returned v ∧ Rows.convertSurvivesSpec.post enc Tryz.prog Tryz.f7 false true false false W args v ahF:=
  agf (U:= cO) (st:= strs) adI adH.2 plain strsOk parts (hres:= rfl) (htb:= by kernel_rfl) rfl
    (λds ahq=>match ds,ahq with|[d0],_=>⟨rfl,rfl,rfl⟩) (by kernel_rfl) (by kernel_rfl) (by kernel_rfl) ahG dh hk

theorem lifted(os:Os)(started:os.Started)(H:Type)(enc:TypeId×Value→H) :
    ReturnsInHanded {} Tryz.checked os 7 .any (Rows.convertSurvivesSpec.pre6 enc Tryz.prog Tryz.f7 Rows.convertSurvivesRow.domain false) (Rows.convertSurvivesSpec.post enc Tryz.prog Tryz.f7 false true false false):= by
  refine returnsInHanded_of_change_sized (C:= Tryz.checked) own started (by kernel_rfl) Tryz.func7
    (ChangeSpec.witness6 (enc:= enc) (C:= Tryz.checked) false ⟨#[], #[.agg #[.slice none 0 0, .int .u8 0, .slice none 0 0, .slice none 0 0, .bool false]],[]⟩ 12 (by kernel_rfl) (by kernel_rfl) (by kernel_rfl) (by kernel_rfl)) ?_
  intro W base args ds gs before ahG dh _ hk _
  exact contract H enc W base args ds gs before ahG dh hk

theorem kN : Tryz.checked.prog.funcNamed Rows.convertSurvivesRow.func = some 7 := by kernel_rfl
theorem k1 : Rows.convertSurvivesRow.wf (OpenSpec.ofChange Rows.convertSurvivesSpec) = true := by kernel_rfl
theorem k2 : laidOutB Tryz.checked.prog = true := by kernel_rfl
theorem k3 : mapsRowed Tryz.checked.prog = true := by kernel_rfl
theorem k4 : (Rows.convertSurvivesRow.inPlace == Tryz.checked.prog.inPlace 7) = true := by kernel_rfl
theorem k5 : (Rows.convertSurvivesRow.unfollowed == Tryz.checked.prog.unfollowed 7) = true := by kernel_rfl
theorem k6 : (Rows.convertSurvivesRow.recurses == Tryz.checked.prog.recurses 7) = true := by kernel_rfl
theorem k7 : (Rows.convertSurvivesRow.named == Tryz.checked.prog.varsNamed 7) = true := by kernel_rfl
theorem k8 : (Rows.convertSurvivesRow.plainKeys == Tryz.checked.prog.plainKeys) = true := by kernel_rfl
theorem k9 : Tryz.checked.prog.stopsHeard = true := by kernel_rfl
theorem kA : joinedFacts Tryz.checked.prog 7 Tryz.f7 Rows.convertSurvivesSpec Rows.convertSurvivesRow = true := by
  unfold joinedFacts
  rw [k1, k2, k3, k4, k5, k6, k7, k8, k9]
  kernel_rfl
theorem kI : Tryz.f7.isInstance Tryz.checked.prog Rows.convertSurvivesRow.origin Rows.convertSurvivesRow.targs := of_decide_eq_true (by kernel_rfl)
theorem kW : Tryz.f7.isWrapper Tryz.checked.prog Rows.convertSurvivesRow.wrapper Rows.convertSurvivesRow.mainSum := by
  unfold Func.isWrapper; first | (rw [if_pos (by decide +kernel)]; kernel_rfl) | (rw [if_neg (by decide +kernel)]; exact ⟨rfl, rfl⟩)

theorem proved : Rows.ConvertSurvivesSaid :=
  OpenClaim.holds_of_wide 7 Tryz.f7 rfl rfl rfl rfl rfl rfl rfl ⟨rfl, rfl, rfl, rfl, rfl⟩ rfl rfl rfl rfl rfl kN Tryz.func7 kA kI kW
    (fun os started H enc _ => lifted os started H enc)
end Go.Proofs.YtdjagncoefjfeaaGreat.convertSurvives
