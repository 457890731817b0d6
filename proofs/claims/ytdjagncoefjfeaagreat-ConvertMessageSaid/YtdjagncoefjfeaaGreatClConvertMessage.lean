/- The statement ConvertMessage holds as its row states it, for every input. -/
import Derived.Test.YtdjagncoefjfeaaGreatRows
import Derived.Test.YtdjagncoefjfeaaGreatCmD
import Derived.OpenShut
import Derived.JoinedOf
namespace Go.Proofs.YtdjagncoefjfeaaGreat.convertMessage
open Go Go.ChangeShapes Go.WideShapes Go.ChangeAt Go.RowKit Go.Proofs.YtdjagncoefjfeaaGreat Go.Proofs.YtdjagncoefjfeaaGreat.Shv
set_option linter.all false
set_option maxRecDepth 100000

theorem own:ownKnob Tryz.prog.godebug=none:=by kernel_rfl

/-- ahG numbers of ahG structs,by ahG types of ahG program -/
def agZ:List (TypeId×Nat):=[(24,3),(27,2),(30,1),(32,0),(35,12),(37,13),(48,10),(72,22),(85,9),(90,18),(94,21),(101,20),(104,15),(106,19),(112,7),(117,11),(134,6),(138,4),(140,5),(146,8),(196,16),(236,14),(276,17)]
def strs:TypeId→Option Nat:=wC agZ
theorem strsOk:rW Tryz.prog cN strs:=adJ (by kernel_rfl)

theorem parts:l1 Tryz.prog cN strs Tryz.f3.params.toList c9.gA c9.ts=true:=by kernel_rfl

theorem plain:∀h:aL cN.D c9.ts,Ok cN c9.ts h→Ao h=some true:=λh hk=>agc h hk

theorem contract (H:Type)(enc:TypeId×Value→H)(W:World)(base:Nat)(args:Array Value)(ds gs:List (DataW H))(before:List MemPlace)
    (ahF:∀ (j:Nat) t v,Tryz.f3.params[j]? = some t → args[j]? = some v → Value.okWide Tryz.prog W .any base t v)
    (di:DataW.Whole enc Tryz.prog Tryz.f3.params.toList Rows.convertMessageSpec.vars false W args.toList ds gs before)
    (hk:(DataW.weightsEach Tryz.prog (Tryz.f3.params.toList++Rows.convertMessageSpec.plain.varTypes Tryz.prog) (ds++gs)).all (· ≤ reachBytes) = true) :
    Calls Tryz.prog 3 args W λe ahE=>∃ v,e = .returned v ∧ Rows.convertMessageSpec.post enc Tryz.prog Tryz.f3 false true false false W args v ahE:=
  age (U:= cN) (st:= strs) adI adH.2 plain strsOk parts (hres:= rfl) (htb:= by kernel_rfl) rfl
    (λds ahp=>match ds,ahp with|[d0],_=>⟨rfl,rfl,rfl⟩) (by kernel_rfl) (by kernel_rfl) (by kernel_rfl) ahF di hk

theorem lifted(os:Os)(started:os.Started)(H:Type)(enc:TypeId×Value→H) :
    ReturnsInHanded {} Tryz.checked os 3 .any (Rows.convertMessageSpec.pre6 enc Tryz.prog Tryz.f3 Rows.convertMessageRow.domain false) (Rows.convertMessageSpec.post enc Tryz.prog Tryz.f3 false true false false):= by
  refine returnsInHanded_of_change_sized (C:= Tryz.checked) own started (by kernel_rfl) Tryz.func3
    (ChangeSpec.witness6 (enc:= enc) (C:= Tryz.checked) false ⟨#[], #[.agg #[.slice none 0 0, .int .u8 0, .slice none 0 0, .slice none 0 0, .bool false]],[]⟩ 12 (by kernel_rfl) (by kernel_rfl) (by kernel_rfl) (by kernel_rfl)) ?_
  intro W base args ds gs before ahF di _ hk _
  exact contract H enc W base args ds gs before ahF di hk

theorem kN : Tryz.checked.prog.funcNamed Rows.convertMessageRow.func = some 3 := by kernel_rfl
theorem k1 : Rows.convertMessageRow.wf (OpenSpec.ofChange Rows.convertMessageSpec) = true := by kernel_rfl
theorem k2 : laidOutB Tryz.checked.prog = true := by kernel_rfl
theorem k3 : mapsRowed Tryz.checked.prog = true := by kernel_rfl
theorem k4 : (Rows.convertMessageRow.inPlace == Tryz.checked.prog.inPlace 3) = true := by kernel_rfl
theorem k5 : (Rows.convertMessageRow.unfollowed == Tryz.checked.prog.unfollowed 3) = true := by kernel_rfl
theorem k6 : (Rows.convertMessageRow.recurses == Tryz.checked.prog.recurses 3) = true := by kernel_rfl
theorem k7 : (Rows.convertMessageRow.named == Tryz.checked.prog.varsNamed 3) = true := by kernel_rfl
theorem k8 : (Rows.convertMessageRow.plainKeys == Tryz.checked.prog.plainKeys) = true := by kernel_rfl
theorem k9 : Tryz.checked.prog.stopsHeard = true := by kernel_rfl
theorem kA : joinedFacts Tryz.checked.prog 3 Tryz.f3 Rows.convertMessageSpec Rows.convertMessageRow = true := by
  unfold joinedFacts
  rw [k1, k2, k3, k4, k5, k6, k7, k8, k9]
  kernel_rfl
theorem kI : Tryz.f3.isInstance Tryz.checked.prog Rows.convertMessageRow.origin Rows.convertMessageRow.targs := of_decide_eq_true (by kernel_rfl)
theorem kW : Tryz.f3.isWrapper Tryz.checked.prog Rows.convertMessageRow.wrapper Rows.convertMessageRow.mainSum := by
  unfold Func.isWrapper; first | (rw [if_pos (by decide +kernel)]; kernel_rfl) | (rw [if_neg (by decide +kernel)]; exact ⟨rfl, rfl⟩)

theorem proved : Rows.ConvertMessageSaid :=
  OpenClaim.holds_of_wide 3 Tryz.f3 rfl rfl rfl rfl rfl rfl rfl ⟨rfl, rfl, rfl, rfl, rfl⟩ rfl rfl rfl rfl rfl kN Tryz.func3 kA kI kW
    (fun os started H enc _ => lifted os started H enc)
end Go.Proofs.YtdjagncoefjfeaaGreat.convertMessage
