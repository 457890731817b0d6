/- The statement ConvertSelf holds as its row states it, for every input. -/
import Derived.Test.YtdjagncoefjfeaaGreatRows
import Derived.Test.YtdjagncoefjfeaaGreatCsD
import Derived.OpenShut
import Derived.JoinedOf
namespace Go.Proofs.YtdjagncoefjfeaaGreat.convertSelf
open Go Go.ChangeShapes Go.WideShapes Go.ChangeAt Go.RowKit Go.Proofs.YtdjagncoefjfeaaGreat Go.Proofs.YtdjagncoefjfeaaGreat.Shv
set_option linter.all false
set_option maxRecDepth 100000

theorem own:ownKnob Tryz.prog.godebug=none:=by kernel_rfl

/-- ahu numbers of ahu structs,by ahu types of ahu program -/
def agN:List (TypeId×Nat):=[(24,3),(27,2),(30,1),(32,0),(35,12),(37,13),(48,10),(72,22),(85,9),(90,18),(94,21),(101,20),(104,15),(106,19),(112,7),(117,11),(134,6),(138,4),(140,5),(146,8),(196,16),(236,14),(276,17)]
def strs:TypeId→Option Nat:=wF agN
theorem strsOk:r3 Tryz.prog cO strs:=adG (by kernel_rfl)

theorem parts:l6 Tryz.prog cO strs Tryz.f5.params.toList iN.gC iN.ts=true:=by kernel_rfl

theorem plain:∀h:aL cO.D iN.ts,Ok cO iN.ts h→Ak h=some true:=λh hk=>af1 h hk

theorem contract (H:Type)(enc:TypeId×Value→H)(W:World)(base:Nat)(args:Array Value)(ds gs:List (DataW H))(before:List MemPlace)
    (aht:∀ (j:Nat) t v,Tryz.f5.params[j]? = some t → args[j]? = some v → Value.okWide Tryz.prog W .any base t v)
    (dk:DataW.Whole enc Tryz.prog Tryz.f5.params.toList Rows.convertSelfSpec.vars false W args.toList ds gs before)
    (hk:(DataW.weightsEach Tryz.prog (Tryz.f5.params.toList++Rows.convertSelfSpec.plain.varTypes Tryz.prog) (ds++gs)).all (· ≤ reachBytes) = true) :
    Calls Tryz.prog 5 args W λe ahs=>∃ v,e = .returned v ∧ Rows.convertSelfSpec.post enc Tryz.prog Tryz.f5 false true false false W args v ahs:=
  af3 (U:= cO) (st:= strs) adF adE.2 plain strsOk parts (hres:= rfl) (htb:= by kernel_rfl) rfl
    (λds ahd=>match ds,ahd with|[d0],_=>⟨rfl,rfl,rfl⟩) (by kernel_rfl) (by kernel_rfl) (by kernel_rfl) aht dk hk

theorem lifted(os:Os)(started:os.Started)(H:Type)(enc:TypeId×Value→H) :
    ReturnsInHanded {} Tryz.checked os 5 .any (Rows.convertSelfSpec.pre6 enc Tryz.prog Tryz.f5 Rows.convertSelfRow.domain false) (Rows.convertSelfSpec.post enc Tryz.prog Tryz.f5 false true false false):= by
  refine returnsInHanded_of_change_sized (C:= Tryz.checked) own started (by kernel_rfl) Tryz.func5
    (ChangeSpec.witness6 (enc:= enc) (C:= Tryz.checked) false ⟨#[], #[.agg #[.slice none 0 0, .int .u8 0, .slice none 0 0, .slice none 0 0, .bool false]],[]⟩ 12 (by kernel_rfl) (by kernel_rfl) (by kernel_rfl) (by kernel_rfl)) ?_
  intro W base args ds gs before aht dk _ hk _
  exact contract H enc W base args ds gs before aht dk hk

theorem kN : Tryz.checked.prog.funcNamed Rows.convertSelfRow.func = some 5 := by kernel_rfl
theorem k1 : Rows.convertSelfRow.wf (OpenSpec.ofChange Rows.convertSelfSpec) = true := by kernel_rfl
theorem k2 : laidOutB Tryz.checked.prog = true := by kernel_rfl
theorem k3 : mapsRowed Tryz.checked.prog = true := by kernel_rfl
theorem k4 : (Rows.convertSelfRow.inPlace == Tryz.checked.prog.inPlace 5) = true := by kernel_rfl
theorem k5 : (Rows.convertSelfRow.unfollowed == Tryz.checked.prog.unfollowed 5) = true := by kernel_rfl
theorem k6 : (Rows.convertSelfRow.recurses == Tryz.checked.prog.recurses 5) = true := by kernel_rfl
theorem k7 : (Rows.convertSelfRow.named == Tryz.checked.prog.varsNamed 5) = true := by kernel_rfl
theorem k8 : (Rows.convertSelfRow.plainKeys == Tryz.checked.prog.plainKeys) = true := by kernel_rfl
theorem k9 : Tryz.checked.prog.stopsHeard = true := by kernel_rfl
theorem kA : joinedFacts Tryz.checked.prog 5 Tryz.f5 Rows.convertSelfSpec Rows.convertSelfRow = true := by
  unfold joinedFacts
  rw [k1, k2, k3, k4, k5, k6, k7, k8, k9]
  kernel_rfl
theorem kI : Tryz.f5.isInstance Tryz.checked.prog Rows.convertSelfRow.origin Rows.convertSelfRow.targs := of_decide_eq_true (by kernel_rfl)
theorem kW : Tryz.f5.isWrapper Tryz.checked.prog Rows.convertSelfRow.wrapper Rows.convertSelfRow.mainSum := by
  unfold Func.isWrapper; first | (rw [if_pos (by decide +kernel)]; kernel_rfl) | (rw [if_neg (by decide +kernel)]; exact ⟨rfl, rfl⟩)

theorem proved : Rows.ConvertSelfSaid :=
  OpenClaim.holds_of_wide 5 Tryz.f5 rfl rfl rfl rfl rfl rfl rfl ⟨rfl, rfl, rfl, rfl, rfl⟩ rfl rfl rfl rfl rfl kN Tryz.func5 kA kI kW
    (fun os started H enc _ => lifted os started H enc)
end Go.Proofs.YtdjagncoefjfeaaGreat.convertSelf
