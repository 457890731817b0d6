/- The statement ConvertReading holds as its row states it, for every input. -/
import Derived.Test.YtdjagncoefjfeaaGreatRows
import Derived.Test.YtdjagncoefjfeaaGreatCrE
import Derived.OpenShut
import Derived.JoinedOf
namespace Go.Proofs.YtdjagncoefjfeaaGreat.convertReading
open Go Go.ChangeShapes Go.WideShapes Go.ChangeAt Go.RowKit Go.Proofs.YtdjagncoefjfeaaGreat Go.Proofs.YtdjagncoefjfeaaGreat.Shv
set_option linter.all false
set_option maxRecDepth 100000

theorem own:ownKnob Tryz.prog.godebug=none:=by kernel_rfl

/-- ahR numbers of ahR structs,by ahR types of ahR program -/
def ag':List (TypeId×Nat):=[(24,3),(27,2),(30,1),(32,0),(35,12),(37,13),(48,10),(72,22),(85,9),(90,18),(94,21),(101,20),(104,15),(106,19),(112,7),(117,11),(134,6),(138,4),(140,5),(146,8),(196,16),(236,14),(276,17)]
def strs:TypeId→Option Nat:=wY ag'
theorem strsOk:r9 Tryz.prog cY strs:=ad0 (by kernel_rfl)

theorem parts:l9 Tryz.prog cY strs Tryz.f4.params.toList gx.gI gx.ts=true:=by kernel_rfl

theorem plain:∀h:aL cY.D gx.ts,Ok cY gx.ts h→As h=some true:=λh hk=>agp h hk

theorem contract (H:Type)(enc:TypeId×Value→H)(W:World)(base:Nat)(args:Array Value)(ds gs:List (DataW H))(before:List MemPlace)
    (ahQ:∀ (j:Nat) t v,Tryz.f4.params[j]? = some t → args[j]? = some v → Value.okWide Tryz.prog W .any base t v)
    (dm:DataW.Whole enc Tryz.prog Tryz.f4.params.toList Rows.convertReadingSpec.vars false W args.toList ds gs before)
    (hk:(DataW.weightsEach Tryz.prog (Tryz.f4.params.toList++Rows.convertReadingSpec.plain.varTypes Tryz.prog) (ds++gs)).all (· ≤ reachBytes) = true) :
    Calls Tryz.prog 4 args W λe ahP=>∃ v,e = .returned v ∧ Rows.convertReadingSpec.post enc Tryz.prog Tryz.f4 false true false false W args v ahP:=
  agr (U:= cY) (st:= strs) adZ adY.2 plain strsOk parts (hres:= rfl) (htb:= by kernel_rfl) rfl
    (λds ahA=>match ds,ahA with|[d0],_=>⟨rfl,rfl,rfl⟩) (by kernel_rfl) (by kernel_rfl) (by kernel_rfl) ahQ dm hk

theorem lifted(os:Os)(started:os.Started)(H:Type)(enc:TypeId×Value→H) :
    ReturnsInHanded {} Tryz.checked os 4 .any (Rows.convertReadingSpec.pre6 enc Tryz.prog Tryz.f4 Rows.convertReadingRow.domain false) (Rows.convertReadingSpec.post enc Tryz.prog Tryz.f4 false true false false):= by
  refine returnsInHanded_of_change_sized (C:= Tryz.checked) own started (by kernel_rfl) Tryz.func4
    (ChangeSpec.witness6 (enc:= enc) (C:= Tryz.checked) false ⟨#[], #[.agg #[.slice none 0 0, .int .u8 0, .slice none 0 0, .slice none 0 0]],[]⟩ 12 (by kernel_rfl) (by kernel_rfl) (by kernel_rfl) (by kernel_rfl)) ?_
  intro W base args ds gs before ahQ dm _ hk _
  exact contract H enc W base args ds gs before ahQ dm hk

theorem kN : Tryz.checked.prog.funcNamed Rows.convertReadingRow.func = some 4 := by kernel_rfl
theorem k1 : Rows.convertReadingRow.wf (OpenSpec.ofChange Rows.convertReadingSpec) = true := by kernel_rfl
theorem k2 : laidOutB Tryz.checked.prog = true := by kernel_rfl
theorem k3 : mapsRowed Tryz.checked.prog = true := by kernel_rfl
theorem k4 : (Rows.convertReadingRow.inPlace == Tryz.checked.prog.inPlace 4) = true := by kernel_rfl
theorem k5 : (Rows.convertReadingRow.unfollowed == Tryz.checked.prog.unfollowed 4) = true := by kernel_rfl
theorem k6 : (Rows.convertReadingRow.recurses == Tryz.checked.prog.recurses 4) = true := by kernel_rfl
theorem k7 : (Rows.convertReadingRow.named == Tryz.checked.prog.varsNamed 4) = true := by kernel_rfl
theorem k8 : (Rows.convertReadingRow.plainKeys == Tryz.checked.prog.plainKeys) = true := by kernel_rfl
theorem k9 : Tryz.checked.prog.stopsHeard = true := by kernel_rfl
theorem kA : joinedFacts Tryz.checked.prog 4 Tryz.f4 Rows.convertReadingSpec Rows.convertReadingRow = true := by
  unfold joinedFacts
  rw [k1, k2, k3, k4, k5, k6, k7, k8, k9]
  kernel_rfl
theorem kI : Tryz.f4.isInstance Tryz.checked.prog Rows.convertReadingRow.origin Rows.convertReadingRow.targs := of_decide_eq_true (by kernel_rfl)
theorem kW : Tryz.f4.isWrapper Tryz.checked.prog Rows.convertReadingRow.wrapper Rows.convertReadingRow.mainSum := by
  unfold Func.isWrapper; first | (rw [if_pos (by decide +kernel)]; kernel_rfl) | (rw [if_neg (by decide +kernel)]; exact ⟨rfl, rfl⟩)

theorem proved : Rows.ConvertReadingSaid :=
  OpenClaim.holds_of_wide 4 Tryz.f4 rfl rfl rfl rfl rfl rfl rfl ⟨rfl, rfl, rfl, rfl, rfl⟩ rfl rfl rfl rfl rfl kN Tryz.func4 kA kI kW
    (fun os started H enc _ => lifted os started H enc)
end Go.Proofs.YtdjagncoefjfeaaGreat.convertReading
