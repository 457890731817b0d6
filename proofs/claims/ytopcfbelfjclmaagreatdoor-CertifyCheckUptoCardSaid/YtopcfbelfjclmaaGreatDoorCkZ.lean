/- The statement CertifyCheck in its bounded form holds as its second row states it: the law returns true, whatever the arguments, where these hold at most 1048576 values and letters, each counted each time it is reached. -/
import Derived.Test.YtopcfbelfjclmaaGreatDoorRows
import Derived.Test.YtopcfbelfjclmaaGreatDoorCkD
import Derived.OpenShut
import Derived.JoinedOf
import Derived.LaidMore
import Derived.LaidHandle
import Derived.Deep.DeepHandedRow
namespace Go.Proofs.YtopcfbelfjclmaaGreatDoor.certifyCheck
open Go Go.ChangeShapes Go.WideShapes Go.ChangeAt Go.RowKit Go.Proofs.YtopcfbelfjclmaaGreatDoor Go.Proofs.YtopcfbelfjclmaaGreatDoor.Shv
set_option linter.all false
set_option maxRecDepth 100000

theorem own:ownKnob Tryz.prog.godebug=none:=by kernel_rfl

/-- alp numbers of alp structs,by alp types of alp program -/
def akE:List (TypeId×Nat):=[(24,1),(26,0),(29,7),(34,8),(41,2),(44,9),(54,5),(87,12),(112,4),(115,14),(119,13),(131,6),(146,3),(163,11),(194,10)]
def strs:TypeId→Option Nat:=xW akE
theorem strsOk:sT Tryz.prog bM strs:=ahj (by kernel_rfl)

theorem parts:nH Tryz.prog bM strs Tryz.f3.params.toList c3.fJ c3.ts=true:=by kernel_rfl

/-- values and alo alk alm as alp row counts alq -/
theorem bulkAll{H:Type}:∀l:List (DataW H),Rows.uptoBulkAll l=(l.map Rows.uptoBulk).sum
  |[]=>by simp [Rows.uptoBulkAll]
  |d::r=>by rw [Rows.uptoBulkAll,bulkAll r,List.map_cons,List.sum_cons]
theorem bulk{H:Type}:ye (Rows.uptoBulk (H:=H)) where
  lit:=λl=>by cases l<;>simp [Rows.uptoBulk]
  str:=λb=>by simp [Rows.uptoBulk]
  nil:= by simp [Rows.uptoBulk]
  slice:=λe s=>by rw [Rows.uptoBulk,bulkAll,bulkAll]; omega
  agg:=λp=>by rw [Rows.uptoBulk,bulkAll]; omega
theorem bulkSum{H:Type}{l:List (DataW H)}(h:Rows.uptoSmall H l=true):(l.map Rows.uptoBulk).sum≤1048576:=by
  have h1:Rows.uptoBulkAll l ≤ 1048576:= of_decide_eq_true h
  rw [bulkAll] at h1
  exact h1

theorem plain:∀h:a6 bM.D c3.ts,Ok bM c3.ts h→yj bM c3.ts h 1048576→BT h=some true:=λh hk ajI=>ajM h hk ajI

theorem contract (H:Type)(bJ:TypeId×Value→H)(W:World)(base:Nat)(args:Array Value)(ds gs:List (DataW H))(before:List MemPlace)
    (aln:∀ (j:Nat) t v,Tryz.f3.params[j]? = some t → args[j]? = some v → Value.okWide Tryz.prog W .any base t v)
    (dJ:DataW.Whole bJ Tryz.prog Tryz.f3.params.toList Rows.certifyCheckSpec.vars false W args.toList ds gs before)
    (hk:(DataW.weightsEach Tryz.prog (Tryz.f3.params.toList++Rows.certifyCheckSpec.plain.varTypes Tryz.prog) (ds++gs)).all (· ≤ reachBytes) = true)(Va:Rows.uptoSmall H (ds++gs) = true) :
    Calls Tryz.prog 3 args W λe alj=>∃ v,e = .returned v ∧ Rows.certifyCheckSpec.post bJ Tryz.prog Tryz.f3 false true false false W args v alj:=
  ajO (U:= bM) (st:= strs) bulk ahi ahh.2 plain strsOk parts (hres:= rfl) (htb:= by kernel_rfl) rfl
    (λds ak6=>match ds,ak6 with|[d0,d1,d2],_=>⟨rfl,rfl,rfl⟩) (by kernel_rfl) (by kernel_rfl) (by kernel_rfl) aln dJ hk (bulkSum Va)

/-- alp listed alr -/
noncomputable def ajL:List (String×DataW Unit):= Rows.certifyCheckUptoRow.laid
theorem door_met(os:Os)(args:Array Value):laidMetH Tryz.prog ajL ((World.doorLaid Tryz.prog 24 os).forCall (λ_ _=>0) ⟨#[],args,[]⟩).memory:=
  laidMetH_of_parts3 (fuel:= 8) (laidMet_of_run' 8 (by kernel_rfl) (by kernel_rfl)) (by kernel_rfl) (by kernel_rfl)
theorem reads(os:Os){H:Type}(bJ:TypeId×Value→H):DataW.whole bJ Tryz.prog ((World.doorLaid Tryz.prog 24 os).forCall (λ_ _=>0) ⟨#[],#[.agg #[.slice none 0 0,.int .i64 0],.agg #[.slice none 0 0,.int .i64 0],.agg #[.bool false,.slice none 0 0,.string ByteArray.empty]],[]⟩).memory Tryz.f3.params.toList Rows.certifyCheckSpec.vars false #[(.agg #[.slice none 0 0,.int .i64 0]:Value),(.agg #[.slice none 0 0,.int .i64 0]:Value),(.agg #[.bool false,.slice none 0 0,.string ByteArray.empty]:Value)].toList 12=some ([.agg [.agg [.nil],.lit (.int .i64 0)],.agg [.agg [.nil],.lit (.int .i64 0)],.agg [.lit (.bool false),.nil,.lit (.string [])]],[],[]):=by kernel_rfl
theorem lifted(os:Os)(started:os.Started)(H:Type)(bJ:TypeId×Value→H)(F:Stop.Interp) :
    ReturnsInHanded {} Tryz.checked os 3 .any ((Rows.OpenSpec.upto Rows.certifyCheckSpec).preRow bJ Tryz.prog Tryz.f3 Rows.certifyCheckUptoRow.domain false Rows.certifyCheckUptoRow.laid) (((Rows.OpenSpec.upto Rows.certifyCheckSpec).at F).post bJ Tryz.prog Tryz.f3 false true false false):= by
  refine returnsInHanded_of_row (C:= Tryz.checked) (s:= Rows.OpenSpec.upto Rows.certifyCheckSpec) own started (by kernel_rfl) Tryz.func3
    ⟨World.doorLaid Tryz.prog 24 os,λ_ _=>0,⟨#[], #[.agg #[.slice none 0 0, .int .i64 0], .agg #[.slice none 0 0, .int .i64 0], .agg #[.bool false, .slice none 0 0, .string ByteArray.empty]],[]⟩,rfl,World.shaped_of_RefB (by kernel_rfl) (by kernel_rfl),rfl,(Input.okWide_of_okWideB (by kernel_rfl)).2,
      OpenSpec.preRow_of_cond 12 (reads os bJ) (by kernel_rfl) (λk hk=>by cases hk; kernel_rfl) (by kernel_rfl) (door_met os _),by
        simp only [Assume.holds]
        exact ⟨by simp,by simp,λh=>(by cases h),by simp,by simp⟩⟩ ?_
  intro W base args ds gs before aln dJ _ Va hk _ _ _
  exact contract H bJ W base args ds gs before aln dJ hk (Va _ rfl)

theorem kN:Tryz.checked.prog.funcNamed Rows.certifyCheckUptoRow.func=some 3:=by kernel_rfl
theorem k1:Rows.certifyCheckUptoRow.wf (OpenSpec.ofChange (Rows.OpenSpec.upto Rows.certifyCheckSpec).bare)=true:=by kernel_rfl
theorem k2:laidOutB Tryz.checked.prog=true:=by kernel_rfl
theorem k3:mapsRowed Tryz.checked.prog=true:=by kernel_rfl
theorem k4:(Rows.certifyCheckUptoRow.inPlace==Tryz.checked.prog.inPlace 3)=true:=by kernel_rfl
theorem k5:(Rows.certifyCheckUptoRow.unfollowed==Tryz.checked.prog.unfollowed 3)=true:=by kernel_rfl
theorem k6:(Rows.certifyCheckUptoRow.recurses==Tryz.checked.prog.recurses 3)=true:=by kernel_rfl
theorem k7:(Rows.certifyCheckUptoRow.named==Tryz.checked.prog.varsNamed 3)=true:=by kernel_rfl
theorem k8:(Rows.certifyCheckUptoRow.plainKeys==Tryz.checked.prog.plainKeys)=true:=by kernel_rfl
theorem k9:Tryz.checked.prog.stopsHeard=true:=by kernel_rfl
theorem kA:joinedFacts Tryz.checked.prog 3 Tryz.f3 (Rows.OpenSpec.upto Rows.certifyCheckSpec).bare Rows.certifyCheckUptoRow=true:=by
  unfold joinedFacts
  rw [k1,k2,k3,k4,k5,k6,k7,k8,k9]
  kernel_rfl
theorem kI:Tryz.f3.isInstance Tryz.checked.prog Rows.certifyCheckUptoRow.origin Rows.certifyCheckUptoRow.targs:=of_decide_eq_true (by kernel_rfl)
theorem kW:Tryz.f3.isWrapper Tryz.checked.prog Rows.certifyCheckUptoRow.wrapper Rows.certifyCheckUptoRow.mainSum:=by
  unfold Func.isWrapper; first|(rw [if_pos (by decide +kernel)]; kernel_rfl)|(rw [if_neg (by decide +kernel)]; exact ⟨rfl,rfl⟩)

theorem bare:Rows.CertifyCheckUptoSaid:=
  OpenClaim.holds_of_cond 3 Tryz.f3 rfl rfl rfl rfl rfl rfl rfl ⟨rfl,rfl,rfl,rfl,rfl⟩ rfl rfl rfl rfl rfl kN Tryz.func3 kA kI kW
    (λos started H bJ _ F=>by rw [OpenClaim.pre_eq_preRow]; exact lifted os started H bJ F)
end Go.Proofs.YtopcfbelfjclmaaGreatDoor.certifyCheck
