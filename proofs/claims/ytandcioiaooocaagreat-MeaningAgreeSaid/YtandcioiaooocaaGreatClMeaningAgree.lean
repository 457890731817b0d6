/- The statement MeaningAgree holds as its row states it, for every input. -/
import Derived.Test.YtandcioiaooocaaGreatRows
import Derived.Test.YtandcioiaooocaaGreatMaB
import Derived.OpenShut
import Derived.JoinedOf
namespace Go.Proofs.YtandcioiaooocaaGreat.meaningAgree
open Go Go.ChangeShapes Go.WideShapes Go.ChangeAt Go.RowKit Go.Proofs.YtandcioiaooocaaGreat Go.Proofs.YtandcioiaooocaaGreat.Shv
set_option linter.all false
set_option maxRecDepth 100000

theorem own:ownKnob Tryz.prog.godebug=none:=by kernel_rfl

/-- aqP aOr of aqP aOx,by aqP types of aqP program -/
def aNb:List (TypeId×Nat):=[(24,1),(27,0),(30,12),(33,9),(37,7),(59,11),(66,17),(74,6),(81,8),(88,14),(96,4),(102,16),(106,18),(112,2),(118,5),(122,13),(125,3),(206,15),(245,10)]
def aqK:TypeId→Option Nat:=aec aNb
theorem strsOk:aaV Tryz.prog nJ aqK:=aKs (by kernel_rfl)

theorem parts:Ui Tryz.prog nJ aqK Tryz.f10.params.toList Zb.Nc Zb.ts=true:=by kernel_rfl

theorem plain:∀h:c' nJ.D Zb.ts,Ok nJ Zb.ts h→af' h=some true:=λh hk=>aMd h hk

theorem contract (H:Type)(enc:TypeId×Value→H)(W:World)(base:Nat)(args:Array Value)(ds gs:List (DataW H))(MU:List MemPlace)
    (adw:∀ (j:Nat) t v,Tryz.f10.params[j]? = some t → args[j]? = some v → Value.okWide Tryz.prog W .any base t v)
    (Qn:DataW.Whole enc Tryz.prog Tryz.f10.params.toList Rows.meaningAgreeSpec.vars false W args.toList ds gs MU)
    (hk:(DataW.weightsEach Tryz.prog (Tryz.f10.params.toList++Rows.meaningAgreeSpec.plain.varTypes Tryz.prog) (ds++gs)).all (· ≤ reachBytes) = true) :
    Calls Tryz.prog 10 args W λe Ry=>∃ v,e = .returned v ∧ Rows.meaningAgreeSpec.post enc Tryz.prog Tryz.f10 false true false false W args v Ry:=
  aMf (U:= nJ) (st:= aqK) aKr aKq.2 plain strsOk parts (hres:= rfl) (htb:= by kernel_rfl) rfl
    (λds ay=>match ds,ay with|[d0,d1,d2],_=>⟨rfl,rfl,rfl⟩) (by kernel_rfl) (by kernel_rfl) (by kernel_rfl) adw Qn hk

theorem lifted(os:Os)(aqI:os.Started)(H:Type)(enc:TypeId×Value→H) :
    ReturnsInHanded {} Tryz.checked os 10 .any (Rows.meaningAgreeSpec.pre6 enc Tryz.prog Tryz.f10 Rows.meaningAgreeRow.domain false) (Rows.meaningAgreeSpec.post enc Tryz.prog Tryz.f10 false true false false):= by
  refine returnsInHanded_of_change_sized (C:= Tryz.checked) own aqI (by kernel_rfl) Tryz.func10
    (ChangeSpec.witness6 (enc:= enc) (C:= Tryz.checked) false ⟨#[], #[.agg #[.slice none 0 0], .int .i64 0, .agg #[.string ByteArray.empty, .string ByteArray.empty]],[]⟩ 12 (by kernel_rfl) (by kernel_rfl) (by kernel_rfl) (by kernel_rfl)) ?_
  intro W base args ds gs MU adw Qn _ hk _
  exact contract H enc W base args ds gs MU adw Qn hk

theorem proved:Rows.MeaningAgreeSaid:=
  OpenClaim.holds_of_wide 10 Tryz.f10 rfl rfl rfl rfl rfl rfl rfl ⟨rfl,rfl,rfl,rfl,rfl⟩ rfl rfl rfl rfl rfl (by kernel_rfl) Tryz.func10 (by kernel_rfl)
    (of_decide_eq_true (by kernel_rfl)) (by unfold Func.isWrapper; first|(rw [if_pos (by decide +kernel)]; kernel_rfl)|(rw [if_neg (by decide +kernel)]; exact ⟨rfl,rfl⟩))
    (λos aqI H enc _=>lifted os aqI H enc)
end Go.Proofs.YtandcioiaooocaaGreat.meaningAgree
