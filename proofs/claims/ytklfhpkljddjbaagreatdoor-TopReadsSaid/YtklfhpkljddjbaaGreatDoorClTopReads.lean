/- The statement TopReads holds as its row states it, for every input. -/
import Derived.Test.YtklfhpkljddjbaaGreatDoorRows
import Derived.Test.YtklfhpkljddjbaaGreatDoorTpE
import Derived.OpenShut
import Derived.JoinedOf
namespace Go.Proofs.YtklfhpkljddjbaaGreatDoor.topReads
open Go Go.ChangeShapes Go.WideShapes Go.ChangeAt Go.RowKit Go.Proofs.YtklfhpkljddjbaaGreatDoor Go.Proofs.YtklfhpkljddjbaaGreatDoor.Shv
set_option linter.all false
set_option maxRecDepth 100000

theorem own:ownKnob Tryz.prog.godebug=none:=by kernel_rfl

/-- Yz numbers of Yz structs,by Yz types of Yz program -/
def aC7:List (TypeId×Nat):=[(24,1),(27,0),(31,10),(33,11),(43,8),(59,5),(63,16),(80,19),(84,21),(90,2),(96,6),(100,4),(103,3),(106,7),(108,14),(119,12),(126,9),(175,17),(193,13),(250,18),(259,15),(304,20)]
def strs:TypeId→Option Nat:=HQ aC7
theorem strsOk:Cj Tryz.prog cm strs:=axk (by kernel_rfl)

theorem parts:vi Tryz.prog cm strs Tryz.f3.params.toList e7.hb e7.ts=true:=by kernel_rfl

theorem plain:∀h:bb cm.D e7.ts,Ok cm e7.ts h→Mu h=some true:=λh hk=>aBk h hk

theorem contract (H:Type)(enc:TypeId×Value→H)(W:World)(base:Nat)(args:Array Value)(bc gs:List (DataW H))(before:List MemPlace)
    (J8:∀ (j:Nat) t v,Tryz.f3.params[j]? = some t → args[j]? = some v → Value.okWide Tryz.prog W .any base t v)
    (hy:DataW.Whole enc Tryz.prog Tryz.f3.params.toList Rows.topReadsSpec.vars false W args.toList bc gs before)
    (hk:(DataW.weightsEach Tryz.prog (Tryz.f3.params.toList++Rows.topReadsSpec.plain.varTypes Tryz.prog) (bc++gs)).all (· ≤ reachBytes) = true) :
    Calls Tryz.prog 3 args W λe q1=>∃ v,e = .returned v ∧ Rows.topReadsSpec.post enc Tryz.prog Tryz.f3 false true false false W args v q1:=
  aBm (U:= cm) (st:= strs) axj axi.2 plain strsOk parts (hres:= rfl) (htb:= by kernel_rfl) rfl
    (λbc av=>match bc,av with|[d0,d1],_=>⟨rfl,rfl,rfl⟩) (by kernel_rfl) (by kernel_rfl) (by kernel_rfl) J8 hy hk

theorem lifted(os:Os)(started:os.Started)(H:Type)(enc:TypeId×Value→H) :
    ReturnsInHanded {} Tryz.checked os 3 .any (Rows.topReadsSpec.pre6 enc Tryz.prog Tryz.f3 Rows.topReadsRow.domain false) (Rows.topReadsSpec.post enc Tryz.prog Tryz.f3 false true false false):= by
  refine returnsInHanded_of_change_sized (C:= Tryz.checked) own started (by kernel_rfl) Tryz.func3
    (ChangeSpec.witness6 (enc:= enc) (C:= Tryz.checked) false ⟨#[], #[.agg #[.slice none 0 0, .slice none 0 0, .int .u8 0, .int .u8 0], .slice none 0 0],[]⟩ 12 (by kernel_rfl) (by kernel_rfl) (by kernel_rfl) (by kernel_rfl)) ?_
  intro W base args bc gs before J8 hy _ hk _
  exact contract H enc W base args bc gs before J8 hy hk

theorem kN:Tryz.checked.prog.funcNamed Rows.topReadsRow.func=some 3:=by kernel_rfl
theorem k1:Rows.topReadsRow.wf (OpenSpec.ofChange Rows.topReadsSpec)=true:=by kernel_rfl
theorem k2:laidOutB Tryz.checked.prog=true:=by kernel_rfl
theorem k3:mapsRowed Tryz.checked.prog=true:=by kernel_rfl
theorem k4:(Rows.topReadsRow.inPlace==Tryz.checked.prog.inPlace 3)=true:=by kernel_rfl
theorem k5:(Rows.topReadsRow.unfollowed==Tryz.checked.prog.unfollowed 3)=true:=by kernel_rfl
theorem k6:(Rows.topReadsRow.recurses==Tryz.checked.prog.recurses 3)=true:=by kernel_rfl
theorem k7:(Rows.topReadsRow.named==Tryz.checked.prog.varsNamed 3)=true:=by kernel_rfl
theorem k8:(Rows.topReadsRow.plainKeys==Tryz.checked.prog.plainKeys)=true:=by kernel_rfl
theorem k9:Tryz.checked.prog.stopsHeard=true:=by kernel_rfl
theorem kA:joinedFacts Tryz.checked.prog 3 Tryz.f3 Rows.topReadsSpec Rows.topReadsRow=true:=by
  unfold joinedFacts
  rw [k1,k2,k3,k4,k5,k6,k7,k8,k9]
  kernel_rfl
theorem kI:Tryz.f3.isInstance Tryz.checked.prog Rows.topReadsRow.origin Rows.topReadsRow.targs:=of_decide_eq_true (by kernel_rfl)
theorem kW:Tryz.f3.isWrapper Tryz.checked.prog Rows.topReadsRow.wrapper Rows.topReadsRow.mainSum:=by
  unfold Func.isWrapper; first|(rw [if_pos (by decide +kernel)]; kernel_rfl)|(rw [if_neg (by decide +kernel)]; exact ⟨rfl,rfl⟩)

theorem proved:Rows.TopReadsSaid:=
  OpenClaim.holds_of_wide 3 Tryz.f3 rfl rfl rfl rfl rfl rfl rfl ⟨rfl,rfl,rfl,rfl,rfl⟩ rfl rfl rfl rfl rfl kN Tryz.func3 kA kI kW
    (λos started H enc _=>lifted os started H enc)
end Go.Proofs.YtklfhpkljddjbaaGreatDoor.topReads
