/- The statement ConvertThrough holds as its row states it, for every input. -/
import Derived.Test.YtdjagncoefjfeaaGreatRows
import Derived.Test.YtdjagncoefjfeaaGreatCtE
import Derived.OpenShut
import Derived.JoinedOf
namespace Go.Proofs.YtdjagncoefjfeaaGreat.convertThrough
open Go Go.ChangeShapes Go.WideShapes Go.ChangeAt Go.RowKit Go.Proofs.YtdjagncoefjfeaaGreat Go.Proofs.YtdjagncoefjfeaaGreat.Shv
set_option linter.all false
set_option maxRecDepth 100000

theorem own:ownKnob Tryz.prog.godebug=none:=by kernel_rfl

/-- aiX numbers of aiX structs,by aiX types of aiX program -/
def aih:List (TypeId×Nat):=[(24,3),(27,2),(30,1),(32,0),(35,12),(37,13),(48,10),(72,22),(85,9),(90,18),(94,21),(101,20),(104,15),(106,19),(112,7),(117,11),(134,6),(138,4),(140,5),(146,8),(196,16),(236,14),(276,17)]
def strs:TypeId→Option Nat:=xa aih
theorem strsOk:su Tryz.prog cy strs:=aez (by kernel_rfl)

theorem parts:nh Tryz.prog cy strs Tryz.f9.params.toList lW.gC lW.ts=true:=by kernel_rfl

theorem plain:∀h:aO cy.D lW.ts,Ok cy lW.ts h→Aj h=some true:=λh hk=>ahw h hk

theorem contract (H:Type)(enc:TypeId×Value→H)(W:World)(base:Nat)(args:Array Value)(o5 gs:List (DataW H))(before:List MemPlace)
    (aiW:∀ (j:Nat) t v,Tryz.f9.params[j]? = some t → args[j]? = some v → Value.okWide Tryz.prog W .any base t v)
    (dp:DataW.Whole enc Tryz.prog Tryz.f9.params.toList Rows.convertThroughSpec.vars false W args.toList o5 gs before)
    (hk:(DataW.weightsEach Tryz.prog (Tryz.f9.params.toList++Rows.convertThroughSpec.plain.varTypes Tryz.prog) (o5++gs)).all (· ≤ reachBytes) = true) :
    Calls Tryz.prog 9 args W λe aiV=>∃ v,e = .returned v ∧ Rows.convertThroughSpec.post enc Tryz.prog Tryz.f9 false true false false W args v aiV:=
  ahy (U:= cy) (st:= strs) aeZ aeY.2 plain strsOk parts (hres:= rfl) (htb:= by kernel_rfl) rfl
    (λo5 aiH=>match o5,aiH with|[d0,d1],_=>⟨rfl,rfl,rfl⟩) (by kernel_rfl) (by kernel_rfl) (by kernel_rfl) aiW dp hk

theorem lifted(os:Os)(started:os.Started)(H:Type)(enc:TypeId×Value→H) :
    ReturnsInHanded {} Tryz.checked os 9 .any (Rows.convertThroughSpec.pre6 enc Tryz.prog Tryz.f9 Rows.convertThroughRow.domain false) (Rows.convertThroughSpec.post enc Tryz.prog Tryz.f9 false true false false):= by
  refine returnsInHanded_of_change_sized (C:= Tryz.checked) own started (by kernel_rfl) Tryz.func9
    (ChangeSpec.witness6 (enc:= enc) (C:= Tryz.checked) false ⟨#[], #[.agg #[.slice none 0 0, .int .u8 0, .slice none 0 0, .slice none 0 0, .bool false], .agg #[.slice none 0 0, .slice none 0 0]],[]⟩ 12 (by kernel_rfl) (by kernel_rfl) (by kernel_rfl) (by kernel_rfl)) ?_
  intro W base args o5 gs before aiW dp _ hk _
  exact contract H enc W base args o5 gs before aiW dp hk

theorem kN:Tryz.checked.prog.funcNamed Rows.convertThroughRow.func=some 9:=by kernel_rfl
theorem k1:Rows.convertThroughRow.wf (OpenSpec.ofChange Rows.convertThroughSpec)=true:=by kernel_rfl
theorem k2:laidOutB Tryz.checked.prog=true:=by kernel_rfl
theorem k3:mapsRowed Tryz.checked.prog=true:=by kernel_rfl
theorem k4:(Rows.convertThroughRow.inPlace==Tryz.checked.prog.inPlace 9)=true:=by kernel_rfl
theorem k5:(Rows.convertThroughRow.unfollowed==Tryz.checked.prog.unfollowed 9)=true:=by kernel_rfl
theorem k6:(Rows.convertThroughRow.recurses==Tryz.checked.prog.recurses 9)=true:=by kernel_rfl
theorem k7:(Rows.convertThroughRow.named==Tryz.checked.prog.varsNamed 9)=true:=by kernel_rfl
theorem k8:(Rows.convertThroughRow.plainKeys==Tryz.checked.prog.plainKeys)=true:=by kernel_rfl
theorem k9:Tryz.checked.prog.stopsHeard=true:=by kernel_rfl
theorem kA:joinedFacts Tryz.checked.prog 9 Tryz.f9 Rows.convertThroughSpec Rows.convertThroughRow=true:=by
  unfold joinedFacts
  rw [k1,k2,k3,k4,k5,k6,k7,k8,k9]
  kernel_rfl
theorem kI:Tryz.f9.isInstance Tryz.checked.prog Rows.convertThroughRow.origin Rows.convertThroughRow.targs:=of_decide_eq_true (by kernel_rfl)
theorem kW:Tryz.f9.isWrapper Tryz.checked.prog Rows.convertThroughRow.wrapper Rows.convertThroughRow.mainSum:=by
  unfold Func.isWrapper; first|(rw [if_pos (by decide +kernel)]; kernel_rfl)|(rw [if_neg (by decide +kernel)]; exact ⟨rfl,rfl⟩)

theorem proved:Rows.ConvertThroughSaid:=
  OpenClaim.holds_of_wide 9 Tryz.f9 rfl rfl rfl rfl rfl rfl rfl ⟨rfl,rfl,rfl,rfl,rfl⟩ rfl rfl rfl rfl rfl kN Tryz.func9 kA kI kW
    (λos started H enc _=>lifted os started H enc)
end Go.Proofs.YtdjagncoefjfeaaGreat.convertThrough
