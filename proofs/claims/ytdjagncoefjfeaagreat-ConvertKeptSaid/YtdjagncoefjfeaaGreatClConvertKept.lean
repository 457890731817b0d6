/- The statement ConvertKept holds as its row states it, for every input. -/
import Derived.Test.YtdjagncoefjfeaaGreatRows
import Derived.Test.YtdjagncoefjfeaaGreatCkE
import Derived.OpenShut
import Derived.JoinedOf
namespace Go.Proofs.YtdjagncoefjfeaaGreat.convertKept
open Go Go.ChangeShapes Go.WideShapes Go.ChangeAt Go.RowKit Go.Proofs.YtdjagncoefjfeaaGreat Go.Proofs.YtdjagncoefjfeaaGreat.Shv
set_option linter.all false
set_option maxRecDepth 100000

theorem own:ownKnob Tryz.prog.godebug=none:=by kernel_rfl

/-- aj8 numbers of aj8 structs,by aj8 types of aj8 program -/
def ajp:List (TypeId×Nat):=[(24,3),(27,2),(30,1),(32,0),(35,12),(37,13),(48,10),(72,22),(85,9),(90,18),(94,21),(101,20),(104,15),(106,19),(112,7),(117,11),(134,6),(138,4),(140,5),(146,8),(196,16),(236,14),(276,17)]
def strs:TypeId→Option Nat:=xE ajp
theorem strsOk:sF Tryz.prog cR strs:=af8 (by kernel_rfl)

theorem parts:nE Tryz.prog cR strs Tryz.f6.params.toList mU.gD mU.ts=true:=by kernel_rfl

theorem plain:∀h:aQ cR.D mU.ts,Ok cR mU.ts h→Bj h=some true:=λh hk=>aiC h hk

theorem contract (H:Type)(enc:TypeId×Value→H)(W:World)(base:Nat)(args:Array Value)(pe gs:List (DataW H))(before:List MemPlace)
    (aj7:∀ (j:Nat) t v,Tryz.f6.params[j]? = some t → args[j]? = some v → Value.okWide Tryz.prog W .any base t v)
    (ds:DataW.Whole enc Tryz.prog Tryz.f6.params.toList Rows.convertKeptSpec.vars false W args.toList pe gs before)
    (hk:(DataW.weightsEach Tryz.prog (Tryz.f6.params.toList++Rows.convertKeptSpec.plain.varTypes Tryz.prog) (pe++gs)).all (· ≤ reachBytes) = true) :
    Calls Tryz.prog 6 args W λe aj6=>∃ v,e = .returned v ∧ Rows.convertKeptSpec.post enc Tryz.prog Tryz.f6 false true false false W args v aj6:=
  aiE (U:= cR) (st:= strs) af7 af6.2 plain strsOk parts (hres:= rfl) (htb:= by kernel_rfl) rfl
    (λpe ajR=>match pe,ajR with|[d0],_=>⟨rfl,rfl,rfl⟩) (by kernel_rfl) (by kernel_rfl) (by kernel_rfl) aj7 ds hk

theorem lifted(os:Os)(started:os.Started)(H:Type)(enc:TypeId×Value→H) :
    ReturnsInHanded {} Tryz.checked os 6 .any (Rows.convertKeptSpec.pre6 enc Tryz.prog Tryz.f6 Rows.convertKeptRow.domain false) (Rows.convertKeptSpec.post enc Tryz.prog Tryz.f6 false true false false):= by
  refine returnsInHanded_of_change_sized (C:= Tryz.checked) own started (by kernel_rfl) Tryz.func6
    (ChangeSpec.witness6 (enc:= enc) (C:= Tryz.checked) false ⟨#[], #[.agg #[.slice none 0 0, .int .u8 0, .slice none 0 0, .slice none 0 0, .bool false]],[]⟩ 12 (by kernel_rfl) (by kernel_rfl) (by kernel_rfl) (by kernel_rfl)) ?_
  intro W base args pe gs before aj7 ds _ hk _
  exact contract H enc W base args pe gs before aj7 ds hk

theorem kN:Tryz.checked.prog.funcNamed Rows.convertKeptRow.func=some 6:=by kernel_rfl
theorem k1:Rows.convertKeptRow.wf (OpenSpec.ofChange Rows.convertKeptSpec)=true:=by kernel_rfl
theorem k2:laidOutB Tryz.checked.prog=true:=by kernel_rfl
theorem k3:mapsRowed Tryz.checked.prog=true:=by kernel_rfl
theorem k4:(Rows.convertKeptRow.inPlace==Tryz.checked.prog.inPlace 6)=true:=by kernel_rfl
theorem k5:(Rows.convertKeptRow.unfollowed==Tryz.checked.prog.unfollowed 6)=true:=by kernel_rfl
theorem k6:(Rows.convertKeptRow.recurses==Tryz.checked.prog.recurses 6)=true:=by kernel_rfl
theorem k7:(Rows.convertKeptRow.named==Tryz.checked.prog.varsNamed 6)=true:=by kernel_rfl
theorem k8:(Rows.convertKeptRow.plainKeys==Tryz.checked.prog.plainKeys)=true:=by kernel_rfl
theorem k9:Tryz.checked.prog.stopsHeard=true:=by kernel_rfl
theorem kA:joinedFacts Tryz.checked.prog 6 Tryz.f6 Rows.convertKeptSpec Rows.convertKeptRow=true:=by
  unfold joinedFacts
  rw [k1,k2,k3,k4,k5,k6,k7,k8,k9]
  kernel_rfl
theorem kI:Tryz.f6.isInstance Tryz.checked.prog Rows.convertKeptRow.origin Rows.convertKeptRow.targs:=of_decide_eq_true (by kernel_rfl)
theorem kW:Tryz.f6.isWrapper Tryz.checked.prog Rows.convertKeptRow.wrapper Rows.convertKeptRow.mainSum:=by
  unfold Func.isWrapper; first|(rw [if_pos (by decide +kernel)]; kernel_rfl)|(rw [if_neg (by decide +kernel)]; exact ⟨rfl,rfl⟩)

theorem proved:Rows.ConvertKeptSaid:=
  OpenClaim.holds_of_wide 6 Tryz.f6 rfl rfl rfl rfl rfl rfl rfl ⟨rfl,rfl,rfl,rfl,rfl⟩ rfl rfl rfl rfl rfl kN Tryz.func6 kA kI kW
    (λos started H enc _=>lifted os started H enc)
end Go.Proofs.YtdjagncoefjfeaaGreat.convertKept
