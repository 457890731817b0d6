/- The statement ConvertAll holds as its row states it, for every input. -/
import Derived.Test.YtdjagncoefjfeaaGreatRows
import Derived.Test.YtdjagncoefjfeaaGreatCaE
import Derived.OpenShut
import Derived.JoinedOf
namespace Go.Proofs.YtdjagncoefjfeaaGreat.convertAll
open Go Go.ChangeShapes Go.WideShapes Go.ChangeAt Go.RowKit Go.Proofs.YtdjagncoefjfeaaGreat Go.Proofs.YtdjagncoefjfeaaGreat.Shv
set_option linter.all false
set_option maxRecDepth 100000

theorem own:ownKnob Tryz.prog.godebug=none:=by kernel_rfl

/-- aiG numbers of aiG structs,by aiG types of aiG program -/
def ahZ:List (TypeId×Nat):=[(24,3),(27,2),(30,1),(32,0),(35,12),(37,13),(48,10),(72,22),(85,9),(90,18),(94,21),(101,20),(104,15),(106,19),(112,7),(117,11),(134,6),(138,4),(140,5),(146,8),(196,16),(236,14),(276,17)]
def strs:TypeId→Option Nat:=w1 ahZ
theorem strsOk:sq Tryz.prog cR strs:=aeI (by kernel_rfl)

theorem parts:mg Tryz.prog cR strs Tryz.f8.params.toList e8.gC e8.ts=true:=by kernel_rfl

theorem plain:∀h:aO cR.D e8.ts,Ok cR e8.ts h→AB h=some true:=λh hk=>ahf h hk

theorem contract (H:Type)(enc:TypeId×Value→H)(W:World)(base:Nat)(args:Array Value)(oX gs:List (DataW H))(before:List MemPlace)
    (aiF:∀ (j:Nat) t v,Tryz.f8.params[j]? = some t → args[j]? = some v → Value.okWide Tryz.prog W .any base t v)
    (dj:DataW.Whole enc Tryz.prog Tryz.f8.params.toList Rows.convertAllSpec.vars false W args.toList oX gs before)
    (hk:(DataW.weightsEach Tryz.prog (Tryz.f8.params.toList++Rows.convertAllSpec.plain.varTypes Tryz.prog) (oX++gs)).all (· ≤ reachBytes) = true) :
    Calls Tryz.prog 8 args W λe aiE=>∃ v,e = .returned v ∧ Rows.convertAllSpec.post enc Tryz.prog Tryz.f8 false true false false W args v aiE:=
  ahh (U:= cR) (st:= strs) aeH aeG.2 plain strsOk parts (hres:= rfl) (htb:= by kernel_rfl) rfl
    (λoX aiq=>match oX,aiq with|[d0,d1],_=>⟨rfl,rfl,rfl⟩) (by kernel_rfl) (by kernel_rfl) (by kernel_rfl) aiF dj hk

theorem lifted(os:Os)(started:os.Started)(H:Type)(enc:TypeId×Value→H) :
    ReturnsInHanded {} Tryz.checked os 8 .any (Rows.convertAllSpec.pre6 enc Tryz.prog Tryz.f8 Rows.convertAllRow.domain false) (Rows.convertAllSpec.post enc Tryz.prog Tryz.f8 false true false false):= by
  refine returnsInHanded_of_change_sized (C:= Tryz.checked) own started (by kernel_rfl) Tryz.func8
    (ChangeSpec.witness6 (enc:= enc) (C:= Tryz.checked) false ⟨#[], #[.agg #[.slice none 0 0, .int .u8 0, .slice none 0 0, .slice none 0 0, .bool false], .slice none 0 0],[]⟩ 12 (by kernel_rfl) (by kernel_rfl) (by kernel_rfl) (by kernel_rfl)) ?_
  intro W base args oX gs before aiF dj _ hk _
  exact contract H enc W base args oX gs before aiF dj hk

theorem kN:Tryz.checked.prog.funcNamed Rows.convertAllRow.func=some 8:=by kernel_rfl
theorem k1:Rows.convertAllRow.wf (OpenSpec.ofChange Rows.convertAllSpec)=true:=by kernel_rfl
theorem k2:laidOutB Tryz.checked.prog=true:=by kernel_rfl
theorem k3:mapsRowed Tryz.checked.prog=true:=by kernel_rfl
theorem k4:(Rows.convertAllRow.inPlace==Tryz.checked.prog.inPlace 8)=true:=by kernel_rfl
theorem k5:(Rows.convertAllRow.unfollowed==Tryz.checked.prog.unfollowed 8)=true:=by kernel_rfl
theorem k6:(Rows.convertAllRow.recurses==Tryz.checked.prog.recurses 8)=true:=by kernel_rfl
theorem k7:(Rows.convertAllRow.named==Tryz.checked.prog.varsNamed 8)=true:=by kernel_rfl
theorem k8:(Rows.convertAllRow.plainKeys==Tryz.checked.prog.plainKeys)=true:=by kernel_rfl
theorem k9:Tryz.checked.prog.stopsHeard=true:=by kernel_rfl
theorem kA:joinedFacts Tryz.checked.prog 8 Tryz.f8 Rows.convertAllSpec Rows.convertAllRow=true:=by
  unfold joinedFacts
  rw [k1,k2,k3,k4,k5,k6,k7,k8,k9]
  kernel_rfl
theorem kI:Tryz.f8.isInstance Tryz.checked.prog Rows.convertAllRow.origin Rows.convertAllRow.targs:=of_decide_eq_true (by kernel_rfl)
theorem kW:Tryz.f8.isWrapper Tryz.checked.prog Rows.convertAllRow.wrapper Rows.convertAllRow.mainSum:=by
  unfold Func.isWrapper; first|(rw [if_pos (by decide +kernel)]; kernel_rfl)|(rw [if_neg (by decide +kernel)]; exact ⟨rfl,rfl⟩)

theorem proved:Rows.ConvertAllSaid:=
  OpenClaim.holds_of_wide 8 Tryz.f8 rfl rfl rfl rfl rfl rfl rfl ⟨rfl,rfl,rfl,rfl,rfl⟩ rfl rfl rfl rfl rfl kN Tryz.func8 kA kI kW
    (λos started H enc _=>lifted os started H enc)
end Go.Proofs.YtdjagncoefjfeaaGreat.convertAll
