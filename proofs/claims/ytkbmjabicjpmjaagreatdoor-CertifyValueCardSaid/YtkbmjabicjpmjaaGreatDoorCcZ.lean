/- The statement CertifyValue holds as its row states it, for every input. -/
import Derived.Test.YtkbmjabicjpmjaaGreatDoorRows
import Derived.Test.YtkbmjabicjpmjaaGreatDoorCcD
import Derived.OpenShut
import Derived.JoinedOf
import Derived.LaidMore
import Derived.LaidHandle
namespace Go.Proofs.YtkbmjabicjpmjaaGreatDoor.certifyValue
open Go Go.ChangeShapes Go.WideShapes Go.ChangeAt Go.RowKit Go.Proofs.YtkbmjabicjpmjaaGreatDoor Go.Proofs.YtkbmjabicjpmjaaGreatDoor.Shv
set_option linter.all false
set_option maxRecDepth 100000

theorem own:ownKnob Tryz.prog.godebug=none:=by kernel_rfl

/-- a c b a d,by a types b a program -/
def aeA:List (TypeId×Nat):=[(24,1),(27,0),(31,11),(33,12),(39,5),(48,17),(56,21),(58,20),(62,9),(82,13),(107,18),(112,6),(135,2),(141,7),(145,4),(148,3),(162,8),(164,16),(179,19),(188,10),(239,15),(276,14)]
def strs:TypeId→Option Nat:=vG aeA
theorem aeB:rb Tryz.prog cn strs:=abi (by kernel_rfl)

theorem parts:mI Tryz.prog cn strs Tryz.f7.params.toList og.ft og.ts=true:=by kernel_rfl

theorem plain:∀h:aJ cn.D og.ts,Ok cn og.ts h→zf h=some true:=λh a=>adI h a

theorem abC (H:Type)(enc:TypeId×Value→H)(W:World)(base:Nat)(args:Array Value)(a gs:List (DataW H))(c:List MemPlace)
    (g:∀ (j:Nat) t v,Tryz.f7.params[j]? = some t → args[j]? = some v → Value.okWide Tryz.prog W .any base t v)
    (dN:DataW.Whole enc Tryz.prog Tryz.f7.params.toList Rows.certifyValueSpec.vars false W args.toList a gs c)
    (f:(DataW.weightsEach Tryz.prog (Tryz.f7.params.toList++Rows.certifyValueSpec.plain.varTypes Tryz.prog) (a++gs)).all (· ≤ reachBytes) = true) :
    Calls Tryz.prog 7 args W λe b=>∃ v,e = .returned v ∧ Rows.certifyValueSpec.post enc Tryz.prog Tryz.f7 false true false false W args v b:=
  adK (U:= cn) (st:= strs) aaG aaF.2 plain aeB parts (hres:= rfl) (htb:= by kernel_rfl) rfl
    (λa d=>match a,d with|[d0],_=>⟨rfl,rfl,rfl⟩) (by kernel_rfl) (by kernel_rfl) (by kernel_rfl) g dN f

/-- i listed k -/
noncomputable def Ak:List (String×DataW Unit):= Rows.certifyValueRow.laid
theorem abG(os:Os)(args:Array Value):laidMetH Tryz.prog Ak ((World.doorLaid Tryz.prog 72 os).forCall (λ_ _=>0) ⟨#[],args,[]⟩).memory:=
  laidMetH_of_parts3 (fuel:= 8) (laidMet_of_run' 8 (by kernel_rfl) (by kernel_rfl)) (by kernel_rfl) (by kernel_rfl)
theorem lifted(os:Os)(e:os.Started)(H:Type)(enc:TypeId×Value→H) :
    ReturnsInHanded {} Tryz.checked os 7 .any (λw args=>(Rows.certifyValueSpec.pre enc Tryz.prog Tryz.f7 Rows.certifyValueRow.domain false w args ∧ laidMetH Tryz.prog Ak w) ∧ sizedMet enc Tryz.prog Tryz.f7 (OpenSpec.ofChange Rows.certifyValueSpec) false w args) (Rows.certifyValueSpec.post enc Tryz.prog Tryz.f7 false true false false):= by
  refine returnsInHanded_of_change_and (C:= Tryz.checked) (X:=λw _=>laidMetH Tryz.prog Ak w) (λ_ _ _ aa h=>h.of_heap aa) own e (by kernel_rfl) Tryz.func7
    (ChangeSpec.witness_shaped (enc:= enc) (C:= Tryz.checked) (os:= os) (X:=λw _=>laidMetH Tryz.prog Ak w) false (World.doorLaid Tryz.prog 72 os) #[.agg #[.slice none 0 0, .int .u8 0, .slice none 0 0, .slice none 0 0]] 12 rfl (World.shaped_of_RefB (by kernel_rfl) (by kernel_rfl)) (by kernel_rfl) (by kernel_rfl) (by kernel_rfl) (abG os _)) ?_
  intro W base args b gs a d dN _ c _ _;exact abC H enc W base args b gs a d dN c

theorem Ob:Tryz.checked.prog.funcNamed Rows.certifyValueRow.func=some 7:=by kernel_rfl
theorem bb:Rows.certifyValueRow.wf (OpenSpec.ofChange Rows.certifyValueSpec)=true:=by kernel_rfl
theorem bq:laidOutB Tryz.checked.prog=true:=by kernel_rfl
theorem bU:mapsRowed Tryz.checked.prog=true:=by kernel_rfl
theorem cu:(Rows.certifyValueRow.inPlace==Tryz.checked.prog.inPlace 7)=true:=by kernel_rfl
theorem cW:(Rows.certifyValueRow.unfollowed==Tryz.checked.prog.unfollowed 7)=true:=by kernel_rfl
theorem da:(Rows.certifyValueRow.recurses==Tryz.checked.prog.recurses 7)=true:=by kernel_rfl
theorem gx:(Rows.certifyValueRow.named==Tryz.checked.prog.varsNamed 7)=true:=by kernel_rfl
theorem gS:(Rows.certifyValueRow.plainKeys==Tryz.checked.prog.plainKeys)=true:=by kernel_rfl
theorem gi:Tryz.checked.prog.stopsHeard=true:=by kernel_rfl
theorem adE:joinedFacts Tryz.checked.prog 7 Tryz.f7 Rows.certifyValueSpec Rows.certifyValueRow=true:=by
  unfold joinedFacts;rw [bb,bq,bU,cu,cW,da,gx,gS,gi]
  kernel_rfl
theorem adF:Tryz.f7.isInstance Tryz.checked.prog Rows.certifyValueRow.origin Rows.certifyValueRow.targs:=gk (by kernel_rfl)
theorem adG:Tryz.f7.isWrapper Tryz.checked.prog Rows.certifyValueRow.wrapper Rows.certifyValueRow.mainSum:=by
  unfold Func.isWrapper; first|(rw [af (by decide +kernel)]; kernel_rfl)|(rw [al (by decide +kernel)]; exact ⟨rfl,rfl⟩)

theorem bare:Rows.CertifyValueSaid:=
  OpenClaim.holds_of_wide 7 Tryz.f7 rfl rfl rfl rfl rfl rfl rfl ⟨rfl,rfl,rfl,rfl,rfl⟩ rfl rfl rfl rfl rfl Ob Tryz.func7 adE adF adG
    (λos a H enc _=>lifted os a H enc)
end Go.Proofs.YtkbmjabicjpmjaaGreatDoor.certifyValue
