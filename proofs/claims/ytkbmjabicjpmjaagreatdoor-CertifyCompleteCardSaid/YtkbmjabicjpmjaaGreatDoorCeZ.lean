/- The statement CertifyComplete holds as its row states it, for every input. -/
import Derived.Test.YtkbmjabicjpmjaaGreatDoorRows
import Derived.Test.YtkbmjabicjpmjaaGreatDoorCeD
import Derived.OpenShut
import Derived.JoinedOf
import Derived.LaidMore
import Derived.LaidHandle
namespace Go.Proofs.YtkbmjabicjpmjaaGreatDoor.certifyComplete
open Go Go.ChangeShapes Go.WideShapes Go.ChangeAt Go.RowKit Go.Proofs.YtkbmjabicjpmjaaGreatDoor Go.Proofs.YtkbmjabicjpmjaaGreatDoor.Shv
set_option linter.all false
set_option maxRecDepth 100000

theorem own:ownKnob Tryz.prog.godebug=none:=by kernel_rfl

/-- a c b a d,by a types b a program -/
def aeG:List (TypeId×Nat):=[(24,1),(27,0),(31,11),(33,12),(39,5),(48,17),(56,21),(58,20),(62,9),(82,13),(107,18),(112,6),(135,2),(141,7),(145,4),(148,3),(162,8),(164,16),(179,19),(188,10),(239,15),(276,14)]
def strs:TypeId→Option Nat:=u' aeG
theorem aeH:qU Tryz.prog cu strs:=abM (by kernel_rfl)

theorem parts:ma Tryz.prog cu strs Tryz.f4.params.toList fR.fh fR.ts=true:=by kernel_rfl

theorem plain:∀h:aJ cu.D fR.ts,Ok cu fR.ts h→yw h=some true:=λh a=>adW h a

theorem ab3 (H:Type)(enc:TypeId×Value→H)(W:World)(base:Nat)(args:Array Value)(a gs:List (DataW H))(c:List MemPlace)
    (f:∀ (j:Nat) t v,Tryz.f4.params[j]? = some t → args[j]? = some v → Value.okWide Tryz.prog W .any base t v)
    (fc:DataW.Whole enc Tryz.prog Tryz.f4.params.toList Rows.certifyCompleteSpec.vars false W args.toList a gs c)
    (d:(DataW.weightsEach Tryz.prog (Tryz.f4.params.toList++Rows.certifyCompleteSpec.plain.varTypes Tryz.prog) (a++gs)).all (· ≤ reachBytes) = true) :
    Calls Tryz.prog 4 args W λe b=>∃ v,e = .returned v ∧ Rows.certifyCompleteSpec.post enc Tryz.prog Tryz.f4 false true false false W args v b:=
  adY (U:= cu) (st:= strs) abL abK.2 plain aeH parts (hres:= rfl) (htb:= by kernel_rfl) rfl
    (λa aj=>match a,aj with|[d0],_=>⟨rfl,rfl,rfl⟩) (by kernel_rfl) (by kernel_rfl) (by kernel_rfl) f fc d

/-- g listed i -/
noncomputable def zH:List (String×DataW Unit):= Rows.certifyCompleteRow.laid
theorem ab7(os:Os)(args:Array Value):laidMetH Tryz.prog zH ((World.doorLaid Tryz.prog 72 os).forCall (λ_ _=>0) ⟨#[],args,[]⟩).memory:=
  laidMetH_of_parts3 (fuel:= 8) (laidMet_of_run' 8 (by kernel_rfl) (by kernel_rfl)) (by kernel_rfl) (by kernel_rfl)
theorem lifted(os:Os)(e:os.Started)(H:Type)(enc:TypeId×Value→H) :
    ReturnsInHanded {} Tryz.checked os 4 .any (λw args=>(Rows.certifyCompleteSpec.pre enc Tryz.prog Tryz.f4 Rows.certifyCompleteRow.domain false w args ∧ laidMetH Tryz.prog zH w) ∧ sizedMet enc Tryz.prog Tryz.f4 (OpenSpec.ofChange Rows.certifyCompleteSpec) false w args) (Rows.certifyCompleteSpec.post enc Tryz.prog Tryz.f4 false true false false):= by
  refine returnsInHanded_of_change_and (C:= Tryz.checked) (X:=λw _=>laidMetH Tryz.prog zH w) (λ_ _ _ aa h=>h.of_heap aa) own e (by kernel_rfl) Tryz.func4
    (ChangeSpec.witness_shaped (enc:= enc) (C:= Tryz.checked) (os:= os) (X:=λw _=>laidMetH Tryz.prog zH w) false (World.doorLaid Tryz.prog 72 os) #[.agg #[.slice none 0 0, .slice none 0 0, .int .u8 0, .int .u8 0]] 12 rfl (World.shaped_of_RefB (by kernel_rfl) (by kernel_rfl)) (by kernel_rfl) (by kernel_rfl) (by kernel_rfl) (ab7 os _)) ?_
  intro W base args b gs a d fc _ c _ _;exact ab3 H enc W base args b gs a d fc c

theorem OG:Tryz.checked.prog.funcNamed Rows.certifyCompleteRow.func=some 4:=by kernel_rfl
theorem bn:Rows.certifyCompleteRow.wf (OpenSpec.ofChange Rows.certifyCompleteSpec)=true:=by kernel_rfl
theorem bt:laidOutB Tryz.checked.prog=true:=by kernel_rfl
theorem bY:mapsRowed Tryz.checked.prog=true:=by kernel_rfl
theorem cw:(Rows.certifyCompleteRow.inPlace==Tryz.checked.prog.inPlace 4)=true:=by kernel_rfl
theorem cW:(Rows.certifyCompleteRow.unfollowed==Tryz.checked.prog.unfollowed 4)=true:=by kernel_rfl
theorem dm:(Rows.certifyCompleteRow.recurses==Tryz.checked.prog.recurses 4)=true:=by kernel_rfl
theorem gq:(Rows.certifyCompleteRow.named==Tryz.checked.prog.varsNamed 4)=true:=by kernel_rfl
theorem gE:(Rows.certifyCompleteRow.plainKeys==Tryz.checked.prog.plainKeys)=true:=by kernel_rfl
theorem gr:Tryz.checked.prog.stopsHeard=true:=by kernel_rfl
theorem adT:joinedFacts Tryz.checked.prog 4 Tryz.f4 Rows.certifyCompleteSpec Rows.certifyCompleteRow=true:=by
  unfold joinedFacts;rw [bn,bt,bY,cw,cW,dm,gq,gE,gr]
  kernel_rfl
theorem adU:Tryz.f4.isInstance Tryz.checked.prog Rows.certifyCompleteRow.origin Rows.certifyCompleteRow.targs:=gf (by kernel_rfl)
theorem adV:Tryz.f4.isWrapper Tryz.checked.prog Rows.certifyCompleteRow.wrapper Rows.certifyCompleteRow.mainSum:=by
  unfold Func.isWrapper; first|(rw [ai (by decide +kernel)]; kernel_rfl)|(rw [av (by decide +kernel)]; exact ⟨rfl,rfl⟩)

theorem bare:Rows.CertifyCompleteSaid:=
  OpenClaim.holds_of_wide 4 Tryz.f4 rfl rfl rfl rfl rfl rfl rfl ⟨rfl,rfl,rfl,rfl,rfl⟩ rfl rfl rfl rfl rfl OG Tryz.func4 adT adU adV
    (λos a H enc _=>lifted os a H enc)
end Go.Proofs.YtkbmjabicjpmjaaGreatDoor.certifyComplete
