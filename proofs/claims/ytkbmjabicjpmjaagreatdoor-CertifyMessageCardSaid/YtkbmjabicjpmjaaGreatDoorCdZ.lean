/- The statement CertifyMessage holds as its row states it, for every input. -/
import Derived.Test.YtkbmjabicjpmjaaGreatDoorRows
import Derived.Test.YtkbmjabicjpmjaaGreatDoorCdE
import Derived.OpenShut
import Derived.JoinedOf
import Derived.LaidMore
import Derived.LaidHandle
namespace Go.Proofs.YtkbmjabicjpmjaaGreatDoor.certifyMessage
open Go Go.ChangeShapes Go.WideShapes Go.ChangeAt Go.RowKit Go.Proofs.YtkbmjabicjpmjaaGreatDoor Go.Proofs.YtkbmjabicjpmjaaGreatDoor.Shv
set_option linter.all false
set_option maxRecDepth 100000

theorem own:ownKnob Tryz.prog.godebug=none:=by kernel_rfl

/-- a c b a d,by a types b a program -/
def alB:I (TypeId×Nat):=[(24,1),(27,0),(31,11),(33,12),(39,5),(48,17),(56,21),(58,20),(62,9),(82,13),(107,18),(112,6),(135,2),(141,7),(145,4),(148,3),(162,8),(164,16),(179,19),(188,10),(239,15),(276,14)]
def strs:TypeId→ai Nat:=yi alB
theorem alC:tf Tryz.prog cP strs:=ahL (by kernel_rfl)

theorem parts:nY Tryz.prog cP strs Tryz.f6.params.toList jU.gm jU.ts:=by kernel_rfl

theorem plain:∀h:a8 cP.D jU.ts,Ok cP jU.ts h→BZ h=some true:=λh a=>akM h a

theorem air (H:Type)(enc:TypeId×Value→H)(W:World)(base:Nat)(args:Array Value)(a gs:I (DataW H))(c:I MemPlace)
    (g:∀ (j:Nat) t v,Tryz.f6.params[j]? = some t → args[j]? = some v → Value.okWide Tryz.prog W .any base t v)
    (eh:DataW.Whole enc Tryz.prog Tryz.f6.params.toList Rows.certifyMessageSpec.vars false W args.toList a gs c)
    (f:(DataW.weightsEach Tryz.prog (Tryz.f6.params.toList++Rows.certifyMessageSpec.plain.varTypes Tryz.prog) (a++gs)).all (· ≤ reachBytes)) :
    Calls Tryz.prog 6 args W λe b=>∃ v,e = .returned v ∧ Rows.certifyMessageSpec.post enc Tryz.prog Tryz.f6 false true false false W args v b:=
  akO (U:= cP) (st:= strs) ahK ahJ.2 plain alC parts (hres:= rfl) (htb:= by kernel_rfl) rfl
    (λa d=>match a,d with|[d0,d1],_=>⟨rfl,rfl,rfl⟩) (by kernel_rfl) (by kernel_rfl) (by kernel_rfl) g eh f

/-- i listed k -/
noncomputable def C4:I (String×DataW Unit):= Rows.certifyMessageRow.laid
theorem aiw(os:Os)(args:Array Value):laidMetH Tryz.prog C4 ((World.doorLaid Tryz.prog 72 os).forCall (λ_ _=>0) ⟨#[],args,[]⟩).memory:=
  laidMetH_of_parts3 (fuel:= 8) (laidMet_of_run' 8 (by kernel_rfl) (by kernel_rfl)) (by kernel_rfl) (by kernel_rfl)
theorem lifted(os:Os)(e:os.Started)(H:Type)(enc:TypeId×Value→H) :
    ReturnsInHanded {} Tryz.checked os 6 .any (λw args=>(Rows.certifyMessageSpec.pre enc Tryz.prog Tryz.f6 Rows.certifyMessageRow.domain false w args ∧ laidMetH Tryz.prog C4 w) ∧ sizedMet enc Tryz.prog Tryz.f6 (OpenSpec.ofChange Rows.certifyMessageSpec) false w args) (Rows.certifyMessageSpec.post enc Tryz.prog Tryz.f6 false true false false):= by
  refine returnsInHanded_of_change_and (C:= Tryz.checked) (X:=λw _=>laidMetH Tryz.prog C4 w) (λ_ _ _ ad h=>h.of_heap ad) own e (by kernel_rfl) Tryz.func6
    (ChangeSpec.witness_shaped (enc:= enc) (C:= Tryz.checked) (os:= os) (X:=λw _=>laidMetH Tryz.prog C4 w) false (World.doorLaid Tryz.prog 72 os) #[.agg #[.slice none 0 0, .slice none 0 0, .int .u8 0, .int .u8 0], .string ByteArray.empty] 12 rfl (World.shaped_of_RefB (by kernel_rfl) (by kernel_rfl)) (by kernel_rfl) (by kernel_rfl) (by kernel_rfl) (aiw os _)) ?_
  intro W base args b gs a d eh _ c _ _;exact air H enc W base args b gs a d eh c

theorem V9:Tryz.checked.prog.funcNamed Rows.certifyMessageRow.func=some 6:=by kernel_rfl
theorem bj:Rows.certifyMessageRow.wf (OpenSpec.ofChange Rows.certifyMessageSpec):=by kernel_rfl
theorem bq:laidOutB Tryz.checked.prog:=by kernel_rfl
theorem b4:mapsRowed Tryz.checked.prog:=by kernel_rfl
theorem cv:(Rows.certifyMessageRow.inPlace==Tryz.checked.prog.inPlace 6):=by kernel_rfl
theorem cZ:(Rows.certifyMessageRow.unfollowed==Tryz.checked.prog.unfollowed 6):=by kernel_rfl
theorem c7:(Rows.certifyMessageRow.recurses==Tryz.checked.prog.recurses 6):=by kernel_rfl
theorem fc:(Rows.certifyMessageRow.named==Tryz.checked.prog.varsNamed 6):=by kernel_rfl
theorem eA:(Rows.certifyMessageRow.plainKeys==Tryz.checked.prog.plainKeys):=by kernel_rfl
theorem fv:Tryz.checked.prog.stopsHeard:=by kernel_rfl
theorem akK:joinedFacts Tryz.checked.prog 6 Tryz.f6 Rows.certifyMessageSpec Rows.certifyMessageRow:=by
  unfold joinedFacts;rw [bj,bq,b4,cv,cZ,c7,fc,eA,fv]
  kernel_rfl
theorem zg:Tryz.f6.isInstance Tryz.checked.prog Rows.certifyMessageRow.origin Rows.certifyMessageRow.targs:=hx (by kernel_rfl)
theorem akL:Tryz.f6.isWrapper Tryz.checked.prog Rows.certifyMessageRow.wrapper Rows.certifyMessageRow.mainSum:=by
  unfold Func.isWrapper; first|(rw [ag (by decide +kernel)]; kernel_rfl)|(rw [aq (by decide +kernel)]; exact ⟨rfl,rfl⟩)

theorem bare:Rows.CertifyMessageSaid:=
  OpenClaim.holds_of_wide 6 Tryz.f6 rfl rfl rfl rfl rfl rfl rfl ⟨rfl,rfl,rfl,rfl,rfl⟩ rfl rfl rfl rfl rfl V9 Tryz.func6 akK zg akL
    (λos a H enc _=>lifted os a H enc)
end Go.Proofs.YtkbmjabicjpmjaaGreatDoor.certifyMessage
