/- The statement CertifyPath holds as its row states it, for every input. -/
import Derived.Test.YtkbmjabicjpmjaaGreatDoorRows
import Derived.Test.YtkbmjabicjpmjaaGreatDoorCbC
import Derived.OpenShut
import Derived.JoinedOf
import Derived.LaidMore
import Derived.LaidHandle
namespace Go.Proofs.YtkbmjabicjpmjaaGreatDoor.certifyPath
open Go Go.ChangeShapes Go.WideShapes Go.ChangeAt Go.RowKit Go.Proofs.YtkbmjabicjpmjaaGreatDoor Go.Proofs.YtkbmjabicjpmjaaGreatDoor.Shv
set_option linter.all false
set_option maxRecDepth 100000

theorem own:ownKnob Tryz.prog.godebug = none:= by kernel_rfl

/-- the numbers of the structs,by the types of the program -/
def strL:List (TypeId×Nat):= [(24,1),(27,0),(31,11),(33,12),(39,5),(48,17),(56,21),(58,20),(62,9),(82,13),(107,18),(112,6),(135,2),(141,7),(145,4),(148,3),(162,8),(164,16),(179,19),(188,10),(239,15),(276,14)]
def strs:TypeId → Option Nat:= stOf strL
theorem strsOk:StOk Tryz.prog Un strs:= Qo (by kernel_rfl)

theorem parts:parOk Tryz.prog Un strs Tryz.f5.params.toList e5.sa e5.ts = true:= by kernel_rfl

theorem plain:∀ h:Hs Un.D e5.ts,Ok Un e5.ts h → o9 h = some true:=λh hk=>law_CertifyPath h hk

theorem contract (H:Type) (enc:TypeId×Value → H) (W:World) (base:Nat) (args:Array Value) (ds gs:List (DataW H)) (before:List MemPlace)
    (hval:∀ (j:Nat) t v,Tryz.f5.params[j]? = some t → args[j]? = some v → Value.okWide Tryz.prog W .any base t v)
    (hW:DataW.Whole enc Tryz.prog Tryz.f5.params.toList Rows.certifyPathSpec.vars false W args.toList ds gs before)
    (hk:(DataW.weightsEach Tryz.prog (Tryz.f5.params.toList++Rows.certifyPathSpec.plain.varTypes Tryz.prog) (ds++gs)).all (· ≤ reachBytes) = true) :
    Calls Tryz.prog 5 args W λe W'=>∃ v,e = .returned v ∧ Rows.certifyPathSpec.post enc Tryz.prog Tryz.f5 false true false false W args v W':=
  law_contract (U:= Un) (st:= strs) Qn Qm.2 plain strsOk parts (hres:= rfl) (htb:= by kernel_rfl) rfl
    (λds hd=>match ds,hd with|[d0,d1],_=>⟨rfl,rfl,rfl⟩) (by kernel_rfl) (by kernel_rfl) (by kernel_rfl) hval hW hk

/-- the listed variables -/
noncomputable def laidL:List (String×DataW Unit):= Rows.certifyPathRow.laid
theorem door_met (os:Os) (args:Array Value):laidMetH Tryz.prog laidL ((World.doorLaid Tryz.prog 72 os).forCall (λ_ _=>0) ⟨#[],args,[]⟩).memory:=
  laidMetH_of_parts3 (fuel:= 8) (laidMet_of_run' 8 (by kernel_rfl) (by kernel_rfl)) (by kernel_rfl) (by kernel_rfl)
theorem lifted (os:Os) (started:os.Started) (H:Type) (enc:TypeId×Value → H) :
    ReturnsInHanded {} Tryz.checked os 5 .any (λw args=>(Rows.certifyPathSpec.pre enc Tryz.prog Tryz.f5 Rows.certifyPathRow.domain false w args ∧ laidMetH Tryz.prog laidL w) ∧ sizedMet enc Tryz.prog Tryz.f5 (OpenSpec.ofChange Rows.certifyPathSpec) false w args) (Rows.certifyPathSpec.post enc Tryz.prog Tryz.f5 false true false false):= by
  refine returnsInHanded_of_change_and (C:= Tryz.checked) (X:=λw _=>laidMetH Tryz.prog laidL w) (λ_ _ _ hh h=>h.of_heap hh) own started (by kernel_rfl) Tryz.func5
    (ChangeSpec.witness_shaped (enc:= enc) (C:= Tryz.checked) (os:= os) (X:=λw _=>laidMetH Tryz.prog laidL w) false (World.doorLaid Tryz.prog 72 os) #[.agg #[.slice none 0 0, .slice none 0 0, .int .u8 0, .int .u8 0], .slice none 0 0] 12 rfl (World.shaped_of_RefB (by kernel_rfl) (by kernel_rfl)) (by kernel_rfl) (by kernel_rfl) (by kernel_rfl) (door_met os _)) ?_
  intro W base args ds gs before hval hW _ hk _ _
  exact contract H enc W base args ds gs before hval hW hk

theorem kN:Tryz.checked.prog.funcNamed Rows.certifyPathRow.func = some 5:= by kernel_rfl
theorem k1:Rows.certifyPathRow.wf (OpenSpec.ofChange Rows.certifyPathSpec) = true:= by kernel_rfl
theorem k2:laidOutB Tryz.checked.prog = true:= by kernel_rfl
theorem k3:mapsRowed Tryz.checked.prog = true:= by kernel_rfl
theorem k4:(Rows.certifyPathRow.inPlace==Tryz.checked.prog.inPlace 5) = true:= by kernel_rfl
theorem k5:(Rows.certifyPathRow.unfollowed==Tryz.checked.prog.unfollowed 5) = true:= by kernel_rfl
theorem k6:(Rows.certifyPathRow.recurses==Tryz.checked.prog.recurses 5) = true:= by kernel_rfl
theorem k7:(Rows.certifyPathRow.named==Tryz.checked.prog.varsNamed 5) = true:= by kernel_rfl
theorem k8:(Rows.certifyPathRow.plainKeys==Tryz.checked.prog.plainKeys) = true:= by kernel_rfl
theorem k9:Tryz.checked.prog.stopsHeard = true:= by kernel_rfl
theorem kA:joinedFacts Tryz.checked.prog 5 Tryz.f5 Rows.certifyPathSpec Rows.certifyPathRow = true:= by
  unfold joinedFacts
  rw [k1,k2,k3,k4,k5,k6,k7,k8,k9]
  kernel_rfl
theorem kI:Tryz.f5.isInstance Tryz.checked.prog Rows.certifyPathRow.origin Rows.certifyPathRow.targs:= of_decide_eq_true (by kernel_rfl)
theorem kW:Tryz.f5.isWrapper Tryz.checked.prog Rows.certifyPathRow.wrapper Rows.certifyPathRow.mainSum:= by
  unfold Func.isWrapper; first|(rw [if_pos (by decide +kernel)]; kernel_rfl)|(rw [if_neg (by decide +kernel)]; exact ⟨rfl,rfl⟩)

theorem bare:Rows.CertifyPathSaid:=
  OpenClaim.holds_of_wide 5 Tryz.f5 rfl rfl rfl rfl rfl rfl rfl ⟨rfl,rfl,rfl,rfl,rfl⟩ rfl rfl rfl rfl rfl kN Tryz.func5 kA kI kW
    (λos started H enc _=>lifted os started H enc)
end Go.Proofs.YtkbmjabicjpmjaaGreatDoor.certifyPath
