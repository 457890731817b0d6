/- The functions of the program as functions of Lean, that its code does what they say, and what they answer; part A. -/
import Derived.Test.YtkbmjabicjpmjaaGreatDoorProg
import Derived.KernelRfl
import Derived.Shelf.Strconv.AtoiAll
import Derived.WalkKit
import Derived.Shelf.SlGeneric
import Derived.Shelf.SlLaysF0
import Derived.Shelf.SlSortCmp.WholeK
import Derived.Lib.Small
import Derived.Test.YtkbmjabicjpmjaaGreatDoorCuLD

namespace Go.Proofs.YtkbmjabicjpmjaaGreatDoor
set_option linter.all false
section
open Go Go.Proofs.YtkbmjabicjpmjaaGreatDoor.Shv
open Tryz
set_option maxRecDepth 100000
def tabCells :Array Value:=(Lib.pow10Tab.map fun z=>Value.int .u64 z).toArray
instance:GV:=⟨[(0,fun o=>∃t s,o= .cells tabCells t s),(4,fun o=>∃te pe t s,o= .cells #[.iface te pe] t s),(5,fun o=>∃te pe t s,o= .cells #[.iface te pe] t s)]⟩
theorem hasTab :lf prog:=fun w B h=>by
 obtain ⟨_, o, h1, t, s, rfl⟩ := h (0, _) (.head _);unfold Lib.TabIs World.var?;rw [show prog.globalNamed "internal/strconv.uint64pow10" = some 0 from by kernel_rfl];show (match w.heap[0]? with | some (.cells cs _ _) => some cs | _ => none) = _;have h1 : w.heap[0]? = some (.cells tabCells t s):= h1;rw [h1]; rfl
theorem hasE :HasIf 4:=fun w B h=>by
 obtain⟨_,o,h1,te,pe,t,s,rfl⟩:=h (4,_) (.tail _ (.head _));have h1:w.heap[4]?=some (.cells #[.iface te pe] t s):=h1;exact⟨te,pe,by simp[World.cell?,h1]⟩
theorem hasR :HasIf 5:=fun w B h=>by
 obtain⟨_,o,h1,te,pe,t,s,rfl⟩:=h (5,_) (.tail _ (.tail _ (.head _)));have h1:w.heap[5]?=some (.cells #[.iface te pe] t s):=h1;exact⟨te,pe,by simp[World.cell?,h1]⟩
structure af where
 A0:Int
 A1:Int
structure aq where
 Compatible:Bool
 Relation:List af
 Message:List UInt8
structure eS where
 ID:Int
 Name:List UInt8
structure fb where
 ID:Int
 Data:List UInt8
structure bW where
 Kind:Int
 Bool_:Bool
 Int_:Int
 Str:List UInt8
 ID:Int
 Keys:List bW
 Items:List bW
 Rest:List fb
structure eT where
 ID:Int
 Name:List UInt8
 Type_:Int
 Critical:Bool
 HasDefault:Bool
 Default:bW
structure di where
 Kind:Int
 Name:List UInt8
 Low:Int
 High:Int
 Max:Int
 Symbols:List eS
 Members:List eT
 Key:Int
 Elem:Int
 Open:Bool
structure cw where
 Types:List di
structure aB where
 Schema:cw
 Type_:Int
structure aZ where
 w:aB
 r:aB
structure bN where
 id:Int
 text:List UInt8
structure gw where
 ID:Int
 Critical:Bool
 Data:List UInt8
structure fV where
 Path:List Int
 Reason:Int
structure b9 where
 Str:List UInt8
 Len:Int
def aN :af:=⟨0,0⟩
def u9 :aq:=⟨false,[],[]⟩
def vP :eS:=⟨0,[]⟩
def yZ :fb:=⟨0,[]⟩
def pK :bW:=⟨0,false,0,[],0,[],[],[]⟩
def vQ :eT:=⟨0,[],0,false,false,pK⟩
def xB :di:=⟨0,[],0,0,0,[],[],0,0,false⟩
def o7 :cw:=⟨[]⟩
def lg :aB:=⟨o7,0⟩
def rP :aZ:=⟨lg,lg⟩
def jr :bN:=⟨0,[]⟩
def wG :gw:=⟨0,false,[]⟩
def va :fV:=⟨[],0⟩
def rf :b9:=⟨[],0⟩
def uD :Nat->Type
 | 0=>aq
 | 1=>af
 | 2=>di
 | 3=>eS
 | 4=>eT
 | 5=>bW
 | 6=>fb
 | 7=>aB
 | 8=>cw
 | 9=>aZ
 | 10=>bN
 | 11=>gw
 | 12=>fV
 | 13=>b9
 | _=>Bool
def uTys :Nat->List Ty
 | 0=>[.bool,.slice (.nm 1),.str]
 | 1=>[.int .i64,.int .i64]
 | 2=>[.int .i64,.str,.int .i64,.int .i64,.int .i64,.slice (.nm 3),.slice (.nm 4),.int .i64,.int .i64,.bool]
 | 3=>[.int .i64,.str]
 | 4=>[.int .i64,.str,.int .i64,.bool,.bool,.int .i64,.bool,.int .i64,.str,.int .i64,.slice (.nm 5),.slice (.nm 5),.slice (.nm 6)]
 | 5=>[.int .i64,.bool,.int .i64,.str,.int .i64,.slice (.nm 5),.slice (.nm 5),.slice (.nm 6)]
 | 6=>[.int .i64,.str]
 | 7=>[.slice (.nm 2),.int .i64]
 | 8=>[.slice (.nm 2)]
 | 9=>[.slice (.nm 2),.int .i64,.slice (.nm 2),.int .i64]
 | 10=>[.int .i64,.str]
 | 11=>[.int .i64,.bool,.str]
 | 12=>[.slice (.int .i64),.int .i64]
 | 13=>[.str,.int .i64]
 | _=>[.bool]
def uFlds :(n:Nat)->uD n->List (Cell uD)
 | 0,(x:aq)=>[⟨.bool,x.Compatible⟩,⟨.slice (.nm 1),x.Relation⟩,⟨.str,x.Message⟩]
 | 1,(x:af)=>[⟨.int .i64,x.A0⟩,⟨.int .i64,x.A1⟩]
 | 2,(x:di)=>[⟨.int .i64,x.Kind⟩,⟨.str,x.Name⟩,⟨.int .i64,x.Low⟩,⟨.int .i64,x.High⟩,⟨.int .i64,x.Max⟩,⟨.slice (.nm 3),x.Symbols⟩,⟨.slice (.nm 4),x.Members⟩,⟨.int .i64,x.Key⟩,⟨.int .i64,x.Elem⟩,⟨.bool,x.Open⟩]
 | 3,(x:eS)=>[⟨.int .i64,x.ID⟩,⟨.str,x.Name⟩]
 | 4,(x:eT)=>[⟨.int .i64,x.ID⟩,⟨.str,x.Name⟩,⟨.int .i64,x.Type_⟩,⟨.bool,x.Critical⟩,⟨.bool,x.HasDefault⟩,⟨.int .i64,x.Default.Kind⟩,⟨.bool,x.Default.Bool_⟩,⟨.int .i64,x.Default.Int_⟩,⟨.str,x.Default.Str⟩,⟨.int .i64,x.Default.ID⟩,⟨.slice (.nm 5),x.Default.Keys⟩,⟨.slice (.nm 5),x.Default.Items⟩,⟨.slice (.nm 6),x.Default.Rest⟩]
 | 5,(x:bW)=>[⟨.int .i64,x.Kind⟩,⟨.bool,x.Bool_⟩,⟨.int .i64,x.Int_⟩,⟨.str,x.Str⟩,⟨.int .i64,x.ID⟩,⟨.slice (.nm 5),x.Keys⟩,⟨.slice (.nm 5),x.Items⟩,⟨.slice (.nm 6),x.Rest⟩]
 | 6,(x:fb)=>[⟨.int .i64,x.ID⟩,⟨.str,x.Data⟩]
 | 7,(x:aB)=>[⟨.slice (.nm 2),x.Schema.Types⟩,⟨.int .i64,x.Type_⟩]
 | 8,(x:cw)=>[⟨.slice (.nm 2),x.Types⟩]
 | 9,(x:aZ)=>[⟨.slice (.nm 2),x.w.Schema.Types⟩,⟨.int .i64,x.w.Type_⟩,⟨.slice (.nm 2),x.r.Schema.Types⟩,⟨.int .i64,x.r.Type_⟩]
 | 10,(x:bN)=>[⟨.int .i64,x.id⟩,⟨.str,x.text⟩]
 | 11,(x:gw)=>[⟨.int .i64,x.ID⟩,⟨.bool,x.Critical⟩,⟨.str,x.Data⟩]
 | 12,(x:fV)=>[⟨.slice (.int .i64),x.Path⟩,⟨.int .i64,x.Reason⟩]
 | 13,(x:b9)=>[⟨.str,x.Str⟩,⟨.int .i64,x.Len⟩]
 | _+14,(x:Bool)=>[⟨.bool,x⟩]
def uMake :(n:Nat)->List (Cell uD)->Option (uD n)
 | 0,l=>(Hs.dec uD (uTys 0) l).map fun(a0,a1,a2)=>(⟨a0,a1,a2⟩:aq)
 | 1,l=>(Hs.dec uD (uTys 1) l).map fun(a0,a1)=>(⟨a0,a1⟩:af)
 | 2,l=>(Hs.dec uD (uTys 2) l).map fun(a0,a1,a2,a3,a4,a5,a6,a7,a8,a9)=>(⟨a0,a1,a2,a3,a4,a5,a6,a7,a8,a9⟩:di)
 | 3,l=>(Hs.dec uD (uTys 3) l).map fun(a0,a1)=>(⟨a0,a1⟩:eS)
 | 4,l=>(Hs.dec uD (uTys 4) l).map fun(a0,a1,a2,a3,a4,a5,a6,a7,a8,a9,a10,a11,a12)=>(⟨a0,a1,a2,a3,a4,(⟨a5,a6,a7,a8,a9,a10,a11,a12⟩:bW)⟩:eT)
 | 5,l=>(Hs.dec uD (uTys 5) l).map fun(a0,a1,a2,a3,a4,a5,a6,a7)=>(⟨a0,a1,a2,a3,a4,a5,a6,a7⟩:bW)
 | 6,l=>(Hs.dec uD (uTys 6) l).map fun(a0,a1)=>(⟨a0,a1⟩:fb)
 | 7,l=>(Hs.dec uD (uTys 7) l).map fun(a0,a1)=>(⟨(⟨a0⟩:cw),a1⟩:aB)
 | 8,l=>(Hs.dec uD (uTys 8) l).map fun h=>(⟨h⟩:cw)
 | 9,l=>(Hs.dec uD (uTys 9) l).map fun(a0,a1,a2,a3)=>(⟨(⟨(⟨a0⟩:cw),a1⟩:aB),(⟨(⟨a2⟩:cw),a3⟩:aB)⟩:aZ)
 | 10,l=>(Hs.dec uD (uTys 10) l).map fun(a0,a1)=>(⟨a0,a1⟩:bN)
 | 11,l=>(Hs.dec uD (uTys 11) l).map fun(a0,a1,a2)=>(⟨a0,a1,a2⟩:gw)
 | 12,l=>(Hs.dec uD (uTys 12) l).map fun(a0,a1)=>(⟨a0,a1⟩:fV)
 | 13,l=>(Hs.dec uD (uTys 13) l).map fun(a0,a1)=>(⟨a0,a1⟩:b9)
 | _+14,l=>(Hs.dec uD [.bool] l).map fun(h:Bool)=>h
def eArr2Int(x:af):List T:=[.int .i64 x.A0,.int .i64 x.A1]
def eSVerdict(x:aq):List T:=[.bool x.Compatible,.slice (x.Relation.map eArr2Int),.str x.Message]
def eSSymbol(x:eS):List T:=[.int .i64 x.ID,.str x.Name]
def eSRaw(x:fb):List T:=[.int .i64 x.ID,.str x.Data]
mutual
def eSValue :bW->List T
 | ⟨a0,a1,a2,a3,a4,a5,a6,a7⟩=>[.int .i64 a0,.bool a1,.int .i64 a2,.str a3,.int .i64 a4,.slice (eSValueL a5),.slice (eSValueL a6),.slice (a7.map eSRaw)]
def eSValueL :List bW->List (List T)
 | []=>[]
 | v::r=>eSValue v::eSValueL r
end
theorem mf :∀l,eSValueL l=l.map eSValue
 | []=>rfl
 | v::r=>by simp only[eSValueL,List.map];rw[mf r]
theorem ug(x:bW):eSValue x=[.int .i64 x.Kind,.bool x.Bool_,.int .i64 x.Int_,.str x.Str,.int .i64 x.ID,.slice (x.Keys.map eSValue),.slice (x.Items.map eSValue),.slice (x.Rest.map eSRaw)]:=by cases x;simp only[eSValue,mf]
def eSMember(x:eT):List T:=[.int .i64 x.ID,.str x.Name,.int .i64 x.Type_,.bool x.Critical,.bool x.HasDefault,.int .i64 x.Default.Kind,.bool x.Default.Bool_,.int .i64 x.Default.Int_,.str x.Default.Str,.int .i64 x.Default.ID,.slice (x.Default.Keys.map eSValue),.slice (x.Default.Items.map eSValue),.slice (x.Default.Rest.map eSRaw)]
def eSType(x:di):List T:=[.int .i64 x.Kind,.str x.Name,.int .i64 x.Low,.int .i64 x.High,.int .i64 x.Max,.slice (x.Symbols.map eSSymbol),.slice (x.Members.map eSMember),.int .i64 x.Key,.int .i64 x.Elem,.bool x.Open]
def eSSchema(x:cw):List T:=[.slice (x.Types.map eSType)]
def eSRoot(x:aB):List T:=[.slice (x.Schema.Types.map eSType),.int .i64 x.Type_]
def eCertifyPairs(x:aZ):List T:=[.slice (x.w.Schema.Types.map eSType),.int .i64 x.w.Type_,.slice (x.r.Schema.Types.map eSType),.int .i64 x.r.Type_]
def eEncodeEntry(x:bN):List T:=[.int .i64 x.id,.str x.text]
def eSField(x:gw):List T:=[.int .i64 x.ID,.bool x.Critical,.str x.Data]
def eSFailure(x:fV):List T:=[.slice (x.Path.map (fun y=>[.int .i64 y])),.int .i64 x.Reason]
def eSheaveref06Text(x:b9):List T:=[.str x.Str,.int .i64 x.Len]
def uEnc :(n:Nat)->uD n->List T
 | 0,x=>eSVerdict x
 | 1,x=>eArr2Int x
 | 2,x=>eSType x
 | 3,x=>eSSymbol x
 | 4,x=>eSMember x
 | 5,x=>eSValue x
 | 6,x=>eSRaw x
 | 7,x=>eSRoot x
 | 8,x=>eSSchema x
 | 9,x=>eCertifyPairs x
 | 10,x=>eEncodeEntry x
 | 11,x=>eSField x
 | 12,x=>eSFailure x
 | 13,x=>eSheaveref06Text x
 | _+14,(x:Bool)=>[.bool x]
def Un :Uni where
 D:=uD
 dfl:=fun n=>match n with
  | 0=>u9
  | 1=>aN
  | 2=>xB
  | 3=>vP
  | 4=>vQ
  | 5=>pK
  | 6=>yZ
  | 7=>lg
  | 8=>o7
  | 9=>rP
  | 10=>jr
  | 11=>wG
  | 12=>va
  | 13=>rf
  | _+14=>false
 flds:=uFlds
 make:=uMake
 tys:=uTys
 enc:=uEnc
 enc_eq:=fun n x=>match n,x with
  | 0,_ | 1,_ | 2,_ | 3,_ | 4,_ | 6,_ | 7,_ | 8,_ | 9,_ | 10,_ | 11,_ | 12,_ | 13,_=>rfl
  | 5,x=>ug x
  | _+14,_=>rfl
 mk_eq:=fun n l x h=>match n,x,h with
  | 0,x,h | 1,x,h | 2,x,h | 3,x,h | 4,x,h | 5,x,h | 6,x,h | 7,x,h | 8,x,h | 9,x,h | 10,x,h | 11,x,h | 12,x,h | 13,x,h=>by
   obtain⟨_,hd,rfl⟩:=Option.map_eq_some_iff.1 h;exact Hs.dec_cells hd
  | _+14,x,h=>by
   obtain⟨_,hd,rfl⟩:=Option.map_eq_some_iff.1 h;exact Hs.dec_cells hd
 tys_eq:=fun n x=>match n,x with
  | 0,_ | 1,_ | 2,_ | 3,_ | 4,_ | 5,_ | 6,_ | 7,_ | 8,_ | 9,_ | 10,_ | 11,_ | 12,_ | 13,_=>rfl
  | _+14,_=>rfl
 tyOf:=fun e=>match e with
  | 3=>some (.int .i64)
  | 4=>some .bool
  | 5=>some (.int .u8)
  | 9=>some .str
  | 39=>some (.nm 1)
  | 62=>some (.nm 5)
  | 112=>some (.nm 2)
  | 188=>some (.nm 6)
  | 239=>some (.nm 11)
  | 276=>some (.nm 10)
  | _=>none
 frz:=some (.nm 1)
 own:=[([false,false,true,true],2,.int .i64),([false,true,true,false],1,.int .i64)]
 pos:=fun n=>match n with
  | 0 | 1 | 2 | 3 | 4 | 5 | 6 | 7 | 8 | 9 | 10 | 11 | 12 | 13=>by decide
  | _+14=>Nat.zero_lt_one
theorem wH :∀n (l:List (Cell uD)),l.map Cell.ty=uTys n->∃x,uMake n l=some x:=fun n l h=>by
 obtain⟨x,hx⟩:=Hs.dec_ty h
 match n,x,hx with
 | 0,x,hx | 1,x,hx | 2,x,hx | 3,x,hx | 4,x,hx | 5,x,hx | 6,x,hx | 7,x,hx | 8,x,hx | 9,x,hx | 10,x,hx | 11,x,hx | 12,x,hx | 13,x,hx | _+14,x,hx=>exact⟨_,congrArg (Option.map _) hx⟩
theorem y4 :Un.Total:=wH
end
section
open Go Go.Proofs.YtkbmjabicjpmjaaGreatDoor.Shv
open Tryz
set_option maxRecDepth 100000
open Go.Proofs Go.Proofs.YtkbmjabicjpmjaaGreatDoor Go.Shelf
theorem qC :aH prog 232=true:=by kernel_rfl
def bA :FSpec Un:=la Un 232 (.int .i64) 8
theorem ql :FSnd prog bA:=tX (te:=3) (sz:=1) (bytes:=8) (z:=[.t (.int .i64 0)]) func232 (by kernel_rfl) (by kernel_rfl) (by kernel_rfl) rfl rfl
theorem bY :FnC prog bA:=⟨qC,ql⟩
theorem qQ :aH prog 291=true:=by kernel_rfl
def bB :FSpec Un:=iz Un 291 (.nm 5) 120
theorem qu :FSnd prog bB:=om (te:=62) (sz:=8) (bytes:=120) (z:=[.t (.int .i64 0),.t (.bool false),.t (.int .i64 0),.t (.str []),.t (.int .i64 0),.cap0,.cap0,.cap0]) func291 (by kernel_rfl) (by kernel_rfl) (by kernel_rfl) rfl rfl
theorem bZ :FnC prog bB:=⟨qQ,qu⟩
theorem qR :aH prog 292=true:=by kernel_rfl
def bC :FSpec Un:=iz Un 292 (.nm 6) 24
theorem qv :FSnd prog bC:=om (te:=188) (sz:=2) (bytes:=24) (z:=[.t (.int .i64 0),.t (.str [])]) func292 (by kernel_rfl) (by kernel_rfl) (by kernel_rfl) rfl rfl
theorem b7 :FnC prog bC:=⟨qR,qv⟩
instance:Inhabited bN:=⟨jr⟩
instance:Inhabited (Un.D 10):=⟨jr⟩
def sortLt(x y:bN):Bool:=decide (x.id < y.id)
section
open Go.Proofs Go.Proofs.YtkbmjabicjpmjaaGreatDoor Go.Sort Go.RowKit Go.Lib
theorem sortNaN(x:Int)(w:World):Calls prog 287 #[.int .i64 x] w fun e w'=>e= .returned (.bool false)/\w'=w:=by
 go_enter func287,ntmps287
 go_wp2
 go_ret
 exact⟨by simp,rfl⟩
set_option maxHeartbeats 1000000 in
theorem sortCmp(x y:Int)(w:World):Calls prog 225 #[.int .i64 x,.int .i64 y] w fun e w'=>e= .returned (.int .i64 (Lib.compareInt x y))/\w'=w:=by
 go_enter func225,ntmps225
 go_wp2_with (go_at_call 287;refine(sortNaN _ _).mono ?_;rintro e w' ⟨rfl,hw⟩;rw[hw])
 all_goals (go_ret;refine⟨?_,rfl⟩;unfold Lib.compareInt;(repeat' split) <;> first | rfl | (exfalso;omega))
def sortEnc(x:bN):List Value:=[.int .i64 x.id,.string ⟨x.text.toArray⟩]
set_option maxHeartbeats 1000000 in
theorem sortClo(x y:Int)(s t:ByteArray)(W:World):Calls prog 230 #[.agg #[.int .i64 x,.string s],.agg #[.int .i64 y,.string t]] W fun e w'=>e= .returned (.int .i64 (Lib.compareInt x y))/\∃q os',w'=grow (W.drewN q) os':=by
 have hcon:=fun W'=>sortCmp x y W'
 generalize Lib.compareInt x y=r at hcon ⊢
 go_enter func230,ntmps230
 go_wp2_with (go_at_call 225;refine(hcon _).mono ?_;rintro e w' ⟨rfl,rfl⟩)
 go_ret
 exact⟨rfl,0,_,by rw[alloc_eq_grow,alloc_eq_grow,grow_grow];rfl⟩
def o8 :Go.Shelf.Ren:=⟨fun | 6=>229 | 15=>290 | 14=>289 | 28=>338 | 29=>302 | 20=>330 | 21=>331 | 22=>332 | 23=>333 | 24=>334 | 25=>335 | 26=>336 | 27=>337 | 46=>347 | 47=>348 | 48=>349 | 49=>350 | 50=>351 | 57=>354 | n=>n,fun | 22=>274 | 24=>276 | 25=>278 | 3=>3 | 39=>196 | 0=>0 | 53=>324 | 55=>185 | 4=>4 | 46=>341 | 45=>340 | 50=>159 | 5=>5 | 9=>9 | 66=>358 | 70=>362 | 76=>370 | 77=>131 | n=>n,fun | n=>n⟩
theorem layS :SlLaysF0.n6 prog o8:={
 mixed:=by kernel_rfl
 f6:=⟨f229.name,by decide,func229.trans (congrArg some (by kernel_rfl))⟩
 f14:=⟨f289.name,by decide,func289.trans (congrArg some (by kernel_rfl))⟩
 f15:=func290.trans (congrArg some (by kernel_rfl))
 f20:=⟨f330.name,by decide,func330.trans (congrArg some (by kernel_rfl))⟩
 f21:=⟨f331.name,by decide,func331.trans (congrArg some (by kernel_rfl))⟩
 f22:=⟨f332.name,by decide,func332.trans (congrArg some (by kernel_rfl))⟩
 f23:=⟨f333.name,by decide,func333.trans (congrArg some (by kernel_rfl))⟩
 f24:=⟨f334.name,by decide,func334.trans (congrArg some (by kernel_rfl))⟩
 f25:=⟨f335.name,by decide,func335.trans (congrArg some (by kernel_rfl))⟩
 f26:=⟨f336.name,by decide,func336.trans (congrArg some (by kernel_rfl))⟩
 f27:=⟨f337.name,by decide,func337.trans (congrArg some (by kernel_rfl))⟩
 f28:=func338.trans (congrArg some (by kernel_rfl))
 f29:=func302.trans (congrArg some (by kernel_rfl))
 f46:=⟨f347.name,by decide,func347.trans (congrArg some (by kernel_rfl))⟩
 f47:=func348.trans (congrArg some (by kernel_rfl))
 f48:=func349.trans (congrArg some (by kernel_rfl))
 f49:=⟨f350.name,by decide,func350.trans (congrArg some (by kernel_rfl))⟩
 f50:=⟨f351.name,by decide,func351.trans (congrArg some (by kernel_rfl))⟩
 f57:=⟨f354.name,by decide,func354.trans (congrArg some (by kernel_rfl))⟩
 t0:=underlying0
 a0:=isAgg0
 z0:=sizeOf0
 v0:=zeroValue0
 t3:=underlying3
 a3:=isAgg3
 z3:=sizeOf3
 v3:=zeroValue3
 t4:=underlying4
 a4:=isAgg4
 z4:=sizeOf4
 v4:=zeroValue4
 t5:=underlying5
 a5:=isAgg5
 z5:=sizeOf5
 v5:=zeroValue5
 t9:=underlying9
 a9:=isAgg9
 z9:=sizeOf9
 v9:=zeroValue9
 t22:=underlying274
 a22:=isAgg274
 z22:=sizeOf274
 v22:=zeroValue274
 t25:=underlying278
 a25:=isAgg278
 z25:=sizeOf278
 v25:=zeroValue278
 t39:=underlying196
 a39:=isAgg196
 z39:=sizeOf196
 v39:=zeroValue196
 t45:=underlying340
 a45:=isAgg340
 z45:=sizeOf340
 v45:=zeroValue340
 t46:=underlying341
 a46:=isAgg341
 z46:=sizeOf341
 v46:=zeroValue341
 t50:=underlying159
 a50:=isAgg159
 z50:=sizeOf159
 v50:=zeroValue159
 t53:=underlying324
 a53:=isAgg324
 z53:=sizeOf324
 v53:=zeroValue324
 t55:=underlying185
 a55:=isAgg185
 z55:=sizeOf185
 v55:=zeroValue185
 t66:=underlying358
 a66:=isAgg358
 z66:=sizeOf358
 v66:=zeroValue358
 t70:=underlying362
 a70:=isAgg362
 z70:=sizeOf362
 v70:=zeroValue362
 t76:=underlying370
 a76:=isAgg370
 z76:=sizeOf370
 v76:=zeroValue370
 t77:=underlying131
 a77:=isAgg131
 z77:=sizeOf131
 v77:=zeroValue131}
theorem oA :ltOf (fun x y:bN=>Lib.compareInt x.id y.id)=sortLt:=by
 funext x y
 unfold ltOf sortLt Lib.compareInt;by_cases h1:x.id < y.id
 . simp[h1]
 . by_cases h2:y.id < x.id <;> simp[h1,h2]
theorem sortSWO :SWO sortLt:=wC (fun x:bN=>x.id)
set_option maxHeartbeats 2000000 in
theorem sortNoneI(p:Option Addr)(cap:Nat)(fv:Value)(w:World):Calls prog 330 #[.slice p 0 cap,.int .i64 0,.int .i64 0,fv] w fun e w'=>e= .returned (.tuple #[])/\w'=w:=by
 go_enter func330,ntmps330
 go_wp2
 refine wp_loop_rounds 1 ?_;rw[rounds_succ]
 go_wp2
 go_end0
 exact⟨rfl,rfl⟩
set_option maxHeartbeats 2000000 in
theorem sortNoneP(p:Option Addr)(cap:Nat)(lim:Int)(fv:Value)(w:World):Calls prog 289 #[.slice p 0 cap,.int .i64 0,.int .i64 0,.int .i64 lim,fv] w fun e w'=>e= .returned (.tuple #[])/\w'=w:=by
 have hi:=fun W=>sortNoneI p cap fv W
 go_enter func289,ntmps289
 go_wp2
 refine wp_loop_rounds 1 ?_;rw[rounds_succ]
 go_wp2_with (go_at_call 330;refine(hi _).mono ?_;rintro e w' ⟨rfl,rfl⟩)
 (try simp only[Exit.inBlock,Exit.then]);refine bodyPost_ret (results_none rfl _ _ _) rfl ?_
 exact⟨rfl,rfl⟩
set_option maxHeartbeats 2000000 in
theorem sortNone(p:Option Addr)(cap:Nat)(fv:Value)(w:World):Calls prog 229 #[.slice p 0 cap,fv] w fun e w'=>e= .returned (.tuple #[])/\w'=w:=by
 have hp:=fun lim W=>sortNoneP p cap lim fv W
 have hl:∀W,Calls prog 290 #[.int .u64 0] W fun e w'=>e= .returned (.int .i64 (Lib.bitLen 0:Nat))/\w'=W:=fun W=>by
  have h:=Any.bits_Len (SlLaysF0.n15.bits (P:=prog) (ρ:=o8) {layS with}) 0 W (by omega) (by omega);exact h
 go_enter func229,ntmps229
 go_wp2_with (first | (go_at_call 290;refine(hl _).mono ?_;rintro e w' ⟨rfl,rfl⟩) | (go_at_call 289;refine(hp _ _).mono ?_;rintro e w' ⟨rfl,rfl⟩))
 go_end0
 exact⟨rfl,rfl⟩
theorem sortWhole (blk off cap : Nat) (d : Array (Un.D 10)) (w : World) (hH : HoldsK sortEnc 2 w blk off d) (hblk : blk < w.heap.size) (hsz : d.size < 4611686018427387904):
 Calls prog 229 #[.slice (some ⟨blk,off,none⟩) d.size cap,.func (.func 230) #[] #[]] w fun e w'=>e= .returned (.tuple #[])/\∃n os,w'=sortWorldK sortEnc 2 w blk off n (pdq sortLt d 0 d.size (Lib.bitLen d.size) true true) os:=by
 have eg:∀args w,(callFunc 230 args).run prog w= .ok (.enter 230 args) w:=enters_of func230 (by kernel_rfl) rfl
 have h:=AnyQ.slices_SortFunc_eq (α:=bN) layS 2 isAgg276 sizeOf276 sortEnc (fun _=>rfl) (fun x v hv=>by simp[sortEnc]at hv;rcases hv with rfl | rfl <;> rfl) (fun x y=>Lib.compareInt x.id y.id) (by rw[oA];exact sortSWO) 230 #[] blk off cap d w eg (fun _ _ _ _ x y=>sortClo x.id y.id _ _ _) hH hblk hsz;rw[oA]at h;exact h
theorem xC :aH prog 229=true:=by kernel_rfl
def jc :FSpec Un:=sortS Un 229 10 230 (pdqBy (α:=Un.D 10) sortLt)
theorem rh :FSnd prog jc:=vK (U:=Un) (n:=10) sortEnc sortLt sortSWO (fun _=>rfl) (fun w S x j t v h hr=>uc w S x.id x.text j t v h hr) sortWhole sortNone
end
theorem lK :FnC prog jc:=⟨xC,rh⟩
def nL :Go.Shelf.Ren:=⟨fun | 240=>128 | 276=>185 | n=>n,fun | 0=>0 | 4=>4 | 9=>9 | 20=>20 | 37=>54 | 70=>114 | 72=>116 | 164=>250 | n=>n,fun n=>n⟩
theorem lay240 :Lays.n240 prog nL:={
 mixed:=by kernel_rfl
 f240:=func128.trans (congrArg some (by kernel_rfl))
 f276:=func185.trans (congrArg some (by kernel_rfl))
 t0:=underlying0
 a0:=isAgg0
 z0:=sizeOf0
 v0:=zeroValue0
 t4:=underlying4
 a4:=isAgg4
 z4:=sizeOf4
 v4:=zeroValue4
 t9:=underlying9
 a9:=isAgg9
 z9:=sizeOf9
 v9:=zeroValue9
 t20:=underlying20
 a20:=isAgg20
 z20:=sizeOf20
 v20:=zeroValue20
 t70:=underlying114
 a70:=isAgg114
 z70:=sizeOf114
 v70:=zeroValue114
 t72:=underlying116
 a72:=isAgg116
 z72:=sizeOf116
 v72:=zeroValue116
 t164:=underlying250
 a164:=isAgg250
 z164:=sizeOf250
 v164:=zeroValue250}
theorem layX72 :Builder.X72 prog nL:={
 sizeBuilder:=by kernel_rfl
 liesBuilder:=by kernel_rfl}
theorem xD :aH prog 128=true:=by kernel_rfl
def bD :FSpec Un:=iA Un 128 116 5
theorem qY :FSnd prog bD:=u2 lay240 layX72 rfl rfl
theorem ca :FnC prog bD:=⟨xD,qY⟩
theorem F70_b :aH prog 70=true:=by kernel_rfl
def bF :FSpec Un:=pV Un 70
def uh :Go.Shelf.Ren:=⟨fun | 129=>302 | 171=>70 | 243=>129 | 246=>186 | 283=>259 | 284=>260 | 285=>261 | 286=>262 | 317=>301 | 318=>303 | 319=>304 | 320=>305 | 337=>339 | 338=>340 | n=>n,fun | 0=>0 | 2=>2 | 3=>3 | 4=>4 | 5=>5 | 9=>9 | 20=>20 | 37=>54 | 46=>196 | 51=>324 | 53=>185 | 171=>295 | 173=>298 | 212=>323 | 213=>325 | 232=>364 | 233=>365 | n=>n,fun | 17=>0 | 18=>6 | 19=>7 | n=>n⟩
theorem lay171 :LaysM.n171 prog uh:={
 mixed:=by kernel_rfl
 f129:=func302.trans (congrArg some (by kernel_rfl))
 f171:=func70.trans (congrArg some (by kernel_rfl))
 f243:=func129.trans (congrArg some (by kernel_rfl))
 f246:=func186.trans (congrArg some (by kernel_rfl))
 f283:=func259.trans (congrArg some (by kernel_rfl))
 f284:=func260.trans (congrArg some (by kernel_rfl))
 f285:=func261.trans (congrArg some (by kernel_rfl))
 f286:=func262.trans (congrArg some (by kernel_rfl))
 f317:=func301.trans (congrArg some (by kernel_rfl))
 f318:=func303.trans (congrArg some (by kernel_rfl))
 f319:=func304.trans (congrArg some (by kernel_rfl))
 f320:=func305.trans (congrArg some (by kernel_rfl))
 f337:=func339.trans (congrArg some (by kernel_rfl))
 f338:=func340.trans (congrArg some (by kernel_rfl))
 t0:=underlying0
 a0:=isAgg0
 z0:=sizeOf0
 v0:=zeroValue0
 t2:=underlying2
 a2:=isAgg2
 z2:=sizeOf2
 v2:=zeroValue2
 t3:=underlying3
 a3:=isAgg3
 z3:=sizeOf3
 v3:=zeroValue3
 t4:=underlying4
 a4:=isAgg4
 z4:=sizeOf4
 v4:=zeroValue4
 t5:=underlying5
 a5:=isAgg5
 z5:=sizeOf5
 v5:=zeroValue5
 t9:=underlying9
 a9:=isAgg9
 z9:=sizeOf9
 v9:=zeroValue9
 t20:=underlying20
 a20:=isAgg20
 z20:=sizeOf20
 v20:=zeroValue20
 t37:=underlying54
 a37:=isAgg54
 z37:=sizeOf54
 v37:=zeroValue54
 t46:=underlying196
 a46:=isAgg196
 z46:=sizeOf196
 v46:=zeroValue196
 t51:=underlying324
 a51:=isAgg324
 z51:=sizeOf324
 v51:=zeroValue324
 t53:=underlying185
 a53:=isAgg185
 z53:=sizeOf185
 v53:=zeroValue185
 t171:=underlying295
 a171:=isAgg295
 z171:=sizeOf295
 v171:=zeroValue295
 t173:=underlying298
 a173:=isAgg298
 z173:=sizeOf298
 v173:=zeroValue298
 t212:=underlying323
 a212:=isAgg323
 z212:=sizeOf323
 v212:=zeroValue323
 t213:=underlying325
 a213:=isAgg325
 z213:=sizeOf325
 t232:=underlying364
 a232:=isAgg364
 z232:=sizeOf364
 v232:=zeroValue364
 t233:=underlying365
 a233:=isAgg365
 z233:=sizeOf365
 v233:=zeroValue365
 g17:=by kernel_rfl
 g18:=by kernel_rfl
 g19:=by kernel_rfl
 i0:=by kernel_rfl
 i2:=by kernel_rfl
 i3:=by kernel_rfl
 i4:=by kernel_rfl
 i5:=by kernel_rfl
 i9:=by kernel_rfl
 i20:=by kernel_rfl
 i37:=by kernel_rfl
 i46:=by kernel_rfl
 i51:=by kernel_rfl
 i53:=by kernel_rfl
 i171:=by kernel_rfl
 i173:=by kernel_rfl
 i212:=by kernel_rfl
 i232:=by kernel_rfl
 i233:=by kernel_rfl
 m17:=by kernel_rfl
 m18:=by kernel_rfl
 m19:=by kernel_rfl}
theorem sx :FSnd prog bF:=u7 lay171 hasTab rfl
theorem cn :FnC prog bF:=⟨F70_b,sx⟩
theorem xE :aH prog 306=true:=by kernel_rfl
def lL :FSpec Un:=oy Un 306
def ui :Go.Shelf.Ren:=⟨fun | 217=>306 | 266=>341 | n=>n,fun | 3=>3 | 5=>5 | 9=>9 | n=>n,fun n=>n⟩
theorem lay217 :Lays.n217 prog ui:={
 mixed:=by kernel_rfl
 f217:=func306.trans (congrArg some (by kernel_rfl))
 f266:=func341.trans (congrArg some (by kernel_rfl))
 t3:=underlying3
 a3:=isAgg3
 z3:=sizeOf3
 v3:=zeroValue3
 t5:=underlying5
 a5:=isAgg5
 z5:=sizeOf5
 v5:=zeroValue5
 t9:=underlying9
 a9:=isAgg9
 z9:=sizeOf9
 v9:=zeroValue9}
theorem ri :FSnd prog lL:=sY lay217 rfl
theorem rE :FnC prog lL:=⟨xE,ri⟩
theorem xF :aH prog 190=true:=by kernel_rfl
def mQ :FSpec Un:=xy Un 190
theorem rQ :FSnd prog mQ:=fun _ _ h=>by cases h
theorem s4 :FnC prog mQ:=⟨xF,rQ⟩
theorem xG :aH prog 191=true:=by kernel_rfl
def lS :FSpec Un:=oY Un 191
def uj :Go.Shelf.Ren:=⟨fun | 138=>191 | 143=>192 | 195=>264 | 217=>306 | 218=>266 | 219=>267 | 224=>309 | 225=>308 | 266=>341 | 267=>310 | 314=>342 | n=>n,fun | 0=>0 | 3=>3 | 4=>4 | 5=>5 | 9=>9 | 46=>196 | 51=>324 | 146=>351 | n=>n,fun | 1=>1 | n=>n⟩
theorem lay138 :Lays.n138 prog uj:={
 mixed:=by kernel_rfl
 f138:=func191.trans (congrArg some (by kernel_rfl))
 f143:=func192.trans (congrArg some (by kernel_rfl))
 f195:=func264.trans (congrArg some (by kernel_rfl))
 f217:=func306.trans (congrArg some (by kernel_rfl))
 f218:=func266.trans (congrArg some (by kernel_rfl))
 f219:=func267.trans (congrArg some (by kernel_rfl))
 f224:=func309.trans (congrArg some (by kernel_rfl))
 f225:=func308.trans (congrArg some (by kernel_rfl))
 f266:=func341.trans (congrArg some (by kernel_rfl))
 f267:=func310.trans (congrArg some (by kernel_rfl))
 f314:=func342.trans (congrArg some (by kernel_rfl))
 t0:=underlying0
 a0:=isAgg0
 z0:=sizeOf0
 v0:=zeroValue0
 t3:=underlying3
 a3:=isAgg3
 z3:=sizeOf3
 v3:=zeroValue3
 t4:=underlying4
 a4:=isAgg4
 z4:=sizeOf4
 v4:=zeroValue4
 t5:=underlying5
 a5:=isAgg5
 z5:=sizeOf5
 v5:=zeroValue5
 t9:=underlying9
 a9:=isAgg9
 z9:=sizeOf9
 v9:=zeroValue9
 t46:=underlying196
 a46:=isAgg196
 z46:=sizeOf196
 v46:=zeroValue196
 t51:=underlying324
 a51:=isAgg324
 z51:=sizeOf324
 v51:=zeroValue324
 t146:=underlying351
 a146:=isAgg351
 z146:=sizeOf351
 v146:=zeroValue351
 g1:=by kernel_rfl}
theorem rn :FSnd prog lS:=uf lay138 rfl
theorem rR :FnC prog lS:=⟨xG,rn⟩
theorem xH :aH prog 267=true:=by kernel_rfl
def lT :FSpec Un:=oW Un 267
def uk :Go.Shelf.Ren:=⟨fun | 217=>306 | 219=>267 | 224=>309 | 225=>308 | 266=>341 | 267=>310 | 314=>342 | n=>n,fun | 3=>3 | 4=>4 | 5=>5 | 9=>9 | 46=>196 | 51=>324 | 146=>351 | n=>n,fun | 1=>1 | n=>n⟩
theorem lay219 :Lays.n219 prog uk:={
 mixed:=by kernel_rfl
 f217:=func306.trans (congrArg some (by kernel_rfl))
 f219:=func267.trans (congrArg some (by kernel_rfl))
 f224:=func309.trans (congrArg some (by kernel_rfl))
 f225:=func308.trans (congrArg some (by kernel_rfl))
 f266:=func341.trans (congrArg some (by kernel_rfl))
 f267:=func310.trans (congrArg some (by kernel_rfl))
 f314:=func342.trans (congrArg some (by kernel_rfl))
 t3:=underlying3
 a3:=isAgg3
 z3:=sizeOf3
 v3:=zeroValue3
 t4:=underlying4
 a4:=isAgg4
 z4:=sizeOf4
 v4:=zeroValue4
 t5:=underlying5
 a5:=isAgg5
 z5:=sizeOf5
 v5:=zeroValue5
 t9:=underlying9
 a9:=isAgg9
 z9:=sizeOf9
 v9:=zeroValue9
 t46:=underlying196
 a46:=isAgg196
 z46:=sizeOf196
 v46:=zeroValue196
 t51:=underlying324
 a51:=isAgg324
 z51:=sizeOf324
 v51:=zeroValue324
 t146:=underlying351
 a146:=isAgg351
 z146:=sizeOf351
 v146:=zeroValue351
 g1:=by kernel_rfl}
theorem rp :FSnd prog lT:=ue lay219 rfl
theorem lU :FnC prog lT:=⟨xH,rp⟩
theorem xI :aH prog 136=true:=by kernel_rfl
def nM :FSpec Un:=numGS Un 136
def j1 :Go.Shelf.Ren:=⟨fun | 129=>302 | 171=>70 | 172=>194 | 205=>345 | 243=>129 | 244=>268 | 245=>269 | 246=>186 | 247=>311 | 279=>312 | 280=>313 | 281=>314 | 282=>315 | 283=>259 | 284=>260 | 285=>261 | 286=>262 | 287=>343 | 316=>344 | 317=>301 | 318=>303 | 319=>304 | 320=>305 | 321=>352 | 322=>353 | 337=>339 | 338=>340 | n=>n,fun | 0=>0 | 2=>2 | 3=>3 | 4=>4 | 5=>5 | 9=>9 | 20=>20 | 21=>21 | 37=>54 | 46=>196 | 51=>324 | 53=>185 | 75=>118 | 76=>119 | 80=>122 | 85=>327 | 127=>197 | 143=>367 | 145=>369 | 167=>326 | 168=>329 | 171=>295 | 173=>298 | 175=>353 | 210=>356 | 212=>323 | 213=>325 | 232=>364 | 233=>365 | n=>n,fun | 15=>4 | 16=>5 | 17=>0 | 18=>6 | 19=>7 | n=>n⟩
theorem lay172 :LaysC.n172 prog j1:={
 mixed:=by kernel_rfl
 f129:=func302.trans (congrArg some (by kernel_rfl))
 f171:=func70.trans (congrArg some (by kernel_rfl))
 f172:=func194.trans (congrArg some (by kernel_rfl))
 f205:=func345.trans (congrArg some (by kernel_rfl))
 f243:=func129.trans (congrArg some (by kernel_rfl))
 f244:=func268.trans (congrArg some (by kernel_rfl))
 f245:=func269.trans (congrArg some (by kernel_rfl))
 f246:=func186.trans (congrArg some (by kernel_rfl))
 f247:=func311.trans (congrArg some (by kernel_rfl))
 f279:=func312.trans (congrArg some (by kernel_rfl))
 f280:=func313.trans (congrArg some (by kernel_rfl))
 f281:=func314.trans (congrArg some (by kernel_rfl))
 f282:=func315.trans (congrArg some (by kernel_rfl))
 f283:=func259.trans (congrArg some (by kernel_rfl))
 f284:=func260.trans (congrArg some (by kernel_rfl))
 f285:=func261.trans (congrArg some (by kernel_rfl))
 f286:=func262.trans (congrArg some (by kernel_rfl))
 f287:=func343.trans (congrArg some (by kernel_rfl))
 f316:=func344.trans (congrArg some (by kernel_rfl))
 f317:=func301.trans (congrArg some (by kernel_rfl))
 f318:=func303.trans (congrArg some (by kernel_rfl))
 f319:=func304.trans (congrArg some (by kernel_rfl))
 f320:=func305.trans (congrArg some (by kernel_rfl))
 f321:=func352.trans (congrArg some (by kernel_rfl))
 f322:=func353.trans (congrArg some (by kernel_rfl))
 f337:=func339.trans (congrArg some (by kernel_rfl))
 f338:=func340.trans (congrArg some (by kernel_rfl))
 t0:=underlying0
 a0:=isAgg0
 z0:=sizeOf0
 v0:=zeroValue0
 t2:=underlying2
 a2:=isAgg2
 z2:=sizeOf2
 v2:=zeroValue2
 t3:=underlying3
 a3:=isAgg3
 z3:=sizeOf3
 v3:=zeroValue3
 t4:=underlying4
 a4:=isAgg4
 z4:=sizeOf4
 v4:=zeroValue4
 t5:=underlying5
 a5:=isAgg5
 z5:=sizeOf5
 v5:=zeroValue5
 t9:=underlying9
 a9:=isAgg9
 z9:=sizeOf9
 v9:=zeroValue9
 t20:=underlying20
 a20:=isAgg20
 z20:=sizeOf20
 v20:=zeroValue20
 t21:=underlying21
 a21:=isAgg21
 z21:=sizeOf21
 v21:=zeroValue21
 t37:=underlying54
 a37:=isAgg54
 z37:=sizeOf54
 v37:=zeroValue54
 t46:=underlying196
 a46:=isAgg196
 z46:=sizeOf196
 v46:=zeroValue196
 t51:=underlying324
 a51:=isAgg324
 z51:=sizeOf324
 v51:=zeroValue324
 t53:=underlying185
 a53:=isAgg185
 z53:=sizeOf185
 v53:=zeroValue185
 t75:=underlying118
 a75:=isAgg118
 z75:=sizeOf118
 v75:=zeroValue118
 t76:=underlying119
 a76:=isAgg119
 z76:=sizeOf119
 v76:=zeroValue119
 t85:=underlying327
 a85:=isAgg327
 z85:=sizeOf327
 v85:=zeroValue327
 t127:=underlying197
 a127:=isAgg197
 z127:=sizeOf197
 v127:=zeroValue197
 t143:=underlying367
 a143:=isAgg367
 z143:=sizeOf367
 v143:=zeroValue367
 t145:=underlying369
 a145:=isAgg369
 z145:=sizeOf369
 v145:=zeroValue369
 t167:=underlying326
 a167:=isAgg326
 z167:=sizeOf326
 v167:=zeroValue326
 t168:=underlying329
 a168:=isAgg329
 z168:=sizeOf329
 v168:=zeroValue329
 t171:=underlying295
 a171:=isAgg295
 z171:=sizeOf295
 v171:=zeroValue295
 t173:=underlying298
 a173:=isAgg298
 z173:=sizeOf298
 v173:=zeroValue298
 t175:=underlying353
 a175:=isAgg353
 z175:=sizeOf353
 v175:=zeroValue353
 t210:=underlying356
 a210:=isAgg356
 z210:=sizeOf356
 v210:=zeroValue356
 t212:=underlying323
 a212:=isAgg323
 z212:=sizeOf323
 v212:=zeroValue323
 t213:=underlying325
 a213:=isAgg325
 z213:=sizeOf325
 t232:=underlying364
 a232:=isAgg364
 z232:=sizeOf364
 v232:=zeroValue364
 t233:=underlying365
 a233:=isAgg365
 z233:=sizeOf365
 v233:=zeroValue365
 g15:=by kernel_rfl
 g16:=by kernel_rfl
 g17:=by kernel_rfl
 g18:=by kernel_rfl
 g19:=by kernel_rfl
 t80:=underlying122
 a80:=isAgg122
 z80:=sizeOf122
 v80:=zeroValue122
 i0:=by kernel_rfl
 i2:=by kernel_rfl
 i3:=by kernel_rfl
 i4:=by kernel_rfl
 i5:=by kernel_rfl
 i9:=by kernel_rfl
 i20:=by kernel_rfl
 i21:=by kernel_rfl
 i37:=by kernel_rfl
 i46:=by kernel_rfl
 i51:=by kernel_rfl
 i53:=by kernel_rfl
 i75:=by kernel_rfl
 i76:=by kernel_rfl
 i80:=by kernel_rfl
 i85:=by kernel_rfl
 i127:=by kernel_rfl
 i143:=by kernel_rfl
 i145:=by kernel_rfl
 i167:=by kernel_rfl
 i168:=by kernel_rfl
 i171:=by kernel_rfl
 i173:=by kernel_rfl
 i175:=by kernel_rfl
 i210:=by kernel_rfl
 i212:=by kernel_rfl
 i232:=by kernel_rfl
 i233:=by kernel_rfl
 m15:=by kernel_rfl
 m16:=by kernel_rfl
 m17:=by kernel_rfl
 m18:=by kernel_rfl
 m19:=by kernel_rfl
 c0:=by kernel_rfl
 c2:=by kernel_rfl
 c3:=by kernel_rfl
 c4:=by kernel_rfl
 c5:=by kernel_rfl
 c9:=by kernel_rfl
 c20:=by kernel_rfl
 c21:=by kernel_rfl
 c37:=by kernel_rfl
 c46:=by kernel_rfl
 c51:=by kernel_rfl
 c53:=by kernel_rfl
 c75:=by kernel_rfl
 c76:=by kernel_rfl
 c80:=by kernel_rfl
 c85:=by kernel_rfl
 c127:=by kernel_rfl
 c143:=by kernel_rfl
 c145:=by kernel_rfl
 c167:=by kernel_rfl
 c168:=by kernel_rfl
 c171:=by kernel_rfl
 c173:=by kernel_rfl
 c175:=by kernel_rfl
 c210:=by kernel_rfl
 c212:=by kernel_rfl
 c213:=by kernel_rfl
 c232:=by kernel_rfl
 c233:=by kernel_rfl}
section
open Go.Proofs Go.Proofs.YtkbmjabicjpmjaaGreatDoor Go.Sort Go.RowKit Go.Lib
theorem pL (s : ByteArray) (n : Int) (te : Nat) (w : World) (hA : Calls prog 194 #[.string s] w fun e w' => ∃ pe, e = .returned (.tuple #[.int .i64 n, .iface te pe]) /\ Below w.heap.size w w'):
 Calls prog 136 #[.string s] w fun e w'=>e= .returned (.tuple #[.int .i64 n,.bool false])/\Below w.heap.size w w':=by
 go_enter func136,ntmps136
 go_wp2_with (go_at_call 194;refine hA.mono ?_;rintro e w' ⟨pe,rfl,hw⟩)
 go_ret2
 exact⟨rfl,hw⟩
theorem wI (s : ByteArray) (n : Int) (hn : n < 0) (w : World) (hA : Calls prog 194 #[.string s] w fun e w' => e = .returned (.tuple #[.int .i64 n, .nilIface]) /\ Below w.heap.size w w'):
 Calls prog 136 #[.string s] w fun e w'=>e= .returned (.tuple #[.int .i64 n,.bool false])/\Below w.heap.size w w':=by
 have hb:decide (0<=n)=false:=by simp;omega
 have hb2:decide (n < 0)=true:=by simp;omega
 go_enter func136,ntmps136
 go_wp2_with (go_at_call 194;refine hA.mono ?_;rintro e w' ⟨rfl,hw⟩)
 go_ret2
 exact⟨rfl,hw⟩
theorem xK (s t : ByteArray) (n : Int) (hn : 0 <= n) (w : World) (hA : Calls prog 194 #[.string s] w fun e w' => e = .returned (.tuple #[.int .i64 n, .nilIface]) /\ Below w.heap.size w w')
 (hI:∀w1,Below w.heap.size w w1->Calls prog 70 #[.int .i64 n] w1 fun e w'=>e= .returned (.string t)/\Below w1.heap.size w1 w'):
 Calls prog 136 #[.string s] w fun e w'=>e= .returned (.tuple #[.int .i64 n,.bool (t.toList==s.toList)])/\Below w.heap.size w w':=by
 have hb:decide (0<=n)=true:=by simp;omega
 have hb2:decide (n>=0)=true:=by simp;omega
 go_enter func136,ntmps136
 go_wp2_with (first | (go_at_call 194;refine hA.mono ?_;rintro e w' ⟨rfl,hw⟩) | (go_at_call 70;refine(hI _ (by assumption)).mono ?_;rintro e w'' ⟨rfl,hw2⟩))
 go_ret2
 exact⟨rfl,hw.trans (hw2.mono hw.size)⟩
theorem wK (s : ByteArray) (w : World) (B : Nat -> Prop) (hs : s.size <= 281474976710656) (hG : GS w B):
 Calls prog 136 #[.string s] w fun e w'=>e= .returned (.tuple #[.int .i64 (numV s.data.toList).1,.bool (numV s.data.toList).2])/\Below w.heap.size w w':=by
 unfold numV;cases h:Lib.atoiAll s.data.toList
 . rename_i n
   have hA:Calls prog 194 #[.string s] w fun e w'=>e= .returned (.tuple #[.int .i64 n,.nilIface])/\Below w.heap.size w w':=(Any.strconv_Atoi_ok lay172 s (by omega) n h w).mono (by
    rintro e w' ⟨rfl,rfl | ⟨t,rfl⟩⟩
    . exact⟨rfl,Below.refl _ _⟩
    . exact⟨rfl,Lib.bytesWorld_below _ _ _⟩)
   obtain⟨b0,b1⟩:=Lib.atoiAll_bounds h;by_cases hn:0<=n
   . refine(xK s ⟨(Lib.itoa n).toArray⟩ n hn w hA fun w1 h1=>(Any.strconv_Itoa lay171 n (by omega) (by omega) w1 (hasTab w1 B (hG.below h1))).mono ?_).mono ?_
     . rintro e w' ⟨rfl,k,os,rfl⟩
       exact⟨rfl,oV w1 k os⟩
     . rintro e w' ⟨rfl,hw⟩
       refine⟨?_,hw⟩;simp[hn,ByteArray.toList_eq]
   . refine(wI s n (by omega) w hA).mono ?_
     rintro e w' ⟨rfl,hw⟩
     exact⟨by simp[hn],hw⟩
 . obtain⟨te,pe,hv⟩:=hasE w B hG;refine pL s 0 (j1.t 168) w ((Any.strconv_Atoi_syntax lay172 s hs h (.iface te pe) w hv (.inr ⟨te,pe,rfl⟩)).mono ?_)
   rintro e w' ⟨N,rfl,_,_,hB⟩
   exact⟨_,rfl,hB⟩
 . obtain⟨te,pe,hv⟩:=hasR w B hG;refine pL s _ (j1.t 168) w ((Any.strconv_Atoi_range lay172 s hs h (.iface te pe) w hv (.inr ⟨te,pe,rfl⟩)).mono ?_)
   rintro e w' ⟨N,rfl,_,_,hB⟩
   exact⟨_,rfl,hB⟩
end
theorem sy :FSnd prog nM:=wF wK
theorem um :FnC prog nM:=⟨xI,sy⟩
end
section
open Go Go.Proofs.YtkbmjabicjpmjaaGreatDoor.Shv
open Tryz
set_option maxRecDepth 100000
theorem pairM :PairMap prog 85:= .of (by kernel_rfl)
theorem F44 {S : Stab} {w : World} (hst : ∀ b j, S b j -> b < w.heap.size) (x : af) {g gm : Nat} {E : TypeId} {es : Array MapEntry} {clk : Nat} {ks : List (Int×Int)}
 (h1:w.heap[g]?=some (.cells #[.map (some gm)] E (0,0))) (h2:w.heap[gm]?=some (.map es clk)) (hs:setP ks es.toList) (h3:∀j,¬S g j) (h4:∀j,¬S gm j) (hG:GS w fun _=>False):
 Calls prog 44 #[pk (x.A0,x.A1),.pointer (some ⟨g,0,none⟩)] w fun e w'=>e= .returned (.bool (!hasP ks (x.A0,x.A1)))/\∃S',Kp S w S' w':=by
 refine calls_of_wp func44 rfl ?_;have T0:=TS.enter (U:=Un) (gs:=[g,gm]) (N:=2) (nt:=8) (φ:=fun b=>if b=0 then(g,0)else(gm,0)) (args:=[.agg [.t ⟨.int .i64,x.A0⟩,.t ⟨.int .i64,x.A1⟩],.c (.ptr 0 0)]) (w:=w) (S:=S)
  (.cons (.agg (.cons (.t _) (.cons (.t _) .nil))) (.cons (.c (.ptr 0 0)) .nil)) (vs:=[pk (x.A0,x.A1),.pointer (some ⟨g,0,none⟩)]) (.cons (.agg (.cons (RT.int _ _) (.cons (RT.int _ _) .nil))) (.cons (.c rfl) .nil)) rfl hst (Nat.le_of_ble_eq_true rfl)
  (by
   have:=cg h1;have:=cg h2;intro b hb;simp at hb;rcases hb with rfl | rfl
   . exact⟨by assumption,h3⟩
   . exact⟨by assumption,h4⟩) hG
 refine wp_seq (T0.pc 2 [oE .normal [(1,.c (.ptr 0 0)),(2,.c (.ptr 2 0))] [.gone,.gone,.brow 1]] (o:=x) .n (by kernel_rfl) fun φ1 S1 a1 w1 T1 n1=>?_);refine wp_seq (cU [0,1,2,3,4] ?_);have k1:a1.tmps[1]?=some (.pointer (some ⟨g,0,none⟩)):=(T1.ptr (k:=1) rfl).trans (by rw[n1.fix 0 (by decide)];rfl);have hh1:w1.heap[g]?=_:=(n1.hp g (by simp)).trans h1
 have hh2:w1.heap[gm]?=_:=(n1.hp gm (by simp)).trans h2;refine man1 rfl rfl rfl (ld1 rfl (by kernel_rfl) (aG k1) hh1 (off:=0) rfl) ?_;have T2:=T1.put (d:=4) (x:= .map (some gm)) (v:= .c (.mp 1)) (.c (.mp 1)) (.c (by show _=Value.map (some _);rw[n1.fix 1 (by decide)];rfl))
 refine T2.op 2 1 1 [(4,.c (.mp 1)),(5,.row 1)] [.gone,.gone] (h:=x) .n (by kernel_rfl) fun φ3 S3 a3 w3 T3 n3=>?_
 have k4:a3.tmps[4]?=some (.map (some gm)):=(T3.mp (k:=4) rfl).trans (by rw[n3.fix 1 (by decide),n1.fix 1 (by decide)];rfl);have k5:a3.tmps[5]?=some (pk (x.A0,x.A1)):=T3.pair rfl;refine man1 rfl rfl rfl (lk1 rfl pairM (aG k4) (aG k5) ((n3.hp gm (by simp)).trans hh2) hs) ?_;have T4:=T3.put (d:=6) (v:= .c (.t ⟨.bool,hasP ks (x.A0,x.A1)⟩)) (.c (.t _)) (.c (RT.bool _))
 refine T4.op 2 3 2 [(3,.c (.hole .bool))] [.gone,.gone] (h:=!hasP ks (x.A0,x.A1)) .n (by kernel_rfl) fun φ5 S5 a5 w5 T5 n5=>?_
 refine wp_ret (T5.ret rfl rfl fun y hy=>⟨?_,S5,T5.ext,T5.st⟩);cases hy;rfl
def hasX(ks:List (Int×Int))(x:af):Bool:=hasP ks (x.A0,x.A1)
structure Gh (S:Stab) (w:World) (g gm:Nat) (ks:List (Int×Int)):Prop where
 st:∀b j,S b j->b < w.heap.size
 g1:∃E,w.heap[g]?=some (.cells #[.map (some gm)] E (0,0))
 g2:∃es clk,w.heap[gm]?=some (.map es clk)/\setP ks es.toList
 g3:∀j,¬S g j
 g4:∀j,¬S gm j
theorem Gh.next{S S':Stab}{w w':World}{g gm:Nat}{ks:List (Int×Int)}(h:Gh S w g gm ks){nt:Nat}{Γ:Ctx}{s:XS Un}{φ φ0:Phi}{a:Act}{kk:Nat}(T:TS Γ nt [g,gm] s φ S' a w')(n:Nx [g,gm] kk φ0 w φ w'):Gh S' w' g gm ks:=by
 obtain⟨h0,⟨E,h1⟩,⟨es,clk,h2,h3⟩,h4,h5⟩:=h;exact⟨T.st,⟨E,(n.hp g (by simp)).trans h1⟩,⟨es,clk,(n.hp gm (by simp)).trans h2,h3⟩,(T.gb g (by simp)).2,(T.gb gm (by simp)).2⟩
theorem Gh.gb{S:Stab}{w:World}{g gm:Nat}{ks:List (Int×Int)}(hg:Gh S w g gm ks):∀b,b∈[g,gm]->b < w.heap.size/\∀j,¬S b j:=by
 obtain⟨h0,⟨E,h1⟩,⟨es,clk,h2,_⟩,h3,h4⟩:=hg;have:=cg h1;have:=cg h2;intro b hb;simp at hb;rcases hb with rfl | rfl
 . exact⟨by assumption,h3⟩
 . exact⟨by assumption,h4⟩
theorem F92 {S : Stab} {w : World} (φ : Phi) (l : List af) {g gm : Nat} {ks : List (Int×Int)} (hg : Gh S w g gm ks) (hφ : (φ 0).1 = g) {v : Value} (hv : RT w S (Cell.enc Un ⟨.slice (.nm 1), l⟩) v) (hG : GS w fun _ => False):
 Calls prog 92 #[v,.func (.func 44) #[] #[.pointer (some ⟨g,0,none⟩)]] w fun e w'=>∃m S',e= .returned (.int .i64 m)/\((l.any fun x=>!hasX ks x)=decide (0<=m))/\Kp S w S' w':=by
 refine calls_of_wp func92 rfl ?_;have T0:=TS.enter (U:=Un) (gs:=[g,gm]) (N:=1) (nt:=19) (φ:=φ) (args:=[.c (.t ⟨.slice (.nm 1),l⟩),.c (.fn 44 [0])]) (w:=w) (S:=S)
  (.cons (.c (.t _)) (.cons (.c (.fn 44 [0])) .nil)) (vs:=[v,.func (.func 44) #[] #[.pointer (some ⟨g,0,none⟩)]]) (.cons (.c hv) (.cons (.c (by rw[<-hφ];rfl)) .nil)) rfl hg.st (Nat.le_of_ble_eq_true rfl)
  hg.gb hG
 refine wp_seq (T0.pc 1 [oE .normal [(0,hh (tL 1)),(1,.c (.fn 44 [0]))] [.gone]] (o:=l) .n (by kernel_rfl) fun φ1 S1 a1 w1 T1 n1=>?_);refine wp_seq (wp_seq (T1.pc 1 [oE .normal [(0,hh (tL 1)),(1,.c (.fn 44 [0])),(7,hh tI),(8,hh tI)] [.gone]] (o:=(l,(l.length:Int),(0:Int))) .n (by kernel_rfl) fun φ2 S2 a2 w2 T2 n2=>?_));refine wp_block (gS ?_)
 refine(show(∀(n i:Nat),i+n=l.length->(∀j,j < i->∃x,l[j]?=some x/\hasX ks x=true)->∀φ' S' a' w',TS _ 19 [g,gm] (oout (U:=Un) [oE .normal [(0,hh (tL 1)),(1,.c (.fn 44 [0])),(7,hh tI),(8,hh tI)] [.gone]] (l,(l.length:Int),(i:Int))).2 φ' S' a' w'->(φ' 0).1=g->Gh S' w' g gm ks->wpL prog _ _ a' w')from ?_) l.length 0 (by simp) (by simp) φ2 S2 a2 w2 T2 (by rw[n2.fix 0 (by decide),n1.fix 0 (by decide)];exact hφ) ((hg.next T1 n1).next T2 n2)
 intro n
 induction n with
 | zero=>
  intro i hi hj φ3 S3 a3 w3 T3 h3 hg3;refine ez (wp_seq (T3.pc 1 [oE .normal [(9,hh .bool)] [.gone]] (o:=(decide ((i:Int) < l.length))) .n (by kernel_rfl) fun φ4 S4 a4 w4 T4 n4=>?_));refine wp_seq (wp_cond_false (by rw[aG (T4.bool (k:=9) rfl)];simp;omega) (wp_exit ?_))
  refine T4.pc 1 [oE .ret [(4,hh tI)] [.gone]] (o:=(-1:Int)) .n (by kernel_rfl) fun φ5 S5 a5 w5 T5 n5=>T5.ret rfl rfl fun y hy=>⟨-1,S5,?_,?_,T5.ext,T5.st⟩
  . cases hy;rfl
  . have:(l.any fun x=>!hasX ks x)=false:=by
     rw[List.any_eq_false];intro x hx;obtain⟨j,hjl,rfl⟩:=List.mem_iff_getElem.1 hx;obtain⟨y,h1,h2⟩:=hj j (by omega);rw[List.getElem?_eq_getElem hjl]at h1;cases h1;simp[h2]
    rw[this];rfl
 | succ n ih=>
  intro i hi hj φ3 S3 a3 w3 T3 h3 hg3;have hil:i < l.length:=by omega
  refine ez (wp_seq (T3.pc 1 [oE .normal [(0,hh (tL 1)),(1,.c (.fn 44 [0])),(7,hh tI),(8,hh tI),(9,hh .bool)] [.gone]] (o:=(l,(l.length:Int),(i:Int),decide ((i:Int) < l.length))) .n (by kernel_rfl) fun φ4 S4 a4 w4 T4 n4=>?_));refine wp_seq (wp_cond_true (by rw[aG (T4.bool (k:=9) rfl)];simp;omega) (wp_skip ?_))
  refine wp_seq (wp_block (wp_seq (T4.pc 1 [oE .normal [(0,hh (tL 1)),(1,.c (.fn 44 [0])),(7,hh tI),(8,hh tI),(5,hh tI)] [.gone]] (o:=(l,(l.length:Int),(i:Int),(i:Int))) .n (by kernel_rfl) fun φ5 S5 a5 w5 T5 n5=>?_)));refine wp_seq (cU [0,1,2,3,4,5] ?_)
  refine T5.op 1 0 5 [(0,hh (tL 1)),(1,.c (.fn 44 [0])),(7,hh tI),(8,hh tI),(5,hh tI),(11,.c (.fn 44 [0])),(15,.row 1)] [.gone] (h:=(l,(l.length:Int),(i:Int),(i:Int),l.getD (Int.toNat i) aN)) .n ((show _=(if inR (i:Int) l.length=true then some _ else none) by kernel_rfl).trans (if_pos (by simp[inR];omega))) fun φ6 S6 a6 w6 T6 n6=>?_
  have h6:(φ6 0).1=g:=by rw[n6.fix 0 (by decide),n5.fix 0 (by decide),n4.fix 0 (by decide)];exact h3
  have hg6:=((hg3.next T4 n4).next T5 n5).next T6 n6
  have hx:l[i]?=some (l.getD i aN):=by simp[List.getD,List.getElem?_eq_getElem hil]
  refine manC rfl rfl rfl (dI rfl rfl (aG (T6.fn (k:=11) rfl)) (by kernel_rfl)) (args:=#[pk ((l.getD i aN).A0,(l.getD i aN).A1),.pointer (some ⟨g,0,none⟩)]) ?_ ?_
  . simp[aG (T6.pair (k:=15) rfl),h6]
  obtain⟨h0,⟨E,g1⟩,⟨es,clk,g2,g3⟩,g4,g5⟩:=hg6;refine(F44 h0 (l.getD i aN) g1 g2 g3 g4 g5 T6.gs).mono ?_
  rintro e w7 ⟨rfl,S7,hk⟩
  refine⟨_,rfl,?_⟩;have T7:=(T6.extend hk.1 hk.2).put (d:=16) (v:= .c (.t ⟨.bool,!hasX ks (l.getD i aN)⟩)) (.c (.t _)) (.c (RT.bool _));have hg7:Gh S7 w7 g gm ks:=⟨T7.st,⟨E,hk.heap g1⟩,⟨es,clk,hk.heap g2,g3⟩,(T7.gb g (by simp)).2,(T7.gb gm (by simp)).2⟩
  cases hb:hasX ks (l.getD i aN)with
  | false=>
   refine wp_cond_true ((aG (T7.bool (k:=16) rfl)).trans (by rw[hb];rfl)) (wp_seq (T7.pc 1 [oE .normal [(4,hh tI)] [.gone]] (o:=(i:Int)) .n (by kernel_rfl) fun φ8 S8 a8 w8 T8 n8=>wp_ret ?_));simp only[Exit.inBlock,Exit.then];refine T8.ret rfl rfl fun y hy=>⟨(i:Int),S8,?_,?_,T8.ext,T8.st⟩
   . cases hy;rfl
   . have:(l.any fun x=>!hasX ks x)=true:=List.any_eq_true.2 ⟨l.getD i aN,List.mem_of_getElem? hx,by rw[hb];rfl⟩;rw[this];simp
  | true=>
   refine wp_cond_false ((aG (T7.bool (k:=16) rfl)).trans (by rw[hb];rfl)) (wp_skip ?_);refine T7.pc 1 [oE .normal [(0,hh (tL 1)),(1,.c (.fn 44 [0])),(7,hh tI),(8,hh tI)] [.gone]] (o:=(l,(l.length:Int),addI .i64 (i:Int) 1)) .n (by kernel_rfl) fun φ8 S8 a8 w8 T8 n8=>?_
   have ha:addI .i64 (i:Int) 1=((i+1:Nat):Int):=by
    have h9:l.length<=az:=T8.len (k:=0) rfl;unfold az at h9;have h10:(i:Int) < 281474976710656:=by omega
    unfold addI;rw[IntKind.wrap_i64];omega
   rw[ha]at T8;refine ih (i+1) (by omega) (fun j hj'=>?_) φ8 S8 a8 w8 T8 (by rw[n8.fix 0 (by decide)];exact h6) (hg7.next T8 n8);by_cases hji:j < i
   . exact hj j hji
   . have:j=i:=by omega
     subst this;exact⟨_,hx,hb⟩
theorem F42 {S : Stab} {w : World} (l : List af) {g gm : Nat} {ks : List (Int×Int)} (hg : Gh S w g gm ks) {v : Value} (hv : RT w S (Cell.enc Un ⟨.slice (.nm 1), l⟩) v) (hG : GS w fun _ => False):
 Calls prog 42 #[v,.func (.func 44) #[] #[.pointer (some ⟨g,0,none⟩)]] w fun e w'=>∃S',e= .returned (.bool (l.any fun x=>!hasX ks x))/\Kp S w S' w':=by
 refine calls_of_wp func42 rfl ?_;have T0:=TS.enter (U:=Un) (gs:=[g,gm]) (N:=1) (nt:=9) (φ:=fun _=>(g,0)) (args:=[.c (.t ⟨.slice (.nm 1),l⟩),.c (.fn 44 [0])]) (w:=w) (S:=S)
  (.cons (.c (.t _)) (.cons (.c (.fn 44 [0])) .nil)) (vs:=[v,.func (.func 44) #[] #[.pointer (some ⟨g,0,none⟩)]]) (.cons (.c hv) (.cons (.c rfl) .nil)) rfl hg.st (Nat.le_of_ble_eq_true rfl) hg.gb hG
 refine wp_seq (T0.pc 1 [oE .normal [(0,hh (tL 1)),(1,.c (.fn 44 [0]))] [.gone]] (o:=l) .n (by kernel_rfl) fun φ1 S1 a1 w1 T1 n1=>?_);refine wp_seq (cU [0,1,2,3,4] ?_);refine T1.op 1 0 2 [(5,hh (tL 1)),(6,.c (.fn 44 [0]))] [.gone] (h:=l) .n (by kernel_rfl) fun φ2 S2 a2 w2 T2 n2=>?_
 have hg2:=(hg.next T1 n1).next T2 n2
 obtain⟨u,k5,hu⟩:=T2.cell (k:=5) rfl;have h2:(φ2 0).1=g:=by rw[n2.fix 0 (by decide),n1.fix 0 (by decide)]
 refine manC rfl rfl rfl (dI rfl rfl (f:=92) (caps:=[]) rfl (by kernel_rfl)) (args:=#[u,.func (.func 44) #[] #[.pointer (some ⟨g,0,none⟩)]]) ?_ ?_
 . simp[aG k5,aG (T2.fn (k:=6) rfl),h2]
 refine(F92 φ2 l hg2 h2 hu T2.gs).mono ?_
 rintro e w3 ⟨m,S3,rfl,hm,hk⟩
 refine⟨_,rfl,?_⟩;have T3:=(T2.extend hk.1 hk.2).put (d:=7) (v:= .c (.t ⟨.int .i64,m⟩)) (.c (.t _)) (.c (RT.int _ _));refine T3.op 1 3 2 [(4,hh .bool)] [.gone] (h:=decide (0<=m)) .n (by kernel_rfl) fun φ4 S4 a4 w4 T4 n4=>?_
 refine wp_ret (T4.ret rfl rfl fun y hy=>⟨S4,?_,T4.ext,T4.st⟩);cases hy;rw[hm]
section
variable (Ri:aB->Option Bool) (Co:List af×af->Option Bool) (Ro:aZ->Option af) (Ex Fi:aZ×af->Option Bool) (Nw:aZ×af->Option (List af))
def relG(p:aZ)(l:List af)(x:af):Option Bool:=
 Ex (p,x) >>=fun a=>
 if(!a)=true then some false
 else
  Fi (p,x) >>=fun b=>
  if(!b)=true then some false
  else
   Nw (p,x) >>=fun m=>
   some (m.all fun y=>l.any fun z=>(eqI y.A0 z.A0 && (eqI y.A1 z.A1 && true)))
def allG(g:af->Option Bool):List af->Option Bool
 | []=>some true
 | x::r=>g x >>=fun a=>allG g r >>=fun b=>some (a && b)
def relF(x_:aB×aB×List af):Option Bool:=
 match x_ with
 | (w,r,l)=>
 Ri w >>=fun a=>
 if(!a)=true then some false
 else
  Ri r >>=fun b=>
  if(!b)=true then some false
  else
   Ro (⟨w,r⟩:aZ) >>=fun q=>
   Co (l,q) >>=fun c=>
   if(!c)=true then some false
   else allG (relG Ex Fi Nw (⟨w,r⟩:aZ) l) l
end
theorem oB{g:af->Option Bool}:∀{l:List af} {b:Bool},allG g l=some b->(∀x,x∈l->∃a,g x=some a/\(a=false->b=false))/\((∀x,x∈l->g x=some true)->b=true)
 | [],b,h=>by simp[allG]at h;simp[h]
 | x::r,b,h=>by
  simp only[allG,bind,oZ2]at h;obtain⟨a,ha,b',hb,h⟩:=h;obtain⟨h1,h2⟩:=oB hb;simp at h;subst h;refine⟨fun y hy=>?_,fun hall=>?_⟩
  . rcases List.mem_cons.1 hy with rfl | hy
    . exact⟨a,ha,fun h=>by simp[h]⟩
    . obtain⟨a',g1,g2⟩:=h1 y hy;exact⟨a',g1,fun h=>by simp[g2 h]⟩
  . have e:=hall x (by simp);rw[ha]at e;cases e;rw[h2 fun y hy=>hall y (by simp[hy])];rfl
def ksOf(l:List af):List (Int×Int):=l.foldl (fun ks x=>addP ks (x.A0,x.A1)) []
theorem vb{ks:List (Int×Int)}{x y:Int×Int}:hasP (addP ks x) y=(hasP ks y || decide (x=y)):=by
 unfold addP;split
 . rename_i h;by_cases hxy:x=y
   . subst hxy;simp[h]
   . simp[hxy]
 . simp[hasP]
theorem vd(l:List af)(x:af):ksOf (l++[x])=addP (ksOf l) (x.A0,x.A1):=by simp[ksOf]
theorem kb{y:af}(l:List af):hasX (ksOf l) y=l.any fun z=>(eqI y.A0 z.A0 && (eqI y.A1 z.A1 && true)):=by
 have key:∀(l:List af) (ks:List (Int×Int)),hasX (l.foldl (fun ks x=>addP ks (x.A0,x.A1)) ks) y=(hasX ks y || l.any fun z=>(eqI y.A0 z.A0 && (eqI y.A1 z.A1 && true))):=by
  intro l
  induction l with
  | nil=>simp
  | cons x l ih=>
   intro ks;rw[List.foldl_cons,ih];unfold hasX;rw[vb,List.any_cons,Bool.or_assoc]
   congr 2
   rw[Bool.eq_iff_iff];simp[eqI,Prod.ext_iff];constructor <;> rintro ⟨h1,h2⟩ <;> exact⟨h1.symm,h2.symm⟩
 have:=key l []
 simpa[hasX,hasP,ksOf]using this
theorem vR{k:Int×Int}(l:List af)(h:k∈ksOf l):∃x,x∈l/\k=(x.A0,x.A1):=by
 have:hasX (ksOf l) ⟨k.1,k.2⟩=true:=by
  unfold hasX hasP;rw[List.any_eq_true];exact⟨k,h,by simp⟩
 rw[kb,List.any_eq_true]at this;obtain⟨z,hz,h⟩:=this;simp[eqI]at h;exact⟨z,hz,Prod.ext h.1 h.2⟩
theorem ve{ks:List (Int×Int)}{es:List MapEntry}(h:setP ks es){k:Int×Int}(hk:k∈ks):∃e,e∈es/\e.key=pk k:=by
 obtain⟨i,hi⟩:=List.mem_iff_getElem?.1 hk;obtain⟨e,h1,h2⟩:=h.get hi;exact⟨e,List.mem_of_getElem? h1,h2.1⟩
theorem vS{ks:List (Int×Int)}{es:List MapEntry}(h:setP ks es){e:MapEntry}(he:e∈es):∃k,k∈ks/\e.key=pk k/\e.val= .bool true:=by
 induction h with
 | nil=>simp at he
 | cons h1 _ ih=>
  rcases List.mem_cons.1 he with rfl | he
  . exact⟨_,by simp,h1⟩
  . obtain⟨k,hk,h⟩:=ih he;exact⟨k,by simp[hk],h⟩
section
variable {Ri:aB->Option Bool} {Co:List af×af->Option Bool} {Ro:aZ->Option af} {Ex Fi:aZ×af->Option Bool} {Nw:aZ×af->Option (List af)}
theorem xL (hRi : FnC prog ((fE 37 [.row 7] (hh .bool)).s (U := Un) Ri)) (hCo : FnC prog ((fE 38 [hh (tL 1), .row 1] (hh .bool)).s (U := Un) Co)) (hRo : FnC prog ((fE 39 [.row 9] (.row 1)).s (U := Un) Ro))
 (hEx:FnC prog ((fE 40 [.row 9,.row 1] (hh .bool)).s (U:=Un) Ex)) (hFi:FnC prog ((fE 41 [.row 9,.row 1] (hh .bool)).s (U:=Un) Fi)) (hNe:FnC prog ((fE 43 [.row 9,.row 1] (hh (tL 1))).s (U:=Un) Nw)):
 FnC prog ((fE 13 [.row 7,.row 7,hh (tL 1)] (hh .bool)).s (U:=Un) (relF Ri Co Ro Ex Fi Nw)):=by
 refine .hand (by kernel_rfl) ?_
 rintro ⟨rw,rr,l0⟩ b hF φ S w args1 vs hst ha hv hbn hG
 obtain⟨l,rfl⟩:∃l:List af,l=l0:=⟨l0,rfl⟩
 refine calls_of_wp func13 rfl ?_;have T0:=TS.enter (U:=Un) (gs:=[]) (N:=0) (nt:=61) ha hv hbn hst (by rw[<-ha.length];exact Nat.le_of_ble_eq_true rfl) (by simp) hG
 have fin:∀{gs:List Nat} {s:XS Un} {φ1:Phi} {S1:Stab} {a1:Act} {w1:World} (T:TS ⟨w,S,fun _=>False,φ,0,hG⟩ 61 gs s φ1 S1 a1 w1),lk s.1 6=some (.c (.t ⟨.bool,b⟩))->bodyPost prog f13 (fun e w'=>∃S',e= .returned (.bool b)/\Kp S w S' w') .ret a1 w1:=
  fun T hk=>T.ret rfl hk fun y hy=>⟨_,by cases hy;rfl,T.ext,T.st⟩
 refine wp_seq (T0.pc 0 [oE .normal [(2,hh (tL 1)),(3,hP 0 0),(4,hP 1 0)] [.brow 7,.brow 7]] (o:=(l,rw,rr)) .n (by kernel_rfl) fun φ1 S1 a1 w1 T1 n1=>?_)
 obtain⟨x1,h1,hF⟩:=Option.bind_eq_some_iff.1 hF;cases x1 with
 | false=>
  cases hF
  refine wp_seq (T1.pc 0 [oE .ret [(6,hh .bool)],oE .normal [(2,hh (tL 1)),(3,hP 0 0),(4,hP 1 0)] [.brow 7,.brow 7]] (o:= .inl false) (.k hRi .n) ((show _=(Ri rw >>=fun r_1=>(if(!(!r_1))=true then Ri rr else some false) >>=fun r_2=>if(bif (!r_1)then true else(!r_2))=true then some (Sum.inl false)else some (Sum.inr (l,rw,rr))) by kernel_rfl).trans (by rw[h1];rfl)) fun φ2 S2 a2 w2 T2 n2=>fin T2 rfl)
 | true=>
 obtain⟨x2,h2,hF⟩:=Option.bind_eq_some_iff.1 hF;cases x2 with
 | false=>
  cases hF
  refine wp_seq (T1.pc 0 [oE .ret [(6,hh .bool)],oE .normal [(2,hh (tL 1)),(3,hP 0 0),(4,hP 1 0)] [.brow 7,.brow 7]] (o:= .inl false) (.k hRi .n) ((show _=(Ri rw >>=fun r_1=>(if(!(!r_1))=true then Ri rr else some false) >>=fun r_2=>if(bif (!r_1)then true else(!r_2))=true then some (Sum.inl false)else some (Sum.inr (l,rw,rr))) by kernel_rfl).trans (by rw[h1];simp[h2];rfl)) fun φ2 S2 a2 w2 T2 n2=>fin T2 rfl)
 | true=>
 refine wp_seq (T1.pc 0 [oE .ret [(6,hh .bool)],oE .normal [(2,hh (tL 1)),(3,hP 0 0),(4,hP 1 0)] [.brow 7,.brow 7]] (o:= .inr (l,rw,rr)) (.k hRi .n) ((show _=(Ri rw >>=fun r_1=>(if(!(!r_1))=true then Ri rr else some false) >>=fun r_2=>if(bif (!r_1)then true else(!r_2))=true then some (Sum.inl false)else some (Sum.inr (l,rw,rr))) by kernel_rfl).trans (by rw[h1];simp[h2];rfl)) fun φ2 S2 a2 w2 T2 n2=>?_)
 refine wp_seq (T2.pc 0 [oE .normal [(2,hh (tL 1)),(7,hP 0 0)] [.brow 9]] (o:=(l,(⟨rw,rr⟩:aZ))) .n (by kernel_rfl) fun φ3 S3 a3 w3 T3 n3=>?_);obtain⟨q,h3,hF⟩:=Option.bind_eq_some_iff.1 hF;obtain⟨x4,h4,hF⟩:=Option.bind_eq_some_iff.1 hF;cases x4 with
 | false=>
  cases hF;refine wp_seq (T3.pc 0 [oE .ret [(6,hh .bool)],oE .normal [(2,hh (tL 1)),(7,hP 0 0)] [.brow 9]] (o:= .inl false) (.k hRo (.k hCo .n)) ((show _=(Ro ⟨rw,rr⟩ >>=fun q=>Co (l,q) >>=fun c=>if(!c)=true then some (Sum.inl false)else some (Sum.inr (l,(⟨rw,rr⟩:aZ)))) by kernel_rfl).trans (by rw[h3];simp[h4];rfl)) fun φ4 S4 a4 w4 T4 n4=>fin T4 rfl)
 | true=>
 refine wp_seq (T3.pc 0 [oE .ret [(6,hh .bool)],oE .normal [(2,hh (tL 1)),(7,hP 0 0)] [.brow 9]] (o:= .inr (l,(⟨rw,rr⟩:aZ))) (.k hRo (.k hCo .n)) ((show _=(Ro ⟨rw,rr⟩ >>=fun q=>Co (l,q) >>=fun c=>if(!c)=true then some (Sum.inl false)else some (Sum.inr (l,(⟨rw,rr⟩:aZ)))) by kernel_rfl).trans (by rw[h3];simp[h4];rfl)) fun φ4 S4 a4 w4 T4 n4=>?_)
 obtain⟨hall,htrue⟩:=oB hF;clear hF;generalize hp:(⟨rw,rr⟩:aZ)=p at*
 refine wp_seq (cU [0,1,2,3,4] ?_);refine T4.op 0 0 2 [(2,hh (tL 1)),(7,hP 0 0),(29,hh tI)] [.brow 9] (h:=(l,(l.length:Int),p)) .n (by kernel_rfl) fun φ5 S5 a5 w5 T5 n5=>?_
 refine man1 rfl rfl rfl (mk1 rfl pairM (aG (T5.int (k:=29) rfl))) ?_;have T6:=(T5.new (.map #[] 0)).put (d:=30) (x:= .map (some w5.heap.size)) (v:= .c (.mp 1)) (.c (.mp 1)) (.c (by show _=Value.map (some _);simp[upd]));refine man1 rfl rfl rfl (al1 rfl (z:= .map none) (by kernel_rfl) rfl) ?_
 have T7:=(T6.new (.cells #[.map none] 85 (0,0))).put (d:=8) (x:= .pointer (some ⟨(w5.alloc (.map #[] 0)).heap.size,0,none⟩)) (v:= .c (.ptr 2 0)) (.c (.ptr 2 0)) (.c (by show _=Value.pointer _;simp[upd]));have hg:w5.heap.size+1=(w5.alloc (.map #[] 0)).heap.size:=by simp
 refine manSt rfl rfl rfl rfl (by kernel_rfl) (b:=(w5.alloc (.map #[] 0)).heap.size) (u:= .map none) (E:=85) (v:= .map (some w5.heap.size)) (aG ((T7.ptr (k:=8) rfl).trans (by simp[upd]))) (aG ((T7.mp (k:=30) rfl).trans (by simp[upd]))) rfl rfl Shv.heap_alloc_new ?_;intro w8 o1 o2 o3 o4 o5 o6;have hw5:w.heap.size<=w5.heap.size:=T5.ext.size
 have T8:=T7.write (w':=w8) (g:=(w5.alloc (.map #[] 0)).heap.size) (by simp) (by rw[<-hg];exact Nat.le_succ_of_le hw5) o1 o2 o3 o4 o6;have hm8:w8.heap[w5.heap.size]?=some (.map #[] 0):=by
  rw[o6 _ (by rw[<-hg];omega),heap_alloc_lt (by simp)];exact Shv.heap_alloc_new
 obtain⟨φ9,S9,T9,_⟩:=T8.goto 0 (sh:=⟨[(2,hh (tL 1)),(7,hP 1 0),(8,hP 0 0)],[.gone,.brow 9]⟩) (ts:=[tL 1,.nm 9]) (h:=(l,p)) (by kernel_rfl);have h9:(φ9 0).1=(w5.alloc (.map #[] 0)).heap.size:=by
  have e1:=T9.ptr (k:=8) rfl;have e2:=T8.ptr (k:=8) rfl;rw[e1]at e2
  simpa[upd]using e2
 have hw8:w.heap.size<=(w5.alloc (.map #[] 0)).heap.size:=by rw[<-hg];exact Nat.le_succ_of_le hw5
 have hne:w5.heap.size≠(w5.alloc (.map #[] 0)).heap.size:=by rw[<-hg];omega
 clear T7 T8 T6 hg o6;generalize (w5.alloc (.map #[] 0)).heap.size=g at*;generalize w5.heap.size=gm at*
 refine wp_seq (wp_seq (T9.pc 1 [oE .normal [(2,hh (tL 1)),(7,hP 1 0),(8,hP 0 0),(31,hh (tL 1)),(32,hh tI),(33,hh tI)] [.gone,.brow 9]] (o:=(l,l,(l.length:Int),(0:Int),p)) .n (by kernel_rfl) fun φ10 S10 a10 w10 T10 n10=>?_));refine wp_block (gS ?_)
 refine(show(∀(n i:Nat),i+n=l.length->∀φ' S' a' w' es clk,TS ⟨w,S,fun _=>False,φ,0,hG⟩ 61 [g,gm] (oout (U:=Un) [oE .normal [(2,hh (tL 1)),(7,hP 1 0),(8,hP 0 0),(31,hh (tL 1)),(32,hh tI),(33,hh tI)] [.gone,.brow 9]] (l,l,(l.length:Int),(i:Int),p)).2 φ' S' a' w'->(φ' 0).1=g->w'.heap[g]?=some (.cells #[.map (some gm)] 85 (0,0))->w'.heap[gm]?=some (.map es clk)->setP (ksOf (l.take i)) es.toList->cC es.toList clk->wpL prog _ _ a' w')from ?_)
  l.length 0 (by simp) φ10 S10 a10 w10 #[] 0 T10 ((n10.fix 0 (by decide)).symm▸h9) ((n10.hp g (by simp)).trans o5) ((n10.hp gm (by simp)).trans hm8) .nil ⟨by simp,by simp⟩
 clear T9 n10 T10 o5 hm8 h9;intro n
 induction n with
 | succ n ih=>
  intro i hi φ11 S11 a11 w11 es clk T11 h11 hg11 hm11 hs11 hb11;have hil:i < l.length:=by omega
  refine ez (wp_seq (T11.pc 1 [oE .normal [(2,hh (tL 1)),(7,hP 1 0),(8,hP 0 0),(31,hh (tL 1)),(32,hh tI),(33,hh tI),(34,hh .bool)] [.gone,.brow 9]] (o:=(l,l,(l.length:Int),(i:Int),decide ((i:Int) < l.length),p)) .n (by kernel_rfl) fun φ12 S12 a12 w12 T12 n12=>?_));refine wp_seq (wp_cond_true ((aG (T12.bool (k:=34) rfl)).trans (by simp;omega)) (wp_skip ?_))
  refine wp_seq (wp_block (wp_seq ?_))
  refine T12.pc 1 [oE .normal [(2,hh (tL 1)),(7,hP 1 0),(8,hP 0 0),(31,hh (tL 1)),(32,hh tI),(33,hh tI),(10,hP 2 0)] [.gone,.brow 9,.brow 1]] (o:=(l,l,(l.length:Int),(i:Int),p,l.getD (Int.toNat i) aN)) .n ((show _=(if inR (i:Int) (List.length l)=true then some _ else none) by kernel_rfl).trans (if_pos (by simp[inR];omega))) fun φ13 S13 a13 w13 T13 n13=>?_
  have h13:(φ13 0).1=g:=by rw[n13.fix 0 (by decide),n12.fix 0 (by decide)];exact h11
  have hg13:=(n13.hp g (by simp)).trans ((n12.hp g (by simp)).trans hg11);have hm13:=(n13.hp gm (by simp)).trans ((n12.hp gm (by simp)).trans hm11);refine cU [0,1,2] ?_;refine man1 rfl rfl rfl (ld1 rfl (by kernel_rfl) (aG ((T13.ptr (k:=8) rfl).trans (by rw[h13]))) hg13 (off:=0) rfl) ?_
  have T14:=(T13.num gm).put (d:=37) (x:= .map (some gm)) (v:= .c (.mp 3)) (.c (.mp 3)) (.c (by show _=Value.map _;simp[upd]))
  refine T14.op 4 1 1 [(2,hh (tL 1)),(7,hP 1 0),(8,hP 0 0),(31,hh (tL 1)),(32,hh tI),(33,hh tI),(37,.c (.mp 3)),(38,.row 1)] [.gone,.brow 9,.brow 1,.gone] (h:=(l,l,(l.length:Int),(i:Int),l.getD (Int.toNat i) aN,p,l.getD (Int.toNat i) aN)) .n (by kernel_rfl) fun φ15 S15 a15 w15 T15 n15=>?_
  have h15:(φ15 0).1=g:=by rw[n15.fix 0 (by decide)];simpa[upd]using h13
  refine manUp rfl rfl rfl rfl pairM (aG ((T15.mp (k:=37) rfl).trans (by rw[n15.fix 3 (by decide)];simp[upd]))) (aG (T15.pair (k:=38) rfl)) rfl ((n15.hp gm (by simp)).trans hm13) hs11 hb11 fun es' clk' hs' hb'=>?_
  have T16:=T15.write (w':={w15 with heap:=w15.heap.setIfInBounds gm (.map es' clk')}) (g:=gm) (by simp) hw5 rfl rfl rfl (by simp) (fun b hb=>by simp[Array.getElem?_setIfInBounds,Ne.symm hb]);have hlt:gm < w15.heap.size:=(T15.gb gm (by simp)).1
  refine T16.pc 1 [oE .normal [(2,hh (tL 1)),(7,hP 1 0),(8,hP 0 0),(31,hh (tL 1)),(32,hh tI),(33,hh tI)] [.gone,.brow 9]] (o:=(l,l,(l.length:Int),addI .i64 (i:Int) 1,p)) .n (by kernel_rfl) fun φ17 S17 a17 w17 T17 n17=>?_
  have ha:addI .i64 (i:Int) 1=((i+1:Nat):Int):=by
   have h9:List.length l<=az:=T17.len (k:=2) rfl;unfold az at h9;have h10:(i:Int) < 281474976710656:=by omega
   unfold addI;rw[IntKind.wrap_i64];omega
  rw[ha]at T17;refine ih (i+1) (by omega) φ17 S17 a17 w17 es' clk' T17 (by rw[n17.fix 0 (by decide)];exact h15) ?_ ?_ ?_ hb'
  . rw[n17.hp g (by simp)];simp[Array.getElem?_setIfInBounds,hne];exact(n15.hp g (by simp)).trans hg13
  . rw[n17.hp gm (by simp)];simp[Array.getElem?_setIfInBounds,hlt]
  . rw[List.take_add_one,List.getElem?_eq_getElem hil];have e:l.getD (Int.toNat i) aN=l[i]:=by simp[List.getD,List.getElem?_eq_getElem hil]
    rw[e]at hs';exact(vd _ _).symm▸hs'
 | zero=>
  intro i hi φ11 S11 a11 w11 es clk T11 h11 hg11 hm11 hs11 hb11;have hli:l.take i=l:=List.take_of_length_le (by omega);rw[hli]at hs11;refine ez (wp_seq (T11.pc 1 [oE .normal [(2,hh (tL 1)),(7,hP 1 0),(8,hP 0 0),(34,hh .bool)] [.gone,.brow 9]] (o:=(l,decide ((i:Int) < l.length),p)) .n (by kernel_rfl) fun φ12 S12 a12 w12 T12 n12=>?_))
  refine wp_seq (wp_cond_false ((aG (T12.bool (k:=34) rfl)).trans (by simp;omega)) (wp_exit ?_));have h12:(φ12 0).1=g:=by rw[n12.fix 0 (by decide)];exact h11
  have hg12:=(n12.hp g (by simp)).trans hg11;have hm12:=(n12.hp gm (by simp)).trans hm11
  refine wp_seq (wp_seq (cU [0,1] ?_));refine man1 rfl rfl rfl (ld1 rfl (by kernel_rfl) (aG ((T12.ptr (k:=8) rfl).trans (by rw[h12]))) hg12 (off:=0) rfl) ?_;have T13:=T12.put (d:=40) (x:= .map (some gm)) (v:= .c .dead) (.c (.dead .dead)) (.c rfl);refine man1 rfl rfl rfl (rg1 rfl pairM (aG (xA (by rw[T12.size];decide))) hm12) ?_
  have T14:=(T13.new (.mapIter (some gm) clk #[] clk)).put (d:=41) (x:= .pointer (some ⟨w12.heap.size,0,none⟩)) (v:= .c (.ptr 2 0)) (.c (.ptr 2 0)) (.c (by show _=Value.pointer _;simp[upd]));obtain⟨φ15,S15,T15,_⟩:=T14.goto 0 (sh:=⟨[(2,hh (tL 1)),(7,hP 2 0),(8,hP 0 0),(41,hP 1 0)],[.gone,.gone,.brow 9]⟩) (ts:=[tL 1,.nm 9]) (h:=(l,p)) (by kernel_rfl)
  have hglt:=(T12.gb g (by simp)).1;have hmlt:=(T12.gb gm (by simp)).1;have h15:(φ15 0).1=g:=by
   have e1:=T15.ptr (k:=8) rfl;rw[T14.ptr (k:=8) rfl]at e1;simp[upd]at e1;rw[<-e1];exact h12
  have i15:(φ15 1).1=w12.heap.size:=by
   have e1:=T15.ptr (k:=41) rfl;rw[T14.ptr (k:=41) rfl]at e1;simp[upd]at e1;exact e1.symm
  have hg15:(w12.alloc (.mapIter (some gm) clk #[] clk)).heap[g]?=_:=(Shv.heap_alloc_lt hglt).trans hg12;have hm15:(w12.alloc (.mapIter (some gm) clk #[] clk)).heap[gm]?=_:=(Shv.heap_alloc_lt hmlt).trans hm12;have hi15:(w12.alloc (.mapIter (some gm) clk #[] clk)).heap[w12.heap.size]?=_:=Shv.heap_alloc_new;have hw12:w.heap.size<=w12.heap.size:=T12.ext.size
  have hgi:g≠w12.heap.size:=by omega
  have hmi:gm≠w12.heap.size:=by omega
  clear T14 T13 T12 n12 hglt hmlt hg12 hm12;refine wp_block (gS ?_);have hkey:∀e,e∈es.toList->∃x,x∈l/\e.key=pk (x.A0,x.A1)/\e.val= .bool true:=fun e he=>by
   obtain⟨k,h1,h2,h3⟩:=vS hs11 he;obtain⟨x,hx,rfl⟩:=vR l h1;exact⟨x,hx,h2,h3⟩
  have pkinj:∀{x y:af},pk (x.A0,x.A1)=pk (y.A0,y.A1)->x=y:=fun {x y} h=>by
   obtain⟨a,b⟩:=x;obtain⟨c,d⟩:=y;simp[pk]at h;rw[h.1,h.2]
  refine(fun(key:∀(n:Nat) (seen:Array Nat),(leftOf es seen).size=n->∀φ' S' a' w',TS ⟨w,S,fun _=>False,φ,0,hG⟩ 61 [w12.heap.size,g,gm] (oout (U:=Un) [oE .normal [(2,hh (tL 1)),(7,hP 2 0),(8,hP 0 0),(41,hP 1 0)] [.gone,.gone,.brow 9]] (l,p)).2 φ' S' a' w'->(φ' 0).1=g->(φ' 1).1=w12.heap.size->w'.heap[g]?=some (.cells #[.map (some gm)] 85 (0,0))->w'.heap[gm]?=some (.map es clk)->w'.heap[w12.heap.size]?=some (.mapIter (some gm) clk seen clk)->(∀e,e∈es.toList->seen.contains e.born=true->∀x:af,e.key=pk (x.A0,x.A1)->relG Ex Fi Nw p l x=some true)->wpL prog _ _ a' w')=>key _ #[] rfl φ15 S15 _ _ T15 h15 i15 hg15 hm15 hi15 (by simp)) ?_
  clear T15 h15 i15 hg15 hm15 hi15;intro n
  induction n using Nat.strongRecOn with
  | _ n ih=>
  intro seen hsz φ1 S1 a1 w1 T1 h1 i1 hg1 hm1 hi1 hdone;refine ez (wp_seq (cU [0,1] ?_));refine manNx rfl rfl rfl rfl (aG ((T1.ptr (k:=41) rfl).trans (by rw[i1]))) hi1 hm1 hb11 (fun h0=>?_) fun e he w2 hw2=>?_
  . have T2:=T1.put (d:=42) (x:= .tuple #[.bool false]) (v:= .tup [.c (.t ⟨.bool,false⟩)]) (VR.tupA (.cons (.c (.t _)) .nil)) (RV.tupA (.cons (.c (RT.bool _)) .nil));refine T2.op 2 1 1 [(2,hh (tL 1)),(7,hP 2 0),(8,hP 0 0),(41,hP 1 0),(43,hh .bool)] [.gone,.gone,.brow 9] (h:=(l,false,p)) .n (by kernel_rfl) fun φ3 S3 a3 w3 T3 n3=>?_
    refine wp_seq (wp_cond_false (aG (T3.bool (k:=43) rfl)) (wp_exit ?_));have hb:b=true:=htrue fun x hx=>by
     have:hasX (ksOf l) x=true:=by
      rw[kb,List.any_eq_true];exact⟨x,hx,by simp[eqI]⟩
     unfold hasX hasP at this;obtain⟨k,hk,hkx⟩:=List.any_eq_true.1 this;have hkx:=of_decide_eq_true hkx;obtain⟨e,he,h2⟩:=ve hs11 hk;exact hdone e he (all_seen es seen h0 e he) x (by rw[h2,hkx])
    subst hb;exact T3.pc 2 [oE .ret [(6,hh .bool)] [.gone,.gone]] (o:=true) .n (by kernel_rfl) fun φ4 S4 a4 w4 T4 n4=>fin T4 rfl
  . obtain⟨hes,hns⟩:=mem_left he;obtain⟨x,hxl,hek,hev⟩:=hkey e hes;rw[hek,hev];have T2:=TS.set (q:=w12.heap.size) (w:=w2) (by rcases hw2 with rfl | rfl;exact T1;exact T1.drew) (.mapIter (some gm) clk (seen.push e.born) clk) (by simp) hw12;have hh2:w2.heap=w1.heap:=by rcases hw2 with rfl | rfl <;> rfl
    have hg2:(ChangeMaps.setBlock w2 w12.heap.size (.mapIter (some gm) clk (seen.push e.born) clk)).heap[g]?=some (.cells #[.map (some gm)] 85 (0,0)):=(jL hgi).trans (hh2▸hg1);have hm2:(ChangeMaps.setBlock w2 w12.heap.size (.mapIter (some gm) clk (seen.push e.born) clk)).heap[gm]?=some (.map es clk):=(jL hmi).trans (hh2▸hm1)
    have hi2:(ChangeMaps.setBlock w2 w12.heap.size (.mapIter (some gm) clk (seen.push e.born) clk)).heap[w12.heap.size]?=some (.mapIter (some gm) clk (seen.push e.born) clk):=sZ (by rw[hh2];exact(T1.gb _ (by simp)).1);generalize ChangeMaps.setBlock w2 w12.heap.size (.mapIter (some gm) clk (seen.push e.born) clk)=w3 at*
    have T3:=T2.put (d:=42) (x:= .tuple #[.bool true,pk (x.A0,x.A1),.bool true]) (v:= .tup [.c (.t ⟨.bool,true⟩),.agg [.t ⟨.int .i64,x.A0⟩,.t ⟨.int .i64,x.A1⟩],.c (.t ⟨.bool,true⟩)]) (VR.tupA (.cons (.c (.t _)) (.cons (VR.pkI (x.A0,x.A1)) (.cons (.c (.t _)) .nil)))) (RV.tupA (.cons (.c (RT.bool _)) (.cons (RV.pkI (x.A0,x.A1)) (.cons (.c (RT.bool _)) .nil))))
    refine T3.op 2 1 1 [(2,hh (tL 1)),(7,hP 2 0),(8,hP 0 0),(41,hP 1 0),(43,hh .bool)] [.gone,.gone,.brow 9] (h:=(l,true,p)) .n (by kernel_rfl) fun φ4 S4 a4 w4 T4 n4=>?_
    refine wp_seq (wp_cond_true (aG (T4.bool (k:=43) rfl)) (wp_skip ?_));have h4:(φ4 0).1=g:=by rw[n4.fix 0 (by decide)];exact h1
    have i4:(φ4 1).1=w12.heap.size:=by rw[n4.fix 1 (by decide)];exact i1
    have hg4:=(n4.hp g (by simp)).trans hg2;have hm4:=(n4.hp gm (by simp)).trans hm2;have hi4:=(n4.hp w12.heap.size (by simp)).trans hi2;refine wp_block (wp_seq (cU [0,1,2,3] ?_));refine man1 rfl rfl rfl (en1 rfl (aG ((T4.ptr (k:=41) rfl).trans (by rw[i4]))) hi4 hm4 hes hb11) ?_;rw[hek,hev]
    have T5:=T4.put (d:=44) (x:= .tuple #[pk (x.A0,x.A1),.bool true]) (v:= .tup [.agg [.t ⟨.int .i64,x.A0⟩,.t ⟨.int .i64,x.A1⟩],.c (.t ⟨.bool,true⟩)]) (VR.tupA (.cons (VR.pkI (x.A0,x.A1)) (.cons (.c (.t _)) .nil))) (RV.tupA (.cons (RV.pkI (x.A0,x.A1)) (.cons (.c (RT.bool _)) .nil)))
    refine T5.op 2 1 3 [(2,hh (tL 1)),(7,hP 2 0),(8,hP 0 0),(41,hP 1 0),(11,hP 3 0)] [.gone,.gone,.brow 9,.brow 1] (h:=(l,p,x)) .n (by kernel_rfl) fun φ6 S6 a6 w6 T6 n6=>?_
    obtain⟨y,hy,hyb⟩:=hall x hxl;have hy0:=hy;obtain⟨y1,e1,hy⟩:=Option.bind_eq_some_iff.1 hy;cases y1 with
    | false=>
     cases hy;cases hyb rfl
     refine wp_seq (T6.pc 2 [oE .ret [(6,hh .bool)] [.gone,.gone],oE .normal [(2,hh (tL 1)),(7,hP 2 0),(8,hP 0 0),(41,hP 1 0),(11,hP 3 0)] [.gone,.gone,.brow 9,.brow 1]] (o:= .inl false) (.k hEx (.k hFi .n)) ((show _=(Ex (p,x) >>=fun r_1=>(if(!(!r_1))=true then Fi (p,x)else some false) >>=fun r_2=>if(bif (!r_1)then true else(!r_2))=true then some (Sum.inl false)else some (Sum.inr (l,p,x))) by kernel_rfl).trans (by rw[e1];rfl)) fun φ7 S7 a7 w7 T7 n7=>?_)
     exact fin T7 rfl
    | true=>
    obtain⟨y2,e2,hy⟩:=Option.bind_eq_some_iff.1 hy;cases y2 with
    | false=>
     cases hy;cases hyb rfl
     refine wp_seq (T6.pc 2 [oE .ret [(6,hh .bool)] [.gone,.gone],oE .normal [(2,hh (tL 1)),(7,hP 2 0),(8,hP 0 0),(41,hP 1 0),(11,hP 3 0)] [.gone,.gone,.brow 9,.brow 1]] (o:= .inl false) (.k hEx (.k hFi .n)) ((show _=(Ex (p,x) >>=fun r_1=>(if(!(!r_1))=true then Fi (p,x)else some false) >>=fun r_2=>if(bif (!r_1)then true else(!r_2))=true then some (Sum.inl false)else some (Sum.inr (l,p,x))) by kernel_rfl).trans (by rw[e1];simp[e2];rfl)) fun φ7 S7 a7 w7 T7 n7=>?_)
     exact fin T7 rfl
    | true=>
    obtain⟨m,e3,hy⟩:=Option.bind_eq_some_iff.1 hy
    refine wp_seq (T6.pc 2 [oE .ret [(6,hh .bool)] [.gone,.gone],oE .normal [(2,hh (tL 1)),(7,hP 2 0),(8,hP 0 0),(41,hP 1 0),(11,hP 3 0)] [.gone,.gone,.brow 9,.brow 1]] (o:= .inr (l,p,x)) (.k hEx (.k hFi .n)) ((show _=(Ex (p,x) >>=fun r_1=>(if(!(!r_1))=true then Fi (p,x)else some false) >>=fun r_2=>if(bif (!r_1)then true else(!r_2))=true then some (Sum.inl false)else some (Sum.inr (l,p,x))) by kernel_rfl).trans (by rw[e1];simp[e2];rfl)) fun φ7 S7 a7 w7 T7 n7=>?_)
    refine wp_seq (cU [0,1,2,3,4] ?_);refine T7.op 2 0 4 [(2,hh (tL 1)),(7,hP 2 0),(8,hP 0 0),(41,hP 1 0),(58,hh (tL 1)),(59,.c (.fn 44 [0]))] [.gone,.gone,.brow 9] (h:=(l,m,p)) (.k hNe .n) ((show _=(Nw (p,x) >>=fun m=>some (l,m,p)) by kernel_rfl).trans (by rw[e3];rfl)) fun φ8 S8 a8 w8 T8 n8=>?_
    have h8:(φ8 0).1=g:=by rw[n8.fix 0 (by decide),n7.fix 0 (by decide),n6.fix 0 (by decide)];exact h4
    have i8:(φ8 1).1=w12.heap.size:=by rw[n8.fix 1 (by decide),n7.fix 1 (by decide),n6.fix 1 (by decide)];exact i4
    have hg8:=(n8.hp g (by simp)).trans ((n7.hp g (by simp)).trans ((n6.hp g (by simp)).trans hg4));have hm8:=(n8.hp gm (by simp)).trans ((n7.hp gm (by simp)).trans ((n6.hp gm (by simp)).trans hm4));have hi8:=(n8.hp w12.heap.size (by simp)).trans ((n7.hp w12.heap.size (by simp)).trans ((n6.hp w12.heap.size (by simp)).trans hi4));obtain⟨u,k58,hu⟩:=T8.cell (k:=58) rfl
    refine manC rfl rfl rfl (dI rfl rfl (f:=42) (caps:=[]) rfl (by kernel_rfl)) (args:=#[u,.func (.func 44) #[] #[.pointer (some ⟨g,0,none⟩)]]) ?_ ?_
    . simp[aG k58,aG (T8.fn (k:=59) rfl),h8]
    refine(F42 m ⟨T8.st,⟨_,hg8⟩,⟨_,_,hm8,hs11⟩,(T8.gb g (by simp)).2,(T8.gb gm (by simp)).2⟩ hu T8.gs).mono ?_
    rintro e0 w9 ⟨S9,rfl,k9⟩
    refine⟨_,rfl,?_⟩;have T9:=(T8.extend k9.1 k9.2).put (d:=60) (x:= .bool (m.any fun x=>!hasX (ksOf l) x)) (v:= .c (.t ⟨.bool,m.any fun x=>!hasX (ksOf l) x⟩)) (.c (.t _)) (.c (RT.bool _));have hany:(m.any fun x=>!hasX (ksOf l) x)=!y:=by
     cases hy;rw[List.not_all_eq_any_not]
     congr 1
     funext y
     rw[kb]
    cases y with
    | false=>
     cases hyb rfl;refine wp_cond_true ((aG (T9.bool (k:=60) rfl)).trans (by rw[hany];rfl)) ?_;refine T9.pc 2 [oE .ret [(6,hh .bool)] [.gone,.gone]] (o:=false) .n (by kernel_rfl) fun φ10 S10 a10 w10 T10 n10=>?_
     exact fin T10 rfl
    | true=>
     refine wp_cond_false ((aG (T9.bool (k:=60) rfl)).trans (by rw[hany];rfl)) (wp_skip ?_);obtain⟨φ10,S10,T10,n10⟩:=T9.goto 2 (sh:=⟨[(2,hh (tL 1)),(7,hP 2 0),(8,hP 0 0),(41,hP 1 0)],[.gone,.gone,.brow 9]⟩) (ts:=[tL 1,.nm 9]) (h:=(l,p)) (by kernel_rfl)
     refine ih _ (by rw[<-hsz];exact left_shrinks es seen e he) (seen.push e.born) rfl φ10 S10 _ w9 T10 (by rw[n10.fix 0 (by decide)];exact h8) (by rw[n10.fix 1 (by decide)];exact i8) (k9.heap hg8) (k9.heap hm8) (k9.heap hi8) fun e' he' hse' x' hx'=>?_
     rw[contains_push]at hse';rcases Bool.or_eq_true _ _▸hse' with h | h
     . exact hdone e' he' h x' hx'
     . have:e'=e:=born_inj hb11.2 he' hes (beq_iff_eq.1 h);subst this;rw[hek]at hx';rw[<-pkinj hx'];exact hy0
end
abbrev FC(e:FEnt)(F:Hs Un.D e.ts->Option (Hs Un.D e.us)):Prop:=FnC prog (e.s F)
abbrev LC(f kk:Nat)(p:List Nat)(e:LEnt)(F:Hs Un.D e.ts->Option (OSum Un e.outs)):Prop:=LpC prog f kk p e F
def e36 :=fE 36 [hh tI] (.row 7)
def xM :=lE 0 [(0,hh (tL 3)),(1,hh (tL 3)),(12,hh tI),(13,hh tI)] [] [oR 4 .bool,oX 0]
def e324 :=fE 324 [hh (tL 3),hh (tL 3)] (hh .bool) [xM]
def xN :=lE 0 [(0,hh (tL 6)),(1,hh (tL 6)),(12,hh tI),(13,hh tI)] [] [oR 4 .bool,oX 0]
def e316 :=fE 316 [hh (tL 6),hh (tL 6)] (hh .bool) [xN]
def vT :=lE 0 [(1,hh (tL 5)),(2,.c (.fn 327 [])),(15,hh (tL 5)),(16,hh tI),(17,hh tI)] [] [oR 6 .bool,oX 0]
def xO :=fE 317 [hh (tL 5),hh (tL 5),.c (.fn 327 [])] (hh .bool) [vT]
def e327 :=fE 327 [.row 5,.row 5] (hh .bool)
def e326 :=fE 326 [.row 4,.row 4] (hh .bool)
def xP :=lE 0 [(1,hh (tL 4)),(2,.c (.fn 326 [])),(15,hh (tL 4)),(16,hh tI),(17,hh tI)] [] [oR 6 .bool,oX 0]
def e325 :=fE 325 [hh (tL 4),hh (tL 4),.c (.fn 326 [])] (hh .bool) [xP]
def e278 :=fE 278 [.row 2,.row 2] (hh .bool)
def e320 :=fE 320 [hh (.int .u8)] (hh .bool)
def e321 :=fE 321 [hh (.int .u8)] (hh .bool)
def xQ :=lE 0 [(0,hh .str),(18,hh tI),(19,hh tI)] [] [oR 2 .bool,oX 0]
def e275 :=fE 275 [hh .str] (hh .bool) [xQ]
def xR :=lE 0 [(0,hh tLI),(1,hh tLS),(5,.c (.mp 0)),(9,hh tLI),(10,hh tI),(11,hh tI)] [.set] [oR 4 .bool,oE (.exit 0) [(0,hh tLI)]]
def e322 :=fE 322 [hh tLI,hh tLS] (hh .bool) [xR]
def xS :=lE 0 [(0,hh (tL 3)),(3,.c (.arr 0)),(4,.c (.arr 1)),(7,hh (tL 3)),(8,hh tI),(9,hh tI)] [.arr tI,.arr .str] [oE (.exit 0) [(0,hh (tL 3)),(3,.c (.arr 0)),(4,.c (.arr 1))] [.arr tI,.arr .str]] [] [(.slot 3,tI),(.slot 4,.str)]
def e276 :=fE 276 [hh (tL 3)] (hh .bool) [xS]
def e323 :=fE 323 [.row 5] (hh .bool)
def xT :=lE 0 [(1,hP 0 0),(3,.c (.arr 1)),(4,.c (.arr 2)),(8,hh (tL 4)),(9,hh tI),(10,hh tI)] [.brow 2,.arr tI,.arr .str] [oR 2 .bool,oE (.exit 0) [(1,hP 0 0),(3,.c (.arr 1)),(4,.c (.arr 2))] [.brow 2,.arr tI,.arr .str]] [] [(.slot 3,tI),(.slot 4,.str)]
def e277 :=fE 277 [.row 2] (hh .bool) [xT]
def e206 :=fE 206 [.row 2] (hh .bool)
def xU :=lE 0 [(1,hP 0 0),(3,.c (.arr 1)),(7,hh (tL 4)),(8,hh tI),(9,hh tI)] [.brow 2,.arr tI] [oE (.exit 0) [(1,hP 0 0),(3,.c (.arr 1))] [.brow 2,.arr tI]] [] [(.slot 3,tI)]
def e207 :=fE 207 [.row 2] (hh tLI) [xU]
def vU :=lE 0 [(1,hP 0 0),(3,.c (.mp 1)),(5,hP 2 0),(14,hh (tL 2)),(15,hh tI),(16,hh tI),(38,hh tLI),(39,hh tI),(40,hh tI)] [bb (tL 2),.set,.box [.hole tI,.hole .str,.hole tI,.hole tI,.hole tI,.hole (tL 3),.hole (tL 4),.hole tI,.hole tI,.hole .bool]] [oR 2 tI,oE (.exit 2) [(1,hP 0 0),(3,.c (.mp 1)),(5,hP 2 0),(14,hh (tL 2)),(15,hh tI),(16,hh tI)] [bb (tL 2),.set,.box [.hole tI,.hole .str,.hole tI,.hole tI,.hole tI,.hole (tL 3),.hole (tL 4),.hole tI,.hole tI,.hole .bool]]]
def xV :=lE 0 [(1,hP 0 0),(3,.c (.mp 1)),(14,hh (tL 2)),(15,hh tI),(16,hh tI)] [bb (tL 2),.set] [oR 2 tI,oX 0] [vU]
def e147 :=fE 147 [.row 8] (hh tI) [xV]
def e216 :=fE 216 [.row 5] (.row 5)
def e149 :=fE 149 [.row 5] (hh .bool)
def e218 :=fE 218 [.row 3,hP 0 0] (hh .bool) [] [bb tI] [bb tI]
def xW :=lE 0 [(0,hh (tL 3)),(1,.c (.fn 218 [0])),(7,hh tI),(8,hh tI)] [bb tI] [oE .ret [(4,hh tI)] [bb tI],oE (.exit 0) [] [bb tI]]
def e217 :=fE 217 [hh (tL 3),.c (.fn 218 [0])] (hh tI) [xW] [bb tI] [bb tI]
def e150 :=fE 150 [.row 2,hh tI] (.tup [hh tI,hh .bool])
def e151 :=fE 151 [hh tI] (hh .bool)
def e220 :=fE 220 [.row 4,hP 0 0] (hh .bool) [] [bb tI] [bb tI]
def xX :=lE 0 [(0,hh (tL 4)),(1,.c (.fn 220 [0])),(7,hh tI),(8,hh tI)] [bb tI] [oE .ret [(4,hh tI)] [bb tI],oE (.exit 0) [] [bb tI]]
def e219 :=fE 219 [hh (tL 4),.c (.fn 220 [0])] (hh tI) [xX] [bb tI] [bb tI]
def e152 :=fE 152 [.row 2,hh tI] (.tup [hh tI,hh .bool])
def e222 :=fE 222 [.row 5,hP 0 0,hP 1 0,hP 2 0] (hh .bool) [] [bb (tL 2),bb tI,bb .bool] [bb (tL 2),bb tI,bb .bool]
def xY :=lE 0 [(0,hh (tL 5)),(1,.c (.fn 222 [0,1,2])),(7,hh tI),(8,hh tI)] [bb (tL 2),bb tI,bb .bool] [oE .ret [(4,hh tI)] [bb (tL 2),bb tI,bb .bool],oE (.exit 0) [] [bb (tL 2),bb tI,bb .bool]]
def e285 :=fE 285 [hh (tL 5),.c (.fn 222 [0,1,2])] (hh tI) [xY] [bb (tL 2),bb tI,bb .bool] [bb (tL 2),bb tI,bb .bool]
def e221 :=fE 221 [hh (tL 5),.c (.fn 222 [0,1,2])] (hh .bool) [] [bb (tL 2),bb tI,bb .bool] [bb (tL 2),bb tI,bb .bool]
def e153 :=fE 153 [.row 8,hh tI,hh (tL 5),hh .bool] (hh .bool)
def e158 :=fE 158 [hh tI] (hh (.int .u64))
def e286 :=fE 286 [hh (.int .u64)] (hh .bool)
def e223 :=fE 223 [hh (.int .u64),hh (.int .u64)] (hh tI)
def e287 :=fE 287 [hh tI] (hh .bool)
def e225 :=fE 225 [hh tI,hh tI] (hh tI)
def e288 :=fE 288 [hh .str] (hh .bool)
def e226 :=fE 226 [hh .str,hh .str] (hh tI)
def xZ :=lE 0 [(3,hh tI),(6,hh tLI),(7,hh tI),(8,hh tI)] [] [oR 2 tI,oE (.exit 0) [(3,hh tI)]]
def e224 :=fE 224 [hh tLI] (hh tI) [xZ]
def e154 :=fE 154 [.row 5,.row 5] (hh tI)
def x7 :=lE 0 [(3,hh .bool),(4,hP 0 0),(6,hP 1 0),(9,hP 2 0),(111,hh (tL 6)),(112,hh tI),(113,hh tI)] [bb (tL 2),.brow 5,.box [.hole tI,.hole .str,.hole tI,.hole tI,.hole tI,.hole (tL 3),.hole (tL 4),.hole tI,.hole tI,.hole .bool]] [oR 8 .bool,oE (.exit 1) [(3,hh .bool),(4,hP 0 0),(6,hP 1 0),(9,hP 2 0)] [bb (tL 2),.box [.hole tI,.hole .bool,.hole tI,.hole .str,.hole tI,.hole (tL 5),.hole (tL 5),.hole (tL 6)],.box [.hole tI,.hole .str,.hole tI,.hole tI,.hole tI,.hole (tL 3),.hole (tL 4),.hole tI,.hole tI,.hole .bool]]]
def x8 :=lE 1 [(3,hh .bool),(4,hP 0 0),(6,hP 1 0),(150,hh (tL 4)),(151,hh tI),(152,hh tI)] [bb (tL 2),.box [.hole tI,.hole .bool,.hole tI,.hole .str,.hole tI,.hole (tL 5),.hole (tL 5),.hole (tL 6)]] [oR 8 .bool,oX 3]
def x9 :=lE 2 [(3,hh .bool),(4,hP 0 0),(6,hP 1 0),(9,hP 2 0),(20,hh tI)] [bb (tL 2),.brow 5,.box [.hole tI,.hole .str,.hole tI,.hole tI,.hole tI,.hole (tL 3),.hole (tL 4),.hole tI,.hole tI,.hole .bool]] [oR 8 .bool,oE (.exit 5) [(3,hh .bool),(4,hP 0 0),(6,hP 1 0),(9,hP 2 0)] [bb (tL 2),.brow 5,.box [.hole tI,.hole .str,.hole tI,.hole tI,.hole tI,.hole (tL 3),.hole (tL 4),.hole tI,.hole tI,.hole .bool]]]
def e101 :=fE 101 [.row 8,hh tI,.row 5,hh .bool] (hh .bool) [x7,x8,x9]
def e54 :=fE 54 [.row 8,hh tI,.row 5] (hh .bool)
def vV :=lE 0 [(1,hP 0 0),(6,hh tI),(16,hh (tL 2)),(17,hh tI),(18,hh tI),(24,hh (tL 4)),(25,hh tI),(26,hh tI)] [bb (tL 2)] [oE .ret [(2,hh tI),(3,hh tI),(4,hh tI)],oE (.exit 2) [(1,hP 0 0),(16,hh (tL 2)),(17,hh tI),(18,hh tI)] [bb (tL 2)]]
def ya :=lE 0 [(1,hP 0 0),(16,hh (tL 2)),(17,hh tI),(18,hh tI)] [bb (tL 2)] [oE .ret [(2,hh tI),(3,hh tI),(4,hh tI)],oX 0] [vV]
def e270 :=fE 270 [.row 8] (.tup [hh tI,hh tI,hh tI]) [ya]
def e197 :=fE 197 [.row 8] (hh tI)
def yc :=lE 0 [(1,.c (.arr 0)),(5,hh tI),(33,hh (tL 4)),(34,hh tI),(35,hh tI)] [.arr tI] [oE (.exit 1) [(5,hh tI)] [.arr tI]]
def yd :=lE 1 [(1,.c (.arr 0)),(8,hh tI),(52,hh (tL 4)),(53,hh tI),(54,hh tI)] [.arr tI] [oE (.exit 3) [(8,hh tI)] [.arr tI]]
def e271 :=fE 271 [.row 2,.c (.arr 0)] (hh tI) [yc,yd] [.arr tI] [.arr tI]
def vW :=lE 0 [(1,hP 0 0),(3,.c (.arr 1)),(4,hh .bool),(14,hh (tL 2)),(15,hh tI),(16,hh tI)] [bb (tL 2),.arr tI] [oE (.exit 2) [(1,hP 0 0),(3,.c (.arr 1)),(4,hh .bool)] [bb (tL 2),.arr tI]]
def yf :=lE 0 [(1,hP 0 0),(3,.c (.arr 1)),(4,hh .bool)] [bb (tL 2),.arr tI] [oE (.exit 0) [(3,.c (.arr 0))] [.arr tI]] [vW]
def e198 :=fE 198 [.row 8] (hh tLI) [yf]
def yg :=lE 0 [(5,.c (.arr 0)),(14,hh tLI),(15,hh tI),(16,hh tI)] [.arr .bool] [oE (.exit 0) [(5,.c (.arr 0))] [.arr .bool]] [] [(.slot 5,.bool)]
def e141 :=fE 141 [.row 8] (.tup [hh (.slice .bool),hh tI]) [yg]
def e89_0 :=lE 0 [(15,hh (.slice .bool)),(16,hh tI),(17,hh tI)] [] [oR 2 tI,oX 0]
def e89 :=fE 89 [.row 8] (hh tI) [e89_0]
def e37 :=fE 37 [.row 7] (hh .bool)
def wL :=lE 0 [(0,hh (tL 1)),(3,hP 0 0),(7,hh tI),(8,hh tI)] [.brow 1] [oR 4 tI,oX 0]
def e90_a :=fE 90 [hh (tL 1),.row 1] (hh tI) [wL]
def e38_a :=fE 38 [hh (tL 1),.row 1] (hh .bool)
def e39 :=fE 39 [.row 9] (.row 1)
def e40 :=fE 40 [.row 9,.row 1] (hh .bool)
def e199 :=fE 199 [.row 8,hh tI] (hh tI)
def e142 :=fE 142 [.row 7,.row 7] (hh tI)
def e200 :=fE 200 [.row 2] (hh tI)
def yh :=lE 0 [(2,hP 0 0),(3,hP 1 0),(16,hh (tL 3)),(17,hh tI),(18,hh tI)] [.brow 2,.brow 2] [oR 4 .bool,oE (.exit 0) [(2,hP 0 0),(3,hP 1 0)] [.brow 2,.brow 2]]
def yi :=lE 1 [(3,hP 0 0),(33,hh (tL 4)),(34,hh tI),(35,hh tI)] [.brow 2] [oR 4 .bool,oX 2]
def e201 :=fE 201 [.row 2,.row 2] (hh .bool) [yh,yi]
def e162 :=fE 162 [.row 8,hh tI] (hh tI)
def e104 :=fE 104 [.row 8,hh tI,.row 5,.row 8,hh tI] (hh tI)
def e163 :=fE 163 [hP 0 0] (.tup [.row 5,hh .bool]) [] [.box [.hole (tL 2),.hole (tL 2),.arr 1,.hole tLI],.arr tI] [.box [.hole (tL 2),.hole (tL 2),.arr 2,.arr 3],.gone,.arr tI,.arr tI]
def e233 :=fE 233 [hP 0 0,hh tI] (.tup [.row 5,hh .bool]) [] [.box [.hole (tL 2),.hole (tL 2),.arr 1,.hole tLI],.arr tI] [.box [.hole (tL 2),.hole (tL 2),.arr 2,.arr 3],.gone,.arr tI,.arr tI]
def yj :=lE 0 [(1,hP 0 0),(2,hP 1 0),(20,.c (.arr 2)),(21,hh tI),(22,hh tI)] [.box [.hole tI,.hole .bool,.hole tI,.hole .str,.hole tI,.arr 2,.arr 3,.arr 4],.box [.hole tI,.hole .bool,.hole tI,.hole .str,.hole tI,.cap0,.cap0,.cap0],.arr (.nm 5),.arr (.nm 5),.arr (.nm 6)] [oE (.exit 0) [(1,hP 0 0),(2,hP 1 0)] [.box [.hole tI,.hole .bool,.hole tI,.hole .str,.hole tI,.arr 2,.arr 3,.arr 4],.box [.hole tI,.hole .bool,.hole tI,.hole .str,.hole tI,.cap0,.cap0,.cap0],.arr (.nm 5),.arr (.nm 5),.arr (.nm 6)]]
def yk :=lE 1 [(1,hP 0 0),(2,hP 1 0),(35,.c (.arr 2)),(36,hh tI),(37,hh tI)] [.box [.hole tI,.hole .bool,.hole tI,.hole .str,.hole tI,.arr 3,.arr 2,.arr 4],.box [.hole tI,.hole .bool,.hole tI,.hole .str,.hole tI,.cap0,.cap0,.cap0],.arr (.nm 5),.arr (.nm 5),.arr (.nm 6)] [oE (.exit 2) [(1,hP 0 0),(2,hP 1 0)] [.box [.hole tI,.hole .bool,.hole tI,.hole .str,.hole tI,.arr 2,.arr 3,.arr 4],.box [.hole tI,.hole .bool,.hole tI,.hole .str,.hole tI,.cap0,.cap0,.cap0],.arr (.nm 5),.arr (.nm 5),.arr (.nm 6)]]
def e234 :=fE 234 [.row 5] (.row 5) [yj,yk]
def e235 :=fE 235 [hP 0 0,hh tI,hh tI,.row 5,hh tI] (.tup [.row 5,hh .bool]) [] [.box [.hole (tL 2),.hole (tL 2),.arr 1,.hole tLI],.arr tI] [.box [.hole (tL 2),.hole (tL 2),.arr 2,.hole tLI],.gone,.arr tI]
def vX :=lE 0 [(1,hh (tL 5)),(2,.c (.fn 272 [])),(15,hh (tL 5)),(16,hh tI),(17,hh tI)] [] [oR 6 .bool,oX 0]
def yl :=fE 317 [hh (tL 5),hh (tL 5),.c (.fn 272 [])] (hh .bool) [vX]
def e272 :=fE 272 [.row 5,.row 5] (hh .bool)
def e236 :=fE 236 [.row 4,.row 5] (hh .bool)
def ym :=lE 0 [(0,hh (.int .u64)),(3,hP 0 0),(4,hh tI)] [.arr (.int .u8)] [oE (.exit 0) [(0,hh (.int .u64)),(3,hP 0 0),(4,hh tI)] [.arr (.int .u8)]]
def e231 :=fE 231 [hh (.int .u64)] (hh .str) [ym]
def e161 :=fE 161 [hh .str] (hh .str)
def e228 :=fE 228 [hh tI,hh .bool,hh .str] (hh .str)
def e293 :=fE 293 [hh tI,hh .bool,hh .str] (.tup [hh .str,hh tI])
def e294 :=fE 294 [hh .str] (hh .str)
def e155 :=fE 155 [.row 8,hh tI] (hh tI)
def e156 :=fE 156 [.row 8,hh tI,.row 5] (hh .bool)
def e102 :=fE 102 [.row 8,hh tI,.row 5] (hh tI)
def yn :=lE 0 [(0,hh (.int .u64)),(3,hP 0 0),(4,hh tI)] [.arr (.int .u8)] [oE (.exit 0) [(3,hP 0 0),(4,hh tI)] [.arr (.int .u8)]]
def e157 :=fE 157 [hh (.int .u64)] (hh .str) [yn]
def e227 :=fE 227 [.row 4,.row 5] (hh .bool)
def e69 :=fE 69 [hP 0 0,hh .str] (.tup [hh tI,.c (.dead)]) [] [.bld 116 ((.bufc 1)),.buf 5] [.bld 116 ((.bufc 2)),.gone,.buf 5]
def e71 :=fE 71 [hP 0 0] (hh .str) [] [.bld 116 ((.bufc 1)),.buf 5] [.bld 116 ((.bufc 1)),.gone]
def yo :=lE 0 [(0,hP 0 0),(3,hh tI),(6,hP 1 0),(9,.c (.arr 2)),(18,hh (tL 4)),(19,hh tI),(20,hh tI)] [.box [.hole (tL 2),.hole tI],.brow 5,.arr (.nm 10)] [oE (.exit 0) [(6,hP 1 0),(9,.c (.arr 2))] [.box [.hole (tL 2),.hole tI],.brow 5,.arr (.nm 10)]] [] [(.slot 9,.nm 10)]
def yp :=lE 1 [(9,.c (.arr 1)),(57,hh (tL 6)),(58,hh tI),(59,hh tI)] [.box [.hole (tL 2),.hole tI],.arr (.nm 10)] [oE (.exit 2) [(9,.c (.arr 1))] [.box [.hole (tL 2),.hole tI],.arr (.nm 10)]]
def yr :=lE 2 [(14,hP 1 0),(77,.c (.arr 2)),(78,hh tI),(79,hh tI)] [.box [.hole (tL 2),.hole tI],.bld 116 ((.bufc 3)),.arr (.nm 10),.buf 5] [oE (.exit 4) [(14,hP 1 0)] [.box [.hole (tL 2),.hole tI],.bld 116 ((.bufc 2)),.buf 5]]
def e159 :=fE 159 [hP 0 0,.row 2,.row 5,hh tI] (hh .str) [yo,yp,yr] [.box [.hole (tL 2),.hole tI]] [.box [.hole (tL 2),.hole tI]]
def e160 :=fE 160 [hP 0 0,.row 2,.row 5,hh tI] (hh .str) [] [.box [.hole (tL 2),.hole tI]] [.box [.hole (tL 2),.hole tI]]
def yu :=lE 0 [(0,hP 0 0),(3,hh tI),(6,hP 1 0),(9,hP 2 0),(10,hP 3 0),(84,hh (tL 5)),(85,hh tI),(86,hh tI)] [.box [.hole (tL 2),.hole tI],.brow 5,.brow 2,.bld 116 ((.bufc 4)),.buf 5] [oE (.exit 1) [(10,hP 1 0)] [.box [.hole (tL 2),.hole tI],.bld 116 ((.bufc 2)),.buf 5]]
def e103 :=fE 103 [hP 0 0,hh tI,.row 5,hh tI] (hh .str) [yu] [.box [.hole (tL 2),.hole tI]] [.box [.hole (tL 2),.hole tI]]
def e55 :=fE 55 [.row 8,hh tI,.row 5] (.tup [hh .str,hh tI])
def yw :=lE 0 [(3,hP 0 0),(5,hP 1 0),(8,hh .str),(36,hh (tL 4)),(37,hh tI),(38,hh tI)] [bb (tL 2),.brow 5] [oE (.exit 1) [(8,hh .str)]]
def yx :=lE 1 [(3,hP 0 0),(7,hP 1 0),(8,hh .str),(101,hh (tL 5)),(102,hh tI),(103,hh tI)] [bb (tL 2),.brow 2] [oE (.exit 3) [(8,hh .str)]]
def yy :=lE 2 [(3,hP 0 0),(5,hP 1 0),(7,hP 2 0),(8,hh .str),(118,hh (tL 5)),(119,hh tI),(120,hh tI)] [bb (tL 2),.brow 5,.brow 2] [oE (.exit 5) [(8,hh .str)]]
def e237 :=fE 237 [.row 8,hh tI,.row 5] (hh .str) [yw,yx,yy]
def yz :=lE 0 [(0,hP 0 0),(5,hP 2 0),(6,hP 3 0),(7,hP 4 0),(8,hP 5 0),(10,hP 6 0),(25,hh (tL 4)),(26,hh tI),(27,hh tI)] [.box [.hole (tL 2),.hole (tL 2),.arr 7,.hole tLI],.gone,.brow 2,.brow 5,.brow 2,.box [.hole tI,.hole .bool,.hole tI,.hole .str,.hole tI,.cap0,.cap0,.cap0],.box [.hole tI,.hole .bool,.hole tI,.hole .str,.hole tI,.cap0,.arr 8,.cap0],.arr tI,.arr (.nm 5)] [oE .ret [(8,hP 2 0),(9,hh .bool)] [.box [.hole (tL 2),.hole (tL 2),.arr 3,.hole tLI],.gone,.brow 5,.arr tI],oE (.exit 0) [(0,hP 0 0),(5,hP 2 0),(6,hP 3 0),(7,hP 4 0),(8,hP 5 0),(10,hP 6 0)] [.box [.hole (tL 2),.hole (tL 2),.arr 7,.hole tLI],.gone,.brow 2,.brow 5,.brow 2,.box [.hole tI,.hole .bool,.hole tI,.hole .str,.hole tI,.cap0,.cap0,.cap0],.box [.hole tI,.hole .bool,.hole tI,.hole .str,.hole tI,.cap0,.arr 8,.cap0],.arr tI,.arr (.nm 5)]] [] [(.via 10 6,.nm 5)]
def yA :=lE 1 [(0,hP 0 0),(6,hP 2 0),(7,hP 3 0),(8,hP 4 0),(10,hP 5 0),(115,hh (tL 4)),(116,hh tI),(117,hh tI)] [.box [.hole (tL 2),.hole (tL 2),.arr 6,.hole tLI],.gone,.brow 5,.brow 2,.box [.hole tI,.hole .bool,.hole tI,.hole .str,.hole tI,.cap0,.cap0,.cap0],.box [.hole tI,.hole .bool,.hole tI,.hole .str,.hole tI,.cap0,.arr 7,.arr 8],.arr tI,.arr (.nm 5),.arr (.nm 6)] [oE .ret [(8,hP 2 0),(9,hh .bool)] [.box [.hole (tL 2),.hole (tL 2),.arr 3,.arr 4],.gone,.brow 5,.arr tI,.arr tI],oE (.exit 2) [(8,hP 2 0),(10,hP 3 0)] [.box [.hole (tL 2),.hole (tL 2),.arr 4,.hole tLI],.gone,.box [.hole tI,.hole .bool,.hole tI,.hole .str,.hole tI,.cap0,.cap0,.cap0],.box [.hole tI,.hole .bool,.hole tI,.hole .str,.hole tI,.cap0,.arr 5,.arr 6],.arr tI,.arr (.nm 5),.arr (.nm 6)]] [] [(.via 10 7,.nm 6)]
def e164 :=fE 164 [hP 0 0,.row 2,.row 5,.row 2] (.tup [.row 5,hh .bool]) [yz,yA] [.box [.hole (tL 2),.hole (tL 2),.arr 1,.hole tLI],.arr tI] [.box [.hole (tL 2),.hole (tL 2),.arr 2,.hole tLI],.gone,.arr tI]
def e165 :=fE 165 [hP 0 0,.row 2,.row 5,.row 2] (.tup [.row 5,hh .bool]) [] [.box [.hole (tL 2),.hole (tL 2),.arr 1,.hole tLI],.arr tI] [.box [.hole (tL 2),.hole (tL 2),.arr 2,.hole tLI],.gone,.arr tI]
def yB :=lE 0 [(0,hP 0 0),(1,hh tI),(3,hh tI),(10,.c (.arr 2)),(15,hh (tL 5)),(16,hh tI),(17,hh tI)] [.box [.hole (tL 2),.hole (tL 2),.arr 3,.hole tLI],.gone,.arr (.nm 5),.arr tI] [oE .ret [(8,.c (.cap0)),(9,hh .bool)] [.box [.hole (tL 2),.hole (tL 2),.arr 2,.hole tLI],.gone,.arr tI],oE (.exit 0) [(10,.c (.arr 2))] [.box [.hole (tL 2),.hole (tL 2),.arr 3,.hole tLI],.gone,.arr (.nm 5),.arr tI]] [] [(.slot 10,.nm 5)]
def e166 :=fE 166 [hP 0 0,hh tI,hh (tL 5),hh tI] (.tup [hh (tL 5),hh .bool]) [yB] [.box [.hole (tL 2),.hole (tL 2),.arr 1,.hole tLI],.arr tI] [.box [.hole (tL 2),.hole (tL 2),.arr 2,.hole tLI],.gone,.arr tI]
def e105 :=fE 105 [hP 0 0,hh tI,.row 5,hh tI] (.tup [.row 5,hh .bool]) [] [.box [.hole (tL 2),.hole (tL 2),.arr 1,.hole tLI],.arr tI] [.box [.hole (tL 2),.hole (tL 2),.arr 2,.hole tLI],.gone,.arr tI]
def e56 :=fE 56 [.row 8,hh tI,.row 5,.row 8,hh tI] (.tup [.row 5,hh tI])
def yC :=lE 0 [(4,hP 0 0),(5,hP 1 0),(6,hP 2 0),(7,hP 3 0),(21,hh (tL 4)),(22,hh tI),(23,hh tI)] [bb (tL 2),.brow 2,bb (tL 2),.brow 2] [oR 8 tI,oE (.exit 0) [(5,hP 0 0),(7,hP 1 0)] [.brow 2,.brow 2]]
def yD :=lE 1 [(7,hP 0 0),(73,hh (tL 4)),(74,hh tI),(75,hh tI)] [.brow 2] [oR 8 tI,oX 2]
def e202 :=fE 202 [.row 8,.row 2,.row 8,.row 2] (hh tI) [yC,yD]
def e143 :=fE 143 [.row 8,hh tI,.row 8,hh tI] (hh tI)
def e91 :=fE 91 [.row 8,hh tI,.row 8,hh tI] (.tup [hh tI,hh tI])
def e41 :=fE 41 [.row 9,.row 1] (hh .bool)
def wM :=lE 0 [(0,.c (.arr 0)),(3,hP 1 0),(7,hh tI),(8,hh tI)] [.arr (.nm 1),.brow 1] [oE .ret [(4,hh tI)] [.arr (.nm 1)],oE (.exit 0) [] [.arr (.nm 1)]]
def e90_b :=fE 90 [.c (.arr 0),.row 1] (hh tI) [wM] [.arr (.nm 1)] [.arr (.nm 1)]
def e38_b :=fE 38 [.c (.arr 0),.row 1] (hh .bool) [] [.arr (.nm 1)] [.arr (.nm 1)]
def e203 :=fE 203 [hh tI,hh tI,hP 0 0] (.tup []) [] [.box [.arr 1],.arr (.nm 1)] [.box [.arr 2],.gone,.arr (.nm 1)]
def yE :=lE 0 [(9,hP 0 0),(10,hP 1 0),(11,hP 2 0),(12,.c (.fn 203 [2])),(35,hh (tL 4)),(36,hh tI),(37,hh tI)] [.brow 2,.brow 2,.box [.arr 3],.arr (.nm 1)] [oE (.exit 0) [(9,hP 0 0),(10,hP 1 0),(11,hP 2 0),(12,.c (.fn 203 [2]))] [.brow 2,.brow 2,.box [.arr 3],.arr (.nm 1)]] [] [(.via 11 0,.nm 1)]
def e144 :=fE 144 [.row 8,hh tI,.row 8,hh tI] (hh (tL 1)) [yE]
def e93 :=fE 93 [.row 8,hh tI,.row 8,hh tI] (.tup [hh (tL 1),hh tI])
def e43 :=fE 43 [.row 9,.row 1] (hh (tL 1))
def e13 :=fE 13 [.row 7,.row 7,hh (tL 1)] (hh .bool)
def e208 :=fE 208 [hP 0 0,hh tI] (.tup [.row 5,hh .bool]) [] [.box [.hole (tL 2),.arr 1,.hole tLI,.hole tI],.arr tI] [.box [.hole (tL 2),.arr 2,.arr 3,.hole tI],.gone,.arr tI,.arr tI]
def yF :=lE 0 [(0,hh .str),(4,hh (.int .u64)),(17,hh tI),(18,hh tI)] [] [oE (.exit 0) [(4,hh (.int .u64))]]
def e209 :=fE 209 [hh .str] (.tup [hh (.int .u64),hh tI]) [yF]
def e210 :=fE 210 [hh (.int .u64)] (hh tI)
def e211 :=fE 211 [hP 0 0,hh tI,hh tI,hh .str] (.tup [.row 5,hh .bool]) [] [.box [.hole (tL 2),.arr 1,.hole tLI,.hole tI],.arr tI] [.box [.hole (tL 2),.arr 2,.hole tLI,.hole tI],.gone,.arr tI]
def yG :=lE 0 [(0,hh .str),(5,hh (.int .u64)),(10,hh tI),(11,hh tI)] [] [oE .ret [(2,hh (.int .u64)),(3,hh tI),(4,hh tI)],oX 0]
def e346 :=fE 346 [hh .str] (.tup [hh (.int .u64),hh tI,hh tI]) [yG]
def e328 :=fE 328 [hh .str] (.tup [hh (.int .u64),hh .str,hh .bool])
def e279 :=fE 279 [hh .str] (.tup [hh tI,hh .str,hh tI])
def e212 :=fE 212 [hP 0 0,.row 2,hh .str] (.tup [.row 5,hh .bool]) [] [.box [.hole (tL 2),.arr 1,.hole tLI,.hole tI],.arr tI] [.box [.hole (tL 2),.arr 2,.hole tLI,.hole tI],.gone,.arr tI]
def e329 :=fE 329 [hh .str] (.tup [hh .str,hh .str,hh .bool])
def yH :=lE 0 [(4,.c (.arr 0)),(5,hh .str)] [.arr .str] [oE .ret [(2,.c (.cap0)),(3,hh tI)],oE (.exit 0) [(4,.c (.arr 0))] [.arr .str]] [] [(.slot 4,.str)]
def e280 :=fE 280 [hh .str] (.tup [hh tLS,hh tI]) [yH]
def yI :=lE 0 [(0,hP 0 0),(4,hP 2 0),(6,hP 3 0),(10,hP 4 0),(38,hh tLS),(39,hh tI),(40,hh tI)] [.box [.hole (tL 2),.arr 5,.hole tLI,.hole tI],.gone,.brow 2,.box [.hole tI,.hole .bool,.hole tI,.hole .str,.hole tI,.cap0,.cap0,.cap0],.box [.hole tI,.hole .bool,.hole tI,.hole .str,.hole tI,.cap0,.arr 6,.cap0],.arr tI,.arr (.nm 5)] [oE .ret [(6,hP 2 0),(7,hh .bool)] [.box [.hole (tL 2),.arr 3,.hole tLI,.hole tI],.gone,.brow 5,.arr tI],oE (.exit 0) [(6,hP 2 0),(10,hP 3 0)] [.box [.hole (tL 2),.arr 4,.hole tLI,.hole tI],.gone,.box [.hole tI,.hole .bool,.hole tI,.hole .str,.hole tI,.cap0,.cap0,.cap0],.box [.hole tI,.hole .bool,.hole tI,.hole .str,.hole tI,.cap0,.arr 5,.cap0],.arr tI,.arr (.nm 5)]] [] [(.via 10 6,.nm 5)]
def e213 :=fE 213 [hP 0 0,.row 2,hh .str] (.tup [.row 5,hh .bool]) [yI] [.box [.hole (tL 2),.arr 1,.hole tLI,.hole tI],.arr tI] [.box [.hole (tL 2),.arr 2,.hole tLI,.hole tI],.gone,.arr tI]
def yK :=lE 0 [(0,hP 0 0),(4,hP 2 0),(6,hP 3 0),(8,hh tLS),(10,hP 4 0),(11,hh tI)] [.box [.hole (tL 2),.arr 5,.hole tLI,.hole tI],.gone,.brow 2,.box [.hole tI,.hole .bool,.hole tI,.hole .str,.hole tI,.cap0,.cap0,.cap0],.box [.hole tI,.hole .bool,.hole tI,.hole .str,.hole tI,.arr 6,.cap0,.cap0],.arr tI,.arr (.nm 5)] [oE .ret [(6,hP 2 0),(7,hh .bool)] [.box [.hole (tL 2),.arr 3,.hole tLI,.hole tI],.gone,.brow 5,.arr tI],oE (.exit 0) [(0,hP 0 0),(4,hP 2 0),(6,hP 3 0),(8,hh tLS),(10,hP 4 0)] [.box [.hole (tL 2),.arr 5,.hole tLI,.hole tI],.gone,.brow 2,.box [.hole tI,.hole .bool,.hole tI,.hole .str,.hole tI,.cap0,.cap0,.cap0],.box [.hole tI,.hole .bool,.hole tI,.hole .str,.hole tI,.arr 6,.cap0,.cap0],.arr tI,.arr (.nm 5)]] [] [(.via 10 5,.nm 5)]
def yL :=lE 1 [(0,hP 0 0),(4,hP 2 0),(6,hP 3 0),(8,hh tLS),(10,hP 4 0),(14,hh tI)] [.box [.hole (tL 2),.arr 5,.hole tLI,.hole tI],.gone,.brow 2,.box [.hole tI,.hole .bool,.hole tI,.hole .str,.hole tI,.cap0,.cap0,.cap0],.box [.hole tI,.hole .bool,.hole tI,.hole .str,.hole tI,.arr 6,.cap0,.cap0],.arr tI,.arr (.nm 5)] [oE .ret [(6,hP 2 0),(7,hh .bool)] [.box [.hole (tL 2),.arr 3,.arr 4,.hole tI],.gone,.brow 5,.arr tI,.arr tI],oE (.exit 2) [(0,hP 0 0),(4,hP 2 0),(6,hP 3 0),(8,hh tLS),(10,hP 4 0)] [.box [.hole (tL 2),.arr 5,.hole tLI,.hole tI],.gone,.brow 2,.box [.hole tI,.hole .bool,.hole tI,.hole .str,.hole tI,.cap0,.cap0,.cap0],.box [.hole tI,.hole .bool,.hole tI,.hole .str,.hole tI,.arr 6,.cap0,.cap0],.arr tI,.arr (.nm 5)]]
def yM :=lE 2 [(0,hP 0 0),(4,hP 2 0),(6,hP 3 0),(8,hh tLS),(10,hP 4 0),(15,hh tI)] [.box [.hole (tL 2),.arr 5,.hole tLI,.hole tI],.gone,.brow 2,.box [.hole tI,.hole .bool,.hole tI,.hole .str,.hole tI,.cap0,.cap0,.cap0],.box [.hole tI,.hole .bool,.hole tI,.hole .str,.hole tI,.arr 6,.arr 7,.cap0],.arr tI,.arr (.nm 5),.arr (.nm 5)] [oE .ret [(6,hP 2 0),(7,hh .bool)] [.box [.hole (tL 2),.arr 3,.hole tLI,.hole tI],.gone,.brow 5,.arr tI],oE (.exit 4) [(6,hP 2 0),(10,hP 3 0)] [.box [.hole (tL 2),.arr 4,.hole tLI,.hole tI],.gone,.box [.hole tI,.hole .bool,.hole tI,.hole .str,.hole tI,.cap0,.cap0,.cap0],.box [.hole tI,.hole .bool,.hole tI,.hole .str,.hole tI,.arr 5,.arr 6,.cap0],.arr tI,.arr (.nm 5),.arr (.nm 5)]] [] [(.via 10 6,.nm 5)]
def e214 :=fE 214 [hP 0 0,.row 2,hh .str] (.tup [.row 5,hh .bool]) [yK,yL,yM] [.box [.hole (tL 2),.arr 1,.hole tLI,.hole tI],.arr tI] [.box [.hole (tL 2),.arr 2,.hole tLI,.hole tI],.gone,.arr tI]
def yN :=lE 0 [(4,.c (.arr 0)),(5,hh (.int .u64)),(6,hh .str)] [.arr (.nm 11)] [oE .ret [(2,.c (.cap0)),(3,hh tI)],oE (.exit 0) [(4,.c (.arr 0))] [.arr (.nm 11)]] [] [(.slot 4,.nm 11)]
def e281 :=fE 281 [hh .str] (.tup [hh (tL 11),hh tI]) [yN]
def e283 :=fE 283 [.row 11,hP 0 0] (hh .bool) [] [.brow 4] [.brow 4]
def yO :=lE 0 [(0,hh (tL 11)),(1,.c (.fn 283 [0])),(7,hh tI),(8,hh tI)] [.brow 4] [oE .ret [(4,hh tI)] [.brow 4],oE (.exit 0) [] [.brow 4]]
def e282 :=fE 282 [hh (tL 11),.c (.fn 283 [0])] (hh tI) [yO] [.brow 4] [.brow 4]
def yP :=lE 0 [(1,hP 0 0),(2,hP 1 0),(20,.c (.arr 2)),(21,hh tI),(22,hh tI)] [.box [.hole tI,.hole .bool,.hole tI,.hole .str,.hole tI,.arr 2,.arr 3,.arr 4],.box [.hole tI,.hole .bool,.hole tI,.hole .str,.hole tI,.cap0,.cap0,.cap0],.arr (.nm 5),.arr (.nm 5),.arr (.nm 6)] [oE (.exit 0) [(1,hP 0 0),(2,hP 1 0)] [.box [.hole tI,.hole .bool,.hole tI,.hole .str,.hole tI,.arr 2,.arr 3,.arr 4],.box [.hole tI,.hole .bool,.hole tI,.hole .str,.hole tI,.cap0,.cap0,.cap0],.arr (.nm 5),.arr (.nm 5),.arr (.nm 6)]]
def yQ :=lE 1 [(1,hP 0 0),(2,hP 1 0),(35,.c (.arr 2)),(36,hh tI),(37,hh tI)] [.box [.hole tI,.hole .bool,.hole tI,.hole .str,.hole tI,.arr 3,.arr 2,.arr 4],.box [.hole tI,.hole .bool,.hole tI,.hole .str,.hole tI,.cap0,.cap0,.cap0],.arr (.nm 5),.arr (.nm 5),.arr (.nm 6)] [oE (.exit 2) [(1,hP 0 0),(2,hP 1 0)] [.box [.hole tI,.hole .bool,.hole tI,.hole .str,.hole tI,.arr 2,.arr 3,.arr 4],.box [.hole tI,.hole .bool,.hole tI,.hole .str,.hole tI,.cap0,.cap0,.cap0],.arr (.nm 5),.arr (.nm 5),.arr (.nm 6)]]
def e284 :=fE 284 [.row 5] (.row 5) [yP,yQ]
def yR :=lE 0 [(0,hP 0 0),(4,hP 2 0),(6,hP 3 0),(8,hh (tL 11)),(10,hP 4 0),(39,hh (tL 4)),(40,hh tI),(41,hh tI)] [.box [.hole (tL 2),.arr 5,.hole tLI,.hole tI],.gone,.brow 2,.box [.hole tI,.hole .bool,.hole tI,.hole .str,.hole tI,.cap0,.cap0,.cap0],.box [.hole tI,.hole .bool,.hole tI,.hole .str,.hole tI,.cap0,.arr 6,.cap0],.arr tI,.arr (.nm 5)] [oE .ret [(6,hP 2 0),(7,hh .bool)] [.box [.hole (tL 2),.arr 3,.hole tLI,.hole tI],.gone,.brow 5,.arr tI],oE (.exit 0) [(0,hP 0 0),(4,hP 2 0),(6,hP 3 0),(8,hh (tL 11)),(10,hP 4 0)] [.box [.hole (tL 2),.arr 5,.hole tLI,.hole tI],.gone,.brow 2,.box [.hole tI,.hole .bool,.hole tI,.hole .str,.hole tI,.cap0,.cap0,.cap0],.box [.hole tI,.hole .bool,.hole tI,.hole .str,.hole tI,.cap0,.arr 6,.cap0],.arr tI,.arr (.nm 5)]] [] [(.via 10 6,.nm 5)]
def yS :=lE 1 [(0,hP 0 0),(4,hP 2 0),(6,hP 3 0),(10,hP 4 0),(117,hh (tL 11)),(118,hh tI),(119,hh tI)] [.box [.hole (tL 2),.arr 5,.hole tLI,.hole tI],.gone,.brow 2,.box [.hole tI,.hole .bool,.hole tI,.hole .str,.hole tI,.cap0,.cap0,.cap0],.box [.hole tI,.hole .bool,.hole tI,.hole .str,.hole tI,.cap0,.arr 6,.arr 7],.arr tI,.arr (.nm 5),.arr (.nm 6)] [oE .ret [(6,hP 2 0),(7,hh .bool)] [.box [.hole (tL 2),.arr 3,.arr 4,.hole tI],.gone,.brow 5,.arr tI,.arr tI],oE (.exit 3) [(6,hP 2 0),(10,hP 3 0)] [.box [.hole (tL 2),.arr 4,.hole tLI,.hole tI],.gone,.box [.hole tI,.hole .bool,.hole tI,.hole .str,.hole tI,.cap0,.cap0,.cap0],.box [.hole tI,.hole .bool,.hole tI,.hole .str,.hole tI,.cap0,.arr 5,.arr 6],.arr tI,.arr (.nm 5),.arr (.nm 6)]] [] [(.via 10 7,.nm 6)]
def e215 :=fE 215 [hP 0 0,.row 2,hh .str] (.tup [.row 5,hh .bool]) [yR,yS] [.box [.hole (tL 2),.arr 1,.hole tLI,.hole tI],.arr tI] [.box [.hole (tL 2),.arr 2,.hole tLI,.hole tI],.gone,.arr tI]
def e148 :=fE 148 [hP 0 0,hh tI,hh .str] (.tup [.row 5,hh .bool]) [] [.box [.hole (tL 2),.arr 1,.hole tLI,.hole tI],.arr tI] [.box [.hole (tL 2),.arr 2,.hole tLI,.hole tI],.gone,.arr tI]
def e100 :=fE 100 [.row 8,hh tI,hh .str] (.tup [.row 5,.row 12,hh tI])
def e53 :=fE 53 [.row 8,hh tI,hh .str] (.tup [.row 5,hh tI])
def e22 :=fE 22 [.row 7,.row 7,hh .str] (hh .bool)
def e20_0 :=lE 0 [(2,hh (tL 1)),(7,hP 0 0),(8,hh tI)] [.box [.hole (tL 2),.hole tI,.hole (tL 2),.hole tI]] [oR 6 .bool,oE (.exit 0) [(2,hh (tL 1)),(7,hP 0 0)] [.box [.hole (tL 2),.hole tI,.hole (tL 2),.hole tI]]]
def e20 :=fE 20 [.row 7,.row 7,hh (tL 1)] (hh .bool) [e20_0]
def e99 :=fE 99 [.row 1] (hh .bool)
def e92_0 :=lE 0 [(0,hh (tL 1)),(1,.c (.fn 99 [])),(7,hh tI),(8,hh tI)] [] [oR 4 tI,oX 0]
def e92 :=fE 92 [hh (tL 1),.c (.fn 99 [])] (hh tI) [e92_0]
def e42 :=fE 42 [hh (tL 1),.c (.fn 99 [])] (hh .bool)
def e52 :=fE 52 [.row 0] (hh .bool)
def e18 :=fE 18 [.row 7,.row 7,.row 0] (hh .bool)
def e127 :=fE 127 [hP 0 0,hh (.int .u8)] (.c (.dead)) [] [.bld 116 ((.bufc 1)),.buf 5] [.bld 116 ((.bufc 2)),.gone,.buf 5]
def e68_0 :=lE 0 [(0,hh .str),(3,hP 0 0),(8,hh tI),(9,hh tI)] [.bld 116 ((.bufc 1)),.buf 5] [oE (.exit 0) [(3,hP 0 0)] [.bld 116 ((.bufc 1)),.buf 5]]
def e68 :=fE 68 [hh .str] (hh .str) [e68_0]
def e29_0 :=lE 0 [(3,hP 0 0),(21,hh (tL 1)),(22,hh tI),(23,hh tI)] [.bld 116 ((.bufc 1)),.buf 5] [oE (.exit 1) [(3,hP 0 0)] [.bld 116 ((.bufc 1)),.buf 5]]
def e29 :=fE 29 [.row 0] (hh .str) [e29_0]
def e12 :=fE 12 [] (hh .bool)
def e67_0 :=lE 0 [(1,hP 0 0),(3,hh tI)] [.brow 0] [oR 2 .bool,oE (.exit 0) [(1,hP 0 0)] [.brow 0]]
def e67 :=fE 67 [.row 0] (hh .bool) [e67_0]
def e130 :=fE 130 [hh (.int .u8)] (hh .str)
def e72_0 :=lE 0 [(0,hh .str),(3,hh .str),(4,hh tI)] [] [oE (.exit 0) [(3,hh .str)]]
def e72 :=fE 72 [hh .str] (hh .str) [e72_0]
def e73 :=fE 73 [hh tI] (hh .str)
def e30_0 :=lE 0 [(1,hP 0 0),(3,hh .str),(4,hh tI)] [.brow 0] [oE (.exit 0) [(3,hh .str)]]
def e30 :=fE 30 [.row 0] (hh .str) [e30_0]
def e187 :=fE 187 [hh .str,hh .str] (hh .bool)
def e131 :=fE 131 [hh .str,hh .str] (.tup [hh .str,hh .bool])
def e74 :=fE 74 [hh .str,hh .str] (.tup [hh .str,hh .bool])
def e188 :=fE 188 [hh .str,hh .str] (hh .bool)
def e132 :=fE 132 [hh .str,hh .str] (.tup [hh .str,hh .bool])
def e75 :=fE 75 [hh .str,hh .str] (.tup [hh .str,hh .bool])
def e263 :=fE 263 [hh .str,hh (.int .u8)] (hh tI)
def e189 :=fE 189 [hh .str] (.tup [hh (.int .u8),hh tI,hh .bool])
def pW :=lE 0 [(0,hh .str),(5,.c (.arr 0)),(6,hh tI)] [.arr (.int .u8)] [oE .ret [(2,hh .str),(3,hh tI),(4,hh .bool)],oX 0] [] [(.slot 5,.int .u8)]
def e133 :=fE 133 [hh .str] (.tup [hh .str,hh tI,hh .bool]) [pW]
def e76 :=fE 76 [hh .str] (.tup [hh .str,hh tI])
def e192 :=fE 192 [hh .str,hh .str] (hh tI)
def pX :=lE 0 [(0,hh .str),(1,hh .str),(2,hh tI),(3,hh tI),(9,.c (.arr 0)),(10,hh tI)] [.arr .str] [oE (.exit 0) [(0,hh .str),(9,.c (.arr 0)),(10,hh tI)] [.arr .str]]
def e134 :=fE 134 [hh .str,hh .str,hh tI,hh tI] (hh tLS) [pX]
def e77 :=fE 77 [hh .str,hh .str] (hh tLS)
def e193 :=fE 193 [hh .str,hh .str] (.tup [hh .str,hh .str,hh .bool])
def e135 :=fE 135 [hh .str,hh .str] (.tup [hh .str,hh .str,hh .bool])
def e78_0 :=lE 0 [(4,.c (.arr 0)),(14,hh tLS),(15,hh tI),(16,hh tI)] [.arr (.nm 1)] [oE .ret [(2,.c (.cap0)),(3,hh .bool)],oE (.exit 0) [(4,.c (.arr 0))] [.arr (.nm 1)]] [] [(.slot 4,.nm 1)]
def e78 :=fE 78 [hh tLS] (.tup [hh (tL 1),hh .bool]) [e78_0]
def e31 :=fE 31 [hh .str] (.tup [.row 0,hh tI])
def e79_0 :=lE 0 [(0,hh (tL 1)),(1,hh (tL 1)),(5,hh tI)] [] [oR 4 .bool,oX 0]
def e79 :=fE 79 [hh (tL 1),hh (tL 1)] (hh .bool) [e79_0]
def e32 :=fE 32 [.row 0,.row 0] (hh .bool)
def pY :=lE 0 [(0,hh .str),(3,hh tI)] [] [oR 2 tI,oX 0]
def e195 :=fE 195 [hh .str] (hh tI) [pY]
def pZ :=lE 0 [(0,hh .str),(2,hP 0 0),(3,.c (.arr 1)),(4,hh tI)] [.box [.hole .str,.hole tI],.arr (.int .u8)] [oE .ret [(2,hP 0 0)] [.box [.hole .str,.hole tI]],oE (.exit 0) [(0,hh .str),(2,hP 0 0),(3,.c (.arr 1)),(4,hh tI)] [.box [.hole .str,.hole tI],.arr (.int .u8)]] [] [(.slot 3,.int .u8)]
def e137 :=fE 137 [hh .str] (.row 13) [pZ]
def e80 :=fE 80 [hh .str] (.tup [hh .str,hh tI])
def e81_0 :=lE 0 [(0,hh .str),(4,hh tI),(5,hh tI)] [] [oE .ret [(2,hh tI),(3,hh tI)],oE (.exit 0) [(4,hh tI),(5,hh tI)]]
def e81 :=fE 81 [hh .str] (.tup [hh tI,hh tI]) [e81_0]
def e33_0 :=lE 0 [(0,hh .str),(2,hP 0 0),(4,hP 1 0),(7,hh .str)] [.box [.hole .bool,.cap0,.hole .str],.box [.hole .bool,.arr 2,.hole .str],.arr (.nm 1)] [oE .ret [(2,hP 0 0),(3,hh tI)] [.box [.hole .bool,.cap0,.hole .str]],oE (.exit 0) [(0,hh .str),(2,hP 0 0),(4,hP 1 0)] [.box [.hole .bool,.cap0,.hole .str],.box [.hole .bool,.arr 2,.hole .str],.arr (.nm 1)]] [] [(.via 4 1,.nm 1)]
def e33 :=fE 33 [hh .str] (.tup [.row 0,hh tI]) [e33_0]
def e10 :=fE 10 [hh .str] (hh .bool)
def tabE0 :List FEnt:=[e90_b,e38_b,e36,e324,e316,xO,e327,e326,e325,e278,e320,e321,e275,e322,e276,e323,e277,e206,e207,e147]
def tabE1 :List FEnt:=[e216,e149,e218,e217,e150,e151,e220,e219,e152,e222,e285,e221,e153,e158,e286,e223,e287,e225,e288,e226]
def tabE2 :List FEnt:=[e224,e154,e101,e54,e270,e197,e271,e198,e141,e89,e37,e90_a,e38_a,e39,e40,e199,e142,e200,e201,e162]
def tabE3 :List FEnt:=[e104,e163,e233,e234,e235,yl,e272,e236,e231,e161,e228,e293,e294,e155,e156,e102,e157,e227,e69,e71]
def tabE4 :List FEnt:=[e159,e160,e103,e55,e237,e164,e165,e166,e105,e56,e202,e143,e91,e41,e203,e144,e93,e43,e208,e209]
def tabE5 :List FEnt:=[e210,e211,e346,e328,e279,e212,e329,e280,e213,e214,e281,e283,e282,e284,e215,e148,e100,e53,e22,e20]
def tabE6 :List FEnt:=[e99,e92,e42,e52,e18,e127,e68,e29,e12]
def tabE :List FEnt:=tabE0++tabE1++tabE2++tabE3++tabE4++tabE5++tabE6
theorem cD :tabE.all (okE prog)=true:=by kernel_rfl
def bM :FSpec Un:={jc with F:=sortK (α:=Un.D 10) sortLt}
theorem cb :FnC prog bM:=⟨lK.1,fun h r hr=>lK.2 h r (vL sortSWO _ r hr)⟩
noncomputable def dX:FSpec Un:=e13.s (relF (evF prog tabE [bA,bB,bC,bM,bD,bF] 3000 e37) (evF prog tabE [bA,bB,bC,bM,bD,bF] 3000 e38_a) (evF prog tabE [bA,bB,bC,bM,bD,bF] 3000 e39) (evF prog tabE [bA,bB,bC,bM,bD,bF] 3000 e40) (evF prog tabE [bA,bB,bC,bM,bD,bF] 3000 e41) (evF prog tabE [bA,bB,bC,bM,bD,bF] 3000 e43))
theorem fc :FnC prog dX:=xL (.run cD (.k bY (.k bZ (.k b7 (.k cb (.k ca (.k cn .n)))))) (.m (by kernel_rfl)) 3000 fun _=>rfl) (.run cD (.k bY (.k bZ (.k b7 (.k cb (.k ca (.k cn .n)))))) (.m (by kernel_rfl)) 3000 fun _=>rfl) (.run cD (.k bY (.k bZ (.k b7 (.k cb (.k ca (.k cn .n)))))) (.m (by kernel_rfl)) 3000 fun _=>rfl) (.run cD (.k bY (.k bZ (.k b7 (.k cb (.k ca (.k cn .n)))))) (.m (by kernel_rfl)) 3000 fun _=>rfl) (.run cD (.k bY (.k bZ (.k b7 (.k cb (.k ca (.k cn .n)))))) (.m (by kernel_rfl)) 3000 fun _=>rfl) (.run cD (.k bY (.k bZ (.k b7 (.k cb (.k ca (.k cn .n)))))) (.m (by kernel_rfl)) 3000 fun _=>rfl)
def gy(high:Int):Option (aB):=
 some (⟨(⟨[(⟨7,[],0,0,2,[],[],0,1,false⟩:di),(⟨2,[],0,high,0,[],[],0,0,false⟩:di)]⟩:cw),0⟩:aB)
theorem qD :FC e36 gy:= .fx
noncomputable def dq:aB×aB×List af->Option (Bool):=dX.F
theorem qw :FC e13 dq:=fc
noncomputable def fg:aB×aB×List UInt8->Option (Bool):=evF prog tabE [dX,bA,bB,bC,bM,bD,bF] 3000 e22
theorem qE :FC e22 fg:= .run cD (.k fc (.k bY (.k bZ (.k b7 (.k cb (.k ca (.k cn .n))))))) (.m (by kernel_rfl)) 3000 fun _=>rfl
noncomputable def fw:aB×aB×List af->Option (Bool):=evF prog tabE [dX,bA,bB,bC,bM,bD,bF] 3000 e20
theorem rj :FC e20 fw:= .run cD (.k fc (.k bY (.k bZ (.k b7 (.k cb (.k ca (.k cn .n))))))) (.m (by kernel_rfl)) 3000 fun _=>rfl
noncomputable def ft:aB×aB×aq->Option (Bool):=evF prog tabE [dX,bA,bB,bC,bM,bD,bF] 3000 e18
theorem qZ :FC e18 ft:= .run cD (.k fc (.k bY (.k bZ (.k b7 (.k cb (.k ca (.k cn .n))))))) (.m (by kernel_rfl)) 3000 fun _=>rfl
noncomputable def dy:aq->Option (List UInt8):=evF prog tabE [dX,bA,bB,bC,bM,bD,bF] 3000 e29
theorem qS :FC e29 dy:= .run cD (.k fc (.k bY (.k bZ (.k b7 (.k cb (.k ca (.k cn .n))))))) (.m (by kernel_rfl)) 3000 fun _=>rfl
def iP(dq:aB×aB×List af->Option (Bool))(fg:aB×aB×List UInt8->Option (Bool))(fw:aB×aB×List af->Option (Bool))(ft:aB×aB×aq->Option (Bool))(dy:aq->Option (List UInt8)):Option (Bool):=
 gy 9 >>=fun r=>
 gy 20 >>=fun r_1=>
 dq (r,r_1,[(⟨0,0⟩:af),(⟨1,1⟩:af)]) >>=fun r_2=>
 some [(⟨0,0⟩:af),(⟨1,1⟩:af)] >>=fun t18=>
 if(slR 0 1 t18.length || (!r_2))=true then
  (if r_2=true then dq (r,r_1,cutL t18 0 1)else some false) >>=fun r_3=>
  some (bif r_2 then(!r_3)else false) >>=fun t22=>
  (if t22=true then fg (r_1,r,[1,40])else some false) >>=fun r_4=>
  some (bif t22 then r_4 else false) >>=fun t27=>
  (if t27=true then fw (r_1,r,[(⟨0,0⟩:af),(⟨1,1⟩:af)])else some false) >>=fun r_5=>
  some (bif t27 then r_5 else false) >>=fun t33=>
  (if t33=true then ft (r_1,r,(⟨false,[],[1,40]⟩:aq))else some false) >>=fun r_6=>
  some (bif t33 then r_6 else false) >>=fun t39=>
  (if t39=true then dy (⟨false,[],[1,40]⟩:aq)else some []) >>=fun r_7=>
  some (bif t39 then decide (r_7=[109,105,115,114,101,97,100,32,34,92,120,48,49,40,34,10])else false) >>=fun t44=>
  (if t44=true then dy (⟨true,[(⟨0,0⟩:af),(⟨1,1⟩:af)],[]⟩:aq)else some []) >>=fun r_8=>
  some (bif t44 then decide (r_8=[99,111,109,112,97,116,105,98,108,101,10,48,32,48,10,49,32,49,10])else false)
 else none
noncomputable def iQ (_:Unit):Option (Bool):=iP dq fg fw ft dy
theorem qx :FC e12 iQ:= .fx (.k qD (.k qw (.k qE (.k rj (.k qZ (.k qS .n))))))
def awS(n:Int):aB:=⟨⟨[⟨7,[],0,0,2,[],[],0,1,false⟩,⟨2,[],0,n,0,[],[],0,0,false⟩]⟩,0⟩
theorem yT(n:Int):gy n=some (awS n):=rfl
theorem ar1 :dq (awS 9,awS 20,[⟨0,0⟩,⟨1,1⟩])=some true:=by kernel_rfl
theorem ar2 :dq (awS 9,awS 20,[⟨0,0⟩])=some false:=by kernel_rfl
theorem am1 :fg (awS 20,awS 9,[1,40])=some true:=by kernel_rfl
theorem ap1 :fw (awS 20,awS 9,[⟨0,0⟩,⟨1,1⟩])=some true:=by kernel_rfl
theorem ac1 :ft (awS 20,awS 9,⟨false,[],[1,40]⟩)=some true:=by kernel_rfl
theorem af1 :dy ⟨false,[],[1,40]⟩=some [109,105,115,114,101,97,100,32,34,92,120,48,49,40,34,10]:=by kernel_rfl
theorem af2 :dy ⟨true,[⟨0,0⟩,⟨1,1⟩],[]⟩=some [99,111,109,112,97,116,105,98,108,101,10,48,32,48,10,49,32,49,10]:=by kernel_rfl
theorem awB {R : aB×aB×List af -> Option Bool} {M : aB×aB×List UInt8 -> Option Bool} {P : aB×aB×List af -> Option Bool} {C : aB×aB×aq -> Option Bool} {F : aq -> Option (List UInt8)}
 (h1:R (awS 9,awS 20,[⟨0,0⟩,⟨1,1⟩])=some true) (h2:R (awS 9,awS 20,[⟨0,0⟩])=some false) (h3:M (awS 20,awS 9,[1,40])=some true) (h4:P (awS 20,awS 9,[⟨0,0⟩,⟨1,1⟩])=some true) (h5:C (awS 20,awS 9,⟨false,[],[1,40]⟩)=some true)
 (h6:F ⟨false,[],[1,40]⟩=some [109,105,115,114,101,97,100,32,34,92,120,48,49,40,34,10]) (h7:F ⟨true,[⟨0,0⟩,⟨1,1⟩],[]⟩=some [99,111,109,112,97,116,105,98,108,101,10,48,32,48,10,49,32,49,10]):iP R M P C F=some true:=by
 have hc:cutL [(⟨0,0⟩:af),⟨1,1⟩] 0 1=[⟨0,0⟩]:=rfl;unfold iP;simp only[oZ4,oZ3,yT];rw[h1];simp only[oZ3,Bool.not_true,Bool.or_false,if_true,hc];rw[h2,h3,h4];simp only[oZ3,Bool.not_false,cond_true,if_true];rw[h5,h6,h7];rfl
theorem vf :iQ ()=some true:=awB ar1 ar2 am1 ap1 ac1 af1 af2
def fh(_:Unit):Option (Bool):=some true
theorem qF :FC e12 fh:=by
 have:iQ=fh:=by funext x;exact vf
 rw[<-this];exact qx
theorem qn :fh ()=some true:=rfl
end
section
open Go Go.Proofs.YtkbmjabicjpmjaaGreatDoor.Shv
open Tryz
set_option maxRecDepth 100000
set_option linter.all false












end
section
open Go Go.Proofs.YtkbmjabicjpmjaaGreatDoor.Shv
open Tryz
set_option maxRecDepth 100000
def du(x_:Int×aq):Option ((Bool) ⊕ (aq)):=
 match x_ with
 | (i,b_1)=>
 if decide (i < (b_1.Relation.length:Int))=true then
 if inR i b_1.Relation.length=true then
 some (decide ((b_1.Relation.getD i.toNat aN).A0 < 0)) >>=fun t24=>
 if(inR i b_1.Relation.length || (!(!t24)))=true then
 if(bif t24 then true else decide ((b_1.Relation.getD i.toNat aN).A1 < 0))=true then
 some (.inl false)
 else
 du (addI .i64 i 1,b_1)
 else none
 else none
 else
 some (.inr b_1)
  partial_fixpoint
theorem qG :LC 67 0 [0] e67_0 du:= .rx du.partial_correctness
def gA(v:aq):Option (Bool):=
 if(!v.Compatible)=true then
 some (decide ((v.Relation.length:Int)=0))
 else
 du (0,v) >>=fun o=>
 match o with
 | .inl o_1=>
 some o_1
 | .inr o_2=>
 some (decide (o_2.Message=[]))
theorem rk :FC e67 gA:= .fx .n (.k qG .n)
def dY(b:Int):Option (List UInt8):=
 if(bif decide (b=92)then true else decide (b=34))=true then
 some (dL (wrp .i32 b)) >>=fun t12=>
 if decide ([92].length+t12.length<=aD)=true then
 some ([92]++t12)
 else none
 else
 if decide (b=10)=true then
 some [92,110]
 else
 if(bif decide (32<=b)then decide (b<=126)else false)=true then
 some (dL (wrp .i32 b))
 else
 some [48,49,50,51,52,53,54,55,56,57,97,98,99,100,101,102] >>=fun hex=>
 some (quoI .u8 b 16) >>=fun t27=>
 some (addI .u8 (quoI .u8 b 16) 1) >>=fun t30=>
 if slR t27 t30 hex.length=true then
 some (cutL hex t27 t30) >>=fun t31=>
 if decide ([92,120].length+t31.length<=aD)=true then
 some ([92,120]++t31) >>=fun t32=>
 some (remI b 16) >>=fun t35=>
 some (addI .u8 (remI b 16) 1) >>=fun t38=>
 if slR t35 t38 hex.length=true then
 some (cutL hex t35 t38) >>=fun t39=>
 if decide (t32.length+t39.length<=aD)=true then
 some (t32++t39)
 else none
 else none
 else none
 else none
theorem iO :FC e130 dY:= .fx
def dk(x_:List UInt8×List UInt8×Int):Option (List UInt8):=
 match x_ with
 | (s_1,out_2,i)=>
 if decide (i < (s_1.length:Int))=true then
 if inR i s_1.length=true then
 dY (aL s_1 i) >>=fun r=>
 if decide (out_2.length+r.length<=aD)=true then
 dk (s_1,out_2++r,addI .i64 i 1)
 else none
 else none
 else
 some out_2
  partial_fixpoint
theorem qf :LC 72 0 [0] e72_0 dk:= .rx dk.partial_correctness (.k iO .n)
def gz(s:List UInt8):Option (List UInt8):=
 dk (s,[34],0) >>=fun o=>
 if decide (o.length+[34].length<=aD)=true then
 some (o++[34])
 else none
theorem qH :FC e72 gz:= .fx .n (.k qf .n)
def b8(n:Int):Option (List UInt8):=
 if decide (n < 10)=true then
 some (dL (wrp .i32 (addI .i64 48 n)))
 else
 b8 (quoI .i64 n 10) >>=fun r=>
 some (dL (wrp .i32 (addI .i64 48 (remI n 10)))) >>=fun t16=>
 if decide (r.length+t16.length<=aD)=true then
 some (r++t16)
 else none
  partial_fixpoint
theorem qy :FC e73 b8:= .rx b8.partial_correctness (fun _ h=>(.k h .n))
def dj(x_:List UInt8×Int×aq):Option (List UInt8):=
 match x_ with
 | (out_2,i,b)=>
 if decide (i < (b.Relation.length:Int))=true then
 if inR i b.Relation.length=true then
 b8 (b.Relation.getD i.toNat aN).A0 >>=fun r_2=>
 if decide (out_2.length+r_2.length<=aD)=true then
 some (out_2++r_2) >>=fun t31=>
 if decide (t31.length+[32].length<=aD)=true then
 some (t31++[32]) >>=fun t32=>
 if inR i b.Relation.length=true then
 b8 (b.Relation.getD i.toNat aN).A1 >>=fun r_3=>
 if decide (t32.length+r_3.length<=aD)=true then
 some (t32++r_3) >>=fun t40=>
 if decide (t40.length+[10].length<=aD)=true then
 dj (t40++[10],addI .i64 i 1,b)
 else none
 else none
 else none
 else none
 else none
 else none
 else
 some out_2
  partial_fixpoint
theorem qd :LC 30 0 [0] e30_0 dj:= .rx dj.partial_correctness (.k qy .n)
def dZ(v:aq):Option (List UInt8):=
 gA v >>=fun r=>
 if(!r)=true then
 some []
 else
 if(!v.Compatible)=true then
 gz v.Message >>=fun r_1=>
 if decide ([109,105,115,114,101,97,100,32].length+r_1.length<=aD)=true then
 some ([109,105,115,114,101,97,100,32]++r_1) >>=fun t14=>
 if decide (t14.length+[10].length<=aD)=true then
 some (t14++[10])
 else none
 else none
 else
 dj ([99,111,109,112,97,116,105,98,108,101,10],0,v) >>=fun o=>
 some o
theorem qz :FC e30 dZ:= .fx (.k rk (.k qH .n)) (.k qd .n)
def iH(x_:List UInt8×List UInt8):Option (Bool):=
 match x_ with
 | (s,suffix)=>
 some (decide ((suffix.length:Int)<=(s.length:Int))) >>=fun t9=>
 some (subI .i64 (s.length:Int) (suffix.length:Int)) >>=fun t16=>
 if(slR t16 (s.length:Int) s.length || (!t9))=true then
 some (bif t9 then decide (cutL s t16 (s.length:Int)=suffix)else false)
 else none
theorem p7 :FC e187 iH:= .fx
def iI(x_:List UInt8×List UInt8):Option (List UInt8×Bool):=
 match x_ with
 | (s,suffix)=>
 iH (s,suffix) >>=fun r=>
 if(!r)=true then
 some (s,false)
 else
 some (subI .i64 (s.length:Int) (suffix.length:Int)) >>=fun t16=>
 if slR 0 t16 s.length=true then
 some (cutL s 0 t16,true)
 else none
theorem p8 :FC e131 iI:= .fx (.k p7 .n)
def fi(x_:List UInt8×List UInt8):Option (List UInt8×Bool):=
 match x_ with
 | (s,suffix)=>
 iI (s,suffix) >>=fun r=>
 some (r.1,r.2)
theorem qI :FC e74 fi:= .fx (.k p8 .n)
def iK(x_:List UInt8×List UInt8):Option (Bool):=
 match x_ with
 | (s,prefix0)=>
 some (decide ((prefix0.length:Int)<=(s.length:Int))) >>=fun t9=>
 some (prefix0.length:Int) >>=fun t13=>
 if(slR 0 t13 s.length || (!t9))=true then
 some (bif t9 then decide (cutL s 0 t13=prefix0)else false)
 else none
theorem p9 :FC e188 iK:= .fx
def iL(x_:List UInt8×List UInt8):Option (List UInt8×Bool):=
 match x_ with
 | (s,prefix0)=>
 iK (s,prefix0) >>=fun r=>
 if(!r)=true then
 some (s,false)
 else
 some (prefix0.length:Int) >>=fun t13=>
 if slR t13 (s.length:Int) s.length=true then
 some (cutL s t13 (s.length:Int),true)
 else none
theorem qa :FC e132 iL:= .fx (.k p9 .n)
def fj(x_:List UInt8×List UInt8):Option (List UInt8×Bool):=
 match x_ with
 | (s,prefix0)=>
 iL (s,prefix0) >>=fun r=>
 some (r.1,r.2)
theorem qK :FC e75 fj:= .fx (.k qa .n)
def dv(x_:List UInt8×Int):Option (Int):=
 match x_ with
 | (s,c)=>
 kx (s,c) >>=fun r=>
 some r
theorem qL :FC e263 dv:= .fx (.k rE .n)
def gE(s:List UInt8):Option (Int×Int×Bool):=
 if decide (s=[])=true then
 some (0,0,false)
 else
 if inR 0 s.length=true then
 some (aL s 0) >>=fun t11=>
 some (decide (t11=34)) >>=fun t13=>
 if t13=true then
 if t13=true then
 if inR 0 s.length=true then
 some (aL s 0,1,true)
 else none
 else
 if decide (t11=110)=true then
 some (10,1,true)
 else
 if decide (t11=120)=true then
 if decide ((s.length:Int) < 3)=true then
 some (0,0,false)
 else
 if inR 1 s.length=true then
 dv ([48,49,50,51,52,53,54,55,56,57,97,98,99,100,101,102],aL s 1) >>=fun r=>
 if inR 2 s.length=true then
 dv ([48,49,50,51,52,53,54,55,56,57,97,98,99,100,101,102],aL s 2) >>=fun r_1=>
 if(bif decide (r < 0)then true else decide (r_1 < 0))=true then
 some (0,0,false)
 else
 some (wrp .u8 (addI .i64 (mulI .i64 16 r) r_1)) >>=fun t40=>
 some (t40,3,bif bif decide (t40 < 32)then true else decide (126 < t40)then(!(decide (t40=10)))else false)
 else none
 else none
 else
 some (0,0,false)
 else
 if decide (t11=92)=true then
 if inR 0 s.length=true then
 some (aL s 0,1,true)
 else none
 else
 if decide (t11=110)=true then
 some (10,1,true)
 else
 if decide (t11=120)=true then
 if decide ((s.length:Int) < 3)=true then
 some (0,0,false)
 else
 if inR 1 s.length=true then
 dv ([48,49,50,51,52,53,54,55,56,57,97,98,99,100,101,102],aL s 1) >>=fun r_2=>
 if inR 2 s.length=true then
 dv ([48,49,50,51,52,53,54,55,56,57,97,98,99,100,101,102],aL s 2) >>=fun r_3=>
 if(bif decide (r_2 < 0)then true else decide (r_3 < 0))=true then
 some (0,0,false)
 else
 some (wrp .u8 (addI .i64 (mulI .i64 16 r_2) r_3)) >>=fun t40_1=>
 some (t40_1,3,bif bif decide (t40_1 < 32)then true else decide (126 < t40_1)then(!(decide (t40_1=10)))else false)
 else none
 else none
 else
 some (0,0,false)
 else none
theorem rq :FC e189 gE:= .fx (.k qL .n)
def cF(x_:List UInt8×Int×List Int):Option ((List UInt8×Int×Bool) ⊕ (Unit)):=
 match x_ with
 | (s_1,i,b)=>
 if decide (i < (s_1.length:Int))=true then
 if inR i s_1.length=true then
 some (aL s_1 i) >>=fun t17=>
 if decide (t17=34)=true then
 some (.inl (strOf b,addI .i64 i 1,true))
 else
 if decide (t17=92)=true then
 some (addI .i64 i 1) >>=fun t37=>
 if slR t37 (s_1.length:Int) s_1.length=true then
 gE (cutL s_1 t37 (s_1.length:Int)) >>=fun r=>
 if(!r.2.2)=true then
 some (.inl ([],0,false))
 else
 some [r.1] >>=fun t47=>
 if room 1 (b++t47).length=true then
 cF (s_1,addI .i64 i (addI .i64 1 r.2.1),b++t47)
 else none
 else none
 else
 if(bif decide (t17 < 32)then true else decide (126 < t17))=true then
 some (.inl ([],0,false))
 else
 some [t17] >>=fun t20=>
 if room 1 (b++t20).length=true then
 cF (s_1,addI .i64 i 1,b++t20)
 else none
 else none
 else
 some (.inr ())
  partial_fixpoint
theorem q0 :LC 133 0 [0] pW cF:= .rx cF.partial_correctness (.k rq .n)
def jt(s:List UInt8):Option (List UInt8×Int×Bool):=
 cF (s,1,[]) >>=fun o=>
 match o with
 | .inl o_1=>
 some (o_1.1,o_1.2.1,o_1.2.2)
 | .inr o_2=>
 some ([],0,false)
theorem rF :FC e133 jt:= .fx .n (.k q0 .n)
def fA(s:List UInt8):Option (List UInt8×Int):=
 some (decide (s=[])) >>=fun t8=>
 if(inR 0 s.length || (!(!t8)))=true then
 if(bif t8 then true else(!(decide (aL s 0=34))))=true then
 some ([],2)
 else
 jt s >>=fun r=>
 if(bif (!r.2.2)then true else(!(decide (r.2.1=(s.length:Int)))))=true then
 some ([],2)
 else
 some (r.1,0)
 else none
theorem ru :FC e76 fA:= .fx (.k rF .n)
def jg(x_:List UInt8×List UInt8):Option (Int):=
 match x_ with
 | (s,substr)=>
 eR (s,substr) >>=fun r=>
 some r
theorem ry :FC e192 jg:= .fx (.k lU .n)
def cX(x_:List UInt8×List UInt8×Int×Int×Int×List (List UInt8)):Option (List UInt8×Int×List (List UInt8)):=
 match x_ with
 | (s_3,sep_1,sepSave_1,n_1,i_2,b_2)=>
 if decide (i_2 < n_1)=true then
 jg (s_3,sep_1) >>=fun r_2=>
 if decide (r_2 < 0)=true then
 some (s_3,i_2,b_2)
 else
 some (addI .i64 r_2 sepSave_1) >>=fun t47=>
 if slR 0 t47 s_3.length=true then
 if inR i_2 b_2.length=true then
 if decide (i_2.toNat < b_2.length)=true then
 some (addI .i64 r_2 (sep_1.length:Int)) >>=fun t54=>
 if slR t54 (s_3.length:Int) s_3.length=true then
 cX (cutL s_3 t54 (s_3.length:Int),sep_1,sepSave_1,n_1,addI .i64 i_2 1,b_2.set i_2.toNat (cutL s_3 0 t47))
 else none
 else none
 else none
 else none
 else
 some (s_3,i_2,b_2)
  partial_fixpoint
theorem qo :LC 134 0 [0] pX cX:= .rx cX.partial_correctness (.k ry .n)
def iU(x_:List UInt8×List UInt8×Int×Int):Option (List (List UInt8)):=
 match x_ with
 | (s,sep,sepSave,n)=>
 if decide (n=0)=true then
 some []
 else
 if decide (sep=[])=true then
 explG (s,n) >>=fun r=>
 some r
 else
 if decide (n < 0)=true then
 gf (s,sep) >>=fun r_1=>
 some (minI (addI .i64 r_1 1) (addI .i64 (s.length:Int) 1)) >>=fun t29=>
 if mkR 16 t29=true then
 cX (s,sep,sepSave,subI .i64 t29 1,0,List.replicate t29.toNat []) >>=fun o=>
 if inR o.2.1 o.2.2.length=true then
 if decide (o.2.1.toNat < o.2.2.length)=true then
 some (o.2.2.set o.2.1.toNat o.1) >>=fun l_1=>
 some (addI .i64 o.2.1 1) >>=fun t64=>
 if slR 0 t64 l_1.length=true then
 some (cutL l_1 0 t64)
 else none
 else none
 else none
 else none
 else
 some (minI n (addI .i64 (s.length:Int) 1)) >>=fun t29_1=>
 if mkR 16 t29_1=true then
 cX (s,sep,sepSave,subI .i64 t29_1 1,0,List.replicate t29_1.toNat []) >>=fun o_1=>
 if inR o_1.2.1 o_1.2.2.length=true then
 if decide (o_1.2.1.toNat < o_1.2.2.length)=true then
 some (o_1.2.2.set o_1.2.1.toNat o_1.1) >>=fun l_3=>
 some (addI .i64 o_1.2.1 1) >>=fun t64_1=>
 if slR 0 t64_1 l_3.length=true then
 some (cutL l_3 0 t64_1)
 else none
 else none
 else none
 else none
theorem qT :FC e134 iU:= .fx (.k s4 (.k rR .n)) (.k qo .n)
def gF(x_:List UInt8×List UInt8):Option (List (List UInt8)):=
 match x_ with
 | (s,sep)=>
 iU (s,sep,0,(-1)) >>=fun r=>
 some r
theorem rz :FC e77 gF:= .fx (.k qT .n)
def iM(x_:List UInt8×List UInt8):Option (List UInt8×List UInt8×Bool):=
 match x_ with
 | (s,sep)=>
 eR (s,sep) >>=fun r=>
 if decide (0<=r)=true then
 if slR 0 r s.length=true then
 some (addI .i64 r (sep.length:Int)) >>=fun t20=>
 if slR t20 (s.length:Int) s.length=true then
 some (cutL s 0 r,cutL s t20 (s.length:Int),true)
 else none
 else none
 else
 some (s,[],false)
theorem qc :FC e193 iM:= .fx (.k lU .n)
def ek(x_:List UInt8×List UInt8):Option (List UInt8×List UInt8×Bool):=
 match x_ with
 | (s,sep)=>
 iM (s,sep) >>=fun r=>
 some (r.1,r.2.1,r.2.2)
theorem rS :FC e135 ek:= .fx (.k qc .n)
def dn(x_:List (List UInt8)×Int×Int×List af):Option ((Bool) ⊕ (List af)):=
 match x_ with
 | (t14,t15_1,t16,b_1)=>
 if decide (t16 < t15_1)=true then
 if inR t16 t14.length=true then
 ek (t14.getD t16.toNat [],[32]) >>=fun r=>
 numG r.1 >>=fun r_4=>
 numG r.2.1 >>=fun r_7=>
 if(bif bif (!r.2.2)then true else(!r_4.2)then true else(!r_7.2))=true then
 some (.inl false)
 else
 some [(⟨r_4.1,r_7.1⟩:af)] >>=fun t50=>
 if room 16 (b_1++t50).length=true then
 dn (t14,t15_1,addI .i64 t16 1,b_1++t50)
 else none
 else none
 else
 some (.inr b_1)
  partial_fixpoint
theorem qp :LC 78 0 [0] e78_0 dn:= .rx dn.partial_correctness (.k rS (.k um .n))
def fl(lines:List (List UInt8)):Option (List af×Bool):=
 dn (lines,(lines.length:Int),0,[]) >>=fun o=>
 match o with
 | .inl o_1=>
 some ([],o_1)
 | .inr o_2=>
 some (o_2,true)
theorem qU :FC e78 fl:= .fx .n (.k qp .n)
def dz(text:List UInt8):Option (aq×Int):=
 if decide (65536 < (text.length:Int))=true then
 some ((⟨false,[],[]⟩:aq),3)
 else
 fi (text,[10]) >>=fun r=>
 if(!r.2)=true then
 some ((⟨false,[],[]⟩:aq),2)
 else
 fj (r.1,[109,105,115,114,101,97,100,32]) >>=fun r_3=>
 if r_3.2=true then
 fA r_3.1 >>=fun r_6=>
 if(!(decide (r_6.2=0)))=true then
 some ((⟨false,[],[]⟩:aq),2)
 else
 some ((⟨false,[],r_6.1⟩:aq),0)
 else
 gF (r.1,[10]) >>=fun r_9=>
 if slR 1 (r_9.length:Int) r_9.length=true then
 fl (cutL r_9 1 (r_9.length:Int)) >>=fun r_10=>
 if inR 0 r_9.length=true then
 if(bif (!(decide (r_9.getD (0:Int).toNat []=[99,111,109,112,97,116,105,98,108,101])))then true else(!r_10.2))=true then
 some ((⟨false,[],[]⟩:aq),2)
 else
 some ((⟨true,r_10.1,[]⟩:aq),0)
 else none
 else none
theorem rA :FC e31 dz:= .fx (.k qI (.k qK (.k ru (.k rz (.k qU .n)))))
def dm(x_:List af×List af×Int):Option ((Bool) ⊕ (Unit)):=
 match x_ with
 | (a_1,b_1,i)=>
 if decide (i < (a_1.length:Int))=true then
 if inR i a_1.length=true then
 some (a_1.getD i.toNat aN) >>=fun x0=>
 if inR i b_1.length=true then
 some (b_1.getD i.toNat aN) >>=fun x0_1=>
 if(!(eqI x0.A0 x0_1.A0 && (eqI x0.A1 x0_1.A1 && true)))=true then
 some (.inl false)
 else
 dm (a_1,b_1,addI .i64 i 1)
 else none
 else none
 else
 some (.inr ())
  partial_fixpoint
theorem qg :LC 79 0 [0] e79_0 dm:= .rx dm.partial_correctness
def iR(x_:List af×List af):Option (Bool):=
 match x_ with
 | (a,b)=>
 if(!(decide ((a.length:Int)=(b.length:Int))))=true then
 some false
 else
 dm (a,b,0) >>=fun o=>
 match o with
 | .inl o_1=>
 some o_1
 | .inr o_2=>
 some true
theorem qM :FC e79 iR:= .fx .n (.k qg .n)
def fp(x_:aq×aq):Option (Bool):=
 match x_ with
 | (a,b)=>
 some (bif eqB a.Compatible b.Compatible then decide (a.Message=b.Message)else false) >>=fun t16=>
 (if t16=true then iR (a.Relation,b.Relation)else some false) >>=fun r=>
 some (bif t16 then r else false)
theorem qV :FC e32 fp:= .fx (.k qM .n)
def dp(x_:List UInt8×Int):Option ((Int) ⊕ (Unit)):=
 match x_ with
 | (s_1,b)=>
 if decide (b < 256)=true then
 dY (wrp .u8 b) >>=fun r=>
 some (decide ((r.length:Int)<=(s_1.length:Int))) >>=fun t16=>
 some (r.length:Int) >>=fun t20=>
 if(slR 0 t20 s_1.length || (!t16))=true then
 if(bif t16 then decide (cutL s_1 0 t20=r)else false)=true then
 some (.inl b)
 else
 dp (s_1,addI .i64 b 1)
 else none
 else
 some (.inr ())
  partial_fixpoint
theorem qq :LC 195 0 [0] pY dp:= .rx dp.partial_correctness (.k iO .n)
def fq(s:List UInt8):Option (Int):=
 dp (s,0) >>=fun o=>
 match o with
 | .inl o_1=>
 some o_1
 | .inr o_2=>
 some (-1)
theorem qW :FC e195 fq:= .fx .n (.k qq .n)
def cW(x_:List UInt8×Int×List UInt8×Int×List Int):Option ((List UInt8×Int) ⊕ (List UInt8×Int×List UInt8×Int×List Int)):=
 match x_ with
 | (s_2,i_1,b_5,b_6,b_7)=>
 some (decide (i_1 < (s_2.length:Int))) >>=fun t17=>
 if(inR i_1 s_2.length || (!t17))=true then
 if(bif t17 then(!(decide (aL s_2 i_1=34)))else false)=true then
 if slR i_1 (s_2.length:Int) s_2.length=true then
 fq (cutL s_2 i_1 (s_2.length:Int)) >>=fun r=>
 if decide (r < 0)=true then
 some (.inl ([],0))
 else
 some [wrp .u8 r] >>=fun t34=>
 if room 1 (b_7++t34).length=true then
 dY (wrp .u8 r) >>=fun r_1=>
 cW (s_2,addI .i64 i_1 (r_1.length:Int),b_5,b_6,b_7++t34)
 else none
 else none
 else
 some (.inr (s_2,i_1,b_5,b_6,b_7))
 else none
  partial_fixpoint
theorem qh :LC 137 0 [0] pZ cW:= .rx cW.partial_correctness (.k qW (.k iO .n))
def iS(s:List UInt8):Option (b9):=
 some (decide (s=[])) >>=fun t7=>
 if(inR 0 s.length || (!(!t7)))=true then
 if(bif t7 then true else(!(decide (aL s 0=34))))=true then
 some (⟨[],0⟩:b9)
 else
 cW (s,1,[],0,[]) >>=fun o=>
 match o with
 | .inl o_1=>
 some (⟨o_1.1,o_1.2⟩:b9)
 | .inr o_2=>
 if decide (o_2.2.1=(o_2.1.length:Int))=true then
 some (⟨[],0⟩:b9)
 else
 some (⟨strOf o_2.2.2.2.2,addI .i64 o_2.2.1 1⟩:b9)
 else none
theorem qN :FC e137 iS:= .fx .n (.k qh .n)
def dW(s:List UInt8):Option (List UInt8×Int):=
 iS s >>=fun r=>
 if(bif decide (r.Len=0)then true else(!(decide (r.Len=(s.length:Int)))))=true then
 some ([],2)
 else
 some (r.Str,0)
theorem qt :FC e80 dW:= .fx (.k qN .n)
def bI(x_:List UInt8×Int×Int):Option ((Int×Int) ⊕ (Int×Int)):=
 match x_ with
 | (s_1,n_1,k_1)=>
 some (decide (k_1 < (s_1.length:Int))) >>=fun t10=>
 if(inR k_1 s_1.length || (!t10))=true then
 some (bif t10 then decide (48<=aL s_1 k_1)else false) >>=fun t16=>
 if(inR k_1 s_1.length || (!t16))=true then
 if(bif t16 then decide (aL s_1 k_1<=57)else false)=true then
 if inR k_1 s_1.length=true then
 some (wrp .i64 (subI .u8 (aL s_1 k_1) 48)) >>=fun t27=>
 if decide (quoI .i64 (subI .i64 9223372036854775807 t27) 10 < n_1)=true then
 some (.inl (0,0))
 else
 bI (s_1,addI .i64 (mulI .i64 10 n_1) t27,addI .i64 k_1 1)
 else none
 else
 some (.inr (n_1,k_1))
 else none
 else none
  partial_fixpoint
theorem qe :LC 81 0 [0] e81_0 bI:= .rx bI.partial_correctness
def cE(s:List UInt8):Option (Int×Int):=
 bI (s,0,0) >>=fun o=>
 match o with
 | .inl o_1=>
 some (o_1.1,o_1.2)
 | .inr o_2=>
 some (o_2.1,o_2.2)
theorem qA :FC e81 cE:= .fx .n (.k qe .n)
def bK(x_:List UInt8×List UInt8×Bool×List UInt8×Bool×List UInt8×List af):Option ((Int×Bool×List UInt8) ⊕ (List UInt8×Bool×List UInt8×Bool×List UInt8×List af)):=
 match x_ with
 | (text_2,rest,b_7,b_8,b_9,b_10,b_11)=>
 if(!(decide (rest=[])))=true then
 cE rest >>=fun r_6=>
 some (bif decide (r_6.2=0)then true else decide ((rest.length:Int)<=r_6.2)) >>=fun t60=>
 if(inR r_6.2 rest.length || (!(!t60)))=true then
 if(bif t60 then true else(!(decide (aL rest r_6.2=32))))=true then
 some (.inl (2,false,[]))
 else
 some (addI .i64 r_6.2 1) >>=fun t71=>
 if slR t71 (rest.length:Int) rest.length=true then
 cE (cutL rest t71 (rest.length:Int)) >>=fun r_9=>
 some (bif decide (r_9.2=0)then true else decide ((rest.length:Int)<=addI .i64 (addI .i64 r_6.2 1) r_9.2)) >>=fun t86=>
 some (addI .i64 (addI .i64 r_6.2 1) r_9.2) >>=fun t92=>
 if(inR t92 rest.length || (!(!t86)))=true then
 if(bif t86 then true else(!(decide (aL rest t92=10))))=true then
 some (.inl (2,false,[]))
 else
 some [(⟨r_6.1,r_9.1⟩:af)] >>=fun t102=>
 if room 16 (b_11++t102).length=true then
 some (addI .i64 (addI .i64 r_6.2 r_9.2) 2) >>=fun t109=>
 if slR t109 (rest.length:Int) rest.length=true then
 bK (text_2,cutL rest t109 (rest.length:Int),b_7,b_8,b_9,b_10,b_11++t102)
 else none
 else none
 else none
 else none
 else none
 else
 some (.inr (text_2,b_7,b_8,b_9,b_10,b_11))
  partial_fixpoint
theorem qk :LC 33 0 [0] e33_0 bK:= .rx bK.partial_correctness (.k qA .n)
def dw(text:List UInt8):Option (aq×Int):=
 if decide (65536 < (text.length:Int))=true then
 some ((⟨false,[],[]⟩:aq),3)
 else
 some (decide (9 < (text.length:Int))) >>=fun t18=>
 if(slR 0 8 text.length || (!t18))=true then
 if(bif t18 then decide (cutL text 0 8=[109,105,115,114,101,97,100,32])else false)=true then
 some (subI .i64 (text.length:Int) 1) >>=fun t28=>
 if slR 8 t28 text.length=true then
 dW (cutL text 8 t28) >>=fun r=>
 dZ (⟨false,[],r.1⟩:aq) >>=fun r_3=>
 if(!(decide (r_3=text)))=true then
 some ((⟨false,[],[]⟩:aq),2)
 else
 some ((⟨false,[],r.1⟩:aq),0)
 else none
 else
 some (decide (11<=(text.length:Int))) >>=fun t37=>
 if(slR 0 11 text.length || (!t37))=true then
 if(bif t37 then decide (cutL text 0 11=[99,111,109,112,97,116,105,98,108,101,10])else false)=true then
 if slR 11 (text.length:Int) text.length=true then
 bK (text,cutL text 11 (text.length:Int),false,[],true,[],[]) >>=fun o=>
 match o with
 | .inl o_1=>
 some ((⟨o_1.2.1,[],o_1.2.2⟩:aq),o_1.1)
 | .inr o_2=>
 dZ (⟨o_2.2.2.2.1,o_2.2.2.2.2.2,o_2.2.2.2.2.1⟩:aq) >>=fun r_4=>
 if(!(decide (r_4=o_2.1)))=true then
 some ((⟨false,[],[]⟩:aq),2)
 else
 some ((⟨o_2.2.2.2.1,o_2.2.2.2.2.2,o_2.2.2.2.2.1⟩:aq),0)
 else none
 else
 dZ (⟨false,[],[]⟩:aq) >>=fun r_5=>
 if(!(decide (r_5=text)))=true then
 some ((⟨false,[],[]⟩:aq),2)
 else
 some ((⟨false,[],[]⟩:aq),0)
 else none
 else none
theorem qO :FC e33 dw:= .fx (.k qt (.k qz .n)) (.k qk .n)
def iN(text:List UInt8):Option (Bool):=
 fh () >>=fun r=>
 if(bif bif (!r)then true else bif decide (400 < (text.length:Int))then decide ((text.length:Int)<=65536)else false then true else decide (70000 < (text.length:Int)))=true then
 fh () >>=fun r_1=>
 some r_1
 else
 dz text >>=fun r_2=>
 dw text >>=fun r_5=>
 some (decide (r_2.2=r_5.2)) >>=fun t37=>
 (if t37=true then fp (r_2.1,r_5.1)else some false) >>=fun r_8=>
 some (bif t37 then r_8 else false)
theorem y3 :FC e10 iN:= .fx (.k qF (.k rA (.k qO (.k qV .n))))
end
section
open Go Go.Proofs.YtkbmjabicjpmjaaGreatDoor.Shv
set_option maxRecDepth 100000
theorem sb{α β:Type}(a:α)(f:α->Option β):(some a >>=f)=f a:=rfl
def hx :List UInt8:=[48,49,50,51,52,53,54,55,56,57,97,98,99,100,101,102]
def qb(n:Nat):List UInt8:=
 if n=34\/n=92 then[92,UInt8.ofNat n]else if n=10 then[92,110]
 else if n < 32\/126 < n then[92,120,hx.getD (n / 16) 0,hx.getD (n % 16) 0]else[UInt8.ofNat n]
def qm(s:List UInt8):List UInt8:=s.flatMap fun c=>qb c.toNat
def qs(s:List UInt8):List UInt8:=34::(qm s++[34])
theorem iC(n:Nat):1<=(qb n).length/\(qb n).length<=4:=by
 unfold qb;repeat' split
 all_goals simp
theorem lh(s:List UInt8):s.length<=(qm s).length/\(qm s).length<=4*s.length:=by
 induction s with
 | nil=>simp[qm]
 | cons c s ih=>
  have:=iC c.toNat;simp only[qm,List.flatMap_cons,List.length_append,List.length_cons]at ih ⊢;omega
theorem cO{α:Type}{s:List α}{k:Nat}(h:k < s.length)(d:α):s.drop k=s.getD k d::s.drop (k+1):=by
 rw[List.drop_eq_getElem_cons h];simp[List.getD,h]
theorem kd{n:Nat}(h:n < 256):dY (n:Int)=some (qb n):=by
 have:∀m:Fin 256,dY (m.val:Int)=some (qb m.val):=by decide+kernel
 exact this ⟨n,h⟩
theorem mR(s:List UInt8)(hs:s.length<=200000):∀(f k:Nat) (b:List UInt8),k+f=s.length->b.length+4*f<=1000000->dk (s,b,(k:Int))=some (b++qm (s.drop k))
 | 0,k,b,h,hb=>by
  rw[dk,if_neg (by simp;omega),List.drop_eq_nil_of_le (by omega)];simp[qm]
 | f+1,k,b,h,hb=>by
  have hk:k < s.length:=by omega
  have ih:=fun b'=>mR s hs f (k+1) b' (by omega)
  have hl:=iC (s.getD k 0).toNat;rw[dk,if_pos (by simp;omega),if_pos (aT hk),bt,kd (ow s k),oZ4,oZ3,if_pos (by unfold aD;rw[decide_eq_true_eq];omega),bl (by omega),ih _ (by rw[List.length_append];omega),cO hk 0];simp[qm]
theorem s5(s:List UInt8)(h:s.length<=200000):gz s=some (qs s):=by
 have hq:=lh s;unfold gz;have e0:(0:Int)=((0:Nat):Int):=rfl;rw[e0,mR s h s.length 0 _ (by omega) (by simp;omega),oZ4,oZ3,if_pos (by unfold aD;simp;omega)];simp[qs]
def dg(a:Int):List UInt8:=Lib.decDigits a.toNat
theorem fa{a:Int}(h0:0<=a)(h1:a<=9223372036854775807):1<=(dg a).length/\(dg a).length<=20:=by
 have key:∀(k u:Nat),u < 10 ^ (k+1)->1<=(Lib.decDigits u).length/\(Lib.decDigits u).length<=k+1
  | 0,u,h=>by rw[Lib.decDigits,dif_pos (by simpa using h)];simp
  | k+1,u,h=>by
   rw[Lib.decDigits];split
   . simp
   . rename_i h2;have:u / 10 < 10 ^ (k+1):=by rw[Nat.pow_succ]at h;omega
     have hk:1<=(Lib.decDigits (u / 10)).length/\(Lib.decDigits (u / 10)).length<=k+1:=by
      clear h h2
      induction k generalizing u with
      | zero=>rw[Lib.decDigits,dif_pos (by simpa using this)];simp
      | succ k ih=>
       rw[Lib.decDigits];split
       . simp
       . have:=ih (u / 10) (by rw[Nat.pow_succ]at this;omega);simp;omega
     simp;omega
 exact key 19 _ (by omega)
theorem lj{n:Nat}(h:n < 10):dL (wrp .i32 (addI .i64 48 (n:Int)))=[UInt8.ofNat (48+n)]:=by
 have:∀m:Fin 10,dL (wrp .i32 (addI .i64 48 (m.val:Int)))=[UInt8.ofNat (48+m.val)]:=by decide+kernel
 exact this ⟨n,h⟩
theorem nN :∀(k n:Nat),n < 10 ^ (k+1)->n < 9223372036854775808->k < 30->b8 (n:Int)=some (Lib.decDigits n)/\(Lib.decDigits n).length<=k+1
 | 0,n,h,h1,hk=>by
  have h:n < 10:=by simpa using h
  rw[b8,if_pos (by simp;omega),lj h,Lib.decDigits,dif_pos h];simp
 | k+1,n,h,h1,hk=>by
  by_cases h10:n < 10
  . rw[b8,if_pos (by simp;omega),lj h10,Lib.decDigits,dif_pos h10];simp
  . have ih:=nN k (n / 10) (by rw[Nat.pow_succ]at h;omega) (by omega) (by omega);have hq:quoI .i64 (n:Int) 10=((n / 10:Nat):Int):=by
     have e:(n:Int).tdiv 10=((n / 10:Nat):Int):=by rfl
     unfold quoI;rw[e,IntKind.wrap_i64];omega
    have hr:remI (n:Int) 10=((n % 10:Nat):Int):=rfl;rw[b8,if_neg (by simp;omega),hq,hr,ih.1,oZ4,oZ3,oZ3,lj (by omega),if_pos (by unfold aD;simp;omega)];have e:Lib.decDigits n=Lib.decDigits (n / 10)++[UInt8.ofNat (48+n % 10)]:=by rw[Lib.decDigits,dif_neg h10]
    rw[e];refine⟨rfl,?_⟩;simp;omega
theorem oC{a:Int}(h0:0<=a)(h1:a<=9223372036854775807):b8 a=some (dg a):=by
 have:=(nN 19 a.toNat (by omega) (by omega) (by omega)).1;rw[Int.toNat_of_nonneg h0]at this;exact this
def ln(x:af):List UInt8:=dg x.A0++[32]++dg x.A1
def lns(l:List af):List UInt8:=l.flatMap fun x=>ln x++[10]
def bX(x:af):Prop:=(-9223372036854775808<=x.A0/\x.A0<=9223372036854775807)/\-9223372036854775808<=x.A1/\x.A1<=9223372036854775807
def pos(x:af):Bool:=decide (0<=x.A0) && decide (0<=x.A1)
theorem p4{x:af}(h:bX x)(hp:pos x=true):3<=(ln x).length/\(ln x).length<=41:=by
 simp[pos]at hp;have h1:=fa hp.1 h.1.2;have h2:=fa hp.2 h.2.2;simp[ln];omega
def vok(v:aq):Bool:=if v.Compatible=true then decide (v.Message=[]) && v.Relation.all pos else decide (v.Relation=[])
def cmpB :List UInt8:=[99,111,109,112,97,116,105,98,108,101]
def misB :List UInt8:=[109,105,115,114,101,97,100,32]
def fmtv(v:aq):List UInt8:=if vok v=true then(if v.Compatible=true then cmpB++[10]++lns v.Relation else misB++qs v.Message++[10])else[]
theorem is_l0(v:aq)(hl:v.Relation.length<=100000):∀(f k:Nat),k+f=v.Relation.length->du ((k:Int),v)=some (if(v.Relation.drop k).all pos=true then .inr v else .inl false)
 | 0,k,h=>by
  rw[du,if_neg (by simp;omega),List.drop_eq_nil_of_le (by omega)];rfl
 | f+1,k,h=>by
  have hk:k < v.Relation.length:=by omega
  rw[du,if_pos (by simp;omega),if_pos (aT hk)];simp only[oZ4,oZ3,Int.toNat_natCast];rw[if_pos (by simp[aT hk]),cO hk aN,List.all_cons];cases hp:pos (v.Relation.getD k aN)
  . rw[if_pos (by simp[pos]at hp ⊢;omega)];rfl
  . rw[if_neg (by simp[pos]at hp ⊢;omega),bl (by omega),is_l0 v hl f (k+1) (by omega)];simp
theorem is_eq(v:aq)(hl:v.Relation.length<=100000):gA v=some (vok v):=by
 unfold gA vok;cases v.Compatible
 . rw[if_pos (show(!false)=true from rfl),if_neg (by simp)]
   congr 1;rw[Bool.eq_iff_iff];simp
 . rw[if_neg (by simp),if_pos rfl];have e0:(0:Int)=((0:Nat):Int):=rfl;rw[e0,is_l0 v hl v.Relation.length 0 (by omega),List.drop_zero];cases v.Relation.all pos <;> simp
theorem wN{l:List af}(h:∀x,x∈l->bX x)(hp:l.all pos=true):4*l.length<=(lns l).length/\(lns l).length<=42*l.length:=by
 induction l with
 | nil=>simp[lns]
 | cons x l ih=>
  simp only[List.all_cons,Bool.and_eq_true]at hp;have h1:=p4 (h x (by simp)) hp.1;have h2:=ih (fun y hy=>h y (by simp[hy])) hp.2;simp only[lns,List.flatMap_cons,List.length_append,List.length_cons,List.length_nil]at h2 ⊢;omega
theorem oD(v:aq)(hl:v.Relation.length<=100000)(h:∀x,x∈v.Relation->bX x)(hp:v.Relation.all pos=true):∀(f k:Nat) (b:List UInt8),k+f=v.Relation.length->b.length+42*f<=9000000->dj (b,(k:Int),v)=some (b++lns (v.Relation.drop k))
 | 0,k,b,hk,hb=>by
  rw[dj,if_neg (by simp;omega),List.drop_eq_nil_of_le (by omega)];simp[lns]
 | f+1,k,b,hk,hb=>by
  have hkl:k < v.Relation.length:=by omega
  have hm:v.Relation.getD k aN∈v.Relation:=by simp[List.getD,hkl]
  have h1:=h _ hm;have h2:pos (v.Relation.getD k aN)=true:=List.all_eq_true.1 hp _ hm;have h3:=p4 h1 h2;rw[dj,if_pos (by simp;omega),if_pos (aT hkl)];simp only[oZ4,oZ3,Int.toNat_natCast];rw[cO hkl aN];generalize v.Relation.getD k aN=x at h1 h2 h3 ⊢;simp[pos]at h2;have d0:=fa h2.1 h1.1.2;have d1:=fa h2.2 h1.2.2
  rw[oC h2.1 h1.1.2,oZ3,if_pos (by unfold aD;simp;omega),if_pos (by unfold aD;simp;omega),if_pos (aT hkl),oC h2.2 h1.2.2,oZ3,if_pos (by unfold aD;simp;omega),if_pos (by unfold aD;simp;omega)];rw[bl (by omega),oD v hl h hp f (k+1) _ (by omega) (by simp;omega)];simp[lns,ln]
theorem ju(v:aq)(hl:v.Relation.length<=100000)(hm:v.Message.length<=200000)(h:∀x,x∈v.Relation->bX x):dZ v=some (fmtv v):=by
 unfold dZ fmtv;rw[is_eq v (by omega),sb];cases hv:vok v
 . rw[if_pos (show(!false)=true from rfl),if_neg (by simp)]
 . rw[if_neg (by simp),if_pos rfl];cases hc:v.Compatible
   . rw[if_pos (show(!false)=true from rfl),if_neg (by simp),s5 _ hm,sb,if_pos,sb,if_pos]
     . rfl
     all_goals
      have:=lh v.Message;unfold aD;simp[qs];omega
   . rw[if_neg (by simp),if_pos rfl];unfold vok at hv;rw[hc,if_pos rfl]at hv;simp only[Bool.and_eq_true]at hv;have e0:(0:Int)=((0:Nat):Int):=rfl;rw[e0,oD _ hl h hv.2 v.Relation.length 0 _ (by omega) (by simp;omega),sb];simp[cmpB]
theorem eH{n:Nat}(h:n < 256):((n=34\/n=92)/\qb n=[92,UInt8.ofNat n])\/(n=10/\qb n=[92,110])\/((n < 32\/126 < n)/\n≠10/\qb n=[92,120,hx.getD (n / 16) 0,hx.getD (n % 16) 0])\/(32<=n/\n<=126/\n≠34/\n≠92/\qb n=[UInt8.ofNat n]):=by
 unfold qb;by_cases h1:n=34\/n=92
 . exact .inl ⟨h1,if_pos h1⟩
 . rw[if_neg h1];by_cases h2:n=10
   . exact .inr (.inl ⟨h2,if_pos h2⟩)
   . rw[if_neg h2];by_cases h3:n < 32\/126 < n
     . exact .inr (.inr (.inl ⟨h3,h2,if_pos h3⟩))
     . exact .inr (.inr (.inr ⟨by omega,by omega,by omega,by omega,if_neg h3⟩))
theorem yU :((List.range 256).all fun a=>(List.range 256).all fun b=>!(qb a).isPrefixOf (qb b) || a==b)=true:=by decide+kernel
theorem qb_pf{a b:Nat}(ha:a < 256)(hb:b < 256)(h:qb a <+:qb b):a=b:=by
 have:=List.all_eq_true.1 (List.all_eq_true.1 yU a (by simpa using ha)) b (by simpa using hb);rw[List.isPrefixOf_iff_prefix.2 h]at this
 simpa using this
theorem iD{a b:Nat}(ha:a < 256)(hb:b < 256){x y:List UInt8}(h:qb a++x=qb b++y):a=b:=by
 have h1:qb a <+:qb a++x:=List.prefix_append _ _;have h2:qb b <+:qb a++x:=h▸List.prefix_append _ _;rcases List.prefix_or_prefix_of_prefix h1 h2 with h | h
 . exact qb_pf ha hb h
 . exact(qb_pf hb ha h).symm
theorem gg{n:Nat}(h:n < 256){x y:List UInt8}(e:qb n++x=34::y):False:=by
 rcases eH h with⟨h1,h2⟩ | ⟨h1,h2⟩ | ⟨h1,h2,h3⟩ | ⟨h1,h2,h3,h4,h5⟩
 . rw[h2]at e;simp at e
 . rw[h2]at e;simp at e
 . rw[h3]at e;simp at e
 . rw[h5]at e;simp only[List.cons_append,List.nil_append,List.cons.injEq]at e;have:=congrArg UInt8.toNat e.1;rw[UInt8.toNat_ofNat_of_lt' (by omega)]at this;exact h3 this
theorem bm(c:UInt8)(m:List UInt8):qm (c::m)=qb c.toNat++qm m:=by simp[qm]
theorem gx :∀{m m' r r':List UInt8},qm m++34::r=qm m'++34::r'->m=m'/\r=r'
 | [],[],r,r',h=>by simpa[qm]using h
 | [],c::m',r,r',h=>by
  rw[bm,List.append_assoc]at h;exact(gg c.toNat_lt h.symm).elim
 | c::m,[],r,r',h=>by
  rw[bm,List.append_assoc]at h;exact(gg c.toNat_lt h).elim
 | c::m,c'::m',r,r',h=>by
  rw[bm,bm,List.append_assoc,List.append_assoc]at h;have e:=iD c.toNat_lt c'.toNat_lt h;rw[e]at h;obtain⟨h1,h2⟩:=gx (List.append_cancel_left h);exact⟨by rw[UInt8.toNat_inj.1 e,h1],h2⟩
theorem pM :∀{m m' r:List UInt8},qm m++34::r≠qm m'
 | [],[],r,h=>by simp[qm]at h
 | [],c::m',r,h=>by
  rw[bm]at h;exact gg c.toNat_lt h.symm
 | c::m,[],r,h=>by simp[qm]at h
 | c::m,c'::m',r,h=>by
  rw[bm,bm,List.append_assoc]at h;have e:=iD c.toNat_lt c'.toNat_lt h;rw[e]at h;exact pM (List.append_cancel_left h)
theorem hx_ix(c:UInt8):(Lib.indexByte hx c= -1/\∀n,n < 16->hx.getD n 0≠c)\/∃n:Nat,n < 16/\Lib.indexByte hx c=n/\hx.getD n 0=c:=by
 have key:∀m:Fin 256,(Lib.indexByte hx (UInt8.ofNat m.val)= -1/\∀n:Fin 16,hx.getD n.val 0≠UInt8.ofNat m.val)\/∃n:Fin 16,Lib.indexByte hx (UInt8.ofNat m.val)=(n.val:Int)/\hx.getD n.val 0=UInt8.ofNat m.val:=by decide+kernel
 have:=key ⟨c.toNat,c.toNat_lt⟩;simp only[UInt8.ofNat_toNat]at this;rcases this with⟨h1,h2⟩ | ⟨n,h1,h2⟩
 . exact .inl ⟨h1,fun n hn=>h2 ⟨n,hn⟩⟩
 . exact .inr ⟨n.val,n.isLt,h1,h2⟩
theorem p5(c:UInt8):dv ([48,49,50,51,52,53,54,55,56,57,97,98,99,100,101,102],(c.toNat:Int))=some (Lib.indexByte hx c):=by
 unfold dv kx;simp[hx,Nat.toUInt8]
theorem yV (s : List UInt8): ∃ (c n : Nat) (ok : Bool), gE s = some ((c : Int), (n : Int), ok) /\ (ok = true -> c < 256 /\ n <= s.length /\ 1 <= n /\ qb c = 92 :: s.take n) /\
 ∀c' q r,c' < 256->qb c'=92::q->s=q++r->ok=true:=by
 have bad:∀c':Nat,c' < 256->∀q,qb c'=92::q->q=[34]\/q=[92]\/q=[110]\/∃a b,q=[120,hx.getD a 0,hx.getD b 0]/\a < 16/\b < 16/\c'=16*a+b/\(c' < 32\/126 < c')/\c'≠10:=by
  intro c' h q hq;rcases eH h with⟨h1,h2⟩ | ⟨h1,h2⟩ | ⟨h1,h2,h3⟩ | ⟨h1,h2,h3,h4,h5⟩
  . rw[h2]at hq;cases hq;rcases h1 with rfl | rfl
    . exact .inl rfl
    . exact .inr (.inl rfl)
  . rw[h2]at hq;cases hq;exact .inr (.inr (.inl rfl))
  . rw[h3]at hq;cases hq;exact .inr (.inr (.inr ⟨c' / 16,c' % 16,rfl,by omega,by omega,by omega,h1,h2⟩))
  . rw[h5]at hq;simp only[List.cons.injEq]at hq;have:=congrArg UInt8.toNat hq.1;rw[UInt8.toNat_ofNat_of_lt' (by omega)]at this;exact(h4 this).elim
 unfold gE;cases s with
 | nil=>
  refine⟨0,0,false,rfl,by simp,fun c' q r h1 h2 h3=>?_⟩;rcases bad c' h1 q h2 with h | h | h | ⟨a,b,h,_⟩ <;> subst h <;> simp at h3
 | cons a s=>
  have e0:(0:Int)=((0:Nat):Int):=rfl;rw[if_neg (by simp),if_pos (by simp[inR]),e0,bt];simp only[sb,List.getD_cons_zero,Int.toNat_natCast];by_cases h34:a=34
  . subst h34;refine⟨34,1,true,rfl,fun _=>⟨by omega,by simp,by omega,rfl⟩,fun _ _ _ _ _ _=>rfl⟩
  have n34:a.toNat≠34:=fun h=>h34 (UInt8.toNat_inj.1 h)
  rw[if_neg (by simp;omega)];by_cases h92:a=92
  . subst h92;refine⟨92,1,true,rfl,fun _=>⟨by omega,by simp,by omega,rfl⟩,fun _ _ _ _ _ _=>rfl⟩
  have n92:a.toNat≠92:=fun h=>h92 (UInt8.toNat_inj.1 h)
  rw[if_neg (by simp;omega)];by_cases h110:a=110
  . subst h110;refine⟨10,1,true,rfl,fun _=>⟨by omega,by simp,by omega,rfl⟩,fun _ _ _ _ _ _=>rfl⟩
  have n110:a.toNat≠110:=fun h=>h110 (UInt8.toNat_inj.1 h)
  rw[if_neg (by simp;omega)];by_cases h120:a=120
  . subst h120;rw[if_pos (show decide ((((120:UInt8).toNat:Nat):Int)=120)=true from rfl)]
    match s with
    | []=>
     refine⟨0,0,false,rfl,by simp,fun c' q r h1 h2 h3=>?_⟩;rcases bad c' h1 q h2 with h | h | h | ⟨a,b,h,_⟩ <;> subst h <;> simp at h3
    | [x]=>
     refine⟨0,0,false,rfl,by simp,fun c' q r h1 h2 h3=>?_⟩;rcases bad c' h1 q h2 with h | h | h | ⟨a,b,h,_⟩ <;> subst h <;> simp at h3
    | x::y::s=>
     have e1:(1:Int)=((1:Nat):Int):=rfl;have e2:(2:Int)=((2:Nat):Int):=rfl;rw[if_neg (by simp;omega),if_pos (by simp[inR]),e1,bt,e2,bt];simp only[List.getD_cons_succ,List.getD_cons_zero];rw[p5,sb,if_pos (by simp[inR]),p5,sb]
     have fail:((∀n,n < 16->hx.getD n 0≠x)\/∀n,n < 16->hx.getD n 0≠y)->∀c' q r,c' < 256->qb c'=92::q->(120::x::y::s:List UInt8)=q++r->False:=by
      intro hn c' q r h1 h2 h3;rcases bad c' h1 q h2 with h | h | h | ⟨a,b,h,ha,hb,_⟩ <;> subst h <;> simp at h3
      rcases hn with hn | hn
      . exact hn a ha (by simp[List.getD];exact h3.1.symm)
      . exact hn b hb (by simp[List.getD];exact h3.2.1.symm)
     rcases hx_ix x with⟨hx1,hx2⟩ | ⟨v,hv,hx1,hx2⟩
     . rw[hx1,if_pos (by simp)];exact⟨0,0,false,rfl,by simp,fun c' q r h1 h2 h3=>(fail (.inl hx2) c' q r h1 h2 h3).elim⟩
     rcases hx_ix y with⟨hy1,hy2⟩ | ⟨u,hu,hy1,hy2⟩
     . rw[hy1,if_pos (by simp)];exact⟨0,0,false,rfl,by simp,fun c' q r h1 h2 h3=>(fail (.inr hy2) c' q r h1 h2 h3).elim⟩
     rw[hx1,hy1,if_neg (by simp)];have ew:wrp .u8 (addI .i64 (mulI .i64 16 (v:Int)) (u:Int))=((16*v+u:Nat):Int):=by
      have e16:(16:Int)=((16:Nat):Int):=rfl;rw[pU (by omega) (by omega),iB (by omega) (by omega)];unfold wrp;rw[IntKind.wrap_u8];omega
     rw[ew];refine⟨16*v+u,3,_,rfl,fun hk=>?_,fun c' q r h1 h2 h3=>?_⟩
     . simp at hk;refine⟨by omega,by simp,by omega,?_⟩;rcases eH (n:=16*v+u) (by omega)with⟨h1,h2⟩ | ⟨h1,h2⟩ | ⟨h1,h2,h3⟩ | ⟨h1,h2,h3,h4,h5⟩
       . omega
       . omega
       . rw[h3,show(16*v+u) / 16=v by omega,show(16*v+u) % 16=u by omega,hx2,hy2];rfl
       . omega
     . rcases bad c' h1 q h2 with h | h | h | ⟨a,b,h,ha,hb,hc,hd,he⟩
       . subst h;simp at h3
       . subst h;simp at h3
       . subst h;simp at h3
       . subst h;simp only[List.cons_append,List.nil_append,List.cons.injEq,true_and]at h3;have inj:∀p q:Fin 16,hx.getD p.val 0=hx.getD q.val 0->p=q:=by decide+kernel
         have hva:v=a:=congrArg Fin.val (inj ⟨v,hv⟩ ⟨a,ha⟩ (by rw[hx2];exact h3.1));have hub:u=b:=congrArg Fin.val (inj ⟨u,hu⟩ ⟨b,hb⟩ (by rw[hy2];exact h3.2.1));subst hva hub;simp;omega
  . have n120:a.toNat≠120:=fun h=>h120 (UInt8.toNat_inj.1 h)
    rw[if_neg (by simp;omega)];refine⟨0,0,false,rfl,by simp,fun c' q r h1 h2 h3=>?_⟩;rcases bad c' h1 q h2 with h | h | h | ⟨a,b,h,_⟩ <;> subst h <;> simp at h3
    . exact(h34 h3.1).elim
    . exact(h92 h3.1).elim
    . exact(h110 h3.1).elim
    . exact(h120 h3.1).elim
theorem ke{b:List Int}{n:Nat}:strOf (b++[(n:Int)])=strOf b++[UInt8.ofNat n]:=by simp[strOf]
def Qd(s:List UInt8)(k:Nat)(b:List UInt8)(o:(List UInt8×Int×Bool) ⊕ Unit):Prop:=
 match o with
 | .inl x=>(x.2.2=true/\∃m rest,s.drop k=qm m++34::rest/\x.1=b++m/\x.2.1=((k+(qm m).length+1:Nat):Int))\/(x=([],0,false)/\∀m rest,s.drop k≠qm m++34::rest)
 | .inr _=>∀m rest,s.drop k≠qm m++34::rest
theorem Qd.step{s b:List UInt8}{k n c:Nat}{o:(List UInt8×Int×Bool) ⊕ Unit}(hc:c < 256)(h:s.drop k=qb c++s.drop (k+n))(hn:(qb c).length=n)(hq:Qd s (k+n) (b++[UInt8.ofNat c]) o):Qd s k b o:=by
 have no:(∀m rest,s.drop (k+n)≠qm m++34::rest)->∀m rest,s.drop k≠qm m++34::rest:=by
  intro hno m rest e;cases m with
  | nil=>
   rw[h]at e;exact gg hc e
  | cons c' m=>
   rw[h,bm,List.append_assoc]at e;have e1:=iD hc c'.toNat_lt e;rw[e1]at e;exact hno m rest (List.append_cancel_left e)
 cases o with
 | inl x=>
  rcases hq with⟨h1,m,rest,h2,h3,h4⟩ | ⟨h1,h2⟩
  . refine .inl ⟨h1,UInt8.ofNat c::m,rest,?_,?_,?_⟩
    . rw[h,h2,bm,UInt8.toNat_ofNat_of_lt' hc,List.append_assoc]
    . rw[h3,List.append_assoc];rfl
    . rw[h4,bm,UInt8.toNat_ofNat_of_lt' hc,List.length_append,hn];congr 1;omega
  . exact .inr ⟨h1,no h2⟩
 | inr u=>exact no hq
theorem kf(s:List UInt8)(hs:s.length<=20000):∀(f k:Nat) (b:List Int),s.length<=k+f->b.length<=k->∃o,cF (s,(k:Int),b)=some o/\Qd s k (strOf b) o
 | 0,k,b,h,hb=>by
  rw[cF,if_neg (by simp;omega)];refine⟨_,rfl,fun m rest e=>?_⟩;rw[List.drop_eq_nil_of_le (by omega)]at e;simp at e
 | f+1,k,b,h,hb=>by
  by_cases hk:k < s.length
  . rw[cF,if_pos (by simp;omega),if_pos (aT hk),bt,sb];have hd:=cO hk 0;have hc:=ow s k;generalize s.getD k 0=c at hd hc ⊢;by_cases h34:c=34
    . subst h34;rw[if_pos (show decide ((((34:UInt8).toNat:Nat):Int)=34)=true from rfl),bl (by omega)];exact⟨_,rfl,.inl ⟨rfl,[],s.drop (k+1),hd,by simp,by simp[qm]⟩⟩
    have n34:c.toNat≠34:=fun h=>h34 (UInt8.toNat_inj.1 h)
    rw[if_neg (by simp;omega)];by_cases h92:c=92
    . subst h92;rw[if_pos (show decide ((((92:UInt8).toNat:Nat):Int)=92)=true from rfl),bl (by omega),sb,if_pos (aQ (by omega) (by omega)),bG];obtain⟨c,n,ok,h1,h2,h3⟩:=yV (s.drop (k+1));rw[h1,sb];cases ok with
      | false=>
       rw[if_pos (show(!false)=true from rfl)];refine⟨_,rfl,.inr ⟨rfl,fun m rest e=>?_⟩⟩;rw[hd]at e;cases m with
       | nil=>simp[qm]at e
       | cons c' m=>
        rw[bm,List.append_assoc]at e;rcases eH c'.toNat_lt with⟨_,g⟩ | ⟨_,g⟩ | ⟨_,_,g⟩ | ⟨_,_,_,g0,g⟩
        . rw[g]at e;simp only[List.cons_append,List.cons.injEq]at e;cases h3 _ _ _ c'.toNat_lt g e.2
        . rw[g]at e;simp only[List.cons_append,List.cons.injEq]at e;cases h3 _ _ _ c'.toNat_lt g e.2
        . rw[g]at e;simp only[List.cons_append,List.cons.injEq]at e;cases h3 _ _ _ c'.toNat_lt g e.2
        . rw[g]at e;simp only[List.cons_append,List.cons.injEq]at e;have:=congrArg UInt8.toNat e.1;rw[UInt8.toNat_ofNat_of_lt' c'.toNat_lt]at this;exact(g0 this.symm).elim
      | true=>
       obtain⟨g1,g2,g3,g4⟩:=h2 rfl;have hl:n<=s.length - (k+1):=by simpa using g2
       rw[if_neg (by simp),sb,if_pos (e7 (by omega) (by simp;omega))];have e:addI .i64 (k:Int) (addI .i64 1 (n:Int))=((k+(1+n):Nat):Int):=by
        have e1:(1:Int)=((1:Nat):Int):=rfl;rw[e1,bj (by omega),bj (by omega)]
       rw[e];obtain⟨o,h4,h5⟩:=kf s hs f (k+(1+n)) (b++[(c:Int)]) (by omega) (by simp;omega);refine⟨o,h4,Qd.step g1 ?_ ?_ (ke▸h5)⟩
       . rw[hd,g4,List.cons_append]
         congr 1
         have:=List.take_append_drop n (s.drop (k+1));rw[List.drop_drop]at this;rw[show k+(1+n)=k+1+n by omega];exact this.symm
       . rw[g4];simp;omega
    have n92:c.toNat≠92:=fun h=>h92 (UInt8.toNat_inj.1 h)
    rw[if_neg (by simp;omega)];by_cases hp:c.toNat < 32\/126 < c.toNat
    . rw[if_pos (by simp;omega)];refine⟨_,rfl,.inr ⟨rfl,fun m rest e=>?_⟩⟩;rw[hd]at e;cases m with
      | nil=>
       simp[qm]at e;exact h34 e.1
      | cons c' m=>
       rw[bm,List.append_assoc]at e;rcases eH c'.toNat_lt with⟨_,g⟩ | ⟨_,g⟩ | ⟨_,_,g⟩ | ⟨g1,g2,_,g0,g⟩
       . rw[g]at e;simp only[List.cons_append,List.cons.injEq]at e;exact h92 e.1
       . rw[g]at e;simp only[List.cons_append,List.cons.injEq]at e;exact h92 e.1
       . rw[g]at e;simp only[List.cons_append,List.cons.injEq]at e;exact h92 e.1
       . rw[g]at e;simp only[List.cons_append,List.cons.injEq]at e;have:=congrArg UInt8.toNat e.1;rw[UInt8.toNat_ofNat_of_lt' c'.toNat_lt]at this;omega
    . rw[if_neg (by simp;omega),sb,if_pos (e7 (by omega) (by simp;omega)),bl (by omega)];obtain⟨o,h4,h5⟩:=kf s hs f (k+1) (b++[(c.toNat:Int)]) (by omega) (by simp;omega);have g:qb c.toNat=[c]:=by
       rcases eH hc with⟨g1,_⟩ | ⟨g1,_⟩ | ⟨g1,_⟩ | ⟨_,_,_,_,g⟩
       . omega
       . omega
       . exact(hp g1).elim
       . rw[g,UInt8.ofNat_toNat]
      exact⟨o,h4,Qd.step hc (by rw[hd,g];rfl) (by rw[g];rfl) (ke▸h5)⟩
  . rw[cF,if_neg (by simp;omega)];refine⟨_,rfl,fun m rest e=>?_⟩;rw[List.drop_eq_nil_of_le (by omega)]at e;simp at e
theorem uo(s:List UInt8)(hs:s.length<=20000):(∃m,s=qs m/\fA s=some (m,0))\/((∀m,s≠qs m)/\fA s=some ([],2)):=by
 unfold fA;cases s with
 | nil=>
  refine .inr ⟨fun m e=>by simp[qs]at e,rfl⟩
 | cons a s=>
  rw[sb,if_pos (by simp[inR])];have e0:(0:Int)=((0:Nat):Int):=rfl;rw[e0,bt,List.getD_cons_zero];by_cases h34:a=34
  . subst h34;rw[if_neg (by simp)];unfold jt;obtain⟨o,h1,h2⟩:=kf (34::s) hs s.length 1 [] (by simp;omega) (by simp);have e1:(1:Int)=((1:Nat):Int):=rfl;rw[e1,h1,sb];have hno:(∀m rest,(34::s:List UInt8).drop 1≠qm m++34::rest)->∀m,34::s≠qs m:=fun h m e=>h m [] (by rw[e];rfl)
    cases o with
    | inl x=>
     simp only[sb];rcases h2 with⟨h3,m,rest,h4,h5,h6⟩ | ⟨h3,h4⟩
     . rw[h3,h6];simp only[strOf,List.map_nil,List.nil_append]at h5;have h4:s=qm m++34::rest:=h4;by_cases hr:rest=[]
       . subst hr;rw[if_neg (by rw[h4];simp;omega),h5];exact .inl ⟨m,by rw[h4];rfl,rfl⟩
       . rw[if_pos (by
          rw[h4];have:0 < rest.length:=List.length_pos_iff.2 hr
          simp;omega)]
         refine .inr ⟨fun m' e=>hr ?_,rfl⟩;rw[h4]at e;simp only[qs,List.cons.injEq,true_and]at e;exact(gx e).2
     . rw[h3];exact .inr ⟨hno h4,rfl⟩
    | inr u=>exact .inr ⟨hno h2,rfl⟩
  . have n34:a.toNat≠34:=fun h=>h34 (UInt8.toNat_inj.1 h)
    rw[if_pos (by simp;omega)];exact .inr ⟨fun m e=>h34 (by simp[qs]at e;exact e.1),rfl⟩
def isD(c:UInt8):Prop:=48<=c.toNat/\c.toNat<=57
def vs(a:Nat)(c:UInt8):Nat:=a*10+(c.toNat - 48)
def vl(a:Nat)(l:List UInt8):Nat:=l.foldl vs a
theorem kP(a:Nat)(c:UInt8)(r:List UInt8):vl a (c::r)=vl (vs a c) r:=by unfold vl;rw[List.foldl_cons]
theorem vs_ge(a:Nat)(c:UInt8):a<=vs a c:=by unfold vs;generalize c.toNat - 48=k;omega
theorem vl_ge(l:List UInt8):∀(a:Nat),a<=vl a l:=by
 induction l with
 | nil=>intro a;exact Nat.le_refl _
 | cons c r ih=>
  intro a;rw[kP];exact Nat.le_trans (vs_ge a c) (ih _)
theorem wO(c:UInt8)(l:List UInt8)(a:Nat):vl a (l++[c])=vs (vl a l) c:=by unfold vl;rw[List.foldl_append];rfl
theorem vg{k:Nat}(h:k < 10):(UInt8.ofNat (48+k)).toNat=48+k:=by
 have:∀m:Fin 10,(UInt8.ofNat (48+m.val)).toNat=48+m.val:=by decide
 exact this ⟨k,h⟩
theorem wP(u:Nat):vl 0 (Lib.decDigits u)=u/\(∀c,c∈Lib.decDigits u->isD c)/\Lib.decDigits u≠[]:=by
 induction u using Nat.strongRecOn with
 | ind u ih=>
  have hd:∀k,k < 10->(UInt8.ofNat (48+k)).toNat=48+k:=fun k hk=>vg hk
  rw[Lib.decDigits];split
  . rename_i h;refine⟨?_,?_,by simp⟩
    . show vs 0 _=u;unfold vs;rw[hd u h];omega
    . intro c hc;simp only[List.mem_singleton]at hc;subst hc;unfold isD;rw[hd u h];omega
  . rename_i h;obtain⟨h1,h2,h3⟩:=ih (u / 10) (by omega);refine⟨?_,?_,by simp⟩
    . rw[wO,h1];unfold vs;rw[hd _ (Nat.mod_lt _ (by omega))];omega
    . intro c hc;rcases List.mem_append.1 hc with hc | hc
      . exact h2 c hc
      . simp only[List.mem_singleton]at hc;subst hc;unfold isD;rw[hd _ (Nat.mod_lt _ (by omega))];omega
theorem vY(l:List UInt8):∀(a:Nat),(∀c,c∈l->isD c)->vl a l < 9223372036854775808->Lib.parseUint10 a l= .ok (vl a l):=by
 induction l with
 | nil=>intro a _ _;rfl
 | cons c r ih=>
  intro a hd h;have hc:=hd c (by simp);rw[kP]at h ⊢;have hg:=vl_ge r (vs a c);have ih':=ih (vs a c) (fun d hd'=>hd d (by simp[hd'])) h;unfold isD at hc;have hv:vs a c=a*10+(c.toNat - 48):=rfl;rw[Lib.parseUint10.eq_2,if_pos hc,<-hv,ih',if_neg (by omega),if_neg (by omega)]
theorem kQ{a:Int}(h0:0<=a):∃c r,dg a=c::r/\(∀d,d∈dg a->isD d)/\(vl 0 (dg a):Int)=a:=by
 obtain⟨h1,h2,h3⟩:=wP a.toNat;cases e:dg a with
 | nil=>exact(h3 e).elim
 | cons c r=>
  refine⟨c,r,rfl,fun d hd=>h2 d (by rw[<-e]at hd;exact hd),?_⟩;rw[<-e];unfold dg;rw[h1];omega
theorem eI{a:Int}(h0:0<=a)(h1:a<=9223372036854775807):numV (dg a)=(a,true):=by
 obtain⟨c,r,e,h2,h3⟩:=kQ h0;have hc:=h2 c (by rw[e];simp);have ha:Lib.atoiAll (dg a)= .ok a:=by
  have hp:=vY (dg a) 0 h2 (by omega);unfold Lib.atoiAll;rw[e]at hp ⊢;unfold isD at hc;simp only[];rw[if_neg (by omega)];unfold Lib.parseMag;rw[if_neg (by simp),hp];simp only[];rw[e]at h3;rw[if_neg (by omega),if_neg (by omega),if_neg (by omega),h3]
 unfold numV;rw[ha];have:Lib.itoa a=dg a:=by unfold Lib.itoa dg;rw[if_neg (by omega)]
 simp[h0,this]
theorem wQ{l:List UInt8}{n:Int}(h:Lib.atoiAll l= .ok n):n<=9223372036854775807:=by
 unfold Lib.atoiAll at h;split at h
 . cases h
 . rename_i c r;cases e:Lib.parseMag (if c.toNat=43\/c.toNat=45 then r else c::r)
   . rename_i u;rw[e]at h;simp only[]at h;split at h
     . cases h
     . rename_i h1;split at h
       . cases h
       . cases h;split <;> omega
   . rw[e]at h;cases h
   . rw[e]at h;cases h
theorem pN{s:List UInt8}(h:(numV s).2=true):0<=(numV s).1/\(numV s).1<=9223372036854775807/\s=dg (numV s).1:=by
 unfold numV at h ⊢;cases e:Lib.atoiAll s
 . rename_i n;rw[e]at h;simp only[Bool.and_eq_true,decide_eq_true_eq,beq_iff_eq]at h ⊢;refine⟨h.1,wQ e,?_⟩;rw[<-h.2];unfold Lib.itoa dg;rw[if_neg (by omega)]
 . rw[e]at h;cases h
 . rw[e]at h;cases h
theorem kR(c:UInt8):∀(s:List UInt8),(c ∉ s/\Lib.indexByte s c= -1)\/∃a b,s=a++c::b/\c ∉ a/\Lib.indexByte s c=(a.length:Int)
 | []=>.inl ⟨by simp,rfl⟩
 | d::r=>by
  unfold Lib.indexByte;by_cases h:d=c
  . subst h;exact .inr ⟨[],r,rfl,by simp,by simp⟩
  . rw[if_neg (by simpa using h)];rcases kR c r with⟨h1,h2⟩ | ⟨a,b,h1,h2,h3⟩
    . exact .inl ⟨by simp[Ne.symm h,h1],by rw[h2];rfl⟩
    . refine .inr ⟨d::a,b,by rw[h1];rfl,by simp[Ne.symm h,h2],?_⟩;rw[h3,if_neg (by simp)];simp
theorem ky{α:Type}{c:α}:∀{a a' b b':List α},a++c::b=a'++c::b'->c ∉ a->c ∉ a'->a=a'/\b=b'
 | [],[],b,b',h,_,_=>by simpa using h
 | [],d::a',b,b',h,_,h2=>by simp at h;simp[h.1]at h2
 | d::a,[],b,b',h,h1,_=>by simp at h;simp[h.1]at h1
 | d::a,d'::a',b,b',h,h1,h2=>by
  simp only[List.cons_append,List.cons.injEq]at h;obtain⟨e1,e2⟩:=ky h.2 (fun m=>h1 (by simp[m])) (fun m=>h2 (by simp[m]));exact⟨by rw[h.1,e1],e2⟩
theorem wR(c:UInt8)(s:List UInt8)(hs:s.length<=20000):(c ∉ s/\ek (s,[c])=some (s,[],false))\/∃a b,s=a++c::b/\c ∉ a/\ek (s,[c])=some (a,b,true):=by
 unfold ek iM eR;simp only[sb];rcases kR c s with⟨h1,h2⟩ | ⟨a,b,h1,h2,h3⟩
 . rw[h2,if_neg (by simp)];exact .inl ⟨h1,rfl⟩
 . rw[h3,if_pos (by simp)];have hl:s.length=a.length+(b.length+1):=by rw[h1];simp
   have e0:(0:Int)=((0:Nat):Int):=rfl;have e1:(([c]:List UInt8).length:Int)=((1:Nat):Int):=rfl;rw[e0,if_pos (aQ (by omega) (by omega)),e1,bj (by omega),if_pos (aQ (by omega) (by omega)),bG];refine .inr ⟨a,b,h1,h2,?_⟩;rw[<-e0,ck,h1];simp
theorem dg_no{a:Int}(h:0<=a){c:UInt8}(hc:c.toNat < 48):c ∉ dg a:=by
 intro hm;obtain⟨_,_,_,h2,_⟩:=kQ h;have:=h2 c hm;unfold isD at this;omega
def GoodL(l:List af):Prop:=(∀x,x∈l->bX x)/\l.all pos=true
theorem mS (ls : List (List UInt8)) (hs : ∀ s, s ∈ ls -> s.length <= 20000) (hl : ls.length <= 20000): ∀ (f k : Nat) (b : List af), k + f = ls.length -> b.length <= k ->
 ∃o,dn (ls,(ls.length:Int),(k:Int),b)=some o/\match o with
  | .inl x=>x=false/\∀l,GoodL l->ls.drop k≠l.map ln
  | .inr b'=>∃l,GoodL l/\ls.drop k=l.map ln/\b'=b++l
 | 0,k,b,h,hb=>by
  rw[dn,if_neg (by simp;omega)];exact⟨_,rfl,[],⟨by simp,rfl⟩,by rw[List.drop_eq_nil_of_le (by omega)];rfl,by simp⟩
 | f+1,k,b,h,hb=>by
  have hk:k < ls.length:=by omega
  have hd:=cO hk [];have hm:ls.getD k []∈ls:=by simp[List.getD,hk]
  have hlen:=hs _ hm;rw[dn,if_pos (by simp;omega),if_pos (aT hk),Int.toNat_natCast];generalize ls.getD k []=s at hd hlen ⊢
  have key:∃r1 r2 r3,ek (s,[32])=some (r1,r2,r3)/\r1.length<=20000/\r2.length<=20000/\((r3=true/\(numV r1).2=true/\(numV r2).2=true/\s=r1++[32]++r2)\/((r3=false\/(numV r1).2=false\/(numV r2).2=false)/\∀x,bX x->pos x=true->s≠ln x)):=by
   have no:∀x,bX x->pos x=true->s=ln x->∀a b,s=a++32::b->(32:UInt8) ∉ a->(numV a).2=true/\(numV b).2=true:=by
    intro x h1 h2 h3 a b h4 h5;simp[pos]at h2;rw[h3]at h4;have e:dg x.A0++32::dg x.A1=a++32::b:=by rw[<-h4];simp[ln]
    obtain⟨e1,e2⟩:=ky e (dg_no h2.1 (by decide)) h5;rw[<-e1,<-e2,eI h2.1 h1.1.2,eI h2.2 h1.2.2];exact⟨rfl,rfl⟩
   rcases wR 32 s hlen with⟨h1,h2⟩ | ⟨a,c,h1,h2,h3⟩
   . refine⟨s,[],false,h2,hlen,by simp,.inr ⟨.inl rfl,fun x g1 g2 g3=>h1 ?_⟩⟩;rw[g3];simp[ln]
   . have hal:s.length=a.length+(c.length+1):=by rw[h1];simp
     refine⟨a,c,true,h3,by omega,by omega,?_⟩;by_cases g:(numV a).2=true/\(numV c).2=true
     . exact .inl ⟨rfl,g.1,g.2,by rw[h1];simp⟩
     . refine .inr ⟨.inr ?_,fun x g1 g2 g3=>g (no x g1 g2 g3 a c h1 h2)⟩;cases h4:(numV a).2
       . exact .inl rfl
       . rw[h4]at g;simp at g;exact .inr g
  obtain⟨r1,r2,r3,h1,h2,h3,h4⟩:=key;rw[h1,sb];unfold numG;rw[if_pos (by simp;omega),sb,if_pos (by simp;omega),sb];rcases h4 with⟨g1,g2,g3,g4⟩ | ⟨g1,g2⟩
  . subst g1;rw[if_neg (by simp[g2,g3]),sb,if_pos (e7 (by omega) (by simp;omega)),bl (by omega)];obtain⟨p1,p2,p3⟩:=pN g2;obtain⟨q1,q2,q3⟩:=pN g3;have hx:bX (⟨(numV r1).1,(numV r2).1⟩:af):=⟨⟨by show _<=(numV r1).1;omega,p2⟩,by show _<=(numV r2).1;omega,q2⟩
    have hp:pos (⟨(numV r1).1,(numV r2).1⟩:af)=true:=by simp[pos,p1,q1]
    have hsx:s=ln (⟨(numV r1).1,(numV r2).1⟩:af):=by
     show s=dg (numV r1).1++[32]++dg (numV r2).1;rw[<-p3,<-q3];exact g4
    obtain⟨o,e1,e2⟩:=mS ls hs hl f (k+1) (b++[(⟨(numV r1).1,(numV r2).1⟩:af)]) (by omega) (by simp;omega);refine⟨o,e1,?_⟩;cases o with
    | inl x=>
     refine⟨e2.1,fun l hl' e=>?_⟩;cases l with
     | nil=>rw[hd]at e;cases e
     | cons y l=>
      rw[hd]at e;simp only[List.map_cons,List.cons.injEq]at e;have hl2:=hl'.2;simp only[List.all_cons,Bool.and_eq_true]at hl2;exact e2.2 l ⟨fun z hz=>hl'.1 z (by simp[hz]),hl2.2⟩ e.2
    | inr b'=>
     obtain⟨l,hl',e3,e4⟩:=e2;refine⟨_::l,⟨fun z hz=>?_,?_⟩,by rw[hd,e3,List.map_cons,<-hsx],by rw[e4,List.append_assoc];rfl⟩
     . rcases List.mem_cons.1 hz with rfl | hz
       . exact hx
       . exact hl'.1 z hz
     . rw[List.all_cons,hp,hl'.2];rfl
  . rw[if_pos (by rcases g1 with g1 | g1 | g1 <;> rw[g1] <;> cases r3 <;> cases (numV r1).2 <;> rfl)];refine⟨_,rfl,rfl,fun l hl' e=>?_⟩;cases l with
    | nil=>rw[hd]at e;cases e
    | cons y l=>
     rw[hd]at e;simp only[List.map_cons,List.cons.injEq]at e;have hl2:=hl'.2;simp only[List.all_cons,Bool.and_eq_true]at hl2;exact g2 y (hl'.1 y (by simp)) hl2.1 e.1
theorem s6(ls:List (List UInt8))(hs:∀s,s∈ls->s.length<=20000)(hl:ls.length<=20000):(∃l,GoodL l/\ls=l.map ln/\fl ls=some (l,true))\/((∀l,GoodL l->ls≠l.map ln)/\fl ls=some ([],false)):=by
 unfold fl;have e0:(0:Int)=((0:Nat):Int):=rfl;obtain⟨o,h1,h2⟩:=mS ls hs hl ls.length 0 [] (by omega) (by simp);rw[e0,h1,sb];cases o with
 | inl x=>
  obtain⟨rfl,h2⟩:=h2;exact .inr ⟨h2,rfl⟩
 | inr b=>
  obtain⟨l,h3,h4,h5⟩:=h2;rw[List.nil_append]at h5;subst h5;exact .inl ⟨b,h3,h4,rfl⟩
def spl :List UInt8->List (List UInt8)
 | []=>[[]]
 | c::r=>if c=10 then[]::spl r else match spl r with
  | []=>[[c]]
  | h::t=>(c::h)::t
theorem iE :∀(s:List UInt8),spl s≠[]
 | []=>by simp[spl]
 | c::r=>by
  unfold spl;split
  . simp
  . split <;> simp
theorem ll :∀(a b:List UInt8),(10:UInt8) ∉ a->spl (a++10::b)=a::spl b
 | [],b,_=>by simp[spl]
 | c::a,b,h=>by
  simp only[List.mem_cons,not_or]at h;rw[List.cons_append,spl,if_neg (Ne.symm h.1),ll a b h.2]
theorem kS :∀(a:List UInt8),(10:UInt8) ∉ a->spl a=[a]
 | [],_=>rfl
 | c::a,h=>by
  simp only[List.mem_cons,not_or]at h;rw[spl,if_neg (Ne.symm h.1),kS a h.2]
theorem wS(s:List UInt8):(spl s).length=Lib.countByte s 10+1:=by
 unfold Lib.countByte
 induction s with
 | nil=>rfl
 | cons c r ih=>
  unfold spl;by_cases h:c=10
  . rw[if_pos h,h,List.count_cons_self,List.length_cons,ih]
  . rw[if_neg h,List.count_cons_of_ne h];cases e:spl r with
    | nil=>exact(iE r e).elim
    | cons x t=>rw[e]at ih;exact ih
def jn(l:List (List UInt8)):List UInt8:=l.flatMap fun s=>s++[10]
theorem p6 :∀(s:List UInt8),jn (spl s)=s++[10]
 | []=>rfl
 | c::r=>by
  have ih:=p6 r;unfold spl;by_cases h:c=10
  . rw[if_pos h,h];simp only[jn,List.flatMap_cons]at ih ⊢;rw[ih];rfl
  . rw[if_neg h];cases e:spl r with
    | nil=>exact(iE r e).elim
    | cons x t=>
     rw[e]at ih;simp only[jn,List.flatMap_cons]at ih ⊢;rw[List.cons_append,List.cons_append,ih];rfl
theorem iF :∀(l:List (List UInt8)),l≠[]->∃s',jn l=s'++[10]
 | [],h=>(h rfl).elim
 | [x],_=>⟨x,by simp[jn]⟩
 | x::y::l,_=>by
  obtain⟨s',h⟩:=iF (y::l) (by simp);have e:jn (x::y::l)=x++10::jn (y::l):=by simp[jn]
  exact⟨x++10::s',by rw[e,h];simp⟩
theorem iG :∀(ls:List (List UInt8)) (s:List UInt8),ls≠[]->(∀l,l∈ls->(10:UInt8) ∉ l)->s++[10]=jn ls->spl s=ls
 | [],_,h,_,_=>(h rfl).elim
 | [a],s,_,h,e=>by
  simp only[jn,List.flatMap_cons,List.flatMap_nil,List.append_nil]at e;rw[List.append_cancel_right e];exact kS a (h a (by simp))
 | a::b::ls,s,_,h,e=>by
  have hne:jn (b::ls)≠[]:=by simp[jn]
  have e2:jn (a::b::ls)=a++10::jn (b::ls):=by simp[jn]
  obtain⟨s',hs'⟩:=iF (b::ls) (by simp);rw[e2,hs']at e;have e3:s++[10]=(a++10::s')++[10]:=by rw[e];simp
  rw[List.append_cancel_right e3,ll a s' (h a (by simp)),iG (b::ls) s' (by simp) (fun l hl=>h l (by simp at hl ⊢;exact .inr hl)) hs'.symm]
theorem vh(s:List UInt8):∀l,l∈spl s->l.length<=s.length:=by
 induction s with
 | nil=>simp[spl]
 | cons c r ih=>
  intro l hl;unfold spl at hl;by_cases h:c=10
  . rw[if_pos h]at hl;rcases List.mem_cons.1 hl with rfl | hl
    . simp
    . have:=ih l hl;simp;omega
  . rw[if_neg h]at hl;cases e:spl r with
    | nil=>exact(iE r e).elim
    | cons x t=>
     rw[e]at hl ih;rcases List.mem_cons.1 hl with rfl | hl
     . have:=ih x (by simp);simp;omega
     . have:=ih l (by simp[hl]);simp;omega
theorem vj(s:List UInt8)(c:UInt8):jg (s,[c])=some (Lib.indexByte s c):=rfl
theorem wT(s:List UInt8)(c:UInt8):gf (s,[c])=some ((Lib.countByte s c:Nat):Int):=rfl
theorem o9 (n : Nat) (hn : n <= 100000): ∀ (f i : Nat) (s : List UInt8) (b : List (List UInt8)), s.length <= 20000 -> Lib.countByte s 10 = f -> i + f = n -> b.length = n + 1 ->
 ∃s' b',cX (s,[10],0,(n:Int),(i:Int),b)=some (s',(n:Int),b')/\b'.length=n+1/\b'.take n++[s']=b.take i++spl s
 | 0,i,s,b,hs,hc,hi,hb=>by
  rw[cX,if_neg (by simp;omega)];have h10:(10:UInt8) ∉ s:=by
   unfold Lib.countByte at hc;exact List.count_eq_zero.1 hc
  have:i=n:=by omega
  subst this;exact⟨s,b,rfl,hb,by rw[kS s h10]⟩
 | f+1,i,s,b,hs,hc,hi,hb=>by
  rw[cX,if_pos (by simp;omega)];rw[vj,sb];rcases kR 10 s with⟨h1,h2⟩ | ⟨a,r,h1,h2,h3⟩
  . unfold Lib.countByte at hc;rw[List.count_eq_zero_of_not_mem h1]at hc;omega
  . have hl:s.length=a.length+(r.length+1):=by rw[h1];simp
    have e0:(0:Int)=((0:Nat):Int):=rfl;have e1:(([10]:List UInt8).length:Int)=((1:Nat):Int):=rfl;rw[h3,if_neg (by simp),e0,bj (by omega),sb,if_pos (aQ (by omega) (by omega)),if_pos (aT (by omega)),if_pos (by simp;omega),e1,bj (by omega),sb,if_pos (aQ (by omega) (by omega)),bG,bl (by omega),<-e0,Nat.add_zero,ck,Int.toNat_natCast]
    have er:s.drop (a.length+1)=r:=by rw[h1];simp
    have ea:s.take (a.length+0)=a:=by rw[h1];simp
    rw[er,ea]
    obtain⟨s',b',g1,g2,g3⟩:=o9 n hn f (i+1) r (b.set i a) (by omega) (by
     unfold Lib.countByte at hc ⊢;rw[h1,List.count_append,List.count_eq_zero_of_not_mem h2,List.count_cons_self]at hc
     omega) (by omega) (by simp;exact hb)
    refine⟨s',b',g1,g2,?_⟩;rw[g3,h1,ll a r h2];have:(b.set i a).take (i+1)=b.take i++[a]:=by
     rw[List.take_add_one,List.take_set_of_le (Nat.le_refl _)];simp[show i < b.length by omega]
    rw[this];simp
theorem vZ(s:List UInt8)(hs:s.length<=20000):gF (s,[10])=some (spl s):=by
 unfold gF iU;dsimp only;rw[if_neg (by decide),if_neg (by decide),if_pos (by decide)];have hc:Lib.countByte s 10<=s.length:=List.count_le_length;have e1:(1:Int)=((1:Nat):Int):=rfl;have hm:minI (addI .i64 (Lib.countByte s 10:Int) 1) (addI .i64 (s.length:Int) 1)=((Lib.countByte s 10+1:Nat):Int):=by
  rw[e1,bj (by omega),bj (by omega),vH]
  congr 1;omega
 have hs1:subI .i64 ((Lib.countByte s 10+1:Nat):Int) 1=((Lib.countByte s 10:Nat):Int):=by
  unfold subI;rw[IntKind.wrap_i64];omega
 rw[wT,sb,sb,hm,if_pos (pn.2 ⟨by omega,by unfold bh;omega,by unfold az;omega⟩),hs1];have e0:(0:Int)=((0:Nat):Int):=rfl;obtain⟨s',b',g1,g2,g3⟩:=o9 (Lib.countByte s 10) (by omega) _ 0 s (List.replicate ((Lib.countByte s 10+1:Nat):Int).toNat []) hs rfl (by omega) (by simp);rw[<-e0]at g1;rw[g1,sb];simp only[]
 rw[if_pos (aT (by omega)),if_pos (by simp;omega),sb,bl (by omega),sb,Int.toNat_natCast];have hl:(b'.set (Lib.countByte s 10) s').length=Lib.countByte s 10+1:=by simp;exact g2
 rw[e0,if_pos (aQ (by omega) (by omega)),<-e0,ck];have:(b'.set (Lib.countByte s 10) s').take (Lib.countByte s 10+1)=b'.take (Lib.countByte s 10)++[s']:=by
  rw[List.take_add_one,List.take_set_of_le (Nat.le_refl _)];simp[show Lib.countByte s 10 < b'.length by omega]
 rw[this,g3];simp
def GoodV(v:aq):Prop:=vok v=true/\∀x,x∈v.Relation->bX x
theorem bP{v:aq}(h:GoodV v)(hc:v.Compatible=false):v=(⟨false,[],v.Message⟩:aq)/\fmtv v=misB++qs v.Message++[10]:=by
 obtain⟨h1,_⟩:=h;unfold fmtv;rw[if_pos h1,if_neg (by rw[hc];simp)];unfold vok at h1;rw[if_neg (by rw[hc];simp)]at h1;refine⟨?_,rfl⟩;cases v;simp_all
theorem bu{v:aq}(h:GoodV v)(hc:v.Compatible=true):v=(⟨true,v.Relation,[]⟩:aq)/\GoodL v.Relation/\fmtv v=jn (cmpB::v.Relation.map ln):=by
 obtain⟨h1,h2⟩:=h;have e:fmtv v=cmpB++[10]++lns v.Relation:=by unfold fmtv;rw[if_pos h1,if_pos hc]
 unfold vok at h1;rw[if_pos hc]at h1;simp only[Bool.and_eq_true,decide_eq_true_eq]at h1;refine⟨?_,⟨h2,h1.2⟩,?_⟩
 . cases v;simp_all
 . rw[e];simp only[jn,lns,List.flatMap_cons,List.flatMap_map]
theorem ig(m:List UInt8):GoodV (⟨false,[],m⟩:aq):=⟨rfl,by simp⟩
theorem kz{l:List af}(h:GoodL l):GoodV (⟨true,l,[]⟩:aq):=⟨by unfold vok;simp[h.2],h.1⟩
theorem ln_no{x:af}(h:pos x=true):(10:UInt8) ∉ ln x:=by
 simp[pos]at h;have h1:=dg_no h.1 (c:=10) (by decide);have h2:=dg_no h.2 (c:=10) (by decide);simp[ln,h1,h2]
theorem sA(s:List UInt8)(hs:s.length<=100000):(∃b,s=b++[10]/\fi (s,[10])=some (b,true))\/((∀b,s≠b++[10])/\fi (s,[10])=some (s,false)):=by
 unfold fi iI iH;dsimp only;have e1:(([10]:List UInt8).length:Int)=((1:Nat):Int):=rfl;rw[e1];by_cases h:s=[]
 . subst h;exact .inr ⟨by simp,rfl⟩
 . have hl:0 < s.length:=List.length_pos_iff.2 h;have hsub:subI .i64 (s.length:Int) ((1:Nat):Int)=((s.length - 1:Nat):Int):=by
    unfold subI;rw[IntKind.wrap_i64];omega
   rw[sb,sb,hsub,if_pos (by rw[aQ (by omega) (by omega)];rfl),bG];have ht:decide (((1:Nat):Int)<=(s.length:Int))=true:=by simp;omega
   rw[ht];simp only[sb,cond_true];have hd:s.take (s.length - 1)++s.drop (s.length - 1)=s:=List.take_append_drop _ _;by_cases h10:s.drop (s.length - 1)=[10]
   . rw[h10]at hd;have e0:(0:Int)=((0:Nat):Int):=rfl;rw[if_neg (by simp[h10]),e0,if_pos (aQ (by omega) (by omega)),<-e0,ck];exact .inl ⟨_,hd.symm,rfl⟩
   . rw[if_pos (by simp[h10])];refine .inr ⟨fun b e=>h10 ?_,rfl⟩;rw[e];simp
theorem sB(s p:List UInt8)(hs:s.length<=100000)(hp:p.length<=100):(∃b,s=p++b/\fj (s,p)=some (b,true))\/((∀b,s≠p++b)/\fj (s,p)=some (s,false)):=by
 unfold fj iL iK;dsimp only;have e0:(0:Int)=((0:Nat):Int):=rfl;by_cases hl:p.length<=s.length
 . rw[sb,sb,e0,if_pos (by rw[aQ (by omega) (by omega)];rfl),<-e0,ck];have ht:decide ((p.length:Int)<=(s.length:Int))=true:=by simp;omega
   rw[ht];simp only[sb,cond_true];have hd:s.take p.length++s.drop p.length=s:=List.take_append_drop _ _;by_cases h:s.take p.length=p
   . rw[h]at hd;rw[if_neg (by simp[h]),if_pos (aQ (by omega) (by omega)),bG];exact .inl ⟨_,hd.symm,rfl⟩
   . rw[if_pos (by simp[h])];refine .inr ⟨fun b e=>h ?_,rfl⟩;rw[e];simp
 . have ht:decide ((p.length:Int)<=(s.length:Int))=false:=by simp;omega
   rw[sb,sb,ht,if_pos (by simp)];simp only[sb,cond_false];rw[if_pos (by rfl)];refine .inr ⟨fun b e=>hl ?_,rfl⟩;rw[e];simp
theorem v7(s:List UInt8)(hs:s.length<=20000):(∃v,GoodV v/\s=fmtv v/\dz s=some (v,0))\/((∀v,GoodV v->s≠fmtv v)/\dz s=some ((⟨false,[],[]⟩:aq),2)):=by
 have ends:∀v,GoodV v->∃b,fmtv v=b++[10]:=by
  intro v h;cases hc:v.Compatible
  . exact⟨_,(bP h hc).2⟩
  . rw[(bu h hc).2.2];exact iF _ (by simp)
 unfold dz;rw[if_neg (by simp;omega)];rcases sA s (by omega)with⟨b,h1,h2⟩ | ⟨h1,h2⟩
 . rw[h2,sb,if_neg (by simp)];have hb:b.length+1=s.length:=by rw[h1];simp
   have em:([109,105,115,114,101,97,100,32]:List UInt8)=misB:=rfl;rw[em];rcases sB b misB (by omega) (by decide)with⟨q,h3,h4⟩ | ⟨h3,h4⟩
   . rw[h4,sb,if_pos rfl];have hq:q.length+8=b.length:=by rw[h3];simp[misB]
     rcases uo q (by omega)with⟨m,h5,h6⟩ | ⟨h5,h6⟩
     . rw[h6,sb,if_neg (by simp)];refine .inl ⟨(⟨false,[],m⟩:aq),ig m,?_,rfl⟩;rw[(bP (ig m) rfl).2,h1,h3,h5]
     . rw[h6,sb,if_pos (by simp)];refine .inr ⟨fun v hv e=>?_,rfl⟩;cases hc:v.Compatible
       . rw[(bP hv hc).2,h1,h3]at e;exact h5 _ (List.append_cancel_left (List.append_cancel_right e))
       . rw[(bu hv hc).2.2,h1,h3]at e;simp[jn,misB,cmpB]at e
   . rw[h4,sb,if_neg (by simp),vZ b (by omega),sb];have hsl:(spl b).length<=20000:=by
      rw[wS];have:Lib.countByte b 10<=b.length:=List.count_le_length;omega
     obtain⟨x,t,hx⟩:∃x t,spl b=x::t:=by
      cases e:spl b with
      | nil=>exact(iE b e).elim
      | cons x t=>exact⟨x,t,rfl⟩
     have e1:(1:Int)=((1:Nat):Int):=rfl;rw[e1,if_pos (aQ (by rw[hx];simp) (by omega)),bG];have hd:(spl b).drop 1=t:=by rw[hx];rfl
     have hg:(spl b).getD (0:Int).toNat []=x:=by rw[hx];rfl
     have no:∀v,GoodV v->s=fmtv v->∃l,GoodL l/\x=cmpB/\t=l.map ln/\v=(⟨true,l,[]⟩:aq):=by
      intro v hv e;cases hc:v.Compatible
      . rw[(bP hv hc).2,h1,List.append_assoc]at e;refine(h3 (qs v.Message) ?_).elim;rw[<-List.append_assoc]at e;exact List.append_cancel_right e
      . obtain⟨g1,g2,g3⟩:=bu hv hc;rw[g3,h1]at e
        have:=iG _ b (by simp) (by
         intro l hl;rcases List.mem_cons.1 hl with rfl | hl
         . decide
         . obtain⟨y,hy,rfl⟩:=List.mem_map.1 hl
           exact ln_no (List.all_eq_true.1 g2.2 y hy)) e
        rw[hx,List.cons.injEq]at this;exact⟨v.Relation,g2,this.1,this.2,g1⟩
     rw[hd,hg]
     rcases s6 t (fun l hl=>by
      have:=vh b l (by rw[hx];simp[hl])
      omega) (by rw[hx]at hsl;simp at hsl;omega)with⟨l,g1,g2,g3⟩ | ⟨g1,g2⟩
     . rw[g3,sb,if_pos (by rw[hx];simp[inR])];by_cases hxc:x=cmpB
       . rw[if_neg (by rw[hxc];simp[cmpB])];refine .inl ⟨_,kz g1,?_,rfl⟩;rw[(bu (kz g1) rfl).2.2,h1,<-p6 b,hx,hxc,g2]
       . rw[if_pos (by simp;exact hxc)];refine .inr ⟨fun v hv e=>?_,rfl⟩;obtain⟨_,_,e1,_⟩:=no v hv e;exact hxc e1
     . rw[g2,sb,if_pos (by rw[hx];simp[inR]),if_pos (by simp)];refine .inr ⟨fun v hv e=>?_,rfl⟩;obtain⟨l,e0,_,e2,_⟩:=no v hv e;exact g1 l e0 e2
 . rw[h2,sb,if_pos (show(!false)=true from rfl)];refine .inr ⟨fun v hv e=>?_,rfl⟩;obtain⟨b,hb⟩:=ends v hv;exact h1 b (e.trans hb)
theorem yW{x y:af}(hx:bX x)(hp:pos x=true)(hy:bX y)(hq:pos y=true)(h:ln x=ln y):x=y:=by
 simp[pos]at hp hq;have e:dg x.A0++32::dg x.A1=dg y.A0++32::dg y.A1:=by simpa[ln]using h
 obtain⟨e1,e2⟩:=ky e (dg_no hp.1 (by decide)) (dg_no hq.1 (by decide));have f1:=eI hp.1 hx.1.2;have f2:=eI hp.2 hx.2.2;rw[e1,eI hq.1 hy.1.2]at f1;rw[e2,eI hq.2 hy.2.2]at f2;cases x;cases y;simp only[Prod.mk.injEq,and_true]at f1 f2;rw[af.mk.injEq];exact⟨f1.symm,f2.symm⟩
theorem pO :∀{l l':List af},GoodL l->GoodL l'->l.map ln=l'.map ln->l=l'
 | [],[],_,_,_=>rfl
 | [],y::l',_,_,h=>by cases h
 | x::l,[],_,_,h=>by cases h
 | x::l,y::l',h1,h2,h=>by
  obtain⟨a1,a2⟩:=h1;obtain⟨b1,b2⟩:=h2;simp only[List.all_cons,Bool.and_eq_true]at a2 b2;simp only[List.map_cons,List.cons.injEq]at h;rw[yW (a1 x (by simp)) a2.1 (b1 y (by simp)) b2.1 h.1,pO ⟨fun z hz=>a1 z (by simp[hz]),a2.2⟩ ⟨fun z hz=>b1 z (by simp[hz]),b2.2⟩ h.2]
theorem pb{l:List af}(h:GoodL l):∀s,s∈cmpB::l.map ln->(10:UInt8) ∉ s:=by
 intro s hs;rcases List.mem_cons.1 hs with rfl | hs
 . decide
 . obtain⟨y,hy,rfl⟩:=List.mem_map.1 hs;exact ln_no (List.all_eq_true.1 h.2 y hy)
theorem v8{v w:aq}(hv:GoodV v)(hw:GoodV w)(h:fmtv v=fmtv w):v=w:=by
 cases hc:v.Compatible <;> cases hd:w.Compatible
 . obtain⟨a1,a2⟩:=bP hv hc;obtain⟨b1,b2⟩:=bP hw hd;rw[a2,b2]at h;have e:=List.append_cancel_left (List.append_cancel_right h);simp only[qs,List.cons.injEq,true_and]at e;rw[a1,b1,(gx e).1]
 . obtain⟨a1,a2⟩:=bP hv hc;obtain⟨b1,b2,b3⟩:=bu hw hd;rw[a2,b3]at h;simp[jn,misB,cmpB]at h
 . obtain⟨a1,a2,a3⟩:=bu hv hc;obtain⟨b1,b2⟩:=bP hw hd;rw[a3,b2]at h;simp[jn,misB,cmpB]at h
 . obtain⟨a1,a2,a3⟩:=bu hv hc;obtain⟨b1,b2,b3⟩:=bu hw hd;obtain⟨s,hs⟩:=iF (cmpB::v.Relation.map ln) (by simp);have e1:=iG _ s (by simp) (pb a2) hs.symm;have e2:=iG _ s (by simp) (pb b2) (by rw[<-hs,<-a3,h,b3]);rw[e1,List.cons.injEq]at e2;rw[a1,b1,pO a2 b2 e2.2]
theorem pd(l:List af)(hl:l.length<=100000):∀(f k:Nat),k+f=l.length->dm (l,l,(k:Int))=some (.inr ())
 | 0,k,h=>by rw[dm,if_neg (by simp;omega)]
 | f+1,k,h=>by
  have hk:k < l.length:=by omega
  rw[dm,if_pos (by simp;omega),if_pos (aT hk),sb,if_pos (aT hk),sb,if_neg (by simp[eqI]),bl (by omega),pd l hl f (k+1) (by omega)]
theorem pP(v:aq)(hl:v.Relation.length<=100000):fp (v,v)=some true:=by
 unfold fp iR;have e0:(0:Int)=((0:Nat):Int):=rfl;have h:=pd v.Relation hl v.Relation.length 0 (by omega);rw[<-e0]at h;simp only[sb];rw[if_pos (by simp[eqB]),if_neg (by simp),h];simp[eqB]
theorem wrp8{k:Nat}(h:k < 256):wrp .u8 (k:Int)=(k:Int):=by unfold wrp;rw[IntKind.wrap_u8];omega
theorem j3(s:List UInt8)(hs:s.length<=20000):∀(f k:Nat),k+f=256->∃o,dp (s,(k:Int))=some o/\(match o with | .inl c=>∃n:Nat,c=(n:Int)/\n < 256/\qb n <+:s | .inr _=>∀n,k<=n->n < 256->¬qb n <+:s)
 | 0,k,h=>by
  rw[dp,if_neg (by simp;omega)];exact⟨_,rfl,fun n h1 h2=>by omega⟩
 | f+1,k,h=>by
  have hq:=iC k;rw[dp,if_pos (by simp;omega),wrp8 (by omega),kd (by omega),sb,sb,sb];have e0:(0:Int)=((0:Nat):Int):=rfl;by_cases hl:(qb k).length<=s.length
  . have ht:decide (((qb k).length:Int)<=(s.length:Int))=true:=by simp;omega
    rw[e0,if_pos (by rw[aQ (by omega) hl];rfl),<-e0,ck,ht];simp only[cond_true,decide_eq_true_eq];by_cases hp:s.take (qb k).length=qb k
    . rw[if_pos hp];exact⟨_,rfl,k,rfl,by omega,List.prefix_iff_eq_take.2 hp.symm⟩
    . rw[if_neg hp,bl (by omega)];obtain⟨o,h1,h2⟩:=j3 s hs f (k+1) (by omega);refine⟨o,h1,?_⟩;cases o with
      | inl c=>exact h2
      | inr u=>
       intro n h3 h4;rcases Nat.eq_or_lt_of_le h3 with rfl | h5
       . exact fun h=>hp (List.prefix_iff_eq_take.1 h).symm
       . exact h2 n h5 h4
  . have ht:decide (((qb k).length:Int)<=(s.length:Int))=false:=by simp;omega
    rw[ht,if_pos (by simp)];simp only[cond_false];rw[if_neg (by simp),bl (by omega)];obtain⟨o,h1,h2⟩:=j3 s hs f (k+1) (by omega);refine⟨o,h1,?_⟩;cases o with
    | inl c=>exact h2
    | inr u=>
     intro n h3 h4;rcases Nat.eq_or_lt_of_le h3 with rfl | h5
     . exact fun h=>hl h.length_le
     . exact h2 n h5 h4
theorem uq(s:List UInt8)(hs:s.length<=20000):(∃n:Nat,n < 256/\fq s=some (n:Int)/\qb n <+:s)\/(fq s=some (-1)/\∀n,n < 256->¬qb n <+:s):=by
 unfold fq;have e0:(0:Int)=((0:Nat):Int):=rfl;obtain⟨o,h1,h2⟩:=j3 s hs 256 0 (by omega);rw[e0,h1,sb];cases o with
 | inl c=>
  obtain⟨n,rfl,h3,h4⟩:=h2;exact .inl ⟨n,h3,rfl,h4⟩
 | inr u=>exact .inr ⟨rfl,fun n hn=>h2 n (by omega) hn⟩
def Qe(s:List UInt8)(k:Nat)(b:List UInt8)(o:(List UInt8×Int) ⊕ (List UInt8×Int×List UInt8×Int×List Int)):Prop:=
 match o with
 | .inl x=>x=([],0)/\∀m rest,s.drop k≠qm m++34::rest
 | .inr y=>y.1=s/\∃(j:Nat) (m:List UInt8),y.2.1=(j:Int)/\j<=s.length/\s.drop k=qm m++s.drop j/\strOf y.2.2.2.2=b++m/\(j < s.length->s.getD j 0=34)
theorem s7(s:List UInt8)(hs:s.length<=20000)(x5:List UInt8)(x6:Int):∀(f k:Nat) (b:List Int),s.length<=k+f->k<=s.length->b.length<=k->∃o,cW (s,(k:Int),x5,x6,b)=some o/\Qe s k (strOf b) o:=by
 have stop:∀(k:Nat) (b:List Int),k<=s.length->((bif decide ((k:Int) < (s.length:Int))then(!(decide (aL s (k:Int)=34)))else false)=false)->∃o,cW (s,(k:Int),x5,x6,b)=some o/\Qe s k (strOf b) o:=by
  intro k b hk hz
  rw[cW,sb,if_pos (by
   by_cases h:k < s.length
   . rw[aT h];rfl
   . simp;omega),hz,if_neg (by simp)]
  refine⟨_,rfl,rfl,k,[],rfl,hk,rfl,by simp,fun hj=>?_⟩;have ht:decide ((k:Int) < (s.length:Int))=true:=by simp;omega
  rw[ht,bt]at hz;simp only[cond_true,Bool.not_eq_false',decide_eq_true_eq]at hz;exact UInt8.toNat_inj.1 (by rw[show(34:UInt8).toNat=34 from rfl];omega)
 intro f
 induction f with
 | zero=>
  intro k b h hk hb;exact stop k b hk (by rw[show decide ((k:Int) < (s.length:Int))=false by simp;omega];rfl)
 | succ f ih=>
  intro k b h hk hb;by_cases hz:(bif decide ((k:Int) < (s.length:Int))then(!(decide (aL s (k:Int)=34)))else false)=false
  . exact stop k b hk hz
  . have hz:(bif decide ((k:Int) < (s.length:Int))then(!(decide (aL s (k:Int)=34)))else false)=true:=by simpa using hz
    have hkl:k < s.length:=by
     rcases Nat.lt_or_ge k s.length with h | h
     . exact h
     . rw[show decide ((k:Int) < (s.length:Int))=false by simp;omega]at hz;cases hz
    have ht:decide ((k:Int) < (s.length:Int))=true:=by simp;omega
    have h34:s.getD k 0≠34:=by
     rw[ht,bt]at hz;intro e;rw[e]at hz;cases hz
    have hd:=cO hkl 0;rw[cW,sb,if_pos (by rw[aT hkl];rfl),if_pos hz,if_pos (aQ (by omega) (by omega)),bG];rcases uq (s.drop k) (by simp;omega)with⟨n,h1,h2,h3⟩ | ⟨h1,h2⟩
    . rw[h2,sb,if_neg (by simp),wrp8 h1,sb,if_pos (e7 (by omega) (by simp;omega)),kd h1,sb];obtain⟨t,ht⟩:=h3;have hq:=iC n;have hl:(qb n).length+t.length=s.length - k:=by
       have:=congrArg List.length ht
       simpa using this
      rw[bj (by omega)];have et:t=s.drop (k+(qb n).length):=by
       rw[<-List.drop_drop,<-ht];simp
      obtain⟨o,h4,h5⟩:=ih (k+(qb n).length) (b++[(n:Int)]) (by omega) (by omega) (by simp;omega);refine⟨o,h4,?_⟩;cases o with
      | inl x=>
       refine⟨h5.1,fun m rest e=>?_⟩;rw[<-ht]at e;cases m with
       | nil=>exact gg h1 e
       | cons c m=>
        rw[bm,List.append_assoc]at e;have e1:=iD h1 c.toNat_lt e;rw[e1]at e;exact h5.2 m rest (by rw[<-et];exact List.append_cancel_left e)
      | inr y=>
       obtain⟨g1,j,m,g2,g3,g4,g5,g6⟩:=h5;refine⟨g1,j,UInt8.ofNat n::m,g2,g3,?_,?_,g6⟩
       . rw[<-ht,et,g4,bm,UInt8.toNat_ofNat_of_lt' h1,List.append_assoc]
       . rw[g5,ke,List.append_assoc];rfl
    . rw[h1,sb,if_pos (by simp)];refine⟨_,rfl,rfl,fun m rest e=>?_⟩;cases m with
      | nil=>
       rw[hd]at e;simp[qm]at e;exact h34 (by simpa[List.getD]using e.1)
      | cons c m=>
       rw[bm,List.append_assoc]at e;exact h2 _ c.toNat_lt ⟨_,e.symm⟩
theorem rT(s:List UInt8)(hs:s.length<=20000):(∃m,s=qs m/\dW s=some (m,0))\/((∀m,s≠qs m)/\dW s=some ([],2)):=by
 unfold dW iS;cases s with
 | nil=>exact .inr ⟨fun m e=>by simp[qs]at e,rfl⟩
 | cons a s=>
  rw[sb,if_pos (by simp[inR])];have e0:(0:Int)=((0:Nat):Int):=rfl;rw[e0,bt,List.getD_cons_zero,<-e0];by_cases h34:a=34
  . subst h34;rw[if_neg (by simp)];obtain⟨o,h1,h2⟩:=s7 (34::s) hs [] 0 s.length 1 [] (by simp;omega) (by simp) (by simp);have e1:(1:Int)=((1:Nat):Int):=rfl;rw[e1,h1,sb];have hd:(34::s:List UInt8).drop 1=s:=rfl;cases o with
    | inl x=>
     obtain⟨rfl,h2⟩:=h2;refine .inr ⟨fun m e=>?_,rfl⟩;simp only[qs,List.cons.injEq,true_and]at e;exact h2 m [] (hd.trans e)
    | inr y=>
     obtain⟨g1,j,m,g2,g3,g4,g5,g6⟩:=h2;rw[hd]at g4;simp only[strOf,List.map_nil,List.nil_append]at g5;dsimp only;rw[g1,g2];by_cases hj:j=(34::s:List UInt8).length
     . rw[if_pos (by simp[hj]),sb];refine .inr ⟨fun m' e=>?_,rfl⟩;rw[hj,List.drop_length,List.append_nil]at g4;simp only[qs,List.cons.injEq,true_and]at e;exact pM (e.symm.trans g4)
     . have hjl:j < (34::s:List UInt8).length:=by omega
       rw[if_neg (by simp at hj ⊢;omega),sb,bj (by omega)];have e3:=cO hjl 0;rw[g6 hjl]at e3;rw[e3]at g4;by_cases hr:j+1=(34::s:List UInt8).length
       . rw[if_neg (by simp[hr];omega)];rw[hr,List.drop_length]at g4;refine .inl ⟨m,by rw[g4];rfl,?_⟩;rw[<-g5];rfl
       . rw[if_pos (by simp at hr ⊢;omega)];refine .inr ⟨fun m' e=>hr ?_,rfl⟩;simp only[qs,List.cons.injEq,true_and]at e;have:=(gx (e.symm.trans g4)).2;have hz:=congrArg List.length this;simp at hz hjl ⊢;omega
  . have n34:a.toNat≠34:=fun h=>h34 (UInt8.toNat_inj.1 h)
    rw[if_pos (by simp;omega),sb];exact .inr ⟨fun m e=>h34 (by simp[qs]at e;exact e.1),rfl⟩
theorem wU{c:UInt8}(h:isD c):wrp .i64 (subI .u8 (c.toNat:Int) 48)=((c.toNat - 48:Nat):Int):=by
 unfold isD at h;unfold wrp subI;generalize c.toNat=n at h ⊢;rw[IntKind.wrap_u8,IntKind.wrap_i64];omega
theorem wa{d:Nat}(h:d<=9):quoI .i64 (subI .i64 9223372036854775807 (d:Int)) 10=(((9223372036854775807 - d) / 10:Nat):Int):=by
 have:∀m:Fin 10,quoI .i64 (subI .i64 9223372036854775807 (m.val:Int)) 10=(((9223372036854775807 - m.val) / 10:Nat):Int):=by decide+kernel
 exact this ⟨d,by omega⟩
theorem mT(s:List UInt8){k n:Nat}(hk:k < s.length)(hs:s.length<=20000)(hd:isD (s.getD k 0))(hn:n<=9223372036854775807):bI (s,(n:Int),(k:Int))=if 9223372036854775807 < vs n (s.getD k 0)then some (.inl (0,0))else bI (s,((vs n (s.getD k 0):Nat):Int),((k+1:Nat):Int)):=by
 have ht:decide ((k:Int) < (s.length:Int))=true:=by simp;omega
 rw[bI,sb,ht,if_pos (by rw[aT hk];rfl)];rw[bt];have hv:=wU hd;have hu:vs n (s.getD k 0)=n*10+((s.getD k 0).toNat - 48):=rfl;unfold isD at hd;have h1:decide ((48:Int)<=((s.getD k 0).toNat:Int))=true:=by rw[decide_eq_true_eq];omega
 have h2:decide (((s.getD k 0).toNat:Int)<=57)=true:=by rw[decide_eq_true_eq];omega
 simp only[cond_true,h1,h2,sb];rw[if_pos (by rw[aT hk];rfl),if_pos trivial,if_pos (aT hk),hv,wa (by omega)];have h9:(s.getD k 0).toNat - 48<=9:=by omega
 rw[hu];generalize (s.getD k 0).toNat - 48=d at*;by_cases hb:9223372036854775807 < n*10+d
 . rw[if_pos hb,if_pos (by rw[decide_eq_true_eq];omega)]
 . rw[if_neg hb,if_neg (by rw[decide_eq_true_eq];omega)];have e10:(10:Int)=((10:Nat):Int):=rfl;rw[bl (by omega),pU (by omega) (by omega),iB (by omega) (by omega)]
   congr 3
   push_cast
   omega
theorem jM(s:List UInt8){k:Nat}{n:Int}(hk:k<=s.length)(hd:k < s.length->¬isD (s.getD k 0)):bI (s,n,(k:Int))=some (.inr (n,(k:Int))):=by
 rw[bI,sb];by_cases h:k < s.length
 . have ht:decide ((k:Int) < (s.length:Int))=true:=by simp;omega
   rw[ht,if_pos (by rw[aT h];rfl),bt];have hd:=hd h;unfold isD at hd;generalize (s.getD k 0).toNat=c at hd ⊢;simp only[cond_true,sb];rw[if_pos (by rw[aT h];rfl)];by_cases h1:48<=c
   . rw[if_neg (by
      have h2:decide ((48:Int)<=(c:Int))=true:=by rw[decide_eq_true_eq];omega
      rw[h2];simp;omega)]
   . rw[if_neg (by
      have h2:decide ((48:Int)<=(c:Int))=false:=by rw[decide_eq_false_iff_not];omega
      rw[h2];simp)]
 . have ht:decide ((k:Int) < (s.length:Int))=false:=by simp;omega
   rw[ht,if_pos (by simp)];simp only[cond_false,sb];rw[if_pos (by simp),if_neg (by simp)]
theorem ur (s : List UInt8) (hs : s.length <= 20000): ∀ (f k n : Nat), s.length <= k + f -> k <= s.length -> n <= 9223372036854775807 -> ∃ o, bI (s, (n : Int), (k : Int)) = some o /\ match o with
 | .inl x=>x=(0,0)
 | .inr y=>∃m j:Nat,y=((m:Int),(j:Int))/\m<=9223372036854775807/\j<=s.length:=by
 intro f
 induction f with
 | zero=>
  intro k n h hk hn;exact⟨_,jM s hk (fun h=>by omega),n,k,rfl,hn,hk⟩
 | succ f ih=>
  intro k n h hk hn;by_cases hd:k < s.length/\isD (s.getD k 0)
  . rw[mT s hd.1 hs hd.2 hn];by_cases hb:9223372036854775807 < vs n (s.getD k 0)
    . rw[if_pos hb];exact⟨_,rfl,rfl⟩
    . rw[if_neg hb];exact ih (k+1) _ (by omega) (by omega) (by omega)
  . exact⟨_,jM s hk (fun h1 h2=>hd ⟨h1,h2⟩),n,k,rfl,hn,hk⟩
theorem vm(s:List UInt8)(hs:s.length<=20000)(r:List UInt8)(hr:∀c t,r=c::t->¬isD c):∀(ds:List UInt8) (k n:Nat),s.drop k=ds++r->k<=s.length->(∀c,c∈ds->isD c)->vl n ds<=9223372036854775807->bI (s,(n:Int),(k:Int))=some (.inr ((vl n ds:Nat),((k+ds.length:Nat):Int))):=by
 intro ds
 induction ds with
 | nil=>
  intro k n hd hk _ hv;exact jM s hk fun hkl=>hr _ _ (hd.symm.trans (cO hkl 0))
 | cons c ds ih=>
  intro k n hd hk hD hv;have hkl:k < s.length:=by
   have:=congrArg List.length hd;simp at this;omega
  have e:=cO hkl 0;rw[hd,List.cons_append,List.cons.injEq]at e;rw[kP]at hv ⊢;have hge:=vl_ge ds (vs n c);have hgn:=vs_ge n c;rw[mT s hkl hs (by rw[<-e.1];exact hD c (by simp)) (by omega),<-e.1,if_neg (by omega),ih (k+1) (vs n c) e.2.symm (by omega) (fun d hd=>hD d (by simp[hd])) hv];rw[List.length_cons,show k+1+ds.length=k+(ds.length+1) by omega]
theorem lV(s:List UInt8)(hs:s.length<=20000):∃m j:Nat,cE s=some ((m:Int),(j:Int))/\m<=9223372036854775807/\j<=s.length:=by
 unfold cE;have e0:(0:Int)=((0:Nat):Int):=rfl;obtain⟨o,h1,h2⟩:=ur s hs s.length 0 0 (by omega) (by omega) (by omega);rw[e0,h1,sb];cases o with
 | inl x=>
  subst h2;exact⟨0,0,rfl,by omega,by omega⟩
 | inr y=>
  obtain⟨m,j,rfl,h3,h4⟩:=h2;exact⟨m,j,rfl,h3,h4⟩
theorem mg{a:Int}(h0:0<=a)(h1:a<=9223372036854775807)(r:List UInt8)(hs:(dg a++r).length<=20000)(hr:∀c t,r=c::t->¬isD c):cE (dg a++r)=some (a,((dg a).length:Int)):=by
 unfold cE;have e0:(0:Int)=((0:Nat):Int):=rfl;obtain⟨_,_,_,h2,h3⟩:=kQ h0;have:=vm (dg a++r) hs r hr (dg a) 0 0 rfl (by omega) h2 (by omega);rw[e0,this,sb];simp only[Nat.zero_add,h3]
theorem yX (x1 : List UInt8) (x2 : Bool) (x3 : List UInt8) (x4 : Bool) (x5 : List UInt8): ∀ (f : Nat) (rest : List UInt8) (b : List af), rest.length <= f -> f <= 10000 -> b.length + f <= 10000 -> GoodL b -> ∃ o, bK (x1, rest, x2, x3, x4, x5, b) = some o /\ match o with
 | .inl x=>x=(2,false,[])
 | .inr y=>∃l,y=(x1,x2,x3,x4,x5,l)/\GoodL l/\l.length<=10000:=by
 intro f
 induction f with
 | zero=>
  intro rest b h hf hb hg;rw[List.length_eq_zero_iff.1 (Nat.le_zero.1 h),bK,if_neg (by simp)];exact⟨_,rfl,b,rfl,hg,by omega⟩
 | succ f ih=>
  intro rest b h hf hb hg;by_cases hz:rest=[]
  . rw[hz,bK,if_neg (by simp)];exact⟨_,rfl,b,rfl,hg,by omega⟩
  . rw[bK,if_pos (by simp[hz])];obtain⟨m,j,h1,h2,h3⟩:=lV rest (by omega);rw[h1,sb];simp only[sb];by_cases hj:j=0\/rest.length<=j
    . have ht:(bif decide ((j:Int)=0)then true else decide ((rest.length:Int)<=(j:Int)))=true:=by
       rcases hj with rfl | hj
       . rfl
       . rw[show decide ((rest.length:Int)<=(j:Int))=true by simp;omega];cases decide ((j:Int)=0) <;> rfl
      rw[ht,if_pos (by simp),if_pos (by rfl)];exact⟨_,rfl,rfl⟩
    . have ht:(bif decide ((j:Int)=0)then true else decide ((rest.length:Int)<=(j:Int)))=false:=by
       rw[show decide ((j:Int)=0)=false by simp;omega,show decide ((rest.length:Int)<=(j:Int))=false by simp;omega];rfl
      rw[ht,if_pos (by rw[aT (by omega)];rfl)];simp only[cond_false];by_cases h32:(!(decide (aL rest (j:Int)=32)))=true
      . rw[if_pos h32];exact⟨_,rfl,rfl⟩
      . rw[if_neg h32,bl (by omega),if_pos (aQ (by omega) (by omega)),bG];obtain⟨m2,j2,g1,g2,g3⟩:=lV (rest.drop (j+1)) (by simp;omega);simp only[List.length_drop]at g3;rw[g1,sb];simp only[sb];rw[bj (by omega)];by_cases hj2:j2=0\/rest.length<=j+1+j2
        . have ht:(bif decide ((j2:Int)=0)then true else decide ((rest.length:Int)<=((j+1+j2:Nat):Int)))=true:=by
           rcases hj2 with rfl | hj2
           . rfl
           . rw[show decide ((rest.length:Int)<=((j+1+j2:Nat):Int))=true by simp;omega];cases decide ((j2:Int)=0) <;> rfl
          rw[ht,if_pos (by simp),if_pos (by rfl)];exact⟨_,rfl,rfl⟩
        . have ht:(bif decide ((j2:Int)=0)then true else decide ((rest.length:Int)<=((j+1+j2:Nat):Int)))=false:=by
           rw[show decide ((j2:Int)=0)=false by simp;omega,show decide ((rest.length:Int)<=((j+1+j2:Nat):Int))=false by simp;omega];rfl
          rw[ht,if_pos (by rw[aT (by omega)];rfl)];simp only[cond_false];by_cases h10:(!(decide (aL rest ((j+1+j2:Nat):Int)=10)))=true
          . rw[if_pos h10];exact⟨_,rfl,rfl⟩
          . have e2:(2:Int)=((2:Nat):Int):=rfl;rw[if_neg h10,if_pos (e7 (by omega) (by simp;omega)),bj (by omega),e2,bj (by omega),if_pos (aQ (by omega) (by omega)),bG];refine ih (rest.drop (j+j2+2)) _ (by simp;omega) (by omega) (by simp;omega) ⟨fun x hx=>?_,?_⟩
            . rcases List.mem_append.1 hx with hx | hx
              . exact hg.1 x hx
              . simp only[List.mem_singleton]at hx;subst hx;exact⟨⟨by show _<=(m:Int);omega,by show(m:Int)<=_;omega⟩,by show _<=(m2:Int);omega,by show(m2:Int)<=_;omega⟩
            . rw[List.all_append,hg.2];simp[pos]
theorem rp_of(x1:List UInt8)(x2:Bool)(x3:List UInt8)(x4:Bool)(x5:List UInt8):∀(l b:List af),GoodL l->(lns l).length<=10000->b.length+(lns l).length<=20000->bK (x1,lns l,x2,x3,x4,x5,b)=some (.inr (x1,x2,x3,x4,x5,b++l)):=by
 intro l
 induction l with
 | nil=>
  intro b _ _ _;rw[bK,if_neg (by simp[lns])];simp
 | cons x l ih=>
  intro b hg h1 h2;obtain⟨g1,g2⟩:=hg;simp only[List.all_cons,Bool.and_eq_true]at g2;have hx:=g1 x (by simp);have hp:=g2.1;simp[pos]at hp;have e:lns (x::l)=dg x.A0++(32::(dg x.A1++(10::lns l))):=by simp[lns,ln]
  have hl:(lns (x::l)).length=(dg x.A0).length+((dg x.A1).length+((lns l).length+1)+1):=by rw[e];simp
  have d0:=fa hp.1 hx.1.2;have d1:=fa hp.2 hx.2.2
  rw[bK,if_pos (by
   have:lns (x::l)≠[]:=by rw[e];simp
   simp[this])]
  have n1:cE (lns (x::l))=some (x.A0,((dg x.A0).length:Int)):=by
   rw[e];exact mg hp.1 hx.1.2 _ (by rw[<-e];omega) (fun c t h=>by cases h;unfold isD;decide)
  rw[n1,sb];simp only[sb];have ht:(bif decide (((dg x.A0).length:Int)=0)then true else decide (((lns (x::l)).length:Int)<=((dg x.A0).length:Int)))=false:=by
   rw[show decide (((dg x.A0).length:Int)=0)=false by rw[decide_eq_false_iff_not];omega,show decide (((lns (x::l)).length:Int)<=((dg x.A0).length:Int))=false by rw[decide_eq_false_iff_not];omega];rfl
  have b1:aL (lns (x::l)) ((dg x.A0).length:Int)=32:=by
   rw[bt,e];simp[List.getD]
  rw[ht,if_pos (by rw[aT (by omega)];rfl)];simp only[cond_false];rw[b1,if_neg (by simp),bl (by omega),if_pos (aQ (by omega) (by omega)),bG];have dr:(lns (x::l)).drop ((dg x.A0).length+1)=dg x.A1++(10::lns l):=by
   rw[e,<-List.drop_drop];simp
  have n2:cE (dg x.A1++(10::lns l))=some (x.A1,((dg x.A1).length:Int)):=mg hp.2 hx.2.2 _ (by simp;omega) (fun c t h=>by cases h;unfold isD;decide);rw[dr,n2,sb];simp only[sb];rw[bj (by omega)];have ht2:(bif decide (((dg x.A1).length:Int)=0)then true else decide (((lns (x::l)).length:Int)<=(((dg x.A0).length+1+(dg x.A1).length:Nat):Int)))=false:=by
   rw[show decide (((dg x.A1).length:Int)=0)=false by rw[decide_eq_false_iff_not];omega,show decide (((lns (x::l)).length:Int)<=(((dg x.A0).length+1+(dg x.A1).length:Nat):Int))=false by rw[decide_eq_false_iff_not];omega];rfl
  have b2:aL (lns (x::l)) (((dg x.A0).length+1+(dg x.A1).length:Nat):Int)=10:=by
   have e3:lns (x::l)=(dg x.A0++[32]++dg x.A1)++(10::lns l):=by rw[e];simp
   have e4:(dg x.A0).length+1+(dg x.A1).length=(dg x.A0++[32]++dg x.A1).length:=by simp;omega
   rw[bt,e3,e4];simp[List.getD]
  rw[ht2,if_pos (by rw[aT (by omega)];rfl)];simp only[cond_false];have e2:(2:Int)=((2:Nat):Int):=rfl;rw[b2,if_neg (by simp),if_pos (e7 (by omega) (by simp;omega)),bj (by omega),e2,bj (by omega),if_pos (aQ (by omega) (by omega)),bG];have dr2:(lns (x::l)).drop ((dg x.A0).length+(dg x.A1).length+2)=lns l:=by
   have e3:lns (x::l)=(dg x.A0++[32]++dg x.A1++[10])++lns l:=by rw[e];simp
   have e4:(dg x.A0).length+(dg x.A1).length+2=(dg x.A0++[32]++dg x.A1++[10]).length:=by simp;omega
   rw[e3,e4,List.drop_left]
  rw[dr2,ih _ ⟨fun z hz=>g1 z (by simp[hz]),g2.2⟩ (by omega) (by simp;omega)];simp
theorem yY{s b:List UInt8}(h:s=misB++b){v:aq}(hv:GoodV v)(hc:v.Compatible=true):s≠fmtv v:=by
 rw[h,(bu hv hc).2.2];simp[jn,misB,cmpB]
theorem s8(s:List UInt8)(hs:s.length<=400):(∃v,GoodV v/\s=fmtv v/\dw s=some (v,0))\/((∀v,GoodV v->s≠fmtv v)/\dw s=some ((⟨false,[],[]⟩:aq),2)):=by
 unfold dw;have e0:(0:Int)=((0:Nat):Int):=rfl;have e8:(8:Int)=((8:Nat):Int):=rfl;have e11:(11:Int)=((11:Nat):Int):=rfl;have em:([109,105,115,114,101,97,100,32]:List UInt8)=misB:=rfl;rw[if_neg (by simp;omega),sb,em];by_cases hm:9 < s.length/\s.take 8=misB
 . have ht:decide ((9:Int) < (s.length:Int))=true:=by simp;omega
   rw[ht,e0,e8,if_pos (by rw[aQ (by omega) (by omega)];rfl),<-e0,ck];simp only[cond_true];rw[if_pos (by simp[hm.2]),sb];have hsub:subI .i64 (s.length:Int) 1=((s.length - 1:Nat):Int):=by unfold subI;rw[IntKind.wrap_i64];omega
   rw[hsub,if_pos (aQ (by omega) (by omega))];have hq:cutL s ((8:Nat):Int) ((s.length - 1:Nat):Int)=(s.take (s.length - 1)).drop 8:=rfl;rw[hq];generalize hqq:(s.take (s.length - 1)).drop 8=q;have hql:q.length<=400:=by rw[<-hqq];simp;omega
   have hpre:∃b,s=misB++b:=⟨s.drop 8,by rw[<-hm.2,List.take_append_drop]⟩
   obtain⟨b,hb⟩:=hpre;have key:∃m c,dW q=some (m,c)/\m.length<=400/\∀m',q=qs m'->m=m':=by
    rcases rT q (by omega)with⟨m,h1,h2⟩ | ⟨h1,h2⟩
    . refine⟨m,0,h2,?_,fun m' h3=>?_⟩
      . have:=lh m;rw[h1]at hql;simp[qs]at hql;omega
      . rw[h1]at h3;simp only[qs,List.cons.injEq,true_and]at h3;exact(gx h3).1
    . exact⟨[],2,h2,by simp,fun m' h3=>(h1 m' h3).elim⟩
   obtain⟨m,c,h1,h2,h3⟩:=key;rw[h1,sb];have hf:=ju (⟨false,[],m⟩:aq) (by simp) (by show m.length<=_;omega) (by simp);rw[hf,sb];by_cases he:fmtv (⟨false,[],m⟩:aq)=s
   . rw[if_neg (by simp[he])];exact .inl ⟨_,ig m,he.symm,rfl⟩
   . rw[if_pos (by simp[he])];refine .inr ⟨fun v hv e=>?_,rfl⟩;cases hc:v.Compatible
     . obtain⟨a1,a2⟩:=bP hv hc;have hqs:q=qs v.Message:=by
        rw[<-hqq,e,a2];have:(misB++qs v.Message++[10]:List UInt8).length - 1=(misB++qs v.Message).length:=by simp
        rw[this,List.take_left];exact List.drop_left (l₁:=misB)
       have:=h3 _ hqs;rw[this,<-a1]at he;exact he e.symm
     . exact yY hb hv hc e
 . have first:(if(slR 0 8 s.length || (!(decide ((9:Int) < (s.length:Int)))))=true then(1:Nat)else 0)=1/\(bif decide ((9:Int) < (s.length:Int))then decide (cutL s 0 8=misB)else false)=false:=by
    by_cases h9:9 < s.length
    . rw[e0,e8,aQ (by omega) (by omega),<-e0,ck];refine⟨rfl,?_⟩;have ht:decide ((9:Int) < (s.length:Int))=true:=by simp;omega
      rw[ht];simp only[cond_true,decide_eq_false_iff_not];exact fun h=>hm ⟨h9,h⟩
    . have ht:decide ((9:Int) < (s.length:Int))=false:=by simp;omega
      rw[ht];exact⟨by simp,rfl⟩
   have f1:(slR 0 8 s.length || (!(decide ((9:Int) < (s.length:Int)))))=true:=by
    have:=first.1
    split at this
    . assumption
    . cases this
   rw[if_pos f1,first.2,if_neg (by simp),sb];have nomis:∀v,GoodV v->v.Compatible=false->s≠fmtv v:=by
    intro v hv hc e;rw[(bP hv hc).2]at e;refine hm ⟨by rw[e];simp[misB,qs],?_⟩;rw[e,List.append_assoc];exact List.take_left (l₁:=misB)
   have ec:([99,111,109,112,97,116,105,98,108,101,10]:List UInt8)=cmpB++[10]:=rfl;rw[ec];have fm:∀{v:aq},GoodV v->v.Compatible=true->fmtv v=cmpB++[10]++lns v.Relation:=fun h hc=>by unfold fmtv;rw[if_pos h.1,if_pos hc]
   by_cases hk:11<=s.length/\s.take 11=cmpB++[10]
   . have ht:decide ((11:Int)<=(s.length:Int))=true:=by simp;omega
     rw[ht,e0,e11,if_pos (by rw[aQ (by omega) (by omega)];rfl),<-e0,ck];simp only[cond_true];rw[if_pos (by rw[decide_eq_true_eq];exact hk.2),if_pos (aQ (by omega) (by omega)),bG];have hrest:s=cmpB++[10]++s.drop 11:=by rw[<-hk.2,List.take_append_drop]
     generalize s.drop 11=r at hrest;have hrl:r.length<=400:=by have:=congrArg List.length hrest;simp at this;omega
     obtain⟨o,h1,h2⟩:=yX s false [] true [] 400 r [] hrl (by omega) (by simp) ⟨by simp,rfl⟩;have comp:∀v,GoodV v->v.Compatible=true->s=fmtv v->o= .inr (s,false,[],true,[],v.Relation):=by
      intro v hv hc e;rw[fm hv hc]at e;have er:r=lns v.Relation:=List.append_cancel_left (hrest.symm.trans e);have:=rp_of s false [] true [] v.Relation [] (bu hv hc).2.1 (by rw[<-er];omega) (by rw[<-er];simp;omega);rw[<-er,h1]at this
      simpa using this
     rw[h1,sb];cases o with
     | inl x=>
      subst h2;refine .inr ⟨fun v hv e=>?_,rfl⟩;cases hc:v.Compatible
      . exact nomis v hv hc e
      . cases comp v hv hc e
     | inr y=>
      obtain⟨l,rfl,h3,h4⟩:=h2;have hf:=ju (⟨true,l,[]⟩:aq) (by show l.length<=_;omega) (by simp) h3.1;simp only[hf,sb];by_cases he:fmtv (⟨true,l,[]⟩:aq)=s
      . rw[if_neg (by simp[he])];exact .inl ⟨_,kz h3,he.symm,rfl⟩
      . rw[if_pos (by simp[he])];refine .inr ⟨fun v hv e=>?_,rfl⟩;cases hc:v.Compatible
        . exact nomis v hv hc e
        . have h5:=comp v hv hc e;simp only[Sum.inr.injEq,Prod.mk.injEq,true_and]at h5;rw[h5,<-(bu hv hc).1]at he;exact he e.symm
   . have second:(slR 0 11 s.length || (!(decide ((11:Int)<=(s.length:Int)))))=true/\(bif decide ((11:Int)<=(s.length:Int))then decide (cutL s 0 11=cmpB++[10])else false)=false:=by
      by_cases h11:11<=s.length
      . rw[e0,e11,aQ (by omega) (by omega),<-e0,ck];refine⟨rfl,?_⟩;have ht:decide ((11:Int)<=(s.length:Int))=true:=by simp;omega
        rw[<-e11,ht];simp only[cond_true,decide_eq_false_iff_not];exact fun h=>hk ⟨h11,h⟩
      . have ht:decide ((11:Int)<=(s.length:Int))=false:=by simp;omega
        rw[ht];exact⟨by simp,rfl⟩
     rw[if_pos second.1,second.2,if_neg (by simp)];have hf:=ju (⟨false,[],[]⟩:aq) (by simp) (by simp) (by simp)
     rw[hf,sb,if_pos (by
      have:=nomis _ (ig []) rfl
      simp[Ne.symm this])]
     refine .inr ⟨fun v hv e=>?_,rfl⟩;cases hc:v.Compatible
     . exact nomis v hv hc e
     . rw[fm hv hc]at e;refine hk ⟨by rw[e];simp[cmpB],?_⟩;rw[e];exact List.take_left (l₁:=cmpB++[10])
theorem law_CertifyParse(h:Hs Un.D [.str]):iN h=some true:=by
 obtain⟨s,rfl⟩:∃s:List UInt8,s=h:=⟨h,rfl⟩
 unfold iN;rw[qn,sb];by_cases hl:(400 < s.length/\s.length<=65536)\/70000 < s.length
 . rw[if_pos (by simp;omega),sb]
 . rw[if_neg (by simp;omega)];have same0:fp ((⟨false,[],[]⟩:aq),(⟨false,[],[]⟩:aq))=some true:=pP _ (by simp);by_cases hb:65536 < s.length
   . have p1:dz s=some ((⟨false,[],[]⟩:aq),3):=by unfold dz;rw[if_pos (by simp;omega)]
     have p2:dw s=some ((⟨false,[],[]⟩:aq),3):=by unfold dw;rw[if_pos (by simp;omega)]
     rw[p1,sb,p2,sb,sb];simp only[decide_true,if_pos];rw[same0,sb];rfl
   . rcases v7 s (by omega)with⟨v,h1,h2,h3⟩ | ⟨h1,h3⟩ <;> rcases s8 s (by omega)with⟨w,g1,g2,g3⟩ | ⟨g1,g3⟩
     . have e:=v8 h1 g1 (h2.symm.trans g2);subst e;rw[h3,sb,g3,sb,sb];simp only[decide_true,if_pos];have hl:v.Relation.length<=100000:=by
        cases hc:v.Compatible
        . rw[(bP h1 hc).1];simp
        . have e:fmtv v=cmpB++[10]++lns v.Relation:=by unfold fmtv;rw[if_pos h1.1,if_pos hc]
          have:=wN (bu h1 hc).2.1.1 (bu h1 hc).2.1.2;have hz:=congrArg List.length (h2.trans e);simp at hz;omega
       rw[pP v hl,sb];rfl
     . exact(g1 v h1 h2).elim
     . exact(h1 w g1 g2).elim
     . rw[h3,sb,g3,sb,sb];simp only[decide_true,if_pos];rw[same0,sb];rfl
end
end Go.Proofs.YtkbmjabicjpmjaaGreatDoor
