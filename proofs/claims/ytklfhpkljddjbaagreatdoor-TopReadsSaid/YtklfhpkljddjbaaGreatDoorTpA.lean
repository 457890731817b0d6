/- The functions of the program as functions of Lean, that its code does what they say, and what they answer; part A. -/
import Derived.Test.YtklfhpkljddjbaaGreatDoorProg
import Derived.KernelRfl
import Derived.Shelf.SlGeneric
import Derived.Shelf.SlLaysF0
import Derived.Shelf.SlSortCmp.WholeK
import Derived.Lib.Small
import Derived.Deep.QuietTactic
import Derived.Test.YtklfhpkljddjbaaGreatDoorTpLD

namespace Go.Proofs.YtklfhpkljddjbaaGreatDoor
set_option linter.all false
section
open Go Go.Proofs.YtklfhpkljddjbaaGreatDoor.Shv
open Tryz
set_option maxRecDepth 100000
structure tq where
 aq:Int
 aQ:Int
 lp:Int
structure eS where
 Kind:Int
 A:Int
 B:Int
 C:Int
 eg:List tq
structure gG where
 gX:List eS
structure tp where
 Kind:Int
 Node:Int
 A:Int
 B:Int
structure uE where
 S:gG
 L:List tp
 T:Int
 U:Int
structure fK where
 aq:Int
 Name:List UInt8
structure dD where
 aq:Int
 Data:List UInt8
structure ad where
 Kind:Int
 cX:Bool
 b5:Int
 ch:List UInt8
 aq:Int
 aZ:List ad
 aB:List ad
 Rest:List dD
structure bj where
 aq:Int
 Name:List UInt8
 aQ:Int
 dq:Bool
 cV:Bool
 cB:ad
structure au where
 Kind:Int
 Name:List UInt8
 cA:Int
 cD:Int
 Max:Int
 bW:List fK
 al:List bj
 Key:Int
 a6:Int
 Open:Bool
structure bY where
 Types:List au
structure cG where
 hQ:bY
 aQ:Int
structure b3 where
 cw:Int
 cd:Int
structure jX where
 id:Int
 text:List UInt8
structure Lo where
 found:Bool
 Km:Bool
 rL:List UInt8
 value:ad
structure Lp where
 known:Bool
 Km:Bool
 rL:List UInt8
 v:ad
structure oZ where
 Nv:Bool
 Relation:List b3
 Message:List UInt8
structure nC where
 w:cG
 r:cG
structure eB where
 aq:Int
 dq:Bool
 Data:List UInt8
structure th where
 Path:List Int
 Reason:Int
structure nD where
 t:Int
 number:Int
structure pM where
 v:ad
 u:ad
 message:List UInt8
abbrev XO:Nat:=0
abbrev Q2:Nat:=2
abbrev akV:Nat:=3
abbrev alu:Nat:=4
def oh:tq:=⟨0,0,0⟩
def bX:eS:=⟨0,0,0,0,[]⟩
def akW:gG:=⟨[]⟩
def wa:tp:=⟨0,0,0,0⟩
def aoG:uE:=⟨akW,[],0,0⟩
def jj:fK:=⟨0,[]⟩
def gi:dD:=⟨0,[]⟩
def aY:ad:=⟨0,false,0,[],0,[],[],[]⟩
def aX:bj:=⟨0,[],0,false,false,aY⟩
def a8:au:=⟨0,[],0,0,0,[],[],0,0,false⟩
def ab4:bY:=⟨[]⟩
def Bb:cG:=⟨ab4,0⟩
def fE:b3:=⟨0,0⟩
def GX:jX:=⟨0,[]⟩
def aqY:Lo:=⟨false,false,[],aY⟩
def aqZ:Lp:=⟨false,false,[],aY⟩
def ata:oZ:=⟨false,[],[]⟩
def aq0:nC:=⟨Bb,Bb⟩
def tj:eB:=⟨0,false,[]⟩
def atb:th:=⟨[],0⟩
def Y5:nD:=⟨0,0⟩
def aoT:pM:=⟨aY,aY,[]⟩
def jd:Nat->Type
 |0=>uE
 |1=>gG
 |2=>eS
 |3=>tq
 |4=>tp
 |5=>au
 |6=>fK
 |7=>bj
 |8=>ad
 |9=>dD
 |10=>bY
 |11=>cG
 |12=>b3
 |13=>jX
 |14=>Lo
 |15=>Lp
 |16=>oZ
 |17=>nC
 |18=>eB
 |19=>th
 |20=>nD
 |21=>pM
 |_=>Bool
def ll:Nat->List aS
 |0=>[.slice (.nm 2),.slice (.nm 4),.int .u8,.int .u8]
 |1=>[.slice (.nm 2)]
 |2=>[.int .u8,.int .u8,.int .u8,.int .u8,.slice (.nm 3)]
 |3=>[.int .u8,.int .u8,.int .u8]
 |4=>[.int .u8,.int .u8,.int .u8,.int .u8]
 |5=>[.int .i64,.str,.int .i64,.int .i64,.int .i64,.slice (.nm 6),.slice (.nm 7),.int .i64,.int .i64,.bool]
 |6=>[.int .i64,.str]
 |7=>[.int .i64,.str,.int .i64,.bool,.bool,.int .i64,.bool,.int .i64,.str,.int .i64,.slice (.nm 8),.slice (.nm 8),.slice (.nm 9)]
 |8=>[.int .i64,.bool,.int .i64,.str,.int .i64,.slice (.nm 8),.slice (.nm 8),.slice (.nm 9)]
 |9=>[.int .i64,.str]
 |10=>[.slice (.nm 5)]
 |11=>[.slice (.nm 5),.int .i64]
 |12=>[.int .i64,.int .i64]
 |13=>[.int .i64,.str]
 |14=>[.bool,.bool,.str,.int .i64,.bool,.int .i64,.str,.int .i64,.slice (.nm 8),.slice (.nm 8),.slice (.nm 9)]
 |15=>[.bool,.bool,.str,.int .i64,.bool,.int .i64,.str,.int .i64,.slice (.nm 8),.slice (.nm 8),.slice (.nm 9)]
 |16=>[.bool,.slice (.nm 12),.str]
 |17=>[.slice (.nm 5),.int .i64,.slice (.nm 5),.int .i64]
 |18=>[.int .i64,.bool,.str]
 |19=>[.slice (.int .i64),.int .i64]
 |20=>[.int .i64,.int .i64]
 |21=>[.int .i64,.bool,.int .i64,.str,.int .i64,.slice (.nm 8),.slice (.nm 8),.slice (.nm 9),.int .i64,.bool,.int .i64,.str,.int .i64,.slice (.nm 8),.slice (.nm 8),.slice (.nm 9),.str]
 |_=>[.bool]
def aDI:(n:Nat)->jd n->List (Cell jd)
 |0,(x:uE)=>[⟨.slice (.nm 2),x.S.gX⟩,⟨.slice (.nm 4),x.L⟩,⟨.int .u8,x.T⟩,⟨.int .u8,x.U⟩]
 |1,(x:gG)=>[⟨.slice (.nm 2),x.gX⟩]
 |2,(x:eS)=>[⟨.int .u8,x.Kind⟩,⟨.int .u8,x.A⟩,⟨.int .u8,x.B⟩,⟨.int .u8,x.C⟩,⟨.slice (.nm 3),x.eg⟩]
 |3,(x:tq)=>[⟨.int .u8,x.aq⟩,⟨.int .u8,x.aQ⟩,⟨.int .u8,x.lp⟩]
 |4,(x:tp)=>[⟨.int .u8,x.Kind⟩,⟨.int .u8,x.Node⟩,⟨.int .u8,x.A⟩,⟨.int .u8,x.B⟩]
 |5,(x:au)=>[⟨.int .i64,x.Kind⟩,⟨.str,x.Name⟩,⟨.int .i64,x.cA⟩,⟨.int .i64,x.cD⟩,⟨.int .i64,x.Max⟩,⟨.slice (.nm 6),x.bW⟩,⟨.slice (.nm 7),x.al⟩,⟨.int .i64,x.Key⟩,⟨.int .i64,x.a6⟩,⟨.bool,x.Open⟩]
 |6,(x:fK)=>[⟨.int .i64,x.aq⟩,⟨.str,x.Name⟩]
 |7,(x:bj)=>[⟨.int .i64,x.aq⟩,⟨.str,x.Name⟩,⟨.int .i64,x.aQ⟩,⟨.bool,x.dq⟩,⟨.bool,x.cV⟩,⟨.int .i64,x.cB.Kind⟩,⟨.bool,x.cB.cX⟩,⟨.int .i64,x.cB.b5⟩,⟨.str,x.cB.ch⟩,⟨.int .i64,x.cB.aq⟩,⟨.slice (.nm 8),x.cB.aZ⟩,⟨.slice (.nm 8),x.cB.aB⟩,⟨.slice (.nm 9),x.cB.Rest⟩]
 |8,(x:ad)=>[⟨.int .i64,x.Kind⟩,⟨.bool,x.cX⟩,⟨.int .i64,x.b5⟩,⟨.str,x.ch⟩,⟨.int .i64,x.aq⟩,⟨.slice (.nm 8),x.aZ⟩,⟨.slice (.nm 8),x.aB⟩,⟨.slice (.nm 9),x.Rest⟩]
 |9,(x:dD)=>[⟨.int .i64,x.aq⟩,⟨.str,x.Data⟩]
 |10,(x:bY)=>[⟨.slice (.nm 5),x.Types⟩]
 |11,(x:cG)=>[⟨.slice (.nm 5),x.hQ.Types⟩,⟨.int .i64,x.aQ⟩]
 |12,(x:b3)=>[⟨.int .i64,x.cw⟩,⟨.int .i64,x.cd⟩]
 |13,(x:jX)=>[⟨.int .i64,x.id⟩,⟨.str,x.text⟩]
 |14,(x:Lo)=>[⟨.bool,x.found⟩,⟨.bool,x.Km⟩,⟨.str,x.rL⟩,⟨.int .i64,x.value.Kind⟩,⟨.bool,x.value.cX⟩,⟨.int .i64,x.value.b5⟩,⟨.str,x.value.ch⟩,⟨.int .i64,x.value.aq⟩,⟨.slice (.nm 8),x.value.aZ⟩,⟨.slice (.nm 8),x.value.aB⟩,⟨.slice (.nm 9),x.value.Rest⟩]
 |15,(x:Lp)=>[⟨.bool,x.known⟩,⟨.bool,x.Km⟩,⟨.str,x.rL⟩,⟨.int .i64,x.v.Kind⟩,⟨.bool,x.v.cX⟩,⟨.int .i64,x.v.b5⟩,⟨.str,x.v.ch⟩,⟨.int .i64,x.v.aq⟩,⟨.slice (.nm 8),x.v.aZ⟩,⟨.slice (.nm 8),x.v.aB⟩,⟨.slice (.nm 9),x.v.Rest⟩]
 |16,(x:oZ)=>[⟨.bool,x.Nv⟩,⟨.slice (.nm 12),x.Relation⟩,⟨.str,x.Message⟩]
 |17,(x:nC)=>[⟨.slice (.nm 5),x.w.hQ.Types⟩,⟨.int .i64,x.w.aQ⟩,⟨.slice (.nm 5),x.r.hQ.Types⟩,⟨.int .i64,x.r.aQ⟩]
 |18,(x:eB)=>[⟨.int .i64,x.aq⟩,⟨.bool,x.dq⟩,⟨.str,x.Data⟩]
 |19,(x:th)=>[⟨.slice (.int .i64),x.Path⟩,⟨.int .i64,x.Reason⟩]
 |20,(x:nD)=>[⟨.int .i64,x.t⟩,⟨.int .i64,x.number⟩]
 |21,(x:pM)=>[⟨.int .i64,x.v.Kind⟩,⟨.bool,x.v.cX⟩,⟨.int .i64,x.v.b5⟩,⟨.str,x.v.ch⟩,⟨.int .i64,x.v.aq⟩,⟨.slice (.nm 8),x.v.aZ⟩,⟨.slice (.nm 8),x.v.aB⟩,⟨.slice (.nm 9),x.v.Rest⟩,⟨.int .i64,x.u.Kind⟩,⟨.bool,x.u.cX⟩,⟨.int .i64,x.u.b5⟩,⟨.str,x.u.ch⟩,⟨.int .i64,x.u.aq⟩,⟨.slice (.nm 8),x.u.aZ⟩,⟨.slice (.nm 8),x.u.aB⟩,⟨.slice (.nm 9),x.u.Rest⟩,⟨.str,x.message⟩]
 |_+22,(x:Bool)=>[⟨.bool,x⟩]
def akC:(n:Nat)->List (Cell jd)->Option (jd n)
 |0,l=>(bb.dec jd (ll 0) l).map λ(a0,a1,a2,a3)=>(⟨(⟨a0⟩:gG),a1,a2,a3⟩:uE)
 |1,l=>(bb.dec jd (ll 1) l).map λh=>(⟨h⟩:gG)
 |2,l=>(bb.dec jd (ll 2) l).map λ(a0,a1,a2,a3,a4)=>(⟨a0,a1,a2,a3,a4⟩:eS)
 |3,l=>(bb.dec jd (ll 3) l).map λ(a0,a1,a2)=>(⟨a0,a1,a2⟩:tq)
 |4,l=>(bb.dec jd (ll 4) l).map λ(a0,a1,a2,a3)=>(⟨a0,a1,a2,a3⟩:tp)
 |5,l=>(bb.dec jd (ll 5) l).map λ(a0,a1,a2,a3,a4,a5,bx,cp,cz,a9)=>(⟨a0,a1,a2,a3,a4,a5,bx,cp,cz,a9⟩:au)
 |6,l=>(bb.dec jd (ll 6) l).map λ(a0,a1)=>(⟨a0,a1⟩:fK)
 |7,l=>(bb.dec jd (ll 7) l).map λ(a0,a1,a2,a3,a4,a5,bx,cp,cz,a9,h9,mo,a12)=>(⟨a0,a1,a2,a3,a4,(⟨a5,bx,cp,cz,a9,h9,mo,a12⟩:ad)⟩:bj)
 |8,l=>(bb.dec jd (ll 8) l).map λ(a0,a1,a2,a3,a4,a5,bx,cp)=>(⟨a0,a1,a2,a3,a4,a5,bx,cp⟩:ad)
 |9,l=>(bb.dec jd (ll 9) l).map λ(a0,a1)=>(⟨a0,a1⟩:dD)
 |10,l=>(bb.dec jd (ll 10) l).map λh=>(⟨h⟩:bY)
 |11,l=>(bb.dec jd (ll 11) l).map λ(a0,a1)=>(⟨(⟨a0⟩:bY),a1⟩:cG)
 |12,l=>(bb.dec jd (ll 12) l).map λ(a0,a1)=>(⟨a0,a1⟩:b3)
 |13,l=>(bb.dec jd (ll 13) l).map λ(a0,a1)=>(⟨a0,a1⟩:jX)
 |14,l=>(bb.dec jd (ll 14) l).map λ(a0,a1,a2,a3,a4,a5,bx,cp,cz,a9,h9)=>(⟨a0,a1,a2,(⟨a3,a4,a5,bx,cp,cz,a9,h9⟩:ad)⟩:Lo)
 |15,l=>(bb.dec jd (ll 15) l).map λ(a0,a1,a2,a3,a4,a5,bx,cp,cz,a9,h9)=>(⟨a0,a1,a2,(⟨a3,a4,a5,bx,cp,cz,a9,h9⟩:ad)⟩:Lp)
 |16,l=>(bb.dec jd (ll 16) l).map λ(a0,a1,a2)=>(⟨a0,a1,a2⟩:oZ)
 |17,l=>(bb.dec jd (ll 17) l).map λ(a0,a1,a2,a3)=>(⟨(⟨(⟨a0⟩:bY),a1⟩:cG),(⟨(⟨a2⟩:bY),a3⟩:cG)⟩:nC)
 |18,l=>(bb.dec jd (ll 18) l).map λ(a0,a1,a2)=>(⟨a0,a1,a2⟩:eB)
 |19,l=>(bb.dec jd (ll 19) l).map λ(a0,a1)=>(⟨a0,a1⟩:th)
 |20,l=>(bb.dec jd (ll 20) l).map λ(a0,a1)=>(⟨a0,a1⟩:nD)
 |21,l=>(bb.dec jd (ll 21) l).map λ(a0,a1,a2,a3,a4,a5,bx,cp,cz,a9,h9,mo,a12,aga,axq,agb,axr)=>(⟨(⟨a0,a1,a2,a3,a4,a5,bx,cp⟩:ad),(⟨cz,a9,h9,mo,a12,aga,axq,agb⟩:ad),axr⟩:pM)
 |_+22,l=>(bb.dec jd [.bool] l).map λ(h:Bool)=>h
def ag'(x:tq):List T:=[.int .u8 x.aq,.int .u8 x.aQ,.int .u8 x.lp]
def UY(x:eS):List T:=[.int .u8 x.Kind,.int .u8 x.A,.int .u8 x.B,.int .u8 x.C,.slice (x.eg.map ag')]
def ayw(x:gG):List T:=[.slice (x.gX.map UY)]
def ag9(x:tp):List T:=[.int .u8 x.Kind,.int .u8 x.Node,.int .u8 x.A,.int .u8 x.B]
def ayx(x:uE):List T:=[.slice (x.S.gX.map UY),.slice (x.L.map ag9),.int .u8 x.T,.int .u8 x.U]
def ag8(x:fK):List T:=[.int .i64 x.aq,.str x.Name]
def zX(x:dD):List T:=[.int .i64 x.aq,.str x.Data]
def ad.eta(x:ad):ad:=⟨x.Kind,x.cX,x.b5,x.ch,x.aq,x.aZ,x.aB,x.Rest⟩
theorem ad.cr(x:ad):x.eta=x:=by cases x;rfl
mutual
def o1:ad->List T
 |⟨a0,a1,a2,a3,a4,a5,bx,cp⟩=>[.int .i64 a0,.bool a1,.int .i64 a2,.str a3,.int .i64 a4,.slice (Jm a5),.slice (Jm bx),.slice (cp.map zX)]
def Jm:List ad->List (List T)
 |[]=>[]
 |v::r=>o1 v::Jm r
end
theorem alN:∀l,Jm l=l.map o1
 |[]=>rfl
 |v::r=>by simp only[Jm,List.map];rw[alN r]
theorem asg(x:ad):o1 x=[.int .i64 x.Kind,.bool x.cX,.int .i64 x.b5,.str x.ch,.int .i64 x.aq,.slice (x.aZ.map o1),.slice (x.aB.map o1),.slice (x.Rest.map zX)]:=by cases x;simp only[o1,alN]
def ag7(x:bj):List T:=[.int .i64 x.aq,.str x.Name,.int .i64 x.aQ,.bool x.dq,.bool x.cV,.int .i64 x.cB.Kind,.bool x.cB.cX,.int .i64 x.cB.b5,.str x.cB.ch,.int .i64 x.cB.aq,.slice (x.cB.aZ.map o1),.slice (x.cB.aB.map o1),.slice (x.cB.Rest.map zX)]
def Jl(x:au):List T:=[.int .i64 x.Kind,.str x.Name,.int .i64 x.cA,.int .i64 x.cD,.int .i64 x.Max,.slice (x.bW.map ag8),.slice (x.al.map ag7),.int .i64 x.Key,.int .i64 x.a6,.bool x.Open]
def ayu(x:bY):List T:=[.slice (x.Types.map Jl)]
def ayt(x:cG):List T:=[.slice (x.hQ.Types.map Jl),.int .i64 x.aQ]
def ag6(x:b3):List T:=[.int .i64 x.cw,.int .i64 x.cd]
def ayo(x:jX):List T:=[.int .i64 x.id,.str x.text]
def ayy(x:Lo):List T:=[.bool x.found,.bool x.Km,.str x.rL,.int .i64 x.value.Kind,.bool x.value.cX,.int .i64 x.value.b5,.str x.value.ch,.int .i64 x.value.aq,.slice (x.value.aZ.map o1),.slice (x.value.aB.map o1),.slice (x.value.Rest.map zX)]
def ayp(x:Lp):List T:=[.bool x.known,.bool x.Km,.str x.rL,.int .i64 x.v.Kind,.bool x.v.cX,.int .i64 x.v.b5,.str x.v.ch,.int .i64 x.v.aq,.slice (x.v.aZ.map o1),.slice (x.v.aB.map o1),.slice (x.v.Rest.map zX)]
def ayv(x:oZ):List T:=[.bool x.Nv,.slice (x.Relation.map ag6),.str x.Message]
def aym(x:nC):List T:=[.slice (x.w.hQ.Types.map Jl),.int .i64 x.w.aQ,.slice (x.r.hQ.Types.map Jl),.int .i64 x.r.aQ]
def ays(x:eB):List T:=[.int .i64 x.aq,.bool x.dq,.str x.Data]
def ayr(x:th):List T:=[.slice (x.Path.map (λy=>[.int .i64 y])),.int .i64 x.Reason]
def ayq(x:nD):List T:=[.int .i64 x.t,.int .i64 x.number]
def ayn(x:pM):List T:=[.int .i64 x.v.Kind,.bool x.v.cX,.int .i64 x.v.b5,.str x.v.ch,.int .i64 x.v.aq,.slice (x.v.aZ.map o1),.slice (x.v.aB.map o1),.slice (x.v.Rest.map zX),.int .i64 x.u.Kind,.bool x.u.cX,.int .i64 x.u.b5,.str x.u.ch,.int .i64 x.u.aq,.slice (x.u.aZ.map o1),.slice (x.u.aB.map o1),.slice (x.u.Rest.map zX),.str x.message]
def aDH:(n:Nat)->jd n->List T
 |0,x=>ayx x
 |1,x=>ayw x
 |2,x=>UY x
 |3,x=>ag' x
 |4,x=>ag9 x
 |5,x=>Jl x
 |6,x=>ag8 x
 |7,x=>ag7 x
 |8,x=>o1 x
 |9,x=>zX x
 |10,x=>ayu x
 |11,x=>ayt x
 |12,x=>ag6 x
 |13,x=>ayo x
 |14,x=>ayy x
 |15,x=>ayp x
 |16,x=>ayv x
 |17,x=>aym x
 |18,x=>ays x
 |19,x=>ayr x
 |20,x=>ayq x
 |21,x=>ayn x
 |_+22,(x:Bool)=>[.bool x]
def cm:dC where
 D:=jd
 qB:=λn=>match n with
  |0=>aoG
  |1=>akW
  |2=>bX
  |3=>oh
  |4=>wa
  |5=>a8
  |6=>jj
  |7=>aX
  |8=>aY
  |9=>gi
  |10=>ab4
  |11=>Bb
  |12=>fE
  |13=>GX
  |14=>aqY
  |15=>aqZ
  |16=>ata
  |17=>aq0
  |18=>tj
  |19=>atb
  |20=>Y5
  |21=>aoT
  |_+22=>false
 Fv:=aDI
 make:=akC
 eM:=ll
 enc:=aDH
 ahc:=λn x=>match n,x with
  |0,_|1,_|2,_|3,_|4,_|5,_|6,_|7,_|9,_|10,_|11,_|12,_|13,_|14,_|15,_|16,_|17,_|18,_|19,_|20,_|21,_=>rfl
  |8,x=>asg x
  |_+22,_=>rfl
 mk_eq:=λn l x h=>match n,x,h with
  |0,x,h|1,x,h|2,x,h|3,x,h|4,x,h|5,x,h|6,x,h|7,x,h|8,x,h|9,x,h|10,x,h|11,x,h|12,x,h|13,x,h|14,x,h|15,x,h|16,x,h|17,x,h|18,x,h|19,x,h|20,x,h|21,x,h=>by
   obtain⟨_,av,rfl⟩:=rG.1 h;exact bb.uP av
  |_+22,x,h=>by
   obtain⟨_,av,rfl⟩:=rG.1 h;exact bb.uP av
 akB:=λn x=>match n,x with
  |0,_|1,_|2,_|3,_|4,_|5,_|6,_|7,_|8,_|9,_|10,_|11,_|12,_|13,_|14,_|15,_|16,_|17,_|18,_|19,_|20,_|21,_=>rfl
  |_+22,_=>rfl
 akA:=λe=>match e with
  |3=>some (.int .i64)
  |4=>some .bool
  |9=>some .str
  |33=>some (.nm 11)
  |43=>some (.nm 8)
  |59=>some (.nm 5)
  |96=>some (.nm 6)
  |103=>some (.nm 3)
  |106=>some (.nm 7)
  |108=>some (.nm 14)
  |119=>some (.nm 12)
  |126=>some (.nm 9)
  |193=>some (.nm 13)
  |250=>some (.nm 18)
  |304=>some (.nm 20)
  |_=>none
 own:=[([false,false,true,true],2,.int .i64),([false,true,true,false],1,.int .i64)]
 pos:=λn=>match n with
  |0|1|2|3|4|5|6|7|8|9|10|11|12|13|14|15|16|17|18|19|20|21=>by decide
  |_+22=>Nat.zero_lt_one
theorem av0:∀n (l:List (Cell jd)),l.map Cell.ty=ll n->∃x,akC n l=some x:=λn l h=>by
 obtain⟨x,I⟩:=bb.axH h
 match n,x,I with
 |0,x,I|1,x,I|2,x,I|3,x,I|4,x,I|5,x,I|6,x,I|7,x,I|8,x,I|9,x,I|10,x,I|11,x,I|12,x,I|13,x,I|14,x,I|15,x,I|16,x,I|17,x,I|18,x,I|19,x,I|20,x,I|21,x,I|_+22,x,I=>exact⟨_,eL (Option.map _) I⟩
theorem axj:cm.Total:=av0
end
section
open Go Go.Proofs.YtklfhpkljddjbaaGreatDoor.Shv
open Tryz
set_option maxRecDepth 100000
open Go.Proofs Go.Proofs.YtklfhpkljddjbaaGreatDoor Go.Shelf
theorem anV:kL prog 149=true:=by kernel_rfl
def r6:cY cm:=aaw cm 149 (.int .i64) 8
theorem an0:mm prog r6:=asW (te:=3) (sz:=1) (bytes:=8) (z:=[.t (.int .i64 0)]) func149 (by kernel_rfl) (by kernel_rfl) (by kernel_rfl) rfl rfl
theorem tm:fJ prog r6:=⟨anV,an0⟩
theorem apn:kL prog 212=true:=by kernel_rfl
def r7:cY cm:=Tr cm 212 (.nm 8) 120
theorem aoe:mm prog r7:=abA (te:=43) (sz:=8) (bytes:=120) (z:=[.t (.int .i64 0),.t (.bool false),.t (.int .i64 0),.t (.str []),.t (.int .i64 0),.aT,.aT,.aT]) func212 (by kernel_rfl) (by kernel_rfl) (by kernel_rfl) rfl rfl
theorem tn:fJ prog r7:=⟨apn,aoe⟩
theorem apo:kL prog 213=true:=by kernel_rfl
def r8:cY cm:=Tr cm 213 (.nm 9) 24
theorem aof:mm prog r8:=abA (te:=126) (sz:=2) (bytes:=24) (z:=[.t (.int .i64 0),.t (.str [])]) func213 (by kernel_rfl) (by kernel_rfl) (by kernel_rfl) rfl rfl
theorem uC:fJ prog r8:=⟨apo,aof⟩
instance:Inhabited jX:=⟨GX⟩
instance:Inhabited (cm.D 13):=⟨GX⟩
def sN(x y:jX):Bool:=decide (x.id<y.id)
def XP(l:List jX):Option (List jX):=some (qO sN l)
section
open Go.Proofs Go.Proofs.YtklfhpkljddjbaaGreatDoor Go.Sort Go.RowKit Go.Lib
theorem aCX(x:Int)(w:World):Calls prog 141 #[.int .i64 x] w λe w'=>e= .returned (.bool false)/\w'=w:=by
 go_enter func141,ntmps141
 go_wp2
 go_ret
 exact⟨by simp,rfl⟩
set_option maxHeartbeats 1000000 in
theorem aCW(x y:Int)(w:World):Calls prog 97 #[.int .i64 x,.int .i64 y] w λe w'=>e= .returned (.int .i64 (Lib.compareInt x y))/\w'=w:=by
 go_enter func97,ntmps97
 go_wp2_with (go_at_call 141;refine(aCX _ _).mono ?_;rintro e w' ⟨rfl,hw⟩;rw[hw])
 all_goals (go_ret;refine⟨?_,rfl⟩;unfold Lib.compareInt;(repeat' split)<;>first|rfl|(exfalso;omega))
def MO(x:jX):List Value:=[.int .i64 x.id,.string ⟨x.text.toArray⟩]
set_option maxHeartbeats 1000000 in
theorem aCU(x y:Int)(s t:ByteArray)(W:World):Calls prog 96 #[.agg #[.int .i64 x,.string s],.agg #[.int .i64 y,.string t]] W λe w'=>e= .returned (.int .i64 (Lib.compareInt x y))/\∃q Xa,w'=grow (W.drewN q) Xa:=by
 have lF:=λq1=>aCW x y q1
 generalize Lib.compareInt x y=r at lF⊢
 go_enter func96,ntmps96
 go_wp2_with (go_at_call 97;refine(lF _).mono ?_;rintro e w' ⟨rfl,rfl⟩)
 go_ret
 exact⟨rfl,0,_,by rw[alloc_eq_grow,alloc_eq_grow,grow_grow];rfl⟩
def ab5:Go.Shelf.Ren:=⟨λ|6=>95|15=>126|14=>140|28=>186|29=>187|20=>194|21=>195|22=>196|23=>197|24=>198|25=>199|26=>200|27=>201|46=>240|47=>233|48=>234|49=>241|50=>242|57=>256|n=>n,λ|22=>189|24=>193|25=>196|3=>3|39=>188|0=>0|53=>277|55=>132|4=>4|46=>271|45=>270|50=>197|5=>5|9=>9|66=>317|70=>321|76=>338|77=>339|n=>n,λ|n=>n⟩
theorem aiY:SlLaysF0.n6 prog ab5:={
 mixed:=by kernel_rfl
 f6:=⟨f95.name,by decide,func95.trans (eL some (by kernel_rfl))⟩
 f14:=⟨f140.name,by decide,func140.trans (eL some (by kernel_rfl))⟩
 f15:=func126.trans (eL some (by kernel_rfl))
 f20:=⟨f194.name,by decide,func194.trans (eL some (by kernel_rfl))⟩
 f21:=⟨f195.name,by decide,func195.trans (eL some (by kernel_rfl))⟩
 f22:=⟨f196.name,by decide,func196.trans (eL some (by kernel_rfl))⟩
 f23:=⟨f197.name,by decide,func197.trans (eL some (by kernel_rfl))⟩
 f24:=⟨f198.name,by decide,func198.trans (eL some (by kernel_rfl))⟩
 f25:=⟨f199.name,by decide,func199.trans (eL some (by kernel_rfl))⟩
 f26:=⟨f200.name,by decide,func200.trans (eL some (by kernel_rfl))⟩
 f27:=⟨f201.name,by decide,func201.trans (eL some (by kernel_rfl))⟩
 f28:=func186.trans (eL some (by kernel_rfl))
 f29:=func187.trans (eL some (by kernel_rfl))
 f46:=⟨f240.name,by decide,func240.trans (eL some (by kernel_rfl))⟩
 f47:=func233.trans (eL some (by kernel_rfl))
 f48:=func234.trans (eL some (by kernel_rfl))
 f49:=⟨f241.name,by decide,func241.trans (eL some (by kernel_rfl))⟩
 f50:=⟨f242.name,by decide,func242.trans (eL some (by kernel_rfl))⟩
 f57:=⟨f256.name,by decide,func256.trans (eL some (by kernel_rfl))⟩
 t0:=underlying0
 a0:=isAgg0
 z0:=sizeOf0
 v0:=zeroValue0
 t3:=underlying3
 a3:=isAgg3
 z3:=sizeOf3
 v3:=zeroValue3
 t4:=underlying4
 a4:=isAgg4
 z4:=sizeOf4
 v4:=zeroValue4
 t5:=underlying5
 a5:=isAgg5
 z5:=sizeOf5
 v5:=zeroValue5
 t9:=underlying9
 a9:=isAgg9
 z9:=sizeOf9
 v9:=zeroValue9
 t22:=underlying189
 a22:=isAgg189
 z22:=sizeOf189
 v22:=zeroValue189
 t25:=underlying196
 a25:=isAgg196
 z25:=sizeOf196
 v25:=zeroValue196
 t39:=underlying188
 a39:=isAgg188
 z39:=sizeOf188
 v39:=zeroValue188
 t45:=underlying270
 a45:=isAgg270
 z45:=sizeOf270
 v45:=zeroValue270
 t46:=underlying271
 a46:=isAgg271
 z46:=sizeOf271
 v46:=zeroValue271
 t50:=underlying197
 a50:=isAgg197
 z50:=sizeOf197
 v50:=zeroValue197
 t53:=underlying277
 a53:=isAgg277
 z53:=sizeOf277
 v53:=zeroValue277
 t55:=underlying132
 a55:=isAgg132
 z55:=sizeOf132
 v55:=zeroValue132
 t66:=underlying317
 a66:=isAgg317
 z66:=sizeOf317
 v66:=zeroValue317
 t70:=underlying321
 a70:=isAgg321
 z70:=sizeOf321
 v70:=zeroValue321
 t76:=underlying338
 a76:=isAgg338
 z76:=sizeOf338
 v76:=zeroValue338
 t77:=underlying339
 a77:=isAgg339
 z77:=sizeOf339
 v77:=zeroValue339}
theorem abe:ltOf (λx y:jX=>Lib.compareInt x.id y.id)=sN:=by
 funext x y
 unfold ltOf sN Lib.compareInt;by_cases h1:x.id<y.id
 . simp[h1]
 . by_cases aa:y.id<x.id<;>simp[h1,aa]
theorem XZ:SWO sN:=avZ (λx:jX=>x.id)
set_option maxHeartbeats 2000000 in
theorem aC0(p:Option Addr)(cap:Nat)(nH:Value)(w:World):Calls prog 194 #[.slice p 0 cap,.int .i64 0,.int .i64 0,nH] w λe w'=>e= .returned (.tuple #[])/\w'=w:=by
 go_enter func194,ntmps194
 go_wp2
 refine wp_loop_rounds 1 ?_;rw[rounds_succ]
 go_wp2
 go_end0
 exact⟨rfl,rfl⟩
set_option maxHeartbeats 2000000 in
theorem aC2(p:Option Addr)(cap:Nat)(lim:Int)(nH:Value)(w:World):Calls prog 140 #[.slice p 0 cap,.int .i64 0,.int .i64 0,.int .i64 lim,nH] w λe w'=>e= .returned (.tuple #[])/\w'=w:=by
 have ak:=λW=>aC0 p cap nH W
 go_enter func140,ntmps140
 go_wp2
 refine wp_loop_rounds 1 ?_;rw[rounds_succ]
 go_wp2_with (go_at_call 194;refine(ak _).mono ?_;rintro e w' ⟨rfl,rfl⟩)
 (try simp only[Exit.inBlock,Exit.then]);refine bodyPost_ret (results_none rfl _ _ _) rfl ?_
 exact⟨rfl,rfl⟩
set_option maxHeartbeats 2000000 in
theorem aCZ(p:Option Addr)(cap:Nat)(nH:Value)(w:World):Calls prog 95 #[.slice p 0 cap,nH] w λe w'=>e= .returned (.tuple #[])/\w'=w:=by
 have ar:=λlim W=>aC2 p cap lim nH W
 have aj:∀W,Calls prog 126 #[.int .u64 0] W λe w'=>e= .returned (.int .i64 (Lib.bitLen 0:Nat))/\w'=W:=λW=>by
  have h:=Any.bits_Len (SlLaysF0.n15.bits (P:=prog) (ρ:=ab5) {aiY with}) 0 W (by omega) (by omega);exact h
 go_enter func95,ntmps95
 go_wp2_with (first|(go_at_call 126;refine(aj _).mono ?_;rintro e w' ⟨rfl,rfl⟩)|(go_at_call 140;refine(ar _ _).mono ?_;rintro e w' ⟨rfl,rfl⟩))
 go_end0
 exact⟨rfl,rfl⟩
theorem aC5(blk off cap:Nat)(d:Array (cm.D 13))(w:World)(hH:HoldsK MO 2 w blk off d)(hblk:blk<w.heap.size)(b8:d.size<4611686018427387904):
 Calls prog 95 #[.slice (some ⟨blk,off,none⟩) d.size cap,.func (.func 96) #[] #[]] w λe w'=>e= .returned (.tuple #[])/\∃n os,w'=sortWorldK MO 2 w blk off n (pdq sN d 0 d.size (Lib.bitLen d.size) true true) os:=by
 have wA:∀args w,(callFunc 96 args).run prog w= .ok (.enter 96 args) w:=enters_of func96 (by kernel_rfl) rfl
 have h:=AnyQ.slices_SortFunc_eq (α:=jX) aiY 2 isAgg193 sizeOf193 MO (λ_=>rfl) (λx v aF=>by simp[MO]at aF;rcases aF with rfl|rfl<;>rfl) (λx y=>Lib.compareInt x.id y.id) (by rw[abe];exact XZ) 96 #[] blk off cap d w wA (λ_ _ _ _ x y=>aCU x.id y.id _ _ _) hH hblk b8;rw[abe]at h;exact h
theorem anw:kL prog 95=true:=by kernel_rfl
def X':cY cm:=Tq cm 95 13 96 (qO (α:=cm.D 13) sN)
theorem aqh:mm prog X':=ab0 (U:=cm) (n:=13) MO sN XZ (λ_=>rfl) (λw S x j t v h ai=>ase w S x.id x.text j t v h ai) aC5 aCZ
end
theorem Ya:fJ prog X':=⟨anw,aqh⟩
def abD:Go.Shelf.Ren:=⟨λ|240=>100|276=>144|n=>n,λ|0=>0|4=>4|9=>9|20=>20|37=>28|70=>135|72=>137|164=>234|n=>n,λn=>n⟩
theorem aBn:Lays.n240 prog abD:={
 mixed:=by kernel_rfl
 f240:=func100.trans (eL some (by kernel_rfl))
 f276:=func144.trans (eL some (by kernel_rfl))
 t0:=underlying0
 a0:=isAgg0
 z0:=sizeOf0
 v0:=zeroValue0
 t4:=underlying4
 a4:=isAgg4
 z4:=sizeOf4
 v4:=zeroValue4
 t9:=underlying9
 a9:=isAgg9
 z9:=sizeOf9
 v9:=zeroValue9
 t20:=underlying20
 a20:=isAgg20
 z20:=sizeOf20
 v20:=zeroValue20
 t70:=underlying135
 a70:=isAgg135
 z70:=sizeOf135
 v70:=zeroValue135
 t72:=underlying137
 a72:=isAgg137
 z72:=sizeOf137
 v72:=zeroValue137
 t164:=underlying234
 a164:=isAgg234
 z164:=sizeOf234
 v164:=zeroValue234}
theorem aBo:Builder.X72 prog abD:={
 sizeBuilder:=by kernel_rfl
 liesBuilder:=by kernel_rfl}
theorem aw1:kL prog 100=true:=by kernel_rfl
def sa:cY cm:=Ts cm 100 137 5
theorem aoU:mm prog sa:=as8 aBn aBo rfl rfl
theorem we:fJ prog sa:=⟨aw1,aoU⟩
instance:Inhabited b3:=⟨fE⟩
instance:Inhabited (cm.D 12):=⟨fE⟩
def xg(x y:b3):Bool:=decide (x.cw<y.cw)||(decide (x.cw=y.cw)&&decide (x.cd<y.cd))
section
open Go.Proofs Go.Proofs.YtklfhpkljddjbaaGreatDoor Go.Sort Go.RowKit Go.Lib
theorem aCY(x:Int)(w:World):Calls prog 141 #[.int .i64 x] w λe w'=>e= .returned (.bool false)/\w'=w:=by
 go_enter func141,ntmps141
 go_wp2
 go_ret
 exact⟨by simp,rfl⟩
set_option maxHeartbeats 1000000 in
theorem ajM(x y:Int)(w:World):Calls prog 97 #[.int .i64 x,.int .i64 y] w λe w'=>e= .returned (.int .i64 (Lib.compareInt x y))/\w'=w:=by
 go_enter func97,ntmps97
 go_wp2_with (go_at_call 141;refine(aCY _ _).mono ?_;rintro e w' ⟨rfl,hw⟩;rw[hw])
 all_goals (go_ret;refine⟨?_,rfl⟩;unfold Lib.compareInt;(repeat' split)<;>first|rfl|(exfalso;omega))
def xQ(a b c d:Int):Int:=if Lib.compareInt a c=0 then Lib.compareInt b d else Lib.compareInt a c
set_option maxHeartbeats 4000000 in
theorem aCT(a b c d:Int)(p q:Nat)(w:World)(h0:w.cell? ⟨p,0,none⟩=some (.int .i64 a))(h1:w.cell? ⟨p,1,none⟩=some (.int .i64 b))(aa:w.cell? ⟨q,0,none⟩=some (.int .i64 c))(aA:w.cell? ⟨q,1,none⟩=some (.int .i64 d)):
 Calls prog 74 #[.slice (some ⟨p,0,none⟩) 2 2,.slice (some ⟨q,0,none⟩) 2 2] w λe w'=>e= .returned (.int .i64 (xQ a b c d))/\w'=w:=by
 go_enter func74,ntmps74
 go_wp2
 refine wp_loop_rounds 3 ?_;rw[rounds_succ]
 go_wp2_with (go_at_call 97;refine(ajM _ _ _).mono ?_;rintro e w' ⟨rfl,rfl⟩)
 . rename_i b4
   go_ret
   refine⟨?_,rfl⟩;show Ending.returned (.int .i64 (compareInt a c))=_;rw[xQ,ah (by simpa using b4)]
 . have aij:(compareInt a c !=0)=false:=by assumption
   rw[rounds_succ]
   go_wp2_with (go_at_call 97;refine(ajM _ _ _).mono ?_;rintro e w' ⟨rfl,rfl⟩)
   . go_ret
     refine⟨?_,rfl⟩;show Ending.returned (.int .i64 (compareInt b d))=_;rw[xQ,af (by simpa using aij)]
   . have aAe:(compareInt b d !=0)=false:=by assumption
     rw[rounds_succ]
     go_wp2
     go_ret
     refine⟨?_,rfl⟩;show Ending.returned (.int .i64 0)=_;rw[xQ,af (by simpa using aij)];have:compareInt b d=0:=by simpa using aAe
     rw[this]
theorem Rh(W:World)(aw oH pt jQ:Value)(E F:TypeId)(n:Nat):(((W.alloc (.cells #[aw,oH] E)).alloc (.cells #[pt,jQ] F)).drewN n).cell? ⟨W.heap.size,0,none⟩=some aw/\(((W.alloc (.cells #[aw,oH] E)).alloc (.cells #[pt,jQ] F)).drewN n).cell? ⟨W.heap.size,1,none⟩=some oH/\
 (((W.alloc (.cells #[aw,oH] E)).alloc (.cells #[pt,jQ] F)).drewN n).cell? ⟨W.heap.size+1,0,none⟩=some pt/\(((W.alloc (.cells #[aw,oH] E)).alloc (.cells #[pt,jQ] F)).drewN n).cell? ⟨W.heap.size+1,1,none⟩=some jQ:=by
 have aR:((W.alloc (.cells #[aw,oH] E)).alloc (.cells #[pt,jQ] F)).heap[W.heap.size]?=some (.cells #[aw,oH] E):=(Shv.Ay (by simp)).trans Shv.heap_alloc_new;have bw:((W.alloc (.cells #[aw,oH] E)).alloc (.cells #[pt,jQ] F)).heap[W.heap.size+1]?=some (.cells #[pt,jQ] F):=by
  have:=Shv.heap_alloc_new (w:=W.alloc (.cells #[aw,oH] E)) (o:= .cells #[pt,jQ] F);rw[show(W.alloc (.cells #[aw,oH] E)).heap.size=W.heap.size+1 by simp]at this;exact this
 refine⟨?_,?_,?_,?_⟩<;>unfold World.cell?<;>rw[World.heap_drewN]<;>first|(rw[aR];rfl)|(rw[bw];rfl)
set_option maxHeartbeats 4000000 in
theorem aCV(a b c d:Int)(W:World):Calls prog 73 #[.agg #[.int .i64 a,.int .i64 b],.agg #[.int .i64 c,.int .i64 d]] W λe w'=>e= .returned (.int .i64 (xQ a b c d))/\∃q Xa,w'=grow (W.drewN q) Xa:=by
 have lF:=λp q w' h0 h1 aa aA=>aCT a b c d p q w' h0 h1 aa aA
 generalize xQ a b c d=r at lF⊢
 go_enter func73,ntmps73
 go_wp2
 go_quiet (first|(go_at_call 74;refine Calls.quiet_of_same (lF _ _ _ ?_ ?_ ?_ ?_);exact(Rh ..).1;exact(Rh ..).2.1;exact(Rh ..).2.2.1;exact(Rh ..).2.2.2))
 go_wp2
 go_ret
 exact⟨rfl,_,#[_,_],by rw[alloc_eq_grow,alloc_eq_grow,grow_grow];rfl⟩
def MP(x:b3):List Value:=[.int .i64 x.cw,.int .i64 x.cd]
def ab6:Go.Shelf.Ren:=⟨λ|6=>72|15=>126|14=>125|28=>186|29=>187|20=>178|21=>179|22=>180|23=>181|24=>182|25=>183|26=>184|27=>185|46=>232|47=>233|48=>234|49=>235|50=>236|57=>255|n=>n,λ|22=>61|24=>119|25=>170|3=>3|39=>188|0=>0|53=>277|55=>132|4=>4|46=>271|45=>270|50=>197|5=>5|9=>9|66=>317|70=>321|76=>338|77=>339|n=>n,λ|n=>n⟩
theorem aiX:SlLaysF0.n6 prog ab6:={
 mixed:=by kernel_rfl
 f6:=⟨f72.name,by decide,func72.trans (eL some (by kernel_rfl))⟩
 f14:=⟨f125.name,by decide,func125.trans (eL some (by kernel_rfl))⟩
 f15:=func126.trans (eL some (by kernel_rfl))
 f20:=⟨f178.name,by decide,func178.trans (eL some (by kernel_rfl))⟩
 f21:=⟨f179.name,by decide,func179.trans (eL some (by kernel_rfl))⟩
 f22:=⟨f180.name,by decide,func180.trans (eL some (by kernel_rfl))⟩
 f23:=⟨f181.name,by decide,func181.trans (eL some (by kernel_rfl))⟩
 f24:=⟨f182.name,by decide,func182.trans (eL some (by kernel_rfl))⟩
 f25:=⟨f183.name,by decide,func183.trans (eL some (by kernel_rfl))⟩
 f26:=⟨f184.name,by decide,func184.trans (eL some (by kernel_rfl))⟩
 f27:=⟨f185.name,by decide,func185.trans (eL some (by kernel_rfl))⟩
 f28:=func186.trans (eL some (by kernel_rfl))
 f29:=func187.trans (eL some (by kernel_rfl))
 f46:=⟨f232.name,by decide,func232.trans (eL some (by kernel_rfl))⟩
 f47:=func233.trans (eL some (by kernel_rfl))
 f48:=func234.trans (eL some (by kernel_rfl))
 f49:=⟨f235.name,by decide,func235.trans (eL some (by kernel_rfl))⟩
 f50:=⟨f236.name,by decide,func236.trans (eL some (by kernel_rfl))⟩
 f57:=⟨f255.name,by decide,func255.trans (eL some (by kernel_rfl))⟩
 t0:=underlying0
 a0:=isAgg0
 z0:=sizeOf0
 v0:=zeroValue0
 t3:=underlying3
 a3:=isAgg3
 z3:=sizeOf3
 v3:=zeroValue3
 t4:=underlying4
 a4:=isAgg4
 z4:=sizeOf4
 v4:=zeroValue4
 t5:=underlying5
 a5:=isAgg5
 z5:=sizeOf5
 v5:=zeroValue5
 t9:=underlying9
 a9:=isAgg9
 z9:=sizeOf9
 v9:=zeroValue9
 t22:=underlying61
 a22:=isAgg61
 z22:=sizeOf61
 v22:=zeroValue61
 t25:=underlying170
 a25:=isAgg170
 z25:=sizeOf170
 v25:=zeroValue170
 t39:=underlying188
 a39:=isAgg188
 z39:=sizeOf188
 v39:=zeroValue188
 t45:=underlying270
 a45:=isAgg270
 z45:=sizeOf270
 v45:=zeroValue270
 t46:=underlying271
 a46:=isAgg271
 z46:=sizeOf271
 v46:=zeroValue271
 t50:=underlying197
 a50:=isAgg197
 z50:=sizeOf197
 v50:=zeroValue197
 t53:=underlying277
 a53:=isAgg277
 z53:=sizeOf277
 v53:=zeroValue277
 t55:=underlying132
 a55:=isAgg132
 z55:=sizeOf132
 v55:=zeroValue132
 t66:=underlying317
 a66:=isAgg317
 z66:=sizeOf317
 v66:=zeroValue317
 t70:=underlying321
 a70:=isAgg321
 z70:=sizeOf321
 v70:=zeroValue321
 t76:=underlying338
 a76:=isAgg338
 z76:=sizeOf338
 v76:=zeroValue338
 t77:=underlying339
 a77:=isAgg339
 z77:=sizeOf339
 v77:=zeroValue339}
theorem abE:ltOf (λx y:b3=>xQ x.cw x.cd y.cw y.cd)=xg:=by
 funext x y
 unfold ltOf xg xQ Lib.compareInt;rcases Int.lt_trichotomy x.cw y.cw with h|h|h
 . have aa:¬x.cw=y.cw:=by omega
   simp[h,aa]
 . rcases Int.lt_trichotomy x.cd y.cd with aA|aA|aA
   . simp[h,aA]
   . simp[h,aA]
   . have aU:¬x.cd<y.cd:=by omega
     simp[h,aA,aU]
 . have aa:¬x.cw<y.cw:=by omega
   have aA:¬x.cw=y.cw:=by omega
   simp[h,aa,aA]
theorem X0:SWO xg where
 irrefl x:=by simp[xg]
 trans x y z h1 aa:=by simp[xg]at*;omega
 ntrans x y z h1 aa:=by simp[xg]at*;omega
set_option maxHeartbeats 2000000 in
theorem aC1(p:Option Addr)(cap:Nat)(nH:Value)(w:World):Calls prog 178 #[.slice p 0 cap,.int .i64 0,.int .i64 0,nH] w λe w'=>e= .returned (.tuple #[])/\w'=w:=by
 go_enter func178,ntmps178
 go_wp2
 refine wp_loop_rounds 1 ?_;rw[rounds_succ]
 go_wp2
 go_end0
 exact⟨rfl,rfl⟩
set_option maxHeartbeats 2000000 in
theorem aC4(p:Option Addr)(cap:Nat)(lim:Int)(nH:Value)(w:World):Calls prog 125 #[.slice p 0 cap,.int .i64 0,.int .i64 0,.int .i64 lim,nH] w λe w'=>e= .returned (.tuple #[])/\w'=w:=by
 have ak:=λW=>aC1 p cap nH W
 go_enter func125,ntmps125
 go_wp2
 refine wp_loop_rounds 1 ?_;rw[rounds_succ]
 go_wp2_with (go_at_call 178;refine(ak _).mono ?_;rintro e w' ⟨rfl,rfl⟩)
 (try simp only[Exit.inBlock,Exit.then]);refine bodyPost_ret (results_none rfl _ _ _) rfl ?_
 exact⟨rfl,rfl⟩
set_option maxHeartbeats 2000000 in
theorem aC3(p:Option Addr)(cap:Nat)(nH:Value)(w:World):Calls prog 72 #[.slice p 0 cap,nH] w λe w'=>e= .returned (.tuple #[])/\w'=w:=by
 have ar:=λlim W=>aC4 p cap lim nH W
 have aj:∀W,Calls prog 126 #[.int .u64 0] W λe w'=>e= .returned (.int .i64 (Lib.bitLen 0:Nat))/\w'=W:=λW=>by
  have h:=Any.bits_Len (SlLaysF0.n15.bits (P:=prog) (ρ:=ab6) {aiX with}) 0 W (by omega) (by omega);exact h
 go_enter func72,ntmps72
 go_wp2_with (first|(go_at_call 126;refine(aj _).mono ?_;rintro e w' ⟨rfl,rfl⟩)|(go_at_call 125;refine(ar _ _).mono ?_;rintro e w' ⟨rfl,rfl⟩))
 go_end0
 exact⟨rfl,rfl⟩
theorem aC6(blk off cap:Nat)(d:Array (cm.D 12))(w:World)(hH:HoldsK MP 2 w blk off d)(hblk:blk<w.heap.size)(b8:d.size<4611686018427387904):
 Calls prog 72 #[.slice (some ⟨blk,off,none⟩) d.size cap,.func (.func 73) #[] #[]] w λe w'=>e= .returned (.tuple #[])/\∃n os,w'=sortWorldK MP 2 w blk off n (pdq xg d 0 d.size (Lib.bitLen d.size) true true) os:=by
 have wA:∀args w,(callFunc 73 args).run prog w= .ok (.enter 73 args) w:=enters_of func73 (by kernel_rfl) rfl
 have h:=AnyQ.slices_SortFunc_eq (α:=b3) aiX 2 isAgg119 sizeOf119 MP (λ_=>rfl) (λx v aF=>by simp[MP]at aF;rcases aF with rfl|rfl<;>rfl) (λx y=>xQ x.cw x.cd y.cw y.cd) (by rw[abE];exact X0) 73 #[] blk off cap d w wA (λ_ _ _ _ x y=>aCV x.cw x.cd y.cw y.cd _) hH hblk b8;rw[abE]at h;exact h
theorem arW(w:World)(S:dV)(i k:Int)(j:Nat)(t:T)(v:Value)(h:[T.int .i64 i,T.int .i64 k][j]?=some t)(ai:cl w S t v):[Value.int .i64 i,Value.int .i64 k][j]?=some v:=by
 match j,h with
 |0,h=>cases h;cases ai;rfl
 |1,h=>cases h;cases ai;rfl
theorem ans:kL prog 72=true:=by kernel_rfl
def Yb:cY cm:=Tq cm 72 12 73 (qO (α:=cm.D 12) xg)
theorem aqi:mm prog Yb:=ab0 (U:=cm) (n:=12) MP xg X0 (λ_=>rfl) (λw S x j t v h ai=>arW w S x.cw x.cd j t v h ai) aC6 aC3
end
theorem amb:fJ prog Yb:=⟨ans,aqi⟩
end
section
open Go Go.Proofs.YtklfhpkljddjbaaGreatDoor.Shv
open Tryz
set_option maxRecDepth 100000
section
variable (kb:bY×Int×bY×Int->Option (List b3))
def xE(i:Int):List b3->List b3->List Int->Option (List b3×List Int)
 |[],l,b=>some (l,b)
 |x::r,l,b=>if(l.any λz=>(gu x.cw z.cw&&gu x.cd z.cd))=true then xE i r l b
  else if(room 16 (l++[x]).length&&room 8 (b++[i]).length)=true then xE i r (l++[x]) (b++[i])else none
def HM(w r:cG):Nat->Nat->List b3->List Int->Option (List b3×List Int)
 |0,_,_,_=>none
 |n+1,i,l,b=>if (i:Int)<(l.length:Int) then kb (w.hQ,(l.getD i fE).cw,r.hQ,(l.getD i fE).cd)>>=λm=>
  xE (i:Int) m l b>>=λp=>HM w r n (i+1) p.1 p.2
  else some (l,b)
def SV(x:cG×cG):Option (List b3×List Int):=HM kb x.1 x.2 60 0 [⟨x.1.aQ,x.2.aQ⟩] [-1]
end
theorem Xe:sY prog 178:= .of (by kernel_rfl)
def vj(l:List b3):List (Int×Int):=l.map λx=>(x.cw,x.cd)
theorem aue(l:List b3)(x:b3):j1 (vj l) (x.cw,x.cd)=l.any λz=>(gu x.cw z.cw&&gu x.cd z.cd):=by
 unfold j1 vj;rw[List.any_map]
 congr 1
 funext z
 show decide ((z.cw,z.cd)=(x.cw,x.cd))=_;rw[L3];simp only[gu,ij,dM,fu];exact⟨λh=>⟨h.1.symm,h.2.symm⟩,λh=>⟨h.1.symm,h.2.symm⟩⟩
theorem auf{l:List b3}{x:b3}(h:j1 (vj l) (x.cw,x.cd)=false):r0 (vj l) (x.cw,x.cd)=vj (l++[x]):=by
 unfold r0;rw[h];simp[vj]
theorem ab7{kb:bY×Int×bY×Int->Option (List b3)}(ay4:fJ prog ((bm 86 [.row 10,ab ae,.row 10,ab ae] (ab (aH 12))).s (U:=cm) kb)):
 fJ prog ((bm 40 [.row 11,.row 11] (.bn [.c (.arr 0),.c (.arr 1)]) [] [] [.arr (.nm 12),.arr ae]).s (U:=cm) (SV kb)):=by
 refine .azb (by kernel_rfl) ?_
 rintro ⟨rw,fI⟩ ⟨Xu,Ei⟩ bF φ S w h' vs ec aC aF iV
 unfold SV at bF;refine calls_of_wp func40 rfl ?_;have vG:=db.enter (U:=cm) (gs:=[]) (N:=0) (nt:=67) aC aF iV ec (by rw[<-aC.length];exact BA rfl) (by simp);refine wp_seq (vG.fA 0 [bS .normal [(2,aD 0 0),(3,aD 1 0)] [.bz 11,.bz 11]] (o:=(rw,fI)) .n (by kernel_rfl) λxn vF a1 gb jh dJ=>?_)
 refine wp_seq (jh.fA 0 [bS .normal [(2,aD 0 0),(3,aD 1 0),(6,.c (.arr 2)),(7,.c (.arr 3))] [.bz 11,.bz 11,.arr (.nm 12),.arr ae]] (o:=(rw,fI,[(⟨rw.aQ,fI.aQ⟩:b3)],([-1]:List Int))) .n (by kernel_rfl) λpw q0 a2 hr hd dn=>?_);refine wp_seq (tk [0,1,2,3,4,5,6] ?_);refine tF rfl rfl rfl (aB1 rfl) ?_
 have h8:=(hd.new (.map #[] 0)).put (d:=19) (x:= .map (some hr.heap.size)) (v:= .c (.mp 4)) (.c (.mp 4)) (.c (by show _=Value.map (some _);simp[ga]))
 refine h8.op 5 1 3 [(2,aD 0 0),(3,aD 1 0),(6,.c (.arr 2)),(7,.c (.arr 3)),(19,.c (.mp 4)),(22,.row 12)] [.bz 11,.bz 11,.arr (.nm 12),.arr ae,.gone] (h:=((⟨rw.aQ,fI.aQ⟩:b3),rw,fI,[(⟨rw.aQ,fI.aQ⟩:b3)],([-1]:List Int))) .n (by kernel_rfl) λvA xz a4 tU hR cJ=>?_
 have yX:tU.heap[hr.heap.size]?=some (.map #[] 0):=(cJ.ar hr.heap.size (by simp)).trans Shv.heap_alloc_new;refine aBW rfl rfl rfl rfl Xe (gH ((hR.mp (k:=19) rfl).trans (by rw[cJ.fix 4 (by decide)];simp[ga]))) (gH (hR.pair (k:=22) rfl)) rfl yX (ks:=[]) .nil ⟨by simp,by simp⟩ λU3 Ut ais PJ=>?_
 have FZ:w.heap.size<=hr.heap.size:=hd.ext.size;have lS:=hR.write (w':={tU with heap:=tU.heap.setIfInBounds hr.heap.size (.map U3 Ut)}) (g:=hr.heap.size) (by simp) FZ rfl rfl rfl (by simp) (λb ag=>by simp[D',eW ag]);have ah8:hr.heap.size<tU.heap.size:=(hR.fM _ (by simp)).1
 refine lS.op 5 5 2 [(2,aD 0 0),(3,aD 1 0),(6,.c (.arr 2)),(7,.c (.arr 3)),(8,.c (.mp 4))] [.bz 11,.bz 11,.arr (.nm 12),.arr ae,.gone] (h:=(rw,fI,[(⟨rw.aQ,fI.aQ⟩:b3)],([-1]:List Int))) .n (by kernel_rfl) λNq Uf bx TH mn n6=>?_
 obtain⟨B6,zH,iO,_⟩:=mn.goto 0 (sh:=⟨[(2,aD 1 0),(3,aD 2 0),(6,.c (.arr 3)),(7,.c (.arr 4)),(8,.c (.mp 0))],[.gone,.bz 11,.bz 11,.arr (.nm 12),.arr ae]⟩) (ts:=[.nm 11,.nm 11,aH 12,eA]) (h:=(rw,fI,[(⟨rw.aQ,fI.aQ⟩:b3)],([-1]:List Int))) (by kernel_rfl);have hV:(B6 0).1=hr.heap.size:=by
  have aR:=iO.mp (k:=8) rfl;rw[mn.mp (k:=8) rfl,n6.fix 4 (by decide),cJ.fix 4 (by decide)]at aR;simp[ga]at aR;exact aR.symm
 have AH:TH.heap[hr.heap.size]?=some (.map U3 Ut):=by
  rw[n6.ar hr.heap.size (by simp)];simp[D',ah8]
 clear lS mn n6 hR cJ h8 yX ah8;generalize hr.heap.size=cM at*;refine wp_seq (wp_seq (iO.fA 1 [bS .normal [(2,aD 1 0),(3,aD 2 0),(6,.c (.arr 3)),(7,.c (.arr 4)),(8,.c (.mp 0)),(9,ab ae)] [.gone,.bz 11,.bz 11,.arr (.nm 12),.arr ae]] (o:=(((0:Nat):Int),rw,fI,[(⟨rw.aQ,fI.aQ⟩:b3)],([-1]:List Int))) .n (by kernel_rfl) λEz ES cz B0 kF n8=>?_))
 refine wp_block (G6 ?_)
 refine(show(∀(n i:Nat) (l:List b3) (b:List Int),HM kb rw fI n i l b=some (Xu,Ei)->∀bB bC cx w' es cZ,db ⟨w,S,λ_=>False,φ,0⟩ 67 [cM] (im (U:=cm) [bS .normal [(2,aD 1 0),(3,aD 2 0),(6,.c (.arr 3)),(7,.c (.arr 4)),(8,.c (.mp 0)),(9,ab ae)] [.gone,.bz 11,.bz 11,.arr (.nm 12),.arr ae]] ((i:Int),rw,fI,l,b)).2 bB bC cx w'->(bB 0).1=cM->w'.heap[cM]?=some (.map es cZ)->mg (vj l) es.toList->rm es.toList cZ->zy prog _ _ cx w')from ?_)
  60 0 _ _ bF Ez ES cz B0 U3 Ut kF ((n8.fix 0 (by decide)).symm▸hV) ((n8.ar cM (by simp)).trans AH) ais PJ
 clear iO kF n8 AH hV ais PJ bF hd dn jh dJ vG;intro n
 induction n with
 |zero=>intro i l b ai;cases ai
 |succ n ih=>
  intro i l b ai xn vF a1 gb es cZ jh h1 hm hs ag
  change (if(i:Int)<(List.length l:Int)then(kb (rw.hQ,(l.getD i fE).cw,fI.hQ,(l.getD i fE).cd)>>=λm=>xE (i:Int) m l b>>=λp=>HM kb rw fI n (i+1) p.1 p.2)else some (l,b))=some (Xu,Ei)at ai
  refine yy (wp_seq (wp_seq (jh.fA 1 [bS .normal [(2,aD 1 0),(3,aD 2 0),(6,.c (.arr 3)),(7,.c (.arr 4)),(8,.c (.mp 0)),(9,ab ae),(27,ab .bool)] [.gone,.bz 11,.bz 11,.arr (.nm 12),.arr ae]] (o:=((i:Int),decide ((i:Int)<l.length),rw,fI,l,b)) .n (by kernel_rfl) λpw q0 a2 hr hd dn=>?_)));have f2:(pw 0).1=cM:=by rw[dn.fix 0 (by decide)];exact h1
  have wR:=(dn.ar cM (by simp)).trans hm;by_cases nM:(i:Int)<(l.length:Int)
  . rw[af nM]at ai;obtain⟨m,sA,ai⟩:=p1.1 ai;obtain⟨⟨l2,b2⟩,iU,ai⟩:=p1.1 ai;have PS:bl .i64 (i:Int) 1=((i+1:Nat):Int):=by
     have lE:List.length l<=en:=hd.aBp (b:=3) rfl;unfold en at lE;have PC:(i:Int)<281474976710656:=by omega
     unfold bl;rw[IntKind.wrap_i64];omega
    refine wp_cond_true ((gH (hd.bool (k:=27) rfl)).trans (by simp[nM])) (wp_skip ?_)
    refine wp_seq (wp_block (wp_seq (hd.fA 1 [bS .normal [(2,aD 1 0),(3,aD 2 0),(6,.c (.arr 3)),(7,.c (.arr 4)),(8,.c (.mp 0)),(9,ab ae),(44,ab (aH 12)),(45,ab ae),(46,ab ae)] [.gone,.bz 11,.bz 11,.arr (.nm 12),.arr ae]] (o:=((i:Int),m,(m.length:Int),((0:Nat):Int),rw,fI,l,b)) (.k ay4 .n) ((show _=(if bd (i:Int) (List.length l)=true then(if decide (Int.toNat i<List.length l)=true then(if bd (i:Int) (List.length l)=true then(if decide (Int.toNat i<List.length l)=true then(kb (rw.hQ,(l.getD i fE).cw,fI.hQ,(l.getD i fE).cd)>>=λm=>some ((i:Int),m,(m.length:Int),((0:Nat):Int),rw,fI,l,b))else none)else none)else none)else none) by kernel_rfl).trans (by
     have bD:bd (i:Int) (List.length l)=true:=by simp[bd];omega
     have bJ:decide (Int.toNat i<List.length l)=true:=by simp;omega
     rw[af bD,af bJ,af bD,af bJ,sA];rfl)) λvz ui a3 sR h8 ej=>?_)))
    refine wp_block (G6 ?_)
    refine(show(∀(k j:Nat),j+k=m.length->∀(l:List b3) (b:List Int),xE (i:Int) (m.drop j) l b=some (l2,b2)->∀bB bC cx w' es cZ,db ⟨w,S,λ_=>False,φ,0⟩ 67 [cM] (im (U:=cm) [bS .normal [(2,aD 1 0),(3,aD 2 0),(6,.c (.arr 3)),(7,.c (.arr 4)),(8,.c (.mp 0)),(9,ab ae),(44,ab (aH 12)),(45,ab ae),(46,ab ae)] [.gone,.bz 11,.bz 11,.arr (.nm 12),.arr ae]] ((i:Int),m,(m.length:Int),(j:Int),rw,fI,l,b)).2 bB bC cx w'->(bB 0).1=cM->w'.heap[cM]?=some (.map es cZ)->mg (vj l) es.toList->rm es.toList cZ->zy prog _ _ cx w')from ?_)
     m.length 0 (by simp) l b iU vz ui a3 sR es cZ h8 (by rw[ej.fix 0 (by decide)];exact f2) ((ej.ar cM (by simp)).trans wR) hs ag
    clear h8 ej hd dn jh h1 hm f2 wR hs ag iU;intro k
    induction k with
    |zero=>
     intro j aM l b iU xn vF a1 gb es cZ jh h1 hm hs ag;rw[mc (by omega)]at iU
     change some (l,b)=some (l2,b2)at iU
     obtain⟨rfl,rfl⟩:=Prod.mk.inj (w3 iU);dsimp only at ai;refine yy (wp_seq (jh.fA 1 [bS .normal [(2,aD 1 0),(3,aD 2 0),(6,.c (.arr 3)),(7,.c (.arr 4)),(8,.c (.mp 0)),(9,ab ae),(47,ab .bool)] [.gone,.bz 11,.bz 11,.arr (.nm 12),.arr ae]] (o:=((i:Int),decide ((j:Int)<m.length),rw,fI,l,b)) .n (by kernel_rfl) λpw q0 a2 hr hd dn=>?_))
     refine wp_seq (wp_cond_false ((gH (hd.bool (k:=47) rfl)).trans (by simp;omega)) (wp_exit ?_));refine hd.fA 1 [bS .normal [(2,aD 1 0),(3,aD 2 0),(6,.c (.arr 3)),(7,.c (.arr 4)),(8,.c (.mp 0)),(9,ab ae)] [.gone,.bz 11,.bz 11,.arr (.nm 12),.arr ae]] (o:=(bl .i64 (i:Int) 1,rw,fI,l,b)) .n (by kernel_rfl) λvz ui a3 sR h8 ej=>?_
     rw[PS]at h8;exact ih (i+1) _ _ ai vz ui a3 sR es cZ h8 (by rw[ej.fix 0 (by decide),dn.fix 0 (by decide)];exact h1) ((ej.ar cM (by simp)).trans ((dn.ar cM (by simp)).trans hm)) hs ag
    |succ k iY=>
     intro j aM l b iU xn vF a1 gb es cZ jh h1 hm hs ag;have lG:j<m.length:=by omega
     rw[vd lG]at iU;have cv:m.getD (Int.toNat j) fE=m[j]:=by simp[List.getD,gQ lG]
     refine yy (wp_seq (jh.fA 1 [bS .normal [(2,aD 1 0),(3,aD 2 0),(6,.c (.arr 3)),(7,.c (.arr 4)),(8,.c (.mp 0)),(9,ab ae),(44,ab (aH 12)),(45,ab ae),(46,ab ae),(47,ab .bool)] [.gone,.bz 11,.bz 11,.arr (.nm 12),.arr ae]] (o:=((i:Int),m,(m.length:Int),(j:Int),decide ((j:Int)<m.length),rw,fI,l,b)) .n (by kernel_rfl) λpw q0 a2 hr hd dn=>?_))
     refine wp_seq (wp_cond_true ((gH (hd.bool (k:=47) rfl)).trans (by simp;omega)) (wp_skip ?_))
     refine wp_seq (wp_block (wp_seq (hd.fA 1 [bS .normal [(2,aD 1 0),(3,aD 2 0),(6,.c (.arr 3)),(7,.c (.arr 4)),(8,.c (.mp 0)),(9,ab ae),(44,ab (aH 12)),(45,ab ae),(46,ab ae),(11,aD 5 0)] [.gone,.bz 11,.bz 11,.arr (.nm 12),.arr ae,.bz 12]] (o:=((i:Int),m,(m.length:Int),(j:Int),rw,fI,l,b,m.getD (Int.toNat j) fE)) .n ((show _=(if bd (j:Int) (List.length m)=true then some _ else none) by kernel_rfl).trans (af (by simp[bd];omega))) λvz ui a3 sR h8 ej=>?_)))
     rw[cv]at h8;generalize m[j]=x at*;have f3:(vz 0).1=cM:=by rw[ej.fix 0 (by decide),dn.fix 0 (by decide)];exact h1
     have ah':=(ej.ar cM (by simp)).trans ((dn.ar cM (by simp)).trans hm);refine wp_seq (tk [0,1,2,3] ?_)
     refine h8.op 6 0 2 [(2,aD 1 0),(3,aD 2 0),(6,.c (.arr 3)),(7,.c (.arr 4)),(8,.c (.mp 0)),(9,ab ae),(44,ab (aH 12)),(45,ab ae),(46,ab ae),(11,aD 5 0),(50,.c (.mp 0)),(51,.row 12)] [.gone,.bz 11,.bz 11,.arr (.nm 12),.arr ae,.bz 12] (h:=((i:Int),m,(m.length:Int),(j:Int),x,rw,fI,l,b,x)) .n (by kernel_rfl) λvA xz a4 tU hR cJ=>?_
     have f4:(vA 0).1=cM:=by rw[cJ.fix 0 (by decide)];exact f3
     have yX:=(cJ.ar cM (by simp)).trans ah';refine tF rfl rfl rfl (aiZ rfl Xe (gH ((hR.mp (k:=50) rfl).trans (by rw[f4]))) (gH (hR.pair (k:=51) rfl)) yX hs) ?_;have lS:=hR.put (d:=52) (v:= .c (.t ⟨.bool,j1 (vj l) (x.cw,x.cd)⟩)) (.c (.t _)) (.c (cl.bool _))
     refine lS.op 6 3 1 [(2,aD 1 0),(3,aD 2 0),(6,.c (.arr 3)),(7,.c (.arr 4)),(8,.c (.mp 0)),(9,ab ae),(44,ab (aH 12)),(45,ab ae),(46,ab ae),(11,aD 5 0),(53,ab .bool)] [.gone,.bz 11,.bz 11,.arr (.nm 12),.arr ae,.bz 12] (h:=((i:Int),m,(m.length:Int),(j:Int),!j1 (vj l) (x.cw,x.cd),rw,fI,l,b,x)) .n (by kernel_rfl) λNq Uf bx TH mn n6=>?_
     have f6:(Nq 0).1=cM:=by rw[n6.fix 0 (by decide)];exact f4
     have aia:=(n6.ar cM (by simp)).trans yX;have AD:bl .i64 (j:Int) 1=((j+1:Nat):Int):=by
      have lE:List.length m<=en:=mn.len (k:=44) rfl;unfold en at lE;have PC:(j:Int)<281474976710656:=by omega
      unfold bl;rw[IntKind.wrap_i64];omega
     change (if(l.any λz=>(gu x.cw z.cw&&gu x.cd z.cd))=true then xE (i:Int) (m.drop (j+1)) l b else if(room 16 (l++[x]).length&&room 8 (b++[(i:Int)]).length)=true then xE (i:Int) (m.drop (j+1)) (l++[x]) (b++[(i:Int)])else none)=some (l2,b2)at iU
     rw[<-aue]at iU;clear h8 ej hd dn jh h1 hm hR cJ lS n6 ah' f3 f4 yX;cases ar:j1 (vj l) (x.cw,x.cd)with
     |true=>
      rw[ar,af rfl]at iU;refine wp_cond_false ((gH (mn.bool (k:=53) rfl)).trans (by rw[ar];rfl)) (wp_skip ?_)
      refine mn.fA 1 [bS .normal [(2,aD 1 0),(3,aD 2 0),(6,.c (.arr 3)),(7,.c (.arr 4)),(8,.c (.mp 0)),(9,ab ae),(44,ab (aH 12)),(45,ab ae),(46,ab ae)] [.gone,.bz 11,.bz 11,.arr (.nm 12),.arr ae]] (o:=((i:Int),m,(m.length:Int),bl .i64 (j:Int) 1,rw,fI,l,b)) .n (by kernel_rfl) λB6 zH cp xi iO n7=>?_
      rw[AD]at iO;exact iY (j+1) (by omega) l b iU B6 zH cp xi es cZ iO (by rw[n7.fix 0 (by decide)];exact f6) ((n7.ar cM (by simp)).trans aia) hs ag
     |false=>
      rw[ar,ah (by simp)]at iU;by_cases J3:(room 16 (l++[x]).length&&room 8 (b++[(i:Int)]).length)=true
      . rw[af J3]at iU;simp only[dM]at J3;refine wp_cond_true ((gH (mn.bool (k:=53) rfl)).trans (by rw[ar];rfl)) ?_;refine wp_seq (tk [0,1,2] ?_)
        refine mn.op 6 0 2 [(2,aD 1 0),(3,aD 2 0),(6,.c (.arr 3)),(7,.c (.arr 4)),(8,.c (.mp 0)),(9,ab ae),(44,ab (aH 12)),(45,ab ae),(46,ab ae),(11,aD 5 0),(54,.c (.mp 0)),(55,.row 12)] [.gone,.bz 11,.bz 11,.arr (.nm 12),.arr ae,.bz 12] (h:=((i:Int),m,(m.length:Int),(j:Int),x,rw,fI,l,b,x)) .n (by kernel_rfl) λB6 zH cp xi iO n7=>?_
        have f7:(B6 0).1=cM:=by rw[n7.fix 0 (by decide)];exact f6
        have AH:=(n7.ar cM (by simp)).trans aia;refine ai5 rfl rfl rfl rfl Xe (gH ((iO.mp (k:=54) rfl).trans (by rw[f7]))) (gH (iO.pair (k:=55) rfl)) rfl AH hs ag λgJ jZ ko m'=>?_
        rw[auf ar]at ko;have kF:=iO.write (w':={xi with heap:=xi.heap.setIfInBounds cM (.map gJ jZ)}) (g:=cM) (by simp) FZ rfl rfl rfl (by simp) (λb ag=>by simp[D',eW ag]);have aV:cM<xi.heap.size:=(iO.fM cM (by simp)).1
        refine kF.fA 1 [bS .normal [(2,aD 1 0),(3,aD 2 0),(6,.c (.arr 3)),(7,.c (.arr 4)),(8,.c (.mp 0)),(9,ab ae),(44,ab (aH 12)),(45,ab ae),(46,ab ae)] [.gone,.bz 11,.bz 11,.arr (.nm 12),.arr ae]] (o:=((i:Int),m,(m.length:Int),(j:Int),rw,fI,l++[x],b++[(i:Int)])) .n ((show _=(if room 16 (l++[x]).length=true then(if room 8 (b++[(i:Int)]).length=true then some ((i:Int),m,(m.length:Int),(j:Int),rw,fI,l++[x],b++[(i:Int)])else none)else none) by kernel_rfl).trans (by rw[af J3.1,af J3.2];rfl)) λane af9 a9 akJ vH WL=>?_
        refine vH.fA 1 [bS .normal [(2,aD 1 0),(3,aD 2 0),(6,.c (.arr 3)),(7,.c (.arr 4)),(8,.c (.mp 0)),(9,ab ae),(44,ab (aH 12)),(45,ab ae),(46,ab ae)] [.gone,.bz 11,.bz 11,.arr (.nm 12),.arr ae]] (o:=((i:Int),m,(m.length:Int),bl .i64 (j:Int) 1,rw,fI,l++[x],b++[(i:Int)])) .n (by kernel_rfl) λIo ER h9 TG xB n10=>?_
        rw[AD]at xB;refine iY (j+1) (by omega) _ _ iU Io ER h9 TG gJ jZ xB (by rw[n10.fix 0 (by decide),WL.fix 0 (by decide)];exact f7) ?_ ko m';rw[n10.ar cM (by simp),WL.ar cM (by simp)];simp[D',aV]
      . rw[ah J3]at iU;cases iU
  . rw[ah nM]at ai;cases ai;refine wp_cond_false ((gH (hd.bool (k:=27) rfl)).trans (by simp[nM])) (wp_exit ?_);refine hd.fA 0 [bS .ret [(4,.c (.arr 0)),(5,.c (.arr 1))] [.arr (.nm 12),.arr ae]] (o:=(Xu,Ei)) .n (by kernel_rfl) λvz ui a3 sR h8 ej=>?_
    exact h8.ayM rfl rfl rfl
theorem Ri:sY prog 178:= .of (by kernel_rfl)
theorem ano {S:dV}{w:World}(ec:∀b j,S b j->b<w.heap.size)(x:b3){g cM:Nat}{E:TypeId}{es:Array MapEntry}{cZ:Nat}{ks:List (Int×Int)}
 (h1:w.heap[g]?=some (.cells #[.map (some cM)] E (0,0)))(aa:w.heap[cM]?=some (.map es cZ))(hs:mg ks es.toList)(aA:∀j,¬S g j)(aU:∀j,¬S cM j):
 Calls prog 83 #[fR (x.cw,x.cd),.pointer (some ⟨g,0,none⟩)] w λe w'=>e= .returned (.bool (!j1 ks (x.cw,x.cd)))/\∃bC,xw S w bC w':=by
 refine calls_of_wp func83 rfl ?_;have vG:=db.enter (U:=cm) (gs:=[g,cM]) (N:=2) (nt:=8) (φ:=λb=>if b=0 then(g,0)else(cM,0)) (args:=[.agg [.t ⟨.int .i64,x.cw⟩,.t ⟨.int .i64,x.cd⟩],.c (.ptr 0 0)]) (w:=w) (S:=S)
  (.cons (.agg (.cons (.t _) (.cons (.t _) .nil))) (.cons (.c (.ptr 0 0)) .nil)) (vs:=[fR (x.cw,x.cd),.pointer (some ⟨g,0,none⟩)]) (.cons (.agg (.cons (cl.int _ _) (.cons (cl.int _ _) .nil))) (.cons (.c rfl) .nil)) rfl ec (BA rfl)
  (by
   have:=wu h1;have:=wu aa;intro b ag;simp at ag;rcases ag with rfl|rfl
   . exact⟨by assumption,aA⟩
   . exact⟨by assumption,aU⟩)
 refine wp_seq (vG.fA 2 [bS .normal [(1,.c (.ptr 0 0)),(2,.c (.ptr 2 0))] [.gone,.gone,.bz 12]] (o:=x) .n (by kernel_rfl) λxn vF a1 gb jh dJ=>?_);refine wp_seq (tk [0,1,2,3,4] ?_);have k1:a1.tmps[1]?=some (.pointer (some ⟨g,0,none⟩)):=(jh.ptr (k:=1) rfl).trans (by rw[dJ.fix 0 (by decide)];rfl);have azO:gb.heap[g]?=_:=(dJ.ar g (by simp)).trans h1
 have yT:gb.heap[cM]?=_:=(dJ.ar cM (by simp)).trans aa;refine tF rfl rfl rfl (ld1 rfl (by kernel_rfl) (gH k1) azO (off:=0) rfl) ?_;have hd:=jh.put (d:=4) (x:= .map (some cM)) (v:= .c (.mp 1)) (.c (.mp 1)) (.c (by show _=Value.map (some _);rw[dJ.fix 1 (by decide)];rfl))
 refine hd.op 2 1 1 [(4,.c (.mp 1)),(5,.row 12)] [.gone,.gone] (h:=x) .n (by kernel_rfl) λvz ui a3 sR h8 ej=>?_
 have k4:a3.tmps[4]?=some (.map (some cM)):=(h8.mp (k:=4) rfl).trans (by rw[ej.fix 1 (by decide),dJ.fix 1 (by decide)];rfl);have k5:a3.tmps[5]?=some (fR (x.cw,x.cd)):=h8.pair rfl;refine tF rfl rfl rfl (aiZ rfl Ri (gH k4) (gH k5) ((ej.ar cM (by simp)).trans yT) hs) ?_;have hR:=h8.put (d:=6) (v:= .c (.t ⟨.bool,j1 ks (x.cw,x.cd)⟩)) (.c (.t _)) (.c (cl.bool _))
 refine hR.op 2 3 2 [(3,.c (.hole .bool))] [.gone,.gone] (h:=!j1 ks (x.cw,x.cd)) .n (by kernel_rfl) λaa9 Iw a5 oF lS fW=>?_
 refine wp_ret (lS.ret rfl rfl λy ao=>⟨?_,Iw,lS.ext,lS.st⟩);cases ao;rfl
def nK(ks:List (Int×Int))(x:b3):Bool:=j1 ks (x.cw,x.cd)
structure xr (S:dV)(w:World)(g cM:Nat)(ks:List (Int×Int)):Prop where
 st:∀b j,S b j->b<w.heap.size
 g1:∃E,w.heap[g]?=some (.cells #[.map (some cM)] E (0,0))
 g2:∃es cZ,w.heap[cM]?=some (.map es cZ)/\mg ks es.toList
 g3:∀j,¬S g j
 g4:∀j,¬S cM j
theorem xr.next{S bC:dV}{w w':World}{g cM:Nat}{ks:List (Int×Int)}(h:xr S w g cM ks){nt:Nat}{aG:Ctx}{s:EV cm}{φ sW:ea}{a:Act}{kk:Nat}(T:db aG nt [g,cM] s φ bC a w')(n:Cg [g,cM] kk sW w φ w'):xr bC w' g cM ks:=by
 obtain⟨h0,⟨E,h1⟩,⟨es,cZ,aa,aA⟩,aU,bN⟩:=h;exact⟨T.st,⟨E,(n.ar g (by simp)).trans h1⟩,⟨es,cZ,(n.ar cM (by simp)).trans aa,aA⟩,(T.fM g (by simp)).2,(T.fM cM (by simp)).2⟩
theorem xr.fM{S:dV}{w:World}{g cM:Nat}{ks:List (Int×Int)}(az:xr S w g cM ks):∀b,b∈[g,cM]->b<w.heap.size/\∀j,¬S b j:=by
 obtain⟨h0,⟨E,h1⟩,⟨es,cZ,aa,_⟩,aA,aU⟩:=az;have:=wu h1;have:=wu aa;intro b ag;simp at ag;rcases ag with rfl|rfl
 . exact⟨by assumption,aA⟩
 . exact⟨by assumption,aU⟩
theorem anv{S:dV}{w:World}(φ:ea)(l:List b3){g cM:Nat}{ks:List (Int×Int)}(az:xr S w g cM ks)(fQ:(φ 0).1=g){v:Value}(aF:cl w S (Cell.enc cm ⟨.slice (.nm 12),l⟩) v):
 Calls prog 127 #[v,.func (.func 83) #[] #[.pointer (some ⟨g,0,none⟩)]] w λe w'=>∃m bC,e= .returned (.int .i64 m)/\((l.any λx=>!nK ks x)=decide (0<=m))/\xw S w bC w':=by
 refine calls_of_wp func127 rfl ?_;have vG:=db.enter (U:=cm) (gs:=[g,cM]) (N:=1) (nt:=19) (φ:=φ) (args:=[.c (.t ⟨.slice (.nm 12),l⟩),.c (.fn 83 [0])]) (w:=w) (S:=S)
  (.cons (.c (.t _)) (.cons (.c (.fn 83 [0])) .nil)) (vs:=[v,.func (.func 83) #[] #[.pointer (some ⟨g,0,none⟩)]]) (.cons (.c aF) (.cons (.c (by rw[<-fQ];rfl)) .nil)) rfl az.st (BA rfl)
  az.fM
 refine wp_seq (vG.fA 1 [bS .normal [(0,ab (aH 12)),(1,.c (.fn 83 [0]))] [.gone]] (o:=l) .n (by kernel_rfl) λxn vF a1 gb jh dJ=>?_);refine wp_seq (wp_seq (jh.fA 1 [bS .normal [(0,ab (aH 12)),(1,.c (.fn 83 [0])),(7,ab ae),(8,ab ae)] [.gone]] (o:=(l,(l.length:Int),(0:Int))) .n (by kernel_rfl) λpw q0 a2 hr hd dn=>?_));refine wp_block (G6 ?_)
 refine(show(∀(n i:Nat),i+n=l.length->(∀j,j<i->∃x,l[j]?=some x/\nK ks x=true)->∀bB bC cx w',db _ 19 [g,cM] (im (U:=cm) [bS .normal [(0,ab (aH 12)),(1,.c (.fn 83 [0])),(7,ab ae),(8,ab ae)] [.gone]] (l,(l.length:Int),(i:Int))).2 bB bC cx w'->(bB 0).1=g->xr bC w' g cM ks->zy prog _ _ cx w')from ?_) l.length 0 (by simp) (by simp) pw q0 a2 hr hd (by rw[dn.fix 0 (by decide),dJ.fix 0 (by decide)];exact fQ) ((az.next jh dJ).next hd dn)
 intro n
 induction n with
 |zero=>
  intro i ak aM vz ui a3 sR h8 aA ahP;refine yy (wp_seq (h8.fA 1 [bS .normal [(9,ab .bool)] [.gone]] (o:=(decide ((i:Int)<l.length))) .n (by kernel_rfl) λvA xz a4 tU hR cJ=>?_));refine wp_seq (wp_cond_false (by rw[gH (hR.bool (k:=9) rfl)];simp;omega) (wp_exit ?_))
  refine hR.fA 1 [bS .ret [(4,ab ae)] [.gone]] (o:=(-1:Int)) .n (by kernel_rfl) λaa9 Iw a5 oF lS fW=>lS.ret rfl rfl λy ao=>⟨-1,Iw,?_,?_,lS.ext,lS.st⟩
  . cases ao;rfl
  . have:(l.any λx=>!nK ks x)=false:=by
     rw[List.any_eq_false];intro x I;obtain⟨j,lG,rfl⟩:=Hy.1 I;obtain⟨y,h1,aa⟩:=aM j (by omega);rw[gQ lG]at h1;cases h1;simp[aa]
    rw[this];rfl
 |succ n ih=>
  intro i ak aM vz ui a3 sR h8 aA ahP;have nM:i<l.length:=by omega
  refine yy (wp_seq (h8.fA 1 [bS .normal [(0,ab (aH 12)),(1,.c (.fn 83 [0])),(7,ab ae),(8,ab ae),(9,ab .bool)] [.gone]] (o:=(l,(l.length:Int),(i:Int),decide ((i:Int)<l.length))) .n (by kernel_rfl) λvA xz a4 tU hR cJ=>?_));refine wp_seq (wp_cond_true (by rw[gH (hR.bool (k:=9) rfl)];simp;omega) (wp_skip ?_))
  refine wp_seq (wp_block (wp_seq (hR.fA 1 [bS .normal [(0,ab (aH 12)),(1,.c (.fn 83 [0])),(7,ab ae),(8,ab ae),(5,ab ae)] [.gone]] (o:=(l,(l.length:Int),(i:Int),(i:Int))) .n (by kernel_rfl) λaa9 Iw a5 oF lS fW=>?_)));refine wp_seq (tk [0,1,2,3,4,5] ?_)
  refine lS.op 1 0 5 [(0,ab (aH 12)),(1,.c (.fn 83 [0])),(7,ab ae),(8,ab ae),(5,ab ae),(11,.c (.fn 83 [0])),(15,.row 12)] [.gone] (h:=(l,(l.length:Int),(i:Int),(i:Int),l.getD (Int.toNat i) fE)) .n ((show _=(if bd (i:Int) l.length=true then some _ else none) by kernel_rfl).trans (af (by simp[bd];omega))) λNq Uf bx TH mn n6=>?_
  have dO:(Nq 0).1=g:=by rw[n6.fix 0 (by decide),fW.fix 0 (by decide),cJ.fix 0 (by decide)];exact aA
  have azH:=((ahP.next hR cJ).next lS fW).next mn n6
  have I:l[i]?=some (l.getD i fE):=by simp[List.getD,gQ nM]
  refine WG rfl rfl rfl (CX rfl rfl (gH (mn.fn (k:=11) rfl)) (by kernel_rfl)) (args:=#[fR ((l.getD i fE).cw,(l.getD i fE).cd),.pointer (some ⟨g,0,none⟩)]) ?_ ?_
  . simp[gH (mn.pair (k:=15) rfl),dO]
  obtain⟨h0,⟨E,g1⟩,⟨es,cZ,g2,g3⟩,g4,g5⟩:=azH;refine(ano h0 (l.getD i fE) g1 g2 g3 g4 g5).mono ?_
  rintro e xi ⟨rfl,zH,hk⟩
  refine⟨_,rfl,?_⟩;have iO:=(mn.extend hk.1 hk.2).put (d:=16) (v:= .c (.t ⟨.bool,!nK ks (l.getD i fE)⟩)) (.c (.t _)) (.c (cl.bool _));have azI:xr zH xi g cM ks:=⟨iO.st,⟨E,hk.heap g1⟩,⟨es,cZ,hk.heap g2,g3⟩,(iO.fM g (by simp)).2,(iO.fM cM (by simp)).2⟩
  cases ag:nK ks (l.getD i fE)with
  |false=>
   refine wp_cond_true ((gH (iO.bool (k:=16) rfl)).trans (by rw[ag];rfl)) (wp_seq (iO.fA 1 [bS .normal [(4,ab ae)] [.gone]] (o:=(i:Int)) .n (by kernel_rfl) λEz ES cz B0 kF n8=>wp_ret ?_));simp only[Exit.inBlock,Exit.then];refine kF.ret rfl rfl λy ao=>⟨(i:Int),ES,?_,?_,kF.ext,kF.st⟩
   . cases ao;rfl
   . have:(l.any λx=>!nK ks x)=true:=zd.2 ⟨l.getD i fE,hp I,by rw[ag];rfl⟩;rw[this];simp
  |true=>
   refine wp_cond_false ((gH (iO.bool (k:=16) rfl)).trans (by rw[ag];rfl)) (wp_skip ?_);refine iO.fA 1 [bS .normal [(0,ab (aH 12)),(1,.c (.fn 83 [0])),(7,ab ae),(8,ab ae)] [.gone]] (o:=(l,(l.length:Int),bl .i64 (i:Int) 1)) .n (by kernel_rfl) λEz ES cz B0 kF n8=>?_
   have aC:bl .i64 (i:Int) 1=((i+1:Nat):Int):=by
    have lE:l.length<=en:=kF.len (k:=0) rfl;unfold en at lE;have PC:(i:Int)<281474976710656:=by omega
    unfold bl;rw[IntKind.wrap_i64];omega
   rw[aC]at kF;refine ih (i+1) (by omega) (λj o6=>?_) Ez ES cz B0 kF (by rw[n8.fix 0 (by decide)];exact dO) (azI.next kF n8);by_cases yV:j<i
   . exact aM j yV
   . have:j=i:=by omega
     subst this;exact⟨_,I,ag⟩
theorem ann{S:dV}{w:World}(l:List b3){g cM:Nat}{ks:List (Int×Int)}(az:xr S w g cM ks){v:Value}(aF:cl w S (Cell.enc cm ⟨.slice (.nm 12),l⟩) v):
 Calls prog 75 #[v,.func (.func 83) #[] #[.pointer (some ⟨g,0,none⟩)]] w λe w'=>∃bC,e= .returned (.bool (l.any λx=>!nK ks x))/\xw S w bC w':=by
 refine calls_of_wp func75 rfl ?_;have vG:=db.enter (U:=cm) (gs:=[g,cM]) (N:=1) (nt:=9) (φ:=λ_=>(g,0)) (args:=[.c (.t ⟨.slice (.nm 12),l⟩),.c (.fn 83 [0])]) (w:=w) (S:=S)
  (.cons (.c (.t _)) (.cons (.c (.fn 83 [0])) .nil)) (vs:=[v,.func (.func 83) #[] #[.pointer (some ⟨g,0,none⟩)]]) (.cons (.c aF) (.cons (.c rfl) .nil)) rfl az.st (BA rfl) az.fM
 refine wp_seq (vG.fA 1 [bS .normal [(0,ab (aH 12)),(1,.c (.fn 83 [0]))] [.gone]] (o:=l) .n (by kernel_rfl) λxn vF a1 gb jh dJ=>?_);refine wp_seq (tk [0,1,2,3,4] ?_);refine jh.op 1 0 2 [(5,ab (aH 12)),(6,.c (.fn 83 [0]))] [.gone] (h:=l) .n (by kernel_rfl) λpw q0 a2 hr hd dn=>?_
 have kV:=(az.next jh dJ).next hd dn
 obtain⟨u,k5,hu⟩:=hd.cell (k:=5) rfl;have aa:(pw 0).1=g:=by rw[dn.fix 0 (by decide),dJ.fix 0 (by decide)]
 refine WG rfl rfl rfl (CX rfl rfl (f:=127) (caps:=[]) rfl (by kernel_rfl)) (args:=#[u,.func (.func 83) #[] #[.pointer (some ⟨g,0,none⟩)]]) ?_ ?_
 . simp[gH k5,gH (hd.fn (k:=6) rfl),aa]
 refine(anv pw l kV aa hu).mono ?_
 rintro e sR ⟨m,ui,rfl,hm,hk⟩
 refine⟨_,rfl,?_⟩;have h8:=(hd.extend hk.1 hk.2).put (d:=7) (v:= .c (.t ⟨.int .i64,m⟩)) (.c (.t _)) (.c (cl.int _ _));refine h8.op 1 3 2 [(4,ab .bool)] [.gone] (h:=decide (0<=m)) .n (by kernel_rfl) λvA xz a4 tU hR cJ=>?_
 refine wp_ret (hR.ret rfl rfl λy ao=>⟨xz,?_,hR.ext,hR.st⟩);cases ao;rw[hm]
section
variable (uh:cG->Option Bool)(EB:List b3×b3->Option Bool)(EO:nC->Option b3)(xp xq:nC×b3->Option Bool)(Cf:nC×b3->Option (List b3))
def ajE(p:nC)(l:List b3)(x:b3):Option Bool:=
 xp (p,x)>>=λa=>if(!a)=true then some false
 else xq (p,x)>>=λb=>if(!b)=true then some false
  else Cf (p,x)>>=λm=>some (m.all λy=>l.any λz=>(gu y.cw z.cw&&(gu y.cd z.cd&&true)))
def Iz(g:b3->Option Bool):List b3->Option Bool
 |[]=>some true
 |x::r=>g x>>=λa=>Iz g r>>=λb=>some (a&&b)
def Xt(aI:cG×cG×List b3):Option Bool:=
 match aI with
 |(w,r,l)=>
 uh w>>=λa=>if(!a)=true then some false
 else uh r>>=λb=>if(!b)=true then some false
  else EO (⟨w,r⟩:nC)>>=λq=>EB (l,q)>>=λc=>if(!c)=true then some false
   else Iz (ajE xp xq Cf (⟨w,r⟩:nC) l) l
end
theorem abf{g:b3->Option Bool}:∀{l:List b3} {b:Bool},Iz g l=some b->(∀x,x∈l->∃a,g x=some a/\(a=false->b=false))/\((∀x,x∈l->g x=some true)->b=true)
 |[],b,h=>by simp[Iz]at h;simp[h]
 |x::r,b,h=>by
  simp only[Iz,bind,bK]at h;obtain⟨a,aC,bI,ag,h⟩:=h;obtain⟨h1,aa⟩:=abf ag;simp at h;subst h;refine⟨λy ao=>?_,λc8=>?_⟩
  . rcases fz.1 ao with rfl|ao
    . exact⟨a,aC,λh=>by simp[h]⟩
    . obtain⟨cx,g1,g2⟩:=h1 y ao;exact⟨cx,g1,λh=>by simp[g2 h]⟩
  . have e:=c8 x (by simp);rw[aC]at e;cases e;rw[aa λy ao=>c8 y (by simp[ao])];rfl
def tD(l:List b3):List (Int×Int):=l.foldl (λks x=>r0 ks (x.cw,x.cd)) []
theorem atc{ks:List (Int×Int)}{x y:Int×Int}:j1 (r0 ks x) y=(j1 ks y||decide (x=y)):=by
 unfold r0;split
 . rename_i h;by_cases u':x=y
   . subst u';simp[h]
   . simp[u']
 . simp[j1]
theorem atd(l:List b3)(x:b3):tD (l++[x])=r0 (tD l) (x.cw,x.cd):=by simp[tD]
theorem Z6{y:b3}(l:List b3):nK (tD l) y=l.any λz=>(gu y.cw z.cw&&(gu y.cd z.cd&&true)):=by
 have key:∀(l:List b3) (ks:List (Int×Int)),nK (l.foldl (λks x=>r0 ks (x.cw,x.cd)) ks) y=(nK ks y||l.any λz=>(gu y.cw z.cw&&(gu y.cd z.cd&&true))):=by
  intro l
  induction l with
  |nil=>simp
  |cons x l ih=>
   intro ks;rw[BE,ih];unfold nK;rw[atc,List.any_cons,Bool.or_assoc]
   congr 2
   rw[L3];simp[gu,Prod.ext_iff];constructor<;>rintro ⟨h1,aa⟩<;>exact⟨h1.symm,aa.symm⟩
 have:=key l []
 simpa[nK,j1,tD]using this
theorem aug{k:Int×Int}(l:List b3)(h:k∈tD l):∃x,x∈l/\k=(x.cw,x.cd):=by
 have:nK (tD l) ⟨k.1,k.2⟩=true:=by
  unfold nK j1;rw[zd];exact⟨k,h,by simp⟩
 rw[Z6,zd]at this;obtain⟨z,bq,h⟩:=this;simp[gu]at h;exact⟨z,bq,D8 h.1 h.2⟩
theorem ate{ks:List (Int×Int)}{es:List MapEntry}(h:mg ks es){k:Int×Int}(hk:k∈ks):∃e,e∈es/\e.key=fR k:=by
 obtain⟨i,ak⟩:=WU.1 hk;obtain⟨e,h1,aa⟩:=h.get ak;exact⟨e,hp h1,aa.1⟩
theorem auh{ks:List (Int×Int)}{es:List MapEntry}(h:mg ks es){e:MapEntry}(he:e∈es):∃k,k∈ks/\e.key=fR k/\e.val= .bool true:=by
 induction h with
 |nil=>simp at he
 |cons h1 _ ih=>
  rcases fz.1 he with rfl|he
  . exact⟨_,by simp,h1⟩
  . obtain⟨k,hk,h⟩:=ih he;exact⟨k,by simp[hk],h⟩
section
variable {uh:cG->Option Bool}{EB:List b3×b3->Option Bool}{EO:nC->Option b3}{xp xq:nC×b3->Option Bool}{Cf:nC×b3->Option (List b3)}
theorem afg (Vg:fJ prog ((bm 77 [.row 11] (ab .bool)).s (U:=cm) uh))(aho:fJ prog ((bm 78 [ab (aH 12),.row 12] (ab .bool)).s (U:=cm) EB))(aht:fJ prog ((bm 79 [.row 17] (.row 12)).s (U:=cm) EO))
 (Va:fJ prog ((bm 80 [.row 17,.row 12] (ab .bool)).s (U:=cm) xp))(Vb:fJ prog ((bm 81 [.row 17,.row 12] (ab .bool)).s (U:=cm) xq))(ayW:fJ prog ((bm 82 [.row 17,.row 12] (ab (aH 12))).s (U:=cm) Cf)):
 fJ prog ((bm 37 [.row 11,.row 11,ab (aH 12)] (ab .bool)).s (U:=cm) (Xt uh EB EO xp xq Cf)):=by
 refine .hand (by kernel_rfl) ?_
 rintro ⟨rw,fI,ng⟩ b bF φ S w h' vs ec aC aF iV
 obtain⟨l,rfl⟩:∃l:List b3,l=ng:=⟨ng,rfl⟩
 refine calls_of_wp func37 rfl ?_;have vG:=db.enter (U:=cm) (gs:=[]) (N:=0) (nt:=61) aC aF iV ec (by rw[<-aC.length];exact BA rfl) (by simp)
 have fin:∀{gs:List Nat} {s:EV cm} {xn:ea} {vF:dV} {a1:Act} {gb:World} (T:db ⟨w,S,λ_=>False,φ,0⟩ 61 gs s xn vF a1 gb),bh s.1 6=some (.c (.t ⟨.bool,b⟩))->bodyPost prog f37 (λe w'=>∃bC,e= .returned (.bool b)/\xw S w bC w') .ret a1 gb:=
  λT hk=>T.ret rfl hk λy ao=>⟨_,by cases ao;rfl,T.ext,T.st⟩
 refine wp_seq (vG.fA 0 [bS .normal [(2,ab (aH 12)),(3,aD 0 0),(4,aD 1 0)] [.bz 11,.bz 11]] (o:=(l,rw,fI)) .n (by kernel_rfl) λxn vF a1 gb jh dJ=>?_)
 obtain⟨oH,h1,bF⟩:=p1.1 bF;cases oH with
 |false=>
  cases bF
  refine wp_seq (jh.fA 0 [bS .ret [(6,ab .bool)],bS .normal [(2,ab (aH 12)),(3,aD 0 0),(4,aD 1 0)] [.bz 11,.bz 11]] (o:= .inl false) (.k Vg .n) ((show _=(uh rw>>=λbT=>(if(!(!bT))=true then uh fI else some false)>>=λdZ=>if(bif (!bT)then true else(!dZ))=true then some (Sum.inl false)else some (Sum.inr (l,rw,fI))) by kernel_rfl).trans (by rw[h1];rfl)) λpw q0 a2 hr hd dn=>fin hd rfl)
 |true=>
 obtain⟨aDQ,aa,bF⟩:=p1.1 bF;cases aDQ with
 |false=>
  cases bF
  refine wp_seq (jh.fA 0 [bS .ret [(6,ab .bool)],bS .normal [(2,ab (aH 12)),(3,aD 0 0),(4,aD 1 0)] [.bz 11,.bz 11]] (o:= .inl false) (.k Vg .n) ((show _=(uh rw>>=λbT=>(if(!(!bT))=true then uh fI else some false)>>=λdZ=>if(bif (!bT)then true else(!dZ))=true then some (Sum.inl false)else some (Sum.inr (l,rw,fI))) by kernel_rfl).trans (by rw[h1];simp[aa];rfl)) λpw q0 a2 hr hd dn=>fin hd rfl)
 |true=>
 refine wp_seq (jh.fA 0 [bS .ret [(6,ab .bool)],bS .normal [(2,ab (aH 12)),(3,aD 0 0),(4,aD 1 0)] [.bz 11,.bz 11]] (o:= .inr (l,rw,fI)) (.k Vg .n) ((show _=(uh rw>>=λbT=>(if(!(!bT))=true then uh fI else some false)>>=λdZ=>if(bif (!bT)then true else(!dZ))=true then some (Sum.inl false)else some (Sum.inr (l,rw,fI))) by kernel_rfl).trans (by rw[h1];simp[aa];rfl)) λpw q0 a2 hr hd dn=>?_)
 refine wp_seq (hd.fA 0 [bS .normal [(2,ab (aH 12)),(7,aD 0 0)] [.bz 17]] (o:=(l,(⟨rw,fI⟩:nC))) .n (by kernel_rfl) λvz ui a3 sR h8 ej=>?_);obtain⟨q,aA,bF⟩:=p1.1 bF;obtain⟨aaS,aU,bF⟩:=p1.1 bF;cases aaS with
 |false=>
  cases bF;refine wp_seq (h8.fA 0 [bS .ret [(6,ab .bool)],bS .normal [(2,ab (aH 12)),(7,aD 0 0)] [.bz 17]] (o:= .inl false) (.k aht (.k aho .n)) ((show _=(EO ⟨rw,fI⟩>>=λq=>EB (l,q)>>=λc=>if(!c)=true then some (Sum.inl false)else some (Sum.inr (l,(⟨rw,fI⟩:nC)))) by kernel_rfl).trans (by rw[aA];simp[aU];rfl)) λvA xz a4 tU hR cJ=>fin hR rfl)
 |true=>
 refine wp_seq (h8.fA 0 [bS .ret [(6,ab .bool)],bS .normal [(2,ab (aH 12)),(7,aD 0 0)] [.bz 17]] (o:= .inr (l,(⟨rw,fI⟩:nC))) (.k aht (.k aho .n)) ((show _=(EO ⟨rw,fI⟩>>=λq=>EB (l,q)>>=λc=>if(!c)=true then some (Sum.inl false)else some (Sum.inr (l,(⟨rw,fI⟩:nC)))) by kernel_rfl).trans (by rw[aA];simp[aU];rfl)) λvA xz a4 tU hR cJ=>?_)
 obtain⟨c8,aAN⟩:=abf bF;clear bF;generalize ar:(⟨rw,fI⟩:nC)=p at*
 refine wp_seq (tk [0,1,2,3,4] ?_);refine hR.op 0 0 2 [(2,ab (aH 12)),(7,aD 0 0),(29,ab ae)] [.bz 17] (h:=(l,(l.length:Int),p)) .n (by kernel_rfl) λaa9 Iw a5 oF lS fW=>?_
 refine tF rfl rfl rfl (aB2 rfl Ri (gH (lS.int (k:=29) rfl))) ?_;have mn:=(lS.new (.map #[] 0)).put (d:=30) (x:= .map (some oF.heap.size)) (v:= .c (.mp 1)) (.c (.mp 1)) (.c (by show _=Value.map (some _);simp[ga]));refine tF rfl rfl rfl (axs rfl (z:= .map none) (by kernel_rfl) rfl) ?_
 have iO:=(mn.new (.cells #[.map none] 178 (0,0))).put (d:=8) (x:= .pointer (some ⟨(oF.alloc (.map #[] 0)).heap.size,0,none⟩)) (v:= .c (.ptr 2 0)) (.c (.ptr 2 0)) (.c (by show _=Value.pointer _;simp[ga]));have az:oF.heap.size+1=(oF.alloc (.map #[] 0)).heap.size:=by simp
 refine aBY rfl rfl rfl rfl (by kernel_rfl) (b:=(oF.alloc (.map #[] 0)).heap.size) (u:= .map none) (E:=178) (v:= .map (some oF.heap.size)) (gH ((iO.ptr (k:=8) rfl).trans (by simp[ga]))) (gH ((iO.mp (k:=30) rfl).trans (by simp[ga]))) rfl rfl Shv.heap_alloc_new ?_;intro B0 iE iF hi aB8 ajd WN;have Wp:w.heap.size<=oF.heap.size:=lS.ext.size
 have kF:=iO.write (w':=B0) (g:=(oF.alloc (.map #[] 0)).heap.size) (by simp) (by rw[<-az];exact Nat.le_succ_of_le Wp) iE iF hi aB8 WN;have JV:B0.heap[oF.heap.size]?=some (.map #[] 0):=by
  rw[WN _ (by rw[<-az];omega),Ay (by simp)];exact Shv.heap_alloc_new
 obtain⟨ane,af9,vH,_⟩:=kF.goto 0 (sh:=⟨[(2,ab (aH 12)),(7,aD 1 0),(8,aD 0 0)],[.gone,.bz 17]⟩) (ts:=[aH 12,.nm 17]) (h:=(l,p)) (by kernel_rfl);have lE:(ane 0).1=(oF.alloc (.map #[] 0)).heap.size:=by
  have aR:=vH.ptr (k:=8) rfl;have bw:=kF.ptr (k:=8) rfl;rw[aR]at bw
  simpa[ga]using bw
 have aE9:w.heap.size<=(oF.alloc (.map #[] 0)).heap.size:=by rw[<-az];exact Nat.le_succ_of_le Wp
 have b4:oF.heap.size≠(oF.alloc (.map #[] 0)).heap.size:=by rw[<-az];omega
 clear iO kF mn az WN;generalize (oF.alloc (.map #[] 0)).heap.size=g at*;generalize oF.heap.size=cM at*
 refine wp_seq (wp_seq (vH.fA 1 [bS .normal [(2,ab (aH 12)),(7,aD 1 0),(8,aD 0 0),(31,ab (aH 12)),(32,ab ae),(33,ab ae)] [.gone,.bz 17]] (o:=(l,l,(l.length:Int),(0:Int),p)) .n (by kernel_rfl) λIo ER h9 TG xB n10=>?_));refine wp_block (G6 ?_)
 refine(show(∀(n i:Nat),i+n=l.length->∀bB bC cx w' es cZ,db ⟨w,S,λ_=>False,φ,0⟩ 61 [g,cM] (im (U:=cm) [bS .normal [(2,ab (aH 12)),(7,aD 1 0),(8,aD 0 0),(31,ab (aH 12)),(32,ab ae),(33,ab ae)] [.gone,.bz 17]] (l,l,(l.length:Int),(i:Int),p)).2 bB bC cx w'->(bB 0).1=g->w'.heap[g]?=some (.cells #[.map (some cM)] 178 (0,0))->w'.heap[cM]?=some (.map es cZ)->mg (tD (l.take i)) es.toList->rm es.toList cZ->zy prog _ _ cx w')from ?_)
  l.length 0 (by simp) Io ER h9 TG #[] 0 xB ((n10.fix 0 (by decide)).symm▸lE) ((n10.ar g (by simp)).trans ajd) ((n10.ar cM (by simp)).trans JV) .nil ⟨by simp,by simp⟩
 clear vH n10 xB ajd JV lE;intro n
 induction n with
 |succ n ih=>
  intro i ak aD8 aw6 mo aDM es cZ Uh Jx VF VW FU JD;have nM:i<l.length:=by omega
  refine yy (wp_seq (Uh.fA 1 [bS .normal [(2,ab (aH 12)),(7,aD 1 0),(8,aD 0 0),(31,ab (aH 12)),(32,ab ae),(33,ab ae),(34,ab .bool)] [.gone,.bz 17]] (o:=(l,l,(l.length:Int),(i:Int),decide ((i:Int)<l.length),p)) .n (by kernel_rfl) λanc aw7 a12 kv uj n12=>?_));refine wp_seq (wp_cond_true ((gH (uj.bool (k:=34) rfl)).trans (by simp;omega)) (wp_skip ?_))
  refine wp_seq (wp_block (wp_seq ?_))
  refine uj.fA 1 [bS .normal [(2,ab (aH 12)),(7,aD 1 0),(8,aD 0 0),(31,ab (aH 12)),(32,ab ae),(33,ab ae),(10,aD 2 0)] [.gone,.bz 17,.bz 12]] (o:=(l,l,(l.length:Int),(i:Int),p,l.getD (Int.toNat i) fE)) .n ((show _=(if bd (i:Int) (List.length l)=true then some _ else none) by kernel_rfl).trans (af (by simp[bd];omega))) λaD9 aEm aga aFJ Ix n13=>?_
  have ahl:(aD9 0).1=g:=by rw[n13.fix 0 (by decide),n12.fix 0 (by decide)];exact Jx
  have ahN:=(n13.ar g (by simp)).trans ((n12.ar g (by simp)).trans VF);have az8:=(n13.ar cM (by simp)).trans ((n12.ar cM (by simp)).trans VW);refine tk [0,1,2] ?_;refine tF rfl rfl rfl (ld1 rfl (by kernel_rfl) (gH ((Ix.ptr (k:=8) rfl).trans (by rw[ahl]))) ahN (off:=0) rfl) ?_
  have ET:=(Ix.num cM).put (d:=37) (x:= .map (some cM)) (v:= .c (.mp 3)) (.c (.mp 3)) (.c (by show _=Value.map _;simp[ga]))
  refine ET.op 4 1 1 [(2,ab (aH 12)),(7,aD 1 0),(8,aD 0 0),(31,ab (aH 12)),(32,ab ae),(33,ab ae),(37,.c (.mp 3)),(38,.row 12)] [.gone,.bz 17,.bz 12,.gone] (h:=(l,l,(l.length:Int),(i:Int),l.getD (Int.toNat i) fE,p,l.getD (Int.toNat i) fE)) .n (by kernel_rfl) λNp af8 agb aae xC n15=>?_
  have PD:(Np 0).1=g:=by rw[n15.fix 0 (by decide)];simpa[ga]using ahl
  refine ai5 rfl rfl rfl rfl Ri (gH ((xC.mp (k:=37) rfl).trans (by rw[n15.fix 3 (by decide)];simp[ga]))) (gH (xC.pair (k:=38) rfl)) rfl ((n15.ar cM (by simp)).trans az8) FU JD λgJ jZ ko m'=>?_
  have axl:=xC.write (w':={aae with heap:=aae.heap.setIfInBounds cM (.map gJ jZ)}) (g:=cM) (by simp) Wp rfl rfl rfl (by simp) (λb ag=>by simp[D',eW ag]);have aV:cM<aae.heap.size:=(xC.fM cM (by simp)).1
  refine axl.fA 1 [bS .normal [(2,ab (aH 12)),(7,aD 1 0),(8,aD 0 0),(31,ab (aH 12)),(32,ab ae),(33,ab ae)] [.gone,.bz 17]] (o:=(l,l,(l.length:Int),bl .i64 (i:Int) 1,p)) .n (by kernel_rfl) λaD' aw8 a17 aDN Ui n17=>?_
  have aC:bl .i64 (i:Int) 1=((i+1:Nat):Int):=by
   have lE:List.length l<=en:=Ui.len (k:=2) rfl;unfold en at lE;have PC:(i:Int)<281474976710656:=by omega
   unfold bl;rw[IntKind.wrap_i64];omega
  rw[aC]at Ui;refine ih (i+1) (by omega) aD' aw8 a17 aDN gJ jZ Ui (by rw[n17.fix 0 (by decide)];exact PD) ?_ ?_ ?_ m'
  . rw[n17.ar g (by simp)];simp[D',b4];exact(n15.ar g (by simp)).trans ahN
  . rw[n17.ar cM (by simp)];simp[D',aV]
  . rw[W1,gQ nM];have e:l.getD (Int.toNat i) fE=l[i]:=by simp[List.getD,gQ nM]
    rw[e]at ko;exact(atd _ _).symm▸ko
 |zero=>
  intro i ak aD8 aw6 mo aDM es cZ Uh Jx VF VW FU JD;have JU:l.take i=l:=Ea (by omega);rw[JU]at FU;refine yy (wp_seq (Uh.fA 1 [bS .normal [(2,ab (aH 12)),(7,aD 1 0),(8,aD 0 0),(34,ab .bool)] [.gone,.bz 17]] (o:=(l,decide ((i:Int)<l.length),p)) .n (by kernel_rfl) λanc aw7 a12 kv uj n12=>?_))
  refine wp_seq (wp_cond_false ((gH (uj.bool (k:=34) rfl)).trans (by simp;omega)) (wp_exit ?_));have Ar:(anc 0).1=g:=by rw[n12.fix 0 (by decide)];exact Jx
  have VG:=(n12.ar g (by simp)).trans VF;have VX:=(n12.ar cM (by simp)).trans VW
  refine wp_seq (wp_seq (tk [0,1] ?_));refine tF rfl rfl rfl (ld1 rfl (by kernel_rfl) (gH ((uj.ptr (k:=8) rfl).trans (by rw[Ar]))) VG (off:=0) rfl) ?_;have Ix:=uj.put (d:=40) (x:= .map (some cM)) (v:= .c .dead) (.c (.dead .dead)) (.c rfl);refine tF rfl rfl rfl (aCG rfl Ri (gH (yp (by rw[uj.size];decide))) VX) ?_
  have ET:=(Ix.new (.mapIter (some cM) cZ #[] cZ)).put (d:=41) (x:= .pointer (some ⟨kv.heap.size,0,none⟩)) (v:= .c (.ptr 2 0)) (.c (.ptr 2 0)) (.c (by show _=Value.pointer _;simp[ga]));obtain⟨Np,af8,xC,_⟩:=ET.goto 0 (sh:=⟨[(2,ab (aH 12)),(7,aD 2 0),(8,aD 0 0),(41,aD 1 0)],[.gone,.gone,.bz 17]⟩) (ts:=[aH 12,.nm 17]) (h:=(l,p)) (by kernel_rfl)
  have ahT:=(uj.fM g (by simp)).1;have aid:=(uj.fM cM (by simp)).1;have PD:(Np 0).1=g:=by
   have aR:=xC.ptr (k:=8) rfl;rw[ET.ptr (k:=8) rfl]at aR;simp[ga]at aR;rw[<-aR];exact Ar
  have i15:(Np 1).1=kv.heap.size:=by
   have aR:=xC.ptr (k:=41) rfl;rw[ET.ptr (k:=41) rfl]at aR;simp[ga]at aR;exact aR.symm
  have ahO:(kv.alloc (.mapIter (some cM) cZ #[] cZ)).heap[g]?=_:=(Shv.Ay ahT).trans VG;have ah9:(kv.alloc (.mapIter (some cM) cZ #[] cZ)).heap[cM]?=_:=(Shv.Ay aid).trans VX;have ahW:(kv.alloc (.mapIter (some cM) cZ #[] cZ)).heap[kv.heap.size]?=_:=Shv.heap_alloc_new;have aAU:w.heap.size<=kv.heap.size:=uj.ext.size
  have ry:g≠kv.heap.size:=by omega
  have u4:cM≠kv.heap.size:=by omega
  clear ET Ix uj n12 ahT aid VG VX;refine wp_block (G6 ?_);have AE:∀e,e∈es.toList->∃x,x∈l/\e.key=fR (x.cw,x.cd)/\e.val= .bool true:=λe he=>by
   obtain⟨k,h1,aa,aA⟩:=auh FU he;obtain⟨x,I,rfl⟩:=aug l h1;exact⟨x,I,aa,aA⟩
  have aCk:∀{x y:b3},fR (x.cw,x.cd)=fR (y.cw,y.cd)->x=y:=λ{x y} h=>by
   obtain⟨a,b⟩:=x;obtain⟨c,d⟩:=y;simp[fR]at h;rw[h.1,h.2]
  refine(λ(key:∀(n:Nat) (seen:Array Nat),(leftOf es seen).size=n->∀bB bC cx w',db ⟨w,S,λ_=>False,φ,0⟩ 61 [kv.heap.size,g,cM] (im (U:=cm) [bS .normal [(2,ab (aH 12)),(7,aD 2 0),(8,aD 0 0),(41,aD 1 0)] [.gone,.gone,.bz 17]] (l,p)).2 bB bC cx w'->(bB 0).1=g->(bB 1).1=kv.heap.size->w'.heap[g]?=some (.cells #[.map (some cM)] 178 (0,0))->w'.heap[cM]?=some (.map es cZ)->w'.heap[kv.heap.size]?=some (.mapIter (some cM) cZ seen cZ)->(∀e,e∈es.toList->seen.contains e.born=true->∀x:b3,e.key=fR (x.cw,x.cd)->ajE xp xq Cf p l x=some true)->zy prog _ _ cx w')=>key _ #[] rfl Np af8 _ _ xC PD i15 ahO ah9 ahW (by simp)) ?_
  clear xC PD i15 ahO ah9 ahW;intro n
  induction n using Nat.strongRecOn with
  |_ n ih=>
  intro seen b8 xn vF a1 gb jh h1 i1 azF u3 PR JK;refine yy (wp_seq (tk [0,1] ?_));refine aBX rfl rfl rfl rfl (gH ((jh.ptr (k:=41) rfl).trans (by rw[i1]))) PR u3 JD (λh0=>?_) λe he hr FZ=>?_
  . have hd:=jh.put (d:=42) (x:= .tuple #[.bool false]) (v:= .bn [.c (.t ⟨.bool,false⟩)]) (cn.zu (.cons (.c (.t _)) .nil)) (cy.zu (.cons (.c (cl.bool _)) .nil));refine hd.op 2 1 1 [(2,ab (aH 12)),(7,aD 2 0),(8,aD 0 0),(41,aD 1 0),(43,ab .bool)] [.gone,.gone,.bz 17] (h:=(l,false,p)) .n (by kernel_rfl) λvz ui a3 sR h8 ej=>?_
    refine wp_seq (wp_cond_false (gH (h8.bool (k:=43) rfl)) (wp_exit ?_));have ag:b=true:=aAN λx I=>by
     have:nK (tD l) x=true:=by
      rw[Z6,zd];exact⟨x,I,by simp[gu]⟩
     unfold nK j1 at this;obtain⟨k,hk,PU⟩:=zd.1 this;have PU:=lK PU;obtain⟨e,he,aa⟩:=ate FU hk;exact JK e he (all_seen es seen h0 e he) x (by rw[aa,PU])
    subst ag;exact h8.fA 2 [bS .ret [(6,ab .bool)] [.gone,.gone]] (o:=true) .n (by kernel_rfl) λvA xz a4 tU hR cJ=>fin hR rfl
  . obtain⟨fO,gv⟩:=mem_left he;obtain⟨x,mD,VD,ahJ⟩:=AE e fO;rw[VD,ahJ];have hd:=db.set (q:=kv.heap.size) (w:=hr) (by rcases FZ with rfl|rfl;exact jh;exact jh.drew) (.mapIter (some cM) cZ (seen.push e.born) cZ) (by simp) aAU;have yT:hr.heap=gb.heap:=by rcases FZ with rfl|rfl<;>rfl
    have kV:(ChangeMaps.setBlock hr kv.heap.size (.mapIter (some cM) cZ (seen.push e.born) cZ)).heap[g]?=some (.cells #[.map (some cM)] 178 (0,0)):=(Zu ry).trans (yT▸azF);have wR:(ChangeMaps.setBlock hr kv.heap.size (.mapIter (some cM) cZ (seen.push e.born) cZ)).heap[cM]?=some (.map es cZ):=(Zu u4).trans (yT▸u3)
    have AB:(ChangeMaps.setBlock hr kv.heap.size (.mapIter (some cM) cZ (seen.push e.born) cZ)).heap[kv.heap.size]?=some (.mapIter (some cM) cZ (seen.push e.born) cZ):=arV (by rw[yT];exact(jh.fM _ (by simp)).1);generalize ChangeMaps.setBlock hr kv.heap.size (.mapIter (some cM) cZ (seen.push e.born) cZ)=sR at*
    have h8:=hd.put (d:=42) (x:= .tuple #[.bool true,fR (x.cw,x.cd),.bool true]) (v:= .bn [.c (.t ⟨.bool,true⟩),.agg [.t ⟨.int .i64,x.cw⟩,.t ⟨.int .i64,x.cd⟩],.c (.t ⟨.bool,true⟩)]) (cn.zu (.cons (.c (.t _)) (.cons (cn.MA (x.cw,x.cd)) (.cons (.c (.t _)) .nil)))) (cy.zu (.cons (.c (cl.bool _)) (.cons (cy.MA (x.cw,x.cd)) (.cons (.c (cl.bool _)) .nil))))
    refine h8.op 2 1 1 [(2,ab (aH 12)),(7,aD 2 0),(8,aD 0 0),(41,aD 1 0),(43,ab .bool)] [.gone,.gone,.bz 17] (h:=(l,true,p)) .n (by kernel_rfl) λvA xz a4 tU hR cJ=>?_
    refine wp_seq (wp_cond_true (gH (hR.bool (k:=43) rfl)) (wp_skip ?_));have aU:(vA 0).1=g:=by rw[cJ.fix 0 (by decide)];exact h1
    have i4:(vA 1).1=kv.heap.size:=by rw[cJ.fix 1 (by decide)];exact i1
    have azG:=(cJ.ar g (by simp)).trans kV;have yX:=(cJ.ar cM (by simp)).trans wR;have ahX:=(cJ.ar kv.heap.size (by simp)).trans AB;refine wp_block (wp_seq (tk [0,1,2,3] ?_));refine tF rfl rfl rfl (ayB rfl (gH ((hR.ptr (k:=41) rfl).trans (by rw[i4]))) ahX yX fO JD) ?_;rw[VD,ahJ]
    have lS:=hR.put (d:=44) (x:= .tuple #[fR (x.cw,x.cd),.bool true]) (v:= .bn [.agg [.t ⟨.int .i64,x.cw⟩,.t ⟨.int .i64,x.cd⟩],.c (.t ⟨.bool,true⟩)]) (cn.zu (.cons (cn.MA (x.cw,x.cd)) (.cons (.c (.t _)) .nil))) (cy.zu (.cons (cy.MA (x.cw,x.cd)) (.cons (.c (cl.bool _)) .nil)))
    refine lS.op 2 1 3 [(2,ab (aH 12)),(7,aD 2 0),(8,aD 0 0),(41,aD 1 0),(11,aD 3 0)] [.gone,.gone,.bz 17,.bz 12] (h:=(l,p,x)) .n (by kernel_rfl) λNq Uf bx TH mn n6=>?_
    obtain⟨y,ao,Wr⟩:=c8 x mD;have AM:=ao;obtain⟨jQ,aR,ao⟩:=p1.1 ao;cases jQ with
    |false=>
     cases ao;cases Wr rfl
     refine wp_seq (mn.fA 2 [bS .ret [(6,ab .bool)] [.gone,.gone],bS .normal [(2,ab (aH 12)),(7,aD 2 0),(8,aD 0 0),(41,aD 1 0),(11,aD 3 0)] [.gone,.gone,.bz 17,.bz 12]] (o:= .inl false) (.k Va (.k Vb .n)) ((show _=(xp (p,x)>>=λbT=>(if(!(!bT))=true then xq (p,x)else some false)>>=λdZ=>if(bif (!bT)then true else(!dZ))=true then some (Sum.inl false)else some (Sum.inr (l,p,x))) by kernel_rfl).trans (by rw[aR];rfl)) λB6 zH cp xi iO n7=>?_)
     exact fin iO rfl
    |true=>
    obtain⟨sU,bw,ao⟩:=p1.1 ao;cases sU with
    |false=>
     cases ao;cases Wr rfl
     refine wp_seq (mn.fA 2 [bS .ret [(6,ab .bool)] [.gone,.gone],bS .normal [(2,ab (aH 12)),(7,aD 2 0),(8,aD 0 0),(41,aD 1 0),(11,aD 3 0)] [.gone,.gone,.bz 17,.bz 12]] (o:= .inl false) (.k Va (.k Vb .n)) ((show _=(xp (p,x)>>=λbT=>(if(!(!bT))=true then xq (p,x)else some false)>>=λdZ=>if(bif (!bT)then true else(!dZ))=true then some (Sum.inl false)else some (Sum.inr (l,p,x))) by kernel_rfl).trans (by rw[aR];simp[bw];rfl)) λB6 zH cp xi iO n7=>?_)
     exact fin iO rfl
    |true=>
    obtain⟨m,e7,ao⟩:=p1.1 ao
    refine wp_seq (mn.fA 2 [bS .ret [(6,ab .bool)] [.gone,.gone],bS .normal [(2,ab (aH 12)),(7,aD 2 0),(8,aD 0 0),(41,aD 1 0),(11,aD 3 0)] [.gone,.gone,.bz 17,.bz 12]] (o:= .inr (l,p,x)) (.k Va (.k Vb .n)) ((show _=(xp (p,x)>>=λbT=>(if(!(!bT))=true then xq (p,x)else some false)>>=λdZ=>if(bif (!bT)then true else(!dZ))=true then some (Sum.inl false)else some (Sum.inr (l,p,x))) by kernel_rfl).trans (by rw[aR];simp[bw];rfl)) λB6 zH cp xi iO n7=>?_)
    refine wp_seq (tk [0,1,2,3,4] ?_);refine iO.op 2 0 4 [(2,ab (aH 12)),(7,aD 2 0),(8,aD 0 0),(41,aD 1 0),(58,ab (aH 12)),(59,.c (.fn 83 [0]))] [.gone,.gone,.bz 17] (h:=(l,m,p)) (.k ayW .n) ((show _=(Cf (p,x)>>=λm=>some (l,m,p)) by kernel_rfl).trans (by rw[e7];rfl)) λEz ES cz B0 kF n8=>?_
    have hW:(Ez 0).1=g:=by rw[n8.fix 0 (by decide),n7.fix 0 (by decide),n6.fix 0 (by decide)];exact aU
    have i8:(Ez 1).1=kv.heap.size:=by rw[n8.fix 1 (by decide),n7.fix 1 (by decide),n6.fix 1 (by decide)];exact i4
    have ahQ:=(n8.ar g (by simp)).trans ((n7.ar g (by simp)).trans ((n6.ar g (by simp)).trans azG));have JV:=(n8.ar cM (by simp)).trans ((n7.ar cM (by simp)).trans ((n6.ar cM (by simp)).trans yX));have ahY:=(n8.ar kv.heap.size (by simp)).trans ((n7.ar kv.heap.size (by simp)).trans ((n6.ar kv.heap.size (by simp)).trans ahX));obtain⟨u,aBd,hu⟩:=kF.cell (k:=58) rfl
    refine WG rfl rfl rfl (CX rfl rfl (f:=75) (caps:=[]) rfl (by kernel_rfl)) (args:=#[u,.func (.func 83) #[] #[.pointer (some ⟨g,0,none⟩)]]) ?_ ?_
    . simp[gH aBd,gH (kF.fn (k:=59) rfl),hW]
    refine(ann m ⟨kF.st,⟨_,ahQ⟩,⟨_,_,JV,FU⟩,(kF.fM g (by simp)).2,(kF.fM cM (by simp)).2⟩ hu).mono ?_
    rintro e0 akJ ⟨af9,rfl,k9⟩
    refine⟨_,rfl,?_⟩;have vH:=(kF.extend k9.1 k9.2).put (d:=60) (x:= .bool (m.any λx=>!nK (tD l) x)) (v:= .c (.t ⟨.bool,m.any λx=>!nK (tD l) x⟩)) (.c (.t _)) (.c (cl.bool _));have ahy:(m.any λx=>!nK (tD l) x)=!y:=by
     cases ao;rw[List.not_all_eq_any_not]
     congr 1
     funext y
     rw[Z6]
    cases y with
    |false=>
     cases Wr rfl;refine wp_cond_true ((gH (vH.bool (k:=60) rfl)).trans (by rw[ahy];rfl)) ?_;refine vH.fA 2 [bS .ret [(6,ab .bool)] [.gone,.gone]] (o:=false) .n (by kernel_rfl) λIo ER h9 TG xB n10=>?_
     exact fin xB rfl
    |true=>
     refine wp_cond_false ((gH (vH.bool (k:=60) rfl)).trans (by rw[ahy];rfl)) (wp_skip ?_);obtain⟨Io,ER,xB,n10⟩:=vH.goto 2 (sh:=⟨[(2,ab (aH 12)),(7,aD 2 0),(8,aD 0 0),(41,aD 1 0)],[.gone,.gone,.bz 17]⟩) (ts:=[aH 12,.nm 17]) (h:=(l,p)) (by kernel_rfl)
     refine ih _ (by rw[<-b8];exact left_shrinks es seen e he) (seen.push e.born) rfl Io ER _ akJ xB (by rw[n10.fix 0 (by decide)];exact hW) (by rw[n10.fix 1 (by decide)];exact i8) (k9.heap ahQ) (k9.heap JV) (k9.heap ahY) λc7 jF ait cH hB=>?_
     rw[contains_push]at ait;rcases tK _ _▸ait with h|h
     . exact JK c7 jF h cH hB
     . have:c7=e:=born_inj JD.2 jF fO (nV.1 h);subst this;rw[VD]at hB;rw[<-aCk hB];exact AM
end
abbrev bU(e:eZ)(F:bb cm.D e.ts->Option (bb cm.D e.us)):Prop:=fJ prog (e.s F)
abbrev ew(f kk:Nat)(p:List Nat)(e:jS)(F:bb cm.D e.ts->Option (gg cm e.outs)):Prop:=vD prog f kk p e F
abbrev af1(e:eZ):Prop:=nv prog e
abbrev h6(e:eZ):bb cm.D e.ts->bb cm.D e.us->Prop:=Nw prog cm e
abbrev jR(f kk:Nat)(p:List Nat)(e:jS):bb cm.D e.ts->gg cm e.outs->Prop:=Is prog cm f kk p e
abbrev iv(e:eZ)(F:bb cm.D e.ts->Option (bb cm.D e.us)):Prop:=∀h r,F h=some r->h6 e h r
abbrev jT(f kk:Nat)(p:List Nat)(e:jS)(F:bb cm.D e.ts->Option (gg cm e.outs)):Prop:=∀h r,F h=some r->jR f kk p e h r
theorem iK{e:eZ}{h:bb cm.D e.ts}{r:bb cm.D e.us}{x:Option (bb cm.D e.us)}(h0:x=some r){fs:List (cY cm)}(aJ:lq prog fs:=by exact .n){ls:List (Nat×kE cm)}(aj:py prog e.f e.st.length [] ls:=by exact .n)(k:af1 e:=by exact .m (by kernel_rfl))(I:zz (kS fs) (rD ls) prog e h=x:=by kernel_rfl):h6 e h r:= .at k aJ aj (I.trans h0)
theorem kC(e:jS){f kk:Nat}{p:List Nat}{F:bb cm.D e.ts->Option (gg cm e.outs)}(bF:jT f kk p e F){h:bb cm.D e.ts}{o:gg cm e.outs}{x:Option (gg cm e.outs)}(h0:x=some o){fs:List (cY cm)}(aJ:lq prog fs:=by exact .n){ls:List (Nat×kE cm)}(aj:py prog f kk p ls:=by exact .n)(I:Ba (kS fs) (rD ls) kk (zg prog f p) e F h=x:=by kernel_rfl):jR f kk p e h o:= .at bF aJ aj (I.trans h0)
theorem ev(e:eZ){F:bb cm.D e.ts->Option (bb cm.D e.us)}(h:iv e F)(k:af1 e:=by exact .m (by kernel_rfl)):bU e F:= .of k h
theorem kD(e:jS){f kk:Nat}{p:List Nat}{F:bb cm.D e.ts->Option (gg cm e.outs)}(h:jT f kk p e F):ew f kk p e F:= .of h
def ax1:=bm 27 [.row 1,ab ae] (ab ae)
def ax2:=bm 28 [ab ae] (ab .bool)
def ax3:=bm 29 [.row 2] (ab ae)
def ax4:=bm 30 [.row 2] (ab ae)
def agI:=cN 0 [(1,aD 0 0),(3,.c (.arr 1)),(4,ab ae)] [.bz 2,.arr ae] [bS (.exit 0) [(3,.c (.arr 0))] [.arr ae]] [] [(.slot 3,ae)]
def ax5:=bm 31 [.row 2] (ab eA) [agI]
def axN:=bm 119 [ab ae] (ab .bool)
def agX:=cN 0 [(3,aD 0 0),(7,ab ae),(9,ab ae)] [dm (aH 2)] [j6 6 ae,mb 0]
def ayf:=bm 67 [.row 1,ab ae,ab (.int .u8)] (ab ae) [agX]
def ayh:=bm 69 [ab ae] (ab .bool)
def agK:=cN 0 [(1,ab (.int .u8)),(2,aD 0 0),(5,ab ae),(6,ab ae)] [dm (aH 2)] [j6 4 ae,mb 0]
def ax7:=bm 33 [.row 1,ab (.int .u8)] (ab ae) [agK]
def ayg:=bm 68 [.row 1,ab ae,ab (.int .u8)] (.bn [.row 8,ab .bool])
def aeC:=cN 0 [(1,ab ae),(2,ab .bool),(3,aD 0 0),(7,aD 1 0),(8,.c (.arr 2)),(9,ab ae),(10,ab ae)] [dm (aH 2),.bz 2,.arr (.nm 7)] [bS (.exit 2) [(1,ab ae),(2,ab .bool),(3,aD 0 0),(7,aD 1 0),(8,.c (.arr 2)),(9,ab ae)] [dm (aH 2),.bz 2,.arr (.nm 7)]]
def agJ:=cN 0 [(1,ab ae),(2,ab .bool),(3,aD 0 0),(7,aD 1 0),(8,.c (.arr 2)),(9,ab ae)] [dm (aH 2),.bz 2,.arr (.nm 7)] [bS (.exit 0) [(8,.c (.arr 0))] [.arr (.nm 7)]] [aeC] [(.slot 8,.nm 7)]
def ax6:=bm 32 [.row 1,ab ae,ab .bool] (ab (aH 7)) [agJ]
def aeD:=cN 0 [(1,aD 0 0),(2,aD 1 0),(4,ab ae),(5,aD 2 0),(6,ab ae),(8,aD 3 0),(9,ab eA),(10,ab ae)] [dm (aH 2),.box [.aT],.box [.arr 4],.box [.hole ae,.hole .str,.hole ae,.hole ae,.hole ae,.arr 5,.aT,.hole ae,.hole ae,.hole .bool],.arr (.nm 5),.arr (.nm 6)] [bS (.exit 3) [(1,aD 0 0),(2,aD 1 0),(4,ab ae),(5,aD 2 0),(6,ab ae),(8,aD 3 0)] [dm (aH 2),.box [.aT],.box [.arr 4],.box [.hole ae,.hole .str,.hole ae,.hole ae,.hole ae,.arr 5,.aT,.hole ae,.hole ae,.hole .bool],.arr (.nm 5),.arr (.nm 6)]] [] [(.via 8 5,.nm 6)]
def agE:=cN 0 [(1,aD 0 0),(2,aD 1 0),(4,ab ae),(5,aD 2 0),(6,ab ae)] [dm (aH 2),.box [.aT],.box [.arr 3],.arr (.nm 5)] [bS (.exit 0) [(2,aD 0 0),(5,aD 1 0)] [.box [.aT],.box [.arr 2],.arr (.nm 5)]] [aeD] [(.via 5 0,.nm 5)]
def axO:=bm 13 [.row 1] (.bn [.row 10,ab .bool]) [agE]
def agF:=cN 0 [(1,ab (aH 4)),(4,aD 0 0),(5,aD 1 0),(6,ab ae)] [.box [.aT],.box [.arr 2],.arr (.nm 2)] [bS (.exit 0) [(4,aD 0 0),(5,aD 1 0)] [.box [.aT],.box [.arr 2],.arr (.nm 2)]]
def axT:=bm 14 [.row 1,ab (aH 4)] (.row 1) [agF]
def mX:=bm 4 [.row 0] (.bn [.row 11,.row 11,ab .bool])
def Oq:=bm 15 [ab (.slice .bool)] (.row 11)
def afh:=cN 0 [(0,ab (aH 6)),(1,ab (aH 6)),(12,ab ae),(13,ab ae)] [] [j6 4 .bool,mb 0]
def OO:=bm 206 [ab (aH 6),ab (aH 6)] (ab .bool) [afh]
def agW:=cN 0 [(0,ab (aH 9)),(1,ab (aH 9)),(12,ab ae),(13,ab ae)] [] [j6 4 .bool,mb 0]
def Pg:=bm 64 [ab (aH 9),ab (aH 9)] (ab .bool) [agW]
def Mr:=cN 0 [(1,ab (aH 8)),(2,.c (.fn 209 [])),(15,ab (aH 8)),(16,ab ae),(17,ab ae)] [] [j6 6 .bool,mb 0]
def Fm:=bm 65 [ab (aH 8),ab (aH 8),.c (.fn 209 [])] (ab .bool) [Mr]
def Cx:=bm 209 [.row 8,.row 8] (ab .bool)
def OQ:=bm 208 [.row 7,.row 7] (ab .bool)
def afi:=cN 0 [(1,ab (aH 7)),(2,.c (.fn 208 [])),(15,ab (aH 7)),(16,ab ae),(17,ab ae)] [] [j6 6 .bool,mb 0]
def OP:=bm 207 [ab (aH 7),ab (aH 7),.c (.fn 208 [])] (ab .bool) [afi]
def Oo:=bm 148 [.row 5,.row 5] (ab .bool)
def OK:=bm 202 [ab (.int .u8)] (ab .bool)
def OL:=bm 203 [ab (.int .u8)] (ab .bool)
def afj:=cN 0 [(0,ab .str),(18,ab ae),(19,ab ae)] [] [j6 2 .bool,mb 0]
def Ol:=bm 145 [ab .str] (ab .bool) [afj]
def afk:=cN 0 [(0,ab eA),(1,ab zs),(5,.c (.mp 0)),(9,ab eA),(10,ab ae),(11,ab ae)] [.set] [j6 4 .bool,bS (.exit 0) [(0,ab eA)]]
def OM:=bm 204 [ab eA,ab zs] (ab .bool) [afk]
def afl:=cN 0 [(0,ab (aH 6)),(3,.c (.arr 0)),(4,.c (.arr 1)),(7,ab (aH 6)),(8,ab ae),(9,ab ae)] [.arr ae,.arr .str] [bS (.exit 0) [(0,ab (aH 6)),(3,.c (.arr 0)),(4,.c (.arr 1))] [.arr ae,.arr .str]] [] [(.slot 3,ae),(.slot 4,.str)]
def Om:=bm 146 [ab (aH 6)] (ab .bool) [afl]
def ON:=bm 205 [.row 8] (ab .bool)
def afm:=cN 0 [(1,aD 0 0),(3,.c (.arr 1)),(4,.c (.arr 2)),(8,ab (aH 7)),(9,ab ae),(10,ab ae)] [.bz 5,.arr ae,.arr .str] [j6 2 .bool,bS (.exit 0) [(1,aD 0 0),(3,.c (.arr 1)),(4,.c (.arr 2))] [.bz 5,.arr ae,.arr .str]] [] [(.slot 3,ae),(.slot 4,.str)]
def On:=bm 147 [.row 5] (ab .bool) [afm]
def N5:=bm 101 [.row 5] (ab .bool)
def afn:=cN 0 [(1,aD 0 0),(3,.c (.arr 1)),(7,ab (aH 7)),(8,ab ae),(9,ab ae)] [.bz 5,.arr ae] [bS (.exit 0) [(1,aD 0 0),(3,.c (.arr 1))] [.bz 5,.arr ae]] [] [(.slot 3,ae)]
def N6:=bm 102 [.row 5] (ab eA) [afn]
def aeE:=cN 0 [(1,aD 0 0),(3,.c (.mp 1)),(5,aD 2 0),(14,ab (aH 5)),(15,ab ae),(16,ab ae),(38,ab eA),(39,ab ae),(40,ab ae)] [dm (aH 5),.set,.box [.hole ae,.hole .str,.hole ae,.hole ae,.hole ae,.hole (aH 6),.hole (aH 7),.hole ae,.hole ae,.hole .bool]] [j6 2 ae,bS (.exit 2) [(1,aD 0 0),(3,.c (.mp 1)),(5,aD 2 0),(14,ab (aH 5)),(15,ab ae),(16,ab ae)] [dm (aH 5),.set,.box [.hole ae,.hole .str,.hole ae,.hole ae,.hole ae,.hole (aH 6),.hole (aH 7),.hole ae,.hole ae,.hole .bool]]]
def agU:=cN 0 [(1,aD 0 0),(3,.c (.mp 1)),(14,ab (aH 5)),(15,ab ae),(16,ab ae)] [dm (aH 5),.set] [j6 2 ae,mb 0] [aeE]
def Pe:=bm 58 [.row 10] (ab ae) [agU]
def OF:=bm 188 [.row 8] (.row 8)
def Oe:=bm 136 [.row 8] (ab .bool)
def Ou:=bm 151 [.row 6,aD 0 0] (ab .bool) [] [dm ae] [dm ae]
def afo:=cN 0 [(0,ab (aH 6)),(1,.c (.fn 151 [0])),(7,ab ae),(8,ab ae)] [dm ae] [bS .ret [(4,ab ae)] [dm ae],bS (.exit 0) [] [dm ae]]
def Ot:=bm 150 [ab (aH 6),.c (.fn 151 [0])] (ab ae) [afo] [dm ae] [dm ae]
def Oa:=bm 106 [.row 5,ab ae] (.bn [ab ae,ab .bool])
def Of:=bm 137 [ab ae] (ab .bool)
def Oj:=bm 143 [.row 7,aD 0 0] (ab .bool) [] [dm ae] [dm ae]
def afp:=cN 0 [(0,ab (aH 7)),(1,.c (.fn 143 [0])),(7,ab ae),(8,ab ae)] [dm ae] [bS .ret [(4,ab ae)] [dm ae],bS (.exit 0) [] [dm ae]]
def Oi:=bm 142 [ab (aH 7),.c (.fn 143 [0])] (ab ae) [afp] [dm ae] [dm ae]
def Ps:=bm 99 [.row 5,ab ae] (.bn [ab ae,ab .bool])
def Fj:=bm 190 [.row 8,aD 0 0,aD 1 0,aD 2 0] (ab .bool) [] [dm (aH 5),dm ae,dm .bool] [dm (aH 5),dm ae,dm .bool]
def Md:=cN 0 [(0,ab (aH 8)),(1,.c (.fn 190 [0,1,2])),(7,ab ae),(8,ab ae)] [dm (aH 5),dm ae,dm .bool] [bS .ret [(4,ab ae)] [dm (aH 5),dm ae,dm .bool],bS (.exit 0) [] [dm (aH 5),dm ae,dm .bool]]
def Hb:=bm 237 [ab (aH 8),.c (.fn 190 [0,1,2])] (ab ae) [Md] [dm (aH 5),dm ae,dm .bool] [dm (aH 5),dm ae,dm .bool]
def Hc:=bm 189 [ab (aH 8),.c (.fn 190 [0,1,2])] (ab .bool) [] [dm (aH 5),dm ae,dm .bool] [dm (aH 5),dm ae,dm .bool]
def Fi:=bm 138 [.row 10,ab ae,ab (aH 8),ab .bool] (ab .bool)
def Pa:=bm 52 [ab ae] (ab (.int .u64))
def OY:=bm 238 [ab (.int .u64)] (ab .bool)
def OG:=bm 191 [ab (.int .u64),ab (.int .u64)] (ab ae)
def Oh:=bm 141 [ab ae] (ab .bool)
def Pq:=bm 97 [ab ae,ab ae] (ab ae)
def OZ:=bm 239 [ab .str] (ab .bool)
def OI:=bm 193 [ab .str,ab .str] (ab ae)
def afq:=cN 0 [(3,ab ae),(6,ab eA),(7,ab ae),(8,ab ae)] [] [j6 2 ae,bS (.exit 0) [(3,ab ae)]]
def OH:=bm 192 [ab eA] (ab ae) [afq]
def Og:=bm 139 [.row 8,.row 8] (ab ae)
def ag3:=cN 0 [(3,ab .bool),(4,aD 0 0),(6,aD 1 0),(9,aD 2 0),(111,ab (aH 9)),(112,ab ae),(113,ab ae)] [dm (aH 5),.bz 8,.box [.hole ae,.hole .str,.hole ae,.hole ae,.hole ae,.hole (aH 6),.hole (aH 7),.hole ae,.hole ae,.hole .bool]] [j6 8 .bool,bS (.exit 1) [(3,ab .bool),(4,aD 0 0),(6,aD 1 0),(9,aD 2 0)] [dm (aH 5),.box [.hole ae,.hole .bool,.hole ae,.hole .str,.hole ae,.hole (aH 8),.hole (aH 8),.hole (aH 9)],.box [.hole ae,.hole .str,.hole ae,.hole ae,.hole ae,.hole (aH 6),.hole (aH 7),.hole ae,.hole ae,.hole .bool]]]
def Jk:=cN 1 [(3,ab .bool),(4,aD 0 0),(6,aD 1 0),(150,ab (aH 7)),(151,ab ae),(152,ab ae)] [dm (aH 5),.box [.hole ae,.hole .bool,.hole ae,.hole .str,.hole ae,.hole (aH 8),.hole (aH 8),.hole (aH 9)]] [j6 8 .bool,mb 3]
def ag4:=cN 2 [(3,ab .bool),(4,aD 0 0),(6,aD 1 0),(9,aD 2 0),(20,ab ae)] [dm (aH 5),.bz 8,.box [.hole ae,.hole .str,.hole ae,.hole ae,.hole ae,.hole (aH 6),.hole (aH 7),.hole ae,.hole ae,.hole .bool]] [j6 8 .bool,bS (.exit 5) [(3,ab .bool),(4,aD 0 0),(6,aD 1 0),(9,aD 2 0)] [dm (aH 5),.bz 8,.box [.hole ae,.hole .str,.hole ae,.hole ae,.hole ae,.hole (aH 6),.hole (aH 7),.hole ae,.hole ae,.hole .bool]]]
def xV:=bm 92 [.row 10,ab ae,.row 8,ab .bool] (ab .bool) [ag3,Jk,ag4]
def Pj:=bm 84 [.row 10,ab ae,.row 8] (ab .bool)
def adq:=cN 0 [(1,aD 0 0),(6,ab ae),(16,ab (aH 5)),(17,ab ae),(18,ab ae),(24,ab (aH 7)),(25,ab ae),(26,ab ae)] [dm (aH 5)] [bS .ret [(2,ab ae),(3,ab ae),(4,ab ae)],bS (.exit 2) [(1,aD 0 0),(16,ab (aH 5)),(17,ab ae),(18,ab ae)] [dm (aH 5)]]
def afr:=cN 0 [(1,aD 0 0),(16,ab (aH 5)),(17,ab ae),(18,ab ae)] [dm (aH 5)] [bS .ret [(2,ab ae),(3,ab ae),(4,ab ae)],mb 0] [adq]
def O2:=bm 245 [.row 10] (.bn [ab ae,ab ae,ab ae]) [afr]
def OW:=bm 220 [.row 10] (ab ae)
def afs:=cN 0 [(1,.c (.arr 0)),(5,ab ae),(33,ab (aH 7)),(34,ab ae),(35,ab ae)] [.arr ae] [bS (.exit 1) [(5,ab ae)] [.arr ae]]
def aft:=cN 1 [(1,.c (.arr 0)),(8,ab ae),(52,ab (aH 7)),(53,ab ae),(54,ab ae)] [.arr ae] [bS (.exit 3) [(8,ab ae)] [.arr ae]]
def O3:=bm 246 [.row 5,.c (.arr 0)] (ab ae) [afs,aft] [.arr ae] [.arr ae]
def adr:=cN 0 [(1,aD 0 0),(3,.c (.arr 1)),(4,ab .bool),(14,ab (aH 5)),(15,ab ae),(16,ab ae)] [dm (aH 5),.arr ae] [bS (.exit 2) [(1,aD 0 0),(3,.c (.arr 1)),(4,ab .bool)] [dm (aH 5),.arr ae]]
def afu:=cN 0 [(1,aD 0 0),(3,.c (.arr 1)),(4,ab .bool)] [dm (aH 5),.arr ae] [bS (.exit 0) [(3,.c (.arr 0))] [.arr ae]] [adr]
def OX:=bm 221 [.row 10] (ab eA) [afu]
def afv:=cN 0 [(5,.c (.arr 0)),(14,ab eA),(15,ab ae),(16,ab ae)] [.arr .bool] [bS (.exit 0) [(5,.c (.arr 0))] [.arr .bool]] [] [(.slot 5,.bool)]
def OD:=bm 165 [.row 10] (.bn [ab (.slice .bool),ab ae]) [afv]
def afw:=cN 0 [(15,ab (.slice .bool)),(16,ab ae),(17,ab ae)] [] [j6 2 ae,mb 0]
def zR:=bm 120 [.row 10] (ab ae) [afw]
def Pk:=bm 85 [.row 10,ab ae] (ab ae)
def O5:=bm 39 [.row 11,.row 11] (ab ae)
def ads:=cN 0 [(0,.c (.arr 0)),(3,aD 1 0),(7,ab ae),(8,ab ae)] [.arr (.nm 12),.bz 12] [bS .ret [(4,ab ae)] [.arr (.nm 12)],bS (.exit 0) [] [.arr (.nm 12)]]
def Tu:=bm 128 [.c (.arr 0),.row 12] (ab ae) [ads] [.arr (.nm 12)] [.arr (.nm 12)]
def Ph:=bm 78 [.c (.arr 0),.row 12] (ab .bool) [] [.arr (.nm 12)] [.arr (.nm 12)]
def Od:=bm 131 [ab ae,ab ae,aD 0 0] (.bn []) [] [.box [.arr 1],.arr (.nm 12)] [.box [.arr 2],.gone,.arr (.nm 12)]
def agY:=cN 0 [(9,aD 0 0),(10,aD 1 0),(11,aD 2 0),(12,.c (.fn 131 [2])),(35,ab (aH 7)),(36,ab ae),(37,ab ae)] [.bz 5,.bz 5,.box [.arr 3],.arr (.nm 12)] [bS (.exit 0) [(9,aD 0 0),(10,aD 1 0),(11,aD 2 0),(12,.c (.fn 131 [2]))] [.bz 5,.bz 5,.box [.arr 3],.arr (.nm 12)]] [] [(.via 11 0,.nm 12)]
def Fp:=bm 86 [.row 10,ab ae,.row 10,ab ae] (ab (aH 12)) [agY]
def agM:=bm 40 [.row 11,.row 11] (.bn [.c (.arr 0),.c (.arr 1)]) [] [] [.arr (.nm 12),.arr ae]
def Pl:=bm 87 [.row 5] (ab ae)
def agZ:=cN 0 [(2,aD 0 0),(3,aD 1 0),(16,ab (aH 6)),(17,ab ae),(18,ab ae)] [.bz 5,.bz 5] [j6 4 .bool,bS (.exit 0) [(2,aD 0 0),(3,aD 1 0)] [.bz 5,.bz 5]]
def ag0:=cN 1 [(3,aD 0 0),(33,ab (aH 7)),(34,ab ae),(35,ab ae)] [.bz 5] [j6 4 .bool,mb 2]
def Pm:=bm 88 [.row 5,.row 5] (ab .bool) [agZ,ag0]
def Ob:=bm 114 [.row 10,ab ae] (ab ae)
def Pf:=bm 62 [.row 10,ab ae,.row 8,.row 10,ab ae] (ab ae)
def Oc:=bm 115 [aD 0 0] (.bn [.row 8,ab .bool]) [] [.box [.hole (aH 5),.hole (aH 5),.arr 1,.hole eA],.arr ae] [.box [.hole (aH 5),.hole (aH 5),.arr 2,.arr 3],.gone,.arr ae,.arr ae]
def OB:=bm 160 [aD 0 0,ab ae] (.bn [.row 8,ab .bool]) [] [.box [.hole (aH 5),.hole (aH 5),.arr 1,.hole eA],.arr ae] [.box [.hole (aH 5),.hole (aH 5),.arr 2,.arr 3],.gone,.arr ae,.arr ae]
def LM:=cN 0 [(1,aD 0 0),(2,aD 1 0),(20,.c (.arr 2)),(21,ab ae),(22,ab ae)] [.box [.hole ae,.hole .bool,.hole ae,.hole .str,.hole ae,.arr 2,.arr 3,.arr 4],.box [.hole ae,.hole .bool,.hole ae,.hole .str,.hole ae,.aT,.aT,.aT],.arr (.nm 8),.arr (.nm 8),.arr (.nm 9)] [bS (.exit 0) [(1,aD 0 0),(2,aD 1 0)] [.box [.hole ae,.hole .bool,.hole ae,.hole .str,.hole ae,.arr 2,.arr 3,.arr 4],.box [.hole ae,.hole .bool,.hole ae,.hole .str,.hole ae,.aT,.aT,.aT],.arr (.nm 8),.arr (.nm 8),.arr (.nm 9)]]
def LN:=cN 1 [(1,aD 0 0),(2,aD 1 0),(35,.c (.arr 2)),(36,ab ae),(37,ab ae)] [.box [.hole ae,.hole .bool,.hole ae,.hole .str,.hole ae,.arr 3,.arr 2,.arr 4],.box [.hole ae,.hole .bool,.hole ae,.hole .str,.hole ae,.aT,.aT,.aT],.arr (.nm 8),.arr (.nm 8),.arr (.nm 9)] [bS (.exit 2) [(1,aD 0 0),(2,aD 1 0)] [.box [.hole ae,.hole .bool,.hole ae,.hole .str,.hole ae,.arr 2,.arr 3,.arr 4],.box [.hole ae,.hole .bool,.hole ae,.hole .str,.hole ae,.aT,.aT,.aT],.arr (.nm 8),.arr (.nm 8),.arr (.nm 9)]]
def zT:=bm 161 [.row 8] (.row 8) [LM,LN]
def zU:=bm 162 [aD 0 0,ab ae,ab ae,.row 8,ab ae] (.bn [.row 8,ab .bool]) [] [.box [.hole (aH 5),.hole (aH 5),.arr 1,.hole eA],.arr ae] [.box [.hole (aH 5),.hole (aH 5),.arr 2,.hole eA],.gone,.arr ae]
def Ms:=cN 0 [(1,ab (aH 8)),(2,.c (.fn 25 [])),(15,ab (aH 8)),(16,ab ae),(17,ab ae)] [] [j6 6 .bool,mb 0]
def Fo:=bm 65 [ab (aH 8),ab (aH 8),.c (.fn 25 [])] (ab .bool) [Ms]
def Cy:=bm 25 [.row 8,.row 8] (ab .bool)
def OC:=bm 163 [.row 7,.row 8] (ab .bool)
def ag5:=cN 0 [(0,ab (.int .u64)),(3,aD 0 0),(4,ab ae)] [.arr (.int .u8)] [bS (.exit 0) [(0,ab (.int .u64)),(3,aD 0 0),(4,ab ae)] [.arr (.int .u8)]]
def Pr:=bm 98 [ab (.int .u64)] (ab .str) [ag5]
def Pc:=bm 56 [ab .str] (ab .str)
def Pp:=bm 94 [ab ae,ab .bool,ab .str] (ab .str)
def OT:=bm 218 [ab ae,ab .bool,ab .str] (.bn [ab .str,ab ae])
def OU:=bm 219 [ab .str] (ab .str)
def O8:=bm 49 [.row 10,ab ae] (ab ae)
def O9:=bm 50 [.row 10,ab ae,.row 8] (ab .bool)
def OJ:=bm 20 [.row 10,ab ae,.row 8] (ab ae)
def agR:=cN 0 [(0,ab (.int .u64)),(3,aD 0 0),(4,ab ae)] [.arr (.int .u8)] [bS (.exit 0) [(3,aD 0 0),(4,ab ae)] [.arr (.int .u8)]]
def O':=bm 51 [ab (.int .u64)] (ab .str) [agR]
def Po:=bm 93 [.row 7,.row 8] (ab .bool)
def Pb:=bm 55 [aD 0 0,ab .str] (.bn [ab ae,.c (.dead)]) [] [.cL 137 ((.df 1)),.buf 5] [.cL 137 ((.df 2)),.gone,.buf 5]
def Pd:=bm 57 [aD 0 0] (ab .str) [] [.cL 137 ((.df 1)),.buf 5] [.cL 137 ((.df 1)),.gone]
def Ja:=cN 0 [(0,aD 0 0),(3,ab ae),(6,aD 1 0),(9,.c (.arr 2)),(18,ab (aH 7)),(19,ab ae),(20,ab ae)] [.box [.hole (aH 5),.hole ae],.bz 8,.arr (.nm 13)] [bS (.exit 0) [(6,aD 1 0),(9,.c (.arr 2))] [.box [.hole (aH 5),.hole ae],.bz 8,.arr (.nm 13)]] [] [(.slot 9,.nm 13)]
def agS:=cN 1 [(9,.c (.arr 1)),(57,ab (aH 9)),(58,ab ae),(59,ab ae)] [.box [.hole (aH 5),.hole ae],.arr (.nm 13)] [bS (.exit 2) [(9,.c (.arr 1))] [.box [.hole (aH 5),.hole ae],.arr (.nm 13)]]
def agT:=cN 2 [(14,aD 1 0),(77,.c (.arr 2)),(78,ab ae),(79,ab ae)] [.box [.hole (aH 5),.hole ae],.cL 137 ((.df 3)),.arr (.nm 13),.buf 5] [bS (.exit 4) [(14,aD 1 0)] [.box [.hole (aH 5),.hole ae],.cL 137 ((.df 2)),.buf 5]]
def Fk:=bm 53 [aD 0 0,.row 5,.row 8,ab ae] (ab .str) [Ja,agS,agT] [.box [.hole (aH 5),.hole ae]] [.box [.hole (aH 5),.hole ae]]
def Fl:=bm 54 [aD 0 0,.row 5,.row 8,ab ae] (ab .str) [] [.box [.hole (aH 5),.hole ae]] [.box [.hole (aH 5),.hole ae]]
def I':=cN 0 [(0,aD 0 0),(3,ab ae),(6,aD 1 0),(9,aD 2 0),(10,aD 3 0),(84,ab (aH 8)),(85,ab ae),(86,ab ae)] [.box [.hole (aH 5),.hole ae],.bz 8,.bz 5,.cL 137 ((.df 4)),.buf 5] [bS (.exit 1) [(10,aD 1 0)] [.box [.hole (aH 5),.hole ae],.cL 137 ((.df 2)),.buf 5]]
def vW:=bm 21 [aD 0 0,ab ae,.row 8,ab ae] (ab .str) [I'] [.box [.hole (aH 5),.hole ae]] [.box [.hole (aH 5),.hole ae]]
def e8:=bm 8 [.row 10,ab ae,.row 8] (.bn [ab .str,ab ae])
def LO:=cN 0 [(3,aD 0 0),(5,aD 1 0),(8,ab .str),(36,ab (aH 7)),(37,ab ae),(38,ab ae)] [dm (aH 5),.bz 8] [bS (.exit 1) [(8,ab .str)]]
def LP:=cN 1 [(3,aD 0 0),(7,aD 1 0),(8,ab .str),(101,ab (aH 8)),(102,ab ae),(103,ab ae)] [dm (aH 5),.bz 5] [bS (.exit 3) [(8,ab .str)]]
def LQ:=cN 2 [(3,aD 0 0),(5,aD 1 0),(7,aD 2 0),(8,ab .str),(118,ab (aH 8)),(119,ab ae),(120,ab ae)] [dm (aH 5),.bz 8,.bz 5] [bS (.exit 5) [(8,ab .str)]]
def vV:=bm 164 [.row 10,ab ae,.row 8] (ab .str) [LO,LP,LQ]
def LR:=cN 0 [(0,aD 0 0),(5,aD 2 0),(6,aD 3 0),(7,aD 4 0),(8,aD 5 0),(10,aD 6 0),(25,ab (aH 7)),(26,ab ae),(27,ab ae)] [.box [.hole (aH 5),.hole (aH 5),.arr 7,.hole eA],.gone,.bz 5,.bz 8,.bz 5,.box [.hole ae,.hole .bool,.hole ae,.hole .str,.hole ae,.aT,.aT,.aT],.box [.hole ae,.hole .bool,.hole ae,.hole .str,.hole ae,.aT,.arr 8,.aT],.arr ae,.arr (.nm 8)] [bS .ret [(8,aD 2 0),(9,ab .bool)] [.box [.hole (aH 5),.hole (aH 5),.arr 3,.hole eA],.gone,.bz 8,.arr ae],bS (.exit 0) [(0,aD 0 0),(5,aD 2 0),(6,aD 3 0),(7,aD 4 0),(8,aD 5 0),(10,aD 6 0)] [.box [.hole (aH 5),.hole (aH 5),.arr 7,.hole eA],.gone,.bz 5,.bz 8,.bz 5,.box [.hole ae,.hole .bool,.hole ae,.hole .str,.hole ae,.aT,.aT,.aT],.box [.hole ae,.hole .bool,.hole ae,.hole .str,.hole ae,.aT,.arr 8,.aT],.arr ae,.arr (.nm 8)]] [] [(.via 10 6,.nm 8)]
def afx:=cN 1 [(0,aD 0 0),(6,aD 2 0),(7,aD 3 0),(8,aD 4 0),(10,aD 5 0),(115,ab (aH 7)),(116,ab ae),(117,ab ae)] [.box [.hole (aH 5),.hole (aH 5),.arr 6,.hole eA],.gone,.bz 8,.bz 5,.box [.hole ae,.hole .bool,.hole ae,.hole .str,.hole ae,.aT,.aT,.aT],.box [.hole ae,.hole .bool,.hole ae,.hole .str,.hole ae,.aT,.arr 7,.arr 8],.arr ae,.arr (.nm 8),.arr (.nm 9)] [bS .ret [(8,aD 2 0),(9,ab .bool)] [.box [.hole (aH 5),.hole (aH 5),.arr 3,.arr 4],.gone,.bz 8,.arr ae,.arr ae],bS (.exit 2) [(8,aD 2 0),(10,aD 3 0)] [.box [.hole (aH 5),.hole (aH 5),.arr 4,.hole eA],.gone,.box [.hole ae,.hole .bool,.hole ae,.hole .str,.hole ae,.aT,.aT,.aT],.box [.hole ae,.hole .bool,.hole ae,.hole .str,.hole ae,.aT,.arr 5,.arr 6],.arr ae,.arr (.nm 8),.arr (.nm 9)]] [] [(.via 10 7,.nm 9)]
def Fe:=bm 116 [aD 0 0,.row 5,.row 8,.row 5] (.bn [.row 8,ab .bool]) [LR,afx] [.box [.hole (aH 5),.hole (aH 5),.arr 1,.hole eA],.arr ae] [.box [.hole (aH 5),.hole (aH 5),.arr 2,.hole eA],.gone,.arr ae]
def Ff:=bm 117 [aD 0 0,.row 5,.row 8,.row 5] (.bn [.row 8,ab .bool]) [] [.box [.hole (aH 5),.hole (aH 5),.arr 1,.hole eA],.arr ae] [.box [.hole (aH 5),.hole (aH 5),.arr 2,.hole eA],.gone,.arr ae]
def LS:=cN 0 [(0,aD 0 0),(1,ab ae),(3,ab ae),(10,.c (.arr 2)),(15,ab (aH 8)),(16,ab ae),(17,ab ae)] [.box [.hole (aH 5),.hole (aH 5),.arr 3,.hole eA],.gone,.arr (.nm 8),.arr ae] [bS .ret [(8,.c (.aT)),(9,ab .bool)] [.box [.hole (aH 5),.hole (aH 5),.arr 2,.hole eA],.gone,.arr ae],bS (.exit 0) [(10,.c (.arr 2))] [.box [.hole (aH 5),.hole (aH 5),.arr 3,.hole eA],.gone,.arr (.nm 8),.arr ae]] [] [(.slot 10,.nm 8)]
def Fg:=bm 118 [aD 0 0,ab ae,ab (aH 8),ab ae] (.bn [ab (aH 8),ab .bool]) [LS] [.box [.hole (aH 5),.hole (aH 5),.arr 1,.hole eA],.arr ae] [.box [.hole (aH 5),.hole (aH 5),.arr 2,.hole eA],.gone,.arr ae]
def CA:=bm 63 [aD 0 0,ab ae,.row 8,ab ae] (.bn [.row 8,ab .bool]) [] [.box [.hole (aH 5),.hole (aH 5),.arr 1,.hole eA],.arr ae] [.box [.hole (aH 5),.hole (aH 5),.arr 2,.hole eA],.gone,.arr ae]
def O0:=bm 24 [.row 10,ab ae,.row 8,.row 10,ab ae] (.bn [.row 8,ab ae])
def ag1:=cN 0 [(4,aD 0 0),(5,aD 1 0),(6,aD 2 0),(7,aD 3 0),(21,ab (aH 7)),(22,ab ae),(23,ab ae)] [dm (aH 5),.bz 5,dm (aH 5),.bz 5] [j6 8 ae,bS (.exit 0) [(5,aD 0 0),(7,aD 1 0)] [.bz 5,.bz 5]]
def ag2:=cN 1 [(7,aD 0 0),(73,ab (aH 7)),(74,ab ae),(75,ab ae)] [.bz 5] [j6 8 ae,mb 2]
def Pn:=bm 89 [.row 10,.row 5,.row 10,.row 5] (ab ae) [ag1,ag2]
def O6:=bm 41 [.row 10,ab ae,.row 10,ab ae] (ab ae)
def agN:=cN 0 [(0,.c (.arr 0)),(2,ab ae),(3,ab ae)] [.arr (.nm 12)] [bS (.exit 0) [] [.arr (.nm 12)]]
def O7:=bm 42 [.c (.arr 0)] (.bn []) [agN] [.arr (.nm 12)] [.arr (.nm 12)]
def aeF:=cN 0 [(8,.c (.arr 0)),(9,.c (.arr 1)),(10,ab ae),(12,ab ae),(13,.c (.arr 2))] [.arr (.nm 12),.arr ae,.arr (.nm 12)] [bS (.exit 2) [(12,ab ae),(13,.c (.arr 0))] [.arr (.nm 12)]] [] [(.slot 13,.nm 12)]
def agG:=cN 0 [(2,aD 0 0),(3,aD 1 0),(8,.c (.arr 2)),(9,.c (.arr 3)),(26,.c (.arr 2)),(27,ab ae),(28,ab ae)] [.bz 11,.bz 11,.arr (.nm 12),.arr ae] [bS .ret [(4,.c (.arr 0)),(5,ab ae),(6,ab ae)] [.arr (.nm 12)],mb 0] [aeF]
def OE:=bm 18 [.row 11,.row 11] (.bn [ab (aH 12),ab ae,ab ae]) [agG]
def o0:=bm 6 [.row 11,.row 11] (.bn [ab .bool,ab ae])
def UT:=bm 70 [.row 11] (ab ae)
def UE:=bm 166 [.row 10,ab ae] (ab ae)
def UL:=bm 247 [ab ae,ab ae] (ab ae)
def zV:=bm 257 [.row 10,ab ae,.row 8] (.bn [ab ae,ab ae])
def UN:=bm 258 [.row 10,ab ae,.row 8] (ab .str)
def UM:=bm 248 [.row 10,ab ae,.row 8] (.row 15)
def UK:=bm 223 [.row 15,.row 15] (ab .bool)
def aw2:=cN 0 [(1,ab ae),(3,.c (.arr 0)),(4,aD 1 0),(8,aD 2 0),(9,aD 3 0),(10,ab .bool),(42,ab (aH 7)),(43,ab ae),(44,ab ae)] [.arr (.nm 15),dm (aH 5),.box [.hole .bool,.hole .bool,.hole .str,.hole ae,.hole .bool,.hole ae,.hole .str,.hole ae,.aT,.aT,.aT],.box [.hole ae,.hole .bool,.hole ae,.hole .str,.hole ae,.aT,.arr 4,.aT],.arr (.nm 8)] [bS .ret [(8,aD 1 0)] [.arr (.nm 15),.box [.hole .bool,.hole .bool,.hole .str,.hole ae,.hole .bool,.hole ae,.hole .str,.hole ae,.aT,.aT,.aT]],bS (.exit 1) [(1,ab ae),(4,aD 1 0),(8,aD 2 0),(9,aD 3 0),(10,ab .bool)] [.arr (.nm 15),dm (aH 5),.box [.hole .bool,.hole .bool,.hole .str,.hole ae,.hole .bool,.hole ae,.hole .str,.hole ae,.aT,.aT,.aT],.box [.hole ae,.hole .bool,.hole ae,.hole .str,.hole ae,.aT,.arr 4,.aT],.arr (.nm 8)]] [] [(.via 9 6,.nm 8)]
def aw3:=cN 1 [(1,ab ae),(3,.c (.arr 0)),(4,aD 1 0),(6,aD 2 0),(8,aD 3 0),(14,aD 4 0),(80,ab (aH 7)),(81,ab ae),(82,ab ae)] [.arr (.nm 15),dm (aH 5),.bz 5,.box [.hole .bool,.hole .bool,.hole .str,.hole ae,.hole .bool,.hole ae,.hole .str,.hole ae,.aT,.aT,.aT],.box [.hole .bool,.hole .bool,.hole .str,.hole ae,.hole .bool,.hole ae,.hole .str,.hole ae,.hole (aH 8),.hole (aH 8),.hole (aH 9)]] [bS (.exit 3) [(8,aD 1 0),(14,aD 2 0)] [.arr (.nm 15),.box [.hole .bool,.hole .bool,.hole .str,.hole ae,.hole .bool,.hole ae,.hole .str,.hole ae,.aT,.aT,.aT],.box [.hole .bool,.hole .bool,.hole .str,.hole ae,.hole .bool,.hole ae,.hole .str,.hole ae,.hole (aH 8),.hole (aH 8),.hole (aH 9)]]]
def UJ:=bm 222 [.row 10,ab ae,.row 5,.c (.arr 0)] (.row 15) [aw2,aw3] [.arr (.nm 15)] [.arr (.nm 15)]
def aui:=cN 0 [(1,aD 0 0),(3,.c (.arr 1)),(14,ab ae),(15,ab ae),(18,ab (aH 5)),(19,ab ae),(20,ab ae)] [dm (aH 5),.arr (.nm 15)] [bS (.exit 2) [(1,aD 0 0),(3,.c (.arr 1)),(14,ab ae),(15,ab ae)] [dm (aH 5),.arr (.nm 15)]]
def aw4:=cN 0 [(1,aD 0 0),(3,.c (.arr 1)),(14,ab ae),(15,ab ae)] [dm (aH 5),.arr (.nm 15)] [bS (.exit 0) [(3,.c (.arr 0))] [.arr (.nm 15)]] [aui]
def UF:=bm 167 [.row 10] (ab (aH 15)) [aw4]
def aw5:=cN 0 [(1,aD 0 0),(2,aD 1 0),(19,ab ae),(20,ab ae)] [.box [.hole ae,.hole .bool,.hole ae,.hole .str,.hole ae,.arr 2,.arr 3,.arr 4],.box [.hole ae,.hole .bool,.hole ae,.hole .str,.hole ae,.aT,.aT,.aT],.arr (.nm 8),.arr (.nm 8),.arr (.nm 9)] [bS (.exit 0) [(1,aD 0 0),(2,aD 1 0)] [.box [.hole ae,.hole .bool,.hole ae,.hole .str,.hole ae,.arr 2,.arr 3,.arr 4],.box [.hole ae,.hole .bool,.hole ae,.hole .str,.hole ae,.aT,.aT,.aT],.arr (.nm 8),.arr (.nm 8),.arr (.nm 9)]]
def awr:=cN 1 [(1,aD 0 0),(2,aD 1 0),(36,ab ae),(37,ab ae)] [.box [.hole ae,.hole .bool,.hole ae,.hole .str,.hole ae,.arr 2,.arr 3,.arr 4],.box [.hole ae,.hole .bool,.hole ae,.hole .str,.hole ae,.aT,.aT,.aT],.arr (.nm 8),.arr (.nm 8),.arr (.nm 9)] [bS (.exit 2) [(1,aD 0 0),(2,aD 1 0)] [.box [.hole ae,.hole .bool,.hole ae,.hole .str,.hole ae,.arr 2,.arr 3,.arr 4],.box [.hole ae,.hole .bool,.hole ae,.hole .str,.hole ae,.aT,.aT,.aT],.arr (.nm 8),.arr (.nm 8),.arr (.nm 9)]]
def UG:=bm 168 [.row 8] (.row 8) [aw5,awr]
def xU:=bm 121 [.row 10,ab ae] (.bn [.row 8,ab ae])
def Uz:=bm 122 [.row 8,ab .str] (.row 14)
def sq:=bm 129 [.row 10,ab ae,.row 10,ab ae] (.bn [ab ae,ab ae])
def aws:=cN 0 [(0,aD 0 0),(1,ab ae),(5,aD 5 0),(6,aD 6 0),(7,aD 7 0),(8,aD 8 0),(24,ab (aH 7)),(25,ab ae),(26,ab ae)] [.box [.hole (aH 5),.hole (aH 5),.arr 9,.arr 2],.gone,.box [.arr 3,.arr 4],.arr (.nm 14),.arr (.nm 14),.bz 5,.box [.hole .bool,.hole .bool,.hole .str,.hole ae,.hole .bool,.hole ae,.hole .str,.hole ae,.aT,.aT,.aT],.bz 5,.box [.hole .bool,.hole .bool,.hole .str,.hole ae,.hole .bool,.hole ae,.hole .str,.hole ae,.aT,.aT,.aT],.arr (.nm 14)] [bS (.exit 0) [(6,aD 5 0),(8,aD 6 0)] [.box [.hole (aH 5),.hole (aH 5),.arr 7,.arr 2],.gone,.box [.arr 3,.arr 4],.arr (.nm 14),.arr (.nm 14),.box [.hole .bool,.hole .bool,.hole .str,.hole ae,.hole .bool,.hole ae,.hole .str,.hole ae,.aT,.aT,.aT],.box [.hole .bool,.hole .bool,.hole .str,.hole ae,.hole .bool,.hole ae,.hole .str,.hole ae,.aT,.aT,.aT],.arr (.nm 14)]]
def UI:=bm 177 [aD 0 0,ab ae,.row 5] (.row 14) [aws] [.box [.hole (aH 5),.hole (aH 5),.arr 1,.arr 2],.arr (.nm 14),.box [.arr 3,.arr 4],.arr (.nm 14),.arr (.nm 14)] [.box [.hole (aH 5),.hole (aH 5),.arr 5,.arr 2],.gone,.box [.arr 3,.arr 4],.arr (.nm 14),.arr (.nm 14),.arr (.nm 14)]
def awt:=cN 0 [(0,aD 0 0),(1,ab ae),(6,aD 5 0),(7,aD 6 0),(8,aD 7 0),(91,ab (aH 6)),(92,ab ae),(93,ab ae)] [.box [.hole (aH 5),.hole (aH 5),.arr 8,.arr 2],.gone,.box [.arr 3,.arr 4],.arr (.nm 14),.arr (.nm 14),.box [.hole .bool,.hole .bool,.hole .str,.hole ae,.hole .bool,.hole ae,.hole .str,.hole ae,.aT,.aT,.aT],.bz 5,.bz 5,.arr (.nm 14)] [bS (.exit 1) [(6,aD 5 0)] [.box [.hole (aH 5),.hole (aH 5),.arr 6,.arr 2],.gone,.box [.arr 3,.arr 4],.arr (.nm 14),.arr (.nm 14),.box [.hole .bool,.hole .bool,.hole .str,.hole ae,.hole .bool,.hole ae,.hole .str,.hole ae,.aT,.aT,.aT],.arr (.nm 14)]]
def UB:=bm 124 [aD 0 0,ab ae,ab ae] (.row 14) [awt] [.box [.hole (aH 5),.hole (aH 5),.arr 1,.arr 2],.arr (.nm 14),.box [.arr 3,.arr 4],.arr (.nm 14),.arr (.nm 14)] [.box [.hole (aH 5),.hole (aH 5),.arr 5,.arr 2],.gone,.box [.arr 3,.arr 4],.arr (.nm 14),.arr (.nm 14),.arr (.nm 14)]
def UH:=bm 169 [ab .str,ab .str] (ab .bool)
def UA:=bm 123 [.row 14,.row 14] (.row 14)
def atf:=cN 0 [(5,aD 0 0),(11,ab .bool),(12,ab ae),(13,.c (.arr 1)),(83,.c (.arr 2)),(84,ab ae),(85,ab ae),(90,.c (.arr 1)),(91,ab ae),(92,ab ae)] [.box [.hole (aH 5),.hole (aH 5),.arr 3,.arr 2],.arr (.nm 14),.box [.arr 1,.arr 4],.arr (.nm 14),.arr (.nm 14)] [bS (.exit 6) [(5,aD 0 0),(11,ab .bool),(83,.c (.arr 1)),(84,ab ae),(85,ab ae)] [.box [.hole (aH 5),.hole (aH 5),.arr 2,.arr 1],.box [.arr 3,.arr 4],.arr (.nm 14),.arr (.nm 14),.arr (.nm 14)]]
def ash:=cN 1000 [(5,aD 0 0),(11,ab .bool),(12,ab ae),(13,.c (.arr 1)),(83,.c (.arr 2)),(84,ab ae),(85,ab ae),(90,.c (.arr 1)),(91,ab ae),(92,ab ae)] [.box [.hole (aH 5),.hole (aH 5),.arr 3,.arr 2],.arr (.nm 14),.box [.arr 4,.arr 1],.arr (.nm 14),.arr (.nm 14)] [bS (.exit 6) [(5,aD 0 0),(11,ab .bool),(83,.c (.arr 1)),(84,ab ae),(85,ab ae)] [.box [.hole (aH 5),.hole (aH 5),.arr 2,.arr 1],.box [.arr 3,.arr 4],.arr (.nm 14),.arr (.nm 14),.arr (.nm 14)]]
def av1:=cN 0 [(5,aD 0 0),(11,ab .bool),(83,.c (.arr 1)),(84,ab ae),(85,ab ae)] [.box [.hole (aH 5),.hole (aH 5),.arr 2,.arr 1],.box [.arr 3,.arr 4],.arr (.nm 14),.arr (.nm 14),.arr (.nm 14)] [bS (.exit 4) [(5,aD 0 0),(11,ab .bool)] [.box [.hole (aH 5),.hole (aH 5),.arr 1,.arr 2],.arr (.nm 14),.box [.arr 3,.arr 4],.arr (.nm 14),.arr (.nm 14)]] [atf,ash]
def ayi:=cN 0 [(2,aD 0 0),(3,aD 1 0),(5,aD 2 0),(27,ab ae),(28,ab ae)] [dm (aH 5),dm (aH 5),.box [.hole (aH 5),.hole (aH 5),.arr 3,.arr 4],.arr (.nm 14),.box [.arr 5,.arr 6],.arr (.nm 14),.arr (.nm 14)] [bS (.exit 0) [(5,aD 0 0)] [.box [.hole (aH 5),.hole (aH 5),.arr 1,.arr 2],.arr (.nm 14),.box [.arr 3,.arr 4],.arr (.nm 14),.arr (.nm 14)]] [] [(.via 5 2,.nm 14),(.cell 128 0,.nm 14),(.cell 128 1,.nm 14)] [(.via 5 2,.nm 14),(.cell 4 0,.nm 14),(.cell 4 1,.nm 14)]
def ayj:=cN 1 [(5,aD 0 0),(11,ab .bool)] [.box [.hole (aH 5),.hole (aH 5),.arr 1,.arr 2],.arr (.nm 14),.box [.arr 3,.arr 4],.arr (.nm 14),.arr (.nm 14)] [bS (.exit 2) [(5,aD 0 0)] [.box [.hole (aH 5),.hole (aH 5),.arr 1,.arr 2],.arr (.nm 14),.box [.arr 3,.arr 4],.arr (.nm 14),.arr (.nm 14)]] [av1]
def UU:=bm 71 [.row 10,.row 10] (aD 0 0) [ayi,ayj] [] [.box [.hole (aH 5),.hole (aH 5),.arr 1,.arr 2],.arr (.nm 14),.box [.arr 3,.arr 4],.arr (.nm 14),.arr (.nm 14)]
def UO:=bm 34 [.row 11,.row 11] (.bn [.row 14,ab ae])
def UP:=bm 35 [.row 11,.row 11] (.bn [ab (aH 12),ab ae])
def Cu:=bm 16 [.row 11,.row 11] (.bn [.row 16,ab ae])
def UX:=bm 76 [.row 12] (ab .bool)
def awu:=cN 0 [(0,ab (aH 12)),(1,.c (.fn 76 [])),(7,ab ae),(8,ab ae)] [] [j6 4 ae,mb 0]
def UC:=bm 127 [ab (aH 12),.c (.fn 76 [])] (ab ae) [awu]
def UW:=bm 75 [ab (aH 12),.c (.fn 76 [])] (ab .bool)
def UQ:=bm 36 [.row 16] (ab .bool)
def Je:=bm 77 [.row 11] (ab .bool)
def auj:=cN 0 [(0,ab (aH 12)),(3,aD 0 0),(7,ab ae),(8,ab ae)] [.bz 12] [j6 4 ae,mb 0]
def aay:=bm 128 [ab (aH 12),.row 12] (ab ae) [auj]
def Jf:=bm 78 [ab (aH 12),.row 12] (ab .bool)
def Jg:=bm 79 [.row 17] (.row 12)
def Jh:=bm 80 [.row 17,.row 12] (ab .bool)
def Ji:=bm 81 [.row 17,.row 12] (ab .bool)
def UD:=bm 130 [.row 10,ab ae,.row 10,ab ae] (.bn [ab (aH 12),ab ae])
def Jj:=bm 82 [.row 17,.row 12] (ab (aH 12))
def agL:=bm 37 [.row 11,.row 11,ab (aH 12)] (ab .bool)
def N7:=bm 103 [aD 0 0,ab ae] (.bn [.row 8,ab .bool]) [] [.box [.hole (aH 5),.arr 1,.hole eA,.hole ae],.arr ae] [.box [.hole (aH 5),.arr 2,.arr 3,.hole ae],.gone,.arr ae,.arr ae]
def afy:=cN 0 [(0,ab .str),(4,ab (.int .u64)),(17,ab ae),(18,ab ae)] [] [bS (.exit 0) [(4,ab (.int .u64))]]
def N8:=bm 104 [ab .str] (.bn [ab (.int .u64),ab ae]) [afy]
def N9:=bm 105 [ab (.int .u64)] (ab ae)
def uQ:=bm 107 [aD 0 0,ab ae,ab ae,ab .str] (.bn [.row 8,ab .bool]) [] [.box [.hole (aH 5),.arr 1,.hole eA,.hole ae],.arr ae] [.box [.hole (aH 5),.arr 2,.hole eA,.hole ae],.gone,.arr ae]
def afz:=cN 0 [(0,ab .str),(5,ab (.int .u64)),(10,ab ae),(11,ab ae)] [] [bS .ret [(2,ab (.int .u64)),(3,ab ae),(4,ab ae)],mb 0]
def O1:=bm 243 [ab .str] (.bn [ab (.int .u64),ab ae,ab ae]) [afz]
def OR:=bm 210 [ab .str] (.bn [ab (.int .u64),ab .str,ab .bool])
def Ov:=bm 152 [ab .str] (.bn [ab ae,ab .str,ab ae])
def E':=bm 108 [aD 0 0,.row 5,ab .str] (.bn [.row 8,ab .bool]) [] [.box [.hole (aH 5),.arr 1,.hole eA,.hole ae],.arr ae] [.box [.hole (aH 5),.arr 2,.hole eA,.hole ae],.gone,.arr ae]
def OS:=bm 211 [ab .str] (.bn [ab .str,ab .str,ab .bool])
def aeS:=cN 0 [(4,.c (.arr 0)),(5,ab .str)] [.arr .str] [bS .ret [(2,.c (.aT)),(3,ab ae)],bS (.exit 0) [(4,.c (.arr 0))] [.arr .str]] [] [(.slot 4,.str)]
def Ow:=bm 153 [ab .str] (.bn [ab zs,ab ae]) [aeS]
def LU:=cN 0 [(0,aD 0 0),(4,aD 2 0),(6,aD 3 0),(10,aD 4 0),(38,ab zs),(39,ab ae),(40,ab ae)] [.box [.hole (aH 5),.arr 5,.hole eA,.hole ae],.gone,.bz 5,.box [.hole ae,.hole .bool,.hole ae,.hole .str,.hole ae,.aT,.aT,.aT],.box [.hole ae,.hole .bool,.hole ae,.hole .str,.hole ae,.aT,.arr 6,.aT],.arr ae,.arr (.nm 8)] [bS .ret [(6,aD 2 0),(7,ab .bool)] [.box [.hole (aH 5),.arr 3,.hole eA,.hole ae],.gone,.bz 8,.arr ae],bS (.exit 0) [(6,aD 2 0),(10,aD 3 0)] [.box [.hole (aH 5),.arr 4,.hole eA,.hole ae],.gone,.box [.hole ae,.hole .bool,.hole ae,.hole .str,.hole ae,.aT,.aT,.aT],.box [.hole ae,.hole .bool,.hole ae,.hole .str,.hole ae,.aT,.arr 5,.aT],.arr ae,.arr (.nm 8)]] [] [(.via 10 6,.nm 8)]
def Fa:=bm 109 [aD 0 0,.row 5,ab .str] (.bn [.row 8,ab .bool]) [LU] [.box [.hole (aH 5),.arr 1,.hole eA,.hole ae],.arr ae] [.box [.hole (aH 5),.arr 2,.hole eA,.hole ae],.gone,.arr ae]
def LV:=cN 0 [(0,aD 0 0),(4,aD 2 0),(6,aD 3 0),(8,ab zs),(10,aD 4 0),(11,ab ae)] [.box [.hole (aH 5),.arr 5,.hole eA,.hole ae],.gone,.bz 5,.box [.hole ae,.hole .bool,.hole ae,.hole .str,.hole ae,.aT,.aT,.aT],.box [.hole ae,.hole .bool,.hole ae,.hole .str,.hole ae,.arr 6,.aT,.aT],.arr ae,.arr (.nm 8)] [bS .ret [(6,aD 2 0),(7,ab .bool)] [.box [.hole (aH 5),.arr 3,.hole eA,.hole ae],.gone,.bz 8,.arr ae],bS (.exit 0) [(0,aD 0 0),(4,aD 2 0),(6,aD 3 0),(8,ab zs),(10,aD 4 0)] [.box [.hole (aH 5),.arr 5,.hole eA,.hole ae],.gone,.bz 5,.box [.hole ae,.hole .bool,.hole ae,.hole .str,.hole ae,.aT,.aT,.aT],.box [.hole ae,.hole .bool,.hole ae,.hole .str,.hole ae,.arr 6,.aT,.aT],.arr ae,.arr (.nm 8)]] [] [(.via 10 5,.nm 8)]
def aeT:=cN 1 [(0,aD 0 0),(4,aD 2 0),(6,aD 3 0),(8,ab zs),(10,aD 4 0),(14,ab ae)] [.box [.hole (aH 5),.arr 5,.hole eA,.hole ae],.gone,.bz 5,.box [.hole ae,.hole .bool,.hole ae,.hole .str,.hole ae,.aT,.aT,.aT],.box [.hole ae,.hole .bool,.hole ae,.hole .str,.hole ae,.arr 6,.aT,.aT],.arr ae,.arr (.nm 8)] [bS .ret [(6,aD 2 0),(7,ab .bool)] [.box [.hole (aH 5),.arr 3,.arr 4,.hole ae],.gone,.bz 8,.arr ae,.arr ae],bS (.exit 2) [(0,aD 0 0),(4,aD 2 0),(6,aD 3 0),(8,ab zs),(10,aD 4 0)] [.box [.hole (aH 5),.arr 5,.hole eA,.hole ae],.gone,.bz 5,.box [.hole ae,.hole .bool,.hole ae,.hole .str,.hole ae,.aT,.aT,.aT],.box [.hole ae,.hole .bool,.hole ae,.hole .str,.hole ae,.arr 6,.aT,.aT],.arr ae,.arr (.nm 8)]]
def LW:=cN 2 [(0,aD 0 0),(4,aD 2 0),(6,aD 3 0),(8,ab zs),(10,aD 4 0),(15,ab ae)] [.box [.hole (aH 5),.arr 5,.hole eA,.hole ae],.gone,.bz 5,.box [.hole ae,.hole .bool,.hole ae,.hole .str,.hole ae,.aT,.aT,.aT],.box [.hole ae,.hole .bool,.hole ae,.hole .str,.hole ae,.arr 6,.arr 7,.aT],.arr ae,.arr (.nm 8),.arr (.nm 8)] [bS .ret [(6,aD 2 0),(7,ab .bool)] [.box [.hole (aH 5),.arr 3,.hole eA,.hole ae],.gone,.bz 8,.arr ae],bS (.exit 4) [(6,aD 2 0),(10,aD 3 0)] [.box [.hole (aH 5),.arr 4,.hole eA,.hole ae],.gone,.box [.hole ae,.hole .bool,.hole ae,.hole .str,.hole ae,.aT,.aT,.aT],.box [.hole ae,.hole .bool,.hole ae,.hole .str,.hole ae,.arr 5,.arr 6,.aT],.arr ae,.arr (.nm 8),.arr (.nm 8)]] [] [(.via 10 6,.nm 8)]
def Fb:=bm 110 [aD 0 0,.row 5,ab .str] (.bn [.row 8,ab .bool]) [LV,aeT,LW] [.box [.hole (aH 5),.arr 1,.hole eA,.hole ae],.arr ae] [.box [.hole (aH 5),.arr 2,.hole eA,.hole ae],.gone,.arr ae]
def aeU:=cN 0 [(4,.c (.arr 0)),(5,ab (.int .u64)),(6,ab .str)] [.arr (.nm 18)] [bS .ret [(2,.c (.aT)),(3,ab ae)],bS (.exit 0) [(4,.c (.arr 0))] [.arr (.nm 18)]] [] [(.slot 4,.nm 18)]
def Ox:=bm 154 [ab .str] (.bn [ab (aH 18),ab ae]) [aeU]
def Oz:=bm 156 [.row 18,aD 0 0] (ab .bool) [] [.bz 7] [.bz 7]
def aeV:=cN 0 [(0,ab (aH 18)),(1,.c (.fn 156 [0])),(7,ab ae),(8,ab ae)] [.bz 7] [bS .ret [(4,ab ae)] [.bz 7],bS (.exit 0) [] [.bz 7]]
def Oy:=bm 155 [ab (aH 18),.c (.fn 156 [0])] (ab ae) [aeV] [.bz 7] [.bz 7]
def Mc:=cN 0 [(1,aD 0 0),(2,aD 1 0),(20,.c (.arr 2)),(21,ab ae),(22,ab ae)] [.box [.hole ae,.hole .bool,.hole ae,.hole .str,.hole ae,.arr 2,.arr 3,.arr 4],.box [.hole ae,.hole .bool,.hole ae,.hole .str,.hole ae,.aT,.aT,.aT],.arr (.nm 8),.arr (.nm 8),.arr (.nm 9)] [bS (.exit 0) [(1,aD 0 0),(2,aD 1 0)] [.box [.hole ae,.hole .bool,.hole ae,.hole .str,.hole ae,.arr 2,.arr 3,.arr 4],.box [.hole ae,.hole .bool,.hole ae,.hole .str,.hole ae,.aT,.aT,.aT],.arr (.nm 8),.arr (.nm 8),.arr (.nm 9)]]
def Lw:=cN 1 [(1,aD 0 0),(2,aD 1 0),(35,.c (.arr 2)),(36,ab ae),(37,ab ae)] [.box [.hole ae,.hole .bool,.hole ae,.hole .str,.hole ae,.arr 3,.arr 2,.arr 4],.box [.hole ae,.hole .bool,.hole ae,.hole .str,.hole ae,.aT,.aT,.aT],.arr (.nm 8),.arr (.nm 8),.arr (.nm 9)] [bS (.exit 2) [(1,aD 0 0),(2,aD 1 0)] [.box [.hole ae,.hole .bool,.hole ae,.hole .str,.hole ae,.arr 2,.arr 3,.arr 4],.box [.hole ae,.hole .bool,.hole ae,.hole .str,.hole ae,.aT,.aT,.aT],.arr (.nm 8),.arr (.nm 8),.arr (.nm 9)]]
def zS:=bm 157 [.row 8] (.row 8) [Mc,Lw]
def Lx:=cN 0 [(0,aD 0 0),(4,aD 2 0),(6,aD 3 0),(8,ab (aH 18)),(10,aD 4 0),(39,ab (aH 7)),(40,ab ae),(41,ab ae)] [.box [.hole (aH 5),.arr 5,.hole eA,.hole ae],.gone,.bz 5,.box [.hole ae,.hole .bool,.hole ae,.hole .str,.hole ae,.aT,.aT,.aT],.box [.hole ae,.hole .bool,.hole ae,.hole .str,.hole ae,.aT,.arr 6,.aT],.arr ae,.arr (.nm 8)] [bS .ret [(6,aD 2 0),(7,ab .bool)] [.box [.hole (aH 5),.arr 3,.hole eA,.hole ae],.gone,.bz 8,.arr ae],bS (.exit 0) [(0,aD 0 0),(4,aD 2 0),(6,aD 3 0),(8,ab (aH 18)),(10,aD 4 0)] [.box [.hole (aH 5),.arr 5,.hole eA,.hole ae],.gone,.bz 5,.box [.hole ae,.hole .bool,.hole ae,.hole .str,.hole ae,.aT,.aT,.aT],.box [.hole ae,.hole .bool,.hole ae,.hole .str,.hole ae,.aT,.arr 6,.aT],.arr ae,.arr (.nm 8)]] [] [(.via 10 6,.nm 8)]
def aeW:=cN 1 [(0,aD 0 0),(4,aD 2 0),(6,aD 3 0),(10,aD 4 0),(117,ab (aH 18)),(118,ab ae),(119,ab ae)] [.box [.hole (aH 5),.arr 5,.hole eA,.hole ae],.gone,.bz 5,.box [.hole ae,.hole .bool,.hole ae,.hole .str,.hole ae,.aT,.aT,.aT],.box [.hole ae,.hole .bool,.hole ae,.hole .str,.hole ae,.aT,.arr 6,.arr 7],.arr ae,.arr (.nm 8),.arr (.nm 9)] [bS .ret [(6,aD 2 0),(7,ab .bool)] [.box [.hole (aH 5),.arr 3,.arr 4,.hole ae],.gone,.bz 8,.arr ae,.arr ae],bS (.exit 3) [(6,aD 2 0),(10,aD 3 0)] [.box [.hole (aH 5),.arr 4,.hole eA,.hole ae],.gone,.box [.hole ae,.hole .bool,.hole ae,.hole .str,.hole ae,.aT,.aT,.aT],.box [.hole ae,.hole .bool,.hole ae,.hole .str,.hole ae,.aT,.arr 5,.arr 6],.arr ae,.arr (.nm 8),.arr (.nm 9)]] [] [(.via 10 7,.nm 9)]
def Fc:=bm 111 [aD 0 0,.row 5,ab .str] (.bn [.row 8,ab .bool]) [Lx,aeW] [.box [.hole (aH 5),.arr 1,.hole eA,.hole ae],.arr ae] [.box [.hole (aH 5),.arr 2,.hole eA,.hole ae],.gone,.arr ae]
def Cz:=bm 59 [aD 0 0,ab ae,ab .str] (.bn [.row 8,ab .bool]) [] [.box [.hole (aH 5),.arr 1,.hole eA,.hole ae],.arr ae] [.box [.hole (aH 5),.arr 2,.hole eA,.hole ae],.gone,.arr ae]
def OV:=bm 22 [.row 10,ab ae,ab .str] (.bn [.row 8,.row 19,ab ae])
def zW:=bm 9 [.row 10,ab ae,ab .str] (.bn [.row 8,ab ae])
def UR:=bm 38 [.row 11,.row 11,ab .str] (ab .bool)
def Cv:=bm 17 [.row 11,.row 11,.row 16] (ab .bool)
def nF:=bm 5 [] (ab .bool)
def ax8:=bm 43 [aD 0 0,ab ae] (ab ae) [] [.box [.hole (aH 5),.hole (.slice (.int .u8)),.hole .bool]] [.box [.hole (aH 5),.hole (.slice (.int .u8)),.hole .bool]]
def agO:=cN 0 [(0,aD 0 0),(5,ab .str),(6,ab ae)] [.box [.hole (aH 5),.hole (.slice (.int .u8)),.hole .bool]] [bS (.exit 0) [(5,ab .str)] [.box [.hole (aH 5),.hole (.slice (.int .u8)),.hole .bool]]]
def ax9:=bm 44 [aD 0 0,ab ae] (ab .str) [agO] [.box [.hole (aH 5),.hole (.slice (.int .u8)),.hole .bool]] [.box [.hole (aH 5),.hole (.slice (.int .u8)),.hole .bool]]
def ax':=bm 45 [aD 0 0] (ab .bool) [] [.box [.hole (aH 5),.hole (.slice (.int .u8)),.hole .bool]] [.box [.hole (aH 5),.hole (.slice (.int .u8)),.hole .bool]]
def aeX:=cN 0 [(1,ab ae),(2,aD 0 0),(6,ab ae)] [.bz 5] [bS .ret [(4,ab ae),(5,ab .bool)],mb 0]
def axP:=bm 132 [.row 5,ab ae] (.bn [ab ae,ab .bool]) [aeX]
def aeY:=cN 0 [(1,ab ae),(2,aD 0 0),(6,ab ae)] [.bz 5] [bS .ret [(4,ab ae),(5,ab .bool)],mb 0]
def axQ:=bm 133 [.row 5,ab ae] (.bn [ab ae,ab .bool]) [aeY]
def ayk:=bm 90 [.row 5,ab ae] (ab .bool)
def agP:=cN 0 [(3,aD 1 0),(5,ab ae)] [.box [.hole (aH 5),.hole (.slice (.int .u8)),.hole .bool],.bz 5] [bS (.exit 0) [(5,ab ae)] [.box [.hole (aH 5),.hole (.slice (.int .u8)),.hole .bool]]]
def aya:=bm 46 [aD 0 0,.row 5] (ab ae) [agP] [.box [.hole (aH 5),.hole (.slice (.int .u8)),.hole .bool]] [.box [.hole (aH 5),.hole (.slice (.int .u8)),.hole .bool]]
def ayb:=bm 47 [aD 0 0,ab ae] (.row 9) [] [.box [.hole (aH 5),.hole (.slice (.int .u8)),.hole .bool]] [.box [.hole (aH 5),.hole (.slice (.int .u8)),.hole .bool]]
def axR:=bm 134 [ab .bool,ab .bool] (ab ae)
def axS:=bm 135 [ab ae] (ab (.int .u64))
def ayl:=bm 91 [.row 8,.row 8] (ab ae)
def agQ:=cN 0 [(3,aD 0 0),(4,aD 1 0),(5,aD 2 0),(6,aD 3 0),(7,ab ae)] [.bz 8,.bz 8,.bz 8,.box [.hole ae,.hole .bool,.hole ae,.hole .str,.hole ae,.aT,.aT,.aT]] [bS (.exit 0) [(3,aD 0 0),(4,aD 1 0),(5,aD 2 0),(6,aD 3 0),(7,ab ae)] [.bz 8,.bz 8,.bz 8,.box [.hole ae,.hole .bool,.hole ae,.hole .str,.hole ae,.aT,.aT,.aT]]]
def ayc:=bm 48 [.row 8,.row 8,.row 8] (.row 8) [agQ]
def I7:=cN 0 [(0,aD 0 0),(4,aD 1 0),(5,aD 2 0),(6,aD 3 0),(7,ab ae)] [.box [.hole (aH 5),.hole (.slice (.int .u8)),.hole .bool],.box [.hole ae,.hole .bool,.hole ae,.hole .str,.hole ae,.aT,.aT,.aT],.box [.hole ae,.hole .str,.hole ae,.hole ae,.hole ae,.hole (aH 6),.hole (aH 7),.hole ae,.hole ae,.hole .bool],.box [.hole ae,.hole .bool,.hole ae,.hole .str,.hole ae,.aT,.arr 4,.aT],.arr (.nm 8)] [bS (.exit 1) [(0,aD 0 0),(4,aD 1 0),(5,aD 2 0),(6,aD 3 0)] [.box [.hole (aH 5),.hole (.slice (.int .u8)),.hole .bool],.box [.hole ae,.hole .bool,.hole ae,.hole .str,.hole ae,.aT,.aT,.aT],.box [.hole ae,.hole .str,.hole ae,.hole ae,.hole ae,.hole (aH 6),.hole (aH 7),.hole ae,.hole ae,.hole .bool],.box [.hole ae,.hole .bool,.hole ae,.hole .str,.hole ae,.aT,.arr 4,.aT],.arr (.nm 8)]] [] [(.via 6 6,.nm 8)]
def I8:=cN 1 [(0,aD 0 0),(4,aD 1 0),(5,aD 2 0),(6,aD 3 0),(9,ab ae)] [.box [.hole (aH 5),.hole (.slice (.int .u8)),.hole .bool],.box [.hole ae,.hole .bool,.hole ae,.hole .str,.hole ae,.aT,.aT,.aT],.box [.hole ae,.hole .str,.hole ae,.hole ae,.hole ae,.hole (aH 6),.hole (aH 7),.hole ae,.hole ae,.hole .bool],.box [.hole ae,.hole .bool,.hole ae,.hole .str,.hole ae,.aT,.arr 4,.aT],.arr (.nm 8)] [bS (.exit 3) [(4,aD 1 0),(6,aD 2 0)] [.box [.hole (aH 5),.hole (.slice (.int .u8)),.hole .bool],.box [.hole ae,.hole .bool,.hole ae,.hole .str,.hole ae,.aT,.aT,.aT],.box [.hole ae,.hole .bool,.hole ae,.hole .str,.hole ae,.aT,.arr 3,.aT],.arr (.nm 8)]] [] [(.via 6 6,.nm 8)]
def I9:=cN 2 [(0,aD 0 0),(4,aD 1 0),(5,aD 2 0),(6,aD 3 0),(10,ab ae)] [.box [.hole (aH 5),.hole (.slice (.int .u8)),.hole .bool],.box [.hole ae,.hole .bool,.hole ae,.hole .str,.hole ae,.aT,.aT,.aT],.box [.hole ae,.hole .str,.hole ae,.hole ae,.hole ae,.hole (aH 6),.hole (aH 7),.hole ae,.hole ae,.hole .bool],.box [.hole ae,.hole .bool,.hole ae,.hole .str,.hole ae,.hole (aH 8),.hole (aH 8),.hole (aH 9)]] [bS (.exit 5) [(4,aD 1 0),(6,aD 2 0)] [.box [.hole (aH 5),.hole (.slice (.int .u8)),.hole .bool],.box [.hole ae,.hole .bool,.hole ae,.hole .str,.hole ae,.aT,.aT,.aT],.box [.hole ae,.hole .bool,.hole ae,.hole .str,.hole ae,.hole (aH 8),.hole (aH 8),.hole (aH 9)]]]
def Cw:=bm 19 [aD 0 0,ab ae] (.row 8) [I7,I8,I9] [.box [.hole (aH 5),.hole (.slice (.int .u8)),.hole .bool]] [.box [.hole (aH 5),.hole (.slice (.int .u8)),.hole .bool]]
def Jd:=bm 7 [.row 10,ab ae,ab (.slice (.int .u8))] (.row 8)
def axL:=bm 112 [.row 11] (ab ae)
def agV:=cN 0 [(6,ab (aH 11)),(7,ab ae),(8,ab ae)] [] [j6 2 ae,mb 0]
def ayd:=bm 60 [ab (aH 11)] (ab ae) [agV]
def axV:=bm 214 [.row 10,ab ae] (ab ae)
def axU:=bm 158 [.row 10,ab ae,.row 8] (ab ae)
def axW:=bm 215 [.row 5,.row 8] (ab .bool)
def ax0:=bm 244 [.row 8,aD 0 0,aD 1 0] (ab .bool) [] [dm (aH 5),.bz 5] [dm (aH 5),.bz 5]
def adt:=cN 0 [(0,ab (aH 8)),(1,.c (.fn 244 [0,1])),(7,ab ae),(8,ab ae)] [dm (aH 5),.bz 5] [bS .ret [(4,ab ae)] [dm (aH 5),.bz 5],bS (.exit 0) [] [dm (aH 5),.bz 5]]
def awv:=bm 237 [ab (aH 8),.c (.fn 244 [0,1])] (ab ae) [adt] [dm (aH 5),.bz 5] [dm (aH 5),.bz 5]
def aww:=bm 189 [ab (aH 8),.c (.fn 244 [0,1])] (ab .bool) [] [dm (aH 5),.bz 5] [dm (aH 5),.bz 5]
def axX:=bm 216 [.row 10,.row 5,.row 8] (ab .bool)
def aeZ:=cN 0 [(2,aD 0 0),(3,aD 1 0),(5,.c (.arr 2)),(11,ab ae),(12,ab ae)] [.bz 5,.bz 8,.arr (.nm 20)] [bS (.exit 0) [(5,.c (.arr 0))] [.arr (.nm 20)]] [] [(.slot 5,.nm 20)]
def axY:=bm 217 [.row 5,.row 8] (ab (aH 20)) [aeZ]
def Ly:=cN 0 [(3,aD 0 0),(5,aD 1 0),(6,aD 2 0),(9,aD 3 0),(49,ab (aH 20)),(50,ab ae),(51,ab ae)] [dm (aH 5),.bz 8,.box [.hole ae,.hole .bool,.hole ae,.hole .str,.hole ae,.aT,.aT,.aT],.box [.hole ae,.hole .bool,.hole ae,.hole .str,.hole ae,.arr 4,.arr 5,.aT],.arr (.nm 8),.arr (.nm 8)] [bS .ret [(6,aD 0 0),(7,ab .bool)] [.box [.hole ae,.hole .bool,.hole ae,.hole .str,.hole ae,.aT,.aT,.aT]],bS (.exit 0) [(6,aD 0 0),(9,aD 1 0)] [.box [.hole ae,.hole .bool,.hole ae,.hole .str,.hole ae,.aT,.aT,.aT],.box [.hole ae,.hole .bool,.hole ae,.hole .str,.hole ae,.arr 2,.arr 3,.aT],.arr (.nm 8),.arr (.nm 8)]] [] [(.via 9 6,.nm 8)]
def OA:=bm 159 [.row 10,ab ae,.row 8] (.bn [.row 8,ab .bool]) [Ly]
def axM:=bm 113 [.row 10,ab ae,.row 8] (.bn [.row 8,ab ae])
def aye:=bm 61 [.row 11,.row 11,ab .str] (.bn [.row 21,ab ae])
def axZ:=bm 23 [.row 11,.row 11,ab .str] (.bn [.row 21,ab ae])
def Uy:=bm 10 [.row 11,.row 11,ab .str] (.bn [ab .str,ab ae])
def axK:=bm 11 [.row 10,ab ae,.row 8,.row 10,ab ae,.row 8] (ab .bool)
def Jb:=cN 0 [(0,ab (aH 8)),(1,ab (aH 8)),(5,ab ae)] [] [j6 4 .bool,mb 0]
def US:=bm 66 [ab (aH 8),ab (aH 8)] (ab .bool) [Jb]
def agH:=cN 0 [(2,aD 0 0),(3,aD 1 0),(5,ab ae)] [.bz 8,.bz 8] [j6 4 .bool,bS (.exit 0) [(2,aD 0 0),(3,aD 1 0)] [.bz 8,.bz 8]]
def O4:=bm 26 [.row 8,.row 8] (ab .bool) [agH]
def Fh:=bm 12 [.row 8,.row 8] (ab .bool)
def e7:=bm 3 [.row 0,ab (.slice (.int .u8))] (ab .bool)
def aDd:List eZ:=[Tu,Ph,Oq,OO,Pg,Fm,Cx,OQ,OP,Oo,OK,OL,Ol,OM,Om,ON,On,N5,N6,Pe]
def aDe:List eZ:=[OF,Oe,Ou,Ot,Oa,Of,Oj,Oi,Ps,Fj,Hb,Hc,Fi,Pa,OY,OG,Oh,Pq,OZ,OI]
def aDf:List eZ:=[OH,Og,xV,Pj,O2,OW,O3,OX,OD,zR,Pk,O5,Od,Fp,Pl,Pm,Ob,Pf,Oc,OB]
def aDg:List eZ:=[zT,zU,Fo,Cy,OC,Pr,Pc,Pp,OT,OU,O8,O9,OJ,O',Po,Pb,Pd,Fk,Fl,vW]
def aDh:List eZ:=[e8,vV,Fe,Ff,Fg,CA,O0,Pn,O6,O7,OE,o0,UT,UE,UL,zV,UN,UM,UK,UJ]
def aDi:List eZ:=[UF,UG,xU,Uz,sq,UI,UB,UH,UA,UU,UO,UP,Cu,UX,UC,UW,UQ,Je,aay,Jf]
def aDj:List eZ:=[Jg,Jh,Ji,UD,Jj,N7,N8,N9,uQ,O1,OR,Ov,E',OS,Ow,Fa,Fb,Ox,Oz,Oy]
def aDk:List eZ:=[zS,Fc,Cz,OV,zW,UR,Cv,nF]
def ku:List eZ:=aDd++aDe++aDf++aDg++aDh++aDi++aDj++aDk
theorem uS:ku.all (ze prog)=true:=by kernel_rfl
def tc:cY cm:={X' with F:=Tp (α:=cm.D 13) sN}
theorem x':fJ prog tc:=⟨Ya.1,λh r ai=>Ya.2 h r (ab1 XZ _ r ai)⟩
def td:cY cm:={Yb with F:=Tp (α:=cm.D 12) xg}
theorem ya:fJ prog td:=⟨amb.1,λh r ai=>amb.2 h r (ab1 X0 _ r ai)⟩
noncomputable def Kr:cY cm:=agM.s (SV (fk prog ku [r6,r7,r8,tc,sa,td] 3000 Fp))
theorem alw:fJ prog Kr:=ab7 (.run (e:=Fp) uS (.k tm (.k tn (.k uC (.k x' (.k we (.k ya .n)))))) (.m (by kernel_rfl)) 3000 λ_=>rfl)
noncomputable def Ks:cY cm:=agL.s (Xt (fk prog ku [r6,r7,r8,tc,sa,td] 3000 Je) (fk prog ku [r6,r7,r8,tc,sa,td] 3000 Jf) (fk prog ku [r6,r7,r8,tc,sa,td] 3000 Jg) (fk prog ku [r6,r7,r8,tc,sa,td] 3000 Jh) (fk prog ku [r6,r7,r8,tc,sa,td] 3000 Ji) (fk prog ku [r6,r7,r8,tc,sa,td] 3000 Jj))
theorem alx:fJ prog Ks:=afg (.run uS (.k tm (.k tn (.k uC (.k x' (.k we (.k ya .n)))))) (.m (by kernel_rfl)) 3000 λ_=>rfl) (.run uS (.k tm (.k tn (.k uC (.k x' (.k we (.k ya .n)))))) (.m (by kernel_rfl)) 3000 λ_=>rfl) (.run uS (.k tm (.k tn (.k uC (.k x' (.k we (.k ya .n)))))) (.m (by kernel_rfl)) 3000 λ_=>rfl) (.run uS (.k tm (.k tn (.k uC (.k x' (.k we (.k ya .n)))))) (.m (by kernel_rfl)) 3000 λ_=>rfl) (.run uS (.k tm (.k tn (.k uC (.k x' (.k we (.k ya .n)))))) (.m (by kernel_rfl)) 3000 λ_=>rfl) (.run uS (.k tm (.k tn (.k uC (.k x' (.k we (.k ya .n)))))) (.m (by kernel_rfl)) 3000 λ_=>rfl)
def qx(l:List Bool):Option (cG):=
 if decide (0<(l.length:Int))=true then if bd 0 l.length=true then some (⟨(⟨[(⟨5,[82],0,0,0,[],[(⟨1,[120],1,false,true,(⟨1,l.getD (0:Int).toNat false,0,[],0,[],[],[]⟩:ad)⟩:bj)],0,0,false⟩:au),(⟨1,[],0,0,0,[],[],0,0,false⟩:au)]⟩:bY),0⟩:cG)
  else none
 else some (⟨(⟨[(⟨5,[82],0,0,0,[],[(⟨1,[120],1,false,false,(⟨0,false,0,[],0,[],[],[]⟩:ad)⟩:bj)],0,0,false⟩:au),(⟨1,[],0,0,0,[],[],0,0,false⟩:au)]⟩:bY),0⟩:cG)
theorem aoH:bU Oq qx:= .ca
noncomputable def XB:cG×cG->Option (oZ×Int):=fk prog ku [Ks,Kr,r6,r7,r8,tc,sa,td] 3000 Cu
noncomputable def Ys:cG×cG×oZ->Option (Bool):=fk prog ku [Ks,Kr,r6,r7,r8,tc,sa,td] 3000 Cv
noncomputable def Aj:cG×cG->Option (Bool×Int):=fk prog ku [Ks,Kr,r6,r7,r8,tc,sa,td] 3000 o0
theorem aou:bU o0 Aj:= .run uS (.k alx (.k alw (.k tm (.k tn (.k uC (.k x' (.k we (.k ya .n)))))))) (.m (by kernel_rfl)) 3000 λ_=>rfl
def XN(XB:cG×cG->Option (oZ×Int))(Ys:cG×cG×oZ->Option (Bool))(Aj:cG×cG->Option (Bool×Int)):Option (Bool):=
 some [(⟨5,[82],0,0,0,[],[],0,0,false⟩:au)]>>=λt13=>qx [false]>>=λr=>Aj ((⟨(⟨t13⟩:bY),0⟩:cG),r)>>=λbT=>qx [true]>>=λez=>Aj (ez,(⟨(⟨t13⟩:bY),0⟩:cG))>>=λhq=>qx [true]>>=λqP=>qx [false]>>=λtP=>Aj (qP,tP)>>=λfB=>qx [true]>>=λg'=>
 qx [false]>>=λlN=>XB (g',lN)>>=λmI=>qx []>>=λvk=>qx [true]>>=λtN=>XB (vk,tN)>>=λjv=>some (bif bif bif bif bif bif bif bif bif decide (bT.2=0)then decide (hq.2=0)else false then decide (fB.2=0)else false then decide (mI.2=0)else false then decide (jv.2=0)else false then bT.1 else false then hq.1 else false then(!fB.1)else false then decide (mI.1.Message=[])else false then(!mI.1.Nv)else false)>>=λt90=>(if t90=true then qx [true]else some Bb)>>=λME=>(if t90=true then qx [false]else some Bb)>>=λvl=>(if t90=true then Ys (ME,vl,mI.1)else some false)>>=λnq=>some (bif bif t90 then nq else false then jv.1.Nv else false)>>=λt102=>(if t102=true then qx []else some Bb)>>=λaCu=>(if t102=true then qx [true]else some Bb)>>=λXm=>(if t102=true then Ys (aCu,Xm,jv.1)else some false)>>=λp6=>some (bif t102 then p6 else false)
theorem aog{ub:cG×cG->Option (oZ×Int)}{ED:cG×cG×oZ->Option (Bool)}{xt:cG×cG->Option (Bool×Int)}(av:bU Cu ub)(ay:bU Cv ED)(hs:bU o0 xt):bU nF (λ_=>XN ub ED xt):= .ca (.k aoH (.k hs (.k av (.k ay .n))))
end
end Go.Proofs.YtklfhpkljddjbaaGreatDoor
