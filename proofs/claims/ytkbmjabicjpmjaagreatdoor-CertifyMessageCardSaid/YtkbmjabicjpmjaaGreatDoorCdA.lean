/- The functions of the program as functions of Lean, that its code does what they say, and what they answer; part A. -/
import Derived.Test.YtkbmjabicjpmjaaGreatDoorProg
import Derived.KernelRfl
import Derived.Shelf.SlGeneric
import Derived.Shelf.SlLaysF0
import Derived.Shelf.SlSortCmp.WholeK
import Derived.Lib.Small
import Derived.Test.YtkbmjabicjpmjaaGreatDoorCdLD

namespace Go.Proofs.YtkbmjabicjpmjaaGreatDoor
set_option linter.all false
section
open Go Go.Proofs.YtkbmjabicjpmjaaGreatDoor.Shv
open Tryz
set_option maxRecDepth 100000
structure mq where
 ah:Int
 aC:Int
 hV:Int
structure dV where
 ae:Int
 A:Int
 B:Int
 C:Int
 dp:List mq
structure eN where
 eR:List dV
structure lJ where
 ae:Int
 Node:Int
 A:Int
 B:Int
structure nu where
 S:eN
 L:List lJ
 T:Int
 U:Int
structure bD where
 c8:Int
 cO:Int
structure de where
 ah:Int
 aR:au
structure ct where
 ah:Int
 b5:au
structure ab where
 ae:Int
 cp:Bool
 bF:Int
 bW:au
 ah:Int
 a':List ab
 aw:List ab
 a6:List ct
structure aT where
 ah:Int
 aR:au
 aC:Int
 bV:Bool
 bO:Bool
 bC:ab
structure aj where
 ae:Int
 aR:au
 bA:Int
 bI:Int
 Max:Int
 bf:List de
 af:List aT
 aS:Int
 aE:Int
 bt:Bool
structure aY where
 bk:List aj
structure dJ where
 ik:aY
 aC:Int
structure jh where
 w:dJ
 r:dJ
structure hn where
 id:Int
 text:au
structure da where
 ah:Int
 bV:Bool
 b5:au
structure jw where
 fy:az
 CD:Int
structure lh where
 NX:Bool
 Ua:List bD
 T':au
structure ej where
 b6:ab
 fy:az
 cD:Bool
structure dd where
 b6:ab
 er:jw
 cD:Bool
structure rP where
 S:eN
 T:Int
 C:az
structure wO where
 D:rP
 L:List lJ
abbrev Iv:Nat:=0
abbrev Ei:Nat:=2
abbrev LR:Nat:=3
abbrev LG:Nat:=4
def jt:mq:=⟨0,0,0⟩
def bK:dV:=⟨0,0,0,0,[]⟩
def Iw:eN:=⟨[]⟩
def oA:lJ:=⟨0,0,0,0⟩
def aaY:nu:=⟨Iw,[],0,0⟩
def ey:bD:=⟨0,0⟩
def ek:de:=⟨0,[]⟩
def cq:ct:=⟨0,[]⟩
def aI:ab:=⟨0,false,0,[],0,[],[],[]⟩
def aF:aT:=⟨0,[],0,false,false,aI⟩
def aM:aj:=⟨0,[],0,0,0,[],[],0,0,false⟩
def QA:aY:=⟨[]⟩
def K9:dJ:=⟨QA,0⟩
def abE:jh:=⟨K9,K9⟩
def wY:hn:=⟨0,[]⟩
def dP:da:=⟨0,false,[]⟩
def PC:jw:=⟨[],0⟩
def aeO:lh:=⟨false,[],[]⟩
def Zz:ej:=⟨aI,[],false⟩
def ZA:dd:=⟨aI,PC,false⟩
def LS:rP:=⟨Iw,0,[]⟩
def aaZ:wO:=⟨LS,[]⟩
def gH:Nat->Type
 |0=>nu
 |1=>eN
 |2=>dV
 |3=>mq
 |4=>lJ
 |5=>bD
 |6=>aj
 |7=>de
 |8=>aT
 |9=>ab
 |10=>ct
 |11=>aY
 |12=>dJ
 |13=>jh
 |14=>hn
 |15=>da
 |16=>jw
 |17=>lh
 |18=>ej
 |19=>dd
 |20=>wO
 |21=>rP
 |_=>J
def hU:Nat->I aO
 |0=>[.slice (.nm 2),.slice (.nm 4),.int .u8,.int .u8]
 |1=>[.slice (.nm 2)]
 |2=>[.int .u8,.int .u8,.int .u8,.int .u8,.slice (.nm 3)]
 |3=>[.int .u8,.int .u8,.int .u8]
 |4=>[.int .u8,.int .u8,.int .u8,.int .u8]
 |5=>[.int .i64,.int .i64]
 |6=>[.int .i64,.str,.int .i64,.int .i64,.int .i64,.slice (.nm 7),.slice (.nm 8),.int .i64,.int .i64,.bool]
 |7=>[.int .i64,.str]
 |8=>[.int .i64,.str,.int .i64,.bool,.bool,.int .i64,.bool,.int .i64,.str,.int .i64,.slice (.nm 9),.slice (.nm 9),.slice (.nm 10)]
 |9=>[.int .i64,.bool,.int .i64,.str,.int .i64,.slice (.nm 9),.slice (.nm 9),.slice (.nm 10)]
 |10=>[.int .i64,.str]
 |11=>[.slice (.nm 6)]
 |12=>[.slice (.nm 6),.int .i64]
 |13=>[.slice (.nm 6),.int .i64,.slice (.nm 6),.int .i64]
 |14=>[.int .i64,.str]
 |15=>[.int .i64,.bool,.str]
 |16=>[.slice (.int .i64),.int .i64]
 |17=>[.bool,.slice (.nm 5),.str]
 |18=>[.int .i64,.bool,.int .i64,.str,.int .i64,.slice (.nm 9),.slice (.nm 9),.slice (.nm 10),.slice (.int .i64),.bool]
 |19=>[.int .i64,.bool,.int .i64,.str,.int .i64,.slice (.nm 9),.slice (.nm 9),.slice (.nm 10),.slice (.int .i64),.int .i64,.bool]
 |20=>[.slice (.nm 2),.int .u8,.slice (.int .u8),.slice (.nm 4)]
 |21=>[.slice (.nm 2),.int .u8,.slice (.int .u8)]
 |_=>[.bool]
def alN:(n:Nat)->gH n->I (bZ gH)
 |0,(x:nu)=>[⟨.slice (.nm 2),x.S.eR⟩,⟨.slice (.nm 4),x.L⟩,⟨.int .u8,x.T⟩,⟨.int .u8,x.U⟩]
 |1,(x:eN)=>[⟨.slice (.nm 2),x.eR⟩]
 |2,(x:dV)=>[⟨.int .u8,x.ae⟩,⟨.int .u8,x.A⟩,⟨.int .u8,x.B⟩,⟨.int .u8,x.C⟩,⟨.slice (.nm 3),x.dp⟩]
 |3,(x:mq)=>[⟨.int .u8,x.ah⟩,⟨.int .u8,x.aC⟩,⟨.int .u8,x.hV⟩]
 |4,(x:lJ)=>[⟨.int .u8,x.ae⟩,⟨.int .u8,x.Node⟩,⟨.int .u8,x.A⟩,⟨.int .u8,x.B⟩]
 |5,(x:bD)=>[⟨.int .i64,x.c8⟩,⟨.int .i64,x.cO⟩]
 |6,(x:aj)=>[⟨.int .i64,x.ae⟩,⟨.str,x.aR⟩,⟨.int .i64,x.bA⟩,⟨.int .i64,x.bI⟩,⟨.int .i64,x.Max⟩,⟨.slice (.nm 7),x.bf⟩,⟨.slice (.nm 8),x.af⟩,⟨.int .i64,x.aS⟩,⟨.int .i64,x.aE⟩,⟨.bool,x.bt⟩]
 |7,(x:de)=>[⟨.int .i64,x.ah⟩,⟨.str,x.aR⟩]
 |8,(x:aT)=>[⟨.int .i64,x.ah⟩,⟨.str,x.aR⟩,⟨.int .i64,x.aC⟩,⟨.bool,x.bV⟩,⟨.bool,x.bO⟩,⟨.int .i64,x.bC.ae⟩,⟨.bool,x.bC.cp⟩,⟨.int .i64,x.bC.bF⟩,⟨.str,x.bC.bW⟩,⟨.int .i64,x.bC.ah⟩,⟨.slice (.nm 9),x.bC.a'⟩,⟨.slice (.nm 9),x.bC.aw⟩,⟨.slice (.nm 10),x.bC.a6⟩]
 |9,(x:ab)=>[⟨.int .i64,x.ae⟩,⟨.bool,x.cp⟩,⟨.int .i64,x.bF⟩,⟨.str,x.bW⟩,⟨.int .i64,x.ah⟩,⟨.slice (.nm 9),x.a'⟩,⟨.slice (.nm 9),x.aw⟩,⟨.slice (.nm 10),x.a6⟩]
 |10,(x:ct)=>[⟨.int .i64,x.ah⟩,⟨.str,x.b5⟩]
 |11,(x:aY)=>[⟨.slice (.nm 6),x.bk⟩]
 |12,(x:dJ)=>[⟨.slice (.nm 6),x.ik.bk⟩,⟨.int .i64,x.aC⟩]
 |13,(x:jh)=>[⟨.slice (.nm 6),x.w.ik.bk⟩,⟨.int .i64,x.w.aC⟩,⟨.slice (.nm 6),x.r.ik.bk⟩,⟨.int .i64,x.r.aC⟩]
 |14,(x:hn)=>[⟨.int .i64,x.id⟩,⟨.str,x.text⟩]
 |15,(x:da)=>[⟨.int .i64,x.ah⟩,⟨.bool,x.bV⟩,⟨.str,x.b5⟩]
 |16,(x:jw)=>[⟨.slice (.int .i64),x.fy⟩,⟨.int .i64,x.CD⟩]
 |17,(x:lh)=>[⟨.bool,x.NX⟩,⟨.slice (.nm 5),x.Ua⟩,⟨.str,x.T'⟩]
 |18,(x:ej)=>[⟨.int .i64,x.b6.ae⟩,⟨.bool,x.b6.cp⟩,⟨.int .i64,x.b6.bF⟩,⟨.str,x.b6.bW⟩,⟨.int .i64,x.b6.ah⟩,⟨.slice (.nm 9),x.b6.a'⟩,⟨.slice (.nm 9),x.b6.aw⟩,⟨.slice (.nm 10),x.b6.a6⟩,⟨.slice (.int .i64),x.fy⟩,⟨.bool,x.cD⟩]
 |19,(x:dd)=>[⟨.int .i64,x.b6.ae⟩,⟨.bool,x.b6.cp⟩,⟨.int .i64,x.b6.bF⟩,⟨.str,x.b6.bW⟩,⟨.int .i64,x.b6.ah⟩,⟨.slice (.nm 9),x.b6.a'⟩,⟨.slice (.nm 9),x.b6.aw⟩,⟨.slice (.nm 10),x.b6.a6⟩,⟨.slice (.int .i64),x.er.fy⟩,⟨.int .i64,x.er.CD⟩,⟨.bool,x.cD⟩]
 |20,(x:wO)=>[⟨.slice (.nm 2),x.D.S.eR⟩,⟨.int .u8,x.D.T⟩,⟨.slice (.int .u8),x.D.C⟩,⟨.slice (.nm 4),x.L⟩]
 |21,(x:rP)=>[⟨.slice (.nm 2),x.S.eR⟩,⟨.int .u8,x.T⟩,⟨.slice (.int .u8),x.C⟩]
 |_+22,(x:J)=>[⟨.bool,x⟩]
def WO:(n:Nat)->I (bZ gH)->ai (gH n)
 |0,l=>(a8.dec gH (hU 0) l).map λ(a0,a1,a2,a3)=>(⟨(⟨a0⟩:eN),a1,a2,a3⟩:nu)
 |1,l=>(a8.dec gH (hU 1) l).map λh=>(⟨h⟩:eN)
 |2,l=>(a8.dec gH (hU 2) l).map λ(a0,a1,a2,a3,a4)=>(⟨a0,a1,a2,a3,a4⟩:dV)
 |3,l=>(a8.dec gH (hU 3) l).map λ(a0,a1,a2)=>(⟨a0,a1,a2⟩:mq)
 |4,l=>(a8.dec gH (hU 4) l).map λ(a0,a1,a2,a3)=>(⟨a0,a1,a2,a3⟩:lJ)
 |5,l=>(a8.dec gH (hU 5) l).map λ(a0,a1)=>(⟨a0,a1⟩:bD)
 |6,l=>(a8.dec gH (hU 6) l).map λ(a0,a1,a2,a3,a4,a5,a,b,c,a9)=>(⟨a0,a1,a2,a3,a4,a5,a,b,c,a9⟩:aj)
 |7,l=>(a8.dec gH (hU 7) l).map λ(a0,a1)=>(⟨a0,a1⟩:de)
 |8,l=>(a8.dec gH (hU 8) l).map λ(a0,a1,a2,a3,a4,a5,a,b,c,a9,d,e,f)=>(⟨a0,a1,a2,a3,a4,(⟨a5,a,b,c,a9,d,e,f⟩:ab)⟩:aT)
 |9,l=>(a8.dec gH (hU 9) l).map λ(a0,a1,a2,a3,a4,a5,a,b)=>(⟨a0,a1,a2,a3,a4,a5,a,b⟩:ab)
 |10,l=>(a8.dec gH (hU 10) l).map λ(a0,a1)=>(⟨a0,a1⟩:ct)
 |11,l=>(a8.dec gH (hU 11) l).map λh=>(⟨h⟩:aY)
 |12,l=>(a8.dec gH (hU 12) l).map λ(a0,a1)=>(⟨(⟨a0⟩:aY),a1⟩:dJ)
 |13,l=>(a8.dec gH (hU 13) l).map λ(a0,a1,a2,a3)=>(⟨(⟨(⟨a0⟩:aY),a1⟩:dJ),(⟨(⟨a2⟩:aY),a3⟩:dJ)⟩:jh)
 |14,l=>(a8.dec gH (hU 14) l).map λ(a0,a1)=>(⟨a0,a1⟩:hn)
 |15,l=>(a8.dec gH (hU 15) l).map λ(a0,a1,a2)=>(⟨a0,a1,a2⟩:da)
 |16,l=>(a8.dec gH (hU 16) l).map λ(a0,a1)=>(⟨a0,a1⟩:jw)
 |17,l=>(a8.dec gH (hU 17) l).map λ(a0,a1,a2)=>(⟨a0,a1,a2⟩:lh)
 |18,l=>(a8.dec gH (hU 18) l).map λ(a0,a1,a2,a3,a4,a5,a,b,c,a9)=>(⟨(⟨a0,a1,a2,a3,a4,a5,a,b⟩:ab),c,a9⟩:ej)
 |19,l=>(a8.dec gH (hU 19) l).map λ(a0,a1,a2,a3,a4,a5,a,b,c,a9,d)=>(⟨(⟨a0,a1,a2,a3,a4,a5,a,b⟩:ab),(⟨c,a9⟩:jw),d⟩:dd)
 |20,l=>(a8.dec gH (hU 20) l).map λ(a0,a1,a2,a3)=>(⟨(⟨(⟨a0⟩:eN),a1,a2⟩:rP),a3⟩:wO)
 |21,l=>(a8.dec gH (hU 21) l).map λ(a0,a1,a2)=>(⟨(⟨a0⟩:eN),a1,a2⟩:rP)
 |_+22,l=>(a8.dec gH [.bool] l).map λ(h:J)=>h
def VU(x:mq):I T:=[.int .u8 x.ah,.int .u8 x.aC,.int .u8 x.hV]
def y5(x:dV):I T:=[.int .u8 x.ae,.int .u8 x.A,.int .u8 x.B,.int .u8 x.C,.slice (x.dp.map VU)]
def akk(x:eN):I T:=[.slice (x.eR.map y5)]
def G5(x:lJ):I T:=[.int .u8 x.ae,.int .u8 x.Node,.int .u8 x.A,.int .u8 x.B]
def akp(x:nu):I T:=[.slice (x.S.eR.map y5),.slice (x.L.map G5),.int .u8 x.T,.int .u8 x.U]
def VR(x:bD):I T:=[.int .i64 x.c8,.int .i64 x.cO]
def VT(x:de):I T:=[.int .i64 x.ah,.str x.aR]
def wj(x:ct):I T:=[.int .i64 x.ah,.str x.b5]
def ab.eta(x:ab):ab:=⟨x.ae,x.cp,x.bF,x.bW,x.ah,x.a',x.aw,x.a6⟩
theorem ab.bN(x:ab):x.eta=x:=by cases x;rfl
mutual
def lT:ab->I T
 |⟨a0,a1,a2,a3,a4,a5,a,c⟩=>[.int .i64 a0,.bool a1,.int .i64 a2,.str a3,.int .i64 a4,.slice (y4 a5),.slice (y4 a),.slice (c.map wj)]
def y4:I ab->I (I T)
 |[]=>[]
 |v::r=>lT v::y4 r
end
theorem MB:∀l,y4 l=l.map lT
 |[]=>rfl
 |v::r=>by simp only[y4,List.map];rw[MB r]
theorem ac6(x:ab):lT x=[.int .i64 x.ae,.bool x.cp,.int .i64 x.bF,.str x.bW,.int .i64 x.ah,.slice (x.a'.map lT),.slice (x.aw.map lT),.slice (x.a6.map wj)]:=by cases x;simp only[lT,MB]
def VS(x:aT):I T:=[.int .i64 x.ah,.str x.aR,.int .i64 x.aC,.bool x.bV,.bool x.bO,.int .i64 x.bC.ae,.bool x.bC.cp,.int .i64 x.bC.bF,.str x.bC.bW,.int .i64 x.bC.ah,.slice (x.bC.a'.map lT),.slice (x.bC.aw.map lT),.slice (x.bC.a6.map wj)]
def y3(x:aj):I T:=[.int .i64 x.ae,.str x.aR,.int .i64 x.bA,.int .i64 x.bI,.int .i64 x.Max,.slice (x.bf.map VT),.slice (x.af.map VS),.int .i64 x.aS,.int .i64 x.aE,.bool x.bt]
def aki(x:aY):I T:=[.slice (x.bk.map y3)]
def akh(x:dJ):I T:=[.slice (x.ik.bk.map y3),.int .i64 x.aC]
def akd(x:jh):I T:=[.slice (x.w.ik.bk.map y3),.int .i64 x.w.aC,.slice (x.r.ik.bk.map y3),.int .i64 x.r.aC]
def ake(x:hn):I T:=[.int .i64 x.id,.str x.text]
def akg(x:da):I T:=[.int .i64 x.ah,.bool x.bV,.str x.b5]
def akf(x:jw):I T:=[.slice (x.fy.map (λy=>[.int .i64 y])),.int .i64 x.CD]
def akj(x:lh):I T:=[.bool x.NX,.slice (x.Ua.map VR),.str x.T']
def ako(x:ej):I T:=[.int .i64 x.b6.ae,.bool x.b6.cp,.int .i64 x.b6.bF,.str x.b6.bW,.int .i64 x.b6.ah,.slice (x.b6.a'.map lT),.slice (x.b6.aw.map lT),.slice (x.b6.a6.map wj),.slice (x.fy.map (λy=>[.int .i64 y])),.bool x.cD]
def akm(x:dd):I T:=[.int .i64 x.b6.ae,.bool x.b6.cp,.int .i64 x.b6.bF,.str x.b6.bW,.int .i64 x.b6.ah,.slice (x.b6.a'.map lT),.slice (x.b6.aw.map lT),.slice (x.b6.a6.map wj),.slice (x.er.fy.map (λy=>[.int .i64 y])),.int .i64 x.er.CD,.bool x.cD]
def akl(x:rP):I T:=[.slice (x.S.eR.map y5),.int .u8 x.T,.slice (x.C.map (λy=>[.int .u8 y]))]
def akn(x:wO):I T:=[.slice (x.D.S.eR.map y5),.int .u8 x.D.T,.slice (x.D.C.map (λy=>[.int .u8 y])),.slice (x.L.map G5)]
def alM:(n:Nat)->gH n->I T
 |0,x=>akp x
 |1,x=>akk x
 |2,x=>y5 x
 |3,x=>VU x
 |4,x=>G5 x
 |5,x=>VR x
 |6,x=>y3 x
 |7,x=>VT x
 |8,x=>VS x
 |9,x=>lT x
 |10,x=>wj x
 |11,x=>aki x
 |12,x=>akh x
 |13,x=>akd x
 |14,x=>ake x
 |15,x=>akg x
 |16,x=>akf x
 |17,x=>akj x
 |18,x=>ako x
 |19,x=>akm x
 |20,x=>akn x
 |21,x=>akl x
 |_+22,(x:J)=>[.bool x]
def cP:c0 where
 D:=gH
 kH:=λn=>match n with
  |0=>aaY
  |1=>Iw
  |2=>bK
  |3=>jt
  |4=>oA
  |5=>ey
  |6=>aM
  |7=>ek
  |8=>aF
  |9=>aI
  |10=>cq
  |11=>QA
  |12=>K9
  |13=>abE
  |14=>wY
  |15=>dP
  |16=>PC
  |17=>aeO
  |18=>Zz
  |19=>ZA
  |20=>aaZ
  |21=>LS
  |_+22=>false
 wu:=alN
 make:=WO
 dR:=hU
 enc:=alM
 VW:=λn x=>match n,x with
  |0,_|1,_|2,_|3,_|4,_|5,_|6,_|7,_|8,_|10,_|11,_|12,_|13,_|14,_|15,_|16,_|17,_|18,_|19,_|20,_|21,_=>rfl
  |9,x=>ac6 x
  |_+22,_=>rfl
 mk_eq:=λn l x h=>match n,x,h with
  |0,x,h|1,x,h|2,x,h|3,x,h|4,x,h|5,x,h|6,x,h|7,x,h|8,x,h|9,x,h|10,x,h|11,x,h|12,x,h|13,x,h|14,x,h|15,x,h|16,x,h|17,x,h|18,x,h|19,x,h|20,x,h|21,x,h=>by
   obtain⟨_,a,rfl⟩:=o8.1 h;exact a8.nh a
  |_+22,x,h=>by
   obtain⟨_,a,rfl⟩:=o8.1 h;exact a8.nh a
 WN:=λn x=>match n,x with
  |0,_|1,_|2,_|3,_|4,_|5,_|6,_|7,_|8,_|9,_|10,_|11,_|12,_|13,_|14,_|15,_|16,_|17,_|18,_|19,_|20,_|21,_=>rfl
  |_+22,_=>rfl
 WM:=λe=>match e with
  |3=>some (.int .i64)
  |4=>some .bool
  |5=>some (.int .u8)
  |9=>some .str
  |39=>some (.nm 5)
  |62=>some (.nm 9)
  |112=>some (.nm 6)
  |141=>some (.nm 7)
  |148=>some (.nm 3)
  |162=>some (.nm 8)
  |188=>some (.nm 10)
  |239=>some (.nm 15)
  |276=>some (.nm 14)
  |_=>none
 cC:=some (.nm 5)
 own:=[([false,false,true,true],2,.int .i64),([false,true,true,false],1,.int .i64)]
 pos:=λn=>match n with
  |0|1|2|3|4|5|6|7|8|9|10|11|12|13|14|15|16|17|18|19|20|21=>by decide
  |_+22=>Nat.zero_lt_one
theorem agi:∀n (l:I (bZ gH)),l.map bZ.ty=hU n->∃x,WO n l=some x:=λn l h=>by
 obtain⟨x,aa⟩:=a8.aiu h
 match n,x,aa with
 |0,x,aa|1,x,aa|2,x,aa|3,x,aa|4,x,aa|5,x,aa|6,x,aa|7,x,aa|8,x,aa|9,x,aa|10,x,aa|11,x,aa|12,x,aa|13,x,aa|14,x,aa|15,x,aa|16,x,aa|17,x,aa|18,x,aa|19,x,aa|20,x,aa|21,x,aa|_+22,x,aa=>exact⟨_,dN (Option.map _) aa⟩
theorem ahK:cP.Total:=agi
end
section
open Go Go.Proofs.YtkbmjabicjpmjaaGreatDoor.Shv
open Tryz
set_option maxRecDepth 100000
open Go.Proofs Go.Proofs.YtkbmjabicjpmjaaGreatDoor Go.Shelf
theorem Yz:h5 prog 232:=by kernel_rfl
def mg:cT cP:=K7 cP 232 (.int .i64) 8
theorem Zf:ij prog mg:=acY (te:=3) (sz:=1) (bytes:=8) (z:=[.t (.int .i64 0)]) func232 (by kernel_rfl) (by kernel_rfl) (by kernel_rfl) rfl rfl
theorem lG:fS prog mg:=⟨Yz,Zf⟩
theorem ZB:h5 prog 291:=by kernel_rfl
def mj:cT cP:=FF cP 291 (.nm 9) 120
theorem YM:ij prog mj:=Oc (te:=62) (sz:=8) (bytes:=120) (z:=[.t (.int .i64 0),.t (.bool false),.t (.int .i64 0),.t (.str []),.t (.int .i64 0),.bX,.bX,.bX]) func291 (by kernel_rfl) (by kernel_rfl) (by kernel_rfl) rfl rfl
theorem ml:fS prog mj:=⟨ZB,YM⟩
theorem ZC:h5 prog 292:=by kernel_rfl
def mm:cT cP:=FF cP 292 (.nm 10) 24
theorem YN:ij prog mm:=Oc (te:=188) (sz:=2) (bytes:=24) (z:=[.t (.int .i64 0),.t (.str [])]) func292 (by kernel_rfl) (by kernel_rfl) (by kernel_rfl) rfl rfl
theorem mn:fS prog mm:=⟨ZC,YN⟩
instance:Inhabited hn:=⟨wY⟩
instance:Inhabited (cP.D 14):=⟨wY⟩
def l1(x y:hn):J:=(x.id<y.id:J)
def Ix(l:I hn):ai (I hn):=some (lr l1 l)
section
open Go.Proofs Go.Proofs.YtkbmjabicjpmjaaGreatDoor Go.Sort Go.RowKit Go.Lib
theorem alw(x:Int)(w:World):Calls prog 287 #[.int .i64 x] w λe w'=>e= .returned (.bool false)/\w'=w:=by
 go_enter func287,ntmps287
 go_wp2
 go_ret
 exact⟨by simp,rfl⟩
set_option maxHeartbeats 1000000 in
theorem alv(x y:Int)(w:World):Calls prog 225 #[.int .i64 x,.int .i64 y] w λe w'=>e= .returned (.int .i64 (Lib.compareInt x y))/\w'=w:=by
 go_enter func225,ntmps225
 go_wp2_with (go_at_call 287;refine(alw _ _).mono ?_;rintro e w' ⟨rfl,a⟩;rw[a])
 all_goals (go_ret;refine⟨?_,rfl⟩;unfold Lib.compareInt;(repeat' split)<;>first|rfl|(exfalso;omega))
def B9(x:hn):I Value:=[.int .i64 x.id,.string ⟨x.text.toArray⟩]
set_option maxHeartbeats 1000000 in
theorem alu(x y:Int)(s t:ByteArray)(W:World):Calls prog 230 #[.agg #[.int .i64 x,.string s],.agg #[.int .i64 y,.string t]] W λe w'=>e= .returned (.int .i64 (Lib.compareInt x y))/\∃q c,w'=grow (W.drewN q) c:=by
 have a:=λb=>alv x y b;generalize Lib.compareInt x y=r at a⊢
 go_enter func230,ntmps230
 go_wp2_with (go_at_call 225;refine(a _).mono ?_;rintro e w' ⟨rfl,rfl⟩)
 go_ret
 exact⟨rfl,0,_,by rw[alloc_eq_grow,alloc_eq_grow,grow_grow];rfl⟩
def QB:Go.Shelf.Ren:=⟨λ|6=>229|15=>290|14=>289|28=>338|29=>302|20=>330|21=>331|22=>332|23=>333|24=>334|25=>335|26=>336|27=>337|46=>347|47=>348|48=>349|49=>350|50=>351|57=>354|n=>n,λ|22=>274|24=>276|25=>278|3=>3|39=>196|0=>0|53=>324|55=>185|4=>4|46=>341|45=>340|50=>159|5=>5|9=>9|66=>358|70=>362|76=>370|77=>131|n=>n,λ|n=>n⟩
theorem V':SlLaysF0.n6 prog QB:={
 mixed:=by kernel_rfl
 f6:=⟨f229.name,by decide,func229.trans (dN some (by kernel_rfl))⟩
 f14:=⟨f289.name,by decide,func289.trans (dN some (by kernel_rfl))⟩
 f15:=func290.trans (dN some (by kernel_rfl))
 f20:=⟨f330.name,by decide,func330.trans (dN some (by kernel_rfl))⟩
 f21:=⟨f331.name,by decide,func331.trans (dN some (by kernel_rfl))⟩
 f22:=⟨f332.name,by decide,func332.trans (dN some (by kernel_rfl))⟩
 f23:=⟨f333.name,by decide,func333.trans (dN some (by kernel_rfl))⟩
 f24:=⟨f334.name,by decide,func334.trans (dN some (by kernel_rfl))⟩
 f25:=⟨f335.name,by decide,func335.trans (dN some (by kernel_rfl))⟩
 f26:=⟨f336.name,by decide,func336.trans (dN some (by kernel_rfl))⟩
 f27:=⟨f337.name,by decide,func337.trans (dN some (by kernel_rfl))⟩
 f28:=func338.trans (dN some (by kernel_rfl))
 f29:=func302.trans (dN some (by kernel_rfl))
 f46:=⟨f347.name,by decide,func347.trans (dN some (by kernel_rfl))⟩
 f47:=func348.trans (dN some (by kernel_rfl))
 f48:=func349.trans (dN some (by kernel_rfl))
 f49:=⟨f350.name,by decide,func350.trans (dN some (by kernel_rfl))⟩
 f50:=⟨f351.name,by decide,func351.trans (dN some (by kernel_rfl))⟩
 f57:=⟨f354.name,by decide,func354.trans (dN some (by kernel_rfl))⟩
 t0:=underlying0
 a0:=isAgg0
 z0:=sizeOf0
 v0:=zeroValue0
 t3:=underlying3
 a3:=isAgg3
 z3:=sizeOf3
 v3:=zeroValue3
 t4:=underlying4
 a4:=isAgg4
 z4:=sizeOf4
 v4:=zeroValue4
 t5:=underlying5
 a5:=isAgg5
 z5:=sizeOf5
 v5:=zeroValue5
 t9:=underlying9
 a9:=isAgg9
 z9:=sizeOf9
 v9:=zeroValue9
 t22:=underlying274
 a22:=isAgg274
 z22:=sizeOf274
 v22:=zeroValue274
 t25:=underlying278
 a25:=isAgg278
 z25:=sizeOf278
 v25:=zeroValue278
 t39:=underlying196
 a39:=isAgg196
 z39:=sizeOf196
 v39:=zeroValue196
 t45:=underlying340
 a45:=isAgg340
 z45:=sizeOf340
 v45:=zeroValue340
 t46:=underlying341
 a46:=isAgg341
 z46:=sizeOf341
 v46:=zeroValue341
 t50:=underlying159
 a50:=isAgg159
 z50:=sizeOf159
 v50:=zeroValue159
 t53:=underlying324
 a53:=isAgg324
 z53:=sizeOf324
 v53:=zeroValue324
 t55:=underlying185
 a55:=isAgg185
 z55:=sizeOf185
 v55:=zeroValue185
 t66:=underlying358
 a66:=isAgg358
 z66:=sizeOf358
 v66:=zeroValue358
 t70:=underlying362
 a70:=isAgg362
 z70:=sizeOf362
 v70:=zeroValue362
 t76:=underlying370
 a76:=isAgg370
 z76:=sizeOf370
 v76:=zeroValue370
 t77:=underlying131
 a77:=isAgg131
 z77:=sizeOf131
 v77:=zeroValue131}
theorem PD:ltOf (λx y:hn=>Lib.compareInt x.id y.id)=l1:=by
 funext x y;unfold ltOf l1 Lib.compareInt;by_cases h1:x.id<y.id;simp[h1];by_cases a:y.id<x.id<;>simp[h1,a]
theorem Ii:SWO l1:=agf (λx:hn=>x.id)
set_option maxHeartbeats 2000000 in
theorem aly(p:ai Addr)(cap:Nat)(a:Value)(w:World):Calls prog 330 #[.slice p 0 cap,.int .i64 0,.int .i64 0,a] w λe w'=>e= .returned (.tuple #[])/\w'=w:=by
 go_enter func330,ntmps330
 go_wp2
 refine wp_loop_rounds 1 ?_;rw[rounds_succ]
 go_wp2
 go_end0
 exact⟨rfl,rfl⟩
set_option maxHeartbeats 2000000 in
theorem alz(p:ai Addr)(cap:Nat)(c:Int)(a:Value)(w:World):Calls prog 289 #[.slice p 0 cap,.int .i64 0,.int .i64 0,.int .i64 c,a] w λe w'=>e= .returned (.tuple #[])/\w'=w:=by
 have b:=λW=>aly p cap a W
 go_enter func289,ntmps289
 go_wp2
 refine wp_loop_rounds 1 ?_;rw[rounds_succ]
 go_wp2_with (go_at_call 330;refine(b _).mono ?_;rintro e w' ⟨rfl,rfl⟩)
 (try simp only[Exit.inBlock,Exit.then]);refine bodyPost_ret (results_none rfl _ _ _) rfl ?_
 exact⟨rfl,rfl⟩
set_option maxHeartbeats 2000000 in
theorem alx(p:ai Addr)(cap:Nat)(a:Value)(w:World):Calls prog 229 #[.slice p 0 cap,a] w λe w'=>e= .returned (.tuple #[])/\w'=w:=by
 have ar:=λb W=>alz p cap b a W;have ak:∀W,Calls prog 290 #[.int .u64 0] W λe w'=>e= .returned (.int .i64 (Lib.bitLen 0:Nat))/\w'=W:=λW=>by
  have h:=Any.bits_Len (SlLaysF0.n15.bits (P:=prog) (ρ:=QB) {V' with}) 0 W (by omega) (by omega);exact h
 go_enter func229,ntmps229
 go_wp2_with (first|(go_at_call 290;refine(ak _).mono ?_;rintro e w' ⟨rfl,rfl⟩)|(go_at_call 289;refine(ar _ _).mono ?_;rintro e w' ⟨rfl,rfl⟩))
 go_end0
 exact⟨rfl,rfl⟩
theorem alA(blk off cap:Nat)(d:Array (cP.D 14))(w:World)(c:HoldsK B9 2 w blk off d)(f:blk<w.heap.size)(g:d.size<4611686018427387904):
 Calls prog 229 #[.slice (some ⟨blk,off,none⟩) d.size cap,.func (.func 230) #[] #[]] w λe w'=>e= .returned (.tuple #[])/\∃n os,w'=sortWorldK B9 2 w blk off n (pdq l1 d 0 d.size (Lib.bitLen d.size) true true) os:=by
 have b:∀args w,(callFunc 230 args).run prog w= .ok (.enter 230 args) w:=enters_of func230 (by kernel_rfl) rfl;have h:=AnyQ.slices_SortFunc_eq (α:=hn) V' 2 isAgg276 sizeOf276 B9 (λ_=>rfl) (λx v a=>by simp[B9]at a;rcases a with rfl|rfl<;>rfl) (λx y=>Lib.compareInt x.id y.id) (by rw[PD];exact Ii) 230 #[] blk off cap d w b (λ_ _ _ _ x y=>alu x.id y.id _ _ _) c f g;rw[PD]at h;exact h
theorem agQ:h5 prog 229:=by kernel_rfl
def Jy:cT cP:=Ih cP 229 14 230 (lr (α:=cP.D 14) l1)
theorem aa0:ij prog Jy:=aff (U:=cP) (n:=14) B9 l1 Ii (λ_=>rfl) (λw S x j t v h a=>ac4 w S x.id x.text j t v h a) alA alx
end
theorem Jz:fS prog Jy:=⟨agQ,aa0⟩
def OR:Go.Shelf.Ren:=⟨λ|240=>128|276=>185|n=>n,λ|0=>0|4=>4|9=>9|20=>20|37=>54|70=>114|72=>116|164=>250|n=>n,λn=>n⟩
theorem akQ:Lays.n240 prog OR:={
 mixed:=by kernel_rfl
 f240:=func128.trans (dN some (by kernel_rfl))
 f276:=func185.trans (dN some (by kernel_rfl))
 t0:=underlying0
 a0:=isAgg0
 z0:=sizeOf0
 v0:=zeroValue0
 t4:=underlying4
 a4:=isAgg4
 z4:=sizeOf4
 v4:=zeroValue4
 t9:=underlying9
 a9:=isAgg9
 z9:=sizeOf9
 v9:=zeroValue9
 t20:=underlying20
 a20:=isAgg20
 z20:=sizeOf20
 v20:=zeroValue20
 t70:=underlying114
 a70:=isAgg114
 z70:=sizeOf114
 v70:=zeroValue114
 t72:=underlying116
 a72:=isAgg116
 z72:=sizeOf116
 v72:=zeroValue116
 t164:=underlying250
 a164:=isAgg250
 z164:=sizeOf250
 v164:=zeroValue250}
theorem akR:Builder.X72 prog OR:={
 sizeBuilder:=by kernel_rfl
 liesBuilder:=by kernel_rfl}
theorem agR:h5 prog 128:=by kernel_rfl
def mA:cT cP:=FG cP 128 116 5
theorem Zp:ij prog mA:=aeL akQ akR rfl rfl
theorem nv:fS prog mA:=⟨agR,Zp⟩
def acK:Go.Shelf.Ren:=⟨λ|129=>302|171=>70|243=>129|246=>186|283=>259|284=>260|285=>261|286=>262|317=>301|318=>303|319=>304|320=>305|337=>339|338=>340|n=>n,λ|0=>0|2=>2|3=>3|4=>4|5=>5|9=>9|20=>20|37=>54|46=>196|51=>324|53=>185|171=>295|173=>298|212=>323|213=>325|232=>364|233=>365|n=>n,λ|17=>0|18=>6|19=>7|n=>n⟩
theorem akP:Lays.n171 prog acK:={
 mixed:=by kernel_rfl
 f129:=func302.trans (dN some (by kernel_rfl))
 f171:=func70.trans (dN some (by kernel_rfl))
 f243:=func129.trans (dN some (by kernel_rfl))
 f246:=func186.trans (dN some (by kernel_rfl))
 f283:=func259.trans (dN some (by kernel_rfl))
 f284:=func260.trans (dN some (by kernel_rfl))
 f285:=func261.trans (dN some (by kernel_rfl))
 f286:=func262.trans (dN some (by kernel_rfl))
 f317:=func301.trans (dN some (by kernel_rfl))
 f318:=func303.trans (dN some (by kernel_rfl))
 f319:=func304.trans (dN some (by kernel_rfl))
 f320:=func305.trans (dN some (by kernel_rfl))
 f337:=func339.trans (dN some (by kernel_rfl))
 f338:=func340.trans (dN some (by kernel_rfl))
 t0:=underlying0
 a0:=isAgg0
 z0:=sizeOf0
 v0:=zeroValue0
 t2:=underlying2
 a2:=isAgg2
 z2:=sizeOf2
 v2:=zeroValue2
 t3:=underlying3
 a3:=isAgg3
 z3:=sizeOf3
 v3:=zeroValue3
 t4:=underlying4
 a4:=isAgg4
 z4:=sizeOf4
 v4:=zeroValue4
 t5:=underlying5
 a5:=isAgg5
 z5:=sizeOf5
 v5:=zeroValue5
 t9:=underlying9
 a9:=isAgg9
 z9:=sizeOf9
 v9:=zeroValue9
 t20:=underlying20
 a20:=isAgg20
 z20:=sizeOf20
 v20:=zeroValue20
 t37:=underlying54
 a37:=isAgg54
 z37:=sizeOf54
 v37:=zeroValue54
 t46:=underlying196
 a46:=isAgg196
 z46:=sizeOf196
 v46:=zeroValue196
 t51:=underlying324
 a51:=isAgg324
 z51:=sizeOf324
 v51:=zeroValue324
 t53:=underlying185
 a53:=isAgg185
 z53:=sizeOf185
 v53:=zeroValue185
 t171:=underlying295
 a171:=isAgg295
 z171:=sizeOf295
 v171:=zeroValue295
 t173:=underlying298
 a173:=isAgg298
 z173:=sizeOf298
 v173:=zeroValue298
 t212:=underlying323
 a212:=isAgg323
 z212:=sizeOf323
 v212:=zeroValue323
 t213:=underlying325
 a213:=isAgg325
 z213:=sizeOf325
 t232:=underlying364
 a232:=isAgg364
 z232:=sizeOf364
 v232:=zeroValue364
 t233:=underlying365
 a233:=isAgg365
 z233:=sizeOf365
 v233:=zeroValue365
 g17:=by kernel_rfl
 g18:=by kernel_rfl
 g19:=by kernel_rfl}
theorem Xx:h5 prog 70:=by kernel_rfl
def mo:cT cP:=V6 cP 70
theorem YA:ij prog mo:=afj akP rfl
theorem oD:fS prog mo:=⟨Xx,YA⟩
end
section
open Go Go.Proofs.YtkbmjabicjpmjaaGreatDoor.Shv
open Tryz
set_option maxRecDepth 100000
theorem Dv:oc prog 85:= .of (by rfl)
variable{S:dy}{g kk:Nat}{ks:I (Int×Int)}{w:World}{v:Value}{es:I MapEntry}{fs:I (cT cP)}{p:bb}{M:dJ×dJ×au->ai J}{R P:dJ×dJ×I bD->ai J}
variable{a f:Nat}
theorem Xw(C:∀b j,S b j->b<w.heap.size)(x:bD){E:TypeId}{es:Array MapEntry}{c6:Nat}
 (h1:w.heap[g]?=some (.cells #[.map (some a)] E (0,0)))(z:w.heap[a]?=some (.map es c6))(hs:jH ks es.toList)(G:∀j,¬S g j)(H:∀j,¬S a j):
 Calls prog 44 #[eJ (x.c8,x.cO),.pointer (some ⟨g,0,none⟩)] w λe w'=>e= .returned (.bool (!iX ks (x.c8,x.cO)))/\∃bx,pv S w bx w':=by
 refine calls_of_wp func44 rfl ?_;have r:=cU.enter (U:=cP) (gs:=[g,a]) (N:=2) (nt:=8) (φ:=λb=>if b=0 then(g,0)else(a,0)) (args:=[.agg [.t ⟨.int .i64,x.c8⟩,.t ⟨.int .i64,x.cO⟩],.c (.ptr 0 0)]) (w:=w) (S:=S)
  (.cons (.agg (.cons (.t _) (.cons (.t _) .nil))) (.cons (.c (.ptr 0 0)) .nil)) (vs:=[eJ (x.c8,x.cO),.pointer (some ⟨g,0,none⟩)]) (.cons (.agg (.cons (ca.int _ _) (.cons (ca.int _ _) .nil))) (.cons (.c rfl) .nil)) rfl C (vi rfl)
  (by
   grind)
 refine wp_seq (r.hg 2 [br .normal [(1,.c (.ptr 0 0)),(2,.c (.ptr 2 0))] [.gone,.gone,.bl 5]] (o:=x) .n (by kernel_rfl) λL D a1 p l dF=>?_);refine wp_seq (qq [0,1,2,3,4] ?_);have bj:a1.tmps[1]?=some (.pointer (some ⟨g,0,none⟩)):=(l.ptr (k:=1) rfl).trans (by rw[dF.fix 0 (by simp)];rfl);have A:p.heap[g]?=_:=(dF.ar g (by simp)).trans h1;have B:p.heap[a]?=_:=(dF.ar a (by simp)).trans z;refine o7 rfl rfl rfl (ld1 rfl (by rfl) (gO bj) A (off:=0) rfl) ?_;have s:=l.put (d:=4) (x:= .map (some a)) (v:= .c (.mp 1)) (.c (.mp 1)) (.c (by show _=Value.map (some _);rw[dF.fix 1 (by simp)];rfl));refine s.op 2 1 1 [(4,.c (.mp 1)),(5,.row 5)] [.gone,.gone] (h:=x) .n (by rfl) λM F a3 J f m=>?_
 have cv:a3.tmps[4]?=some (.map (some a)):=(f.mp (k:=4) rfl).trans (by rw[m.fix 1 (by simp),dF.fix 1 (by simp)];rfl);have cZ:a3.tmps[5]?=some (eJ (x.c8,x.cO)):=f.pair rfl;refine o7 rfl rfl rfl (akS rfl Dv (gO cv) (gO cZ) ((m.ar a (by simp)).trans B) hs) ?_;have u:=f.put (d:=6) (v:= .c (.t ⟨.bool,iX ks (x.c8,x.cO)⟩)) (.c (.t _)) (.c (ca.bool _));refine u.op 2 3 2 [(3,.c (.hole .bool))] [.gone,.gone] (h:=!iX ks (x.c8,x.cO)) .n (by rfl) λO q a5 K i fz=>?_;refine wp_ret (i.ret rfl rfl λy al=>⟨?_,q,i.ext,i.st⟩);cases al;rfl
def jD(ks:I (Int×Int))(x:bD):J:=iX ks (x.c8,x.cO)
structure pr (S:dy)(w:World)(g G9:Nat)(ks:List (Int×Int)):Prop where
 st:∀b j,S b j->b<w.heap.size
 g1:∃E,w.heap[g]?=some (.cells #[.map (some G9)] E (0,0))
 g2:∃es c6,w.heap[G9]?=some (.map es c6)/\jH ks es.toList
 g3:∀j,¬S g j
 g4:∀j,¬S G9 j
theorem pr.next{bx:dy}{w':World}{c:Nat}(h:pr S w g c ks){nt:Nat}{aB:Ctx}{s:yK cP}{φ j:dx}{a:Act}(T:cU aB nt [g,c] s φ bx a w')(n:tc [g,c] kk j w φ w'):pr bx w' g c ks:=by
 obtain⟨h0,⟨E,h1⟩,⟨es,c6,e,f⟩,o,bu⟩:=h;exact⟨T.st,⟨E,(n.ar g (by simp)).trans h1⟩,⟨es,c6,(n.ar c (by simp)).trans e,f⟩,(T.e0 g (by simp)).2,(T.e0 c (by simp)).2⟩
theorem pr.e0(av:pr S w g a ks):∀b,b∈[g,a]->b<w.heap.size/\∀j,¬S b j:=by
 obtain⟨h0,⟨E,h1⟩,⟨es,c6,c,_⟩,e,f⟩:=av;grind
theorem Xy(φ:dx)(l:I bD){q:Nat}(av:pr S w g q ks)(P:(φ 0).1=g)(ap:ca w S (bZ.enc cP ⟨.slice (.nm 5),l⟩) v):
 Calls prog 92 #[v,.func (.func 44) #[] #[.pointer (some ⟨g,0,none⟩)]] w λe w'=>∃m bx,e= .returned (.int .i64 m)/\((l.any λx=>!jD ks x)=(0<=m:J))/\pv S w bx w':=by
 refine calls_of_wp func92 rfl ?_;have ab:=cU.enter (U:=cP) (gs:=[g,q]) (N:=1) (nt:=19) (φ:=φ) (args:=[.c (.t ⟨.slice (.nm 5),l⟩),.c (.fn 44 [0])]) (w:=w) (S:=S)
  (.cons (.c (.t _)) (.cons (.c (.fn 44 [0])) .nil)) (vs:=[v,.func (.func 44) #[] #[.pointer (some ⟨g,0,none⟩)]]) (.cons (.c ap) (.cons (.c (by rw[<-P];rfl)) .nil)) rfl av.st (vi rfl)
  av.e0
 refine wp_seq (ab.hg 1 [br .normal [(0,ad (aN 5)),(1,.c (.fn 44 [0]))] [.gone]] (o:=l) .n (by kernel_rfl) λaK aD a1 aI F dF=>?_);refine wp_seq (wp_seq (F.hg 1 [br .normal [(0,ad (aN 5)),(1,.c (.fn 44 [0])),(7,ad ao),(8,ad ao)] [.gone]] (o:=(l,(l.length:Int),(0:Int))) .n (by kernel_rfl) λay W a2 aq G Q=>?_));refine wp_block (Fg ?_);refine(show(∀(n i:Nat),i+n=l.length->(∀j,j<i->∃x,l[j]?=some x/\jD ks x)->∀bw bx cj w',cU _ 19 [g,q] (gG (U:=cP) [br .normal [(0,ad (aN 5)),(1,.c (.fn 44 [0])),(7,ad ao),(8,ad ao)] [.gone]] (l,(l.length:Int),(i:Int))).2 bw bx cj w'->(bw 0).1=g->pr bx w' g q ks->vD prog _ _ cj w')from ?_) l.length 0 (by simp) (by simp) ay W a2 aq G (by rw[Q.fix 0 (by decide),dF.fix 0 (by decide)];exact P) ((av.next F dF).next G Q);intro n;induction n with
 |zero=>
  intro i ak O az X a3 ar z K M;refine w9 (wp_seq (z.hg 1 [br .normal [(9,ad .bool)] [.gone]] (o:=((i:Int)<l.length:J)) .n (by kernel_rfl) λaA Y a4 au f B=>?_));refine wp_seq (wp_cond_false (by rw[gO (f.bool (k:=9) rfl)];simp;omega) (wp_exit ?_));refine f.hg 1 [br .ret [(4,ad ao)] [.gone]] (o:=(-1:Int)) .n (by kernel_rfl) λaB D a5 aw p fz=>p.ret rfl rfl λy al=>⟨-1,D,?_,?_,p.ext,p.st⟩;cases al;rfl;grind[List.any_eq_false,List.mem_iff_getElem,List.getElem?_eq_getElem]
 |succ n ih=>
  intro i ak O az X a3 ar z K M;have am:i<l.length:=by omega
  refine w9 (wp_seq (z.hg 1 [br .normal [(0,ad (aN 5)),(1,.c (.fn 44 [0])),(7,ad ao),(8,ad ao),(9,ad .bool)] [.gone]] (o:=(l,(l.length:Int),(i:Int),((i:Int)<l.length:J))) .n (by kernel_rfl) λaA Y a4 au f B=>?_));refine wp_seq (wp_cond_true (by rw[gO (f.bool (k:=9) rfl)];simp;omega) (wp_skip ?_));refine wp_seq (wp_block (wp_seq (f.hg 1 [br .normal [(0,ad (aN 5)),(1,.c (.fn 44 [0])),(7,ad ao),(8,ad ao),(5,ad ao)] [.gone]] (o:=(l,(l.length:Int),(i:Int),(i:Int))) .n (by kernel_rfl) λaB D a5 aw p fz=>?_)));refine wp_seq (qq [0,1,2,3,4,5] ?_);refine p.op 1 0 5 [(0,ad (aN 5)),(1,.c (.fn 44 [0])),(7,ad ao),(8,ad ao),(5,ad ao),(11,.c (.fn 44 [0])),(15,.row 5)] [.gone] (h:=(l,(l.length:Int),(i:Int),(i:Int),l.getD (Int.toNat i) ey)) .n ((show _=(if aG (i:Int) l.length then some _ else none) by kernel_rfl).trans (ag (by simp[aG];omega))) λaC aE aF aJ r R=>?_
  have L:(aC 0).1=g:=by rw[R.fix 0 (by decide),fz.fix 0 (by decide),B.fix 0 (by decide)];exact K
  have ai:=((M.next f B).next p fz).next r R;have aa:l[i]?=some (l.getD i ey):=by simp[List.getD,fm am]
  refine Hj rfl rfl rfl (u4 rfl rfl (gO (r.fn (k:=11) rfl)) (by kernel_rfl)) (args:=#[eJ ((l.getD i ey).c8,(l.getD i ey).cO),.pointer (some ⟨g,0,none⟩)]) ?_ ?_
  simp[gO (r.pair (k:=15) rfl),L]
  obtain⟨h0,⟨E,g1⟩,⟨es,c6,g2,g3⟩,g4,ae⟩:=ai;refine(Xw h0 (l.getD i ey) g1 g2 g3 g4 ae).mono ?_
  rintro e ax ⟨rfl,Z,s⟩;refine⟨_,rfl,?_⟩;have b:=(r.extend s.1 s.2).put (d:=16) (v:= .c (.t ⟨.bool,!jD ks (l.getD i ey)⟩)) (.c (.t _)) (.c (ca.bool _));have aj:pr Z ax g q ks:=⟨b.st,⟨E,s.heap g1⟩,⟨es,c6,s.heap g2,g3⟩,(b.e0 g (by simp)).2,(b.e0 q (by simp)).2⟩
  cases A:jD ks (l.getD i ey)with
  |false=>
   refine wp_cond_true ((gO (b.bool (k:=16) rfl)).trans (by rw[A];rfl)) (wp_seq (b.hg 1 [br .normal [(4,ad ao)] [.gone]] (o:=(i:Int)) .n (by kernel_rfl) λV u H T a C=>wp_ret ?_));simp only[Exit.inBlock,Exit.then];refine a.ret rfl rfl λy al=>⟨(i:Int),u,?_,?_,a.ext,a.st⟩;cases al;rfl;have:(l.any λx=>!jD ks x):=xJ.2 ⟨l.getD i ey,fQ aa,by rw[A];rfl⟩;rw[this];simp
  |true=>
   refine wp_cond_false ((gO (b.bool (k:=16) rfl)).trans (by grind)) (wp_skip ?_);refine b.hg 1 [br .normal [(0,ad (aN 5)),(1,.c (.fn 44 [0])),(7,ad ao),(8,ad ao)] [.gone]] (o:=(l,(l.length:Int),aQ .i64 (i:Int) 1)) .n (by kernel_rfl) λV u H T a C=>?_;have ah:aQ .i64 (i:Int) 1=((i+1:Nat):Int):=by
    have af:l.length<=dT:=a.len (k:=0) rfl;unfold dT at af;unfold aQ;rw[IntKind.wrap_i64];omega
   rw[ah]at a;refine ih (i+1) (by omega) (λj aH=>?_) V u H T a (by rw[C.fix 0 (by decide)];exact L) (aj.next a C);by_cases an:j<i;exact O j an;have:j=i:=(by omega);subst this;exact⟨_,aa,A⟩
theorem Xv(l:I bD){j:Nat}(av:pr S w g j ks)(F:ca w S (bZ.enc cP ⟨.slice (.nm 5),l⟩) v):
 Calls prog 42 #[v,.func (.func 44) #[] #[.pointer (some ⟨g,0,none⟩)]] w λe w'=>∃bx,e= .returned (.bool (l.any λx=>!jD ks x))/\pv S w bx w':=by
 refine calls_of_wp func42 rfl ?_;have A:=cU.enter (U:=cP) (gs:=[g,j]) (N:=1) (nt:=9) (φ:=λ_=>(g,0)) (w:=w) (S:=S)
  (.cons (.c (.t _)) (.cons (.c (.fn 44 [0])) .nil)) (.cons (.c F) (.cons (.c rfl) .nil)) rfl av.st (vi rfl) av.e0
 refine wp_seq (A.hg 1 [br .normal [(0,ad (aN 5)),(1,.c (.fn 44 [0]))] [.gone]] (o:=l) .n (by kernel_rfl) λQ G a1 L i dF=>?_);refine wp_seq (qq [0,1,2,3,4] ?_);refine i.op 1 0 2 [(5,ad (aN 5)),(6,.c (.fn 44 [0]))] [.gone] (h:=l) .n (by kernel_rfl) λs H a2 M a r=>?_;have C:=(av.next i dF).next a r;obtain⟨u,cZ,E⟩:=a.cell (k:=5) rfl;have p:(s 0).1=g:=by rw[r.fix 0 (by decide),dF.fix 0 (by simp)]
 refine Hj rfl rfl rfl (u4 rfl rfl (f:=92) (caps:=[]) rfl (by kernel_rfl)) (args:=#[u,.func (.func 44) #[] #[.pointer (some ⟨g,0,none⟩)]]) ?_ ?_
 simp[gO cZ,gO (a.fn (k:=6) rfl),p]
 refine(Xy s l C p E).mono ?_
 rintro e O ⟨m,J,rfl,D,q⟩
 refine⟨_,rfl,?_⟩;have B:=(a.extend q.1 q.2).put (d:=7) (v:= .c (.t ⟨.int .i64,m⟩)) (.c (.t _)) (.c (ca.int _ _));refine B.op 1 3 2 [(4,ad .bool)] [.gone] .n (by rfl) λR z a4 P b K=>?_;refine wp_ret (b.ret rfl rfl λy al=>⟨z,?_,b.ext,b.st⟩);cases al;rw[D]
section
variable (nb:dJ->ai J)(vL:I bD×bD->ai J)(vW:jh->ai bD)(po pq:jh×bD->ai J)(tb:jh×bD->ai (I bD))
def WC(p:jh)(l:I bD)(x:bD):ai J:=
 po (p,x)>>=λa=>if !a then some false else pq (p,x)>>=λb=>if !b then some false else tb (p,x)>>=λm=>some (m.all λy=>l.any λz=>(eZ y.c8 z.c8&&(eZ y.cO z.cO&&true)))
def yL(g:bD->ai J):I bD->ai J
 |[]=>some true
 |x::r=>g x>>=λa=>yL g r>>=λb=>some (a&&b)
def WB:dJ×dJ×I bD->ai J
 |(w,r,l)=>
 nb w>>=λa=>if !a then some false else nb r>>=λb=>if !b then some false else vW (⟨w,r⟩:jh)>>=λq=>vL (l,q)>>=λc=>if !c then some false else yL (WC po pq tb (⟨w,r⟩:jh) l) l
end
theorem PE{g:bD->ai J}:∀{l:I bD} {b:J},yL g l=some b->(∀x,x∈l->∃a,g x=some a/\(a=false->b=false))/\((∀x,x∈l->g x=some true)->b=true)
 |[],b,h=>by grind[yL]
 |x::r,b,h=>by
  simp only[yL,bind,bz]at h;obtain⟨a,f,d,c,h⟩:=h;obtain⟨h1,e⟩:=PE c;grind
def mI(l:I bD):I (Int×Int):=l.foldl (λks x=>oe ks (x.c8,x.cO)) []
theorem aeP{x y:Int×Int}:iX (oe ks x) y=(iX ks y||(x=y:J)):=by
 grind[oe,iX]
theorem aeQ(l:I bD)(x:bD):mI (l++[x])=oe (mI l) (x.c8,x.cO):=by simp[mI]
theorem J3{y:bD}(l:I bD):jD (mI l) y=l.any λz=>(eZ y.c8 z.c8&&(eZ y.cO z.cO&&true)):=by
 have key:∀(l:I bD) (ks:I _),jD (l.foldl (λks x=>oe ks (x.c8,x.cO)) ks) y=(jD ks y||l.any λz=>(eZ y.c8 z.c8&&(eZ y.cO z.cO&&true))):=by
  intro l;induction l with
  |nil=>simp
  |cons x l ih=>
   intro ks;rw[qS,ih];unfold jD;rw[aeP];grind[eZ]
 grind[jD,iX,mI]
theorem afk{k:Int×Int}(l:I bD)(h:k∈mI l):∃x,x∈l/\k=(x.c8,x.cO):=by
 have:jD (mI l) ⟨k.1,k.2⟩:=by
  grind[jD,iX]
 grind[J3,eZ]
theorem aeR(h:jH ks es){k:Int×Int}(b:k∈ks):∃e,e∈es/\e.key=eJ k:=by
 obtain⟨i,a⟩:=HA.1 b;obtain⟨e,h1,c⟩:=h.get a;grind
theorem afl(h:jH ks es){e:MapEntry}(he:e∈es):∃k,k∈ks/\e.key=eJ k/\e.val= .bool true:=by
 induction h<;>grind
section
variable {nb:dJ->ai J}{vL:I bD×bD->ai J}{vW:jh->ai bD}{po pq:jh×bD->ai J}{tb:jh×bD->ai (I bD)}
theorem agS (aU:fS prog ((aW 37 [.row 12] (ad .bool)).s (U:=cP) nb))(bE:fS prog ((aW 38 [ad (aN 5),.row 5] (ad .bool)).s (U:=cP) vL))(bF:fS prog ((aW 39 [.row 13] (.row 5)).s (U:=cP) vW))
 (aS:fS prog ((aW 40 [.row 13,.row 5] (ad .bool)).s (U:=cP) po))(aT:fS prog ((aW 41 [.row 13,.row 5] (ad .bool)).s (U:=cP) pq))(cq:fS prog ((aW 43 [.row 13,.row 5] (ad (aN 5))).s (U:=cP) tb)):
 fS prog ((aW 13 [.row 12,.row 12,ad (aN 5)] (ad .bool)).s (U:=cP) (WB nb vL vW po pq tb)):=by
 refine .hand (by kernel_rfl) ?_
 rintro ⟨rw,B,b2⟩ b bJ φ S w dq vs cI aH cM ct;obtain⟨l,rfl⟩:∃l:I bD,l=b2:=⟨b2,rfl⟩
 refine calls_of_wp func13 rfl ?_;have ck:=cU.enter (U:=cP) (gs:=[]) (N:=0) (nt:=61) aH cM ct cI (by rw[<-aH.length];exact vi rfl) (by simp);have Y:∀{gs:bb} {s:yK cP} {bn:dx} {aL:dy} {a1:Act} {aw:World} (T:cU ⟨w,S,λ_=>False,φ,0⟩ 61 gs s bn aL a1 aw),ba s.1 6=some (.c (.t ⟨.bool,b⟩))->bodyPost prog f13 (λe w'=>∃bx,e= .returned (.bool b)/\pv S w bx w') .ret a1 aw:=
  λT a7=>T.ret rfl a7 λy al=>⟨_,by cases al;rfl,T.ext,T.st⟩
 refine wp_seq (ck.hg 0 [br .normal [(2,ad (aN 5)),(3,aA 0 0),(4,aA 1 0)] [.bl 12,.bl 12]] (o:=(l,rw,B)) .n (by kernel_rfl) λbn aL a1 aw K dF=>?_);obtain⟨c5,h1,bJ⟩:=lp.1 bJ;cases c5 with
 |false=>
  cases bJ;refine wp_seq (K.hg 0 [br .ret [(6,ad .bool)],br .normal [(2,ad (aN 5)),(3,aA 0 0),(4,aA 1 0)] [.bl 12,.bl 12]] (o:= .inl false) (.k aU .n) ((show _=(nb rw>>=λA=>(if !(!A) then nb B else some false)>>=λF=>if(bif (!A)then true else(!F)) then some (Sum.inl false)else some (Sum.inr (l,rw,B))) by kernel_rfl).trans (by rw[h1];rfl)) λb9 bp a2 P M b3=>Y M rfl)
 |true=>
 obtain⟨c7,ah,bJ⟩:=lp.1 bJ;cases c7 with
 |false=>
  cases bJ;refine wp_seq (K.hg 0 [br .ret [(6,ad .bool)],br .normal [(2,ad (aN 5)),(3,aA 0 0),(4,aA 1 0)] [.bl 12,.bl 12]] (o:= .inl false) (.k aU .n) ((show _=(nb rw>>=λA=>(if !(!A) then nb B else some false)>>=λF=>if(bif (!A)then true else(!F)) then some (Sum.inl false)else some (Sum.inr (l,rw,B))) by kernel_rfl).trans (by rw[h1];simp[ah];rfl)) λb9 bp a2 P M b3=>Y M rfl)
 |true=>
 refine wp_seq (K.hg 0 [br .ret [(6,ad .bool)],br .normal [(2,ad (aN 5)),(3,aA 0 0),(4,aA 1 0)] [.bl 12,.bl 12]] (o:= .inr (l,rw,B)) (.k aU .n) ((show _=(nb rw>>=λA=>(if !(!A) then nb B else some false)>>=λF=>if(bif (!A)then true else(!F)) then some (Sum.inl false)else some (Sum.inr (l,rw,B))) by kernel_rfl).trans (by rw[h1];simp[ah];rfl)) λb9 bp a2 P M b3=>?_);refine wp_seq (M.hg 0 [br .normal [(2,ad (aN 5)),(7,aA 0 0)] [.bl 13]] (o:=(l,(⟨rw,B⟩:jh))) .n (by kernel_rfl) λde cg a3 b6 X cV=>?_);obtain⟨q,aC,bJ⟩:=lp.1 bJ;obtain⟨c9,aE,bJ⟩:=lp.1 bJ;cases c9 with
 |false=>
  cases bJ;refine wp_seq (X.hg 0 [br .ret [(6,ad .bool)],br .normal [(2,ad (aN 5)),(7,aA 0 0)] [.bl 13]] (o:= .inl false) (.k bF (.k bE .n)) ((show _=(vW ⟨rw,B⟩>>=λq=>vL (l,q)>>=λc=>if !c then some (Sum.inl false)else some (Sum.inr (l,(⟨rw,B⟩:jh)))) by kernel_rfl).trans (by rw[aC];simp[aE];rfl)) λay aM a4 bk O W=>Y O rfl)
 |true=>
 refine wp_seq (X.hg 0 [br .ret [(6,ad .bool)],br .normal [(2,ad (aN 5)),(7,aA 0 0)] [.bl 13]] (o:= .inr (l,(⟨rw,B⟩:jh))) (.k bF (.k bE .n)) ((show _=(vW ⟨rw,B⟩>>=λq=>vL (l,q)>>=λc=>if !c then some (Sum.inl false)else some (Sum.inr (l,(⟨rw,B⟩:jh)))) by kernel_rfl).trans (by rw[aC];simp[aE];rfl)) λay aM a4 bk O W=>?_);obtain⟨cr,cK⟩:=PE bJ;clear bJ;generalize ar:(⟨rw,B⟩:jh)=p at*;refine wp_seq (qq [0,1,2,3,4] ?_);refine O.op 0 0 2 [(2,ad (aN 5)),(7,aA 0 0),(29,ad ao)] [.bl 13] (h:=(l,(l.length:Int),p)) .n (by kernel_rfl) λdz di a5 C ak fz=>?_;refine o7 rfl rfl rfl (akZ rfl Dv (gO (ak.int (k:=29) rfl))) ?_;have af:=(ak.new (.map #[] 0)).put (d:=30) (x:= .map (some C.heap.size)) (v:= .c (.mp 1)) (.c (.mp 1)) (.c (by show _=Value.map (some _);simp[e3]));refine o7 rfl rfl rfl (aif rfl (z:= .map none) (by kernel_rfl) rfl) ?_
 have G:=(af.new (.cells #[.map none] 85 (0,0))).put (d:=8) (x:= .pointer (some ⟨(C.alloc (.map #[] 0)).heap.size,0,none⟩)) (v:= .c (.ptr 2 0)) (.c (.ptr 2 0)) (.c (by show _=Value.pointer _;simp[e3]));have av:C.heap.size+1=(C.alloc (.map #[] 0)).heap.size:=by simp
 refine akV rfl rfl rfl rfl (by kernel_rfl) (b:=(C.alloc (.map #[] 0)).heap.size) (u:= .map none) (E:=85) (v:= .map (some C.heap.size)) (gO ((G.ptr (k:=8) rfl).trans (by simp[e3]))) (gO ((G.mp (k:=30) rfl).trans (by simp[e3]))) rfl rfl Shv.heap_alloc_new ?_;intro bm cW cX cY cZ b4 bi;have bc:w.heap.size<=C.heap.size:=ak.ext.size;have H:=G.write (w':=bm) (g:=(C.alloc (.map #[] 0)).heap.size) (by simp) (by rw[<-av];exact Nat.le_succ_of_le bc) cW cX cY cZ bi;have ap:bm.heap[C.heap.size]?=some (.map #[] 0):=by
  rw[bi _ (by rw[<-av];omega),tB (by simp)];exact Shv.heap_alloc_new
 obtain⟨df,ci,Q,_⟩:=H.goto 0 (sh:=⟨[(2,ad (aN 5)),(7,aA 1 0),(8,aA 0 0)],[.gone,.bl 13]⟩) (ts:=[aN 5,.nm 13]) (h:=(l,p)) (by kernel_rfl);have aF:(df 0).1=(C.alloc (.map #[] 0)).heap.size:=by
  have aK:=Q.ptr (k:=8) rfl;have am:=H.ptr (k:=8) rfl;rw[aK]at am;simpa[e3]using am
 have dt:w.heap.size<=(C.alloc (.map #[] 0)).heap.size:=by rw[<-av];exact Nat.le_succ_of_le bc
 have cH:C.heap.size≠(C.alloc (.map #[] 0)).heap.size:=by rw[<-av];omega
 clear G H af av bi;generalize (C.alloc (.map #[] 0)).heap.size=g at*;generalize C.heap.size=j at*;refine wp_seq (wp_seq (Q.hg 1 [br .normal [(2,ad (aN 5)),(7,aA 1 0),(8,aA 0 0),(31,ad (aN 5)),(32,ad ao),(33,ad ao)] [.gone,.bl 13]] (o:=(l,l,(l.length:Int),(0:Int),p)) .n (by kernel_rfl) λaJ az bs b5 ab R=>?_));refine wp_block (Fg ?_);refine(show(∀(n i:Nat),i+n=l.length->∀bw bx cj w' es c6,cU ⟨w,S,λ_=>False,φ,0⟩ 61 [g,j] (gG (U:=cP) [br .normal [(2,ad (aN 5)),(7,aA 1 0),(8,aA 0 0),(31,ad (aN 5)),(32,ad ao),(33,ad ao)] [.gone,.bl 13]] (l,l,(l.length:Int),(i:Int),p)).2 bw bx cj w'->(bw 0).1=g->w'.heap[g]?=some (.cells #[.map (some j)] 85 (0,0))->w'.heap[j]?=some (.map es c6)->jH (mI (l.take i)) es.toList->oO es.toList c6->vD prog _ _ cj w')from ?_)
  l.length 0 (by simp) aJ az bs b5 #[] 0 ab ((R.fix 0 (by decide)).symm▸aF) ((R.ar g (by simp)).trans b4) ((R.ar j (by simp)).trans ap) .nil ⟨by simp,by simp⟩
 clear Q R ab b4 ap aF;intro n;induction n with
 |succ n ih=>
  intro i cy db cd cm c1 es c6 aO aR aZ a9 ai an;have bR:i<l.length:=by omega
  refine w9 (wp_seq (aO.hg 1 [br .normal [(2,ad (aN 5)),(7,aA 1 0),(8,aA 0 0),(31,ad (aN 5)),(32,ad ao),(33,ad ao),(34,ad .bool)] [.gone,.bl 13]] (o:=(l,l,(l.length:Int),(i:Int),((i:Int)<l.length:J),p)) .n (by kernel_rfl) λb8 ce cn r D V=>?_));refine wp_seq (wp_cond_true ((gO (D.bool (k:=34) rfl)).trans (by simp;omega)) (wp_skip ?_));refine wp_seq (wp_block (wp_seq ?_));refine D.hg 1 [br .normal [(2,ad (aN 5)),(7,aA 1 0),(8,aA 0 0),(31,ad (aN 5)),(32,ad ao),(33,ad ao),(10,aA 2 0)] [.gone,.bl 13,.bl 5]] (o:=(l,l,(l.length:Int),(i:Int),p,l.getD (Int.toNat i) ey)) .n ((show _=(if aG (i:Int) (List.length l) then some _ else none) by kernel_rfl).trans (ag (by simp[aG];omega))) λdc dh dl du aj bg=>?_;have bB:(dc 0).1=g:=by rw[bg.fix 0 (by decide),V.fix 0 (by decide)];exact aR
  have bL:=(bg.ar g (by simp)).trans ((V.ar g (by simp)).trans aZ);have cE:=(bg.ar j (by simp)).trans ((V.ar j (by simp)).trans a9);refine qq [0,1,2] ?_;refine o7 rfl rfl rfl (ld1 rfl (by kernel_rfl) (gO ((aj.ptr (k:=8) rfl).trans (by rw[bB]))) bL (off:=0) rfl) ?_;have ae:=(aj.num j).put (d:=37) (x:= .map (some j)) (v:= .c (.mp 3)) (.c (.mp 3)) (.c (by show _=Value.map _;simp[e3]));refine ae.op 4 1 1 [(2,ad (aN 5)),(7,aA 1 0),(8,aA 0 0),(31,ad (aN 5)),(32,ad ao),(33,ad ao),(37,.c (.mp 3)),(38,.row 5)] [.gone,.bl 13,.bl 5,.gone] (h:=(l,l,(l.length:Int),(i:Int),l.getD (Int.toNat i) ey,p,l.getD (Int.toNat i) ey)) .n (by kernel_rfl) λax bo dm bj L aI=>?_;have aB:(ax 0).1=g:=by rw[aI.fix 0 (by decide)];simpa[e3]using bB
  refine akW rfl rfl rfl rfl Dv (gO ((L.mp (k:=37) rfl).trans (by rw[aI.fix 3 (by decide)];simp[e3]))) (gO (L.pair (k:=38) rfl)) rfl ((aI.ar j (by simp)).trans cE) ai an λbz bu bW cs=>?_;have cl:=L.write (w':={bj with heap:=bj.heap.setIfInBounds j (.map bz bu)}) (g:=j) (by simp) bc rfl rfl rfl (by simp) (λb aV=>by simp[Hp,ee aV]);have aD:j<bj.heap.size:=(L.e0 j (by simp)).1;refine cl.hg 1 [br .normal [(2,ad (aN 5)),(7,aA 1 0),(8,aA 0 0),(31,ad (aN 5)),(32,ad ao),(33,ad ao)] [.gone,.bl 13]] (o:=(l,l,(l.length:Int),aQ .i64 (i:Int) 1,p)) .n (by kernel_rfl) λdd cf cp c2 aP bh=>?_;have aH:aQ .i64 (i:Int) 1=((i+1:Nat):Int):=by
   have aF:List.length l<=dT:=aP.len (k:=2) rfl;unfold dT at aF;have dr:(i:Int)<281474976710656:=(by omega);unfold aQ;rw[IntKind.wrap_i64];omega
  rw[aH]at aP;refine ih (i+1) (by omega) dd cf cp c2 bz bu aP (by rw[bh.fix 0 (by decide)];exact aB) ?_ ?_ ?_ cs
  rw[bh.ar g (by simp)];simp[Hp,cH];exact(aI.ar g (by simp)).trans bL;rw[bh.ar j (by simp)];simp[Hp,aD];rw[List.take_add_one,fm bR];have e:l.getD (Int.toNat i) ey=l[i]:=(by simp[List.getD,fm bR]);rw[e]at bW;exact(aeQ _ _).symm▸bW
 |zero=>
  intro i cy db cd cm c1 es c6 aO aR aZ a9 ai an;have cD:l.take i=l:=xS (by omega);rw[cD]at ai;refine w9 (wp_seq (aO.hg 1 [br .normal [(2,ad (aN 5)),(7,aA 1 0),(8,aA 0 0),(34,ad .bool)] [.gone,.bl 13]] (o:=(l,((i:Int)<l.length:J),p)) .n (by kernel_rfl) λb8 ce cn r D V=>?_));refine wp_seq (wp_cond_false ((gO (D.bool (k:=34) rfl)).trans (by simp;omega)) (wp_exit ?_));have bA:(b8 0).1=g:=by rw[V.fix 0 (by decide)];exact aR
  have a0:=(V.ar g (by simp)).trans aZ;have a':=(V.ar j (by simp)).trans a9;refine wp_seq (wp_seq (qq [0,1] ?_));refine o7 rfl rfl rfl (ld1 rfl (by kernel_rfl) (gO ((D.ptr (k:=8) rfl).trans (by rw[bA]))) a0 (off:=0) rfl) ?_;have aj:=D.put (d:=40) (x:= .map (some j)) (v:= .c .dead) (.c (.dead .dead)) (.c rfl);refine o7 rfl rfl rfl (alh rfl Dv (gO (qt (by rw[D.size];decide))) a') ?_;have ae:=(aj.new (.mapIter (some j) c6 #[] c6)).put (d:=41) (x:= .pointer (some ⟨r.heap.size,0,none⟩)) (v:= .c (.ptr 2 0)) (.c (.ptr 2 0)) (.c (by show _=Value.pointer _;simp[e3]));obtain⟨ax,bo,L,_⟩:=ae.goto 0 (sh:=⟨[(2,ad (aN 5)),(7,aA 2 0),(8,aA 0 0),(41,aA 1 0)],[.gone,.gone,.bl 13]⟩) (ts:=[aN 5,.nm 13]) (h:=(l,p)) (by kernel_rfl);have bO:=(D.e0 g (by simp)).1;have bV:=(D.e0 j (by simp)).1;have aB:(ax 0).1=g:=by
   have aK:=L.ptr (k:=8) rfl;rw[ae.ptr (k:=8) rfl]at aK;simp[e3]at aK;rw[<-aK];exact bA
  have b0:(ax 1).1=r.heap.size:=by
   have aK:=L.ptr (k:=41) rfl;rw[ae.ptr (k:=41) rfl]at aK;simp[e3]at aK;exact aK.symm
  have bM:(r.alloc (.mapIter (some j) c6 #[] c6)).heap[g]?=_:=(Shv.tB bO).trans a0;have bT:(r.alloc (.mapIter (some j) c6 #[] c6)).heap[j]?=_:=(Shv.tB bV).trans a';have bP:(r.alloc (.mapIter (some j) c6 #[] c6)).heap[r.heap.size]?=_:=Shv.heap_alloc_new;have cN:w.heap.size<=r.heap.size:=D.ext.size;have cx:g≠r.heap.size:=by omega
  have cG:j≠r.heap.size:=by omega
  clear ae aj D V bO bV a0 a';refine wp_block (Fg ?_);have cC:∀e,e∈es.toList->∃x,x∈l/\e.key=eJ (x.c8,x.cO)/\e.val= .bool true:=λe he=>by
   obtain⟨k,h1,ah,aC⟩:=afl ai he;obtain⟨x,aa,rfl⟩:=afk l h1;exact⟨x,aa,ah,aC⟩
  have c0:∀{x y:bD},eJ (x.c8,x.cO)=eJ (y.c8,y.cO)->x=y:=λ{x y} h=>by
   obtain⟨a,b⟩:=x;obtain⟨c,d⟩:=y;simp[eJ]at h;rw[h.1,h.2]
  refine(λ(key:∀(n:Nat) (seen:Array Nat),(leftOf es seen).size=n->∀bw bx cj w',cU ⟨w,S,λ_=>False,φ,0⟩ 61 [r.heap.size,g,j] (gG (U:=cP) [br .normal [(2,ad (aN 5)),(7,aA 2 0),(8,aA 0 0),(41,aA 1 0)] [.gone,.gone,.bl 13]] (l,p)).2 bw bx cj w'->(bw 0).1=g->(bw 1).1=r.heap.size->w'.heap[g]?=some (.cells #[.map (some j)] 85 (0,0))->w'.heap[j]?=some (.map es c6)->w'.heap[r.heap.size]?=some (.mapIter (some j) c6 seen c6)->(∀e,e∈es.toList->seen.contains e.born->∀x:bD,e.key=eJ (x.c8,x.cO)->WC po pq tb p l x=some true)->vD prog _ _ cj w')=>key _ #[] rfl ax bo _ _ L aB b0 bM bT bP (by simp)) ?_;clear L aB b0 bM bT bP;intro n;induction n using Nat.strongRecOn with
  |_ n ih=>
  intro seen cJ bn aL a1 aw K h1 bZ cu bS cz bH;refine w9 (wp_seq (qq [0,1] ?_));refine akU rfl rfl rfl rfl (gO ((K.ptr (k:=41) rfl).trans (by rw[bZ]))) cz bS an (λh0=>?_) λe he P bY=>?_
  . have M:=K.put (d:=42) (x:= .tuple #[.bool false]) (v:= .bd [.c (.t ⟨.bool,false⟩)]) (cb.vA (.cons (.c (.t _)) .nil)) (ch.vA (.cons (.c (ca.bool _)) .nil));refine M.op 2 1 1 [(2,ad (aN 5)),(7,aA 2 0),(8,aA 0 0),(41,aA 1 0),(43,ad .bool)] [.gone,.gone,.bl 13] (h:=(l,false,p)) .n (by kernel_rfl) λde cg a3 b6 X cV=>?_;refine wp_seq (wp_cond_false (gO (X.bool (k:=43) rfl)) (wp_exit ?_));have aV:b=true:=cK λx aa=>by
     have:jD (mI l) x:=by
      rw[J3,xJ];exact⟨x,aa,by simp[eZ]⟩
     unfold jD iX at this;obtain⟨k,a7,a8⟩:=xJ.1 this;have a8:=hx a8;obtain⟨e,he,ah⟩:=aeR ai a7;exact bH e he (all_seen es seen h0 e he) x (by rw[ah,a8])
    subst aV;exact X.hg 2 [br .ret [(6,ad .bool)] [.gone,.gone]] (o:=true) .n (by kernel_rfl) λay aM a4 bk O W=>Y O rfl
  . obtain⟨aY,ds⟩:=mem_left he;obtain⟨x,cQ,aX,bK⟩:=cC e aY;rw[aX,bK];have M:=cU.set (q:=r.heap.size) (w:=P) (by rcases bY with rfl|rfl;exact K;exact K.drew) (.mapIter (some j) c6 (seen.push e.born) c6) (by simp) cN;have a6:P.heap=aw.heap:=by rcases bY with rfl|rfl<;>rfl
    have cv:(ChangeMaps.setBlock P r.heap.size (.mapIter (some j) c6 (seen.push e.born) c6)).heap[g]?=some (.cells #[.map (some j)] 85 (0,0)):=(IX cx).trans (a6▸cu);have cF:(ChangeMaps.setBlock P r.heap.size (.mapIter (some j) c6 (seen.push e.born) c6)).heap[j]?=some (.map es c6):=(IX cG).trans (a6▸bS);have cA:(ChangeMaps.setBlock P r.heap.size (.mapIter (some j) c6 (seen.push e.born) c6)).heap[r.heap.size]?=some (.mapIter (some j) c6 (seen.push e.born) c6):=ab5 (by rw[a6];exact(K.e0 _ (by simp)).1);generalize ChangeMaps.setBlock P r.heap.size (.mapIter (some j) c6 (seen.push e.born) c6)=b6 at*
    have X:=M.put (d:=42) (x:= .tuple #[.bool true,eJ (x.c8,x.cO),.bool true]) (v:= .bd [.c (.t ⟨.bool,true⟩),.agg [.t ⟨.int .i64,x.c8⟩,.t ⟨.int .i64,x.cO⟩],.c (.t ⟨.bool,true⟩)]) (cb.vA (.cons (.c (.t _)) (.cons (cb.An (x.c8,x.cO)) (.cons (.c (.t _)) .nil)))) (ch.vA (.cons (.c (ca.bool _)) (.cons (ch.An (x.c8,x.cO)) (.cons (.c (ca.bool _)) .nil))));refine X.op 2 1 1 [(2,ad (aN 5)),(7,aA 2 0),(8,aA 0 0),(41,aA 1 0),(43,ad .bool)] [.gone,.gone,.bl 13] (h:=(l,true,p)) .n (by kernel_rfl) λay aM a4 bk O W=>?_;refine wp_seq (wp_cond_true (gO (O.bool (k:=43) rfl)) (wp_skip ?_));have aE:(ay 0).1=g:=by rw[W.fix 0 (by decide)];exact h1
    have b1:(ay 1).1=r.heap.size:=by rw[W.fix 1 (by decide)];exact bZ
    have cw:=(W.ar g (by simp)).trans cv;have bU:=(W.ar j (by simp)).trans cF;have bQ:=(W.ar r.heap.size (by simp)).trans cA;refine wp_block (wp_seq (qq [0,1,2,3] ?_));refine o7 rfl rfl rfl (akq rfl (gO ((O.ptr (k:=41) rfl).trans (by rw[b1]))) bQ bU aY an) ?_;rw[aX,bK];have ak:=O.put (d:=44) (x:= .tuple #[eJ (x.c8,x.cO),.bool true]) (v:= .bd [.agg [.t ⟨.int .i64,x.c8⟩,.t ⟨.int .i64,x.cO⟩],.c (.t ⟨.bool,true⟩)]) (cb.vA (.cons (cb.An (x.c8,x.cO)) (.cons (.c (.t _)) .nil))) (ch.vA (.cons (ch.An (x.c8,x.cO)) (.cons (.c (ca.bool _)) .nil)));refine ak.op 2 1 3 [(2,ad (aN 5)),(7,aA 2 0),(8,aA 0 0),(41,aA 1 0),(11,aA 3 0)] [.gone,.gone,.bl 13,.bl 5] (h:=(l,p,x)) .n (by kernel_rfl) λdA dj dn dv af aq=>?_;obtain⟨y,al,bf⟩:=cr x cQ;have cR:=al;obtain⟨c',aK,al⟩:=lp.1 al;cases c' with
    |false=>
     cases al;cases bf rfl;refine wp_seq (af.hg 2 [br .ret [(6,ad .bool)] [.gone,.gone],br .normal [(2,ad (aN 5)),(7,aA 2 0),(8,aA 0 0),(41,aA 1 0),(11,aA 3 0)] [.gone,.gone,.bl 13,.bl 5]] (o:= .inl false) (.k aS (.k aT .n)) ((show _=(po (p,x)>>=λA=>(if !(!A) then pq (p,x)else some false)>>=λF=>if(bif (!A)then true else(!F)) then some (Sum.inl false)else some (Sum.inr (l,p,x))) by kernel_rfl).trans (by rw[aK];rfl)) λb' bq bt b7 G Z=>?_);exact Y G rfl
    |true=>
    obtain⟨da,am,al⟩:=lp.1 al;cases da with
    |false=>
     cases al;cases bf rfl;refine wp_seq (af.hg 2 [br .ret [(6,ad .bool)] [.gone,.gone],br .normal [(2,ad (aN 5)),(7,aA 2 0),(8,aA 0 0),(41,aA 1 0),(11,aA 3 0)] [.gone,.gone,.bl 13,.bl 5]] (o:= .inl false) (.k aS (.k aT .n)) ((show _=(po (p,x)>>=λA=>(if !(!A) then pq (p,x)else some false)>>=λF=>if(bif (!A)then true else(!F)) then some (Sum.inl false)else some (Sum.inr (l,p,x))) by kernel_rfl).trans (by rw[aK];simp[am];rfl)) λb' bq bt b7 G Z=>?_);exact Y G rfl
    |true=>
    obtain⟨m,dB,al⟩:=lp.1 al;refine wp_seq (af.hg 2 [br .ret [(6,ad .bool)] [.gone,.gone],br .normal [(2,ad (aN 5)),(7,aA 2 0),(8,aA 0 0),(41,aA 1 0),(11,aA 3 0)] [.gone,.gone,.bl 13,.bl 5]] (o:= .inr (l,p,x)) (.k aS (.k aT .n)) ((show _=(po (p,x)>>=λA=>(if !(!A) then pq (p,x)else some false)>>=λF=>if(bif (!A)then true else(!F)) then some (Sum.inl false)else some (Sum.inr (l,p,x))) by kernel_rfl).trans (by rw[aK];simp[am];rfl)) λb' bq bt b7 G Z=>?_);refine wp_seq (qq [0,1,2,3,4] ?_);refine G.op 2 0 4 [(2,ad (aN 5)),(7,aA 2 0),(8,aA 0 0),(41,aA 1 0),(58,ad (aN 5)),(59,.c (.fn 44 [0]))] [.gone,.gone,.bl 13] (h:=(l,m,p)) (.k cq .n) ((show _=(tb (p,x)>>=λm=>some (l,m,p)) by kernel_rfl).trans (by rw[dB];rfl)) λcc dk dp bm H au=>?_;have bC:(cc 0).1=g:=by rw[au.fix 0 (by decide),Z.fix 0 (by decide),aq.fix 0 (by decide)];exact aE
    have cS:(cc 1).1=r.heap.size:=by rw[au.fix 1 (by decide),Z.fix 1 (by decide),aq.fix 1 (by decide)];exact b1
    have bN:=(au.ar g (by simp)).trans ((Z.ar g (by simp)).trans ((aq.ar g (by simp)).trans cw));have ap:=(au.ar j (by simp)).trans ((Z.ar j (by simp)).trans ((aq.ar j (by simp)).trans bU));have cB:=(au.ar r.heap.size (by simp)).trans ((Z.ar r.heap.size (by simp)).trans ((aq.ar r.heap.size (by simp)).trans bQ));obtain⟨u,cT,cL⟩:=H.cell (k:=58) rfl;refine Hj rfl rfl rfl (u4 rfl rfl (f:=42) (caps:=[]) rfl (by kernel_rfl)) (args:=#[u,.func (.func 44) #[] #[.pointer (some ⟨g,0,none⟩)]]) ?_ ?_
    simp[gO cT,gO (H.fn (k:=59) rfl),bC]
    refine(Xv m ⟨H.st,⟨_,bN⟩,⟨_,_,ap,ai⟩,(H.e0 g (by simp)).2,(H.e0 j (by simp)).2⟩ cL).mono ?_
    rintro dw c3 ⟨ci,rfl,fv⟩
    refine⟨_,rfl,?_⟩;have Q:=(H.extend fv.1 fv.2).put (d:=60) (x:= .bool (m.any λx=>!jD (mI l) x)) (v:= .c (.t ⟨.bool,m.any λx=>!jD (mI l) x⟩)) (.c (.t _)) (.c (ca.bool _));have bG:(m.any λx=>!jD (mI l) x)=!y:=by
     cases al;rw[List.not_all_eq_any_not];congr 1;funext y;rw[J3]
    cases y with
    |false=>
     cases bf rfl;refine wp_cond_true ((gO (Q.bool (k:=60) rfl)).trans (by rw[bG];rfl)) ?_;refine Q.hg 2 [br .ret [(6,ad .bool)] [.gone,.gone]] (o:=false) .n (by kernel_rfl) λaJ az bs b5 ab R=>?_;exact Y ab rfl
    |true=>
     refine wp_cond_false ((gO (Q.bool (k:=60) rfl)).trans (by rw[bG];rfl)) (wp_skip ?_);obtain⟨aJ,az,ab,R⟩:=Q.goto 2 (sh:=⟨[(2,ad (aN 5)),(7,aA 2 0),(8,aA 0 0),(41,aA 1 0)],[.gone,.gone,.bl 13]⟩) (ts:=[aN 5,.nm 13]) (h:=(l,p)) (by kernel_rfl);refine ih _ (by rw[<-cJ];exact left_shrinks es seen e he) (seen.push e.born) rfl aJ az _ c3 ab (by rw[R.fix 0 (by decide)];exact bC) (by rw[R.fix 1 (by decide)];exact cS) (fv.heap bN) (fv.heap ap) (fv.heap cB) λbv bI bX c4 be=>?_;rw[contains_push]at bX;rcases lW _ _▸bX with h|h
     exact bH bv bI h c4 be;have:bv=e:=born_inj an.2 bI aY (jl.1 h);subst this;rw[aX]at be;rw[<-c0 be];exact cR
end
abbrev bn(e:eQ)(F:a8 cP.D e.ts->ai (a8 cP.D e.us)):Prop:=fS prog (e.s F)
abbrev cF(f kk:Nat)(p:bb)(e:hh)(F:a8 cP.D e.ts->ai (eM cP e.outs)):Prop:=ob prog f kk p e F
abbrev Tt(e:eQ):Prop:=je prog e
abbrev eX(e:eQ):a8 cP.D e.ts->a8 cP.D e.us->Prop:=Cx prog cP e
abbrev fw(f kk:Nat)(p:bb)(e:hh):a8 cP.D e.ts->eM cP e.outs->Prop:=yG prog cP f kk p e
abbrev e6(e:eQ)(F:a8 cP.D e.ts->ai (a8 cP.D e.us)):Prop:=∀h r,F h=some r->eX e h r
abbrev fx(f kk:Nat)(p:bb)(e:hh)(F:a8 cP.D e.ts->ai (eM cP e.outs)):Prop:=∀h r,F h=some r->fw f kk p e h r
theorem fb{e:eQ}{h:a8 cP.D e.ts}{r:a8 cP.D e.us}{x:ai (a8 cP.D e.us)}(h0:x=some r)(b:jd prog fs:=by exact .n){a:I (Nat×hX cP)}(ak:j8 prog e.f e.st.length [] a:=by exact .n)(k:Tt e:=by exact .m (by kernel_rfl))(aa:q9 (hN fs) (ln a) prog e h=x:=by kernel_rfl):eX e h r:= .at k b ak (aa.trans h0)
theorem fK(e:hh){F:a8 cP.D e.ts->ai (eM cP e.outs)}(bJ:fx f kk p e F){h:a8 cP.D e.ts}{o:eM cP e.outs}{x:ai (eM cP e.outs)}(h0:x=some o)(b:jd prog fs:=by exact .n){a:I (Nat×hX cP)}(ak:j8 prog f kk p a:=by exact .n)(aa:sv (hN fs) (ln a) kk (qV prog f p) e F h=x:=by kernel_rfl):fw f kk p e h o:= .at bJ b ak (aa.trans h0)
theorem cL(e:eQ){F:a8 cP.D e.ts->ai (a8 cP.D e.us)}(h:e6 e F)(k:Tt e:=by exact .m (by kernel_rfl)):bn e F:= .of k h
theorem fL(e:hh){F:a8 cP.D e.ts->ai (eM cP e.outs)}(h:fx f kk p e F):cF f kk p e F:= .of h
def mV:I dZ:=[.arr (.nm 5)]
def Gm:I dZ:=[.arr (.nm 15)]
def yD:I dZ:=[.arr (.int .u8)]
def Gl:I (Nat×dO):=[(4,.c (.arr 0))]
def Gk:I (Nat×dO):=[(2,aA 0 0),(3,aA 1 0)]
def Gj:I (Nat×dO):=[(1,aA 0 0),(2,aA 1 0)]
def K0:I (Nat×dO):=[(6,aA 2 0),(10,aA 3 0)]
def yC:I (Nat×dO):=[(6,aA 2 0),(7,ad .bool)]
def KZ:I (Nat×dO):=[(10,aA 0 0),(13,aA 1 0)]
def Gi:I (Nat×dO):=[(2,.c (.bX)),(3,ad ao)]
def vJ:I dZ:=[.cu 116 ((.cQ 1)),.buf 5]
def yB:I dZ:=[.box [.hole (aN 6),.hole ao]]
def Gh:I (Nat×dO):=[(2,ad ao),(3,ad ao),(4,ad ao)]
def KX:I (Nat×dO):=[(2,aA 0 0),(3,aA 1 0),(5,ad ao)]
def Xo:I dZ:=[.cu 116 ((.cQ 2)),.gone,.buf 5]
def Gg:I (Nat×dO):=[(1,aA 0 0),(3,.c (.arr 1)),(4,ad ao)]
def Gf:I gS:=[.hole (aN 6),.arr 5,.hole eb,.hole ao]
def KW:I gS:=[.hole (aN 6),.arr 4,.hole eb,.hole ao]
def Xn:I dZ:=[.box [.bX],.box [.arr 2],.arr (.nm 2)]
def Xm:I (Nat×dO):=[(1,aA 0 0),(3,.c (.arr 1)),(4,ad .bool)]
def KV:I (Nat×dO):=[(0,ad (.int .u64)),(3,aA 0 0),(4,ad ao)]
def Xk:I dZ:=[.box [.hole (aN 6),.hole ao],.arr (.nm 14)]
def Xj:I (Nat×dO):=[(3,ad .bool),(4,aA 0 0),(6,aA 1 0),(9,aA 2 0)]
def Xi:I (Nat×dO):=[(1,aA 0 0),(16,ad (aN 6)),(17,ad ao),(18,ad ao)]
def Xh:I (Nat×dO):=[(4,aA 0 0),(6,aA 1 0),(9,.c (.arr 2)),(10,ad ao)]
def Xg:I dZ:=[.box [.hole (aN 6),.hole ao],.bl 9,.arr (.nm 14)]
def Xf:I dZ:=[.box [.hole (aN 6),.hole ao,.hole (aN 6),.hole ao]]
def vI:I dZ:=[.box [.hole (aN 6),.arr 1,.hole eb,.hole ao],.arr ao]
def Xe:I (Nat×dO):=[(0,aA 0 0),(4,aA 2 0),(6,aA 3 0),(8,ad kr),(10,aA 4 0)]
def Xd:I dZ:=[.box [.hole (aN 6),.hole ao],.cu 116 ((.cQ 2)),.buf 5]
def Xc:I (Nat×dO):=[(3,aA 0 0),(5,aA 1 0),(7,aA 2 0),(14,ad .str),(15,ad ao)]
def vH:I dZ:=[.box [.hole (aN 6),.hole (aN 6),.arr 1,.hole eb],.arr ao]
def yz:I dZ:=[.box [.hole (aN 6),.arr 2,.hole eb,.hole ao],.gone,.arr ao]
def Xb:I (Nat×dO):=[(1,aA 0 0),(2,aA 1 0),(35,.c (.arr 2)),(36,ad ao),(37,ad ao)]
def Xa:I (Nat×dO):=[(1,aA 0 0),(2,aA 1 0),(20,.c (.arr 2)),(21,ad ao),(22,ad ao)]
def yy:I dZ:=[.box [.hole (aN 6),.hole (aN 6),.arr 2,.hole eb],.gone,.arr ao]
def mU:I gS:=[.hole ao,.hole .bool,.hole ao,.hole .str,.hole ao,.bX,.bX,.bX]
def Ge:I dZ:=[.box [.hole (aN 6),.arr 3,.hole eb,.hole ao],.gone,.bl 9,.arr ao]
def W':I gS:=[.hole ao,.hole .bool,.hole ao,.hole .str,.hole ao,.bX,.arr 4,.bX]
def Gd:I gS:=[.hole ao,.hole .bool,.hole ao,.hole .str,.hole ao,.arr 4,.bX,.bX]
def W9:I dZ:=[.box [.hole (aN 6),.hole (aN 6),.arr 2,.arr 3],.gone,.arr ao,.arr ao]
def W8:I gS:=[.hole ao,.hole .bool,.hole ao,.hole .str,.hole ao,.bX,.arr 6,.arr 7]
def W7:I gS:=[.hole ao,.hole .bool,.hole ao,.hole .str,.hole ao,.bX,.arr 5,.arr 6]
def W6:I gS:=[.hole ao,.hole .bool,.hole ao,.hole .str,.hole ao,.bX,.arr 2,.arr 3]
def W5:I (Nat×dO):=[(1,ad ao),(2,ad .bool),(3,aA 0 0),(7,aA 1 0),(8,.c (.arr 2)),(9,ad ao)]
def W4:I dZ:=[.box [.hole (aN 6),.arr 3,.arr 4,.hole ao],.gone,.bl 9,.arr ao,.arr ao]
def W3:I gS:=[.hole ao,.hole .bool,.hole ao,.hole .str,.hole ao,.arr 7,.bX,.hole (aN 10)]
def W2:I dZ:=[.box [.hole (aN 6),.hole (aN 6),.arr 3,.hole eb],.gone,.arr (.nm 9),.arr ao]
def W1:I (Nat×dO):=[(3,ad ao),(4,ad eb),(5,aA 0 0),(6,aA 1 0),(10,aA 2 0),(11,ad kr),(13,aA 3 0)]
def s8:I gS:=[.hole ao,.hole .bool,.hole ao,.hole .str,.hole ao,.bX,.bX,.bX,.bX,.hole .bool]
def W0:I gS:=[.hole ao,.hole .str,.hole ao,.hole ao,.hole ao,.arr 5,.bX,.hole ao,.hole ao,.hole .bool]
def Xq:I gS:=[.hole ao,.hole .bool,.hole ao,.hole .str,.hole ao,.hole (aN 9),.hole (aN 9),.hole (aN 10)]
def Xp:I (Nat×dO):=[(3,ad ao),(4,ad eb),(5,aA 0 0),(6,aA 1 0),(10,aA 2 0),(11,ad kr),(13,aA 3 0),(14,ad ao)]
def mW:I gS:=[.hole ao,.hole .bool,.hole ao,.hole .str,.hole ao,.bX,.bX,.bX,.bX,.hole ao,.hole .bool]
def j7:I gS:=[.hole ao,.hole .str,.hole ao,.hole ao,.hole ao,.hole (aN 7),.hole (aN 8),.hole ao,.hole ao,.hole .bool]
def KY:I dZ:=[.box j7]
def Xl:I dZ:=[.box [.hole ao,.hole .bool,.hole ao,.hole .str,.hole ao,.arr 3,.arr 2,.arr 4],.box mU,.arr (.nm 9),.arr (.nm 9),.arr (.nm 10)]
def yA:I dZ:=[.box [.hole ao,.hole .bool,.hole ao,.hole .str,.hole ao,.arr 2,.arr 3,.arr 4],.box mU,.arr (.nm 9),.arr (.nm 9),.arr (.nm 10)]
def KU:I dZ:=[.box Gf,.gone,.bl 6,.box mU,.box [.hole ao,.hole .bool,.hole ao,.hole .str,.hole ao,.bX,.arr 6,.bX],.arr ao,.arr (.nm 9)]
def Gc:I dZ:=[.box Gf,.gone,.bl 6,.box mU,.box [.hole ao,.hole .bool,.hole ao,.hole .str,.hole ao,.arr 6,.bX,.bX],.arr ao,.arr (.nm 9)]
def WZ:I dZ:=[.box [.hole (aN 6),.hole (aN 6),.arr 7,.hole eb],.gone,.bl 6,.bl 9,.bl 6,.box mU,.box [.hole ao,.hole .bool,.hole ao,.hole .str,.hole ao,.bX,.arr 8,.bX],.arr ao,.arr (.nm 9)]
def ajV:=aW 82 [.row 1,ad ao] (ad ao)
def ajW:=aW 83 [ad ao] (ad .bool)
def ajX:=aW 84 [.row 2] (ad ao)
def ajY:=aW 85 [.row 2] (ad ao)
def VG:=bQ 0 Gg [.bl 2,.arr ao] [br (.exit 0) [(3,.c (.arr 0))] [.arr ao]] [] [(.slot 3,ao)]
def ajZ:=aW 86 [.row 2] (ad eb) [VG]
def ai9:=aW 196 [ad ao] (ad .bool)
def RJ:=bQ 0 [(3,aA 0 0),(7,ad ao),(9,ad ao)] [b' (aN 2)] [en 6 ao,fF 0]
def aiM:=aW 138 [.row 1,ad ao,ad (.int .u8)] (ad ao) [RJ]
def aiO:=aW 140 [ad ao] (ad .bool)
def VI:=bQ 0 [(1,ad (.int .u8)),(2,aA 0 0),(5,ad ao),(6,ad ao)] [b' (aN 2)] [en 4 ao,fF 0]
def aj1:=aW 88 [.row 1,ad (.int .u8)] (ad ao) [VI]
def aiN:=aW 139 [.row 1,ad ao,ad (.int .u8)] (.bd [.row 9,ad .bool])
def Rh:=bQ 0 [(1,ad ao),(2,ad .bool),(3,aA 0 0),(7,aA 1 0),(8,.c (.arr 2)),(9,ad ao),(10,ad ao)] [b' (aN 2),.bl 2,.arr (.nm 8)] [br (.exit 2) W5 [b' (aN 2),.bl 2,.arr (.nm 8)]]
def VH:=bQ 0 W5 [b' (aN 2),.bl 2,.arr (.nm 8)] [br (.exit 0) [(8,.c (.arr 0))] [.arr (.nm 8)]] [Rh] [(.slot 8,.nm 8)]
def aj0:=aW 87 [.row 1,ad ao,ad .bool] (ad (aN 8)) [VH]
def Ri:=bQ 0 [(1,aA 0 0),(2,aA 1 0),(4,ad ao),(5,aA 2 0),(6,ad ao),(8,aA 3 0),(9,ad eb),(10,ad ao)] [b' (aN 2),.box [.bX],.box [.arr 4],.box W0,.arr (.nm 6),.arr (.nm 7)] [br (.exit 3) [(1,aA 0 0),(2,aA 1 0),(4,ad ao),(5,aA 2 0),(6,ad ao),(8,aA 3 0)] [b' (aN 2),.box [.bX],.box [.arr 4],.box W0,.arr (.nm 6),.arr (.nm 7)]] [] [(.via 8 5,.nm 7)]
def Vo:=bQ 0 [(1,aA 0 0),(2,aA 1 0),(4,ad ao),(5,aA 2 0),(6,ad ao)] [b' (aN 2),.box [.bX],.box [.arr 3],.arr (.nm 6)] [br (.exit 0) [(2,aA 0 0),(5,aA 1 0)] [.box [.bX],.box [.arr 2],.arr (.nm 6)]] [Ri] [(.via 5 0,.nm 6)]
def ajE:=aW 34 [.row 1] (.bd [.row 11,ad .bool]) [Vo]
def Vp:=bQ 0 [(1,ad (aN 4)),(4,aA 0 0),(5,aA 1 0),(6,ad ao)] Xn [br (.exit 0) [(4,aA 0 0),(5,aA 1 0)] Xn]
def ajF:=aW 35 [.row 1,ad (aN 4)] (.row 1) [Vp]
def aiA:=aW 11 [.row 0] (.bd [.row 12,.row 12,ad .bool])
def Vq:=aW 36 [ad ao] (.row 12)
def RK:=bQ 0 [(0,ad (aN 7)),(1,ad (aN 7)),(12,ad ao),(13,ad ao)] [] [en 4 .bool,fF 0]
def Vi:=aW 324 [ad (aN 7),ad (aN 7)] (ad .bool) [RK]
def RL:=bQ 0 [(0,ad (aN 10)),(1,ad (aN 10)),(12,ad ao),(13,ad ao)] [] [en 4 .bool,fF 0]
def Vd:=aW 316 [ad (aN 10),ad (aN 10)] (ad .bool) [RL]
def AS:=bQ 0 [(1,ad (aN 9)),(2,.c (.fn 327 [])),(15,ad (aN 9)),(16,ad ao),(17,ad ao)] [] [en 6 .bool,fF 0]
def FH:=aW 317 [ad (aN 9),ad (aN 9),.c (.fn 327 [])] (ad .bool) [AS]
def yX:=aW 327 [.row 9,.row 9] (ad .bool)
def Vk:=aW 326 [.row 8,.row 8] (ad .bool)
def RM:=bQ 0 [(1,ad (aN 8)),(2,.c (.fn 326 [])),(15,ad (aN 8)),(16,ad ao),(17,ad ao)] [] [en 6 .bool,fF 0]
def Vj:=aW 325 [ad (aN 8),ad (aN 8),.c (.fn 326 [])] (ad .bool) [RM]
def U3:=aW 278 [.row 6,.row 6] (ad .bool)
def Ve:=aW 320 [ad (.int .u8)] (ad .bool)
def Vf:=aW 321 [ad (.int .u8)] (ad .bool)
def RN:=bQ 0 [(0,ad .str),(18,ad ao),(19,ad ao)] [] [en 2 .bool,fF 0]
def U0:=aW 275 [ad .str] (ad .bool) [RN]
def RO:=bQ 0 [(0,ad eb),(1,ad kr),(5,.c (.mp 0)),(9,ad eb),(10,ad ao),(11,ad ao)] [.set] [en 4 .bool,br (.exit 0) [(0,ad eb)]]
def Vg:=aW 322 [ad eb,ad kr] (ad .bool) [RO]
def RP:=bQ 0 [(0,ad (aN 7)),(3,.c (.arr 0)),(4,.c (.arr 1)),(7,ad (aN 7)),(8,ad ao),(9,ad ao)] [.arr ao,.arr .str] [br (.exit 0) [(0,ad (aN 7)),(3,.c (.arr 0)),(4,.c (.arr 1))] [.arr ao,.arr .str]] [] [(.slot 3,ao),(.slot 4,.str)]
def U1:=aW 276 [ad (aN 7)] (ad .bool) [RP]
def Vh:=aW 323 [.row 9] (ad .bool)
def S5:=bQ 0 [(1,aA 0 0),(3,.c (.arr 1)),(4,.c (.arr 2)),(8,ad (aN 8)),(9,ad ao),(10,ad ao)] [.bl 6,.arr ao,.arr .str] [en 2 .bool,br (.exit 0) [(1,aA 0 0),(3,.c (.arr 1)),(4,.c (.arr 2))] [.bl 6,.arr ao,.arr .str]] [] [(.slot 3,ao),(.slot 4,.str)]
def U2:=aW 277 [.row 6] (ad .bool) [S5]
def UE:=aW 206 [.row 6] (ad .bool)
def S6:=bQ 0 [(1,aA 0 0),(3,.c (.arr 1)),(7,ad (aN 8)),(8,ad ao),(9,ad ao)] [.bl 6,.arr ao] [br (.exit 0) [(1,aA 0 0),(3,.c (.arr 1))] [.bl 6,.arr ao]] [] [(.slot 3,ao)]
def UF:=aW 207 [.row 6] (ad eb) [S6]
def QC:=bQ 0 [(1,aA 0 0),(3,.c (.mp 1)),(5,aA 2 0),(14,ad (aN 6)),(15,ad ao),(16,ad ao),(38,ad eb),(39,ad ao),(40,ad ao)] [b' (aN 6),.set,.box j7] [en 2 ao,br (.exit 2) [(1,aA 0 0),(3,.c (.mp 1)),(5,aA 2 0),(14,ad (aN 6)),(15,ad ao),(16,ad ao)] [b' (aN 6),.set,.box j7]]
def S7:=bQ 0 [(1,aA 0 0),(3,.c (.mp 1)),(14,ad (aN 6)),(15,ad ao),(16,ad ao)] [b' (aN 6),.set] [en 2 ao,fF 0] [QC]
def Up:=aW 147 [.row 11] (ad ao) [S7]
def UJ:=aW 216 [.row 9] (.row 9)
def Uq:=aW 149 [.row 9] (ad .bool)
def UL:=aW 218 [.row 7,aA 0 0] (ad .bool) [] [b' ao] [b' ao]
def S8:=bQ 0 [(0,ad (aN 7)),(1,.c (.fn 218 [0])),(7,ad ao),(8,ad ao)] [b' ao] [br .ret [(4,ad ao)] [b' ao],br (.exit 0) [] [b' ao]]
def UK:=aW 217 [ad (aN 7),.c (.fn 218 [0])] (ad ao) [S8] [b' ao] [b' ao]
def Ur:=aW 150 [.row 6,ad ao] (.bd [ad ao,ad .bool])
def Us:=aW 151 [ad ao] (ad .bool)
def UN:=aW 220 [.row 8,aA 0 0] (ad .bool) [] [b' ao] [b' ao]
def S9:=bQ 0 [(0,ad (aN 8)),(1,.c (.fn 220 [0])),(7,ad ao),(8,ad ao)] [b' ao] [br .ret [(4,ad ao)] [b' ao],br (.exit 0) [] [b' ao]]
def UM:=aW 219 [ad (aN 8),.c (.fn 220 [0])] (ad ao) [S9] [b' ao] [b' ao]
def Ut:=aW 152 [.row 6,ad ao] (.bd [ad ao,ad .bool])
def CW:=aW 222 [.row 9,aA 0 0,aA 1 0,aA 2 0] (ad .bool) [] [b' (aN 6),b' ao,b' .bool] [b' (aN 6),b' ao,b' .bool]
def Bw:=bQ 0 [(0,ad (aN 9)),(1,.c (.fn 222 [0,1,2])),(7,ad ao),(8,ad ao)] [b' (aN 6),b' ao,b' .bool] [br .ret [(4,ad ao)] [b' (aN 6),b' ao,b' .bool],br (.exit 0) [] [b' (aN 6),b' ao,b' .bool]]
def CX:=aW 285 [ad (aN 9),.c (.fn 222 [0,1,2])] (ad ao) [Bw] [b' (aN 6),b' ao,b' .bool] [b' (aN 6),b' ao,b' .bool]
def CV:=aW 221 [ad (aN 9),.c (.fn 222 [0,1,2])] (ad .bool) [] [b' (aN 6),b' ao,b' .bool] [b' (aN 6),b' ao,b' .bool]
def CK:=aW 153 [.row 11,ad ao,ad (aN 9),ad .bool] (ad .bool)
def Uy:=aW 158 [ad ao] (ad (.int .u64))
def U9:=aW 286 [ad (.int .u64)] (ad .bool)
def UO:=aW 223 [ad (.int .u64),ad (.int .u64)] (ad ao)
def U':=aW 287 [ad ao] (ad .bool)
def UQ:=aW 225 [ad ao,ad ao] (ad ao)
def Va:=aW 288 [ad .str] (ad .bool)
def UR:=aW 226 [ad .str,ad .str] (ad ao)
def S':=bQ 0 [(3,ad ao),(6,ad eb),(7,ad ao),(8,ad ao)] [] [en 2 ao,br (.exit 0) [(3,ad ao)]]
def UP:=aW 224 [ad eb] (ad ao) [S']
def Uu:=aW 154 [.row 9,.row 9] (ad ao)
def Ta:=bQ 0 [(3,ad .bool),(4,aA 0 0),(6,aA 1 0),(9,aA 2 0),(111,ad (aN 10)),(112,ad ao),(113,ad ao)] [b' (aN 6),.bl 9,.box j7] [en 8 .bool,br (.exit 1) Xj [b' (aN 6),.box Xq,.box j7]]
def Bx:=bQ 1 [(3,ad .bool),(4,aA 0 0),(6,aA 1 0),(150,ad (aN 8)),(151,ad ao),(152,ad ao)] [b' (aN 6),.box Xq] [en 8 .bool,fF 3]
def Tb:=bQ 2 [(3,ad .bool),(4,aA 0 0),(6,aA 1 0),(9,aA 2 0),(20,ad ao)] [b' (aN 6),.bl 9,.box j7] [en 8 .bool,br (.exit 5) Xj [b' (aN 6),.bl 9,.box j7]]
def tp:=aW 101 [.row 11,ad ao,.row 9,ad .bool] (ad .bool) [Ta,Bx,Tb]
def VB:=aW 54 [.row 11,ad ao,.row 9] (ad .bool)
def QD:=bQ 0 [(1,aA 0 0),(6,ad ao),(16,ad (aN 6)),(17,ad ao),(18,ad ao),(24,ad (aN 8)),(25,ad ao),(26,ad ao)] [b' (aN 6)] [br .ret Gh,br (.exit 2) Xi [b' (aN 6)]]
def Tc:=bQ 0 Xi [b' (aN 6)] [br .ret Gh,fF 0] [QD]
def UY:=aW 270 [.row 11] (.bd [ad ao,ad ao,ad ao]) [Tc]
def UC:=aW 197 [.row 11] (ad ao)
def Td:=bQ 0 [(1,.c (.arr 0)),(5,ad ao),(33,ad (aN 8)),(34,ad ao),(35,ad ao)] [.arr ao] [br (.exit 1) [(5,ad ao)] [.arr ao]]
def Te:=bQ 1 [(1,.c (.arr 0)),(8,ad ao),(52,ad (aN 8)),(53,ad ao),(54,ad ao)] [.arr ao] [br (.exit 3) [(8,ad ao)] [.arr ao]]
def UZ:=aW 271 [.row 6,.c (.arr 0)] (ad ao) [Td,Te] [.arr ao] [.arr ao]
def QE:=bQ 0 [(1,aA 0 0),(3,.c (.arr 1)),(4,ad .bool),(14,ad (aN 6)),(15,ad ao),(16,ad ao)] [b' (aN 6),.arr ao] [br (.exit 2) Xm [b' (aN 6),.arr ao]]
def Tf:=bQ 0 Xm [b' (aN 6),.arr ao] [br (.exit 0) [(3,.c (.arr 0))] [.arr ao]] [QE]
def UD:=aW 198 [.row 11] (ad eb) [Tf]
def Tg:=bQ 0 [(5,.c (.arr 0)),(14,ad eb),(15,ad ao),(16,ad ao)] [.arr .bool] [br (.exit 0) [(5,.c (.arr 0))] [.arr .bool]] [] [(.slot 5,.bool)]
def Uo:=aW 141 [.row 11] (.bd [ad (.slice .bool),ad ao]) [Tg]
def VK:=bQ 0 [(15,ad (.slice .bool)),(16,ad ao),(17,ad ao)] [] [en 2 ao,fF 0]
def VJ:=aW 89 [.row 11] (ad ao) [VK]
def G4:=aW 37 [.row 12] (ad .bool)
def agj:=bQ 0 [(0,ad (aN 5)),(3,aA 0 0),(7,ad ao),(8,ad ao)] [.bl 5] [en 4 ao,fF 0]
def aj2:=aW 90 [ad (aN 5),.row 5] (ad ao) [agj]
def Vr:=aW 38 [ad (aN 5),.row 5] (ad .bool)
def Vs:=aW 39 [.row 13] (.row 5)
def Vt:=aW 40 [.row 13,.row 5] (ad .bool)
def ai':=aW 199 [.row 11,ad ao] (ad ao)
def aiP:=aW 142 [.row 12,.row 12] (ad ao)
def aja:=aW 200 [.row 6] (ad ao)
def agT:=bQ 0 [(2,aA 0 0),(3,aA 1 0),(16,ad (aN 7)),(17,ad ao),(18,ad ao)] [.bl 6,.bl 6] [en 4 .bool,br (.exit 0) Gk [.bl 6,.bl 6]]
def agU:=bQ 1 [(3,aA 0 0),(33,ad (aN 8)),(34,ad ao),(35,ad ao)] [.bl 6] [en 4 .bool,fF 2]
def ajb:=aW 201 [.row 6,.row 6] (ad .bool) [agT,agU]
def UA:=aW 162 [.row 11,ad ao] (ad ao)
def Um:=aW 104 [.row 11,ad ao,.row 9,.row 11,ad ao] (ad ao)
def UB:=aW 163 [aA 0 0] (.bd [.row 9,ad .bool]) [] vH W9
def UW:=aW 233 [aA 0 0,ad ao] (.bd [.row 9,ad .bool]) [] vH W9
def By:=bQ 0 Xa yA [br (.exit 0) Gj yA]
def Bz:=bQ 1 Xb Xl [br (.exit 2) Gj yA]
def wg:=aW 234 [.row 9] (.row 9) [By,Bz]
def wh:=aW 235 [aA 0 0,ad ao,ad ao,.row 9,ad ao] (.bd [.row 9,ad .bool]) [] vH yy
def AT:=bQ 0 [(1,ad (aN 9)),(2,.c (.fn 272 [])),(15,ad (aN 9)),(16,ad ao),(17,ad ao)] [] [en 6 .bool,fF 0]
def FI:=aW 317 [ad (aN 9),ad (aN 9),.c (.fn 272 [])] (ad .bool) [AT]
def yW:=aW 272 [.row 9,.row 9] (ad .bool)
def UX:=aW 236 [.row 8,.row 9] (ad .bool)
def Th:=bQ 0 KV yD [br (.exit 0) KV yD]
def UU:=aW 231 [ad (.int .u64)] (ad .str) [Th]
def Uz:=aW 161 [ad .str] (ad .str)
def UT:=aW 228 [ad ao,ad .bool,ad .str] (ad .str)
def Vb:=aW 293 [ad ao,ad .bool,ad .str] (.bd [ad .str,ad ao])
def Vc:=aW 294 [ad .str] (ad .str)
def Uv:=aW 155 [.row 11,ad ao] (ad ao)
def Uw:=aW 156 [.row 11,ad ao,.row 9] (ad .bool)
def Ul:=aW 102 [.row 11,ad ao,.row 9] (ad ao)
def Ti:=bQ 0 KV yD [br (.exit 0) [(3,aA 0 0),(4,ad ao)] yD]
def Ux:=aW 157 [ad (.int .u64)] (ad .str) [Ti]
def US:=aW 227 [.row 8,.row 9] (ad .bool)
def VE:=aW 69 [aA 0 0,ad .str] (.bd [ad ao,.c (.dead)]) [] vJ Xo
def VF:=aW 71 [aA 0 0] (ad .str) [] vJ [.cu 116 ((.cQ 1)),.gone]
def BA:=bQ 0 [(0,aA 0 0),(3,ad ao),(6,aA 1 0),(9,.c (.arr 2)),(18,ad (aN 8)),(19,ad ao),(20,ad ao)] Xg [br (.exit 0) [(6,aA 1 0),(9,.c (.arr 2))] Xg] [] [(.slot 9,.nm 14)]
def Tj:=bQ 1 [(9,.c (.arr 1)),(57,ad (aN 10)),(58,ad ao),(59,ad ao)] Xk [br (.exit 2) [(9,.c (.arr 1))] Xk]
def Tk:=bQ 2 [(14,aA 1 0),(77,.c (.arr 2)),(78,ad ao),(79,ad ao)] [.box [.hole (aN 6),.hole ao],.cu 116 ((.cQ 3)),.arr (.nm 14),.buf 5] [br (.exit 4) [(14,aA 1 0)] Xd]
def CL:=aW 159 [aA 0 0,.row 6,.row 9,ad ao] (ad .str) [BA,Tj,Tk] yB yB
def CM:=aW 160 [aA 0 0,.row 6,.row 9,ad ao] (ad .str) [] yB yB
def BB:=bQ 0 [(0,aA 0 0),(3,ad ao),(6,aA 1 0),(9,aA 2 0),(10,aA 3 0),(84,ad (aN 9)),(85,ad ao),(86,ad ao)] [.box [.hole (aN 6),.hole ao],.bl 9,.bl 6,.cu 116 ((.cQ 4)),.buf 5] [br (.exit 1) [(10,aA 1 0)] Xd]
def rl:=aW 103 [aA 0 0,ad ao,.row 9,ad ao] (ad .str) [BB] yB yB
def VC:=aW 55 [.row 11,ad ao,.row 9] (.bd [ad .str,ad ao])
def BC:=bQ 0 [(3,aA 0 0),(5,aA 1 0),(8,ad .str),(36,ad (aN 8)),(37,ad ao),(38,ad ao)] [b' (aN 6),.bl 9] [br (.exit 1) [(8,ad .str)]]
def BD:=bQ 1 [(3,aA 0 0),(7,aA 1 0),(8,ad .str),(101,ad (aN 9)),(102,ad ao),(103,ad ao)] [b' (aN 6),.bl 6] [br (.exit 3) [(8,ad .str)]]
def BE:=bQ 2 [(3,aA 0 0),(5,aA 1 0),(7,aA 2 0),(8,ad .str),(118,ad (aN 9)),(119,ad ao),(120,ad ao)] [b' (aN 6),.bl 9,.bl 6] [br (.exit 5) [(8,ad .str)]]
def rn:=aW 237 [.row 11,ad ao,.row 9] (ad .str) [BC,BD,BE]
def BF:=bQ 0 [(0,aA 0 0),(5,aA 2 0),(6,aA 3 0),(7,aA 4 0),(8,aA 5 0),(10,aA 6 0),(25,ad (aN 8)),(26,ad ao),(27,ad ao)] WZ [br .ret [(8,aA 2 0),(9,ad .bool)] [.box [.hole (aN 6),.hole (aN 6),.arr 3,.hole eb],.gone,.bl 9,.arr ao],br (.exit 0) [(0,aA 0 0),(5,aA 2 0),(6,aA 3 0),(7,aA 4 0),(8,aA 5 0),(10,aA 6 0)] WZ] [] [(.via 10 6,.nm 9)]
def Tl:=bQ 1 [(0,aA 0 0),(6,aA 2 0),(7,aA 3 0),(8,aA 4 0),(10,aA 5 0),(115,ad (aN 8)),(116,ad ao),(117,ad ao)] [.box [.hole (aN 6),.hole (aN 6),.arr 6,.hole eb],.gone,.bl 9,.bl 6,.box mU,.box [.hole ao,.hole .bool,.hole ao,.hole .str,.hole ao,.bX,.arr 7,.arr 8],.arr ao,.arr (.nm 9),.arr (.nm 10)] [br .ret [(8,aA 2 0),(9,ad .bool)] [.box [.hole (aN 6),.hole (aN 6),.arr 3,.arr 4],.gone,.bl 9,.arr ao,.arr ao],br (.exit 2) [(8,aA 2 0),(10,aA 3 0)] [.box [.hole (aN 6),.hole (aN 6),.arr 4,.hole eb],.gone,.box mU,.box W7,.arr ao,.arr (.nm 9),.arr (.nm 10)]] [] [(.via 10 7,.nm 10)]
def CN:=aW 164 [aA 0 0,.row 6,.row 9,.row 6] (.bd [.row 9,ad .bool]) [BF,Tl] vH yy
def CO:=aW 165 [aA 0 0,.row 6,.row 9,.row 6] (.bd [.row 9,ad .bool]) [] vH yy
def BG:=bQ 0 [(0,aA 0 0),(1,ad ao),(3,ad ao),(10,.c (.arr 2)),(15,ad (aN 9)),(16,ad ao),(17,ad ao)] W2 [br .ret [(8,.c (.bX)),(9,ad .bool)] yy,br (.exit 0) [(10,.c (.arr 2))] W2] [] [(.slot 10,.nm 9)]
def CP:=aW 166 [aA 0 0,ad ao,ad (aN 9),ad ao] (.bd [ad (aN 9),ad .bool]) [BG] vH yy
def yU:=aW 105 [aA 0 0,ad ao,.row 9,ad ao] (.bd [.row 9,ad .bool]) [] vH yy
def VD:=aW 56 [.row 11,ad ao,.row 9,.row 11,ad ao] (.bd [.row 9,ad ao])
def agV:=bQ 0 [(4,aA 0 0),(5,aA 1 0),(6,aA 2 0),(7,aA 3 0),(21,ad (aN 8)),(22,ad ao),(23,ad ao)] [b' (aN 6),.bl 6,b' (aN 6),.bl 6] [en 8 ao,br (.exit 0) [(5,aA 0 0),(7,aA 1 0)] [.bl 6,.bl 6]]
def ahN:=bQ 1 [(7,aA 0 0),(73,ad (aN 8)),(74,ad ao),(75,ad ao)] [.bl 6] [en 8 ao,fF 2]
def ajc:=aW 202 [.row 11,.row 6,.row 11,.row 6] (ad ao) [agV,ahN]
def aiQ:=aW 143 [.row 11,ad ao,.row 11,ad ao] (ad ao)
def aj4:=aW 91 [.row 11,ad ao,.row 11,ad ao] (.bd [ad ao,ad ao])
def Vu:=aW 41 [.row 13,.row 5] (ad .bool)
def agk:=bQ 0 [(0,.c (.arr 0)),(3,aA 1 0),(7,ad ao),(8,ad ao)] [.arr (.nm 5),.bl 5] [br .ret [(4,ad ao)] mV,br (.exit 0) [] mV]
def aj3:=aW 90 [.c (.arr 0),.row 5] (ad ao) [agk] mV mV
def ajG:=aW 38 [.c (.arr 0),.row 5] (ad .bool) [] mV mV
def ajd:=aW 203 [ad ao,ad ao,aA 0 0] (.bd []) [] [.box [.arr 1],.arr (.nm 5)] [.box [.arr 2],.gone,.arr (.nm 5)]
def ahO:=bQ 0 [(9,aA 0 0),(10,aA 1 0),(11,aA 2 0),(12,.c (.fn 203 [2])),(35,ad (aN 8)),(36,ad ao),(37,ad ao)] [.bl 6,.bl 6,.box [.arr 3],.arr (.nm 5)] [br (.exit 0) [(9,aA 0 0),(10,aA 1 0),(11,aA 2 0),(12,.c (.fn 203 [2]))] [.bl 6,.bl 6,.box [.arr 3],.arr (.nm 5)]] [] [(.via 11 0,.nm 5)]
def aiR:=aW 144 [.row 11,ad ao,.row 11,ad ao] (ad (aN 5)) [ahO]
def aj7:=aW 93 [.row 11,ad ao,.row 11,ad ao] (.bd [ad (aN 5),ad ao])
def Vv:=aW 43 [.row 13,.row 5] (ad (aN 5))
def Un:=aW 13 [.row 12,.row 12,ad (aN 5)] (ad .bool)
def UG:=aW 208 [aA 0 0,ad ao] (.bd [.row 9,ad .bool]) [] vI [.box [.hole (aN 6),.arr 2,.arr 3,.hole ao],.gone,.arr ao,.arr ao]
def Tm:=bQ 0 [(0,ad .str),(4,ad (.int .u64)),(17,ad ao),(18,ad ao)] [] [br (.exit 0) [(4,ad (.int .u64))]]
def UH:=aW 209 [ad .str] (.bd [ad (.int .u64),ad ao]) [Tm]
def UI:=aW 210 [ad (.int .u64)] (ad ao)
def pJ:=aW 211 [aA 0 0,ad ao,ad ao,ad .str] (.bd [.row 9,ad .bool]) [] vI yz
def Tn:=bQ 0 [(0,ad .str),(5,ad (.int .u64)),(10,ad ao),(11,ad ao)] [] [br .ret [(2,ad (.int .u64)),(3,ad ao),(4,ad ao)],fF 0]
def Vn:=aW 346 [ad .str] (.bd [ad (.int .u64),ad ao,ad ao]) [Tn]
def Vl:=aW 328 [ad .str] (.bd [ad (.int .u64),ad .str,ad .bool])
def U4:=aW 279 [ad .str] (.bd [ad ao,ad .str,ad ao])
def CQ:=aW 212 [aA 0 0,.row 6,ad .str] (.bd [.row 9,ad .bool]) [] vI yz
def Vm:=aW 329 [ad .str] (.bd [ad .str,ad .str,ad .bool])
def To:=bQ 0 [(4,.c (.arr 0)),(5,ad .str)] [.arr .str] [br .ret Gi,br (.exit 0) Gl [.arr .str]] [] [(.slot 4,.str)]
def U5:=aW 280 [ad .str] (.bd [ad kr,ad ao]) [To]
def Bd:=bQ 0 [(0,aA 0 0),(4,aA 2 0),(6,aA 3 0),(10,aA 4 0),(38,ad kr),(39,ad ao),(40,ad ao)] KU [br .ret yC Ge,br (.exit 0) K0 [.box KW,.gone,.box mU,.box [.hole ao,.hole .bool,.hole ao,.hole .str,.hole ao,.bX,.arr 5,.bX],.arr ao,.arr (.nm 9)]] [] [(.via 10 6,.nm 9)]
def CR:=aW 213 [aA 0 0,.row 6,ad .str] (.bd [.row 9,ad .bool]) [Bd] vI yz
def Be:=bQ 0 [(0,aA 0 0),(4,aA 2 0),(6,aA 3 0),(8,ad kr),(10,aA 4 0),(11,ad ao)] Gc [br .ret yC Ge,br (.exit 0) Xe Gc] [] [(.via 10 5,.nm 9)]
def Tp:=bQ 1 [(0,aA 0 0),(4,aA 2 0),(6,aA 3 0),(8,ad kr),(10,aA 4 0),(14,ad ao)] Gc [br .ret yC W4,br (.exit 2) Xe Gc]
def Bf:=bQ 2 [(0,aA 0 0),(4,aA 2 0),(6,aA 3 0),(8,ad kr),(10,aA 4 0),(15,ad ao)] [.box Gf,.gone,.bl 6,.box mU,.box [.hole ao,.hole .bool,.hole ao,.hole .str,.hole ao,.arr 6,.arr 7,.bX],.arr ao,.arr (.nm 9),.arr (.nm 9)] [br .ret yC Ge,br (.exit 4) K0 [.box KW,.gone,.box mU,.box [.hole ao,.hole .bool,.hole ao,.hole .str,.hole ao,.arr 5,.arr 6,.bX],.arr ao,.arr (.nm 9),.arr (.nm 9)]] [] [(.via 10 6,.nm 9)]
def CS:=aW 214 [aA 0 0,.row 6,ad .str] (.bd [.row 9,ad .bool]) [Be,Tp,Bf] vI yz
def SI:=bQ 0 [(4,.c (.arr 0)),(5,ad (.int .u64)),(6,ad .str)] Gm [br .ret Gi,br (.exit 0) Gl Gm] [] [(.slot 4,.nm 15)]
def U6:=aW 281 [ad .str] (.bd [ad (aN 15),ad ao]) [SI]
def U8:=aW 283 [.row 15,aA 0 0] (ad .bool) [] [.bl 8] [.bl 8]
def SJ:=bQ 0 [(0,ad (aN 15)),(1,.c (.fn 283 [0])),(7,ad ao),(8,ad ao)] [.bl 8] [br .ret [(4,ad ao)] [.bl 8],br (.exit 0) [] [.bl 8]]
def U7:=aW 282 [ad (aN 15),.c (.fn 283 [0])] (ad ao) [SJ] [.bl 8] [.bl 8]
def Bg:=bQ 0 Xa yA [br (.exit 0) Gj yA]
def Bh:=bQ 1 Xb Xl [br (.exit 2) Gj yA]
def wi:=aW 284 [.row 9] (.row 9) [Bg,Bh]
def B0:=bQ 0 [(0,aA 0 0),(4,aA 2 0),(6,aA 3 0),(8,ad (aN 15)),(10,aA 4 0),(39,ad (aN 8)),(40,ad ao),(41,ad ao)] KU [br .ret yC Ge,br (.exit 0) [(0,aA 0 0),(4,aA 2 0),(6,aA 3 0),(8,ad (aN 15)),(10,aA 4 0)] KU] [] [(.via 10 6,.nm 9)]
def SK:=bQ 1 [(0,aA 0 0),(4,aA 2 0),(6,aA 3 0),(10,aA 4 0),(117,ad (aN 15)),(118,ad ao),(119,ad ao)] [.box Gf,.gone,.bl 6,.box mU,.box W8,.arr ao,.arr (.nm 9),.arr (.nm 10)] [br .ret yC W4,br (.exit 3) K0 [.box KW,.gone,.box mU,.box W7,.arr ao,.arr (.nm 9),.arr (.nm 10)]] [] [(.via 10 7,.nm 10)]
def CT:=aW 215 [aA 0 0,.row 6,ad .str] (.bd [.row 9,ad .bool]) [B0,SK] vI yz
def yV:=aW 148 [aA 0 0,ad ao,ad .str] (.bd [.row 9,ad .bool]) [] vI yz
def Uk:=aW 100 [.row 11,ad ao,ad .str] (.bd [.row 9,.row 16,ad ao])
def VA:=aW 53 [.row 11,ad ao,ad .str] (.bd [.row 9,ad ao])
def CU:=aW 22 [.row 12,.row 12,ad .str] (ad .bool)
def ajg:=bQ 0 [(2,ad (aN 5)),(7,aA 0 0),(8,ad ao)] Xf [en 6 .bool,br (.exit 0) [(2,ad (aN 5)),(7,aA 0 0)] Xf]
def GY:=aW 20 [.row 12,.row 12,ad (aN 5)] (ad .bool) [ajg]
def akc:=aW 99 [.row 5] (ad .bool)
def aj6:=bQ 0 [(0,ad (aN 5)),(1,.c (.fn 99 [])),(7,ad ao),(8,ad ao)] [] [en 4 ao,fF 0]
def aj5:=aW 92 [ad (aN 5),.c (.fn 99 [])] (ad ao) [aj6]
def ajH:=aW 42 [ad (aN 5),.c (.fn 99 [])] (ad .bool)
def ajO:=aW 52 [.row 17] (ad .bool)
def GV:=aW 18 [.row 12,.row 12,.row 17] (ad .bool)
def aiL:=aW 127 [aA 0 0,ad (.int .u8)] (.c (.dead)) [] vJ Xo
def ajU:=bQ 0 [(0,ad .str),(3,aA 0 0),(8,ad ao),(9,ad ao)] vJ [br (.exit 0) [(3,aA 0 0)] vJ]
def ajT:=aW 68 [ad .str] (ad .str) [ajU]
def ajB:=bQ 0 [(3,aA 0 0),(21,ad (aN 5)),(22,ad ao),(23,ad ao)] vJ [br (.exit 1) [(3,aA 0 0)] vJ]
def G3:=aW 29 [.row 17] (ad .str) [ajB]
def rm:=aW 12 [] (ad .bool)
def ajj:=aW 239 [.row 6] (.row 6)
def B1:=bQ 0 [(0,ad (aN 9)),(1,ad (aN 9)),(5,ad ao)] [] [en 4 .bool,fF 0]
def GX:=aW 183 [ad (aN 9),ad (aN 9)] (ad .bool) [B1]
def SL:=bQ 0 KX [.bl 9,.bl 9] [en 4 .bool,br (.exit 0) Gk [.bl 9,.bl 9]]
def CJ:=aW 118 [.row 9,.row 9] (ad .bool) [SL]
def ajw:=aW 295 [.row 8,.row 8] (ad .bool)
def SM:=bQ 0 KX [.bl 6,.bl 6] [en 4 .bool,br (.exit 0) Gk [.bl 6,.bl 6]]
def SN:=bQ 1 [(2,aA 0 0),(3,aA 1 0),(6,ad ao)] [.bl 6,.bl 6] [en 4 .bool,fF 2]
def aji:=aW 238 [.row 6,.row 6] (ad .bool) [SM,SN]
def ajx:=aW 296 [ad (.int .u8)] (ad .bool)
def ajy:=aW 297 [ad (.int .u8)] (ad .bool)
def SO:=bQ 0 [(0,ad .str),(3,ad ao)] [] [en 2 .bool,fF 0]
def ajk:=aW 240 [ad .str] (ad .bool) [SO]
def ajz:=aW 298 [ad ao,ad ao] (ad .bool)
def QF:=bQ 0 [(0,ad (aN 7)),(4,ad ao),(5,ad ao)] [] [en 2 .bool,br (.exit 2) [(0,ad (aN 7)),(4,ad ao)]]
def SP:=bQ 0 [(0,ad (aN 7)),(3,ad ao),(4,ad ao)] [] [en 2 .bool,br (.exit 0) [(0,ad (aN 7))]] [QF]
def ajl:=aW 241 [ad (aN 7)] (ad .bool) [SP]
def QG:=bQ 0 [(0,ad (aN 8)),(1,ad .bool),(6,ad ao),(7,aA 0 0),(8,ad ao)] [.bl 8] [en 4 .bool,br (.exit 2) [(0,ad (aN 8)),(1,ad .bool),(6,ad ao),(7,aA 0 0)] [.bl 8]]
def SQ:=bQ 0 [(0,ad (aN 8)),(1,ad .bool),(5,ad ao),(6,ad ao)] [] [en 4 .bool,br (.exit 0) [(0,ad (aN 8)),(1,ad .bool)]] [QG]
def ajm:=aW 242 [ad (aN 8),ad .bool] (ad .bool) [SQ]
def aiV:=aW 167 [.row 6] (ad .bool)
def SR:=bQ 0 Gg [.bl 6,.arr ao] [br (.exit 0) [(1,aA 0 0),(3,.c (.arr 1))] [.bl 6,.arr ao]] [] [(.slot 3,ao)]
def aiW:=aW 168 [.row 6] (ad eb) [SR]
def QH:=bQ 0 [(1,aA 0 0),(3,ad ao),(4,aA 1 0),(5,ad ao)] [b' (aN 6),.box j7] [en 2 ao,br (.exit 2) [(1,aA 0 0),(3,ad ao),(4,aA 1 0)] [b' (aN 6),.box j7]]
def QI:=bQ 1 [(1,aA 0 0),(3,ad ao),(4,aA 1 0),(6,ad eb),(7,ad ao)] [b' (aN 6),.box j7] [en 2 ao,br (.exit 4) [(1,aA 0 0),(3,ad ao),(4,aA 1 0)] [b' (aN 6),.box j7]]
def SS:=bQ 0 [(1,aA 0 0),(3,ad ao)] [b' (aN 6)] [en 2 ao,fF 0] [QH,QI]
def aiy:=aW 106 [.row 11] (ad ao) [SS]
def ai4:=aW 177 [.row 9] (ad .bool)
def SU:=bQ 0 [(1,ad ao),(2,aA 0 0),(6,ad ao)] [.bl 6] [br .ret [(4,ad ao),(5,ad .bool)],fF 0]
def aiI:=aW 122 [.row 6,ad ao] (.bd [ad ao,ad .bool]) [SU]
def ai5:=aW 178 [ad ao,ad .bool] (ad .bool)
def VQ:=bQ 0 [(1,ad ao),(2,aA 0 0),(6,ad ao)] [.bl 6] [br .ret [(4,ad ao),(5,ad .bool)],fF 0]
def akb:=aW 98 [.row 6,ad ao] (.bd [ad ao,ad .bool]) [VQ]
def SV:=bQ 0 [(1,ad (aN 10)),(2,aA 0 0),(5,ad ao)] [.bl 6] [en 4 .bool,fF 0]
def ai6:=aW 179 [.row 6,ad (aN 10)] (ad .bool) [SV]
def B3:=bQ 0 [(1,ad ao),(2,ad (aN 9)),(3,ad .bool),(4,aA 0 0),(9,ad ao)] [b' (aN 6)] [en 8 .bool,fF 0]
def GW:=aW 180 [.row 11,ad ao,ad (aN 9),ad .bool] (ad .bool) [B3]
def ajs:=aW 252 [ad .bool,ad .bool] (ad ao)
def aiC:=aW 115 [ad ao] (ad (.int .u64))
def ai7:=aW 181 [.row 9,.row 9] (ad ao)
def B4:=bQ 0 [(3,ad .bool),(4,aA 0 0),(6,aA 1 0),(9,aA 2 0),(12,ad ao)] [b' (aN 6),.bl 9,.box j7] [en 8 .bool,fF 1]
def SX:=bQ 1 [(6,aA 0 0),(15,ad ao)] [.bl 9] [en 8 .bool,fF 3]
def we:=aW 109 [.row 11,ad ao,.row 9,ad .bool] (ad .bool) [B4,SX]
def ajR:=aW 59 [.row 11,ad ao,.row 9] (ad .bool)
def QJ:=bQ 0 [(1,aA 0 0),(6,ad ao),(7,ad (aN 8)),(8,ad ao)] [b' (aN 6)] [br .ret Gh,br (.exit 2) [(1,aA 0 0),(6,ad ao)] [b' (aN 6)]]
def SY:=bQ 0 [(1,aA 0 0),(6,ad ao)] [b' (aN 6)] [br .ret Gh,fF 0] [QJ]
def ajC:=aW 318 [.row 11] (.bd [ad ao,ad ao,ad ao]) [SY]
def aju:=aW 273 [.row 11] (ad ao)
def SZ:=bQ 0 [(1,.c (.arr 0)),(2,aA 1 0),(5,ad ao),(6,ad ao)] [.arr ao,.bl 6] [br (.exit 1) [(5,ad ao)] [.arr ao]]
def S0:=bQ 1 [(1,.c (.arr 0)),(2,aA 1 0),(7,ad ao),(8,ad ao)] [.arr ao,.bl 6] [br (.exit 3) [(7,ad ao)] [.arr ao]]
def ajD:=aW 319 [.row 6,.c (.arr 0)] (ad ao) [SZ,S0] [.arr ao] [.arr ao]
def QK:=bQ 0 [(1,aA 0 0),(3,.c (.arr 1)),(4,ad ao),(5,ad ao)] [b' (aN 6),.arr ao] [br (.exit 2) Gg [b' (aN 6),.arr ao]]
def S1:=bQ 0 Gg [b' (aN 6),.arr ao] [br (.exit 0) [(3,.c (.arr 0))] [.arr ao]] [QK]
def ajv:=aW 274 [.row 11] (ad eb) [S1]
def S2:=bQ 0 [(5,ad eb),(6,.c (.arr 0)),(7,ad ao)] [.arr .bool] [br (.exit 0) [(6,.c (.arr 0))] [.arr .bool]] [] [(.slot 6,.bool)]
def aje:=aW 204 [.row 11] (.bd [ad (.slice .bool),ad ao]) [S2]
def S3:=bQ 0 [(3,ad (.slice .bool)),(5,ad ao)] [] [en 2 ao,fF 0]
def aiS:=aW 145 [.row 11] (ad ao) [S3]
def aj8:=aW 94 [.row 11,ad ao] (ad ao)
def ajI:=aW 45 [.row 12,.row 12] (ad ao)
def QO:=bQ 0 [(0,.c (.arr 0)),(3,aA 1 0),(5,ad ao)] [.arr (.nm 5),.bl 5] [br .ret [(4,ad .bool)] mV,br (.exit 0) [] mV]
def ajK:=aW 47 [.c (.arr 0),.row 5] (ad .bool) [QO] mV mV
def Vx:=bQ 0 [(9,aA 0 0),(10,aA 1 0),(11,.c (.arr 2)),(12,ad ao)] [.bl 6,.bl 6,.arr (.nm 5)] [br (.exit 0) [(9,aA 0 0),(10,aA 1 0),(11,.c (.arr 2))] [.bl 6,.bl 6,.arr (.nm 5)]] [] [(.slot 11,.nm 5)]
def Vy:=bQ 1 [(11,.c (.arr 0)),(15,.c (.arr 1)),(16,ad ao)] [.arr (.nm 5),.arr (.nm 5)] [br (.exit 2) [(15,.c (.arr 0))] mV] [] [(.slot 15,.nm 5)]
def ajM:=aW 50 [.row 11,ad ao,.row 11,ad ao] (ad (aN 5)) [Vx,Vy]
def QP:=bQ 0 [(4,aA 0 0),(6,aA 1 0),(9,.c (.arr 2)),(10,ad ao),(11,ad (aN 5)),(12,ad ao)] [b' (aN 6),b' (aN 6),.arr (.nm 5)] [br (.exit 2) Xh [b' (aN 6),b' (aN 6),.arr (.nm 5)]]
def Vz:=bQ 0 Xh [b' (aN 6),b' (aN 6),.arr (.nm 5)] [br (.exit 0) [(9,.c (.arr 0))] mV] [QP]
def ajN:=aW 51 [.row 11,ad ao,.row 11,ad ao] (ad (aN 5)) [Vz]
def VL:=bQ 0 [(1,aA 0 0),(3,ad ao),(4,ad ao)] [.bl 6] [br (.exit 1) [(3,ad ao)]]
def aj9:=aW 95 [.row 6] (ad ao) [VL]
def VM:=bQ 0 KX [.bl 6,.bl 6] [en 4 .bool,br (.exit 0) Gk [.bl 6,.bl 6]]
def VN:=bQ 1 [(2,aA 0 0),(3,aA 1 0),(8,ad ao)] [.bl 6,.bl 6] [en 4 .bool,fF 2]
def aj':=aW 96 [.row 6,.row 6] (ad .bool) [VM,VN]
def aiG:=aW 120 [.row 11,ad ao] (ad ao)
def ajS:=aW 65 [.row 11,ad ao,.row 9,.row 11,ad ao] (ad ao)
def aiH:=aW 121 [ad eb] (.row 18)
def S4:=bQ 0 [(0,ad (.int .u64)),(3,ad .str)] [] [br (.exit 0) [(3,ad .str)]]
def aiB:=aW 114 [ad (.int .u64)] (ad .str) [S4]
def SB:=bQ 0 [(0,ad (.int .u64)),(3,.c (.arr 0))] yD [br (.exit 0) [(0,ad (.int .u64)),(3,.c (.arr 0))] yD] [] [(.slot 3,.int .u8)]
def aiD:=aW 116 [ad (.int .u64)] (ad .str) [SB]
def aiE:=aW 117 [ad .str] (ad .str)
def aiF:=aW 119 [ad ao,ad .bool,ad .str] (ad .str)
def QQ:=bQ 0 [(3,aA 0 0),(5,aA 1 0),(7,aA 2 0),(14,ad .str),(15,ad ao),(19,ad ao)] [b' (aN 6),.bl 9,.bl 6] [br (.exit 7) Xc [b' (aN 6),.bl 9,.bl 6]]
def yY:=bQ 0 [(3,aA 0 0),(5,aA 1 0),(7,aA 2 0),(10,ad .str),(11,ad ao)] [b' (aN 6),.bl 9,.bl 6] [br (.exit 1) [(10,ad .str)]]
def yZ:=bQ 1 [(3,aA 0 0),(5,aA 1 0),(7,aA 2 0),(12,ad .str),(13,ad ao)] [b' (aN 6),.bl 9,.bl 6] [br (.exit 3) [(12,ad .str)]]
def y0:=bQ 2 Xc [b' (aN 6),.bl 9,.bl 6] [br (.exit 5) [(14,ad .str)]] [QQ]
def tu:=aW 63 [.row 11,ad ao,.row 9] (ad .str) [yY,yZ,y0]
def aiK:=aW 126 [.row 9] (.row 18)
def aiJ:=aW 125 [ad eb,ad ao] (ad eb)
def GS:=aW 123 [.row 11,.row 6,.row 9,.row 11,.row 6,ad eb] (.row 18)
def ajf:=aW 205 [.row 9,.row 9] (ad .bool)
def ai8:=aW 184 [.row 8,.row 9] (ad .bool)
def B5:=bQ 0 [(5,ad eb),(6,aA 0 0),(7,aA 1 0),(8,aA 2 0),(9,aA 3 0),(10,aA 4 0),(12,aA 5 0),(13,aA 6 0),(14,ad ao)] [b' (aN 6),.bl 6,.bl 9,b' (aN 6),.bl 6,.box s8,.box [.hole ao,.hole .bool,.hole ao,.hole .str,.hole ao,.bX,.arr 7,.bX],.arr (.nm 9)] [br .ret [(12,aA 0 0)] [.bl 18],br (.exit 0) [(5,ad eb),(6,aA 0 0),(7,aA 1 0),(8,aA 2 0),(10,aA 3 0),(12,aA 4 0),(13,aA 5 0)] [b' (aN 6),.bl 6,.bl 9,.bl 6,.box s8,.box [.hole ao,.hole .bool,.hole ao,.hole .str,.hole ao,.bX,.arr 6,.bX],.arr (.nm 9)]] [] [(.via 13 6,.nm 9)]
def SC:=bQ 1 [(5,ad eb),(6,aA 0 0),(7,aA 1 0),(8,aA 2 0),(10,aA 3 0),(12,aA 4 0),(13,aA 5 0),(20,ad ao)] [b' (aN 6),.bl 6,.bl 9,.bl 6,.box s8,.box W8,.arr (.nm 9),.arr (.nm 10)] [br .ret [(12,aA 0 0)] [.bl 18],br (.exit 2) [(12,aA 0 0),(13,aA 1 0)] [.box s8,.box W6,.arr (.nm 9),.arr (.nm 10)]] [] [(.via 13 7,.nm 10)]
def GU:=aW 124 [.row 11,.row 6,.row 9,.row 11,.row 6,ad eb] (.row 18) [B5,SC]
def y1:=bQ 0 [(5,ad eb),(6,aA 0 0),(8,aA 1 0),(9,aA 2 0),(12,aA 3 0),(13,aA 4 0),(14,aA 5 0),(17,aA 6 0),(18,ad ao)] [b' (aN 6),.bl 9,b' (aN 6),.box s8,.bl 6,.bl 6,.box W3,.arr (.nm 9)] [br .ret [(12,aA 0 0)] [.bl 18],br (.exit 0) [(5,ad eb),(6,aA 0 0),(8,aA 1 0),(9,aA 2 0),(12,aA 3 0),(13,aA 4 0),(14,aA 5 0),(17,aA 6 0)] [b' (aN 6),.bl 9,b' (aN 6),.box s8,.bl 6,.bl 6,.box W3,.arr (.nm 9)]] [] [(.via 17 5,.nm 9)]
def y2:=bQ 1 [(5,ad eb),(6,aA 0 0),(8,aA 1 0),(9,aA 2 0),(12,aA 3 0),(13,aA 4 0),(14,aA 5 0),(17,aA 6 0),(20,ad ao)] [b' (aN 6),.bl 9,b' (aN 6),.box s8,.bl 6,.bl 6,.box [.hole ao,.hole .bool,.hole ao,.hole .str,.hole ao,.arr 7,.arr 8,.hole (aN 10)],.arr (.nm 9),.arr (.nm 9)] [br .ret [(12,aA 0 0)] [.bl 18],br (.exit 2) [(12,aA 0 0),(17,aA 1 0)] [.box s8,.box [.hole ao,.hole .bool,.hole ao,.hole .str,.hole ao,.arr 2,.arr 3,.hole (aN 10)],.arr (.nm 9),.arr (.nm 9)]] [] [(.via 17 6,.nm 9)]
def tv:=aW 66 [.row 11,ad ao,.row 9,.row 11,ad ao,ad eb] (.row 18) [y1,y2]
def ajt:=aW 26 [.row 11,ad ao,.row 9,.row 11,ad ao] (.bd [.row 9,ad ao])
def aiT:=aW 146 [.row 11,ad ao,.row 9,.row 11,ad ao,.row 9] (ad .bool)
def VO:=bQ 0 [(4,aA 0 0),(5,aA 1 0),(6,aA 2 0),(7,aA 3 0),(9,ad ao)] [b' (aN 6),.bl 6,b' (aN 6),.bl 6] [en 8 ao,br (.exit 0) [(5,aA 0 0),(7,aA 1 0)] [.bl 6,.bl 6]]
def VP:=bQ 1 [(5,aA 0 0),(7,aA 1 0),(13,ad ao)] [.bl 6,.bl 6] [en 8 ao,fF 2]
def aka:=aW 97 [.row 11,.row 6,.row 11,.row 6] (ad ao) [VO,VP]
def ajL:=aW 49 [.row 11,ad ao,.row 11,ad ao] (ad ao)
def Vw:=bQ 0 [(4,aA 0 0),(6,aA 1 0),(9,ad (aN 5)),(10,ad ao)] [b' (aN 6),b' (aN 6)] [en 8 .bool,fF 0]
def ajJ:=aW 46 [.row 11,ad ao,.row 11,ad ao] (ad .bool) [Vw]
def aiU:=aW 15 [.row 12,.row 12] (.bd [ad .bool,ad ao])
def dB:=aW 3 [.row 0,ad (aN 5)] (ad .bool)
def iW:=aW 5 [.row 0,ad (aN 5)] (ad .bool)
def SD:=bQ 0 [(0,ad .str),(4,ad (.int .u64)),(5,ad ao)] [] [br (.exit 0) [(4,ad (.int .u64))]]
def aiX:=aW 169 [ad .str] (.bd [ad (.int .u64),ad ao]) [SD]
def aiY:=aW 170 [ad (.int .u64)] (ad ao)
def SE:=bQ 0 [(0,ad .str),(5,ad (.int .u64)),(6,ad (.int .u64)),(7,ad ao)] [] [br .ret [(2,ad (.int .u64)),(3,ad ao),(4,ad ao)],fF 0]
def ajn:=aW 243 [ad .str] (.bd [ad (.int .u64),ad ao,ad ao]) [SE]
def aiZ:=aW 171 [ad .str] (.bd [ad ao,ad .str,ad ao])
def ajo:=aW 244 [ad .str] (.bd [ad .str,ad .str,ad .bool])
def SF:=bQ 0 [(0,ad .str),(4,.c (.arr 0))] [.arr .str] [br .ret Gi,br (.exit 0) Gl [.arr .str]] [] [(.slot 4,.str)]
def ai0:=aW 172 [ad .str] (.bd [ad kr,ad ao]) [SF]
def ai1:=aW 173 [ad .str,ad .str] (ad .bool)
def SG:=bQ 0 [(0,ad .str),(4,.c (.arr 0)),(5,ad ao)] Gm [br .ret Gi,br (.exit 0) Gl Gm] [] [(.slot 4,.nm 15)]
def ai2:=aW 174 [ad .str] (.bd [ad (aN 15),ad ao]) [SG]
def QL:=bQ 0 [(3,ad ao),(4,aA 0 0),(9,aA 1 0),(27,ad (aN 15)),(29,ad ao),(30,aA 2 0),(31,ad ao),(32,ad ao)] [b' (aN 6),.box j7,.bl 8] [br (.exit 7) [(3,ad ao),(4,aA 0 0),(9,aA 1 0),(27,ad (aN 15)),(29,ad ao),(30,aA 2 0),(31,ad ao)] [b' (aN 6),.box j7,.bl 8]]
def B6:=bQ 0 [(3,ad ao),(4,aA 0 0),(9,aA 1 0),(21,ad kr),(22,ad ao),(23,ad ao)] [b' (aN 6),.box j7] [en 8 .bool,br (.exit 1) [(9,aA 0 0),(21,ad kr),(22,ad ao)] KY]
def B7:=bQ 1 [(3,ad ao),(4,aA 0 0),(9,aA 1 0),(24,ad kr),(26,ad ao)] [b' (aN 6),.box j7] [en 8 .bool,fF 3]
def B8:=bQ 2 [(3,ad ao),(4,aA 0 0),(9,aA 1 0),(27,ad (aN 15)),(29,ad ao)] [b' (aN 6),.box j7] [en 8 .bool,br (.exit 5) [(9,aA 0 0),(27,ad (aN 15))] KY] [QL]
def SH:=bQ 4 [(9,aA 0 0),(27,ad (aN 15)),(33,ad ao)] KY [en 8 .bool,fF 9]
def tq:=aW 107 [.row 11,ad ao,ad .str,ad ao] (ad .bool) [B6,B7,B8,SH]
def ajP:=aW 57 [.row 11,ad ao,ad .str] (ad .bool)
def ai3:=aW 175 [ad eb,ad ao] (.row 19)
def ajp:=aW 245 [ad .str] (.bd [ad (.int .u64),ad .bool])
def ajq:=aW 246 [ad eb,ad ao] (ad eb)
def ajr:=aW 251 [.row 9] (.row 19)
def GZ:=aW 247 [.row 11,.row 6,ad .str,ad ao,ad eb] (.row 19)
def B':=bQ 0 Xp [b' (aN 6),.bl 6,.box mW,.box W',.arr (.nm 9)] [br .ret [(10,aA 0 0)] [.bl 19],br (.exit 0) KZ [.box mW,.box [.hole ao,.hole .bool,.hole ao,.hole .str,.hole ao,.bX,.arr 2,.bX],.arr (.nm 9)]] [] [(.via 13 6,.nm 9)]
def G0:=aW 248 [.row 11,.row 6,ad .str,ad ao,ad eb] (.row 19) [B']
def Ca:=bQ 0 Xp [b' (aN 6),.bl 6,.box mW,.box Gd,.arr (.nm 9)] [br .ret [(10,aA 0 0)] [.bl 19],br (.exit 0) W1 [b' (aN 6),.bl 6,.box mW,.box Gd,.arr (.nm 9)]] [] [(.via 13 5,.nm 9)]
def TN:=bQ 1 [(3,ad ao),(4,ad eb),(5,aA 0 0),(6,aA 1 0),(10,aA 2 0),(11,ad kr),(13,aA 3 0),(16,ad ao)] [b' (aN 6),.bl 6,.box mW,.box Gd,.arr (.nm 9)] [br .ret [(10,aA 0 0)] [.bl 19],br (.exit 2) W1 [b' (aN 6),.bl 6,.box mW,.box Gd,.arr (.nm 9)]]
def Cb:=bQ 2 [(3,ad ao),(4,ad eb),(5,aA 0 0),(6,aA 1 0),(10,aA 2 0),(11,ad kr),(13,aA 3 0),(17,ad ao)] [b' (aN 6),.bl 6,.box mW,.box [.hole ao,.hole .bool,.hole ao,.hole .str,.hole ao,.arr 4,.arr 5,.bX],.arr (.nm 9),.arr (.nm 9)] [br .ret [(10,aA 0 0)] [.bl 19],br (.exit 4) KZ [.box mW,.box [.hole ao,.hole .bool,.hole ao,.hole .str,.hole ao,.arr 2,.arr 3,.bX],.arr (.nm 9),.arr (.nm 9)]] [] [(.via 13 6,.nm 9)]
def G1:=aW 249 [.row 11,.row 6,ad .str,ad ao,ad eb] (.row 19) [Ca,TN,Cb]
def TO:=bQ 0 [(0,ad (aN 15)),(1,ad ao),(5,ad ao)] [] [en 4 ao,fF 0]
def ajA:=aW 299 [ad (aN 15),ad ao] (ad ao) [TO]
def Cc:=bQ 0 [(3,ad ao),(4,ad eb),(5,aA 0 0),(6,aA 1 0),(10,aA 2 0),(11,ad (aN 15)),(13,aA 3 0),(14,ad ao)] [b' (aN 6),.bl 6,.box mW,.box W',.arr (.nm 9)] [br .ret [(10,aA 0 0)] [.bl 19],br (.exit 0) [(4,ad eb),(6,aA 0 0),(10,aA 1 0),(11,ad (aN 15)),(13,aA 2 0)] [.bl 6,.box mW,.box [.hole ao,.hole .bool,.hole ao,.hole .str,.hole ao,.bX,.arr 3,.bX],.arr (.nm 9)]] [] [(.via 13 6,.nm 9)]
def TP:=bQ 1 [(4,ad eb),(6,aA 0 0),(10,aA 1 0),(11,ad (aN 15)),(13,aA 2 0),(18,ad ao)] [.bl 6,.box mW,.box [.hole ao,.hole .bool,.hole ao,.hole .str,.hole ao,.bX,.arr 3,.arr 4],.arr (.nm 9),.arr (.nm 10)] [br .ret [(10,aA 0 0)] [.bl 19],br (.exit 2) KZ [.box mW,.box W6,.arr (.nm 9),.arr (.nm 10)]] [] [(.via 13 7,.nm 10)]
def G2:=aW 250 [.row 11,.row 6,ad .str,ad ao,ad eb] (.row 19) [Cc,TP]
def pI:=aW 176 [.row 11,ad ao,ad .str,ad ao,ad eb] (.row 19)
def aiz:=aW 108 [.row 11,ad ao,ad .str] (.bd [.row 19,ad ao])
def ajQ:=aW 58 [.row 11,ad ao,ad .str] (.bd [.row 9,ad ao])
def ajh:=aW 23 [.row 12,.row 12,ad .str] (ad .bool)
def jU:=aW 6 [.row 0,ad .str] (ad .bool)
def tx:=aW 7 [.row 20] (ad .bool)
def e8:=aW 8 [.row 12,.row 12,.row 17] (ad .bool)
def alF:I eQ:=[aj3,ajG,Vq,Vi,Vd,FH,yX,Vk,Vj,U3,Ve,Vf,U0,Vg,U1,Vh,U2,UE,UF,Up]
def alG:I eQ:=[UJ,Uq,UL,UK,Ur,Us,UN,UM,Ut,CW,CX,CV,CK,Uy,U9,UO,U',UQ,Va,UR]
def alH:I eQ:=[UP,Uu,tp,VB,UY,UC,UZ,UD,Uo,VJ,G4,aj2,Vr,Vs,Vt,ai',aiP,aja,ajb,UA]
def alI:I eQ:=[Um,UB,UW,wg,wh,FI,yW,UX,UU,Uz,UT,Vb,Vc,Uv,Uw,Ul,Ux,US,VE,VF]
def alJ:I eQ:=[CL,CM,rl,VC,rn,CN,CO,CP,yU,VD,ajc,aiQ,aj4,Vu,ajd,aiR,aj7,Vv,UG,UH]
def alK:I eQ:=[UI,pJ,Vn,Vl,U4,CQ,Vm,U5,CR,CS,U6,U8,U7,wi,CT,yV,Uk,VA,CU,GY]
def alL:I eQ:=[akc,aj5,ajH,ajO,GV,aiL,ajT,G3,rm]
def n2:I eQ:=alF++alG++alH++alI++alJ++alK++alL
theorem oP:n2.all (vn prog):=by kernel_rfl
def nx:cT cP:={Jy with F:=Ig (α:=cP.D 14) l1}
theorem oI:fS prog nx:=⟨Jz.1,λh r a=>Jz.2 h r (afg Ii _ r a)⟩
noncomputable def xf:cT cP:=Un.s (WB (kJ prog n2 [mg,mj,mm,nx,mA,mo] 3000 G4) (kJ prog n2 [mg,mj,mm,nx,mA,mo] 3000 Vr) (kJ prog n2 [mg,mj,mm,nx,mA,mo] 3000 Vs) (kJ prog n2 [mg,mj,mm,nx,mA,mo] 3000 Vt) (kJ prog n2 [mg,mj,mm,nx,mA,mo] 3000 Vu) (kJ prog n2 [mg,mj,mm,nx,mA,mo] 3000 Vv))
theorem Ar:fS prog xf:=agS (.run oP (.k lG (.k ml (.k mn (.k oI (.k nv (.k oD .n)))))) (.m (by kernel_rfl)) 3000 λ_=>rfl) (.run oP (.k lG (.k ml (.k mn (.k oI (.k nv (.k oD .n)))))) (.m (by kernel_rfl)) 3000 λ_=>rfl) (.run oP (.k lG (.k ml (.k mn (.k oI (.k nv (.k oD .n)))))) (.m (by kernel_rfl)) 3000 λ_=>rfl) (.run oP (.k lG (.k ml (.k mn (.k oI (.k nv (.k oD .n)))))) (.m (by kernel_rfl)) 3000 λ_=>rfl) (.run oP (.k lG (.k ml (.k mn (.k oI (.k nv (.k oD .n)))))) (.m (by kernel_rfl)) 3000 λ_=>rfl) (.run oP (.k lG (.k ml (.k mn (.k oI (.k nv (.k oD .n)))))) (.m (by kernel_rfl)) 3000 λ_=>rfl)
def Ej(high:Int):ai (dJ):=
 some (⟨(⟨[(⟨7,[],0,0,2,[],[],0,1,false⟩:aj),(⟨2,[],0,high,0,[],[],0,0,false⟩:aj)]⟩:aY),0⟩:dJ)
theorem ZQ:bn Vq Ej:= .bH
noncomputable def uD:dJ×dJ×I bD->ai (J):=xf.F
theorem YO:bn Un uD:=Ar
noncomputable def zX:dJ×dJ×au->ai (J):=kJ prog n2 [xf,mg,mj,mm,nx,mA,mo] 3000 CU
theorem ZR:bn CU zX:= .run oP (.k Ar (.k lG (.k ml (.k mn (.k oI (.k nv (.k oD .n))))))) (.m (by kernel_rfl)) 3000 λ_=>rfl
noncomputable def zJ:dJ×dJ×I bD->ai (J):=kJ prog n2 [xf,mg,mj,mm,nx,mA,mo] 3000 GY
theorem aa1:bn GY zJ:= .run oP (.k Ar (.k lG (.k ml (.k mn (.k oI (.k nv (.k oD .n))))))) (.m (by kernel_rfl)) 3000 λ_=>rfl
noncomputable def Af:dJ×dJ×lh->ai (J):=kJ prog n2 [xf,mg,mj,mm,nx,mA,mo] 3000 GV
theorem Zq:bn GV Af:= .run oP (.k Ar (.k lG (.k ml (.k mn (.k oI (.k nv (.k oD .n))))))) (.m (by kernel_rfl)) 3000 λ_=>rfl
noncomputable def ua:lh->ai au:=kJ prog n2 [xf,mg,mj,mm,nx,mA,mo] 3000 G3
theorem ZD:bn G3 ua:= .run oP (.k Ar (.k lG (.k ml (.k mn (.k oI (.k nv (.k oD .n))))))) (.m (by kernel_rfl)) 3000 λ_=>rfl
def Ip(uD:dJ×dJ×I bD->ai (J))(zX:dJ×dJ×au->ai (J))(zJ:dJ×dJ×I bD->ai (J))(Af:dJ×dJ×lh->ai (J))(ua:lh->ai au):ai (J):=
 Ej 9>>=λr=>Ej 20>>=λa=>uD (r,a,[(⟨0,0⟩:bD),(⟨1,1⟩:bD)])>>=λb=>some [(⟨0,0⟩:bD),(⟨1,1⟩:bD)]>>=λt18=>ite (fI 0 1 t18.length||(!b)) ((if b then uD (r,a,hd t18 0 1)else some false)>>=λc=>some (bif b then(!c)else false)>>=λt22=>(if t22 then zX (a,r,[1,40])else some false)>>=λd=>some (bif t22 then d else false)>>=λt27=>(if t27 then zJ (a,r,[(⟨0,0⟩:bD),(⟨1,1⟩:bD)])else some false)>>=λe=>some (bif t27 then e else false)>>=λt33=>(if t33 then Af (a,r,(⟨false,[],[1,40]⟩:lh))else some false)>>=λf=>some (bif t33 then f else false)>>=λt39=>(if t39 then ua (⟨false,[],[1,40]⟩:lh)else some [])>>=λg=>some (bif t39 then (g=[109,105,115,114,101,97,100,32,34,92,120,48,49,40,34,10]:J)else false)>>=λt44=>(if t44 then ua (⟨true,[(⟨0,0⟩:bD),(⟨1,1⟩:bD)],[]⟩:lh)else some [])>>=λi=>some (bif t44 then (i=[99,111,109,112,97,116,105,98,108,101,10,48,32,48,10,49,32,49,10]:J)else false)) none
noncomputable def Iq (_:Unit):ai (J):=Ip uD zX zJ Af ua
theorem YP:bn rm Iq:= .bH (.k ZQ (.k YO (.k ZR (.k aa1 (.k Zq (.k ZD .n))))))
def iE(n:Int):dJ:=⟨⟨[⟨7,[],0,0,2,[],[],0,1,false⟩,⟨2,[],0,n,0,[],[],0,0,false⟩]⟩,0⟩
theorem ahP(n:Int):Ej n=some (iE n):=rfl
theorem aio:uD (iE 9,iE 20,[⟨0,0⟩,⟨1,1⟩])=some true:=by kernel_rfl
theorem aip:uD (iE 9,iE 20,[⟨0,0⟩])=some false:=by kernel_rfl
theorem aih:zX (iE 20,iE 9,[1,40])=some true:=by kernel_rfl
theorem ain:zJ (iE 20,iE 9,[⟨0,0⟩,⟨1,1⟩])=some true:=by kernel_rfl
theorem aic:Af (iE 20,iE 9,⟨false,[],[1,40]⟩)=some true:=by kernel_rfl
theorem aid:ua ⟨false,[],[1,40]⟩=some [109,105,115,114,101,97,100,32,34,92,120,48,49,40,34,10]:=by kernel_rfl
theorem aie:ua ⟨true,[⟨0,0⟩,⟨1,1⟩],[]⟩=some [99,111,109,112,97,116,105,98,108,101,10,48,32,48,10,49,32,49,10]:=by kernel_rfl
theorem aiq{C:dJ×dJ×lh->ai J}{F:lh->ai au}
 (h1:R (iE 9,iE 20,[⟨0,0⟩,⟨1,1⟩])=some true)(a:R (iE 9,iE 20,[⟨0,0⟩])=some false)(b:M (iE 20,iE 9,[1,40])=some true)(c:P (iE 20,iE 9,[⟨0,0⟩,⟨1,1⟩])=some true)(bu:C (iE 20,iE 9,⟨false,[],[1,40]⟩)=some true)
 (d:F ⟨false,[],[1,40]⟩=some [109,105,115,114,101,97,100,32,34,92,120,48,49,40,34,10])(e:F ⟨true,[⟨0,0⟩,⟨1,1⟩],[]⟩=some [99,111,109,112,97,116,105,98,108,101,10,48,32,48,10,49,32,49,10]):Ip R M P C F=some true:=by
 have f:hd [(⟨0,0⟩:bD),⟨1,1⟩] 0 1=[⟨0,0⟩]:=rfl;unfold Ip;simp only[a7,ay,ahP];rw[h1];simp only[ay,dX,i',cg,f];rw[a,b,c];simp only[ay,fY,fe,cg];rw[bu,d,e];rfl
theorem aeS:Iq ()=some true:=aiq aio aip aih ain aic aid aie
def zY(_:Unit):ai (J):=some true
theorem ZS:bn rm zY:=by
 have:Iq=zY:=by funext x;exact aeS
 rw[<-this];exact YP
theorem L6:zY ()=some true:=rfl
def rQ:eN×Int->ai (Int)
 |(d,i)=>
 ite (aG i d.eR.length) (some (aQ .i64 1 (b7 .i64 (cn (d.eR.getD i.toNat bK).ae 9)))) none
theorem zN:bn ajV rQ:= .bH
def kE(a:Int):ai (J):=
 some (bif bif (a=4:J)then true else (a=5:J)then true else (a=6:J))
theorem IT:bn ajW kE:= .bH
def qC(a:dV):ai (Int):=
 some (dG .i64 (b7 .i64 (cn a.A 7)) 3)
theorem Iy:bn ajX qC:= .bH
def ub(a:dV):ai (Int):=
 qC a>>=λr=>some (aQ .i64 r (b7 .i64 (cn a.B 6)))
theorem LN:bn ajY ub:= .bH (.k Iy .n)
def qw:Int×dV×az->ai az
 |(i,b,a)=>
 if (i<6:J) then ite (0<=i:J) (if (cn (lZ .u8 b.A i) 2=1:J) then some [aQ .i64 i 1]>>=λt18=>ite (bR 8 (a++t18).length) (qw (aQ .i64 i 1,b,a++t18)) none else qw (aQ .i64 i 1,b,a)) none else some a
  partial_fixpoint
theorem YQ:cF 86 0 [0] VG qw:= .rx qw.partial_correctness
def oG(a:dV):ai az:=
 qw (0,a,[])>>=λo=>if ((o.length:Int)=0:J) then some [1]>>=λt24=>ite (bR 8 (o++t24).length) (some (o++t24)) none else some o
theorem LU:bn ajZ oG:= .bH .n (.k YQ .n)
def zO(a:Int):ai (J):=
 some (7<=a:J)
theorem Md:bn ai9 zO:= .bH
def ou:Int×Int×I dV->ai ((Int) ⊕ (Unit))
 |(n,k,b)=>
 if (k<n:J) then rQ ((⟨b⟩:eN),k)>>=λa=>zO a>>=λc=>if c then some (.inl k)else ou (n,aQ .i64 k 1,b)else some (.inr ())
  partial_fixpoint
theorem X3:cF 138 0 [0] RJ ou:= .rx ou.partial_correctness (.k zN (.k Md .n))
def zP(c:eN×Int×Int):ai (Int):=
 match c with
 |(d,i,code)=>
 some (d.eR.length:Int)>>=λt12=>ite (!(t12=0:J)) (some (cn (b7 .i64 code) t12)>>=λt16=>rQ (d,t16)>>=λr=>zO r>>=λb=>if(bif b then true else (t16<i:J)) then some t16 else if (0<i:J) then ite (!(i=0:J)) (some (cn t16 i)) none else ou (t12,0,d.eR)>>=λo=>match o with
 |.inl a=>
 some a
 |.inr e=>
 some (-1)) none
theorem YR:bn aiM zP:= .bH (.k zN (.k Md .n)) (.k X3 .n)
def Ak(a:Int):ai (J):=
 some (bif (1<=a:J)then (a<=4:J)else false)
theorem L7:bn aiO Ak:= .bH
def oB:Int×Int×Int×I dV->ai ((Int) ⊕ (Unit))
 |(a,n,k,b)=>
 if (k<n:J) then ite (!(n=0:J)) (some (cn (aQ .i64 (b7 .i64 a) k) n)>>=λt21=>rQ ((⟨b⟩:eN),t21)>>=λr=>Ak r>>=λc=>if c then some (.inl t21)else oB (a,n,aQ .i64 k 1,b)) none else some (.inr ())
  partial_fixpoint
theorem YS:cF 88 0 [0] VI oB:= .rx oB.partial_correctness (.k zN (.k L7 .n))
def uk(b:eN×Int):ai (Int):=
 match b with
 |(d,code)=>
 oB (code,(d.eR.length:Int),0,d.eR)>>=λo=>match o with
 |.inl a=>
 some a
 |.inr c=>
 some (-1)
theorem LV:bn aj1 uk:= .bH .n (.k YS .n)
def Al:eN×Int×Int->ai (ab×J)
 |(d,t,code)=>
 ite (aG t d.eR.length) (some (d.eR.getD t.toNat bK)>>=λa=>rQ (d,t)>>=λr=>some (r=8:J)>>=λt21=>(if t21 then uk (d,0)else some 0)>>=λc=>if(bif t21 then (c<0:J)else false) then some ((⟨7,false,0,[],0,[],[],[]⟩:ab),true)else if (r=1:J) then some ((⟨r,(cn code 2=1:J),0,[],0,[],[],[]⟩:ab),true)else if (r=2:J) then qC a>>=λe=>ub a>>=λf=>qC a>>=λg=>some (aQ .i64 (dG .i64 f g) 1)>>=λt47=>ite (!(t47=0:J)) (some ((⟨r,false,aQ .i64 e (cn (b7 .i64 code) t47),[],0,[],[],[]⟩:ab),true)) none else if (r=3:J) then if(bif (0<cn a.A 4:J)then (cn code 2=1:J)else false) then some ((⟨r,false,0,[97],0,[],[],[]⟩:ab),true)else some ((⟨r,false,0,[],0,[],[],[]⟩:ab),true)else if (r=4:J) then oG a>>=λb=>oG a>>=λi=>some (i.length:Int)>>=λt71=>ite (!(t71=0:J)) (some (cn (b7 .i64 code) t71)>>=λt72=>ite (aG t72 b.length) (some ((⟨r,false,0,[],b.getD t72.toNat 0,[],[],[]⟩:ab),true)) none) none else some (r=5:J)>>=λt77=>if t77 then if t77 then some ((⟨0,false,0,[],0,[],[],[]⟩:ab),false)else some ((⟨r,false,0,[],0,[],[],[]⟩:ab),true)else if (r=6:J) then some ((⟨0,false,0,[],0,[],[],[]⟩:ab),false)else some ((⟨r,false,0,[],0,[],[],[]⟩:ab),true)) none
theorem Zg:bn aiN Al:= .bH (.k zN (.k LV (.k Iy (.k LN (.k LU .n)))))
def r9:Int×J×Int×Int×I dV×dV×I aT->ai (Int×J×Int×I dV×dV×I aT)
 |(f,e,a,k,c,d,b)=>
 if (k<(d.dp.length:Int):J) then ite (aG k d.dp.length) (some (d.dp.getD k.toNat jt)>>=λg=>zP ((⟨c⟩:eN),f,g.aC)>>=λr=>if(bif (!(aQ .i64 1 (b7 .i64 (cn g.ah 12))=a:J))then true else (r<0:J)) then r9 (f,e,a,aQ .i64 k 1,c,d,b)else some (oX (b7 .i32 (aQ .i64 97 a)))>>=λt55=>ite ([109].length+t55.length<=eT:J) (some ([109]++t55)>>=λt56=>if(bif e then (cn g.hV 4=1:J)else false) then if(bif e then (2<=cn g.hV 4:J)else false) then Al ((⟨c⟩:eN),r,fR .u8 g.hV 4)>>=λi=>some [(⟨a,t56,r,true,i.2,ab.eta i.1⟩:aT)]>>=λt87=>ite (bR 160 (b++t87).length) (some (f,e,a,c,d,b++t87)) none else some [(⟨a,t56,r,true,false,(⟨0,false,0,[],0,[],[],[]⟩:ab)⟩:aT)]>>=λl=>ite (bR 160 (b++l).length) (some (f,e,a,c,d,b++l)) none else if(bif e then (2<=cn g.hV 4:J)else false) then Al ((⟨c⟩:eN),r,fR .u8 g.hV 4)>>=λj=>some [(⟨a,t56,r,false,j.2,ab.eta j.1⟩:aT)]>>=λm=>ite (bR 160 (b++m).length) (some (f,e,a,c,d,b++m)) none else some [(⟨a,t56,r,false,false,(⟨0,false,0,[],0,[],[],[]⟩:ab)⟩:aT)]>>=λn=>ite (bR 160 (b++n).length) (some (f,e,a,c,d,b++n)) none) none) none else some (f,e,a,c,d,b)
  partial_fixpoint
theorem XR:cF 87 0 [0,0] Rh r9:= .rx r9.partial_correctness (.k YR (.k Zg .n))
def sf:Int×J×Int×I dV×dV×I aT->ai (I aT)
 |(e,f,id,c,d,b)=>
 if (id<=12:J) then r9 (e,f,id,0,c,d,b)>>=λa=>sf (a.1,a.2.1,aQ .i64 a.2.2.1 1,a.2.2.2.1,a.2.2.2.2.1,a.2.2.2.2.2)else some b
  partial_fixpoint
theorem Y7:cF 87 0 [0] VH sf:= .rx sf.partial_correctness .n (.k XR .n)
def uG:eN×Int×J->ai (I aT)
 |(d,i,record)=>
 ite (aG i d.eR.length) (sf (i,record,1,d.eR,d.eR.getD i.toNat bK,[])>>=λo=>some o) none
theorem ZT:bn aj0 uG:= .bH .n (.k Y7 .n)
def p4:Int×Int×az×Int×I dV×Int×au×Int×Int×Int×Int×Int×J×I aj×I de->ai (Int×Int×I dV×Int×au×Int×Int×Int×Int×Int×J×I aj×I de)
 |(p,o,a,k,c,d,e,f,g,i,j,l,m,n,b)=>
 if (k<(a.length:Int):J) then ite (aG k a.length) (ite (aG k a.length) (some (oX (b7 .i32 (aQ .i64 97 (a.getD k.toNat 0))))>>=λt87=>ite ([115].length+t87.length<=eT:J) (some [(⟨a.getD k.toNat 0,[115]++t87⟩:de)]>>=λt90=>ite (bR 24 (b++t90).length) (p4 (p,o,a,aQ .i64 k 1,c,d,e,f,g,i,j,l,m,n,b++t90)) none) none) none) none else some (p,o,c,d,e,f,g,i,j,l,m,n,b)
  partial_fixpoint
theorem Zh:cF 34 0 [0,0] Ri p4:= .rx p4.partial_correctness
def gN:Int×Int×I dV×I aj->ai (I aj)
 |(n,i,b,a)=>
 if (i<n:J) then ite (aG i b.length) (some (b.getD i.toNat bK)>>=λc=>rQ ((⟨b⟩:eN),i)>>=λr=>kE r>>=λP=>if P then some (oX (b7 .i32 (aQ .i64 65 i)))>>=λt41=>if (r=2:J) then qC c>>=λS=>ub c>>=λT=>some [(⟨r,t41,S,T,0,[],[],0,0,false⟩:aj)]>>=λt167=>ite (bR 120 (a++t167).length) (gN (n,aQ .i64 i 1,b,a++t167)) none else if (r=3:J) then some [(⟨r,t41,0,0,b7 .i64 (cn c.A 4),[],[],0,0,false⟩:aj)]>>=λo=>ite (bR 120 (a++o).length) (gN (n,aQ .i64 i 1,b,a++o)) none else if (r=4:J) then oG c>>=λU=>p4 (n,i,U,0,b,r,t41,0,0,0,0,0,(cn c.B 2=1:J),a,[])>>=λd=>some [(⟨d.2.2.2.1,d.2.2.2.2.1,d.2.2.2.2.2.1,d.2.2.2.2.2.2.1,d.2.2.2.2.2.2.2.1,d.2.2.2.2.2.2.2.2.2.2.2.2,[],d.2.2.2.2.2.2.2.2.1,d.2.2.2.2.2.2.2.2.2.1,d.2.2.2.2.2.2.2.2.2.2.1⟩:aj)]>>=λD=>ite (bR 120 (d.2.2.2.2.2.2.2.2.2.2.2.1++D).length) (gN (d.1,aQ .i64 d.2.1 1,d.2.2.1,d.2.2.2.2.2.2.2.2.2.2.2.1++D)) none else if (r=5:J) then uG ((⟨b⟩:eN),i,true)>>=λV=>some [(⟨r,t41,0,0,0,[],V,0,0,false⟩:aj)]>>=λG=>ite (bR 120 (a++G).length) (gN (n,aQ .i64 i 1,b,a++G)) none else if (r=6:J) then uG ((⟨b⟩:eN),i,false)>>=λj=>if ((j.length:Int)=0:J) then some [(⟨5,t41,0,0,0,[],[],0,0,false⟩:aj)]>>=λH=>ite (bR 120 (a++H).length) (gN (n,aQ .i64 i 1,b,a++H)) none else some [(⟨r,t41,0,0,0,[],j,0,0,(cn c.B 2=1:J)⟩:aj)]>>=λK=>ite (bR 120 (a++K).length) (gN (n,aQ .i64 i 1,b,a++K)) none else if (r=7:J) then ite (!(n=0:J)) (some [(⟨r,t41,0,0,b7 .i64 (cn c.A 4),[],[],0,cn (b7 .i64 c.C) n,false⟩:aj)]>>=λL=>ite (bR 120 (a++L).length) (gN (n,aQ .i64 i 1,b,a++L)) none) none else if (r=8:J) then some (b7 .i64 (cn c.A 4))>>=λt135=>uk ((⟨b⟩:eN),c.B)>>=λk=>ite (!(n=0:J)) (some (cn (b7 .i64 c.C) n)>>=λt144=>if (k<0:J) then some [(⟨7,[],0,0,t135,[],[],0,t144,false⟩:aj)]>>=λM=>ite (bR 120 (a++M).length) (gN (n,aQ .i64 i 1,b,a++M)) none else some [(⟨r,t41,0,0,t135,[],[],k,t144,false⟩:aj)]>>=λN=>ite (bR 120 (a++N).length) (gN (n,aQ .i64 i 1,b,a++N)) none) none else if (r=9:J) then ite (!(n=0:J)) (some [(⟨r,t41,0,0,0,[],[],0,cn (b7 .i64 c.C) n,false⟩:aj)]>>=λO=>ite (bR 120 (a++O).length) (gN (n,aQ .i64 i 1,b,a++O)) none) none else some [(⟨r,t41,0,0,0,[],[],0,0,false⟩:aj)]>>=λp=>ite (bR 120 (a++p).length) (gN (n,aQ .i64 i 1,b,a++p)) none else if (r=2:J) then qC c>>=λW=>ub c>>=λX=>some [(⟨r,[],W,X,0,[],[],0,0,false⟩:aj)]>>=λq=>ite (bR 120 (a++q).length) (gN (n,aQ .i64 i 1,b,a++q)) none else if (r=3:J) then some [(⟨r,[],0,0,b7 .i64 (cn c.A 4),[],[],0,0,false⟩:aj)]>>=λs=>ite (bR 120 (a++s).length) (gN (n,aQ .i64 i 1,b,a++s)) none else if (r=4:J) then oG c>>=λQ=>p4 (n,i,Q,0,b,r,[],0,0,0,0,0,(cn c.B 2=1:J),a,[])>>=λe=>some [(⟨e.2.2.2.1,e.2.2.2.2.1,e.2.2.2.2.2.1,e.2.2.2.2.2.2.1,e.2.2.2.2.2.2.2.1,e.2.2.2.2.2.2.2.2.2.2.2.2,[],e.2.2.2.2.2.2.2.2.1,e.2.2.2.2.2.2.2.2.2.1,e.2.2.2.2.2.2.2.2.2.2.1⟩:aj)]>>=λt=>ite (bR 120 (e.2.2.2.2.2.2.2.2.2.2.2.1++t).length) (gN (e.1,aQ .i64 e.2.1 1,e.2.2.1,e.2.2.2.2.2.2.2.2.2.2.2.1++t)) none else if (r=5:J) then uG ((⟨b⟩:eN),i,true)>>=λR=>some [(⟨r,[],0,0,0,[],R,0,0,false⟩:aj)]>>=λu=>ite (bR 120 (a++u).length) (gN (n,aQ .i64 i 1,b,a++u)) none else if (r=6:J) then uG ((⟨b⟩:eN),i,false)>>=λf=>if ((f.length:Int)=0:J) then some [(⟨5,[],0,0,0,[],[],0,0,false⟩:aj)]>>=λv=>ite (bR 120 (a++v).length) (gN (n,aQ .i64 i 1,b,a++v)) none else some [(⟨r,[],0,0,0,[],f,0,0,(cn c.B 2=1:J)⟩:aj)]>>=λw=>ite (bR 120 (a++w).length) (gN (n,aQ .i64 i 1,b,a++w)) none else if (r=7:J) then ite (!(n=0:J)) (some [(⟨r,[],0,0,b7 .i64 (cn c.A 4),[],[],0,cn (b7 .i64 c.C) n,false⟩:aj)]>>=λx=>ite (bR 120 (a++x).length) (gN (n,aQ .i64 i 1,b,a++x)) none) none else if (r=8:J) then some (b7 .i64 (cn c.A 4))>>=λl=>uk ((⟨b⟩:eN),c.B)>>=λg=>ite (!(n=0:J)) (some (cn (b7 .i64 c.C) n)>>=λm=>if (g<0:J) then some [(⟨7,[],0,0,l,[],[],0,m,false⟩:aj)]>>=λy=>ite (bR 120 (a++y).length) (gN (n,aQ .i64 i 1,b,a++y)) none else some [(⟨r,[],0,0,l,[],[],g,m,false⟩:aj)]>>=λz=>ite (bR 120 (a++z).length) (gN (n,aQ .i64 i 1,b,a++z)) none) none else if (r=9:J) then ite (!(n=0:J)) (some [(⟨r,[],0,0,0,[],[],0,cn (b7 .i64 c.C) n,false⟩:aj)]>>=λE=>ite (bR 120 (a++E).length) (gN (n,aQ .i64 i 1,b,a++E)) none) none else some [(⟨r,[],0,0,0,[],[],0,0,false⟩:aj)]>>=λF=>ite (bR 120 (a++F).length) (gN (n,aQ .i64 i 1,b,a++F)) none) none else some a
  partial_fixpoint
theorem ZU:cF 34 0 [0] Vo gN:= .rx gN.partial_correctness (.k zN (.k IT (.k Iy (.k LN (.k LU (.k ZT (.k LV .n))))))) (.k Zh .n)
def rU(d:eN):ai (aY×J):=
 some (d.eR.length:Int)>>=λt13=>if(bif (t13<1:J)then true else (5<t13:J)) then some ((⟨[]⟩:aY),false)else gN (t13,0,d.eR,[])>>=λo=>some ((⟨o⟩:aY),true)
theorem aa2:bn ajE rU:= .bH .n (.k ZU .n)
def il:I lJ×Int×I dV->ai (I dV)
 |(d,i,a)=>
 if(bif (i<(d.length:Int):J)then (0<(a.length:Int):J)else false) then ite (aG i d.length) (some (d.getD i.toNat oA)>>=λe=>some (a.length:Int)>>=λt38=>ite (!(t38=0:J)) (some (cn (b7 .i64 e.Node) t38)>>=λt39=>ite (aG t39 a.length) (ite (t39.toNat<a.length:J) (some (a.getD t39.toNat bK).dp>>=λt46=>ite (bR 3 ([]++t46).length) (some ([]++t46)>>=λb=>ite (t39.toNat<a.length:J) (ite (t39.toNat=t39.toNat:J) (
 let n:=λc=>
 some (cn e.ae 8)>>=λf=>if (f=0:J) then ite (t39.toNat<a.length:J) (some (dG .u8 (aQ .u8 (a.getD t39.toNat bK).A (cn e.A 5)) 2)>>=λj=>ite (t39.toNat<a.length:J) (il (d,aQ .i64 i 1,(a.set t39.toNat (⟨(a.getD t39.toNat bK).ae,j,(a.getD t39.toNat bK).B,(a.getD t39.toNat bK).C,(a.getD t39.toNat bK).dp⟩:dV)).set t39.toNat (⟨((a.set t39.toNat (⟨(a.getD t39.toNat bK).ae,j,(a.getD t39.toNat bK).B,(a.getD t39.toNat bK).C,(a.getD t39.toNat bK).dp⟩:dV)).getD t39.toNat bK).ae,((a.set t39.toNat (⟨(a.getD t39.toNat bK).ae,j,(a.getD t39.toNat bK).B,(a.getD t39.toNat bK).C,(a.getD t39.toNat bK).dp⟩:dV)).getD t39.toNat bK).A,((a.set t39.toNat (⟨(a.getD t39.toNat bK).ae,j,(a.getD t39.toNat bK).B,(a.getD t39.toNat bK).C,(a.getD t39.toNat bK).dp⟩:dV)).getD t39.toNat bK).B,((a.set t39.toNat (⟨(a.getD t39.toNat bK).ae,j,(a.getD t39.toNat bK).B,(a.getD t39.toNat bK).C,(a.getD t39.toNat bK).dp⟩:dV)).getD t39.toNat bK).C,b⟩:dV))) none) none else if (f=1:J) then ite (t39.toNat<a.length:J) (some (dG .u8 (aQ .u8 (a.getD t39.toNat bK).B (cn e.B 5)) 2)>>=λk=>ite (t39.toNat<a.length:J) (il (d,aQ .i64 i 1,(a.set t39.toNat (⟨(a.getD t39.toNat bK).ae,(a.getD t39.toNat bK).A,k,(a.getD t39.toNat bK).C,(a.getD t39.toNat bK).dp⟩:dV)).set t39.toNat (⟨((a.set t39.toNat (⟨(a.getD t39.toNat bK).ae,(a.getD t39.toNat bK).A,k,(a.getD t39.toNat bK).C,(a.getD t39.toNat bK).dp⟩:dV)).getD t39.toNat bK).ae,((a.set t39.toNat (⟨(a.getD t39.toNat bK).ae,(a.getD t39.toNat bK).A,k,(a.getD t39.toNat bK).C,(a.getD t39.toNat bK).dp⟩:dV)).getD t39.toNat bK).A,((a.set t39.toNat (⟨(a.getD t39.toNat bK).ae,(a.getD t39.toNat bK).A,k,(a.getD t39.toNat bK).C,(a.getD t39.toNat bK).dp⟩:dV)).getD t39.toNat bK).B,((a.set t39.toNat (⟨(a.getD t39.toNat bK).ae,(a.getD t39.toNat bK).A,k,(a.getD t39.toNat bK).C,(a.getD t39.toNat bK).dp⟩:dV)).getD t39.toNat bK).C,b⟩:dV))) none) none else if (f=2:J) then ite (t39.toNat<a.length:J) (some (cn e.A 6)>>=λo=>ite (0<=o:J) (some (vF .u8 (a.getD t39.toNat bK).A (n1 .u8 1 o))>>=λl=>ite (t39.toNat<a.length:J) (il (d,aQ .i64 i 1,(a.set t39.toNat (⟨(a.getD t39.toNat bK).ae,l,(a.getD t39.toNat bK).B,(a.getD t39.toNat bK).C,(a.getD t39.toNat bK).dp⟩:dV)).set t39.toNat (⟨((a.set t39.toNat (⟨(a.getD t39.toNat bK).ae,l,(a.getD t39.toNat bK).B,(a.getD t39.toNat bK).C,(a.getD t39.toNat bK).dp⟩:dV)).getD t39.toNat bK).ae,((a.set t39.toNat (⟨(a.getD t39.toNat bK).ae,l,(a.getD t39.toNat bK).B,(a.getD t39.toNat bK).C,(a.getD t39.toNat bK).dp⟩:dV)).getD t39.toNat bK).A,((a.set t39.toNat (⟨(a.getD t39.toNat bK).ae,l,(a.getD t39.toNat bK).B,(a.getD t39.toNat bK).C,(a.getD t39.toNat bK).dp⟩:dV)).getD t39.toNat bK).B,((a.set t39.toNat (⟨(a.getD t39.toNat bK).ae,l,(a.getD t39.toNat bK).B,(a.getD t39.toNat bK).C,(a.getD t39.toNat bK).dp⟩:dV)).getD t39.toNat bK).C,b⟩:dV))) none) none) none else if (f=3:J) then ite (t39.toNat<a.length:J) (some (aQ .u8 (a.getD t39.toNat bK).C e.A)>>=λm=>ite (t39.toNat<a.length:J) (il (d,aQ .i64 i 1,(a.set t39.toNat (⟨(a.getD t39.toNat bK).ae,(a.getD t39.toNat bK).A,(a.getD t39.toNat bK).B,m,(a.getD t39.toNat bK).dp⟩:dV)).set t39.toNat (⟨((a.set t39.toNat (⟨(a.getD t39.toNat bK).ae,(a.getD t39.toNat bK).A,(a.getD t39.toNat bK).B,m,(a.getD t39.toNat bK).dp⟩:dV)).getD t39.toNat bK).ae,((a.set t39.toNat (⟨(a.getD t39.toNat bK).ae,(a.getD t39.toNat bK).A,(a.getD t39.toNat bK).B,m,(a.getD t39.toNat bK).dp⟩:dV)).getD t39.toNat bK).A,((a.set t39.toNat (⟨(a.getD t39.toNat bK).ae,(a.getD t39.toNat bK).A,(a.getD t39.toNat bK).B,m,(a.getD t39.toNat bK).dp⟩:dV)).getD t39.toNat bK).B,((a.set t39.toNat (⟨(a.getD t39.toNat bK).ae,(a.getD t39.toNat bK).A,(a.getD t39.toNat bK).B,m,(a.getD t39.toNat bK).dp⟩:dV)).getD t39.toNat bK).C,b⟩:dV))) none) none else if (f=4:J) then ite (t39.toNat=t39.toNat:J) (if ((b.length:Int)<8:J) then ite (t39.toNat=t39.toNat:J) (some [(⟨e.A,e.B,fR .u8 e.A 12⟩:mq)]>>=λp=>ite (bR 3 (b++p).length) (ite (t39.toNat=t39.toNat:J) (il (d,aQ .i64 i 1,a.set t39.toNat (⟨(a.getD t39.toNat bK).ae,(a.getD t39.toNat bK).A,(a.getD t39.toNat bK).B,(a.getD t39.toNat bK).C,b++p⟩:dV))) none) none) none else il (d,aQ .i64 i 1,a.set t39.toNat (⟨(a.getD t39.toNat bK).ae,(a.getD t39.toNat bK).A,(a.getD t39.toNat bK).B,(a.getD t39.toNat bK).C,b⟩:dV))) none else if (f=5:J) then ite (t39.toNat=t39.toNat:J) (if (0<(b.length:Int):J) then ite (t39.toNat=t39.toNat:J) (ite (fI 0 c b.length) (ite (t39.toNat=t39.toNat:J) (some (aQ .i64 c 1)>>=λg=>ite (fI g (b.length:Int) b.length) (ite ((c.toNat+((b.length:Int).toNat-g.toNat)<=b.length:J)&&(g.toNat+((b.length:Int).toNat-g.toNat)<=b.length:J)) (ite (t39.toNat=t39.toNat:J) (il (d,aQ .i64 i 1,a.set t39.toNat (⟨(a.getD t39.toNat bK).ae,(a.getD t39.toNat bK).A,(a.getD t39.toNat bK).B,(a.getD t39.toNat bK).C,b.take c.toNat++(b.drop g.toNat).take ((b.length:Int).toNat-g.toNat)⟩:dV))) none) none) none) none) none) none else il (d,aQ .i64 i 1,a.set t39.toNat (⟨(a.getD t39.toNat bK).ae,(a.getD t39.toNat bK).A,(a.getD t39.toNat bK).B,(a.getD t39.toNat bK).C,b⟩:dV))) none else if (f=6:J) then ite (t39.toNat=t39.toNat:J) (if (0<(b.length:Int):J) then ite (t39.toNat=t39.toNat:J) (ite (aG c b.length) (ite (c.toNat<b.length:J) (il (d,aQ .i64 i 1,a.set t39.toNat (⟨(a.getD t39.toNat bK).ae,(a.getD t39.toNat bK).A,(a.getD t39.toNat bK).B,(a.getD t39.toNat bK).C,b.set c.toNat (⟨(b.getD c.toNat jt).ah,(b.getD c.toNat jt).aC,e.B⟩:mq)⟩:dV))) none) none) none else il (d,aQ .i64 i 1,a.set t39.toNat (⟨(a.getD t39.toNat bK).ae,(a.getD t39.toNat bK).A,(a.getD t39.toNat bK).B,(a.getD t39.toNat bK).C,b⟩:dV))) none else ite (t39.toNat=t39.toNat:J) (if (0<(b.length:Int):J) then ite (t39.toNat=t39.toNat:J) (ite (t39.toNat=t39.toNat:J) (ite (aG c b.length) (ite (c.toNat<b.length:J) (ite (aG c b.length) (ite (c.toNat<b.length:J) (il (d,aQ .i64 i 1,a.set t39.toNat (⟨(a.getD t39.toNat bK).ae,(a.getD t39.toNat bK).A,(a.getD t39.toNat bK).B,(a.getD t39.toNat bK).C,b.set c.toNat (⟨(b.getD c.toNat jt).ah,aQ .u8 (b.getD c.toNat jt).aC e.B,(b.getD c.toNat jt).hV⟩:mq)⟩:dV))) none) none) none) none) none) none else il (d,aQ .i64 i 1,a.set t39.toNat (⟨(a.getD t39.toNat bK).ae,(a.getD t39.toNat bK).A,(a.getD t39.toNat bK).B,(a.getD t39.toNat bK).C,b⟩:dV))) none
 if (0<(b.length:Int):J) then ite (t39.toNat=t39.toNat:J) (some (b.length:Int)>>=λt63=>ite (!(t63=0:J)) (some (cn (b7 .i64 e.A) t63)>>=λt64=>n t64) none) none else n 0) none) none) none) none) none) none) none else some a
  partial_fixpoint
theorem XS:cF 35 0 [0] Vp il:= .rx il.partial_correctness
def DO:eN×I lJ->ai (eN)
 |(d,l)=>
 ite (bR 32 ([]++d.eR).length) (il (l,0,[]++d.eR)>>=λo=>some (⟨o⟩:eN)) none
theorem Zi:bn ajF DO:= .bH .n (.k XS .n)
def zK(c:nu):ai (dJ×dJ×J):=
 rU c.S>>=λr=>DO (c.S,c.L)>>=λb=>rU b>>=λa=>if(bif bif (!r.2)then true else(!a.2)then true else (5<(c.L.length:Int):J)) then some ((⟨(⟨[]⟩:aY),0⟩:dJ),(⟨(⟨[]⟩:aY),0⟩:dJ),false)else some (r.1.bk.length:Int)>>=λt45=>ite (!(t45=0:J)) (some (cn (b7 .i64 c.T) t45)>>=λt46=>some (a.1.bk.length:Int)>>=λt58=>ite (!(t58=0:J)) (some ((⟨r.1,t46⟩:dJ),(⟨a.1,cn (aQ .i64 t46 (b7 .i64 c.U)) t58⟩:dJ),true)) none) none
theorem aa3:bn aiA zK:= .bH (.k aa2 (.k Zi .n))
def tC:I de×I de×Int×Int->ai ((J) ⊕ (Unit))
 |(a,b,c,t13)=>
 if (t13<c:J) then ite (aG t13 a.length) (some (a.getD t13.toNat ek)>>=λd=>ite (aG t13 b.length) (some (b.getD t13.toNat ek)>>=λe=>if !(eZ d.ah e.ah&&(jW d.aR e.aR&&true)) then some (.inl false)else tC (a,b,c,aQ .i64 t13 1)) none) none else some (.inr ())
  partial_fixpoint
theorem X5:cF 324 0 [0] RK tC:= .rx tC.partial_correctness
def DF(c:I de×I de):ai (J):=
 match c with
 |(s1,a)=>
 if !((s1.length:Int)=(a.length:Int):J) then some false else tC (s1,a,(s1.length:Int),0)>>=λo=>match o with
 |.inl b=>
 some b
 |.inr d=>
 some true
theorem X7:bn Vi DF:= .bH .n (.k X5 .n)
def tD:I ct×I ct×Int×Int->ai ((J) ⊕ (Unit))
 |(a,b,c,t13)=>
 if (t13<c:J) then ite (aG t13 a.length) (some (a.getD t13.toNat cq)>>=λd=>ite (aG t13 b.length) (some (b.getD t13.toNat cq)>>=λe=>if !(eZ d.ah e.ah&&(jW d.b5 e.b5&&true)) then some (.inl false)else tD (a,b,c,aQ .i64 t13 1)) none) none else some (.inr ())
  partial_fixpoint
theorem X8:cF 316 0 [0] RL tD:= .rx tD.partial_correctness
def zG(c:I ct×I ct):ai (J):=
 match c with
 |(s1,a)=>
 if !((s1.length:Int)=(a.length:Int):J) then some false else tD (s1,a,(s1.length:Int),0)>>=λo=>match o with
 |.inl b=>
 some b
 |.inr d=>
 some true
theorem L0:bn Vd zG:= .bH .n (.k X8 .n)
mutual
def nB:ab×ab->ai (J)
 |(a,b)=>
 some (bif bif bif bif (a.ae=b.ae:J)then ft a.cp b.cp else false then (a.bF=b.bF:J)else false then (a.bW=b.bW:J)else false then (a.ah=b.ah:J)else false)>>=λt37=>(if t37 then zG (a.a6,b.a6)else some false)>>=λr=>some (bif t37 then r else false)>>=λt44=>(if t44 then zr (a.a',b.a')else some false)>>=λp=>some (bif t44 then p else false)>>=λt51=>(if t51 then zr (a.aw,b.aw)else some false)>>=λq=>some (bif t51 then q else false)
  partial_fixpoint
def zr(c:I ab×I ab):ai (J):=
 match c with
 |(s1,f)=>
 if !((s1.length:Int)=(f.length:Int):J) then some false else wC (f,s1,(s1.length:Int),0)>>=λo=>match o with
 |.inl j=>
 some j
 |.inr t=>
 some true
  partial_fixpoint
def wC:I ab×I ab×Int×Int->ai ((J) ⊕ (Unit))
 |(e,t15,g,t17)=>
 if (t17<g:J) then ite (aG t17 t15.length) (ite (aG t17 e.length) (nB (ab.eta (t15.getD t17.toNat aI),ab.eta (e.getD t17.toNat aI))>>=λr=>if !r then some (.inl false)else wC (e,t15,g,aQ .i64 t17 1)) none) none else some (.inr ())
  partial_fixpoint
end
theorem aaz:e6 yX nB/\e6 FH zr/\fx 317 0 [0] AS wC:=nB.mutual_partial_correctness (eX yX) (eX FH) (fw 317 0 [0] AS)
 (λ_ h1 _ _ h=>fb h (.k L0 (.k (cL FH h1) .n)))
 (λ_ a _ _ h=>fb h .n (.k (fL AS a) .n))
 (λ_ _ h0 a _ _ h=>fK AS a h (.k (cL yX h0) .n))
theorem M':bn yX nB:=cL _ aaz.1
def zL:aT×aT->ai (J)
 |(a,y)=>
 some (bif bif bif bif (a.ah=y.ah:J)then (a.aR=y.aR:J)else false then (a.aC=y.aC:J)else false then ft a.bV y.bV else false then ft a.bO y.bO else false)>>=λt37=>(if t37 then nB ((⟨a.bC.ae,a.bC.cp,a.bC.bF,a.bC.bW,a.bC.ah,a.bC.a',a.bC.aw,a.bC.a6⟩:ab),ab.eta y.bC)else some false)>>=λr=>some (bif t37 then r else false)
theorem aak:bn Vk zL:= .bH (.k M' .n)
def pK:I aT×I aT×Int×Int->ai ((J) ⊕ (Unit))
 |(c,t15,d,t17)=>
 if (t17<d:J) then ite (aG t17 t15.length) (some (t15.getD t17.toNat aF)>>=λa=>ite (aG t17 c.length) (some (c.getD t17.toNat aF)>>=λb=>zL ((⟨a.ah,a.aR,a.aC,a.bV,a.bO,ab.eta a.bC⟩:aT),(⟨b.ah,b.aR,b.aC,b.bV,b.bO,ab.eta b.bC⟩:aT))>>=λr=>if !r then some (.inl false)else pK (c,t15,d,aQ .i64 t17 1)) none) none else some (.inr ())
  partial_fixpoint
theorem XG:cF 325 0 [0] RM pK:= .rx pK.partial_correctness (.k aak .n)
def DD(c:I aT×I aT):ai (J):=
 match c with
 |(s1,a)=>
 if !((s1.length:Int)=(a.length:Int):J) then some false else pK (a,s1,(s1.length:Int),0)>>=λo=>match o with
 |.inl b=>
 some b
 |.inr d=>
 some true
theorem XH:bn Vj DD:= .bH .n (.k XG .n)
def iF:aj×aj->ai (J)
 |(a,b)=>
 some (bif bif bif bif bif bif bif (a.ae=b.ae:J)then (a.aR=b.aR:J)else false then (a.bA=b.bA:J)else false then (a.bI=b.bI:J)else false then (a.Max=b.Max:J)else false then (a.aS=b.aS:J)else false then (a.aE=b.aE:J)else false then ft a.bt b.bt else false)>>=λt58=>(if t58 then DF (a.bf,b.bf)else some false)>>=λr=>some (bif t58 then r else false)>>=λt65=>(if t65 then DD (a.af,b.af)else some false)>>=λc=>some (bif t65 then c else false)
theorem abr:bn U3 iF:= .bH (.k X7 (.k XH .n))
def zM(c:Int):ai (J):=
 some (bif bif (c=95:J)then true else bif (97<=c:J)then (c<=122:J)else false then true else bif (65<=c:J)then (c<=90:J)else false)
theorem Ly:bn Ve zM:= .bH
def D0(c:Int):ai (J):=
 some (bif (48<=c:J)then (c<=57:J)else false)
theorem aaA:bn Vf D0:= .bH
def mB:au×Int×Int->ai ((J) ⊕ (Unit))
 |(a,b,t19)=>
 if (t19<b:J) then ite (aG t19 a.length) (zM (gC a t19)>>=λc=>some (!c)>>=λt26=>ite (aG t19 a.length||(!t26)) ((if t26 then D0 (gC a t19)else some false)>>=λd=>if(bif t26 then(!d)else false) then some (.inl false)else mB (a,b,aQ .i64 t19 1)) none) none else some (.inr ())
  partial_fixpoint
theorem Zr:cF 275 0 [0] RN mB:= .rx mB.partial_correctness (.k Ly (.k aaA .n))
def la(s:au):ai (J):=
 some (bif (s=[]:J)then true else (24<(s.length:Int):J))>>=λt10=>ite (aG 0 s.length||(!(!t10))) ((if !t10 then zM (gC s 0)else some false)>>=λr=>if(bif t10 then true else(!r)) then some false else mB (s,(s.length:Int),0)>>=λo=>match o with
 |.inl a=>
 some a
 |.inr b=>
 some true) none
theorem MY:bn U0 la:= .bH (.k Ly .n) (.k Zr .n)
def qE:az×I au×az×Int×Int×I au->ai ((J) ⊕ az)
 |(c,a,t9,e,t11,b)=>
 if (t11<e:J) then ite (aG t11 t9.length) (some (t9.getD t11.toNat 0)>>=λd=>some (bif (d<1:J)then true else (1000<d:J))>>=λt21=>some (0<t11:J)>>=λt24=>some (dG .i64 t11 1)>>=λt29=>ite (aG t29 c.length||(!((!t21)&&t24))) (some (bif t21 then true else bif t24 then (d<=c.getD t29.toNat 0:J)else false)>>=λt34=>ite (aG t11 a.length||(!(!t34))) (some (bif t34 then true else hr b (a.getD t11.toNat []))>>=λt42=>ite (aG t11 a.length||(!(!t42))) ((if !t42 then la (a.getD t11.toNat [])else some false)>>=λr=>if(bif t42 then true else(!r)) then some (.inl false)else ite (aG t11 a.length) (qE (c,a,t9,e,aQ .i64 t11 1,jr b (a.getD t11.toNat []))) none) none) none) none) none else some (.inr c)
  partial_fixpoint
theorem aaB:cF 322 0 [0] RO qE:= .rx qE.partial_correctness (.k MY .n)
def AA(c:az×I au):ai (J):=
 match c with
 |(l,names)=>
 qE (l,names,l,(l.length:Int),0,[])>>=λo=>match o with
 |.inl a=>
 some a
 |.inr b=>
 some ((b.length:Int)<=16:J)
theorem MC:bn Vg AA:= .bH .n (.k aaB .n)
def rK:I de×I de×Int×Int×az×I au->ai (I de×az×I au)
 |(c,t7,d,t9,a,b)=>
 if (t9<d:J) then ite (aG t9 t7.length) (some (t7.getD t9.toNat ek)>>=λe=>some [e.ah]>>=λt16=>ite (bR 8 (a++t16).length) (some [e.aR]>>=λt21=>ite (bR 16 (b++t21).length) (rK (c,t7,d,aQ .i64 t9 1,a++t16,b++t21)) none) none) none else some (c,a,b)
  partial_fixpoint
theorem ZV:cF 276 0 [0] RP rK:= .rx rK.partial_correctness
def wS(l:I de):ai (J):=
 rK (l,l,(l.length:Int),0,[],[])>>=λo=>some (0<(o.1.length:Int):J)>>=λt26=>(if t26 then AA (o.2.1,o.2.2)else some false)>>=λr=>some (bif t26 then r else false)
theorem aal:bn U1 wS:= .bH (.k MC .n) (.k ZV .n)
def Eb(v:ab):ai (J):=
 nB (ab.eta v,(⟨0,false,0,[],0,[],[],[]⟩:ab))>>=λr=>some r
theorem abt:bn Vh Eb:= .bH (.k M' .n)
def qy:I aT×Int×Int×aj×az×I au->ai ((J) ⊕ (aj×az×I au))
 |(t8,e,t10,b,c,d)=>
 if (t10<e:J) then ite (aG t10 t8.length) (some (t8.getD t10.toNat aF)>>=λa=>some [a.ah]>>=λt17=>ite (bR 8 (c++t17).length) (some [a.aR]>>=λt22=>ite (bR 16 (d++t22).length) (some (bif bif (b.ae=6:J)then bif a.bV then true else a.bO else false then true else bif a.bV then a.bO else false)>>=λt42=>some (!a.bO)>>=λt46=>(if((!t42)&&t46) then Eb (ab.eta a.bC)else some false)>>=λf=>if(bif t42 then true else bif t46 then(!f)else false) then some (.inl false)else qy (t8,e,aQ .i64 t10 1,b,c++t17,d++t22)) none) none) none else some (.inr (b,c,d))
  partial_fixpoint
theorem ZW:cF 277 0 [0] S5 qy:= .rx qy.partial_correctness (.k abt .n)
def uo(t:aj):ai (J):=
 qy (t.af,(t.af.length:Int),0,t,[],[])>>=λo=>match o with
 |.inl b=>
 some b
 |.inr a=>
 some (bif (a.1.ae=5:J)then true else (0<(a.2.1.length:Int):J))>>=λt62=>(if t62 then AA (a.2.1,a.2.2)else some false)>>=λr=>some (bif t62 then r else false)
theorem aam:bn U2 uo:= .bH (.k MC .n) (.k ZW .n)
def ho(t:aj):ai (J):=
 if (t.ae=1:J) then iF ((⟨0,t.aR,t.bA,t.bI,t.Max,t.bf,t.af,t.aS,t.aE,t.bt⟩:aj),(⟨0,[],0,0,0,[],[],0,0,false⟩:aj))>>=λr=>some r else if (t.ae=2:J) then some (t.bA<=t.bI:J)>>=λt17=>(if t17 then iF ((⟨0,t.aR,0,0,t.Max,t.bf,t.af,t.aS,t.aE,t.bt⟩:aj),(⟨0,[],0,0,0,[],[],0,0,false⟩:aj))else some false)>>=λj=>some (bif t17 then j else false)else if (t.ae=3:J) then some (bif (0<=t.Max:J)then (t.Max<=200:J)else false)>>=λt29=>(if t29 then iF ((⟨0,t.aR,t.bA,t.bI,0,t.bf,t.af,t.aS,t.aE,t.bt⟩:aj),(⟨0,[],0,0,0,[],[],0,0,false⟩:aj))else some false)>>=λv=>some (bif t29 then v else false)else if (t.ae=4:J) then la t.aR>>=λe=>(if e then wS t.bf else some false)>>=λA=>some (bif e then A else false)>>=λt40=>(if t40 then iF ((⟨0,[],t.bA,t.bI,t.Max,[],t.af,t.aS,t.aE,false⟩:aj),(⟨0,[],0,0,0,[],[],0,0,false⟩:aj))else some false)>>=λB=>some (bif t40 then B else false)else some (t.ae=5:J)>>=λt45=>if t45 then if t45 then la t.aR>>=λf=>(if f then uo t else some false)>>=λC=>some (bif f then C else false)>>=λt53=>(if t53 then iF ((⟨0,[],t.bA,t.bI,t.Max,t.bf,[],t.aS,t.aE,bif t.bt then (t.ae=5:J)else false⟩:aj),(⟨0,[],0,0,0,[],[],0,0,false⟩:aj))else some false)>>=λD=>some (bif t53 then D else false)else some (t.ae=7:J)>>=λt65=>if t65 then if t65 then some (bif (0<=t.Max:J)then (t.Max<=50:J)else false)>>=λt74=>if (t.ae=8:J) then (if t74 then iF ((⟨0,t.aR,t.bA,t.bI,0,t.bf,t.af,0,0,t.bt⟩:aj),(⟨0,[],0,0,0,[],[],0,0,false⟩:aj))else some false)>>=λE=>some (bif t74 then E else false)else (if t74 then iF ((⟨0,t.aR,t.bA,t.bI,0,t.bf,t.af,t.aS,0,t.bt⟩:aj),(⟨0,[],0,0,0,[],[],0,0,false⟩:aj))else some false)>>=λk=>some (bif t74 then k else false)else if (t.ae=9:J) then iF ((⟨0,t.aR,t.bA,t.bI,t.Max,t.bf,t.af,t.aS,0,t.bt⟩:aj),(⟨0,[],0,0,0,[],[],0,0,false⟩:aj))>>=λl=>some l else some false else if (t.ae=8:J) then some (bif (0<=t.Max:J)then (t.Max<=50:J)else false)>>=λa=>if (t.ae=8:J) then (if a then iF ((⟨0,t.aR,t.bA,t.bI,0,t.bf,t.af,0,0,t.bt⟩:aj),(⟨0,[],0,0,0,[],[],0,0,false⟩:aj))else some false)>>=λm=>some (bif a then m else false)else (if a then iF ((⟨0,t.aR,t.bA,t.bI,0,t.bf,t.af,t.aS,0,t.bt⟩:aj),(⟨0,[],0,0,0,[],[],0,0,false⟩:aj))else some false)>>=λn=>some (bif a then n else false)else if (t.ae=9:J) then iF ((⟨0,t.aR,t.bA,t.bI,t.Max,t.bf,t.af,t.aS,0,t.bt⟩:aj),(⟨0,[],0,0,0,[],[],0,0,false⟩:aj))>>=λo=>some o else some false else if (t.ae=6:J) then la t.aR>>=λd=>(if d then uo t else some false)>>=λp=>some (bif d then p else false)>>=λg=>(if g then iF ((⟨0,[],t.bA,t.bI,t.Max,t.bf,[],t.aS,t.aE,bif t.bt then (t.ae=5:J)else false⟩:aj),(⟨0,[],0,0,0,[],[],0,0,false⟩:aj))else some false)>>=λq=>some (bif g then q else false)else some (t.ae=7:J)>>=λi=>if i then if i then some (bif (0<=t.Max:J)then (t.Max<=50:J)else false)>>=λb=>if (t.ae=8:J) then (if b then iF ((⟨0,t.aR,t.bA,t.bI,0,t.bf,t.af,0,0,t.bt⟩:aj),(⟨0,[],0,0,0,[],[],0,0,false⟩:aj))else some false)>>=λs=>some (bif b then s else false)else (if b then iF ((⟨0,t.aR,t.bA,t.bI,0,t.bf,t.af,t.aS,0,t.bt⟩:aj),(⟨0,[],0,0,0,[],[],0,0,false⟩:aj))else some false)>>=λu=>some (bif b then u else false)
 else if (t.ae=9:J) then iF ((⟨0,t.aR,t.bA,t.bI,t.Max,t.bf,t.af,t.aS,0,t.bt⟩:aj),(⟨0,[],0,0,0,[],[],0,0,false⟩:aj))>>=λw=>some w else some false else if (t.ae=8:J) then some (bif (0<=t.Max:J)then (t.Max<=50:J)else false)>>=λc=>if (t.ae=8:J) then (if c then iF ((⟨0,t.aR,t.bA,t.bI,0,t.bf,t.af,0,0,t.bt⟩:aj),(⟨0,[],0,0,0,[],[],0,0,false⟩:aj))else some false)>>=λx=>some (bif c then x else false)else (if c then iF ((⟨0,t.aR,t.bA,t.bI,0,t.bf,t.af,t.aS,0,t.bt⟩:aj),(⟨0,[],0,0,0,[],[],0,0,false⟩:aj))else some false)>>=λy=>some (bif c then y else false)else if (t.ae=9:J) then iF ((⟨0,t.aR,t.bA,t.bI,t.Max,t.bf,t.af,t.aS,0,t.bt⟩:aj),(⟨0,[],0,0,0,[],[],0,0,false⟩:aj))>>=λz=>some z else some false
theorem abF:bn UE ho:= .bH (.k abr (.k MY (.k aal (.k aam .n))))
def uq:I aT×Int×Int×aj×az->ai (aj×az)
 |(t7,c,t9,b,a)=>
 if (t9<c:J) then ite (aG t9 t7.length) (some [(t7.getD t9.toNat aF).aC]>>=λt16=>ite (bR 8 (a++t16).length) (uq (t7,c,aQ .i64 t9 1,b,a++t16)) none) none else some (b,a)
  partial_fixpoint
theorem aan:cF 207 0 [0] S6 uq:= .rx uq.partial_correctness
def E7(t:aj):ai az:=
 uq (t.af,(t.af.length:Int),0,t,[])>>=λo=>if (o.1.ae=8:J) then some [o.1.aS]>>=λt25=>ite (bR 8 (o.2++t25).length) (some (o.2++t25)>>=λl=>if (7<=o.1.ae:J) then some [o.1.aE]>>=λt33=>ite (bR 8 (l++t33).length) (some (l++t33)) none else some l) none else if (7<=o.1.ae:J) then some [o.1.aE]>>=λa=>ite (bR 8 (o.2++a).length) (some (o.2++a)) none else some o.2
theorem abG:bn UF E7:= .bH .n (.k aan .n)
def qz:I aj×Int×Int×az×Int×Int×I aj×I au×Int×au×Int×Int×Int×I de×I aT×Int×Int×J->ai ((Int) ⊕ (I aj×Int×Int×I aj×I au×Int×au×Int×Int×Int×I de×I aT×Int×Int×J))
 |(n,o,p,t38,q,t40,a,b,c,d,e,f,g,i,j,k,l,m)=>
 if (t40<q:J) then ite (aG t40 t38.length) (some (t38.getD t40.toNat 0)>>=λr=>if(bif (r<0:J)then true else ((a.length:Int)<=r:J)) then some (.inl 4)else qz (n,o,p,t38,q,aQ .i64 t40 1,a,b,c,d,e,f,g,i,j,k,l,m)) none else some (.inr (n,o,p,a,b,c,d,e,f,g,i,j,k,l,m))
  partial_fixpoint
theorem ZX:cF 147 0 [0,0] QC qz:= .rx qz.partial_correctness
def rS(j:I aj×Int×Int×I aj×I au):ai ((Int) ⊕ (Unit)):=
 match j with
 |(t14,f,t16,b,d)=>
 if (t16<f:J) then ite (aG t16 t14.length) (some (t14.getD t16.toNat aM)>>=λa=>ho a>>=λr=>if(bif (!r)then true else bif (!(a.aR=[]:J))then hr d a.aR else false) then some (.inl 1)else E7 a>>=λe=>qz (t14,f,t16,e,(e.length:Int),0,b,jr d a.aR,a.ae,a.aR,a.bA,a.bI,a.Max,a.bf,a.af,a.aS,a.aE,a.bt)>>=λg=>match g with
 |.inl i=>
 some (.inl i)
 |.inr c=>
 some (c.2.2.2.2.2.1=8:J)>>=λt56=>ite (aG c.2.2.2.2.2.2.2.2.2.2.2.2.1 c.2.2.2.1.length||(!t56)) (some ((c.2.2.2.1.getD c.2.2.2.2.2.2.2.2.2.2.2.2.1.toNat aM).ae<1:J)>>=λt65=>ite (aG c.2.2.2.2.2.2.2.2.2.2.2.2.1 c.2.2.2.1.length||(!(t56&&(!t65)))) (if(bif t56 then bif t65 then true else (4<(c.2.2.2.1.getD c.2.2.2.2.2.2.2.2.2.2.2.2.1.toNat aM).ae:J)else false) then some (.inl 1)else rS (c.1,c.2.1,aQ .i64 c.2.2.1 1,c.2.2.2.1,c.2.2.2.2.1)) none) none) none else some (.inr ())
  partial_fixpoint
theorem Zs:cF 147 0 [0] S7 rS:= .rx rS.partial_correctness (.k abF (.k abG .n)) (.k ZX .n)
def p8(s:aY):ai (Int):=
 if (32<(s.bk.length:Int):J) then some 3 else rS (s.bk,(s.bk.length:Int),0,s.bk,[])>>=λo=>match o with
 |.inl a=>
 some a
 |.inr b=>
 some 0
theorem AW:bn Up p8:= .bH .n (.k Zs .n)
def Fk(v:ab):ai (ab):=
 if (v.ae=1:J) then some (⟨v.ae,v.cp,0,[],0,[],[],[]⟩:ab)else if (v.ae=2:J) then some (⟨v.ae,false,v.bF,[],0,[],[],[]⟩:ab)else if (v.ae=3:J) then some (⟨v.ae,false,0,v.bW,0,[],[],[]⟩:ab)else if (v.ae=4:J) then some (⟨v.ae,false,0,[],v.ah,[],[],[]⟩:ab)else if (v.ae=5:J) then some (⟨v.ae,false,0,[],0,[],v.aw,v.a6⟩:ab)else if (v.ae=6:J) then some (⟨v.ae,false,0,[],v.ah,[],v.aw,v.a6⟩:ab)else if (v.ae=8:J) then some (⟨v.ae,false,0,[],0,v.a',v.aw,[]⟩:ab)else some (v.ae=7:J)>>=λt57=>if t57 then if t57 then some (⟨v.ae,false,0,[],0,[],v.aw,[]⟩:ab)else some (⟨v.ae,false,0,[],0,[],[],[]⟩:ab)else if (v.ae=9:J) then some (⟨v.ae,false,0,[],0,[],v.aw,[]⟩:ab)else some (⟨v.ae,false,0,[],0,[],[],[]⟩:ab)
theorem acp:bn UJ Fk:= .bH
def Ec(v:ab):ai (J):=
 Fk (ab.eta v)>>=λr=>some (bif bif bif bif bif bif ft v.cp r.cp then (v.bF=r.bF:J)else false then (v.bW=r.bW:J)else false then (v.ah=r.ah:J)else false then ((v.a'.length:Int)=(r.a'.length:Int):J)else false then ((v.aw.length:Int)=(r.aw.length:Int):J)else false then ((v.a6.length:Int)=(r.a6.length:Int):J)else false)
theorem abu:bn Uq Ec:= .bH (.k acp .n)
def IG:de×Int->ai (J×Int)
 |(a,b)=>
 some ((a.ah=b:J),b)
theorem aaI:bn UL IG:= .bH
def oL:I de×Int×Int×Int->ai ((Int×Int) ⊕ (Int))
 |(a,c,t8,b)=>
 if (t8<c:J) then ite (aG t8 a.length) (IG (a.getD t8.toNat ek,b)>>=λr=>if r.1 then some (.inl (t8,r.2))else oL (a,c,aQ .i64 t8 1,r.2)) none else some (.inr b)
  partial_fixpoint
theorem XA:cF 217 1 [0] S8 oL:= .rx oL.partial_correctness (.k aaI .n)
def IK(d:I de×Int):ai (Int×Int):=
 match d with
 |(s,b)=>
 oL (s,(s.length:Int),0,b)>>=λo=>match o with
 |.inl a=>
 some (a.1,a.2)
 |.inr c=>
 some ((-1),c)
theorem XE:bn UK IK:= .bH .n (.k XA .n)
def rX:aj×Int->ai (Int×J)
 |(t,id)=>
 IK (t.bf,id)>>=λr=>some (mJ r.1 0,(0<=r.1:J))
theorem IH:bn Ur rX:= .bH (.k XE .n)
def AB(id:Int):ai (J):=
 some (bif (1<=id:J)then (id<=1000:J)else false)
theorem MD:bn Us AB:= .bH
def II:aT×Int->ai (J×Int)
 |(m,b)=>
 some ((m.ah=b:J),b)
theorem aaJ:bn UN II:= .bH
def pL:I aT×Int×Int×Int->ai ((Int×Int) ⊕ (Int))
 |(b,d,t8,c)=>
 if (t8<d:J) then ite (aG t8 b.length) (some (b.getD t8.toNat aF)>>=λa=>II ((⟨a.ah,a.aR,a.aC,a.bV,a.bO,ab.eta a.bC⟩:aT),c)>>=λr=>if r.1 then some (.inl (t8,r.2))else pL (b,d,aQ .i64 t8 1,r.2)) none else some (.inr c)
  partial_fixpoint
theorem XB:cF 219 1 [0] S9 pL:= .rx pL.partial_correctness (.k aaJ .n)
def IL(d:I aT×Int):ai (Int×Int):=
 match d with
 |(s,b)=>
 pL (s,(s.length:Int),0,b)>>=λo=>match o with
 |.inl a=>
 some (a.1,a.2)
 |.inr c=>
 some ((-1),c)
theorem XF:bn UM IL:= .bH .n (.k XB .n)
def hl:aj×Int->ai (Int×J)
 |(t,id)=>
 IL (t.af,id)>>=λr=>some (mJ r.1 0,(0<=r.1:J))
theorem qD:bn Ut hl:= .bH (.k XF .n)
def lL:J×I ct×Int×Int×I aj×ab×Int×au×Int×Int×Int×I de×I aT×Int×Int×J->ai ((J) ⊕ (J×I aj×Int×J×Int×au×Int×I ab×I ab×I ct×Int×au×Int×Int×Int×I de×I aT×Int×Int×J))
 |(o,t111,q,t113,n,a,b,c,d,e,f,g,i,j,k,l)=>
 if (t113<q:J) then ite (aG t113 t111.length) (some (t111.getD t113.toNat cq)>>=λm=>hl ((⟨b,c,d,e,f,g,i,j,k,l⟩:aj),m.ah)>>=λp=>(if !p.2 then AB m.ah else some false)>>=λr=>some (bif p.2 then true else(!r))>>=λt131=>some (0<t113:J)>>=λt134=>some (dG .i64 t113 1)>>=λt141=>ite (aG t141 a.a6.length||(!((!t131)&&t134))) (if(bif t131 then true else bif t134 then (m.ah<=(a.a6.getD t141.toNat cq).ah:J)else false) then some (.inl false)else lL (o,t111,q,aQ .i64 t113 1,n,ab.eta a,b,c,d,e,f,g,i,j,k,l)) none) none else some (.inr (o,n,a.ae,a.cp,a.bF,a.bW,a.ah,a.a',a.aw,a.a6,b,c,d,e,f,g,i,j,k,l))
  partial_fixpoint
theorem aaC:cF 101 0 [0] Ta lL:= .rx lL.partial_correctness (.k qD (.k MD .n))
def EP(a:Int):ai (J):=
 some (!(a=a:J))
theorem ab6:bn U9 EP:= .bH
def E8:Int×Int->ai (Int)
 |(a,y)=>
 EP a>>=λr=>EP y>>=λb=>if r then if b then some 0 else some (-1)else if b then some 1 else if (a<y:J) then some (-1)else if (y<a:J) then some 1 else some 0
theorem abH:bn UO E8:= .bH (.k ab6 .n)
def E9(a:Int):ai (J):=
 some (!(a=a:J))
theorem abI:bn U' E9:= .bH
def A1:Int×Int->ai (Int)
 |(a,y)=>
 E9 a>>=λr=>E9 y>>=λb=>if r then if b then some 0 else some (-1)else if b then some 1 else if (a<y:J) then some (-1)else if (y<a:J) then some 1 else some 0
theorem aaD:bn UQ A1:= .bH (.k abI .n)
def E'(a:au):ai (J):=
 some (!(a=a:J))
theorem abJ:bn Va E':= .bH
def D1:au×au->ai (Int)
 |(a,y)=>
 E' a>>=λr=>E' y>>=λb=>if r then if b then some 0 else some (-1)else if b then some 1 else if Op.bytesLess a y then some (-1)else if !(Op.bytesLess a y||(a=y:J)) then some 1 else some 0
theorem aaE:bn UR D1:= .bH (.k abJ .n)
def sG:Int×az×Int×Int->ai ((Int) ⊕ (Int))
 |(a,t6,b,t8)=>
 if (t8<b:J) then ite (aG t8 t6.length) (some (t6.getD t8.toNat 0)>>=λc=>if !(c=a:J) then some (.inl c)else sG (a,t6,b,aQ .i64 t8 1)) none else some (.inr a)
  partial_fixpoint
theorem ab7:cF 224 0 [0] S' sG:= .rx sG.partial_correctness
def FJ(a:az):ai (Int):=
 sG (0,a,(a.length:Int),0)>>=λo=>match o with
 |.inl b=>
 some b
 |.inr c=>
 some c
theorem afm:bn UP FJ:= .bH .n (.k ab7 .n)
def wU(n:Int):ai (Int):=
 some (vF .u64 (n1 .u64 (b7 .u64 n) 1) (b7 .u64 (lZ .i64 n 63)))
theorem ML:bn Uy wU:= .bH
def ny:ab×ab->ai (Int)
 |(a,b)=>
 if !(a.ae=b.ae:J) then some 0 else if (a.ae=1:J) then if ft a.cp b.cp then some 0 else if b.cp then some (-1)else some 1 else if (a.ae=2:J) then wU a.bF>>=λr=>wU b.bF>>=λc=>E8 (r,c)>>=λd=>some d else if (a.ae=3:J) then A1 ((a.bW.length:Int),(b.bW.length:Int))>>=λe=>D1 (a.bW,b.bW)>>=λf=>FJ [e,f]>>=λg=>some g else if (a.ae=4:J) then A1 (a.ah,b.ah)>>=λi=>some i else some 0
theorem MM:bn Uu ny:= .bH (.k ML (.k abH (.k aaD (.k aaE (.k afm .n)))))
def mD:J×Int×I aj×ab×Int×au×Int×Int×Int×I de×I aT×Int×Int×J->ai ((J) ⊕ (J×I aj×ab×Int×au×Int×Int×Int×I de×I aT×Int×Int×J))
 |(o,i,b,a,c,d,e,f,g,j,k,l,m,n)=>
 if (i<(a.a'.length:Int):J) then some (dG .i64 i 1)>>=λt291=>ite (aG t291 a.a'.length) (ite (aG i a.a'.length) (ny (ab.eta (a.a'.getD t291.toNat aI),ab.eta (a.a'.getD i.toNat aI))>>=λp=>if (0<=p:J) then some (.inl false)else mD (o,aQ .i64 i 1,b,ab.eta a,c,d,e,f,g,j,k,l,m,n)) none) none else some (.inr (o,b,ab.eta a,c,d,e,f,g,j,k,l,m,n))
  partial_fixpoint
theorem aaF:cF 101 0 [2] Tb mD:= .rx mD.partial_correctness (.k MM .n)
mutual
def DE:I ab×I aj×Int×J->ai (J×I aj×Int×J)
 |(s,b,f,g)=>
 IM (s,b,f,g)>>=λr=>some ((0<=r.1:J),r.2.1,r.2.2.1,r.2.2.2)
  partial_fixpoint
def IM(e:I ab×I aj×Int×J):ai (Int×I aj×Int×J):=
 match e with
 |(s,b,f,g)=>
 r1 (s,(s.length:Int),0,b,f,g)>>=λo=>match o with
 |.inl j=>
 some (j.1,j.2.1,j.2.2.1,j.2.2.2)
 |.inr c=>
 some ((-1),c.1,c.2.1,c.2.2)
  partial_fixpoint
def sE:aY×Int×I ab×J->ai (J)
 |(s,t,l,plain)=>
 DE (l,s.bk,t,plain)>>=λr=>some (!r.1)
  partial_fixpoint
def I':ab×I aj×Int×J->ai (J×I aj×Int×J)
 |(v,b,f,g)=>
 kF ((⟨b⟩:aY),f,ab.eta v,g)>>=λr=>some ((!r),b,f,g)
  partial_fixpoint
def kF(e:aY×Int×ab×J):ai (J):=
 match e with
 |(s,t,v,plain)=>
 if(bif (t<0:J)then true else ((s.bk.length:Int)<=t:J)) then some false else ite (aG t s.bk.length) (some (s.bk.getD t.toNat aM)>>=λa=>some (!(v.ae=a.ae:J))>>=λt39=>(if !t39 then Ec (ab.eta v)else some false)>>=λr=>if(bif t39 then true else(!r)) then some false else if (a.ae=2:J) then some (bif (a.bA<=v.bF:J)then (v.bF<=a.bI:J)else false)else if (a.ae=3:J) then some ((v.bW.length:Int)<=a.Max:J)else if (a.ae=4:J) then rX (a,v.ah)>>=λF=>some (bif a.bt then(!plain)else false)>>=λt85=>(if((!F.2)&&t85) then AB v.ah else some false)>>=λal=>some (bif F.2 then true else bif t85 then al else false)else if (a.ae=5:J) then if(bif (!((v.aw.length:Int)=(a.af.length:Int):J))then true else bif plain then (0<(v.a6.length:Int):J)else false) then some false else lL (plain,v.a6,(v.a6.length:Int),0,s.bk,ab.eta v,a.ae,a.aR,a.bA,a.bI,a.Max,a.bf,a.af,a.aS,a.aE,a.bt)>>=λo=>match o with
 |.inl j=>
 some j
 |.inr c=>
 qF (c.1,c.2.2.2.2.2.2.2.2.2.2.2.2.2.2.2.2.1,(c.2.2.2.2.2.2.2.2.2.2.2.2.2.2.2.2.1.length:Int),0,c.2.1,c.2.2.1,c.2.2.2.1,c.2.2.2.2.1,c.2.2.2.2.2.1,c.2.2.2.2.2.2.1,c.2.2.2.2.2.2.2.1,c.2.2.2.2.2.2.2.2.1,c.2.2.2.2.2.2.2.2.2.1)>>=λR=>match R with
 |.inl S=>
 some S
 |.inr ap=>
 some true else if (a.ae=6:J) then hl (a,v.ah)>>=λw=>if w.2 then some (bif ((v.aw.length:Int)=1:J)then ((v.a6.length:Int)=0:J)else false)>>=λt188=>ite (aG w.1 a.af.length||(!t188)) (ite (aG 0 v.aw.length||(!t188)) ((if t188 then kF ((⟨s.bk⟩:aY),(a.af.getD w.1.toNat aF).aC,ab.eta (v.aw.getD (0:Int).toNat aI),plain)else some false)>>=λam=>some (bif t188 then am else false)) none) none else some (bif a.bt then(!plain)else false)>>=λt209=>(if t209 then AB v.ah else some false)>>=λan=>some (bif bif bif t209 then an else false then ((v.aw.length:Int)=0:J)else false then ((v.a6.length:Int)=1:J)else false)>>=λt226=>ite (aG 0 v.a6.length||(!t226)) (some (bif t226 then ((v.a6.getD (0:Int).toNat cq).ah=v.ah:J)else false)) none else if (a.ae=7:J) then some ((v.aw.length:Int)<=a.Max:J)>>=λt244=>(if t244 then sE ((⟨s.bk⟩:aY),a.aE,v.aw,plain)else some false)>>=λX=>some (bif t244 then X else false)else if (a.ae=8:J) then some (bif (a.Max<(v.a'.length:Int):J)then true else(!((v.aw.length:Int)=(v.a'.length:Int):J)))>>=λt270=>(if !t270 then sE ((⟨s.bk⟩:aY),a.aS,v.a',plain)else some false)>>=λY=>if(bif t270 then true else(!Y)) then some false else mD (plain,1,s.bk,ab.eta v,a.ae,a.aR,a.bA,a.bI,a.Max,a.bf,a.af,a.aS,a.aE,a.bt)>>=λU=>match U with
 |.inl W=>
 some W
 |.inr p=>
 sE ((⟨p.2.1⟩:aY),p.2.2.2.2.2.2.2.2.2.2.2.1,p.2.2.1.aw,p.1)>>=λZ=>some Z else if (a.ae=9:J) then some ((v.aw.length:Int)<=1:J)>>=λt313=>(if t313 then sE ((⟨s.bk⟩:aY),a.aE,v.aw,plain)else some false)>>=λaa=>some (bif t313 then aa else false)else some true) none
  partial_fixpoint
def r1:I ab×Int×Int×I aj×Int×J->ai ((Int×I aj×Int×J) ⊕ (I aj×Int×J))
 |(x,H,t8,D,y,A)=>
 if (t8<H:J) then ite (aG t8 x.length) (I' (ab.eta (x.getD t8.toNat aI),D,y,A)>>=λr=>if r.1 then some (.inl (t8,r.2.1,r.2.2.1,r.2.2.2))else r1 (x,H,aQ .i64 t8 1,r.2.1,r.2.2.1,r.2.2.2)) none else some (.inr (D,y,A))
  partial_fixpoint
def qF:J×I aT×Int×Int×I aj×Int×J×Int×au×Int×I ab×I ab×I ct->ai ((J) ⊕ (Unit))
 |(E,t150,G,t152,B,K,L,M,N,O,P,q,Q)=>
 if (t152<G:J) then ite (aG t152 t150.length) (ite (aG t152 q.length) (kF ((⟨B⟩:aY),(t150.getD t152.toNat aF).aC,ab.eta (q.getD t152.toNat aI),E)>>=λak=>if !ak then some (.inl false)else qF (E,t150,G,aQ .i64 t152 1,B,K,L,M,N,O,P,q,Q)) none) none else some (.inr ())
  partial_fixpoint
end
theorem XC:e6 CV DE/\e6 CX IM/\fx 285 3 [0] Bw r1/\e6 CW I'/\e6 tp kF/\e6 CK sE/\fx 101 0 [1] Bx qF:=DE.mutual_partial_correctness (eX CV) (eX CX) (fw 285 3 [0] Bw) (eX CW) (eX tp) (eX CK) (fw 101 0 [1] Bx)
 (λ_ h1 _ _ h=>fb h (.k (cL CX h1) .n))
 (λ_ b _ _ h=>fb h .n (.k (fL Bw b) .n))
 (λ_ _ b d _ _ h=>fK Bw b h (.k (cL CW d) .n))
 (λ_ a _ _ h=>fb h (.k (cL tp a) .n))
 (λ_ _ _ a bu c _ _ h=>fb h (.k abu (.k IH (.k MD (.k qD (.k (cL tp a) (.k (cL CK bu) .n)))))) (.k aaC (.k (fL Bx c) (.k aaF .n))))
 (λ_ h0 _ _ h=>fb h (.k (cL CV h0) .n))
 (λ_ _ a c _ _ h=>fK Bx c h (.k (cL tp a) .n))
theorem ME:bn tp kF:=cL _ XC.2.2.2.2.1
def p9:aY×Int×ab->ai (J)
 |(s,t,v)=>
 kF (s,t,ab.eta v,true)>>=λr=>some r
theorem JI:bn VB p9:= .bH (.k ME .n)
def rC:Int×I aj×Int×Int×I aT×Int×Int×I aj->ai ((Int×Int×Int) ⊕ (I aj×Int×Int×I aj))
 |(i,c,d,e,t24,f,t26,b)=>
 if (t26<f:J) then ite (aG t26 t24.length) (some (t24.getD t26.toNat aF)>>=λa=>(if a.bO then p9 ((⟨b⟩:aY),a.aC,ab.eta a.bC)else some false)>>=λg=>if(bif a.bO then(!g)else false) then some (.inl (i,a.ah,1))else rC (i,c,d,e,t24,f,aQ .i64 t26 1,b)) none else some (.inr (c,d,e,b))
  partial_fixpoint
theorem Zj:cF 270 0 [0,0] QD rC:= .rx rC.partial_correctness (.k JI .n)
def uH(g:I aj×Int×Int×I aj):ai ((Int×Int×Int) ⊕ (Unit)):=
 match g with
 |(t16,d,t18,b)=>
 if (t18<d:J) then ite (aG t18 t16.length) (some (t16.getD t18.toNat aM)>>=λe=>rC (t18,t16,d,t18,e.af,(e.af.length:Int),0,b)>>=λf=>match f with
 |.inl c=>
 some (.inl (c.1,c.2.1,c.2.2))
 |.inr a=>
 uH (a.1,a.2.1,aQ .i64 a.2.2.1 1,a.2.2.2)) none else some (.inr ())
  partial_fixpoint
theorem ZY:cF 270 0 [0] Tc uH:= .rx uH.partial_correctness .n (.k Zj .n)
def JA(s:aY):ai (Int×Int×Int):=
 p8 s>>=λr=>if !(r=0:J) then some (0,0,r)else uH (s.bk,(s.bk.length:Int),0,s.bk)>>=λo=>match o with
 |.inl a=>
 some (a.1,a.2.1,a.2.2)
 |.inr b=>
 some (0,0,0)
theorem aao:bn UY JA:= .bH (.k AW .n) (.k ZY .n)
def D2(s:aY):ai (Int):=
 p8 s>>=λr=>if !(r=0:J) then some r else JA s>>=λa=>some a.2.2
theorem aaG:bn UC D2:= .bH (.k AW (.k aao .n))
def uc:Int×I aT×Int×Int×az->ai (Int×az)
 |(c,t33,d,t35,a)=>
 if (t35<d:J) then ite (aG t35 t33.length) (some (t33.getD t35.toNat aF)>>=λb=>ite (aG b.aC a.length) (ite (b.aC.toNat<a.length:J) (uc (ed 2 (gi .i64 c (a.getD b.aC.toNat 0)),t33,d,aQ .i64 t35 1,a)) none) none) none else some (c,a)
  partial_fixpoint
theorem ZE:cF 271 1 [0] Td uc:= .rx uc.partial_correctness
def ud:Int×I aT×Int×Int×az->ai (Int×az)
 |(c,t52,d,t54,a)=>
 if (t54<d:J) then ite (aG t54 t52.length) (some (t52.getD t54.toNat aF)>>=λb=>ite (aG b.aC a.length) (ite (b.aC.toNat<a.length:J) (ud (aQ .i64 c (a.getD b.aC.toNat 0),t52,d,aQ .i64 t54 1,a)) none) none) none else some (c,a)
  partial_fixpoint
theorem ZF:cF 271 1 [1] Te ud:= .rx ud.partial_correctness
def D3:aj×az->ai (Int×az)
 |(a,b)=>
 if (a.ae=2:J) then if (a.bA=a.bI:J) then some (1,b)else some (2,b)else if (a.ae=3:J) then if (a.Max=0:J) then some (1,b)else some (2,b)else if (a.ae=4:J) then some ((a.bf.length:Int),b)else if (a.ae=5:J) then uc (1,a.af,(a.af.length:Int),0,b)>>=λo=>some (o.1,o.2)else if (a.ae=6:J) then ud (0,a.af,(a.af.length:Int),0,b)>>=λc=>some (c.1,c.2)else if (a.ae=7:J) then some (a.Max=0:J)>>=λt71=>ite (aG a.aE b.length||(!(!t71))) (ite ((a.aE.toNat<b.length:J)||(!(!t71))) (if(bif t71 then true else (b.getD a.aE.toNat 0=0:J)) then some (1,b)else some (2,b)) none) none else if (a.ae=8:J) then some (a.Max=0:J)>>=λt84=>ite (aG a.aE b.length||(!(!t84))) (ite ((a.aE.toNat<b.length:J)||(!(!t84))) (some (bif t84 then true else (b.getD a.aE.toNat 0=0:J))>>=λt92=>ite (aG a.aS b.length||(!(!t92))) (ite ((a.aS.toNat<b.length:J)||(!(!t92))) (if(bif t92 then true else (b.getD a.aS.toNat 0=0:J)) then some (1,b)else some (2,b)) none) none) none) none else if (a.ae=9:J) then ite (aG a.aE b.length) (ite (a.aE.toNat<b.length:J) (some (aQ .i64 1 (b.getD a.aE.toNat 0),b)) none) none else some (2,b)
theorem aaH:bn UZ D3:= .bH .n (.k ZE (.k ZF .n))
def qu:J×I aj×Int×Int×I aj×az->ai (J×I aj×az)
 |(d,t14,c,t16,a,b)=>
 if (t16<c:J) then ite (aG t16 t14.length) (D3 (t14.getD t16.toNat aM,b)>>=λr=>ite ((r.2.length=b.length:J)&&true) (some (ed 2 r.1)>>=λt24=>ite (aG t16 r.2.length) (ite (t16.toNat<r.2.length:J) (if !(t24=r.2.getD t16.toNat 0:J) then ite (aG t16 r.2.length) (ite (t16.toNat<r.2.length:J) (qu (true,t14,c,aQ .i64 t16 1,a,r.2.set t16.toNat t24)) none) none else qu (d,t14,c,aQ .i64 t16 1,a,r.2)) none) none) none) none else some (d,a,b)
  partial_fixpoint
theorem Zk:cF 198 0 [0,0] QE qu:= .rx qu.partial_correctness (.k aaH .n)
def tU:J×I aj×az->ai az
 |(d,a,c)=>
 if d then qu (false,a,(a.length:Int),0,a,c)>>=λb=>tU (b.1,b.2.1,b.2.2)else some c
  partial_fixpoint
theorem ZZ:cF 198 0 [0] Tf tU:= .rx tU.partial_correctness .n (.k Zk .n)
def Ez(s:aY):ai az:=
 some (s.bk.length:Int)>>=λt10=>ite (zl 8 t10) (tU (true,s.bk,List.replicate t10.toNat 0)>>=λo=>some o) none
theorem aap:bn UD Ez:= .bH .n (.k ZZ .n)
def tV:az×Int×Int×I J->ai (I J)
 |(t14,b,t16,a)=>
 if (t16<b:J) then ite (aG t16 t14.length) (some [(0<t14.getD t16.toNat 0:J)]>>=λt23=>ite (bR 1 (a++t23).length) (tV (t14,b,aQ .i64 t16 1,a++t23)) none) none else some a
  partial_fixpoint
theorem Z0:cF 141 0 [0] Tg tV:= .rx tV.partial_correctness
def JB(s:aY):ai (I J×Int):=
 D2 s>>=λr=>if !(r=0:J) then some ([],r)else Ez s>>=λa=>tV (a,(a.length:Int),0,[])>>=λo=>some (o,0)
theorem aaq:bn Uo JB:= .bH (.k aaG (.k aap .n)) (.k Z0 .n)
def ue:I J×Int×Int->ai ((Int) ⊕ (Unit))
 |(t15,a,t17)=>
 if (t17<a:J) then ite (aG t17 t15.length) (if !(t15.getD t17.toNat false) then some (.inl 10)else ue (t15,a,aQ .i64 t17 1)) none else some (.inr ())
  partial_fixpoint
theorem ZG:cF 89 0 [0] VK ue:= .rx ue.partial_correctness
def D4(s:aY):ai (Int):=
 JB s>>=λr=>if !(r.2=0:J) then some r.2 else ue (r.1,(r.1.length:Int),0)>>=λo=>match o with
 |.inl a=>
 some a
 |.inr b=>
 some 0
theorem aaa:bn VJ D4:= .bH (.k aaq .n) (.k ZG .n)
def A2(r:dJ):ai (J):=
 D4 r.ik>>=λa=>some (bif bif (a=0:J)then (0<=r.aC:J)else false then (r.aC<(r.ik.bk.length:Int):J)else false)
theorem aab:bn G4 A2:= .bH (.k aaa .n)
def r':I bD×Int×Int×bD->ai ((Int) ⊕ (Unit))
 |(a,c,t8,b)=>
 if (t8<c:J) then ite (aG t8 a.length) (some (a.getD t8.toNat ey)>>=λd=>if(eZ b.c8 d.c8&&(eZ b.cO d.cO&&true)) then some (.inl t8)else r' (a,c,aQ .i64 t8 1,b)) none else some (.inr ())
  partial_fixpoint
def LH(b:I bD×bD):ai (Int):=
 match b with
 |(s,v)=>
 r' (s,(s.length:Int),0,v)>>=λo=>match o with
 |.inl a=>
 some a
 |.inr c=>
 some (-1)
def L4:I bD×bD->ai (J)
 |(s,v)=>
 LH (s,v)>>=λr=>some (0<=r:J)
def D5(a:aj):ai (Int):=
 if (a.ae=1:J) then some 2 else if (a.ae=2:J) then some (dG .u64 (b7 .u64 a.bI) (b7 .u64 a.bA))>>=λt16=>if (t16<2147483647:J) then some (aQ .i64 (b7 .i64 t16) 1)else some 2147483647 else if (a.ae=4:J) then some (a.bf.length:Int)else if (a.ae=3:J) then if (a.Max=0:J) then some 1 else some 2147483647 else some 2147483647
def wK:I de×Int×Int×aj×aj->ai ((J) ⊕ (aj×aj))
 |(t16,c,t18,b,a)=>
 if (t18<c:J) then ite (aG t18 t16.length) (rX (a,(t16.getD t18.toNat ek).ah)>>=λr=>if !r.2 then some (.inl false)else wK (t16,c,aQ .i64 t18 1,b,a)) none else some (.inr (b,a))
  partial_fixpoint
def wL:I aT×Int×Int×aj->ai ((J) ⊕ (Unit))
 |(t33,b,t35,a)=>
 if (t35<b:J) then ite (aG t35 t33.length) (hl (a,(t33.getD t35.toNat aF).ah)>>=λc=>if !c.2 then some (.inl false)else wL (t33,b,aQ .i64 t35 1,a)) none else some (.inr ())
  partial_fixpoint
def Et(f:aj×aj):ai (J):=
 match f with
 |(b,y)=>
 if y.bt then some true else wK (b.bf,(b.bf.length:Int),0,b,y)>>=λo=>match o with
 |.inl c=>
 some c
 |.inr a=>
 wL (a.1.af,(a.1.af.length:Int),0,a.2)>>=λd=>match d with
 |.inl e=>
 some e
 |.inr g=>
 some true
def AX:aY×Int->ai (Int)
 |(s,t)=>
 p8 s>>=λr=>if !(r=0:J) then some r else if(bif (t<0:J)then true else ((s.bk.length:Int)<=t:J)) then some 4 else some 0
theorem aar:bn UA AX:= .bH (.k AW .n)
def D6:aY×Int×ab×aY×Int->ai (Int)
 |(w,wt,v,r,rt)=>
 AX (w,wt)>>=λa=>if !(a=0:J) then some a else AX (r,rt)>>=λb=>if !(b=0:J) then some b else p9 (w,wt,ab.eta v)>>=λc=>if !c then some 1 else some 0
theorem aac:bn Um D6:= .bH (.k aar (.k JI .n))
def tW:I aj×I aj×az×az->ai (ab×J×I aj×I aj×az×az)
 |(b,c,e,a)=>
 uP 8 a>>=λr=>ite ((r.1.length=a.length:J)&&true) (some ((⟨0,false,0,[],0,[],[],[]⟩:ab),false,b,c,r.1,r.2)) none
theorem LI:bn UB tW:= .bH (.k lG .n)
def wM:Int×I aj×I aj×az×az->ai (ab×J×I aj×I aj×az×az)
 |(id,b,c,e,a)=>
 uP 8 a>>=λr=>ite ((r.1.length=a.length:J)&&true) (some [id]>>=λt13=>ite (bR 8 (r.2++t13).length) (some ((⟨0,false,0,[],0,[],[],[]⟩:ab),false,b,c,r.1,r.2++t13)) none) none
theorem L8:bn UW wM:= .bH (.k lG .n)
mutual
def k'(v:ab):ai (ab):=
 hc 120 v.a'>>=λr=>hc 120 v.aw>>=λX=>hc 24 v.a6>>=λY=>tX ((r.length:Int),0,v.ae,v.cp,v.bF,v.bW,v.ah,0,false,0,[],0,r,X,Y)>>=λo=>tY ((o.2.2.2.2.2.2.2.2.2.2.2.1.length:Int),0,o.1,o.2.1,o.2.2.1,o.2.2.2.1,o.2.2.2.2.1,o.2.2.2.2.2.1,o.2.2.2.2.2.2.1,o.2.2.2.2.2.2.2.1,o.2.2.2.2.2.2.2.2.1,o.2.2.2.2.2.2.2.2.2.1,o.2.2.2.2.2.2.2.2.2.2.2.1,o.2.2.2.2.2.2.2.2.2.2.1,o.2.2.2.2.2.2.2.2.2.2.2.2)>>=λa=>some (⟨a.1,a.2.1,a.2.2.1,a.2.2.2.1,a.2.2.2.2.1,a.2.2.2.2.2.2.2.2.2.2.1,a.2.2.2.2.2.2.2.2.2.2.2.1,a.2.2.2.2.2.2.2.2.2.2.2.2⟩:ab)
  partial_fixpoint
def tX:Int×Int×Int×J×Int×au×Int×Int×J×Int×au×Int×I ab×I ab×I ct->ai (Int×J×Int×au×Int×Int×J×Int×au×Int×I ab×I ab×I ct)
 |(U,t22,g,j,p,q,t,w,x,y,A,B,c,D,E)=>
 if (t22<U:J) then ite (aG t22 c.length) (ite (t22.toNat<c.length:J) (k' (ab.eta (c.getD t22.toNat aI))>>=λZ=>ite (aG t22 c.length) (ite (t22.toNat<c.length:J) (tX (U,aQ .i64 t22 1,g,j,p,q,t,w,x,y,A,B,c.set t22.toNat (ab.eta Z),D,E)) none) none) none) none else some (g,j,p,q,t,w,x,y,A,B,c,D,E)
  partial_fixpoint
def tY:Int×Int×Int×J×Int×au×Int×Int×J×Int×au×Int×I ab×I ab×I ct->ai (Int×J×Int×au×Int×Int×J×Int×au×Int×I ab×I ab×I ct)
 |(W,t37,F,G,H,K,L,M,N,O,P,Q,e,R,S)=>
 if (t37<W:J) then ite (aG t37 e.length) (ite (t37.toNat<e.length:J) (k' (ab.eta (e.getD t37.toNat aI))>>=λaa=>ite (aG t37 e.length) (ite (t37.toNat<e.length:J) (tY (W,aQ .i64 t37 1,F,G,H,K,L,M,N,O,P,Q,e.set t37.toNat (ab.eta aa),R,S)) none) none) none) none else some (F,G,H,K,L,M,N,O,P,Q,R,e,S)
  partial_fixpoint
end
theorem ZH:e6 wg k'/\fx 234 0 [1] Bz tY/\fx 234 0 [0] By tX:=k'.mutual_partial_correctness (eX wg) (fw 234 0 [1] Bz) (fw 234 0 [0] By)
 (λ_ _ h1 a _ _ h=>fb h (.k ml (.k mn .n)) (.k (fL By a) (.k (fL Bz h1) .n)))
 (λ_ _ h0 h1 _ _ h=>fK Bz h1 h (.k (cL wg h0) .n))
 (λ_ _ h0 a _ _ h=>fK By a h (.k (cL wg h0) .n))
theorem aas:bn wg k':=cL _ ZH.1
mutual
def wD(c:I ab×I ab):ai (J):=
 match c with
 |(s1,f)=>
 if !((s1.length:Int)=(f.length:Int):J) then some false else wB (f,s1,(s1.length:Int),0)>>=λo=>match o with
 |.inl j=>
 some j
 |.inr t=>
 some true
  partial_fixpoint
def nC:ab×ab->ai (J)
 |(a,b)=>
 some (bif bif bif bif (a.ae=b.ae:J)then ft a.cp b.cp else false then (a.bF=b.bF:J)else false then (a.bW=b.bW:J)else false then (a.ah=b.ah:J)else false)>>=λt37=>(if t37 then zG (a.a6,b.a6)else some false)>>=λr=>some (bif t37 then r else false)>>=λt44=>(if t44 then wD (a.a',b.a')else some false)>>=λp=>some (bif t44 then p else false)>>=λt51=>(if t51 then wD (a.aw,b.aw)else some false)>>=λq=>some (bif t51 then q else false)
  partial_fixpoint
def wB:I ab×I ab×Int×Int->ai ((J) ⊕ (Unit))
 |(e,t15,g,t17)=>
 if (t17<g:J) then ite (aG t17 t15.length) (ite (aG t17 e.length) (nC (ab.eta (t15.getD t17.toNat aI),ab.eta (e.getD t17.toNat aI))>>=λr=>if !r then some (.inl false)else wB (e,t15,g,aQ .i64 t17 1)) none) none else some (.inr ())
  partial_fixpoint
end
theorem Xz:e6 FI wD/\fx 317 0 [0] AT wB/\e6 yW nC:=wD.mutual_partial_correctness (eX FI) (fw 317 0 [0] AT) (eX yW)
 (λ_ h1 _ _ h=>fb h .n (.k (fL AT h1) .n))
 (λ_ _ h1 a _ _ h=>fK AT h1 h (.k (cL yW a) .n))
 (λ_ h0 _ _ h=>fb h (.k L0 (.k (cL FI h0) .n)))
theorem Na:bn yW nC:=cL _ Xz.2.2
def tZ:aT×ab->ai (J)
 |(m,a)=>
 (if m.bO then nC (ab.eta a,ab.eta m.bC)else some false)>>=λr=>some (bif m.bO then r else false)
theorem IU:bn UX tZ:= .bH (.k Na .n)
def JC:aY×Int->ai (Int)
 |(s,t)=>
 p8 (⟨s.bk⟩:aY)>>=λr=>if !(r=0:J) then some r else if(bif (t<0:J)then true else ((s.bk.length:Int)<=t:J)) then some 4 else some 0
theorem aat:bn Uv JC:= .bH (.k AW .n)
def Fl:aY×Int×ab->ai (J)
 |(s,t,v)=>
 kF ((⟨s.bk⟩:aY),t,ab.eta v,false)>>=λr=>some r
theorem acq:bn Uw Fl:= .bH (.k ME .n)
def wT:aY×Int×ab->ai (Int)
 |(s,t,v)=>
 JC ((⟨s.bk⟩:aY),t)>>=λr=>if !(r=0:J) then some r else Fl ((⟨s.bk⟩:aY),t,ab.eta v)>>=λa=>if !a then some 1 else some 0
theorem aau:bn Ul wT:= .bH (.k aat (.k acq .n))
def tO:Int×Int×az->ai (Int×Int×az)
 |(b,a,c)=>
 if (128<=b:J) then ite (aG a 10) (ite (a.toNat<c.length:J) (tO (lZ .u64 b 7,aQ .i64 a 1,c.set a.toNat (sS .u8 (b7 .u8 b) 128))) none) none else some (b,a,c)
  partial_fixpoint
theorem aad:cF 231 0 [0] Th tO:= .rx tO.partial_correctness
def qa(n:Int):ai au:=
 tO (n,0,[0,0,0,0,0,0,0,0,0,0])>>=λo=>ite (aG o.2.1 10) (ite (o.2.1.toNat<o.2.2.length:J) (some (o.2.2.set o.2.1.toNat (b7 .u8 o.1))>>=λa=>some (aQ .i64 o.2.1 1)>>=λt21=>ite (fI 0 t21 10) (ite (yk (0:Int).toNat t21.toNat a.length) (some (strOf ((a.drop (0:Int).toNat).take t21.toNat))) none) none) none) none
theorem A5:bn UU qa:= .bH .n (.k aad .n)
def rZ(p:au):ai au:=
 qa (b7 .u64 (p.length:Int))>>=λr=>ite (r.length+p.length<=eT:J) (some (r++p)) none
theorem MZ:bn Uz rZ:= .bH (.k A5 .n)
def tE:au×au->ai (Int×au)
 |(s,b)=>
 some b>>=λr=>ite ((r.length=b.length:J)&&true) (ite (bR 1 (r.length+s.length)) (some ((s.length:Int),v8 r s)) none) none
theorem L1:bn VE tE:= .bH (.k nv .n)
def wZ:Int×J×au->ai au
 |(id,d,p)=>
 some (gi .u64 2 (b7 .u64 id))>>=λt10=>if d then qa (aQ .u64 t10 1)>>=λr=>rZ p>>=λa=>ite (r.length+a.length<=eT:J) (some (r++a)) none else qa t10>>=λb=>rZ p>>=λc=>ite (b.length+c.length<=eT:J) (some (b++c)) none
theorem JD:bn UT wZ:= .bH (.k A5 (.k MZ .n))
def DV:aT×ab->ai (J)
 |(m,v)=>
 (if m.bO then nC (ab.eta m.bC,ab.eta v)else some false)>>=λr=>some (bif m.bO then r else false)
theorem aav:bn US DV:= .bH (.k Na .n)
def r6:I ct×Int×Int×I aj×Int×I hn->ai (I aj×Int×I hn)
 |(t57,e,t59,c,d,a)=>
 if (t59<e:J) then ite (aG t59 t57.length) (some (t57.getD t59.toNat cq)>>=λb=>wZ (b.ah,false,b.b5)>>=λf=>some [(⟨b.ah,f⟩:hn)]>>=λt72=>ite (bR 24 (a++t72).length) (r6 (t57,e,aQ .i64 t59 1,c,d,a++t72)) none) none else some (c,d,a)
  partial_fixpoint
theorem Yi:cF 159 1 [1] Tj r6:= .rx r6.partial_correctness (.k JD .n)
def tK:Int×Int×I aj×Int×I hn×au->ai (I aj×Int×au)
 |(e,t79,b,c,a,d)=>
 if (t79<e:J) then ite (aG t79 a.length) (ite (t79.toNat<a.length:J) (tE ((a.getD t79.toNat wY).text,d)>>=λf=>tK (e,aQ .i64 t79 1,b,c,a,f.2)) none) none else some (b,c,d)
  partial_fixpoint
theorem Yj:cF 159 1 [2] Tk tK:= .rx tK.partial_correctness (.k L1 .n)
def zn(b:au):ai au:=
 ite (eZ (b.length:Int) (b.length:Int)) (some b) none
theorem L2:bn VF zn:= .bH
def tP:Int×Int×az->ai (Int×az)
 |(b,c,a)=>
 if (0<b:J) then some (dG .i64 c 1)>>=λt10=>ite (aG t10 8) (ite (t10.toNat<a.length:J) (tP (lZ .u64 b 8,t10,a.set t10.toNat (b7 .u8 b))) none) none else some (c,a)
  partial_fixpoint
theorem aae:cF 157 0 [0] Ti tP:= .rx tP.partial_correctness
def AD(n:Int):ai au:=
 tP (n,8,[0,0,0,0,0,0,0,0])>>=λo=>ite (fI o.1 8 8) (ite (yk o.1.toNat ((8:Int).toNat-o.1.toNat) o.2.length) (some (strOf ((o.2.drop o.1.toNat).take ((8:Int).toNat-o.1.toNat)))) none) none
theorem acr:bn Ux AD:= .bH .n (.k aae .n)
mutual
def kB:Int×ab×Int×I aj×Int->ai (au×I aj×Int)
 |(t,v,e,b,w)=>
 some (mJ w e)>>=λt19=>ite (aG t b.length) (some (b.getD t.toNat aM)>>=λa=>if (a.ae=1:J) then if v.cp then some ([1],b,t19)else some ([],b,t19)else if (a.ae=2:J) then wU v.bF>>=λr=>AD r>>=λp=>some (p,b,t19)else if (a.ae=3:J) then some (v.bW,b,t19)else if (a.ae=4:J) then AD (b7 .u64 v.ah)>>=λP=>some (P,b,t19)else if (a.ae=5:J) then DL (a,ab.eta v,e,b,t19)>>=λq=>some (q.1,q.2.1,q.2.2)else if (a.ae=6:J) then Am (a,ab.eta v,e,b,t19)>>=λy=>some (y.1,y.2.1,y.2.2)else if (a.ae=9:J) then if ((v.aw.length:Int)=0:J) then some ([],b,t19)else ite (aG 0 v.aw.length) (kB (a.aE,ab.eta (v.aw.getD (0:Int).toNat aI),aQ .i64 e 1,b,t19)>>=λE=>ite ([1].length+E.1.length<=eT:J) (some ([1]++E.1,E.2.1,E.2.2)) none) none else mf (e,v.aw,(v.aw.length:Int),0,b,t19,ab.eta v,a,[])>>=λo=>zn o.2.2>>=λX=>some (X,o.1,o.2.1)) none
  partial_fixpoint
def DL:aj×ab×Int×I aj×Int->ai (au×I aj×Int)
 |(a,v,e,b,w)=>
 r7 (e,a.af,(a.af.length:Int),0,b,w,ab.eta v,[])>>=λo=>r6 (o.2.2.1.a6,(o.2.2.1.a6.length:Int),0,o.1,o.2.1,o.2.2.2)>>=λD=>Ix D.2.2>>=λr=>ite ((r.length=D.2.2.length:J)&&true) (tK ((r.length:Int),0,D.1,D.2.1,r,[])>>=λN=>zn N.2.2>>=λp=>some (p,N.1,N.2.1)) none
  partial_fixpoint
def Am:aj×ab×Int×I aj×Int->ai (au×I aj×Int)
 |(a,v,e,b,w)=>
 qa (b7 .u64 v.ah)>>=λr=>hl (a,v.ah)>>=λp=>if !p.2 then ite (aG 0 v.a6.length) (some (v.a6.getD (0:Int).toNat cq)>>=λc=>ite (r.length+c.b5.length<=eT:J) (some (r++c.b5,b,w)) none) none else ite (aG p.1 a.af.length) (ite (aG 0 v.aw.length) (kB ((a.af.getD p.1.toNat aF).aC,ab.eta (v.aw.getD (0:Int).toNat aI),aQ .i64 e 1,b,w)>>=λF=>ite (r.length+F.1.length<=eT:J) (some (r++F.1,F.2.1,F.2.2)) none) none) none
  partial_fixpoint
def mf:Int×I ab×Int×Int×I aj×Int×ab×aj×au->ai (I aj×Int×au)
 |(f,t84,U,t86,K,L,B,x,M)=>
 if (t86<U:J) then ite (aG t86 t84.length) (some (t84.getD t86.toNat aI)>>=λW=>if (x.ae=8:J) then ite (aG t86 B.a'.length) (kB (x.aS,ab.eta (B.a'.getD t86.toNat aI),aQ .i64 f 1,K,L)>>=λO=>rZ O.1>>=λY=>tE (Y,M)>>=λZ=>kB (x.aE,ab.eta W,aQ .i64 f 1,O.2.1,O.2.2)>>=λQ=>rZ Q.1>>=λaa=>tE (aa,Z.2)>>=λak=>mf (f,t84,U,aQ .i64 t86 1,Q.2.1,Q.2.2,ab.eta B,x,ak.2)) none else kB (x.aE,ab.eta W,aQ .i64 f 1,K,L)>>=λR=>rZ R.1>>=λal=>tE (al,M)>>=λam=>mf (f,t84,U,aQ .i64 t86 1,R.2.1,R.2.2,ab.eta B,x,am.2)) none else some (K,L,M)
  partial_fixpoint
def r7:Int×I aT×Int×Int×I aj×Int×ab×I hn->ai (I aj×Int×ab×I hn)
 |(f,t18,S,t20,G,H,j,A)=>
 if (t20<S:J) then ite (aG t20 t18.length) (some (t18.getD t20.toNat aF)>>=λc=>ite (aG t20 j.aw.length) (DV ((⟨c.ah,c.aR,c.aC,c.bV,c.bO,ab.eta c.bC⟩:aT),ab.eta (j.aw.getD t20.toNat aI))>>=λP=>if !P then ite (aG t20 j.aw.length) (kB (c.aC,ab.eta (j.aw.getD t20.toNat aI),aQ .i64 f 1,G,H)>>=λq=>wZ (c.ah,c.bV,q.1)>>=λy=>some [(⟨c.ah,y⟩:hn)]>>=λt53=>ite (bR 24 (A++t53).length) (r7 (f,t18,S,aQ .i64 t20 1,q.2.1,q.2.2,ab.eta j,A++t53)) none) none else r7 (f,t18,S,aQ .i64 t20 1,G,H,ab.eta j,A)) none) none else some (G,H,ab.eta j,A)
  partial_fixpoint
end
theorem Yk:e6 rl kB/\fx 103 1 [0] BB mf/\e6 CM Am/\e6 CL DL/\fx 159 1 [0] BA r7:=kB.mutual_partial_correctness (eX rl) (fw 103 1 [0] BB) (eX CM) (eX CL) (fw 159 1 [0] BA)
 (λ_ _ _ _ h0 h1 b c _ _ h=>fb h (.k ML (.k acr (.k (cL CL c) (.k (cL CM b) (.k (cL rl h0) (.k L2 .n)))))) (.k (fL BB h1) .n))
 (λ_ _ h0 h1 _ _ h=>fK BB h1 h (.k (cL rl h0) (.k MZ (.k L1 .n))))
 (λ_ h0 _ _ h=>fb h (.k A5 (.k qD (.k (cL rl h0) .n))))
 (λ_ a _ _ h=>fb h (.k Jz (.k L2 .n)) (.k (fL BA a) (.k Yi (.k Yj .n))))
 (λ_ _ h0 a _ _ h=>fK BA a h (.k aav (.k (cL rl h0) (.k JD .n))))
theorem X4:bn rl kB:=cL _ Yk.1
def qG:aY×Int×ab->ai (au×Int)
 |(s,t,v)=>
 wT ((⟨s.bk⟩:aY),t,ab.eta v)>>=λr=>if !(r=0:J) then some ([],r)else kB (t,ab.eta v,1,s.bk,0)>>=λa=>if(bif (4096<(a.1.length:Int):J)then true else (200<a.2.2:J)) then some ([],3)else some (a.1,0)
theorem MN:bn VC qG:= .bH (.k aau (.k X4 .n))
def Ed:Int×J×au->ai (au×Int)
 |(id,b,a)=>
 if(bif (id<1:J)then true else (1000<id:J)) then some ([],7)else if (4096<(a.length:Int):J) then some ([],3)else wZ (id,b,a)>>=λr=>some (r,0)
theorem abv:bn Vb Ed:= .bH (.k JD .n)
def wV(p:au):ai au:=
 qa (b7 .u64 (p.length:Int))>>=λr=>ite (r.length+p.length<=eT:J) (some (r++p)) none
theorem aaf:bn Vc wV:= .bH (.k A5 .n)
mutual
def lK:aY×Int×ab->ai au
 |(s,t,v)=>
 ite (aG t s.bk.length) (some (s.bk.getD t.toNat aM)>>=λa=>if (a.ae=5:J) then rH ([],a.af,(a.af.length:Int),0,s.bk,ab.eta v)>>=λo=>some o else if (a.ae=6:J) then hl (a,v.ah)>>=λr=>qa (b7 .u64 v.ah)>>=λK=>ite (aG r.1 a.af.length) (ite (aG 0 v.aw.length) (lK (s,(a.af.getD r.1.toNat aF).aC,ab.eta (v.aw.getD (0:Int).toNat aI))>>=λL=>ite (K.length+L.length<=eT:J) (some (K++L)) none) none) none else if (a.ae=9:J) then xg ([],v.aw,(v.aw.length:Int),0,s.bk,a)>>=λO=>some O else some (a.ae=7:J)>>=λt115=>if t115 then if t115 then lH ([],v.aw,(v.aw.length:Int),0,s.bk,ab.eta v,a)>>=λP=>some P else qG (s,t,ab.eta v)>>=λZ=>some Z.1 else if (a.ae=8:J) then lH ([],v.aw,(v.aw.length:Int),0,s.bk,ab.eta v,a)>>=λQ=>some Q else qG (s,t,ab.eta v)>>=λaa=>some aa.1) none
  partial_fixpoint
def rH:au×I aT×Int×Int×I aj×ab->ai au
 |(w,t36,y,t38,b,f)=>
 if (t38<y:J) then ite (aG t38 t36.length) (some (t36.getD t38.toNat aF)>>=λc=>ite (aG t38 f.aw.length) (tZ ((⟨c.ah,c.aR,c.aC,c.bV,c.bO,ab.eta c.bC⟩:aT),ab.eta (f.aw.getD t38.toNat aI))>>=λS=>if !S then ite (aG t38 f.aw.length) (lK ((⟨b⟩:aY),c.aC,ab.eta (f.aw.getD t38.toNat aI))>>=λU=>Ed (c.ah,c.bV,U)>>=λD=>ite (w.length+D.1.length<=eT:J) (rH (w++D.1,t36,y,aQ .i64 t38 1,b,ab.eta f)) none) none else rH (w,t36,y,aQ .i64 t38 1,b,ab.eta f)) none) none else some w
  partial_fixpoint
def xg:au×I ab×Int×Int×I aj×aj->ai au
 |(R,t101,M,t103,A,B)=>
 if (t103<M:J) then ite (aG t103 t101.length) (lK ((⟨A⟩:aY),B.aE,ab.eta (t101.getD t103.toNat aI))>>=λE=>ite ([1].length+E.length<=eT:J) (xg ([1]++E,t101,M,aQ .i64 t103 1,A,B)) none) none else some R
  partial_fixpoint
def lH:au×I ab×Int×Int×I aj×ab×aj->ai au
 |(p,t118,x,t120,j,q,g)=>
 if (t120<x:J) then ite (aG t120 t118.length) (some (t118.getD t120.toNat aI)>>=λN=>if (g.ae=8:J) then ite (aG t120 q.a'.length) (lK ((⟨j⟩:aY),g.aS,ab.eta (q.a'.getD t120.toNat aI))>>=λW=>wV W>>=λF=>ite (p.length+F.length<=eT:J) (some (p++F)>>=λt139=>lK ((⟨j⟩:aY),g.aE,ab.eta N)>>=λX=>wV X>>=λG=>ite (t139.length+G.length<=eT:J) (lH (t139++G,t118,x,aQ .i64 t120 1,j,ab.eta q,g)) none) none) none else lK ((⟨j⟩:aY),g.aE,ab.eta N)>>=λY=>wV Y>>=λH=>ite (p.length+H.length<=eT:J) (lH (p++H,t118,x,aQ .i64 t120 1,j,ab.eta q,g)) none) none else some p
  partial_fixpoint
end
theorem Z1:e6 rn lK/\fx 237 0 [2] BE lH/\fx 237 0 [1] BD xg/\fx 237 0 [0] BC rH:=lK.mutual_partial_correctness (eX rn) (fw 237 0 [2] BE) (fw 237 0 [1] BD) (fw 237 0 [0] BC)
 (λ_ _ _ _ h0 h1 a b _ _ h=>fb h (.k qD (.k A5 (.k (cL rn h0) (.k MN .n)))) (.k (fL BC b) (.k (fL BD a) (.k (fL BE h1) .n))))
 (λ_ _ h0 h1 _ _ h=>fK BE h1 h (.k (cL rn h0) (.k aaf .n)))
 (λ_ _ h0 a _ _ h=>fK BD a h (.k (cL rn h0) .n))
 (λ_ _ h0 b _ _ h=>fK BC b h (.k IU (.k (cL rn h0) (.k abv .n))))
theorem LW:bn rn lK:=cL _ Z1.1
def oq:I aT×Int×Int×I aj×I aj×az×ab×aj×Int×J×Int×au×Int×Int×J×Int×au×Int×az×I ab×I ct->ai ((J×I aj×I aj×ab×az×az) ⊕ (I aj×I aj×az×Int×J×Int×au×Int×Int×J×Int×au×Int×az×I ab×I ct))
 |(t115,v,t117,c,e,f,b,j,k,l,m,n,o,p,q,r,s,t,g,u,i)=>
 if (t117<v:J) then ite (aG t117 t115.length) (some (t115.getD t117.toNat aF)>>=λa=>hl (j,a.ah)>>=λw=>if w.2 then oq (t115,v,aQ .i64 t117 1,c,e,f,ab.eta b,j,k,l,m,n,o,p,q,r,s,t,g,u,i)else if a.bV then wM (a.ah,c,e,f,g)>>=λd=>some (.inl (d.2.1,d.2.2.1,d.2.2.2.1,ab.eta d.1,d.2.2.2.2.1,d.2.2.2.2.2))else ite (aG t117 b.aw.length) (tZ ((⟨a.ah,a.aR,a.aC,a.bV,a.bO,ab.eta a.bC⟩:aT),ab.eta (b.aw.getD t117.toNat aI))>>=λx=>if !x then ite (aG t117 b.aw.length) (lK ((⟨c⟩:aY),a.aC,ab.eta (b.aw.getD t117.toNat aI))>>=λy=>some [(⟨a.ah,y⟩:ct)]>>=λt163=>ite (bR 24 (i++t163).length) (oq (t115,v,aQ .i64 t117 1,c,e,f,ab.eta b,j,k,l,m,n,o,p,q,r,s,t,g,u,i++t163)) none) none else oq (t115,v,aQ .i64 t117 1,c,e,f,ab.eta b,j,k,l,m,n,o,p,q,r,s,t,g,u,i)) none) none else some (.inr (c,e,f,k,l,m,n,o,p,q,r,s,t,g,u,i))
  partial_fixpoint
theorem XT:cF 164 2 [1] Tl oq:= .rx oq.partial_correctness (.k qD (.k L8 (.k IU (.k LW .n))))
mutual
def rL:Int×Int×ab×Int×I aj×I aj×az×az->ai (ab×J×I aj×I aj×az×az)
 |(step,wt,v,rt,b,f,j,g)=>
 some [step]>>=λt20=>ite (bR 8 (g++t20).length) (t' (wt,ab.eta v,rt,b,f,j,g++t20)>>=λr=>some (dG .i64 (r.2.2.2.2.2.length:Int) 1)>>=λt42=>ite (fI 0 t42 r.2.2.2.2.2.length) (ite (t42.toNat<=r.2.2.2.2.2.length:J) (some (ab.eta r.1,r.2.1,r.2.2.1,r.2.2.2.1,r.2.2.2.2.1,r.2.2.2.2.2.take t42.toNat)) none) none) none
  partial_fixpoint
def oC(q:Int×I ab×Int×I aj×I aj×az×az):ai (I ab×J×I aj×I aj×az×az):=
 match q with
 |(wt,l,rt,b,f,j,g)=>
 tN (wt,rt,l,(l.length:Int),0,b,f,j,[],g)>>=λo=>match o with
 |.inl t=>
 some ([],t.1,t.2.1,t.2.2.1,t.2.2.2.1,t.2.2.2.2)
 |.inr e=>
 some (e.2.2.2.1,true,e.1,e.2.1,e.2.2.1,e.2.2.2.2)
  partial_fixpoint
def t':Int×ab×Int×I aj×I aj×az×az->ai (ab×J×I aj×I aj×az×az)
 |(wt,v,rt,b,f,j,g)=>
 ite (aG wt b.length) (some (b.getD wt.toNat aM)>>=λc=>ite (aG rt f.length) (some (f.getD rt.toNat aM)>>=λa=>if !(c.ae=a.ae:J) then tW (b,f,j,g)>>=λr=>some (ab.eta r.1,r.2.1,r.2.2.1,r.2.2.2.1,r.2.2.2.2.2,r.2.2.2.2.1)else
 let bw:=λcs=>
 if !cs then tW (b,f,j,g)>>=λW=>some (ab.eta W.1,W.2.1,W.2.2.1,W.2.2.2.1,W.2.2.2.2.2,W.2.2.2.2.1)else if (c.ae=5:J) then Ao (c,ab.eta v,a,b,f,j,g)>>=λP=>some (ab.eta P.1,P.2.1,P.2.2.1,P.2.2.2.1,P.2.2.2.2.1,P.2.2.2.2.2)else if (c.ae=6:J) then zQ (c,ab.eta v,a,b,f,j,g)>>=λQ=>some (ab.eta Q.1,Q.2.1,Q.2.2.1,Q.2.2.2.1,Q.2.2.2.2.1,Q.2.2.2.2.2)else if (c.ae=8:J) then oC (c.aS,v.a',a.aS,b,f,j,g)>>=λB=>if !B.2.1 then some ((⟨0,false,0,[],0,[],[],[]⟩:ab),false,B.2.2.1,B.2.2.2.1,B.2.2.2.2.1,B.2.2.2.2.2)else oC (c.aE,v.aw,a.aE,B.2.2.1,B.2.2.2.1,B.2.2.2.2.1,B.2.2.2.2.2)>>=λF=>if !F.2.1 then some ((⟨0,false,0,[],0,[],[],[]⟩:ab),false,F.2.2.1,F.2.2.2.1,F.2.2.2.2.1,F.2.2.2.2.2)else some ((⟨v.ae,v.cp,v.bF,v.bW,v.ah,B.1,F.1,[]⟩:ab),true,F.2.2.1,F.2.2.2.1,F.2.2.2.2.1,F.2.2.2.2.2)else oC (c.aE,v.aw,a.aE,b,f,j,g)>>=λG=>if !G.2.1 then some ((⟨0,false,0,[],0,[],[],[]⟩:ab),false,G.2.2.1,G.2.2.2.1,G.2.2.2.2.1,G.2.2.2.2.2)else some ((⟨v.ae,v.cp,v.bF,v.bW,v.ah,[],G.1,[]⟩:ab),true,G.2.2.1,G.2.2.2.1,G.2.2.2.2.1,G.2.2.2.2.2)
 if (c.ae=2:J) then bw (bif (a.bA<=v.bF:J)then (v.bF<=a.bI:J)else false)else
 let bv:=λck=>
 bw ck
 if (c.ae=3:J) then bv ((v.bW.length:Int)<=a.Max:J)else if (c.ae=4:J) then rX (a,v.ah)>>=λci=>bv (bif ci.2 then true else a.bt)else some (c.ae=7:J)>>=λt91=>
 let bu:=λcj=>
 let bs:=λ(_:Unit)=>
 if (c.ae=5:J) then Ao (c,ab.eta v,a,b,f,j,g)>>=λS=>some (ab.eta S.1,S.2.1,S.2.2.1,S.2.2.2.1,S.2.2.2.2.1,S.2.2.2.2.2)else if (c.ae=6:J) then zQ (c,ab.eta v,a,b,f,j,g)>>=λU=>some (ab.eta U.1,U.2.1,U.2.2.1,U.2.2.2.1,U.2.2.2.2.1,U.2.2.2.2.2)else if (c.ae=8:J) then oC (c.aS,v.a',a.aS,b,f,j,g)>>=λx=>if !x.2.1 then some ((⟨0,false,0,[],0,[],[],[]⟩:ab),false,x.2.2.1,x.2.2.2.1,x.2.2.2.2.1,x.2.2.2.2.2)else oC (c.aE,v.aw,a.aE,x.2.2.1,x.2.2.2.1,x.2.2.2.2.1,x.2.2.2.2.2)>>=λA=>if !A.2.1 then some ((⟨0,false,0,[],0,[],[],[]⟩:ab),false,A.2.2.1,A.2.2.2.1,A.2.2.2.2.1,A.2.2.2.2.2)else some ((⟨v.ae,v.cp,v.bF,v.bW,v.ah,x.1,A.1,[]⟩:ab),true,A.2.2.1,A.2.2.2.1,A.2.2.2.2.1,A.2.2.2.2.2)else oC (c.aE,v.aw,a.aE,b,f,j,g)>>=λD=>if !D.2.1 then some ((⟨0,false,0,[],0,[],[],[]⟩:ab),false,D.2.2.1,D.2.2.2.1,D.2.2.2.2.1,D.2.2.2.2.2)else some ((⟨v.ae,v.cp,v.bF,v.bW,v.ah,[],D.1,[]⟩:ab),true,D.2.2.1,D.2.2.2.1,D.2.2.2.2.1,D.2.2.2.2.2)
 if cj then if !((v.aw.length:Int)<=a.Max:J) then tW (b,f,j,g)>>=λR=>some (ab.eta R.1,R.2.1,R.2.2.1,R.2.2.2.1,R.2.2.2.2.2,R.2.2.2.2.1)else bs ()else bs ()
 if t91 then bu t91 else bu (c.ae=8:J)) none) none
  partial_fixpoint
def Ao(q:aj×ab×aj×I aj×I aj×az×az):ai (ab×J×I aj×I aj×az×az):=
 match q with
 |(c,v,y,b,f,j,g)=>
 pT (y.af,(y.af.length:Int),0,b,f,j,c,ab.eta v,y,0,false,0,[],0,v.ae,false,0,[],0,g,[])>>=λo=>match o with
 |.inl t=>
 some (ab.eta t.2.2.2.2.1,t.1,t.2.1,t.2.2.1,t.2.2.2.1,t.2.2.2.2.2)
 |.inr e=>
 oq (e.2.2.2.1.af,(e.2.2.2.1.af.length:Int),0,e.1,e.2.1,e.2.2.1,ab.eta e.2.2.2.2.1,e.2.2.2.2.2.1,e.2.2.2.2.2.2.1,e.2.2.2.2.2.2.2.1,e.2.2.2.2.2.2.2.2.1,e.2.2.2.2.2.2.2.2.2.1,e.2.2.2.2.2.2.2.2.2.2.1,e.2.2.2.2.2.2.2.2.2.2.2.1,e.2.2.2.2.2.2.2.2.2.2.2.2.1,e.2.2.2.2.2.2.2.2.2.2.2.2.2.1,e.2.2.2.2.2.2.2.2.2.2.2.2.2.2.1,e.2.2.2.2.2.2.2.2.2.2.2.2.2.2.2.1,e.2.2.2.2.2.2.2.2.2.2.2.2.2.2.2.2.1,e.2.2.2.2.2.2.2.2.2.2.2.2.2.2.2.2.2,[])>>=λb1=>match b1 with
 |.inl N=>
 some (ab.eta N.2.2.2.1,N.1,N.2.1,N.2.2.1,N.2.2.2.2.2,N.2.2.2.2.1)
 |.inr w=>
 some ((⟨w.2.2.2.2.2.2.2.2.1,w.2.2.2.2.2.2.2.2.2.1,w.2.2.2.2.2.2.2.2.2.2.1,w.2.2.2.2.2.2.2.2.2.2.2.1,w.2.2.2.2.2.2.2.2.2.2.2.2.1,[],w.2.2.2.2.2.2.2.2.2.2.2.2.2.2.1,w.2.2.2.2.2.2.2.2.2.2.2.2.2.2.2⟩:ab),true,w.1,w.2.1,w.2.2.1,w.2.2.2.2.2.2.2.2.2.2.2.2.2.1)
  partial_fixpoint
def zQ:aj×ab×aj×I aj×I aj×az×az->ai (ab×J×I aj×I aj×az×az)
 |(c,v,y,b,f,j,g)=>
 hl (c,v.ah)>>=λr=>hl (y,v.ah)>>=λE=>if E.2 then ite (aG r.1 c.af.length) (ite (aG 0 v.aw.length) (ite (aG E.1 y.af.length) (rL (v.ah,(c.af.getD r.1.toNat aF).aC,ab.eta (v.aw.getD (0:Int).toNat aI),(y.af.getD E.1.toNat aF).aC,b,f,j,g)>>=λH=>if !H.2.1 then some ((⟨0,false,0,[],0,[],[],[]⟩:ab),false,H.2.2.1,H.2.2.2.1,H.2.2.2.2.1,H.2.2.2.2.2)else some ((⟨v.ae,false,0,[],v.ah,[],[ab.eta H.1],[]⟩:ab),true,H.2.2.1,H.2.2.2.1,H.2.2.2.2.1,H.2.2.2.2.2)) none) none) none else if !y.bt then tW (b,f,j,g)>>=λO=>some (ab.eta O.1,O.2.1,O.2.2.1,O.2.2.2.1,O.2.2.2.2.2,O.2.2.2.2.1)else ite (aG r.1 c.af.length) (ite (aG 0 v.aw.length) (lK ((⟨b⟩:aY),(c.af.getD r.1.toNat aF).aC,ab.eta (v.aw.getD (0:Int).toNat aI))>>=λL=>some ((⟨v.ae,false,0,[],v.ah,[],[],[(⟨v.ah,L⟩:ct)]⟩:ab),true,b,f,j,g)) none) none
  partial_fixpoint
def tN:Int×Int×I ab×Int×Int×I aj×I aj×az×I ab×az->ai ((J×I aj×I aj×az×az) ⊕ (I aj×I aj×az×I ab×az))
 |(b0,bE,t15,bS,t17,a9,be,bg,am,bi)=>
 if (t17<bS:J) then ite (aG t17 t15.length) (rL (t17,b0,ab.eta (t15.getD t17.toNat aI),bE,a9,be,bg,bi)>>=λr=>if !r.2.1 then some (.inl (false,r.2.2.1,r.2.2.2.1,r.2.2.2.2.1,r.2.2.2.2.2))else some [ab.eta r.1]>>=λt35=>ite (bR 120 (am++t35).length) (tN (b0,bE,t15,bS,aQ .i64 t17 1,r.2.2.1,r.2.2.2.1,r.2.2.2.2.1,am++t35,r.2.2.2.2.2)) none) none else some (.inr (a9,be,bg,am,bi))
  partial_fixpoint
def pT:I aT×Int×Int×I aj×I aj×az×aj×ab×aj×Int×J×Int×au×Int×Int×J×Int×au×Int×az×I ab->ai ((J×I aj×I aj×az×ab×az) ⊕ (I aj×I aj×az×aj×ab×aj×Int×J×Int×au×Int×Int×J×Int×au×Int×az×I ab))
 |(t25,a5,t27,Z,aa,ak,K,M,an,ap,ax,aB,aD,aP,a0,a1,a2,a3,a4,al,Y)=>
 if (t27<a5:J) then ite (aG t27 t25.length) (some (t25.getD t27.toNat aF)>>=λa=>hl (K,a.ah)>>=λr=>if !r.2 then if !a.bO then wM (a.ah,Z,aa,ak,al)>>=λE=>some (.inl (E.2.1,E.2.2.1,E.2.2.2.1,E.2.2.2.2.2,ab.eta E.1,E.2.2.2.2.1))else k' (ab.eta a.bC)>>=λb2=>some [ab.eta b2]>>=λt54=>ite (bR 120 (Y++t54).length) (pT (t25,a5,aQ .i64 t27 1,Z,aa,ak,K,ab.eta M,an,ap,ax,aB,aD,aP,a0,a1,a2,a3,a4,al,Y++t54)) none else ite (aG r.1 K.af.length) (ite (aG r.1 M.aw.length) (rL (a.ah,(K.af.getD r.1.toNat aF).aC,ab.eta (M.aw.getD r.1.toNat aI),a.aC,Z,aa,ak,al)>>=λp=>ite (aG r.1 K.af.length) (some (K.af.getD r.1.toNat aF)>>=λX=>ite (aG r.1 M.aw.length) (tZ ((⟨X.ah,X.aR,X.aC,X.bV,X.bO,ab.eta X.bC⟩:aT),ab.eta (M.aw.getD r.1.toNat aI))>>=λbx=>some (!p.2.1)>>=λt90=>(if(bx&&(!t90)) then tZ ((⟨a.ah,a.aR,a.aC,a.bV,a.bO,ab.eta a.bC⟩:aT),ab.eta p.1)else some false)>>=λce=>if(bif bx then bif t90 then true else(!ce)else false) then wM (a.ah,p.2.2.1,p.2.2.2.1,p.2.2.2.2.1,p.2.2.2.2.2)>>=λL=>some (.inl (L.2.1,L.2.2.1,L.2.2.2.1,L.2.2.2.2.2,ab.eta L.1,L.2.2.2.2.1))else if !p.2.1 then some (.inl (false,p.2.2.1,p.2.2.2.1,p.2.2.2.2.1,(⟨0,false,0,[],0,[],[],[]⟩:ab),p.2.2.2.2.2))else some [ab.eta p.1]>>=λt110=>ite (bR 120 (Y++t110).length) (pT (t25,a5,aQ .i64 t27 1,p.2.2.1,p.2.2.2.1,p.2.2.2.2.1,K,ab.eta M,an,ap,ax,aB,aD,aP,a0,a1,a2,a3,a4,p.2.2.2.2.2,Y++t110)) none) none) none) none) none) none else some (.inr (Z,aa,ak,K,ab.eta M,an,ap,ax,aB,aD,aP,a0,a1,a2,a3,a4,al,Y))
  partial_fixpoint
end
theorem Zl:e6 wh rL/\e6 yU t'/\e6 CP oC/\fx 166 2 [0] BG tN/\e6 CO zQ/\e6 CN Ao/\fx 164 2 [0] BF pT:=rL.mutual_partial_correctness (eX wh) (eX yU) (eX CP) (fw 166 2 [0] BG) (eX CO) (eX CN) (fw 164 2 [0] BF)
 (λ_ h1 _ _ h=>fb h (.k (cL yU h1) .n))
 (λ_ _ _ c d bu _ _ h=>fb h (.k LI (.k (cL CN bu) (.k (cL CO d) (.k (cL CP c) (.k IH .n))))))
 (λ_ a _ _ h=>fb h .n (.k (fL BG a) .n))
 (λ_ _ h0 a _ _ h=>fK BG a h (.k (cL wh h0) .n))
 (λ_ h0 _ _ h=>fb h (.k qD (.k (cL wh h0) (.k LI (.k LW .n)))))
 (λ_ b _ _ h=>fb h .n (.k (fL BF b) (.k XT .n)))
 (λ_ _ h0 b _ _ h=>fK BF b h (.k qD (.k L8 (.k aas (.k (cL wh h0) (.k IU .n))))))
theorem Z2:bn yU t':=cL _ Zl.2.1
def wP:aY×Int×ab×aY×Int->ai (ab×Int)
 |(w,wt,v,r,rt)=>
 D6 (w,wt,ab.eta v,r,rt)>>=λa=>if !(a=0:J) then some ((⟨0,false,0,[],0,[],[],[]⟩:ab),a)else t' (wt,ab.eta v,rt,w.bk,r.bk,[],[])>>=λb=>if !b.2.1 then some ((⟨0,false,0,[],0,[],[],[]⟩:ab),12)else some (ab.eta b.1,0)
theorem aaK:bn VD wP:= .bH (.k aac (.k Z2 .n))
def rD:I aT×Int×Int×I aj×aj×I aj×aj->ai ((Int) ⊕ (aj×aj))
 |(t21,f,t23,c,a,d,e)=>
 if (t23<f:J) then ite (aG t23 t21.length) (some (t21.getD t23.toNat aF)>>=λb=>hl (a,b.ah)>>=λg=>if !g.2 then if !b.bO then some (.inl 7)else rD (t21,f,aQ .i64 t23 1,c,a,d,e)else ite (aG g.1 a.af.length) (some (a.af.getD g.1.toNat aF)>>=λi=>if !i.bO then rD (t21,f,aQ .i64 t23 1,c,a,d,e)else if !b.bO then some (.inl 7)else wP ((⟨c⟩:aY),i.aC,ab.eta i.bC,(⟨d⟩:aY),b.aC)>>=λj=>some (!(j.2=0:J))>>=λt63=>(if !t63 then nC (ab.eta j.1,ab.eta b.bC)else some false)>>=λk=>if(bif t63 then true else(!k)) then some (.inl 10)else rD (t21,f,aQ .i64 t23 1,c,a,d,e)) none) none else some (.inr (a,e))
  partial_fixpoint
def xc:I aT×Int×Int×aj->ai ((Int) ⊕ (Unit))
 |(t73,b,t75,a)=>
 if (t75<b:J) then ite (aG t75 t73.length) (some (t73.getD t75.toNat aF)>>=λc=>hl (a,c.ah)>>=λd=>if(bif (!d.2)then c.bV else false) then some (.inl 6)else xc (t73,b,aQ .i64 t75 1,a)) none else some (.inr ())
  partial_fixpoint
def IC(f:aY×aj×aY×aj):ai (Int):=
 match f with
 |(w,e,r,y)=>
 rD (y.af,(y.af.length:Int),0,w.bk,e,r.bk,y)>>=λo=>match o with
 |.inl b=>
 some b
 |.inr a=>
 xc (a.1.af,(a.1.af.length:Int),0,a.2)>>=λc=>match c with
 |.inl d=>
 some d
 |.inr g=>
 some 0
def aag:aY×Int×aY×Int->ai (Int)
 |(w,wt,r,rt)=>
 ite (aG wt w.bk.length) (some (w.bk.getD wt.toNat aM)>>=λa=>ite (aG rt r.bk.length) (some (r.bk.getD rt.toNat aM)>>=λb=>if !(a.ae=b.ae:J) then some 9 else if(bif (a.ae=2:J)then bif (a.bA<b.bA:J)then true else (b.bI<a.bI:J)else false) then some 2 else if(bif bif (a.ae=3:J)then true else (a.ae=7:J)then (b.Max<a.Max:J)else false) then some 3 else some (a.ae=8:J)>>=λt63=>ite (aG a.aS w.bk.length||(!t63)) ((if t63 then D5 (w.bk.getD a.aS.toNat aM)else some 0)>>=λc=>if(bif t63 then (b.Max<ed a.Max c:J)else false) then some 3 else some (a.ae=4:J)>>=λt82=>(if t82 then Et (a,b)else some false)>>=λd=>if(bif t82 then(!d)else false) then some 4 else some (a.ae=6:J)>>=λt92=>(if t92 then Et (a,b)else some false)>>=λe=>if(bif t92 then(!e)else false) then some 5 else if (a.ae=5:J) then IC (w,a,r,b)>>=λf=>some f else some 0) none) none) none
def r3:Int×Int×I bD×bD->ai ((Int×I bD) ⊕ (I bD))
 |(c,t8,a,b)=>
 if (t8<c:J) then ite (aG t8 a.length) (ite (t8.toNat<a.length:J) (if(eZ b.c8 (a.getD t8.toNat ey).c8&&(eZ b.cO (a.getD t8.toNat ey).cO&&true)) then some (.inl (t8,a))else r3 (c,aQ .i64 t8 1,a,b)) none) none else some (.inr a)
  partial_fixpoint
def L9(d:bD×I bD):ai (Int×I bD):=
 match d with
 |(v,b)=>
 r3 ((b.length:Int),0,b,v)>>=λo=>match o with
 |.inl a=>
 some (a.1,a.2)
 |.inr c=>
 some ((-1),c)
def IN:bD×I bD->ai (J×I bD)
 |(v,b)=>
 L9 (v,b)>>=λr=>ite ((r.2.length=b.length:J)&&true) (some ((0<=r.1:J),r.2)) none
def wH:Int×Int×I bD->ai (I bD)
 |(a,b,c)=>
 IN ((⟨a,b⟩:bD),c)>>=λr=>ite ((r.2.length=c.length:J)&&true) (if !r.1 then some [(⟨a,b⟩:bD)]>>=λt15=>ite (bR 16 (r.2++t15).length) (some (r.2++t15)) none else some r.2) none
def wF:I aT×Int×Int×aj×aj×I bD->ai (aj×aj×I bD)
 |(t35,e,t37,b,a,c)=>
 if (t37<e:J) then ite (aG t37 t35.length) (some (t35.getD t37.toNat aF)>>=λf=>hl (a,f.ah)>>=λd=>if d.2 then ite (aG d.1 a.af.length) (wH (f.aC,(a.af.getD d.1.toNat aF).aC,c)>>=λg=>wF (t35,e,aQ .i64 t37 1,b,a,g)) none else wF (t35,e,aQ .i64 t37 1,b,a,c)) none else some (b,a,c)
  partial_fixpoint
def Z3:aY×Int×aY×Int->ai (I bD)
 |(w,wt,r,rt)=>
 ite (aG wt w.bk.length) (some (w.bk.getD wt.toNat aM)>>=λa=>ite (aG rt r.bk.length) (some (r.bk.getD rt.toNat aM)>>=λc=>if !(a.ae=c.ae:J) then some []else wF (a.af,(a.af.length:Int),0,a,c,[])>>=λo=>if(bif (o.1.ae=8:J)then (0<o.1.Max:J)else false) then wH (o.1.aS,o.2.1.aS,o.2.2)>>=λb=>if(bif (o.1.ae=9:J)then true else bif bif (o.1.ae=7:J)then true else (o.1.ae=8:J)then (0<o.1.Max:J)else false) then wH (o.1.aE,o.2.1.aE,b)>>=λd=>some d else some b else if(bif (o.1.ae=9:J)then true else bif bif (o.1.ae=7:J)then true else (o.1.ae=8:J)then (0<o.1.Max:J)else false) then wH (o.1.aE,o.2.1.aE,o.2.2)>>=λe=>some e else some o.2.2) none) none
def iq:Int×I aj×az×Int×az->ai (ab×J×I aj×Int×az×az)
 |(c,b,e,f,a)=>
 uP 8 a>>=λr=>ite ((r.1.length=a.length:J)&&true) (some ((⟨0,false,0,[],0,[],[],[]⟩:ab),false,b,c,r.1,r.2)) none
theorem sg:bn UG iq:= .bH (.k lG .n)
def nq:au×Int×Int×Int->ai (Int)
 |(a,b,c,t18)=>
 if (t18<c:J) then ite (aG t18 a.length) (nq (a,sS .u64 (n1 .u64 b 8) (b7 .u64 (gC a t18)),c,aQ .i64 t18 1)) none else some b
  partial_fixpoint
theorem Z4:cF 209 0 [0] Tm nq:= .rx nq.partial_correctness
def ur(s:au):ai (Int×Int):=
 some (!(s=[]:J))>>=λt7=>ite (aG 0 s.length||(!t7)) (if(bif t7 then (gC s 0=0:J)else false) then some (0,2)else if (8<(s.length:Int):J) then some (0,7)else nq (s,0,(s.length:Int),0)>>=λo=>some (o,0)) none
theorem aaw:bn UH ur:= .bH .n (.k Z4 .n)
def Ew(n:Int):ai (Int):=
 some (vF .i64 (b7 .i64 (lZ .u64 n 1)) (dG .i64 0 (b7 .i64 (CE .u64 n 1))))
theorem aaL:bn UI Ew:= .bH
def r4:I au×Int×I aj×az×Int×aj×Int×J×Int×au×Int×Int×J×Int×au×Int×az×I ab->ai ((J×I aj×Int×ab×az×az) ⊕ (I au×I aj×az×Int×aj×Int×J×Int×au×Int×Int×J×Int×au×Int×az×I ab))
 |(t,b,d,e,f,i,j,k,l,m,n,o,p,q,r,s,g,a)=>
 if (b<(a.length:Int):J) then some (dG .i64 b 1)>>=λt86=>ite (aG t86 a.length) (ite (t86.toNat<a.length:J) (ite (aG b a.length) (ite (b.toNat<a.length:J) (ny (ab.eta (a.getD t86.toNat aI),ab.eta (a.getD b.toNat aI))>>=λu=>if (0<=u:J) then iq (1,d,e,f,g)>>=λc=>some (.inl (c.2.1,c.2.2.1,c.2.2.2.1,ab.eta c.1,c.2.2.2.2.1,c.2.2.2.2.2))else r4 (t,aQ .i64 b 1,d,e,f,i,j,k,l,m,n,o,p,q,r,s,g,a)) none) none) none) none else some (.inr (t,d,e,f,i,j,k,l,m,n,o,p,q,r,s,g,a))
  partial_fixpoint
theorem Yb:cF 214 2 [1] Tp r4:= .rx r4.partial_correctness (.k MM (.k sg .n))
def tQ:au×Int×Int×Int->ai ((Int×Int×Int) ⊕ (Unit))
 |(a,n,b,t11)=>
 if (t11<b:J) then ite (aG t11 a.length) (some (gC a t11)>>=λt16=>if(bif (t11=9:J)then (1<t16:J)else false) then some (.inl (0,0,7))else if (128<=t16:J) then some (gi .i64 7 t11)>>=λt41=>ite (0<=t41:J) (tQ (a,sS .u64 n (n1 .u64 (b7 .u64 (CE .u8 t16 127)) t41),b,aQ .i64 t11 1)) none else if(bif (t16=0:J)then (0<t11:J)else false) then some (.inl (0,0,2))else some (gi .i64 7 t11)>>=λt21=>ite (0<=t21:J) (some (.inl (sS .u64 n (n1 .u64 (b7 .u64 t16) t21),aQ .i64 t11 1,0))) none) none else some (.inr ())
  partial_fixpoint
theorem aah:cF 346 0 [0] Tn tQ:= .rx tQ.partial_correctness
def Fm(s:au):ai (Int×Int×Int):=
 tQ (s,0,ed 10 (s.length:Int),0)>>=λo=>match o with
 |.inl a=>
 some (a.1,a.2.1,a.2.2)
 |.inr b=>
 some (0,0,10)
theorem acs:bn Vn Fm:= .bH .n (.k aah .n)
def ry(s:au):ai (Int×au×J):=
 Fm s>>=λr=>if !(r.2.2=0:J) then some (0,[],false)else ite (fI r.2.1 (s.length:Int) s.length) (some (r.1,hd s r.2.1 (s.length:Int),true)) none
theorem JL:bn Vl ry:= .bH (.k acs .n)
def A9(s:au):ai (au×au×J):=
 ry s>>=λr=>if(bif (!r.2.2)then true else (b7 .u64 (r.2.1.length:Int)<r.1:J)) then some ([],[],false)else ite (fI 0 r.1 r.2.1.length) (ite (fI r.1 (r.2.1.length:Int) r.2.1.length) (some (hd r.2.1 0 r.1,hd r.2.1 r.1 (r.2.1.length:Int),true)) none) none
theorem Nb:bn Vm A9:= .bH (.k JL .n)
def ir:au×I au->ai ((Int) ⊕ (I au))
 |(s,a)=>
 if !(s=[]:J) then A9 s>>=λr=>if !r.2.2 then some (.inl 12)else some [r.1]>>=λt22=>ite (bR 16 (a++t22).length) (ir (r.2.1,a++t22)) none else some (.inr a)
  partial_fixpoint
theorem aaM:cF 280 0 [0] To ir:= .rx ir.partial_correctness (.k Nb .n)
def lb(c:au):ai (I au×Int):=
 ir (c,[])>>=λo=>match o with
 |.inl a=>
 some ([],a)
 |.inr b=>
 some (b,0)
theorem M1:bn U5 lb:= .bH .n (.k aaM .n)
mutual
def kc(v:ab):ai (ab):=
 hc 120 v.a'>>=λr=>hc 120 v.aw>>=λX=>hc 24 v.a6>>=λY=>uf ((r.length:Int),0,v.ae,v.cp,v.bF,v.bW,v.ah,0,false,0,[],0,r,X,Y)>>=λo=>ug ((o.2.2.2.2.2.2.2.2.2.2.2.1.length:Int),0,o.1,o.2.1,o.2.2.1,o.2.2.2.1,o.2.2.2.2.1,o.2.2.2.2.2.1,o.2.2.2.2.2.2.1,o.2.2.2.2.2.2.2.1,o.2.2.2.2.2.2.2.2.1,o.2.2.2.2.2.2.2.2.2.1,o.2.2.2.2.2.2.2.2.2.2.2.1,o.2.2.2.2.2.2.2.2.2.2.1,o.2.2.2.2.2.2.2.2.2.2.2.2)>>=λa=>some (⟨a.1,a.2.1,a.2.2.1,a.2.2.2.1,a.2.2.2.2.1,a.2.2.2.2.2.2.2.2.2.2.1,a.2.2.2.2.2.2.2.2.2.2.2.1,a.2.2.2.2.2.2.2.2.2.2.2.2⟩:ab)
  partial_fixpoint
def uf:Int×Int×Int×J×Int×au×Int×Int×J×Int×au×Int×I ab×I ab×I ct->ai (Int×J×Int×au×Int×Int×J×Int×au×Int×I ab×I ab×I ct)
 |(U,t22,g,j,p,q,t,w,x,y,A,B,c,D,E)=>
 if (t22<U:J) then ite (aG t22 c.length) (ite (t22.toNat<c.length:J) (kc (ab.eta (c.getD t22.toNat aI))>>=λZ=>ite (aG t22 c.length) (ite (t22.toNat<c.length:J) (uf (U,aQ .i64 t22 1,g,j,p,q,t,w,x,y,A,B,c.set t22.toNat (ab.eta Z),D,E)) none) none) none) none else some (g,j,p,q,t,w,x,y,A,B,c,D,E)
  partial_fixpoint
def ug:Int×Int×Int×J×Int×au×Int×Int×J×Int×au×Int×I ab×I ab×I ct->ai (Int×J×Int×au×Int×Int×J×Int×au×Int×I ab×I ab×I ct)
 |(W,t37,F,G,H,K,L,M,N,O,P,Q,e,R,S)=>
 if (t37<W:J) then ite (aG t37 e.length) (ite (t37.toNat<e.length:J) (kc (ab.eta (e.getD t37.toNat aI))>>=λaa=>ite (aG t37 e.length) (ite (t37.toNat<e.length:J) (ug (W,aQ .i64 t37 1,F,G,H,K,L,M,N,O,P,Q,e.set t37.toNat (ab.eta aa),R,S)) none) none) none) none else some (F,G,H,K,L,M,N,O,P,Q,R,e,S)
  partial_fixpoint
end
theorem aaN:e6 wi kc/\fx 284 0 [1] Bh ug/\fx 284 0 [0] Bg uf:=kc.mutual_partial_correctness (eX wi) (fw 284 0 [1] Bh) (fw 284 0 [0] Bg)
 (λ_ _ h1 a _ _ h=>fb h (.k ml (.k mn .n)) (.k (fL Bg a) (.k (fL Bh h1) .n)))
 (λ_ _ h0 h1 _ _ h=>fK Bh h1 h (.k (cL wi h0) .n))
 (λ_ _ h0 a _ _ h=>fK Bg a h (.k (cL wi h0) .n))
theorem aai:bn wi kc:=cL _ aaN.1
def IP:da×aT->ai (J×aT)
 |(f,b)=>
 some ((f.ah=b.ah:J),(⟨b.ah,b.aR,b.aC,b.bV,b.bO,ab.eta b.bC⟩:aT))
theorem XU:bn U8 IP:= .bH
def pM:I da×Int×Int×aT->ai ((Int×aT) ⊕ (aT))
 |(b,c,t8,a)=>
 if (t8<c:J) then ite (aG t8 b.length) (IP (b.getD t8.toNat dP,(⟨a.ah,a.aR,a.aC,a.bV,a.bO,ab.eta a.bC⟩:aT))>>=λr=>if r.1 then some (.inl (t8,(⟨r.2.ah,r.2.aR,r.2.aC,r.2.bV,r.2.bO,ab.eta r.2.bC⟩:aT)))else pM (b,c,aQ .i64 t8 1,(⟨r.2.ah,r.2.aR,r.2.aC,r.2.bV,r.2.bO,ab.eta r.2.bC⟩:aT))) none else some (.inr (⟨a.ah,a.aR,a.aC,a.bV,a.bO,ab.eta a.bC⟩:aT))
  partial_fixpoint
theorem XD:cF 282 1 [0] SJ pM:= .rx pM.partial_correctness (.k XU .n)
def zs(d:I da×aT):ai (Int×aT):=
 match d with
 |(s,b)=>
 pM (s,(s.length:Int),0,(⟨b.ah,b.aR,b.aC,b.bV,b.bO,ab.eta b.bC⟩:aT))>>=λo=>match o with
 |.inl a=>
 some (a.1,(⟨a.2.ah,a.2.aR,a.2.aC,a.2.bV,a.2.bO,ab.eta a.2.bC⟩:aT))
 |.inr c=>
 some ((-1),(⟨c.ah,c.aR,c.aC,c.bV,c.bO,ab.eta c.bC⟩:aT))
theorem X6:bn U7 zs:= .bH .n (.k XD .n)
def pQ:I da×Int×Int×I aj×az×Int×aj×Int×J×Int×au×Int×Int×J×Int×au×Int×az×I ab×I ct->ai ((J×I aj×Int×ab×az×az) ⊕ (I aj×az×Int×Int×J×Int×au×Int×Int×J×Int×au×Int×az×I ab×I ct))
 |(t117,u,t119,d,e,f,i,j,k,l,m,n,o,p,q,r,s,b,t,g)=>
 if (t119<u:J) then ite (aG t119 t117.length) (some (t117.getD t119.toNat dP)>>=λc=>hl (i,c.ah)>>=λv=>if v.2 then pQ (t117,u,aQ .i64 t119 1,d,e,f,i,j,k,l,m,n,o,p,q,r,s,b,t,g)else if c.bV then some [c.ah]>>=λt140=>ite (bR 8 (b++t140).length) (iq (6,d,e,f,b++t140)>>=λa=>some (dG .i64 (a.2.2.2.2.1.length:Int) 1)>>=λt159=>ite (fI 0 t159 a.2.2.2.2.1.length) (ite (t159.toNat<=a.2.2.2.2.1.length:J) (some (.inl (false,a.2.2.1,a.2.2.2.1,ab.eta a.1,a.2.2.2.2.1.take t159.toNat,a.2.2.2.2.2))) none) none) none else some [(⟨c.ah,c.b5⟩:ct)]>>=λt171=>ite (bR 24 (g++t171).length) (pQ (t117,u,aQ .i64 t119 1,d,e,f,i,j,k,l,m,n,o,p,q,r,s,b,t,g++t171)) none) none else some (.inr (d,e,f,j,k,l,m,n,o,p,q,r,s,b,t,g))
  partial_fixpoint
theorem Yl:cF 215 2 [1] SK pQ:= .rx pQ.partial_correctness (.k qD (.k sg .n))
end
end Go.Proofs.YtkbmjabicjpmjaaGreatDoor
