/- The functions of the program as functions of Lean, that its code does what they say, and what they answer; part A. -/
import Derived.Test.YtdjagncoefjfeaaGreatProg
import Derived.KernelRfl
import Derived.Shelf.SlGeneric
import Derived.Shelf.SlLaysF0
import Derived.Shelf.SlSortCmp.WholeK
import Derived.Lib.Small
import Derived.Test.YtdjagncoefjfeaaGreatCaLD

namespace Go.Proofs.YtdjagncoefjfeaaGreat
set_option linter.all false
section
open Go Go.Proofs.YtdjagncoefjfeaaGreat.Shv
open Tryz
set_option maxRecDepth 100000
structure lT where
 ad:Int
 aw:Int
 hb:Int
structure dx where
 Kind:Int
 A:Int
 B:Int
 C:Int
 c0:List lT
structure et where
 ei:List dx
structure lg where
 S:et
 T:Int
 C:ar
structure kC where
 Kind:Int
 Node:Int
 A:Int
 B:Int
structure mJ where
 D:lg
 L:List kC
structure nI where
 C:mJ
 xo:Bool
structure c3 where
 ad:Int
 Name:ak
structure bX where
 ad:Int
 Data:ak
structure I where
 Kind:Int
 bN:Bool
 bd:Int
 bl:ak
 ad:Int
 ay:List I
 aj:List I
 Rest:List bX
structure aS where
 ad:Int
 Name:ak
 aw:Int
 cg:Bool
 bV:Bool
 bB:I
structure ai where
 Kind:Int
 Name:ak
 bF:Int
 bH:Int
 Max:Int
 bh:List c3
 ah:List aS
 Key:Int
 aF:Int
 Open:Bool
structure aT where
 Types:List ai
structure cY where
 cW:aT
 aw:Int
structure cS where
 ad:Int
 cg:Bool
 Data:ak
structure iV where
 Path:ar
 Reason:Int
structure iH where
 t:Int
 number:Int
structure gz where
 id:Int
 text:ak
structure eR where
 v:I
 u:I
 message:ak
structure cV where
 Value:I
 dR:iV
 ck:Bool
structure dK where
 Value:I
 Path:ar
 ck:Bool
structure kD where
 V:I
 U:I
 Message:ak
structure zs where
 Jk:List kC
 gF:List kC
abbrev Gw:Nat:=0
abbrev TZ:Nat:=1
abbrev WU:Nat:=2
abbrev vl:Nat:=4
abbrev Da:Nat:=5
abbrev Tu:Nat:=6
def jc:lT:=⟨0,0,0⟩
def bu:dx:=⟨0,0,0,0,[]⟩
def T0:et:=⟨[]⟩
def T1:lg:=⟨T0,0,[]⟩
def nB:kC:=⟨0,0,0,0⟩
def Ua:mJ:=⟨T1,[]⟩
def XP:nI:=⟨Ua,false⟩
def dL:c3:=⟨0,[]⟩
def bW:bX:=⟨0,[]⟩
def av:I:=⟨0,false,0,[],0,[],[],[]⟩
def aB:aS:=⟨0,[],0,false,false,av⟩
def aJ:ai:=⟨0,[],0,0,0,[],[],0,0,false⟩
def Mp:aT:=⟨[]⟩
def IN:cY:=⟨Mp,0⟩
def gn:cS:=⟨0,false,[]⟩
def Lo:iV:=⟨[],0⟩
def Ha:iH:=⟨0,0⟩
def wj:gz:=⟨0,[]⟩
def Wf:eR:=⟨av,av,[]⟩
def WV:cV:=⟨av,Lo,false⟩
def WW:dK:=⟨av,[],false⟩
def WX:kD:=⟨av,av,[]⟩
def aal:zs:=⟨[],[]⟩
def dC:Nat->Type
 |0=>nI
 |1=>mJ
 |2=>lg
 |3=>et
 |4=>dx
 |5=>lT
 |6=>kC
 |7=>ai
 |8=>c3
 |9=>aS
 |10=>I
 |11=>bX
 |12=>aT
 |13=>cY
 |14=>cS
 |15=>iV
 |16=>iH
 |17=>gz
 |18=>eR
 |19=>cV
 |20=>dK
 |21=>kD
 |22=>zs
 |_=>Bool
def dZ:Nat->List aL
 |0=>[.slice (.nm 4),.int .u8,.slice (.int .u8),.slice (.nm 6),.bool]
 |1=>[.slice (.nm 4),.int .u8,.slice (.int .u8),.slice (.nm 6)]
 |2=>[.slice (.nm 4),.int .u8,.slice (.int .u8)]
 |3=>[.slice (.nm 4)]
 |4=>[.int .u8,.int .u8,.int .u8,.int .u8,.slice (.nm 5)]
 |5=>[.int .u8,.int .u8,.int .u8]
 |6=>[.int .u8,.int .u8,.int .u8,.int .u8]
 |7=>[.int .i64,.str,.int .i64,.int .i64,.int .i64,.slice (.nm 8),.slice (.nm 9),.int .i64,.int .i64,.bool]
 |8=>[.int .i64,.str]
 |9=>[.int .i64,.str,.int .i64,.bool,.bool,.int .i64,.bool,.int .i64,.str,.int .i64,.slice (.nm 10),.slice (.nm 10),.slice (.nm 11)]
 |10=>[.int .i64,.bool,.int .i64,.str,.int .i64,.slice (.nm 10),.slice (.nm 10),.slice (.nm 11)]
 |11=>[.int .i64,.str]
 |12=>[.slice (.nm 7)]
 |13=>[.slice (.nm 7),.int .i64]
 |14=>[.int .i64,.bool,.str]
 |15=>[.slice (.int .i64),.int .i64]
 |16=>[.int .i64,.int .i64]
 |17=>[.int .i64,.str]
 |18=>[.int .i64,.bool,.int .i64,.str,.int .i64,.slice (.nm 10),.slice (.nm 10),.slice (.nm 11),.int .i64,.bool,.int .i64,.str,.int .i64,.slice (.nm 10),.slice (.nm 10),.slice (.nm 11),.str]
 |19=>[.int .i64,.bool,.int .i64,.str,.int .i64,.slice (.nm 10),.slice (.nm 10),.slice (.nm 11),.slice (.int .i64),.int .i64,.bool]
 |20=>[.int .i64,.bool,.int .i64,.str,.int .i64,.slice (.nm 10),.slice (.nm 10),.slice (.nm 11),.slice (.int .i64),.bool]
 |21=>[.int .i64,.bool,.int .i64,.str,.int .i64,.slice (.nm 10),.slice (.nm 10),.slice (.nm 11),.int .i64,.bool,.int .i64,.str,.int .i64,.slice (.nm 10),.slice (.nm 10),.slice (.nm 11),.str]
 |22=>[.slice (.nm 6),.slice (.nm 6)]
 |_=>[.bool]
def ah9:(n:Nat)->dC n->List (Cell dC)
 |0,(x:nI)=>[⟨.slice (.nm 4),x.C.D.S.ei⟩,⟨.int .u8,x.C.D.T⟩,⟨.slice (.int .u8),x.C.D.C⟩,⟨.slice (.nm 6),x.C.L⟩,⟨.bool,x.xo⟩]
 |1,(x:mJ)=>[⟨.slice (.nm 4),x.D.S.ei⟩,⟨.int .u8,x.D.T⟩,⟨.slice (.int .u8),x.D.C⟩,⟨.slice (.nm 6),x.L⟩]
 |2,(x:lg)=>[⟨.slice (.nm 4),x.S.ei⟩,⟨.int .u8,x.T⟩,⟨.slice (.int .u8),x.C⟩]
 |3,(x:et)=>[⟨.slice (.nm 4),x.ei⟩]
 |4,(x:dx)=>[⟨.int .u8,x.Kind⟩,⟨.int .u8,x.A⟩,⟨.int .u8,x.B⟩,⟨.int .u8,x.C⟩,⟨.slice (.nm 5),x.c0⟩]
 |5,(x:lT)=>[⟨.int .u8,x.ad⟩,⟨.int .u8,x.aw⟩,⟨.int .u8,x.hb⟩]
 |6,(x:kC)=>[⟨.int .u8,x.Kind⟩,⟨.int .u8,x.Node⟩,⟨.int .u8,x.A⟩,⟨.int .u8,x.B⟩]
 |7,(x:ai)=>[⟨.int .i64,x.Kind⟩,⟨.str,x.Name⟩,⟨.int .i64,x.bF⟩,⟨.int .i64,x.bH⟩,⟨.int .i64,x.Max⟩,⟨.slice (.nm 8),x.bh⟩,⟨.slice (.nm 9),x.ah⟩,⟨.int .i64,x.Key⟩,⟨.int .i64,x.aF⟩,⟨.bool,x.Open⟩]
 |8,(x:c3)=>[⟨.int .i64,x.ad⟩,⟨.str,x.Name⟩]
 |9,(x:aS)=>[⟨.int .i64,x.ad⟩,⟨.str,x.Name⟩,⟨.int .i64,x.aw⟩,⟨.bool,x.cg⟩,⟨.bool,x.bV⟩,⟨.int .i64,x.bB.Kind⟩,⟨.bool,x.bB.bN⟩,⟨.int .i64,x.bB.bd⟩,⟨.str,x.bB.bl⟩,⟨.int .i64,x.bB.ad⟩,⟨.slice (.nm 10),x.bB.ay⟩,⟨.slice (.nm 10),x.bB.aj⟩,⟨.slice (.nm 11),x.bB.Rest⟩]
 |10,(x:I)=>[⟨.int .i64,x.Kind⟩,⟨.bool,x.bN⟩,⟨.int .i64,x.bd⟩,⟨.str,x.bl⟩,⟨.int .i64,x.ad⟩,⟨.slice (.nm 10),x.ay⟩,⟨.slice (.nm 10),x.aj⟩,⟨.slice (.nm 11),x.Rest⟩]
 |11,(x:bX)=>[⟨.int .i64,x.ad⟩,⟨.str,x.Data⟩]
 |12,(x:aT)=>[⟨.slice (.nm 7),x.Types⟩]
 |13,(x:cY)=>[⟨.slice (.nm 7),x.cW.Types⟩,⟨.int .i64,x.aw⟩]
 |14,(x:cS)=>[⟨.int .i64,x.ad⟩,⟨.bool,x.cg⟩,⟨.str,x.Data⟩]
 |15,(x:iV)=>[⟨.slice (.int .i64),x.Path⟩,⟨.int .i64,x.Reason⟩]
 |16,(x:iH)=>[⟨.int .i64,x.t⟩,⟨.int .i64,x.number⟩]
 |17,(x:gz)=>[⟨.int .i64,x.id⟩,⟨.str,x.text⟩]
 |18,(x:eR)=>[⟨.int .i64,x.v.Kind⟩,⟨.bool,x.v.bN⟩,⟨.int .i64,x.v.bd⟩,⟨.str,x.v.bl⟩,⟨.int .i64,x.v.ad⟩,⟨.slice (.nm 10),x.v.ay⟩,⟨.slice (.nm 10),x.v.aj⟩,⟨.slice (.nm 11),x.v.Rest⟩,⟨.int .i64,x.u.Kind⟩,⟨.bool,x.u.bN⟩,⟨.int .i64,x.u.bd⟩,⟨.str,x.u.bl⟩,⟨.int .i64,x.u.ad⟩,⟨.slice (.nm 10),x.u.ay⟩,⟨.slice (.nm 10),x.u.aj⟩,⟨.slice (.nm 11),x.u.Rest⟩,⟨.str,x.message⟩]
 |19,(x:cV)=>[⟨.int .i64,x.Value.Kind⟩,⟨.bool,x.Value.bN⟩,⟨.int .i64,x.Value.bd⟩,⟨.str,x.Value.bl⟩,⟨.int .i64,x.Value.ad⟩,⟨.slice (.nm 10),x.Value.ay⟩,⟨.slice (.nm 10),x.Value.aj⟩,⟨.slice (.nm 11),x.Value.Rest⟩,⟨.slice (.int .i64),x.dR.Path⟩,⟨.int .i64,x.dR.Reason⟩,⟨.bool,x.ck⟩]
 |20,(x:dK)=>[⟨.int .i64,x.Value.Kind⟩,⟨.bool,x.Value.bN⟩,⟨.int .i64,x.Value.bd⟩,⟨.str,x.Value.bl⟩,⟨.int .i64,x.Value.ad⟩,⟨.slice (.nm 10),x.Value.ay⟩,⟨.slice (.nm 10),x.Value.aj⟩,⟨.slice (.nm 11),x.Value.Rest⟩,⟨.slice (.int .i64),x.Path⟩,⟨.bool,x.ck⟩]
 |21,(x:kD)=>[⟨.int .i64,x.V.Kind⟩,⟨.bool,x.V.bN⟩,⟨.int .i64,x.V.bd⟩,⟨.str,x.V.bl⟩,⟨.int .i64,x.V.ad⟩,⟨.slice (.nm 10),x.V.ay⟩,⟨.slice (.nm 10),x.V.aj⟩,⟨.slice (.nm 11),x.V.Rest⟩,⟨.int .i64,x.U.Kind⟩,⟨.bool,x.U.bN⟩,⟨.int .i64,x.U.bd⟩,⟨.str,x.U.bl⟩,⟨.int .i64,x.U.ad⟩,⟨.slice (.nm 10),x.U.ay⟩,⟨.slice (.nm 10),x.U.aj⟩,⟨.slice (.nm 11),x.U.Rest⟩,⟨.str,x.Message⟩]
 |22,(x:zs)=>[⟨.slice (.nm 6),x.Jk⟩,⟨.slice (.nm 6),x.gF⟩]
 |_+23,(x:Bool)=>[⟨.bool,x⟩]
def cU:(n:Nat)->List (Cell dC)->Option (dC n)
 |0,l=>match aO.dec dC (dZ 0) l with
  |some h=>some (⟨(⟨(⟨(⟨h.1⟩:et),h.2.1,h.2.2.1⟩:lg),h.2.2.2.1⟩:mJ),h.2.2.2.2⟩:nI)
  |none=>none
 |1,l=>match aO.dec dC (dZ 1) l with
  |some h=>some (⟨(⟨(⟨h.1⟩:et),h.2.1,h.2.2.1⟩:lg),h.2.2.2⟩:mJ)
  |none=>none
 |2,l=>match aO.dec dC (dZ 2) l with
  |some h=>some (⟨(⟨h.1⟩:et),h.2.1,h.2.2⟩:lg)
  |none=>none
 |3,l=>match aO.dec dC (dZ 3) l with
  |some h=>some (⟨h⟩:et)
  |none=>none
 |4,l=>match aO.dec dC (dZ 4) l with
  |some h=>some (⟨h.1,h.2.1,h.2.2.1,h.2.2.2.1,h.2.2.2.2⟩:dx)
  |none=>none
 |5,l=>match aO.dec dC (dZ 5) l with
  |some h=>some (⟨h.1,h.2.1,h.2.2⟩:lT)
  |none=>none
 |6,l=>match aO.dec dC (dZ 6) l with
  |some h=>some (⟨h.1,h.2.1,h.2.2.1,h.2.2.2⟩:kC)
  |none=>none
 |7,l=>match aO.dec dC (dZ 7) l with
  |some h=>some (⟨h.1,h.2.1,h.2.2.1,h.2.2.2.1,h.2.2.2.2.1,h.2.2.2.2.2.1,h.2.2.2.2.2.2.1,h.2.2.2.2.2.2.2.1,h.2.2.2.2.2.2.2.2.1,h.2.2.2.2.2.2.2.2.2⟩:ai)
  |none=>none
 |8,l=>match aO.dec dC (dZ 8) l with
  |some h=>some (⟨h.1,h.2⟩:c3)
  |none=>none
 |9,l=>match aO.dec dC (dZ 9) l with
  |some h=>some (⟨h.1,h.2.1,h.2.2.1,h.2.2.2.1,h.2.2.2.2.1,(⟨h.2.2.2.2.2.1,h.2.2.2.2.2.2.1,h.2.2.2.2.2.2.2.1,h.2.2.2.2.2.2.2.2.1,h.2.2.2.2.2.2.2.2.2.1,h.2.2.2.2.2.2.2.2.2.2.1,h.2.2.2.2.2.2.2.2.2.2.2.1,h.2.2.2.2.2.2.2.2.2.2.2.2⟩:I)⟩:aS)
  |none=>none
 |10,l=>match aO.dec dC (dZ 10) l with
  |some h=>some (⟨h.1,h.2.1,h.2.2.1,h.2.2.2.1,h.2.2.2.2.1,h.2.2.2.2.2.1,h.2.2.2.2.2.2.1,h.2.2.2.2.2.2.2⟩:I)
  |none=>none
 |11,l=>match aO.dec dC (dZ 11) l with
  |some h=>some (⟨h.1,h.2⟩:bX)
  |none=>none
 |12,l=>match aO.dec dC (dZ 12) l with
  |some h=>some (⟨h⟩:aT)
  |none=>none
 |13,l=>match aO.dec dC (dZ 13) l with
  |some h=>some (⟨(⟨h.1⟩:aT),h.2⟩:cY)
  |none=>none
 |14,l=>match aO.dec dC (dZ 14) l with
  |some h=>some (⟨h.1,h.2.1,h.2.2⟩:cS)
  |none=>none
 |15,l=>match aO.dec dC (dZ 15) l with
  |some h=>some (⟨h.1,h.2⟩:iV)
  |none=>none
 |16,l=>match aO.dec dC (dZ 16) l with
  |some h=>some (⟨h.1,h.2⟩:iH)
  |none=>none
 |17,l=>match aO.dec dC (dZ 17) l with
  |some h=>some (⟨h.1,h.2⟩:gz)
  |none=>none
 |18,l=>match aO.dec dC (dZ 18) l with
  |some h=>some (⟨(⟨h.1,h.2.1,h.2.2.1,h.2.2.2.1,h.2.2.2.2.1,h.2.2.2.2.2.1,h.2.2.2.2.2.2.1,h.2.2.2.2.2.2.2.1⟩:I),(⟨h.2.2.2.2.2.2.2.2.1,h.2.2.2.2.2.2.2.2.2.1,h.2.2.2.2.2.2.2.2.2.2.1,h.2.2.2.2.2.2.2.2.2.2.2.1,h.2.2.2.2.2.2.2.2.2.2.2.2.1,h.2.2.2.2.2.2.2.2.2.2.2.2.2.1,h.2.2.2.2.2.2.2.2.2.2.2.2.2.2.1,h.2.2.2.2.2.2.2.2.2.2.2.2.2.2.2.1⟩:I),h.2.2.2.2.2.2.2.2.2.2.2.2.2.2.2.2⟩:eR)
  |none=>none
 |19,l=>match aO.dec dC (dZ 19) l with
  |some h=>some (⟨(⟨h.1,h.2.1,h.2.2.1,h.2.2.2.1,h.2.2.2.2.1,h.2.2.2.2.2.1,h.2.2.2.2.2.2.1,h.2.2.2.2.2.2.2.1⟩:I),(⟨h.2.2.2.2.2.2.2.2.1,h.2.2.2.2.2.2.2.2.2.1⟩:iV),h.2.2.2.2.2.2.2.2.2.2⟩:cV)
  |none=>none
 |20,l=>match aO.dec dC (dZ 20) l with
  |some h=>some (⟨(⟨h.1,h.2.1,h.2.2.1,h.2.2.2.1,h.2.2.2.2.1,h.2.2.2.2.2.1,h.2.2.2.2.2.2.1,h.2.2.2.2.2.2.2.1⟩:I),h.2.2.2.2.2.2.2.2.1,h.2.2.2.2.2.2.2.2.2⟩:dK)
  |none=>none
 |21,l=>match aO.dec dC (dZ 21) l with
  |some h=>some (⟨(⟨h.1,h.2.1,h.2.2.1,h.2.2.2.1,h.2.2.2.2.1,h.2.2.2.2.2.1,h.2.2.2.2.2.2.1,h.2.2.2.2.2.2.2.1⟩:I),(⟨h.2.2.2.2.2.2.2.2.1,h.2.2.2.2.2.2.2.2.2.1,h.2.2.2.2.2.2.2.2.2.2.1,h.2.2.2.2.2.2.2.2.2.2.2.1,h.2.2.2.2.2.2.2.2.2.2.2.2.1,h.2.2.2.2.2.2.2.2.2.2.2.2.2.1,h.2.2.2.2.2.2.2.2.2.2.2.2.2.2.1,h.2.2.2.2.2.2.2.2.2.2.2.2.2.2.2.1⟩:I),h.2.2.2.2.2.2.2.2.2.2.2.2.2.2.2.2⟩:kD)
  |none=>none
 |22,l=>match aO.dec dC (dZ 22) l with
  |some h=>some (⟨h.1,h.2⟩:zs)
  |none=>none
 |_+23,l=>match aO.dec dC [.bool] l with
  |some (h:Bool)=>some h
  |none=>none
def R9(x:lT):List T:=[.int .u8 x.ad,.int .u8 x.aw,.int .u8 x.hb]
def xV(x:dx):List T:=[.int .u8 x.Kind,.int .u8 x.A,.int .u8 x.B,.int .u8 x.C,.slice (x.c0.map R9)]
def agR(x:et):List T:=[.slice (x.ei.map xV)]
def agS(x:lg):List T:=[.slice (x.S.ei.map xV),.int .u8 x.T,.slice (x.C.map (λy=>[.int .u8 y]))]
def xU(x:kC):List T:=[.int .u8 x.Kind,.int .u8 x.Node,.int .u8 x.A,.int .u8 x.B]
def agU(x:mJ):List T:=[.slice (x.D.S.ei.map xV),.int .u8 x.D.T,.slice (x.D.C.map (λy=>[.int .u8 y])),.slice (x.L.map xU)]
def agW(x:nI):List T:=[.slice (x.C.D.S.ei.map xV),.int .u8 x.C.D.T,.slice (x.C.D.C.map (λy=>[.int .u8 y])),.slice (x.C.L.map xU),.bool x.xo]
def R8(x:c3):List T:=[.int .i64 x.ad,.str x.Name]
def nx(x:bX):List T:=[.int .i64 x.ad,.str x.Data]
def I.eta(x:I):I:=⟨x.Kind,x.bN,x.bd,x.bl,x.ad,x.ay,x.aj,x.Rest⟩
theorem I.aV(x:I):x.eta=x:=by cases x;rfl
mutual
def h2:I->List T
 |⟨a0,a1,a2,a3,a4,a5,a,c⟩=>[.int .i64 a0,.bool a1,.int .i64 a2,.str a3,.int .i64 a4,.slice (xT a5),.slice (xT a),.slice (c.map nx)]
def xT:List I->List (List T)
 |[]=>[]
 |v::r=>h2 v::xT r
end
theorem J6:∀l,xT l=l.map h2
 |[]=>rfl
 |v::r=>by simp only[xT,List.map];rw[J6 r]
theorem ZJ(x:I):h2 x=[.int .i64 x.Kind,.bool x.bN,.int .i64 x.bd,.str x.bl,.int .i64 x.ad,.slice (x.ay.map h2),.slice (x.aj.map h2),.slice (x.Rest.map nx)]:=by cases x;simp only[h2,J6]
def R7(x:aS):List T:=[.int .i64 x.ad,.str x.Name,.int .i64 x.aw,.bool x.cg,.bool x.bV,.int .i64 x.bB.Kind,.bool x.bB.bN,.int .i64 x.bB.bd,.str x.bB.bl,.int .i64 x.bB.ad,.slice (x.bB.ay.map h2),.slice (x.bB.aj.map h2),.slice (x.bB.Rest.map nx)]
def Fv(x:ai):List T:=[.int .i64 x.Kind,.str x.Name,.int .i64 x.bF,.int .i64 x.bH,.int .i64 x.Max,.slice (x.bh.map R8),.slice (x.ah.map R7),.int .i64 x.Key,.int .i64 x.aF,.bool x.Open]
def agQ(x:aT):List T:=[.slice (x.Types.map Fv)]
def agP(x:cY):List T:=[.slice (x.cW.Types.map Fv),.int .i64 x.aw]
def agO(x:cS):List T:=[.int .i64 x.ad,.bool x.cg,.str x.Data]
def agN(x:iV):List T:=[.slice (x.Path.map (λy=>[.int .i64 y])),.int .i64 x.Reason]
def agM(x:iH):List T:=[.int .i64 x.t,.int .i64 x.number]
def agL(x:gz):List T:=[.int .i64 x.id,.str x.text]
def agK(x:eR):List T:=[.int .i64 x.v.Kind,.bool x.v.bN,.int .i64 x.v.bd,.str x.v.bl,.int .i64 x.v.ad,.slice (x.v.ay.map h2),.slice (x.v.aj.map h2),.slice (x.v.Rest.map nx),.int .i64 x.u.Kind,.bool x.u.bN,.int .i64 x.u.bd,.str x.u.bl,.int .i64 x.u.ad,.slice (x.u.ay.map h2),.slice (x.u.aj.map h2),.slice (x.u.Rest.map nx),.str x.message]
def agT(x:cV):List T:=[.int .i64 x.Value.Kind,.bool x.Value.bN,.int .i64 x.Value.bd,.str x.Value.bl,.int .i64 x.Value.ad,.slice (x.Value.ay.map h2),.slice (x.Value.aj.map h2),.slice (x.Value.Rest.map nx),.slice (x.dR.Path.map (λy=>[.int .i64 y])),.int .i64 x.dR.Reason,.bool x.ck]
def agV(x:dK):List T:=[.int .i64 x.Value.Kind,.bool x.Value.bN,.int .i64 x.Value.bd,.str x.Value.bl,.int .i64 x.Value.ad,.slice (x.Value.ay.map h2),.slice (x.Value.aj.map h2),.slice (x.Value.Rest.map nx),.slice (x.Path.map (λy=>[.int .i64 y])),.bool x.ck]
def agX(x:kD):List T:=[.int .i64 x.V.Kind,.bool x.V.bN,.int .i64 x.V.bd,.str x.V.bl,.int .i64 x.V.ad,.slice (x.V.ay.map h2),.slice (x.V.aj.map h2),.slice (x.V.Rest.map nx),.int .i64 x.U.Kind,.bool x.U.bN,.int .i64 x.U.bd,.str x.U.bl,.int .i64 x.U.ad,.slice (x.U.ay.map h2),.slice (x.U.aj.map h2),.slice (x.U.Rest.map nx),.str x.Message]
def agY(x:zs):List T:=[.slice (x.Jk.map xU),.slice (x.gF.map xU)]
def ah8:(n:Nat)->dC n->List T
 |0,x=>agW x
 |1,x=>agU x
 |2,x=>agS x
 |3,x=>agR x
 |4,x=>xV x
 |5,x=>R9 x
 |6,x=>xU x
 |7,x=>Fv x
 |8,x=>R8 x
 |9,x=>R7 x
 |10,x=>h2 x
 |11,x=>nx x
 |12,x=>agQ x
 |13,x=>agP x
 |14,x=>agO x
 |15,x=>agN x
 |16,x=>agM x
 |17,x=>agL x
 |18,x=>agK x
 |19,x=>agT x
 |20,x=>agV x
 |21,x=>agX x
 |22,x=>agY x
 |_+23,(x:Bool)=>[.bool x]
def cR:cL where
 D:=dC
 kd:=λn=>match n with
  |0=>XP
  |1=>Ua
  |2=>T1
  |3=>T0
  |4=>bu
  |5=>jc
  |6=>nB
  |7=>aJ
  |8=>dL
  |9=>aB
  |10=>av
  |11=>bW
  |12=>Mp
  |13=>IN
  |14=>gn
  |15=>Lo
  |16=>Ha
  |17=>wj
  |18=>Wf
  |19=>WV
  |20=>WW
  |21=>WX
  |22=>aal
  |_+23=>false
 o2:=ah9
 make:=cU
 dg:=dZ
 enc:=ah8
 Sb:=λn x=>match n,x with
  |0,_=>rfl
  |1,_=>rfl
  |2,_=>rfl
  |3,_=>rfl
  |4,_=>rfl
  |5,_=>rfl
  |6,_=>rfl
  |7,_=>rfl
  |8,_=>rfl
  |9,_=>rfl
  |10,x=>ZJ x
  |11,_=>rfl
  |12,_=>rfl
  |13,_=>rfl
  |14,_=>rfl
  |15,_=>rfl
  |16,_=>rfl
  |17,_=>rfl
  |18,_=>rfl
  |19,_=>rfl
  |20,_=>rfl
  |21,_=>rfl
  |22,_=>rfl
  |_+23,_=>rfl
 mk_eq:=λn l x h=>match n,x,h with
  |0,x,h=>by
   simp only[cU]at h;split at h
   . rename_i aa a;cases h;exact aO.fp a
   . cases h
  |1,x,h=>by
   simp only[cU]at h;split at h
   . rename_i aa a;cases h;exact aO.fp a
   . cases h
  |2,x,h=>by
   simp only[cU]at h;split at h
   . rename_i aa a;cases h;exact aO.fp a
   . cases h
  |3,x,h=>by
   simp only[cU]at h;split at h
   . rename_i aa a;cases h;exact aO.fp a
   . cases h
  |4,x,h=>by
   simp only[cU]at h;split at h
   . rename_i aa a;cases h;exact aO.fp a
   . cases h
  |5,x,h=>by
   simp only[cU]at h;split at h
   . rename_i aa a;cases h;exact aO.fp a
   . cases h
  |6,x,h=>by
   simp only[cU]at h;split at h
   . rename_i aa a;cases h;exact aO.fp a
   . cases h
  |7,x,h=>by
   simp only[cU]at h;split at h
   . rename_i aa a;cases h;exact aO.fp a
   . cases h
  |8,x,h=>by
   simp only[cU]at h;split at h
   . rename_i aa a;cases h;exact aO.fp a
   . cases h
  |9,x,h=>by
   simp only[cU]at h;split at h
   . rename_i aa a;cases h;exact aO.fp a
   . cases h
  |10,x,h=>by
   simp only[cU]at h;split at h
   . rename_i aa a;cases h;exact aO.fp a
   . cases h
  |11,x,h=>by
   simp only[cU]at h;split at h
   . rename_i aa a;cases h;exact aO.fp a
   . cases h
  |12,x,h=>by
   simp only[cU]at h;split at h
   . rename_i aa a;cases h;exact aO.fp a
   . cases h
  |13,x,h=>by
   simp only[cU]at h;split at h
   . rename_i aa a;cases h;exact aO.fp a
   . cases h
  |14,x,h=>by
   simp only[cU]at h;split at h
   . rename_i aa a;cases h;exact aO.fp a
   . cases h
  |15,x,h=>by
   simp only[cU]at h;split at h
   . rename_i aa a;cases h;exact aO.fp a
   . cases h
  |16,x,h=>by
   simp only[cU]at h;split at h
   . rename_i aa a;cases h;exact aO.fp a
   . cases h
  |17,x,h=>by
   simp only[cU]at h;split at h
   . rename_i aa a;cases h;exact aO.fp a
   . cases h
  |18,x,h=>by
   simp only[cU]at h;split at h
   . rename_i aa a;cases h;exact aO.fp a
   . cases h
  |19,x,h=>by
   simp only[cU]at h;split at h
   . rename_i aa a;cases h;exact aO.fp a
   . cases h
  |20,x,h=>by
   simp only[cU]at h;split at h
   . rename_i aa a;cases h;exact aO.fp a
   . cases h
  |21,x,h=>by
   simp only[cU]at h;split at h
   . rename_i aa a;cases h;exact aO.fp a
   . cases h
  |22,x,h=>by
   simp only[cU]at h;split at h
   . rename_i aa a;cases h;exact aO.fp a
   . cases h
  |_+23,x,h=>by
   simp only[cU]at h;split at h
   . rename_i aa a;cases h;exact aO.fp a
   . cases h
 S4:=λn x=>match n,x with
  |0,_=>rfl
  |1,_=>rfl
  |2,_=>rfl
  |3,_=>rfl
  |4,_=>rfl
  |5,_=>rfl
  |6,_=>rfl
  |7,_=>rfl
  |8,_=>rfl
  |9,_=>rfl
  |10,_=>rfl
  |11,_=>rfl
  |12,_=>rfl
  |13,_=>rfl
  |14,_=>rfl
  |15,_=>rfl
  |16,_=>rfl
  |17,_=>rfl
  |18,_=>rfl
  |19,_=>rfl
  |20,_=>rfl
  |21,_=>rfl
  |22,_=>rfl
  |_+23,_=>rfl
 S3:=λe=>match e with
  |3=>some (.int .i64)
  |5=>some (.int .u8)
  |9=>some .str
  |37=>some (.nm 13)
  |48=>some (.nm 10)
  |85=>some (.nm 9)
  |88=>some (.slice (.int .i64))
  |112=>some (.nm 7)
  |117=>some (.nm 11)
  |140=>some (.nm 5)
  |146=>some (.nm 8)
  |196=>some (.nm 16)
  |236=>some (.nm 14)
  |276=>some (.nm 17)
  |_=>none
 own:=[([false,false,true,true],2,.int .i64),([false,true,true,false],1,.int .i64),([false,false,true],2,.slice (.int .i64))]
 pos:=λn=>match n with
  |0=>by decide
  |1=>by decide
  |2=>by decide
  |3=>by decide
  |4=>by decide
  |5=>by decide
  |6=>by decide
  |7=>by decide
  |8=>by decide
  |9=>by decide
  |10=>by decide
  |11=>by decide
  |12=>by decide
  |13=>by decide
  |14=>by decide
  |15=>by decide
  |16=>by decide
  |17=>by decide
  |18=>by decide
  |19=>by decide
  |20=>by decide
  |21=>by decide
  |22=>by decide
  |_+23=>Nat.zero_lt_one
theorem aeH:cR.Total:=λn l h=>match n,h with
 |0,h=>by
  obtain⟨x,a⟩:=aO.gT (D:=dC) (ts:=dZ 0) h;exact⟨_,by show cU 0 l=_;simp only[cU,a];rfl⟩
 |1,h=>by
  obtain⟨x,a⟩:=aO.gT (D:=dC) (ts:=dZ 1) h;exact⟨_,by show cU 1 l=_;simp only[cU,a];rfl⟩
 |2,h=>by
  obtain⟨x,a⟩:=aO.gT (D:=dC) (ts:=dZ 2) h;exact⟨_,by show cU 2 l=_;simp only[cU,a];rfl⟩
 |3,h=>by
  obtain⟨x,a⟩:=aO.gT (D:=dC) (ts:=dZ 3) h;exact⟨_,by show cU 3 l=_;simp only[cU,a];rfl⟩
 |4,h=>by
  obtain⟨x,a⟩:=aO.gT (D:=dC) (ts:=dZ 4) h;exact⟨_,by show cU 4 l=_;simp only[cU,a];rfl⟩
 |5,h=>by
  obtain⟨x,a⟩:=aO.gT (D:=dC) (ts:=dZ 5) h;exact⟨_,by show cU 5 l=_;simp only[cU,a];rfl⟩
 |6,h=>by
  obtain⟨x,a⟩:=aO.gT (D:=dC) (ts:=dZ 6) h;exact⟨_,by show cU 6 l=_;simp only[cU,a];rfl⟩
 |7,h=>by
  obtain⟨x,a⟩:=aO.gT (D:=dC) (ts:=dZ 7) h;exact⟨_,by show cU 7 l=_;simp only[cU,a];rfl⟩
 |8,h=>by
  obtain⟨x,a⟩:=aO.gT (D:=dC) (ts:=dZ 8) h;exact⟨_,by show cU 8 l=_;simp only[cU,a];rfl⟩
 |9,h=>by
  obtain⟨x,a⟩:=aO.gT (D:=dC) (ts:=dZ 9) h;exact⟨_,by show cU 9 l=_;simp only[cU,a];rfl⟩
 |10,h=>by
  obtain⟨x,a⟩:=aO.gT (D:=dC) (ts:=dZ 10) h;exact⟨_,by show cU 10 l=_;simp only[cU,a];rfl⟩
 |11,h=>by
  obtain⟨x,a⟩:=aO.gT (D:=dC) (ts:=dZ 11) h;exact⟨_,by show cU 11 l=_;simp only[cU,a];rfl⟩
 |12,h=>by
  obtain⟨x,a⟩:=aO.gT (D:=dC) (ts:=dZ 12) h;exact⟨_,by show cU 12 l=_;simp only[cU,a];rfl⟩
 |13,h=>by
  obtain⟨x,a⟩:=aO.gT (D:=dC) (ts:=dZ 13) h;exact⟨_,by show cU 13 l=_;simp only[cU,a];rfl⟩
 |14,h=>by
  obtain⟨x,a⟩:=aO.gT (D:=dC) (ts:=dZ 14) h;exact⟨_,by show cU 14 l=_;simp only[cU,a];rfl⟩
 |15,h=>by
  obtain⟨x,a⟩:=aO.gT (D:=dC) (ts:=dZ 15) h;exact⟨_,by show cU 15 l=_;simp only[cU,a];rfl⟩
 |16,h=>by
  obtain⟨x,a⟩:=aO.gT (D:=dC) (ts:=dZ 16) h;exact⟨_,by show cU 16 l=_;simp only[cU,a];rfl⟩
 |17,h=>by
  obtain⟨x,a⟩:=aO.gT (D:=dC) (ts:=dZ 17) h;exact⟨_,by show cU 17 l=_;simp only[cU,a];rfl⟩
 |18,h=>by
  obtain⟨x,a⟩:=aO.gT (D:=dC) (ts:=dZ 18) h;exact⟨_,by show cU 18 l=_;simp only[cU,a];rfl⟩
 |19,h=>by
  obtain⟨x,a⟩:=aO.gT (D:=dC) (ts:=dZ 19) h;exact⟨_,by show cU 19 l=_;simp only[cU,a];rfl⟩
 |20,h=>by
  obtain⟨x,a⟩:=aO.gT (D:=dC) (ts:=dZ 20) h;exact⟨_,by show cU 20 l=_;simp only[cU,a];rfl⟩
 |21,h=>by
  obtain⟨x,a⟩:=aO.gT (D:=dC) (ts:=dZ 21) h;exact⟨_,by show cU 21 l=_;simp only[cU,a];rfl⟩
 |22,h=>by
  obtain⟨x,a⟩:=aO.gT (D:=dC) (ts:=dZ 22) h;exact⟨_,by show cU 22 l=_;simp only[cU,a];rfl⟩
 |m+23,h=>by
  obtain⟨x,a⟩:=aO.gT (D:=dC) (ts:=[.bool]) h;exact⟨x,by show cU (m+23) l=_;simp only[cU,a];rfl⟩
end
section
open Go Go.Proofs.YtdjagncoefjfeaaGreat.Shv
open Tryz
set_option maxRecDepth 100000
open Go.Proofs Go.Proofs.YtdjagncoefjfeaaGreat Go.Shelf
theorem Vq:hj prog 134=true:=by kernel_rfl
def pn:cD cR:=zQ cR 134 (.int .i64) 8
theorem VW:hB prog pn:=Ku (sz:=1) (bytes:=8) (z:=[.t (.int .i64 0)]) func134 (by kernel_rfl) (by kernel_rfl) (by kernel_rfl) rfl rfl
theorem n4:gO prog pn:=⟨Vq,VW⟩
theorem Wj:hj prog 179=true:=by kernel_rfl
def pq:cD cR:=wR cR 179 (.nm 10) 120
theorem Vv:hB prog pq:=ID (sz:=8) (bytes:=120) (z:=[.t (.int .i64 0),.t (.bool false),.t (.int .i64 0),.t (.str []),.t (.int .i64 0),.az,.az,.az]) func179 (by kernel_rfl) (by kernel_rfl) (by kernel_rfl) rfl rfl
theorem nC:gO prog pq:=⟨Wj,Vv⟩
theorem Wk:hj prog 245=true:=by kernel_rfl
def pr:cD cR:=wR cR 245 (.nm 11) 24
theorem Vw:hB prog pr:=ID (sz:=2) (bytes:=24) (z:=[.t (.int .i64 0),.t (.str [])]) func245 (by kernel_rfl) (by kernel_rfl) (by kernel_rfl) rfl rfl
theorem pt:gO prog pr:=⟨Wk,Vw⟩
instance:Inhabited gz:=⟨wj⟩
instance:Inhabited (cR.D 17):=⟨wj⟩
def lH(x y:gz):Bool:=decide (x.id<y.id)
def Gx(l:List gz):Option (List gz):=some (hS lH l)
section
open Go.Proofs Go.Proofs.YtdjagncoefjfeaaGreat Go.Sort Go.RowKit Go.Lib
theorem ahU(x:Int)(w:World):Calls prog 250 #[.int .i64 x] w λe w'=>e= .returned (.bool false)/\w'=w:=by
 go_enter func250,ntmps250
 go_wp2
 go_ret
 exact⟨by simp,rfl⟩
set_option maxHeartbeats 1000000 in
theorem ahT(x y:Int)(w:World):Calls prog 227 #[.int .i64 x,.int .i64 y] w λe w'=>e= .returned (.int .i64 (Lib.compareInt x y))/\w'=w:=by
 go_enter func227,ntmps227
 go_wp2_with (go_at_call 250;refine(ahU _ _).mono ?_;rintro e w' ⟨rfl,a⟩;rw[a])
 all_goals (go_ret;refine⟨?_,rfl⟩;unfold Lib.compareInt;(repeat' split)<;>first|rfl|(exfalso;omega))
def AX(x:gz):List Value:=[.int .i64 x.id,.string ⟨x.text.toArray⟩]
set_option maxHeartbeats 1000000 in
theorem ahS(x y:Int)(s t:ByteArray)(W:World):Calls prog 226 #[.agg #[.int .i64 x,.string s],.agg #[.int .i64 y,.string t]] W λe w'=>e= .returned (.int .i64 (Lib.compareInt x y))/\∃q c,w'=grow (W.drewN q) c:=by
 have a:=λb=>ahT x y b;generalize Lib.compareInt x y=r at a⊢
 go_enter func226,ntmps226
 go_wp2_with (go_at_call 227;refine(a _).mono ?_;rintro e w' ⟨rfl,rfl⟩)
 go_ret
 exact⟨rfl,0,_,by rw[alloc_eq_grow,alloc_eq_grow,grow_grow];rfl⟩
def Mq:Go.Shelf.Ren:=⟨λ|6=>225|15=>249|14=>248|28=>263|29=>264|20=>255|21=>256|22=>257|23=>258|24=>259|25=>260|26=>261|27=>262|46=>265|47=>266|48=>267|49=>268|50=>269|57=>270|n=>n,λ|22=>274|24=>276|25=>279|3=>3|39=>269|0=>0|53=>305|55=>114|4=>4|46=>299|45=>298|50=>118|5=>5|9=>9|66=>307|70=>311|76=>313|77=>314|n=>n,λ|n=>n⟩
theorem Sm:SlLaysF0.n6 prog Mq:={
 mixed:=by kernel_rfl
 f6:=⟨f225.name,by decide,func225.trans (ee some (by kernel_rfl))⟩
 f14:=⟨f248.name,by decide,func248.trans (ee some (by kernel_rfl))⟩
 f15:=func249.trans (ee some (by kernel_rfl))
 f20:=⟨f255.name,by decide,func255.trans (ee some (by kernel_rfl))⟩
 f21:=⟨f256.name,by decide,func256.trans (ee some (by kernel_rfl))⟩
 f22:=⟨f257.name,by decide,func257.trans (ee some (by kernel_rfl))⟩
 f23:=⟨f258.name,by decide,func258.trans (ee some (by kernel_rfl))⟩
 f24:=⟨f259.name,by decide,func259.trans (ee some (by kernel_rfl))⟩
 f25:=⟨f260.name,by decide,func260.trans (ee some (by kernel_rfl))⟩
 f26:=⟨f261.name,by decide,func261.trans (ee some (by kernel_rfl))⟩
 f27:=⟨f262.name,by decide,func262.trans (ee some (by kernel_rfl))⟩
 f28:=func263.trans (ee some (by kernel_rfl))
 f29:=func264.trans (ee some (by kernel_rfl))
 f46:=⟨f265.name,by decide,func265.trans (ee some (by kernel_rfl))⟩
 f47:=func266.trans (ee some (by kernel_rfl))
 f48:=func267.trans (ee some (by kernel_rfl))
 f49:=⟨f268.name,by decide,func268.trans (ee some (by kernel_rfl))⟩
 f50:=⟨f269.name,by decide,func269.trans (ee some (by kernel_rfl))⟩
 f57:=⟨f270.name,by decide,func270.trans (ee some (by kernel_rfl))⟩
 t0:=underlying0
 a0:=isAgg0
 z0:=sizeOf0
 v0:=zeroValue0
 t3:=underlying3
 a3:=isAgg3
 z3:=sizeOf3
 v3:=zeroValue3
 t4:=underlying4
 a4:=isAgg4
 z4:=sizeOf4
 v4:=zeroValue4
 t5:=underlying5
 a5:=isAgg5
 z5:=sizeOf5
 v5:=zeroValue5
 t9:=underlying9
 a9:=isAgg9
 z9:=sizeOf9
 v9:=zeroValue9
 t22:=underlying274
 a22:=isAgg274
 z22:=sizeOf274
 v22:=zeroValue274
 t25:=underlying279
 a25:=isAgg279
 z25:=sizeOf279
 v25:=zeroValue279
 t39:=underlying269
 a39:=isAgg269
 z39:=sizeOf269
 v39:=zeroValue269
 t45:=underlying298
 a45:=isAgg298
 z45:=sizeOf298
 v45:=zeroValue298
 t46:=underlying299
 a46:=isAgg299
 z46:=sizeOf299
 v46:=zeroValue299
 t50:=underlying118
 a50:=isAgg118
 z50:=sizeOf118
 v50:=zeroValue118
 t53:=underlying305
 a53:=isAgg305
 z53:=sizeOf305
 v53:=zeroValue305
 t55:=underlying114
 a55:=isAgg114
 z55:=sizeOf114
 v55:=zeroValue114
 t66:=underlying307
 a66:=isAgg307
 z66:=sizeOf307
 v66:=zeroValue307
 t70:=underlying311
 a70:=isAgg311
 z70:=sizeOf311
 v70:=zeroValue311
 t76:=underlying313
 a76:=isAgg313
 z76:=sizeOf313
 v76:=zeroValue313
 t77:=underlying314
 a77:=isAgg314
 z77:=sizeOf314
 v77:=zeroValue314}
theorem Lp:ltOf (λx y:gz=>Lib.compareInt x.id y.id)=lH:=by
 funext x y
 unfold ltOf lH Lib.compareInt;by_cases h1:x.id<y.id
 . simp[h1]
 . by_cases a:y.id<x.id<;>simp[h1,a]
theorem Gp:SWO lH:=acY (λx:gz=>x.id)
set_option maxHeartbeats 2000000 in
theorem ahW(p:Option Addr)(cap:Nat)(a:Value)(w:World):Calls prog 255 #[.slice p 0 cap,.int .i64 0,.int .i64 0,a] w λe w'=>e= .returned (.tuple #[])/\w'=w:=by
 go_enter func255,ntmps255
 go_wp2
 refine wp_loop_rounds 1 ?_;rw[rounds_succ]
 go_wp2
 go_end0
 exact⟨rfl,rfl⟩
set_option maxHeartbeats 2000000 in
theorem ahX(p:Option Addr)(cap:Nat)(c:Int)(a:Value)(w:World):Calls prog 248 #[.slice p 0 cap,.int .i64 0,.int .i64 0,.int .i64 c,a] w λe w'=>e= .returned (.tuple #[])/\w'=w:=by
 have b:=λW=>ahW p cap a W
 go_enter func248,ntmps248
 go_wp2
 refine wp_loop_rounds 1 ?_;rw[rounds_succ]
 go_wp2_with (go_at_call 255;refine(b _).mono ?_;rintro e w' ⟨rfl,rfl⟩)
 (try simp only[Exit.inBlock,Exit.then]);refine bodyPost_ret (results_none rfl _ _ _) rfl ?_
 exact⟨rfl,rfl⟩
set_option maxHeartbeats 2000000 in
theorem ahV(p:Option Addr)(cap:Nat)(a:Value)(w:World):Calls prog 225 #[.slice p 0 cap,a] w λe w'=>e= .returned (.tuple #[])/\w'=w:=by
 have b:=λc W=>ahX p cap c a W;have af:∀W,Calls prog 249 #[.int .u64 0] W λe w'=>e= .returned (.int .i64 (Lib.bitLen 0:Nat))/\w'=W:=λW=>by
  have h:=Any.bits_Len (SlLaysF0.n15.bits (P:=prog) (ρ:=Mq) {Sm with}) 0 W (by omega) (by omega);exact h
 go_enter func225,ntmps225
 go_wp2_with (first|(go_at_call 249;refine(af _).mono ?_;rintro e w' ⟨rfl,rfl⟩)|(go_at_call 248;refine(b _ _).mono ?_;rintro e w' ⟨rfl,rfl⟩))
 go_end0
 exact⟨rfl,rfl⟩
theorem ahY(blk off cap:Nat)(d:Array (cR.D 17))(w:World)(c:HoldsK AX 2 w blk off d)(f:blk<w.heap.size)(g:d.size<4611686018427387904):
 Calls prog 225 #[.slice (some ⟨blk,off,none⟩) d.size cap,.func (.func 226) #[] #[]] w λe w'=>e= .returned (.tuple #[])/\∃n os,w'=sortWorldK AX 2 w blk off n (pdq lH d 0 d.size (Lib.bitLen d.size) true true) os:=by
 have b:∀args w,(callFunc 226 args).run prog w= .ok (.enter 226 args) w:=enters_of func226 (by kernel_rfl) rfl;have h:=AnyQ.slices_SortFunc_eq (α:=gz) Sm 2 isAgg276 sizeOf276 AX (λ_=>rfl) (λx v a=>by simp[AX]at a;rcases a with rfl|rfl<;>rfl) (λx y=>Lib.compareInt x.id y.id) (by rw[Lp];exact Gp) 226 #[] blk off cap d w b (λ_ _ _ _ x y=>ahS x.id y.id _ _ _) c f g;rw[Lp]at h;exact h
theorem adU:hj prog 225=true:=by kernel_rfl
def GN:cD cR:=Gn cR 225 17 226 (hS (α:=cR.D 17) lH)
theorem XQ:hB prog GN:=acD (U:=cR) (n:=17) AX lH Gp (λ_=>rfl) (λw S x j t v h ag=>ZI w S x.id x.text j t v h ag) ahY ahV
end
theorem GO:gO prog GN:=⟨adU,XQ⟩
def Kx:Go.Shelf.Ren:=⟨λ|240=>229|276=>251|n=>n,λ|0=>0|4=>4|9=>9|20=>20|37=>25|70=>250|72=>252|164=>294|n=>n,λn=>n⟩
theorem ahj:Lays.n240 prog Kx:={
 mixed:=by kernel_rfl
 f240:=func229.trans (ee some (by kernel_rfl))
 f276:=func251.trans (ee some (by kernel_rfl))
 t0:=underlying0
 a0:=isAgg0
 z0:=sizeOf0
 v0:=zeroValue0
 t4:=underlying4
 a4:=isAgg4
 z4:=sizeOf4
 v4:=zeroValue4
 t9:=underlying9
 a9:=isAgg9
 z9:=sizeOf9
 v9:=zeroValue9
 t20:=underlying20
 a20:=isAgg20
 z20:=sizeOf20
 v20:=zeroValue20
 t70:=underlying250
 a70:=isAgg250
 z70:=sizeOf250
 v70:=zeroValue250
 t72:=underlying252
 a72:=isAgg252
 z72:=sizeOf252
 v72:=zeroValue252
 t164:=underlying294
 a164:=isAgg294
 z164:=sizeOf294
 v164:=zeroValue294}
theorem ahk:Builder.X72 prog Kx:={
 sizeBuilder:=by kernel_rfl
 liesBuilder:=by kernel_rfl}
theorem adV:hj prog 229=true:=by kernel_rfl
def p2:cD cR:=Eg cR 229 252 5
theorem Wg:hB prog p2:=aaj ahj ahk rfl rfl
theorem qV:gO prog p2:=⟨adV,Wg⟩
theorem Wl:hj prog 134=true:=by kernel_rfl
def pX:cD cR:=wR cR 134 (.int .i64) 8
theorem Vx:hB prog pX:=ID (sz:=1) (bytes:=8) (z:=[.t (.int .i64 0)]) func134 (by kernel_rfl) (by kernel_rfl) (by kernel_rfl) rfl rfl
theorem sW:gO prog pX:=⟨Wl,Vx⟩
theorem Wm:hj prog 30=true:=by kernel_rfl
def Th:cD cR:=zQ cR 30 .str 16
theorem Vy:hB prog Th:=Ku (sz:=1) (bytes:=16) (z:=[.t (.str [])]) func30 (by kernel_rfl) (by kernel_rfl) (by kernel_rfl) rfl rfl
theorem Wn:gO prog Th:=⟨Wm,Vy⟩
end
section
open Go Go.Proofs.YtdjagncoefjfeaaGreat.Shv
open Tryz
set_option maxRecDepth 100000
abbrev aZ(e:eA)(F:aO cR.D e.ts->Option (aO cR.D e.us)):Prop:=gO prog (e.s F)
abbrev cK(f kk:Nat)(p:a8)(e:gw)(F:aO cR.D e.ts->Option (eE cR e.outs)):Prop:=nq prog f kk p e F
abbrev Qj(e:eA):Prop:=iB prog e
abbrev d'(e:eA):aO cR.D e.ts->aO cR.D e.us->Prop:=Bc prog cR e
abbrev eC(f kk:Nat)(p:a8)(e:gw):aO cR.D e.ts->eE cR e.outs->Prop:=xp prog cR f kk p e
abbrev ec(e:eA)(F:aO cR.D e.ts->Option (aO cR.D e.us)):Prop:=∀h r,F h=some r->d' e h r
abbrev eD(f kk:Nat)(p:a8)(e:gw)(F:aO cR.D e.ts->Option (eE cR e.outs)):Prop:=∀h r,F h=some r->eC f kk p e h r
variable{fs:List (cD cR)}{p:a8}{gc:cY×cY×ak->Option (eR×Int)}{go:List cY->Option Int}
theorem eh{e:eA}{h:aO cR.D e.ts}{r:aO cR.D e.us}{x:Option (aO cR.D e.us)}(h0:x=some r)(b:jn prog fs:=by exact .n){a:List (Nat×hc cR)}(af:jE prog e.f e.st.length [] a:=by exact .n)(k:Qj e:=by exact .m (by kernel_rfl))(c:qs (hO fs) (kQ a) prog e h=x:=by kernel_rfl):d' e h r:= .at k b af (c.trans h0)
theorem eN(e:gw){f kk:Nat}{F:aO cR.D e.ts->Option (eE cR e.outs)}(bw:eD f kk p e F){h:aO cR.D e.ts}{o:eE cR e.outs}{x:Option (eE cR e.outs)}(h0:x=some o)(b:jn prog fs:=by exact .n){a:List (Nat×hc cR)}(af:jE prog f kk p a:=by exact .n)(c:rQ (hO fs) (kQ a) kk (qi prog f p) e F h=x:=by kernel_rfl):eC f kk p e h o:= .at bw b af (c.trans h0)
theorem cc(e:eA){F:aO cR.D e.ts->Option (aO cR.D e.us)}(h:ec e F)(k:Qj e:=by exact .m (by kernel_rfl)):aZ e F:= .of k h
theorem eO(e:gw){f kk:Nat}{F:aO cR.D e.ts->Option (eE cR e.outs)}(h:eD f kk p e F):cK f kk p e F:= .of h
def agn:=aW 68 [.row 3,aa ab] (aa ab)
def ago:=aW 69 [aa ab] (aa .bool)
def agp:=aW 70 [.row 4] (aa ab)
def agq:=aW 71 [.row 4] (aa ab)
def RW:=bL 0 [(1,au 0 0),(3,.c (.arr 1)),(4,aa ab)] [.bj 4,.arr ab] [bI (.exit 0) [(3,.c (.arr 0))] [.arr ab]] [] [(.slot 3,ab)]
def agr:=aW 72 [.row 4] (aa bK) [RW]
def afy:=aW 146 [aa ab] (aa .bool)
def Ps:=bL 0 [(3,au 0 0),(7,aa ab),(9,aa ab)] [b' (aA 4)] [eU 6 ab,gu 0]
def afg:=aW 109 [.row 3,aa ab,aa (.int .u8)] (aa ab) [Ps]
def afi:=aW 111 [aa ab] (aa .bool)
def RY:=bL 0 [(1,aa (.int .u8)),(2,au 0 0),(5,aa ab),(6,aa ab)] [b' (aA 4)] [eU 4 ab,gu 0]
def agt:=aW 74 [.row 3,aa (.int .u8)] (aa ab) [RY]
def afh:=aW 110 [.row 3,aa ab,aa (.int .u8)] (.aY [.row 10,aa .bool])
def Ox:=bL 0 [(1,aa ab),(2,aa .bool),(3,au 0 0),(7,au 1 0),(8,.c (.arr 2)),(9,aa ab),(10,aa ab)] [b' (aA 4),.bj 4,.arr (.nm 9)] [bI (.exit 2) [(1,aa ab),(2,aa .bool),(3,au 0 0),(7,au 1 0),(8,.c (.arr 2)),(9,aa ab)] [b' (aA 4),.bj 4,.arr (.nm 9)]]
def RX:=bL 0 [(1,aa ab),(2,aa .bool),(3,au 0 0),(7,au 1 0),(8,.c (.arr 2)),(9,aa ab)] [b' (aA 4),.bj 4,.arr (.nm 9)] [bI (.exit 0) [(8,.c (.arr 0))] [.arr (.nm 9)]] [Ox] [(.slot 8,.nm 9)]
def ags:=aW 73 [.row 3,aa ab,aa .bool] (aa (aA 9)) [RX]
def Oy:=bL 0 [(1,au 0 0),(2,au 1 0),(4,aa ab),(5,au 2 0),(6,aa ab),(8,au 3 0),(9,aa bK),(10,aa ab)] [b' (aA 4),.box [.az],.box [.arr 4],.box [.hole ab,.hole .str,.hole ab,.hole ab,.hole ab,.arr 5,.az,.hole ab,.hole ab,.hole .bool],.arr (.nm 7),.arr (.nm 8)] [bI (.exit 3) [(1,au 0 0),(2,au 1 0),(4,aa ab),(5,au 2 0),(6,aa ab),(8,au 3 0)] [b' (aA 4),.box [.az],.box [.arr 4],.box [.hole ab,.hole .str,.hole ab,.hole ab,.hole ab,.arr 5,.az,.hole ab,.hole ab,.hole .bool],.arr (.nm 7),.arr (.nm 8)]] [] [(.via 8 5,.nm 8)]
def RM:=bL 0 [(1,au 0 0),(2,au 1 0),(4,aa ab),(5,au 2 0),(6,aa ab)] [b' (aA 4),.box [.az],.box [.arr 3],.arr (.nm 7)] [bI (.exit 0) [(2,au 0 0),(5,au 1 0)] [.box [.az],.box [.arr 2],.arr (.nm 7)]] [Oy] [(.via 5 0,.nm 7)]
def af7:=aW 34 [.row 3] (.aY [.row 12,aa .bool]) [RM]
def afz:=aW 147 [au 0 0,aa ab] (aa ab) [] [.box [.hole (aA 7),.hole (.slice (.int .u8)),.hole .bool]] [.box [.hole (aA 7),.hole (.slice (.int .u8)),.hole .bool]]
def Pt:=bL 0 [(0,au 0 0),(5,aa .str),(6,aa ab)] [.box [.hole (aA 7),.hole (.slice (.int .u8)),.hole .bool]] [bI (.exit 0) [(5,aa .str)] [.box [.hole (aA 7),.hole (.slice (.int .u8)),.hole .bool]]]
def afA:=aW 148 [au 0 0,aa ab] (aa .str) [Pt] [.box [.hole (aA 7),.hole (.slice (.int .u8)),.hole .bool]] [.box [.hole (aA 7),.hole (.slice (.int .u8)),.hole .bool]]
def afB:=aW 149 [au 0 0] (aa .bool) [] [.box [.hole (aA 7),.hole (.slice (.int .u8)),.hole .bool]] [.box [.hole (aA 7),.hole (.slice (.int .u8)),.hole .bool]]
def RT:=bL 0 [(1,aa ab),(2,au 0 0),(6,aa ab)] [.bj 7] [bI .ret [(4,aa ab),(5,aa .bool)],gu 0]
def agh:=aW 53 [.row 7,aa ab] (.aY [aa ab,aa .bool]) [RT]
def R1:=bL 0 [(1,aa ab),(2,au 0 0),(6,aa ab)] [.bj 7] [bI .ret [(4,aa ab),(5,aa .bool)],gu 0]
def agA:=aW 82 [.row 7,aa ab] (.aY [aa ab,aa .bool]) [R1]
def afV:=aW 194 [.row 7,aa ab] (aa .bool)
def Pu:=bL 0 [(3,au 1 0),(5,aa ab)] [.box [.hole (aA 7),.hole (.slice (.int .u8)),.hole .bool],.bj 7] [bI (.exit 0) [(5,aa ab)] [.box [.hole (aA 7),.hole (.slice (.int .u8)),.hole .bool]]]
def afD:=aW 150 [au 0 0,.row 7] (aa ab) [Pu] [.box [.hole (aA 7),.hole (.slice (.int .u8)),.hole .bool]] [.box [.hole (aA 7),.hole (.slice (.int .u8)),.hole .bool]]
def afE:=aW 151 [au 0 0,aa ab] (.row 11) [] [.box [.hole (aA 7),.hole (.slice (.int .u8)),.hole .bool]] [.box [.hole (aA 7),.hole (.slice (.int .u8)),.hole .bool]]
def afR:=aW 163 [aa .bool,aa .bool] (aa ab)
def age:=aW 51 [aa ab] (aa (.int .u64))
def aft:=aW 128 [.row 10,.row 10] (aa ab)
def Pv:=bL 0 [(3,au 0 0),(4,au 1 0),(5,au 2 0),(6,au 3 0),(7,aa ab)] [.bj 10,.bj 10,.bj 10,.box [.hole ab,.hole .bool,.hole ab,.hole .str,.hole ab,.az,.az,.az]] [bI (.exit 0) [(3,au 0 0),(4,au 1 0),(5,au 2 0),(6,au 3 0),(7,aa ab)] [.bj 10,.bj 10,.bj 10,.box [.hole ab,.hole .bool,.hole ab,.hole .str,.hole ab,.az,.az,.az]]]
def afF:=aW 152 [.row 10,.row 10,.row 10] (.row 10) [Pv]
def AD:=bL 0 [(0,au 0 0),(4,au 1 0),(5,au 2 0),(6,au 3 0),(7,aa ab)] [.box [.hole (aA 7),.hole (.slice (.int .u8)),.hole .bool],.box [.hole ab,.hole .bool,.hole ab,.hole .str,.hole ab,.az,.az,.az],.box [.hole ab,.hole .str,.hole ab,.hole ab,.hole ab,.hole (aA 8),.hole (aA 9),.hole ab,.hole ab,.hole .bool],.box [.hole ab,.hole .bool,.hole ab,.hole .str,.hole ab,.az,.arr 4,.az],.arr (.nm 10)] [bI (.exit 1) [(0,au 0 0),(4,au 1 0),(5,au 2 0),(6,au 3 0)] [.box [.hole (aA 7),.hole (.slice (.int .u8)),.hole .bool],.box [.hole ab,.hole .bool,.hole ab,.hole .str,.hole ab,.az,.az,.az],.box [.hole ab,.hole .str,.hole ab,.hole ab,.hole ab,.hole (aA 8),.hole (aA 9),.hole ab,.hole ab,.hole .bool],.box [.hole ab,.hole .bool,.hole ab,.hole .str,.hole ab,.az,.arr 4,.az],.arr (.nm 10)]] [] [(.via 6 6,.nm 10)]
def AI:=bL 1 [(0,au 0 0),(4,au 1 0),(5,au 2 0),(6,au 3 0),(9,aa ab)] [.box [.hole (aA 7),.hole (.slice (.int .u8)),.hole .bool],.box [.hole ab,.hole .bool,.hole ab,.hole .str,.hole ab,.az,.az,.az],.box [.hole ab,.hole .str,.hole ab,.hole ab,.hole ab,.hole (aA 8),.hole (aA 9),.hole ab,.hole ab,.hole .bool],.box [.hole ab,.hole .bool,.hole ab,.hole .str,.hole ab,.az,.arr 4,.az],.arr (.nm 10)] [bI (.exit 3) [(4,au 1 0),(6,au 2 0)] [.box [.hole (aA 7),.hole (.slice (.int .u8)),.hole .bool],.box [.hole ab,.hole .bool,.hole ab,.hole .str,.hole ab,.az,.az,.az],.box [.hole ab,.hole .bool,.hole ab,.hole .str,.hole ab,.az,.arr 3,.az],.arr (.nm 10)]] [] [(.via 6 6,.nm 10)]
def AL:=bL 2 [(0,au 0 0),(4,au 1 0),(5,au 2 0),(6,au 3 0),(10,aa ab)] [.box [.hole (aA 7),.hole (.slice (.int .u8)),.hole .bool],.box [.hole ab,.hole .bool,.hole ab,.hole .str,.hole ab,.az,.az,.az],.box [.hole ab,.hole .str,.hole ab,.hole ab,.hole ab,.hole (aA 8),.hole (aA 9),.hole ab,.hole ab,.hole .bool],.box [.hole ab,.hole .bool,.hole ab,.hole .str,.hole ab,.hole (aA 10),.hole (aA 10),.hole (aA 11)]] [bI (.exit 5) [(4,au 1 0),(6,au 2 0)] [.box [.hole (aA 7),.hole (.slice (.int .u8)),.hole .bool],.box [.hole ab,.hole .bool,.hole ab,.hole .str,.hole ab,.az,.az,.az],.box [.hole ab,.hole .bool,.hole ab,.hole .str,.hole ab,.hole (aA 10),.hole (aA 10),.hole (aA 11)]]]
def sG:=aW 112 [au 0 0,aa ab] (.row 10) [AD,AI,AL] [.box [.hole (aA 7),.hole (.slice (.int .u8)),.hole .bool]] [.box [.hole (aA 7),.hole (.slice (.int .u8)),.hole .bool]]
def agv:=aW 76 [.row 12,aa ab,aa (.slice (.int .u8))] (.row 10)
def agw:=aW 77 [.row 12,aa ab,aa (.slice (.int .u8))] (.row 10)
def af8:=aW 38 [.row 2] (.aY [.row 12,aa ab,.row 10,.row 10,aa .bool])
def RL:=bL 0 [(1,aa (aA 6)),(4,au 0 0),(5,au 1 0),(6,aa ab)] [.box [.az],.box [.arr 2],.arr (.nm 4)] [bI (.exit 0) [(4,au 0 0),(5,au 1 0)] [.box [.az],.box [.arr 2],.arr (.nm 4)]]
def af6:=aW 33 [.row 3,aa (aA 6)] (.row 3) [RL]
def RZ:=bL 0 [(1,aa ab),(2,au 0 0),(5,aa ab)] [.bj 10] [bI (.exit 0) [(1,aa ab),(2,au 0 0)] [.bj 10]]
def xO:=bL 1 [(1,aa ab),(2,au 0 0),(6,aa ab)] [.bj 10] [bI (.exit 2) [(1,aa ab),(2,au 0 0)] [.bj 10]]
def xP:=bL 2 [(1,aa ab),(2,au 0 0),(7,aa ab)] [.bj 10] [bI (.exit 4) [(1,aa ab)]]
def xN:=aW 78 [.row 10,aa ab] (aa ab) [RZ,xO,xP]
def af9:=aW 39 [.row 10] (aa .bool)
def afx:=aW 14 [.row 1] (.aY [.row 12,.row 12,aa ab,.row 10,aa .bool])
def RR:=bL 0 [(0,aa (.int .u64)),(3,aa .str)] [] [bI (.exit 0) [(3,aa .str)]]
def agd:=aW 50 [aa (.int .u64)] (aa .str) [RR]
def RS:=bL 0 [(0,aa (.int .u64)),(3,.c (.arr 0))] [.arr (.int .u8)] [bI (.exit 0) [(0,aa (.int .u64)),(3,.c (.arr 0))] [.arr (.int .u8)]] [] [(.slot 3,.int .u8)]
def agf:=aW 52 [aa (.int .u64)] (aa .str) [RS]
def agi:=aW 54 [aa .str] (aa .str)
def xR:=bL 0 [(0,aa (aA 10)),(1,aa (aA 10)),(5,aa ab)] [] [eU 4 .bool,gu 0]
def Fu:=aW 89 [aa (aA 10),aa (aA 10)] (aa .bool) [xR]
def RQ:=bL 0 [(2,au 0 0),(3,au 1 0),(5,aa ab)] [.bj 10,.bj 10] [eU 4 .bool,bI (.exit 0) [(2,au 0 0),(3,au 1 0)] [.bj 10,.bj 10]]
def BH:=aW 49 [.row 10,.row 10] (aa .bool) [RQ]
def agj:=aW 55 [aa ab,aa .bool,aa .str] (aa .str)
def Oz:=bL 0 [(3,au 0 0),(5,au 1 0),(7,au 2 0),(14,aa .str),(15,aa ab),(19,aa ab)] [b' (aA 7),.bj 10,.bj 7] [bI (.exit 7) [(3,au 0 0),(5,au 1 0),(7,au 2 0),(14,aa .str),(15,aa ab)] [b' (aA 7),.bj 10,.bj 7]]
def xE:=bL 0 [(3,au 0 0),(5,au 1 0),(7,au 2 0),(10,aa .str),(11,aa ab)] [b' (aA 7),.bj 10,.bj 7] [bI (.exit 1) [(10,aa .str)]]
def xF:=bL 1 [(3,au 0 0),(5,au 1 0),(7,au 2 0),(12,aa .str),(13,aa ab)] [b' (aA 7),.bj 10,.bj 7] [bI (.exit 3) [(12,aa .str)]]
def xG:=bL 2 [(3,au 0 0),(5,au 1 0),(7,au 2 0),(14,aa .str),(15,aa ab)] [b' (aA 7),.bj 10,.bj 7] [bI (.exit 5) [(14,aa .str)]] [Oz]
def sJ:=aW 19 [.row 12,aa ab,.row 10] (aa .str) [xE,xF,xG]
def Bq:=aW 10 [.row 0] (.aY [.row 13,.row 13,aa .str,aa .bool])
def RN:=aW 40 [aa ab] (.row 9)
def RO:=aW 41 [aa (aA 9)] (.row 13)
def Pw:=bL 0 [(0,aa (aA 8)),(1,aa (aA 8)),(12,aa ab),(13,aa ab)] [] [eU 4 .bool,gu 0]
def Ru:=aW 239 [aa (aA 8),aa (aA 8)] (aa .bool) [Pw]
def Px:=bL 0 [(0,aa (aA 11)),(1,aa (aA 11)),(12,aa ab),(13,aa ab)] [] [eU 4 .bool,gu 0]
def QB:=aW 103 [aa (aA 11),aa (aA 11)] (aa .bool) [Px]
def zt:=bL 0 [(1,aa (aA 10)),(2,.c (.fn 242 [])),(15,aa (aA 10)),(16,aa ab),(17,aa ab)] [] [eU 6 .bool,gu 0]
def Eh:=aW 104 [aa (aA 10),aa (aA 10),.c (.fn 242 [])] (aa .bool) [zt]
def xH:=aW 242 [.row 10,.row 10] (aa .bool)
def Rx:=aW 241 [.row 9,.row 9] (aa .bool)
def Py:=bL 0 [(1,aa (aA 9)),(2,.c (.fn 241 [])),(15,aa (aA 9)),(16,aa ab),(17,aa ab)] [] [eU 6 .bool,gu 0]
def Rw:=aW 240 [aa (aA 9),aa (aA 9),.c (.fn 241 [])] (aa .bool) [Py]
def Q9:=aW 211 [.row 7,.row 7] (aa .bool)
def Rq:=aW 235 [aa (.int .u8)] (aa .bool)
def Rr:=aW 236 [aa (.int .u8)] (aa .bool)
def Pz:=bL 0 [(0,aa .str),(18,aa ab),(19,aa ab)] [] [eU 2 .bool,gu 0]
def Q6:=aW 208 [aa .str] (aa .bool) [Pz]
def PA:=bL 0 [(0,aa bK),(1,aa g'),(5,.c (.mp 0)),(9,aa bK),(10,aa ab),(11,aa ab)] [.set] [eU 4 .bool,bI (.exit 0) [(0,aa bK)]]
def Rs:=aW 237 [aa bK,aa g'] (aa .bool) [PA]
def PB:=bL 0 [(0,aa (aA 8)),(3,.c (.arr 0)),(4,.c (.arr 1)),(7,aa (aA 8)),(8,aa ab),(9,aa ab)] [.arr ab,.arr .str] [bI (.exit 0) [(0,aa (aA 8)),(3,.c (.arr 0)),(4,.c (.arr 1))] [.arr ab,.arr .str]] [] [(.slot 3,ab),(.slot 4,.str)]
def Q7:=aW 209 [aa (aA 8)] (aa .bool) [PB]
def Rt:=aW 238 [.row 10] (aa .bool)
def PC:=bL 0 [(1,au 0 0),(3,.c (.arr 1)),(4,.c (.arr 2)),(8,aa (aA 9)),(9,aa ab),(10,aa ab)] [.bj 7,.arr ab,.arr .str] [eU 2 .bool,bI (.exit 0) [(1,au 0 0),(3,.c (.arr 1)),(4,.c (.arr 2))] [.bj 7,.arr ab,.arr .str]] [] [(.slot 3,ab),(.slot 4,.str)]
def Q8:=aW 210 [.row 7] (aa .bool) [PC]
def QN:=aW 169 [.row 7] (aa .bool)
def PD:=bL 0 [(1,au 0 0),(3,.c (.arr 1)),(7,aa (aA 9)),(8,aa ab),(9,aa ab)] [.bj 7,.arr ab] [bI (.exit 0) [(1,au 0 0),(3,.c (.arr 1))] [.bj 7,.arr ab]] [] [(.slot 3,ab)]
def QO:=aW 170 [.row 7] (aa bK) [PD]
def Mr:=bL 0 [(1,au 0 0),(3,.c (.mp 1)),(5,au 2 0),(14,aa (aA 7)),(15,aa ab),(16,aa ab),(38,aa bK),(39,aa ab),(40,aa ab)] [b' (aA 7),.set,.box [.hole ab,.hole .str,.hole ab,.hole ab,.hole ab,.hole (aA 8),.hole (aA 9),.hole ab,.hole ab,.hole .bool]] [eU 2 ab,bI (.exit 2) [(1,au 0 0),(3,.c (.mp 1)),(5,au 2 0),(14,aa (aA 7)),(15,aa ab),(16,aa ab)] [b' (aA 7),.set,.box [.hole ab,.hole .str,.hole ab,.hole ab,.hole ab,.hole (aA 8),.hole (aA 9),.hole ab,.hole ab,.hole .bool]]]
def PE:=bL 0 [(1,au 0 0),(3,.c (.mp 1)),(14,aa (aA 7)),(15,aa ab),(16,aa ab)] [b' (aA 7),.set] [eU 2 ab,gu 0] [Mr]
def Bu:=aW 139 [.row 12] (aa ab) [PE]
def Fe:=aW 105 [.row 13] (aa ab)
def Fp:=bL 0 [(6,aa (aA 13)),(7,aa ab),(8,aa ab)] [] [eU 2 ab,gu 0]
def Fo:=aW 65 [aa (aA 13)] (aa ab) [Fp]
def QP:=aW 171 [au 0 0,aa ab] (.aY [.row 10,aa .bool]) [] [.box [.hole (aA 7),.arr 1,.hole bK,.hole ab],.arr ab] [.box [.hole (aA 7),.arr 2,.arr 3,.hole ab],.gone,.arr ab,.arr ab]
def PF:=bL 0 [(0,aa .str),(4,aa (.int .u64)),(17,aa ab),(18,aa ab)] [] [bI (.exit 0) [(4,aa (.int .u64))]]
def QQ:=aW 172 [aa .str] (.aY [aa (.int .u64),aa ab]) [PF]
def QR:=aW 173 [aa (.int .u64)] (aa ab)
def Q5:=aW 206 [.row 8,au 0 0] (aa .bool) [] [b' ab] [b' ab]
def OW:=bL 0 [(0,aa (aA 8)),(1,.c (.fn 206 [0])),(7,aa ab),(8,aa ab)] [b' ab] [bI .ret [(4,aa ab)] [b' ab],bI (.exit 0) [] [b' ab]]
def Q4:=aW 205 [aa (aA 8),.c (.fn 206 [0])] (aa ab) [OW] [b' ab] [b' ab]
def QL:=aW 165 [.row 7,aa ab] (.aY [aa ab,aa .bool])
def oY:=aW 174 [au 0 0,aa ab,aa ab,aa .str] (.aY [.row 10,aa .bool]) [] [.box [.hole (aA 7),.arr 1,.hole bK,.hole ab],.arr ab] [.box [.hole (aA 7),.arr 2,.hole bK,.hole ab],.gone,.arr ab]
def OX:=bL 0 [(0,aa .str),(5,aa (.int .u64)),(10,aa ab),(11,aa ab)] [] [bI .ret [(2,aa (.int .u64)),(3,aa ab),(4,aa ab)],gu 0]
def RF:=aW 254 [aa .str] (.aY [aa (.int .u64),aa ab,aa ab]) [OX]
def Ry:=aW 243 [aa .str] (.aY [aa (.int .u64),aa .str,aa .bool])
def Q':=aW 212 [aa .str] (.aY [aa ab,aa .str,aa ab])
def QI:=aW 138 [.row 9,au 0 0] (aa .bool) [] [b' ab] [b' ab]
def OY:=bL 0 [(0,aa (aA 9)),(1,.c (.fn 138 [0])),(7,aa ab),(8,aa ab)] [b' ab] [bI .ret [(4,aa ab)] [b' ab],bI (.exit 0) [] [b' ab]]
def QH:=aW 137 [aa (aA 9),.c (.fn 138 [0])] (aa ab) [OY] [b' ab] [b' ab]
def R6:=aW 98 [.row 7,aa ab] (.aY [aa ab,aa .bool])
def Bv:=aW 175 [au 0 0,.row 7,aa .str] (.aY [.row 10,aa .bool]) [] [.box [.hole (aA 7),.arr 1,.hole bK,.hole ab],.arr ab] [.box [.hole (aA 7),.arr 2,.hole bK,.hole ab],.gone,.arr ab]
def Rz:=aW 244 [aa .str] (.aY [aa .str,aa .str,aa .bool])
def OZ:=bL 0 [(4,.c (.arr 0)),(5,aa .str)] [.arr .str] [bI .ret [(2,.c (.az)),(3,aa ab)],bI (.exit 0) [(4,.c (.arr 0))] [.arr .str]] [] [(.slot 4,.str)]
def Ra:=aW 213 [aa .str] (.aY [aa g',aa ab]) [OZ]
def AM:=bL 0 [(0,au 0 0),(4,au 2 0),(6,au 3 0),(10,au 4 0),(38,aa g'),(39,aa ab),(40,aa ab)] [.box [.hole (aA 7),.arr 5,.hole bK,.hole ab],.gone,.bj 7,.box [.hole ab,.hole .bool,.hole ab,.hole .str,.hole ab,.az,.az,.az],.box [.hole ab,.hole .bool,.hole ab,.hole .str,.hole ab,.az,.arr 6,.az],.arr ab,.arr (.nm 10)] [bI .ret [(6,au 2 0),(7,aa .bool)] [.box [.hole (aA 7),.arr 3,.hole bK,.hole ab],.gone,.bj 10,.arr ab],bI (.exit 0) [(6,au 2 0),(10,au 3 0)] [.box [.hole (aA 7),.arr 4,.hole bK,.hole ab],.gone,.box [.hole ab,.hole .bool,.hole ab,.hole .str,.hole ab,.az,.az,.az],.box [.hole ab,.hole .bool,.hole ab,.hole .str,.hole ab,.az,.arr 5,.az],.arr ab,.arr (.nm 10)]] [] [(.via 10 6,.nm 10)]
def Bw:=aW 176 [au 0 0,.row 7,aa .str] (.aY [.row 10,aa .bool]) [AM] [.box [.hole (aA 7),.arr 1,.hole bK,.hole ab],.arr ab] [.box [.hole (aA 7),.arr 2,.hole bK,.hole ab],.gone,.arr ab]
def QX:=aW 188 [aa ab] (aa (.int .u64))
def RD:=aW 252 [aa (.int .u64)] (aa .bool)
def Rn:=aW 232 [aa (.int .u64),aa (.int .u64)] (aa ab)
def RC:=aW 250 [aa ab] (aa .bool)
def Rk:=aW 227 [aa ab,aa ab] (aa ab)
def RE:=aW 253 [aa .str] (aa .bool)
def Rp:=aW 234 [aa .str,aa .str] (aa ab)
def O0:=bL 0 [(3,aa ab),(6,aa bK),(7,aa ab),(8,aa ab)] [] [eU 2 ab,bI (.exit 0) [(3,aa ab)]]
def Ro:=aW 233 [aa bK] (aa ab) [O0]
def Q3:=aW 204 [.row 10,.row 10] (aa ab)
def AN:=bL 0 [(0,au 0 0),(4,au 2 0),(6,au 3 0),(8,aa g'),(10,au 4 0),(11,aa ab)] [.box [.hole (aA 7),.arr 5,.hole bK,.hole ab],.gone,.bj 7,.box [.hole ab,.hole .bool,.hole ab,.hole .str,.hole ab,.az,.az,.az],.box [.hole ab,.hole .bool,.hole ab,.hole .str,.hole ab,.arr 6,.az,.az],.arr ab,.arr (.nm 10)] [bI .ret [(6,au 2 0),(7,aa .bool)] [.box [.hole (aA 7),.arr 3,.hole bK,.hole ab],.gone,.bj 10,.arr ab],bI (.exit 0) [(0,au 0 0),(4,au 2 0),(6,au 3 0),(8,aa g'),(10,au 4 0)] [.box [.hole (aA 7),.arr 5,.hole bK,.hole ab],.gone,.bj 7,.box [.hole ab,.hole .bool,.hole ab,.hole .str,.hole ab,.az,.az,.az],.box [.hole ab,.hole .bool,.hole ab,.hole .str,.hole ab,.arr 6,.az,.az],.arr ab,.arr (.nm 10)]] [] [(.via 10 5,.nm 10)]
def O1:=bL 1 [(0,au 0 0),(4,au 2 0),(6,au 3 0),(8,aa g'),(10,au 4 0),(14,aa ab)] [.box [.hole (aA 7),.arr 5,.hole bK,.hole ab],.gone,.bj 7,.box [.hole ab,.hole .bool,.hole ab,.hole .str,.hole ab,.az,.az,.az],.box [.hole ab,.hole .bool,.hole ab,.hole .str,.hole ab,.arr 6,.az,.az],.arr ab,.arr (.nm 10)] [bI .ret [(6,au 2 0),(7,aa .bool)] [.box [.hole (aA 7),.arr 3,.arr 4,.hole ab],.gone,.bj 10,.arr ab,.arr ab],bI (.exit 2) [(0,au 0 0),(4,au 2 0),(6,au 3 0),(8,aa g'),(10,au 4 0)] [.box [.hole (aA 7),.arr 5,.hole bK,.hole ab],.gone,.bj 7,.box [.hole ab,.hole .bool,.hole ab,.hole .str,.hole ab,.az,.az,.az],.box [.hole ab,.hole .bool,.hole ab,.hole .str,.hole ab,.arr 6,.az,.az],.arr ab,.arr (.nm 10)]]
def AO:=bL 2 [(0,au 0 0),(4,au 2 0),(6,au 3 0),(8,aa g'),(10,au 4 0),(15,aa ab)] [.box [.hole (aA 7),.arr 5,.hole bK,.hole ab],.gone,.bj 7,.box [.hole ab,.hole .bool,.hole ab,.hole .str,.hole ab,.az,.az,.az],.box [.hole ab,.hole .bool,.hole ab,.hole .str,.hole ab,.arr 6,.arr 7,.az],.arr ab,.arr (.nm 10),.arr (.nm 10)] [bI .ret [(6,au 2 0),(7,aa .bool)] [.box [.hole (aA 7),.arr 3,.hole bK,.hole ab],.gone,.bj 10,.arr ab],bI (.exit 4) [(6,au 2 0),(10,au 3 0)] [.box [.hole (aA 7),.arr 4,.hole bK,.hole ab],.gone,.box [.hole ab,.hole .bool,.hole ab,.hole .str,.hole ab,.az,.az,.az],.box [.hole ab,.hole .bool,.hole ab,.hole .str,.hole ab,.arr 5,.arr 6,.az],.arr ab,.arr (.nm 10),.arr (.nm 10)]] [] [(.via 10 6,.nm 10)]
def Bx:=aW 177 [au 0 0,.row 7,aa .str] (.aY [.row 10,aa .bool]) [AN,O1,AO] [.box [.hole (aA 7),.arr 1,.hole bK,.hole ab],.arr ab] [.box [.hole (aA 7),.arr 2,.hole bK,.hole ab],.gone,.arr ab]
def O2:=bL 0 [(4,.c (.arr 0)),(5,aa (.int .u64)),(6,aa .str)] [.arr (.nm 14)] [bI .ret [(2,.c (.az)),(3,aa ab)],bI (.exit 0) [(4,.c (.arr 0))] [.arr (.nm 14)]] [] [(.slot 4,.nm 14)]
def Rb:=aW 214 [aa .str] (.aY [aa (aA 14),aa ab]) [O2]
def Re:=aW 216 [.row 14,au 0 0] (aa .bool) [] [.bj 9] [.bj 9]
def O3:=bL 0 [(0,aa (aA 14)),(1,.c (.fn 216 [0])),(7,aa ab),(8,aa ab)] [.bj 9] [bI .ret [(4,aa ab)] [.bj 9],bI (.exit 0) [] [.bj 9]]
def Rc:=aW 215 [aa (aA 14),.c (.fn 216 [0])] (aa ab) [O3] [.bj 9] [.bj 9]
def AP:=bL 0 [(1,au 0 0),(2,au 1 0),(20,.c (.arr 2)),(21,aa ab),(22,aa ab)] [.box [.hole ab,.hole .bool,.hole ab,.hole .str,.hole ab,.arr 2,.arr 3,.arr 4],.box [.hole ab,.hole .bool,.hole ab,.hole .str,.hole ab,.az,.az,.az],.arr (.nm 10),.arr (.nm 10),.arr (.nm 11)] [bI (.exit 0) [(1,au 0 0),(2,au 1 0)] [.box [.hole ab,.hole .bool,.hole ab,.hole .str,.hole ab,.arr 2,.arr 3,.arr 4],.box [.hole ab,.hole .bool,.hole ab,.hole .str,.hole ab,.az,.az,.az],.arr (.nm 10),.arr (.nm 10),.arr (.nm 11)]]
def AR:=bL 1 [(1,au 0 0),(2,au 1 0),(35,.c (.arr 2)),(36,aa ab),(37,aa ab)] [.box [.hole ab,.hole .bool,.hole ab,.hole .str,.hole ab,.arr 3,.arr 2,.arr 4],.box [.hole ab,.hole .bool,.hole ab,.hole .str,.hole ab,.az,.az,.az],.arr (.nm 10),.arr (.nm 10),.arr (.nm 11)] [bI (.exit 2) [(1,au 0 0),(2,au 1 0)] [.box [.hole ab,.hole .bool,.hole ab,.hole .str,.hole ab,.arr 2,.arr 3,.arr 4],.box [.hole ab,.hole .bool,.hole ab,.hole .str,.hole ab,.az,.az,.az],.arr (.nm 10),.arr (.nm 10),.arr (.nm 11)]]
def u4:=aW 217 [.row 10] (.row 10) [AP,AR]
def AS:=bL 0 [(0,au 0 0),(4,au 2 0),(6,au 3 0),(8,aa (aA 14)),(10,au 4 0),(39,aa (aA 9)),(40,aa ab),(41,aa ab)] [.box [.hole (aA 7),.arr 5,.hole bK,.hole ab],.gone,.bj 7,.box [.hole ab,.hole .bool,.hole ab,.hole .str,.hole ab,.az,.az,.az],.box [.hole ab,.hole .bool,.hole ab,.hole .str,.hole ab,.az,.arr 6,.az],.arr ab,.arr (.nm 10)] [bI .ret [(6,au 2 0),(7,aa .bool)] [.box [.hole (aA 7),.arr 3,.hole bK,.hole ab],.gone,.bj 10,.arr ab],bI (.exit 0) [(0,au 0 0),(4,au 2 0),(6,au 3 0),(8,aa (aA 14)),(10,au 4 0)] [.box [.hole (aA 7),.arr 5,.hole bK,.hole ab],.gone,.bj 7,.box [.hole ab,.hole .bool,.hole ab,.hole .str,.hole ab,.az,.az,.az],.box [.hole ab,.hole .bool,.hole ab,.hole .str,.hole ab,.az,.arr 6,.az],.arr ab,.arr (.nm 10)]] [] [(.via 10 6,.nm 10)]
def O4:=bL 1 [(0,au 0 0),(4,au 2 0),(6,au 3 0),(10,au 4 0),(117,aa (aA 14)),(118,aa ab),(119,aa ab)] [.box [.hole (aA 7),.arr 5,.hole bK,.hole ab],.gone,.bj 7,.box [.hole ab,.hole .bool,.hole ab,.hole .str,.hole ab,.az,.az,.az],.box [.hole ab,.hole .bool,.hole ab,.hole .str,.hole ab,.az,.arr 6,.arr 7],.arr ab,.arr (.nm 10),.arr (.nm 11)] [bI .ret [(6,au 2 0),(7,aa .bool)] [.box [.hole (aA 7),.arr 3,.arr 4,.hole ab],.gone,.bj 10,.arr ab,.arr ab],bI (.exit 3) [(6,au 2 0),(10,au 3 0)] [.box [.hole (aA 7),.arr 4,.hole bK,.hole ab],.gone,.box [.hole ab,.hole .bool,.hole ab,.hole .str,.hole ab,.az,.az,.az],.box [.hole ab,.hole .bool,.hole ab,.hole .str,.hole ab,.az,.arr 5,.arr 6],.arr ab,.arr (.nm 10),.arr (.nm 11)]] [] [(.via 10 7,.nm 11)]
def By:=aW 178 [au 0 0,.row 7,aa .str] (.aY [.row 10,aa .bool]) [AS,O4] [.box [.hole (aA 7),.arr 1,.hole bK,.hole ab],.arr ab] [.box [.hole (aA 7),.arr 2,.hole bK,.hole ab],.gone,.arr ab]
def xB:=aW 140 [au 0 0,aa ab,aa .str] (.aY [.row 10,aa .bool]) [] [.box [.hole (aA 7),.arr 1,.hole bK,.hole ab],.arr ab] [.box [.hole (aA 7),.arr 2,.hole bK,.hole ab],.gone,.arr ab]
def QA:=aW 102 [.row 12,aa ab,aa .str] (.aY [.row 10,.row 15,aa ab])
def BJ:=aW 63 [.row 12,aa ab,aa .str] (.aY [.row 10,aa ab])
def QC:=aW 129 [.row 12,aa ab] (aa ab)
def Rm:=aW 230 [.row 10] (.row 10)
def Q1:=aW 201 [.row 10] (aa .bool)
def Q2:=aW 202 [aa ab] (aa .bool)
def BF:=aW 231 [.row 10,au 0 0,au 1 0,au 2 0] (aa .bool) [] [b' (aA 7),b' ab,b' .bool] [b' (aA 7),b' ab,b' .bool]
def zu:=bL 0 [(0,aa (aA 10)),(1,.c (.fn 231 [0,1,2])),(7,aa ab),(8,aa ab)] [b' (aA 7),b' ab,b' .bool] [bI .ret [(4,aa ab)] [b' (aA 7),b' ab,b' .bool],bI (.exit 0) [] [b' (aA 7),b' ab,b' .bool]]
def Ei:=aW 207 [aa (aA 10),.c (.fn 231 [0,1,2])] (aa ab) [zu] [b' (aA 7),b' ab,b' .bool] [b' (aA 7),b' ab,b' .bool]
def Ej:=aW 166 [aa (aA 10),.c (.fn 231 [0,1,2])] (aa .bool) [] [b' (aA 7),b' ab,b' .bool] [b' (aA 7),b' ab,b' .bool]
def BE:=aW 203 [.row 12,aa ab,aa (aA 10),aa .bool] (aa .bool)
def O5:=bL 0 [(3,aa .bool),(4,au 0 0),(6,au 1 0),(9,au 2 0),(111,aa (aA 11)),(112,aa ab),(113,aa ab)] [b' (aA 7),.bj 10,.box [.hole ab,.hole .str,.hole ab,.hole ab,.hole ab,.hole (aA 8),.hole (aA 9),.hole ab,.hole ab,.hole .bool]] [eU 8 .bool,bI (.exit 1) [(3,aa .bool),(4,au 0 0),(6,au 1 0),(9,au 2 0)] [b' (aA 7),.box [.hole ab,.hole .bool,.hole ab,.hole .str,.hole ab,.hole (aA 10),.hole (aA 10),.hole (aA 11)],.box [.hole ab,.hole .str,.hole ab,.hole ab,.hole ab,.hole (aA 8),.hole (aA 9),.hole ab,.hole ab,.hole .bool]]]
def AT:=bL 1 [(3,aa .bool),(4,au 0 0),(6,au 1 0),(150,aa (aA 9)),(151,aa ab),(152,aa ab)] [b' (aA 7),.box [.hole ab,.hole .bool,.hole ab,.hole .str,.hole ab,.hole (aA 10),.hole (aA 10),.hole (aA 11)]] [eU 8 .bool,gu 3]
def O6:=bL 2 [(3,aa .bool),(4,au 0 0),(6,au 1 0),(9,au 2 0),(20,aa ab)] [b' (aA 7),.bj 10,.box [.hole ab,.hole .str,.hole ab,.hole ab,.hole ab,.hole (aA 8),.hole (aA 9),.hole ab,.hole ab,.hole .bool]] [eU 8 .bool,bI (.exit 5) [(3,aa .bool),(4,au 0 0),(6,au 1 0),(9,au 2 0)] [b' (aA 7),.bj 10,.box [.hole ab,.hole .str,.hole ab,.hole ab,.hole ab,.hole (aA 8),.hole (aA 9),.hole ab,.hole ab,.hole .bool]]]
def sI:=aW 164 [.row 12,aa ab,.row 10,aa .bool] (aa .bool) [O5,AT,O6]
def QD:=aW 130 [.row 12,aa ab,.row 10] (aa .bool)
def R5:=aW 92 [.row 12,aa ab,.row 10] (aa ab)
def QE:=aW 131 [.row 7,.row 10] (aa .bool)
def QM:=aW 167 [.row 10,au 0 0,au 1 0] (aa .bool) [] [b' (aA 7),.bj 7] [b' (aA 7),.bj 7]
def Mt:=bL 0 [(0,aa (aA 10)),(1,.c (.fn 167 [0,1])),(7,aa ab),(8,aa ab)] [b' (aA 7),.bj 7] [bI .ret [(4,aa ab)] [b' (aA 7),.bj 7],bI (.exit 0) [] [b' (aA 7),.bj 7]]
def O7:=aW 207 [aa (aA 10),.c (.fn 167 [0,1])] (aa ab) [Mt] [b' (aA 7),.bj 7] [b' (aA 7),.bj 7]
def O8:=aW 166 [aa (aA 10),.c (.fn 167 [0,1])] (aa .bool) [] [b' (aA 7),.bj 7] [b' (aA 7),.bj 7]
def QF:=aW 132 [.row 12,.row 7,.row 10] (aa .bool)
def O9:=bL 0 [(2,au 0 0),(3,au 1 0),(5,.c (.arr 2)),(11,aa ab),(12,aa ab)] [.bj 7,.bj 10,.arr (.nm 16)] [bI (.exit 0) [(5,.c (.arr 0))] [.arr (.nm 16)]] [] [(.slot 5,.nm 16)]
def QG:=aW 133 [.row 7,.row 10] (aa (aA 16)) [O9]
def AU:=bL 0 [(3,au 0 0),(5,au 1 0),(6,au 2 0),(9,au 3 0),(49,aa (aA 16)),(50,aa ab),(51,aa ab)] [b' (aA 7),.bj 10,.box [.hole ab,.hole .bool,.hole ab,.hole .str,.hole ab,.az,.az,.az],.box [.hole ab,.hole .bool,.hole ab,.hole .str,.hole ab,.arr 4,.arr 5,.az],.arr (.nm 10),.arr (.nm 10)] [bI .ret [(6,au 0 0),(7,aa .bool)] [.box [.hole ab,.hole .bool,.hole ab,.hole .str,.hole ab,.az,.az,.az]],bI (.exit 0) [(6,au 0 0),(9,au 1 0)] [.box [.hole ab,.hole .bool,.hole ab,.hole .str,.hole ab,.az,.az,.az],.box [.hole ab,.hole .bool,.hole ab,.hole .str,.hole ab,.arr 2,.arr 3,.az],.arr (.nm 10),.arr (.nm 10)]] [] [(.via 9 6,.nm 10)]
def xC:=aW 141 [.row 12,aa ab,.row 10] (.aY [.row 10,aa .bool]) [AU]
def Br:=aW 106 [.row 12,aa ab,.row 10] (.aY [.row 10,aa ab])
def QS:=aW 180 [.row 12,aa ab] (aa ab)
def QT:=aW 181 [.row 12,aa ab,.row 10] (aa .bool)
def QJ:=aW 142 [.row 12,aa ab,.row 10,.row 12,aa ab] (aa ab)
def QU:=aW 182 [au 0 0] (.aY [.row 10,aa .bool]) [] [.box [.hole (aA 7),.hole (aA 7),.arr 1,.hole bK],.arr ab] [.box [.hole (aA 7),.hole (aA 7),.arr 2,.arr 3],.gone,.arr ab,.arr ab]
def Rf:=aW 218 [au 0 0,aa ab] (.aY [.row 10,aa .bool]) [] [.box [.hole (aA 7),.hole (aA 7),.arr 1,.hole bK],.arr ab] [.box [.hole (aA 7),.hole (aA 7),.arr 2,.arr 3],.gone,.arr ab,.arr ab]
def Aj:=bL 0 [(1,au 0 0),(2,au 1 0),(20,.c (.arr 2)),(21,aa ab),(22,aa ab)] [.box [.hole ab,.hole .bool,.hole ab,.hole .str,.hole ab,.arr 2,.arr 3,.arr 4],.box [.hole ab,.hole .bool,.hole ab,.hole .str,.hole ab,.az,.az,.az],.arr (.nm 10),.arr (.nm 10),.arr (.nm 11)] [bI (.exit 0) [(1,au 0 0),(2,au 1 0)] [.box [.hole ab,.hole .bool,.hole ab,.hole .str,.hole ab,.arr 2,.arr 3,.arr 4],.box [.hole ab,.hole .bool,.hole ab,.hole .str,.hole ab,.az,.az,.az],.arr (.nm 10),.arr (.nm 10),.arr (.nm 11)]]
def Ak:=bL 1 [(1,au 0 0),(2,au 1 0),(35,.c (.arr 2)),(36,aa ab),(37,aa ab)] [.box [.hole ab,.hole .bool,.hole ab,.hole .str,.hole ab,.arr 3,.arr 2,.arr 4],.box [.hole ab,.hole .bool,.hole ab,.hole .str,.hole ab,.az,.az,.az],.arr (.nm 10),.arr (.nm 10),.arr (.nm 11)] [bI (.exit 2) [(1,au 0 0),(2,au 1 0)] [.box [.hole ab,.hole .bool,.hole ab,.hole .str,.hole ab,.arr 2,.arr 3,.arr 4],.box [.hole ab,.hole .bool,.hole ab,.hole .str,.hole ab,.az,.az,.az],.arr (.nm 10),.arr (.nm 10),.arr (.nm 11)]]
def u5:=aW 219 [.row 10] (.row 10) [Aj,Ak]
def u6:=aW 220 [au 0 0,aa ab,aa ab,.row 10,aa ab] (.aY [.row 10,aa .bool]) [] [.box [.hole (aA 7),.hole (aA 7),.arr 1,.hole bK],.arr ab] [.box [.hole (aA 7),.hole (aA 7),.arr 2,.hole bK],.gone,.arr ab]
def zv:=bL 0 [(1,aa (aA 10)),(2,.c (.fn 64 [])),(15,aa (aA 10)),(16,aa ab),(17,aa ab)] [] [eU 6 .bool,gu 0]
def Ek:=aW 104 [aa (aA 10),aa (aA 10),.c (.fn 64 [])] (aa .bool) [zv]
def xM:=aW 64 [.row 10,.row 10] (aa .bool)
def Rh:=aW 221 [.row 9,.row 10] (aa .bool)
def O':=bL 0 [(0,aa (.int .u64)),(3,au 0 0),(4,aa ab)] [.arr (.int .u8)] [bI (.exit 0) [(0,aa (.int .u64)),(3,au 0 0),(4,aa ab)] [.arr (.int .u8)]]
def Rl:=aW 228 [aa (.int .u64)] (aa .str) [O']
def QZ:=aW 192 [aa .str] (aa .str)
def Rj:=aW 224 [aa ab,aa .bool,aa .str] (aa .str)
def RA:=aW 246 [aa ab,aa .bool,aa .str] (.aY [aa .str,aa ab])
def RB:=aW 247 [aa .str] (aa .str)
def QV:=aW 186 [.row 12,aa ab] (aa ab)
def QK:=aW 144 [.row 12,aa ab,.row 10] (aa ab)
def Pa:=bL 0 [(0,aa (.int .u64)),(3,au 0 0),(4,aa ab)] [.arr (.int .u8)] [bI (.exit 0) [(3,au 0 0),(4,aa ab)] [.arr (.int .u8)]]
def QW:=aW 187 [aa (.int .u64)] (aa .str) [Pa]
def Ri:=aW 223 [.row 9,.row 10] (aa .bool)
def QY:=aW 191 [au 0 0,aa .str] (.aY [aa ab,.c (.dead)]) [] [.b7 252 ((.cM 1)),.buf 5] [.b7 252 ((.cM 2)),.gone,.buf 5]
def Q0:=aW 193 [au 0 0] (aa .str) [] [.b7 252 ((.cM 1)),.buf 5] [.b7 252 ((.cM 1)),.gone]
def Al:=bL 0 [(0,au 0 0),(3,aa ab),(6,au 1 0),(9,.c (.arr 2)),(18,aa (aA 9)),(19,aa ab),(20,aa ab)] [.box [.hole (aA 7),.hole ab],.bj 10,.arr (.nm 17)] [bI (.exit 0) [(6,au 1 0),(9,.c (.arr 2))] [.box [.hole (aA 7),.hole ab],.bj 10,.arr (.nm 17)]] [] [(.slot 9,.nm 17)]
def Pb:=bL 1 [(9,.c (.arr 1)),(57,aa (aA 11)),(58,aa ab),(59,aa ab)] [.box [.hole (aA 7),.hole ab],.arr (.nm 17)] [bI (.exit 2) [(9,.c (.arr 1))] [.box [.hole (aA 7),.hole ab],.arr (.nm 17)]]
def Pc:=bL 2 [(14,au 1 0),(77,.c (.arr 2)),(78,aa ab),(79,aa ab)] [.box [.hole (aA 7),.hole ab],.b7 252 ((.cM 3)),.arr (.nm 17),.buf 5] [bI (.exit 4) [(14,au 1 0)] [.box [.hole (aA 7),.hole ab],.b7 252 ((.cM 2)),.buf 5]]
def BC:=aW 189 [au 0 0,.row 7,.row 10,aa ab] (aa .str) [Al,Pb,Pc] [.box [.hole (aA 7),.hole ab]] [.box [.hole (aA 7),.hole ab]]
def BD:=aW 190 [au 0 0,.row 7,.row 10,aa ab] (aa .str) [] [.box [.hole (aA 7),.hole ab]] [.box [.hole (aA 7),.hole ab]]
def Am:=bL 0 [(0,au 0 0),(3,aa ab),(6,au 1 0),(9,au 2 0),(10,au 3 0),(84,aa (aA 10)),(85,aa ab),(86,aa ab)] [.box [.hole (aA 7),.hole ab],.bj 10,.bj 7,.b7 252 ((.cM 4)),.buf 5] [bI (.exit 1) [(10,au 1 0)] [.box [.hole (aA 7),.hole ab],.b7 252 ((.cM 2)),.buf 5]]
def qB:=aW 145 [au 0 0,aa ab,.row 10,aa ab] (aa .str) [Am] [.box [.hole (aA 7),.hole ab]] [.box [.hole (aA 7),.hole ab]]
def Bt:=aW 108 [.row 12,aa ab,.row 10] (.aY [aa .str,aa ab])
def An:=bL 0 [(3,au 0 0),(5,au 1 0),(8,aa .str),(36,aa (aA 9)),(37,aa ab),(38,aa ab)] [b' (aA 7),.bj 10] [bI (.exit 1) [(8,aa .str)]]
def Ao:=bL 1 [(3,au 0 0),(7,au 1 0),(8,aa .str),(101,aa (aA 10)),(102,aa ab),(103,aa ab)] [b' (aA 7),.bj 7] [bI (.exit 3) [(8,aa .str)]]
def Ap:=bL 2 [(3,au 0 0),(5,au 1 0),(7,au 2 0),(8,aa .str),(118,aa (aA 10)),(119,aa ab),(120,aa ab)] [b' (aA 7),.bj 10,.bj 7] [bI (.exit 5) [(8,aa .str)]]
def qC:=aW 222 [.row 12,aa ab,.row 10] (aa .str) [An,Ao,Ap]
def Aq:=bL 0 [(0,au 0 0),(5,au 2 0),(6,au 3 0),(7,au 4 0),(8,au 5 0),(10,au 6 0),(25,aa (aA 9)),(26,aa ab),(27,aa ab)] [.box [.hole (aA 7),.hole (aA 7),.arr 7,.hole bK],.gone,.bj 7,.bj 10,.bj 7,.box [.hole ab,.hole .bool,.hole ab,.hole .str,.hole ab,.az,.az,.az],.box [.hole ab,.hole .bool,.hole ab,.hole .str,.hole ab,.az,.arr 8,.az],.arr ab,.arr (.nm 10)] [bI .ret [(8,au 2 0),(9,aa .bool)] [.box [.hole (aA 7),.hole (aA 7),.arr 3,.hole bK],.gone,.bj 10,.arr ab],bI (.exit 0) [(0,au 0 0),(5,au 2 0),(6,au 3 0),(7,au 4 0),(8,au 5 0),(10,au 6 0)] [.box [.hole (aA 7),.hole (aA 7),.arr 7,.hole bK],.gone,.bj 7,.bj 10,.bj 7,.box [.hole ab,.hole .bool,.hole ab,.hole .str,.hole ab,.az,.az,.az],.box [.hole ab,.hole .bool,.hole ab,.hole .str,.hole ab,.az,.arr 8,.az],.arr ab,.arr (.nm 10)]] [] [(.via 10 6,.nm 10)]
def Pd:=bL 1 [(0,au 0 0),(6,au 2 0),(7,au 3 0),(8,au 4 0),(10,au 5 0),(115,aa (aA 9)),(116,aa ab),(117,aa ab)] [.box [.hole (aA 7),.hole (aA 7),.arr 6,.hole bK],.gone,.bj 10,.bj 7,.box [.hole ab,.hole .bool,.hole ab,.hole .str,.hole ab,.az,.az,.az],.box [.hole ab,.hole .bool,.hole ab,.hole .str,.hole ab,.az,.arr 7,.arr 8],.arr ab,.arr (.nm 10),.arr (.nm 11)] [bI .ret [(8,au 2 0),(9,aa .bool)] [.box [.hole (aA 7),.hole (aA 7),.arr 3,.arr 4],.gone,.bj 10,.arr ab,.arr ab],bI (.exit 2) [(8,au 2 0),(10,au 3 0)] [.box [.hole (aA 7),.hole (aA 7),.arr 4,.hole bK],.gone,.box [.hole ab,.hole .bool,.hole ab,.hole .str,.hole ab,.az,.az,.az],.box [.hole ab,.hole .bool,.hole ab,.hole .str,.hole ab,.az,.arr 5,.arr 6],.arr ab,.arr (.nm 10),.arr (.nm 11)]] [] [(.via 10 7,.nm 11)]
def Bz:=aW 183 [au 0 0,.row 7,.row 10,.row 7] (.aY [.row 10,aa .bool]) [Aq,Pd] [.box [.hole (aA 7),.hole (aA 7),.arr 1,.hole bK],.arr ab] [.box [.hole (aA 7),.hole (aA 7),.arr 2,.hole bK],.gone,.arr ab]
def BA:=aW 184 [au 0 0,.row 7,.row 10,.row 7] (.aY [.row 10,aa .bool]) [] [.box [.hole (aA 7),.hole (aA 7),.arr 1,.hole bK],.arr ab] [.box [.hole (aA 7),.hole (aA 7),.arr 2,.hole bK],.gone,.arr ab]
def Ar:=bL 0 [(0,au 0 0),(1,aa ab),(3,aa ab),(10,.c (.arr 2)),(15,aa (aA 10)),(16,aa ab),(17,aa ab)] [.box [.hole (aA 7),.hole (aA 7),.arr 3,.hole bK],.gone,.arr (.nm 10),.arr ab] [bI .ret [(8,.c (.az)),(9,aa .bool)] [.box [.hole (aA 7),.hole (aA 7),.arr 2,.hole bK],.gone,.arr ab],bI (.exit 0) [(10,.c (.arr 2))] [.box [.hole (aA 7),.hole (aA 7),.arr 3,.hole bK],.gone,.arr (.nm 10),.arr ab]] [] [(.slot 10,.nm 10)]
def BB:=aW 185 [au 0 0,aa ab,aa (aA 10),aa ab] (.aY [aa (aA 10),aa .bool]) [Ar] [.box [.hole (aA 7),.hole (aA 7),.arr 1,.hole bK],.arr ab] [.box [.hole (aA 7),.hole (aA 7),.arr 2,.hole bK],.gone,.arr ab]
def xD:=aW 143 [au 0 0,aa ab,.row 10,aa ab] (.aY [.row 10,aa .bool]) [] [.box [.hole (aA 7),.hole (aA 7),.arr 1,.hole bK],.arr ab] [.box [.hole (aA 7),.hole (aA 7),.arr 2,.hole bK],.gone,.arr ab]
def Bs:=aW 107 [.row 12,aa ab,.row 10,.row 12,aa ab] (.aY [.row 10,aa ab])
def Fq:=aW 66 [.row 13,.row 13,aa .str] (.aY [.row 18,aa ab])
def RP:=aW 42 [.row 13,.row 13,aa .str] (.aY [.row 18,aa ab])
def sH:=aW 12 [.row 13,.row 13,aa .str] (.aY [aa .str,aa ab])
def afw:=aW 136 [.row 11,au 0 0] (aa .bool) [] [.bj 9] [.bj 9]
def adW:=bL 0 [(0,aa (aA 11)),(1,.c (.fn 136 [0])),(7,aa ab),(8,aa ab)] [.bj 9] [bI .ret [(4,aa ab)] [.bj 9],bI (.exit 0) [] [.bj 9]]
def afS:=aW 168 [aa (aA 11),.c (.fn 136 [0])] (aa ab) [adW] [.bj 9] [.bj 9]
def afv:=aW 135 [aa (aA 11),.c (.fn 136 [0])] (aa .bool) [] [.bj 9] [.bj 9]
def agJ:=aW 99 [aa bK,aa ab] (aa bK)
def agI:=bL 0 [(0,au 0 0),(5,aa bK),(7,au 2 0),(8,au 3 0),(10,au 4 0),(18,aa (aA 9)),(19,aa ab),(20,aa ab)] [.box [.hole (aA 7),.hole (aA 7),.arr 5],.gone,.bj 7,.bj 10,.bj 10,.arr bK] [bI (.exit 0) [] [.box [.hole (aA 7),.hole (aA 7),.arr 2],.gone,.arr bK]]
def agH:=aW 97 [au 0 0,.row 7,.row 10,.row 7,.row 10,aa bK] (.aY []) [agI] [.box [.hole (aA 7),.hole (aA 7),.arr 1],.arr bK] [.box [.hole (aA 7),.hole (aA 7),.arr 2],.gone,.arr bK]
def agl:=bL 0 [(0,au 0 0),(5,aa bK),(8,au 2 0),(10,au 3 0),(12,au 4 0),(13,au 5 0),(39,aa ab),(40,aa ab)] [.box [.hole (aA 7),.hole (aA 7),.arr 6],.gone,.bj 10,.bj 10,.bj 7,.bj 7,.arr bK] [bI (.exit 1) [] [.box [.hole (aA 7),.hole (aA 7),.arr 2],.gone,.arr bK]]
def Fm:=aW 60 [au 0 0,aa ab,.row 10,aa ab,.row 10,aa bK] (.aY []) [agl] [.box [.hole (aA 7),.hole (aA 7),.arr 1],.arr bK] [.box [.hole (aA 7),.hole (aA 7),.arr 2],.gone,.arr bK]
def Rv:=aW 24 [.row 13,.row 13,aa .str] (.aY [aa (.slice bK),aa ab])
def acZ:=bL 0 [(3,aa bK),(4,au 1 0),(6,au 2 0),(10,.c (.arr 3)),(39,aa (aA 16)),(40,aa ab),(41,aa ab)] [.gone,b' (aA 7),.bj 10,.arr bK] [bI (.exit 0) [(10,.c (.arr 1))] [.gone,.arr bK]] [] [(.slot 10,bK)]
def agF:=aW 93 [.row 12,aa ab,.row 10,.c (.arr 0)] (aa (.slice bK)) [acZ] [.arr ab] [.gone]
def ac0:=bL 0 [(3,aa bK),(4,au 0 0),(6,au 1 0),(10,.c (.arr 2)),(39,aa (aA 16)),(40,aa ab),(41,aa ab)] [b' (aA 7),.bj 10,.arr bK] [bI (.exit 0) [(10,.c (.arr 0))] [.arr bK]] [] [(.slot 10,bK)]
def agG:=aW 93 [.row 12,aa ab,.row 10,aa bK] (aa (.slice bK)) [ac0]
def Fl:=aW 58 [.row 12,aa ab,.row 10] (.aY [aa (.slice bK),aa ab])
def Rg:=aW 22 [.row 13,.row 13,aa .str] (.aY [aa (.slice bK),aa ab])
def RV:=bL 0 [(0,aa bK),(1,aa bK),(5,aa ab)] [] [eU 4 .bool,gu 0]
def RU:=aW 62 [aa bK,aa bK] (aa .bool) [RV]
def RH:=bL 0 [(0,aa (.slice bK)),(1,aa (.slice bK)),(5,aa ab)] [] [eU 4 .bool,gu 0]
def RG:=aW 26 [aa (.slice bK),aa (.slice bK)] (aa .bool) [RH]
def Ff:=aW 11 [] (aa .bool)
def afH:=aW 154 [.row 7] (.row 7)
def afW:=aW 195 [.row 9,.row 9] (aa .bool)
def Pe:=bL 0 [(2,au 0 0),(3,au 1 0),(5,aa ab)] [.bj 7,.bj 7] [eU 4 .bool,bI (.exit 0) [(2,au 0 0),(3,au 1 0)] [.bj 7,.bj 7]]
def Pf:=bL 1 [(2,au 0 0),(3,au 1 0),(6,aa ab)] [.bj 7,.bj 7] [eU 4 .bool,gu 2]
def afG:=aW 153 [.row 7,.row 7] (aa .bool) [Pe,Pf]
def afX:=aW 196 [aa (.int .u8)] (aa .bool)
def afY:=aW 197 [aa (.int .u8)] (aa .bool)
def Pg:=bL 0 [(0,aa .str),(3,aa ab)] [] [eU 2 .bool,gu 0]
def afI:=aW 155 [aa .str] (aa .bool) [Pg]
def afZ:=aW 198 [aa ab,aa ab] (aa .bool)
def Mu:=bL 0 [(0,aa (aA 8)),(4,aa ab),(5,aa ab)] [] [eU 2 .bool,bI (.exit 2) [(0,aa (aA 8)),(4,aa ab)]]
def ON:=bL 0 [(0,aa (aA 8)),(3,aa ab),(4,aa ab)] [] [eU 2 .bool,bI (.exit 0) [(0,aa (aA 8))]] [Mu]
def afJ:=aW 156 [aa (aA 8)] (aa .bool) [ON]
def Mv:=bL 0 [(0,aa (aA 9)),(1,aa .bool),(6,aa ab),(7,au 0 0),(8,aa ab)] [.bj 9] [eU 4 .bool,bI (.exit 2) [(0,aa (aA 9)),(1,aa .bool),(6,aa ab),(7,au 0 0)] [.bj 9]]
def OO:=bL 0 [(0,aa (aA 9)),(1,aa .bool),(5,aa ab),(6,aa ab)] [] [eU 4 .bool,bI (.exit 0) [(0,aa (aA 9)),(1,aa .bool)]] [Mv]
def afK:=aW 157 [aa (aA 9),aa .bool] (aa .bool) [OO]
def afj:=aW 113 [.row 7] (aa .bool)
def OP:=bL 0 [(1,au 0 0),(3,.c (.arr 1)),(4,aa ab)] [.bj 7,.arr ab] [bI (.exit 0) [(1,au 0 0),(3,.c (.arr 1))] [.bj 7,.arr ab]] [] [(.slot 3,ab)]
def afk:=aW 114 [.row 7] (aa bK) [OP]
def OA:=bL 0 [(1,au 0 0),(3,aa ab),(4,au 1 0),(5,aa ab)] [b' (aA 7),.box [.hole ab,.hole .str,.hole ab,.hole ab,.hole ab,.hole (aA 8),.hole (aA 9),.hole ab,.hole ab,.hole .bool]] [eU 2 ab,bI (.exit 2) [(1,au 0 0),(3,aa ab),(4,au 1 0)] [b' (aA 7),.box [.hole ab,.hole .str,.hole ab,.hole ab,.hole ab,.hole (aA 8),.hole (aA 9),.hole ab,.hole ab,.hole .bool]]]
def OB:=bL 1 [(1,au 0 0),(3,aa ab),(4,au 1 0),(6,aa bK),(7,aa ab)] [b' (aA 7),.box [.hole ab,.hole .str,.hole ab,.hole ab,.hole ab,.hole (aA 8),.hole (aA 9),.hole ab,.hole ab,.hole .bool]] [eU 2 ab,bI (.exit 4) [(1,au 0 0),(3,aa ab),(4,au 1 0)] [b' (aA 7),.box [.hole ab,.hole .str,.hole ab,.hole ab,.hole ab,.hole (aA 8),.hole (aA 9),.hole ab,.hole ab,.hole .bool]]]
def R0:=bL 0 [(1,au 0 0),(3,aa ab)] [b' (aA 7)] [eU 2 ab,gu 0] [OA,OB]
def agx:=aW 79 [.row 12] (aa ab) [R0]
def agu:=aW 75 [.row 12,aa ab] (aa ab)
def agm:=aW 67 [.row 13,.row 13] (aa ab)
def agD:=aW 87 [aa bK,aa ab] (.row 19)
def OQ:=bL 0 [(0,aa .str),(4,aa (.int .u64)),(5,aa ab)] [] [bI (.exit 0) [(4,aa (.int .u64))]]
def afL:=aW 158 [aa .str] (.aY [aa (.int .u64),aa ab]) [OQ]
def afm:=aW 116 [aa .str] (.aY [aa (.int .u64),aa .bool])
def afn:=aW 117 [aa (.int .u64)] (aa ab)
def afo:=aW 118 [aa bK,aa ab] (aa bK)
def OR:=bL 0 [(0,aa .str),(5,aa (.int .u64)),(6,aa (.int .u64)),(7,aa ab)] [] [bI .ret [(2,aa (.int .u64)),(3,aa ab),(4,aa ab)],gu 0]
def af0:=aW 199 [aa .str] (.aY [aa (.int .u64),aa ab,aa ab]) [OR]
def afM:=aW 159 [aa .str] (.aY [aa ab,aa .str,aa ab])
def afp:=aW 123 [.row 10] (.row 19)
def Fg:=aW 119 [.row 12,.row 7,aa .str,aa ab,aa bK] (.row 19)
def af2:=aW 200 [aa .str] (.aY [aa .str,aa .str,aa .bool])
def OS:=bL 0 [(0,aa .str),(4,.c (.arr 0))] [.arr .str] [bI .ret [(2,.c (.az)),(3,aa ab)],bI (.exit 0) [(4,.c (.arr 0))] [.arr .str]] [] [(.slot 4,.str)]
def afO:=aW 160 [aa .str] (.aY [aa g',aa ab]) [OS]
def As:=bL 0 [(3,aa ab),(4,aa bK),(5,au 0 0),(6,au 1 0),(10,au 2 0),(11,aa g'),(13,au 3 0),(14,aa ab)] [b' (aA 7),.bj 7,.box [.hole ab,.hole .bool,.hole ab,.hole .str,.hole ab,.az,.az,.az,.az,.hole ab,.hole .bool],.box [.hole ab,.hole .bool,.hole ab,.hole .str,.hole ab,.az,.arr 4,.az],.arr (.nm 10)] [bI .ret [(10,au 0 0)] [.bj 19],bI (.exit 0) [(10,au 0 0),(13,au 1 0)] [.box [.hole ab,.hole .bool,.hole ab,.hole .str,.hole ab,.az,.az,.az,.az,.hole ab,.hole .bool],.box [.hole ab,.hole .bool,.hole ab,.hole .str,.hole ab,.az,.arr 2,.az],.arr (.nm 10)]] [] [(.via 13 6,.nm 10)]
def Fh:=aW 120 [.row 12,.row 7,aa .str,aa ab,aa bK] (.row 19) [As]
def Au:=bL 0 [(3,aa ab),(4,aa bK),(5,au 0 0),(6,au 1 0),(10,au 2 0),(11,aa g'),(13,au 3 0),(14,aa ab)] [b' (aA 7),.bj 7,.box [.hole ab,.hole .bool,.hole ab,.hole .str,.hole ab,.az,.az,.az,.az,.hole ab,.hole .bool],.box [.hole ab,.hole .bool,.hole ab,.hole .str,.hole ab,.arr 4,.az,.az],.arr (.nm 10)] [bI .ret [(10,au 0 0)] [.bj 19],bI (.exit 0) [(3,aa ab),(4,aa bK),(5,au 0 0),(6,au 1 0),(10,au 2 0),(11,aa g'),(13,au 3 0)] [b' (aA 7),.bj 7,.box [.hole ab,.hole .bool,.hole ab,.hole .str,.hole ab,.az,.az,.az,.az,.hole ab,.hole .bool],.box [.hole ab,.hole .bool,.hole ab,.hole .str,.hole ab,.arr 4,.az,.az],.arr (.nm 10)]] [] [(.via 13 5,.nm 10)]
def OT:=bL 1 [(3,aa ab),(4,aa bK),(5,au 0 0),(6,au 1 0),(10,au 2 0),(11,aa g'),(13,au 3 0),(16,aa ab)] [b' (aA 7),.bj 7,.box [.hole ab,.hole .bool,.hole ab,.hole .str,.hole ab,.az,.az,.az,.az,.hole ab,.hole .bool],.box [.hole ab,.hole .bool,.hole ab,.hole .str,.hole ab,.arr 4,.az,.az],.arr (.nm 10)] [bI .ret [(10,au 0 0)] [.bj 19],bI (.exit 2) [(3,aa ab),(4,aa bK),(5,au 0 0),(6,au 1 0),(10,au 2 0),(11,aa g'),(13,au 3 0)] [b' (aA 7),.bj 7,.box [.hole ab,.hole .bool,.hole ab,.hole .str,.hole ab,.az,.az,.az,.az,.hole ab,.hole .bool],.box [.hole ab,.hole .bool,.hole ab,.hole .str,.hole ab,.arr 4,.az,.az],.arr (.nm 10)]]
def Av:=bL 2 [(3,aa ab),(4,aa bK),(5,au 0 0),(6,au 1 0),(10,au 2 0),(11,aa g'),(13,au 3 0),(17,aa ab)] [b' (aA 7),.bj 7,.box [.hole ab,.hole .bool,.hole ab,.hole .str,.hole ab,.az,.az,.az,.az,.hole ab,.hole .bool],.box [.hole ab,.hole .bool,.hole ab,.hole .str,.hole ab,.arr 4,.arr 5,.az],.arr (.nm 10),.arr (.nm 10)] [bI .ret [(10,au 0 0)] [.bj 19],bI (.exit 4) [(10,au 0 0),(13,au 1 0)] [.box [.hole ab,.hole .bool,.hole ab,.hole .str,.hole ab,.az,.az,.az,.az,.hole ab,.hole .bool],.box [.hole ab,.hole .bool,.hole ab,.hole .str,.hole ab,.arr 2,.arr 3,.az],.arr (.nm 10),.arr (.nm 10)]] [] [(.via 13 6,.nm 10)]
def Fi:=aW 121 [.row 12,.row 7,aa .str,aa ab,aa bK] (.row 19) [Au,OT,Av]
def OU:=bL 0 [(0,aa .str),(4,.c (.arr 0)),(5,aa ab)] [.arr (.nm 14)] [bI .ret [(2,.c (.az)),(3,aa ab)],bI (.exit 0) [(4,.c (.arr 0))] [.arr (.nm 14)]] [] [(.slot 4,.nm 14)]
def afP:=aW 161 [aa .str] (.aY [aa (aA 14),aa ab]) [OU]
def OV:=bL 0 [(0,aa (aA 14)),(1,aa ab),(5,aa ab)] [] [eU 4 ab,gu 0]
def afQ:=aW 162 [aa (aA 14),aa ab] (aa ab) [OV]
def Aw:=bL 0 [(3,aa ab),(4,aa bK),(5,au 0 0),(6,au 1 0),(10,au 2 0),(11,aa (aA 14)),(13,au 3 0),(14,aa ab)] [b' (aA 7),.bj 7,.box [.hole ab,.hole .bool,.hole ab,.hole .str,.hole ab,.az,.az,.az,.az,.hole ab,.hole .bool],.box [.hole ab,.hole .bool,.hole ab,.hole .str,.hole ab,.az,.arr 4,.az],.arr (.nm 10)] [bI .ret [(10,au 0 0)] [.bj 19],bI (.exit 0) [(4,aa bK),(6,au 0 0),(10,au 1 0),(11,aa (aA 14)),(13,au 2 0)] [.bj 7,.box [.hole ab,.hole .bool,.hole ab,.hole .str,.hole ab,.az,.az,.az,.az,.hole ab,.hole .bool],.box [.hole ab,.hole .bool,.hole ab,.hole .str,.hole ab,.az,.arr 3,.az],.arr (.nm 10)]] [] [(.via 13 6,.nm 10)]
def PW:=bL 1 [(4,aa bK),(6,au 0 0),(10,au 1 0),(11,aa (aA 14)),(13,au 2 0),(18,aa ab)] [.bj 7,.box [.hole ab,.hole .bool,.hole ab,.hole .str,.hole ab,.az,.az,.az,.az,.hole ab,.hole .bool],.box [.hole ab,.hole .bool,.hole ab,.hole .str,.hole ab,.az,.arr 3,.arr 4],.arr (.nm 10),.arr (.nm 11)] [bI .ret [(10,au 0 0)] [.bj 19],bI (.exit 2) [(10,au 0 0),(13,au 1 0)] [.box [.hole ab,.hole .bool,.hole ab,.hole .str,.hole ab,.az,.az,.az,.az,.hole ab,.hole .bool],.box [.hole ab,.hole .bool,.hole ab,.hole .str,.hole ab,.az,.arr 2,.arr 3],.arr (.nm 10),.arr (.nm 11)]] [] [(.via 13 7,.nm 11)]
def Fj:=aW 122 [.row 12,.row 7,aa .str,aa ab,aa bK] (.row 19) [Aw,PW]
def o0:=aW 88 [.row 12,aa ab,aa .str,aa ab,aa bK] (.row 19)
def agc:=aW 48 [.row 12,aa ab,aa .str] (.aY [.row 19,aa ab])
def afT:=aW 17 [.row 12,aa ab,aa .str] (.aY [.row 10,aa ab])
def afq:=aW 124 [.row 10] (aa .bool)
def afr:=aW 125 [aa ab,aa .bool] (aa .bool)
def PX:=bL 0 [(1,aa (aA 11)),(2,au 0 0),(5,aa ab)] [.bj 7] [eU 4 .bool,gu 0]
def afs:=aW 126 [.row 7,aa (aA 11)] (aa .bool) [PX]
def Ax:=bL 0 [(1,aa ab),(2,aa (aA 10)),(3,aa .bool),(4,au 0 0),(9,aa ab)] [b' (aA 7)] [eU 8 .bool,gu 0]
def Fk:=aW 127 [.row 12,aa ab,aa (aA 10),aa .bool] (aa .bool) [Ax]
def xS:=bL 0 [(3,aa .bool),(4,au 0 0),(6,au 1 0),(9,au 2 0),(12,aa ab)] [b' (aA 7),.bj 10,.box [.hole ab,.hole .str,.hole ab,.hole ab,.hole ab,.hole (aA 8),.hole (aA 9),.hole ab,.hole ab,.hole .bool]] [eU 8 .bool,gu 1]
def R4:=bL 1 [(6,au 0 0),(15,aa ab)] [.bj 10] [eU 8 .bool,gu 3]
def u7:=aW 91 [.row 12,aa ab,.row 10,aa .bool] (aa .bool) [xS,R4]
def agy:=aW 80 [.row 12,aa ab,.row 10] (aa .bool)
def aga:=aW 44 [.row 12,aa ab,.row 10] (aa ab)
def agE:=aW 90 [.row 10] (.agg [.hole ab,.hole .bool,.hole ab,.hole .str,.hole ab,.arr 0,.arr 1,.arr 2]) [] [] [.arr (.nm 10),.arr (.nm 10),.arr (.nm 11)]
def xL:=bL 0 [(1,au 0 0),(2,au 1 0),(3,aa ab)] [.box [.hole ab,.hole .bool,.hole ab,.hole .str,.hole ab,.arr 2,.arr 3,.hole (aA 11)],.box [.hole ab,.hole .bool,.hole ab,.hole .str,.hole ab,.az,.az,.az],.arr (.nm 10),.arr (.nm 10)] [bI (.exit 0) [(1,au 0 0),(2,au 1 0)] [.box [.hole ab,.hole .bool,.hole ab,.hole .str,.hole ab,.arr 2,.arr 3,.hole (aA 11)],.box [.hole ab,.hole .bool,.hole ab,.hole .str,.hole ab,.az,.az,.az],.arr (.nm 10),.arr (.nm 10)]]
def BI:=aW 56 [.row 10] (.row 10) [xL]
def agk:=aW 57 [.row 12,aa ab,.row 10] (aa .bool)
def af1:=aW 20 [.row 12,aa ab,.row 10] (.aY [.row 10,aa ab])
def agb:=aW 46 [.row 12,aa ab,.row 10,.row 12,aa ab] (aa ab)
def agz:=aW 81 [aa bK] (.row 20)
def agC:=aW 86 [.row 10] (.row 20)
def agB:=aW 85 [aa bK,aa ab] (aa bK)
def Fs:=aW 83 [.row 12,.row 7,.row 10,.row 12,.row 7,aa bK] (.row 20)
def afU:=aW 18 [.row 10,.row 10] (aa .bool)
def afl:=aW 115 [.row 9,.row 10] (aa .bool)
def xQ:=bL 0 [(5,aa bK),(6,au 0 0),(7,au 1 0),(8,au 2 0),(9,au 3 0),(10,au 4 0),(12,au 5 0),(13,au 6 0),(14,aa ab)] [b' (aA 7),.bj 7,.bj 10,b' (aA 7),.bj 7,.box [.hole ab,.hole .bool,.hole ab,.hole .str,.hole ab,.az,.az,.az,.az,.hole .bool],.box [.hole ab,.hole .bool,.hole ab,.hole .str,.hole ab,.az,.arr 7,.az],.arr (.nm 10)] [bI .ret [(12,au 0 0)] [.bj 20],bI (.exit 0) [(5,aa bK),(6,au 0 0),(7,au 1 0),(8,au 2 0),(10,au 3 0),(12,au 4 0),(13,au 5 0)] [b' (aA 7),.bj 7,.bj 10,.bj 7,.box [.hole ab,.hole .bool,.hole ab,.hole .str,.hole ab,.az,.az,.az,.az,.hole .bool],.box [.hole ab,.hole .bool,.hole ab,.hole .str,.hole ab,.az,.arr 6,.az],.arr (.nm 10)]] [] [(.via 13 6,.nm 10)]
def R2:=bL 1 [(5,aa bK),(6,au 0 0),(7,au 1 0),(8,au 2 0),(10,au 3 0),(12,au 4 0),(13,au 5 0),(20,aa ab)] [b' (aA 7),.bj 7,.bj 10,.bj 7,.box [.hole ab,.hole .bool,.hole ab,.hole .str,.hole ab,.az,.az,.az,.az,.hole .bool],.box [.hole ab,.hole .bool,.hole ab,.hole .str,.hole ab,.az,.arr 6,.arr 7],.arr (.nm 10),.arr (.nm 11)] [bI .ret [(12,au 0 0)] [.bj 20],bI (.exit 2) [(12,au 0 0),(13,au 1 0)] [.box [.hole ab,.hole .bool,.hole ab,.hole .str,.hole ab,.az,.az,.az,.az,.hole .bool],.box [.hole ab,.hole .bool,.hole ab,.hole .str,.hole ab,.az,.arr 2,.arr 3],.arr (.nm 10),.arr (.nm 11)]] [] [(.via 13 7,.nm 11)]
def Ft:=aW 84 [.row 12,.row 7,.row 10,.row 12,.row 7,aa bK] (.row 20) [xQ,R2]
def xJ:=bL 0 [(5,aa bK),(6,au 0 0),(8,au 1 0),(9,au 2 0),(12,au 3 0),(13,au 4 0),(14,au 5 0),(17,au 6 0),(18,aa ab)] [b' (aA 7),.bj 10,b' (aA 7),.box [.hole ab,.hole .bool,.hole ab,.hole .str,.hole ab,.az,.az,.az,.az,.hole .bool],.bj 7,.bj 7,.box [.hole ab,.hole .bool,.hole ab,.hole .str,.hole ab,.arr 7,.az,.hole (aA 11)],.arr (.nm 10)] [bI .ret [(12,au 0 0)] [.bj 20],bI (.exit 0) [(5,aa bK),(6,au 0 0),(8,au 1 0),(9,au 2 0),(12,au 3 0),(13,au 4 0),(14,au 5 0),(17,au 6 0)] [b' (aA 7),.bj 10,b' (aA 7),.box [.hole ab,.hole .bool,.hole ab,.hole .str,.hole ab,.az,.az,.az,.az,.hole .bool],.bj 7,.bj 7,.box [.hole ab,.hole .bool,.hole ab,.hole .str,.hole ab,.arr 7,.az,.hole (aA 11)],.arr (.nm 10)]] [] [(.via 17 5,.nm 10)]
def xK:=bL 1 [(5,aa bK),(6,au 0 0),(8,au 1 0),(9,au 2 0),(12,au 3 0),(13,au 4 0),(14,au 5 0),(17,au 6 0),(20,aa ab)] [b' (aA 7),.bj 10,b' (aA 7),.box [.hole ab,.hole .bool,.hole ab,.hole .str,.hole ab,.az,.az,.az,.az,.hole .bool],.bj 7,.bj 7,.box [.hole ab,.hole .bool,.hole ab,.hole .str,.hole ab,.arr 7,.arr 8,.hole (aA 11)],.arr (.nm 10),.arr (.nm 10)] [bI .ret [(12,au 0 0)] [.bj 20],bI (.exit 2) [(12,au 0 0),(17,au 1 0)] [.box [.hole ab,.hole .bool,.hole ab,.hole .str,.hole ab,.az,.az,.az,.az,.hole .bool],.box [.hole ab,.hole .bool,.hole ab,.hole .str,.hole ab,.arr 2,.arr 3,.hole (aA 11)],.arr (.nm 10),.arr (.nm 10)]] [] [(.via 17 6,.nm 10)]
def sK:=aW 47 [.row 12,aa ab,.row 10,.row 12,aa ab,aa bK] (.row 20) [xJ,xK]
def afN:=aW 16 [.row 12,aa ab,.row 10,.row 12,aa ab] (.aY [.row 10,aa ab])
def xI:=bL 0 [(3,au 0 0),(5,au 1 0),(7,au 2 0),(8,aa ab),(9,aa ab)] [b' (aA 7),.bj 10,.bj 7] [bI (.exit 0) [(5,au 0 0),(8,aa ab)] [.bj 10]]
def BG:=aW 45 [.row 12,aa ab,.row 10] (aa ab) [xI]
def afC:=aW 15 [.row 12,aa ab,.row 10] (.aY [aa .str,aa ab])
def af':=aW 43 [.row 13,.row 13,aa .str] (.aY [.row 21,aa ab])
def afu:=aW 13 [.row 13,.row 13,aa .str] (.aY [aa .str,aa ab])
def di:=aW 3 [.row 0] (aa .bool)
def hL:=aW 4 [.row 1] (aa .bool)
def jR:=aW 5 [.row 0] (aa .bool)
def BK:=aW 7 [.row 0] (aa .bool)
def oZ:=aW 6 [.row 0] (aa .bool)
def RI:=bL 0 [(2,.c (.arr 0)),(3,au 1 0),(4,au 2 0),(10,.c (.arr 3)),(22,.c (.arr 0)),(23,aa ab),(24,aa ab)] [.arr .str,.bj 13,.bj 13,.arr .str] [bI .ret [(6,.c (.az)),(7,aa ab),(8,aa ab)] [.arr .str],bI (.exit 0) [(2,.c (.arr 0)),(10,.c (.arr 1))] [.arr .str,.arr .str]] [] [(.slot 10,.str)]
def af3:=aW 29 [.row 13,.row 13,.c (.arr 0)] (.aY [aa g',aa ab,aa ab]) [RI] [.arr .str] [.arr .str]
def RJ:=bL 0 [(2,.c (.arr 0)),(3,au 1 0),(4,au 2 0),(10,.c (.arr 3)),(11,aa ab)] [.arr .str,.bj 13,.bj 13,.arr .str] [bI .ret [(6,.c (.az)),(7,aa ab),(8,aa ab)] [.arr .str],bI (.exit 0) [(2,.c (.arr 0)),(10,.c (.arr 1))] [.arr .str,.arr .str]] [] [(.slot 10,.str)]
def af4:=aW 31 [.row 13,.row 13,.c (.arr 0)] (.aY [aa g',aa ab,aa ab]) [RJ] [.arr .str] [.arr .str]
def RK:=bL 0 [(0,aa g'),(1,aa g'),(12,aa ab),(13,aa ab)] [] [eU 4 .bool,gu 0]
def af5:=aW 32 [aa g',aa g'] (aa .bool) [RK]
def R3:=bL 0 [(5,au 0 0),(6,au 1 0),(9,.c (.arr 2)),(39,aa g'),(40,aa ab),(41,aa ab)] [.bj 13,.bj 13,.arr .str] [eU 4 .bool,bI (.exit 0) [(5,au 0 0),(6,au 1 0),(9,.c (.arr 2))] [.bj 13,.bj 13,.arr .str]]
def e8:=aW 8 [.row 0,aa g'] (aa .bool) [R3]
def ah1:List eA:=[RN,RO,Ru,QB,Eh,xH,Rx,Rw,Q9,Rq,Rr,Q6,Rs,Q7,Rt,Q8,QN,QO,Bu,Fe]
def ah2:List eA:=[Fo,QP,QQ,QR,Q5,Q4,QL,oY,RF,Ry,Q',QI,QH,R6,Bv,Rz,Ra,Bw,QX,RD]
def ah3:List eA:=[Rn,RC,Rk,RE,Rp,Ro,Q3,Bx,Rb,Re,Rc,u4,By,xB,QA,BJ,QC,Rm,Q1,Q2]
def ah4:List eA:=[BF,Ei,Ej,BE,sI,QD,R5,QE,QM,O7,O8,QF,QG,xC,Br,QS,QT,QJ,QU,Rf]
def ah5:List eA:=[u5,u6,Ek,xM,Rh,Rl,QZ,Rj,RA,RB,QV,QK,QW,Ri,QY,Q0,BC,BD,qB,Bt]
def ah6:List eA:=[qC,Bz,BA,BB,xD,Bs,Fq,RP,sH,afw,afS,afv,agJ,agH,Fm,Rv,agF,agG,Fl,Rg]
def ah7:List eA:=[RU,RG,Ff]
def sa:List eA:=ah1++ah2++ah3++ah4++ah5++ah6++ah7
theorem ug:sa.all (uC prog)=true:=by kernel_rfl
def qY:cD cR:={GN with F:=Gm (α:=cR.D 17) lH}
theorem tZ:gO prog qY:=⟨GO.1,λh r ag=>GO.2 h r (acE Gp _ r ag)⟩
def sS(n:Int):Option aS:=
 some (⟨2,[121],1,false,true,(⟨2,false,n,[],0,[],[],[]⟩:I)⟩:aS)
theorem VX:aZ RN sS:= .bk
def sX(l:List aS):Option cY:=
 some (⟨(⟨[(⟨5,[82],0,0,0,[],l,0,0,false⟩:ai),(⟨2,[],0,9,0,[],[],0,0,false⟩:ai),(⟨1,[],0,0,0,[],[],0,0,false⟩:ai)]⟩:aT),0⟩:cY)
theorem Vz:aZ RO sX:= .bk
def n5:ar×ar×Int->Option ((Bool) ⊕ (Unit))
 |(a,b,i)=>
 if (i<(a.length:Int):Bool) then if aH i a.length then if aH i b.length then if !(a.getD i.toNat 0=b.getD i.toNat 0:Bool) then some (.inl false)else n5 (a,b,aN .i64 i 1)else none else none else some (.inr ())
  partial_fixpoint
theorem VY:cK 62 0 [0] RV n5:= .rx n5.partial_correctness
def rK:ar×ar->Option Bool
 |(a,b)=>
 if !((a.length:Int)=(b.length:Int):Bool) then some false else n5 (a,b,0)>>=λo=>match o with
  |.inl c=>
   some c
  |.inr e=>
   some true
theorem Wo:aZ RU rK:= .bk .n (.k VY .n)
def rz:List ar×List ar×Int->Option ((Bool) ⊕ (Unit))
 |(a,b,i)=>
 if (i<(a.length:Int):Bool) then if aH i a.length then if aH i b.length then rK (a.getD i.toNat [],b.getD i.toNat [])>>=λr=>if !r then some (.inl false)else rz (a,b,aN .i64 i 1)else none else none else some (.inr ())
  partial_fixpoint
theorem UB:cK 26 0 [0] RH rz:= .rx rz.partial_correctness (.k Wo .n)
def x9:List ar×List ar->Option Bool
 |(a,b)=>
 if !((a.length:Int)=(b.length:Int):Bool) then some false else rz (a,b,0)>>=λo=>match o with
  |.inl c=>
   some c
  |.inr e=>
   some true
theorem Vr:aZ RG x9:= .bk .n (.k UB .n)
noncomputable def qZ:aT->Option Int:=lz prog sa [pn,pq,pr,qY,p2,pX] 3000 Bu
theorem XR:aZ Bu qZ:= .run ug (.k n4 (.k nC (.k pt (.k tZ (.k qV (.k sW .n)))))) (.m (by kernel_rfl)) 3000 λ_=>rfl
noncomputable def vr:aT×Int×ak->Option (I×Int):=lz prog sa [pn,pq,pr,qY,p2,pX] 3000 BJ
theorem Wh:aZ BJ vr:= .run ug (.k n4 (.k nC (.k pt (.k tZ (.k qV (.k sW .n)))))) (.m (by kernel_rfl)) 3000 λ_=>rfl
noncomputable def CQ:aT×Int×I->Option (I×Int):=lz prog sa [pn,pq,pr,qY,p2,pX] 3000 Br
theorem Xn:aZ Br CQ:= .run ug (.k n4 (.k nC (.k pt (.k tZ (.k qV (.k sW .n)))))) (.m (by kernel_rfl)) 3000 λ_=>rfl
noncomputable def x':aT×Int×I×aT×Int->Option (I×Int):=lz prog sa [pn,pq,pr,qY,p2,pX] 3000 Bs
theorem Vs:aZ Bs x':= .run ug (.k n4 (.k nC (.k pt (.k tZ (.k qV (.k sW .n)))))) (.m (by kernel_rfl)) 3000 λ_=>rfl
noncomputable def vt:aT×Int×I->Option (ak×Int):=lz prog sa [pn,pq,pr,qY,p2,pX] 3000 Bt
theorem Wi:aZ Bt vt:= .run ug (.k n4 (.k nC (.k pt (.k tZ (.k qV (.k sW .n)))))) (.m (by kernel_rfl)) 3000 λ_=>rfl
noncomputable def Hx:aT×Int×I->Option (List ar×Int):=lz prog sa [pn,pq,pr,qY,p2,pX] 3000 Fl
theorem Xo:aZ Fl Hx:= .run ug (.k n4 (.k nC (.k pt (.k tZ (.k qV (.k sW .n)))))) (.m (by kernel_rfl)) 3000 λ_=>rfl
noncomputable def G1:Int×I×Int×I×ar×List ai×List ai×List ar->Option (List ai×List ai×List ar):=lz prog sa [pn,pq,pr,qY,p2,pX] 3000 Fm
theorem UC:aZ Fm G1:= .run ug (.k n4 (.k nC (.k pt (.k tZ (.k qV (.k sW .n)))))) (.m (by kernel_rfl)) 3000 λ_=>rfl
noncomputable def vu (r:cY):Option Int:=
 qZ r.cW>>=λa=>if !(a=0:Bool) then some a
 else if(bif (r.aw<0:Bool)then true else ((r.cW.Types.length:Int)<=r.aw:Bool)) then some 4
  else some 0
theorem Xv:aZ Fe vu:= .bk (.k XR .n)
noncomputable def mD (b:List cY×Int×Int):Option ((Int) ⊕ (Unit)):=
 match b with
 |(t6,a,t8)=>
 if (t8<a:Bool) then if aH t8 t6.length then vu (t6.getD t8.toNat IN)>>=λr=>if !(r=0:Bool) then some (.inl r)
   else mD (t6,a,aN .i64 t8 1)
  else none
 else some (.inr ())
  partial_fixpoint
theorem VA:cK 65 0 [0] Fp mD:= .rx mD.partial_correctness (.k Xv .n)
noncomputable def vv (l:List cY):Option Int:=
 mD (l,(l.length:Int),0)>>=λo=>match o with
 |.inl a=>
  some a
 |.inr b=>
  some 0
theorem Xw:aZ Fo vv:= .bk .n (.k VA .n)
noncomputable def s4 (g:cY×cY×ak):Option (eR×Int):=
 match g with
 |(w,r,m)=>
 vr (w.cW,w.aw,m)>>=λa=>if !(a.2=0:Bool) then some ((⟨(⟨0,false,0,[],0,[],[],[]⟩:I),(⟨0,false,0,[],0,[],[],[]⟩:I),[]⟩:eR),12)
 else CQ (w.cW,w.aw,I.eta a.1)>>=λe=>if !(e.2=0:Bool) then some ((⟨(⟨0,false,0,[],0,[],[],[]⟩:I),(⟨0,false,0,[],0,[],[],[]⟩:I),[]⟩:eR),12)
  else x' (w.cW,w.aw,I.eta e.1,r.cW,r.aw)>>=λf=>if !(f.2=0:Bool) then some ((⟨(⟨0,false,0,[],0,[],[],[]⟩:I),(⟨0,false,0,[],0,[],[],[]⟩:I),[]⟩:eR),12)
   else vt (w.cW,w.aw,I.eta a.1)>>=λc=>if !(c.2=0:Bool) then some ((⟨(⟨0,false,0,[],0,[],[],[]⟩:I),(⟨0,false,0,[],0,[],[],[]⟩:I),[]⟩:eR),3)
    else vr (r.cW,r.aw,c.1)>>=λb=>if !(b.2=0:Bool) then some ((⟨(⟨0,false,0,[],0,[],[],[]⟩:I),(⟨0,false,0,[],0,[],[],[]⟩:I),[]⟩:eR),12)
     else vt (r.cW,r.aw,I.eta b.1)>>=λd=>if !(d.2=0:Bool) then some ((⟨(⟨0,false,0,[],0,[],[],[]⟩:I),(⟨0,false,0,[],0,[],[],[]⟩:I),[]⟩:eR),3)
      else some ((⟨I.eta a.1,I.eta b.1,d.1⟩:eR),0)
theorem Wy:aZ Fq s4:= .bk (.k Wh (.k Xn (.k Vs (.k Wi .n))))
noncomputable def q6 (c:cY×cY×ak):Option (eR×Int):=
 match c with
 |(w,r,m)=>
 vv [w,r]>>=λb=>if !(b=0:Bool) then some ((⟨(⟨0,false,0,[],0,[],[],[]⟩:I),(⟨0,false,0,[],0,[],[],[]⟩:I),[]⟩:eR),b)
 else s4 (w,r,m)>>=λa=>some ((⟨I.eta a.1.v,I.eta a.1.u,a.1.message⟩:eR),a.2)
theorem GF:aZ RP q6:= .bk (.k Xw (.k Wy .n))
noncomputable def pZ (b:cY×cY×ak):Option (ak×Int):=
 match b with
 |(w,r,m)=>
 q6 (w,r,m)>>=λa=>some (a.1.message,a.2)
theorem Wz:aZ sH pZ:= .bk (.k GF .n)
noncomputable def zl (c:cY×cY×ak):Option (List ar×Int):=
 match c with
 |(w,r,m)=>
 q6 (w,r,m)>>=λa=>if !(a.2=0:Bool) then some ([],a.2)
 else G1 (w.aw,I.eta a.1.v,r.aw,I.eta a.1.u,[],w.cW.Types,r.cW.Types,[])>>=λb=>some (b.2.2,0)
theorem Xx:aZ Rv zl:= .bk (.k GF (.k UC .n))
noncomputable def yT (c:cY×cY×ak):Option (List ar×Int):=
 match c with
 |(w,r,m)=>
 q6 (w,r,m)>>=λa=>if !(a.2=0:Bool) then some ([],a.2)
 else Hx (r.cW,r.aw,I.eta a.1.u)>>=λb=>some (b.1,b.2)
theorem W7:aZ Rg yT:= .bk (.k GF (.k Xo .n))
noncomputable def C7 (_:Unit):Option Bool:=
 sS 3>>=λr=>sX [(⟨1,[120],1,false,false,(⟨0,false,0,[],0,[],[],[]⟩:I)⟩:aS),(⟨r.ad,r.Name,r.aw,r.cg,r.bV,I.eta r.bB⟩:aS)]>>=λe=>sS 3>>=λc=>sX [(⟨c.ad,c.Name,c.aw,c.cg,c.bV,I.eta c.bB⟩:aS),(⟨4,[122],2,false,true,(⟨1,true,0,[],0,[],[],[]⟩:I)⟩:aS)]>>=λo=>pZ (e,o,[2,1,10])>>=λg=>sS 3>>=λd=>sX [(⟨d.ad,d.Name,d.aw,d.cg,d.bV,I.eta d.bB⟩:aS),(⟨4,[122],2,false,true,(⟨1,true,0,[],0,[],[],[]⟩:I)⟩:aS)]>>=λp=>zl (e,p,[2,1,10])>>=λi=>sS 3>>=λa=>sX [(⟨a.ad,a.Name,a.aw,a.cg,a.bV,I.eta a.bB⟩:aS),(⟨4,[122],2,false,true,(⟨1,true,0,[],0,[],[],[]⟩:I)⟩:aS)]>>=λj=>yT (e,j,[2,1,10])>>=λf=>sS 4>>=λb=>sX [(⟨b.ad,b.Name,b.aw,b.cg,b.bV,I.eta b.bB⟩:aS),(⟨4,[122],2,false,true,(⟨1,true,0,[],0,[],[],[]⟩:I)⟩:aS)]>>=λk=>pZ (e,k,[2,1,10])>>=λl=>some (bif bif bif bif decide (g.2=0)then decide (i.2=0)else false then decide (f.2=0)else false then decide (l.2=12)else false then decide (g.1=[2,1,10])else false)>>=λt76=>(if t76 then x9 (i.1,[[4]])else some false)>>=λm=>some (bif t76 then m else false)>>=λt82=>(if t82 then x9 (f.1,[[]])else some false)>>=λn=>some (bif t82 then n else false)
theorem VB:aZ Ff C7:= .bk (.k VX (.k Vz (.k Wz (.k Xx (.k W7 (.k Vr .n))))))
def iD(n:Int):aS:=⟨2,[121],1,false,true,⟨2,false,n,[],0,[],[],[]⟩⟩
def uZ:aS:=⟨1,[120],1,false,false,⟨0,false,0,[],0,[],[],[]⟩⟩
def sA:aS:=⟨4,[122],2,false,true,⟨1,true,0,[],0,[],[],[]⟩⟩
def fZ(l:List aS):cY:=⟨⟨[⟨5,[82],0,0,0,[],l,0,0,false⟩,⟨2,[],0,9,0,[],[],0,0,false⟩,⟨1,[],0,0,0,[],[],0,0,false⟩]⟩,0⟩
def oU:I:=⟨5,false,0,[],0,[],[⟨2,false,5,[],0,[],[],[]⟩,⟨2,false,3,[],0,[],[],[]⟩],[]⟩
def sy:I:=⟨5,false,0,[],0,[],[⟨2,false,3,[],0,[],[],[]⟩,⟨1,true,0,[],0,[],[],[]⟩],[⟨1,[10]⟩]⟩
def gR:cY:=fZ [uZ,iD 3]
def iU:cY:=fZ [iD 3,sA]
def sx:cY:=fZ [iD 4,sA]
theorem adX(n:Int):sS n=some (iD n):=rfl
theorem adY(l:List aS):sX l=some (fZ l):=rfl
theorem ae8(n:Int):(⟨(iD n).ad,(iD n).Name,(iD n).aw,(iD n).cg,(iD n).bV,(iD n).bB⟩:aS)=iD n:=rfl
theorem ae7:(⟨1,[120],1,false,false,(⟨0,false,0,[],0,[],[],[]⟩:I)⟩:aS)=uZ:=rfl
theorem ae9:(⟨4,[122],2,false,true,(⟨1,true,0,[],0,[],[],[]⟩:I)⟩:aS)=sA:=rfl
theorem Qq:qZ gR.cW=some 0:=by kernel_rfl
theorem ae2:qZ iU.cW=some 0:=by kernel_rfl
theorem ae3:qZ sx.cW=some 0:=by kernel_rfl
theorem Ql:vr (gR.cW,gR.aw,[2,1,10])=some (oU,0):=by kernel_rfl
theorem aeN:vr (iU.cW,iU.aw,[2,1,10])=some (sy,0):=by kernel_rfl
theorem Qo:CQ (gR.cW,gR.aw,oU)=some (oU,0):=by kernel_rfl
theorem ae0:x' (gR.cW,gR.aw,oU,iU.cW,iU.aw)=some (sy,0):=by kernel_rfl
theorem ae1:x' (gR.cW,gR.aw,oU,sx.cW,sx.aw)=some (⟨0,false,0,[],0,[],[],[]⟩,12):=by kernel_rfl
theorem aeO:vt (gR.cW,gR.aw,oU)=some ([2,1,10],0):=by kernel_rfl
theorem aeP:vt (iU.cW,iU.aw,sy)=some ([2,1,10],0):=by kernel_rfl
theorem aeZ:Hx (iU.cW,iU.aw,sy)=some ([[]],0):=by kernel_rfl
theorem aeK:G1 (gR.aw,oU,iU.aw,sy,[],gR.cW.Types,iU.cW.Types,[])=some (gR.cW.Types,iU.cW.Types,[[4]]):=by kernel_rfl
theorem Qr{l:List aS}(h:qZ (fZ l).cW=some 0):vu (fZ l)=some 0:=by
 rw[vu,h];rfl
theorem Qt{l m:List aS}(h1:qZ (fZ l).cW=some 0)(b:qZ (fZ m).cW=some 0):vv [fZ l,fZ m]=some 0:=by
 have a:mD ([fZ l,fZ m],2,2)=some (.inr ()):=by rw[mD];rfl
 have aM:mD ([fZ l,fZ m],2,1)=some (.inr ()):=by
  rw[mD,ae (by decide),ae (by rfl)];show(vu (fZ m)>>=_)=_;rw[Qr b];exact a
 have cZ:mD ([fZ l,fZ m],2,0)=some (.inr ()):=by
  rw[mD,ae (by decide),ae (by rfl)];show(vu (fZ l)>>=_)=_;rw[Qr h1];exact aM
 rw[vv];show(mD ([fZ l,fZ m],2,0)>>=_)=_;rw[cZ];rfl
def xz(gd:aT×Int×ak->Option (I×Int))(gs:aT×Int×I->Option (I×Int))(va:aT×Int×I×aT×Int->Option (I×Int))(ge:aT×Int×I->Option (ak×Int))(g:cY×cY×ak):Option (eR×Int):=
 match g with
 |(w,r,m)=>
 gd (w.cW,w.aw,m)>>=λa=>if !(a.2=0:Bool) then some ((⟨(⟨0,false,0,[],0,[],[],[]⟩:I),(⟨0,false,0,[],0,[],[],[]⟩:I),[]⟩:eR),12)else gs (w.cW,w.aw,I.eta a.1)>>=λe=>if !(e.2=0:Bool) then some ((⟨(⟨0,false,0,[],0,[],[],[]⟩:I),(⟨0,false,0,[],0,[],[],[]⟩:I),[]⟩:eR),12)else va (w.cW,w.aw,I.eta e.1,r.cW,r.aw)>>=λf=>if !(f.2=0:Bool) then some ((⟨(⟨0,false,0,[],0,[],[],[]⟩:I),(⟨0,false,0,[],0,[],[],[]⟩:I),[]⟩:eR),12)else ge (w.cW,w.aw,I.eta a.1)>>=λc=>if !(c.2=0:Bool) then some ((⟨(⟨0,false,0,[],0,[],[],[]⟩:I),(⟨0,false,0,[],0,[],[],[]⟩:I),[]⟩:eR),3)else gd (r.cW,r.aw,c.1)>>=λb=>if !(b.2=0:Bool) then some ((⟨(⟨0,false,0,[],0,[],[],[]⟩:I),(⟨0,false,0,[],0,[],[],[]⟩:I),[]⟩:eR),12)else ge (r.cW,r.aw,I.eta b.1)>>=λd=>if !(d.2=0:Bool) then some ((⟨(⟨0,false,0,[],0,[],[],[]⟩:I),(⟨0,false,0,[],0,[],[],[]⟩:I),[]⟩:eR),3)else some ((⟨I.eta a.1,I.eta b.1,d.1⟩:eR),0)
theorem Qy:s4=xz vr CQ x' vt:=rfl
section
variable {gd:aT×Int×ak->Option (I×Int)}{gs:aT×Int×I->Option (I×Int)}{va:aT×Int×I×aT×Int->Option (I×Int)}{ge:aT×Int×I->Option (ak×Int)}{A B:cY}{m o:ak}{v u w:I}
theorem adZ (h1:gd (A.cW,A.aw,m)=some (v,0))(a:gs (A.cW,A.aw,v)=some (v,0))(b:va (A.cW,A.aw,v,B.cW,B.aw)=some (w,0))(c:ge (A.cW,A.aw,v)=some (m,0))
 (bc:gd (B.cW,B.aw,m)=some (u,0))(d:ge (B.cW,B.aw,u)=some (o,0)):xz gd gs va ge (A,B,m)=some (⟨v,u,o⟩,0):=by
 unfold xz;simp[h1,a,b,c,bc,d,I.aV]
theorem ad0(h1:gd (A.cW,A.aw,m)=some (v,0))(a:gs (A.cW,A.aw,v)=some (v,0))(b:va (A.cW,A.aw,v,B.cW,B.aw)=some (w,12)):
 xz gd gs va ge (A,B,m)=some (⟨⟨0,false,0,[],0,[],[],[]⟩,⟨0,false,0,[],0,[],[],[]⟩,[]⟩,12):=by
 unfold xz;simp[h1,a,b,I.aV]
theorem SB{e:Int}(h1:go [A,B]=some 0)(c:gc (A,B,m)=some (⟨v,u,o⟩,e)):
 (go [A,B]>>=λb=>if !(b=0:Bool) then some ((⟨(⟨0,false,0,[],0,[],[],[]⟩:I),(⟨0,false,0,[],0,[],[],[]⟩:I),[]⟩:eR),b)
  else gc (A,B,m)>>=λa=>some ((⟨I.eta a.1.v,I.eta a.1.u,a.1.message⟩:eR),a.2))=some (⟨v,u,o⟩,e):=by
 rw[h1];simp[c,I.aV]
end
theorem aeL:s4 (gR,iU,[2,1,10])=some (⟨oU,sy,[2,1,10]⟩,0):=by
 rw[Qy];exact adZ Ql Qo ae0 aeO aeN aeP
theorem aeM:s4 (gR,sx,[2,1,10])=some (⟨⟨0,false,0,[],0,[],[],[]⟩,⟨0,false,0,[],0,[],[],[]⟩,[]⟩,12):=by
 rw[Qy];exact ad0 Ql Qo ae1
theorem E8:q6 (gR,iU,[2,1,10])=some (⟨oU,sy,[2,1,10]⟩,0):=by
 have h:vv [gR,iU]=some 0:=Qt Qq ae2;rw[q6];exact SB (gc:=s4) h aeL
theorem ae4:q6 (gR,sx,[2,1,10])=some (⟨⟨0,false,0,[],0,[],[],[]⟩,⟨0,false,0,[],0,[],[],[]⟩,[]⟩,12):=by
 have h:vv [gR,sx]=some 0:=Qt Qq ae3;rw[q6];exact SB (gc:=s4) h aeM
theorem aeQ:pZ (gR,iU,[2,1,10])=some ([2,1,10],0):=by rw[pZ,E8];rfl
theorem aeR:pZ (gR,sx,[2,1,10])=some ([],12):=by rw[pZ,ae4];rfl
theorem aeS:zl (gR,iU,[2,1,10])=some ([[4]],0):=by
 rw[zl,E8];simp[aeK,I.aV]
theorem aeT:yT (gR,iU,[2,1,10])=some ([[]],0):=by
 rw[yT,E8];simp[aeZ,I.aV]
theorem ae6:rK ([4],[4])=some true:=by
 have h1:n5 ([4],[4],1)=some (.inr ()):=by rw[n5];rfl
 have h0:n5 ([4],[4],0)=some (.inr ()):=by
  rw[n5];exact h1
 rw[rK,h0];rfl
theorem ae5:rK ([],[])=some true:=by
 have h0:n5 ([],[],0)=some (.inr ()):=by rw[n5];rfl
 rw[rK,h0];rfl
theorem Qs{p:ar}(a:rK (p,p)=some true):x9 ([p],[p])=some true:=by
 have h1:rz ([p],[p],1)=some (.inr ()):=by rw[rz];rfl
 have h0:rz ([p],[p],0)=some (.inr ()):=by
  rw[rz,ae (by rfl),ae (by rfl),ae (by rfl)];show(rK (p,p)>>=_)=_;rw[a];exact h1
 rw[x9,h0];rfl
theorem aam:C7 ()=some true:=by
 have k1:pZ (fZ [uZ,iD 3],fZ [iD 3,sA],[2,1,10])=_:=aeQ;have k2:pZ (fZ [uZ,iD 3],fZ [iD 4,sA],[2,1,10])=_:=aeR;have k3:zl (fZ [uZ,iD 3],fZ [iD 3,sA],[2,1,10])=_:=aeS;have k4:yT (fZ [uZ,iD 3],fZ [iD 3,sA],[2,1,10])=_:=aeT;unfold C7;simp only[aU,ao,adX,adY,I.aV,ae8,ae7,ae9];rw[k1,k3,k4,k2];simp only[ao,de,ev,b5];rw[Qs ae6];simp only[ao,ev,b5];rw[Qs ae5];rfl
def ya(_:Unit):Option Bool:=some true
theorem WA:aZ Ff ya:=by
 have:C7=ya:=by funext x;exact aam
 rw[<-this];exact VB
theorem Tn:ya ()=some true:=rfl
def qS:et×Int->Option Int
 |(d,i)=>
 if aH i d.ei.length then some (aN .i64 1 (bU .i64 (b6 (d.ei.getD i.toNat bu).Kind 9)))else none
theorem yr:aZ agn qS:= .bk
def j5(a:Int):Option Bool:=
 some (bif bif decide (a=4)then true else decide (a=5)then true else decide (a=6))
theorem G3:aZ ago j5:= .bk
def p3(a:dx):Option Int:=
 some (dq .i64 (bU .i64 (b6 a.A 7)) 3)
theorem Gy:aZ agp p3:= .bk
def tT(a:dx):Option Int:=
 p3 a>>=λr=>some (aN .i64 r (bU .i64 (b6 a.B 6)))
theorem TW:aZ agq tT:= .bk (.k Gy .n)
def pY:Int×dx×ar->Option ar
 |(i,b,a)=>
 if (i<6:Bool) then if (0<=i:Bool) then if (b6 (lG .u8 b.A i) 2=1:Bool) then some [aN .i64 i 1]>>=λt18=>if room 8 (a++t18).length then pY (aN .i64 i 1,b,a++t18)else none else pY (aN .i64 i 1,b,a)else none else some a
  partial_fixpoint
theorem VC:cK 72 0 [0] RW pY:= .rx pY.partial_correctness
def nJ(a:dx):Option ar:=
 pY (0,a,[])>>=λo=>if ((o.length:Int)=0:Bool) then some [1]>>=λt24=>if room 8 (o++t24).length then some (o++t24)else none else some o
theorem T2:aZ agr nJ:= .bk .n (.k VC .n)
def ys(a:Int):Option Bool:=
 some (decide (7<=a))
theorem Tq:aZ afy ys:= .bk
def n1:Int×Int×List dx->Option ((Int) ⊕ (Unit))
 |(n,k,b)=>
 if (k<n:Bool) then qS ((⟨b⟩:et),k)>>=λa=>ys a>>=λc=>if c then some (.inl k)else n1 (n,aN .i64 k 1,b)else some (.inr ())
  partial_fixpoint
theorem UQ:cK 109 0 [0] Ps n1:= .rx n1.partial_correctness (.k yr (.k Tq .n))
def yt(c:et×Int×Int):Option Int:=
 match c with
 |(d,i,code)=>
 some (d.ei.length:Int)>>=λt12=>if !(t12=0:Bool) then some (b6 (bU .i64 code) t12)>>=λt16=>qS (d,t16)>>=λr=>ys r>>=λb=>if(bif b then true else (t16<i:Bool)) then some t16 else if (0<i:Bool) then if !(i=0:Bool) then some (b6 t16 i)else none else n1 (t12,0,d.ei)>>=λo=>match o with
 |.inl a=>
 some a
 |.inr e=>
 some (-1)else none
theorem VD:aZ afg yt:= .bk (.k yr (.k Tq .n)) (.k UQ .n)
def yk(a:Int):Option Bool:=
 some (bif decide (1<=a)then decide (a<=4)else false)
theorem To:aZ afi yk:= .bk
def nD:Int×Int×Int×List dx->Option ((Int) ⊕ (Unit))
 |(a,n,k,b)=>
 if (k<n:Bool) then if !(n=0:Bool) then some (b6 (aN .i64 (bU .i64 a) k) n)>>=λt21=>qS ((⟨b⟩:et),t21)>>=λr=>yk r>>=λc=>if c then some (.inl t21)else nD (a,n,aN .i64 k 1,b)else none else some (.inr ())
  partial_fixpoint
theorem VE:cK 74 0 [0] RY nD:= .rx nD.partial_correctness (.k yr (.k To .n))
def tY(b:et×Int):Option Int:=
 match b with
 |(d,code)=>
 nD (code,(d.ei.length:Int),0,d.ei)>>=λo=>match o with
 |.inl a=>
 some a
 |.inr c=>
 some (-1)
theorem T3:aZ agt tY:= .bk .n (.k VE .n)
def yl:et×Int×Int->Option (I×Bool)
 |(d,t,code)=>
 if aH t d.ei.length then some (d.ei.getD t.toNat bu)>>=λa=>qS (d,t)>>=λr=>some (decide (r=8))>>=λt21=>(if t21 then tY (d,0)else some 0)>>=λc=>if(bif t21 then (c<0:Bool)else false) then some ((⟨7,false,0,[],0,[],[],[]⟩:I),true)else if (r=1:Bool) then some ((⟨r,decide (b6 code 2=1),0,[],0,[],[],[]⟩:I),true)else if (r=2:Bool) then p3 a>>=λe=>tT a>>=λf=>p3 a>>=λg=>some (aN .i64 (dq .i64 f g) 1)>>=λt47=>if !(t47=0:Bool) then some ((⟨r,false,aN .i64 e (b6 (bU .i64 code) t47),[],0,[],[],[]⟩:I),true)else none else if (r=3:Bool) then if(bif (0<b6 a.A 4:Bool)then (b6 code 2=1:Bool)else false) then some ((⟨r,false,0,[97],0,[],[],[]⟩:I),true)else some ((⟨r,false,0,[],0,[],[],[]⟩:I),true)else if (r=4:Bool) then nJ a>>=λb=>nJ a>>=λi=>some (i.length:Int)>>=λt71=>if !(t71=0:Bool) then some (b6 (bU .i64 code) t71)>>=λt72=>if aH t72 b.length then some ((⟨r,false,0,[],b.getD t72.toNat 0,[],[],[]⟩:I),true)else none else none else some (decide (r=5))>>=λt77=>if t77 then if t77 then some ((⟨0,false,0,[],0,[],[],[]⟩:I),false)else some ((⟨r,false,0,[],0,[],[],[]⟩:I),true)else if (r=6:Bool) then some ((⟨0,false,0,[],0,[],[],[]⟩:I),false)else some ((⟨r,false,0,[],0,[],[],[]⟩:I),true)else none
theorem VZ:aZ afh yl:= .bk (.k yr (.k T3 (.k Gy (.k TW (.k T2 .n)))))
def ru:Int×Bool×Int×Int×List dx×dx×List aS->Option (Int×Bool×Int×List dx×dx×List aS)
 |(f,e,a,k,c,d,b)=>
 if (k<(d.c0.length:Int):Bool) then if aH k d.c0.length then some (d.c0.getD k.toNat jc)>>=λg=>yt ((⟨c⟩:et),f,g.aw)>>=λr=>if(bif (!(aN .i64 1 (bU .i64 (b6 g.ad 12))=a:Bool))then true else (r<0:Bool)) then ru (f,e,a,aN .i64 k 1,c,d,b)else some (mR (bU .i32 (aN .i64 97 a)))>>=λt55=>if ([109].length+t55.length<=eG:Bool) then some ([109]++t55)>>=λt56=>if(bif e then (b6 g.hb 4=1:Bool)else false) then if(bif e then (2<=b6 g.hb 4:Bool)else false) then yl ((⟨c⟩:et),r,fC .u8 g.hb 4)>>=λi=>some [(⟨a,t56,r,true,i.2,I.eta i.1⟩:aS)]>>=λt87=>if room 160 (b++t87).length then some (f,e,a,c,d,b++t87)else none else some [(⟨a,t56,r,true,false,(⟨0,false,0,[],0,[],[],[]⟩:I)⟩:aS)]>>=λl=>if room 160 (b++l).length then some (f,e,a,c,d,b++l)else none else if(bif e then (2<=b6 g.hb 4:Bool)else false) then yl ((⟨c⟩:et),r,fC .u8 g.hb 4)>>=λj=>some [(⟨a,t56,r,false,j.2,I.eta j.1⟩:aS)]>>=λm=>if room 160 (b++m).length then some (f,e,a,c,d,b++m)else none else some [(⟨a,t56,r,false,false,(⟨0,false,0,[],0,[],[],[]⟩:I)⟩:aS)]>>=λn=>if room 160 (b++n).length then some (f,e,a,c,d,b++n)else none else none else none else some (f,e,a,c,d,b)
  partial_fixpoint
theorem Vl:cK 73 0 [0,0] Ox ru:= .rx ru.partial_correctness (.k VD (.k VZ .n))
def rA:Int×Bool×Int×List dx×dx×List aS->Option (List aS)
 |(e,f,id,c,d,b)=>
 if (id<=12:Bool) then ru (e,f,id,0,c,d,b)>>=λa=>rA (a.1,a.2.1,aN .i64 a.2.2.1 1,a.2.2.2.1,a.2.2.2.2.1,a.2.2.2.2.2)else some b
  partial_fixpoint
theorem UD:cK 73 0 [0] RX rA:= .rx rA.partial_correctness .n (.k Vl .n)
def s5:et×Int×Bool->Option (List aS)
 |(d,i,record)=>
 if aH i d.ei.length then rA (i,record,1,d.ei,d.ei.getD i.toNat bu,[])>>=λo=>some o else none
theorem WB:aZ ags s5:= .bk .n (.k UD .n)
def po:Int×Int×ar×Int×List dx×Int×ak×Int×Int×Int×Int×Int×Bool×List ai×List c3->Option (Int×Int×List dx×Int×ak×Int×Int×Int×Int×Int×Bool×List ai×List c3)
 |(p,o,a,k,c,d,e,f,g,i,j,l,m,n,b)=>
 if (k<(a.length:Int):Bool) then if aH k a.length then if aH k a.length then some (mR (bU .i32 (aN .i64 97 (a.getD k.toNat 0))))>>=λt87=>if ([115].length+t87.length<=eG:Bool) then some [(⟨a.getD k.toNat 0,[115]++t87⟩:c3)]>>=λt90=>if room 24 (b++t90).length then po (p,o,a,aN .i64 k 1,c,d,e,f,g,i,j,l,m,n,b++t90)else none else none else none else none else some (p,o,c,d,e,f,g,i,j,l,m,n,b)
  partial_fixpoint
theorem V0:cK 34 0 [0,0] Oy po:= .rx po.partial_correctness
def fO:Int×Int×List dx×List ai->Option (List ai)
 |(n,i,b,a)=>
 if (i<n:Bool) then if aH i b.length then some (b.getD i.toNat bu)>>=λc=>qS ((⟨b⟩:et),i)>>=λr=>j5 r>>=λN=>if N then some (mR (bU .i32 (aN .i64 65 i)))>>=λt41=>if (r=2:Bool) then p3 c>>=λQ=>tT c>>=λR=>some [(⟨r,t41,Q,R,0,[],[],0,0,false⟩:ai)]>>=λt167=>if room 120 (a++t167).length then fO (n,aN .i64 i 1,b,a++t167)else none else if (r=3:Bool) then some [(⟨r,t41,0,0,bU .i64 (b6 c.A 4),[],[],0,0,false⟩:ai)]>>=λo=>if room 120 (a++o).length then fO (n,aN .i64 i 1,b,a++o)else none else if (r=4:Bool) then nJ c>>=λS=>po (n,i,S,0,b,r,t41,0,0,0,0,0,decide (b6 c.B 2=1),a,[])>>=λd=>some [(⟨d.2.2.2.1,d.2.2.2.2.1,d.2.2.2.2.2.1,d.2.2.2.2.2.2.1,d.2.2.2.2.2.2.2.1,d.2.2.2.2.2.2.2.2.2.2.2.2,[],d.2.2.2.2.2.2.2.2.1,d.2.2.2.2.2.2.2.2.2.1,d.2.2.2.2.2.2.2.2.2.2.1⟩:ai)]>>=λD=>if room 120 (d.2.2.2.2.2.2.2.2.2.2.2.1++D).length then fO (d.1,aN .i64 d.2.1 1,d.2.2.1,d.2.2.2.2.2.2.2.2.2.2.2.1++D)else none else if (r=5:Bool) then s5 ((⟨b⟩:et),i,true)>>=λT=>some [(⟨r,t41,0,0,0,[],T,0,0,false⟩:ai)]>>=λG=>if room 120 (a++G).length then fO (n,aN .i64 i 1,b,a++G)else none else if (r=6:Bool) then s5 ((⟨b⟩:et),i,false)>>=λj=>if ((j.length:Int)=0:Bool) then some [(⟨5,t41,0,0,0,[],[],0,0,false⟩:ai)]>>=λH=>if room 120 (a++H).length then fO (n,aN .i64 i 1,b,a++H)else none else some [(⟨r,t41,0,0,0,[],j,0,0,decide (b6 c.B 2=1)⟩:ai)]>>=λI=>if room 120 (a++I).length then fO (n,aN .i64 i 1,b,a++I)else none else if (r=7:Bool) then if !(n=0:Bool) then some [(⟨r,t41,0,0,bU .i64 (b6 c.A 4),[],[],0,b6 (bU .i64 c.C) n,false⟩:ai)]>>=λJ=>if room 120 (a++J).length then fO (n,aN .i64 i 1,b,a++J)else none else none else if (r=8:Bool) then some (bU .i64 (b6 c.A 4))>>=λt135=>tY ((⟨b⟩:et),c.B)>>=λk=>if !(n=0:Bool) then some (b6 (bU .i64 c.C) n)>>=λt144=>if (k<0:Bool) then some [(⟨7,[],0,0,t135,[],[],0,t144,false⟩:ai)]>>=λK=>if room 120 (a++K).length then fO (n,aN .i64 i 1,b,a++K)else none else some [(⟨r,t41,0,0,t135,[],[],k,t144,false⟩:ai)]>>=λL=>if room 120 (a++L).length then fO (n,aN .i64 i 1,b,a++L)else none else none else if (r=9:Bool) then if !(n=0:Bool) then some [(⟨r,t41,0,0,0,[],[],0,b6 (bU .i64 c.C) n,false⟩:ai)]>>=λM=>if room 120 (a++M).length then fO (n,aN .i64 i 1,b,a++M)else none else none else some [(⟨r,t41,0,0,0,[],[],0,0,false⟩:ai)]>>=λp=>if room 120 (a++p).length then fO (n,aN .i64 i 1,b,a++p)else none else if (r=2:Bool) then p3 c>>=λU=>tT c>>=λV=>some [(⟨r,[],U,V,0,[],[],0,0,false⟩:ai)]>>=λq=>if room 120 (a++q).length then fO (n,aN .i64 i 1,b,a++q)else none else if (r=3:Bool) then some [(⟨r,[],0,0,bU .i64 (b6 c.A 4),[],[],0,0,false⟩:ai)]>>=λs=>if room 120 (a++s).length then fO (n,aN .i64 i 1,b,a++s)else none else if (r=4:Bool) then nJ c>>=λO=>po (n,i,O,0,b,r,[],0,0,0,0,0,decide (b6 c.B 2=1),a,[])>>=λe=>some [(⟨e.2.2.2.1,e.2.2.2.2.1,e.2.2.2.2.2.1,e.2.2.2.2.2.2.1,e.2.2.2.2.2.2.2.1,e.2.2.2.2.2.2.2.2.2.2.2.2,[],e.2.2.2.2.2.2.2.2.1,e.2.2.2.2.2.2.2.2.2.1,e.2.2.2.2.2.2.2.2.2.2.1⟩:ai)]>>=λt=>if room 120 (e.2.2.2.2.2.2.2.2.2.2.2.1++t).length then fO (e.1,aN .i64 e.2.1 1,e.2.2.1,e.2.2.2.2.2.2.2.2.2.2.2.1++t)
 else none else if (r=5:Bool) then s5 ((⟨b⟩:et),i,true)>>=λP=>some [(⟨r,[],0,0,0,[],P,0,0,false⟩:ai)]>>=λu=>if room 120 (a++u).length then fO (n,aN .i64 i 1,b,a++u)else none else if (r=6:Bool) then s5 ((⟨b⟩:et),i,false)>>=λf=>if ((f.length:Int)=0:Bool) then some [(⟨5,[],0,0,0,[],[],0,0,false⟩:ai)]>>=λv=>if room 120 (a++v).length then fO (n,aN .i64 i 1,b,a++v)else none else some [(⟨r,[],0,0,0,[],f,0,0,decide (b6 c.B 2=1)⟩:ai)]>>=λw=>if room 120 (a++w).length then fO (n,aN .i64 i 1,b,a++w)else none else if (r=7:Bool) then if !(n=0:Bool) then some [(⟨r,[],0,0,bU .i64 (b6 c.A 4),[],[],0,b6 (bU .i64 c.C) n,false⟩:ai)]>>=λx=>if room 120 (a++x).length then fO (n,aN .i64 i 1,b,a++x)else none else none else if (r=8:Bool) then some (bU .i64 (b6 c.A 4))>>=λl=>tY ((⟨b⟩:et),c.B)>>=λg=>if !(n=0:Bool) then some (b6 (bU .i64 c.C) n)>>=λm=>if (g<0:Bool) then some [(⟨7,[],0,0,l,[],[],0,m,false⟩:ai)]>>=λy=>if room 120 (a++y).length then fO (n,aN .i64 i 1,b,a++y)else none else some [(⟨r,[],0,0,l,[],[],g,m,false⟩:ai)]>>=λz=>if room 120 (a++z).length then fO (n,aN .i64 i 1,b,a++z)else none else none else if (r=9:Bool) then if !(n=0:Bool) then some [(⟨r,[],0,0,0,[],[],0,b6 (bU .i64 c.C) n,false⟩:ai)]>>=λE=>if room 120 (a++E).length then fO (n,aN .i64 i 1,b,a++E)else none else none else some [(⟨r,[],0,0,0,[],[],0,0,false⟩:ai)]>>=λF=>if room 120 (a++F).length then fO (n,aN .i64 i 1,b,a++F)else none else none else some a
  partial_fixpoint
theorem WC:cK 34 0 [0] RM fO:= .rx fO.partial_correctness (.k yr (.k G3 (.k Gy (.k TW (.k T2 (.k WB (.k T3 .n))))))) (.k V0 .n)
def q0(d:et):Option (aT×Bool):=
 some (d.ei.length:Int)>>=λt13=>if(bif (t13<1:Bool)then true else (5<t13:Bool)) then some ((⟨[]⟩:aT),false)else fO (t13,0,d.ei,[])>>=λo=>some ((⟨o⟩:aT),true)
theorem Ub:aZ af7 q0:= .bk .n (.k WC .n)
def iZ:Int×List ai×ar×Bool->Option (Int×List ai×ar×Bool)
 |(n,b,a,c)=>
 if ((a.length:Int)=0:Bool) then some (0,b,a,c)else if aH 0 a.length then if !(n=0:Bool) then if dY 1 (a.length:Int) a.length then some (b6 (bU .i64 (a.getD (0:Int).toNat 0)) n,b,ej a 1 (a.length:Int),c)else none else none else none
theorem te:aZ afz iZ:= .bk
def tb:ak×Int×List ai×ar×Bool->Option (ak×List ai×ar×Bool)
 |(b,n,c,d,e)=>
 if (0<n:Bool) then iZ (3,c,d,e)>>=λa=>some (mR (bU .i32 (aN .i64 97 a.1)))>>=λt21=>if (b.length+t21.length<=eG:Bool) then tb (b++t21,dq .i64 n 1,a.2.1,a.2.2.1,a.2.2.2)else none else some (b,c,d,e)
  partial_fixpoint
theorem U4:cK 148 1 [0] Pt tb:= .rx tb.partial_correctness (.k te .n)
def Cu:Int×List ai×ar×Bool->Option (ak×List ai×ar×Bool)
 |(most,b,a,c)=>
 iZ (aN .i64 (jf most 3) 1,b,a,c)>>=λr=>tb ([],r.1,r.2.1,r.2.2.1,r.2.2.2)>>=λo=>some (o.1,o.2.1,o.2.2.1,o.2.2.2)
theorem UF:aZ afA Cu:= .bk (.k te .n) (.k U4 .n)
def vI:List ai×ar×Bool->Option (Bool×List ai×ar×Bool)
 |(b,c,a)=>
 if a then iZ (4,b,c,a)>>=λr=>some (bif a then decide (r.1=3)else false,r.2.1,r.2.2.1,r.2.2.2)else some (bif a then false else false,b,c,a)
theorem UR:aZ afB vI:= .bk (.k te .n)
def pb:Int×Int×ai->Option ((Int×Bool) ⊕ (Unit))
 |(a,i,b)=>
 if (i<(b.ah.length:Int):Bool) then if aH i b.ah.length then if ((b.ah.getD i.toNat aB).ad=a:Bool) then some (.inl (i,true))else pb (a,aN .i64 i 1,b)else none else some (.inr ())
  partial_fixpoint
theorem US:cK 53 0 [0] RT pb:= .rx pb.partial_correctness
def hE(b:ai×Int):Option (Int×Bool):=
 match b with
 |(t,id)=>
 pb (id,0,t)>>=λo=>match o with
 |.inl a=>
 some (a.1,a.2)
 |.inr c=>
 some (0,false)
theorem mC:aZ agh hE:= .bk .n (.k US .n)
def n2:Int×Int×ai->Option ((Int×Bool) ⊕ (Unit))
 |(a,i,b)=>
 if (i<(b.bh.length:Int):Bool) then if aH i b.bh.length then if ((b.bh.getD i.toNat dL).ad=a:Bool) then some (.inl (i,true))else n2 (a,aN .i64 i 1,b)else none else some (.inr ())
  partial_fixpoint
theorem UT:cK 82 0 [0] R1 n2:= .rx n2.partial_correctness
def sY(b:ai×Int):Option (Int×Bool):=
 match b with
 |(t,id)=>
 n2 (id,0,t)>>=λo=>match o with
 |.inl a=>
 some (a.1,a.2)
 |.inr c=>
 some (0,false)
theorem Cn:aZ agA sY:= .bk .n (.k UT .n)
def CE:ai×Int->Option Bool
 |(t,n)=>
 hE (t,n)>>=λr=>sY (t,n)>>=λa=>some (bif r.2 then true else a.2)
theorem Wp:aZ afV CE:= .bk (.k mC (.k Cn .n))
def vG:Int×List ai×ar×Bool×ai->Option (Int×List ai×ar×Bool)
 |(a,b,c,d,e)=>
 CE (e,a)>>=λf=>if f then vG (aN .i64 a 1,b,c,d,e)else some (a,b,c,d)
  partial_fixpoint
theorem U2:cK 150 1 [0] Pu vG:= .rx vG.partial_correctness (.k Wp .n)
def rk:ai×List ai×ar×Bool->Option (Int×List ai×ar×Bool)
 |(t,b,a,c)=>
 iZ (14,b,a,c)>>=λr=>vG (aN .i64 1 r.1,r.2.1,r.2.2.1,r.2.2.2,t)>>=λo=>some (o.1,o.2.1,o.2.2.1,o.2.2.2)
theorem If:aZ afD rk:= .bk (.k te .n) (.k U2 .n)
def vJ:Int×List ai×ar×Bool->Option (bX×List ai×ar×Bool)
 |(n,b,a,c)=>
 some [[],[1],[97],[3,1,2]]>>=λt6=>iZ (4,b,a,c)>>=λr=>if aH r.1 t6.length then some ((⟨n,t6.getD r.1.toNat []⟩:bX),r.2.1,r.2.2.1,r.2.2.2)else none
theorem UU:aZ afE vJ:= .bk (.k te .n)
def kE:Bool×Bool->Option Int
 |(b,a)=>
 if a then some 0 else if b then some (-1)else some 1
theorem WD:aZ afR kE:= .bk
def vh(n:Int):Option Int:=
 if (0<=n:Bool) then some (gB .u64 2 (bU .u64 n))else some (aN .u64 (gB .u64 2 (bU .u64 (dq .i64 0 (aN .i64 n 1)))) 1)
theorem Tr:aZ age vh:= .bk
def n9:I×I->Option Int
 |(a,b)=>
 if !(a.Kind=b.Kind:Bool) then some 0 else if (a.Kind=1:Bool) then kE (b.bN,fy a.bN b.bN)>>=λr=>some r else if (a.Kind=2:Bool) then vh a.bd>>=λc=>vh b.bd>>=λd=>kE (decide (c<d),decide (a.bd=b.bd))>>=λe=>some e else if (a.Kind=3:Bool) then if !((a.bl.length:Int)=(b.bl.length:Int):Bool) then kE (decide ((a.bl.length:Int)<(b.bl.length:Int)),false)>>=λf=>some f else kE (Op.bytesLess a.bl b.bl,decide (a.bl=b.bl))>>=λg=>some g else if (a.Kind=4:Bool) then kE (decide (a.ad<b.ad),decide (a.ad=b.ad))>>=λi=>some i else some 0
theorem Ck:aZ aft n9:= .bk (.k WD (.k Tr .n))
def rE:Int×I×I×I×Int×Bool×Int×ak×Int->Option (Int×I×I×I×Int×Bool×Int×ak×Int)
 |(b,a,c,d,e,f,g,i,j)=>
 some (decide (b<(a.ay.length:Int)))>>=λt12=>if(aH b a.ay.length||(!t12)) then (if t12 then n9 (I.eta (a.ay.getD b.toNat av),I.eta c)else some 0)>>=λk=>if(bif t12 then (k<0:Bool)else false) then rE (aN .i64 b 1,I.eta a,I.eta c,I.eta d,e,f,g,i,j)else some (b,I.eta a,I.eta c,I.eta d,e,f,g,i,j)else none
  partial_fixpoint
theorem VF:cK 152 0 [0] Pv rE:= .rx rE.partial_correctness (.k Ck .n)
def CH:I×I×I->Option I
 |(v,key,item)=>
 rE (0,I.eta v,I.eta key,I.eta item,0,false,0,[],0)>>=λo=>some (decide (o.1<(o.2.1.ay.length:Int)))>>=λt29=>if(aH o.1 o.2.1.ay.length||(!t29)) then (if t29 then n9 (I.eta (o.2.1.ay.getD o.1.toNat av),I.eta o.2.2.1)else some 0)>>=λr=>if(bif t29 then (r=0:Bool)else false) then some (I.eta o.2.1)else if dY 0 o.1 o.2.1.ay.length then some (ej o.2.1.ay 0 o.1)>>=λt45=>if room 120 ([]++t45).length then some ([]++t45)>>=λl=>some [I.eta o.2.2.1]>>=λt48=>if room 120 (l++t48).length then some (l++t48)>>=λa=>if dY o.1 (o.2.1.ay.length:Int) o.2.1.ay.length then some (ej o.2.1.ay o.1 (o.2.1.ay.length:Int))>>=λt53=>if room 120 (a++t53).length then if dY 0 o.1 o.2.1.aj.length then some (ej o.2.1.aj 0 o.1)>>=λt60=>if room 120 ([]++t60).length then some ([]++t60)>>=λb=>some [I.eta o.2.2.2.1]>>=λt63=>if room 120 (b++t63).length then some (b++t63)>>=λc=>if dY o.1 (o.2.1.aj.length:Int) o.2.1.aj.length then some (ej o.2.1.aj o.1 (o.2.1.aj.length:Int))>>=λt68=>if room 120 (c++t68).length then some (⟨o.2.1.Kind,o.2.1.bN,o.2.1.bd,o.2.1.bl,o.2.1.ad,a++t53,c++t68,o.2.1.Rest⟩:I)else none else none else none else none else none else none else none else none else none else none else none
theorem Xy:aZ afF CH:= .bk (.k Ck .n) (.k VF .n)
mutual
def jH:Int×List ai×ar×Bool->Option (I×List ai×ar×Bool)
 |(t,b,e,f)=>
 if aH t b.length then some (b.getD t.toNat aJ)>>=λa=>if (a.Kind=1:Bool) then iZ (2,b,e,f)>>=λr=>some ((⟨a.Kind,decide (r.1=1),0,[],0,[],[],[]⟩:I),r.2.1,r.2.2.1,r.2.2.2)else if (a.Kind=2:Bool) then iZ (256,b,e,f)>>=λbq=>some (aN .i64 (dq .i64 a.bH a.bF) 1)>>=λt51=>if !(t51=0:Bool) then some ((⟨a.Kind,false,aN .i64 a.bF (b6 bq.1 t51),[],0,[],[],[]⟩:I),bq.2.1,bq.2.2.1,bq.2.2.2)else none else if (a.Kind=3:Bool) then Cu (a.Max,b,e,f)>>=λaK=>some ((⟨a.Kind,false,0,aK.1,0,[],[],[]⟩:I),aK.2.1,aK.2.2.1,aK.2.2.2)else if (a.Kind=4:Bool) then iZ ((a.bh.length:Int),b,e,f)>>=λp=>if aH p.1 a.bh.length then some (a.bh.getD p.1.toNat dL)>>=λhk=>if a.Open then vI (p.2.1,p.2.2.1,p.2.2.2)>>=λA=>if(bif a.Open then A.1 else false) then rk (a,A.2.1,A.2.2.1,A.2.2.2)>>=λbb=>some ((⟨a.Kind,false,0,[],bb.1,[],[],[]⟩:I),bb.2.1,bb.2.2.1,bb.2.2.2)else some ((⟨a.Kind,false,0,[],hk.ad,[],[],[]⟩:I),A.2.1,A.2.2.1,A.2.2.2)else if(bif a.Open then false else false) then rk (a,p.2.1,p.2.2.1,p.2.2.2)>>=λbc=>some ((⟨a.Kind,false,0,[],bc.1,[],[],[]⟩:I),bc.2.1,bc.2.2.1,bc.2.2.2)else some ((⟨a.Kind,false,0,[],hk.ad,[],[],[]⟩:I),p.2.1,p.2.2.1,p.2.2.2)else none else if (a.Kind=5:Bool) then mX (0,b,e,f,0,false,0,[],0,a.Kind,a.Name,a.bF,a.bH,a.Max,a.bh,a.ah,a.Key,a.aF,a.Open,a.Kind,false,0,[],0,[])>>=λo=>vI (o.1,o.2.1,o.2.2.1)>>=λB=>if B.1 then rk ((⟨o.2.2.2.2.2.2.2.2.1,o.2.2.2.2.2.2.2.2.2.1,o.2.2.2.2.2.2.2.2.2.2.1,o.2.2.2.2.2.2.2.2.2.2.2.1,o.2.2.2.2.2.2.2.2.2.2.2.2.1,o.2.2.2.2.2.2.2.2.2.2.2.2.2.1,o.2.2.2.2.2.2.2.2.2.2.2.2.2.2.1,o.2.2.2.2.2.2.2.2.2.2.2.2.2.2.2.1,o.2.2.2.2.2.2.2.2.2.2.2.2.2.2.2.2.1,o.2.2.2.2.2.2.2.2.2.2.2.2.2.2.2.2.2.1⟩:ai),B.2.1,B.2.2.1,B.2.2.2)>>=λbe=>vJ (be.1,be.2.1,be.2.2.1,be.2.2.2)>>=λbi=>some ((⟨o.2.2.2.2.2.2.2.2.2.2.2.2.2.2.2.2.2.2.1,o.2.2.2.2.2.2.2.2.2.2.2.2.2.2.2.2.2.2.2.1,o.2.2.2.2.2.2.2.2.2.2.2.2.2.2.2.2.2.2.2.2.1,o.2.2.2.2.2.2.2.2.2.2.2.2.2.2.2.2.2.2.2.2.2.1,o.2.2.2.2.2.2.2.2.2.2.2.2.2.2.2.2.2.2.2.2.2.2.1,[],o.2.2.2.2.2.2.2.2.2.2.2.2.2.2.2.2.2.2.2.2.2.2.2,[bi.1]⟩:I),bi.2.1,bi.2.2.1,bi.2.2.2)else some ((⟨o.2.2.2.2.2.2.2.2.2.2.2.2.2.2.2.2.2.2.1,o.2.2.2.2.2.2.2.2.2.2.2.2.2.2.2.2.2.2.2.1,o.2.2.2.2.2.2.2.2.2.2.2.2.2.2.2.2.2.2.2.2.1,o.2.2.2.2.2.2.2.2.2.2.2.2.2.2.2.2.2.2.2.2.2.1,o.2.2.2.2.2.2.2.2.2.2.2.2.2.2.2.2.2.2.2.2.2.2.1,[],o.2.2.2.2.2.2.2.2.2.2.2.2.2.2.2.2.2.2.2.2.2.2.2,[]⟩:I),B.2.1,B.2.2.1,B.2.2.2)else if (a.Kind=6:Bool) then if a.Open then vI (b,e,f)>>=λD=>if(bif a.Open then D.1 else false) then rk (a,D.2.1,D.2.2.1,D.2.2.2)>>=λag=>vJ (ag.1,ag.2.1,ag.2.2.1,ag.2.2.2)>>=λbs=>some ((⟨a.Kind,false,0,[],ag.1,[],[],[bs.1]⟩:I),bs.2.1,bs.2.2.1,bs.2.2.2)else iZ ((a.ah.length:Int),D.2.1,D.2.2.1,D.2.2.2)>>=λam=>if aH am.1 a.ah.length then some (a.ah.getD am.1.toNat aB)>>=λhm=>jH (hm.aw,am.2.1,am.2.2.1,am.2.2.2)>>=λbv=>some ((⟨a.Kind,false,0,[],hm.ad,[],[I.eta bv.1],[]⟩:I),bv.2.1,bv.2.2.1,bv.2.2.2)else none else if(bif a.Open then false else false) then rk (a,b,e,f)>>=λan=>vJ (an.1,an.2.1,an.2.2.1,an.2.2.2)>>=λbC=>some ((⟨a.Kind,false,0,[],an.1,[],[],[bC.1]⟩:I),bC.2.1,bC.2.2.1,bC.2.2.2)
 else iZ ((a.ah.length:Int),b,e,f)>>=λap=>if aH ap.1 a.ah.length then some (a.ah.getD ap.1.toNat aB)>>=λhs=>jH (hs.aw,ap.2.1,ap.2.2.1,ap.2.2.2)>>=λbR=>some ((⟨a.Kind,false,0,[],hs.ad,[],[I.eta bR.1],[]⟩:I),bR.2.1,bR.2.2.1,bR.2.2.2)else none else if (a.Kind=7:Bool) then iZ (aN .i64 (jf a.Max 3) 1,b,e,f)>>=λbS=>qK (bS.1,bS.2.1,bS.2.2.1,bS.2.2.2,0,false,0,[],0,a.Kind,a.Name,a.bF,a.bH,a.Max,a.bh,a.ah,a.Key,a.aF,a.Open,a.Kind,false,0,[],0,[])>>=λv=>some ((⟨v.2.2.2.2.2.2.2.2.1,v.2.2.2.2.2.2.2.2.2.1,v.2.2.2.2.2.2.2.2.2.2.1,v.2.2.2.2.2.2.2.2.2.2.2.1,v.2.2.2.2.2.2.2.2.2.2.2.2.1,[],v.2.2.2.2.2.2.2.2.2.2.2.2.2,[]⟩:I),v.1,v.2.1,v.2.2.1)else if (a.Kind=8:Bool) then iZ (aN .i64 (jf a.Max 3) 1,b,e,f)>>=λa0=>rj (a0.1,a0.2.1,a0.2.2.1,a0.2.2.2,0,false,0,[],0,a.Kind,a.Name,a.bF,a.bH,a.Max,a.bh,a.ah,a.Key,a.aF,a.Open,a.Kind,false,0,[],0,[],[],[])>>=λj=>some ((⟨j.2.2.2.2.2.2.2.2.1,j.2.2.2.2.2.2.2.2.2.1,j.2.2.2.2.2.2.2.2.2.2.1,j.2.2.2.2.2.2.2.2.2.2.2.1,j.2.2.2.2.2.2.2.2.2.2.2.2.1,j.2.2.2.2.2.2.2.2.2.2.2.2.2.1,j.2.2.2.2.2.2.2.2.2.2.2.2.2.2.1,j.2.2.2.2.2.2.2.2.2.2.2.2.2.2.2⟩:I),j.1,j.2.1,j.2.2.1)else iZ (2,b,e,f)>>=λx=>if (x.1=1:Bool) then jH (a.aF,x.2.1,x.2.2.1,x.2.2.2)>>=λa1=>some ((⟨a.Kind,false,0,[],0,[],[I.eta a1.1],[]⟩:I),a1.2.1,a1.2.2.1,a1.2.2.2)else some ((⟨a.Kind,false,0,[],0,[],[],[]⟩:I),x.2.1,x.2.2.1,x.2.2.2)else none
  partial_fixpoint
def mX:Int×List ai×ar×Bool×Int×Bool×Int×ak×Int×Int×ak×Int×Int×Int×List c3×List aS×Int×Int×Bool×Int×Bool×Int×ak×Int×List I->Option (List ai×ar×Bool×Int×Bool×Int×ak×Int×Int×ak×Int×Int×Int×List c3×List aS×Int×Int×Bool×Int×Bool×Int×ak×Int×List I)
 |(i,ax,aC,aE,F,G,H,J,K,L,M,N,O,P,Q,c,R,S,U,W,X,Y,Z,af,q)=>
 if (i<(c.length:Int):Bool) then if aH i c.length then some (c.getD i.toNat aB)>>=λb1=>if b1.bV then iZ (3,ax,aC,aE)>>=λy=>if(bif b1.bV then (y.1=0:Bool)else false) then if aH i c.length then some [I.eta (c.getD i.toNat aB).bB]>>=λt113=>if room 120 (q++t113).length then mX (aN .i64 i 1,y.2.1,y.2.2.1,y.2.2.2,F,G,H,J,K,L,M,N,O,P,Q,c,R,S,U,W,X,Y,Z,af,q++t113)else none else none else if aH i c.length then jH ((c.getD i.toNat aB).aw,y.2.1,y.2.2.1,y.2.2.2)>>=λa2=>some [I.eta a2.1]>>=λt126=>if room 120 (q++t126).length then mX (aN .i64 i 1,a2.2.1,a2.2.2.1,a2.2.2.2,F,G,H,J,K,L,M,N,O,P,Q,c,R,S,U,W,X,Y,Z,af,q++t126)else none else none else if(bif b1.bV then false else false) then if aH i c.length then some [I.eta (c.getD i.toNat aB).bB]>>=λg9=>if room 120 (q++g9).length then mX (aN .i64 i 1,ax,aC,aE,F,G,H,J,K,L,M,N,O,P,Q,c,R,S,U,W,X,Y,Z,af,q++g9)else none else none else if aH i c.length then jH ((c.getD i.toNat aB).aw,ax,aC,aE)>>=λa3=>some [I.eta a3.1]>>=λhe=>if room 120 (q++he).length then mX (aN .i64 i 1,a3.2.1,a3.2.2.1,a3.2.2.2,F,G,H,J,K,L,M,N,O,P,Q,c,R,S,U,W,X,Y,Z,af,q++he)else none else none else none else some (ax,aC,aE,F,G,H,J,K,L,M,N,O,P,Q,c,R,S,U,W,X,Y,Z,af,q)
  partial_fixpoint
def qK:Int×List ai×ar×Bool×Int×Bool×Int×ak×Int×Int×ak×Int×Int×Int×List c3×List aS×Int×Int×Bool×Int×Bool×Int×ak×Int×List I->Option (List ai×ar×Bool×Int×Bool×Int×ak×Int×Int×Bool×Int×ak×Int×List I)
 |(n,gs,gt,g0,g1,g2,g3,g4,g5,ip,i0,i1,i2,i3,i4,i5,i6,g6,i7,g7,b2,b3,b4,ce,b0)=>
 if (0<n:Bool) then jH (g6,gs,gt,g0)>>=λa4=>some [I.eta a4.1]>>=λt193=>if room 120 (b0++t193).length then qK (dq .i64 n 1,a4.2.1,a4.2.2.1,a4.2.2.2,g1,g2,g3,g4,g5,ip,i0,i1,i2,i3,i4,i5,i6,g6,i7,g7,b2,b3,b4,ce,b0++t193)else none else some (gs,gt,g0,g1,g2,g3,g4,g5,g7,b2,b3,b4,ce,b0)
  partial_fixpoint
def rj:Int×List ai×ar×Bool×Int×Bool×Int×ak×Int×Int×ak×Int×Int×Int×List c3×List aS×Int×Int×Bool×Int×Bool×Int×ak×Int×List I×List I×List bX->Option (List ai×ar×Bool×Int×Bool×Int×ak×Int×Int×Bool×Int×ak×Int×List I×List I×List bX)
 |(g8,ci,cs,cz,cQ,c9,dh,dt,eq,ht,hu,hw,hH,h0,h1,ii,es,ex,io,fd,ff,fo,fs,gc,gd,ge,gl)=>
 if (0<g8:Bool) then jH (es,ci,cs,cz)>>=λa5=>jH (ex,a5.2.1,a5.2.2.1,a5.2.2.2)>>=λa9=>CH ((⟨fd,ff,fo,fs,gc,gd,ge,gl⟩:I),I.eta a5.1,I.eta a9.1)>>=λw=>rj (dq .i64 g8 1,a9.2.1,a9.2.2.1,a9.2.2.2,cQ,c9,dh,dt,eq,ht,hu,hw,hH,h0,h1,ii,es,ex,io,w.Kind,w.bN,w.bd,w.bl,w.ad,w.ay,w.aj,w.Rest)else some (ci,cs,cz,cQ,c9,dh,dt,eq,fd,ff,fo,fs,gc,gd,ge,gl)
  partial_fixpoint
end
theorem U5:ec sG jH/\eD 112 1 [2] AL rj/\eD 112 1 [1] AI qK/\eD 112 1 [0] AD mX:=jH.mutual_partial_correctness (d' sG) (eC 112 1 [2] AL) (eC 112 1 [1] AI) (eC 112 1 [0] AD)
 (λ_ _ _ _ h0 h1 a b _ _ h=>eh h (.k te (.k UF (.k UR (.k If (.k UU (.k (cc sG h0) .n)))))) (.k (eO AD b) (.k (eO AI a) (.k (eO AL h1) .n))))
 (λ_ _ h0 h1 _ _ h=>eN AL h1 h (.k (cc sG h0) (.k Xy .n)))
 (λ_ _ h0 a _ _ h=>eN AI a h (.k (cc sG h0) .n))
 (λ_ _ h0 b _ _ h=>eN AD b h (.k te (.k (cc sG h0) .n)))
theorem Tk:aZ sG jH:=cc _ U5.1
def zh:aT×Int×ar->Option I
 |(s,t,a)=>
 some (jf 60 (a.length:Int))>>=λt12=>if dY 0 t12 a.length then jH (t,s.Types,ej a 0 t12,false)>>=λr=>some (I.eta r.1)else none
theorem Wq:aZ agv zh:= .bk (.k Tk .n)
def ym:aT×Int×ar->Option I
 |(s,t,a)=>
 some (jf 60 (a.length:Int))>>=λt12=>if dY 0 t12 a.length then jH (t,s.Types,ej a 0 t12,true)>>=λr=>some (I.eta r.1)else none
theorem V1:aZ agw ym:= .bk (.k Tk .n)
def p5(d:lg):Option (aT×Int×I×I×Bool):=
 q0 d.S>>=λr=>if !r.2 then some (r.1,0,(⟨0,false,0,[],0,[],[],[]⟩:I),(⟨0,false,0,[],0,[],[],[]⟩:I),false)else some (r.1.Types.length:Int)>>=λt26=>if !(t26=0:Bool) then some (b6 (bU .i64 d.T) t26)>>=λt27=>zh (r.1,t27,d.C)>>=λa=>ym (r.1,t27,d.C)>>=λb=>some (r.1,t27,I.eta a,I.eta b,true)else none
theorem Uc:aZ af8 p5:= .bk (.k Ub (.k Wq (.k V1 .n)))
def hD:List kC×Int×List dx->Option (List dx)
 |(d,i,a)=>
 if(bif (i<(d.length:Int):Bool)then (0<(a.length:Int):Bool)else false) then if aH i d.length then some (d.getD i.toNat nB)>>=λe=>some (a.length:Int)>>=λt38=>if !(t38=0:Bool) then some (b6 (bU .i64 e.Node) t38)>>=λt39=>if aH t39 a.length then if (t39.toNat<a.length:Bool) then some (a.getD t39.toNat bu).c0>>=λt46=>if room 3 ([]++t46).length then some ([]++t46)>>=λb=>if (t39.toNat<a.length:Bool) then if (t39.toNat=t39.toNat:Bool) then
 let n:=λc=>
 some (b6 e.Kind 8)>>=λf=>if (f=0:Bool) then if (t39.toNat<a.length:Bool) then some (dq .u8 (aN .u8 (a.getD t39.toNat bu).A (b6 e.A 5)) 2)>>=λj=>if (t39.toNat<a.length:Bool) then hD (d,aN .i64 i 1,(a.set t39.toNat (⟨(a.getD t39.toNat bu).Kind,j,(a.getD t39.toNat bu).B,(a.getD t39.toNat bu).C,(a.getD t39.toNat bu).c0⟩:dx)).set t39.toNat (⟨((a.set t39.toNat (⟨(a.getD t39.toNat bu).Kind,j,(a.getD t39.toNat bu).B,(a.getD t39.toNat bu).C,(a.getD t39.toNat bu).c0⟩:dx)).getD t39.toNat bu).Kind,((a.set t39.toNat (⟨(a.getD t39.toNat bu).Kind,j,(a.getD t39.toNat bu).B,(a.getD t39.toNat bu).C,(a.getD t39.toNat bu).c0⟩:dx)).getD t39.toNat bu).A,((a.set t39.toNat (⟨(a.getD t39.toNat bu).Kind,j,(a.getD t39.toNat bu).B,(a.getD t39.toNat bu).C,(a.getD t39.toNat bu).c0⟩:dx)).getD t39.toNat bu).B,((a.set t39.toNat (⟨(a.getD t39.toNat bu).Kind,j,(a.getD t39.toNat bu).B,(a.getD t39.toNat bu).C,(a.getD t39.toNat bu).c0⟩:dx)).getD t39.toNat bu).C,b⟩:dx))else none else none else if (f=1:Bool) then if (t39.toNat<a.length:Bool) then some (dq .u8 (aN .u8 (a.getD t39.toNat bu).B (b6 e.B 5)) 2)>>=λk=>if (t39.toNat<a.length:Bool) then hD (d,aN .i64 i 1,(a.set t39.toNat (⟨(a.getD t39.toNat bu).Kind,(a.getD t39.toNat bu).A,k,(a.getD t39.toNat bu).C,(a.getD t39.toNat bu).c0⟩:dx)).set t39.toNat (⟨((a.set t39.toNat (⟨(a.getD t39.toNat bu).Kind,(a.getD t39.toNat bu).A,k,(a.getD t39.toNat bu).C,(a.getD t39.toNat bu).c0⟩:dx)).getD t39.toNat bu).Kind,((a.set t39.toNat (⟨(a.getD t39.toNat bu).Kind,(a.getD t39.toNat bu).A,k,(a.getD t39.toNat bu).C,(a.getD t39.toNat bu).c0⟩:dx)).getD t39.toNat bu).A,((a.set t39.toNat (⟨(a.getD t39.toNat bu).Kind,(a.getD t39.toNat bu).A,k,(a.getD t39.toNat bu).C,(a.getD t39.toNat bu).c0⟩:dx)).getD t39.toNat bu).B,((a.set t39.toNat (⟨(a.getD t39.toNat bu).Kind,(a.getD t39.toNat bu).A,k,(a.getD t39.toNat bu).C,(a.getD t39.toNat bu).c0⟩:dx)).getD t39.toNat bu).C,b⟩:dx))else none else none else if (f=2:Bool) then if (t39.toNat<a.length:Bool) then some (b6 e.A 6)>>=λo=>if (0<=o:Bool) then some (uM .u8 (a.getD t39.toNat bu).A (nd .u8 1 o))>>=λl=>if (t39.toNat<a.length:Bool) then hD (d,aN .i64 i 1,(a.set t39.toNat (⟨(a.getD t39.toNat bu).Kind,l,(a.getD t39.toNat bu).B,(a.getD t39.toNat bu).C,(a.getD t39.toNat bu).c0⟩:dx)).set t39.toNat (⟨((a.set t39.toNat (⟨(a.getD t39.toNat bu).Kind,l,(a.getD t39.toNat bu).B,(a.getD t39.toNat bu).C,(a.getD t39.toNat bu).c0⟩:dx)).getD t39.toNat bu).Kind,((a.set t39.toNat (⟨(a.getD t39.toNat bu).Kind,l,(a.getD t39.toNat bu).B,(a.getD t39.toNat bu).C,(a.getD t39.toNat bu).c0⟩:dx)).getD t39.toNat bu).A,((a.set t39.toNat (⟨(a.getD t39.toNat bu).Kind,l,(a.getD t39.toNat bu).B,(a.getD t39.toNat bu).C,(a.getD t39.toNat bu).c0⟩:dx)).getD t39.toNat bu).B,((a.set t39.toNat (⟨(a.getD t39.toNat bu).Kind,l,(a.getD t39.toNat bu).B,(a.getD t39.toNat bu).C,(a.getD t39.toNat bu).c0⟩:dx)).getD t39.toNat bu).C,b⟩:dx))else none else none else none else if (f=3:Bool) then if (t39.toNat<a.length:Bool) then some (aN .u8 (a.getD t39.toNat bu).C e.A)>>=λm=>if (t39.toNat<a.length:Bool) then hD (d,aN .i64 i 1,(a.set t39.toNat (⟨(a.getD t39.toNat bu).Kind,(a.getD t39.toNat bu).A,(a.getD t39.toNat bu).B,m,(a.getD t39.toNat bu).c0⟩:dx)).set t39.toNat (⟨((a.set t39.toNat (⟨(a.getD t39.toNat bu).Kind,(a.getD t39.toNat bu).A,(a.getD t39.toNat bu).B,m,(a.getD t39.toNat bu).c0⟩:dx)).getD t39.toNat bu).Kind,((a.set t39.toNat (⟨(a.getD t39.toNat bu).Kind,(a.getD t39.toNat bu).A,(a.getD t39.toNat bu).B,m,(a.getD t39.toNat bu).c0⟩:dx)).getD t39.toNat bu).A,((a.set t39.toNat (⟨(a.getD t39.toNat bu).Kind,(a.getD t39.toNat bu).A,(a.getD t39.toNat bu).B,m,(a.getD t39.toNat bu).c0⟩:dx)).getD t39.toNat bu).B,((a.set t39.toNat (⟨(a.getD t39.toNat bu).Kind,(a.getD t39.toNat bu).A,(a.getD t39.toNat bu).B,m,(a.getD t39.toNat bu).c0⟩:dx)).getD t39.toNat bu).C,b⟩:dx))
 else none else none else if (f=4:Bool) then if (t39.toNat=t39.toNat:Bool) then if ((b.length:Int)<8:Bool) then if (t39.toNat=t39.toNat:Bool) then some [(⟨e.A,e.B,fC .u8 e.A 12⟩:lT)]>>=λp=>if room 3 (b++p).length then if (t39.toNat=t39.toNat:Bool) then hD (d,aN .i64 i 1,a.set t39.toNat (⟨(a.getD t39.toNat bu).Kind,(a.getD t39.toNat bu).A,(a.getD t39.toNat bu).B,(a.getD t39.toNat bu).C,b++p⟩:dx))else none else none else none else hD (d,aN .i64 i 1,a.set t39.toNat (⟨(a.getD t39.toNat bu).Kind,(a.getD t39.toNat bu).A,(a.getD t39.toNat bu).B,(a.getD t39.toNat bu).C,b⟩:dx))else none else if (f=5:Bool) then if (t39.toNat=t39.toNat:Bool) then if (0<(b.length:Int):Bool) then if (t39.toNat=t39.toNat:Bool) then if dY 0 c b.length then if (t39.toNat=t39.toNat:Bool) then some (aN .i64 c 1)>>=λg=>if dY g (b.length:Int) b.length then if((c.toNat+((b.length:Int).toNat-g.toNat)<=b.length:Bool)&&(g.toNat+((b.length:Int).toNat-g.toNat)<=b.length:Bool)) then if (t39.toNat=t39.toNat:Bool) then hD (d,aN .i64 i 1,a.set t39.toNat (⟨(a.getD t39.toNat bu).Kind,(a.getD t39.toNat bu).A,(a.getD t39.toNat bu).B,(a.getD t39.toNat bu).C,b.take c.toNat++(b.drop g.toNat).take ((b.length:Int).toNat-g.toNat)⟩:dx))else none else none else none else none else none else none else hD (d,aN .i64 i 1,a.set t39.toNat (⟨(a.getD t39.toNat bu).Kind,(a.getD t39.toNat bu).A,(a.getD t39.toNat bu).B,(a.getD t39.toNat bu).C,b⟩:dx))else none else if (f=6:Bool) then if (t39.toNat=t39.toNat:Bool) then if (0<(b.length:Int):Bool) then if (t39.toNat=t39.toNat:Bool) then if aH c b.length then if (c.toNat<b.length:Bool) then hD (d,aN .i64 i 1,a.set t39.toNat (⟨(a.getD t39.toNat bu).Kind,(a.getD t39.toNat bu).A,(a.getD t39.toNat bu).B,(a.getD t39.toNat bu).C,b.set c.toNat (⟨(b.getD c.toNat jc).ad,(b.getD c.toNat jc).aw,e.B⟩:lT)⟩:dx))else none else none else none else hD (d,aN .i64 i 1,a.set t39.toNat (⟨(a.getD t39.toNat bu).Kind,(a.getD t39.toNat bu).A,(a.getD t39.toNat bu).B,(a.getD t39.toNat bu).C,b⟩:dx))else none else if (t39.toNat=t39.toNat:Bool) then if (0<(b.length:Int):Bool) then if (t39.toNat=t39.toNat:Bool) then if (t39.toNat=t39.toNat:Bool) then if aH c b.length then if (c.toNat<b.length:Bool) then if aH c b.length then if (c.toNat<b.length:Bool) then hD (d,aN .i64 i 1,a.set t39.toNat (⟨(a.getD t39.toNat bu).Kind,(a.getD t39.toNat bu).A,(a.getD t39.toNat bu).B,(a.getD t39.toNat bu).C,b.set c.toNat (⟨(b.getD c.toNat jc).ad,aN .u8 (b.getD c.toNat jc).aw e.B,(b.getD c.toNat jc).hb⟩:lT)⟩:dx))else none else none else none else none else none else none else hD (d,aN .i64 i 1,a.set t39.toNat (⟨(a.getD t39.toNat bu).Kind,(a.getD t39.toNat bu).A,(a.getD t39.toNat bu).B,(a.getD t39.toNat bu).C,b⟩:dx))else none
 if (0<(b.length:Int):Bool) then if (t39.toNat=t39.toNat:Bool) then some (b.length:Int)>>=λt63=>if !(t63=0:Bool) then some (b6 (bU .i64 e.A) t63)>>=λt64=>n t64 else none else none else n 0 else none else none else none else none else none else none else none else some a
  partial_fixpoint
theorem UG:cK 33 0 [0] RL hD:= .rx hD.partial_correctness
def C3:et×List kC->Option et
 |(d,l)=>
 if room 32 ([]++d.ei).length then hD (l,0,[]++d.ei)>>=λo=>some (⟨o⟩:et)else none
theorem V2:aZ af6 C3:= .bk .n (.k UG .n)
def rC:Int×Int×I->Option (Int×I)
 |(b,i,a)=>
 if(bif (i<(a.Rest.length:Int):Bool)then (0<=b:Bool)else false) then if aH i a.Rest.length then rC (dq .i64 b ((a.Rest.getD i.toNat bW).Data.length:Int),aN .i64 i 1,I.eta a)else none else some (b,I.eta a)
  partial_fixpoint
theorem V3:cK 78 0 [0] RZ rC:= .rx rC.partial_correctness
mutual
def nF:I×Int->Option Int
 |(v,n)=>
 rC (dq .i64 n (aN .i64 (aN .i64 10 (v.bl.length:Int)) (v.Rest.length:Int)),0,I.eta v)>>=λo=>sT (o.1,0,I.eta o.2)>>=λt=>sU (t.1,0,I.eta t.2)>>=λw=>some w
  partial_fixpoint
def sT:Int×Int×I->Option (Int×I)
 |(p,f,a)=>
 if(bif (f<(a.ay.length:Int):Bool)then (0<=p:Bool)else false) then if aH f a.ay.length then nF (I.eta (a.ay.getD f.toNat av),p)>>=λr=>sT (r,aN .i64 f 1,I.eta a)else none else some (p,I.eta a)
  partial_fixpoint
def sU:Int×Int×I->Option Int
 |(q,j,e)=>
 if(bif (j<(e.aj.length:Int):Bool)then (0<=q:Bool)else false) then if aH j e.aj.length then nF (I.eta (e.aj.getD j.toNat av),q)>>=λx=>sU (x,aN .i64 j 1,I.eta e)else none else some q
  partial_fixpoint
end
theorem VG:ec xN nF/\eD 78 0 [2] xP sU/\eD 78 0 [1] xO sT:=nF.mutual_partial_correctness (d' xN) (eC 78 0 [2] xP) (eC 78 0 [1] xO)
 (λ_ _ h1 a _ _ h=>eh h .n (.k V3 (.k (eO xO a) (.k (eO xP h1) .n))))
 (λ_ _ h0 h1 _ _ h=>eN xP h1 h (.k (cc xN h0) .n))
 (λ_ _ h0 a _ _ h=>eN xO a h (.k (cc xN h0) .n))
theorem Wr:aZ xN nF:=cc _ VG.1
def vm(v:I):Option Bool:=
 nF (I.eta v,3000)>>=λr=>some (decide (0<=r))
theorem Tv:aZ af9 vm:= .bk (.k Wr .n)
def yU(c:mJ):Option (aT×aT×Int×I×Bool):=
 p5 c.D>>=λr=>C3 (c.D.S,c.L)>>=λd=>q0 d>>=λa=>some (bif bif (!r.2.2.2.2)then true else(!a.2)then true else decide (4<(c.L.length:Int)))>>=λt44=>(if !t44 then vm (I.eta r.2.2.1)else some false)>>=λb=>if(bif t44 then true else(!b)) then some ((⟨[]⟩:aT),(⟨[]⟩:aT),0,(⟨0,false,0,[],0,[],[],[]⟩:I),false)else some (r.1,a.1,r.2.1,I.eta r.2.2.1,true)
theorem W8:aZ afx yU:= .bk (.k Uc (.k V2 (.k Ub (.k Tv .n))))
def vi:Int×ak->Option ak
 |(a,b)=>
 if (0<a:Bool) then some (strOf [bU .u8 (b6 a 256)])>>=λt10=>if (t10.length+b.length<=eG:Bool) then vi (fC .u64 a 256,t10++b)else none else some b
  partial_fixpoint
theorem VH:cK 50 0 [0] RR vi:= .rx vi.partial_correctness
def zm(n:Int):Option ak:=
 vi (n,[])>>=λo=>some o
theorem Xz:aZ agd zm:= .bk .n (.k VH .n)
def vj:Int×ar->Option (Int×ar)
 |(a,b)=>
 if (128<=a:Bool) then some [bU .u8 (aN .u64 (b6 a 128) 128)]>>=λt11=>if room 1 (b++t11).length then vj (fC .u64 a 128,b++t11)else none else some (a,b)
  partial_fixpoint
theorem VI:cK 52 0 [0] RS vj:= .rx vj.partial_correctness
def qW(n:Int):Option ak:=
 vj (n,[])>>=λo=>some [bU .u8 o.1]>>=λt18=>if room 1 (o.2++t18).length then some (strOf (o.2++t18))else none
theorem Gz:aZ agf qW:= .bk .n (.k VI .n)
def qT(p:ak):Option ak:=
 qW (bU .u64 (p.length:Int))>>=λr=>if (r.length+p.length<=eG:Bool) then some (r++p)else none
theorem Gu:aZ agi qT:= .bk (.k Gz .n)
def o3:Int×I×I->Option ((Bool) ⊕ (I×I))
 |(i,a,b)=>
 if (i<(a.Rest.length:Int):Bool) then if aH i a.Rest.length then some (a.Rest.getD i.toNat bW)>>=λc=>if aH i b.Rest.length then some (b.Rest.getD i.toNat bW)>>=λd=>if !(hN c.ad d.ad&&(iL c.Data d.Data&&true)) then some (.inl false)else o3 (aN .i64 i 1,I.eta a,I.eta b)else none else none else some (.inr (I.eta a,I.eta b))
  partial_fixpoint
theorem U9:cK 49 0 [0] RQ o3:= .rx o3.partial_correctness
mutual
def jI(e:I×I):Option Bool:=
 match e with
 |(a,b)=>
 if(bif bif bif bif bif (!(a.Kind=b.Kind:Bool))then true else(!(fy a.bN b.bN))then true else(!(a.bd=b.bd:Bool))then true else(!(a.bl=b.bl:Bool))then true else(!(a.ad=b.ad:Bool))then true else(!((a.Rest.length:Int)=(b.Rest.length:Int):Bool))) then some false else o3 (0,(⟨a.Kind,a.bN,a.bd,a.bl,a.ad,a.ay,a.aj,a.Rest⟩:I),(⟨b.Kind,b.bN,b.bd,b.bl,b.ad,b.ay,b.aj,b.Rest⟩:I))>>=λo=>match o with
 |.inl p=>
 some p
 |.inr c=>
 yf (c.1.ay,c.2.ay)>>=λr=>(if r then yf (c.1.aj,c.2.aj)else some false)>>=λq=>some (bif r then q else false)
  partial_fixpoint
def yf(e:List I×List I):Option Bool:=
 match e with
 |(a,b)=>
 if !((a.length:Int)=(b.length:Int):Bool) then some false else vH (a,b,0)>>=λo=>match o with
 |.inl p=>
 some p
 |.inr c=>
 some true
  partial_fixpoint
def vH:List I×List I×Int->Option ((Bool) ⊕ (Unit))
 |(f,j,i)=>
 if (i<(f.length:Int):Bool) then if aH i f.length then if aH i j.length then jI (I.eta (f.getD i.toNat av),I.eta (j.getD i.toNat av))>>=λr=>if !r then some (.inl false)else vH (f,j,aN .i64 i 1)else none else none else some (.inr ())
  partial_fixpoint
end
theorem Vd:ec BH jI/\ec Fu yf/\eD 89 0 [0] xR vH:=jI.mutual_partial_correctness (d' BH) (d' Fu) (eC 89 0 [0] xR)
 (λ_ h1 _ _ h=>eh h (.k (cc Fu h1) .n) (.k U9 .n))
 (λ_ a _ _ h=>eh h .n (.k (eO xR a) .n))
 (λ_ _ h0 a _ _ h=>eN xR a h (.k (cc BH h0) .n))
theorem ye:aZ BH jI:=cc _ Vd.1
def yb:Int×Bool×ak->Option ak
 |(id,d,p)=>
 some (bU .u64 (gB .i64 2 id))>>=λt10=>if d then qW (aN .u64 t10 1)>>=λr=>qT p>>=λa=>if (r.length+a.length<=eG:Bool) then some (r++a)else none else qW t10>>=λb=>qT p>>=λc=>if (b.length+c.length<=eG:Bool) then some (b++c)else none
theorem Tw:aZ agj yb:= .bk (.k Gz (.k Gu .n))
def mY:ak×Int×Int×List ai×I×ai->Option (ak×Int×List ai×I×ai)
 |(c,b,k,d,a,e)=>
 if (k<(a.Rest.length:Int):Bool) then if aH k a.Rest.length then if ((a.Rest.getD k.toNat bW).ad=b:Bool) then if aH k a.Rest.length then yb (b,false,(a.Rest.getD k.toNat bW).Data)>>=λf=>if (c.length+f.length<=eG:Bool) then mY (c++f,b,aN .i64 k 1,d,I.eta a,e)else none else none else mY (c,b,aN .i64 k 1,d,I.eta a,e)else none else some (c,b,d,I.eta a,e)
  partial_fixpoint
theorem U':cK 19 0 [0,2] Oz mY:= .rx mY.partial_correctness (.k Tw .n)
mutual
def i':aT×Int×I->Option ak
 |(s,t,v)=>
 if aH t s.Types.length then some (s.Types.getD t.toNat aJ)>>=λa=>if (a.Kind=1:Bool) then if v.bN then some [1]else some []else if (a.Kind=2:Bool) then vh v.bd>>=λr=>zm r>>=λZ=>some Z else if (a.Kind=3:Bool) then some v.bl else if (a.Kind=4:Bool) then zm (bU .u64 v.ad)>>=λap=>some ap else if (a.Kind=9:Bool) then if ((v.aj.length:Int)=0:Bool) then some []else if aH 0 v.aj.length then i' (s,a.aF,I.eta (v.aj.getD (0:Int).toNat av))>>=λP=>if ([1].length+P.length<=eG:Bool) then some ([1]++P)else none else none else if (a.Kind=6:Bool) then if (0<(v.Rest.length:Int):Bool) then qW (bU .u64 v.ad)>>=λQ=>if aH 0 v.Rest.length then some (v.Rest.getD (0:Int).toNat bW)>>=λW=>if (Q.length+W.Data.length<=eG:Bool) then some (Q++W.Data)else none else none else hE (a,v.ad)>>=λR=>qW (bU .u64 v.ad)>>=λS=>if aH R.1 a.ah.length then if aH 0 v.aj.length then i' (s,(a.ah.getD R.1.toNat aB).aw,I.eta (v.aj.getD (0:Int).toNat av))>>=λU=>if (S.length+U.length<=eG:Bool) then some (S++U)else none else none else none else if (a.Kind=7:Bool) then sN ([],0,s.Types,I.eta v,a)>>=λo=>some o else if (a.Kind=8:Bool) then sO ([],0,s.Types,I.eta v,a)>>=λX=>some X else o7 ([],1,s.Types,I.eta v,a)>>=λY=>some Y else none
  partial_fixpoint
def sN:ak×Int×List ai×I×ai->Option ak
 |(H,i,b,B,K)=>
 if (i<(B.aj.length:Int):Bool) then if aH i B.aj.length then i' ((⟨b⟩:aT),K.aF,I.eta (B.aj.getD i.toNat av))>>=λaf=>qT af>>=λL=>if (H.length+L.length<=eG:Bool) then sN (H++L,aN .i64 i 1,b,I.eta B,K)else none else none else some H
  partial_fixpoint
def sO:ak×Int×List ai×I×ai->Option ak
 |(J,q,F,j,G)=>
 if (q<(j.aj.length:Int):Bool) then if aH q j.ay.length then i' ((⟨F⟩:aT),G.Key,I.eta (j.ay.getD q.toNat av))>>=λag=>qT ag>>=λM=>if (J.length+M.length<=eG:Bool) then some (J++M)>>=λt144=>if aH q j.aj.length then i' ((⟨F⟩:aT),G.aF,I.eta (j.aj.getD q.toNat av))>>=λam=>qT am>>=λN=>if (t144.length+N.length<=eG:Bool) then sO (t144++N,aN .i64 q 1,F,I.eta j,G)else none else none else none else none else some J
  partial_fixpoint
def o7:ak×Int×List ai×I×ai->Option ak
 |(A,id,D,c,p)=>
 if (id<=1000:Bool) then hE (p,id)>>=λe=>if e.2 then if aH e.1 p.ah.length then some (p.ah.getD e.1.toNat aB)>>=λE=>some (!E.bV)>>=λt175=>if(aH e.1 c.aj.length||(!(!t175))) then (if !t175 then jI (I.eta (c.aj.getD e.1.toNat av),I.eta E.bB)else some false)>>=λan=>if(bif t175 then true else(!an)) then if aH e.1 c.aj.length then i' ((⟨D⟩:aT),E.aw,I.eta (c.aj.getD e.1.toNat av))>>=λax=>yb (id,E.cg,ax)>>=λO=>if (A.length+O.length<=eG:Bool) then mY (A++O,id,0,D,I.eta c,p)>>=λw=>o7 (w.1,aN .i64 w.2.1 1,w.2.2.1,I.eta w.2.2.2.1,w.2.2.2.2)else none else none else mY (A,id,0,D,I.eta c,p)>>=λx=>o7 (x.1,aN .i64 x.2.1 1,x.2.2.1,I.eta x.2.2.2.1,x.2.2.2.2)else none else none else mY (A,id,0,D,I.eta c,p)>>=λy=>o7 (y.1,aN .i64 y.2.1 1,y.2.2.1,I.eta y.2.2.2.1,y.2.2.2.2)else some A
  partial_fixpoint
end
theorem UW:ec sJ i'/\eD 19 0 [2] xG o7/\eD 19 0 [1] xF sO/\eD 19 0 [0] xE sN:=i'.mutual_partial_correctness (d' sJ) (eC 19 0 [2] xG) (eC 19 0 [1] xF) (eC 19 0 [0] xE)
 (λ_ _ _ _ h0 h1 a b _ _ h=>eh h (.k Tr (.k Xz (.k (cc sJ h0) (.k Gz (.k mC .n))))) (.k (eO xE b) (.k (eO xF a) (.k (eO xG h1) .n))))
 (λ_ _ h0 h1 _ _ h=>eN xG h1 h (.k mC (.k ye (.k (cc sJ h0) (.k Tw .n)))) (.k U' .n))
 (λ_ _ h0 a _ _ h=>eN xF a h (.k (cc sJ h0) (.k Gu .n)))
 (λ_ _ h0 b _ _ h=>eN xE b h (.k (cc sJ h0) (.k Gu .n)))
theorem Cl:aZ sJ i':=cc _ UW.1
def yV(c:nI):Option (cY×cY×ak×Bool):=
 yU c.C>>=λr=>if !r.2.2.2.2 then some ((⟨(⟨[]⟩:aT),0⟩:cY),(⟨(⟨[]⟩:aT),0⟩:cY),[],false)else if c.xo then p5 c.C.D>>=λa=>vm (I.eta a.2.2.2.1)>>=λb=>if !b then some ((⟨(⟨[]⟩:aT),0⟩:cY),(⟨(⟨[]⟩:aT),0⟩:cY),[],false)else i' (r.1,r.2.2.1,I.eta a.2.2.2.1)>>=λd=>some ((⟨r.1,r.2.2.1⟩:cY),(⟨r.2.1,r.2.2.1⟩:cY),d,true)else vm (I.eta r.2.2.2.1)>>=λe=>if !e then some ((⟨(⟨[]⟩:aT),0⟩:cY),(⟨(⟨[]⟩:aT),0⟩:cY),[],false)else i' (r.1,r.2.2.1,I.eta r.2.2.2.1)>>=λf=>some ((⟨r.1,r.2.2.1⟩:cY),(⟨r.2.1,r.2.2.1⟩:cY),f,true)
theorem W9:aZ Bq yV:= .bk (.k W8 (.k Uc (.k Tv (.k Cl .n))))
def pz:List c3×List c3×Int×Int->Option ((Bool) ⊕ (Unit))
 |(a,b,c,t13)=>
 if (t13<c:Bool) then if aH t13 a.length then some (a.getD t13.toNat dL)>>=λd=>if aH t13 b.length then some (b.getD t13.toNat dL)>>=λe=>if !(hN d.ad e.ad&&(iL d.Name e.Name&&true)) then some (.inl false)else pz (a,b,c,aN .i64 t13 1)else none else none else some (.inr ())
  partial_fixpoint
theorem Up:cK 239 0 [0] Pw pz:= .rx pz.partial_correctness
def Cs(c:List c3×List c3):Option Bool:=
 match c with
 |(s1,a)=>
 if !((s1.length:Int)=(a.length:Int):Bool) then some false else pz (s1,a,(s1.length:Int),0)>>=λo=>match o with
 |.inl b=>
 some b
 |.inr d=>
 some true
theorem Ur:aZ Ru Cs:= .bk .n (.k Up .n)
def pA:List bX×List bX×Int×Int->Option ((Bool) ⊕ (Unit))
 |(a,b,c,t13)=>
 if (t13<c:Bool) then if aH t13 a.length then some (a.getD t13.toNat bW)>>=λd=>if aH t13 b.length then some (b.getD t13.toNat bW)>>=λe=>if !(hN d.ad e.ad&&(iL d.Data e.Data&&true)) then some (.inl false)else pA (a,b,c,aN .i64 t13 1)else none else none else some (.inr ())
  partial_fixpoint
theorem U1:cK 103 0 [0] Px pA:= .rx pA.partial_correctness
def yd(c:List bX×List bX):Option Bool:=
 match c with
 |(s1,a)=>
 if !((s1.length:Int)=(a.length:Int):Bool) then some false else pA (s1,a,(s1.length:Int),0)>>=λo=>match o with
 |.inl b=>
 some b
 |.inr d=>
 some true
theorem Ti:aZ QB yd:= .bk .n (.k U1 .n)
mutual
def lX:I×I->Option Bool
 |(a,b)=>
 some (bif bif bif bif decide (a.Kind=b.Kind)then fy a.bN b.bN else false then decide (a.bd=b.bd)else false then decide (a.bl=b.bl)else false then decide (a.ad=b.ad)else false)>>=λt37=>(if t37 then yd (a.Rest,b.Rest)else some false)>>=λr=>some (bif t37 then r else false)>>=λt44=>(if t44 then yO (a.ay,b.ay)else some false)>>=λq=>some (bif t44 then q else false)>>=λt51=>(if t51 then yO (a.aj,b.aj)else some false)>>=λt=>some (bif t51 then t else false)
  partial_fixpoint
def yO(c:List I×List I):Option Bool:=
 match c with
 |(s1,f)=>
 if !((s1.length:Int)=(f.length:Int):Bool) then some false else vE (f,s1,(s1.length:Int),0)>>=λo=>match o with
 |.inl p=>
 some p
 |.inr v=>
 some true
  partial_fixpoint
def vE:List I×List I×Int×Int->Option ((Bool) ⊕ (Unit))
 |(e,t15,j,t17)=>
 if (t17<j:Bool) then if aH t17 t15.length then if aH t17 e.length then lX (I.eta (t15.getD t17.toNat av),I.eta (e.getD t17.toNat av))>>=λr=>if !r then some (.inl false)else vE (e,t15,j,aN .i64 t17 1)else none else none else some (.inr ())
  partial_fixpoint
end
theorem Xp:ec xH lX/\ec Eh yO/\eD 104 0 [0] zt vE:=lX.mutual_partial_correctness (d' xH) (d' Eh) (eC 104 0 [0] zt)
 (λ_ h1 _ _ h=>eh h (.k Ti (.k (cc Eh h1) .n)))
 (λ_ a _ _ h=>eh h .n (.k (eO zt a) .n))
 (λ_ _ h0 a _ _ h=>eN zt a h (.k (cc xH h0) .n))
theorem TV:aZ xH lX:=cc _ Xp.1
def yW:aS×aS->Option Bool
 |(a,y)=>
 some (bif bif bif bif decide (a.ad=y.ad)then decide (a.Name=y.Name)else false then decide (a.aw=y.aw)else false then fy a.cg y.cg else false then fy a.bV y.bV else false)>>=λt37=>(if t37 then lX ((⟨a.bB.Kind,a.bB.bN,a.bB.bd,a.bB.bl,a.bB.ad,a.bB.ay,a.bB.aj,a.bB.Rest⟩:I),I.eta y.bB)else some false)>>=λr=>some (bif t37 then r else false)
theorem W':aZ Rx yW:= .bk (.k TV .n)
def pv:List aS×List aS×Int×Int->Option ((Bool) ⊕ (Unit))
 |(c,t15,d,t17)=>
 if (t17<d:Bool) then if aH t17 t15.length then some (t15.getD t17.toNat aB)>>=λa=>if aH t17 c.length then some (c.getD t17.toNat aB)>>=λb=>yW ((⟨a.ad,a.Name,a.aw,a.cg,a.bV,I.eta a.bB⟩:aS),(⟨b.ad,b.Name,b.aw,b.cg,b.bV,I.eta b.bB⟩:aS))>>=λr=>if !r then some (.inl false)else pv (c,t15,d,aN .i64 t17 1)else none else none else some (.inr ())
  partial_fixpoint
theorem Us:cK 240 0 [0] Py pv:= .rx pv.partial_correctness (.k W' .n)
def Cq(c:List aS×List aS):Option Bool:=
 match c with
 |(s1,a)=>
 if !((s1.length:Int)=(a.length:Int):Bool) then some false else pv (a,s1,(s1.length:Int),0)>>=λo=>match o with
 |.inl b=>
 some b
 |.inr d=>
 some true
theorem Ut:aZ Rw Cq:= .bk .n (.k Us .n)
def hX:ai×ai->Option Bool
 |(a,b)=>
 some (bif bif bif bif bif bif bif decide (a.Kind=b.Kind)then decide (a.Name=b.Name)else false then decide (a.bF=b.bF)else false then decide (a.bH=b.bH)else false then decide (a.Max=b.Max)else false then decide (a.Key=b.Key)else false then decide (a.aF=b.aF)else false then fy a.Open b.Open else false)>>=λt58=>(if t58 then Cs (a.bh,b.bh)else some false)>>=λr=>some (bif t58 then r else false)>>=λt65=>(if t65 then Cq (a.ah,b.ah)else some false)>>=λc=>some (bif t65 then c else false)
theorem Yr:aZ Q9 hX:= .bk (.k Ur (.k Ut .n))
def yX(c:Int):Option Bool:=
 some (bif bif decide (c=95)then true else bif decide (97<=c)then decide (c<=122)else false then true else bif decide (65<=c)then decide (c<=90)else false)
theorem Ud:aZ Rq yX:= .bk
def CR(c:Int):Option Bool:=
 some (bif decide (48<=c)then decide (c<=57)else false)
theorem Xq:aZ Rr CR:= .bk
def lh:ak×Int×Int->Option ((Bool) ⊕ (Unit))
 |(a,b,t19)=>
 if (t19<b:Bool) then if aH t19 a.length then yX (fw a t19)>>=λc=>some (!c)>>=λt26=>if(aH t19 a.length||(!t26)) then (if t26 then CR (fw a t19)else some false)>>=λd=>if(bif t26 then(!d)else false) then some (.inl false)else lh (a,b,aN .i64 t19 1)else none else none else some (.inr ())
  partial_fixpoint
theorem XA:cK 208 0 [0] Pz lh:= .rx lh.partial_correctness (.k Ud (.k Xq .n))
def kH(s:ak):Option Bool:=
 some (bif decide (s=[])then true else decide (24<(s.length:Int)))>>=λt10=>if(aH 0 s.length||(!(!t10))) then (if !t10 then yX (fw s 0)else some false)>>=λr=>if(bif t10 then true else(!r)) then some false else lh (s,(s.length:Int),0)>>=λo=>match o with
 |.inl a=>
 some a
 |.inr b=>
 some true else none
theorem TM:aZ Q6 kH:= .bk (.k Ud .n) (.k XA .n)
def p6:ar×List ak×ar×Int×Int×List ak->Option ((Bool) ⊕ ar)
 |(c,a,t9,e,t11,b)=>
 if (t11<e:Bool) then if aH t11 t9.length then some (t9.getD t11.toNat 0)>>=λd=>some (bif decide (d<1)then true else decide (1000<d))>>=λt21=>some (decide (0<t11))>>=λt24=>some (dq .i64 t11 1)>>=λt29=>if(aH t29 c.length||(!((!t21)&&t24))) then some (bif t21 then true else bif t24 then decide (d<=c.getD t29.toNat 0)else false)>>=λt34=>if(aH t11 a.length||(!(!t34))) then some (bif t34 then true else jw b (a.getD t11.toNat []))>>=λt42=>if(aH t11 a.length||(!(!t42))) then (if !t42 then kH (a.getD t11.toNat [])else some false)>>=λr=>if(bif t42 then true else(!r)) then some (.inl false)else if aH t11 a.length then p6 (c,a,t9,e,aN .i64 t11 1,iT b (a.getD t11.toNat []))else none else none else none else none else none else some (.inr c)
  partial_fixpoint
theorem Xr:cK 237 0 [0] PA p6:= .rx p6.partial_correctness (.k TM .n)
def zS(c:ar×List ak):Option Bool:=
 match c with
 |(l,names)=>
 p6 (l,names,l,(l.length:Int),0,[])>>=λo=>match o with
 |.inl a=>
 some a
 |.inr b=>
 some (decide ((b.length:Int)<=16))
theorem J7:aZ Rs zS:= .bk .n (.k Xr .n)
def rI:List c3×List c3×Int×Int×ar×List ak->Option (List c3×ar×List ak)
 |(c,t7,d,t9,a,b)=>
 if (t9<d:Bool) then if aH t9 t7.length then some (t7.getD t9.toNat dL)>>=λe=>some [e.ad]>>=λt16=>if room 8 (a++t16).length then some [e.Name]>>=λt21=>if room 16 (b++t21).length then rI (c,t7,d,aN .i64 t9 1,a++t16,b++t21)else none else none else none else some (c,a,b)
  partial_fixpoint
theorem WE:cK 209 0 [0] PB rI:= .rx rI.partial_correctness
def vx(l:List c3):Option Bool:=
 rI (l,l,(l.length:Int),0,[],[])>>=λo=>some (decide (0<(o.1.length:Int)))>>=λt26=>(if t26 then zS (o.2.1,o.2.2)else some false)>>=λr=>some (bif t26 then r else false)
theorem Xa:aZ Q7 vx:= .bk (.k J7 .n) (.k WE .n)
def Cy(v:I):Option Bool:=
 lX (I.eta v,(⟨0,false,0,[],0,[],[],[]⟩:I))>>=λr=>some r
theorem Ys:aZ Rt Cy:= .bk (.k TV .n)
def p0:List aS×Int×Int×ai×ar×List ak->Option ((Bool) ⊕ (ai×ar×List ak))
 |(t8,e,t10,b,c,d)=>
 if (t10<e:Bool) then if aH t10 t8.length then some (t8.getD t10.toNat aB)>>=λa=>some [a.ad]>>=λt17=>if room 8 (c++t17).length then some [a.Name]>>=λt22=>if room 16 (d++t22).length then some (bif bif decide (b.Kind=6)then bif a.cg then true else a.bV else false then true else bif a.cg then a.bV else false)>>=λt42=>some (!a.bV)>>=λt46=>(if((!t42)&&t46) then Cy (I.eta a.bB)else some false)>>=λf=>if(bif t42 then true else bif t46 then(!f)else false) then some (.inl false)else p0 (t8,e,aN .i64 t10 1,b,c++t17,d++t22)else none else none else none else some (.inr (b,c,d))
  partial_fixpoint
theorem WG:cK 210 0 [0] PC p0:= .rx p0.partial_correctness (.k Ys .n)
def t'(t:ai):Option Bool:=
 p0 (t.ah,(t.ah.length:Int),0,t,[],[])>>=λo=>match o with
 |.inl b=>
 some b
 |.inr a=>
 some (bif decide (a.1.Kind=5)then true else decide (0<(a.2.1.length:Int)))>>=λt62=>(if t62 then zS (a.2.1,a.2.2)else some false)>>=λr=>some (bif t62 then r else false)
theorem Xb:aZ Q8 t':= .bk (.k J7 .n) (.k WG .n)
def gA(t:ai):Option Bool:=
 if (t.Kind=1:Bool) then hX ((⟨0,t.Name,t.bF,t.bH,t.Max,t.bh,t.ah,t.Key,t.aF,t.Open⟩:ai),(⟨0,[],0,0,0,[],[],0,0,false⟩:ai))>>=λr=>some r else if (t.Kind=2:Bool) then some (decide (t.bF<=t.bH))>>=λt17=>(if t17 then hX ((⟨0,t.Name,0,0,t.Max,t.bh,t.ah,t.Key,t.aF,t.Open⟩:ai),(⟨0,[],0,0,0,[],[],0,0,false⟩:ai))else some false)>>=λj=>some (bif t17 then j else false)else if (t.Kind=3:Bool) then some (bif decide (0<=t.Max)then decide (t.Max<=200)else false)>>=λt29=>(if t29 then hX ((⟨0,t.Name,t.bF,t.bH,0,t.bh,t.ah,t.Key,t.aF,t.Open⟩:ai),(⟨0,[],0,0,0,[],[],0,0,false⟩:ai))else some false)>>=λv=>some (bif t29 then v else false)else if (t.Kind=4:Bool) then kH t.Name>>=λe=>(if e then vx t.bh else some false)>>=λA=>some (bif e then A else false)>>=λt40=>(if t40 then hX ((⟨0,[],t.bF,t.bH,t.Max,[],t.ah,t.Key,t.aF,false⟩:ai),(⟨0,[],0,0,0,[],[],0,0,false⟩:ai))else some false)>>=λB=>some (bif t40 then B else false)else some (decide (t.Kind=5))>>=λt45=>if t45 then if t45 then kH t.Name>>=λf=>(if f then t' t else some false)>>=λC=>some (bif f then C else false)>>=λt53=>(if t53 then hX ((⟨0,[],t.bF,t.bH,t.Max,t.bh,[],t.Key,t.aF,bif t.Open then decide (t.Kind=5)else false⟩:ai),(⟨0,[],0,0,0,[],[],0,0,false⟩:ai))else some false)>>=λD=>some (bif t53 then D else false)else some (decide (t.Kind=7))>>=λt65=>if t65 then if t65 then some (bif decide (0<=t.Max)then decide (t.Max<=50)else false)>>=λt74=>if (t.Kind=8:Bool) then (if t74 then hX ((⟨0,t.Name,t.bF,t.bH,0,t.bh,t.ah,0,0,t.Open⟩:ai),(⟨0,[],0,0,0,[],[],0,0,false⟩:ai))else some false)>>=λE=>some (bif t74 then E else false)else (if t74 then hX ((⟨0,t.Name,t.bF,t.bH,0,t.bh,t.ah,t.Key,0,t.Open⟩:ai),(⟨0,[],0,0,0,[],[],0,0,false⟩:ai))else some false)>>=λk=>some (bif t74 then k else false)else if (t.Kind=9:Bool) then hX ((⟨0,t.Name,t.bF,t.bH,t.Max,t.bh,t.ah,t.Key,0,t.Open⟩:ai),(⟨0,[],0,0,0,[],[],0,0,false⟩:ai))>>=λl=>some l else some false else if (t.Kind=8:Bool) then some (bif decide (0<=t.Max)then decide (t.Max<=50)else false)>>=λa=>if (t.Kind=8:Bool) then (if a then hX ((⟨0,t.Name,t.bF,t.bH,0,t.bh,t.ah,0,0,t.Open⟩:ai),(⟨0,[],0,0,0,[],[],0,0,false⟩:ai))else some false)>>=λm=>some (bif a then m else false)else (if a then hX ((⟨0,t.Name,t.bF,t.bH,0,t.bh,t.ah,t.Key,0,t.Open⟩:ai),(⟨0,[],0,0,0,[],[],0,0,false⟩:ai))else some false)>>=λn=>some (bif a then n else false)else if (t.Kind=9:Bool) then hX ((⟨0,t.Name,t.bF,t.bH,t.Max,t.bh,t.ah,t.Key,0,t.Open⟩:ai),(⟨0,[],0,0,0,[],[],0,0,false⟩:ai))>>=λo=>some o else some false else if (t.Kind=6:Bool) then kH t.Name>>=λd=>(if d then t' t else some false)>>=λp=>some (bif d then p else false)>>=λg=>(if g then hX ((⟨0,[],t.bF,t.bH,t.Max,t.bh,[],t.Key,t.aF,bif t.Open then decide (t.Kind=5)else false⟩:ai),(⟨0,[],0,0,0,[],[],0,0,false⟩:ai))else some false)>>=λq=>some (bif g then q else false)else some (decide (t.Kind=7))>>=λi=>if i then if i then some (bif decide (0<=t.Max)then decide (t.Max<=50)else false)>>=λb=>if (t.Kind=8:Bool) then (if b then hX ((⟨0,t.Name,t.bF,t.bH,0,t.bh,t.ah,0,0,t.Open⟩:ai),(⟨0,[],0,0,0,[],[],0,0,false⟩:ai))else some false)>>=λs=>some (bif b then s else false)
 else (if b then hX ((⟨0,t.Name,t.bF,t.bH,0,t.bh,t.ah,t.Key,0,t.Open⟩:ai),(⟨0,[],0,0,0,[],[],0,0,false⟩:ai))else some false)>>=λu=>some (bif b then u else false)else if (t.Kind=9:Bool) then hX ((⟨0,t.Name,t.bF,t.bH,t.Max,t.bh,t.ah,t.Key,0,t.Open⟩:ai),(⟨0,[],0,0,0,[],[],0,0,false⟩:ai))>>=λw=>some w else some false else if (t.Kind=8:Bool) then some (bif decide (0<=t.Max)then decide (t.Max<=50)else false)>>=λc=>if (t.Kind=8:Bool) then (if c then hX ((⟨0,t.Name,t.bF,t.bH,0,t.bh,t.ah,0,0,t.Open⟩:ai),(⟨0,[],0,0,0,[],[],0,0,false⟩:ai))else some false)>>=λx=>some (bif c then x else false)else (if c then hX ((⟨0,t.Name,t.bF,t.bH,0,t.bh,t.ah,t.Key,0,t.Open⟩:ai),(⟨0,[],0,0,0,[],[],0,0,false⟩:ai))else some false)>>=λy=>some (bif c then y else false)else if (t.Kind=9:Bool) then hX ((⟨0,t.Name,t.bF,t.bH,t.Max,t.bh,t.ah,t.Key,0,t.Open⟩:ai),(⟨0,[],0,0,0,[],[],0,0,false⟩:ai))>>=λz=>some z else some false
theorem YB:aZ QN gA:= .bk (.k Yr (.k TM (.k Xa (.k Xb .n))))
def q1:List aS×Int×Int×ai×ar->Option (ai×ar)
 |(t7,c,t9,b,a)=>
 if (t9<c:Bool) then if aH t9 t7.length then some [(t7.getD t9.toNat aB).aw]>>=λt16=>if room 8 (a++t16).length then q1 (t7,c,aN .i64 t9 1,b,a++t16)else none else none else some (b,a)
  partial_fixpoint
theorem Xc:cK 170 0 [0] PD q1:= .rx q1.partial_correctness
def DK(t:ai):Option ar:=
 q1 (t.ah,(t.ah.length:Int),0,t,[])>>=λo=>if (o.1.Kind=8:Bool) then some [o.1.Key]>>=λt25=>if room 8 (o.2++t25).length then some (o.2++t25)>>=λl=>if (7<=o.1.Kind:Bool) then some [o.1.aF]>>=λt33=>if room 8 (l++t33).length then some (l++t33)else none else some l else none else if (7<=o.1.Kind:Bool) then some [o.1.aF]>>=λa=>if room 8 (o.2++a).length then some (o.2++a)else none else some o.2
theorem YC:aZ QO DK:= .bk .n (.k Xc .n)
def p1:List ai×Int×Int×ar×Int×Int×List ai×List ak×Int×ak×Int×Int×Int×List c3×List aS×Int×Int×Bool->Option ((Int) ⊕ (List ai×Int×Int×List ai×List ak×Int×ak×Int×Int×Int×List c3×List aS×Int×Int×Bool))
 |(n,o,p,t38,q,t40,a,b,c,d,e,f,g,i,j,k,l,m)=>
 if (t40<q:Bool) then if aH t40 t38.length then some (t38.getD t40.toNat 0)>>=λr=>if(bif (r<0:Bool)then true else ((a.length:Int)<=r:Bool)) then some (.inl 4)else p1 (n,o,p,t38,q,aN .i64 t40 1,a,b,c,d,e,f,g,i,j,k,l,m)else none else some (.inr (n,o,p,a,b,c,d,e,f,g,i,j,k,l,m))
  partial_fixpoint
theorem WH:cK 139 0 [0,0] Mr p1:= .rx p1.partial_correctness
def qX(j:List ai×Int×Int×List ai×List ak):Option ((Int) ⊕ (Unit)):=
 match j with
 |(t14,f,t16,b,d)=>
 if (t16<f:Bool) then if aH t16 t14.length then some (t14.getD t16.toNat aJ)>>=λa=>gA a>>=λr=>if(bif (!r)then true else bif (!(a.Name=[]:Bool))then jw d a.Name else false) then some (.inl 1)else DK a>>=λe=>p1 (t14,f,t16,e,(e.length:Int),0,b,iT d a.Name,a.Kind,a.Name,a.bF,a.bH,a.Max,a.bh,a.ah,a.Key,a.aF,a.Open)>>=λg=>match g with
 |.inl i=>
 some (.inl i)
 |.inr c=>
 some (decide (c.2.2.2.2.2.1=8))>>=λt56=>if(aH c.2.2.2.2.2.2.2.2.2.2.2.2.1 c.2.2.2.1.length||(!t56)) then some (decide ((c.2.2.2.1.getD c.2.2.2.2.2.2.2.2.2.2.2.2.1.toNat aJ).Kind<1))>>=λt65=>if(aH c.2.2.2.2.2.2.2.2.2.2.2.2.1 c.2.2.2.1.length||(!(t56&&(!t65)))) then if(bif t56 then bif t65 then true else (4<(c.2.2.2.1.getD c.2.2.2.2.2.2.2.2.2.2.2.2.1.toNat aJ).Kind:Bool)else false) then some (.inl 1)else qX (c.1,c.2.1,aN .i64 c.2.2.1 1,c.2.2.2.1,c.2.2.2.2.1)else none else none else none else some (.inr ())
  partial_fixpoint
theorem XB:cK 139 0 [0] PE qX:= .rx qX.partial_correctness (.k YB (.k YC .n)) (.k WH .n)
def pC(s:aT):Option Int:=
 if (32<(s.Types.length:Int):Bool) then some 3 else qX (s.Types,(s.Types.length:Int),0,s.Types,[])>>=λo=>match o with
 |.inl a=>
 some a
 |.inr b=>
 some 0
theorem yY:aZ Bu pC:= .bk .n (.k XB .n)
def vz(r:cY):Option Int:=
 pC r.cW>>=λa=>if !(a=0:Bool) then some a else if(bif (r.aw<0:Bool)then true else ((r.cW.Types.length:Int)<=r.aw:Bool)) then some 4 else some 0
theorem Xs:aZ Fe vz:= .bk (.k yY .n)
def mH:List cY×Int×Int->Option ((Int) ⊕ (Unit))
 |(t6,a,t8)=>
 if (t8<a:Bool) then if aH t8 t6.length then vz (t6.getD t8.toNat IN)>>=λr=>if !(r=0:Bool) then some (.inl r)else mH (t6,a,aN .i64 t8 1)else none else some (.inr ())
  partial_fixpoint
theorem Ws:cK 65 0 [0] Fp mH:= .rx mH.partial_correctness (.k Xs .n)
def y2(l:List cY):Option Int:=
 mH (l,(l.length:Int),0)>>=λo=>match o with
 |.inl a=>
 some a
 |.inr b=>
 some 0
theorem Xt:aZ Fo y2:= .bk .n (.k Ws .n)
def hF:Int×List ai×ar×Int×ar->Option (I×Bool×List ai×Int×ar×ar)
 |(c,b,e,f,a)=>
 oj 8 a>>=λr=>if((r.1.length=a.length:Bool)&&true) then some ((⟨0,false,0,[],0,[],[],[]⟩:I),false,b,c,r.1,r.2)else none
theorem rB:aZ QP hF:= .bk (.k n4 .n)
def mF:ak×Int×Int×Int->Option Int
 |(a,b,c,t18)=>
 if (t18<c:Bool) then if aH t18 a.length then mF (a,r5 .u64 (nd .u64 b 8) (bU .u64 (fw a t18)),c,aN .i64 t18 1)else none else some b
  partial_fixpoint
theorem WI:cK 172 0 [0] PF mF:= .rx mF.partial_correctness
def ua(s:ak):Option (Int×Int):=
 some (!(decide (s=[])))>>=λt7=>if(aH 0 s.length||(!t7)) then if(bif t7 then (fw s 0=0:Bool)else false) then some (0,2)else if (8<(s.length:Int):Bool) then some (0,7)else mF (s,0,(s.length:Int),0)>>=λo=>some (o,0)else none
theorem Xd:aZ QQ ua:= .bk .n (.k WI .n)
def CI(n:Int):Option Int:=
 some (uM .i64 (bU .i64 (lG .u64 n 1)) (dq .i64 0 (bU .i64 (Bj .u64 n 1))))
theorem XC:aZ QR CI:= .bk
def GG:c3×Int->Option (Bool×Int)
 |(a,b)=>
 some (decide (a.ad=b),b)
theorem XD:aZ Q5 GG:= .bk
def ny:List c3×Int×Int×Int->Option ((Int×Int) ⊕ (Int))
 |(a,c,t8,b)=>
 if (t8<c:Bool) then if aH t8 a.length then GG (a.getD t8.toNat dL,b)>>=λr=>if r.1 then some (.inl (t8,r.2))else ny (a,c,aN .i64 t8 1,r.2)else none else some (.inr b)
  partial_fixpoint
theorem Uv:cK 205 1 [0] OW ny:= .rx ny.partial_correctness (.k XD .n)
def GU(d:List c3×Int):Option (Int×Int):=
 match d with
 |(s,b)=>
 ny (s,(s.length:Int),0,b)>>=λo=>match o with
 |.inl a=>
 some (a.1,a.2)
 |.inr c=>
 some ((-1),c)
theorem Um:aZ Q4 GU:= .bk .n (.k Uv .n)
def tn:ai×Int->Option (Int×Bool)
 |(t,id)=>
 GU (t.bh,id)>>=λr=>some (iq r.1 0,decide (0<=r.1))
theorem CJ:aZ QL tn:= .bk (.k Um .n)
def Dy(a:Int):Option Bool:=
 some (!(decide (a=a)))
theorem YW:aZ RD Dy:= .bk
def DL:Int×Int->Option Int
 |(a,y)=>
 Dy a>>=λr=>Dy y>>=λb=>if r then if b then some 0 else some (-1)else if b then some 1 else if (a<y:Bool) then some (-1)else if (y<a:Bool) then some 1 else some 0
theorem YD:aZ Rn DL:= .bk (.k YW .n)
def DM(a:Int):Option Bool:=
 some (!(decide (a=a)))
theorem YE:aZ RC DM:= .bk
def y3:Int×Int->Option Int
 |(a,y)=>
 DM a>>=λr=>DM y>>=λb=>if r then if b then some 0 else some (-1)else if b then some 1 else if (a<y:Bool) then some (-1)else if (y<a:Bool) then some 1 else some 0
theorem Xu:aZ Rk y3:= .bk (.k YE .n)
def DN(a:ak):Option Bool:=
 some (!(decide (a=a)))
theorem YF:aZ RE DN:= .bk
def CS:ak×ak->Option Int
 |(a,y)=>
 DN a>>=λr=>DN y>>=λb=>if r then if b then some 0 else some (-1)else if b then some 1 else if Op.bytesLess a y then some (-1)else if !(Op.bytesLess a y||(a=y:Bool)) then some 1 else some 0
theorem WY:aZ Rp CS:= .bk (.k YF .n)
def ri:Int×ar×Int×Int->Option ((Int) ⊕ (Int))
 |(a,t6,b,t8)=>
 if (t8<b:Bool) then if aH t8 t6.length then some (t6.getD t8.toNat 0)>>=λc=>if !(c=a:Bool) then some (.inl c)else ri (a,t6,b,aN .i64 t8 1)else none else some (.inr a)
  partial_fixpoint
theorem YX:cK 233 0 [0] O0 ri:= .rx ri.partial_correctness
def El(a:ar):Option Int:=
 ri (0,a,(a.length:Int),0)>>=λo=>match o with
 |.inl b=>
 some b
 |.inr c=>
 some c
theorem acF:aZ Ro El:= .bk .n (.k YX .n)
def vA(n:Int):Option Int:=
 some (uM .u64 (nd .u64 (bU .u64 n) 1) (bU .u64 (lG .i64 n 63)))
theorem Ty:aZ QX vA:= .bk
def p7:I×I->Option Int
 |(a,b)=>
 if !(a.Kind=b.Kind:Bool) then some 0 else if (a.Kind=1:Bool) then if fy a.bN b.bN then some 0 else if b.bN then some (-1)else some 1 else if (a.Kind=2:Bool) then vA a.bd>>=λr=>vA b.bd>>=λc=>DL (r,c)>>=λd=>some d else if (a.Kind=3:Bool) then y3 ((a.bl.length:Int),(b.bl.length:Int))>>=λe=>CS (a.bl,b.bl)>>=λf=>El [e,f]>>=λg=>some g else if (a.Kind=4:Bool) then y3 (a.ad,b.ad)>>=λi=>some i else some 0
theorem Tz:aZ Q3 p7:= .bk (.k Ty (.k YD (.k Xu (.k WY (.k acF .n)))))
def rm:List ak×Int×List ai×ar×Int×ai×Int×Bool×Int×ak×Int×Int×Bool×Int×ak×Int×ar×List I->Option ((Bool×List ai×Int×I×ar×ar) ⊕ (List ak×List ai×ar×Int×ai×Int×Bool×Int×ak×Int×Int×Bool×Int×ak×Int×ar×List I))
 |(t,b,d,e,f,i,j,k,l,m,n,o,p,q,r,s,g,a)=>
 if (b<(a.length:Int):Bool) then some (dq .i64 b 1)>>=λt86=>if aH t86 a.length then if (t86.toNat<a.length:Bool) then if aH b a.length then if (b.toNat<a.length:Bool) then p7 (I.eta (a.getD t86.toNat av),I.eta (a.getD b.toNat av))>>=λu=>if (0<=u:Bool) then hF (1,d,e,f,g)>>=λc=>some (.inl (c.2.1,c.2.2.1,c.2.2.2.1,I.eta c.1,c.2.2.2.2.1,c.2.2.2.2.2))else rm (t,aN .i64 b 1,d,e,f,i,j,k,l,m,n,o,p,q,r,s,g,a)else none else none else none else none else some (.inr (t,d,e,f,i,j,k,l,m,n,o,p,q,r,s,g,a))
  partial_fixpoint
theorem Va:cK 177 2 [1] O1 rm:= .rx rm.partial_correctness (.k Tz (.k rB .n))
def tp:ak×Int×Int×Int->Option ((Int×Int×Int) ⊕ (Unit))
 |(a,n,b,t11)=>
 if (t11<b:Bool) then if aH t11 a.length then some (fw a t11)>>=λt16=>if(bif (t11=9:Bool)then (1<t16:Bool)else false) then some (.inl (0,0,7))else if (128<=t16:Bool) then some (gB .i64 7 t11)>>=λt41=>if (0<=t41:Bool) then tp (a,r5 .u64 n (nd .u64 (bU .u64 (Bj .u8 t16 127)) t41),b,aN .i64 t11 1)else none else if(bif (t16=0:Bool)then (0<t11:Bool)else false) then some (.inl (0,0,2))else some (gB .i64 7 t11)>>=λt21=>if (0<=t21:Bool) then some (.inl (r5 .u64 n (nd .u64 (bU .u64 t16) t21),aN .i64 t11 1,0))else none else none else some (.inr ())
  partial_fixpoint
theorem WZ:cK 254 0 [0] OX tp:= .rx tp.partial_correctness
def Dj(s:ak):Option (Int×Int×Int):=
 tp (s,0,jf 10 (s.length:Int),0)>>=λo=>match o with
 |.inl a=>
 some (a.1,a.2.1,a.2.2)
 |.inr b=>
 some (0,0,10)
theorem Ze:aZ RF Dj:= .bk .n (.k WZ .n)
def q8(s:ak):Option (Int×ak×Bool):=
 Dj s>>=λr=>if !(r.2.2=0:Bool) then some (0,[],false)else if dY r.2.1 (s.length:Int) s.length then some (r.1,ej s r.2.1 (s.length:Int),true)else none
theorem Hy:aZ Ry q8:= .bk (.k Ze .n)
def za(s:ak):Option (ak×ak×Bool):=
 q8 s>>=λr=>if(bif (!r.2.2)then true else (bU .u64 (r.2.1.length:Int)<r.1:Bool)) then some ([],[],false)else if dY 0 r.1 r.2.1.length then if dY r.1 (r.2.1.length:Int) r.2.1.length then some (ej r.2.1 0 r.1,ej r.2.1 r.1 (r.2.1.length:Int),true)else none else none
theorem JO:aZ Rz za:= .bk (.k Hy .n)
def hG:ak×List ak->Option ((Int) ⊕ (List ak))
 |(s,a)=>
 if !(s=[]:Bool) then za s>>=λr=>if !r.2.2 then some (.inl 12)else some [r.1]>>=λt22=>if room 16 (a++t22).length then hG (r.2.1,a++t22)else none else some (.inr a)
  partial_fixpoint
theorem XE:cK 213 0 [0] OZ hG:= .rx hG.partial_correctness (.k JO .n)
def ll(c:ak):Option (List ak×Int):=
 hG (c,[])>>=λo=>match o with
 |.inl a=>
 some ([],a)
 |.inr b=>
 some (b,0)
theorem TN:aZ Ra ll:= .bk .n (.k XE .n)
mutual
def jK(v:I):Option I:=
 fx 120 v.ay>>=λr=>fx 120 v.aj>>=λX=>fx 24 v.Rest>>=λY=>tU ((r.length:Int),0,v.Kind,v.bN,v.bd,v.bl,v.ad,0,false,0,[],0,r,X,Y)>>=λo=>tV ((o.2.2.2.2.2.2.2.2.2.2.2.1.length:Int),0,o.1,o.2.1,o.2.2.1,o.2.2.2.1,o.2.2.2.2.1,o.2.2.2.2.2.1,o.2.2.2.2.2.2.1,o.2.2.2.2.2.2.2.1,o.2.2.2.2.2.2.2.2.1,o.2.2.2.2.2.2.2.2.2.1,o.2.2.2.2.2.2.2.2.2.2.2.1,o.2.2.2.2.2.2.2.2.2.2.1,o.2.2.2.2.2.2.2.2.2.2.2.2)>>=λa=>some (⟨a.1,a.2.1,a.2.2.1,a.2.2.2.1,a.2.2.2.2.1,a.2.2.2.2.2.2.2.2.2.2.1,a.2.2.2.2.2.2.2.2.2.2.2.1,a.2.2.2.2.2.2.2.2.2.2.2.2⟩:I)
  partial_fixpoint
def tU:Int×Int×Int×Bool×Int×ak×Int×Int×Bool×Int×ak×Int×List I×List I×List bX->Option (Int×Bool×Int×ak×Int×Int×Bool×Int×ak×Int×List I×List I×List bX)
 |(U,t22,j,p,q,t,w,x,y,A,B,D,c,E,F)=>
 if (t22<U:Bool) then if aH t22 c.length then if (t22.toNat<c.length:Bool) then jK (I.eta (c.getD t22.toNat av))>>=λZ=>if aH t22 c.length then if (t22.toNat<c.length:Bool) then tU (U,aN .i64 t22 1,j,p,q,t,w,x,y,A,B,D,c.set t22.toNat (I.eta Z),E,F)else none else none else none else none else some (j,p,q,t,w,x,y,A,B,D,c,E,F)
  partial_fixpoint
def tV:Int×Int×Int×Bool×Int×ak×Int×Int×Bool×Int×ak×Int×List I×List I×List bX->Option (Int×Bool×Int×ak×Int×Int×Bool×Int×ak×Int×List I×List I×List bX)
 |(W,t37,G,H,J,K,L,M,N,O,P,Q,e,R,S)=>
 if (t37<W:Bool) then if aH t37 e.length then if (t37.toNat<e.length:Bool) then jK (I.eta (e.getD t37.toNat av))>>=λaf=>if aH t37 e.length then if (t37.toNat<e.length:Bool) then tV (W,aN .i64 t37 1,G,H,J,K,L,M,N,O,P,Q,e.set t37.toNat (I.eta af),R,S)else none else none else none else none else some (G,H,J,K,L,M,N,O,P,Q,R,e,S)
  partial_fixpoint
end
theorem XF:ec u4 jK/\eD 217 0 [1] AR tV/\eD 217 0 [0] AP tU:=jK.mutual_partial_correctness (d' u4) (eC 217 0 [1] AR) (eC 217 0 [0] AP)
 (λ_ _ h1 a _ _ h=>eh h (.k nC (.k pt .n)) (.k (eO AP a) (.k (eO AR h1) .n)))
 (λ_ _ h0 h1 _ _ h=>eN AR h1 h (.k (cc u4 h0) .n))
 (λ_ _ h0 a _ _ h=>eN AP a h (.k (cc u4 h0) .n))
theorem M2:aZ u4 jK:=cc _ XF.1
def G0:cS×aS->Option (Bool×aS)
 |(f,b)=>
 some (decide (f.ad=b.ad),(⟨b.ad,b.Name,b.aw,b.cg,b.bV,I.eta b.bB⟩:aS))
theorem UH:aZ Re G0:= .bk
def py:List cS×Int×Int×aS->Option ((Int×aS) ⊕ (aS))
 |(b,c,t8,a)=>
 if (t8<c:Bool) then if aH t8 b.length then G0 (b.getD t8.toNat gn,(⟨a.ad,a.Name,a.aw,a.cg,a.bV,I.eta a.bB⟩:aS))>>=λr=>if r.1 then some (.inl (t8,(⟨r.2.ad,r.2.Name,r.2.aw,r.2.cg,r.2.bV,I.eta r.2.bB⟩:aS)))else py (b,c,aN .i64 t8 1,(⟨r.2.ad,r.2.Name,r.2.aw,r.2.cg,r.2.bV,I.eta r.2.bB⟩:aS))else none else some (.inr (⟨a.ad,a.Name,a.aw,a.cg,a.bV,I.eta a.bB⟩:aS))
  partial_fixpoint
theorem Ul:cK 215 1 [0] O3 py:= .rx py.partial_correctness (.k UH .n)
def yP(d:List cS×aS):Option (Int×aS):=
 match d with
 |(s,b)=>
 py (s,(s.length:Int),0,(⟨b.ad,b.Name,b.aw,b.cg,b.bV,I.eta b.bB⟩:aS))>>=λo=>match o with
 |.inl a=>
 some (a.1,(⟨a.2.ad,a.2.Name,a.2.aw,a.2.cg,a.2.bV,I.eta a.2.bB⟩:aS))
 |.inr c=>
 some ((-1),(⟨c.ad,c.Name,c.aw,c.cg,c.bV,I.eta c.bB⟩:aS))
theorem Uq:aZ Rc yP:= .bk .n (.k Ul .n)
def GH:aS×Int->Option (Bool×Int)
 |(m,b)=>
 some (decide (m.ad=b),b)
theorem XG:aZ QI GH:= .bk
def pw:List aS×Int×Int×Int->Option ((Int×Int) ⊕ (Int))
 |(b,d,t8,c)=>
 if (t8<d:Bool) then if aH t8 b.length then some (b.getD t8.toNat aB)>>=λa=>GH ((⟨a.ad,a.Name,a.aw,a.cg,a.bV,I.eta a.bB⟩:aS),c)>>=λr=>if r.1 then some (.inl (t8,r.2))else pw (b,d,aN .i64 t8 1,r.2)else none else some (.inr c)
  partial_fixpoint
theorem Uw:cK 137 1 [0] OY pw:= .rx pw.partial_correctness (.k XG .n)
def GV(d:List aS×Int):Option (Int×Int):=
 match d with
 |(s,b)=>
 pw (s,(s.length:Int),0,b)>>=λo=>match o with
 |.inl a=>
 some (a.1,a.2)
 |.inr c=>
 some ((-1),c)
theorem Un:aZ QH GV:= .bk .n (.k Uw .n)
def hh:ai×Int->Option (Int×Bool)
 |(t,id)=>
 GV (t.ah,id)>>=λr=>some (iq r.1 0,decide (0<=r.1))
theorem nK:aZ R6 hh:= .bk (.k Un .n)
def o4:List cS×Int×Int×List ai×ar×Int×ai×Int×Bool×Int×ak×Int×Int×Bool×Int×ak×Int×ar×List I×List bX->Option ((Bool×List ai×Int×I×ar×ar) ⊕ (List ai×ar×Int×Int×Bool×Int×ak×Int×Int×Bool×Int×ak×Int×ar×List I×List bX))
 |(t117,u,t119,d,e,f,i,j,k,l,m,n,o,p,q,r,s,b,t,g)=>
 if (t119<u:Bool) then if aH t119 t117.length then some (t117.getD t119.toNat gn)>>=λc=>hh (i,c.ad)>>=λv=>if v.2 then o4 (t117,u,aN .i64 t119 1,d,e,f,i,j,k,l,m,n,o,p,q,r,s,b,t,g)else if c.cg then some [c.ad]>>=λt140=>if room 8 (b++t140).length then hF (6,d,e,f,b++t140)>>=λa=>some (dq .i64 (a.2.2.2.2.1.length:Int) 1)>>=λt159=>if dY 0 t159 a.2.2.2.2.1.length then if (t159.toNat<=a.2.2.2.2.1.length:Bool) then some (.inl (false,a.2.2.1,a.2.2.2.1,I.eta a.1,a.2.2.2.2.1.take t159.toNat,a.2.2.2.2.2))else none else none else none else some [(⟨c.ad,c.Data⟩:bX)]>>=λt171=>if room 24 (g++t171).length then o4 (t117,u,aN .i64 t119 1,d,e,f,i,j,k,l,m,n,o,p,q,r,s,b,t,g++t171)else none else none else some (.inr (d,e,f,j,k,l,m,n,o,p,q,r,s,b,t,g))
  partial_fixpoint
theorem Ve:cK 178 2 [1] O4 o4:= .rx o4.partial_correctness (.k nK (.k rB .n))
def gb:Int×ak×List cS->Option ((Int) ⊕ (List cS))
 |(last,s,a)=>
 if !(s=[]:Bool) then q8 s>>=λr=>if(bif bif (!r.2.2)then true else (fC .u64 r.1 2<=last:Bool)then true else (1000<fC .u64 r.1 2:Bool)) then some (.inl 12)else za r.2.1>>=λb=>if !b.2.2 then some (.inl 12)else some [(⟨bU .i64 (fC .u64 r.1 2),decide (b6 r.1 2=1),b.1⟩:cS)]>>=λt50=>if room 32 (a++t50).length then gb (fC .u64 r.1 2,b.2.1,a++t50)else none else some (.inr a)
  partial_fixpoint
theorem Wt:cK 214 0 [0] O2 gb:= .rx gb.partial_correctness (.k Hy (.k JO .n))
def lV(c:ak):Option (List cS×Int):=
 gb (0,c,[])>>=λo=>match o with
 |.inl a=>
 some ([],a)
 |.inr b=>
 some (b,0)
theorem W0:aZ Rb lV:= .bk .n (.k Wt .n)
def l0(a:ak):Option (Int×ak×Int):=
 q8 a>>=λr=>if(bif bif (!r.2.2)then true else (r.1<1:Bool)then true else (1000<r.1:Bool)) then some (0,[],12)else some (bU .i64 r.1,r.2.1,0)
theorem Zf:aZ Q' l0:= .bk (.k Hy .n)
mutual
def yi(A:ai×ak×List ai×ar×Int×ar):Option (I×Bool×List ai×ar×Int×ar):=
 match A with
 |(c,p,b,f,j,e)=>
 ll p>>=λr=>if(bif (!(r.2=0:Bool))then true else(!(b6 (r.1.length:Int) 2=0:Bool))) then hF (1,b,f,j,e)>>=λy=>some (I.eta y.1,y.2.1,y.2.2.1,y.2.2.2.2.2,y.2.2.2.1,y.2.2.2.2.1)else if (c.Max<fC .i64 (r.1.length:Int) 2:Bool) then hF (3,b,f,j,e)>>=λw=>some (I.eta w.1,w.2.1,w.2.2.1,w.2.2.2.2.2,w.2.2.2.1,w.2.2.2.2.1)else tf (r.1,0,b,f,j,c,0,false,0,[],0,c.Kind,false,0,[],0,e,[])>>=λo=>match o with
 |.inl x=>
 some (I.eta x.2.2.2.2.1,x.1,x.2.1,x.2.2.1,x.2.2.2.1,x.2.2.2.2.2)
 |.inr a=>
 rm (a.1,1,a.2.1,a.2.2.1,a.2.2.2.1,a.2.2.2.2.1,a.2.2.2.2.2.1,a.2.2.2.2.2.2.1,a.2.2.2.2.2.2.2.1,a.2.2.2.2.2.2.2.2.1,a.2.2.2.2.2.2.2.2.2.1,a.2.2.2.2.2.2.2.2.2.2.1,a.2.2.2.2.2.2.2.2.2.2.2.1,a.2.2.2.2.2.2.2.2.2.2.2.2.1,a.2.2.2.2.2.2.2.2.2.2.2.2.2.1,a.2.2.2.2.2.2.2.2.2.2.2.2.2.2.1,a.2.2.2.2.2.2.2.2.2.2.2.2.2.2.2.1,a.2.2.2.2.2.2.2.2.2.2.2.2.2.2.2.2)>>=λbC=>match bC with
 |.inl E=>
 some (I.eta E.2.2.2.1,E.1,E.2.1,E.2.2.2.2.2,E.2.2.1,E.2.2.2.2.1)
 |.inr v=>
 tg (v.1,1,v.2.1,v.2.2.1,v.2.2.2.1,v.2.2.2.2.1,v.2.2.2.2.2.1,v.2.2.2.2.2.2.1,v.2.2.2.2.2.2.2.1,v.2.2.2.2.2.2.2.2.1,v.2.2.2.2.2.2.2.2.2.1,v.2.2.2.2.2.2.2.2.2.2.1,v.2.2.2.2.2.2.2.2.2.2.2.1,v.2.2.2.2.2.2.2.2.2.2.2.2.1,v.2.2.2.2.2.2.2.2.2.2.2.2.2.1,v.2.2.2.2.2.2.2.2.2.2.2.2.2.2.1,v.2.2.2.2.2.2.2.2.2.2.2.2.2.2.2.1,v.2.2.2.2.2.2.2.2.2.2.2.2.2.2.2.2,[])>>=λio=>match io with
 |.inl K=>
 some (I.eta K.2.2.2.2.1,K.1,K.2.1,K.2.2.1,K.2.2.2.1,K.2.2.2.2.2)
 |.inr F=>
 some ((⟨F.2.2.2.2.2.2.2.2.1,F.2.2.2.2.2.2.2.2.2.1,F.2.2.2.2.2.2.2.2.2.2.1,F.2.2.2.2.2.2.2.2.2.2.2.1,F.2.2.2.2.2.2.2.2.2.2.2.2.1,F.2.2.2.2.2.2.2.2.2.2.2.2.2.2.1,F.2.2.2.2.2.2.2.2.2.2.2.2.2.2.2,[]⟩:I),true,F.1,F.2.1,F.2.2.1,F.2.2.2.2.2.2.2.2.2.2.2.2.2.1)
  partial_fixpoint
def C8(A:ai×ak×List ai×ar×Int×ar):Option (I×Bool×List ai×ar×Int×ar):=
 match A with
 |(c,p,b,f,j,e)=>
 ll p>>=λr=>if !(r.2=0:Bool) then hF (1,b,f,j,e)>>=λy=>some (I.eta y.1,y.2.1,y.2.2.1,y.2.2.2.2.2,y.2.2.2.1,y.2.2.2.2.1)else if (c.Max<(r.1.length:Int):Bool) then hF (3,b,f,j,e)>>=λw=>some (I.eta w.1,w.2.1,w.2.2.1,w.2.2.2.2.2,w.2.2.2.1,w.2.2.2.2.1)else sP (r.1,(r.1.length:Int),0,b,f,j,c,0,false,0,[],0,c.Kind,false,0,[],0,e,[])>>=λo=>match o with
 |.inl x=>
 some (I.eta x.2.2.2.2.1,x.1,x.2.1,x.2.2.1,x.2.2.2.1,x.2.2.2.2.2)
 |.inr a=>
 some ((⟨a.2.2.2.2.2.2.2.2.1,a.2.2.2.2.2.2.2.2.2.1,a.2.2.2.2.2.2.2.2.2.2.1,a.2.2.2.2.2.2.2.2.2.2.2.1,a.2.2.2.2.2.2.2.2.2.2.2.2.1,[],a.2.2.2.2.2.2.2.2.2.2.2.2.2.2,[]⟩:I),true,a.1,a.2.1,a.2.2.1,a.2.2.2.2.2.2.2.2.2.2.2.2.2.1)
  partial_fixpoint
def ja:Int×Int×ak×List ai×ar×Int×ar->Option (I×Bool×List ai×ar×Int×ar)
 |(step,t,p,b,f,j,e)=>
 some [step]>>=λt18=>if room 8 (e++t18).length then pc (t,p,b,f,j,e++t18)>>=λr=>some (dq .i64 (r.2.2.2.2.2.length:Int) 1)>>=λt39=>if dY 0 t39 r.2.2.2.2.2.length then if (t39.toNat<=r.2.2.2.2.2.length:Bool) then some (I.eta r.1,r.2.1,r.2.2.1,r.2.2.2.1,r.2.2.2.2.1,r.2.2.2.2.2.take t39.toNat)else none else none else none
  partial_fixpoint
def pc:Int×ak×List ai×ar×Int×ar->Option (I×Bool×List ai×ar×Int×ar)
 |(t,p,b,f,j,e)=>
 if (200<=(e.length:Int):Bool) then hF (8,b,f,j,e)>>=λr=>some (I.eta r.1,r.2.1,r.2.2.1,r.2.2.2.2.2,r.2.2.2.1,r.2.2.2.2.1)else if aH t b.length then some (b.getD t.toNat aJ)>>=λc=>if (c.Kind=1:Bool) then some (decide (p=[1]))>>=λt50=>if(bif (!(p=[]:Bool))then(!t50)else false) then hF (1,b,f,j,e)>>=λR=>some (I.eta R.1,R.2.1,R.2.2.1,R.2.2.2.2.2,R.2.2.2.1,R.2.2.2.2.1)else some ((⟨c.Kind,t50,0,[],0,[],[],[]⟩:I),true,b,f,j,e)else if (c.Kind=2:Bool) then ua p>>=λH=>if !(H.2=0:Bool) then hF (1,b,f,j,e)>>=λq=>some (I.eta q.1,q.2.1,q.2.2.1,q.2.2.2.2.2,q.2.2.2.1,q.2.2.2.2.1)else CI H.1>>=λbS=>if(bif (bS<c.bF:Bool)then true else (c.bH<bS:Bool)) then hF (2,b,f,j,e)>>=λL=>some (I.eta L.1,L.2.1,L.2.2.1,L.2.2.2.2.2,L.2.2.2.1,L.2.2.2.2.1)else some ((⟨c.Kind,false,bS,[],0,[],[],[]⟩:I),true,b,f,j,e)else if (c.Kind=3:Bool) then if (c.Max<(p.length:Int):Bool) then hF (3,b,f,j,e)>>=λB=>some (I.eta B.1,B.2.1,B.2.2.1,B.2.2.2.2.2,B.2.2.2.1,B.2.2.2.2.1)else some ((⟨c.Kind,false,0,p,0,[],[],[]⟩:I),true,b,f,j,e)else if (c.Kind=4:Bool) then ua p>>=λaE=>if(bif bif (!(aE.2=0:Bool))then true else (aE.1<1:Bool)then true else (1000<aE.1:Bool)) then hF (1,b,f,j,e)>>=λN=>some (I.eta N.1,N.2.1,N.2.2.1,N.2.2.2.2.2,N.2.2.2.1,N.2.2.2.2.1)else some (bU .i64 aE.1)>>=λt130=>tn (c,t130)>>=λi0=>if(bif (!i0.2)then(!c.Open)else false) then hF (4,b,f,j,e)>>=λO=>some (I.eta O.1,O.2.1,O.2.2.1,O.2.2.2.2.2,O.2.2.2.1,O.2.2.2.2.1)else some ((⟨c.Kind,false,0,[],t130,[],[],[]⟩:I),true,b,f,j,e)else if (c.Kind=9:Bool) then if (p=[]:Bool) then some ((⟨c.Kind,false,0,[],0,[],[],[]⟩:I),true,b,f,j,e)else if aH 0 p.length then if !(fw p 0=1:Bool) then hF (1,b,f,j,e)>>=λP=>some (I.eta P.1,P.2.1,P.2.2.1,P.2.2.2.2.2,P.2.2.2.1,P.2.2.2.2.1)else if dY 1 (p.length:Int) p.length then ja (0,c.aF,ej p 1 (p.length:Int),b,f,j,e)>>=λQ=>some ((⟨c.Kind,false,0,[],0,[],[I.eta Q.1],[]⟩:I),Q.2.1,Q.2.2.1,Q.2.2.2.1,Q.2.2.2.2.1,Q.2.2.2.2.2)else none else none else if (c.Kind=6:Bool) then C4 (c,p,b,f,j,e)>>=λS=>some (I.eta S.1,S.2.1,S.2.2.1,S.2.2.2.1,S.2.2.2.2.1,S.2.2.2.2.2)else if (c.Kind=7:Bool) then C8 (c,p,b,f,j,e)>>=λU=>some (I.eta U.1,U.2.1,U.2.2.1,U.2.2.2.1,U.2.2.2.2.1,U.2.2.2.2.2)else if (c.Kind=8:Bool) then yi (c,p,b,f,j,e)>>=λW=>some (I.eta W.1,W.2.1,W.2.2.1,W.2.2.2.1,W.2.2.2.2.1,W.2.2.2.2.2)else yj (c,p,b,f,j,e)>>=λX=>some (I.eta X.1,X.2.1,X.2.2.1,X.2.2.2.1,X.2.2.2.2.1,X.2.2.2.2.2)else none
  partial_fixpoint
def yj(A:ai×ak×List ai×ar×Int×ar):Option (I×Bool×List ai×ar×Int×ar):=
 match A with
 |(c,p,b,f,j,e)=>
 lV p>>=λr=>if !(r.2=0:Bool) then hF (1,b,f,j,e)>>=λy=>some (I.eta y.1,y.2.1,y.2.2.1,y.2.2.2.2.2,y.2.2.2.1,y.2.2.2.2.1)else mA (r.1,c.ah,(c.ah.length:Int),0,b,f,j,c,0,false,0,[],0,c.Kind,false,0,[],0,e,[])>>=λo=>match o with
 |.inl x=>
 some (I.eta x.2.2.2.2.1,x.1,x.2.1,x.2.2.1,x.2.2.2.1,x.2.2.2.2.2)
 |.inr a=>
 o4 (a.1,(a.1.length:Int),0,a.2.1,a.2.2.1,a.2.2.2.1,a.2.2.2.2.1,a.2.2.2.2.2.1,a.2.2.2.2.2.2.1,a.2.2.2.2.2.2.2.1,a.2.2.2.2.2.2.2.2.1,a.2.2.2.2.2.2.2.2.2.1,a.2.2.2.2.2.2.2.2.2.2.1,a.2.2.2.2.2.2.2.2.2.2.2.1,a.2.2.2.2.2.2.2.2.2.2.2.2.1,a.2.2.2.2.2.2.2.2.2.2.2.2.2.1,a.2.2.2.2.2.2.2.2.2.2.2.2.2.2.1,a.2.2.2.2.2.2.2.2.2.2.2.2.2.2.2.1,a.2.2.2.2.2.2.2.2.2.2.2.2.2.2.2.2,[])>>=λbC=>match bC with
 |.inl E=>
 some (I.eta E.2.2.2.1,E.1,E.2.1,E.2.2.2.2.2,E.2.2.1,E.2.2.2.2.1)
 |.inr v=>
 some ((⟨v.2.2.2.2.2.2.2.2.1,v.2.2.2.2.2.2.2.2.2.1,v.2.2.2.2.2.2.2.2.2.2.1,v.2.2.2.2.2.2.2.2.2.2.2.1,v.2.2.2.2.2.2.2.2.2.2.2.2.1,[],v.2.2.2.2.2.2.2.2.2.2.2.2.2.2.1,v.2.2.2.2.2.2.2.2.2.2.2.2.2.2.2⟩:I),true,v.1,v.2.1,v.2.2.1,v.2.2.2.2.2.2.2.2.2.2.2.2.2.1)
  partial_fixpoint
def C4:ai×ak×List ai×ar×Int×ar->Option (I×Bool×List ai×ar×Int×ar)
 |(c,p,b,f,j,e)=>
 l0 p>>=λr=>if !(r.2.2=0:Bool) then hF (1,b,f,j,e)>>=λM=>some (I.eta M.1,M.2.1,M.2.2.1,M.2.2.2.2.2,M.2.2.2.1,M.2.2.2.2.1)else hh (c,r.1)>>=λbR=>if bR.2 then if aH bR.1 c.ah.length then ja (r.1,(c.ah.getD bR.1.toNat aB).aw,r.2.1,b,f,j,e)>>=λH=>some ((⟨c.Kind,false,0,[],r.1,[],[I.eta H.1],[]⟩:I),H.2.1,H.2.2.1,H.2.2.2.1,H.2.2.2.2.1,H.2.2.2.2.2)else none else if !c.Open then hF (5,b,f,j,e)>>=λD=>some (I.eta D.1,D.2.1,D.2.2.1,D.2.2.2.2.2,D.2.2.2.1,D.2.2.2.2.1)else some ((⟨c.Kind,false,0,[],r.1,[],[],[(⟨r.1,r.2.1⟩:bX)]⟩:I),true,b,f,j,e)
  partial_fixpoint
def tf:List ak×Int×List ai×ar×Int×ai×Int×Bool×Int×ak×Int×Int×Bool×Int×ak×Int×ar×List I->Option ((Bool×List ai×ar×Int×I×ar) ⊕ (List ak×List ai×ar×Int×ai×Int×Bool×Int×ak×Int×Int×Bool×Int×ak×Int×ar×List I))
 |(am,i,g5,g6,g7,bs,g8,g9,he,hk,hm,hs,ht,hu,hw,hH,h0,bv)=>
 if (i<(am.length:Int):Bool) then if aH i am.length then ja (fC .i64 i 2,bs.Key,am.getD i.toNat [],g5,g6,g7,h0)>>=λq=>if !q.2.1 then some (.inl (false,q.2.2.1,q.2.2.2.1,q.2.2.2.2.1,I.eta q.1,q.2.2.2.2.2))else some [I.eta q.1]>>=λt73=>if room 120 (bv++t73).length then tf (am,aN .i64 i 2,q.2.2.1,q.2.2.2.1,q.2.2.2.2.1,bs,g8,g9,he,hk,hm,hs,ht,hu,hw,hH,q.2.2.2.2.2,bv++t73)else none else none else some (.inr (am,g5,g6,g7,bs,g8,g9,he,hk,hm,hs,ht,hu,hw,hH,h0,bv))
  partial_fixpoint
def tg:List ak×Int×List ai×ar×Int×ai×Int×Bool×Int×ak×Int×Int×Bool×Int×ak×Int×ar×List I×List I->Option ((Bool×List ai×ar×Int×I×ar) ⊕ (List ai×ar×Int×Int×Bool×Int×ak×Int×Int×Bool×Int×ak×Int×ar×List I×List I))
 |(aC,ag,h1,b1,b2,b3,b4,ce,ci,cs,cz,cQ,c9,dh,dt,eq,es,ex,aK)=>
 if (ag<(aC.length:Int):Bool) then if aH ag aC.length then ja (fC .i64 ag 2,b3.aF,aC.getD ag.toNat [],h1,b1,b2,es)>>=λB=>if !B.2.1 then some (.inl (false,B.2.2.1,B.2.2.2.1,B.2.2.2.2.1,I.eta B.1,B.2.2.2.2.2))else some [I.eta B.1]>>=λt125=>if room 120 (aK++t125).length then tg (aC,aN .i64 ag 2,B.2.2.1,B.2.2.2.1,B.2.2.2.2.1,b3,b4,ce,ci,cs,cz,cQ,c9,dh,dt,eq,B.2.2.2.2.2,ex,aK++t125)else none else none else some (.inr (h1,b1,b2,b4,ce,ci,cs,cz,cQ,c9,dh,dt,eq,es,ex,aK))
  partial_fixpoint
def sP:List ak×Int×Int×List ai×ar×Int×ai×Int×Bool×Int×ak×Int×Int×Bool×Int×ak×Int×ar×List I->Option ((Bool×List ai×ar×Int×I×ar) ⊕ (List ai×ar×Int×Int×Bool×Int×ak×Int×Int×Bool×Int×ak×Int×ar×List I))
 |(t38,ii,t40,fd,ff,fo,fs,gc,gd,ge,gl,gs,gt,g0,g1,g2,g3,g4,a0)=>
 if (t40<ii:Bool) then if aH t40 t38.length then ja (t40,fs.aF,t38.getD t40.toNat [],fd,ff,fo,g4)>>=λq=>if !q.2.1 then some (.inl (false,q.2.2.1,q.2.2.2.1,q.2.2.2.2.1,I.eta q.1,q.2.2.2.2.2))else some [I.eta q.1]>>=λt60=>if room 120 (a0++t60).length then sP (t38,ii,aN .i64 t40 1,q.2.2.1,q.2.2.2.1,q.2.2.2.2.1,fs,gc,gd,ge,gl,gs,gt,g0,g1,g2,g3,q.2.2.2.2.2,a0++t60)else none else none else some (.inr (fd,ff,fo,gc,gd,ge,gl,gs,gt,g0,g1,g2,g3,g4,a0))
  partial_fixpoint
def mA:List cS×List aS×Int×Int×List ai×ar×Int×ai×Int×Bool×Int×ak×Int×Int×Bool×Int×ak×Int×ar×List I->Option ((Bool×List ai×ar×Int×I×ar) ⊕ (List cS×List ai×ar×Int×ai×Int×Bool×Int×ak×Int×Int×Bool×Int×ak×Int×ar×List I))
 |(J,t39,b0,t41,an,ap,ax,a1,a2,a3,a4,a5,a9,bb,bc,be,bi,bq,Z,af)=>
 if (t41<b0:Bool) then if aH t41 t39.length then some (t39.getD t41.toNat aB)>>=λY=>yP (J,(⟨Y.ad,Y.Name,Y.aw,Y.cg,Y.bV,I.eta Y.bB⟩:aS))>>=λw=>if (0<=w.1:Bool) then if aH w.1 J.length then ja (w.2.ad,w.2.aw,(J.getD w.1.toNat gn).Data,an,ap,ax,Z)>>=λG=>if !G.2.1 then some (.inl (false,G.2.2.1,G.2.2.2.1,G.2.2.2.2.1,I.eta G.1,G.2.2.2.2.2))else some [I.eta G.1]>>=λt102=>if room 120 (af++t102).length then mA (J,t39,b0,aN .i64 t41 1,G.2.2.1,G.2.2.2.1,G.2.2.2.2.1,a1,a2,a3,a4,a5,a9,bb,bc,be,bi,bq,G.2.2.2.2.2,af++t102)else none else none else if w.2.bV then jK (I.eta w.2.bB)>>=λip=>some [I.eta ip]>>=λt113=>if room 120 (af++t113).length then mA (J,t39,b0,aN .i64 t41 1,an,ap,ax,a1,a2,a3,a4,a5,a9,bb,bc,be,bi,bq,Z,af++t113)else none else some [w.2.ad]>>=λt55=>if room 8 (Z++t55).length then hF (7,an,ap,ax,Z++t55)>>=λD=>some (dq .i64 (D.2.2.2.2.1.length:Int) 1)>>=λt74=>if dY 0 t74 D.2.2.2.2.1.length then if (t74.toNat<=D.2.2.2.2.1.length:Bool) then some (.inl (false,D.2.2.1,D.2.2.2.2.2,D.2.2.2.1,I.eta D.1,D.2.2.2.2.1.take t74.toNat))else none else none else none else none else some (.inr (J,an,ap,ax,a1,a2,a3,a4,a5,a9,bb,bc,be,bi,bq,Z,af))
  partial_fixpoint
end
theorem Vf:ec Bx yi/\eD 177 2 [2] AO tg/\ec oY ja/\ec xB pc/\ec By yj/\eD 178 2 [0] AS mA/\ec Bw C8/\eD 176 2 [0] AM sP/\ec Bv C4/\eD 177 2 [0] AN tf:=yi.mutual_partial_correctness (d' Bx) (eC 177 2 [2] AO) (d' oY) (d' xB) (d' By) (eC 178 2 [0] AS) (d' Bw) (eC 176 2 [0] AM) (d' Bv) (eC 177 2 [0] AN)
 (λ_ _ h1 c _ _ h=>eh h (.k TN (.k rB .n)) (.k (eO AN c) (.k Va (.k (eO AO h1) .n))))
 (λ_ _ h1 a _ _ h=>eN AO h1 h (.k (cc oY a) .n))
 (λ_ d _ _ h=>eh h (.k (cc xB d) .n))
 (λ_ _ _ _ _ h0 a e f g _ _ h=>eh h (.k rB (.k Xd (.k XC (.k CJ (.k (cc oY a) (.k (cc Bv g) (.k (cc Bw f) (.k (cc Bx h0) (.k (cc By e) .n))))))))))
 (λ_ bc _ _ h=>eh h (.k W0 (.k rB .n)) (.k (eO AS bc) (.k Ve .n)))
 (λ_ _ a bc _ _ h=>eN AS bc h (.k Uq (.k (cc oY a) (.k M2 (.k rB .n)))))
 (λ_ b _ _ h=>eh h (.k TN (.k rB .n)) (.k (eO AM b) .n))
 (λ_ _ a b _ _ h=>eN AM b h (.k (cc oY a) .n))
 (λ_ a _ _ h=>eh h (.k Zf (.k rB (.k nK (.k (cc oY a) .n)))))
 (λ_ _ a c _ _ h=>eN AN c h (.k (cc oY a) .n))
theorem UX:aZ xB pc:=cc _ Vf.2.2.2.1
def Hm:aT×Int×ak->Option (I×iV×Int)
 |(s,t,m)=>
 pC s>>=λr=>if !(r=0:Bool) then some ((⟨0,false,0,[],0,[],[],[]⟩:I),(⟨[],0⟩:iV),r)else if(bif (t<0:Bool)then true else ((s.Types.length:Int)<=t:Bool)) then some ((⟨0,false,0,[],0,[],[],[]⟩:I),(⟨[],0⟩:iV),4)else if (4096<(m.length:Int):Bool) then some ((⟨0,false,0,[],0,[],[],[]⟩:I),(⟨[],3⟩:iV),12)else pc (t,m,s.Types,[],0,[])>>=λa=>if !a.2.1 then some ((⟨0,false,0,[],0,[],[],[]⟩:I),(⟨a.2.2.2.1,a.2.2.2.2.1⟩:iV),12)else some (I.eta a.1,(⟨[],0⟩:iV),0)
theorem YG:aZ QA Hm:= .bk (.k yY (.k UX .n))
def tq:aT×Int×ak->Option (I×Int)
 |(s,t,m)=>
 Hm (s,t,m)>>=λr=>some (I.eta r.1,r.2.2)
theorem W1:aZ BJ tq:= .bk (.k YG .n)
def CT:aT×Int->Option Int
 |(s,t)=>
 pC s>>=λr=>if !(r=0:Bool) then some r else if(bif (t<0:Bool)then true else ((s.Types.length:Int)<=t:Bool)) then some 4 else some 0
theorem W2:aZ QC CT:= .bk (.k yY .n)
def Dk(v:I):Option I:=
 if (v.Kind=1:Bool) then some (⟨v.Kind,v.bN,0,[],0,[],[],[]⟩:I)else if (v.Kind=2:Bool) then some (⟨v.Kind,false,v.bd,[],0,[],[],[]⟩:I)else if (v.Kind=3:Bool) then some (⟨v.Kind,false,0,v.bl,0,[],[],[]⟩:I)else if (v.Kind=4:Bool) then some (⟨v.Kind,false,0,[],v.ad,[],[],[]⟩:I)else if (v.Kind=5:Bool) then some (⟨v.Kind,false,0,[],0,[],v.aj,v.Rest⟩:I)else if (v.Kind=6:Bool) then some (⟨v.Kind,false,0,[],v.ad,[],v.aj,v.Rest⟩:I)else if (v.Kind=8:Bool) then some (⟨v.Kind,false,0,[],0,v.ay,v.aj,[]⟩:I)else some (decide (v.Kind=7))>>=λt57=>if t57 then if t57 then some (⟨v.Kind,false,0,[],0,[],v.aj,[]⟩:I)else some (⟨v.Kind,false,0,[],0,[],[],[]⟩:I)else if (v.Kind=9:Bool) then some (⟨v.Kind,false,0,[],0,[],v.aj,[]⟩:I)else some (⟨v.Kind,false,0,[],0,[],[],[]⟩:I)
theorem Zg:aZ Rm Dk:= .bk
def Cz(v:I):Option Bool:=
 Dk (I.eta v)>>=λr=>some (bif bif bif bif bif bif fy v.bN r.bN then decide (v.bd=r.bd)else false then decide (v.bl=r.bl)else false then decide (v.ad=r.ad)else false then decide ((v.ay.length:Int)=(r.ay.length:Int))else false then decide ((v.aj.length:Int)=(r.aj.length:Int))else false then decide ((v.Rest.length:Int)=(r.Rest.length:Int))else false)
theorem Yt:aZ Q1 Cz:= .bk (.k Zg .n)
def zT(id:Int):Option Bool:=
 some (bif decide (1<=id)then decide (id<=1000)else false)
theorem J8:aZ Q2 zT:= .bk
def lk:Bool×List bX×Int×Int×List ai×I×Int×ak×Int×Int×Int×List c3×List aS×Int×Int×Bool->Option ((Bool) ⊕ (Bool×List ai×Int×Bool×Int×ak×Int×List I×List I×List bX×Int×ak×Int×Int×Int×List c3×List aS×Int×Int×Bool))
 |(o,t111,q,t113,n,a,b,c,d,e,f,g,i,j,k,l)=>
 if (t113<q:Bool) then if aH t113 t111.length then some (t111.getD t113.toNat bW)>>=λm=>hh ((⟨b,c,d,e,f,g,i,j,k,l⟩:ai),m.ad)>>=λp=>(if !p.2 then zT m.ad else some false)>>=λr=>some (bif p.2 then true else(!r))>>=λt131=>some (decide (0<t113))>>=λt134=>some (dq .i64 t113 1)>>=λt141=>if(aH t141 a.Rest.length||(!((!t131)&&t134))) then if(bif t131 then true else bif t134 then (m.ad<=(a.Rest.getD t141.toNat bW).ad:Bool)else false) then some (.inl false)else lk (o,t111,q,aN .i64 t113 1,n,I.eta a,b,c,d,e,f,g,i,j,k,l)else none else none else some (.inr (o,n,a.Kind,a.bN,a.bd,a.bl,a.ad,a.ay,a.aj,a.Rest,b,c,d,e,f,g,i,j,k,l))
  partial_fixpoint
theorem W3:cK 164 0 [0] O5 lk:= .rx lk.partial_correctness (.k nK (.k J8 .n))
def kG:Bool×Int×List ai×I×Int×ak×Int×Int×Int×List c3×List aS×Int×Int×Bool->Option ((Bool) ⊕ (Bool×List ai×I×Int×ak×Int×Int×Int×List c3×List aS×Int×Int×Bool))
 |(o,i,b,a,c,d,e,f,g,j,k,l,m,n)=>
 if (i<(a.ay.length:Int):Bool) then some (dq .i64 i 1)>>=λt291=>if aH t291 a.ay.length then if aH i a.ay.length then p7 (I.eta (a.ay.getD t291.toNat av),I.eta (a.ay.getD i.toNat av))>>=λp=>if (0<=p:Bool) then some (.inl false)else kG (o,aN .i64 i 1,b,I.eta a,c,d,e,f,g,j,k,l,m,n)else none else none else some (.inr (o,b,I.eta a,c,d,e,f,g,j,k,l,m,n))
  partial_fixpoint
theorem W4:cK 164 0 [2] O6 kG:= .rx kG.partial_correctness (.k Tz .n)
mutual
def Cr:List I×List ai×Int×Bool->Option (Bool×List ai×Int×Bool)
 |(s,b,f,j)=>
 GZ (s,b,f,j)>>=λr=>some (decide (0<=r.1),r.2.1,r.2.2.1,r.2.2.2)
  partial_fixpoint
def GZ(e:List I×List ai×Int×Bool):Option (Int×List ai×Int×Bool):=
 match e with
 |(s,b,f,j)=>
 qI (s,(s.length:Int),0,b,f,j)>>=λo=>match o with
 |.inl p=>
 some (p.1,p.2.1,p.2.2.1,p.2.2.2)
 |.inr c=>
 some ((-1),c.1,c.2.1,c.2.2)
  partial_fixpoint
def rf:aT×Int×List I×Bool->Option Bool
 |(s,t,l,plain)=>
 Cr (l,s.Types,t,plain)>>=λr=>some (!r.1)
  partial_fixpoint
def HI:I×List ai×Int×Bool->Option (Bool×List ai×Int×Bool)
 |(v,b,f,j)=>
 j7 ((⟨b⟩:aT),f,I.eta v,j)>>=λr=>some ((!r),b,f,j)
  partial_fixpoint
def j7(e:aT×Int×I×Bool):Option Bool:=
 match e with
 |(s,t,v,plain)=>
 if(bif (t<0:Bool)then true else ((s.Types.length:Int)<=t:Bool)) then some false else if aH t s.Types.length then some (s.Types.getD t.toNat aJ)>>=λa=>some (!(decide (v.Kind=a.Kind)))>>=λt39=>(if !t39 then Cz (I.eta v)else some false)>>=λr=>if(bif t39 then true else(!r)) then some false else if (a.Kind=2:Bool) then some (bif decide (a.bF<=v.bd)then decide (v.bd<=a.bH)else false)else if (a.Kind=3:Bool) then some (decide ((v.bl.length:Int)<=a.Max))else if (a.Kind=4:Bool) then tn (a,v.ad)>>=λG=>some (bif a.Open then(!plain)else false)>>=λt85=>(if((!G.2)&&t85) then zT v.ad else some false)>>=λam=>some (bif G.2 then true else bif t85 then am else false)else if (a.Kind=5:Bool) then if(bif (!((v.aj.length:Int)=(a.ah.length:Int):Bool))then true else bif plain then (0<(v.Rest.length:Int):Bool)else false) then some false else lk (plain,v.Rest,(v.Rest.length:Int),0,s.Types,I.eta v,a.Kind,a.Name,a.bF,a.bH,a.Max,a.bh,a.ah,a.Key,a.aF,a.Open)>>=λo=>match o with
 |.inl p=>
 some p
 |.inr c=>
 mL (c.1,c.2.2.2.2.2.2.2.2.2.2.2.2.2.2.2.2.1,(c.2.2.2.2.2.2.2.2.2.2.2.2.2.2.2.2.1.length:Int),0,c.2.1,c.2.2.1,c.2.2.2.1,c.2.2.2.2.1,c.2.2.2.2.2.1,c.2.2.2.2.2.2.1,c.2.2.2.2.2.2.2.1,c.2.2.2.2.2.2.2.2.1,c.2.2.2.2.2.2.2.2.2.1)>>=λR=>match R with
 |.inl S=>
 some S
 |.inr ax=>
 some true else if (a.Kind=6:Bool) then hh (a,v.ad)>>=λx=>if x.2 then some (bif decide ((v.aj.length:Int)=1)then decide ((v.Rest.length:Int)=0)else false)>>=λt188=>if(aH x.1 a.ah.length||(!t188)) then if(aH 0 v.aj.length||(!t188)) then (if t188 then j7 ((⟨s.Types⟩:aT),(a.ah.getD x.1.toNat aB).aw,I.eta (v.aj.getD (0:Int).toNat av),plain)else some false)>>=λan=>some (bif t188 then an else false)else none else none else some (bif a.Open then(!plain)else false)>>=λt209=>(if t209 then zT v.ad else some false)>>=λap=>some (bif bif bif t209 then ap else false then decide ((v.aj.length:Int)=0)else false then decide ((v.Rest.length:Int)=1)else false)>>=λt226=>if(aH 0 v.Rest.length||(!t226)) then some (bif t226 then decide ((v.Rest.getD (0:Int).toNat bW).ad=v.ad)else false)else none else if (a.Kind=7:Bool) then some (decide ((v.aj.length:Int)<=a.Max))>>=λt244=>(if t244 then rf ((⟨s.Types⟩:aT),a.aF,v.aj,plain)else some false)>>=λX=>some (bif t244 then X else false)else if (a.Kind=8:Bool) then some (bif decide (a.Max<(v.ay.length:Int))then true else(!(decide ((v.aj.length:Int)=(v.ay.length:Int)))))>>=λt270=>(if !t270 then rf ((⟨s.Types⟩:aT),a.Key,v.ay,plain)else some false)>>=λY=>if(bif t270 then true else(!Y)) then some false else kG (plain,1,s.Types,I.eta v,a.Kind,a.Name,a.bF,a.bH,a.Max,a.bh,a.ah,a.Key,a.aF,a.Open)>>=λU=>match U with
 |.inl W=>
 some W
 |.inr q=>
 rf ((⟨q.2.1⟩:aT),q.2.2.2.2.2.2.2.2.2.2.2.1,q.2.2.1.aj,q.1)>>=λZ=>some Z else if (a.Kind=9:Bool) then some (decide ((v.aj.length:Int)<=1))>>=λt313=>(if t313 then rf ((⟨s.Types⟩:aT),a.aF,v.aj,plain)else some false)>>=λaf=>some (bif t313 then af else false)else some true else none
  partial_fixpoint
def qI:List I×Int×Int×List ai×Int×Bool->Option ((Int×List ai×Int×Bool) ⊕ (List ai×Int×Bool))
 |(y,J,t8,E,A,B)=>
 if (t8<J:Bool) then if aH t8 y.length then HI (I.eta (y.getD t8.toNat av),E,A,B)>>=λr=>if r.1 then some (.inl (t8,r.2.1,r.2.2.1,r.2.2.2))else qI (y,J,aN .i64 t8 1,r.2.1,r.2.2.1,r.2.2.2)else none else some (.inr (E,A,B))
  partial_fixpoint
def mL:Bool×List aS×Int×Int×List ai×Int×Bool×Int×ak×Int×List I×List I×List bX->Option ((Bool) ⊕ (Unit))
 |(F,t150,H,t152,D,K,L,M,N,O,P,w,Q)=>
 if (t152<H:Bool) then if aH t152 t150.length then if aH t152 w.length then j7 ((⟨D⟩:aT),(t150.getD t152.toNat aB).aw,I.eta (w.getD t152.toNat av),F)>>=λag=>if !ag then some (.inl false)else mL (F,t150,H,aN .i64 t152 1,D,K,L,M,N,O,P,w,Q)else none else none else some (.inr ())
  partial_fixpoint
end
theorem Ux:ec Ej Cr/\ec Ei GZ/\eD 207 3 [0] zu qI/\ec BF HI/\ec sI j7/\ec BE rf/\eD 164 0 [1] AT mL:=Cr.mutual_partial_correctness (d' Ej) (d' Ei) (eC 207 3 [0] zu) (d' BF) (d' sI) (d' BE) (eC 164 0 [1] AT)
 (λ_ h1 _ _ h=>eh h (.k (cc Ei h1) .n))
 (λ_ b _ _ h=>eh h .n (.k (eO zu b) .n))
 (λ_ _ b d _ _ h=>eN zu b h (.k (cc BF d) .n))
 (λ_ a _ _ h=>eh h (.k (cc sI a) .n))
 (λ_ _ _ a bc c _ _ h=>eh h (.k Yt (.k CJ (.k J8 (.k nK (.k (cc sI a) (.k (cc BE bc) .n)))))) (.k W3 (.k (eO AT c) (.k W4 .n))))
 (λ_ h0 _ _ h=>eh h (.k (cc Ej h0) .n))
 (λ_ _ a c _ _ h=>eN AT c h (.k (cc sI a) .n))
theorem J9:aZ sI j7:=cc _ Ux.2.2.2.2.1
def tG:aT×Int×I->Option Bool
 |(s,t,v)=>
 j7 ((⟨s.Types⟩:aT),t,I.eta v,false)>>=λr=>some r
theorem Ka:aZ QD tG:= .bk (.k J9 .n)
def CU:aT×Int×I->Option Int
 |(s,t,v)=>
 CT (s,t)>>=λr=>if !(r=0:Bool) then some r else tG (s,t,I.eta v)>>=λa=>if !a then some 1 else some 0
theorem W5:aZ R5 CU:= .bk (.k W2 (.k Ka .n))
def mM:ai×I->Option Bool
 |(a,v)=>
 if !(a.Kind=4:Bool) then some false else tn (a,v.ad)>>=λr=>some (!r.2)
theorem TO:aZ QE mM:= .bk (.k CJ .n)
def CA:I×List ai×ai->Option (Bool×List ai×ai)
 |(k,b,a)=>
 if aH a.Key b.length then mM (b.getD a.Key.toNat aJ,I.eta k)>>=λr=>some (r,b,a)else none
theorem Yu:aZ QM CA:= .bk (.k TO .n)
def px:List I×Int×Int×List ai×ai->Option ((Int×List ai×ai) ⊕ (List ai×ai))
 |(a,d,t8,b,c)=>
 if (t8<d:Bool) then if aH t8 a.length then CA (I.eta (a.getD t8.toNat av),b,c)>>=λr=>if r.1 then some (.inl (t8,r.2.1,r.2.2))else px (a,d,aN .i64 t8 1,r.2.1,r.2.2)else none else some (.inr (b,c))
  partial_fixpoint
theorem Uj:cK 207 2 [0] Mt px:= .rx px.partial_correctness (.k Yu .n)
def GW(e:List I×List ai×ai):Option (Int×List ai×ai):=
 match e with
 |(s,b,d)=>
 px (s,(s.length:Int),0,b,d)>>=λo=>match o with
 |.inl a=>
 some (a.1,a.2.1,a.2.2)
 |.inr c=>
 some ((-1),c.1,c.2)
theorem Uo:aZ O7 GW:= .bk .n (.k Uj .n)
def GR:List I×List ai×ai->Option (Bool×List ai×ai)
 |(s,b,a)=>
 GW (s,b,a)>>=λr=>some (decide (0<=r.1),r.2.1,r.2.2)
theorem Uk:aZ O8 GR:= .bk (.k Uo .n)
def Dl:aT×ai×I->Option Bool
 |(s,a,v)=>
 GR (v.ay,s.Types,a)>>=λr=>some r.1
theorem Zh:aZ QF Dl:= .bk (.k Uk .n)
def nN:Int×Int×ai×I×List iH->Option (List iH)
 |(d,t12,a,c,b)=>
 if (t12<d:Bool) then if (a.Kind=5:Bool) then if aH t12 a.ah.length then if aH t12 a.ah.length then some [(⟨(a.ah.getD t12.toNat aB).aw,(a.ah.getD t12.toNat aB).ad⟩:iH)]>>=λt40=>if room 16 (b++t40).length then nN (d,aN .i64 t12 1,a,I.eta c,b++t40)else none else none else none else if (a.Kind=6:Bool) then hh (a,c.ad)>>=λr=>if aH r.1 a.ah.length then some [(⟨(a.ah.getD r.1.toNat aB).aw,c.ad⟩:iH)]>>=λt61=>if room 16 (b++t61).length then nN (d,aN .i64 t12 1,a,I.eta c,b++t61)else none else none else some [(⟨a.aF,t12⟩:iH)]>>=λt22=>if room 16 (b++t22).length then nN (d,aN .i64 t12 1,a,I.eta c,b++t22)else none else some b
  partial_fixpoint
theorem Xe:cK 133 0 [0] O9 nN:= .rx nN.partial_correctness (.k nK .n)
def DO:ai×I->Option (List iH)
 |(a,v)=>
 nN ((v.aj.length:Int),0,a,I.eta v,[])>>=λo=>some o
theorem XY:aZ QG DO:= .bk .n (.k Xe .n)
mutual
def lY(p:aT×Int×I):Option (I×Bool):=
 match p with
 |(s,t,v)=>
 if aH t s.Types.length then some (s.Types.getD t.toNat aJ)>>=λe=>mM (e,I.eta v)>>=λr=>(if !r then Dl (s,e,I.eta v)else some false)>>=λN=>if(bif bif r then true else N then true else bif (e.Kind=6:Bool)then ((v.aj.length:Int)=0:Bool)else false) then some ((⟨0,false,0,[],0,[],[],[]⟩:I),false)else fx 120 v.ay>>=λO=>DO (e,I.eta v)>>=λK=>q2 (K,(K.length:Int),0,s.Types,I.eta v,0,false,0,[],0,v.Kind,v.bN,v.bd,v.bl,v.ad,O,[])>>=λo=>match o with
 |.inl c=>
 some ((⟨c.2.1,c.2.2.1,c.2.2.2.1,c.2.2.2.2.1,c.2.2.2.2.2,[],[],[]⟩:I),c.1)
 |.inr a=>
 some ((⟨a.2.2.2.2.2.1,a.2.2.2.2.2.2.1,a.2.2.2.2.2.2.2.1,a.2.2.2.2.2.2.2.2.1,a.2.2.2.2.2.2.2.2.2.1,a.2.2.2.2.2.2.2.2.2.2.1,a.2.2.2.2.2.2.2.2.2.2.2,[]⟩:I),true)else none
  partial_fixpoint
def q2:List iH×Int×Int×List ai×I×Int×Bool×Int×ak×Int×Int×Bool×Int×ak×Int×List I×List I->Option ((Bool×Int×Bool×Int×ak×Int) ⊕ (Int×Bool×Int×ak×Int×Int×Bool×Int×ak×Int×List I×List I))
 |(t49,M,t51,q,f,w,x,y,A,B,D,E,F,G,H,J,j)=>
 if (t51<M:Bool) then if aH t51 t49.length then if aH t51 f.aj.length then lY ((⟨q⟩:aT),(t49.getD t51.toNat Ha).t,I.eta (f.aj.getD t51.toNat av))>>=λL=>if !L.2 then some (.inl (false,0,false,0,[],0))else some [I.eta L.1]>>=λt74=>if room 120 (j++t74).length then q2 (t49,M,aN .i64 t51 1,q,I.eta f,w,x,y,A,B,D,E,F,G,H,J,j++t74)else none else none else none else some (.inr (w,x,y,A,B,D,E,F,G,H,J,j))
  partial_fixpoint
end
theorem W6:ec xC lY/\eD 141 0 [0] AU q2:=lY.mutual_partial_correctness (d' xC) (eC 141 0 [0] AU)
 (λ_ h1 _ _ h=>eh h (.k TO (.k Zh (.k nC (.k XY .n)))) (.k (eO AU h1) .n))
 (λ_ _ h0 h1 _ _ h=>eN AU h1 h (.k (cc xC h0) .n))
theorem XZ:aZ xC lY:=cc _ W6.1
def nl:aT×Int×I->Option (I×Int)
 |(s,t,v)=>
 CU (s,t,I.eta v)>>=λr=>if !(r=0:Bool) then some ((⟨0,false,0,[],0,[],[],[]⟩:I),r)else lY (s,t,I.eta v)>>=λa=>if !a.2 then some ((⟨0,false,0,[],0,[],[],[]⟩:I),12)else some (I.eta a.1,0)
theorem X0:aZ Br nl:= .bk (.k W5 (.k XZ .n))
def yZ:aT×Int->Option Int
 |(s,t)=>
 pC s>>=λr=>if !(r=0:Bool) then some r else if(bif (t<0:Bool)then true else ((s.Types.length:Int)<=t:Bool)) then some 4 else some 0
theorem Xf:aZ QS yZ:= .bk (.k yY .n)
def Hn:aT×Int×I->Option Bool
 |(s,t,v)=>
 j7 (s,t,I.eta v,true)>>=λr=>some r
theorem X1:aZ QT Hn:= .bk (.k J9 .n)
def CV:aT×Int×I×aT×Int->Option Int
 |(w,wt,v,r,rt)=>
 yZ (w,wt)>>=λa=>if !(a=0:Bool) then some a else yZ (r,rt)>>=λb=>if !(b=0:Bool) then some b else Hn (w,wt,I.eta v)>>=λc=>if !c then some 1 else some 0
theorem Yk:aZ QJ CV:= .bk (.k Xf (.k X1 .n))
def s6:List ai×List ai×ar×ar->Option (I×Bool×List ai×List ai×ar×ar)
 |(b,c,e,a)=>
 oj 8 a>>=λr=>if((r.1.length=a.length:Bool)&&true) then some ((⟨0,false,0,[],0,[],[],[]⟩:I),false,b,c,r.1,r.2)else none
theorem Tb:aZ QU s6:= .bk (.k n4 .n)
def vf:Int×List ai×List ai×ar×ar->Option (I×Bool×List ai×List ai×ar×ar)
 |(id,b,c,e,a)=>
 oj 8 a>>=λr=>if((r.1.length=a.length:Bool)&&true) then some [id]>>=λt13=>if room 8 (r.2++t13).length then some ((⟨0,false,0,[],0,[],[],[]⟩:I),false,b,c,r.1,r.2++t13)else none else none
theorem Tp:aZ Rf vf:= .bk (.k n4 .n)
mutual
def j6(v:I):Option I:=
 fx 120 v.ay>>=λr=>fx 120 v.aj>>=λX=>fx 24 v.Rest>>=λY=>s7 ((r.length:Int),0,v.Kind,v.bN,v.bd,v.bl,v.ad,0,false,0,[],0,r,X,Y)>>=λo=>s8 ((o.2.2.2.2.2.2.2.2.2.2.2.1.length:Int),0,o.1,o.2.1,o.2.2.1,o.2.2.2.1,o.2.2.2.2.1,o.2.2.2.2.2.1,o.2.2.2.2.2.2.1,o.2.2.2.2.2.2.2.1,o.2.2.2.2.2.2.2.2.1,o.2.2.2.2.2.2.2.2.2.1,o.2.2.2.2.2.2.2.2.2.2.2.1,o.2.2.2.2.2.2.2.2.2.2.1,o.2.2.2.2.2.2.2.2.2.2.2.2)>>=λa=>some (⟨a.1,a.2.1,a.2.2.1,a.2.2.2.1,a.2.2.2.2.1,a.2.2.2.2.2.2.2.2.2.2.1,a.2.2.2.2.2.2.2.2.2.2.2.1,a.2.2.2.2.2.2.2.2.2.2.2.2⟩:I)
  partial_fixpoint
def s7:Int×Int×Int×Bool×Int×ak×Int×Int×Bool×Int×ak×Int×List I×List I×List bX->Option (Int×Bool×Int×ak×Int×Int×Bool×Int×ak×Int×List I×List I×List bX)
 |(U,t22,j,p,q,t,w,x,y,A,B,D,c,E,F)=>
 if (t22<U:Bool) then if aH t22 c.length then if (t22.toNat<c.length:Bool) then j6 (I.eta (c.getD t22.toNat av))>>=λZ=>if aH t22 c.length then if (t22.toNat<c.length:Bool) then s7 (U,aN .i64 t22 1,j,p,q,t,w,x,y,A,B,D,c.set t22.toNat (I.eta Z),E,F)else none else none else none else none else some (j,p,q,t,w,x,y,A,B,D,c,E,F)
  partial_fixpoint
def s8:Int×Int×Int×Bool×Int×ak×Int×Int×Bool×Int×ak×Int×List I×List I×List bX->Option (Int×Bool×Int×ak×Int×Int×Bool×Int×ak×Int×List I×List I×List bX)
 |(W,t37,G,H,J,K,L,M,N,O,P,Q,e,R,S)=>
 if (t37<W:Bool) then if aH t37 e.length then if (t37.toNat<e.length:Bool) then j6 (I.eta (e.getD t37.toNat av))>>=λaf=>if aH t37 e.length then if (t37.toNat<e.length:Bool) then s8 (W,aN .i64 t37 1,G,H,J,K,L,M,N,O,P,Q,e.set t37.toNat (I.eta af),R,S)else none else none else none else none else some (G,H,J,K,L,M,N,O,P,Q,R,e,S)
  partial_fixpoint
end
theorem Wu:ec u5 j6/\eD 219 0 [1] Ak s8/\eD 219 0 [0] Aj s7:=j6.mutual_partial_correctness (d' u5) (eC 219 0 [1] Ak) (eC 219 0 [0] Aj)
 (λ_ _ h1 a _ _ h=>eh h (.k nC (.k pt .n)) (.k (eO Aj a) (.k (eO Ak h1) .n)))
 (λ_ _ h0 h1 _ _ h=>eN Ak h1 h (.k (cc u5 h0) .n))
 (λ_ _ h0 a _ _ h=>eN Aj a h (.k (cc u5 h0) .n))
theorem Xg:aZ u5 j6:=cc _ Wu.1
mutual
def vF(c:List I×List I):Option Bool:=
 match c with
 |(s1,f)=>
 if !((s1.length:Int)=(f.length:Int):Bool) then some false else vD (f,s1,(s1.length:Int),0)>>=λo=>match o with
 |.inl p=>
 some p
 |.inr v=>
 some true
  partial_fixpoint
def pD:I×I->Option Bool
 |(a,b)=>
 some (bif bif bif bif decide (a.Kind=b.Kind)then fy a.bN b.bN else false then decide (a.bd=b.bd)else false then decide (a.bl=b.bl)else false then decide (a.ad=b.ad)else false)>>=λt37=>(if t37 then yd (a.Rest,b.Rest)else some false)>>=λr=>some (bif t37 then r else false)>>=λt44=>(if t44 then vF (a.ay,b.ay)else some false)>>=λq=>some (bif t44 then q else false)>>=λt51=>(if t51 then vF (a.aj,b.aj)else some false)>>=λt=>some (bif t51 then t else false)
  partial_fixpoint
def vD:List I×List I×Int×Int->Option ((Bool) ⊕ (Unit))
 |(e,t15,j,t17)=>
 if (t17<j:Bool) then if aH t17 t15.length then if aH t17 e.length then pD (I.eta (t15.getD t17.toNat av),I.eta (e.getD t17.toNat av))>>=λr=>if !r then some (.inl false)else vD (e,t15,j,aN .i64 t17 1)else none else none else some (.inr ())
  partial_fixpoint
end
theorem Uu:ec Ek vF/\eD 104 0 [0] zv vD/\ec xM pD:=vF.mutual_partial_correctness (d' Ek) (eC 104 0 [0] zv) (d' xM)
 (λ_ h1 _ _ h=>eh h .n (.k (eO zv h1) .n))
 (λ_ _ h1 a _ _ h=>eN zv h1 h (.k (cc xM a) .n))
 (λ_ h0 _ _ h=>eh h (.k Ti (.k (cc Ek h0) .n)))
theorem JP:aZ xM pD:=cc _ Uu.2.2
def s9:aS×I->Option Bool
 |(m,item)=>
 (if m.bV then pD (I.eta item,I.eta m.bB)else some false)>>=λr=>some (bif m.bV then r else false)
theorem G4:aZ Rh s9:= .bk (.k JP .n)
def GP:aT×Int->Option Int
 |(s,t)=>
 pC (⟨s.Types⟩:aT)>>=λr=>if !(r=0:Bool) then some r else if(bif (t<0:Bool)then true else ((s.Types.length:Int)<=t:Bool)) then some 4 else some 0
theorem Xh:aZ QV GP:= .bk (.k yY .n)
def ub:aT×Int×I->Option Int
 |(s,t,v)=>
 GP ((⟨s.Types⟩:aT),t)>>=λr=>if !(r=0:Bool) then some r else tG ((⟨s.Types⟩:aT),t,I.eta v)>>=λa=>if !a then some 1 else some 0
theorem Xi:aZ QK ub:= .bk (.k Xh (.k Ka .n))
def tu:Int×Int×ar->Option (Int×Int×ar)
 |(b,a,c)=>
 if (128<=b:Bool) then if aH a 10 then if (a.toNat<c.length:Bool) then tu (lG .u64 b 7,aN .i64 a 1,c.set a.toNat (r5 .u8 (bU .u8 b) 128))else none else none else some (b,a,c)
  partial_fixpoint
theorem Yl:cK 228 0 [0] O' tu:= .rx tu.partial_correctness
def pG(n:Int):Option ak:=
 tu (n,0,[0,0,0,0,0,0,0,0,0,0])>>=λo=>if aH o.2.1 10 then if (o.2.1.toNat<o.2.2.length:Bool) then some (o.2.2.set o.2.1.toNat (bU .u8 o.1))>>=λa=>some (aN .i64 o.2.1 1)>>=λt21=>if dY 0 t21 10 then if w3 (0:Int).toNat t21.toNat a.length then some (strOf ((a.drop (0:Int).toNat).take t21.toNat))else none else none else none else none
theorem y7:aZ Rl pG:= .bk .n (.k Yl .n)
def q7(p:ak):Option ak:=
 pG (bU .u64 (p.length:Int))>>=λr=>if (r.length+p.length<=eG:Bool) then some (r++p)else none
theorem TP:aZ QZ q7:= .bk (.k y7 .n)
def ta:ak×ak->Option (Int×ak)
 |(s,b)=>
 some b>>=λr=>if((r.length=b.length:Bool)&&true) then if room 1 (r.length+s.length) then some ((s.length:Int),Bo r s)else none else none
theorem Tj:aZ QY ta:= .bk (.k qV .n)
def wk:Int×Bool×ak->Option ak
 |(id,d,p)=>
 some (gB .u64 2 (bU .u64 id))>>=λt10=>if d then pG (aN .u64 t10 1)>>=λr=>q7 p>>=λa=>if (r.length+a.length<=eG:Bool) then some (r++a)else none else pG t10>>=λb=>q7 p>>=λc=>if (b.length+c.length<=eG:Bool) then some (b++c)else none
theorem GQ:aZ Rj wk:= .bk (.k y7 (.k TP .n))
def CL:aS×I->Option Bool
 |(m,v)=>
 (if m.bV then pD (I.eta m.bB,I.eta v)else some false)>>=λr=>some (bif m.bV then r else false)
theorem Xj:aZ Ri CL:= .bk (.k JP .n)
def rn:List bX×Int×Int×List ai×Int×List gz->Option (List ai×Int×List gz)
 |(t57,e,t59,c,d,a)=>
 if (t59<e:Bool) then if aH t59 t57.length then some (t57.getD t59.toNat bW)>>=λb=>wk (b.ad,false,b.Data)>>=λf=>some [(⟨b.ad,f⟩:gz)]>>=λt72=>if room 24 (a++t72).length then rn (t57,e,aN .i64 t59 1,c,d,a++t72)else none else none else some (c,d,a)
  partial_fixpoint
theorem Vg:cK 189 1 [1] Pb rn:= .rx rn.partial_correctness (.k GQ .n)
def rp:Int×Int×List ai×Int×List gz×ak->Option (List ai×Int×ak)
 |(e,t79,b,c,a,d)=>
 if (t79<e:Bool) then if aH t79 a.length then if (t79.toNat<a.length:Bool) then ta ((a.getD t79.toNat wj).text,d)>>=λf=>rp (e,aN .i64 t79 1,b,c,a,f.2)else none else none else some (b,c,d)
  partial_fixpoint
theorem Vh:cK 189 1 [2] Pc rp:= .rx rp.partial_correctness (.k Tj .n)
def yg(b:ak):Option ak:=
 if hN (b.length:Int) (b.length:Int) then some b else none
theorem Tl:aZ Q0 yg:= .bk
def tv:Int×Int×ar->Option (Int×ar)
 |(b,c,a)=>
 if (0<b:Bool) then some (dq .i64 c 1)>>=λt10=>if aH t10 8 then if (t10.toNat<a.length:Bool) then tv (lG .u64 b 8,t10,a.set t10.toNat (bU .u8 b))else none else none else some (c,a)
  partial_fixpoint
theorem Ym:cK 187 0 [0] Pa tv:= .rx tv.partial_correctness
def zU(n:Int):Option ak:=
 tv (n,8,[0,0,0,0,0,0,0,0])>>=λo=>if dY o.1 8 8 then if w3 o.1.toNat ((8:Int).toNat-o.1.toNat) o.2.length then some (strOf ((o.2.drop o.1.toNat).take ((8:Int).toNat-o.1.toNat)))else none else none
theorem Zi:aZ QW zU:= .bk .n (.k Ym .n)
mutual
def j3:Int×I×Int×List ai×Int->Option (ak×List ai×Int)
 |(t,v,e,b,x)=>
 some (iq x e)>>=λt19=>if aH t b.length then some (b.getD t.toNat aJ)>>=λa=>if (a.Kind=1:Bool) then if v.bN then some ([1],b,t19)else some ([],b,t19)else if (a.Kind=2:Bool) then vA v.bd>>=λr=>zU r>>=λq=>some (q,b,t19)else if (a.Kind=3:Bool) then some (v.bl,b,t19)else if (a.Kind=4:Bool) then zU (bU .u64 v.ad)>>=λP=>some (P,b,t19)else if (a.Kind=5:Bool) then Co (a,I.eta v,e,b,t19)>>=λw=>some (w.1,w.2.1,w.2.2)else if (a.Kind=6:Bool) then yn (a,I.eta v,e,b,t19)>>=λA=>some (A.1,A.2.1,A.2.2)else if (a.Kind=9:Bool) then if ((v.aj.length:Int)=0:Bool) then some ([],b,t19)else if aH 0 v.aj.length then j3 (a.aF,I.eta (v.aj.getD (0:Int).toNat av),aN .i64 e 1,b,t19)>>=λF=>if ([1].length+F.1.length<=eG:Bool) then some ([1]++F.1,F.2.1,F.2.2)else none else none else lS (e,v.aj,(v.aj.length:Int),0,b,t19,I.eta v,a,[])>>=λo=>yg o.2.2>>=λX=>some (X,o.1,o.2.1)else none
  partial_fixpoint
def Co:ai×I×Int×List ai×Int->Option (ak×List ai×Int)
 |(a,v,e,b,x)=>
 rq (e,a.ah,(a.ah.length:Int),0,b,x,I.eta v,[])>>=λo=>rn (o.2.2.1.Rest,(o.2.2.1.Rest.length:Int),0,o.1,o.2.1,o.2.2.2)>>=λE=>Gx E.2.2>>=λr=>if((r.length=E.2.2.length:Bool)&&true) then rp ((r.length:Int),0,E.1,E.2.1,r,[])>>=λN=>yg N.2.2>>=λq=>some (q,N.1,N.2.1)else none
  partial_fixpoint
def yn:ai×I×Int×List ai×Int->Option (ak×List ai×Int)
 |(a,v,e,b,x)=>
 pG (bU .u64 v.ad)>>=λr=>hh (a,v.ad)>>=λq=>if !q.2 then if aH 0 v.Rest.length then some (v.Rest.getD (0:Int).toNat bW)>>=λc=>if (r.length+c.Data.length<=eG:Bool) then some (r++c.Data,b,x)else none else none else if aH q.1 a.ah.length then if aH 0 v.aj.length then j3 ((a.ah.getD q.1.toNat aB).aw,I.eta (v.aj.getD (0:Int).toNat av),aN .i64 e 1,b,x)>>=λG=>if (r.length+G.1.length<=eG:Bool) then some (r++G.1,G.2.1,G.2.2)else none else none else none
  partial_fixpoint
def lS:Int×List I×Int×Int×List ai×Int×I×ai×ak->Option (List ai×Int×ak)
 |(f,t84,U,t86,K,L,D,y,M)=>
 if (t86<U:Bool) then if aH t86 t84.length then some (t84.getD t86.toNat av)>>=λW=>if (y.Kind=8:Bool) then if aH t86 D.ay.length then j3 (y.Key,I.eta (D.ay.getD t86.toNat av),aN .i64 f 1,K,L)>>=λO=>q7 O.1>>=λY=>ta (Y,M)>>=λZ=>j3 (y.aF,I.eta W,aN .i64 f 1,O.2.1,O.2.2)>>=λQ=>q7 Q.1>>=λaf=>ta (af,Z.2)>>=λag=>lS (f,t84,U,aN .i64 t86 1,Q.2.1,Q.2.2,I.eta D,y,ag.2)else none else j3 (y.aF,I.eta W,aN .i64 f 1,K,L)>>=λR=>q7 R.1>>=λam=>ta (am,M)>>=λan=>lS (f,t84,U,aN .i64 t86 1,R.2.1,R.2.2,I.eta D,y,an.2)else none else some (K,L,M)
  partial_fixpoint
def rq:Int×List aS×Int×Int×List ai×Int×I×List gz->Option (List ai×Int×I×List gz)
 |(f,t18,S,t20,H,J,p,B)=>
 if (t20<S:Bool) then if aH t20 t18.length then some (t18.getD t20.toNat aB)>>=λc=>if aH t20 p.aj.length then CL ((⟨c.ad,c.Name,c.aw,c.cg,c.bV,I.eta c.bB⟩:aS),I.eta (p.aj.getD t20.toNat av))>>=λP=>if !P then if aH t20 p.aj.length then j3 (c.aw,I.eta (p.aj.getD t20.toNat av),aN .i64 f 1,H,J)>>=λw=>wk (c.ad,c.cg,w.1)>>=λA=>some [(⟨c.ad,A⟩:gz)]>>=λt53=>if room 24 (B++t53).length then rq (f,t18,S,aN .i64 t20 1,w.2.1,w.2.2,I.eta p,B++t53)else none else none else rq (f,t18,S,aN .i64 t20 1,H,J,I.eta p,B)else none else none else some (H,J,I.eta p,B)
  partial_fixpoint
end
theorem Vi:ec qB j3/\eD 145 1 [0] Am lS/\ec BD yn/\ec BC Co/\eD 189 1 [0] Al rq:=j3.mutual_partial_correctness (d' qB) (eC 145 1 [0] Am) (d' BD) (d' BC) (eC 189 1 [0] Al)
 (λ_ _ _ _ h0 h1 b c _ _ h=>eh h (.k Ty (.k Zi (.k (cc BC c) (.k (cc BD b) (.k (cc qB h0) (.k Tl .n)))))) (.k (eO Am h1) .n))
 (λ_ _ h0 h1 _ _ h=>eN Am h1 h (.k (cc qB h0) (.k TP (.k Tj .n))))
 (λ_ h0 _ _ h=>eh h (.k y7 (.k nK (.k (cc qB h0) .n))))
 (λ_ a _ _ h=>eh h (.k GO (.k Tl .n)) (.k (eO Al a) (.k Vg (.k Vh .n))))
 (λ_ _ h0 a _ _ h=>eN Al a h (.k Xj (.k (cc qB h0) (.k GQ .n))))
theorem UY:aZ qB j3:=cc _ Vi.1
end
end Go.Proofs.YtdjagncoefjfeaaGreat
