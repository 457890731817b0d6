/- The functions of the program as functions of Lean, that its code does what they say, and what they answer; part A. -/
import Derived.Test.YtdjagncoefjfeaaGreatProg
import Derived.KernelRfl
import Derived.Shelf.SlGeneric
import Derived.Shelf.SlLaysF0
import Derived.Shelf.SlSortCmp.WholeK
import Derived.Lib.Small
import Derived.Test.YtdjagncoefjfeaaGreatCrLD

namespace Go.Proofs.YtdjagncoefjfeaaGreat
set_option linter.all false
section
open Go Go.Proofs.YtdjagncoefjfeaaGreat.Shv
open Tryz
set_option maxRecDepth 100000
structure lJ where
 ad:Int
 av:Int
 hd:Int
structure dx where
 Kind:Int
 A:Int
 B:Int
 C:Int
 c1:List lJ
structure et where
 ej:List dx
structure k9 where
 S:et
 T:Int
 C:aq
structure kK where
 Kind:Int
 Node:Int
 A:Int
 B:Int
structure kO where
 D:k9
 L:List kK
structure x1 where
 C:kO
 Oz:Bool
structure c4 where
 ad:Int
 Name:aj
structure bX where
 ad:Int
 Data:aj
structure I where
 Kind:Int
 bL:Bool
 bf:Int
 bn:aj
 ad:Int
 aw:List I
 ai:List I
 Rest:List bX
structure aR where
 ad:Int
 Name:aj
 av:Int
 cf:Bool
 bZ:Bool
 bu:I
structure ah where
 Kind:Int
 Name:aj
 bC:Int
 bG:Int
 Max:Int
 bj:List c4
 ag:List aR
 Key:Int
 aG:Int
 Open:Bool
structure aS where
 Types:List ah
structure dO where
 cX:aS
 av:Int
structure cO where
 ad:Int
 cf:Bool
 Data:aj
structure iY where
 Path:aq
 Reason:Int
structure iL where
 t:Int
 number:Int
structure gC where
 id:Int
 text:aj
structure eW where
 v:I
 u:I
 message:aj
structure cU where
 Value:I
 dS:iY
 cn:Bool
structure dJ where
 Value:I
 Path:aq
 cn:Bool
structure kL where
 V:I
 U:I
 Message:aj
structure Ac where
 Jf:List kK
 gK:List kK
abbrev GS:Nat:=1
abbrev VL:Nat:=2
abbrev ve:Nat:=4
abbrev B3:Nat:=5
abbrev SQ:Nat:=6
def je:lJ:=⟨0,0,0⟩
def bt:dx:=⟨0,0,0,0,[]⟩
def S2:et:=⟨[]⟩
def S3:k9:=⟨S2,0,[]⟩
def n3:kK:=⟨0,0,0,0⟩
def SF:kO:=⟨S3,[]⟩
def Ws:x1:=⟨SF,false⟩
def dN:c4:=⟨0,[]⟩
def b5:bX:=⟨0,[]⟩
def au:I:=⟨0,false,0,[],0,[],[],[]⟩
def ay:aR:=⟨0,[],0,false,false,au⟩
def aN:ah:=⟨0,[],0,0,0,[],[],0,0,false⟩
def MT:aS:=⟨[]⟩
def I4:dO:=⟨MT,0⟩
def gu:cO:=⟨0,false,[]⟩
def LP:iY:=⟨[],0⟩
def Hs:iL:=⟨0,0⟩
def vv:gC:=⟨0,[]⟩
def WI:eW:=⟨au,au,[]⟩
def VM:cU:=⟨au,LP,false⟩
def VN:dJ:=⟨au,[],false⟩
def Vk:kL:=⟨au,au,[]⟩
def aan:Ac:=⟨[],[]⟩
def dF:Nat->Type
 |0=>x1
 |1=>kO
 |2=>k9
 |3=>et
 |4=>dx
 |5=>lJ
 |6=>kK
 |7=>ah
 |8=>c4
 |9=>aR
 |10=>I
 |11=>bX
 |12=>aS
 |13=>dO
 |14=>cO
 |15=>iY
 |16=>iL
 |17=>gC
 |18=>eW
 |19=>cU
 |20=>dJ
 |21=>kL
 |22=>Ac
 |_=>Bool
def dZ:Nat->List aK
 |0=>[.slice (.nm 4),.int .u8,.slice (.int .u8),.slice (.nm 6),.bool]
 |1=>[.slice (.nm 4),.int .u8,.slice (.int .u8),.slice (.nm 6)]
 |2=>[.slice (.nm 4),.int .u8,.slice (.int .u8)]
 |3=>[.slice (.nm 4)]
 |4=>[.int .u8,.int .u8,.int .u8,.int .u8,.slice (.nm 5)]
 |5=>[.int .u8,.int .u8,.int .u8]
 |6=>[.int .u8,.int .u8,.int .u8,.int .u8]
 |7=>[.int .i64,.str,.int .i64,.int .i64,.int .i64,.slice (.nm 8),.slice (.nm 9),.int .i64,.int .i64,.bool]
 |8=>[.int .i64,.str]
 |9=>[.int .i64,.str,.int .i64,.bool,.bool,.int .i64,.bool,.int .i64,.str,.int .i64,.slice (.nm 10),.slice (.nm 10),.slice (.nm 11)]
 |10=>[.int .i64,.bool,.int .i64,.str,.int .i64,.slice (.nm 10),.slice (.nm 10),.slice (.nm 11)]
 |11=>[.int .i64,.str]
 |12=>[.slice (.nm 7)]
 |13=>[.slice (.nm 7),.int .i64]
 |14=>[.int .i64,.bool,.str]
 |15=>[.slice (.int .i64),.int .i64]
 |16=>[.int .i64,.int .i64]
 |17=>[.int .i64,.str]
 |18=>[.int .i64,.bool,.int .i64,.str,.int .i64,.slice (.nm 10),.slice (.nm 10),.slice (.nm 11),.int .i64,.bool,.int .i64,.str,.int .i64,.slice (.nm 10),.slice (.nm 10),.slice (.nm 11),.str]
 |19=>[.int .i64,.bool,.int .i64,.str,.int .i64,.slice (.nm 10),.slice (.nm 10),.slice (.nm 11),.slice (.int .i64),.int .i64,.bool]
 |20=>[.int .i64,.bool,.int .i64,.str,.int .i64,.slice (.nm 10),.slice (.nm 10),.slice (.nm 11),.slice (.int .i64),.bool]
 |21=>[.int .i64,.bool,.int .i64,.str,.int .i64,.slice (.nm 10),.slice (.nm 10),.slice (.nm 11),.int .i64,.bool,.int .i64,.str,.int .i64,.slice (.nm 10),.slice (.nm 10),.slice (.nm 11),.str]
 |22=>[.slice (.nm 6),.slice (.nm 6)]
 |_=>[.bool]
def ahj:(n:Nat)->dF n->List (Cell dF)
 |0,(x:x1)=>[⟨.slice (.nm 4),x.C.D.S.ej⟩,⟨.int .u8,x.C.D.T⟩,⟨.slice (.int .u8),x.C.D.C⟩,⟨.slice (.nm 6),x.C.L⟩,⟨.bool,x.Oz⟩]
 |1,(x:kO)=>[⟨.slice (.nm 4),x.D.S.ej⟩,⟨.int .u8,x.D.T⟩,⟨.slice (.int .u8),x.D.C⟩,⟨.slice (.nm 6),x.L⟩]
 |2,(x:k9)=>[⟨.slice (.nm 4),x.S.ej⟩,⟨.int .u8,x.T⟩,⟨.slice (.int .u8),x.C⟩]
 |3,(x:et)=>[⟨.slice (.nm 4),x.ej⟩]
 |4,(x:dx)=>[⟨.int .u8,x.Kind⟩,⟨.int .u8,x.A⟩,⟨.int .u8,x.B⟩,⟨.int .u8,x.C⟩,⟨.slice (.nm 5),x.c1⟩]
 |5,(x:lJ)=>[⟨.int .u8,x.ad⟩,⟨.int .u8,x.av⟩,⟨.int .u8,x.hd⟩]
 |6,(x:kK)=>[⟨.int .u8,x.Kind⟩,⟨.int .u8,x.Node⟩,⟨.int .u8,x.A⟩,⟨.int .u8,x.B⟩]
 |7,(x:ah)=>[⟨.int .i64,x.Kind⟩,⟨.str,x.Name⟩,⟨.int .i64,x.bC⟩,⟨.int .i64,x.bG⟩,⟨.int .i64,x.Max⟩,⟨.slice (.nm 8),x.bj⟩,⟨.slice (.nm 9),x.ag⟩,⟨.int .i64,x.Key⟩,⟨.int .i64,x.aG⟩,⟨.bool,x.Open⟩]
 |8,(x:c4)=>[⟨.int .i64,x.ad⟩,⟨.str,x.Name⟩]
 |9,(x:aR)=>[⟨.int .i64,x.ad⟩,⟨.str,x.Name⟩,⟨.int .i64,x.av⟩,⟨.bool,x.cf⟩,⟨.bool,x.bZ⟩,⟨.int .i64,x.bu.Kind⟩,⟨.bool,x.bu.bL⟩,⟨.int .i64,x.bu.bf⟩,⟨.str,x.bu.bn⟩,⟨.int .i64,x.bu.ad⟩,⟨.slice (.nm 10),x.bu.aw⟩,⟨.slice (.nm 10),x.bu.ai⟩,⟨.slice (.nm 11),x.bu.Rest⟩]
 |10,(x:I)=>[⟨.int .i64,x.Kind⟩,⟨.bool,x.bL⟩,⟨.int .i64,x.bf⟩,⟨.str,x.bn⟩,⟨.int .i64,x.ad⟩,⟨.slice (.nm 10),x.aw⟩,⟨.slice (.nm 10),x.ai⟩,⟨.slice (.nm 11),x.Rest⟩]
 |11,(x:bX)=>[⟨.int .i64,x.ad⟩,⟨.str,x.Data⟩]
 |12,(x:aS)=>[⟨.slice (.nm 7),x.Types⟩]
 |13,(x:dO)=>[⟨.slice (.nm 7),x.cX.Types⟩,⟨.int .i64,x.av⟩]
 |14,(x:cO)=>[⟨.int .i64,x.ad⟩,⟨.bool,x.cf⟩,⟨.str,x.Data⟩]
 |15,(x:iY)=>[⟨.slice (.int .i64),x.Path⟩,⟨.int .i64,x.Reason⟩]
 |16,(x:iL)=>[⟨.int .i64,x.t⟩,⟨.int .i64,x.number⟩]
 |17,(x:gC)=>[⟨.int .i64,x.id⟩,⟨.str,x.text⟩]
 |18,(x:eW)=>[⟨.int .i64,x.v.Kind⟩,⟨.bool,x.v.bL⟩,⟨.int .i64,x.v.bf⟩,⟨.str,x.v.bn⟩,⟨.int .i64,x.v.ad⟩,⟨.slice (.nm 10),x.v.aw⟩,⟨.slice (.nm 10),x.v.ai⟩,⟨.slice (.nm 11),x.v.Rest⟩,⟨.int .i64,x.u.Kind⟩,⟨.bool,x.u.bL⟩,⟨.int .i64,x.u.bf⟩,⟨.str,x.u.bn⟩,⟨.int .i64,x.u.ad⟩,⟨.slice (.nm 10),x.u.aw⟩,⟨.slice (.nm 10),x.u.ai⟩,⟨.slice (.nm 11),x.u.Rest⟩,⟨.str,x.message⟩]
 |19,(x:cU)=>[⟨.int .i64,x.Value.Kind⟩,⟨.bool,x.Value.bL⟩,⟨.int .i64,x.Value.bf⟩,⟨.str,x.Value.bn⟩,⟨.int .i64,x.Value.ad⟩,⟨.slice (.nm 10),x.Value.aw⟩,⟨.slice (.nm 10),x.Value.ai⟩,⟨.slice (.nm 11),x.Value.Rest⟩,⟨.slice (.int .i64),x.dS.Path⟩,⟨.int .i64,x.dS.Reason⟩,⟨.bool,x.cn⟩]
 |20,(x:dJ)=>[⟨.int .i64,x.Value.Kind⟩,⟨.bool,x.Value.bL⟩,⟨.int .i64,x.Value.bf⟩,⟨.str,x.Value.bn⟩,⟨.int .i64,x.Value.ad⟩,⟨.slice (.nm 10),x.Value.aw⟩,⟨.slice (.nm 10),x.Value.ai⟩,⟨.slice (.nm 11),x.Value.Rest⟩,⟨.slice (.int .i64),x.Path⟩,⟨.bool,x.cn⟩]
 |21,(x:kL)=>[⟨.int .i64,x.V.Kind⟩,⟨.bool,x.V.bL⟩,⟨.int .i64,x.V.bf⟩,⟨.str,x.V.bn⟩,⟨.int .i64,x.V.ad⟩,⟨.slice (.nm 10),x.V.aw⟩,⟨.slice (.nm 10),x.V.ai⟩,⟨.slice (.nm 11),x.V.Rest⟩,⟨.int .i64,x.U.Kind⟩,⟨.bool,x.U.bL⟩,⟨.int .i64,x.U.bf⟩,⟨.str,x.U.bn⟩,⟨.int .i64,x.U.ad⟩,⟨.slice (.nm 10),x.U.aw⟩,⟨.slice (.nm 10),x.U.ai⟩,⟨.slice (.nm 11),x.U.Rest⟩,⟨.str,x.Message⟩]
 |22,(x:Ac)=>[⟨.slice (.nm 6),x.Jf⟩,⟨.slice (.nm 6),x.gK⟩]
 |_+23,(x:Bool)=>[⟨.bool,x⟩]
def cT:(n:Nat)->List (Cell dF)->Option (dF n)
 |0,l=>match aL.dec dF (dZ 0) l with
  |some h=>some (⟨(⟨(⟨(⟨h.1⟩:et),h.2.1,h.2.2.1⟩:k9),h.2.2.2.1⟩:kO),h.2.2.2.2⟩:x1)
  |none=>none
 |1,l=>match aL.dec dF (dZ 1) l with
  |some h=>some (⟨(⟨(⟨h.1⟩:et),h.2.1,h.2.2.1⟩:k9),h.2.2.2⟩:kO)
  |none=>none
 |2,l=>match aL.dec dF (dZ 2) l with
  |some h=>some (⟨(⟨h.1⟩:et),h.2.1,h.2.2⟩:k9)
  |none=>none
 |3,l=>match aL.dec dF (dZ 3) l with
  |some h=>some (⟨h⟩:et)
  |none=>none
 |4,l=>match aL.dec dF (dZ 4) l with
  |some h=>some (⟨h.1,h.2.1,h.2.2.1,h.2.2.2.1,h.2.2.2.2⟩:dx)
  |none=>none
 |5,l=>match aL.dec dF (dZ 5) l with
  |some h=>some (⟨h.1,h.2.1,h.2.2⟩:lJ)
  |none=>none
 |6,l=>match aL.dec dF (dZ 6) l with
  |some h=>some (⟨h.1,h.2.1,h.2.2.1,h.2.2.2⟩:kK)
  |none=>none
 |7,l=>match aL.dec dF (dZ 7) l with
  |some h=>some (⟨h.1,h.2.1,h.2.2.1,h.2.2.2.1,h.2.2.2.2.1,h.2.2.2.2.2.1,h.2.2.2.2.2.2.1,h.2.2.2.2.2.2.2.1,h.2.2.2.2.2.2.2.2.1,h.2.2.2.2.2.2.2.2.2⟩:ah)
  |none=>none
 |8,l=>match aL.dec dF (dZ 8) l with
  |some h=>some (⟨h.1,h.2⟩:c4)
  |none=>none
 |9,l=>match aL.dec dF (dZ 9) l with
  |some h=>some (⟨h.1,h.2.1,h.2.2.1,h.2.2.2.1,h.2.2.2.2.1,(⟨h.2.2.2.2.2.1,h.2.2.2.2.2.2.1,h.2.2.2.2.2.2.2.1,h.2.2.2.2.2.2.2.2.1,h.2.2.2.2.2.2.2.2.2.1,h.2.2.2.2.2.2.2.2.2.2.1,h.2.2.2.2.2.2.2.2.2.2.2.1,h.2.2.2.2.2.2.2.2.2.2.2.2⟩:I)⟩:aR)
  |none=>none
 |10,l=>match aL.dec dF (dZ 10) l with
  |some h=>some (⟨h.1,h.2.1,h.2.2.1,h.2.2.2.1,h.2.2.2.2.1,h.2.2.2.2.2.1,h.2.2.2.2.2.2.1,h.2.2.2.2.2.2.2⟩:I)
  |none=>none
 |11,l=>match aL.dec dF (dZ 11) l with
  |some h=>some (⟨h.1,h.2⟩:bX)
  |none=>none
 |12,l=>match aL.dec dF (dZ 12) l with
  |some h=>some (⟨h⟩:aS)
  |none=>none
 |13,l=>match aL.dec dF (dZ 13) l with
  |some h=>some (⟨(⟨h.1⟩:aS),h.2⟩:dO)
  |none=>none
 |14,l=>match aL.dec dF (dZ 14) l with
  |some h=>some (⟨h.1,h.2.1,h.2.2⟩:cO)
  |none=>none
 |15,l=>match aL.dec dF (dZ 15) l with
  |some h=>some (⟨h.1,h.2⟩:iY)
  |none=>none
 |16,l=>match aL.dec dF (dZ 16) l with
  |some h=>some (⟨h.1,h.2⟩:iL)
  |none=>none
 |17,l=>match aL.dec dF (dZ 17) l with
  |some h=>some (⟨h.1,h.2⟩:gC)
  |none=>none
 |18,l=>match aL.dec dF (dZ 18) l with
  |some h=>some (⟨(⟨h.1,h.2.1,h.2.2.1,h.2.2.2.1,h.2.2.2.2.1,h.2.2.2.2.2.1,h.2.2.2.2.2.2.1,h.2.2.2.2.2.2.2.1⟩:I),(⟨h.2.2.2.2.2.2.2.2.1,h.2.2.2.2.2.2.2.2.2.1,h.2.2.2.2.2.2.2.2.2.2.1,h.2.2.2.2.2.2.2.2.2.2.2.1,h.2.2.2.2.2.2.2.2.2.2.2.2.1,h.2.2.2.2.2.2.2.2.2.2.2.2.2.1,h.2.2.2.2.2.2.2.2.2.2.2.2.2.2.1,h.2.2.2.2.2.2.2.2.2.2.2.2.2.2.2.1⟩:I),h.2.2.2.2.2.2.2.2.2.2.2.2.2.2.2.2⟩:eW)
  |none=>none
 |19,l=>match aL.dec dF (dZ 19) l with
  |some h=>some (⟨(⟨h.1,h.2.1,h.2.2.1,h.2.2.2.1,h.2.2.2.2.1,h.2.2.2.2.2.1,h.2.2.2.2.2.2.1,h.2.2.2.2.2.2.2.1⟩:I),(⟨h.2.2.2.2.2.2.2.2.1,h.2.2.2.2.2.2.2.2.2.1⟩:iY),h.2.2.2.2.2.2.2.2.2.2⟩:cU)
  |none=>none
 |20,l=>match aL.dec dF (dZ 20) l with
  |some h=>some (⟨(⟨h.1,h.2.1,h.2.2.1,h.2.2.2.1,h.2.2.2.2.1,h.2.2.2.2.2.1,h.2.2.2.2.2.2.1,h.2.2.2.2.2.2.2.1⟩:I),h.2.2.2.2.2.2.2.2.1,h.2.2.2.2.2.2.2.2.2⟩:dJ)
  |none=>none
 |21,l=>match aL.dec dF (dZ 21) l with
  |some h=>some (⟨(⟨h.1,h.2.1,h.2.2.1,h.2.2.2.1,h.2.2.2.2.1,h.2.2.2.2.2.1,h.2.2.2.2.2.2.1,h.2.2.2.2.2.2.2.1⟩:I),(⟨h.2.2.2.2.2.2.2.2.1,h.2.2.2.2.2.2.2.2.2.1,h.2.2.2.2.2.2.2.2.2.2.1,h.2.2.2.2.2.2.2.2.2.2.2.1,h.2.2.2.2.2.2.2.2.2.2.2.2.1,h.2.2.2.2.2.2.2.2.2.2.2.2.2.1,h.2.2.2.2.2.2.2.2.2.2.2.2.2.2.1,h.2.2.2.2.2.2.2.2.2.2.2.2.2.2.2.1⟩:I),h.2.2.2.2.2.2.2.2.2.2.2.2.2.2.2.2⟩:kL)
  |none=>none
 |22,l=>match aL.dec dF (dZ 22) l with
  |some h=>some (⟨h.1,h.2⟩:Ac)
  |none=>none
 |_+23,l=>match aL.dec dF [.bool] l with
  |some (h:Bool)=>some h
  |none=>none
def RF(x:lJ):List T:=[.int .u8 x.ad,.int .u8 x.av,.int .u8 x.hd]
def xJ(x:dx):List T:=[.int .u8 x.Kind,.int .u8 x.A,.int .u8 x.B,.int .u8 x.C,.slice (x.c1.map RF)]
def af0(x:et):List T:=[.slice (x.ej.map xJ)]
def af1(x:k9):List T:=[.slice (x.S.ej.map xJ),.int .u8 x.T,.slice (x.C.map (λy=>[.int .u8 y]))]
def xI(x:kK):List T:=[.int .u8 x.Kind,.int .u8 x.Node,.int .u8 x.A,.int .u8 x.B]
def af3(x:kO):List T:=[.slice (x.D.S.ej.map xJ),.int .u8 x.D.T,.slice (x.D.C.map (λy=>[.int .u8 y])),.slice (x.L.map xI)]
def af5(x:x1):List T:=[.slice (x.C.D.S.ej.map xJ),.int .u8 x.C.D.T,.slice (x.C.D.C.map (λy=>[.int .u8 y])),.slice (x.C.L.map xI),.bool x.Oz]
def RE(x:c4):List T:=[.int .i64 x.ad,.str x.Name]
def nr(x:bX):List T:=[.int .i64 x.ad,.str x.Data]
def I.eta(x:I):I:=⟨x.Kind,x.bL,x.bf,x.bn,x.ad,x.aw,x.ai,x.Rest⟩
theorem I.aU(x:I):x.eta=x:=by cases x;rfl
mutual
def ic:I->List T
 |⟨a0,a1,a2,a3,a4,a5,a,c⟩=>[.int .i64 a0,.bool a1,.int .i64 a2,.str a3,.int .i64 a4,.slice (xH a5),.slice (xH a),.slice (c.map nr)]
def xH:List I->List (List T)
 |[]=>[]
 |v::r=>ic v::xH r
end
theorem Tx:∀l,xH l=l.map ic
 |[]=>rfl
 |v::r=>by simp only[xH,List.map];rw[Tx r]
theorem ZQ(x:I):ic x=[.int .i64 x.Kind,.bool x.bL,.int .i64 x.bf,.str x.bn,.int .i64 x.ad,.slice (x.aw.map ic),.slice (x.ai.map ic),.slice (x.Rest.map nr)]:=by cases x;simp only[ic,Tx]
def RD(x:aR):List T:=[.int .i64 x.ad,.str x.Name,.int .i64 x.av,.bool x.cf,.bool x.bZ,.int .i64 x.bu.Kind,.bool x.bu.bL,.int .i64 x.bu.bf,.str x.bu.bn,.int .i64 x.bu.ad,.slice (x.bu.aw.map ic),.slice (x.bu.ai.map ic),.slice (x.bu.Rest.map nr)]
def E9(x:ah):List T:=[.int .i64 x.Kind,.str x.Name,.int .i64 x.bC,.int .i64 x.bG,.int .i64 x.Max,.slice (x.bj.map RE),.slice (x.ag.map RD),.int .i64 x.Key,.int .i64 x.aG,.bool x.Open]
def afZ(x:aS):List T:=[.slice (x.Types.map E9)]
def afY(x:dO):List T:=[.slice (x.cX.Types.map E9),.int .i64 x.av]
def afX(x:cO):List T:=[.int .i64 x.ad,.bool x.cf,.str x.Data]
def afW(x:iY):List T:=[.slice (x.Path.map (λy=>[.int .i64 y])),.int .i64 x.Reason]
def afV(x:iL):List T:=[.int .i64 x.t,.int .i64 x.number]
def afU(x:gC):List T:=[.int .i64 x.id,.str x.text]
def afT(x:eW):List T:=[.int .i64 x.v.Kind,.bool x.v.bL,.int .i64 x.v.bf,.str x.v.bn,.int .i64 x.v.ad,.slice (x.v.aw.map ic),.slice (x.v.ai.map ic),.slice (x.v.Rest.map nr),.int .i64 x.u.Kind,.bool x.u.bL,.int .i64 x.u.bf,.str x.u.bn,.int .i64 x.u.ad,.slice (x.u.aw.map ic),.slice (x.u.ai.map ic),.slice (x.u.Rest.map nr),.str x.message]
def af2(x:cU):List T:=[.int .i64 x.Value.Kind,.bool x.Value.bL,.int .i64 x.Value.bf,.str x.Value.bn,.int .i64 x.Value.ad,.slice (x.Value.aw.map ic),.slice (x.Value.ai.map ic),.slice (x.Value.Rest.map nr),.slice (x.dS.Path.map (λy=>[.int .i64 y])),.int .i64 x.dS.Reason,.bool x.cn]
def af4(x:dJ):List T:=[.int .i64 x.Value.Kind,.bool x.Value.bL,.int .i64 x.Value.bf,.str x.Value.bn,.int .i64 x.Value.ad,.slice (x.Value.aw.map ic),.slice (x.Value.ai.map ic),.slice (x.Value.Rest.map nr),.slice (x.Path.map (λy=>[.int .i64 y])),.bool x.cn]
def af6(x:kL):List T:=[.int .i64 x.V.Kind,.bool x.V.bL,.int .i64 x.V.bf,.str x.V.bn,.int .i64 x.V.ad,.slice (x.V.aw.map ic),.slice (x.V.ai.map ic),.slice (x.V.Rest.map nr),.int .i64 x.U.Kind,.bool x.U.bL,.int .i64 x.U.bf,.str x.U.bn,.int .i64 x.U.ad,.slice (x.U.aw.map ic),.slice (x.U.ai.map ic),.slice (x.U.Rest.map nr),.str x.Message]
def af7(x:Ac):List T:=[.slice (x.Jf.map xI),.slice (x.gK.map xI)]
def ahi:(n:Nat)->dF n->List T
 |0,x=>af5 x
 |1,x=>af3 x
 |2,x=>af1 x
 |3,x=>af0 x
 |4,x=>xJ x
 |5,x=>RF x
 |6,x=>xI x
 |7,x=>E9 x
 |8,x=>RE x
 |9,x=>RD x
 |10,x=>ic x
 |11,x=>nr x
 |12,x=>afZ x
 |13,x=>afY x
 |14,x=>afX x
 |15,x=>afW x
 |16,x=>afV x
 |17,x=>afU x
 |18,x=>afT x
 |19,x=>af2 x
 |20,x=>af4 x
 |21,x=>af6 x
 |22,x=>af7 x
 |_+23,(x:Bool)=>[.bool x]
def cY:cM where
 D:=dF
 ke:=λn=>match n with
  |0=>Ws
  |1=>SF
  |2=>S3
  |3=>S2
  |4=>bt
  |5=>je
  |6=>n3
  |7=>aN
  |8=>dN
  |9=>ay
  |10=>au
  |11=>b5
  |12=>MT
  |13=>I4
  |14=>gu
  |15=>LP
  |16=>Hs
  |17=>vv
  |18=>WI
  |19=>VM
  |20=>VN
  |21=>Vk
  |22=>aan
  |_+23=>false
 sw:=ahj
 make:=cT
 dc:=dZ
 enc:=ahi
 RH:=λn x=>match n,x with
  |0,_=>rfl
  |1,_=>rfl
  |2,_=>rfl
  |3,_=>rfl
  |4,_=>rfl
  |5,_=>rfl
  |6,_=>rfl
  |7,_=>rfl
  |8,_=>rfl
  |9,_=>rfl
  |10,x=>ZQ x
  |11,_=>rfl
  |12,_=>rfl
  |13,_=>rfl
  |14,_=>rfl
  |15,_=>rfl
  |16,_=>rfl
  |17,_=>rfl
  |18,_=>rfl
  |19,_=>rfl
  |20,_=>rfl
  |21,_=>rfl
  |22,_=>rfl
  |_+23,_=>rfl
 mk_eq:=λn l x h=>match n,x,h with
  |0,x,h=>by
   simp only[cT]at h;split at h
   . rename_i aa a;cases h;exact aL.fm a
   . cases h
  |1,x,h=>by
   simp only[cT]at h;split at h
   . rename_i aa a;cases h;exact aL.fm a
   . cases h
  |2,x,h=>by
   simp only[cT]at h;split at h
   . rename_i aa a;cases h;exact aL.fm a
   . cases h
  |3,x,h=>by
   simp only[cT]at h;split at h
   . rename_i aa a;cases h;exact aL.fm a
   . cases h
  |4,x,h=>by
   simp only[cT]at h;split at h
   . rename_i aa a;cases h;exact aL.fm a
   . cases h
  |5,x,h=>by
   simp only[cT]at h;split at h
   . rename_i aa a;cases h;exact aL.fm a
   . cases h
  |6,x,h=>by
   simp only[cT]at h;split at h
   . rename_i aa a;cases h;exact aL.fm a
   . cases h
  |7,x,h=>by
   simp only[cT]at h;split at h
   . rename_i aa a;cases h;exact aL.fm a
   . cases h
  |8,x,h=>by
   simp only[cT]at h;split at h
   . rename_i aa a;cases h;exact aL.fm a
   . cases h
  |9,x,h=>by
   simp only[cT]at h;split at h
   . rename_i aa a;cases h;exact aL.fm a
   . cases h
  |10,x,h=>by
   simp only[cT]at h;split at h
   . rename_i aa a;cases h;exact aL.fm a
   . cases h
  |11,x,h=>by
   simp only[cT]at h;split at h
   . rename_i aa a;cases h;exact aL.fm a
   . cases h
  |12,x,h=>by
   simp only[cT]at h;split at h
   . rename_i aa a;cases h;exact aL.fm a
   . cases h
  |13,x,h=>by
   simp only[cT]at h;split at h
   . rename_i aa a;cases h;exact aL.fm a
   . cases h
  |14,x,h=>by
   simp only[cT]at h;split at h
   . rename_i aa a;cases h;exact aL.fm a
   . cases h
  |15,x,h=>by
   simp only[cT]at h;split at h
   . rename_i aa a;cases h;exact aL.fm a
   . cases h
  |16,x,h=>by
   simp only[cT]at h;split at h
   . rename_i aa a;cases h;exact aL.fm a
   . cases h
  |17,x,h=>by
   simp only[cT]at h;split at h
   . rename_i aa a;cases h;exact aL.fm a
   . cases h
  |18,x,h=>by
   simp only[cT]at h;split at h
   . rename_i aa a;cases h;exact aL.fm a
   . cases h
  |19,x,h=>by
   simp only[cT]at h;split at h
   . rename_i aa a;cases h;exact aL.fm a
   . cases h
  |20,x,h=>by
   simp only[cT]at h;split at h
   . rename_i aa a;cases h;exact aL.fm a
   . cases h
  |21,x,h=>by
   simp only[cT]at h;split at h
   . rename_i aa a;cases h;exact aL.fm a
   . cases h
  |22,x,h=>by
   simp only[cT]at h;split at h
   . rename_i aa a;cases h;exact aL.fm a
   . cases h
  |_+23,x,h=>by
   simp only[cT]at h;split at h
   . rename_i aa a;cases h;exact aL.fm a
   . cases h
 Ss:=λn x=>match n,x with
  |0,_=>rfl
  |1,_=>rfl
  |2,_=>rfl
  |3,_=>rfl
  |4,_=>rfl
  |5,_=>rfl
  |6,_=>rfl
  |7,_=>rfl
  |8,_=>rfl
  |9,_=>rfl
  |10,_=>rfl
  |11,_=>rfl
  |12,_=>rfl
  |13,_=>rfl
  |14,_=>rfl
  |15,_=>rfl
  |16,_=>rfl
  |17,_=>rfl
  |18,_=>rfl
  |19,_=>rfl
  |20,_=>rfl
  |21,_=>rfl
  |22,_=>rfl
  |_+23,_=>rfl
 Sr:=λe=>match e with
  |3=>some (.int .i64)
  |5=>some (.int .u8)
  |9=>some .str
  |37=>some (.nm 13)
  |48=>some (.nm 10)
  |85=>some (.nm 9)
  |88=>some (.slice (.int .i64))
  |112=>some (.nm 7)
  |117=>some (.nm 11)
  |140=>some (.nm 5)
  |146=>some (.nm 8)
  |196=>some (.nm 16)
  |236=>some (.nm 14)
  |276=>some (.nm 17)
  |_=>none
 own:=[([false,false,true,true],2,.int .i64),([false,true,true,false],1,.int .i64),([false,false,true],2,.slice (.int .i64))]
 pos:=λn=>match n with
  |0=>by decide
  |1=>by decide
  |2=>by decide
  |3=>by decide
  |4=>by decide
  |5=>by decide
  |6=>by decide
  |7=>by decide
  |8=>by decide
  |9=>by decide
  |10=>by decide
  |11=>by decide
  |12=>by decide
  |13=>by decide
  |14=>by decide
  |15=>by decide
  |16=>by decide
  |17=>by decide
  |18=>by decide
  |19=>by decide
  |20=>by decide
  |21=>by decide
  |22=>by decide
  |_+23=>Nat.zero_lt_one
theorem adZ:cY.Total:=λn l h=>match n,h with
 |0,h=>by
  obtain⟨x,a⟩:=aL.gV (D:=dF) (ts:=dZ 0) h;exact⟨_,by show cT 0 l=_;simp only[cT,a];rfl⟩
 |1,h=>by
  obtain⟨x,a⟩:=aL.gV (D:=dF) (ts:=dZ 1) h;exact⟨_,by show cT 1 l=_;simp only[cT,a];rfl⟩
 |2,h=>by
  obtain⟨x,a⟩:=aL.gV (D:=dF) (ts:=dZ 2) h;exact⟨_,by show cT 2 l=_;simp only[cT,a];rfl⟩
 |3,h=>by
  obtain⟨x,a⟩:=aL.gV (D:=dF) (ts:=dZ 3) h;exact⟨_,by show cT 3 l=_;simp only[cT,a];rfl⟩
 |4,h=>by
  obtain⟨x,a⟩:=aL.gV (D:=dF) (ts:=dZ 4) h;exact⟨_,by show cT 4 l=_;simp only[cT,a];rfl⟩
 |5,h=>by
  obtain⟨x,a⟩:=aL.gV (D:=dF) (ts:=dZ 5) h;exact⟨_,by show cT 5 l=_;simp only[cT,a];rfl⟩
 |6,h=>by
  obtain⟨x,a⟩:=aL.gV (D:=dF) (ts:=dZ 6) h;exact⟨_,by show cT 6 l=_;simp only[cT,a];rfl⟩
 |7,h=>by
  obtain⟨x,a⟩:=aL.gV (D:=dF) (ts:=dZ 7) h;exact⟨_,by show cT 7 l=_;simp only[cT,a];rfl⟩
 |8,h=>by
  obtain⟨x,a⟩:=aL.gV (D:=dF) (ts:=dZ 8) h;exact⟨_,by show cT 8 l=_;simp only[cT,a];rfl⟩
 |9,h=>by
  obtain⟨x,a⟩:=aL.gV (D:=dF) (ts:=dZ 9) h;exact⟨_,by show cT 9 l=_;simp only[cT,a];rfl⟩
 |10,h=>by
  obtain⟨x,a⟩:=aL.gV (D:=dF) (ts:=dZ 10) h;exact⟨_,by show cT 10 l=_;simp only[cT,a];rfl⟩
 |11,h=>by
  obtain⟨x,a⟩:=aL.gV (D:=dF) (ts:=dZ 11) h;exact⟨_,by show cT 11 l=_;simp only[cT,a];rfl⟩
 |12,h=>by
  obtain⟨x,a⟩:=aL.gV (D:=dF) (ts:=dZ 12) h;exact⟨_,by show cT 12 l=_;simp only[cT,a];rfl⟩
 |13,h=>by
  obtain⟨x,a⟩:=aL.gV (D:=dF) (ts:=dZ 13) h;exact⟨_,by show cT 13 l=_;simp only[cT,a];rfl⟩
 |14,h=>by
  obtain⟨x,a⟩:=aL.gV (D:=dF) (ts:=dZ 14) h;exact⟨_,by show cT 14 l=_;simp only[cT,a];rfl⟩
 |15,h=>by
  obtain⟨x,a⟩:=aL.gV (D:=dF) (ts:=dZ 15) h;exact⟨_,by show cT 15 l=_;simp only[cT,a];rfl⟩
 |16,h=>by
  obtain⟨x,a⟩:=aL.gV (D:=dF) (ts:=dZ 16) h;exact⟨_,by show cT 16 l=_;simp only[cT,a];rfl⟩
 |17,h=>by
  obtain⟨x,a⟩:=aL.gV (D:=dF) (ts:=dZ 17) h;exact⟨_,by show cT 17 l=_;simp only[cT,a];rfl⟩
 |18,h=>by
  obtain⟨x,a⟩:=aL.gV (D:=dF) (ts:=dZ 18) h;exact⟨_,by show cT 18 l=_;simp only[cT,a];rfl⟩
 |19,h=>by
  obtain⟨x,a⟩:=aL.gV (D:=dF) (ts:=dZ 19) h;exact⟨_,by show cT 19 l=_;simp only[cT,a];rfl⟩
 |20,h=>by
  obtain⟨x,a⟩:=aL.gV (D:=dF) (ts:=dZ 20) h;exact⟨_,by show cT 20 l=_;simp only[cT,a];rfl⟩
 |21,h=>by
  obtain⟨x,a⟩:=aL.gV (D:=dF) (ts:=dZ 21) h;exact⟨_,by show cT 21 l=_;simp only[cT,a];rfl⟩
 |22,h=>by
  obtain⟨x,a⟩:=aL.gV (D:=dF) (ts:=dZ 22) h;exact⟨_,by show cT 22 l=_;simp only[cT,a];rfl⟩
 |m+23,h=>by
  obtain⟨x,a⟩:=aL.gV (D:=dF) (ts:=[.bool]) h;exact⟨x,by show cT (m+23) l=_;simp only[cT,a];rfl⟩
end
section
open Go Go.Proofs.YtdjagncoefjfeaaGreat.Shv
open Tryz
set_option maxRecDepth 100000
open Go.Proofs Go.Proofs.YtdjagncoefjfeaaGreat Go.Shelf
theorem V6:hO prog 134=true:=by kernel_rfl
def pd:cD cY:=DR cY 134 (.int .i64) 8
theorem UK:h3 prog pd:=YK (sz:=1) (bytes:=8) (z:=[.t (.int .i64 0)]) func134 (by kernel_rfl) (by kernel_rfl) (by kernel_rfl) rfl rfl
theorem nY:hf prog pd:=⟨V6,UK⟩
theorem Vl:hO prog 179=true:=by kernel_rfl
def pf:cD cY:=wj cY 179 (.nm 10) 120
theorem Uz:h3 prog pf:=He (sz:=8) (bytes:=120) (z:=[.t (.int .i64 0),.t (.bool false),.t (.int .i64 0),.t (.str []),.t (.int .i64 0),.aB,.aB,.aB]) func179 (by kernel_rfl) (by kernel_rfl) (by kernel_rfl) rfl rfl
theorem nv:hf prog pf:=⟨Vl,Uz⟩
theorem Vm:hO prog 245=true:=by kernel_rfl
def pg:cD cY:=wj cY 245 (.nm 11) 24
theorem UA:h3 prog pg:=He (sz:=2) (bytes:=24) (z:=[.t (.int .i64 0),.t (.str [])]) func245 (by kernel_rfl) (by kernel_rfl) (by kernel_rfl) rfl rfl
theorem ph:hf prog pg:=⟨Vm,UA⟩
instance:Inhabited gC:=⟨vv⟩
instance:Inhabited (cY.D 17):=⟨vv⟩
def lB(x y:gC):Bool:=decide (x.id<y.id)
def GU(l:List gC):Option (List gC):=some (hX lB l)
section
open Go.Proofs Go.Proofs.YtdjagncoefjfeaaGreat Go.Sort Go.RowKit Go.Lib
theorem ag5(x:Int)(w:World):Calls prog 250 #[.int .i64 x] w λe w'=>e= .returned (.bool false)/\w'=w:=by
 go_enter func250,ntmps250
 go_wp2
 go_ret
 exact⟨by simp,rfl⟩
set_option maxHeartbeats 1000000 in
theorem ag4(x y:Int)(w:World):Calls prog 227 #[.int .i64 x,.int .i64 y] w λe w'=>e= .returned (.int .i64 (Lib.compareInt x y))/\w'=w:=by
 go_enter func227,ntmps227
 go_wp2_with (go_at_call 250;refine(ag5 _ _).mono ?_;rintro e w' ⟨rfl,a⟩;rw[a])
 all_goals (go_ret;refine⟨?_,rfl⟩;unfold Lib.compareInt;(repeat' split)<;>first|rfl|(exfalso;omega))
def AN(x:gC):List Value:=[.int .i64 x.id,.string ⟨x.text.toArray⟩]
set_option maxHeartbeats 1000000 in
theorem ag3(x y:Int)(s t:ByteArray)(W:World):Calls prog 226 #[.agg #[.int .i64 x,.string s],.agg #[.int .i64 y,.string t]] W λe w'=>e= .returned (.int .i64 (Lib.compareInt x y))/\∃q c,w'=grow (W.drewN q) c:=by
 have a:=λb=>ag4 x y b;generalize Lib.compareInt x y=r at a⊢
 go_enter func226,ntmps226
 go_wp2_with (go_at_call 227;refine(a _).mono ?_;rintro e w' ⟨rfl,rfl⟩)
 go_ret
 exact⟨rfl,0,_,by rw[alloc_eq_grow,alloc_eq_grow,grow_grow];rfl⟩
def MU:Go.Shelf.Ren:=⟨λ|6=>225|15=>249|14=>248|28=>263|29=>264|20=>255|21=>256|22=>257|23=>258|24=>259|25=>260|26=>261|27=>262|46=>265|47=>266|48=>267|49=>268|50=>269|57=>270|n=>n,λ|22=>274|24=>276|25=>279|3=>3|39=>269|0=>0|53=>305|55=>114|4=>4|46=>299|45=>298|50=>118|5=>5|9=>9|66=>307|70=>311|76=>313|77=>314|n=>n,λ|n=>n⟩
theorem RS:SlLaysF0.n6 prog MU:={
 mixed:=by kernel_rfl
 f6:=⟨f225.name,by decide,func225.trans (dX some (by kernel_rfl))⟩
 f14:=⟨f248.name,by decide,func248.trans (dX some (by kernel_rfl))⟩
 f15:=func249.trans (dX some (by kernel_rfl))
 f20:=⟨f255.name,by decide,func255.trans (dX some (by kernel_rfl))⟩
 f21:=⟨f256.name,by decide,func256.trans (dX some (by kernel_rfl))⟩
 f22:=⟨f257.name,by decide,func257.trans (dX some (by kernel_rfl))⟩
 f23:=⟨f258.name,by decide,func258.trans (dX some (by kernel_rfl))⟩
 f24:=⟨f259.name,by decide,func259.trans (dX some (by kernel_rfl))⟩
 f25:=⟨f260.name,by decide,func260.trans (dX some (by kernel_rfl))⟩
 f26:=⟨f261.name,by decide,func261.trans (dX some (by kernel_rfl))⟩
 f27:=⟨f262.name,by decide,func262.trans (dX some (by kernel_rfl))⟩
 f28:=func263.trans (dX some (by kernel_rfl))
 f29:=func264.trans (dX some (by kernel_rfl))
 f46:=⟨f265.name,by decide,func265.trans (dX some (by kernel_rfl))⟩
 f47:=func266.trans (dX some (by kernel_rfl))
 f48:=func267.trans (dX some (by kernel_rfl))
 f49:=⟨f268.name,by decide,func268.trans (dX some (by kernel_rfl))⟩
 f50:=⟨f269.name,by decide,func269.trans (dX some (by kernel_rfl))⟩
 f57:=⟨f270.name,by decide,func270.trans (dX some (by kernel_rfl))⟩
 t0:=underlying0
 a0:=isAgg0
 z0:=sizeOf0
 v0:=zeroValue0
 t3:=underlying3
 a3:=isAgg3
 z3:=sizeOf3
 v3:=zeroValue3
 t4:=underlying4
 a4:=isAgg4
 z4:=sizeOf4
 v4:=zeroValue4
 t5:=underlying5
 a5:=isAgg5
 z5:=sizeOf5
 v5:=zeroValue5
 t9:=underlying9
 a9:=isAgg9
 z9:=sizeOf9
 v9:=zeroValue9
 t22:=underlying274
 a22:=isAgg274
 z22:=sizeOf274
 v22:=zeroValue274
 t25:=underlying279
 a25:=isAgg279
 z25:=sizeOf279
 v25:=zeroValue279
 t39:=underlying269
 a39:=isAgg269
 z39:=sizeOf269
 v39:=zeroValue269
 t45:=underlying298
 a45:=isAgg298
 z45:=sizeOf298
 v45:=zeroValue298
 t46:=underlying299
 a46:=isAgg299
 z46:=sizeOf299
 v46:=zeroValue299
 t50:=underlying118
 a50:=isAgg118
 z50:=sizeOf118
 v50:=zeroValue118
 t53:=underlying305
 a53:=isAgg305
 z53:=sizeOf305
 v53:=zeroValue305
 t55:=underlying114
 a55:=isAgg114
 z55:=sizeOf114
 v55:=zeroValue114
 t66:=underlying307
 a66:=isAgg307
 z66:=sizeOf307
 v66:=zeroValue307
 t70:=underlying311
 a70:=isAgg311
 z70:=sizeOf311
 v70:=zeroValue311
 t76:=underlying313
 a76:=isAgg313
 z76:=sizeOf313
 v76:=zeroValue313
 t77:=underlying314
 a77:=isAgg314
 z77:=sizeOf314
 v77:=zeroValue314}
theorem LQ:ltOf (λx y:gC=>Lib.compareInt x.id y.id)=lB:=by
 funext x y
 unfold ltOf lB Lib.compareInt;by_cases h1:x.id<y.id
 . simp[h1]
 . by_cases a:y.id<x.id<;>simp[h1,a]
theorem Gc:SWO lB:=acj (λx:gC=>x.id)
set_option maxHeartbeats 2000000 in
theorem ag7(p:Option Addr)(cap:Nat)(a:Value)(w:World):Calls prog 255 #[.slice p 0 cap,.int .i64 0,.int .i64 0,a] w λe w'=>e= .returned (.tuple #[])/\w'=w:=by
 go_enter func255,ntmps255
 go_wp2
 refine wp_loop_rounds 1 ?_;rw[rounds_succ]
 go_wp2
 go_end0
 exact⟨rfl,rfl⟩
set_option maxHeartbeats 2000000 in
theorem ag8(p:Option Addr)(cap:Nat)(c:Int)(a:Value)(w:World):Calls prog 248 #[.slice p 0 cap,.int .i64 0,.int .i64 0,.int .i64 c,a] w λe w'=>e= .returned (.tuple #[])/\w'=w:=by
 have b:=λW=>ag7 p cap a W
 go_enter func248,ntmps248
 go_wp2
 refine wp_loop_rounds 1 ?_;rw[rounds_succ]
 go_wp2_with (go_at_call 255;refine(b _).mono ?_;rintro e w' ⟨rfl,rfl⟩)
 (try simp only[Exit.inBlock,Exit.then]);refine bodyPost_ret (results_none rfl _ _ _) rfl ?_
 exact⟨rfl,rfl⟩
set_option maxHeartbeats 2000000 in
theorem ag6(p:Option Addr)(cap:Nat)(a:Value)(w:World):Calls prog 225 #[.slice p 0 cap,a] w λe w'=>e= .returned (.tuple #[])/\w'=w:=by
 have b:=λc W=>ag8 p cap c a W;have af:∀W,Calls prog 249 #[.int .u64 0] W λe w'=>e= .returned (.int .i64 (Lib.bitLen 0:Nat))/\w'=W:=λW=>by
  have h:=Any.bits_Len (SlLaysF0.n15.bits (P:=prog) (ρ:=MU) {RS with}) 0 W (by omega) (by omega);exact h
 go_enter func225,ntmps225
 go_wp2_with (first|(go_at_call 249;refine(af _).mono ?_;rintro e w' ⟨rfl,rfl⟩)|(go_at_call 248;refine(b _ _).mono ?_;rintro e w' ⟨rfl,rfl⟩))
 go_end0
 exact⟨rfl,rfl⟩
theorem ag9(blk off cap:Nat)(d:Array (cY.D 17))(w:World)(c:HoldsK AN 2 w blk off d)(f:blk<w.heap.size)(g:d.size<4611686018427387904):
 Calls prog 225 #[.slice (some ⟨blk,off,none⟩) d.size cap,.func (.func 226) #[] #[]] w λe w'=>e= .returned (.tuple #[])/\∃n os,w'=sortWorldK AN 2 w blk off n (pdq lB d 0 d.size (Lib.bitLen d.size) true true) os:=by
 have b:∀args w,(callFunc 226 args).run prog w= .ok (.enter 226 args) w:=enters_of func226 (by kernel_rfl) rfl;have h:=AnyQ.slices_SortFunc_eq (α:=gC) RS 2 isAgg276 sizeOf276 AN (λ_=>rfl) (λx v a=>by simp[AN]at a;rcases a with rfl|rfl<;>rfl) (λx y=>Lib.compareInt x.id y.id) (by rw[LQ];exact Gc) 226 #[] blk off cap d w b (λ_ _ _ _ x y=>ag3 x.id y.id _ _ _) c f g;rw[LQ]at h;exact h
theorem adg:hO prog 225=true:=by kernel_rfl
def Gy:cD cY:=Gb cY 225 17 226 (hX (α:=cY.D 17) lB)
theorem Wt:h3 prog Gy:=abi (U:=cY) (n:=17) AN lB Gc (λ_=>rfl) (λw S x j t v h a=>ZP w S x.id x.text j t v h a) ag9 ag6
end
theorem Gz:hf prog Gy:=⟨adg,Wt⟩
def K0:Go.Shelf.Ren:=⟨λ|240=>229|276=>251|n=>n,λ|0=>0|4=>4|9=>9|20=>20|37=>25|70=>250|72=>252|164=>294|n=>n,λn=>n⟩
theorem agt:Lays.n240 prog K0:={
 mixed:=by kernel_rfl
 f240:=func229.trans (dX some (by kernel_rfl))
 f276:=func251.trans (dX some (by kernel_rfl))
 t0:=underlying0
 a0:=isAgg0
 z0:=sizeOf0
 v0:=zeroValue0
 t4:=underlying4
 a4:=isAgg4
 z4:=sizeOf4
 v4:=zeroValue4
 t9:=underlying9
 a9:=isAgg9
 z9:=sizeOf9
 v9:=zeroValue9
 t20:=underlying20
 a20:=isAgg20
 z20:=sizeOf20
 v20:=zeroValue20
 t70:=underlying250
 a70:=isAgg250
 z70:=sizeOf250
 v70:=zeroValue250
 t72:=underlying252
 a72:=isAgg252
 z72:=sizeOf252
 v72:=zeroValue252
 t164:=underlying294
 a164:=isAgg294
 z164:=sizeOf294
 v164:=zeroValue294}
theorem agu:Builder.X72 prog K0:={
 sizeBuilder:=by kernel_rfl
 liesBuilder:=by kernel_rfl}
theorem acH:hO prog 229=true:=by kernel_rfl
def pY:cD cY:=DS cY 229 252 5
theorem WJ:h3 prog pY:=aa7 agt agu rfl rfl
theorem qI:hf prog pY:=⟨acH,WJ⟩
theorem Vn:hO prog 134=true:=by kernel_rfl
def pj:cD cY:=wj cY 134 (.int .i64) 8
theorem UB:h3 prog pj:=He (sz:=1) (bytes:=8) (z:=[.t (.int .i64 0)]) func134 (by kernel_rfl) (by kernel_rfl) (by kernel_rfl) rfl rfl
theorem sI:hf prog pj:=⟨Vn,UB⟩
end
section
open Go Go.Proofs.YtdjagncoefjfeaaGreat.Shv
open Tryz
set_option maxRecDepth 100000
abbrev ba(e:ey)(F:aL cY.D e.ts->Option (aL cY.D e.us)):Prop:=hf prog (e.s F)
abbrev cQ(f kk:Nat)(p:a6)(e:gA)(F:aL cY.D e.ts->Option (eA cY e.outs)):Prop:=ni prog f kk p e F
abbrev PV(e:ey):Prop:=iF prog e
abbrev ed(e:ey):aL cY.D e.ts->aL cY.D e.us->Prop:=A3 prog cY e
abbrev eE(f kk:Nat)(p:a6)(e:gA):aL cY.D e.ts->eA cY e.outs->Prop:=xd prog cY f kk p e
abbrev ei(e:ey)(F:aL cY.D e.ts->Option (aL cY.D e.us)):Prop:=∀h r,F h=some r->ed e h r
abbrev eF(f kk:Nat)(p:a6)(e:gA)(F:aL cY.D e.ts->Option (eA cY e.outs)):Prop:=∀h r,F h=some r->eE f kk p e h r
variable{fs:List (cD cY)}{p:a6}{gc:dO×dO×aj->Option (eW×Int)}{go:List dO->Option Int}
theorem er{e:ey}{h:aL cY.D e.ts}{r:aL cY.D e.us}{x:Option (aL cY.D e.us)}(h0:x=some r)(b:jr prog fs:=by exact .n){a:List (Nat×hg cY)}(af:jJ prog e.f e.st.length [] a:=by exact .n)(k:PV e:=by exact .m (by kernel_rfl))(c:qk (hS fs) (kU a) prog e h=x:=by kernel_rfl):ed e h r:= .at k b af (c.trans h0)
theorem eQ(e:gA){f kk:Nat}{F:aL cY.D e.ts->Option (eA cY e.outs)}(bw:eF f kk p e F){h:aL cY.D e.ts}{o:eA cY e.outs}{x:Option (eA cY e.outs)}(h0:x=some o)(b:jr prog fs:=by exact .n){a:List (Nat×hg cY)}(af:jJ prog f kk p a:=by exact .n)(c:rD (hS fs) (kU a) kk (qg prog f p) e F h=x:=by kernel_rfl):eE f kk p e h o:= .at bw b af (c.trans h0)
theorem cm(e:ey){F:aL cY.D e.ts->Option (aL cY.D e.us)}(h:ei e F)(k:PV e:=by exact .m (by kernel_rfl)):ba e F:= .of k h
theorem eR(e:gA){f kk:Nat}{F:aL cY.D e.ts->Option (eA cY e.outs)}(h:eF f kk p e F):cQ f kk p e F:= .of h
def afw:=aW 68 [.row 3,aa ab] (aa ab)
def afx:=aW 69 [aa ab] (aa .bool)
def afy:=aW 70 [.row 4] (aa ab)
def afz:=aW 71 [.row 4] (aa ab)
def Rt:=bU 0 [(1,ar 0 0),(3,.c (.arr 1)),(4,aa ab)] [.bk 4,.arr ab] [bM (.exit 0) [(3,.c (.arr 0))] [.arr ab]] [] [(.slot 3,ab)]
def afA:=aW 72 [.row 4] (aa bJ) [Rt]
def aeO:=aW 146 [aa ab] (aa .bool)
def NT:=bU 0 [(3,ar 0 0),(7,aa ab),(9,aa ab)] [cc (az 4)] [e1 6 ab,gG 0]
def aex:=aW 109 [.row 3,aa ab,aa (.int .u8)] (aa ab) [NT]
def aez:=aW 111 [aa ab] (aa .bool)
def Rv:=bU 0 [(1,aa (.int .u8)),(2,ar 0 0),(5,aa ab),(6,aa ab)] [cc (az 4)] [e1 4 ab,gG 0]
def afC:=aW 74 [.row 3,aa (.int .u8)] (aa ab) [Rv]
def aey:=aW 110 [.row 3,aa ab,aa (.int .u8)] (.aY [.row 10,aa .bool])
def No:=bU 0 [(1,aa ab),(2,aa .bool),(3,ar 0 0),(7,ar 1 0),(8,.c (.arr 2)),(9,aa ab),(10,aa ab)] [cc (az 4),.bk 4,.arr (.nm 9)] [bM (.exit 2) [(1,aa ab),(2,aa .bool),(3,ar 0 0),(7,ar 1 0),(8,.c (.arr 2)),(9,aa ab)] [cc (az 4),.bk 4,.arr (.nm 9)]]
def Ru:=bU 0 [(1,aa ab),(2,aa .bool),(3,ar 0 0),(7,ar 1 0),(8,.c (.arr 2)),(9,aa ab)] [cc (az 4),.bk 4,.arr (.nm 9)] [bM (.exit 0) [(8,.c (.arr 0))] [.arr (.nm 9)]] [No] [(.slot 8,.nm 9)]
def afB:=aW 73 [.row 3,aa ab,aa .bool] (aa (az 9)) [Ru]
def Np:=bU 0 [(1,ar 0 0),(2,ar 1 0),(4,aa ab),(5,ar 2 0),(6,aa ab),(8,ar 3 0),(9,aa bJ),(10,aa ab)] [cc (az 4),.box [.aB],.box [.arr 4],.box [.hole ab,.hole .str,.hole ab,.hole ab,.hole ab,.arr 5,.aB,.hole ab,.hole ab,.hole .bool],.arr (.nm 7),.arr (.nm 8)] [bM (.exit 3) [(1,ar 0 0),(2,ar 1 0),(4,aa ab),(5,ar 2 0),(6,aa ab),(8,ar 3 0)] [cc (az 4),.box [.aB],.box [.arr 4],.box [.hole ab,.hole .str,.hole ab,.hole ab,.hole ab,.arr 5,.aB,.hole ab,.hole ab,.hole .bool],.arr (.nm 7),.arr (.nm 8)]] [] [(.via 8 5,.nm 8)]
def Rk:=bU 0 [(1,ar 0 0),(2,ar 1 0),(4,aa ab),(5,ar 2 0),(6,aa ab)] [cc (az 4),.box [.aB],.box [.arr 3],.arr (.nm 7)] [bM (.exit 0) [(2,ar 0 0),(5,ar 1 0)] [.box [.aB],.box [.arr 2],.arr (.nm 7)]] [Np] [(.via 5 0,.nm 7)]
def afi:=aW 34 [.row 3] (.aY [.row 12,aa .bool]) [Rk]
def aeP:=aW 147 [ar 0 0,aa ab] (aa ab) [] [.box [.hole (az 7),.hole (.slice (.int .u8)),.hole .bool]] [.box [.hole (az 7),.hole (.slice (.int .u8)),.hole .bool]]
def NU:=bU 0 [(0,ar 0 0),(5,aa .str),(6,aa ab)] [.box [.hole (az 7),.hole (.slice (.int .u8)),.hole .bool]] [bM (.exit 0) [(5,aa .str)] [.box [.hole (az 7),.hole (.slice (.int .u8)),.hole .bool]]]
def aeQ:=aW 148 [ar 0 0,aa ab] (aa .str) [NU] [.box [.hole (az 7),.hole (.slice (.int .u8)),.hole .bool]] [.box [.hole (az 7),.hole (.slice (.int .u8)),.hole .bool]]
def aeR:=aW 149 [ar 0 0] (aa .bool) [] [.box [.hole (az 7),.hole (.slice (.int .u8)),.hole .bool]] [.box [.hole (az 7),.hole (.slice (.int .u8)),.hole .bool]]
def Rq:=bU 0 [(1,aa ab),(2,ar 0 0),(6,aa ab)] [.bk 7] [bM .ret [(4,aa ab),(5,aa .bool)],gG 0]
def afr:=aW 53 [.row 7,aa ab] (.aY [aa ab,aa .bool]) [Rq]
def Ry:=bU 0 [(1,aa ab),(2,ar 0 0),(6,aa ab)] [.bk 7] [bM .ret [(4,aa ab),(5,aa .bool)],gG 0]
def afJ:=aW 82 [.row 7,aa ab] (.aY [aa ab,aa .bool]) [Ry]
def afa:=aW 194 [.row 7,aa ab] (aa .bool)
def NV:=bU 0 [(3,ar 1 0),(5,aa ab)] [.box [.hole (az 7),.hole (.slice (.int .u8)),.hole .bool],.bk 7] [bM (.exit 0) [(5,aa ab)] [.box [.hole (az 7),.hole (.slice (.int .u8)),.hole .bool]]]
def aeT:=aW 150 [ar 0 0,.row 7] (aa ab) [NV] [.box [.hole (az 7),.hole (.slice (.int .u8)),.hole .bool]] [.box [.hole (az 7),.hole (.slice (.int .u8)),.hole .bool]]
def aeU:=aW 151 [ar 0 0,aa ab] (.row 11) [] [.box [.hole (az 7),.hole (.slice (.int .u8)),.hole .bool]] [.box [.hole (az 7),.hole (.slice (.int .u8)),.hole .bool]]
def ae7:=aW 163 [aa .bool,aa .bool] (aa ab)
def afp:=aW 51 [aa ab] (aa (.int .u64))
def aeK:=aW 128 [.row 10,.row 10] (aa ab)
def NW:=bU 0 [(3,ar 0 0),(4,ar 1 0),(5,ar 2 0),(6,ar 3 0),(7,aa ab)] [.bk 10,.bk 10,.bk 10,.box [.hole ab,.hole .bool,.hole ab,.hole .str,.hole ab,.aB,.aB,.aB]] [bM (.exit 0) [(3,ar 0 0),(4,ar 1 0),(5,ar 2 0),(6,ar 3 0),(7,aa ab)] [.bk 10,.bk 10,.bk 10,.box [.hole ab,.hole .bool,.hole ab,.hole .str,.hole ab,.aB,.aB,.aB]]]
def aeV:=aW 152 [.row 10,.row 10,.row 10] (.row 10) [NW]
def zN:=bU 0 [(0,ar 0 0),(4,ar 1 0),(5,ar 2 0),(6,ar 3 0),(7,aa ab)] [.box [.hole (az 7),.hole (.slice (.int .u8)),.hole .bool],.box [.hole ab,.hole .bool,.hole ab,.hole .str,.hole ab,.aB,.aB,.aB],.box [.hole ab,.hole .str,.hole ab,.hole ab,.hole ab,.hole (az 8),.hole (az 9),.hole ab,.hole ab,.hole .bool],.box [.hole ab,.hole .bool,.hole ab,.hole .str,.hole ab,.aB,.arr 4,.aB],.arr (.nm 10)] [bM (.exit 1) [(0,ar 0 0),(4,ar 1 0),(5,ar 2 0),(6,ar 3 0)] [.box [.hole (az 7),.hole (.slice (.int .u8)),.hole .bool],.box [.hole ab,.hole .bool,.hole ab,.hole .str,.hole ab,.aB,.aB,.aB],.box [.hole ab,.hole .str,.hole ab,.hole ab,.hole ab,.hole (az 8),.hole (az 9),.hole ab,.hole ab,.hole .bool],.box [.hole ab,.hole .bool,.hole ab,.hole .str,.hole ab,.aB,.arr 4,.aB],.arr (.nm 10)]] [] [(.via 6 6,.nm 10)]
def zO:=bU 1 [(0,ar 0 0),(4,ar 1 0),(5,ar 2 0),(6,ar 3 0),(9,aa ab)] [.box [.hole (az 7),.hole (.slice (.int .u8)),.hole .bool],.box [.hole ab,.hole .bool,.hole ab,.hole .str,.hole ab,.aB,.aB,.aB],.box [.hole ab,.hole .str,.hole ab,.hole ab,.hole ab,.hole (az 8),.hole (az 9),.hole ab,.hole ab,.hole .bool],.box [.hole ab,.hole .bool,.hole ab,.hole .str,.hole ab,.aB,.arr 4,.aB],.arr (.nm 10)] [bM (.exit 3) [(4,ar 1 0),(6,ar 2 0)] [.box [.hole (az 7),.hole (.slice (.int .u8)),.hole .bool],.box [.hole ab,.hole .bool,.hole ab,.hole .str,.hole ab,.aB,.aB,.aB],.box [.hole ab,.hole .bool,.hole ab,.hole .str,.hole ab,.aB,.arr 3,.aB],.arr (.nm 10)]] [] [(.via 6 6,.nm 10)]
def zP:=bU 2 [(0,ar 0 0),(4,ar 1 0),(5,ar 2 0),(6,ar 3 0),(10,aa ab)] [.box [.hole (az 7),.hole (.slice (.int .u8)),.hole .bool],.box [.hole ab,.hole .bool,.hole ab,.hole .str,.hole ab,.aB,.aB,.aB],.box [.hole ab,.hole .str,.hole ab,.hole ab,.hole ab,.hole (az 8),.hole (az 9),.hole ab,.hole ab,.hole .bool],.box [.hole ab,.hole .bool,.hole ab,.hole .str,.hole ab,.hole (az 10),.hole (az 10),.hole (az 11)]] [bM (.exit 5) [(4,ar 1 0),(6,ar 2 0)] [.box [.hole (az 7),.hole (.slice (.int .u8)),.hole .bool],.box [.hole ab,.hole .bool,.hole ab,.hole .str,.hole ab,.aB,.aB,.aB],.box [.hole ab,.hole .bool,.hole ab,.hole .str,.hole ab,.hole (az 10),.hole (az 10),.hole (az 11)]]]
def sm:=aW 112 [ar 0 0,aa ab] (.row 10) [zN,zO,zP] [.box [.hole (az 7),.hole (.slice (.int .u8)),.hole .bool]] [.box [.hole (az 7),.hole (.slice (.int .u8)),.hole .bool]]
def afE:=aW 76 [.row 12,aa ab,aa (.slice (.int .u8))] (.row 10)
def afF:=aW 77 [.row 12,aa ab,aa (.slice (.int .u8))] (.row 10)
def afj:=aW 38 [.row 2] (.aY [.row 12,aa ab,.row 10,.row 10,aa .bool])
def Rj:=bU 0 [(1,aa (az 6)),(4,ar 0 0),(5,ar 1 0),(6,aa ab)] [.box [.aB],.box [.arr 2],.arr (.nm 4)] [bM (.exit 0) [(4,ar 0 0),(5,ar 1 0)] [.box [.aB],.box [.arr 2],.arr (.nm 4)]]
def afh:=aW 33 [.row 3,aa (az 6)] (.row 3) [Rj]
def Rw:=bU 0 [(1,aa ab),(2,ar 0 0),(5,aa ab)] [.bk 10] [bM (.exit 0) [(1,aa ab),(2,ar 0 0)] [.bk 10]]
def xC:=bU 1 [(1,aa ab),(2,ar 0 0),(6,aa ab)] [.bk 10] [bM (.exit 2) [(1,aa ab),(2,ar 0 0)] [.bk 10]]
def xD:=bU 2 [(1,aa ab),(2,ar 0 0),(7,aa ab)] [.bk 10] [bM (.exit 4) [(1,aa ab)]]
def xB:=aW 78 [.row 10,aa ab] (aa ab) [Rw,xC,xD]
def afk:=aW 39 [.row 10] (aa .bool)
def aeN:=aW 14 [.row 1] (.aY [.row 12,.row 12,aa ab,.row 10,aa .bool])
def Ro:=bU 0 [(0,aa (.int .u64)),(3,aa .str)] [] [bM (.exit 0) [(3,aa .str)]]
def afo:=aW 50 [aa (.int .u64)] (aa .str) [Ro]
def Rp:=bU 0 [(0,aa (.int .u64)),(3,.c (.arr 0))] [.arr (.int .u8)] [bM (.exit 0) [(0,aa (.int .u64)),(3,.c (.arr 0))] [.arr (.int .u8)]] [] [(.slot 3,.int .u8)]
def afq:=aW 52 [aa (.int .u64)] (aa .str) [Rp]
def afs:=aW 54 [aa .str] (aa .str)
def xF:=bU 0 [(0,aa (az 10)),(1,aa (az 10)),(5,aa ab)] [] [e1 4 .bool,gG 0]
def E8:=aW 89 [aa (az 10),aa (az 10)] (aa .bool) [xF]
def Rn:=bU 0 [(2,ar 0 0),(3,ar 1 0),(5,aa ab)] [.bk 10,.bk 10] [e1 4 .bool,bM (.exit 0) [(2,ar 0 0),(3,ar 1 0)] [.bk 10,.bk 10]]
def Bv:=aW 49 [.row 10,.row 10] (aa .bool) [Rn]
def aft:=aW 55 [aa ab,aa .bool,aa .str] (aa .str)
def Nq:=bU 0 [(3,ar 0 0),(5,ar 1 0),(7,ar 2 0),(14,aa .str),(15,aa ab),(19,aa ab)] [cc (az 7),.bk 10,.bk 7] [bM (.exit 7) [(3,ar 0 0),(5,ar 1 0),(7,ar 2 0),(14,aa .str),(15,aa ab)] [cc (az 7),.bk 10,.bk 7]]
def xt:=bU 0 [(3,ar 0 0),(5,ar 1 0),(7,ar 2 0),(10,aa .str),(11,aa ab)] [cc (az 7),.bk 10,.bk 7] [bM (.exit 1) [(10,aa .str)]]
def xu:=bU 1 [(3,ar 0 0),(5,ar 1 0),(7,ar 2 0),(12,aa .str),(13,aa ab)] [cc (az 7),.bk 10,.bk 7] [bM (.exit 3) [(12,aa .str)]]
def xv:=bU 2 [(3,ar 0 0),(5,ar 1 0),(7,ar 2 0),(14,aa .str),(15,aa ab)] [cc (az 7),.bk 10,.bk 7] [bM (.exit 5) [(14,aa .str)]] [Nq]
def sq:=aW 19 [.row 12,aa ab,.row 10] (aa .str) [xt,xu,xv]
def ES:=aW 10 [.row 0] (.aY [.row 13,.row 13,aa .str,aa .bool])
def Rl:=aW 40 [aa ab] (.row 9)
def Rm:=aW 41 [aa (az 9)] (.row 13)
def NX:=bU 0 [(0,aa (az 8)),(1,aa (az 8)),(12,aa ab),(13,aa ab)] [] [e1 4 .bool,gG 0]
def Q5:=aW 239 [aa (az 8),aa (az 8)] (aa .bool) [NX]
def NY:=bU 0 [(0,aa (az 11)),(1,aa (az 11)),(12,aa ab),(13,aa ab)] [] [e1 4 .bool,gG 0]
def Qc:=aW 103 [aa (az 11),aa (az 11)] (aa .bool) [NY]
def Ad:=bU 0 [(1,aa (az 10)),(2,.c (.fn 242 [])),(15,aa (az 10)),(16,aa ab),(17,aa ab)] [] [e1 6 .bool,gG 0]
def DT:=aW 104 [aa (az 10),aa (az 10),.c (.fn 242 [])] (aa .bool) [Ad]
def xw:=aW 242 [.row 10,.row 10] (aa .bool)
def Q8:=aW 241 [.row 9,.row 9] (aa .bool)
def NZ:=bU 0 [(1,aa (az 9)),(2,.c (.fn 241 [])),(15,aa (az 9)),(16,aa ab),(17,aa ab)] [] [e1 6 .bool,gG 0]
def Q7:=aW 240 [aa (az 9),aa (az 9),.c (.fn 241 [])] (aa .bool) [NZ]
def QK:=aW 211 [.row 7,.row 7] (aa .bool)
def Q1:=aW 235 [aa (.int .u8)] (aa .bool)
def Q2:=aW 236 [aa (.int .u8)] (aa .bool)
def N0:=bU 0 [(0,aa .str),(18,aa ab),(19,aa ab)] [] [e1 2 .bool,gG 0]
def QH:=aW 208 [aa .str] (aa .bool) [N0]
def N1:=bU 0 [(0,aa bJ),(1,aa jm),(5,.c (.mp 0)),(9,aa bJ),(10,aa ab),(11,aa ab)] [.set] [e1 4 .bool,bM (.exit 0) [(0,aa bJ)]]
def Q3:=aW 237 [aa bJ,aa jm] (aa .bool) [N1]
def Pe:=bU 0 [(0,aa (az 8)),(3,.c (.arr 0)),(4,.c (.arr 1)),(7,aa (az 8)),(8,aa ab),(9,aa ab)] [.arr ab,.arr .str] [bM (.exit 0) [(0,aa (az 8)),(3,.c (.arr 0)),(4,.c (.arr 1))] [.arr ab,.arr .str]] [] [(.slot 3,ab),(.slot 4,.str)]
def QI:=aW 209 [aa (az 8)] (aa .bool) [Pe]
def Q4:=aW 238 [.row 10] (aa .bool)
def Pf:=bU 0 [(1,ar 0 0),(3,.c (.arr 1)),(4,.c (.arr 2)),(8,aa (az 9)),(9,aa ab),(10,aa ab)] [.bk 7,.arr ab,.arr .str] [e1 2 .bool,bM (.exit 0) [(1,ar 0 0),(3,.c (.arr 1)),(4,.c (.arr 2))] [.bk 7,.arr ab,.arr .str]] [] [(.slot 3,ab),(.slot 4,.str)]
def QJ:=aW 210 [.row 7] (aa .bool) [Pf]
def Qo:=aW 169 [.row 7] (aa .bool)
def Pg:=bU 0 [(1,ar 0 0),(3,.c (.arr 1)),(7,aa (az 9)),(8,aa ab),(9,aa ab)] [.bk 7,.arr ab] [bM (.exit 0) [(1,ar 0 0),(3,.c (.arr 1))] [.bk 7,.arr ab]] [] [(.slot 3,ab)]
def Qp:=aW 170 [.row 7] (aa bJ) [Pg]
def MV:=bU 0 [(1,ar 0 0),(3,.c (.mp 1)),(5,ar 2 0),(14,aa (az 7)),(15,aa ab),(16,aa ab),(38,aa bJ),(39,aa ab),(40,aa ab)] [cc (az 7),.set,.box [.hole ab,.hole .str,.hole ab,.hole ab,.hole ab,.hole (az 8),.hole (az 9),.hole ab,.hole ab,.hole .bool]] [e1 2 ab,bM (.exit 2) [(1,ar 0 0),(3,.c (.mp 1)),(5,ar 2 0),(14,aa (az 7)),(15,aa ab),(16,aa ab)] [cc (az 7),.set,.box [.hole ab,.hole .str,.hole ab,.hole ab,.hole ab,.hole (az 8),.hole (az 9),.hole ab,.hole ab,.hole .bool]]]
def Ph:=bU 0 [(1,ar 0 0),(3,.c (.mp 1)),(14,aa (az 7)),(15,aa ab),(16,aa ab)] [cc (az 7),.set] [e1 2 ab,gG 0] [MV]
def Bi:=aW 139 [.row 12] (aa ab) [Ph]
def ET:=aW 105 [.row 13] (aa ab)
def E4:=bU 0 [(6,aa (az 13)),(7,aa ab),(8,aa ab)] [] [e1 2 ab,gG 0]
def E3:=aW 65 [aa (az 13)] (aa ab) [E4]
def Qq:=aW 171 [ar 0 0,aa ab] (.aY [.row 10,aa .bool]) [] [.box [.hole (az 7),.arr 1,.hole bJ,.hole ab],.arr ab] [.box [.hole (az 7),.arr 2,.arr 3,.hole ab],.gone,.arr ab,.arr ab]
def Pj:=bU 0 [(0,aa .str),(4,aa (.int .u64)),(17,aa ab),(18,aa ab)] [] [bM (.exit 0) [(4,aa (.int .u64))]]
def Qr:=aW 172 [aa .str] (.aY [aa (.int .u64),aa ab]) [Pj]
def Qs:=aW 173 [aa (.int .u64)] (aa ab)
def QG:=aW 206 [.row 8,ar 0 0] (aa .bool) [] [cc ab] [cc ab]
def Pk:=bU 0 [(0,aa (az 8)),(1,.c (.fn 206 [0])),(7,aa ab),(8,aa ab)] [cc ab] [bM .ret [(4,aa ab)] [cc ab],bM (.exit 0) [] [cc ab]]
def QF:=aW 205 [aa (az 8),.c (.fn 206 [0])] (aa ab) [Pk] [cc ab] [cc ab]
def Qm:=aW 165 [.row 7,aa ab] (.aY [aa ab,aa .bool])
def oT:=aW 174 [ar 0 0,aa ab,aa ab,aa .str] (.aY [.row 10,aa .bool]) [] [.box [.hole (az 7),.arr 1,.hole bJ,.hole ab],.arr ab] [.box [.hole (az 7),.arr 2,.hole bJ,.hole ab],.gone,.arr ab]
def Pl:=bU 0 [(0,aa .str),(5,aa (.int .u64)),(10,aa ab),(11,aa ab)] [] [bM .ret [(2,aa (.int .u64)),(3,aa ab),(4,aa ab)],gG 0]
def Rg:=aW 254 [aa .str] (.aY [aa (.int .u64),aa ab,aa ab]) [Pl]
def Q9:=aW 243 [aa .str] (.aY [aa (.int .u64),aa .str,aa .bool])
def QL:=aW 212 [aa .str] (.aY [aa ab,aa .str,aa ab])
def Qj:=aW 138 [.row 9,ar 0 0] (aa .bool) [] [cc ab] [cc ab]
def Pm:=bU 0 [(0,aa (az 9)),(1,.c (.fn 138 [0])),(7,aa ab),(8,aa ab)] [cc ab] [bM .ret [(4,aa ab)] [cc ab],bM (.exit 0) [] [cc ab]]
def Qi:=aW 137 [aa (az 9),.c (.fn 138 [0])] (aa ab) [Pm] [cc ab] [cc ab]
def RC:=aW 98 [.row 7,aa ab] (.aY [aa ab,aa .bool])
def Bj:=aW 175 [ar 0 0,.row 7,aa .str] (.aY [.row 10,aa .bool]) [] [.box [.hole (az 7),.arr 1,.hole bJ,.hole ab],.arr ab] [.box [.hole (az 7),.arr 2,.hole bJ,.hole ab],.gone,.arr ab]
def Q':=aW 244 [aa .str] (.aY [aa .str,aa .str,aa .bool])
def Pn:=bU 0 [(4,.c (.arr 0)),(5,aa .str)] [.arr .str] [bM .ret [(2,.c (.aB)),(3,aa ab)],bM (.exit 0) [(4,.c (.arr 0))] [.arr .str]] [] [(.slot 4,.str)]
def QM:=aW 213 [aa .str] (.aY [aa jm,aa ab]) [Pn]
def zQ:=bU 0 [(0,ar 0 0),(4,ar 2 0),(6,ar 3 0),(10,ar 4 0),(38,aa jm),(39,aa ab),(40,aa ab)] [.box [.hole (az 7),.arr 5,.hole bJ,.hole ab],.gone,.bk 7,.box [.hole ab,.hole .bool,.hole ab,.hole .str,.hole ab,.aB,.aB,.aB],.box [.hole ab,.hole .bool,.hole ab,.hole .str,.hole ab,.aB,.arr 6,.aB],.arr ab,.arr (.nm 10)] [bM .ret [(6,ar 2 0),(7,aa .bool)] [.box [.hole (az 7),.arr 3,.hole bJ,.hole ab],.gone,.bk 10,.arr ab],bM (.exit 0) [(6,ar 2 0),(10,ar 3 0)] [.box [.hole (az 7),.arr 4,.hole bJ,.hole ab],.gone,.box [.hole ab,.hole .bool,.hole ab,.hole .str,.hole ab,.aB,.aB,.aB],.box [.hole ab,.hole .bool,.hole ab,.hole .str,.hole ab,.aB,.arr 5,.aB],.arr ab,.arr (.nm 10)]] [] [(.via 10 6,.nm 10)]
def Bk:=aW 176 [ar 0 0,.row 7,aa .str] (.aY [.row 10,aa .bool]) [zQ] [.box [.hole (az 7),.arr 1,.hole bJ,.hole ab],.arr ab] [.box [.hole (az 7),.arr 2,.hole bJ,.hole ab],.gone,.arr ab]
def Qy:=aW 188 [aa ab] (aa (.int .u64))
def Re:=aW 252 [aa (.int .u64)] (aa .bool)
def QY:=aW 232 [aa (.int .u64),aa (.int .u64)] (aa ab)
def Rc:=aW 250 [aa ab] (aa .bool)
def QV:=aW 227 [aa ab,aa ab] (aa ab)
def Rf:=aW 253 [aa .str] (aa .bool)
def Q0:=aW 234 [aa .str,aa .str] (aa ab)
def Po:=bU 0 [(3,aa ab),(6,aa bJ),(7,aa ab),(8,aa ab)] [] [e1 2 ab,bM (.exit 0) [(3,aa ab)]]
def QZ:=aW 233 [aa bJ] (aa ab) [Po]
def QE:=aW 204 [.row 10,.row 10] (aa ab)
def zR:=bU 0 [(0,ar 0 0),(4,ar 2 0),(6,ar 3 0),(8,aa jm),(10,ar 4 0),(11,aa ab)] [.box [.hole (az 7),.arr 5,.hole bJ,.hole ab],.gone,.bk 7,.box [.hole ab,.hole .bool,.hole ab,.hole .str,.hole ab,.aB,.aB,.aB],.box [.hole ab,.hole .bool,.hole ab,.hole .str,.hole ab,.arr 6,.aB,.aB],.arr ab,.arr (.nm 10)] [bM .ret [(6,ar 2 0),(7,aa .bool)] [.box [.hole (az 7),.arr 3,.hole bJ,.hole ab],.gone,.bk 10,.arr ab],bM (.exit 0) [(0,ar 0 0),(4,ar 2 0),(6,ar 3 0),(8,aa jm),(10,ar 4 0)] [.box [.hole (az 7),.arr 5,.hole bJ,.hole ab],.gone,.bk 7,.box [.hole ab,.hole .bool,.hole ab,.hole .str,.hole ab,.aB,.aB,.aB],.box [.hole ab,.hole .bool,.hole ab,.hole .str,.hole ab,.arr 6,.aB,.aB],.arr ab,.arr (.nm 10)]] [] [(.via 10 5,.nm 10)]
def Pp:=bU 1 [(0,ar 0 0),(4,ar 2 0),(6,ar 3 0),(8,aa jm),(10,ar 4 0),(14,aa ab)] [.box [.hole (az 7),.arr 5,.hole bJ,.hole ab],.gone,.bk 7,.box [.hole ab,.hole .bool,.hole ab,.hole .str,.hole ab,.aB,.aB,.aB],.box [.hole ab,.hole .bool,.hole ab,.hole .str,.hole ab,.arr 6,.aB,.aB],.arr ab,.arr (.nm 10)] [bM .ret [(6,ar 2 0),(7,aa .bool)] [.box [.hole (az 7),.arr 3,.arr 4,.hole ab],.gone,.bk 10,.arr ab,.arr ab],bM (.exit 2) [(0,ar 0 0),(4,ar 2 0),(6,ar 3 0),(8,aa jm),(10,ar 4 0)] [.box [.hole (az 7),.arr 5,.hole bJ,.hole ab],.gone,.bk 7,.box [.hole ab,.hole .bool,.hole ab,.hole .str,.hole ab,.aB,.aB,.aB],.box [.hole ab,.hole .bool,.hole ab,.hole .str,.hole ab,.arr 6,.aB,.aB],.arr ab,.arr (.nm 10)]]
def zS:=bU 2 [(0,ar 0 0),(4,ar 2 0),(6,ar 3 0),(8,aa jm),(10,ar 4 0),(15,aa ab)] [.box [.hole (az 7),.arr 5,.hole bJ,.hole ab],.gone,.bk 7,.box [.hole ab,.hole .bool,.hole ab,.hole .str,.hole ab,.aB,.aB,.aB],.box [.hole ab,.hole .bool,.hole ab,.hole .str,.hole ab,.arr 6,.arr 7,.aB],.arr ab,.arr (.nm 10),.arr (.nm 10)] [bM .ret [(6,ar 2 0),(7,aa .bool)] [.box [.hole (az 7),.arr 3,.hole bJ,.hole ab],.gone,.bk 10,.arr ab],bM (.exit 4) [(6,ar 2 0),(10,ar 3 0)] [.box [.hole (az 7),.arr 4,.hole bJ,.hole ab],.gone,.box [.hole ab,.hole .bool,.hole ab,.hole .str,.hole ab,.aB,.aB,.aB],.box [.hole ab,.hole .bool,.hole ab,.hole .str,.hole ab,.arr 5,.arr 6,.aB],.arr ab,.arr (.nm 10),.arr (.nm 10)]] [] [(.via 10 6,.nm 10)]
def Bl:=aW 177 [ar 0 0,.row 7,aa .str] (.aY [.row 10,aa .bool]) [zR,Pp,zS] [.box [.hole (az 7),.arr 1,.hole bJ,.hole ab],.arr ab] [.box [.hole (az 7),.arr 2,.hole bJ,.hole ab],.gone,.arr ab]
def Pq:=bU 0 [(4,.c (.arr 0)),(5,aa (.int .u64)),(6,aa .str)] [.arr (.nm 14)] [bM .ret [(2,.c (.aB)),(3,aa ab)],bM (.exit 0) [(4,.c (.arr 0))] [.arr (.nm 14)]] [] [(.slot 4,.nm 14)]
def QN:=aW 214 [aa .str] (.aY [aa (az 14),aa ab]) [Pq]
def QP:=aW 216 [.row 14,ar 0 0] (aa .bool) [] [.bk 9] [.bk 9]
def Pr:=bU 0 [(0,aa (az 14)),(1,.c (.fn 216 [0])),(7,aa ab),(8,aa ab)] [.bk 9] [bM .ret [(4,aa ab)] [.bk 9],bM (.exit 0) [] [.bk 9]]
def QO:=aW 215 [aa (az 14),.c (.fn 216 [0])] (aa ab) [Pr] [.bk 9] [.bk 9]
def zT:=bU 0 [(1,ar 0 0),(2,ar 1 0),(20,.c (.arr 2)),(21,aa ab),(22,aa ab)] [.box [.hole ab,.hole .bool,.hole ab,.hole .str,.hole ab,.arr 2,.arr 3,.arr 4],.box [.hole ab,.hole .bool,.hole ab,.hole .str,.hole ab,.aB,.aB,.aB],.arr (.nm 10),.arr (.nm 10),.arr (.nm 11)] [bM (.exit 0) [(1,ar 0 0),(2,ar 1 0)] [.box [.hole ab,.hole .bool,.hole ab,.hole .str,.hole ab,.arr 2,.arr 3,.arr 4],.box [.hole ab,.hole .bool,.hole ab,.hole .str,.hole ab,.aB,.aB,.aB],.arr (.nm 10),.arr (.nm 10),.arr (.nm 11)]]
def zU:=bU 1 [(1,ar 0 0),(2,ar 1 0),(35,.c (.arr 2)),(36,aa ab),(37,aa ab)] [.box [.hole ab,.hole .bool,.hole ab,.hole .str,.hole ab,.arr 3,.arr 2,.arr 4],.box [.hole ab,.hole .bool,.hole ab,.hole .str,.hole ab,.aB,.aB,.aB],.arr (.nm 10),.arr (.nm 10),.arr (.nm 11)] [bM (.exit 2) [(1,ar 0 0),(2,ar 1 0)] [.box [.hole ab,.hole .bool,.hole ab,.hole .str,.hole ab,.arr 2,.arr 3,.arr 4],.box [.hole ab,.hole .bool,.hole ab,.hole .str,.hole ab,.aB,.aB,.aB],.arr (.nm 10),.arr (.nm 10),.arr (.nm 11)]]
def uZ:=aW 217 [.row 10] (.row 10) [zT,zU]
def zt:=bU 0 [(0,ar 0 0),(4,ar 2 0),(6,ar 3 0),(8,aa (az 14)),(10,ar 4 0),(39,aa (az 9)),(40,aa ab),(41,aa ab)] [.box [.hole (az 7),.arr 5,.hole bJ,.hole ab],.gone,.bk 7,.box [.hole ab,.hole .bool,.hole ab,.hole .str,.hole ab,.aB,.aB,.aB],.box [.hole ab,.hole .bool,.hole ab,.hole .str,.hole ab,.aB,.arr 6,.aB],.arr ab,.arr (.nm 10)] [bM .ret [(6,ar 2 0),(7,aa .bool)] [.box [.hole (az 7),.arr 3,.hole bJ,.hole ab],.gone,.bk 10,.arr ab],bM (.exit 0) [(0,ar 0 0),(4,ar 2 0),(6,ar 3 0),(8,aa (az 14)),(10,ar 4 0)] [.box [.hole (az 7),.arr 5,.hole bJ,.hole ab],.gone,.bk 7,.box [.hole ab,.hole .bool,.hole ab,.hole .str,.hole ab,.aB,.aB,.aB],.box [.hole ab,.hole .bool,.hole ab,.hole .str,.hole ab,.aB,.arr 6,.aB],.arr ab,.arr (.nm 10)]] [] [(.via 10 6,.nm 10)]
def Ps:=bU 1 [(0,ar 0 0),(4,ar 2 0),(6,ar 3 0),(10,ar 4 0),(117,aa (az 14)),(118,aa ab),(119,aa ab)] [.box [.hole (az 7),.arr 5,.hole bJ,.hole ab],.gone,.bk 7,.box [.hole ab,.hole .bool,.hole ab,.hole .str,.hole ab,.aB,.aB,.aB],.box [.hole ab,.hole .bool,.hole ab,.hole .str,.hole ab,.aB,.arr 6,.arr 7],.arr ab,.arr (.nm 10),.arr (.nm 11)] [bM .ret [(6,ar 2 0),(7,aa .bool)] [.box [.hole (az 7),.arr 3,.arr 4,.hole ab],.gone,.bk 10,.arr ab,.arr ab],bM (.exit 3) [(6,ar 2 0),(10,ar 3 0)] [.box [.hole (az 7),.arr 4,.hole bJ,.hole ab],.gone,.box [.hole ab,.hole .bool,.hole ab,.hole .str,.hole ab,.aB,.aB,.aB],.box [.hole ab,.hole .bool,.hole ab,.hole .str,.hole ab,.aB,.arr 5,.arr 6],.arr ab,.arr (.nm 10),.arr (.nm 11)]] [] [(.via 10 7,.nm 11)]
def Bm:=aW 178 [ar 0 0,.row 7,aa .str] (.aY [.row 10,aa .bool]) [zt,Ps] [.box [.hole (az 7),.arr 1,.hole bJ,.hole ab],.arr ab] [.box [.hole (az 7),.arr 2,.hole bJ,.hole ab],.gone,.arr ab]
def xp:=aW 140 [ar 0 0,aa ab,aa .str] (.aY [.row 10,aa .bool]) [] [.box [.hole (az 7),.arr 1,.hole bJ,.hole ab],.arr ab] [.box [.hole (az 7),.arr 2,.hole bJ,.hole ab],.gone,.arr ab]
def Qb:=aW 102 [.row 12,aa ab,aa .str] (.aY [.row 10,.row 15,aa ab])
def Bw:=aW 63 [.row 12,aa ab,aa .str] (.aY [.row 10,aa ab])
def Qd:=aW 129 [.row 12,aa ab] (aa ab)
def QX:=aW 230 [.row 10] (.row 10)
def QC:=aW 201 [.row 10] (aa .bool)
def QD:=aW 202 [aa ab] (aa .bool)
def Bt:=aW 231 [.row 10,ar 0 0,ar 1 0,ar 2 0] (aa .bool) [] [cc (az 7),cc ab,cc .bool] [cc (az 7),cc ab,cc .bool]
def Ae:=bU 0 [(0,aa (az 10)),(1,.c (.fn 231 [0,1,2])),(7,aa ab),(8,aa ab)] [cc (az 7),cc ab,cc .bool] [bM .ret [(4,aa ab)] [cc (az 7),cc ab,cc .bool],bM (.exit 0) [] [cc (az 7),cc ab,cc .bool]]
def DU:=aW 207 [aa (az 10),.c (.fn 231 [0,1,2])] (aa ab) [Ae] [cc (az 7),cc ab,cc .bool] [cc (az 7),cc ab,cc .bool]
def DV:=aW 166 [aa (az 10),.c (.fn 231 [0,1,2])] (aa .bool) [] [cc (az 7),cc ab,cc .bool] [cc (az 7),cc ab,cc .bool]
def Bs:=aW 203 [.row 12,aa ab,aa (az 10),aa .bool] (aa .bool)
def Pt:=bU 0 [(3,aa .bool),(4,ar 0 0),(6,ar 1 0),(9,ar 2 0),(111,aa (az 11)),(112,aa ab),(113,aa ab)] [cc (az 7),.bk 10,.box [.hole ab,.hole .str,.hole ab,.hole ab,.hole ab,.hole (az 8),.hole (az 9),.hole ab,.hole ab,.hole .bool]] [e1 8 .bool,bM (.exit 1) [(3,aa .bool),(4,ar 0 0),(6,ar 1 0),(9,ar 2 0)] [cc (az 7),.box [.hole ab,.hole .bool,.hole ab,.hole .str,.hole ab,.hole (az 10),.hole (az 10),.hole (az 11)],.box [.hole ab,.hole .str,.hole ab,.hole ab,.hole ab,.hole (az 8),.hole (az 9),.hole ab,.hole ab,.hole .bool]]]
def zu:=bU 1 [(3,aa .bool),(4,ar 0 0),(6,ar 1 0),(150,aa (az 9)),(151,aa ab),(152,aa ab)] [cc (az 7),.box [.hole ab,.hole .bool,.hole ab,.hole .str,.hole ab,.hole (az 10),.hole (az 10),.hole (az 11)]] [e1 8 .bool,gG 3]
def Pu:=bU 2 [(3,aa .bool),(4,ar 0 0),(6,ar 1 0),(9,ar 2 0),(20,aa ab)] [cc (az 7),.bk 10,.box [.hole ab,.hole .str,.hole ab,.hole ab,.hole ab,.hole (az 8),.hole (az 9),.hole ab,.hole ab,.hole .bool]] [e1 8 .bool,bM (.exit 5) [(3,aa .bool),(4,ar 0 0),(6,ar 1 0),(9,ar 2 0)] [cc (az 7),.bk 10,.box [.hole ab,.hole .str,.hole ab,.hole ab,.hole ab,.hole (az 8),.hole (az 9),.hole ab,.hole ab,.hole .bool]]]
def sn:=aW 164 [.row 12,aa ab,.row 10,aa .bool] (aa .bool) [Pt,zu,Pu]
def Qe:=aW 130 [.row 12,aa ab,.row 10] (aa .bool)
def RB:=aW 92 [.row 12,aa ab,.row 10] (aa ab)
def Qf:=aW 131 [.row 7,.row 10] (aa .bool)
def Qn:=aW 167 [.row 10,ar 0 0,ar 1 0] (aa .bool) [] [cc (az 7),.bk 7] [cc (az 7),.bk 7]
def MW:=bU 0 [(0,aa (az 10)),(1,.c (.fn 167 [0,1])),(7,aa ab),(8,aa ab)] [cc (az 7),.bk 7] [bM .ret [(4,aa ab)] [cc (az 7),.bk 7],bM (.exit 0) [] [cc (az 7),.bk 7]]
def Pv:=aW 207 [aa (az 10),.c (.fn 167 [0,1])] (aa ab) [MW] [cc (az 7),.bk 7] [cc (az 7),.bk 7]
def Pw:=aW 166 [aa (az 10),.c (.fn 167 [0,1])] (aa .bool) [] [cc (az 7),.bk 7] [cc (az 7),.bk 7]
def Qg:=aW 132 [.row 12,.row 7,.row 10] (aa .bool)
def Px:=bU 0 [(2,ar 0 0),(3,ar 1 0),(5,.c (.arr 2)),(11,aa ab),(12,aa ab)] [.bk 7,.bk 10,.arr (.nm 16)] [bM (.exit 0) [(5,.c (.arr 0))] [.arr (.nm 16)]] [] [(.slot 5,.nm 16)]
def Qh:=aW 133 [.row 7,.row 10] (aa (az 16)) [Px]
def zv:=bU 0 [(3,ar 0 0),(5,ar 1 0),(6,ar 2 0),(9,ar 3 0),(49,aa (az 16)),(50,aa ab),(51,aa ab)] [cc (az 7),.bk 10,.box [.hole ab,.hole .bool,.hole ab,.hole .str,.hole ab,.aB,.aB,.aB],.box [.hole ab,.hole .bool,.hole ab,.hole .str,.hole ab,.arr 4,.arr 5,.aB],.arr (.nm 10),.arr (.nm 10)] [bM .ret [(6,ar 0 0),(7,aa .bool)] [.box [.hole ab,.hole .bool,.hole ab,.hole .str,.hole ab,.aB,.aB,.aB]],bM (.exit 0) [(6,ar 0 0),(9,ar 1 0)] [.box [.hole ab,.hole .bool,.hole ab,.hole .str,.hole ab,.aB,.aB,.aB],.box [.hole ab,.hole .bool,.hole ab,.hole .str,.hole ab,.arr 2,.arr 3,.aB],.arr (.nm 10),.arr (.nm 10)]] [] [(.via 9 6,.nm 10)]
def xq:=aW 141 [.row 12,aa ab,.row 10] (.aY [.row 10,aa .bool]) [zv]
def Bf:=aW 106 [.row 12,aa ab,.row 10] (.aY [.row 10,aa ab])
def Qt:=aW 180 [.row 12,aa ab] (aa ab)
def Qu:=aW 181 [.row 12,aa ab,.row 10] (aa .bool)
def Qk:=aW 142 [.row 12,aa ab,.row 10,.row 12,aa ab] (aa ab)
def Qv:=aW 182 [ar 0 0] (.aY [.row 10,aa .bool]) [] [.box [.hole (az 7),.hole (az 7),.arr 1,.hole bJ],.arr ab] [.box [.hole (az 7),.hole (az 7),.arr 2,.arr 3],.gone,.arr ab,.arr ab]
def QQ:=aW 218 [ar 0 0,aa ab] (.aY [.row 10,aa .bool]) [] [.box [.hole (az 7),.hole (az 7),.arr 1,.hole bJ],.arr ab] [.box [.hole (az 7),.hole (az 7),.arr 2,.arr 3],.gone,.arr ab,.arr ab]
def Au:=bU 0 [(1,ar 0 0),(2,ar 1 0),(20,.c (.arr 2)),(21,aa ab),(22,aa ab)] [.box [.hole ab,.hole .bool,.hole ab,.hole .str,.hole ab,.arr 2,.arr 3,.arr 4],.box [.hole ab,.hole .bool,.hole ab,.hole .str,.hole ab,.aB,.aB,.aB],.arr (.nm 10),.arr (.nm 10),.arr (.nm 11)] [bM (.exit 0) [(1,ar 0 0),(2,ar 1 0)] [.box [.hole ab,.hole .bool,.hole ab,.hole .str,.hole ab,.arr 2,.arr 3,.arr 4],.box [.hole ab,.hole .bool,.hole ab,.hole .str,.hole ab,.aB,.aB,.aB],.arr (.nm 10),.arr (.nm 10),.arr (.nm 11)]]
def Ax:=bU 1 [(1,ar 0 0),(2,ar 1 0),(35,.c (.arr 2)),(36,aa ab),(37,aa ab)] [.box [.hole ab,.hole .bool,.hole ab,.hole .str,.hole ab,.arr 3,.arr 2,.arr 4],.box [.hole ab,.hole .bool,.hole ab,.hole .str,.hole ab,.aB,.aB,.aB],.arr (.nm 10),.arr (.nm 10),.arr (.nm 11)] [bM (.exit 2) [(1,ar 0 0),(2,ar 1 0)] [.box [.hole ab,.hole .bool,.hole ab,.hole .str,.hole ab,.arr 2,.arr 3,.arr 4],.box [.hole ab,.hole .bool,.hole ab,.hole .str,.hole ab,.aB,.aB,.aB],.arr (.nm 10),.arr (.nm 10),.arr (.nm 11)]]
def u0:=aW 219 [.row 10] (.row 10) [Au,Ax]
def u1:=aW 220 [ar 0 0,aa ab,aa ab,.row 10,aa ab] (.aY [.row 10,aa .bool]) [] [.box [.hole (az 7),.hole (az 7),.arr 1,.hole bJ],.arr ab] [.box [.hole (az 7),.hole (az 7),.arr 2,.hole bJ],.gone,.arr ab]
def Af:=bU 0 [(1,aa (az 10)),(2,.c (.fn 64 [])),(15,aa (az 10)),(16,aa ab),(17,aa ab)] [] [e1 6 .bool,gG 0]
def DW:=aW 104 [aa (az 10),aa (az 10),.c (.fn 64 [])] (aa .bool) [Af]
def xA:=aW 64 [.row 10,.row 10] (aa .bool)
def QS:=aW 221 [.row 9,.row 10] (aa .bool)
def Py:=bU 0 [(0,aa (.int .u64)),(3,ar 0 0),(4,aa ab)] [.arr (.int .u8)] [bM (.exit 0) [(0,aa (.int .u64)),(3,ar 0 0),(4,aa ab)] [.arr (.int .u8)]]
def QW:=aW 228 [aa (.int .u64)] (aa .str) [Py]
def QA:=aW 192 [aa .str] (aa .str)
def QU:=aW 224 [aa ab,aa .bool,aa .str] (aa .str)
def Ra:=aW 246 [aa ab,aa .bool,aa .str] (.aY [aa .str,aa ab])
def Rb:=aW 247 [aa .str] (aa .str)
def Qw:=aW 186 [.row 12,aa ab] (aa ab)
def Ql:=aW 144 [.row 12,aa ab,.row 10] (aa ab)
def Pz:=bU 0 [(0,aa (.int .u64)),(3,ar 0 0),(4,aa ab)] [.arr (.int .u8)] [bM (.exit 0) [(3,ar 0 0),(4,aa ab)] [.arr (.int .u8)]]
def Qx:=aW 187 [aa (.int .u64)] (aa .str) [Pz]
def QT:=aW 223 [.row 9,.row 10] (aa .bool)
def Qz:=aW 191 [ar 0 0,aa .str] (.aY [aa ab,.c (.dead)]) [] [.b8 252 ((.cI 1)),.buf 5] [.b8 252 ((.cI 2)),.gone,.buf 5]
def QB:=aW 193 [ar 0 0] (aa .str) [] [.b8 252 ((.cI 1)),.buf 5] [.b8 252 ((.cI 1)),.gone]
def AA:=bU 0 [(0,ar 0 0),(3,aa ab),(6,ar 1 0),(9,.c (.arr 2)),(18,aa (az 9)),(19,aa ab),(20,aa ab)] [.box [.hole (az 7),.hole ab],.bk 10,.arr (.nm 17)] [bM (.exit 0) [(6,ar 1 0),(9,.c (.arr 2))] [.box [.hole (az 7),.hole ab],.bk 10,.arr (.nm 17)]] [] [(.slot 9,.nm 17)]
def PA:=bU 1 [(9,.c (.arr 1)),(57,aa (az 11)),(58,aa ab),(59,aa ab)] [.box [.hole (az 7),.hole ab],.arr (.nm 17)] [bM (.exit 2) [(9,.c (.arr 1))] [.box [.hole (az 7),.hole ab],.arr (.nm 17)]]
def PB:=bU 2 [(14,ar 1 0),(77,.c (.arr 2)),(78,aa ab),(79,aa ab)] [.box [.hole (az 7),.hole ab],.b8 252 ((.cI 3)),.arr (.nm 17),.buf 5] [bM (.exit 4) [(14,ar 1 0)] [.box [.hole (az 7),.hole ab],.b8 252 ((.cI 2)),.buf 5]]
def Bq:=aW 189 [ar 0 0,.row 7,.row 10,aa ab] (aa .str) [AA,PA,PB] [.box [.hole (az 7),.hole ab]] [.box [.hole (az 7),.hole ab]]
def Br:=aW 190 [ar 0 0,.row 7,.row 10,aa ab] (aa .str) [] [.box [.hole (az 7),.hole ab]] [.box [.hole (az 7),.hole ab]]
def AB:=bU 0 [(0,ar 0 0),(3,aa ab),(6,ar 1 0),(9,ar 2 0),(10,ar 3 0),(84,aa (az 10)),(85,aa ab),(86,aa ab)] [.box [.hole (az 7),.hole ab],.bk 10,.bk 7,.b8 252 ((.cI 4)),.buf 5] [bM (.exit 1) [(10,ar 1 0)] [.box [.hole (az 7),.hole ab],.b8 252 ((.cI 2)),.buf 5]]
def qt:=aW 145 [ar 0 0,aa ab,.row 10,aa ab] (aa .str) [AB] [.box [.hole (az 7),.hole ab]] [.box [.hole (az 7),.hole ab]]
def Bh:=aW 108 [.row 12,aa ab,.row 10] (.aY [aa .str,aa ab])
def AD:=bU 0 [(3,ar 0 0),(5,ar 1 0),(8,aa .str),(36,aa (az 9)),(37,aa ab),(38,aa ab)] [cc (az 7),.bk 10] [bM (.exit 1) [(8,aa .str)]]
def AE:=bU 1 [(3,ar 0 0),(7,ar 1 0),(8,aa .str),(101,aa (az 10)),(102,aa ab),(103,aa ab)] [cc (az 7),.bk 7] [bM (.exit 3) [(8,aa .str)]]
def AF:=bU 2 [(3,ar 0 0),(5,ar 1 0),(7,ar 2 0),(8,aa .str),(118,aa (az 10)),(119,aa ab),(120,aa ab)] [cc (az 7),.bk 10,.bk 7] [bM (.exit 5) [(8,aa .str)]]
def qu:=aW 222 [.row 12,aa ab,.row 10] (aa .str) [AD,AE,AF]
def AH:=bU 0 [(0,ar 0 0),(5,ar 2 0),(6,ar 3 0),(7,ar 4 0),(8,ar 5 0),(10,ar 6 0),(25,aa (az 9)),(26,aa ab),(27,aa ab)] [.box [.hole (az 7),.hole (az 7),.arr 7,.hole bJ],.gone,.bk 7,.bk 10,.bk 7,.box [.hole ab,.hole .bool,.hole ab,.hole .str,.hole ab,.aB,.aB,.aB],.box [.hole ab,.hole .bool,.hole ab,.hole .str,.hole ab,.aB,.arr 8,.aB],.arr ab,.arr (.nm 10)] [bM .ret [(8,ar 2 0),(9,aa .bool)] [.box [.hole (az 7),.hole (az 7),.arr 3,.hole bJ],.gone,.bk 10,.arr ab],bM (.exit 0) [(0,ar 0 0),(5,ar 2 0),(6,ar 3 0),(7,ar 4 0),(8,ar 5 0),(10,ar 6 0)] [.box [.hole (az 7),.hole (az 7),.arr 7,.hole bJ],.gone,.bk 7,.bk 10,.bk 7,.box [.hole ab,.hole .bool,.hole ab,.hole .str,.hole ab,.aB,.aB,.aB],.box [.hole ab,.hole .bool,.hole ab,.hole .str,.hole ab,.aB,.arr 8,.aB],.arr ab,.arr (.nm 10)]] [] [(.via 10 6,.nm 10)]
def PC:=bU 1 [(0,ar 0 0),(6,ar 2 0),(7,ar 3 0),(8,ar 4 0),(10,ar 5 0),(115,aa (az 9)),(116,aa ab),(117,aa ab)] [.box [.hole (az 7),.hole (az 7),.arr 6,.hole bJ],.gone,.bk 10,.bk 7,.box [.hole ab,.hole .bool,.hole ab,.hole .str,.hole ab,.aB,.aB,.aB],.box [.hole ab,.hole .bool,.hole ab,.hole .str,.hole ab,.aB,.arr 7,.arr 8],.arr ab,.arr (.nm 10),.arr (.nm 11)] [bM .ret [(8,ar 2 0),(9,aa .bool)] [.box [.hole (az 7),.hole (az 7),.arr 3,.arr 4],.gone,.bk 10,.arr ab,.arr ab],bM (.exit 2) [(8,ar 2 0),(10,ar 3 0)] [.box [.hole (az 7),.hole (az 7),.arr 4,.hole bJ],.gone,.box [.hole ab,.hole .bool,.hole ab,.hole .str,.hole ab,.aB,.aB,.aB],.box [.hole ab,.hole .bool,.hole ab,.hole .str,.hole ab,.aB,.arr 5,.arr 6],.arr ab,.arr (.nm 10),.arr (.nm 11)]] [] [(.via 10 7,.nm 11)]
def Bn:=aW 183 [ar 0 0,.row 7,.row 10,.row 7] (.aY [.row 10,aa .bool]) [AH,PC] [.box [.hole (az 7),.hole (az 7),.arr 1,.hole bJ],.arr ab] [.box [.hole (az 7),.hole (az 7),.arr 2,.hole bJ],.gone,.arr ab]
def Bo:=aW 184 [ar 0 0,.row 7,.row 10,.row 7] (.aY [.row 10,aa .bool]) [] [.box [.hole (az 7),.hole (az 7),.arr 1,.hole bJ],.arr ab] [.box [.hole (az 7),.hole (az 7),.arr 2,.hole bJ],.gone,.arr ab]
def AI:=bU 0 [(0,ar 0 0),(1,aa ab),(3,aa ab),(10,.c (.arr 2)),(15,aa (az 10)),(16,aa ab),(17,aa ab)] [.box [.hole (az 7),.hole (az 7),.arr 3,.hole bJ],.gone,.arr (.nm 10),.arr ab] [bM .ret [(8,.c (.aB)),(9,aa .bool)] [.box [.hole (az 7),.hole (az 7),.arr 2,.hole bJ],.gone,.arr ab],bM (.exit 0) [(10,.c (.arr 2))] [.box [.hole (az 7),.hole (az 7),.arr 3,.hole bJ],.gone,.arr (.nm 10),.arr ab]] [] [(.slot 10,.nm 10)]
def Bp:=aW 185 [ar 0 0,aa ab,aa (az 10),aa ab] (.aY [aa (az 10),aa .bool]) [AI] [.box [.hole (az 7),.hole (az 7),.arr 1,.hole bJ],.arr ab] [.box [.hole (az 7),.hole (az 7),.arr 2,.hole bJ],.gone,.arr ab]
def xr:=aW 143 [ar 0 0,aa ab,.row 10,aa ab] (.aY [.row 10,aa .bool]) [] [.box [.hole (az 7),.hole (az 7),.arr 1,.hole bJ],.arr ab] [.box [.hole (az 7),.hole (az 7),.arr 2,.hole bJ],.gone,.arr ab]
def Bg:=aW 107 [.row 12,aa ab,.row 10,.row 12,aa ab] (.aY [.row 10,aa ab])
def E5:=aW 66 [.row 13,.row 13,aa .str] (.aY [.row 18,aa ab])
def E0:=aW 42 [.row 13,.row 13,aa .str] (.aY [.row 18,aa ab])
def nq:=aW 12 [.row 13,.row 13,aa .str] (.aY [aa .str,aa ab])
def aeM:=aW 136 [.row 11,ar 0 0] (aa .bool) [] [.bk 9] [.bk 9]
def acI:=bU 0 [(0,aa (az 11)),(1,.c (.fn 136 [0])),(7,aa ab),(8,aa ab)] [.bk 9] [bM .ret [(4,aa ab)] [.bk 9],bM (.exit 0) [] [.bk 9]]
def ae8:=aW 168 [aa (az 11),.c (.fn 136 [0])] (aa ab) [acI] [.bk 9] [.bk 9]
def aeL:=aW 135 [aa (az 11),.c (.fn 136 [0])] (aa .bool) [] [.bk 9] [.bk 9]
def afS:=aW 99 [aa bJ,aa ab] (aa bJ)
def afR:=bU 0 [(0,ar 0 0),(5,aa bJ),(7,ar 2 0),(8,ar 3 0),(10,ar 4 0),(18,aa (az 9)),(19,aa ab),(20,aa ab)] [.box [.hole (az 7),.hole (az 7),.arr 5],.gone,.bk 7,.bk 10,.bk 10,.arr bJ] [bM (.exit 0) [] [.box [.hole (az 7),.hole (az 7),.arr 2],.gone,.arr bJ]]
def afQ:=aW 97 [ar 0 0,.row 7,.row 10,.row 7,.row 10,aa bJ] (.aY []) [afR] [.box [.hole (az 7),.hole (az 7),.arr 1],.arr bJ] [.box [.hole (az 7),.hole (az 7),.arr 2],.gone,.arr bJ]
def afv:=bU 0 [(0,ar 0 0),(5,aa bJ),(8,ar 2 0),(10,ar 3 0),(12,ar 4 0),(13,ar 5 0),(39,aa ab),(40,aa ab)] [.box [.hole (az 7),.hole (az 7),.arr 6],.gone,.bk 10,.bk 10,.bk 7,.bk 7,.arr bJ] [bM (.exit 1) [] [.box [.hole (az 7),.hole (az 7),.arr 2],.gone,.arr bJ]]
def E2:=aW 60 [ar 0 0,aa ab,.row 10,aa ab,.row 10,aa bJ] (.aY []) [afv] [.box [.hole (az 7),.hole (az 7),.arr 1],.arr bJ] [.box [.hole (az 7),.hole (az 7),.arr 2],.gone,.arr bJ]
def Q6:=aW 24 [.row 13,.row 13,aa .str] (.aY [aa (.slice bJ),aa ab])
def abT:=bU 0 [(3,aa bJ),(4,ar 1 0),(6,ar 2 0),(10,.c (.arr 3)),(39,aa (az 16)),(40,aa ab),(41,aa ab)] [.gone,cc (az 7),.bk 10,.arr bJ] [bM (.exit 0) [(10,.c (.arr 1))] [.gone,.arr bJ]] [] [(.slot 10,bJ)]
def afO:=aW 93 [.row 12,aa ab,.row 10,.c (.arr 0)] (aa (.slice bJ)) [abT] [.arr ab] [.gone]
def abU:=bU 0 [(3,aa bJ),(4,ar 0 0),(6,ar 1 0),(10,.c (.arr 2)),(39,aa (az 16)),(40,aa ab),(41,aa ab)] [cc (az 7),.bk 10,.arr bJ] [bM (.exit 0) [(10,.c (.arr 0))] [.arr bJ]] [] [(.slot 10,bJ)]
def afP:=aW 93 [.row 12,aa ab,.row 10,aa bJ] (aa (.slice bJ)) [abU]
def E1:=aW 58 [.row 12,aa ab,.row 10] (.aY [aa (.slice bJ),aa ab])
def QR:=aW 22 [.row 13,.row 13,aa .str] (.aY [aa (.slice bJ),aa ab])
def Rs:=bU 0 [(0,aa bJ),(1,aa bJ),(5,aa ab)] [] [e1 4 .bool,gG 0]
def Rr:=aW 62 [aa bJ,aa bJ] (aa .bool) [Rs]
def Ri:=bU 0 [(0,aa (.slice bJ)),(1,aa (.slice bJ)),(5,aa ab)] [] [e1 4 .bool,gG 0]
def Rh:=aW 26 [aa (.slice bJ),aa (.slice bJ)] (aa .bool) [Ri]
def EU:=aW 11 [] (aa .bool)
def aeX:=aW 154 [.row 7] (.row 7)
def afb:=aW 195 [.row 9,.row 9] (aa .bool)
def OT:=bU 0 [(2,ar 0 0),(3,ar 1 0),(5,aa ab)] [.bk 7,.bk 7] [e1 4 .bool,bM (.exit 0) [(2,ar 0 0),(3,ar 1 0)] [.bk 7,.bk 7]]
def OU:=bU 1 [(2,ar 0 0),(3,ar 1 0),(6,aa ab)] [.bk 7,.bk 7] [e1 4 .bool,gG 2]
def aeW:=aW 153 [.row 7,.row 7] (aa .bool) [OT,OU]
def afc:=aW 196 [aa (.int .u8)] (aa .bool)
def afd:=aW 197 [aa (.int .u8)] (aa .bool)
def OV:=bU 0 [(0,aa .str),(3,aa ab)] [] [e1 2 .bool,gG 0]
def aeY:=aW 155 [aa .str] (aa .bool) [OV]
def afe:=aW 198 [aa ab,aa ab] (aa .bool)
def L9:=bU 0 [(0,aa (az 8)),(4,aa ab),(5,aa ab)] [] [e1 2 .bool,bM (.exit 2) [(0,aa (az 8)),(4,aa ab)]]
def OW:=bU 0 [(0,aa (az 8)),(3,aa ab),(4,aa ab)] [] [e1 2 .bool,bM (.exit 0) [(0,aa (az 8))]] [L9]
def aeZ:=aW 156 [aa (az 8)] (aa .bool) [OW]
def Ma:=bU 0 [(0,aa (az 9)),(1,aa .bool),(6,aa ab),(7,ar 0 0),(8,aa ab)] [.bk 9] [e1 4 .bool,bM (.exit 2) [(0,aa (az 9)),(1,aa .bool),(6,aa ab),(7,ar 0 0)] [.bk 9]]
def OX:=bU 0 [(0,aa (az 9)),(1,aa .bool),(5,aa ab),(6,aa ab)] [] [e1 4 .bool,bM (.exit 0) [(0,aa (az 9)),(1,aa .bool)]] [Ma]
def ae0:=aW 157 [aa (az 9),aa .bool] (aa .bool) [OX]
def aeA:=aW 113 [.row 7] (aa .bool)
def OY:=bU 0 [(1,ar 0 0),(3,.c (.arr 1)),(4,aa ab)] [.bk 7,.arr ab] [bM (.exit 0) [(1,ar 0 0),(3,.c (.arr 1))] [.bk 7,.arr ab]] [] [(.slot 3,ab)]
def aeB:=aW 114 [.row 7] (aa bJ) [OY]
def Nr:=bU 0 [(1,ar 0 0),(3,aa ab),(4,ar 1 0),(5,aa ab)] [cc (az 7),.box [.hole ab,.hole .str,.hole ab,.hole ab,.hole ab,.hole (az 8),.hole (az 9),.hole ab,.hole ab,.hole .bool]] [e1 2 ab,bM (.exit 2) [(1,ar 0 0),(3,aa ab),(4,ar 1 0)] [cc (az 7),.box [.hole ab,.hole .str,.hole ab,.hole ab,.hole ab,.hole (az 8),.hole (az 9),.hole ab,.hole ab,.hole .bool]]]
def MX:=bU 1 [(1,ar 0 0),(3,aa ab),(4,ar 1 0),(6,aa bJ),(7,aa ab)] [cc (az 7),.box [.hole ab,.hole .str,.hole ab,.hole ab,.hole ab,.hole (az 8),.hole (az 9),.hole ab,.hole ab,.hole .bool]] [e1 2 ab,bM (.exit 4) [(1,ar 0 0),(3,aa ab),(4,ar 1 0)] [cc (az 7),.box [.hole ab,.hole .str,.hole ab,.hole ab,.hole ab,.hole (az 8),.hole (az 9),.hole ab,.hole ab,.hole .bool]]]
def Rx:=bU 0 [(1,ar 0 0),(3,aa ab)] [cc (az 7)] [e1 2 ab,gG 0] [Nr,MX]
def afG:=aW 79 [.row 12] (aa ab) [Rx]
def afD:=aW 75 [.row 12,aa ab] (aa ab)
def afM:=aW 87 [aa bJ,aa ab] (.row 19)
def OZ:=bU 0 [(0,aa .str),(4,aa (.int .u64)),(5,aa ab)] [] [bM (.exit 0) [(4,aa (.int .u64))]]
def ae1:=aW 158 [aa .str] (.aY [aa (.int .u64),aa ab]) [OZ]
def aeD:=aW 116 [aa .str] (.aY [aa (.int .u64),aa .bool])
def aeE:=aW 117 [aa (.int .u64)] (aa ab)
def aeF:=aW 118 [aa bJ,aa ab] (aa bJ)
def O0:=bU 0 [(0,aa .str),(5,aa (.int .u64)),(6,aa (.int .u64)),(7,aa ab)] [] [bM .ret [(2,aa (.int .u64)),(3,aa ab),(4,aa ab)],gG 0]
def aff:=aW 199 [aa .str] (.aY [aa (.int .u64),aa ab,aa ab]) [O0]
def ae2:=aW 159 [aa .str] (.aY [aa ab,aa .str,aa ab])
def aeG:=aW 123 [.row 10] (.row 19)
def EV:=aW 119 [.row 12,.row 7,aa .str,aa ab,aa bJ] (.row 19)
def afg:=aW 200 [aa .str] (.aY [aa .str,aa .str,aa .bool])
def O1:=bU 0 [(0,aa .str),(4,.c (.arr 0))] [.arr .str] [bM .ret [(2,.c (.aB)),(3,aa ab)],bM (.exit 0) [(4,.c (.arr 0))] [.arr .str]] [] [(.slot 4,.str)]
def ae4:=aW 160 [aa .str] (.aY [aa jm,aa ab]) [O1]
def AJ:=bU 0 [(3,aa ab),(4,aa bJ),(5,ar 0 0),(6,ar 1 0),(10,ar 2 0),(11,aa jm),(13,ar 3 0),(14,aa ab)] [cc (az 7),.bk 7,.box [.hole ab,.hole .bool,.hole ab,.hole .str,.hole ab,.aB,.aB,.aB,.aB,.hole ab,.hole .bool],.box [.hole ab,.hole .bool,.hole ab,.hole .str,.hole ab,.aB,.arr 4,.aB],.arr (.nm 10)] [bM .ret [(10,ar 0 0)] [.bk 19],bM (.exit 0) [(10,ar 0 0),(13,ar 1 0)] [.box [.hole ab,.hole .bool,.hole ab,.hole .str,.hole ab,.aB,.aB,.aB,.aB,.hole ab,.hole .bool],.box [.hole ab,.hole .bool,.hole ab,.hole .str,.hole ab,.aB,.arr 2,.aB],.arr (.nm 10)]] [] [(.via 13 6,.nm 10)]
def EW:=aW 120 [.row 12,.row 7,aa .str,aa ab,aa bJ] (.row 19) [AJ]
def AK:=bU 0 [(3,aa ab),(4,aa bJ),(5,ar 0 0),(6,ar 1 0),(10,ar 2 0),(11,aa jm),(13,ar 3 0),(14,aa ab)] [cc (az 7),.bk 7,.box [.hole ab,.hole .bool,.hole ab,.hole .str,.hole ab,.aB,.aB,.aB,.aB,.hole ab,.hole .bool],.box [.hole ab,.hole .bool,.hole ab,.hole .str,.hole ab,.arr 4,.aB,.aB],.arr (.nm 10)] [bM .ret [(10,ar 0 0)] [.bk 19],bM (.exit 0) [(3,aa ab),(4,aa bJ),(5,ar 0 0),(6,ar 1 0),(10,ar 2 0),(11,aa jm),(13,ar 3 0)] [cc (az 7),.bk 7,.box [.hole ab,.hole .bool,.hole ab,.hole .str,.hole ab,.aB,.aB,.aB,.aB,.hole ab,.hole .bool],.box [.hole ab,.hole .bool,.hole ab,.hole .str,.hole ab,.arr 4,.aB,.aB],.arr (.nm 10)]] [] [(.via 13 5,.nm 10)]
def O2:=bU 1 [(3,aa ab),(4,aa bJ),(5,ar 0 0),(6,ar 1 0),(10,ar 2 0),(11,aa jm),(13,ar 3 0),(16,aa ab)] [cc (az 7),.bk 7,.box [.hole ab,.hole .bool,.hole ab,.hole .str,.hole ab,.aB,.aB,.aB,.aB,.hole ab,.hole .bool],.box [.hole ab,.hole .bool,.hole ab,.hole .str,.hole ab,.arr 4,.aB,.aB],.arr (.nm 10)] [bM .ret [(10,ar 0 0)] [.bk 19],bM (.exit 2) [(3,aa ab),(4,aa bJ),(5,ar 0 0),(6,ar 1 0),(10,ar 2 0),(11,aa jm),(13,ar 3 0)] [cc (az 7),.bk 7,.box [.hole ab,.hole .bool,.hole ab,.hole .str,.hole ab,.aB,.aB,.aB,.aB,.hole ab,.hole .bool],.box [.hole ab,.hole .bool,.hole ab,.hole .str,.hole ab,.arr 4,.aB,.aB],.arr (.nm 10)]]
def An:=bU 2 [(3,aa ab),(4,aa bJ),(5,ar 0 0),(6,ar 1 0),(10,ar 2 0),(11,aa jm),(13,ar 3 0),(17,aa ab)] [cc (az 7),.bk 7,.box [.hole ab,.hole .bool,.hole ab,.hole .str,.hole ab,.aB,.aB,.aB,.aB,.hole ab,.hole .bool],.box [.hole ab,.hole .bool,.hole ab,.hole .str,.hole ab,.arr 4,.arr 5,.aB],.arr (.nm 10),.arr (.nm 10)] [bM .ret [(10,ar 0 0)] [.bk 19],bM (.exit 4) [(10,ar 0 0),(13,ar 1 0)] [.box [.hole ab,.hole .bool,.hole ab,.hole .str,.hole ab,.aB,.aB,.aB,.aB,.hole ab,.hole .bool],.box [.hole ab,.hole .bool,.hole ab,.hole .str,.hole ab,.arr 2,.arr 3,.aB],.arr (.nm 10),.arr (.nm 10)]] [] [(.via 13 6,.nm 10)]
def EX:=aW 121 [.row 12,.row 7,aa .str,aa ab,aa bJ] (.row 19) [AK,O2,An]
def O3:=bU 0 [(0,aa .str),(4,.c (.arr 0)),(5,aa ab)] [.arr (.nm 14)] [bM .ret [(2,.c (.aB)),(3,aa ab)],bM (.exit 0) [(4,.c (.arr 0))] [.arr (.nm 14)]] [] [(.slot 4,.nm 14)]
def ae5:=aW 161 [aa .str] (.aY [aa (az 14),aa ab]) [O3]
def O4:=bU 0 [(0,aa (az 14)),(1,aa ab),(5,aa ab)] [] [e1 4 ab,gG 0]
def ae6:=aW 162 [aa (az 14),aa ab] (aa ab) [O4]
def Ao:=bU 0 [(3,aa ab),(4,aa bJ),(5,ar 0 0),(6,ar 1 0),(10,ar 2 0),(11,aa (az 14)),(13,ar 3 0),(14,aa ab)] [cc (az 7),.bk 7,.box [.hole ab,.hole .bool,.hole ab,.hole .str,.hole ab,.aB,.aB,.aB,.aB,.hole ab,.hole .bool],.box [.hole ab,.hole .bool,.hole ab,.hole .str,.hole ab,.aB,.arr 4,.aB],.arr (.nm 10)] [bM .ret [(10,ar 0 0)] [.bk 19],bM (.exit 0) [(4,aa bJ),(6,ar 0 0),(10,ar 1 0),(11,aa (az 14)),(13,ar 2 0)] [.bk 7,.box [.hole ab,.hole .bool,.hole ab,.hole .str,.hole ab,.aB,.aB,.aB,.aB,.hole ab,.hole .bool],.box [.hole ab,.hole .bool,.hole ab,.hole .str,.hole ab,.aB,.arr 3,.aB],.arr (.nm 10)]] [] [(.via 13 6,.nm 10)]
def O5:=bU 1 [(4,aa bJ),(6,ar 0 0),(10,ar 1 0),(11,aa (az 14)),(13,ar 2 0),(18,aa ab)] [.bk 7,.box [.hole ab,.hole .bool,.hole ab,.hole .str,.hole ab,.aB,.aB,.aB,.aB,.hole ab,.hole .bool],.box [.hole ab,.hole .bool,.hole ab,.hole .str,.hole ab,.aB,.arr 3,.arr 4],.arr (.nm 10),.arr (.nm 11)] [bM .ret [(10,ar 0 0)] [.bk 19],bM (.exit 2) [(10,ar 0 0),(13,ar 1 0)] [.box [.hole ab,.hole .bool,.hole ab,.hole .str,.hole ab,.aB,.aB,.aB,.aB,.hole ab,.hole .bool],.box [.hole ab,.hole .bool,.hole ab,.hole .str,.hole ab,.aB,.arr 2,.arr 3],.arr (.nm 10),.arr (.nm 11)]] [] [(.via 13 7,.nm 11)]
def EY:=aW 122 [.row 12,.row 7,aa .str,aa ab,aa bJ] (.row 19) [Ao,O5]
def oV:=aW 88 [.row 12,aa ab,aa .str,aa ab,aa bJ] (.row 19)
def afn:=aW 48 [.row 12,aa ab,aa .str] (.aY [.row 19,aa ab])
def ae9:=aW 17 [.row 12,aa ab,aa .str] (.aY [.row 10,aa ab])
def aeH:=aW 124 [.row 10] (aa .bool)
def aeI:=aW 125 [aa ab,aa .bool] (aa .bool)
def O6:=bU 0 [(1,aa (az 11)),(2,ar 0 0),(5,aa ab)] [.bk 7] [e1 4 .bool,gG 0]
def aeJ:=aW 126 [.row 7,aa (az 11)] (aa .bool) [O6]
def Ap:=bU 0 [(1,aa ab),(2,aa (az 10)),(3,aa .bool),(4,ar 0 0),(9,aa ab)] [cc (az 7)] [e1 8 .bool,gG 0]
def EZ:=aW 127 [.row 12,aa ab,aa (az 10),aa .bool] (aa .bool) [Ap]
def xG:=bU 0 [(3,aa .bool),(4,ar 0 0),(6,ar 1 0),(9,ar 2 0),(12,aa ab)] [cc (az 7),.bk 10,.box [.hole ab,.hole .str,.hole ab,.hole ab,.hole ab,.hole (az 8),.hole (az 9),.hole ab,.hole ab,.hole .bool]] [e1 8 .bool,gG 1]
def RA:=bU 1 [(6,ar 0 0),(15,aa ab)] [.bk 10] [e1 8 .bool,gG 3]
def u2:=aW 91 [.row 12,aa ab,.row 10,aa .bool] (aa .bool) [xG,RA]
def afH:=aW 80 [.row 12,aa ab,.row 10] (aa .bool)
def afl:=aW 44 [.row 12,aa ab,.row 10] (aa ab)
def afu:=aW 57 [.row 12,aa ab,.row 10] (aa .bool)
def afm:=aW 46 [.row 12,aa ab,.row 10,.row 12,aa ab] (aa ab)
def afI:=aW 81 [aa bJ] (.row 20)
def afL:=aW 86 [.row 10] (.row 20)
def afK:=aW 85 [aa bJ,aa ab] (aa bJ)
def E6:=aW 83 [.row 12,.row 7,.row 10,.row 12,.row 7,aa bJ] (.row 20)
def ae':=aW 18 [.row 10,.row 10] (aa .bool)
def aeC:=aW 115 [.row 9,.row 10] (aa .bool)
def xE:=bU 0 [(5,aa bJ),(6,ar 0 0),(7,ar 1 0),(8,ar 2 0),(9,ar 3 0),(10,ar 4 0),(12,ar 5 0),(13,ar 6 0),(14,aa ab)] [cc (az 7),.bk 7,.bk 10,cc (az 7),.bk 7,.box [.hole ab,.hole .bool,.hole ab,.hole .str,.hole ab,.aB,.aB,.aB,.aB,.hole .bool],.box [.hole ab,.hole .bool,.hole ab,.hole .str,.hole ab,.aB,.arr 7,.aB],.arr (.nm 10)] [bM .ret [(12,ar 0 0)] [.bk 20],bM (.exit 0) [(5,aa bJ),(6,ar 0 0),(7,ar 1 0),(8,ar 2 0),(10,ar 3 0),(12,ar 4 0),(13,ar 5 0)] [cc (az 7),.bk 7,.bk 10,.bk 7,.box [.hole ab,.hole .bool,.hole ab,.hole .str,.hole ab,.aB,.aB,.aB,.aB,.hole .bool],.box [.hole ab,.hole .bool,.hole ab,.hole .str,.hole ab,.aB,.arr 6,.aB],.arr (.nm 10)]] [] [(.via 13 6,.nm 10)]
def Rz:=bU 1 [(5,aa bJ),(6,ar 0 0),(7,ar 1 0),(8,ar 2 0),(10,ar 3 0),(12,ar 4 0),(13,ar 5 0),(20,aa ab)] [cc (az 7),.bk 7,.bk 10,.bk 7,.box [.hole ab,.hole .bool,.hole ab,.hole .str,.hole ab,.aB,.aB,.aB,.aB,.hole .bool],.box [.hole ab,.hole .bool,.hole ab,.hole .str,.hole ab,.aB,.arr 6,.arr 7],.arr (.nm 10),.arr (.nm 11)] [bM .ret [(12,ar 0 0)] [.bk 20],bM (.exit 2) [(12,ar 0 0),(13,ar 1 0)] [.box [.hole ab,.hole .bool,.hole ab,.hole .str,.hole ab,.aB,.aB,.aB,.aB,.hole .bool],.box [.hole ab,.hole .bool,.hole ab,.hole .str,.hole ab,.aB,.arr 2,.arr 3],.arr (.nm 10),.arr (.nm 11)]] [] [(.via 13 7,.nm 11)]
def E7:=aW 84 [.row 12,.row 7,.row 10,.row 12,.row 7,aa bJ] (.row 20) [xE,Rz]
def xy:=bU 0 [(5,aa bJ),(6,ar 0 0),(8,ar 1 0),(9,ar 2 0),(12,ar 3 0),(13,ar 4 0),(14,ar 5 0),(17,ar 6 0),(18,aa ab)] [cc (az 7),.bk 10,cc (az 7),.box [.hole ab,.hole .bool,.hole ab,.hole .str,.hole ab,.aB,.aB,.aB,.aB,.hole .bool],.bk 7,.bk 7,.box [.hole ab,.hole .bool,.hole ab,.hole .str,.hole ab,.arr 7,.aB,.hole (az 11)],.arr (.nm 10)] [bM .ret [(12,ar 0 0)] [.bk 20],bM (.exit 0) [(5,aa bJ),(6,ar 0 0),(8,ar 1 0),(9,ar 2 0),(12,ar 3 0),(13,ar 4 0),(14,ar 5 0),(17,ar 6 0)] [cc (az 7),.bk 10,cc (az 7),.box [.hole ab,.hole .bool,.hole ab,.hole .str,.hole ab,.aB,.aB,.aB,.aB,.hole .bool],.bk 7,.bk 7,.box [.hole ab,.hole .bool,.hole ab,.hole .str,.hole ab,.arr 7,.aB,.hole (az 11)],.arr (.nm 10)]] [] [(.via 17 5,.nm 10)]
def xz:=bU 1 [(5,aa bJ),(6,ar 0 0),(8,ar 1 0),(9,ar 2 0),(12,ar 3 0),(13,ar 4 0),(14,ar 5 0),(17,ar 6 0),(20,aa ab)] [cc (az 7),.bk 10,cc (az 7),.box [.hole ab,.hole .bool,.hole ab,.hole .str,.hole ab,.aB,.aB,.aB,.aB,.hole .bool],.bk 7,.bk 7,.box [.hole ab,.hole .bool,.hole ab,.hole .str,.hole ab,.arr 7,.arr 8,.hole (az 11)],.arr (.nm 10),.arr (.nm 10)] [bM .ret [(12,ar 0 0)] [.bk 20],bM (.exit 2) [(12,ar 0 0),(17,ar 1 0)] [.box [.hole ab,.hole .bool,.hole ab,.hole .str,.hole ab,.aB,.aB,.aB,.aB,.hole .bool],.box [.hole ab,.hole .bool,.hole ab,.hole .str,.hole ab,.arr 2,.arr 3,.hole (az 11)],.arr (.nm 10),.arr (.nm 10)]] [] [(.via 17 6,.nm 10)]
def sr:=aW 47 [.row 12,aa ab,.row 10,.row 12,aa ab,aa bJ] (.row 20) [xy,xz]
def ae3:=aW 16 [.row 12,aa ab,.row 10,.row 12,aa ab] (.aY [.row 10,aa ab])
def xx:=bU 0 [(3,ar 0 0),(5,ar 1 0),(7,ar 2 0),(8,aa ab),(9,aa ab)] [cc (az 7),.bk 10,.bk 7] [bM (.exit 0) [(5,ar 0 0),(8,aa ab)] [.bk 10]]
def Bu:=aW 45 [.row 12,aa ab,.row 10] (aa ab) [xx]
def aeS:=aW 15 [.row 12,aa ab,.row 10] (.aY [aa .str,aa ab])
def dh:=aW 3 [.row 0] (aa .bool)
def gx:=aW 4 [.row 1] (aa .bool)
def jW:=aW 5 [.row 0] (aa .bool)
def Bx:=aW 7 [.row 0] (aa .bool)
def oU:=aW 6 [.row 0] (aa .bool)
def afN:=bU 0 [(5,ar 0 0),(6,ar 1 0),(9,.c (.arr 2)),(39,aa jm),(40,aa ab),(41,aa ab)] [.bk 13,.bk 13,.arr .str] [e1 4 .bool,bM (.exit 0) [(5,ar 0 0),(6,ar 1 0),(9,.c (.arr 2))] [.bk 13,.bk 13,.arr .str]]
def e8:=aW 8 [.row 0,aa jm] (aa .bool) [afN]
def ahb:List ey:=[Rl,Rm,Q5,Qc,DT,xw,Q8,Q7,QK,Q1,Q2,QH,Q3,QI,Q4,QJ,Qo,Qp,Bi,ET]
def ahc:List ey:=[E3,Qq,Qr,Qs,QG,QF,Qm,oT,Rg,Q9,QL,Qj,Qi,RC,Bj,Q',QM,Bk,Qy,Re]
def ahd:List ey:=[QY,Rc,QV,Rf,Q0,QZ,QE,Bl,QN,QP,QO,uZ,Bm,xp,Qb,Bw,Qd,QX,QC,QD]
def ahe:List ey:=[Bt,DU,DV,Bs,sn,Qe,RB,Qf,Qn,Pv,Pw,Qg,Qh,xq,Bf,Qt,Qu,Qk,Qv,QQ]
def ahf:List ey:=[u0,u1,DW,xA,QS,QW,QA,QU,Ra,Rb,Qw,Ql,Qx,QT,Qz,QB,Bq,Br,qt,Bh]
def ahg:List ey:=[qu,Bn,Bo,Bp,xr,Bg,E5,E0,nq,aeM,ae8,aeL,afS,afQ,E2,Q6,afO,afP,E1,QR]
def ahh:List ey:=[Rr,Rh,EU]
def rX:List ey:=ahb++ahc++ahd++ahe++ahf++ahg++ahh
theorem tU:rX.all (ui prog)=true:=by kernel_rfl
def qL:cD cY:={Gy with F:=Ga (α:=cY.D 17) lB}
theorem tM:hf prog qL:=⟨Gz.1,λh r a=>Gz.2 h r (abj Gc _ r a)⟩
def sD(n:Int):Option aR:=
 some (⟨2,[121],1,false,true,(⟨2,false,n,[],0,[],[],[]⟩:I)⟩:aR)
theorem UL:ba Rl sD:= .bo
def sJ(l:List aR):Option dO:=
 some (⟨(⟨[(⟨5,[82],0,0,0,[],l,0,0,false⟩:ah),(⟨2,[],0,9,0,[],[],0,0,false⟩:ah),(⟨1,[],0,0,0,[],[],0,0,false⟩:ah)]⟩:aS),0⟩:dO)
theorem UC:ba Rm sJ:= .bo
def nZ:aq×aq×Int->Option ((Bool) ⊕ (Unit))
 |(a,b,i)=>
 if (i<(a.length:Int):Bool) then if aH i a.length then if aH i b.length then if !(a.getD i.toNat 0=b.getD i.toNat 0:Bool) then some (.inl false)else nZ (a,b,aM .i64 i 1)else none else none else some (.inr ())
  partial_fixpoint
theorem UM:cQ 62 0 [0] Rs nZ:= .rx nZ.partial_correctness
def rv:aq×aq->Option Bool
 |(a,b)=>
 if !((a.length:Int)=(b.length:Int):Bool) then some false else nZ (a,b,0)>>=λo=>match o with
  |.inl c=>
   some c
  |.inr e=>
   some true
theorem Vo:ba Rr rv:= .bo .n (.k UM .n)
def ri:List aq×List aq×Int->Option ((Bool) ⊕ (Unit))
 |(a,b,i)=>
 if (i<(a.length:Int):Bool) then if aH i a.length then if aH i b.length then rv (a.getD i.toNat [],b.getD i.toNat [])>>=λr=>if !r then some (.inl false)else ri (a,b,aM .i64 i 1)else none else none else some (.inr ())
  partial_fixpoint
theorem Vi:cQ 26 0 [0] Ri ri:= .rx ri.partial_correctness (.k Vo .n)
def yh:List aq×List aq->Option Bool
 |(a,b)=>
 if !((a.length:Int)=(b.length:Int):Bool) then some false else ri (a,b,0)>>=λo=>match o with
  |.inl c=>
   some c
  |.inr e=>
   some true
theorem V7:ba Rh yh:= .bo .n (.k Vi .n)
noncomputable def qM:aS->Option Int:=lp prog rX [pd,pf,pg,qL,pY,pj] 3000 Bi
theorem Wu:ba Bi qM:= .run tU (.k nY (.k nv (.k ph (.k tM (.k qI (.k sI .n)))))) (.m (by kernel_rfl)) 3000 λ_=>rfl
noncomputable def vi:aS×Int×aj->Option (I×Int):=lp prog rX [pd,pf,pg,qL,pY,pj] 3000 Bw
theorem WK:ba Bw vi:= .run tU (.k nY (.k nv (.k ph (.k tM (.k qI (.k sI .n)))))) (.m (by kernel_rfl)) 3000 λ_=>rfl
noncomputable def C6:aS×Int×I->Option (I×Int):=lp prog rX [pd,pf,pg,qL,pY,pj] 3000 Bf
theorem XA:ba Bf C6:= .run tU (.k nY (.k nv (.k ph (.k tM (.k qI (.k sI .n)))))) (.m (by kernel_rfl)) 3000 λ_=>rfl
noncomputable def yi:aS×Int×I×aS×Int->Option (I×Int):=lp prog rX [pd,pf,pg,qL,pY,pj] 3000 Bg
theorem V8:ba Bg yi:= .run tU (.k nY (.k nv (.k ph (.k tM (.k qI (.k sI .n)))))) (.m (by kernel_rfl)) 3000 λ_=>rfl
noncomputable def vj:aS×Int×I->Option (aj×Int):=lp prog rX [pd,pf,pg,qL,pY,pj] 3000 Bh
theorem WL:ba Bh vj:= .run tU (.k nY (.k nv (.k ph (.k tM (.k qI (.k sI .n)))))) (.m (by kernel_rfl)) 3000 λ_=>rfl
noncomputable def GF:aS×Int×I->Option (List aq×Int):=lp prog rX [pd,pf,pg,qL,pY,pj] 3000 E1
theorem XB:ba E1 GF:= .run tU (.k nY (.k nv (.k ph (.k tM (.k qI (.k sI .n)))))) (.m (by kernel_rfl)) 3000 λ_=>rfl
noncomputable def Gq:Int×I×Int×I×aq×List ah×List ah×List aq->Option (List ah×List ah×List aq):=lp prog rX [pd,pf,pg,qL,pY,pj] 3000 E2
theorem Vj:ba E2 Gq:= .run tU (.k nY (.k nv (.k ph (.k tM (.k qI (.k sI .n)))))) (.m (by kernel_rfl)) 3000 λ_=>rfl
noncomputable def vk (r:dO):Option Int:=
 qM r.cX>>=λa=>if !(a=0:Bool) then some a
 else if(bif (r.av<0:Bool)then true else ((r.cX.Types.length:Int)<=r.av:Bool)) then some 4
  else some 0
theorem WM:ba ET vk:= .bo (.k Wu .n)
noncomputable def mz (b:List dO×Int×Int):Option ((Int) ⊕ (Unit)):=
 match b with
 |(t6,a,t8)=>
 if (t8<a:Bool) then if aH t8 t6.length then vk (t6.getD t8.toNat I4)>>=λr=>if !(r=0:Bool) then some (.inl r)
   else mz (t6,a,aM .i64 t8 1)
  else none
 else some (.inr ())
  partial_fixpoint
theorem VO:cQ 65 0 [0] E4 mz:= .rx mz.partial_correctness (.k WM .n)
noncomputable def vl (l:List dO):Option Int:=
 mz (l,(l.length:Int),0)>>=λo=>match o with
 |.inl a=>
  some a
 |.inr b=>
  some 0
theorem WN:ba E3 vl:= .bo .n (.k VO .n)
noncomputable def sN (g:dO×dO×aj):Option (eW×Int):=
 match g with
 |(w,r,m)=>
 vi (w.cX,w.av,m)>>=λa=>if !(a.2=0:Bool) then some ((⟨(⟨0,false,0,[],0,[],[],[]⟩:I),(⟨0,false,0,[],0,[],[],[]⟩:I),[]⟩:eW),12)
 else C6 (w.cX,w.av,I.eta a.1)>>=λe=>if !(e.2=0:Bool) then some ((⟨(⟨0,false,0,[],0,[],[],[]⟩:I),(⟨0,false,0,[],0,[],[],[]⟩:I),[]⟩:eW),12)
  else yi (w.cX,w.av,I.eta e.1,r.cX,r.av)>>=λf=>if !(f.2=0:Bool) then some ((⟨(⟨0,false,0,[],0,[],[],[]⟩:I),(⟨0,false,0,[],0,[],[],[]⟩:I),[]⟩:eW),12)
   else vj (w.cX,w.av,I.eta a.1)>>=λc=>if !(c.2=0:Bool) then some ((⟨(⟨0,false,0,[],0,[],[],[]⟩:I),(⟨0,false,0,[],0,[],[],[]⟩:I),[]⟩:eW),3)
    else vi (r.cX,r.av,c.1)>>=λb=>if !(b.2=0:Bool) then some ((⟨(⟨0,false,0,[],0,[],[],[]⟩:I),(⟨0,false,0,[],0,[],[],[]⟩:I),[]⟩:eW),12)
     else vj (r.cX,r.av,I.eta b.1)>>=λd=>if !(d.2=0:Bool) then some ((⟨(⟨0,false,0,[],0,[],[],[]⟩:I),(⟨0,false,0,[],0,[],[],[]⟩:I),[]⟩:eW),3)
      else some ((⟨I.eta a.1,I.eta b.1,d.1⟩:eW),0)
theorem V9:ba E5 sN:= .bo (.k WK (.k XA (.k V8 (.k WL .n))))
noncomputable def qT (c:dO×dO×aj):Option (eW×Int):=
 match c with
 |(w,r,m)=>
 vl [w,r]>>=λb=>if !(b=0:Bool) then some ((⟨(⟨0,false,0,[],0,[],[],[]⟩:I),(⟨0,false,0,[],0,[],[],[]⟩:I),[]⟩:eW),b)
 else sN (w,r,m)>>=λa=>some ((⟨I.eta a.1.v,I.eta a.1.u,a.1.message⟩:eW),a.2)
theorem G5:ba E0 qT:= .bo (.k WN (.k V9 .n))
noncomputable def pV (b:dO×dO×aj):Option (aj×Int):=
 match b with
 |(w,r,m)=>
 qT (w,r,m)>>=λa=>some (a.1.message,a.2)
theorem Vr:ba nq pV:= .bo (.k G5 .n)
noncomputable def x2 (c:dO×dO×aj):Option (List aq×Int):=
 match c with
 |(w,r,m)=>
 qT (w,r,m)>>=λa=>if !(a.2=0:Bool) then some ([],a.2)
 else Gq (w.av,I.eta a.1.v,r.av,I.eta a.1.u,[],w.cX.Types,r.cX.Types,[])>>=λb=>some (b.2.2,0)
theorem WO:ba Q6 x2:= .bo (.k G5 (.k Vj .n))
noncomputable def zm (c:dO×dO×aj):Option (List aq×Int):=
 match c with
 |(w,r,m)=>
 qT (w,r,m)>>=λa=>if !(a.2=0:Bool) then some ([],a.2)
 else GF (r.cX,r.av,I.eta a.1.u)>>=λb=>some (b.1,b.2)
theorem Wv:ba QR zm:= .bo (.k G5 (.k XB .n))
noncomputable def Cn (_:Unit):Option Bool:=
 sD 3>>=λr=>sJ [(⟨1,[120],1,false,false,(⟨0,false,0,[],0,[],[],[]⟩:I)⟩:aR),(⟨r.ad,r.Name,r.av,r.cf,r.bZ,I.eta r.bu⟩:aR)]>>=λe=>sD 3>>=λc=>sJ [(⟨c.ad,c.Name,c.av,c.cf,c.bZ,I.eta c.bu⟩:aR),(⟨4,[122],2,false,true,(⟨1,true,0,[],0,[],[],[]⟩:I)⟩:aR)]>>=λo=>pV (e,o,[2,1,10])>>=λg=>sD 3>>=λd=>sJ [(⟨d.ad,d.Name,d.av,d.cf,d.bZ,I.eta d.bu⟩:aR),(⟨4,[122],2,false,true,(⟨1,true,0,[],0,[],[],[]⟩:I)⟩:aR)]>>=λp=>x2 (e,p,[2,1,10])>>=λi=>sD 3>>=λa=>sJ [(⟨a.ad,a.Name,a.av,a.cf,a.bZ,I.eta a.bu⟩:aR),(⟨4,[122],2,false,true,(⟨1,true,0,[],0,[],[],[]⟩:I)⟩:aR)]>>=λj=>zm (e,j,[2,1,10])>>=λf=>sD 4>>=λb=>sJ [(⟨b.ad,b.Name,b.av,b.cf,b.bZ,I.eta b.bu⟩:aR),(⟨4,[122],2,false,true,(⟨1,true,0,[],0,[],[],[]⟩:I)⟩:aR)]>>=λk=>pV (e,k,[2,1,10])>>=λl=>some (bif bif bif bif decide (g.2=0)then decide (i.2=0)else false then decide (f.2=0)else false then decide (l.2=12)else false then decide (g.1=[2,1,10])else false)>>=λt76=>(if t76 then yh (i.1,[[4]])else some false)>>=λm=>some (bif t76 then m else false)>>=λt82=>(if t82 then yh (f.1,[[]])else some false)>>=λn=>some (bif t82 then n else false)
theorem VP:ba EU Cn:= .bo (.k UL (.k UC (.k Vr (.k WO (.k Wv (.k V7 .n))))))
def iI(n:Int):aR:=⟨2,[121],1,false,true,⟨2,false,n,[],0,[],[],[]⟩⟩
def uU:aR:=⟨1,[120],1,false,false,⟨0,false,0,[],0,[],[],[]⟩⟩
def sf:aR:=⟨4,[122],2,false,true,⟨1,true,0,[],0,[],[],[]⟩⟩
def gb(l:List aR):dO:=⟨⟨[⟨5,[82],0,0,0,[],l,0,0,false⟩,⟨2,[],0,9,0,[],[],0,0,false⟩,⟨1,[],0,0,0,[],[],0,0,false⟩]⟩,0⟩
def oQ:I:=⟨5,false,0,[],0,[],[⟨2,false,5,[],0,[],[],[]⟩,⟨2,false,3,[],0,[],[],[]⟩],[]⟩
def se:I:=⟨5,false,0,[],0,[],[⟨2,false,3,[],0,[],[],[]⟩,⟨1,true,0,[],0,[],[],[]⟩],[⟨1,[10]⟩]⟩
def gU:dO:=gb [uU,iI 3]
def iX:dO:=gb [iI 3,sf]
def sd:dO:=gb [iI 4,sf]
theorem acJ(n:Int):sD n=some (iI n):=rfl
theorem acK(l:List aR):sJ l=some (gb l):=rfl
theorem aep(n:Int):(⟨(iI n).ad,(iI n).Name,(iI n).av,(iI n).cf,(iI n).bZ,(iI n).bu⟩:aR)=iI n:=rfl
theorem aeo:(⟨1,[120],1,false,false,(⟨0,false,0,[],0,[],[],[]⟩:I)⟩:aR)=uU:=rfl
theorem aeq:(⟨4,[122],2,false,true,(⟨1,true,0,[],0,[],[],[]⟩:I)⟩:aR)=sf:=rfl
theorem P2:qM gU.cX=some 0:=by kernel_rfl
theorem aej:qM iX.cX=some 0:=by kernel_rfl
theorem aek:qM sd.cX=some 0:=by kernel_rfl
theorem PX:vi (gU.cX,gU.av,[2,1,10])=some (oQ,0):=by kernel_rfl
theorem ad5:vi (iX.cX,iX.av,[2,1,10])=some (se,0):=by kernel_rfl
theorem P0:C6 (gU.cX,gU.av,oQ)=some (oQ,0):=by kernel_rfl
theorem aeh:yi (gU.cX,gU.av,oQ,iX.cX,iX.av)=some (se,0):=by kernel_rfl
theorem aei:yi (gU.cX,gU.av,oQ,sd.cX,sd.av)=some (⟨0,false,0,[],0,[],[],[]⟩,12):=by kernel_rfl
theorem ad6:vj (gU.cX,gU.av,oQ)=some ([2,1,10],0):=by kernel_rfl
theorem ad7:vj (iX.cX,iX.av,se)=some ([2,1,10],0):=by kernel_rfl
theorem aeg:GF (iX.cX,iX.av,se)=some ([[]],0):=by kernel_rfl
theorem ad2:Gq (gU.av,oQ,iX.av,se,[],gU.cX.Types,iX.cX.Types,[])=some (gU.cX.Types,iX.cX.Types,[[4]]):=by kernel_rfl
theorem P3{l:List aR}(h:qM (gb l).cX=some 0):vk (gb l)=some 0:=by
 rw[vk,h];rfl
theorem P5{l m:List aR}(h1:qM (gb l).cX=some 0)(b:qM (gb m).cX=some 0):vl [gb l,gb m]=some 0:=by
 have a:mz ([gb l,gb m],2,2)=some (.inr ()):=by rw[mz];rfl
 have aI:mz ([gb l,gb m],2,1)=some (.inr ()):=by
  rw[mz,ae (by decide),ae (by rfl)];show(vk (gb m)>>=_)=_;rw[P3 b];exact a
 have cW:mz ([gb l,gb m],2,0)=some (.inr ()):=by
  rw[mz,ae (by decide),ae (by rfl)];show(vk (gb l)>>=_)=_;rw[P3 h1];exact aI
 rw[vl];show(mz ([gb l,gb m],2,0)>>=_)=_;rw[cW];rfl
def xn(gd:aS×Int×aj->Option (I×Int))(gs:aS×Int×I->Option (I×Int))(u5:aS×Int×I×aS×Int->Option (I×Int))(ge:aS×Int×I->Option (aj×Int))(g:dO×dO×aj):Option (eW×Int):=
 match g with
 |(w,r,m)=>
 gd (w.cX,w.av,m)>>=λa=>if !(a.2=0:Bool) then some ((⟨(⟨0,false,0,[],0,[],[],[]⟩:I),(⟨0,false,0,[],0,[],[],[]⟩:I),[]⟩:eW),12)else gs (w.cX,w.av,I.eta a.1)>>=λe=>if !(e.2=0:Bool) then some ((⟨(⟨0,false,0,[],0,[],[],[]⟩:I),(⟨0,false,0,[],0,[],[],[]⟩:I),[]⟩:eW),12)else u5 (w.cX,w.av,I.eta e.1,r.cX,r.av)>>=λf=>if !(f.2=0:Bool) then some ((⟨(⟨0,false,0,[],0,[],[],[]⟩:I),(⟨0,false,0,[],0,[],[],[]⟩:I),[]⟩:eW),12)else ge (w.cX,w.av,I.eta a.1)>>=λc=>if !(c.2=0:Bool) then some ((⟨(⟨0,false,0,[],0,[],[],[]⟩:I),(⟨0,false,0,[],0,[],[],[]⟩:I),[]⟩:eW),3)else gd (r.cX,r.av,c.1)>>=λb=>if !(b.2=0:Bool) then some ((⟨(⟨0,false,0,[],0,[],[],[]⟩:I),(⟨0,false,0,[],0,[],[],[]⟩:I),[]⟩:eW),12)else ge (r.cX,r.av,I.eta b.1)>>=λd=>if !(d.2=0:Bool) then some ((⟨(⟨0,false,0,[],0,[],[],[]⟩:I),(⟨0,false,0,[],0,[],[],[]⟩:I),[]⟩:eW),3)else some ((⟨I.eta a.1,I.eta b.1,d.1⟩:eW),0)
theorem P':sN=xn vi C6 yi vj:=rfl
section
variable {gd:aS×Int×aj->Option (I×Int)}{gs:aS×Int×I->Option (I×Int)}{u5:aS×Int×I×aS×Int->Option (I×Int)}{ge:aS×Int×I->Option (aj×Int)}{A B:dO}{m o:aj}{v u w:I}
theorem acL (h1:gd (A.cX,A.av,m)=some (v,0))(a:gs (A.cX,A.av,v)=some (v,0))(b:u5 (A.cX,A.av,v,B.cX,B.av)=some (w,0))(c:ge (A.cX,A.av,v)=some (m,0))
 (bb:gd (B.cX,B.av,m)=some (u,0))(d:ge (B.cX,B.av,u)=some (o,0)):xn gd gs u5 ge (A,B,m)=some (⟨v,u,o⟩,0):=by
 unfold xn;simp[h1,a,b,c,bb,d,I.aU]
theorem acM(h1:gd (A.cX,A.av,m)=some (v,0))(a:gs (A.cX,A.av,v)=some (v,0))(b:u5 (A.cX,A.av,v,B.cX,B.av)=some (w,12)):
 xn gd gs u5 ge (A,B,m)=some (⟨⟨0,false,0,[],0,[],[],[]⟩,⟨0,false,0,[],0,[],[],[]⟩,[]⟩,12):=by
 unfold xn;simp[h1,a,b,I.aU]
theorem R5{e:Int}(h1:go [A,B]=some 0)(c:gc (A,B,m)=some (⟨v,u,o⟩,e)):
 (go [A,B]>>=λb=>if !(b=0:Bool) then some ((⟨(⟨0,false,0,[],0,[],[],[]⟩:I),(⟨0,false,0,[],0,[],[],[]⟩:I),[]⟩:eW),b)
  else gc (A,B,m)>>=λa=>some ((⟨I.eta a.1.v,I.eta a.1.u,a.1.message⟩:eW),a.2))=some (⟨v,u,o⟩,e):=by
 rw[h1];simp[c,I.aU]
end
theorem ad3:sN (gU,iX,[2,1,10])=some (⟨oQ,se,[2,1,10]⟩,0):=by
 rw[P'];exact acL PX P0 aeh ad6 ad5 ad7
theorem ad4:sN (gU,sd,[2,1,10])=some (⟨⟨0,false,0,[],0,[],[],[]⟩,⟨0,false,0,[],0,[],[],[]⟩,[]⟩,12):=by
 rw[P'];exact acM PX P0 aei
theorem EL:qT (gU,iX,[2,1,10])=some (⟨oQ,se,[2,1,10]⟩,0):=by
 have h:vl [gU,iX]=some 0:=P5 P2 aej;rw[qT];exact R5 (gc:=sN) h ad3
theorem ael:qT (gU,sd,[2,1,10])=some (⟨⟨0,false,0,[],0,[],[],[]⟩,⟨0,false,0,[],0,[],[],[]⟩,[]⟩,12):=by
 have h:vl [gU,sd]=some 0:=P5 P2 aek;rw[qT];exact R5 (gc:=sN) h ad4
theorem ad8:pV (gU,iX,[2,1,10])=some ([2,1,10],0):=by rw[pV,EL];rfl
theorem ad9:pV (gU,sd,[2,1,10])=some ([],12):=by rw[pV,ael];rfl
theorem ad':x2 (gU,iX,[2,1,10])=some ([[4]],0):=by
 rw[x2,EL];simp[ad2,I.aU]
theorem aea:zm (gU,iX,[2,1,10])=some ([[]],0):=by
 rw[zm,EL];simp[aeg,I.aU]
theorem aen:rv ([4],[4])=some true:=by
 have h1:nZ ([4],[4],1)=some (.inr ()):=by rw[nZ];rfl
 have h0:nZ ([4],[4],0)=some (.inr ()):=by
  rw[nZ];exact h1
 rw[rv,h0];rfl
theorem aem:rv ([],[])=some true:=by
 have h0:nZ ([],[],0)=some (.inr ()):=by rw[nZ];rfl
 rw[rv,h0];rfl
theorem P4{p:aq}(a:rv (p,p)=some true):yh ([p],[p])=some true:=by
 have h1:ri ([p],[p],1)=some (.inr ()):=by rw[ri];rfl
 have h0:ri ([p],[p],0)=some (.inr ()):=by
  rw[ri,ae (by rfl),ae (by rfl),ae (by rfl)];show(rv (p,p)>>=_)=_;rw[a];exact h1
 rw[yh,h0];rfl
theorem aao:Cn ()=some true:=by
 have a:pV (gb [uU,iI 3],gb [iI 3,sf],[2,1,10])=_:=ad8;have b:pV (gb [uU,iI 3],gb [iI 4,sf],[2,1,10])=_:=ad9;have c:x2 (gb [uU,iI 3],gb [iI 3,sf],[2,1,10])=_:=ad';have d:zm (gb [uU,iI 3],gb [iI 3,sf],[2,1,10])=_:=aea;unfold Cn;simp only[aT,ao,acJ,acK,I.aU,aep,aeo,aeq];rw[a,c,d,b];simp only[ao,dp,ev,bS];rw[P4 aen];simp only[ao,ev,bS];rw[P4 aem];rfl
def yj(_:Unit):Option Bool:=some true
theorem Vs:ba EU yj:=by
 have:Cn=yj:=by funext x;exact aao
 rw[<-this];exact VP
theorem UN:yj ()=some true:=rfl
def ry:et×Int->Option Int
 |(d,i)=>
 if aH i d.ej.length then some (aM .i64 1 (bY .i64 (b' (d.ej.getD i.toNat bt).Kind 9)))else none
theorem x8:ba afw ry:= .bo
def j'(a:Int):Option Bool:=
 some (bif bif decide (a=4)then true else decide (a=5)then true else decide (a=6))
theorem Gs:ba afx j':= .bo
def pZ(a:dx):Option Int:=
 some (dj .i64 (bY .i64 (b' a.A 7)) 3)
theorem GV:ba afy pZ:= .bo
def sV(a:dx):Option Int:=
 pZ a>>=λr=>some (aM .i64 r (bY .i64 (b' a.B 6)))
theorem SZ:ba afz sV:= .bo (.k GV .n)
def pT:Int×dx×aq->Option aq
 |(i,b,a)=>
 if (i<6:Bool) then if (0<=i:Bool) then if (b' (lA .u8 b.A i) 2=1:Bool) then some [aM .i64 i 1]>>=λt18=>if room 8 (a++t18).length then pT (aM .i64 i 1,b,a++t18)else none else pT (aM .i64 i 1,b,a)else none else some a
  partial_fixpoint
theorem VQ:cQ 72 0 [0] Rt pT:= .rx pT.partial_correctness
def nC(a:dx):Option aq:=
 pT (0,a,[])>>=λo=>if ((o.length:Int)=0:Bool) then some [1]>>=λt24=>if room 8 (o++t24).length then some (o++t24)else none else some o
theorem S4:ba afA nC:= .bo .n (.k VQ .n)
def x9(a:Int):Option Bool:=
 some (decide (7<=a))
theorem SN:ba aeO x9:= .bo
def nV:Int×Int×List dx->Option ((Int) ⊕ (Unit))
 |(n,k,b)=>
 if (k<n:Bool) then ry ((⟨b⟩:et),k)>>=λa=>x9 a>>=λc=>if c then some (.inl k)else nV (n,aM .i64 k 1,b)else some (.inr ())
  partial_fixpoint
theorem U6:cQ 109 0 [0] NT nV:= .rx nV.partial_correctness (.k x8 (.k SN .n))
def x'(c:et×Int×Int):Option Int:=
 match c with
 |(d,i,code)=>
 some (d.ej.length:Int)>>=λt12=>if !(t12=0:Bool) then some (b' (bY .i64 code) t12)>>=λt16=>ry (d,t16)>>=λr=>x9 r>>=λb=>if(bif b then true else (t16<i:Bool)) then some t16 else if (0<i:Bool) then if !(i=0:Bool) then some (b' t16 i)else none else nV (t12,0,d.ej)>>=λo=>match o with
 |.inl a=>
 some a
 |.inr e=>
 some (-1)else none
theorem VR:ba aex x':= .bo (.k x8 (.k SN .n)) (.k U6 .n)
def yT(a:Int):Option Bool:=
 some (bif decide (1<=a)then decide (a<=4)else false)
theorem SL:ba aez yT:= .bo
def nw:Int×Int×Int×List dx->Option ((Int) ⊕ (Unit))
 |(a,n,k,b)=>
 if (k<n:Bool) then if !(n=0:Bool) then some (b' (aM .i64 (bY .i64 a) k) n)>>=λt21=>ry ((⟨b⟩:et),t21)>>=λr=>yT r>>=λc=>if c then some (.inl t21)else nw (a,n,aM .i64 k 1,b)else none else some (.inr ())
  partial_fixpoint
theorem VS:cQ 74 0 [0] Rv nw:= .rx nw.partial_correctness (.k x8 (.k SL .n))
def tL(b:et×Int):Option Int:=
 match b with
 |(d,code)=>
 nw (code,(d.ej.length:Int),0,d.ej)>>=λo=>match o with
 |.inl a=>
 some a
 |.inr c=>
 some (-1)
theorem S5:ba afC tL:= .bo .n (.k VS .n)
def x3:et×Int×Int->Option (I×Bool)
 |(d,t,code)=>
 if aH t d.ej.length then some (d.ej.getD t.toNat bt)>>=λa=>ry (d,t)>>=λr=>some (decide (r=8))>>=λt21=>(if t21 then tL (d,0)else some 0)>>=λc=>if(bif t21 then (c<0:Bool)else false) then some ((⟨7,false,0,[],0,[],[],[]⟩:I),true)else if (r=1:Bool) then some ((⟨r,decide (b' code 2=1),0,[],0,[],[],[]⟩:I),true)else if (r=2:Bool) then pZ a>>=λe=>sV a>>=λf=>pZ a>>=λg=>some (aM .i64 (dj .i64 f g) 1)>>=λt47=>if !(t47=0:Bool) then some ((⟨r,false,aM .i64 e (b' (bY .i64 code) t47),[],0,[],[],[]⟩:I),true)else none else if (r=3:Bool) then if(bif (0<b' a.A 4:Bool)then (b' code 2=1:Bool)else false) then some ((⟨r,false,0,[97],0,[],[],[]⟩:I),true)else some ((⟨r,false,0,[],0,[],[],[]⟩:I),true)else if (r=4:Bool) then nC a>>=λb=>nC a>>=λi=>some (i.length:Int)>>=λt71=>if !(t71=0:Bool) then some (b' (bY .i64 code) t71)>>=λt72=>if aH t72 b.length then some ((⟨r,false,0,[],b.getD t72.toNat 0,[],[],[]⟩:I),true)else none else none else some (decide (r=5))>>=λt77=>if t77 then if t77 then some ((⟨0,false,0,[],0,[],[],[]⟩:I),false)else some ((⟨r,false,0,[],0,[],[],[]⟩:I),true)else if (r=6:Bool) then some ((⟨0,false,0,[],0,[],[],[]⟩:I),false)else some ((⟨r,false,0,[],0,[],[],[]⟩:I),true)else none
theorem UO:ba aey x3:= .bo (.k x8 (.k S5 (.k GV (.k SZ (.k S4 .n)))))
def re:Int×Bool×Int×Int×List dx×dx×List aR->Option (Int×Bool×Int×List dx×dx×List aR)
 |(f,e,a,k,c,d,b)=>
 if (k<(d.c1.length:Int):Bool) then if aH k d.c1.length then some (d.c1.getD k.toNat je)>>=λg=>x' ((⟨c⟩:et),f,g.av)>>=λr=>if(bif (!(aM .i64 1 (bY .i64 (b' g.ad 12))=a:Bool))then true else (r<0:Bool)) then re (f,e,a,aM .i64 k 1,c,d,b)else some (mL (bY .i32 (aM .i64 97 a)))>>=λt55=>if ([109].length+t55.length<=eC:Bool) then some ([109]++t55)>>=λt56=>if(bif e then (b' g.hd 4=1:Bool)else false) then if(bif e then (2<=b' g.hd 4:Bool)else false) then x3 ((⟨c⟩:et),r,fC .u8 g.hd 4)>>=λi=>some [(⟨a,t56,r,true,i.2,I.eta i.1⟩:aR)]>>=λt87=>if room 160 (b++t87).length then some (f,e,a,c,d,b++t87)else none else some [(⟨a,t56,r,true,false,(⟨0,false,0,[],0,[],[],[]⟩:I)⟩:aR)]>>=λl=>if room 160 (b++l).length then some (f,e,a,c,d,b++l)else none else if(bif e then (2<=b' g.hd 4:Bool)else false) then x3 ((⟨c⟩:et),r,fC .u8 g.hd 4)>>=λj=>some [(⟨a,t56,r,false,j.2,I.eta j.1⟩:aR)]>>=λm=>if room 160 (b++m).length then some (f,e,a,c,d,b++m)else none else some [(⟨a,t56,r,false,false,(⟨0,false,0,[],0,[],[],[]⟩:I)⟩:aR)]>>=λn=>if room 160 (b++n).length then some (f,e,a,c,d,b++n)else none else none else none else some (f,e,a,c,d,b)
  partial_fixpoint
theorem T2:cQ 73 0 [0,0] No re:= .rx re.partial_correctness (.k VR (.k UO .n))
def rj:Int×Bool×Int×List dx×dx×List aR->Option (List aR)
 |(e,f,id,c,d,b)=>
 if (id<=12:Bool) then re (e,f,id,0,c,d,b)>>=λa=>rj (a.1,a.2.1,aM .i64 a.2.2.1 1,a.2.2.2.1,a.2.2.2.2.1,a.2.2.2.2.2)else some b
  partial_fixpoint
theorem UD:cQ 73 0 [0] Ru rj:= .rx rj.partial_correctness .n (.k T2 .n)
def sO:et×Int×Bool->Option (List aR)
 |(d,i,record)=>
 if aH i d.ej.length then rj (i,record,1,d.ej,d.ej.getD i.toNat bt,[])>>=λo=>some o else none
theorem Vt:ba afB sO:= .bo .n (.k UD .n)
def pe:Int×Int×aq×Int×List dx×Int×aj×Int×Int×Int×Int×Int×Bool×List ah×List c4->Option (Int×Int×List dx×Int×aj×Int×Int×Int×Int×Int×Bool×List ah×List c4)
 |(p,o,a,k,c,d,e,f,g,i,j,l,m,n,b)=>
 if (k<(a.length:Int):Bool) then if aH k a.length then if aH k a.length then some (mL (bY .i32 (aM .i64 97 (a.getD k.toNat 0))))>>=λt87=>if ([115].length+t87.length<=eC:Bool) then some [(⟨a.getD k.toNat 0,[115]++t87⟩:c4)]>>=λt90=>if room 24 (b++t90).length then pe (p,o,a,aM .i64 k 1,c,d,e,f,g,i,j,l,m,n,b++t90)else none else none else none else none else some (p,o,c,d,e,f,g,i,j,l,m,n,b)
  partial_fixpoint
theorem UP:cQ 34 0 [0,0] Np pe:= .rx pe.partial_correctness
def fT:Int×Int×List dx×List ah->Option (List ah)
 |(n,i,b,a)=>
 if (i<n:Bool) then if aH i b.length then some (b.getD i.toNat bt)>>=λc=>ry ((⟨b⟩:et),i)>>=λr=>j' r>>=λN=>if N then some (mL (bY .i32 (aM .i64 65 i)))>>=λt41=>if (r=2:Bool) then pZ c>>=λQ=>sV c>>=λR=>some [(⟨r,t41,Q,R,0,[],[],0,0,false⟩:ah)]>>=λt167=>if room 120 (a++t167).length then fT (n,aM .i64 i 1,b,a++t167)else none else if (r=3:Bool) then some [(⟨r,t41,0,0,bY .i64 (b' c.A 4),[],[],0,0,false⟩:ah)]>>=λo=>if room 120 (a++o).length then fT (n,aM .i64 i 1,b,a++o)else none else if (r=4:Bool) then nC c>>=λS=>pe (n,i,S,0,b,r,t41,0,0,0,0,0,decide (b' c.B 2=1),a,[])>>=λd=>some [(⟨d.2.2.2.1,d.2.2.2.2.1,d.2.2.2.2.2.1,d.2.2.2.2.2.2.1,d.2.2.2.2.2.2.2.1,d.2.2.2.2.2.2.2.2.2.2.2.2,[],d.2.2.2.2.2.2.2.2.1,d.2.2.2.2.2.2.2.2.2.1,d.2.2.2.2.2.2.2.2.2.2.1⟩:ah)]>>=λD=>if room 120 (d.2.2.2.2.2.2.2.2.2.2.2.1++D).length then fT (d.1,aM .i64 d.2.1 1,d.2.2.1,d.2.2.2.2.2.2.2.2.2.2.2.1++D)else none else if (r=5:Bool) then sO ((⟨b⟩:et),i,true)>>=λT=>some [(⟨r,t41,0,0,0,[],T,0,0,false⟩:ah)]>>=λG=>if room 120 (a++G).length then fT (n,aM .i64 i 1,b,a++G)else none else if (r=6:Bool) then sO ((⟨b⟩:et),i,false)>>=λj=>if ((j.length:Int)=0:Bool) then some [(⟨5,t41,0,0,0,[],[],0,0,false⟩:ah)]>>=λH=>if room 120 (a++H).length then fT (n,aM .i64 i 1,b,a++H)else none else some [(⟨r,t41,0,0,0,[],j,0,0,decide (b' c.B 2=1)⟩:ah)]>>=λI=>if room 120 (a++I).length then fT (n,aM .i64 i 1,b,a++I)else none else if (r=7:Bool) then if !(n=0:Bool) then some [(⟨r,t41,0,0,bY .i64 (b' c.A 4),[],[],0,b' (bY .i64 c.C) n,false⟩:ah)]>>=λJ=>if room 120 (a++J).length then fT (n,aM .i64 i 1,b,a++J)else none else none else if (r=8:Bool) then some (bY .i64 (b' c.A 4))>>=λt135=>tL ((⟨b⟩:et),c.B)>>=λk=>if !(n=0:Bool) then some (b' (bY .i64 c.C) n)>>=λt144=>if (k<0:Bool) then some [(⟨7,[],0,0,t135,[],[],0,t144,false⟩:ah)]>>=λK=>if room 120 (a++K).length then fT (n,aM .i64 i 1,b,a++K)else none else some [(⟨r,t41,0,0,t135,[],[],k,t144,false⟩:ah)]>>=λL=>if room 120 (a++L).length then fT (n,aM .i64 i 1,b,a++L)else none else none else if (r=9:Bool) then if !(n=0:Bool) then some [(⟨r,t41,0,0,0,[],[],0,b' (bY .i64 c.C) n,false⟩:ah)]>>=λM=>if room 120 (a++M).length then fT (n,aM .i64 i 1,b,a++M)else none else none else some [(⟨r,t41,0,0,0,[],[],0,0,false⟩:ah)]>>=λp=>if room 120 (a++p).length then fT (n,aM .i64 i 1,b,a++p)else none else if (r=2:Bool) then pZ c>>=λU=>sV c>>=λV=>some [(⟨r,[],U,V,0,[],[],0,0,false⟩:ah)]>>=λq=>if room 120 (a++q).length then fT (n,aM .i64 i 1,b,a++q)else none else if (r=3:Bool) then some [(⟨r,[],0,0,bY .i64 (b' c.A 4),[],[],0,0,false⟩:ah)]>>=λs=>if room 120 (a++s).length then fT (n,aM .i64 i 1,b,a++s)else none else if (r=4:Bool) then nC c>>=λO=>pe (n,i,O,0,b,r,[],0,0,0,0,0,decide (b' c.B 2=1),a,[])>>=λe=>some [(⟨e.2.2.2.1,e.2.2.2.2.1,e.2.2.2.2.2.1,e.2.2.2.2.2.2.1,e.2.2.2.2.2.2.2.1,e.2.2.2.2.2.2.2.2.2.2.2.2,[],e.2.2.2.2.2.2.2.2.1,e.2.2.2.2.2.2.2.2.2.1,e.2.2.2.2.2.2.2.2.2.2.1⟩:ah)]>>=λt=>if room 120 (e.2.2.2.2.2.2.2.2.2.2.2.1++t).length then fT (e.1,aM .i64 e.2.1 1,e.2.2.1,e.2.2.2.2.2.2.2.2.2.2.2.1++t)
 else none else if (r=5:Bool) then sO ((⟨b⟩:et),i,true)>>=λP=>some [(⟨r,[],0,0,0,[],P,0,0,false⟩:ah)]>>=λu=>if room 120 (a++u).length then fT (n,aM .i64 i 1,b,a++u)else none else if (r=6:Bool) then sO ((⟨b⟩:et),i,false)>>=λf=>if ((f.length:Int)=0:Bool) then some [(⟨5,[],0,0,0,[],[],0,0,false⟩:ah)]>>=λv=>if room 120 (a++v).length then fT (n,aM .i64 i 1,b,a++v)else none else some [(⟨r,[],0,0,0,[],f,0,0,decide (b' c.B 2=1)⟩:ah)]>>=λw=>if room 120 (a++w).length then fT (n,aM .i64 i 1,b,a++w)else none else if (r=7:Bool) then if !(n=0:Bool) then some [(⟨r,[],0,0,bY .i64 (b' c.A 4),[],[],0,b' (bY .i64 c.C) n,false⟩:ah)]>>=λx=>if room 120 (a++x).length then fT (n,aM .i64 i 1,b,a++x)else none else none else if (r=8:Bool) then some (bY .i64 (b' c.A 4))>>=λl=>tL ((⟨b⟩:et),c.B)>>=λg=>if !(n=0:Bool) then some (b' (bY .i64 c.C) n)>>=λm=>if (g<0:Bool) then some [(⟨7,[],0,0,l,[],[],0,m,false⟩:ah)]>>=λy=>if room 120 (a++y).length then fT (n,aM .i64 i 1,b,a++y)else none else some [(⟨r,[],0,0,l,[],[],g,m,false⟩:ah)]>>=λz=>if room 120 (a++z).length then fT (n,aM .i64 i 1,b,a++z)else none else none else if (r=9:Bool) then if !(n=0:Bool) then some [(⟨r,[],0,0,0,[],[],0,b' (bY .i64 c.C) n,false⟩:ah)]>>=λE=>if room 120 (a++E).length then fT (n,aM .i64 i 1,b,a++E)else none else none else some [(⟨r,[],0,0,0,[],[],0,0,false⟩:ah)]>>=λF=>if room 120 (a++F).length then fT (n,aM .i64 i 1,b,a++F)else none else none else some a
  partial_fixpoint
theorem Vu:cQ 34 0 [0] Rk fT:= .rx fT.partial_correctness (.k x8 (.k Gs (.k GV (.k SZ (.k S4 (.k Vt (.k S5 .n))))))) (.k UP .n)
def qN(d:et):Option (aS×Bool):=
 some (d.ej.length:Int)>>=λt13=>if(bif (t13<1:Bool)then true else (5<t13:Bool)) then some ((⟨[]⟩:aS),false)else fT (t13,0,d.ej,[])>>=λo=>some ((⟨o⟩:aS),true)
theorem SG:ba afi qN:= .bo .n (.k Vu .n)
def jb:Int×List ah×aq×Bool->Option (Int×List ah×aq×Bool)
 |(n,b,a,c)=>
 if ((a.length:Int)=0:Bool) then some (0,b,a,c)else if aH 0 a.length then if !(n=0:Bool) then if dY 1 (a.length:Int) a.length then some (b' (bY .i64 (a.getD (0:Int).toNat 0)) n,b,ef a 1 (a.length:Int),c)else none else none else none
theorem s4:ba aeP jb:= .bo
def sZ:aj×Int×List ah×aq×Bool->Option (aj×List ah×aq×Bool)
 |(b,n,c,d,e)=>
 if (0<n:Bool) then jb (3,c,d,e)>>=λa=>some (mL (bY .i32 (aM .i64 97 a.1)))>>=λt21=>if (b.length+t21.length<=eC:Bool) then sZ (b++t21,dj .i64 n 1,a.2.1,a.2.2.1,a.2.2.2)else none else some (b,c,d,e)
  partial_fixpoint
theorem Ue:cQ 148 1 [0] NU sZ:= .rx sZ.partial_correctness (.k s4 .n)
def Cb:Int×List ah×aq×Bool->Option (aj×List ah×aq×Bool)
 |(most,b,a,c)=>
 jb (aM .i64 (ji most 3) 1,b,a,c)>>=λr=>sZ ([],r.1,r.2.1,r.2.2.1,r.2.2.2)>>=λo=>some (o.1,o.2.1,o.2.2.1,o.2.2.2)
theorem T3:ba aeQ Cb:= .bo (.k s4 .n) (.k Ue .n)
def vF:List ah×aq×Bool->Option (Bool×List ah×aq×Bool)
 |(b,c,a)=>
 if a then jb (4,b,c,a)>>=λr=>some (bif a then decide (r.1=3)else false,r.2.1,r.2.2.1,r.2.2.2)else some (bif a then false else false,b,c,a)
theorem U7:ba aeR vF:= .bo (.k s4 .n)
def o6:Int×Int×ah->Option ((Int×Bool) ⊕ (Unit))
 |(a,i,b)=>
 if (i<(b.ag.length:Int):Bool) then if aH i b.ag.length then if ((b.ag.getD i.toNat ay).ad=a:Bool) then some (.inl (i,true))else o6 (a,aM .i64 i 1,b)else none else some (.inr ())
  partial_fixpoint
theorem U8:cQ 53 0 [0] Rq o6:= .rx o6.partial_correctness
def hJ(b:ah×Int):Option (Int×Bool):=
 match b with
 |(t,id)=>
 o6 (id,0,t)>>=λo=>match o with
 |.inl a=>
 some (a.1,a.2)
 |.inr c=>
 some (0,false)
theorem my:ba afr hJ:= .bo .n (.k U8 .n)
def nW:Int×Int×ah->Option ((Int×Bool) ⊕ (Unit))
 |(a,i,b)=>
 if (i<(b.bj.length:Int):Bool) then if aH i b.bj.length then if ((b.bj.getD i.toNat dN).ad=a:Bool) then some (.inl (i,true))else nW (a,aM .i64 i 1,b)else none else some (.inr ())
  partial_fixpoint
theorem U9:cQ 82 0 [0] Ry nW:= .rx nW.partial_correctness
def sK(b:ah×Int):Option (Int×Bool):=
 match b with
 |(t,id)=>
 nW (id,0,t)>>=λo=>match o with
 |.inl a=>
 some (a.1,a.2)
 |.inr c=>
 some (0,false)
theorem Cg:ba afJ sK:= .bo .n (.k U9 .n)
def B8:ah×Int->Option Bool
 |(t,n)=>
 hJ (t,n)>>=λr=>sK (t,n)>>=λa=>some (bif r.2 then true else a.2)
theorem Vp:ba afa B8:= .bo (.k my (.k Cg .n))
def vD:Int×List ah×aq×Bool×ah->Option (Int×List ah×aq×Bool)
 |(a,b,c,d,e)=>
 B8 (e,a)>>=λf=>if f then vD (aM .i64 a 1,b,c,d,e)else some (a,b,c,d)
  partial_fixpoint
theorem Ud:cQ 150 1 [0] NV vD:= .rx vD.partial_correctness (.k Vp .n)
def q7:ah×List ah×aq×Bool->Option (Int×List ah×aq×Bool)
 |(t,b,a,c)=>
 jb (14,b,a,c)>>=λr=>vD (aM .i64 1 r.1,r.2.1,r.2.2.1,r.2.2.2,t)>>=λo=>some (o.1,o.2.1,o.2.2.1,o.2.2.2)
theorem Uf:ba aeT q7:= .bo (.k s4 .n) (.k Ud .n)
def vG:Int×List ah×aq×Bool->Option (bX×List ah×aq×Bool)
 |(n,b,a,c)=>
 some [[],[1],[97],[3,1,2]]>>=λt6=>jb (4,b,a,c)>>=λr=>if aH r.1 t6.length then some ((⟨n,t6.getD r.1.toNat []⟩:bX),r.2.1,r.2.2.1,r.2.2.2)else none
theorem U':ba aeU vG:= .bo (.k s4 .n)
def kM:Bool×Bool->Option Int
 |(b,a)=>
 if a then some 0 else if b then some (-1)else some 1
theorem Vv:ba ae7 kM:= .bo
def va(n:Int):Option Int:=
 if (0<=n:Bool) then some (gF .u64 2 (bY .u64 n))else some (aM .u64 (gF .u64 2 (bY .u64 (dj .i64 0 (aM .i64 n 1)))) 1)
theorem SO:ba afp va:= .bo
def n0:I×I->Option Int
 |(a,b)=>
 if !(a.Kind=b.Kind:Bool) then some 0 else if (a.Kind=1:Bool) then kM (b.bL,fB a.bL b.bL)>>=λr=>some r else if (a.Kind=2:Bool) then va a.bf>>=λc=>va b.bf>>=λd=>kM (decide (c<d),decide (a.bf=b.bf))>>=λe=>some e else if (a.Kind=3:Bool) then if !((a.bn.length:Int)=(b.bn.length:Int):Bool) then kM (decide ((a.bn.length:Int)<(b.bn.length:Int)),false)>>=λf=>some f else kM (Op.bytesLess a.bn b.bn,decide (a.bn=b.bn))>>=λg=>some g else if (a.Kind=4:Bool) then kM (decide (a.ad<b.ad),decide (a.ad=b.ad))>>=λi=>some i else some 0
theorem Cd:ba aeK n0:= .bo (.k Vv (.k SO .n))
def rp:Int×I×I×I×Int×Bool×Int×aj×Int->Option (Int×I×I×I×Int×Bool×Int×aj×Int)
 |(b,a,c,d,e,f,g,i,j)=>
 some (decide (b<(a.aw.length:Int)))>>=λt12=>if(aH b a.aw.length||(!t12)) then (if t12 then n0 (I.eta (a.aw.getD b.toNat au),I.eta c)else some 0)>>=λk=>if(bif t12 then (k<0:Bool)else false) then rp (aM .i64 b 1,I.eta a,I.eta c,I.eta d,e,f,g,i,j)else some (b,I.eta a,I.eta c,I.eta d,e,f,g,i,j)else none
  partial_fixpoint
theorem VT:cQ 152 0 [0] NW rp:= .rx rp.partial_correctness (.k Cd .n)
def CY:I×I×I->Option I
 |(v,key,item)=>
 rp (0,I.eta v,I.eta key,I.eta item,0,false,0,[],0)>>=λo=>some (decide (o.1<(o.2.1.aw.length:Int)))>>=λt29=>if(aH o.1 o.2.1.aw.length||(!t29)) then (if t29 then n0 (I.eta (o.2.1.aw.getD o.1.toNat au),I.eta o.2.2.1)else some 0)>>=λr=>if(bif t29 then (r=0:Bool)else false) then some (I.eta o.2.1)else if dY 0 o.1 o.2.1.aw.length then some (ef o.2.1.aw 0 o.1)>>=λt45=>if room 120 ([]++t45).length then some ([]++t45)>>=λl=>some [I.eta o.2.2.1]>>=λt48=>if room 120 (l++t48).length then some (l++t48)>>=λa=>if dY o.1 (o.2.1.aw.length:Int) o.2.1.aw.length then some (ef o.2.1.aw o.1 (o.2.1.aw.length:Int))>>=λt53=>if room 120 (a++t53).length then if dY 0 o.1 o.2.1.ai.length then some (ef o.2.1.ai 0 o.1)>>=λt60=>if room 120 ([]++t60).length then some ([]++t60)>>=λb=>some [I.eta o.2.2.2.1]>>=λt63=>if room 120 (b++t63).length then some (b++t63)>>=λc=>if dY o.1 (o.2.1.ai.length:Int) o.2.1.ai.length then some (ef o.2.1.ai o.1 (o.2.1.ai.length:Int))>>=λt68=>if room 120 (c++t68).length then some (⟨o.2.1.Kind,o.2.1.bL,o.2.1.bf,o.2.1.bn,o.2.1.ad,a++t53,c++t68,o.2.1.Rest⟩:I)else none else none else none else none else none else none else none else none else none else none else none
theorem WQ:ba aeV CY:= .bo (.k Cd .n) (.k VT .n)
mutual
def jL:Int×List ah×aq×Bool->Option (I×List ah×aq×Bool)
 |(t,b,e,f)=>
 if aH t b.length then some (b.getD t.toNat aN)>>=λa=>if (a.Kind=1:Bool) then jb (2,b,e,f)>>=λr=>some ((⟨a.Kind,decide (r.1=1),0,[],0,[],[],[]⟩:I),r.2.1,r.2.2.1,r.2.2.2)else if (a.Kind=2:Bool) then jb (256,b,e,f)>>=λbi=>some (aM .i64 (dj .i64 a.bG a.bC) 1)>>=λt51=>if !(t51=0:Bool) then some ((⟨a.Kind,false,aM .i64 a.bC (b' bi.1 t51),[],0,[],[],[]⟩:I),bi.2.1,bi.2.2.1,bi.2.2.2)else none else if (a.Kind=3:Bool) then Cb (a.Max,b,e,f)>>=λaD=>some ((⟨a.Kind,false,0,aD.1,0,[],[],[]⟩:I),aD.2.1,aD.2.2.1,aD.2.2.2)else if (a.Kind=4:Bool) then jb ((a.bj.length:Int),b,e,f)>>=λp=>if aH p.1 a.bj.length then some (a.bj.getD p.1.toNat dN)>>=λhk=>if a.Open then vF (p.2.1,p.2.2.1,p.2.2.2)>>=λy=>if(bif a.Open then y.1 else false) then q7 (a,y.2.1,y.2.2.1,y.2.2.2)>>=λa5=>some ((⟨a.Kind,false,0,[],a5.1,[],[],[]⟩:I),a5.2.1,a5.2.2.1,a5.2.2.2)else some ((⟨a.Kind,false,0,[],hk.ad,[],[],[]⟩:I),y.2.1,y.2.2.1,y.2.2.2)else if(bif a.Open then false else false) then q7 (a,p.2.1,p.2.2.1,p.2.2.2)>>=λa9=>some ((⟨a.Kind,false,0,[],a9.1,[],[],[]⟩:I),a9.2.1,a9.2.2.1,a9.2.2.2)else some ((⟨a.Kind,false,0,[],hk.ad,[],[],[]⟩:I),p.2.1,p.2.2.1,p.2.2.2)else none else if (a.Kind=5:Bool) then mu (0,b,e,f,0,false,0,[],0,a.Kind,a.Name,a.bC,a.bG,a.Max,a.bj,a.ag,a.Key,a.aG,a.Open,a.Kind,false,0,[],0,[])>>=λo=>vF (o.1,o.2.1,o.2.2.1)>>=λz=>if z.1 then q7 ((⟨o.2.2.2.2.2.2.2.2.1,o.2.2.2.2.2.2.2.2.2.1,o.2.2.2.2.2.2.2.2.2.2.1,o.2.2.2.2.2.2.2.2.2.2.2.1,o.2.2.2.2.2.2.2.2.2.2.2.2.1,o.2.2.2.2.2.2.2.2.2.2.2.2.2.1,o.2.2.2.2.2.2.2.2.2.2.2.2.2.2.1,o.2.2.2.2.2.2.2.2.2.2.2.2.2.2.2.1,o.2.2.2.2.2.2.2.2.2.2.2.2.2.2.2.2.1,o.2.2.2.2.2.2.2.2.2.2.2.2.2.2.2.2.2.1⟩:ah),z.2.1,z.2.2.1,z.2.2.2)>>=λbb=>vG (bb.1,bb.2.1,bb.2.2.1,bb.2.2.2)>>=λbe=>some ((⟨o.2.2.2.2.2.2.2.2.2.2.2.2.2.2.2.2.2.2.1,o.2.2.2.2.2.2.2.2.2.2.2.2.2.2.2.2.2.2.2.1,o.2.2.2.2.2.2.2.2.2.2.2.2.2.2.2.2.2.2.2.2.1,o.2.2.2.2.2.2.2.2.2.2.2.2.2.2.2.2.2.2.2.2.2.1,o.2.2.2.2.2.2.2.2.2.2.2.2.2.2.2.2.2.2.2.2.2.2.1,[],o.2.2.2.2.2.2.2.2.2.2.2.2.2.2.2.2.2.2.2.2.2.2.2,[be.1]⟩:I),be.2.1,be.2.2.1,be.2.2.2)else some ((⟨o.2.2.2.2.2.2.2.2.2.2.2.2.2.2.2.2.2.2.1,o.2.2.2.2.2.2.2.2.2.2.2.2.2.2.2.2.2.2.2.1,o.2.2.2.2.2.2.2.2.2.2.2.2.2.2.2.2.2.2.2.2.1,o.2.2.2.2.2.2.2.2.2.2.2.2.2.2.2.2.2.2.2.2.2.1,o.2.2.2.2.2.2.2.2.2.2.2.2.2.2.2.2.2.2.2.2.2.2.1,[],o.2.2.2.2.2.2.2.2.2.2.2.2.2.2.2.2.2.2.2.2.2.2.2,[]⟩:I),z.2.1,z.2.2.1,z.2.2.2)else if (a.Kind=6:Bool) then if a.Open then vF (b,e,f)>>=λA=>if(bif a.Open then A.1 else false) then q7 (a,A.2.1,A.2.2.1,A.2.2.2)>>=λZ=>vG (Z.1,Z.2.1,Z.2.2.1,Z.2.2.2)>>=λbp=>some ((⟨a.Kind,false,0,[],Z.1,[],[],[bp.1]⟩:I),bp.2.1,bp.2.2.1,bp.2.2.2)else jb ((a.ag.length:Int),A.2.1,A.2.2.1,A.2.2.2)>>=λaf=>if aH af.1 a.ag.length then some (a.ag.getD af.1.toNat ay)>>=λhm=>jL (hm.av,af.2.1,af.2.2.1,af.2.2.2)>>=λbs=>some ((⟨a.Kind,false,0,[],hm.ad,[],[I.eta bs.1],[]⟩:I),bs.2.1,bs.2.2.1,bs.2.2.2)else none else if(bif a.Open then false else false) then q7 (a,b,e,f)>>=λam=>vG (am.1,am.2.1,am.2.2.1,am.2.2.2)>>=λbv=>some ((⟨a.Kind,false,0,[],am.1,[],[],[bv.1]⟩:I),bv.2.1,bv.2.2.1,bv.2.2.2)
 else jb ((a.ag.length:Int),b,e,f)>>=λan=>if aH an.1 a.ag.length then some (a.ag.getD an.1.toNat ay)>>=λhs=>jL (hs.av,an.2.1,an.2.2.1,an.2.2.2)>>=λbD=>some ((⟨a.Kind,false,0,[],hs.ad,[],[I.eta bD.1],[]⟩:I),bD.2.1,bD.2.2.1,bD.2.2.2)else none else if (a.Kind=7:Bool) then jb (aM .i64 (ji a.Max 3) 1,b,e,f)>>=λbR=>q5 (bR.1,bR.2.1,bR.2.2.1,bR.2.2.2,0,false,0,[],0,a.Kind,a.Name,a.bC,a.bG,a.Max,a.bj,a.ag,a.Key,a.aG,a.Open,a.Kind,false,0,[],0,[])>>=λu=>some ((⟨u.2.2.2.2.2.2.2.2.1,u.2.2.2.2.2.2.2.2.2.1,u.2.2.2.2.2.2.2.2.2.2.1,u.2.2.2.2.2.2.2.2.2.2.2.1,u.2.2.2.2.2.2.2.2.2.2.2.2.1,[],u.2.2.2.2.2.2.2.2.2.2.2.2.2,[]⟩:I),u.1,u.2.1,u.2.2.1)else if (a.Kind=8:Bool) then jb (aM .i64 (ji a.Max 3) 1,b,e,f)>>=λaJ=>q6 (aJ.1,aJ.2.1,aJ.2.2.1,aJ.2.2.2,0,false,0,[],0,a.Kind,a.Name,a.bC,a.bG,a.Max,a.bj,a.ag,a.Key,a.aG,a.Open,a.Kind,false,0,[],0,[],[],[])>>=λj=>some ((⟨j.2.2.2.2.2.2.2.2.1,j.2.2.2.2.2.2.2.2.2.1,j.2.2.2.2.2.2.2.2.2.2.1,j.2.2.2.2.2.2.2.2.2.2.2.1,j.2.2.2.2.2.2.2.2.2.2.2.2.1,j.2.2.2.2.2.2.2.2.2.2.2.2.2.1,j.2.2.2.2.2.2.2.2.2.2.2.2.2.2.1,j.2.2.2.2.2.2.2.2.2.2.2.2.2.2.2⟩:I),j.1,j.2.1,j.2.2.1)else jb (2,b,e,f)>>=λw=>if (w.1=1:Bool) then jL (a.aG,w.2.1,w.2.2.1,w.2.2.2)>>=λaZ=>some ((⟨a.Kind,false,0,[],0,[],[I.eta aZ.1],[]⟩:I),aZ.2.1,aZ.2.2.1,aZ.2.2.2)else some ((⟨a.Kind,false,0,[],0,[],[],[]⟩:I),w.2.1,w.2.2.1,w.2.2.2)else none
  partial_fixpoint
def mu:Int×List ah×aq×Bool×Int×Bool×Int×aj×Int×Int×aj×Int×Int×Int×List c4×List aR×Int×Int×Bool×Int×Bool×Int×aj×Int×List I->Option (List ah×aq×Bool×Int×Bool×Int×aj×Int×Int×aj×Int×Int×Int×List c4×List aR×Int×Int×Bool×Int×Bool×Int×aj×Int×List I)
 |(i,ap,ax,aC,D,E,F,G,H,J,K,L,M,N,O,c,P,Q,R,S,U,W,X,Y,q)=>
 if (i<(c.length:Int):Bool) then if aH i c.length then some (c.getD i.toNat ay)>>=λb0=>if b0.bZ then jb (3,ap,ax,aC)>>=λx=>if(bif b0.bZ then (x.1=0:Bool)else false) then if aH i c.length then some [I.eta (c.getD i.toNat ay).bu]>>=λt113=>if room 120 (q++t113).length then mu (aM .i64 i 1,x.2.1,x.2.2.1,x.2.2.2,D,E,F,G,H,J,K,L,M,N,O,c,P,Q,R,S,U,W,X,Y,q++t113)else none else none else if aH i c.length then jL ((c.getD i.toNat ay).av,x.2.1,x.2.2.1,x.2.2.2)>>=λa0=>some [I.eta a0.1]>>=λt126=>if room 120 (q++t126).length then mu (aM .i64 i 1,a0.2.1,a0.2.2.1,a0.2.2.2,D,E,F,G,H,J,K,L,M,N,O,c,P,Q,R,S,U,W,X,Y,q++t126)else none else none else if(bif b0.bZ then false else false) then if aH i c.length then some [I.eta (c.getD i.toNat ay).bu]>>=λg9=>if room 120 (q++g9).length then mu (aM .i64 i 1,ap,ax,aC,D,E,F,G,H,J,K,L,M,N,O,c,P,Q,R,S,U,W,X,Y,q++g9)else none else none else if aH i c.length then jL ((c.getD i.toNat ay).av,ap,ax,aC)>>=λa1=>some [I.eta a1.1]>>=λhe=>if room 120 (q++he).length then mu (aM .i64 i 1,a1.2.1,a1.2.2.1,a1.2.2.2,D,E,F,G,H,J,K,L,M,N,O,c,P,Q,R,S,U,W,X,Y,q++he)else none else none else none else some (ap,ax,aC,D,E,F,G,H,J,K,L,M,N,O,c,P,Q,R,S,U,W,X,Y,q)
  partial_fixpoint
def q5:Int×List ah×aq×Bool×Int×Bool×Int×aj×Int×Int×aj×Int×Int×Int×List c4×List aR×Int×Int×Bool×Int×Bool×Int×aj×Int×List I->Option (List ah×aq×Bool×Int×Bool×Int×aj×Int×Int×Bool×Int×aj×Int×List I)
 |(n,gs,gt,g0,g1,g2,g3,g4,g5,ip,i0,i1,i2,i3,i4,i5,i6,g6,i7,g7,b1,b2,b3,b4,bT)=>
 if (0<n:Bool) then jL (g6,gs,gt,g0)>>=λa2=>some [I.eta a2.1]>>=λt193=>if room 120 (bT++t193).length then q5 (dj .i64 n 1,a2.2.1,a2.2.2.1,a2.2.2.2,g1,g2,g3,g4,g5,ip,i0,i1,i2,i3,i4,i5,i6,g6,i7,g7,b1,b2,b3,b4,bT++t193)else none else some (gs,gt,g0,g1,g2,g3,g4,g5,g7,b1,b2,b3,b4,bT)
  partial_fixpoint
def q6:Int×List ah×aq×Bool×Int×Bool×Int×aj×Int×Int×aj×Int×Int×Int×List c4×List aR×Int×Int×Bool×Int×Bool×Int×aj×Int×List I×List I×List bX->Option (List ah×aq×Bool×Int×Bool×Int×aj×Int×Int×Bool×Int×aj×Int×List I×List I×List bX)
 |(g8,ce,ci,cr,cs,c8,ds,dt,eq,ht,hu,hw,hH,h0,h1,ii,es,ex,io,fd,ff,fo,fs,gc,gd,ge,gl)=>
 if (0<g8:Bool) then jL (es,ce,ci,cr)>>=λa3=>jL (ex,a3.2.1,a3.2.2.1,a3.2.2.2)>>=λa4=>CY ((⟨fd,ff,fo,fs,gc,gd,ge,gl⟩:I),I.eta a3.1,I.eta a4.1)>>=λv=>q6 (dj .i64 g8 1,a4.2.1,a4.2.2.1,a4.2.2.2,cs,c8,ds,dt,eq,ht,hu,hw,hH,h0,h1,ii,es,ex,io,v.Kind,v.bL,v.bf,v.bn,v.ad,v.aw,v.ai,v.Rest)else some (ce,ci,cr,cs,c8,ds,dt,eq,fd,ff,fo,fs,gc,gd,ge,gl)
  partial_fixpoint
end
theorem Ug:ei sm jL/\eF 112 1 [2] zP q6/\eF 112 1 [1] zO q5/\eF 112 1 [0] zN mu:=jL.mutual_partial_correctness (ed sm) (eE 112 1 [2] zP) (eE 112 1 [1] zO) (eE 112 1 [0] zN)
 (λ_ _ _ _ h0 h1 a b _ _ h=>er h (.k s4 (.k T3 (.k U7 (.k Uf (.k U' (.k (cm sm h0) .n)))))) (.k (eR zN b) (.k (eR zO a) (.k (eR zP h1) .n))))
 (λ_ _ h0 h1 _ _ h=>eQ zP h1 h (.k (cm sm h0) (.k WQ .n)))
 (λ_ _ h0 a _ _ h=>eQ zO a h (.k (cm sm h0) .n))
 (λ_ _ h0 b _ _ h=>eQ zN b h (.k s4 (.k (cm sm h0) .n)))
theorem SI:ba sm jL:=cm _ Ug.1
def xY:aS×Int×aq->Option I
 |(s,t,a)=>
 some (ji 60 (a.length:Int))>>=λt12=>if dY 0 t12 a.length then jL (t,s.Types,ef a 0 t12,false)>>=λr=>some (I.eta r.1)else none
theorem Vq:ba afE xY:= .bo (.k SI .n)
def x4:aS×Int×aq->Option I
 |(s,t,a)=>
 some (ji 60 (a.length:Int))>>=λt12=>if dY 0 t12 a.length then jL (t,s.Types,ef a 0 t12,true)>>=λr=>some (I.eta r.1)else none
theorem UQ:ba afF x4:= .bo (.k SI .n)
def qO(d:k9):Option (aS×Int×I×I×Bool):=
 qN d.S>>=λr=>if !r.2 then some (r.1,0,(⟨0,false,0,[],0,[],[],[]⟩:I),(⟨0,false,0,[],0,[],[],[]⟩:I),false)else some (r.1.Types.length:Int)>>=λt26=>if !(t26=0:Bool) then some (b' (bY .i64 d.T) t26)>>=λt27=>xY (r.1,t27,d.C)>>=λa=>x4 (r.1,t27,d.C)>>=λb=>some (r.1,t27,I.eta a,I.eta b,true)else none
theorem V':ba afj qO:= .bo (.k SG (.k Vq (.k UQ .n)))
def hI:List kK×Int×List dx->Option (List dx)
 |(d,i,a)=>
 if(bif (i<(d.length:Int):Bool)then (0<(a.length:Int):Bool)else false) then if aH i d.length then some (d.getD i.toNat n3)>>=λe=>some (a.length:Int)>>=λt38=>if !(t38=0:Bool) then some (b' (bY .i64 e.Node) t38)>>=λt39=>if aH t39 a.length then if (t39.toNat<a.length:Bool) then some (a.getD t39.toNat bt).c1>>=λt46=>if room 3 ([]++t46).length then some ([]++t46)>>=λb=>if (t39.toNat<a.length:Bool) then if (t39.toNat=t39.toNat:Bool) then
 let n:=λc=>
 some (b' e.Kind 8)>>=λf=>if (f=0:Bool) then if (t39.toNat<a.length:Bool) then some (dj .u8 (aM .u8 (a.getD t39.toNat bt).A (b' e.A 5)) 2)>>=λj=>if (t39.toNat<a.length:Bool) then hI (d,aM .i64 i 1,(a.set t39.toNat (⟨(a.getD t39.toNat bt).Kind,j,(a.getD t39.toNat bt).B,(a.getD t39.toNat bt).C,(a.getD t39.toNat bt).c1⟩:dx)).set t39.toNat (⟨((a.set t39.toNat (⟨(a.getD t39.toNat bt).Kind,j,(a.getD t39.toNat bt).B,(a.getD t39.toNat bt).C,(a.getD t39.toNat bt).c1⟩:dx)).getD t39.toNat bt).Kind,((a.set t39.toNat (⟨(a.getD t39.toNat bt).Kind,j,(a.getD t39.toNat bt).B,(a.getD t39.toNat bt).C,(a.getD t39.toNat bt).c1⟩:dx)).getD t39.toNat bt).A,((a.set t39.toNat (⟨(a.getD t39.toNat bt).Kind,j,(a.getD t39.toNat bt).B,(a.getD t39.toNat bt).C,(a.getD t39.toNat bt).c1⟩:dx)).getD t39.toNat bt).B,((a.set t39.toNat (⟨(a.getD t39.toNat bt).Kind,j,(a.getD t39.toNat bt).B,(a.getD t39.toNat bt).C,(a.getD t39.toNat bt).c1⟩:dx)).getD t39.toNat bt).C,b⟩:dx))else none else none else if (f=1:Bool) then if (t39.toNat<a.length:Bool) then some (dj .u8 (aM .u8 (a.getD t39.toNat bt).B (b' e.B 5)) 2)>>=λk=>if (t39.toNat<a.length:Bool) then hI (d,aM .i64 i 1,(a.set t39.toNat (⟨(a.getD t39.toNat bt).Kind,(a.getD t39.toNat bt).A,k,(a.getD t39.toNat bt).C,(a.getD t39.toNat bt).c1⟩:dx)).set t39.toNat (⟨((a.set t39.toNat (⟨(a.getD t39.toNat bt).Kind,(a.getD t39.toNat bt).A,k,(a.getD t39.toNat bt).C,(a.getD t39.toNat bt).c1⟩:dx)).getD t39.toNat bt).Kind,((a.set t39.toNat (⟨(a.getD t39.toNat bt).Kind,(a.getD t39.toNat bt).A,k,(a.getD t39.toNat bt).C,(a.getD t39.toNat bt).c1⟩:dx)).getD t39.toNat bt).A,((a.set t39.toNat (⟨(a.getD t39.toNat bt).Kind,(a.getD t39.toNat bt).A,k,(a.getD t39.toNat bt).C,(a.getD t39.toNat bt).c1⟩:dx)).getD t39.toNat bt).B,((a.set t39.toNat (⟨(a.getD t39.toNat bt).Kind,(a.getD t39.toNat bt).A,k,(a.getD t39.toNat bt).C,(a.getD t39.toNat bt).c1⟩:dx)).getD t39.toNat bt).C,b⟩:dx))else none else none else if (f=2:Bool) then if (t39.toNat<a.length:Bool) then some (b' e.A 6)>>=λo=>if (0<=o:Bool) then some (uH .u8 (a.getD t39.toNat bt).A (mX .u8 1 o))>>=λl=>if (t39.toNat<a.length:Bool) then hI (d,aM .i64 i 1,(a.set t39.toNat (⟨(a.getD t39.toNat bt).Kind,l,(a.getD t39.toNat bt).B,(a.getD t39.toNat bt).C,(a.getD t39.toNat bt).c1⟩:dx)).set t39.toNat (⟨((a.set t39.toNat (⟨(a.getD t39.toNat bt).Kind,l,(a.getD t39.toNat bt).B,(a.getD t39.toNat bt).C,(a.getD t39.toNat bt).c1⟩:dx)).getD t39.toNat bt).Kind,((a.set t39.toNat (⟨(a.getD t39.toNat bt).Kind,l,(a.getD t39.toNat bt).B,(a.getD t39.toNat bt).C,(a.getD t39.toNat bt).c1⟩:dx)).getD t39.toNat bt).A,((a.set t39.toNat (⟨(a.getD t39.toNat bt).Kind,l,(a.getD t39.toNat bt).B,(a.getD t39.toNat bt).C,(a.getD t39.toNat bt).c1⟩:dx)).getD t39.toNat bt).B,((a.set t39.toNat (⟨(a.getD t39.toNat bt).Kind,l,(a.getD t39.toNat bt).B,(a.getD t39.toNat bt).C,(a.getD t39.toNat bt).c1⟩:dx)).getD t39.toNat bt).C,b⟩:dx))else none else none else none else if (f=3:Bool) then if (t39.toNat<a.length:Bool) then some (aM .u8 (a.getD t39.toNat bt).C e.A)>>=λm=>if (t39.toNat<a.length:Bool) then hI (d,aM .i64 i 1,(a.set t39.toNat (⟨(a.getD t39.toNat bt).Kind,(a.getD t39.toNat bt).A,(a.getD t39.toNat bt).B,m,(a.getD t39.toNat bt).c1⟩:dx)).set t39.toNat (⟨((a.set t39.toNat (⟨(a.getD t39.toNat bt).Kind,(a.getD t39.toNat bt).A,(a.getD t39.toNat bt).B,m,(a.getD t39.toNat bt).c1⟩:dx)).getD t39.toNat bt).Kind,((a.set t39.toNat (⟨(a.getD t39.toNat bt).Kind,(a.getD t39.toNat bt).A,(a.getD t39.toNat bt).B,m,(a.getD t39.toNat bt).c1⟩:dx)).getD t39.toNat bt).A,((a.set t39.toNat (⟨(a.getD t39.toNat bt).Kind,(a.getD t39.toNat bt).A,(a.getD t39.toNat bt).B,m,(a.getD t39.toNat bt).c1⟩:dx)).getD t39.toNat bt).B,((a.set t39.toNat (⟨(a.getD t39.toNat bt).Kind,(a.getD t39.toNat bt).A,(a.getD t39.toNat bt).B,m,(a.getD t39.toNat bt).c1⟩:dx)).getD t39.toNat bt).C,b⟩:dx))
 else none else none else if (f=4:Bool) then if (t39.toNat=t39.toNat:Bool) then if ((b.length:Int)<8:Bool) then if (t39.toNat=t39.toNat:Bool) then some [(⟨e.A,e.B,fC .u8 e.A 12⟩:lJ)]>>=λp=>if room 3 (b++p).length then if (t39.toNat=t39.toNat:Bool) then hI (d,aM .i64 i 1,a.set t39.toNat (⟨(a.getD t39.toNat bt).Kind,(a.getD t39.toNat bt).A,(a.getD t39.toNat bt).B,(a.getD t39.toNat bt).C,b++p⟩:dx))else none else none else none else hI (d,aM .i64 i 1,a.set t39.toNat (⟨(a.getD t39.toNat bt).Kind,(a.getD t39.toNat bt).A,(a.getD t39.toNat bt).B,(a.getD t39.toNat bt).C,b⟩:dx))else none else if (f=5:Bool) then if (t39.toNat=t39.toNat:Bool) then if (0<(b.length:Int):Bool) then if (t39.toNat=t39.toNat:Bool) then if dY 0 c b.length then if (t39.toNat=t39.toNat:Bool) then some (aM .i64 c 1)>>=λg=>if dY g (b.length:Int) b.length then if((c.toNat+((b.length:Int).toNat-g.toNat)<=b.length:Bool)&&(g.toNat+((b.length:Int).toNat-g.toNat)<=b.length:Bool)) then if (t39.toNat=t39.toNat:Bool) then hI (d,aM .i64 i 1,a.set t39.toNat (⟨(a.getD t39.toNat bt).Kind,(a.getD t39.toNat bt).A,(a.getD t39.toNat bt).B,(a.getD t39.toNat bt).C,b.take c.toNat++(b.drop g.toNat).take ((b.length:Int).toNat-g.toNat)⟩:dx))else none else none else none else none else none else none else hI (d,aM .i64 i 1,a.set t39.toNat (⟨(a.getD t39.toNat bt).Kind,(a.getD t39.toNat bt).A,(a.getD t39.toNat bt).B,(a.getD t39.toNat bt).C,b⟩:dx))else none else if (f=6:Bool) then if (t39.toNat=t39.toNat:Bool) then if (0<(b.length:Int):Bool) then if (t39.toNat=t39.toNat:Bool) then if aH c b.length then if (c.toNat<b.length:Bool) then hI (d,aM .i64 i 1,a.set t39.toNat (⟨(a.getD t39.toNat bt).Kind,(a.getD t39.toNat bt).A,(a.getD t39.toNat bt).B,(a.getD t39.toNat bt).C,b.set c.toNat (⟨(b.getD c.toNat je).ad,(b.getD c.toNat je).av,e.B⟩:lJ)⟩:dx))else none else none else none else hI (d,aM .i64 i 1,a.set t39.toNat (⟨(a.getD t39.toNat bt).Kind,(a.getD t39.toNat bt).A,(a.getD t39.toNat bt).B,(a.getD t39.toNat bt).C,b⟩:dx))else none else if (t39.toNat=t39.toNat:Bool) then if (0<(b.length:Int):Bool) then if (t39.toNat=t39.toNat:Bool) then if (t39.toNat=t39.toNat:Bool) then if aH c b.length then if (c.toNat<b.length:Bool) then if aH c b.length then if (c.toNat<b.length:Bool) then hI (d,aM .i64 i 1,a.set t39.toNat (⟨(a.getD t39.toNat bt).Kind,(a.getD t39.toNat bt).A,(a.getD t39.toNat bt).B,(a.getD t39.toNat bt).C,b.set c.toNat (⟨(b.getD c.toNat je).ad,aM .u8 (b.getD c.toNat je).av e.B,(b.getD c.toNat je).hd⟩:lJ)⟩:dx))else none else none else none else none else none else none else hI (d,aM .i64 i 1,a.set t39.toNat (⟨(a.getD t39.toNat bt).Kind,(a.getD t39.toNat bt).A,(a.getD t39.toNat bt).B,(a.getD t39.toNat bt).C,b⟩:dx))else none
 if (0<(b.length:Int):Bool) then if (t39.toNat=t39.toNat:Bool) then some (b.length:Int)>>=λt63=>if !(t63=0:Bool) then some (b' (bY .i64 e.A) t63)>>=λt64=>n t64 else none else none else n 0 else none else none else none else none else none else none else none else some a
  partial_fixpoint
theorem T4:cQ 33 0 [0] Rj hI:= .rx hI.partial_correctness
def Ck:et×List kK->Option et
 |(d,l)=>
 if room 32 ([]++d.ej).length then hI (l,0,[]++d.ej)>>=λo=>some (⟨o⟩:et)else none
theorem UR:ba afh Ck:= .bo .n (.k T4 .n)
def rl:Int×Int×I->Option (Int×I)
 |(b,i,a)=>
 if(bif (i<(a.Rest.length:Int):Bool)then (0<=b:Bool)else false) then if aH i a.Rest.length then rl (dj .i64 b ((a.Rest.getD i.toNat b5).Data.length:Int),aM .i64 i 1,I.eta a)else none else some (b,I.eta a)
  partial_fixpoint
theorem US:cQ 78 0 [0] Rw rl:= .rx rl.partial_correctness
mutual
def nz:I×Int->Option Int
 |(v,n)=>
 rl (dj .i64 n (aM .i64 (aM .i64 10 (v.bn.length:Int)) (v.Rest.length:Int)),0,I.eta v)>>=λo=>sE (o.1,0,I.eta o.2)>>=λt=>sF (t.1,0,I.eta t.2)>>=λu=>some u
  partial_fixpoint
def sE:Int×Int×I->Option (Int×I)
 |(p,f,a)=>
 if(bif (f<(a.aw.length:Int):Bool)then (0<=p:Bool)else false) then if aH f a.aw.length then nz (I.eta (a.aw.getD f.toNat au),p)>>=λr=>sE (r,aM .i64 f 1,I.eta a)else none else some (p,I.eta a)
  partial_fixpoint
def sF:Int×Int×I->Option Int
 |(q,j,e)=>
 if(bif (j<(e.ai.length:Int):Bool)then (0<=q:Bool)else false) then if aH j e.ai.length then nz (I.eta (e.ai.getD j.toNat au),q)>>=λw=>sF (w,aM .i64 j 1,I.eta e)else none else some q
  partial_fixpoint
end
theorem VU:ei xB nz/\eF 78 0 [2] xD sF/\eF 78 0 [1] xC sE:=nz.mutual_partial_correctness (ed xB) (eE 78 0 [2] xD) (eE 78 0 [1] xC)
 (λ_ _ h1 a _ _ h=>er h .n (.k US (.k (eR xC a) (.k (eR xD h1) .n))))
 (λ_ _ h0 h1 _ _ h=>eQ xD h1 h (.k (cm xB h0) .n))
 (λ_ _ h0 a _ _ h=>eQ xC a h (.k (cm xB h0) .n))
theorem Ww:ba xB nz:=cm _ VU.1
def B4(v:I):Option Bool:=
 nz (I.eta v,3000)>>=λr=>some (decide (0<=r))
theorem Vw:ba afk B4:= .bo (.k Ww .n)
def tN(c:kO):Option (aS×aS×Int×I×Bool):=
 qO c.D>>=λr=>Ck (c.D.S,c.L)>>=λd=>qN d>>=λa=>some (bif bif (!r.2.2.2.2)then true else(!a.2)then true else decide (4<(c.L.length:Int)))>>=λt44=>(if !t44 then B4 (I.eta r.2.2.1)else some false)>>=λb=>if(bif t44 then true else(!b)) then some ((⟨[]⟩:aS),(⟨[]⟩:aS),0,(⟨0,false,0,[],0,[],[],[]⟩:I),false)else some (r.1,a.1,r.2.1,I.eta r.2.2.1,true)
theorem Wa:ba aeN tN:= .bo (.k V' (.k UR (.k SG (.k Vw .n))))
def vb:Int×aj->Option aj
 |(a,b)=>
 if (0<a:Bool) then some (strOf [bY .u8 (b' a 256)])>>=λt10=>if (t10.length+b.length<=eC:Bool) then vb (fC .u64 a 256,t10++b)else none else some b
  partial_fixpoint
theorem VV:cQ 50 0 [0] Ro vb:= .rx vb.partial_correctness
def zi(n:Int):Option aj:=
 vb (n,[])>>=λo=>some o
theorem WR:ba afo zi:= .bo .n (.k VV .n)
def vc:Int×aq->Option (Int×aq)
 |(a,b)=>
 if (128<=a:Bool) then some [bY .u8 (aM .u64 (b' a 128) 128)]>>=λt11=>if room 1 (b++t11).length then vc (fC .u64 a 128,b++t11)else none else some (a,b)
  partial_fixpoint
theorem VW:cQ 52 0 [0] Rp vc:= .rx vc.partial_correctness
def qJ(n:Int):Option aj:=
 vc (n,[])>>=λo=>some [bY .u8 o.1]>>=λt18=>if room 1 (o.2++t18).length then some (strOf (o.2++t18))else none
theorem GW:ba afq qJ:= .bo .n (.k VW .n)
def qG(p:aj):Option aj:=
 qJ (bY .u64 (p.length:Int))>>=λr=>if (r.length+p.length<=eC:Bool) then some (r++p)else none
theorem Gg:ba afs qG:= .bo (.k GW .n)
def oX:Int×I×I->Option ((Bool) ⊕ (I×I))
 |(i,a,b)=>
 if (i<(a.Rest.length:Int):Bool) then if aH i a.Rest.length then some (a.Rest.getD i.toNat b5)>>=λc=>if aH i b.Rest.length then some (b.Rest.getD i.toNat b5)>>=λd=>if !(hR c.ad d.ad&&(jC c.Data d.Data&&true)) then some (.inl false)else oX (aM .i64 i 1,I.eta a,I.eta b)else none else none else some (.inr (I.eta a,I.eta b))
  partial_fixpoint
theorem Ui:cQ 49 0 [0] Rn oX:= .rx oX.partial_correctness
mutual
def jM(e:I×I):Option Bool:=
 match e with
 |(a,b)=>
 if(bif bif bif bif bif (!(a.Kind=b.Kind:Bool))then true else(!(fB a.bL b.bL))then true else(!(a.bf=b.bf:Bool))then true else(!(a.bn=b.bn:Bool))then true else(!(a.ad=b.ad:Bool))then true else(!((a.Rest.length:Int)=(b.Rest.length:Int):Bool))) then some false else oX (0,(⟨a.Kind,a.bL,a.bf,a.bn,a.ad,a.aw,a.ai,a.Rest⟩:I),(⟨b.Kind,b.bL,b.bf,b.bn,b.ad,b.aw,b.ai,b.Rest⟩:I))>>=λo=>match o with
 |.inl p=>
 some p
 |.inr c=>
 yN (c.1.aw,c.2.aw)>>=λr=>(if r then yN (c.1.ai,c.2.ai)else some false)>>=λq=>some (bif r then q else false)
  partial_fixpoint
def yN(e:List I×List I):Option Bool:=
 match e with
 |(a,b)=>
 if !((a.length:Int)=(b.length:Int):Bool) then some false else vE (a,b,0)>>=λo=>match o with
 |.inl p=>
 some p
 |.inr c=>
 some true
  partial_fixpoint
def vE:List I×List I×Int->Option ((Bool) ⊕ (Unit))
 |(f,j,i)=>
 if (i<(f.length:Int):Bool) then if aH i f.length then if aH i j.length then jM (I.eta (f.getD i.toNat au),I.eta (j.getD i.toNat au))>>=λr=>if !r then some (.inl false)else vE (f,j,aM .i64 i 1)else none else none else some (.inr ())
  partial_fixpoint
end
theorem Un:ei Bv jM/\ei E8 yN/\eF 89 0 [0] xF vE:=jM.mutual_partial_correctness (ed Bv) (ed E8) (eE 89 0 [0] xF)
 (λ_ h1 _ _ h=>er h (.k (cm E8 h1) .n) (.k Ui .n))
 (λ_ a _ _ h=>er h .n (.k (eR xF a) .n))
 (λ_ _ h0 a _ _ h=>eQ xF a h (.k (cm Bv h0) .n))
theorem yM:ba Bv jM:=cm _ Un.1
def yk:Int×Bool×aj->Option aj
 |(id,d,p)=>
 some (bY .u64 (gF .i64 2 id))>>=λt10=>if d then qJ (aM .u64 t10 1)>>=λr=>qG p>>=λa=>if (r.length+a.length<=eC:Bool) then some (r++a)else none else qJ t10>>=λb=>qG p>>=λc=>if (b.length+c.length<=eC:Bool) then some (b++c)else none
theorem SR:ba aft yk:= .bo (.k GW (.k Gg .n))
def mv:aj×Int×Int×List ah×I×ah->Option (aj×Int×List ah×I×ah)
 |(c,b,k,d,a,e)=>
 if (k<(a.Rest.length:Int):Bool) then if aH k a.Rest.length then if ((a.Rest.getD k.toNat b5).ad=b:Bool) then if aH k a.Rest.length then yk (b,false,(a.Rest.getD k.toNat b5).Data)>>=λf=>if (c.length+f.length<=eC:Bool) then mv (c++f,b,aM .i64 k 1,d,I.eta a,e)else none else none else mv (c,b,aM .i64 k 1,d,I.eta a,e)else none else some (c,b,d,I.eta a,e)
  partial_fixpoint
theorem Uj:cQ 19 0 [0,2] Nq mv:= .rx mv.partial_correctness (.k SR .n)
mutual
def ju:aS×Int×I->Option aj
 |(s,t,v)=>
 if aH t s.Types.length then some (s.Types.getD t.toNat aN)>>=λa=>if (a.Kind=1:Bool) then if v.bL then some [1]else some []else if (a.Kind=2:Bool) then va v.bf>>=λr=>zi r>>=λX=>some X else if (a.Kind=3:Bool) then some v.bn else if (a.Kind=4:Bool) then zi (bY .u64 v.ad)>>=λan=>some an else if (a.Kind=9:Bool) then if ((v.ai.length:Int)=0:Bool) then some []else if aH 0 v.ai.length then ju (s,a.aG,I.eta (v.ai.getD (0:Int).toNat au))>>=λN=>if ([1].length+N.length<=eC:Bool) then some ([1]++N)else none else none else if (a.Kind=6:Bool) then if (0<(v.Rest.length:Int):Bool) then qJ (bY .u64 v.ad)>>=λO=>if aH 0 v.Rest.length then some (v.Rest.getD (0:Int).toNat b5)>>=λS=>if (O.length+S.Data.length<=eC:Bool) then some (O++S.Data)else none else none else hJ (a,v.ad)>>=λP=>qJ (bY .u64 v.ad)>>=λQ=>if aH P.1 a.ag.length then if aH 0 v.ai.length then ju (s,(a.ag.getD P.1.toNat ay).av,I.eta (v.ai.getD (0:Int).toNat au))>>=λR=>if (Q.length+R.length<=eC:Bool) then some (Q++R)else none else none else none else if (a.Kind=7:Bool) then sx ([],0,s.Types,I.eta v,a)>>=λo=>some o else if (a.Kind=8:Bool) then sy ([],0,s.Types,I.eta v,a)>>=λU=>some U else o1 ([],1,s.Types,I.eta v,a)>>=λW=>some W else none
  partial_fixpoint
def sx:aj×Int×List ah×I×ah->Option aj
 |(F,i,b,z,H)=>
 if (i<(z.ai.length:Int):Bool) then if aH i z.ai.length then ju ((⟨b⟩:aS),H.aG,I.eta (z.ai.getD i.toNat au))>>=λY=>qG Y>>=λJ=>if (F.length+J.length<=eC:Bool) then sx (F++J,aM .i64 i 1,b,I.eta z,H)else none else none else some F
  partial_fixpoint
def sy:aj×Int×List ah×I×ah->Option aj
 |(G,q,D,j,E)=>
 if (q<(j.ai.length:Int):Bool) then if aH q j.aw.length then ju ((⟨D⟩:aS),E.Key,I.eta (j.aw.getD q.toNat au))>>=λZ=>qG Z>>=λK=>if (G.length+K.length<=eC:Bool) then some (G++K)>>=λt144=>if aH q j.ai.length then ju ((⟨D⟩:aS),E.aG,I.eta (j.ai.getD q.toNat au))>>=λaf=>qG af>>=λL=>if (t144.length+L.length<=eC:Bool) then sy (t144++L,aM .i64 q 1,D,I.eta j,E)else none else none else none else none else some G
  partial_fixpoint
def o1:aj×Int×List ah×I×ah->Option aj
 |(y,id,A,c,p)=>
 if (id<=1000:Bool) then hJ (p,id)>>=λe=>if e.2 then if aH e.1 p.ag.length then some (p.ag.getD e.1.toNat ay)>>=λB=>some (!B.bZ)>>=λt175=>if(aH e.1 c.ai.length||(!(!t175))) then (if !t175 then jM (I.eta (c.ai.getD e.1.toNat au),I.eta B.bu)else some false)>>=λam=>if(bif t175 then true else(!am)) then if aH e.1 c.ai.length then ju ((⟨A⟩:aS),B.av,I.eta (c.ai.getD e.1.toNat au))>>=λap=>yk (id,B.cf,ap)>>=λM=>if (y.length+M.length<=eC:Bool) then mv (y++M,id,0,A,I.eta c,p)>>=λu=>o1 (u.1,aM .i64 u.2.1 1,u.2.2.1,I.eta u.2.2.2.1,u.2.2.2.2)else none else none else mv (y,id,0,A,I.eta c,p)>>=λw=>o1 (w.1,aM .i64 w.2.1 1,w.2.2.1,I.eta w.2.2.2.1,w.2.2.2.2)else none else none else mv (y,id,0,A,I.eta c,p)>>=λx=>o1 (x.1,aM .i64 x.2.1 1,x.2.2.1,I.eta x.2.2.2.1,x.2.2.2.2)else some y
  partial_fixpoint
end
theorem Va:ei sq ju/\eF 19 0 [2] xv o1/\eF 19 0 [1] xu sy/\eF 19 0 [0] xt sx:=ju.mutual_partial_correctness (ed sq) (eE 19 0 [2] xv) (eE 19 0 [1] xu) (eE 19 0 [0] xt)
 (λ_ _ _ _ h0 h1 a b _ _ h=>er h (.k SO (.k WR (.k (cm sq h0) (.k GW (.k my .n))))) (.k (eR xt b) (.k (eR xu a) (.k (eR xv h1) .n))))
 (λ_ _ h0 h1 _ _ h=>eQ xv h1 h (.k my (.k yM (.k (cm sq h0) (.k SR .n)))) (.k Uj .n))
 (λ_ _ h0 a _ _ h=>eQ xu a h (.k (cm sq h0) (.k Gg .n)))
 (λ_ _ h0 b _ _ h=>eQ xt b h (.k (cm sq h0) (.k Gg .n)))
theorem Ce:ba sq ju:=cm _ Va.1
def pr:List c4×List c4×Int×Int->Option ((Bool) ⊕ (Unit))
 |(a,b,c,t13)=>
 if (t13<c:Bool) then if aH t13 a.length then some (a.getD t13.toNat dN)>>=λd=>if aH t13 b.length then some (b.getD t13.toNat dN)>>=λe=>if !(hR d.ad e.ad&&(jC d.Name e.Name&&true)) then some (.inl false)else pr (a,b,c,aM .i64 t13 1)else none else none else some (.inr ())
  partial_fixpoint
theorem T':cQ 239 0 [0] NX pr:= .rx pr.partial_correctness
def Ca(c:List c4×List c4):Option Bool:=
 match c with
 |(s1,a)=>
 if !((s1.length:Int)=(a.length:Int):Bool) then some false else pr (s1,a,(s1.length:Int),0)>>=λo=>match o with
 |.inl b=>
 some b
 |.inr d=>
 some true
theorem Ub:ba Q5 Ca:= .bo .n (.k T' .n)
def pt:List bX×List bX×Int×Int->Option ((Bool) ⊕ (Unit))
 |(a,b,c,t13)=>
 if (t13<c:Bool) then if aH t13 a.length then some (a.getD t13.toNat b5)>>=λd=>if aH t13 b.length then some (b.getD t13.toNat b5)>>=λe=>if !(hR d.ad e.ad&&(jC d.Data e.Data&&true)) then some (.inl false)else pt (a,b,c,aM .i64 t13 1)else none else none else some (.inr ())
  partial_fixpoint
theorem Uc:cQ 103 0 [0] NY pt:= .rx pt.partial_correctness
def yL(c:List bX×List bX):Option Bool:=
 match c with
 |(s1,a)=>
 if !((s1.length:Int)=(a.length:Int):Bool) then some false else pt (s1,a,(s1.length:Int),0)>>=λo=>match o with
 |.inl b=>
 some b
 |.inr d=>
 some true
theorem S8:ba Qc yL:= .bo .n (.k Uc .n)
mutual
def lN:I×I->Option Bool
 |(a,b)=>
 some (bif bif bif bif decide (a.Kind=b.Kind)then fB a.bL b.bL else false then decide (a.bf=b.bf)else false then decide (a.bn=b.bn)else false then decide (a.ad=b.ad)else false)>>=λt37=>(if t37 then yL (a.Rest,b.Rest)else some false)>>=λr=>some (bif t37 then r else false)>>=λt44=>(if t44 then yJ (a.aw,b.aw)else some false)>>=λq=>some (bif t44 then q else false)>>=λt51=>(if t51 then yJ (a.ai,b.ai)else some false)>>=λt=>some (bif t51 then t else false)
  partial_fixpoint
def yJ(c:List I×List I):Option Bool:=
 match c with
 |(s1,f)=>
 if !((s1.length:Int)=(f.length:Int):Bool) then some false else vB (f,s1,(s1.length:Int),0)>>=λo=>match o with
 |.inl p=>
 some p
 |.inr u=>
 some true
  partial_fixpoint
def vB:List I×List I×Int×Int->Option ((Bool) ⊕ (Unit))
 |(e,t15,j,t17)=>
 if (t17<j:Bool) then if aH t17 t15.length then if aH t17 e.length then lN (I.eta (t15.getD t17.toNat au),I.eta (e.getD t17.toNat au))>>=λr=>if !r then some (.inl false)else vB (e,t15,j,aM .i64 t17 1)else none else none else some (.inr ())
  partial_fixpoint
end
theorem XC:ei xw lN/\ei DT yJ/\eF 104 0 [0] Ad vB:=lN.mutual_partial_correctness (ed xw) (ed DT) (eE 104 0 [0] Ad)
 (λ_ h1 _ _ h=>er h (.k S8 (.k (cm DT h1) .n)))
 (λ_ a _ _ h=>er h .n (.k (eR Ad a) .n))
 (λ_ _ h0 a _ _ h=>eQ Ad a h (.k (cm xw h0) .n))
theorem Te:ba xw lN:=cm _ XC.1
def zo:aR×aR->Option Bool
 |(a,y)=>
 some (bif bif bif bif decide (a.ad=y.ad)then decide (a.Name=y.Name)else false then decide (a.av=y.av)else false then fB a.cf y.cf else false then fB a.bZ y.bZ else false)>>=λt37=>(if t37 then lN ((⟨a.bu.Kind,a.bu.bL,a.bu.bf,a.bu.bn,a.bu.ad,a.bu.aw,a.bu.ai,a.bu.Rest⟩:I),I.eta y.bu)else some false)>>=λr=>some (bif t37 then r else false)
theorem Wb:ba Q8 zo:= .bo (.k Te .n)
def pk:List aR×List aR×Int×Int->Option ((Bool) ⊕ (Unit))
 |(c,t15,d,t17)=>
 if (t17<d:Bool) then if aH t17 t15.length then some (t15.getD t17.toNat ay)>>=λa=>if aH t17 c.length then some (c.getD t17.toNat ay)>>=λb=>zo ((⟨a.ad,a.Name,a.av,a.cf,a.bZ,I.eta a.bu⟩:aR),(⟨b.ad,b.Name,b.av,b.cf,b.bZ,I.eta b.bu⟩:aR))>>=λr=>if !r then some (.inl false)else pk (c,t15,d,aM .i64 t17 1)else none else none else some (.inr ())
  partial_fixpoint
theorem Up:cQ 240 0 [0] NZ pk:= .rx pk.partial_correctness (.k Wb .n)
def B9(c:List aR×List aR):Option Bool:=
 match c with
 |(s1,a)=>
 if !((s1.length:Int)=(a.length:Int):Bool) then some false else pk (a,s1,(s1.length:Int),0)>>=λo=>match o with
 |.inl b=>
 some b
 |.inr d=>
 some true
theorem Uq:ba Q7 B9:= .bo .n (.k Up .n)
def h7:ah×ah->Option Bool
 |(a,b)=>
 some (bif bif bif bif bif bif bif decide (a.Kind=b.Kind)then decide (a.Name=b.Name)else false then decide (a.bC=b.bC)else false then decide (a.bG=b.bG)else false then decide (a.Max=b.Max)else false then decide (a.Key=b.Key)else false then decide (a.aG=b.aG)else false then fB a.Open b.Open else false)>>=λt58=>(if t58 then Ca (a.bj,b.bj)else some false)>>=λr=>some (bif t58 then r else false)>>=λt65=>(if t65 then B9 (a.ag,b.ag)else some false)>>=λc=>some (bif t65 then c else false)
theorem Xd:ba QK h7:= .bo (.k Ub (.k Uq .n))
def zp(c:Int):Option Bool:=
 some (bif bif decide (c=95)then true else bif decide (97<=c)then decide (c<=122)else false then true else bif decide (65<=c)then decide (c<=90)else false)
theorem Ty:ba Q1 zp:= .bo
def C7(c:Int):Option Bool:=
 some (bif decide (48<=c)then decide (c<=57)else false)
theorem XD:ba Q2 C7:= .bo
def k':aj×Int×Int->Option ((Bool) ⊕ (Unit))
 |(a,b,t19)=>
 if (t19<b:Bool) then if aH t19 a.length then zp (fz a t19)>>=λc=>some (!c)>>=λt26=>if(aH t19 a.length||(!t26)) then (if t26 then C7 (fz a t19)else some false)>>=λd=>if(bif t26 then(!d)else false) then some (.inl false)else k' (a,b,aM .i64 t19 1)else none else none else some (.inr ())
  partial_fixpoint
theorem WS:cQ 208 0 [0] N0 k':= .rx k'.partial_correctness (.k Ty (.k XD .n))
def kQ(s:aj):Option Bool:=
 some (bif decide (s=[])then true else decide (24<(s.length:Int)))>>=λt10=>if(aH 0 s.length||(!(!t10))) then (if !t10 then zp (fz s 0)else some false)>>=λr=>if(bif t10 then true else(!r)) then some false else k' (s,(s.length:Int),0)>>=λo=>match o with
 |.inl a=>
 some a
 |.inr b=>
 some true else none
theorem TR:ba QH kQ:= .bo (.k Ty .n) (.k WS .n)
def p2:aq×List aj×aq×Int×Int×List aj->Option ((Bool) ⊕ aq)
 |(c,a,t9,e,t11,b)=>
 if (t11<e:Bool) then if aH t11 t9.length then some (t9.getD t11.toNat 0)>>=λd=>some (bif decide (d<1)then true else decide (1000<d))>>=λt21=>some (decide (0<t11))>>=λt24=>some (dj .i64 t11 1)>>=λt29=>if(aH t29 c.length||(!((!t21)&&t24))) then some (bif t21 then true else bif t24 then decide (d<=c.getD t29.toNat 0)else false)>>=λt34=>if(aH t11 a.length||(!(!t34))) then some (bif t34 then true else jh b (a.getD t11.toNat []))>>=λt42=>if(aH t11 a.length||(!(!t42))) then (if !t42 then kQ (a.getD t11.toNat [])else some false)>>=λr=>if(bif t42 then true else(!r)) then some (.inl false)else if aH t11 a.length then p2 (c,a,t9,e,aM .i64 t11 1,iW b (a.getD t11.toNat []))else none else none else none else none else none else some (.inr c)
  partial_fixpoint
theorem XE:cQ 237 0 [0] N1 p2:= .rx p2.partial_correctness (.k TR .n)
def y'(c:aq×List aj):Option Bool:=
 match c with
 |(l,names)=>
 p2 (l,names,l,(l.length:Int),0,[])>>=λo=>match o with
 |.inl a=>
 some a
 |.inr b=>
 some (decide ((b.length:Int)<=16))
theorem JJ:ba Q3 y':= .bo .n (.k XE .n)
def rr:List c4×List c4×Int×Int×aq×List aj->Option (List c4×aq×List aj)
 |(c,t7,d,t9,a,b)=>
 if (t9<d:Bool) then if aH t9 t7.length then some (t7.getD t9.toNat dN)>>=λe=>some [e.ad]>>=λt16=>if room 8 (a++t16).length then some [e.Name]>>=λt21=>if room 16 (b++t21).length then rr (c,t7,d,aM .i64 t9 1,a++t16,b++t21)else none else none else none else some (c,a,b)
  partial_fixpoint
theorem Vx:cQ 209 0 [0] Pe rr:= .rx rr.partial_correctness
def vn(l:List c4):Option Bool:=
 rr (l,l,(l.length:Int),0,[],[])>>=λo=>some (decide (0<(o.1.length:Int)))>>=λt26=>(if t26 then y' (o.2.1,o.2.2)else some false)>>=λr=>some (bif t26 then r else false)
theorem Wc:ba QI vn:= .bo (.k JJ .n) (.k Vx .n)
def CE(v:I):Option Bool:=
 lN (I.eta v,(⟨0,false,0,[],0,[],[],[]⟩:I))>>=λr=>some r
theorem Xe:ba Q4 CE:= .bo (.k Te .n)
def pW:List aR×Int×Int×ah×aq×List aj->Option ((Bool) ⊕ (ah×aq×List aj))
 |(t8,e,t10,b,c,d)=>
 if (t10<e:Bool) then if aH t10 t8.length then some (t8.getD t10.toNat ay)>>=λa=>some [a.ad]>>=λt17=>if room 8 (c++t17).length then some [a.Name]>>=λt22=>if room 16 (d++t22).length then some (bif bif decide (b.Kind=6)then bif a.cf then true else a.bZ else false then true else bif a.cf then a.bZ else false)>>=λt42=>some (!a.bZ)>>=λt46=>(if((!t42)&&t46) then CE (I.eta a.bu)else some false)>>=λf=>if(bif t42 then true else bif t46 then(!f)else false) then some (.inl false)else pW (t8,e,aM .i64 t10 1,b,c++t17,d++t22)else none else none else none else some (.inr (b,c,d))
  partial_fixpoint
theorem Vy:cQ 210 0 [0] Pf pW:= .rx pW.partial_correctness (.k Xe .n)
def tO(t:ah):Option Bool:=
 pW (t.ag,(t.ag.length:Int),0,t,[],[])>>=λo=>match o with
 |.inl b=>
 some b
 |.inr a=>
 some (bif decide (a.1.Kind=5)then true else decide (0<(a.2.1.length:Int)))>>=λt62=>(if t62 then y' (a.2.1,a.2.2)else some false)>>=λr=>some (bif t62 then r else false)
theorem Wd:ba QJ tO:= .bo (.k JJ .n) (.k Vy .n)
def gD(t:ah):Option Bool:=
 if (t.Kind=1:Bool) then h7 ((⟨0,t.Name,t.bC,t.bG,t.Max,t.bj,t.ag,t.Key,t.aG,t.Open⟩:ah),(⟨0,[],0,0,0,[],[],0,0,false⟩:ah))>>=λr=>some r else if (t.Kind=2:Bool) then some (decide (t.bC<=t.bG))>>=λt17=>(if t17 then h7 ((⟨0,t.Name,0,0,t.Max,t.bj,t.ag,t.Key,t.aG,t.Open⟩:ah),(⟨0,[],0,0,0,[],[],0,0,false⟩:ah))else some false)>>=λj=>some (bif t17 then j else false)else if (t.Kind=3:Bool) then some (bif decide (0<=t.Max)then decide (t.Max<=200)else false)>>=λt29=>(if t29 then h7 ((⟨0,t.Name,t.bC,t.bG,0,t.bj,t.ag,t.Key,t.aG,t.Open⟩:ah),(⟨0,[],0,0,0,[],[],0,0,false⟩:ah))else some false)>>=λv=>some (bif t29 then v else false)else if (t.Kind=4:Bool) then kQ t.Name>>=λe=>(if e then vn t.bj else some false)>>=λA=>some (bif e then A else false)>>=λt40=>(if t40 then h7 ((⟨0,[],t.bC,t.bG,t.Max,[],t.ag,t.Key,t.aG,false⟩:ah),(⟨0,[],0,0,0,[],[],0,0,false⟩:ah))else some false)>>=λB=>some (bif t40 then B else false)else some (decide (t.Kind=5))>>=λt45=>if t45 then if t45 then kQ t.Name>>=λf=>(if f then tO t else some false)>>=λC=>some (bif f then C else false)>>=λt53=>(if t53 then h7 ((⟨0,[],t.bC,t.bG,t.Max,t.bj,[],t.Key,t.aG,bif t.Open then decide (t.Kind=5)else false⟩:ah),(⟨0,[],0,0,0,[],[],0,0,false⟩:ah))else some false)>>=λD=>some (bif t53 then D else false)else some (decide (t.Kind=7))>>=λt65=>if t65 then if t65 then some (bif decide (0<=t.Max)then decide (t.Max<=50)else false)>>=λt74=>if (t.Kind=8:Bool) then (if t74 then h7 ((⟨0,t.Name,t.bC,t.bG,0,t.bj,t.ag,0,0,t.Open⟩:ah),(⟨0,[],0,0,0,[],[],0,0,false⟩:ah))else some false)>>=λE=>some (bif t74 then E else false)else (if t74 then h7 ((⟨0,t.Name,t.bC,t.bG,0,t.bj,t.ag,t.Key,0,t.Open⟩:ah),(⟨0,[],0,0,0,[],[],0,0,false⟩:ah))else some false)>>=λk=>some (bif t74 then k else false)else if (t.Kind=9:Bool) then h7 ((⟨0,t.Name,t.bC,t.bG,t.Max,t.bj,t.ag,t.Key,0,t.Open⟩:ah),(⟨0,[],0,0,0,[],[],0,0,false⟩:ah))>>=λl=>some l else some false else if (t.Kind=8:Bool) then some (bif decide (0<=t.Max)then decide (t.Max<=50)else false)>>=λa=>if (t.Kind=8:Bool) then (if a then h7 ((⟨0,t.Name,t.bC,t.bG,0,t.bj,t.ag,0,0,t.Open⟩:ah),(⟨0,[],0,0,0,[],[],0,0,false⟩:ah))else some false)>>=λm=>some (bif a then m else false)else (if a then h7 ((⟨0,t.Name,t.bC,t.bG,0,t.bj,t.ag,t.Key,0,t.Open⟩:ah),(⟨0,[],0,0,0,[],[],0,0,false⟩:ah))else some false)>>=λn=>some (bif a then n else false)else if (t.Kind=9:Bool) then h7 ((⟨0,t.Name,t.bC,t.bG,t.Max,t.bj,t.ag,t.Key,0,t.Open⟩:ah),(⟨0,[],0,0,0,[],[],0,0,false⟩:ah))>>=λo=>some o else some false else if (t.Kind=6:Bool) then kQ t.Name>>=λd=>(if d then tO t else some false)>>=λp=>some (bif d then p else false)>>=λg=>(if g then h7 ((⟨0,[],t.bC,t.bG,t.Max,t.bj,[],t.Key,t.aG,bif t.Open then decide (t.Kind=5)else false⟩:ah),(⟨0,[],0,0,0,[],[],0,0,false⟩:ah))else some false)>>=λq=>some (bif g then q else false)else some (decide (t.Kind=7))>>=λi=>if i then if i then some (bif decide (0<=t.Max)then decide (t.Max<=50)else false)>>=λb=>if (t.Kind=8:Bool) then (if b then h7 ((⟨0,t.Name,t.bC,t.bG,0,t.bj,t.ag,0,0,t.Open⟩:ah),(⟨0,[],0,0,0,[],[],0,0,false⟩:ah))else some false)>>=λs=>some (bif b then s else false)
 else (if b then h7 ((⟨0,t.Name,t.bC,t.bG,0,t.bj,t.ag,t.Key,0,t.Open⟩:ah),(⟨0,[],0,0,0,[],[],0,0,false⟩:ah))else some false)>>=λu=>some (bif b then u else false)else if (t.Kind=9:Bool) then h7 ((⟨0,t.Name,t.bC,t.bG,t.Max,t.bj,t.ag,t.Key,0,t.Open⟩:ah),(⟨0,[],0,0,0,[],[],0,0,false⟩:ah))>>=λw=>some w else some false else if (t.Kind=8:Bool) then some (bif decide (0<=t.Max)then decide (t.Max<=50)else false)>>=λc=>if (t.Kind=8:Bool) then (if c then h7 ((⟨0,t.Name,t.bC,t.bG,0,t.bj,t.ag,0,0,t.Open⟩:ah),(⟨0,[],0,0,0,[],[],0,0,false⟩:ah))else some false)>>=λx=>some (bif c then x else false)else (if c then h7 ((⟨0,t.Name,t.bC,t.bG,0,t.bj,t.ag,t.Key,0,t.Open⟩:ah),(⟨0,[],0,0,0,[],[],0,0,false⟩:ah))else some false)>>=λy=>some (bif c then y else false)else if (t.Kind=9:Bool) then h7 ((⟨0,t.Name,t.bC,t.bG,t.Max,t.bj,t.ag,t.Key,0,t.Open⟩:ah),(⟨0,[],0,0,0,[],[],0,0,false⟩:ah))>>=λz=>some z else some false
theorem Xo:ba Qo gD:= .bo (.k Xd (.k TR (.k Wc (.k Wd .n))))
def qP:List aR×Int×Int×ah×aq->Option (ah×aq)
 |(t7,c,t9,b,a)=>
 if (t9<c:Bool) then if aH t9 t7.length then some [(t7.getD t9.toNat ay).av]>>=λt16=>if room 8 (a++t16).length then qP (t7,c,aM .i64 t9 1,b,a++t16)else none else none else some (b,a)
  partial_fixpoint
theorem We:cQ 170 0 [0] Pg qP:= .rx qP.partial_correctness
def CQ(t:ah):Option aq:=
 qP (t.ag,(t.ag.length:Int),0,t,[])>>=λo=>if (o.1.Kind=8:Bool) then some [o.1.Key]>>=λt25=>if room 8 (o.2++t25).length then some (o.2++t25)>>=λl=>if (7<=o.1.Kind:Bool) then some [o.1.aG]>>=λt33=>if room 8 (l++t33).length then some (l++t33)else none else some l else none else if (7<=o.1.Kind:Bool) then some [o.1.aG]>>=λa=>if room 8 (o.2++a).length then some (o.2++a)else none else some o.2
theorem Xp:ba Qp CQ:= .bo .n (.k We .n)
def pX:List ah×Int×Int×aq×Int×Int×List ah×List aj×Int×aj×Int×Int×Int×List c4×List aR×Int×Int×Bool->Option ((Int) ⊕ (List ah×Int×Int×List ah×List aj×Int×aj×Int×Int×Int×List c4×List aR×Int×Int×Bool))
 |(n,o,p,t38,q,t40,a,b,c,d,e,f,g,i,j,k,l,m)=>
 if (t40<q:Bool) then if aH t40 t38.length then some (t38.getD t40.toNat 0)>>=λr=>if(bif (r<0:Bool)then true else ((a.length:Int)<=r:Bool)) then some (.inl 4)else pX (n,o,p,t38,q,aM .i64 t40 1,a,b,c,d,e,f,g,i,j,k,l,m)else none else some (.inr (n,o,p,a,b,c,d,e,f,g,i,j,k,l,m))
  partial_fixpoint
theorem Vz:cQ 139 0 [0,0] MV pX:= .rx pX.partial_correctness
def qK(j:List ah×Int×Int×List ah×List aj):Option ((Int) ⊕ (Unit)):=
 match j with
 |(t14,f,t16,b,d)=>
 if (t16<f:Bool) then if aH t16 t14.length then some (t14.getD t16.toNat aN)>>=λa=>gD a>>=λr=>if(bif (!r)then true else bif (!(a.Name=[]:Bool))then jh d a.Name else false) then some (.inl 1)else CQ a>>=λe=>pX (t14,f,t16,e,(e.length:Int),0,b,iW d a.Name,a.Kind,a.Name,a.bC,a.bG,a.Max,a.bj,a.ag,a.Key,a.aG,a.Open)>>=λg=>match g with
 |.inl i=>
 some (.inl i)
 |.inr c=>
 some (decide (c.2.2.2.2.2.1=8))>>=λt56=>if(aH c.2.2.2.2.2.2.2.2.2.2.2.2.1 c.2.2.2.1.length||(!t56)) then some (decide ((c.2.2.2.1.getD c.2.2.2.2.2.2.2.2.2.2.2.2.1.toNat aN).Kind<1))>>=λt65=>if(aH c.2.2.2.2.2.2.2.2.2.2.2.2.1 c.2.2.2.1.length||(!(t56&&(!t65)))) then if(bif t56 then bif t65 then true else (4<(c.2.2.2.1.getD c.2.2.2.2.2.2.2.2.2.2.2.2.1.toNat aN).Kind:Bool)else false) then some (.inl 1)else qK (c.1,c.2.1,aM .i64 c.2.2.1 1,c.2.2.2.1,c.2.2.2.2.1)else none else none else none else some (.inr ())
  partial_fixpoint
theorem WT:cQ 139 0 [0] Ph qK:= .rx qK.partial_correctness (.k Xo (.k Xp .n)) (.k Vz .n)
def pw(s:aS):Option Int:=
 if (32<(s.Types.length:Int):Bool) then some 3 else qK (s.Types,(s.Types.length:Int),0,s.Types,[])>>=λo=>match o with
 |.inl a=>
 some a
 |.inr b=>
 some 0
theorem zq:ba Bi pw:= .bo .n (.k WT .n)
def vp(r:dO):Option Int:=
 pw r.cX>>=λa=>if !(a=0:Bool) then some a else if(bif (r.av<0:Bool)then true else ((r.cX.Types.length:Int)<=r.av:Bool)) then some 4 else some 0
theorem XF:ba ET vp:= .bo (.k zq .n)
def mD:List dO×Int×Int->Option ((Int) ⊕ (Unit))
 |(t6,a,t8)=>
 if (t8<a:Bool) then if aH t8 t6.length then vp (t6.getD t8.toNat I4)>>=λr=>if !(r=0:Bool) then some (.inl r)else mD (t6,a,aM .i64 t8 1)else none else some (.inr ())
  partial_fixpoint
theorem Wx:cQ 65 0 [0] E4 mD:= .rx mD.partial_correctness (.k XF .n)
def C8(l:List dO):Option Int:=
 mD (l,(l.length:Int),0)>>=λo=>match o with
 |.inl a=>
 some a
 |.inr b=>
 some 0
theorem XG:ba E3 C8:= .bo .n (.k Wx .n)
def hK:Int×List ah×aq×Int×aq->Option (I×Bool×List ah×Int×aq×aq)
 |(c,b,e,f,a)=>
 tb 8 a>>=λr=>if((r.1.length=a.length:Bool)&&true) then some ((⟨0,false,0,[],0,[],[],[]⟩:I),false,b,c,r.1,r.2)else none
theorem rk:ba Qq hK:= .bo (.k nY .n)
def mB:aj×Int×Int×Int->Option Int
 |(a,b,c,t18)=>
 if (t18<c:Bool) then if aH t18 a.length then mB (a,rQ .u64 (mX .u64 b 8) (bY .u64 (fz a t18)),c,aM .i64 t18 1)else none else some b
  partial_fixpoint
theorem VA:cQ 172 0 [0] Pj mB:= .rx mB.partial_correctness
def tP(s:aj):Option (Int×Int):=
 some (!(decide (s=[])))>>=λt7=>if(aH 0 s.length||(!t7)) then if(bif t7 then (fz s 0=0:Bool)else false) then some (0,2)else if (8<(s.length:Int):Bool) then some (0,7)else mB (s,0,(s.length:Int),0)>>=λo=>some (o,0)else none
theorem Wf:ba Qr tP:= .bo .n (.k VA .n)
def CZ(n:Int):Option Int:=
 some (uH .i64 (bY .i64 (lA .u64 n 1)) (dj .i64 0 (bY .i64 (A9 .u64 n 1))))
theorem WU:ba Qs CZ:= .bo
def G6:c4×Int->Option (Bool×Int)
 |(a,b)=>
 some (decide (a.ad=b),b)
theorem WV:ba QG G6:= .bo
def ns:List c4×Int×Int×Int->Option ((Int×Int) ⊕ (Int))
 |(a,c,t8,b)=>
 if (t8<c:Bool) then if aH t8 a.length then G6 (a.getD t8.toNat dN,b)>>=λr=>if r.1 then some (.inl (t8,r.2))else ns (a,c,aM .i64 t8 1,r.2)else none else some (.inr b)
  partial_fixpoint
theorem Us:cQ 205 1 [0] Pk ns:= .rx ns.partial_correctness (.k WV .n)
def Gk(d:List c4×Int):Option (Int×Int):=
 match d with
 |(s,b)=>
 ns (s,(s.length:Int),0,b)>>=λo=>match o with
 |.inl a=>
 some (a.1,a.2)
 |.inr c=>
 some ((-1),c)
theorem T7:ba QF Gk:= .bo .n (.k Us .n)
def tR:ah×Int->Option (Int×Bool)
 |(t,id)=>
 Gk (t.bj,id)>>=λr=>some (iz r.1 0,decide (0<=r.1))
theorem C0:ba Qm tR:= .bo (.k T7 .n)
def Da(a:Int):Option Bool:=
 some (!(decide (a=a)))
theorem XR:ba Re Da:= .bo
def CR:Int×Int->Option Int
 |(a,y)=>
 Da a>>=λr=>Da y>>=λb=>if r then if b then some 0 else some (-1)else if b then some 1 else if (a<y:Bool) then some (-1)else if (y<a:Bool) then some 1 else some 0
theorem Xq:ba QY CR:= .bo (.k XR .n)
def CS(a:Int):Option Bool:=
 some (!(decide (a=a)))
theorem Xr:ba Rc CS:= .bo
def yX:Int×Int->Option Int
 |(a,y)=>
 CS a>>=λr=>CS y>>=λb=>if r then if b then some 0 else some (-1)else if b then some 1 else if (a<y:Bool) then some (-1)else if (y<a:Bool) then some 1 else some 0
theorem XH:ba QV yX:= .bo (.k Xr .n)
def CT(a:aj):Option Bool:=
 some (!(decide (a=a)))
theorem Xs:ba Rf CT:= .bo
def C9:aj×aj->Option Int
 |(a,y)=>
 CT a>>=λr=>CT y>>=λb=>if r then if b then some 0 else some (-1)else if b then some 1 else if Op.bytesLess a y then some (-1)else if !(Op.bytesLess a y||(a=y:Bool)) then some 1 else some 0
theorem XI:ba Q0 C9:= .bo (.k Xs .n)
def q2:Int×aq×Int×Int->Option ((Int) ⊕ (Int))
 |(a,t6,b,t8)=>
 if (t8<b:Bool) then if aH t8 t6.length then some (t6.getD t8.toNat 0)>>=λc=>if !(c=a:Bool) then some (.inl c)else q2 (a,t6,b,aM .i64 t8 1)else none else some (.inr a)
  partial_fixpoint
theorem XS:cQ 233 0 [0] Po q2:= .rx q2.partial_correctness
def DX(a:aq):Option Int:=
 q2 (0,a,(a.length:Int),0)>>=λo=>match o with
 |.inl b=>
 some b
 |.inr c=>
 some c
theorem abk:ba QZ DX:= .bo .n (.k XS .n)
def vq(n:Int):Option Int:=
 some (uH .u64 (mX .u64 (bY .u64 n) 1) (bY .u64 (lA .i64 n 63)))
theorem TD:ba Qy vq:= .bo
def p3:I×I->Option Int
 |(a,b)=>
 if !(a.Kind=b.Kind:Bool) then some 0 else if (a.Kind=1:Bool) then if fB a.bL b.bL then some 0 else if b.bL then some (-1)else some 1 else if (a.Kind=2:Bool) then vq a.bf>>=λr=>vq b.bf>>=λc=>CR (r,c)>>=λd=>some d else if (a.Kind=3:Bool) then yX ((a.bn.length:Int),(b.bn.length:Int))>>=λe=>C9 (a.bn,b.bn)>>=λf=>DX [e,f]>>=λg=>some g else if (a.Kind=4:Bool) then yX (a.ad,b.ad)>>=λi=>some i else some 0
theorem TE:ba QE p3:= .bo (.k TD (.k Xq (.k XH (.k XI (.k abk .n)))))
def q9:List aj×Int×List ah×aq×Int×ah×Int×Bool×Int×aj×Int×Int×Bool×Int×aj×Int×aq×List I->Option ((Bool×List ah×Int×I×aq×aq) ⊕ (List aj×List ah×aq×Int×ah×Int×Bool×Int×aj×Int×Int×Bool×Int×aj×Int×aq×List I))
 |(t,b,d,e,f,i,j,k,l,m,n,o,p,q,r,s,g,a)=>
 if (b<(a.length:Int):Bool) then some (dj .i64 b 1)>>=λt86=>if aH t86 a.length then if (t86.toNat<a.length:Bool) then if aH b a.length then if (b.toNat<a.length:Bool) then p3 (I.eta (a.getD t86.toNat au),I.eta (a.getD b.toNat au))>>=λu=>if (0<=u:Bool) then hK (1,d,e,f,g)>>=λc=>some (.inl (c.2.1,c.2.2.1,c.2.2.2.1,I.eta c.1,c.2.2.2.2.1,c.2.2.2.2.2))else q9 (t,aM .i64 b 1,d,e,f,i,j,k,l,m,n,o,p,q,r,s,g,a)else none else none else none else none else some (.inr (t,d,e,f,i,j,k,l,m,n,o,p,q,r,s,g,a))
  partial_fixpoint
theorem Uk:cQ 177 2 [1] Pp q9:= .rx q9.partial_correctness (.k TE (.k rk .n))
def tS:aj×Int×Int×Int->Option ((Int×Int×Int) ⊕ (Unit))
 |(a,n,b,t11)=>
 if (t11<b:Bool) then if aH t11 a.length then some (fz a t11)>>=λt16=>if(bif (t11=9:Bool)then (1<t16:Bool)else false) then some (.inl (0,0,7))else if (128<=t16:Bool) then some (gF .i64 7 t11)>>=λt41=>if (0<=t41:Bool) then tS (a,rQ .u64 n (mX .u64 (bY .u64 (A9 .u8 t16 127)) t41),b,aM .i64 t11 1)else none else if(bif (t16=0:Bool)then (0<t11:Bool)else false) then some (.inl (0,0,2))else some (gF .i64 7 t11)>>=λt21=>if (0<=t21:Bool) then some (.inl (rQ .u64 n (mX .u64 (bY .u64 t16) t21),aM .i64 t11 1,0))else none else none else some (.inr ())
  partial_fixpoint
theorem XJ:cQ 254 0 [0] Pl tS:= .rx tS.partial_correctness
def DD(s:aj):Option (Int×Int×Int):=
 tS (s,0,ji 10 (s.length:Int),0)>>=λo=>match o with
 |.inl a=>
 some (a.1,a.2.1,a.2.2)
 |.inr b=>
 some (0,0,10)
theorem YC:ba Rg DD:= .bo .n (.k XJ .n)
def qV(s:aj):Option (Int×aj×Bool):=
 DD s>>=λr=>if !(r.2.2=0:Bool) then some (0,[],false)else if dY r.2.1 (s.length:Int) s.length then some (r.1,ef s r.2.1 (s.length:Int),true)else none
theorem GG:ba Q9 qV:= .bo (.k YC .n)
def y4(s:aj):Option (aj×aj×Bool):=
 qV s>>=λr=>if(bif (!r.2.2)then true else (bY .u64 (r.2.1.length:Int)<r.1:Bool)) then some ([],[],false)else if dY 0 r.1 r.2.1.length then if dY r.1 (r.2.1.length:Int) r.2.1.length then some (ef r.2.1 0 r.1,ef r.2.1 r.1 (r.2.1.length:Int),true)else none else none
theorem Tf:ba Q' y4:= .bo (.k GG .n)
def hL:aj×List aj->Option ((Int) ⊕ (List aj))
 |(s,a)=>
 if !(s=[]:Bool) then y4 s>>=λr=>if !r.2.2 then some (.inl 12)else some [r.1]>>=λt22=>if room 16 (a++t22).length then hL (r.2.1,a++t22)else none else some (.inr a)
  partial_fixpoint
theorem Wh:cQ 213 0 [0] Pn hL:= .rx hL.partial_correctness (.k Tf .n)
def lf(c:aj):Option (List aj×Int):=
 hL (c,[])>>=λo=>match o with
 |.inl a=>
 some ([],a)
 |.inr b=>
 some (b,0)
theorem TS:ba QM lf:= .bo .n (.k Wh .n)
mutual
def jO(v:I):Option I:=
 fK 120 v.aw>>=λr=>fK 120 v.ai>>=λU=>fK 24 v.Rest>>=λW=>sW ((r.length:Int),0,v.Kind,v.bL,v.bf,v.bn,v.ad,0,false,0,[],0,r,U,W)>>=λo=>tH ((o.2.2.2.2.2.2.2.2.2.2.2.1.length:Int),0,o.1,o.2.1,o.2.2.1,o.2.2.2.1,o.2.2.2.2.1,o.2.2.2.2.2.1,o.2.2.2.2.2.2.1,o.2.2.2.2.2.2.2.1,o.2.2.2.2.2.2.2.2.1,o.2.2.2.2.2.2.2.2.2.1,o.2.2.2.2.2.2.2.2.2.2.2.1,o.2.2.2.2.2.2.2.2.2.2.1,o.2.2.2.2.2.2.2.2.2.2.2.2)>>=λa=>some (⟨a.1,a.2.1,a.2.2.1,a.2.2.2.1,a.2.2.2.2.1,a.2.2.2.2.2.2.2.2.2.2.1,a.2.2.2.2.2.2.2.2.2.2.2.1,a.2.2.2.2.2.2.2.2.2.2.2.2⟩:I)
  partial_fixpoint
def sW:Int×Int×Int×Bool×Int×aj×Int×Int×Bool×Int×aj×Int×List I×List I×List bX->Option (Int×Bool×Int×aj×Int×Int×Bool×Int×aj×Int×List I×List I×List bX)
 |(R,t22,j,p,q,t,u,w,x,y,z,A,c,B,D)=>
 if (t22<R:Bool) then if aH t22 c.length then if (t22.toNat<c.length:Bool) then jO (I.eta (c.getD t22.toNat au))>>=λX=>if aH t22 c.length then if (t22.toNat<c.length:Bool) then sW (R,aM .i64 t22 1,j,p,q,t,u,w,x,y,z,A,c.set t22.toNat (I.eta X),B,D)else none else none else none else none else some (j,p,q,t,u,w,x,y,z,A,c,B,D)
  partial_fixpoint
def tH:Int×Int×Int×Bool×Int×aj×Int×Int×Bool×Int×aj×Int×List I×List I×List bX->Option (Int×Bool×Int×aj×Int×Int×Bool×Int×aj×Int×List I×List I×List bX)
 |(S,t37,E,F,G,H,J,K,L,M,N,O,e,P,Q)=>
 if (t37<S:Bool) then if aH t37 e.length then if (t37.toNat<e.length:Bool) then jO (I.eta (e.getD t37.toNat au))>>=λY=>if aH t37 e.length then if (t37.toNat<e.length:Bool) then tH (S,aM .i64 t37 1,E,F,G,H,J,K,L,M,N,O,e.set t37.toNat (I.eta Y),P,Q)else none else none else none else none else some (E,F,G,H,J,K,L,M,N,O,P,e,Q)
  partial_fixpoint
end
theorem Wi:ei uZ jO/\eF 217 0 [1] zU tH/\eF 217 0 [0] zT sW:=jO.mutual_partial_correctness (ed uZ) (eE 217 0 [1] zU) (eE 217 0 [0] zT)
 (λ_ _ h1 a _ _ h=>er h (.k nv (.k ph .n)) (.k (eR zT a) (.k (eR zU h1) .n)))
 (λ_ _ h0 h1 _ _ h=>eQ zU h1 h (.k (cm uZ h0) .n))
 (λ_ _ h0 a _ _ h=>eQ zT a h (.k (cm uZ h0) .n))
theorem XK:ba uZ jO:=cm _ Wi.1
def Gp:cO×aR->Option (Bool×aR)
 |(f,b)=>
 some (decide (f.ad=b.ad),(⟨b.ad,b.Name,b.av,b.cf,b.bZ,I.eta b.bu⟩:aR))
theorem UZ:ba QP Gp:= .bo
def pq:List cO×Int×Int×aR->Option ((Int×aR) ⊕ (aR))
 |(b,c,t8,a)=>
 if (t8<c:Bool) then if aH t8 b.length then Gp (b.getD t8.toNat gu,(⟨a.ad,a.Name,a.av,a.cf,a.bZ,I.eta a.bu⟩:aR))>>=λr=>if r.1 then some (.inl (t8,(⟨r.2.ad,r.2.Name,r.2.av,r.2.cf,r.2.bZ,I.eta r.2.bu⟩:aR)))else pq (b,c,aM .i64 t8 1,(⟨r.2.ad,r.2.Name,r.2.av,r.2.cf,r.2.bZ,I.eta r.2.bu⟩:aR))else none else some (.inr (⟨a.ad,a.Name,a.av,a.cf,a.bZ,I.eta a.bu⟩:aR))
  partial_fixpoint
theorem T6:cQ 215 1 [0] Pr pq:= .rx pq.partial_correctness (.k UZ .n)
def yK(d:List cO×aR):Option (Int×aR):=
 match d with
 |(s,b)=>
 pq (s,(s.length:Int),0,(⟨b.ad,b.Name,b.av,b.cf,b.bZ,I.eta b.bu⟩:aR))>>=λo=>match o with
 |.inl a=>
 some (a.1,(⟨a.2.ad,a.2.Name,a.2.av,a.2.cf,a.2.bZ,I.eta a.2.bu⟩:aR))
 |.inr c=>
 some ((-1),(⟨c.ad,c.Name,c.av,c.cf,c.bZ,I.eta c.bu⟩:aR))
theorem Ua:ba QO yK:= .bo .n (.k T6 .n)
def G7:aR×Int->Option (Bool×Int)
 |(m,b)=>
 some (decide (m.ad=b),b)
theorem Wj:ba Qj G7:= .bo
def pn:List aR×Int×Int×Int->Option ((Int×Int) ⊕ (Int))
 |(b,d,t8,c)=>
 if (t8<d:Bool) then if aH t8 b.length then some (b.getD t8.toNat ay)>>=λa=>G7 ((⟨a.ad,a.Name,a.av,a.cf,a.bZ,I.eta a.bu⟩:aR),c)>>=λr=>if r.1 then some (.inl (t8,r.2))else pn (b,d,aM .i64 t8 1,r.2)else none else some (.inr c)
  partial_fixpoint
theorem Ut:cQ 137 1 [0] Pm pn:= .rx pn.partial_correctness (.k Wj .n)
def Gl(d:List aR×Int):Option (Int×Int):=
 match d with
 |(s,b)=>
 pn (s,(s.length:Int),0,b)>>=λo=>match o with
 |.inl a=>
 some (a.1,a.2)
 |.inr c=>
 some ((-1),c)
theorem T8:ba Qi Gl:= .bo .n (.k Ut .n)
def hl:ah×Int->Option (Int×Bool)
 |(t,id)=>
 Gl (t.ag,id)>>=λr=>some (iz r.1 0,decide (0<=r.1))
theorem nD:ba RC hl:= .bo (.k T8 .n)
def oY:List cO×Int×Int×List ah×aq×Int×ah×Int×Bool×Int×aj×Int×Int×Bool×Int×aj×Int×aq×List I×List bX->Option ((Bool×List ah×Int×I×aq×aq) ⊕ (List ah×aq×Int×Int×Bool×Int×aj×Int×Int×Bool×Int×aj×Int×aq×List I×List bX))
 |(t117,u,t119,d,e,f,i,j,k,l,m,n,o,p,q,r,s,b,t,g)=>
 if (t119<u:Bool) then if aH t119 t117.length then some (t117.getD t119.toNat gu)>>=λc=>hl (i,c.ad)>>=λv=>if v.2 then oY (t117,u,aM .i64 t119 1,d,e,f,i,j,k,l,m,n,o,p,q,r,s,b,t,g)else if c.cf then some [c.ad]>>=λt140=>if room 8 (b++t140).length then hK (6,d,e,f,b++t140)>>=λa=>some (dj .i64 (a.2.2.2.2.1.length:Int) 1)>>=λt159=>if dY 0 t159 a.2.2.2.2.1.length then if (t159.toNat<=a.2.2.2.2.1.length:Bool) then some (.inl (false,a.2.2.1,a.2.2.2.1,I.eta a.1,a.2.2.2.2.1.take t159.toNat,a.2.2.2.2.2))else none else none else none else some [(⟨c.ad,c.Data⟩:bX)]>>=λt171=>if room 24 (g++t171).length then oY (t117,u,aM .i64 t119 1,d,e,f,i,j,k,l,m,n,o,p,q,r,s,b,t,g++t171)else none else none else some (.inr (d,e,f,j,k,l,m,n,o,p,q,r,s,b,t,g))
  partial_fixpoint
theorem Uo:cQ 178 2 [1] Ps oY:= .rx oY.partial_correctness (.k nD (.k rk .n))
def gg:Int×aj×List cO->Option ((Int) ⊕ (List cO))
 |(last,s,a)=>
 if !(s=[]:Bool) then qV s>>=λr=>if(bif bif (!r.2.2)then true else (fC .u64 r.1 2<=last:Bool)then true else (1000<fC .u64 r.1 2:Bool)) then some (.inl 12)else y4 r.2.1>>=λb=>if !b.2.2 then some (.inl 12)else some [(⟨bY .i64 (fC .u64 r.1 2),decide (b' r.1 2=1),b.1⟩:cO)]>>=λt50=>if room 32 (a++t50).length then gg (fC .u64 r.1 2,b.2.1,a++t50)else none else some (.inr a)
  partial_fixpoint
theorem Wy:cQ 214 0 [0] Pq gg:= .rx gg.partial_correctness (.k GG (.k Tf .n))
def lL(c:aj):Option (List cO×Int):=
 gg (0,c,[])>>=λo=>match o with
 |.inl a=>
 some ([],a)
 |.inr b=>
 some (b,0)
theorem XL:ba QN lL:= .bo .n (.k Wy .n)
def lR(a:aj):Option (Int×aj×Int):=
 qV a>>=λr=>if(bif bif (!r.2.2)then true else (r.1<1:Bool)then true else (1000<r.1:Bool)) then some (0,[],12)else some (bY .i64 r.1,r.2.1,0)
theorem YD:ba QL lR:= .bo (.k GG .n)
mutual
def yR(y:ah×aj×List ah×aq×Int×aq):Option (I×Bool×List ah×aq×Int×aq):=
 match y with
 |(c,p,b,f,j,e)=>
 lf p>>=λr=>if(bif (!(r.2=0:Bool))then true else(!(b' (r.1.length:Int) 2=0:Bool))) then hK (1,b,f,j,e)>>=λx=>some (I.eta x.1,x.2.1,x.2.2.1,x.2.2.2.2.2,x.2.2.2.1,x.2.2.2.2.1)else if (c.Max<fC .i64 (r.1.length:Int) 2:Bool) then hK (3,b,f,j,e)>>=λv=>some (I.eta v.1,v.2.1,v.2.2.1,v.2.2.2.2.2,v.2.2.2.1,v.2.2.2.2.1)else s5 (r.1,0,b,f,j,c,0,false,0,[],0,c.Kind,false,0,[],0,e,[])>>=λo=>match o with
 |.inl w=>
 some (I.eta w.2.2.2.2.1,w.1,w.2.1,w.2.2.1,w.2.2.2.1,w.2.2.2.2.2)
 |.inr a=>
 q9 (a.1,1,a.2.1,a.2.2.1,a.2.2.2.1,a.2.2.2.2.1,a.2.2.2.2.2.1,a.2.2.2.2.2.2.1,a.2.2.2.2.2.2.2.1,a.2.2.2.2.2.2.2.2.1,a.2.2.2.2.2.2.2.2.2.1,a.2.2.2.2.2.2.2.2.2.2.1,a.2.2.2.2.2.2.2.2.2.2.2.1,a.2.2.2.2.2.2.2.2.2.2.2.2.1,a.2.2.2.2.2.2.2.2.2.2.2.2.2.1,a.2.2.2.2.2.2.2.2.2.2.2.2.2.2.1,a.2.2.2.2.2.2.2.2.2.2.2.2.2.2.2.1,a.2.2.2.2.2.2.2.2.2.2.2.2.2.2.2.2)>>=λbv=>match bv with
 |.inl B=>
 some (I.eta B.2.2.2.1,B.1,B.2.1,B.2.2.2.2.2,B.2.2.1,B.2.2.2.2.1)
 |.inr u=>
 s6 (u.1,1,u.2.1,u.2.2.1,u.2.2.2.1,u.2.2.2.2.1,u.2.2.2.2.2.1,u.2.2.2.2.2.2.1,u.2.2.2.2.2.2.2.1,u.2.2.2.2.2.2.2.2.1,u.2.2.2.2.2.2.2.2.2.1,u.2.2.2.2.2.2.2.2.2.2.1,u.2.2.2.2.2.2.2.2.2.2.2.1,u.2.2.2.2.2.2.2.2.2.2.2.2.1,u.2.2.2.2.2.2.2.2.2.2.2.2.2.1,u.2.2.2.2.2.2.2.2.2.2.2.2.2.2.1,u.2.2.2.2.2.2.2.2.2.2.2.2.2.2.2.1,u.2.2.2.2.2.2.2.2.2.2.2.2.2.2.2.2,[])>>=λio=>match io with
 |.inl H=>
 some (I.eta H.2.2.2.2.1,H.1,H.2.1,H.2.2.1,H.2.2.2.1,H.2.2.2.2.2)
 |.inr D=>
 some ((⟨D.2.2.2.2.2.2.2.2.1,D.2.2.2.2.2.2.2.2.2.1,D.2.2.2.2.2.2.2.2.2.2.1,D.2.2.2.2.2.2.2.2.2.2.2.1,D.2.2.2.2.2.2.2.2.2.2.2.2.1,D.2.2.2.2.2.2.2.2.2.2.2.2.2.2.1,D.2.2.2.2.2.2.2.2.2.2.2.2.2.2.2,[]⟩:I),true,D.1,D.2.1,D.2.2.1,D.2.2.2.2.2.2.2.2.2.2.2.2.2.1)
  partial_fixpoint
def Co(y:ah×aj×List ah×aq×Int×aq):Option (I×Bool×List ah×aq×Int×aq):=
 match y with
 |(c,p,b,f,j,e)=>
 lf p>>=λr=>if !(r.2=0:Bool) then hK (1,b,f,j,e)>>=λx=>some (I.eta x.1,x.2.1,x.2.2.1,x.2.2.2.2.2,x.2.2.2.1,x.2.2.2.2.1)else if (c.Max<(r.1.length:Int):Bool) then hK (3,b,f,j,e)>>=λv=>some (I.eta v.1,v.2.1,v.2.2.1,v.2.2.2.2.2,v.2.2.2.1,v.2.2.2.2.1)else sA (r.1,(r.1.length:Int),0,b,f,j,c,0,false,0,[],0,c.Kind,false,0,[],0,e,[])>>=λo=>match o with
 |.inl w=>
 some (I.eta w.2.2.2.2.1,w.1,w.2.1,w.2.2.1,w.2.2.2.1,w.2.2.2.2.2)
 |.inr a=>
 some ((⟨a.2.2.2.2.2.2.2.2.1,a.2.2.2.2.2.2.2.2.2.1,a.2.2.2.2.2.2.2.2.2.2.1,a.2.2.2.2.2.2.2.2.2.2.2.1,a.2.2.2.2.2.2.2.2.2.2.2.2.1,[],a.2.2.2.2.2.2.2.2.2.2.2.2.2.2,[]⟩:I),true,a.1,a.2.1,a.2.2.1,a.2.2.2.2.2.2.2.2.2.2.2.2.2.1)
  partial_fixpoint
def jc:Int×Int×aj×List ah×aq×Int×aq->Option (I×Bool×List ah×aq×Int×aq)
 |(step,t,p,b,f,j,e)=>
 some [step]>>=λt18=>if room 8 (e++t18).length then o7 (t,p,b,f,j,e++t18)>>=λr=>some (dj .i64 (r.2.2.2.2.2.length:Int) 1)>>=λt39=>if dY 0 t39 r.2.2.2.2.2.length then if (t39.toNat<=r.2.2.2.2.2.length:Bool) then some (I.eta r.1,r.2.1,r.2.2.1,r.2.2.2.1,r.2.2.2.2.1,r.2.2.2.2.2.take t39.toNat)else none else none else none
  partial_fixpoint
def o7:Int×aj×List ah×aq×Int×aq->Option (I×Bool×List ah×aq×Int×aq)
 |(t,p,b,f,j,e)=>
 if (200<=(e.length:Int):Bool) then hK (8,b,f,j,e)>>=λr=>some (I.eta r.1,r.2.1,r.2.2.1,r.2.2.2.2.2,r.2.2.2.1,r.2.2.2.2.1)else if aH t b.length then some (b.getD t.toNat aN)>>=λc=>if (c.Kind=1:Bool) then some (decide (p=[1]))>>=λt50=>if(bif (!(p=[]:Bool))then(!t50)else false) then hK (1,b,f,j,e)>>=λP=>some (I.eta P.1,P.2.1,P.2.2.1,P.2.2.2.2.2,P.2.2.2.1,P.2.2.2.2.1)else some ((⟨c.Kind,t50,0,[],0,[],[],[]⟩:I),true,b,f,j,e)else if (c.Kind=2:Bool) then tP p>>=λF=>if !(F.2=0:Bool) then hK (1,b,f,j,e)>>=λq=>some (I.eta q.1,q.2.1,q.2.2.1,q.2.2.2.2.2,q.2.2.2.1,q.2.2.2.2.1)else CZ F.1>>=λbR=>if(bif (bR<c.bC:Bool)then true else (c.bG<bR:Bool)) then hK (2,b,f,j,e)>>=λJ=>some (I.eta J.1,J.2.1,J.2.2.1,J.2.2.2.2.2,J.2.2.2.1,J.2.2.2.2.1)else some ((⟨c.Kind,false,bR,[],0,[],[],[]⟩:I),true,b,f,j,e)else if (c.Kind=3:Bool) then if (c.Max<(p.length:Int):Bool) then hK (3,b,f,j,e)>>=λz=>some (I.eta z.1,z.2.1,z.2.2.1,z.2.2.2.2.2,z.2.2.2.1,z.2.2.2.2.1)else some ((⟨c.Kind,false,0,p,0,[],[],[]⟩:I),true,b,f,j,e)else if (c.Kind=4:Bool) then tP p>>=λaC=>if(bif bif (!(aC.2=0:Bool))then true else (aC.1<1:Bool)then true else (1000<aC.1:Bool)) then hK (1,b,f,j,e)>>=λL=>some (I.eta L.1,L.2.1,L.2.2.1,L.2.2.2.2.2,L.2.2.2.1,L.2.2.2.2.1)else some (bY .i64 aC.1)>>=λt130=>tR (c,t130)>>=λi0=>if(bif (!i0.2)then(!c.Open)else false) then hK (4,b,f,j,e)>>=λM=>some (I.eta M.1,M.2.1,M.2.2.1,M.2.2.2.2.2,M.2.2.2.1,M.2.2.2.2.1)else some ((⟨c.Kind,false,0,[],t130,[],[],[]⟩:I),true,b,f,j,e)else if (c.Kind=9:Bool) then if (p=[]:Bool) then some ((⟨c.Kind,false,0,[],0,[],[],[]⟩:I),true,b,f,j,e)else if aH 0 p.length then if !(fz p 0=1:Bool) then hK (1,b,f,j,e)>>=λN=>some (I.eta N.1,N.2.1,N.2.2.1,N.2.2.2.2.2,N.2.2.2.1,N.2.2.2.2.1)else if dY 1 (p.length:Int) p.length then jc (0,c.aG,ef p 1 (p.length:Int),b,f,j,e)>>=λO=>some ((⟨c.Kind,false,0,[],0,[],[I.eta O.1],[]⟩:I),O.2.1,O.2.2.1,O.2.2.2.1,O.2.2.2.2.1,O.2.2.2.2.2)else none else none else if (c.Kind=6:Bool) then Cl (c,p,b,f,j,e)>>=λQ=>some (I.eta Q.1,Q.2.1,Q.2.2.1,Q.2.2.2.1,Q.2.2.2.2.1,Q.2.2.2.2.2)else if (c.Kind=7:Bool) then Co (c,p,b,f,j,e)>>=λR=>some (I.eta R.1,R.2.1,R.2.2.1,R.2.2.2.1,R.2.2.2.2.1,R.2.2.2.2.2)else if (c.Kind=8:Bool) then yR (c,p,b,f,j,e)>>=λS=>some (I.eta S.1,S.2.1,S.2.2.1,S.2.2.2.1,S.2.2.2.2.1,S.2.2.2.2.2)else yS (c,p,b,f,j,e)>>=λU=>some (I.eta U.1,U.2.1,U.2.2.1,U.2.2.2.1,U.2.2.2.2.1,U.2.2.2.2.2)else none
  partial_fixpoint
def yS(y:ah×aj×List ah×aq×Int×aq):Option (I×Bool×List ah×aq×Int×aq):=
 match y with
 |(c,p,b,f,j,e)=>
 lL p>>=λr=>if !(r.2=0:Bool) then hK (1,b,f,j,e)>>=λx=>some (I.eta x.1,x.2.1,x.2.2.1,x.2.2.2.2.2,x.2.2.2.1,x.2.2.2.2.1)else mw (r.1,c.ag,(c.ag.length:Int),0,b,f,j,c,0,false,0,[],0,c.Kind,false,0,[],0,e,[])>>=λo=>match o with
 |.inl w=>
 some (I.eta w.2.2.2.2.1,w.1,w.2.1,w.2.2.1,w.2.2.2.1,w.2.2.2.2.2)
 |.inr a=>
 oY (a.1,(a.1.length:Int),0,a.2.1,a.2.2.1,a.2.2.2.1,a.2.2.2.2.1,a.2.2.2.2.2.1,a.2.2.2.2.2.2.1,a.2.2.2.2.2.2.2.1,a.2.2.2.2.2.2.2.2.1,a.2.2.2.2.2.2.2.2.2.1,a.2.2.2.2.2.2.2.2.2.2.1,a.2.2.2.2.2.2.2.2.2.2.2.1,a.2.2.2.2.2.2.2.2.2.2.2.2.1,a.2.2.2.2.2.2.2.2.2.2.2.2.2.1,a.2.2.2.2.2.2.2.2.2.2.2.2.2.2.1,a.2.2.2.2.2.2.2.2.2.2.2.2.2.2.2.1,a.2.2.2.2.2.2.2.2.2.2.2.2.2.2.2.2,[])>>=λbv=>match bv with
 |.inl B=>
 some (I.eta B.2.2.2.1,B.1,B.2.1,B.2.2.2.2.2,B.2.2.1,B.2.2.2.2.1)
 |.inr u=>
 some ((⟨u.2.2.2.2.2.2.2.2.1,u.2.2.2.2.2.2.2.2.2.1,u.2.2.2.2.2.2.2.2.2.2.1,u.2.2.2.2.2.2.2.2.2.2.2.1,u.2.2.2.2.2.2.2.2.2.2.2.2.1,[],u.2.2.2.2.2.2.2.2.2.2.2.2.2.2.1,u.2.2.2.2.2.2.2.2.2.2.2.2.2.2.2⟩:I),true,u.1,u.2.1,u.2.2.1,u.2.2.2.2.2.2.2.2.2.2.2.2.2.1)
  partial_fixpoint
def Cl:ah×aj×List ah×aq×Int×aq->Option (I×Bool×List ah×aq×Int×aq)
 |(c,p,b,f,j,e)=>
 lR p>>=λr=>if !(r.2.2=0:Bool) then hK (1,b,f,j,e)>>=λK=>some (I.eta K.1,K.2.1,K.2.2.1,K.2.2.2.2.2,K.2.2.2.1,K.2.2.2.2.1)else hl (c,r.1)>>=λbD=>if bD.2 then if aH bD.1 c.ag.length then jc (r.1,(c.ag.getD bD.1.toNat ay).av,r.2.1,b,f,j,e)>>=λF=>some ((⟨c.Kind,false,0,[],r.1,[],[I.eta F.1],[]⟩:I),F.2.1,F.2.2.1,F.2.2.2.1,F.2.2.2.2.1,F.2.2.2.2.2)else none else if !c.Open then hK (5,b,f,j,e)>>=λA=>some (I.eta A.1,A.2.1,A.2.2.1,A.2.2.2.2.2,A.2.2.2.1,A.2.2.2.2.1)else some ((⟨c.Kind,false,0,[],r.1,[],[],[(⟨r.1,r.2.1⟩:bX)]⟩:I),true,b,f,j,e)
  partial_fixpoint
def s5:List aj×Int×List ah×aq×Int×ah×Int×Bool×Int×aj×Int×Int×Bool×Int×aj×Int×aq×List I->Option ((Bool×List ah×aq×Int×I×aq) ⊕ (List aj×List ah×aq×Int×ah×Int×Bool×Int×aj×Int×Int×Bool×Int×aj×Int×aq×List I))
 |(af,i,g5,g6,g7,bp,g8,g9,he,hk,hm,hs,ht,hu,hw,hH,h0,bs)=>
 if (i<(af.length:Int):Bool) then if aH i af.length then jc (fC .i64 i 2,bp.Key,af.getD i.toNat [],g5,g6,g7,h0)>>=λq=>if !q.2.1 then some (.inl (false,q.2.2.1,q.2.2.2.1,q.2.2.2.2.1,I.eta q.1,q.2.2.2.2.2))else some [I.eta q.1]>>=λt73=>if room 120 (bs++t73).length then s5 (af,aM .i64 i 2,q.2.2.1,q.2.2.2.1,q.2.2.2.2.1,bp,g8,g9,he,hk,hm,hs,ht,hu,hw,hH,q.2.2.2.2.2,bs++t73)else none else none else some (.inr (af,g5,g6,g7,bp,g8,g9,he,hk,hm,hs,ht,hu,hw,hH,h0,bs))
  partial_fixpoint
def s6:List aj×Int×List ah×aq×Int×ah×Int×Bool×Int×aj×Int×Int×Bool×Int×aj×Int×aq×List I×List I->Option ((Bool×List ah×aq×Int×I×aq) ⊕ (List ah×aq×Int×Int×Bool×Int×aj×Int×Int×Bool×Int×aj×Int×aq×List I×List I))
 |(ax,Z,h1,b0,b1,b2,b3,b4,ce,ci,cr,cs,c8,ds,dt,eq,es,ex,aD)=>
 if (Z<(ax.length:Int):Bool) then if aH Z ax.length then jc (fC .i64 Z 2,b2.aG,ax.getD Z.toNat [],h1,b0,b1,es)>>=λz=>if !z.2.1 then some (.inl (false,z.2.2.1,z.2.2.2.1,z.2.2.2.2.1,I.eta z.1,z.2.2.2.2.2))else some [I.eta z.1]>>=λt125=>if room 120 (aD++t125).length then s6 (ax,aM .i64 Z 2,z.2.2.1,z.2.2.2.1,z.2.2.2.2.1,b2,b3,b4,ce,ci,cr,cs,c8,ds,dt,eq,z.2.2.2.2.2,ex,aD++t125)else none else none else some (.inr (h1,b0,b1,b3,b4,ce,ci,cr,cs,c8,ds,dt,eq,es,ex,aD))
  partial_fixpoint
def sA:List aj×Int×Int×List ah×aq×Int×ah×Int×Bool×Int×aj×Int×Int×Bool×Int×aj×Int×aq×List I->Option ((Bool×List ah×aq×Int×I×aq) ⊕ (List ah×aq×Int×Int×Bool×Int×aj×Int×Int×Bool×Int×aj×Int×aq×List I))
 |(t38,ii,t40,fd,ff,fo,fs,gc,gd,ge,gl,gs,gt,g0,g1,g2,g3,g4,aJ)=>
 if (t40<ii:Bool) then if aH t40 t38.length then jc (t40,fs.aG,t38.getD t40.toNat [],fd,ff,fo,g4)>>=λq=>if !q.2.1 then some (.inl (false,q.2.2.1,q.2.2.2.1,q.2.2.2.2.1,I.eta q.1,q.2.2.2.2.2))else some [I.eta q.1]>>=λt60=>if room 120 (aJ++t60).length then sA (t38,ii,aM .i64 t40 1,q.2.2.1,q.2.2.2.1,q.2.2.2.2.1,fs,gc,gd,ge,gl,gs,gt,g0,g1,g2,g3,q.2.2.2.2.2,aJ++t60)else none else none else some (.inr (fd,ff,fo,gc,gd,ge,gl,gs,gt,g0,g1,g2,g3,g4,aJ))
  partial_fixpoint
def mw:List cO×List aR×Int×Int×List ah×aq×Int×ah×Int×Bool×Int×aj×Int×Int×Bool×Int×aj×Int×aq×List I->Option ((Bool×List ah×aq×Int×I×aq) ⊕ (List cO×List ah×aq×Int×ah×Int×Bool×Int×aj×Int×Int×Bool×Int×aj×Int×aq×List I))
 |(G,t39,bT,t41,am,an,ap,aZ,a0,a1,a2,a3,a4,a5,a9,bb,be,bi,X,Y)=>
 if (t41<bT:Bool) then if aH t41 t39.length then some (t39.getD t41.toNat ay)>>=λW=>yK (G,(⟨W.ad,W.Name,W.av,W.cf,W.bZ,I.eta W.bu⟩:aR))>>=λv=>if (0<=v.1:Bool) then if aH v.1 G.length then jc (v.2.ad,v.2.av,(G.getD v.1.toNat gu).Data,am,an,ap,X)>>=λE=>if !E.2.1 then some (.inl (false,E.2.2.1,E.2.2.2.1,E.2.2.2.2.1,I.eta E.1,E.2.2.2.2.2))else some [I.eta E.1]>>=λt102=>if room 120 (Y++t102).length then mw (G,t39,bT,aM .i64 t41 1,E.2.2.1,E.2.2.2.1,E.2.2.2.2.1,aZ,a0,a1,a2,a3,a4,a5,a9,bb,be,bi,E.2.2.2.2.2,Y++t102)else none else none else if v.2.bZ then jO (I.eta v.2.bu)>>=λip=>some [I.eta ip]>>=λt113=>if room 120 (Y++t113).length then mw (G,t39,bT,aM .i64 t41 1,am,an,ap,aZ,a0,a1,a2,a3,a4,a5,a9,bb,be,bi,X,Y++t113)else none else some [v.2.ad]>>=λt55=>if room 8 (X++t55).length then hK (7,am,an,ap,X++t55)>>=λA=>some (dj .i64 (A.2.2.2.2.1.length:Int) 1)>>=λt74=>if dY 0 t74 A.2.2.2.2.1.length then if (t74.toNat<=A.2.2.2.2.1.length:Bool) then some (.inl (false,A.2.2.1,A.2.2.2.2.2,A.2.2.2.1,I.eta A.1,A.2.2.2.2.1.take t74.toNat))else none else none else none else none else some (.inr (G,am,an,ap,aZ,a0,a1,a2,a3,a4,a5,a9,bb,be,bi,X,Y))
  partial_fixpoint
end
theorem TW:ei Bl yR/\eF 177 2 [2] zS s6/\ei oT jc/\ei xp o7/\ei Bm yS/\eF 178 2 [0] zt mw/\ei Bk Co/\eF 176 2 [0] zQ sA/\ei Bj Cl/\eF 177 2 [0] zR s5:=yR.mutual_partial_correctness (ed Bl) (eE 177 2 [2] zS) (ed oT) (ed xp) (ed Bm) (eE 178 2 [0] zt) (ed Bk) (eE 176 2 [0] zQ) (ed Bj) (eE 177 2 [0] zR)
 (λ_ _ h1 c _ _ h=>er h (.k TS (.k rk .n)) (.k (eR zR c) (.k Uk (.k (eR zS h1) .n))))
 (λ_ _ h1 a _ _ h=>eQ zS h1 h (.k (cm oT a) .n))
 (λ_ d _ _ h=>er h (.k (cm xp d) .n))
 (λ_ _ _ _ _ h0 a e f g _ _ h=>er h (.k rk (.k Wf (.k WU (.k C0 (.k (cm oT a) (.k (cm Bj g) (.k (cm Bk f) (.k (cm Bl h0) (.k (cm Bm e) .n))))))))))
 (λ_ bb _ _ h=>er h (.k XL (.k rk .n)) (.k (eR zt bb) (.k Uo .n)))
 (λ_ _ a bb _ _ h=>eQ zt bb h (.k Ua (.k (cm oT a) (.k XK (.k rk .n)))))
 (λ_ b _ _ h=>er h (.k TS (.k rk .n)) (.k (eR zQ b) .n))
 (λ_ _ a b _ _ h=>eQ zQ b h (.k (cm oT a) .n))
 (λ_ a _ _ h=>er h (.k YD (.k rk (.k nD (.k (cm oT a) .n)))))
 (λ_ _ a c _ _ h=>eQ zR c h (.k (cm oT a) .n))
theorem Vb:ba xp o7:=cm _ TW.2.2.2.1
def HQ:aS×Int×aj->Option (I×iY×Int)
 |(s,t,m)=>
 pw s>>=λr=>if !(r=0:Bool) then some ((⟨0,false,0,[],0,[],[],[]⟩:I),(⟨[],0⟩:iY),r)else if(bif (t<0:Bool)then true else ((s.Types.length:Int)<=t:Bool)) then some ((⟨0,false,0,[],0,[],[],[]⟩:I),(⟨[],0⟩:iY),4)else if (4096<(m.length:Int):Bool) then some ((⟨0,false,0,[],0,[],[],[]⟩:I),(⟨[],3⟩:iY),12)else o7 (t,m,s.Types,[],0,[])>>=λa=>if !a.2.1 then some ((⟨0,false,0,[],0,[],[],[]⟩:I),(⟨a.2.2.2.1,a.2.2.2.2.1⟩:iY),12)else some (I.eta a.1,(⟨[],0⟩:iY),0)
theorem WW:ba Qb HQ:= .bo (.k zq (.k Vb .n))
def tT:aS×Int×aj->Option (I×Int)
 |(s,t,m)=>
 HQ (s,t,m)>>=λr=>some (I.eta r.1,r.2.2)
theorem XM:ba Bw tT:= .bo (.k WW .n)
def Cx:aS×Int->Option Int
 |(s,t)=>
 pw s>>=λr=>if !(r=0:Bool) then some r else if(bif (t<0:Bool)then true else ((s.Types.length:Int)<=t:Bool)) then some 4 else some 0
theorem XN:ba Qd Cx:= .bo (.k zq .n)
def DE(v:I):Option I:=
 if (v.Kind=1:Bool) then some (⟨v.Kind,v.bL,0,[],0,[],[],[]⟩:I)else if (v.Kind=2:Bool) then some (⟨v.Kind,false,v.bf,[],0,[],[],[]⟩:I)else if (v.Kind=3:Bool) then some (⟨v.Kind,false,0,v.bn,0,[],[],[]⟩:I)else if (v.Kind=4:Bool) then some (⟨v.Kind,false,0,[],v.ad,[],[],[]⟩:I)else if (v.Kind=5:Bool) then some (⟨v.Kind,false,0,[],0,[],v.ai,v.Rest⟩:I)else if (v.Kind=6:Bool) then some (⟨v.Kind,false,0,[],v.ad,[],v.ai,v.Rest⟩:I)else if (v.Kind=8:Bool) then some (⟨v.Kind,false,0,[],0,v.aw,v.ai,[]⟩:I)else some (decide (v.Kind=7))>>=λt57=>if t57 then if t57 then some (⟨v.Kind,false,0,[],0,[],v.ai,[]⟩:I)else some (⟨v.Kind,false,0,[],0,[],[],[]⟩:I)else if (v.Kind=9:Bool) then some (⟨v.Kind,false,0,[],0,[],v.ai,[]⟩:I)else some (⟨v.Kind,false,0,[],0,[],[],[]⟩:I)
theorem YE:ba QX DE:= .bo
def CF(v:I):Option Bool:=
 DE (I.eta v)>>=λr=>some (bif bif bif bif bif bif fB v.bL r.bL then decide (v.bf=r.bf)else false then decide (v.bn=r.bn)else false then decide (v.ad=r.ad)else false then decide ((v.aw.length:Int)=(r.aw.length:Int))else false then decide ((v.ai.length:Int)=(r.ai.length:Int))else false then decide ((v.Rest.length:Int)=(r.Rest.length:Int))else false)
theorem Xf:ba QC CF:= .bo (.k YE .n)
def za(id:Int):Option Bool:=
 some (bif decide (1<=id)then decide (id<=1000)else false)
theorem JK:ba QD za:= .bo
def lb:Bool×List bX×Int×Int×List ah×I×Int×aj×Int×Int×Int×List c4×List aR×Int×Int×Bool->Option ((Bool) ⊕ (Bool×List ah×Int×Bool×Int×aj×Int×List I×List I×List bX×Int×aj×Int×Int×Int×List c4×List aR×Int×Int×Bool))
 |(o,t111,q,t113,n,a,b,c,d,e,f,g,i,j,k,l)=>
 if (t113<q:Bool) then if aH t113 t111.length then some (t111.getD t113.toNat b5)>>=λm=>hl ((⟨b,c,d,e,f,g,i,j,k,l⟩:ah),m.ad)>>=λp=>(if !p.2 then za m.ad else some false)>>=λr=>some (bif p.2 then true else(!r))>>=λt131=>some (decide (0<t113))>>=λt134=>some (dj .i64 t113 1)>>=λt141=>if(aH t141 a.Rest.length||(!((!t131)&&t134))) then if(bif t131 then true else bif t134 then (m.ad<=(a.Rest.getD t141.toNat b5).ad:Bool)else false) then some (.inl false)else lb (o,t111,q,aM .i64 t113 1,n,I.eta a,b,c,d,e,f,g,i,j,k,l)else none else none else some (.inr (o,n,a.Kind,a.bL,a.bf,a.bn,a.ad,a.aw,a.ai,a.Rest,b,c,d,e,f,g,i,j,k,l))
  partial_fixpoint
theorem XO:cQ 164 0 [0] Pt lb:= .rx lb.partial_correctness (.k nD (.k JK .n))
def kP:Bool×Int×List ah×I×Int×aj×Int×Int×Int×List c4×List aR×Int×Int×Bool->Option ((Bool) ⊕ (Bool×List ah×I×Int×aj×Int×Int×Int×List c4×List aR×Int×Int×Bool))
 |(o,i,b,a,c,d,e,f,g,j,k,l,m,n)=>
 if (i<(a.aw.length:Int):Bool) then some (dj .i64 i 1)>>=λt291=>if aH t291 a.aw.length then if aH i a.aw.length then p3 (I.eta (a.aw.getD t291.toNat au),I.eta (a.aw.getD i.toNat au))>>=λp=>if (0<=p:Bool) then some (.inl false)else kP (o,aM .i64 i 1,b,I.eta a,c,d,e,f,g,j,k,l,m,n)else none else none else some (.inr (o,b,I.eta a,c,d,e,f,g,j,k,l,m,n))
  partial_fixpoint
theorem XP:cQ 164 0 [2] Pu kP:= .rx kP.partial_correctness (.k TE .n)
mutual
def B':List I×List ah×Int×Bool->Option (Bool×List ah×Int×Bool)
 |(s,b,f,j)=>
 Gn (s,b,f,j)>>=λr=>some (decide (0<=r.1),r.2.1,r.2.2.1,r.2.2.2)
  partial_fixpoint
def Gn(e:List I×List ah×Int×Bool):Option (Int×List ah×Int×Bool):=
 match e with
 |(s,b,f,j)=>
 qy (s,(s.length:Int),0,b,f,j)>>=λo=>match o with
 |.inl p=>
 some (p.1,p.2.1,p.2.2.1,p.2.2.2)
 |.inr c=>
 some ((-1),c.1,c.2.1,c.2.2)
  partial_fixpoint
def q0:aS×Int×List I×Bool->Option Bool
 |(s,t,l,plain)=>
 B' (l,s.Types,t,plain)>>=λr=>some (!r.1)
  partial_fixpoint
def GQ:I×List ah×Int×Bool->Option (Bool×List ah×Int×Bool)
 |(v,b,f,j)=>
 kb ((⟨b⟩:aS),f,I.eta v,j)>>=λr=>some ((!r),b,f,j)
  partial_fixpoint
def kb(e:aS×Int×I×Bool):Option Bool:=
 match e with
 |(s,t,v,plain)=>
 if(bif (t<0:Bool)then true else ((s.Types.length:Int)<=t:Bool)) then some false else if aH t s.Types.length then some (s.Types.getD t.toNat aN)>>=λa=>some (!(decide (v.Kind=a.Kind)))>>=λt39=>(if !t39 then CF (I.eta v)else some false)>>=λr=>if(bif t39 then true else(!r)) then some false else if (a.Kind=2:Bool) then some (bif decide (a.bC<=v.bf)then decide (v.bf<=a.bG)else false)else if (a.Kind=3:Bool) then some (decide ((v.bn.length:Int)<=a.Max))else if (a.Kind=4:Bool) then tR (a,v.ad)>>=λE=>some (bif a.Open then(!plain)else false)>>=λt85=>(if((!E.2)&&t85) then za v.ad else some false)>>=λaf=>some (bif E.2 then true else bif t85 then af else false)else if (a.Kind=5:Bool) then if(bif (!((v.ai.length:Int)=(a.ag.length:Int):Bool))then true else bif plain then (0<(v.Rest.length:Int):Bool)else false) then some false else lb (plain,v.Rest,(v.Rest.length:Int),0,s.Types,I.eta v,a.Kind,a.Name,a.bC,a.bG,a.Max,a.bj,a.ag,a.Key,a.aG,a.Open)>>=λo=>match o with
 |.inl p=>
 some p
 |.inr c=>
 mF (c.1,c.2.2.2.2.2.2.2.2.2.2.2.2.2.2.2.2.1,(c.2.2.2.2.2.2.2.2.2.2.2.2.2.2.2.2.1.length:Int),0,c.2.1,c.2.2.1,c.2.2.2.1,c.2.2.2.2.1,c.2.2.2.2.2.1,c.2.2.2.2.2.2.1,c.2.2.2.2.2.2.2.1,c.2.2.2.2.2.2.2.2.1,c.2.2.2.2.2.2.2.2.2.1)>>=λP=>match P with
 |.inl Q=>
 some Q
 |.inr ap=>
 some true else if (a.Kind=6:Bool) then hl (a,v.ad)>>=λw=>if w.2 then some (bif decide ((v.ai.length:Int)=1)then decide ((v.Rest.length:Int)=0)else false)>>=λt188=>if(aH w.1 a.ag.length||(!t188)) then if(aH 0 v.ai.length||(!t188)) then (if t188 then kb ((⟨s.Types⟩:aS),(a.ag.getD w.1.toNat ay).av,I.eta (v.ai.getD (0:Int).toNat au),plain)else some false)>>=λam=>some (bif t188 then am else false)else none else none else some (bif a.Open then(!plain)else false)>>=λt209=>(if t209 then za v.ad else some false)>>=λan=>some (bif bif bif t209 then an else false then decide ((v.ai.length:Int)=0)else false then decide ((v.Rest.length:Int)=1)else false)>>=λt226=>if(aH 0 v.Rest.length||(!t226)) then some (bif t226 then decide ((v.Rest.getD (0:Int).toNat b5).ad=v.ad)else false)else none else if (a.Kind=7:Bool) then some (decide ((v.ai.length:Int)<=a.Max))>>=λt244=>(if t244 then q0 ((⟨s.Types⟩:aS),a.aG,v.ai,plain)else some false)>>=λU=>some (bif t244 then U else false)else if (a.Kind=8:Bool) then some (bif decide (a.Max<(v.aw.length:Int))then true else(!(decide ((v.ai.length:Int)=(v.aw.length:Int)))))>>=λt270=>(if !t270 then q0 ((⟨s.Types⟩:aS),a.Key,v.aw,plain)else some false)>>=λW=>if(bif t270 then true else(!W)) then some false else kP (plain,1,s.Types,I.eta v,a.Kind,a.Name,a.bC,a.bG,a.Max,a.bj,a.ag,a.Key,a.aG,a.Open)>>=λR=>match R with
 |.inl S=>
 some S
 |.inr q=>
 q0 ((⟨q.2.1⟩:aS),q.2.2.2.2.2.2.2.2.2.2.2.1,q.2.2.1.ai,q.1)>>=λX=>some X else if (a.Kind=9:Bool) then some (decide ((v.ai.length:Int)<=1))>>=λt313=>(if t313 then q0 ((⟨s.Types⟩:aS),a.aG,v.ai,plain)else some false)>>=λY=>some (bif t313 then Y else false)else some true else none
  partial_fixpoint
def qy:List I×Int×Int×List ah×Int×Bool->Option ((Int×List ah×Int×Bool) ⊕ (List ah×Int×Bool))
 |(x,G,t8,B,y,z)=>
 if (t8<G:Bool) then if aH t8 x.length then GQ (I.eta (x.getD t8.toNat au),B,y,z)>>=λr=>if r.1 then some (.inl (t8,r.2.1,r.2.2.1,r.2.2.2))else qy (x,G,aM .i64 t8 1,r.2.1,r.2.2.1,r.2.2.2)else none else some (.inr (B,y,z))
  partial_fixpoint
def mF:Bool×List aR×Int×Int×List ah×Int×Bool×Int×aj×Int×List I×List I×List bX->Option ((Bool) ⊕ (Unit))
 |(D,t150,F,t152,A,H,J,K,L,M,N,u,O)=>
 if (t152<F:Bool) then if aH t152 t150.length then if aH t152 u.length then kb ((⟨A⟩:aS),(t150.getD t152.toNat ay).av,I.eta (u.getD t152.toNat au),D)>>=λZ=>if !Z then some (.inl false)else mF (D,t150,F,aM .i64 t152 1,A,H,J,K,L,M,N,u,O)else none else none else some (.inr ())
  partial_fixpoint
end
theorem Uu:ei DV B'/\ei DU Gn/\eF 207 3 [0] Ae qy/\ei Bt GQ/\ei sn kb/\ei Bs q0/\eF 164 0 [1] zu mF:=B'.mutual_partial_correctness (ed DV) (ed DU) (eE 207 3 [0] Ae) (ed Bt) (ed sn) (ed Bs) (eE 164 0 [1] zu)
 (λ_ h1 _ _ h=>er h (.k (cm DU h1) .n))
 (λ_ b _ _ h=>er h .n (.k (eR Ae b) .n))
 (λ_ _ b d _ _ h=>eQ Ae b h (.k (cm Bt d) .n))
 (λ_ a _ _ h=>er h (.k (cm sn a) .n))
 (λ_ _ _ a bb c _ _ h=>er h (.k Xf (.k C0 (.k JK (.k nD (.k (cm sn a) (.k (cm Bs bb) .n)))))) (.k XO (.k (eR zu c) (.k XP .n))))
 (λ_ h0 _ _ h=>er h (.k (cm DV h0) .n))
 (λ_ _ a c _ _ h=>eQ zu c h (.k (cm sn a) .n))
theorem JL:ba sn kb:=cm _ Uu.2.2.2.2.1
def tn:aS×Int×I->Option Bool
 |(s,t,v)=>
 kb ((⟨s.Types⟩:aS),t,I.eta v,false)>>=λr=>some r
theorem JM:ba Qe tn:= .bo (.k JL .n)
def Cy:aS×Int×I->Option Int
 |(s,t,v)=>
 Cx (s,t)>>=λr=>if !(r=0:Bool) then some r else tn (s,t,I.eta v)>>=λa=>if !a then some 1 else some 0
theorem W5:ba RB Cy:= .bo (.k XN (.k JM .n))
def mG:ah×I->Option Bool
 |(a,v)=>
 if !(a.Kind=4:Bool) then some false else tR (a,v.ad)>>=λr=>some (!r.2)
theorem TT:ba Qf mG:= .bo (.k C0 .n)
def CG:I×List ah×ah->Option (Bool×List ah×ah)
 |(k,b,a)=>
 if aH a.Key b.length then mG (b.getD a.Key.toNat aN,I.eta k)>>=λr=>some (r,b,a)else none
theorem Xg:ba Qn CG:= .bo (.k TT .n)
def po:List I×Int×Int×List ah×ah->Option ((Int×List ah×ah) ⊕ (List ah×ah))
 |(a,d,t8,b,c)=>
 if (t8<d:Bool) then if aH t8 a.length then CG (I.eta (a.getD t8.toNat au),b,c)>>=λr=>if r.1 then some (.inl (t8,r.2.1,r.2.2))else po (a,d,aM .i64 t8 1,r.2.1,r.2.2)else none else some (.inr (b,c))
  partial_fixpoint
theorem Uv:cQ 207 2 [0] MW po:= .rx po.partial_correctness (.k Xg .n)
def Gm(e:List I×List ah×ah):Option (Int×List ah×ah):=
 match e with
 |(s,b,d)=>
 po (s,(s.length:Int),0,b,d)>>=λo=>match o with
 |.inl a=>
 some (a.1,a.2.1,a.2.2)
 |.inr c=>
 some ((-1),c.1,c.2)
theorem T9:ba Pv Gm:= .bo .n (.k Uv .n)
def Gj:List I×List ah×ah->Option (Bool×List ah×ah)
 |(s,b,a)=>
 Gm (s,b,a)>>=λr=>some (decide (0<=r.1),r.2.1,r.2.2)
theorem T5:ba Pw Gj:= .bo (.k T9 .n)
def DF:aS×ah×I->Option Bool
 |(s,a,v)=>
 Gj (v.aw,s.Types,a)>>=λr=>some r.1
theorem XW:ba Qg DF:= .bo (.k T5 .n)
def nG:Int×Int×ah×I×List iL->Option (List iL)
 |(d,t12,a,c,b)=>
 if (t12<d:Bool) then if (a.Kind=5:Bool) then if aH t12 a.ag.length then if aH t12 a.ag.length then some [(⟨(a.ag.getD t12.toNat ay).av,(a.ag.getD t12.toNat ay).ad⟩:iL)]>>=λt40=>if room 16 (b++t40).length then nG (d,aM .i64 t12 1,a,I.eta c,b++t40)else none else none else none else if (a.Kind=6:Bool) then hl (a,c.ad)>>=λr=>if aH r.1 a.ag.length then some [(⟨(a.ag.getD r.1.toNat ay).av,c.ad⟩:iL)]>>=λt61=>if room 16 (b++t61).length then nG (d,aM .i64 t12 1,a,I.eta c,b++t61)else none else none else some [(⟨a.aG,t12⟩:iL)]>>=λt22=>if room 16 (b++t22).length then nG (d,aM .i64 t12 1,a,I.eta c,b++t22)else none else some b
  partial_fixpoint
theorem Wg:cQ 133 0 [0] Px nG:= .rx nG.partial_correctness (.k nD .n)
def Cs:ah×I->Option (List iL)
 |(a,v)=>
 nG ((v.ai.length:Int),0,a,I.eta v,[])>>=λo=>some o
theorem WX:ba Qh Cs:= .bo .n (.k Wg .n)
mutual
def lO(p:aS×Int×I):Option (I×Bool):=
 match p with
 |(s,t,v)=>
 if aH t s.Types.length then some (s.Types.getD t.toNat aN)>>=λe=>mG (e,I.eta v)>>=λr=>(if !r then DF (s,e,I.eta v)else some false)>>=λL=>if(bif bif r then true else L then true else bif (e.Kind=6:Bool)then ((v.ai.length:Int)=0:Bool)else false) then some ((⟨0,false,0,[],0,[],[],[]⟩:I),false)else fK 120 v.aw>>=λM=>Cs (e,I.eta v)>>=λH=>qQ (H,(H.length:Int),0,s.Types,I.eta v,0,false,0,[],0,v.Kind,v.bL,v.bf,v.bn,v.ad,M,[])>>=λo=>match o with
 |.inl c=>
 some ((⟨c.2.1,c.2.2.1,c.2.2.2.1,c.2.2.2.2.1,c.2.2.2.2.2,[],[],[]⟩:I),c.1)
 |.inr a=>
 some ((⟨a.2.2.2.2.2.1,a.2.2.2.2.2.2.1,a.2.2.2.2.2.2.2.1,a.2.2.2.2.2.2.2.2.1,a.2.2.2.2.2.2.2.2.2.1,a.2.2.2.2.2.2.2.2.2.2.1,a.2.2.2.2.2.2.2.2.2.2.2,[]⟩:I),true)else none
  partial_fixpoint
def qQ:List iL×Int×Int×List ah×I×Int×Bool×Int×aj×Int×Int×Bool×Int×aj×Int×List I×List I->Option ((Bool×Int×Bool×Int×aj×Int) ⊕ (Int×Bool×Int×aj×Int×Int×Bool×Int×aj×Int×List I×List I))
 |(t49,K,t51,q,f,u,w,x,y,z,A,B,D,E,F,G,j)=>
 if (t51<K:Bool) then if aH t51 t49.length then if aH t51 f.ai.length then lO ((⟨q⟩:aS),(t49.getD t51.toNat Hs).t,I.eta (f.ai.getD t51.toNat au))>>=λJ=>if !J.2 then some (.inl (false,0,false,0,[],0))else some [I.eta J.1]>>=λt74=>if room 120 (j++t74).length then qQ (t49,K,aM .i64 t51 1,q,I.eta f,u,w,x,y,z,A,B,D,E,F,G,j++t74)else none else none else none else some (.inr (u,w,x,y,z,A,B,D,E,F,G,j))
  partial_fixpoint
end
theorem W6:ei xq lO/\eF 141 0 [0] zv qQ:=lO.mutual_partial_correctness (ed xq) (eE 141 0 [0] zv)
 (λ_ h1 _ _ h=>er h (.k TT (.k XW (.k nv (.k WX .n)))) (.k (eR zv h1) .n))
 (λ_ _ h0 h1 _ _ h=>eQ zv h1 h (.k (cm xq h0) .n))
theorem M2:ba xq lO:=cm _ W6.1
def vz:aS×Int×I->Option (I×Int)
 |(s,t,v)=>
 Cy (s,t,I.eta v)>>=λr=>if !(r=0:Bool) then some ((⟨0,false,0,[],0,[],[],[]⟩:I),r)else lO (s,t,I.eta v)>>=λa=>if !a.2 then some ((⟨0,false,0,[],0,[],[],[]⟩:I),12)else some (I.eta a.1,0)
theorem WY:ba Bf vz:= .bo (.k W5 (.k M2 .n))
def zr:aS×Int->Option Int
 |(s,t)=>
 pw s>>=λr=>if !(r=0:Bool) then some r else if(bif (t<0:Bool)then true else ((s.Types.length:Int)<=t:Bool)) then some 4 else some 0
theorem Xt:ba Qt zr:= .bo (.k zq .n)
def HR:aS×Int×I->Option Bool
 |(s,t,v)=>
 kb (s,t,I.eta v,true)>>=λr=>some r
theorem WZ:ba Qu HR:= .bo (.k JL .n)
def Cz:aS×Int×I×aS×Int->Option Int
 |(w,wt,v,r,rt)=>
 zr (w,wt)>>=λa=>if !(a=0:Bool) then some a else zr (r,rt)>>=λb=>if !(b=0:Bool) then some b else HR (w,wt,I.eta v)>>=λc=>if !c then some 1 else some 0
theorem W7:ba Qk Cz:= .bo (.k Xt (.k WZ .n))
def sP:List ah×List ah×aq×aq->Option (I×Bool×List ah×List ah×aq×aq)
 |(b,c,e,a)=>
 tb 8 a>>=λr=>if((r.1.length=a.length:Bool)&&true) then some ((⟨0,false,0,[],0,[],[],[]⟩:I),false,b,c,r.1,r.2)else none
theorem SS:ba Qv sP:= .bo (.k nY .n)
def vJ:Int×List ah×List ah×aq×aq->Option (I×Bool×List ah×List ah×aq×aq)
 |(id,b,c,e,a)=>
 tb 8 a>>=λr=>if((r.1.length=a.length:Bool)&&true) then some [id]>>=λt13=>if room 8 (r.2++t13).length then some ((⟨0,false,0,[],0,[],[],[]⟩:I),false,b,c,r.1,r.2++t13)else none else none
theorem SM:ba QQ vJ:= .bo (.k nY .n)
mutual
def ka(v:I):Option I:=
 fK 120 v.aw>>=λr=>fK 120 v.ai>>=λU=>fK 24 v.Rest>>=λW=>sQ ((r.length:Int),0,v.Kind,v.bL,v.bf,v.bn,v.ad,0,false,0,[],0,r,U,W)>>=λo=>sR ((o.2.2.2.2.2.2.2.2.2.2.2.1.length:Int),0,o.1,o.2.1,o.2.2.1,o.2.2.2.1,o.2.2.2.2.1,o.2.2.2.2.2.1,o.2.2.2.2.2.2.1,o.2.2.2.2.2.2.2.1,o.2.2.2.2.2.2.2.2.1,o.2.2.2.2.2.2.2.2.2.1,o.2.2.2.2.2.2.2.2.2.2.2.1,o.2.2.2.2.2.2.2.2.2.2.1,o.2.2.2.2.2.2.2.2.2.2.2.2)>>=λa=>some (⟨a.1,a.2.1,a.2.2.1,a.2.2.2.1,a.2.2.2.2.1,a.2.2.2.2.2.2.2.2.2.2.1,a.2.2.2.2.2.2.2.2.2.2.2.1,a.2.2.2.2.2.2.2.2.2.2.2.2⟩:I)
  partial_fixpoint
def sQ:Int×Int×Int×Bool×Int×aj×Int×Int×Bool×Int×aj×Int×List I×List I×List bX->Option (Int×Bool×Int×aj×Int×Int×Bool×Int×aj×Int×List I×List I×List bX)
 |(R,t22,j,p,q,t,u,w,x,y,z,A,c,B,D)=>
 if (t22<R:Bool) then if aH t22 c.length then if (t22.toNat<c.length:Bool) then ka (I.eta (c.getD t22.toNat au))>>=λX=>if aH t22 c.length then if (t22.toNat<c.length:Bool) then sQ (R,aM .i64 t22 1,j,p,q,t,u,w,x,y,z,A,c.set t22.toNat (I.eta X),B,D)else none else none else none else none else some (j,p,q,t,u,w,x,y,z,A,c,B,D)
  partial_fixpoint
def sR:Int×Int×Int×Bool×Int×aj×Int×Int×Bool×Int×aj×Int×List I×List I×List bX->Option (Int×Bool×Int×aj×Int×Int×Bool×Int×aj×Int×List I×List I×List bX)
 |(S,t37,E,F,G,H,J,K,L,M,N,O,e,P,Q)=>
 if (t37<S:Bool) then if aH t37 e.length then if (t37.toNat<e.length:Bool) then ka (I.eta (e.getD t37.toNat au))>>=λY=>if aH t37 e.length then if (t37.toNat<e.length:Bool) then sR (S,aM .i64 t37 1,E,F,G,H,J,K,L,M,N,O,e.set t37.toNat (I.eta Y),P,Q)else none else none else none else none else some (E,F,G,H,J,K,L,M,N,O,P,e,Q)
  partial_fixpoint
end
theorem Wz:ei u0 ka/\eF 219 0 [1] Ax sR/\eF 219 0 [0] Au sQ:=ka.mutual_partial_correctness (ed u0) (eE 219 0 [1] Ax) (eE 219 0 [0] Au)
 (λ_ _ h1 a _ _ h=>er h (.k nv (.k ph .n)) (.k (eR Au a) (.k (eR Ax h1) .n)))
 (λ_ _ h0 h1 _ _ h=>eQ Ax h1 h (.k (cm u0 h0) .n))
 (λ_ _ h0 a _ _ h=>eQ Au a h (.k (cm u0 h0) .n))
theorem Xu:ba u0 ka:=cm _ Wz.1
mutual
def vC(c:List I×List I):Option Bool:=
 match c with
 |(s1,f)=>
 if !((s1.length:Int)=(f.length:Int):Bool) then some false else vA (f,s1,(s1.length:Int),0)>>=λo=>match o with
 |.inl p=>
 some p
 |.inr u=>
 some true
  partial_fixpoint
def px:I×I->Option Bool
 |(a,b)=>
 some (bif bif bif bif decide (a.Kind=b.Kind)then fB a.bL b.bL else false then decide (a.bf=b.bf)else false then decide (a.bn=b.bn)else false then decide (a.ad=b.ad)else false)>>=λt37=>(if t37 then yL (a.Rest,b.Rest)else some false)>>=λr=>some (bif t37 then r else false)>>=λt44=>(if t44 then vC (a.aw,b.aw)else some false)>>=λq=>some (bif t44 then q else false)>>=λt51=>(if t51 then vC (a.ai,b.ai)else some false)>>=λt=>some (bif t51 then t else false)
  partial_fixpoint
def vA:List I×List I×Int×Int->Option ((Bool) ⊕ (Unit))
 |(e,t15,j,t17)=>
 if (t17<j:Bool) then if aH t17 t15.length then if aH t17 e.length then px (I.eta (t15.getD t17.toNat au),I.eta (e.getD t17.toNat au))>>=λr=>if !r then some (.inl false)else vA (e,t15,j,aM .i64 t17 1)else none else none else some (.inr ())
  partial_fixpoint
end
theorem Ur:ei DW vC/\eF 104 0 [0] Af vA/\ei xA px:=vC.mutual_partial_correctness (ed DW) (eE 104 0 [0] Af) (ed xA)
 (λ_ h1 _ _ h=>er h .n (.k (eR Af h1) .n))
 (λ_ _ h1 a _ _ h=>eQ Af h1 h (.k (cm xA a) .n))
 (λ_ h0 _ _ h=>er h (.k S8 (.k (cm DW h0) .n)))
theorem Tg:ba xA px:=cm _ Ur.2.2
def sS:aR×I->Option Bool
 |(m,item)=>
 (if m.bZ then px (I.eta item,I.eta m.bu)else some false)>>=λr=>some (bif m.bZ then r else false)
theorem Gf:ba QS sS:= .bo (.k Tg .n)
def GA:aS×Int->Option Int
 |(s,t)=>
 pw (⟨s.Types⟩:aS)>>=λr=>if !(r=0:Bool) then some r else if(bif (t<0:Bool)then true else ((s.Types.length:Int)<=t:Bool)) then some 4 else some 0
theorem Xv:ba Qw GA:= .bo (.k zq .n)
def tQ:aS×Int×I->Option Int
 |(s,t,v)=>
 GA ((⟨s.Types⟩:aS),t)>>=λr=>if !(r=0:Bool) then some r else tn ((⟨s.Types⟩:aS),t,I.eta v)>>=λa=>if !a then some 1 else some 0
theorem Xw:ba Ql tQ:= .bo (.k Xv (.k JM .n))
def td:Int×Int×aq->Option (Int×Int×aq)
 |(b,a,c)=>
 if (128<=b:Bool) then if aH a 10 then if (a.toNat<c.length:Bool) then td (lA .u64 b 7,aM .i64 a 1,c.set a.toNat (rQ .u8 (bY .u8 b) 128))else none else none else some (b,a,c)
  partial_fixpoint
theorem W8:cQ 228 0 [0] Py td:= .rx td.partial_correctness
def pA(n:Int):Option aj:=
 td (n,0,[0,0,0,0,0,0,0,0,0,0])>>=λo=>if aH o.2.1 10 then if (o.2.1.toNat<o.2.2.length:Bool) then some (o.2.2.set o.2.1.toNat (bY .u8 o.1))>>=λa=>some (aM .i64 o.2.1 1)>>=λt21=>if dY 0 t21 10 then if w0 (0:Int).toNat t21.toNat a.length then some (strOf ((a.drop (0:Int).toNat).take t21.toNat))else none else none else none else none
theorem y0:ba QW pA:= .bo .n (.k W8 .n)
def qU(p:aj):Option aj:=
 pA (bY .u64 (p.length:Int))>>=λr=>if (r.length+p.length<=eC:Bool) then some (r++p)else none
theorem S9:ba QA qU:= .bo (.k y0 .n)
def sY:aj×aj->Option (Int×aj)
 |(s,b)=>
 some b>>=λr=>if((r.length=b.length:Bool)&&true) then if room 1 (r.length+s.length) then some ((s.length:Int),Bd r s)else none else none
theorem SH:ba Qz sY:= .bo (.k qI .n)
def vw:Int×Bool×aj->Option aj
 |(id,d,p)=>
 some (gF .u64 2 (bY .u64 id))>>=λt10=>if d then pA (aM .u64 t10 1)>>=λr=>qU p>>=λa=>if (r.length+a.length<=eC:Bool) then some (r++a)else none else pA t10>>=λb=>qU p>>=λc=>if (b.length+c.length<=eC:Bool) then some (b++c)else none
theorem GB:ba QU vw:= .bo (.k y0 (.k S9 .n))
def C1:aR×I->Option Bool
 |(m,v)=>
 (if m.bZ then px (I.eta m.bu,I.eta v)else some false)>>=λr=>some (bif m.bZ then r else false)
theorem Xx:ba QT C1:= .bo (.k Tg .n)
def q':List bX×Int×Int×List ah×Int×List gC->Option (List ah×Int×List gC)
 |(t57,e,t59,c,d,a)=>
 if (t59<e:Bool) then if aH t59 t57.length then some (t57.getD t59.toNat b5)>>=λb=>vw (b.ad,false,b.Data)>>=λf=>some [(⟨b.ad,f⟩:gC)]>>=λt72=>if room 24 (a++t72).length then q' (t57,e,aM .i64 t59 1,c,d,a++t72)else none else none else some (c,d,a)
  partial_fixpoint
theorem TX:cQ 189 1 [1] PA q':= .rx q'.partial_correctness (.k GB .n)
def ra:Int×Int×List ah×Int×List gC×aj->Option (List ah×Int×aj)
 |(e,t79,b,c,a,d)=>
 if (t79<e:Bool) then if aH t79 a.length then if (t79.toNat<a.length:Bool) then sY ((a.getD t79.toNat vv).text,d)>>=λf=>ra (e,aM .i64 t79 1,b,c,a,f.2)else none else none else some (b,c,d)
  partial_fixpoint
theorem TY:cQ 189 1 [2] PB ra:= .rx ra.partial_correctness (.k SH .n)
def yO(b:aj):Option aj:=
 if hR (b.length:Int) (b.length:Int) then some b else none
theorem SJ:ba QB yO:= .bo
def te:Int×Int×aq->Option (Int×aq)
 |(b,c,a)=>
 if (0<b:Bool) then some (dj .i64 c 1)>>=λt10=>if aH t10 8 then if (t10.toNat<a.length:Bool) then te (lA .u64 b 8,t10,a.set t10.toNat (bY .u8 b))else none else none else some (c,a)
  partial_fixpoint
theorem W9:cQ 187 0 [0] Pz te:= .rx te.partial_correctness
def zb(n:Int):Option aj:=
 te (n,8,[0,0,0,0,0,0,0,0])>>=λo=>if dY o.1 8 8 then if w0 o.1.toNat ((8:Int).toNat-o.1.toNat) o.2.length then some (strOf ((o.2.drop o.1.toNat).take ((8:Int).toNat-o.1.toNat)))else none else none
theorem XX:ba Qx zb:= .bo .n (.k W9 .n)
mutual
def j8:Int×I×Int×List ah×Int->Option (aj×List ah×Int)
 |(t,v,e,b,w)=>
 some (iz w e)>>=λt19=>if aH t b.length then some (b.getD t.toNat aN)>>=λa=>if (a.Kind=1:Bool) then if v.bL then some ([1],b,t19)else some ([],b,t19)else if (a.Kind=2:Bool) then vq v.bf>>=λr=>zb r>>=λq=>some (q,b,t19)else if (a.Kind=3:Bool) then some (v.bn,b,t19)else if (a.Kind=4:Bool) then zb (bY .u64 v.ad)>>=λN=>some (N,b,t19)else if (a.Kind=5:Bool) then Ch (a,I.eta v,e,b,t19)>>=λu=>some (u.1,u.2.1,u.2.2)else if (a.Kind=6:Bool) then x5 (a,I.eta v,e,b,t19)>>=λy=>some (y.1,y.2.1,y.2.2)else if (a.Kind=9:Bool) then if ((v.ai.length:Int)=0:Bool) then some ([],b,t19)else if aH 0 v.ai.length then j8 (a.aG,I.eta (v.ai.getD (0:Int).toNat au),aM .i64 e 1,b,t19)>>=λD=>if ([1].length+D.1.length<=eC:Bool) then some ([1]++D.1,D.2.1,D.2.2)else none else none else lI (e,v.ai,(v.ai.length:Int),0,b,t19,I.eta v,a,[])>>=λo=>yO o.2.2>>=λU=>some (U,o.1,o.2.1)else none
  partial_fixpoint
def Ch:ah×I×Int×List ah×Int->Option (aj×List ah×Int)
 |(a,v,e,b,w)=>
 rb (e,a.ag,(a.ag.length:Int),0,b,w,I.eta v,[])>>=λo=>q' (o.2.2.1.Rest,(o.2.2.1.Rest.length:Int),0,o.1,o.2.1,o.2.2.2)>>=λB=>GU B.2.2>>=λr=>if((r.length=B.2.2.length:Bool)&&true) then ra ((r.length:Int),0,B.1,B.2.1,r,[])>>=λL=>yO L.2.2>>=λq=>some (q,L.1,L.2.1)else none
  partial_fixpoint
def x5:ah×I×Int×List ah×Int->Option (aj×List ah×Int)
 |(a,v,e,b,w)=>
 pA (bY .u64 v.ad)>>=λr=>hl (a,v.ad)>>=λq=>if !q.2 then if aH 0 v.Rest.length then some (v.Rest.getD (0:Int).toNat b5)>>=λc=>if (r.length+c.Data.length<=eC:Bool) then some (r++c.Data,b,w)else none else none else if aH q.1 a.ag.length then if aH 0 v.ai.length then j8 ((a.ag.getD q.1.toNat ay).av,I.eta (v.ai.getD (0:Int).toNat au),aM .i64 e 1,b,w)>>=λE=>if (r.length+E.1.length<=eC:Bool) then some (r++E.1,E.2.1,E.2.2)else none else none else none
  partial_fixpoint
def lI:Int×List I×Int×Int×List ah×Int×I×ah×aj->Option (List ah×Int×aj)
 |(f,t84,R,t86,H,J,A,x,K)=>
 if (t86<R:Bool) then if aH t86 t84.length then some (t84.getD t86.toNat au)>>=λS=>if (x.Kind=8:Bool) then if aH t86 A.aw.length then j8 (x.Key,I.eta (A.aw.getD t86.toNat au),aM .i64 f 1,H,J)>>=λM=>qU M.1>>=λW=>sY (W,K)>>=λX=>j8 (x.aG,I.eta S,aM .i64 f 1,M.2.1,M.2.2)>>=λO=>qU O.1>>=λY=>sY (Y,X.2)>>=λZ=>lI (f,t84,R,aM .i64 t86 1,O.2.1,O.2.2,I.eta A,x,Z.2)else none else j8 (x.aG,I.eta S,aM .i64 f 1,H,J)>>=λP=>qU P.1>>=λaf=>sY (af,K)>>=λam=>lI (f,t84,R,aM .i64 t86 1,P.2.1,P.2.2,I.eta A,x,am.2)else none else some (H,J,K)
  partial_fixpoint
def rb:Int×List aR×Int×Int×List ah×Int×I×List gC->Option (List ah×Int×I×List gC)
 |(f,t18,Q,t20,F,G,p,z)=>
 if (t20<Q:Bool) then if aH t20 t18.length then some (t18.getD t20.toNat ay)>>=λc=>if aH t20 p.ai.length then C1 ((⟨c.ad,c.Name,c.av,c.cf,c.bZ,I.eta c.bu⟩:aR),I.eta (p.ai.getD t20.toNat au))>>=λN=>if !N then if aH t20 p.ai.length then j8 (c.av,I.eta (p.ai.getD t20.toNat au),aM .i64 f 1,F,G)>>=λu=>vw (c.ad,c.cf,u.1)>>=λy=>some [(⟨c.ad,y⟩:gC)]>>=λt53=>if room 24 (z++t53).length then rb (f,t18,Q,aM .i64 t20 1,u.2.1,u.2.2,I.eta p,z++t53)else none else none else rb (f,t18,Q,aM .i64 t20 1,F,G,I.eta p,z)else none else none else some (F,G,I.eta p,z)
  partial_fixpoint
end
theorem TZ:ei qt j8/\eF 145 1 [0] AB lI/\ei Br x5/\ei Bq Ch/\eF 189 1 [0] AA rb:=j8.mutual_partial_correctness (ed qt) (eE 145 1 [0] AB) (ed Br) (ed Bq) (eE 189 1 [0] AA)
 (λ_ _ _ _ h0 h1 b c _ _ h=>er h (.k TD (.k XX (.k (cm Bq c) (.k (cm Br b) (.k (cm qt h0) (.k SJ .n)))))) (.k (eR AB h1) .n))
 (λ_ _ h0 h1 _ _ h=>eQ AB h1 h (.k (cm qt h0) (.k S9 (.k SH .n))))
 (λ_ h0 _ _ h=>er h (.k y0 (.k nD (.k (cm qt h0) .n))))
 (λ_ a _ _ h=>er h (.k Gz (.k SJ .n)) (.k (eR AA a) (.k TX (.k TY .n))))
 (λ_ _ h0 a _ _ h=>eQ AA a h (.k Xx (.k (cm qt h0) (.k GB .n))))
theorem Vc:ba qt j8:=cm _ TZ.1
end
end Go.Proofs.YtdjagncoefjfeaaGreat
