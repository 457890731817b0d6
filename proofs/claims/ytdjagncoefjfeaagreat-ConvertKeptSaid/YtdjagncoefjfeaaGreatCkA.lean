/- The functions of the program as functions of Lean, that its code does what they say, and what they answer; part A. -/
import Derived.Test.YtdjagncoefjfeaaGreatProg
import Derived.KernelRfl
import Derived.Shelf.SlGeneric
import Derived.Shelf.SlLaysF0
import Derived.Shelf.SlSortCmp.WholeK
import Derived.Lib.Small
import Derived.Test.YtdjagncoefjfeaaGreatCkLD

namespace Go.Proofs.YtdjagncoefjfeaaGreat
set_option linter.all false
section
open Go Go.Proofs.YtdjagncoefjfeaaGreat.Shv
open Tryz
set_option maxRecDepth 100000
structure mo where
 ad:Int
 av:Int
 hg:Int
structure dq where
 Kind:Int
 A:Int
 B:Int
 C:Int
 cX:List mo
structure ep where
 eg:List dq
structure lq where
 S:ep
 T:Int
 C:ao
structure kX where
 Kind:Int
 Node:Int
 A:Int
 B:Int
structure nk where
 D:lq
 L:List kX
structure nn where
 C:nk
 xW:Bool
structure c1 where
 ad:Int
 Name:aj
structure bQ where
 ad:Int
 Data:aj
structure I where
 Kind:Int
 bS:Bool
 bg:Int
 bt:aj
 ad:Int
 aB:List I
 ag:List I
 Rest:List bQ
structure aR where
 ad:Int
 Name:aj
 av:Int
 b8:Bool
 bu:Bool
 bm:I
structure ai where
 Kind:Int
 Name:aj
 bJ:Int
 bN:Int
 Max:Int
 bj:List c1
 af:List aR
 Key:Int
 aD:Int
 Open:Bool
structure aO where
 Types:List ai
structure da where
 cC:aO
 av:Int
structure cP where
 ad:Int
 b8:Bool
 Data:aj
structure iT where
 Path:ao
 Reason:Int
structure h3 where
 t:Int
 number:Int
structure gu where
 id:Int
 text:aj
structure eU where
 v:I
 u:I
 message:aj
structure cU where
 Value:I
 dL:iT
 cj:Bool
structure dE where
 Value:I
 Path:ao
 cj:Bool
structure kY where
 V:I
 U:I
 Message:aj
structure A1 where
 KF:List kX
 gG:List kX
abbrev H3:Nat:=0
abbrev Lo:Nat:=1
abbrev XE:Nat:=2
abbrev wy:Nat:=4
abbrev DN:Nat:=5
abbrev Lb:Nat:=6
def iR:mo:=⟨0,0,0⟩
def bx:dq:=⟨0,0,0,0,[]⟩
def Lp:ep:=⟨[]⟩
def Lq:lq:=⟨Lp,0,[]⟩
def oc:kX:=⟨0,0,0,0⟩
def KS:nk:=⟨Lq,[]⟩
def Yk:nn:=⟨KS,false⟩
def dI:c1:=⟨0,[]⟩
def bP:bQ:=⟨0,[]⟩
def ar:I:=⟨0,false,0,[],0,[],[],[]⟩
def aw:aR:=⟨0,[],0,false,false,ar⟩
def aG:ai:=⟨0,[],0,0,0,[],[],0,0,false⟩
def OJ:aO:=⟨[]⟩
def J8:da:=⟨OJ,0⟩
def gm:cP:=⟨0,false,[]⟩
def NQ:iT:=⟨[],0⟩
def zH:h3:=⟨0,0⟩
def v':gu:=⟨0,[]⟩
def YF:eU:=⟨ar,ar,[]⟩
def XF:cU:=⟨ar,NQ,false⟩
def XG:dE:=⟨ar,[],false⟩
def XH:kY:=⟨ar,ar,[]⟩
def acq:A1:=⟨[],[]⟩
def dy:Nat->Type
 |0=>nn
 |1=>nk
 |2=>lq
 |3=>ep
 |4=>dq
 |5=>mo
 |6=>kX
 |7=>ai
 |8=>c1
 |9=>aR
 |10=>I
 |11=>bQ
 |12=>aO
 |13=>da
 |14=>cP
 |15=>iT
 |16=>h3
 |17=>gu
 |18=>eU
 |19=>cU
 |20=>dE
 |21=>kY
 |22=>A1
 |_=>Bool
def ea:Nat->List aN
 |0=>[.slice (.nm 4),.int .u8,.slice (.int .u8),.slice (.nm 6),.bool]
 |1=>[.slice (.nm 4),.int .u8,.slice (.int .u8),.slice (.nm 6)]
 |2=>[.slice (.nm 4),.int .u8,.slice (.int .u8)]
 |3=>[.slice (.nm 4)]
 |4=>[.int .u8,.int .u8,.int .u8,.int .u8,.slice (.nm 5)]
 |5=>[.int .u8,.int .u8,.int .u8]
 |6=>[.int .u8,.int .u8,.int .u8,.int .u8]
 |7=>[.int .i64,.str,.int .i64,.int .i64,.int .i64,.slice (.nm 8),.slice (.nm 9),.int .i64,.int .i64,.bool]
 |8=>[.int .i64,.str]
 |9=>[.int .i64,.str,.int .i64,.bool,.bool,.int .i64,.bool,.int .i64,.str,.int .i64,.slice (.nm 10),.slice (.nm 10),.slice (.nm 11)]
 |10=>[.int .i64,.bool,.int .i64,.str,.int .i64,.slice (.nm 10),.slice (.nm 10),.slice (.nm 11)]
 |11=>[.int .i64,.str]
 |12=>[.slice (.nm 7)]
 |13=>[.slice (.nm 7),.int .i64]
 |14=>[.int .i64,.bool,.str]
 |15=>[.slice (.int .i64),.int .i64]
 |16=>[.int .i64,.int .i64]
 |17=>[.int .i64,.str]
 |18=>[.int .i64,.bool,.int .i64,.str,.int .i64,.slice (.nm 10),.slice (.nm 10),.slice (.nm 11),.int .i64,.bool,.int .i64,.str,.int .i64,.slice (.nm 10),.slice (.nm 10),.slice (.nm 11),.str]
 |19=>[.int .i64,.bool,.int .i64,.str,.int .i64,.slice (.nm 10),.slice (.nm 10),.slice (.nm 11),.slice (.int .i64),.int .i64,.bool]
 |20=>[.int .i64,.bool,.int .i64,.str,.int .i64,.slice (.nm 10),.slice (.nm 10),.slice (.nm 11),.slice (.int .i64),.bool]
 |21=>[.int .i64,.bool,.int .i64,.str,.int .i64,.slice (.nm 10),.slice (.nm 10),.slice (.nm 11),.int .i64,.bool,.int .i64,.str,.int .i64,.slice (.nm 10),.slice (.nm 10),.slice (.nm 11),.str]
 |22=>[.slice (.nm 6),.slice (.nm 6)]
 |_=>[.bool]
def ajz:(n:Nat)->dy n->List (Cell dy)
 |0,(x:nn)=>[⟨.slice (.nm 4),x.C.D.S.eg⟩,⟨.int .u8,x.C.D.T⟩,⟨.slice (.int .u8),x.C.D.C⟩,⟨.slice (.nm 6),x.C.L⟩,⟨.bool,x.xW⟩]
 |1,(x:nk)=>[⟨.slice (.nm 4),x.D.S.eg⟩,⟨.int .u8,x.D.T⟩,⟨.slice (.int .u8),x.D.C⟩,⟨.slice (.nm 6),x.L⟩]
 |2,(x:lq)=>[⟨.slice (.nm 4),x.S.eg⟩,⟨.int .u8,x.T⟩,⟨.slice (.int .u8),x.C⟩]
 |3,(x:ep)=>[⟨.slice (.nm 4),x.eg⟩]
 |4,(x:dq)=>[⟨.int .u8,x.Kind⟩,⟨.int .u8,x.A⟩,⟨.int .u8,x.B⟩,⟨.int .u8,x.C⟩,⟨.slice (.nm 5),x.cX⟩]
 |5,(x:mo)=>[⟨.int .u8,x.ad⟩,⟨.int .u8,x.av⟩,⟨.int .u8,x.hg⟩]
 |6,(x:kX)=>[⟨.int .u8,x.Kind⟩,⟨.int .u8,x.Node⟩,⟨.int .u8,x.A⟩,⟨.int .u8,x.B⟩]
 |7,(x:ai)=>[⟨.int .i64,x.Kind⟩,⟨.str,x.Name⟩,⟨.int .i64,x.bJ⟩,⟨.int .i64,x.bN⟩,⟨.int .i64,x.Max⟩,⟨.slice (.nm 8),x.bj⟩,⟨.slice (.nm 9),x.af⟩,⟨.int .i64,x.Key⟩,⟨.int .i64,x.aD⟩,⟨.bool,x.Open⟩]
 |8,(x:c1)=>[⟨.int .i64,x.ad⟩,⟨.str,x.Name⟩]
 |9,(x:aR)=>[⟨.int .i64,x.ad⟩,⟨.str,x.Name⟩,⟨.int .i64,x.av⟩,⟨.bool,x.b8⟩,⟨.bool,x.bu⟩,⟨.int .i64,x.bm.Kind⟩,⟨.bool,x.bm.bS⟩,⟨.int .i64,x.bm.bg⟩,⟨.str,x.bm.bt⟩,⟨.int .i64,x.bm.ad⟩,⟨.slice (.nm 10),x.bm.aB⟩,⟨.slice (.nm 10),x.bm.ag⟩,⟨.slice (.nm 11),x.bm.Rest⟩]
 |10,(x:I)=>[⟨.int .i64,x.Kind⟩,⟨.bool,x.bS⟩,⟨.int .i64,x.bg⟩,⟨.str,x.bt⟩,⟨.int .i64,x.ad⟩,⟨.slice (.nm 10),x.aB⟩,⟨.slice (.nm 10),x.ag⟩,⟨.slice (.nm 11),x.Rest⟩]
 |11,(x:bQ)=>[⟨.int .i64,x.ad⟩,⟨.str,x.Data⟩]
 |12,(x:aO)=>[⟨.slice (.nm 7),x.Types⟩]
 |13,(x:da)=>[⟨.slice (.nm 7),x.cC.Types⟩,⟨.int .i64,x.av⟩]
 |14,(x:cP)=>[⟨.int .i64,x.ad⟩,⟨.bool,x.b8⟩,⟨.str,x.Data⟩]
 |15,(x:iT)=>[⟨.slice (.int .i64),x.Path⟩,⟨.int .i64,x.Reason⟩]
 |16,(x:h3)=>[⟨.int .i64,x.t⟩,⟨.int .i64,x.number⟩]
 |17,(x:gu)=>[⟨.int .i64,x.id⟩,⟨.str,x.text⟩]
 |18,(x:eU)=>[⟨.int .i64,x.v.Kind⟩,⟨.bool,x.v.bS⟩,⟨.int .i64,x.v.bg⟩,⟨.str,x.v.bt⟩,⟨.int .i64,x.v.ad⟩,⟨.slice (.nm 10),x.v.aB⟩,⟨.slice (.nm 10),x.v.ag⟩,⟨.slice (.nm 11),x.v.Rest⟩,⟨.int .i64,x.u.Kind⟩,⟨.bool,x.u.bS⟩,⟨.int .i64,x.u.bg⟩,⟨.str,x.u.bt⟩,⟨.int .i64,x.u.ad⟩,⟨.slice (.nm 10),x.u.aB⟩,⟨.slice (.nm 10),x.u.ag⟩,⟨.slice (.nm 11),x.u.Rest⟩,⟨.str,x.message⟩]
 |19,(x:cU)=>[⟨.int .i64,x.Value.Kind⟩,⟨.bool,x.Value.bS⟩,⟨.int .i64,x.Value.bg⟩,⟨.str,x.Value.bt⟩,⟨.int .i64,x.Value.ad⟩,⟨.slice (.nm 10),x.Value.aB⟩,⟨.slice (.nm 10),x.Value.ag⟩,⟨.slice (.nm 11),x.Value.Rest⟩,⟨.slice (.int .i64),x.dL.Path⟩,⟨.int .i64,x.dL.Reason⟩,⟨.bool,x.cj⟩]
 |20,(x:dE)=>[⟨.int .i64,x.Value.Kind⟩,⟨.bool,x.Value.bS⟩,⟨.int .i64,x.Value.bg⟩,⟨.str,x.Value.bt⟩,⟨.int .i64,x.Value.ad⟩,⟨.slice (.nm 10),x.Value.aB⟩,⟨.slice (.nm 10),x.Value.ag⟩,⟨.slice (.nm 11),x.Value.Rest⟩,⟨.slice (.int .i64),x.Path⟩,⟨.bool,x.cj⟩]
 |21,(x:kY)=>[⟨.int .i64,x.V.Kind⟩,⟨.bool,x.V.bS⟩,⟨.int .i64,x.V.bg⟩,⟨.str,x.V.bt⟩,⟨.int .i64,x.V.ad⟩,⟨.slice (.nm 10),x.V.aB⟩,⟨.slice (.nm 10),x.V.ag⟩,⟨.slice (.nm 11),x.V.Rest⟩,⟨.int .i64,x.U.Kind⟩,⟨.bool,x.U.bS⟩,⟨.int .i64,x.U.bg⟩,⟨.str,x.U.bt⟩,⟨.int .i64,x.U.ad⟩,⟨.slice (.nm 10),x.U.aB⟩,⟨.slice (.nm 10),x.U.ag⟩,⟨.slice (.nm 11),x.U.Rest⟩,⟨.str,x.Message⟩]
 |22,(x:A1)=>[⟨.slice (.nm 6),x.KF⟩,⟨.slice (.nm 6),x.gG⟩]
 |_+23,(x:Bool)=>[⟨.bool,x⟩]
def cT:(n:Nat)->List (Cell dy)->Option (dy n)
 |0,l=>match aQ.dec dy (ea 0) l with
  |some h=>some (⟨(⟨(⟨(⟨h.1⟩:ep),h.2.1,h.2.2.1⟩:lq),h.2.2.2.1⟩:nk),h.2.2.2.2⟩:nn)
  |none=>none
 |1,l=>match aQ.dec dy (ea 1) l with
  |some h=>some (⟨(⟨(⟨h.1⟩:ep),h.2.1,h.2.2.1⟩:lq),h.2.2.2⟩:nk)
  |none=>none
 |2,l=>match aQ.dec dy (ea 2) l with
  |some h=>some (⟨(⟨h.1⟩:ep),h.2.1,h.2.2⟩:lq)
  |none=>none
 |3,l=>match aQ.dec dy (ea 3) l with
  |some h=>some (⟨h⟩:ep)
  |none=>none
 |4,l=>match aQ.dec dy (ea 4) l with
  |some h=>some (⟨h.1,h.2.1,h.2.2.1,h.2.2.2.1,h.2.2.2.2⟩:dq)
  |none=>none
 |5,l=>match aQ.dec dy (ea 5) l with
  |some h=>some (⟨h.1,h.2.1,h.2.2⟩:mo)
  |none=>none
 |6,l=>match aQ.dec dy (ea 6) l with
  |some h=>some (⟨h.1,h.2.1,h.2.2.1,h.2.2.2⟩:kX)
  |none=>none
 |7,l=>match aQ.dec dy (ea 7) l with
  |some h=>some (⟨h.1,h.2.1,h.2.2.1,h.2.2.2.1,h.2.2.2.2.1,h.2.2.2.2.2.1,h.2.2.2.2.2.2.1,h.2.2.2.2.2.2.2.1,h.2.2.2.2.2.2.2.2.1,h.2.2.2.2.2.2.2.2.2⟩:ai)
  |none=>none
 |8,l=>match aQ.dec dy (ea 8) l with
  |some h=>some (⟨h.1,h.2⟩:c1)
  |none=>none
 |9,l=>match aQ.dec dy (ea 9) l with
  |some h=>some (⟨h.1,h.2.1,h.2.2.1,h.2.2.2.1,h.2.2.2.2.1,(⟨h.2.2.2.2.2.1,h.2.2.2.2.2.2.1,h.2.2.2.2.2.2.2.1,h.2.2.2.2.2.2.2.2.1,h.2.2.2.2.2.2.2.2.2.1,h.2.2.2.2.2.2.2.2.2.2.1,h.2.2.2.2.2.2.2.2.2.2.2.1,h.2.2.2.2.2.2.2.2.2.2.2.2⟩:I)⟩:aR)
  |none=>none
 |10,l=>match aQ.dec dy (ea 10) l with
  |some h=>some (⟨h.1,h.2.1,h.2.2.1,h.2.2.2.1,h.2.2.2.2.1,h.2.2.2.2.2.1,h.2.2.2.2.2.2.1,h.2.2.2.2.2.2.2⟩:I)
  |none=>none
 |11,l=>match aQ.dec dy (ea 11) l with
  |some h=>some (⟨h.1,h.2⟩:bQ)
  |none=>none
 |12,l=>match aQ.dec dy (ea 12) l with
  |some h=>some (⟨h⟩:aO)
  |none=>none
 |13,l=>match aQ.dec dy (ea 13) l with
  |some h=>some (⟨(⟨h.1⟩:aO),h.2⟩:da)
  |none=>none
 |14,l=>match aQ.dec dy (ea 14) l with
  |some h=>some (⟨h.1,h.2.1,h.2.2⟩:cP)
  |none=>none
 |15,l=>match aQ.dec dy (ea 15) l with
  |some h=>some (⟨h.1,h.2⟩:iT)
  |none=>none
 |16,l=>match aQ.dec dy (ea 16) l with
  |some h=>some (⟨h.1,h.2⟩:h3)
  |none=>none
 |17,l=>match aQ.dec dy (ea 17) l with
  |some h=>some (⟨h.1,h.2⟩:gu)
  |none=>none
 |18,l=>match aQ.dec dy (ea 18) l with
  |some h=>some (⟨(⟨h.1,h.2.1,h.2.2.1,h.2.2.2.1,h.2.2.2.2.1,h.2.2.2.2.2.1,h.2.2.2.2.2.2.1,h.2.2.2.2.2.2.2.1⟩:I),(⟨h.2.2.2.2.2.2.2.2.1,h.2.2.2.2.2.2.2.2.2.1,h.2.2.2.2.2.2.2.2.2.2.1,h.2.2.2.2.2.2.2.2.2.2.2.1,h.2.2.2.2.2.2.2.2.2.2.2.2.1,h.2.2.2.2.2.2.2.2.2.2.2.2.2.1,h.2.2.2.2.2.2.2.2.2.2.2.2.2.2.1,h.2.2.2.2.2.2.2.2.2.2.2.2.2.2.2.1⟩:I),h.2.2.2.2.2.2.2.2.2.2.2.2.2.2.2.2⟩:eU)
  |none=>none
 |19,l=>match aQ.dec dy (ea 19) l with
  |some h=>some (⟨(⟨h.1,h.2.1,h.2.2.1,h.2.2.2.1,h.2.2.2.2.1,h.2.2.2.2.2.1,h.2.2.2.2.2.2.1,h.2.2.2.2.2.2.2.1⟩:I),(⟨h.2.2.2.2.2.2.2.2.1,h.2.2.2.2.2.2.2.2.2.1⟩:iT),h.2.2.2.2.2.2.2.2.2.2⟩:cU)
  |none=>none
 |20,l=>match aQ.dec dy (ea 20) l with
  |some h=>some (⟨(⟨h.1,h.2.1,h.2.2.1,h.2.2.2.1,h.2.2.2.2.1,h.2.2.2.2.2.1,h.2.2.2.2.2.2.1,h.2.2.2.2.2.2.2.1⟩:I),h.2.2.2.2.2.2.2.2.1,h.2.2.2.2.2.2.2.2.2⟩:dE)
  |none=>none
 |21,l=>match aQ.dec dy (ea 21) l with
  |some h=>some (⟨(⟨h.1,h.2.1,h.2.2.1,h.2.2.2.1,h.2.2.2.2.1,h.2.2.2.2.2.1,h.2.2.2.2.2.2.1,h.2.2.2.2.2.2.2.1⟩:I),(⟨h.2.2.2.2.2.2.2.2.1,h.2.2.2.2.2.2.2.2.2.1,h.2.2.2.2.2.2.2.2.2.2.1,h.2.2.2.2.2.2.2.2.2.2.2.1,h.2.2.2.2.2.2.2.2.2.2.2.2.1,h.2.2.2.2.2.2.2.2.2.2.2.2.2.1,h.2.2.2.2.2.2.2.2.2.2.2.2.2.2.1,h.2.2.2.2.2.2.2.2.2.2.2.2.2.2.2.1⟩:I),h.2.2.2.2.2.2.2.2.2.2.2.2.2.2.2.2⟩:kY)
  |none=>none
 |22,l=>match aQ.dec dy (ea 22) l with
  |some h=>some (⟨h.1,h.2⟩:A1)
  |none=>none
 |_+23,l=>match aQ.dec dy [.bool] l with
  |some (h:Bool)=>some h
  |none=>none
def Uo(x:mo):List T:=[.int .u8 x.ad,.int .u8 x.av,.int .u8 x.hg]
def yz(x:dq):List T:=[.int .u8 x.Kind,.int .u8 x.A,.int .u8 x.B,.int .u8 x.C,.slice (x.cX.map Uo)]
def aic(x:ep):List T:=[.slice (x.eg.map yz)]
def aid(x:lq):List T:=[.slice (x.S.eg.map yz),.int .u8 x.T,.slice (x.C.map (λy=>[.int .u8 y]))]
def yy(x:kX):List T:=[.int .u8 x.Kind,.int .u8 x.Node,.int .u8 x.A,.int .u8 x.B]
def aif(x:nk):List T:=[.slice (x.D.S.eg.map yz),.int .u8 x.D.T,.slice (x.D.C.map (λy=>[.int .u8 y])),.slice (x.L.map yy)]
def aii(x:nn):List T:=[.slice (x.C.D.S.eg.map yz),.int .u8 x.C.D.T,.slice (x.C.D.C.map (λy=>[.int .u8 y])),.slice (x.C.L.map yy),.bool x.xW]
def Un(x:c1):List T:=[.int .i64 x.ad,.str x.Name]
def nW(x:bQ):List T:=[.int .i64 x.ad,.str x.Data]
def I.eta(x:I):I:=⟨x.Kind,x.bS,x.bg,x.bt,x.ad,x.aB,x.ag,x.Rest⟩
theorem I.aP(x:I):x.eta=x:=by cases x;rfl
mutual
def h6:I->List T
 |⟨a0,a1,a2,a3,a4,a5,a,c⟩=>[.int .i64 a0,.bool a1,.int .i64 a2,.str a3,.int .i64 a4,.slice (yx a5),.slice (yx a),.slice (c.map nW)]
def yx:List I->List (List T)
 |[]=>[]
 |v::r=>h6 v::yx r
end
theorem LG:∀l,yx l=l.map h6
 |[]=>rfl
 |v::r=>by simp only[yx,List.map];rw[LG r]
theorem abW(x:I):h6 x=[.int .i64 x.Kind,.bool x.bS,.int .i64 x.bg,.str x.bt,.int .i64 x.ad,.slice (x.aB.map h6),.slice (x.ag.map h6),.slice (x.Rest.map nW)]:=by cases x;simp only[h6,LG]
def Um(x:aR):List T:=[.int .i64 x.ad,.str x.Name,.int .i64 x.av,.bool x.b8,.bool x.bu,.int .i64 x.bm.Kind,.bool x.bm.bS,.int .i64 x.bm.bg,.str x.bm.bt,.int .i64 x.bm.ad,.slice (x.bm.aB.map h6),.slice (x.bm.ag.map h6),.slice (x.bm.Rest.map nW)]
def F8(x:ai):List T:=[.int .i64 x.Kind,.str x.Name,.int .i64 x.bJ,.int .i64 x.bN,.int .i64 x.Max,.slice (x.bj.map Un),.slice (x.af.map Um),.int .i64 x.Key,.int .i64 x.aD,.bool x.Open]
def aib(x:aO):List T:=[.slice (x.Types.map F8)]
def aia(x:da):List T:=[.slice (x.cC.Types.map F8),.int .i64 x.av]
def ah'(x:cP):List T:=[.int .i64 x.ad,.bool x.b8,.str x.Data]
def ah9(x:iT):List T:=[.slice (x.Path.map (λy=>[.int .i64 y])),.int .i64 x.Reason]
def ah8(x:h3):List T:=[.int .i64 x.t,.int .i64 x.number]
def ah7(x:gu):List T:=[.int .i64 x.id,.str x.text]
def ah6(x:eU):List T:=[.int .i64 x.v.Kind,.bool x.v.bS,.int .i64 x.v.bg,.str x.v.bt,.int .i64 x.v.ad,.slice (x.v.aB.map h6),.slice (x.v.ag.map h6),.slice (x.v.Rest.map nW),.int .i64 x.u.Kind,.bool x.u.bS,.int .i64 x.u.bg,.str x.u.bt,.int .i64 x.u.ad,.slice (x.u.aB.map h6),.slice (x.u.ag.map h6),.slice (x.u.Rest.map nW),.str x.message]
def aie(x:cU):List T:=[.int .i64 x.Value.Kind,.bool x.Value.bS,.int .i64 x.Value.bg,.str x.Value.bt,.int .i64 x.Value.ad,.slice (x.Value.aB.map h6),.slice (x.Value.ag.map h6),.slice (x.Value.Rest.map nW),.slice (x.dL.Path.map (λy=>[.int .i64 y])),.int .i64 x.dL.Reason,.bool x.cj]
def aih(x:dE):List T:=[.int .i64 x.Value.Kind,.bool x.Value.bS,.int .i64 x.Value.bg,.str x.Value.bt,.int .i64 x.Value.ad,.slice (x.Value.aB.map h6),.slice (x.Value.ag.map h6),.slice (x.Value.Rest.map nW),.slice (x.Path.map (λy=>[.int .i64 y])),.bool x.cj]
def aij(x:kY):List T:=[.int .i64 x.V.Kind,.bool x.V.bS,.int .i64 x.V.bg,.str x.V.bt,.int .i64 x.V.ad,.slice (x.V.aB.map h6),.slice (x.V.ag.map h6),.slice (x.V.Rest.map nW),.int .i64 x.U.Kind,.bool x.U.bS,.int .i64 x.U.bg,.str x.U.bt,.int .i64 x.U.ad,.slice (x.U.aB.map h6),.slice (x.U.ag.map h6),.slice (x.U.Rest.map nW),.str x.Message]
def aik(x:A1):List T:=[.slice (x.KF.map yy),.slice (x.gG.map yy)]
def ajy:(n:Nat)->dy n->List T
 |0,x=>aii x
 |1,x=>aif x
 |2,x=>aid x
 |3,x=>aic x
 |4,x=>yz x
 |5,x=>Uo x
 |6,x=>yy x
 |7,x=>F8 x
 |8,x=>Un x
 |9,x=>Um x
 |10,x=>h6 x
 |11,x=>nW x
 |12,x=>aib x
 |13,x=>aia x
 |14,x=>ah' x
 |15,x=>ah9 x
 |16,x=>ah8 x
 |17,x=>ah7 x
 |18,x=>ah6 x
 |19,x=>aie x
 |20,x=>aih x
 |21,x=>aij x
 |22,x=>aik x
 |_+23,(x:Bool)=>[.bool x]
def cR:cJ where
 D:=dy
 ki:=λn=>match n with
  |0=>Yk
  |1=>KS
  |2=>Lq
  |3=>Lp
  |4=>bx
  |5=>iR
  |6=>oc
  |7=>aG
  |8=>dI
  |9=>aw
  |10=>ar
  |11=>bP
  |12=>OJ
  |13=>J8
  |14=>gm
  |15=>NQ
  |16=>zH
  |17=>v'
  |18=>YF
  |19=>XF
  |20=>XG
  |21=>XH
  |22=>acq
  |_+23=>false
 pj:=ajz
 make:=cT
 dj:=ea
 enc:=ajy
 Uq:=λn x=>match n,x with
  |0,_=>rfl
  |1,_=>rfl
  |2,_=>rfl
  |3,_=>rfl
  |4,_=>rfl
  |5,_=>rfl
  |6,_=>rfl
  |7,_=>rfl
  |8,_=>rfl
  |9,_=>rfl
  |10,x=>abW x
  |11,_=>rfl
  |12,_=>rfl
  |13,_=>rfl
  |14,_=>rfl
  |15,_=>rfl
  |16,_=>rfl
  |17,_=>rfl
  |18,_=>rfl
  |19,_=>rfl
  |20,_=>rfl
  |21,_=>rfl
  |22,_=>rfl
  |_+23,_=>rfl
 mk_eq:=λn l x h=>match n,x,h with
  |0,x,h=>by
   simp only[cT]at h;split at h
   . rename_i aa a;cases h;exact aQ.fj a
   . cases h
  |1,x,h=>by
   simp only[cT]at h;split at h
   . rename_i aa a;cases h;exact aQ.fj a
   . cases h
  |2,x,h=>by
   simp only[cT]at h;split at h
   . rename_i aa a;cases h;exact aQ.fj a
   . cases h
  |3,x,h=>by
   simp only[cT]at h;split at h
   . rename_i aa a;cases h;exact aQ.fj a
   . cases h
  |4,x,h=>by
   simp only[cT]at h;split at h
   . rename_i aa a;cases h;exact aQ.fj a
   . cases h
  |5,x,h=>by
   simp only[cT]at h;split at h
   . rename_i aa a;cases h;exact aQ.fj a
   . cases h
  |6,x,h=>by
   simp only[cT]at h;split at h
   . rename_i aa a;cases h;exact aQ.fj a
   . cases h
  |7,x,h=>by
   simp only[cT]at h;split at h
   . rename_i aa a;cases h;exact aQ.fj a
   . cases h
  |8,x,h=>by
   simp only[cT]at h;split at h
   . rename_i aa a;cases h;exact aQ.fj a
   . cases h
  |9,x,h=>by
   simp only[cT]at h;split at h
   . rename_i aa a;cases h;exact aQ.fj a
   . cases h
  |10,x,h=>by
   simp only[cT]at h;split at h
   . rename_i aa a;cases h;exact aQ.fj a
   . cases h
  |11,x,h=>by
   simp only[cT]at h;split at h
   . rename_i aa a;cases h;exact aQ.fj a
   . cases h
  |12,x,h=>by
   simp only[cT]at h;split at h
   . rename_i aa a;cases h;exact aQ.fj a
   . cases h
  |13,x,h=>by
   simp only[cT]at h;split at h
   . rename_i aa a;cases h;exact aQ.fj a
   . cases h
  |14,x,h=>by
   simp only[cT]at h;split at h
   . rename_i aa a;cases h;exact aQ.fj a
   . cases h
  |15,x,h=>by
   simp only[cT]at h;split at h
   . rename_i aa a;cases h;exact aQ.fj a
   . cases h
  |16,x,h=>by
   simp only[cT]at h;split at h
   . rename_i aa a;cases h;exact aQ.fj a
   . cases h
  |17,x,h=>by
   simp only[cT]at h;split at h
   . rename_i aa a;cases h;exact aQ.fj a
   . cases h
  |18,x,h=>by
   simp only[cT]at h;split at h
   . rename_i aa a;cases h;exact aQ.fj a
   . cases h
  |19,x,h=>by
   simp only[cT]at h;split at h
   . rename_i aa a;cases h;exact aQ.fj a
   . cases h
  |20,x,h=>by
   simp only[cT]at h;split at h
   . rename_i aa a;cases h;exact aQ.fj a
   . cases h
  |21,x,h=>by
   simp only[cT]at h;split at h
   . rename_i aa a;cases h;exact aQ.fj a
   . cases h
  |22,x,h=>by
   simp only[cT]at h;split at h
   . rename_i aa a;cases h;exact aQ.fj a
   . cases h
  |_+23,x,h=>by
   simp only[cT]at h;split at h
   . rename_i aa a;cases h;exact aQ.fj a
   . cases h
 Va:=λn x=>match n,x with
  |0,_=>rfl
  |1,_=>rfl
  |2,_=>rfl
  |3,_=>rfl
  |4,_=>rfl
  |5,_=>rfl
  |6,_=>rfl
  |7,_=>rfl
  |8,_=>rfl
  |9,_=>rfl
  |10,_=>rfl
  |11,_=>rfl
  |12,_=>rfl
  |13,_=>rfl
  |14,_=>rfl
  |15,_=>rfl
  |16,_=>rfl
  |17,_=>rfl
  |18,_=>rfl
  |19,_=>rfl
  |20,_=>rfl
  |21,_=>rfl
  |22,_=>rfl
  |_+23,_=>rfl
 U':=λe=>match e with
  |3=>some (.int .i64)
  |5=>some (.int .u8)
  |9=>some .str
  |37=>some (.nm 13)
  |48=>some (.nm 10)
  |85=>some (.nm 9)
  |88=>some (.slice (.int .i64))
  |112=>some (.nm 7)
  |117=>some (.nm 11)
  |140=>some (.nm 5)
  |146=>some (.nm 8)
  |196=>some (.nm 16)
  |236=>some (.nm 14)
  |276=>some (.nm 17)
  |_=>none
 own:=[([false,false,true,true],2,.int .i64),([false,true,true,false],1,.int .i64),([false,false,true],2,.slice (.int .i64))]
 pos:=λn=>match n with
  |0=>by decide
  |1=>by decide
  |2=>by decide
  |3=>by decide
  |4=>by decide
  |5=>by decide
  |6=>by decide
  |7=>by decide
  |8=>by decide
  |9=>by decide
  |10=>by decide
  |11=>by decide
  |12=>by decide
  |13=>by decide
  |14=>by decide
  |15=>by decide
  |16=>by decide
  |17=>by decide
  |18=>by decide
  |19=>by decide
  |20=>by decide
  |21=>by decide
  |22=>by decide
  |_+23=>Nat.zero_lt_one
theorem af7:cR.Total:=λn l h=>match n,h with
 |0,h=>by
  obtain⟨x,a⟩:=aQ.gY (D:=dy) (ts:=ea 0) h;exact⟨_,by show cT 0 l=_;simp only[cT,a];rfl⟩
 |1,h=>by
  obtain⟨x,a⟩:=aQ.gY (D:=dy) (ts:=ea 1) h;exact⟨_,by show cT 1 l=_;simp only[cT,a];rfl⟩
 |2,h=>by
  obtain⟨x,a⟩:=aQ.gY (D:=dy) (ts:=ea 2) h;exact⟨_,by show cT 2 l=_;simp only[cT,a];rfl⟩
 |3,h=>by
  obtain⟨x,a⟩:=aQ.gY (D:=dy) (ts:=ea 3) h;exact⟨_,by show cT 3 l=_;simp only[cT,a];rfl⟩
 |4,h=>by
  obtain⟨x,a⟩:=aQ.gY (D:=dy) (ts:=ea 4) h;exact⟨_,by show cT 4 l=_;simp only[cT,a];rfl⟩
 |5,h=>by
  obtain⟨x,a⟩:=aQ.gY (D:=dy) (ts:=ea 5) h;exact⟨_,by show cT 5 l=_;simp only[cT,a];rfl⟩
 |6,h=>by
  obtain⟨x,a⟩:=aQ.gY (D:=dy) (ts:=ea 6) h;exact⟨_,by show cT 6 l=_;simp only[cT,a];rfl⟩
 |7,h=>by
  obtain⟨x,a⟩:=aQ.gY (D:=dy) (ts:=ea 7) h;exact⟨_,by show cT 7 l=_;simp only[cT,a];rfl⟩
 |8,h=>by
  obtain⟨x,a⟩:=aQ.gY (D:=dy) (ts:=ea 8) h;exact⟨_,by show cT 8 l=_;simp only[cT,a];rfl⟩
 |9,h=>by
  obtain⟨x,a⟩:=aQ.gY (D:=dy) (ts:=ea 9) h;exact⟨_,by show cT 9 l=_;simp only[cT,a];rfl⟩
 |10,h=>by
  obtain⟨x,a⟩:=aQ.gY (D:=dy) (ts:=ea 10) h;exact⟨_,by show cT 10 l=_;simp only[cT,a];rfl⟩
 |11,h=>by
  obtain⟨x,a⟩:=aQ.gY (D:=dy) (ts:=ea 11) h;exact⟨_,by show cT 11 l=_;simp only[cT,a];rfl⟩
 |12,h=>by
  obtain⟨x,a⟩:=aQ.gY (D:=dy) (ts:=ea 12) h;exact⟨_,by show cT 12 l=_;simp only[cT,a];rfl⟩
 |13,h=>by
  obtain⟨x,a⟩:=aQ.gY (D:=dy) (ts:=ea 13) h;exact⟨_,by show cT 13 l=_;simp only[cT,a];rfl⟩
 |14,h=>by
  obtain⟨x,a⟩:=aQ.gY (D:=dy) (ts:=ea 14) h;exact⟨_,by show cT 14 l=_;simp only[cT,a];rfl⟩
 |15,h=>by
  obtain⟨x,a⟩:=aQ.gY (D:=dy) (ts:=ea 15) h;exact⟨_,by show cT 15 l=_;simp only[cT,a];rfl⟩
 |16,h=>by
  obtain⟨x,a⟩:=aQ.gY (D:=dy) (ts:=ea 16) h;exact⟨_,by show cT 16 l=_;simp only[cT,a];rfl⟩
 |17,h=>by
  obtain⟨x,a⟩:=aQ.gY (D:=dy) (ts:=ea 17) h;exact⟨_,by show cT 17 l=_;simp only[cT,a];rfl⟩
 |18,h=>by
  obtain⟨x,a⟩:=aQ.gY (D:=dy) (ts:=ea 18) h;exact⟨_,by show cT 18 l=_;simp only[cT,a];rfl⟩
 |19,h=>by
  obtain⟨x,a⟩:=aQ.gY (D:=dy) (ts:=ea 19) h;exact⟨_,by show cT 19 l=_;simp only[cT,a];rfl⟩
 |20,h=>by
  obtain⟨x,a⟩:=aQ.gY (D:=dy) (ts:=ea 20) h;exact⟨_,by show cT 20 l=_;simp only[cT,a];rfl⟩
 |21,h=>by
  obtain⟨x,a⟩:=aQ.gY (D:=dy) (ts:=ea 21) h;exact⟨_,by show cT 21 l=_;simp only[cT,a];rfl⟩
 |22,h=>by
  obtain⟨x,a⟩:=aQ.gY (D:=dy) (ts:=ea 22) h;exact⟨_,by show cT 22 l=_;simp only[cT,a];rfl⟩
 |m+23,h=>by
  obtain⟨x,a⟩:=aQ.gY (D:=dy) (ts:=[.bool]) h;exact⟨x,by show cT (m+23) l=_;simp only[cT,a];rfl⟩
end
section
open Go Go.Proofs.YtdjagncoefjfeaaGreat.Shv
open Tryz
set_option maxRecDepth 100000
open Go.Proofs Go.Proofs.YtdjagncoefjfeaaGreat Go.Shelf
theorem XZ:hG prog 134=true:=by kernel_rfl
def qb:cI cR:=J6 cR 134 (.int .i64) 8
theorem W6:hY prog qb:=abQ (sz:=1) (bytes:=8) (z:=[.t (.int .i64 0)]) func134 (by kernel_rfl) (by kernel_rfl) (by kernel_rfl) rfl rfl
theorem n9:hh prog qb:=⟨XZ,W6⟩
theorem XI:hG prog 179=true:=by kernel_rfl
def qf:cI cR:=AQ cR 179 (.nm 10) 120
theorem Wp:hY prog qf:=JO (sz:=8) (bytes:=120) (z:=[.t (.int .i64 0),.t (.bool false),.t (.int .i64 0),.t (.str []),.t (.int .i64 0),.aA,.aA,.aA]) func179 (by kernel_rfl) (by kernel_rfl) (by kernel_rfl) rfl rfl
theorem od:hh prog qf:=⟨XI,Wp⟩
theorem Xb:hG prog 245=true:=by kernel_rfl
def pE:cI cR:=AQ cR 245 (.nm 11) 24
theorem Wq:hY prog pE:=JO (sz:=2) (bytes:=24) (z:=[.t (.int .i64 0),.t (.str [])]) func245 (by kernel_rfl) (by kernel_rfl) (by kernel_rfl) rfl rfl
theorem pF:hh prog pE:=⟨Xb,Wq⟩
instance:Inhabited gu:=⟨v'⟩
instance:Inhabited (cR.D 17):=⟨v'⟩
def lP(x y:gu):Bool:=decide (x.id<y.id)
def H4(l:List gu):Option (List gu):=some (lb lP l)
section
open Go.Proofs Go.Proofs.YtdjagncoefjfeaaGreat Go.Sort Go.RowKit Go.Lib
theorem ajj(x:Int)(w:World):Calls prog 250 #[.int .i64 x] w λe w'=>e= .returned (.bool false)/\w'=w:=by
 go_enter func250,ntmps250
 go_wp2
 go_ret
 exact⟨by simp,rfl⟩
set_option maxHeartbeats 1000000 in
theorem aji(x y:Int)(w:World):Calls prog 227 #[.int .i64 x,.int .i64 y] w λe w'=>e= .returned (.int .i64 (Lib.compareInt x y))/\w'=w:=by
 go_enter func227,ntmps227
 go_wp2_with (go_at_call 250;refine(ajj _ _).mono ?_;rintro e w' ⟨rfl,a⟩;rw[a])
 all_goals (go_ret;refine⟨?_,rfl⟩;unfold Lib.compareInt;(repeat' split)<;>first|rfl|(exfalso;omega))
def Bu(x:gu):List Value:=[.int .i64 x.id,.string ⟨x.text.toArray⟩]
set_option maxHeartbeats 1000000 in
theorem ajh(x y:Int)(s t:ByteArray)(W:World):Calls prog 226 #[.agg #[.int .i64 x,.string s],.agg #[.int .i64 y,.string t]] W λe w'=>e= .returned (.int .i64 (Lib.compareInt x y))/\∃q c,w'=grow (W.drewN q) c:=by
 have a:=λb=>aji x y b;generalize Lib.compareInt x y=r at a⊢
 go_enter func226,ntmps226
 go_wp2_with (go_at_call 227;refine(a _).mono ?_;rintro e w' ⟨rfl,rfl⟩)
 go_ret
 exact⟨rfl,0,_,by rw[alloc_eq_grow,alloc_eq_grow,grow_grow];rfl⟩
def OK:Go.Shelf.Ren:=⟨λ|6=>225|15=>249|14=>248|28=>263|29=>264|20=>255|21=>256|22=>257|23=>258|24=>259|25=>260|26=>261|27=>262|46=>265|47=>266|48=>267|49=>268|50=>269|57=>270|n=>n,λ|22=>274|24=>276|25=>279|3=>3|39=>269|0=>0|53=>305|55=>114|4=>4|46=>299|45=>298|50=>118|5=>5|9=>9|66=>307|70=>311|76=>313|77=>314|n=>n,λ|n=>n⟩
theorem UB:SlLaysF0.n6 prog OK:={
 mixed:=by kernel_rfl
 f6:=⟨f225.name,by decide,func225.trans (eM some (by kernel_rfl))⟩
 f14:=⟨f248.name,by decide,func248.trans (eM some (by kernel_rfl))⟩
 f15:=func249.trans (eM some (by kernel_rfl))
 f20:=⟨f255.name,by decide,func255.trans (eM some (by kernel_rfl))⟩
 f21:=⟨f256.name,by decide,func256.trans (eM some (by kernel_rfl))⟩
 f22:=⟨f257.name,by decide,func257.trans (eM some (by kernel_rfl))⟩
 f23:=⟨f258.name,by decide,func258.trans (eM some (by kernel_rfl))⟩
 f24:=⟨f259.name,by decide,func259.trans (eM some (by kernel_rfl))⟩
 f25:=⟨f260.name,by decide,func260.trans (eM some (by kernel_rfl))⟩
 f26:=⟨f261.name,by decide,func261.trans (eM some (by kernel_rfl))⟩
 f27:=⟨f262.name,by decide,func262.trans (eM some (by kernel_rfl))⟩
 f28:=func263.trans (eM some (by kernel_rfl))
 f29:=func264.trans (eM some (by kernel_rfl))
 f46:=⟨f265.name,by decide,func265.trans (eM some (by kernel_rfl))⟩
 f47:=func266.trans (eM some (by kernel_rfl))
 f48:=func267.trans (eM some (by kernel_rfl))
 f49:=⟨f268.name,by decide,func268.trans (eM some (by kernel_rfl))⟩
 f50:=⟨f269.name,by decide,func269.trans (eM some (by kernel_rfl))⟩
 f57:=⟨f270.name,by decide,func270.trans (eM some (by kernel_rfl))⟩
 t0:=underlying0
 a0:=isAgg0
 z0:=sizeOf0
 v0:=zeroValue0
 t3:=underlying3
 a3:=isAgg3
 z3:=sizeOf3
 v3:=zeroValue3
 t4:=underlying4
 a4:=isAgg4
 z4:=sizeOf4
 v4:=zeroValue4
 t5:=underlying5
 a5:=isAgg5
 z5:=sizeOf5
 v5:=zeroValue5
 t9:=underlying9
 a9:=isAgg9
 z9:=sizeOf9
 v9:=zeroValue9
 t22:=underlying274
 a22:=isAgg274
 z22:=sizeOf274
 v22:=zeroValue274
 t25:=underlying279
 a25:=isAgg279
 z25:=sizeOf279
 v25:=zeroValue279
 t39:=underlying269
 a39:=isAgg269
 z39:=sizeOf269
 v39:=zeroValue269
 t45:=underlying298
 a45:=isAgg298
 z45:=sizeOf298
 v45:=zeroValue298
 t46:=underlying299
 a46:=isAgg299
 z46:=sizeOf299
 v46:=zeroValue299
 t50:=underlying118
 a50:=isAgg118
 z50:=sizeOf118
 v50:=zeroValue118
 t53:=underlying305
 a53:=isAgg305
 z53:=sizeOf305
 v53:=zeroValue305
 t55:=underlying114
 a55:=isAgg114
 z55:=sizeOf114
 v55:=zeroValue114
 t66:=underlying307
 a66:=isAgg307
 z66:=sizeOf307
 v66:=zeroValue307
 t70:=underlying311
 a70:=isAgg311
 z70:=sizeOf311
 v70:=zeroValue311
 t76:=underlying313
 a76:=isAgg313
 z76:=sizeOf313
 v76:=zeroValue313
 t77:=underlying314
 a77:=isAgg314
 z77:=sizeOf314
 v77:=zeroValue314}
theorem NR:ltOf (λx y:gu=>Lib.compareInt x.id y.id)=lP:=by
 funext x y
 unfold ltOf lP Lib.compareInt;by_cases h1:x.id<y.id
 . simp[h1]
 . by_cases a:y.id<x.id<;>simp[h1,a]
theorem Hb:SWO lP:=adV (λx:gu=>x.id)
set_option maxHeartbeats 2000000 in
theorem ajl(p:Option Addr)(cap:Nat)(a:Value)(w:World):Calls prog 255 #[.slice p 0 cap,.int .i64 0,.int .i64 0,a] w λe w'=>e= .returned (.tuple #[])/\w'=w:=by
 go_enter func255,ntmps255
 go_wp2
 refine wp_loop_rounds 1 ?_;rw[rounds_succ]
 go_wp2
 go_end0
 exact⟨rfl,rfl⟩
set_option maxHeartbeats 2000000 in
theorem ajm(p:Option Addr)(cap:Nat)(c:Int)(a:Value)(w:World):Calls prog 248 #[.slice p 0 cap,.int .i64 0,.int .i64 0,.int .i64 c,a] w λe w'=>e= .returned (.tuple #[])/\w'=w:=by
 have b:=λW=>ajl p cap a W
 go_enter func248,ntmps248
 go_wp2
 refine wp_loop_rounds 1 ?_;rw[rounds_succ]
 go_wp2_with (go_at_call 255;refine(b _).mono ?_;rintro e w' ⟨rfl,rfl⟩)
 (try simp only[Exit.inBlock,Exit.then]);refine bodyPost_ret (results_none rfl _ _ _) rfl ?_
 exact⟨rfl,rfl⟩
set_option maxHeartbeats 2000000 in
theorem ajk(p:Option Addr)(cap:Nat)(a:Value)(w:World):Calls prog 225 #[.slice p 0 cap,a] w λe w'=>e= .returned (.tuple #[])/\w'=w:=by
 have b:=λc W=>ajm p cap c a W;have ah:∀W,Calls prog 249 #[.int .u64 0] W λe w'=>e= .returned (.int .i64 (Lib.bitLen 0:Nat))/\w'=W:=λW=>by
  have h:=Any.bits_Len (SlLaysF0.n15.bits (P:=prog) (ρ:=OK) {UB with}) 0 W (by omega) (by omega);exact h
 go_enter func225,ntmps225
 go_wp2_with (first|(go_at_call 249;refine(ah _).mono ?_;rintro e w' ⟨rfl,rfl⟩)|(go_at_call 248;refine(b _ _).mono ?_;rintro e w' ⟨rfl,rfl⟩))
 go_end0
 exact⟨rfl,rfl⟩
theorem ajn(blk off cap:Nat)(d:Array (cR.D 17))(w:World)(c:HoldsK Bu 2 w blk off d)(f:blk<w.heap.size)(g:d.size<4611686018427387904):
 Calls prog 225 #[.slice (some ⟨blk,off,none⟩) d.size cap,.func (.func 226) #[] #[]] w λe w'=>e= .returned (.tuple #[])/\∃n os,w'=sortWorldK Bu 2 w blk off n (pdq lP d 0 d.size (Lib.bitLen d.size) true true) os:=by
 have b:∀args w,(callFunc 226 args).run prog w= .ok (.enter 226 args) w:=enters_of func226 (by kernel_rfl) rfl;have h:=AnyQ.slices_SortFunc_eq (α:=gu) UB 2 isAgg276 sizeOf276 Bu (λ_=>rfl) (λx v a=>by simp[Bu]at a;rcases a with rfl|rfl<;>rfl) (λx y=>Lib.compareInt x.id y.id) (by rw[NR];exact Hb) 226 #[] blk off cap d w b (λ_ _ _ _ x y=>ajh x.id y.id _ _ _) c f g;rw[NR]at h;exact h
theorem afk:hG prog 225=true:=by kernel_rfl
def HJ:cI cR:=Ha cR 225 17 226 (lb (α:=cR.D 17) lP)
theorem Yl:hY prog HJ:=adt (U:=cR) (n:=17) Bu lP Hb (λ_=>rfl) (λw S x j t v h a=>abV w S x.id x.text j t v h a) ajn ajk
end
theorem HK:hh prog HJ:=⟨afk,Yl⟩
def MP:Go.Shelf.Ren:=⟨λ|240=>229|276=>251|n=>n,λ|0=>0|4=>4|9=>9|20=>20|37=>25|70=>250|72=>252|164=>294|n=>n,λn=>n⟩
theorem aiG:Lays.n240 prog MP:={
 mixed:=by kernel_rfl
 f240:=func229.trans (eM some (by kernel_rfl))
 f276:=func251.trans (eM some (by kernel_rfl))
 t0:=underlying0
 a0:=isAgg0
 z0:=sizeOf0
 v0:=zeroValue0
 t4:=underlying4
 a4:=isAgg4
 z4:=sizeOf4
 v4:=zeroValue4
 t9:=underlying9
 a9:=isAgg9
 z9:=sizeOf9
 v9:=zeroValue9
 t20:=underlying20
 a20:=isAgg20
 z20:=sizeOf20
 v20:=zeroValue20
 t70:=underlying250
 a70:=isAgg250
 z70:=sizeOf250
 v70:=zeroValue250
 t72:=underlying252
 a72:=isAgg252
 z72:=sizeOf252
 v72:=zeroValue252
 t164:=underlying294
 a164:=isAgg294
 z164:=sizeOf294
 v164:=zeroValue294}
theorem aiH:Builder.X72 prog MP:={
 sizeBuilder:=by kernel_rfl
 liesBuilder:=by kernel_rfl}
theorem aeP:hG prog 229=true:=by kernel_rfl
def pM:cI cR:=EW cR 229 252 5
theorem YG:hY prog pM:=aco aiG aiH rfl rfl
theorem ru:hh prog pM:=⟨aeP,YG⟩
theorem Xc:hG prog 134=true:=by kernel_rfl
def pG:cI cR:=AQ cR 134 (.int .i64) 8
theorem Wr:hY prog pG:=JO (sz:=1) (bytes:=8) (z:=[.t (.int .i64 0)]) func134 (by kernel_rfl) (by kernel_rfl) (by kernel_rfl) rfl rfl
theorem oe:hh prog pG:=⟨Xc,Wr⟩
end
section
open Go Go.Proofs.YtdjagncoefjfeaaGreat.Shv
open Tryz
set_option maxRecDepth 100000
abbrev aX(e:eA)(F:aQ cR.D e.ts->Option (aQ cR.D e.us)):Prop:=hh prog (e.s F)
abbrev cG(f kk:Nat)(p:a7)(e:gp)(F:aQ cR.D e.ts->Option (eC cR e.outs)):Prop:=nQ prog f kk p e F
abbrev Sw(e:eA):Prop:=ix prog e
abbrev dB(e:eA):aQ cR.D e.ts->aQ cR.D e.us->Prop:=BR prog cR e
abbrev dM(f kk:Nat)(p:a7)(e:gp):aQ cR.D e.ts->eC cR e.outs->Prop:=xX prog cR f kk p e
abbrev dD(e:eA)(F:aQ cR.D e.ts->Option (aQ cR.D e.us)):Prop:=∀h r,F h=some r->dB e h r
abbrev dN(f kk:Nat)(p:a7)(e:gp)(F:aQ cR.D e.ts->Option (eC cR e.outs)):Prop:=∀h r,F h=some r->dM f kk p e h r
variable{fs:List (cI cR)}{p:a7}{go:List da->Option Int}{gc:da×da×aj->Option (eU×Int)}
theorem dH{e:eA}{h:aQ cR.D e.ts}{r:aQ cR.D e.us}{x:Option (aQ cR.D e.us)}(h0:x=some r)(b:jn prog fs:=by exact .n){a:List (Nat×hi cR)}(ah:jI prog e.f e.st.length [] a:=by exact .n)(k:Sw e:=by exact .m (by kernel_rfl))(c:qL (hO fs) (k0 a) prog e h=x:=by kernel_rfl):dB e h r:= .at k b ah (c.trans h0)
theorem dW(e:gp){f kk:Nat}{F:aQ cR.D e.ts->Option (eC cR e.outs)}(bn:dN f kk p e F){h:aQ cR.D e.ts}{o:eC cR e.outs}{x:Option (eC cR e.outs)}(h0:x=some o)(b:jn prog fs:=by exact .n){a:List (Nat×hi cR)}(ah:jI prog f kk p a:=by exact .n)(c:rS (hO fs) (k0 a) kk (qF prog f p) e F h=x:=by kernel_rfl):dM f kk p e h o:= .at bn b ah (c.trans h0)
theorem b5(e:eA){F:aQ cR.D e.ts->Option (aQ cR.D e.us)}(h:dD e F)(k:Sw e:=by exact .m (by kernel_rfl)):aX e F:= .of k h
theorem dX(e:gp){f kk:Nat}{F:aQ cR.D e.ts->Option (eC cR e.outs)}(h:dN f kk p e F):cG f kk p e F:= .of h
def ahK:=aW 68 [.row 3,aa ab] (aa ab)
def ahL:=aW 69 [aa ab] (aa .bool)
def ahM:=aW 70 [.row 4] (aa ab)
def ahN:=aW 71 [.row 4] (aa ab)
def T':=bI 0 [(1,au 0 0),(3,.c (.arr 1)),(4,aa ab)] [.bc 4,.arr ab] [bH (.exit 0) [(3,.c (.arr 0))] [.arr ab]] [] [(.slot 3,ab)]
def ahO:=aW 72 [.row 4] (aa bw) [T']
def agY:=aW 146 [aa ab] (aa .bool)
def RF:=bI 0 [(3,au 0 0),(7,aa ab),(9,aa ab)] [bZ (az 4)] [eH 6 ab,fP 0]
def agJ:=aW 109 [.row 3,aa ab,aa (.int .u8)] (aa ab) [RF]
def agL:=aW 111 [aa ab] (aa .bool)
def Ub:=bI 0 [(1,aa (.int .u8)),(2,au 0 0),(5,aa ab),(6,aa ab)] [bZ (az 4)] [eH 4 ab,fP 0]
def ahQ:=aW 74 [.row 3,aa (.int .u8)] (aa ab) [Ub]
def agK:=aW 110 [.row 3,aa ab,aa (.int .u8)] (.a6 [.row 10,aa .bool])
def QP:=bI 0 [(1,aa ab),(2,aa .bool),(3,au 0 0),(7,au 1 0),(8,.c (.arr 2)),(9,aa ab),(10,aa ab)] [bZ (az 4),.bc 4,.arr (.nm 9)] [bH (.exit 2) [(1,aa ab),(2,aa .bool),(3,au 0 0),(7,au 1 0),(8,.c (.arr 2)),(9,aa ab)] [bZ (az 4),.bc 4,.arr (.nm 9)]]
def Ua:=bI 0 [(1,aa ab),(2,aa .bool),(3,au 0 0),(7,au 1 0),(8,.c (.arr 2)),(9,aa ab)] [bZ (az 4),.bc 4,.arr (.nm 9)] [bH (.exit 0) [(8,.c (.arr 0))] [.arr (.nm 9)]] [QP] [(.slot 8,.nm 9)]
def ahP:=aW 73 [.row 3,aa ab,aa .bool] (aa (az 9)) [Ua]
def QQ:=bI 0 [(1,au 0 0),(2,au 1 0),(4,aa ab),(5,au 2 0),(6,aa ab),(8,au 3 0),(9,aa bw),(10,aa ab)] [bZ (az 4),.box [.aA],.box [.arr 4],.box [.hole ab,.hole .str,.hole ab,.hole ab,.hole ab,.arr 5,.aA,.hole ab,.hole ab,.hole .bool],.arr (.nm 7),.arr (.nm 8)] [bH (.exit 3) [(1,au 0 0),(2,au 1 0),(4,aa ab),(5,au 2 0),(6,aa ab),(8,au 3 0)] [bZ (az 4),.box [.aA],.box [.arr 4],.box [.hole ab,.hole .str,.hole ab,.hole ab,.hole ab,.arr 5,.aA,.hole ab,.hole ab,.hole .bool],.arr (.nm 7),.arr (.nm 8)]] [] [(.via 8 5,.nm 8)]
def TZ:=bI 0 [(1,au 0 0),(2,au 1 0),(4,aa ab),(5,au 2 0),(6,aa ab)] [bZ (az 4),.box [.aA],.box [.arr 3],.arr (.nm 7)] [bH (.exit 0) [(2,au 0 0),(5,au 1 0)] [.box [.aA],.box [.arr 2],.arr (.nm 7)]] [QQ] [(.via 5 0,.nm 7)]
def ahu:=aW 34 [.row 3] (.a6 [.row 12,aa .bool]) [TZ]
def agZ:=aW 147 [au 0 0,aa ab] (aa ab) [] [.box [.hole (az 7),.hole (.slice (.int .u8)),.hole .bool]] [.box [.hole (az 7),.hole (.slice (.int .u8)),.hole .bool]]
def RG:=bI 0 [(0,au 0 0),(5,aa .str),(6,aa ab)] [.box [.hole (az 7),.hole (.slice (.int .u8)),.hole .bool]] [bH (.exit 0) [(5,aa .str)] [.box [.hole (az 7),.hole (.slice (.int .u8)),.hole .bool]]]
def ag0:=aW 148 [au 0 0,aa ab] (aa .str) [RG] [.box [.hole (az 7),.hole (.slice (.int .u8)),.hole .bool]] [.box [.hole (az 7),.hole (.slice (.int .u8)),.hole .bool]]
def ag1:=aW 149 [au 0 0] (aa .bool) [] [.box [.hole (az 7),.hole (.slice (.int .u8)),.hole .bool]] [.box [.hole (az 7),.hole (.slice (.int .u8)),.hole .bool]]
def T5:=bI 0 [(1,aa ab),(2,au 0 0),(6,aa ab)] [.bc 7] [bH .ret [(4,aa ab),(5,aa .bool)],fP 0]
def ahE:=aW 53 [.row 7,aa ab] (.a6 [aa ab,aa .bool]) [T5]
def Ue:=bI 0 [(1,aa ab),(2,au 0 0),(6,aa ab)] [.bc 7] [bH .ret [(4,aa ab),(5,aa .bool)],fP 0]
def ahX:=aW 82 [.row 7,aa ab] (.a6 [aa ab,aa .bool]) [Ue]
def ahj:=aW 194 [.row 7,aa ab] (aa .bool)
def RH:=bI 0 [(3,au 1 0),(5,aa ab)] [.box [.hole (az 7),.hole (.slice (.int .u8)),.hole .bool],.bc 7] [bH (.exit 0) [(5,aa ab)] [.box [.hole (az 7),.hole (.slice (.int .u8)),.hole .bool]]]
def ag3:=aW 150 [au 0 0,.row 7] (aa ab) [RH] [.box [.hole (az 7),.hole (.slice (.int .u8)),.hole .bool]] [.box [.hole (az 7),.hole (.slice (.int .u8)),.hole .bool]]
def ag4:=aW 151 [au 0 0,aa ab] (.row 11) [] [.box [.hole (az 7),.hole (.slice (.int .u8)),.hole .bool]] [.box [.hole (az 7),.hole (.slice (.int .u8)),.hole .bool]]
def ahg:=aW 163 [aa .bool,aa .bool] (aa ab)
def ahC:=aW 51 [aa ab] (aa (.int .u64))
def agW:=aW 128 [.row 10,.row 10] (aa ab)
def RI:=bI 0 [(3,au 0 0),(4,au 1 0),(5,au 2 0),(6,au 3 0),(7,aa ab)] [.bc 10,.bc 10,.bc 10,.box [.hole ab,.hole .bool,.hole ab,.hole .str,.hole ab,.aA,.aA,.aA]] [bH (.exit 0) [(3,au 0 0),(4,au 1 0),(5,au 2 0),(6,au 3 0),(7,aa ab)] [.bc 10,.bc 10,.bc 10,.box [.hole ab,.hole .bool,.hole ab,.hole .str,.hole ab,.aA,.aA,.aA]]]
def ag5:=aW 152 [.row 10,.row 10,.row 10] (.row 10) [RI]
def AU:=bI 0 [(0,au 0 0),(4,au 1 0),(5,au 2 0),(6,au 3 0),(7,aa ab)] [.box [.hole (az 7),.hole (.slice (.int .u8)),.hole .bool],.box [.hole ab,.hole .bool,.hole ab,.hole .str,.hole ab,.aA,.aA,.aA],.box [.hole ab,.hole .str,.hole ab,.hole ab,.hole ab,.hole (az 8),.hole (az 9),.hole ab,.hole ab,.hole .bool],.box [.hole ab,.hole .bool,.hole ab,.hole .str,.hole ab,.aA,.arr 4,.aA],.arr (.nm 10)] [bH (.exit 1) [(0,au 0 0),(4,au 1 0),(5,au 2 0),(6,au 3 0)] [.box [.hole (az 7),.hole (.slice (.int .u8)),.hole .bool],.box [.hole ab,.hole .bool,.hole ab,.hole .str,.hole ab,.aA,.aA,.aA],.box [.hole ab,.hole .str,.hole ab,.hole ab,.hole ab,.hole (az 8),.hole (az 9),.hole ab,.hole ab,.hole .bool],.box [.hole ab,.hole .bool,.hole ab,.hole .str,.hole ab,.aA,.arr 4,.aA],.arr (.nm 10)]] [] [(.via 6 6,.nm 10)]
def Ap:=bI 1 [(0,au 0 0),(4,au 1 0),(5,au 2 0),(6,au 3 0),(9,aa ab)] [.box [.hole (az 7),.hole (.slice (.int .u8)),.hole .bool],.box [.hole ab,.hole .bool,.hole ab,.hole .str,.hole ab,.aA,.aA,.aA],.box [.hole ab,.hole .str,.hole ab,.hole ab,.hole ab,.hole (az 8),.hole (az 9),.hole ab,.hole ab,.hole .bool],.box [.hole ab,.hole .bool,.hole ab,.hole .str,.hole ab,.aA,.arr 4,.aA],.arr (.nm 10)] [bH (.exit 3) [(4,au 1 0),(6,au 2 0)] [.box [.hole (az 7),.hole (.slice (.int .u8)),.hole .bool],.box [.hole ab,.hole .bool,.hole ab,.hole .str,.hole ab,.aA,.aA,.aA],.box [.hole ab,.hole .bool,.hole ab,.hole .str,.hole ab,.aA,.arr 3,.aA],.arr (.nm 10)]] [] [(.via 6 6,.nm 10)]
def Aq:=bI 2 [(0,au 0 0),(4,au 1 0),(5,au 2 0),(6,au 3 0),(10,aa ab)] [.box [.hole (az 7),.hole (.slice (.int .u8)),.hole .bool],.box [.hole ab,.hole .bool,.hole ab,.hole .str,.hole ab,.aA,.aA,.aA],.box [.hole ab,.hole .str,.hole ab,.hole ab,.hole ab,.hole (az 8),.hole (az 9),.hole ab,.hole ab,.hole .bool],.box [.hole ab,.hole .bool,.hole ab,.hole .str,.hole ab,.hole (az 10),.hole (az 10),.hole (az 11)]] [bH (.exit 5) [(4,au 1 0),(6,au 2 0)] [.box [.hole (az 7),.hole (.slice (.int .u8)),.hole .bool],.box [.hole ab,.hole .bool,.hole ab,.hole .str,.hole ab,.aA,.aA,.aA],.box [.hole ab,.hole .bool,.hole ab,.hole .str,.hole ab,.hole (az 10),.hole (az 10),.hole (az 11)]]]
def sQ:=aW 112 [au 0 0,aa ab] (.row 10) [AU,Ap,Aq] [.box [.hole (az 7),.hole (.slice (.int .u8)),.hole .bool]] [.box [.hole (az 7),.hole (.slice (.int .u8)),.hole .bool]]
def ahS:=aW 76 [.row 12,aa ab,aa (.slice (.int .u8))] (.row 10)
def ahT:=aW 77 [.row 12,aa ab,aa (.slice (.int .u8))] (.row 10)
def ahv:=aW 38 [.row 2] (.a6 [.row 12,aa ab,.row 10,.row 10,aa .bool])
def TY:=bI 0 [(1,aa (az 6)),(4,au 0 0),(5,au 1 0),(6,aa ab)] [.box [.aA],.box [.arr 2],.arr (.nm 4)] [bH (.exit 0) [(4,au 0 0),(5,au 1 0)] [.box [.aA],.box [.arr 2],.arr (.nm 4)]]
def aht:=aW 33 [.row 3,aa (az 6)] (.row 3) [TY]
def Uc:=bI 0 [(1,aa ab),(2,au 0 0),(5,aa ab)] [.bc 10] [bH (.exit 0) [(1,aa ab),(2,au 0 0)] [.bc 10]]
def yo:=bI 1 [(1,aa ab),(2,au 0 0),(6,aa ab)] [.bc 10] [bH (.exit 2) [(1,aa ab),(2,au 0 0)] [.bc 10]]
def yp:=bI 2 [(1,aa ab),(2,au 0 0),(7,aa ab)] [.bc 10] [bH (.exit 4) [(1,aa ab)]]
def yn:=aW 78 [.row 10,aa ab] (aa ab) [Uc,yo,yp]
def ahw:=aW 39 [.row 10] (aa .bool)
def agX:=aW 14 [.row 1] (.a6 [.row 12,.row 12,aa ab,.row 10,aa .bool])
def T3:=bI 0 [(0,aa (.int .u64)),(3,aa .str)] [] [bH (.exit 0) [(3,aa .str)]]
def ahB:=aW 50 [aa (.int .u64)] (aa .str) [T3]
def T4:=bI 0 [(0,aa (.int .u64)),(3,.c (.arr 0))] [.arr (.int .u8)] [bH (.exit 0) [(0,aa (.int .u64)),(3,.c (.arr 0))] [.arr (.int .u8)]] [] [(.slot 3,.int .u8)]
def ahD:=aW 52 [aa (.int .u64)] (aa .str) [T4]
def ahF:=aW 54 [aa .str] (aa .str)
def yr:=bI 0 [(0,aa (az 10)),(1,aa (az 10)),(5,aa ab)] [] [eH 4 .bool,fP 0]
def F7:=aW 89 [aa (az 10),aa (az 10)] (aa .bool) [yr]
def T2:=bI 0 [(2,au 0 0),(3,au 1 0),(5,aa ab)] [.bc 10,.bc 10] [eH 4 .bool,bH (.exit 0) [(2,au 0 0),(3,au 1 0)] [.bc 10,.bc 10]]
def Cm:=aW 49 [.row 10,.row 10] (aa .bool) [T2]
def ahG:=aW 55 [aa ab,aa .bool,aa .str] (aa .str)
def QR:=bI 0 [(3,au 0 0),(5,au 1 0),(7,au 2 0),(14,aa .str),(15,aa ab),(19,aa ab)] [bZ (az 7),.bc 10,.bc 7] [bH (.exit 7) [(3,au 0 0),(5,au 1 0),(7,au 2 0),(14,aa .str),(15,aa ab)] [bZ (az 7),.bc 10,.bc 7]]
def yb:=bI 0 [(3,au 0 0),(5,au 1 0),(7,au 2 0),(10,aa .str),(11,aa ab)] [bZ (az 7),.bc 10,.bc 7] [bH (.exit 1) [(10,aa .str)]]
def yc:=bI 1 [(3,au 0 0),(5,au 1 0),(7,au 2 0),(12,aa .str),(13,aa ab)] [bZ (az 7),.bc 10,.bc 7] [bH (.exit 3) [(12,aa .str)]]
def yd:=bI 2 [(3,au 0 0),(5,au 1 0),(7,au 2 0),(14,aa .str),(15,aa ab)] [bZ (az 7),.bc 10,.bc 7] [bH (.exit 5) [(14,aa .str)]] [QR]
def sT:=aW 19 [.row 12,aa ab,.row 10] (aa .str) [yb,yc,yd]
def B6:=aW 10 [.row 0] (.a6 [.row 13,.row 13,aa .str,aa .bool])
def T0:=aW 40 [aa ab] (.row 9)
def T1:=aW 41 [aa (az 9)] (.row 13)
def RJ:=bI 0 [(0,aa (az 8)),(1,aa (az 8)),(12,aa ab),(13,aa ab)] [] [eH 4 .bool,fP 0]
def TL:=aW 239 [aa (az 8),aa (az 8)] (aa .bool) [RJ]
def RK:=bI 0 [(0,aa (az 11)),(1,aa (az 11)),(12,aa ab),(13,aa ab)] [] [eH 4 .bool,fP 0]
def SO:=aW 103 [aa (az 11),aa (az 11)] (aa .bool) [RK]
def A2:=bI 0 [(1,aa (az 10)),(2,.c (.fn 242 [])),(15,aa (az 10)),(16,aa ab),(17,aa ab)] [] [eH 6 .bool,fP 0]
def EX:=aW 104 [aa (az 10),aa (az 10),.c (.fn 242 [])] (aa .bool) [A2]
def ye:=aW 242 [.row 10,.row 10] (aa .bool)
def TN:=aW 241 [.row 9,.row 9] (aa .bool)
def RL:=bI 0 [(1,aa (az 9)),(2,.c (.fn 241 [])),(15,aa (az 9)),(16,aa ab),(17,aa ab)] [] [eH 6 .bool,fP 0]
def TM:=aW 240 [aa (az 9),aa (az 9),.c (.fn 241 [])] (aa .bool) [RL]
def Tq:=aW 211 [.row 7,.row 7] (aa .bool)
def TH:=aW 235 [aa (.int .u8)] (aa .bool)
def TI:=aW 236 [aa (.int .u8)] (aa .bool)
def RM:=bI 0 [(0,aa .str),(18,aa ab),(19,aa ab)] [] [eH 2 .bool,fP 0]
def Tn:=aW 208 [aa .str] (aa .bool) [RM]
def Q5:=bI 0 [(0,aa bw),(1,aa jh),(5,.c (.mp 0)),(9,aa bw),(10,aa ab),(11,aa ab)] [.set] [eH 4 .bool,bH (.exit 0) [(0,aa bw)]]
def TJ:=aW 237 [aa bw,aa jh] (aa .bool) [Q5]
def Q6:=bI 0 [(0,aa (az 8)),(3,.c (.arr 0)),(4,.c (.arr 1)),(7,aa (az 8)),(8,aa ab),(9,aa ab)] [.arr ab,.arr .str] [bH (.exit 0) [(0,aa (az 8)),(3,.c (.arr 0)),(4,.c (.arr 1))] [.arr ab,.arr .str]] [] [(.slot 3,ab),(.slot 4,.str)]
def To:=aW 209 [aa (az 8)] (aa .bool) [Q6]
def TK:=aW 238 [.row 10] (aa .bool)
def Q7:=bI 0 [(1,au 0 0),(3,.c (.arr 1)),(4,.c (.arr 2)),(8,aa (az 9)),(9,aa ab),(10,aa ab)] [.bc 7,.arr ab,.arr .str] [eH 2 .bool,bH (.exit 0) [(1,au 0 0),(3,.c (.arr 1)),(4,.c (.arr 2))] [.bc 7,.arr ab,.arr .str]] [] [(.slot 3,ab),(.slot 4,.str)]
def Tp:=aW 210 [.row 7] (aa .bool) [Q7]
def S5:=aW 169 [.row 7] (aa .bool)
def Q8:=bI 0 [(1,au 0 0),(3,.c (.arr 1)),(7,aa (az 9)),(8,aa ab),(9,aa ab)] [.bc 7,.arr ab] [bH (.exit 0) [(1,au 0 0),(3,.c (.arr 1))] [.bc 7,.arr ab]] [] [(.slot 3,ab)]
def S6:=aW 170 [.row 7] (aa bw) [Q8]
def OL:=bI 0 [(1,au 0 0),(3,.c (.mp 1)),(5,au 2 0),(14,aa (az 7)),(15,aa ab),(16,aa ab),(38,aa bw),(39,aa ab),(40,aa ab)] [bZ (az 7),.set,.box [.hole ab,.hole .str,.hole ab,.hole ab,.hole ab,.hole (az 8),.hole (az 9),.hole ab,.hole ab,.hole .bool]] [eH 2 ab,bH (.exit 2) [(1,au 0 0),(3,.c (.mp 1)),(5,au 2 0),(14,aa (az 7)),(15,aa ab),(16,aa ab)] [bZ (az 7),.set,.box [.hole ab,.hole .str,.hole ab,.hole ab,.hole ab,.hole (az 8),.hole (az 9),.hole ab,.hole ab,.hole .bool]]]
def Q9:=bI 0 [(1,au 0 0),(3,.c (.mp 1)),(14,aa (az 7)),(15,aa ab),(16,aa ab)] [bZ (az 7),.set] [eH 2 ab,fP 0] [OL]
def B':=aW 139 [.row 12] (aa ab) [Q9]
def FR:=aW 105 [.row 13] (aa ab)
def F3:=bI 0 [(6,aa (az 13)),(7,aa ab),(8,aa ab)] [] [eH 2 ab,fP 0]
def F2:=aW 65 [aa (az 13)] (aa ab) [F3]
def S7:=aW 171 [au 0 0,aa ab] (.a6 [.row 10,aa .bool]) [] [.box [.hole (az 7),.arr 1,.hole bw,.hole ab],.arr ab] [.box [.hole (az 7),.arr 2,.arr 3,.hole ab],.gone,.arr ab,.arr ab]
def Q':=bI 0 [(0,aa .str),(4,aa (.int .u64)),(17,aa ab),(18,aa ab)] [] [bH (.exit 0) [(4,aa (.int .u64))]]
def S8:=aW 172 [aa .str] (.a6 [aa (.int .u64),aa ab]) [Q']
def S9:=aW 173 [aa (.int .u64)] (aa ab)
def Tm:=aW 206 [.row 8,au 0 0] (aa .bool) [] [bZ ab] [bZ ab]
def Ra:=bI 0 [(0,aa (az 8)),(1,.c (.fn 206 [0])),(7,aa ab),(8,aa ab)] [bZ ab] [bH .ret [(4,aa ab)] [bZ ab],bH (.exit 0) [] [bZ ab]]
def Tl:=aW 205 [aa (az 8),.c (.fn 206 [0])] (aa ab) [Ra] [bZ ab] [bZ ab]
def S2:=aW 165 [.row 7,aa ab] (.a6 [aa ab,aa .bool])
def pf:=aW 174 [au 0 0,aa ab,aa ab,aa .str] (.a6 [.row 10,aa .bool]) [] [.box [.hole (az 7),.arr 1,.hole bw,.hole ab],.arr ab] [.box [.hole (az 7),.arr 2,.hole bw,.hole ab],.gone,.arr ab]
def Rb:=bI 0 [(0,aa .str),(5,aa (.int .u64)),(10,aa ab),(11,aa ab)] [] [bH .ret [(2,aa (.int .u64)),(3,aa ab),(4,aa ab)],fP 0]
def TV:=aW 254 [aa .str] (.a6 [aa (.int .u64),aa ab,aa ab]) [Rb]
def TO:=aW 243 [aa .str] (.a6 [aa (.int .u64),aa .str,aa .bool])
def Tr:=aW 212 [aa .str] (.a6 [aa ab,aa .str,aa ab])
def SZ:=aW 138 [.row 9,au 0 0] (aa .bool) [] [bZ ab] [bZ ab]
def Rc:=bI 0 [(0,aa (az 9)),(1,.c (.fn 138 [0])),(7,aa ab),(8,aa ab)] [bZ ab] [bH .ret [(4,aa ab)] [bZ ab],bH (.exit 0) [] [bZ ab]]
def SY:=aW 137 [aa (az 9),.c (.fn 138 [0])] (aa ab) [Rc] [bZ ab] [bZ ab]
def Uk:=aW 98 [.row 7,aa ab] (.a6 [aa ab,aa .bool])
def Ca:=aW 175 [au 0 0,.row 7,aa .str] (.a6 [.row 10,aa .bool]) [] [.box [.hole (az 7),.arr 1,.hole bw,.hole ab],.arr ab] [.box [.hole (az 7),.arr 2,.hole bw,.hole ab],.gone,.arr ab]
def TP:=aW 244 [aa .str] (.a6 [aa .str,aa .str,aa .bool])
def Re:=bI 0 [(4,.c (.arr 0)),(5,aa .str)] [.arr .str] [bH .ret [(2,.c (.aA)),(3,aa ab)],bH (.exit 0) [(4,.c (.arr 0))] [.arr .str]] [] [(.slot 4,.str)]
def Tt:=aW 213 [aa .str] (.a6 [aa jh,aa ab]) [Re]
def Ar:=bI 0 [(0,au 0 0),(4,au 2 0),(6,au 3 0),(10,au 4 0),(38,aa jh),(39,aa ab),(40,aa ab)] [.box [.hole (az 7),.arr 5,.hole bw,.hole ab],.gone,.bc 7,.box [.hole ab,.hole .bool,.hole ab,.hole .str,.hole ab,.aA,.aA,.aA],.box [.hole ab,.hole .bool,.hole ab,.hole .str,.hole ab,.aA,.arr 6,.aA],.arr ab,.arr (.nm 10)] [bH .ret [(6,au 2 0),(7,aa .bool)] [.box [.hole (az 7),.arr 3,.hole bw,.hole ab],.gone,.bc 10,.arr ab],bH (.exit 0) [(6,au 2 0),(10,au 3 0)] [.box [.hole (az 7),.arr 4,.hole bw,.hole ab],.gone,.box [.hole ab,.hole .bool,.hole ab,.hole .str,.hole ab,.aA,.aA,.aA],.box [.hole ab,.hole .bool,.hole ab,.hole .str,.hole ab,.aA,.arr 5,.aA],.arr ab,.arr (.nm 10)]] [] [(.via 10 6,.nm 10)]
def Cb:=aW 176 [au 0 0,.row 7,aa .str] (.a6 [.row 10,aa .bool]) [Ar] [.box [.hole (az 7),.arr 1,.hole bw,.hole ab],.arr ab] [.box [.hole (az 7),.arr 2,.hole bw,.hole ab],.gone,.arr ab]
def Te:=aW 188 [aa ab] (aa (.int .u64))
def TT:=aW 252 [aa (.int .u64)] (aa .bool)
def TE:=aW 232 [aa (.int .u64),aa (.int .u64)] (aa ab)
def TS:=aW 250 [aa ab] (aa .bool)
def TB:=aW 227 [aa ab,aa ab] (aa ab)
def TU:=aW 253 [aa .str] (aa .bool)
def TG:=aW 234 [aa .str,aa .str] (aa ab)
def Rf:=bI 0 [(3,aa ab),(6,aa bw),(7,aa ab),(8,aa ab)] [] [eH 2 ab,bH (.exit 0) [(3,aa ab)]]
def TF:=aW 233 [aa bw] (aa ab) [Rf]
def Tk:=aW 204 [.row 10,.row 10] (aa ab)
def As:=bI 0 [(0,au 0 0),(4,au 2 0),(6,au 3 0),(8,aa jh),(10,au 4 0),(11,aa ab)] [.box [.hole (az 7),.arr 5,.hole bw,.hole ab],.gone,.bc 7,.box [.hole ab,.hole .bool,.hole ab,.hole .str,.hole ab,.aA,.aA,.aA],.box [.hole ab,.hole .bool,.hole ab,.hole .str,.hole ab,.arr 6,.aA,.aA],.arr ab,.arr (.nm 10)] [bH .ret [(6,au 2 0),(7,aa .bool)] [.box [.hole (az 7),.arr 3,.hole bw,.hole ab],.gone,.bc 10,.arr ab],bH (.exit 0) [(0,au 0 0),(4,au 2 0),(6,au 3 0),(8,aa jh),(10,au 4 0)] [.box [.hole (az 7),.arr 5,.hole bw,.hole ab],.gone,.bc 7,.box [.hole ab,.hole .bool,.hole ab,.hole .str,.hole ab,.aA,.aA,.aA],.box [.hole ab,.hole .bool,.hole ab,.hole .str,.hole ab,.arr 6,.aA,.aA],.arr ab,.arr (.nm 10)]] [] [(.via 10 5,.nm 10)]
def Rg:=bI 1 [(0,au 0 0),(4,au 2 0),(6,au 3 0),(8,aa jh),(10,au 4 0),(14,aa ab)] [.box [.hole (az 7),.arr 5,.hole bw,.hole ab],.gone,.bc 7,.box [.hole ab,.hole .bool,.hole ab,.hole .str,.hole ab,.aA,.aA,.aA],.box [.hole ab,.hole .bool,.hole ab,.hole .str,.hole ab,.arr 6,.aA,.aA],.arr ab,.arr (.nm 10)] [bH .ret [(6,au 2 0),(7,aa .bool)] [.box [.hole (az 7),.arr 3,.arr 4,.hole ab],.gone,.bc 10,.arr ab,.arr ab],bH (.exit 2) [(0,au 0 0),(4,au 2 0),(6,au 3 0),(8,aa jh),(10,au 4 0)] [.box [.hole (az 7),.arr 5,.hole bw,.hole ab],.gone,.bc 7,.box [.hole ab,.hole .bool,.hole ab,.hole .str,.hole ab,.aA,.aA,.aA],.box [.hole ab,.hole .bool,.hole ab,.hole .str,.hole ab,.arr 6,.aA,.aA],.arr ab,.arr (.nm 10)]]
def Au:=bI 2 [(0,au 0 0),(4,au 2 0),(6,au 3 0),(8,aa jh),(10,au 4 0),(15,aa ab)] [.box [.hole (az 7),.arr 5,.hole bw,.hole ab],.gone,.bc 7,.box [.hole ab,.hole .bool,.hole ab,.hole .str,.hole ab,.aA,.aA,.aA],.box [.hole ab,.hole .bool,.hole ab,.hole .str,.hole ab,.arr 6,.arr 7,.aA],.arr ab,.arr (.nm 10),.arr (.nm 10)] [bH .ret [(6,au 2 0),(7,aa .bool)] [.box [.hole (az 7),.arr 3,.hole bw,.hole ab],.gone,.bc 10,.arr ab],bH (.exit 4) [(6,au 2 0),(10,au 3 0)] [.box [.hole (az 7),.arr 4,.hole bw,.hole ab],.gone,.box [.hole ab,.hole .bool,.hole ab,.hole .str,.hole ab,.aA,.aA,.aA],.box [.hole ab,.hole .bool,.hole ab,.hole .str,.hole ab,.arr 5,.arr 6,.aA],.arr ab,.arr (.nm 10),.arr (.nm 10)]] [] [(.via 10 6,.nm 10)]
def Cc:=aW 177 [au 0 0,.row 7,aa .str] (.a6 [.row 10,aa .bool]) [As,Rg,Au] [.box [.hole (az 7),.arr 1,.hole bw,.hole ab],.arr ab] [.box [.hole (az 7),.arr 2,.hole bw,.hole ab],.gone,.arr ab]
def Rh:=bI 0 [(4,.c (.arr 0)),(5,aa (.int .u64)),(6,aa .str)] [.arr (.nm 14)] [bH .ret [(2,.c (.aA)),(3,aa ab)],bH (.exit 0) [(4,.c (.arr 0))] [.arr (.nm 14)]] [] [(.slot 4,.nm 14)]
def Tu:=aW 214 [aa .str] (.a6 [aa (az 14),aa ab]) [Rh]
def Tw:=aW 216 [.row 14,au 0 0] (aa .bool) [] [.bc 9] [.bc 9]
def Ri:=bI 0 [(0,aa (az 14)),(1,.c (.fn 216 [0])),(7,aa ab),(8,aa ab)] [.bc 9] [bH .ret [(4,aa ab)] [.bc 9],bH (.exit 0) [] [.bc 9]]
def Tv:=aW 215 [aa (az 14),.c (.fn 216 [0])] (aa ab) [Ri] [.bc 9] [.bc 9]
def Av:=bI 0 [(1,au 0 0),(2,au 1 0),(20,.c (.arr 2)),(21,aa ab),(22,aa ab)] [.box [.hole ab,.hole .bool,.hole ab,.hole .str,.hole ab,.arr 2,.arr 3,.arr 4],.box [.hole ab,.hole .bool,.hole ab,.hole .str,.hole ab,.aA,.aA,.aA],.arr (.nm 10),.arr (.nm 10),.arr (.nm 11)] [bH (.exit 0) [(1,au 0 0),(2,au 1 0)] [.box [.hole ab,.hole .bool,.hole ab,.hole .str,.hole ab,.arr 2,.arr 3,.arr 4],.box [.hole ab,.hole .bool,.hole ab,.hole .str,.hole ab,.aA,.aA,.aA],.arr (.nm 10),.arr (.nm 10),.arr (.nm 11)]]
def Bk:=bI 1 [(1,au 0 0),(2,au 1 0),(35,.c (.arr 2)),(36,aa ab),(37,aa ab)] [.box [.hole ab,.hole .bool,.hole ab,.hole .str,.hole ab,.arr 3,.arr 2,.arr 4],.box [.hole ab,.hole .bool,.hole ab,.hole .str,.hole ab,.aA,.aA,.aA],.arr (.nm 10),.arr (.nm 10),.arr (.nm 11)] [bH (.exit 2) [(1,au 0 0),(2,au 1 0)] [.box [.hole ab,.hole .bool,.hole ab,.hole .str,.hole ab,.arr 2,.arr 3,.arr 4],.box [.hole ab,.hole .bool,.hole ab,.hole .str,.hole ab,.aA,.aA,.aA],.arr (.nm 10),.arr (.nm 10),.arr (.nm 11)]]
def vq:=aW 217 [.row 10] (.row 10) [Av,Bk]
def Bl:=bI 0 [(0,au 0 0),(4,au 2 0),(6,au 3 0),(8,aa (az 14)),(10,au 4 0),(39,aa (az 9)),(40,aa ab),(41,aa ab)] [.box [.hole (az 7),.arr 5,.hole bw,.hole ab],.gone,.bc 7,.box [.hole ab,.hole .bool,.hole ab,.hole .str,.hole ab,.aA,.aA,.aA],.box [.hole ab,.hole .bool,.hole ab,.hole .str,.hole ab,.aA,.arr 6,.aA],.arr ab,.arr (.nm 10)] [bH .ret [(6,au 2 0),(7,aa .bool)] [.box [.hole (az 7),.arr 3,.hole bw,.hole ab],.gone,.bc 10,.arr ab],bH (.exit 0) [(0,au 0 0),(4,au 2 0),(6,au 3 0),(8,aa (az 14)),(10,au 4 0)] [.box [.hole (az 7),.arr 5,.hole bw,.hole ab],.gone,.bc 7,.box [.hole ab,.hole .bool,.hole ab,.hole .str,.hole ab,.aA,.aA,.aA],.box [.hole ab,.hole .bool,.hole ab,.hole .str,.hole ab,.aA,.arr 6,.aA],.arr ab,.arr (.nm 10)]] [] [(.via 10 6,.nm 10)]
def Rj:=bI 1 [(0,au 0 0),(4,au 2 0),(6,au 3 0),(10,au 4 0),(117,aa (az 14)),(118,aa ab),(119,aa ab)] [.box [.hole (az 7),.arr 5,.hole bw,.hole ab],.gone,.bc 7,.box [.hole ab,.hole .bool,.hole ab,.hole .str,.hole ab,.aA,.aA,.aA],.box [.hole ab,.hole .bool,.hole ab,.hole .str,.hole ab,.aA,.arr 6,.arr 7],.arr ab,.arr (.nm 10),.arr (.nm 11)] [bH .ret [(6,au 2 0),(7,aa .bool)] [.box [.hole (az 7),.arr 3,.arr 4,.hole ab],.gone,.bc 10,.arr ab,.arr ab],bH (.exit 3) [(6,au 2 0),(10,au 3 0)] [.box [.hole (az 7),.arr 4,.hole bw,.hole ab],.gone,.box [.hole ab,.hole .bool,.hole ab,.hole .str,.hole ab,.aA,.aA,.aA],.box [.hole ab,.hole .bool,.hole ab,.hole .str,.hole ab,.aA,.arr 5,.arr 6],.arr ab,.arr (.nm 10),.arr (.nm 11)]] [] [(.via 10 7,.nm 11)]
def Cd:=aW 178 [au 0 0,.row 7,aa .str] (.a6 [.row 10,aa .bool]) [Bl,Rj] [.box [.hole (az 7),.arr 1,.hole bw,.hole ab],.arr ab] [.box [.hole (az 7),.arr 2,.hole bw,.hole ab],.gone,.arr ab]
def x9:=aW 140 [au 0 0,aa ab,aa .str] (.a6 [.row 10,aa .bool]) [] [.box [.hole (az 7),.arr 1,.hole bw,.hole ab],.arr ab] [.box [.hole (az 7),.arr 2,.hole bw,.hole ab],.gone,.arr ab]
def SN:=aW 102 [.row 12,aa ab,aa .str] (.a6 [.row 10,.row 15,aa ab])
def Cp:=aW 63 [.row 12,aa ab,aa .str] (.a6 [.row 10,aa ab])
def SP:=aW 129 [.row 12,aa ab] (aa ab)
def TD:=aW 230 [.row 10] (.row 10)
def Ti:=aW 201 [.row 10] (aa .bool)
def Tj:=aW 202 [aa ab] (aa .bool)
def Ck:=aW 231 [.row 10,au 0 0,au 1 0,au 2 0] (aa .bool) [] [bZ (az 7),bZ ab,bZ .bool] [bZ (az 7),bZ ab,bZ .bool]
def A3:=bI 0 [(0,aa (az 10)),(1,.c (.fn 231 [0,1,2])),(7,aa ab),(8,aa ab)] [bZ (az 7),bZ ab,bZ .bool] [bH .ret [(4,aa ab)] [bZ (az 7),bZ ab,bZ .bool],bH (.exit 0) [] [bZ (az 7),bZ ab,bZ .bool]]
def EY:=aW 207 [aa (az 10),.c (.fn 231 [0,1,2])] (aa ab) [A3] [bZ (az 7),bZ ab,bZ .bool] [bZ (az 7),bZ ab,bZ .bool]
def EZ:=aW 166 [aa (az 10),.c (.fn 231 [0,1,2])] (aa .bool) [] [bZ (az 7),bZ ab,bZ .bool] [bZ (az 7),bZ ab,bZ .bool]
def Cj:=aW 203 [.row 12,aa ab,aa (az 10),aa .bool] (aa .bool)
def Rk:=bI 0 [(3,aa .bool),(4,au 0 0),(6,au 1 0),(9,au 2 0),(111,aa (az 11)),(112,aa ab),(113,aa ab)] [bZ (az 7),.bc 10,.box [.hole ab,.hole .str,.hole ab,.hole ab,.hole ab,.hole (az 8),.hole (az 9),.hole ab,.hole ab,.hole .bool]] [eH 8 .bool,bH (.exit 1) [(3,aa .bool),(4,au 0 0),(6,au 1 0),(9,au 2 0)] [bZ (az 7),.box [.hole ab,.hole .bool,.hole ab,.hole .str,.hole ab,.hole (az 10),.hole (az 10),.hole (az 11)],.box [.hole ab,.hole .str,.hole ab,.hole ab,.hole ab,.hole (az 8),.hole (az 9),.hole ab,.hole ab,.hole .bool]]]
def Bn:=bI 1 [(3,aa .bool),(4,au 0 0),(6,au 1 0),(150,aa (az 9)),(151,aa ab),(152,aa ab)] [bZ (az 7),.box [.hole ab,.hole .bool,.hole ab,.hole .str,.hole ab,.hole (az 10),.hole (az 10),.hole (az 11)]] [eH 8 .bool,fP 3]
def Rl:=bI 2 [(3,aa .bool),(4,au 0 0),(6,au 1 0),(9,au 2 0),(20,aa ab)] [bZ (az 7),.bc 10,.box [.hole ab,.hole .str,.hole ab,.hole ab,.hole ab,.hole (az 8),.hole (az 9),.hole ab,.hole ab,.hole .bool]] [eH 8 .bool,bH (.exit 5) [(3,aa .bool),(4,au 0 0),(6,au 1 0),(9,au 2 0)] [bZ (az 7),.bc 10,.box [.hole ab,.hole .str,.hole ab,.hole ab,.hole ab,.hole (az 8),.hole (az 9),.hole ab,.hole ab,.hole .bool]]]
def sS:=aW 164 [.row 12,aa ab,.row 10,aa .bool] (aa .bool) [Rk,Bn,Rl]
def SQ:=aW 130 [.row 12,aa ab,.row 10] (aa .bool)
def Uh:=aW 92 [.row 12,aa ab,.row 10] (aa ab)
def SR:=aW 131 [.row 7,.row 10] (aa .bool)
def S3:=aW 167 [.row 10,au 0 0,au 1 0] (aa .bool) [] [bZ (az 7),.bc 7] [bZ (az 7),.bc 7]
def OM:=bI 0 [(0,aa (az 10)),(1,.c (.fn 167 [0,1])),(7,aa ab),(8,aa ab)] [bZ (az 7),.bc 7] [bH .ret [(4,aa ab)] [bZ (az 7),.bc 7],bH (.exit 0) [] [bZ (az 7),.bc 7]]
def Rm:=aW 207 [aa (az 10),.c (.fn 167 [0,1])] (aa ab) [OM] [bZ (az 7),.bc 7] [bZ (az 7),.bc 7]
def Rn:=aW 166 [aa (az 10),.c (.fn 167 [0,1])] (aa .bool) [] [bZ (az 7),.bc 7] [bZ (az 7),.bc 7]
def SS:=aW 132 [.row 12,.row 7,.row 10] (aa .bool)
def Ro:=bI 0 [(2,au 0 0),(3,au 1 0),(5,.c (.arr 2)),(11,aa ab),(12,aa ab)] [.bc 7,.bc 10,.arr (.nm 16)] [bH (.exit 0) [(5,.c (.arr 0))] [.arr (.nm 16)]] [] [(.slot 5,.nm 16)]
def SU:=aW 133 [.row 7,.row 10] (aa (az 16)) [Ro]
def Bo:=bI 0 [(3,au 0 0),(5,au 1 0),(6,au 2 0),(9,au 3 0),(49,aa (az 16)),(50,aa ab),(51,aa ab)] [bZ (az 7),.bc 10,.box [.hole ab,.hole .bool,.hole ab,.hole .str,.hole ab,.aA,.aA,.aA],.box [.hole ab,.hole .bool,.hole ab,.hole .str,.hole ab,.arr 4,.arr 5,.aA],.arr (.nm 10),.arr (.nm 10)] [bH .ret [(6,au 0 0),(7,aa .bool)] [.box [.hole ab,.hole .bool,.hole ab,.hole .str,.hole ab,.aA,.aA,.aA]],bH (.exit 0) [(6,au 0 0),(9,au 1 0)] [.box [.hole ab,.hole .bool,.hole ab,.hole .str,.hole ab,.aA,.aA,.aA],.box [.hole ab,.hole .bool,.hole ab,.hole .str,.hole ab,.arr 2,.arr 3,.aA],.arr (.nm 10),.arr (.nm 10)]] [] [(.via 9 6,.nm 10)]
def x':=aW 141 [.row 12,aa ab,.row 10] (.a6 [.row 10,aa .bool]) [Bo]
def B7:=aW 106 [.row 12,aa ab,.row 10] (.a6 [.row 10,aa ab])
def S':=aW 180 [.row 12,aa ab] (aa ab)
def Ta:=aW 181 [.row 12,aa ab,.row 10] (aa .bool)
def S0:=aW 142 [.row 12,aa ab,.row 10,.row 12,aa ab] (aa ab)
def Tb:=aW 182 [au 0 0] (.a6 [.row 10,aa .bool]) [] [.box [.hole (az 7),.hole (az 7),.arr 1,.hole bw],.arr ab] [.box [.hole (az 7),.hole (az 7),.arr 2,.arr 3],.gone,.arr ab,.arr ab]
def Tx:=aW 218 [au 0 0,aa ab] (.a6 [.row 10,aa .bool]) [] [.box [.hole (az 7),.hole (az 7),.arr 1,.hole bw],.arr ab] [.box [.hole (az 7),.hole (az 7),.arr 2,.arr 3],.gone,.arr ab,.arr ab]
def Bp:=bI 0 [(1,au 0 0),(2,au 1 0),(20,.c (.arr 2)),(21,aa ab),(22,aa ab)] [.box [.hole ab,.hole .bool,.hole ab,.hole .str,.hole ab,.arr 2,.arr 3,.arr 4],.box [.hole ab,.hole .bool,.hole ab,.hole .str,.hole ab,.aA,.aA,.aA],.arr (.nm 10),.arr (.nm 10),.arr (.nm 11)] [bH (.exit 0) [(1,au 0 0),(2,au 1 0)] [.box [.hole ab,.hole .bool,.hole ab,.hole .str,.hole ab,.arr 2,.arr 3,.arr 4],.box [.hole ab,.hole .bool,.hole ab,.hole .str,.hole ab,.aA,.aA,.aA],.arr (.nm 10),.arr (.nm 10),.arr (.nm 11)]]
def Bq:=bI 1 [(1,au 0 0),(2,au 1 0),(35,.c (.arr 2)),(36,aa ab),(37,aa ab)] [.box [.hole ab,.hole .bool,.hole ab,.hole .str,.hole ab,.arr 3,.arr 2,.arr 4],.box [.hole ab,.hole .bool,.hole ab,.hole .str,.hole ab,.aA,.aA,.aA],.arr (.nm 10),.arr (.nm 10),.arr (.nm 11)] [bH (.exit 2) [(1,au 0 0),(2,au 1 0)] [.box [.hole ab,.hole .bool,.hole ab,.hole .str,.hole ab,.arr 2,.arr 3,.arr 4],.box [.hole ab,.hole .bool,.hole ab,.hole .str,.hole ab,.aA,.aA,.aA],.arr (.nm 10),.arr (.nm 10),.arr (.nm 11)]]
def vr:=aW 219 [.row 10] (.row 10) [Bp,Bq]
def vt:=aW 220 [au 0 0,aa ab,aa ab,.row 10,aa ab] (.a6 [.row 10,aa .bool]) [] [.box [.hole (az 7),.hole (az 7),.arr 1,.hole bw],.arr ab] [.box [.hole (az 7),.hole (az 7),.arr 2,.hole bw],.gone,.arr ab]
def A4:=bI 0 [(1,aa (az 10)),(2,.c (.fn 64 [])),(15,aa (az 10)),(16,aa ab),(17,aa ab)] [] [eH 6 .bool,fP 0]
def E0:=aW 104 [aa (az 10),aa (az 10),.c (.fn 64 [])] (aa .bool) [A4]
def ym:=aW 64 [.row 10,.row 10] (aa .bool)
def Ty:=aW 221 [.row 9,.row 10] (aa .bool)
def Rp:=bI 0 [(0,aa (.int .u64)),(3,au 0 0),(4,aa ab)] [.arr (.int .u8)] [bH (.exit 0) [(0,aa (.int .u64)),(3,au 0 0),(4,aa ab)] [.arr (.int .u8)]]
def TC:=aW 228 [aa (.int .u64)] (aa .str) [Rp]
def Tg:=aW 192 [aa .str] (aa .str)
def TA:=aW 224 [aa ab,aa .bool,aa .str] (aa .str)
def TQ:=aW 246 [aa ab,aa .bool,aa .str] (.a6 [aa .str,aa ab])
def TR:=aW 247 [aa .str] (aa .str)
def Tc:=aW 186 [.row 12,aa ab] (aa ab)
def S1:=aW 144 [.row 12,aa ab,.row 10] (aa ab)
def QW:=bI 0 [(0,aa (.int .u64)),(3,au 0 0),(4,aa ab)] [.arr (.int .u8)] [bH (.exit 0) [(3,au 0 0),(4,aa ab)] [.arr (.int .u8)]]
def Td:=aW 187 [aa (.int .u64)] (aa .str) [QW]
def Tz:=aW 223 [.row 9,.row 10] (aa .bool)
def Tf:=aW 191 [au 0 0,aa .str] (.a6 [aa ab,.c (.dead)]) [] [.b' 252 ((.cL 1)),.buf 5] [.b' 252 ((.cL 2)),.gone,.buf 5]
def Th:=aW 193 [au 0 0] (aa .str) [] [.b' 252 ((.cL 1)),.buf 5] [.b' 252 ((.cL 1)),.gone]
def Br:=bI 0 [(0,au 0 0),(3,aa ab),(6,au 1 0),(9,.c (.arr 2)),(18,aa (az 9)),(19,aa ab),(20,aa ab)] [.box [.hole (az 7),.hole ab],.bc 10,.arr (.nm 17)] [bH (.exit 0) [(6,au 1 0),(9,.c (.arr 2))] [.box [.hole (az 7),.hole ab],.bc 10,.arr (.nm 17)]] [] [(.slot 9,.nm 17)]
def QX:=bI 1 [(9,.c (.arr 1)),(57,aa (az 11)),(58,aa ab),(59,aa ab)] [.box [.hole (az 7),.hole ab],.arr (.nm 17)] [bH (.exit 2) [(9,.c (.arr 1))] [.box [.hole (az 7),.hole ab],.arr (.nm 17)]]
def QY:=bI 2 [(14,au 1 0),(77,.c (.arr 2)),(78,aa ab),(79,aa ab)] [.box [.hole (az 7),.hole ab],.b' 252 ((.cL 3)),.arr (.nm 17),.buf 5] [bH (.exit 4) [(14,au 1 0)] [.box [.hole (az 7),.hole ab],.b' 252 ((.cL 2)),.buf 5]]
def Ch:=aW 189 [au 0 0,.row 7,.row 10,aa ab] (aa .str) [Br,QX,QY] [.box [.hole (az 7),.hole ab]] [.box [.hole (az 7),.hole ab]]
def Ci:=aW 190 [au 0 0,.row 7,.row 10,aa ab] (aa .str) [] [.box [.hole (az 7),.hole ab]] [.box [.hole (az 7),.hole ab]]
def Bs:=bI 0 [(0,au 0 0),(3,aa ab),(6,au 1 0),(9,au 2 0),(10,au 3 0),(84,aa (az 10)),(85,aa ab),(86,aa ab)] [.box [.hole (az 7),.hole ab],.bc 10,.bc 7,.b' 252 ((.cL 4)),.buf 5] [bH (.exit 1) [(10,au 1 0)] [.box [.hole (az 7),.hole ab],.b' 252 ((.cL 2)),.buf 5]]
def qU:=aW 145 [au 0 0,aa ab,.row 10,aa ab] (aa .str) [Bs] [.box [.hole (az 7),.hole ab]] [.box [.hole (az 7),.hole ab]]
def B9:=aW 108 [.row 12,aa ab,.row 10] (.a6 [aa .str,aa ab])
def Bt:=bI 0 [(3,au 0 0),(5,au 1 0),(8,aa .str),(36,aa (az 9)),(37,aa ab),(38,aa ab)] [bZ (az 7),.bc 10] [bH (.exit 1) [(8,aa .str)]]
def Bv:=bI 1 [(3,au 0 0),(7,au 1 0),(8,aa .str),(101,aa (az 10)),(102,aa ab),(103,aa ab)] [bZ (az 7),.bc 7] [bH (.exit 3) [(8,aa .str)]]
def Bw:=bI 2 [(3,au 0 0),(5,au 1 0),(7,au 2 0),(8,aa .str),(118,aa (az 10)),(119,aa ab),(120,aa ab)] [bZ (az 7),.bc 10,.bc 7] [bH (.exit 5) [(8,aa .str)]]
def qV:=aW 222 [.row 12,aa ab,.row 10] (aa .str) [Bt,Bv,Bw]
def Bx:=bI 0 [(0,au 0 0),(5,au 2 0),(6,au 3 0),(7,au 4 0),(8,au 5 0),(10,au 6 0),(25,aa (az 9)),(26,aa ab),(27,aa ab)] [.box [.hole (az 7),.hole (az 7),.arr 7,.hole bw],.gone,.bc 7,.bc 10,.bc 7,.box [.hole ab,.hole .bool,.hole ab,.hole .str,.hole ab,.aA,.aA,.aA],.box [.hole ab,.hole .bool,.hole ab,.hole .str,.hole ab,.aA,.arr 8,.aA],.arr ab,.arr (.nm 10)] [bH .ret [(8,au 2 0),(9,aa .bool)] [.box [.hole (az 7),.hole (az 7),.arr 3,.hole bw],.gone,.bc 10,.arr ab],bH (.exit 0) [(0,au 0 0),(5,au 2 0),(6,au 3 0),(7,au 4 0),(8,au 5 0),(10,au 6 0)] [.box [.hole (az 7),.hole (az 7),.arr 7,.hole bw],.gone,.bc 7,.bc 10,.bc 7,.box [.hole ab,.hole .bool,.hole ab,.hole .str,.hole ab,.aA,.aA,.aA],.box [.hole ab,.hole .bool,.hole ab,.hole .str,.hole ab,.aA,.arr 8,.aA],.arr ab,.arr (.nm 10)]] [] [(.via 10 6,.nm 10)]
def QZ:=bI 1 [(0,au 0 0),(6,au 2 0),(7,au 3 0),(8,au 4 0),(10,au 5 0),(115,aa (az 9)),(116,aa ab),(117,aa ab)] [.box [.hole (az 7),.hole (az 7),.arr 6,.hole bw],.gone,.bc 10,.bc 7,.box [.hole ab,.hole .bool,.hole ab,.hole .str,.hole ab,.aA,.aA,.aA],.box [.hole ab,.hole .bool,.hole ab,.hole .str,.hole ab,.aA,.arr 7,.arr 8],.arr ab,.arr (.nm 10),.arr (.nm 11)] [bH .ret [(8,au 2 0),(9,aa .bool)] [.box [.hole (az 7),.hole (az 7),.arr 3,.arr 4],.gone,.bc 10,.arr ab,.arr ab],bH (.exit 2) [(8,au 2 0),(10,au 3 0)] [.box [.hole (az 7),.hole (az 7),.arr 4,.hole bw],.gone,.box [.hole ab,.hole .bool,.hole ab,.hole .str,.hole ab,.aA,.aA,.aA],.box [.hole ab,.hole .bool,.hole ab,.hole .str,.hole ab,.aA,.arr 5,.arr 6],.arr ab,.arr (.nm 10),.arr (.nm 11)]] [] [(.via 10 7,.nm 11)]
def Ce:=aW 183 [au 0 0,.row 7,.row 10,.row 7] (.a6 [.row 10,aa .bool]) [Bx,QZ] [.box [.hole (az 7),.hole (az 7),.arr 1,.hole bw],.arr ab] [.box [.hole (az 7),.hole (az 7),.arr 2,.hole bw],.gone,.arr ab]
def Cf:=aW 184 [au 0 0,.row 7,.row 10,.row 7] (.a6 [.row 10,aa .bool]) [] [.box [.hole (az 7),.hole (az 7),.arr 1,.hole bw],.arr ab] [.box [.hole (az 7),.hole (az 7),.arr 2,.hole bw],.gone,.arr ab]
def By:=bI 0 [(0,au 0 0),(1,aa ab),(3,aa ab),(10,.c (.arr 2)),(15,aa (az 10)),(16,aa ab),(17,aa ab)] [.box [.hole (az 7),.hole (az 7),.arr 3,.hole bw],.gone,.arr (.nm 10),.arr ab] [bH .ret [(8,.c (.aA)),(9,aa .bool)] [.box [.hole (az 7),.hole (az 7),.arr 2,.hole bw],.gone,.arr ab],bH (.exit 0) [(10,.c (.arr 2))] [.box [.hole (az 7),.hole (az 7),.arr 3,.hole bw],.gone,.arr (.nm 10),.arr ab]] [] [(.slot 10,.nm 10)]
def Cg:=aW 185 [au 0 0,aa ab,aa (az 10),aa ab] (.a6 [aa (az 10),aa .bool]) [By] [.box [.hole (az 7),.hole (az 7),.arr 1,.hole bw],.arr ab] [.box [.hole (az 7),.hole (az 7),.arr 2,.hole bw],.gone,.arr ab]
def ya:=aW 143 [au 0 0,aa ab,.row 10,aa ab] (.a6 [.row 10,aa .bool]) [] [.box [.hole (az 7),.hole (az 7),.arr 1,.hole bw],.arr ab] [.box [.hole (az 7),.hole (az 7),.arr 2,.hole bw],.gone,.arr ab]
def B8:=aW 107 [.row 12,aa ab,.row 10,.row 12,aa ab] (.a6 [.row 10,aa ab])
def F4:=aW 66 [.row 13,.row 13,aa .str] (.a6 [.row 18,aa ab])
def F1:=aW 42 [.row 13,.row 13,aa .str] (.a6 [.row 18,aa ab])
def sR:=aW 12 [.row 13,.row 13,aa .str] (.a6 [aa .str,aa ab])
def SX:=aW 136 [.row 11,au 0 0] (aa .bool) [] [.bc 9] [.bc 9]
def Q0:=bI 0 [(0,aa (az 11)),(1,.c (.fn 136 [0])),(7,aa ab),(8,aa ab)] [.bc 9] [bH .ret [(4,aa ab)] [.bc 9],bH (.exit 0) [] [.bc 9]]
def S4:=aW 168 [aa (az 11),.c (.fn 136 [0])] (aa ab) [Q0] [.bc 9] [.bc 9]
def SV:=aW 135 [aa (az 11),.c (.fn 136 [0])] (aa .bool) [] [.bc 9] [.bc 9]
def Ul:=aW 99 [aa bw,aa ab] (aa bw)
def yw:=bI 0 [(0,au 0 0),(5,aa bw),(7,au 2 0),(8,au 3 0),(10,au 4 0),(18,aa (az 9)),(19,aa ab),(20,aa ab)] [.box [.hole (az 7),.hole (az 7),.arr 5],.gone,.bc 7,.bc 10,.bc 10,.arr bw] [bH (.exit 0) [] [.box [.hole (az 7),.hole (az 7),.arr 2],.gone,.arr bw]]
def Ct:=aW 97 [au 0 0,.row 7,.row 10,.row 7,.row 10,aa bw] (.a6 []) [yw] [.box [.hole (az 7),.hole (az 7),.arr 1],.arr bw] [.box [.hole (az 7),.hole (az 7),.arr 2],.gone,.arr bw]
def yj:=bI 0 [(0,au 0 0),(5,aa bw),(8,au 2 0),(10,au 3 0),(12,au 4 0),(13,au 5 0),(39,aa ab),(40,aa ab)] [.box [.hole (az 7),.hole (az 7),.arr 6],.gone,.bc 10,.bc 10,.bc 7,.bc 7,.arr bw] [bH (.exit 1) [] [.box [.hole (az 7),.hole (az 7),.arr 2],.gone,.arr bw]]
def pg:=aW 60 [au 0 0,aa ab,.row 10,aa ab,.row 10,aa bw] (.a6 []) [yj] [.box [.hole (az 7),.hole (az 7),.arr 1],.arr bw] [.box [.hole (az 7),.hole (az 7),.arr 2],.gone,.arr bw]
def F0:=aW 24 [.row 13,.row 13,aa .str] (.a6 [aa (.slice bw),aa ab])
def AB:=bI 0 [(3,aa bw),(4,au 1 0),(6,au 2 0),(10,.c (.arr 3)),(39,aa (az 16)),(40,aa ab),(41,aa ab)] [.gone,bZ (az 7),.bc 10,.arr bw] [bH (.exit 0) [(10,.c (.arr 1))] [.gone,.arr bw]] [] [(.slot 10,bw)]
def yt:=aW 93 [.row 12,aa ab,.row 10,.c (.arr 0)] (aa (.slice bw)) [AB] [.arr ab] [.gone]
def QS:=bI 0 [(3,aa bw),(4,au 0 0),(6,au 1 0),(10,.c (.arr 2)),(39,aa (az 16)),(40,aa ab),(41,aa ab)] [bZ (az 7),.bc 10,.arr bw] [bH (.exit 0) [(10,.c (.arr 0))] [.arr bw]] [] [(.slot 10,bw)]
def Ui:=aW 93 [.row 12,aa ab,.row 10,aa bw] (aa (.slice bw)) [QS]
def Co:=aW 58 [.row 12,aa ab,.row 10] (.a6 [aa (.slice bw),aa ab])
def FZ:=aW 22 [.row 13,.row 13,aa .str] (.a6 [aa (.slice bw),aa ab])
def T8:=bI 0 [(0,aa bw),(1,aa bw),(5,aa ab)] [] [eH 4 .bool,fP 0]
def T7:=aW 62 [aa bw,aa bw] (aa .bool) [T8]
def TX:=bI 0 [(0,aa (.slice bw)),(1,aa (.slice bw)),(5,aa ab)] [] [eH 4 .bool,fP 0]
def TW:=aW 26 [aa (.slice bw),aa (.slice bw)] (aa .bool) [TX]
def FT:=aW 11 [] (aa .bool)
def ag7:=aW 154 [.row 7] (.row 7)
def ahk:=aW 195 [.row 9,.row 9] (aa .bool)
def Q1:=bI 0 [(2,au 0 0),(3,au 1 0),(5,aa ab)] [.bc 7,.bc 7] [eH 4 .bool,bH (.exit 0) [(2,au 0 0),(3,au 1 0)] [.bc 7,.bc 7]]
def Q2:=bI 1 [(2,au 0 0),(3,au 1 0),(6,aa ab)] [.bc 7,.bc 7] [eH 4 .bool,fP 2]
def ag6:=aW 153 [.row 7,.row 7] (aa .bool) [Q1,Q2]
def ahl:=aW 196 [aa (.int .u8)] (aa .bool)
def ahm:=aW 197 [aa (.int .u8)] (aa .bool)
def Q3:=bI 0 [(0,aa .str),(3,aa ab)] [] [eH 2 .bool,fP 0]
def ag8:=aW 155 [aa .str] (aa .bool) [Q3]
def ahn:=aW 198 [aa ab,aa ab] (aa .bool)
def ON:=bI 0 [(0,aa (az 8)),(4,aa ab),(5,aa ab)] [] [eH 2 .bool,bH (.exit 2) [(0,aa (az 8)),(4,aa ab)]]
def Q4:=bI 0 [(0,aa (az 8)),(3,aa ab),(4,aa ab)] [] [eH 2 .bool,bH (.exit 0) [(0,aa (az 8))]] [ON]
def ag9:=aW 156 [aa (az 8)] (aa .bool) [Q4]
def OO:=bI 0 [(0,aa (az 9)),(1,aa .bool),(6,aa ab),(7,au 0 0),(8,aa ab)] [.bc 9] [eH 4 .bool,bH (.exit 2) [(0,aa (az 9)),(1,aa .bool),(6,aa ab),(7,au 0 0)] [.bc 9]]
def R8:=bI 0 [(0,aa (az 9)),(1,aa .bool),(5,aa ab),(6,aa ab)] [] [eH 4 .bool,bH (.exit 0) [(0,aa (az 9)),(1,aa .bool)]] [OO]
def ag':=aW 157 [aa (az 9),aa .bool] (aa .bool) [R8]
def agM:=aW 113 [.row 7] (aa .bool)
def R9:=bI 0 [(1,au 0 0),(3,.c (.arr 1)),(4,aa ab)] [.bc 7,.arr ab] [bH (.exit 0) [(1,au 0 0),(3,.c (.arr 1))] [.bc 7,.arr ab]] [] [(.slot 3,ab)]
def agN:=aW 114 [.row 7] (aa bw) [R9]
def QT:=bI 0 [(1,au 0 0),(3,aa ab),(4,au 1 0),(5,aa ab)] [bZ (az 7),.box [.hole ab,.hole .str,.hole ab,.hole ab,.hole ab,.hole (az 8),.hole (az 9),.hole ab,.hole ab,.hole .bool]] [eH 2 ab,bH (.exit 2) [(1,au 0 0),(3,aa ab),(4,au 1 0)] [bZ (az 7),.box [.hole ab,.hole .str,.hole ab,.hole ab,.hole ab,.hole (az 8),.hole (az 9),.hole ab,.hole ab,.hole .bool]]]
def QU:=bI 1 [(1,au 0 0),(3,aa ab),(4,au 1 0),(6,aa bw),(7,aa ab)] [bZ (az 7),.box [.hole ab,.hole .str,.hole ab,.hole ab,.hole ab,.hole (az 8),.hole (az 9),.hole ab,.hole ab,.hole .bool]] [eH 2 ab,bH (.exit 4) [(1,au 0 0),(3,aa ab),(4,au 1 0)] [bZ (az 7),.box [.hole ab,.hole .str,.hole ab,.hole ab,.hole ab,.hole (az 8),.hole (az 9),.hole ab,.hole ab,.hole .bool]]]
def Ud:=bI 0 [(1,au 0 0),(3,aa ab)] [bZ (az 7)] [eH 2 ab,fP 0] [QT,QU]
def ahU:=aW 79 [.row 12] (aa ab) [Ud]
def ahR:=aW 75 [.row 12,aa ab] (aa ab)
def ahJ:=aW 67 [.row 13,.row 13] (aa ab)
def ah0:=aW 87 [aa bw,aa ab] (.row 19)
def Sa:=bI 0 [(0,aa .str),(4,aa (.int .u64)),(5,aa ab)] [] [bH (.exit 0) [(4,aa (.int .u64))]]
def aha:=aW 158 [aa .str] (.a6 [aa (.int .u64),aa ab]) [Sa]
def agP:=aW 116 [aa .str] (.a6 [aa (.int .u64),aa .bool])
def agQ:=aW 117 [aa (.int .u64)] (aa ab)
def agR:=aW 118 [aa bw,aa ab] (aa bw)
def Sb:=bI 0 [(0,aa .str),(5,aa (.int .u64)),(6,aa (.int .u64)),(7,aa ab)] [] [bH .ret [(2,aa (.int .u64)),(3,aa ab),(4,aa ab)],fP 0]
def aho:=aW 199 [aa .str] (.a6 [aa (.int .u64),aa ab,aa ab]) [Sb]
def ahb:=aW 159 [aa .str] (.a6 [aa ab,aa .str,aa ab])
def agS:=aW 123 [.row 10] (.row 19)
def FU:=aW 119 [.row 12,.row 7,aa .str,aa ab,aa bw] (.row 19)
def ahq:=aW 200 [aa .str] (.a6 [aa .str,aa .str,aa .bool])
def If:=bI 0 [(0,aa .str),(4,.c (.arr 0))] [.arr .str] [bH .ret [(2,.c (.aA)),(3,aa ab)],bH (.exit 0) [(4,.c (.arr 0))] [.arr .str]] [] [(.slot 4,.str)]
def ahd:=aW 160 [aa .str] (.a6 [aa jh,aa ab]) [If]
def Bz:=bI 0 [(3,aa ab),(4,aa bw),(5,au 0 0),(6,au 1 0),(10,au 2 0),(11,aa jh),(13,au 3 0),(14,aa ab)] [bZ (az 7),.bc 7,.box [.hole ab,.hole .bool,.hole ab,.hole .str,.hole ab,.aA,.aA,.aA,.aA,.hole ab,.hole .bool],.box [.hole ab,.hole .bool,.hole ab,.hole .str,.hole ab,.aA,.arr 4,.aA],.arr (.nm 10)] [bH .ret [(10,au 0 0)] [.bc 19],bH (.exit 0) [(10,au 0 0),(13,au 1 0)] [.box [.hole ab,.hole .bool,.hole ab,.hole .str,.hole ab,.aA,.aA,.aA,.aA,.hole ab,.hole .bool],.box [.hole ab,.hole .bool,.hole ab,.hole .str,.hole ab,.aA,.arr 2,.aA],.arr (.nm 10)]] [] [(.via 13 6,.nm 10)]
def FV:=aW 120 [.row 12,.row 7,aa .str,aa ab,aa bw] (.row 19) [Bz]
def Ba:=bI 0 [(3,aa ab),(4,aa bw),(5,au 0 0),(6,au 1 0),(10,au 2 0),(11,aa jh),(13,au 3 0),(14,aa ab)] [bZ (az 7),.bc 7,.box [.hole ab,.hole .bool,.hole ab,.hole .str,.hole ab,.aA,.aA,.aA,.aA,.hole ab,.hole .bool],.box [.hole ab,.hole .bool,.hole ab,.hole .str,.hole ab,.arr 4,.aA,.aA],.arr (.nm 10)] [bH .ret [(10,au 0 0)] [.bc 19],bH (.exit 0) [(3,aa ab),(4,aa bw),(5,au 0 0),(6,au 1 0),(10,au 2 0),(11,aa jh),(13,au 3 0)] [bZ (az 7),.bc 7,.box [.hole ab,.hole .bool,.hole ab,.hole .str,.hole ab,.aA,.aA,.aA,.aA,.hole ab,.hole .bool],.box [.hole ab,.hole .bool,.hole ab,.hole .str,.hole ab,.arr 4,.aA,.aA],.arr (.nm 10)]] [] [(.via 13 5,.nm 10)]
def Sc:=bI 1 [(3,aa ab),(4,aa bw),(5,au 0 0),(6,au 1 0),(10,au 2 0),(11,aa jh),(13,au 3 0),(16,aa ab)] [bZ (az 7),.bc 7,.box [.hole ab,.hole .bool,.hole ab,.hole .str,.hole ab,.aA,.aA,.aA,.aA,.hole ab,.hole .bool],.box [.hole ab,.hole .bool,.hole ab,.hole .str,.hole ab,.arr 4,.aA,.aA],.arr (.nm 10)] [bH .ret [(10,au 0 0)] [.bc 19],bH (.exit 2) [(3,aa ab),(4,aa bw),(5,au 0 0),(6,au 1 0),(10,au 2 0),(11,aa jh),(13,au 3 0)] [bZ (az 7),.bc 7,.box [.hole ab,.hole .bool,.hole ab,.hole .str,.hole ab,.aA,.aA,.aA,.aA,.hole ab,.hole .bool],.box [.hole ab,.hole .bool,.hole ab,.hole .str,.hole ab,.arr 4,.aA,.aA],.arr (.nm 10)]]
def Bb:=bI 2 [(3,aa ab),(4,aa bw),(5,au 0 0),(6,au 1 0),(10,au 2 0),(11,aa jh),(13,au 3 0),(17,aa ab)] [bZ (az 7),.bc 7,.box [.hole ab,.hole .bool,.hole ab,.hole .str,.hole ab,.aA,.aA,.aA,.aA,.hole ab,.hole .bool],.box [.hole ab,.hole .bool,.hole ab,.hole .str,.hole ab,.arr 4,.arr 5,.aA],.arr (.nm 10),.arr (.nm 10)] [bH .ret [(10,au 0 0)] [.bc 19],bH (.exit 4) [(10,au 0 0),(13,au 1 0)] [.box [.hole ab,.hole .bool,.hole ab,.hole .str,.hole ab,.aA,.aA,.aA,.aA,.hole ab,.hole .bool],.box [.hole ab,.hole .bool,.hole ab,.hole .str,.hole ab,.arr 2,.arr 3,.aA],.arr (.nm 10),.arr (.nm 10)]] [] [(.via 13 6,.nm 10)]
def FW:=aW 121 [.row 12,.row 7,aa .str,aa ab,aa bw] (.row 19) [Ba,Sc,Bb]
def Sd:=bI 0 [(0,aa .str),(4,.c (.arr 0)),(5,aa ab)] [.arr (.nm 14)] [bH .ret [(2,.c (.aA)),(3,aa ab)],bH (.exit 0) [(4,.c (.arr 0))] [.arr (.nm 14)]] [] [(.slot 4,.nm 14)]
def ahe:=aW 161 [aa .str] (.a6 [aa (az 14),aa ab]) [Sd]
def Se:=bI 0 [(0,aa (az 14)),(1,aa ab),(5,aa ab)] [] [eH 4 ab,fP 0]
def ahf:=aW 162 [aa (az 14),aa ab] (aa ab) [Se]
def Bc:=bI 0 [(3,aa ab),(4,aa bw),(5,au 0 0),(6,au 1 0),(10,au 2 0),(11,aa (az 14)),(13,au 3 0),(14,aa ab)] [bZ (az 7),.bc 7,.box [.hole ab,.hole .bool,.hole ab,.hole .str,.hole ab,.aA,.aA,.aA,.aA,.hole ab,.hole .bool],.box [.hole ab,.hole .bool,.hole ab,.hole .str,.hole ab,.aA,.arr 4,.aA],.arr (.nm 10)] [bH .ret [(10,au 0 0)] [.bc 19],bH (.exit 0) [(4,aa bw),(6,au 0 0),(10,au 1 0),(11,aa (az 14)),(13,au 2 0)] [.bc 7,.box [.hole ab,.hole .bool,.hole ab,.hole .str,.hole ab,.aA,.aA,.aA,.aA,.hole ab,.hole .bool],.box [.hole ab,.hole .bool,.hole ab,.hole .str,.hole ab,.aA,.arr 3,.aA],.arr (.nm 10)]] [] [(.via 13 6,.nm 10)]
def Sf:=bI 1 [(4,aa bw),(6,au 0 0),(10,au 1 0),(11,aa (az 14)),(13,au 2 0),(18,aa ab)] [.bc 7,.box [.hole ab,.hole .bool,.hole ab,.hole .str,.hole ab,.aA,.aA,.aA,.aA,.hole ab,.hole .bool],.box [.hole ab,.hole .bool,.hole ab,.hole .str,.hole ab,.aA,.arr 3,.arr 4],.arr (.nm 10),.arr (.nm 11)] [bH .ret [(10,au 0 0)] [.bc 19],bH (.exit 2) [(10,au 0 0),(13,au 1 0)] [.box [.hole ab,.hole .bool,.hole ab,.hole .str,.hole ab,.aA,.aA,.aA,.aA,.hole ab,.hole .bool],.box [.hole ab,.hole .bool,.hole ab,.hole .str,.hole ab,.aA,.arr 2,.arr 3],.arr (.nm 10),.arr (.nm 11)]] [] [(.via 13 7,.nm 11)]
def FX:=aW 122 [.row 12,.row 7,aa .str,aa ab,aa bw] (.row 19) [Bc,Sf]
def ph:=aW 88 [.row 12,aa ab,aa .str,aa ab,aa bw] (.row 19)
def ahA:=aW 48 [.row 12,aa ab,aa .str] (.a6 [.row 19,aa ab])
def ahh:=aW 17 [.row 12,aa ab,aa .str] (.a6 [.row 10,aa ab])
def agT:=aW 124 [.row 10] (aa .bool)
def agU:=aW 125 [aa ab,aa .bool] (aa .bool)
def Sg:=bI 0 [(1,aa (az 11)),(2,au 0 0),(5,aa ab)] [.bc 7] [eH 4 .bool,fP 0]
def agV:=aW 126 [.row 7,aa (az 11)] (aa .bool) [Sg]
def Bd:=bI 0 [(1,aa ab),(2,aa (az 10)),(3,aa .bool),(4,au 0 0),(9,aa ab)] [bZ (az 7)] [eH 8 .bool,fP 0]
def FY:=aW 127 [.row 12,aa ab,aa (az 10),aa .bool] (aa .bool) [Bd]
def ys:=bI 0 [(3,aa .bool),(4,au 0 0),(6,au 1 0),(9,au 2 0),(12,aa ab)] [bZ (az 7),.bc 10,.box [.hole ab,.hole .str,.hole ab,.hole ab,.hole ab,.hole (az 8),.hole (az 9),.hole ab,.hole ab,.hole .bool]] [eH 8 .bool,fP 1]
def Ug:=bI 1 [(6,au 0 0),(15,aa ab)] [.bc 10] [eH 8 .bool,fP 3]
def vv:=aW 91 [.row 12,aa ab,.row 10,aa .bool] (aa .bool) [ys,Ug]
def ahV:=aW 80 [.row 12,aa ab,.row 10] (aa .bool)
def ahy:=aW 44 [.row 12,aa ab,.row 10] (aa ab)
def ah2:=aW 90 [.row 10] (.agg [.hole ab,.hole .bool,.hole ab,.hole .str,.hole ab,.arr 0,.arr 1,.arr 2]) [] [] [.arr (.nm 10),.arr (.nm 10),.arr (.nm 11)]
def yi:=bI 0 [(1,au 0 0),(2,au 1 0),(3,aa ab)] [.box [.hole ab,.hole .bool,.hole ab,.hole .str,.hole ab,.arr 2,.arr 3,.hole (az 11)],.box [.hole ab,.hole .bool,.hole ab,.hole .str,.hole ab,.aA,.aA,.aA],.arr (.nm 10),.arr (.nm 10)] [bH (.exit 0) [(1,au 0 0),(2,au 1 0)] [.box [.hole ab,.hole .bool,.hole ab,.hole .str,.hole ab,.arr 2,.arr 3,.hole (az 11)],.box [.hole ab,.hole .bool,.hole ab,.hole .str,.hole ab,.aA,.aA,.aA],.arr (.nm 10),.arr (.nm 10)]]
def Cn:=aW 56 [.row 10] (.row 10) [yi]
def ahH:=aW 57 [.row 12,aa ab,.row 10] (aa .bool)
def ahp:=aW 20 [.row 12,aa ab,.row 10] (.a6 [.row 10,aa ab])
def ahz:=aW 46 [.row 12,aa ab,.row 10,.row 12,aa ab] (aa ab)
def ahW:=aW 81 [aa bw] (.row 20)
def ahZ:=aW 86 [.row 10] (.row 20)
def ahY:=aW 85 [aa bw,aa ab] (aa bw)
def F5:=aW 83 [.row 12,.row 7,.row 10,.row 12,.row 7,aa bw] (.row 20)
def ahi:=aW 18 [.row 10,.row 10] (aa .bool)
def agO:=aW 115 [.row 9,.row 10] (aa .bool)
def yq:=bI 0 [(5,aa bw),(6,au 0 0),(7,au 1 0),(8,au 2 0),(9,au 3 0),(10,au 4 0),(12,au 5 0),(13,au 6 0),(14,aa ab)] [bZ (az 7),.bc 7,.bc 10,bZ (az 7),.bc 7,.box [.hole ab,.hole .bool,.hole ab,.hole .str,.hole ab,.aA,.aA,.aA,.aA,.hole .bool],.box [.hole ab,.hole .bool,.hole ab,.hole .str,.hole ab,.aA,.arr 7,.aA],.arr (.nm 10)] [bH .ret [(12,au 0 0)] [.bc 20],bH (.exit 0) [(5,aa bw),(6,au 0 0),(7,au 1 0),(8,au 2 0),(10,au 3 0),(12,au 4 0),(13,au 5 0)] [bZ (az 7),.bc 7,.bc 10,.bc 7,.box [.hole ab,.hole .bool,.hole ab,.hole .str,.hole ab,.aA,.aA,.aA,.aA,.hole .bool],.box [.hole ab,.hole .bool,.hole ab,.hole .str,.hole ab,.aA,.arr 6,.aA],.arr (.nm 10)]] [] [(.via 13 6,.nm 10)]
def Uf:=bI 1 [(5,aa bw),(6,au 0 0),(7,au 1 0),(8,au 2 0),(10,au 3 0),(12,au 4 0),(13,au 5 0),(20,aa ab)] [bZ (az 7),.bc 7,.bc 10,.bc 7,.box [.hole ab,.hole .bool,.hole ab,.hole .str,.hole ab,.aA,.aA,.aA,.aA,.hole .bool],.box [.hole ab,.hole .bool,.hole ab,.hole .str,.hole ab,.aA,.arr 6,.arr 7],.arr (.nm 10),.arr (.nm 11)] [bH .ret [(12,au 0 0)] [.bc 20],bH (.exit 2) [(12,au 0 0),(13,au 1 0)] [.box [.hole ab,.hole .bool,.hole ab,.hole .str,.hole ab,.aA,.aA,.aA,.aA,.hole .bool],.box [.hole ab,.hole .bool,.hole ab,.hole .str,.hole ab,.aA,.arr 2,.arr 3],.arr (.nm 10),.arr (.nm 11)]] [] [(.via 13 7,.nm 11)]
def F6:=aW 84 [.row 12,.row 7,.row 10,.row 12,.row 7,aa bw] (.row 20) [yq,Uf]
def yg:=bI 0 [(5,aa bw),(6,au 0 0),(8,au 1 0),(9,au 2 0),(12,au 3 0),(13,au 4 0),(14,au 5 0),(17,au 6 0),(18,aa ab)] [bZ (az 7),.bc 10,bZ (az 7),.box [.hole ab,.hole .bool,.hole ab,.hole .str,.hole ab,.aA,.aA,.aA,.aA,.hole .bool],.bc 7,.bc 7,.box [.hole ab,.hole .bool,.hole ab,.hole .str,.hole ab,.arr 7,.aA,.hole (az 11)],.arr (.nm 10)] [bH .ret [(12,au 0 0)] [.bc 20],bH (.exit 0) [(5,aa bw),(6,au 0 0),(8,au 1 0),(9,au 2 0),(12,au 3 0),(13,au 4 0),(14,au 5 0),(17,au 6 0)] [bZ (az 7),.bc 10,bZ (az 7),.box [.hole ab,.hole .bool,.hole ab,.hole .str,.hole ab,.aA,.aA,.aA,.aA,.hole .bool],.bc 7,.bc 7,.box [.hole ab,.hole .bool,.hole ab,.hole .str,.hole ab,.arr 7,.aA,.hole (az 11)],.arr (.nm 10)]] [] [(.via 17 5,.nm 10)]
def yh:=bI 1 [(5,aa bw),(6,au 0 0),(8,au 1 0),(9,au 2 0),(12,au 3 0),(13,au 4 0),(14,au 5 0),(17,au 6 0),(20,aa ab)] [bZ (az 7),.bc 10,bZ (az 7),.box [.hole ab,.hole .bool,.hole ab,.hole .str,.hole ab,.aA,.aA,.aA,.aA,.hole .bool],.bc 7,.bc 7,.box [.hole ab,.hole .bool,.hole ab,.hole .str,.hole ab,.arr 7,.arr 8,.hole (az 11)],.arr (.nm 10),.arr (.nm 10)] [bH .ret [(12,au 0 0)] [.bc 20],bH (.exit 2) [(12,au 0 0),(17,au 1 0)] [.box [.hole ab,.hole .bool,.hole ab,.hole .str,.hole ab,.aA,.aA,.aA,.aA,.hole .bool],.box [.hole ab,.hole .bool,.hole ab,.hole .str,.hole ab,.arr 2,.arr 3,.hole (az 11)],.arr (.nm 10),.arr (.nm 10)]] [] [(.via 17 6,.nm 10)]
def sU:=aW 47 [.row 12,aa ab,.row 10,.row 12,aa ab,aa bw] (.row 20) [yg,yh]
def ahc:=aW 16 [.row 12,aa ab,.row 10,.row 12,aa ab] (.a6 [.row 10,aa ab])
def yf:=bI 0 [(3,au 0 0),(5,au 1 0),(7,au 2 0),(8,aa ab),(9,aa ab)] [bZ (az 7),.bc 10,.bc 7] [bH (.exit 0) [(5,au 0 0),(8,aa ab)] [.bc 10]]
def Cl:=aW 45 [.row 12,aa ab,.row 10] (aa ab) [yf]
def ag2:=aW 15 [.row 12,aa ab,.row 10] (.a6 [aa .str,aa ab])
def ahx:=aW 43 [.row 13,.row 13,aa .str] (.a6 [.row 21,aa ab])
def c2:=aW 3 [.row 0] (aa .bool)
def h5:=aW 4 [.row 1] (aa .bool)
def lJ:=aW 5 [.row 0] (aa .bool)
def T9:=aW 7 [.row 0] (aa .bool)
def QV:=bI 0 [(3,au 0 0),(5,au 1 0),(7,.c (.arr 2)),(8,au 3 0),(9,aa ab),(10,aa ab),(14,aa (.slice bw)),(15,aa ab)] [bZ (az 7),.bc 10,.arr bw,.bc 7] [bH (.exit 2) [(3,au 0 0),(5,au 1 0),(7,.c (.arr 2)),(8,au 3 0),(9,aa ab)] [bZ (az 7),.bc 10,.arr bw,.bc 7]]
def yu:=bI 0 [(3,au 0 0),(5,au 1 0),(7,.c (.arr 2)),(8,au 3 0),(9,aa ab)] [bZ (az 7),.bc 10,.arr bw,.bc 7] [bH (.exit 0) [(7,.c (.arr 0))] [.arr bw]] [QV]
def Cr:=aW 94 [.row 12,aa ab,.row 10] (aa (.slice bw)) [yu]
def Uj:=bI 0 [(1,aa ab),(3,aa bw),(4,au 0 0),(6,au 1 0),(8,au 2 0),(11,aa ab)] [bZ (az 7),.bc 10,.box [.hole ab,.hole .bool,.hole ab,.hole .str,.hole ab,.aA,.aA,.aA]] [bH .ret [(8,au 0 0),(9,aa ab),(10,aa ab)] [.box [.hole ab,.hole .bool,.hole ab,.hole .str,.hole ab,.aA,.aA,.aA]],bH (.exit 0) [(1,aa ab),(6,au 0 0),(8,au 1 0)] [.bc 10,.box [.hole ab,.hole .bool,.hole ab,.hole .str,.hole ab,.aA,.aA,.aA]]]
def ah3:=aW 95 [.row 12,aa ab,.row 10,aa bw] (.a6 [.row 10,aa ab,aa ab]) [Uj]
def yv:=bI 0 [(3,au 0 0),(5,au 1 0),(7,au 2 0),(10,aa ab)] [bZ (az 7),.bc 10,.bc 7] [eH 6 .bool,fP 1]
def Cs:=aW 96 [.row 12,aa ab,.row 10] (aa .bool) [yv]
def T6:=bI 0 [(1,aa ab),(3,au 0 0),(5,au 1 0),(9,.c (.arr 2)),(10,aa (.slice bw)),(11,aa ab)] [bZ (az 7),.bc 10,.arr bw] [bH (.exit 0) [(9,.c (.arr 0))] [.arr bw]] [] [(.slot 9,bw)]
def ahI:=aW 59 [.row 12,aa ab,.row 10] (.a6 [aa (.slice bw),aa ab]) [T6]
def ahr:=aW 23 [.row 13,.row 13,aa .str] (.a6 [aa (.slice bw),aa ab])
def agH:=aW 100 [aa bw,aa ab] (aa bw)
def Sh:=bI 0 [(1,aa ab),(2,au 0 0),(5,aa ab)] [.bc 10] [eH 4 .bool,fP 0]
def agI:=aW 101 [.row 10,aa ab] (aa .bool) [Sh]
def yk:=bI 0 [(6,aa bw),(7,au 0 0),(8,au 1 0),(11,au 2 0),(12,au 3 0),(15,au 4 0),(16,au 5 0),(17,.c (.arr 6)),(22,aa ab)] [bZ (az 7),bZ (az 7),.bc 10,.bc 10,.bc 7,.bc 7,.arr bw] [bH (.exit 0) [(17,.c (.arr 0))] [.arr bw]] [] [(.slot 17,bw)]
def yl:=bI 1 [(6,aa bw),(7,au 0 0),(8,au 1 0),(11,au 2 0),(12,au 3 0),(15,au 4 0),(16,au 5 0),(17,.c (.arr 6)),(23,aa ab)] [bZ (az 7),bZ (az 7),.bc 10,.bc 10,.bc 7,.bc 7,.arr bw] [bH (.exit 2) [(17,.c (.arr 0))] [.arr bw]] [] [(.slot 17,bw)]
def vu:=aW 61 [.row 12,.row 12,aa ab,aa ab,.row 10,.row 10,aa bw] (aa (.slice bw)) [yk,yl]
def ahs:=aW 25 [.row 13,.row 13,aa .str] (.a6 [aa (.slice bw),aa ab])
def mU:=aW 6 [.row 0] (aa .bool)
def ah1:=bI 0 [(5,au 0 0),(6,au 1 0),(9,.c (.arr 2)),(39,aa jh),(40,aa ab),(41,aa ab)] [.bc 13,.bc 13,.arr .str] [eH 4 .bool,bH (.exit 0) [(5,au 0 0),(6,au 1 0),(9,.c (.arr 2))] [.bc 13,.bc 13,.arr .str]]
def e8:=aW 8 [.row 0,aa jh] (aa .bool) [ah1]
def ah4:=bI 0 [(5,au 0 0),(7,aa .str),(9,.c (.arr 1)),(10,au 2 0),(59,.agg [.hole (az 6),.hole (az 6)]),(60,aa ab)] [.bc 13,.arr (.nm 13),bZ (az 4)] [eH 4 .bool,bH (.exit 0) [(7,aa .str),(9,.c (.arr 0))] [.arr (.nm 13)]]
def ah5:=bI 1 [(7,aa .str),(9,aa (az 13)),(83,aa ab),(84,aa ab)] [] [eH 4 .bool,fP 2]
def Cq:=aW 9 [.row 0,.row 22] (aa .bool) [ah4,ah5]
def ajr:List eA:=[T0,T1,TL,SO,EX,ye,TN,TM,Tq,TH,TI,Tn,TJ,To,TK,Tp,S5,S6,B',FR]
def ajs:List eA:=[F2,S7,S8,S9,Tm,Tl,S2,pf,TV,TO,Tr,SZ,SY,Uk,Ca,TP,Tt,Cb,Te,TT]
def ajt:List eA:=[TE,TS,TB,TU,TG,TF,Tk,Cc,Tu,Tw,Tv,vq,Cd,x9,SN,Cp,SP,TD,Ti,Tj]
def aju:List eA:=[Ck,EY,EZ,Cj,sS,SQ,Uh,SR,S3,Rm,Rn,SS,SU,x',B7,S',Ta,S0,Tb,Tx]
def ajv:List eA:=[vr,vt,E0,ym,Ty,TC,Tg,TA,TQ,TR,Tc,S1,Td,Tz,Tf,Th,Ch,Ci,qU,B9]
def ajw:List eA:=[qV,Ce,Cf,Cg,ya,B8,F4,F1,sR,SX,S4,SV,Ul,Ct,pg,F0,yt,Ui,Co,FZ]
def ajx:List eA:=[T7,TW,FT]
def sk:List eA:=ajr++ajs++ajt++aju++ajv++ajw++ajx
theorem uf:sk.all (uV prog)=true:=by kernel_rfl
def rz:cI cR:={HJ with F:=G' (α:=cR.D 17) lP}
theorem tB:hh prog rz:=⟨HK.1,λh r a=>HK.2 h r (adu Hb _ r a)⟩
def tQ(n:Int):Option aR:=
 some (⟨2,[121],1,false,true,(⟨2,false,n,[],0,[],[],[]⟩:I)⟩:aR)
theorem W7:aX T0 tQ:= .bd
def tV(l:List aR):Option da:=
 some (⟨(⟨[(⟨5,[82],0,0,0,[],l,0,0,false⟩:ai),(⟨2,[],0,9,0,[],[],0,0,false⟩:ai),(⟨1,[],0,0,0,[],[],0,0,false⟩:ai)]⟩:aO),0⟩:da)
theorem Ws:aX T1 tV:= .bd
def kS:ao×ao×Int->Option ((Bool) ⊕ (Unit))
 |(a,b,i)=>
 if (i<(a.length:Int):Bool) then if ay i a.length then if ay i b.length then if !(a.getD i.toNat 0=b.getD i.toNat 0:Bool) then some (.inl false)else kS (a,b,aK .i64 i 1)else none else none else some (.inr ())
  partial_fixpoint
theorem W8:cG 62 0 [0] T8 kS:= .rx kS.partial_correctness
def pL:ao×ao->Option Bool
 |(a,b)=>
 if !((a.length:Int)=(b.length:Int):Bool) then some false else kS (a,b,0)>>=λo=>match o with
  |.inl c=>
   some c
  |.inr e=>
   some true
theorem M2:aX T7 pL:= .bd .n (.k W8 .n)
def mj:List ao×List ao×Int->Option ((Bool) ⊕ (Unit))
 |(a,b,i)=>
 if (i<(a.length:Int):Bool) then if ay i a.length then if ay i b.length then pL (a.getD i.toNat [],b.getD i.toNat [])>>=λr=>if !r then some (.inl false)else mj (a,b,aK .i64 i 1)else none else none else some (.inr ())
  partial_fixpoint
theorem WV:cG 26 0 [0] TX mj:= .rx mj.partial_correctness (.k M2 .n)
def mm:List ao×List ao->Option Bool
 |(a,b)=>
 if !((a.length:Int)=(b.length:Int):Bool) then some false else mj (a,b,0)>>=λo=>match o with
  |.inl c=>
   some c
  |.inr e=>
   some true
theorem Lc:aX TW mm:= .bd .n (.k WV .n)
noncomputable def rA:aO->Option Int:=mn prog sk [qb,qf,pE,rz,pM,pG] 3000 B'
theorem Ym:aX B' rA:= .run uf (.k n9 (.k od (.k pF (.k tB (.k ru (.k oe .n)))))) (.m (by kernel_rfl)) 3000 λ_=>rfl
noncomputable def vQ:aO×Int×aj->Option (I×Int):=mn prog sk [qb,qf,pE,rz,pM,pG] 3000 Cp
theorem YH:aX Cp vQ:= .run uf (.k n9 (.k od (.k pF (.k tB (.k ru (.k oe .n)))))) (.m (by kernel_rfl)) 3000 λ_=>rfl
noncomputable def Dr:aO×Int×I->Option (I×Int):=mn prog sk [qb,qf,pE,rz,pM,pG] 3000 B7
theorem Zt:aX B7 Dr:= .run uf (.k n9 (.k od (.k pF (.k tB (.k ru (.k oe .n)))))) (.m (by kernel_rfl)) 3000 λ_=>rfl
noncomputable def zc:aO×Int×I×aO×Int->Option (I×Int):=mn prog sk [qb,qf,pE,rz,pM,pG] 3000 B8
theorem X0:aX B8 zc:= .run uf (.k n9 (.k od (.k pF (.k tB (.k ru (.k oe .n)))))) (.m (by kernel_rfl)) 3000 λ_=>rfl
noncomputable def vR:aO×Int×I->Option (aj×Int):=mn prog sk [qb,qf,pE,rz,pM,pG] 3000 B9
theorem YI:aX B9 vR:= .run uf (.k n9 (.k od (.k pF (.k tB (.k ru (.k oe .n)))))) (.m (by kernel_rfl)) 3000 λ_=>rfl
noncomputable def HQ:aO×Int×I->Option (List ao×Int):=mn prog sk [qb,qf,pE,rz,pM,pG] 3000 Co
theorem Zu:aX Co HQ:= .run uf (.k n9 (.k od (.k pF (.k tB (.k ru (.k oe .n)))))) (.m (by kernel_rfl)) 3000 λ_=>rfl
noncomputable def HU:Int×I×Int×I×ao×List ai×List ai×List ao->Option (List ai×List ai×List ao):=mn prog sk [qb,qf,pE,rz,pM,pG] 3000 pg
theorem WW:aX pg HU:= .run uf (.k n9 (.k od (.k pF (.k tB (.k ru (.k oe .n)))))) (.m (by kernel_rfl)) 3000 λ_=>rfl
noncomputable def vS (r:da):Option Int:=
 rA r.cC>>=λa=>if !(a=0:Bool) then some a
 else if(bif (r.av<0:Bool)then true else ((r.cC.Types.length:Int)<=r.av:Bool)) then some 4
  else some 0
theorem YJ:aX FR vS:= .bd (.k Ym .n)
noncomputable def m' (b:List da×Int×Int):Option ((Int) ⊕ (Unit)):=
 match b with
 |(t6,a,t8)=>
 if (t8<a:Bool) then if ay t8 t6.length then vS (t6.getD t8.toNat J8)>>=λr=>if !(r=0:Bool) then some (.inl r)
   else m' (t6,a,aK .i64 t8 1)
  else none
 else some (.inr ())
  partial_fixpoint
theorem Wt:cG 65 0 [0] F3 m':= .rx m'.partial_correctness (.k YJ .n)
noncomputable def vT (l:List da):Option Int:=
 m' (l,(l.length:Int),0)>>=λo=>match o with
 |.inl a=>
  some a
 |.inr b=>
  some 0
theorem YK:aX F2 vT:= .bd .n (.k Wt .n)
noncomputable def th (g:da×da×aj):Option (eU×Int):=
 match g with
 |(w,r,m)=>
 vQ (w.cC,w.av,m)>>=λa=>if !(a.2=0:Bool) then some ((⟨(⟨0,false,0,[],0,[],[],[]⟩:I),(⟨0,false,0,[],0,[],[],[]⟩:I),[]⟩:eU),12)
 else Dr (w.cC,w.av,I.eta a.1)>>=λe=>if !(e.2=0:Bool) then some ((⟨(⟨0,false,0,[],0,[],[],[]⟩:I),(⟨0,false,0,[],0,[],[],[]⟩:I),[]⟩:eU),12)
  else zc (w.cC,w.av,I.eta e.1,r.cC,r.av)>>=λf=>if !(f.2=0:Bool) then some ((⟨(⟨0,false,0,[],0,[],[],[]⟩:I),(⟨0,false,0,[],0,[],[],[]⟩:I),[]⟩:eU),12)
   else vR (w.cC,w.av,I.eta a.1)>>=λc=>if !(c.2=0:Bool) then some ((⟨(⟨0,false,0,[],0,[],[],[]⟩:I),(⟨0,false,0,[],0,[],[],[]⟩:I),[]⟩:eU),3)
    else vQ (r.cC,r.av,c.1)>>=λb=>if !(b.2=0:Bool) then some ((⟨(⟨0,false,0,[],0,[],[],[]⟩:I),(⟨0,false,0,[],0,[],[],[]⟩:I),[]⟩:eU),12)
     else vR (r.cC,r.av,I.eta b.1)>>=λd=>if !(d.2=0:Bool) then some ((⟨(⟨0,false,0,[],0,[],[],[]⟩:I),(⟨0,false,0,[],0,[],[],[]⟩:I),[]⟩:eU),3)
      else some ((⟨I.eta a.1,I.eta b.1,d.1⟩:eU),0)
theorem X1:aX F4 th:= .bd (.k YH (.k Zt (.k X0 (.k YI .n))))
noncomputable def q4 (c:da×da×aj):Option (eU×Int):=
 match c with
 |(w,r,m)=>
 vT [w,r]>>=λb=>if !(b=0:Bool) then some ((⟨(⟨0,false,0,[],0,[],[],[]⟩:I),(⟨0,false,0,[],0,[],[],[]⟩:I),[]⟩:eU),b)
 else th (w,r,m)>>=λa=>some ((⟨I.eta a.1.v,I.eta a.1.u,a.1.message⟩:eU),a.2)
theorem HB:aX F1 q4:= .bd (.k YK (.k X1 .n))
noncomputable def pI (b:da×da×aj):Option (aj×Int):=
 match b with
 |(w,r,m)=>
 q4 (w,r,m)>>=λa=>some (a.1.message,a.2)
theorem X2:aX sR pI:= .bd (.k HB .n)
noncomputable def yX (c:da×da×aj):Option (List ao×Int):=
 match c with
 |(w,r,m)=>
 q4 (w,r,m)>>=λa=>if !(a.2=0:Bool) then some ([],a.2)
 else HU (w.av,I.eta a.1.v,r.av,I.eta a.1.u,[],w.cC.Types,r.cC.Types,[])>>=λb=>some (b.2.2,0)
theorem YL:aX F0 yX:= .bd (.k HB (.k WW .n))
noncomputable def Aa (c:da×da×aj):Option (List ao×Int):=
 match c with
 |(w,r,m)=>
 q4 (w,r,m)>>=λa=>if !(a.2=0:Bool) then some ([],a.2)
 else HQ (r.cC,r.av,I.eta a.1.u)>>=λb=>some (b.1,b.2)
theorem Yn:aX FZ Aa:= .bd (.k HB (.k Zu .n))
noncomputable def C6 (_:Unit):Option Bool:=
 tQ 3>>=λr=>tV [(⟨1,[120],1,false,false,(⟨0,false,0,[],0,[],[],[]⟩:I)⟩:aR),(⟨r.ad,r.Name,r.av,r.b8,r.bu,I.eta r.bm⟩:aR)]>>=λe=>tQ 3>>=λc=>tV [(⟨c.ad,c.Name,c.av,c.b8,c.bu,I.eta c.bm⟩:aR),(⟨4,[122],2,false,true,(⟨1,true,0,[],0,[],[],[]⟩:I)⟩:aR)]>>=λo=>pI (e,o,[2,1,10])>>=λg=>tQ 3>>=λd=>tV [(⟨d.ad,d.Name,d.av,d.b8,d.bu,I.eta d.bm⟩:aR),(⟨4,[122],2,false,true,(⟨1,true,0,[],0,[],[],[]⟩:I)⟩:aR)]>>=λp=>yX (e,p,[2,1,10])>>=λi=>tQ 3>>=λa=>tV [(⟨a.ad,a.Name,a.av,a.b8,a.bu,I.eta a.bm⟩:aR),(⟨4,[122],2,false,true,(⟨1,true,0,[],0,[],[],[]⟩:I)⟩:aR)]>>=λj=>Aa (e,j,[2,1,10])>>=λf=>tQ 4>>=λb=>tV [(⟨b.ad,b.Name,b.av,b.b8,b.bu,I.eta b.bm⟩:aR),(⟨4,[122],2,false,true,(⟨1,true,0,[],0,[],[],[]⟩:I)⟩:aR)]>>=λk=>pI (e,k,[2,1,10])>>=λl=>some (bif bif bif bif decide (g.2=0)then decide (i.2=0)else false then decide (f.2=0)else false then decide (l.2=12)else false then decide (g.1=[2,1,10])else false)>>=λt76=>(if t76 then mm (i.1,[[4]])else some false)>>=λm=>some (bif t76 then m else false)>>=λt82=>(if t82 then mm (f.1,[[]])else some false)>>=λn=>some (bif t82 then n else false)
theorem Wu:aX FT C6:= .bd (.k W7 (.k Ws (.k X2 (.k YL (.k Yn (.k Lc .n))))))
def iz(n:Int):aR:=⟨2,[121],1,false,true,⟨2,false,n,[],0,[],[],[]⟩⟩
def vm:aR:=⟨1,[120],1,false,false,⟨0,false,0,[],0,[],[],[]⟩⟩
def sL:aR:=⟨4,[122],2,false,true,⟨1,true,0,[],0,[],[],[]⟩⟩
def fX(l:List aR):da:=⟨⟨[⟨5,[82],0,0,0,[],l,0,0,false⟩,⟨2,[],0,9,0,[],[],0,0,false⟩,⟨1,[],0,0,0,[],[],0,0,false⟩]⟩,0⟩
def pa:I:=⟨5,false,0,[],0,[],[⟨2,false,5,[],0,[],[],[]⟩,⟨2,false,3,[],0,[],[],[]⟩],[]⟩
def sK:I:=⟨5,false,0,[],0,[],[⟨2,false,3,[],0,[],[],[]⟩,⟨1,true,0,[],0,[],[],[]⟩],[⟨1,[10]⟩]⟩
def gU:da:=fX [vm,iz 3]
def iO:da:=fX [iz 3,sL]
def sJ:da:=fX [iz 4,sL]
theorem aeQ(n:Int):tQ n=some (iz n):=rfl
theorem aeR(l:List aR):tV l=some (fX l):=rfl
theorem agz(n:Int):(⟨(iz n).ad,(iz n).Name,(iz n).av,(iz n).b8,(iz n).bu,(iz n).bm⟩:aR)=iz n:=rfl
theorem agy:(⟨1,[120],1,false,false,(⟨0,false,0,[],0,[],[],[]⟩:I)⟩:aR)=vm:=rfl
theorem agA:(⟨4,[122],2,false,true,(⟨1,true,0,[],0,[],[],[]⟩:I)⟩:aR)=sL:=rfl
theorem SD:rA gU.cC=some 0:=by kernel_rfl
theorem agt:rA iO.cC=some 0:=by kernel_rfl
theorem agu:rA sJ.cC=some 0:=by kernel_rfl
theorem Sy:vQ (gU.cC,gU.av,[2,1,10])=some (pa,0):=by kernel_rfl
theorem agc:vQ (iO.cC,iO.av,[2,1,10])=some (sK,0):=by kernel_rfl
theorem SB:Dr (gU.cC,gU.av,pa)=some (pa,0):=by kernel_rfl
theorem agq:zc (gU.cC,gU.av,pa,iO.cC,iO.av)=some (sK,0):=by kernel_rfl
theorem agr:zc (gU.cC,gU.av,pa,sJ.cC,sJ.av)=some (⟨0,false,0,[],0,[],[],[]⟩,12):=by kernel_rfl
theorem agd:vR (gU.cC,gU.av,pa)=some ([2,1,10],0):=by kernel_rfl
theorem age:vR (iO.cC,iO.av,sK)=some ([2,1,10],0):=by kernel_rfl
theorem agp:HQ (iO.cC,iO.av,sK)=some ([[]],0):=by kernel_rfl
theorem af':HU (gU.av,pa,iO.av,sK,[],gU.cC.Types,iO.cC.Types,[])=some (gU.cC.Types,iO.cC.Types,[[4]]):=by kernel_rfl
theorem SE{l:List aR}(h:rA (fX l).cC=some 0):vS (fX l)=some 0:=by
 rw[vS,h];rfl
theorem SG{l m:List aR}(h1:rA (fX l).cC=some 0)(b:rA (fX m).cC=some 0):vT [fX l,fX m]=some 0:=by
 have a:m' ([fX l,fX m],2,2)=some (.inr ()):=by rw[m'];rfl
 have aM:m' ([fX l,fX m],2,1)=some (.inr ()):=by
  rw[m',ae (by decide),ae (by rfl)];show(vS (fX m)>>=_)=_;rw[SE b];exact a
 have cQ:m' ([fX l,fX m],2,0)=some (.inr ()):=by
  rw[m',ae (by decide),ae (by rfl)];show(vS (fX l)>>=_)=_;rw[SE h1];exact aM
 rw[vT];show(m' ([fX l,fX m],2,0)>>=_)=_;rw[cQ];rfl
def x7(gd:aO×Int×aj->Option (I×Int))(gs:aO×Int×I->Option (I×Int))(vB:aO×Int×I×aO×Int->Option (I×Int))(ge:aO×Int×I->Option (aj×Int))(g:da×da×aj):Option (eU×Int):=
 match g with
 |(w,r,m)=>
 gd (w.cC,w.av,m)>>=λa=>if !(a.2=0:Bool) then some ((⟨(⟨0,false,0,[],0,[],[],[]⟩:I),(⟨0,false,0,[],0,[],[],[]⟩:I),[]⟩:eU),12)else gs (w.cC,w.av,I.eta a.1)>>=λe=>if !(e.2=0:Bool) then some ((⟨(⟨0,false,0,[],0,[],[],[]⟩:I),(⟨0,false,0,[],0,[],[],[]⟩:I),[]⟩:eU),12)else vB (w.cC,w.av,I.eta e.1,r.cC,r.av)>>=λf=>if !(f.2=0:Bool) then some ((⟨(⟨0,false,0,[],0,[],[],[]⟩:I),(⟨0,false,0,[],0,[],[],[]⟩:I),[]⟩:eU),12)else ge (w.cC,w.av,I.eta a.1)>>=λc=>if !(c.2=0:Bool) then some ((⟨(⟨0,false,0,[],0,[],[],[]⟩:I),(⟨0,false,0,[],0,[],[],[]⟩:I),[]⟩:eU),3)else gd (r.cC,r.av,c.1)>>=λb=>if !(b.2=0:Bool) then some ((⟨(⟨0,false,0,[],0,[],[],[]⟩:I),(⟨0,false,0,[],0,[],[],[]⟩:I),[]⟩:eU),12)else ge (r.cC,r.av,I.eta b.1)>>=λd=>if !(d.2=0:Bool) then some ((⟨(⟨0,false,0,[],0,[],[],[]⟩:I),(⟨0,false,0,[],0,[],[],[]⟩:I),[]⟩:eU),3)else some ((⟨I.eta a.1,I.eta b.1,d.1⟩:eU),0)
theorem SL:th=x7 vQ Dr zc vR:=rfl
section
variable {gd:aO×Int×aj->Option (I×Int)}{gs:aO×Int×I->Option (I×Int)}{vB:aO×Int×I×aO×Int->Option (I×Int)}{ge:aO×Int×I->Option (aj×Int)}{A B:da}{m o:aj}{v u w:I}
theorem aeS (h1:gd (A.cC,A.av,m)=some (v,0))(a:gs (A.cC,A.av,v)=some (v,0))(b:vB (A.cC,A.av,v,B.cC,B.av)=some (w,0))(c:ge (A.cC,A.av,v)=some (m,0))
 (bf:gd (B.cC,B.av,m)=some (u,0))(d:ge (B.cC,B.av,u)=some (o,0)):x7 gd gs vB ge (A,B,m)=some (⟨v,u,o⟩,0):=by
 unfold x7;simp[h1,a,b,c,bf,d,I.aP]
theorem aeT(h1:gd (A.cC,A.av,m)=some (v,0))(a:gs (A.cC,A.av,v)=some (v,0))(b:vB (A.cC,A.av,v,B.cC,B.av)=some (w,12)):
 x7 gd gs vB ge (A,B,m)=some (⟨⟨0,false,0,[],0,[],[],[]⟩,⟨0,false,0,[],0,[],[],[]⟩,[]⟩,12):=by
 unfold x7;simp[h1,a,b,I.aP]
theorem UO{e:Int}(h1:go [A,B]=some 0)(c:gc (A,B,m)=some (⟨v,u,o⟩,e)):
 (go [A,B]>>=λb=>if !(b=0:Bool) then some ((⟨(⟨0,false,0,[],0,[],[],[]⟩:I),(⟨0,false,0,[],0,[],[],[]⟩:I),[]⟩:eU),b)
  else gc (A,B,m)>>=λa=>some ((⟨I.eta a.1.v,I.eta a.1.u,a.1.message⟩:eU),a.2))=some (⟨v,u,o⟩,e):=by
 rw[h1];simp[c,I.aP]
end
theorem aga:th (gU,iO,[2,1,10])=some (⟨pa,sK,[2,1,10]⟩,0):=by
 rw[SL];exact aeS Sy SB agq agd agc age
theorem agb:th (gU,sJ,[2,1,10])=some (⟨⟨0,false,0,[],0,[],[],[]⟩,⟨0,false,0,[],0,[],[],[]⟩,[]⟩,12):=by
 rw[SL];exact aeT Sy SB agr
theorem FL:q4 (gU,iO,[2,1,10])=some (⟨pa,sK,[2,1,10]⟩,0):=by
 have h:vT [gU,iO]=some 0:=SG SD agt;rw[q4];exact UO (gc:=th) h aga
theorem agv:q4 (gU,sJ,[2,1,10])=some (⟨⟨0,false,0,[],0,[],[],[]⟩,⟨0,false,0,[],0,[],[],[]⟩,[]⟩,12):=by
 have h:vT [gU,sJ]=some 0:=SG SD agu;rw[q4];exact UO (gc:=th) h agb
theorem agf:pI (gU,iO,[2,1,10])=some ([2,1,10],0):=by rw[pI,FL];rfl
theorem agh:pI (gU,sJ,[2,1,10])=some ([],12):=by rw[pI,agv];rfl
theorem agi:yX (gU,iO,[2,1,10])=some ([[4]],0):=by
 rw[yX,FL];simp[af',I.aP]
theorem agj:Aa (gU,iO,[2,1,10])=some ([[]],0):=by
 rw[Aa,FL];simp[agp,I.aP]
theorem agx:pL ([4],[4])=some true:=by
 have h1:kS ([4],[4],1)=some (.inr ()):=by rw[kS];rfl
 have h0:kS ([4],[4],0)=some (.inr ()):=by
  rw[kS];exact h1
 rw[pL,h0];rfl
theorem agw:pL ([],[])=some true:=by
 have h0:kS ([],[],0)=some (.inr ()):=by rw[kS];rfl
 rw[pL,h0];rfl
theorem SF{p:ao}(a:pL (p,p)=some true):mm ([p],[p])=some true:=by
 have h1:mj ([p],[p],1)=some (.inr ()):=by rw[mj];rfl
 have h0:mj ([p],[p],0)=some (.inr ()):=by
  rw[mj,ae (by rfl),ae (by rfl),ae (by rfl)];show(pL (p,p)>>=_)=_;rw[a];exact h1
 rw[mm,h0];rfl
theorem acr:C6 ()=some true:=by
 have k1:pI (fX [vm,iz 3],fX [iz 3,sL],[2,1,10])=_:=agf;have k2:pI (fX [vm,iz 3],fX [iz 4,sL],[2,1,10])=_:=agh;have k3:yX (fX [vm,iz 3],fX [iz 3,sL],[2,1,10])=_:=agi;have k4:Aa (fX [vm,iz 3],fX [iz 3,sL],[2,1,10])=_:=agj;unfold C6;simp only[aS,ak,aeQ,aeR,I.aP,agz,agy,agA];rw[k1,k3,k4,k2];simp only[ak,dc,ed,bM];rw[SF agx];simp only[ak,ed,bM];rw[SF agw];rfl
def zd(_:Unit):Option Bool:=some true
theorem X3:aX FT zd:=by
 have:C6=zd:=by funext x;exact acr
 rw[<-this];exact Wu
theorem W9:zd ()=some true:=rfl
def rn:ep×Int->Option Int
 |(d,i)=>
 if ay i d.eg.length then some (aK .i64 1 (bY .i64 (b9 (d.eg.getD i.toNat bx).Kind 9)))else none
theorem y3:aX ahK rn:= .bd
def kl(a:Int):Option Bool:=
 some (bif bif decide (a=4)then true else decide (a=5)then true else decide (a=6))
theorem HW:aX ahL kl:= .bd
def pN(a:dq):Option Int:=
 some (di .i64 (bY .i64 (b9 a.A 7)) 3)
theorem H5:aX ahM pN:= .bd
def tq(a:dq):Option Int:=
 pN a>>=λr=>some (aK .i64 r (bY .i64 (b9 a.B 6)))
theorem Lk:aX ahN tq:= .bd (.k H5 .n)
def pH:Int×dq×ao->Option ao
 |(i,b,a)=>
 if (i<6:Bool) then if (0<=i:Bool) then if (b9 (lO .u8 b.A i) 2=1:Bool) then some [aK .i64 i 1]>>=λt18=>if room 8 (a++t18).length then pH (aK .i64 i 1,b,a++t18)else none else pH (aK .i64 i 1,b,a)else none else some a
  partial_fixpoint
theorem Wv:cG 72 0 [0] T' pH:= .rx pH.partial_correctness
def oA(a:dq):Option ao:=
 pH (0,a,[])>>=λo=>if ((o.length:Int)=0:Bool) then some [1]>>=λt24=>if room 8 (o++t24).length then some (o++t24)else none else some o
theorem Lr:aX ahO oA:= .bd .n (.k Wv .n)
def y4(a:Int):Option Bool:=
 some (decide (7<=a))
theorem K9:aX agY y4:= .bd
def n2:Int×Int×List dq->Option ((Int) ⊕ (Unit))
 |(n,k,b)=>
 if (k<n:Bool) then rn ((⟨b⟩:ep),k)>>=λa=>y4 a>>=λc=>if c then some (.inl k)else n2 (n,aK .i64 k 1,b)else some (.inr ())
  partial_fixpoint
theorem VA:cG 109 0 [0] RF n2:= .rx n2.partial_correctness (.k y3 (.k K9 .n))
def y5(c:ep×Int×Int):Option Int:=
 match c with
 |(d,i,code)=>
 some (d.eg.length:Int)>>=λt12=>if !(t12=0:Bool) then some (b9 (bY .i64 code) t12)>>=λt16=>rn (d,t16)>>=λr=>y4 r>>=λb=>if(bif b then true else (t16<i:Bool)) then some t16 else if (0<i:Bool) then if !(i=0:Bool) then some (b9 t16 i)else none else n2 (t12,0,d.eg)>>=λo=>match o with
 |.inl a=>
 some a
 |.inr e=>
 some (-1)else none
theorem Ww:aX agJ y5:= .bd (.k y3 (.k K9 .n)) (.k VA .n)
def zt(a:Int):Option Bool:=
 some (bif decide (1<=a)then decide (a<=4)else false)
theorem Vo:aX agL zt:= .bd
def og:Int×Int×Int×List dq->Option ((Int) ⊕ (Unit))
 |(a,n,k,b)=>
 if (k<n:Bool) then if !(n=0:Bool) then some (b9 (aK .i64 (bY .i64 a) k) n)>>=λt21=>rn ((⟨b⟩:ep),t21)>>=λr=>zt r>>=λc=>if c then some (.inl t21)else og (a,n,aK .i64 k 1,b)else none else some (.inr ())
  partial_fixpoint
theorem XJ:cG 74 0 [0] Ub og:= .rx og.partial_correctness (.k y3 (.k Vo .n))
def tA(b:ep×Int):Option Int:=
 match b with
 |(d,code)=>
 og (code,(d.eg.length:Int),0,d.eg)>>=λo=>match o with
 |.inl a=>
 some a
 |.inr c=>
 some (-1)
theorem Ls:aX ahQ tA:= .bd .n (.k XJ .n)
def zu:ep×Int×Int->Option (I×Bool)
 |(d,t,code)=>
 if ay t d.eg.length then some (d.eg.getD t.toNat bx)>>=λa=>rn (d,t)>>=λr=>some (decide (r=8))>>=λt21=>(if t21 then tA (d,0)else some 0)>>=λc=>if(bif t21 then (c<0:Bool)else false) then some ((⟨7,false,0,[],0,[],[],[]⟩:I),true)else if (r=1:Bool) then some ((⟨r,decide (b9 code 2=1),0,[],0,[],[],[]⟩:I),true)else if (r=2:Bool) then pN a>>=λe=>tq a>>=λf=>pN a>>=λg=>some (aK .i64 (di .i64 f g) 1)>>=λt47=>if !(t47=0:Bool) then some ((⟨r,false,aK .i64 e (b9 (bY .i64 code) t47),[],0,[],[],[]⟩:I),true)else none else if (r=3:Bool) then if(bif (0<b9 a.A 4:Bool)then (b9 code 2=1:Bool)else false) then some ((⟨r,false,0,[97],0,[],[],[]⟩:I),true)else some ((⟨r,false,0,[],0,[],[],[]⟩:I),true)else if (r=4:Bool) then oA a>>=λb=>oA a>>=λi=>some (i.length:Int)>>=λt71=>if !(t71=0:Bool) then some (b9 (bY .i64 code) t71)>>=λt72=>if ay t72 b.length then some ((⟨r,false,0,[],b.getD t72.toNat 0,[],[],[]⟩:I),true)else none else none else some (decide (r=5))>>=λt77=>if t77 then if t77 then some ((⟨0,false,0,[],0,[],[],[]⟩:I),false)else some ((⟨r,false,0,[],0,[],[],[]⟩:I),true)else if (r=6:Bool) then some ((⟨0,false,0,[],0,[],[],[]⟩:I),false)else some ((⟨r,false,0,[],0,[],[],[]⟩:I),true)else none
theorem W':aX agK zu:= .bd (.k y3 (.k Ls (.k H5 (.k Lk (.k Lr .n)))))
def q8:Int×Bool×Int×Int×List dq×dq×List aR->Option (Int×Bool×Int×List dq×dq×List aR)
 |(f,e,a,k,c,d,b)=>
 if (k<(d.cX.length:Int):Bool) then if ay k d.cX.length then some (d.cX.getD k.toNat iR)>>=λg=>y5 ((⟨c⟩:ep),f,g.av)>>=λr=>if(bif (!(aK .i64 1 (bY .i64 (b9 g.ad 12))=a:Bool))then true else (r<0:Bool)) then q8 (f,e,a,aK .i64 k 1,c,d,b)else some (nw (bY .i32 (aK .i64 97 a)))>>=λt55=>if ([109].length+t55.length<=eE:Bool) then some ([109]++t55)>>=λt56=>if(bif e then (b9 g.hg 4=1:Bool)else false) then if(bif e then (2<=b9 g.hg 4:Bool)else false) then zu ((⟨c⟩:ep),r,fB .u8 g.hg 4)>>=λi=>some [(⟨a,t56,r,true,i.2,I.eta i.1⟩:aR)]>>=λt87=>if room 160 (b++t87).length then some (f,e,a,c,d,b++t87)else none else some [(⟨a,t56,r,true,false,(⟨0,false,0,[],0,[],[],[]⟩:I)⟩:aR)]>>=λl=>if room 160 (b++l).length then some (f,e,a,c,d,b++l)else none else if(bif e then (2<=b9 g.hg 4:Bool)else false) then zu ((⟨c⟩:ep),r,fB .u8 g.hg 4)>>=λj=>some [(⟨a,t56,r,false,j.2,I.eta j.1⟩:aR)]>>=λm=>if room 160 (b++m).length then some (f,e,a,c,d,b++m)else none else some [(⟨a,t56,r,false,false,(⟨0,false,0,[],0,[],[],[]⟩:I)⟩:aR)]>>=λn=>if room 160 (b++n).length then some (f,e,a,c,d,b++n)else none else none else none else some (f,e,a,c,d,b)
  partial_fixpoint
theorem VP:cG 73 0 [0,0] QP q8:= .rx q8.partial_correctness (.k Ww (.k W' .n))
def ra:Int×Bool×Int×List dq×dq×List aR->Option (List aR)
 |(e,f,id,c,d,b)=>
 if (id<=12:Bool) then q8 (e,f,id,0,c,d,b)>>=λa=>ra (a.1,a.2.1,aK .i64 a.2.2.1 1,a.2.2.2.1,a.2.2.2.2.1,a.2.2.2.2.2)else some b
  partial_fixpoint
theorem WX:cG 73 0 [0] Ua ra:= .rx ra.partial_correctness .n (.k VP .n)
def ti:ep×Int×Bool->Option (List aR)
 |(d,i,record)=>
 if ay i d.eg.length then ra (i,record,1,d.eg,d.eg.getD i.toNat bx,[])>>=λo=>some o else none
theorem X4:aX ahP ti:= .bd .n (.k WX .n)
def qc:Int×Int×ao×Int×List dq×Int×aj×Int×Int×Int×Int×Int×Bool×List ai×List c1->Option (Int×Int×List dq×Int×aj×Int×Int×Int×Int×Int×Bool×List ai×List c1)
 |(p,o,a,k,c,d,e,f,g,i,j,l,m,n,b)=>
 if (k<(a.length:Int):Bool) then if ay k a.length then if ay k a.length then some (nw (bY .i32 (aK .i64 97 (a.getD k.toNat 0))))>>=λt87=>if ([115].length+t87.length<=eE:Bool) then some [(⟨a.getD k.toNat 0,[115]++t87⟩:c1)]>>=λt90=>if room 24 (b++t90).length then qc (p,o,a,aK .i64 k 1,c,d,e,f,g,i,j,l,m,n,b++t90)else none else none else none else none else some (p,o,c,d,e,f,g,i,j,l,m,n,b)
  partial_fixpoint
theorem Xa:cG 34 0 [0,0] QQ qc:= .rx qc.partial_correctness
def fM:Int×Int×List dq×List ai->Option (List ai)
 |(n,i,b,a)=>
 if (i<n:Bool) then if ay i b.length then some (b.getD i.toNat bx)>>=λc=>rn ((⟨b⟩:ep),i)>>=λr=>kl r>>=λN=>if N then some (nw (bY .i32 (aK .i64 65 i)))>>=λt41=>if (r=2:Bool) then pN c>>=λQ=>tq c>>=λR=>some [(⟨r,t41,Q,R,0,[],[],0,0,false⟩:ai)]>>=λt167=>if room 120 (a++t167).length then fM (n,aK .i64 i 1,b,a++t167)else none else if (r=3:Bool) then some [(⟨r,t41,0,0,bY .i64 (b9 c.A 4),[],[],0,0,false⟩:ai)]>>=λo=>if room 120 (a++o).length then fM (n,aK .i64 i 1,b,a++o)else none else if (r=4:Bool) then oA c>>=λS=>qc (n,i,S,0,b,r,t41,0,0,0,0,0,decide (b9 c.B 2=1),a,[])>>=λd=>some [(⟨d.2.2.2.1,d.2.2.2.2.1,d.2.2.2.2.2.1,d.2.2.2.2.2.2.1,d.2.2.2.2.2.2.2.1,d.2.2.2.2.2.2.2.2.2.2.2.2,[],d.2.2.2.2.2.2.2.2.1,d.2.2.2.2.2.2.2.2.2.1,d.2.2.2.2.2.2.2.2.2.2.1⟩:ai)]>>=λD=>if room 120 (d.2.2.2.2.2.2.2.2.2.2.2.1++D).length then fM (d.1,aK .i64 d.2.1 1,d.2.2.1,d.2.2.2.2.2.2.2.2.2.2.2.1++D)else none else if (r=5:Bool) then ti ((⟨b⟩:ep),i,true)>>=λT=>some [(⟨r,t41,0,0,0,[],T,0,0,false⟩:ai)]>>=λG=>if room 120 (a++G).length then fM (n,aK .i64 i 1,b,a++G)else none else if (r=6:Bool) then ti ((⟨b⟩:ep),i,false)>>=λj=>if ((j.length:Int)=0:Bool) then some [(⟨5,t41,0,0,0,[],[],0,0,false⟩:ai)]>>=λH=>if room 120 (a++H).length then fM (n,aK .i64 i 1,b,a++H)else none else some [(⟨r,t41,0,0,0,[],j,0,0,decide (b9 c.B 2=1)⟩:ai)]>>=λI=>if room 120 (a++I).length then fM (n,aK .i64 i 1,b,a++I)else none else if (r=7:Bool) then if !(n=0:Bool) then some [(⟨r,t41,0,0,bY .i64 (b9 c.A 4),[],[],0,b9 (bY .i64 c.C) n,false⟩:ai)]>>=λJ=>if room 120 (a++J).length then fM (n,aK .i64 i 1,b,a++J)else none else none else if (r=8:Bool) then some (bY .i64 (b9 c.A 4))>>=λt135=>tA ((⟨b⟩:ep),c.B)>>=λk=>if !(n=0:Bool) then some (b9 (bY .i64 c.C) n)>>=λt144=>if (k<0:Bool) then some [(⟨7,[],0,0,t135,[],[],0,t144,false⟩:ai)]>>=λK=>if room 120 (a++K).length then fM (n,aK .i64 i 1,b,a++K)else none else some [(⟨r,t41,0,0,t135,[],[],k,t144,false⟩:ai)]>>=λL=>if room 120 (a++L).length then fM (n,aK .i64 i 1,b,a++L)else none else none else if (r=9:Bool) then if !(n=0:Bool) then some [(⟨r,t41,0,0,0,[],[],0,b9 (bY .i64 c.C) n,false⟩:ai)]>>=λM=>if room 120 (a++M).length then fM (n,aK .i64 i 1,b,a++M)else none else none else some [(⟨r,t41,0,0,0,[],[],0,0,false⟩:ai)]>>=λp=>if room 120 (a++p).length then fM (n,aK .i64 i 1,b,a++p)else none else if (r=2:Bool) then pN c>>=λU=>tq c>>=λV=>some [(⟨r,[],U,V,0,[],[],0,0,false⟩:ai)]>>=λq=>if room 120 (a++q).length then fM (n,aK .i64 i 1,b,a++q)else none else if (r=3:Bool) then some [(⟨r,[],0,0,bY .i64 (b9 c.A 4),[],[],0,0,false⟩:ai)]>>=λs=>if room 120 (a++s).length then fM (n,aK .i64 i 1,b,a++s)else none else if (r=4:Bool) then oA c>>=λO=>qc (n,i,O,0,b,r,[],0,0,0,0,0,decide (b9 c.B 2=1),a,[])>>=λe=>some [(⟨e.2.2.2.1,e.2.2.2.2.1,e.2.2.2.2.2.1,e.2.2.2.2.2.2.1,e.2.2.2.2.2.2.2.1,e.2.2.2.2.2.2.2.2.2.2.2.2,[],e.2.2.2.2.2.2.2.2.1,e.2.2.2.2.2.2.2.2.2.1,e.2.2.2.2.2.2.2.2.2.2.1⟩:ai)]>>=λt=>if room 120 (e.2.2.2.2.2.2.2.2.2.2.2.1++t).length then fM (e.1,aK .i64 e.2.1 1,e.2.2.1,e.2.2.2.2.2.2.2.2.2.2.2.1++t)
 else none else if (r=5:Bool) then ti ((⟨b⟩:ep),i,true)>>=λP=>some [(⟨r,[],0,0,0,[],P,0,0,false⟩:ai)]>>=λu=>if room 120 (a++u).length then fM (n,aK .i64 i 1,b,a++u)else none else if (r=6:Bool) then ti ((⟨b⟩:ep),i,false)>>=λf=>if ((f.length:Int)=0:Bool) then some [(⟨5,[],0,0,0,[],[],0,0,false⟩:ai)]>>=λv=>if room 120 (a++v).length then fM (n,aK .i64 i 1,b,a++v)else none else some [(⟨r,[],0,0,0,[],f,0,0,decide (b9 c.B 2=1)⟩:ai)]>>=λw=>if room 120 (a++w).length then fM (n,aK .i64 i 1,b,a++w)else none else if (r=7:Bool) then if !(n=0:Bool) then some [(⟨r,[],0,0,bY .i64 (b9 c.A 4),[],[],0,b9 (bY .i64 c.C) n,false⟩:ai)]>>=λx=>if room 120 (a++x).length then fM (n,aK .i64 i 1,b,a++x)else none else none else if (r=8:Bool) then some (bY .i64 (b9 c.A 4))>>=λl=>tA ((⟨b⟩:ep),c.B)>>=λg=>if !(n=0:Bool) then some (b9 (bY .i64 c.C) n)>>=λm=>if (g<0:Bool) then some [(⟨7,[],0,0,l,[],[],0,m,false⟩:ai)]>>=λy=>if room 120 (a++y).length then fM (n,aK .i64 i 1,b,a++y)else none else some [(⟨r,[],0,0,l,[],[],g,m,false⟩:ai)]>>=λz=>if room 120 (a++z).length then fM (n,aK .i64 i 1,b,a++z)else none else none else if (r=9:Bool) then if !(n=0:Bool) then some [(⟨r,[],0,0,0,[],[],0,b9 (bY .i64 c.C) n,false⟩:ai)]>>=λE=>if room 120 (a++E).length then fM (n,aK .i64 i 1,b,a++E)else none else none else some [(⟨r,[],0,0,0,[],[],0,0,false⟩:ai)]>>=λF=>if room 120 (a++F).length then fM (n,aK .i64 i 1,b,a++F)else none else none else some a
  partial_fixpoint
theorem X5:cG 34 0 [0] TZ fM:= .rx fM.partial_correctness (.k y3 (.k HW (.k H5 (.k Lk (.k Lr (.k X4 (.k Ls .n))))))) (.k Xa .n)
def q0(d:ep):Option (aO×Bool):=
 some (d.eg.length:Int)>>=λt13=>if(bif (t13<1:Bool)then true else (5<t13:Bool)) then some ((⟨[]⟩:aO),false)else fM (t13,0,d.eg,[])>>=λo=>some ((⟨o⟩:aO),true)
theorem KT:aX ahu q0:= .bd .n (.k X5 .n)
def iY:Int×List ai×ao×Bool->Option (Int×List ai×ao×Bool)
 |(n,b,a,c)=>
 if ((a.length:Int)=0:Bool) then some (0,b,a,c)else if ay 0 a.length then if !(n=0:Bool) then if d' 1 (a.length:Int) a.length then some (b9 (bY .i64 (a.getD (0:Int).toNat 0)) n,b,et a 1 (a.length:Int),c)else none else none else none
theorem s4:aX agZ iY:= .bd
def sZ:aj×Int×List ai×ao×Bool->Option (aj×List ai×ao×Bool)
 |(b,n,c,d,e)=>
 if (0<n:Bool) then iY (3,c,d,e)>>=λa=>some (nw (bY .i32 (aK .i64 97 a.1)))>>=λt21=>if (b.length+t21.length<=eE:Bool) then sZ (b++t21,di .i64 n 1,a.2.1,a.2.2.1,a.2.2.2)else none else some (b,c,d,e)
  partial_fixpoint
theorem Wg:cG 148 1 [0] RG sZ:= .rx sZ.partial_correctness (.k s4 .n)
def Db:Int×List ai×ao×Bool->Option (aj×List ai×ao×Bool)
 |(most,b,a,c)=>
 iY (aK .i64 (ja most 3) 1,b,a,c)>>=λr=>sZ ([],r.1,r.2.1,r.2.2.1,r.2.2.2)>>=λo=>some (o.1,o.2.1,o.2.2.1,o.2.2.2)
theorem VQ:aX ag0 Db:= .bd (.k s4 .n) (.k Wg .n)
def vM:List ai×ao×Bool->Option (Bool×List ai×ao×Bool)
 |(b,c,a)=>
 if a then iY (4,b,c,a)>>=λr=>some (bif a then decide (r.1=3)else false,r.2.1,r.2.2.1,r.2.2.2)else some (bif a then false else false,b,c,a)
theorem VB:aX ag1 vM:= .bd (.k s4 .n)
def p3:Int×Int×ai->Option ((Int×Bool) ⊕ (Unit))
 |(a,i,b)=>
 if (i<(b.af.length:Int):Bool) then if ay i b.af.length then if ((b.af.getD i.toNat aw).ad=a:Bool) then some (.inl (i,true))else p3 (a,aK .i64 i 1,b)else none else some (.inr ())
  partial_fixpoint
theorem VC:cG 53 0 [0] T5 p3:= .rx p3.partial_correctness
def fw(b:ai×Int):Option (Int×Bool):=
 match b with
 |(t,id)=>
 p3 (id,0,t)>>=λo=>match o with
 |.inl a=>
 some (a.1,a.2)
 |.inr c=>
 some (0,false)
theorem kh:aX ahE fw:= .bd .n (.k VC .n)
def n3:Int×Int×ai->Option ((Int×Bool) ⊕ (Unit))
 |(a,i,b)=>
 if (i<(b.bj.length:Int):Bool) then if ay i b.bj.length then if ((b.bj.getD i.toNat dI).ad=a:Bool) then some (.inl (i,true))else n3 (a,aK .i64 i 1,b)else none else some (.inr ())
  partial_fixpoint
theorem VD:cG 82 0 [0] Ue n3:= .rx n3.partial_correctness
def oh(b:ai×Int):Option (Int×Bool):=
 match b with
 |(t,id)=>
 n3 (id,0,t)>>=λo=>match o with
 |.inl a=>
 some (a.1,a.2)
 |.inr c=>
 some (0,false)
theorem zr:aX ahX oh:= .bd .n (.k VD .n)
def DS:ai×Int->Option Bool
 |(t,n)=>
 fw (t,n)>>=λr=>oh (t,n)>>=λa=>some (bif r.2 then true else a.2)
theorem Xd:aX ahj DS:= .bd (.k kh (.k zr .n))
def vK:Int×List ai×ao×Bool×ai->Option (Int×List ai×ao×Bool)
 |(a,b,c,d,e)=>
 DS (e,a)>>=λf=>if f then vK (aK .i64 a 1,b,c,d,e)else some (a,b,c,d)
  partial_fixpoint
theorem Wf:cG 150 1 [0] RH vK:= .rx vK.partial_correctness (.k Xd .n)
def rE:ai×List ai×ao×Bool->Option (Int×List ai×ao×Bool)
 |(t,b,a,c)=>
 iY (14,b,a,c)>>=λr=>vK (aK .i64 1 r.1,r.2.1,r.2.2.1,r.2.2.2,t)>>=λo=>some (o.1,o.2.1,o.2.2.1,o.2.2.2)
theorem Wh:aX ag3 rE:= .bd (.k s4 .n) (.k Wf .n)
def vN:Int×List ai×ao×Bool->Option (bQ×List ai×ao×Bool)
 |(n,b,a,c)=>
 some [[],[1],[97],[3,1,2]]>>=λt6=>iY (4,b,a,c)>>=λr=>if ay r.1 t6.length then some ((⟨n,t6.getD r.1.toNat []⟩:bQ),r.2.1,r.2.2.1,r.2.2.2)else none
theorem VE:aX ag4 vN:= .bd (.k s4 .n)
def kJ:Bool×Bool->Option Int
 |(b,a)=>
 if a then some 0 else if b then some (-1)else some 1
theorem Xk:aX ahg kJ:= .bd
def wu(n:Int):Option Int:=
 if (0<=n:Bool) then some (gB .u64 2 (bY .u64 n))else some (aK .u64 (gB .u64 2 (bY .u64 (di .i64 0 (aK .i64 n 1)))) 1)
theorem K':aX ahC wu:= .bd
def n':I×I->Option Int
 |(a,b)=>
 if !(a.Kind=b.Kind:Bool) then some 0 else if (a.Kind=1:Bool) then kJ (b.bS,fy a.bS b.bS)>>=λr=>some r else if (a.Kind=2:Bool) then wu a.bg>>=λc=>wu b.bg>>=λd=>kJ (decide (c<d),decide (a.bg=b.bg))>>=λe=>some e else if (a.Kind=3:Bool) then if !((a.bt.length:Int)=(b.bt.length:Int):Bool) then kJ (decide ((a.bt.length:Int)<(b.bt.length:Int)),false)>>=λf=>some f else kJ (Op.bytesLess a.bt b.bt,decide (a.bt=b.bt))>>=λg=>some g else if (a.Kind=4:Bool) then kJ (decide (a.ad<b.ad),decide (a.ad=b.ad))>>=λi=>some i else some 0
theorem Dd:aX agW n':= .bd (.k Xk (.k K' .n))
def rh:Int×I×I×I×Int×Bool×Int×aj×Int->Option (Int×I×I×I×Int×Bool×Int×aj×Int)
 |(b,a,c,d,e,f,g,i,j)=>
 some (decide (b<(a.aB.length:Int)))>>=λt12=>if(ay b a.aB.length||(!t12)) then (if t12 then n' (I.eta (a.aB.getD b.toNat ar),I.eta c)else some 0)>>=λk=>if(bif t12 then (k<0:Bool)else false) then rh (aK .i64 b 1,I.eta a,I.eta c,I.eta d,e,f,g,i,j)else some (b,I.eta a,I.eta c,I.eta d,e,f,g,i,j)else none
  partial_fixpoint
theorem XK:cG 152 0 [0] RI rh:= .rx rh.partial_correctness (.k Dd .n)
def DW:I×I×I->Option I
 |(v,key,item)=>
 rh (0,I.eta v,I.eta key,I.eta item,0,false,0,[],0)>>=λo=>some (decide (o.1<(o.2.1.aB.length:Int)))>>=λt29=>if(ay o.1 o.2.1.aB.length||(!t29)) then (if t29 then n' (I.eta (o.2.1.aB.getD o.1.toNat ar),I.eta o.2.2.1)else some 0)>>=λr=>if(bif t29 then (r=0:Bool)else false) then some (I.eta o.2.1)else if d' 0 o.1 o.2.1.aB.length then some (et o.2.1.aB 0 o.1)>>=λt45=>if room 120 ([]++t45).length then some ([]++t45)>>=λl=>some [I.eta o.2.2.1]>>=λt48=>if room 120 (l++t48).length then some (l++t48)>>=λa=>if d' o.1 (o.2.1.aB.length:Int) o.2.1.aB.length then some (et o.2.1.aB o.1 (o.2.1.aB.length:Int))>>=λt53=>if room 120 (a++t53).length then if d' 0 o.1 o.2.1.ag.length then some (et o.2.1.ag 0 o.1)>>=λt60=>if room 120 ([]++t60).length then some ([]++t60)>>=λb=>some [I.eta o.2.2.2.1]>>=λt63=>if room 120 (b++t63).length then some (b++t63)>>=λc=>if d' o.1 (o.2.1.ag.length:Int) o.2.1.ag.length then some (et o.2.1.ag o.1 (o.2.1.ag.length:Int))>>=λt68=>if room 120 (c++t68).length then some (⟨o.2.1.Kind,o.2.1.bS,o.2.1.bg,o.2.1.bt,o.2.1.ad,a++t53,c++t68,o.2.1.Rest⟩:I)else none else none else none else none else none else none else none else none else none else none else none
theorem YM:aX ag5 DW:= .bd (.k Dd .n) (.k XK .n)
mutual
def jM:Int×List ai×ao×Bool->Option (I×List ai×ao×Bool)
 |(t,b,e,f)=>
 if ay t b.length then some (b.getD t.toNat aG)>>=λa=>if (a.Kind=1:Bool) then iY (2,b,e,f)>>=λr=>some ((⟨a.Kind,decide (r.1=1),0,[],0,[],[],[]⟩:I),r.2.1,r.2.2.1,r.2.2.2)else if (a.Kind=2:Bool) then iY (256,b,e,f)>>=λbs=>some (aK .i64 (di .i64 a.bN a.bJ) 1)>>=λt51=>if !(t51=0:Bool) then some ((⟨a.Kind,false,aK .i64 a.bJ (b9 bs.1 t51),[],0,[],[],[]⟩:I),bs.2.1,bs.2.2.1,bs.2.2.2)else none else if (a.Kind=3:Bool) then Db (a.Max,b,e,f)>>=λa0=>some ((⟨a.Kind,false,0,a0.1,0,[],[],[]⟩:I),a0.2.1,a0.2.2.1,a0.2.2.2)else if (a.Kind=4:Bool) then iY ((a.bj.length:Int),b,e,f)>>=λp=>if ay p.1 a.bj.length then some (a.bj.getD p.1.toNat dI)>>=λht=>if a.Open then vM (p.2.1,p.2.2.1,p.2.2.2)>>=λA=>if(bif a.Open then A.1 else false) then rE (a,A.2.1,A.2.2.1,A.2.2.2)>>=λbe=>some ((⟨a.Kind,false,0,[],be.1,[],[],[]⟩:I),be.2.1,be.2.2.1,be.2.2.2)else some ((⟨a.Kind,false,0,[],ht.ad,[],[],[]⟩:I),A.2.1,A.2.2.1,A.2.2.2)else if(bif a.Open then false else false) then rE (a,p.2.1,p.2.2.1,p.2.2.2)>>=λbf=>some ((⟨a.Kind,false,0,[],bf.1,[],[],[]⟩:I),bf.2.1,bf.2.2.1,bf.2.2.2)else some ((⟨a.Kind,false,0,[],ht.ad,[],[],[]⟩:I),p.2.1,p.2.2.1,p.2.2.2)else none else if (a.Kind=5:Bool) then mV (0,b,e,f,0,false,0,[],0,a.Kind,a.Name,a.bJ,a.bN,a.Max,a.bj,a.af,a.Key,a.aD,a.Open,a.Kind,false,0,[],0,[])>>=λo=>vM (o.1,o.2.1,o.2.2.1)>>=λB=>if B.1 then rE ((⟨o.2.2.2.2.2.2.2.2.1,o.2.2.2.2.2.2.2.2.2.1,o.2.2.2.2.2.2.2.2.2.2.1,o.2.2.2.2.2.2.2.2.2.2.2.1,o.2.2.2.2.2.2.2.2.2.2.2.2.1,o.2.2.2.2.2.2.2.2.2.2.2.2.2.1,o.2.2.2.2.2.2.2.2.2.2.2.2.2.2.1,o.2.2.2.2.2.2.2.2.2.2.2.2.2.2.2.1,o.2.2.2.2.2.2.2.2.2.2.2.2.2.2.2.2.1,o.2.2.2.2.2.2.2.2.2.2.2.2.2.2.2.2.2.1⟩:ai),B.2.1,B.2.2.1,B.2.2.2)>>=λbi=>vN (bi.1,bi.2.1,bi.2.2.1,bi.2.2.2)>>=λbr=>some ((⟨o.2.2.2.2.2.2.2.2.2.2.2.2.2.2.2.2.2.2.1,o.2.2.2.2.2.2.2.2.2.2.2.2.2.2.2.2.2.2.2.1,o.2.2.2.2.2.2.2.2.2.2.2.2.2.2.2.2.2.2.2.2.1,o.2.2.2.2.2.2.2.2.2.2.2.2.2.2.2.2.2.2.2.2.2.1,o.2.2.2.2.2.2.2.2.2.2.2.2.2.2.2.2.2.2.2.2.2.2.1,[],o.2.2.2.2.2.2.2.2.2.2.2.2.2.2.2.2.2.2.2.2.2.2.2,[br.1]⟩:I),br.2.1,br.2.2.1,br.2.2.2)else some ((⟨o.2.2.2.2.2.2.2.2.2.2.2.2.2.2.2.2.2.2.1,o.2.2.2.2.2.2.2.2.2.2.2.2.2.2.2.2.2.2.2.1,o.2.2.2.2.2.2.2.2.2.2.2.2.2.2.2.2.2.2.2.2.1,o.2.2.2.2.2.2.2.2.2.2.2.2.2.2.2.2.2.2.2.2.2.1,o.2.2.2.2.2.2.2.2.2.2.2.2.2.2.2.2.2.2.2.2.2.2.1,[],o.2.2.2.2.2.2.2.2.2.2.2.2.2.2.2.2.2.2.2.2.2.2.2,[]⟩:I),B.2.1,B.2.2.1,B.2.2.2)else if (a.Kind=6:Bool) then if a.Open then vM (b,e,f)>>=λD=>if(bif a.Open then D.1 else false) then rE (a,D.2.1,D.2.2.1,D.2.2.2)>>=λam=>vN (am.1,am.2.1,am.2.2.1,am.2.2.2)>>=λbv=>some ((⟨a.Kind,false,0,[],am.1,[],[],[bv.1]⟩:I),bv.2.1,bv.2.2.1,bv.2.2.2)else iY ((a.af.length:Int),D.2.1,D.2.2.1,D.2.2.2)>>=λan=>if ay an.1 a.af.length then some (a.af.getD an.1.toNat aw)>>=λhu=>jM (hu.av,an.2.1,an.2.2.1,an.2.2.2)>>=λbD=>some ((⟨a.Kind,false,0,[],hu.ad,[],[I.eta bD.1],[]⟩:I),bD.2.1,bD.2.2.1,bD.2.2.2)else none else if(bif a.Open then false else false) then rE (a,b,e,f)>>=λap=>vN (ap.1,ap.2.1,ap.2.2.1,ap.2.2.2)>>=λbT=>some ((⟨a.Kind,false,0,[],ap.1,[],[],[bT.1]⟩:I),bT.2.1,bT.2.2.1,bT.2.2.2)
 else iY ((a.af.length:Int),b,e,f)>>=λax=>if ay ax.1 a.af.length then some (a.af.getD ax.1.toNat aw)>>=λhw=>jM (hw.av,ax.2.1,ax.2.2.1,ax.2.2.2)>>=λb0=>some ((⟨a.Kind,false,0,[],hw.ad,[],[I.eta b0.1],[]⟩:I),b0.2.1,b0.2.2.1,b0.2.2.2)else none else if (a.Kind=7:Bool) then iY (aK .i64 (ja a.Max 3) 1,b,e,f)>>=λb1=>rC (b1.1,b1.2.1,b1.2.2.1,b1.2.2.2,0,false,0,[],0,a.Kind,a.Name,a.bJ,a.bN,a.Max,a.bj,a.af,a.Key,a.aD,a.Open,a.Kind,false,0,[],0,[])>>=λv=>some ((⟨v.2.2.2.2.2.2.2.2.1,v.2.2.2.2.2.2.2.2.2.1,v.2.2.2.2.2.2.2.2.2.2.1,v.2.2.2.2.2.2.2.2.2.2.2.1,v.2.2.2.2.2.2.2.2.2.2.2.2.1,[],v.2.2.2.2.2.2.2.2.2.2.2.2.2,[]⟩:I),v.1,v.2.1,v.2.2.1)else if (a.Kind=8:Bool) then iY (aK .i64 (ja a.Max 3) 1,b,e,f)>>=λa1=>rD (a1.1,a1.2.1,a1.2.2.1,a1.2.2.2,0,false,0,[],0,a.Kind,a.Name,a.bJ,a.bN,a.Max,a.bj,a.af,a.Key,a.aD,a.Open,a.Kind,false,0,[],0,[],[],[])>>=λj=>some ((⟨j.2.2.2.2.2.2.2.2.1,j.2.2.2.2.2.2.2.2.2.1,j.2.2.2.2.2.2.2.2.2.2.1,j.2.2.2.2.2.2.2.2.2.2.2.1,j.2.2.2.2.2.2.2.2.2.2.2.2.1,j.2.2.2.2.2.2.2.2.2.2.2.2.2.1,j.2.2.2.2.2.2.2.2.2.2.2.2.2.2.1,j.2.2.2.2.2.2.2.2.2.2.2.2.2.2.2⟩:I),j.1,j.2.1,j.2.2.1)else iY (2,b,e,f)>>=λx=>if (x.1=1:Bool) then jM (a.aD,x.2.1,x.2.2.1,x.2.2.2)>>=λa2=>some ((⟨a.Kind,false,0,[],0,[],[I.eta a2.1],[]⟩:I),a2.2.1,a2.2.2.1,a2.2.2.2)else some ((⟨a.Kind,false,0,[],0,[],[],[]⟩:I),x.2.1,x.2.2.1,x.2.2.2)else none
  partial_fixpoint
def mV:Int×List ai×ao×Bool×Int×Bool×Int×aj×Int×Int×aj×Int×Int×Int×List c1×List aR×Int×Int×Bool×Int×Bool×Int×aj×Int×List I->Option (List ai×ao×Bool×Int×Bool×Int×aj×Int×Int×aj×Int×Int×Int×List c1×List aR×Int×Int×Bool×Int×Bool×Int×aj×Int×List I)
 |(i,aC,aE,aL,F,G,H,J,K,L,M,N,O,P,Q,c,R,S,U,W,X,Y,Z,ah,q)=>
 if (i<(c.length:Int):Bool) then if ay i c.length then some (c.getD i.toNat aw)>>=λb3=>if b3.bu then iY (3,aC,aE,aL)>>=λy=>if(bif b3.bu then (y.1=0:Bool)else false) then if ay i c.length then some [I.eta (c.getD i.toNat aw).bm]>>=λt113=>if room 120 (q++t113).length then mV (aK .i64 i 1,y.2.1,y.2.2.1,y.2.2.2,F,G,H,J,K,L,M,N,O,P,Q,c,R,S,U,W,X,Y,Z,ah,q++t113)else none else none else if ay i c.length then jM ((c.getD i.toNat aw).av,y.2.1,y.2.2.1,y.2.2.2)>>=λa3=>some [I.eta a3.1]>>=λt126=>if room 120 (q++t126).length then mV (aK .i64 i 1,a3.2.1,a3.2.2.1,a3.2.2.2,F,G,H,J,K,L,M,N,O,P,Q,c,R,S,U,W,X,Y,Z,ah,q++t126)else none else none else if(bif b3.bu then false else false) then if ay i c.length then some [I.eta (c.getD i.toNat aw).bm]>>=λhm=>if room 120 (q++hm).length then mV (aK .i64 i 1,aC,aE,aL,F,G,H,J,K,L,M,N,O,P,Q,c,R,S,U,W,X,Y,Z,ah,q++hm)else none else none else if ay i c.length then jM ((c.getD i.toNat aw).av,aC,aE,aL)>>=λa4=>some [I.eta a4.1]>>=λhs=>if room 120 (q++hs).length then mV (aK .i64 i 1,a4.2.1,a4.2.2.1,a4.2.2.2,F,G,H,J,K,L,M,N,O,P,Q,c,R,S,U,W,X,Y,Z,ah,q++hs)else none else none else none else some (aC,aE,aL,F,G,H,J,K,L,M,N,O,P,Q,c,R,S,U,W,X,Y,Z,ah,q)
  partial_fixpoint
def rC:Int×List ai×ao×Bool×Int×Bool×Int×aj×Int×Int×aj×Int×Int×Int×List c1×List aR×Int×Int×Bool×Int×Bool×Int×aj×Int×List I->Option (List ai×ao×Bool×Int×Bool×Int×aj×Int×Int×Bool×Int×aj×Int×List I)
 |(n,g1,g2,g3,g4,g5,g6,g7,g8,i2,i3,i4,i5,i6,i7,i8,i9,g9,jp,he,b4,b7,ce,ci,b2)=>
 if (0<n:Bool) then jM (g9,g1,g2,g3)>>=λa5=>some [I.eta a5.1]>>=λt193=>if room 120 (b2++t193).length then rC (di .i64 n 1,a5.2.1,a5.2.2.1,a5.2.2.2,g4,g5,g6,g7,g8,i2,i3,i4,i5,i6,i7,i8,i9,g9,jp,he,b4,b7,ce,ci,b2++t193)else none else some (g1,g2,g3,g4,g5,g6,g7,g8,he,b4,b7,ce,ci,b2)
  partial_fixpoint
def rD:Int×List ai×ao×Bool×Int×Bool×Int×aj×Int×Int×aj×Int×Int×Int×List c1×List aR×Int×Int×Bool×Int×Bool×Int×aj×Int×List I×List I×List bQ->Option (List ai×ao×Bool×Int×Bool×Int×aj×Int×Int×Bool×Int×aj×Int×List I×List I×List bQ)
 |(hk,cq,cs,cS,dt,eq,es,ex,fd,hH,h0,h1,ii,io,ip,i0,ff,fo,i1,fs,gc,gd,ge,gl,gs,gt,g0)=>
 if (0<hk:Bool) then jM (ff,cq,cs,cS)>>=λa9=>jM (fo,a9.2.1,a9.2.2.1,a9.2.2.2)>>=λbb=>DW ((⟨fs,gc,gd,ge,gl,gs,gt,g0⟩:I),I.eta a9.1,I.eta bb.1)>>=λw=>rD (di .i64 hk 1,bb.2.1,bb.2.2.1,bb.2.2.2,dt,eq,es,ex,fd,hH,h0,h1,ii,io,ip,i0,ff,fo,i1,w.Kind,w.bS,w.bg,w.bt,w.ad,w.aB,w.ag,w.Rest)else some (cq,cs,cS,dt,eq,es,ex,fd,fs,gc,gd,ge,gl,gs,gt,g0)
  partial_fixpoint
end
theorem Wi:dD sQ jM/\dN 112 1 [2] Aq rD/\dN 112 1 [1] Ap rC/\dN 112 1 [0] AU mV:=jM.mutual_partial_correctness (dB sQ) (dM 112 1 [2] Aq) (dM 112 1 [1] Ap) (dM 112 1 [0] AU)
 (λ_ _ _ _ h0 h1 a b _ _ h=>dH h (.k s4 (.k VQ (.k VB (.k Wh (.k VE (.k (b5 sQ h0) .n)))))) (.k (dX AU b) (.k (dX Ap a) (.k (dX Aq h1) .n))))
 (λ_ _ h0 h1 _ _ h=>dW Aq h1 h (.k (b5 sQ h0) (.k YM .n)))
 (λ_ _ h0 a _ _ h=>dW Ap a h (.k (b5 sQ h0) .n))
 (λ_ _ h0 b _ _ h=>dW AU b h (.k s4 (.k (b5 sQ h0) .n)))
theorem Vl:aX sQ jM:=b5 _ Wi.1
def zi:aO×Int×ao->Option I
 |(s,t,a)=>
 some (ja 60 (a.length:Int))>>=λt12=>if d' 0 t12 a.length then jM (t,s.Types,et a 0 t12,false)>>=λr=>some (I.eta r.1)else none
theorem Xe:aX ahS zi:= .bd (.k Vl .n)
def yY:aO×Int×ao->Option I
 |(s,t,a)=>
 some (ja 60 (a.length:Int))>>=λt12=>if d' 0 t12 a.length then jM (t,s.Types,et a 0 t12,true)>>=λr=>some (I.eta r.1)else none
theorem Wx:aX ahT yY:= .bd (.k Vl .n)
def pP(d:lq):Option (aO×Int×I×I×Bool):=
 q0 d.S>>=λr=>if !r.2 then some (r.1,0,(⟨0,false,0,[],0,[],[],[]⟩:I),(⟨0,false,0,[],0,[],[],[]⟩:I),false)else some (r.1.Types.length:Int)>>=λt26=>if !(t26=0:Bool) then some (b9 (bY .i64 d.T) t26)>>=λt27=>zi (r.1,t27,d.C)>>=λa=>yY (r.1,t27,d.C)>>=λb=>some (r.1,t27,I.eta a,I.eta b,true)else none
theorem KU:aX ahv pP:= .bd (.k KT (.k Xe (.k Wx .n)))
def hB:List kX×Int×List dq->Option (List dq)
 |(d,i,a)=>
 if(bif (i<(d.length:Int):Bool)then (0<(a.length:Int):Bool)else false) then if ay i d.length then some (d.getD i.toNat oc)>>=λe=>some (a.length:Int)>>=λt38=>if !(t38=0:Bool) then some (b9 (bY .i64 e.Node) t38)>>=λt39=>if ay t39 a.length then if (t39.toNat<a.length:Bool) then some (a.getD t39.toNat bx).cX>>=λt46=>if room 3 ([]++t46).length then some ([]++t46)>>=λb=>if (t39.toNat<a.length:Bool) then if (t39.toNat=t39.toNat:Bool) then
 let n:=λc=>
 some (b9 e.Kind 8)>>=λf=>if (f=0:Bool) then if (t39.toNat<a.length:Bool) then some (di .u8 (aK .u8 (a.getD t39.toNat bx).A (b9 e.A 5)) 2)>>=λj=>if (t39.toNat<a.length:Bool) then hB (d,aK .i64 i 1,(a.set t39.toNat (⟨(a.getD t39.toNat bx).Kind,j,(a.getD t39.toNat bx).B,(a.getD t39.toNat bx).C,(a.getD t39.toNat bx).cX⟩:dq)).set t39.toNat (⟨((a.set t39.toNat (⟨(a.getD t39.toNat bx).Kind,j,(a.getD t39.toNat bx).B,(a.getD t39.toNat bx).C,(a.getD t39.toNat bx).cX⟩:dq)).getD t39.toNat bx).Kind,((a.set t39.toNat (⟨(a.getD t39.toNat bx).Kind,j,(a.getD t39.toNat bx).B,(a.getD t39.toNat bx).C,(a.getD t39.toNat bx).cX⟩:dq)).getD t39.toNat bx).A,((a.set t39.toNat (⟨(a.getD t39.toNat bx).Kind,j,(a.getD t39.toNat bx).B,(a.getD t39.toNat bx).C,(a.getD t39.toNat bx).cX⟩:dq)).getD t39.toNat bx).B,((a.set t39.toNat (⟨(a.getD t39.toNat bx).Kind,j,(a.getD t39.toNat bx).B,(a.getD t39.toNat bx).C,(a.getD t39.toNat bx).cX⟩:dq)).getD t39.toNat bx).C,b⟩:dq))else none else none else if (f=1:Bool) then if (t39.toNat<a.length:Bool) then some (di .u8 (aK .u8 (a.getD t39.toNat bx).B (b9 e.B 5)) 2)>>=λk=>if (t39.toNat<a.length:Bool) then hB (d,aK .i64 i 1,(a.set t39.toNat (⟨(a.getD t39.toNat bx).Kind,(a.getD t39.toNat bx).A,k,(a.getD t39.toNat bx).C,(a.getD t39.toNat bx).cX⟩:dq)).set t39.toNat (⟨((a.set t39.toNat (⟨(a.getD t39.toNat bx).Kind,(a.getD t39.toNat bx).A,k,(a.getD t39.toNat bx).C,(a.getD t39.toNat bx).cX⟩:dq)).getD t39.toNat bx).Kind,((a.set t39.toNat (⟨(a.getD t39.toNat bx).Kind,(a.getD t39.toNat bx).A,k,(a.getD t39.toNat bx).C,(a.getD t39.toNat bx).cX⟩:dq)).getD t39.toNat bx).A,((a.set t39.toNat (⟨(a.getD t39.toNat bx).Kind,(a.getD t39.toNat bx).A,k,(a.getD t39.toNat bx).C,(a.getD t39.toNat bx).cX⟩:dq)).getD t39.toNat bx).B,((a.set t39.toNat (⟨(a.getD t39.toNat bx).Kind,(a.getD t39.toNat bx).A,k,(a.getD t39.toNat bx).C,(a.getD t39.toNat bx).cX⟩:dq)).getD t39.toNat bx).C,b⟩:dq))else none else none else if (f=2:Bool) then if (t39.toNat<a.length:Bool) then some (b9 e.A 6)>>=λo=>if (0<=o:Bool) then some (u7 .u8 (a.getD t39.toNat bx).A (nG .u8 1 o))>>=λl=>if (t39.toNat<a.length:Bool) then hB (d,aK .i64 i 1,(a.set t39.toNat (⟨(a.getD t39.toNat bx).Kind,l,(a.getD t39.toNat bx).B,(a.getD t39.toNat bx).C,(a.getD t39.toNat bx).cX⟩:dq)).set t39.toNat (⟨((a.set t39.toNat (⟨(a.getD t39.toNat bx).Kind,l,(a.getD t39.toNat bx).B,(a.getD t39.toNat bx).C,(a.getD t39.toNat bx).cX⟩:dq)).getD t39.toNat bx).Kind,((a.set t39.toNat (⟨(a.getD t39.toNat bx).Kind,l,(a.getD t39.toNat bx).B,(a.getD t39.toNat bx).C,(a.getD t39.toNat bx).cX⟩:dq)).getD t39.toNat bx).A,((a.set t39.toNat (⟨(a.getD t39.toNat bx).Kind,l,(a.getD t39.toNat bx).B,(a.getD t39.toNat bx).C,(a.getD t39.toNat bx).cX⟩:dq)).getD t39.toNat bx).B,((a.set t39.toNat (⟨(a.getD t39.toNat bx).Kind,l,(a.getD t39.toNat bx).B,(a.getD t39.toNat bx).C,(a.getD t39.toNat bx).cX⟩:dq)).getD t39.toNat bx).C,b⟩:dq))else none else none else none else if (f=3:Bool) then if (t39.toNat<a.length:Bool) then some (aK .u8 (a.getD t39.toNat bx).C e.A)>>=λm=>if (t39.toNat<a.length:Bool) then hB (d,aK .i64 i 1,(a.set t39.toNat (⟨(a.getD t39.toNat bx).Kind,(a.getD t39.toNat bx).A,(a.getD t39.toNat bx).B,m,(a.getD t39.toNat bx).cX⟩:dq)).set t39.toNat (⟨((a.set t39.toNat (⟨(a.getD t39.toNat bx).Kind,(a.getD t39.toNat bx).A,(a.getD t39.toNat bx).B,m,(a.getD t39.toNat bx).cX⟩:dq)).getD t39.toNat bx).Kind,((a.set t39.toNat (⟨(a.getD t39.toNat bx).Kind,(a.getD t39.toNat bx).A,(a.getD t39.toNat bx).B,m,(a.getD t39.toNat bx).cX⟩:dq)).getD t39.toNat bx).A,((a.set t39.toNat (⟨(a.getD t39.toNat bx).Kind,(a.getD t39.toNat bx).A,(a.getD t39.toNat bx).B,m,(a.getD t39.toNat bx).cX⟩:dq)).getD t39.toNat bx).B,((a.set t39.toNat (⟨(a.getD t39.toNat bx).Kind,(a.getD t39.toNat bx).A,(a.getD t39.toNat bx).B,m,(a.getD t39.toNat bx).cX⟩:dq)).getD t39.toNat bx).C,b⟩:dq))
 else none else none else if (f=4:Bool) then if (t39.toNat=t39.toNat:Bool) then if ((b.length:Int)<8:Bool) then if (t39.toNat=t39.toNat:Bool) then some [(⟨e.A,e.B,fB .u8 e.A 12⟩:mo)]>>=λp=>if room 3 (b++p).length then if (t39.toNat=t39.toNat:Bool) then hB (d,aK .i64 i 1,a.set t39.toNat (⟨(a.getD t39.toNat bx).Kind,(a.getD t39.toNat bx).A,(a.getD t39.toNat bx).B,(a.getD t39.toNat bx).C,b++p⟩:dq))else none else none else none else hB (d,aK .i64 i 1,a.set t39.toNat (⟨(a.getD t39.toNat bx).Kind,(a.getD t39.toNat bx).A,(a.getD t39.toNat bx).B,(a.getD t39.toNat bx).C,b⟩:dq))else none else if (f=5:Bool) then if (t39.toNat=t39.toNat:Bool) then if (0<(b.length:Int):Bool) then if (t39.toNat=t39.toNat:Bool) then if d' 0 c b.length then if (t39.toNat=t39.toNat:Bool) then some (aK .i64 c 1)>>=λg=>if d' g (b.length:Int) b.length then if((c.toNat+((b.length:Int).toNat-g.toNat)<=b.length:Bool)&&(g.toNat+((b.length:Int).toNat-g.toNat)<=b.length:Bool)) then if (t39.toNat=t39.toNat:Bool) then hB (d,aK .i64 i 1,a.set t39.toNat (⟨(a.getD t39.toNat bx).Kind,(a.getD t39.toNat bx).A,(a.getD t39.toNat bx).B,(a.getD t39.toNat bx).C,b.take c.toNat++(b.drop g.toNat).take ((b.length:Int).toNat-g.toNat)⟩:dq))else none else none else none else none else none else none else hB (d,aK .i64 i 1,a.set t39.toNat (⟨(a.getD t39.toNat bx).Kind,(a.getD t39.toNat bx).A,(a.getD t39.toNat bx).B,(a.getD t39.toNat bx).C,b⟩:dq))else none else if (f=6:Bool) then if (t39.toNat=t39.toNat:Bool) then if (0<(b.length:Int):Bool) then if (t39.toNat=t39.toNat:Bool) then if ay c b.length then if (c.toNat<b.length:Bool) then hB (d,aK .i64 i 1,a.set t39.toNat (⟨(a.getD t39.toNat bx).Kind,(a.getD t39.toNat bx).A,(a.getD t39.toNat bx).B,(a.getD t39.toNat bx).C,b.set c.toNat (⟨(b.getD c.toNat iR).ad,(b.getD c.toNat iR).av,e.B⟩:mo)⟩:dq))else none else none else none else hB (d,aK .i64 i 1,a.set t39.toNat (⟨(a.getD t39.toNat bx).Kind,(a.getD t39.toNat bx).A,(a.getD t39.toNat bx).B,(a.getD t39.toNat bx).C,b⟩:dq))else none else if (t39.toNat=t39.toNat:Bool) then if (0<(b.length:Int):Bool) then if (t39.toNat=t39.toNat:Bool) then if (t39.toNat=t39.toNat:Bool) then if ay c b.length then if (c.toNat<b.length:Bool) then if ay c b.length then if (c.toNat<b.length:Bool) then hB (d,aK .i64 i 1,a.set t39.toNat (⟨(a.getD t39.toNat bx).Kind,(a.getD t39.toNat bx).A,(a.getD t39.toNat bx).B,(a.getD t39.toNat bx).C,b.set c.toNat (⟨(b.getD c.toNat iR).ad,aK .u8 (b.getD c.toNat iR).av e.B,(b.getD c.toNat iR).hg⟩:mo)⟩:dq))else none else none else none else none else none else none else hB (d,aK .i64 i 1,a.set t39.toNat (⟨(a.getD t39.toNat bx).Kind,(a.getD t39.toNat bx).A,(a.getD t39.toNat bx).B,(a.getD t39.toNat bx).C,b⟩:dq))else none
 if (0<(b.length:Int):Bool) then if (t39.toNat=t39.toNat:Bool) then some (b.length:Int)>>=λt63=>if !(t63=0:Bool) then some (b9 (bY .i64 e.A) t63)>>=λt64=>n t64 else none else none else n 0 else none else none else none else none else none else none else none else some a
  partial_fixpoint
theorem VR:cG 33 0 [0] TY hB:= .rx hB.partial_correctness
def C3:ep×List kX->Option ep
 |(d,l)=>
 if room 32 ([]++d.eg).length then hB (l,0,[]++d.eg)>>=λo=>some (⟨o⟩:ep)else none
theorem Wy:aX aht C3:= .bd .n (.k VR .n)
def rf:Int×Int×I->Option (Int×I)
 |(b,i,a)=>
 if(bif (i<(a.Rest.length:Int):Bool)then (0<=b:Bool)else false) then if ay i a.Rest.length then rf (di .i64 b ((a.Rest.getD i.toNat bP).Data.length:Int),aK .i64 i 1,I.eta a)else none else some (b,I.eta a)
  partial_fixpoint
theorem Wz:cG 78 0 [0] Uc rf:= .rx rf.partial_correctness
mutual
def oj:I×Int->Option Int
 |(v,n)=>
 rf (di .i64 n (aK .i64 (aK .i64 10 (v.bt.length:Int)) (v.Rest.length:Int)),0,I.eta v)>>=λo=>tR (o.1,0,I.eta o.2)>>=λt=>tS (t.1,0,I.eta t.2)>>=λw=>some w
  partial_fixpoint
def tR:Int×Int×I->Option (Int×I)
 |(p,f,a)=>
 if(bif (f<(a.aB.length:Int):Bool)then (0<=p:Bool)else false) then if ay f a.aB.length then oj (I.eta (a.aB.getD f.toNat ar),p)>>=λr=>tR (r,aK .i64 f 1,I.eta a)else none else some (p,I.eta a)
  partial_fixpoint
def tS:Int×Int×I->Option Int
 |(q,j,e)=>
 if(bif (j<(e.ag.length:Int):Bool)then (0<=q:Bool)else false) then if ay j e.ag.length then oj (I.eta (e.ag.getD j.toNat ar),q)>>=λx=>tS (x,aK .i64 j 1,I.eta e)else none else some q
  partial_fixpoint
end
theorem XL:dD yn oj/\dN 78 0 [2] yp tS/\dN 78 0 [1] yo tR:=oj.mutual_partial_correctness (dB yn) (dM 78 0 [2] yp) (dM 78 0 [1] yo)
 (λ_ _ h1 a _ _ h=>dH h .n (.k Wz (.k (dX yo a) (.k (dX yp h1) .n))))
 (λ_ _ h0 h1 _ _ h=>dW yp h1 h (.k (b5 yn h0) .n))
 (λ_ _ h0 a _ _ h=>dW yo a h (.k (b5 yn h0) .n))
theorem Xf:aX yn oj:=b5 _ XL.1
def wz(v:I):Option Bool:=
 oj (I.eta v,3000)>>=λr=>some (decide (0<=r))
theorem Ld:aX ahw wz:= .bd (.k Xf .n)
def Ab(c:nk):Option (aO×aO×Int×I×Bool):=
 pP c.D>>=λr=>C3 (c.D.S,c.L)>>=λd=>q0 d>>=λa=>some (bif bif (!r.2.2.2.2)then true else(!a.2)then true else decide (4<(c.L.length:Int)))>>=λt44=>(if !t44 then wz (I.eta r.2.2.1)else some false)>>=λb=>if(bif t44 then true else(!b)) then some ((⟨[]⟩:aO),(⟨[]⟩:aO),0,(⟨0,false,0,[],0,[],[],[]⟩:I),false)else some (r.1,a.1,r.2.1,I.eta r.2.2.1,true)
theorem Yo:aX agX Ab:= .bd (.k KU (.k Wy (.k KT (.k Ld .n))))
def wv:Int×aj->Option aj
 |(a,b)=>
 if (0<a:Bool) then some (strOf [bY .u8 (b9 a 256)])>>=λt10=>if (t10.length+b.length<=eE:Bool) then wv (fB .u64 a 256,t10++b)else none else some b
  partial_fixpoint
theorem XM:cG 50 0 [0] T3 wv:= .rx wv.partial_correctness
def zX(n:Int):Option aj:=
 wv (n,[])>>=λo=>some o
theorem YN:aX ahB zX:= .bd .n (.k XM .n)
def nl:Int×ao->Option (Int×ao)
 |(a,b)=>
 if (128<=a:Bool) then some [bY .u8 (aK .u64 (b9 a 128) 128)]>>=λt11=>if room 1 (b++t11).length then nl (fB .u64 a 128,b++t11)else none else some (a,b)
  partial_fixpoint
theorem XN:cG 52 0 [0] T4 nl:= .rx nl.partial_correctness
def rv(n:Int):Option aj:=
 nl (n,[])>>=λo=>some [bY .u8 o.1]>>=λt18=>if room 1 (o.2++t18).length then some (strOf (o.2++t18))else none
theorem H6:aX ahD rv:= .bd .n (.k XN .n)
def rp(p:aj):Option aj:=
 rv (bY .u64 (p.length:Int))>>=λr=>if (r.length+p.length<=eE:Bool) then some (r++p)else none
theorem H0:aX ahF rp:= .bd (.k H6 .n)
def pt:Int×I×I->Option ((Bool) ⊕ (I×I))
 |(i,a,b)=>
 if (i<(a.Rest.length:Int):Bool) then if ay i a.Rest.length then some (a.Rest.getD i.toNat bP)>>=λc=>if ay i b.Rest.length then some (b.Rest.getD i.toNat bP)>>=λd=>if !(hL c.ad d.ad&&(jx c.Data d.Data&&true)) then some (.inl false)else pt (aK .i64 i 1,I.eta a,I.eta b)else none else none else some (.inr (I.eta a,I.eta b))
  partial_fixpoint
theorem Wk:cG 49 0 [0] T2 pt:= .rx pt.partial_correctness
mutual
def jN(e:I×I):Option Bool:=
 match e with
 |(a,b)=>
 if(bif bif bif bif bif (!(a.Kind=b.Kind:Bool))then true else(!(fy a.bS b.bS))then true else(!(a.bg=b.bg:Bool))then true else(!(a.bt=b.bt:Bool))then true else(!(a.ad=b.ad:Bool))then true else(!((a.Rest.length:Int)=(b.Rest.length:Int):Bool))) then some false else pt (0,(⟨a.Kind,a.bS,a.bg,a.bt,a.ad,a.aB,a.ag,a.Rest⟩:I),(⟨b.Kind,b.bS,b.bg,b.bt,b.ad,b.aB,b.ag,b.Rest⟩:I))>>=λo=>match o with
 |.inl p=>
 some p
 |.inr c=>
 zm (c.1.aB,c.2.aB)>>=λr=>(if r then zm (c.1.ag,c.2.ag)else some false)>>=λq=>some (bif r then q else false)
  partial_fixpoint
def zm(e:List I×List I):Option Bool:=
 match e with
 |(a,b)=>
 if !((a.length:Int)=(b.length:Int):Bool) then some false else vL (a,b,0)>>=λo=>match o with
 |.inl p=>
 some p
 |.inr c=>
 some true
  partial_fixpoint
def vL:List I×List I×Int->Option ((Bool) ⊕ (Unit))
 |(f,j,i)=>
 if (i<(f.length:Int):Bool) then if ay i f.length then if ay i j.length then jN (I.eta (f.getD i.toNat ar),I.eta (j.getD i.toNat ar))>>=λr=>if !r then some (.inl false)else vL (f,j,aK .i64 i 1)else none else none else some (.inr ())
  partial_fixpoint
end
theorem VH:dD Cm jN/\dD F7 zm/\dN 89 0 [0] yr vL:=jN.mutual_partial_correctness (dB Cm) (dB F7) (dM 89 0 [0] yr)
 (λ_ h1 _ _ h=>dH h (.k (b5 F7 h1) .n) (.k Wk .n))
 (λ_ a _ _ h=>dH h .n (.k (dX yr a) .n))
 (λ_ _ h0 a _ _ h=>dW yr a h (.k (b5 Cm h0) .n))
theorem zl:aX Cm jN:=b5 _ VH.1
def ze:Int×Bool×aj->Option aj
 |(id,d,p)=>
 some (bY .u64 (gB .i64 2 id))>>=λt10=>if d then rv (aK .u64 t10 1)>>=λr=>rp p>>=λa=>if (r.length+a.length<=eE:Bool) then some (r++a)else none else rv t10>>=λb=>rp p>>=λc=>if (b.length+c.length<=eE:Bool) then some (b++c)else none
theorem Le:aX ahG ze:= .bd (.k H6 (.k H0 .n))
def mW:aj×Int×Int×List ai×I×ai->Option (aj×Int×List ai×I×ai)
 |(c,b,k,d,a,e)=>
 if (k<(a.Rest.length:Int):Bool) then if ay k a.Rest.length then if ((a.Rest.getD k.toNat bP).ad=b:Bool) then if ay k a.Rest.length then ze (b,false,(a.Rest.getD k.toNat bP).Data)>>=λf=>if (c.length+f.length<=eE:Bool) then mW (c++f,b,aK .i64 k 1,d,I.eta a,e)else none else none else mW (c,b,aK .i64 k 1,d,I.eta a,e)else none else some (c,b,d,I.eta a,e)
  partial_fixpoint
theorem Wl:cG 19 0 [0,2] QR mW:= .rx mW.partial_correctness (.k Le .n)
mutual
def iP:aO×Int×I->Option aj
 |(s,t,v)=>
 if ay t s.Types.length then some (s.Types.getD t.toNat aG)>>=λa=>if (a.Kind=1:Bool) then if v.bS then some [1]else some []else if (a.Kind=2:Bool) then wu v.bg>>=λr=>zX r>>=λZ=>some Z else if (a.Kind=3:Bool) then some v.bt else if (a.Kind=4:Bool) then zX (bY .u64 v.ad)>>=λax=>some ax else if (a.Kind=9:Bool) then if ((v.ag.length:Int)=0:Bool) then some []else if ay 0 v.ag.length then iP (s,a.aD,I.eta (v.ag.getD (0:Int).toNat ar))>>=λP=>if ([1].length+P.length<=eE:Bool) then some ([1]++P)else none else none else if (a.Kind=6:Bool) then if (0<(v.Rest.length:Int):Bool) then rv (bY .u64 v.ad)>>=λQ=>if ay 0 v.Rest.length then some (v.Rest.getD (0:Int).toNat bP)>>=λW=>if (Q.length+W.Data.length<=eE:Bool) then some (Q++W.Data)else none else none else fw (a,v.ad)>>=λR=>rv (bY .u64 v.ad)>>=λS=>if ay R.1 a.af.length then if ay 0 v.ag.length then iP (s,(a.af.getD R.1.toNat aw).av,I.eta (v.ag.getD (0:Int).toNat ar))>>=λU=>if (S.length+U.length<=eE:Bool) then some (S++U)else none else none else none else if (a.Kind=7:Bool) then tI ([],0,s.Types,I.eta v,a)>>=λo=>some o else if (a.Kind=8:Bool) then tK ([],0,s.Types,I.eta v,a)>>=λX=>some X else py ([],1,s.Types,I.eta v,a)>>=λY=>some Y else none
  partial_fixpoint
def tI:aj×Int×List ai×I×ai->Option aj
 |(H,i,b,B,K)=>
 if (i<(B.ag.length:Int):Bool) then if ay i B.ag.length then iP ((⟨b⟩:aO),K.aD,I.eta (B.ag.getD i.toNat ar))>>=λah=>rp ah>>=λL=>if (H.length+L.length<=eE:Bool) then tI (H++L,aK .i64 i 1,b,I.eta B,K)else none else none else some H
  partial_fixpoint
def tK:aj×Int×List ai×I×ai->Option aj
 |(J,q,F,j,G)=>
 if (q<(j.ag.length:Int):Bool) then if ay q j.aB.length then iP ((⟨F⟩:aO),G.Key,I.eta (j.aB.getD q.toNat ar))>>=λam=>rp am>>=λM=>if (J.length+M.length<=eE:Bool) then some (J++M)>>=λt144=>if ay q j.ag.length then iP ((⟨F⟩:aO),G.aD,I.eta (j.ag.getD q.toNat ar))>>=λan=>rp an>>=λN=>if (t144.length+N.length<=eE:Bool) then tK (t144++N,aK .i64 q 1,F,I.eta j,G)else none else none else none else none else some J
  partial_fixpoint
def py:aj×Int×List ai×I×ai->Option aj
 |(A,id,D,c,p)=>
 if (id<=1000:Bool) then fw (p,id)>>=λe=>if e.2 then if ay e.1 p.af.length then some (p.af.getD e.1.toNat aw)>>=λE=>some (!E.bu)>>=λt175=>if(ay e.1 c.ag.length||(!(!t175))) then (if !t175 then jN (I.eta (c.ag.getD e.1.toNat ar),I.eta E.bm)else some false)>>=λap=>if(bif t175 then true else(!ap)) then if ay e.1 c.ag.length then iP ((⟨D⟩:aO),E.av,I.eta (c.ag.getD e.1.toNat ar))>>=λaC=>ze (id,E.b8,aC)>>=λO=>if (A.length+O.length<=eE:Bool) then mW (A++O,id,0,D,I.eta c,p)>>=λw=>py (w.1,aK .i64 w.2.1 1,w.2.2.1,I.eta w.2.2.2.1,w.2.2.2.2)else none else none else mW (A,id,0,D,I.eta c,p)>>=λx=>py (x.1,aK .i64 x.2.1 1,x.2.2.1,I.eta x.2.2.2.1,x.2.2.2.2)else none else none else mW (A,id,0,D,I.eta c,p)>>=λy=>py (y.1,aK .i64 y.2.1 1,y.2.2.1,I.eta y.2.2.2.1,y.2.2.2.2)else some A
  partial_fixpoint
end
theorem VF:dD sT iP/\dN 19 0 [2] yd py/\dN 19 0 [1] yc tK/\dN 19 0 [0] yb tI:=iP.mutual_partial_correctness (dB sT) (dM 19 0 [2] yd) (dM 19 0 [1] yc) (dM 19 0 [0] yb)
 (λ_ _ _ _ h0 h1 a b _ _ h=>dH h (.k K' (.k YN (.k (b5 sT h0) (.k H6 (.k kh .n))))) (.k (dX yb b) (.k (dX yc a) (.k (dX yd h1) .n))))
 (λ_ _ h0 h1 _ _ h=>dW yd h1 h (.k kh (.k zl (.k (b5 sT h0) (.k Le .n)))) (.k Wl .n))
 (λ_ _ h0 a _ _ h=>dW yc a h (.k (b5 sT h0) (.k H0 .n)))
 (λ_ _ h0 b _ _ h=>dW yb b h (.k (b5 sT h0) (.k H0 .n)))
theorem De:aX sT iP:=b5 _ VF.1
def tC(c:nn):Option (da×da×aj×Bool):=
 Ab c.C>>=λr=>if !r.2.2.2.2 then some ((⟨(⟨[]⟩:aO),0⟩:da),(⟨(⟨[]⟩:aO),0⟩:da),[],false)else if c.xW then pP c.C.D>>=λa=>wz (I.eta a.2.2.2.1)>>=λb=>if !b then some ((⟨(⟨[]⟩:aO),0⟩:da),(⟨(⟨[]⟩:aO),0⟩:da),[],false)else iP (r.1,r.2.2.1,I.eta a.2.2.2.1)>>=λd=>some ((⟨r.1,r.2.2.1⟩:da),(⟨r.2.1,r.2.2.1⟩:da),d,true)else wz (I.eta r.2.2.2.1)>>=λe=>if !e then some ((⟨(⟨[]⟩:aO),0⟩:da),(⟨(⟨[]⟩:aO),0⟩:da),[],false)else iP (r.1,r.2.2.1,I.eta r.2.2.2.1)>>=λf=>some ((⟨r.1,r.2.2.1⟩:da),(⟨r.2.1,r.2.2.1⟩:da),f,true)
theorem Yp:aX B6 tC:= .bd (.k Yo (.k KU (.k Ld (.k De .n))))
def sW:List c1×List c1×Int×Int->Option ((Bool) ⊕ (Unit))
 |(a,b,c,t13)=>
 if (t13<c:Bool) then if ay t13 a.length then some (a.getD t13.toNat dI)>>=λd=>if ay t13 b.length then some (b.getD t13.toNat dI)>>=λe=>if !(hL d.ad e.ad&&(jx d.Name e.Name&&true)) then some (.inl false)else sW (a,b,c,aK .i64 t13 1)else none else none else some (.inr ())
  partial_fixpoint
theorem V9:cG 239 0 [0] RJ sW:= .rx sW.partial_correctness
def Da(c:List c1×List c1):Option Bool:=
 match c with
 |(s1,a)=>
 if !((s1.length:Int)=(a.length:Int):Bool) then some false else sW (s1,a,(s1.length:Int),0)>>=λo=>match o with
 |.inl b=>
 some b
 |.inr d=>
 some true
theorem Wc:aX TL Da:= .bd .n (.k V9 .n)
def sX:List bQ×List bQ×Int×Int->Option ((Bool) ⊕ (Unit))
 |(a,b,c,t13)=>
 if (t13<c:Bool) then if ay t13 a.length then some (a.getD t13.toNat bP)>>=λd=>if ay t13 b.length then some (b.getD t13.toNat bP)>>=λe=>if !(hL d.ad e.ad&&(jx d.Data e.Data&&true)) then some (.inl false)else sX (a,b,c,aK .i64 t13 1)else none else none else some (.inr ())
  partial_fixpoint
theorem We:cG 103 0 [0] RK sX:= .rx sX.partial_correctness
def zk(c:List bQ×List bQ):Option Bool:=
 match c with
 |(s1,a)=>
 if !((s1.length:Int)=(a.length:Int):Bool) then some false else sX (s1,a,(s1.length:Int),0)>>=λo=>match o with
 |.inl b=>
 some b
 |.inr d=>
 some true
theorem Vj:aX SO zk:= .bd .n (.k We .n)
mutual
def l9:I×I->Option Bool
 |(a,b)=>
 some (bif bif bif bif decide (a.Kind=b.Kind)then fy a.bS b.bS else false then decide (a.bg=b.bg)else false then decide (a.bt=b.bt)else false then decide (a.ad=b.ad)else false)>>=λt37=>(if t37 then zk (a.Rest,b.Rest)else some false)>>=λr=>some (bif t37 then r else false)>>=λt44=>(if t44 then yI (a.aB,b.aB)else some false)>>=λq=>some (bif t44 then q else false)>>=λt51=>(if t51 then yI (a.ag,b.ag)else some false)>>=λt=>some (bif t51 then t else false)
  partial_fixpoint
def yI(c:List I×List I):Option Bool:=
 match c with
 |(s1,f)=>
 if !((s1.length:Int)=(f.length:Int):Bool) then some false else vI (f,s1,(s1.length:Int),0)>>=λo=>match o with
 |.inl p=>
 some p
 |.inr v=>
 some true
  partial_fixpoint
def vI:List I×List I×Int×Int->Option ((Bool) ⊕ (Unit))
 |(e,t15,j,t17)=>
 if (t17<j:Bool) then if ay t17 t15.length then if ay t17 e.length then l9 (I.eta (t15.getD t17.toNat ar),I.eta (e.getD t17.toNat ar))>>=λr=>if !r then some (.inl false)else vI (e,t15,j,aK .i64 t17 1)else none else none else some (.inr ())
  partial_fixpoint
end
theorem Zv:dD ye l9/\dD EX yI/\dN 104 0 [0] A2 vI:=l9.mutual_partial_correctness (dB ye) (dB EX) (dM 104 0 [0] A2)
 (λ_ h1 _ _ h=>dH h (.k Vj (.k (b5 EX h1) .n)))
 (λ_ a _ _ h=>dH h .n (.k (dX A2 a) .n))
 (λ_ _ h0 a _ _ h=>dW A2 a h (.k (b5 ye h0) .n))
theorem Me:aX ye l9:=b5 _ Zv.1
def Ac:aR×aR->Option Bool
 |(a,y)=>
 some (bif bif bif bif decide (a.ad=y.ad)then decide (a.Name=y.Name)else false then decide (a.av=y.av)else false then fy a.b8 y.b8 else false then fy a.bu y.bu else false)>>=λt37=>(if t37 then l9 ((⟨a.bm.Kind,a.bm.bS,a.bm.bg,a.bm.bt,a.bm.ad,a.bm.aB,a.bm.ag,a.bm.Rest⟩:I),I.eta y.bm)else some false)>>=λr=>some (bif t37 then r else false)
theorem Yq:aX TN Ac:= .bd (.k Me .n)
def pk:List aR×List aR×Int×Int->Option ((Bool) ⊕ (Unit))
 |(c,t15,d,t17)=>
 if (t17<d:Bool) then if ay t17 t15.length then some (t15.getD t17.toNat aw)>>=λa=>if ay t17 c.length then some (c.getD t17.toNat aw)>>=λb=>Ac ((⟨a.ad,a.Name,a.av,a.b8,a.bu,I.eta a.bm⟩:aR),(⟨b.ad,b.Name,b.av,b.b8,b.bu,I.eta b.bm⟩:aR))>>=λr=>if !r then some (.inl false)else pk (c,t15,d,aK .i64 t17 1)else none else none else some (.inr ())
  partial_fixpoint
theorem Vt:cG 240 0 [0] RL pk:= .rx pk.partial_correctness (.k Yq .n)
def C8(c:List aR×List aR):Option Bool:=
 match c with
 |(s1,a)=>
 if !((s1.length:Int)=(a.length:Int):Bool) then some false else pk (a,s1,(s1.length:Int),0)>>=λo=>match o with
 |.inl b=>
 some b
 |.inr d=>
 some true
theorem Vu:aX TM C8:= .bd .n (.k Vt .n)
def h2:ai×ai->Option Bool
 |(a,b)=>
 some (bif bif bif bif bif bif bif decide (a.Kind=b.Kind)then decide (a.Name=b.Name)else false then decide (a.bJ=b.bJ)else false then decide (a.bN=b.bN)else false then decide (a.Max=b.Max)else false then decide (a.Key=b.Key)else false then decide (a.aD=b.aD)else false then fy a.Open b.Open else false)>>=λt58=>(if t58 then Da (a.bj,b.bj)else some false)>>=λr=>some (bif t58 then r else false)>>=λt65=>(if t65 then C8 (a.af,b.af)else some false)>>=λc=>some (bif t65 then c else false)
theorem Za:aX Tq h2:= .bd (.k Wc (.k Vu .n))
def Ad(c:Int):Option Bool:=
 some (bif bif decide (c=95)then true else bif decide (97<=c)then decide (c<=122)else false then true else bif decide (65<=c)then decide (c<=90)else false)
theorem KV:aX TH Ad:= .bd
def Ds(c:Int):Option Bool:=
 some (bif decide (48<=c)then decide (c<=57)else false)
theorem Zw:aX TI Ds:= .bd
def l1:aj×Int×Int->Option ((Bool) ⊕ (Unit))
 |(a,b,t19)=>
 if (t19<b:Bool) then if ay t19 a.length then Ad (fY a t19)>>=λc=>some (!c)>>=λt26=>if(ay t19 a.length||(!t26)) then (if t26 then Ds (fY a t19)else some false)>>=λd=>if(bif t26 then(!d)else false) then some (.inl false)else l1 (a,b,aK .i64 t19 1)else none else none else some (.inr ())
  partial_fixpoint
theorem YO:cG 208 0 [0] RM l1:= .rx l1.partial_correctness (.k KV (.k Zw .n))
def kL(s:aj):Option Bool:=
 some (bif decide (s=[])then true else decide (24<(s.length:Int)))>>=λt10=>if(ay 0 s.length||(!(!t10))) then (if !t10 then Ad (fY s 0)else some false)>>=λr=>if(bif t10 then true else(!r)) then some false else l1 (s,(s.length:Int),0)>>=λo=>match o with
 |.inl a=>
 some a
 |.inr b=>
 some true else none
theorem L4:aX Tn kL:= .bd (.k KV .n) (.k YO .n)
def pS:ao×List aj×ao×Int×Int×List aj->Option ((Bool) ⊕ ao)
 |(c,a,t9,e,t11,b)=>
 if (t11<e:Bool) then if ay t11 t9.length then some (t9.getD t11.toNat 0)>>=λd=>some (bif decide (d<1)then true else decide (1000<d))>>=λt21=>some (decide (0<t11))>>=λt24=>some (di .i64 t11 1)>>=λt29=>if(ay t29 c.length||(!((!t21)&&t24))) then some (bif t21 then true else bif t24 then decide (d<=c.getD t29.toNat 0)else false)>>=λt34=>if(ay t11 a.length||(!(!t34))) then some (bif t34 then true else jz b (a.getD t11.toNat []))>>=λt42=>if(ay t11 a.length||(!(!t42))) then (if !t42 then kL (a.getD t11.toNat [])else some false)>>=λr=>if(bif t42 then true else(!r)) then some (.inl false)else if ay t11 a.length then pS (c,a,t9,e,aK .i64 t11 1,iN b (a.getD t11.toNat []))else none else none else none else none else none else some (.inr c)
  partial_fixpoint
theorem Zx:cG 237 0 [0] Q5 pS:= .rx pS.partial_correctness (.k L4 .n)
def zI(c:ao×List aj):Option Bool:=
 match c with
 |(l,names)=>
 pS (l,names,l,(l.length:Int),0,[])>>=λo=>match o with
 |.inl a=>
 some a
 |.inr b=>
 some (decide ((b.length:Int)<=16))
theorem LH:aX TJ zI:= .bd .n (.k Zx .n)
def rk:List c1×List c1×Int×Int×ao×List aj->Option (List c1×ao×List aj)
 |(c,t7,d,t9,a,b)=>
 if (t9<d:Bool) then if ay t9 t7.length then some (t7.getD t9.toNat dI)>>=λe=>some [e.ad]>>=λt16=>if room 8 (a++t16).length then some [e.Name]>>=λt21=>if room 16 (b++t21).length then rk (c,t7,d,aK .i64 t9 1,a++t16,b++t21)else none else none else none else some (c,a,b)
  partial_fixpoint
theorem Xl:cG 209 0 [0] Q6 rk:= .rx rk.partial_correctness
def vV(l:List c1):Option Bool:=
 rk (l,l,(l.length:Int),0,[],[])>>=λo=>some (decide (0<(o.1.length:Int)))>>=λt26=>(if t26 then zI (o.2.1,o.2.2)else some false)>>=λr=>some (bif t26 then r else false)
theorem Yr:aX To vV:= .bd (.k LH .n) (.k Xl .n)
def DA(v:I):Option Bool:=
 l9 (I.eta v,(⟨0,false,0,[],0,[],[],[]⟩:I))>>=λr=>some r
theorem Zb:aX TK DA:= .bd (.k Me .n)
def pJ:List aR×Int×Int×ai×ao×List aj->Option ((Bool) ⊕ (ai×ao×List aj))
 |(t8,e,t10,b,c,d)=>
 if (t10<e:Bool) then if ay t10 t8.length then some (t8.getD t10.toNat aw)>>=λa=>some [a.ad]>>=λt17=>if room 8 (c++t17).length then some [a.Name]>>=λt22=>if room 16 (d++t22).length then some (bif bif decide (b.Kind=6)then bif a.b8 then true else a.bu else false then true else bif a.b8 then a.bu else false)>>=λt42=>some (!a.bu)>>=λt46=>(if((!t42)&&t46) then DA (I.eta a.bm)else some false)>>=λf=>if(bif t42 then true else bif t46 then(!f)else false) then some (.inl false)else pJ (t8,e,aK .i64 t10 1,b,c++t17,d++t22)else none else none else none else some (.inr (b,c,d))
  partial_fixpoint
theorem Xm:cG 210 0 [0] Q7 pJ:= .rx pJ.partial_correctness (.k Zb .n)
def tD(t:ai):Option Bool:=
 pJ (t.af,(t.af.length:Int),0,t,[],[])>>=λo=>match o with
 |.inl b=>
 some b
 |.inr a=>
 some (bif decide (a.1.Kind=5)then true else decide (0<(a.2.1.length:Int)))>>=λt62=>(if t62 then zI (a.2.1,a.2.2)else some false)>>=λr=>some (bif t62 then r else false)
theorem Ys:aX Tp tD:= .bd (.k LH .n) (.k Xm .n)
def gv(t:ai):Option Bool:=
 if (t.Kind=1:Bool) then h2 ((⟨0,t.Name,t.bJ,t.bN,t.Max,t.bj,t.af,t.Key,t.aD,t.Open⟩:ai),(⟨0,[],0,0,0,[],[],0,0,false⟩:ai))>>=λr=>some r else if (t.Kind=2:Bool) then some (decide (t.bJ<=t.bN))>>=λt17=>(if t17 then h2 ((⟨0,t.Name,0,0,t.Max,t.bj,t.af,t.Key,t.aD,t.Open⟩:ai),(⟨0,[],0,0,0,[],[],0,0,false⟩:ai))else some false)>>=λj=>some (bif t17 then j else false)else if (t.Kind=3:Bool) then some (bif decide (0<=t.Max)then decide (t.Max<=200)else false)>>=λt29=>(if t29 then h2 ((⟨0,t.Name,t.bJ,t.bN,0,t.bj,t.af,t.Key,t.aD,t.Open⟩:ai),(⟨0,[],0,0,0,[],[],0,0,false⟩:ai))else some false)>>=λv=>some (bif t29 then v else false)else if (t.Kind=4:Bool) then kL t.Name>>=λe=>(if e then vV t.bj else some false)>>=λA=>some (bif e then A else false)>>=λt40=>(if t40 then h2 ((⟨0,[],t.bJ,t.bN,t.Max,[],t.af,t.Key,t.aD,false⟩:ai),(⟨0,[],0,0,0,[],[],0,0,false⟩:ai))else some false)>>=λB=>some (bif t40 then B else false)else some (decide (t.Kind=5))>>=λt45=>if t45 then if t45 then kL t.Name>>=λf=>(if f then tD t else some false)>>=λC=>some (bif f then C else false)>>=λt53=>(if t53 then h2 ((⟨0,[],t.bJ,t.bN,t.Max,t.bj,[],t.Key,t.aD,bif t.Open then decide (t.Kind=5)else false⟩:ai),(⟨0,[],0,0,0,[],[],0,0,false⟩:ai))else some false)>>=λD=>some (bif t53 then D else false)else some (decide (t.Kind=7))>>=λt65=>if t65 then if t65 then some (bif decide (0<=t.Max)then decide (t.Max<=50)else false)>>=λt74=>if (t.Kind=8:Bool) then (if t74 then h2 ((⟨0,t.Name,t.bJ,t.bN,0,t.bj,t.af,0,0,t.Open⟩:ai),(⟨0,[],0,0,0,[],[],0,0,false⟩:ai))else some false)>>=λE=>some (bif t74 then E else false)else (if t74 then h2 ((⟨0,t.Name,t.bJ,t.bN,0,t.bj,t.af,t.Key,0,t.Open⟩:ai),(⟨0,[],0,0,0,[],[],0,0,false⟩:ai))else some false)>>=λk=>some (bif t74 then k else false)else if (t.Kind=9:Bool) then h2 ((⟨0,t.Name,t.bJ,t.bN,t.Max,t.bj,t.af,t.Key,0,t.Open⟩:ai),(⟨0,[],0,0,0,[],[],0,0,false⟩:ai))>>=λl=>some l else some false else if (t.Kind=8:Bool) then some (bif decide (0<=t.Max)then decide (t.Max<=50)else false)>>=λa=>if (t.Kind=8:Bool) then (if a then h2 ((⟨0,t.Name,t.bJ,t.bN,0,t.bj,t.af,0,0,t.Open⟩:ai),(⟨0,[],0,0,0,[],[],0,0,false⟩:ai))else some false)>>=λm=>some (bif a then m else false)else (if a then h2 ((⟨0,t.Name,t.bJ,t.bN,0,t.bj,t.af,t.Key,0,t.Open⟩:ai),(⟨0,[],0,0,0,[],[],0,0,false⟩:ai))else some false)>>=λn=>some (bif a then n else false)else if (t.Kind=9:Bool) then h2 ((⟨0,t.Name,t.bJ,t.bN,t.Max,t.bj,t.af,t.Key,0,t.Open⟩:ai),(⟨0,[],0,0,0,[],[],0,0,false⟩:ai))>>=λo=>some o else some false else if (t.Kind=6:Bool) then kL t.Name>>=λd=>(if d then tD t else some false)>>=λp=>some (bif d then p else false)>>=λg=>(if g then h2 ((⟨0,[],t.bJ,t.bN,t.Max,t.bj,[],t.Key,t.aD,bif t.Open then decide (t.Kind=5)else false⟩:ai),(⟨0,[],0,0,0,[],[],0,0,false⟩:ai))else some false)>>=λq=>some (bif g then q else false)else some (decide (t.Kind=7))>>=λi=>if i then if i then some (bif decide (0<=t.Max)then decide (t.Max<=50)else false)>>=λb=>if (t.Kind=8:Bool) then (if b then h2 ((⟨0,t.Name,t.bJ,t.bN,0,t.bj,t.af,0,0,t.Open⟩:ai),(⟨0,[],0,0,0,[],[],0,0,false⟩:ai))else some false)>>=λs=>some (bif b then s else false)
 else (if b then h2 ((⟨0,t.Name,t.bJ,t.bN,0,t.bj,t.af,t.Key,0,t.Open⟩:ai),(⟨0,[],0,0,0,[],[],0,0,false⟩:ai))else some false)>>=λu=>some (bif b then u else false)else if (t.Kind=9:Bool) then h2 ((⟨0,t.Name,t.bJ,t.bN,t.Max,t.bj,t.af,t.Key,0,t.Open⟩:ai),(⟨0,[],0,0,0,[],[],0,0,false⟩:ai))>>=λw=>some w else some false else if (t.Kind=8:Bool) then some (bif decide (0<=t.Max)then decide (t.Max<=50)else false)>>=λc=>if (t.Kind=8:Bool) then (if c then h2 ((⟨0,t.Name,t.bJ,t.bN,0,t.bj,t.af,0,0,t.Open⟩:ai),(⟨0,[],0,0,0,[],[],0,0,false⟩:ai))else some false)>>=λx=>some (bif c then x else false)else (if c then h2 ((⟨0,t.Name,t.bJ,t.bN,0,t.bj,t.af,t.Key,0,t.Open⟩:ai),(⟨0,[],0,0,0,[],[],0,0,false⟩:ai))else some false)>>=λy=>some (bif c then y else false)else if (t.Kind=9:Bool) then h2 ((⟨0,t.Name,t.bJ,t.bN,t.Max,t.bj,t.af,t.Key,0,t.Open⟩:ai),(⟨0,[],0,0,0,[],[],0,0,false⟩:ai))>>=λz=>some z else some false
theorem Zm:aX S5 gv:= .bd (.k Za (.k L4 (.k Yr (.k Ys .n))))
def tE:List aR×Int×Int×ai×ao->Option (ai×ao)
 |(t7,c,t9,b,a)=>
 if (t9<c:Bool) then if ay t9 t7.length then some [(t7.getD t9.toNat aw).av]>>=λt16=>if room 8 (a++t16).length then tE (t7,c,aK .i64 t9 1,b,a++t16)else none else none else some (b,a)
  partial_fixpoint
theorem Yt:cG 170 0 [0] Q8 tE:= .rx tE.partial_correctness
def Ev(t:ai):Option ao:=
 tE (t.af,(t.af.length:Int),0,t,[])>>=λo=>if (o.1.Kind=8:Bool) then some [o.1.Key]>>=λt25=>if room 8 (o.2++t25).length then some (o.2++t25)>>=λl=>if (7<=o.1.Kind:Bool) then some [o.1.aD]>>=λt33=>if room 8 (l++t33).length then some (l++t33)else none else some l else none else if (7<=o.1.Kind:Bool) then some [o.1.aD]>>=λa=>if room 8 (o.2++a).length then some (o.2++a)else none else some o.2
theorem Zn:aX S6 Ev:= .bd .n (.k Yt .n)
def pK:List ai×Int×Int×ao×Int×Int×List ai×List aj×Int×aj×Int×Int×Int×List c1×List aR×Int×Int×Bool->Option ((Int) ⊕ (List ai×Int×Int×List ai×List aj×Int×aj×Int×Int×Int×List c1×List aR×Int×Int×Bool))
 |(n,o,p,t38,q,t40,a,b,c,d,e,f,g,i,j,k,l,m)=>
 if (t40<q:Bool) then if ay t40 t38.length then some (t38.getD t40.toNat 0)>>=λr=>if(bif (r<0:Bool)then true else ((a.length:Int)<=r:Bool)) then some (.inl 4)else pK (n,o,p,t38,q,aK .i64 t40 1,a,b,c,d,e,f,g,i,j,k,l,m)else none else some (.inr (n,o,p,a,b,c,d,e,f,g,i,j,k,l,m))
  partial_fixpoint
theorem Xn:cG 139 0 [0,0] OL pK:= .rx pK.partial_correctness
def ry(j:List ai×Int×Int×List ai×List aj):Option ((Int) ⊕ (Unit)):=
 match j with
 |(t14,f,t16,b,d)=>
 if (t16<f:Bool) then if ay t16 t14.length then some (t14.getD t16.toNat aG)>>=λa=>gv a>>=λr=>if(bif (!r)then true else bif (!(a.Name=[]:Bool))then jz d a.Name else false) then some (.inl 1)else Ev a>>=λe=>pK (t14,f,t16,e,(e.length:Int),0,b,iN d a.Name,a.Kind,a.Name,a.bJ,a.bN,a.Max,a.bj,a.af,a.Key,a.aD,a.Open)>>=λg=>match g with
 |.inl i=>
 some (.inl i)
 |.inr c=>
 some (decide (c.2.2.2.2.2.1=8))>>=λt56=>if(ay c.2.2.2.2.2.2.2.2.2.2.2.2.1 c.2.2.2.1.length||(!t56)) then some (decide ((c.2.2.2.1.getD c.2.2.2.2.2.2.2.2.2.2.2.2.1.toNat aG).Kind<1))>>=λt65=>if(ay c.2.2.2.2.2.2.2.2.2.2.2.2.1 c.2.2.2.1.length||(!(t56&&(!t65)))) then if(bif t56 then bif t65 then true else (4<(c.2.2.2.1.getD c.2.2.2.2.2.2.2.2.2.2.2.2.1.toNat aG).Kind:Bool)else false) then some (.inl 1)else ry (c.1,c.2.1,aK .i64 c.2.2.1 1,c.2.2.2.1,c.2.2.2.2.1)else none else none else none else some (.inr ())
  partial_fixpoint
theorem YP:cG 139 0 [0] Q9 ry:= .rx ry.partial_correctness (.k Zm (.k Zn .n)) (.k Xn .n)
def pZ(s:aO):Option Int:=
 if (32<(s.Types.length:Int):Bool) then some 3 else ry (s.Types,(s.Types.length:Int),0,s.Types,[])>>=λo=>match o with
 |.inl a=>
 some a
 |.inr b=>
 some 0
theorem Ae:aX B' pZ:= .bd .n (.k YP .n)
def vX(r:da):Option Int:=
 pZ r.cC>>=λa=>if !(a=0:Bool) then some a else if(bif (r.av<0:Bool)then true else ((r.cC.Types.length:Int)<=r.av:Bool)) then some 4 else some 0
theorem Zy:aX FR vX:= .bd (.k Ae .n)
def ni:List da×Int×Int->Option ((Int) ⊕ (Unit))
 |(t6,a,t8)=>
 if (t8<a:Bool) then if ay t8 t6.length then vX (t6.getD t8.toNat J8)>>=λr=>if !(r=0:Bool) then some (.inl r)else ni (t6,a,aK .i64 t8 1)else none else some (.inr ())
  partial_fixpoint
theorem Xg:cG 65 0 [0] F3 ni:= .rx ni.partial_correctness (.k Zy .n)
def Dt(l:List da):Option Int:=
 ni (l,(l.length:Int),0)>>=λo=>match o with
 |.inl a=>
 some a
 |.inr b=>
 some 0
theorem Zz:aX F2 Dt:= .bd .n (.k Xg .n)
def hC:Int×List ai×ao×Int×ao->Option (I×Bool×List ai×Int×ao×ao)
 |(c,b,e,f,a)=>
 ud 8 a>>=λr=>if((r.1.length=a.length:Bool)&&true) then some ((⟨0,false,0,[],0,[],[],[]⟩:I),false,b,c,r.1,r.2)else none
theorem rb:aX S7 hC:= .bd (.k n9 .n)
def nb:aj×Int×Int×Int->Option Int
 |(a,b,c,t18)=>
 if (t18<c:Bool) then if ay t18 a.length then nb (a,sd .u64 (nG .u64 b 8) (bY .u64 (fY a t18)),c,aK .i64 t18 1)else none else some b
  partial_fixpoint
theorem Xo:cG 172 0 [0] Q' nb:= .rx nb.partial_correctness
def tF(s:aj):Option (Int×Int):=
 some (!(decide (s=[])))>>=λt7=>if(ay 0 s.length||(!t7)) then if(bif t7 then (fY s 0=0:Bool)else false) then some (0,2)else if (8<(s.length:Int):Bool) then some (0,7)else nb (s,0,(s.length:Int),0)>>=λo=>some (o,0)else none
theorem Yu:aX S8 tF:= .bd .n (.k Xo .n)
def DX(n:Int):Option Int:=
 some (u7 .i64 (bY .i64 (lO .u64 n 1)) (di .i64 0 (bY .i64 (BZ .u64 n 1))))
theorem YQ:aX S9 DX:= .bd
def HC:c1×Int->Option (Bool×Int)
 |(a,b)=>
 some (decide (a.ad=b),b)
theorem YR:aX Tm HC:= .bd
def nX:List c1×Int×Int×Int->Option ((Int×Int) ⊕ (Int))
 |(a,c,t8,b)=>
 if (t8<c:Bool) then if ay t8 a.length then HC (a.getD t8.toNat dI,b)>>=λr=>if r.1 then some (.inl (t8,r.2))else nX (a,c,aK .i64 t8 1,r.2)else none else some (.inr b)
  partial_fixpoint
theorem Vw:cG 205 1 [0] Ra nX:= .rx nX.partial_correctness (.k YR .n)
def Hj(d:List c1×Int):Option (Int×Int):=
 match d with
 |(s,b)=>
 nX (s,(s.length:Int),0,b)>>=λo=>match o with
 |.inl a=>
 some (a.1,a.2)
 |.inr c=>
 some ((-1),c)
theorem V6:aX Tl Hj:= .bd .n (.k Vw .n)
def s9:ai×Int->Option (Int×Bool)
 |(t,id)=>
 Hj (t.bj,id)>>=λr=>some (iI r.1 0,decide (0<=r.1))
theorem DY:aX S2 s9:= .bd (.k V6 .n)
def Ea(a:Int):Option Bool:=
 some (!(decide (a=a)))
theorem aa6:aX TT Ea:= .bd
def Ew:Int×Int->Option Int
 |(a,y)=>
 Ea a>>=λr=>Ea y>>=λb=>if r then if b then some 0 else some (-1)else if b then some 1 else if (a<y:Bool) then some (-1)else if (y<a:Bool) then some 1 else some 0
theorem Zo:aX TE Ew:= .bd (.k aa6 .n)
def Ex(a:Int):Option Bool:=
 some (!(decide (a=a)))
theorem Zp:aX TS Ex:= .bd
def Aj:Int×Int->Option Int
 |(a,y)=>
 Ex a>>=λr=>Ex y>>=λb=>if r then if b then some 0 else some (-1)else if b then some 1 else if (a<y:Bool) then some (-1)else if (y<a:Bool) then some 1 else some 0
theorem ZA:aX TB Aj:= .bd (.k Zp .n)
def Ey(a:aj):Option Bool:=
 some (!(decide (a=a)))
theorem Zq:aX TU Ey:= .bd
def Du:aj×aj->Option Int
 |(a,y)=>
 Ey a>>=λr=>Ey y>>=λb=>if r then if b then some 0 else some (-1)else if b then some 1 else if Op.bytesLess a y then some (-1)else if !(Op.bytesLess a y||(a=y:Bool)) then some 1 else some 0
theorem ZB:aX TG Du:= .bd (.k Zq .n)
def rH:Int×ao×Int×Int->Option ((Int) ⊕ (Int))
 |(a,t6,b,t8)=>
 if (t8<b:Bool) then if ay t8 t6.length then some (t6.getD t8.toNat 0)>>=λc=>if !(c=a:Bool) then some (.inl c)else rH (a,t6,b,aK .i64 t8 1)else none else some (.inr a)
  partial_fixpoint
theorem aa7:cG 233 0 [0] Rf rH:= .rx rH.partial_correctness
def E1(a:ao):Option Int:=
 rH (0,a,(a.length:Int),0)>>=λo=>match o with
 |.inl b=>
 some b
 |.inr c=>
 some c
theorem adv:aX TF E1:= .bd .n (.k aa7 .n)
def vY(n:Int):Option Int:=
 some (u7 .u64 (nG .u64 (bY .u64 n) 1) (bY .u64 (lO .i64 n 63)))
theorem K1:aX Te vY:= .bd
def pT:I×I->Option Int
 |(a,b)=>
 if !(a.Kind=b.Kind:Bool) then some 0 else if (a.Kind=1:Bool) then if fy a.bS b.bS then some 0 else if b.bS then some (-1)else some 1 else if (a.Kind=2:Bool) then vY a.bg>>=λr=>vY b.bg>>=λc=>Ew (r,c)>>=λd=>some d else if (a.Kind=3:Bool) then Aj ((a.bt.length:Int),(b.bt.length:Int))>>=λe=>Du (a.bt,b.bt)>>=λf=>E1 [e,f]>>=λg=>some g else if (a.Kind=4:Bool) then Aj (a.ad,b.ad)>>=λi=>some i else some 0
theorem K3:aX Tk pT:= .bd (.k K1 (.k Zo (.k ZA (.k ZB (.k adv .n)))))
def rG:List aj×Int×List ai×ao×Int×ai×Int×Bool×Int×aj×Int×Int×Bool×Int×aj×Int×ao×List I->Option ((Bool×List ai×Int×I×ao×ao) ⊕ (List aj×List ai×ao×Int×ai×Int×Bool×Int×aj×Int×Int×Bool×Int×aj×Int×ao×List I))
 |(t,b,d,e,f,i,j,k,l,m,n,o,p,q,r,s,g,a)=>
 if (b<(a.length:Int):Bool) then some (di .i64 b 1)>>=λt86=>if ay t86 a.length then if (t86.toNat<a.length:Bool) then if ay b a.length then if (b.toNat<a.length:Bool) then pT (I.eta (a.getD t86.toNat ar),I.eta (a.getD b.toNat ar))>>=λu=>if (0<=u:Bool) then hC (1,d,e,f,g)>>=λc=>some (.inl (c.2.1,c.2.2.1,c.2.2.2.1,I.eta c.1,c.2.2.2.2.1,c.2.2.2.2.2))else rG (t,aK .i64 b 1,d,e,f,i,j,k,l,m,n,o,p,q,r,s,g,a)else none else none else none else none else some (.inr (t,d,e,f,i,j,k,l,m,n,o,p,q,r,s,g,a))
  partial_fixpoint
theorem Wm:cG 177 2 [1] Rg rG:= .rx rG.partial_correctness (.k K3 (.k rb .n))
def s':aj×Int×Int×Int->Option ((Int×Int×Int) ⊕ (Unit))
 |(a,n,b,t11)=>
 if (t11<b:Bool) then if ay t11 a.length then some (fY a t11)>>=λt16=>if(bif (t11=9:Bool)then (1<t16:Bool)else false) then some (.inl (0,0,7))else if (128<=t16:Bool) then some (gB .i64 7 t11)>>=λt41=>if (0<=t41:Bool) then s' (a,sd .u64 n (nG .u64 (bY .u64 (BZ .u8 t16 127)) t41),b,aK .i64 t11 1)else none else if(bif (t16=0:Bool)then (0<t11:Bool)else false) then some (.inl (0,0,2))else some (gB .i64 7 t11)>>=λt21=>if (0<=t21:Bool) then some (.inl (sd .u64 n (nG .u64 (bY .u64 t16) t21),aK .i64 t11 1,0))else none else none else some (.inr ())
  partial_fixpoint
theorem ZC:cG 254 0 [0] Rb s':= .rx s'.partial_correctness
def EI(s:aj):Option (Int×Int×Int):=
 s' (s,0,ja 10 (s.length:Int),0)>>=λo=>match o with
 |.inl a=>
 some (a.1,a.2.1,a.2.2)
 |.inr b=>
 some (0,0,10)
theorem aap:aX TV EI:= .bd .n (.k ZC .n)
def rY(s:aj):Option (Int×aj×Bool):=
 EI s>>=λr=>if !(r.2.2=0:Bool) then some (0,[],false)else if d' r.2.1 (s.length:Int) s.length then some (r.1,et s r.2.1 (s.length:Int),true)else none
theorem Hq:aX TO rY:= .bd (.k aap .n)
def zz(s:aj):Option (aj×aj×Bool):=
 rY s>>=λr=>if(bif (!r.2.2)then true else (bY .u64 (r.2.1.length:Int)<r.1:Bool)) then some ([],[],false)else if d' 0 r.1 r.2.1.length then if d' r.1 (r.2.1.length:Int) r.2.1.length then some (et r.2.1 0 r.1,et r.2.1 r.1 (r.2.1.length:Int),true)else none else none
theorem Mf:aX TP zz:= .bd (.k Hq .n)
def hD:aj×List aj->Option ((Int) ⊕ (List aj))
 |(s,a)=>
 if !(s=[]:Bool) then zz s>>=λr=>if !r.2.2 then some (.inl 12)else some [r.1]>>=λt22=>if room 16 (a++t22).length then hD (r.2.1,a++t22)else none else some (.inr a)
  partial_fixpoint
theorem YS:cG 213 0 [0] Re hD:= .rx hD.partial_correctness (.k Mf .n)
def lv(c:aj):Option (List aj×Int):=
 hD (c,[])>>=λo=>match o with
 |.inl a=>
 some ([],a)
 |.inr b=>
 some (b,0)
theorem L5:aX Tt lv:= .bd .n (.k YS .n)
mutual
def jR(v:I):Option I:=
 eO 120 v.aB>>=λr=>eO 120 v.ag>>=λX=>eO 24 v.Rest>>=λY=>tu ((r.length:Int),0,v.Kind,v.bS,v.bg,v.bt,v.ad,0,false,0,[],0,r,X,Y)>>=λo=>tv ((o.2.2.2.2.2.2.2.2.2.2.2.1.length:Int),0,o.1,o.2.1,o.2.2.1,o.2.2.2.1,o.2.2.2.2.1,o.2.2.2.2.2.1,o.2.2.2.2.2.2.1,o.2.2.2.2.2.2.2.1,o.2.2.2.2.2.2.2.2.1,o.2.2.2.2.2.2.2.2.2.1,o.2.2.2.2.2.2.2.2.2.2.2.1,o.2.2.2.2.2.2.2.2.2.2.1,o.2.2.2.2.2.2.2.2.2.2.2.2)>>=λa=>some (⟨a.1,a.2.1,a.2.2.1,a.2.2.2.1,a.2.2.2.2.1,a.2.2.2.2.2.2.2.2.2.2.1,a.2.2.2.2.2.2.2.2.2.2.2.1,a.2.2.2.2.2.2.2.2.2.2.2.2⟩:I)
  partial_fixpoint
def tu:Int×Int×Int×Bool×Int×aj×Int×Int×Bool×Int×aj×Int×List I×List I×List bQ->Option (Int×Bool×Int×aj×Int×Int×Bool×Int×aj×Int×List I×List I×List bQ)
 |(U,t22,j,p,q,t,w,x,y,A,B,D,c,E,F)=>
 if (t22<U:Bool) then if ay t22 c.length then if (t22.toNat<c.length:Bool) then jR (I.eta (c.getD t22.toNat ar))>>=λZ=>if ay t22 c.length then if (t22.toNat<c.length:Bool) then tu (U,aK .i64 t22 1,j,p,q,t,w,x,y,A,B,D,c.set t22.toNat (I.eta Z),E,F)else none else none else none else none else some (j,p,q,t,w,x,y,A,B,D,c,E,F)
  partial_fixpoint
def tv:Int×Int×Int×Bool×Int×aj×Int×Int×Bool×Int×aj×Int×List I×List I×List bQ->Option (Int×Bool×Int×aj×Int×Int×Bool×Int×aj×Int×List I×List I×List bQ)
 |(W,t37,G,H,J,K,L,M,N,O,P,Q,e,R,S)=>
 if (t37<W:Bool) then if ay t37 e.length then if (t37.toNat<e.length:Bool) then jR (I.eta (e.getD t37.toNat ar))>>=λah=>if ay t37 e.length then if (t37.toNat<e.length:Bool) then tv (W,aK .i64 t37 1,G,H,J,K,L,M,N,O,P,Q,e.set t37.toNat (I.eta ah),R,S)else none else none else none else none else some (G,H,J,K,L,M,N,O,P,Q,R,e,S)
  partial_fixpoint
end
theorem YT:dD vq jR/\dN 217 0 [1] Bk tv/\dN 217 0 [0] Av tu:=jR.mutual_partial_correctness (dB vq) (dM 217 0 [1] Bk) (dM 217 0 [0] Av)
 (λ_ _ h1 a _ _ h=>dH h (.k od (.k pF .n)) (.k (dX Av a) (.k (dX Bk h1) .n)))
 (λ_ _ h0 h1 _ _ h=>dW Bk h1 h (.k (b5 vq h0) .n))
 (λ_ _ h0 a _ _ h=>dW Av a h (.k (b5 vq h0) .n))
theorem ZD:aX vq jR:=b5 _ YT.1
def HS:cP×aR->Option (Bool×aR)
 |(f,b)=>
 some (decide (f.ad=b.ad),(⟨b.ad,b.Name,b.av,b.b8,b.bu,I.eta b.bm⟩:aR))
theorem VS:aX Tw HS:= .bd
def pq:List cP×Int×Int×aR->Option ((Int×aR) ⊕ (aR))
 |(b,c,t8,a)=>
 if (t8<c:Bool) then if ay t8 b.length then HS (b.getD t8.toNat gm,(⟨a.ad,a.Name,a.av,a.b8,a.bu,I.eta a.bm⟩:aR))>>=λr=>if r.1 then some (.inl (t8,(⟨r.2.ad,r.2.Name,r.2.av,r.2.b8,r.2.bu,I.eta r.2.bm⟩:aR)))else pq (b,c,aK .i64 t8 1,(⟨r.2.ad,r.2.Name,r.2.av,r.2.b8,r.2.bu,I.eta r.2.bm⟩:aR))else none else some (.inr (⟨a.ad,a.Name,a.av,a.b8,a.bu,I.eta a.bm⟩:aR))
  partial_fixpoint
theorem V5:cG 215 1 [0] Ri pq:= .rx pq.partial_correctness (.k VS .n)
def yJ(d:List cP×aR):Option (Int×aR):=
 match d with
 |(s,b)=>
 pq (s,(s.length:Int),0,(⟨b.ad,b.Name,b.av,b.b8,b.bu,I.eta b.bm⟩:aR))>>=λo=>match o with
 |.inl a=>
 some (a.1,(⟨a.2.ad,a.2.Name,a.2.av,a.2.b8,a.2.bu,I.eta a.2.bm⟩:aR))
 |.inr c=>
 some ((-1),(⟨c.ad,c.Name,c.av,c.b8,c.bu,I.eta c.bm⟩:aR))
theorem V':aX Tv yJ:= .bd .n (.k V5 .n)
def HD:aR×Int->Option (Bool×Int)
 |(m,b)=>
 some (decide (m.ad=b),b)
theorem YU:aX SZ HD:= .bd
def pn:List aR×Int×Int×Int->Option ((Int×Int) ⊕ (Int))
 |(b,d,t8,c)=>
 if (t8<d:Bool) then if ay t8 b.length then some (b.getD t8.toNat aw)>>=λa=>HD ((⟨a.ad,a.Name,a.av,a.b8,a.bu,I.eta a.bm⟩:aR),c)>>=λr=>if r.1 then some (.inl (t8,r.2))else pn (b,d,aK .i64 t8 1,r.2)else none else some (.inr c)
  partial_fixpoint
theorem Vx:cG 137 1 [0] Rc pn:= .rx pn.partial_correctness (.k YU .n)
def Hk(d:List aR×Int):Option (Int×Int):=
 match d with
 |(s,b)=>
 pn (s,(s.length:Int),0,b)>>=λo=>match o with
 |.inl a=>
 some (a.1,a.2)
 |.inr c=>
 some ((-1),c)
theorem V7:aX SY Hk:= .bd .n (.k Vx .n)
def gr:ai×Int->Option (Int×Bool)
 |(t,id)=>
 Hk (t.af,id)>>=λr=>some (iI r.1 0,decide (0<=r.1))
theorem l3:aX Uk gr:= .bd (.k V7 .n)
def pv:List cP×Int×Int×List ai×ao×Int×ai×Int×Bool×Int×aj×Int×Int×Bool×Int×aj×Int×ao×List I×List bQ->Option ((Bool×List ai×Int×I×ao×ao) ⊕ (List ai×ao×Int×Int×Bool×Int×aj×Int×Int×Bool×Int×aj×Int×ao×List I×List bQ))
 |(t117,u,t119,d,e,f,i,j,k,l,m,n,o,p,q,r,s,b,t,g)=>
 if (t119<u:Bool) then if ay t119 t117.length then some (t117.getD t119.toNat gm)>>=λc=>gr (i,c.ad)>>=λv=>if v.2 then pv (t117,u,aK .i64 t119 1,d,e,f,i,j,k,l,m,n,o,p,q,r,s,b,t,g)else if c.b8 then some [c.ad]>>=λt140=>if room 8 (b++t140).length then hC (6,d,e,f,b++t140)>>=λa=>some (di .i64 (a.2.2.2.2.1.length:Int) 1)>>=λt159=>if d' 0 t159 a.2.2.2.2.1.length then if (t159.toNat<=a.2.2.2.2.1.length:Bool) then some (.inl (false,a.2.2.1,a.2.2.2.1,I.eta a.1,a.2.2.2.2.1.take t159.toNat,a.2.2.2.2.2))else none else none else none else some [(⟨c.ad,c.Data⟩:bQ)]>>=λt171=>if room 24 (g++t171).length then pv (t117,u,aK .i64 t119 1,d,e,f,i,j,k,l,m,n,o,p,q,r,s,b,t,g++t171)else none else none else some (.inr (d,e,f,j,k,l,m,n,o,p,q,r,s,b,t,g))
  partial_fixpoint
theorem VI:cG 178 2 [1] Rj pv:= .rx pv.partial_correctness (.k l3 (.k rb .n))
def f':Int×aj×List cP->Option ((Int) ⊕ (List cP))
 |(last,s,a)=>
 if !(s=[]:Bool) then rY s>>=λr=>if(bif bif (!r.2.2)then true else (fB .u64 r.1 2<=last:Bool)then true else (1000<fB .u64 r.1 2:Bool)) then some (.inl 12)else zz r.2.1>>=λb=>if !b.2.2 then some (.inl 12)else some [(⟨bY .i64 (fB .u64 r.1 2),decide (b9 r.1 2=1),b.1⟩:cP)]>>=λt50=>if room 32 (a++t50).length then f' (fB .u64 r.1 2,b.2.1,a++t50)else none else some (.inr a)
  partial_fixpoint
theorem Xh:cG 214 0 [0] Rh f':= .rx f'.partial_correctness (.k Hq (.k Mf .n))
def l5(c:aj):Option (List cP×Int):=
 f' (0,c,[])>>=λo=>match o with
 |.inl a=>
 some ([],a)
 |.inr b=>
 some (b,0)
theorem ZE:aX Tu l5:= .bd .n (.k Xh .n)
def mb(a:aj):Option (Int×aj×Int):=
 rY a>>=λr=>if(bif bif (!r.2.2)then true else (r.1<1:Bool)then true else (1000<r.1:Bool)) then some (0,[],12)else some (bY .i64 r.1,r.2.1,0)
theorem aaq:aX Tr mb:= .bd (.k Hq .n)
mutual
def zq(A:ai×aj×List ai×ao×Int×ao):Option (I×Bool×List ai×ao×Int×ao):=
 match A with
 |(c,p,b,f,j,e)=>
 lv p>>=λr=>if(bif (!(r.2=0:Bool))then true else(!(b9 (r.1.length:Int) 2=0:Bool))) then hC (1,b,f,j,e)>>=λy=>some (I.eta y.1,y.2.1,y.2.2.1,y.2.2.2.2.2,y.2.2.2.1,y.2.2.2.2.1)else if (c.Max<fB .i64 (r.1.length:Int) 2:Bool) then hC (3,b,f,j,e)>>=λw=>some (I.eta w.1,w.2.1,w.2.2.1,w.2.2.2.2.2,w.2.2.2.1,w.2.2.2.2.1)else s5 (r.1,0,b,f,j,c,0,false,0,[],0,c.Kind,false,0,[],0,e,[])>>=λo=>match o with
 |.inl x=>
 some (I.eta x.2.2.2.2.1,x.1,x.2.1,x.2.2.1,x.2.2.2.1,x.2.2.2.2.2)
 |.inr a=>
 rG (a.1,1,a.2.1,a.2.2.1,a.2.2.2.1,a.2.2.2.2.1,a.2.2.2.2.2.1,a.2.2.2.2.2.2.1,a.2.2.2.2.2.2.2.1,a.2.2.2.2.2.2.2.2.1,a.2.2.2.2.2.2.2.2.2.1,a.2.2.2.2.2.2.2.2.2.2.1,a.2.2.2.2.2.2.2.2.2.2.2.1,a.2.2.2.2.2.2.2.2.2.2.2.2.1,a.2.2.2.2.2.2.2.2.2.2.2.2.2.1,a.2.2.2.2.2.2.2.2.2.2.2.2.2.2.1,a.2.2.2.2.2.2.2.2.2.2.2.2.2.2.2.1,a.2.2.2.2.2.2.2.2.2.2.2.2.2.2.2.2)>>=λbT=>match bT with
 |.inl E=>
 some (I.eta E.2.2.2.1,E.1,E.2.1,E.2.2.2.2.2,E.2.2.1,E.2.2.2.2.1)
 |.inr v=>
 s6 (v.1,1,v.2.1,v.2.2.1,v.2.2.2.1,v.2.2.2.2.1,v.2.2.2.2.2.1,v.2.2.2.2.2.2.1,v.2.2.2.2.2.2.2.1,v.2.2.2.2.2.2.2.2.1,v.2.2.2.2.2.2.2.2.2.1,v.2.2.2.2.2.2.2.2.2.2.1,v.2.2.2.2.2.2.2.2.2.2.2.1,v.2.2.2.2.2.2.2.2.2.2.2.2.1,v.2.2.2.2.2.2.2.2.2.2.2.2.2.1,v.2.2.2.2.2.2.2.2.2.2.2.2.2.2.1,v.2.2.2.2.2.2.2.2.2.2.2.2.2.2.2.1,v.2.2.2.2.2.2.2.2.2.2.2.2.2.2.2.2,[])>>=λi1=>match i1 with
 |.inl K=>
 some (I.eta K.2.2.2.2.1,K.1,K.2.1,K.2.2.1,K.2.2.2.1,K.2.2.2.2.2)
 |.inr F=>
 some ((⟨F.2.2.2.2.2.2.2.2.1,F.2.2.2.2.2.2.2.2.2.1,F.2.2.2.2.2.2.2.2.2.2.1,F.2.2.2.2.2.2.2.2.2.2.2.1,F.2.2.2.2.2.2.2.2.2.2.2.2.1,F.2.2.2.2.2.2.2.2.2.2.2.2.2.2.1,F.2.2.2.2.2.2.2.2.2.2.2.2.2.2.2,[]⟩:I),true,F.1,F.2.1,F.2.2.1,F.2.2.2.2.2.2.2.2.2.2.2.2.2.1)
  partial_fixpoint
def C7(A:ai×aj×List ai×ao×Int×ao):Option (I×Bool×List ai×ao×Int×ao):=
 match A with
 |(c,p,b,f,j,e)=>
 lv p>>=λr=>if !(r.2=0:Bool) then hC (1,b,f,j,e)>>=λy=>some (I.eta y.1,y.2.1,y.2.2.1,y.2.2.2.2.2,y.2.2.2.1,y.2.2.2.2.1)else if (c.Max<(r.1.length:Int):Bool) then hC (3,b,f,j,e)>>=λw=>some (I.eta w.1,w.2.1,w.2.2.1,w.2.2.2.2.2,w.2.2.2.1,w.2.2.2.2.1)else tL (r.1,(r.1.length:Int),0,b,f,j,c,0,false,0,[],0,c.Kind,false,0,[],0,e,[])>>=λo=>match o with
 |.inl x=>
 some (I.eta x.2.2.2.2.1,x.1,x.2.1,x.2.2.1,x.2.2.2.1,x.2.2.2.2.2)
 |.inr a=>
 some ((⟨a.2.2.2.2.2.2.2.2.1,a.2.2.2.2.2.2.2.2.2.1,a.2.2.2.2.2.2.2.2.2.2.1,a.2.2.2.2.2.2.2.2.2.2.2.1,a.2.2.2.2.2.2.2.2.2.2.2.2.1,[],a.2.2.2.2.2.2.2.2.2.2.2.2.2.2,[]⟩:I),true,a.1,a.2.1,a.2.2.1,a.2.2.2.2.2.2.2.2.2.2.2.2.2.1)
  partial_fixpoint
def iQ:Int×Int×aj×List ai×ao×Int×ao->Option (I×Bool×List ai×ao×Int×ao)
 |(step,t,p,b,f,j,e)=>
 some [step]>>=λt18=>if room 8 (e++t18).length then p4 (t,p,b,f,j,e++t18)>>=λr=>some (di .i64 (r.2.2.2.2.2.length:Int) 1)>>=λt39=>if d' 0 t39 r.2.2.2.2.2.length then if (t39.toNat<=r.2.2.2.2.2.length:Bool) then some (I.eta r.1,r.2.1,r.2.2.1,r.2.2.2.1,r.2.2.2.2.1,r.2.2.2.2.2.take t39.toNat)else none else none else none
  partial_fixpoint
def p4:Int×aj×List ai×ao×Int×ao->Option (I×Bool×List ai×ao×Int×ao)
 |(t,p,b,f,j,e)=>
 if (200<=(e.length:Int):Bool) then hC (8,b,f,j,e)>>=λr=>some (I.eta r.1,r.2.1,r.2.2.1,r.2.2.2.2.2,r.2.2.2.1,r.2.2.2.2.1)else if ay t b.length then some (b.getD t.toNat aG)>>=λc=>if (c.Kind=1:Bool) then some (decide (p=[1]))>>=λt50=>if(bif (!(p=[]:Bool))then(!t50)else false) then hC (1,b,f,j,e)>>=λR=>some (I.eta R.1,R.2.1,R.2.2.1,R.2.2.2.2.2,R.2.2.2.1,R.2.2.2.2.1)else some ((⟨c.Kind,t50,0,[],0,[],[],[]⟩:I),true,b,f,j,e)else if (c.Kind=2:Bool) then tF p>>=λH=>if !(H.2=0:Bool) then hC (1,b,f,j,e)>>=λq=>some (I.eta q.1,q.2.1,q.2.2.1,q.2.2.2.2.2,q.2.2.2.1,q.2.2.2.2.1)else DX H.1>>=λb1=>if(bif (b1<c.bJ:Bool)then true else (c.bN<b1:Bool)) then hC (2,b,f,j,e)>>=λL=>some (I.eta L.1,L.2.1,L.2.2.1,L.2.2.2.2.2,L.2.2.2.1,L.2.2.2.2.1)else some ((⟨c.Kind,false,b1,[],0,[],[],[]⟩:I),true,b,f,j,e)else if (c.Kind=3:Bool) then if (c.Max<(p.length:Int):Bool) then hC (3,b,f,j,e)>>=λB=>some (I.eta B.1,B.2.1,B.2.2.1,B.2.2.2.2.2,B.2.2.2.1,B.2.2.2.2.1)else some ((⟨c.Kind,false,0,p,0,[],[],[]⟩:I),true,b,f,j,e)else if (c.Kind=4:Bool) then tF p>>=λaL=>if(bif bif (!(aL.2=0:Bool))then true else (aL.1<1:Bool)then true else (1000<aL.1:Bool)) then hC (1,b,f,j,e)>>=λN=>some (I.eta N.1,N.2.1,N.2.2.1,N.2.2.2.2.2,N.2.2.2.1,N.2.2.2.2.1)else some (bY .i64 aL.1)>>=λt130=>s9 (c,t130)>>=λi3=>if(bif (!i3.2)then(!c.Open)else false) then hC (4,b,f,j,e)>>=λO=>some (I.eta O.1,O.2.1,O.2.2.1,O.2.2.2.2.2,O.2.2.2.1,O.2.2.2.2.1)else some ((⟨c.Kind,false,0,[],t130,[],[],[]⟩:I),true,b,f,j,e)else if (c.Kind=9:Bool) then if (p=[]:Bool) then some ((⟨c.Kind,false,0,[],0,[],[],[]⟩:I),true,b,f,j,e)else if ay 0 p.length then if !(fY p 0=1:Bool) then hC (1,b,f,j,e)>>=λP=>some (I.eta P.1,P.2.1,P.2.2.1,P.2.2.2.2.2,P.2.2.2.1,P.2.2.2.2.1)else if d' 1 (p.length:Int) p.length then iQ (0,c.aD,et p 1 (p.length:Int),b,f,j,e)>>=λQ=>some ((⟨c.Kind,false,0,[],0,[],[I.eta Q.1],[]⟩:I),Q.2.1,Q.2.2.1,Q.2.2.2.1,Q.2.2.2.2.1,Q.2.2.2.2.2)else none else none else if (c.Kind=6:Bool) then C4 (c,p,b,f,j,e)>>=λS=>some (I.eta S.1,S.2.1,S.2.2.1,S.2.2.2.1,S.2.2.2.2.1,S.2.2.2.2.2)else if (c.Kind=7:Bool) then C7 (c,p,b,f,j,e)>>=λU=>some (I.eta U.1,U.2.1,U.2.2.1,U.2.2.2.1,U.2.2.2.2.1,U.2.2.2.2.2)else if (c.Kind=8:Bool) then zq (c,p,b,f,j,e)>>=λW=>some (I.eta W.1,W.2.1,W.2.2.1,W.2.2.2.1,W.2.2.2.2.1,W.2.2.2.2.2)else zs (c,p,b,f,j,e)>>=λX=>some (I.eta X.1,X.2.1,X.2.2.1,X.2.2.2.1,X.2.2.2.2.1,X.2.2.2.2.2)else none
  partial_fixpoint
def zs(A:ai×aj×List ai×ao×Int×ao):Option (I×Bool×List ai×ao×Int×ao):=
 match A with
 |(c,p,b,f,j,e)=>
 l5 p>>=λr=>if !(r.2=0:Bool) then hC (1,b,f,j,e)>>=λy=>some (I.eta y.1,y.2.1,y.2.2.1,y.2.2.2.2.2,y.2.2.2.1,y.2.2.2.2.1)else mX (r.1,c.af,(c.af.length:Int),0,b,f,j,c,0,false,0,[],0,c.Kind,false,0,[],0,e,[])>>=λo=>match o with
 |.inl x=>
 some (I.eta x.2.2.2.2.1,x.1,x.2.1,x.2.2.1,x.2.2.2.1,x.2.2.2.2.2)
 |.inr a=>
 pv (a.1,(a.1.length:Int),0,a.2.1,a.2.2.1,a.2.2.2.1,a.2.2.2.2.1,a.2.2.2.2.2.1,a.2.2.2.2.2.2.1,a.2.2.2.2.2.2.2.1,a.2.2.2.2.2.2.2.2.1,a.2.2.2.2.2.2.2.2.2.1,a.2.2.2.2.2.2.2.2.2.2.1,a.2.2.2.2.2.2.2.2.2.2.2.1,a.2.2.2.2.2.2.2.2.2.2.2.2.1,a.2.2.2.2.2.2.2.2.2.2.2.2.2.1,a.2.2.2.2.2.2.2.2.2.2.2.2.2.2.1,a.2.2.2.2.2.2.2.2.2.2.2.2.2.2.2.1,a.2.2.2.2.2.2.2.2.2.2.2.2.2.2.2.2,[])>>=λbT=>match bT with
 |.inl E=>
 some (I.eta E.2.2.2.1,E.1,E.2.1,E.2.2.2.2.2,E.2.2.1,E.2.2.2.2.1)
 |.inr v=>
 some ((⟨v.2.2.2.2.2.2.2.2.1,v.2.2.2.2.2.2.2.2.2.1,v.2.2.2.2.2.2.2.2.2.2.1,v.2.2.2.2.2.2.2.2.2.2.2.1,v.2.2.2.2.2.2.2.2.2.2.2.2.1,[],v.2.2.2.2.2.2.2.2.2.2.2.2.2.2.1,v.2.2.2.2.2.2.2.2.2.2.2.2.2.2.2⟩:I),true,v.1,v.2.1,v.2.2.1,v.2.2.2.2.2.2.2.2.2.2.2.2.2.1)
  partial_fixpoint
def C4:ai×aj×List ai×ao×Int×ao->Option (I×Bool×List ai×ao×Int×ao)
 |(c,p,b,f,j,e)=>
 mb p>>=λr=>if !(r.2.2=0:Bool) then hC (1,b,f,j,e)>>=λM=>some (I.eta M.1,M.2.1,M.2.2.1,M.2.2.2.2.2,M.2.2.2.1,M.2.2.2.2.1)else gr (c,r.1)>>=λb0=>if b0.2 then if ay b0.1 c.af.length then iQ (r.1,(c.af.getD b0.1.toNat aw).av,r.2.1,b,f,j,e)>>=λH=>some ((⟨c.Kind,false,0,[],r.1,[],[I.eta H.1],[]⟩:I),H.2.1,H.2.2.1,H.2.2.2.1,H.2.2.2.2.1,H.2.2.2.2.2)else none else if !c.Open then hC (5,b,f,j,e)>>=λD=>some (I.eta D.1,D.2.1,D.2.2.1,D.2.2.2.2.2,D.2.2.2.1,D.2.2.2.2.1)else some ((⟨c.Kind,false,0,[],r.1,[],[],[(⟨r.1,r.2.1⟩:bQ)]⟩:I),true,b,f,j,e)
  partial_fixpoint
def s5:List aj×Int×List ai×ao×Int×ai×Int×Bool×Int×aj×Int×Int×Bool×Int×aj×Int×ao×List I->Option ((Bool×List ai×ao×Int×I×ao) ⊕ (List aj×List ai×ao×Int×ai×Int×Bool×Int×aj×Int×Int×Bool×Int×aj×Int×ao×List I))
 |(an,i,g8,g9,he,bv,hk,hm,hs,ht,hu,hw,hH,h0,h1,ii,io,bD)=>
 if (i<(an.length:Int):Bool) then if ay i an.length then iQ (fB .i64 i 2,bv.Key,an.getD i.toNat [],g8,g9,he,io)>>=λq=>if !q.2.1 then some (.inl (false,q.2.2.1,q.2.2.2.1,q.2.2.2.2.1,I.eta q.1,q.2.2.2.2.2))else some [I.eta q.1]>>=λt73=>if room 120 (bD++t73).length then s5 (an,aK .i64 i 2,q.2.2.1,q.2.2.2.1,q.2.2.2.2.1,bv,hk,hm,hs,ht,hu,hw,hH,h0,h1,ii,q.2.2.2.2.2,bD++t73)else none else none else some (.inr (an,g8,g9,he,bv,hk,hm,hs,ht,hu,hw,hH,h0,h1,ii,io,bD))
  partial_fixpoint
def s6:List aj×Int×List ai×ao×Int×ai×Int×Bool×Int×aj×Int×Int×Bool×Int×aj×Int×ao×List I×List I->Option ((Bool×List ai×ao×Int×I×ao) ⊕ (List ai×ao×Int×Int×Bool×Int×aj×Int×Int×Bool×Int×aj×Int×ao×List I×List I))
 |(aE,am,ip,b3,b4,b7,ce,ci,cq,cs,cS,dt,eq,es,ex,fd,ff,fo,a0)=>
 if (am<(aE.length:Int):Bool) then if ay am aE.length then iQ (fB .i64 am 2,b7.aD,aE.getD am.toNat [],ip,b3,b4,ff)>>=λB=>if !B.2.1 then some (.inl (false,B.2.2.1,B.2.2.2.1,B.2.2.2.2.1,I.eta B.1,B.2.2.2.2.2))else some [I.eta B.1]>>=λt125=>if room 120 (a0++t125).length then s6 (aE,aK .i64 am 2,B.2.2.1,B.2.2.2.1,B.2.2.2.2.1,b7,ce,ci,cq,cs,cS,dt,eq,es,ex,fd,B.2.2.2.2.2,fo,a0++t125)else none else none else some (.inr (ip,b3,b4,ce,ci,cq,cs,cS,dt,eq,es,ex,fd,ff,fo,a0))
  partial_fixpoint
def tL:List aj×Int×Int×List ai×ao×Int×ai×Int×Bool×Int×aj×Int×Int×Bool×Int×aj×Int×ao×List I->Option ((Bool×List ai×ao×Int×I×ao) ⊕ (List ai×ao×Int×Int×Bool×Int×aj×Int×Int×Bool×Int×aj×Int×ao×List I))
 |(t38,i0,t40,fs,gc,gd,ge,gl,gs,gt,g0,g1,g2,g3,g4,g5,g6,g7,a1)=>
 if (t40<i0:Bool) then if ay t40 t38.length then iQ (t40,ge.aD,t38.getD t40.toNat [],fs,gc,gd,g7)>>=λq=>if !q.2.1 then some (.inl (false,q.2.2.1,q.2.2.2.1,q.2.2.2.2.1,I.eta q.1,q.2.2.2.2.2))else some [I.eta q.1]>>=λt60=>if room 120 (a1++t60).length then tL (t38,i0,aK .i64 t40 1,q.2.2.1,q.2.2.2.1,q.2.2.2.2.1,ge,gl,gs,gt,g0,g1,g2,g3,g4,g5,g6,q.2.2.2.2.2,a1++t60)else none else none else some (.inr (fs,gc,gd,gl,gs,gt,g0,g1,g2,g3,g4,g5,g6,g7,a1))
  partial_fixpoint
def mX:List cP×List aR×Int×Int×List ai×ao×Int×ai×Int×Bool×Int×aj×Int×Int×Bool×Int×aj×Int×ao×List I->Option ((Bool×List ai×ao×Int×I×ao) ⊕ (List cP×List ai×ao×Int×ai×Int×Bool×Int×aj×Int×Int×Bool×Int×aj×Int×ao×List I))
 |(J,t39,b2,t41,ap,ax,aC,a2,a3,a4,a5,a9,bb,be,bf,bi,br,bs,Z,ah)=>
 if (t41<b2:Bool) then if ay t41 t39.length then some (t39.getD t41.toNat aw)>>=λY=>yJ (J,(⟨Y.ad,Y.Name,Y.av,Y.b8,Y.bu,I.eta Y.bm⟩:aR))>>=λw=>if (0<=w.1:Bool) then if ay w.1 J.length then iQ (w.2.ad,w.2.av,(J.getD w.1.toNat gm).Data,ap,ax,aC,Z)>>=λG=>if !G.2.1 then some (.inl (false,G.2.2.1,G.2.2.2.1,G.2.2.2.2.1,I.eta G.1,G.2.2.2.2.2))else some [I.eta G.1]>>=λt102=>if room 120 (ah++t102).length then mX (J,t39,b2,aK .i64 t41 1,G.2.2.1,G.2.2.2.1,G.2.2.2.2.1,a2,a3,a4,a5,a9,bb,be,bf,bi,br,bs,G.2.2.2.2.2,ah++t102)else none else none else if w.2.bu then jR (I.eta w.2.bm)>>=λi2=>some [I.eta i2]>>=λt113=>if room 120 (ah++t113).length then mX (J,t39,b2,aK .i64 t41 1,ap,ax,aC,a2,a3,a4,a5,a9,bb,be,bf,bi,br,bs,Z,ah++t113)else none else some [w.2.ad]>>=λt55=>if room 8 (Z++t55).length then hC (7,ap,ax,aC,Z++t55)>>=λD=>some (di .i64 (D.2.2.2.2.1.length:Int) 1)>>=λt74=>if d' 0 t74 D.2.2.2.2.1.length then if (t74.toNat<=D.2.2.2.2.1.length:Bool) then some (.inl (false,D.2.2.1,D.2.2.2.2.2,D.2.2.2.1,I.eta D.1,D.2.2.2.2.1.take t74.toNat))else none else none else none else none else some (.inr (J,ap,ax,aC,a2,a3,a4,a5,a9,bb,be,bf,bi,br,bs,Z,ah))
  partial_fixpoint
end
theorem VJ:dD Cc zq/\dN 177 2 [2] Au s6/\dD pf iQ/\dD x9 p4/\dD Cd zs/\dN 178 2 [0] Bl mX/\dD Cb C7/\dN 176 2 [0] Ar tL/\dD Ca C4/\dN 177 2 [0] As s5:=zq.mutual_partial_correctness (dB Cc) (dM 177 2 [2] Au) (dB pf) (dB x9) (dB Cd) (dM 178 2 [0] Bl) (dB Cb) (dM 176 2 [0] Ar) (dB Ca) (dM 177 2 [0] As)
 (λ_ _ h1 c _ _ h=>dH h (.k L5 (.k rb .n)) (.k (dX As c) (.k Wm (.k (dX Au h1) .n))))
 (λ_ _ h1 a _ _ h=>dW Au h1 h (.k (b5 pf a) .n))
 (λ_ d _ _ h=>dH h (.k (b5 x9 d) .n))
 (λ_ _ _ _ _ h0 a e f g _ _ h=>dH h (.k rb (.k Yu (.k YQ (.k DY (.k (b5 pf a) (.k (b5 Ca g) (.k (b5 Cb f) (.k (b5 Cc h0) (.k (b5 Cd e) .n))))))))))
 (λ_ bf _ _ h=>dH h (.k ZE (.k rb .n)) (.k (dX Bl bf) (.k VI .n)))
 (λ_ _ a bf _ _ h=>dW Bl bf h (.k V' (.k (b5 pf a) (.k ZD (.k rb .n)))))
 (λ_ b _ _ h=>dH h (.k L5 (.k rb .n)) (.k (dX Ar b) .n))
 (λ_ _ a b _ _ h=>dW Ar b h (.k (b5 pf a) .n))
 (λ_ a _ _ h=>dH h (.k aaq (.k rb (.k l3 (.k (b5 pf a) .n)))))
 (λ_ _ a c _ _ h=>dW As c h (.k (b5 pf a) .n))
theorem VG:aX x9 p4:=b5 _ VJ.2.2.2.1
def Ip:aO×Int×aj->Option (I×iT×Int)
 |(s,t,m)=>
 pZ s>>=λr=>if !(r=0:Bool) then some ((⟨0,false,0,[],0,[],[],[]⟩:I),(⟨[],0⟩:iT),r)else if(bif (t<0:Bool)then true else ((s.Types.length:Int)<=t:Bool)) then some ((⟨0,false,0,[],0,[],[],[]⟩:I),(⟨[],0⟩:iT),4)else if (4096<(m.length:Int):Bool) then some ((⟨0,false,0,[],0,[],[],[]⟩:I),(⟨[],3⟩:iT),12)else p4 (t,m,s.Types,[],0,[])>>=λa=>if !a.2.1 then some ((⟨0,false,0,[],0,[],[],[]⟩:I),(⟨a.2.2.2.1,a.2.2.2.2.1⟩:iT),12)else some (I.eta a.1,(⟨[],0⟩:iT),0)
theorem Zr:aX SN Ip:= .bd (.k Ae (.k VG .n))
def ta:aO×Int×aj->Option (I×Int)
 |(s,t,m)=>
 Ip (s,t,m)>>=λr=>some (I.eta r.1,r.2.2)
theorem ZF:aX Cp ta:= .bd (.k Zr .n)
def vZ:aO×Int->Option Int
 |(s,t)=>
 pZ s>>=λr=>if !(r=0:Bool) then some r else if(bif (t<0:Bool)then true else ((s.Types.length:Int)<=t:Bool)) then some 4 else some 0
theorem ZG:aX SP vZ:= .bd (.k Ae .n)
def EJ(v:I):Option I:=
 if (v.Kind=1:Bool) then some (⟨v.Kind,v.bS,0,[],0,[],[],[]⟩:I)else if (v.Kind=2:Bool) then some (⟨v.Kind,false,v.bg,[],0,[],[],[]⟩:I)else if (v.Kind=3:Bool) then some (⟨v.Kind,false,0,v.bt,0,[],[],[]⟩:I)else if (v.Kind=4:Bool) then some (⟨v.Kind,false,0,[],v.ad,[],[],[]⟩:I)else if (v.Kind=5:Bool) then some (⟨v.Kind,false,0,[],0,[],v.ag,v.Rest⟩:I)else if (v.Kind=6:Bool) then some (⟨v.Kind,false,0,[],v.ad,[],v.ag,v.Rest⟩:I)else if (v.Kind=8:Bool) then some (⟨v.Kind,false,0,[],0,v.aB,v.ag,[]⟩:I)else some (decide (v.Kind=7))>>=λt57=>if t57 then if t57 then some (⟨v.Kind,false,0,[],0,[],v.ag,[]⟩:I)else some (⟨v.Kind,false,0,[],0,[],[],[]⟩:I)else if (v.Kind=9:Bool) then some (⟨v.Kind,false,0,[],0,[],v.ag,[]⟩:I)else some (⟨v.Kind,false,0,[],0,[],[],[]⟩:I)
theorem aar:aX TD EJ:= .bd
def DB(v:I):Option Bool:=
 EJ (I.eta v)>>=λr=>some (bif bif bif bif bif bif fy v.bS r.bS then decide (v.bg=r.bg)else false then decide (v.bt=r.bt)else false then decide (v.ad=r.ad)else false then decide ((v.aB.length:Int)=(r.aB.length:Int))else false then decide ((v.ag.length:Int)=(r.ag.length:Int))else false then decide ((v.Rest.length:Int)=(r.Rest.length:Int))else false)
theorem Zc:aX Ti DB:= .bd (.k aar .n)
def zJ(id:Int):Option Bool:=
 some (bif decide (1<=id)then decide (id<=1000)else false)
theorem LI:aX Tj zJ:= .bd
def lu:Bool×List bQ×Int×Int×List ai×I×Int×aj×Int×Int×Int×List c1×List aR×Int×Int×Bool->Option ((Bool) ⊕ (Bool×List ai×Int×Bool×Int×aj×Int×List I×List I×List bQ×Int×aj×Int×Int×Int×List c1×List aR×Int×Int×Bool))
 |(o,t111,q,t113,n,a,b,c,d,e,f,g,i,j,k,l)=>
 if (t113<q:Bool) then if ay t113 t111.length then some (t111.getD t113.toNat bP)>>=λm=>gr ((⟨b,c,d,e,f,g,i,j,k,l⟩:ai),m.ad)>>=λp=>(if !p.2 then zJ m.ad else some false)>>=λr=>some (bif p.2 then true else(!r))>>=λt131=>some (decide (0<t113))>>=λt134=>some (di .i64 t113 1)>>=λt141=>if(ay t141 a.Rest.length||(!((!t131)&&t134))) then if(bif t131 then true else bif t134 then (m.ad<=(a.Rest.getD t141.toNat bP).ad:Bool)else false) then some (.inl false)else lu (o,t111,q,aK .i64 t113 1,n,I.eta a,b,c,d,e,f,g,i,j,k,l)else none else none else some (.inr (o,n,a.Kind,a.bS,a.bg,a.bt,a.ad,a.aB,a.ag,a.Rest,b,c,d,e,f,g,i,j,k,l))
  partial_fixpoint
theorem ZH:cG 164 0 [0] Rk lu:= .rx lu.partial_correctness (.k l3 (.k LI .n))
def l6:Bool×Int×List ai×I×Int×aj×Int×Int×Int×List c1×List aR×Int×Int×Bool->Option ((Bool) ⊕ (Bool×List ai×I×Int×aj×Int×Int×Int×List c1×List aR×Int×Int×Bool))
 |(o,i,b,a,c,d,e,f,g,j,k,l,m,n)=>
 if (i<(a.aB.length:Int):Bool) then some (di .i64 i 1)>>=λt291=>if ay t291 a.aB.length then if ay i a.aB.length then pT (I.eta (a.aB.getD t291.toNat ar),I.eta (a.aB.getD i.toNat ar))>>=λp=>if (0<=p:Bool) then some (.inl false)else l6 (o,aK .i64 i 1,b,I.eta a,c,d,e,f,g,j,k,l,m,n)else none else none else some (.inr (o,b,I.eta a,c,d,e,f,g,j,k,l,m,n))
  partial_fixpoint
theorem ZI:cG 164 0 [2] Rl l6:= .rx l6.partial_correctness (.k K3 .n)
mutual
def C9:List I×List ai×Int×Bool->Option (Bool×List ai×Int×Bool)
 |(s,b,f,j)=>
 Hh (s,b,f,j)>>=λr=>some (decide (0<=r.1),r.2.1,r.2.2.1,r.2.2.2)
  partial_fixpoint
def Hh(e:List I×List ai×Int×Bool):Option (Int×List ai×Int×Bool):=
 match e with
 |(s,b,f,j)=>
 rB (s,(s.length:Int),0,b,f,j)>>=λo=>match o with
 |.inl p=>
 some (p.1,p.2.1,p.2.2.1,p.2.2.2)
 |.inr c=>
 some ((-1),c.1,c.2.1,c.2.2)
  partial_fixpoint
def r4:aO×Int×List I×Bool->Option Bool
 |(s,t,l,plain)=>
 C9 (l,s.Types,t,plain)>>=λr=>some (!r.1)
  partial_fixpoint
def IT:I×List ai×Int×Bool->Option (Bool×List ai×Int×Bool)
 |(v,b,f,j)=>
 kn ((⟨b⟩:aO),f,I.eta v,j)>>=λr=>some ((!r),b,f,j)
  partial_fixpoint
def kn(e:aO×Int×I×Bool):Option Bool:=
 match e with
 |(s,t,v,plain)=>
 if(bif (t<0:Bool)then true else ((s.Types.length:Int)<=t:Bool)) then some false else if ay t s.Types.length then some (s.Types.getD t.toNat aG)>>=λa=>some (!(decide (v.Kind=a.Kind)))>>=λt39=>(if !t39 then DB (I.eta v)else some false)>>=λr=>if(bif t39 then true else(!r)) then some false else if (a.Kind=2:Bool) then some (bif decide (a.bJ<=v.bg)then decide (v.bg<=a.bN)else false)else if (a.Kind=3:Bool) then some (decide ((v.bt.length:Int)<=a.Max))else if (a.Kind=4:Bool) then s9 (a,v.ad)>>=λG=>some (bif a.Open then(!plain)else false)>>=λt85=>(if((!G.2)&&t85) then zJ v.ad else some false)>>=λan=>some (bif G.2 then true else bif t85 then an else false)else if (a.Kind=5:Bool) then if(bif (!((v.ag.length:Int)=(a.af.length:Int):Bool))then true else bif plain then (0<(v.Rest.length:Int):Bool)else false) then some false else lu (plain,v.Rest,(v.Rest.length:Int),0,s.Types,I.eta v,a.Kind,a.Name,a.bJ,a.bN,a.Max,a.bj,a.af,a.Key,a.aD,a.Open)>>=λo=>match o with
 |.inl p=>
 some p
 |.inr c=>
 pU (c.1,c.2.2.2.2.2.2.2.2.2.2.2.2.2.2.2.2.1,(c.2.2.2.2.2.2.2.2.2.2.2.2.2.2.2.2.1.length:Int),0,c.2.1,c.2.2.1,c.2.2.2.1,c.2.2.2.2.1,c.2.2.2.2.2.1,c.2.2.2.2.2.2.1,c.2.2.2.2.2.2.2.1,c.2.2.2.2.2.2.2.2.1,c.2.2.2.2.2.2.2.2.2.1)>>=λR=>match R with
 |.inl S=>
 some S
 |.inr aC=>
 some true else if (a.Kind=6:Bool) then gr (a,v.ad)>>=λx=>if x.2 then some (bif decide ((v.ag.length:Int)=1)then decide ((v.Rest.length:Int)=0)else false)>>=λt188=>if(ay x.1 a.af.length||(!t188)) then if(ay 0 v.ag.length||(!t188)) then (if t188 then kn ((⟨s.Types⟩:aO),(a.af.getD x.1.toNat aw).av,I.eta (v.ag.getD (0:Int).toNat ar),plain)else some false)>>=λap=>some (bif t188 then ap else false)else none else none else some (bif a.Open then(!plain)else false)>>=λt209=>(if t209 then zJ v.ad else some false)>>=λax=>some (bif bif bif t209 then ax else false then decide ((v.ag.length:Int)=0)else false then decide ((v.Rest.length:Int)=1)else false)>>=λt226=>if(ay 0 v.Rest.length||(!t226)) then some (bif t226 then decide ((v.Rest.getD (0:Int).toNat bP).ad=v.ad)else false)else none else if (a.Kind=7:Bool) then some (decide ((v.ag.length:Int)<=a.Max))>>=λt244=>(if t244 then r4 ((⟨s.Types⟩:aO),a.aD,v.ag,plain)else some false)>>=λX=>some (bif t244 then X else false)else if (a.Kind=8:Bool) then some (bif decide (a.Max<(v.aB.length:Int))then true else(!(decide ((v.ag.length:Int)=(v.aB.length:Int)))))>>=λt270=>(if !t270 then r4 ((⟨s.Types⟩:aO),a.Key,v.aB,plain)else some false)>>=λY=>if(bif t270 then true else(!Y)) then some false else l6 (plain,1,s.Types,I.eta v,a.Kind,a.Name,a.bJ,a.bN,a.Max,a.bj,a.af,a.Key,a.aD,a.Open)>>=λU=>match U with
 |.inl W=>
 some W
 |.inr q=>
 r4 ((⟨q.2.1⟩:aO),q.2.2.2.2.2.2.2.2.2.2.2.1,q.2.2.1.ag,q.1)>>=λZ=>some Z else if (a.Kind=9:Bool) then some (decide ((v.ag.length:Int)<=1))>>=λt313=>(if t313 then r4 ((⟨s.Types⟩:aO),a.aD,v.ag,plain)else some false)>>=λah=>some (bif t313 then ah else false)else some true else none
  partial_fixpoint
def rB:List I×Int×Int×List ai×Int×Bool->Option ((Int×List ai×Int×Bool) ⊕ (List ai×Int×Bool))
 |(y,J,t8,E,A,B)=>
 if (t8<J:Bool) then if ay t8 y.length then IT (I.eta (y.getD t8.toNat ar),E,A,B)>>=λr=>if r.1 then some (.inl (t8,r.2.1,r.2.2.1,r.2.2.2))else rB (y,J,aK .i64 t8 1,r.2.1,r.2.2.1,r.2.2.2)else none else some (.inr (E,A,B))
  partial_fixpoint
def pU:Bool×List aR×Int×Int×List ai×Int×Bool×Int×aj×Int×List I×List I×List bQ->Option ((Bool) ⊕ (Unit))
 |(F,t150,H,t152,D,K,L,M,N,O,P,w,Q)=>
 if (t152<H:Bool) then if ay t152 t150.length then if ay t152 w.length then kn ((⟨D⟩:aO),(t150.getD t152.toNat aw).av,I.eta (w.getD t152.toNat ar),F)>>=λam=>if !am then some (.inl false)else pU (F,t150,H,aK .i64 t152 1,D,K,L,M,N,O,P,w,Q)else none else none else some (.inr ())
  partial_fixpoint
end
theorem Vy:dD EZ C9/\dD EY Hh/\dN 207 3 [0] A3 rB/\dD Ck IT/\dD sS kn/\dD Cj r4/\dN 164 0 [1] Bn pU:=C9.mutual_partial_correctness (dB EZ) (dB EY) (dM 207 3 [0] A3) (dB Ck) (dB sS) (dB Cj) (dM 164 0 [1] Bn)
 (λ_ h1 _ _ h=>dH h (.k (b5 EY h1) .n))
 (λ_ b _ _ h=>dH h .n (.k (dX A3 b) .n))
 (λ_ _ b d _ _ h=>dW A3 b h (.k (b5 Ck d) .n))
 (λ_ a _ _ h=>dH h (.k (b5 sS a) .n))
 (λ_ _ _ a bf c _ _ h=>dH h (.k Zc (.k DY (.k LI (.k l3 (.k (b5 sS a) (.k (b5 Cj bf) .n)))))) (.k ZH (.k (dX Bn c) (.k ZI .n))))
 (λ_ h0 _ _ h=>dH h (.k (b5 EZ h0) .n))
 (λ_ _ a c _ _ h=>dW Bn c h (.k (b5 sS a) .n))
theorem LJ:aX sS kn:=b5 _ Vy.2.2.2.2.1
def p2:aO×Int×I->Option Bool
 |(s,t,v)=>
 kn ((⟨s.Types⟩:aO),t,I.eta v,false)>>=λr=>some r
theorem LK:aX SQ p2:= .bd (.k LJ .n)
def tb:aO×Int×I->Option Int
 |(s,t,v)=>
 vZ (s,t)>>=λr=>if !(r=0:Bool) then some r else p2 (s,t,I.eta v)>>=λa=>if !a then some 1 else some 0
theorem K4:aX Uh tb:= .bd (.k ZG (.k LK .n))
def lx:ai×I->Option Bool
 |(a,v)=>
 if !(a.Kind=4:Bool) then some false else s9 (a,v.ad)>>=λr=>some (!r.2)
theorem DZ:aX SR lx:= .bd (.k DY .n)
def DC:I×List ai×ai->Option (Bool×List ai×ai)
 |(k,b,a)=>
 if ay a.Key b.length then lx (b.getD a.Key.toNat aG,I.eta k)>>=λr=>some (r,b,a)else none
theorem Zd:aX S3 DC:= .bd (.k DZ .n)
def po:List I×Int×Int×List ai×ai->Option ((Int×List ai×ai) ⊕ (List ai×ai))
 |(a,d,t8,b,c)=>
 if (t8<d:Bool) then if ay t8 a.length then DC (I.eta (a.getD t8.toNat ar),b,c)>>=λr=>if r.1 then some (.inl (t8,r.2.1,r.2.2))else po (a,d,aK .i64 t8 1,r.2.1,r.2.2)else none else some (.inr (b,c))
  partial_fixpoint
theorem Vz:cG 207 2 [0] OM po:= .rx po.partial_correctness (.k Zd .n)
def Hg(e:List I×List ai×ai):Option (Int×List ai×ai):=
 match e with
 |(s,b,d)=>
 po (s,(s.length:Int),0,b,d)>>=λo=>match o with
 |.inl a=>
 some (a.1,a.2.1,a.2.2)
 |.inr c=>
 some ((-1),c.1,c.2)
theorem V8:aX Rm Hg:= .bd .n (.k Vz .n)
def Hi:List I×List ai×ai->Option (Bool×List ai×ai)
 |(s,b,a)=>
 Hg (s,b,a)>>=λr=>some (decide (0<=r.1),r.2.1,r.2.2)
theorem V4:aX Rn Hi:= .bd (.k V8 .n)
def xi:aO×ai×I->Option Bool
 |(s,a,v)=>
 Hi (v.aB,s.Types,a)>>=λr=>some r.1
theorem IU:aX SS xi:= .bd (.k V4 .n)
def oE:Int×Int×ai×I×List h3->Option (List h3)
 |(d,t12,a,c,b)=>
 if (t12<d:Bool) then if (a.Kind=5:Bool) then if ay t12 a.af.length then if ay t12 a.af.length then some [(⟨(a.af.getD t12.toNat aw).av,(a.af.getD t12.toNat aw).ad⟩:h3)]>>=λt40=>if room 16 (b++t40).length then oE (d,aK .i64 t12 1,a,I.eta c,b++t40)else none else none else none else if (a.Kind=6:Bool) then gr (a,c.ad)>>=λr=>if ay r.1 a.af.length then some [(⟨(a.af.getD r.1.toNat aw).av,c.ad⟩:h3)]>>=λt61=>if room 16 (b++t61).length then oE (d,aK .i64 t12 1,a,I.eta c,b++t61)else none else none else some [(⟨a.aD,t12⟩:h3)]>>=λt22=>if room 16 (b++t22).length then oE (d,aK .i64 t12 1,a,I.eta c,b++t22)else none else some b
  partial_fixpoint
theorem Yv:cG 133 0 [0] Ro oE:= .rx oE.partial_correctness (.k l3 .n)
def rZ:ai×I->Option (List h3)
 |(a,v)=>
 oE ((v.ag.length:Int),0,a,I.eta v,[])>>=λo=>some o
theorem Hr:aX SU rZ:= .bd .n (.k Yv .n)
mutual
def l'(p:aO×Int×I):Option (I×Bool):=
 match p with
 |(s,t,v)=>
 if ay t s.Types.length then some (s.Types.getD t.toNat aG)>>=λe=>lx (e,I.eta v)>>=λr=>(if !r then xi (s,e,I.eta v)else some false)>>=λN=>if(bif bif r then true else N then true else bif (e.Kind=6:Bool)then ((v.ag.length:Int)=0:Bool)else false) then some ((⟨0,false,0,[],0,[],[],[]⟩:I),false)else eO 120 v.aB>>=λO=>rZ (e,I.eta v)>>=λK=>q1 (K,(K.length:Int),0,s.Types,I.eta v,0,false,0,[],0,v.Kind,v.bS,v.bg,v.bt,v.ad,O,[])>>=λo=>match o with
 |.inl c=>
 some ((⟨c.2.1,c.2.2.1,c.2.2.2.1,c.2.2.2.2.1,c.2.2.2.2.2,[],[],[]⟩:I),c.1)
 |.inr a=>
 some ((⟨a.2.2.2.2.2.1,a.2.2.2.2.2.2.1,a.2.2.2.2.2.2.2.1,a.2.2.2.2.2.2.2.2.1,a.2.2.2.2.2.2.2.2.2.1,a.2.2.2.2.2.2.2.2.2.2.1,a.2.2.2.2.2.2.2.2.2.2.2,[]⟩:I),true)else none
  partial_fixpoint
def q1:List h3×Int×Int×List ai×I×Int×Bool×Int×aj×Int×Int×Bool×Int×aj×Int×List I×List I->Option ((Bool×Int×Bool×Int×aj×Int) ⊕ (Int×Bool×Int×aj×Int×Int×Bool×Int×aj×Int×List I×List I))
 |(t49,M,t51,q,f,w,x,y,A,B,D,E,F,G,H,J,j)=>
 if (t51<M:Bool) then if ay t51 t49.length then if ay t51 f.ag.length then l' ((⟨q⟩:aO),(t49.getD t51.toNat zH).t,I.eta (f.ag.getD t51.toNat ar))>>=λL=>if !L.2 then some (.inl (false,0,false,0,[],0))else some [I.eta L.1]>>=λt74=>if room 120 (j++t74).length then q1 (t49,M,aK .i64 t51 1,q,I.eta f,w,x,y,A,B,D,E,F,G,H,J,j++t74)else none else none else none else some (.inr (w,x,y,A,B,D,E,F,G,H,J,j))
  partial_fixpoint
end
theorem ZJ:dD x' l'/\dN 141 0 [0] Bo q1:=l'.mutual_partial_correctness (dB x') (dM 141 0 [0] Bo)
 (λ_ h1 _ _ h=>dH h (.k DZ (.k IU (.k od (.k Hr .n)))) (.k (dX Bo h1) .n))
 (λ_ _ h0 h1 _ _ h=>dW Bo h1 h (.k (b5 x' h0) .n))
theorem YV:aX x' l':=b5 _ ZJ.1
def wg:aO×Int×I->Option (I×Int)
 |(s,t,v)=>
 tb (s,t,I.eta v)>>=λr=>if !(r=0:Bool) then some ((⟨0,false,0,[],0,[],[],[]⟩:I),r)else l' (s,t,I.eta v)>>=λa=>if !a.2 then some ((⟨0,false,0,[],0,[],[],[]⟩:I),12)else some (I.eta a.1,0)
theorem YW:aX B7 wg:= .bd (.k K4 (.k YV .n))
def Af:aO×Int->Option Int
 |(s,t)=>
 pZ s>>=λr=>if !(r=0:Bool) then some r else if(bif (t<0:Bool)then true else ((s.Types.length:Int)<=t:Bool)) then some 4 else some 0
theorem Yw:aX S' Af:= .bd (.k Ae .n)
def Iq:aO×Int×I->Option Bool
 |(s,t,v)=>
 kn (s,t,I.eta v,true)>>=λr=>some r
theorem YX:aX Ta Iq:= .bd (.k LJ .n)
def Dv:aO×Int×I×aO×Int->Option Int
 |(w,wt,v,r,rt)=>
 Af (w,wt)>>=λa=>if !(a=0:Bool) then some a else Af (r,rt)>>=λb=>if !(b=0:Bool) then some b else Iq (w,wt,I.eta v)>>=λc=>if !c then some 1 else some 0
theorem ZK:aX S0 Dv:= .bd (.k Yw (.k YX .n))
def tj:List ai×List ai×ao×ao->Option (I×Bool×List ai×List ai×ao×ao)
 |(b,c,e,a)=>
 ud 8 a>>=λr=>if((r.1.length=a.length:Bool)&&true) then some ((⟨0,false,0,[],0,[],[],[]⟩:I),false,b,c,r.1,r.2)else none
theorem Lf:aX Tb tj:= .bd (.k n9 .n)
def wo:Int×List ai×List ai×ao×ao->Option (I×Bool×List ai×List ai×ao×ao)
 |(id,b,c,e,a)=>
 ud 8 a>>=λr=>if((r.1.length=a.length:Bool)&&true) then some [id]>>=λt13=>if room 8 (r.2++t13).length then some ((⟨0,false,0,[],0,[],[],[]⟩:I),false,b,c,r.1,r.2++t13)else none else none
theorem Vp:aX Tx wo:= .bd (.k n9 .n)
mutual
def km(v:I):Option I:=
 eO 120 v.aB>>=λr=>eO 120 v.ag>>=λX=>eO 24 v.Rest>>=λY=>tk ((r.length:Int),0,v.Kind,v.bS,v.bg,v.bt,v.ad,0,false,0,[],0,r,X,Y)>>=λo=>tl ((o.2.2.2.2.2.2.2.2.2.2.2.1.length:Int),0,o.1,o.2.1,o.2.2.1,o.2.2.2.1,o.2.2.2.2.1,o.2.2.2.2.2.1,o.2.2.2.2.2.2.1,o.2.2.2.2.2.2.2.1,o.2.2.2.2.2.2.2.2.1,o.2.2.2.2.2.2.2.2.2.1,o.2.2.2.2.2.2.2.2.2.2.2.1,o.2.2.2.2.2.2.2.2.2.2.1,o.2.2.2.2.2.2.2.2.2.2.2.2)>>=λa=>some (⟨a.1,a.2.1,a.2.2.1,a.2.2.2.1,a.2.2.2.2.1,a.2.2.2.2.2.2.2.2.2.2.1,a.2.2.2.2.2.2.2.2.2.2.2.1,a.2.2.2.2.2.2.2.2.2.2.2.2⟩:I)
  partial_fixpoint
def tk:Int×Int×Int×Bool×Int×aj×Int×Int×Bool×Int×aj×Int×List I×List I×List bQ->Option (Int×Bool×Int×aj×Int×Int×Bool×Int×aj×Int×List I×List I×List bQ)
 |(U,t22,j,p,q,t,w,x,y,A,B,D,c,E,F)=>
 if (t22<U:Bool) then if ay t22 c.length then if (t22.toNat<c.length:Bool) then km (I.eta (c.getD t22.toNat ar))>>=λZ=>if ay t22 c.length then if (t22.toNat<c.length:Bool) then tk (U,aK .i64 t22 1,j,p,q,t,w,x,y,A,B,D,c.set t22.toNat (I.eta Z),E,F)else none else none else none else none else some (j,p,q,t,w,x,y,A,B,D,c,E,F)
  partial_fixpoint
def tl:Int×Int×Int×Bool×Int×aj×Int×Int×Bool×Int×aj×Int×List I×List I×List bQ->Option (Int×Bool×Int×aj×Int×Int×Bool×Int×aj×Int×List I×List I×List bQ)
 |(W,t37,G,H,J,K,L,M,N,O,P,Q,e,R,S)=>
 if (t37<W:Bool) then if ay t37 e.length then if (t37.toNat<e.length:Bool) then km (I.eta (e.getD t37.toNat ar))>>=λah=>if ay t37 e.length then if (t37.toNat<e.length:Bool) then tl (W,aK .i64 t37 1,G,H,J,K,L,M,N,O,P,Q,e.set t37.toNat (I.eta ah),R,S)else none else none else none else none else some (G,H,J,K,L,M,N,O,P,Q,R,e,S)
  partial_fixpoint
end
theorem Xi:dD vr km/\dN 219 0 [1] Bq tl/\dN 219 0 [0] Bp tk:=km.mutual_partial_correctness (dB vr) (dM 219 0 [1] Bq) (dM 219 0 [0] Bp)
 (λ_ _ h1 a _ _ h=>dH h (.k od (.k pF .n)) (.k (dX Bp a) (.k (dX Bq h1) .n)))
 (λ_ _ h0 h1 _ _ h=>dW Bq h1 h (.k (b5 vr h0) .n))
 (λ_ _ h0 a _ _ h=>dW Bp a h (.k (b5 vr h0) .n))
theorem Yx:aX vr km:=b5 _ Xi.1
mutual
def vJ(c:List I×List I):Option Bool:=
 match c with
 |(s1,f)=>
 if !((s1.length:Int)=(f.length:Int):Bool) then some false else vH (f,s1,(s1.length:Int),0)>>=λo=>match o with
 |.inl p=>
 some p
 |.inr v=>
 some true
  partial_fixpoint
def nq:I×I->Option Bool
 |(a,b)=>
 some (bif bif bif bif decide (a.Kind=b.Kind)then fy a.bS b.bS else false then decide (a.bg=b.bg)else false then decide (a.bt=b.bt)else false then decide (a.ad=b.ad)else false)>>=λt37=>(if t37 then zk (a.Rest,b.Rest)else some false)>>=λr=>some (bif t37 then r else false)>>=λt44=>(if t44 then vJ (a.aB,b.aB)else some false)>>=λq=>some (bif t44 then q else false)>>=λt51=>(if t51 then vJ (a.ag,b.ag)else some false)>>=λt=>some (bif t51 then t else false)
  partial_fixpoint
def vH:List I×List I×Int×Int->Option ((Bool) ⊕ (Unit))
 |(e,t15,j,t17)=>
 if (t17<j:Bool) then if ay t17 t15.length then if ay t17 e.length then nq (I.eta (t15.getD t17.toNat ar),I.eta (e.getD t17.toNat ar))>>=λr=>if !r then some (.inl false)else vH (e,t15,j,aK .i64 t17 1)else none else none else some (.inr ())
  partial_fixpoint
end
theorem Vv:dD E0 vJ/\dN 104 0 [0] A4 vH/\dD ym nq:=vJ.mutual_partial_correctness (dB E0) (dM 104 0 [0] A4) (dB ym)
 (λ_ h1 _ _ h=>dH h .n (.k (dX A4 h1) .n))
 (λ_ _ h1 a _ _ h=>dW A4 h1 h (.k (b5 ym a) .n))
 (λ_ h0 _ _ h=>dH h (.k Vj (.k (b5 E0 h0) .n)))
theorem Hs:aX ym nq:=b5 _ Vv.2.2
def tm:aR×I->Option Bool
 |(m,item)=>
 (if m.bu then nq (I.eta item,I.eta m.bm)else some false)>>=λr=>some (bif m.bu then r else false)
theorem HX:aX Ty tm:= .bd (.k Hs .n)
def HL:aO×Int->Option Int
 |(s,t)=>
 pZ (⟨s.Types⟩:aO)>>=λr=>if !(r=0:Bool) then some r else if(bif (t<0:Bool)then true else ((s.Types.length:Int)<=t:Bool)) then some 4 else some 0
theorem X6:aX Tc HL:= .bd (.k Ae .n)
def tG:aO×Int×I->Option Int
 |(s,t,v)=>
 HL ((⟨s.Types⟩:aO),t)>>=λr=>if !(r=0:Bool) then some r else p2 ((⟨s.Types⟩:aO),t,I.eta v)>>=λa=>if !a then some 1 else some 0
theorem X7:aX S1 tG:= .bd (.k X6 (.k LK .n))
def tc:Int×Int×ao->Option (Int×Int×ao)
 |(b,a,c)=>
 if (128<=b:Bool) then if ay a 10 then if (a.toNat<c.length:Bool) then tc (lO .u64 b 7,aK .i64 a 1,c.set a.toNat (sd .u8 (bY .u8 b) 128))else none else none else some (b,a,c)
  partial_fixpoint
theorem ZL:cG 228 0 [0] Rp tc:= .rx tc.partial_correctness
end
end Go.Proofs.YtdjagncoefjfeaaGreat
