/- The functions of the program as functions of Lean, that its code does what they say, and what they answer; part A. -/
import Derived.Test.YtdjagncoefjfeaaGreatProg
import Derived.KernelRfl
import Derived.Shelf.SlGeneric
import Derived.Shelf.SlLaysF0
import Derived.Shelf.SlSortCmp.WholeK
import Derived.Lib.Small
import Derived.Test.YtdjagncoefjfeaaGreatCtLD

namespace Go.Proofs.YtdjagncoefjfeaaGreat
set_option linter.all false
section
open Go Go.Proofs.YtdjagncoefjfeaaGreat.Shv
open Tryz
set_option maxRecDepth 100000
structure lR where
 ad:Int
 aw:Int
 ha:Int
structure du where
 Kind:Int
 A:Int
 B:Int
 C:Int
 c0:List lR
structure ej where
 dI:List du
structure lf where
 S:ej
 T:Int
 C:ar
structure iY where
 Kind:Int
 Node:Int
 A:Int
 B:Int
structure mN where
 D:lf
 L:List iY
structure nN where
 C:mN
 xy:Bool
structure c3 where
 ad:Int
 Name:ak
structure bW where
 ad:Int
 Data:ak
structure I where
 Kind:Int
 bN:Bool
 bc:Int
 bl:ak
 ad:Int
 ay:List I
 aj:List I
 Rest:List bW
structure aU where
 ad:Int
 Name:ak
 aw:Int
 ch:Bool
 bU:Bool
 bA:I
structure ai where
 Kind:Int
 Name:ak
 bE:Int
 bH:Int
 Max:Int
 bh:List c3
 ah:List aU
 Key:Int
 aF:Int
 Open:Bool
structure aT where
 Types:List ai
structure cD where
 cW:aT
 aw:Int
structure cT where
 ad:Int
 ch:Bool
 Data:ak
structure iQ where
 Path:ar
 Reason:Int
structure iE where
 t:Int
 number:Int
structure gv where
 id:Int
 text:ak
structure eP where
 v:I
 u:I
 message:ak
structure cV where
 Value:I
 dQ:iQ
 ck:Bool
structure dJ where
 Value:I
 Path:ar
 ck:Bool
structure kF where
 V:I
 U:I
 Message:ak
structure tf where
 qx:List iY
 ft:List iY
abbrev GF:Nat:=0
abbrev Uh:Nat:=1
abbrev Ws:Nat:=2
abbrev vx:Nat:=4
abbrev CE:Nat:=5
abbrev C6:Nat:=6
abbrev Is:Nat:=22
def iP:lR:=⟨0,0,0⟩
def bu:du:=⟨0,0,0,0,[]⟩
def Ui:ej:=⟨[]⟩
def Uj:lf:=⟨Ui,0,[]⟩
def nG:iY:=⟨0,0,0,0⟩
def TK:mN:=⟨Uj,[]⟩
def Xg:nN:=⟨TK,false⟩
def dK:c3:=⟨0,[]⟩
def bV:bW:=⟨0,[]⟩
def av:I:=⟨0,false,0,[],0,[],[],[]⟩
def aC:aU:=⟨0,[],0,false,false,av⟩
def aK:ai:=⟨0,[],0,0,0,[],[],0,0,false⟩
def MI:aT:=⟨[]⟩
def lv:cD:=⟨MI,0⟩
def gk:cT:=⟨0,false,[]⟩
def LH:iQ:=⟨[],0⟩
def It:iE:=⟨0,0⟩
def wx:gv:=⟨0,[]⟩
def XC:eP:=⟨av,av,[]⟩
def Wt:cV:=⟨av,LH,false⟩
def Wu:dJ:=⟨av,[],false⟩
def Wv:kF:=⟨av,av,[]⟩
def abJ:tf:=⟨[],[]⟩
def dB:Nat->Type
 |0=>nN
 |1=>mN
 |2=>lf
 |3=>ej
 |4=>du
 |5=>lR
 |6=>iY
 |7=>ai
 |8=>c3
 |9=>aU
 |10=>I
 |11=>bW
 |12=>aT
 |13=>cD
 |14=>cT
 |15=>iQ
 |16=>iE
 |17=>gv
 |18=>eP
 |19=>cV
 |20=>dJ
 |21=>kF
 |22=>tf
 |_=>Bool
def eb:Nat->List aL
 |0=>[.slice (.nm 4),.int .u8,.slice (.int .u8),.slice (.nm 6),.bool]
 |1=>[.slice (.nm 4),.int .u8,.slice (.int .u8),.slice (.nm 6)]
 |2=>[.slice (.nm 4),.int .u8,.slice (.int .u8)]
 |3=>[.slice (.nm 4)]
 |4=>[.int .u8,.int .u8,.int .u8,.int .u8,.slice (.nm 5)]
 |5=>[.int .u8,.int .u8,.int .u8]
 |6=>[.int .u8,.int .u8,.int .u8,.int .u8]
 |7=>[.int .i64,.str,.int .i64,.int .i64,.int .i64,.slice (.nm 8),.slice (.nm 9),.int .i64,.int .i64,.bool]
 |8=>[.int .i64,.str]
 |9=>[.int .i64,.str,.int .i64,.bool,.bool,.int .i64,.bool,.int .i64,.str,.int .i64,.slice (.nm 10),.slice (.nm 10),.slice (.nm 11)]
 |10=>[.int .i64,.bool,.int .i64,.str,.int .i64,.slice (.nm 10),.slice (.nm 10),.slice (.nm 11)]
 |11=>[.int .i64,.str]
 |12=>[.slice (.nm 7)]
 |13=>[.slice (.nm 7),.int .i64]
 |14=>[.int .i64,.bool,.str]
 |15=>[.slice (.int .i64),.int .i64]
 |16=>[.int .i64,.int .i64]
 |17=>[.int .i64,.str]
 |18=>[.int .i64,.bool,.int .i64,.str,.int .i64,.slice (.nm 10),.slice (.nm 10),.slice (.nm 11),.int .i64,.bool,.int .i64,.str,.int .i64,.slice (.nm 10),.slice (.nm 10),.slice (.nm 11),.str]
 |19=>[.int .i64,.bool,.int .i64,.str,.int .i64,.slice (.nm 10),.slice (.nm 10),.slice (.nm 11),.slice (.int .i64),.int .i64,.bool]
 |20=>[.int .i64,.bool,.int .i64,.str,.int .i64,.slice (.nm 10),.slice (.nm 10),.slice (.nm 11),.slice (.int .i64),.bool]
 |21=>[.int .i64,.bool,.int .i64,.str,.int .i64,.slice (.nm 10),.slice (.nm 10),.slice (.nm 11),.int .i64,.bool,.int .i64,.str,.int .i64,.slice (.nm 10),.slice (.nm 10),.slice (.nm 11),.str]
 |22=>[.slice (.nm 6),.slice (.nm 6)]
 |_=>[.bool]
def air:(n:Nat)->dB n->List (Cell dB)
 |0,(x:nN)=>[⟨.slice (.nm 4),x.C.D.S.dI⟩,⟨.int .u8,x.C.D.T⟩,⟨.slice (.int .u8),x.C.D.C⟩,⟨.slice (.nm 6),x.C.L⟩,⟨.bool,x.xy⟩]
 |1,(x:mN)=>[⟨.slice (.nm 4),x.D.S.dI⟩,⟨.int .u8,x.D.T⟩,⟨.slice (.int .u8),x.D.C⟩,⟨.slice (.nm 6),x.L⟩]
 |2,(x:lf)=>[⟨.slice (.nm 4),x.S.dI⟩,⟨.int .u8,x.T⟩,⟨.slice (.int .u8),x.C⟩]
 |3,(x:ej)=>[⟨.slice (.nm 4),x.dI⟩]
 |4,(x:du)=>[⟨.int .u8,x.Kind⟩,⟨.int .u8,x.A⟩,⟨.int .u8,x.B⟩,⟨.int .u8,x.C⟩,⟨.slice (.nm 5),x.c0⟩]
 |5,(x:lR)=>[⟨.int .u8,x.ad⟩,⟨.int .u8,x.aw⟩,⟨.int .u8,x.ha⟩]
 |6,(x:iY)=>[⟨.int .u8,x.Kind⟩,⟨.int .u8,x.Node⟩,⟨.int .u8,x.A⟩,⟨.int .u8,x.B⟩]
 |7,(x:ai)=>[⟨.int .i64,x.Kind⟩,⟨.str,x.Name⟩,⟨.int .i64,x.bE⟩,⟨.int .i64,x.bH⟩,⟨.int .i64,x.Max⟩,⟨.slice (.nm 8),x.bh⟩,⟨.slice (.nm 9),x.ah⟩,⟨.int .i64,x.Key⟩,⟨.int .i64,x.aF⟩,⟨.bool,x.Open⟩]
 |8,(x:c3)=>[⟨.int .i64,x.ad⟩,⟨.str,x.Name⟩]
 |9,(x:aU)=>[⟨.int .i64,x.ad⟩,⟨.str,x.Name⟩,⟨.int .i64,x.aw⟩,⟨.bool,x.ch⟩,⟨.bool,x.bU⟩,⟨.int .i64,x.bA.Kind⟩,⟨.bool,x.bA.bN⟩,⟨.int .i64,x.bA.bc⟩,⟨.str,x.bA.bl⟩,⟨.int .i64,x.bA.ad⟩,⟨.slice (.nm 10),x.bA.ay⟩,⟨.slice (.nm 10),x.bA.aj⟩,⟨.slice (.nm 11),x.bA.Rest⟩]
 |10,(x:I)=>[⟨.int .i64,x.Kind⟩,⟨.bool,x.bN⟩,⟨.int .i64,x.bc⟩,⟨.str,x.bl⟩,⟨.int .i64,x.ad⟩,⟨.slice (.nm 10),x.ay⟩,⟨.slice (.nm 10),x.aj⟩,⟨.slice (.nm 11),x.Rest⟩]
 |11,(x:bW)=>[⟨.int .i64,x.ad⟩,⟨.str,x.Data⟩]
 |12,(x:aT)=>[⟨.slice (.nm 7),x.Types⟩]
 |13,(x:cD)=>[⟨.slice (.nm 7),x.cW.Types⟩,⟨.int .i64,x.aw⟩]
 |14,(x:cT)=>[⟨.int .i64,x.ad⟩,⟨.bool,x.ch⟩,⟨.str,x.Data⟩]
 |15,(x:iQ)=>[⟨.slice (.int .i64),x.Path⟩,⟨.int .i64,x.Reason⟩]
 |16,(x:iE)=>[⟨.int .i64,x.t⟩,⟨.int .i64,x.number⟩]
 |17,(x:gv)=>[⟨.int .i64,x.id⟩,⟨.str,x.text⟩]
 |18,(x:eP)=>[⟨.int .i64,x.v.Kind⟩,⟨.bool,x.v.bN⟩,⟨.int .i64,x.v.bc⟩,⟨.str,x.v.bl⟩,⟨.int .i64,x.v.ad⟩,⟨.slice (.nm 10),x.v.ay⟩,⟨.slice (.nm 10),x.v.aj⟩,⟨.slice (.nm 11),x.v.Rest⟩,⟨.int .i64,x.u.Kind⟩,⟨.bool,x.u.bN⟩,⟨.int .i64,x.u.bc⟩,⟨.str,x.u.bl⟩,⟨.int .i64,x.u.ad⟩,⟨.slice (.nm 10),x.u.ay⟩,⟨.slice (.nm 10),x.u.aj⟩,⟨.slice (.nm 11),x.u.Rest⟩,⟨.str,x.message⟩]
 |19,(x:cV)=>[⟨.int .i64,x.Value.Kind⟩,⟨.bool,x.Value.bN⟩,⟨.int .i64,x.Value.bc⟩,⟨.str,x.Value.bl⟩,⟨.int .i64,x.Value.ad⟩,⟨.slice (.nm 10),x.Value.ay⟩,⟨.slice (.nm 10),x.Value.aj⟩,⟨.slice (.nm 11),x.Value.Rest⟩,⟨.slice (.int .i64),x.dQ.Path⟩,⟨.int .i64,x.dQ.Reason⟩,⟨.bool,x.ck⟩]
 |20,(x:dJ)=>[⟨.int .i64,x.Value.Kind⟩,⟨.bool,x.Value.bN⟩,⟨.int .i64,x.Value.bc⟩,⟨.str,x.Value.bl⟩,⟨.int .i64,x.Value.ad⟩,⟨.slice (.nm 10),x.Value.ay⟩,⟨.slice (.nm 10),x.Value.aj⟩,⟨.slice (.nm 11),x.Value.Rest⟩,⟨.slice (.int .i64),x.Path⟩,⟨.bool,x.ck⟩]
 |21,(x:kF)=>[⟨.int .i64,x.V.Kind⟩,⟨.bool,x.V.bN⟩,⟨.int .i64,x.V.bc⟩,⟨.str,x.V.bl⟩,⟨.int .i64,x.V.ad⟩,⟨.slice (.nm 10),x.V.ay⟩,⟨.slice (.nm 10),x.V.aj⟩,⟨.slice (.nm 11),x.V.Rest⟩,⟨.int .i64,x.U.Kind⟩,⟨.bool,x.U.bN⟩,⟨.int .i64,x.U.bc⟩,⟨.str,x.U.bl⟩,⟨.int .i64,x.U.ad⟩,⟨.slice (.nm 10),x.U.ay⟩,⟨.slice (.nm 10),x.U.aj⟩,⟨.slice (.nm 11),x.U.Rest⟩,⟨.str,x.Message⟩]
 |22,(x:tf)=>[⟨.slice (.nm 6),x.qx⟩,⟨.slice (.nm 6),x.ft⟩]
 |_+23,(x:Bool)=>[⟨.bool,x⟩]
def cU:(n:Nat)->List (Cell dB)->Option (dB n)
 |0,l=>match aO.dec dB (eb 0) l with
  |some h=>some (⟨(⟨(⟨(⟨h.1⟩:ej),h.2.1,h.2.2.1⟩:lf),h.2.2.2.1⟩:mN),h.2.2.2.2⟩:nN)
  |none=>none
 |1,l=>match aO.dec dB (eb 1) l with
  |some h=>some (⟨(⟨(⟨h.1⟩:ej),h.2.1,h.2.2.1⟩:lf),h.2.2.2⟩:mN)
  |none=>none
 |2,l=>match aO.dec dB (eb 2) l with
  |some h=>some (⟨(⟨h.1⟩:ej),h.2.1,h.2.2⟩:lf)
  |none=>none
 |3,l=>match aO.dec dB (eb 3) l with
  |some h=>some (⟨h⟩:ej)
  |none=>none
 |4,l=>match aO.dec dB (eb 4) l with
  |some h=>some (⟨h.1,h.2.1,h.2.2.1,h.2.2.2.1,h.2.2.2.2⟩:du)
  |none=>none
 |5,l=>match aO.dec dB (eb 5) l with
  |some h=>some (⟨h.1,h.2.1,h.2.2⟩:lR)
  |none=>none
 |6,l=>match aO.dec dB (eb 6) l with
  |some h=>some (⟨h.1,h.2.1,h.2.2.1,h.2.2.2⟩:iY)
  |none=>none
 |7,l=>match aO.dec dB (eb 7) l with
  |some h=>some (⟨h.1,h.2.1,h.2.2.1,h.2.2.2.1,h.2.2.2.2.1,h.2.2.2.2.2.1,h.2.2.2.2.2.2.1,h.2.2.2.2.2.2.2.1,h.2.2.2.2.2.2.2.2.1,h.2.2.2.2.2.2.2.2.2⟩:ai)
  |none=>none
 |8,l=>match aO.dec dB (eb 8) l with
  |some h=>some (⟨h.1,h.2⟩:c3)
  |none=>none
 |9,l=>match aO.dec dB (eb 9) l with
  |some h=>some (⟨h.1,h.2.1,h.2.2.1,h.2.2.2.1,h.2.2.2.2.1,(⟨h.2.2.2.2.2.1,h.2.2.2.2.2.2.1,h.2.2.2.2.2.2.2.1,h.2.2.2.2.2.2.2.2.1,h.2.2.2.2.2.2.2.2.2.1,h.2.2.2.2.2.2.2.2.2.2.1,h.2.2.2.2.2.2.2.2.2.2.2.1,h.2.2.2.2.2.2.2.2.2.2.2.2⟩:I)⟩:aU)
  |none=>none
 |10,l=>match aO.dec dB (eb 10) l with
  |some h=>some (⟨h.1,h.2.1,h.2.2.1,h.2.2.2.1,h.2.2.2.2.1,h.2.2.2.2.2.1,h.2.2.2.2.2.2.1,h.2.2.2.2.2.2.2⟩:I)
  |none=>none
 |11,l=>match aO.dec dB (eb 11) l with
  |some h=>some (⟨h.1,h.2⟩:bW)
  |none=>none
 |12,l=>match aO.dec dB (eb 12) l with
  |some h=>some (⟨h⟩:aT)
  |none=>none
 |13,l=>match aO.dec dB (eb 13) l with
  |some h=>some (⟨(⟨h.1⟩:aT),h.2⟩:cD)
  |none=>none
 |14,l=>match aO.dec dB (eb 14) l with
  |some h=>some (⟨h.1,h.2.1,h.2.2⟩:cT)
  |none=>none
 |15,l=>match aO.dec dB (eb 15) l with
  |some h=>some (⟨h.1,h.2⟩:iQ)
  |none=>none
 |16,l=>match aO.dec dB (eb 16) l with
  |some h=>some (⟨h.1,h.2⟩:iE)
  |none=>none
 |17,l=>match aO.dec dB (eb 17) l with
  |some h=>some (⟨h.1,h.2⟩:gv)
  |none=>none
 |18,l=>match aO.dec dB (eb 18) l with
  |some h=>some (⟨(⟨h.1,h.2.1,h.2.2.1,h.2.2.2.1,h.2.2.2.2.1,h.2.2.2.2.2.1,h.2.2.2.2.2.2.1,h.2.2.2.2.2.2.2.1⟩:I),(⟨h.2.2.2.2.2.2.2.2.1,h.2.2.2.2.2.2.2.2.2.1,h.2.2.2.2.2.2.2.2.2.2.1,h.2.2.2.2.2.2.2.2.2.2.2.1,h.2.2.2.2.2.2.2.2.2.2.2.2.1,h.2.2.2.2.2.2.2.2.2.2.2.2.2.1,h.2.2.2.2.2.2.2.2.2.2.2.2.2.2.1,h.2.2.2.2.2.2.2.2.2.2.2.2.2.2.2.1⟩:I),h.2.2.2.2.2.2.2.2.2.2.2.2.2.2.2.2⟩:eP)
  |none=>none
 |19,l=>match aO.dec dB (eb 19) l with
  |some h=>some (⟨(⟨h.1,h.2.1,h.2.2.1,h.2.2.2.1,h.2.2.2.2.1,h.2.2.2.2.2.1,h.2.2.2.2.2.2.1,h.2.2.2.2.2.2.2.1⟩:I),(⟨h.2.2.2.2.2.2.2.2.1,h.2.2.2.2.2.2.2.2.2.1⟩:iQ),h.2.2.2.2.2.2.2.2.2.2⟩:cV)
  |none=>none
 |20,l=>match aO.dec dB (eb 20) l with
  |some h=>some (⟨(⟨h.1,h.2.1,h.2.2.1,h.2.2.2.1,h.2.2.2.2.1,h.2.2.2.2.2.1,h.2.2.2.2.2.2.1,h.2.2.2.2.2.2.2.1⟩:I),h.2.2.2.2.2.2.2.2.1,h.2.2.2.2.2.2.2.2.2⟩:dJ)
  |none=>none
 |21,l=>match aO.dec dB (eb 21) l with
  |some h=>some (⟨(⟨h.1,h.2.1,h.2.2.1,h.2.2.2.1,h.2.2.2.2.1,h.2.2.2.2.2.1,h.2.2.2.2.2.2.1,h.2.2.2.2.2.2.2.1⟩:I),(⟨h.2.2.2.2.2.2.2.2.1,h.2.2.2.2.2.2.2.2.2.1,h.2.2.2.2.2.2.2.2.2.2.1,h.2.2.2.2.2.2.2.2.2.2.2.1,h.2.2.2.2.2.2.2.2.2.2.2.2.1,h.2.2.2.2.2.2.2.2.2.2.2.2.2.1,h.2.2.2.2.2.2.2.2.2.2.2.2.2.2.1,h.2.2.2.2.2.2.2.2.2.2.2.2.2.2.2.1⟩:I),h.2.2.2.2.2.2.2.2.2.2.2.2.2.2.2.2⟩:kF)
  |none=>none
 |22,l=>match aO.dec dB (eb 22) l with
  |some h=>some (⟨h.1,h.2⟩:tf)
  |none=>none
 |_+23,l=>match aO.dec dB [.bool] l with
  |some (h:Bool)=>some h
  |none=>none
def Sv(x:lR):List T:=[.int .u8 x.ad,.int .u8 x.aw,.int .u8 x.ha]
def x6(x:du):List T:=[.int .u8 x.Kind,.int .u8 x.A,.int .u8 x.B,.int .u8 x.C,.slice (x.c0.map Sv)]
def ag8(x:ej):List T:=[.slice (x.dI.map x6)]
def ag9(x:lf):List T:=[.slice (x.S.dI.map x6),.int .u8 x.T,.slice (x.C.map (λy=>[.int .u8 y]))]
def x5(x:iY):List T:=[.int .u8 x.Kind,.int .u8 x.Node,.int .u8 x.A,.int .u8 x.B]
def aha(x:mN):List T:=[.slice (x.D.S.dI.map x6),.int .u8 x.D.T,.slice (x.D.C.map (λy=>[.int .u8 y])),.slice (x.L.map x5)]
def ahc(x:nN):List T:=[.slice (x.C.D.S.dI.map x6),.int .u8 x.C.D.T,.slice (x.C.D.C.map (λy=>[.int .u8 y])),.slice (x.C.L.map x5),.bool x.xy]
def Su(x:c3):List T:=[.int .i64 x.ad,.str x.Name]
def nC(x:bW):List T:=[.int .i64 x.ad,.str x.Data]
def I.eta(x:I):I:=⟨x.Kind,x.bN,x.bc,x.bl,x.ad,x.ay,x.aj,x.Rest⟩
theorem I.aV(x:I):x.eta=x:=by cases x;rfl
mutual
def h4:I->List T
 |⟨a0,a1,a2,a3,a4,a5,a,c⟩=>[.int .i64 a0,.bool a1,.int .i64 a2,.str a3,.int .i64 a4,.slice (x4 a5),.slice (x4 a),.slice (c.map nC)]
def x4:List I->List (List T)
 |[]=>[]
 |v::r=>h4 v::x4 r
end
theorem JB:∀l,x4 l=l.map h4
 |[]=>rfl
 |v::r=>by simp only[x4,List.map];rw[JB r]
theorem aaS(x:I):h4 x=[.int .i64 x.Kind,.bool x.bN,.int .i64 x.bc,.str x.bl,.int .i64 x.ad,.slice (x.ay.map h4),.slice (x.aj.map h4),.slice (x.Rest.map nC)]:=by cases x;simp only[h4,JB]
def St(x:aU):List T:=[.int .i64 x.ad,.str x.Name,.int .i64 x.aw,.bool x.ch,.bool x.bU,.int .i64 x.bA.Kind,.bool x.bA.bN,.int .i64 x.bA.bc,.str x.bA.bl,.int .i64 x.bA.ad,.slice (x.bA.ay.map h4),.slice (x.bA.aj.map h4),.slice (x.bA.Rest.map nC)]
def FA(x:ai):List T:=[.int .i64 x.Kind,.str x.Name,.int .i64 x.bE,.int .i64 x.bH,.int .i64 x.Max,.slice (x.bh.map Su),.slice (x.ah.map St),.int .i64 x.Key,.int .i64 x.aF,.bool x.Open]
def ag7(x:aT):List T:=[.slice (x.Types.map FA)]
def ag6(x:cD):List T:=[.slice (x.cW.Types.map FA),.int .i64 x.aw]
def ag5(x:cT):List T:=[.int .i64 x.ad,.bool x.ch,.str x.Data]
def ag4(x:iQ):List T:=[.slice (x.Path.map (λy=>[.int .i64 y])),.int .i64 x.Reason]
def ag3(x:iE):List T:=[.int .i64 x.t,.int .i64 x.number]
def ag2(x:gv):List T:=[.int .i64 x.id,.str x.text]
def ag1(x:eP):List T:=[.int .i64 x.v.Kind,.bool x.v.bN,.int .i64 x.v.bc,.str x.v.bl,.int .i64 x.v.ad,.slice (x.v.ay.map h4),.slice (x.v.aj.map h4),.slice (x.v.Rest.map nC),.int .i64 x.u.Kind,.bool x.u.bN,.int .i64 x.u.bc,.str x.u.bl,.int .i64 x.u.ad,.slice (x.u.ay.map h4),.slice (x.u.aj.map h4),.slice (x.u.Rest.map nC),.str x.message]
def ag'(x:cV):List T:=[.int .i64 x.Value.Kind,.bool x.Value.bN,.int .i64 x.Value.bc,.str x.Value.bl,.int .i64 x.Value.ad,.slice (x.Value.ay.map h4),.slice (x.Value.aj.map h4),.slice (x.Value.Rest.map nC),.slice (x.dQ.Path.map (λy=>[.int .i64 y])),.int .i64 x.dQ.Reason,.bool x.ck]
def ahb(x:dJ):List T:=[.int .i64 x.Value.Kind,.bool x.Value.bN,.int .i64 x.Value.bc,.str x.Value.bl,.int .i64 x.Value.ad,.slice (x.Value.ay.map h4),.slice (x.Value.aj.map h4),.slice (x.Value.Rest.map nC),.slice (x.Path.map (λy=>[.int .i64 y])),.bool x.ck]
def ahd(x:kF):List T:=[.int .i64 x.V.Kind,.bool x.V.bN,.int .i64 x.V.bc,.str x.V.bl,.int .i64 x.V.ad,.slice (x.V.ay.map h4),.slice (x.V.aj.map h4),.slice (x.V.Rest.map nC),.int .i64 x.U.Kind,.bool x.U.bN,.int .i64 x.U.bc,.str x.U.bl,.int .i64 x.U.ad,.slice (x.U.ay.map h4),.slice (x.U.aj.map h4),.slice (x.U.Rest.map nC),.str x.Message]
def ahe(x:tf):List T:=[.slice (x.qx.map x5),.slice (x.ft.map x5)]
def aiq:(n:Nat)->dB n->List T
 |0,x=>ahc x
 |1,x=>aha x
 |2,x=>ag9 x
 |3,x=>ag8 x
 |4,x=>x6 x
 |5,x=>Sv x
 |6,x=>x5 x
 |7,x=>FA x
 |8,x=>Su x
 |9,x=>St x
 |10,x=>h4 x
 |11,x=>nC x
 |12,x=>ag7 x
 |13,x=>ag6 x
 |14,x=>ag5 x
 |15,x=>ag4 x
 |16,x=>ag3 x
 |17,x=>ag2 x
 |18,x=>ag1 x
 |19,x=>ag' x
 |20,x=>ahb x
 |21,x=>ahd x
 |22,x=>ahe x
 |_+23,(x:Bool)=>[.bool x]
def cy:cM where
 D:=dB
 ke:=λn=>match n with
  |0=>Xg
  |1=>TK
  |2=>Uj
  |3=>Ui
  |4=>bu
  |5=>iP
  |6=>nG
  |7=>aK
  |8=>dK
  |9=>aC
  |10=>av
  |11=>bV
  |12=>MI
  |13=>lv
  |14=>gk
  |15=>LH
  |16=>It
  |17=>wx
  |18=>XC
  |19=>Wt
  |20=>Wu
  |21=>Wv
  |22=>abJ
  |_+23=>false
 oa:=air
 make:=cU
 dq:=eb
 enc:=aiq
 Sx:=λn x=>match n,x with
  |0,_=>rfl
  |1,_=>rfl
  |2,_=>rfl
  |3,_=>rfl
  |4,_=>rfl
  |5,_=>rfl
  |6,_=>rfl
  |7,_=>rfl
  |8,_=>rfl
  |9,_=>rfl
  |10,x=>aaS x
  |11,_=>rfl
  |12,_=>rfl
  |13,_=>rfl
  |14,_=>rfl
  |15,_=>rfl
  |16,_=>rfl
  |17,_=>rfl
  |18,_=>rfl
  |19,_=>rfl
  |20,_=>rfl
  |21,_=>rfl
  |22,_=>rfl
  |_+23,_=>rfl
 mk_eq:=λn l x h=>match n,x,h with
  |0,x,h=>by
   simp only[cU]at h;split at h
   . rename_i aa a;cases h;exact aO.fl a
   . cases h
  |1,x,h=>by
   simp only[cU]at h;split at h
   . rename_i aa a;cases h;exact aO.fl a
   . cases h
  |2,x,h=>by
   simp only[cU]at h;split at h
   . rename_i aa a;cases h;exact aO.fl a
   . cases h
  |3,x,h=>by
   simp only[cU]at h;split at h
   . rename_i aa a;cases h;exact aO.fl a
   . cases h
  |4,x,h=>by
   simp only[cU]at h;split at h
   . rename_i aa a;cases h;exact aO.fl a
   . cases h
  |5,x,h=>by
   simp only[cU]at h;split at h
   . rename_i aa a;cases h;exact aO.fl a
   . cases h
  |6,x,h=>by
   simp only[cU]at h;split at h
   . rename_i aa a;cases h;exact aO.fl a
   . cases h
  |7,x,h=>by
   simp only[cU]at h;split at h
   . rename_i aa a;cases h;exact aO.fl a
   . cases h
  |8,x,h=>by
   simp only[cU]at h;split at h
   . rename_i aa a;cases h;exact aO.fl a
   . cases h
  |9,x,h=>by
   simp only[cU]at h;split at h
   . rename_i aa a;cases h;exact aO.fl a
   . cases h
  |10,x,h=>by
   simp only[cU]at h;split at h
   . rename_i aa a;cases h;exact aO.fl a
   . cases h
  |11,x,h=>by
   simp only[cU]at h;split at h
   . rename_i aa a;cases h;exact aO.fl a
   . cases h
  |12,x,h=>by
   simp only[cU]at h;split at h
   . rename_i aa a;cases h;exact aO.fl a
   . cases h
  |13,x,h=>by
   simp only[cU]at h;split at h
   . rename_i aa a;cases h;exact aO.fl a
   . cases h
  |14,x,h=>by
   simp only[cU]at h;split at h
   . rename_i aa a;cases h;exact aO.fl a
   . cases h
  |15,x,h=>by
   simp only[cU]at h;split at h
   . rename_i aa a;cases h;exact aO.fl a
   . cases h
  |16,x,h=>by
   simp only[cU]at h;split at h
   . rename_i aa a;cases h;exact aO.fl a
   . cases h
  |17,x,h=>by
   simp only[cU]at h;split at h
   . rename_i aa a;cases h;exact aO.fl a
   . cases h
  |18,x,h=>by
   simp only[cU]at h;split at h
   . rename_i aa a;cases h;exact aO.fl a
   . cases h
  |19,x,h=>by
   simp only[cU]at h;split at h
   . rename_i aa a;cases h;exact aO.fl a
   . cases h
  |20,x,h=>by
   simp only[cU]at h;split at h
   . rename_i aa a;cases h;exact aO.fl a
   . cases h
  |21,x,h=>by
   simp only[cU]at h;split at h
   . rename_i aa a;cases h;exact aO.fl a
   . cases h
  |22,x,h=>by
   simp only[cU]at h;split at h
   . rename_i aa a;cases h;exact aO.fl a
   . cases h
  |_+23,x,h=>by
   simp only[cU]at h;split at h
   . rename_i aa a;cases h;exact aO.fl a
   . cases h
 To:=λn x=>match n,x with
  |0,_=>rfl
  |1,_=>rfl
  |2,_=>rfl
  |3,_=>rfl
  |4,_=>rfl
  |5,_=>rfl
  |6,_=>rfl
  |7,_=>rfl
  |8,_=>rfl
  |9,_=>rfl
  |10,_=>rfl
  |11,_=>rfl
  |12,_=>rfl
  |13,_=>rfl
  |14,_=>rfl
  |15,_=>rfl
  |16,_=>rfl
  |17,_=>rfl
  |18,_=>rfl
  |19,_=>rfl
  |20,_=>rfl
  |21,_=>rfl
  |22,_=>rfl
  |_+23,_=>rfl
 Tn:=λe=>match e with
  |3=>some (.int .i64)
  |5=>some (.int .u8)
  |9=>some .str
  |37=>some (.nm 13)
  |48=>some (.nm 10)
  |85=>some (.nm 9)
  |88=>some (.slice (.int .i64))
  |112=>some (.nm 7)
  |117=>some (.nm 11)
  |140=>some (.nm 5)
  |146=>some (.nm 8)
  |196=>some (.nm 16)
  |236=>some (.nm 14)
  |276=>some (.nm 17)
  |_=>none
 own:=[([false,false,true,true],2,.int .i64),([false,true,true,false],1,.int .i64),([false,false,true],2,.slice (.int .i64))]
 pos:=λn=>match n with
  |0=>by decide
  |1=>by decide
  |2=>by decide
  |3=>by decide
  |4=>by decide
  |5=>by decide
  |6=>by decide
  |7=>by decide
  |8=>by decide
  |9=>by decide
  |10=>by decide
  |11=>by decide
  |12=>by decide
  |13=>by decide
  |14=>by decide
  |15=>by decide
  |16=>by decide
  |17=>by decide
  |18=>by decide
  |19=>by decide
  |20=>by decide
  |21=>by decide
  |22=>by decide
  |_+23=>Nat.zero_lt_one
theorem aeZ:cy.Total:=λn l h=>match n,h with
 |0,h=>by
  obtain⟨x,a⟩:=aO.gU (D:=dB) (ts:=eb 0) h;exact⟨_,by show cU 0 l=_;simp only[cU,a];rfl⟩
 |1,h=>by
  obtain⟨x,a⟩:=aO.gU (D:=dB) (ts:=eb 1) h;exact⟨_,by show cU 1 l=_;simp only[cU,a];rfl⟩
 |2,h=>by
  obtain⟨x,a⟩:=aO.gU (D:=dB) (ts:=eb 2) h;exact⟨_,by show cU 2 l=_;simp only[cU,a];rfl⟩
 |3,h=>by
  obtain⟨x,a⟩:=aO.gU (D:=dB) (ts:=eb 3) h;exact⟨_,by show cU 3 l=_;simp only[cU,a];rfl⟩
 |4,h=>by
  obtain⟨x,a⟩:=aO.gU (D:=dB) (ts:=eb 4) h;exact⟨_,by show cU 4 l=_;simp only[cU,a];rfl⟩
 |5,h=>by
  obtain⟨x,a⟩:=aO.gU (D:=dB) (ts:=eb 5) h;exact⟨_,by show cU 5 l=_;simp only[cU,a];rfl⟩
 |6,h=>by
  obtain⟨x,a⟩:=aO.gU (D:=dB) (ts:=eb 6) h;exact⟨_,by show cU 6 l=_;simp only[cU,a];rfl⟩
 |7,h=>by
  obtain⟨x,a⟩:=aO.gU (D:=dB) (ts:=eb 7) h;exact⟨_,by show cU 7 l=_;simp only[cU,a];rfl⟩
 |8,h=>by
  obtain⟨x,a⟩:=aO.gU (D:=dB) (ts:=eb 8) h;exact⟨_,by show cU 8 l=_;simp only[cU,a];rfl⟩
 |9,h=>by
  obtain⟨x,a⟩:=aO.gU (D:=dB) (ts:=eb 9) h;exact⟨_,by show cU 9 l=_;simp only[cU,a];rfl⟩
 |10,h=>by
  obtain⟨x,a⟩:=aO.gU (D:=dB) (ts:=eb 10) h;exact⟨_,by show cU 10 l=_;simp only[cU,a];rfl⟩
 |11,h=>by
  obtain⟨x,a⟩:=aO.gU (D:=dB) (ts:=eb 11) h;exact⟨_,by show cU 11 l=_;simp only[cU,a];rfl⟩
 |12,h=>by
  obtain⟨x,a⟩:=aO.gU (D:=dB) (ts:=eb 12) h;exact⟨_,by show cU 12 l=_;simp only[cU,a];rfl⟩
 |13,h=>by
  obtain⟨x,a⟩:=aO.gU (D:=dB) (ts:=eb 13) h;exact⟨_,by show cU 13 l=_;simp only[cU,a];rfl⟩
 |14,h=>by
  obtain⟨x,a⟩:=aO.gU (D:=dB) (ts:=eb 14) h;exact⟨_,by show cU 14 l=_;simp only[cU,a];rfl⟩
 |15,h=>by
  obtain⟨x,a⟩:=aO.gU (D:=dB) (ts:=eb 15) h;exact⟨_,by show cU 15 l=_;simp only[cU,a];rfl⟩
 |16,h=>by
  obtain⟨x,a⟩:=aO.gU (D:=dB) (ts:=eb 16) h;exact⟨_,by show cU 16 l=_;simp only[cU,a];rfl⟩
 |17,h=>by
  obtain⟨x,a⟩:=aO.gU (D:=dB) (ts:=eb 17) h;exact⟨_,by show cU 17 l=_;simp only[cU,a];rfl⟩
 |18,h=>by
  obtain⟨x,a⟩:=aO.gU (D:=dB) (ts:=eb 18) h;exact⟨_,by show cU 18 l=_;simp only[cU,a];rfl⟩
 |19,h=>by
  obtain⟨x,a⟩:=aO.gU (D:=dB) (ts:=eb 19) h;exact⟨_,by show cU 19 l=_;simp only[cU,a];rfl⟩
 |20,h=>by
  obtain⟨x,a⟩:=aO.gU (D:=dB) (ts:=eb 20) h;exact⟨_,by show cU 20 l=_;simp only[cU,a];rfl⟩
 |21,h=>by
  obtain⟨x,a⟩:=aO.gU (D:=dB) (ts:=eb 21) h;exact⟨_,by show cU 21 l=_;simp only[cU,a];rfl⟩
 |22,h=>by
  obtain⟨x,a⟩:=aO.gU (D:=dB) (ts:=eb 22) h;exact⟨_,by show cU 22 l=_;simp only[cU,a];rfl⟩
 |m+23,h=>by
  obtain⟨x,a⟩:=aO.gU (D:=dB) (ts:=[.bool]) h;exact⟨x,by show cU (m+23) l=_;simp only[cU,a];rfl⟩
end
section
open Go Go.Proofs.YtdjagncoefjfeaaGreat.Shv
open Tryz
set_option maxRecDepth 100000
open Go.Proofs Go.Proofs.YtdjagncoefjfeaaGreat Go.Shelf
theorem WH:hi prog 134=true:=by kernel_rfl
def py:cH cy:=IW cy 134 (.int .i64) 8
theorem V8:hz prog py:=aaM (sz:=1) (bytes:=8) (z:=[.t (.int .i64 0)]) func134 (by kernel_rfl) (by kernel_rfl) (by kernel_rfl) rfl rfl
theorem oc:gO prog py:=⟨WH,V8⟩
theorem V':hi prog 179=true:=by kernel_rfl
def pA:cH cy:=wD cy 179 (.nm 10) 120
theorem VH:hz prog pA:=Em (sz:=8) (bytes:=120) (z:=[.t (.int .i64 0),.t (.bool false),.t (.int .i64 0),.t (.str []),.t (.int .i64 0),.aA,.aA,.aA]) func179 (by kernel_rfl) (by kernel_rfl) (by kernel_rfl) rfl rfl
theorem nH:gO prog pA:=⟨V',VH⟩
theorem Wa:hi prog 245=true:=by kernel_rfl
def pB:cH cy:=wD cy 245 (.nm 11) 24
theorem VI:hz prog pB:=Em (sz:=2) (bytes:=24) (z:=[.t (.int .i64 0),.t (.str [])]) func245 (by kernel_rfl) (by kernel_rfl) (by kernel_rfl) rfl rfl
theorem p4:gO prog pB:=⟨Wa,VI⟩
instance:Inhabited gv:=⟨wx⟩
instance:Inhabited (cy.D 17):=⟨wx⟩
def lF(x y:gv):Bool:=decide (x.id<y.id)
def GG(l:List gv):Option (List gv):=some (kT lF l)
section
open Go.Proofs Go.Proofs.YtdjagncoefjfeaaGreat Go.Sort Go.RowKit Go.Lib
theorem aib(x:Int)(w:World):Calls prog 250 #[.int .i64 x] w λe w'=>e= .returned (.bool false)/\w'=w:=by
 go_enter func250,ntmps250
 go_wp2
 go_ret
 exact⟨by simp,rfl⟩
set_option maxHeartbeats 1000000 in
theorem aia(x y:Int)(w:World):Calls prog 227 #[.int .i64 x,.int .i64 y] w λe w'=>e= .returned (.int .i64 (Lib.compareInt x y))/\w'=w:=by
 go_enter func227,ntmps227
 go_wp2_with (go_at_call 250;refine(aib _ _).mono ?_;rintro e w' ⟨rfl,a⟩;rw[a])
 all_goals (go_ret;refine⟨?_,rfl⟩;unfold Lib.compareInt;(repeat' split)<;>first|rfl|(exfalso;omega))
def A0(x:gv):List Value:=[.int .i64 x.id,.string ⟨x.text.toArray⟩]
set_option maxHeartbeats 1000000 in
theorem ah'(x y:Int)(s t:ByteArray)(W:World):Calls prog 226 #[.agg #[.int .i64 x,.string s],.agg #[.int .i64 y,.string t]] W λe w'=>e= .returned (.int .i64 (Lib.compareInt x y))/\∃q c,w'=grow (W.drewN q) c:=by
 have a:=λb=>aia x y b;generalize Lib.compareInt x y=r at a⊢
 go_enter func226,ntmps226
 go_wp2_with (go_at_call 227;refine(a _).mono ?_;rintro e w' ⟨rfl,rfl⟩)
 go_ret
 exact⟨rfl,0,_,by rw[alloc_eq_grow,alloc_eq_grow,grow_grow];rfl⟩
def Ma:Go.Shelf.Ren:=⟨λ|6=>225|15=>249|14=>248|28=>263|29=>264|20=>255|21=>256|22=>257|23=>258|24=>259|25=>260|26=>261|27=>262|46=>265|47=>266|48=>267|49=>268|50=>269|57=>270|n=>n,λ|22=>274|24=>276|25=>279|3=>3|39=>269|0=>0|53=>305|55=>114|4=>4|46=>299|45=>298|50=>118|5=>5|9=>9|66=>307|70=>311|76=>313|77=>314|n=>n,λ|n=>n⟩
theorem SI:SlLaysF0.n6 prog Ma:={
 mixed:=by kernel_rfl
 f6:=⟨f225.name,by decide,func225.trans (eu some (by kernel_rfl))⟩
 f14:=⟨f248.name,by decide,func248.trans (eu some (by kernel_rfl))⟩
 f15:=func249.trans (eu some (by kernel_rfl))
 f20:=⟨f255.name,by decide,func255.trans (eu some (by kernel_rfl))⟩
 f21:=⟨f256.name,by decide,func256.trans (eu some (by kernel_rfl))⟩
 f22:=⟨f257.name,by decide,func257.trans (eu some (by kernel_rfl))⟩
 f23:=⟨f258.name,by decide,func258.trans (eu some (by kernel_rfl))⟩
 f24:=⟨f259.name,by decide,func259.trans (eu some (by kernel_rfl))⟩
 f25:=⟨f260.name,by decide,func260.trans (eu some (by kernel_rfl))⟩
 f26:=⟨f261.name,by decide,func261.trans (eu some (by kernel_rfl))⟩
 f27:=⟨f262.name,by decide,func262.trans (eu some (by kernel_rfl))⟩
 f28:=func263.trans (eu some (by kernel_rfl))
 f29:=func264.trans (eu some (by kernel_rfl))
 f46:=⟨f265.name,by decide,func265.trans (eu some (by kernel_rfl))⟩
 f47:=func266.trans (eu some (by kernel_rfl))
 f48:=func267.trans (eu some (by kernel_rfl))
 f49:=⟨f268.name,by decide,func268.trans (eu some (by kernel_rfl))⟩
 f50:=⟨f269.name,by decide,func269.trans (eu some (by kernel_rfl))⟩
 f57:=⟨f270.name,by decide,func270.trans (eu some (by kernel_rfl))⟩
 t0:=underlying0
 a0:=isAgg0
 z0:=sizeOf0
 v0:=zeroValue0
 t3:=underlying3
 a3:=isAgg3
 z3:=sizeOf3
 v3:=zeroValue3
 t4:=underlying4
 a4:=isAgg4
 z4:=sizeOf4
 v4:=zeroValue4
 t5:=underlying5
 a5:=isAgg5
 z5:=sizeOf5
 v5:=zeroValue5
 t9:=underlying9
 a9:=isAgg9
 z9:=sizeOf9
 v9:=zeroValue9
 t22:=underlying274
 a22:=isAgg274
 z22:=sizeOf274
 v22:=zeroValue274
 t25:=underlying279
 a25:=isAgg279
 z25:=sizeOf279
 v25:=zeroValue279
 t39:=underlying269
 a39:=isAgg269
 z39:=sizeOf269
 v39:=zeroValue269
 t45:=underlying298
 a45:=isAgg298
 z45:=sizeOf298
 v45:=zeroValue298
 t46:=underlying299
 a46:=isAgg299
 z46:=sizeOf299
 v46:=zeroValue299
 t50:=underlying118
 a50:=isAgg118
 z50:=sizeOf118
 v50:=zeroValue118
 t53:=underlying305
 a53:=isAgg305
 z53:=sizeOf305
 v53:=zeroValue305
 t55:=underlying114
 a55:=isAgg114
 z55:=sizeOf114
 v55:=zeroValue114
 t66:=underlying307
 a66:=isAgg307
 z66:=sizeOf307
 v66:=zeroValue307
 t70:=underlying311
 a70:=isAgg311
 z70:=sizeOf311
 v70:=zeroValue311
 t76:=underlying313
 a76:=isAgg313
 z76:=sizeOf313
 v76:=zeroValue313
 t77:=underlying314
 a77:=isAgg314
 z77:=sizeOf314
 v77:=zeroValue314}
theorem LI:ltOf (λx y:gv=>Lib.compareInt x.id y.id)=lF:=by
 funext x y
 unfold ltOf lF Lib.compareInt;by_cases h1:x.id<y.id
 . simp[h1]
 . by_cases a:y.id<x.id<;>simp[h1,a]
theorem Gr:SWO lF:=acG (λx:gv=>x.id)
set_option maxHeartbeats 2000000 in
theorem aid(p:Option Addr)(cap:Nat)(a:Value)(w:World):Calls prog 255 #[.slice p 0 cap,.int .i64 0,.int .i64 0,a] w λe w'=>e= .returned (.tuple #[])/\w'=w:=by
 go_enter func255,ntmps255
 go_wp2
 refine wp_loop_rounds 1 ?_;rw[rounds_succ]
 go_wp2
 go_end0
 exact⟨rfl,rfl⟩
set_option maxHeartbeats 2000000 in
theorem aie(p:Option Addr)(cap:Nat)(c:Int)(a:Value)(w:World):Calls prog 248 #[.slice p 0 cap,.int .i64 0,.int .i64 0,.int .i64 c,a] w λe w'=>e= .returned (.tuple #[])/\w'=w:=by
 have b:=λW=>aid p cap a W
 go_enter func248,ntmps248
 go_wp2
 refine wp_loop_rounds 1 ?_;rw[rounds_succ]
 go_wp2_with (go_at_call 255;refine(b _).mono ?_;rintro e w' ⟨rfl,rfl⟩)
 (try simp only[Exit.inBlock,Exit.then]);refine bodyPost_ret (results_none rfl _ _ _) rfl ?_
 exact⟨rfl,rfl⟩
set_option maxHeartbeats 2000000 in
theorem aic(p:Option Addr)(cap:Nat)(a:Value)(w:World):Calls prog 225 #[.slice p 0 cap,a] w λe w'=>e= .returned (.tuple #[])/\w'=w:=by
 have b:=λc W=>aie p cap c a W;have af:∀W,Calls prog 249 #[.int .u64 0] W λe w'=>e= .returned (.int .i64 (Lib.bitLen 0:Nat))/\w'=W:=λW=>by
  have h:=Any.bits_Len (SlLaysF0.n15.bits (P:=prog) (ρ:=Ma) {SI with}) 0 W (by omega) (by omega);exact h
 go_enter func225,ntmps225
 go_wp2_with (first|(go_at_call 249;refine(af _).mono ?_;rintro e w' ⟨rfl,rfl⟩)|(go_at_call 248;refine(b _ _).mono ?_;rintro e w' ⟨rfl,rfl⟩))
 go_end0
 exact⟨rfl,rfl⟩
theorem aif(blk off cap:Nat)(d:Array (cy.D 17))(w:World)(c:HoldsK A0 2 w blk off d)(f:blk<w.heap.size)(g:d.size<4611686018427387904):
 Calls prog 225 #[.slice (some ⟨blk,off,none⟩) d.size cap,.func (.func 226) #[] #[]] w λe w'=>e= .returned (.tuple #[])/\∃n os,w'=sortWorldK A0 2 w blk off n (pdq lF d 0 d.size (Lib.bitLen d.size) true true) os:=by
 have b:∀args w,(callFunc 226 args).run prog w= .ok (.enter 226 args) w:=enters_of func226 (by kernel_rfl) rfl;have h:=AnyQ.slices_SortFunc_eq (α:=gv) SI 2 isAgg276 sizeOf276 A0 (λ_=>rfl) (λx v a=>by simp[A0]at a;rcases a with rfl|rfl<;>rfl) (λx y=>Lib.compareInt x.id y.id) (by rw[LI];exact Gr) 226 #[] blk off cap d w b (λ_ _ _ _ x y=>ah' x.id y.id _ _ _) c f g;rw[LI]at h;exact h
theorem adE:hi prog 225=true:=by kernel_rfl
def Hv:cH cy:=Gq cy 225 17 226 (kT (α:=cy.D 17) lF)
theorem Xh:hz prog Hv:=acd (U:=cy) (n:=17) A0 lF Gr (λ_=>rfl) (λw S x j t v h ag=>aaR w S x.id x.text j t v h ag) aif aic
end
theorem Hw:gO prog Hv:=⟨adE,Xh⟩
def KM:Go.Shelf.Ren:=⟨λ|240=>229|276=>251|n=>n,λ|0=>0|4=>4|9=>9|20=>20|37=>25|70=>250|72=>252|164=>294|n=>n,λn=>n⟩
theorem ahA:Lays.n240 prog KM:={
 mixed:=by kernel_rfl
 f240:=func229.trans (eu some (by kernel_rfl))
 f276:=func251.trans (eu some (by kernel_rfl))
 t0:=underlying0
 a0:=isAgg0
 z0:=sizeOf0
 v0:=zeroValue0
 t4:=underlying4
 a4:=isAgg4
 z4:=sizeOf4
 v4:=zeroValue4
 t9:=underlying9
 a9:=isAgg9
 z9:=sizeOf9
 v9:=zeroValue9
 t20:=underlying20
 a20:=isAgg20
 z20:=sizeOf20
 v20:=zeroValue20
 t70:=underlying250
 a70:=isAgg250
 z70:=sizeOf250
 v70:=zeroValue250
 t72:=underlying252
 a72:=isAgg252
 z72:=sizeOf252
 v72:=zeroValue252
 t164:=underlying294
 a164:=isAgg294
 z164:=sizeOf294
 v164:=zeroValue294}
theorem ahB:Builder.X72 prog KM:={
 sizeBuilder:=by kernel_rfl
 liesBuilder:=by kernel_rfl}
theorem adF:hi prog 229=true:=by kernel_rfl
def p':cH cy:=El cy 229 252 5
theorem XD:hz prog p':=abH ahA ahB rfl rfl
theorem qZ:gO prog p':=⟨adF,XD⟩
theorem Wb:hi prog 134=true:=by kernel_rfl
def p5:cH cy:=wD cy 134 (.int .i64) 8
theorem VJ:hz prog p5:=Em (sz:=1) (bytes:=8) (z:=[.t (.int .i64 0)]) func134 (by kernel_rfl) (by kernel_rfl) (by kernel_rfl) rfl rfl
theorem sZ:gO prog p5:=⟨Wb,VJ⟩
theorem XE:hi prog 36=true:=by kernel_rfl
def Uk:cH cy:=wD cy 36 (.nm 13) 32
theorem WI:hz prog Uk:=Em (sz:=2) (bytes:=32) (z:=[.aA,.t (.int .i64 0)]) func36 (by kernel_rfl) (by kernel_rfl) (by kernel_rfl) rfl rfl
theorem XF:gO prog Uk:=⟨XE,WI⟩
end
section
open Go Go.Proofs.YtdjagncoefjfeaaGreat.Shv
open Tryz
set_option maxRecDepth 100000
abbrev a6(e:ez)(F:aO cy.D e.ts->Option (aO cy.D e.us)):Prop:=gO prog (e.s F)
abbrev cL(f kk:Nat)(p:a7)(e:gq)(F:aO cy.D e.ts->Option (eD cy e.outs)):Prop:=nx prog f kk p e F
abbrev QD(e:ez):Prop:=iz prog e
abbrev ec(e:ez):aO cy.D e.ts->aO cy.D e.us->Prop:=Bc prog cy e
abbrev eB(f kk:Nat)(p:a7)(e:gq):aO cy.D e.ts->eD cy e.outs->Prop:=xz prog cy f kk p e
abbrev ee(e:ez)(F:aO cy.D e.ts->Option (aO cy.D e.us)):Prop:=∀h r,F h=some r->ec e h r
abbrev eC(f kk:Nat)(p:a7)(e:gq)(F:aO cy.D e.ts->Option (eD cy e.outs)):Prop:=∀h r,F h=some r->eB f kk p e h r
variable{fs:List (cH cy)}{p:a7}{gc:cD×cD×ak->Option (eP×Int)}{go:List cD->Option Int}
theorem ei{e:ez}{h:aO cy.D e.ts}{r:aO cy.D e.us}{x:Option (aO cy.D e.us)}(h0:x=some r)(b:ji prog fs:=by exact .n){a:List (Nat×hb cy)}(af:jD prog e.f e.st.length [] a:=by exact .n)(k:QD e:=by exact .m (by kernel_rfl))(c:qu (hM fs) (kP a) prog e h=x:=by kernel_rfl):ec e h r:= .at k b af (c.trans h0)
theorem eL(e:gq){f kk:Nat}{F:aO cy.D e.ts->Option (eD cy e.outs)}(bx:eC f kk p e F){h:aO cy.D e.ts}{o:eD cy e.outs}{x:Option (eD cy e.outs)}(h0:x=some o)(b:ji prog fs:=by exact .n){a:List (Nat×hb cy)}(af:jD prog f kk p a:=by exact .n)(c:rV (hM fs) (kP a) kk (ql prog f p) e F h=x:=by kernel_rfl):eB f kk p e h o:= .at bx b af (c.trans h0)
theorem cd(e:ez){F:aO cy.D e.ts->Option (aO cy.D e.us)}(h:ee e F)(k:QD e:=by exact .m (by kernel_rfl)):a6 e F:= .of k h
theorem eM(e:gq){f kk:Nat}{F:aO cy.D e.ts->Option (eD cy e.outs)}(h:eC f kk p e F):cL f kk p e F:= .of h
def agD:=aW 68 [.row 3,aa ab] (aa ab)
def agE:=aW 69 [aa ab] (aa .bool)
def agF:=aW 70 [.row 4] (aa ab)
def agG:=aW 71 [.row 4] (aa ab)
def Sg:=bL 0 [(1,au 0 0),(3,.c (.arr 1)),(4,aa ab)] [.bk 4,.arr ab] [bG (.exit 0) [(3,.c (.arr 0))] [.arr ab]] [] [(.slot 3,ab)]
def agH:=aW 72 [.row 4] (aa bM) [Sg]
def afP:=aW 146 [aa ab] (aa .bool)
def PL:=bL 0 [(3,au 0 0),(7,aa ab),(9,aa ab)] [b8 (az 4)] [eR 6 ab,gn 0]
def afx:=aW 109 [.row 3,aa ab,aa (.int .u8)] (aa ab) [PL]
def afz:=aW 111 [aa ab] (aa .bool)
def Si:=bL 0 [(1,aa (.int .u8)),(2,au 0 0),(5,aa ab),(6,aa ab)] [b8 (az 4)] [eR 4 ab,gn 0]
def agJ:=aW 74 [.row 3,aa (.int .u8)] (aa ab) [Si]
def afy:=aW 110 [.row 3,aa ab,aa (.int .u8)] (.aY [.row 10,aa .bool])
def OQ:=bL 0 [(1,aa ab),(2,aa .bool),(3,au 0 0),(7,au 1 0),(8,.c (.arr 2)),(9,aa ab),(10,aa ab)] [b8 (az 4),.bk 4,.arr (.nm 9)] [bG (.exit 2) [(1,aa ab),(2,aa .bool),(3,au 0 0),(7,au 1 0),(8,.c (.arr 2)),(9,aa ab)] [b8 (az 4),.bk 4,.arr (.nm 9)]]
def Sh:=bL 0 [(1,aa ab),(2,aa .bool),(3,au 0 0),(7,au 1 0),(8,.c (.arr 2)),(9,aa ab)] [b8 (az 4),.bk 4,.arr (.nm 9)] [bG (.exit 0) [(8,.c (.arr 0))] [.arr (.nm 9)]] [OQ] [(.slot 8,.nm 9)]
def agI:=aW 73 [.row 3,aa ab,aa .bool] (aa (az 9)) [Sh]
def OR:=bL 0 [(1,au 0 0),(2,au 1 0),(4,aa ab),(5,au 2 0),(6,aa ab),(8,au 3 0),(9,aa bM),(10,aa ab)] [b8 (az 4),.box [.aA],.box [.arr 4],.box [.hole ab,.hole .str,.hole ab,.hole ab,.hole ab,.arr 5,.aA,.hole ab,.hole ab,.hole .bool],.arr (.nm 7),.arr (.nm 8)] [bG (.exit 3) [(1,au 0 0),(2,au 1 0),(4,aa ab),(5,au 2 0),(6,aa ab),(8,au 3 0)] [b8 (az 4),.box [.aA],.box [.arr 4],.box [.hole ab,.hole .str,.hole ab,.hole ab,.hole ab,.arr 5,.aA,.hole ab,.hole ab,.hole .bool],.arr (.nm 7),.arr (.nm 8)]] [] [(.via 8 5,.nm 8)]
def R3:=bL 0 [(1,au 0 0),(2,au 1 0),(4,aa ab),(5,au 2 0),(6,aa ab)] [b8 (az 4),.box [.aA],.box [.arr 3],.arr (.nm 7)] [bG (.exit 0) [(2,au 0 0),(5,au 1 0)] [.box [.aA],.box [.arr 2],.arr (.nm 7)]] [OR] [(.via 5 0,.nm 7)]
def agl:=aW 34 [.row 3] (.aY [.row 12,aa .bool]) [R3]
def afQ:=aW 147 [au 0 0,aa ab] (aa ab) [] [.box [.hole (az 7),.hole (.slice (.int .u8)),.hole .bool]] [.box [.hole (az 7),.hole (.slice (.int .u8)),.hole .bool]]
def PM:=bL 0 [(0,au 0 0),(5,aa .str),(6,aa ab)] [.box [.hole (az 7),.hole (.slice (.int .u8)),.hole .bool]] [bG (.exit 0) [(5,aa .str)] [.box [.hole (az 7),.hole (.slice (.int .u8)),.hole .bool]]]
def afR:=aW 148 [au 0 0,aa ab] (aa .str) [PM] [.box [.hole (az 7),.hole (.slice (.int .u8)),.hole .bool]] [.box [.hole (az 7),.hole (.slice (.int .u8)),.hole .bool]]
def afS:=aW 149 [au 0 0] (aa .bool) [] [.box [.hole (az 7),.hole (.slice (.int .u8)),.hole .bool]] [.box [.hole (az 7),.hole (.slice (.int .u8)),.hole .bool]]
def Sd:=bL 0 [(1,aa ab),(2,au 0 0),(6,aa ab)] [.bk 7] [bG .ret [(4,aa ab),(5,aa .bool)],gn 0]
def agx:=aW 53 [.row 7,aa ab] (.aY [aa ab,aa .bool]) [Sd]
def Sl:=bL 0 [(1,aa ab),(2,au 0 0),(6,aa ab)] [.bk 7] [bG .ret [(4,aa ab),(5,aa .bool)],gn 0]
def agQ:=aW 82 [.row 7,aa ab] (.aY [aa ab,aa .bool]) [Sl]
def agb:=aW 194 [.row 7,aa ab] (aa .bool)
def O3:=bL 0 [(3,au 1 0),(5,aa ab)] [.box [.hole (az 7),.hole (.slice (.int .u8)),.hole .bool],.bk 7] [bG (.exit 0) [(5,aa ab)] [.box [.hole (az 7),.hole (.slice (.int .u8)),.hole .bool]]]
def afU:=aW 150 [au 0 0,.row 7] (aa ab) [O3] [.box [.hole (az 7),.hole (.slice (.int .u8)),.hole .bool]] [.box [.hole (az 7),.hole (.slice (.int .u8)),.hole .bool]]
def afV:=aW 151 [au 0 0,aa ab] (.row 11) [] [.box [.hole (az 7),.hole (.slice (.int .u8)),.hole .bool]] [.box [.hole (az 7),.hole (.slice (.int .u8)),.hole .bool]]
def af8:=aW 163 [aa .bool,aa .bool] (aa ab)
def agv:=aW 51 [aa ab] (aa (.int .u64))
def afK:=aW 128 [.row 10,.row 10] (aa ab)
def O4:=bL 0 [(3,au 0 0),(4,au 1 0),(5,au 2 0),(6,au 3 0),(7,aa ab)] [.bk 10,.bk 10,.bk 10,.box [.hole ab,.hole .bool,.hole ab,.hole .str,.hole ab,.aA,.aA,.aA]] [bG (.exit 0) [(3,au 0 0),(4,au 1 0),(5,au 2 0),(6,au 3 0),(7,aa ab)] [.bk 10,.bk 10,.bk 10,.box [.hole ab,.hole .bool,.hole ab,.hole .str,.hole ab,.aA,.aA,.aA]]]
def afW:=aW 152 [.row 10,.row 10,.row 10] (.row 10) [O4]
def AR:=bL 0 [(0,au 0 0),(4,au 1 0),(5,au 2 0),(6,au 3 0),(7,aa ab)] [.box [.hole (az 7),.hole (.slice (.int .u8)),.hole .bool],.box [.hole ab,.hole .bool,.hole ab,.hole .str,.hole ab,.aA,.aA,.aA],.box [.hole ab,.hole .str,.hole ab,.hole ab,.hole ab,.hole (az 8),.hole (az 9),.hole ab,.hole ab,.hole .bool],.box [.hole ab,.hole .bool,.hole ab,.hole .str,.hole ab,.aA,.arr 4,.aA],.arr (.nm 10)] [bG (.exit 1) [(0,au 0 0),(4,au 1 0),(5,au 2 0),(6,au 3 0)] [.box [.hole (az 7),.hole (.slice (.int .u8)),.hole .bool],.box [.hole ab,.hole .bool,.hole ab,.hole .str,.hole ab,.aA,.aA,.aA],.box [.hole ab,.hole .str,.hole ab,.hole ab,.hole ab,.hole (az 8),.hole (az 9),.hole ab,.hole ab,.hole .bool],.box [.hole ab,.hole .bool,.hole ab,.hole .str,.hole ab,.aA,.arr 4,.aA],.arr (.nm 10)]] [] [(.via 6 6,.nm 10)]
def AS:=bL 1 [(0,au 0 0),(4,au 1 0),(5,au 2 0),(6,au 3 0),(9,aa ab)] [.box [.hole (az 7),.hole (.slice (.int .u8)),.hole .bool],.box [.hole ab,.hole .bool,.hole ab,.hole .str,.hole ab,.aA,.aA,.aA],.box [.hole ab,.hole .str,.hole ab,.hole ab,.hole ab,.hole (az 8),.hole (az 9),.hole ab,.hole ab,.hole .bool],.box [.hole ab,.hole .bool,.hole ab,.hole .str,.hole ab,.aA,.arr 4,.aA],.arr (.nm 10)] [bG (.exit 3) [(4,au 1 0),(6,au 2 0)] [.box [.hole (az 7),.hole (.slice (.int .u8)),.hole .bool],.box [.hole ab,.hole .bool,.hole ab,.hole .str,.hole ab,.aA,.aA,.aA],.box [.hole ab,.hole .bool,.hole ab,.hole .str,.hole ab,.aA,.arr 3,.aA],.arr (.nm 10)]] [] [(.via 6 6,.nm 10)]
def AT:=bL 2 [(0,au 0 0),(4,au 1 0),(5,au 2 0),(6,au 3 0),(10,aa ab)] [.box [.hole (az 7),.hole (.slice (.int .u8)),.hole .bool],.box [.hole ab,.hole .bool,.hole ab,.hole .str,.hole ab,.aA,.aA,.aA],.box [.hole ab,.hole .str,.hole ab,.hole ab,.hole ab,.hole (az 8),.hole (az 9),.hole ab,.hole ab,.hole .bool],.box [.hole ab,.hole .bool,.hole ab,.hole .str,.hole ab,.hole (az 10),.hole (az 10),.hole (az 11)]] [bG (.exit 5) [(4,au 1 0),(6,au 2 0)] [.box [.hole (az 7),.hole (.slice (.int .u8)),.hole .bool],.box [.hole ab,.hole .bool,.hole ab,.hole .str,.hole ab,.aA,.aA,.aA],.box [.hole ab,.hole .bool,.hole ab,.hole .str,.hole ab,.hole (az 10),.hole (az 10),.hole (az 11)]]]
def sG:=aW 112 [au 0 0,aa ab] (.row 10) [AR,AS,AT] [.box [.hole (az 7),.hole (.slice (.int .u8)),.hole .bool]] [.box [.hole (az 7),.hole (.slice (.int .u8)),.hole .bool]]
def agL:=aW 76 [.row 12,aa ab,aa (.slice (.int .u8))] (.row 10)
def agM:=aW 77 [.row 12,aa ab,aa (.slice (.int .u8))] (.row 10)
def ago:=aW 38 [.row 2] (.aY [.row 12,aa ab,.row 10,.row 10,aa .bool])
def R2:=bL 0 [(1,aa (az 6)),(4,au 0 0),(5,au 1 0),(6,aa ab)] [.box [.aA],.box [.arr 2],.arr (.nm 4)] [bG (.exit 0) [(4,au 0 0),(5,au 1 0)] [.box [.aA],.box [.arr 2],.arr (.nm 4)]]
def agk:=aW 33 [.row 3,aa (az 6)] (.row 3) [R2]
def Sj:=bL 0 [(1,aa ab),(2,au 0 0),(5,aa ab)] [.bk 10] [bG (.exit 0) [(1,aa ab),(2,au 0 0)] [.bk 10]]
def xZ:=bL 1 [(1,aa ab),(2,au 0 0),(6,aa ab)] [.bk 10] [bG (.exit 2) [(1,aa ab),(2,au 0 0)] [.bk 10]]
def x0:=bL 2 [(1,aa ab),(2,au 0 0),(7,aa ab)] [.bk 10] [bG (.exit 4) [(1,aa ab)]]
def xY:=aW 78 [.row 10,aa ab] (aa ab) [Sj,xZ,x0]
def agp:=aW 39 [.row 10] (aa .bool)
def afO:=aW 14 [.row 1] (.aY [.row 12,.row 12,aa ab,.row 10,aa .bool])
def Sb:=bL 0 [(0,aa (.int .u64)),(3,aa .str)] [] [bG (.exit 0) [(3,aa .str)]]
def agu:=aW 50 [aa (.int .u64)] (aa .str) [Sb]
def Sc:=bL 0 [(0,aa (.int .u64)),(3,.c (.arr 0))] [.arr (.int .u8)] [bG (.exit 0) [(0,aa (.int .u64)),(3,.c (.arr 0))] [.arr (.int .u8)]] [] [(.slot 3,.int .u8)]
def agw:=aW 52 [aa (.int .u64)] (aa .str) [Sc]
def agy:=aW 54 [aa .str] (aa .str)
def x2:=bL 0 [(0,aa (az 10)),(1,aa (az 10)),(5,aa ab)] [] [eR 4 .bool,gn 0]
def Fz:=aW 89 [aa (az 10),aa (az 10)] (aa .bool) [x2]
def Sa:=bL 0 [(2,au 0 0),(3,au 1 0),(5,aa ab)] [.bk 10,.bk 10] [eR 4 .bool,bG (.exit 0) [(2,au 0 0),(3,au 1 0)] [.bk 10,.bk 10]]
def BI:=aW 49 [.row 10,.row 10] (aa .bool) [Sa]
def agz:=aW 55 [aa ab,aa .bool,aa .str] (aa .str)
def OS:=bL 0 [(3,au 0 0),(5,au 1 0),(7,au 2 0),(14,aa .str),(15,aa ab),(19,aa ab)] [b8 (az 7),.bk 10,.bk 7] [bG (.exit 7) [(3,au 0 0),(5,au 1 0),(7,au 2 0),(14,aa .str),(15,aa ab)] [b8 (az 7),.bk 10,.bk 7]]
def xP:=bL 0 [(3,au 0 0),(5,au 1 0),(7,au 2 0),(10,aa .str),(11,aa ab)] [b8 (az 7),.bk 10,.bk 7] [bG (.exit 1) [(10,aa .str)]]
def xQ:=bL 1 [(3,au 0 0),(5,au 1 0),(7,au 2 0),(12,aa .str),(13,aa ab)] [b8 (az 7),.bk 10,.bk 7] [bG (.exit 3) [(12,aa .str)]]
def xR:=bL 2 [(3,au 0 0),(5,au 1 0),(7,au 2 0),(14,aa .str),(15,aa ab)] [b8 (az 7),.bk 10,.bk 7] [bG (.exit 5) [(14,aa .str)]] [OS]
def sJ:=aW 19 [.row 12,aa ab,.row 10] (aa .str) [xP,xQ,xR]
def Br:=aW 10 [.row 0] (.aY [.row 13,.row 13,aa .str,aa .bool])
def R7:=aW 40 [aa ab] (.row 9)
def R8:=aW 41 [aa (az 9)] (.row 13)
def O5:=bL 0 [(0,aa (az 8)),(1,aa (az 8)),(12,aa ab),(13,aa ab)] [] [eR 4 .bool,gn 0]
def RO:=aW 239 [aa (az 8),aa (az 8)] (aa .bool) [O5]
def O6:=bL 0 [(0,aa (az 11)),(1,aa (az 11)),(12,aa ab),(13,aa ab)] [] [eR 4 .bool,gn 0]
def QV:=aW 103 [aa (az 11),aa (az 11)] (aa .bool) [O6]
def zy:=bL 0 [(1,aa (az 10)),(2,.c (.fn 242 [])),(15,aa (az 10)),(16,aa ab),(17,aa ab)] [] [eR 6 .bool,gn 0]
def DV:=aW 104 [aa (az 10),aa (az 10),.c (.fn 242 [])] (aa .bool) [zy]
def xS:=aW 242 [.row 10,.row 10] (aa .bool)
def RR:=aW 241 [.row 9,.row 9] (aa .bool)
def O7:=bL 0 [(1,aa (az 9)),(2,.c (.fn 241 [])),(15,aa (az 9)),(16,aa ab),(17,aa ab)] [] [eR 6 .bool,gn 0]
def RQ:=aW 240 [aa (az 9),aa (az 9),.c (.fn 241 [])] (aa .bool) [O7]
def Rt:=aW 211 [.row 7,.row 7] (aa .bool)
def RK:=aW 235 [aa (.int .u8)] (aa .bool)
def RL:=aW 236 [aa (.int .u8)] (aa .bool)
def O8:=bL 0 [(0,aa .str),(18,aa ab),(19,aa ab)] [] [eR 2 .bool,gn 0]
def Rq:=aW 208 [aa .str] (aa .bool) [O8]
def O9:=bL 0 [(0,aa bM),(1,aa je),(5,.c (.mp 0)),(9,aa bM),(10,aa ab),(11,aa ab)] [.set] [eR 4 .bool,bG (.exit 0) [(0,aa bM)]]
def RM:=aW 237 [aa bM,aa je] (aa .bool) [O9]
def O':=bL 0 [(0,aa (az 8)),(3,.c (.arr 0)),(4,.c (.arr 1)),(7,aa (az 8)),(8,aa ab),(9,aa ab)] [.arr ab,.arr .str] [bG (.exit 0) [(0,aa (az 8)),(3,.c (.arr 0)),(4,.c (.arr 1))] [.arr ab,.arr .str]] [] [(.slot 3,ab),(.slot 4,.str)]
def Rr:=aW 209 [aa (az 8)] (aa .bool) [O']
def RN:=aW 238 [.row 10] (aa .bool)
def Pa:=bL 0 [(1,au 0 0),(3,.c (.arr 1)),(4,.c (.arr 2)),(8,aa (az 9)),(9,aa ab),(10,aa ab)] [.bk 7,.arr ab,.arr .str] [eR 2 .bool,bG (.exit 0) [(1,au 0 0),(3,.c (.arr 1)),(4,.c (.arr 2))] [.bk 7,.arr ab,.arr .str]] [] [(.slot 3,ab),(.slot 4,.str)]
def Rs:=aW 210 [.row 7] (aa .bool) [Pa]
def Q7:=aW 169 [.row 7] (aa .bool)
def Pb:=bL 0 [(1,au 0 0),(3,.c (.arr 1)),(7,aa (az 9)),(8,aa ab),(9,aa ab)] [.bk 7,.arr ab] [bG (.exit 0) [(1,au 0 0),(3,.c (.arr 1))] [.bk 7,.arr ab]] [] [(.slot 3,ab)]
def Q8:=aW 170 [.row 7] (aa bM) [Pb]
def Mb:=bL 0 [(1,au 0 0),(3,.c (.mp 1)),(5,au 2 0),(14,aa (az 7)),(15,aa ab),(16,aa ab),(38,aa bM),(39,aa ab),(40,aa ab)] [b8 (az 7),.set,.box [.hole ab,.hole .str,.hole ab,.hole ab,.hole ab,.hole (az 8),.hole (az 9),.hole ab,.hole ab,.hole .bool]] [eR 2 ab,bG (.exit 2) [(1,au 0 0),(3,.c (.mp 1)),(5,au 2 0),(14,aa (az 7)),(15,aa ab),(16,aa ab)] [b8 (az 7),.set,.box [.hole ab,.hole .str,.hole ab,.hole ab,.hole ab,.hole (az 8),.hole (az 9),.hole ab,.hole ab,.hole .bool]]]
def Pc:=bL 0 [(1,au 0 0),(3,.c (.mp 1)),(14,aa (az 7)),(15,aa ab),(16,aa ab)] [b8 (az 7),.set] [eR 2 ab,gn 0] [Mb]
def Bv:=aW 139 [.row 12] (aa ab) [Pc]
def Fj:=aW 105 [.row 13] (aa ab)
def Fv:=bL 0 [(6,aa (az 13)),(7,aa ab),(8,aa ab)] [] [eR 2 ab,gn 0]
def Fu:=aW 65 [aa (az 13)] (aa ab) [Fv]
def Q9:=aW 171 [au 0 0,aa ab] (.aY [.row 10,aa .bool]) [] [.box [.hole (az 7),.arr 1,.hole bM,.hole ab],.arr ab] [.box [.hole (az 7),.arr 2,.arr 3,.hole ab],.gone,.arr ab,.arr ab]
def Pd:=bL 0 [(0,aa .str),(4,aa (.int .u64)),(17,aa ab),(18,aa ab)] [] [bG (.exit 0) [(4,aa (.int .u64))]]
def Q':=aW 172 [aa .str] (.aY [aa (.int .u64),aa ab]) [Pd]
def Ra:=aW 173 [aa (.int .u64)] (aa ab)
def Rp:=aW 206 [.row 8,au 0 0] (aa .bool) [] [b8 ab] [b8 ab]
def Pe:=bL 0 [(0,aa (az 8)),(1,.c (.fn 206 [0])),(7,aa ab),(8,aa ab)] [b8 ab] [bG .ret [(4,aa ab)] [b8 ab],bG (.exit 0) [] [b8 ab]]
def Ro:=aW 205 [aa (az 8),.c (.fn 206 [0])] (aa ab) [Pe] [b8 ab] [b8 ab]
def Q5:=aW 165 [.row 7,aa ab] (.aY [aa ab,aa .bool])
def o6:=aW 174 [au 0 0,aa ab,aa ab,aa .str] (.aY [.row 10,aa .bool]) [] [.box [.hole (az 7),.arr 1,.hole bM,.hole ab],.arr ab] [.box [.hole (az 7),.arr 2,.hole bM,.hole ab],.gone,.arr ab]
def Pf:=bL 0 [(0,aa .str),(5,aa (.int .u64)),(10,aa ab),(11,aa ab)] [] [bG .ret [(2,aa (.int .u64)),(3,aa ab),(4,aa ab)],gn 0]
def RZ:=aW 254 [aa .str] (.aY [aa (.int .u64),aa ab,aa ab]) [Pf]
def RS:=aW 243 [aa .str] (.aY [aa (.int .u64),aa .str,aa .bool])
def Ru:=aW 212 [aa .str] (.aY [aa ab,aa .str,aa ab])
def Q2:=aW 138 [.row 9,au 0 0] (aa .bool) [] [b8 ab] [b8 ab]
def Pg:=bL 0 [(0,aa (az 9)),(1,.c (.fn 138 [0])),(7,aa ab),(8,aa ab)] [b8 ab] [bG .ret [(4,aa ab)] [b8 ab],bG (.exit 0) [] [b8 ab]]
def Q1:=aW 137 [aa (az 9),.c (.fn 138 [0])] (aa ab) [Pg] [b8 ab] [b8 ab]
def Sq:=aW 98 [.row 7,aa ab] (.aY [aa ab,aa .bool])
def Bw:=aW 175 [au 0 0,.row 7,aa .str] (.aY [.row 10,aa .bool]) [] [.box [.hole (az 7),.arr 1,.hole bM,.hole ab],.arr ab] [.box [.hole (az 7),.arr 2,.hole bM,.hole ab],.gone,.arr ab]
def RT:=aW 244 [aa .str] (.aY [aa .str,aa .str,aa .bool])
def Ph:=bL 0 [(4,.c (.arr 0)),(5,aa .str)] [.arr .str] [bG .ret [(2,.c (.aA)),(3,aa ab)],bG (.exit 0) [(4,.c (.arr 0))] [.arr .str]] [] [(.slot 4,.str)]
def Rv:=aW 213 [aa .str] (.aY [aa je,aa ab]) [Ph]
def AU:=bL 0 [(0,au 0 0),(4,au 2 0),(6,au 3 0),(10,au 4 0),(38,aa je),(39,aa ab),(40,aa ab)] [.box [.hole (az 7),.arr 5,.hole bM,.hole ab],.gone,.bk 7,.box [.hole ab,.hole .bool,.hole ab,.hole .str,.hole ab,.aA,.aA,.aA],.box [.hole ab,.hole .bool,.hole ab,.hole .str,.hole ab,.aA,.arr 6,.aA],.arr ab,.arr (.nm 10)] [bG .ret [(6,au 2 0),(7,aa .bool)] [.box [.hole (az 7),.arr 3,.hole bM,.hole ab],.gone,.bk 10,.arr ab],bG (.exit 0) [(6,au 2 0),(10,au 3 0)] [.box [.hole (az 7),.arr 4,.hole bM,.hole ab],.gone,.box [.hole ab,.hole .bool,.hole ab,.hole .str,.hole ab,.aA,.aA,.aA],.box [.hole ab,.hole .bool,.hole ab,.hole .str,.hole ab,.aA,.arr 5,.aA],.arr ab,.arr (.nm 10)]] [] [(.via 10 6,.nm 10)]
def Bx:=aW 176 [au 0 0,.row 7,aa .str] (.aY [.row 10,aa .bool]) [AU] [.box [.hole (az 7),.arr 1,.hole bM,.hole ab],.arr ab] [.box [.hole (az 7),.arr 2,.hole bM,.hole ab],.gone,.arr ab]
def Rh:=aW 188 [aa ab] (aa (.int .u64))
def RX:=aW 252 [aa (.int .u64)] (aa .bool)
def RH:=aW 232 [aa (.int .u64),aa (.int .u64)] (aa ab)
def RW:=aW 250 [aa ab] (aa .bool)
def RE:=aW 227 [aa ab,aa ab] (aa ab)
def RY:=aW 253 [aa .str] (aa .bool)
def RJ:=aW 234 [aa .str,aa .str] (aa ab)
def Pj:=bL 0 [(3,aa ab),(6,aa bM),(7,aa ab),(8,aa ab)] [] [eR 2 ab,bG (.exit 0) [(3,aa ab)]]
def RI:=aW 233 [aa bM] (aa ab) [Pj]
def Rn:=aW 204 [.row 10,.row 10] (aa ab)
def AV:=bL 0 [(0,au 0 0),(4,au 2 0),(6,au 3 0),(8,aa je),(10,au 4 0),(11,aa ab)] [.box [.hole (az 7),.arr 5,.hole bM,.hole ab],.gone,.bk 7,.box [.hole ab,.hole .bool,.hole ab,.hole .str,.hole ab,.aA,.aA,.aA],.box [.hole ab,.hole .bool,.hole ab,.hole .str,.hole ab,.arr 6,.aA,.aA],.arr ab,.arr (.nm 10)] [bG .ret [(6,au 2 0),(7,aa .bool)] [.box [.hole (az 7),.arr 3,.hole bM,.hole ab],.gone,.bk 10,.arr ab],bG (.exit 0) [(0,au 0 0),(4,au 2 0),(6,au 3 0),(8,aa je),(10,au 4 0)] [.box [.hole (az 7),.arr 5,.hole bM,.hole ab],.gone,.bk 7,.box [.hole ab,.hole .bool,.hole ab,.hole .str,.hole ab,.aA,.aA,.aA],.box [.hole ab,.hole .bool,.hole ab,.hole .str,.hole ab,.arr 6,.aA,.aA],.arr ab,.arr (.nm 10)]] [] [(.via 10 5,.nm 10)]
def Pk:=bL 1 [(0,au 0 0),(4,au 2 0),(6,au 3 0),(8,aa je),(10,au 4 0),(14,aa ab)] [.box [.hole (az 7),.arr 5,.hole bM,.hole ab],.gone,.bk 7,.box [.hole ab,.hole .bool,.hole ab,.hole .str,.hole ab,.aA,.aA,.aA],.box [.hole ab,.hole .bool,.hole ab,.hole .str,.hole ab,.arr 6,.aA,.aA],.arr ab,.arr (.nm 10)] [bG .ret [(6,au 2 0),(7,aa .bool)] [.box [.hole (az 7),.arr 3,.arr 4,.hole ab],.gone,.bk 10,.arr ab,.arr ab],bG (.exit 2) [(0,au 0 0),(4,au 2 0),(6,au 3 0),(8,aa je),(10,au 4 0)] [.box [.hole (az 7),.arr 5,.hole bM,.hole ab],.gone,.bk 7,.box [.hole ab,.hole .bool,.hole ab,.hole .str,.hole ab,.aA,.aA,.aA],.box [.hole ab,.hole .bool,.hole ab,.hole .str,.hole ab,.arr 6,.aA,.aA],.arr ab,.arr (.nm 10)]]
def AW:=bL 2 [(0,au 0 0),(4,au 2 0),(6,au 3 0),(8,aa je),(10,au 4 0),(15,aa ab)] [.box [.hole (az 7),.arr 5,.hole bM,.hole ab],.gone,.bk 7,.box [.hole ab,.hole .bool,.hole ab,.hole .str,.hole ab,.aA,.aA,.aA],.box [.hole ab,.hole .bool,.hole ab,.hole .str,.hole ab,.arr 6,.arr 7,.aA],.arr ab,.arr (.nm 10),.arr (.nm 10)] [bG .ret [(6,au 2 0),(7,aa .bool)] [.box [.hole (az 7),.arr 3,.hole bM,.hole ab],.gone,.bk 10,.arr ab],bG (.exit 4) [(6,au 2 0),(10,au 3 0)] [.box [.hole (az 7),.arr 4,.hole bM,.hole ab],.gone,.box [.hole ab,.hole .bool,.hole ab,.hole .str,.hole ab,.aA,.aA,.aA],.box [.hole ab,.hole .bool,.hole ab,.hole .str,.hole ab,.arr 5,.arr 6,.aA],.arr ab,.arr (.nm 10),.arr (.nm 10)]] [] [(.via 10 6,.nm 10)]
def By:=aW 177 [au 0 0,.row 7,aa .str] (.aY [.row 10,aa .bool]) [AV,Pk,AW] [.box [.hole (az 7),.arr 1,.hole bM,.hole ab],.arr ab] [.box [.hole (az 7),.arr 2,.hole bM,.hole ab],.gone,.arr ab]
def Pl:=bL 0 [(4,.c (.arr 0)),(5,aa (.int .u64)),(6,aa .str)] [.arr (.nm 14)] [bG .ret [(2,.c (.aA)),(3,aa ab)],bG (.exit 0) [(4,.c (.arr 0))] [.arr (.nm 14)]] [] [(.slot 4,.nm 14)]
def Rw:=aW 214 [aa .str] (.aY [aa (az 14),aa ab]) [Pl]
def Ry:=aW 216 [.row 14,au 0 0] (aa .bool) [] [.bk 9] [.bk 9]
def Pm:=bL 0 [(0,aa (az 14)),(1,.c (.fn 216 [0])),(7,aa ab),(8,aa ab)] [.bk 9] [bG .ret [(4,aa ab)] [.bk 9],bG (.exit 0) [] [.bk 9]]
def Rx:=aW 215 [aa (az 14),.c (.fn 216 [0])] (aa ab) [Pm] [.bk 9] [.bk 9]
def AX:=bL 0 [(1,au 0 0),(2,au 1 0),(20,.c (.arr 2)),(21,aa ab),(22,aa ab)] [.box [.hole ab,.hole .bool,.hole ab,.hole .str,.hole ab,.arr 2,.arr 3,.arr 4],.box [.hole ab,.hole .bool,.hole ab,.hole .str,.hole ab,.aA,.aA,.aA],.arr (.nm 10),.arr (.nm 10),.arr (.nm 11)] [bG (.exit 0) [(1,au 0 0),(2,au 1 0)] [.box [.hole ab,.hole .bool,.hole ab,.hole .str,.hole ab,.arr 2,.arr 3,.arr 4],.box [.hole ab,.hole .bool,.hole ab,.hole .str,.hole ab,.aA,.aA,.aA],.arr (.nm 10),.arr (.nm 10),.arr (.nm 11)]]
def Ak:=bL 1 [(1,au 0 0),(2,au 1 0),(35,.c (.arr 2)),(36,aa ab),(37,aa ab)] [.box [.hole ab,.hole .bool,.hole ab,.hole .str,.hole ab,.arr 3,.arr 2,.arr 4],.box [.hole ab,.hole .bool,.hole ab,.hole .str,.hole ab,.aA,.aA,.aA],.arr (.nm 10),.arr (.nm 10),.arr (.nm 11)] [bG (.exit 2) [(1,au 0 0),(2,au 1 0)] [.box [.hole ab,.hole .bool,.hole ab,.hole .str,.hole ab,.arr 2,.arr 3,.arr 4],.box [.hole ab,.hole .bool,.hole ab,.hole .str,.hole ab,.aA,.aA,.aA],.arr (.nm 10),.arr (.nm 10),.arr (.nm 11)]]
def u5:=aW 217 [.row 10] (.row 10) [AX,Ak]
def Al:=bL 0 [(0,au 0 0),(4,au 2 0),(6,au 3 0),(8,aa (az 14)),(10,au 4 0),(39,aa (az 9)),(40,aa ab),(41,aa ab)] [.box [.hole (az 7),.arr 5,.hole bM,.hole ab],.gone,.bk 7,.box [.hole ab,.hole .bool,.hole ab,.hole .str,.hole ab,.aA,.aA,.aA],.box [.hole ab,.hole .bool,.hole ab,.hole .str,.hole ab,.aA,.arr 6,.aA],.arr ab,.arr (.nm 10)] [bG .ret [(6,au 2 0),(7,aa .bool)] [.box [.hole (az 7),.arr 3,.hole bM,.hole ab],.gone,.bk 10,.arr ab],bG (.exit 0) [(0,au 0 0),(4,au 2 0),(6,au 3 0),(8,aa (az 14)),(10,au 4 0)] [.box [.hole (az 7),.arr 5,.hole bM,.hole ab],.gone,.bk 7,.box [.hole ab,.hole .bool,.hole ab,.hole .str,.hole ab,.aA,.aA,.aA],.box [.hole ab,.hole .bool,.hole ab,.hole .str,.hole ab,.aA,.arr 6,.aA],.arr ab,.arr (.nm 10)]] [] [(.via 10 6,.nm 10)]
def Pn:=bL 1 [(0,au 0 0),(4,au 2 0),(6,au 3 0),(10,au 4 0),(117,aa (az 14)),(118,aa ab),(119,aa ab)] [.box [.hole (az 7),.arr 5,.hole bM,.hole ab],.gone,.bk 7,.box [.hole ab,.hole .bool,.hole ab,.hole .str,.hole ab,.aA,.aA,.aA],.box [.hole ab,.hole .bool,.hole ab,.hole .str,.hole ab,.aA,.arr 6,.arr 7],.arr ab,.arr (.nm 10),.arr (.nm 11)] [bG .ret [(6,au 2 0),(7,aa .bool)] [.box [.hole (az 7),.arr 3,.arr 4,.hole ab],.gone,.bk 10,.arr ab,.arr ab],bG (.exit 3) [(6,au 2 0),(10,au 3 0)] [.box [.hole (az 7),.arr 4,.hole bM,.hole ab],.gone,.box [.hole ab,.hole .bool,.hole ab,.hole .str,.hole ab,.aA,.aA,.aA],.box [.hole ab,.hole .bool,.hole ab,.hole .str,.hole ab,.aA,.arr 5,.arr 6],.arr ab,.arr (.nm 10),.arr (.nm 11)]] [] [(.via 10 7,.nm 11)]
def Bz:=aW 178 [au 0 0,.row 7,aa .str] (.aY [.row 10,aa .bool]) [Al,Pn] [.box [.hole (az 7),.arr 1,.hole bM,.hole ab],.arr ab] [.box [.hole (az 7),.arr 2,.hole bM,.hole ab],.gone,.arr ab]
def xM:=aW 140 [au 0 0,aa ab,aa .str] (.aY [.row 10,aa .bool]) [] [.box [.hole (az 7),.arr 1,.hole bM,.hole ab],.arr ab] [.box [.hole (az 7),.arr 2,.hole bM,.hole ab],.gone,.arr ab]
def QU:=aW 102 [.row 12,aa ab,aa .str] (.aY [.row 10,.row 15,aa ab])
def BK:=aW 63 [.row 12,aa ab,aa .str] (.aY [.row 10,aa ab])
def QW:=aW 129 [.row 12,aa ab] (aa ab)
def RG:=aW 230 [.row 10] (.row 10)
def Rl:=aW 201 [.row 10] (aa .bool)
def Rm:=aW 202 [aa ab] (aa .bool)
def BG:=aW 231 [.row 10,au 0 0,au 1 0,au 2 0] (aa .bool) [] [b8 (az 7),b8 ab,b8 .bool] [b8 (az 7),b8 ab,b8 .bool]
def zz:=bL 0 [(0,aa (az 10)),(1,.c (.fn 231 [0,1,2])),(7,aa ab),(8,aa ab)] [b8 (az 7),b8 ab,b8 .bool] [bG .ret [(4,aa ab)] [b8 (az 7),b8 ab,b8 .bool],bG (.exit 0) [] [b8 (az 7),b8 ab,b8 .bool]]
def DW:=aW 207 [aa (az 10),.c (.fn 231 [0,1,2])] (aa ab) [zz] [b8 (az 7),b8 ab,b8 .bool] [b8 (az 7),b8 ab,b8 .bool]
def DX:=aW 166 [aa (az 10),.c (.fn 231 [0,1,2])] (aa .bool) [] [b8 (az 7),b8 ab,b8 .bool] [b8 (az 7),b8 ab,b8 .bool]
def BF:=aW 203 [.row 12,aa ab,aa (az 10),aa .bool] (aa .bool)
def Po:=bL 0 [(3,aa .bool),(4,au 0 0),(6,au 1 0),(9,au 2 0),(111,aa (az 11)),(112,aa ab),(113,aa ab)] [b8 (az 7),.bk 10,.box [.hole ab,.hole .str,.hole ab,.hole ab,.hole ab,.hole (az 8),.hole (az 9),.hole ab,.hole ab,.hole .bool]] [eR 8 .bool,bG (.exit 1) [(3,aa .bool),(4,au 0 0),(6,au 1 0),(9,au 2 0)] [b8 (az 7),.box [.hole ab,.hole .bool,.hole ab,.hole .str,.hole ab,.hole (az 10),.hole (az 10),.hole (az 11)],.box [.hole ab,.hole .str,.hole ab,.hole ab,.hole ab,.hole (az 8),.hole (az 9),.hole ab,.hole ab,.hole .bool]]]
def Am:=bL 1 [(3,aa .bool),(4,au 0 0),(6,au 1 0),(150,aa (az 9)),(151,aa ab),(152,aa ab)] [b8 (az 7),.box [.hole ab,.hole .bool,.hole ab,.hole .str,.hole ab,.hole (az 10),.hole (az 10),.hole (az 11)]] [eR 8 .bool,gn 3]
def OU:=bL 2 [(3,aa .bool),(4,au 0 0),(6,au 1 0),(9,au 2 0),(20,aa ab)] [b8 (az 7),.bk 10,.box [.hole ab,.hole .str,.hole ab,.hole ab,.hole ab,.hole (az 8),.hole (az 9),.hole ab,.hole ab,.hole .bool]] [eR 8 .bool,bG (.exit 5) [(3,aa .bool),(4,au 0 0),(6,au 1 0),(9,au 2 0)] [b8 (az 7),.bk 10,.box [.hole ab,.hole .str,.hole ab,.hole ab,.hole ab,.hole (az 8),.hole (az 9),.hole ab,.hole ab,.hole .bool]]]
def sI:=aW 164 [.row 12,aa ab,.row 10,aa .bool] (aa .bool) [Po,Am,OU]
def QX:=aW 130 [.row 12,aa ab,.row 10] (aa .bool)
def Sp:=aW 92 [.row 12,aa ab,.row 10] (aa ab)
def QY:=aW 131 [.row 7,.row 10] (aa .bool)
def Q6:=aW 167 [.row 10,au 0 0,au 1 0] (aa .bool) [] [b8 (az 7),.bk 7] [b8 (az 7),.bk 7]
def Mc:=bL 0 [(0,aa (az 10)),(1,.c (.fn 167 [0,1])),(7,aa ab),(8,aa ab)] [b8 (az 7),.bk 7] [bG .ret [(4,aa ab)] [b8 (az 7),.bk 7],bG (.exit 0) [] [b8 (az 7),.bk 7]]
def OV:=aW 207 [aa (az 10),.c (.fn 167 [0,1])] (aa ab) [Mc] [b8 (az 7),.bk 7] [b8 (az 7),.bk 7]
def OW:=aW 166 [aa (az 10),.c (.fn 167 [0,1])] (aa .bool) [] [b8 (az 7),.bk 7] [b8 (az 7),.bk 7]
def QZ:=aW 132 [.row 12,.row 7,.row 10] (aa .bool)
def OX:=bL 0 [(2,au 0 0),(3,au 1 0),(5,.c (.arr 2)),(11,aa ab),(12,aa ab)] [.bk 7,.bk 10,.arr (.nm 16)] [bG (.exit 0) [(5,.c (.arr 0))] [.arr (.nm 16)]] [] [(.slot 5,.nm 16)]
def Q0:=aW 133 [.row 7,.row 10] (aa (az 16)) [OX]
def An:=bL 0 [(3,au 0 0),(5,au 1 0),(6,au 2 0),(9,au 3 0),(49,aa (az 16)),(50,aa ab),(51,aa ab)] [b8 (az 7),.bk 10,.box [.hole ab,.hole .bool,.hole ab,.hole .str,.hole ab,.aA,.aA,.aA],.box [.hole ab,.hole .bool,.hole ab,.hole .str,.hole ab,.arr 4,.arr 5,.aA],.arr (.nm 10),.arr (.nm 10)] [bG .ret [(6,au 0 0),(7,aa .bool)] [.box [.hole ab,.hole .bool,.hole ab,.hole .str,.hole ab,.aA,.aA,.aA]],bG (.exit 0) [(6,au 0 0),(9,au 1 0)] [.box [.hole ab,.hole .bool,.hole ab,.hole .str,.hole ab,.aA,.aA,.aA],.box [.hole ab,.hole .bool,.hole ab,.hole .str,.hole ab,.arr 2,.arr 3,.aA],.arr (.nm 10),.arr (.nm 10)]] [] [(.via 9 6,.nm 10)]
def xN:=aW 141 [.row 12,aa ab,.row 10] (.aY [.row 10,aa .bool]) [An]
def Bs:=aW 106 [.row 12,aa ab,.row 10] (.aY [.row 10,aa ab])
def Rb:=aW 180 [.row 12,aa ab] (aa ab)
def Rc:=aW 181 [.row 12,aa ab,.row 10] (aa .bool)
def Q3:=aW 142 [.row 12,aa ab,.row 10,.row 12,aa ab] (aa ab)
def Re:=aW 182 [au 0 0] (.aY [.row 10,aa .bool]) [] [.box [.hole (az 7),.hole (az 7),.arr 1,.hole bM],.arr ab] [.box [.hole (az 7),.hole (az 7),.arr 2,.arr 3],.gone,.arr ab,.arr ab]
def Rz:=aW 218 [au 0 0,aa ab] (.aY [.row 10,aa .bool]) [] [.box [.hole (az 7),.hole (az 7),.arr 1,.hole bM],.arr ab] [.box [.hole (az 7),.hole (az 7),.arr 2,.arr 3],.gone,.arr ab,.arr ab]
def Ao:=bL 0 [(1,au 0 0),(2,au 1 0),(20,.c (.arr 2)),(21,aa ab),(22,aa ab)] [.box [.hole ab,.hole .bool,.hole ab,.hole .str,.hole ab,.arr 2,.arr 3,.arr 4],.box [.hole ab,.hole .bool,.hole ab,.hole .str,.hole ab,.aA,.aA,.aA],.arr (.nm 10),.arr (.nm 10),.arr (.nm 11)] [bG (.exit 0) [(1,au 0 0),(2,au 1 0)] [.box [.hole ab,.hole .bool,.hole ab,.hole .str,.hole ab,.arr 2,.arr 3,.arr 4],.box [.hole ab,.hole .bool,.hole ab,.hole .str,.hole ab,.aA,.aA,.aA],.arr (.nm 10),.arr (.nm 10),.arr (.nm 11)]]
def Ap:=bL 1 [(1,au 0 0),(2,au 1 0),(35,.c (.arr 2)),(36,aa ab),(37,aa ab)] [.box [.hole ab,.hole .bool,.hole ab,.hole .str,.hole ab,.arr 3,.arr 2,.arr 4],.box [.hole ab,.hole .bool,.hole ab,.hole .str,.hole ab,.aA,.aA,.aA],.arr (.nm 10),.arr (.nm 10),.arr (.nm 11)] [bG (.exit 2) [(1,au 0 0),(2,au 1 0)] [.box [.hole ab,.hole .bool,.hole ab,.hole .str,.hole ab,.arr 2,.arr 3,.arr 4],.box [.hole ab,.hole .bool,.hole ab,.hole .str,.hole ab,.aA,.aA,.aA],.arr (.nm 10),.arr (.nm 10),.arr (.nm 11)]]
def u6:=aW 219 [.row 10] (.row 10) [Ao,Ap]
def u7:=aW 220 [au 0 0,aa ab,aa ab,.row 10,aa ab] (.aY [.row 10,aa .bool]) [] [.box [.hole (az 7),.hole (az 7),.arr 1,.hole bM],.arr ab] [.box [.hole (az 7),.hole (az 7),.arr 2,.hole bM],.gone,.arr ab]
def zA:=bL 0 [(1,aa (az 10)),(2,.c (.fn 64 [])),(15,aa (az 10)),(16,aa ab),(17,aa ab)] [] [eR 6 .bool,gn 0]
def DY:=aW 104 [aa (az 10),aa (az 10),.c (.fn 64 [])] (aa .bool) [zA]
def xX:=aW 64 [.row 10,.row 10] (aa .bool)
def RB:=aW 221 [.row 9,.row 10] (aa .bool)
def OY:=bL 0 [(0,aa (.int .u64)),(3,au 0 0),(4,aa ab)] [.arr (.int .u8)] [bG (.exit 0) [(0,aa (.int .u64)),(3,au 0 0),(4,aa ab)] [.arr (.int .u8)]]
def RF:=aW 228 [aa (.int .u64)] (aa .str) [OY]
def Rj:=aW 192 [aa .str] (aa .str)
def RD:=aW 224 [aa ab,aa .bool,aa .str] (aa .str)
def RU:=aW 246 [aa ab,aa .bool,aa .str] (.aY [aa .str,aa ab])
def RV:=aW 247 [aa .str] (aa .str)
def Rf:=aW 186 [.row 12,aa ab] (aa ab)
def Q4:=aW 144 [.row 12,aa ab,.row 10] (aa ab)
def OZ:=bL 0 [(0,aa (.int .u64)),(3,au 0 0),(4,aa ab)] [.arr (.int .u8)] [bG (.exit 0) [(3,au 0 0),(4,aa ab)] [.arr (.int .u8)]]
def Rg:=aW 187 [aa (.int .u64)] (aa .str) [OZ]
def RC:=aW 223 [.row 9,.row 10] (aa .bool)
def Ri:=aW 191 [au 0 0,aa .str] (.aY [aa ab,.c (.dead)]) [] [.b9 252 ((.cP 1)),.buf 5] [.b9 252 ((.cP 2)),.gone,.buf 5]
def Rk:=aW 193 [au 0 0] (aa .str) [] [.b9 252 ((.cP 1)),.buf 5] [.b9 252 ((.cP 1)),.gone]
def Aq:=bL 0 [(0,au 0 0),(3,aa ab),(6,au 1 0),(9,.c (.arr 2)),(18,aa (az 9)),(19,aa ab),(20,aa ab)] [.box [.hole (az 7),.hole ab],.bk 10,.arr (.nm 17)] [bG (.exit 0) [(6,au 1 0),(9,.c (.arr 2))] [.box [.hole (az 7),.hole ab],.bk 10,.arr (.nm 17)]] [] [(.slot 9,.nm 17)]
def O0:=bL 1 [(9,.c (.arr 1)),(57,aa (az 11)),(58,aa ab),(59,aa ab)] [.box [.hole (az 7),.hole ab],.arr (.nm 17)] [bG (.exit 2) [(9,.c (.arr 1))] [.box [.hole (az 7),.hole ab],.arr (.nm 17)]]
def O1:=bL 2 [(14,au 1 0),(77,.c (.arr 2)),(78,aa ab),(79,aa ab)] [.box [.hole (az 7),.hole ab],.b9 252 ((.cP 3)),.arr (.nm 17),.buf 5] [bG (.exit 4) [(14,au 1 0)] [.box [.hole (az 7),.hole ab],.b9 252 ((.cP 2)),.buf 5]]
def BD:=aW 189 [au 0 0,.row 7,.row 10,aa ab] (aa .str) [Aq,O0,O1] [.box [.hole (az 7),.hole ab]] [.box [.hole (az 7),.hole ab]]
def BE:=aW 190 [au 0 0,.row 7,.row 10,aa ab] (aa .str) [] [.box [.hole (az 7),.hole ab]] [.box [.hole (az 7),.hole ab]]
def Ar:=bL 0 [(0,au 0 0),(3,aa ab),(6,au 1 0),(9,au 2 0),(10,au 3 0),(84,aa (az 10)),(85,aa ab),(86,aa ab)] [.box [.hole (az 7),.hole ab],.bk 10,.bk 7,.b9 252 ((.cP 4)),.buf 5] [bG (.exit 1) [(10,au 1 0)] [.box [.hole (az 7),.hole ab],.b9 252 ((.cP 2)),.buf 5]]
def qF:=aW 145 [au 0 0,aa ab,.row 10,aa ab] (aa .str) [Ar] [.box [.hole (az 7),.hole ab]] [.box [.hole (az 7),.hole ab]]
def Bu:=aW 108 [.row 12,aa ab,.row 10] (.aY [aa .str,aa ab])
def As:=bL 0 [(3,au 0 0),(5,au 1 0),(8,aa .str),(36,aa (az 9)),(37,aa ab),(38,aa ab)] [b8 (az 7),.bk 10] [bG (.exit 1) [(8,aa .str)]]
def Au:=bL 1 [(3,au 0 0),(7,au 1 0),(8,aa .str),(101,aa (az 10)),(102,aa ab),(103,aa ab)] [b8 (az 7),.bk 7] [bG (.exit 3) [(8,aa .str)]]
def Av:=bL 2 [(3,au 0 0),(5,au 1 0),(7,au 2 0),(8,aa .str),(118,aa (az 10)),(119,aa ab),(120,aa ab)] [b8 (az 7),.bk 10,.bk 7] [bG (.exit 5) [(8,aa .str)]]
def qG:=aW 222 [.row 12,aa ab,.row 10] (aa .str) [As,Au,Av]
def Aw:=bL 0 [(0,au 0 0),(5,au 2 0),(6,au 3 0),(7,au 4 0),(8,au 5 0),(10,au 6 0),(25,aa (az 9)),(26,aa ab),(27,aa ab)] [.box [.hole (az 7),.hole (az 7),.arr 7,.hole bM],.gone,.bk 7,.bk 10,.bk 7,.box [.hole ab,.hole .bool,.hole ab,.hole .str,.hole ab,.aA,.aA,.aA],.box [.hole ab,.hole .bool,.hole ab,.hole .str,.hole ab,.aA,.arr 8,.aA],.arr ab,.arr (.nm 10)] [bG .ret [(8,au 2 0),(9,aa .bool)] [.box [.hole (az 7),.hole (az 7),.arr 3,.hole bM],.gone,.bk 10,.arr ab],bG (.exit 0) [(0,au 0 0),(5,au 2 0),(6,au 3 0),(7,au 4 0),(8,au 5 0),(10,au 6 0)] [.box [.hole (az 7),.hole (az 7),.arr 7,.hole bM],.gone,.bk 7,.bk 10,.bk 7,.box [.hole ab,.hole .bool,.hole ab,.hole .str,.hole ab,.aA,.aA,.aA],.box [.hole ab,.hole .bool,.hole ab,.hole .str,.hole ab,.aA,.arr 8,.aA],.arr ab,.arr (.nm 10)]] [] [(.via 10 6,.nm 10)]
def O2:=bL 1 [(0,au 0 0),(6,au 2 0),(7,au 3 0),(8,au 4 0),(10,au 5 0),(115,aa (az 9)),(116,aa ab),(117,aa ab)] [.box [.hole (az 7),.hole (az 7),.arr 6,.hole bM],.gone,.bk 10,.bk 7,.box [.hole ab,.hole .bool,.hole ab,.hole .str,.hole ab,.aA,.aA,.aA],.box [.hole ab,.hole .bool,.hole ab,.hole .str,.hole ab,.aA,.arr 7,.arr 8],.arr ab,.arr (.nm 10),.arr (.nm 11)] [bG .ret [(8,au 2 0),(9,aa .bool)] [.box [.hole (az 7),.hole (az 7),.arr 3,.arr 4],.gone,.bk 10,.arr ab,.arr ab],bG (.exit 2) [(8,au 2 0),(10,au 3 0)] [.box [.hole (az 7),.hole (az 7),.arr 4,.hole bM],.gone,.box [.hole ab,.hole .bool,.hole ab,.hole .str,.hole ab,.aA,.aA,.aA],.box [.hole ab,.hole .bool,.hole ab,.hole .str,.hole ab,.aA,.arr 5,.arr 6],.arr ab,.arr (.nm 10),.arr (.nm 11)]] [] [(.via 10 7,.nm 11)]
def BA:=aW 183 [au 0 0,.row 7,.row 10,.row 7] (.aY [.row 10,aa .bool]) [Aw,O2] [.box [.hole (az 7),.hole (az 7),.arr 1,.hole bM],.arr ab] [.box [.hole (az 7),.hole (az 7),.arr 2,.hole bM],.gone,.arr ab]
def BB:=aW 184 [au 0 0,.row 7,.row 10,.row 7] (.aY [.row 10,aa .bool]) [] [.box [.hole (az 7),.hole (az 7),.arr 1,.hole bM],.arr ab] [.box [.hole (az 7),.hole (az 7),.arr 2,.hole bM],.gone,.arr ab]
def Ax:=bL 0 [(0,au 0 0),(1,aa ab),(3,aa ab),(10,.c (.arr 2)),(15,aa (az 10)),(16,aa ab),(17,aa ab)] [.box [.hole (az 7),.hole (az 7),.arr 3,.hole bM],.gone,.arr (.nm 10),.arr ab] [bG .ret [(8,.c (.aA)),(9,aa .bool)] [.box [.hole (az 7),.hole (az 7),.arr 2,.hole bM],.gone,.arr ab],bG (.exit 0) [(10,.c (.arr 2))] [.box [.hole (az 7),.hole (az 7),.arr 3,.hole bM],.gone,.arr (.nm 10),.arr ab]] [] [(.slot 10,.nm 10)]
def BC:=aW 185 [au 0 0,aa ab,aa (az 10),aa ab] (.aY [aa (az 10),aa .bool]) [Ax] [.box [.hole (az 7),.hole (az 7),.arr 1,.hole bM],.arr ab] [.box [.hole (az 7),.hole (az 7),.arr 2,.hole bM],.gone,.arr ab]
def xO:=aW 143 [au 0 0,aa ab,.row 10,aa ab] (.aY [.row 10,aa .bool]) [] [.box [.hole (az 7),.hole (az 7),.arr 1,.hole bM],.arr ab] [.box [.hole (az 7),.hole (az 7),.arr 2,.hole bM],.gone,.arr ab]
def Bt:=aW 107 [.row 12,aa ab,.row 10,.row 12,aa ab] (.aY [.row 10,aa ab])
def Fw:=aW 66 [.row 13,.row 13,aa .str] (.aY [.row 18,aa ab])
def R9:=aW 42 [.row 13,.row 13,aa .str] (.aY [.row 18,aa ab])
def sH:=aW 12 [.row 13,.row 13,aa .str] (.aY [aa .str,aa ab])
def afN:=aW 136 [.row 11,au 0 0] (aa .bool) [] [.bk 9] [.bk 9]
def adG:=bL 0 [(0,aa (az 11)),(1,.c (.fn 136 [0])),(7,aa ab),(8,aa ab)] [.bk 9] [bG .ret [(4,aa ab)] [.bk 9],bG (.exit 0) [] [.bk 9]]
def af9:=aW 168 [aa (az 11),.c (.fn 136 [0])] (aa ab) [adG] [.bk 9] [.bk 9]
def afM:=aW 135 [aa (az 11),.c (.fn 136 [0])] (aa .bool) [] [.bk 9] [.bk 9]
def ag0:=aW 99 [aa bM,aa ab] (aa bM)
def agZ:=bL 0 [(0,au 0 0),(5,aa bM),(7,au 2 0),(8,au 3 0),(10,au 4 0),(18,aa (az 9)),(19,aa ab),(20,aa ab)] [.box [.hole (az 7),.hole (az 7),.arr 5],.gone,.bk 7,.bk 10,.bk 10,.arr bM] [bG (.exit 0) [] [.box [.hole (az 7),.hole (az 7),.arr 2],.gone,.arr bM]]
def agY:=aW 97 [au 0 0,.row 7,.row 10,.row 7,.row 10,aa bM] (.aY []) [agZ] [.box [.hole (az 7),.hole (az 7),.arr 1],.arr bM] [.box [.hole (az 7),.hole (az 7),.arr 2],.gone,.arr bM]
def agB:=bL 0 [(0,au 0 0),(5,aa bM),(8,au 2 0),(10,au 3 0),(12,au 4 0),(13,au 5 0),(39,aa ab),(40,aa ab)] [.box [.hole (az 7),.hole (az 7),.arr 6],.gone,.bk 10,.bk 10,.bk 7,.bk 7,.arr bM] [bG (.exit 1) [] [.box [.hole (az 7),.hole (az 7),.arr 2],.gone,.arr bM]]
def Ft:=aW 60 [au 0 0,aa ab,.row 10,aa ab,.row 10,aa bM] (.aY []) [agB] [.box [.hole (az 7),.hole (az 7),.arr 1],.arr bM] [.box [.hole (az 7),.hole (az 7),.arr 2],.gone,.arr bM]
def RP:=aW 24 [.row 13,.row 13,aa .str] (.aY [aa (.slice bM),aa ab])
def acH:=bL 0 [(3,aa bM),(4,au 1 0),(6,au 2 0),(10,.c (.arr 3)),(39,aa (az 16)),(40,aa ab),(41,aa ab)] [.gone,b8 (az 7),.bk 10,.arr bM] [bG (.exit 0) [(10,.c (.arr 1))] [.gone,.arr bM]] [] [(.slot 10,bM)]
def agW:=aW 93 [.row 12,aa ab,.row 10,.c (.arr 0)] (aa (.slice bM)) [acH] [.arr ab] [.gone]
def acI:=bL 0 [(3,aa bM),(4,au 0 0),(6,au 1 0),(10,.c (.arr 2)),(39,aa (az 16)),(40,aa ab),(41,aa ab)] [b8 (az 7),.bk 10,.arr bM] [bG (.exit 0) [(10,.c (.arr 0))] [.arr bM]] [] [(.slot 10,bM)]
def agX:=aW 93 [.row 12,aa ab,.row 10,aa bM] (aa (.slice bM)) [acI]
def Fs:=aW 58 [.row 12,aa ab,.row 10] (.aY [aa (.slice bM),aa ab])
def RA:=aW 22 [.row 13,.row 13,aa .str] (.aY [aa (.slice bM),aa ab])
def Sf:=bL 0 [(0,aa bM),(1,aa bM),(5,aa ab)] [] [eR 4 .bool,gn 0]
def Se:=aW 62 [aa bM,aa bM] (aa .bool) [Sf]
def R1:=bL 0 [(0,aa (.slice bM)),(1,aa (.slice bM)),(5,aa ab)] [] [eR 4 .bool,gn 0]
def R0:=aW 26 [aa (.slice bM),aa (.slice bM)] (aa .bool) [R1]
def Fk:=aW 11 [] (aa .bool)
def afY:=aW 154 [.row 7] (.row 7)
def agc:=aW 195 [.row 9,.row 9] (aa .bool)
def Qf:=bL 0 [(2,au 0 0),(3,au 1 0),(5,aa ab)] [.bk 7,.bk 7] [eR 4 .bool,bG (.exit 0) [(2,au 0 0),(3,au 1 0)] [.bk 7,.bk 7]]
def Qg:=bL 1 [(2,au 0 0),(3,au 1 0),(6,aa ab)] [.bk 7,.bk 7] [eR 4 .bool,gn 2]
def afX:=aW 153 [.row 7,.row 7] (aa .bool) [Qf,Qg]
def agd:=aW 196 [aa (.int .u8)] (aa .bool)
def age:=aW 197 [aa (.int .u8)] (aa .bool)
def Qh:=bL 0 [(0,aa .str),(3,aa ab)] [] [eR 2 .bool,gn 0]
def afZ:=aW 155 [aa .str] (aa .bool) [Qh]
def agf:=aW 198 [aa ab,aa ab] (aa .bool)
def Md:=bL 0 [(0,aa (az 8)),(4,aa ab),(5,aa ab)] [] [eR 2 .bool,bG (.exit 2) [(0,aa (az 8)),(4,aa ab)]]
def Qi:=bL 0 [(0,aa (az 8)),(3,aa ab),(4,aa ab)] [] [eR 2 .bool,bG (.exit 0) [(0,aa (az 8))]] [Md]
def af0:=aW 156 [aa (az 8)] (aa .bool) [Qi]
def Me:=bL 0 [(0,aa (az 9)),(1,aa .bool),(6,aa ab),(7,au 0 0),(8,aa ab)] [.bk 9] [eR 4 .bool,bG (.exit 2) [(0,aa (az 9)),(1,aa .bool),(6,aa ab),(7,au 0 0)] [.bk 9]]
def Qj:=bL 0 [(0,aa (az 9)),(1,aa .bool),(5,aa ab),(6,aa ab)] [] [eR 4 .bool,bG (.exit 0) [(0,aa (az 9)),(1,aa .bool)]] [Me]
def af1:=aW 157 [aa (az 9),aa .bool] (aa .bool) [Qj]
def afA:=aW 113 [.row 7] (aa .bool)
def Qk:=bL 0 [(1,au 0 0),(3,.c (.arr 1)),(4,aa ab)] [.bk 7,.arr ab] [bG (.exit 0) [(1,au 0 0),(3,.c (.arr 1))] [.bk 7,.arr ab]] [] [(.slot 3,ab)]
def afB:=aW 114 [.row 7] (aa bM) [Qk]
def OT:=bL 0 [(1,au 0 0),(3,aa ab),(4,au 1 0),(5,aa ab)] [b8 (az 7),.box [.hole ab,.hole .str,.hole ab,.hole ab,.hole ab,.hole (az 8),.hole (az 9),.hole ab,.hole ab,.hole .bool]] [eR 2 ab,bG (.exit 2) [(1,au 0 0),(3,aa ab),(4,au 1 0)] [b8 (az 7),.box [.hole ab,.hole .str,.hole ab,.hole ab,.hole ab,.hole (az 8),.hole (az 9),.hole ab,.hole ab,.hole .bool]]]
def Od:=bL 1 [(1,au 0 0),(3,aa ab),(4,au 1 0),(6,aa bM),(7,aa ab)] [b8 (az 7),.box [.hole ab,.hole .str,.hole ab,.hole ab,.hole ab,.hole (az 8),.hole (az 9),.hole ab,.hole ab,.hole .bool]] [eR 2 ab,bG (.exit 4) [(1,au 0 0),(3,aa ab),(4,au 1 0)] [b8 (az 7),.box [.hole ab,.hole .str,.hole ab,.hole ab,.hole ab,.hole (az 8),.hole (az 9),.hole ab,.hole ab,.hole .bool]]]
def Sk:=bL 0 [(1,au 0 0),(3,aa ab)] [b8 (az 7)] [eR 2 ab,gn 0] [OT,Od]
def agN:=aW 79 [.row 12] (aa ab) [Sk]
def agK:=aW 75 [.row 12,aa ab] (aa ab)
def agC:=aW 67 [.row 13,.row 13] (aa ab)
def agT:=aW 87 [aa bM,aa ab] (.row 19)
def Ql:=bL 0 [(0,aa .str),(4,aa (.int .u64)),(5,aa ab)] [] [bG (.exit 0) [(4,aa (.int .u64))]]
def af2:=aW 158 [aa .str] (.aY [aa (.int .u64),aa ab]) [Ql]
def afD:=aW 116 [aa .str] (.aY [aa (.int .u64),aa .bool])
def afE:=aW 117 [aa (.int .u64)] (aa ab)
def afF:=aW 118 [aa bM,aa ab] (aa bM)
def Qm:=bL 0 [(0,aa .str),(5,aa (.int .u64)),(6,aa (.int .u64)),(7,aa ab)] [] [bG .ret [(2,aa (.int .u64)),(3,aa ab),(4,aa ab)],gn 0]
def agh:=aW 199 [aa .str] (.aY [aa (.int .u64),aa ab,aa ab]) [Qm]
def af3:=aW 159 [aa .str] (.aY [aa ab,aa .str,aa ab])
def afG:=aW 123 [.row 10] (.row 19)
def Fl:=aW 119 [.row 12,.row 7,aa .str,aa ab,aa bM] (.row 19)
def agj:=aW 200 [aa .str] (.aY [aa .str,aa .str,aa .bool])
def Qn:=bL 0 [(0,aa .str),(4,.c (.arr 0))] [.arr .str] [bG .ret [(2,.c (.aA)),(3,aa ab)],bG (.exit 0) [(4,.c (.arr 0))] [.arr .str]] [] [(.slot 4,.str)]
def af5:=aW 160 [aa .str] (.aY [aa je,aa ab]) [Qn]
def Ay:=bL 0 [(3,aa ab),(4,aa bM),(5,au 0 0),(6,au 1 0),(10,au 2 0),(11,aa je),(13,au 3 0),(14,aa ab)] [b8 (az 7),.bk 7,.box [.hole ab,.hole .bool,.hole ab,.hole .str,.hole ab,.aA,.aA,.aA,.aA,.hole ab,.hole .bool],.box [.hole ab,.hole .bool,.hole ab,.hole .str,.hole ab,.aA,.arr 4,.aA],.arr (.nm 10)] [bG .ret [(10,au 0 0)] [.bk 19],bG (.exit 0) [(10,au 0 0),(13,au 1 0)] [.box [.hole ab,.hole .bool,.hole ab,.hole .str,.hole ab,.aA,.aA,.aA,.aA,.hole ab,.hole .bool],.box [.hole ab,.hole .bool,.hole ab,.hole .str,.hole ab,.aA,.arr 2,.aA],.arr (.nm 10)]] [] [(.via 13 6,.nm 10)]
def Fm:=aW 120 [.row 12,.row 7,aa .str,aa ab,aa bM] (.row 19) [Ay]
def Az:=bL 0 [(3,aa ab),(4,aa bM),(5,au 0 0),(6,au 1 0),(10,au 2 0),(11,aa je),(13,au 3 0),(14,aa ab)] [b8 (az 7),.bk 7,.box [.hole ab,.hole .bool,.hole ab,.hole .str,.hole ab,.aA,.aA,.aA,.aA,.hole ab,.hole .bool],.box [.hole ab,.hole .bool,.hole ab,.hole .str,.hole ab,.arr 4,.aA,.aA],.arr (.nm 10)] [bG .ret [(10,au 0 0)] [.bk 19],bG (.exit 0) [(3,aa ab),(4,aa bM),(5,au 0 0),(6,au 1 0),(10,au 2 0),(11,aa je),(13,au 3 0)] [b8 (az 7),.bk 7,.box [.hole ab,.hole .bool,.hole ab,.hole .str,.hole ab,.aA,.aA,.aA,.aA,.hole ab,.hole .bool],.box [.hole ab,.hole .bool,.hole ab,.hole .str,.hole ab,.arr 4,.aA,.aA],.arr (.nm 10)]] [] [(.via 13 5,.nm 10)]
def Qo:=bL 1 [(3,aa ab),(4,aa bM),(5,au 0 0),(6,au 1 0),(10,au 2 0),(11,aa je),(13,au 3 0),(16,aa ab)] [b8 (az 7),.bk 7,.box [.hole ab,.hole .bool,.hole ab,.hole .str,.hole ab,.aA,.aA,.aA,.aA,.hole ab,.hole .bool],.box [.hole ab,.hole .bool,.hole ab,.hole .str,.hole ab,.arr 4,.aA,.aA],.arr (.nm 10)] [bG .ret [(10,au 0 0)] [.bk 19],bG (.exit 2) [(3,aa ab),(4,aa bM),(5,au 0 0),(6,au 1 0),(10,au 2 0),(11,aa je),(13,au 3 0)] [b8 (az 7),.bk 7,.box [.hole ab,.hole .bool,.hole ab,.hole .str,.hole ab,.aA,.aA,.aA,.aA,.hole ab,.hole .bool],.box [.hole ab,.hole .bool,.hole ab,.hole .str,.hole ab,.arr 4,.aA,.aA],.arr (.nm 10)]]
def AA:=bL 2 [(3,aa ab),(4,aa bM),(5,au 0 0),(6,au 1 0),(10,au 2 0),(11,aa je),(13,au 3 0),(17,aa ab)] [b8 (az 7),.bk 7,.box [.hole ab,.hole .bool,.hole ab,.hole .str,.hole ab,.aA,.aA,.aA,.aA,.hole ab,.hole .bool],.box [.hole ab,.hole .bool,.hole ab,.hole .str,.hole ab,.arr 4,.arr 5,.aA],.arr (.nm 10),.arr (.nm 10)] [bG .ret [(10,au 0 0)] [.bk 19],bG (.exit 4) [(10,au 0 0),(13,au 1 0)] [.box [.hole ab,.hole .bool,.hole ab,.hole .str,.hole ab,.aA,.aA,.aA,.aA,.hole ab,.hole .bool],.box [.hole ab,.hole .bool,.hole ab,.hole .str,.hole ab,.arr 2,.arr 3,.aA],.arr (.nm 10),.arr (.nm 10)]] [] [(.via 13 6,.nm 10)]
def Fo:=aW 121 [.row 12,.row 7,aa .str,aa ab,aa bM] (.row 19) [Az,Qo,AA]
def Qp:=bL 0 [(0,aa .str),(4,.c (.arr 0)),(5,aa ab)] [.arr (.nm 14)] [bG .ret [(2,.c (.aA)),(3,aa ab)],bG (.exit 0) [(4,.c (.arr 0))] [.arr (.nm 14)]] [] [(.slot 4,.nm 14)]
def af6:=aW 161 [aa .str] (.aY [aa (az 14),aa ab]) [Qp]
def Qq:=bL 0 [(0,aa (az 14)),(1,aa ab),(5,aa ab)] [] [eR 4 ab,gn 0]
def af7:=aW 162 [aa (az 14),aa ab] (aa ab) [Qq]
def AB:=bL 0 [(3,aa ab),(4,aa bM),(5,au 0 0),(6,au 1 0),(10,au 2 0),(11,aa (az 14)),(13,au 3 0),(14,aa ab)] [b8 (az 7),.bk 7,.box [.hole ab,.hole .bool,.hole ab,.hole .str,.hole ab,.aA,.aA,.aA,.aA,.hole ab,.hole .bool],.box [.hole ab,.hole .bool,.hole ab,.hole .str,.hole ab,.aA,.arr 4,.aA],.arr (.nm 10)] [bG .ret [(10,au 0 0)] [.bk 19],bG (.exit 0) [(4,aa bM),(6,au 0 0),(10,au 1 0),(11,aa (az 14)),(13,au 2 0)] [.bk 7,.box [.hole ab,.hole .bool,.hole ab,.hole .str,.hole ab,.aA,.aA,.aA,.aA,.hole ab,.hole .bool],.box [.hole ab,.hole .bool,.hole ab,.hole .str,.hole ab,.aA,.arr 3,.aA],.arr (.nm 10)]] [] [(.via 13 6,.nm 10)]
def Qr:=bL 1 [(4,aa bM),(6,au 0 0),(10,au 1 0),(11,aa (az 14)),(13,au 2 0),(18,aa ab)] [.bk 7,.box [.hole ab,.hole .bool,.hole ab,.hole .str,.hole ab,.aA,.aA,.aA,.aA,.hole ab,.hole .bool],.box [.hole ab,.hole .bool,.hole ab,.hole .str,.hole ab,.aA,.arr 3,.arr 4],.arr (.nm 10),.arr (.nm 11)] [bG .ret [(10,au 0 0)] [.bk 19],bG (.exit 2) [(10,au 0 0),(13,au 1 0)] [.box [.hole ab,.hole .bool,.hole ab,.hole .str,.hole ab,.aA,.aA,.aA,.aA,.hole ab,.hole .bool],.box [.hole ab,.hole .bool,.hole ab,.hole .str,.hole ab,.aA,.arr 2,.arr 3],.arr (.nm 10),.arr (.nm 11)]] [] [(.via 13 7,.nm 11)]
def Fp:=aW 122 [.row 12,.row 7,aa .str,aa ab,aa bM] (.row 19) [AB,Qr]
def o8:=aW 88 [.row 12,aa ab,aa .str,aa ab,aa bM] (.row 19)
def agt:=aW 48 [.row 12,aa ab,aa .str] (.aY [.row 19,aa ab])
def af':=aW 17 [.row 12,aa ab,aa .str] (.aY [.row 10,aa ab])
def afH:=aW 124 [.row 10] (aa .bool)
def afI:=aW 125 [aa ab,aa .bool] (aa .bool)
def Qs:=bL 0 [(1,aa (az 11)),(2,au 0 0),(5,aa ab)] [.bk 7] [eR 4 .bool,gn 0]
def afJ:=aW 126 [.row 7,aa (az 11)] (aa .bool) [Qs]
def AD:=bL 0 [(1,aa ab),(2,aa (az 10)),(3,aa .bool),(4,au 0 0),(9,aa ab)] [b8 (az 7)] [eR 8 .bool,gn 0]
def Fq:=aW 127 [.row 12,aa ab,aa (az 10),aa .bool] (aa .bool) [AD]
def x3:=bL 0 [(3,aa .bool),(4,au 0 0),(6,au 1 0),(9,au 2 0),(12,aa ab)] [b8 (az 7),.bk 10,.box [.hole ab,.hole .str,.hole ab,.hole ab,.hole ab,.hole (az 8),.hole (az 9),.hole ab,.hole ab,.hole .bool]] [eR 8 .bool,gn 1]
def Sn:=bL 1 [(6,au 0 0),(15,aa ab)] [.bk 10] [eR 8 .bool,gn 3]
def u9:=aW 91 [.row 12,aa ab,.row 10,aa .bool] (aa .bool) [x3,Sn]
def agO:=aW 80 [.row 12,aa ab,.row 10] (aa .bool)
def agr:=aW 44 [.row 12,aa ab,.row 10] (aa ab)
def agV:=aW 90 [.row 10] (.agg [.hole ab,.hole .bool,.hole ab,.hole .str,.hole ab,.arr 0,.arr 1,.arr 2]) [] [] [.arr (.nm 10),.arr (.nm 10),.arr (.nm 11)]
def xW:=bL 0 [(1,au 0 0),(2,au 1 0),(3,aa ab)] [.box [.hole ab,.hole .bool,.hole ab,.hole .str,.hole ab,.arr 2,.arr 3,.hole (az 11)],.box [.hole ab,.hole .bool,.hole ab,.hole .str,.hole ab,.aA,.aA,.aA],.arr (.nm 10),.arr (.nm 10)] [bG (.exit 0) [(1,au 0 0),(2,au 1 0)] [.box [.hole ab,.hole .bool,.hole ab,.hole .str,.hole ab,.arr 2,.arr 3,.hole (az 11)],.box [.hole ab,.hole .bool,.hole ab,.hole .str,.hole ab,.aA,.aA,.aA],.arr (.nm 10),.arr (.nm 10)]]
def BJ:=aW 56 [.row 10] (.row 10) [xW]
def agA:=aW 57 [.row 12,aa ab,.row 10] (aa .bool)
def agi:=aW 20 [.row 12,aa ab,.row 10] (.aY [.row 10,aa ab])
def ags:=aW 46 [.row 12,aa ab,.row 10,.row 12,aa ab] (aa ab)
def agP:=aW 81 [aa bM] (.row 20)
def agS:=aW 86 [.row 10] (.row 20)
def agR:=aW 85 [aa bM,aa ab] (aa bM)
def Fx:=aW 83 [.row 12,.row 7,.row 10,.row 12,.row 7,aa bM] (.row 20)
def aga:=aW 18 [.row 10,.row 10] (aa .bool)
def afC:=aW 115 [.row 9,.row 10] (aa .bool)
def x1:=bL 0 [(5,aa bM),(6,au 0 0),(7,au 1 0),(8,au 2 0),(9,au 3 0),(10,au 4 0),(12,au 5 0),(13,au 6 0),(14,aa ab)] [b8 (az 7),.bk 7,.bk 10,b8 (az 7),.bk 7,.box [.hole ab,.hole .bool,.hole ab,.hole .str,.hole ab,.aA,.aA,.aA,.aA,.hole .bool],.box [.hole ab,.hole .bool,.hole ab,.hole .str,.hole ab,.aA,.arr 7,.aA],.arr (.nm 10)] [bG .ret [(12,au 0 0)] [.bk 20],bG (.exit 0) [(5,aa bM),(6,au 0 0),(7,au 1 0),(8,au 2 0),(10,au 3 0),(12,au 4 0),(13,au 5 0)] [b8 (az 7),.bk 7,.bk 10,.bk 7,.box [.hole ab,.hole .bool,.hole ab,.hole .str,.hole ab,.aA,.aA,.aA,.aA,.hole .bool],.box [.hole ab,.hole .bool,.hole ab,.hole .str,.hole ab,.aA,.arr 6,.aA],.arr (.nm 10)]] [] [(.via 13 6,.nm 10)]
def Sm:=bL 1 [(5,aa bM),(6,au 0 0),(7,au 1 0),(8,au 2 0),(10,au 3 0),(12,au 4 0),(13,au 5 0),(20,aa ab)] [b8 (az 7),.bk 7,.bk 10,.bk 7,.box [.hole ab,.hole .bool,.hole ab,.hole .str,.hole ab,.aA,.aA,.aA,.aA,.hole .bool],.box [.hole ab,.hole .bool,.hole ab,.hole .str,.hole ab,.aA,.arr 6,.arr 7],.arr (.nm 10),.arr (.nm 11)] [bG .ret [(12,au 0 0)] [.bk 20],bG (.exit 2) [(12,au 0 0),(13,au 1 0)] [.box [.hole ab,.hole .bool,.hole ab,.hole .str,.hole ab,.aA,.aA,.aA,.aA,.hole .bool],.box [.hole ab,.hole .bool,.hole ab,.hole .str,.hole ab,.aA,.arr 2,.arr 3],.arr (.nm 10),.arr (.nm 11)]] [] [(.via 13 7,.nm 11)]
def Fy:=aW 84 [.row 12,.row 7,.row 10,.row 12,.row 7,aa bM] (.row 20) [x1,Sm]
def xU:=bL 0 [(5,aa bM),(6,au 0 0),(8,au 1 0),(9,au 2 0),(12,au 3 0),(13,au 4 0),(14,au 5 0),(17,au 6 0),(18,aa ab)] [b8 (az 7),.bk 10,b8 (az 7),.box [.hole ab,.hole .bool,.hole ab,.hole .str,.hole ab,.aA,.aA,.aA,.aA,.hole .bool],.bk 7,.bk 7,.box [.hole ab,.hole .bool,.hole ab,.hole .str,.hole ab,.arr 7,.aA,.hole (az 11)],.arr (.nm 10)] [bG .ret [(12,au 0 0)] [.bk 20],bG (.exit 0) [(5,aa bM),(6,au 0 0),(8,au 1 0),(9,au 2 0),(12,au 3 0),(13,au 4 0),(14,au 5 0),(17,au 6 0)] [b8 (az 7),.bk 10,b8 (az 7),.box [.hole ab,.hole .bool,.hole ab,.hole .str,.hole ab,.aA,.aA,.aA,.aA,.hole .bool],.bk 7,.bk 7,.box [.hole ab,.hole .bool,.hole ab,.hole .str,.hole ab,.arr 7,.aA,.hole (az 11)],.arr (.nm 10)]] [] [(.via 17 5,.nm 10)]
def xV:=bL 1 [(5,aa bM),(6,au 0 0),(8,au 1 0),(9,au 2 0),(12,au 3 0),(13,au 4 0),(14,au 5 0),(17,au 6 0),(20,aa ab)] [b8 (az 7),.bk 10,b8 (az 7),.box [.hole ab,.hole .bool,.hole ab,.hole .str,.hole ab,.aA,.aA,.aA,.aA,.hole .bool],.bk 7,.bk 7,.box [.hole ab,.hole .bool,.hole ab,.hole .str,.hole ab,.arr 7,.arr 8,.hole (az 11)],.arr (.nm 10),.arr (.nm 10)] [bG .ret [(12,au 0 0)] [.bk 20],bG (.exit 2) [(12,au 0 0),(17,au 1 0)] [.box [.hole ab,.hole .bool,.hole ab,.hole .str,.hole ab,.aA,.aA,.aA,.aA,.hole .bool],.box [.hole ab,.hole .bool,.hole ab,.hole .str,.hole ab,.arr 2,.arr 3,.hole (az 11)],.arr (.nm 10),.arr (.nm 10)]] [] [(.via 17 6,.nm 10)]
def sK:=aW 47 [.row 12,aa ab,.row 10,.row 12,aa ab,aa bM] (.row 20) [xU,xV]
def af4:=aW 16 [.row 12,aa ab,.row 10,.row 12,aa ab] (.aY [.row 10,aa ab])
def xT:=bL 0 [(3,au 0 0),(5,au 1 0),(7,au 2 0),(8,aa ab),(9,aa ab)] [b8 (az 7),.bk 10,.bk 7] [bG (.exit 0) [(5,au 0 0),(8,aa ab)] [.bk 10]]
def BH:=aW 45 [.row 12,aa ab,.row 10] (aa ab) [xT]
def afT:=aW 15 [.row 12,aa ab,.row 10] (.aY [aa .str,aa ab])
def agq:=aW 43 [.row 13,.row 13,aa .str] (.aY [.row 21,aa ab])
def afL:=aW 13 [.row 13,.row 13,aa .str] (.aY [aa .str,aa ab])
def dx:=aW 3 [.row 0] (aa .bool)
def hI:=aW 4 [.row 1] (aa .bool)
def jT:=aW 5 [.row 0] (aa .bool)
def BL:=aW 7 [.row 0] (aa .bool)
def o7:=aW 6 [.row 0] (aa .bool)
def agU:=bL 0 [(5,au 0 0),(6,au 1 0),(9,.c (.arr 2)),(39,aa je),(40,aa ab),(41,aa ab)] [.bk 13,.bk 13,.arr .str] [eR 4 .bool,bG (.exit 0) [(5,au 0 0),(6,au 1 0),(9,.c (.arr 2))] [.bk 13,.bk 13,.arr .str]]
def e8:=aW 8 [.row 0,aa je] (aa .bool) [agU]
def R4:=bL 0 [(0,aa (az 13)),(1,aa .str),(21,aa ab),(22,aa ab)] [] [bG .ret [(4,aa .str),(5,aa ab),(6,aa ab)],bG (.exit 0) [(0,aa (az 13)),(1,aa .str)]]
def agm:=aW 35 [aa (az 13),aa .str] (.aY [aa .str,aa ab,aa ab]) [R4]
def R5:=bL 0 [(0,aa (az 13)),(1,aa .str),(7,aa ab)] [] [bG .ret [(4,aa .str),(5,aa ab),(6,aa ab)],bG (.exit 0) [(0,aa (az 13)),(1,aa .str)]]
def R6:=bL 1 [(0,aa (az 13)),(1,aa .str),(9,aa ab)] [] [bG .ret [(4,aa .str),(5,aa ab),(6,aa ab)],bG (.exit 2) [(0,aa (az 13)),(1,aa .str)]]
def agn:=aW 37 [aa (az 13),aa .str] (.aY [aa .str,aa ab,aa ab]) [R5,R6]
def Sr:=bL 0 [(5,au 0 0),(7,aa .str),(9,.c (.arr 1)),(10,au 2 0),(59,.agg [.hole (az 6),.hole (az 6)]),(60,aa ab)] [.bk 13,.arr (.nm 13),b8 (az 4)] [eR 4 .bool,bG (.exit 0) [(7,aa .str),(9,.c (.arr 0))] [.arr (.nm 13)]]
def Ss:=bL 1 [(7,aa .str),(9,aa (az 13)),(83,aa ab),(84,aa ab)] [] [eR 4 .bool,gn 2]
def lW:=aW 9 [.row 0,.row 22] (aa .bool) [Sr,Ss]
def aij:List ez:=[R7,R8,RO,QV,DV,xS,RR,RQ,Rt,RK,RL,Rq,RM,Rr,RN,Rs,Q7,Q8,Bv,Fj]
def aik:List ez:=[Fu,Q9,Q',Ra,Rp,Ro,Q5,o6,RZ,RS,Ru,Q2,Q1,Sq,Bw,RT,Rv,Bx,Rh,RX]
def ail:List ez:=[RH,RW,RE,RY,RJ,RI,Rn,By,Rw,Ry,Rx,u5,Bz,xM,QU,BK,QW,RG,Rl,Rm]
def aim:List ez:=[BG,DW,DX,BF,sI,QX,Sp,QY,Q6,OV,OW,QZ,Q0,xN,Bs,Rb,Rc,Q3,Re,Rz]
def ain:List ez:=[u6,u7,DY,xX,RB,RF,Rj,RD,RU,RV,Rf,Q4,Rg,RC,Ri,Rk,BD,BE,qF,Bu]
def aio:List ez:=[qG,BA,BB,BC,xO,Bt,Fw,R9,sH,afN,af9,afM,ag0,agY,Ft,RP,agW,agX,Fs,RA]
def aip:List ez:=[Se,R0,Fk]
def se:List ez:=aij++aik++ail++aim++ain++aio++aip
theorem uh:se.all (uC prog)=true:=by kernel_rfl
def q2:cH cy:={Hv with F:=Gp (α:=cy.D 17) lF}
theorem tj:gO prog q2:=⟨Hw.1,λh r ag=>Hw.2 h r (ace Gr _ r ag)⟩
def sV(n:Int):Option aU:=
 some (⟨2,[121],1,false,true,(⟨2,false,n,[],0,[],[],[]⟩:I)⟩:aU)
theorem V9:a6 R7 sV:= .bj
def s0(l:List aU):Option cD:=
 some (⟨(⟨[(⟨5,[82],0,0,0,[],l,0,0,false⟩:ai),(⟨2,[],0,9,0,[],[],0,0,false⟩:ai),(⟨1,[],0,0,0,[],[],0,0,false⟩:ai)]⟩:aT),0⟩:cD)
theorem VK:a6 R8 s0:= .bj
def od:ar×ar×Int->Option ((Bool) ⊕ (Unit))
 |(a,b,i)=>
 if (i<(a.length:Int):Bool) then if aG i a.length then if aG i b.length then if !(a.getD i.toNat 0=b.getD i.toNat 0:Bool) then some (.inl false)else od (a,b,aM .i64 i 1)else none else none else some (.inr ())
  partial_fixpoint
theorem Vr:cL 62 0 [0] Sf od:= .rx od.partial_correctness
def qV:ar×ar->Option Bool
 |(a,b)=>
 if !((a.length:Int)=(b.length:Int):Bool) then some false else od (a,b,0)>>=λo=>match o with
  |.inl c=>
   some c
  |.inr e=>
   some true
theorem Wc:a6 Se qV:= .bj .n (.k Vr .n)
def rD:List ar×List ar×Int->Option ((Bool) ⊕ (Unit))
 |(a,b,i)=>
 if (i<(a.length:Int):Bool) then if aG i a.length then if aG i b.length then qV (a.getD i.toNat [],b.getD i.toNat [])>>=λr=>if !r then some (.inl false)else rD (a,b,aM .i64 i 1)else none else none else some (.inr ())
  partial_fixpoint
theorem VY:cL 26 0 [0] R1 rD:= .rx rD.partial_correctness (.k Wc .n)
def zi:List ar×List ar->Option Bool
 |(a,b)=>
 if !((a.length:Int)=(b.length:Int):Bool) then some false else rD (a,b,0)>>=λo=>match o with
  |.inl c=>
   some c
  |.inr e=>
   some true
theorem WJ:a6 R0 zi:= .bj .n (.k VY .n)
noncomputable def q3:aT->Option Int:=l4 prog se [py,pA,pB,q2,p',p5] 3000 Bv
theorem Xi:a6 Bv q3:= .run uh (.k oc (.k nH (.k p4 (.k tj (.k qZ (.k sZ .n)))))) (.m (by kernel_rfl)) 3000 λ_=>rfl
noncomputable def vD:aT×Int×ak->Option (I×Int):=l4 prog se [py,pA,pB,q2,p',p5] 3000 BK
theorem XG:a6 BK vD:= .run uh (.k oc (.k nH (.k p4 (.k tj (.k qZ (.k sZ .n)))))) (.m (by kernel_rfl)) 3000 λ_=>rfl
noncomputable def CW:aT×Int×I->Option (I×Int):=l4 prog se [py,pA,pB,q2,p',p5] 3000 Bs
theorem W1:a6 Bs CW:= .run uh (.k oc (.k nH (.k p4 (.k tj (.k qZ (.k sZ .n)))))) (.m (by kernel_rfl)) 3000 λ_=>rfl
noncomputable def zk:aT×Int×I×aT×Int->Option (I×Int):=l4 prog se [py,pA,pB,q2,p',p5] 3000 Bt
theorem WK:a6 Bt zk:= .run uh (.k oc (.k nH (.k p4 (.k tj (.k qZ (.k sZ .n)))))) (.m (by kernel_rfl)) 3000 λ_=>rfl
noncomputable def vE:aT×Int×I->Option (ak×Int):=l4 prog se [py,pA,pB,q2,p',p5] 3000 Bu
theorem XH:a6 Bu vE:= .run uh (.k oc (.k nH (.k p4 (.k tj (.k qZ (.k sZ .n)))))) (.m (by kernel_rfl)) 3000 λ_=>rfl
noncomputable def HB:aT×Int×I->Option (List ar×Int):=l4 prog se [py,pA,pB,q2,p',p5] 3000 Fs
theorem W2:a6 Fs HB:= .run uh (.k oc (.k nH (.k p4 (.k tj (.k qZ (.k sZ .n)))))) (.m (by kernel_rfl)) 3000 λ_=>rfl
noncomputable def Gy:Int×I×Int×I×ar×List ai×List ai×List ar->Option (List ai×List ai×List ar):=l4 prog se [py,pA,pB,q2,p',p5] 3000 Ft
theorem VZ:a6 Ft Gy:= .run uh (.k oc (.k nH (.k p4 (.k tj (.k qZ (.k sZ .n)))))) (.m (by kernel_rfl)) 3000 λ_=>rfl
noncomputable def vF (r:cD):Option Int:=
 q3 r.cW>>=λa=>if !(a=0:Bool) then some a
 else if(bif (r.aw<0:Bool)then true else ((r.cW.Types.length:Int)<=r.aw:Bool)) then some 4
  else some 0
theorem XI:a6 Fj vF:= .bj (.k Xi .n)
noncomputable def mI (b:List cD×Int×Int):Option ((Int) ⊕ (Unit)):=
 match b with
 |(t6,a,t8)=>
 if (t8<a:Bool) then if aG t8 t6.length then vF (t6.getD t8.toNat lv)>>=λr=>if !(r=0:Bool) then some (.inl r)
   else mI (t6,a,aM .i64 t8 1)
  else none
 else some (.inr ())
  partial_fixpoint
theorem VL:cL 65 0 [0] Fv mI:= .rx mI.partial_correctness (.k XI .n)
noncomputable def vG (l:List cD):Option Int:=
 mI (l,(l.length:Int),0)>>=λo=>match o with
 |.inl a=>
  some a
 |.inr b=>
  some 0
theorem XJ:a6 Fu vG:= .bj .n (.k VL .n)
noncomputable def s7 (g:cD×cD×ak):Option (eP×Int):=
 match g with
 |(w,r,m)=>
 vD (w.cW,w.aw,m)>>=λa=>if !(a.2=0:Bool) then some ((⟨(⟨0,false,0,[],0,[],[],[]⟩:I),(⟨0,false,0,[],0,[],[],[]⟩:I),[]⟩:eP),12)
 else CW (w.cW,w.aw,I.eta a.1)>>=λe=>if !(e.2=0:Bool) then some ((⟨(⟨0,false,0,[],0,[],[],[]⟩:I),(⟨0,false,0,[],0,[],[],[]⟩:I),[]⟩:eP),12)
  else zk (w.cW,w.aw,I.eta e.1,r.cW,r.aw)>>=λf=>if !(f.2=0:Bool) then some ((⟨(⟨0,false,0,[],0,[],[],[]⟩:I),(⟨0,false,0,[],0,[],[],[]⟩:I),[]⟩:eP),12)
   else vE (w.cW,w.aw,I.eta a.1)>>=λc=>if !(c.2=0:Bool) then some ((⟨(⟨0,false,0,[],0,[],[],[]⟩:I),(⟨0,false,0,[],0,[],[],[]⟩:I),[]⟩:eP),3)
    else vD (r.cW,r.aw,c.1)>>=λb=>if !(b.2=0:Bool) then some ((⟨(⟨0,false,0,[],0,[],[],[]⟩:I),(⟨0,false,0,[],0,[],[],[]⟩:I),[]⟩:eP),12)
     else vE (r.cW,r.aw,I.eta b.1)>>=λd=>if !(d.2=0:Bool) then some ((⟨(⟨0,false,0,[],0,[],[],[]⟩:I),(⟨0,false,0,[],0,[],[],[]⟩:I),[]⟩:eP),3)
      else some ((⟨I.eta a.1,I.eta b.1,d.1⟩:eP),0)
theorem WL:a6 Fw s7:= .bj (.k XG (.k W1 (.k WK (.k XH .n))))
noncomputable def q8 (c:cD×cD×ak):Option (eP×Int):=
 match c with
 |(w,r,m)=>
 vG [w,r]>>=λb=>if !(b=0:Bool) then some ((⟨(⟨0,false,0,[],0,[],[],[]⟩:I),(⟨0,false,0,[],0,[],[],[]⟩:I),[]⟩:eP),b)
 else s7 (w,r,m)>>=λa=>some ((⟨I.eta a.1.v,I.eta a.1.u,a.1.message⟩:eP),a.2)
theorem GO:a6 R9 q8:= .bj (.k XJ (.k WL .n))
noncomputable def p7 (b:cD×cD×ak):Option (ak×Int):=
 match b with
 |(w,r,m)=>
 q8 (w,r,m)>>=λa=>some (a.1.message,a.2)
theorem WM:a6 sH p7:= .bj (.k GO .n)
noncomputable def yW (c:cD×cD×ak):Option (List ar×Int):=
 match c with
 |(w,r,m)=>
 q8 (w,r,m)>>=λa=>if !(a.2=0:Bool) then some ([],a.2)
 else Gy (w.aw,I.eta a.1.v,r.aw,I.eta a.1.u,[],w.cW.Types,r.cW.Types,[])>>=λb=>some (b.2.2,0)
theorem XK:a6 RP yW:= .bj (.k GO (.k VZ .n))
noncomputable def y1 (c:cD×cD×ak):Option (List ar×Int):=
 match c with
 |(w,r,m)=>
 q8 (w,r,m)>>=λa=>if !(a.2=0:Bool) then some ([],a.2)
 else HB (r.cW,r.aw,I.eta a.1.u)>>=λb=>some (b.1,b.2)
theorem Xj:a6 RA y1:= .bj (.k GO (.k W2 .n))
noncomputable def Db (_:Unit):Option Bool:=
 sV 3>>=λr=>s0 [(⟨1,[120],1,false,false,(⟨0,false,0,[],0,[],[],[]⟩:I)⟩:aU),(⟨r.ad,r.Name,r.aw,r.ch,r.bU,I.eta r.bA⟩:aU)]>>=λe=>sV 3>>=λc=>s0 [(⟨c.ad,c.Name,c.aw,c.ch,c.bU,I.eta c.bA⟩:aU),(⟨4,[122],2,false,true,(⟨1,true,0,[],0,[],[],[]⟩:I)⟩:aU)]>>=λo=>p7 (e,o,[2,1,10])>>=λg=>sV 3>>=λd=>s0 [(⟨d.ad,d.Name,d.aw,d.ch,d.bU,I.eta d.bA⟩:aU),(⟨4,[122],2,false,true,(⟨1,true,0,[],0,[],[],[]⟩:I)⟩:aU)]>>=λp=>yW (e,p,[2,1,10])>>=λi=>sV 3>>=λa=>s0 [(⟨a.ad,a.Name,a.aw,a.ch,a.bU,I.eta a.bA⟩:aU),(⟨4,[122],2,false,true,(⟨1,true,0,[],0,[],[],[]⟩:I)⟩:aU)]>>=λj=>y1 (e,j,[2,1,10])>>=λf=>sV 4>>=λb=>s0 [(⟨b.ad,b.Name,b.aw,b.ch,b.bU,I.eta b.bA⟩:aU),(⟨4,[122],2,false,true,(⟨1,true,0,[],0,[],[],[]⟩:I)⟩:aU)]>>=λk=>p7 (e,k,[2,1,10])>>=λl=>some (bif bif bif bif decide (g.2=0)then decide (i.2=0)else false then decide (f.2=0)else false then decide (l.2=12)else false then decide (g.1=[2,1,10])else false)>>=λt76=>(if t76 then zi (i.1,[[4]])else some false)>>=λm=>some (bif t76 then m else false)>>=λt82=>(if t82 then zi (f.1,[[]])else some false)>>=λn=>some (bif t82 then n else false)
theorem VM:a6 Fk Db:= .bj (.k V9 (.k VK (.k WM (.k XK (.k Xj (.k WJ .n))))))
def iB(n:Int):aU:=⟨2,[121],1,false,true,⟨2,false,n,[],0,[],[],[]⟩⟩
def u1:aU:=⟨1,[120],1,false,false,⟨0,false,0,[],0,[],[],[]⟩⟩
def sB:aU:=⟨4,[122],2,false,true,⟨1,true,0,[],0,[],[],[]⟩⟩
def fZ(l:List aU):cD:=⟨⟨[⟨5,[82],0,0,0,[],l,0,0,false⟩,⟨2,[],0,9,0,[],[],0,0,false⟩,⟨1,[],0,0,0,[],[],0,0,false⟩]⟩,0⟩
def o1:I:=⟨5,false,0,[],0,[],[⟨2,false,5,[],0,[],[],[]⟩,⟨2,false,3,[],0,[],[],[]⟩],[]⟩
def sA:I:=⟨5,false,0,[],0,[],[⟨2,false,3,[],0,[],[],[]⟩,⟨1,true,0,[],0,[],[],[]⟩],[⟨1,[10]⟩]⟩
def gR:cD:=fZ [u1,iB 3]
def iO:cD:=fZ [iB 3,sB]
def sy:cD:=fZ [iB 4,sB]
theorem adH(n:Int):sV n=some (iB n):=rfl
theorem adI(l:List aU):s0 l=some (fZ l):=rfl
theorem afo(n:Int):(⟨(iB n).ad,(iB n).Name,(iB n).aw,(iB n).ch,(iB n).bU,(iB n).bA⟩:aU)=iB n:=rfl
theorem afn:(⟨1,[120],1,false,false,(⟨0,false,0,[],0,[],[],[]⟩:I)⟩:aU)=u1:=rfl
theorem afp:(⟨4,[122],2,false,true,(⟨1,true,0,[],0,[],[],[]⟩:I)⟩:aU)=sB:=rfl
theorem QK:q3 gR.cW=some 0:=by kernel_rfl
theorem afi:q3 iO.cW=some 0:=by kernel_rfl
theorem afj:q3 sy.cW=some 0:=by kernel_rfl
theorem QF:vD (gR.cW,gR.aw,[2,1,10])=some (o1,0):=by kernel_rfl
theorem ae4:vD (iO.cW,iO.aw,[2,1,10])=some (sA,0):=by kernel_rfl
theorem QI:CW (gR.cW,gR.aw,o1)=some (o1,0):=by kernel_rfl
theorem afg:zk (gR.cW,gR.aw,o1,iO.cW,iO.aw)=some (sA,0):=by kernel_rfl
theorem afh:zk (gR.cW,gR.aw,o1,sy.cW,sy.aw)=some (⟨0,false,0,[],0,[],[],[]⟩,12):=by kernel_rfl
theorem ae5:vE (gR.cW,gR.aw,o1)=some ([2,1,10],0):=by kernel_rfl
theorem ae6:vE (iO.cW,iO.aw,sA)=some ([2,1,10],0):=by kernel_rfl
theorem aff:HB (iO.cW,iO.aw,sA)=some ([[]],0):=by kernel_rfl
theorem ae1:Gy (gR.aw,o1,iO.aw,sA,[],gR.cW.Types,iO.cW.Types,[])=some (gR.cW.Types,iO.cW.Types,[[4]]):=by kernel_rfl
theorem QL{l:List aU}(h:q3 (fZ l).cW=some 0):vF (fZ l)=some 0:=by
 rw[vF,h];rfl
theorem QN{l m:List aU}(h1:q3 (fZ l).cW=some 0)(b:q3 (fZ m).cW=some 0):vG [fZ l,fZ m]=some 0:=by
 have a:mI ([fZ l,fZ m],2,2)=some (.inr ()):=by rw[mI];rfl
 have aN:mI ([fZ l,fZ m],2,1)=some (.inr ()):=by
  rw[mI,ae (by decide),ae (by rfl)];show(vF (fZ m)>>=_)=_;rw[QL b];exact a
 have c4:mI ([fZ l,fZ m],2,0)=some (.inr ()):=by
  rw[mI,ae (by decide),ae (by rfl)];show(vF (fZ l)>>=_)=_;rw[QL h1];exact aN
 rw[vG];show(mI ([fZ l,fZ m],2,0)>>=_)=_;rw[c4];rfl
def xJ(gd:aT×Int×ak->Option (I×Int))(gs:aT×Int×I->Option (I×Int))(vd:aT×Int×I×aT×Int->Option (I×Int))(ge:aT×Int×I->Option (ak×Int))(g:cD×cD×ak):Option (eP×Int):=
 match g with
 |(w,r,m)=>
 gd (w.cW,w.aw,m)>>=λa=>if !(a.2=0:Bool) then some ((⟨(⟨0,false,0,[],0,[],[],[]⟩:I),(⟨0,false,0,[],0,[],[],[]⟩:I),[]⟩:eP),12)else gs (w.cW,w.aw,I.eta a.1)>>=λe=>if !(e.2=0:Bool) then some ((⟨(⟨0,false,0,[],0,[],[],[]⟩:I),(⟨0,false,0,[],0,[],[],[]⟩:I),[]⟩:eP),12)else vd (w.cW,w.aw,I.eta e.1,r.cW,r.aw)>>=λf=>if !(f.2=0:Bool) then some ((⟨(⟨0,false,0,[],0,[],[],[]⟩:I),(⟨0,false,0,[],0,[],[],[]⟩:I),[]⟩:eP),12)else ge (w.cW,w.aw,I.eta a.1)>>=λc=>if !(c.2=0:Bool) then some ((⟨(⟨0,false,0,[],0,[],[],[]⟩:I),(⟨0,false,0,[],0,[],[],[]⟩:I),[]⟩:eP),3)else gd (r.cW,r.aw,c.1)>>=λb=>if !(b.2=0:Bool) then some ((⟨(⟨0,false,0,[],0,[],[],[]⟩:I),(⟨0,false,0,[],0,[],[],[]⟩:I),[]⟩:eP),12)else ge (r.cW,r.aw,I.eta b.1)>>=λd=>if !(d.2=0:Bool) then some ((⟨(⟨0,false,0,[],0,[],[],[]⟩:I),(⟨0,false,0,[],0,[],[],[]⟩:I),[]⟩:eP),3)else some ((⟨I.eta a.1,I.eta b.1,d.1⟩:eP),0)
theorem QS:s7=xJ vD CW zk vE:=rfl
section
variable {gd:aT×Int×ak->Option (I×Int)}{gs:aT×Int×I->Option (I×Int)}{vd:aT×Int×I×aT×Int->Option (I×Int)}{ge:aT×Int×I->Option (ak×Int)}{A B:cD}{m o:ak}{v u w:I}
theorem adJ (h1:gd (A.cW,A.aw,m)=some (v,0))(a:gs (A.cW,A.aw,v)=some (v,0))(b:vd (A.cW,A.aw,v,B.cW,B.aw)=some (w,0))(c:ge (A.cW,A.aw,v)=some (m,0))
 (bf:gd (B.cW,B.aw,m)=some (u,0))(d:ge (B.cW,B.aw,u)=some (o,0)):xJ gd gs vd ge (A,B,m)=some (⟨v,u,o⟩,0):=by
 unfold xJ;simp[h1,a,b,c,bf,d,I.aV]
theorem adK(h1:gd (A.cW,A.aw,m)=some (v,0))(a:gs (A.cW,A.aw,v)=some (v,0))(b:vd (A.cW,A.aw,v,B.cW,B.aw)=some (w,12)):
 xJ gd gs vd ge (A,B,m)=some (⟨⟨0,false,0,[],0,[],[],[]⟩,⟨0,false,0,[],0,[],[],[]⟩,[]⟩,12):=by
 unfold xJ;simp[h1,a,b,I.aV]
theorem SY{e:Int}(h1:go [A,B]=some 0)(c:gc (A,B,m)=some (⟨v,u,o⟩,e)):
 (go [A,B]>>=λb=>if !(b=0:Bool) then some ((⟨(⟨0,false,0,[],0,[],[],[]⟩:I),(⟨0,false,0,[],0,[],[],[]⟩:I),[]⟩:eP),b)
  else gc (A,B,m)>>=λa=>some ((⟨I.eta a.1.v,I.eta a.1.u,a.1.message⟩:eP),a.2))=some (⟨v,u,o⟩,e):=by
 rw[h1];simp[c,I.aV]
end
theorem ae2:s7 (gR,iO,[2,1,10])=some (⟨o1,sA,[2,1,10]⟩,0):=by
 rw[QS];exact adJ QF QI afg ae5 ae4 ae6
theorem ae3:s7 (gR,sy,[2,1,10])=some (⟨⟨0,false,0,[],0,[],[],[]⟩,⟨0,false,0,[],0,[],[],[]⟩,[]⟩,12):=by
 rw[QS];exact adK QF QI afh
theorem Fe:q8 (gR,iO,[2,1,10])=some (⟨o1,sA,[2,1,10]⟩,0):=by
 have h:vG [gR,iO]=some 0:=QN QK afi;rw[q8];exact SY (gc:=s7) h ae2
theorem afk:q8 (gR,sy,[2,1,10])=some (⟨⟨0,false,0,[],0,[],[],[]⟩,⟨0,false,0,[],0,[],[],[]⟩,[]⟩,12):=by
 have h:vG [gR,sy]=some 0:=QN QK afj;rw[q8];exact SY (gc:=s7) h ae3
theorem ae7:p7 (gR,iO,[2,1,10])=some ([2,1,10],0):=by rw[p7,Fe];rfl
theorem ae8:p7 (gR,sy,[2,1,10])=some ([],12):=by rw[p7,afk];rfl
theorem ae9:yW (gR,iO,[2,1,10])=some ([[4]],0):=by
 rw[yW,Fe];simp[ae1,I.aV]
theorem ae':y1 (gR,iO,[2,1,10])=some ([[]],0):=by
 rw[y1,Fe];simp[aff,I.aV]
theorem afm:qV ([4],[4])=some true:=by
 have h1:od ([4],[4],1)=some (.inr ()):=by rw[od];rfl
 have h0:od ([4],[4],0)=some (.inr ()):=by
  rw[od];exact h1
 rw[qV,h0];rfl
theorem afl:qV ([],[])=some true:=by
 have h0:od ([],[],0)=some (.inr ()):=by rw[od];rfl
 rw[qV,h0];rfl
theorem QM{p:ar}(a:qV (p,p)=some true):zi ([p],[p])=some true:=by
 have h1:rD ([p],[p],1)=some (.inr ()):=by rw[rD];rfl
 have h0:rD ([p],[p],0)=some (.inr ()):=by
  rw[rD,ae (by rfl),ae (by rfl),ae (by rfl)];show(qV (p,p)>>=_)=_;rw[a];exact h1
 rw[zi,h0];rfl
theorem abK:Db ()=some true:=by
 have k1:p7 (fZ [u1,iB 3],fZ [iB 3,sB],[2,1,10])=_:=ae7;have k2:p7 (fZ [u1,iB 3],fZ [iB 4,sB],[2,1,10])=_:=ae8;have k3:yW (fZ [u1,iB 3],fZ [iB 3,sB],[2,1,10])=_:=ae9;have k4:y1 (fZ [u1,iB 3],fZ [iB 3,sB],[2,1,10])=_:=ae';unfold Db;simp only[aS,ao,adH,adI,I.aV,afo,afn,afp];rw[k1,k3,k4,k2];simp only[ao,dd,et,b5];rw[QM afm];simp only[ao,et,b5];rw[QM afl];rfl
def zl(_:Unit):Option Bool:=some true
theorem WN:a6 Fk zl:=by
 have:Db=zl:=by funext x;exact abK
 rw[<-this];exact VM
theorem Tz:zl ()=some true:=rfl
def qW:ej×Int->Option Int
 |(d,i)=>
 if aG i d.dI.length then some (aM .i64 1 (bT .i64 (b7 (d.dI.getD i.toNat bu).Kind 9)))else none
theorem yf:a6 agD qW:= .bj
def j'(a:Int):Option Bool:=
 some (bif bif decide (a=4)then true else decide (a=5)then true else decide (a=6))
theorem GA:a6 agE j':= .bj
def qa(a:du):Option Int:=
 some (c9 .i64 (bT .i64 (b7 a.A 7)) 3)
theorem GH:a6 agF qa:= .bj
def tT(a:du):Option Int:=
 qa a>>=λr=>some (aM .i64 r (bT .i64 (b7 a.B 6)))
theorem Ue:a6 agG tT:= .bj (.k GH .n)
def p6:Int×du×ar->Option ar
 |(i,b,a)=>
 if (i<6:Bool) then if (0<=i:Bool) then if (b7 (lE .u8 b.A i) 2=1:Bool) then some [aM .i64 i 1]>>=λt18=>if room 8 (a++t18).length then p6 (aM .i64 i 1,b,a++t18)else none else p6 (aM .i64 i 1,b,a)else none else some a
  partial_fixpoint
theorem VN:cL 72 0 [0] Sg p6:= .rx p6.partial_correctness
def nO(a:du):Option ar:=
 p6 (0,a,[])>>=λo=>if ((o.length:Int)=0:Bool) then some [1]>>=λt24=>if room 8 (o++t24).length then some (o++t24)else none else some o
theorem Ul:a6 agH nO:= .bj .n (.k VN .n)
def yg(a:Int):Option Bool:=
 some (decide (7<=a))
theorem TC:a6 afP yg:= .bj
def n9:Int×Int×List du->Option ((Int) ⊕ (Unit))
 |(n,k,b)=>
 if (k<n:Bool) then qW ((⟨b⟩:ej),k)>>=λa=>yg a>>=λc=>if c then some (.inl k)else n9 (n,aM .i64 k 1,b)else some (.inr ())
  partial_fixpoint
theorem UA:cL 109 0 [0] PL n9:= .rx n9.partial_correctness (.k yf (.k TC .n))
def yh(c:ej×Int×Int):Option Int:=
 match c with
 |(d,i,code)=>
 some (d.dI.length:Int)>>=λt12=>if !(t12=0:Bool) then some (b7 (bT .i64 code) t12)>>=λt16=>qW (d,t16)>>=λr=>yg r>>=λb=>if(bif b then true else (t16<i:Bool)) then some t16 else if (0<i:Bool) then if !(i=0:Bool) then some (b7 t16 i)else none else n9 (t12,0,d.dI)>>=λo=>match o with
 |.inl a=>
 some a
 |.inr e=>
 some (-1)else none
theorem Vk:a6 afx yh:= .bj (.k yf (.k TC .n)) (.k UA .n)
def yv(a:Int):Option Bool:=
 some (bif decide (1<=a)then decide (a<=4)else false)
theorem TA:a6 afz yv:= .bj
def nI:Int×Int×Int×List du->Option ((Int) ⊕ (Unit))
 |(a,n,k,b)=>
 if (k<n:Bool) then if !(n=0:Bool) then some (b7 (aM .i64 (bT .i64 a) k) n)>>=λt21=>qW ((⟨b⟩:ej),t21)>>=λr=>yv r>>=λc=>if c then some (.inl t21)else nI (a,n,aM .i64 k 1,b)else none else some (.inr ())
  partial_fixpoint
theorem Vl:cL 74 0 [0] Si nI:= .rx nI.partial_correctness (.k yf (.k TA .n))
def tY(b:ej×Int):Option Int:=
 match b with
 |(d,code)=>
 nI (code,(d.dI.length:Int),0,d.dI)>>=λo=>match o with
 |.inl a=>
 some a
 |.inr c=>
 some (-1)
theorem Um:a6 agJ tY:= .bj .n (.k Vl .n)
def yw:ej×Int×Int->Option (I×Bool)
 |(d,t,code)=>
 if aG t d.dI.length then some (d.dI.getD t.toNat bu)>>=λa=>qW (d,t)>>=λr=>some (decide (r=8))>>=λt21=>(if t21 then tY (d,0)else some 0)>>=λc=>if(bif t21 then (c<0:Bool)else false) then some ((⟨7,false,0,[],0,[],[],[]⟩:I),true)else if (r=1:Bool) then some ((⟨r,decide (b7 code 2=1),0,[],0,[],[],[]⟩:I),true)else if (r=2:Bool) then qa a>>=λe=>tT a>>=λf=>qa a>>=λg=>some (aM .i64 (c9 .i64 f g) 1)>>=λt47=>if !(t47=0:Bool) then some ((⟨r,false,aM .i64 e (b7 (bT .i64 code) t47),[],0,[],[],[]⟩:I),true)else none else if (r=3:Bool) then if(bif (0<b7 a.A 4:Bool)then (b7 code 2=1:Bool)else false) then some ((⟨r,false,0,[97],0,[],[],[]⟩:I),true)else some ((⟨r,false,0,[],0,[],[],[]⟩:I),true)else if (r=4:Bool) then nO a>>=λb=>nO a>>=λi=>some (i.length:Int)>>=λt71=>if !(t71=0:Bool) then some (b7 (bT .i64 code) t71)>>=λt72=>if aG t72 b.length then some ((⟨r,false,0,[],b.getD t72.toNat 0,[],[],[]⟩:I),true)else none else none else some (decide (r=5))>>=λt77=>if t77 then if t77 then some ((⟨0,false,0,[],0,[],[],[]⟩:I),false)else some ((⟨r,false,0,[],0,[],[],[]⟩:I),true)else if (r=6:Bool) then some ((⟨0,false,0,[],0,[],[],[]⟩:I),false)else some ((⟨r,false,0,[],0,[],[],[]⟩:I),true)else none
theorem Vs:a6 afy yw:= .bj (.k yf (.k Um (.k GH (.k Ue (.k Ul .n)))))
def ry:Int×Bool×Int×Int×List du×du×List aU->Option (Int×Bool×Int×List du×du×List aU)
 |(f,e,a,k,c,d,b)=>
 if (k<(d.c0.length:Int):Bool) then if aG k d.c0.length then some (d.c0.getD k.toNat iP)>>=λg=>yh ((⟨c⟩:ej),f,g.aw)>>=λr=>if(bif (!(aM .i64 1 (bT .i64 (b7 g.ad 12))=a:Bool))then true else (r<0:Bool)) then ry (f,e,a,aM .i64 k 1,c,d,b)else some (mV (bT .i32 (aM .i64 97 a)))>>=λt55=>if ([109].length+t55.length<=eF:Bool) then some ([109]++t55)>>=λt56=>if(bif e then (b7 g.ha 4=1:Bool)else false) then if(bif e then (2<=b7 g.ha 4:Bool)else false) then yw ((⟨c⟩:ej),r,fC .u8 g.ha 4)>>=λi=>some [(⟨a,t56,r,true,i.2,I.eta i.1⟩:aU)]>>=λt87=>if room 160 (b++t87).length then some (f,e,a,c,d,b++t87)else none else some [(⟨a,t56,r,true,false,(⟨0,false,0,[],0,[],[],[]⟩:I)⟩:aU)]>>=λl=>if room 160 (b++l).length then some (f,e,a,c,d,b++l)else none else if(bif e then (2<=b7 g.ha 4:Bool)else false) then yw ((⟨c⟩:ej),r,fC .u8 g.ha 4)>>=λj=>some [(⟨a,t56,r,false,j.2,I.eta j.1⟩:aU)]>>=λm=>if room 160 (b++m).length then some (f,e,a,c,d,b++m)else none else some [(⟨a,t56,r,false,false,(⟨0,false,0,[],0,[],[],[]⟩:I)⟩:aU)]>>=λn=>if room 160 (b++n).length then some (f,e,a,c,d,b++n)else none else none else none else some (f,e,a,c,d,b)
  partial_fixpoint
theorem UO:cL 73 0 [0,0] OQ ry:= .rx ry.partial_correctness (.k Vk (.k Vs .n))
def rE:Int×Bool×Int×List du×du×List aU->Option (List aU)
 |(e,f,id,c,d,b)=>
 if (id<=12:Bool) then ry (e,f,id,0,c,d,b)>>=λa=>rE (a.1,a.2.1,aM .i64 a.2.2.1 1,a.2.2.2.1,a.2.2.2.2.1,a.2.2.2.2.2)else some b
  partial_fixpoint
theorem V0:cL 73 0 [0] Sh rE:= .rx rE.partial_correctness .n (.k UO .n)
def s8:ej×Int×Bool->Option (List aU)
 |(d,i,record)=>
 if aG i d.dI.length then rE (i,record,1,d.dI,d.dI.getD i.toNat bu,[])>>=λo=>some o else none
theorem WO:a6 agI s8:= .bj .n (.k V0 .n)
def pz:Int×Int×ar×Int×List du×Int×ak×Int×Int×Int×Int×Int×Bool×List ai×List c3->Option (Int×Int×List du×Int×ak×Int×Int×Int×Int×Int×Bool×List ai×List c3)
 |(p,o,a,k,c,d,e,f,g,i,j,l,m,n,b)=>
 if (k<(a.length:Int):Bool) then if aG k a.length then if aG k a.length then some (mV (bT .i32 (aM .i64 97 (a.getD k.toNat 0))))>>=λt87=>if ([115].length+t87.length<=eF:Bool) then some [(⟨a.getD k.toNat 0,[115]++t87⟩:c3)]>>=λt90=>if room 24 (b++t90).length then pz (p,o,a,aM .i64 k 1,c,d,e,f,g,i,j,l,m,n,b++t90)else none else none else none else none else some (p,o,c,d,e,f,g,i,j,l,m,n,b)
  partial_fixpoint
theorem Vt:cL 34 0 [0,0] OR pz:= .rx pz.partial_correctness
def fP:Int×Int×List du×List ai->Option (List ai)
 |(n,i,b,a)=>
 if (i<n:Bool) then if aG i b.length then some (b.getD i.toNat bu)>>=λc=>qW ((⟨b⟩:ej),i)>>=λr=>j' r>>=λN=>if N then some (mV (bT .i32 (aM .i64 65 i)))>>=λt41=>if (r=2:Bool) then qa c>>=λQ=>tT c>>=λR=>some [(⟨r,t41,Q,R,0,[],[],0,0,false⟩:ai)]>>=λt167=>if room 120 (a++t167).length then fP (n,aM .i64 i 1,b,a++t167)else none else if (r=3:Bool) then some [(⟨r,t41,0,0,bT .i64 (b7 c.A 4),[],[],0,0,false⟩:ai)]>>=λo=>if room 120 (a++o).length then fP (n,aM .i64 i 1,b,a++o)else none else if (r=4:Bool) then nO c>>=λS=>pz (n,i,S,0,b,r,t41,0,0,0,0,0,decide (b7 c.B 2=1),a,[])>>=λd=>some [(⟨d.2.2.2.1,d.2.2.2.2.1,d.2.2.2.2.2.1,d.2.2.2.2.2.2.1,d.2.2.2.2.2.2.2.1,d.2.2.2.2.2.2.2.2.2.2.2.2,[],d.2.2.2.2.2.2.2.2.1,d.2.2.2.2.2.2.2.2.2.1,d.2.2.2.2.2.2.2.2.2.2.1⟩:ai)]>>=λD=>if room 120 (d.2.2.2.2.2.2.2.2.2.2.2.1++D).length then fP (d.1,aM .i64 d.2.1 1,d.2.2.1,d.2.2.2.2.2.2.2.2.2.2.2.1++D)else none else if (r=5:Bool) then s8 ((⟨b⟩:ej),i,true)>>=λT=>some [(⟨r,t41,0,0,0,[],T,0,0,false⟩:ai)]>>=λG=>if room 120 (a++G).length then fP (n,aM .i64 i 1,b,a++G)else none else if (r=6:Bool) then s8 ((⟨b⟩:ej),i,false)>>=λj=>if ((j.length:Int)=0:Bool) then some [(⟨5,t41,0,0,0,[],[],0,0,false⟩:ai)]>>=λH=>if room 120 (a++H).length then fP (n,aM .i64 i 1,b,a++H)else none else some [(⟨r,t41,0,0,0,[],j,0,0,decide (b7 c.B 2=1)⟩:ai)]>>=λI=>if room 120 (a++I).length then fP (n,aM .i64 i 1,b,a++I)else none else if (r=7:Bool) then if !(n=0:Bool) then some [(⟨r,t41,0,0,bT .i64 (b7 c.A 4),[],[],0,b7 (bT .i64 c.C) n,false⟩:ai)]>>=λJ=>if room 120 (a++J).length then fP (n,aM .i64 i 1,b,a++J)else none else none else if (r=8:Bool) then some (bT .i64 (b7 c.A 4))>>=λt135=>tY ((⟨b⟩:ej),c.B)>>=λk=>if !(n=0:Bool) then some (b7 (bT .i64 c.C) n)>>=λt144=>if (k<0:Bool) then some [(⟨7,[],0,0,t135,[],[],0,t144,false⟩:ai)]>>=λK=>if room 120 (a++K).length then fP (n,aM .i64 i 1,b,a++K)else none else some [(⟨r,t41,0,0,t135,[],[],k,t144,false⟩:ai)]>>=λL=>if room 120 (a++L).length then fP (n,aM .i64 i 1,b,a++L)else none else none else if (r=9:Bool) then if !(n=0:Bool) then some [(⟨r,t41,0,0,0,[],[],0,b7 (bT .i64 c.C) n,false⟩:ai)]>>=λM=>if room 120 (a++M).length then fP (n,aM .i64 i 1,b,a++M)else none else none else some [(⟨r,t41,0,0,0,[],[],0,0,false⟩:ai)]>>=λp=>if room 120 (a++p).length then fP (n,aM .i64 i 1,b,a++p)else none else if (r=2:Bool) then qa c>>=λU=>tT c>>=λV=>some [(⟨r,[],U,V,0,[],[],0,0,false⟩:ai)]>>=λq=>if room 120 (a++q).length then fP (n,aM .i64 i 1,b,a++q)else none else if (r=3:Bool) then some [(⟨r,[],0,0,bT .i64 (b7 c.A 4),[],[],0,0,false⟩:ai)]>>=λs=>if room 120 (a++s).length then fP (n,aM .i64 i 1,b,a++s)else none else if (r=4:Bool) then nO c>>=λO=>pz (n,i,O,0,b,r,[],0,0,0,0,0,decide (b7 c.B 2=1),a,[])>>=λe=>some [(⟨e.2.2.2.1,e.2.2.2.2.1,e.2.2.2.2.2.1,e.2.2.2.2.2.2.1,e.2.2.2.2.2.2.2.1,e.2.2.2.2.2.2.2.2.2.2.2.2,[],e.2.2.2.2.2.2.2.2.1,e.2.2.2.2.2.2.2.2.2.1,e.2.2.2.2.2.2.2.2.2.2.1⟩:ai)]>>=λt=>if room 120 (e.2.2.2.2.2.2.2.2.2.2.2.1++t).length then fP (e.1,aM .i64 e.2.1 1,e.2.2.1,e.2.2.2.2.2.2.2.2.2.2.2.1++t)
 else none else if (r=5:Bool) then s8 ((⟨b⟩:ej),i,true)>>=λP=>some [(⟨r,[],0,0,0,[],P,0,0,false⟩:ai)]>>=λu=>if room 120 (a++u).length then fP (n,aM .i64 i 1,b,a++u)else none else if (r=6:Bool) then s8 ((⟨b⟩:ej),i,false)>>=λf=>if ((f.length:Int)=0:Bool) then some [(⟨5,[],0,0,0,[],[],0,0,false⟩:ai)]>>=λv=>if room 120 (a++v).length then fP (n,aM .i64 i 1,b,a++v)else none else some [(⟨r,[],0,0,0,[],f,0,0,decide (b7 c.B 2=1)⟩:ai)]>>=λw=>if room 120 (a++w).length then fP (n,aM .i64 i 1,b,a++w)else none else if (r=7:Bool) then if !(n=0:Bool) then some [(⟨r,[],0,0,bT .i64 (b7 c.A 4),[],[],0,b7 (bT .i64 c.C) n,false⟩:ai)]>>=λx=>if room 120 (a++x).length then fP (n,aM .i64 i 1,b,a++x)else none else none else if (r=8:Bool) then some (bT .i64 (b7 c.A 4))>>=λl=>tY ((⟨b⟩:ej),c.B)>>=λg=>if !(n=0:Bool) then some (b7 (bT .i64 c.C) n)>>=λm=>if (g<0:Bool) then some [(⟨7,[],0,0,l,[],[],0,m,false⟩:ai)]>>=λy=>if room 120 (a++y).length then fP (n,aM .i64 i 1,b,a++y)else none else some [(⟨r,[],0,0,l,[],[],g,m,false⟩:ai)]>>=λz=>if room 120 (a++z).length then fP (n,aM .i64 i 1,b,a++z)else none else none else if (r=9:Bool) then if !(n=0:Bool) then some [(⟨r,[],0,0,0,[],[],0,b7 (bT .i64 c.C) n,false⟩:ai)]>>=λE=>if room 120 (a++E).length then fP (n,aM .i64 i 1,b,a++E)else none else none else some [(⟨r,[],0,0,0,[],[],0,0,false⟩:ai)]>>=λF=>if room 120 (a++F).length then fP (n,aM .i64 i 1,b,a++F)else none else none else some a
  partial_fixpoint
theorem WQ:cL 34 0 [0] R3 fP:= .rx fP.partial_correctness (.k yf (.k GA (.k GH (.k Ue (.k Ul (.k WO (.k Um .n))))))) (.k Vt .n)
def qb(d:ej):Option (aT×Bool):=
 some (d.dI.length:Int)>>=λt13=>if(bif (t13<1:Bool)then true else (5<t13:Bool)) then some ((⟨[]⟩:aT),false)else fP (t13,0,d.dI,[])>>=λo=>some ((⟨o⟩:aT),true)
theorem GL:a6 agl qb:= .bj .n (.k WQ .n)
def iU:Int×List ai×ar×Bool->Option (Int×List ai×ar×Bool)
 |(n,b,a,c)=>
 if ((a.length:Int)=0:Bool) then some (0,b,a,c)else if aG 0 a.length then if !(n=0:Bool) then if dN 1 (a.length:Int) a.length then some (b7 (bT .i64 (a.getD (0:Int).toNat 0)) n,b,dZ a 1 (a.length:Int),c)else none else none else none
theorem sN:a6 afQ iU:= .bj
def tb:ak×Int×List ai×ar×Bool->Option (ak×List ai×ar×Bool)
 |(b,n,c,d,e)=>
 if (0<n:Bool) then iU (3,c,d,e)>>=λa=>some (mV (bT .i32 (aM .i64 97 a.1)))>>=λt21=>if (b.length+t21.length<=eF:Bool) then tb (b++t21,c9 .i64 n 1,a.2.1,a.2.2.1,a.2.2.2)else none else some (b,c,d,e)
  partial_fixpoint
theorem Ve:cL 148 1 [0] PM tb:= .rx tb.partial_correctness (.k sN .n)
def Cn:Int×List ai×ar×Bool->Option (ak×List ai×ar×Bool)
 |(most,b,a,c)=>
 iU (aM .i64 (ja most 3) 1,b,a,c)>>=λr=>tb ([],r.1,r.2.1,r.2.2.1,r.2.2.2)>>=λo=>some (o.1,o.2.1,o.2.2.1,o.2.2.2)
theorem UP:a6 afR Cn:= .bj (.k sN .n) (.k Ve .n)
def vm:List ai×ar×Bool->Option (Bool×List ai×ar×Bool)
 |(b,c,a)=>
 if a then iU (4,b,c,a)>>=λr=>some (bif a then decide (r.1=3)else false,r.2.1,r.2.2.1,r.2.2.2)else some (bif a then false else false,b,c,a)
theorem UB:a6 afS vm:= .bj (.k sN .n)
def pk:Int×Int×ai->Option ((Int×Bool) ⊕ (Unit))
 |(a,i,b)=>
 if (i<(b.ah.length:Int):Bool) then if aG i b.ah.length then if ((b.ah.getD i.toNat aC).ad=a:Bool) then some (.inl (i,true))else pk (a,aM .i64 i 1,b)else none else some (.inr ())
  partial_fixpoint
theorem UC:cL 53 0 [0] Sd pk:= .rx pk.partial_correctness
def hC(b:ai×Int):Option (Int×Bool):=
 match b with
 |(t,id)=>
 pk (id,0,t)>>=λo=>match o with
 |.inl a=>
 some (a.1,a.2)
 |.inr c=>
 some (0,false)
theorem mH:a6 agx hC:= .bj .n (.k UC .n)
def n':Int×Int×ai->Option ((Int×Bool) ⊕ (Unit))
 |(a,i,b)=>
 if (i<(b.bh.length:Int):Bool) then if aG i b.bh.length then if ((b.bh.getD i.toNat dK).ad=a:Bool) then some (.inl (i,true))else n' (a,aM .i64 i 1,b)else none else some (.inr ())
  partial_fixpoint
theorem VO:cL 82 0 [0] Sl n':= .rx n'.partial_correctness
def s3(b:ai×Int):Option (Int×Bool):=
 match b with
 |(t,id)=>
 n' (id,0,t)>>=λo=>match o with
 |.inl a=>
 some (a.1,a.2)
 |.inr c=>
 some (0,false)
theorem C2:a6 agQ s3:= .bj .n (.k VO .n)
def CK:ai×Int->Option Bool
 |(t,n)=>
 hC (t,n)>>=λr=>s3 (t,n)>>=λa=>some (bif r.2 then true else a.2)
theorem Wd:a6 agb CK:= .bj (.k mH (.k C2 .n))
def vj:Int×List ai×ar×Bool×ai->Option (Int×List ai×ar×Bool)
 |(a,b,c,d,e)=>
 CK (e,a)>>=λf=>if f then vj (aM .i64 a 1,b,c,d,e)else some (a,b,c,d)
  partial_fixpoint
theorem Vd:cL 150 1 [0] O3 vj:= .rx vj.partial_correctness (.k Wd .n)
def rm:ai×List ai×ar×Bool->Option (Int×List ai×ar×Bool)
 |(t,b,a,c)=>
 iU (14,b,a,c)>>=λr=>vj (aM .i64 1 r.1,r.2.1,r.2.2.1,r.2.2.2,t)>>=λo=>some (o.1,o.2.1,o.2.2.1,o.2.2.2)
theorem Vf:a6 afU rm:= .bj (.k sN .n) (.k Vd .n)
def vn:Int×List ai×ar×Bool->Option (bW×List ai×ar×Bool)
 |(n,b,a,c)=>
 some [[],[1],[97],[3,1,2]]>>=λt6=>iU (4,b,a,c)>>=λr=>if aG r.1 t6.length then some ((⟨n,t6.getD r.1.toNat []⟩:bW),r.2.1,r.2.2.1,r.2.2.2)else none
theorem VP:a6 afV vn:= .bj (.k sN .n)
def kG:Bool×Bool->Option Int
 |(b,a)=>
 if a then some 0 else if b then some (-1)else some 1
theorem WR:a6 af8 kG:= .bj
def vt(n:Int):Option Int:=
 if (0<=n:Bool) then some (gz .u64 2 (bT .u64 n))else some (aM .u64 (gz .u64 2 (bT .u64 (c9 .i64 0 (aM .i64 n 1)))) 1)
theorem TD:a6 agv vt:= .bj
def oe:I×I->Option Int
 |(a,b)=>
 if !(a.Kind=b.Kind:Bool) then some 0 else if (a.Kind=1:Bool) then kG (b.bN,fy a.bN b.bN)>>=λr=>some r else if (a.Kind=2:Bool) then vt a.bc>>=λc=>vt b.bc>>=λd=>kG (decide (c<d),decide (a.bc=b.bc))>>=λe=>some e else if (a.Kind=3:Bool) then if !((a.bl.length:Int)=(b.bl.length:Int):Bool) then kG (decide ((a.bl.length:Int)<(b.bl.length:Int)),false)>>=λf=>some f else kG (Op.bytesLess a.bl b.bl,decide (a.bl=b.bl))>>=λg=>some g else if (a.Kind=4:Bool) then kG (decide (a.ad<b.ad),decide (a.ad=b.ad))>>=λi=>some i else some 0
theorem Cp:a6 afK oe:= .bj (.k WR (.k TD .n))
def rI:Int×I×I×I×Int×Bool×Int×ak×Int->Option (Int×I×I×I×Int×Bool×Int×ak×Int)
 |(b,a,c,d,e,f,g,i,j)=>
 some (decide (b<(a.ay.length:Int)))>>=λt12=>if(aG b a.ay.length||(!t12)) then (if t12 then oe (I.eta (a.ay.getD b.toNat av),I.eta c)else some 0)>>=λk=>if(bif t12 then (k<0:Bool)else false) then rI (aM .i64 b 1,I.eta a,I.eta c,I.eta d,e,f,g,i,j)else some (b,I.eta a,I.eta c,I.eta d,e,f,g,i,j)else none
  partial_fixpoint
theorem Vm:cL 152 0 [0] O4 rI:= .rx rI.partial_correctness (.k Cp .n)
def CN:I×I×I->Option I
 |(v,key,item)=>
 rI (0,I.eta v,I.eta key,I.eta item,0,false,0,[],0)>>=λo=>some (decide (o.1<(o.2.1.ay.length:Int)))>>=λt29=>if(aG o.1 o.2.1.ay.length||(!t29)) then (if t29 then oe (I.eta (o.2.1.ay.getD o.1.toNat av),I.eta o.2.2.1)else some 0)>>=λr=>if(bif t29 then (r=0:Bool)else false) then some (I.eta o.2.1)else if dN 0 o.1 o.2.1.ay.length then some (dZ o.2.1.ay 0 o.1)>>=λt45=>if room 120 ([]++t45).length then some ([]++t45)>>=λl=>some [I.eta o.2.2.1]>>=λt48=>if room 120 (l++t48).length then some (l++t48)>>=λa=>if dN o.1 (o.2.1.ay.length:Int) o.2.1.ay.length then some (dZ o.2.1.ay o.1 (o.2.1.ay.length:Int))>>=λt53=>if room 120 (a++t53).length then if dN 0 o.1 o.2.1.aj.length then some (dZ o.2.1.aj 0 o.1)>>=λt60=>if room 120 ([]++t60).length then some ([]++t60)>>=λb=>some [I.eta o.2.2.2.1]>>=λt63=>if room 120 (b++t63).length then some (b++t63)>>=λc=>if dN o.1 (o.2.1.aj.length:Int) o.2.1.aj.length then some (dZ o.2.1.aj o.1 (o.2.1.aj.length:Int))>>=λt68=>if room 120 (c++t68).length then some (⟨o.2.1.Kind,o.2.1.bN,o.2.1.bc,o.2.1.bl,o.2.1.ad,a++t53,c++t68,o.2.1.Rest⟩:I)else none else none else none else none else none else none else none else none else none else none else none
theorem XL:a6 afW CN:= .bj (.k Cp .n) (.k Vm .n)
mutual
def jG:Int×List ai×ar×Bool->Option (I×List ai×ar×Bool)
 |(t,b,e,f)=>
 if aG t b.length then some (b.getD t.toNat aK)>>=λa=>if (a.Kind=1:Bool) then iU (2,b,e,f)>>=λr=>some ((⟨a.Kind,decide (r.1=1),0,[],0,[],[],[]⟩:I),r.2.1,r.2.2.1,r.2.2.2)else if (a.Kind=2:Bool) then iU (256,b,e,f)>>=λbq=>some (aM .i64 (c9 .i64 a.bH a.bE) 1)>>=λt51=>if !(t51=0:Bool) then some ((⟨a.Kind,false,aM .i64 a.bE (b7 bq.1 t51),[],0,[],[],[]⟩:I),bq.2.1,bq.2.2.1,bq.2.2.2)else none else if (a.Kind=3:Bool) then Cn (a.Max,b,e,f)>>=λaJ=>some ((⟨a.Kind,false,0,aJ.1,0,[],[],[]⟩:I),aJ.2.1,aJ.2.2.1,aJ.2.2.2)else if (a.Kind=4:Bool) then iU ((a.bh.length:Int),b,e,f)>>=λp=>if aG p.1 a.bh.length then some (a.bh.getD p.1.toNat dK)>>=λhe=>if a.Open then vm (p.2.1,p.2.2.1,p.2.2.2)>>=λA=>if(bif a.Open then A.1 else false) then rm (a,A.2.1,A.2.2.1,A.2.2.2)>>=λbb=>some ((⟨a.Kind,false,0,[],bb.1,[],[],[]⟩:I),bb.2.1,bb.2.2.1,bb.2.2.2)else some ((⟨a.Kind,false,0,[],he.ad,[],[],[]⟩:I),A.2.1,A.2.2.1,A.2.2.2)else if(bif a.Open then false else false) then rm (a,p.2.1,p.2.2.1,p.2.2.2)>>=λbe=>some ((⟨a.Kind,false,0,[],be.1,[],[],[]⟩:I),be.2.1,be.2.2.1,be.2.2.2)else some ((⟨a.Kind,false,0,[],he.ad,[],[],[]⟩:I),p.2.1,p.2.2.1,p.2.2.2)else none else if (a.Kind=5:Bool) then na (0,b,e,f,0,false,0,[],0,a.Kind,a.Name,a.bE,a.bH,a.Max,a.bh,a.ah,a.Key,a.aF,a.Open,a.Kind,false,0,[],0,[])>>=λo=>vm (o.1,o.2.1,o.2.2.1)>>=λB=>if B.1 then rm ((⟨o.2.2.2.2.2.2.2.2.1,o.2.2.2.2.2.2.2.2.2.1,o.2.2.2.2.2.2.2.2.2.2.1,o.2.2.2.2.2.2.2.2.2.2.2.1,o.2.2.2.2.2.2.2.2.2.2.2.2.1,o.2.2.2.2.2.2.2.2.2.2.2.2.2.1,o.2.2.2.2.2.2.2.2.2.2.2.2.2.2.1,o.2.2.2.2.2.2.2.2.2.2.2.2.2.2.2.1,o.2.2.2.2.2.2.2.2.2.2.2.2.2.2.2.2.1,o.2.2.2.2.2.2.2.2.2.2.2.2.2.2.2.2.2.1⟩:ai),B.2.1,B.2.2.1,B.2.2.2)>>=λbf=>vn (bf.1,bf.2.1,bf.2.2.1,bf.2.2.2)>>=λbi=>some ((⟨o.2.2.2.2.2.2.2.2.2.2.2.2.2.2.2.2.2.2.1,o.2.2.2.2.2.2.2.2.2.2.2.2.2.2.2.2.2.2.2.1,o.2.2.2.2.2.2.2.2.2.2.2.2.2.2.2.2.2.2.2.2.1,o.2.2.2.2.2.2.2.2.2.2.2.2.2.2.2.2.2.2.2.2.2.1,o.2.2.2.2.2.2.2.2.2.2.2.2.2.2.2.2.2.2.2.2.2.2.1,[],o.2.2.2.2.2.2.2.2.2.2.2.2.2.2.2.2.2.2.2.2.2.2.2,[bi.1]⟩:I),bi.2.1,bi.2.2.1,bi.2.2.2)else some ((⟨o.2.2.2.2.2.2.2.2.2.2.2.2.2.2.2.2.2.2.1,o.2.2.2.2.2.2.2.2.2.2.2.2.2.2.2.2.2.2.2.1,o.2.2.2.2.2.2.2.2.2.2.2.2.2.2.2.2.2.2.2.2.1,o.2.2.2.2.2.2.2.2.2.2.2.2.2.2.2.2.2.2.2.2.2.1,o.2.2.2.2.2.2.2.2.2.2.2.2.2.2.2.2.2.2.2.2.2.2.1,[],o.2.2.2.2.2.2.2.2.2.2.2.2.2.2.2.2.2.2.2.2.2.2.2,[]⟩:I),B.2.1,B.2.2.1,B.2.2.2)else if (a.Kind=6:Bool) then if a.Open then vm (b,e,f)>>=λD=>if(bif a.Open then D.1 else false) then rm (a,D.2.1,D.2.2.1,D.2.2.2)>>=λag=>vn (ag.1,ag.2.1,ag.2.2.1,ag.2.2.2)>>=λbs=>some ((⟨a.Kind,false,0,[],ag.1,[],[],[bs.1]⟩:I),bs.2.1,bs.2.2.1,bs.2.2.2)else iU ((a.ah.length:Int),D.2.1,D.2.2.1,D.2.2.2)>>=λam=>if aG am.1 a.ah.length then some (a.ah.getD am.1.toNat aC)>>=λhk=>jG (hk.aw,am.2.1,am.2.2.1,am.2.2.2)>>=λbv=>some ((⟨a.Kind,false,0,[],hk.ad,[],[I.eta bv.1],[]⟩:I),bv.2.1,bv.2.2.1,bv.2.2.2)else none else if(bif a.Open then false else false) then rm (a,b,e,f)>>=λan=>vn (an.1,an.2.1,an.2.2.1,an.2.2.2)>>=λbD=>some ((⟨a.Kind,false,0,[],an.1,[],[],[bD.1]⟩:I),bD.2.1,bD.2.2.1,bD.2.2.2)
 else iU ((a.ah.length:Int),b,e,f)>>=λap=>if aG ap.1 a.ah.length then some (a.ah.getD ap.1.toNat aC)>>=λhm=>jG (hm.aw,ap.2.1,ap.2.2.1,ap.2.2.2)>>=λbP=>some ((⟨a.Kind,false,0,[],hm.ad,[],[I.eta bP.1],[]⟩:I),bP.2.1,bP.2.2.1,bP.2.2.2)else none else if (a.Kind=7:Bool) then iU (aM .i64 (ja a.Max 3) 1,b,e,f)>>=λbZ=>rk (bZ.1,bZ.2.1,bZ.2.2.1,bZ.2.2.2,0,false,0,[],0,a.Kind,a.Name,a.bE,a.bH,a.Max,a.bh,a.ah,a.Key,a.aF,a.Open,a.Kind,false,0,[],0,[])>>=λv=>some ((⟨v.2.2.2.2.2.2.2.2.1,v.2.2.2.2.2.2.2.2.2.1,v.2.2.2.2.2.2.2.2.2.2.1,v.2.2.2.2.2.2.2.2.2.2.2.1,v.2.2.2.2.2.2.2.2.2.2.2.2.1,[],v.2.2.2.2.2.2.2.2.2.2.2.2.2,[]⟩:I),v.1,v.2.1,v.2.2.1)else if (a.Kind=8:Bool) then iU (aM .i64 (ja a.Max 3) 1,b,e,f)>>=λa0=>rl (a0.1,a0.2.1,a0.2.2.1,a0.2.2.2,0,false,0,[],0,a.Kind,a.Name,a.bE,a.bH,a.Max,a.bh,a.ah,a.Key,a.aF,a.Open,a.Kind,false,0,[],0,[],[],[])>>=λj=>some ((⟨j.2.2.2.2.2.2.2.2.1,j.2.2.2.2.2.2.2.2.2.1,j.2.2.2.2.2.2.2.2.2.2.1,j.2.2.2.2.2.2.2.2.2.2.2.1,j.2.2.2.2.2.2.2.2.2.2.2.2.1,j.2.2.2.2.2.2.2.2.2.2.2.2.2.1,j.2.2.2.2.2.2.2.2.2.2.2.2.2.2.1,j.2.2.2.2.2.2.2.2.2.2.2.2.2.2.2⟩:I),j.1,j.2.1,j.2.2.1)else iU (2,b,e,f)>>=λx=>if (x.1=1:Bool) then jG (a.aF,x.2.1,x.2.2.1,x.2.2.2)>>=λa1=>some ((⟨a.Kind,false,0,[],0,[],[I.eta a1.1],[]⟩:I),a1.2.1,a1.2.2.1,a1.2.2.2)else some ((⟨a.Kind,false,0,[],0,[],[],[]⟩:I),x.2.1,x.2.2.1,x.2.2.2)else none
  partial_fixpoint
def na:Int×List ai×ar×Bool×Int×Bool×Int×ak×Int×Int×ak×Int×Int×Int×List c3×List aU×Int×Int×Bool×Int×Bool×Int×ak×Int×List I->Option (List ai×ar×Bool×Int×Bool×Int×ak×Int×Int×ak×Int×Int×Int×List c3×List aU×Int×Int×Bool×Int×Bool×Int×ak×Int×List I)
 |(i,ax,aB,aD,F,G,H,J,K,L,M,N,O,P,Q,c,R,S,U,W,X,Y,Z,af,q)=>
 if (i<(c.length:Int):Bool) then if aG i c.length then some (c.getD i.toNat aC)>>=λb1=>if b1.bU then iU (3,ax,aB,aD)>>=λy=>if(bif b1.bU then (y.1=0:Bool)else false) then if aG i c.length then some [I.eta (c.getD i.toNat aC).bA]>>=λt113=>if room 120 (q++t113).length then na (aM .i64 i 1,y.2.1,y.2.2.1,y.2.2.2,F,G,H,J,K,L,M,N,O,P,Q,c,R,S,U,W,X,Y,Z,af,q++t113)else none else none else if aG i c.length then jG ((c.getD i.toNat aC).aw,y.2.1,y.2.2.1,y.2.2.2)>>=λa2=>some [I.eta a2.1]>>=λt126=>if room 120 (q++t126).length then na (aM .i64 i 1,a2.2.1,a2.2.2.1,a2.2.2.2,F,G,H,J,K,L,M,N,O,P,Q,c,R,S,U,W,X,Y,Z,af,q++t126)else none else none else if(bif b1.bU then false else false) then if aG i c.length then some [I.eta (c.getD i.toNat aC).bA]>>=λg8=>if room 120 (q++g8).length then na (aM .i64 i 1,ax,aB,aD,F,G,H,J,K,L,M,N,O,P,Q,c,R,S,U,W,X,Y,Z,af,q++g8)else none else none else if aG i c.length then jG ((c.getD i.toNat aC).aw,ax,aB,aD)>>=λa3=>some [I.eta a3.1]>>=λg9=>if room 120 (q++g9).length then na (aM .i64 i 1,a3.2.1,a3.2.2.1,a3.2.2.2,F,G,H,J,K,L,M,N,O,P,Q,c,R,S,U,W,X,Y,Z,af,q++g9)else none else none else none else some (ax,aB,aD,F,G,H,J,K,L,M,N,O,P,Q,c,R,S,U,W,X,Y,Z,af,q)
  partial_fixpoint
def rk:Int×List ai×ar×Bool×Int×Bool×Int×ak×Int×Int×ak×Int×Int×Int×List c3×List aU×Int×Int×Bool×Int×Bool×Int×ak×Int×List I->Option (List ai×ar×Bool×Int×Bool×Int×ak×Int×Int×Bool×Int×ak×Int×List I)
 |(n,gl,gs,gt,g0,g1,g2,g3,g4,io,ip,i0,i1,i2,i3,i4,i5,g5,i6,g6,b2,b3,b4,ce,b0)=>
 if (0<n:Bool) then jG (g5,gl,gs,gt)>>=λa4=>some [I.eta a4.1]>>=λt193=>if room 120 (b0++t193).length then rk (c9 .i64 n 1,a4.2.1,a4.2.2.1,a4.2.2.2,g0,g1,g2,g3,g4,io,ip,i0,i1,i2,i3,i4,i5,g5,i6,g6,b2,b3,b4,ce,b0++t193)else none else some (gl,gs,gt,g0,g1,g2,g3,g4,g6,b2,b3,b4,ce,b0)
  partial_fixpoint
def rl:Int×List ai×ar×Bool×Int×Bool×Int×ak×Int×Int×ak×Int×Int×Int×List c3×List aU×Int×Int×Bool×Int×Bool×Int×ak×Int×List I×List I×List bW->Option (List ai×ar×Bool×Int×Bool×Int×ak×Int×Int×Bool×Int×ak×Int×List I×List I×List bW)
 |(g7,ci,cs,cE,cN,cX,db,dn,dt,hs,ht,hu,hw,hH,h0,h1,eq,es,ii,ex,fd,ff,fo,fs,gc,gd,ge)=>
 if (0<g7:Bool) then jG (eq,ci,cs,cE)>>=λa5=>jG (es,a5.2.1,a5.2.2.1,a5.2.2.2)>>=λa9=>CN ((⟨ex,fd,ff,fo,fs,gc,gd,ge⟩:I),I.eta a5.1,I.eta a9.1)>>=λw=>rl (c9 .i64 g7 1,a9.2.1,a9.2.2.1,a9.2.2.2,cN,cX,db,dn,dt,hs,ht,hu,hw,hH,h0,h1,eq,es,ii,w.Kind,w.bN,w.bc,w.bl,w.ad,w.ay,w.aj,w.Rest)else some (ci,cs,cE,cN,cX,db,dn,dt,ex,fd,ff,fo,fs,gc,gd,ge)
  partial_fixpoint
end
theorem Vg:ee sG jG/\eC 112 1 [2] AT rl/\eC 112 1 [1] AS rk/\eC 112 1 [0] AR na:=jG.mutual_partial_correctness (ec sG) (eB 112 1 [2] AT) (eB 112 1 [1] AS) (eB 112 1 [0] AR)
 (λ_ _ _ _ h0 h1 a b _ _ h=>ei h (.k sN (.k UP (.k UB (.k Vf (.k VP (.k (cd sG h0) .n)))))) (.k (eM AR b) (.k (eM AS a) (.k (eM AT h1) .n))))
 (λ_ _ h0 h1 _ _ h=>eL AT h1 h (.k (cd sG h0) (.k XL .n)))
 (λ_ _ h0 a _ _ h=>eL AS a h (.k (cd sG h0) .n))
 (λ_ _ h0 b _ _ h=>eL AR b h (.k sN (.k (cd sG h0) .n)))
theorem TG:a6 sG jG:=cd _ Vg.1
def yT:aT×Int×ar->Option I
 |(s,t,a)=>
 some (ja 60 (a.length:Int))>>=λt12=>if dN 0 t12 a.length then jG (t,s.Types,dZ a 0 t12,false)>>=λr=>some (I.eta r.1)else none
theorem We:a6 agL yT:= .bj (.k TG .n)
def yx:aT×Int×ar->Option I
 |(s,t,a)=>
 some (ja 60 (a.length:Int))>>=λt12=>if dN 0 t12 a.length then jG (t,s.Types,dZ a 0 t12,true)>>=λr=>some (I.eta r.1)else none
theorem Vu:a6 agM yx:= .bj (.k TG .n)
def qc(d:lf):Option (aT×Int×I×I×Bool):=
 qb d.S>>=λr=>if !r.2 then some (r.1,0,(⟨0,false,0,[],0,[],[],[]⟩:I),(⟨0,false,0,[],0,[],[],[]⟩:I),false)else some (r.1.Types.length:Int)>>=λt26=>if !(t26=0:Bool) then some (b7 (bT .i64 d.T) t26)>>=λt27=>yT (r.1,t27,d.C)>>=λa=>yx (r.1,t27,d.C)>>=λb=>some (r.1,t27,I.eta a,I.eta b,true)else none
theorem TL:a6 ago qc:= .bj (.k GL (.k We (.k Vu .n)))
def hB:List iY×Int×List du->Option (List du)
 |(d,i,a)=>
 if(bif (i<(d.length:Int):Bool)then (0<(a.length:Int):Bool)else false) then if aG i d.length then some (d.getD i.toNat nG)>>=λe=>some (a.length:Int)>>=λt38=>if !(t38=0:Bool) then some (b7 (bT .i64 e.Node) t38)>>=λt39=>if aG t39 a.length then if (t39.toNat<a.length:Bool) then some (a.getD t39.toNat bu).c0>>=λt46=>if room 3 ([]++t46).length then some ([]++t46)>>=λb=>if (t39.toNat<a.length:Bool) then if (t39.toNat=t39.toNat:Bool) then
 let n:=λc=>
 some (b7 e.Kind 8)>>=λf=>if (f=0:Bool) then if (t39.toNat<a.length:Bool) then some (c9 .u8 (aM .u8 (a.getD t39.toNat bu).A (b7 e.A 5)) 2)>>=λj=>if (t39.toNat<a.length:Bool) then hB (d,aM .i64 i 1,(a.set t39.toNat (⟨(a.getD t39.toNat bu).Kind,j,(a.getD t39.toNat bu).B,(a.getD t39.toNat bu).C,(a.getD t39.toNat bu).c0⟩:du)).set t39.toNat (⟨((a.set t39.toNat (⟨(a.getD t39.toNat bu).Kind,j,(a.getD t39.toNat bu).B,(a.getD t39.toNat bu).C,(a.getD t39.toNat bu).c0⟩:du)).getD t39.toNat bu).Kind,((a.set t39.toNat (⟨(a.getD t39.toNat bu).Kind,j,(a.getD t39.toNat bu).B,(a.getD t39.toNat bu).C,(a.getD t39.toNat bu).c0⟩:du)).getD t39.toNat bu).A,((a.set t39.toNat (⟨(a.getD t39.toNat bu).Kind,j,(a.getD t39.toNat bu).B,(a.getD t39.toNat bu).C,(a.getD t39.toNat bu).c0⟩:du)).getD t39.toNat bu).B,((a.set t39.toNat (⟨(a.getD t39.toNat bu).Kind,j,(a.getD t39.toNat bu).B,(a.getD t39.toNat bu).C,(a.getD t39.toNat bu).c0⟩:du)).getD t39.toNat bu).C,b⟩:du))else none else none else if (f=1:Bool) then if (t39.toNat<a.length:Bool) then some (c9 .u8 (aM .u8 (a.getD t39.toNat bu).B (b7 e.B 5)) 2)>>=λk=>if (t39.toNat<a.length:Bool) then hB (d,aM .i64 i 1,(a.set t39.toNat (⟨(a.getD t39.toNat bu).Kind,(a.getD t39.toNat bu).A,k,(a.getD t39.toNat bu).C,(a.getD t39.toNat bu).c0⟩:du)).set t39.toNat (⟨((a.set t39.toNat (⟨(a.getD t39.toNat bu).Kind,(a.getD t39.toNat bu).A,k,(a.getD t39.toNat bu).C,(a.getD t39.toNat bu).c0⟩:du)).getD t39.toNat bu).Kind,((a.set t39.toNat (⟨(a.getD t39.toNat bu).Kind,(a.getD t39.toNat bu).A,k,(a.getD t39.toNat bu).C,(a.getD t39.toNat bu).c0⟩:du)).getD t39.toNat bu).A,((a.set t39.toNat (⟨(a.getD t39.toNat bu).Kind,(a.getD t39.toNat bu).A,k,(a.getD t39.toNat bu).C,(a.getD t39.toNat bu).c0⟩:du)).getD t39.toNat bu).B,((a.set t39.toNat (⟨(a.getD t39.toNat bu).Kind,(a.getD t39.toNat bu).A,k,(a.getD t39.toNat bu).C,(a.getD t39.toNat bu).c0⟩:du)).getD t39.toNat bu).C,b⟩:du))else none else none else if (f=2:Bool) then if (t39.toNat<a.length:Bool) then some (b7 e.A 6)>>=λo=>if (0<=o:Bool) then some (uM .u8 (a.getD t39.toNat bu).A (nj .u8 1 o))>>=λl=>if (t39.toNat<a.length:Bool) then hB (d,aM .i64 i 1,(a.set t39.toNat (⟨(a.getD t39.toNat bu).Kind,l,(a.getD t39.toNat bu).B,(a.getD t39.toNat bu).C,(a.getD t39.toNat bu).c0⟩:du)).set t39.toNat (⟨((a.set t39.toNat (⟨(a.getD t39.toNat bu).Kind,l,(a.getD t39.toNat bu).B,(a.getD t39.toNat bu).C,(a.getD t39.toNat bu).c0⟩:du)).getD t39.toNat bu).Kind,((a.set t39.toNat (⟨(a.getD t39.toNat bu).Kind,l,(a.getD t39.toNat bu).B,(a.getD t39.toNat bu).C,(a.getD t39.toNat bu).c0⟩:du)).getD t39.toNat bu).A,((a.set t39.toNat (⟨(a.getD t39.toNat bu).Kind,l,(a.getD t39.toNat bu).B,(a.getD t39.toNat bu).C,(a.getD t39.toNat bu).c0⟩:du)).getD t39.toNat bu).B,((a.set t39.toNat (⟨(a.getD t39.toNat bu).Kind,l,(a.getD t39.toNat bu).B,(a.getD t39.toNat bu).C,(a.getD t39.toNat bu).c0⟩:du)).getD t39.toNat bu).C,b⟩:du))else none else none else none else if (f=3:Bool) then if (t39.toNat<a.length:Bool) then some (aM .u8 (a.getD t39.toNat bu).C e.A)>>=λm=>if (t39.toNat<a.length:Bool) then hB (d,aM .i64 i 1,(a.set t39.toNat (⟨(a.getD t39.toNat bu).Kind,(a.getD t39.toNat bu).A,(a.getD t39.toNat bu).B,m,(a.getD t39.toNat bu).c0⟩:du)).set t39.toNat (⟨((a.set t39.toNat (⟨(a.getD t39.toNat bu).Kind,(a.getD t39.toNat bu).A,(a.getD t39.toNat bu).B,m,(a.getD t39.toNat bu).c0⟩:du)).getD t39.toNat bu).Kind,((a.set t39.toNat (⟨(a.getD t39.toNat bu).Kind,(a.getD t39.toNat bu).A,(a.getD t39.toNat bu).B,m,(a.getD t39.toNat bu).c0⟩:du)).getD t39.toNat bu).A,((a.set t39.toNat (⟨(a.getD t39.toNat bu).Kind,(a.getD t39.toNat bu).A,(a.getD t39.toNat bu).B,m,(a.getD t39.toNat bu).c0⟩:du)).getD t39.toNat bu).B,((a.set t39.toNat (⟨(a.getD t39.toNat bu).Kind,(a.getD t39.toNat bu).A,(a.getD t39.toNat bu).B,m,(a.getD t39.toNat bu).c0⟩:du)).getD t39.toNat bu).C,b⟩:du))
 else none else none else if (f=4:Bool) then if (t39.toNat=t39.toNat:Bool) then if ((b.length:Int)<8:Bool) then if (t39.toNat=t39.toNat:Bool) then some [(⟨e.A,e.B,fC .u8 e.A 12⟩:lR)]>>=λp=>if room 3 (b++p).length then if (t39.toNat=t39.toNat:Bool) then hB (d,aM .i64 i 1,a.set t39.toNat (⟨(a.getD t39.toNat bu).Kind,(a.getD t39.toNat bu).A,(a.getD t39.toNat bu).B,(a.getD t39.toNat bu).C,b++p⟩:du))else none else none else none else hB (d,aM .i64 i 1,a.set t39.toNat (⟨(a.getD t39.toNat bu).Kind,(a.getD t39.toNat bu).A,(a.getD t39.toNat bu).B,(a.getD t39.toNat bu).C,b⟩:du))else none else if (f=5:Bool) then if (t39.toNat=t39.toNat:Bool) then if (0<(b.length:Int):Bool) then if (t39.toNat=t39.toNat:Bool) then if dN 0 c b.length then if (t39.toNat=t39.toNat:Bool) then some (aM .i64 c 1)>>=λg=>if dN g (b.length:Int) b.length then if((c.toNat+((b.length:Int).toNat-g.toNat)<=b.length:Bool)&&(g.toNat+((b.length:Int).toNat-g.toNat)<=b.length:Bool)) then if (t39.toNat=t39.toNat:Bool) then hB (d,aM .i64 i 1,a.set t39.toNat (⟨(a.getD t39.toNat bu).Kind,(a.getD t39.toNat bu).A,(a.getD t39.toNat bu).B,(a.getD t39.toNat bu).C,b.take c.toNat++(b.drop g.toNat).take ((b.length:Int).toNat-g.toNat)⟩:du))else none else none else none else none else none else none else hB (d,aM .i64 i 1,a.set t39.toNat (⟨(a.getD t39.toNat bu).Kind,(a.getD t39.toNat bu).A,(a.getD t39.toNat bu).B,(a.getD t39.toNat bu).C,b⟩:du))else none else if (f=6:Bool) then if (t39.toNat=t39.toNat:Bool) then if (0<(b.length:Int):Bool) then if (t39.toNat=t39.toNat:Bool) then if aG c b.length then if (c.toNat<b.length:Bool) then hB (d,aM .i64 i 1,a.set t39.toNat (⟨(a.getD t39.toNat bu).Kind,(a.getD t39.toNat bu).A,(a.getD t39.toNat bu).B,(a.getD t39.toNat bu).C,b.set c.toNat (⟨(b.getD c.toNat iP).ad,(b.getD c.toNat iP).aw,e.B⟩:lR)⟩:du))else none else none else none else hB (d,aM .i64 i 1,a.set t39.toNat (⟨(a.getD t39.toNat bu).Kind,(a.getD t39.toNat bu).A,(a.getD t39.toNat bu).B,(a.getD t39.toNat bu).C,b⟩:du))else none else if (t39.toNat=t39.toNat:Bool) then if (0<(b.length:Int):Bool) then if (t39.toNat=t39.toNat:Bool) then if (t39.toNat=t39.toNat:Bool) then if aG c b.length then if (c.toNat<b.length:Bool) then if aG c b.length then if (c.toNat<b.length:Bool) then hB (d,aM .i64 i 1,a.set t39.toNat (⟨(a.getD t39.toNat bu).Kind,(a.getD t39.toNat bu).A,(a.getD t39.toNat bu).B,(a.getD t39.toNat bu).C,b.set c.toNat (⟨(b.getD c.toNat iP).ad,aM .u8 (b.getD c.toNat iP).aw e.B,(b.getD c.toNat iP).ha⟩:lR)⟩:du))else none else none else none else none else none else none else hB (d,aM .i64 i 1,a.set t39.toNat (⟨(a.getD t39.toNat bu).Kind,(a.getD t39.toNat bu).A,(a.getD t39.toNat bu).B,(a.getD t39.toNat bu).C,b⟩:du))else none
 if (0<(b.length:Int):Bool) then if (t39.toNat=t39.toNat:Bool) then some (b.length:Int)>>=λt63=>if !(t63=0:Bool) then some (b7 (bT .i64 e.A) t63)>>=λt64=>n t64 else none else none else n 0 else none else none else none else none else none else none else none else some a
  partial_fixpoint
theorem UQ:cL 33 0 [0] R2 hB:= .rx hB.partial_correctness
def vp:ej×List iY->Option ej
 |(d,l)=>
 if room 32 ([]++d.dI).length then hB (l,0,[]++d.dI)>>=λo=>some (⟨o⟩:ej)else none
theorem Gx:a6 agk vp:= .bj .n (.k UQ .n)
def rG:Int×Int×I->Option (Int×I)
 |(b,i,a)=>
 if(bif (i<(a.Rest.length:Int):Bool)then (0<=b:Bool)else false) then if aG i a.Rest.length then rG (c9 .i64 b ((a.Rest.getD i.toNat bV).Data.length:Int),aM .i64 i 1,I.eta a)else none else some (b,I.eta a)
  partial_fixpoint
theorem Vv:cL 78 0 [0] Sj rG:= .rx rG.partial_correctness
mutual
def nK:I×Int->Option Int
 |(v,n)=>
 rG (c9 .i64 n (aM .i64 (aM .i64 10 (v.bl.length:Int)) (v.Rest.length:Int)),0,I.eta v)>>=λo=>sW (o.1,0,I.eta o.2)>>=λt=>sX (t.1,0,I.eta t.2)>>=λw=>some w
  partial_fixpoint
def sW:Int×Int×I->Option (Int×I)
 |(p,f,a)=>
 if(bif (f<(a.ay.length:Int):Bool)then (0<=p:Bool)else false) then if aG f a.ay.length then nK (I.eta (a.ay.getD f.toNat av),p)>>=λr=>sW (r,aM .i64 f 1,I.eta a)else none else some (p,I.eta a)
  partial_fixpoint
def sX:Int×Int×I->Option Int
 |(q,j,e)=>
 if(bif (j<(e.aj.length:Int):Bool)then (0<=q:Bool)else false) then if aG j e.aj.length then nK (I.eta (e.aj.getD j.toNat av),q)>>=λx=>sX (x,aM .i64 j 1,I.eta e)else none else some q
  partial_fixpoint
end
theorem Vn:ee xY nK/\eC 78 0 [2] x0 sX/\eC 78 0 [1] xZ sW:=nK.mutual_partial_correctness (ec xY) (eB 78 0 [2] x0) (eB 78 0 [1] xZ)
 (λ_ _ h1 a _ _ h=>ei h .n (.k Vv (.k (eM xZ a) (.k (eM x0 h1) .n))))
 (λ_ _ h0 h1 _ _ h=>eL x0 h1 h (.k (cd xY h0) .n))
 (λ_ _ h0 a _ _ h=>eL xZ a h (.k (cd xY h0) .n))
theorem Wf:a6 xY nK:=cd _ Vn.1
def vy(v:I):Option Bool:=
 nK (I.eta v,3000)>>=λr=>some (decide (0<=r))
theorem T8:a6 agp vy:= .bj (.k Wf .n)
def y2(c:mN):Option (aT×aT×Int×I×Bool):=
 qc c.D>>=λr=>vp (c.D.S,c.L)>>=λd=>qb d>>=λa=>some (bif bif (!r.2.2.2.2)then true else(!a.2)then true else decide (4<(c.L.length:Int)))>>=λt44=>(if !t44 then vy (I.eta r.2.2.1)else some false)>>=λb=>if(bif t44 then true else(!b)) then some ((⟨[]⟩:aT),(⟨[]⟩:aT),0,(⟨0,false,0,[],0,[],[],[]⟩:I),false)else some (r.1,a.1,r.2.1,I.eta r.2.2.1,true)
theorem Xk:a6 afO y2:= .bj (.k TL (.k Gx (.k GL (.k T8 .n))))
def vu:Int×ak->Option ak
 |(a,b)=>
 if (0<a:Bool) then some (strOf [bT .u8 (b7 a 256)])>>=λt10=>if (t10.length+b.length<=eF:Bool) then vu (fC .u64 a 256,t10++b)else none else some b
  partial_fixpoint
theorem Vo:cL 50 0 [0] Sb vu:= .rx vu.partial_correctness
def yX(n:Int):Option ak:=
 vu (n,[])>>=λo=>some o
theorem XM:a6 agu yX:= .bj .n (.k Vo .n)
def vv:Int×ar->Option (Int×ar)
 |(a,b)=>
 if (128<=a:Bool) then some [bT .u8 (aM .u64 (b7 a 128) 128)]>>=λt11=>if room 1 (b++t11).length then vv (fC .u64 a 128,b++t11)else none else some (a,b)
  partial_fixpoint
theorem Vp:cL 52 0 [0] Sc vv:= .rx vv.partial_correctness
def q0(n:Int):Option ak:=
 vv (n,[])>>=λo=>some [bT .u8 o.1]>>=λt18=>if room 1 (o.2++t18).length then some (strOf (o.2++t18))else none
theorem GI:a6 agw q0:= .bj .n (.k Vp .n)
def qX(p:ak):Option ak:=
 q0 (bT .u64 (p.length:Int))>>=λr=>if (r.length+p.length<=eF:Bool) then some (r++p)else none
theorem GC:a6 agy qX:= .bj (.k GI .n)
def pa:Int×I×I->Option ((Bool) ⊕ (I×I))
 |(i,a,b)=>
 if (i<(a.Rest.length:Int):Bool) then if aG i a.Rest.length then some (a.Rest.getD i.toNat bV)>>=λc=>if aG i b.Rest.length then some (b.Rest.getD i.toNat bV)>>=λd=>if !(hK c.ad d.ad&&(i' c.Data d.Data&&true)) then some (.inl false)else pa (aM .i64 i 1,I.eta a,I.eta b)else none else none else some (.inr (I.eta a,I.eta b))
  partial_fixpoint
theorem Vi:cL 49 0 [0] Sa pa:= .rx pa.partial_correctness
mutual
def jH(e:I×I):Option Bool:=
 match e with
 |(a,b)=>
 if(bif bif bif bif bif (!(a.Kind=b.Kind:Bool))then true else(!(fy a.bN b.bN))then true else(!(a.bc=b.bc:Bool))then true else(!(a.bl=b.bl:Bool))then true else(!(a.ad=b.ad:Bool))then true else(!((a.Rest.length:Int)=(b.Rest.length:Int):Bool))) then some false else pa (0,(⟨a.Kind,a.bN,a.bc,a.bl,a.ad,a.ay,a.aj,a.Rest⟩:I),(⟨b.Kind,b.bN,b.bc,b.bl,b.ad,b.ay,b.aj,b.Rest⟩:I))>>=λo=>match o with
 |.inl p=>
 some p
 |.inr c=>
 yq (c.1.ay,c.2.ay)>>=λr=>(if r then yq (c.1.aj,c.2.aj)else some false)>>=λq=>some (bif r then q else false)
  partial_fixpoint
def yq(e:List I×List I):Option Bool:=
 match e with
 |(a,b)=>
 if !((a.length:Int)=(b.length:Int):Bool) then some false else vl (a,b,0)>>=λo=>match o with
 |.inl p=>
 some p
 |.inr c=>
 some true
  partial_fixpoint
def vl:List I×List I×Int->Option ((Bool) ⊕ (Unit))
 |(f,j,i)=>
 if (i<(f.length:Int):Bool) then if aG i f.length then if aG i j.length then jH (I.eta (f.getD i.toNat av),I.eta (j.getD i.toNat av))>>=λr=>if !r then some (.inl false)else vl (f,j,aM .i64 i 1)else none else none else some (.inr ())
  partial_fixpoint
end
theorem UG:ee BI jH/\ee Fz yq/\eC 89 0 [0] x2 vl:=jH.mutual_partial_correctness (ec BI) (ec Fz) (eB 89 0 [0] x2)
 (λ_ h1 _ _ h=>ei h (.k (cd Fz h1) .n) (.k Vi .n))
 (λ_ a _ _ h=>ei h .n (.k (eM x2 a) .n))
 (λ_ _ h0 a _ _ h=>eL x2 a h (.k (cd BI h0) .n))
theorem yp:a6 BI jH:=cd _ UG.1
def zm:Int×Bool×ak->Option ak
 |(id,d,p)=>
 some (bT .u64 (gz .i64 2 id))>>=λt10=>if d then q0 (aM .u64 t10 1)>>=λr=>qX p>>=λa=>if (r.length+a.length<=eF:Bool) then some (r++a)else none else q0 t10>>=λb=>qX p>>=λc=>if (b.length+c.length<=eF:Bool) then some (b++c)else none
theorem T9:a6 agz zm:= .bj (.k GI (.k GC .n))
def mE:ak×Int×Int×List ai×I×ai->Option (ak×Int×List ai×I×ai)
 |(c,b,k,d,a,e)=>
 if (k<(a.Rest.length:Int):Bool) then if aG k a.Rest.length then if ((a.Rest.getD k.toNat bV).ad=b:Bool) then if aG k a.Rest.length then zm (b,false,(a.Rest.getD k.toNat bV).Data)>>=λf=>if (c.length+f.length<=eF:Bool) then mE (c++f,b,aM .i64 k 1,d,I.eta a,e)else none else none else mE (c,b,aM .i64 k 1,d,I.eta a,e)else none else some (c,b,d,I.eta a,e)
  partial_fixpoint
theorem Vj:cL 19 0 [0,2] OS mE:= .rx mE.partial_correctness (.k T9 .n)
mutual
def iV:aT×Int×I->Option ak
 |(s,t,v)=>
 if aG t s.Types.length then some (s.Types.getD t.toNat aK)>>=λa=>if (a.Kind=1:Bool) then if v.bN then some [1]else some []else if (a.Kind=2:Bool) then vt v.bc>>=λr=>yX r>>=λZ=>some Z else if (a.Kind=3:Bool) then some v.bl else if (a.Kind=4:Bool) then yX (bT .u64 v.ad)>>=λap=>some ap else if (a.Kind=9:Bool) then if ((v.aj.length:Int)=0:Bool) then some []else if aG 0 v.aj.length then iV (s,a.aF,I.eta (v.aj.getD (0:Int).toNat av))>>=λP=>if ([1].length+P.length<=eF:Bool) then some ([1]++P)else none else none else if (a.Kind=6:Bool) then if (0<(v.Rest.length:Int):Bool) then q0 (bT .u64 v.ad)>>=λQ=>if aG 0 v.Rest.length then some (v.Rest.getD (0:Int).toNat bV)>>=λW=>if (Q.length+W.Data.length<=eF:Bool) then some (Q++W.Data)else none else none else hC (a,v.ad)>>=λR=>q0 (bT .u64 v.ad)>>=λS=>if aG R.1 a.ah.length then if aG 0 v.aj.length then iV (s,(a.ah.getD R.1.toNat aC).aw,I.eta (v.aj.getD (0:Int).toNat av))>>=λU=>if (S.length+U.length<=eF:Bool) then some (S++U)else none else none else none else if (a.Kind=7:Bool) then sQ ([],0,s.Types,I.eta v,a)>>=λo=>some o else if (a.Kind=8:Bool) then sR ([],0,s.Types,I.eta v,a)>>=λX=>some X else pe ([],1,s.Types,I.eta v,a)>>=λY=>some Y else none
  partial_fixpoint
def sQ:ak×Int×List ai×I×ai->Option ak
 |(H,i,b,B,K)=>
 if (i<(B.aj.length:Int):Bool) then if aG i B.aj.length then iV ((⟨b⟩:aT),K.aF,I.eta (B.aj.getD i.toNat av))>>=λaf=>qX af>>=λL=>if (H.length+L.length<=eF:Bool) then sQ (H++L,aM .i64 i 1,b,I.eta B,K)else none else none else some H
  partial_fixpoint
def sR:ak×Int×List ai×I×ai->Option ak
 |(J,q,F,j,G)=>
 if (q<(j.aj.length:Int):Bool) then if aG q j.ay.length then iV ((⟨F⟩:aT),G.Key,I.eta (j.ay.getD q.toNat av))>>=λag=>qX ag>>=λM=>if (J.length+M.length<=eF:Bool) then some (J++M)>>=λt144=>if aG q j.aj.length then iV ((⟨F⟩:aT),G.aF,I.eta (j.aj.getD q.toNat av))>>=λam=>qX am>>=λN=>if (t144.length+N.length<=eF:Bool) then sR (t144++N,aM .i64 q 1,F,I.eta j,G)else none else none else none else none else some J
  partial_fixpoint
def pe:ak×Int×List ai×I×ai->Option ak
 |(A,id,D,c,p)=>
 if (id<=1000:Bool) then hC (p,id)>>=λe=>if e.2 then if aG e.1 p.ah.length then some (p.ah.getD e.1.toNat aC)>>=λE=>some (!E.bU)>>=λt175=>if(aG e.1 c.aj.length||(!(!t175))) then (if !t175 then jH (I.eta (c.aj.getD e.1.toNat av),I.eta E.bA)else some false)>>=λan=>if(bif t175 then true else(!an)) then if aG e.1 c.aj.length then iV ((⟨D⟩:aT),E.aw,I.eta (c.aj.getD e.1.toNat av))>>=λax=>zm (id,E.ch,ax)>>=λO=>if (A.length+O.length<=eF:Bool) then mE (A++O,id,0,D,I.eta c,p)>>=λw=>pe (w.1,aM .i64 w.2.1 1,w.2.2.1,I.eta w.2.2.2.1,w.2.2.2.2)else none else none else mE (A,id,0,D,I.eta c,p)>>=λx=>pe (x.1,aM .i64 x.2.1 1,x.2.2.1,I.eta x.2.2.2.1,x.2.2.2.2)else none else none else mE (A,id,0,D,I.eta c,p)>>=λy=>pe (y.1,aM .i64 y.2.1 1,y.2.2.1,I.eta y.2.2.2.1,y.2.2.2.2)else some A
  partial_fixpoint
end
theorem VQ:ee sJ iV/\eC 19 0 [2] xR pe/\eC 19 0 [1] xQ sR/\eC 19 0 [0] xP sQ:=iV.mutual_partial_correctness (ec sJ) (eB 19 0 [2] xR) (eB 19 0 [1] xQ) (eB 19 0 [0] xP)
 (λ_ _ _ _ h0 h1 a b _ _ h=>ei h (.k TD (.k XM (.k (cd sJ h0) (.k GI (.k mH .n))))) (.k (eM xP b) (.k (eM xQ a) (.k (eM xR h1) .n))))
 (λ_ _ h0 h1 _ _ h=>eL xR h1 h (.k mH (.k yp (.k (cd sJ h0) (.k T9 .n)))) (.k Vj .n))
 (λ_ _ h0 a _ _ h=>eL xQ a h (.k (cd sJ h0) (.k GC .n)))
 (λ_ _ h0 b _ _ h=>eL xP b h (.k (cd sJ h0) (.k GC .n)))
theorem Cq:a6 sJ iV:=cd _ VQ.1
def y3(c:nN):Option (cD×cD×ak×Bool):=
 y2 c.C>>=λr=>if !r.2.2.2.2 then some ((⟨(⟨[]⟩:aT),0⟩:cD),(⟨(⟨[]⟩:aT),0⟩:cD),[],false)else if c.xy then qc c.C.D>>=λa=>vy (I.eta a.2.2.2.1)>>=λb=>if !b then some ((⟨(⟨[]⟩:aT),0⟩:cD),(⟨(⟨[]⟩:aT),0⟩:cD),[],false)else iV (r.1,r.2.2.1,I.eta a.2.2.2.1)>>=λd=>some ((⟨r.1,r.2.2.1⟩:cD),(⟨r.2.1,r.2.2.1⟩:cD),d,true)else vy (I.eta r.2.2.2.1)>>=λe=>if !e then some ((⟨(⟨[]⟩:aT),0⟩:cD),(⟨(⟨[]⟩:aT),0⟩:cD),[],false)else iV (r.1,r.2.2.1,I.eta r.2.2.2.1)>>=λf=>some ((⟨r.1,r.2.2.1⟩:cD),(⟨r.2.1,r.2.2.1⟩:cD),f,true)
theorem Xl:a6 Br y3:= .bj (.k Xk (.k TL (.k T8 (.k Cq .n))))
def pG:List c3×List c3×Int×Int->Option ((Bool) ⊕ (Unit))
 |(a,b,c,t13)=>
 if (t13<c:Bool) then if aG t13 a.length then some (a.getD t13.toNat dK)>>=λd=>if aG t13 b.length then some (b.getD t13.toNat dK)>>=λe=>if !(hK d.ad e.ad&&(i' d.Name e.Name&&true)) then some (.inl false)else pG (a,b,c,aM .i64 t13 1)else none else none else some (.inr ())
  partial_fixpoint
theorem U8:cL 239 0 [0] O5 pG:= .rx pG.partial_correctness
def Cu(c:List c3×List c3):Option Bool:=
 match c with
 |(s1,a)=>
 if !((s1.length:Int)=(a.length:Int):Bool) then some false else pG (s1,a,(s1.length:Int),0)>>=λo=>match o with
 |.inl b=>
 some b
 |.inr d=>
 some true
theorem U':a6 RO Cu:= .bj .n (.k U8 .n)
def o':List bW×List bW×Int×Int->Option ((Bool) ⊕ (Unit))
 |(a,b,c,t13)=>
 if (t13<c:Bool) then if aG t13 a.length then some (a.getD t13.toNat bV)>>=λd=>if aG t13 b.length then some (b.getD t13.toNat bV)>>=λe=>if !(hK d.ad e.ad&&(i' d.Data e.Data&&true)) then some (.inl false)else o' (a,b,c,aM .i64 t13 1)else none else none else some (.inr ())
  partial_fixpoint
theorem Va:cL 103 0 [0] O6 o':= .rx o'.partial_correctness
def yn(c:List bW×List bW):Option Bool:=
 match c with
 |(s1,a)=>
 if !((s1.length:Int)=(a.length:Int):Bool) then some false else o' (s1,a,(s1.length:Int),0)>>=λo=>match o with
 |.inl b=>
 some b
 |.inr d=>
 some true
theorem TE:a6 QV yn:= .bj .n (.k Va .n)
mutual
def lV:I×I->Option Bool
 |(a,b)=>
 some (bif bif bif bif decide (a.Kind=b.Kind)then fy a.bN b.bN else false then decide (a.bc=b.bc)else false then decide (a.bl=b.bl)else false then decide (a.ad=b.ad)else false)>>=λt37=>(if t37 then yn (a.Rest,b.Rest)else some false)>>=λr=>some (bif t37 then r else false)>>=λt44=>(if t44 then yl (a.ay,b.ay)else some false)>>=λq=>some (bif t44 then q else false)>>=λt51=>(if t51 then yl (a.aj,b.aj)else some false)>>=λt=>some (bif t51 then t else false)
  partial_fixpoint
def yl(c:List I×List I):Option Bool:=
 match c with
 |(s1,f)=>
 if !((s1.length:Int)=(f.length:Int):Bool) then some false else vJ (f,s1,(s1.length:Int),0)>>=λo=>match o with
 |.inl p=>
 some p
 |.inr v=>
 some true
  partial_fixpoint
def vJ:List I×List I×Int×Int->Option ((Bool) ⊕ (Unit))
 |(e,t15,j,t17)=>
 if (t17<j:Bool) then if aG t17 t15.length then if aG t17 e.length then lV (I.eta (t15.getD t17.toNat av),I.eta (e.getD t17.toNat av))>>=λr=>if !r then some (.inl false)else vJ (e,t15,j,aM .i64 t17 1)else none else none else some (.inr ())
  partial_fixpoint
end
theorem W3:ee xS lV/\ee DV yl/\eC 104 0 [0] zy vJ:=lV.mutual_partial_correctness (ec xS) (ec DV) (eB 104 0 [0] zy)
 (λ_ h1 _ _ h=>ei h (.k TE (.k (cd DV h1) .n)))
 (λ_ a _ _ h=>ei h .n (.k (eM zy a) .n))
 (λ_ _ h0 a _ _ h=>eL zy a h (.k (cd xS h0) .n))
theorem J5:a6 xS lV:=cd _ W3.1
def y4:aU×aU->Option Bool
 |(a,y)=>
 some (bif bif bif bif decide (a.ad=y.ad)then decide (a.Name=y.Name)else false then decide (a.aw=y.aw)else false then fy a.ch y.ch else false then fy a.bU y.bU else false)>>=λt37=>(if t37 then lV ((⟨a.bA.Kind,a.bA.bN,a.bA.bc,a.bA.bl,a.bA.ad,a.bA.ay,a.bA.aj,a.bA.Rest⟩:I),I.eta y.bA)else some false)>>=λr=>some (bif t37 then r else false)
theorem Xm:a6 RR y4:= .bj (.k J5 .n)
def pC:List aU×List aU×Int×Int->Option ((Bool) ⊕ (Unit))
 |(c,t15,d,t17)=>
 if (t17<d:Bool) then if aG t17 t15.length then some (t15.getD t17.toNat aC)>>=λa=>if aG t17 c.length then some (c.getD t17.toNat aC)>>=λb=>y4 ((⟨a.ad,a.Name,a.aw,a.ch,a.bU,I.eta a.bA⟩:aU),(⟨b.ad,b.Name,b.aw,b.ch,b.bU,I.eta b.bA⟩:aU))>>=λr=>if !r then some (.inl false)else pC (c,t15,d,aM .i64 t17 1)else none else none else some (.inr ())
  partial_fixpoint
theorem Uu:cL 240 0 [0] O7 pC:= .rx pC.partial_correctness (.k Xm .n)
def Cs(c:List aU×List aU):Option Bool:=
 match c with
 |(s1,a)=>
 if !((s1.length:Int)=(a.length:Int):Bool) then some false else pC (a,s1,(s1.length:Int),0)>>=λo=>match o with
 |.inl b=>
 some b
 |.inr d=>
 some true
theorem Uv:a6 RQ Cs:= .bj .n (.k Uu .n)
def hY:ai×ai->Option Bool
 |(a,b)=>
 some (bif bif bif bif bif bif bif decide (a.Kind=b.Kind)then decide (a.Name=b.Name)else false then decide (a.bE=b.bE)else false then decide (a.bH=b.bH)else false then decide (a.Max=b.Max)else false then decide (a.Key=b.Key)else false then decide (a.aF=b.aF)else false then fy a.Open b.Open else false)>>=λt58=>(if t58 then Cu (a.bh,b.bh)else some false)>>=λr=>some (bif t58 then r else false)>>=λt65=>(if t65 then Cs (a.ah,b.ah)else some false)>>=λc=>some (bif t65 then c else false)
theorem YD:a6 Rt hY:= .bj (.k U' (.k Uv .n))
def y5(c:Int):Option Bool:=
 some (bif bif decide (c=95)then true else bif decide (97<=c)then decide (c<=122)else false then true else bif decide (65<=c)then decide (c<=90)else false)
theorem TM:a6 RK y5:= .bj
def CX(c:Int):Option Bool:=
 some (bif decide (48<=c)then decide (c<=57)else false)
theorem W4:a6 RL CX:= .bj
def lg:ak×Int×Int->Option ((Bool) ⊕ (Unit))
 |(a,b,t19)=>
 if (t19<b:Bool) then if aG t19 a.length then y5 (fI a t19)>>=λc=>some (!c)>>=λt26=>if(aG t19 a.length||(!t26)) then (if t26 then CX (fI a t19)else some false)>>=λd=>if(bif t26 then(!d)else false) then some (.inl false)else lg (a,b,aM .i64 t19 1)else none else none else some (.inr ())
  partial_fixpoint
theorem XN:cL 208 0 [0] O8 lg:= .rx lg.partial_correctness (.k TM (.k W4 .n))
def kJ(s:ak):Option Bool:=
 some (bif decide (s=[])then true else decide (24<(s.length:Int)))>>=λt10=>if(aG 0 s.length||(!(!t10))) then (if !t10 then y5 (fI s 0)else some false)>>=λr=>if(bif t10 then true else(!r)) then some false else lg (s,(s.length:Int),0)>>=λo=>match o with
 |.inl a=>
 some a
 |.inr b=>
 some true else none
theorem T5:a6 Rq kJ:= .bj (.k TM .n) (.k XN .n)
def qd:ar×List ak×ar×Int×Int×List ak->Option ((Bool) ⊕ ar)
 |(c,a,t9,e,t11,b)=>
 if (t11<e:Bool) then if aG t11 t9.length then some (t9.getD t11.toNat 0)>>=λd=>some (bif decide (d<1)then true else decide (1000<d))>>=λt21=>some (decide (0<t11))>>=λt24=>some (c9 .i64 t11 1)>>=λt29=>if(aG t29 c.length||(!((!t21)&&t24))) then some (bif t21 then true else bif t24 then decide (d<=c.getD t29.toNat 0)else false)>>=λt34=>if(aG t11 a.length||(!(!t34))) then some (bif t34 then true else js b (a.getD t11.toNat []))>>=λt42=>if(aG t11 a.length||(!(!t42))) then (if !t42 then kJ (a.getD t11.toNat [])else some false)>>=λr=>if(bif t42 then true else(!r)) then some (.inl false)else if aG t11 a.length then qd (c,a,t9,e,aM .i64 t11 1,iN b (a.getD t11.toNat []))else none else none else none else none else none else some (.inr c)
  partial_fixpoint
theorem Yi:cL 237 0 [0] O9 qd:= .rx qd.partial_correctness (.k T5 .n)
def zX(c:ar×List ak):Option Bool:=
 match c with
 |(l,names)=>
 qd (l,names,l,(l.length:Int),0,[])>>=λo=>match o with
 |.inl a=>
 some a
 |.inr b=>
 some (decide ((b.length:Int)<=16))
theorem JC:a6 RM zX:= .bj .n (.k Yi .n)
def qT:List c3×List c3×Int×Int×ar×List ak->Option (List c3×ar×List ak)
 |(c,t7,d,t9,a,b)=>
 if (t9<d:Bool) then if aG t9 t7.length then some (t7.getD t9.toNat dK)>>=λe=>some [e.ad]>>=λt16=>if room 8 (a++t16).length then some [e.Name]>>=λt21=>if room 16 (b++t21).length then qT (c,t7,d,aM .i64 t9 1,a++t16,b++t21)else none else none else none else some (c,a,b)
  partial_fixpoint
theorem WS:cL 209 0 [0] O' qT:= .rx qT.partial_correctness
def wj(l:List c3):Option Bool:=
 qT (l,l,(l.length:Int),0,[],[])>>=λo=>some (decide (0<(o.1.length:Int)))>>=λt26=>(if t26 then zX (o.2.1,o.2.2)else some false)>>=λr=>some (bif t26 then r else false)
theorem Xn:a6 Rr wj:= .bj (.k JC .n) (.k WS .n)
def DE(v:I):Option Bool:=
 lV (I.eta v,(⟨0,false,0,[],0,[],[],[]⟩:I))>>=λr=>some r
theorem YE:a6 RN DE:= .bj (.k J5 .n)
def p8:List aU×Int×Int×ai×ar×List ak->Option ((Bool) ⊕ (ai×ar×List ak))
 |(t8,e,t10,b,c,d)=>
 if (t10<e:Bool) then if aG t10 t8.length then some (t8.getD t10.toNat aC)>>=λa=>some [a.ad]>>=λt17=>if room 8 (c++t17).length then some [a.Name]>>=λt22=>if room 16 (d++t22).length then some (bif bif decide (b.Kind=6)then bif a.ch then true else a.bU else false then true else bif a.ch then a.bU else false)>>=λt42=>some (!a.bU)>>=λt46=>(if((!t42)&&t46) then DE (I.eta a.bA)else some false)>>=λf=>if(bif t42 then true else bif t46 then(!f)else false) then some (.inl false)else p8 (t8,e,aM .i64 t10 1,b,c++t17,d++t22)else none else none else none else some (.inr (b,c,d))
  partial_fixpoint
theorem WT:cL 210 0 [0] Pa p8:= .rx p8.partial_correctness (.k YE .n)
def tk(t:ai):Option Bool:=
 p8 (t.ah,(t.ah.length:Int),0,t,[],[])>>=λo=>match o with
 |.inl b=>
 some b
 |.inr a=>
 some (bif decide (a.1.Kind=5)then true else decide (0<(a.2.1.length:Int)))>>=λt62=>(if t62 then zX (a.2.1,a.2.2)else some false)>>=λr=>some (bif t62 then r else false)
theorem Xo:a6 Rs tk:= .bj (.k JC .n) (.k WT .n)
def gw(t:ai):Option Bool:=
 if (t.Kind=1:Bool) then hY ((⟨0,t.Name,t.bE,t.bH,t.Max,t.bh,t.ah,t.Key,t.aF,t.Open⟩:ai),(⟨0,[],0,0,0,[],[],0,0,false⟩:ai))>>=λr=>some r else if (t.Kind=2:Bool) then some (decide (t.bE<=t.bH))>>=λt17=>(if t17 then hY ((⟨0,t.Name,0,0,t.Max,t.bh,t.ah,t.Key,t.aF,t.Open⟩:ai),(⟨0,[],0,0,0,[],[],0,0,false⟩:ai))else some false)>>=λj=>some (bif t17 then j else false)else if (t.Kind=3:Bool) then some (bif decide (0<=t.Max)then decide (t.Max<=200)else false)>>=λt29=>(if t29 then hY ((⟨0,t.Name,t.bE,t.bH,0,t.bh,t.ah,t.Key,t.aF,t.Open⟩:ai),(⟨0,[],0,0,0,[],[],0,0,false⟩:ai))else some false)>>=λv=>some (bif t29 then v else false)else if (t.Kind=4:Bool) then kJ t.Name>>=λe=>(if e then wj t.bh else some false)>>=λA=>some (bif e then A else false)>>=λt40=>(if t40 then hY ((⟨0,[],t.bE,t.bH,t.Max,[],t.ah,t.Key,t.aF,false⟩:ai),(⟨0,[],0,0,0,[],[],0,0,false⟩:ai))else some false)>>=λB=>some (bif t40 then B else false)else some (decide (t.Kind=5))>>=λt45=>if t45 then if t45 then kJ t.Name>>=λf=>(if f then tk t else some false)>>=λC=>some (bif f then C else false)>>=λt53=>(if t53 then hY ((⟨0,[],t.bE,t.bH,t.Max,t.bh,[],t.Key,t.aF,bif t.Open then decide (t.Kind=5)else false⟩:ai),(⟨0,[],0,0,0,[],[],0,0,false⟩:ai))else some false)>>=λD=>some (bif t53 then D else false)else some (decide (t.Kind=7))>>=λt65=>if t65 then if t65 then some (bif decide (0<=t.Max)then decide (t.Max<=50)else false)>>=λt74=>if (t.Kind=8:Bool) then (if t74 then hY ((⟨0,t.Name,t.bE,t.bH,0,t.bh,t.ah,0,0,t.Open⟩:ai),(⟨0,[],0,0,0,[],[],0,0,false⟩:ai))else some false)>>=λE=>some (bif t74 then E else false)else (if t74 then hY ((⟨0,t.Name,t.bE,t.bH,0,t.bh,t.ah,t.Key,0,t.Open⟩:ai),(⟨0,[],0,0,0,[],[],0,0,false⟩:ai))else some false)>>=λk=>some (bif t74 then k else false)else if (t.Kind=9:Bool) then hY ((⟨0,t.Name,t.bE,t.bH,t.Max,t.bh,t.ah,t.Key,0,t.Open⟩:ai),(⟨0,[],0,0,0,[],[],0,0,false⟩:ai))>>=λl=>some l else some false else if (t.Kind=8:Bool) then some (bif decide (0<=t.Max)then decide (t.Max<=50)else false)>>=λa=>if (t.Kind=8:Bool) then (if a then hY ((⟨0,t.Name,t.bE,t.bH,0,t.bh,t.ah,0,0,t.Open⟩:ai),(⟨0,[],0,0,0,[],[],0,0,false⟩:ai))else some false)>>=λm=>some (bif a then m else false)else (if a then hY ((⟨0,t.Name,t.bE,t.bH,0,t.bh,t.ah,t.Key,0,t.Open⟩:ai),(⟨0,[],0,0,0,[],[],0,0,false⟩:ai))else some false)>>=λn=>some (bif a then n else false)else if (t.Kind=9:Bool) then hY ((⟨0,t.Name,t.bE,t.bH,t.Max,t.bh,t.ah,t.Key,0,t.Open⟩:ai),(⟨0,[],0,0,0,[],[],0,0,false⟩:ai))>>=λo=>some o else some false else if (t.Kind=6:Bool) then kJ t.Name>>=λd=>(if d then tk t else some false)>>=λp=>some (bif d then p else false)>>=λg=>(if g then hY ((⟨0,[],t.bE,t.bH,t.Max,t.bh,[],t.Key,t.aF,bif t.Open then decide (t.Kind=5)else false⟩:ai),(⟨0,[],0,0,0,[],[],0,0,false⟩:ai))else some false)>>=λq=>some (bif g then q else false)else some (decide (t.Kind=7))>>=λi=>if i then if i then some (bif decide (0<=t.Max)then decide (t.Max<=50)else false)>>=λb=>if (t.Kind=8:Bool) then (if b then hY ((⟨0,t.Name,t.bE,t.bH,0,t.bh,t.ah,0,0,t.Open⟩:ai),(⟨0,[],0,0,0,[],[],0,0,false⟩:ai))else some false)>>=λs=>some (bif b then s else false)
 else (if b then hY ((⟨0,t.Name,t.bE,t.bH,0,t.bh,t.ah,t.Key,0,t.Open⟩:ai),(⟨0,[],0,0,0,[],[],0,0,false⟩:ai))else some false)>>=λu=>some (bif b then u else false)else if (t.Kind=9:Bool) then hY ((⟨0,t.Name,t.bE,t.bH,t.Max,t.bh,t.ah,t.Key,0,t.Open⟩:ai),(⟨0,[],0,0,0,[],[],0,0,false⟩:ai))>>=λw=>some w else some false else if (t.Kind=8:Bool) then some (bif decide (0<=t.Max)then decide (t.Max<=50)else false)>>=λc=>if (t.Kind=8:Bool) then (if c then hY ((⟨0,t.Name,t.bE,t.bH,0,t.bh,t.ah,0,0,t.Open⟩:ai),(⟨0,[],0,0,0,[],[],0,0,false⟩:ai))else some false)>>=λx=>some (bif c then x else false)else (if c then hY ((⟨0,t.Name,t.bE,t.bH,0,t.bh,t.ah,t.Key,0,t.Open⟩:ai),(⟨0,[],0,0,0,[],[],0,0,false⟩:ai))else some false)>>=λy=>some (bif c then y else false)else if (t.Kind=9:Bool) then hY ((⟨0,t.Name,t.bE,t.bH,t.Max,t.bh,t.ah,t.Key,0,t.Open⟩:ai),(⟨0,[],0,0,0,[],[],0,0,false⟩:ai))>>=λz=>some z else some false
theorem X5:a6 Q7 gw:= .bj (.k YD (.k T5 (.k Xn (.k Xo .n))))
def q4:List aU×Int×Int×ai×ar->Option (ai×ar)
 |(t7,c,t9,b,a)=>
 if (t9<c:Bool) then if aG t9 t7.length then some [(t7.getD t9.toNat aC).aw]>>=λt16=>if room 8 (a++t16).length then q4 (t7,c,aM .i64 t9 1,b,a++t16)else none else none else some (b,a)
  partial_fixpoint
theorem Xp:cL 170 0 [0] Pb q4:= .rx q4.partial_correctness
def DQ(t:ai):Option ar:=
 q4 (t.ah,(t.ah.length:Int),0,t,[])>>=λo=>if (o.1.Kind=8:Bool) then some [o.1.Key]>>=λt25=>if room 8 (o.2++t25).length then some (o.2++t25)>>=λl=>if (7<=o.1.Kind:Bool) then some [o.1.aF]>>=λt33=>if room 8 (l++t33).length then some (l++t33)else none else some l else none else if (7<=o.1.Kind:Bool) then some [o.1.aF]>>=λa=>if room 8 (o.2++a).length then some (o.2++a)else none else some o.2
theorem X6:a6 Q8 DQ:= .bj .n (.k Xp .n)
def p9:List ai×Int×Int×ar×Int×Int×List ai×List ak×Int×ak×Int×Int×Int×List c3×List aU×Int×Int×Bool->Option ((Int) ⊕ (List ai×Int×Int×List ai×List ak×Int×ak×Int×Int×Int×List c3×List aU×Int×Int×Bool))
 |(n,o,p,t38,q,t40,a,b,c,d,e,f,g,i,j,k,l,m)=>
 if (t40<q:Bool) then if aG t40 t38.length then some (t38.getD t40.toNat 0)>>=λr=>if(bif (r<0:Bool)then true else ((a.length:Int)<=r:Bool)) then some (.inl 4)else p9 (n,o,p,t38,q,aM .i64 t40 1,a,b,c,d,e,f,g,i,j,k,l,m)else none else some (.inr (n,o,p,a,b,c,d,e,f,g,i,j,k,l,m))
  partial_fixpoint
theorem WU:cL 139 0 [0,0] Mb p9:= .rx p9.partial_correctness
def q1(j:List ai×Int×Int×List ai×List ak):Option ((Int) ⊕ (Unit)):=
 match j with
 |(t14,f,t16,b,d)=>
 if (t16<f:Bool) then if aG t16 t14.length then some (t14.getD t16.toNat aK)>>=λa=>gw a>>=λr=>if(bif (!r)then true else bif (!(a.Name=[]:Bool))then js d a.Name else false) then some (.inl 1)else DQ a>>=λe=>p9 (t14,f,t16,e,(e.length:Int),0,b,iN d a.Name,a.Kind,a.Name,a.bE,a.bH,a.Max,a.bh,a.ah,a.Key,a.aF,a.Open)>>=λg=>match g with
 |.inl i=>
 some (.inl i)
 |.inr c=>
 some (decide (c.2.2.2.2.2.1=8))>>=λt56=>if(aG c.2.2.2.2.2.2.2.2.2.2.2.2.1 c.2.2.2.1.length||(!t56)) then some (decide ((c.2.2.2.1.getD c.2.2.2.2.2.2.2.2.2.2.2.2.1.toNat aK).Kind<1))>>=λt65=>if(aG c.2.2.2.2.2.2.2.2.2.2.2.2.1 c.2.2.2.1.length||(!(t56&&(!t65)))) then if(bif t56 then bif t65 then true else (4<(c.2.2.2.1.getD c.2.2.2.2.2.2.2.2.2.2.2.2.1.toNat aK).Kind:Bool)else false) then some (.inl 1)else q1 (c.1,c.2.1,aM .i64 c.2.2.1 1,c.2.2.2.1,c.2.2.2.2.1)else none else none else none else some (.inr ())
  partial_fixpoint
theorem XO:cL 139 0 [0] Pc q1:= .rx q1.partial_correctness (.k X5 (.k X6 .n)) (.k WU .n)
def pJ(s:aT):Option Int:=
 if (32<(s.Types.length:Int):Bool) then some 3 else q1 (s.Types,(s.Types.length:Int),0,s.Types,[])>>=λo=>match o with
 |.inl a=>
 some a
 |.inr b=>
 some 0
theorem y6:a6 Bv pJ:= .bj .n (.k XO .n)
def wm(r:cD):Option Int:=
 pJ r.cW>>=λa=>if !(a=0:Bool) then some a else if(bif (r.aw<0:Bool)then true else ((r.cW.Types.length:Int)<=r.aw:Bool)) then some 4 else some 0
theorem Yj:a6 Fj wm:= .bj (.k y6 .n)
def ka:List cD×Int×Int->Option ((Int) ⊕ (Unit))
 |(t6,a,t8)=>
 if (t8<a:Bool) then if aG t8 t6.length then wm (t6.getD t8.toNat lv)>>=λr=>if !(r=0:Bool) then some (.inl r)else ka (t6,a,aM .i64 t8 1)else none else some (.inr ())
  partial_fixpoint
theorem Wg:cL 65 0 [0] Fv ka:= .rx ka.partial_correctness (.k Yj .n)
def wo(l:List cD):Option Int:=
 ka (l,(l.length:Int),0)>>=λo=>match o with
 |.inl a=>
 some a
 |.inr b=>
 some 0
theorem Yk:a6 Fu wo:= .bj .n (.k Wg .n)
def hD:Int×List ai×ar×Int×ar->Option (I×Bool×List ai×Int×ar×ar)
 |(c,b,e,f,a)=>
 uf 8 a>>=λr=>if((r.1.length=a.length:Bool)&&true) then some ((⟨0,false,0,[],0,[],[],[]⟩:I),false,b,c,r.1,r.2)else none
theorem rF:a6 Q9 hD:= .bj (.k oc .n)
def mK:ak×Int×Int×Int->Option Int
 |(a,b,c,t18)=>
 if (t18<c:Bool) then if aG t18 a.length then mK (a,r7 .u64 (nj .u64 b 8) (bT .u64 (fI a t18)),c,aM .i64 t18 1)else none else some b
  partial_fixpoint
theorem WV:cL 172 0 [0] Pd mK:= .rx mK.partial_correctness
def tl(s:ak):Option (Int×Int):=
 some (!(decide (s=[])))>>=λt7=>if(aG 0 s.length||(!t7)) then if(bif t7 then (fI s 0=0:Bool)else false) then some (0,2)else if (8<(s.length:Int):Bool) then some (0,7)else mK (s,0,(s.length:Int),0)>>=λo=>some (o,0)else none
theorem Xq:a6 Q' tl:= .bj .n (.k WV .n)
def CO(n:Int):Option Int:=
 some (uM .i64 (bT .i64 (lE .u64 n 1)) (c9 .i64 0 (bT .i64 (Bk .u64 n 1))))
theorem XP:a6 Ra CO:= .bj
def GP:c3×Int->Option (Bool×Int)
 |(a,b)=>
 some (decide (a.ad=b),b)
theorem W5:a6 Rp GP:= .bj
def nD:List c3×Int×Int×Int->Option ((Int×Int) ⊕ (Int))
 |(a,c,t8,b)=>
 if (t8<c:Bool) then if aG t8 a.length then GP (a.getD t8.toNat dK,b)>>=λr=>if r.1 then some (.inl (t8,r.2))else nD (a,c,aM .i64 t8 1,r.2)else none else some (.inr b)
  partial_fixpoint
theorem U0:cL 205 1 [0] Pe nD:= .rx nD.partial_correctness (.k W5 .n)
def GZ(d:List c3×Int):Option (Int×Int):=
 match d with
 |(s,b)=>
 nD (s,(s.length:Int),0,b)>>=λo=>match o with
 |.inl a=>
 some (a.1,a.2)
 |.inr c=>
 some ((-1),c)
theorem U5:a6 Ro GZ:= .bj .n (.k U0 .n)
def tn:ai×Int->Option (Int×Bool)
 |(t,id)=>
 GZ (t.bh,id)>>=λr=>some (iq r.1 0,decide (0<=r.1))
theorem CP:a6 Q5 tn:= .bj (.k U5 .n)
def En(a:Int):Option Bool:=
 some (!(decide (a=a)))
theorem Y':a6 RX En:= .bj
def DR:Int×Int->Option Int
 |(a,y)=>
 En a>>=λr=>En y>>=λb=>if r then if b then some 0 else some (-1)else if b then some 1 else if (a<y:Bool) then some (-1)else if (y<a:Bool) then some 1 else some 0
theorem X7:a6 RH DR:= .bj (.k Y' .n)
def DS(a:Int):Option Bool:=
 some (!(decide (a=a)))
theorem X8:a6 RW DS:= .bj
def y':Int×Int->Option Int
 |(a,y)=>
 DS a>>=λr=>DS y>>=λb=>if r then if b then some 0 else some (-1)else if b then some 1 else if (a<y:Bool) then some (-1)else if (y<a:Bool) then some 1 else some 0
theorem Yl:a6 RE y':= .bj (.k X8 .n)
def DU(a:ak):Option Bool:=
 some (!(decide (a=a)))
theorem X9:a6 RY DU:= .bj
def CY:ak×ak->Option Int
 |(a,y)=>
 DU a>>=λr=>DU y>>=λb=>if r then if b then some 0 else some (-1)else if b then some 1 else if Op.bytesLess a y then some (-1)else if !(Op.bytesLess a y||(a=y:Bool)) then some 1 else some 0
theorem Ym:a6 RJ CY:= .bj (.k X9 .n)
def qP:Int×ar×Int×Int->Option ((Int) ⊕ (Int))
 |(a,t6,b,t8)=>
 if (t8<b:Bool) then if aG t8 t6.length then some (t6.getD t8.toNat 0)>>=λc=>if !(c=a:Bool) then some (.inl c)else qP (a,t6,b,aM .i64 t8 1)else none else some (.inr a)
  partial_fixpoint
theorem Za:cL 233 0 [0] Pj qP:= .rx qP.partial_correctness
def EH(a:ar):Option Int:=
 qP (0,a,(a.length:Int),0)>>=λo=>match o with
 |.inl b=>
 some b
 |.inr c=>
 some c
theorem acf:a6 RI EH:= .bj .n (.k Za .n)
def nl(n:Int):Option Int:=
 some (uM .u64 (nj .u64 (bT .u64 n) 1) (bT .u64 (lE .i64 n 63)))
theorem TR:a6 Rh nl:= .bj
def qe:I×I->Option Int
 |(a,b)=>
 if !(a.Kind=b.Kind:Bool) then some 0 else if (a.Kind=1:Bool) then if fy a.bN b.bN then some 0 else if b.bN then some (-1)else some 1 else if (a.Kind=2:Bool) then nl a.bc>>=λr=>nl b.bc>>=λc=>DR (r,c)>>=λd=>some d else if (a.Kind=3:Bool) then y' ((a.bl.length:Int),(b.bl.length:Int))>>=λe=>CY (a.bl,b.bl)>>=λf=>EH [e,f]>>=λg=>some g else if (a.Kind=4:Bool) then y' (a.ad,b.ad)>>=λi=>some i else some 0
theorem TS:a6 Rn qe:= .bj (.k TR (.k X7 (.k Yl (.k Ym (.k acf .n)))))
def rp:List ak×Int×List ai×ar×Int×ai×Int×Bool×Int×ak×Int×Int×Bool×Int×ak×Int×ar×List I->Option ((Bool×List ai×Int×I×ar×ar) ⊕ (List ak×List ai×ar×Int×ai×Int×Bool×Int×ak×Int×Int×Bool×Int×ak×Int×ar×List I))
 |(t,b,d,e,f,i,j,k,l,m,n,o,p,q,r,s,g,a)=>
 if (b<(a.length:Int):Bool) then some (c9 .i64 b 1)>>=λt86=>if aG t86 a.length then if (t86.toNat<a.length:Bool) then if aG b a.length then if (b.toNat<a.length:Bool) then qe (I.eta (a.getD t86.toNat av),I.eta (a.getD b.toNat av))>>=λu=>if (0<=u:Bool) then hD (1,d,e,f,g)>>=λc=>some (.inl (c.2.1,c.2.2.1,c.2.2.2.1,I.eta c.1,c.2.2.2.2.1,c.2.2.2.2.2))else rp (t,aM .i64 b 1,d,e,f,i,j,k,l,m,n,o,p,q,r,s,g,a)else none else none else none else none else some (.inr (t,d,e,f,i,j,k,l,m,n,o,p,q,r,s,g,a))
  partial_fixpoint
theorem UD:cL 177 2 [1] Pk rp:= .rx rp.partial_correctness (.k TS (.k rF .n))
def tp:ak×Int×Int×Int->Option ((Int×Int×Int) ⊕ (Unit))
 |(a,n,b,t11)=>
 if (t11<b:Bool) then if aG t11 a.length then some (fI a t11)>>=λt16=>if(bif (t11=9:Bool)then (1<t16:Bool)else false) then some (.inl (0,0,7))else if (128<=t16:Bool) then some (gz .i64 7 t11)>>=λt41=>if (0<=t41:Bool) then tp (a,r7 .u64 n (nj .u64 (bT .u64 (Bk .u8 t16 127)) t41),b,aM .i64 t11 1)else none else if(bif (t16=0:Bool)then (0<t11:Bool)else false) then some (.inl (0,0,2))else some (gz .i64 7 t11)>>=λt21=>if (0<=t21:Bool) then some (.inl (r7 .u64 n (nj .u64 (bT .u64 t16) t21),aM .i64 t11 1,0))else none else none else some (.inr ())
  partial_fixpoint
theorem Yn:cL 254 0 [0] Pf tp:= .rx tp.partial_correctness
def Dp(s:ak):Option (Int×Int×Int):=
 tp (s,0,ja 10 (s.length:Int),0)>>=λo=>match o with
 |.inl a=>
 some (a.1,a.2.1,a.2.2)
 |.inr b=>
 some (0,0,10)
theorem Zr:a6 RZ Dp:= .bj .n (.k Yn .n)
def ra(s:ak):Option (Int×ak×Bool):=
 Dp s>>=λr=>if !(r.2.2=0:Bool) then some (0,[],false)else if dN r.2.1 (s.length:Int) s.length then some (r.1,dZ s r.2.1 (s.length:Int),true)else none
theorem HC:a6 RS ra:= .bj (.k Zr .n)
def zR(s:ak):Option (ak×ak×Bool):=
 ra s>>=λr=>if(bif (!r.2.2)then true else (bT .u64 (r.2.1.length:Int)<r.1:Bool)) then some ([],[],false)else if dN 0 r.1 r.2.1.length then if dN r.1 (r.2.1.length:Int) r.2.1.length then some (dZ r.2.1 0 r.1,dZ r.2.1 r.1 (r.2.1.length:Int),true)else none else none
theorem J6:a6 RT zR:= .bj (.k HC .n)
def hE:ak×List ak->Option ((Int) ⊕ (List ak))
 |(s,a)=>
 if !(s=[]:Bool) then zR s>>=λr=>if !r.2.2 then some (.inl 12)else some [r.1]>>=λt22=>if room 16 (a++t22).length then hE (r.2.1,a++t22)else none else some (.inr a)
  partial_fixpoint
theorem W6:cL 213 0 [0] Ph hE:= .rx hE.partial_correctness (.k J6 .n)
def lk(c:ak):Option (List ak×Int):=
 hE (c,[])>>=λo=>match o with
 |.inl a=>
 some ([],a)
 |.inr b=>
 some (b,0)
theorem T6:a6 Rv lk:= .bj .n (.k W6 .n)
mutual
def jK(v:I):Option I:=
 fj 120 v.ay>>=λr=>fj 120 v.aj>>=λX=>fj 24 v.Rest>>=λY=>tU ((r.length:Int),0,v.Kind,v.bN,v.bc,v.bl,v.ad,0,false,0,[],0,r,X,Y)>>=λo=>tV ((o.2.2.2.2.2.2.2.2.2.2.2.1.length:Int),0,o.1,o.2.1,o.2.2.1,o.2.2.2.1,o.2.2.2.2.1,o.2.2.2.2.2.1,o.2.2.2.2.2.2.1,o.2.2.2.2.2.2.2.1,o.2.2.2.2.2.2.2.2.1,o.2.2.2.2.2.2.2.2.2.1,o.2.2.2.2.2.2.2.2.2.2.2.1,o.2.2.2.2.2.2.2.2.2.2.1,o.2.2.2.2.2.2.2.2.2.2.2.2)>>=λa=>some (⟨a.1,a.2.1,a.2.2.1,a.2.2.2.1,a.2.2.2.2.1,a.2.2.2.2.2.2.2.2.2.2.1,a.2.2.2.2.2.2.2.2.2.2.2.1,a.2.2.2.2.2.2.2.2.2.2.2.2⟩:I)
  partial_fixpoint
def tU:Int×Int×Int×Bool×Int×ak×Int×Int×Bool×Int×ak×Int×List I×List I×List bW->Option (Int×Bool×Int×ak×Int×Int×Bool×Int×ak×Int×List I×List I×List bW)
 |(U,t22,j,p,q,t,w,x,y,A,B,D,c,E,F)=>
 if (t22<U:Bool) then if aG t22 c.length then if (t22.toNat<c.length:Bool) then jK (I.eta (c.getD t22.toNat av))>>=λZ=>if aG t22 c.length then if (t22.toNat<c.length:Bool) then tU (U,aM .i64 t22 1,j,p,q,t,w,x,y,A,B,D,c.set t22.toNat (I.eta Z),E,F)else none else none else none else none else some (j,p,q,t,w,x,y,A,B,D,c,E,F)
  partial_fixpoint
def tV:Int×Int×Int×Bool×Int×ak×Int×Int×Bool×Int×ak×Int×List I×List I×List bW->Option (Int×Bool×Int×ak×Int×Int×Bool×Int×ak×Int×List I×List I×List bW)
 |(W,t37,G,H,J,K,L,M,N,O,P,Q,e,R,S)=>
 if (t37<W:Bool) then if aG t37 e.length then if (t37.toNat<e.length:Bool) then jK (I.eta (e.getD t37.toNat av))>>=λaf=>if aG t37 e.length then if (t37.toNat<e.length:Bool) then tV (W,aM .i64 t37 1,G,H,J,K,L,M,N,O,P,Q,e.set t37.toNat (I.eta af),R,S)else none else none else none else none else some (G,H,J,K,L,M,N,O,P,Q,R,e,S)
  partial_fixpoint
end
theorem W7:ee u5 jK/\eC 217 0 [1] Ak tV/\eC 217 0 [0] AX tU:=jK.mutual_partial_correctness (ec u5) (eB 217 0 [1] Ak) (eB 217 0 [0] AX)
 (λ_ _ h1 a _ _ h=>ei h (.k nH (.k p4 .n)) (.k (eM AX a) (.k (eM Ak h1) .n)))
 (λ_ _ h0 h1 _ _ h=>eL Ak h1 h (.k (cd u5 h0) .n))
 (λ_ _ h0 a _ _ h=>eL AX a h (.k (cd u5 h0) .n))
theorem Yo:a6 u5 jK:=cd _ W7.1
def G3:cT×aU->Option (Bool×aU)
 |(f,b)=>
 some (decide (f.ad=b.ad),(⟨b.ad,b.Name,b.aw,b.ch,b.bU,I.eta b.bA⟩:aU))
theorem UR:a6 Ry G3:= .bj
def pF:List cT×Int×Int×aU->Option ((Int×aU) ⊕ (aU))
 |(b,c,t8,a)=>
 if (t8<c:Bool) then if aG t8 b.length then G3 (b.getD t8.toNat gk,(⟨a.ad,a.Name,a.aw,a.ch,a.bU,I.eta a.bA⟩:aU))>>=λr=>if r.1 then some (.inl (t8,(⟨r.2.ad,r.2.Name,r.2.aw,r.2.ch,r.2.bU,I.eta r.2.bA⟩:aU)))else pF (b,c,aM .i64 t8 1,(⟨r.2.ad,r.2.Name,r.2.aw,r.2.ch,r.2.bU,I.eta r.2.bA⟩:aU))else none else some (.inr (⟨a.ad,a.Name,a.aw,a.ch,a.bU,I.eta a.bA⟩:aU))
  partial_fixpoint
theorem U4:cL 215 1 [0] Pm pF:= .rx pF.partial_correctness (.k UR .n)
def ym(d:List cT×aU):Option (Int×aU):=
 match d with
 |(s,b)=>
 pF (s,(s.length:Int),0,(⟨b.ad,b.Name,b.aw,b.ch,b.bU,I.eta b.bA⟩:aU))>>=λo=>match o with
 |.inl a=>
 some (a.1,(⟨a.2.ad,a.2.Name,a.2.aw,a.2.ch,a.2.bU,I.eta a.2.bA⟩:aU))
 |.inr c=>
 some ((-1),(⟨c.ad,c.Name,c.aw,c.ch,c.bU,I.eta c.bA⟩:aU))
theorem U9:a6 Rx ym:= .bj .n (.k U4 .n)
def GQ:aU×Int->Option (Bool×Int)
 |(m,b)=>
 some (decide (m.ad=b),b)
theorem W8:a6 Q2 GQ:= .bj
def pD:List aU×Int×Int×Int->Option ((Int×Int) ⊕ (Int))
 |(b,d,t8,c)=>
 if (t8<d:Bool) then if aG t8 b.length then some (b.getD t8.toNat aC)>>=λa=>GQ ((⟨a.ad,a.Name,a.aw,a.ch,a.bU,I.eta a.bA⟩:aU),c)>>=λr=>if r.1 then some (.inl (t8,r.2))else pD (b,d,aM .i64 t8 1,r.2)else none else some (.inr c)
  partial_fixpoint
theorem U1:cL 137 1 [0] Pg pD:= .rx pD.partial_correctness (.k W8 .n)
def G0(d:List aU×Int):Option (Int×Int):=
 match d with
 |(s,b)=>
 pD (s,(s.length:Int),0,b)>>=λo=>match o with
 |.inl a=>
 some (a.1,a.2)
 |.inr c=>
 some ((-1),c)
theorem U6:a6 Q1 G0:= .bj .n (.k U1 .n)
def hg:ai×Int->Option (Int×Bool)
 |(t,id)=>
 G0 (t.ah,id)>>=λr=>some (iq r.1 0,decide (0<=r.1))
theorem nP:a6 Sq hg:= .bj (.k U6 .n)
def pb:List cT×Int×Int×List ai×ar×Int×ai×Int×Bool×Int×ak×Int×Int×Bool×Int×ak×Int×ar×List I×List bW->Option ((Bool×List ai×Int×I×ar×ar) ⊕ (List ai×ar×Int×Int×Bool×Int×ak×Int×Int×Bool×Int×ak×Int×ar×List I×List bW))
 |(t117,u,t119,d,e,f,i,j,k,l,m,n,o,p,q,r,s,b,t,g)=>
 if (t119<u:Bool) then if aG t119 t117.length then some (t117.getD t119.toNat gk)>>=λc=>hg (i,c.ad)>>=λv=>if v.2 then pb (t117,u,aM .i64 t119 1,d,e,f,i,j,k,l,m,n,o,p,q,r,s,b,t,g)else if c.ch then some [c.ad]>>=λt140=>if room 8 (b++t140).length then hD (6,d,e,f,b++t140)>>=λa=>some (c9 .i64 (a.2.2.2.2.1.length:Int) 1)>>=λt159=>if dN 0 t159 a.2.2.2.2.1.length then if (t159.toNat<=a.2.2.2.2.1.length:Bool) then some (.inl (false,a.2.2.1,a.2.2.2.1,I.eta a.1,a.2.2.2.2.1.take t159.toNat,a.2.2.2.2.2))else none else none else none else some [(⟨c.ad,c.Data⟩:bW)]>>=λt171=>if room 24 (g++t171).length then pb (t117,u,aM .i64 t119 1,d,e,f,i,j,k,l,m,n,o,p,q,r,s,b,t,g++t171)else none else none else some (.inr (d,e,f,j,k,l,m,n,o,p,q,r,s,b,t,g))
  partial_fixpoint
theorem UH:cL 178 2 [1] Pn pb:= .rx pb.partial_correctness (.k nP (.k rF .n))
def ga:Int×ak×List cT->Option ((Int) ⊕ (List cT))
 |(last,s,a)=>
 if !(s=[]:Bool) then ra s>>=λr=>if(bif bif (!r.2.2)then true else (fC .u64 r.1 2<=last:Bool)then true else (1000<fC .u64 r.1 2:Bool)) then some (.inl 12)else zR r.2.1>>=λb=>if !b.2.2 then some (.inl 12)else some [(⟨bT .i64 (fC .u64 r.1 2),decide (b7 r.1 2=1),b.1⟩:cT)]>>=λt50=>if room 32 (a++t50).length then ga (fC .u64 r.1 2,b.2.1,a++t50)else none else some (.inr a)
  partial_fixpoint
theorem Xt:cL 214 0 [0] Pl ga:= .rx ga.partial_correctness (.k HC (.k J6 .n))
def lT(c:ak):Option (List cT×Int):=
 ga (0,c,[])>>=λo=>match o with
 |.inl a=>
 some ([],a)
 |.inr b=>
 some (b,0)
theorem Yp:a6 Rw lT:= .bj .n (.k Xt .n)
def lY(a:ak):Option (Int×ak×Int):=
 ra a>>=λr=>if(bif bif (!r.2.2)then true else (r.1<1:Bool)then true else (1000<r.1:Bool)) then some (0,[],12)else some (bT .i64 r.1,r.2.1,0)
theorem Zs:a6 Ru lY:= .bj (.k HC .n)
mutual
def yt(A:ai×ak×List ai×ar×Int×ar):Option (I×Bool×List ai×ar×Int×ar):=
 match A with
 |(c,p,b,f,j,e)=>
 lk p>>=λr=>if(bif (!(r.2=0:Bool))then true else(!(b7 (r.1.length:Int) 2=0:Bool))) then hD (1,b,f,j,e)>>=λy=>some (I.eta y.1,y.2.1,y.2.2.1,y.2.2.2.2.2,y.2.2.2.1,y.2.2.2.2.1)else if (c.Max<fC .i64 (r.1.length:Int) 2:Bool) then hD (3,b,f,j,e)>>=λw=>some (I.eta w.1,w.2.1,w.2.2.1,w.2.2.2.2.2,w.2.2.2.1,w.2.2.2.2.1)else sO (r.1,0,b,f,j,c,0,false,0,[],0,c.Kind,false,0,[],0,e,[])>>=λo=>match o with
 |.inl x=>
 some (I.eta x.2.2.2.2.1,x.1,x.2.1,x.2.2.1,x.2.2.2.1,x.2.2.2.2.2)
 |.inr a=>
 rp (a.1,1,a.2.1,a.2.2.1,a.2.2.2.1,a.2.2.2.2.1,a.2.2.2.2.2.1,a.2.2.2.2.2.2.1,a.2.2.2.2.2.2.2.1,a.2.2.2.2.2.2.2.2.1,a.2.2.2.2.2.2.2.2.2.1,a.2.2.2.2.2.2.2.2.2.2.1,a.2.2.2.2.2.2.2.2.2.2.2.1,a.2.2.2.2.2.2.2.2.2.2.2.2.1,a.2.2.2.2.2.2.2.2.2.2.2.2.2.1,a.2.2.2.2.2.2.2.2.2.2.2.2.2.2.1,a.2.2.2.2.2.2.2.2.2.2.2.2.2.2.2.1,a.2.2.2.2.2.2.2.2.2.2.2.2.2.2.2.2)>>=λbD=>match bD with
 |.inl E=>
 some (I.eta E.2.2.2.1,E.1,E.2.1,E.2.2.2.2.2,E.2.2.1,E.2.2.2.2.1)
 |.inr v=>
 sP (v.1,1,v.2.1,v.2.2.1,v.2.2.2.1,v.2.2.2.2.1,v.2.2.2.2.2.1,v.2.2.2.2.2.2.1,v.2.2.2.2.2.2.2.1,v.2.2.2.2.2.2.2.2.1,v.2.2.2.2.2.2.2.2.2.1,v.2.2.2.2.2.2.2.2.2.2.1,v.2.2.2.2.2.2.2.2.2.2.2.1,v.2.2.2.2.2.2.2.2.2.2.2.2.1,v.2.2.2.2.2.2.2.2.2.2.2.2.2.1,v.2.2.2.2.2.2.2.2.2.2.2.2.2.2.1,v.2.2.2.2.2.2.2.2.2.2.2.2.2.2.2.1,v.2.2.2.2.2.2.2.2.2.2.2.2.2.2.2.2,[])>>=λii=>match ii with
 |.inl K=>
 some (I.eta K.2.2.2.2.1,K.1,K.2.1,K.2.2.1,K.2.2.2.1,K.2.2.2.2.2)
 |.inr F=>
 some ((⟨F.2.2.2.2.2.2.2.2.1,F.2.2.2.2.2.2.2.2.2.1,F.2.2.2.2.2.2.2.2.2.2.1,F.2.2.2.2.2.2.2.2.2.2.2.1,F.2.2.2.2.2.2.2.2.2.2.2.2.1,F.2.2.2.2.2.2.2.2.2.2.2.2.2.2.1,F.2.2.2.2.2.2.2.2.2.2.2.2.2.2.2,[]⟩:I),true,F.1,F.2.1,F.2.2.1,F.2.2.2.2.2.2.2.2.2.2.2.2.2.1)
  partial_fixpoint
def Dc(A:ai×ak×List ai×ar×Int×ar):Option (I×Bool×List ai×ar×Int×ar):=
 match A with
 |(c,p,b,f,j,e)=>
 lk p>>=λr=>if !(r.2=0:Bool) then hD (1,b,f,j,e)>>=λy=>some (I.eta y.1,y.2.1,y.2.2.1,y.2.2.2.2.2,y.2.2.2.1,y.2.2.2.2.1)else if (c.Max<(r.1.length:Int):Bool) then hD (3,b,f,j,e)>>=λw=>some (I.eta w.1,w.2.1,w.2.2.1,w.2.2.2.2.2,w.2.2.2.1,w.2.2.2.2.1)else sS (r.1,(r.1.length:Int),0,b,f,j,c,0,false,0,[],0,c.Kind,false,0,[],0,e,[])>>=λo=>match o with
 |.inl x=>
 some (I.eta x.2.2.2.2.1,x.1,x.2.1,x.2.2.1,x.2.2.2.1,x.2.2.2.2.2)
 |.inr a=>
 some ((⟨a.2.2.2.2.2.2.2.2.1,a.2.2.2.2.2.2.2.2.2.1,a.2.2.2.2.2.2.2.2.2.2.1,a.2.2.2.2.2.2.2.2.2.2.2.1,a.2.2.2.2.2.2.2.2.2.2.2.2.1,[],a.2.2.2.2.2.2.2.2.2.2.2.2.2.2,[]⟩:I),true,a.1,a.2.1,a.2.2.1,a.2.2.2.2.2.2.2.2.2.2.2.2.2.1)
  partial_fixpoint
def iW:Int×Int×ak×List ai×ar×Int×ar->Option (I×Bool×List ai×ar×Int×ar)
 |(step,t,p,b,f,j,e)=>
 some [step]>>=λt18=>if room 8 (e++t18).length then pn (t,p,b,f,j,e++t18)>>=λr=>some (c9 .i64 (r.2.2.2.2.2.length:Int) 1)>>=λt39=>if dN 0 t39 r.2.2.2.2.2.length then if (t39.toNat<=r.2.2.2.2.2.length:Bool) then some (I.eta r.1,r.2.1,r.2.2.1,r.2.2.2.1,r.2.2.2.2.1,r.2.2.2.2.2.take t39.toNat)else none else none else none
  partial_fixpoint
def pn:Int×ak×List ai×ar×Int×ar->Option (I×Bool×List ai×ar×Int×ar)
 |(t,p,b,f,j,e)=>
 if (200<=(e.length:Int):Bool) then hD (8,b,f,j,e)>>=λr=>some (I.eta r.1,r.2.1,r.2.2.1,r.2.2.2.2.2,r.2.2.2.1,r.2.2.2.2.1)else if aG t b.length then some (b.getD t.toNat aK)>>=λc=>if (c.Kind=1:Bool) then some (decide (p=[1]))>>=λt50=>if(bif (!(p=[]:Bool))then(!t50)else false) then hD (1,b,f,j,e)>>=λR=>some (I.eta R.1,R.2.1,R.2.2.1,R.2.2.2.2.2,R.2.2.2.1,R.2.2.2.2.1)else some ((⟨c.Kind,t50,0,[],0,[],[],[]⟩:I),true,b,f,j,e)else if (c.Kind=2:Bool) then tl p>>=λH=>if !(H.2=0:Bool) then hD (1,b,f,j,e)>>=λq=>some (I.eta q.1,q.2.1,q.2.2.1,q.2.2.2.2.2,q.2.2.2.1,q.2.2.2.2.1)else CO H.1>>=λbZ=>if(bif (bZ<c.bE:Bool)then true else (c.bH<bZ:Bool)) then hD (2,b,f,j,e)>>=λL=>some (I.eta L.1,L.2.1,L.2.2.1,L.2.2.2.2.2,L.2.2.2.1,L.2.2.2.2.1)else some ((⟨c.Kind,false,bZ,[],0,[],[],[]⟩:I),true,b,f,j,e)else if (c.Kind=3:Bool) then if (c.Max<(p.length:Int):Bool) then hD (3,b,f,j,e)>>=λB=>some (I.eta B.1,B.2.1,B.2.2.1,B.2.2.2.2.2,B.2.2.2.1,B.2.2.2.2.1)else some ((⟨c.Kind,false,0,p,0,[],[],[]⟩:I),true,b,f,j,e)else if (c.Kind=4:Bool) then tl p>>=λaD=>if(bif bif (!(aD.2=0:Bool))then true else (aD.1<1:Bool)then true else (1000<aD.1:Bool)) then hD (1,b,f,j,e)>>=λN=>some (I.eta N.1,N.2.1,N.2.2.1,N.2.2.2.2.2,N.2.2.2.1,N.2.2.2.2.1)else some (bT .i64 aD.1)>>=λt130=>tn (c,t130)>>=λip=>if(bif (!ip.2)then(!c.Open)else false) then hD (4,b,f,j,e)>>=λO=>some (I.eta O.1,O.2.1,O.2.2.1,O.2.2.2.2.2,O.2.2.2.1,O.2.2.2.2.1)else some ((⟨c.Kind,false,0,[],t130,[],[],[]⟩:I),true,b,f,j,e)else if (c.Kind=9:Bool) then if (p=[]:Bool) then some ((⟨c.Kind,false,0,[],0,[],[],[]⟩:I),true,b,f,j,e)else if aG 0 p.length then if !(fI p 0=1:Bool) then hD (1,b,f,j,e)>>=λP=>some (I.eta P.1,P.2.1,P.2.2.1,P.2.2.2.2.2,P.2.2.2.1,P.2.2.2.2.1)else if dN 1 (p.length:Int) p.length then iW (0,c.aF,dZ p 1 (p.length:Int),b,f,j,e)>>=λQ=>some ((⟨c.Kind,false,0,[],0,[],[I.eta Q.1],[]⟩:I),Q.2.1,Q.2.2.1,Q.2.2.2.1,Q.2.2.2.2.1,Q.2.2.2.2.2)else none else none else if (c.Kind=6:Bool) then C7 (c,p,b,f,j,e)>>=λS=>some (I.eta S.1,S.2.1,S.2.2.1,S.2.2.2.1,S.2.2.2.2.1,S.2.2.2.2.2)else if (c.Kind=7:Bool) then Dc (c,p,b,f,j,e)>>=λU=>some (I.eta U.1,U.2.1,U.2.2.1,U.2.2.2.1,U.2.2.2.2.1,U.2.2.2.2.2)else if (c.Kind=8:Bool) then yt (c,p,b,f,j,e)>>=λW=>some (I.eta W.1,W.2.1,W.2.2.1,W.2.2.2.1,W.2.2.2.2.1,W.2.2.2.2.2)else yu (c,p,b,f,j,e)>>=λX=>some (I.eta X.1,X.2.1,X.2.2.1,X.2.2.2.1,X.2.2.2.2.1,X.2.2.2.2.2)else none
  partial_fixpoint
def yu(A:ai×ak×List ai×ar×Int×ar):Option (I×Bool×List ai×ar×Int×ar):=
 match A with
 |(c,p,b,f,j,e)=>
 lT p>>=λr=>if !(r.2=0:Bool) then hD (1,b,f,j,e)>>=λy=>some (I.eta y.1,y.2.1,y.2.2.1,y.2.2.2.2.2,y.2.2.2.1,y.2.2.2.2.1)else mF (r.1,c.ah,(c.ah.length:Int),0,b,f,j,c,0,false,0,[],0,c.Kind,false,0,[],0,e,[])>>=λo=>match o with
 |.inl x=>
 some (I.eta x.2.2.2.2.1,x.1,x.2.1,x.2.2.1,x.2.2.2.1,x.2.2.2.2.2)
 |.inr a=>
 pb (a.1,(a.1.length:Int),0,a.2.1,a.2.2.1,a.2.2.2.1,a.2.2.2.2.1,a.2.2.2.2.2.1,a.2.2.2.2.2.2.1,a.2.2.2.2.2.2.2.1,a.2.2.2.2.2.2.2.2.1,a.2.2.2.2.2.2.2.2.2.1,a.2.2.2.2.2.2.2.2.2.2.1,a.2.2.2.2.2.2.2.2.2.2.2.1,a.2.2.2.2.2.2.2.2.2.2.2.2.1,a.2.2.2.2.2.2.2.2.2.2.2.2.2.1,a.2.2.2.2.2.2.2.2.2.2.2.2.2.2.1,a.2.2.2.2.2.2.2.2.2.2.2.2.2.2.2.1,a.2.2.2.2.2.2.2.2.2.2.2.2.2.2.2.2,[])>>=λbD=>match bD with
 |.inl E=>
 some (I.eta E.2.2.2.1,E.1,E.2.1,E.2.2.2.2.2,E.2.2.1,E.2.2.2.2.1)
 |.inr v=>
 some ((⟨v.2.2.2.2.2.2.2.2.1,v.2.2.2.2.2.2.2.2.2.1,v.2.2.2.2.2.2.2.2.2.2.1,v.2.2.2.2.2.2.2.2.2.2.2.1,v.2.2.2.2.2.2.2.2.2.2.2.2.1,[],v.2.2.2.2.2.2.2.2.2.2.2.2.2.2.1,v.2.2.2.2.2.2.2.2.2.2.2.2.2.2.2⟩:I),true,v.1,v.2.1,v.2.2.1,v.2.2.2.2.2.2.2.2.2.2.2.2.2.1)
  partial_fixpoint
def C7:ai×ak×List ai×ar×Int×ar->Option (I×Bool×List ai×ar×Int×ar)
 |(c,p,b,f,j,e)=>
 lY p>>=λr=>if !(r.2.2=0:Bool) then hD (1,b,f,j,e)>>=λM=>some (I.eta M.1,M.2.1,M.2.2.1,M.2.2.2.2.2,M.2.2.2.1,M.2.2.2.2.1)else hg (c,r.1)>>=λbP=>if bP.2 then if aG bP.1 c.ah.length then iW (r.1,(c.ah.getD bP.1.toNat aC).aw,r.2.1,b,f,j,e)>>=λH=>some ((⟨c.Kind,false,0,[],r.1,[],[I.eta H.1],[]⟩:I),H.2.1,H.2.2.1,H.2.2.2.1,H.2.2.2.2.1,H.2.2.2.2.2)else none else if !c.Open then hD (5,b,f,j,e)>>=λD=>some (I.eta D.1,D.2.1,D.2.2.1,D.2.2.2.2.2,D.2.2.2.1,D.2.2.2.2.1)else some ((⟨c.Kind,false,0,[],r.1,[],[],[(⟨r.1,r.2.1⟩:bW)]⟩:I),true,b,f,j,e)
  partial_fixpoint
def sO:List ak×Int×List ai×ar×Int×ai×Int×Bool×Int×ak×Int×Int×Bool×Int×ak×Int×ar×List I->Option ((Bool×List ai×ar×Int×I×ar) ⊕ (List ak×List ai×ar×Int×ai×Int×Bool×Int×ak×Int×Int×Bool×Int×ak×Int×ar×List I))
 |(am,i,g4,g5,g6,bs,g7,g8,g9,he,hk,hm,hs,ht,hu,hw,hH,bv)=>
 if (i<(am.length:Int):Bool) then if aG i am.length then iW (fC .i64 i 2,bs.Key,am.getD i.toNat [],g4,g5,g6,hH)>>=λq=>if !q.2.1 then some (.inl (false,q.2.2.1,q.2.2.2.1,q.2.2.2.2.1,I.eta q.1,q.2.2.2.2.2))else some [I.eta q.1]>>=λt73=>if room 120 (bv++t73).length then sO (am,aM .i64 i 2,q.2.2.1,q.2.2.2.1,q.2.2.2.2.1,bs,g7,g8,g9,he,hk,hm,hs,ht,hu,hw,q.2.2.2.2.2,bv++t73)else none else none else some (.inr (am,g4,g5,g6,bs,g7,g8,g9,he,hk,hm,hs,ht,hu,hw,hH,bv))
  partial_fixpoint
def sP:List ak×Int×List ai×ar×Int×ai×Int×Bool×Int×ak×Int×Int×Bool×Int×ak×Int×ar×List I×List I->Option ((Bool×List ai×ar×Int×I×ar) ⊕ (List ai×ar×Int×Int×Bool×Int×ak×Int×Int×Bool×Int×ak×Int×ar×List I×List I))
 |(aB,ag,h0,b1,b2,b3,b4,ce,ci,cs,cE,cN,cX,db,dn,dt,eq,es,aJ)=>
 if (ag<(aB.length:Int):Bool) then if aG ag aB.length then iW (fC .i64 ag 2,b3.aF,aB.getD ag.toNat [],h0,b1,b2,eq)>>=λB=>if !B.2.1 then some (.inl (false,B.2.2.1,B.2.2.2.1,B.2.2.2.2.1,I.eta B.1,B.2.2.2.2.2))else some [I.eta B.1]>>=λt125=>if room 120 (aJ++t125).length then sP (aB,aM .i64 ag 2,B.2.2.1,B.2.2.2.1,B.2.2.2.2.1,b3,b4,ce,ci,cs,cE,cN,cX,db,dn,dt,B.2.2.2.2.2,es,aJ++t125)else none else none else some (.inr (h0,b1,b2,b4,ce,ci,cs,cE,cN,cX,db,dn,dt,eq,es,aJ))
  partial_fixpoint
def sS:List ak×Int×Int×List ai×ar×Int×ai×Int×Bool×Int×ak×Int×Int×Bool×Int×ak×Int×ar×List I->Option ((Bool×List ai×ar×Int×I×ar) ⊕ (List ai×ar×Int×Int×Bool×Int×ak×Int×Int×Bool×Int×ak×Int×ar×List I))
 |(t38,h1,t40,ex,fd,ff,fo,fs,gc,gd,ge,gl,gs,gt,g0,g1,g2,g3,a0)=>
 if (t40<h1:Bool) then if aG t40 t38.length then iW (t40,fo.aF,t38.getD t40.toNat [],ex,fd,ff,g3)>>=λq=>if !q.2.1 then some (.inl (false,q.2.2.1,q.2.2.2.1,q.2.2.2.2.1,I.eta q.1,q.2.2.2.2.2))else some [I.eta q.1]>>=λt60=>if room 120 (a0++t60).length then sS (t38,h1,aM .i64 t40 1,q.2.2.1,q.2.2.2.1,q.2.2.2.2.1,fo,fs,gc,gd,ge,gl,gs,gt,g0,g1,g2,q.2.2.2.2.2,a0++t60)else none else none else some (.inr (ex,fd,ff,fs,gc,gd,ge,gl,gs,gt,g0,g1,g2,g3,a0))
  partial_fixpoint
def mF:List cT×List aU×Int×Int×List ai×ar×Int×ai×Int×Bool×Int×ak×Int×Int×Bool×Int×ak×Int×ar×List I->Option ((Bool×List ai×ar×Int×I×ar) ⊕ (List cT×List ai×ar×Int×ai×Int×Bool×Int×ak×Int×Int×Bool×Int×ak×Int×ar×List I))
 |(J,t39,b0,t41,an,ap,ax,a1,a2,a3,a4,a5,a9,bb,be,bf,bi,bq,Z,af)=>
 if (t41<b0:Bool) then if aG t41 t39.length then some (t39.getD t41.toNat aC)>>=λY=>ym (J,(⟨Y.ad,Y.Name,Y.aw,Y.ch,Y.bU,I.eta Y.bA⟩:aU))>>=λw=>if (0<=w.1:Bool) then if aG w.1 J.length then iW (w.2.ad,w.2.aw,(J.getD w.1.toNat gk).Data,an,ap,ax,Z)>>=λG=>if !G.2.1 then some (.inl (false,G.2.2.1,G.2.2.2.1,G.2.2.2.2.1,I.eta G.1,G.2.2.2.2.2))else some [I.eta G.1]>>=λt102=>if room 120 (af++t102).length then mF (J,t39,b0,aM .i64 t41 1,G.2.2.1,G.2.2.2.1,G.2.2.2.2.1,a1,a2,a3,a4,a5,a9,bb,be,bf,bi,bq,G.2.2.2.2.2,af++t102)else none else none else if w.2.bU then jK (I.eta w.2.bA)>>=λio=>some [I.eta io]>>=λt113=>if room 120 (af++t113).length then mF (J,t39,b0,aM .i64 t41 1,an,ap,ax,a1,a2,a3,a4,a5,a9,bb,be,bf,bi,bq,Z,af++t113)else none else some [w.2.ad]>>=λt55=>if room 8 (Z++t55).length then hD (7,an,ap,ax,Z++t55)>>=λD=>some (c9 .i64 (D.2.2.2.2.1.length:Int) 1)>>=λt74=>if dN 0 t74 D.2.2.2.2.1.length then if (t74.toNat<=D.2.2.2.2.1.length:Bool) then some (.inl (false,D.2.2.1,D.2.2.2.2.2,D.2.2.2.1,I.eta D.1,D.2.2.2.2.1.take t74.toNat))else none else none else none else none else some (.inr (J,an,ap,ax,a1,a2,a3,a4,a5,a9,bb,be,bf,bi,bq,Z,af))
  partial_fixpoint
end
theorem UI:ee By yt/\eC 177 2 [2] AW sP/\ee o6 iW/\ee xM pn/\ee Bz yu/\eC 178 2 [0] Al mF/\ee Bx Dc/\eC 176 2 [0] AU sS/\ee Bw C7/\eC 177 2 [0] AV sO:=yt.mutual_partial_correctness (ec By) (eB 177 2 [2] AW) (ec o6) (ec xM) (ec Bz) (eB 178 2 [0] Al) (ec Bx) (eB 176 2 [0] AU) (ec Bw) (eB 177 2 [0] AV)
 (λ_ _ h1 c _ _ h=>ei h (.k T6 (.k rF .n)) (.k (eM AV c) (.k UD (.k (eM AW h1) .n))))
 (λ_ _ h1 a _ _ h=>eL AW h1 h (.k (cd o6 a) .n))
 (λ_ d _ _ h=>ei h (.k (cd xM d) .n))
 (λ_ _ _ _ _ h0 a e f g _ _ h=>ei h (.k rF (.k Xq (.k XP (.k CP (.k (cd o6 a) (.k (cd Bw g) (.k (cd Bx f) (.k (cd By h0) (.k (cd Bz e) .n))))))))))
 (λ_ bf _ _ h=>ei h (.k Yp (.k rF .n)) (.k (eM Al bf) (.k UH .n)))
 (λ_ _ a bf _ _ h=>eL Al bf h (.k U9 (.k (cd o6 a) (.k Yo (.k rF .n)))))
 (λ_ b _ _ h=>ei h (.k T6 (.k rF .n)) (.k (eM AU b) .n))
 (λ_ _ a b _ _ h=>eL AU b h (.k (cd o6 a) .n))
 (λ_ a _ _ h=>ei h (.k Zs (.k rF (.k nP (.k (cd o6 a) .n)))))
 (λ_ _ a c _ _ h=>eL AV c h (.k (cd o6 a) .n))
theorem VR:a6 xM pn:=cd _ UI.2.2.2.1
def Hr:aT×Int×ak->Option (I×iQ×Int)
 |(s,t,m)=>
 pJ s>>=λr=>if !(r=0:Bool) then some ((⟨0,false,0,[],0,[],[],[]⟩:I),(⟨[],0⟩:iQ),r)else if(bif (t<0:Bool)then true else ((s.Types.length:Int)<=t:Bool)) then some ((⟨0,false,0,[],0,[],[],[]⟩:I),(⟨[],0⟩:iQ),4)else if (4096<(m.length:Int):Bool) then some ((⟨0,false,0,[],0,[],[],[]⟩:I),(⟨[],3⟩:iQ),12)else pn (t,m,s.Types,[],0,[])>>=λa=>if !a.2.1 then some ((⟨0,false,0,[],0,[],[],[]⟩:I),(⟨a.2.2.2.1,a.2.2.2.2.1⟩:iQ),12)else some (I.eta a.1,(⟨[],0⟩:iQ),0)
theorem X':a6 QU Hr:= .bj (.k y6 (.k VR .n))
def tq:aT×Int×ak->Option (I×Int)
 |(s,t,m)=>
 Hr (s,t,m)>>=λr=>some (I.eta r.1,r.2.2)
theorem Yq:a6 BK tq:= .bj (.k X' .n)
def CZ:aT×Int->Option Int
 |(s,t)=>
 pJ s>>=λr=>if !(r=0:Bool) then some r else if(bif (t<0:Bool)then true else ((s.Types.length:Int)<=t:Bool)) then some 4 else some 0
theorem Yr:a6 QW CZ:= .bj (.k y6 .n)
def Dq(v:I):Option I:=
 if (v.Kind=1:Bool) then some (⟨v.Kind,v.bN,0,[],0,[],[],[]⟩:I)else if (v.Kind=2:Bool) then some (⟨v.Kind,false,v.bc,[],0,[],[],[]⟩:I)else if (v.Kind=3:Bool) then some (⟨v.Kind,false,0,v.bl,0,[],[],[]⟩:I)else if (v.Kind=4:Bool) then some (⟨v.Kind,false,0,[],v.ad,[],[],[]⟩:I)else if (v.Kind=5:Bool) then some (⟨v.Kind,false,0,[],0,[],v.aj,v.Rest⟩:I)else if (v.Kind=6:Bool) then some (⟨v.Kind,false,0,[],v.ad,[],v.aj,v.Rest⟩:I)else if (v.Kind=8:Bool) then some (⟨v.Kind,false,0,[],0,v.ay,v.aj,[]⟩:I)else some (decide (v.Kind=7))>>=λt57=>if t57 then if t57 then some (⟨v.Kind,false,0,[],0,[],v.aj,[]⟩:I)else some (⟨v.Kind,false,0,[],0,[],[],[]⟩:I)else if (v.Kind=9:Bool) then some (⟨v.Kind,false,0,[],0,[],v.aj,[]⟩:I)else some (⟨v.Kind,false,0,[],0,[],[],[]⟩:I)
theorem Zt:a6 RG Dq:= .bj
def DF(v:I):Option Bool:=
 Dq (I.eta v)>>=λr=>some (bif bif bif bif bif bif fy v.bN r.bN then decide (v.bc=r.bc)else false then decide (v.bl=r.bl)else false then decide (v.ad=r.ad)else false then decide ((v.ay.length:Int)=(r.ay.length:Int))else false then decide ((v.aj.length:Int)=(r.aj.length:Int))else false then decide ((v.Rest.length:Int)=(r.Rest.length:Int))else false)
theorem XW:a6 Rl DF:= .bj (.k Zt .n)
def zY(id:Int):Option Bool:=
 some (bif decide (1<=id)then decide (id<=1000)else false)
theorem JD:a6 Rm zY:= .bj
def lj:Bool×List bW×Int×Int×List ai×I×Int×ak×Int×Int×Int×List c3×List aU×Int×Int×Bool->Option ((Bool) ⊕ (Bool×List ai×Int×Bool×Int×ak×Int×List I×List I×List bW×Int×ak×Int×Int×Int×List c3×List aU×Int×Int×Bool))
 |(o,t111,q,t113,n,a,b,c,d,e,f,g,i,j,k,l)=>
 if (t113<q:Bool) then if aG t113 t111.length then some (t111.getD t113.toNat bV)>>=λm=>hg ((⟨b,c,d,e,f,g,i,j,k,l⟩:ai),m.ad)>>=λp=>(if !p.2 then zY m.ad else some false)>>=λr=>some (bif p.2 then true else(!r))>>=λt131=>some (decide (0<t113))>>=λt134=>some (c9 .i64 t113 1)>>=λt141=>if(aG t141 a.Rest.length||(!((!t131)&&t134))) then if(bif t131 then true else bif t134 then (m.ad<=(a.Rest.getD t141.toNat bV).ad:Bool)else false) then some (.inl false)else lj (o,t111,q,aM .i64 t113 1,n,I.eta a,b,c,d,e,f,g,i,j,k,l)else none else none else some (.inr (o,n,a.Kind,a.bN,a.bc,a.bl,a.ad,a.ay,a.aj,a.Rest,b,c,d,e,f,g,i,j,k,l))
  partial_fixpoint
theorem Ys:cL 164 0 [0] Po lj:= .rx lj.partial_correctness (.k nP (.k JD .n))
def kH:Bool×Int×List ai×I×Int×ak×Int×Int×Int×List c3×List aU×Int×Int×Bool->Option ((Bool) ⊕ (Bool×List ai×I×Int×ak×Int×Int×Int×List c3×List aU×Int×Int×Bool))
 |(o,i,b,a,c,d,e,f,g,j,k,l,m,n)=>
 if (i<(a.ay.length:Int):Bool) then some (c9 .i64 i 1)>>=λt291=>if aG t291 a.ay.length then if aG i a.ay.length then qe (I.eta (a.ay.getD t291.toNat av),I.eta (a.ay.getD i.toNat av))>>=λp=>if (0<=p:Bool) then some (.inl false)else kH (o,aM .i64 i 1,b,I.eta a,c,d,e,f,g,j,k,l,m,n)else none else none else some (.inr (o,b,I.eta a,c,d,e,f,g,j,k,l,m,n))
  partial_fixpoint
theorem Yt:cL 164 0 [2] OU kH:= .rx kH.partial_correctness (.k TS .n)
mutual
def Ct:List I×List ai×Int×Bool->Option (Bool×List ai×Int×Bool)
 |(s,b,f,j)=>
 G2 (s,b,f,j)>>=λr=>some (decide (0<=r.1),r.2.1,r.2.2.1,r.2.2.2)
  partial_fixpoint
def G2(e:List I×List ai×Int×Bool):Option (Int×List ai×Int×Bool):=
 match e with
 |(s,b,f,j)=>
 qK (s,(s.length:Int),0,b,f,j)>>=λo=>match o with
 |.inl p=>
 some (p.1,p.2.1,p.2.2.1,p.2.2.2)
 |.inr c=>
 some ((-1),c.1,c.2.1,c.2.2)
  partial_fixpoint
def qN:aT×Int×List I×Bool->Option Bool
 |(s,t,l,plain)=>
 Ct (l,s.Types,t,plain)>>=λr=>some (!r.1)
  partial_fixpoint
def Hb:I×List ai×Int×Bool->Option (Bool×List ai×Int×Bool)
 |(v,b,f,j)=>
 kc ((⟨b⟩:aT),f,I.eta v,j)>>=λr=>some ((!r),b,f,j)
  partial_fixpoint
def kc(e:aT×Int×I×Bool):Option Bool:=
 match e with
 |(s,t,v,plain)=>
 if(bif (t<0:Bool)then true else ((s.Types.length:Int)<=t:Bool)) then some false else if aG t s.Types.length then some (s.Types.getD t.toNat aK)>>=λa=>some (!(decide (v.Kind=a.Kind)))>>=λt39=>(if !t39 then DF (I.eta v)else some false)>>=λr=>if(bif t39 then true else(!r)) then some false else if (a.Kind=2:Bool) then some (bif decide (a.bE<=v.bc)then decide (v.bc<=a.bH)else false)else if (a.Kind=3:Bool) then some (decide ((v.bl.length:Int)<=a.Max))else if (a.Kind=4:Bool) then tn (a,v.ad)>>=λG=>some (bif a.Open then(!plain)else false)>>=λt85=>(if((!G.2)&&t85) then zY v.ad else some false)>>=λam=>some (bif G.2 then true else bif t85 then am else false)else if (a.Kind=5:Bool) then if(bif (!((v.aj.length:Int)=(a.ah.length:Int):Bool))then true else bif plain then (0<(v.Rest.length:Int):Bool)else false) then some false else lj (plain,v.Rest,(v.Rest.length:Int),0,s.Types,I.eta v,a.Kind,a.Name,a.bE,a.bH,a.Max,a.bh,a.ah,a.Key,a.aF,a.Open)>>=λo=>match o with
 |.inl p=>
 some p
 |.inr c=>
 mP (c.1,c.2.2.2.2.2.2.2.2.2.2.2.2.2.2.2.2.1,(c.2.2.2.2.2.2.2.2.2.2.2.2.2.2.2.2.1.length:Int),0,c.2.1,c.2.2.1,c.2.2.2.1,c.2.2.2.2.1,c.2.2.2.2.2.1,c.2.2.2.2.2.2.1,c.2.2.2.2.2.2.2.1,c.2.2.2.2.2.2.2.2.1,c.2.2.2.2.2.2.2.2.2.1)>>=λR=>match R with
 |.inl S=>
 some S
 |.inr ax=>
 some true else if (a.Kind=6:Bool) then hg (a,v.ad)>>=λx=>if x.2 then some (bif decide ((v.aj.length:Int)=1)then decide ((v.Rest.length:Int)=0)else false)>>=λt188=>if(aG x.1 a.ah.length||(!t188)) then if(aG 0 v.aj.length||(!t188)) then (if t188 then kc ((⟨s.Types⟩:aT),(a.ah.getD x.1.toNat aC).aw,I.eta (v.aj.getD (0:Int).toNat av),plain)else some false)>>=λan=>some (bif t188 then an else false)else none else none else some (bif a.Open then(!plain)else false)>>=λt209=>(if t209 then zY v.ad else some false)>>=λap=>some (bif bif bif t209 then ap else false then decide ((v.aj.length:Int)=0)else false then decide ((v.Rest.length:Int)=1)else false)>>=λt226=>if(aG 0 v.Rest.length||(!t226)) then some (bif t226 then decide ((v.Rest.getD (0:Int).toNat bV).ad=v.ad)else false)else none else if (a.Kind=7:Bool) then some (decide ((v.aj.length:Int)<=a.Max))>>=λt244=>(if t244 then qN ((⟨s.Types⟩:aT),a.aF,v.aj,plain)else some false)>>=λX=>some (bif t244 then X else false)else if (a.Kind=8:Bool) then some (bif decide (a.Max<(v.ay.length:Int))then true else(!(decide ((v.aj.length:Int)=(v.ay.length:Int)))))>>=λt270=>(if !t270 then qN ((⟨s.Types⟩:aT),a.Key,v.ay,plain)else some false)>>=λY=>if(bif t270 then true else(!Y)) then some false else kH (plain,1,s.Types,I.eta v,a.Kind,a.Name,a.bE,a.bH,a.Max,a.bh,a.ah,a.Key,a.aF,a.Open)>>=λU=>match U with
 |.inl W=>
 some W
 |.inr q=>
 qN ((⟨q.2.1⟩:aT),q.2.2.2.2.2.2.2.2.2.2.2.1,q.2.2.1.aj,q.1)>>=λZ=>some Z else if (a.Kind=9:Bool) then some (decide ((v.aj.length:Int)<=1))>>=λt313=>(if t313 then qN ((⟨s.Types⟩:aT),a.aF,v.aj,plain)else some false)>>=λaf=>some (bif t313 then af else false)else some true else none
  partial_fixpoint
def qK:List I×Int×Int×List ai×Int×Bool->Option ((Int×List ai×Int×Bool) ⊕ (List ai×Int×Bool))
 |(y,J,t8,E,A,B)=>
 if (t8<J:Bool) then if aG t8 y.length then Hb (I.eta (y.getD t8.toNat av),E,A,B)>>=λr=>if r.1 then some (.inl (t8,r.2.1,r.2.2.1,r.2.2.2))else qK (y,J,aM .i64 t8 1,r.2.1,r.2.2.1,r.2.2.2)else none else some (.inr (E,A,B))
  partial_fixpoint
def mP:Bool×List aU×Int×Int×List ai×Int×Bool×Int×ak×Int×List I×List I×List bW->Option ((Bool) ⊕ (Unit))
 |(F,t150,H,t152,D,K,L,M,N,O,P,w,Q)=>
 if (t152<H:Bool) then if aG t152 t150.length then if aG t152 w.length then kc ((⟨D⟩:aT),(t150.getD t152.toNat aC).aw,I.eta (w.getD t152.toNat av),F)>>=λag=>if !ag then some (.inl false)else mP (F,t150,H,aM .i64 t152 1,D,K,L,M,N,O,P,w,Q)else none else none else some (.inr ())
  partial_fixpoint
end
theorem U2:ee DX Ct/\ee DW G2/\eC 207 3 [0] zz qK/\ee BG Hb/\ee sI kc/\ee BF qN/\eC 164 0 [1] Am mP:=Ct.mutual_partial_correctness (ec DX) (ec DW) (eB 207 3 [0] zz) (ec BG) (ec sI) (ec BF) (eB 164 0 [1] Am)
 (λ_ h1 _ _ h=>ei h (.k (cd DW h1) .n))
 (λ_ b _ _ h=>ei h .n (.k (eM zz b) .n))
 (λ_ _ b d _ _ h=>eL zz b h (.k (cd BG d) .n))
 (λ_ a _ _ h=>ei h (.k (cd sI a) .n))
 (λ_ _ _ a bf c _ _ h=>ei h (.k XW (.k CP (.k JD (.k nP (.k (cd sI a) (.k (cd BF bf) .n)))))) (.k Ys (.k (eM Am c) (.k Yt .n))))
 (λ_ h0 _ _ h=>ei h (.k (cd DX h0) .n))
 (λ_ _ a c _ _ h=>eL Am c h (.k (cd sI a) .n))
theorem JE:a6 sI kc:=cd _ U2.2.2.2.2.1
def tG:aT×Int×I->Option Bool
 |(s,t,v)=>
 kc ((⟨s.Types⟩:aT),t,I.eta v,false)>>=λr=>some r
theorem JF:a6 QX tG:= .bj (.k JE .n)
def Cy:aT×Int×I->Option Int
 |(s,t,v)=>
 CZ (s,t)>>=λr=>if !(r=0:Bool) then some r else tG (s,t,I.eta v)>>=λa=>if !a then some 1 else some 0
theorem Yu:a6 Sp Cy:= .bj (.k Yr (.k JF .n))
def mQ:ai×I->Option Bool
 |(a,v)=>
 if !(a.Kind=4:Bool) then some false else tn (a,v.ad)>>=λr=>some (!r.2)
theorem JV:a6 QY mQ:= .bj (.k CP .n)
def DG:I×List ai×ai->Option (Bool×List ai×ai)
 |(k,b,a)=>
 if aG a.Key b.length then mQ (b.getD a.Key.toNat aK,I.eta k)>>=λr=>some (r,b,a)else none
theorem XX:a6 Q6 DG:= .bj (.k JV .n)
def pE:List I×Int×Int×List ai×ai->Option ((Int×List ai×ai) ⊕ (List ai×ai))
 |(a,d,t8,b,c)=>
 if (t8<d:Bool) then if aG t8 a.length then DG (I.eta (a.getD t8.toNat av),b,c)>>=λr=>if r.1 then some (.inl (t8,r.2.1,r.2.2))else pE (a,d,aM .i64 t8 1,r.2.1,r.2.2)else none else some (.inr (b,c))
  partial_fixpoint
theorem If:cL 207 2 [0] Mc pE:= .rx pE.partial_correctness (.k XX .n)
def G1(e:List I×List ai×ai):Option (Int×List ai×ai):=
 match e with
 |(s,b,d)=>
 pE (s,(s.length:Int),0,b,d)>>=λo=>match o with
 |.inl a=>
 some (a.1,a.2.1,a.2.2)
 |.inr c=>
 some ((-1),c.1,c.2)
theorem U7:a6 OV G1:= .bj .n (.k If .n)
def GY:List I×List ai×ai->Option (Bool×List ai×ai)
 |(s,b,a)=>
 G1 (s,b,a)>>=λr=>some (decide (0<=r.1),r.2.1,r.2.2)
theorem U3:a6 OW GY:= .bj (.k U7 .n)
def Dr:aT×ai×I->Option Bool
 |(s,a,v)=>
 GY (v.ay,s.Types,a)>>=λr=>some r.1
theorem Zu:a6 QZ Dr:= .bj (.k U3 .n)
def nT:Int×Int×ai×I×List iE->Option (List iE)
 |(d,t12,a,c,b)=>
 if (t12<d:Bool) then if (a.Kind=5:Bool) then if aG t12 a.ah.length then if aG t12 a.ah.length then some [(⟨(a.ah.getD t12.toNat aC).aw,(a.ah.getD t12.toNat aC).ad⟩:iE)]>>=λt40=>if room 16 (b++t40).length then nT (d,aM .i64 t12 1,a,I.eta c,b++t40)else none else none else none else if (a.Kind=6:Bool) then hg (a,c.ad)>>=λr=>if aG r.1 a.ah.length then some [(⟨(a.ah.getD r.1.toNat aC).aw,c.ad⟩:iE)]>>=λt61=>if room 16 (b++t61).length then nT (d,aM .i64 t12 1,a,I.eta c,b++t61)else none else none else some [(⟨a.aF,t12⟩:iE)]>>=λt22=>if room 16 (b++t22).length then nT (d,aM .i64 t12 1,a,I.eta c,b++t22)else none else some b
  partial_fixpoint
theorem Xr:cL 133 0 [0] OX nT:= .rx nT.partial_correctness (.k nP .n)
def Df:ai×I->Option (List iE)
 |(a,v)=>
 nT ((v.aj.length:Int),0,a,I.eta v,[])>>=λo=>some o
theorem Ya:a6 Q0 Df:= .bj .n (.k Xr .n)
mutual
def lX(p:aT×Int×I):Option (I×Bool):=
 match p with
 |(s,t,v)=>
 if aG t s.Types.length then some (s.Types.getD t.toNat aK)>>=λe=>mQ (e,I.eta v)>>=λr=>(if !r then Dr (s,e,I.eta v)else some false)>>=λN=>if(bif bif r then true else N then true else bif (e.Kind=6:Bool)then ((v.aj.length:Int)=0:Bool)else false) then some ((⟨0,false,0,[],0,[],[],[]⟩:I),false)else fj 120 v.ay>>=λO=>Df (e,I.eta v)>>=λK=>q5 (K,(K.length:Int),0,s.Types,I.eta v,0,false,0,[],0,v.Kind,v.bN,v.bc,v.bl,v.ad,O,[])>>=λo=>match o with
 |.inl c=>
 some ((⟨c.2.1,c.2.2.1,c.2.2.2.1,c.2.2.2.2.1,c.2.2.2.2.2,[],[],[]⟩:I),c.1)
 |.inr a=>
 some ((⟨a.2.2.2.2.2.1,a.2.2.2.2.2.2.1,a.2.2.2.2.2.2.2.1,a.2.2.2.2.2.2.2.2.1,a.2.2.2.2.2.2.2.2.2.1,a.2.2.2.2.2.2.2.2.2.2.1,a.2.2.2.2.2.2.2.2.2.2.2,[]⟩:I),true)else none
  partial_fixpoint
def q5:List iE×Int×Int×List ai×I×Int×Bool×Int×ak×Int×Int×Bool×Int×ak×Int×List I×List I->Option ((Bool×Int×Bool×Int×ak×Int) ⊕ (Int×Bool×Int×ak×Int×Int×Bool×Int×ak×Int×List I×List I))
 |(t49,M,t51,q,f,w,x,y,A,B,D,E,F,G,H,J,j)=>
 if (t51<M:Bool) then if aG t51 t49.length then if aG t51 f.aj.length then lX ((⟨q⟩:aT),(t49.getD t51.toNat It).t,I.eta (f.aj.getD t51.toNat av))>>=λL=>if !L.2 then some (.inl (false,0,false,0,[],0))else some [I.eta L.1]>>=λt74=>if room 120 (j++t74).length then q5 (t49,M,aM .i64 t51 1,q,I.eta f,w,x,y,A,B,D,E,F,G,H,J,j++t74)else none else none else none else some (.inr (w,x,y,A,B,D,E,F,G,H,J,j))
  partial_fixpoint
end
theorem Yv:ee xN lX/\eC 141 0 [0] An q5:=lX.mutual_partial_correctness (ec xN) (eB 141 0 [0] An)
 (λ_ h1 _ _ h=>ei h (.k JV (.k Zu (.k nH (.k Ya .n)))) (.k (eM An h1) .n))
 (λ_ _ h0 h1 _ _ h=>eL An h1 h (.k (cd xN h0) .n))
theorem Yb:a6 xN lX:=cd _ Yv.1
def wB:aT×Int×I->Option (I×Int)
 |(s,t,v)=>
 Cy (s,t,I.eta v)>>=λr=>if !(r=0:Bool) then some ((⟨0,false,0,[],0,[],[],[]⟩:I),r)else lX (s,t,I.eta v)>>=λa=>if !a.2 then some ((⟨0,false,0,[],0,[],[],[]⟩:I),12)else some (I.eta a.1,0)
theorem Yc:a6 Bs wB:= .bj (.k Yu (.k Yb .n))
def y7:aT×Int->Option Int
 |(s,t)=>
 pJ s>>=λr=>if !(r=0:Bool) then some r else if(bif (t<0:Bool)then true else ((s.Types.length:Int)<=t:Bool)) then some 4 else some 0
theorem Xs:a6 Rb y7:= .bj (.k y6 .n)
def Hs:aT×Int×I->Option Bool
 |(s,t,v)=>
 kc (s,t,I.eta v,true)>>=λr=>some r
theorem Yd:a6 Rc Hs:= .bj (.k JE .n)
def Cz:aT×Int×I×aT×Int->Option Int
 |(w,wt,v,r,rt)=>
 y7 (w,wt)>>=λa=>if !(a=0:Bool) then some a else y7 (r,rt)>>=λb=>if !(b=0:Bool) then some b else Hs (w,wt,I.eta v)>>=λc=>if !c then some 1 else some 0
theorem Yw:a6 Q3 Cz:= .bj (.k Xs (.k Yd .n))
def tM:List ai×List ai×ar×ar->Option (I×Bool×List ai×List ai×ar×ar)
 |(b,c,e,a)=>
 uf 8 a>>=λr=>if((r.1.length=a.length:Bool)&&true) then some ((⟨0,false,0,[],0,[],[],[]⟩:I),false,b,c,r.1,r.2)else none
theorem T':a6 Re tM:= .bj (.k oc .n)
def vq:Int×List ai×List ai×ar×ar->Option (I×Bool×List ai×List ai×ar×ar)
 |(id,b,c,e,a)=>
 uf 8 a>>=λr=>if((r.1.length=a.length:Bool)&&true) then some [id]>>=λt13=>if room 8 (r.2++t13).length then some ((⟨0,false,0,[],0,[],[],[]⟩:I),false,b,c,r.1,r.2++t13)else none else none
theorem TB:a6 Rz vq:= .bj (.k oc .n)
mutual
def kb(v:I):Option I:=
 fj 120 v.ay>>=λr=>fj 120 v.aj>>=λX=>fj 24 v.Rest>>=λY=>tN ((r.length:Int),0,v.Kind,v.bN,v.bc,v.bl,v.ad,0,false,0,[],0,r,X,Y)>>=λo=>tP ((o.2.2.2.2.2.2.2.2.2.2.2.1.length:Int),0,o.1,o.2.1,o.2.2.1,o.2.2.2.1,o.2.2.2.2.1,o.2.2.2.2.2.1,o.2.2.2.2.2.2.1,o.2.2.2.2.2.2.2.1,o.2.2.2.2.2.2.2.2.1,o.2.2.2.2.2.2.2.2.2.1,o.2.2.2.2.2.2.2.2.2.2.2.1,o.2.2.2.2.2.2.2.2.2.2.1,o.2.2.2.2.2.2.2.2.2.2.2.2)>>=λa=>some (⟨a.1,a.2.1,a.2.2.1,a.2.2.2.1,a.2.2.2.2.1,a.2.2.2.2.2.2.2.2.2.2.1,a.2.2.2.2.2.2.2.2.2.2.2.1,a.2.2.2.2.2.2.2.2.2.2.2.2⟩:I)
  partial_fixpoint
def tN:Int×Int×Int×Bool×Int×ak×Int×Int×Bool×Int×ak×Int×List I×List I×List bW->Option (Int×Bool×Int×ak×Int×Int×Bool×Int×ak×Int×List I×List I×List bW)
 |(U,t22,j,p,q,t,w,x,y,A,B,D,c,E,F)=>
 if (t22<U:Bool) then if aG t22 c.length then if (t22.toNat<c.length:Bool) then kb (I.eta (c.getD t22.toNat av))>>=λZ=>if aG t22 c.length then if (t22.toNat<c.length:Bool) then tN (U,aM .i64 t22 1,j,p,q,t,w,x,y,A,B,D,c.set t22.toNat (I.eta Z),E,F)else none else none else none else none else some (j,p,q,t,w,x,y,A,B,D,c,E,F)
  partial_fixpoint
def tP:Int×Int×Int×Bool×Int×ak×Int×Int×Bool×Int×ak×Int×List I×List I×List bW->Option (Int×Bool×Int×ak×Int×Int×Bool×Int×ak×Int×List I×List I×List bW)
 |(W,t37,G,H,J,K,L,M,N,O,P,Q,e,R,S)=>
 if (t37<W:Bool) then if aG t37 e.length then if (t37.toNat<e.length:Bool) then kb (I.eta (e.getD t37.toNat av))>>=λaf=>if aG t37 e.length then if (t37.toNat<e.length:Bool) then tP (W,aM .i64 t37 1,G,H,J,K,L,M,N,O,P,Q,e.set t37.toNat (I.eta af),R,S)else none else none else none else none else some (G,H,J,K,L,M,N,O,P,Q,R,e,S)
  partial_fixpoint
end
theorem Xu:ee u6 kb/\eC 219 0 [1] Ap tP/\eC 219 0 [0] Ao tN:=kb.mutual_partial_correctness (ec u6) (eB 219 0 [1] Ap) (eB 219 0 [0] Ao)
 (λ_ _ h1 a _ _ h=>ei h (.k nH (.k p4 .n)) (.k (eM Ao a) (.k (eM Ap h1) .n)))
 (λ_ _ h0 h1 _ _ h=>eL Ap h1 h (.k (cd u6 h0) .n))
 (λ_ _ h0 a _ _ h=>eL Ao a h (.k (cd u6 h0) .n))
theorem WW:a6 u6 kb:=cd _ Xu.1
mutual
def vK(c:List I×List I):Option Bool:=
 match c with
 |(s1,f)=>
 if !((s1.length:Int)=(f.length:Int):Bool) then some false else vI (f,s1,(s1.length:Int),0)>>=λo=>match o with
 |.inl p=>
 some p
 |.inr v=>
 some true
  partial_fixpoint
def pK:I×I->Option Bool
 |(a,b)=>
 some (bif bif bif bif decide (a.Kind=b.Kind)then fy a.bN b.bN else false then decide (a.bc=b.bc)else false then decide (a.bl=b.bl)else false then decide (a.ad=b.ad)else false)>>=λt37=>(if t37 then yn (a.Rest,b.Rest)else some false)>>=λr=>some (bif t37 then r else false)>>=λt44=>(if t44 then vK (a.ay,b.ay)else some false)>>=λq=>some (bif t44 then q else false)>>=λt51=>(if t51 then vK (a.aj,b.aj)else some false)>>=λt=>some (bif t51 then t else false)
  partial_fixpoint
def vI:List I×List I×Int×Int->Option ((Bool) ⊕ (Unit))
 |(e,t15,j,t17)=>
 if (t17<j:Bool) then if aG t17 t15.length then if aG t17 e.length then pK (I.eta (t15.getD t17.toNat av),I.eta (e.getD t17.toNat av))>>=λr=>if !r then some (.inl false)else vI (e,t15,j,aM .i64 t17 1)else none else none else some (.inr ())
  partial_fixpoint
end
theorem UZ:ee DY vK/\eC 104 0 [0] zA vI/\ee xX pK:=vK.mutual_partial_correctness (ec DY) (eB 104 0 [0] zA) (ec xX)
 (λ_ h1 _ _ h=>ei h .n (.k (eM zA h1) .n))
 (λ_ _ h1 a _ _ h=>eL zA h1 h (.k (cd xX a) .n))
 (λ_ h0 _ _ h=>ei h (.k TE (.k (cd DY h0) .n)))
theorem J7:a6 xX pK:=cd _ UZ.2.2
def tQ:aU×I->Option Bool
 |(m,item)=>
 (if m.bU then pK (I.eta item,I.eta m.bA)else some false)>>=λr=>some (bif m.bU then r else false)
theorem GB:a6 RB tQ:= .bj (.k J7 .n)
def Hx:aT×Int->Option Int
 |(s,t)=>
 pJ (⟨s.Types⟩:aT)>>=λr=>if !(r=0:Bool) then some r else if(bif (t<0:Bool)then true else ((s.Types.length:Int)<=t:Bool)) then some 4 else some 0
theorem WX:a6 Rf Hx:= .bj (.k y6 .n)
def tm:aT×Int×I->Option Int
 |(s,t,v)=>
 Hx ((⟨s.Types⟩:aT),t)>>=λr=>if !(r=0:Bool) then some r else tG ((⟨s.Types⟩:aT),t,I.eta v)>>=λa=>if !a then some 1 else some 0
theorem M2:a6 Q4 tm:= .bj (.k WX (.k JF .n))
def tu:Int×Int×ar->Option (Int×Int×ar)
 |(b,a,c)=>
 if (128<=b:Bool) then if aG a 10 then if (a.toNat<c.length:Bool) then tu (lE .u64 b 7,aM .i64 a 1,c.set a.toNat (r7 .u8 (bT .u8 b) 128))else none else none else some (b,a,c)
  partial_fixpoint
theorem Yx:cL 228 0 [0] OY tu:= .rx tu.partial_correctness
def pN(n:Int):Option ak:=
 tu (n,0,[0,0,0,0,0,0,0,0,0,0])>>=λo=>if aG o.2.1 10 then if (o.2.1.toNat<o.2.2.length:Bool) then some (o.2.2.set o.2.1.toNat (bT .u8 o.1))>>=λa=>some (aM .i64 o.2.1 1)>>=λt21=>if dN 0 t21 10 then if xd (0:Int).toNat t21.toNat a.length then some (strOf ((a.drop (0:Int).toNat).take t21.toNat))else none else none else none else none
theorem zd:a6 RF pN:= .bj .n (.k Yx .n)
def q9(p:ak):Option ak:=
 pN (bT .u64 (p.length:Int))>>=λr=>if (r.length+p.length<=eF:Bool) then some (r++p)else none
theorem JW:a6 Rj q9:= .bj (.k zd .n)
def ta:ak×ak->Option (Int×ak)
 |(s,b)=>
 some b>>=λr=>if((r.length=b.length:Bool)&&true) then if room 1 (r.length+s.length) then some ((s.length:Int),Bp r s)else none else none
theorem TF:a6 Ri ta:= .bj (.k qZ .n)
def wy:Int×Bool×ak->Option ak
 |(id,d,p)=>
 some (gz .u64 2 (bT .u64 id))>>=λt10=>if d then pN (aM .u64 t10 1)>>=λr=>q9 p>>=λa=>if (r.length+a.length<=eF:Bool) then some (r++a)else none else pN t10>>=λb=>q9 p>>=λc=>if (b.length+c.length<=eF:Bool) then some (b++c)else none
theorem Hy:a6 RD wy:= .bj (.k zd (.k JW .n))
def CR:aU×I->Option Bool
 |(m,v)=>
 (if m.bU then pK (I.eta m.bA,I.eta v)else some false)>>=λr=>some (bif m.bU then r else false)
theorem WY:a6 RC CR:= .bj (.k J7 .n)
def rq:List bW×Int×Int×List ai×Int×List gv->Option (List ai×Int×List gv)
 |(t57,e,t59,c,d,a)=>
 if (t59<e:Bool) then if aG t59 t57.length then some (t57.getD t59.toNat bV)>>=λb=>wy (b.ad,false,b.Data)>>=λf=>some [(⟨b.ad,f⟩:gv)]>>=λt72=>if room 24 (a++t72).length then rq (t57,e,aM .i64 t59 1,c,d,a++t72)else none else none else some (c,d,a)
  partial_fixpoint
theorem UJ:cL 189 1 [1] O0 rq:= .rx rq.partial_correctness (.k Hy .n)
def rr:Int×Int×List ai×Int×List gv×ak->Option (List ai×Int×ak)
 |(e,t79,b,c,a,d)=>
 if (t79<e:Bool) then if aG t79 a.length then if (t79.toNat<a.length:Bool) then ta ((a.getD t79.toNat wx).text,d)>>=λf=>rr (e,aM .i64 t79 1,b,c,a,f.2)else none else none else some (b,c,d)
  partial_fixpoint
theorem UK:cL 189 1 [2] O1 rr:= .rx rr.partial_correctness (.k TF .n)
def yr(b:ak):Option ak:=
 if hK (b.length:Int) (b.length:Int) then some b else none
theorem Tx:a6 Rk yr:= .bj
def tv:Int×Int×ar->Option (Int×ar)
 |(b,c,a)=>
 if (0<b:Bool) then some (c9 .i64 c 1)>>=λt10=>if aG t10 8 then if (t10.toNat<a.length:Bool) then tv (lE .u64 b 8,t10,a.set t10.toNat (bT .u8 b))else none else none else some (c,a)
  partial_fixpoint
theorem Yy:cL 187 0 [0] OZ tv:= .rx tv.partial_correctness
def zZ(n:Int):Option ak:=
 tv (n,8,[0,0,0,0,0,0,0,0])>>=λo=>if dN o.1 8 8 then if xd o.1.toNat ((8:Int).toNat-o.1.toNat) o.2.length then some (strOf ((o.2.drop o.1.toNat).take ((8:Int).toNat-o.1.toNat)))else none else none
theorem Zv:a6 Rg zZ:= .bj .n (.k Yy .n)
mutual
def j8:Int×I×Int×List ai×Int->Option (ak×List ai×Int)
 |(t,v,e,b,x)=>
 some (iq x e)>>=λt19=>if aG t b.length then some (b.getD t.toNat aK)>>=λa=>if (a.Kind=1:Bool) then if v.bN then some ([1],b,t19)else some ([],b,t19)else if (a.Kind=2:Bool) then nl v.bc>>=λr=>zZ r>>=λq=>some (q,b,t19)else if (a.Kind=3:Bool) then some (v.bl,b,t19)else if (a.Kind=4:Bool) then zZ (bT .u64 v.ad)>>=λP=>some (P,b,t19)else if (a.Kind=5:Bool) then C3 (a,I.eta v,e,b,t19)>>=λw=>some (w.1,w.2.1,w.2.2)else if (a.Kind=6:Bool) then yy (a,I.eta v,e,b,t19)>>=λA=>some (A.1,A.2.1,A.2.2)else if (a.Kind=9:Bool) then if ((v.aj.length:Int)=0:Bool) then some ([],b,t19)else if aG 0 v.aj.length then j8 (a.aF,I.eta (v.aj.getD (0:Int).toNat av),aM .i64 e 1,b,t19)>>=λF=>if ([1].length+F.1.length<=eF:Bool) then some ([1]++F.1,F.2.1,F.2.2)else none else none else lQ (e,v.aj,(v.aj.length:Int),0,b,t19,I.eta v,a,[])>>=λo=>yr o.2.2>>=λX=>some (X,o.1,o.2.1)else none
  partial_fixpoint
def C3:ai×I×Int×List ai×Int->Option (ak×List ai×Int)
 |(a,v,e,b,x)=>
 ru (e,a.ah,(a.ah.length:Int),0,b,x,I.eta v,[])>>=λo=>rq (o.2.2.1.Rest,(o.2.2.1.Rest.length:Int),0,o.1,o.2.1,o.2.2.2)>>=λE=>GG E.2.2>>=λr=>if((r.length=E.2.2.length:Bool)&&true) then rr ((r.length:Int),0,E.1,E.2.1,r,[])>>=λN=>yr N.2.2>>=λq=>some (q,N.1,N.2.1)else none
  partial_fixpoint
def yy:ai×I×Int×List ai×Int->Option (ak×List ai×Int)
 |(a,v,e,b,x)=>
 pN (bT .u64 v.ad)>>=λr=>hg (a,v.ad)>>=λq=>if !q.2 then if aG 0 v.Rest.length then some (v.Rest.getD (0:Int).toNat bV)>>=λc=>if (r.length+c.Data.length<=eF:Bool) then some (r++c.Data,b,x)else none else none else if aG q.1 a.ah.length then if aG 0 v.aj.length then j8 ((a.ah.getD q.1.toNat aC).aw,I.eta (v.aj.getD (0:Int).toNat av),aM .i64 e 1,b,x)>>=λG=>if (r.length+G.1.length<=eF:Bool) then some (r++G.1,G.2.1,G.2.2)else none else none else none
  partial_fixpoint
def lQ:Int×List I×Int×Int×List ai×Int×I×ai×ak->Option (List ai×Int×ak)
 |(f,t84,U,t86,K,L,D,y,M)=>
 if (t86<U:Bool) then if aG t86 t84.length then some (t84.getD t86.toNat av)>>=λW=>if (y.Kind=8:Bool) then if aG t86 D.ay.length then j8 (y.Key,I.eta (D.ay.getD t86.toNat av),aM .i64 f 1,K,L)>>=λO=>q9 O.1>>=λY=>ta (Y,M)>>=λZ=>j8 (y.aF,I.eta W,aM .i64 f 1,O.2.1,O.2.2)>>=λQ=>q9 Q.1>>=λaf=>ta (af,Z.2)>>=λag=>lQ (f,t84,U,aM .i64 t86 1,Q.2.1,Q.2.2,I.eta D,y,ag.2)else none else j8 (y.aF,I.eta W,aM .i64 f 1,K,L)>>=λR=>q9 R.1>>=λam=>ta (am,M)>>=λan=>lQ (f,t84,U,aM .i64 t86 1,R.2.1,R.2.2,I.eta D,y,an.2)else none else some (K,L,M)
  partial_fixpoint
def ru:Int×List aU×Int×Int×List ai×Int×I×List gv->Option (List ai×Int×I×List gv)
 |(f,t18,S,t20,H,J,p,B)=>
 if (t20<S:Bool) then if aG t20 t18.length then some (t18.getD t20.toNat aC)>>=λc=>if aG t20 p.aj.length then CR ((⟨c.ad,c.Name,c.aw,c.ch,c.bU,I.eta c.bA⟩:aU),I.eta (p.aj.getD t20.toNat av))>>=λP=>if !P then if aG t20 p.aj.length then j8 (c.aw,I.eta (p.aj.getD t20.toNat av),aM .i64 f 1,H,J)>>=λw=>wy (c.ad,c.ch,w.1)>>=λA=>some [(⟨c.ad,A⟩:gv)]>>=λt53=>if room 24 (B++t53).length then ru (f,t18,S,aM .i64 t20 1,w.2.1,w.2.2,I.eta p,B++t53)else none else none else ru (f,t18,S,aM .i64 t20 1,H,J,I.eta p,B)else none else none else some (H,J,I.eta p,B)
  partial_fixpoint
end
theorem UL:ee qF j8/\eC 145 1 [0] Ar lQ/\ee BE yy/\ee BD C3/\eC 189 1 [0] Aq ru:=j8.mutual_partial_correctness (ec qF) (eB 145 1 [0] Ar) (ec BE) (ec BD) (eB 189 1 [0] Aq)
 (λ_ _ _ _ h0 h1 b c _ _ h=>ei h (.k TR (.k Zv (.k (cd BD c) (.k (cd BE b) (.k (cd qF h0) (.k Tx .n)))))) (.k (eM Ar h1) .n))
 (λ_ _ h0 h1 _ _ h=>eL Ar h1 h (.k (cd qF h0) (.k JW (.k TF .n))))
 (λ_ h0 _ _ h=>ei h (.k zd (.k nP (.k (cd qF h0) .n))))
 (λ_ a _ _ h=>ei h (.k Hw (.k Tx .n)) (.k (eM Aq a) (.k UJ (.k UK .n))))
 (λ_ _ h0 a _ _ h=>eL Aq a h (.k WY (.k (cd qF h0) (.k Hy .n))))
theorem VS:a6 qF j8:=cd _ UL.1
end
end Go.Proofs.YtdjagncoefjfeaaGreat
