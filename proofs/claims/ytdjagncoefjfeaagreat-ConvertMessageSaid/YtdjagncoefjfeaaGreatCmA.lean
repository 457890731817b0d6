/- The functions of the program as functions of Lean, that its code does what they say, and what they answer; part A. -/
import Derived.Test.YtdjagncoefjfeaaGreatProg
import Derived.KernelRfl
import Derived.Shelf.SlGeneric
import Derived.Shelf.SlLaysF0
import Derived.Shelf.SlSortCmp.WholeK
import Derived.Lib.Small
import Derived.Test.YtdjagncoefjfeaaGreatCmLD

namespace Go.Proofs.YtdjagncoefjfeaaGreat
set_option linter.all false
section
open Go Go.Proofs.YtdjagncoefjfeaaGreat.Shv
open Tryz
set_option maxRecDepth 100000
structure lE where
 ae:Int
 aw:Int
 gV:Int
structure dr where
 Kind:Int
 A:Int
 B:Int
 C:Int
 c0:List lE
structure ek where
 ec:List dr
structure k2 where
 S:ek
 T:Int
 C:aq
structure kB where
 Kind:Int
 Node:Int
 A:Int
 B:Int
structure mr where
 D:k2
 L:List kB
structure np where
 C:mr
 wR:Bool
structure c4 where
 ae:Int
 Name:aj
structure bY where
 ae:Int
 Data:aj
structure I where
 Kind:Int
 bL:Bool
 bc:Int
 bn:aj
 ae:Int
 av:List I
 ai:List I
 Rest:List bY
structure aS where
 ae:Int
 Name:aj
 aw:Int
 cp:Bool
 bZ:Bool
 bw:I
structure ah where
 Kind:Int
 Name:aj
 bA:Int
 bC:Int
 Max:Int
 bg:List c4
 ag:List aS
 Key:Int
 aG:Int
 Open:Bool
structure aR where
 Types:List ah
structure dh where
 cU:aR
 aw:Int
structure cQ where
 ae:Int
 cp:Bool
 Data:aj
structure iT where
 Path:aq
 Reason:Int
structure iI where
 t:Int
 number:Int
structure gr where
 id:Int
 text:aj
structure eS where
 v:I
 u:I
 message:aj
structure cS where
 Value:I
 dO:iT
 ck:Bool
structure dI where
 Value:I
 Path:aq
 ck:Bool
structure kC where
 V:I
 U:I
 Message:aj
structure y7 where
 IJ:List kB
 gB:List kB
abbrev Gd:Nat:=0
abbrev SA:Nat:=1
abbrev V8:Nat:=2
abbrev vo:Nat:=4
abbrev B':Nat:=5
abbrev Sp:Nat:=6
def ja:lE:=⟨0,0,0⟩
def br:dr:=⟨0,0,0,0,[]⟩
def SB:ek:=⟨[]⟩
def SC:k2:=⟨SB,0,[]⟩
def nT:kB:=⟨0,0,0,0⟩
def R1:mr:=⟨SC,[]⟩
def WK:np:=⟨R1,false⟩
def dL:c4:=⟨0,[]⟩
def bX:bY:=⟨0,[]⟩
def au:I:=⟨0,false,0,[],0,[],[],[]⟩
def aE:aS:=⟨0,[],0,false,false,au⟩
def aN:ah:=⟨0,[],0,0,0,[],[],0,0,false⟩
def KF:aR:=⟨[]⟩
def H8:dh:=⟨KF,0⟩
def gj:cQ:=⟨0,false,[]⟩
def Ka:iT:=⟨[],0⟩
def HL:iI:=⟨0,0⟩
def uY:gr:=⟨0,[]⟩
def VK:eS:=⟨au,au,[]⟩
def V9:cS:=⟨au,Ka,false⟩
def Vr:dI:=⟨au,[],false⟩
def Vs:kC:=⟨au,au,[]⟩
def aaL:y7:=⟨[],[]⟩
def dD:Nat->Type
 |0=>np
 |1=>mr
 |2=>k2
 |3=>ek
 |4=>dr
 |5=>lE
 |6=>kB
 |7=>ah
 |8=>c4
 |9=>aS
 |10=>I
 |11=>bY
 |12=>aR
 |13=>dh
 |14=>cQ
 |15=>iT
 |16=>iI
 |17=>gr
 |18=>eS
 |19=>cS
 |20=>dI
 |21=>kC
 |22=>y7
 |_=>Bool
def dT:Nat->List aJ
 |0=>[.slice (.nm 4),.int .u8,.slice (.int .u8),.slice (.nm 6),.bool]
 |1=>[.slice (.nm 4),.int .u8,.slice (.int .u8),.slice (.nm 6)]
 |2=>[.slice (.nm 4),.int .u8,.slice (.int .u8)]
 |3=>[.slice (.nm 4)]
 |4=>[.int .u8,.int .u8,.int .u8,.int .u8,.slice (.nm 5)]
 |5=>[.int .u8,.int .u8,.int .u8]
 |6=>[.int .u8,.int .u8,.int .u8,.int .u8]
 |7=>[.int .i64,.str,.int .i64,.int .i64,.int .i64,.slice (.nm 8),.slice (.nm 9),.int .i64,.int .i64,.bool]
 |8=>[.int .i64,.str]
 |9=>[.int .i64,.str,.int .i64,.bool,.bool,.int .i64,.bool,.int .i64,.str,.int .i64,.slice (.nm 10),.slice (.nm 10),.slice (.nm 11)]
 |10=>[.int .i64,.bool,.int .i64,.str,.int .i64,.slice (.nm 10),.slice (.nm 10),.slice (.nm 11)]
 |11=>[.int .i64,.str]
 |12=>[.slice (.nm 7)]
 |13=>[.slice (.nm 7),.int .i64]
 |14=>[.int .i64,.bool,.str]
 |15=>[.slice (.int .i64),.int .i64]
 |16=>[.int .i64,.int .i64]
 |17=>[.int .i64,.str]
 |18=>[.int .i64,.bool,.int .i64,.str,.int .i64,.slice (.nm 10),.slice (.nm 10),.slice (.nm 11),.int .i64,.bool,.int .i64,.str,.int .i64,.slice (.nm 10),.slice (.nm 10),.slice (.nm 11),.str]
 |19=>[.int .i64,.bool,.int .i64,.str,.int .i64,.slice (.nm 10),.slice (.nm 10),.slice (.nm 11),.slice (.int .i64),.int .i64,.bool]
 |20=>[.int .i64,.bool,.int .i64,.str,.int .i64,.slice (.nm 10),.slice (.nm 10),.slice (.nm 11),.slice (.int .i64),.bool]
 |21=>[.int .i64,.bool,.int .i64,.str,.int .i64,.slice (.nm 10),.slice (.nm 10),.slice (.nm 11),.int .i64,.bool,.int .i64,.str,.int .i64,.slice (.nm 10),.slice (.nm 10),.slice (.nm 11),.str]
 |22=>[.slice (.nm 6),.slice (.nm 6)]
 |_=>[.bool]
def ag9:(n:Nat)->dD n->List (Cell dD)
 |0,(x:np)=>[⟨.slice (.nm 4),x.C.D.S.ec⟩,⟨.int .u8,x.C.D.T⟩,⟨.slice (.int .u8),x.C.D.C⟩,⟨.slice (.nm 6),x.C.L⟩,⟨.bool,x.wR⟩]
 |1,(x:mr)=>[⟨.slice (.nm 4),x.D.S.ec⟩,⟨.int .u8,x.D.T⟩,⟨.slice (.int .u8),x.D.C⟩,⟨.slice (.nm 6),x.L⟩]
 |2,(x:k2)=>[⟨.slice (.nm 4),x.S.ec⟩,⟨.int .u8,x.T⟩,⟨.slice (.int .u8),x.C⟩]
 |3,(x:ek)=>[⟨.slice (.nm 4),x.ec⟩]
 |4,(x:dr)=>[⟨.int .u8,x.Kind⟩,⟨.int .u8,x.A⟩,⟨.int .u8,x.B⟩,⟨.int .u8,x.C⟩,⟨.slice (.nm 5),x.c0⟩]
 |5,(x:lE)=>[⟨.int .u8,x.ae⟩,⟨.int .u8,x.aw⟩,⟨.int .u8,x.gV⟩]
 |6,(x:kB)=>[⟨.int .u8,x.Kind⟩,⟨.int .u8,x.Node⟩,⟨.int .u8,x.A⟩,⟨.int .u8,x.B⟩]
 |7,(x:ah)=>[⟨.int .i64,x.Kind⟩,⟨.str,x.Name⟩,⟨.int .i64,x.bA⟩,⟨.int .i64,x.bC⟩,⟨.int .i64,x.Max⟩,⟨.slice (.nm 8),x.bg⟩,⟨.slice (.nm 9),x.ag⟩,⟨.int .i64,x.Key⟩,⟨.int .i64,x.aG⟩,⟨.bool,x.Open⟩]
 |8,(x:c4)=>[⟨.int .i64,x.ae⟩,⟨.str,x.Name⟩]
 |9,(x:aS)=>[⟨.int .i64,x.ae⟩,⟨.str,x.Name⟩,⟨.int .i64,x.aw⟩,⟨.bool,x.cp⟩,⟨.bool,x.bZ⟩,⟨.int .i64,x.bw.Kind⟩,⟨.bool,x.bw.bL⟩,⟨.int .i64,x.bw.bc⟩,⟨.str,x.bw.bn⟩,⟨.int .i64,x.bw.ae⟩,⟨.slice (.nm 10),x.bw.av⟩,⟨.slice (.nm 10),x.bw.ai⟩,⟨.slice (.nm 11),x.bw.Rest⟩]
 |10,(x:I)=>[⟨.int .i64,x.Kind⟩,⟨.bool,x.bL⟩,⟨.int .i64,x.bc⟩,⟨.str,x.bn⟩,⟨.int .i64,x.ae⟩,⟨.slice (.nm 10),x.av⟩,⟨.slice (.nm 10),x.ai⟩,⟨.slice (.nm 11),x.Rest⟩]
 |11,(x:bY)=>[⟨.int .i64,x.ae⟩,⟨.str,x.Data⟩]
 |12,(x:aR)=>[⟨.slice (.nm 7),x.Types⟩]
 |13,(x:dh)=>[⟨.slice (.nm 7),x.cU.Types⟩,⟨.int .i64,x.aw⟩]
 |14,(x:cQ)=>[⟨.int .i64,x.ae⟩,⟨.bool,x.cp⟩,⟨.str,x.Data⟩]
 |15,(x:iT)=>[⟨.slice (.int .i64),x.Path⟩,⟨.int .i64,x.Reason⟩]
 |16,(x:iI)=>[⟨.int .i64,x.t⟩,⟨.int .i64,x.number⟩]
 |17,(x:gr)=>[⟨.int .i64,x.id⟩,⟨.str,x.text⟩]
 |18,(x:eS)=>[⟨.int .i64,x.v.Kind⟩,⟨.bool,x.v.bL⟩,⟨.int .i64,x.v.bc⟩,⟨.str,x.v.bn⟩,⟨.int .i64,x.v.ae⟩,⟨.slice (.nm 10),x.v.av⟩,⟨.slice (.nm 10),x.v.ai⟩,⟨.slice (.nm 11),x.v.Rest⟩,⟨.int .i64,x.u.Kind⟩,⟨.bool,x.u.bL⟩,⟨.int .i64,x.u.bc⟩,⟨.str,x.u.bn⟩,⟨.int .i64,x.u.ae⟩,⟨.slice (.nm 10),x.u.av⟩,⟨.slice (.nm 10),x.u.ai⟩,⟨.slice (.nm 11),x.u.Rest⟩,⟨.str,x.message⟩]
 |19,(x:cS)=>[⟨.int .i64,x.Value.Kind⟩,⟨.bool,x.Value.bL⟩,⟨.int .i64,x.Value.bc⟩,⟨.str,x.Value.bn⟩,⟨.int .i64,x.Value.ae⟩,⟨.slice (.nm 10),x.Value.av⟩,⟨.slice (.nm 10),x.Value.ai⟩,⟨.slice (.nm 11),x.Value.Rest⟩,⟨.slice (.int .i64),x.dO.Path⟩,⟨.int .i64,x.dO.Reason⟩,⟨.bool,x.ck⟩]
 |20,(x:dI)=>[⟨.int .i64,x.Value.Kind⟩,⟨.bool,x.Value.bL⟩,⟨.int .i64,x.Value.bc⟩,⟨.str,x.Value.bn⟩,⟨.int .i64,x.Value.ae⟩,⟨.slice (.nm 10),x.Value.av⟩,⟨.slice (.nm 10),x.Value.ai⟩,⟨.slice (.nm 11),x.Value.Rest⟩,⟨.slice (.int .i64),x.Path⟩,⟨.bool,x.ck⟩]
 |21,(x:kC)=>[⟨.int .i64,x.V.Kind⟩,⟨.bool,x.V.bL⟩,⟨.int .i64,x.V.bc⟩,⟨.str,x.V.bn⟩,⟨.int .i64,x.V.ae⟩,⟨.slice (.nm 10),x.V.av⟩,⟨.slice (.nm 10),x.V.ai⟩,⟨.slice (.nm 11),x.V.Rest⟩,⟨.int .i64,x.U.Kind⟩,⟨.bool,x.U.bL⟩,⟨.int .i64,x.U.bc⟩,⟨.str,x.U.bn⟩,⟨.int .i64,x.U.ae⟩,⟨.slice (.nm 10),x.U.av⟩,⟨.slice (.nm 10),x.U.ai⟩,⟨.slice (.nm 11),x.U.Rest⟩,⟨.str,x.Message⟩]
 |22,(x:y7)=>[⟨.slice (.nm 6),x.IJ⟩,⟨.slice (.nm 6),x.gB⟩]
 |_+23,(x:Bool)=>[⟨.bool,x⟩]
def cR:(n:Nat)->List (Cell dD)->Option (dD n)
 |0,l=>match aL.dec dD (dT 0) l with
  |some h=>some (⟨(⟨(⟨(⟨h.1⟩:ek),h.2.1,h.2.2.1⟩:k2),h.2.2.2.1⟩:mr),h.2.2.2.2⟩:np)
  |none=>none
 |1,l=>match aL.dec dD (dT 1) l with
  |some h=>some (⟨(⟨(⟨h.1⟩:ek),h.2.1,h.2.2.1⟩:k2),h.2.2.2⟩:mr)
  |none=>none
 |2,l=>match aL.dec dD (dT 2) l with
  |some h=>some (⟨(⟨h.1⟩:ek),h.2.1,h.2.2⟩:k2)
  |none=>none
 |3,l=>match aL.dec dD (dT 3) l with
  |some h=>some (⟨h⟩:ek)
  |none=>none
 |4,l=>match aL.dec dD (dT 4) l with
  |some h=>some (⟨h.1,h.2.1,h.2.2.1,h.2.2.2.1,h.2.2.2.2⟩:dr)
  |none=>none
 |5,l=>match aL.dec dD (dT 5) l with
  |some h=>some (⟨h.1,h.2.1,h.2.2⟩:lE)
  |none=>none
 |6,l=>match aL.dec dD (dT 6) l with
  |some h=>some (⟨h.1,h.2.1,h.2.2.1,h.2.2.2⟩:kB)
  |none=>none
 |7,l=>match aL.dec dD (dT 7) l with
  |some h=>some (⟨h.1,h.2.1,h.2.2.1,h.2.2.2.1,h.2.2.2.2.1,h.2.2.2.2.2.1,h.2.2.2.2.2.2.1,h.2.2.2.2.2.2.2.1,h.2.2.2.2.2.2.2.2.1,h.2.2.2.2.2.2.2.2.2⟩:ah)
  |none=>none
 |8,l=>match aL.dec dD (dT 8) l with
  |some h=>some (⟨h.1,h.2⟩:c4)
  |none=>none
 |9,l=>match aL.dec dD (dT 9) l with
  |some h=>some (⟨h.1,h.2.1,h.2.2.1,h.2.2.2.1,h.2.2.2.2.1,(⟨h.2.2.2.2.2.1,h.2.2.2.2.2.2.1,h.2.2.2.2.2.2.2.1,h.2.2.2.2.2.2.2.2.1,h.2.2.2.2.2.2.2.2.2.1,h.2.2.2.2.2.2.2.2.2.2.1,h.2.2.2.2.2.2.2.2.2.2.2.1,h.2.2.2.2.2.2.2.2.2.2.2.2⟩:I)⟩:aS)
  |none=>none
 |10,l=>match aL.dec dD (dT 10) l with
  |some h=>some (⟨h.1,h.2.1,h.2.2.1,h.2.2.2.1,h.2.2.2.2.1,h.2.2.2.2.2.1,h.2.2.2.2.2.2.1,h.2.2.2.2.2.2.2⟩:I)
  |none=>none
 |11,l=>match aL.dec dD (dT 11) l with
  |some h=>some (⟨h.1,h.2⟩:bY)
  |none=>none
 |12,l=>match aL.dec dD (dT 12) l with
  |some h=>some (⟨h⟩:aR)
  |none=>none
 |13,l=>match aL.dec dD (dT 13) l with
  |some h=>some (⟨(⟨h.1⟩:aR),h.2⟩:dh)
  |none=>none
 |14,l=>match aL.dec dD (dT 14) l with
  |some h=>some (⟨h.1,h.2.1,h.2.2⟩:cQ)
  |none=>none
 |15,l=>match aL.dec dD (dT 15) l with
  |some h=>some (⟨h.1,h.2⟩:iT)
  |none=>none
 |16,l=>match aL.dec dD (dT 16) l with
  |some h=>some (⟨h.1,h.2⟩:iI)
  |none=>none
 |17,l=>match aL.dec dD (dT 17) l with
  |some h=>some (⟨h.1,h.2⟩:gr)
  |none=>none
 |18,l=>match aL.dec dD (dT 18) l with
  |some h=>some (⟨(⟨h.1,h.2.1,h.2.2.1,h.2.2.2.1,h.2.2.2.2.1,h.2.2.2.2.2.1,h.2.2.2.2.2.2.1,h.2.2.2.2.2.2.2.1⟩:I),(⟨h.2.2.2.2.2.2.2.2.1,h.2.2.2.2.2.2.2.2.2.1,h.2.2.2.2.2.2.2.2.2.2.1,h.2.2.2.2.2.2.2.2.2.2.2.1,h.2.2.2.2.2.2.2.2.2.2.2.2.1,h.2.2.2.2.2.2.2.2.2.2.2.2.2.1,h.2.2.2.2.2.2.2.2.2.2.2.2.2.2.1,h.2.2.2.2.2.2.2.2.2.2.2.2.2.2.2.1⟩:I),h.2.2.2.2.2.2.2.2.2.2.2.2.2.2.2.2⟩:eS)
  |none=>none
 |19,l=>match aL.dec dD (dT 19) l with
  |some h=>some (⟨(⟨h.1,h.2.1,h.2.2.1,h.2.2.2.1,h.2.2.2.2.1,h.2.2.2.2.2.1,h.2.2.2.2.2.2.1,h.2.2.2.2.2.2.2.1⟩:I),(⟨h.2.2.2.2.2.2.2.2.1,h.2.2.2.2.2.2.2.2.2.1⟩:iT),h.2.2.2.2.2.2.2.2.2.2⟩:cS)
  |none=>none
 |20,l=>match aL.dec dD (dT 20) l with
  |some h=>some (⟨(⟨h.1,h.2.1,h.2.2.1,h.2.2.2.1,h.2.2.2.2.1,h.2.2.2.2.2.1,h.2.2.2.2.2.2.1,h.2.2.2.2.2.2.2.1⟩:I),h.2.2.2.2.2.2.2.2.1,h.2.2.2.2.2.2.2.2.2⟩:dI)
  |none=>none
 |21,l=>match aL.dec dD (dT 21) l with
  |some h=>some (⟨(⟨h.1,h.2.1,h.2.2.1,h.2.2.2.1,h.2.2.2.2.1,h.2.2.2.2.2.1,h.2.2.2.2.2.2.1,h.2.2.2.2.2.2.2.1⟩:I),(⟨h.2.2.2.2.2.2.2.2.1,h.2.2.2.2.2.2.2.2.2.1,h.2.2.2.2.2.2.2.2.2.2.1,h.2.2.2.2.2.2.2.2.2.2.2.1,h.2.2.2.2.2.2.2.2.2.2.2.2.1,h.2.2.2.2.2.2.2.2.2.2.2.2.2.1,h.2.2.2.2.2.2.2.2.2.2.2.2.2.2.1,h.2.2.2.2.2.2.2.2.2.2.2.2.2.2.2.1⟩:I),h.2.2.2.2.2.2.2.2.2.2.2.2.2.2.2.2⟩:kC)
  |none=>none
 |22,l=>match aL.dec dD (dT 22) l with
  |some h=>some (⟨h.1,h.2⟩:y7)
  |none=>none
 |_+23,l=>match aL.dec dD [.bool] l with
  |some (h:Bool)=>some h
  |none=>none
def QJ(x:lE):List T:=[.int .u8 x.ae,.int .u8 x.aw,.int .u8 x.gV]
def xp(x:dr):List T:=[.int .u8 x.Kind,.int .u8 x.A,.int .u8 x.B,.int .u8 x.C,.slice (x.c0.map QJ)]
def afO(x:ek):List T:=[.slice (x.ec.map xp)]
def afP(x:k2):List T:=[.slice (x.S.ec.map xp),.int .u8 x.T,.slice (x.C.map (λy=>[.int .u8 y]))]
def xo(x:kB):List T:=[.int .u8 x.Kind,.int .u8 x.Node,.int .u8 x.A,.int .u8 x.B]
def afR(x:mr):List T:=[.slice (x.D.S.ec.map xp),.int .u8 x.D.T,.slice (x.D.C.map (λy=>[.int .u8 y])),.slice (x.L.map xo)]
def afT(x:np):List T:=[.slice (x.C.D.S.ec.map xp),.int .u8 x.C.D.T,.slice (x.C.D.C.map (λy=>[.int .u8 y])),.slice (x.C.L.map xo),.bool x.wR]
def QI(x:c4):List T:=[.int .i64 x.ae,.str x.Name]
def nc(x:bY):List T:=[.int .i64 x.ae,.str x.Data]
def I.eta(x:I):I:=⟨x.Kind,x.bL,x.bc,x.bn,x.ae,x.av,x.ai,x.Rest⟩
theorem I.aU(x:I):x.eta=x:=by cases x;rfl
mutual
def h5:I->List T
 |⟨a0,a1,a2,a3,a4,a5,a,c⟩=>[.int .i64 a0,.bool a1,.int .i64 a2,.str a3,.int .i64 a4,.slice (xn a5),.slice (xn a),.slice (c.map nc)]
def xn:List I->List (List T)
 |[]=>[]
 |v::r=>h5 v::xn r
end
theorem SH:∀l,xn l=l.map h5
 |[]=>rfl
 |v::r=>by simp only[xn,List.map];rw[SH r]
theorem Y1(x:I):h5 x=[.int .i64 x.Kind,.bool x.bL,.int .i64 x.bc,.str x.bn,.int .i64 x.ae,.slice (x.av.map h5),.slice (x.ai.map h5),.slice (x.Rest.map nc)]:=by cases x;simp only[h5,SH]
def QH(x:aS):List T:=[.int .i64 x.ae,.str x.Name,.int .i64 x.aw,.bool x.cp,.bool x.bZ,.int .i64 x.bw.Kind,.bool x.bw.bL,.int .i64 x.bw.bc,.str x.bw.bn,.int .i64 x.bw.ae,.slice (x.bw.av.map h5),.slice (x.bw.ai.map h5),.slice (x.bw.Rest.map nc)]
def ES(x:ah):List T:=[.int .i64 x.Kind,.str x.Name,.int .i64 x.bA,.int .i64 x.bC,.int .i64 x.Max,.slice (x.bg.map QI),.slice (x.ag.map QH),.int .i64 x.Key,.int .i64 x.aG,.bool x.Open]
def afN(x:aR):List T:=[.slice (x.Types.map ES)]
def afM(x:dh):List T:=[.slice (x.cU.Types.map ES),.int .i64 x.aw]
def afL(x:cQ):List T:=[.int .i64 x.ae,.bool x.cp,.str x.Data]
def afK(x:iT):List T:=[.slice (x.Path.map (λy=>[.int .i64 y])),.int .i64 x.Reason]
def afJ(x:iI):List T:=[.int .i64 x.t,.int .i64 x.number]
def afI(x:gr):List T:=[.int .i64 x.id,.str x.text]
def afH(x:eS):List T:=[.int .i64 x.v.Kind,.bool x.v.bL,.int .i64 x.v.bc,.str x.v.bn,.int .i64 x.v.ae,.slice (x.v.av.map h5),.slice (x.v.ai.map h5),.slice (x.v.Rest.map nc),.int .i64 x.u.Kind,.bool x.u.bL,.int .i64 x.u.bc,.str x.u.bn,.int .i64 x.u.ae,.slice (x.u.av.map h5),.slice (x.u.ai.map h5),.slice (x.u.Rest.map nc),.str x.message]
def afQ(x:cS):List T:=[.int .i64 x.Value.Kind,.bool x.Value.bL,.int .i64 x.Value.bc,.str x.Value.bn,.int .i64 x.Value.ae,.slice (x.Value.av.map h5),.slice (x.Value.ai.map h5),.slice (x.Value.Rest.map nc),.slice (x.dO.Path.map (λy=>[.int .i64 y])),.int .i64 x.dO.Reason,.bool x.ck]
def afS(x:dI):List T:=[.int .i64 x.Value.Kind,.bool x.Value.bL,.int .i64 x.Value.bc,.str x.Value.bn,.int .i64 x.Value.ae,.slice (x.Value.av.map h5),.slice (x.Value.ai.map h5),.slice (x.Value.Rest.map nc),.slice (x.Path.map (λy=>[.int .i64 y])),.bool x.ck]
def afU(x:kC):List T:=[.int .i64 x.V.Kind,.bool x.V.bL,.int .i64 x.V.bc,.str x.V.bn,.int .i64 x.V.ae,.slice (x.V.av.map h5),.slice (x.V.ai.map h5),.slice (x.V.Rest.map nc),.int .i64 x.U.Kind,.bool x.U.bL,.int .i64 x.U.bc,.str x.U.bn,.int .i64 x.U.ae,.slice (x.U.av.map h5),.slice (x.U.ai.map h5),.slice (x.U.Rest.map nc),.str x.Message]
def afV(x:y7):List T:=[.slice (x.IJ.map xo),.slice (x.gB.map xo)]
def ag8:(n:Nat)->dD n->List T
 |0,x=>afT x
 |1,x=>afR x
 |2,x=>afP x
 |3,x=>afO x
 |4,x=>xp x
 |5,x=>QJ x
 |6,x=>xo x
 |7,x=>ES x
 |8,x=>QI x
 |9,x=>QH x
 |10,x=>h5 x
 |11,x=>nc x
 |12,x=>afN x
 |13,x=>afM x
 |14,x=>afL x
 |15,x=>afK x
 |16,x=>afJ x
 |17,x=>afI x
 |18,x=>afH x
 |19,x=>afQ x
 |20,x=>afS x
 |21,x=>afU x
 |22,x=>afV x
 |_+23,(x:Bool)=>[.bool x]
def cN:cK where
 D:=dD
 kb:=λn=>match n with
  |0=>WK
  |1=>R1
  |2=>SC
  |3=>SB
  |4=>br
  |5=>ja
  |6=>nT
  |7=>aN
  |8=>dL
  |9=>aE
  |10=>au
  |11=>bX
  |12=>KF
  |13=>H8
  |14=>gj
  |15=>Ka
  |16=>HL
  |17=>uY
  |18=>VK
  |19=>V9
  |20=>Vr
  |21=>Vs
  |22=>aaL
  |_+23=>false
 oO:=ag9
 make:=cR
 db:=dT
 enc:=ag8
 QL:=λn x=>match n,x with
  |0,_=>rfl
  |1,_=>rfl
  |2,_=>rfl
  |3,_=>rfl
  |4,_=>rfl
  |5,_=>rfl
  |6,_=>rfl
  |7,_=>rfl
  |8,_=>rfl
  |9,_=>rfl
  |10,x=>Y1 x
  |11,_=>rfl
  |12,_=>rfl
  |13,_=>rfl
  |14,_=>rfl
  |15,_=>rfl
  |16,_=>rfl
  |17,_=>rfl
  |18,_=>rfl
  |19,_=>rfl
  |20,_=>rfl
  |21,_=>rfl
  |22,_=>rfl
  |_+23,_=>rfl
 mk_eq:=λn l x h=>match n,x,h with
  |0,x,h=>by
   simp only[cR]at h;split at h
   . rename_i aa a;cases h;exact aL.fb a
   . cases h
  |1,x,h=>by
   simp only[cR]at h;split at h
   . rename_i aa a;cases h;exact aL.fb a
   . cases h
  |2,x,h=>by
   simp only[cR]at h;split at h
   . rename_i aa a;cases h;exact aL.fb a
   . cases h
  |3,x,h=>by
   simp only[cR]at h;split at h
   . rename_i aa a;cases h;exact aL.fb a
   . cases h
  |4,x,h=>by
   simp only[cR]at h;split at h
   . rename_i aa a;cases h;exact aL.fb a
   . cases h
  |5,x,h=>by
   simp only[cR]at h;split at h
   . rename_i aa a;cases h;exact aL.fb a
   . cases h
  |6,x,h=>by
   simp only[cR]at h;split at h
   . rename_i aa a;cases h;exact aL.fb a
   . cases h
  |7,x,h=>by
   simp only[cR]at h;split at h
   . rename_i aa a;cases h;exact aL.fb a
   . cases h
  |8,x,h=>by
   simp only[cR]at h;split at h
   . rename_i aa a;cases h;exact aL.fb a
   . cases h
  |9,x,h=>by
   simp only[cR]at h;split at h
   . rename_i aa a;cases h;exact aL.fb a
   . cases h
  |10,x,h=>by
   simp only[cR]at h;split at h
   . rename_i aa a;cases h;exact aL.fb a
   . cases h
  |11,x,h=>by
   simp only[cR]at h;split at h
   . rename_i aa a;cases h;exact aL.fb a
   . cases h
  |12,x,h=>by
   simp only[cR]at h;split at h
   . rename_i aa a;cases h;exact aL.fb a
   . cases h
  |13,x,h=>by
   simp only[cR]at h;split at h
   . rename_i aa a;cases h;exact aL.fb a
   . cases h
  |14,x,h=>by
   simp only[cR]at h;split at h
   . rename_i aa a;cases h;exact aL.fb a
   . cases h
  |15,x,h=>by
   simp only[cR]at h;split at h
   . rename_i aa a;cases h;exact aL.fb a
   . cases h
  |16,x,h=>by
   simp only[cR]at h;split at h
   . rename_i aa a;cases h;exact aL.fb a
   . cases h
  |17,x,h=>by
   simp only[cR]at h;split at h
   . rename_i aa a;cases h;exact aL.fb a
   . cases h
  |18,x,h=>by
   simp only[cR]at h;split at h
   . rename_i aa a;cases h;exact aL.fb a
   . cases h
  |19,x,h=>by
   simp only[cR]at h;split at h
   . rename_i aa a;cases h;exact aL.fb a
   . cases h
  |20,x,h=>by
   simp only[cR]at h;split at h
   . rename_i aa a;cases h;exact aL.fb a
   . cases h
  |21,x,h=>by
   simp only[cR]at h;split at h
   . rename_i aa a;cases h;exact aL.fb a
   . cases h
  |22,x,h=>by
   simp only[cR]at h;split at h
   . rename_i aa a;cases h;exact aL.fb a
   . cases h
  |_+23,x,h=>by
   simp only[cR]at h;split at h
   . rename_i aa a;cases h;exact aL.fb a
   . cases h
 RA:=λn x=>match n,x with
  |0,_=>rfl
  |1,_=>rfl
  |2,_=>rfl
  |3,_=>rfl
  |4,_=>rfl
  |5,_=>rfl
  |6,_=>rfl
  |7,_=>rfl
  |8,_=>rfl
  |9,_=>rfl
  |10,_=>rfl
  |11,_=>rfl
  |12,_=>rfl
  |13,_=>rfl
  |14,_=>rfl
  |15,_=>rfl
  |16,_=>rfl
  |17,_=>rfl
  |18,_=>rfl
  |19,_=>rfl
  |20,_=>rfl
  |21,_=>rfl
  |22,_=>rfl
  |_+23,_=>rfl
 Rz:=λe=>match e with
  |3=>some (.int .i64)
  |5=>some (.int .u8)
  |9=>some .str
  |37=>some (.nm 13)
  |48=>some (.nm 10)
  |85=>some (.nm 9)
  |88=>some (.slice (.int .i64))
  |112=>some (.nm 7)
  |117=>some (.nm 11)
  |140=>some (.nm 5)
  |146=>some (.nm 8)
  |196=>some (.nm 16)
  |236=>some (.nm 14)
  |276=>some (.nm 17)
  |_=>none
 own:=[([false,false,true,true],2,.int .i64),([false,true,true,false],1,.int .i64),([false,false,true],2,.slice (.int .i64))]
 pos:=λn=>match n with
  |0=>by decide
  |1=>by decide
  |2=>by decide
  |3=>by decide
  |4=>by decide
  |5=>by decide
  |6=>by decide
  |7=>by decide
  |8=>by decide
  |9=>by decide
  |10=>by decide
  |11=>by decide
  |12=>by decide
  |13=>by decide
  |14=>by decide
  |15=>by decide
  |16=>by decide
  |17=>by decide
  |18=>by decide
  |19=>by decide
  |20=>by decide
  |21=>by decide
  |22=>by decide
  |_+23=>Nat.zero_lt_one
theorem adI:cN.Total:=λn l h=>match n,h with
 |0,h=>by
  obtain⟨x,a⟩:=aL.gL (D:=dD) (ts:=dT 0) h;exact⟨_,by show cR 0 l=_;simp only[cR,a];rfl⟩
 |1,h=>by
  obtain⟨x,a⟩:=aL.gL (D:=dD) (ts:=dT 1) h;exact⟨_,by show cR 1 l=_;simp only[cR,a];rfl⟩
 |2,h=>by
  obtain⟨x,a⟩:=aL.gL (D:=dD) (ts:=dT 2) h;exact⟨_,by show cR 2 l=_;simp only[cR,a];rfl⟩
 |3,h=>by
  obtain⟨x,a⟩:=aL.gL (D:=dD) (ts:=dT 3) h;exact⟨_,by show cR 3 l=_;simp only[cR,a];rfl⟩
 |4,h=>by
  obtain⟨x,a⟩:=aL.gL (D:=dD) (ts:=dT 4) h;exact⟨_,by show cR 4 l=_;simp only[cR,a];rfl⟩
 |5,h=>by
  obtain⟨x,a⟩:=aL.gL (D:=dD) (ts:=dT 5) h;exact⟨_,by show cR 5 l=_;simp only[cR,a];rfl⟩
 |6,h=>by
  obtain⟨x,a⟩:=aL.gL (D:=dD) (ts:=dT 6) h;exact⟨_,by show cR 6 l=_;simp only[cR,a];rfl⟩
 |7,h=>by
  obtain⟨x,a⟩:=aL.gL (D:=dD) (ts:=dT 7) h;exact⟨_,by show cR 7 l=_;simp only[cR,a];rfl⟩
 |8,h=>by
  obtain⟨x,a⟩:=aL.gL (D:=dD) (ts:=dT 8) h;exact⟨_,by show cR 8 l=_;simp only[cR,a];rfl⟩
 |9,h=>by
  obtain⟨x,a⟩:=aL.gL (D:=dD) (ts:=dT 9) h;exact⟨_,by show cR 9 l=_;simp only[cR,a];rfl⟩
 |10,h=>by
  obtain⟨x,a⟩:=aL.gL (D:=dD) (ts:=dT 10) h;exact⟨_,by show cR 10 l=_;simp only[cR,a];rfl⟩
 |11,h=>by
  obtain⟨x,a⟩:=aL.gL (D:=dD) (ts:=dT 11) h;exact⟨_,by show cR 11 l=_;simp only[cR,a];rfl⟩
 |12,h=>by
  obtain⟨x,a⟩:=aL.gL (D:=dD) (ts:=dT 12) h;exact⟨_,by show cR 12 l=_;simp only[cR,a];rfl⟩
 |13,h=>by
  obtain⟨x,a⟩:=aL.gL (D:=dD) (ts:=dT 13) h;exact⟨_,by show cR 13 l=_;simp only[cR,a];rfl⟩
 |14,h=>by
  obtain⟨x,a⟩:=aL.gL (D:=dD) (ts:=dT 14) h;exact⟨_,by show cR 14 l=_;simp only[cR,a];rfl⟩
 |15,h=>by
  obtain⟨x,a⟩:=aL.gL (D:=dD) (ts:=dT 15) h;exact⟨_,by show cR 15 l=_;simp only[cR,a];rfl⟩
 |16,h=>by
  obtain⟨x,a⟩:=aL.gL (D:=dD) (ts:=dT 16) h;exact⟨_,by show cR 16 l=_;simp only[cR,a];rfl⟩
 |17,h=>by
  obtain⟨x,a⟩:=aL.gL (D:=dD) (ts:=dT 17) h;exact⟨_,by show cR 17 l=_;simp only[cR,a];rfl⟩
 |18,h=>by
  obtain⟨x,a⟩:=aL.gL (D:=dD) (ts:=dT 18) h;exact⟨_,by show cR 18 l=_;simp only[cR,a];rfl⟩
 |19,h=>by
  obtain⟨x,a⟩:=aL.gL (D:=dD) (ts:=dT 19) h;exact⟨_,by show cR 19 l=_;simp only[cR,a];rfl⟩
 |20,h=>by
  obtain⟨x,a⟩:=aL.gL (D:=dD) (ts:=dT 20) h;exact⟨_,by show cR 20 l=_;simp only[cR,a];rfl⟩
 |21,h=>by
  obtain⟨x,a⟩:=aL.gL (D:=dD) (ts:=dT 21) h;exact⟨_,by show cR 21 l=_;simp only[cR,a];rfl⟩
 |22,h=>by
  obtain⟨x,a⟩:=aL.gL (D:=dD) (ts:=dT 22) h;exact⟨_,by show cR 22 l=_;simp only[cR,a];rfl⟩
 |m+23,h=>by
  obtain⟨x,a⟩:=aL.gL (D:=dD) (ts:=[.bool]) h;exact⟨x,by show cR (m+23) l=_;simp only[cR,a];rfl⟩
end
section
open Go Go.Proofs.YtdjagncoefjfeaaGreat.Shv
open Tryz
set_option maxRecDepth 100000
open Go.Proofs Go.Proofs.YtdjagncoefjfeaaGreat Go.Shelf
theorem Uz:hF prog 134=true:=by kernel_rfl
def o2:cB cN:=DY cN 134 (.int .i64) 8
theorem U3:hV prog o2:=YV (sz:=1) (bytes:=8) (z:=[.t (.int .i64 0)]) func134 (by kernel_rfl) (by kernel_rfl) (by kernel_rfl) rfl rfl
theorem nN:gW prog o2:=⟨Uz,U3⟩
theorem Vt:hF prog 179=true:=by kernel_rfl
def o4:cB cN:=vQ cN 179 (.nm 10) 120
theorem UE:hV prog o4:=Hn (sz:=8) (bytes:=120) (z:=[.t (.int .i64 0),.t (.bool false),.t (.int .i64 0),.t (.str []),.t (.int .i64 0),.ay,.ay,.ay]) func179 (by kernel_rfl) (by kernel_rfl) (by kernel_rfl) rfl rfl
theorem nU:gW prog o4:=⟨Vt,UE⟩
theorem Vu:hF prog 245=true:=by kernel_rfl
def o5:cB cN:=vQ cN 245 (.nm 11) 24
theorem UF:hV prog o5:=Hn (sz:=2) (bytes:=24) (z:=[.t (.int .i64 0),.t (.str [])]) func245 (by kernel_rfl) (by kernel_rfl) (by kernel_rfl) rfl rfl
theorem o6:gW prog o5:=⟨Vu,UF⟩
instance:Inhabited gr:=⟨uY⟩
instance:Inhabited (cN.D 17):=⟨uY⟩
def lu(x y:gr):Bool:=decide (x.id<y.id)
def Ge(l:List gr):Option (List gr):=some (hP lu l)
section
open Go.Proofs Go.Proofs.YtdjagncoefjfeaaGreat Go.Sort Go.RowKit Go.Lib
theorem agU(x:Int)(w:World):Calls prog 250 #[.int .i64 x] w λe w'=>e= .returned (.bool false)/\w'=w:=by
 go_enter func250,ntmps250
 go_wp2
 go_ret
 exact⟨by simp,rfl⟩
set_option maxHeartbeats 1000000 in
theorem agT(x y:Int)(w:World):Calls prog 227 #[.int .i64 x,.int .i64 y] w λe w'=>e= .returned (.int .i64 (Lib.compareInt x y))/\w'=w:=by
 go_enter func227,ntmps227
 go_wp2_with (go_at_call 250;refine(agU _ _).mono ?_;rintro e w' ⟨rfl,a⟩;rw[a])
 all_goals (go_ret;refine⟨?_,rfl⟩;unfold Lib.compareInt;(repeat' split)<;>first|rfl|(exfalso;omega))
def Ar(x:gr):List Value:=[.int .i64 x.id,.string ⟨x.text.toArray⟩]
set_option maxHeartbeats 1000000 in
theorem agS(x y:Int)(s t:ByteArray)(W:World):Calls prog 226 #[.agg #[.int .i64 x,.string s],.agg #[.int .i64 y,.string t]] W λe w'=>e= .returned (.int .i64 (Lib.compareInt x y))/\∃q c,w'=grow (W.drewN q) c:=by
 have a:=λb=>agT x y b;generalize Lib.compareInt x y=r at a⊢
 go_enter func226,ntmps226
 go_wp2_with (go_at_call 227;refine(a _).mono ?_;rintro e w' ⟨rfl,rfl⟩)
 go_ret
 exact⟨rfl,0,_,by rw[alloc_eq_grow,alloc_eq_grow,grow_grow];rfl⟩
def KG:Go.Shelf.Ren:=⟨λ|6=>225|15=>249|14=>248|28=>263|29=>264|20=>255|21=>256|22=>257|23=>258|24=>259|25=>260|26=>261|27=>262|46=>265|47=>266|48=>267|49=>268|50=>269|57=>270|n=>n,λ|22=>274|24=>276|25=>279|3=>3|39=>269|0=>0|53=>305|55=>114|4=>4|46=>299|45=>298|50=>118|5=>5|9=>9|66=>307|70=>311|76=>313|77=>314|n=>n,λ|n=>n⟩
theorem QW:SlLaysF0.n6 prog KG:={
 mixed:=by kernel_rfl
 f6:=⟨f225.name,by decide,func225.trans (ep some (by kernel_rfl))⟩
 f14:=⟨f248.name,by decide,func248.trans (ep some (by kernel_rfl))⟩
 f15:=func249.trans (ep some (by kernel_rfl))
 f20:=⟨f255.name,by decide,func255.trans (ep some (by kernel_rfl))⟩
 f21:=⟨f256.name,by decide,func256.trans (ep some (by kernel_rfl))⟩
 f22:=⟨f257.name,by decide,func257.trans (ep some (by kernel_rfl))⟩
 f23:=⟨f258.name,by decide,func258.trans (ep some (by kernel_rfl))⟩
 f24:=⟨f259.name,by decide,func259.trans (ep some (by kernel_rfl))⟩
 f25:=⟨f260.name,by decide,func260.trans (ep some (by kernel_rfl))⟩
 f26:=⟨f261.name,by decide,func261.trans (ep some (by kernel_rfl))⟩
 f27:=⟨f262.name,by decide,func262.trans (ep some (by kernel_rfl))⟩
 f28:=func263.trans (ep some (by kernel_rfl))
 f29:=func264.trans (ep some (by kernel_rfl))
 f46:=⟨f265.name,by decide,func265.trans (ep some (by kernel_rfl))⟩
 f47:=func266.trans (ep some (by kernel_rfl))
 f48:=func267.trans (ep some (by kernel_rfl))
 f49:=⟨f268.name,by decide,func268.trans (ep some (by kernel_rfl))⟩
 f50:=⟨f269.name,by decide,func269.trans (ep some (by kernel_rfl))⟩
 f57:=⟨f270.name,by decide,func270.trans (ep some (by kernel_rfl))⟩
 t0:=underlying0
 a0:=isAgg0
 z0:=sizeOf0
 v0:=zeroValue0
 t3:=underlying3
 a3:=isAgg3
 z3:=sizeOf3
 v3:=zeroValue3
 t4:=underlying4
 a4:=isAgg4
 z4:=sizeOf4
 v4:=zeroValue4
 t5:=underlying5
 a5:=isAgg5
 z5:=sizeOf5
 v5:=zeroValue5
 t9:=underlying9
 a9:=isAgg9
 z9:=sizeOf9
 v9:=zeroValue9
 t22:=underlying274
 a22:=isAgg274
 z22:=sizeOf274
 v22:=zeroValue274
 t25:=underlying279
 a25:=isAgg279
 z25:=sizeOf279
 v25:=zeroValue279
 t39:=underlying269
 a39:=isAgg269
 z39:=sizeOf269
 v39:=zeroValue269
 t45:=underlying298
 a45:=isAgg298
 z45:=sizeOf298
 v45:=zeroValue298
 t46:=underlying299
 a46:=isAgg299
 z46:=sizeOf299
 v46:=zeroValue299
 t50:=underlying118
 a50:=isAgg118
 z50:=sizeOf118
 v50:=zeroValue118
 t53:=underlying305
 a53:=isAgg305
 z53:=sizeOf305
 v53:=zeroValue305
 t55:=underlying114
 a55:=isAgg114
 z55:=sizeOf114
 v55:=zeroValue114
 t66:=underlying307
 a66:=isAgg307
 z66:=sizeOf307
 v66:=zeroValue307
 t70:=underlying311
 a70:=isAgg311
 z70:=sizeOf311
 v70:=zeroValue311
 t76:=underlying313
 a76:=isAgg313
 z76:=sizeOf313
 v76:=zeroValue313
 t77:=underlying314
 a77:=isAgg314
 z77:=sizeOf314
 v77:=zeroValue314}
theorem JD:ltOf (λx y:gr=>Lib.compareInt x.id y.id)=lu:=by
 funext x y
 unfold ltOf lu Lib.compareInt;by_cases h1:x.id<y.id
 . simp[h1]
 . by_cases a:y.id<x.id<;>simp[h1,a]
theorem FR:SWO lu:=ab3 (λx:gr=>x.id)
set_option maxHeartbeats 2000000 in
theorem agW(p:Option Addr)(cap:Nat)(a:Value)(w:World):Calls prog 255 #[.slice p 0 cap,.int .i64 0,.int .i64 0,a] w λe w'=>e= .returned (.tuple #[])/\w'=w:=by
 go_enter func255,ntmps255
 go_wp2
 refine wp_loop_rounds 1 ?_;rw[rounds_succ]
 go_wp2
 go_end0
 exact⟨rfl,rfl⟩
set_option maxHeartbeats 2000000 in
theorem agX(p:Option Addr)(cap:Nat)(c:Int)(a:Value)(w:World):Calls prog 248 #[.slice p 0 cap,.int .i64 0,.int .i64 0,.int .i64 c,a] w λe w'=>e= .returned (.tuple #[])/\w'=w:=by
 have b:=λW=>agW p cap a W
 go_enter func248,ntmps248
 go_wp2
 refine wp_loop_rounds 1 ?_;rw[rounds_succ]
 go_wp2_with (go_at_call 255;refine(b _).mono ?_;rintro e w' ⟨rfl,rfl⟩)
 (try simp only[Exit.inBlock,Exit.then]);refine bodyPost_ret (results_none rfl _ _ _) rfl ?_
 exact⟨rfl,rfl⟩
set_option maxHeartbeats 2000000 in
theorem agV(p:Option Addr)(cap:Nat)(a:Value)(w:World):Calls prog 225 #[.slice p 0 cap,a] w λe w'=>e= .returned (.tuple #[])/\w'=w:=by
 have b:=λc W=>agX p cap c a W;have af:∀W,Calls prog 249 #[.int .u64 0] W λe w'=>e= .returned (.int .i64 (Lib.bitLen 0:Nat))/\w'=W:=λW=>by
  have h:=Any.bits_Len (SlLaysF0.n15.bits (P:=prog) (ρ:=KG) {QW with}) 0 W (by omega) (by omega);exact h
 go_enter func225,ntmps225
 go_wp2_with (first|(go_at_call 249;refine(af _).mono ?_;rintro e w' ⟨rfl,rfl⟩)|(go_at_call 248;refine(b _ _).mono ?_;rintro e w' ⟨rfl,rfl⟩))
 go_end0
 exact⟨rfl,rfl⟩
theorem agY(blk off cap:Nat)(d:Array (cN.D 17))(w:World)(c:HoldsK Ar 2 w blk off d)(f:blk<w.heap.size)(g:d.size<4611686018427387904):
 Calls prog 225 #[.slice (some ⟨blk,off,none⟩) d.size cap,.func (.func 226) #[] #[]] w λe w'=>e= .returned (.tuple #[])/\∃n os,w'=sortWorldK Ar 2 w blk off n (pdq lu d 0 d.size (Lib.bitLen d.size) true true) os:=by
 have b:∀args w,(callFunc 226 args).run prog w= .ok (.enter 226 args) w:=enters_of func226 (by kernel_rfl) rfl;have h:=AnyQ.slices_SortFunc_eq (α:=gr) QW 2 isAgg276 sizeOf276 Ar (λ_=>rfl) (λx v a=>by simp[Ar]at a;rcases a with rfl|rfl<;>rfl) (λx y=>Lib.compareInt x.id y.id) (by rw[JD];exact FR) 226 #[] blk off cap d w b (λ_ _ _ _ x y=>agS x.id y.id _ _ _) c f g;rw[JD]at h;exact h
theorem acZ:hF prog 225=true:=by kernel_rfl
def GQ:cB cN:=FQ cN 225 17 226 (hP (α:=cN.D 17) lu)
theorem WL:hV prog GQ:=abC (U:=cN) (n:=17) Ar lu FR (λ_=>rfl) (λw S x j t v h a=>Y0 w S x.id x.text j t v h a) agY agV
end
theorem GR:gW prog GQ:=⟨acZ,WL⟩
def IP:Go.Shelf.Ren:=⟨λ|240=>229|276=>251|n=>n,λ|0=>0|4=>4|9=>9|20=>20|37=>25|70=>250|72=>252|164=>294|n=>n,λn=>n⟩
theorem agh:Lays.n240 prog IP:={
 mixed:=by kernel_rfl
 f240:=func229.trans (ep some (by kernel_rfl))
 f276:=func251.trans (ep some (by kernel_rfl))
 t0:=underlying0
 a0:=isAgg0
 z0:=sizeOf0
 v0:=zeroValue0
 t4:=underlying4
 a4:=isAgg4
 z4:=sizeOf4
 v4:=zeroValue4
 t9:=underlying9
 a9:=isAgg9
 z9:=sizeOf9
 v9:=zeroValue9
 t20:=underlying20
 a20:=isAgg20
 z20:=sizeOf20
 v20:=zeroValue20
 t70:=underlying250
 a70:=isAgg250
 z70:=sizeOf250
 v70:=zeroValue250
 t72:=underlying252
 a72:=isAgg252
 z72:=sizeOf252
 v72:=zeroValue252
 t164:=underlying294
 a164:=isAgg294
 z164:=sizeOf294
 v164:=zeroValue294}
theorem agi:Builder.X72 prog IP:={
 sizeBuilder:=by kernel_rfl
 liesBuilder:=by kernel_rfl}
theorem ac0:hF prog 229=true:=by kernel_rfl
def pI:cB cN:=DZ cN 229 252 5
theorem VL:hV prog pI:=Zy agh agi rfl rfl
theorem rf:gW prog pI:=⟨ac0,VL⟩
theorem Vv:hF prog 134=true:=by kernel_rfl
def o7:cB cN:=vQ cN 134 (.int .i64) 8
theorem UG:hV prog o7:=Hn (sz:=1) (bytes:=8) (z:=[.t (.int .i64 0)]) func134 (by kernel_rfl) (by kernel_rfl) (by kernel_rfl) rfl rfl
theorem s0:gW prog o7:=⟨Vv,UG⟩
end
section
open Go Go.Proofs.YtdjagncoefjfeaaGreat.Shv
open Tryz
set_option maxRecDepth 100000
abbrev a6(e:ev)(F:aL cN.D e.ts->Option (aL cN.D e.us)):Prop:=gW prog (e.s F)
abbrev cM(f kk:Nat)(p:a7)(e:gp)(F:aL cN.D e.ts->Option (eA cN e.outs)):Prop:=mX prog f kk p e F
abbrev OX(e:ev):Prop:=iC prog e
abbrev dU(e:ev):aL cN.D e.ts->aL cN.D e.us->Prop:=AV prog cN e
abbrev ey(f kk:Nat)(p:a7)(e:gp):aL cN.D e.ts->eA cN e.outs->Prop:=wS prog cN f kk p e
abbrev dY(e:ev)(F:aL cN.D e.ts->Option (aL cN.D e.us)):Prop:=∀h r,F h=some r->dU e h r
abbrev ez(f kk:Nat)(p:a7)(e:gp)(F:aL cN.D e.ts->Option (eA cN e.outs)):Prop:=∀h r,F h=some r->ey f kk p e h r
variable{fs:List (cB cN)}{p:a7}{go:List dh->Option Int}{gc:dh×dh×aj->Option (eS×Int)}
theorem eb{e:ev}{h:aL cN.D e.ts}{r:aL cN.D e.us}{x:Option (aL cN.D e.us)}(h0:x=some r)(b:jq prog fs:=by exact .n){a:List (Nat×gX cN)}(af:jD prog e.f e.st.length [] a:=by exact .n)(k:OX e:=by exact .m (by kernel_rfl))(c:p' (hL fs) (kO a) prog e h=x:=by kernel_rfl):dU e h r:= .at k b af (c.trans h0)
theorem eK(e:gp){f kk:Nat}{F:aL cN.D e.ts->Option (eA cN e.outs)}(bE:ez f kk p e F){h:aL cN.D e.ts}{o:eA cN e.outs}{x:Option (eA cN e.outs)}(h0:x=some o)(b:jq prog fs:=by exact .n){a:List (Nat×gX cN)}(af:jD prog f kk p a:=by exact .n)(c:qV (hL fs) (kO a) kk (p6 prog f p) e F h=x:=by kernel_rfl):ey f kk p e h o:= .at bE b af (c.trans h0)
theorem cg(e:ev){F:aL cN.D e.ts->Option (aL cN.D e.us)}(h:dY e F)(k:OX e:=by exact .m (by kernel_rfl)):a6 e F:= .of k h
theorem eL(e:gp){f kk:Nat}{F:aL cN.D e.ts->Option (eA cN e.outs)}(h:ez f kk p e F):cM f kk p e F:= .of h
def afj:=aV 68 [.row 3,aa ab] (aa ab)
def afk:=aV 69 [aa ab] (aa .bool)
def afl:=aV 70 [.row 4] (aa ab)
def afm:=aV 71 [.row 4] (aa ab)
def Qx:=bR 0 [(1,ar 0 0),(3,.c (.arr 1)),(4,aa ab)] [.bj 4,.arr ab] [bJ (.exit 0) [(3,.c (.arr 0))] [.arr ab]] [] [(.slot 3,ab)]
def afn:=aV 72 [.row 4] (aa bI) [Qx]
def aey:=aV 146 [aa ab] (aa .bool)
def NZ:=bR 0 [(3,ar 0 0),(7,aa ab),(9,aa ab)] [cc (az 4)] [eV 6 ab,gx 0]
def aeg:=aV 109 [.row 3,aa ab,aa (.int .u8)] (aa ab) [NZ]
def aei:=aV 111 [aa ab] (aa .bool)
def Qz:=bR 0 [(1,aa (.int .u8)),(2,ar 0 0),(5,aa ab),(6,aa ab)] [cc (az 4)] [eV 4 ab,gx 0]
def afp:=aV 74 [.row 3,aa (.int .u8)] (aa ab) [Qz]
def aeh:=aV 110 [.row 3,aa ab,aa (.int .u8)] (.aY [.row 10,aa .bool])
def Na:=bR 0 [(1,aa ab),(2,aa .bool),(3,ar 0 0),(7,ar 1 0),(8,.c (.arr 2)),(9,aa ab),(10,aa ab)] [cc (az 4),.bj 4,.arr (.nm 9)] [bJ (.exit 2) [(1,aa ab),(2,aa .bool),(3,ar 0 0),(7,ar 1 0),(8,.c (.arr 2)),(9,aa ab)] [cc (az 4),.bj 4,.arr (.nm 9)]]
def Qy:=bR 0 [(1,aa ab),(2,aa .bool),(3,ar 0 0),(7,ar 1 0),(8,.c (.arr 2)),(9,aa ab)] [cc (az 4),.bj 4,.arr (.nm 9)] [bJ (.exit 0) [(8,.c (.arr 0))] [.arr (.nm 9)]] [Na] [(.slot 8,.nm 9)]
def afo:=aV 73 [.row 3,aa ab,aa .bool] (aa (az 9)) [Qy]
def Nb:=bR 0 [(1,ar 0 0),(2,ar 1 0),(4,aa ab),(5,ar 2 0),(6,aa ab),(8,ar 3 0),(9,aa bI),(10,aa ab)] [cc (az 4),.box [.ay],.box [.arr 4],.box [.hole ab,.hole .str,.hole ab,.hole ab,.hole ab,.arr 5,.ay,.hole ab,.hole ab,.hole .bool],.arr (.nm 7),.arr (.nm 8)] [bJ (.exit 3) [(1,ar 0 0),(2,ar 1 0),(4,aa ab),(5,ar 2 0),(6,aa ab),(8,ar 3 0)] [cc (az 4),.box [.ay],.box [.arr 4],.box [.hole ab,.hole .str,.hole ab,.hole ab,.hole ab,.arr 5,.ay,.hole ab,.hole ab,.hole .bool],.arr (.nm 7),.arr (.nm 8)]] [] [(.via 8 5,.nm 8)]
def Qn:=bR 0 [(1,ar 0 0),(2,ar 1 0),(4,aa ab),(5,ar 2 0),(6,aa ab)] [cc (az 4),.box [.ay],.box [.arr 3],.arr (.nm 7)] [bJ (.exit 0) [(2,ar 0 0),(5,ar 1 0)] [.box [.ay],.box [.arr 2],.arr (.nm 7)]] [Nb] [(.via 5 0,.nm 7)]
def ae4:=aV 34 [.row 3] (.aY [.row 12,aa .bool]) [Qn]
def aez:=aV 147 [ar 0 0,aa ab] (aa ab) [] [.box [.hole (az 7),.hole (.slice (.int .u8)),.hole .bool]] [.box [.hole (az 7),.hole (.slice (.int .u8)),.hole .bool]]
def N0:=bR 0 [(0,ar 0 0),(5,aa .str),(6,aa ab)] [.box [.hole (az 7),.hole (.slice (.int .u8)),.hole .bool]] [bJ (.exit 0) [(5,aa .str)] [.box [.hole (az 7),.hole (.slice (.int .u8)),.hole .bool]]]
def aeA:=aV 148 [ar 0 0,aa ab] (aa .str) [N0] [.box [.hole (az 7),.hole (.slice (.int .u8)),.hole .bool]] [.box [.hole (az 7),.hole (.slice (.int .u8)),.hole .bool]]
def aeB:=aV 149 [ar 0 0] (aa .bool) [] [.box [.hole (az 7),.hole (.slice (.int .u8)),.hole .bool]] [.box [.hole (az 7),.hole (.slice (.int .u8)),.hole .bool]]
def Qt:=bR 0 [(1,aa ab),(2,ar 0 0),(6,aa ab)] [.bj 7] [bJ .ret [(4,aa ab),(5,aa .bool)],gx 0]
def afd:=aV 53 [.row 7,aa ab] (.aY [aa ab,aa .bool]) [Qt]
def QC:=bR 0 [(1,aa ab),(2,ar 0 0),(6,aa ab)] [.bj 7] [bJ .ret [(4,aa ab),(5,aa .bool)],gx 0]
def afw:=aV 82 [.row 7,aa ab] (.aY [aa ab,aa .bool]) [QC]
def aeV:=aV 194 [.row 7,aa ab] (aa .bool)
def N1:=bR 0 [(3,ar 1 0),(5,aa ab)] [.box [.hole (az 7),.hole (.slice (.int .u8)),.hole .bool],.bj 7] [bJ (.exit 0) [(5,aa ab)] [.box [.hole (az 7),.hole (.slice (.int .u8)),.hole .bool]]]
def aeD:=aV 150 [ar 0 0,.row 7] (aa ab) [N1] [.box [.hole (az 7),.hole (.slice (.int .u8)),.hole .bool]] [.box [.hole (az 7),.hole (.slice (.int .u8)),.hole .bool]]
def aeE:=aV 151 [ar 0 0,aa ab] (.row 11) [] [.box [.hole (az 7),.hole (.slice (.int .u8)),.hole .bool]] [.box [.hole (az 7),.hole (.slice (.int .u8)),.hole .bool]]
def aeR:=aV 163 [aa .bool,aa .bool] (aa ab)
def afb:=aV 51 [aa ab] (aa (.int .u64))
def aet:=aV 128 [.row 10,.row 10] (aa ab)
def N2:=bR 0 [(3,ar 0 0),(4,ar 1 0),(5,ar 2 0),(6,ar 3 0),(7,aa ab)] [.bj 10,.bj 10,.bj 10,.box [.hole ab,.hole .bool,.hole ab,.hole .str,.hole ab,.ay,.ay,.ay]] [bJ (.exit 0) [(3,ar 0 0),(4,ar 1 0),(5,ar 2 0),(6,ar 3 0),(7,aa ab)] [.bj 10,.bj 10,.bj 10,.box [.hole ab,.hole .bool,.hole ab,.hole .str,.hole ab,.ay,.ay,.ay]]]
def aeF:=aV 152 [.row 10,.row 10,.row 10] (.row 10) [N2]
def zr:=bR 0 [(0,ar 0 0),(4,ar 1 0),(5,ar 2 0),(6,ar 3 0),(7,aa ab)] [.box [.hole (az 7),.hole (.slice (.int .u8)),.hole .bool],.box [.hole ab,.hole .bool,.hole ab,.hole .str,.hole ab,.ay,.ay,.ay],.box [.hole ab,.hole .str,.hole ab,.hole ab,.hole ab,.hole (az 8),.hole (az 9),.hole ab,.hole ab,.hole .bool],.box [.hole ab,.hole .bool,.hole ab,.hole .str,.hole ab,.ay,.arr 4,.ay],.arr (.nm 10)] [bJ (.exit 1) [(0,ar 0 0),(4,ar 1 0),(5,ar 2 0),(6,ar 3 0)] [.box [.hole (az 7),.hole (.slice (.int .u8)),.hole .bool],.box [.hole ab,.hole .bool,.hole ab,.hole .str,.hole ab,.ay,.ay,.ay],.box [.hole ab,.hole .str,.hole ab,.hole ab,.hole ab,.hole (az 8),.hole (az 9),.hole ab,.hole ab,.hole .bool],.box [.hole ab,.hole .bool,.hole ab,.hole .str,.hole ab,.ay,.arr 4,.ay],.arr (.nm 10)]] [] [(.via 6 6,.nm 10)]
def zs:=bR 1 [(0,ar 0 0),(4,ar 1 0),(5,ar 2 0),(6,ar 3 0),(9,aa ab)] [.box [.hole (az 7),.hole (.slice (.int .u8)),.hole .bool],.box [.hole ab,.hole .bool,.hole ab,.hole .str,.hole ab,.ay,.ay,.ay],.box [.hole ab,.hole .str,.hole ab,.hole ab,.hole ab,.hole (az 8),.hole (az 9),.hole ab,.hole ab,.hole .bool],.box [.hole ab,.hole .bool,.hole ab,.hole .str,.hole ab,.ay,.arr 4,.ay],.arr (.nm 10)] [bJ (.exit 3) [(4,ar 1 0),(6,ar 2 0)] [.box [.hole (az 7),.hole (.slice (.int .u8)),.hole .bool],.box [.hole ab,.hole .bool,.hole ab,.hole .str,.hole ab,.ay,.ay,.ay],.box [.hole ab,.hole .bool,.hole ab,.hole .str,.hole ab,.ay,.arr 3,.ay],.arr (.nm 10)]] [] [(.via 6 6,.nm 10)]
def zt:=bR 2 [(0,ar 0 0),(4,ar 1 0),(5,ar 2 0),(6,ar 3 0),(10,aa ab)] [.box [.hole (az 7),.hole (.slice (.int .u8)),.hole .bool],.box [.hole ab,.hole .bool,.hole ab,.hole .str,.hole ab,.ay,.ay,.ay],.box [.hole ab,.hole .str,.hole ab,.hole ab,.hole ab,.hole (az 8),.hole (az 9),.hole ab,.hole ab,.hole .bool],.box [.hole ab,.hole .bool,.hole ab,.hole .str,.hole ab,.hole (az 10),.hole (az 10),.hole (az 11)]] [bJ (.exit 5) [(4,ar 1 0),(6,ar 2 0)] [.box [.hole (az 7),.hole (.slice (.int .u8)),.hole .bool],.box [.hole ab,.hole .bool,.hole ab,.hole .str,.hole ab,.ay,.ay,.ay],.box [.hole ab,.hole .bool,.hole ab,.hole .str,.hole ab,.hole (az 10),.hole (az 10),.hole (az 11)]]]
def r8:=aV 112 [ar 0 0,aa ab] (.row 10) [zr,zs,zt] [.box [.hole (az 7),.hole (.slice (.int .u8)),.hole .bool]] [.box [.hole (az 7),.hole (.slice (.int .u8)),.hole .bool]]
def afr:=aV 76 [.row 12,aa ab,aa (.slice (.int .u8))] (.row 10)
def afs:=aV 77 [.row 12,aa ab,aa (.slice (.int .u8))] (.row 10)
def ae5:=aV 38 [.row 2] (.aY [.row 12,aa ab,.row 10,.row 10,aa .bool])
def Qm:=bR 0 [(1,aa (az 6)),(4,ar 0 0),(5,ar 1 0),(6,aa ab)] [.box [.ay],.box [.arr 2],.arr (.nm 4)] [bJ (.exit 0) [(4,ar 0 0),(5,ar 1 0)] [.box [.ay],.box [.arr 2],.arr (.nm 4)]]
def ae3:=aV 33 [.row 3,aa (az 6)] (.row 3) [Qm]
def QA:=bR 0 [(1,aa ab),(2,ar 0 0),(5,aa ab)] [.bj 10] [bJ (.exit 0) [(1,aa ab),(2,ar 0 0)] [.bj 10]]
def xi:=bR 1 [(1,aa ab),(2,ar 0 0),(6,aa ab)] [.bj 10] [bJ (.exit 2) [(1,aa ab),(2,ar 0 0)] [.bj 10]]
def xj:=bR 2 [(1,aa ab),(2,ar 0 0),(7,aa ab)] [.bj 10] [bJ (.exit 4) [(1,aa ab)]]
def xh:=aV 78 [.row 10,aa ab] (aa ab) [QA,xi,xj]
def ae6:=aV 39 [.row 10] (aa .bool)
def aex:=aV 14 [.row 1] (.aY [.row 12,.row 12,aa ab,.row 10,aa .bool])
def Qr:=bR 0 [(0,aa (.int .u64)),(3,aa .str)] [] [bJ (.exit 0) [(3,aa .str)]]
def afa:=aV 50 [aa (.int .u64)] (aa .str) [Qr]
def Qs:=bR 0 [(0,aa (.int .u64)),(3,.c (.arr 0))] [.arr (.int .u8)] [bJ (.exit 0) [(0,aa (.int .u64)),(3,.c (.arr 0))] [.arr (.int .u8)]] [] [(.slot 3,.int .u8)]
def afc:=aV 52 [aa (.int .u64)] (aa .str) [Qs]
def afe:=aV 54 [aa .str] (aa .str)
def xl:=bR 0 [(0,aa (az 10)),(1,aa (az 10)),(5,aa ab)] [] [eV 4 .bool,gx 0]
def ER:=aV 89 [aa (az 10),aa (az 10)] (aa .bool) [xl]
def Qq:=bR 0 [(2,ar 0 0),(3,ar 1 0),(5,aa ab)] [.bj 10,.bj 10] [eV 4 .bool,bJ (.exit 0) [(2,ar 0 0),(3,ar 1 0)] [.bj 10,.bj 10]]
def Bo:=aV 49 [.row 10,.row 10] (aa .bool) [Qq]
def aff:=aV 55 [aa ab,aa .bool,aa .str] (aa .str)
def Nc:=bR 0 [(3,ar 0 0),(5,ar 1 0),(7,ar 2 0),(14,aa .str),(15,aa ab),(19,aa ab)] [cc (az 7),.bj 10,.bj 7] [bJ (.exit 7) [(3,ar 0 0),(5,ar 1 0),(7,ar 2 0),(14,aa .str),(15,aa ab)] [cc (az 7),.bj 10,.bj 7]]
def w7:=bR 0 [(3,ar 0 0),(5,ar 1 0),(7,ar 2 0),(10,aa .str),(11,aa ab)] [cc (az 7),.bj 10,.bj 7] [bJ (.exit 1) [(10,aa .str)]]
def w8:=bR 1 [(3,ar 0 0),(5,ar 1 0),(7,ar 2 0),(12,aa .str),(13,aa ab)] [cc (az 7),.bj 10,.bj 7] [bJ (.exit 3) [(12,aa .str)]]
def w9:=bR 2 [(3,ar 0 0),(5,ar 1 0),(7,ar 2 0),(14,aa .str),(15,aa ab)] [cc (az 7),.bj 10,.bj 7] [bJ (.exit 5) [(14,aa .str)]] [Nc]
def r':=aV 19 [.row 12,aa ab,.row 10] (aa .str) [w7,w8,w9]
def A8:=aV 10 [.row 0] (.aY [.row 13,.row 13,aa .str,aa .bool])
def Qo:=aV 40 [aa ab] (.row 9)
def Qp:=aV 41 [aa (az 9)] (.row 13)
def N3:=bR 0 [(0,aa (az 8)),(1,aa (az 8)),(12,aa ab),(13,aa ab)] [] [eV 4 .bool,gx 0]
def P9:=aV 239 [aa (az 8),aa (az 8)] (aa .bool) [N3]
def N4:=bR 0 [(0,aa (az 11)),(1,aa (az 11)),(12,aa ab),(13,aa ab)] [] [eV 4 .bool,gx 0]
def Pe:=aV 103 [aa (az 11),aa (az 11)] (aa .bool) [N4]
def y8:=bR 0 [(1,aa (az 10)),(2,.c (.fn 242 [])),(15,aa (az 10)),(16,aa ab),(17,aa ab)] [] [eV 6 .bool,gx 0]
def D0:=aV 104 [aa (az 10),aa (az 10),.c (.fn 242 [])] (aa .bool) [y8]
def xa:=aV 242 [.row 10,.row 10] (aa .bool)
def Qb:=aV 241 [.row 9,.row 9] (aa .bool)
def N5:=bR 0 [(1,aa (az 9)),(2,.c (.fn 241 [])),(15,aa (az 9)),(16,aa ab),(17,aa ab)] [] [eV 6 .bool,gx 0]
def Qa:=aV 240 [aa (az 9),aa (az 9),.c (.fn 241 [])] (aa .bool) [N5]
def PN:=aV 211 [.row 7,.row 7] (aa .bool)
def P5:=aV 235 [aa (.int .u8)] (aa .bool)
def P6:=aV 236 [aa (.int .u8)] (aa .bool)
def N6:=bR 0 [(0,aa .str),(18,aa ab),(19,aa ab)] [] [eV 2 .bool,gx 0]
def PK:=aV 208 [aa .str] (aa .bool) [N6]
def N7:=bR 0 [(0,aa bI),(1,aa jj),(5,.c (.mp 0)),(9,aa bI),(10,aa ab),(11,aa ab)] [.set] [eV 4 .bool,bJ (.exit 0) [(0,aa bI)]]
def P7:=aV 237 [aa bI,aa jj] (aa .bool) [N7]
def N8:=bR 0 [(0,aa (az 8)),(3,.c (.arr 0)),(4,.c (.arr 1)),(7,aa (az 8)),(8,aa ab),(9,aa ab)] [.arr ab,.arr .str] [bJ (.exit 0) [(0,aa (az 8)),(3,.c (.arr 0)),(4,.c (.arr 1))] [.arr ab,.arr .str]] [] [(.slot 3,ab),(.slot 4,.str)]
def PL:=aV 209 [aa (az 8)] (aa .bool) [N8]
def P8:=aV 238 [.row 10] (aa .bool)
def N9:=bR 0 [(1,ar 0 0),(3,.c (.arr 1)),(4,.c (.arr 2)),(8,aa (az 9)),(9,aa ab),(10,aa ab)] [.bj 7,.arr ab,.arr .str] [eV 2 .bool,bJ (.exit 0) [(1,ar 0 0),(3,.c (.arr 1)),(4,.c (.arr 2))] [.bj 7,.arr ab,.arr .str]] [] [(.slot 3,ab),(.slot 4,.str)]
def PM:=aV 210 [.row 7] (aa .bool) [N9]
def Pr:=aV 169 [.row 7] (aa .bool)
def Nw:=bR 0 [(1,ar 0 0),(3,.c (.arr 1)),(7,aa (az 9)),(8,aa ab),(9,aa ab)] [.bj 7,.arr ab] [bJ (.exit 0) [(1,ar 0 0),(3,.c (.arr 1))] [.bj 7,.arr ab]] [] [(.slot 3,ab)]
def Ps:=aV 170 [.row 7] (aa bI) [Nw]
def L2:=bR 0 [(1,ar 0 0),(3,.c (.mp 1)),(5,ar 2 0),(14,aa (az 7)),(15,aa ab),(16,aa ab),(38,aa bI),(39,aa ab),(40,aa ab)] [cc (az 7),.set,.box [.hole ab,.hole .str,.hole ab,.hole ab,.hole ab,.hole (az 8),.hole (az 9),.hole ab,.hole ab,.hole .bool]] [eV 2 ab,bJ (.exit 2) [(1,ar 0 0),(3,.c (.mp 1)),(5,ar 2 0),(14,aa (az 7)),(15,aa ab),(16,aa ab)] [cc (az 7),.set,.box [.hole ab,.hole .str,.hole ab,.hole ab,.hole ab,.hole (az 8),.hole (az 9),.hole ab,.hole ab,.hole .bool]]]
def Nx:=bR 0 [(1,ar 0 0),(3,.c (.mp 1)),(14,aa (az 7)),(15,aa ab),(16,aa ab)] [cc (az 7),.set] [eV 2 ab,gx 0] [L2]
def Bb:=aV 139 [.row 12] (aa ab) [Nx]
def EB:=aV 105 [.row 13] (aa ab)
def EM:=bR 0 [(6,aa (az 13)),(7,aa ab),(8,aa ab)] [] [eV 2 ab,gx 0]
def EL:=aV 65 [aa (az 13)] (aa ab) [EM]
def Pt:=aV 171 [ar 0 0,aa ab] (.aY [.row 10,aa .bool]) [] [.box [.hole (az 7),.arr 1,.hole bI,.hole ab],.arr ab] [.box [.hole (az 7),.arr 2,.arr 3,.hole ab],.gone,.arr ab,.arr ab]
def Ny:=bR 0 [(0,aa .str),(4,aa (.int .u64)),(17,aa ab),(18,aa ab)] [] [bJ (.exit 0) [(4,aa (.int .u64))]]
def Pu:=aV 172 [aa .str] (.aY [aa (.int .u64),aa ab]) [Ny]
def Pv:=aV 173 [aa (.int .u64)] (aa ab)
def PJ:=aV 206 [.row 8,ar 0 0] (aa .bool) [] [cc ab] [cc ab]
def Nz:=bR 0 [(0,aa (az 8)),(1,.c (.fn 206 [0])),(7,aa ab),(8,aa ab)] [cc ab] [bJ .ret [(4,aa ab)] [cc ab],bJ (.exit 0) [] [cc ab]]
def PI:=aV 205 [aa (az 8),.c (.fn 206 [0])] (aa ab) [Nz] [cc ab] [cc ab]
def Pp:=aV 165 [.row 7,aa ab] (.aY [aa ab,aa .bool])
def oK:=aV 174 [ar 0 0,aa ab,aa ab,aa .str] (.aY [.row 10,aa .bool]) [] [.box [.hole (az 7),.arr 1,.hole bI,.hole ab],.arr ab] [.box [.hole (az 7),.arr 2,.hole bI,.hole ab],.gone,.arr ab]
def NA:=bR 0 [(0,aa .str),(5,aa (.int .u64)),(10,aa ab),(11,aa ab)] [] [bJ .ret [(2,aa (.int .u64)),(3,aa ab),(4,aa ab)],gx 0]
def Qj:=aV 254 [aa .str] (.aY [aa (.int .u64),aa ab,aa ab]) [NA]
def Qc:=aV 243 [aa .str] (.aY [aa (.int .u64),aa .str,aa .bool])
def PO:=aV 212 [aa .str] (.aY [aa ab,aa .str,aa ab])
def Pm:=aV 138 [.row 9,ar 0 0] (aa .bool) [] [cc ab] [cc ab]
def NB:=bR 0 [(0,aa (az 9)),(1,.c (.fn 138 [0])),(7,aa ab),(8,aa ab)] [cc ab] [bJ .ret [(4,aa ab)] [cc ab],bJ (.exit 0) [] [cc ab]]
def Pl:=aV 137 [aa (az 9),.c (.fn 138 [0])] (aa ab) [NB] [cc ab] [cc ab]
def QG:=aV 98 [.row 7,aa ab] (.aY [aa ab,aa .bool])
def Bc:=aV 175 [ar 0 0,.row 7,aa .str] (.aY [.row 10,aa .bool]) [] [.box [.hole (az 7),.arr 1,.hole bI,.hole ab],.arr ab] [.box [.hole (az 7),.arr 2,.hole bI,.hole ab],.gone,.arr ab]
def Qd:=aV 244 [aa .str] (.aY [aa .str,aa .str,aa .bool])
def NC:=bR 0 [(4,.c (.arr 0)),(5,aa .str)] [.arr .str] [bJ .ret [(2,.c (.ay)),(3,aa ab)],bJ (.exit 0) [(4,.c (.arr 0))] [.arr .str]] [] [(.slot 4,.str)]
def PQ:=aV 213 [aa .str] (.aY [aa jj,aa ab]) [NC]
def zu:=bR 0 [(0,ar 0 0),(4,ar 2 0),(6,ar 3 0),(10,ar 4 0),(38,aa jj),(39,aa ab),(40,aa ab)] [.box [.hole (az 7),.arr 5,.hole bI,.hole ab],.gone,.bj 7,.box [.hole ab,.hole .bool,.hole ab,.hole .str,.hole ab,.ay,.ay,.ay],.box [.hole ab,.hole .bool,.hole ab,.hole .str,.hole ab,.ay,.arr 6,.ay],.arr ab,.arr (.nm 10)] [bJ .ret [(6,ar 2 0),(7,aa .bool)] [.box [.hole (az 7),.arr 3,.hole bI,.hole ab],.gone,.bj 10,.arr ab],bJ (.exit 0) [(6,ar 2 0),(10,ar 3 0)] [.box [.hole (az 7),.arr 4,.hole bI,.hole ab],.gone,.box [.hole ab,.hole .bool,.hole ab,.hole .str,.hole ab,.ay,.ay,.ay],.box [.hole ab,.hole .bool,.hole ab,.hole .str,.hole ab,.ay,.arr 5,.ay],.arr ab,.arr (.nm 10)]] [] [(.via 10 6,.nm 10)]
def Bd:=aV 176 [ar 0 0,.row 7,aa .str] (.aY [.row 10,aa .bool]) [zu] [.box [.hole (az 7),.arr 1,.hole bI,.hole ab],.arr ab] [.box [.hole (az 7),.arr 2,.hole bI,.hole ab],.gone,.arr ab]
def PB:=aV 188 [aa ab] (aa (.int .u64))
def Qh:=aV 252 [aa (.int .u64)] (aa .bool)
def P2:=aV 232 [aa (.int .u64),aa (.int .u64)] (aa ab)
def Qg:=aV 250 [aa ab] (aa .bool)
def PZ:=aV 227 [aa ab,aa ab] (aa ab)
def Qi:=aV 253 [aa .str] (aa .bool)
def P4:=aV 234 [aa .str,aa .str] (aa ab)
def ND:=bR 0 [(3,aa ab),(6,aa bI),(7,aa ab),(8,aa ab)] [] [eV 2 ab,bJ (.exit 0) [(3,aa ab)]]
def P3:=aV 233 [aa bI] (aa ab) [ND]
def PH:=aV 204 [.row 10,.row 10] (aa ab)
def zv:=bR 0 [(0,ar 0 0),(4,ar 2 0),(6,ar 3 0),(8,aa jj),(10,ar 4 0),(11,aa ab)] [.box [.hole (az 7),.arr 5,.hole bI,.hole ab],.gone,.bj 7,.box [.hole ab,.hole .bool,.hole ab,.hole .str,.hole ab,.ay,.ay,.ay],.box [.hole ab,.hole .bool,.hole ab,.hole .str,.hole ab,.arr 6,.ay,.ay],.arr ab,.arr (.nm 10)] [bJ .ret [(6,ar 2 0),(7,aa .bool)] [.box [.hole (az 7),.arr 3,.hole bI,.hole ab],.gone,.bj 10,.arr ab],bJ (.exit 0) [(0,ar 0 0),(4,ar 2 0),(6,ar 3 0),(8,aa jj),(10,ar 4 0)] [.box [.hole (az 7),.arr 5,.hole bI,.hole ab],.gone,.bj 7,.box [.hole ab,.hole .bool,.hole ab,.hole .str,.hole ab,.ay,.ay,.ay],.box [.hole ab,.hole .bool,.hole ab,.hole .str,.hole ab,.arr 6,.ay,.ay],.arr ab,.arr (.nm 10)]] [] [(.via 10 5,.nm 10)]
def NF:=bR 1 [(0,ar 0 0),(4,ar 2 0),(6,ar 3 0),(8,aa jj),(10,ar 4 0),(14,aa ab)] [.box [.hole (az 7),.arr 5,.hole bI,.hole ab],.gone,.bj 7,.box [.hole ab,.hole .bool,.hole ab,.hole .str,.hole ab,.ay,.ay,.ay],.box [.hole ab,.hole .bool,.hole ab,.hole .str,.hole ab,.arr 6,.ay,.ay],.arr ab,.arr (.nm 10)] [bJ .ret [(6,ar 2 0),(7,aa .bool)] [.box [.hole (az 7),.arr 3,.arr 4,.hole ab],.gone,.bj 10,.arr ab,.arr ab],bJ (.exit 2) [(0,ar 0 0),(4,ar 2 0),(6,ar 3 0),(8,aa jj),(10,ar 4 0)] [.box [.hole (az 7),.arr 5,.hole bI,.hole ab],.gone,.bj 7,.box [.hole ab,.hole .bool,.hole ab,.hole .str,.hole ab,.ay,.ay,.ay],.box [.hole ab,.hole .bool,.hole ab,.hole .str,.hole ab,.arr 6,.ay,.ay],.arr ab,.arr (.nm 10)]]
def zw:=bR 2 [(0,ar 0 0),(4,ar 2 0),(6,ar 3 0),(8,aa jj),(10,ar 4 0),(15,aa ab)] [.box [.hole (az 7),.arr 5,.hole bI,.hole ab],.gone,.bj 7,.box [.hole ab,.hole .bool,.hole ab,.hole .str,.hole ab,.ay,.ay,.ay],.box [.hole ab,.hole .bool,.hole ab,.hole .str,.hole ab,.arr 6,.arr 7,.ay],.arr ab,.arr (.nm 10),.arr (.nm 10)] [bJ .ret [(6,ar 2 0),(7,aa .bool)] [.box [.hole (az 7),.arr 3,.hole bI,.hole ab],.gone,.bj 10,.arr ab],bJ (.exit 4) [(6,ar 2 0),(10,ar 3 0)] [.box [.hole (az 7),.arr 4,.hole bI,.hole ab],.gone,.box [.hole ab,.hole .bool,.hole ab,.hole .str,.hole ab,.ay,.ay,.ay],.box [.hole ab,.hole .bool,.hole ab,.hole .str,.hole ab,.arr 5,.arr 6,.ay],.arr ab,.arr (.nm 10),.arr (.nm 10)]] [] [(.via 10 6,.nm 10)]
def Be:=aV 177 [ar 0 0,.row 7,aa .str] (.aY [.row 10,aa .bool]) [zv,NF,zw] [.box [.hole (az 7),.arr 1,.hole bI,.hole ab],.arr ab] [.box [.hole (az 7),.arr 2,.hole bI,.hole ab],.gone,.arr ab]
def NG:=bR 0 [(4,.c (.arr 0)),(5,aa (.int .u64)),(6,aa .str)] [.arr (.nm 14)] [bJ .ret [(2,.c (.ay)),(3,aa ab)],bJ (.exit 0) [(4,.c (.arr 0))] [.arr (.nm 14)]] [] [(.slot 4,.nm 14)]
def PR:=aV 214 [aa .str] (.aY [aa (az 14),aa ab]) [NG]
def PT:=aV 216 [.row 14,ar 0 0] (aa .bool) [] [.bj 9] [.bj 9]
def NH:=bR 0 [(0,aa (az 14)),(1,.c (.fn 216 [0])),(7,aa ab),(8,aa ab)] [.bj 9] [bJ .ret [(4,aa ab)] [.bj 9],bJ (.exit 0) [] [.bj 9]]
def PS:=aV 215 [aa (az 14),.c (.fn 216 [0])] (aa ab) [NH] [.bj 9] [.bj 9]
def zx:=bR 0 [(1,ar 0 0),(2,ar 1 0),(20,.c (.arr 2)),(21,aa ab),(22,aa ab)] [.box [.hole ab,.hole .bool,.hole ab,.hole .str,.hole ab,.arr 2,.arr 3,.arr 4],.box [.hole ab,.hole .bool,.hole ab,.hole .str,.hole ab,.ay,.ay,.ay],.arr (.nm 10),.arr (.nm 10),.arr (.nm 11)] [bJ (.exit 0) [(1,ar 0 0),(2,ar 1 0)] [.box [.hole ab,.hole .bool,.hole ab,.hole .str,.hole ab,.arr 2,.arr 3,.arr 4],.box [.hole ab,.hole .bool,.hole ab,.hole .str,.hole ab,.ay,.ay,.ay],.arr (.nm 10),.arr (.nm 10),.arr (.nm 11)]]
def zy:=bR 1 [(1,ar 0 0),(2,ar 1 0),(35,.c (.arr 2)),(36,aa ab),(37,aa ab)] [.box [.hole ab,.hole .bool,.hole ab,.hole .str,.hole ab,.arr 3,.arr 2,.arr 4],.box [.hole ab,.hole .bool,.hole ab,.hole .str,.hole ab,.ay,.ay,.ay],.arr (.nm 10),.arr (.nm 10),.arr (.nm 11)] [bJ (.exit 2) [(1,ar 0 0),(2,ar 1 0)] [.box [.hole ab,.hole .bool,.hole ab,.hole .str,.hole ab,.arr 2,.arr 3,.arr 4],.box [.hole ab,.hole .bool,.hole ab,.hole .str,.hole ab,.ay,.ay,.ay],.arr (.nm 10),.arr (.nm 10),.arr (.nm 11)]]
def uy:=aV 217 [.row 10] (.row 10) [zx,zy]
def zz:=bR 0 [(0,ar 0 0),(4,ar 2 0),(6,ar 3 0),(8,aa (az 14)),(10,ar 4 0),(39,aa (az 9)),(40,aa ab),(41,aa ab)] [.box [.hole (az 7),.arr 5,.hole bI,.hole ab],.gone,.bj 7,.box [.hole ab,.hole .bool,.hole ab,.hole .str,.hole ab,.ay,.ay,.ay],.box [.hole ab,.hole .bool,.hole ab,.hole .str,.hole ab,.ay,.arr 6,.ay],.arr ab,.arr (.nm 10)] [bJ .ret [(6,ar 2 0),(7,aa .bool)] [.box [.hole (az 7),.arr 3,.hole bI,.hole ab],.gone,.bj 10,.arr ab],bJ (.exit 0) [(0,ar 0 0),(4,ar 2 0),(6,ar 3 0),(8,aa (az 14)),(10,ar 4 0)] [.box [.hole (az 7),.arr 5,.hole bI,.hole ab],.gone,.bj 7,.box [.hole ab,.hole .bool,.hole ab,.hole .str,.hole ab,.ay,.ay,.ay],.box [.hole ab,.hole .bool,.hole ab,.hole .str,.hole ab,.ay,.arr 6,.ay],.arr ab,.arr (.nm 10)]] [] [(.via 10 6,.nm 10)]
def NI:=bR 1 [(0,ar 0 0),(4,ar 2 0),(6,ar 3 0),(10,ar 4 0),(117,aa (az 14)),(118,aa ab),(119,aa ab)] [.box [.hole (az 7),.arr 5,.hole bI,.hole ab],.gone,.bj 7,.box [.hole ab,.hole .bool,.hole ab,.hole .str,.hole ab,.ay,.ay,.ay],.box [.hole ab,.hole .bool,.hole ab,.hole .str,.hole ab,.ay,.arr 6,.arr 7],.arr ab,.arr (.nm 10),.arr (.nm 11)] [bJ .ret [(6,ar 2 0),(7,aa .bool)] [.box [.hole (az 7),.arr 3,.arr 4,.hole ab],.gone,.bj 10,.arr ab,.arr ab],bJ (.exit 3) [(6,ar 2 0),(10,ar 3 0)] [.box [.hole (az 7),.arr 4,.hole bI,.hole ab],.gone,.box [.hole ab,.hole .bool,.hole ab,.hole .str,.hole ab,.ay,.ay,.ay],.box [.hole ab,.hole .bool,.hole ab,.hole .str,.hole ab,.ay,.arr 5,.arr 6],.arr ab,.arr (.nm 10),.arr (.nm 11)]] [] [(.via 10 7,.nm 11)]
def Bf:=aV 178 [ar 0 0,.row 7,aa .str] (.aY [.row 10,aa .bool]) [zz,NI] [.box [.hole (az 7),.arr 1,.hole bI,.hole ab],.arr ab] [.box [.hole (az 7),.arr 2,.hole bI,.hole ab],.gone,.arr ab]
def w4:=aV 140 [ar 0 0,aa ab,aa .str] (.aY [.row 10,aa .bool]) [] [.box [.hole (az 7),.arr 1,.hole bI,.hole ab],.arr ab] [.box [.hole (az 7),.arr 2,.hole bI,.hole ab],.gone,.arr ab]
def Pd:=aV 102 [.row 12,aa ab,aa .str] (.aY [.row 10,.row 15,aa ab])
def Bq:=aV 63 [.row 12,aa ab,aa .str] (.aY [.row 10,aa ab])
def Pf:=aV 129 [.row 12,aa ab] (aa ab)
def P1:=aV 230 [.row 10] (.row 10)
def PF:=aV 201 [.row 10] (aa .bool)
def PG:=aV 202 [aa ab] (aa .bool)
def Bm:=aV 231 [.row 10,ar 0 0,ar 1 0,ar 2 0] (aa .bool) [] [cc (az 7),cc ab,cc .bool] [cc (az 7),cc ab,cc .bool]
def y9:=bR 0 [(0,aa (az 10)),(1,.c (.fn 231 [0,1,2])),(7,aa ab),(8,aa ab)] [cc (az 7),cc ab,cc .bool] [bJ .ret [(4,aa ab)] [cc (az 7),cc ab,cc .bool],bJ (.exit 0) [] [cc (az 7),cc ab,cc .bool]]
def D1:=aV 207 [aa (az 10),.c (.fn 231 [0,1,2])] (aa ab) [y9] [cc (az 7),cc ab,cc .bool] [cc (az 7),cc ab,cc .bool]
def D2:=aV 166 [aa (az 10),.c (.fn 231 [0,1,2])] (aa .bool) [] [cc (az 7),cc ab,cc .bool] [cc (az 7),cc ab,cc .bool]
def Bl:=aV 203 [.row 12,aa ab,aa (az 10),aa .bool] (aa .bool)
def NJ:=bR 0 [(3,aa .bool),(4,ar 0 0),(6,ar 1 0),(9,ar 2 0),(111,aa (az 11)),(112,aa ab),(113,aa ab)] [cc (az 7),.bj 10,.box [.hole ab,.hole .str,.hole ab,.hole ab,.hole ab,.hole (az 8),.hole (az 9),.hole ab,.hole ab,.hole .bool]] [eV 8 .bool,bJ (.exit 1) [(3,aa .bool),(4,ar 0 0),(6,ar 1 0),(9,ar 2 0)] [cc (az 7),.box [.hole ab,.hole .bool,.hole ab,.hole .str,.hole ab,.hole (az 10),.hole (az 10),.hole (az 11)],.box [.hole ab,.hole .str,.hole ab,.hole ab,.hole ab,.hole (az 8),.hole (az 9),.hole ab,.hole ab,.hole .bool]]]
def zA:=bR 1 [(3,aa .bool),(4,ar 0 0),(6,ar 1 0),(150,aa (az 9)),(151,aa ab),(152,aa ab)] [cc (az 7),.box [.hole ab,.hole .bool,.hole ab,.hole .str,.hole ab,.hole (az 10),.hole (az 10),.hole (az 11)]] [eV 8 .bool,gx 3]
def NK:=bR 2 [(3,aa .bool),(4,ar 0 0),(6,ar 1 0),(9,ar 2 0),(20,aa ab)] [cc (az 7),.bj 10,.box [.hole ab,.hole .str,.hole ab,.hole ab,.hole ab,.hole (az 8),.hole (az 9),.hole ab,.hole ab,.hole .bool]] [eV 8 .bool,bJ (.exit 5) [(3,aa .bool),(4,ar 0 0),(6,ar 1 0),(9,ar 2 0)] [cc (az 7),.bj 10,.box [.hole ab,.hole .str,.hole ab,.hole ab,.hole ab,.hole (az 8),.hole (az 9),.hole ab,.hole ab,.hole .bool]]]
def r9:=aV 164 [.row 12,aa ab,.row 10,aa .bool] (aa .bool) [NJ,zA,NK]
def Pg:=aV 130 [.row 12,aa ab,.row 10] (aa .bool)
def QF:=aV 92 [.row 12,aa ab,.row 10] (aa ab)
def Ph:=aV 131 [.row 7,.row 10] (aa .bool)
def Pq:=aV 167 [.row 10,ar 0 0,ar 1 0] (aa .bool) [] [cc (az 7),.bj 7] [cc (az 7),.bj 7]
def L3:=bR 0 [(0,aa (az 10)),(1,.c (.fn 167 [0,1])),(7,aa ab),(8,aa ab)] [cc (az 7),.bj 7] [bJ .ret [(4,aa ab)] [cc (az 7),.bj 7],bJ (.exit 0) [] [cc (az 7),.bj 7]]
def NL:=aV 207 [aa (az 10),.c (.fn 167 [0,1])] (aa ab) [L3] [cc (az 7),.bj 7] [cc (az 7),.bj 7]
def NM:=aV 166 [aa (az 10),.c (.fn 167 [0,1])] (aa .bool) [] [cc (az 7),.bj 7] [cc (az 7),.bj 7]
def Pj:=aV 132 [.row 12,.row 7,.row 10] (aa .bool)
def NN:=bR 0 [(2,ar 0 0),(3,ar 1 0),(5,.c (.arr 2)),(11,aa ab),(12,aa ab)] [.bj 7,.bj 10,.arr (.nm 16)] [bJ (.exit 0) [(5,.c (.arr 0))] [.arr (.nm 16)]] [] [(.slot 5,.nm 16)]
def Pk:=aV 133 [.row 7,.row 10] (aa (az 16)) [NN]
def zB:=bR 0 [(3,ar 0 0),(5,ar 1 0),(6,ar 2 0),(9,ar 3 0),(49,aa (az 16)),(50,aa ab),(51,aa ab)] [cc (az 7),.bj 10,.box [.hole ab,.hole .bool,.hole ab,.hole .str,.hole ab,.ay,.ay,.ay],.box [.hole ab,.hole .bool,.hole ab,.hole .str,.hole ab,.arr 4,.arr 5,.ay],.arr (.nm 10),.arr (.nm 10)] [bJ .ret [(6,ar 0 0),(7,aa .bool)] [.box [.hole ab,.hole .bool,.hole ab,.hole .str,.hole ab,.ay,.ay,.ay]],bJ (.exit 0) [(6,ar 0 0),(9,ar 1 0)] [.box [.hole ab,.hole .bool,.hole ab,.hole .str,.hole ab,.ay,.ay,.ay],.box [.hole ab,.hole .bool,.hole ab,.hole .str,.hole ab,.arr 2,.arr 3,.ay],.arr (.nm 10),.arr (.nm 10)]] [] [(.via 9 6,.nm 10)]
def w5:=aV 141 [.row 12,aa ab,.row 10] (.aY [.row 10,aa .bool]) [zB]
def A9:=aV 106 [.row 12,aa ab,.row 10] (.aY [.row 10,aa ab])
def Pw:=aV 180 [.row 12,aa ab] (aa ab)
def Px:=aV 181 [.row 12,aa ab,.row 10] (aa .bool)
def Pn:=aV 142 [.row 12,aa ab,.row 10,.row 12,aa ab] (aa ab)
def Py:=aV 182 [ar 0 0] (.aY [.row 10,aa .bool]) [] [.box [.hole (az 7),.hole (az 7),.arr 1,.hole bI],.arr ab] [.box [.hole (az 7),.hole (az 7),.arr 2,.arr 3],.gone,.arr ab,.arr ab]
def PU:=aV 218 [ar 0 0,aa ab] (.aY [.row 10,aa .bool]) [] [.box [.hole (az 7),.hole (az 7),.arr 1,.hole bI],.arr ab] [.box [.hole (az 7),.hole (az 7),.arr 2,.arr 3],.gone,.arr ab,.arr ab]
def zC:=bR 0 [(1,ar 0 0),(2,ar 1 0),(20,.c (.arr 2)),(21,aa ab),(22,aa ab)] [.box [.hole ab,.hole .bool,.hole ab,.hole .str,.hole ab,.arr 2,.arr 3,.arr 4],.box [.hole ab,.hole .bool,.hole ab,.hole .str,.hole ab,.ay,.ay,.ay],.arr (.nm 10),.arr (.nm 10),.arr (.nm 11)] [bJ (.exit 0) [(1,ar 0 0),(2,ar 1 0)] [.box [.hole ab,.hole .bool,.hole ab,.hole .str,.hole ab,.arr 2,.arr 3,.arr 4],.box [.hole ab,.hole .bool,.hole ab,.hole .str,.hole ab,.ay,.ay,.ay],.arr (.nm 10),.arr (.nm 10),.arr (.nm 11)]]
def zD:=bR 1 [(1,ar 0 0),(2,ar 1 0),(35,.c (.arr 2)),(36,aa ab),(37,aa ab)] [.box [.hole ab,.hole .bool,.hole ab,.hole .str,.hole ab,.arr 3,.arr 2,.arr 4],.box [.hole ab,.hole .bool,.hole ab,.hole .str,.hole ab,.ay,.ay,.ay],.arr (.nm 10),.arr (.nm 10),.arr (.nm 11)] [bJ (.exit 2) [(1,ar 0 0),(2,ar 1 0)] [.box [.hole ab,.hole .bool,.hole ab,.hole .str,.hole ab,.arr 2,.arr 3,.arr 4],.box [.hole ab,.hole .bool,.hole ab,.hole .str,.hole ab,.ay,.ay,.ay],.arr (.nm 10),.arr (.nm 10),.arr (.nm 11)]]
def uz:=aV 219 [.row 10] (.row 10) [zC,zD]
def uA:=aV 220 [ar 0 0,aa ab,aa ab,.row 10,aa ab] (.aY [.row 10,aa .bool]) [] [.box [.hole (az 7),.hole (az 7),.arr 1,.hole bI],.arr ab] [.box [.hole (az 7),.hole (az 7),.arr 2,.hole bI],.gone,.arr ab]
def y':=bR 0 [(1,aa (az 10)),(2,.c (.fn 64 [])),(15,aa (az 10)),(16,aa ab),(17,aa ab)] [] [eV 6 .bool,gx 0]
def D3:=aV 104 [aa (az 10),aa (az 10),.c (.fn 64 [])] (aa .bool) [y']
def xg:=aV 64 [.row 10,.row 10] (aa .bool)
def PW:=aV 221 [.row 9,.row 10] (aa .bool)
def Nl:=bR 0 [(0,aa (.int .u64)),(3,ar 0 0),(4,aa ab)] [.arr (.int .u8)] [bJ (.exit 0) [(0,aa (.int .u64)),(3,ar 0 0),(4,aa ab)] [.arr (.int .u8)]]
def P0:=aV 228 [aa (.int .u64)] (aa .str) [Nl]
def PD:=aV 192 [aa .str] (aa .str)
def PY:=aV 224 [aa ab,aa .bool,aa .str] (aa .str)
def Qe:=aV 246 [aa ab,aa .bool,aa .str] (.aY [aa .str,aa ab])
def Qf:=aV 247 [aa .str] (aa .str)
def Pz:=aV 186 [.row 12,aa ab] (aa ab)
def Po:=aV 144 [.row 12,aa ab,.row 10] (aa ab)
def Nn:=bR 0 [(0,aa (.int .u64)),(3,ar 0 0),(4,aa ab)] [.arr (.int .u8)] [bJ (.exit 0) [(3,ar 0 0),(4,aa ab)] [.arr (.int .u8)]]
def PA:=aV 187 [aa (.int .u64)] (aa .str) [Nn]
def PX:=aV 223 [.row 9,.row 10] (aa .bool)
def PC:=aV 191 [ar 0 0,aa .str] (.aY [aa ab,.c (.dead)]) [] [.b8 252 ((.cG 1)),.buf 5] [.b8 252 ((.cG 2)),.gone,.buf 5]
def PE:=aV 193 [ar 0 0] (aa .str) [] [.b8 252 ((.cG 1)),.buf 5] [.b8 252 ((.cG 1)),.gone]
def zE:=bR 0 [(0,ar 0 0),(3,aa ab),(6,ar 1 0),(9,.c (.arr 2)),(18,aa (az 9)),(19,aa ab),(20,aa ab)] [.box [.hole (az 7),.hole ab],.bj 10,.arr (.nm 17)] [bJ (.exit 0) [(6,ar 1 0),(9,.c (.arr 2))] [.box [.hole (az 7),.hole ab],.bj 10,.arr (.nm 17)]] [] [(.slot 9,.nm 17)]
def No:=bR 1 [(9,.c (.arr 1)),(57,aa (az 11)),(58,aa ab),(59,aa ab)] [.box [.hole (az 7),.hole ab],.arr (.nm 17)] [bJ (.exit 2) [(9,.c (.arr 1))] [.box [.hole (az 7),.hole ab],.arr (.nm 17)]]
def Np:=bR 2 [(14,ar 1 0),(77,.c (.arr 2)),(78,aa ab),(79,aa ab)] [.box [.hole (az 7),.hole ab],.b8 252 ((.cG 3)),.arr (.nm 17),.buf 5] [bJ (.exit 4) [(14,ar 1 0)] [.box [.hole (az 7),.hole ab],.b8 252 ((.cG 2)),.buf 5]]
def Bj:=aV 189 [ar 0 0,.row 7,.row 10,aa ab] (aa .str) [zE,No,Np] [.box [.hole (az 7),.hole ab]] [.box [.hole (az 7),.hole ab]]
def Bk:=aV 190 [ar 0 0,.row 7,.row 10,aa ab] (aa .str) [] [.box [.hole (az 7),.hole ab]] [.box [.hole (az 7),.hole ab]]
def zF:=bR 0 [(0,ar 0 0),(3,aa ab),(6,ar 1 0),(9,ar 2 0),(10,ar 3 0),(84,aa (az 10)),(85,aa ab),(86,aa ab)] [.box [.hole (az 7),.hole ab],.bj 10,.bj 7,.b8 252 ((.cG 4)),.buf 5] [bJ (.exit 1) [(10,ar 1 0)] [.box [.hole (az 7),.hole ab],.b8 252 ((.cG 2)),.buf 5]]
def qh:=aV 145 [ar 0 0,aa ab,.row 10,aa ab] (aa .str) [zF] [.box [.hole (az 7),.hole ab]] [.box [.hole (az 7),.hole ab]]
def Ba:=aV 108 [.row 12,aa ab,.row 10] (.aY [aa .str,aa ab])
def zG:=bR 0 [(3,ar 0 0),(5,ar 1 0),(8,aa .str),(36,aa (az 9)),(37,aa ab),(38,aa ab)] [cc (az 7),.bj 10] [bJ (.exit 1) [(8,aa .str)]]
def zH:=bR 1 [(3,ar 0 0),(7,ar 1 0),(8,aa .str),(101,aa (az 10)),(102,aa ab),(103,aa ab)] [cc (az 7),.bj 7] [bJ (.exit 3) [(8,aa .str)]]
def zI:=bR 2 [(3,ar 0 0),(5,ar 1 0),(7,ar 2 0),(8,aa .str),(118,aa (az 10)),(119,aa ab),(120,aa ab)] [cc (az 7),.bj 10,.bj 7] [bJ (.exit 5) [(8,aa .str)]]
def qi:=aV 222 [.row 12,aa ab,.row 10] (aa .str) [zG,zH,zI]
def zJ:=bR 0 [(0,ar 0 0),(5,ar 2 0),(6,ar 3 0),(7,ar 4 0),(8,ar 5 0),(10,ar 6 0),(25,aa (az 9)),(26,aa ab),(27,aa ab)] [.box [.hole (az 7),.hole (az 7),.arr 7,.hole bI],.gone,.bj 7,.bj 10,.bj 7,.box [.hole ab,.hole .bool,.hole ab,.hole .str,.hole ab,.ay,.ay,.ay],.box [.hole ab,.hole .bool,.hole ab,.hole .str,.hole ab,.ay,.arr 8,.ay],.arr ab,.arr (.nm 10)] [bJ .ret [(8,ar 2 0),(9,aa .bool)] [.box [.hole (az 7),.hole (az 7),.arr 3,.hole bI],.gone,.bj 10,.arr ab],bJ (.exit 0) [(0,ar 0 0),(5,ar 2 0),(6,ar 3 0),(7,ar 4 0),(8,ar 5 0),(10,ar 6 0)] [.box [.hole (az 7),.hole (az 7),.arr 7,.hole bI],.gone,.bj 7,.bj 10,.bj 7,.box [.hole ab,.hole .bool,.hole ab,.hole .str,.hole ab,.ay,.ay,.ay],.box [.hole ab,.hole .bool,.hole ab,.hole .str,.hole ab,.ay,.arr 8,.ay],.arr ab,.arr (.nm 10)]] [] [(.via 10 6,.nm 10)]
def Nq:=bR 1 [(0,ar 0 0),(6,ar 2 0),(7,ar 3 0),(8,ar 4 0),(10,ar 5 0),(115,aa (az 9)),(116,aa ab),(117,aa ab)] [.box [.hole (az 7),.hole (az 7),.arr 6,.hole bI],.gone,.bj 10,.bj 7,.box [.hole ab,.hole .bool,.hole ab,.hole .str,.hole ab,.ay,.ay,.ay],.box [.hole ab,.hole .bool,.hole ab,.hole .str,.hole ab,.ay,.arr 7,.arr 8],.arr ab,.arr (.nm 10),.arr (.nm 11)] [bJ .ret [(8,ar 2 0),(9,aa .bool)] [.box [.hole (az 7),.hole (az 7),.arr 3,.arr 4],.gone,.bj 10,.arr ab,.arr ab],bJ (.exit 2) [(8,ar 2 0),(10,ar 3 0)] [.box [.hole (az 7),.hole (az 7),.arr 4,.hole bI],.gone,.box [.hole ab,.hole .bool,.hole ab,.hole .str,.hole ab,.ay,.ay,.ay],.box [.hole ab,.hole .bool,.hole ab,.hole .str,.hole ab,.ay,.arr 5,.arr 6],.arr ab,.arr (.nm 10),.arr (.nm 11)]] [] [(.via 10 7,.nm 11)]
def Bg:=aV 183 [ar 0 0,.row 7,.row 10,.row 7] (.aY [.row 10,aa .bool]) [zJ,Nq] [.box [.hole (az 7),.hole (az 7),.arr 1,.hole bI],.arr ab] [.box [.hole (az 7),.hole (az 7),.arr 2,.hole bI],.gone,.arr ab]
def Bh:=aV 184 [ar 0 0,.row 7,.row 10,.row 7] (.aY [.row 10,aa .bool]) [] [.box [.hole (az 7),.hole (az 7),.arr 1,.hole bI],.arr ab] [.box [.hole (az 7),.hole (az 7),.arr 2,.hole bI],.gone,.arr ab]
def zK:=bR 0 [(0,ar 0 0),(1,aa ab),(3,aa ab),(10,.c (.arr 2)),(15,aa (az 10)),(16,aa ab),(17,aa ab)] [.box [.hole (az 7),.hole (az 7),.arr 3,.hole bI],.gone,.arr (.nm 10),.arr ab] [bJ .ret [(8,.c (.ay)),(9,aa .bool)] [.box [.hole (az 7),.hole (az 7),.arr 2,.hole bI],.gone,.arr ab],bJ (.exit 0) [(10,.c (.arr 2))] [.box [.hole (az 7),.hole (az 7),.arr 3,.hole bI],.gone,.arr (.nm 10),.arr ab]] [] [(.slot 10,.nm 10)]
def Bi:=aV 185 [ar 0 0,aa ab,aa (az 10),aa ab] (.aY [aa (az 10),aa .bool]) [zK] [.box [.hole (az 7),.hole (az 7),.arr 1,.hole bI],.arr ab] [.box [.hole (az 7),.hole (az 7),.arr 2,.hole bI],.gone,.arr ab]
def w6:=aV 143 [ar 0 0,aa ab,.row 10,aa ab] (.aY [.row 10,aa .bool]) [] [.box [.hole (az 7),.hole (az 7),.arr 1,.hole bI],.arr ab] [.box [.hole (az 7),.hole (az 7),.arr 2,.hole bI],.gone,.arr ab]
def A':=aV 107 [.row 12,aa ab,.row 10,.row 12,aa ab] (.aY [.row 10,aa ab])
def EN:=aV 66 [.row 13,.row 13,aa .str] (.aY [.row 18,aa ab])
def EI:=aV 42 [.row 13,.row 13,aa .str] (.aY [.row 18,aa ab])
def nb:=aV 12 [.row 13,.row 13,aa .str] (.aY [aa .str,aa ab])
def aew:=aV 136 [.row 11,ar 0 0] (aa .bool) [] [.bj 9] [.bj 9]
def ac1:=bR 0 [(0,aa (az 11)),(1,.c (.fn 136 [0])),(7,aa ab),(8,aa ab)] [.bj 9] [bJ .ret [(4,aa ab)] [.bj 9],bJ (.exit 0) [] [.bj 9]]
def aeS:=aV 168 [aa (az 11),.c (.fn 136 [0])] (aa ab) [ac1] [.bj 9] [.bj 9]
def aev:=aV 135 [aa (az 11),.c (.fn 136 [0])] (aa .bool) [] [.bj 9] [.bj 9]
def afG:=aV 99 [aa bI,aa ab] (aa bI)
def afF:=bR 0 [(0,ar 0 0),(5,aa bI),(7,ar 2 0),(8,ar 3 0),(10,ar 4 0),(18,aa (az 9)),(19,aa ab),(20,aa ab)] [.box [.hole (az 7),.hole (az 7),.arr 5],.gone,.bj 7,.bj 10,.bj 10,.arr bI] [bJ (.exit 0) [] [.box [.hole (az 7),.hole (az 7),.arr 2],.gone,.arr bI]]
def afE:=aV 97 [ar 0 0,.row 7,.row 10,.row 7,.row 10,aa bI] (.aY []) [afF] [.box [.hole (az 7),.hole (az 7),.arr 1],.arr bI] [.box [.hole (az 7),.hole (az 7),.arr 2],.gone,.arr bI]
def afh:=bR 0 [(0,ar 0 0),(5,aa bI),(8,ar 2 0),(10,ar 3 0),(12,ar 4 0),(13,ar 5 0),(39,aa ab),(40,aa ab)] [.box [.hole (az 7),.hole (az 7),.arr 6],.gone,.bj 10,.bj 10,.bj 7,.bj 7,.arr bI] [bJ (.exit 1) [] [.box [.hole (az 7),.hole (az 7),.arr 2],.gone,.arr bI]]
def EK:=aV 60 [ar 0 0,aa ab,.row 10,aa ab,.row 10,aa bI] (.aY []) [afh] [.box [.hole (az 7),.hole (az 7),.arr 1],.arr bI] [.box [.hole (az 7),.hole (az 7),.arr 2],.gone,.arr bI]
def P':=aV 24 [.row 13,.row 13,aa .str] (.aY [aa (.slice bI),aa ab])
def ab4:=bR 0 [(3,aa bI),(4,ar 1 0),(6,ar 2 0),(10,.c (.arr 3)),(39,aa (az 16)),(40,aa ab),(41,aa ab)] [.gone,cc (az 7),.bj 10,.arr bI] [bJ (.exit 0) [(10,.c (.arr 1))] [.gone,.arr bI]] [] [(.slot 10,bI)]
def afC:=aV 93 [.row 12,aa ab,.row 10,.c (.arr 0)] (aa (.slice bI)) [ab4] [.arr ab] [.gone]
def ab5:=bR 0 [(3,aa bI),(4,ar 0 0),(6,ar 1 0),(10,.c (.arr 2)),(39,aa (az 16)),(40,aa ab),(41,aa ab)] [cc (az 7),.bj 10,.arr bI] [bJ (.exit 0) [(10,.c (.arr 0))] [.arr bI]] [] [(.slot 10,bI)]
def afD:=aV 93 [.row 12,aa ab,.row 10,aa bI] (aa (.slice bI)) [ab5]
def EJ:=aV 58 [.row 12,aa ab,.row 10] (.aY [aa (.slice bI),aa ab])
def PV:=aV 22 [.row 13,.row 13,aa .str] (.aY [aa (.slice bI),aa ab])
def Qv:=bR 0 [(0,aa bI),(1,aa bI),(5,aa ab)] [] [eV 4 .bool,gx 0]
def Qu:=aV 62 [aa bI,aa bI] (aa .bool) [Qv]
def Ql:=bR 0 [(0,aa (.slice bI)),(1,aa (.slice bI)),(5,aa ab)] [] [eV 4 .bool,gx 0]
def Qk:=aV 26 [aa (.slice bI),aa (.slice bI)] (aa .bool) [Ql]
def EC:=aV 11 [] (aa .bool)
def aeH:=aV 154 [.row 7] (.row 7)
def aeW:=aV 195 [.row 9,.row 9] (aa .bool)
def Nr:=bR 0 [(2,ar 0 0),(3,ar 1 0),(5,aa ab)] [.bj 7,.bj 7] [eV 4 .bool,bJ (.exit 0) [(2,ar 0 0),(3,ar 1 0)] [.bj 7,.bj 7]]
def Ns:=bR 1 [(2,ar 0 0),(3,ar 1 0),(6,aa ab)] [.bj 7,.bj 7] [eV 4 .bool,gx 2]
def aeG:=aV 153 [.row 7,.row 7] (aa .bool) [Nr,Ns]
def aeX:=aV 196 [aa (.int .u8)] (aa .bool)
def aeY:=aV 197 [aa (.int .u8)] (aa .bool)
def Nt:=bR 0 [(0,aa .str),(3,aa ab)] [] [eV 2 .bool,gx 0]
def aeI:=aV 155 [aa .str] (aa .bool) [Nt]
def aeZ:=aV 198 [aa ab,aa ab] (aa .bool)
def L4:=bR 0 [(0,aa (az 8)),(4,aa ab),(5,aa ab)] [] [eV 2 .bool,bJ (.exit 2) [(0,aa (az 8)),(4,aa ab)]]
def Nu:=bR 0 [(0,aa (az 8)),(3,aa ab),(4,aa ab)] [] [eV 2 .bool,bJ (.exit 0) [(0,aa (az 8))]] [L4]
def aeJ:=aV 156 [aa (az 8)] (aa .bool) [Nu]
def L5:=bR 0 [(0,aa (az 9)),(1,aa .bool),(6,aa ab),(7,ar 0 0),(8,aa ab)] [.bj 9] [eV 4 .bool,bJ (.exit 2) [(0,aa (az 9)),(1,aa .bool),(6,aa ab),(7,ar 0 0)] [.bj 9]]
def Nv:=bR 0 [(0,aa (az 9)),(1,aa .bool),(5,aa ab),(6,aa ab)] [] [eV 4 .bool,bJ (.exit 0) [(0,aa (az 9)),(1,aa .bool)]] [L5]
def aeK:=aV 157 [aa (az 9),aa .bool] (aa .bool) [Nv]
def aej:=aV 113 [.row 7] (aa .bool)
def Oy:=bR 0 [(1,ar 0 0),(3,.c (.arr 1)),(4,aa ab)] [.bj 7,.arr ab] [bJ (.exit 0) [(1,ar 0 0),(3,.c (.arr 1))] [.bj 7,.arr ab]] [] [(.slot 3,ab)]
def aek:=aV 114 [.row 7] (aa bI) [Oy]
def Nd:=bR 0 [(1,ar 0 0),(3,aa ab),(4,ar 1 0),(5,aa ab)] [cc (az 7),.box [.hole ab,.hole .str,.hole ab,.hole ab,.hole ab,.hole (az 8),.hole (az 9),.hole ab,.hole ab,.hole .bool]] [eV 2 ab,bJ (.exit 2) [(1,ar 0 0),(3,aa ab),(4,ar 1 0)] [cc (az 7),.box [.hole ab,.hole .str,.hole ab,.hole ab,.hole ab,.hole (az 8),.hole (az 9),.hole ab,.hole ab,.hole .bool]]]
def Nf:=bR 1 [(1,ar 0 0),(3,aa ab),(4,ar 1 0),(6,aa bI),(7,aa ab)] [cc (az 7),.box [.hole ab,.hole .str,.hole ab,.hole ab,.hole ab,.hole (az 8),.hole (az 9),.hole ab,.hole ab,.hole .bool]] [eV 2 ab,bJ (.exit 4) [(1,ar 0 0),(3,aa ab),(4,ar 1 0)] [cc (az 7),.box [.hole ab,.hole .str,.hole ab,.hole ab,.hole ab,.hole (az 8),.hole (az 9),.hole ab,.hole ab,.hole .bool]]]
def QB:=bR 0 [(1,ar 0 0),(3,aa ab)] [cc (az 7)] [eV 2 ab,gx 0] [Nd,Nf]
def aft:=aV 79 [.row 12] (aa ab) [QB]
def afq:=aV 75 [.row 12,aa ab] (aa ab)
def afi:=aV 67 [.row 13,.row 13] (aa ab)
def afz:=aV 87 [aa bI,aa ab] (.row 19)
def Oz:=bR 0 [(0,aa .str),(4,aa (.int .u64)),(5,aa ab)] [] [bJ (.exit 0) [(4,aa (.int .u64))]]
def aeL:=aV 158 [aa .str] (.aY [aa (.int .u64),aa ab]) [Oz]
def aem:=aV 116 [aa .str] (.aY [aa (.int .u64),aa .bool])
def aen:=aV 117 [aa (.int .u64)] (aa ab)
def aeo:=aV 118 [aa bI,aa ab] (aa bI)
def OA:=bR 0 [(0,aa .str),(5,aa (.int .u64)),(6,aa (.int .u64)),(7,aa ab)] [] [bJ .ret [(2,aa (.int .u64)),(3,aa ab),(4,aa ab)],gx 0]
def ae0:=aV 199 [aa .str] (.aY [aa (.int .u64),aa ab,aa ab]) [OA]
def aeM:=aV 159 [aa .str] (.aY [aa ab,aa .str,aa ab])
def aep:=aV 123 [.row 10] (.row 19)
def ED:=aV 119 [.row 12,.row 7,aa .str,aa ab,aa bI] (.row 19)
def ae2:=aV 200 [aa .str] (.aY [aa .str,aa .str,aa .bool])
def OB:=bR 0 [(0,aa .str),(4,.c (.arr 0))] [.arr .str] [bJ .ret [(2,.c (.ay)),(3,aa ab)],bJ (.exit 0) [(4,.c (.arr 0))] [.arr .str]] [] [(.slot 4,.str)]
def aeO:=aV 160 [aa .str] (.aY [aa jj,aa ab]) [OB]
def zL:=bR 0 [(3,aa ab),(4,aa bI),(5,ar 0 0),(6,ar 1 0),(10,ar 2 0),(11,aa jj),(13,ar 3 0),(14,aa ab)] [cc (az 7),.bj 7,.box [.hole ab,.hole .bool,.hole ab,.hole .str,.hole ab,.ay,.ay,.ay,.ay,.hole ab,.hole .bool],.box [.hole ab,.hole .bool,.hole ab,.hole .str,.hole ab,.ay,.arr 4,.ay],.arr (.nm 10)] [bJ .ret [(10,ar 0 0)] [.bj 19],bJ (.exit 0) [(10,ar 0 0),(13,ar 1 0)] [.box [.hole ab,.hole .bool,.hole ab,.hole .str,.hole ab,.ay,.ay,.ay,.ay,.hole ab,.hole .bool],.box [.hole ab,.hole .bool,.hole ab,.hole .str,.hole ab,.ay,.arr 2,.ay],.arr (.nm 10)]] [] [(.via 13 6,.nm 10)]
def EE:=aV 120 [.row 12,.row 7,aa .str,aa ab,aa bI] (.row 19) [zL]
def zM:=bR 0 [(3,aa ab),(4,aa bI),(5,ar 0 0),(6,ar 1 0),(10,ar 2 0),(11,aa jj),(13,ar 3 0),(14,aa ab)] [cc (az 7),.bj 7,.box [.hole ab,.hole .bool,.hole ab,.hole .str,.hole ab,.ay,.ay,.ay,.ay,.hole ab,.hole .bool],.box [.hole ab,.hole .bool,.hole ab,.hole .str,.hole ab,.arr 4,.ay,.ay],.arr (.nm 10)] [bJ .ret [(10,ar 0 0)] [.bj 19],bJ (.exit 0) [(3,aa ab),(4,aa bI),(5,ar 0 0),(6,ar 1 0),(10,ar 2 0),(11,aa jj),(13,ar 3 0)] [cc (az 7),.bj 7,.box [.hole ab,.hole .bool,.hole ab,.hole .str,.hole ab,.ay,.ay,.ay,.ay,.hole ab,.hole .bool],.box [.hole ab,.hole .bool,.hole ab,.hole .str,.hole ab,.arr 4,.ay,.ay],.arr (.nm 10)]] [] [(.via 13 5,.nm 10)]
def OC:=bR 1 [(3,aa ab),(4,aa bI),(5,ar 0 0),(6,ar 1 0),(10,ar 2 0),(11,aa jj),(13,ar 3 0),(16,aa ab)] [cc (az 7),.bj 7,.box [.hole ab,.hole .bool,.hole ab,.hole .str,.hole ab,.ay,.ay,.ay,.ay,.hole ab,.hole .bool],.box [.hole ab,.hole .bool,.hole ab,.hole .str,.hole ab,.arr 4,.ay,.ay],.arr (.nm 10)] [bJ .ret [(10,ar 0 0)] [.bj 19],bJ (.exit 2) [(3,aa ab),(4,aa bI),(5,ar 0 0),(6,ar 1 0),(10,ar 2 0),(11,aa jj),(13,ar 3 0)] [cc (az 7),.bj 7,.box [.hole ab,.hole .bool,.hole ab,.hole .str,.hole ab,.ay,.ay,.ay,.ay,.hole ab,.hole .bool],.box [.hole ab,.hole .bool,.hole ab,.hole .str,.hole ab,.arr 4,.ay,.ay],.arr (.nm 10)]]
def zl:=bR 2 [(3,aa ab),(4,aa bI),(5,ar 0 0),(6,ar 1 0),(10,ar 2 0),(11,aa jj),(13,ar 3 0),(17,aa ab)] [cc (az 7),.bj 7,.box [.hole ab,.hole .bool,.hole ab,.hole .str,.hole ab,.ay,.ay,.ay,.ay,.hole ab,.hole .bool],.box [.hole ab,.hole .bool,.hole ab,.hole .str,.hole ab,.arr 4,.arr 5,.ay],.arr (.nm 10),.arr (.nm 10)] [bJ .ret [(10,ar 0 0)] [.bj 19],bJ (.exit 4) [(10,ar 0 0),(13,ar 1 0)] [.box [.hole ab,.hole .bool,.hole ab,.hole .str,.hole ab,.ay,.ay,.ay,.ay,.hole ab,.hole .bool],.box [.hole ab,.hole .bool,.hole ab,.hole .str,.hole ab,.arr 2,.arr 3,.ay],.arr (.nm 10),.arr (.nm 10)]] [] [(.via 13 6,.nm 10)]
def EF:=aV 121 [.row 12,.row 7,aa .str,aa ab,aa bI] (.row 19) [zM,OC,zl]
def OD:=bR 0 [(0,aa .str),(4,.c (.arr 0)),(5,aa ab)] [.arr (.nm 14)] [bJ .ret [(2,.c (.ay)),(3,aa ab)],bJ (.exit 0) [(4,.c (.arr 0))] [.arr (.nm 14)]] [] [(.slot 4,.nm 14)]
def aeP:=aV 161 [aa .str] (.aY [aa (az 14),aa ab]) [OD]
def OE:=bR 0 [(0,aa (az 14)),(1,aa ab),(5,aa ab)] [] [eV 4 ab,gx 0]
def aeQ:=aV 162 [aa (az 14),aa ab] (aa ab) [OE]
def zm:=bR 0 [(3,aa ab),(4,aa bI),(5,ar 0 0),(6,ar 1 0),(10,ar 2 0),(11,aa (az 14)),(13,ar 3 0),(14,aa ab)] [cc (az 7),.bj 7,.box [.hole ab,.hole .bool,.hole ab,.hole .str,.hole ab,.ay,.ay,.ay,.ay,.hole ab,.hole .bool],.box [.hole ab,.hole .bool,.hole ab,.hole .str,.hole ab,.ay,.arr 4,.ay],.arr (.nm 10)] [bJ .ret [(10,ar 0 0)] [.bj 19],bJ (.exit 0) [(4,aa bI),(6,ar 0 0),(10,ar 1 0),(11,aa (az 14)),(13,ar 2 0)] [.bj 7,.box [.hole ab,.hole .bool,.hole ab,.hole .str,.hole ab,.ay,.ay,.ay,.ay,.hole ab,.hole .bool],.box [.hole ab,.hole .bool,.hole ab,.hole .str,.hole ab,.ay,.arr 3,.ay],.arr (.nm 10)]] [] [(.via 13 6,.nm 10)]
def OF:=bR 1 [(4,aa bI),(6,ar 0 0),(10,ar 1 0),(11,aa (az 14)),(13,ar 2 0),(18,aa ab)] [.bj 7,.box [.hole ab,.hole .bool,.hole ab,.hole .str,.hole ab,.ay,.ay,.ay,.ay,.hole ab,.hole .bool],.box [.hole ab,.hole .bool,.hole ab,.hole .str,.hole ab,.ay,.arr 3,.arr 4],.arr (.nm 10),.arr (.nm 11)] [bJ .ret [(10,ar 0 0)] [.bj 19],bJ (.exit 2) [(10,ar 0 0),(13,ar 1 0)] [.box [.hole ab,.hole .bool,.hole ab,.hole .str,.hole ab,.ay,.ay,.ay,.ay,.hole ab,.hole .bool],.box [.hole ab,.hole .bool,.hole ab,.hole .str,.hole ab,.ay,.arr 2,.arr 3],.arr (.nm 10),.arr (.nm 11)]] [] [(.via 13 7,.nm 11)]
def EG:=aV 122 [.row 12,.row 7,aa .str,aa ab,aa bI] (.row 19) [zm,OF]
def oL:=aV 88 [.row 12,aa ab,aa .str,aa ab,aa bI] (.row 19)
def ae':=aV 48 [.row 12,aa ab,aa .str] (.aY [.row 19,aa ab])
def aeT:=aV 17 [.row 12,aa ab,aa .str] (.aY [.row 10,aa ab])
def aeq:=aV 124 [.row 10] (aa .bool)
def aer:=aV 125 [aa ab,aa .bool] (aa .bool)
def OG:=bR 0 [(1,aa (az 11)),(2,ar 0 0),(5,aa ab)] [.bj 7] [eV 4 .bool,gx 0]
def aes:=aV 126 [.row 7,aa (az 11)] (aa .bool) [OG]
def zn:=bR 0 [(1,aa ab),(2,aa (az 10)),(3,aa .bool),(4,ar 0 0),(9,aa ab)] [cc (az 7)] [eV 8 .bool,gx 0]
def EH:=aV 127 [.row 12,aa ab,aa (az 10),aa .bool] (aa .bool) [zn]
def xm:=bR 0 [(3,aa .bool),(4,ar 0 0),(6,ar 1 0),(9,ar 2 0),(12,aa ab)] [cc (az 7),.bj 10,.box [.hole ab,.hole .str,.hole ab,.hole ab,.hole ab,.hole (az 8),.hole (az 9),.hole ab,.hole ab,.hole .bool]] [eV 8 .bool,gx 1]
def QE:=bR 1 [(6,ar 0 0),(15,aa ab)] [.bj 10] [eV 8 .bool,gx 3]
def uC:=aV 91 [.row 12,aa ab,.row 10,aa .bool] (aa .bool) [xm,QE]
def afu:=aV 80 [.row 12,aa ab,.row 10] (aa .bool)
def ae8:=aV 44 [.row 12,aa ab,.row 10] (aa ab)
def afB:=aV 90 [.row 10] (.agg [.hole ab,.hole .bool,.hole ab,.hole .str,.hole ab,.arr 0,.arr 1,.arr 2]) [] [] [.arr (.nm 10),.arr (.nm 10),.arr (.nm 11)]
def xf:=bR 0 [(1,ar 0 0),(2,ar 1 0),(3,aa ab)] [.box [.hole ab,.hole .bool,.hole ab,.hole .str,.hole ab,.arr 2,.arr 3,.hole (az 11)],.box [.hole ab,.hole .bool,.hole ab,.hole .str,.hole ab,.ay,.ay,.ay],.arr (.nm 10),.arr (.nm 10)] [bJ (.exit 0) [(1,ar 0 0),(2,ar 1 0)] [.box [.hole ab,.hole .bool,.hole ab,.hole .str,.hole ab,.arr 2,.arr 3,.hole (az 11)],.box [.hole ab,.hole .bool,.hole ab,.hole .str,.hole ab,.ay,.ay,.ay],.arr (.nm 10),.arr (.nm 10)]]
def Bp:=aV 56 [.row 10] (.row 10) [xf]
def afg:=aV 57 [.row 12,aa ab,.row 10] (aa .bool)
def ae1:=aV 20 [.row 12,aa ab,.row 10] (.aY [.row 10,aa ab])
def ae9:=aV 46 [.row 12,aa ab,.row 10,.row 12,aa ab] (aa ab)
def afv:=aV 81 [aa bI] (.row 20)
def afy:=aV 86 [.row 10] (.row 20)
def afx:=aV 85 [aa bI,aa ab] (aa bI)
def EO:=aV 83 [.row 12,.row 7,.row 10,.row 12,.row 7,aa bI] (.row 20)
def aeU:=aV 18 [.row 10,.row 10] (aa .bool)
def ael:=aV 115 [.row 9,.row 10] (aa .bool)
def xk:=bR 0 [(5,aa bI),(6,ar 0 0),(7,ar 1 0),(8,ar 2 0),(9,ar 3 0),(10,ar 4 0),(12,ar 5 0),(13,ar 6 0),(14,aa ab)] [cc (az 7),.bj 7,.bj 10,cc (az 7),.bj 7,.box [.hole ab,.hole .bool,.hole ab,.hole .str,.hole ab,.ay,.ay,.ay,.ay,.hole .bool],.box [.hole ab,.hole .bool,.hole ab,.hole .str,.hole ab,.ay,.arr 7,.ay],.arr (.nm 10)] [bJ .ret [(12,ar 0 0)] [.bj 20],bJ (.exit 0) [(5,aa bI),(6,ar 0 0),(7,ar 1 0),(8,ar 2 0),(10,ar 3 0),(12,ar 4 0),(13,ar 5 0)] [cc (az 7),.bj 7,.bj 10,.bj 7,.box [.hole ab,.hole .bool,.hole ab,.hole .str,.hole ab,.ay,.ay,.ay,.ay,.hole .bool],.box [.hole ab,.hole .bool,.hole ab,.hole .str,.hole ab,.ay,.arr 6,.ay],.arr (.nm 10)]] [] [(.via 13 6,.nm 10)]
def QD:=bR 1 [(5,aa bI),(6,ar 0 0),(7,ar 1 0),(8,ar 2 0),(10,ar 3 0),(12,ar 4 0),(13,ar 5 0),(20,aa ab)] [cc (az 7),.bj 7,.bj 10,.bj 7,.box [.hole ab,.hole .bool,.hole ab,.hole .str,.hole ab,.ay,.ay,.ay,.ay,.hole .bool],.box [.hole ab,.hole .bool,.hole ab,.hole .str,.hole ab,.ay,.arr 6,.arr 7],.arr (.nm 10),.arr (.nm 11)] [bJ .ret [(12,ar 0 0)] [.bj 20],bJ (.exit 2) [(12,ar 0 0),(13,ar 1 0)] [.box [.hole ab,.hole .bool,.hole ab,.hole .str,.hole ab,.ay,.ay,.ay,.ay,.hole .bool],.box [.hole ab,.hole .bool,.hole ab,.hole .str,.hole ab,.ay,.arr 2,.arr 3],.arr (.nm 10),.arr (.nm 11)]] [] [(.via 13 7,.nm 11)]
def EP:=aV 84 [.row 12,.row 7,.row 10,.row 12,.row 7,aa bI] (.row 20) [xk,QD]
def xd:=bR 0 [(5,aa bI),(6,ar 0 0),(8,ar 1 0),(9,ar 2 0),(12,ar 3 0),(13,ar 4 0),(14,ar 5 0),(17,ar 6 0),(18,aa ab)] [cc (az 7),.bj 10,cc (az 7),.box [.hole ab,.hole .bool,.hole ab,.hole .str,.hole ab,.ay,.ay,.ay,.ay,.hole .bool],.bj 7,.bj 7,.box [.hole ab,.hole .bool,.hole ab,.hole .str,.hole ab,.arr 7,.ay,.hole (az 11)],.arr (.nm 10)] [bJ .ret [(12,ar 0 0)] [.bj 20],bJ (.exit 0) [(5,aa bI),(6,ar 0 0),(8,ar 1 0),(9,ar 2 0),(12,ar 3 0),(13,ar 4 0),(14,ar 5 0),(17,ar 6 0)] [cc (az 7),.bj 10,cc (az 7),.box [.hole ab,.hole .bool,.hole ab,.hole .str,.hole ab,.ay,.ay,.ay,.ay,.hole .bool],.bj 7,.bj 7,.box [.hole ab,.hole .bool,.hole ab,.hole .str,.hole ab,.arr 7,.ay,.hole (az 11)],.arr (.nm 10)]] [] [(.via 17 5,.nm 10)]
def xe:=bR 1 [(5,aa bI),(6,ar 0 0),(8,ar 1 0),(9,ar 2 0),(12,ar 3 0),(13,ar 4 0),(14,ar 5 0),(17,ar 6 0),(20,aa ab)] [cc (az 7),.bj 10,cc (az 7),.box [.hole ab,.hole .bool,.hole ab,.hole .str,.hole ab,.ay,.ay,.ay,.ay,.hole .bool],.bj 7,.bj 7,.box [.hole ab,.hole .bool,.hole ab,.hole .str,.hole ab,.arr 7,.arr 8,.hole (az 11)],.arr (.nm 10),.arr (.nm 10)] [bJ .ret [(12,ar 0 0)] [.bj 20],bJ (.exit 2) [(12,ar 0 0),(17,ar 1 0)] [.box [.hole ab,.hole .bool,.hole ab,.hole .str,.hole ab,.ay,.ay,.ay,.ay,.hole .bool],.box [.hole ab,.hole .bool,.hole ab,.hole .str,.hole ab,.arr 2,.arr 3,.hole (az 11)],.arr (.nm 10),.arr (.nm 10)]] [] [(.via 17 6,.nm 10)]
def sa:=aV 47 [.row 12,aa ab,.row 10,.row 12,aa ab,aa bI] (.row 20) [xd,xe]
def aeN:=aV 16 [.row 12,aa ab,.row 10,.row 12,aa ab] (.aY [.row 10,aa ab])
def xc:=bR 0 [(3,ar 0 0),(5,ar 1 0),(7,ar 2 0),(8,aa ab),(9,aa ab)] [cc (az 7),.bj 10,.bj 7] [bJ (.exit 0) [(5,ar 0 0),(8,aa ab)] [.bj 10]]
def Bn:=aV 45 [.row 12,aa ab,.row 10] (aa ab) [xc]
def aeC:=aV 15 [.row 12,aa ab,.row 10] (.aY [aa .str,aa ab])
def ae7:=aV 43 [.row 13,.row 13,aa .str] (.aY [.row 21,aa ab])
def aeu:=aV 13 [.row 13,.row 13,aa .str] (.aY [aa .str,aa ab])
def c9:=aV 3 [.row 0] (aa .bool)
def iq:=aV 4 [.row 1] (aa .bool)
def kL:=aV 5 [.row 0] (aa .bool)
def Qw:=aV 7 [.row 0] (aa .bool)
def uB:=aV 6 [.row 0] (aa .bool)
def afA:=bR 0 [(5,ar 0 0),(6,ar 1 0),(9,.c (.arr 2)),(39,aa jj),(40,aa ab),(41,aa ab)] [.bj 13,.bj 13,.arr .str] [eV 4 .bool,bJ (.exit 0) [(5,ar 0 0),(6,ar 1 0),(9,.c (.arr 2))] [.bj 13,.bj 13,.arr .str]]
def e8:=aV 8 [.row 0,aa jj] (aa .bool) [afA]
def ag1:List ev:=[Qo,Qp,P9,Pe,D0,xa,Qb,Qa,PN,P5,P6,PK,P7,PL,P8,PM,Pr,Ps,Bb,EB]
def ag2:List ev:=[EL,Pt,Pu,Pv,PJ,PI,Pp,oK,Qj,Qc,PO,Pm,Pl,QG,Bc,Qd,PQ,Bd,PB,Qh]
def ag3:List ev:=[P2,Qg,PZ,Qi,P4,P3,PH,Be,PR,PT,PS,uy,Bf,w4,Pd,Bq,Pf,P1,PF,PG]
def ag4:List ev:=[Bm,D1,D2,Bl,r9,Pg,QF,Ph,Pq,NL,NM,Pj,Pk,w5,A9,Pw,Px,Pn,Py,PU]
def ag5:List ev:=[uz,uA,D3,xg,PW,P0,PD,PY,Qe,Qf,Pz,Po,PA,PX,PC,PE,Bj,Bk,qh,Ba]
def ag6:List ev:=[qi,Bg,Bh,Bi,w6,A',EN,EI,nb,aew,aeS,aev,afG,afE,EK,P',afC,afD,EJ,PV]
def ag7:List ev:=[Qu,Qk,EC]
def rH:List ev:=ag1++ag2++ag3++ag4++ag5++ag6++ag7
theorem ti:rH.all (tS prog)=true:=by kernel_rfl
def rj:cB cN:={GQ with F:=FP (α:=cN.D 17) lu}
theorem sI:gW prog rj:=⟨GR.1,λh r a=>GR.2 h r (abD FR _ r a)⟩
def sW(n:Int):Option aS:=
 some (⟨2,[121],1,false,true,(⟨2,false,n,[],0,[],[],[]⟩:I)⟩:aS)
theorem U4:a6 Qo sW:= .bh
def s3(l:List aS):Option dh:=
 some (⟨(⟨[(⟨5,[82],0,0,0,[],l,0,0,false⟩:ah),(⟨2,[],0,9,0,[],[],0,0,false⟩:ah),(⟨1,[],0,0,0,[],[],0,0,false⟩:ah)]⟩:aR),0⟩:dh)
theorem UH:a6 Qp s3:= .bh
def nO:aq×aq×Int->Option ((Bool) ⊕ (Unit))
 |(a,b,i)=>
 if (i<(a.length:Int):Bool) then if aH i a.length then if aH i b.length then if !(a.getD i.toNat 0=b.getD i.toNat 0:Bool) then some (.inl false)else nO (a,b,aM .i64 i 1)else none else none else some (.inr ())
  partial_fixpoint
theorem U5:cM 62 0 [0] Qv nO:= .rx nO.partial_correctness
def q':aq×aq->Option Bool
 |(a,b)=>
 if !((a.length:Int)=(b.length:Int):Bool) then some false else nO (a,b,0)>>=λo=>match o with
  |.inl c=>
   some c
  |.inr e=>
   some true
theorem Vw:a6 Qu q':= .bh .n (.k U5 .n)
def q0:List aq×List aq×Int->Option ((Bool) ⊕ (Unit))
 |(a,b,i)=>
 if (i<(a.length:Int):Bool) then if aH i a.length then if aH i b.length then q' (a.getD i.toNat [],b.getD i.toNat [])>>=λr=>if !r then some (.inl false)else q0 (a,b,aM .i64 i 1)else none else none else some (.inr ())
  partial_fixpoint
theorem TK:cM 26 0 [0] Ql q0:= .rx q0.partial_correctness (.k Vw .n)
def xW:List aq×List aq->Option Bool
 |(a,b)=>
 if !((a.length:Int)=(b.length:Int):Bool) then some false else q0 (a,b,0)>>=λo=>match o with
  |.inl c=>
   some c
  |.inr e=>
   some true
theorem UA:a6 Qk xW:= .bh .n (.k TK .n)
noncomputable def rk:aR->Option Int:=lh prog rH [o2,o4,o5,rj,pI,o7] 3000 Bb
theorem WM:a6 Bb rk:= .run ti (.k nN (.k nU (.k o6 (.k sI (.k rf (.k s0 .n)))))) (.m (by kernel_rfl)) 3000 λ_=>rfl
noncomputable def vv:aR×Int×aj->Option (I×Int):=lh prog rH [o2,o4,o5,rj,pI,o7] 3000 Bq
theorem VM:a6 Bq vv:= .run ti (.k nN (.k nU (.k o6 (.k sI (.k rf (.k s0 .n)))))) (.m (by kernel_rfl)) 3000 λ_=>rfl
noncomputable def BX:aR×Int×I->Option (I×Int):=lh prog rH [o2,o4,o5,rj,pI,o7] 3000 A9
theorem Wp:a6 A9 BX:= .run ti (.k nN (.k nU (.k o6 (.k sI (.k rf (.k s0 .n)))))) (.m (by kernel_rfl)) 3000 λ_=>rfl
noncomputable def xX:aR×Int×I×aR×Int->Option (I×Int):=lh prog rH [o2,o4,o5,rj,pI,o7] 3000 A'
theorem UB:a6 A' xX:= .run ti (.k nN (.k nU (.k o6 (.k sI (.k rf (.k s0 .n)))))) (.m (by kernel_rfl)) 3000 λ_=>rfl
noncomputable def vw:aR×Int×I->Option (aj×Int):=lh prog rH [o2,o4,o5,rj,pI,o7] 3000 Ba
theorem VN:a6 Ba vw:= .run ti (.k nN (.k nU (.k o6 (.k sI (.k rf (.k s0 .n)))))) (.m (by kernel_rfl)) 3000 λ_=>rfl
noncomputable def G0:aR×Int×I->Option (List aq×Int):=lh prog rH [o2,o4,o5,rj,pI,o7] 3000 EJ
theorem Wq:a6 EJ G0:= .run ti (.k nN (.k nU (.k o6 (.k sI (.k rf (.k s0 .n)))))) (.m (by kernel_rfl)) 3000 λ_=>rfl
noncomputable def F5:Int×I×Int×I×aq×List ah×List ah×List aq->Option (List ah×List ah×List aq):=lh prog rH [o2,o4,o5,rj,pI,o7] 3000 EK
theorem TL:a6 EK F5:= .run ti (.k nN (.k nU (.k o6 (.k sI (.k rf (.k s0 .n)))))) (.m (by kernel_rfl)) 3000 λ_=>rfl
noncomputable def vx (r:dh):Option Int:=
 rk r.cU>>=λa=>if !(a=0:Bool) then some a
 else if(bif (r.aw<0:Bool)then true else ((r.cU.Types.length:Int)<=r.aw:Bool)) then some 4
  else some 0
theorem Vk:a6 EB vx:= .bh (.k WM .n)
noncomputable def mj (b:List dh×Int×Int):Option ((Int) ⊕ (Unit)):=
 match b with
 |(t6,a,t8)=>
 if (t8<a:Bool) then if aH t8 t6.length then vx (t6.getD t8.toNat H8)>>=λr=>if !(r=0:Bool) then some (.inl r)
   else mj (t6,a,aM .i64 t8 1)
  else none
 else some (.inr ())
  partial_fixpoint
theorem UI:cM 65 0 [0] EM mj:= .rx mj.partial_correctness (.k Vk .n)
noncomputable def vy (l:List dh):Option Int:=
 mj (l,(l.length:Int),0)>>=λo=>match o with
 |.inl a=>
  some a
 |.inr b=>
  some 0
theorem Vl:a6 EL vy:= .bh .n (.k UI .n)
noncomputable def sr (g:dh×dh×aj):Option (eS×Int):=
 match g with
 |(w,r,m)=>
 vv (w.cU,w.aw,m)>>=λa=>if !(a.2=0:Bool) then some ((⟨(⟨0,false,0,[],0,[],[],[]⟩:I),(⟨0,false,0,[],0,[],[],[]⟩:I),[]⟩:eS),12)
 else BX (w.cU,w.aw,I.eta a.1)>>=λe=>if !(e.2=0:Bool) then some ((⟨(⟨0,false,0,[],0,[],[],[]⟩:I),(⟨0,false,0,[],0,[],[],[]⟩:I),[]⟩:eS),12)
  else xX (w.cU,w.aw,I.eta e.1,r.cU,r.aw)>>=λf=>if !(f.2=0:Bool) then some ((⟨(⟨0,false,0,[],0,[],[],[]⟩:I),(⟨0,false,0,[],0,[],[],[]⟩:I),[]⟩:eS),12)
   else vw (w.cU,w.aw,I.eta a.1)>>=λc=>if !(c.2=0:Bool) then some ((⟨(⟨0,false,0,[],0,[],[],[]⟩:I),(⟨0,false,0,[],0,[],[],[]⟩:I),[]⟩:eS),3)
    else vv (r.cU,r.aw,c.1)>>=λb=>if !(b.2=0:Bool) then some ((⟨(⟨0,false,0,[],0,[],[],[]⟩:I),(⟨0,false,0,[],0,[],[],[]⟩:I),[]⟩:eS),12)
     else vw (r.cU,r.aw,I.eta b.1)>>=λd=>if !(d.2=0:Bool) then some ((⟨(⟨0,false,0,[],0,[],[],[]⟩:I),(⟨0,false,0,[],0,[],[],[]⟩:I),[]⟩:eS),3)
      else some ((⟨I.eta a.1,I.eta b.1,d.1⟩:eS),0)
theorem UC:a6 EN sr:= .bh (.k VM (.k Wp (.k UB (.k VN .n))))
noncomputable def qC (c:dh×dh×aj):Option (eS×Int):=
 match c with
 |(w,r,m)=>
 vy [w,r]>>=λb=>if !(b=0:Bool) then some ((⟨(⟨0,false,0,[],0,[],[],[]⟩:I),(⟨0,false,0,[],0,[],[],[]⟩:I),[]⟩:eS),b)
 else sr (w,r,m)>>=λa=>some ((⟨I.eta a.1.v,I.eta a.1.u,a.1.message⟩:eS),a.2)
theorem Gl:a6 EI qC:= .bh (.k Vl (.k UC .n))
noncomputable def o9 (b:dh×dh×aj):Option (aj×Int):=
 match b with
 |(w,r,m)=>
 qC (w,r,m)>>=λa=>some (a.1.message,a.2)
theorem VO:a6 nb o9:= .bh (.k Gl .n)
noncomputable def x6 (c:dh×dh×aj):Option (List aq×Int):=
 match c with
 |(w,r,m)=>
 qC (w,r,m)>>=λa=>if !(a.2=0:Bool) then some ([],a.2)
 else F5 (w.aw,I.eta a.1.v,r.aw,I.eta a.1.u,[],w.cU.Types,r.cU.Types,[])>>=λb=>some (b.2.2,0)
theorem Vm:a6 P' x6:= .bh (.k Gl (.k TL .n))
noncomputable def ya (c:dh×dh×aj):Option (List aq×Int):=
 match c with
 |(w,r,m)=>
 qC (w,r,m)>>=λa=>if !(a.2=0:Bool) then some ([],a.2)
 else G0 (r.cU,r.aw,I.eta a.1.u)>>=λb=>some (b.1,b.2)
theorem WN:a6 PV ya:= .bh (.k Gl (.k Wq .n))
noncomputable def B6 (_:Unit):Option Bool:=
 sW 3>>=λr=>s3 [(⟨1,[120],1,false,false,(⟨0,false,0,[],0,[],[],[]⟩:I)⟩:aS),(⟨r.ae,r.Name,r.aw,r.cp,r.bZ,I.eta r.bw⟩:aS)]>>=λe=>sW 3>>=λc=>s3 [(⟨c.ae,c.Name,c.aw,c.cp,c.bZ,I.eta c.bw⟩:aS),(⟨4,[122],2,false,true,(⟨1,true,0,[],0,[],[],[]⟩:I)⟩:aS)]>>=λo=>o9 (e,o,[2,1,10])>>=λg=>sW 3>>=λd=>s3 [(⟨d.ae,d.Name,d.aw,d.cp,d.bZ,I.eta d.bw⟩:aS),(⟨4,[122],2,false,true,(⟨1,true,0,[],0,[],[],[]⟩:I)⟩:aS)]>>=λp=>x6 (e,p,[2,1,10])>>=λi=>sW 3>>=λa=>s3 [(⟨a.ae,a.Name,a.aw,a.cp,a.bZ,I.eta a.bw⟩:aS),(⟨4,[122],2,false,true,(⟨1,true,0,[],0,[],[],[]⟩:I)⟩:aS)]>>=λj=>ya (e,j,[2,1,10])>>=λf=>sW 4>>=λb=>s3 [(⟨b.ae,b.Name,b.aw,b.cp,b.bZ,I.eta b.bw⟩:aS),(⟨4,[122],2,false,true,(⟨1,true,0,[],0,[],[],[]⟩:I)⟩:aS)]>>=λk=>o9 (e,k,[2,1,10])>>=λl=>some (bif bif bif bif decide (g.2=0)then decide (i.2=0)else false then decide (f.2=0)else false then decide (l.2=12)else false then decide (g.1=[2,1,10])else false)>>=λt76=>(if t76 then xW (i.1,[[4]])else some false)>>=λm=>some (bif t76 then m else false)>>=λt82=>(if t82 then xW (f.1,[[]])else some false)>>=λn=>some (bif t82 then n else false)
theorem UJ:a6 EC B6:= .bh (.k U4 (.k UH (.k VO (.k Vm (.k WN (.k UA .n))))))
def iF(n:Int):aS:=⟨2,[121],1,false,true,⟨2,false,n,[],0,[],[],[]⟩⟩
def ur:aS:=⟨1,[120],1,false,false,⟨0,false,0,[],0,[],[],[]⟩⟩
def r2:aS:=⟨4,[122],2,false,true,⟨1,true,0,[],0,[],[],[]⟩⟩
def fV(l:List aS):dh:=⟨⟨[⟨5,[82],0,0,0,[],l,0,0,false⟩,⟨2,[],0,9,0,[],[],0,0,false⟩,⟨1,[],0,0,0,[],[],0,0,false⟩]⟩,0⟩
def oH:I:=⟨5,false,0,[],0,[],[⟨2,false,5,[],0,[],[],[]⟩,⟨2,false,3,[],0,[],[],[]⟩],[]⟩
def r1:I:=⟨5,false,0,[],0,[],[⟨2,false,3,[],0,[],[],[]⟩,⟨1,true,0,[],0,[],[],[]⟩],[⟨1,[10]⟩]⟩
def gK:dh:=fV [ur,iF 3]
def iS:dh:=fV [iF 3,r2]
def r0:dh:=fV [iF 4,r2]
theorem ac2(n:Int):sW n=some (iF n):=rfl
theorem ac3(l:List aS):s3 l=some (fV l):=rfl
theorem ad9(n:Int):(⟨(iF n).ae,(iF n).Name,(iF n).aw,(iF n).cp,(iF n).bZ,(iF n).bw⟩:aS)=iF n:=rfl
theorem ad8:(⟨1,[120],1,false,false,(⟨0,false,0,[],0,[],[],[]⟩:I)⟩:aS)=ur:=rfl
theorem ad':(⟨4,[122],2,false,true,(⟨1,true,0,[],0,[],[],[]⟩:I)⟩:aS)=r2:=rfl
theorem O4:rk gK.cU=some 0:=by kernel_rfl
theorem ad3:rk iS.cU=some 0:=by kernel_rfl
theorem ad4:rk r0.cU=some 0:=by kernel_rfl
theorem OZ:vv (gK.cU,gK.aw,[2,1,10])=some (oH,0):=by kernel_rfl
theorem adO:vv (iS.cU,iS.aw,[2,1,10])=some (r1,0):=by kernel_rfl
theorem O2:BX (gK.cU,gK.aw,oH)=some (oH,0):=by kernel_rfl
theorem ad1:xX (gK.cU,gK.aw,oH,iS.cU,iS.aw)=some (r1,0):=by kernel_rfl
theorem ad2:xX (gK.cU,gK.aw,oH,r0.cU,r0.aw)=some (⟨0,false,0,[],0,[],[],[]⟩,12):=by kernel_rfl
theorem adP:vw (gK.cU,gK.aw,oH)=some ([2,1,10],0):=by kernel_rfl
theorem adQ:vw (iS.cU,iS.aw,r1)=some ([2,1,10],0):=by kernel_rfl
theorem ad0:G0 (iS.cU,iS.aw,r1)=some ([[]],0):=by kernel_rfl
theorem adL:F5 (gK.aw,oH,iS.aw,r1,[],gK.cU.Types,iS.cU.Types,[])=some (gK.cU.Types,iS.cU.Types,[[4]]):=by kernel_rfl
theorem O5{l:List aS}(h:rk (fV l).cU=some 0):vx (fV l)=some 0:=by
 rw[vx,h];rfl
theorem O7{l m:List aS}(h1:rk (fV l).cU=some 0)(b:rk (fV m).cU=some 0):vy [fV l,fV m]=some 0:=by
 have a:mj ([fV l,fV m],2,2)=some (.inr ()):=by rw[mj];rfl
 have aK:mj ([fV l,fV m],2,1)=some (.inr ()):=by
  rw[mj,ad (by decide),ad (by rfl)];show(vx (fV m)>>=_)=_;rw[O5 b];exact a
 have cX:mj ([fV l,fV m],2,0)=some (.inr ()):=by
  rw[mj,ad (by decide),ad (by rfl)];show(vx (fV l)>>=_)=_;rw[O5 h1];exact aK
 rw[vy];show(mj ([fV l,fV m],2,0)>>=_)=_;rw[cX];rfl
def w2(gd:aR×Int×aj->Option (I×Int))(gs:aR×Int×I->Option (I×Int))(uG:aR×Int×I×aR×Int->Option (I×Int))(ge:aR×Int×I->Option (aj×Int))(g:dh×dh×aj):Option (eS×Int):=
 match g with
 |(w,r,m)=>
 gd (w.cU,w.aw,m)>>=λa=>if !(a.2=0:Bool) then some ((⟨(⟨0,false,0,[],0,[],[],[]⟩:I),(⟨0,false,0,[],0,[],[],[]⟩:I),[]⟩:eS),12)else gs (w.cU,w.aw,I.eta a.1)>>=λe=>if !(e.2=0:Bool) then some ((⟨(⟨0,false,0,[],0,[],[],[]⟩:I),(⟨0,false,0,[],0,[],[],[]⟩:I),[]⟩:eS),12)else uG (w.cU,w.aw,I.eta e.1,r.cU,r.aw)>>=λf=>if !(f.2=0:Bool) then some ((⟨(⟨0,false,0,[],0,[],[],[]⟩:I),(⟨0,false,0,[],0,[],[],[]⟩:I),[]⟩:eS),12)else ge (w.cU,w.aw,I.eta a.1)>>=λc=>if !(c.2=0:Bool) then some ((⟨(⟨0,false,0,[],0,[],[],[]⟩:I),(⟨0,false,0,[],0,[],[],[]⟩:I),[]⟩:eS),3)else gd (r.cU,r.aw,c.1)>>=λb=>if !(b.2=0:Bool) then some ((⟨(⟨0,false,0,[],0,[],[],[]⟩:I),(⟨0,false,0,[],0,[],[],[]⟩:I),[]⟩:eS),12)else ge (r.cU,r.aw,I.eta b.1)>>=λd=>if !(d.2=0:Bool) then some ((⟨(⟨0,false,0,[],0,[],[],[]⟩:I),(⟨0,false,0,[],0,[],[],[]⟩:I),[]⟩:eS),3)else some ((⟨I.eta a.1,I.eta b.1,d.1⟩:eS),0)
theorem Pb:sr=w2 vv BX xX vw:=rfl
section
variable {gd:aR×Int×aj->Option (I×Int)}{gs:aR×Int×I->Option (I×Int)}{uG:aR×Int×I×aR×Int->Option (I×Int)}{ge:aR×Int×I->Option (aj×Int)}{A B:dh}{m o:aj}{v u w:I}
theorem ac4 (h1:gd (A.cU,A.aw,m)=some (v,0))(a:gs (A.cU,A.aw,v)=some (v,0))(b:uG (A.cU,A.aw,v,B.cU,B.aw)=some (w,0))(c:ge (A.cU,A.aw,v)=some (m,0))
 (ba:gd (B.cU,B.aw,m)=some (u,0))(d:ge (B.cU,B.aw,u)=some (o,0)):w2 gd gs uG ge (A,B,m)=some (⟨v,u,o⟩,0):=by
 unfold w2;simp[h1,a,b,c,ba,d,I.aU]
theorem ac5(h1:gd (A.cU,A.aw,m)=some (v,0))(a:gs (A.cU,A.aw,v)=some (v,0))(b:uG (A.cU,A.aw,v,B.cU,B.aw)=some (w,12)):
 w2 gd gs uG ge (A,B,m)=some (⟨⟨0,false,0,[],0,[],[],[]⟩,⟨0,false,0,[],0,[],[],[]⟩,[]⟩,12):=by
 unfold w2;simp[h1,a,b,I.aU]
theorem Q9{e:Int}(h1:go [A,B]=some 0)(c:gc (A,B,m)=some (⟨v,u,o⟩,e)):
 (go [A,B]>>=λb=>if !(b=0:Bool) then some ((⟨(⟨0,false,0,[],0,[],[],[]⟩:I),(⟨0,false,0,[],0,[],[],[]⟩:I),[]⟩:eS),b)
  else gc (A,B,m)>>=λa=>some ((⟨I.eta a.1.v,I.eta a.1.u,a.1.message⟩:eS),a.2))=some (⟨v,u,o⟩,e):=by
 rw[h1];simp[c,I.aU]
end
theorem adM:sr (gK,iS,[2,1,10])=some (⟨oH,r1,[2,1,10]⟩,0):=by
 rw[Pb];exact ac4 OZ O2 ad1 adP adO adQ
theorem adN:sr (gK,r0,[2,1,10])=some (⟨⟨0,false,0,[],0,[],[],[]⟩,⟨0,false,0,[],0,[],[],[]⟩,[]⟩,12):=by
 rw[Pb];exact ac5 OZ O2 ad2
theorem Ev:qC (gK,iS,[2,1,10])=some (⟨oH,r1,[2,1,10]⟩,0):=by
 have h:vy [gK,iS]=some 0:=O7 O4 ad3;rw[qC];exact Q9 (gc:=sr) h adM
theorem ad5:qC (gK,r0,[2,1,10])=some (⟨⟨0,false,0,[],0,[],[],[]⟩,⟨0,false,0,[],0,[],[],[]⟩,[]⟩,12):=by
 have h:vy [gK,r0]=some 0:=O7 O4 ad4;rw[qC];exact Q9 (gc:=sr) h adN
theorem adR:o9 (gK,iS,[2,1,10])=some ([2,1,10],0):=by rw[o9,Ev];rfl
theorem adS:o9 (gK,r0,[2,1,10])=some ([],12):=by rw[o9,ad5];rfl
theorem adT:x6 (gK,iS,[2,1,10])=some ([[4]],0):=by
 rw[x6,Ev];simp[adL,I.aU]
theorem adU:ya (gK,iS,[2,1,10])=some ([[]],0):=by
 rw[ya,Ev];simp[ad0,I.aU]
theorem ad7:q' ([4],[4])=some true:=by
 have h1:nO ([4],[4],1)=some (.inr ()):=by rw[nO];rfl
 have h0:nO ([4],[4],0)=some (.inr ()):=by
  rw[nO];exact h1
 rw[q',h0];rfl
theorem ad6:q' ([],[])=some true:=by
 have h0:nO ([],[],0)=some (.inr ()):=by rw[nO];rfl
 rw[q',h0];rfl
theorem O6{p:aq}(a:q' (p,p)=some true):xW ([p],[p])=some true:=by
 have h1:q0 ([p],[p],1)=some (.inr ()):=by rw[q0];rfl
 have h0:q0 ([p],[p],0)=some (.inr ()):=by
  rw[q0,ad (by rfl),ad (by rfl),ad (by rfl)];show(q' (p,p)>>=_)=_;rw[a];exact h1
 rw[xW,h0];rfl
theorem aaM:B6 ()=some true:=by
 have a:o9 (fV [ur,iF 3],fV [iF 3,r2],[2,1,10])=_:=adR;have b:o9 (fV [ur,iF 3],fV [iF 4,r2],[2,1,10])=_:=adS;have c:x6 (fV [ur,iF 3],fV [iF 3,r2],[2,1,10])=_:=adT;have d:ya (fV [ur,iF 3],fV [iF 3,r2],[2,1,10])=_:=adU;unfold B6;simp only[aT,ao,ac2,ac3,I.aU,ad9,ad8,ad'];rw[a,c,d,b];simp only[ao,dq,eo,bS];rw[O6 ad7];simp only[ao,eo,bS];rw[O6 ad6];rfl
def xY(_:Unit):Option Bool:=some true
theorem VP:a6 EC xY:=by
 have:B6=xY:=by funext x;exact aaM
 rw[<-this];exact UJ
theorem U6:xY ()=some true:=rfl
def ra:ek×Int->Option Int
 |(d,i)=>
 if aH i d.ec.length then some (aM .i64 1 (bW .i64 (b' (d.ec.getD i.toNat br).Kind 9)))else none
theorem yG:a6 afj ra:= .bh
def j3(a:Int):Option Bool:=
 some (bif bif decide (a=4)then true else decide (a=5)then true else decide (a=6))
theorem F7:a6 afk j3:= .bh
def pJ(a:dr):Option Int:=
 some (df .i64 (bW .i64 (b' a.A 7)) 3)
theorem Gf:a6 afl pJ:= .bh
def sC(a:dr):Option Int:=
 pJ a>>=λr=>some (aM .i64 r (bW .i64 (b' a.B 6)))
theorem Sx:a6 afm sC:= .bh (.k Gf .n)
def o8:Int×dr×aq->Option aq
 |(i,b,a)=>
 if (i<6:Bool) then if (0<=i:Bool) then if (b' (lr .u8 b.A i) 2=1:Bool) then some [aM .i64 i 1]>>=λt18=>if room 8 (a++t18).length then o8 (aM .i64 i 1,b,a++t18)else none else o8 (aM .i64 i 1,b,a)else none else some a
  partial_fixpoint
theorem UK:cM 72 0 [0] Qx o8:= .rx o8.partial_correctness
def nq(a:dr):Option aq:=
 o8 (0,a,[])>>=λo=>if ((o.length:Int)=0:Bool) then some [1]>>=λt24=>if room 8 (o++t24).length then some (o++t24)else none else some o
theorem SD:a6 afn nq:= .bh .n (.k UK .n)
def yH(a:Int):Option Bool:=
 some (decide (7<=a))
theorem Sl:a6 aey yH:= .bh
def nK:Int×Int×List dr->Option ((Int) ⊕ (Unit))
 |(n,k,b)=>
 if (k<n:Bool) then ra ((⟨b⟩:ek),k)>>=λa=>yH a>>=λc=>if c then some (.inl k)else nK (n,aM .i64 k 1,b)else some (.inr ())
  partial_fixpoint
theorem T1:cM 109 0 [0] NZ nK:= .rx nK.partial_correctness (.k yG (.k Sl .n))
def yJ(c:ek×Int×Int):Option Int:=
 match c with
 |(d,i,code)=>
 some (d.ec.length:Int)>>=λt12=>if !(t12=0:Bool) then some (b' (bW .i64 code) t12)>>=λt16=>ra (d,t16)>>=λr=>yH r>>=λb=>if(bif b then true else (t16<i:Bool)) then some t16 else if (0<i:Bool) then if !(i=0:Bool) then some (b' t16 i)else none else nK (t12,0,d.ec)>>=λo=>match o with
 |.inl a=>
 some a
 |.inr e=>
 some (-1)else none
theorem UL:a6 aeg yJ:= .bh (.k yG (.k Sl .n)) (.k T1 .n)
def yz(a:Int):Option Bool:=
 some (bif decide (1<=a)then decide (a<=4)else false)
theorem Sj:a6 aei yz:= .bh
def nV:Int×Int×Int×List dr->Option ((Int) ⊕ (Unit))
 |(a,n,k,b)=>
 if (k<n:Bool) then if !(n=0:Bool) then some (b' (aM .i64 (bW .i64 a) k) n)>>=λt21=>ra ((⟨b⟩:ek),t21)>>=λr=>yz r>>=λc=>if c then some (.inl t21)else nV (a,n,aM .i64 k 1,b)else none else some (.inr ())
  partial_fixpoint
theorem UM:cM 74 0 [0] Qz nV:= .rx nV.partial_correctness (.k yG (.k Sj .n))
def sH(b:ek×Int):Option Int:=
 match b with
 |(d,code)=>
 nV (code,(d.ec.length:Int),0,d.ec)>>=λo=>match o with
 |.inl a=>
 some a
 |.inr c=>
 some (-1)
theorem SE:a6 afp sH:= .bh .n (.k UM .n)
def yA:ek×Int×Int->Option (I×Bool)
 |(d,t,code)=>
 if aH t d.ec.length then some (d.ec.getD t.toNat br)>>=λa=>ra (d,t)>>=λr=>some (decide (r=8))>>=λt21=>(if t21 then sH (d,0)else some 0)>>=λc=>if(bif t21 then (c<0:Bool)else false) then some ((⟨7,false,0,[],0,[],[],[]⟩:I),true)else if (r=1:Bool) then some ((⟨r,decide (b' code 2=1),0,[],0,[],[],[]⟩:I),true)else if (r=2:Bool) then pJ a>>=λe=>sC a>>=λf=>pJ a>>=λg=>some (aM .i64 (df .i64 f g) 1)>>=λt47=>if !(t47=0:Bool) then some ((⟨r,false,aM .i64 e (b' (bW .i64 code) t47),[],0,[],[],[]⟩:I),true)else none else if (r=3:Bool) then if(bif (0<b' a.A 4:Bool)then (b' code 2=1:Bool)else false) then some ((⟨r,false,0,[97],0,[],[],[]⟩:I),true)else some ((⟨r,false,0,[],0,[],[],[]⟩:I),true)else if (r=4:Bool) then nq a>>=λb=>nq a>>=λi=>some (i.length:Int)>>=λt71=>if !(t71=0:Bool) then some (b' (bW .i64 code) t71)>>=λt72=>if aH t72 b.length then some ((⟨r,false,0,[],b.getD t72.toNat 0,[],[],[]⟩:I),true)else none else none else some (decide (r=5))>>=λt77=>if t77 then if t77 then some ((⟨0,false,0,[],0,[],[],[]⟩:I),false)else some ((⟨r,false,0,[],0,[],[],[]⟩:I),true)else if (r=6:Bool) then some ((⟨0,false,0,[],0,[],[],[]⟩:I),false)else some ((⟨r,false,0,[],0,[],[],[]⟩:I),true)else none
theorem U7:a6 aeh yA:= .bh (.k yG (.k SE (.k Gf (.k Sx (.k SD .n)))))
def qX:Int×Bool×Int×Int×List dr×dr×List aS->Option (Int×Bool×Int×List dr×dr×List aS)
 |(f,e,a,k,c,d,b)=>
 if (k<(d.c0.length:Int):Bool) then if aH k d.c0.length then some (d.c0.getD k.toNat ja)>>=λg=>yJ ((⟨c⟩:ek),f,g.aw)>>=λr=>if(bif (!(aM .i64 1 (bW .i64 (b' g.ae 12))=a:Bool))then true else (r<0:Bool)) then qX (f,e,a,aM .i64 k 1,c,d,b)else some (mz (bW .i32 (aM .i64 97 a)))>>=λt55=>if ([109].length+t55.length<=eC:Bool) then some ([109]++t55)>>=λt56=>if(bif e then (b' g.gV 4=1:Bool)else false) then if(bif e then (2<=b' g.gV 4:Bool)else false) then yA ((⟨c⟩:ek),r,fv .u8 g.gV 4)>>=λi=>some [(⟨a,t56,r,true,i.2,I.eta i.1⟩:aS)]>>=λt87=>if room 160 (b++t87).length then some (f,e,a,c,d,b++t87)else none else some [(⟨a,t56,r,true,false,(⟨0,false,0,[],0,[],[],[]⟩:I)⟩:aS)]>>=λl=>if room 160 (b++l).length then some (f,e,a,c,d,b++l)else none else if(bif e then (2<=b' g.gV 4:Bool)else false) then yA ((⟨c⟩:ek),r,fv .u8 g.gV 4)>>=λj=>some [(⟨a,t56,r,false,j.2,I.eta j.1⟩:aS)]>>=λm=>if room 160 (b++m).length then some (f,e,a,c,d,b++m)else none else some [(⟨a,t56,r,false,false,(⟨0,false,0,[],0,[],[],[]⟩:I)⟩:aS)]>>=λn=>if room 160 (b++n).length then some (f,e,a,c,d,b++n)else none else none else none else some (f,e,a,c,d,b)
  partial_fixpoint
theorem TP:cM 73 0 [0,0] Na qX:= .rx qX.partial_correctness (.k UL (.k U7 .n))
def q1:Int×Bool×Int×List dr×dr×List aS->Option (List aS)
 |(e,f,id,c,d,b)=>
 if (id<=12:Bool) then qX (e,f,id,0,c,d,b)>>=λa=>q1 (a.1,a.2.1,aM .i64 a.2.2.1 1,a.2.2.2.1,a.2.2.2.2.1,a.2.2.2.2.2)else some b
  partial_fixpoint
theorem TM:cM 73 0 [0] Qy q1:= .rx q1.partial_correctness .n (.k TP .n)
def su:ek×Int×Bool->Option (List aS)
 |(d,i,record)=>
 if aH i d.ec.length then q1 (i,record,1,d.ec,d.ec.getD i.toNat br,[])>>=λo=>some o else none
theorem VQ:a6 afo su:= .bh .n (.k TM .n)
def o3:Int×Int×aq×Int×List dr×Int×aj×Int×Int×Int×Int×Int×Bool×List ah×List c4->Option (Int×Int×List dr×Int×aj×Int×Int×Int×Int×Int×Bool×List ah×List c4)
 |(p,o,a,k,c,d,e,f,g,i,j,l,m,n,b)=>
 if (k<(a.length:Int):Bool) then if aH k a.length then if aH k a.length then some (mz (bW .i32 (aM .i64 97 (a.getD k.toNat 0))))>>=λt87=>if ([115].length+t87.length<=eC:Bool) then some [(⟨a.getD k.toNat 0,[115]++t87⟩:c4)]>>=λt90=>if room 24 (b++t90).length then o3 (p,o,a,aM .i64 k 1,c,d,e,f,g,i,j,l,m,n,b++t90)else none else none else none else none else some (p,o,c,d,e,f,g,i,j,l,m,n,b)
  partial_fixpoint
theorem U8:cM 34 0 [0,0] Nb o3:= .rx o3.partial_correctness
def fM:Int×Int×List dr×List ah->Option (List ah)
 |(n,i,b,a)=>
 if (i<n:Bool) then if aH i b.length then some (b.getD i.toNat br)>>=λc=>ra ((⟨b⟩:ek),i)>>=λr=>j3 r>>=λN=>if N then some (mz (bW .i32 (aM .i64 65 i)))>>=λt41=>if (r=2:Bool) then pJ c>>=λQ=>sC c>>=λR=>some [(⟨r,t41,Q,R,0,[],[],0,0,false⟩:ah)]>>=λt167=>if room 120 (a++t167).length then fM (n,aM .i64 i 1,b,a++t167)else none else if (r=3:Bool) then some [(⟨r,t41,0,0,bW .i64 (b' c.A 4),[],[],0,0,false⟩:ah)]>>=λo=>if room 120 (a++o).length then fM (n,aM .i64 i 1,b,a++o)else none else if (r=4:Bool) then nq c>>=λS=>o3 (n,i,S,0,b,r,t41,0,0,0,0,0,decide (b' c.B 2=1),a,[])>>=λd=>some [(⟨d.2.2.2.1,d.2.2.2.2.1,d.2.2.2.2.2.1,d.2.2.2.2.2.2.1,d.2.2.2.2.2.2.2.1,d.2.2.2.2.2.2.2.2.2.2.2.2,[],d.2.2.2.2.2.2.2.2.1,d.2.2.2.2.2.2.2.2.2.1,d.2.2.2.2.2.2.2.2.2.2.1⟩:ah)]>>=λD=>if room 120 (d.2.2.2.2.2.2.2.2.2.2.2.1++D).length then fM (d.1,aM .i64 d.2.1 1,d.2.2.1,d.2.2.2.2.2.2.2.2.2.2.2.1++D)else none else if (r=5:Bool) then su ((⟨b⟩:ek),i,true)>>=λT=>some [(⟨r,t41,0,0,0,[],T,0,0,false⟩:ah)]>>=λG=>if room 120 (a++G).length then fM (n,aM .i64 i 1,b,a++G)else none else if (r=6:Bool) then su ((⟨b⟩:ek),i,false)>>=λj=>if ((j.length:Int)=0:Bool) then some [(⟨5,t41,0,0,0,[],[],0,0,false⟩:ah)]>>=λH=>if room 120 (a++H).length then fM (n,aM .i64 i 1,b,a++H)else none else some [(⟨r,t41,0,0,0,[],j,0,0,decide (b' c.B 2=1)⟩:ah)]>>=λI=>if room 120 (a++I).length then fM (n,aM .i64 i 1,b,a++I)else none else if (r=7:Bool) then if !(n=0:Bool) then some [(⟨r,t41,0,0,bW .i64 (b' c.A 4),[],[],0,b' (bW .i64 c.C) n,false⟩:ah)]>>=λJ=>if room 120 (a++J).length then fM (n,aM .i64 i 1,b,a++J)else none else none else if (r=8:Bool) then some (bW .i64 (b' c.A 4))>>=λt135=>sH ((⟨b⟩:ek),c.B)>>=λk=>if !(n=0:Bool) then some (b' (bW .i64 c.C) n)>>=λt144=>if (k<0:Bool) then some [(⟨7,[],0,0,t135,[],[],0,t144,false⟩:ah)]>>=λK=>if room 120 (a++K).length then fM (n,aM .i64 i 1,b,a++K)else none else some [(⟨r,t41,0,0,t135,[],[],k,t144,false⟩:ah)]>>=λL=>if room 120 (a++L).length then fM (n,aM .i64 i 1,b,a++L)else none else none else if (r=9:Bool) then if !(n=0:Bool) then some [(⟨r,t41,0,0,0,[],[],0,b' (bW .i64 c.C) n,false⟩:ah)]>>=λM=>if room 120 (a++M).length then fM (n,aM .i64 i 1,b,a++M)else none else none else some [(⟨r,t41,0,0,0,[],[],0,0,false⟩:ah)]>>=λp=>if room 120 (a++p).length then fM (n,aM .i64 i 1,b,a++p)else none else if (r=2:Bool) then pJ c>>=λU=>sC c>>=λV=>some [(⟨r,[],U,V,0,[],[],0,0,false⟩:ah)]>>=λq=>if room 120 (a++q).length then fM (n,aM .i64 i 1,b,a++q)else none else if (r=3:Bool) then some [(⟨r,[],0,0,bW .i64 (b' c.A 4),[],[],0,0,false⟩:ah)]>>=λs=>if room 120 (a++s).length then fM (n,aM .i64 i 1,b,a++s)else none else if (r=4:Bool) then nq c>>=λO=>o3 (n,i,O,0,b,r,[],0,0,0,0,0,decide (b' c.B 2=1),a,[])>>=λe=>some [(⟨e.2.2.2.1,e.2.2.2.2.1,e.2.2.2.2.2.1,e.2.2.2.2.2.2.1,e.2.2.2.2.2.2.2.1,e.2.2.2.2.2.2.2.2.2.2.2.2,[],e.2.2.2.2.2.2.2.2.1,e.2.2.2.2.2.2.2.2.2.1,e.2.2.2.2.2.2.2.2.2.2.1⟩:ah)]>>=λt=>if room 120 (e.2.2.2.2.2.2.2.2.2.2.2.1++t).length then fM (e.1,aM .i64 e.2.1 1,e.2.2.1,e.2.2.2.2.2.2.2.2.2.2.2.1++t)
 else none else if (r=5:Bool) then su ((⟨b⟩:ek),i,true)>>=λP=>some [(⟨r,[],0,0,0,[],P,0,0,false⟩:ah)]>>=λu=>if room 120 (a++u).length then fM (n,aM .i64 i 1,b,a++u)else none else if (r=6:Bool) then su ((⟨b⟩:ek),i,false)>>=λf=>if ((f.length:Int)=0:Bool) then some [(⟨5,[],0,0,0,[],[],0,0,false⟩:ah)]>>=λv=>if room 120 (a++v).length then fM (n,aM .i64 i 1,b,a++v)else none else some [(⟨r,[],0,0,0,[],f,0,0,decide (b' c.B 2=1)⟩:ah)]>>=λw=>if room 120 (a++w).length then fM (n,aM .i64 i 1,b,a++w)else none else if (r=7:Bool) then if !(n=0:Bool) then some [(⟨r,[],0,0,bW .i64 (b' c.A 4),[],[],0,b' (bW .i64 c.C) n,false⟩:ah)]>>=λx=>if room 120 (a++x).length then fM (n,aM .i64 i 1,b,a++x)else none else none else if (r=8:Bool) then some (bW .i64 (b' c.A 4))>>=λl=>sH ((⟨b⟩:ek),c.B)>>=λg=>if !(n=0:Bool) then some (b' (bW .i64 c.C) n)>>=λm=>if (g<0:Bool) then some [(⟨7,[],0,0,l,[],[],0,m,false⟩:ah)]>>=λy=>if room 120 (a++y).length then fM (n,aM .i64 i 1,b,a++y)else none else some [(⟨r,[],0,0,l,[],[],g,m,false⟩:ah)]>>=λz=>if room 120 (a++z).length then fM (n,aM .i64 i 1,b,a++z)else none else none else if (r=9:Bool) then if !(n=0:Bool) then some [(⟨r,[],0,0,0,[],[],0,b' (bW .i64 c.C) n,false⟩:ah)]>>=λE=>if room 120 (a++E).length then fM (n,aM .i64 i 1,b,a++E)else none else none else some [(⟨r,[],0,0,0,[],[],0,0,false⟩:ah)]>>=λF=>if room 120 (a++F).length then fM (n,aM .i64 i 1,b,a++F)else none else none else some a
  partial_fixpoint
theorem VR:cM 34 0 [0] Qn fM:= .rx fM.partial_correctness (.k yG (.k F7 (.k Gf (.k Sx (.k SD (.k VQ (.k SE .n))))))) (.k U8 .n)
def qx(d:ek):Option (aR×Bool):=
 some (d.ec.length:Int)>>=λt13=>if(bif (t13<1:Bool)then true else (5<t13:Bool)) then some ((⟨[]⟩:aR),false)else fM (t13,0,d.ec,[])>>=λo=>some ((⟨o⟩:aR),true)
theorem R2:a6 ae4 qx:= .bh .n (.k VR .n)
def iX:Int×List ah×aq×Bool->Option (Int×List ah×aq×Bool)
 |(n,b,a,c)=>
 if ((a.length:Int)=0:Bool) then some (0,b,a,c)else if aH 0 a.length then if !(n=0:Bool) then if dS 1 (a.length:Int) a.length then some (b' (bW .i64 (a.getD (0:Int).toNat 0)) n,b,d' a 1 (a.length:Int),c)else none else none else none
theorem si:a6 aez iX:= .bh
def sf:aj×Int×List ah×aq×Bool->Option (aj×List ah×aq×Bool)
 |(b,n,c,d,e)=>
 if (0<n:Bool) then iX (3,c,d,e)>>=λa=>some (mz (bW .i32 (aM .i64 97 a.1)))>>=λt21=>if (b.length+t21.length<=eC:Bool) then sf (b++t21,df .i64 n 1,a.2.1,a.2.2.1,a.2.2.2)else none else some (b,c,d,e)
  partial_fixpoint
theorem Uf:cM 148 1 [0] N0 sf:= .rx sf.partial_correctness (.k si .n)
def Cq:Int×List ah×aq×Bool->Option (aj×List ah×aq×Bool)
 |(most,b,a,c)=>
 iX (aM .i64 (je most 3) 1,b,a,c)>>=λr=>sf ([],r.1,r.2.1,r.2.2.1,r.2.2.2)>>=λo=>some (o.1,o.2.1,o.2.2.1,o.2.2.2)
theorem TQ:a6 aeA Cq:= .bh (.k si .n) (.k Uf .n)
def uN:List ah×aq×Bool->Option (Bool×List ah×aq×Bool)
 |(b,c,a)=>
 if a then iX (4,b,c,a)>>=λr=>some (bif a then decide (r.1=3)else false,r.2.1,r.2.2.1,r.2.2.2)else some (bif a then false else false,b,c,a)
theorem T2:a6 aeB uN:= .bh (.k si .n)
def oT:Int×Int×ah->Option ((Int×Bool) ⊕ (Unit))
 |(a,i,b)=>
 if (i<(b.ag.length:Int):Bool) then if aH i b.ag.length then if ((b.ag.getD i.toNat aE).ae=a:Bool) then some (.inl (i,true))else oT (a,aM .i64 i 1,b)else none else some (.inr ())
  partial_fixpoint
theorem T3:cM 53 0 [0] Qt oT:= .rx oT.partial_correctness
def hA(b:ah×Int):Option (Int×Bool):=
 match b with
 |(t,id)=>
 oT (id,0,t)>>=λo=>match o with
 |.inl a=>
 some (a.1,a.2)
 |.inr c=>
 some (0,false)
theorem mi:a6 afd hA:= .bh .n (.k T3 .n)
def nL:Int×Int×ah->Option ((Int×Bool) ⊕ (Unit))
 |(a,i,b)=>
 if (i<(b.bg.length:Int):Bool) then if aH i b.bg.length then if ((b.bg.getD i.toNat dL).ae=a:Bool) then some (.inl (i,true))else nL (a,aM .i64 i 1,b)else none else some (.inr ())
  partial_fixpoint
theorem T4:cM 82 0 [0] QC nL:= .rx nL.partial_correctness
def sk(b:ah×Int):Option (Int×Bool):=
 match b with
 |(t,id)=>
 nL (id,0,t)>>=λo=>match o with
 |.inl a=>
 some (a.1,a.2)
 |.inr c=>
 some (0,false)
theorem BZ:a6 afw sk:= .bh .n (.k T4 .n)
def Cf:ah×Int->Option Bool
 |(t,n)=>
 hA (t,n)>>=λr=>sk (t,n)>>=λa=>some (bif r.2 then true else a.2)
theorem Vx:a6 aeV Cf:= .bh (.k mi (.k BZ .n))
def uL:Int×List ah×aq×Bool×ah->Option (Int×List ah×aq×Bool)
 |(a,b,c,d,e)=>
 Cf (e,a)>>=λf=>if f then uL (aM .i64 a 1,b,c,d,e)else some (a,b,c,d)
  partial_fixpoint
theorem Ue:cM 150 1 [0] N1 uL:= .rx uL.partial_correctness (.k Vx .n)
def qp:ah×List ah×aq×Bool->Option (Int×List ah×aq×Bool)
 |(t,b,a,c)=>
 iX (14,b,a,c)>>=λr=>uL (aM .i64 1 r.1,r.2.1,r.2.2.1,r.2.2.2,t)>>=λo=>some (o.1,o.2.1,o.2.2.1,o.2.2.2)
theorem Ug:a6 aeD qp:= .bh (.k si .n) (.k Ue .n)
def uO:Int×List ah×aq×Bool->Option (bY×List ah×aq×Bool)
 |(n,b,a,c)=>
 some [[],[1],[97],[3,1,2]]>>=λt6=>iX (4,b,a,c)>>=λr=>if aH r.1 t6.length then some ((⟨n,t6.getD r.1.toNat []⟩:bY),r.2.1,r.2.2.1,r.2.2.2)else none
theorem T5:a6 aeE uO:= .bh (.k si .n)
def kD:Bool×Bool->Option Int
 |(b,a)=>
 if a then some 0 else if b then some (-1)else some 1
theorem VS:a6 aeR kD:= .bh
def vk(n:Int):Option Int:=
 if (0<=n:Bool) then some (gw .u64 2 (bW .u64 n))else some (aM .u64 (gw .u64 2 (bW .u64 (df .i64 0 (aM .i64 n 1)))) 1)
theorem Sm:a6 afb vk:= .bh
def nP:I×I->Option Int
 |(a,b)=>
 if !(a.Kind=b.Kind:Bool) then some 0 else if (a.Kind=1:Bool) then kD (b.bL,ft a.bL b.bL)>>=λr=>some r else if (a.Kind=2:Bool) then vk a.bc>>=λc=>vk b.bc>>=λd=>kD (decide (c<d),decide (a.bc=b.bc))>>=λe=>some e else if (a.Kind=3:Bool) then if !((a.bn.length:Int)=(b.bn.length:Int):Bool) then kD (decide ((a.bn.length:Int)<(b.bn.length:Int)),false)>>=λf=>some f else kD (Op.bytesLess a.bn b.bn,decide (a.bn=b.bn))>>=λg=>some g else if (a.Kind=4:Bool) then kD (decide (a.ae<b.ae),decide (a.ae=b.ae))>>=λi=>some i else some 0
theorem Cs:a6 aet nP:= .bh (.k VS (.k Sm .n))
def q5:Int×I×I×I×Int×Bool×Int×aj×Int->Option (Int×I×I×I×Int×Bool×Int×aj×Int)
 |(b,a,c,d,e,f,g,i,j)=>
 some (decide (b<(a.av.length:Int)))>>=λt12=>if(aH b a.av.length||(!t12)) then (if t12 then nP (I.eta (a.av.getD b.toNat au),I.eta c)else some 0)>>=λk=>if(bif t12 then (k<0:Bool)else false) then q5 (aM .i64 b 1,I.eta a,I.eta c,I.eta d,e,f,g,i,j)else some (b,I.eta a,I.eta c,I.eta d,e,f,g,i,j)else none
  partial_fixpoint
theorem UN:cM 152 0 [0] N2 q5:= .rx q5.partial_correctness (.k Cs .n)
def Ci:I×I×I->Option I
 |(v,key,item)=>
 q5 (0,I.eta v,I.eta key,I.eta item,0,false,0,[],0)>>=λo=>some (decide (o.1<(o.2.1.av.length:Int)))>>=λt29=>if(aH o.1 o.2.1.av.length||(!t29)) then (if t29 then nP (I.eta (o.2.1.av.getD o.1.toNat au),I.eta o.2.2.1)else some 0)>>=λr=>if(bif t29 then (r=0:Bool)else false) then some (I.eta o.2.1)else if dS 0 o.1 o.2.1.av.length then some (d' o.2.1.av 0 o.1)>>=λt45=>if room 120 ([]++t45).length then some ([]++t45)>>=λl=>some [I.eta o.2.2.1]>>=λt48=>if room 120 (l++t48).length then some (l++t48)>>=λa=>if dS o.1 (o.2.1.av.length:Int) o.2.1.av.length then some (d' o.2.1.av o.1 (o.2.1.av.length:Int))>>=λt53=>if room 120 (a++t53).length then if dS 0 o.1 o.2.1.ai.length then some (d' o.2.1.ai 0 o.1)>>=λt60=>if room 120 ([]++t60).length then some ([]++t60)>>=λb=>some [I.eta o.2.2.2.1]>>=λt63=>if room 120 (b++t63).length then some (b++t63)>>=λc=>if dS o.1 (o.2.1.ai.length:Int) o.2.1.ai.length then some (d' o.2.1.ai o.1 (o.2.1.ai.length:Int))>>=λt68=>if room 120 (c++t68).length then some (⟨o.2.1.Kind,o.2.1.bL,o.2.1.bc,o.2.1.bn,o.2.1.ae,a++t53,c++t68,o.2.1.Rest⟩:I)else none else none else none else none else none else none else none else none else none else none else none
theorem Vn:a6 aeF Ci:= .bh (.k Cs .n) (.k UN .n)
mutual
def jF:Int×List ah×aq×Bool->Option (I×List ah×aq×Bool)
 |(t,b,e,f)=>
 if aH t b.length then some (b.getD t.toNat aN)>>=λa=>if (a.Kind=1:Bool) then iX (2,b,e,f)>>=λr=>some ((⟨a.Kind,decide (r.1=1),0,[],0,[],[],[]⟩:I),r.2.1,r.2.2.1,r.2.2.2)else if (a.Kind=2:Bool) then iX (256,b,e,f)>>=λbi=>some (aM .i64 (df .i64 a.bC a.bA) 1)>>=λt51=>if !(t51=0:Bool) then some ((⟨a.Kind,false,aM .i64 a.bA (b' bi.1 t51),[],0,[],[],[]⟩:I),bi.2.1,bi.2.2.1,bi.2.2.2)else none else if (a.Kind=3:Bool) then Cq (a.Max,b,e,f)>>=λaC=>some ((⟨a.Kind,false,0,aC.1,0,[],[],[]⟩:I),aC.2.1,aC.2.2.1,aC.2.2.2)else if (a.Kind=4:Bool) then iX ((a.bg.length:Int),b,e,f)>>=λp=>if aH p.1 a.bg.length then some (a.bg.getD p.1.toNat dL)>>=λhk=>if a.Open then uN (p.2.1,p.2.2.1,p.2.2.2)>>=λy=>if(bif a.Open then y.1 else false) then qp (a,y.2.1,y.2.2.1,y.2.2.2)>>=λa5=>some ((⟨a.Kind,false,0,[],a5.1,[],[],[]⟩:I),a5.2.1,a5.2.2.1,a5.2.2.2)else some ((⟨a.Kind,false,0,[],hk.ae,[],[],[]⟩:I),y.2.1,y.2.2.1,y.2.2.2)else if(bif a.Open then false else false) then qp (a,p.2.1,p.2.2.1,p.2.2.2)>>=λa9=>some ((⟨a.Kind,false,0,[],a9.1,[],[],[]⟩:I),a9.2.1,a9.2.2.1,a9.2.2.2)else some ((⟨a.Kind,false,0,[],hk.ae,[],[],[]⟩:I),p.2.1,p.2.2.1,p.2.2.2)else none else if (a.Kind=5:Bool) then mE (0,b,e,f,0,false,0,[],0,a.Kind,a.Name,a.bA,a.bC,a.Max,a.bg,a.ag,a.Key,a.aG,a.Open,a.Kind,false,0,[],0,[])>>=λo=>uN (o.1,o.2.1,o.2.2.1)>>=λz=>if z.1 then qp ((⟨o.2.2.2.2.2.2.2.2.1,o.2.2.2.2.2.2.2.2.2.1,o.2.2.2.2.2.2.2.2.2.2.1,o.2.2.2.2.2.2.2.2.2.2.2.1,o.2.2.2.2.2.2.2.2.2.2.2.2.1,o.2.2.2.2.2.2.2.2.2.2.2.2.2.1,o.2.2.2.2.2.2.2.2.2.2.2.2.2.2.1,o.2.2.2.2.2.2.2.2.2.2.2.2.2.2.2.1,o.2.2.2.2.2.2.2.2.2.2.2.2.2.2.2.2.1,o.2.2.2.2.2.2.2.2.2.2.2.2.2.2.2.2.2.1⟩:ah),z.2.1,z.2.2.1,z.2.2.2)>>=λba=>uO (ba.1,ba.2.1,ba.2.2.1,ba.2.2.2)>>=λbe=>some ((⟨o.2.2.2.2.2.2.2.2.2.2.2.2.2.2.2.2.2.2.1,o.2.2.2.2.2.2.2.2.2.2.2.2.2.2.2.2.2.2.2.1,o.2.2.2.2.2.2.2.2.2.2.2.2.2.2.2.2.2.2.2.2.1,o.2.2.2.2.2.2.2.2.2.2.2.2.2.2.2.2.2.2.2.2.2.1,o.2.2.2.2.2.2.2.2.2.2.2.2.2.2.2.2.2.2.2.2.2.2.1,[],o.2.2.2.2.2.2.2.2.2.2.2.2.2.2.2.2.2.2.2.2.2.2.2,[be.1]⟩:I),be.2.1,be.2.2.1,be.2.2.2)else some ((⟨o.2.2.2.2.2.2.2.2.2.2.2.2.2.2.2.2.2.2.1,o.2.2.2.2.2.2.2.2.2.2.2.2.2.2.2.2.2.2.2.1,o.2.2.2.2.2.2.2.2.2.2.2.2.2.2.2.2.2.2.2.2.1,o.2.2.2.2.2.2.2.2.2.2.2.2.2.2.2.2.2.2.2.2.2.1,o.2.2.2.2.2.2.2.2.2.2.2.2.2.2.2.2.2.2.2.2.2.2.1,[],o.2.2.2.2.2.2.2.2.2.2.2.2.2.2.2.2.2.2.2.2.2.2.2,[]⟩:I),z.2.1,z.2.2.1,z.2.2.2)else if (a.Kind=6:Bool) then if a.Open then uN (b,e,f)>>=λA=>if(bif a.Open then A.1 else false) then qp (a,A.2.1,A.2.2.1,A.2.2.2)>>=λZ=>uO (Z.1,Z.2.1,Z.2.2.1,Z.2.2.2)>>=λbo=>some ((⟨a.Kind,false,0,[],Z.1,[],[],[bo.1]⟩:I),bo.2.1,bo.2.2.1,bo.2.2.2)else iX ((a.ag.length:Int),A.2.1,A.2.2.1,A.2.2.2)>>=λaf=>if aH af.1 a.ag.length then some (a.ag.getD af.1.toNat aE)>>=λhm=>jF (hm.aw,af.2.1,af.2.2.1,af.2.2.2)>>=λbs=>some ((⟨a.Kind,false,0,[],hm.ae,[],[I.eta bs.1],[]⟩:I),bs.2.1,bs.2.2.1,bs.2.2.2)else none else if(bif a.Open then false else false) then qp (a,b,e,f)>>=λam=>uO (am.1,am.2.1,am.2.2.1,am.2.2.2)>>=λbv=>some ((⟨a.Kind,false,0,[],am.1,[],[],[bv.1]⟩:I),bv.2.1,bv.2.2.1,bv.2.2.2)
 else iX ((a.ag.length:Int),b,e,f)>>=λan=>if aH an.1 a.ag.length then some (a.ag.getD an.1.toNat aE)>>=λhs=>jF (hs.aw,an.2.1,an.2.2.1,an.2.2.2)>>=λbH=>some ((⟨a.Kind,false,0,[],hs.ae,[],[I.eta bH.1],[]⟩:I),bH.2.1,bH.2.2.1,bH.2.2.2)else none else if (a.Kind=7:Bool) then iX (aM .i64 (je a.Max 3) 1,b,e,f)>>=λbQ=>qn (bQ.1,bQ.2.1,bQ.2.2.1,bQ.2.2.2,0,false,0,[],0,a.Kind,a.Name,a.bA,a.bC,a.Max,a.bg,a.ag,a.Key,a.aG,a.Open,a.Kind,false,0,[],0,[])>>=λu=>some ((⟨u.2.2.2.2.2.2.2.2.1,u.2.2.2.2.2.2.2.2.2.1,u.2.2.2.2.2.2.2.2.2.2.1,u.2.2.2.2.2.2.2.2.2.2.2.1,u.2.2.2.2.2.2.2.2.2.2.2.2.1,[],u.2.2.2.2.2.2.2.2.2.2.2.2.2,[]⟩:I),u.1,u.2.1,u.2.2.1)else if (a.Kind=8:Bool) then iX (aM .i64 (je a.Max 3) 1,b,e,f)>>=λaI=>qo (aI.1,aI.2.1,aI.2.2.1,aI.2.2.2,0,false,0,[],0,a.Kind,a.Name,a.bA,a.bC,a.Max,a.bg,a.ag,a.Key,a.aG,a.Open,a.Kind,false,0,[],0,[],[],[])>>=λj=>some ((⟨j.2.2.2.2.2.2.2.2.1,j.2.2.2.2.2.2.2.2.2.1,j.2.2.2.2.2.2.2.2.2.2.1,j.2.2.2.2.2.2.2.2.2.2.2.1,j.2.2.2.2.2.2.2.2.2.2.2.2.1,j.2.2.2.2.2.2.2.2.2.2.2.2.2.1,j.2.2.2.2.2.2.2.2.2.2.2.2.2.2.1,j.2.2.2.2.2.2.2.2.2.2.2.2.2.2.2⟩:I),j.1,j.2.1,j.2.2.1)else iX (2,b,e,f)>>=λw=>if (w.1=1:Bool) then jF (a.aG,w.2.1,w.2.2.1,w.2.2.2)>>=λaZ=>some ((⟨a.Kind,false,0,[],0,[],[I.eta aZ.1],[]⟩:I),aZ.2.1,aZ.2.2.1,aZ.2.2.2)else some ((⟨a.Kind,false,0,[],0,[],[],[]⟩:I),w.2.1,w.2.2.1,w.2.2.2)else none
  partial_fixpoint
def mE:Int×List ah×aq×Bool×Int×Bool×Int×aj×Int×Int×aj×Int×Int×Int×List c4×List aS×Int×Int×Bool×Int×Bool×Int×aj×Int×List I->Option (List ah×aq×Bool×Int×Bool×Int×aj×Int×Int×aj×Int×Int×Int×List c4×List aS×Int×Int×Bool×Int×Bool×Int×aj×Int×List I)
 |(i,ap,ax,aB,D,E,F,G,H,J,K,L,M,N,O,c,P,Q,R,S,U,W,X,Y,q)=>
 if (i<(c.length:Int):Bool) then if aH i c.length then some (c.getD i.toNat aE)>>=λb0=>if b0.bZ then iX (3,ap,ax,aB)>>=λx=>if(bif b0.bZ then (x.1=0:Bool)else false) then if aH i c.length then some [I.eta (c.getD i.toNat aE).bw]>>=λt113=>if room 120 (q++t113).length then mE (aM .i64 i 1,x.2.1,x.2.2.1,x.2.2.2,D,E,F,G,H,J,K,L,M,N,O,c,P,Q,R,S,U,W,X,Y,q++t113)else none else none else if aH i c.length then jF ((c.getD i.toNat aE).aw,x.2.1,x.2.2.1,x.2.2.2)>>=λa0=>some [I.eta a0.1]>>=λt126=>if room 120 (q++t126).length then mE (aM .i64 i 1,a0.2.1,a0.2.2.1,a0.2.2.2,D,E,F,G,H,J,K,L,M,N,O,c,P,Q,R,S,U,W,X,Y,q++t126)else none else none else if(bif b0.bZ then false else false) then if aH i c.length then some [I.eta (c.getD i.toNat aE).bw]>>=λg9=>if room 120 (q++g9).length then mE (aM .i64 i 1,ap,ax,aB,D,E,F,G,H,J,K,L,M,N,O,c,P,Q,R,S,U,W,X,Y,q++g9)else none else none else if aH i c.length then jF ((c.getD i.toNat aE).aw,ap,ax,aB)>>=λa1=>some [I.eta a1.1]>>=λhe=>if room 120 (q++he).length then mE (aM .i64 i 1,a1.2.1,a1.2.2.1,a1.2.2.2,D,E,F,G,H,J,K,L,M,N,O,c,P,Q,R,S,U,W,X,Y,q++he)else none else none else none else some (ap,ax,aB,D,E,F,G,H,J,K,L,M,N,O,c,P,Q,R,S,U,W,X,Y,q)
  partial_fixpoint
def qn:Int×List ah×aq×Bool×Int×Bool×Int×aj×Int×Int×aj×Int×Int×Int×List c4×List aS×Int×Int×Bool×Int×Bool×Int×aj×Int×List I->Option (List ah×aq×Bool×Int×Bool×Int×aj×Int×Int×Bool×Int×aj×Int×List I)
 |(n,gs,gt,g0,g1,g2,g3,g4,g5,ip,i0,i1,i2,i3,i4,i5,i6,g6,i7,g7,b1,b2,b3,b4,bT)=>
 if (0<n:Bool) then jF (g6,gs,gt,g0)>>=λa2=>some [I.eta a2.1]>>=λt193=>if room 120 (bT++t193).length then qn (df .i64 n 1,a2.2.1,a2.2.2.1,a2.2.2.2,g1,g2,g3,g4,g5,ip,i0,i1,i2,i3,i4,i5,i6,g6,i7,g7,b1,b2,b3,b4,bT++t193)else none else some (gs,gt,g0,g1,g2,g3,g4,g5,g7,b1,b2,b3,b4,bT)
  partial_fixpoint
def qo:Int×List ah×aq×Bool×Int×Bool×Int×aj×Int×Int×aj×Int×Int×Int×List c4×List aS×Int×Int×Bool×Int×Bool×Int×aj×Int×List I×List I×List bY->Option (List ah×aq×Bool×Int×Bool×Int×aj×Int×Int×Bool×Int×aj×Int×List I×List I×List bY)
 |(g8,ce,ci,cq,cs,c7,ds,dt,eq,ht,hu,hw,hH,h0,h1,ii,es,ex,io,fd,ff,fo,fs,gc,gd,ge,gl)=>
 if (0<g8:Bool) then jF (es,ce,ci,cq)>>=λa3=>jF (ex,a3.2.1,a3.2.2.1,a3.2.2.2)>>=λa4=>Ci ((⟨fd,ff,fo,fs,gc,gd,ge,gl⟩:I),I.eta a3.1,I.eta a4.1)>>=λv=>qo (df .i64 g8 1,a4.2.1,a4.2.2.1,a4.2.2.2,cs,c7,ds,dt,eq,ht,hu,hw,hH,h0,h1,ii,es,ex,io,v.Kind,v.bL,v.bc,v.bn,v.ae,v.av,v.ai,v.Rest)else some (ce,ci,cq,cs,c7,ds,dt,eq,fd,ff,fo,fs,gc,gd,ge,gl)
  partial_fixpoint
end
theorem Uh:dY r8 jF/\ez 112 1 [2] zt qo/\ez 112 1 [1] zs qn/\ez 112 1 [0] zr mE:=jF.mutual_partial_correctness (dU r8) (ey 112 1 [2] zt) (ey 112 1 [1] zs) (ey 112 1 [0] zr)
 (λ_ _ _ _ h0 h1 a b _ _ h=>eb h (.k si (.k TQ (.k T2 (.k Ug (.k T5 (.k (cg r8 h0) .n)))))) (.k (eL zr b) (.k (eL zs a) (.k (eL zt h1) .n))))
 (λ_ _ h0 h1 _ _ h=>eK zt h1 h (.k (cg r8 h0) (.k Vn .n)))
 (λ_ _ h0 a _ _ h=>eK zs a h (.k (cg r8 h0) .n))
 (λ_ _ h0 b _ _ h=>eK zr b h (.k si (.k (cg r8 h0) .n)))
theorem RG:a6 r8 jF:=cg _ Uh.1
def x3:aR×Int×aq->Option I
 |(s,t,a)=>
 some (je 60 (a.length:Int))>>=λt12=>if dS 0 t12 a.length then jF (t,s.Types,d' a 0 t12,false)>>=λr=>some (I.eta r.1)else none
theorem Vy:a6 afr x3:= .bh (.k RG .n)
def yB:aR×Int×aq->Option I
 |(s,t,a)=>
 some (je 60 (a.length:Int))>>=λt12=>if dS 0 t12 a.length then jF (t,s.Types,d' a 0 t12,true)>>=λr=>some (I.eta r.1)else none
theorem U9:a6 afs yB:= .bh (.k RG .n)
def pM(d:k2):Option (aR×Int×I×I×Bool):=
 qx d.S>>=λr=>if !r.2 then some (r.1,0,(⟨0,false,0,[],0,[],[],[]⟩:I),(⟨0,false,0,[],0,[],[],[]⟩:I),false)else some (r.1.Types.length:Int)>>=λt26=>if !(t26=0:Bool) then some (b' (bW .i64 d.T) t26)>>=λt27=>x3 (r.1,t27,d.C)>>=λa=>yB (r.1,t27,d.C)>>=λb=>some (r.1,t27,I.eta a,I.eta b,true)else none
theorem R3:a6 ae5 pM:= .bh (.k R2 (.k Vy (.k U9 .n)))
def hz:List kB×Int×List dr->Option (List dr)
 |(d,i,a)=>
 if(bif (i<(d.length:Int):Bool)then (0<(a.length:Int):Bool)else false) then if aH i d.length then some (d.getD i.toNat nT)>>=λe=>some (a.length:Int)>>=λt38=>if !(t38=0:Bool) then some (b' (bW .i64 e.Node) t38)>>=λt39=>if aH t39 a.length then if (t39.toNat<a.length:Bool) then some (a.getD t39.toNat br).c0>>=λt46=>if room 3 ([]++t46).length then some ([]++t46)>>=λb=>if (t39.toNat<a.length:Bool) then if (t39.toNat=t39.toNat:Bool) then
 let n:=λc=>
 some (b' e.Kind 8)>>=λf=>if (f=0:Bool) then if (t39.toNat<a.length:Bool) then some (df .u8 (aM .u8 (a.getD t39.toNat br).A (b' e.A 5)) 2)>>=λj=>if (t39.toNat<a.length:Bool) then hz (d,aM .i64 i 1,(a.set t39.toNat (⟨(a.getD t39.toNat br).Kind,j,(a.getD t39.toNat br).B,(a.getD t39.toNat br).C,(a.getD t39.toNat br).c0⟩:dr)).set t39.toNat (⟨((a.set t39.toNat (⟨(a.getD t39.toNat br).Kind,j,(a.getD t39.toNat br).B,(a.getD t39.toNat br).C,(a.getD t39.toNat br).c0⟩:dr)).getD t39.toNat br).Kind,((a.set t39.toNat (⟨(a.getD t39.toNat br).Kind,j,(a.getD t39.toNat br).B,(a.getD t39.toNat br).C,(a.getD t39.toNat br).c0⟩:dr)).getD t39.toNat br).A,((a.set t39.toNat (⟨(a.getD t39.toNat br).Kind,j,(a.getD t39.toNat br).B,(a.getD t39.toNat br).C,(a.getD t39.toNat br).c0⟩:dr)).getD t39.toNat br).B,((a.set t39.toNat (⟨(a.getD t39.toNat br).Kind,j,(a.getD t39.toNat br).B,(a.getD t39.toNat br).C,(a.getD t39.toNat br).c0⟩:dr)).getD t39.toNat br).C,b⟩:dr))else none else none else if (f=1:Bool) then if (t39.toNat<a.length:Bool) then some (df .u8 (aM .u8 (a.getD t39.toNat br).B (b' e.B 5)) 2)>>=λk=>if (t39.toNat<a.length:Bool) then hz (d,aM .i64 i 1,(a.set t39.toNat (⟨(a.getD t39.toNat br).Kind,(a.getD t39.toNat br).A,k,(a.getD t39.toNat br).C,(a.getD t39.toNat br).c0⟩:dr)).set t39.toNat (⟨((a.set t39.toNat (⟨(a.getD t39.toNat br).Kind,(a.getD t39.toNat br).A,k,(a.getD t39.toNat br).C,(a.getD t39.toNat br).c0⟩:dr)).getD t39.toNat br).Kind,((a.set t39.toNat (⟨(a.getD t39.toNat br).Kind,(a.getD t39.toNat br).A,k,(a.getD t39.toNat br).C,(a.getD t39.toNat br).c0⟩:dr)).getD t39.toNat br).A,((a.set t39.toNat (⟨(a.getD t39.toNat br).Kind,(a.getD t39.toNat br).A,k,(a.getD t39.toNat br).C,(a.getD t39.toNat br).c0⟩:dr)).getD t39.toNat br).B,((a.set t39.toNat (⟨(a.getD t39.toNat br).Kind,(a.getD t39.toNat br).A,k,(a.getD t39.toNat br).C,(a.getD t39.toNat br).c0⟩:dr)).getD t39.toNat br).C,b⟩:dr))else none else none else if (f=2:Bool) then if (t39.toNat<a.length:Bool) then some (b' e.A 6)>>=λo=>if (0<=o:Bool) then some (ub .u8 (a.getD t39.toNat br).A (mO .u8 1 o))>>=λl=>if (t39.toNat<a.length:Bool) then hz (d,aM .i64 i 1,(a.set t39.toNat (⟨(a.getD t39.toNat br).Kind,l,(a.getD t39.toNat br).B,(a.getD t39.toNat br).C,(a.getD t39.toNat br).c0⟩:dr)).set t39.toNat (⟨((a.set t39.toNat (⟨(a.getD t39.toNat br).Kind,l,(a.getD t39.toNat br).B,(a.getD t39.toNat br).C,(a.getD t39.toNat br).c0⟩:dr)).getD t39.toNat br).Kind,((a.set t39.toNat (⟨(a.getD t39.toNat br).Kind,l,(a.getD t39.toNat br).B,(a.getD t39.toNat br).C,(a.getD t39.toNat br).c0⟩:dr)).getD t39.toNat br).A,((a.set t39.toNat (⟨(a.getD t39.toNat br).Kind,l,(a.getD t39.toNat br).B,(a.getD t39.toNat br).C,(a.getD t39.toNat br).c0⟩:dr)).getD t39.toNat br).B,((a.set t39.toNat (⟨(a.getD t39.toNat br).Kind,l,(a.getD t39.toNat br).B,(a.getD t39.toNat br).C,(a.getD t39.toNat br).c0⟩:dr)).getD t39.toNat br).C,b⟩:dr))else none else none else none else if (f=3:Bool) then if (t39.toNat<a.length:Bool) then some (aM .u8 (a.getD t39.toNat br).C e.A)>>=λm=>if (t39.toNat<a.length:Bool) then hz (d,aM .i64 i 1,(a.set t39.toNat (⟨(a.getD t39.toNat br).Kind,(a.getD t39.toNat br).A,(a.getD t39.toNat br).B,m,(a.getD t39.toNat br).c0⟩:dr)).set t39.toNat (⟨((a.set t39.toNat (⟨(a.getD t39.toNat br).Kind,(a.getD t39.toNat br).A,(a.getD t39.toNat br).B,m,(a.getD t39.toNat br).c0⟩:dr)).getD t39.toNat br).Kind,((a.set t39.toNat (⟨(a.getD t39.toNat br).Kind,(a.getD t39.toNat br).A,(a.getD t39.toNat br).B,m,(a.getD t39.toNat br).c0⟩:dr)).getD t39.toNat br).A,((a.set t39.toNat (⟨(a.getD t39.toNat br).Kind,(a.getD t39.toNat br).A,(a.getD t39.toNat br).B,m,(a.getD t39.toNat br).c0⟩:dr)).getD t39.toNat br).B,((a.set t39.toNat (⟨(a.getD t39.toNat br).Kind,(a.getD t39.toNat br).A,(a.getD t39.toNat br).B,m,(a.getD t39.toNat br).c0⟩:dr)).getD t39.toNat br).C,b⟩:dr))
 else none else none else if (f=4:Bool) then if (t39.toNat=t39.toNat:Bool) then if ((b.length:Int)<8:Bool) then if (t39.toNat=t39.toNat:Bool) then some [(⟨e.A,e.B,fv .u8 e.A 12⟩:lE)]>>=λp=>if room 3 (b++p).length then if (t39.toNat=t39.toNat:Bool) then hz (d,aM .i64 i 1,a.set t39.toNat (⟨(a.getD t39.toNat br).Kind,(a.getD t39.toNat br).A,(a.getD t39.toNat br).B,(a.getD t39.toNat br).C,b++p⟩:dr))else none else none else none else hz (d,aM .i64 i 1,a.set t39.toNat (⟨(a.getD t39.toNat br).Kind,(a.getD t39.toNat br).A,(a.getD t39.toNat br).B,(a.getD t39.toNat br).C,b⟩:dr))else none else if (f=5:Bool) then if (t39.toNat=t39.toNat:Bool) then if (0<(b.length:Int):Bool) then if (t39.toNat=t39.toNat:Bool) then if dS 0 c b.length then if (t39.toNat=t39.toNat:Bool) then some (aM .i64 c 1)>>=λg=>if dS g (b.length:Int) b.length then if((c.toNat+((b.length:Int).toNat-g.toNat)<=b.length:Bool)&&(g.toNat+((b.length:Int).toNat-g.toNat)<=b.length:Bool)) then if (t39.toNat=t39.toNat:Bool) then hz (d,aM .i64 i 1,a.set t39.toNat (⟨(a.getD t39.toNat br).Kind,(a.getD t39.toNat br).A,(a.getD t39.toNat br).B,(a.getD t39.toNat br).C,b.take c.toNat++(b.drop g.toNat).take ((b.length:Int).toNat-g.toNat)⟩:dr))else none else none else none else none else none else none else hz (d,aM .i64 i 1,a.set t39.toNat (⟨(a.getD t39.toNat br).Kind,(a.getD t39.toNat br).A,(a.getD t39.toNat br).B,(a.getD t39.toNat br).C,b⟩:dr))else none else if (f=6:Bool) then if (t39.toNat=t39.toNat:Bool) then if (0<(b.length:Int):Bool) then if (t39.toNat=t39.toNat:Bool) then if aH c b.length then if (c.toNat<b.length:Bool) then hz (d,aM .i64 i 1,a.set t39.toNat (⟨(a.getD t39.toNat br).Kind,(a.getD t39.toNat br).A,(a.getD t39.toNat br).B,(a.getD t39.toNat br).C,b.set c.toNat (⟨(b.getD c.toNat ja).ae,(b.getD c.toNat ja).aw,e.B⟩:lE)⟩:dr))else none else none else none else hz (d,aM .i64 i 1,a.set t39.toNat (⟨(a.getD t39.toNat br).Kind,(a.getD t39.toNat br).A,(a.getD t39.toNat br).B,(a.getD t39.toNat br).C,b⟩:dr))else none else if (t39.toNat=t39.toNat:Bool) then if (0<(b.length:Int):Bool) then if (t39.toNat=t39.toNat:Bool) then if (t39.toNat=t39.toNat:Bool) then if aH c b.length then if (c.toNat<b.length:Bool) then if aH c b.length then if (c.toNat<b.length:Bool) then hz (d,aM .i64 i 1,a.set t39.toNat (⟨(a.getD t39.toNat br).Kind,(a.getD t39.toNat br).A,(a.getD t39.toNat br).B,(a.getD t39.toNat br).C,b.set c.toNat (⟨(b.getD c.toNat ja).ae,aM .u8 (b.getD c.toNat ja).aw e.B,(b.getD c.toNat ja).gV⟩:lE)⟩:dr))else none else none else none else none else none else none else hz (d,aM .i64 i 1,a.set t39.toNat (⟨(a.getD t39.toNat br).Kind,(a.getD t39.toNat br).A,(a.getD t39.toNat br).B,(a.getD t39.toNat br).C,b⟩:dr))else none
 if (0<(b.length:Int):Bool) then if (t39.toNat=t39.toNat:Bool) then some (b.length:Int)>>=λt63=>if !(t63=0:Bool) then some (b' (bW .i64 e.A) t63)>>=λt64=>n t64 else none else none else n 0 else none else none else none else none else none else none else none else some a
  partial_fixpoint
theorem TR:cM 33 0 [0] Qm hz:= .rx hz.partial_correctness
def B3:ek×List kB->Option ek
 |(d,l)=>
 if room 32 ([]++d.ec).length then hz (l,0,[]++d.ec)>>=λo=>some (⟨o⟩:ek)else none
theorem U':a6 ae3 B3:= .bh .n (.k TR .n)
def q3:Int×Int×I->Option (Int×I)
 |(b,i,a)=>
 if(bif (i<(a.Rest.length:Int):Bool)then (0<=b:Bool)else false) then if aH i a.Rest.length then q3 (df .i64 b ((a.Rest.getD i.toNat bX).Data.length:Int),aM .i64 i 1,I.eta a)else none else some (b,I.eta a)
  partial_fixpoint
theorem Va:cM 78 0 [0] QA q3:= .rx q3.partial_correctness
mutual
def nX:I×Int->Option Int
 |(v,n)=>
 q3 (df .i64 n (aM .i64 (aM .i64 10 (v.bn.length:Int)) (v.Rest.length:Int)),0,I.eta v)>>=λo=>sX (o.1,0,I.eta o.2)>>=λt=>sY (t.1,0,I.eta t.2)>>=λu=>some u
  partial_fixpoint
def sX:Int×Int×I->Option (Int×I)
 |(p,f,a)=>
 if(bif (f<(a.av.length:Int):Bool)then (0<=p:Bool)else false) then if aH f a.av.length then nX (I.eta (a.av.getD f.toNat au),p)>>=λr=>sX (r,aM .i64 f 1,I.eta a)else none else some (p,I.eta a)
  partial_fixpoint
def sY:Int×Int×I->Option Int
 |(q,j,e)=>
 if(bif (j<(e.ai.length:Int):Bool)then (0<=q:Bool)else false) then if aH j e.ai.length then nX (I.eta (e.ai.getD j.toNat au),q)>>=λw=>sY (w,aM .i64 j 1,I.eta e)else none else some q
  partial_fixpoint
end
theorem UO:dY xh nX/\ez 78 0 [2] xj sY/\ez 78 0 [1] xi sX:=nX.mutual_partial_correctness (dU xh) (ey 78 0 [2] xj) (ey 78 0 [1] xi)
 (λ_ _ h1 a _ _ h=>eb h .n (.k Va (.k (eL xi a) (.k (eL xj h1) .n))))
 (λ_ _ h0 h1 _ _ h=>eK xj h1 h (.k (cg xh h0) .n))
 (λ_ _ h0 a _ _ h=>eK xi a h (.k (cg xh h0) .n))
theorem Vz:a6 xh nX:=cg _ UO.1
def vp(v:I):Option Bool:=
 nX (I.eta v,3000)>>=λr=>some (decide (0<=r))
theorem Sq:a6 ae6 vp:= .bh (.k Vz .n)
def yw(c:mr):Option (aR×aR×Int×I×Bool):=
 pM c.D>>=λr=>B3 (c.D.S,c.L)>>=λd=>qx d>>=λa=>some (bif bif (!r.2.2.2.2)then true else(!a.2)then true else decide (4<(c.L.length:Int)))>>=λt44=>(if !t44 then vp (I.eta r.2.2.1)else some false)>>=λb=>if(bif t44 then true else(!b)) then some ((⟨[]⟩:aR),(⟨[]⟩:aR),0,(⟨0,false,0,[],0,[],[],[]⟩:I),false)else some (r.1,a.1,r.2.1,I.eta r.2.2.1,true)
theorem WO:a6 aex yw:= .bh (.k R3 (.k U' (.k R2 (.k Sq .n))))
def vl:Int×aj->Option aj
 |(a,b)=>
 if (0<a:Bool) then some (strOf [bW .u8 (b' a 256)])>>=λt10=>if (t10.length+b.length<=eC:Bool) then vl (fv .u64 a 256,t10++b)else none else some b
  partial_fixpoint
theorem UP:cM 50 0 [0] Qr vl:= .rx vl.partial_correctness
def x7(n:Int):Option aj:=
 vl (n,[])>>=λo=>some o
theorem Vo:a6 afa x7:= .bh .n (.k UP .n)
def vm:Int×aq->Option (Int×aq)
 |(a,b)=>
 if (128<=a:Bool) then some [bW .u8 (aM .u64 (b' a 128) 128)]>>=λt11=>if room 1 (b++t11).length then vm (fv .u64 a 128,b++t11)else none else some (a,b)
  partial_fixpoint
theorem UQ:cM 52 0 [0] Qs vm:= .rx vm.partial_correctness
def rh(n:Int):Option aj:=
 vm (n,[])>>=λo=>some [bW .u8 o.1]>>=λt18=>if room 1 (o.2++t18).length then some (strOf (o.2++t18))else none
theorem Gg:a6 afc rh:= .bh .n (.k UQ .n)
def rb(p:aj):Option aj:=
 rh (bW .u64 (p.length:Int))>>=λr=>if (r.length+p.length<=eC:Bool) then some (r++p)else none
theorem Gb:a6 afe rb:= .bh (.k Gg .n)
def ph:Int×I×I->Option ((Bool) ⊕ (I×I))
 |(i,a,b)=>
 if (i<(a.Rest.length:Int):Bool) then if aH i a.Rest.length then some (a.Rest.getD i.toNat bX)>>=λc=>if aH i b.Rest.length then some (b.Rest.getD i.toNat bX)>>=λd=>if !(hJ c.ae d.ae&&(jz c.Data d.Data&&true)) then some (.inl false)else ph (aM .i64 i 1,I.eta a,I.eta b)else none else none else some (.inr (I.eta a,I.eta b))
  partial_fixpoint
theorem Uj:cM 49 0 [0] Qq ph:= .rx ph.partial_correctness
mutual
def jG(e:I×I):Option Bool:=
 match e with
 |(a,b)=>
 if(bif bif bif bif bif (!(a.Kind=b.Kind:Bool))then true else(!(ft a.bL b.bL))then true else(!(a.bc=b.bc:Bool))then true else(!(a.bn=b.bn:Bool))then true else(!(a.ae=b.ae:Bool))then true else(!((a.Rest.length:Int)=(b.Rest.length:Int):Bool))) then some false else ph (0,(⟨a.Kind,a.bL,a.bc,a.bn,a.ae,a.av,a.ai,a.Rest⟩:I),(⟨b.Kind,b.bL,b.bc,b.bn,b.ae,b.av,b.ai,b.Rest⟩:I))>>=λo=>match o with
 |.inl p=>
 some p
 |.inr c=>
 xH (c.1.av,c.2.av)>>=λr=>(if r then xH (c.1.ai,c.2.ai)else some false)>>=λq=>some (bif r then q else false)
  partial_fixpoint
def xH(e:List I×List I):Option Bool:=
 match e with
 |(a,b)=>
 if !((a.length:Int)=(b.length:Int):Bool) then some false else uM (a,b,0)>>=λo=>match o with
 |.inl p=>
 some p
 |.inr c=>
 some true
  partial_fixpoint
def uM:List I×List I×Int->Option ((Bool) ⊕ (Unit))
 |(f,j,i)=>
 if (i<(f.length:Int):Bool) then if aH i f.length then if aH i j.length then jG (I.eta (f.getD i.toNat au),I.eta (j.getD i.toNat au))>>=λr=>if !r then some (.inl false)else uM (f,j,aM .i64 i 1)else none else none else some (.inr ())
  partial_fixpoint
end
theorem Uo:dY Bo jG/\dY ER xH/\ez 89 0 [0] xl uM:=jG.mutual_partial_correctness (dU Bo) (dU ER) (ey 89 0 [0] xl)
 (λ_ h1 _ _ h=>eb h (.k (cg ER h1) .n) (.k Uj .n))
 (λ_ a _ _ h=>eb h .n (.k (eL xl a) .n))
 (λ_ _ h0 a _ _ h=>eK xl a h (.k (cg Bo h0) .n))
theorem xG:a6 Bo jG:=cg _ Uo.1
def xZ:Int×Bool×aj->Option aj
 |(id,d,p)=>
 some (bW .u64 (gw .i64 2 id))>>=λt10=>if d then rh (aM .u64 t10 1)>>=λr=>rb p>>=λa=>if (r.length+a.length<=eC:Bool) then some (r++a)else none else rh t10>>=λb=>rb p>>=λc=>if (b.length+c.length<=eC:Bool) then some (b++c)else none
theorem Sr:a6 aff xZ:= .bh (.k Gg (.k Gb .n))
def mF:aj×Int×Int×List ah×I×ah->Option (aj×Int×List ah×I×ah)
 |(c,b,k,d,a,e)=>
 if (k<(a.Rest.length:Int):Bool) then if aH k a.Rest.length then if ((a.Rest.getD k.toNat bX).ae=b:Bool) then if aH k a.Rest.length then xZ (b,false,(a.Rest.getD k.toNat bX).Data)>>=λf=>if (c.length+f.length<=eC:Bool) then mF (c++f,b,aM .i64 k 1,d,I.eta a,e)else none else none else mF (c,b,aM .i64 k 1,d,I.eta a,e)else none else some (c,b,d,I.eta a,e)
  partial_fixpoint
theorem Uk:cM 19 0 [0,2] Nc mF:= .rx mF.partial_correctness (.k Sr .n)
mutual
def iY:aR×Int×I->Option aj
 |(s,t,v)=>
 if aH t s.Types.length then some (s.Types.getD t.toNat aN)>>=λa=>if (a.Kind=1:Bool) then if v.bL then some [1]else some []else if (a.Kind=2:Bool) then vk v.bc>>=λr=>x7 r>>=λX=>some X else if (a.Kind=3:Bool) then some v.bn else if (a.Kind=4:Bool) then x7 (bW .u64 v.ae)>>=λan=>some an else if (a.Kind=9:Bool) then if ((v.ai.length:Int)=0:Bool) then some []else if aH 0 v.ai.length then iY (s,a.aG,I.eta (v.ai.getD (0:Int).toNat au))>>=λN=>if ([1].length+N.length<=eC:Bool) then some ([1]++N)else none else none else if (a.Kind=6:Bool) then if (0<(v.Rest.length:Int):Bool) then rh (bW .u64 v.ae)>>=λO=>if aH 0 v.Rest.length then some (v.Rest.getD (0:Int).toNat bX)>>=λS=>if (O.length+S.Data.length<=eC:Bool) then some (O++S.Data)else none else none else hA (a,v.ae)>>=λP=>rh (bW .u64 v.ae)>>=λQ=>if aH P.1 a.ag.length then if aH 0 v.ai.length then iY (s,(a.ag.getD P.1.toNat aE).aw,I.eta (v.ai.getD (0:Int).toNat au))>>=λR=>if (Q.length+R.length<=eC:Bool) then some (Q++R)else none else none else none else if (a.Kind=7:Bool) then sR ([],0,s.Types,I.eta v,a)>>=λo=>some o else if (a.Kind=8:Bool) then sS ([],0,s.Types,I.eta v,a)>>=λU=>some U else po ([],1,s.Types,I.eta v,a)>>=λW=>some W else none
  partial_fixpoint
def sR:aj×Int×List ah×I×ah->Option aj
 |(F,i,b,z,H)=>
 if (i<(z.ai.length:Int):Bool) then if aH i z.ai.length then iY ((⟨b⟩:aR),H.aG,I.eta (z.ai.getD i.toNat au))>>=λY=>rb Y>>=λJ=>if (F.length+J.length<=eC:Bool) then sR (F++J,aM .i64 i 1,b,I.eta z,H)else none else none else some F
  partial_fixpoint
def sS:aj×Int×List ah×I×ah->Option aj
 |(G,q,D,j,E)=>
 if (q<(j.ai.length:Int):Bool) then if aH q j.av.length then iY ((⟨D⟩:aR),E.Key,I.eta (j.av.getD q.toNat au))>>=λZ=>rb Z>>=λK=>if (G.length+K.length<=eC:Bool) then some (G++K)>>=λt144=>if aH q j.ai.length then iY ((⟨D⟩:aR),E.aG,I.eta (j.ai.getD q.toNat au))>>=λaf=>rb af>>=λL=>if (t144.length+L.length<=eC:Bool) then sS (t144++L,aM .i64 q 1,D,I.eta j,E)else none else none else none else none else some G
  partial_fixpoint
def po:aj×Int×List ah×I×ah->Option aj
 |(y,id,A,c,p)=>
 if (id<=1000:Bool) then hA (p,id)>>=λe=>if e.2 then if aH e.1 p.ag.length then some (p.ag.getD e.1.toNat aE)>>=λB=>some (!B.bZ)>>=λt175=>if(aH e.1 c.ai.length||(!(!t175))) then (if !t175 then jG (I.eta (c.ai.getD e.1.toNat au),I.eta B.bw)else some false)>>=λam=>if(bif t175 then true else(!am)) then if aH e.1 c.ai.length then iY ((⟨A⟩:aR),B.aw,I.eta (c.ai.getD e.1.toNat au))>>=λap=>xZ (id,B.cp,ap)>>=λM=>if (y.length+M.length<=eC:Bool) then mF (y++M,id,0,A,I.eta c,p)>>=λu=>po (u.1,aM .i64 u.2.1 1,u.2.2.1,I.eta u.2.2.2.1,u.2.2.2.2)else none else none else mF (y,id,0,A,I.eta c,p)>>=λw=>po (w.1,aM .i64 w.2.1 1,w.2.2.1,I.eta w.2.2.2.1,w.2.2.2.2)else none else none else mF (y,id,0,A,I.eta c,p)>>=λx=>po (x.1,aM .i64 x.2.1 1,x.2.2.1,I.eta x.2.2.2.1,x.2.2.2.2)else some y
  partial_fixpoint
end
theorem T6:dY r' iY/\ez 19 0 [2] w9 po/\ez 19 0 [1] w8 sS/\ez 19 0 [0] w7 sR:=iY.mutual_partial_correctness (dU r') (ey 19 0 [2] w9) (ey 19 0 [1] w8) (ey 19 0 [0] w7)
 (λ_ _ _ _ h0 h1 a b _ _ h=>eb h (.k Sm (.k Vo (.k (cg r' h0) (.k Gg (.k mi .n))))) (.k (eL w7 b) (.k (eL w8 a) (.k (eL w9 h1) .n))))
 (λ_ _ h0 h1 _ _ h=>eK w9 h1 h (.k mi (.k xG (.k (cg r' h0) (.k Sr .n)))) (.k Uk .n))
 (λ_ _ h0 a _ _ h=>eK w8 a h (.k (cg r' h0) (.k Gb .n)))
 (λ_ _ h0 b _ _ h=>eK w7 b h (.k (cg r' h0) (.k Gb .n)))
theorem Ct:a6 r' iY:=cg _ T6.1
def xK(c:np):Option (dh×dh×aj×Bool):=
 yw c.C>>=λr=>if !r.2.2.2.2 then some ((⟨(⟨[]⟩:aR),0⟩:dh),(⟨(⟨[]⟩:aR),0⟩:dh),[],false)else if c.wR then pM c.C.D>>=λa=>vp (I.eta a.2.2.2.1)>>=λb=>if !b then some ((⟨(⟨[]⟩:aR),0⟩:dh),(⟨(⟨[]⟩:aR),0⟩:dh),[],false)else iY (r.1,r.2.2.1,I.eta a.2.2.2.1)>>=λd=>some ((⟨r.1,r.2.2.1⟩:dh),(⟨r.2.1,r.2.2.1⟩:dh),d,true)else vp (I.eta r.2.2.2.1)>>=λe=>if !e then some ((⟨(⟨[]⟩:aR),0⟩:dh),(⟨(⟨[]⟩:aR),0⟩:dh),[],false)else iY (r.1,r.2.2.1,I.eta r.2.2.2.1)>>=λf=>some ((⟨r.1,r.2.2.1⟩:dh),(⟨r.2.1,r.2.2.1⟩:dh),f,true)
theorem WQ:a6 A8 xK:= .bh (.k WO (.k R3 (.k Sq (.k Ct .n))))
def pf:List c4×List c4×Int×Int->Option ((Bool) ⊕ (Unit))
 |(a,b,c,t13)=>
 if (t13<c:Bool) then if aH t13 a.length then some (a.getD t13.toNat dL)>>=λd=>if aH t13 b.length then some (b.getD t13.toNat dL)>>=λe=>if !(hJ d.ae e.ae&&(jz d.Name e.Name&&true)) then some (.inl false)else pf (a,b,c,aM .i64 t13 1)else none else none else some (.inr ())
  partial_fixpoint
theorem Ua:cM 239 0 [0] N3 pf:= .rx pf.partial_correctness
def Cn(c:List c4×List c4):Option Bool:=
 match c with
 |(s1,a)=>
 if !((s1.length:Int)=(a.length:Int):Bool) then some false else pf (s1,a,(s1.length:Int),0)>>=λo=>match o with
 |.inl b=>
 some b
 |.inr d=>
 some true
theorem Uc:a6 P9 Cn:= .bh .n (.k Ua .n)
def pg:List bY×List bY×Int×Int->Option ((Bool) ⊕ (Unit))
 |(a,b,c,t13)=>
 if (t13<c:Bool) then if aH t13 a.length then some (a.getD t13.toNat bX)>>=λd=>if aH t13 b.length then some (b.getD t13.toNat bX)>>=λe=>if !(hJ d.ae e.ae&&(jz d.Data e.Data&&true)) then some (.inl false)else pg (a,b,c,aM .i64 t13 1)else none else none else some (.inr ())
  partial_fixpoint
theorem Ud:cM 103 0 [0] N4 pg:= .rx pg.partial_correctness
def xF(c:List bY×List bY):Option Bool:=
 match c with
 |(s1,a)=>
 if !((s1.length:Int)=(a.length:Int):Bool) then some false else pg (s1,a,(s1.length:Int),0)>>=λo=>match o with
 |.inl b=>
 some b
 |.inr d=>
 some true
theorem RE:a6 Pe xF:= .bh .n (.k Ud .n)
mutual
def lI:I×I->Option Bool
 |(a,b)=>
 some (bif bif bif bif decide (a.Kind=b.Kind)then ft a.bL b.bL else false then decide (a.bc=b.bc)else false then decide (a.bn=b.bn)else false then decide (a.ae=b.ae)else false)>>=λt37=>(if t37 then xF (a.Rest,b.Rest)else some false)>>=λr=>some (bif t37 then r else false)>>=λt44=>(if t44 then xD (a.av,b.av)else some false)>>=λq=>some (bif t44 then q else false)>>=λt51=>(if t51 then xD (a.ai,b.ai)else some false)>>=λt=>some (bif t51 then t else false)
  partial_fixpoint
def xD(c:List I×List I):Option Bool:=
 match c with
 |(s1,f)=>
 if !((s1.length:Int)=(f.length:Int):Bool) then some false else uS (f,s1,(s1.length:Int),0)>>=λo=>match o with
 |.inl p=>
 some p
 |.inr u=>
 some true
  partial_fixpoint
def uS:List I×List I×Int×Int->Option ((Bool) ⊕ (Unit))
 |(e,t15,j,t17)=>
 if (t17<j:Bool) then if aH t17 t15.length then if aH t17 e.length then lI (I.eta (t15.getD t17.toNat au),I.eta (e.getD t17.toNat au))>>=λr=>if !r then some (.inl false)else uS (e,t15,j,aM .i64 t17 1)else none else none else some (.inr ())
  partial_fixpoint
end
theorem Wr:dY xa lI/\dY D0 xD/\ez 104 0 [0] y8 uS:=lI.mutual_partial_correctness (dU xa) (dU D0) (ey 104 0 [0] y8)
 (λ_ h1 _ _ h=>eb h (.k RE (.k (cg D0 h1) .n)))
 (λ_ a _ _ h=>eb h .n (.k (eL y8 a) .n))
 (λ_ _ h0 a _ _ h=>eK y8 a h (.k (cg xa h0) .n))
theorem Tb:a6 xa lI:=cg _ Wr.1
def xL:aS×aS->Option Bool
 |(a,y)=>
 some (bif bif bif bif decide (a.ae=y.ae)then decide (a.Name=y.Name)else false then decide (a.aw=y.aw)else false then ft a.cp y.cp else false then ft a.bZ y.bZ else false)>>=λt37=>(if t37 then lI ((⟨a.bw.Kind,a.bw.bL,a.bw.bc,a.bw.bn,a.bw.ae,a.bw.av,a.bw.ai,a.bw.Rest⟩:I),I.eta y.bw)else some false)>>=λr=>some (bif t37 then r else false)
theorem WR:a6 Qb xL:= .bh (.k Tb .n)
def pb:List aS×List aS×Int×Int->Option ((Bool) ⊕ (Unit))
 |(c,t15,d,t17)=>
 if (t17<d:Bool) then if aH t17 t15.length then some (t15.getD t17.toNat aE)>>=λa=>if aH t17 c.length then some (c.getD t17.toNat aE)>>=λb=>xL ((⟨a.ae,a.Name,a.aw,a.cp,a.bZ,I.eta a.bw⟩:aS),(⟨b.ae,b.Name,b.aw,b.cp,b.bZ,I.eta b.bw⟩:aS))>>=λr=>if !r then some (.inl false)else pb (c,t15,d,aM .i64 t17 1)else none else none else some (.inr ())
  partial_fixpoint
theorem TE:cM 240 0 [0] N5 pb:= .rx pb.partial_correctness (.k WR .n)
def Cl(c:List aS×List aS):Option Bool:=
 match c with
 |(s1,a)=>
 if !((s1.length:Int)=(a.length:Int):Bool) then some false else pb (a,s1,(s1.length:Int),0)>>=λo=>match o with
 |.inl b=>
 some b
 |.inr d=>
 some true
theorem TF:a6 Qa Cl:= .bh .n (.k TE .n)
def hY:ah×ah->Option Bool
 |(a,b)=>
 some (bif bif bif bif bif bif bif decide (a.Kind=b.Kind)then decide (a.Name=b.Name)else false then decide (a.bA=b.bA)else false then decide (a.bC=b.bC)else false then decide (a.Max=b.Max)else false then decide (a.Key=b.Key)else false then decide (a.aG=b.aG)else false then ft a.Open b.Open else false)>>=λt58=>(if t58 then Cn (a.bg,b.bg)else some false)>>=λr=>some (bif t58 then r else false)>>=λt65=>(if t65 then Cl (a.ag,b.ag)else some false)>>=λc=>some (bif t65 then c else false)
theorem XD:a6 PN hY:= .bh (.k Uc (.k TF .n))
def xM(c:Int):Option Bool:=
 some (bif bif decide (c=95)then true else bif decide (97<=c)then decide (c<=122)else false then true else bif decide (65<=c)then decide (c<=90)else false)
theorem R4:a6 P5 xM:= .bh
def CY(c:Int):Option Bool:=
 some (bif decide (48<=c)then decide (c<=57)else false)
theorem Ws:a6 P6 CY:= .bh
def k3:aj×Int×Int->Option ((Bool) ⊕ (Unit))
 |(a,b,t19)=>
 if (t19<b:Bool) then if aH t19 a.length then xM (fq a t19)>>=λc=>some (!c)>>=λt26=>if(aH t19 a.length||(!t26)) then (if t26 then CY (fq a t19)else some false)>>=λd=>if(bif t26 then(!d)else false) then some (.inl false)else k3 (a,b,aM .i64 t19 1)else none else none else some (.inr ())
  partial_fixpoint
theorem Vp:cM 208 0 [0] N6 k3:= .rx k3.partial_correctness (.k R4 (.k Ws .n))
def kG(s:aj):Option Bool:=
 some (bif decide (s=[])then true else decide (24<(s.length:Int)))>>=λt10=>if(aH 0 s.length||(!(!t10))) then (if !t10 then xM (fq s 0)else some false)>>=λr=>if(bif t10 then true else(!r)) then some false else k3 (s,(s.length:Int),0)>>=λo=>match o with
 |.inl a=>
 some a
 |.inr b=>
 some true else none
theorem RR:a6 PK kG:= .bh (.k R4 .n) (.k Vp .n)
def pN:aq×List aj×aq×Int×Int×List aj->Option ((Bool) ⊕ aq)
 |(c,a,t9,e,t11,b)=>
 if (t11<e:Bool) then if aH t11 t9.length then some (t9.getD t11.toNat 0)>>=λd=>some (bif decide (d<1)then true else decide (1000<d))>>=λt21=>some (decide (0<t11))>>=λt24=>some (df .i64 t11 1)>>=λt29=>if(aH t29 c.length||(!((!t21)&&t24))) then some (bif t21 then true else bif t24 then decide (d<=c.getD t29.toNat 0)else false)>>=λt34=>if(aH t11 a.length||(!(!t34))) then some (bif t34 then true else jd b (a.getD t11.toNat []))>>=λt42=>if(aH t11 a.length||(!(!t42))) then (if !t42 then kG (a.getD t11.toNat [])else some false)>>=λr=>if(bif t42 then true else(!r)) then some (.inl false)else if aH t11 a.length then pN (c,a,t9,e,aM .i64 t11 1,iR b (a.getD t11.toNat []))else none else none else none else none else none else some (.inr c)
  partial_fixpoint
theorem Wt:cM 237 0 [0] N7 pN:= .rx pN.partial_correctness (.k RR .n)
def yS(c:aq×List aj):Option Bool:=
 match c with
 |(l,names)=>
 pN (l,names,l,(l.length:Int),0,[])>>=λo=>match o with
 |.inl a=>
 some a
 |.inr b=>
 some (decide ((b.length:Int)<=16))
theorem SI:a6 P7 yS:= .bh .n (.k Wt .n)
def q8:List c4×List c4×Int×Int×aq×List aj->Option (List c4×aq×List aj)
 |(c,t7,d,t9,a,b)=>
 if (t9<d:Bool) then if aH t9 t7.length then some (t7.getD t9.toNat dL)>>=λe=>some [e.ae]>>=λt16=>if room 8 (a++t16).length then some [e.Name]>>=λt21=>if room 16 (b++t21).length then q8 (c,t7,d,aM .i64 t9 1,a++t16,b++t21)else none else none else none else some (c,a,b)
  partial_fixpoint
theorem VT:cM 209 0 [0] N8 q8:= .rx q8.partial_correctness
def vA(l:List c4):Option Bool:=
 q8 (l,l,(l.length:Int),0,[],[])>>=λo=>some (decide (0<(o.1.length:Int)))>>=λt26=>(if t26 then yS (o.2.1,o.2.2)else some false)>>=λr=>some (bif t26 then r else false)
theorem WS:a6 PL vA:= .bh (.k SI .n) (.k VT .n)
def C8(v:I):Option Bool:=
 lI (I.eta v,(⟨0,false,0,[],0,[],[],[]⟩:I))>>=λr=>some r
theorem XE:a6 P8 C8:= .bh (.k Tb .n)
def o':List aS×Int×Int×ah×aq×List aj->Option ((Bool) ⊕ (ah×aq×List aj))
 |(t8,e,t10,b,c,d)=>
 if (t10<e:Bool) then if aH t10 t8.length then some (t8.getD t10.toNat aE)>>=λa=>some [a.ae]>>=λt17=>if room 8 (c++t17).length then some [a.Name]>>=λt22=>if room 16 (d++t22).length then some (bif bif decide (b.Kind=6)then bif a.cp then true else a.bZ else false then true else bif a.cp then a.bZ else false)>>=λt42=>some (!a.bZ)>>=λt46=>(if((!t42)&&t46) then C8 (I.eta a.bw)else some false)>>=λf=>if(bif t42 then true else bif t46 then(!f)else false) then some (.inl false)else o' (t8,e,aM .i64 t10 1,b,c++t17,d++t22)else none else none else none else some (.inr (b,c,d))
  partial_fixpoint
theorem VU:cM 210 0 [0] N9 o':= .rx o'.partial_correctness (.k XE .n)
def sJ(t:ah):Option Bool:=
 o' (t.ag,(t.ag.length:Int),0,t,[],[])>>=λo=>match o with
 |.inl b=>
 some b
 |.inr a=>
 some (bif decide (a.1.Kind=5)then true else decide (0<(a.2.1.length:Int)))>>=λt62=>(if t62 then yS (a.2.1,a.2.2)else some false)>>=λr=>some (bif t62 then r else false)
theorem WT:a6 PM sJ:= .bh (.k SI .n) (.k VU .n)
def gu(t:ah):Option Bool:=
 if (t.Kind=1:Bool) then hY ((⟨0,t.Name,t.bA,t.bC,t.Max,t.bg,t.ag,t.Key,t.aG,t.Open⟩:ah),(⟨0,[],0,0,0,[],[],0,0,false⟩:ah))>>=λr=>some r else if (t.Kind=2:Bool) then some (decide (t.bA<=t.bC))>>=λt17=>(if t17 then hY ((⟨0,t.Name,0,0,t.Max,t.bg,t.ag,t.Key,t.aG,t.Open⟩:ah),(⟨0,[],0,0,0,[],[],0,0,false⟩:ah))else some false)>>=λj=>some (bif t17 then j else false)else if (t.Kind=3:Bool) then some (bif decide (0<=t.Max)then decide (t.Max<=200)else false)>>=λt29=>(if t29 then hY ((⟨0,t.Name,t.bA,t.bC,0,t.bg,t.ag,t.Key,t.aG,t.Open⟩:ah),(⟨0,[],0,0,0,[],[],0,0,false⟩:ah))else some false)>>=λv=>some (bif t29 then v else false)else if (t.Kind=4:Bool) then kG t.Name>>=λe=>(if e then vA t.bg else some false)>>=λA=>some (bif e then A else false)>>=λt40=>(if t40 then hY ((⟨0,[],t.bA,t.bC,t.Max,[],t.ag,t.Key,t.aG,false⟩:ah),(⟨0,[],0,0,0,[],[],0,0,false⟩:ah))else some false)>>=λB=>some (bif t40 then B else false)else some (decide (t.Kind=5))>>=λt45=>if t45 then if t45 then kG t.Name>>=λf=>(if f then sJ t else some false)>>=λC=>some (bif f then C else false)>>=λt53=>(if t53 then hY ((⟨0,[],t.bA,t.bC,t.Max,t.bg,[],t.Key,t.aG,bif t.Open then decide (t.Kind=5)else false⟩:ah),(⟨0,[],0,0,0,[],[],0,0,false⟩:ah))else some false)>>=λD=>some (bif t53 then D else false)else some (decide (t.Kind=7))>>=λt65=>if t65 then if t65 then some (bif decide (0<=t.Max)then decide (t.Max<=50)else false)>>=λt74=>if (t.Kind=8:Bool) then (if t74 then hY ((⟨0,t.Name,t.bA,t.bC,0,t.bg,t.ag,0,0,t.Open⟩:ah),(⟨0,[],0,0,0,[],[],0,0,false⟩:ah))else some false)>>=λE=>some (bif t74 then E else false)else (if t74 then hY ((⟨0,t.Name,t.bA,t.bC,0,t.bg,t.ag,t.Key,0,t.Open⟩:ah),(⟨0,[],0,0,0,[],[],0,0,false⟩:ah))else some false)>>=λk=>some (bif t74 then k else false)else if (t.Kind=9:Bool) then hY ((⟨0,t.Name,t.bA,t.bC,t.Max,t.bg,t.ag,t.Key,0,t.Open⟩:ah),(⟨0,[],0,0,0,[],[],0,0,false⟩:ah))>>=λl=>some l else some false else if (t.Kind=8:Bool) then some (bif decide (0<=t.Max)then decide (t.Max<=50)else false)>>=λa=>if (t.Kind=8:Bool) then (if a then hY ((⟨0,t.Name,t.bA,t.bC,0,t.bg,t.ag,0,0,t.Open⟩:ah),(⟨0,[],0,0,0,[],[],0,0,false⟩:ah))else some false)>>=λm=>some (bif a then m else false)else (if a then hY ((⟨0,t.Name,t.bA,t.bC,0,t.bg,t.ag,t.Key,0,t.Open⟩:ah),(⟨0,[],0,0,0,[],[],0,0,false⟩:ah))else some false)>>=λn=>some (bif a then n else false)else if (t.Kind=9:Bool) then hY ((⟨0,t.Name,t.bA,t.bC,t.Max,t.bg,t.ag,t.Key,0,t.Open⟩:ah),(⟨0,[],0,0,0,[],[],0,0,false⟩:ah))>>=λo=>some o else some false else if (t.Kind=6:Bool) then kG t.Name>>=λd=>(if d then sJ t else some false)>>=λp=>some (bif d then p else false)>>=λg=>(if g then hY ((⟨0,[],t.bA,t.bC,t.Max,t.bg,[],t.Key,t.aG,bif t.Open then decide (t.Kind=5)else false⟩:ah),(⟨0,[],0,0,0,[],[],0,0,false⟩:ah))else some false)>>=λq=>some (bif g then q else false)else some (decide (t.Kind=7))>>=λi=>if i then if i then some (bif decide (0<=t.Max)then decide (t.Max<=50)else false)>>=λb=>if (t.Kind=8:Bool) then (if b then hY ((⟨0,t.Name,t.bA,t.bC,0,t.bg,t.ag,0,0,t.Open⟩:ah),(⟨0,[],0,0,0,[],[],0,0,false⟩:ah))else some false)>>=λs=>some (bif b then s else false)
 else (if b then hY ((⟨0,t.Name,t.bA,t.bC,0,t.bg,t.ag,t.Key,0,t.Open⟩:ah),(⟨0,[],0,0,0,[],[],0,0,false⟩:ah))else some false)>>=λu=>some (bif b then u else false)else if (t.Kind=9:Bool) then hY ((⟨0,t.Name,t.bA,t.bC,t.Max,t.bg,t.ag,t.Key,0,t.Open⟩:ah),(⟨0,[],0,0,0,[],[],0,0,false⟩:ah))>>=λw=>some w else some false else if (t.Kind=8:Bool) then some (bif decide (0<=t.Max)then decide (t.Max<=50)else false)>>=λc=>if (t.Kind=8:Bool) then (if c then hY ((⟨0,t.Name,t.bA,t.bC,0,t.bg,t.ag,0,0,t.Open⟩:ah),(⟨0,[],0,0,0,[],[],0,0,false⟩:ah))else some false)>>=λx=>some (bif c then x else false)else (if c then hY ((⟨0,t.Name,t.bA,t.bC,0,t.bg,t.ag,t.Key,0,t.Open⟩:ah),(⟨0,[],0,0,0,[],[],0,0,false⟩:ah))else some false)>>=λy=>some (bif c then y else false)else if (t.Kind=9:Bool) then hY ((⟨0,t.Name,t.bA,t.bC,t.Max,t.bg,t.ag,t.Key,0,t.Open⟩:ah),(⟨0,[],0,0,0,[],[],0,0,false⟩:ah))>>=λz=>some z else some false
theorem XO:a6 Pr gu:= .bh (.k XD (.k RR (.k WS (.k WT .n))))
def qy:List aS×Int×Int×ah×aq->Option (ah×aq)
 |(t7,c,t9,b,a)=>
 if (t9<c:Bool) then if aH t9 t7.length then some [(t7.getD t9.toNat aE).aw]>>=λt16=>if room 8 (a++t16).length then qy (t7,c,aM .i64 t9 1,b,a++t16)else none else none else some (b,a)
  partial_fixpoint
theorem WU:cM 170 0 [0] Nw qy:= .rx qy.partial_correctness
def CH(t:ah):Option aq:=
 qy (t.ag,(t.ag.length:Int),0,t,[])>>=λo=>if (o.1.Kind=8:Bool) then some [o.1.Key]>>=λt25=>if room 8 (o.2++t25).length then some (o.2++t25)>>=λl=>if (7<=o.1.Kind:Bool) then some [o.1.aG]>>=λt33=>if room 8 (l++t33).length then some (l++t33)else none else some l else none else if (7<=o.1.Kind:Bool) then some [o.1.aG]>>=λa=>if room 8 (o.2++a).length then some (o.2++a)else none else some o.2
theorem XP:a6 Ps CH:= .bh .n (.k WU .n)
def pa:List ah×Int×Int×aq×Int×Int×List ah×List aj×Int×aj×Int×Int×Int×List c4×List aS×Int×Int×Bool->Option ((Int) ⊕ (List ah×Int×Int×List ah×List aj×Int×aj×Int×Int×Int×List c4×List aS×Int×Int×Bool))
 |(n,o,p,t38,q,t40,a,b,c,d,e,f,g,i,j,k,l,m)=>
 if (t40<q:Bool) then if aH t40 t38.length then some (t38.getD t40.toNat 0)>>=λr=>if(bif (r<0:Bool)then true else ((a.length:Int)<=r:Bool)) then some (.inl 4)else pa (n,o,p,t38,q,aM .i64 t40 1,a,b,c,d,e,f,g,i,j,k,l,m)else none else some (.inr (n,o,p,a,b,c,d,e,f,g,i,j,k,l,m))
  partial_fixpoint
theorem VV:cM 139 0 [0,0] L2 pa:= .rx pa.partial_correctness
def ri(j:List ah×Int×Int×List ah×List aj):Option ((Int) ⊕ (Unit)):=
 match j with
 |(t14,f,t16,b,d)=>
 if (t16<f:Bool) then if aH t16 t14.length then some (t14.getD t16.toNat aN)>>=λa=>gu a>>=λr=>if(bif (!r)then true else bif (!(a.Name=[]:Bool))then jd d a.Name else false) then some (.inl 1)else CH a>>=λe=>pa (t14,f,t16,e,(e.length:Int),0,b,iR d a.Name,a.Kind,a.Name,a.bA,a.bC,a.Max,a.bg,a.ag,a.Key,a.aG,a.Open)>>=λg=>match g with
 |.inl i=>
 some (.inl i)
 |.inr c=>
 some (decide (c.2.2.2.2.2.1=8))>>=λt56=>if(aH c.2.2.2.2.2.2.2.2.2.2.2.2.1 c.2.2.2.1.length||(!t56)) then some (decide ((c.2.2.2.1.getD c.2.2.2.2.2.2.2.2.2.2.2.2.1.toNat aN).Kind<1))>>=λt65=>if(aH c.2.2.2.2.2.2.2.2.2.2.2.2.1 c.2.2.2.1.length||(!(t56&&(!t65)))) then if(bif t56 then bif t65 then true else (4<(c.2.2.2.1.getD c.2.2.2.2.2.2.2.2.2.2.2.2.1.toNat aN).Kind:Bool)else false) then some (.inl 1)else ri (c.1,c.2.1,aM .i64 c.2.2.1 1,c.2.2.2.1,c.2.2.2.2.1)else none else none else none else some (.inr ())
  partial_fixpoint
theorem Vq:cM 139 0 [0] Nx ri:= .rx ri.partial_correctness (.k XO (.k XP .n)) (.k VV .n)
def pT(s:aR):Option Int:=
 if (32<(s.Types.length:Int):Bool) then some 3 else ri (s.Types,(s.Types.length:Int),0,s.Types,[])>>=λo=>match o with
 |.inl a=>
 some a
 |.inr b=>
 some 0
theorem xN:a6 Bb pT:= .bh .n (.k Vq .n)
def uU(r:dh):Option Int:=
 pT r.cU>>=λa=>if !(a=0:Bool) then some a else if(bif (r.aw<0:Bool)then true else ((r.cU.Types.length:Int)<=r.aw:Bool)) then some 4 else some 0
theorem Wu:a6 EB uU:= .bh (.k xN .n)
def mo:List dh×Int×Int->Option ((Int) ⊕ (Unit))
 |(t6,a,t8)=>
 if (t8<a:Bool) then if aH t8 t6.length then uU (t6.getD t8.toNat H8)>>=λr=>if !(r=0:Bool) then some (.inl r)else mo (t6,a,aM .i64 t8 1)else none else some (.inr ())
  partial_fixpoint
theorem VA:cM 65 0 [0] EM mo:= .rx mo.partial_correctness (.k Wu .n)
def CZ(l:List dh):Option Int:=
 mo (l,(l.length:Int),0)>>=λo=>match o with
 |.inl a=>
 some a
 |.inr b=>
 some 0
theorem Wv:a6 EL CZ:= .bh .n (.k VA .n)
def hB:Int×List ah×aq×Int×aq->Option (I×Bool×List ah×Int×aq×aq)
 |(c,b,e,f,a)=>
 tg 8 a>>=λr=>if((r.1.length=a.length:Bool)&&true) then some ((⟨0,false,0,[],0,[],[],[]⟩:I),false,b,c,r.1,r.2)else none
theorem q2:a6 Pt hB:= .bh (.k nN .n)
def mm:aj×Int×Int×Int->Option Int
 |(a,b,c,t18)=>
 if (t18<c:Bool) then if aH t18 a.length then mm (a,rC .u64 (mO .u64 b 8) (bW .u64 (fq a t18)),c,aM .i64 t18 1)else none else some b
  partial_fixpoint
theorem VW:cM 172 0 [0] Ny mm:= .rx mm.partial_correctness
def sK(s:aj):Option (Int×Int):=
 some (!(decide (s=[])))>>=λt7=>if(aH 0 s.length||(!t7)) then if(bif t7 then (fq s 0=0:Bool)else false) then some (0,2)else if (8<(s.length:Int):Bool) then some (0,7)else mm (s,0,(s.length:Int),0)>>=λo=>some (o,0)else none
theorem WV:a6 Pu sK:= .bh .n (.k VW .n)
def Cj(n:Int):Option Int:=
 some (ub .i64 (bW .i64 (lr .u64 n 1)) (df .i64 0 (bW .i64 (A1 .u64 n 1))))
theorem Ww:a6 Pv Cj:= .bh
def Gm:c4×Int->Option (Bool×Int)
 |(a,b)=>
 some (decide (a.ae=b),b)
theorem Wx:a6 PJ Gm:= .bh
def nd:List c4×Int×Int×Int->Option ((Int×Int) ⊕ (Int))
 |(a,c,t8,b)=>
 if (t8<c:Bool) then if aH t8 a.length then Gm (a.getD t8.toNat dL,b)>>=λr=>if r.1 then some (.inl (t8,r.2))else nd (a,c,aM .i64 t8 1,r.2)else none else some (.inr b)
  partial_fixpoint
theorem Tw:cM 205 1 [0] Nz nd:= .rx nd.partial_correctness (.k Wx .n)
def F0(d:List c4×Int):Option (Int×Int):=
 match d with
 |(s,b)=>
 nd (s,(s.length:Int),0,b)>>=λo=>match o with
 |.inl a=>
 some (a.1,a.2)
 |.inr c=>
 some ((-1),c)
theorem TC:a6 PI F0:= .bh .n (.k Tw .n)
def sM:ah×Int->Option (Int×Bool)
 |(t,id)=>
 F0 (t.bg,id)>>=λr=>some (iv r.1 0,decide (0<=r.1))
theorem Ck:a6 Pp sM:= .bh (.k TC .n)
def DF(a:Int):Option Bool:=
 some (!(decide (a=a)))
theorem XY:a6 Qh DF:= .bh
def CI:Int×Int->Option Int
 |(a,y)=>
 DF a>>=λr=>DF y>>=λb=>if r then if b then some 0 else some (-1)else if b then some 1 else if (a<y:Bool) then some (-1)else if (y<a:Bool) then some 1 else some 0
theorem W5:a6 P2 CI:= .bh (.k XY .n)
def CJ(a:Int):Option Bool:=
 some (!(decide (a=a)))
theorem W6:a6 Qg CJ:= .bh
def za:Int×Int->Option Int
 |(a,y)=>
 CJ a>>=λr=>CJ y>>=λb=>if r then if b then some 0 else some (-1)else if b then some 1 else if (a<y:Bool) then some (-1)else if (y<a:Bool) then some 1 else some 0
theorem V':a6 PZ za:= .bh (.k W6 .n)
def CK(a:aj):Option Bool:=
 some (!(decide (a=a)))
theorem W7:a6 Qi CK:= .bh
def C0:aj×aj->Option Int
 |(a,y)=>
 CK a>>=λr=>CK y>>=λb=>if r then if b then some 0 else some (-1)else if b then some 1 else if Op.bytesLess a y then some (-1)else if !(Op.bytesLess a y||(a=y:Bool)) then some 1 else some 0
theorem Wa:a6 P4 C0:= .bh (.k W7 .n)
def qL:Int×aq×Int×Int->Option ((Int) ⊕ (Int))
 |(a,t6,b,t8)=>
 if (t8<b:Bool) then if aH t8 t6.length then some (t6.getD t8.toNat 0)>>=λc=>if !(c=a:Bool) then some (.inl c)else qL (a,t6,b,aM .i64 t8 1)else none else some (.inr a)
  partial_fixpoint
theorem XZ:cM 233 0 [0] ND qL:= .rx qL.partial_correctness
def D4(a:aq):Option Int:=
 qL (0,a,(a.length:Int),0)>>=λo=>match o with
 |.inl b=>
 some b
 |.inr c=>
 some c
theorem abE:a6 P3 D4:= .bh .n (.k XZ .n)
def uV(n:Int):Option Int:=
 some (ub .u64 (mO .u64 (bW .u64 n) 1) (bW .u64 (lr .i64 n 63)))
theorem R9:a6 PB uV:= .bh
def pO:I×I->Option Int
 |(a,b)=>
 if !(a.Kind=b.Kind:Bool) then some 0 else if (a.Kind=1:Bool) then if ft a.bL b.bL then some 0 else if b.bL then some (-1)else some 1 else if (a.Kind=2:Bool) then uV a.bc>>=λr=>uV b.bc>>=λc=>CI (r,c)>>=λd=>some d else if (a.Kind=3:Bool) then za ((a.bn.length:Int),(b.bn.length:Int))>>=λe=>C0 (a.bn,b.bn)>>=λf=>D4 [e,f]>>=λg=>some g else if (a.Kind=4:Bool) then za (a.ae,b.ae)>>=λi=>some i else some 0
theorem Sa:a6 PH pO:= .bh (.k R9 (.k W5 (.k V' (.k Wa (.k abE .n)))))
def qs:List aj×Int×List ah×aq×Int×ah×Int×Bool×Int×aj×Int×Int×Bool×Int×aj×Int×aq×List I->Option ((Bool×List ah×Int×I×aq×aq) ⊕ (List aj×List ah×aq×Int×ah×Int×Bool×Int×aj×Int×Int×Bool×Int×aj×Int×aq×List I))
 |(t,b,d,e,f,i,j,k,l,m,n,o,p,q,r,s,g,a)=>
 if (b<(a.length:Int):Bool) then some (df .i64 b 1)>>=λt86=>if aH t86 a.length then if (t86.toNat<a.length:Bool) then if aH b a.length then if (b.toNat<a.length:Bool) then pO (I.eta (a.getD t86.toNat au),I.eta (a.getD b.toNat au))>>=λu=>if (0<=u:Bool) then hB (1,d,e,f,g)>>=λc=>some (.inl (c.2.1,c.2.2.1,c.2.2.2.1,I.eta c.1,c.2.2.2.2.1,c.2.2.2.2.2))else qs (t,aM .i64 b 1,d,e,f,i,j,k,l,m,n,o,p,q,r,s,g,a)else none else none else none else none else some (.inr (t,d,e,f,i,j,k,l,m,n,o,p,q,r,s,g,a))
  partial_fixpoint
theorem Ul:cM 177 2 [1] NF qs:= .rx qs.partial_correctness (.k Sa (.k q2 .n))
def sN:aj×Int×Int×Int->Option ((Int×Int×Int) ⊕ (Unit))
 |(a,n,b,t11)=>
 if (t11<b:Bool) then if aH t11 a.length then some (fq a t11)>>=λt16=>if(bif (t11=9:Bool)then (1<t16:Bool)else false) then some (.inl (0,0,7))else if (128<=t16:Bool) then some (gw .i64 7 t11)>>=λt41=>if (0<=t41:Bool) then sN (a,rC .u64 n (mO .u64 (bW .u64 (A1 .u8 t16 127)) t41),b,aM .i64 t11 1)else none else if(bif (t16=0:Bool)then (0<t11:Bool)else false) then some (.inl (0,0,2))else some (gw .i64 7 t11)>>=λt21=>if (0<=t21:Bool) then some (.inl (rC .u64 n (mO .u64 (bW .u64 t16) t21),aM .i64 t11 1,0))else none else none else some (.inr ())
  partial_fixpoint
theorem Wb:cM 254 0 [0] NA sN:= .rx sN.partial_correctness
def CU(s:aj):Option (Int×Int×Int):=
 sN (s,0,je 10 (s.length:Int),0)>>=λo=>match o with
 |.inl a=>
 some (a.1,a.2.1,a.2.2)
 |.inr b=>
 some (0,0,10)
theorem W3:a6 Qj CU:= .bh .n (.k Wb .n)
def qE(s:aj):Option (Int×aj×Bool):=
 CU s>>=λr=>if !(r.2.2=0:Bool) then some (0,[],false)else if dS r.2.1 (s.length:Int) s.length then some (r.1,d' s r.2.1 (s.length:Int),true)else none
theorem G1:a6 Qc qE:= .bh (.k W3 .n)
def zj(s:aj):Option (aj×aj×Bool):=
 qE s>>=λr=>if(bif (!r.2.2)then true else (bW .u64 (r.2.1.length:Int)<r.1:Bool)) then some ([],[],false)else if dS 0 r.1 r.2.1.length then if dS r.1 (r.2.1.length:Int) r.2.1.length then some (d' r.2.1 0 r.1,d' r.2.1 r.1 (r.2.1.length:Int),true)else none else none
theorem Tc:a6 Qd zj:= .bh (.k G1 .n)
def hC:aj×List aj->Option ((Int) ⊕ (List aj))
 |(s,a)=>
 if !(s=[]:Bool) then zj s>>=λr=>if !r.2.2 then some (.inl 12)else some [r.1]>>=λt22=>if room 16 (a++t22).length then hC (r.2.1,a++t22)else none else some (.inr a)
  partial_fixpoint
theorem Wy:cM 213 0 [0] NC hC:= .rx hC.partial_correctness (.k Tc .n)
def k6(c:aj):Option (List aj×Int):=
 hC (c,[])>>=λo=>match o with
 |.inl a=>
 some ([],a)
 |.inr b=>
 some (b,0)
theorem RS:a6 PQ k6:= .bh .n (.k Wy .n)
mutual
def jI(v:I):Option I:=
 fC 120 v.av>>=λr=>fC 120 v.ai>>=λU=>fC 24 v.Rest>>=λW=>sD ((r.length:Int),0,v.Kind,v.bL,v.bc,v.bn,v.ae,0,false,0,[],0,r,U,W)>>=λo=>sE ((o.2.2.2.2.2.2.2.2.2.2.2.1.length:Int),0,o.1,o.2.1,o.2.2.1,o.2.2.2.1,o.2.2.2.2.1,o.2.2.2.2.2.1,o.2.2.2.2.2.2.1,o.2.2.2.2.2.2.2.1,o.2.2.2.2.2.2.2.2.1,o.2.2.2.2.2.2.2.2.2.1,o.2.2.2.2.2.2.2.2.2.2.2.1,o.2.2.2.2.2.2.2.2.2.2.1,o.2.2.2.2.2.2.2.2.2.2.2.2)>>=λa=>some (⟨a.1,a.2.1,a.2.2.1,a.2.2.2.1,a.2.2.2.2.1,a.2.2.2.2.2.2.2.2.2.2.1,a.2.2.2.2.2.2.2.2.2.2.2.1,a.2.2.2.2.2.2.2.2.2.2.2.2⟩:I)
  partial_fixpoint
def sD:Int×Int×Int×Bool×Int×aj×Int×Int×Bool×Int×aj×Int×List I×List I×List bY->Option (Int×Bool×Int×aj×Int×Int×Bool×Int×aj×Int×List I×List I×List bY)
 |(R,t22,j,p,q,t,u,w,x,y,z,A,c,B,D)=>
 if (t22<R:Bool) then if aH t22 c.length then if (t22.toNat<c.length:Bool) then jI (I.eta (c.getD t22.toNat au))>>=λX=>if aH t22 c.length then if (t22.toNat<c.length:Bool) then sD (R,aM .i64 t22 1,j,p,q,t,u,w,x,y,z,A,c.set t22.toNat (I.eta X),B,D)else none else none else none else none else some (j,p,q,t,u,w,x,y,z,A,c,B,D)
  partial_fixpoint
def sE:Int×Int×Int×Bool×Int×aj×Int×Int×Bool×Int×aj×Int×List I×List I×List bY->Option (Int×Bool×Int×aj×Int×Int×Bool×Int×aj×Int×List I×List I×List bY)
 |(S,t37,E,F,G,H,J,K,L,M,N,O,e,P,Q)=>
 if (t37<S:Bool) then if aH t37 e.length then if (t37.toNat<e.length:Bool) then jI (I.eta (e.getD t37.toNat au))>>=λY=>if aH t37 e.length then if (t37.toNat<e.length:Bool) then sE (S,aM .i64 t37 1,E,F,G,H,J,K,L,M,N,O,e.set t37.toNat (I.eta Y),P,Q)else none else none else none else none else some (E,F,G,H,J,K,L,M,N,O,P,e,Q)
  partial_fixpoint
end
theorem Wz:dY uy jI/\ez 217 0 [1] zy sE/\ez 217 0 [0] zx sD:=jI.mutual_partial_correctness (dU uy) (ey 217 0 [1] zy) (ey 217 0 [0] zx)
 (λ_ _ h1 a _ _ h=>eb h (.k nU (.k o6 .n)) (.k (eL zx a) (.k (eL zy h1) .n)))
 (λ_ _ h0 h1 _ _ h=>eK zy h1 h (.k (cg uy h0) .n))
 (λ_ _ h0 a _ _ h=>eK zx a h (.k (cg uy h0) .n))
theorem Wc:a6 uy jI:=cg _ Wz.1
def F4:cQ×aS->Option (Bool×aS)
 |(f,b)=>
 some (decide (f.ae=b.ae),(⟨b.ae,b.Name,b.aw,b.cp,b.bZ,I.eta b.bw⟩:aS))
theorem TS:a6 PT F4:= .bh
def pe:List cQ×Int×Int×aS->Option ((Int×aS) ⊕ (aS))
 |(b,c,t8,a)=>
 if (t8<c:Bool) then if aH t8 b.length then F4 (b.getD t8.toNat gj,(⟨a.ae,a.Name,a.aw,a.cp,a.bZ,I.eta a.bw⟩:aS))>>=λr=>if r.1 then some (.inl (t8,(⟨r.2.ae,r.2.Name,r.2.aw,r.2.cp,r.2.bZ,I.eta r.2.bw⟩:aS)))else pe (b,c,aM .i64 t8 1,(⟨r.2.ae,r.2.Name,r.2.aw,r.2.cp,r.2.bZ,I.eta r.2.bw⟩:aS))else none else some (.inr (⟨a.ae,a.Name,a.aw,a.cp,a.bZ,I.eta a.bw⟩:aS))
  partial_fixpoint
theorem TB:cM 215 1 [0] NH pe:= .rx pe.partial_correctness (.k TS .n)
def xE(d:List cQ×aS):Option (Int×aS):=
 match d with
 |(s,b)=>
 pe (s,(s.length:Int),0,(⟨b.ae,b.Name,b.aw,b.cp,b.bZ,I.eta b.bw⟩:aS))>>=λo=>match o with
 |.inl a=>
 some (a.1,(⟨a.2.ae,a.2.Name,a.2.aw,a.2.cp,a.2.bZ,I.eta a.2.bw⟩:aS))
 |.inr c=>
 some ((-1),(⟨c.ae,c.Name,c.aw,c.cp,c.bZ,I.eta c.bw⟩:aS))
theorem Ub:a6 PS xE:= .bh .n (.k TB .n)
def FV:aS×Int->Option (Bool×Int)
 |(m,b)=>
 some (decide (m.ae=b),b)
theorem WA:a6 Pm FV:= .bh
def pc:List aS×Int×Int×Int->Option ((Int×Int) ⊕ (Int))
 |(b,d,t8,c)=>
 if (t8<d:Bool) then if aH t8 b.length then some (b.getD t8.toNat aE)>>=λa=>FV ((⟨a.ae,a.Name,a.aw,a.cp,a.bZ,I.eta a.bw⟩:aS),c)>>=λr=>if r.1 then some (.inl (t8,r.2))else pc (b,d,aM .i64 t8 1,r.2)else none else some (.inr c)
  partial_fixpoint
theorem Tx:cM 137 1 [0] NB pc:= .rx pc.partial_correctness (.k WA .n)
def F1(d:List aS×Int):Option (Int×Int):=
 match d with
 |(s,b)=>
 pc (s,(s.length:Int),0,b)>>=λo=>match o with
 |.inl a=>
 some (a.1,a.2)
 |.inr c=>
 some ((-1),c)
theorem TD:a6 Pl F1:= .bh .n (.k Tx .n)
def ha:ah×Int->Option (Int×Bool)
 |(t,id)=>
 F1 (t.ag,id)>>=λr=>some (iv r.1 0,decide (0<=r.1))
theorem nr:a6 QG ha:= .bh (.k TD .n)
def pj:List cQ×Int×Int×List ah×aq×Int×ah×Int×Bool×Int×aj×Int×Int×Bool×Int×aj×Int×aq×List I×List bY->Option ((Bool×List ah×Int×I×aq×aq) ⊕ (List ah×aq×Int×Int×Bool×Int×aj×Int×Int×Bool×Int×aj×Int×aq×List I×List bY))
 |(t117,u,t119,d,e,f,i,j,k,l,m,n,o,p,q,r,s,b,t,g)=>
 if (t119<u:Bool) then if aH t119 t117.length then some (t117.getD t119.toNat gj)>>=λc=>ha (i,c.ae)>>=λv=>if v.2 then pj (t117,u,aM .i64 t119 1,d,e,f,i,j,k,l,m,n,o,p,q,r,s,b,t,g)else if c.cp then some [c.ae]>>=λt140=>if room 8 (b++t140).length then hB (6,d,e,f,b++t140)>>=λa=>some (df .i64 (a.2.2.2.2.1.length:Int) 1)>>=λt159=>if dS 0 t159 a.2.2.2.2.1.length then if (t159.toNat<=a.2.2.2.2.1.length:Bool) then some (.inl (false,a.2.2.1,a.2.2.2.1,I.eta a.1,a.2.2.2.2.1.take t159.toNat,a.2.2.2.2.2))else none else none else none else some [(⟨c.ae,c.Data⟩:bY)]>>=λt171=>if room 24 (g++t171).length then pj (t117,u,aM .i64 t119 1,d,e,f,i,j,k,l,m,n,o,p,q,r,s,b,t,g++t171)else none else none else some (.inr (d,e,f,j,k,l,m,n,o,p,q,r,s,b,t,g))
  partial_fixpoint
theorem Up:cM 178 2 [1] NI pj:= .rx pj.partial_correctness (.k nr (.k q2 .n))
def fX:Int×aj×List cQ->Option ((Int) ⊕ (List cQ))
 |(last,s,a)=>
 if !(s=[]:Bool) then qE s>>=λr=>if(bif bif (!r.2.2)then true else (fv .u64 r.1 2<=last:Bool)then true else (1000<fv .u64 r.1 2:Bool)) then some (.inl 12)else zj r.2.1>>=λb=>if !b.2.2 then some (.inl 12)else some [(⟨bW .i64 (fv .u64 r.1 2),decide (b' r.1 2=1),b.1⟩:cQ)]>>=λt50=>if room 32 (a++t50).length then fX (fv .u64 r.1 2,b.2.1,a++t50)else none else some (.inr a)
  partial_fixpoint
theorem VB:cM 214 0 [0] NG fX:= .rx fX.partial_correctness (.k G1 (.k Tc .n))
def lG(c:aj):Option (List cQ×Int):=
 fX (0,c,[])>>=λo=>match o with
 |.inl a=>
 some ([],a)
 |.inr b=>
 some (b,0)
theorem Wd:a6 PR lG:= .bh .n (.k VB .n)
def lL(a:aj):Option (Int×aj×Int):=
 qE a>>=λr=>if(bif bif (!r.2.2)then true else (r.1<1:Bool)then true else (1000<r.1:Bool)) then some (0,[],12)else some (bW .i64 r.1,r.2.1,0)
theorem W4:a6 PO lL:= .bh (.k G1 .n)
mutual
def yx(y:ah×aj×List ah×aq×Int×aq):Option (I×Bool×List ah×aq×Int×aq):=
 match y with
 |(c,p,b,f,j,e)=>
 k6 p>>=λr=>if(bif (!(r.2=0:Bool))then true else(!(b' (r.1.length:Int) 2=0:Bool))) then hB (1,b,f,j,e)>>=λx=>some (I.eta x.1,x.2.1,x.2.2.1,x.2.2.2.2.2,x.2.2.2.1,x.2.2.2.2.1)else if (c.Max<fv .i64 (r.1.length:Int) 2:Bool) then hB (3,b,f,j,e)>>=λv=>some (I.eta v.1,v.2.1,v.2.2.1,v.2.2.2.2.2,v.2.2.2.1,v.2.2.2.2.1)else sj (r.1,0,b,f,j,c,0,false,0,[],0,c.Kind,false,0,[],0,e,[])>>=λo=>match o with
 |.inl w=>
 some (I.eta w.2.2.2.2.1,w.1,w.2.1,w.2.2.1,w.2.2.2.1,w.2.2.2.2.2)
 |.inr a=>
 qs (a.1,1,a.2.1,a.2.2.1,a.2.2.2.1,a.2.2.2.2.1,a.2.2.2.2.2.1,a.2.2.2.2.2.2.1,a.2.2.2.2.2.2.2.1,a.2.2.2.2.2.2.2.2.1,a.2.2.2.2.2.2.2.2.2.1,a.2.2.2.2.2.2.2.2.2.2.1,a.2.2.2.2.2.2.2.2.2.2.2.1,a.2.2.2.2.2.2.2.2.2.2.2.2.1,a.2.2.2.2.2.2.2.2.2.2.2.2.2.1,a.2.2.2.2.2.2.2.2.2.2.2.2.2.2.1,a.2.2.2.2.2.2.2.2.2.2.2.2.2.2.2.1,a.2.2.2.2.2.2.2.2.2.2.2.2.2.2.2.2)>>=λbv=>match bv with
 |.inl B=>
 some (I.eta B.2.2.2.1,B.1,B.2.1,B.2.2.2.2.2,B.2.2.1,B.2.2.2.2.1)
 |.inr u=>
 sP (u.1,1,u.2.1,u.2.2.1,u.2.2.2.1,u.2.2.2.2.1,u.2.2.2.2.2.1,u.2.2.2.2.2.2.1,u.2.2.2.2.2.2.2.1,u.2.2.2.2.2.2.2.2.1,u.2.2.2.2.2.2.2.2.2.1,u.2.2.2.2.2.2.2.2.2.2.1,u.2.2.2.2.2.2.2.2.2.2.2.1,u.2.2.2.2.2.2.2.2.2.2.2.2.1,u.2.2.2.2.2.2.2.2.2.2.2.2.2.1,u.2.2.2.2.2.2.2.2.2.2.2.2.2.2.1,u.2.2.2.2.2.2.2.2.2.2.2.2.2.2.2.1,u.2.2.2.2.2.2.2.2.2.2.2.2.2.2.2.2,[])>>=λio=>match io with
 |.inl H=>
 some (I.eta H.2.2.2.2.1,H.1,H.2.1,H.2.2.1,H.2.2.2.1,H.2.2.2.2.2)
 |.inr D=>
 some ((⟨D.2.2.2.2.2.2.2.2.1,D.2.2.2.2.2.2.2.2.2.1,D.2.2.2.2.2.2.2.2.2.2.1,D.2.2.2.2.2.2.2.2.2.2.2.1,D.2.2.2.2.2.2.2.2.2.2.2.2.1,D.2.2.2.2.2.2.2.2.2.2.2.2.2.2.1,D.2.2.2.2.2.2.2.2.2.2.2.2.2.2.2,[]⟩:I),true,D.1,D.2.1,D.2.2.1,D.2.2.2.2.2.2.2.2.2.2.2.2.2.1)
  partial_fixpoint
def B7(y:ah×aj×List ah×aq×Int×aq):Option (I×Bool×List ah×aq×Int×aq):=
 match y with
 |(c,p,b,f,j,e)=>
 k6 p>>=λr=>if !(r.2=0:Bool) then hB (1,b,f,j,e)>>=λx=>some (I.eta x.1,x.2.1,x.2.2.1,x.2.2.2.2.2,x.2.2.2.1,x.2.2.2.2.1)else if (c.Max<(r.1.length:Int):Bool) then hB (3,b,f,j,e)>>=λv=>some (I.eta v.1,v.2.1,v.2.2.1,v.2.2.2.2.2,v.2.2.2.1,v.2.2.2.2.1)else sT (r.1,(r.1.length:Int),0,b,f,j,c,0,false,0,[],0,c.Kind,false,0,[],0,e,[])>>=λo=>match o with
 |.inl w=>
 some (I.eta w.2.2.2.2.1,w.1,w.2.1,w.2.2.1,w.2.2.2.1,w.2.2.2.2.2)
 |.inr a=>
 some ((⟨a.2.2.2.2.2.2.2.2.1,a.2.2.2.2.2.2.2.2.2.1,a.2.2.2.2.2.2.2.2.2.2.1,a.2.2.2.2.2.2.2.2.2.2.2.1,a.2.2.2.2.2.2.2.2.2.2.2.2.1,[],a.2.2.2.2.2.2.2.2.2.2.2.2.2.2,[]⟩:I),true,a.1,a.2.1,a.2.2.1,a.2.2.2.2.2.2.2.2.2.2.2.2.2.1)
  partial_fixpoint
def iZ:Int×Int×aj×List ah×aq×Int×aq->Option (I×Bool×List ah×aq×Int×aq)
 |(step,t,p,b,f,j,e)=>
 some [step]>>=λt18=>if room 8 (e++t18).length then oU (t,p,b,f,j,e++t18)>>=λr=>some (df .i64 (r.2.2.2.2.2.length:Int) 1)>>=λt39=>if dS 0 t39 r.2.2.2.2.2.length then if (t39.toNat<=r.2.2.2.2.2.length:Bool) then some (I.eta r.1,r.2.1,r.2.2.1,r.2.2.2.1,r.2.2.2.2.1,r.2.2.2.2.2.take t39.toNat)else none else none else none
  partial_fixpoint
def oU:Int×aj×List ah×aq×Int×aq->Option (I×Bool×List ah×aq×Int×aq)
 |(t,p,b,f,j,e)=>
 if (200<=(e.length:Int):Bool) then hB (8,b,f,j,e)>>=λr=>some (I.eta r.1,r.2.1,r.2.2.1,r.2.2.2.2.2,r.2.2.2.1,r.2.2.2.2.1)else if aH t b.length then some (b.getD t.toNat aN)>>=λc=>if (c.Kind=1:Bool) then some (decide (p=[1]))>>=λt50=>if(bif (!(p=[]:Bool))then(!t50)else false) then hB (1,b,f,j,e)>>=λP=>some (I.eta P.1,P.2.1,P.2.2.1,P.2.2.2.2.2,P.2.2.2.1,P.2.2.2.2.1)else some ((⟨c.Kind,t50,0,[],0,[],[],[]⟩:I),true,b,f,j,e)else if (c.Kind=2:Bool) then sK p>>=λF=>if !(F.2=0:Bool) then hB (1,b,f,j,e)>>=λq=>some (I.eta q.1,q.2.1,q.2.2.1,q.2.2.2.2.2,q.2.2.2.1,q.2.2.2.2.1)else Cj F.1>>=λbQ=>if(bif (bQ<c.bA:Bool)then true else (c.bC<bQ:Bool)) then hB (2,b,f,j,e)>>=λJ=>some (I.eta J.1,J.2.1,J.2.2.1,J.2.2.2.2.2,J.2.2.2.1,J.2.2.2.2.1)else some ((⟨c.Kind,false,bQ,[],0,[],[],[]⟩:I),true,b,f,j,e)else if (c.Kind=3:Bool) then if (c.Max<(p.length:Int):Bool) then hB (3,b,f,j,e)>>=λz=>some (I.eta z.1,z.2.1,z.2.2.1,z.2.2.2.2.2,z.2.2.2.1,z.2.2.2.2.1)else some ((⟨c.Kind,false,0,p,0,[],[],[]⟩:I),true,b,f,j,e)else if (c.Kind=4:Bool) then sK p>>=λaB=>if(bif bif (!(aB.2=0:Bool))then true else (aB.1<1:Bool)then true else (1000<aB.1:Bool)) then hB (1,b,f,j,e)>>=λL=>some (I.eta L.1,L.2.1,L.2.2.1,L.2.2.2.2.2,L.2.2.2.1,L.2.2.2.2.1)else some (bW .i64 aB.1)>>=λt130=>sM (c,t130)>>=λi0=>if(bif (!i0.2)then(!c.Open)else false) then hB (4,b,f,j,e)>>=λM=>some (I.eta M.1,M.2.1,M.2.2.1,M.2.2.2.2.2,M.2.2.2.1,M.2.2.2.2.1)else some ((⟨c.Kind,false,0,[],t130,[],[],[]⟩:I),true,b,f,j,e)else if (c.Kind=9:Bool) then if (p=[]:Bool) then some ((⟨c.Kind,false,0,[],0,[],[],[]⟩:I),true,b,f,j,e)else if aH 0 p.length then if !(fq p 0=1:Bool) then hB (1,b,f,j,e)>>=λN=>some (I.eta N.1,N.2.1,N.2.2.1,N.2.2.2.2.2,N.2.2.2.1,N.2.2.2.2.1)else if dS 1 (p.length:Int) p.length then iZ (0,c.aG,d' p 1 (p.length:Int),b,f,j,e)>>=λO=>some ((⟨c.Kind,false,0,[],0,[],[I.eta O.1],[]⟩:I),O.2.1,O.2.2.1,O.2.2.2.1,O.2.2.2.2.1,O.2.2.2.2.2)else none else none else if (c.Kind=6:Bool) then B4 (c,p,b,f,j,e)>>=λQ=>some (I.eta Q.1,Q.2.1,Q.2.2.1,Q.2.2.2.1,Q.2.2.2.2.1,Q.2.2.2.2.2)else if (c.Kind=7:Bool) then B7 (c,p,b,f,j,e)>>=λR=>some (I.eta R.1,R.2.1,R.2.2.1,R.2.2.2.1,R.2.2.2.2.1,R.2.2.2.2.2)else if (c.Kind=8:Bool) then yx (c,p,b,f,j,e)>>=λS=>some (I.eta S.1,S.2.1,S.2.2.1,S.2.2.2.1,S.2.2.2.2.1,S.2.2.2.2.2)else yy (c,p,b,f,j,e)>>=λU=>some (I.eta U.1,U.2.1,U.2.2.1,U.2.2.2.1,U.2.2.2.2.1,U.2.2.2.2.2)else none
  partial_fixpoint
def yy(y:ah×aj×List ah×aq×Int×aq):Option (I×Bool×List ah×aq×Int×aq):=
 match y with
 |(c,p,b,f,j,e)=>
 lG p>>=λr=>if !(r.2=0:Bool) then hB (1,b,f,j,e)>>=λx=>some (I.eta x.1,x.2.1,x.2.2.1,x.2.2.2.2.2,x.2.2.2.1,x.2.2.2.2.1)else mG (r.1,c.ag,(c.ag.length:Int),0,b,f,j,c,0,false,0,[],0,c.Kind,false,0,[],0,e,[])>>=λo=>match o with
 |.inl w=>
 some (I.eta w.2.2.2.2.1,w.1,w.2.1,w.2.2.1,w.2.2.2.1,w.2.2.2.2.2)
 |.inr a=>
 pj (a.1,(a.1.length:Int),0,a.2.1,a.2.2.1,a.2.2.2.1,a.2.2.2.2.1,a.2.2.2.2.2.1,a.2.2.2.2.2.2.1,a.2.2.2.2.2.2.2.1,a.2.2.2.2.2.2.2.2.1,a.2.2.2.2.2.2.2.2.2.1,a.2.2.2.2.2.2.2.2.2.2.1,a.2.2.2.2.2.2.2.2.2.2.2.1,a.2.2.2.2.2.2.2.2.2.2.2.2.1,a.2.2.2.2.2.2.2.2.2.2.2.2.2.1,a.2.2.2.2.2.2.2.2.2.2.2.2.2.2.1,a.2.2.2.2.2.2.2.2.2.2.2.2.2.2.2.1,a.2.2.2.2.2.2.2.2.2.2.2.2.2.2.2.2,[])>>=λbv=>match bv with
 |.inl B=>
 some (I.eta B.2.2.2.1,B.1,B.2.1,B.2.2.2.2.2,B.2.2.1,B.2.2.2.2.1)
 |.inr u=>
 some ((⟨u.2.2.2.2.2.2.2.2.1,u.2.2.2.2.2.2.2.2.2.1,u.2.2.2.2.2.2.2.2.2.2.1,u.2.2.2.2.2.2.2.2.2.2.2.1,u.2.2.2.2.2.2.2.2.2.2.2.2.1,[],u.2.2.2.2.2.2.2.2.2.2.2.2.2.2.1,u.2.2.2.2.2.2.2.2.2.2.2.2.2.2.2⟩:I),true,u.1,u.2.1,u.2.2.1,u.2.2.2.2.2.2.2.2.2.2.2.2.2.1)
  partial_fixpoint
def B4:ah×aj×List ah×aq×Int×aq->Option (I×Bool×List ah×aq×Int×aq)
 |(c,p,b,f,j,e)=>
 lL p>>=λr=>if !(r.2.2=0:Bool) then hB (1,b,f,j,e)>>=λK=>some (I.eta K.1,K.2.1,K.2.2.1,K.2.2.2.2.2,K.2.2.2.1,K.2.2.2.2.1)else ha (c,r.1)>>=λbH=>if bH.2 then if aH bH.1 c.ag.length then iZ (r.1,(c.ag.getD bH.1.toNat aE).aw,r.2.1,b,f,j,e)>>=λF=>some ((⟨c.Kind,false,0,[],r.1,[],[I.eta F.1],[]⟩:I),F.2.1,F.2.2.1,F.2.2.2.1,F.2.2.2.2.1,F.2.2.2.2.2)else none else if !c.Open then hB (5,b,f,j,e)>>=λA=>some (I.eta A.1,A.2.1,A.2.2.1,A.2.2.2.2.2,A.2.2.2.1,A.2.2.2.2.1)else some ((⟨c.Kind,false,0,[],r.1,[],[],[(⟨r.1,r.2.1⟩:bY)]⟩:I),true,b,f,j,e)
  partial_fixpoint
def sj:List aj×Int×List ah×aq×Int×ah×Int×Bool×Int×aj×Int×Int×Bool×Int×aj×Int×aq×List I->Option ((Bool×List ah×aq×Int×I×aq) ⊕ (List aj×List ah×aq×Int×ah×Int×Bool×Int×aj×Int×Int×Bool×Int×aj×Int×aq×List I))
 |(af,i,g5,g6,g7,bo,g8,g9,he,hk,hm,hs,ht,hu,hw,hH,h0,bs)=>
 if (i<(af.length:Int):Bool) then if aH i af.length then iZ (fv .i64 i 2,bo.Key,af.getD i.toNat [],g5,g6,g7,h0)>>=λq=>if !q.2.1 then some (.inl (false,q.2.2.1,q.2.2.2.1,q.2.2.2.2.1,I.eta q.1,q.2.2.2.2.2))else some [I.eta q.1]>>=λt73=>if room 120 (bs++t73).length then sj (af,aM .i64 i 2,q.2.2.1,q.2.2.2.1,q.2.2.2.2.1,bo,g8,g9,he,hk,hm,hs,ht,hu,hw,hH,q.2.2.2.2.2,bs++t73)else none else none else some (.inr (af,g5,g6,g7,bo,g8,g9,he,hk,hm,hs,ht,hu,hw,hH,h0,bs))
  partial_fixpoint
def sP:List aj×Int×List ah×aq×Int×ah×Int×Bool×Int×aj×Int×Int×Bool×Int×aj×Int×aq×List I×List I->Option ((Bool×List ah×aq×Int×I×aq) ⊕ (List ah×aq×Int×Int×Bool×Int×aj×Int×Int×Bool×Int×aj×Int×aq×List I×List I))
 |(ax,Z,h1,b0,b1,b2,b3,b4,ce,ci,cq,cs,c7,ds,dt,eq,es,ex,aC)=>
 if (Z<(ax.length:Int):Bool) then if aH Z ax.length then iZ (fv .i64 Z 2,b2.aG,ax.getD Z.toNat [],h1,b0,b1,es)>>=λz=>if !z.2.1 then some (.inl (false,z.2.2.1,z.2.2.2.1,z.2.2.2.2.1,I.eta z.1,z.2.2.2.2.2))else some [I.eta z.1]>>=λt125=>if room 120 (aC++t125).length then sP (ax,aM .i64 Z 2,z.2.2.1,z.2.2.2.1,z.2.2.2.2.1,b2,b3,b4,ce,ci,cq,cs,c7,ds,dt,eq,z.2.2.2.2.2,ex,aC++t125)else none else none else some (.inr (h1,b0,b1,b3,b4,ce,ci,cq,cs,c7,ds,dt,eq,es,ex,aC))
  partial_fixpoint
def sT:List aj×Int×Int×List ah×aq×Int×ah×Int×Bool×Int×aj×Int×Int×Bool×Int×aj×Int×aq×List I->Option ((Bool×List ah×aq×Int×I×aq) ⊕ (List ah×aq×Int×Int×Bool×Int×aj×Int×Int×Bool×Int×aj×Int×aq×List I))
 |(t38,ii,t40,fd,ff,fo,fs,gc,gd,ge,gl,gs,gt,g0,g1,g2,g3,g4,aI)=>
 if (t40<ii:Bool) then if aH t40 t38.length then iZ (t40,fs.aG,t38.getD t40.toNat [],fd,ff,fo,g4)>>=λq=>if !q.2.1 then some (.inl (false,q.2.2.1,q.2.2.2.1,q.2.2.2.2.1,I.eta q.1,q.2.2.2.2.2))else some [I.eta q.1]>>=λt60=>if room 120 (aI++t60).length then sT (t38,ii,aM .i64 t40 1,q.2.2.1,q.2.2.2.1,q.2.2.2.2.1,fs,gc,gd,ge,gl,gs,gt,g0,g1,g2,g3,q.2.2.2.2.2,aI++t60)else none else none else some (.inr (fd,ff,fo,gc,gd,ge,gl,gs,gt,g0,g1,g2,g3,g4,aI))
  partial_fixpoint
def mG:List cQ×List aS×Int×Int×List ah×aq×Int×ah×Int×Bool×Int×aj×Int×Int×Bool×Int×aj×Int×aq×List I->Option ((Bool×List ah×aq×Int×I×aq) ⊕ (List cQ×List ah×aq×Int×ah×Int×Bool×Int×aj×Int×Int×Bool×Int×aj×Int×aq×List I))
 |(G,t39,bT,t41,am,an,ap,aZ,a0,a1,a2,a3,a4,a5,a9,ba,be,bi,X,Y)=>
 if (t41<bT:Bool) then if aH t41 t39.length then some (t39.getD t41.toNat aE)>>=λW=>xE (G,(⟨W.ae,W.Name,W.aw,W.cp,W.bZ,I.eta W.bw⟩:aS))>>=λv=>if (0<=v.1:Bool) then if aH v.1 G.length then iZ (v.2.ae,v.2.aw,(G.getD v.1.toNat gj).Data,am,an,ap,X)>>=λE=>if !E.2.1 then some (.inl (false,E.2.2.1,E.2.2.2.1,E.2.2.2.2.1,I.eta E.1,E.2.2.2.2.2))else some [I.eta E.1]>>=λt102=>if room 120 (Y++t102).length then mG (G,t39,bT,aM .i64 t41 1,E.2.2.1,E.2.2.2.1,E.2.2.2.2.1,aZ,a0,a1,a2,a3,a4,a5,a9,ba,be,bi,E.2.2.2.2.2,Y++t102)else none else none else if v.2.bZ then jI (I.eta v.2.bw)>>=λip=>some [I.eta ip]>>=λt113=>if room 120 (Y++t113).length then mG (G,t39,bT,aM .i64 t41 1,am,an,ap,aZ,a0,a1,a2,a3,a4,a5,a9,ba,be,bi,X,Y++t113)else none else some [v.2.ae]>>=λt55=>if room 8 (X++t55).length then hB (7,am,an,ap,X++t55)>>=λA=>some (df .i64 (A.2.2.2.2.1.length:Int) 1)>>=λt74=>if dS 0 t74 A.2.2.2.2.1.length then if (t74.toNat<=A.2.2.2.2.1.length:Bool) then some (.inl (false,A.2.2.1,A.2.2.2.2.2,A.2.2.2.1,I.eta A.1,A.2.2.2.2.1.take t74.toNat))else none else none else none else none else some (.inr (G,am,an,ap,aZ,a0,a1,a2,a3,a4,a5,a9,ba,be,bi,X,Y))
  partial_fixpoint
end
theorem Uq:dY Be yx/\ez 177 2 [2] zw sP/\dY oK iZ/\dY w4 oU/\dY Bf yy/\ez 178 2 [0] zz mG/\dY Bd B7/\ez 176 2 [0] zu sT/\dY Bc B4/\ez 177 2 [0] zv sj:=yx.mutual_partial_correctness (dU Be) (ey 177 2 [2] zw) (dU oK) (dU w4) (dU Bf) (ey 178 2 [0] zz) (dU Bd) (ey 176 2 [0] zu) (dU Bc) (ey 177 2 [0] zv)
 (λ_ _ h1 c _ _ h=>eb h (.k RS (.k q2 .n)) (.k (eL zv c) (.k Ul (.k (eL zw h1) .n))))
 (λ_ _ h1 a _ _ h=>eK zw h1 h (.k (cg oK a) .n))
 (λ_ d _ _ h=>eb h (.k (cg w4 d) .n))
 (λ_ _ _ _ _ h0 a e f g _ _ h=>eb h (.k q2 (.k WV (.k Ww (.k Ck (.k (cg oK a) (.k (cg Bc g) (.k (cg Bd f) (.k (cg Be h0) (.k (cg Bf e) .n))))))))))
 (λ_ ba _ _ h=>eb h (.k Wd (.k q2 .n)) (.k (eL zz ba) (.k Up .n)))
 (λ_ _ a ba _ _ h=>eK zz ba h (.k Ub (.k (cg oK a) (.k Wc (.k q2 .n)))))
 (λ_ b _ _ h=>eb h (.k RS (.k q2 .n)) (.k (eL zu b) .n))
 (λ_ _ a b _ _ h=>eK zu b h (.k (cg oK a) .n))
 (λ_ a _ _ h=>eb h (.k W4 (.k q2 (.k nr (.k (cg oK a) .n)))))
 (λ_ _ a c _ _ h=>eK zv c h (.k (cg oK a) .n))
theorem T7:a6 w4 oU:=cg _ Uq.2.2.2.1
def GL:aR×Int×aj->Option (I×iT×Int)
 |(s,t,m)=>
 pT s>>=λr=>if !(r=0:Bool) then some ((⟨0,false,0,[],0,[],[],[]⟩:I),(⟨[],0⟩:iT),r)else if(bif (t<0:Bool)then true else ((s.Types.length:Int)<=t:Bool)) then some ((⟨0,false,0,[],0,[],[],[]⟩:I),(⟨[],0⟩:iT),4)else if (4096<(m.length:Int):Bool) then some ((⟨0,false,0,[],0,[],[],[]⟩:I),(⟨[],3⟩:iT),12)else oU (t,m,s.Types,[],0,[])>>=λa=>if !a.2.1 then some ((⟨0,false,0,[],0,[],[],[]⟩:I),(⟨a.2.2.2.1,a.2.2.2.2.1⟩:iT),12)else some (I.eta a.1,(⟨[],0⟩:iT),0)
theorem W8:a6 Pd GL:= .bh (.k xN (.k T7 .n))
def sO:aR×Int×aj->Option (I×Int)
 |(s,t,m)=>
 GL (s,t,m)>>=λr=>some (I.eta r.1,r.2.2)
theorem We:a6 Bq sO:= .bh (.k W8 .n)
def C1:aR×Int->Option Int
 |(s,t)=>
 pT s>>=λr=>if !(r=0:Bool) then some r else if(bif (t<0:Bool)then true else ((s.Types.length:Int)<=t:Bool)) then some 4 else some 0
theorem Wf:a6 Pf C1:= .bh (.k xN .n)
def CV(v:I):Option I:=
 if (v.Kind=1:Bool) then some (⟨v.Kind,v.bL,0,[],0,[],[],[]⟩:I)else if (v.Kind=2:Bool) then some (⟨v.Kind,false,v.bc,[],0,[],[],[]⟩:I)else if (v.Kind=3:Bool) then some (⟨v.Kind,false,0,v.bn,0,[],[],[]⟩:I)else if (v.Kind=4:Bool) then some (⟨v.Kind,false,0,[],v.ae,[],[],[]⟩:I)else if (v.Kind=5:Bool) then some (⟨v.Kind,false,0,[],0,[],v.ai,v.Rest⟩:I)else if (v.Kind=6:Bool) then some (⟨v.Kind,false,0,[],v.ae,[],v.ai,v.Rest⟩:I)else if (v.Kind=8:Bool) then some (⟨v.Kind,false,0,[],0,v.av,v.ai,[]⟩:I)else some (decide (v.Kind=7))>>=λt57=>if t57 then if t57 then some (⟨v.Kind,false,0,[],0,[],v.ai,[]⟩:I)else some (⟨v.Kind,false,0,[],0,[],[],[]⟩:I)else if (v.Kind=9:Bool) then some (⟨v.Kind,false,0,[],0,[],v.ai,[]⟩:I)else some (⟨v.Kind,false,0,[],0,[],[],[]⟩:I)
theorem Yi:a6 P1 CV:= .bh
def C9(v:I):Option Bool:=
 CV (I.eta v)>>=λr=>some (bif bif bif bif bif bif ft v.bL r.bL then decide (v.bc=r.bc)else false then decide (v.bn=r.bn)else false then decide (v.ae=r.ae)else false then decide ((v.av.length:Int)=(r.av.length:Int))else false then decide ((v.ai.length:Int)=(r.ai.length:Int))else false then decide ((v.Rest.length:Int)=(r.Rest.length:Int))else false)
theorem XF:a6 PF C9:= .bh (.k Yi .n)
def yT(id:Int):Option Bool:=
 some (bif decide (1<=id)then decide (id<=1000)else false)
theorem SJ:a6 PG yT:= .bh
def k5:Bool×List bY×Int×Int×List ah×I×Int×aj×Int×Int×Int×List c4×List aS×Int×Int×Bool->Option ((Bool) ⊕ (Bool×List ah×Int×Bool×Int×aj×Int×List I×List I×List bY×Int×aj×Int×Int×Int×List c4×List aS×Int×Int×Bool))
 |(o,t111,q,t113,n,a,b,c,d,e,f,g,i,j,k,l)=>
 if (t113<q:Bool) then if aH t113 t111.length then some (t111.getD t113.toNat bX)>>=λm=>ha ((⟨b,c,d,e,f,g,i,j,k,l⟩:ah),m.ae)>>=λp=>(if !p.2 then yT m.ae else some false)>>=λr=>some (bif p.2 then true else(!r))>>=λt131=>some (decide (0<t113))>>=λt134=>some (df .i64 t113 1)>>=λt141=>if(aH t141 a.Rest.length||(!((!t131)&&t134))) then if(bif t131 then true else bif t134 then (m.ae<=(a.Rest.getD t141.toNat bX).ae:Bool)else false) then some (.inl false)else k5 (o,t111,q,aM .i64 t113 1,n,I.eta a,b,c,d,e,f,g,i,j,k,l)else none else none else some (.inr (o,n,a.Kind,a.bL,a.bc,a.bn,a.ae,a.av,a.ai,a.Rest,b,c,d,e,f,g,i,j,k,l))
  partial_fixpoint
theorem Wg:cM 164 0 [0] NJ k5:= .rx k5.partial_correctness (.k nr (.k SJ .n))
def kF:Bool×Int×List ah×I×Int×aj×Int×Int×Int×List c4×List aS×Int×Int×Bool->Option ((Bool) ⊕ (Bool×List ah×I×Int×aj×Int×Int×Int×List c4×List aS×Int×Int×Bool))
 |(o,i,b,a,c,d,e,f,g,j,k,l,m,n)=>
 if (i<(a.av.length:Int):Bool) then some (df .i64 i 1)>>=λt291=>if aH t291 a.av.length then if aH i a.av.length then pO (I.eta (a.av.getD t291.toNat au),I.eta (a.av.getD i.toNat au))>>=λp=>if (0<=p:Bool) then some (.inl false)else kF (o,aM .i64 i 1,b,I.eta a,c,d,e,f,g,j,k,l,m,n)else none else none else some (.inr (o,b,I.eta a,c,d,e,f,g,j,k,l,m,n))
  partial_fixpoint
theorem Xt:cM 164 0 [2] NK kF:= .rx kF.partial_correctness (.k Sa .n)
mutual
def Cm:List I×List ah×Int×Bool->Option (Bool×List ah×Int×Bool)
 |(s,b,f,j)=>
 F3 (s,b,f,j)>>=λr=>some (decide (0<=r.1),r.2.1,r.2.2.1,r.2.2.2)
  partial_fixpoint
def F3(e:List I×List ah×Int×Bool):Option (Int×List ah×Int×Bool):=
 match e with
 |(s,b,f,j)=>
 qm (s,(s.length:Int),0,b,f,j)>>=λo=>match o with
 |.inl p=>
 some (p.1,p.2.1,p.2.2.1,p.2.2.2)
 |.inr c=>
 some ((-1),c.1,c.2.1,c.2.2)
  partial_fixpoint
def qJ:aR×Int×List I×Bool->Option Bool
 |(s,t,l,plain)=>
 Cm (l,s.Types,t,plain)>>=λr=>some (!r.1)
  partial_fixpoint
def Gv:I×List ah×Int×Bool->Option (Bool×List ah×Int×Bool)
 |(v,b,f,j)=>
 j5 ((⟨b⟩:aR),f,I.eta v,j)>>=λr=>some ((!r),b,f,j)
  partial_fixpoint
def j5(e:aR×Int×I×Bool):Option Bool:=
 match e with
 |(s,t,v,plain)=>
 if(bif (t<0:Bool)then true else ((s.Types.length:Int)<=t:Bool)) then some false else if aH t s.Types.length then some (s.Types.getD t.toNat aN)>>=λa=>some (!(decide (v.Kind=a.Kind)))>>=λt39=>(if !t39 then C9 (I.eta v)else some false)>>=λr=>if(bif t39 then true else(!r)) then some false else if (a.Kind=2:Bool) then some (bif decide (a.bA<=v.bc)then decide (v.bc<=a.bC)else false)else if (a.Kind=3:Bool) then some (decide ((v.bn.length:Int)<=a.Max))else if (a.Kind=4:Bool) then sM (a,v.ae)>>=λE=>some (bif a.Open then(!plain)else false)>>=λt85=>(if((!E.2)&&t85) then yT v.ae else some false)>>=λaf=>some (bif E.2 then true else bif t85 then af else false)else if (a.Kind=5:Bool) then if(bif (!((v.ai.length:Int)=(a.ag.length:Int):Bool))then true else bif plain then (0<(v.Rest.length:Int):Bool)else false) then some false else k5 (plain,v.Rest,(v.Rest.length:Int),0,s.Types,I.eta v,a.Kind,a.Name,a.bA,a.bC,a.Max,a.bg,a.ag,a.Key,a.aG,a.Open)>>=λo=>match o with
 |.inl p=>
 some p
 |.inr c=>
 mu (c.1,c.2.2.2.2.2.2.2.2.2.2.2.2.2.2.2.2.1,(c.2.2.2.2.2.2.2.2.2.2.2.2.2.2.2.2.1.length:Int),0,c.2.1,c.2.2.1,c.2.2.2.1,c.2.2.2.2.1,c.2.2.2.2.2.1,c.2.2.2.2.2.2.1,c.2.2.2.2.2.2.2.1,c.2.2.2.2.2.2.2.2.1,c.2.2.2.2.2.2.2.2.2.1)>>=λP=>match P with
 |.inl Q=>
 some Q
 |.inr ap=>
 some true else if (a.Kind=6:Bool) then ha (a,v.ae)>>=λw=>if w.2 then some (bif decide ((v.ai.length:Int)=1)then decide ((v.Rest.length:Int)=0)else false)>>=λt188=>if(aH w.1 a.ag.length||(!t188)) then if(aH 0 v.ai.length||(!t188)) then (if t188 then j5 ((⟨s.Types⟩:aR),(a.ag.getD w.1.toNat aE).aw,I.eta (v.ai.getD (0:Int).toNat au),plain)else some false)>>=λam=>some (bif t188 then am else false)else none else none else some (bif a.Open then(!plain)else false)>>=λt209=>(if t209 then yT v.ae else some false)>>=λan=>some (bif bif bif t209 then an else false then decide ((v.ai.length:Int)=0)else false then decide ((v.Rest.length:Int)=1)else false)>>=λt226=>if(aH 0 v.Rest.length||(!t226)) then some (bif t226 then decide ((v.Rest.getD (0:Int).toNat bX).ae=v.ae)else false)else none else if (a.Kind=7:Bool) then some (decide ((v.ai.length:Int)<=a.Max))>>=λt244=>(if t244 then qJ ((⟨s.Types⟩:aR),a.aG,v.ai,plain)else some false)>>=λU=>some (bif t244 then U else false)else if (a.Kind=8:Bool) then some (bif decide (a.Max<(v.av.length:Int))then true else(!(decide ((v.ai.length:Int)=(v.av.length:Int)))))>>=λt270=>(if !t270 then qJ ((⟨s.Types⟩:aR),a.Key,v.av,plain)else some false)>>=λW=>if(bif t270 then true else(!W)) then some false else kF (plain,1,s.Types,I.eta v,a.Kind,a.Name,a.bA,a.bC,a.Max,a.bg,a.ag,a.Key,a.aG,a.Open)>>=λR=>match R with
 |.inl S=>
 some S
 |.inr q=>
 qJ ((⟨q.2.1⟩:aR),q.2.2.2.2.2.2.2.2.2.2.2.1,q.2.2.1.ai,q.1)>>=λX=>some X else if (a.Kind=9:Bool) then some (decide ((v.ai.length:Int)<=1))>>=λt313=>(if t313 then qJ ((⟨s.Types⟩:aR),a.aG,v.ai,plain)else some false)>>=λY=>some (bif t313 then Y else false)else some true else none
  partial_fixpoint
def qm:List I×Int×Int×List ah×Int×Bool->Option ((Int×List ah×Int×Bool) ⊕ (List ah×Int×Bool))
 |(x,G,t8,B,y,z)=>
 if (t8<G:Bool) then if aH t8 x.length then Gv (I.eta (x.getD t8.toNat au),B,y,z)>>=λr=>if r.1 then some (.inl (t8,r.2.1,r.2.2.1,r.2.2.2))else qm (x,G,aM .i64 t8 1,r.2.1,r.2.2.1,r.2.2.2)else none else some (.inr (B,y,z))
  partial_fixpoint
def mu:Bool×List aS×Int×Int×List ah×Int×Bool×Int×aj×Int×List I×List I×List bY->Option ((Bool) ⊕ (Unit))
 |(D,t150,F,t152,A,H,J,K,L,M,N,u,O)=>
 if (t152<F:Bool) then if aH t152 t150.length then if aH t152 u.length then j5 ((⟨A⟩:aR),(t150.getD t152.toNat aE).aw,I.eta (u.getD t152.toNat au),D)>>=λZ=>if !Z then some (.inl false)else mu (D,t150,F,aM .i64 t152 1,A,H,J,K,L,M,N,u,O)else none else none else some (.inr ())
  partial_fixpoint
end
theorem Ty:dY D2 Cm/\dY D1 F3/\ez 207 3 [0] y9 qm/\dY Bm Gv/\dY r9 j5/\dY Bl qJ/\ez 164 0 [1] zA mu:=Cm.mutual_partial_correctness (dU D2) (dU D1) (ey 207 3 [0] y9) (dU Bm) (dU r9) (dU Bl) (ey 164 0 [1] zA)
 (λ_ h1 _ _ h=>eb h (.k (cg D1 h1) .n))
 (λ_ b _ _ h=>eb h .n (.k (eL y9 b) .n))
 (λ_ _ b d _ _ h=>eK y9 b h (.k (cg Bm d) .n))
 (λ_ a _ _ h=>eb h (.k (cg r9 a) .n))
 (λ_ _ _ a ba c _ _ h=>eb h (.k XF (.k Ck (.k SJ (.k nr (.k (cg r9 a) (.k (cg Bl ba) .n)))))) (.k Wg (.k (eL zA c) (.k Xt .n))))
 (λ_ h0 _ _ h=>eb h (.k (cg D2 h0) .n))
 (λ_ _ a c _ _ h=>eK zA c h (.k (cg r9 a) .n))
theorem SK:a6 r9 j5:=cg _ Ty.2.2.2.2.1
def tF:aR×Int×I->Option Bool
 |(s,t,v)=>
 j5 ((⟨s.Types⟩:aR),t,I.eta v,false)>>=λr=>some r
theorem SL:a6 Pg tF:= .bh (.k SK .n)
def C2:aR×Int×I->Option Int
 |(s,t,v)=>
 C1 (s,t)>>=λr=>if !(r=0:Bool) then some r else tF (s,t,I.eta v)>>=λa=>if !a then some 1 else some 0
theorem Xu:a6 QF C2:= .bh (.k Wf (.k SL .n))
def mv:ah×I->Option Bool
 |(a,v)=>
 if !(a.Kind=4:Bool) then some false else sM (a,v.ae)>>=λr=>some (!r.2)
theorem RT:a6 Ph mv:= .bh (.k Ck .n)
def C':I×List ah×ah->Option (Bool×List ah×ah)
 |(k,b,a)=>
 if aH a.Key b.length then mv (b.getD a.Key.toNat aN,I.eta k)>>=λr=>some (r,b,a)else none
theorem XG:a6 Pq C':= .bh (.k RT .n)
def pd:List I×Int×Int×List ah×ah->Option ((Int×List ah×ah) ⊕ (List ah×ah))
 |(a,d,t8,b,c)=>
 if (t8<d:Bool) then if aH t8 a.length then C' (I.eta (a.getD t8.toNat au),b,c)>>=λr=>if r.1 then some (.inl (t8,r.2.1,r.2.2))else pd (a,d,aM .i64 t8 1,r.2.1,r.2.2)else none else some (.inr (b,c))
  partial_fixpoint
theorem Tz:cM 207 2 [0] L3 pd:= .rx pd.partial_correctness (.k XG .n)
def F2(e:List I×List ah×ah):Option (Int×List ah×ah):=
 match e with
 |(s,b,d)=>
 pd (s,(s.length:Int),0,b,d)>>=λo=>match o with
 |.inl a=>
 some (a.1,a.2.1,a.2.2)
 |.inr c=>
 some ((-1),c.1,c.2)
theorem T':a6 NL F2:= .bh .n (.k Tz .n)
def FZ:List I×List ah×ah->Option (Bool×List ah×ah)
 |(s,b,a)=>
 F2 (s,b,a)>>=λr=>some (decide (0<=r.1),r.2.1,r.2.2)
theorem TA:a6 NM FZ:= .bh (.k T' .n)
def Cu:aR×ah×I->Option Bool
 |(s,a,v)=>
 FZ (v.av,s.Types,a)>>=λr=>some r.1
theorem Yj:a6 Pj Cu:= .bh (.k TA .n)
def nv:Int×Int×ah×I×List iI->Option (List iI)
 |(d,t12,a,c,b)=>
 if (t12<d:Bool) then if (a.Kind=5:Bool) then if aH t12 a.ag.length then if aH t12 a.ag.length then some [(⟨(a.ag.getD t12.toNat aE).aw,(a.ag.getD t12.toNat aE).ae⟩:iI)]>>=λt40=>if room 16 (b++t40).length then nv (d,aM .i64 t12 1,a,I.eta c,b++t40)else none else none else none else if (a.Kind=6:Bool) then ha (a,c.ae)>>=λr=>if aH r.1 a.ag.length then some [(⟨(a.ag.getD r.1.toNat aE).aw,c.ae⟩:iI)]>>=λt61=>if room 16 (b++t61).length then nv (d,aM .i64 t12 1,a,I.eta c,b++t61)else none else none else some [(⟨a.aG,t12⟩:iI)]>>=λt22=>if room 16 (b++t22).length then nv (d,aM .i64 t12 1,a,I.eta c,b++t22)else none else some b
  partial_fixpoint
theorem Wh:cM 133 0 [0] NN nv:= .rx nv.partial_correctness (.k nr .n)
def CL:ah×I->Option (List iI)
 |(a,v)=>
 nv ((v.ai.length:Int),0,a,I.eta v,[])>>=λo=>some o
theorem W9:a6 Pk CL:= .bh .n (.k Wh .n)
mutual
def lJ(p:aR×Int×I):Option (I×Bool):=
 match p with
 |(s,t,v)=>
 if aH t s.Types.length then some (s.Types.getD t.toNat aN)>>=λe=>mv (e,I.eta v)>>=λr=>(if !r then Cu (s,e,I.eta v)else some false)>>=λL=>if(bif bif r then true else L then true else bif (e.Kind=6:Bool)then ((v.ai.length:Int)=0:Bool)else false) then some ((⟨0,false,0,[],0,[],[],[]⟩:I),false)else fC 120 v.av>>=λM=>CL (e,I.eta v)>>=λH=>qz (H,(H.length:Int),0,s.Types,I.eta v,0,false,0,[],0,v.Kind,v.bL,v.bc,v.bn,v.ae,M,[])>>=λo=>match o with
 |.inl c=>
 some ((⟨c.2.1,c.2.2.1,c.2.2.2.1,c.2.2.2.2.1,c.2.2.2.2.2,[],[],[]⟩:I),c.1)
 |.inr a=>
 some ((⟨a.2.2.2.2.2.1,a.2.2.2.2.2.2.1,a.2.2.2.2.2.2.2.1,a.2.2.2.2.2.2.2.2.1,a.2.2.2.2.2.2.2.2.2.1,a.2.2.2.2.2.2.2.2.2.2.1,a.2.2.2.2.2.2.2.2.2.2.2,[]⟩:I),true)else none
  partial_fixpoint
def qz:List iI×Int×Int×List ah×I×Int×Bool×Int×aj×Int×Int×Bool×Int×aj×Int×List I×List I->Option ((Bool×Int×Bool×Int×aj×Int) ⊕ (Int×Bool×Int×aj×Int×Int×Bool×Int×aj×Int×List I×List I))
 |(t49,K,t51,q,f,u,w,x,y,z,A,B,D,E,F,G,j)=>
 if (t51<K:Bool) then if aH t51 t49.length then if aH t51 f.ai.length then lJ ((⟨q⟩:aR),(t49.getD t51.toNat HL).t,I.eta (f.ai.getD t51.toNat au))>>=λJ=>if !J.2 then some (.inl (false,0,false,0,[],0))else some [I.eta J.1]>>=λt74=>if room 120 (j++t74).length then qz (t49,K,aM .i64 t51 1,q,I.eta f,u,w,x,y,z,A,B,D,E,F,G,j++t74)else none else none else none else some (.inr (u,w,x,y,z,A,B,D,E,F,G,j))
  partial_fixpoint
end
theorem Xv:dY w5 lJ/\ez 141 0 [0] zB qz:=lJ.mutual_partial_correctness (dU w5) (ey 141 0 [0] zB)
 (λ_ h1 _ _ h=>eb h (.k RT (.k Yj (.k nU (.k W9 .n)))) (.k (eL zB h1) .n))
 (λ_ _ h0 h1 _ _ h=>eK zB h1 h (.k (cg w5 h0) .n))
theorem W':a6 w5 lJ:=cg _ Xv.1
def u2:aR×Int×I->Option (I×Int)
 |(s,t,v)=>
 C2 (s,t,I.eta v)>>=λr=>if !(r=0:Bool) then some ((⟨0,false,0,[],0,[],[],[]⟩:I),r)else lJ (s,t,I.eta v)>>=λa=>if !a.2 then some ((⟨0,false,0,[],0,[],[],[]⟩:I),12)else some (I.eta a.1,0)
theorem Xa:a6 A9 u2:= .bh (.k Xu (.k W' .n))
def xO:aR×Int->Option Int
 |(s,t)=>
 pT s>>=λr=>if !(r=0:Bool) then some r else if(bif (t<0:Bool)then true else ((s.Types.length:Int)<=t:Bool)) then some 4 else some 0
theorem Wi:a6 Pw xO:= .bh (.k xN .n)
def GM:aR×Int×I->Option Bool
 |(s,t,v)=>
 j5 (s,t,I.eta v,true)>>=λr=>some r
theorem Xb:a6 Px GM:= .bh (.k SK .n)
def C3:aR×Int×I×aR×Int->Option Int
 |(w,wt,v,r,rt)=>
 xO (w,wt)>>=λa=>if !(a=0:Bool) then some a else xO (r,rt)>>=λb=>if !(b=0:Bool) then some b else GM (w,wt,I.eta v)>>=λc=>if !c then some 1 else some 0
theorem Xw:a6 Pn C3:= .bh (.k Wi (.k Xb .n))
def sv:List ah×List ah×aq×aq->Option (I×Bool×List ah×List ah×aq×aq)
 |(b,c,e,a)=>
 tg 8 a>>=λr=>if((r.1.length=a.length:Bool)&&true) then some ((⟨0,false,0,[],0,[],[],[]⟩:I),false,b,c,r.1,r.2)else none
theorem Ss:a6 Py sv:= .bh (.k nN .n)
def uQ:Int×List ah×List ah×aq×aq->Option (I×Bool×List ah×List ah×aq×aq)
 |(id,b,c,e,a)=>
 tg 8 a>>=λr=>if((r.1.length=a.length:Bool)&&true) then some [id]>>=λt13=>if room 8 (r.2++t13).length then some ((⟨0,false,0,[],0,[],[],[]⟩:I),false,b,c,r.1,r.2++t13)else none else none
theorem Sk:a6 PU uQ:= .bh (.k nN .n)
mutual
def j4(v:I):Option I:=
 fC 120 v.av>>=λr=>fC 120 v.ai>>=λU=>fC 24 v.Rest>>=λW=>sw ((r.length:Int),0,v.Kind,v.bL,v.bc,v.bn,v.ae,0,false,0,[],0,r,U,W)>>=λo=>sx ((o.2.2.2.2.2.2.2.2.2.2.2.1.length:Int),0,o.1,o.2.1,o.2.2.1,o.2.2.2.1,o.2.2.2.2.1,o.2.2.2.2.2.1,o.2.2.2.2.2.2.1,o.2.2.2.2.2.2.2.1,o.2.2.2.2.2.2.2.2.1,o.2.2.2.2.2.2.2.2.2.1,o.2.2.2.2.2.2.2.2.2.2.2.1,o.2.2.2.2.2.2.2.2.2.2.1,o.2.2.2.2.2.2.2.2.2.2.2.2)>>=λa=>some (⟨a.1,a.2.1,a.2.2.1,a.2.2.2.1,a.2.2.2.2.1,a.2.2.2.2.2.2.2.2.2.2.1,a.2.2.2.2.2.2.2.2.2.2.2.1,a.2.2.2.2.2.2.2.2.2.2.2.2⟩:I)
  partial_fixpoint
def sw:Int×Int×Int×Bool×Int×aj×Int×Int×Bool×Int×aj×Int×List I×List I×List bY->Option (Int×Bool×Int×aj×Int×Int×Bool×Int×aj×Int×List I×List I×List bY)
 |(R,t22,j,p,q,t,u,w,x,y,z,A,c,B,D)=>
 if (t22<R:Bool) then if aH t22 c.length then if (t22.toNat<c.length:Bool) then j4 (I.eta (c.getD t22.toNat au))>>=λX=>if aH t22 c.length then if (t22.toNat<c.length:Bool) then sw (R,aM .i64 t22 1,j,p,q,t,u,w,x,y,z,A,c.set t22.toNat (I.eta X),B,D)else none else none else none else none else some (j,p,q,t,u,w,x,y,z,A,c,B,D)
  partial_fixpoint
def sx:Int×Int×Int×Bool×Int×aj×Int×Int×Bool×Int×aj×Int×List I×List I×List bY->Option (Int×Bool×Int×aj×Int×Int×Bool×Int×aj×Int×List I×List I×List bY)
 |(S,t37,E,F,G,H,J,K,L,M,N,O,e,P,Q)=>
 if (t37<S:Bool) then if aH t37 e.length then if (t37.toNat<e.length:Bool) then j4 (I.eta (e.getD t37.toNat au))>>=λY=>if aH t37 e.length then if (t37.toNat<e.length:Bool) then sx (S,aM .i64 t37 1,E,F,G,H,J,K,L,M,N,O,e.set t37.toNat (I.eta Y),P,Q)else none else none else none else none else some (E,F,G,H,J,K,L,M,N,O,P,e,Q)
  partial_fixpoint
end
theorem VC:dY uz j4/\ez 219 0 [1] zD sx/\ez 219 0 [0] zC sw:=j4.mutual_partial_correctness (dU uz) (ey 219 0 [1] zD) (ey 219 0 [0] zC)
 (λ_ _ h1 a _ _ h=>eb h (.k nU (.k o6 .n)) (.k (eL zC a) (.k (eL zD h1) .n)))
 (λ_ _ h0 h1 _ _ h=>eK zD h1 h (.k (cg uz h0) .n))
 (λ_ _ h0 a _ _ h=>eK zC a h (.k (cg uz h0) .n))
theorem Wj:a6 uz j4:=cg _ VC.1
mutual
def uT(c:List I×List I):Option Bool:=
 match c with
 |(s1,f)=>
 if !((s1.length:Int)=(f.length:Int):Bool) then some false else uR (f,s1,(s1.length:Int),0)>>=λo=>match o with
 |.inl p=>
 some p
 |.inr u=>
 some true
  partial_fixpoint
def pU:I×I->Option Bool
 |(a,b)=>
 some (bif bif bif bif decide (a.Kind=b.Kind)then ft a.bL b.bL else false then decide (a.bc=b.bc)else false then decide (a.bn=b.bn)else false then decide (a.ae=b.ae)else false)>>=λt37=>(if t37 then xF (a.Rest,b.Rest)else some false)>>=λr=>some (bif t37 then r else false)>>=λt44=>(if t44 then uT (a.av,b.av)else some false)>>=λq=>some (bif t44 then q else false)>>=λt51=>(if t51 then uT (a.ai,b.ai)else some false)>>=λt=>some (bif t51 then t else false)
  partial_fixpoint
def uR:List I×List I×Int×Int->Option ((Bool) ⊕ (Unit))
 |(e,t15,j,t17)=>
 if (t17<j:Bool) then if aH t17 t15.length then if aH t17 e.length then pU (I.eta (t15.getD t17.toNat au),I.eta (e.getD t17.toNat au))>>=λr=>if !r then some (.inl false)else uR (e,t15,j,aM .i64 t17 1)else none else none else some (.inr ())
  partial_fixpoint
end
theorem Tv:dY D3 uT/\ez 104 0 [0] y' uR/\dY xg pU:=uT.mutual_partial_correctness (dU D3) (ey 104 0 [0] y') (dU xg)
 (λ_ h1 _ _ h=>eb h .n (.k (eL y' h1) .n))
 (λ_ _ h1 a _ _ h=>eK y' h1 h (.k (cg xg a) .n))
 (λ_ h0 _ _ h=>eb h (.k RE (.k (cg D3 h0) .n)))
theorem Td:a6 xg pU:=cg _ Tv.2.2
def sy:aS×I->Option Bool
 |(m,item)=>
 (if m.bZ then pU (I.eta item,I.eta m.bw)else some false)>>=λr=>some (bif m.bZ then r else false)
theorem F8:a6 PW sy:= .bh (.k Td .n)
def GU:aR×Int->Option Int
 |(s,t)=>
 pT (⟨s.Types⟩:aR)>>=λr=>if !(r=0:Bool) then some r else if(bif (t<0:Bool)then true else ((s.Types.length:Int)<=t:Bool)) then some 4 else some 0
theorem Wk:a6 Pz GU:= .bh (.k xN .n)
def sL:aR×Int×I->Option Int
 |(s,t,v)=>
 GU ((⟨s.Types⟩:aR),t)>>=λr=>if !(r=0:Bool) then some r else tF ((⟨s.Types⟩:aR),t,I.eta v)>>=λa=>if !a then some 1 else some 0
theorem Wl:a6 Po sL:= .bh (.k Wk (.k SL .n))
def tp:Int×Int×aq->Option (Int×Int×aq)
 |(b,a,c)=>
 if (128<=b:Bool) then if aH a 10 then if (a.toNat<c.length:Bool) then tp (lr .u64 b 7,aM .i64 a 1,c.set a.toNat (rC .u8 (bW .u8 b) 128))else none else none else some (b,a,c)
  partial_fixpoint
theorem Xx:cM 228 0 [0] Nl tp:= .rx tp.partial_correctness
def pr(n:Int):Option aj:=
 tp (n,0,[0,0,0,0,0,0,0,0,0,0])>>=λo=>if aH o.2.1 10 then if (o.2.1.toNat<o.2.2.length:Bool) then some (o.2.2.set o.2.1.toNat (bW .u8 o.1))>>=λa=>some (aM .i64 o.2.1 1)>>=λt21=>if dS 0 t21 10 then if wE (0:Int).toNat t21.toNat a.length then some (strOf ((a.drop (0:Int).toNat).take t21.toNat))else none else none else none else none
theorem ze:a6 P0 pr:= .bh .n (.k Xx .n)
def qD(p:aj):Option aj:=
 pr (bW .u64 (p.length:Int))>>=λr=>if (r.length+p.length<=eC:Bool) then some (r++p)else none
theorem S6:a6 PD qD:= .bh (.k ze .n)
def se:aj×aj->Option (Int×aj)
 |(s,b)=>
 some b>>=λr=>if((r.length=b.length:Bool)&&true) then if room 1 (r.length+s.length) then some ((s.length:Int),A6 r s)else none else none
theorem RF:a6 PC se:= .bh (.k rf .n)
def uZ:Int×Bool×aj->Option aj
 |(id,d,p)=>
 some (gw .u64 2 (bW .u64 id))>>=λt10=>if d then pr (aM .u64 t10 1)>>=λr=>qD p>>=λa=>if (r.length+a.length<=eC:Bool) then some (r++a)else none else pr t10>>=λb=>qD p>>=λc=>if (b.length+c.length<=eC:Bool) then some (b++c)else none
theorem GV:a6 PY uZ:= .bh (.k ze (.k S6 .n))
def BS:aS×I->Option Bool
 |(m,v)=>
 (if m.bZ then pU (I.eta m.bw,I.eta v)else some false)>>=λr=>some (bif m.bZ then r else false)
theorem Wm:a6 PX BS:= .bh (.k Td .n)
def qt:List bY×Int×Int×List ah×Int×List gr->Option (List ah×Int×List gr)
 |(t57,e,t59,c,d,a)=>
 if (t59<e:Bool) then if aH t59 t57.length then some (t57.getD t59.toNat bX)>>=λb=>uZ (b.ae,false,b.Data)>>=λf=>some [(⟨b.ae,f⟩:gr)]>>=λt72=>if room 24 (a++t72).length then qt (t57,e,aM .i64 t59 1,c,d,a++t72)else none else none else some (c,d,a)
  partial_fixpoint
theorem Ur:cM 189 1 [1] No qt:= .rx qt.partial_correctness (.k GV .n)
def qu:Int×Int×List ah×Int×List gr×aj->Option (List ah×Int×aj)
 |(e,t79,b,c,a,d)=>
 if (t79<e:Bool) then if aH t79 a.length then if (t79.toNat<a.length:Bool) then se ((a.getD t79.toNat uY).text,d)>>=λf=>qu (e,aM .i64 t79 1,b,c,a,f.2)else none else none else some (b,c,d)
  partial_fixpoint
theorem Us:cM 189 1 [2] Np qu:= .rx qu.partial_correctness (.k RF .n)
def xI(b:aj):Option aj:=
 if hJ (b.length:Int) (b.length:Int) then some b else none
theorem RH:a6 PE xI:= .bh
def tq:Int×Int×aq->Option (Int×aq)
 |(b,c,a)=>
 if (0<b:Bool) then some (df .i64 c 1)>>=λt10=>if aH t10 8 then if (t10.toNat<a.length:Bool) then tq (lr .u64 b 8,t10,a.set t10.toNat (bW .u8 b))else none else none else some (c,a)
  partial_fixpoint
theorem Xy:cM 187 0 [0] Nn tq:= .rx tq.partial_correctness
def yU(n:Int):Option aj:=
 tq (n,8,[0,0,0,0,0,0,0,0])>>=λo=>if dS o.1 8 8 then if wE o.1.toNat ((8:Int).toNat-o.1.toNat) o.2.length then some (strOf ((o.2.drop o.1.toNat).take ((8:Int).toNat-o.1.toNat)))else none else none
theorem Yk:a6 PA yU:= .bh .n (.k Xy .n)
mutual
def j1:Int×I×Int×List ah×Int->Option (aj×List ah×Int)
 |(t,v,e,b,w)=>
 some (iv w e)>>=λt19=>if aH t b.length then some (b.getD t.toNat aN)>>=λa=>if (a.Kind=1:Bool) then if v.bL then some ([1],b,t19)else some ([],b,t19)else if (a.Kind=2:Bool) then uV v.bc>>=λr=>yU r>>=λq=>some (q,b,t19)else if (a.Kind=3:Bool) then some (v.bn,b,t19)else if (a.Kind=4:Bool) then yU (bW .u64 v.ae)>>=λN=>some (N,b,t19)else if (a.Kind=5:Bool) then B0 (a,I.eta v,e,b,t19)>>=λu=>some (u.1,u.2.1,u.2.2)else if (a.Kind=6:Bool) then yC (a,I.eta v,e,b,t19)>>=λy=>some (y.1,y.2.1,y.2.2)else if (a.Kind=9:Bool) then if ((v.ai.length:Int)=0:Bool) then some ([],b,t19)else if aH 0 v.ai.length then j1 (a.aG,I.eta (v.ai.getD (0:Int).toNat au),aM .i64 e 1,b,t19)>>=λD=>if ([1].length+D.1.length<=eC:Bool) then some ([1]++D.1,D.2.1,D.2.2)else none else none else lD (e,v.ai,(v.ai.length:Int),0,b,t19,I.eta v,a,[])>>=λo=>xI o.2.2>>=λU=>some (U,o.1,o.2.1)else none
  partial_fixpoint
def B0:ah×I×Int×List ah×Int->Option (aj×List ah×Int)
 |(a,v,e,b,w)=>
 qv (e,a.ag,(a.ag.length:Int),0,b,w,I.eta v,[])>>=λo=>qt (o.2.2.1.Rest,(o.2.2.1.Rest.length:Int),0,o.1,o.2.1,o.2.2.2)>>=λB=>Ge B.2.2>>=λr=>if((r.length=B.2.2.length:Bool)&&true) then qu ((r.length:Int),0,B.1,B.2.1,r,[])>>=λL=>xI L.2.2>>=λq=>some (q,L.1,L.2.1)else none
  partial_fixpoint
def yC:ah×I×Int×List ah×Int->Option (aj×List ah×Int)
 |(a,v,e,b,w)=>
 pr (bW .u64 v.ae)>>=λr=>ha (a,v.ae)>>=λq=>if !q.2 then if aH 0 v.Rest.length then some (v.Rest.getD (0:Int).toNat bX)>>=λc=>if (r.length+c.Data.length<=eC:Bool) then some (r++c.Data,b,w)else none else none else if aH q.1 a.ag.length then if aH 0 v.ai.length then j1 ((a.ag.getD q.1.toNat aE).aw,I.eta (v.ai.getD (0:Int).toNat au),aM .i64 e 1,b,w)>>=λE=>if (r.length+E.1.length<=eC:Bool) then some (r++E.1,E.2.1,E.2.2)else none else none else none
  partial_fixpoint
def lD:Int×List I×Int×Int×List ah×Int×I×ah×aj->Option (List ah×Int×aj)
 |(f,t84,R,t86,H,J,A,x,K)=>
 if (t86<R:Bool) then if aH t86 t84.length then some (t84.getD t86.toNat au)>>=λS=>if (x.Kind=8:Bool) then if aH t86 A.av.length then j1 (x.Key,I.eta (A.av.getD t86.toNat au),aM .i64 f 1,H,J)>>=λM=>qD M.1>>=λW=>se (W,K)>>=λX=>j1 (x.aG,I.eta S,aM .i64 f 1,M.2.1,M.2.2)>>=λO=>qD O.1>>=λY=>se (Y,X.2)>>=λZ=>lD (f,t84,R,aM .i64 t86 1,O.2.1,O.2.2,I.eta A,x,Z.2)else none else j1 (x.aG,I.eta S,aM .i64 f 1,H,J)>>=λP=>qD P.1>>=λaf=>se (af,K)>>=λam=>lD (f,t84,R,aM .i64 t86 1,P.2.1,P.2.2,I.eta A,x,am.2)else none else some (H,J,K)
  partial_fixpoint
def qv:Int×List aS×Int×Int×List ah×Int×I×List gr->Option (List ah×Int×I×List gr)
 |(f,t18,Q,t20,F,G,p,z)=>
 if (t20<Q:Bool) then if aH t20 t18.length then some (t18.getD t20.toNat aE)>>=λc=>if aH t20 p.ai.length then BS ((⟨c.ae,c.Name,c.aw,c.cp,c.bZ,I.eta c.bw⟩:aS),I.eta (p.ai.getD t20.toNat au))>>=λN=>if !N then if aH t20 p.ai.length then j1 (c.aw,I.eta (p.ai.getD t20.toNat au),aM .i64 f 1,F,G)>>=λu=>uZ (c.ae,c.cp,u.1)>>=λy=>some [(⟨c.ae,y⟩:gr)]>>=λt53=>if room 24 (z++t53).length then qv (f,t18,Q,aM .i64 t20 1,u.2.1,u.2.2,I.eta p,z++t53)else none else none else qv (f,t18,Q,aM .i64 t20 1,F,G,I.eta p,z)else none else none else some (F,G,I.eta p,z)
  partial_fixpoint
end
theorem Ut:dY qh j1/\ez 145 1 [0] zF lD/\dY Bk yC/\dY Bj B0/\ez 189 1 [0] zE qv:=j1.mutual_partial_correctness (dU qh) (ey 145 1 [0] zF) (dU Bk) (dU Bj) (ey 189 1 [0] zE)
 (λ_ _ _ _ h0 h1 b c _ _ h=>eb h (.k R9 (.k Yk (.k (cg Bj c) (.k (cg Bk b) (.k (cg qh h0) (.k RH .n)))))) (.k (eL zF h1) .n))
 (λ_ _ h0 h1 _ _ h=>eK zF h1 h (.k (cg qh h0) (.k S6 (.k RF .n))))
 (λ_ h0 _ _ h=>eb h (.k ze (.k nr (.k (cg qh h0) .n))))
 (λ_ a _ _ h=>eb h (.k GR (.k RH .n)) (.k (eL zE a) (.k Ur (.k Us .n))))
 (λ_ _ h0 a _ _ h=>eK zE a h (.k Wm (.k (cg qh h0) (.k GV .n))))
theorem T8:a6 qh j1:=cg _ Ut.1
end
end Go.Proofs.YtdjagncoefjfeaaGreat
