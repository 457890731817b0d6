/- The functions of the program as functions of Lean, that its code does what they say, and what they answer; part A. -/
import Derived.Test.YtdjagncoefjfeaaGreatProg
import Derived.KernelRfl
import Derived.Shelf.SlGeneric
import Derived.Shelf.SlLaysF0
import Derived.Shelf.SlSortCmp.WholeK
import Derived.Lib.Small
import Derived.Test.YtdjagncoefjfeaaGreatCuLD

namespace Go.Proofs.YtdjagncoefjfeaaGreat
set_option linter.all false
section
open Go Go.Proofs.YtdjagncoefjfeaaGreat.Shv
open Tryz
set_option maxRecDepth 100000
structure lE where
 ae:Int
 av:Int
 gY:Int
structure dr where
 Kind:Int
 A:Int
 B:Int
 C:Int
 c0:List lE
structure ek where
 ec:List dr
structure k2 where
 S:ek
 T:Int
 C:aq
structure kB where
 Kind:Int
 Node:Int
 A:Int
 B:Int
structure mr where
 D:k2
 L:List kB
structure nn where
 C:mr
 wS:Bool
structure c4 where
 ae:Int
 Name:aj
structure bY where
 ae:Int
 Data:aj
structure I where
 Kind:Int
 bL:Bool
 bc:Int
 bn:aj
 ae:Int
 aw:List I
 ai:List I
 Rest:List bY
structure aS where
 ae:Int
 Name:aj
 av:Int
 cp:Bool
 bZ:Bool
 bw:I
structure ah where
 Kind:Int
 Name:aj
 bA:Int
 bC:Int
 Max:Int
 bg:List c4
 ag:List aS
 Key:Int
 aG:Int
 Open:Bool
structure aR where
 Types:List ah
structure dg where
 cM:aR
 av:Int
structure cR where
 ae:Int
 cp:Bool
 Data:aj
structure iT where
 Path:aq
 Reason:Int
structure iI where
 t:Int
 number:Int
structure gr where
 id:Int
 text:aj
structure eS where
 v:I
 u:I
 message:aj
structure cT where
 Value:I
 dO:iT
 ck:Bool
structure dI where
 Value:I
 Path:aq
 ck:Bool
structure kC where
 V:I
 U:I
 Message:aj
structure y9 where
 IP:List kB
 gC:List kB
abbrev Ge:Nat:=0
abbrev R0:Nat:=1
abbrev Vs:Nat:=2
abbrev vp:Nat:=4
abbrev Cc:Nat:=5
abbrev Sz:Nat:=6
def ja:lE:=⟨0,0,0⟩
def br:dr:=⟨0,0,0,0,[]⟩
def R1:ek:=⟨[]⟩
def R2:k2:=⟨R1,0,[]⟩
def nS:kB:=⟨0,0,0,0⟩
def Sc:mr:=⟨R2,[]⟩
def WN:nn:=⟨Sc,false⟩
def dL:c4:=⟨0,[]⟩
def bX:bY:=⟨0,[]⟩
def au:I:=⟨0,false,0,[],0,[],[],[]⟩
def aE:aS:=⟨0,[],0,false,false,au⟩
def aN:ah:=⟨0,[],0,0,0,[],[],0,0,false⟩
def L9:aR:=⟨[]⟩
def Ii:dg:=⟨L9,0⟩
def gj:cR:=⟨0,false,[]⟩
def JL:iT:=⟨[],0⟩
def HN:iI:=⟨0,0⟩
def uZ:gr:=⟨0,[]⟩
def Vk:eS:=⟨au,au,[]⟩
def Vt:cT:=⟨au,JL,false⟩
def Vu:dI:=⟨au,[],false⟩
def Vv:kC:=⟨au,au,[]⟩
def aaN:y9:=⟨[],[]⟩
def dD:Nat->Type
 |0=>nn
 |1=>mr
 |2=>k2
 |3=>ek
 |4=>dr
 |5=>lE
 |6=>kB
 |7=>ah
 |8=>c4
 |9=>aS
 |10=>I
 |11=>bY
 |12=>aR
 |13=>dg
 |14=>cR
 |15=>iT
 |16=>iI
 |17=>gr
 |18=>eS
 |19=>cT
 |20=>dI
 |21=>kC
 |22=>y9
 |_=>Bool
def dU:Nat->List aJ
 |0=>[.slice (.nm 4),.int .u8,.slice (.int .u8),.slice (.nm 6),.bool]
 |1=>[.slice (.nm 4),.int .u8,.slice (.int .u8),.slice (.nm 6)]
 |2=>[.slice (.nm 4),.int .u8,.slice (.int .u8)]
 |3=>[.slice (.nm 4)]
 |4=>[.int .u8,.int .u8,.int .u8,.int .u8,.slice (.nm 5)]
 |5=>[.int .u8,.int .u8,.int .u8]
 |6=>[.int .u8,.int .u8,.int .u8,.int .u8]
 |7=>[.int .i64,.str,.int .i64,.int .i64,.int .i64,.slice (.nm 8),.slice (.nm 9),.int .i64,.int .i64,.bool]
 |8=>[.int .i64,.str]
 |9=>[.int .i64,.str,.int .i64,.bool,.bool,.int .i64,.bool,.int .i64,.str,.int .i64,.slice (.nm 10),.slice (.nm 10),.slice (.nm 11)]
 |10=>[.int .i64,.bool,.int .i64,.str,.int .i64,.slice (.nm 10),.slice (.nm 10),.slice (.nm 11)]
 |11=>[.int .i64,.str]
 |12=>[.slice (.nm 7)]
 |13=>[.slice (.nm 7),.int .i64]
 |14=>[.int .i64,.bool,.str]
 |15=>[.slice (.int .i64),.int .i64]
 |16=>[.int .i64,.int .i64]
 |17=>[.int .i64,.str]
 |18=>[.int .i64,.bool,.int .i64,.str,.int .i64,.slice (.nm 10),.slice (.nm 10),.slice (.nm 11),.int .i64,.bool,.int .i64,.str,.int .i64,.slice (.nm 10),.slice (.nm 10),.slice (.nm 11),.str]
 |19=>[.int .i64,.bool,.int .i64,.str,.int .i64,.slice (.nm 10),.slice (.nm 10),.slice (.nm 11),.slice (.int .i64),.int .i64,.bool]
 |20=>[.int .i64,.bool,.int .i64,.str,.int .i64,.slice (.nm 10),.slice (.nm 10),.slice (.nm 11),.slice (.int .i64),.bool]
 |21=>[.int .i64,.bool,.int .i64,.str,.int .i64,.slice (.nm 10),.slice (.nm 10),.slice (.nm 11),.int .i64,.bool,.int .i64,.str,.int .i64,.slice (.nm 10),.slice (.nm 10),.slice (.nm 11),.str]
 |22=>[.slice (.nm 6),.slice (.nm 6)]
 |_=>[.bool]
def ag':(n:Nat)->dD n->List (Cell dD)
 |0,(x:nn)=>[⟨.slice (.nm 4),x.C.D.S.ec⟩,⟨.int .u8,x.C.D.T⟩,⟨.slice (.int .u8),x.C.D.C⟩,⟨.slice (.nm 6),x.C.L⟩,⟨.bool,x.wS⟩]
 |1,(x:mr)=>[⟨.slice (.nm 4),x.D.S.ec⟩,⟨.int .u8,x.D.T⟩,⟨.slice (.int .u8),x.D.C⟩,⟨.slice (.nm 6),x.L⟩]
 |2,(x:k2)=>[⟨.slice (.nm 4),x.S.ec⟩,⟨.int .u8,x.T⟩,⟨.slice (.int .u8),x.C⟩]
 |3,(x:ek)=>[⟨.slice (.nm 4),x.ec⟩]
 |4,(x:dr)=>[⟨.int .u8,x.Kind⟩,⟨.int .u8,x.A⟩,⟨.int .u8,x.B⟩,⟨.int .u8,x.C⟩,⟨.slice (.nm 5),x.c0⟩]
 |5,(x:lE)=>[⟨.int .u8,x.ae⟩,⟨.int .u8,x.av⟩,⟨.int .u8,x.gY⟩]
 |6,(x:kB)=>[⟨.int .u8,x.Kind⟩,⟨.int .u8,x.Node⟩,⟨.int .u8,x.A⟩,⟨.int .u8,x.B⟩]
 |7,(x:ah)=>[⟨.int .i64,x.Kind⟩,⟨.str,x.Name⟩,⟨.int .i64,x.bA⟩,⟨.int .i64,x.bC⟩,⟨.int .i64,x.Max⟩,⟨.slice (.nm 8),x.bg⟩,⟨.slice (.nm 9),x.ag⟩,⟨.int .i64,x.Key⟩,⟨.int .i64,x.aG⟩,⟨.bool,x.Open⟩]
 |8,(x:c4)=>[⟨.int .i64,x.ae⟩,⟨.str,x.Name⟩]
 |9,(x:aS)=>[⟨.int .i64,x.ae⟩,⟨.str,x.Name⟩,⟨.int .i64,x.av⟩,⟨.bool,x.cp⟩,⟨.bool,x.bZ⟩,⟨.int .i64,x.bw.Kind⟩,⟨.bool,x.bw.bL⟩,⟨.int .i64,x.bw.bc⟩,⟨.str,x.bw.bn⟩,⟨.int .i64,x.bw.ae⟩,⟨.slice (.nm 10),x.bw.aw⟩,⟨.slice (.nm 10),x.bw.ai⟩,⟨.slice (.nm 11),x.bw.Rest⟩]
 |10,(x:I)=>[⟨.int .i64,x.Kind⟩,⟨.bool,x.bL⟩,⟨.int .i64,x.bc⟩,⟨.str,x.bn⟩,⟨.int .i64,x.ae⟩,⟨.slice (.nm 10),x.aw⟩,⟨.slice (.nm 10),x.ai⟩,⟨.slice (.nm 11),x.Rest⟩]
 |11,(x:bY)=>[⟨.int .i64,x.ae⟩,⟨.str,x.Data⟩]
 |12,(x:aR)=>[⟨.slice (.nm 7),x.Types⟩]
 |13,(x:dg)=>[⟨.slice (.nm 7),x.cM.Types⟩,⟨.int .i64,x.av⟩]
 |14,(x:cR)=>[⟨.int .i64,x.ae⟩,⟨.bool,x.cp⟩,⟨.str,x.Data⟩]
 |15,(x:iT)=>[⟨.slice (.int .i64),x.Path⟩,⟨.int .i64,x.Reason⟩]
 |16,(x:iI)=>[⟨.int .i64,x.t⟩,⟨.int .i64,x.number⟩]
 |17,(x:gr)=>[⟨.int .i64,x.id⟩,⟨.str,x.text⟩]
 |18,(x:eS)=>[⟨.int .i64,x.v.Kind⟩,⟨.bool,x.v.bL⟩,⟨.int .i64,x.v.bc⟩,⟨.str,x.v.bn⟩,⟨.int .i64,x.v.ae⟩,⟨.slice (.nm 10),x.v.aw⟩,⟨.slice (.nm 10),x.v.ai⟩,⟨.slice (.nm 11),x.v.Rest⟩,⟨.int .i64,x.u.Kind⟩,⟨.bool,x.u.bL⟩,⟨.int .i64,x.u.bc⟩,⟨.str,x.u.bn⟩,⟨.int .i64,x.u.ae⟩,⟨.slice (.nm 10),x.u.aw⟩,⟨.slice (.nm 10),x.u.ai⟩,⟨.slice (.nm 11),x.u.Rest⟩,⟨.str,x.message⟩]
 |19,(x:cT)=>[⟨.int .i64,x.Value.Kind⟩,⟨.bool,x.Value.bL⟩,⟨.int .i64,x.Value.bc⟩,⟨.str,x.Value.bn⟩,⟨.int .i64,x.Value.ae⟩,⟨.slice (.nm 10),x.Value.aw⟩,⟨.slice (.nm 10),x.Value.ai⟩,⟨.slice (.nm 11),x.Value.Rest⟩,⟨.slice (.int .i64),x.dO.Path⟩,⟨.int .i64,x.dO.Reason⟩,⟨.bool,x.ck⟩]
 |20,(x:dI)=>[⟨.int .i64,x.Value.Kind⟩,⟨.bool,x.Value.bL⟩,⟨.int .i64,x.Value.bc⟩,⟨.str,x.Value.bn⟩,⟨.int .i64,x.Value.ae⟩,⟨.slice (.nm 10),x.Value.aw⟩,⟨.slice (.nm 10),x.Value.ai⟩,⟨.slice (.nm 11),x.Value.Rest⟩,⟨.slice (.int .i64),x.Path⟩,⟨.bool,x.ck⟩]
 |21,(x:kC)=>[⟨.int .i64,x.V.Kind⟩,⟨.bool,x.V.bL⟩,⟨.int .i64,x.V.bc⟩,⟨.str,x.V.bn⟩,⟨.int .i64,x.V.ae⟩,⟨.slice (.nm 10),x.V.aw⟩,⟨.slice (.nm 10),x.V.ai⟩,⟨.slice (.nm 11),x.V.Rest⟩,⟨.int .i64,x.U.Kind⟩,⟨.bool,x.U.bL⟩,⟨.int .i64,x.U.bc⟩,⟨.str,x.U.bn⟩,⟨.int .i64,x.U.ae⟩,⟨.slice (.nm 10),x.U.aw⟩,⟨.slice (.nm 10),x.U.ai⟩,⟨.slice (.nm 11),x.U.Rest⟩,⟨.str,x.Message⟩]
 |22,(x:y9)=>[⟨.slice (.nm 6),x.IP⟩,⟨.slice (.nm 6),x.gC⟩]
 |_+23,(x:Bool)=>[⟨.bool,x⟩]
def cS:(n:Nat)->List (Cell dD)->Option (dD n)
 |0,l=>match aL.dec dD (dU 0) l with
  |some h=>some (⟨(⟨(⟨(⟨h.1⟩:ek),h.2.1,h.2.2.1⟩:k2),h.2.2.2.1⟩:mr),h.2.2.2.2⟩:nn)
  |none=>none
 |1,l=>match aL.dec dD (dU 1) l with
  |some h=>some (⟨(⟨(⟨h.1⟩:ek),h.2.1,h.2.2.1⟩:k2),h.2.2.2⟩:mr)
  |none=>none
 |2,l=>match aL.dec dD (dU 2) l with
  |some h=>some (⟨(⟨h.1⟩:ek),h.2.1,h.2.2⟩:k2)
  |none=>none
 |3,l=>match aL.dec dD (dU 3) l with
  |some h=>some (⟨h⟩:ek)
  |none=>none
 |4,l=>match aL.dec dD (dU 4) l with
  |some h=>some (⟨h.1,h.2.1,h.2.2.1,h.2.2.2.1,h.2.2.2.2⟩:dr)
  |none=>none
 |5,l=>match aL.dec dD (dU 5) l with
  |some h=>some (⟨h.1,h.2.1,h.2.2⟩:lE)
  |none=>none
 |6,l=>match aL.dec dD (dU 6) l with
  |some h=>some (⟨h.1,h.2.1,h.2.2.1,h.2.2.2⟩:kB)
  |none=>none
 |7,l=>match aL.dec dD (dU 7) l with
  |some h=>some (⟨h.1,h.2.1,h.2.2.1,h.2.2.2.1,h.2.2.2.2.1,h.2.2.2.2.2.1,h.2.2.2.2.2.2.1,h.2.2.2.2.2.2.2.1,h.2.2.2.2.2.2.2.2.1,h.2.2.2.2.2.2.2.2.2⟩:ah)
  |none=>none
 |8,l=>match aL.dec dD (dU 8) l with
  |some h=>some (⟨h.1,h.2⟩:c4)
  |none=>none
 |9,l=>match aL.dec dD (dU 9) l with
  |some h=>some (⟨h.1,h.2.1,h.2.2.1,h.2.2.2.1,h.2.2.2.2.1,(⟨h.2.2.2.2.2.1,h.2.2.2.2.2.2.1,h.2.2.2.2.2.2.2.1,h.2.2.2.2.2.2.2.2.1,h.2.2.2.2.2.2.2.2.2.1,h.2.2.2.2.2.2.2.2.2.2.1,h.2.2.2.2.2.2.2.2.2.2.2.1,h.2.2.2.2.2.2.2.2.2.2.2.2⟩:I)⟩:aS)
  |none=>none
 |10,l=>match aL.dec dD (dU 10) l with
  |some h=>some (⟨h.1,h.2.1,h.2.2.1,h.2.2.2.1,h.2.2.2.2.1,h.2.2.2.2.2.1,h.2.2.2.2.2.2.1,h.2.2.2.2.2.2.2⟩:I)
  |none=>none
 |11,l=>match aL.dec dD (dU 11) l with
  |some h=>some (⟨h.1,h.2⟩:bY)
  |none=>none
 |12,l=>match aL.dec dD (dU 12) l with
  |some h=>some (⟨h⟩:aR)
  |none=>none
 |13,l=>match aL.dec dD (dU 13) l with
  |some h=>some (⟨(⟨h.1⟩:aR),h.2⟩:dg)
  |none=>none
 |14,l=>match aL.dec dD (dU 14) l with
  |some h=>some (⟨h.1,h.2.1,h.2.2⟩:cR)
  |none=>none
 |15,l=>match aL.dec dD (dU 15) l with
  |some h=>some (⟨h.1,h.2⟩:iT)
  |none=>none
 |16,l=>match aL.dec dD (dU 16) l with
  |some h=>some (⟨h.1,h.2⟩:iI)
  |none=>none
 |17,l=>match aL.dec dD (dU 17) l with
  |some h=>some (⟨h.1,h.2⟩:gr)
  |none=>none
 |18,l=>match aL.dec dD (dU 18) l with
  |some h=>some (⟨(⟨h.1,h.2.1,h.2.2.1,h.2.2.2.1,h.2.2.2.2.1,h.2.2.2.2.2.1,h.2.2.2.2.2.2.1,h.2.2.2.2.2.2.2.1⟩:I),(⟨h.2.2.2.2.2.2.2.2.1,h.2.2.2.2.2.2.2.2.2.1,h.2.2.2.2.2.2.2.2.2.2.1,h.2.2.2.2.2.2.2.2.2.2.2.1,h.2.2.2.2.2.2.2.2.2.2.2.2.1,h.2.2.2.2.2.2.2.2.2.2.2.2.2.1,h.2.2.2.2.2.2.2.2.2.2.2.2.2.2.1,h.2.2.2.2.2.2.2.2.2.2.2.2.2.2.2.1⟩:I),h.2.2.2.2.2.2.2.2.2.2.2.2.2.2.2.2⟩:eS)
  |none=>none
 |19,l=>match aL.dec dD (dU 19) l with
  |some h=>some (⟨(⟨h.1,h.2.1,h.2.2.1,h.2.2.2.1,h.2.2.2.2.1,h.2.2.2.2.2.1,h.2.2.2.2.2.2.1,h.2.2.2.2.2.2.2.1⟩:I),(⟨h.2.2.2.2.2.2.2.2.1,h.2.2.2.2.2.2.2.2.2.1⟩:iT),h.2.2.2.2.2.2.2.2.2.2⟩:cT)
  |none=>none
 |20,l=>match aL.dec dD (dU 20) l with
  |some h=>some (⟨(⟨h.1,h.2.1,h.2.2.1,h.2.2.2.1,h.2.2.2.2.1,h.2.2.2.2.2.1,h.2.2.2.2.2.2.1,h.2.2.2.2.2.2.2.1⟩:I),h.2.2.2.2.2.2.2.2.1,h.2.2.2.2.2.2.2.2.2⟩:dI)
  |none=>none
 |21,l=>match aL.dec dD (dU 21) l with
  |some h=>some (⟨(⟨h.1,h.2.1,h.2.2.1,h.2.2.2.1,h.2.2.2.2.1,h.2.2.2.2.2.1,h.2.2.2.2.2.2.1,h.2.2.2.2.2.2.2.1⟩:I),(⟨h.2.2.2.2.2.2.2.2.1,h.2.2.2.2.2.2.2.2.2.1,h.2.2.2.2.2.2.2.2.2.2.1,h.2.2.2.2.2.2.2.2.2.2.2.1,h.2.2.2.2.2.2.2.2.2.2.2.2.1,h.2.2.2.2.2.2.2.2.2.2.2.2.2.1,h.2.2.2.2.2.2.2.2.2.2.2.2.2.2.1,h.2.2.2.2.2.2.2.2.2.2.2.2.2.2.2.1⟩:I),h.2.2.2.2.2.2.2.2.2.2.2.2.2.2.2.2⟩:kC)
  |none=>none
 |22,l=>match aL.dec dD (dU 22) l with
  |some h=>some (⟨h.1,h.2⟩:y9)
  |none=>none
 |_+23,l=>match aL.dec dD [.bool] l with
  |some (h:Bool)=>some h
  |none=>none
def QS(x:lE):List T:=[.int .u8 x.ae,.int .u8 x.av,.int .u8 x.gY]
def xq(x:dr):List T:=[.int .u8 x.Kind,.int .u8 x.A,.int .u8 x.B,.int .u8 x.C,.slice (x.c0.map QS)]
def afP(x:ek):List T:=[.slice (x.ec.map xq)]
def afQ(x:k2):List T:=[.slice (x.S.ec.map xq),.int .u8 x.T,.slice (x.C.map (λy=>[.int .u8 y]))]
def xp(x:kB):List T:=[.int .u8 x.Kind,.int .u8 x.Node,.int .u8 x.A,.int .u8 x.B]
def afS(x:mr):List T:=[.slice (x.D.S.ec.map xq),.int .u8 x.D.T,.slice (x.D.C.map (λy=>[.int .u8 y])),.slice (x.L.map xp)]
def afU(x:nn):List T:=[.slice (x.C.D.S.ec.map xq),.int .u8 x.C.D.T,.slice (x.C.D.C.map (λy=>[.int .u8 y])),.slice (x.C.L.map xp),.bool x.wS]
def QR(x:c4):List T:=[.int .i64 x.ae,.str x.Name]
def nb(x:bY):List T:=[.int .i64 x.ae,.str x.Data]
def I.eta(x:I):I:=⟨x.Kind,x.bL,x.bc,x.bn,x.ae,x.aw,x.ai,x.Rest⟩
theorem I.aU(x:I):x.eta=x:=by cases x;rfl
mutual
def h5:I->List T
 |⟨a0,a1,a2,a3,a4,a5,a,c⟩=>[.int .i64 a0,.bool a1,.int .i64 a2,.str a3,.int .i64 a4,.slice (xo a5),.slice (xo a),.slice (c.map nb)]
def xo:List I->List (List T)
 |[]=>[]
 |v::r=>h5 v::xo r
end
theorem SS:∀l,xo l=l.map h5
 |[]=>rfl
 |v::r=>by simp only[xo,List.map];rw[SS r]
theorem Y4(x:I):h5 x=[.int .i64 x.Kind,.bool x.bL,.int .i64 x.bc,.str x.bn,.int .i64 x.ae,.slice (x.aw.map h5),.slice (x.ai.map h5),.slice (x.Rest.map nb)]:=by cases x;simp only[h5,SS]
def QQ(x:aS):List T:=[.int .i64 x.ae,.str x.Name,.int .i64 x.av,.bool x.cp,.bool x.bZ,.int .i64 x.bw.Kind,.bool x.bw.bL,.int .i64 x.bw.bc,.str x.bw.bn,.int .i64 x.bw.ae,.slice (x.bw.aw.map h5),.slice (x.bw.ai.map h5),.slice (x.bw.Rest.map nb)]
def ET(x:ah):List T:=[.int .i64 x.Kind,.str x.Name,.int .i64 x.bA,.int .i64 x.bC,.int .i64 x.Max,.slice (x.bg.map QR),.slice (x.ag.map QQ),.int .i64 x.Key,.int .i64 x.aG,.bool x.Open]
def afO(x:aR):List T:=[.slice (x.Types.map ET)]
def afN(x:dg):List T:=[.slice (x.cM.Types.map ET),.int .i64 x.av]
def afM(x:cR):List T:=[.int .i64 x.ae,.bool x.cp,.str x.Data]
def afL(x:iT):List T:=[.slice (x.Path.map (λy=>[.int .i64 y])),.int .i64 x.Reason]
def afK(x:iI):List T:=[.int .i64 x.t,.int .i64 x.number]
def afJ(x:gr):List T:=[.int .i64 x.id,.str x.text]
def afI(x:eS):List T:=[.int .i64 x.v.Kind,.bool x.v.bL,.int .i64 x.v.bc,.str x.v.bn,.int .i64 x.v.ae,.slice (x.v.aw.map h5),.slice (x.v.ai.map h5),.slice (x.v.Rest.map nb),.int .i64 x.u.Kind,.bool x.u.bL,.int .i64 x.u.bc,.str x.u.bn,.int .i64 x.u.ae,.slice (x.u.aw.map h5),.slice (x.u.ai.map h5),.slice (x.u.Rest.map nb),.str x.message]
def afR(x:cT):List T:=[.int .i64 x.Value.Kind,.bool x.Value.bL,.int .i64 x.Value.bc,.str x.Value.bn,.int .i64 x.Value.ae,.slice (x.Value.aw.map h5),.slice (x.Value.ai.map h5),.slice (x.Value.Rest.map nb),.slice (x.dO.Path.map (λy=>[.int .i64 y])),.int .i64 x.dO.Reason,.bool x.ck]
def afT(x:dI):List T:=[.int .i64 x.Value.Kind,.bool x.Value.bL,.int .i64 x.Value.bc,.str x.Value.bn,.int .i64 x.Value.ae,.slice (x.Value.aw.map h5),.slice (x.Value.ai.map h5),.slice (x.Value.Rest.map nb),.slice (x.Path.map (λy=>[.int .i64 y])),.bool x.ck]
def afV(x:kC):List T:=[.int .i64 x.V.Kind,.bool x.V.bL,.int .i64 x.V.bc,.str x.V.bn,.int .i64 x.V.ae,.slice (x.V.aw.map h5),.slice (x.V.ai.map h5),.slice (x.V.Rest.map nb),.int .i64 x.U.Kind,.bool x.U.bL,.int .i64 x.U.bc,.str x.U.bn,.int .i64 x.U.ae,.slice (x.U.aw.map h5),.slice (x.U.ai.map h5),.slice (x.U.Rest.map nb),.str x.Message]
def afW(x:y9):List T:=[.slice (x.IP.map xp),.slice (x.gC.map xp)]
def ag9:(n:Nat)->dD n->List T
 |0,x=>afU x
 |1,x=>afS x
 |2,x=>afQ x
 |3,x=>afP x
 |4,x=>xq x
 |5,x=>QS x
 |6,x=>xp x
 |7,x=>ET x
 |8,x=>QR x
 |9,x=>QQ x
 |10,x=>h5 x
 |11,x=>nb x
 |12,x=>afO x
 |13,x=>afN x
 |14,x=>afM x
 |15,x=>afL x
 |16,x=>afK x
 |17,x=>afJ x
 |18,x=>afI x
 |19,x=>afR x
 |20,x=>afT x
 |21,x=>afV x
 |22,x=>afW x
 |_+23,(x:Bool)=>[.bool x]
def cO:cK where
 D:=dD
 kb:=λn=>match n with
  |0=>WN
  |1=>Sc
  |2=>R2
  |3=>R1
  |4=>br
  |5=>ja
  |6=>nS
  |7=>aN
  |8=>dL
  |9=>aE
  |10=>au
  |11=>bX
  |12=>L9
  |13=>Ii
  |14=>gj
  |15=>JL
  |16=>HN
  |17=>uZ
  |18=>Vk
  |19=>Vt
  |20=>Vu
  |21=>Vv
  |22=>aaN
  |_+23=>false
 oP:=ag'
 make:=cS
 da:=dU
 enc:=ag9
 QU:=λn x=>match n,x with
  |0,_=>rfl
  |1,_=>rfl
  |2,_=>rfl
  |3,_=>rfl
  |4,_=>rfl
  |5,_=>rfl
  |6,_=>rfl
  |7,_=>rfl
  |8,_=>rfl
  |9,_=>rfl
  |10,x=>Y4 x
  |11,_=>rfl
  |12,_=>rfl
  |13,_=>rfl
  |14,_=>rfl
  |15,_=>rfl
  |16,_=>rfl
  |17,_=>rfl
  |18,_=>rfl
  |19,_=>rfl
  |20,_=>rfl
  |21,_=>rfl
  |22,_=>rfl
  |_+23,_=>rfl
 mk_eq:=λn l x h=>match n,x,h with
  |0,x,h=>by
   simp only[cS]at h;split at h
   . rename_i aa a;cases h;exact aL.fc a
   . cases h
  |1,x,h=>by
   simp only[cS]at h;split at h
   . rename_i aa a;cases h;exact aL.fc a
   . cases h
  |2,x,h=>by
   simp only[cS]at h;split at h
   . rename_i aa a;cases h;exact aL.fc a
   . cases h
  |3,x,h=>by
   simp only[cS]at h;split at h
   . rename_i aa a;cases h;exact aL.fc a
   . cases h
  |4,x,h=>by
   simp only[cS]at h;split at h
   . rename_i aa a;cases h;exact aL.fc a
   . cases h
  |5,x,h=>by
   simp only[cS]at h;split at h
   . rename_i aa a;cases h;exact aL.fc a
   . cases h
  |6,x,h=>by
   simp only[cS]at h;split at h
   . rename_i aa a;cases h;exact aL.fc a
   . cases h
  |7,x,h=>by
   simp only[cS]at h;split at h
   . rename_i aa a;cases h;exact aL.fc a
   . cases h
  |8,x,h=>by
   simp only[cS]at h;split at h
   . rename_i aa a;cases h;exact aL.fc a
   . cases h
  |9,x,h=>by
   simp only[cS]at h;split at h
   . rename_i aa a;cases h;exact aL.fc a
   . cases h
  |10,x,h=>by
   simp only[cS]at h;split at h
   . rename_i aa a;cases h;exact aL.fc a
   . cases h
  |11,x,h=>by
   simp only[cS]at h;split at h
   . rename_i aa a;cases h;exact aL.fc a
   . cases h
  |12,x,h=>by
   simp only[cS]at h;split at h
   . rename_i aa a;cases h;exact aL.fc a
   . cases h
  |13,x,h=>by
   simp only[cS]at h;split at h
   . rename_i aa a;cases h;exact aL.fc a
   . cases h
  |14,x,h=>by
   simp only[cS]at h;split at h
   . rename_i aa a;cases h;exact aL.fc a
   . cases h
  |15,x,h=>by
   simp only[cS]at h;split at h
   . rename_i aa a;cases h;exact aL.fc a
   . cases h
  |16,x,h=>by
   simp only[cS]at h;split at h
   . rename_i aa a;cases h;exact aL.fc a
   . cases h
  |17,x,h=>by
   simp only[cS]at h;split at h
   . rename_i aa a;cases h;exact aL.fc a
   . cases h
  |18,x,h=>by
   simp only[cS]at h;split at h
   . rename_i aa a;cases h;exact aL.fc a
   . cases h
  |19,x,h=>by
   simp only[cS]at h;split at h
   . rename_i aa a;cases h;exact aL.fc a
   . cases h
  |20,x,h=>by
   simp only[cS]at h;split at h
   . rename_i aa a;cases h;exact aL.fc a
   . cases h
  |21,x,h=>by
   simp only[cS]at h;split at h
   . rename_i aa a;cases h;exact aL.fc a
   . cases h
  |22,x,h=>by
   simp only[cS]at h;split at h
   . rename_i aa a;cases h;exact aL.fc a
   . cases h
  |_+23,x,h=>by
   simp only[cS]at h;split at h
   . rename_i aa a;cases h;exact aL.fc a
   . cases h
 RJ:=λn x=>match n,x with
  |0,_=>rfl
  |1,_=>rfl
  |2,_=>rfl
  |3,_=>rfl
  |4,_=>rfl
  |5,_=>rfl
  |6,_=>rfl
  |7,_=>rfl
  |8,_=>rfl
  |9,_=>rfl
  |10,_=>rfl
  |11,_=>rfl
  |12,_=>rfl
  |13,_=>rfl
  |14,_=>rfl
  |15,_=>rfl
  |16,_=>rfl
  |17,_=>rfl
  |18,_=>rfl
  |19,_=>rfl
  |20,_=>rfl
  |21,_=>rfl
  |22,_=>rfl
  |_+23,_=>rfl
 RI:=λe=>match e with
  |3=>some (.int .i64)
  |5=>some (.int .u8)
  |9=>some .str
  |37=>some (.nm 13)
  |48=>some (.nm 10)
  |85=>some (.nm 9)
  |88=>some (.slice (.int .i64))
  |112=>some (.nm 7)
  |117=>some (.nm 11)
  |140=>some (.nm 5)
  |146=>some (.nm 8)
  |196=>some (.nm 16)
  |236=>some (.nm 14)
  |276=>some (.nm 17)
  |_=>none
 own:=[([false,false,true,true],2,.int .i64),([false,true,true,false],1,.int .i64),([false,false,true],2,.slice (.int .i64))]
 pos:=λn=>match n with
  |0=>by decide
  |1=>by decide
  |2=>by decide
  |3=>by decide
  |4=>by decide
  |5=>by decide
  |6=>by decide
  |7=>by decide
  |8=>by decide
  |9=>by decide
  |10=>by decide
  |11=>by decide
  |12=>by decide
  |13=>by decide
  |14=>by decide
  |15=>by decide
  |16=>by decide
  |17=>by decide
  |18=>by decide
  |19=>by decide
  |20=>by decide
  |21=>by decide
  |22=>by decide
  |_+23=>Nat.zero_lt_one
theorem adI:cO.Total:=λn l h=>match n,h with
 |0,h=>by
  obtain⟨x,a⟩:=aL.gO (D:=dD) (ts:=dU 0) h;exact⟨_,by show cS 0 l=_;simp only[cS,a];rfl⟩
 |1,h=>by
  obtain⟨x,a⟩:=aL.gO (D:=dD) (ts:=dU 1) h;exact⟨_,by show cS 1 l=_;simp only[cS,a];rfl⟩
 |2,h=>by
  obtain⟨x,a⟩:=aL.gO (D:=dD) (ts:=dU 2) h;exact⟨_,by show cS 2 l=_;simp only[cS,a];rfl⟩
 |3,h=>by
  obtain⟨x,a⟩:=aL.gO (D:=dD) (ts:=dU 3) h;exact⟨_,by show cS 3 l=_;simp only[cS,a];rfl⟩
 |4,h=>by
  obtain⟨x,a⟩:=aL.gO (D:=dD) (ts:=dU 4) h;exact⟨_,by show cS 4 l=_;simp only[cS,a];rfl⟩
 |5,h=>by
  obtain⟨x,a⟩:=aL.gO (D:=dD) (ts:=dU 5) h;exact⟨_,by show cS 5 l=_;simp only[cS,a];rfl⟩
 |6,h=>by
  obtain⟨x,a⟩:=aL.gO (D:=dD) (ts:=dU 6) h;exact⟨_,by show cS 6 l=_;simp only[cS,a];rfl⟩
 |7,h=>by
  obtain⟨x,a⟩:=aL.gO (D:=dD) (ts:=dU 7) h;exact⟨_,by show cS 7 l=_;simp only[cS,a];rfl⟩
 |8,h=>by
  obtain⟨x,a⟩:=aL.gO (D:=dD) (ts:=dU 8) h;exact⟨_,by show cS 8 l=_;simp only[cS,a];rfl⟩
 |9,h=>by
  obtain⟨x,a⟩:=aL.gO (D:=dD) (ts:=dU 9) h;exact⟨_,by show cS 9 l=_;simp only[cS,a];rfl⟩
 |10,h=>by
  obtain⟨x,a⟩:=aL.gO (D:=dD) (ts:=dU 10) h;exact⟨_,by show cS 10 l=_;simp only[cS,a];rfl⟩
 |11,h=>by
  obtain⟨x,a⟩:=aL.gO (D:=dD) (ts:=dU 11) h;exact⟨_,by show cS 11 l=_;simp only[cS,a];rfl⟩
 |12,h=>by
  obtain⟨x,a⟩:=aL.gO (D:=dD) (ts:=dU 12) h;exact⟨_,by show cS 12 l=_;simp only[cS,a];rfl⟩
 |13,h=>by
  obtain⟨x,a⟩:=aL.gO (D:=dD) (ts:=dU 13) h;exact⟨_,by show cS 13 l=_;simp only[cS,a];rfl⟩
 |14,h=>by
  obtain⟨x,a⟩:=aL.gO (D:=dD) (ts:=dU 14) h;exact⟨_,by show cS 14 l=_;simp only[cS,a];rfl⟩
 |15,h=>by
  obtain⟨x,a⟩:=aL.gO (D:=dD) (ts:=dU 15) h;exact⟨_,by show cS 15 l=_;simp only[cS,a];rfl⟩
 |16,h=>by
  obtain⟨x,a⟩:=aL.gO (D:=dD) (ts:=dU 16) h;exact⟨_,by show cS 16 l=_;simp only[cS,a];rfl⟩
 |17,h=>by
  obtain⟨x,a⟩:=aL.gO (D:=dD) (ts:=dU 17) h;exact⟨_,by show cS 17 l=_;simp only[cS,a];rfl⟩
 |18,h=>by
  obtain⟨x,a⟩:=aL.gO (D:=dD) (ts:=dU 18) h;exact⟨_,by show cS 18 l=_;simp only[cS,a];rfl⟩
 |19,h=>by
  obtain⟨x,a⟩:=aL.gO (D:=dD) (ts:=dU 19) h;exact⟨_,by show cS 19 l=_;simp only[cS,a];rfl⟩
 |20,h=>by
  obtain⟨x,a⟩:=aL.gO (D:=dD) (ts:=dU 20) h;exact⟨_,by show cS 20 l=_;simp only[cS,a];rfl⟩
 |21,h=>by
  obtain⟨x,a⟩:=aL.gO (D:=dD) (ts:=dU 21) h;exact⟨_,by show cS 21 l=_;simp only[cS,a];rfl⟩
 |22,h=>by
  obtain⟨x,a⟩:=aL.gO (D:=dD) (ts:=dU 22) h;exact⟨_,by show cS 22 l=_;simp only[cS,a];rfl⟩
 |m+23,h=>by
  obtain⟨x,a⟩:=aL.gO (D:=dD) (ts:=[.bool]) h;exact⟨x,by show cS (m+23) l=_;simp only[cS,a];rfl⟩
end
section
open Go Go.Proofs.YtdjagncoefjfeaaGreat.Shv
open Tryz
set_option maxRecDepth 100000
open Go.Proofs Go.Proofs.YtdjagncoefjfeaaGreat Go.Shelf
theorem VO:hG prog 134=true:=by kernel_rfl
def o4:cB cO:=DZ cO 134 (.int .i64) 8
theorem U9:hV prog o4:=YY (sz:=1) (bytes:=8) (z:=[.t (.int .i64 0)]) func134 (by kernel_rfl) (by kernel_rfl) (by kernel_rfl) rfl rfl
theorem nM:gZ prog o4:=⟨VO,U9⟩
theorem Vw:hG prog 179=true:=by kernel_rfl
def o6:cB cO:=vR cO 179 (.nm 10) 120
theorem UJ:hV prog o6:=Hr (sz:=8) (bytes:=120) (z:=[.t (.int .i64 0),.t (.bool false),.t (.int .i64 0),.t (.str []),.t (.int .i64 0),.ay,.ay,.ay]) func179 (by kernel_rfl) (by kernel_rfl) (by kernel_rfl) rfl rfl
theorem nT:gZ prog o6:=⟨Vw,UJ⟩
theorem Vx:hG prog 245=true:=by kernel_rfl
def o7:cB cO:=vR cO 245 (.nm 11) 24
theorem UK:hV prog o7:=Hr (sz:=2) (bytes:=24) (z:=[.t (.int .i64 0),.t (.str [])]) func245 (by kernel_rfl) (by kernel_rfl) (by kernel_rfl) rfl rfl
theorem o8:gZ prog o7:=⟨Vx,UK⟩
instance:Inhabited gr:=⟨uZ⟩
instance:Inhabited (cO.D 17):=⟨uZ⟩
def lu(x y:gr):Bool:=decide (x.id<y.id)
def Gf(l:List gr):Option (List gr):=some (hQ lu l)
section
open Go.Proofs Go.Proofs.YtdjagncoefjfeaaGreat Go.Sort Go.RowKit Go.Lib
theorem agV(x:Int)(w:World):Calls prog 250 #[.int .i64 x] w λe w'=>e= .returned (.bool false)/\w'=w:=by
 go_enter func250,ntmps250
 go_wp2
 go_ret
 exact⟨by simp,rfl⟩
set_option maxHeartbeats 1000000 in
theorem agU(x y:Int)(w:World):Calls prog 227 #[.int .i64 x,.int .i64 y] w λe w'=>e= .returned (.int .i64 (Lib.compareInt x y))/\w'=w:=by
 go_enter func227,ntmps227
 go_wp2_with (go_at_call 250;refine(agV _ _).mono ?_;rintro e w' ⟨rfl,a⟩;rw[a])
 all_goals (go_ret;refine⟨?_,rfl⟩;unfold Lib.compareInt;(repeat' split)<;>first|rfl|(exfalso;omega))
def Au(x:gr):List Value:=[.int .i64 x.id,.string ⟨x.text.toArray⟩]
set_option maxHeartbeats 1000000 in
theorem agT(x y:Int)(s t:ByteArray)(W:World):Calls prog 226 #[.agg #[.int .i64 x,.string s],.agg #[.int .i64 y,.string t]] W λe w'=>e= .returned (.int .i64 (Lib.compareInt x y))/\∃q c,w'=grow (W.drewN q) c:=by
 have a:=λb=>agU x y b;generalize Lib.compareInt x y=r at a⊢
 go_enter func226,ntmps226
 go_wp2_with (go_at_call 227;refine(a _).mono ?_;rintro e w' ⟨rfl,rfl⟩)
 go_ret
 exact⟨rfl,0,_,by rw[alloc_eq_grow,alloc_eq_grow,grow_grow];rfl⟩
def Ma:Go.Shelf.Ren:=⟨λ|6=>225|15=>249|14=>248|28=>263|29=>264|20=>255|21=>256|22=>257|23=>258|24=>259|25=>260|26=>261|27=>262|46=>265|47=>266|48=>267|49=>268|50=>269|57=>270|n=>n,λ|22=>274|24=>276|25=>279|3=>3|39=>269|0=>0|53=>305|55=>114|4=>4|46=>299|45=>298|50=>118|5=>5|9=>9|66=>307|70=>311|76=>313|77=>314|n=>n,λ|n=>n⟩
theorem Q5:SlLaysF0.n6 prog Ma:={
 mixed:=by kernel_rfl
 f6:=⟨f225.name,by decide,func225.trans (ep some (by kernel_rfl))⟩
 f14:=⟨f248.name,by decide,func248.trans (ep some (by kernel_rfl))⟩
 f15:=func249.trans (ep some (by kernel_rfl))
 f20:=⟨f255.name,by decide,func255.trans (ep some (by kernel_rfl))⟩
 f21:=⟨f256.name,by decide,func256.trans (ep some (by kernel_rfl))⟩
 f22:=⟨f257.name,by decide,func257.trans (ep some (by kernel_rfl))⟩
 f23:=⟨f258.name,by decide,func258.trans (ep some (by kernel_rfl))⟩
 f24:=⟨f259.name,by decide,func259.trans (ep some (by kernel_rfl))⟩
 f25:=⟨f260.name,by decide,func260.trans (ep some (by kernel_rfl))⟩
 f26:=⟨f261.name,by decide,func261.trans (ep some (by kernel_rfl))⟩
 f27:=⟨f262.name,by decide,func262.trans (ep some (by kernel_rfl))⟩
 f28:=func263.trans (ep some (by kernel_rfl))
 f29:=func264.trans (ep some (by kernel_rfl))
 f46:=⟨f265.name,by decide,func265.trans (ep some (by kernel_rfl))⟩
 f47:=func266.trans (ep some (by kernel_rfl))
 f48:=func267.trans (ep some (by kernel_rfl))
 f49:=⟨f268.name,by decide,func268.trans (ep some (by kernel_rfl))⟩
 f50:=⟨f269.name,by decide,func269.trans (ep some (by kernel_rfl))⟩
 f57:=⟨f270.name,by decide,func270.trans (ep some (by kernel_rfl))⟩
 t0:=underlying0
 a0:=isAgg0
 z0:=sizeOf0
 v0:=zeroValue0
 t3:=underlying3
 a3:=isAgg3
 z3:=sizeOf3
 v3:=zeroValue3
 t4:=underlying4
 a4:=isAgg4
 z4:=sizeOf4
 v4:=zeroValue4
 t5:=underlying5
 a5:=isAgg5
 z5:=sizeOf5
 v5:=zeroValue5
 t9:=underlying9
 a9:=isAgg9
 z9:=sizeOf9
 v9:=zeroValue9
 t22:=underlying274
 a22:=isAgg274
 z22:=sizeOf274
 v22:=zeroValue274
 t25:=underlying279
 a25:=isAgg279
 z25:=sizeOf279
 v25:=zeroValue279
 t39:=underlying269
 a39:=isAgg269
 z39:=sizeOf269
 v39:=zeroValue269
 t45:=underlying298
 a45:=isAgg298
 z45:=sizeOf298
 v45:=zeroValue298
 t46:=underlying299
 a46:=isAgg299
 z46:=sizeOf299
 v46:=zeroValue299
 t50:=underlying118
 a50:=isAgg118
 z50:=sizeOf118
 v50:=zeroValue118
 t53:=underlying305
 a53:=isAgg305
 z53:=sizeOf305
 v53:=zeroValue305
 t55:=underlying114
 a55:=isAgg114
 z55:=sizeOf114
 v55:=zeroValue114
 t66:=underlying307
 a66:=isAgg307
 z66:=sizeOf307
 v66:=zeroValue307
 t70:=underlying311
 a70:=isAgg311
 z70:=sizeOf311
 v70:=zeroValue311
 t76:=underlying313
 a76:=isAgg313
 z76:=sizeOf313
 v76:=zeroValue313
 t77:=underlying314
 a77:=isAgg314
 z77:=sizeOf314
 v77:=zeroValue314}
theorem JM:ltOf (λx y:gr=>Lib.compareInt x.id y.id)=lu:=by
 funext x y
 unfold ltOf lu Lib.compareInt;by_cases h1:x.id<y.id
 . simp[h1]
 . by_cases a:y.id<x.id<;>simp[h1,a]
theorem FT:SWO lu:=ab3 (λx:gr=>x.id)
set_option maxHeartbeats 2000000 in
theorem agX(p:Option Addr)(cap:Nat)(a:Value)(w:World):Calls prog 255 #[.slice p 0 cap,.int .i64 0,.int .i64 0,a] w λe w'=>e= .returned (.tuple #[])/\w'=w:=by
 go_enter func255,ntmps255
 go_wp2
 refine wp_loop_rounds 1 ?_;rw[rounds_succ]
 go_wp2
 go_end0
 exact⟨rfl,rfl⟩
set_option maxHeartbeats 2000000 in
theorem agY(p:Option Addr)(cap:Nat)(c:Int)(a:Value)(w:World):Calls prog 248 #[.slice p 0 cap,.int .i64 0,.int .i64 0,.int .i64 c,a] w λe w'=>e= .returned (.tuple #[])/\w'=w:=by
 have b:=λW=>agX p cap a W
 go_enter func248,ntmps248
 go_wp2
 refine wp_loop_rounds 1 ?_;rw[rounds_succ]
 go_wp2_with (go_at_call 255;refine(b _).mono ?_;rintro e w' ⟨rfl,rfl⟩)
 (try simp only[Exit.inBlock,Exit.then]);refine bodyPost_ret (results_none rfl _ _ _) rfl ?_
 exact⟨rfl,rfl⟩
set_option maxHeartbeats 2000000 in
theorem agW(p:Option Addr)(cap:Nat)(a:Value)(w:World):Calls prog 225 #[.slice p 0 cap,a] w λe w'=>e= .returned (.tuple #[])/\w'=w:=by
 have b:=λc W=>agY p cap c a W;have af:∀W,Calls prog 249 #[.int .u64 0] W λe w'=>e= .returned (.int .i64 (Lib.bitLen 0:Nat))/\w'=W:=λW=>by
  have h:=Any.bits_Len (SlLaysF0.n15.bits (P:=prog) (ρ:=Ma) {Q5 with}) 0 W (by omega) (by omega);exact h
 go_enter func225,ntmps225
 go_wp2_with (first|(go_at_call 249;refine(af _).mono ?_;rintro e w' ⟨rfl,rfl⟩)|(go_at_call 248;refine(b _ _).mono ?_;rintro e w' ⟨rfl,rfl⟩))
 go_end0
 exact⟨rfl,rfl⟩
theorem agZ(blk off cap:Nat)(d:Array (cO.D 17))(w:World)(c:HoldsK Au 2 w blk off d)(f:blk<w.heap.size)(g:d.size<4611686018427387904):
 Calls prog 225 #[.slice (some ⟨blk,off,none⟩) d.size cap,.func (.func 226) #[] #[]] w λe w'=>e= .returned (.tuple #[])/\∃n os,w'=sortWorldK Au 2 w blk off n (pdq lu d 0 d.size (Lib.bitLen d.size) true true) os:=by
 have b:∀args w,(callFunc 226 args).run prog w= .ok (.enter 226 args) w:=enters_of func226 (by kernel_rfl) rfl;have h:=AnyQ.slices_SortFunc_eq (α:=gr) Q5 2 isAgg276 sizeOf276 Au (λ_=>rfl) (λx v a=>by simp[Au]at a;rcases a with rfl|rfl<;>rfl) (λx y=>Lib.compareInt x.id y.id) (by rw[JM];exact FT) 226 #[] blk off cap d w b (λ_ _ _ _ x y=>agT x.id y.id _ _ _) c f g;rw[JM]at h;exact h
theorem acZ:hG prog 225=true:=by kernel_rfl
def GR:cB cO:=FR cO 225 17 226 (hQ (α:=cO.D 17) lu)
theorem WO:hV prog GR:=abE (U:=cO) (n:=17) Au lu FT (λ_=>rfl) (λw S x j t v h a=>Y3 w S x.id x.text j t v h a) agZ agW
end
theorem GS:gZ prog GR:=⟨acZ,WO⟩
def Kj:Go.Shelf.Ren:=⟨λ|240=>229|276=>251|n=>n,λ|0=>0|4=>4|9=>9|20=>20|37=>25|70=>250|72=>252|164=>294|n=>n,λn=>n⟩
theorem agi:Lays.n240 prog Kj:={
 mixed:=by kernel_rfl
 f240:=func229.trans (ep some (by kernel_rfl))
 f276:=func251.trans (ep some (by kernel_rfl))
 t0:=underlying0
 a0:=isAgg0
 z0:=sizeOf0
 v0:=zeroValue0
 t4:=underlying4
 a4:=isAgg4
 z4:=sizeOf4
 v4:=zeroValue4
 t9:=underlying9
 a9:=isAgg9
 z9:=sizeOf9
 v9:=zeroValue9
 t20:=underlying20
 a20:=isAgg20
 z20:=sizeOf20
 v20:=zeroValue20
 t70:=underlying250
 a70:=isAgg250
 z70:=sizeOf250
 v70:=zeroValue250
 t72:=underlying252
 a72:=isAgg252
 z72:=sizeOf252
 v72:=zeroValue252
 t164:=underlying294
 a164:=isAgg294
 z164:=sizeOf294
 v164:=zeroValue294}
theorem agj:Builder.X72 prog Kj:={
 sizeBuilder:=by kernel_rfl
 liesBuilder:=by kernel_rfl}
theorem ac0:hG prog 229=true:=by kernel_rfl
def pM:cB cO:=D0 cO 229 252 5
theorem Vl:hV prog pM:=aaL agi agj rfl rfl
theorem rk:gZ prog pM:=⟨ac0,Vl⟩
theorem Vy:hG prog 134=true:=by kernel_rfl
def o9:cB cO:=vR cO 134 (.int .i64) 8
theorem UL:hV prog o9:=Hr (sz:=1) (bytes:=8) (z:=[.t (.int .i64 0)]) func134 (by kernel_rfl) (by kernel_rfl) (by kernel_rfl) rfl rfl
theorem sm:gZ prog o9:=⟨Vy,UL⟩
end
section
open Go Go.Proofs.YtdjagncoefjfeaaGreat.Shv
open Tryz
set_option maxRecDepth 100000
abbrev a6(e:ev)(F:aL cO.D e.ts->Option (aL cO.D e.us)):Prop:=gZ prog (e.s F)
abbrev cN(f kk:Nat)(p:a7)(e:gp)(F:aL cO.D e.ts->Option (eA cO e.outs)):Prop:=mX prog f kk p e F
abbrev O7(e:ev):Prop:=iC prog e
abbrev dV(e:ev):aL cO.D e.ts->aL cO.D e.us->Prop:=AX prog cO e
abbrev ey(f kk:Nat)(p:a7)(e:gp):aL cO.D e.ts->eA cO e.outs->Prop:=wT prog cO f kk p e
abbrev dY(e:ev)(F:aL cO.D e.ts->Option (aL cO.D e.us)):Prop:=∀h r,F h=some r->dV e h r
abbrev ez(f kk:Nat)(p:a7)(e:gp)(F:aL cO.D e.ts->Option (eA cO e.outs)):Prop:=∀h r,F h=some r->ey f kk p e h r
variable{fs:List (cB cO)}{p:a7}{gc:dg×dg×aj->Option (eS×Int)}{go:List dg->Option Int}
theorem eb{e:ev}{h:aL cO.D e.ts}{r:aL cO.D e.us}{x:Option (aL cO.D e.us)}(h0:x=some r)(b:jq prog fs:=by exact .n){a:List (Nat×g' cO)}(af:jD prog e.f e.st.length [] a:=by exact .n)(k:O7 e:=by exact .m (by kernel_rfl))(c:qb (hM fs) (kO a) prog e h=x:=by kernel_rfl):dV e h r:= .at k b af (c.trans h0)
theorem eK(e:gp){f kk:Nat}{F:aL cO.D e.ts->Option (eA cO e.outs)}(bE:ez f kk p e F){h:aL cO.D e.ts}{o:eA cO e.outs}{x:Option (eA cO e.outs)}(h0:x=some o)(b:jq prog fs:=by exact .n){a:List (Nat×g' cO)}(af:jD prog f kk p a:=by exact .n)(c:qy (hM fs) (kO a) kk (p8 prog f p) e F h=x:=by kernel_rfl):ey f kk p e h o:= .at bE b af (c.trans h0)
theorem cg(e:ev){F:aL cO.D e.ts->Option (aL cO.D e.us)}(h:dY e F)(k:O7 e:=by exact .m (by kernel_rfl)):a6 e F:= .of k h
theorem eL(e:gp){f kk:Nat}{F:aL cO.D e.ts->Option (eA cO e.outs)}(h:ez f kk p e F):cN f kk p e F:= .of h
def afk:=aV 68 [.row 3,aa ab] (aa ab)
def afl:=aV 69 [aa ab] (aa .bool)
def afm:=aV 70 [.row 4] (aa ab)
def afn:=aV 71 [.row 4] (aa ab)
def QG:=bR 0 [(1,ar 0 0),(3,.c (.arr 1)),(4,aa ab)] [.bj 4,.arr ab] [bJ (.exit 0) [(3,.c (.arr 0))] [.arr ab]] [] [(.slot 3,ab)]
def afo:=aV 72 [.row 4] (aa bI) [QG]
def aex:=aV 146 [aa ab] (aa .bool)
def N9:=bR 0 [(3,ar 0 0),(7,aa ab),(9,aa ab)] [cc (az 4)] [eV 6 ab,gx 0]
def aeg:=aV 109 [.row 3,aa ab,aa (.int .u8)] (aa ab) [N9]
def aei:=aV 111 [aa ab] (aa .bool)
def QI:=bR 0 [(1,aa (.int .u8)),(2,ar 0 0),(5,aa ab),(6,aa ab)] [cc (az 4)] [eV 4 ab,gx 0]
def afq:=aV 74 [.row 3,aa (.int .u8)] (aa ab) [QI]
def aeh:=aV 110 [.row 3,aa ab,aa (.int .u8)] (.aY [.row 10,aa .bool])
def Nn:=bR 0 [(1,aa ab),(2,aa .bool),(3,ar 0 0),(7,ar 1 0),(8,.c (.arr 2)),(9,aa ab),(10,aa ab)] [cc (az 4),.bj 4,.arr (.nm 9)] [bJ (.exit 2) [(1,aa ab),(2,aa .bool),(3,ar 0 0),(7,ar 1 0),(8,.c (.arr 2)),(9,aa ab)] [cc (az 4),.bj 4,.arr (.nm 9)]]
def QH:=bR 0 [(1,aa ab),(2,aa .bool),(3,ar 0 0),(7,ar 1 0),(8,.c (.arr 2)),(9,aa ab)] [cc (az 4),.bj 4,.arr (.nm 9)] [bJ (.exit 0) [(8,.c (.arr 0))] [.arr (.nm 9)]] [Nn] [(.slot 8,.nm 9)]
def afp:=aV 73 [.row 3,aa ab,aa .bool] (aa (az 9)) [QH]
def No:=bR 0 [(1,ar 0 0),(2,ar 1 0),(4,aa ab),(5,ar 2 0),(6,aa ab),(8,ar 3 0),(9,aa bI),(10,aa ab)] [cc (az 4),.box [.ay],.box [.arr 4],.box [.hole ab,.hole .str,.hole ab,.hole ab,.hole ab,.arr 5,.ay,.hole ab,.hole ab,.hole .bool],.arr (.nm 7),.arr (.nm 8)] [bJ (.exit 3) [(1,ar 0 0),(2,ar 1 0),(4,aa ab),(5,ar 2 0),(6,aa ab),(8,ar 3 0)] [cc (az 4),.box [.ay],.box [.arr 4],.box [.hole ab,.hole .str,.hole ab,.hole ab,.hole ab,.arr 5,.ay,.hole ab,.hole ab,.hole .bool],.arr (.nm 7),.arr (.nm 8)]] [] [(.via 8 5,.nm 8)]
def Qx:=bR 0 [(1,ar 0 0),(2,ar 1 0),(4,aa ab),(5,ar 2 0),(6,aa ab)] [cc (az 4),.box [.ay],.box [.arr 3],.arr (.nm 7)] [bJ (.exit 0) [(2,ar 0 0),(5,ar 1 0)] [.box [.ay],.box [.arr 2],.arr (.nm 7)]] [No] [(.via 5 0,.nm 7)]
def ae5:=aV 34 [.row 3] (.aY [.row 12,aa .bool]) [Qx]
def aey:=aV 147 [ar 0 0,aa ab] (aa ab) [] [.box [.hole (az 7),.hole (.slice (.int .u8)),.hole .bool]] [.box [.hole (az 7),.hole (.slice (.int .u8)),.hole .bool]]
def Oa:=bR 0 [(0,ar 0 0),(5,aa .str),(6,aa ab)] [.box [.hole (az 7),.hole (.slice (.int .u8)),.hole .bool]] [bJ (.exit 0) [(5,aa .str)] [.box [.hole (az 7),.hole (.slice (.int .u8)),.hole .bool]]]
def aez:=aV 148 [ar 0 0,aa ab] (aa .str) [Oa] [.box [.hole (az 7),.hole (.slice (.int .u8)),.hole .bool]] [.box [.hole (az 7),.hole (.slice (.int .u8)),.hole .bool]]
def aeA:=aV 149 [ar 0 0] (aa .bool) [] [.box [.hole (az 7),.hole (.slice (.int .u8)),.hole .bool]] [.box [.hole (az 7),.hole (.slice (.int .u8)),.hole .bool]]
def QD:=bR 0 [(1,aa ab),(2,ar 0 0),(6,aa ab)] [.bj 7] [bJ .ret [(4,aa ab),(5,aa .bool)],gx 0]
def afe:=aV 53 [.row 7,aa ab] (.aY [aa ab,aa .bool]) [QD]
def QL:=bR 0 [(1,aa ab),(2,ar 0 0),(6,aa ab)] [.bj 7] [bJ .ret [(4,aa ab),(5,aa .bool)],gx 0]
def afx:=aV 82 [.row 7,aa ab] (.aY [aa ab,aa .bool]) [QL]
def aeU:=aV 194 [.row 7,aa ab] (aa .bool)
def Ob:=bR 0 [(3,ar 1 0),(5,aa ab)] [.box [.hole (az 7),.hole (.slice (.int .u8)),.hole .bool],.bj 7] [bJ (.exit 0) [(5,aa ab)] [.box [.hole (az 7),.hole (.slice (.int .u8)),.hole .bool]]]
def aeC:=aV 150 [ar 0 0,.row 7] (aa ab) [Ob] [.box [.hole (az 7),.hole (.slice (.int .u8)),.hole .bool]] [.box [.hole (az 7),.hole (.slice (.int .u8)),.hole .bool]]
def aeD:=aV 151 [ar 0 0,aa ab] (.row 11) [] [.box [.hole (az 7),.hole (.slice (.int .u8)),.hole .bool]] [.box [.hole (az 7),.hole (.slice (.int .u8)),.hole .bool]]
def aeQ:=aV 163 [aa .bool,aa .bool] (aa ab)
def afc:=aV 51 [aa ab] (aa (.int .u64))
def aet:=aV 128 [.row 10,.row 10] (aa ab)
def Oc:=bR 0 [(3,ar 0 0),(4,ar 1 0),(5,ar 2 0),(6,ar 3 0),(7,aa ab)] [.bj 10,.bj 10,.bj 10,.box [.hole ab,.hole .bool,.hole ab,.hole .str,.hole ab,.ay,.ay,.ay]] [bJ (.exit 0) [(3,ar 0 0),(4,ar 1 0),(5,ar 2 0),(6,ar 3 0),(7,aa ab)] [.bj 10,.bj 10,.bj 10,.box [.hole ab,.hole .bool,.hole ab,.hole .str,.hole ab,.ay,.ay,.ay]]]
def aeE:=aV 152 [.row 10,.row 10,.row 10] (.row 10) [Oc]
def zt:=bR 0 [(0,ar 0 0),(4,ar 1 0),(5,ar 2 0),(6,ar 3 0),(7,aa ab)] [.box [.hole (az 7),.hole (.slice (.int .u8)),.hole .bool],.box [.hole ab,.hole .bool,.hole ab,.hole .str,.hole ab,.ay,.ay,.ay],.box [.hole ab,.hole .str,.hole ab,.hole ab,.hole ab,.hole (az 8),.hole (az 9),.hole ab,.hole ab,.hole .bool],.box [.hole ab,.hole .bool,.hole ab,.hole .str,.hole ab,.ay,.arr 4,.ay],.arr (.nm 10)] [bJ (.exit 1) [(0,ar 0 0),(4,ar 1 0),(5,ar 2 0),(6,ar 3 0)] [.box [.hole (az 7),.hole (.slice (.int .u8)),.hole .bool],.box [.hole ab,.hole .bool,.hole ab,.hole .str,.hole ab,.ay,.ay,.ay],.box [.hole ab,.hole .str,.hole ab,.hole ab,.hole ab,.hole (az 8),.hole (az 9),.hole ab,.hole ab,.hole .bool],.box [.hole ab,.hole .bool,.hole ab,.hole .str,.hole ab,.ay,.arr 4,.ay],.arr (.nm 10)]] [] [(.via 6 6,.nm 10)]
def zu:=bR 1 [(0,ar 0 0),(4,ar 1 0),(5,ar 2 0),(6,ar 3 0),(9,aa ab)] [.box [.hole (az 7),.hole (.slice (.int .u8)),.hole .bool],.box [.hole ab,.hole .bool,.hole ab,.hole .str,.hole ab,.ay,.ay,.ay],.box [.hole ab,.hole .str,.hole ab,.hole ab,.hole ab,.hole (az 8),.hole (az 9),.hole ab,.hole ab,.hole .bool],.box [.hole ab,.hole .bool,.hole ab,.hole .str,.hole ab,.ay,.arr 4,.ay],.arr (.nm 10)] [bJ (.exit 3) [(4,ar 1 0),(6,ar 2 0)] [.box [.hole (az 7),.hole (.slice (.int .u8)),.hole .bool],.box [.hole ab,.hole .bool,.hole ab,.hole .str,.hole ab,.ay,.ay,.ay],.box [.hole ab,.hole .bool,.hole ab,.hole .str,.hole ab,.ay,.arr 3,.ay],.arr (.nm 10)]] [] [(.via 6 6,.nm 10)]
def zv:=bR 2 [(0,ar 0 0),(4,ar 1 0),(5,ar 2 0),(6,ar 3 0),(10,aa ab)] [.box [.hole (az 7),.hole (.slice (.int .u8)),.hole .bool],.box [.hole ab,.hole .bool,.hole ab,.hole .str,.hole ab,.ay,.ay,.ay],.box [.hole ab,.hole .str,.hole ab,.hole ab,.hole ab,.hole (az 8),.hole (az 9),.hole ab,.hole ab,.hole .bool],.box [.hole ab,.hole .bool,.hole ab,.hole .str,.hole ab,.hole (az 10),.hole (az 10),.hole (az 11)]] [bJ (.exit 5) [(4,ar 1 0),(6,ar 2 0)] [.box [.hole (az 7),.hole (.slice (.int .u8)),.hole .bool],.box [.hole ab,.hole .bool,.hole ab,.hole .str,.hole ab,.ay,.ay,.ay],.box [.hole ab,.hole .bool,.hole ab,.hole .str,.hole ab,.hole (az 10),.hole (az 10),.hole (az 11)]]]
def r':=aV 112 [ar 0 0,aa ab] (.row 10) [zt,zu,zv] [.box [.hole (az 7),.hole (.slice (.int .u8)),.hole .bool]] [.box [.hole (az 7),.hole (.slice (.int .u8)),.hole .bool]]
def afs:=aV 76 [.row 12,aa ab,aa (.slice (.int .u8))] (.row 10)
def aft:=aV 77 [.row 12,aa ab,aa (.slice (.int .u8))] (.row 10)
def ae6:=aV 38 [.row 2] (.aY [.row 12,aa ab,.row 10,.row 10,aa .bool])
def Qw:=bR 0 [(1,aa (az 6)),(4,ar 0 0),(5,ar 1 0),(6,aa ab)] [.box [.ay],.box [.arr 2],.arr (.nm 4)] [bJ (.exit 0) [(4,ar 0 0),(5,ar 1 0)] [.box [.ay],.box [.arr 2],.arr (.nm 4)]]
def ae4:=aV 33 [.row 3,aa (az 6)] (.row 3) [Qw]
def QJ:=bR 0 [(1,aa ab),(2,ar 0 0),(5,aa ab)] [.bj 10] [bJ (.exit 0) [(1,aa ab),(2,ar 0 0)] [.bj 10]]
def xj:=bR 1 [(1,aa ab),(2,ar 0 0),(6,aa ab)] [.bj 10] [bJ (.exit 2) [(1,aa ab),(2,ar 0 0)] [.bj 10]]
def xk:=bR 2 [(1,aa ab),(2,ar 0 0),(7,aa ab)] [.bj 10] [bJ (.exit 4) [(1,aa ab)]]
def xi:=aV 78 [.row 10,aa ab] (aa ab) [QJ,xj,xk]
def ae7:=aV 39 [.row 10] (aa .bool)
def aew:=aV 14 [.row 1] (.aY [.row 12,.row 12,aa ab,.row 10,aa .bool])
def QB:=bR 0 [(0,aa (.int .u64)),(3,aa .str)] [] [bJ (.exit 0) [(3,aa .str)]]
def afb:=aV 50 [aa (.int .u64)] (aa .str) [QB]
def QC:=bR 0 [(0,aa (.int .u64)),(3,.c (.arr 0))] [.arr (.int .u8)] [bJ (.exit 0) [(0,aa (.int .u64)),(3,.c (.arr 0))] [.arr (.int .u8)]] [] [(.slot 3,.int .u8)]
def afd:=aV 52 [aa (.int .u64)] (aa .str) [QC]
def aff:=aV 54 [aa .str] (aa .str)
def xm:=bR 0 [(0,aa (az 10)),(1,aa (az 10)),(5,aa ab)] [] [eV 4 .bool,gx 0]
def ES:=aV 89 [aa (az 10),aa (az 10)] (aa .bool) [xm]
def QA:=bR 0 [(2,ar 0 0),(3,ar 1 0),(5,aa ab)] [.bj 10,.bj 10] [eV 4 .bool,bJ (.exit 0) [(2,ar 0 0),(3,ar 1 0)] [.bj 10,.bj 10]]
def Bq:=aV 49 [.row 10,.row 10] (aa .bool) [QA]
def afg:=aV 55 [aa ab,aa .bool,aa .str] (aa .str)
def Np:=bR 0 [(3,ar 0 0),(5,ar 1 0),(7,ar 2 0),(14,aa .str),(15,aa ab),(19,aa ab)] [cc (az 7),.bj 10,.bj 7] [bJ (.exit 7) [(3,ar 0 0),(5,ar 1 0),(7,ar 2 0),(14,aa .str),(15,aa ab)] [cc (az 7),.bj 10,.bj 7]]
def w8:=bR 0 [(3,ar 0 0),(5,ar 1 0),(7,ar 2 0),(10,aa .str),(11,aa ab)] [cc (az 7),.bj 10,.bj 7] [bJ (.exit 1) [(10,aa .str)]]
def w9:=bR 1 [(3,ar 0 0),(5,ar 1 0),(7,ar 2 0),(12,aa .str),(13,aa ab)] [cc (az 7),.bj 10,.bj 7] [bJ (.exit 3) [(12,aa .str)]]
def xa:=bR 2 [(3,ar 0 0),(5,ar 1 0),(7,ar 2 0),(14,aa .str),(15,aa ab)] [cc (az 7),.bj 10,.bj 7] [bJ (.exit 5) [(14,aa .str)]] [Np]
def sb:=aV 19 [.row 12,aa ab,.row 10] (aa .str) [w8,w9,xa]
def A':=aV 10 [.row 0] (.aY [.row 13,.row 13,aa .str,aa .bool])
def Qy:=aV 40 [aa ab] (.row 9)
def Qz:=aV 41 [aa (az 9)] (.row 13)
def Od:=bR 0 [(0,aa (az 8)),(1,aa (az 8)),(12,aa ab),(13,aa ab)] [] [eV 4 .bool,gx 0]
def Qi:=aV 239 [aa (az 8),aa (az 8)] (aa .bool) [Od]
def Oe:=bR 0 [(0,aa (az 11)),(1,aa (az 11)),(12,aa ab),(13,aa ab)] [] [eV 4 .bool,gx 0]
def Pp:=aV 103 [aa (az 11),aa (az 11)] (aa .bool) [Oe]
def y':=bR 0 [(1,aa (az 10)),(2,.c (.fn 242 [])),(15,aa (az 10)),(16,aa ab),(17,aa ab)] [] [eV 6 .bool,gx 0]
def D1:=aV 104 [aa (az 10),aa (az 10),.c (.fn 242 [])] (aa .bool) [y']
def xc:=aV 242 [.row 10,.row 10] (aa .bool)
def Ql:=aV 241 [.row 9,.row 9] (aa .bool)
def NB:=bR 0 [(1,aa (az 9)),(2,.c (.fn 241 [])),(15,aa (az 9)),(16,aa ab),(17,aa ab)] [] [eV 6 .bool,gx 0]
def Qk:=aV 240 [aa (az 9),aa (az 9),.c (.fn 241 [])] (aa .bool) [NB]
def PY:=aV 211 [.row 7,.row 7] (aa .bool)
def Qe:=aV 235 [aa (.int .u8)] (aa .bool)
def Qf:=aV 236 [aa (.int .u8)] (aa .bool)
def NC:=bR 0 [(0,aa .str),(18,aa ab),(19,aa ab)] [] [eV 2 .bool,gx 0]
def PV:=aV 208 [aa .str] (aa .bool) [NC]
def ND:=bR 0 [(0,aa bI),(1,aa jj),(5,.c (.mp 0)),(9,aa bI),(10,aa ab),(11,aa ab)] [.set] [eV 4 .bool,bJ (.exit 0) [(0,aa bI)]]
def Qg:=aV 237 [aa bI,aa jj] (aa .bool) [ND]
def NF:=bR 0 [(0,aa (az 8)),(3,.c (.arr 0)),(4,.c (.arr 1)),(7,aa (az 8)),(8,aa ab),(9,aa ab)] [.arr ab,.arr .str] [bJ (.exit 0) [(0,aa (az 8)),(3,.c (.arr 0)),(4,.c (.arr 1))] [.arr ab,.arr .str]] [] [(.slot 3,ab),(.slot 4,.str)]
def PW:=aV 209 [aa (az 8)] (aa .bool) [NF]
def Qh:=aV 238 [.row 10] (aa .bool)
def NG:=bR 0 [(1,ar 0 0),(3,.c (.arr 1)),(4,.c (.arr 2)),(8,aa (az 9)),(9,aa ab),(10,aa ab)] [.bj 7,.arr ab,.arr .str] [eV 2 .bool,bJ (.exit 0) [(1,ar 0 0),(3,.c (.arr 1)),(4,.c (.arr 2))] [.bj 7,.arr ab,.arr .str]] [] [(.slot 3,ab),(.slot 4,.str)]
def PX:=aV 210 [.row 7] (aa .bool) [NG]
def PB:=aV 169 [.row 7] (aa .bool)
def NH:=bR 0 [(1,ar 0 0),(3,.c (.arr 1)),(7,aa (az 9)),(8,aa ab),(9,aa ab)] [.bj 7,.arr ab] [bJ (.exit 0) [(1,ar 0 0),(3,.c (.arr 1))] [.bj 7,.arr ab]] [] [(.slot 3,ab)]
def PC:=aV 170 [.row 7] (aa bI) [NH]
def Mb:=bR 0 [(1,ar 0 0),(3,.c (.mp 1)),(5,ar 2 0),(14,aa (az 7)),(15,aa ab),(16,aa ab),(38,aa bI),(39,aa ab),(40,aa ab)] [cc (az 7),.set,.box [.hole ab,.hole .str,.hole ab,.hole ab,.hole ab,.hole (az 8),.hole (az 9),.hole ab,.hole ab,.hole .bool]] [eV 2 ab,bJ (.exit 2) [(1,ar 0 0),(3,.c (.mp 1)),(5,ar 2 0),(14,aa (az 7)),(15,aa ab),(16,aa ab)] [cc (az 7),.set,.box [.hole ab,.hole .str,.hole ab,.hole ab,.hole ab,.hole (az 8),.hole (az 9),.hole ab,.hole ab,.hole .bool]]]
def NI:=bR 0 [(1,ar 0 0),(3,.c (.mp 1)),(14,aa (az 7)),(15,aa ab),(16,aa ab)] [cc (az 7),.set] [eV 2 ab,gx 0] [Mb]
def Bd:=aV 139 [.row 12] (aa ab) [NI]
def EC:=aV 105 [.row 13] (aa ab)
def EN:=bR 0 [(6,aa (az 13)),(7,aa ab),(8,aa ab)] [] [eV 2 ab,gx 0]
def EM:=aV 65 [aa (az 13)] (aa ab) [EN]
def PD:=aV 171 [ar 0 0,aa ab] (.aY [.row 10,aa .bool]) [] [.box [.hole (az 7),.arr 1,.hole bI,.hole ab],.arr ab] [.box [.hole (az 7),.arr 2,.arr 3,.hole ab],.gone,.arr ab,.arr ab]
def NJ:=bR 0 [(0,aa .str),(4,aa (.int .u64)),(17,aa ab),(18,aa ab)] [] [bJ (.exit 0) [(4,aa (.int .u64))]]
def PE:=aV 172 [aa .str] (.aY [aa (.int .u64),aa ab]) [NJ]
def PF:=aV 173 [aa (.int .u64)] (aa ab)
def PU:=aV 206 [.row 8,ar 0 0] (aa .bool) [] [cc ab] [cc ab]
def NK:=bR 0 [(0,aa (az 8)),(1,.c (.fn 206 [0])),(7,aa ab),(8,aa ab)] [cc ab] [bJ .ret [(4,aa ab)] [cc ab],bJ (.exit 0) [] [cc ab]]
def PT:=aV 205 [aa (az 8),.c (.fn 206 [0])] (aa ab) [NK] [cc ab] [cc ab]
def Pz:=aV 165 [.row 7,aa ab] (.aY [aa ab,aa .bool])
def oL:=aV 174 [ar 0 0,aa ab,aa ab,aa .str] (.aY [.row 10,aa .bool]) [] [.box [.hole (az 7),.arr 1,.hole bI,.hole ab],.arr ab] [.box [.hole (az 7),.arr 2,.hole bI,.hole ab],.gone,.arr ab]
def NL:=bR 0 [(0,aa .str),(5,aa (.int .u64)),(10,aa ab),(11,aa ab)] [] [bJ .ret [(2,aa (.int .u64)),(3,aa ab),(4,aa ab)],gx 0]
def Qt:=aV 254 [aa .str] (.aY [aa (.int .u64),aa ab,aa ab]) [NL]
def Qm:=aV 243 [aa .str] (.aY [aa (.int .u64),aa .str,aa .bool])
def PZ:=aV 212 [aa .str] (.aY [aa ab,aa .str,aa ab])
def Pw:=aV 138 [.row 9,ar 0 0] (aa .bool) [] [cc ab] [cc ab]
def NM:=bR 0 [(0,aa (az 9)),(1,.c (.fn 138 [0])),(7,aa ab),(8,aa ab)] [cc ab] [bJ .ret [(4,aa ab)] [cc ab],bJ (.exit 0) [] [cc ab]]
def Pv:=aV 137 [aa (az 9),.c (.fn 138 [0])] (aa ab) [NM] [cc ab] [cc ab]
def QP:=aV 98 [.row 7,aa ab] (.aY [aa ab,aa .bool])
def Be:=aV 175 [ar 0 0,.row 7,aa .str] (.aY [.row 10,aa .bool]) [] [.box [.hole (az 7),.arr 1,.hole bI,.hole ab],.arr ab] [.box [.hole (az 7),.arr 2,.hole bI,.hole ab],.gone,.arr ab]
def Qn:=aV 244 [aa .str] (.aY [aa .str,aa .str,aa .bool])
def NN:=bR 0 [(4,.c (.arr 0)),(5,aa .str)] [.arr .str] [bJ .ret [(2,.c (.ay)),(3,aa ab)],bJ (.exit 0) [(4,.c (.arr 0))] [.arr .str]] [] [(.slot 4,.str)]
def P0:=aV 213 [aa .str] (.aY [aa jj,aa ab]) [NN]
def zw:=bR 0 [(0,ar 0 0),(4,ar 2 0),(6,ar 3 0),(10,ar 4 0),(38,aa jj),(39,aa ab),(40,aa ab)] [.box [.hole (az 7),.arr 5,.hole bI,.hole ab],.gone,.bj 7,.box [.hole ab,.hole .bool,.hole ab,.hole .str,.hole ab,.ay,.ay,.ay],.box [.hole ab,.hole .bool,.hole ab,.hole .str,.hole ab,.ay,.arr 6,.ay],.arr ab,.arr (.nm 10)] [bJ .ret [(6,ar 2 0),(7,aa .bool)] [.box [.hole (az 7),.arr 3,.hole bI,.hole ab],.gone,.bj 10,.arr ab],bJ (.exit 0) [(6,ar 2 0),(10,ar 3 0)] [.box [.hole (az 7),.arr 4,.hole bI,.hole ab],.gone,.box [.hole ab,.hole .bool,.hole ab,.hole .str,.hole ab,.ay,.ay,.ay],.box [.hole ab,.hole .bool,.hole ab,.hole .str,.hole ab,.ay,.arr 5,.ay],.arr ab,.arr (.nm 10)]] [] [(.via 10 6,.nm 10)]
def Bf:=aV 176 [ar 0 0,.row 7,aa .str] (.aY [.row 10,aa .bool]) [zw] [.box [.hole (az 7),.arr 1,.hole bI,.hole ab],.arr ab] [.box [.hole (az 7),.arr 2,.hole bI,.hole ab],.gone,.arr ab]
def PL:=aV 188 [aa ab] (aa (.int .u64))
def Qr:=aV 252 [aa (.int .u64)] (aa .bool)
def Qb:=aV 232 [aa (.int .u64),aa (.int .u64)] (aa ab)
def Qq:=aV 250 [aa ab] (aa .bool)
def P9:=aV 227 [aa ab,aa ab] (aa ab)
def Qs:=aV 253 [aa .str] (aa .bool)
def Qd:=aV 234 [aa .str,aa .str] (aa ab)
def NO:=bR 0 [(3,aa ab),(6,aa bI),(7,aa ab),(8,aa ab)] [] [eV 2 ab,bJ (.exit 0) [(3,aa ab)]]
def Qc:=aV 233 [aa bI] (aa ab) [NO]
def PS:=aV 204 [.row 10,.row 10] (aa ab)
def zx:=bR 0 [(0,ar 0 0),(4,ar 2 0),(6,ar 3 0),(8,aa jj),(10,ar 4 0),(11,aa ab)] [.box [.hole (az 7),.arr 5,.hole bI,.hole ab],.gone,.bj 7,.box [.hole ab,.hole .bool,.hole ab,.hole .str,.hole ab,.ay,.ay,.ay],.box [.hole ab,.hole .bool,.hole ab,.hole .str,.hole ab,.arr 6,.ay,.ay],.arr ab,.arr (.nm 10)] [bJ .ret [(6,ar 2 0),(7,aa .bool)] [.box [.hole (az 7),.arr 3,.hole bI,.hole ab],.gone,.bj 10,.arr ab],bJ (.exit 0) [(0,ar 0 0),(4,ar 2 0),(6,ar 3 0),(8,aa jj),(10,ar 4 0)] [.box [.hole (az 7),.arr 5,.hole bI,.hole ab],.gone,.bj 7,.box [.hole ab,.hole .bool,.hole ab,.hole .str,.hole ab,.ay,.ay,.ay],.box [.hole ab,.hole .bool,.hole ab,.hole .str,.hole ab,.arr 6,.ay,.ay],.arr ab,.arr (.nm 10)]] [] [(.via 10 5,.nm 10)]
def NP:=bR 1 [(0,ar 0 0),(4,ar 2 0),(6,ar 3 0),(8,aa jj),(10,ar 4 0),(14,aa ab)] [.box [.hole (az 7),.arr 5,.hole bI,.hole ab],.gone,.bj 7,.box [.hole ab,.hole .bool,.hole ab,.hole .str,.hole ab,.ay,.ay,.ay],.box [.hole ab,.hole .bool,.hole ab,.hole .str,.hole ab,.arr 6,.ay,.ay],.arr ab,.arr (.nm 10)] [bJ .ret [(6,ar 2 0),(7,aa .bool)] [.box [.hole (az 7),.arr 3,.arr 4,.hole ab],.gone,.bj 10,.arr ab,.arr ab],bJ (.exit 2) [(0,ar 0 0),(4,ar 2 0),(6,ar 3 0),(8,aa jj),(10,ar 4 0)] [.box [.hole (az 7),.arr 5,.hole bI,.hole ab],.gone,.bj 7,.box [.hole ab,.hole .bool,.hole ab,.hole .str,.hole ab,.ay,.ay,.ay],.box [.hole ab,.hole .bool,.hole ab,.hole .str,.hole ab,.arr 6,.ay,.ay],.arr ab,.arr (.nm 10)]]
def zy:=bR 2 [(0,ar 0 0),(4,ar 2 0),(6,ar 3 0),(8,aa jj),(10,ar 4 0),(15,aa ab)] [.box [.hole (az 7),.arr 5,.hole bI,.hole ab],.gone,.bj 7,.box [.hole ab,.hole .bool,.hole ab,.hole .str,.hole ab,.ay,.ay,.ay],.box [.hole ab,.hole .bool,.hole ab,.hole .str,.hole ab,.arr 6,.arr 7,.ay],.arr ab,.arr (.nm 10),.arr (.nm 10)] [bJ .ret [(6,ar 2 0),(7,aa .bool)] [.box [.hole (az 7),.arr 3,.hole bI,.hole ab],.gone,.bj 10,.arr ab],bJ (.exit 4) [(6,ar 2 0),(10,ar 3 0)] [.box [.hole (az 7),.arr 4,.hole bI,.hole ab],.gone,.box [.hole ab,.hole .bool,.hole ab,.hole .str,.hole ab,.ay,.ay,.ay],.box [.hole ab,.hole .bool,.hole ab,.hole .str,.hole ab,.arr 5,.arr 6,.ay],.arr ab,.arr (.nm 10),.arr (.nm 10)]] [] [(.via 10 6,.nm 10)]
def Bg:=aV 177 [ar 0 0,.row 7,aa .str] (.aY [.row 10,aa .bool]) [zx,NP,zy] [.box [.hole (az 7),.arr 1,.hole bI,.hole ab],.arr ab] [.box [.hole (az 7),.arr 2,.hole bI,.hole ab],.gone,.arr ab]
def NQ:=bR 0 [(4,.c (.arr 0)),(5,aa (.int .u64)),(6,aa .str)] [.arr (.nm 14)] [bJ .ret [(2,.c (.ay)),(3,aa ab)],bJ (.exit 0) [(4,.c (.arr 0))] [.arr (.nm 14)]] [] [(.slot 4,.nm 14)]
def P1:=aV 214 [aa .str] (.aY [aa (az 14),aa ab]) [NQ]
def P3:=aV 216 [.row 14,ar 0 0] (aa .bool) [] [.bj 9] [.bj 9]
def NR:=bR 0 [(0,aa (az 14)),(1,.c (.fn 216 [0])),(7,aa ab),(8,aa ab)] [.bj 9] [bJ .ret [(4,aa ab)] [.bj 9],bJ (.exit 0) [] [.bj 9]]
def P2:=aV 215 [aa (az 14),.c (.fn 216 [0])] (aa ab) [NR] [.bj 9] [.bj 9]
def zz:=bR 0 [(1,ar 0 0),(2,ar 1 0),(20,.c (.arr 2)),(21,aa ab),(22,aa ab)] [.box [.hole ab,.hole .bool,.hole ab,.hole .str,.hole ab,.arr 2,.arr 3,.arr 4],.box [.hole ab,.hole .bool,.hole ab,.hole .str,.hole ab,.ay,.ay,.ay],.arr (.nm 10),.arr (.nm 10),.arr (.nm 11)] [bJ (.exit 0) [(1,ar 0 0),(2,ar 1 0)] [.box [.hole ab,.hole .bool,.hole ab,.hole .str,.hole ab,.arr 2,.arr 3,.arr 4],.box [.hole ab,.hole .bool,.hole ab,.hole .str,.hole ab,.ay,.ay,.ay],.arr (.nm 10),.arr (.nm 10),.arr (.nm 11)]]
def zA:=bR 1 [(1,ar 0 0),(2,ar 1 0),(35,.c (.arr 2)),(36,aa ab),(37,aa ab)] [.box [.hole ab,.hole .bool,.hole ab,.hole .str,.hole ab,.arr 3,.arr 2,.arr 4],.box [.hole ab,.hole .bool,.hole ab,.hole .str,.hole ab,.ay,.ay,.ay],.arr (.nm 10),.arr (.nm 10),.arr (.nm 11)] [bJ (.exit 2) [(1,ar 0 0),(2,ar 1 0)] [.box [.hole ab,.hole .bool,.hole ab,.hole .str,.hole ab,.arr 2,.arr 3,.arr 4],.box [.hole ab,.hole .bool,.hole ab,.hole .str,.hole ab,.ay,.ay,.ay],.arr (.nm 10),.arr (.nm 10),.arr (.nm 11)]]
def uz:=aV 217 [.row 10] (.row 10) [zz,zA]
def zB:=bR 0 [(0,ar 0 0),(4,ar 2 0),(6,ar 3 0),(8,aa (az 14)),(10,ar 4 0),(39,aa (az 9)),(40,aa ab),(41,aa ab)] [.box [.hole (az 7),.arr 5,.hole bI,.hole ab],.gone,.bj 7,.box [.hole ab,.hole .bool,.hole ab,.hole .str,.hole ab,.ay,.ay,.ay],.box [.hole ab,.hole .bool,.hole ab,.hole .str,.hole ab,.ay,.arr 6,.ay],.arr ab,.arr (.nm 10)] [bJ .ret [(6,ar 2 0),(7,aa .bool)] [.box [.hole (az 7),.arr 3,.hole bI,.hole ab],.gone,.bj 10,.arr ab],bJ (.exit 0) [(0,ar 0 0),(4,ar 2 0),(6,ar 3 0),(8,aa (az 14)),(10,ar 4 0)] [.box [.hole (az 7),.arr 5,.hole bI,.hole ab],.gone,.bj 7,.box [.hole ab,.hole .bool,.hole ab,.hole .str,.hole ab,.ay,.ay,.ay],.box [.hole ab,.hole .bool,.hole ab,.hole .str,.hole ab,.ay,.arr 6,.ay],.arr ab,.arr (.nm 10)]] [] [(.via 10 6,.nm 10)]
def NS:=bR 1 [(0,ar 0 0),(4,ar 2 0),(6,ar 3 0),(10,ar 4 0),(117,aa (az 14)),(118,aa ab),(119,aa ab)] [.box [.hole (az 7),.arr 5,.hole bI,.hole ab],.gone,.bj 7,.box [.hole ab,.hole .bool,.hole ab,.hole .str,.hole ab,.ay,.ay,.ay],.box [.hole ab,.hole .bool,.hole ab,.hole .str,.hole ab,.ay,.arr 6,.arr 7],.arr ab,.arr (.nm 10),.arr (.nm 11)] [bJ .ret [(6,ar 2 0),(7,aa .bool)] [.box [.hole (az 7),.arr 3,.arr 4,.hole ab],.gone,.bj 10,.arr ab,.arr ab],bJ (.exit 3) [(6,ar 2 0),(10,ar 3 0)] [.box [.hole (az 7),.arr 4,.hole bI,.hole ab],.gone,.box [.hole ab,.hole .bool,.hole ab,.hole .str,.hole ab,.ay,.ay,.ay],.box [.hole ab,.hole .bool,.hole ab,.hole .str,.hole ab,.ay,.arr 5,.arr 6],.arr ab,.arr (.nm 10),.arr (.nm 11)]] [] [(.via 10 7,.nm 11)]
def Bh:=aV 178 [ar 0 0,.row 7,aa .str] (.aY [.row 10,aa .bool]) [zB,NS] [.box [.hole (az 7),.arr 1,.hole bI,.hole ab],.arr ab] [.box [.hole (az 7),.arr 2,.hole bI,.hole ab],.gone,.arr ab]
def w5:=aV 140 [ar 0 0,aa ab,aa .str] (.aY [.row 10,aa .bool]) [] [.box [.hole (az 7),.arr 1,.hole bI,.hole ab],.arr ab] [.box [.hole (az 7),.arr 2,.hole bI,.hole ab],.gone,.arr ab]
def Po:=aV 102 [.row 12,aa ab,aa .str] (.aY [.row 10,.row 15,aa ab])
def Bs:=aV 63 [.row 12,aa ab,aa .str] (.aY [.row 10,aa ab])
def Pq:=aV 129 [.row 12,aa ab] (aa ab)
def Qa:=aV 230 [.row 10] (.row 10)
def PQ:=aV 201 [.row 10] (aa .bool)
def PR:=aV 202 [aa ab] (aa .bool)
def Bo:=aV 231 [.row 10,ar 0 0,ar 1 0,ar 2 0] (aa .bool) [] [cc (az 7),cc ab,cc .bool] [cc (az 7),cc ab,cc .bool]
def za:=bR 0 [(0,aa (az 10)),(1,.c (.fn 231 [0,1,2])),(7,aa ab),(8,aa ab)] [cc (az 7),cc ab,cc .bool] [bJ .ret [(4,aa ab)] [cc (az 7),cc ab,cc .bool],bJ (.exit 0) [] [cc (az 7),cc ab,cc .bool]]
def D2:=aV 207 [aa (az 10),.c (.fn 231 [0,1,2])] (aa ab) [za] [cc (az 7),cc ab,cc .bool] [cc (az 7),cc ab,cc .bool]
def D3:=aV 166 [aa (az 10),.c (.fn 231 [0,1,2])] (aa .bool) [] [cc (az 7),cc ab,cc .bool] [cc (az 7),cc ab,cc .bool]
def Bn:=aV 203 [.row 12,aa ab,aa (az 10),aa .bool] (aa .bool)
def Nr:=bR 0 [(3,aa .bool),(4,ar 0 0),(6,ar 1 0),(9,ar 2 0),(111,aa (az 11)),(112,aa ab),(113,aa ab)] [cc (az 7),.bj 10,.box [.hole ab,.hole .str,.hole ab,.hole ab,.hole ab,.hole (az 8),.hole (az 9),.hole ab,.hole ab,.hole .bool]] [eV 8 .bool,bJ (.exit 1) [(3,aa .bool),(4,ar 0 0),(6,ar 1 0),(9,ar 2 0)] [cc (az 7),.box [.hole ab,.hole .bool,.hole ab,.hole .str,.hole ab,.hole (az 10),.hole (az 10),.hole (az 11)],.box [.hole ab,.hole .str,.hole ab,.hole ab,.hole ab,.hole (az 8),.hole (az 9),.hole ab,.hole ab,.hole .bool]]]
def zC:=bR 1 [(3,aa .bool),(4,ar 0 0),(6,ar 1 0),(150,aa (az 9)),(151,aa ab),(152,aa ab)] [cc (az 7),.box [.hole ab,.hole .bool,.hole ab,.hole .str,.hole ab,.hole (az 10),.hole (az 10),.hole (az 11)]] [eV 8 .bool,gx 3]
def Ns:=bR 2 [(3,aa .bool),(4,ar 0 0),(6,ar 1 0),(9,ar 2 0),(20,aa ab)] [cc (az 7),.bj 10,.box [.hole ab,.hole .str,.hole ab,.hole ab,.hole ab,.hole (az 8),.hole (az 9),.hole ab,.hole ab,.hole .bool]] [eV 8 .bool,bJ (.exit 5) [(3,aa .bool),(4,ar 0 0),(6,ar 1 0),(9,ar 2 0)] [cc (az 7),.bj 10,.box [.hole ab,.hole .str,.hole ab,.hole ab,.hole ab,.hole (az 8),.hole (az 9),.hole ab,.hole ab,.hole .bool]]]
def sa:=aV 164 [.row 12,aa ab,.row 10,aa .bool] (aa .bool) [Nr,zC,Ns]
def Pr:=aV 130 [.row 12,aa ab,.row 10] (aa .bool)
def QO:=aV 92 [.row 12,aa ab,.row 10] (aa ab)
def Ps:=aV 131 [.row 7,.row 10] (aa .bool)
def PA:=aV 167 [.row 10,ar 0 0,ar 1 0] (aa .bool) [] [cc (az 7),.bj 7] [cc (az 7),.bj 7]
def Mc:=bR 0 [(0,aa (az 10)),(1,.c (.fn 167 [0,1])),(7,aa ab),(8,aa ab)] [cc (az 7),.bj 7] [bJ .ret [(4,aa ab)] [cc (az 7),.bj 7],bJ (.exit 0) [] [cc (az 7),.bj 7]]
def Nt:=aV 207 [aa (az 10),.c (.fn 167 [0,1])] (aa ab) [Mc] [cc (az 7),.bj 7] [cc (az 7),.bj 7]
def Nu:=aV 166 [aa (az 10),.c (.fn 167 [0,1])] (aa .bool) [] [cc (az 7),.bj 7] [cc (az 7),.bj 7]
def Pt:=aV 132 [.row 12,.row 7,.row 10] (aa .bool)
def Nv:=bR 0 [(2,ar 0 0),(3,ar 1 0),(5,.c (.arr 2)),(11,aa ab),(12,aa ab)] [.bj 7,.bj 10,.arr (.nm 16)] [bJ (.exit 0) [(5,.c (.arr 0))] [.arr (.nm 16)]] [] [(.slot 5,.nm 16)]
def Pu:=aV 133 [.row 7,.row 10] (aa (az 16)) [Nv]
def zD:=bR 0 [(3,ar 0 0),(5,ar 1 0),(6,ar 2 0),(9,ar 3 0),(49,aa (az 16)),(50,aa ab),(51,aa ab)] [cc (az 7),.bj 10,.box [.hole ab,.hole .bool,.hole ab,.hole .str,.hole ab,.ay,.ay,.ay],.box [.hole ab,.hole .bool,.hole ab,.hole .str,.hole ab,.arr 4,.arr 5,.ay],.arr (.nm 10),.arr (.nm 10)] [bJ .ret [(6,ar 0 0),(7,aa .bool)] [.box [.hole ab,.hole .bool,.hole ab,.hole .str,.hole ab,.ay,.ay,.ay]],bJ (.exit 0) [(6,ar 0 0),(9,ar 1 0)] [.box [.hole ab,.hole .bool,.hole ab,.hole .str,.hole ab,.ay,.ay,.ay],.box [.hole ab,.hole .bool,.hole ab,.hole .str,.hole ab,.arr 2,.arr 3,.ay],.arr (.nm 10),.arr (.nm 10)]] [] [(.via 9 6,.nm 10)]
def w6:=aV 141 [.row 12,aa ab,.row 10] (.aY [.row 10,aa .bool]) [zD]
def Ba:=aV 106 [.row 12,aa ab,.row 10] (.aY [.row 10,aa ab])
def PG:=aV 180 [.row 12,aa ab] (aa ab)
def PH:=aV 181 [.row 12,aa ab,.row 10] (aa .bool)
def Px:=aV 142 [.row 12,aa ab,.row 10,.row 12,aa ab] (aa ab)
def PI:=aV 182 [ar 0 0] (.aY [.row 10,aa .bool]) [] [.box [.hole (az 7),.hole (az 7),.arr 1,.hole bI],.arr ab] [.box [.hole (az 7),.hole (az 7),.arr 2,.arr 3],.gone,.arr ab,.arr ab]
def P4:=aV 218 [ar 0 0,aa ab] (.aY [.row 10,aa .bool]) [] [.box [.hole (az 7),.hole (az 7),.arr 1,.hole bI],.arr ab] [.box [.hole (az 7),.hole (az 7),.arr 2,.arr 3],.gone,.arr ab,.arr ab]
def zE:=bR 0 [(1,ar 0 0),(2,ar 1 0),(20,.c (.arr 2)),(21,aa ab),(22,aa ab)] [.box [.hole ab,.hole .bool,.hole ab,.hole .str,.hole ab,.arr 2,.arr 3,.arr 4],.box [.hole ab,.hole .bool,.hole ab,.hole .str,.hole ab,.ay,.ay,.ay],.arr (.nm 10),.arr (.nm 10),.arr (.nm 11)] [bJ (.exit 0) [(1,ar 0 0),(2,ar 1 0)] [.box [.hole ab,.hole .bool,.hole ab,.hole .str,.hole ab,.arr 2,.arr 3,.arr 4],.box [.hole ab,.hole .bool,.hole ab,.hole .str,.hole ab,.ay,.ay,.ay],.arr (.nm 10),.arr (.nm 10),.arr (.nm 11)]]
def zF:=bR 1 [(1,ar 0 0),(2,ar 1 0),(35,.c (.arr 2)),(36,aa ab),(37,aa ab)] [.box [.hole ab,.hole .bool,.hole ab,.hole .str,.hole ab,.arr 3,.arr 2,.arr 4],.box [.hole ab,.hole .bool,.hole ab,.hole .str,.hole ab,.ay,.ay,.ay],.arr (.nm 10),.arr (.nm 10),.arr (.nm 11)] [bJ (.exit 2) [(1,ar 0 0),(2,ar 1 0)] [.box [.hole ab,.hole .bool,.hole ab,.hole .str,.hole ab,.arr 2,.arr 3,.arr 4],.box [.hole ab,.hole .bool,.hole ab,.hole .str,.hole ab,.ay,.ay,.ay],.arr (.nm 10),.arr (.nm 10),.arr (.nm 11)]]
def uA:=aV 219 [.row 10] (.row 10) [zE,zF]
def uB:=aV 220 [ar 0 0,aa ab,aa ab,.row 10,aa ab] (.aY [.row 10,aa .bool]) [] [.box [.hole (az 7),.hole (az 7),.arr 1,.hole bI],.arr ab] [.box [.hole (az 7),.hole (az 7),.arr 2,.hole bI],.gone,.arr ab]
def yN:=bR 0 [(1,aa (az 10)),(2,.c (.fn 64 [])),(15,aa (az 10)),(16,aa ab),(17,aa ab)] [] [eV 6 .bool,gx 0]
def D4:=aV 104 [aa (az 10),aa (az 10),.c (.fn 64 [])] (aa .bool) [yN]
def xh:=aV 64 [.row 10,.row 10] (aa .bool)
def P6:=aV 221 [.row 9,.row 10] (aa .bool)
def Nw:=bR 0 [(0,aa (.int .u64)),(3,ar 0 0),(4,aa ab)] [.arr (.int .u8)] [bJ (.exit 0) [(0,aa (.int .u64)),(3,ar 0 0),(4,aa ab)] [.arr (.int .u8)]]
def P':=aV 228 [aa (.int .u64)] (aa .str) [Nw]
def PN:=aV 192 [aa .str] (aa .str)
def P8:=aV 224 [aa ab,aa .bool,aa .str] (aa .str)
def Qo:=aV 246 [aa ab,aa .bool,aa .str] (.aY [aa .str,aa ab])
def Qp:=aV 247 [aa .str] (aa .str)
def PJ:=aV 186 [.row 12,aa ab] (aa ab)
def Py:=aV 144 [.row 12,aa ab,.row 10] (aa ab)
def Nx:=bR 0 [(0,aa (.int .u64)),(3,ar 0 0),(4,aa ab)] [.arr (.int .u8)] [bJ (.exit 0) [(3,ar 0 0),(4,aa ab)] [.arr (.int .u8)]]
def PK:=aV 187 [aa (.int .u64)] (aa .str) [Nx]
def P7:=aV 223 [.row 9,.row 10] (aa .bool)
def PM:=aV 191 [ar 0 0,aa .str] (.aY [aa ab,.c (.dead)]) [] [.b8 252 ((.cG 1)),.buf 5] [.b8 252 ((.cG 2)),.gone,.buf 5]
def PO:=aV 193 [ar 0 0] (aa .str) [] [.b8 252 ((.cG 1)),.buf 5] [.b8 252 ((.cG 1)),.gone]
def zG:=bR 0 [(0,ar 0 0),(3,aa ab),(6,ar 1 0),(9,.c (.arr 2)),(18,aa (az 9)),(19,aa ab),(20,aa ab)] [.box [.hole (az 7),.hole ab],.bj 10,.arr (.nm 17)] [bJ (.exit 0) [(6,ar 1 0),(9,.c (.arr 2))] [.box [.hole (az 7),.hole ab],.bj 10,.arr (.nm 17)]] [] [(.slot 9,.nm 17)]
def Ny:=bR 1 [(9,.c (.arr 1)),(57,aa (az 11)),(58,aa ab),(59,aa ab)] [.box [.hole (az 7),.hole ab],.arr (.nm 17)] [bJ (.exit 2) [(9,.c (.arr 1))] [.box [.hole (az 7),.hole ab],.arr (.nm 17)]]
def Nz:=bR 2 [(14,ar 1 0),(77,.c (.arr 2)),(78,aa ab),(79,aa ab)] [.box [.hole (az 7),.hole ab],.b8 252 ((.cG 3)),.arr (.nm 17),.buf 5] [bJ (.exit 4) [(14,ar 1 0)] [.box [.hole (az 7),.hole ab],.b8 252 ((.cG 2)),.buf 5]]
def Bl:=aV 189 [ar 0 0,.row 7,.row 10,aa ab] (aa .str) [zG,Ny,Nz] [.box [.hole (az 7),.hole ab]] [.box [.hole (az 7),.hole ab]]
def Bm:=aV 190 [ar 0 0,.row 7,.row 10,aa ab] (aa .str) [] [.box [.hole (az 7),.hole ab]] [.box [.hole (az 7),.hole ab]]
def zH:=bR 0 [(0,ar 0 0),(3,aa ab),(6,ar 1 0),(9,ar 2 0),(10,ar 3 0),(84,aa (az 10)),(85,aa ab),(86,aa ab)] [.box [.hole (az 7),.hole ab],.bj 10,.bj 7,.b8 252 ((.cG 4)),.buf 5] [bJ (.exit 1) [(10,ar 1 0)] [.box [.hole (az 7),.hole ab],.b8 252 ((.cG 2)),.buf 5]]
def qj:=aV 145 [ar 0 0,aa ab,.row 10,aa ab] (aa .str) [zH] [.box [.hole (az 7),.hole ab]] [.box [.hole (az 7),.hole ab]]
def Bc:=aV 108 [.row 12,aa ab,.row 10] (.aY [aa .str,aa ab])
def zI:=bR 0 [(3,ar 0 0),(5,ar 1 0),(8,aa .str),(36,aa (az 9)),(37,aa ab),(38,aa ab)] [cc (az 7),.bj 10] [bJ (.exit 1) [(8,aa .str)]]
def zJ:=bR 1 [(3,ar 0 0),(7,ar 1 0),(8,aa .str),(101,aa (az 10)),(102,aa ab),(103,aa ab)] [cc (az 7),.bj 7] [bJ (.exit 3) [(8,aa .str)]]
def zK:=bR 2 [(3,ar 0 0),(5,ar 1 0),(7,ar 2 0),(8,aa .str),(118,aa (az 10)),(119,aa ab),(120,aa ab)] [cc (az 7),.bj 10,.bj 7] [bJ (.exit 5) [(8,aa .str)]]
def qk:=aV 222 [.row 12,aa ab,.row 10] (aa .str) [zI,zJ,zK]
def zL:=bR 0 [(0,ar 0 0),(5,ar 2 0),(6,ar 3 0),(7,ar 4 0),(8,ar 5 0),(10,ar 6 0),(25,aa (az 9)),(26,aa ab),(27,aa ab)] [.box [.hole (az 7),.hole (az 7),.arr 7,.hole bI],.gone,.bj 7,.bj 10,.bj 7,.box [.hole ab,.hole .bool,.hole ab,.hole .str,.hole ab,.ay,.ay,.ay],.box [.hole ab,.hole .bool,.hole ab,.hole .str,.hole ab,.ay,.arr 8,.ay],.arr ab,.arr (.nm 10)] [bJ .ret [(8,ar 2 0),(9,aa .bool)] [.box [.hole (az 7),.hole (az 7),.arr 3,.hole bI],.gone,.bj 10,.arr ab],bJ (.exit 0) [(0,ar 0 0),(5,ar 2 0),(6,ar 3 0),(7,ar 4 0),(8,ar 5 0),(10,ar 6 0)] [.box [.hole (az 7),.hole (az 7),.arr 7,.hole bI],.gone,.bj 7,.bj 10,.bj 7,.box [.hole ab,.hole .bool,.hole ab,.hole .str,.hole ab,.ay,.ay,.ay],.box [.hole ab,.hole .bool,.hole ab,.hole .str,.hole ab,.ay,.arr 8,.ay],.arr ab,.arr (.nm 10)]] [] [(.via 10 6,.nm 10)]
def NA:=bR 1 [(0,ar 0 0),(6,ar 2 0),(7,ar 3 0),(8,ar 4 0),(10,ar 5 0),(115,aa (az 9)),(116,aa ab),(117,aa ab)] [.box [.hole (az 7),.hole (az 7),.arr 6,.hole bI],.gone,.bj 10,.bj 7,.box [.hole ab,.hole .bool,.hole ab,.hole .str,.hole ab,.ay,.ay,.ay],.box [.hole ab,.hole .bool,.hole ab,.hole .str,.hole ab,.ay,.arr 7,.arr 8],.arr ab,.arr (.nm 10),.arr (.nm 11)] [bJ .ret [(8,ar 2 0),(9,aa .bool)] [.box [.hole (az 7),.hole (az 7),.arr 3,.arr 4],.gone,.bj 10,.arr ab,.arr ab],bJ (.exit 2) [(8,ar 2 0),(10,ar 3 0)] [.box [.hole (az 7),.hole (az 7),.arr 4,.hole bI],.gone,.box [.hole ab,.hole .bool,.hole ab,.hole .str,.hole ab,.ay,.ay,.ay],.box [.hole ab,.hole .bool,.hole ab,.hole .str,.hole ab,.ay,.arr 5,.arr 6],.arr ab,.arr (.nm 10),.arr (.nm 11)]] [] [(.via 10 7,.nm 11)]
def Bi:=aV 183 [ar 0 0,.row 7,.row 10,.row 7] (.aY [.row 10,aa .bool]) [zL,NA] [.box [.hole (az 7),.hole (az 7),.arr 1,.hole bI],.arr ab] [.box [.hole (az 7),.hole (az 7),.arr 2,.hole bI],.gone,.arr ab]
def Bj:=aV 184 [ar 0 0,.row 7,.row 10,.row 7] (.aY [.row 10,aa .bool]) [] [.box [.hole (az 7),.hole (az 7),.arr 1,.hole bI],.arr ab] [.box [.hole (az 7),.hole (az 7),.arr 2,.hole bI],.gone,.arr ab]
def zM:=bR 0 [(0,ar 0 0),(1,aa ab),(3,aa ab),(10,.c (.arr 2)),(15,aa (az 10)),(16,aa ab),(17,aa ab)] [.box [.hole (az 7),.hole (az 7),.arr 3,.hole bI],.gone,.arr (.nm 10),.arr ab] [bJ .ret [(8,.c (.ay)),(9,aa .bool)] [.box [.hole (az 7),.hole (az 7),.arr 2,.hole bI],.gone,.arr ab],bJ (.exit 0) [(10,.c (.arr 2))] [.box [.hole (az 7),.hole (az 7),.arr 3,.hole bI],.gone,.arr (.nm 10),.arr ab]] [] [(.slot 10,.nm 10)]
def Bk:=aV 185 [ar 0 0,aa ab,aa (az 10),aa ab] (.aY [aa (az 10),aa .bool]) [zM] [.box [.hole (az 7),.hole (az 7),.arr 1,.hole bI],.arr ab] [.box [.hole (az 7),.hole (az 7),.arr 2,.hole bI],.gone,.arr ab]
def w7:=aV 143 [ar 0 0,aa ab,.row 10,aa ab] (.aY [.row 10,aa .bool]) [] [.box [.hole (az 7),.hole (az 7),.arr 1,.hole bI],.arr ab] [.box [.hole (az 7),.hole (az 7),.arr 2,.hole bI],.gone,.arr ab]
def Bb:=aV 107 [.row 12,aa ab,.row 10,.row 12,aa ab] (.aY [.row 10,aa ab])
def EO:=aV 66 [.row 13,.row 13,aa .str] (.aY [.row 18,aa ab])
def EJ:=aV 42 [.row 13,.row 13,aa .str] (.aY [.row 18,aa ab])
def oK:=aV 12 [.row 13,.row 13,aa .str] (.aY [aa .str,aa ab])
def aev:=aV 136 [.row 11,ar 0 0] (aa .bool) [] [.bj 9] [.bj 9]
def ac1:=bR 0 [(0,aa (az 11)),(1,.c (.fn 136 [0])),(7,aa ab),(8,aa ab)] [.bj 9] [bJ .ret [(4,aa ab)] [.bj 9],bJ (.exit 0) [] [.bj 9]]
def aeR:=aV 168 [aa (az 11),.c (.fn 136 [0])] (aa ab) [ac1] [.bj 9] [.bj 9]
def aeu:=aV 135 [aa (az 11),.c (.fn 136 [0])] (aa .bool) [] [.bj 9] [.bj 9]
def afH:=aV 99 [aa bI,aa ab] (aa bI)
def afG:=bR 0 [(0,ar 0 0),(5,aa bI),(7,ar 2 0),(8,ar 3 0),(10,ar 4 0),(18,aa (az 9)),(19,aa ab),(20,aa ab)] [.box [.hole (az 7),.hole (az 7),.arr 5],.gone,.bj 7,.bj 10,.bj 10,.arr bI] [bJ (.exit 0) [] [.box [.hole (az 7),.hole (az 7),.arr 2],.gone,.arr bI]]
def afF:=aV 97 [ar 0 0,.row 7,.row 10,.row 7,.row 10,aa bI] (.aY []) [afG] [.box [.hole (az 7),.hole (az 7),.arr 1],.arr bI] [.box [.hole (az 7),.hole (az 7),.arr 2],.gone,.arr bI]
def afi:=bR 0 [(0,ar 0 0),(5,aa bI),(8,ar 2 0),(10,ar 3 0),(12,ar 4 0),(13,ar 5 0),(39,aa ab),(40,aa ab)] [.box [.hole (az 7),.hole (az 7),.arr 6],.gone,.bj 10,.bj 10,.bj 7,.bj 7,.arr bI] [bJ (.exit 1) [] [.box [.hole (az 7),.hole (az 7),.arr 2],.gone,.arr bI]]
def EL:=aV 60 [ar 0 0,aa ab,.row 10,aa ab,.row 10,aa bI] (.aY []) [afi] [.box [.hole (az 7),.hole (az 7),.arr 1],.arr bI] [.box [.hole (az 7),.hole (az 7),.arr 2],.gone,.arr bI]
def Qj:=aV 24 [.row 13,.row 13,aa .str] (.aY [aa (.slice bI),aa ab])
def ab4:=bR 0 [(3,aa bI),(4,ar 1 0),(6,ar 2 0),(10,.c (.arr 3)),(39,aa (az 16)),(40,aa ab),(41,aa ab)] [.gone,cc (az 7),.bj 10,.arr bI] [bJ (.exit 0) [(10,.c (.arr 1))] [.gone,.arr bI]] [] [(.slot 10,bI)]
def afD:=aV 93 [.row 12,aa ab,.row 10,.c (.arr 0)] (aa (.slice bI)) [ab4] [.arr ab] [.gone]
def ab5:=bR 0 [(3,aa bI),(4,ar 0 0),(6,ar 1 0),(10,.c (.arr 2)),(39,aa (az 16)),(40,aa ab),(41,aa ab)] [cc (az 7),.bj 10,.arr bI] [bJ (.exit 0) [(10,.c (.arr 0))] [.arr bI]] [] [(.slot 10,bI)]
def afE:=aV 93 [.row 12,aa ab,.row 10,aa bI] (aa (.slice bI)) [ab5]
def EK:=aV 58 [.row 12,aa ab,.row 10] (.aY [aa (.slice bI),aa ab])
def P5:=aV 22 [.row 13,.row 13,aa .str] (.aY [aa (.slice bI),aa ab])
def QF:=bR 0 [(0,aa bI),(1,aa bI),(5,aa ab)] [] [eV 4 .bool,gx 0]
def QE:=aV 62 [aa bI,aa bI] (aa .bool) [QF]
def Qv:=bR 0 [(0,aa (.slice bI)),(1,aa (.slice bI)),(5,aa ab)] [] [eV 4 .bool,gx 0]
def Qu:=aV 26 [aa (.slice bI),aa (.slice bI)] (aa .bool) [Qv]
def ED:=aV 11 [] (aa .bool)
def aeG:=aV 154 [.row 7] (.row 7)
def aeV:=aV 195 [.row 9,.row 9] (aa .bool)
def OI:=bR 0 [(2,ar 0 0),(3,ar 1 0),(5,aa ab)] [.bj 7,.bj 7] [eV 4 .bool,bJ (.exit 0) [(2,ar 0 0),(3,ar 1 0)] [.bj 7,.bj 7]]
def OJ:=bR 1 [(2,ar 0 0),(3,ar 1 0),(6,aa ab)] [.bj 7,.bj 7] [eV 4 .bool,gx 2]
def aeF:=aV 153 [.row 7,.row 7] (aa .bool) [OI,OJ]
def aeW:=aV 196 [aa (.int .u8)] (aa .bool)
def aeX:=aV 197 [aa (.int .u8)] (aa .bool)
def OK:=bR 0 [(0,aa .str),(3,aa ab)] [] [eV 2 .bool,gx 0]
def aeH:=aV 155 [aa .str] (aa .bool) [OK]
def aeY:=aV 198 [aa ab,aa ab] (aa .bool)
def Md:=bR 0 [(0,aa (az 8)),(4,aa ab),(5,aa ab)] [] [eV 2 .bool,bJ (.exit 2) [(0,aa (az 8)),(4,aa ab)]]
def OL:=bR 0 [(0,aa (az 8)),(3,aa ab),(4,aa ab)] [] [eV 2 .bool,bJ (.exit 0) [(0,aa (az 8))]] [Md]
def aeI:=aV 156 [aa (az 8)] (aa .bool) [OL]
def Me:=bR 0 [(0,aa (az 9)),(1,aa .bool),(6,aa ab),(7,ar 0 0),(8,aa ab)] [.bj 9] [eV 4 .bool,bJ (.exit 2) [(0,aa (az 9)),(1,aa .bool),(6,aa ab),(7,ar 0 0)] [.bj 9]]
def OM:=bR 0 [(0,aa (az 9)),(1,aa .bool),(5,aa ab),(6,aa ab)] [] [eV 4 .bool,bJ (.exit 0) [(0,aa (az 9)),(1,aa .bool)]] [Me]
def aeJ:=aV 157 [aa (az 9),aa .bool] (aa .bool) [OM]
def aej:=aV 113 [.row 7] (aa .bool)
def ON:=bR 0 [(1,ar 0 0),(3,.c (.arr 1)),(4,aa ab)] [.bj 7,.arr ab] [bJ (.exit 0) [(1,ar 0 0),(3,.c (.arr 1))] [.bj 7,.arr ab]] [] [(.slot 3,ab)]
def aek:=aV 114 [.row 7] (aa bI) [ON]
def Nq:=bR 0 [(1,ar 0 0),(3,aa ab),(4,ar 1 0),(5,aa ab)] [cc (az 7),.box [.hole ab,.hole .str,.hole ab,.hole ab,.hole ab,.hole (az 8),.hole (az 9),.hole ab,.hole ab,.hole .bool]] [eV 2 ab,bJ (.exit 2) [(1,ar 0 0),(3,aa ab),(4,ar 1 0)] [cc (az 7),.box [.hole ab,.hole .str,.hole ab,.hole ab,.hole ab,.hole (az 8),.hole (az 9),.hole ab,.hole ab,.hole .bool]]]
def MF:=bR 1 [(1,ar 0 0),(3,aa ab),(4,ar 1 0),(6,aa bI),(7,aa ab)] [cc (az 7),.box [.hole ab,.hole .str,.hole ab,.hole ab,.hole ab,.hole (az 8),.hole (az 9),.hole ab,.hole ab,.hole .bool]] [eV 2 ab,bJ (.exit 4) [(1,ar 0 0),(3,aa ab),(4,ar 1 0)] [cc (az 7),.box [.hole ab,.hole .str,.hole ab,.hole ab,.hole ab,.hole (az 8),.hole (az 9),.hole ab,.hole ab,.hole .bool]]]
def QK:=bR 0 [(1,ar 0 0),(3,aa ab)] [cc (az 7)] [eV 2 ab,gx 0] [Nq,MF]
def afu:=aV 79 [.row 12] (aa ab) [QK]
def afr:=aV 75 [.row 12,aa ab] (aa ab)
def afj:=aV 67 [.row 13,.row 13] (aa ab)
def afA:=aV 87 [aa bI,aa ab] (.row 19)
def OO:=bR 0 [(0,aa .str),(4,aa (.int .u64)),(5,aa ab)] [] [bJ (.exit 0) [(4,aa (.int .u64))]]
def aeK:=aV 158 [aa .str] (.aY [aa (.int .u64),aa ab]) [OO]
def aem:=aV 116 [aa .str] (.aY [aa (.int .u64),aa .bool])
def aen:=aV 117 [aa (.int .u64)] (aa ab)
def aeo:=aV 118 [aa bI,aa ab] (aa bI)
def OP:=bR 0 [(0,aa .str),(5,aa (.int .u64)),(6,aa (.int .u64)),(7,aa ab)] [] [bJ .ret [(2,aa (.int .u64)),(3,aa ab),(4,aa ab)],gx 0]
def aeZ:=aV 199 [aa .str] (.aY [aa (.int .u64),aa ab,aa ab]) [OP]
def aeL:=aV 159 [aa .str] (.aY [aa ab,aa .str,aa ab])
def aep:=aV 123 [.row 10] (.row 19)
def EE:=aV 119 [.row 12,.row 7,aa .str,aa ab,aa bI] (.row 19)
def ae1:=aV 200 [aa .str] (.aY [aa .str,aa .str,aa .bool])
def OQ:=bR 0 [(0,aa .str),(4,.c (.arr 0))] [.arr .str] [bJ .ret [(2,.c (.ay)),(3,aa ab)],bJ (.exit 0) [(4,.c (.arr 0))] [.arr .str]] [] [(.slot 4,.str)]
def aeN:=aV 160 [aa .str] (.aY [aa jj,aa ab]) [OQ]
def zN:=bR 0 [(3,aa ab),(4,aa bI),(5,ar 0 0),(6,ar 1 0),(10,ar 2 0),(11,aa jj),(13,ar 3 0),(14,aa ab)] [cc (az 7),.bj 7,.box [.hole ab,.hole .bool,.hole ab,.hole .str,.hole ab,.ay,.ay,.ay,.ay,.hole ab,.hole .bool],.box [.hole ab,.hole .bool,.hole ab,.hole .str,.hole ab,.ay,.arr 4,.ay],.arr (.nm 10)] [bJ .ret [(10,ar 0 0)] [.bj 19],bJ (.exit 0) [(10,ar 0 0),(13,ar 1 0)] [.box [.hole ab,.hole .bool,.hole ab,.hole .str,.hole ab,.ay,.ay,.ay,.ay,.hole ab,.hole .bool],.box [.hole ab,.hole .bool,.hole ab,.hole .str,.hole ab,.ay,.arr 2,.ay],.arr (.nm 10)]] [] [(.via 13 6,.nm 10)]
def EF:=aV 120 [.row 12,.row 7,aa .str,aa ab,aa bI] (.row 19) [zN]
def zm:=bR 0 [(3,aa ab),(4,aa bI),(5,ar 0 0),(6,ar 1 0),(10,ar 2 0),(11,aa jj),(13,ar 3 0),(14,aa ab)] [cc (az 7),.bj 7,.box [.hole ab,.hole .bool,.hole ab,.hole .str,.hole ab,.ay,.ay,.ay,.ay,.hole ab,.hole .bool],.box [.hole ab,.hole .bool,.hole ab,.hole .str,.hole ab,.arr 4,.ay,.ay],.arr (.nm 10)] [bJ .ret [(10,ar 0 0)] [.bj 19],bJ (.exit 0) [(3,aa ab),(4,aa bI),(5,ar 0 0),(6,ar 1 0),(10,ar 2 0),(11,aa jj),(13,ar 3 0)] [cc (az 7),.bj 7,.box [.hole ab,.hole .bool,.hole ab,.hole .str,.hole ab,.ay,.ay,.ay,.ay,.hole ab,.hole .bool],.box [.hole ab,.hole .bool,.hole ab,.hole .str,.hole ab,.arr 4,.ay,.ay],.arr (.nm 10)]] [] [(.via 13 5,.nm 10)]
def OR:=bR 1 [(3,aa ab),(4,aa bI),(5,ar 0 0),(6,ar 1 0),(10,ar 2 0),(11,aa jj),(13,ar 3 0),(16,aa ab)] [cc (az 7),.bj 7,.box [.hole ab,.hole .bool,.hole ab,.hole .str,.hole ab,.ay,.ay,.ay,.ay,.hole ab,.hole .bool],.box [.hole ab,.hole .bool,.hole ab,.hole .str,.hole ab,.arr 4,.ay,.ay],.arr (.nm 10)] [bJ .ret [(10,ar 0 0)] [.bj 19],bJ (.exit 2) [(3,aa ab),(4,aa bI),(5,ar 0 0),(6,ar 1 0),(10,ar 2 0),(11,aa jj),(13,ar 3 0)] [cc (az 7),.bj 7,.box [.hole ab,.hole .bool,.hole ab,.hole .str,.hole ab,.ay,.ay,.ay,.ay,.hole ab,.hole .bool],.box [.hole ab,.hole .bool,.hole ab,.hole .str,.hole ab,.arr 4,.ay,.ay],.arr (.nm 10)]]
def zn:=bR 2 [(3,aa ab),(4,aa bI),(5,ar 0 0),(6,ar 1 0),(10,ar 2 0),(11,aa jj),(13,ar 3 0),(17,aa ab)] [cc (az 7),.bj 7,.box [.hole ab,.hole .bool,.hole ab,.hole .str,.hole ab,.ay,.ay,.ay,.ay,.hole ab,.hole .bool],.box [.hole ab,.hole .bool,.hole ab,.hole .str,.hole ab,.arr 4,.arr 5,.ay],.arr (.nm 10),.arr (.nm 10)] [bJ .ret [(10,ar 0 0)] [.bj 19],bJ (.exit 4) [(10,ar 0 0),(13,ar 1 0)] [.box [.hole ab,.hole .bool,.hole ab,.hole .str,.hole ab,.ay,.ay,.ay,.ay,.hole ab,.hole .bool],.box [.hole ab,.hole .bool,.hole ab,.hole .str,.hole ab,.arr 2,.arr 3,.ay],.arr (.nm 10),.arr (.nm 10)]] [] [(.via 13 6,.nm 10)]
def EG:=aV 121 [.row 12,.row 7,aa .str,aa ab,aa bI] (.row 19) [zm,OR,zn]
def OS:=bR 0 [(0,aa .str),(4,.c (.arr 0)),(5,aa ab)] [.arr (.nm 14)] [bJ .ret [(2,.c (.ay)),(3,aa ab)],bJ (.exit 0) [(4,.c (.arr 0))] [.arr (.nm 14)]] [] [(.slot 4,.nm 14)]
def aeO:=aV 161 [aa .str] (.aY [aa (az 14),aa ab]) [OS]
def OT:=bR 0 [(0,aa (az 14)),(1,aa ab),(5,aa ab)] [] [eV 4 ab,gx 0]
def aeP:=aV 162 [aa (az 14),aa ab] (aa ab) [OT]
def zo:=bR 0 [(3,aa ab),(4,aa bI),(5,ar 0 0),(6,ar 1 0),(10,ar 2 0),(11,aa (az 14)),(13,ar 3 0),(14,aa ab)] [cc (az 7),.bj 7,.box [.hole ab,.hole .bool,.hole ab,.hole .str,.hole ab,.ay,.ay,.ay,.ay,.hole ab,.hole .bool],.box [.hole ab,.hole .bool,.hole ab,.hole .str,.hole ab,.ay,.arr 4,.ay],.arr (.nm 10)] [bJ .ret [(10,ar 0 0)] [.bj 19],bJ (.exit 0) [(4,aa bI),(6,ar 0 0),(10,ar 1 0),(11,aa (az 14)),(13,ar 2 0)] [.bj 7,.box [.hole ab,.hole .bool,.hole ab,.hole .str,.hole ab,.ay,.ay,.ay,.ay,.hole ab,.hole .bool],.box [.hole ab,.hole .bool,.hole ab,.hole .str,.hole ab,.ay,.arr 3,.ay],.arr (.nm 10)]] [] [(.via 13 6,.nm 10)]
def OU:=bR 1 [(4,aa bI),(6,ar 0 0),(10,ar 1 0),(11,aa (az 14)),(13,ar 2 0),(18,aa ab)] [.bj 7,.box [.hole ab,.hole .bool,.hole ab,.hole .str,.hole ab,.ay,.ay,.ay,.ay,.hole ab,.hole .bool],.box [.hole ab,.hole .bool,.hole ab,.hole .str,.hole ab,.ay,.arr 3,.arr 4],.arr (.nm 10),.arr (.nm 11)] [bJ .ret [(10,ar 0 0)] [.bj 19],bJ (.exit 2) [(10,ar 0 0),(13,ar 1 0)] [.box [.hole ab,.hole .bool,.hole ab,.hole .str,.hole ab,.ay,.ay,.ay,.ay,.hole ab,.hole .bool],.box [.hole ab,.hole .bool,.hole ab,.hole .str,.hole ab,.ay,.arr 2,.arr 3],.arr (.nm 10),.arr (.nm 11)]] [] [(.via 13 7,.nm 11)]
def EH:=aV 122 [.row 12,.row 7,aa .str,aa ab,aa bI] (.row 19) [zo,OU]
def oM:=aV 88 [.row 12,aa ab,aa .str,aa ab,aa bI] (.row 19)
def afa:=aV 48 [.row 12,aa ab,aa .str] (.aY [.row 19,aa ab])
def aeS:=aV 17 [.row 12,aa ab,aa .str] (.aY [.row 10,aa ab])
def aeq:=aV 124 [.row 10] (aa .bool)
def aer:=aV 125 [aa ab,aa .bool] (aa .bool)
def OV:=bR 0 [(1,aa (az 11)),(2,ar 0 0),(5,aa ab)] [.bj 7] [eV 4 .bool,gx 0]
def aes:=aV 126 [.row 7,aa (az 11)] (aa .bool) [OV]
def Ag:=bR 0 [(1,aa ab),(2,aa (az 10)),(3,aa .bool),(4,ar 0 0),(9,aa ab)] [cc (az 7)] [eV 8 .bool,gx 0]
def EI:=aV 127 [.row 12,aa ab,aa (az 10),aa .bool] (aa .bool) [Ag]
def xn:=bR 0 [(3,aa .bool),(4,ar 0 0),(6,ar 1 0),(9,ar 2 0),(12,aa ab)] [cc (az 7),.bj 10,.box [.hole ab,.hole .str,.hole ab,.hole ab,.hole ab,.hole (az 8),.hole (az 9),.hole ab,.hole ab,.hole .bool]] [eV 8 .bool,gx 1]
def QN:=bR 1 [(6,ar 0 0),(15,aa ab)] [.bj 10] [eV 8 .bool,gx 3]
def uD:=aV 91 [.row 12,aa ab,.row 10,aa .bool] (aa .bool) [xn,QN]
def afv:=aV 80 [.row 12,aa ab,.row 10] (aa .bool)
def ae9:=aV 44 [.row 12,aa ab,.row 10] (aa ab)
def afC:=aV 90 [.row 10] (.agg [.hole ab,.hole .bool,.hole ab,.hole .str,.hole ab,.arr 0,.arr 1,.arr 2]) [] [] [.arr (.nm 10),.arr (.nm 10),.arr (.nm 11)]
def xg:=bR 0 [(1,ar 0 0),(2,ar 1 0),(3,aa ab)] [.box [.hole ab,.hole .bool,.hole ab,.hole .str,.hole ab,.arr 2,.arr 3,.hole (az 11)],.box [.hole ab,.hole .bool,.hole ab,.hole .str,.hole ab,.ay,.ay,.ay],.arr (.nm 10),.arr (.nm 10)] [bJ (.exit 0) [(1,ar 0 0),(2,ar 1 0)] [.box [.hole ab,.hole .bool,.hole ab,.hole .str,.hole ab,.arr 2,.arr 3,.hole (az 11)],.box [.hole ab,.hole .bool,.hole ab,.hole .str,.hole ab,.ay,.ay,.ay],.arr (.nm 10),.arr (.nm 10)]]
def Br:=aV 56 [.row 10] (.row 10) [xg]
def afh:=aV 57 [.row 12,aa ab,.row 10] (aa .bool)
def ae0:=aV 20 [.row 12,aa ab,.row 10] (.aY [.row 10,aa ab])
def ae':=aV 46 [.row 12,aa ab,.row 10,.row 12,aa ab] (aa ab)
def afw:=aV 81 [aa bI] (.row 20)
def afz:=aV 86 [.row 10] (.row 20)
def afy:=aV 85 [aa bI,aa ab] (aa bI)
def EP:=aV 83 [.row 12,.row 7,.row 10,.row 12,.row 7,aa bI] (.row 20)
def aeT:=aV 18 [.row 10,.row 10] (aa .bool)
def ael:=aV 115 [.row 9,.row 10] (aa .bool)
def xl:=bR 0 [(5,aa bI),(6,ar 0 0),(7,ar 1 0),(8,ar 2 0),(9,ar 3 0),(10,ar 4 0),(12,ar 5 0),(13,ar 6 0),(14,aa ab)] [cc (az 7),.bj 7,.bj 10,cc (az 7),.bj 7,.box [.hole ab,.hole .bool,.hole ab,.hole .str,.hole ab,.ay,.ay,.ay,.ay,.hole .bool],.box [.hole ab,.hole .bool,.hole ab,.hole .str,.hole ab,.ay,.arr 7,.ay],.arr (.nm 10)] [bJ .ret [(12,ar 0 0)] [.bj 20],bJ (.exit 0) [(5,aa bI),(6,ar 0 0),(7,ar 1 0),(8,ar 2 0),(10,ar 3 0),(12,ar 4 0),(13,ar 5 0)] [cc (az 7),.bj 7,.bj 10,.bj 7,.box [.hole ab,.hole .bool,.hole ab,.hole .str,.hole ab,.ay,.ay,.ay,.ay,.hole .bool],.box [.hole ab,.hole .bool,.hole ab,.hole .str,.hole ab,.ay,.arr 6,.ay],.arr (.nm 10)]] [] [(.via 13 6,.nm 10)]
def QM:=bR 1 [(5,aa bI),(6,ar 0 0),(7,ar 1 0),(8,ar 2 0),(10,ar 3 0),(12,ar 4 0),(13,ar 5 0),(20,aa ab)] [cc (az 7),.bj 7,.bj 10,.bj 7,.box [.hole ab,.hole .bool,.hole ab,.hole .str,.hole ab,.ay,.ay,.ay,.ay,.hole .bool],.box [.hole ab,.hole .bool,.hole ab,.hole .str,.hole ab,.ay,.arr 6,.arr 7],.arr (.nm 10),.arr (.nm 11)] [bJ .ret [(12,ar 0 0)] [.bj 20],bJ (.exit 2) [(12,ar 0 0),(13,ar 1 0)] [.box [.hole ab,.hole .bool,.hole ab,.hole .str,.hole ab,.ay,.ay,.ay,.ay,.hole .bool],.box [.hole ab,.hole .bool,.hole ab,.hole .str,.hole ab,.ay,.arr 2,.arr 3],.arr (.nm 10),.arr (.nm 11)]] [] [(.via 13 7,.nm 11)]
def ER:=aV 84 [.row 12,.row 7,.row 10,.row 12,.row 7,aa bI] (.row 20) [xl,QM]
def xe:=bR 0 [(5,aa bI),(6,ar 0 0),(8,ar 1 0),(9,ar 2 0),(12,ar 3 0),(13,ar 4 0),(14,ar 5 0),(17,ar 6 0),(18,aa ab)] [cc (az 7),.bj 10,cc (az 7),.box [.hole ab,.hole .bool,.hole ab,.hole .str,.hole ab,.ay,.ay,.ay,.ay,.hole .bool],.bj 7,.bj 7,.box [.hole ab,.hole .bool,.hole ab,.hole .str,.hole ab,.arr 7,.ay,.hole (az 11)],.arr (.nm 10)] [bJ .ret [(12,ar 0 0)] [.bj 20],bJ (.exit 0) [(5,aa bI),(6,ar 0 0),(8,ar 1 0),(9,ar 2 0),(12,ar 3 0),(13,ar 4 0),(14,ar 5 0),(17,ar 6 0)] [cc (az 7),.bj 10,cc (az 7),.box [.hole ab,.hole .bool,.hole ab,.hole .str,.hole ab,.ay,.ay,.ay,.ay,.hole .bool],.bj 7,.bj 7,.box [.hole ab,.hole .bool,.hole ab,.hole .str,.hole ab,.arr 7,.ay,.hole (az 11)],.arr (.nm 10)]] [] [(.via 17 5,.nm 10)]
def xf:=bR 1 [(5,aa bI),(6,ar 0 0),(8,ar 1 0),(9,ar 2 0),(12,ar 3 0),(13,ar 4 0),(14,ar 5 0),(17,ar 6 0),(20,aa ab)] [cc (az 7),.bj 10,cc (az 7),.box [.hole ab,.hole .bool,.hole ab,.hole .str,.hole ab,.ay,.ay,.ay,.ay,.hole .bool],.bj 7,.bj 7,.box [.hole ab,.hole .bool,.hole ab,.hole .str,.hole ab,.arr 7,.arr 8,.hole (az 11)],.arr (.nm 10),.arr (.nm 10)] [bJ .ret [(12,ar 0 0)] [.bj 20],bJ (.exit 2) [(12,ar 0 0),(17,ar 1 0)] [.box [.hole ab,.hole .bool,.hole ab,.hole .str,.hole ab,.ay,.ay,.ay,.ay,.hole .bool],.box [.hole ab,.hole .bool,.hole ab,.hole .str,.hole ab,.arr 2,.arr 3,.hole (az 11)],.arr (.nm 10),.arr (.nm 10)]] [] [(.via 17 6,.nm 10)]
def sd:=aV 47 [.row 12,aa ab,.row 10,.row 12,aa ab,aa bI] (.row 20) [xe,xf]
def aeM:=aV 16 [.row 12,aa ab,.row 10,.row 12,aa ab] (.aY [.row 10,aa ab])
def xd:=bR 0 [(3,ar 0 0),(5,ar 1 0),(7,ar 2 0),(8,aa ab),(9,aa ab)] [cc (az 7),.bj 10,.bj 7] [bJ (.exit 0) [(5,ar 0 0),(8,aa ab)] [.bj 10]]
def Bp:=aV 45 [.row 12,aa ab,.row 10] (aa ab) [xd]
def aeB:=aV 15 [.row 12,aa ab,.row 10] (.aY [aa .str,aa ab])
def ae8:=aV 43 [.row 13,.row 13,aa .str] (.aY [.row 21,aa ab])
def dm:=aV 3 [.row 0] (aa .bool)
def iq:=aV 4 [.row 1] (aa .bool)
def kL:=aV 5 [.row 0] (aa .bool)
def ae2:=aV 27 [.row 13,.row 13,aa .str] (.aY [aa .bool,aa ab])
def ae3:=aV 28 [.row 13,.row 13,aa .str] (.aY [aa .bool,aa ab])
def se:=aV 7 [.row 0] (aa .bool)
def uC:=aV 6 [.row 0] (aa .bool)
def afB:=bR 0 [(5,ar 0 0),(6,ar 1 0),(9,.c (.arr 2)),(39,aa jj),(40,aa ab),(41,aa ab)] [.bj 13,.bj 13,.arr .str] [eV 4 .bool,bJ (.exit 0) [(5,ar 0 0),(6,ar 1 0),(9,.c (.arr 2))] [.bj 13,.bj 13,.arr .str]]
def e8:=aV 8 [.row 0,aa jj] (aa .bool) [afB]
def ag2:List ev:=[Qy,Qz,Qi,Pp,D1,xc,Ql,Qk,PY,Qe,Qf,PV,Qg,PW,Qh,PX,PB,PC,Bd,EC]
def ag3:List ev:=[EM,PD,PE,PF,PU,PT,Pz,oL,Qt,Qm,PZ,Pw,Pv,QP,Be,Qn,P0,Bf,PL,Qr]
def ag4:List ev:=[Qb,Qq,P9,Qs,Qd,Qc,PS,Bg,P1,P3,P2,uz,Bh,w5,Po,Bs,Pq,Qa,PQ,PR]
def ag5:List ev:=[Bo,D2,D3,Bn,sa,Pr,QO,Ps,PA,Nt,Nu,Pt,Pu,w6,Ba,PG,PH,Px,PI,P4]
def ag6:List ev:=[uA,uB,D4,xh,P6,P',PN,P8,Qo,Qp,PJ,Py,PK,P7,PM,PO,Bl,Bm,qj,Bc]
def ag7:List ev:=[qk,Bi,Bj,Bk,w7,Bb,EO,EJ,oK,aev,aeR,aeu,afH,afF,EL,Qj,afD,afE,EK,P5]
def ag8:List ev:=[QE,Qu,ED]
def rJ:List ev:=ag2++ag3++ag4++ag5++ag6++ag7++ag8
theorem tj:rJ.all (tT prog)=true:=by kernel_rfl
def qz:cB cO:={GR with F:=FQ (α:=cO.D 17) lu}
theorem sK:gZ prog qz:=⟨GS.1,λh r a=>GS.2 h r (abF FT _ r a)⟩
def sZ(n:Int):Option aS:=
 some (⟨2,[121],1,false,true,(⟨2,false,n,[],0,[],[],[]⟩:I)⟩:aS)
theorem U':a6 Qy sZ:= .bh
def sn(l:List aS):Option dg:=
 some (⟨(⟨[(⟨5,[82],0,0,0,[],l,0,0,false⟩:ah),(⟨2,[],0,9,0,[],[],0,0,false⟩:ah),(⟨1,[],0,0,0,[],[],0,0,false⟩:ah)]⟩:aR),0⟩:dg)
theorem UM:a6 Qz sn:= .bh
def nN:aq×aq×Int->Option ((Bool) ⊕ (Unit))
 |(a,b,i)=>
 if (i<(a.length:Int):Bool) then if aH i a.length then if aH i b.length then if !(a.getD i.toNat 0=b.getD i.toNat 0:Bool) then some (.inl false)else nN (a,b,aM .i64 i 1)else none else none else some (.inr ())
  partial_fixpoint
theorem Va:cN 62 0 [0] QF nN:= .rx nN.partial_correctness
def rf:aq×aq->Option Bool
 |(a,b)=>
 if !((a.length:Int)=(b.length:Int):Bool) then some false else nN (a,b,0)>>=λo=>match o with
  |.inl c=>
   some c
  |.inr e=>
   some true
theorem Vz:a6 QE rf:= .bh .n (.k Va .n)
def q4:List aq×List aq×Int->Option ((Bool) ⊕ (Unit))
 |(a,b,i)=>
 if (i<(a.length:Int):Bool) then if aH i a.length then if aH i b.length then rf (a.getD i.toNat [],b.getD i.toNat [])>>=λr=>if !r then some (.inl false)else q4 (a,b,aM .i64 i 1)else none else none else some (.inr ())
  partial_fixpoint
theorem UZ:cN 26 0 [0] Qv q4:= .rx q4.partial_correctness (.k Vz .n)
def xX:List aq×List aq->Option Bool
 |(a,b)=>
 if !((a.length:Int)=(b.length:Int):Bool) then some false else q4 (a,b,0)>>=λo=>match o with
  |.inl c=>
   some c
  |.inr e=>
   some true
theorem VP:a6 Qu xX:= .bh .n (.k UZ .n)
noncomputable def qA:aR->Option Int:=lh prog rJ [o4,o6,o7,qz,pM,o9] 3000 Bd
theorem WQ:a6 Bd qA:= .run tj (.k nM (.k nT (.k o8 (.k sK (.k rk (.k sm .n)))))) (.m (by kernel_rfl)) 3000 λ_=>rfl
noncomputable def vw:aR×Int×aj->Option (I×Int):=lh prog rJ [o4,o6,o7,qz,pM,o9] 3000 Bs
theorem Vm:a6 Bs vw:= .run tj (.k nM (.k nT (.k o8 (.k sK (.k rk (.k sm .n)))))) (.m (by kernel_rfl)) 3000 λ_=>rfl
noncomputable def BZ:aR×Int×I->Option (I×Int):=lh prog rJ [o4,o6,o7,qz,pM,o9] 3000 Ba
theorem Ws:a6 Ba BZ:= .run tj (.k nM (.k nT (.k o8 (.k sK (.k rk (.k sm .n)))))) (.m (by kernel_rfl)) 3000 λ_=>rfl
noncomputable def xY:aR×Int×I×aR×Int->Option (I×Int):=lh prog rJ [o4,o6,o7,qz,pM,o9] 3000 Bb
theorem VQ:a6 Bb xY:= .run tj (.k nM (.k nT (.k o8 (.k sK (.k rk (.k sm .n)))))) (.m (by kernel_rfl)) 3000 λ_=>rfl
noncomputable def vx:aR×Int×I->Option (aj×Int):=lh prog rJ [o4,o6,o7,qz,pM,o9] 3000 Bc
theorem Vn:a6 Bc vx:= .run tj (.k nM (.k nT (.k o8 (.k sK (.k rk (.k sm .n)))))) (.m (by kernel_rfl)) 3000 λ_=>rfl
noncomputable def G1:aR×Int×I->Option (List aq×Int):=lh prog rJ [o4,o6,o7,qz,pM,o9] 3000 EK
theorem Wt:a6 EK G1:= .run tj (.k nM (.k nT (.k o8 (.k sK (.k rk (.k sm .n)))))) (.m (by kernel_rfl)) 3000 λ_=>rfl
noncomputable def F6:Int×I×Int×I×aq×List ah×List ah×List aq->Option (List ah×List ah×List aq):=lh prog rJ [o4,o6,o7,qz,pM,o9] 3000 EL
theorem U0:a6 EL F6:= .run tj (.k nM (.k nT (.k o8 (.k sK (.k rk (.k sm .n)))))) (.m (by kernel_rfl)) 3000 λ_=>rfl
noncomputable def vy (r:dg):Option Int:=
 qA r.cM>>=λa=>if !(a=0:Bool) then some a
 else if(bif (r.av<0:Bool)then true else ((r.cM.Types.length:Int)<=r.av:Bool)) then some 4
  else some 0
theorem Vo:a6 EC vy:= .bh (.k WQ .n)
noncomputable def mj (b:List dg×Int×Int):Option ((Int) ⊕ (Unit)):=
 match b with
 |(t6,a,t8)=>
 if (t8<a:Bool) then if aH t8 t6.length then vy (t6.getD t8.toNat Ii)>>=λr=>if !(r=0:Bool) then some (.inl r)
   else mj (t6,a,aM .i64 t8 1)
  else none
 else some (.inr ())
  partial_fixpoint
theorem UN:cN 65 0 [0] EN mj:= .rx mj.partial_correctness (.k Vo .n)
noncomputable def vz (l:List dg):Option Int:=
 mj (l,(l.length:Int),0)>>=λo=>match o with
 |.inl a=>
  some a
 |.inr b=>
  some 0
theorem Vp:a6 EM vz:= .bh .n (.k UN .n)
noncomputable def sv (g:dg×dg×aj):Option (eS×Int):=
 match g with
 |(w,r,m)=>
 vw (w.cM,w.av,m)>>=λa=>if !(a.2=0:Bool) then some ((⟨(⟨0,false,0,[],0,[],[],[]⟩:I),(⟨0,false,0,[],0,[],[],[]⟩:I),[]⟩:eS),12)
 else BZ (w.cM,w.av,I.eta a.1)>>=λe=>if !(e.2=0:Bool) then some ((⟨(⟨0,false,0,[],0,[],[],[]⟩:I),(⟨0,false,0,[],0,[],[],[]⟩:I),[]⟩:eS),12)
  else xY (w.cM,w.av,I.eta e.1,r.cM,r.av)>>=λf=>if !(f.2=0:Bool) then some ((⟨(⟨0,false,0,[],0,[],[],[]⟩:I),(⟨0,false,0,[],0,[],[],[]⟩:I),[]⟩:eS),12)
   else vx (w.cM,w.av,I.eta a.1)>>=λc=>if !(c.2=0:Bool) then some ((⟨(⟨0,false,0,[],0,[],[],[]⟩:I),(⟨0,false,0,[],0,[],[],[]⟩:I),[]⟩:eS),3)
    else vw (r.cM,r.av,c.1)>>=λb=>if !(b.2=0:Bool) then some ((⟨(⟨0,false,0,[],0,[],[],[]⟩:I),(⟨0,false,0,[],0,[],[],[]⟩:I),[]⟩:eS),12)
     else vx (r.cM,r.av,I.eta b.1)>>=λd=>if !(d.2=0:Bool) then some ((⟨(⟨0,false,0,[],0,[],[],[]⟩:I),(⟨0,false,0,[],0,[],[],[]⟩:I),[]⟩:eS),3)
      else some ((⟨I.eta a.1,I.eta b.1,d.1⟩:eS),0)
theorem VR:a6 EO sv:= .bh (.k Vm (.k Ws (.k VQ (.k Vn .n))))
noncomputable def qG (c:dg×dg×aj):Option (eS×Int):=
 match c with
 |(w,r,m)=>
 vz [w,r]>>=λb=>if !(b=0:Bool) then some ((⟨(⟨0,false,0,[],0,[],[],[]⟩:I),(⟨0,false,0,[],0,[],[],[]⟩:I),[]⟩:eS),b)
 else sv (w,r,m)>>=λa=>some ((⟨I.eta a.1.v,I.eta a.1.u,a.1.message⟩:eS),a.2)
theorem Gn:a6 EJ qG:= .bh (.k Vp (.k VR .n))
noncomputable def pb (b:dg×dg×aj):Option (aj×Int):=
 match b with
 |(w,r,m)=>
 qG (w,r,m)>>=λa=>some (a.1.message,a.2)
theorem VS:a6 oK pb:= .bh (.k Gn .n)
noncomputable def x8 (c:dg×dg×aj):Option (List aq×Int):=
 match c with
 |(w,r,m)=>
 qG (w,r,m)>>=λa=>if !(a.2=0:Bool) then some ([],a.2)
 else F6 (w.av,I.eta a.1.v,r.av,I.eta a.1.u,[],w.cM.Types,r.cM.Types,[])>>=λb=>some (b.2.2,0)
theorem Vq:a6 Qj x8:= .bh (.k Gn (.k U0 .n))
noncomputable def yx (c:dg×dg×aj):Option (List aq×Int):=
 match c with
 |(w,r,m)=>
 qG (w,r,m)>>=λa=>if !(a.2=0:Bool) then some ([],a.2)
 else G1 (r.cM,r.av,I.eta a.1.u)>>=λb=>some (b.1,b.2)
theorem WR:a6 P5 yx:= .bh (.k Gn (.k Wt .n))
noncomputable def B9 (_:Unit):Option Bool:=
 sZ 3>>=λr=>sn [(⟨1,[120],1,false,false,(⟨0,false,0,[],0,[],[],[]⟩:I)⟩:aS),(⟨r.ae,r.Name,r.av,r.cp,r.bZ,I.eta r.bw⟩:aS)]>>=λe=>sZ 3>>=λc=>sn [(⟨c.ae,c.Name,c.av,c.cp,c.bZ,I.eta c.bw⟩:aS),(⟨4,[122],2,false,true,(⟨1,true,0,[],0,[],[],[]⟩:I)⟩:aS)]>>=λo=>pb (e,o,[2,1,10])>>=λg=>sZ 3>>=λd=>sn [(⟨d.ae,d.Name,d.av,d.cp,d.bZ,I.eta d.bw⟩:aS),(⟨4,[122],2,false,true,(⟨1,true,0,[],0,[],[],[]⟩:I)⟩:aS)]>>=λp=>x8 (e,p,[2,1,10])>>=λi=>sZ 3>>=λa=>sn [(⟨a.ae,a.Name,a.av,a.cp,a.bZ,I.eta a.bw⟩:aS),(⟨4,[122],2,false,true,(⟨1,true,0,[],0,[],[],[]⟩:I)⟩:aS)]>>=λj=>yx (e,j,[2,1,10])>>=λf=>sZ 4>>=λb=>sn [(⟨b.ae,b.Name,b.av,b.cp,b.bZ,I.eta b.bw⟩:aS),(⟨4,[122],2,false,true,(⟨1,true,0,[],0,[],[],[]⟩:I)⟩:aS)]>>=λk=>pb (e,k,[2,1,10])>>=λl=>some (bif bif bif bif decide (g.2=0)then decide (i.2=0)else false then decide (f.2=0)else false then decide (l.2=12)else false then decide (g.1=[2,1,10])else false)>>=λt76=>(if t76 then xX (i.1,[[4]])else some false)>>=λm=>some (bif t76 then m else false)>>=λt82=>(if t82 then xX (f.1,[[]])else some false)>>=λn=>some (bif t82 then n else false)
theorem UO:a6 ED B9:= .bh (.k U' (.k UM (.k VS (.k Vq (.k WR (.k VP .n))))))
def iF(n:Int):aS:=⟨2,[121],1,false,true,⟨2,false,n,[],0,[],[],[]⟩⟩
def uu:aS:=⟨1,[120],1,false,false,⟨0,false,0,[],0,[],[],[]⟩⟩
def r4:aS:=⟨4,[122],2,false,true,⟨1,true,0,[],0,[],[],[]⟩⟩
def fV(l:List aS):dg:=⟨⟨[⟨5,[82],0,0,0,[],l,0,0,false⟩,⟨2,[],0,9,0,[],[],0,0,false⟩,⟨1,[],0,0,0,[],[],0,0,false⟩]⟩,0⟩
def oH:I:=⟨5,false,0,[],0,[],[⟨2,false,5,[],0,[],[],[]⟩,⟨2,false,3,[],0,[],[],[]⟩],[]⟩
def r3:I:=⟨5,false,0,[],0,[],[⟨2,false,3,[],0,[],[],[]⟩,⟨1,true,0,[],0,[],[],[]⟩],[⟨1,[10]⟩]⟩
def gN:dg:=fV [uu,iF 3]
def iS:dg:=fV [iF 3,r4]
def r2:dg:=fV [iF 4,r4]
theorem ac2(n:Int):sZ n=some (iF n):=rfl
theorem ac3(l:List aS):sn l=some (fV l):=rfl
theorem ad9(n:Int):(⟨(iF n).ae,(iF n).Name,(iF n).av,(iF n).cp,(iF n).bZ,(iF n).bw⟩:aS)=iF n:=rfl
theorem ad8:(⟨1,[120],1,false,false,(⟨0,false,0,[],0,[],[],[]⟩:I)⟩:aS)=uu:=rfl
theorem ad':(⟨4,[122],2,false,true,(⟨1,true,0,[],0,[],[],[]⟩:I)⟩:aS)=r4:=rfl
theorem Pd:qA gN.cM=some 0:=by kernel_rfl
theorem ad3:qA iS.cM=some 0:=by kernel_rfl
theorem ad4:qA r2.cM=some 0:=by kernel_rfl
theorem O9:vw (gN.cM,gN.av,[2,1,10])=some (oH,0):=by kernel_rfl
theorem adO:vw (iS.cM,iS.av,[2,1,10])=some (r3,0):=by kernel_rfl
theorem Pb:BZ (gN.cM,gN.av,oH)=some (oH,0):=by kernel_rfl
theorem ad1:xY (gN.cM,gN.av,oH,iS.cM,iS.av)=some (r3,0):=by kernel_rfl
theorem ad2:xY (gN.cM,gN.av,oH,r2.cM,r2.av)=some (⟨0,false,0,[],0,[],[],[]⟩,12):=by kernel_rfl
theorem adP:vx (gN.cM,gN.av,oH)=some ([2,1,10],0):=by kernel_rfl
theorem adQ:vx (iS.cM,iS.av,r3)=some ([2,1,10],0):=by kernel_rfl
theorem ad0:G1 (iS.cM,iS.av,r3)=some ([[]],0):=by kernel_rfl
theorem adL:F6 (gN.av,oH,iS.av,r3,[],gN.cM.Types,iS.cM.Types,[])=some (gN.cM.Types,iS.cM.Types,[[4]]):=by kernel_rfl
theorem Pe{l:List aS}(h:qA (fV l).cM=some 0):vy (fV l)=some 0:=by
 rw[vy,h];rfl
theorem Pg{l m:List aS}(h1:qA (fV l).cM=some 0)(b:qA (fV m).cM=some 0):vz [fV l,fV m]=some 0:=by
 have a:mj ([fV l,fV m],2,2)=some (.inr ()):=by rw[mj];rfl
 have aK:mj ([fV l,fV m],2,1)=some (.inr ()):=by
  rw[mj,ad (by decide),ad (by rfl)];show(vy (fV m)>>=_)=_;rw[Pe b];exact a
 have cV:mj ([fV l,fV m],2,0)=some (.inr ()):=by
  rw[mj,ad (by decide),ad (by rfl)];show(vy (fV l)>>=_)=_;rw[Pe h1];exact aK
 rw[vz];show(mj ([fV l,fV m],2,0)>>=_)=_;rw[cV];rfl
def w3(gd:aR×Int×aj->Option (I×Int))(gs:aR×Int×I->Option (I×Int))(uH:aR×Int×I×aR×Int->Option (I×Int))(ge:aR×Int×I->Option (aj×Int))(g:dg×dg×aj):Option (eS×Int):=
 match g with
 |(w,r,m)=>
 gd (w.cM,w.av,m)>>=λa=>if !(a.2=0:Bool) then some ((⟨(⟨0,false,0,[],0,[],[],[]⟩:I),(⟨0,false,0,[],0,[],[],[]⟩:I),[]⟩:eS),12)else gs (w.cM,w.av,I.eta a.1)>>=λe=>if !(e.2=0:Bool) then some ((⟨(⟨0,false,0,[],0,[],[],[]⟩:I),(⟨0,false,0,[],0,[],[],[]⟩:I),[]⟩:eS),12)else uH (w.cM,w.av,I.eta e.1,r.cM,r.av)>>=λf=>if !(f.2=0:Bool) then some ((⟨(⟨0,false,0,[],0,[],[],[]⟩:I),(⟨0,false,0,[],0,[],[],[]⟩:I),[]⟩:eS),12)else ge (w.cM,w.av,I.eta a.1)>>=λc=>if !(c.2=0:Bool) then some ((⟨(⟨0,false,0,[],0,[],[],[]⟩:I),(⟨0,false,0,[],0,[],[],[]⟩:I),[]⟩:eS),3)else gd (r.cM,r.av,c.1)>>=λb=>if !(b.2=0:Bool) then some ((⟨(⟨0,false,0,[],0,[],[],[]⟩:I),(⟨0,false,0,[],0,[],[],[]⟩:I),[]⟩:eS),12)else ge (r.cM,r.av,I.eta b.1)>>=λd=>if !(d.2=0:Bool) then some ((⟨(⟨0,false,0,[],0,[],[],[]⟩:I),(⟨0,false,0,[],0,[],[],[]⟩:I),[]⟩:eS),3)else some ((⟨I.eta a.1,I.eta b.1,d.1⟩:eS),0)
theorem Pm:sv=w3 vw BZ xY vx:=rfl
section
variable {gd:aR×Int×aj->Option (I×Int)}{gs:aR×Int×I->Option (I×Int)}{uH:aR×Int×I×aR×Int->Option (I×Int)}{ge:aR×Int×I->Option (aj×Int)}{A B:dg}{m o:aj}{v u w:I}
theorem ac4 (h1:gd (A.cM,A.av,m)=some (v,0))(a:gs (A.cM,A.av,v)=some (v,0))(b:uH (A.cM,A.av,v,B.cM,B.av)=some (w,0))(c:ge (A.cM,A.av,v)=some (m,0))
 (ba:gd (B.cM,B.av,m)=some (u,0))(d:ge (B.cM,B.av,u)=some (o,0)):w3 gd gs uH ge (A,B,m)=some (⟨v,u,o⟩,0):=by
 unfold w3;simp[h1,a,b,c,ba,d,I.aU]
theorem ac5(h1:gd (A.cM,A.av,m)=some (v,0))(a:gs (A.cM,A.av,v)=some (v,0))(b:uH (A.cM,A.av,v,B.cM,B.av)=some (w,12)):
 w3 gd gs uH ge (A,B,m)=some (⟨⟨0,false,0,[],0,[],[],[]⟩,⟨0,false,0,[],0,[],[],[]⟩,[]⟩,12):=by
 unfold w3;simp[h1,a,b,I.aU]
theorem Ri{e:Int}(h1:go [A,B]=some 0)(c:gc (A,B,m)=some (⟨v,u,o⟩,e)):
 (go [A,B]>>=λb=>if !(b=0:Bool) then some ((⟨(⟨0,false,0,[],0,[],[],[]⟩:I),(⟨0,false,0,[],0,[],[],[]⟩:I),[]⟩:eS),b)
  else gc (A,B,m)>>=λa=>some ((⟨I.eta a.1.v,I.eta a.1.u,a.1.message⟩:eS),a.2))=some (⟨v,u,o⟩,e):=by
 rw[h1];simp[c,I.aU]
end
theorem adM:sv (gN,iS,[2,1,10])=some (⟨oH,r3,[2,1,10]⟩,0):=by
 rw[Pm];exact ac4 O9 Pb ad1 adP adO adQ
theorem adN:sv (gN,r2,[2,1,10])=some (⟨⟨0,false,0,[],0,[],[],[]⟩,⟨0,false,0,[],0,[],[],[]⟩,[]⟩,12):=by
 rw[Pm];exact ac5 O9 Pb ad2
theorem Ew:qG (gN,iS,[2,1,10])=some (⟨oH,r3,[2,1,10]⟩,0):=by
 have h:vz [gN,iS]=some 0:=Pg Pd ad3;rw[qG];exact Ri (gc:=sv) h adM
theorem ad5:qG (gN,r2,[2,1,10])=some (⟨⟨0,false,0,[],0,[],[],[]⟩,⟨0,false,0,[],0,[],[],[]⟩,[]⟩,12):=by
 have h:vz [gN,r2]=some 0:=Pg Pd ad4;rw[qG];exact Ri (gc:=sv) h adN
theorem adR:pb (gN,iS,[2,1,10])=some ([2,1,10],0):=by rw[pb,Ew];rfl
theorem adS:pb (gN,r2,[2,1,10])=some ([],12):=by rw[pb,ad5];rfl
theorem adT:x8 (gN,iS,[2,1,10])=some ([[4]],0):=by
 rw[x8,Ew];simp[adL,I.aU]
theorem adU:yx (gN,iS,[2,1,10])=some ([[]],0):=by
 rw[yx,Ew];simp[ad0,I.aU]
theorem ad7:rf ([4],[4])=some true:=by
 have h1:nN ([4],[4],1)=some (.inr ()):=by rw[nN];rfl
 have h0:nN ([4],[4],0)=some (.inr ()):=by
  rw[nN];exact h1
 rw[rf,h0];rfl
theorem ad6:rf ([],[])=some true:=by
 have h0:nN ([],[],0)=some (.inr ()):=by rw[nN];rfl
 rw[rf,h0];rfl
theorem Pf{p:aq}(a:rf (p,p)=some true):xX ([p],[p])=some true:=by
 have h1:q4 ([p],[p],1)=some (.inr ()):=by rw[q4];rfl
 have h0:q4 ([p],[p],0)=some (.inr ()):=by
  rw[q4,ad (by rfl),ad (by rfl),ad (by rfl)];show(rf (p,p)>>=_)=_;rw[a];exact h1
 rw[xX,h0];rfl
theorem aaO:B9 ()=some true:=by
 have a:pb (fV [uu,iF 3],fV [iF 3,r4],[2,1,10])=_:=adR;have b:pb (fV [uu,iF 3],fV [iF 4,r4],[2,1,10])=_:=adS;have c:x8 (fV [uu,iF 3],fV [iF 3,r4],[2,1,10])=_:=adT;have d:yx (fV [uu,iF 3],fV [iF 3,r4],[2,1,10])=_:=adU;unfold B9;simp only[aT,ao,ac2,ac3,I.aU,ad9,ad8,ad'];rw[a,c,d,b];simp only[ao,dq,eo,bS];rw[Pf ad7];simp only[ao,eo,bS];rw[Pf ad6];rfl
def xZ(_:Unit):Option Bool:=some true
theorem VT:a6 ED xZ:=by
 have:B9=xZ:=by funext x;exact aaO
 rw[<-this];exact UO
theorem Vb:xZ ()=some true:=rfl
def rh:ek×Int->Option Int
 |(d,i)=>
 if aH i d.ec.length then some (aM .i64 1 (bW .i64 (b' (d.ec.getD i.toNat br).Kind 9)))else none
theorem yH:a6 afk rh:= .bh
def j3(a:Int):Option Bool:=
 some (bif bif decide (a=4)then true else decide (a=5)then true else decide (a=6))
theorem F9:a6 afl j3:= .bh
def pN(a:dr):Option Int:=
 some (de .i64 (bW .i64 (b' a.A 7)) 3)
theorem Gg:a6 afm pN:= .bh
def sE(a:dr):Option Int:=
 pN a>>=λr=>some (aM .i64 r (bW .i64 (b' a.B 6)))
theorem SI:a6 afn sE:= .bh (.k Gg .n)
def o':Int×dr×aq->Option aq
 |(i,b,a)=>
 if (i<6:Bool) then if (0<=i:Bool) then if (b' (lr .u8 b.A i) 2=1:Bool) then some [aM .i64 i 1]>>=λt18=>if room 8 (a++t18).length then o' (aM .i64 i 1,b,a++t18)else none else o' (aM .i64 i 1,b,a)else none else some a
  partial_fixpoint
theorem UP:cN 72 0 [0] QG o':= .rx o'.partial_correctness
def np(a:dr):Option aq:=
 o' (0,a,[])>>=λo=>if ((o.length:Int)=0:Bool) then some [1]>>=λt24=>if room 8 (o++t24).length then some (o++t24)else none else some o
theorem R3:a6 afo np:= .bh .n (.k UP .n)
def yI(a:Int):Option Bool:=
 some (decide (7<=a))
theorem Sv:a6 aex yI:= .bh
def nJ:Int×Int×List dr->Option ((Int) ⊕ (Unit))
 |(n,k,b)=>
 if (k<n:Bool) then rh ((⟨b⟩:ek),k)>>=λa=>yI a>>=λc=>if c then some (.inl k)else nJ (n,aM .i64 k 1,b)else some (.inr ())
  partial_fixpoint
theorem T6:cN 109 0 [0] N9 nJ:= .rx nJ.partial_correctness (.k yH (.k Sv .n))
def yK(c:ek×Int×Int):Option Int:=
 match c with
 |(d,i,code)=>
 some (d.ec.length:Int)>>=λt12=>if !(t12=0:Bool) then some (b' (bW .i64 code) t12)>>=λt16=>rh (d,t16)>>=λr=>yI r>>=λb=>if(bif b then true else (t16<i:Bool)) then some t16 else if (0<i:Bool) then if !(i=0:Bool) then some (b' t16 i)else none else nJ (t12,0,d.ec)>>=λo=>match o with
 |.inl a=>
 some a
 |.inr e=>
 some (-1)else none
theorem UQ:a6 aeg yK:= .bh (.k yH (.k Sv .n)) (.k T6 .n)
def yA(a:Int):Option Bool:=
 some (bif decide (1<=a)then decide (a<=4)else false)
theorem St:a6 aei yA:= .bh
def nU:Int×Int×Int×List dr->Option ((Int) ⊕ (Unit))
 |(a,n,k,b)=>
 if (k<n:Bool) then if !(n=0:Bool) then some (b' (aM .i64 (bW .i64 a) k) n)>>=λt21=>rh ((⟨b⟩:ek),t21)>>=λr=>yA r>>=λc=>if c then some (.inl t21)else nU (a,n,aM .i64 k 1,b)else none else some (.inr ())
  partial_fixpoint
theorem UR:cN 74 0 [0] QI nU:= .rx nU.partial_correctness (.k yH (.k St .n))
def sJ(b:ek×Int):Option Int:=
 match b with
 |(d,code)=>
 nU (code,(d.ec.length:Int),0,d.ec)>>=λo=>match o with
 |.inl a=>
 some a
 |.inr c=>
 some (-1)
theorem R4:a6 afq sJ:= .bh .n (.k UR .n)
def yB:ek×Int×Int->Option (I×Bool)
 |(d,t,code)=>
 if aH t d.ec.length then some (d.ec.getD t.toNat br)>>=λa=>rh (d,t)>>=λr=>some (decide (r=8))>>=λt21=>(if t21 then sJ (d,0)else some 0)>>=λc=>if(bif t21 then (c<0:Bool)else false) then some ((⟨7,false,0,[],0,[],[],[]⟩:I),true)else if (r=1:Bool) then some ((⟨r,decide (b' code 2=1),0,[],0,[],[],[]⟩:I),true)else if (r=2:Bool) then pN a>>=λe=>sE a>>=λf=>pN a>>=λg=>some (aM .i64 (de .i64 f g) 1)>>=λt47=>if !(t47=0:Bool) then some ((⟨r,false,aM .i64 e (b' (bW .i64 code) t47),[],0,[],[],[]⟩:I),true)else none else if (r=3:Bool) then if(bif (0<b' a.A 4:Bool)then (b' code 2=1:Bool)else false) then some ((⟨r,false,0,[97],0,[],[],[]⟩:I),true)else some ((⟨r,false,0,[],0,[],[],[]⟩:I),true)else if (r=4:Bool) then np a>>=λb=>np a>>=λi=>some (i.length:Int)>>=λt71=>if !(t71=0:Bool) then some (b' (bW .i64 code) t71)>>=λt72=>if aH t72 b.length then some ((⟨r,false,0,[],b.getD t72.toNat 0,[],[],[]⟩:I),true)else none else none else some (decide (r=5))>>=λt77=>if t77 then if t77 then some ((⟨0,false,0,[],0,[],[],[]⟩:I),false)else some ((⟨r,false,0,[],0,[],[],[]⟩:I),true)else if (r=6:Bool) then some ((⟨0,false,0,[],0,[],[],[]⟩:I),false)else some ((⟨r,false,0,[],0,[],[],[]⟩:I),true)else none
theorem Vc:a6 aeh yB:= .bh (.k yH (.k R4 (.k Gg (.k SI (.k R3 .n)))))
def q1:Int×Bool×Int×Int×List dr×dr×List aS->Option (Int×Bool×Int×List dr×dr×List aS)
 |(f,e,a,k,c,d,b)=>
 if (k<(d.c0.length:Int):Bool) then if aH k d.c0.length then some (d.c0.getD k.toNat ja)>>=λg=>yK ((⟨c⟩:ek),f,g.av)>>=λr=>if(bif (!(aM .i64 1 (bW .i64 (b' g.ae 12))=a:Bool))then true else (r<0:Bool)) then q1 (f,e,a,aM .i64 k 1,c,d,b)else some (mz (bW .i32 (aM .i64 97 a)))>>=λt55=>if ([109].length+t55.length<=eC:Bool) then some ([109]++t55)>>=λt56=>if(bif e then (b' g.gY 4=1:Bool)else false) then if(bif e then (2<=b' g.gY 4:Bool)else false) then yB ((⟨c⟩:ek),r,fv .u8 g.gY 4)>>=λi=>some [(⟨a,t56,r,true,i.2,I.eta i.1⟩:aS)]>>=λt87=>if room 160 (b++t87).length then some (f,e,a,c,d,b++t87)else none else some [(⟨a,t56,r,true,false,(⟨0,false,0,[],0,[],[],[]⟩:I)⟩:aS)]>>=λl=>if room 160 (b++l).length then some (f,e,a,c,d,b++l)else none else if(bif e then (2<=b' g.gY 4:Bool)else false) then yB ((⟨c⟩:ek),r,fv .u8 g.gY 4)>>=λj=>some [(⟨a,t56,r,false,j.2,I.eta j.1⟩:aS)]>>=λm=>if room 160 (b++m).length then some (f,e,a,c,d,b++m)else none else some [(⟨a,t56,r,false,false,(⟨0,false,0,[],0,[],[],[]⟩:I)⟩:aS)]>>=λn=>if room 160 (b++n).length then some (f,e,a,c,d,b++n)else none else none else none else some (f,e,a,c,d,b)
  partial_fixpoint
theorem TU:cN 73 0 [0,0] Nn q1:= .rx q1.partial_correctness (.k UQ (.k Vc .n))
def q5:Int×Bool×Int×List dr×dr×List aS->Option (List aS)
 |(e,f,id,c,d,b)=>
 if (id<=12:Bool) then q1 (e,f,id,0,c,d,b)>>=λa=>q5 (a.1,a.2.1,aM .i64 a.2.2.1 1,a.2.2.2.1,a.2.2.2.2.1,a.2.2.2.2.2)else some b
  partial_fixpoint
theorem U1:cN 73 0 [0] QH q5:= .rx q5.partial_correctness .n (.k TU .n)
def sw:ek×Int×Bool->Option (List aS)
 |(d,i,record)=>
 if aH i d.ec.length then q5 (i,record,1,d.ec,d.ec.getD i.toNat br,[])>>=λo=>some o else none
theorem VU:a6 afp sw:= .bh .n (.k U1 .n)
def o5:Int×Int×aq×Int×List dr×Int×aj×Int×Int×Int×Int×Int×Bool×List ah×List c4->Option (Int×Int×List dr×Int×aj×Int×Int×Int×Int×Int×Bool×List ah×List c4)
 |(p,o,a,k,c,d,e,f,g,i,j,l,m,n,b)=>
 if (k<(a.length:Int):Bool) then if aH k a.length then if aH k a.length then some (mz (bW .i32 (aM .i64 97 (a.getD k.toNat 0))))>>=λt87=>if ([115].length+t87.length<=eC:Bool) then some [(⟨a.getD k.toNat 0,[115]++t87⟩:c4)]>>=λt90=>if room 24 (b++t90).length then o5 (p,o,a,aM .i64 k 1,c,d,e,f,g,i,j,l,m,n,b++t90)else none else none else none else none else some (p,o,c,d,e,f,g,i,j,l,m,n,b)
  partial_fixpoint
theorem Vd:cN 34 0 [0,0] No o5:= .rx o5.partial_correctness
def fM:Int×Int×List dr×List ah->Option (List ah)
 |(n,i,b,a)=>
 if (i<n:Bool) then if aH i b.length then some (b.getD i.toNat br)>>=λc=>rh ((⟨b⟩:ek),i)>>=λr=>j3 r>>=λN=>if N then some (mz (bW .i32 (aM .i64 65 i)))>>=λt41=>if (r=2:Bool) then pN c>>=λQ=>sE c>>=λR=>some [(⟨r,t41,Q,R,0,[],[],0,0,false⟩:ah)]>>=λt167=>if room 120 (a++t167).length then fM (n,aM .i64 i 1,b,a++t167)else none else if (r=3:Bool) then some [(⟨r,t41,0,0,bW .i64 (b' c.A 4),[],[],0,0,false⟩:ah)]>>=λo=>if room 120 (a++o).length then fM (n,aM .i64 i 1,b,a++o)else none else if (r=4:Bool) then np c>>=λS=>o5 (n,i,S,0,b,r,t41,0,0,0,0,0,decide (b' c.B 2=1),a,[])>>=λd=>some [(⟨d.2.2.2.1,d.2.2.2.2.1,d.2.2.2.2.2.1,d.2.2.2.2.2.2.1,d.2.2.2.2.2.2.2.1,d.2.2.2.2.2.2.2.2.2.2.2.2,[],d.2.2.2.2.2.2.2.2.1,d.2.2.2.2.2.2.2.2.2.1,d.2.2.2.2.2.2.2.2.2.2.1⟩:ah)]>>=λD=>if room 120 (d.2.2.2.2.2.2.2.2.2.2.2.1++D).length then fM (d.1,aM .i64 d.2.1 1,d.2.2.1,d.2.2.2.2.2.2.2.2.2.2.2.1++D)else none else if (r=5:Bool) then sw ((⟨b⟩:ek),i,true)>>=λT=>some [(⟨r,t41,0,0,0,[],T,0,0,false⟩:ah)]>>=λG=>if room 120 (a++G).length then fM (n,aM .i64 i 1,b,a++G)else none else if (r=6:Bool) then sw ((⟨b⟩:ek),i,false)>>=λj=>if ((j.length:Int)=0:Bool) then some [(⟨5,t41,0,0,0,[],[],0,0,false⟩:ah)]>>=λH=>if room 120 (a++H).length then fM (n,aM .i64 i 1,b,a++H)else none else some [(⟨r,t41,0,0,0,[],j,0,0,decide (b' c.B 2=1)⟩:ah)]>>=λI=>if room 120 (a++I).length then fM (n,aM .i64 i 1,b,a++I)else none else if (r=7:Bool) then if !(n=0:Bool) then some [(⟨r,t41,0,0,bW .i64 (b' c.A 4),[],[],0,b' (bW .i64 c.C) n,false⟩:ah)]>>=λJ=>if room 120 (a++J).length then fM (n,aM .i64 i 1,b,a++J)else none else none else if (r=8:Bool) then some (bW .i64 (b' c.A 4))>>=λt135=>sJ ((⟨b⟩:ek),c.B)>>=λk=>if !(n=0:Bool) then some (b' (bW .i64 c.C) n)>>=λt144=>if (k<0:Bool) then some [(⟨7,[],0,0,t135,[],[],0,t144,false⟩:ah)]>>=λK=>if room 120 (a++K).length then fM (n,aM .i64 i 1,b,a++K)else none else some [(⟨r,t41,0,0,t135,[],[],k,t144,false⟩:ah)]>>=λL=>if room 120 (a++L).length then fM (n,aM .i64 i 1,b,a++L)else none else none else if (r=9:Bool) then if !(n=0:Bool) then some [(⟨r,t41,0,0,0,[],[],0,b' (bW .i64 c.C) n,false⟩:ah)]>>=λM=>if room 120 (a++M).length then fM (n,aM .i64 i 1,b,a++M)else none else none else some [(⟨r,t41,0,0,0,[],[],0,0,false⟩:ah)]>>=λp=>if room 120 (a++p).length then fM (n,aM .i64 i 1,b,a++p)else none else if (r=2:Bool) then pN c>>=λU=>sE c>>=λV=>some [(⟨r,[],U,V,0,[],[],0,0,false⟩:ah)]>>=λq=>if room 120 (a++q).length then fM (n,aM .i64 i 1,b,a++q)else none else if (r=3:Bool) then some [(⟨r,[],0,0,bW .i64 (b' c.A 4),[],[],0,0,false⟩:ah)]>>=λs=>if room 120 (a++s).length then fM (n,aM .i64 i 1,b,a++s)else none else if (r=4:Bool) then np c>>=λO=>o5 (n,i,O,0,b,r,[],0,0,0,0,0,decide (b' c.B 2=1),a,[])>>=λe=>some [(⟨e.2.2.2.1,e.2.2.2.2.1,e.2.2.2.2.2.1,e.2.2.2.2.2.2.1,e.2.2.2.2.2.2.2.1,e.2.2.2.2.2.2.2.2.2.2.2.2,[],e.2.2.2.2.2.2.2.2.1,e.2.2.2.2.2.2.2.2.2.1,e.2.2.2.2.2.2.2.2.2.2.1⟩:ah)]>>=λt=>if room 120 (e.2.2.2.2.2.2.2.2.2.2.2.1++t).length then fM (e.1,aM .i64 e.2.1 1,e.2.2.1,e.2.2.2.2.2.2.2.2.2.2.2.1++t)
 else none else if (r=5:Bool) then sw ((⟨b⟩:ek),i,true)>>=λP=>some [(⟨r,[],0,0,0,[],P,0,0,false⟩:ah)]>>=λu=>if room 120 (a++u).length then fM (n,aM .i64 i 1,b,a++u)else none else if (r=6:Bool) then sw ((⟨b⟩:ek),i,false)>>=λf=>if ((f.length:Int)=0:Bool) then some [(⟨5,[],0,0,0,[],[],0,0,false⟩:ah)]>>=λv=>if room 120 (a++v).length then fM (n,aM .i64 i 1,b,a++v)else none else some [(⟨r,[],0,0,0,[],f,0,0,decide (b' c.B 2=1)⟩:ah)]>>=λw=>if room 120 (a++w).length then fM (n,aM .i64 i 1,b,a++w)else none else if (r=7:Bool) then if !(n=0:Bool) then some [(⟨r,[],0,0,bW .i64 (b' c.A 4),[],[],0,b' (bW .i64 c.C) n,false⟩:ah)]>>=λx=>if room 120 (a++x).length then fM (n,aM .i64 i 1,b,a++x)else none else none else if (r=8:Bool) then some (bW .i64 (b' c.A 4))>>=λl=>sJ ((⟨b⟩:ek),c.B)>>=λg=>if !(n=0:Bool) then some (b' (bW .i64 c.C) n)>>=λm=>if (g<0:Bool) then some [(⟨7,[],0,0,l,[],[],0,m,false⟩:ah)]>>=λy=>if room 120 (a++y).length then fM (n,aM .i64 i 1,b,a++y)else none else some [(⟨r,[],0,0,l,[],[],g,m,false⟩:ah)]>>=λz=>if room 120 (a++z).length then fM (n,aM .i64 i 1,b,a++z)else none else none else if (r=9:Bool) then if !(n=0:Bool) then some [(⟨r,[],0,0,0,[],[],0,b' (bW .i64 c.C) n,false⟩:ah)]>>=λE=>if room 120 (a++E).length then fM (n,aM .i64 i 1,b,a++E)else none else none else some [(⟨r,[],0,0,0,[],[],0,0,false⟩:ah)]>>=λF=>if room 120 (a++F).length then fM (n,aM .i64 i 1,b,a++F)else none else none else some a
  partial_fixpoint
theorem VV:cN 34 0 [0] Qx fM:= .rx fM.partial_correctness (.k yH (.k F9 (.k Gg (.k SI (.k R3 (.k VU (.k R4 .n))))))) (.k Vd .n)
def qB(d:ek):Option (aR×Bool):=
 some (d.ec.length:Int)>>=λt13=>if(bif (t13<1:Bool)then true else (5<t13:Bool)) then some ((⟨[]⟩:aR),false)else fM (t13,0,d.ec,[])>>=λo=>some ((⟨o⟩:aR),true)
theorem Sd:a6 ae5 qB:= .bh .n (.k VV .n)
def iX:Int×List ah×aq×Bool->Option (Int×List ah×aq×Bool)
 |(n,b,a,c)=>
 if ((a.length:Int)=0:Bool) then some (0,b,a,c)else if aH 0 a.length then if !(n=0:Bool) then if dT 1 (a.length:Int) a.length then some (b' (bW .i64 (a.getD (0:Int).toNat 0)) n,b,d' a 1 (a.length:Int),c)else none else none else none
theorem sQ:a6 aey iX:= .bh
def si:aj×Int×List ah×aq×Bool->Option (aj×List ah×aq×Bool)
 |(b,n,c,d,e)=>
 if (0<n:Bool) then iX (3,c,d,e)>>=λa=>some (mz (bW .i32 (aM .i64 97 a.1)))>>=λt21=>if (b.length+t21.length<=eC:Bool) then si (b++t21,de .i64 n 1,a.2.1,a.2.2.1,a.2.2.2)else none else some (b,c,d,e)
  partial_fixpoint
theorem Uk:cN 148 1 [0] Oa si:= .rx si.partial_correctness (.k sQ .n)
def Cs:Int×List ah×aq×Bool->Option (aj×List ah×aq×Bool)
 |(most,b,a,c)=>
 iX (aM .i64 (je most 3) 1,b,a,c)>>=λr=>si ([],r.1,r.2.1,r.2.2.1,r.2.2.2)>>=λo=>some (o.1,o.2.1,o.2.2.1,o.2.2.2)
theorem TV:a6 aez Cs:= .bh (.k sQ .n) (.k Uk .n)
def uO:List ah×aq×Bool->Option (Bool×List ah×aq×Bool)
 |(b,c,a)=>
 if a then iX (4,b,c,a)>>=λr=>some (bif a then decide (r.1=3)else false,r.2.1,r.2.2.1,r.2.2.2)else some (bif a then false else false,b,c,a)
theorem T7:a6 aeA uO:= .bh (.k sQ .n)
def oV:Int×Int×ah->Option ((Int×Bool) ⊕ (Unit))
 |(a,i,b)=>
 if (i<(b.ag.length:Int):Bool) then if aH i b.ag.length then if ((b.ag.getD i.toNat aE).ae=a:Bool) then some (.inl (i,true))else oV (a,aM .i64 i 1,b)else none else some (.inr ())
  partial_fixpoint
theorem T8:cN 53 0 [0] QD oV:= .rx oV.partial_correctness
def hB(b:ah×Int):Option (Int×Bool):=
 match b with
 |(t,id)=>
 oV (id,0,t)>>=λo=>match o with
 |.inl a=>
 some (a.1,a.2)
 |.inr c=>
 some (0,false)
theorem mi:a6 afe hB:= .bh .n (.k T8 .n)
def nK:Int×Int×ah->Option ((Int×Bool) ⊕ (Unit))
 |(a,i,b)=>
 if (i<(b.bg.length:Int):Bool) then if aH i b.bg.length then if ((b.bg.getD i.toNat dL).ae=a:Bool) then some (.inl (i,true))else nK (a,aM .i64 i 1,b)else none else some (.inr ())
  partial_fixpoint
theorem T9:cN 82 0 [0] QL nK:= .rx nK.partial_correctness
def sq(b:ah×Int):Option (Int×Bool):=
 match b with
 |(t,id)=>
 nK (id,0,t)>>=λo=>match o with
 |.inl a=>
 some (a.1,a.2)
 |.inr c=>
 some (0,false)
theorem B2:a6 afx sq:= .bh .n (.k T9 .n)
def Ch:ah×Int->Option Bool
 |(t,n)=>
 hB (t,n)>>=λr=>sq (t,n)>>=λa=>some (bif r.2 then true else a.2)
theorem VA:a6 aeU Ch:= .bh (.k mi (.k B2 .n))
def uM:Int×List ah×aq×Bool×ah->Option (Int×List ah×aq×Bool)
 |(a,b,c,d,e)=>
 Ch (e,a)>>=λf=>if f then uM (aM .i64 a 1,b,c,d,e)else some (a,b,c,d)
  partial_fixpoint
theorem Uj:cN 150 1 [0] Ob uM:= .rx uM.partial_correctness (.k VA .n)
def qs:ah×List ah×aq×Bool->Option (Int×List ah×aq×Bool)
 |(t,b,a,c)=>
 iX (14,b,a,c)>>=λr=>uM (aM .i64 1 r.1,r.2.1,r.2.2.1,r.2.2.2,t)>>=λo=>some (o.1,o.2.1,o.2.2.1,o.2.2.2)
theorem Ul:a6 aeC qs:= .bh (.k sQ .n) (.k Uj .n)
def uP:Int×List ah×aq×Bool->Option (bY×List ah×aq×Bool)
 |(n,b,a,c)=>
 some [[],[1],[97],[3,1,2]]>>=λt6=>iX (4,b,a,c)>>=λr=>if aH r.1 t6.length then some ((⟨n,t6.getD r.1.toNat []⟩:bY),r.2.1,r.2.2.1,r.2.2.2)else none
theorem TG:a6 aeD uP:= .bh (.k sQ .n)
def kD:Bool×Bool->Option Int
 |(b,a)=>
 if a then some 0 else if b then some (-1)else some 1
theorem VW:a6 aeQ kD:= .bh
def vl(n:Int):Option Int:=
 if (0<=n:Bool) then some (gw .u64 2 (bW .u64 n))else some (aM .u64 (gw .u64 2 (bW .u64 (de .i64 0 (aM .i64 n 1)))) 1)
theorem Sw:a6 afc vl:= .bh
def nO:I×I->Option Int
 |(a,b)=>
 if !(a.Kind=b.Kind:Bool) then some 0 else if (a.Kind=1:Bool) then kD (b.bL,e6 a.bL b.bL)>>=λr=>some r else if (a.Kind=2:Bool) then vl a.bc>>=λc=>vl b.bc>>=λd=>kD (decide (c<d),decide (a.bc=b.bc))>>=λe=>some e else if (a.Kind=3:Bool) then if !((a.bn.length:Int)=(b.bn.length:Int):Bool) then kD (decide ((a.bn.length:Int)<(b.bn.length:Int)),false)>>=λf=>some f else kD (Op.bytesLess a.bn b.bn,decide (a.bn=b.bn))>>=λg=>some g else if (a.Kind=4:Bool) then kD (decide (a.ae<b.ae),decide (a.ae=b.ae))>>=λi=>some i else some 0
theorem Cu:a6 aet nO:= .bh (.k VW (.k Sw .n))
def q9:Int×I×I×I×Int×Bool×Int×aj×Int->Option (Int×I×I×I×Int×Bool×Int×aj×Int)
 |(b,a,c,d,e,f,g,i,j)=>
 some (decide (b<(a.aw.length:Int)))>>=λt12=>if(aH b a.aw.length||(!t12)) then (if t12 then nO (I.eta (a.aw.getD b.toNat au),I.eta c)else some 0)>>=λk=>if(bif t12 then (k<0:Bool)else false) then q9 (aM .i64 b 1,I.eta a,I.eta c,I.eta d,e,f,g,i,j)else some (b,I.eta a,I.eta c,I.eta d,e,f,g,i,j)else none
  partial_fixpoint
theorem US:cN 152 0 [0] Oc q9:= .rx q9.partial_correctness (.k Cu .n)
def Ck:I×I×I->Option I
 |(v,key,item)=>
 q9 (0,I.eta v,I.eta key,I.eta item,0,false,0,[],0)>>=λo=>some (decide (o.1<(o.2.1.aw.length:Int)))>>=λt29=>if(aH o.1 o.2.1.aw.length||(!t29)) then (if t29 then nO (I.eta (o.2.1.aw.getD o.1.toNat au),I.eta o.2.2.1)else some 0)>>=λr=>if(bif t29 then (r=0:Bool)else false) then some (I.eta o.2.1)else if dT 0 o.1 o.2.1.aw.length then some (d' o.2.1.aw 0 o.1)>>=λt45=>if room 120 ([]++t45).length then some ([]++t45)>>=λl=>some [I.eta o.2.2.1]>>=λt48=>if room 120 (l++t48).length then some (l++t48)>>=λa=>if dT o.1 (o.2.1.aw.length:Int) o.2.1.aw.length then some (d' o.2.1.aw o.1 (o.2.1.aw.length:Int))>>=λt53=>if room 120 (a++t53).length then if dT 0 o.1 o.2.1.ai.length then some (d' o.2.1.ai 0 o.1)>>=λt60=>if room 120 ([]++t60).length then some ([]++t60)>>=λb=>some [I.eta o.2.2.2.1]>>=λt63=>if room 120 (b++t63).length then some (b++t63)>>=λc=>if dT o.1 (o.2.1.ai.length:Int) o.2.1.ai.length then some (d' o.2.1.ai o.1 (o.2.1.ai.length:Int))>>=λt68=>if room 120 (c++t68).length then some (⟨o.2.1.Kind,o.2.1.bL,o.2.1.bc,o.2.1.bn,o.2.1.ae,a++t53,c++t68,o.2.1.Rest⟩:I)else none else none else none else none else none else none else none else none else none else none else none
theorem Ww:a6 aeE Ck:= .bh (.k Cu .n) (.k US .n)
mutual
def jF:Int×List ah×aq×Bool->Option (I×List ah×aq×Bool)
 |(t,b,e,f)=>
 if aH t b.length then some (b.getD t.toNat aN)>>=λa=>if (a.Kind=1:Bool) then iX (2,b,e,f)>>=λr=>some ((⟨a.Kind,decide (r.1=1),0,[],0,[],[],[]⟩:I),r.2.1,r.2.2.1,r.2.2.2)else if (a.Kind=2:Bool) then iX (256,b,e,f)>>=λbi=>some (aM .i64 (de .i64 a.bC a.bA) 1)>>=λt51=>if !(t51=0:Bool) then some ((⟨a.Kind,false,aM .i64 a.bA (b' bi.1 t51),[],0,[],[],[]⟩:I),bi.2.1,bi.2.2.1,bi.2.2.2)else none else if (a.Kind=3:Bool) then Cs (a.Max,b,e,f)>>=λaC=>some ((⟨a.Kind,false,0,aC.1,0,[],[],[]⟩:I),aC.2.1,aC.2.2.1,aC.2.2.2)else if (a.Kind=4:Bool) then iX ((a.bg.length:Int),b,e,f)>>=λp=>if aH p.1 a.bg.length then some (a.bg.getD p.1.toNat dL)>>=λhk=>if a.Open then uO (p.2.1,p.2.2.1,p.2.2.2)>>=λy=>if(bif a.Open then y.1 else false) then qs (a,y.2.1,y.2.2.1,y.2.2.2)>>=λa5=>some ((⟨a.Kind,false,0,[],a5.1,[],[],[]⟩:I),a5.2.1,a5.2.2.1,a5.2.2.2)else some ((⟨a.Kind,false,0,[],hk.ae,[],[],[]⟩:I),y.2.1,y.2.2.1,y.2.2.2)else if(bif a.Open then false else false) then qs (a,p.2.1,p.2.2.1,p.2.2.2)>>=λa9=>some ((⟨a.Kind,false,0,[],a9.1,[],[],[]⟩:I),a9.2.1,a9.2.2.1,a9.2.2.2)else some ((⟨a.Kind,false,0,[],hk.ae,[],[],[]⟩:I),p.2.1,p.2.2.1,p.2.2.2)else none else if (a.Kind=5:Bool) then mE (0,b,e,f,0,false,0,[],0,a.Kind,a.Name,a.bA,a.bC,a.Max,a.bg,a.ag,a.Key,a.aG,a.Open,a.Kind,false,0,[],0,[])>>=λo=>uO (o.1,o.2.1,o.2.2.1)>>=λz=>if z.1 then qs ((⟨o.2.2.2.2.2.2.2.2.1,o.2.2.2.2.2.2.2.2.2.1,o.2.2.2.2.2.2.2.2.2.2.1,o.2.2.2.2.2.2.2.2.2.2.2.1,o.2.2.2.2.2.2.2.2.2.2.2.2.1,o.2.2.2.2.2.2.2.2.2.2.2.2.2.1,o.2.2.2.2.2.2.2.2.2.2.2.2.2.2.1,o.2.2.2.2.2.2.2.2.2.2.2.2.2.2.2.1,o.2.2.2.2.2.2.2.2.2.2.2.2.2.2.2.2.1,o.2.2.2.2.2.2.2.2.2.2.2.2.2.2.2.2.2.1⟩:ah),z.2.1,z.2.2.1,z.2.2.2)>>=λba=>uP (ba.1,ba.2.1,ba.2.2.1,ba.2.2.2)>>=λbe=>some ((⟨o.2.2.2.2.2.2.2.2.2.2.2.2.2.2.2.2.2.2.1,o.2.2.2.2.2.2.2.2.2.2.2.2.2.2.2.2.2.2.2.1,o.2.2.2.2.2.2.2.2.2.2.2.2.2.2.2.2.2.2.2.2.1,o.2.2.2.2.2.2.2.2.2.2.2.2.2.2.2.2.2.2.2.2.2.1,o.2.2.2.2.2.2.2.2.2.2.2.2.2.2.2.2.2.2.2.2.2.2.1,[],o.2.2.2.2.2.2.2.2.2.2.2.2.2.2.2.2.2.2.2.2.2.2.2,[be.1]⟩:I),be.2.1,be.2.2.1,be.2.2.2)else some ((⟨o.2.2.2.2.2.2.2.2.2.2.2.2.2.2.2.2.2.2.1,o.2.2.2.2.2.2.2.2.2.2.2.2.2.2.2.2.2.2.2.1,o.2.2.2.2.2.2.2.2.2.2.2.2.2.2.2.2.2.2.2.2.1,o.2.2.2.2.2.2.2.2.2.2.2.2.2.2.2.2.2.2.2.2.2.1,o.2.2.2.2.2.2.2.2.2.2.2.2.2.2.2.2.2.2.2.2.2.2.1,[],o.2.2.2.2.2.2.2.2.2.2.2.2.2.2.2.2.2.2.2.2.2.2.2,[]⟩:I),z.2.1,z.2.2.1,z.2.2.2)else if (a.Kind=6:Bool) then if a.Open then uO (b,e,f)>>=λA=>if(bif a.Open then A.1 else false) then qs (a,A.2.1,A.2.2.1,A.2.2.2)>>=λZ=>uP (Z.1,Z.2.1,Z.2.2.1,Z.2.2.2)>>=λbo=>some ((⟨a.Kind,false,0,[],Z.1,[],[],[bo.1]⟩:I),bo.2.1,bo.2.2.1,bo.2.2.2)else iX ((a.ag.length:Int),A.2.1,A.2.2.1,A.2.2.2)>>=λaf=>if aH af.1 a.ag.length then some (a.ag.getD af.1.toNat aE)>>=λhm=>jF (hm.av,af.2.1,af.2.2.1,af.2.2.2)>>=λbs=>some ((⟨a.Kind,false,0,[],hm.ae,[],[I.eta bs.1],[]⟩:I),bs.2.1,bs.2.2.1,bs.2.2.2)else none else if(bif a.Open then false else false) then qs (a,b,e,f)>>=λam=>uP (am.1,am.2.1,am.2.2.1,am.2.2.2)>>=λbv=>some ((⟨a.Kind,false,0,[],am.1,[],[],[bv.1]⟩:I),bv.2.1,bv.2.2.1,bv.2.2.2)
 else iX ((a.ag.length:Int),b,e,f)>>=λan=>if aH an.1 a.ag.length then some (a.ag.getD an.1.toNat aE)>>=λhs=>jF (hs.av,an.2.1,an.2.2.1,an.2.2.2)>>=λbH=>some ((⟨a.Kind,false,0,[],hs.ae,[],[I.eta bH.1],[]⟩:I),bH.2.1,bH.2.2.1,bH.2.2.2)else none else if (a.Kind=7:Bool) then iX (aM .i64 (je a.Max 3) 1,b,e,f)>>=λbQ=>qp (bQ.1,bQ.2.1,bQ.2.2.1,bQ.2.2.2,0,false,0,[],0,a.Kind,a.Name,a.bA,a.bC,a.Max,a.bg,a.ag,a.Key,a.aG,a.Open,a.Kind,false,0,[],0,[])>>=λu=>some ((⟨u.2.2.2.2.2.2.2.2.1,u.2.2.2.2.2.2.2.2.2.1,u.2.2.2.2.2.2.2.2.2.2.1,u.2.2.2.2.2.2.2.2.2.2.2.1,u.2.2.2.2.2.2.2.2.2.2.2.2.1,[],u.2.2.2.2.2.2.2.2.2.2.2.2.2,[]⟩:I),u.1,u.2.1,u.2.2.1)else if (a.Kind=8:Bool) then iX (aM .i64 (je a.Max 3) 1,b,e,f)>>=λaI=>qq (aI.1,aI.2.1,aI.2.2.1,aI.2.2.2,0,false,0,[],0,a.Kind,a.Name,a.bA,a.bC,a.Max,a.bg,a.ag,a.Key,a.aG,a.Open,a.Kind,false,0,[],0,[],[],[])>>=λj=>some ((⟨j.2.2.2.2.2.2.2.2.1,j.2.2.2.2.2.2.2.2.2.1,j.2.2.2.2.2.2.2.2.2.2.1,j.2.2.2.2.2.2.2.2.2.2.2.1,j.2.2.2.2.2.2.2.2.2.2.2.2.1,j.2.2.2.2.2.2.2.2.2.2.2.2.2.1,j.2.2.2.2.2.2.2.2.2.2.2.2.2.2.1,j.2.2.2.2.2.2.2.2.2.2.2.2.2.2.2⟩:I),j.1,j.2.1,j.2.2.1)else iX (2,b,e,f)>>=λw=>if (w.1=1:Bool) then jF (a.aG,w.2.1,w.2.2.1,w.2.2.2)>>=λaZ=>some ((⟨a.Kind,false,0,[],0,[],[I.eta aZ.1],[]⟩:I),aZ.2.1,aZ.2.2.1,aZ.2.2.2)else some ((⟨a.Kind,false,0,[],0,[],[],[]⟩:I),w.2.1,w.2.2.1,w.2.2.2)else none
  partial_fixpoint
def mE:Int×List ah×aq×Bool×Int×Bool×Int×aj×Int×Int×aj×Int×Int×Int×List c4×List aS×Int×Int×Bool×Int×Bool×Int×aj×Int×List I->Option (List ah×aq×Bool×Int×Bool×Int×aj×Int×Int×aj×Int×Int×Int×List c4×List aS×Int×Int×Bool×Int×Bool×Int×aj×Int×List I)
 |(i,ap,ax,aB,D,E,F,G,H,J,K,L,M,N,O,c,P,Q,R,S,U,W,X,Y,q)=>
 if (i<(c.length:Int):Bool) then if aH i c.length then some (c.getD i.toNat aE)>>=λb0=>if b0.bZ then iX (3,ap,ax,aB)>>=λx=>if(bif b0.bZ then (x.1=0:Bool)else false) then if aH i c.length then some [I.eta (c.getD i.toNat aE).bw]>>=λt113=>if room 120 (q++t113).length then mE (aM .i64 i 1,x.2.1,x.2.2.1,x.2.2.2,D,E,F,G,H,J,K,L,M,N,O,c,P,Q,R,S,U,W,X,Y,q++t113)else none else none else if aH i c.length then jF ((c.getD i.toNat aE).av,x.2.1,x.2.2.1,x.2.2.2)>>=λa0=>some [I.eta a0.1]>>=λt126=>if room 120 (q++t126).length then mE (aM .i64 i 1,a0.2.1,a0.2.2.1,a0.2.2.2,D,E,F,G,H,J,K,L,M,N,O,c,P,Q,R,S,U,W,X,Y,q++t126)else none else none else if(bif b0.bZ then false else false) then if aH i c.length then some [I.eta (c.getD i.toNat aE).bw]>>=λg9=>if room 120 (q++g9).length then mE (aM .i64 i 1,ap,ax,aB,D,E,F,G,H,J,K,L,M,N,O,c,P,Q,R,S,U,W,X,Y,q++g9)else none else none else if aH i c.length then jF ((c.getD i.toNat aE).av,ap,ax,aB)>>=λa1=>some [I.eta a1.1]>>=λhe=>if room 120 (q++he).length then mE (aM .i64 i 1,a1.2.1,a1.2.2.1,a1.2.2.2,D,E,F,G,H,J,K,L,M,N,O,c,P,Q,R,S,U,W,X,Y,q++he)else none else none else none else some (ap,ax,aB,D,E,F,G,H,J,K,L,M,N,O,c,P,Q,R,S,U,W,X,Y,q)
  partial_fixpoint
def qp:Int×List ah×aq×Bool×Int×Bool×Int×aj×Int×Int×aj×Int×Int×Int×List c4×List aS×Int×Int×Bool×Int×Bool×Int×aj×Int×List I->Option (List ah×aq×Bool×Int×Bool×Int×aj×Int×Int×Bool×Int×aj×Int×List I)
 |(n,gs,gt,g0,g1,g2,g3,g4,g5,ip,i0,i1,i2,i3,i4,i5,i6,g6,i7,g7,b1,b2,b3,b4,bT)=>
 if (0<n:Bool) then jF (g6,gs,gt,g0)>>=λa2=>some [I.eta a2.1]>>=λt193=>if room 120 (bT++t193).length then qp (de .i64 n 1,a2.2.1,a2.2.2.1,a2.2.2.2,g1,g2,g3,g4,g5,ip,i0,i1,i2,i3,i4,i5,i6,g6,i7,g7,b1,b2,b3,b4,bT++t193)else none else some (gs,gt,g0,g1,g2,g3,g4,g5,g7,b1,b2,b3,b4,bT)
  partial_fixpoint
def qq:Int×List ah×aq×Bool×Int×Bool×Int×aj×Int×Int×aj×Int×Int×Int×List c4×List aS×Int×Int×Bool×Int×Bool×Int×aj×Int×List I×List I×List bY->Option (List ah×aq×Bool×Int×Bool×Int×aj×Int×Int×Bool×Int×aj×Int×List I×List I×List bY)
 |(g8,ce,ci,cq,cs,c7,ds,dt,eq,ht,hu,hw,hH,h0,h1,ii,es,ex,io,fd,ff,fo,fs,gc,gd,ge,gl)=>
 if (0<g8:Bool) then jF (es,ce,ci,cq)>>=λa3=>jF (ex,a3.2.1,a3.2.2.1,a3.2.2.2)>>=λa4=>Ck ((⟨fd,ff,fo,fs,gc,gd,ge,gl⟩:I),I.eta a3.1,I.eta a4.1)>>=λv=>qq (de .i64 g8 1,a4.2.1,a4.2.2.1,a4.2.2.2,cs,c7,ds,dt,eq,ht,hu,hw,hH,h0,h1,ii,es,ex,io,v.Kind,v.bL,v.bc,v.bn,v.ae,v.aw,v.ai,v.Rest)else some (ce,ci,cq,cs,c7,ds,dt,eq,fd,ff,fo,fs,gc,gd,ge,gl)
  partial_fixpoint
end
theorem Um:dY r' jF/\ez 112 1 [2] zv qq/\ez 112 1 [1] zu qp/\ez 112 1 [0] zt mE:=jF.mutual_partial_correctness (dV r') (ey 112 1 [2] zv) (ey 112 1 [1] zu) (ey 112 1 [0] zt)
 (λ_ _ _ _ h0 h1 a b _ _ h=>eb h (.k sQ (.k TV (.k T7 (.k Ul (.k TG (.k (cg r' h0) .n)))))) (.k (eL zt b) (.k (eL zu a) (.k (eL zv h1) .n))))
 (λ_ _ h0 h1 _ _ h=>eK zv h1 h (.k (cg r' h0) (.k Ww .n)))
 (λ_ _ h0 a _ _ h=>eK zu a h (.k (cg r' h0) .n))
 (λ_ _ h0 b _ _ h=>eK zt b h (.k sQ (.k (cg r' h0) .n)))
theorem Sq:a6 r' jF:=cg _ Um.1
def x5:aR×Int×aq->Option I
 |(s,t,a)=>
 some (je 60 (a.length:Int))>>=λt12=>if dT 0 t12 a.length then jF (t,s.Types,d' a 0 t12,false)>>=λr=>some (I.eta r.1)else none
theorem VB:a6 afs x5:= .bh (.k Sq .n)
def yC:aR×Int×aq->Option I
 |(s,t,a)=>
 some (je 60 (a.length:Int))>>=λt12=>if dT 0 t12 a.length then jF (t,s.Types,d' a 0 t12,true)>>=λr=>some (I.eta r.1)else none
theorem Ve:a6 aft yC:= .bh (.k Sq .n)
def pQ(d:k2):Option (aR×Int×I×I×Bool):=
 qB d.S>>=λr=>if !r.2 then some (r.1,0,(⟨0,false,0,[],0,[],[],[]⟩:I),(⟨0,false,0,[],0,[],[],[]⟩:I),false)else some (r.1.Types.length:Int)>>=λt26=>if !(t26=0:Bool) then some (b' (bW .i64 d.T) t26)>>=λt27=>x5 (r.1,t27,d.C)>>=λa=>yC (r.1,t27,d.C)>>=λb=>some (r.1,t27,I.eta a,I.eta b,true)else none
theorem Se:a6 ae6 pQ:= .bh (.k Sd (.k VB (.k Ve .n)))
def hA:List kB×Int×List dr->Option (List dr)
 |(d,i,a)=>
 if(bif (i<(d.length:Int):Bool)then (0<(a.length:Int):Bool)else false) then if aH i d.length then some (d.getD i.toNat nS)>>=λe=>some (a.length:Int)>>=λt38=>if !(t38=0:Bool) then some (b' (bW .i64 e.Node) t38)>>=λt39=>if aH t39 a.length then if (t39.toNat<a.length:Bool) then some (a.getD t39.toNat br).c0>>=λt46=>if room 3 ([]++t46).length then some ([]++t46)>>=λb=>if (t39.toNat<a.length:Bool) then if (t39.toNat=t39.toNat:Bool) then
 let n:=λc=>
 some (b' e.Kind 8)>>=λf=>if (f=0:Bool) then if (t39.toNat<a.length:Bool) then some (de .u8 (aM .u8 (a.getD t39.toNat br).A (b' e.A 5)) 2)>>=λj=>if (t39.toNat<a.length:Bool) then hA (d,aM .i64 i 1,(a.set t39.toNat (⟨(a.getD t39.toNat br).Kind,j,(a.getD t39.toNat br).B,(a.getD t39.toNat br).C,(a.getD t39.toNat br).c0⟩:dr)).set t39.toNat (⟨((a.set t39.toNat (⟨(a.getD t39.toNat br).Kind,j,(a.getD t39.toNat br).B,(a.getD t39.toNat br).C,(a.getD t39.toNat br).c0⟩:dr)).getD t39.toNat br).Kind,((a.set t39.toNat (⟨(a.getD t39.toNat br).Kind,j,(a.getD t39.toNat br).B,(a.getD t39.toNat br).C,(a.getD t39.toNat br).c0⟩:dr)).getD t39.toNat br).A,((a.set t39.toNat (⟨(a.getD t39.toNat br).Kind,j,(a.getD t39.toNat br).B,(a.getD t39.toNat br).C,(a.getD t39.toNat br).c0⟩:dr)).getD t39.toNat br).B,((a.set t39.toNat (⟨(a.getD t39.toNat br).Kind,j,(a.getD t39.toNat br).B,(a.getD t39.toNat br).C,(a.getD t39.toNat br).c0⟩:dr)).getD t39.toNat br).C,b⟩:dr))else none else none else if (f=1:Bool) then if (t39.toNat<a.length:Bool) then some (de .u8 (aM .u8 (a.getD t39.toNat br).B (b' e.B 5)) 2)>>=λk=>if (t39.toNat<a.length:Bool) then hA (d,aM .i64 i 1,(a.set t39.toNat (⟨(a.getD t39.toNat br).Kind,(a.getD t39.toNat br).A,k,(a.getD t39.toNat br).C,(a.getD t39.toNat br).c0⟩:dr)).set t39.toNat (⟨((a.set t39.toNat (⟨(a.getD t39.toNat br).Kind,(a.getD t39.toNat br).A,k,(a.getD t39.toNat br).C,(a.getD t39.toNat br).c0⟩:dr)).getD t39.toNat br).Kind,((a.set t39.toNat (⟨(a.getD t39.toNat br).Kind,(a.getD t39.toNat br).A,k,(a.getD t39.toNat br).C,(a.getD t39.toNat br).c0⟩:dr)).getD t39.toNat br).A,((a.set t39.toNat (⟨(a.getD t39.toNat br).Kind,(a.getD t39.toNat br).A,k,(a.getD t39.toNat br).C,(a.getD t39.toNat br).c0⟩:dr)).getD t39.toNat br).B,((a.set t39.toNat (⟨(a.getD t39.toNat br).Kind,(a.getD t39.toNat br).A,k,(a.getD t39.toNat br).C,(a.getD t39.toNat br).c0⟩:dr)).getD t39.toNat br).C,b⟩:dr))else none else none else if (f=2:Bool) then if (t39.toNat<a.length:Bool) then some (b' e.A 6)>>=λo=>if (0<=o:Bool) then some (uc .u8 (a.getD t39.toNat br).A (mO .u8 1 o))>>=λl=>if (t39.toNat<a.length:Bool) then hA (d,aM .i64 i 1,(a.set t39.toNat (⟨(a.getD t39.toNat br).Kind,l,(a.getD t39.toNat br).B,(a.getD t39.toNat br).C,(a.getD t39.toNat br).c0⟩:dr)).set t39.toNat (⟨((a.set t39.toNat (⟨(a.getD t39.toNat br).Kind,l,(a.getD t39.toNat br).B,(a.getD t39.toNat br).C,(a.getD t39.toNat br).c0⟩:dr)).getD t39.toNat br).Kind,((a.set t39.toNat (⟨(a.getD t39.toNat br).Kind,l,(a.getD t39.toNat br).B,(a.getD t39.toNat br).C,(a.getD t39.toNat br).c0⟩:dr)).getD t39.toNat br).A,((a.set t39.toNat (⟨(a.getD t39.toNat br).Kind,l,(a.getD t39.toNat br).B,(a.getD t39.toNat br).C,(a.getD t39.toNat br).c0⟩:dr)).getD t39.toNat br).B,((a.set t39.toNat (⟨(a.getD t39.toNat br).Kind,l,(a.getD t39.toNat br).B,(a.getD t39.toNat br).C,(a.getD t39.toNat br).c0⟩:dr)).getD t39.toNat br).C,b⟩:dr))else none else none else none else if (f=3:Bool) then if (t39.toNat<a.length:Bool) then some (aM .u8 (a.getD t39.toNat br).C e.A)>>=λm=>if (t39.toNat<a.length:Bool) then hA (d,aM .i64 i 1,(a.set t39.toNat (⟨(a.getD t39.toNat br).Kind,(a.getD t39.toNat br).A,(a.getD t39.toNat br).B,m,(a.getD t39.toNat br).c0⟩:dr)).set t39.toNat (⟨((a.set t39.toNat (⟨(a.getD t39.toNat br).Kind,(a.getD t39.toNat br).A,(a.getD t39.toNat br).B,m,(a.getD t39.toNat br).c0⟩:dr)).getD t39.toNat br).Kind,((a.set t39.toNat (⟨(a.getD t39.toNat br).Kind,(a.getD t39.toNat br).A,(a.getD t39.toNat br).B,m,(a.getD t39.toNat br).c0⟩:dr)).getD t39.toNat br).A,((a.set t39.toNat (⟨(a.getD t39.toNat br).Kind,(a.getD t39.toNat br).A,(a.getD t39.toNat br).B,m,(a.getD t39.toNat br).c0⟩:dr)).getD t39.toNat br).B,((a.set t39.toNat (⟨(a.getD t39.toNat br).Kind,(a.getD t39.toNat br).A,(a.getD t39.toNat br).B,m,(a.getD t39.toNat br).c0⟩:dr)).getD t39.toNat br).C,b⟩:dr))
 else none else none else if (f=4:Bool) then if (t39.toNat=t39.toNat:Bool) then if ((b.length:Int)<8:Bool) then if (t39.toNat=t39.toNat:Bool) then some [(⟨e.A,e.B,fv .u8 e.A 12⟩:lE)]>>=λp=>if room 3 (b++p).length then if (t39.toNat=t39.toNat:Bool) then hA (d,aM .i64 i 1,a.set t39.toNat (⟨(a.getD t39.toNat br).Kind,(a.getD t39.toNat br).A,(a.getD t39.toNat br).B,(a.getD t39.toNat br).C,b++p⟩:dr))else none else none else none else hA (d,aM .i64 i 1,a.set t39.toNat (⟨(a.getD t39.toNat br).Kind,(a.getD t39.toNat br).A,(a.getD t39.toNat br).B,(a.getD t39.toNat br).C,b⟩:dr))else none else if (f=5:Bool) then if (t39.toNat=t39.toNat:Bool) then if (0<(b.length:Int):Bool) then if (t39.toNat=t39.toNat:Bool) then if dT 0 c b.length then if (t39.toNat=t39.toNat:Bool) then some (aM .i64 c 1)>>=λg=>if dT g (b.length:Int) b.length then if((c.toNat+((b.length:Int).toNat-g.toNat)<=b.length:Bool)&&(g.toNat+((b.length:Int).toNat-g.toNat)<=b.length:Bool)) then if (t39.toNat=t39.toNat:Bool) then hA (d,aM .i64 i 1,a.set t39.toNat (⟨(a.getD t39.toNat br).Kind,(a.getD t39.toNat br).A,(a.getD t39.toNat br).B,(a.getD t39.toNat br).C,b.take c.toNat++(b.drop g.toNat).take ((b.length:Int).toNat-g.toNat)⟩:dr))else none else none else none else none else none else none else hA (d,aM .i64 i 1,a.set t39.toNat (⟨(a.getD t39.toNat br).Kind,(a.getD t39.toNat br).A,(a.getD t39.toNat br).B,(a.getD t39.toNat br).C,b⟩:dr))else none else if (f=6:Bool) then if (t39.toNat=t39.toNat:Bool) then if (0<(b.length:Int):Bool) then if (t39.toNat=t39.toNat:Bool) then if aH c b.length then if (c.toNat<b.length:Bool) then hA (d,aM .i64 i 1,a.set t39.toNat (⟨(a.getD t39.toNat br).Kind,(a.getD t39.toNat br).A,(a.getD t39.toNat br).B,(a.getD t39.toNat br).C,b.set c.toNat (⟨(b.getD c.toNat ja).ae,(b.getD c.toNat ja).av,e.B⟩:lE)⟩:dr))else none else none else none else hA (d,aM .i64 i 1,a.set t39.toNat (⟨(a.getD t39.toNat br).Kind,(a.getD t39.toNat br).A,(a.getD t39.toNat br).B,(a.getD t39.toNat br).C,b⟩:dr))else none else if (t39.toNat=t39.toNat:Bool) then if (0<(b.length:Int):Bool) then if (t39.toNat=t39.toNat:Bool) then if (t39.toNat=t39.toNat:Bool) then if aH c b.length then if (c.toNat<b.length:Bool) then if aH c b.length then if (c.toNat<b.length:Bool) then hA (d,aM .i64 i 1,a.set t39.toNat (⟨(a.getD t39.toNat br).Kind,(a.getD t39.toNat br).A,(a.getD t39.toNat br).B,(a.getD t39.toNat br).C,b.set c.toNat (⟨(b.getD c.toNat ja).ae,aM .u8 (b.getD c.toNat ja).av e.B,(b.getD c.toNat ja).gY⟩:lE)⟩:dr))else none else none else none else none else none else none else hA (d,aM .i64 i 1,a.set t39.toNat (⟨(a.getD t39.toNat br).Kind,(a.getD t39.toNat br).A,(a.getD t39.toNat br).B,(a.getD t39.toNat br).C,b⟩:dr))else none
 if (0<(b.length:Int):Bool) then if (t39.toNat=t39.toNat:Bool) then some (b.length:Int)>>=λt63=>if !(t63=0:Bool) then some (b' (bW .i64 e.A) t63)>>=λt64=>n t64 else none else none else n 0 else none else none else none else none else none else none else none else some a
  partial_fixpoint
theorem TW:cN 33 0 [0] Qw hA:= .rx hA.partial_correctness
def B6:ek×List kB->Option ek
 |(d,l)=>
 if room 32 ([]++d.ec).length then hA (l,0,[]++d.ec)>>=λo=>some (⟨o⟩:ek)else none
theorem Vf:a6 ae4 B6:= .bh .n (.k TW .n)
def q7:Int×Int×I->Option (Int×I)
 |(b,i,a)=>
 if(bif (i<(a.Rest.length:Int):Bool)then (0<=b:Bool)else false) then if aH i a.Rest.length then q7 (de .i64 b ((a.Rest.getD i.toNat bX).Data.length:Int),aM .i64 i 1,I.eta a)else none else some (b,I.eta a)
  partial_fixpoint
theorem Vg:cN 78 0 [0] QJ q7:= .rx q7.partial_correctness
mutual
def nW:I×Int->Option Int
 |(v,n)=>
 q7 (de .i64 n (aM .i64 (aM .i64 10 (v.bn.length:Int)) (v.Rest.length:Int)),0,I.eta v)>>=λo=>s0 (o.1,0,I.eta o.2)>>=λt=>s3 (t.1,0,I.eta t.2)>>=λu=>some u
  partial_fixpoint
def s0:Int×Int×I->Option (Int×I)
 |(p,f,a)=>
 if(bif (f<(a.aw.length:Int):Bool)then (0<=p:Bool)else false) then if aH f a.aw.length then nW (I.eta (a.aw.getD f.toNat au),p)>>=λr=>s0 (r,aM .i64 f 1,I.eta a)else none else some (p,I.eta a)
  partial_fixpoint
def s3:Int×Int×I->Option Int
 |(q,j,e)=>
 if(bif (j<(e.ai.length:Int):Bool)then (0<=q:Bool)else false) then if aH j e.ai.length then nW (I.eta (e.ai.getD j.toNat au),q)>>=λw=>s3 (w,aM .i64 j 1,I.eta e)else none else some q
  partial_fixpoint
end
theorem UT:dY xi nW/\ez 78 0 [2] xk s3/\ez 78 0 [1] xj s0:=nW.mutual_partial_correctness (dV xi) (ey 78 0 [2] xk) (ey 78 0 [1] xj)
 (λ_ _ h1 a _ _ h=>eb h .n (.k Vg (.k (eL xj a) (.k (eL xk h1) .n))))
 (λ_ _ h0 h1 _ _ h=>eK xk h1 h (.k (cg xi h0) .n))
 (λ_ _ h0 a _ _ h=>eK xj a h (.k (cg xi h0) .n))
theorem VC:a6 xi nW:=cg _ UT.1
def vq(v:I):Option Bool:=
 nW (I.eta v,3000)>>=λr=>some (decide (0<=r))
theorem SA:a6 ae7 vq:= .bh (.k VC .n)
def xL(c:mr):Option (aR×aR×Int×I×Bool):=
 pQ c.D>>=λr=>B6 (c.D.S,c.L)>>=λd=>qB d>>=λa=>some (bif bif (!r.2.2.2.2)then true else(!a.2)then true else decide (4<(c.L.length:Int)))>>=λt44=>(if !t44 then vq (I.eta r.2.2.1)else some false)>>=λb=>if(bif t44 then true else(!b)) then some ((⟨[]⟩:aR),(⟨[]⟩:aR),0,(⟨0,false,0,[],0,[],[],[]⟩:I),false)else some (r.1,a.1,r.2.1,I.eta r.2.2.1,true)
theorem WS:a6 aew xL:= .bh (.k Se (.k Vf (.k Sd (.k SA .n))))
def vm:Int×aj->Option aj
 |(a,b)=>
 if (0<a:Bool) then some (strOf [bW .u8 (b' a 256)])>>=λt10=>if (t10.length+b.length<=eC:Bool) then vm (fv .u64 a 256,t10++b)else none else some b
  partial_fixpoint
theorem UU:cN 50 0 [0] QB vm:= .rx vm.partial_correctness
def x9(n:Int):Option aj:=
 vm (n,[])>>=λo=>some o
theorem Wx:a6 afb x9:= .bh .n (.k UU .n)
def vn:Int×aq->Option (Int×aq)
 |(a,b)=>
 if (128<=a:Bool) then some [bW .u8 (aM .u64 (b' a 128) 128)]>>=λt11=>if room 1 (b++t11).length then vn (fv .u64 a 128,b++t11)else none else some (a,b)
  partial_fixpoint
theorem UW:cN 52 0 [0] QC vn:= .rx vn.partial_correctness
def rl(n:Int):Option aj:=
 vn (n,[])>>=λo=>some [bW .u8 o.1]>>=λt18=>if room 1 (o.2++t18).length then some (strOf (o.2++t18))else none
theorem Gh:a6 afd rl:= .bh .n (.k UW .n)
def ri(p:aj):Option aj:=
 rl (bW .u64 (p.length:Int))>>=λr=>if (r.length+p.length<=eC:Bool) then some (r++p)else none
theorem Gc:a6 aff ri:= .bh (.k Gh .n)
def pj:Int×I×I->Option ((Bool) ⊕ (I×I))
 |(i,a,b)=>
 if (i<(a.Rest.length:Int):Bool) then if aH i a.Rest.length then some (a.Rest.getD i.toNat bX)>>=λc=>if aH i b.Rest.length then some (b.Rest.getD i.toNat bX)>>=λd=>if !(hK c.ae d.ae&&(jz c.Data d.Data&&true)) then some (.inl false)else pj (aM .i64 i 1,I.eta a,I.eta b)else none else none else some (.inr (I.eta a,I.eta b))
  partial_fixpoint
theorem Uo:cN 49 0 [0] QA pj:= .rx pj.partial_correctness
mutual
def jG(e:I×I):Option Bool:=
 match e with
 |(a,b)=>
 if(bif bif bif bif bif (!(a.Kind=b.Kind:Bool))then true else(!(e6 a.bL b.bL))then true else(!(a.bc=b.bc:Bool))then true else(!(a.bn=b.bn:Bool))then true else(!(a.ae=b.ae:Bool))then true else(!((a.Rest.length:Int)=(b.Rest.length:Int):Bool))) then some false else pj (0,(⟨a.Kind,a.bL,a.bc,a.bn,a.ae,a.aw,a.ai,a.Rest⟩:I),(⟨b.Kind,b.bL,b.bc,b.bn,b.ae,b.aw,b.ai,b.Rest⟩:I))>>=λo=>match o with
 |.inl p=>
 some p
 |.inr c=>
 xI (c.1.aw,c.2.aw)>>=λr=>(if r then xI (c.1.ai,c.2.ai)else some false)>>=λq=>some (bif r then q else false)
  partial_fixpoint
def xI(e:List I×List I):Option Bool:=
 match e with
 |(a,b)=>
 if !((a.length:Int)=(b.length:Int):Bool) then some false else uN (a,b,0)>>=λo=>match o with
 |.inl p=>
 some p
 |.inr c=>
 some true
  partial_fixpoint
def uN:List I×List I×Int->Option ((Bool) ⊕ (Unit))
 |(f,j,i)=>
 if (i<(f.length:Int):Bool) then if aH i f.length then if aH i j.length then jG (I.eta (f.getD i.toNat au),I.eta (j.getD i.toNat au))>>=λr=>if !r then some (.inl false)else uN (f,j,aM .i64 i 1)else none else none else some (.inr ())
  partial_fixpoint
end
theorem Ut:dY Bq jG/\dY ES xI/\ez 89 0 [0] xm uN:=jG.mutual_partial_correctness (dV Bq) (dV ES) (ey 89 0 [0] xm)
 (λ_ h1 _ _ h=>eb h (.k (cg ES h1) .n) (.k Uo .n))
 (λ_ a _ _ h=>eb h .n (.k (eL xm a) .n))
 (λ_ _ h0 a _ _ h=>eK xm a h (.k (cg Bq h0) .n))
theorem xH:a6 Bq jG:=cg _ Ut.1
def x0:Int×Bool×aj->Option aj
 |(id,d,p)=>
 some (bW .u64 (gw .i64 2 id))>>=λt10=>if d then rl (aM .u64 t10 1)>>=λr=>ri p>>=λa=>if (r.length+a.length<=eC:Bool) then some (r++a)else none else rl t10>>=λb=>ri p>>=λc=>if (b.length+c.length<=eC:Bool) then some (b++c)else none
theorem SB:a6 afg x0:= .bh (.k Gh (.k Gc .n))
def mF:aj×Int×Int×List ah×I×ah->Option (aj×Int×List ah×I×ah)
 |(c,b,k,d,a,e)=>
 if (k<(a.Rest.length:Int):Bool) then if aH k a.Rest.length then if ((a.Rest.getD k.toNat bX).ae=b:Bool) then if aH k a.Rest.length then x0 (b,false,(a.Rest.getD k.toNat bX).Data)>>=λf=>if (c.length+f.length<=eC:Bool) then mF (c++f,b,aM .i64 k 1,d,I.eta a,e)else none else none else mF (c,b,aM .i64 k 1,d,I.eta a,e)else none else some (c,b,d,I.eta a,e)
  partial_fixpoint
theorem Up:cN 19 0 [0,2] Np mF:= .rx mF.partial_correctness (.k SB .n)
mutual
def iY:aR×Int×I->Option aj
 |(s,t,v)=>
 if aH t s.Types.length then some (s.Types.getD t.toNat aN)>>=λa=>if (a.Kind=1:Bool) then if v.bL then some [1]else some []else if (a.Kind=2:Bool) then vl v.bc>>=λr=>x9 r>>=λX=>some X else if (a.Kind=3:Bool) then some v.bn else if (a.Kind=4:Bool) then x9 (bW .u64 v.ae)>>=λan=>some an else if (a.Kind=9:Bool) then if ((v.ai.length:Int)=0:Bool) then some []else if aH 0 v.ai.length then iY (s,a.aG,I.eta (v.ai.getD (0:Int).toNat au))>>=λN=>if ([1].length+N.length<=eC:Bool) then some ([1]++N)else none else none else if (a.Kind=6:Bool) then if (0<(v.Rest.length:Int):Bool) then rl (bW .u64 v.ae)>>=λO=>if aH 0 v.Rest.length then some (v.Rest.getD (0:Int).toNat bX)>>=λS=>if (O.length+S.Data.length<=eC:Bool) then some (O++S.Data)else none else none else hB (a,v.ae)>>=λP=>rl (bW .u64 v.ae)>>=λQ=>if aH P.1 a.ag.length then if aH 0 v.ai.length then iY (s,(a.ag.getD P.1.toNat aE).av,I.eta (v.ai.getD (0:Int).toNat au))>>=λR=>if (Q.length+R.length<=eC:Bool) then some (Q++R)else none else none else none else if (a.Kind=7:Bool) then sU ([],0,s.Types,I.eta v,a)>>=λo=>some o else if (a.Kind=8:Bool) then sV ([],0,s.Types,I.eta v,a)>>=λU=>some U else oQ ([],1,s.Types,I.eta v,a)>>=λW=>some W else none
  partial_fixpoint
def sU:aj×Int×List ah×I×ah->Option aj
 |(F,i,b,z,H)=>
 if (i<(z.ai.length:Int):Bool) then if aH i z.ai.length then iY ((⟨b⟩:aR),H.aG,I.eta (z.ai.getD i.toNat au))>>=λY=>ri Y>>=λJ=>if (F.length+J.length<=eC:Bool) then sU (F++J,aM .i64 i 1,b,I.eta z,H)else none else none else some F
  partial_fixpoint
def sV:aj×Int×List ah×I×ah->Option aj
 |(G,q,D,j,E)=>
 if (q<(j.ai.length:Int):Bool) then if aH q j.aw.length then iY ((⟨D⟩:aR),E.Key,I.eta (j.aw.getD q.toNat au))>>=λZ=>ri Z>>=λK=>if (G.length+K.length<=eC:Bool) then some (G++K)>>=λt144=>if aH q j.ai.length then iY ((⟨D⟩:aR),E.aG,I.eta (j.ai.getD q.toNat au))>>=λaf=>ri af>>=λL=>if (t144.length+L.length<=eC:Bool) then sV (t144++L,aM .i64 q 1,D,I.eta j,E)else none else none else none else none else some G
  partial_fixpoint
def oQ:aj×Int×List ah×I×ah->Option aj
 |(y,id,A,c,p)=>
 if (id<=1000:Bool) then hB (p,id)>>=λe=>if e.2 then if aH e.1 p.ag.length then some (p.ag.getD e.1.toNat aE)>>=λB=>some (!B.bZ)>>=λt175=>if(aH e.1 c.ai.length||(!(!t175))) then (if !t175 then jG (I.eta (c.ai.getD e.1.toNat au),I.eta B.bw)else some false)>>=λam=>if(bif t175 then true else(!am)) then if aH e.1 c.ai.length then iY ((⟨A⟩:aR),B.av,I.eta (c.ai.getD e.1.toNat au))>>=λap=>x0 (id,B.cp,ap)>>=λM=>if (y.length+M.length<=eC:Bool) then mF (y++M,id,0,A,I.eta c,p)>>=λu=>oQ (u.1,aM .i64 u.2.1 1,u.2.2.1,I.eta u.2.2.2.1,u.2.2.2.2)else none else none else mF (y,id,0,A,I.eta c,p)>>=λw=>oQ (w.1,aM .i64 w.2.1 1,w.2.2.1,I.eta w.2.2.2.1,w.2.2.2.2)else none else none else mF (y,id,0,A,I.eta c,p)>>=λx=>oQ (x.1,aM .i64 x.2.1 1,x.2.2.1,I.eta x.2.2.2.1,x.2.2.2.2)else some y
  partial_fixpoint
end
theorem TH:dY sb iY/\ez 19 0 [2] xa oQ/\ez 19 0 [1] w9 sV/\ez 19 0 [0] w8 sU:=iY.mutual_partial_correctness (dV sb) (ey 19 0 [2] xa) (ey 19 0 [1] w9) (ey 19 0 [0] w8)
 (λ_ _ _ _ h0 h1 a b _ _ h=>eb h (.k Sw (.k Wx (.k (cg sb h0) (.k Gh (.k mi .n))))) (.k (eL w8 b) (.k (eL w9 a) (.k (eL xa h1) .n))))
 (λ_ _ h0 h1 _ _ h=>eK xa h1 h (.k mi (.k xH (.k (cg sb h0) (.k SB .n)))) (.k Up .n))
 (λ_ _ h0 a _ _ h=>eK w9 a h (.k (cg sb h0) (.k Gc .n)))
 (λ_ _ h0 b _ _ h=>eK w8 b h (.k (cg sb h0) (.k Gc .n)))
theorem B0:a6 sb iY:=cg _ TH.1
def xM(c:nn):Option (dg×dg×aj×Bool):=
 xL c.C>>=λr=>if !r.2.2.2.2 then some ((⟨(⟨[]⟩:aR),0⟩:dg),(⟨(⟨[]⟩:aR),0⟩:dg),[],false)else if c.wS then pQ c.C.D>>=λa=>vq (I.eta a.2.2.2.1)>>=λb=>if !b then some ((⟨(⟨[]⟩:aR),0⟩:dg),(⟨(⟨[]⟩:aR),0⟩:dg),[],false)else iY (r.1,r.2.2.1,I.eta a.2.2.2.1)>>=λd=>some ((⟨r.1,r.2.2.1⟩:dg),(⟨r.2.1,r.2.2.1⟩:dg),d,true)else vq (I.eta r.2.2.2.1)>>=λe=>if !e then some ((⟨(⟨[]⟩:aR),0⟩:dg),(⟨(⟨[]⟩:aR),0⟩:dg),[],false)else iY (r.1,r.2.2.1,I.eta r.2.2.2.1)>>=λf=>some ((⟨r.1,r.2.2.1⟩:dg),(⟨r.2.1,r.2.2.1⟩:dg),f,true)
theorem WT:a6 A' xM:= .bh (.k WS (.k Se (.k SA (.k B0 .n))))
def pg:List c4×List c4×Int×Int->Option ((Bool) ⊕ (Unit))
 |(a,b,c,t13)=>
 if (t13<c:Bool) then if aH t13 a.length then some (a.getD t13.toNat dL)>>=λd=>if aH t13 b.length then some (b.getD t13.toNat dL)>>=λe=>if !(hK d.ae e.ae&&(jz d.Name e.Name&&true)) then some (.inl false)else pg (a,b,c,aM .i64 t13 1)else none else none else some (.inr ())
  partial_fixpoint
theorem Uf:cN 239 0 [0] Od pg:= .rx pg.partial_correctness
def Cq(c:List c4×List c4):Option Bool:=
 match c with
 |(s1,a)=>
 if !((s1.length:Int)=(a.length:Int):Bool) then some false else pg (s1,a,(s1.length:Int),0)>>=λo=>match o with
 |.inl b=>
 some b
 |.inr d=>
 some true
theorem Uh:a6 Qi Cq:= .bh .n (.k Uf .n)
def ph:List bY×List bY×Int×Int->Option ((Bool) ⊕ (Unit))
 |(a,b,c,t13)=>
 if (t13<c:Bool) then if aH t13 a.length then some (a.getD t13.toNat bX)>>=λd=>if aH t13 b.length then some (b.getD t13.toNat bX)>>=λe=>if !(hK d.ae e.ae&&(jz d.Data e.Data&&true)) then some (.inl false)else ph (a,b,c,aM .i64 t13 1)else none else none else some (.inr ())
  partial_fixpoint
theorem Ui:cN 103 0 [0] Oe ph:= .rx ph.partial_correctness
def xG(c:List bY×List bY):Option Bool:=
 match c with
 |(s1,a)=>
 if !((s1.length:Int)=(a.length:Int):Bool) then some false else ph (s1,a,(s1.length:Int),0)>>=λo=>match o with
 |.inl b=>
 some b
 |.inr d=>
 some true
theorem RN:a6 Pp xG:= .bh .n (.k Ui .n)
mutual
def lI:I×I->Option Bool
 |(a,b)=>
 some (bif bif bif bif decide (a.Kind=b.Kind)then e6 a.bL b.bL else false then decide (a.bc=b.bc)else false then decide (a.bn=b.bn)else false then decide (a.ae=b.ae)else false)>>=λt37=>(if t37 then xG (a.Rest,b.Rest)else some false)>>=λr=>some (bif t37 then r else false)>>=λt44=>(if t44 then xE (a.aw,b.aw)else some false)>>=λq=>some (bif t44 then q else false)>>=λt51=>(if t51 then xE (a.ai,b.ai)else some false)>>=λt=>some (bif t51 then t else false)
  partial_fixpoint
def xE(c:List I×List I):Option Bool:=
 match c with
 |(s1,f)=>
 if !((s1.length:Int)=(f.length:Int):Bool) then some false else uT (f,s1,(s1.length:Int),0)>>=λo=>match o with
 |.inl p=>
 some p
 |.inr u=>
 some true
  partial_fixpoint
def uT:List I×List I×Int×Int->Option ((Bool) ⊕ (Unit))
 |(e,t15,j,t17)=>
 if (t17<j:Bool) then if aH t17 t15.length then if aH t17 e.length then lI (I.eta (t15.getD t17.toNat au),I.eta (e.getD t17.toNat au))>>=λr=>if !r then some (.inl false)else uT (e,t15,j,aM .i64 t17 1)else none else none else some (.inr ())
  partial_fixpoint
end
theorem Wu:dY xc lI/\dY D1 xE/\ez 104 0 [0] y' uT:=lI.mutual_partial_correctness (dV xc) (dV D1) (ey 104 0 [0] y')
 (λ_ h1 _ _ h=>eb h (.k RN (.k (cg D1 h1) .n)))
 (λ_ a _ _ h=>eb h .n (.k (eL y' a) .n))
 (λ_ _ h0 a _ _ h=>eK y' a h (.k (cg xc h0) .n))
theorem Tn:a6 xc lI:=cg _ Wu.1
def xN:aS×aS->Option Bool
 |(a,y)=>
 some (bif bif bif bif decide (a.ae=y.ae)then decide (a.Name=y.Name)else false then decide (a.av=y.av)else false then e6 a.cp y.cp else false then e6 a.bZ y.bZ else false)>>=λt37=>(if t37 then lI ((⟨a.bw.Kind,a.bw.bL,a.bw.bc,a.bw.bn,a.bw.ae,a.bw.aw,a.bw.ai,a.bw.Rest⟩:I),I.eta y.bw)else some false)>>=λr=>some (bif t37 then r else false)
theorem WU:a6 Ql xN:= .bh (.k Tn .n)
def pc:List aS×List aS×Int×Int->Option ((Bool) ⊕ (Unit))
 |(c,t15,d,t17)=>
 if (t17<d:Bool) then if aH t17 t15.length then some (t15.getD t17.toNat aE)>>=λa=>if aH t17 c.length then some (c.getD t17.toNat aE)>>=λb=>xN ((⟨a.ae,a.Name,a.av,a.cp,a.bZ,I.eta a.bw⟩:aS),(⟨b.ae,b.Name,b.av,b.cp,b.bZ,I.eta b.bw⟩:aS))>>=λr=>if !r then some (.inl false)else pc (c,t15,d,aM .i64 t17 1)else none else none else some (.inr ())
  partial_fixpoint
theorem TA:cN 240 0 [0] NB pc:= .rx pc.partial_correctness (.k WU .n)
def Cn(c:List aS×List aS):Option Bool:=
 match c with
 |(s1,a)=>
 if !((s1.length:Int)=(a.length:Int):Bool) then some false else pc (a,s1,(s1.length:Int),0)>>=λo=>match o with
 |.inl b=>
 some b
 |.inr d=>
 some true
theorem TB:a6 Qk Cn:= .bh .n (.k TA .n)
def hY:ah×ah->Option Bool
 |(a,b)=>
 some (bif bif bif bif bif bif bif decide (a.Kind=b.Kind)then decide (a.Name=b.Name)else false then decide (a.bA=b.bA)else false then decide (a.bC=b.bC)else false then decide (a.Max=b.Max)else false then decide (a.Key=b.Key)else false then decide (a.aG=b.aG)else false then e6 a.Open b.Open else false)>>=λt58=>(if t58 then Cq (a.bg,b.bg)else some false)>>=λr=>some (bif t58 then r else false)>>=λt65=>(if t65 then Cn (a.ag,b.ag)else some false)>>=λc=>some (bif t65 then c else false)
theorem XF:a6 PY hY:= .bh (.k Uh (.k TB .n))
def xO(c:Int):Option Bool:=
 some (bif bif decide (c=95)then true else bif decide (97<=c)then decide (c<=122)else false then true else bif decide (65<=c)then decide (c<=90)else false)
theorem Sf:a6 Qe xO:= .bh
def CZ(c:Int):Option Bool:=
 some (bif decide (48<=c)then decide (c<=57)else false)
theorem Wv:a6 Qf CZ:= .bh
def k3:aj×Int×Int->Option ((Bool) ⊕ (Unit))
 |(a,b,t19)=>
 if (t19<b:Bool) then if aH t19 a.length then xO (fr a t19)>>=λc=>some (!c)>>=λt26=>if(aH t19 a.length||(!t26)) then (if t26 then CZ (fr a t19)else some false)>>=λd=>if(bif t26 then(!d)else false) then some (.inl false)else k3 (a,b,aM .i64 t19 1)else none else none else some (.inr ())
  partial_fixpoint
theorem Wy:cN 208 0 [0] NC k3:= .rx k3.partial_correctness (.k Sf (.k Wv .n))
def kG(s:aj):Option Bool:=
 some (bif decide (s=[])then true else decide (24<(s.length:Int)))>>=λt10=>if(aH 0 s.length||(!(!t10))) then (if !t10 then xO (fr s 0)else some false)>>=λr=>if(bif t10 then true else(!r)) then some false else k3 (s,(s.length:Int),0)>>=λo=>match o with
 |.inl a=>
 some a
 |.inr b=>
 some true else none
theorem Te:a6 PV kG:= .bh (.k Sf .n) (.k Wy .n)
def pR:aq×List aj×aq×Int×Int×List aj->Option ((Bool) ⊕ aq)
 |(c,a,t9,e,t11,b)=>
 if (t11<e:Bool) then if aH t11 t9.length then some (t9.getD t11.toNat 0)>>=λd=>some (bif decide (d<1)then true else decide (1000<d))>>=λt21=>some (decide (0<t11))>>=λt24=>some (de .i64 t11 1)>>=λt29=>if(aH t29 c.length||(!((!t21)&&t24))) then some (bif t21 then true else bif t24 then decide (d<=c.getD t29.toNat 0)else false)>>=λt34=>if(aH t11 a.length||(!(!t34))) then some (bif t34 then true else jd b (a.getD t11.toNat []))>>=λt42=>if(aH t11 a.length||(!(!t42))) then (if !t42 then kG (a.getD t11.toNat [])else some false)>>=λr=>if(bif t42 then true else(!r)) then some (.inl false)else if aH t11 a.length then pR (c,a,t9,e,aM .i64 t11 1,iR b (a.getD t11.toNat []))else none else none else none else none else none else some (.inr c)
  partial_fixpoint
theorem V':cN 237 0 [0] ND pR:= .rx pR.partial_correctness (.k Te .n)
def yU(c:aq×List aj):Option Bool:=
 match c with
 |(l,names)=>
 pR (l,names,l,(l.length:Int),0,[])>>=λo=>match o with
 |.inl a=>
 some a
 |.inr b=>
 some (decide ((b.length:Int)<=16))
theorem SU:a6 Qg yU:= .bh .n (.k V' .n)
def rb:List c4×List c4×Int×Int×aq×List aj->Option (List c4×aq×List aj)
 |(c,t7,d,t9,a,b)=>
 if (t9<d:Bool) then if aH t9 t7.length then some (t7.getD t9.toNat dL)>>=λe=>some [e.ae]>>=λt16=>if room 8 (a++t16).length then some [e.Name]>>=λt21=>if room 16 (b++t21).length then rb (c,t7,d,aM .i64 t9 1,a++t16,b++t21)else none else none else none else some (c,a,b)
  partial_fixpoint
theorem VX:cN 209 0 [0] NF rb:= .rx rb.partial_correctness
def vB(l:List c4):Option Bool:=
 rb (l,l,(l.length:Int),0,[],[])>>=λo=>some (decide (0<(o.1.length:Int)))>>=λt26=>(if t26 then yU (o.2.1,o.2.2)else some false)>>=λr=>some (bif t26 then r else false)
theorem WV:a6 PW vB:= .bh (.k SU .n) (.k VX .n)
def C9(v:I):Option Bool:=
 lI (I.eta v,(⟨0,false,0,[],0,[],[],[]⟩:I))>>=λr=>some r
theorem XG:a6 Qh C9:= .bh (.k Tn .n)
def pK:List aS×Int×Int×ah×aq×List aj->Option ((Bool) ⊕ (ah×aq×List aj))
 |(t8,e,t10,b,c,d)=>
 if (t10<e:Bool) then if aH t10 t8.length then some (t8.getD t10.toNat aE)>>=λa=>some [a.ae]>>=λt17=>if room 8 (c++t17).length then some [a.Name]>>=λt22=>if room 16 (d++t22).length then some (bif bif decide (b.Kind=6)then bif a.cp then true else a.bZ else false then true else bif a.cp then a.bZ else false)>>=λt42=>some (!a.bZ)>>=λt46=>(if((!t42)&&t46) then C9 (I.eta a.bw)else some false)>>=λf=>if(bif t42 then true else bif t46 then(!f)else false) then some (.inl false)else pK (t8,e,aM .i64 t10 1,b,c++t17,d++t22)else none else none else none else some (.inr (b,c,d))
  partial_fixpoint
theorem VY:cN 210 0 [0] NG pK:= .rx pK.partial_correctness (.k XG .n)
def sL(t:ah):Option Bool:=
 pK (t.ag,(t.ag.length:Int),0,t,[],[])>>=λo=>match o with
 |.inl b=>
 some b
 |.inr a=>
 some (bif decide (a.1.Kind=5)then true else decide (0<(a.2.1.length:Int)))>>=λt62=>(if t62 then yU (a.2.1,a.2.2)else some false)>>=λr=>some (bif t62 then r else false)
theorem Wh:a6 PX sL:= .bh (.k SU .n) (.k VY .n)
def gu(t:ah):Option Bool:=
 if (t.Kind=1:Bool) then hY ((⟨0,t.Name,t.bA,t.bC,t.Max,t.bg,t.ag,t.Key,t.aG,t.Open⟩:ah),(⟨0,[],0,0,0,[],[],0,0,false⟩:ah))>>=λr=>some r else if (t.Kind=2:Bool) then some (decide (t.bA<=t.bC))>>=λt17=>(if t17 then hY ((⟨0,t.Name,0,0,t.Max,t.bg,t.ag,t.Key,t.aG,t.Open⟩:ah),(⟨0,[],0,0,0,[],[],0,0,false⟩:ah))else some false)>>=λj=>some (bif t17 then j else false)else if (t.Kind=3:Bool) then some (bif decide (0<=t.Max)then decide (t.Max<=200)else false)>>=λt29=>(if t29 then hY ((⟨0,t.Name,t.bA,t.bC,0,t.bg,t.ag,t.Key,t.aG,t.Open⟩:ah),(⟨0,[],0,0,0,[],[],0,0,false⟩:ah))else some false)>>=λv=>some (bif t29 then v else false)else if (t.Kind=4:Bool) then kG t.Name>>=λe=>(if e then vB t.bg else some false)>>=λA=>some (bif e then A else false)>>=λt40=>(if t40 then hY ((⟨0,[],t.bA,t.bC,t.Max,[],t.ag,t.Key,t.aG,false⟩:ah),(⟨0,[],0,0,0,[],[],0,0,false⟩:ah))else some false)>>=λB=>some (bif t40 then B else false)else some (decide (t.Kind=5))>>=λt45=>if t45 then if t45 then kG t.Name>>=λf=>(if f then sL t else some false)>>=λC=>some (bif f then C else false)>>=λt53=>(if t53 then hY ((⟨0,[],t.bA,t.bC,t.Max,t.bg,[],t.Key,t.aG,bif t.Open then decide (t.Kind=5)else false⟩:ah),(⟨0,[],0,0,0,[],[],0,0,false⟩:ah))else some false)>>=λD=>some (bif t53 then D else false)else some (decide (t.Kind=7))>>=λt65=>if t65 then if t65 then some (bif decide (0<=t.Max)then decide (t.Max<=50)else false)>>=λt74=>if (t.Kind=8:Bool) then (if t74 then hY ((⟨0,t.Name,t.bA,t.bC,0,t.bg,t.ag,0,0,t.Open⟩:ah),(⟨0,[],0,0,0,[],[],0,0,false⟩:ah))else some false)>>=λE=>some (bif t74 then E else false)else (if t74 then hY ((⟨0,t.Name,t.bA,t.bC,0,t.bg,t.ag,t.Key,0,t.Open⟩:ah),(⟨0,[],0,0,0,[],[],0,0,false⟩:ah))else some false)>>=λk=>some (bif t74 then k else false)else if (t.Kind=9:Bool) then hY ((⟨0,t.Name,t.bA,t.bC,t.Max,t.bg,t.ag,t.Key,0,t.Open⟩:ah),(⟨0,[],0,0,0,[],[],0,0,false⟩:ah))>>=λl=>some l else some false else if (t.Kind=8:Bool) then some (bif decide (0<=t.Max)then decide (t.Max<=50)else false)>>=λa=>if (t.Kind=8:Bool) then (if a then hY ((⟨0,t.Name,t.bA,t.bC,0,t.bg,t.ag,0,0,t.Open⟩:ah),(⟨0,[],0,0,0,[],[],0,0,false⟩:ah))else some false)>>=λm=>some (bif a then m else false)else (if a then hY ((⟨0,t.Name,t.bA,t.bC,0,t.bg,t.ag,t.Key,0,t.Open⟩:ah),(⟨0,[],0,0,0,[],[],0,0,false⟩:ah))else some false)>>=λn=>some (bif a then n else false)else if (t.Kind=9:Bool) then hY ((⟨0,t.Name,t.bA,t.bC,t.Max,t.bg,t.ag,t.Key,0,t.Open⟩:ah),(⟨0,[],0,0,0,[],[],0,0,false⟩:ah))>>=λo=>some o else some false else if (t.Kind=6:Bool) then kG t.Name>>=λd=>(if d then sL t else some false)>>=λp=>some (bif d then p else false)>>=λg=>(if g then hY ((⟨0,[],t.bA,t.bC,t.Max,t.bg,[],t.Key,t.aG,bif t.Open then decide (t.Kind=5)else false⟩:ah),(⟨0,[],0,0,0,[],[],0,0,false⟩:ah))else some false)>>=λq=>some (bif g then q else false)else some (decide (t.Kind=7))>>=λi=>if i then if i then some (bif decide (0<=t.Max)then decide (t.Max<=50)else false)>>=λb=>if (t.Kind=8:Bool) then (if b then hY ((⟨0,t.Name,t.bA,t.bC,0,t.bg,t.ag,0,0,t.Open⟩:ah),(⟨0,[],0,0,0,[],[],0,0,false⟩:ah))else some false)>>=λs=>some (bif b then s else false)
 else (if b then hY ((⟨0,t.Name,t.bA,t.bC,0,t.bg,t.ag,t.Key,0,t.Open⟩:ah),(⟨0,[],0,0,0,[],[],0,0,false⟩:ah))else some false)>>=λu=>some (bif b then u else false)else if (t.Kind=9:Bool) then hY ((⟨0,t.Name,t.bA,t.bC,t.Max,t.bg,t.ag,t.Key,0,t.Open⟩:ah),(⟨0,[],0,0,0,[],[],0,0,false⟩:ah))>>=λw=>some w else some false else if (t.Kind=8:Bool) then some (bif decide (0<=t.Max)then decide (t.Max<=50)else false)>>=λc=>if (t.Kind=8:Bool) then (if c then hY ((⟨0,t.Name,t.bA,t.bC,0,t.bg,t.ag,0,0,t.Open⟩:ah),(⟨0,[],0,0,0,[],[],0,0,false⟩:ah))else some false)>>=λx=>some (bif c then x else false)else (if c then hY ((⟨0,t.Name,t.bA,t.bC,0,t.bg,t.ag,t.Key,0,t.Open⟩:ah),(⟨0,[],0,0,0,[],[],0,0,false⟩:ah))else some false)>>=λy=>some (bif c then y else false)else if (t.Kind=9:Bool) then hY ((⟨0,t.Name,t.bA,t.bC,t.Max,t.bg,t.ag,t.Key,0,t.Open⟩:ah),(⟨0,[],0,0,0,[],[],0,0,false⟩:ah))>>=λz=>some z else some false
theorem W5:a6 PB gu:= .bh (.k XF (.k Te (.k WV (.k Wh .n))))
def qC:List aS×Int×Int×ah×aq->Option (ah×aq)
 |(t7,c,t9,b,a)=>
 if (t9<c:Bool) then if aH t9 t7.length then some [(t7.getD t9.toNat aE).av]>>=λt16=>if room 8 (a++t16).length then qC (t7,c,aM .i64 t9 1,b,a++t16)else none else none else some (b,a)
  partial_fixpoint
theorem Wi:cN 170 0 [0] NH qC:= .rx qC.partial_correctness
def CI(t:ah):Option aq:=
 qC (t.ag,(t.ag.length:Int),0,t,[])>>=λo=>if (o.1.Kind=8:Bool) then some [o.1.Key]>>=λt25=>if room 8 (o.2++t25).length then some (o.2++t25)>>=λl=>if (7<=o.1.Kind:Bool) then some [o.1.aG]>>=λt33=>if room 8 (l++t33).length then some (l++t33)else none else some l else none else if (7<=o.1.Kind:Bool) then some [o.1.aG]>>=λa=>if room 8 (o.2++a).length then some (o.2++a)else none else some o.2
theorem W6:a6 PC CI:= .bh .n (.k Wi .n)
def pL:List ah×Int×Int×aq×Int×Int×List ah×List aj×Int×aj×Int×Int×Int×List c4×List aS×Int×Int×Bool->Option ((Int) ⊕ (List ah×Int×Int×List ah×List aj×Int×aj×Int×Int×Int×List c4×List aS×Int×Int×Bool))
 |(n,o,p,t38,q,t40,a,b,c,d,e,f,g,i,j,k,l,m)=>
 if (t40<q:Bool) then if aH t40 t38.length then some (t38.getD t40.toNat 0)>>=λr=>if(bif (r<0:Bool)then true else ((a.length:Int)<=r:Bool)) then some (.inl 4)else pL (n,o,p,t38,q,aM .i64 t40 1,a,b,c,d,e,f,g,i,j,k,l,m)else none else some (.inr (n,o,p,a,b,c,d,e,f,g,i,j,k,l,m))
  partial_fixpoint
theorem VZ:cN 139 0 [0,0] Mb pL:= .rx pL.partial_correctness
def rm(j:List ah×Int×Int×List ah×List aj):Option ((Int) ⊕ (Unit)):=
 match j with
 |(t14,f,t16,b,d)=>
 if (t16<f:Bool) then if aH t16 t14.length then some (t14.getD t16.toNat aN)>>=λa=>gu a>>=λr=>if(bif (!r)then true else bif (!(a.Name=[]:Bool))then jd d a.Name else false) then some (.inl 1)else CI a>>=λe=>pL (t14,f,t16,e,(e.length:Int),0,b,iR d a.Name,a.Kind,a.Name,a.bA,a.bC,a.Max,a.bg,a.ag,a.Key,a.aG,a.Open)>>=λg=>match g with
 |.inl i=>
 some (.inl i)
 |.inr c=>
 some (decide (c.2.2.2.2.2.1=8))>>=λt56=>if(aH c.2.2.2.2.2.2.2.2.2.2.2.2.1 c.2.2.2.1.length||(!t56)) then some (decide ((c.2.2.2.1.getD c.2.2.2.2.2.2.2.2.2.2.2.2.1.toNat aN).Kind<1))>>=λt65=>if(aH c.2.2.2.2.2.2.2.2.2.2.2.2.1 c.2.2.2.1.length||(!(t56&&(!t65)))) then if(bif t56 then bif t65 then true else (4<(c.2.2.2.1.getD c.2.2.2.2.2.2.2.2.2.2.2.2.1.toNat aN).Kind:Bool)else false) then some (.inl 1)else rm (c.1,c.2.1,aM .i64 c.2.2.1 1,c.2.2.2.1,c.2.2.2.2.1)else none else none else none else some (.inr ())
  partial_fixpoint
theorem Wz:cN 139 0 [0] NI rm:= .rx rm.partial_correctness (.k W5 (.k W6 .n)) (.k VZ .n)
def pq(s:aR):Option Int:=
 if (32<(s.Types.length:Int):Bool) then some 3 else rm (s.Types,(s.Types.length:Int),0,s.Types,[])>>=λo=>match o with
 |.inl a=>
 some a
 |.inr b=>
 some 0
theorem xP:a6 Bd pq:= .bh .n (.k Wz .n)
def uV(r:dg):Option Int:=
 pq r.cM>>=λa=>if !(a=0:Bool) then some a else if(bif (r.av<0:Bool)then true else ((r.cM.Types.length:Int)<=r.av:Bool)) then some 4 else some 0
theorem Wa:a6 EC uV:= .bh (.k xP .n)
def mo:List dg×Int×Int->Option ((Int) ⊕ (Unit))
 |(t6,a,t8)=>
 if (t8<a:Bool) then if aH t8 t6.length then uV (t6.getD t8.toNat Ii)>>=λr=>if !(r=0:Bool) then some (.inl r)else mo (t6,a,aM .i64 t8 1)else none else some (.inr ())
  partial_fixpoint
theorem VD:cN 65 0 [0] EN mo:= .rx mo.partial_correctness (.k Wa .n)
def C0(l:List dg):Option Int:=
 mo (l,(l.length:Int),0)>>=λo=>match o with
 |.inl a=>
 some a
 |.inr b=>
 some 0
theorem Wb:a6 EM C0:= .bh .n (.k VD .n)
def hC:Int×List ah×aq×Int×aq->Option (I×Bool×List ah×Int×aq×aq)
 |(c,b,e,f,a)=>
 th 8 a>>=λr=>if((r.1.length=a.length:Bool)&&true) then some ((⟨0,false,0,[],0,[],[],[]⟩:I),false,b,c,r.1,r.2)else none
theorem q6:a6 PD hC:= .bh (.k nM .n)
def mm:aj×Int×Int×Int->Option Int
 |(a,b,c,t18)=>
 if (t18<c:Bool) then if aH t18 a.length then mm (a,rE .u64 (mO .u64 b 8) (bW .u64 (fr a t18)),c,aM .i64 t18 1)else none else some b
  partial_fixpoint
theorem V0:cN 172 0 [0] NJ mm:= .rx mm.partial_correctness
def sM(s:aj):Option (Int×Int):=
 some (!(decide (s=[])))>>=λt7=>if(aH 0 s.length||(!t7)) then if(bif t7 then (fr s 0=0:Bool)else false) then some (0,2)else if (8<(s.length:Int):Bool) then some (0,7)else mm (s,0,(s.length:Int),0)>>=λo=>some (o,0)else none
theorem Wj:a6 PE sM:= .bh .n (.k V0 .n)
def Cl(n:Int):Option Int:=
 some (uc .i64 (bW .i64 (lr .u64 n 1)) (de .i64 0 (bW .i64 (A3 .u64 n 1))))
theorem WA:a6 PF Cl:= .bh
def FW:c4×Int->Option (Bool×Int)
 |(a,b)=>
 some (decide (a.ae=b),b)
theorem WB:a6 PU FW:= .bh
def nc:List c4×Int×Int×Int->Option ((Int×Int) ⊕ (Int))
 |(a,c,t8,b)=>
 if (t8<c:Bool) then if aH t8 a.length then FW (a.getD t8.toNat dL,b)>>=λr=>if r.1 then some (.inl (t8,r.2))else nc (a,c,aM .i64 t8 1,r.2)else none else some (.inr b)
  partial_fixpoint
theorem TD:cN 205 1 [0] NK nc:= .rx nc.partial_correctness (.k WB .n)
def F1(d:List c4×Int):Option (Int×Int):=
 match d with
 |(s,b)=>
 nc (s,(s.length:Int),0,b)>>=λo=>match o with
 |.inl a=>
 some (a.1,a.2)
 |.inr c=>
 some ((-1),c)
theorem Uc:a6 PT F1:= .bh .n (.k TD .n)
def sO:ah×Int->Option (Int×Bool)
 |(t,id)=>
 F1 (t.bg,id)>>=λr=>some (iv r.1 0,decide (0<=r.1))
theorem Cm:a6 Pz sO:= .bh (.k Uc .n)
def DG(a:Int):Option Bool:=
 some (!(decide (a=a)))
theorem X0:a6 Qr DG:= .bh
def CJ:Int×Int->Option Int
 |(a,y)=>
 DG a>>=λr=>DG y>>=λb=>if r then if b then some 0 else some (-1)else if b then some 1 else if (a<y:Bool) then some (-1)else if (y<a:Bool) then some 1 else some 0
theorem W7:a6 Qb CJ:= .bh (.k X0 .n)
def CK(a:Int):Option Bool:=
 some (!(decide (a=a)))
theorem W8:a6 Qq CK:= .bh
def zc:Int×Int->Option Int
 |(a,y)=>
 CK a>>=λr=>CK y>>=λb=>if r then if b then some 0 else some (-1)else if b then some 1 else if (a<y:Bool) then some (-1)else if (y<a:Bool) then some 1 else some 0
theorem Wc:a6 P9 zc:= .bh (.k W8 .n)
def CL(a:aj):Option Bool:=
 some (!(decide (a=a)))
theorem W9:a6 Qs CL:= .bh
def C1:aj×aj->Option Int
 |(a,y)=>
 CL a>>=λr=>CL y>>=λb=>if r then if b then some 0 else some (-1)else if b then some 1 else if Op.bytesLess a y then some (-1)else if !(Op.bytesLess a y||(a=y:Bool)) then some 1 else some 0
theorem Wd:a6 Qd C1:= .bh (.k W9 .n)
def qP:Int×aq×Int×Int->Option ((Int) ⊕ (Int))
 |(a,t6,b,t8)=>
 if (t8<b:Bool) then if aH t8 t6.length then some (t6.getD t8.toNat 0)>>=λc=>if !(c=a:Bool) then some (.inl c)else qP (a,t6,b,aM .i64 t8 1)else none else some (.inr a)
  partial_fixpoint
theorem X1:cN 233 0 [0] NO qP:= .rx qP.partial_correctness
def D5(a:aq):Option Int:=
 qP (0,a,(a.length:Int),0)>>=λo=>match o with
 |.inl b=>
 some b
 |.inr c=>
 some c
theorem abG:a6 Qc D5:= .bh .n (.k X1 .n)
def uW(n:Int):Option Int:=
 some (uc .u64 (mO .u64 (bW .u64 n) 1) (bW .u64 (lr .i64 n 63)))
theorem Sk:a6 PL uW:= .bh
def pS:I×I->Option Int
 |(a,b)=>
 if !(a.Kind=b.Kind:Bool) then some 0 else if (a.Kind=1:Bool) then if e6 a.bL b.bL then some 0 else if b.bL then some (-1)else some 1 else if (a.Kind=2:Bool) then uW a.bc>>=λr=>uW b.bc>>=λc=>CJ (r,c)>>=λd=>some d else if (a.Kind=3:Bool) then zc ((a.bn.length:Int),(b.bn.length:Int))>>=λe=>C1 (a.bn,b.bn)>>=λf=>D5 [e,f]>>=λg=>some g else if (a.Kind=4:Bool) then zc (a.ae,b.ae)>>=λi=>some i else some 0
theorem Sl:a6 PS pS:= .bh (.k Sk (.k W7 (.k Wc (.k Wd (.k abG .n)))))
def qu:List aj×Int×List ah×aq×Int×ah×Int×Bool×Int×aj×Int×Int×Bool×Int×aj×Int×aq×List I->Option ((Bool×List ah×Int×I×aq×aq) ⊕ (List aj×List ah×aq×Int×ah×Int×Bool×Int×aj×Int×Int×Bool×Int×aj×Int×aq×List I))
 |(t,b,d,e,f,i,j,k,l,m,n,o,p,q,r,s,g,a)=>
 if (b<(a.length:Int):Bool) then some (de .i64 b 1)>>=λt86=>if aH t86 a.length then if (t86.toNat<a.length:Bool) then if aH b a.length then if (b.toNat<a.length:Bool) then pS (I.eta (a.getD t86.toNat au),I.eta (a.getD b.toNat au))>>=λu=>if (0<=u:Bool) then hC (1,d,e,f,g)>>=λc=>some (.inl (c.2.1,c.2.2.1,c.2.2.2.1,I.eta c.1,c.2.2.2.2.1,c.2.2.2.2.2))else qu (t,aM .i64 b 1,d,e,f,i,j,k,l,m,n,o,p,q,r,s,g,a)else none else none else none else none else some (.inr (t,d,e,f,i,j,k,l,m,n,o,p,q,r,s,g,a))
  partial_fixpoint
theorem Uq:cN 177 2 [1] NP qu:= .rx qu.partial_correctness (.k Sl (.k q6 .n))
def sP:aj×Int×Int×Int->Option ((Int×Int×Int) ⊕ (Unit))
 |(a,n,b,t11)=>
 if (t11<b:Bool) then if aH t11 a.length then some (fr a t11)>>=λt16=>if(bif (t11=9:Bool)then (1<t16:Bool)else false) then some (.inl (0,0,7))else if (128<=t16:Bool) then some (gw .i64 7 t11)>>=λt41=>if (0<=t41:Bool) then sP (a,rE .u64 n (mO .u64 (bW .u64 (A3 .u8 t16 127)) t41),b,aM .i64 t11 1)else none else if(bif (t16=0:Bool)then (0<t11:Bool)else false) then some (.inl (0,0,2))else some (gw .i64 7 t11)>>=λt21=>if (0<=t21:Bool) then some (.inl (rE .u64 n (mO .u64 (bW .u64 t16) t21),aM .i64 t11 1,0))else none else none else some (.inr ())
  partial_fixpoint
theorem We:cN 254 0 [0] NL sP:= .rx sP.partial_correctness
def CV(s:aj):Option (Int×Int×Int):=
 sP (s,0,je 10 (s.length:Int),0)>>=λo=>match o with
 |.inl a=>
 some (a.1,a.2.1,a.2.2)
 |.inr b=>
 some (0,0,10)
theorem Yi:a6 Qt CV:= .bh .n (.k We .n)
def qI(s:aj):Option (Int×aj×Bool):=
 CV s>>=λr=>if !(r.2.2=0:Bool) then some (0,[],false)else if dT r.2.1 (s.length:Int) s.length then some (r.1,d' s r.2.1 (s.length:Int),true)else none
theorem G2:a6 Qm qI:= .bh (.k Yi .n)
def zl(s:aj):Option (aj×aj×Bool):=
 qI s>>=λr=>if(bif (!r.2.2)then true else (bW .u64 (r.2.1.length:Int)<r.1:Bool)) then some ([],[],false)else if dT 0 r.1 r.2.1.length then if dT r.1 (r.2.1.length:Int) r.2.1.length then some (d' r.2.1 0 r.1,d' r.2.1 r.1 (r.2.1.length:Int),true)else none else none
theorem To:a6 Qn zl:= .bh (.k G2 .n)
def hD:aj×List aj->Option ((Int) ⊕ (List aj))
 |(s,a)=>
 if !(s=[]:Bool) then zl s>>=λr=>if !r.2.2 then some (.inl 12)else some [r.1]>>=λt22=>if room 16 (a++t22).length then hD (r.2.1,a++t22)else none else some (.inr a)
  partial_fixpoint
theorem WC:cN 213 0 [0] NN hD:= .rx hD.partial_correctness (.k To .n)
def k6(c:aj):Option (List aj×Int):=
 hD (c,[])>>=λo=>match o with
 |.inl a=>
 some ([],a)
 |.inr b=>
 some (b,0)
theorem Tf:a6 P0 k6:= .bh .n (.k WC .n)
mutual
def jI(v:I):Option I:=
 fC 120 v.aw>>=λr=>fC 120 v.ai>>=λU=>fC 24 v.Rest>>=λW=>sF ((r.length:Int),0,v.Kind,v.bL,v.bc,v.bn,v.ae,0,false,0,[],0,r,U,W)>>=λo=>sG ((o.2.2.2.2.2.2.2.2.2.2.2.1.length:Int),0,o.1,o.2.1,o.2.2.1,o.2.2.2.1,o.2.2.2.2.1,o.2.2.2.2.2.1,o.2.2.2.2.2.2.1,o.2.2.2.2.2.2.2.1,o.2.2.2.2.2.2.2.2.1,o.2.2.2.2.2.2.2.2.2.1,o.2.2.2.2.2.2.2.2.2.2.2.1,o.2.2.2.2.2.2.2.2.2.2.1,o.2.2.2.2.2.2.2.2.2.2.2.2)>>=λa=>some (⟨a.1,a.2.1,a.2.2.1,a.2.2.2.1,a.2.2.2.2.1,a.2.2.2.2.2.2.2.2.2.2.1,a.2.2.2.2.2.2.2.2.2.2.2.1,a.2.2.2.2.2.2.2.2.2.2.2.2⟩:I)
  partial_fixpoint
def sF:Int×Int×Int×Bool×Int×aj×Int×Int×Bool×Int×aj×Int×List I×List I×List bY->Option (Int×Bool×Int×aj×Int×Int×Bool×Int×aj×Int×List I×List I×List bY)
 |(R,t22,j,p,q,t,u,w,x,y,z,A,c,B,D)=>
 if (t22<R:Bool) then if aH t22 c.length then if (t22.toNat<c.length:Bool) then jI (I.eta (c.getD t22.toNat au))>>=λX=>if aH t22 c.length then if (t22.toNat<c.length:Bool) then sF (R,aM .i64 t22 1,j,p,q,t,u,w,x,y,z,A,c.set t22.toNat (I.eta X),B,D)else none else none else none else none else some (j,p,q,t,u,w,x,y,z,A,c,B,D)
  partial_fixpoint
def sG:Int×Int×Int×Bool×Int×aj×Int×Int×Bool×Int×aj×Int×List I×List I×List bY->Option (Int×Bool×Int×aj×Int×Int×Bool×Int×aj×Int×List I×List I×List bY)
 |(S,t37,E,F,G,H,J,K,L,M,N,O,e,P,Q)=>
 if (t37<S:Bool) then if aH t37 e.length then if (t37.toNat<e.length:Bool) then jI (I.eta (e.getD t37.toNat au))>>=λY=>if aH t37 e.length then if (t37.toNat<e.length:Bool) then sG (S,aM .i64 t37 1,E,F,G,H,J,K,L,M,N,O,e.set t37.toNat (I.eta Y),P,Q)else none else none else none else none else some (E,F,G,H,J,K,L,M,N,O,P,e,Q)
  partial_fixpoint
end
theorem WD:dY uz jI/\ez 217 0 [1] zA sG/\ez 217 0 [0] zz sF:=jI.mutual_partial_correctness (dV uz) (ey 217 0 [1] zA) (ey 217 0 [0] zz)
 (λ_ _ h1 a _ _ h=>eb h (.k nT (.k o8 .n)) (.k (eL zz a) (.k (eL zA h1) .n)))
 (λ_ _ h0 h1 _ _ h=>eK zA h1 h (.k (cg uz h0) .n))
 (λ_ _ h0 a _ _ h=>eK zz a h (.k (cg uz h0) .n))
theorem Wf:a6 uz jI:=cg _ WD.1
def F5:cR×aS->Option (Bool×aS)
 |(f,b)=>
 some (decide (f.ae=b.ae),(⟨b.ae,b.Name,b.av,b.cp,b.bZ,I.eta b.bw⟩:aS))
theorem TX:a6 P3 F5:= .bh
def pf:List cR×Int×Int×aS->Option ((Int×aS) ⊕ (aS))
 |(b,c,t8,a)=>
 if (t8<c:Bool) then if aH t8 b.length then F5 (b.getD t8.toNat gj,(⟨a.ae,a.Name,a.av,a.cp,a.bZ,I.eta a.bw⟩:aS))>>=λr=>if r.1 then some (.inl (t8,(⟨r.2.ae,r.2.Name,r.2.av,r.2.cp,r.2.bZ,I.eta r.2.bw⟩:aS)))else pf (b,c,aM .i64 t8 1,(⟨r.2.ae,r.2.Name,r.2.av,r.2.cp,r.2.bZ,I.eta r.2.bw⟩:aS))else none else some (.inr (⟨a.ae,a.Name,a.av,a.cp,a.bZ,I.eta a.bw⟩:aS))
  partial_fixpoint
theorem Ub:cN 215 1 [0] NR pf:= .rx pf.partial_correctness (.k TX .n)
def xF(d:List cR×aS):Option (Int×aS):=
 match d with
 |(s,b)=>
 pf (s,(s.length:Int),0,(⟨b.ae,b.Name,b.av,b.cp,b.bZ,I.eta b.bw⟩:aS))>>=λo=>match o with
 |.inl a=>
 some (a.1,(⟨a.2.ae,a.2.Name,a.2.av,a.2.cp,a.2.bZ,I.eta a.2.bw⟩:aS))
 |.inr c=>
 some ((-1),(⟨c.ae,c.Name,c.av,c.cp,c.bZ,I.eta c.bw⟩:aS))
theorem Ug:a6 P2 xF:= .bh .n (.k Ub .n)
def FX:aS×Int->Option (Bool×Int)
 |(m,b)=>
 some (decide (m.ae=b),b)
theorem WE:a6 Pw FX:= .bh
def pd:List aS×Int×Int×Int->Option ((Int×Int) ⊕ (Int))
 |(b,d,t8,c)=>
 if (t8<d:Bool) then if aH t8 b.length then some (b.getD t8.toNat aE)>>=λa=>FX ((⟨a.ae,a.Name,a.av,a.cp,a.bZ,I.eta a.bw⟩:aS),c)>>=λr=>if r.1 then some (.inl (t8,r.2))else pd (b,d,aM .i64 t8 1,r.2)else none else some (.inr c)
  partial_fixpoint
theorem TE:cN 137 1 [0] NM pd:= .rx pd.partial_correctness (.k WE .n)
def F2(d:List aS×Int):Option (Int×Int):=
 match d with
 |(s,b)=>
 pd (s,(s.length:Int),0,b)>>=λo=>match o with
 |.inl a=>
 some (a.1,a.2)
 |.inr c=>
 some ((-1),c)
theorem Ud:a6 Pv F2:= .bh .n (.k TE .n)
def hd:ah×Int->Option (Int×Bool)
 |(t,id)=>
 F2 (t.ag,id)>>=λr=>some (iv r.1 0,decide (0<=r.1))
theorem nq:a6 QP hd:= .bh (.k Ud .n)
def pk:List cR×Int×Int×List ah×aq×Int×ah×Int×Bool×Int×aj×Int×Int×Bool×Int×aj×Int×aq×List I×List bY->Option ((Bool×List ah×Int×I×aq×aq) ⊕ (List ah×aq×Int×Int×Bool×Int×aj×Int×Int×Bool×Int×aj×Int×aq×List I×List bY))
 |(t117,u,t119,d,e,f,i,j,k,l,m,n,o,p,q,r,s,b,t,g)=>
 if (t119<u:Bool) then if aH t119 t117.length then some (t117.getD t119.toNat gj)>>=λc=>hd (i,c.ae)>>=λv=>if v.2 then pk (t117,u,aM .i64 t119 1,d,e,f,i,j,k,l,m,n,o,p,q,r,s,b,t,g)else if c.cp then some [c.ae]>>=λt140=>if room 8 (b++t140).length then hC (6,d,e,f,b++t140)>>=λa=>some (de .i64 (a.2.2.2.2.1.length:Int) 1)>>=λt159=>if dT 0 t159 a.2.2.2.2.1.length then if (t159.toNat<=a.2.2.2.2.1.length:Bool) then some (.inl (false,a.2.2.1,a.2.2.2.1,I.eta a.1,a.2.2.2.2.1.take t159.toNat,a.2.2.2.2.2))else none else none else none else some [(⟨c.ae,c.Data⟩:bY)]>>=λt171=>if room 24 (g++t171).length then pk (t117,u,aM .i64 t119 1,d,e,f,i,j,k,l,m,n,o,p,q,r,s,b,t,g++t171)else none else none else some (.inr (d,e,f,j,k,l,m,n,o,p,q,r,s,b,t,g))
  partial_fixpoint
theorem Uu:cN 178 2 [1] NS pk:= .rx pk.partial_correctness (.k nq (.k q6 .n))
def fX:Int×aj×List cR->Option ((Int) ⊕ (List cR))
 |(last,s,a)=>
 if !(s=[]:Bool) then qI s>>=λr=>if(bif bif (!r.2.2)then true else (fv .u64 r.1 2<=last:Bool)then true else (1000<fv .u64 r.1 2:Bool)) then some (.inl 12)else zl r.2.1>>=λb=>if !b.2.2 then some (.inl 12)else some [(⟨bW .i64 (fv .u64 r.1 2),decide (b' r.1 2=1),b.1⟩:cR)]>>=λt50=>if room 32 (a++t50).length then fX (fv .u64 r.1 2,b.2.1,a++t50)else none else some (.inr a)
  partial_fixpoint
theorem VE:cN 214 0 [0] NQ fX:= .rx fX.partial_correctness (.k G2 (.k To .n))
def lG(c:aj):Option (List cR×Int):=
 fX (0,c,[])>>=λo=>match o with
 |.inl a=>
 some ([],a)
 |.inr b=>
 some (b,0)
theorem Wg:a6 P1 lG:= .bh .n (.k VE .n)
def lL(a:aj):Option (Int×aj×Int):=
 qI a>>=λr=>if(bif bif (!r.2.2)then true else (r.1<1:Bool)then true else (1000<r.1:Bool)) then some (0,[],12)else some (bW .i64 r.1,r.2.1,0)
theorem Yj:a6 PZ lL:= .bh (.k G2 .n)
mutual
def yy(y:ah×aj×List ah×aq×Int×aq):Option (I×Bool×List ah×aq×Int×aq):=
 match y with
 |(c,p,b,f,j,e)=>
 k6 p>>=λr=>if(bif (!(r.2=0:Bool))then true else(!(b' (r.1.length:Int) 2=0:Bool))) then hC (1,b,f,j,e)>>=λx=>some (I.eta x.1,x.2.1,x.2.2.1,x.2.2.2.2.2,x.2.2.2.1,x.2.2.2.2.1)else if (c.Max<fv .i64 (r.1.length:Int) 2:Bool) then hC (3,b,f,j,e)>>=λv=>some (I.eta v.1,v.2.1,v.2.2.1,v.2.2.2.2.2,v.2.2.2.1,v.2.2.2.2.1)else sS (r.1,0,b,f,j,c,0,false,0,[],0,c.Kind,false,0,[],0,e,[])>>=λo=>match o with
 |.inl w=>
 some (I.eta w.2.2.2.2.1,w.1,w.2.1,w.2.2.1,w.2.2.2.1,w.2.2.2.2.2)
 |.inr a=>
 qu (a.1,1,a.2.1,a.2.2.1,a.2.2.2.1,a.2.2.2.2.1,a.2.2.2.2.2.1,a.2.2.2.2.2.2.1,a.2.2.2.2.2.2.2.1,a.2.2.2.2.2.2.2.2.1,a.2.2.2.2.2.2.2.2.2.1,a.2.2.2.2.2.2.2.2.2.2.1,a.2.2.2.2.2.2.2.2.2.2.2.1,a.2.2.2.2.2.2.2.2.2.2.2.2.1,a.2.2.2.2.2.2.2.2.2.2.2.2.2.1,a.2.2.2.2.2.2.2.2.2.2.2.2.2.2.1,a.2.2.2.2.2.2.2.2.2.2.2.2.2.2.2.1,a.2.2.2.2.2.2.2.2.2.2.2.2.2.2.2.2)>>=λbv=>match bv with
 |.inl B=>
 some (I.eta B.2.2.2.1,B.1,B.2.1,B.2.2.2.2.2,B.2.2.1,B.2.2.2.2.1)
 |.inr u=>
 sT (u.1,1,u.2.1,u.2.2.1,u.2.2.2.1,u.2.2.2.2.1,u.2.2.2.2.2.1,u.2.2.2.2.2.2.1,u.2.2.2.2.2.2.2.1,u.2.2.2.2.2.2.2.2.1,u.2.2.2.2.2.2.2.2.2.1,u.2.2.2.2.2.2.2.2.2.2.1,u.2.2.2.2.2.2.2.2.2.2.2.1,u.2.2.2.2.2.2.2.2.2.2.2.2.1,u.2.2.2.2.2.2.2.2.2.2.2.2.2.1,u.2.2.2.2.2.2.2.2.2.2.2.2.2.2.1,u.2.2.2.2.2.2.2.2.2.2.2.2.2.2.2.1,u.2.2.2.2.2.2.2.2.2.2.2.2.2.2.2.2,[])>>=λio=>match io with
 |.inl H=>
 some (I.eta H.2.2.2.2.1,H.1,H.2.1,H.2.2.1,H.2.2.2.1,H.2.2.2.2.2)
 |.inr D=>
 some ((⟨D.2.2.2.2.2.2.2.2.1,D.2.2.2.2.2.2.2.2.2.1,D.2.2.2.2.2.2.2.2.2.2.1,D.2.2.2.2.2.2.2.2.2.2.2.1,D.2.2.2.2.2.2.2.2.2.2.2.2.1,D.2.2.2.2.2.2.2.2.2.2.2.2.2.2.1,D.2.2.2.2.2.2.2.2.2.2.2.2.2.2.2,[]⟩:I),true,D.1,D.2.1,D.2.2.1,D.2.2.2.2.2.2.2.2.2.2.2.2.2.1)
  partial_fixpoint
def B'(y:ah×aj×List ah×aq×Int×aq):Option (I×Bool×List ah×aq×Int×aq):=
 match y with
 |(c,p,b,f,j,e)=>
 k6 p>>=λr=>if !(r.2=0:Bool) then hC (1,b,f,j,e)>>=λx=>some (I.eta x.1,x.2.1,x.2.2.1,x.2.2.2.2.2,x.2.2.2.1,x.2.2.2.2.1)else if (c.Max<(r.1.length:Int):Bool) then hC (3,b,f,j,e)>>=λv=>some (I.eta v.1,v.2.1,v.2.2.1,v.2.2.2.2.2,v.2.2.2.1,v.2.2.2.2.1)else sW (r.1,(r.1.length:Int),0,b,f,j,c,0,false,0,[],0,c.Kind,false,0,[],0,e,[])>>=λo=>match o with
 |.inl w=>
 some (I.eta w.2.2.2.2.1,w.1,w.2.1,w.2.2.1,w.2.2.2.1,w.2.2.2.2.2)
 |.inr a=>
 some ((⟨a.2.2.2.2.2.2.2.2.1,a.2.2.2.2.2.2.2.2.2.1,a.2.2.2.2.2.2.2.2.2.2.1,a.2.2.2.2.2.2.2.2.2.2.2.1,a.2.2.2.2.2.2.2.2.2.2.2.2.1,[],a.2.2.2.2.2.2.2.2.2.2.2.2.2.2,[]⟩:I),true,a.1,a.2.1,a.2.2.1,a.2.2.2.2.2.2.2.2.2.2.2.2.2.1)
  partial_fixpoint
def iZ:Int×Int×aj×List ah×aq×Int×aq->Option (I×Bool×List ah×aq×Int×aq)
 |(step,t,p,b,f,j,e)=>
 some [step]>>=λt18=>if room 8 (e++t18).length then oW (t,p,b,f,j,e++t18)>>=λr=>some (de .i64 (r.2.2.2.2.2.length:Int) 1)>>=λt39=>if dT 0 t39 r.2.2.2.2.2.length then if (t39.toNat<=r.2.2.2.2.2.length:Bool) then some (I.eta r.1,r.2.1,r.2.2.1,r.2.2.2.1,r.2.2.2.2.1,r.2.2.2.2.2.take t39.toNat)else none else none else none
  partial_fixpoint
def oW:Int×aj×List ah×aq×Int×aq->Option (I×Bool×List ah×aq×Int×aq)
 |(t,p,b,f,j,e)=>
 if (200<=(e.length:Int):Bool) then hC (8,b,f,j,e)>>=λr=>some (I.eta r.1,r.2.1,r.2.2.1,r.2.2.2.2.2,r.2.2.2.1,r.2.2.2.2.1)else if aH t b.length then some (b.getD t.toNat aN)>>=λc=>if (c.Kind=1:Bool) then some (decide (p=[1]))>>=λt50=>if(bif (!(p=[]:Bool))then(!t50)else false) then hC (1,b,f,j,e)>>=λP=>some (I.eta P.1,P.2.1,P.2.2.1,P.2.2.2.2.2,P.2.2.2.1,P.2.2.2.2.1)else some ((⟨c.Kind,t50,0,[],0,[],[],[]⟩:I),true,b,f,j,e)else if (c.Kind=2:Bool) then sM p>>=λF=>if !(F.2=0:Bool) then hC (1,b,f,j,e)>>=λq=>some (I.eta q.1,q.2.1,q.2.2.1,q.2.2.2.2.2,q.2.2.2.1,q.2.2.2.2.1)else Cl F.1>>=λbQ=>if(bif (bQ<c.bA:Bool)then true else (c.bC<bQ:Bool)) then hC (2,b,f,j,e)>>=λJ=>some (I.eta J.1,J.2.1,J.2.2.1,J.2.2.2.2.2,J.2.2.2.1,J.2.2.2.2.1)else some ((⟨c.Kind,false,bQ,[],0,[],[],[]⟩:I),true,b,f,j,e)else if (c.Kind=3:Bool) then if (c.Max<(p.length:Int):Bool) then hC (3,b,f,j,e)>>=λz=>some (I.eta z.1,z.2.1,z.2.2.1,z.2.2.2.2.2,z.2.2.2.1,z.2.2.2.2.1)else some ((⟨c.Kind,false,0,p,0,[],[],[]⟩:I),true,b,f,j,e)else if (c.Kind=4:Bool) then sM p>>=λaB=>if(bif bif (!(aB.2=0:Bool))then true else (aB.1<1:Bool)then true else (1000<aB.1:Bool)) then hC (1,b,f,j,e)>>=λL=>some (I.eta L.1,L.2.1,L.2.2.1,L.2.2.2.2.2,L.2.2.2.1,L.2.2.2.2.1)else some (bW .i64 aB.1)>>=λt130=>sO (c,t130)>>=λi0=>if(bif (!i0.2)then(!c.Open)else false) then hC (4,b,f,j,e)>>=λM=>some (I.eta M.1,M.2.1,M.2.2.1,M.2.2.2.2.2,M.2.2.2.1,M.2.2.2.2.1)else some ((⟨c.Kind,false,0,[],t130,[],[],[]⟩:I),true,b,f,j,e)else if (c.Kind=9:Bool) then if (p=[]:Bool) then some ((⟨c.Kind,false,0,[],0,[],[],[]⟩:I),true,b,f,j,e)else if aH 0 p.length then if !(fr p 0=1:Bool) then hC (1,b,f,j,e)>>=λN=>some (I.eta N.1,N.2.1,N.2.2.1,N.2.2.2.2.2,N.2.2.2.1,N.2.2.2.2.1)else if dT 1 (p.length:Int) p.length then iZ (0,c.aG,d' p 1 (p.length:Int),b,f,j,e)>>=λO=>some ((⟨c.Kind,false,0,[],0,[],[I.eta O.1],[]⟩:I),O.2.1,O.2.2.1,O.2.2.2.1,O.2.2.2.2.1,O.2.2.2.2.2)else none else none else if (c.Kind=6:Bool) then B7 (c,p,b,f,j,e)>>=λQ=>some (I.eta Q.1,Q.2.1,Q.2.2.1,Q.2.2.2.1,Q.2.2.2.2.1,Q.2.2.2.2.2)else if (c.Kind=7:Bool) then B' (c,p,b,f,j,e)>>=λR=>some (I.eta R.1,R.2.1,R.2.2.1,R.2.2.2.1,R.2.2.2.2.1,R.2.2.2.2.2)else if (c.Kind=8:Bool) then yy (c,p,b,f,j,e)>>=λS=>some (I.eta S.1,S.2.1,S.2.2.1,S.2.2.2.1,S.2.2.2.2.1,S.2.2.2.2.2)else yz (c,p,b,f,j,e)>>=λU=>some (I.eta U.1,U.2.1,U.2.2.1,U.2.2.2.1,U.2.2.2.2.1,U.2.2.2.2.2)else none
  partial_fixpoint
def yz(y:ah×aj×List ah×aq×Int×aq):Option (I×Bool×List ah×aq×Int×aq):=
 match y with
 |(c,p,b,f,j,e)=>
 lG p>>=λr=>if !(r.2=0:Bool) then hC (1,b,f,j,e)>>=λx=>some (I.eta x.1,x.2.1,x.2.2.1,x.2.2.2.2.2,x.2.2.2.1,x.2.2.2.2.1)else mG (r.1,c.ag,(c.ag.length:Int),0,b,f,j,c,0,false,0,[],0,c.Kind,false,0,[],0,e,[])>>=λo=>match o with
 |.inl w=>
 some (I.eta w.2.2.2.2.1,w.1,w.2.1,w.2.2.1,w.2.2.2.1,w.2.2.2.2.2)
 |.inr a=>
 pk (a.1,(a.1.length:Int),0,a.2.1,a.2.2.1,a.2.2.2.1,a.2.2.2.2.1,a.2.2.2.2.2.1,a.2.2.2.2.2.2.1,a.2.2.2.2.2.2.2.1,a.2.2.2.2.2.2.2.2.1,a.2.2.2.2.2.2.2.2.2.1,a.2.2.2.2.2.2.2.2.2.2.1,a.2.2.2.2.2.2.2.2.2.2.2.1,a.2.2.2.2.2.2.2.2.2.2.2.2.1,a.2.2.2.2.2.2.2.2.2.2.2.2.2.1,a.2.2.2.2.2.2.2.2.2.2.2.2.2.2.1,a.2.2.2.2.2.2.2.2.2.2.2.2.2.2.2.1,a.2.2.2.2.2.2.2.2.2.2.2.2.2.2.2.2,[])>>=λbv=>match bv with
 |.inl B=>
 some (I.eta B.2.2.2.1,B.1,B.2.1,B.2.2.2.2.2,B.2.2.1,B.2.2.2.2.1)
 |.inr u=>
 some ((⟨u.2.2.2.2.2.2.2.2.1,u.2.2.2.2.2.2.2.2.2.1,u.2.2.2.2.2.2.2.2.2.2.1,u.2.2.2.2.2.2.2.2.2.2.2.1,u.2.2.2.2.2.2.2.2.2.2.2.2.1,[],u.2.2.2.2.2.2.2.2.2.2.2.2.2.2.1,u.2.2.2.2.2.2.2.2.2.2.2.2.2.2.2⟩:I),true,u.1,u.2.1,u.2.2.1,u.2.2.2.2.2.2.2.2.2.2.2.2.2.1)
  partial_fixpoint
def B7:ah×aj×List ah×aq×Int×aq->Option (I×Bool×List ah×aq×Int×aq)
 |(c,p,b,f,j,e)=>
 lL p>>=λr=>if !(r.2.2=0:Bool) then hC (1,b,f,j,e)>>=λK=>some (I.eta K.1,K.2.1,K.2.2.1,K.2.2.2.2.2,K.2.2.2.1,K.2.2.2.2.1)else hd (c,r.1)>>=λbH=>if bH.2 then if aH bH.1 c.ag.length then iZ (r.1,(c.ag.getD bH.1.toNat aE).av,r.2.1,b,f,j,e)>>=λF=>some ((⟨c.Kind,false,0,[],r.1,[],[I.eta F.1],[]⟩:I),F.2.1,F.2.2.1,F.2.2.2.1,F.2.2.2.2.1,F.2.2.2.2.2)else none else if !c.Open then hC (5,b,f,j,e)>>=λA=>some (I.eta A.1,A.2.1,A.2.2.1,A.2.2.2.2.2,A.2.2.2.1,A.2.2.2.2.1)else some ((⟨c.Kind,false,0,[],r.1,[],[],[(⟨r.1,r.2.1⟩:bY)]⟩:I),true,b,f,j,e)
  partial_fixpoint
def sS:List aj×Int×List ah×aq×Int×ah×Int×Bool×Int×aj×Int×Int×Bool×Int×aj×Int×aq×List I->Option ((Bool×List ah×aq×Int×I×aq) ⊕ (List aj×List ah×aq×Int×ah×Int×Bool×Int×aj×Int×Int×Bool×Int×aj×Int×aq×List I))
 |(af,i,g5,g6,g7,bo,g8,g9,he,hk,hm,hs,ht,hu,hw,hH,h0,bs)=>
 if (i<(af.length:Int):Bool) then if aH i af.length then iZ (fv .i64 i 2,bo.Key,af.getD i.toNat [],g5,g6,g7,h0)>>=λq=>if !q.2.1 then some (.inl (false,q.2.2.1,q.2.2.2.1,q.2.2.2.2.1,I.eta q.1,q.2.2.2.2.2))else some [I.eta q.1]>>=λt73=>if room 120 (bs++t73).length then sS (af,aM .i64 i 2,q.2.2.1,q.2.2.2.1,q.2.2.2.2.1,bo,g8,g9,he,hk,hm,hs,ht,hu,hw,hH,q.2.2.2.2.2,bs++t73)else none else none else some (.inr (af,g5,g6,g7,bo,g8,g9,he,hk,hm,hs,ht,hu,hw,hH,h0,bs))
  partial_fixpoint
def sT:List aj×Int×List ah×aq×Int×ah×Int×Bool×Int×aj×Int×Int×Bool×Int×aj×Int×aq×List I×List I->Option ((Bool×List ah×aq×Int×I×aq) ⊕ (List ah×aq×Int×Int×Bool×Int×aj×Int×Int×Bool×Int×aj×Int×aq×List I×List I))
 |(ax,Z,h1,b0,b1,b2,b3,b4,ce,ci,cq,cs,c7,ds,dt,eq,es,ex,aC)=>
 if (Z<(ax.length:Int):Bool) then if aH Z ax.length then iZ (fv .i64 Z 2,b2.aG,ax.getD Z.toNat [],h1,b0,b1,es)>>=λz=>if !z.2.1 then some (.inl (false,z.2.2.1,z.2.2.2.1,z.2.2.2.2.1,I.eta z.1,z.2.2.2.2.2))else some [I.eta z.1]>>=λt125=>if room 120 (aC++t125).length then sT (ax,aM .i64 Z 2,z.2.2.1,z.2.2.2.1,z.2.2.2.2.1,b2,b3,b4,ce,ci,cq,cs,c7,ds,dt,eq,z.2.2.2.2.2,ex,aC++t125)else none else none else some (.inr (h1,b0,b1,b3,b4,ce,ci,cq,cs,c7,ds,dt,eq,es,ex,aC))
  partial_fixpoint
def sW:List aj×Int×Int×List ah×aq×Int×ah×Int×Bool×Int×aj×Int×Int×Bool×Int×aj×Int×aq×List I->Option ((Bool×List ah×aq×Int×I×aq) ⊕ (List ah×aq×Int×Int×Bool×Int×aj×Int×Int×Bool×Int×aj×Int×aq×List I))
 |(t38,ii,t40,fd,ff,fo,fs,gc,gd,ge,gl,gs,gt,g0,g1,g2,g3,g4,aI)=>
 if (t40<ii:Bool) then if aH t40 t38.length then iZ (t40,fs.aG,t38.getD t40.toNat [],fd,ff,fo,g4)>>=λq=>if !q.2.1 then some (.inl (false,q.2.2.1,q.2.2.2.1,q.2.2.2.2.1,I.eta q.1,q.2.2.2.2.2))else some [I.eta q.1]>>=λt60=>if room 120 (aI++t60).length then sW (t38,ii,aM .i64 t40 1,q.2.2.1,q.2.2.2.1,q.2.2.2.2.1,fs,gc,gd,ge,gl,gs,gt,g0,g1,g2,g3,q.2.2.2.2.2,aI++t60)else none else none else some (.inr (fd,ff,fo,gc,gd,ge,gl,gs,gt,g0,g1,g2,g3,g4,aI))
  partial_fixpoint
def mG:List cR×List aS×Int×Int×List ah×aq×Int×ah×Int×Bool×Int×aj×Int×Int×Bool×Int×aj×Int×aq×List I->Option ((Bool×List ah×aq×Int×I×aq) ⊕ (List cR×List ah×aq×Int×ah×Int×Bool×Int×aj×Int×Int×Bool×Int×aj×Int×aq×List I))
 |(G,t39,bT,t41,am,an,ap,aZ,a0,a1,a2,a3,a4,a5,a9,ba,be,bi,X,Y)=>
 if (t41<bT:Bool) then if aH t41 t39.length then some (t39.getD t41.toNat aE)>>=λW=>xF (G,(⟨W.ae,W.Name,W.av,W.cp,W.bZ,I.eta W.bw⟩:aS))>>=λv=>if (0<=v.1:Bool) then if aH v.1 G.length then iZ (v.2.ae,v.2.av,(G.getD v.1.toNat gj).Data,am,an,ap,X)>>=λE=>if !E.2.1 then some (.inl (false,E.2.2.1,E.2.2.2.1,E.2.2.2.2.1,I.eta E.1,E.2.2.2.2.2))else some [I.eta E.1]>>=λt102=>if room 120 (Y++t102).length then mG (G,t39,bT,aM .i64 t41 1,E.2.2.1,E.2.2.2.1,E.2.2.2.2.1,aZ,a0,a1,a2,a3,a4,a5,a9,ba,be,bi,E.2.2.2.2.2,Y++t102)else none else none else if v.2.bZ then jI (I.eta v.2.bw)>>=λip=>some [I.eta ip]>>=λt113=>if room 120 (Y++t113).length then mG (G,t39,bT,aM .i64 t41 1,am,an,ap,aZ,a0,a1,a2,a3,a4,a5,a9,ba,be,bi,X,Y++t113)else none else some [v.2.ae]>>=λt55=>if room 8 (X++t55).length then hC (7,am,an,ap,X++t55)>>=λA=>some (de .i64 (A.2.2.2.2.1.length:Int) 1)>>=λt74=>if dT 0 t74 A.2.2.2.2.1.length then if (t74.toNat<=A.2.2.2.2.1.length:Bool) then some (.inl (false,A.2.2.1,A.2.2.2.2.2,A.2.2.2.1,I.eta A.1,A.2.2.2.2.1.take t74.toNat))else none else none else none else none else some (.inr (G,am,an,ap,aZ,a0,a1,a2,a3,a4,a5,a9,ba,be,bi,X,Y))
  partial_fixpoint
end
theorem Uv:dY Bg yy/\ez 177 2 [2] zy sT/\dY oL iZ/\dY w5 oW/\dY Bh yz/\ez 178 2 [0] zB mG/\dY Bf B'/\ez 176 2 [0] zw sW/\dY Be B7/\ez 177 2 [0] zx sS:=yy.mutual_partial_correctness (dV Bg) (ey 177 2 [2] zy) (dV oL) (dV w5) (dV Bh) (ey 178 2 [0] zB) (dV Bf) (ey 176 2 [0] zw) (dV Be) (ey 177 2 [0] zx)
 (λ_ _ h1 c _ _ h=>eb h (.k Tf (.k q6 .n)) (.k (eL zx c) (.k Uq (.k (eL zy h1) .n))))
 (λ_ _ h1 a _ _ h=>eK zy h1 h (.k (cg oL a) .n))
 (λ_ d _ _ h=>eb h (.k (cg w5 d) .n))
 (λ_ _ _ _ _ h0 a e f g _ _ h=>eb h (.k q6 (.k Wj (.k WA (.k Cm (.k (cg oL a) (.k (cg Be g) (.k (cg Bf f) (.k (cg Bg h0) (.k (cg Bh e) .n))))))))))
 (λ_ ba _ _ h=>eb h (.k Wg (.k q6 .n)) (.k (eL zB ba) (.k Uu .n)))
 (λ_ _ a ba _ _ h=>eK zB ba h (.k Ug (.k (cg oL a) (.k Wf (.k q6 .n)))))
 (λ_ b _ _ h=>eb h (.k Tf (.k q6 .n)) (.k (eL zw b) .n))
 (λ_ _ a b _ _ h=>eK zw b h (.k (cg oL a) .n))
 (λ_ a _ _ h=>eb h (.k Yj (.k q6 (.k nq (.k (cg oL a) .n)))))
 (λ_ _ a c _ _ h=>eK zx c h (.k (cg oL a) .n))
theorem TI:a6 w5 oW:=cg _ Uv.2.2.2.1
def GN:aR×Int×aj->Option (I×iT×Int)
 |(s,t,m)=>
 pq s>>=λr=>if !(r=0:Bool) then some ((⟨0,false,0,[],0,[],[],[]⟩:I),(⟨[],0⟩:iT),r)else if(bif (t<0:Bool)then true else ((s.Types.length:Int)<=t:Bool)) then some ((⟨0,false,0,[],0,[],[],[]⟩:I),(⟨[],0⟩:iT),4)else if (4096<(m.length:Int):Bool) then some ((⟨0,false,0,[],0,[],[],[]⟩:I),(⟨[],3⟩:iT),12)else oW (t,m,s.Types,[],0,[])>>=λa=>if !a.2.1 then some ((⟨0,false,0,[],0,[],[],[]⟩:I),(⟨a.2.2.2.1,a.2.2.2.2.1⟩:iT),12)else some (I.eta a.1,(⟨[],0⟩:iT),0)
theorem W':a6 Po GN:= .bh (.k xP (.k TI .n))
def pT:aR×Int×aj->Option (I×Int)
 |(s,t,m)=>
 GN (s,t,m)>>=λr=>some (I.eta r.1,r.2.2)
theorem Sm:a6 Bs pT:= .bh (.k W' .n)
def C2:aR×Int->Option Int
 |(s,t)=>
 pq s>>=λr=>if !(r=0:Bool) then some r else if(bif (t<0:Bool)then true else ((s.Types.length:Int)<=t:Bool)) then some 4 else some 0
theorem Xt:a6 Pq C2:= .bh (.k xP .n)
def CW(v:I):Option I:=
 if (v.Kind=1:Bool) then some (⟨v.Kind,v.bL,0,[],0,[],[],[]⟩:I)else if (v.Kind=2:Bool) then some (⟨v.Kind,false,v.bc,[],0,[],[],[]⟩:I)else if (v.Kind=3:Bool) then some (⟨v.Kind,false,0,v.bn,0,[],[],[]⟩:I)else if (v.Kind=4:Bool) then some (⟨v.Kind,false,0,[],v.ae,[],[],[]⟩:I)else if (v.Kind=5:Bool) then some (⟨v.Kind,false,0,[],0,[],v.ai,v.Rest⟩:I)else if (v.Kind=6:Bool) then some (⟨v.Kind,false,0,[],v.ae,[],v.ai,v.Rest⟩:I)else if (v.Kind=8:Bool) then some (⟨v.Kind,false,0,[],0,v.aw,v.ai,[]⟩:I)else some (decide (v.Kind=7))>>=λt57=>if t57 then if t57 then some (⟨v.Kind,false,0,[],0,[],v.ai,[]⟩:I)else some (⟨v.Kind,false,0,[],0,[],[],[]⟩:I)else if (v.Kind=9:Bool) then some (⟨v.Kind,false,0,[],0,[],v.ai,[]⟩:I)else some (⟨v.Kind,false,0,[],0,[],[],[]⟩:I)
theorem Yk:a6 Qa CW:= .bh
def C'(v:I):Option Bool:=
 CW (I.eta v)>>=λr=>some (bif bif bif bif bif bif e6 v.bL r.bL then decide (v.bc=r.bc)else false then decide (v.bn=r.bn)else false then decide (v.ae=r.ae)else false then decide ((v.aw.length:Int)=(r.aw.length:Int))else false then decide ((v.ai.length:Int)=(r.ai.length:Int))else false then decide ((v.Rest.length:Int)=(r.Rest.length:Int))else false)
theorem XH:a6 PQ C':= .bh (.k Yk .n)
def yV(id:Int):Option Bool:=
 some (bif decide (1<=id)then decide (id<=1000)else false)
theorem SV:a6 PR yV:= .bh
def k5:Bool×List bY×Int×Int×List ah×I×Int×aj×Int×Int×Int×List c4×List aS×Int×Int×Bool->Option ((Bool) ⊕ (Bool×List ah×Int×Bool×Int×aj×Int×List I×List I×List bY×Int×aj×Int×Int×Int×List c4×List aS×Int×Int×Bool))
 |(o,t111,q,t113,n,a,b,c,d,e,f,g,i,j,k,l)=>
 if (t113<q:Bool) then if aH t113 t111.length then some (t111.getD t113.toNat bX)>>=λm=>hd ((⟨b,c,d,e,f,g,i,j,k,l⟩:ah),m.ae)>>=λp=>(if !p.2 then yV m.ae else some false)>>=λr=>some (bif p.2 then true else(!r))>>=λt131=>some (decide (0<t113))>>=λt134=>some (de .i64 t113 1)>>=λt141=>if(aH t141 a.Rest.length||(!((!t131)&&t134))) then if(bif t131 then true else bif t134 then (m.ae<=(a.Rest.getD t141.toNat bX).ae:Bool)else false) then some (.inl false)else k5 (o,t111,q,aM .i64 t113 1,n,I.eta a,b,c,d,e,f,g,i,j,k,l)else none else none else some (.inr (o,n,a.Kind,a.bL,a.bc,a.bn,a.ae,a.aw,a.ai,a.Rest,b,c,d,e,f,g,i,j,k,l))
  partial_fixpoint
theorem Xu:cN 164 0 [0] Nr k5:= .rx k5.partial_correctness (.k nq (.k SV .n))
def kF:Bool×Int×List ah×I×Int×aj×Int×Int×Int×List c4×List aS×Int×Int×Bool->Option ((Bool) ⊕ (Bool×List ah×I×Int×aj×Int×Int×Int×List c4×List aS×Int×Int×Bool))
 |(o,i,b,a,c,d,e,f,g,j,k,l,m,n)=>
 if (i<(a.aw.length:Int):Bool) then some (de .i64 i 1)>>=λt291=>if aH t291 a.aw.length then if aH i a.aw.length then pS (I.eta (a.aw.getD t291.toNat au),I.eta (a.aw.getD i.toNat au))>>=λp=>if (0<=p:Bool) then some (.inl false)else kF (o,aM .i64 i 1,b,I.eta a,c,d,e,f,g,j,k,l,m,n)else none else none else some (.inr (o,b,I.eta a,c,d,e,f,g,j,k,l,m,n))
  partial_fixpoint
theorem Xv:cN 164 0 [2] Ns kF:= .rx kF.partial_correctness (.k Sl .n)
mutual
def Co:List I×List ah×Int×Bool->Option (Bool×List ah×Int×Bool)
 |(s,b,f,j)=>
 F4 (s,b,f,j)>>=λr=>some (decide (0<=r.1),r.2.1,r.2.2.1,r.2.2.2)
  partial_fixpoint
def F4(e:List I×List ah×Int×Bool):Option (Int×List ah×Int×Bool):=
 match e with
 |(s,b,f,j)=>
 qo (s,(s.length:Int),0,b,f,j)>>=λo=>match o with
 |.inl p=>
 some (p.1,p.2.1,p.2.2.1,p.2.2.2)
 |.inr c=>
 some ((-1),c.1,c.2.1,c.2.2)
  partial_fixpoint
def qN:aR×Int×List I×Bool->Option Bool
 |(s,t,l,plain)=>
 Co (l,s.Types,t,plain)>>=λr=>some (!r.1)
  partial_fixpoint
def Gx:I×List ah×Int×Bool->Option (Bool×List ah×Int×Bool)
 |(v,b,f,j)=>
 j5 ((⟨b⟩:aR),f,I.eta v,j)>>=λr=>some ((!r),b,f,j)
  partial_fixpoint
def j5(e:aR×Int×I×Bool):Option Bool:=
 match e with
 |(s,t,v,plain)=>
 if(bif (t<0:Bool)then true else ((s.Types.length:Int)<=t:Bool)) then some false else if aH t s.Types.length then some (s.Types.getD t.toNat aN)>>=λa=>some (!(decide (v.Kind=a.Kind)))>>=λt39=>(if !t39 then C' (I.eta v)else some false)>>=λr=>if(bif t39 then true else(!r)) then some false else if (a.Kind=2:Bool) then some (bif decide (a.bA<=v.bc)then decide (v.bc<=a.bC)else false)else if (a.Kind=3:Bool) then some (decide ((v.bn.length:Int)<=a.Max))else if (a.Kind=4:Bool) then sO (a,v.ae)>>=λE=>some (bif a.Open then(!plain)else false)>>=λt85=>(if((!E.2)&&t85) then yV v.ae else some false)>>=λaf=>some (bif E.2 then true else bif t85 then af else false)else if (a.Kind=5:Bool) then if(bif (!((v.ai.length:Int)=(a.ag.length:Int):Bool))then true else bif plain then (0<(v.Rest.length:Int):Bool)else false) then some false else k5 (plain,v.Rest,(v.Rest.length:Int),0,s.Types,I.eta v,a.Kind,a.Name,a.bA,a.bC,a.Max,a.bg,a.ag,a.Key,a.aG,a.Open)>>=λo=>match o with
 |.inl p=>
 some p
 |.inr c=>
 mu (c.1,c.2.2.2.2.2.2.2.2.2.2.2.2.2.2.2.2.1,(c.2.2.2.2.2.2.2.2.2.2.2.2.2.2.2.2.1.length:Int),0,c.2.1,c.2.2.1,c.2.2.2.1,c.2.2.2.2.1,c.2.2.2.2.2.1,c.2.2.2.2.2.2.1,c.2.2.2.2.2.2.2.1,c.2.2.2.2.2.2.2.2.1,c.2.2.2.2.2.2.2.2.2.1)>>=λP=>match P with
 |.inl Q=>
 some Q
 |.inr ap=>
 some true else if (a.Kind=6:Bool) then hd (a,v.ae)>>=λw=>if w.2 then some (bif decide ((v.ai.length:Int)=1)then decide ((v.Rest.length:Int)=0)else false)>>=λt188=>if(aH w.1 a.ag.length||(!t188)) then if(aH 0 v.ai.length||(!t188)) then (if t188 then j5 ((⟨s.Types⟩:aR),(a.ag.getD w.1.toNat aE).av,I.eta (v.ai.getD (0:Int).toNat au),plain)else some false)>>=λam=>some (bif t188 then am else false)else none else none else some (bif a.Open then(!plain)else false)>>=λt209=>(if t209 then yV v.ae else some false)>>=λan=>some (bif bif bif t209 then an else false then decide ((v.ai.length:Int)=0)else false then decide ((v.Rest.length:Int)=1)else false)>>=λt226=>if(aH 0 v.Rest.length||(!t226)) then some (bif t226 then decide ((v.Rest.getD (0:Int).toNat bX).ae=v.ae)else false)else none else if (a.Kind=7:Bool) then some (decide ((v.ai.length:Int)<=a.Max))>>=λt244=>(if t244 then qN ((⟨s.Types⟩:aR),a.aG,v.ai,plain)else some false)>>=λU=>some (bif t244 then U else false)else if (a.Kind=8:Bool) then some (bif decide (a.Max<(v.aw.length:Int))then true else(!(decide ((v.ai.length:Int)=(v.aw.length:Int)))))>>=λt270=>(if !t270 then qN ((⟨s.Types⟩:aR),a.Key,v.aw,plain)else some false)>>=λW=>if(bif t270 then true else(!W)) then some false else kF (plain,1,s.Types,I.eta v,a.Kind,a.Name,a.bA,a.bC,a.Max,a.bg,a.ag,a.Key,a.aG,a.Open)>>=λR=>match R with
 |.inl S=>
 some S
 |.inr q=>
 qN ((⟨q.2.1⟩:aR),q.2.2.2.2.2.2.2.2.2.2.2.1,q.2.2.1.ai,q.1)>>=λX=>some X else if (a.Kind=9:Bool) then some (decide ((v.ai.length:Int)<=1))>>=λt313=>(if t313 then qN ((⟨s.Types⟩:aR),a.aG,v.ai,plain)else some false)>>=λY=>some (bif t313 then Y else false)else some true else none
  partial_fixpoint
def qo:List I×Int×Int×List ah×Int×Bool->Option ((Int×List ah×Int×Bool) ⊕ (List ah×Int×Bool))
 |(x,G,t8,B,y,z)=>
 if (t8<G:Bool) then if aH t8 x.length then Gx (I.eta (x.getD t8.toNat au),B,y,z)>>=λr=>if r.1 then some (.inl (t8,r.2.1,r.2.2.1,r.2.2.2))else qo (x,G,aM .i64 t8 1,r.2.1,r.2.2.1,r.2.2.2)else none else some (.inr (B,y,z))
  partial_fixpoint
def mu:Bool×List aS×Int×Int×List ah×Int×Bool×Int×aj×Int×List I×List I×List bY->Option ((Bool) ⊕ (Unit))
 |(D,t150,F,t152,A,H,J,K,L,M,N,u,O)=>
 if (t152<F:Bool) then if aH t152 t150.length then if aH t152 u.length then j5 ((⟨A⟩:aR),(t150.getD t152.toNat aE).av,I.eta (u.getD t152.toNat au),D)>>=λZ=>if !Z then some (.inl false)else mu (D,t150,F,aM .i64 t152 1,A,H,J,K,L,M,N,u,O)else none else none else some (.inr ())
  partial_fixpoint
end
theorem TF:dY D3 Co/\dY D2 F4/\ez 207 3 [0] za qo/\dY Bo Gx/\dY sa j5/\dY Bn qN/\ez 164 0 [1] zC mu:=Co.mutual_partial_correctness (dV D3) (dV D2) (ey 207 3 [0] za) (dV Bo) (dV sa) (dV Bn) (ey 164 0 [1] zC)
 (λ_ h1 _ _ h=>eb h (.k (cg D2 h1) .n))
 (λ_ b _ _ h=>eb h .n (.k (eL za b) .n))
 (λ_ _ b d _ _ h=>eK za b h (.k (cg Bo d) .n))
 (λ_ a _ _ h=>eb h (.k (cg sa a) .n))
 (λ_ _ _ a ba c _ _ h=>eb h (.k XH (.k Cm (.k SV (.k nq (.k (cg sa a) (.k (cg Bn ba) .n)))))) (.k Xu (.k (eL zC c) (.k Xv .n))))
 (λ_ h0 _ _ h=>eb h (.k (cg D3 h0) .n))
 (λ_ _ a c _ _ h=>eK zC c h (.k (cg sa a) .n))
theorem SX:a6 sa j5:=cg _ TF.2.2.2.2.1
def tG:aR×Int×I->Option Bool
 |(s,t,v)=>
 j5 ((⟨s.Types⟩:aR),t,I.eta v,false)>>=λr=>some r
theorem SY:a6 Pr tG:= .bh (.k SX .n)
def C3:aR×Int×I->Option Int
 |(s,t,v)=>
 C2 (s,t)>>=λr=>if !(r=0:Bool) then some r else tG (s,t,I.eta v)>>=λa=>if !a then some 1 else some 0
theorem Xw:a6 QO C3:= .bh (.k Xt (.k SY .n))
def mv:ah×I->Option Bool
 |(a,v)=>
 if !(a.Kind=4:Bool) then some false else sO (a,v.ae)>>=λr=>some (!r.2)
theorem Tg:a6 Ps mv:= .bh (.k Cm .n)
def Da:I×List ah×ah->Option (Bool×List ah×ah)
 |(k,b,a)=>
 if aH a.Key b.length then mv (b.getD a.Key.toNat aN,I.eta k)>>=λr=>some (r,b,a)else none
theorem XI:a6 PA Da:= .bh (.k Tg .n)
def pe:List I×Int×Int×List ah×ah->Option ((Int×List ah×ah) ⊕ (List ah×ah))
 |(a,d,t8,b,c)=>
 if (t8<d:Bool) then if aH t8 a.length then Da (I.eta (a.getD t8.toNat au),b,c)>>=λr=>if r.1 then some (.inl (t8,r.2.1,r.2.2))else pe (a,d,aM .i64 t8 1,r.2.1,r.2.2)else none else some (.inr (b,c))
  partial_fixpoint
theorem T':cN 207 2 [0] Mc pe:= .rx pe.partial_correctness (.k XI .n)
def F3(e:List I×List ah×ah):Option (Int×List ah×ah):=
 match e with
 |(s,b,d)=>
 pe (s,(s.length:Int),0,b,d)>>=λo=>match o with
 |.inl a=>
 some (a.1,a.2.1,a.2.2)
 |.inr c=>
 some ((-1),c.1,c.2)
theorem Ue:a6 Nt F3:= .bh .n (.k T' .n)
def F0:List I×List ah×ah->Option (Bool×List ah×ah)
 |(s,b,a)=>
 F3 (s,b,a)>>=λr=>some (decide (0<=r.1),r.2.1,r.2.2)
theorem Ua:a6 Nu F0:= .bh (.k Ue .n)
def Cv:aR×ah×I->Option Bool
 |(s,a,v)=>
 F0 (v.aw,s.Types,a)>>=λr=>some r.1
theorem Yl:a6 Pt Cv:= .bh (.k Ua .n)
def nu:Int×Int×ah×I×List iI->Option (List iI)
 |(d,t12,a,c,b)=>
 if (t12<d:Bool) then if (a.Kind=5:Bool) then if aH t12 a.ag.length then if aH t12 a.ag.length then some [(⟨(a.ag.getD t12.toNat aE).av,(a.ag.getD t12.toNat aE).ae⟩:iI)]>>=λt40=>if room 16 (b++t40).length then nu (d,aM .i64 t12 1,a,I.eta c,b++t40)else none else none else none else if (a.Kind=6:Bool) then hd (a,c.ae)>>=λr=>if aH r.1 a.ag.length then some [(⟨(a.ag.getD r.1.toNat aE).av,c.ae⟩:iI)]>>=λt61=>if room 16 (b++t61).length then nu (d,aM .i64 t12 1,a,I.eta c,b++t61)else none else none else some [(⟨a.aG,t12⟩:iI)]>>=λt22=>if room 16 (b++t22).length then nu (d,aM .i64 t12 1,a,I.eta c,b++t22)else none else some b
  partial_fixpoint
theorem Wk:cN 133 0 [0] Nv nu:= .rx nu.partial_correctness (.k nq .n)
def CM:ah×I->Option (List iI)
 |(a,v)=>
 nu ((v.ai.length:Int),0,a,I.eta v,[])>>=λo=>some o
theorem Xa:a6 Pu CM:= .bh .n (.k Wk .n)
mutual
def lJ(p:aR×Int×I):Option (I×Bool):=
 match p with
 |(s,t,v)=>
 if aH t s.Types.length then some (s.Types.getD t.toNat aN)>>=λe=>mv (e,I.eta v)>>=λr=>(if !r then Cv (s,e,I.eta v)else some false)>>=λL=>if(bif bif r then true else L then true else bif (e.Kind=6:Bool)then ((v.ai.length:Int)=0:Bool)else false) then some ((⟨0,false,0,[],0,[],[],[]⟩:I),false)else fC 120 v.aw>>=λM=>CM (e,I.eta v)>>=λH=>qD (H,(H.length:Int),0,s.Types,I.eta v,0,false,0,[],0,v.Kind,v.bL,v.bc,v.bn,v.ae,M,[])>>=λo=>match o with
 |.inl c=>
 some ((⟨c.2.1,c.2.2.1,c.2.2.2.1,c.2.2.2.2.1,c.2.2.2.2.2,[],[],[]⟩:I),c.1)
 |.inr a=>
 some ((⟨a.2.2.2.2.2.1,a.2.2.2.2.2.2.1,a.2.2.2.2.2.2.2.1,a.2.2.2.2.2.2.2.2.1,a.2.2.2.2.2.2.2.2.2.1,a.2.2.2.2.2.2.2.2.2.2.1,a.2.2.2.2.2.2.2.2.2.2.2,[]⟩:I),true)else none
  partial_fixpoint
def qD:List iI×Int×Int×List ah×I×Int×Bool×Int×aj×Int×Int×Bool×Int×aj×Int×List I×List I->Option ((Bool×Int×Bool×Int×aj×Int) ⊕ (Int×Bool×Int×aj×Int×Int×Bool×Int×aj×Int×List I×List I))
 |(t49,K,t51,q,f,u,w,x,y,z,A,B,D,E,F,G,j)=>
 if (t51<K:Bool) then if aH t51 t49.length then if aH t51 f.ai.length then lJ ((⟨q⟩:aR),(t49.getD t51.toNat HN).t,I.eta (f.ai.getD t51.toNat au))>>=λJ=>if !J.2 then some (.inl (false,0,false,0,[],0))else some [I.eta J.1]>>=λt74=>if room 120 (j++t74).length then qD (t49,K,aM .i64 t51 1,q,I.eta f,u,w,x,y,z,A,B,D,E,F,G,j++t74)else none else none else none else some (.inr (u,w,x,y,z,A,B,D,E,F,G,j))
  partial_fixpoint
end
theorem Xx:dY w6 lJ/\ez 141 0 [0] zD qD:=lJ.mutual_partial_correctness (dV w6) (ey 141 0 [0] zD)
 (λ_ h1 _ _ h=>eb h (.k Tg (.k Yl (.k nT (.k Xa .n)))) (.k (eL zD h1) .n))
 (λ_ _ h0 h1 _ _ h=>eK zD h1 h (.k (cg w6 h0) .n))
theorem Xb:a6 w6 lJ:=cg _ Xx.1
def u3:aR×Int×I->Option (I×Int)
 |(s,t,v)=>
 C3 (s,t,I.eta v)>>=λr=>if !(r=0:Bool) then some ((⟨0,false,0,[],0,[],[],[]⟩:I),r)else lJ (s,t,I.eta v)>>=λa=>if !a.2 then some ((⟨0,false,0,[],0,[],[],[]⟩:I),12)else some (I.eta a.1,0)
theorem Xc:a6 Ba u3:= .bh (.k Xw (.k Xb .n))
def xQ:aR×Int->Option Int
 |(s,t)=>
 pq s>>=λr=>if !(r=0:Bool) then some r else if(bif (t<0:Bool)then true else ((s.Types.length:Int)<=t:Bool)) then some 4 else some 0
theorem Wl:a6 PG xQ:= .bh (.k xP .n)
def Gp:aR×Int×I->Option Bool
 |(s,t,v)=>
 j5 (s,t,I.eta v,true)>>=λr=>some r
theorem Xd:a6 PH Gp:= .bh (.k SX .n)
def C4:aR×Int×I×aR×Int->Option Int
 |(w,wt,v,r,rt)=>
 xQ (w,wt)>>=λa=>if !(a=0:Bool) then some a else xQ (r,rt)>>=λb=>if !(b=0:Bool) then some b else Gp (w,wt,I.eta v)>>=λc=>if !c then some 1 else some 0
theorem Xy:a6 Px C4:= .bh (.k Wl (.k Xd .n))
def sx:List ah×List ah×aq×aq->Option (I×Bool×List ah×List ah×aq×aq)
 |(b,c,e,a)=>
 th 8 a>>=λr=>if((r.1.length=a.length:Bool)&&true) then some ((⟨0,false,0,[],0,[],[],[]⟩:I),false,b,c,r.1,r.2)else none
theorem SC:a6 PI sx:= .bh (.k nM .n)
def uR:Int×List ah×List ah×aq×aq->Option (I×Bool×List ah×List ah×aq×aq)
 |(id,b,c,e,a)=>
 th 8 a>>=λr=>if((r.1.length=a.length:Bool)&&true) then some [id]>>=λt13=>if room 8 (r.2++t13).length then some ((⟨0,false,0,[],0,[],[],[]⟩:I),false,b,c,r.1,r.2++t13)else none else none
theorem Su:a6 P4 uR:= .bh (.k nM .n)
mutual
def j4(v:I):Option I:=
 fC 120 v.aw>>=λr=>fC 120 v.ai>>=λU=>fC 24 v.Rest>>=λW=>sy ((r.length:Int),0,v.Kind,v.bL,v.bc,v.bn,v.ae,0,false,0,[],0,r,U,W)>>=λo=>sA ((o.2.2.2.2.2.2.2.2.2.2.2.1.length:Int),0,o.1,o.2.1,o.2.2.1,o.2.2.2.1,o.2.2.2.2.1,o.2.2.2.2.2.1,o.2.2.2.2.2.2.1,o.2.2.2.2.2.2.2.1,o.2.2.2.2.2.2.2.2.1,o.2.2.2.2.2.2.2.2.2.1,o.2.2.2.2.2.2.2.2.2.2.2.1,o.2.2.2.2.2.2.2.2.2.2.1,o.2.2.2.2.2.2.2.2.2.2.2.2)>>=λa=>some (⟨a.1,a.2.1,a.2.2.1,a.2.2.2.1,a.2.2.2.2.1,a.2.2.2.2.2.2.2.2.2.2.1,a.2.2.2.2.2.2.2.2.2.2.2.1,a.2.2.2.2.2.2.2.2.2.2.2.2⟩:I)
  partial_fixpoint
def sy:Int×Int×Int×Bool×Int×aj×Int×Int×Bool×Int×aj×Int×List I×List I×List bY->Option (Int×Bool×Int×aj×Int×Int×Bool×Int×aj×Int×List I×List I×List bY)
 |(R,t22,j,p,q,t,u,w,x,y,z,A,c,B,D)=>
 if (t22<R:Bool) then if aH t22 c.length then if (t22.toNat<c.length:Bool) then j4 (I.eta (c.getD t22.toNat au))>>=λX=>if aH t22 c.length then if (t22.toNat<c.length:Bool) then sy (R,aM .i64 t22 1,j,p,q,t,u,w,x,y,z,A,c.set t22.toNat (I.eta X),B,D)else none else none else none else none else some (j,p,q,t,u,w,x,y,z,A,c,B,D)
  partial_fixpoint
def sA:Int×Int×Int×Bool×Int×aj×Int×Int×Bool×Int×aj×Int×List I×List I×List bY->Option (Int×Bool×Int×aj×Int×Int×Bool×Int×aj×Int×List I×List I×List bY)
 |(S,t37,E,F,G,H,J,K,L,M,N,O,e,P,Q)=>
 if (t37<S:Bool) then if aH t37 e.length then if (t37.toNat<e.length:Bool) then j4 (I.eta (e.getD t37.toNat au))>>=λY=>if aH t37 e.length then if (t37.toNat<e.length:Bool) then sA (S,aM .i64 t37 1,E,F,G,H,J,K,L,M,N,O,e.set t37.toNat (I.eta Y),P,Q)else none else none else none else none else some (E,F,G,H,J,K,L,M,N,O,P,e,Q)
  partial_fixpoint
end
theorem VF:dY uA j4/\ez 219 0 [1] zF sA/\ez 219 0 [0] zE sy:=j4.mutual_partial_correctness (dV uA) (ey 219 0 [1] zF) (ey 219 0 [0] zE)
 (λ_ _ h1 a _ _ h=>eb h (.k nT (.k o8 .n)) (.k (eL zE a) (.k (eL zF h1) .n)))
 (λ_ _ h0 h1 _ _ h=>eK zF h1 h (.k (cg uA h0) .n))
 (λ_ _ h0 a _ _ h=>eK zE a h (.k (cg uA h0) .n))
theorem Wm:a6 uA j4:=cg _ VF.1
mutual
def uU(c:List I×List I):Option Bool:=
 match c with
 |(s1,f)=>
 if !((s1.length:Int)=(f.length:Int):Bool) then some false else uS (f,s1,(s1.length:Int),0)>>=λo=>match o with
 |.inl p=>
 some p
 |.inr u=>
 some true
  partial_fixpoint
def nx:I×I->Option Bool
 |(a,b)=>
 some (bif bif bif bif decide (a.Kind=b.Kind)then e6 a.bL b.bL else false then decide (a.bc=b.bc)else false then decide (a.bn=b.bn)else false then decide (a.ae=b.ae)else false)>>=λt37=>(if t37 then xG (a.Rest,b.Rest)else some false)>>=λr=>some (bif t37 then r else false)>>=λt44=>(if t44 then uU (a.aw,b.aw)else some false)>>=λq=>some (bif t44 then q else false)>>=λt51=>(if t51 then uU (a.ai,b.ai)else some false)>>=λt=>some (bif t51 then t else false)
  partial_fixpoint
def uS:List I×List I×Int×Int->Option ((Bool) ⊕ (Unit))
 |(e,t15,j,t17)=>
 if (t17<j:Bool) then if aH t17 t15.length then if aH t17 e.length then nx (I.eta (t15.getD t17.toNat au),I.eta (e.getD t17.toNat au))>>=λr=>if !r then some (.inl false)else uS (e,t15,j,aM .i64 t17 1)else none else none else some (.inr ())
  partial_fixpoint
end
theorem TC:dY D4 uU/\ez 104 0 [0] yN uS/\dY xh nx:=uU.mutual_partial_correctness (dV D4) (ey 104 0 [0] yN) (dV xh)
 (λ_ h1 _ _ h=>eb h .n (.k (eL yN h1) .n))
 (λ_ _ h1 a _ _ h=>eK yN h1 h (.k (cg xh a) .n))
 (λ_ h0 _ _ h=>eb h (.k RN (.k (cg D4 h0) .n)))
theorem G3:a6 xh nx:=cg _ TC.2.2
def sB:aS×I->Option Bool
 |(m,item)=>
 (if m.bZ then nx (I.eta item,I.eta m.bw)else some false)>>=λr=>some (bif m.bZ then r else false)
theorem Ga:a6 P6 sB:= .bh (.k G3 .n)
def GV:aR×Int->Option Int
 |(s,t)=>
 pq (⟨s.Types⟩:aR)>>=λr=>if !(r=0:Bool) then some r else if(bif (t<0:Bool)then true else ((s.Types.length:Int)<=t:Bool)) then some 4 else some 0
theorem Wn:a6 PJ GV:= .bh (.k xP .n)
def sN:aR×Int×I->Option Int
 |(s,t,v)=>
 GV ((⟨s.Types⟩:aR),t)>>=λr=>if !(r=0:Bool) then some r else tG ((⟨s.Types⟩:aR),t,I.eta v)>>=λa=>if !a then some 1 else some 0
theorem Wo:a6 Py sN:= .bh (.k Wn (.k SY .n))
def tq:Int×Int×aq->Option (Int×Int×aq)
 |(b,a,c)=>
 if (128<=b:Bool) then if aH a 10 then if (a.toNat<c.length:Bool) then tq (lr .u64 b 7,aM .i64 a 1,c.set a.toNat (rE .u8 (bW .u8 b) 128))else none else none else some (b,a,c)
  partial_fixpoint
theorem Xz:cN 228 0 [0] Nw tq:= .rx tq.partial_correctness
def pv(n:Int):Option aj:=
 tq (n,0,[0,0,0,0,0,0,0,0,0,0])>>=λo=>if aH o.2.1 10 then if (o.2.1.toNat<o.2.2.length:Bool) then some (o.2.2.set o.2.1.toNat (bW .u8 o.1))>>=λa=>some (aM .i64 o.2.1 1)>>=λt21=>if dT 0 t21 10 then if wF (0:Int).toNat t21.toNat a.length then some (strOf ((a.drop (0:Int).toNat).take t21.toNat))else none else none else none else none
theorem zh:a6 P' pv:= .bh .n (.k Xz .n)
def qH(p:aj):Option aj:=
 pv (bW .u64 (p.length:Int))>>=λr=>if (r.length+p.length<=eC:Bool) then some (r++p)else none
theorem Th:a6 PN qH:= .bh (.k zh .n)
def sh:aj×aj->Option (Int×aj)
 |(s,b)=>
 some b>>=λr=>if((r.length=b.length:Bool)&&true) then if room 1 (r.length+s.length) then some ((s.length:Int),A8 r s)else none else none
theorem Sp:a6 PM sh:= .bh (.k rk .n)
def u0:Int×Bool×aj->Option aj
 |(id,d,p)=>
 some (gw .u64 2 (bW .u64 id))>>=λt10=>if d then pv (aM .u64 t10 1)>>=λr=>qH p>>=λa=>if (r.length+a.length<=eC:Bool) then some (r++a)else none else pv t10>>=λb=>qH p>>=λc=>if (b.length+c.length<=eC:Bool) then some (b++c)else none
theorem GW:a6 P8 u0:= .bh (.k zh (.k Th .n))
def BU:aS×I->Option Bool
 |(m,v)=>
 (if m.bZ then nx (I.eta m.bw,I.eta v)else some false)>>=λr=>some (bif m.bZ then r else false)
theorem Wp:a6 P7 BU:= .bh (.k G3 .n)
def qv:List bY×Int×Int×List ah×Int×List gr->Option (List ah×Int×List gr)
 |(t57,e,t59,c,d,a)=>
 if (t59<e:Bool) then if aH t59 t57.length then some (t57.getD t59.toNat bX)>>=λb=>u0 (b.ae,false,b.Data)>>=λf=>some [(⟨b.ae,f⟩:gr)]>>=λt72=>if room 24 (a++t72).length then qv (t57,e,aM .i64 t59 1,c,d,a++t72)else none else none else some (c,d,a)
  partial_fixpoint
theorem TP:cN 189 1 [1] Ny qv:= .rx qv.partial_correctness (.k GW .n)
def qY:Int×Int×List ah×Int×List gr×aj->Option (List ah×Int×aj)
 |(e,t79,b,c,a,d)=>
 if (t79<e:Bool) then if aH t79 a.length then if (t79.toNat<a.length:Bool) then sh ((a.getD t79.toNat uZ).text,d)>>=λf=>qY (e,aM .i64 t79 1,b,c,a,f.2)else none else none else some (b,c,d)
  partial_fixpoint
theorem TQ:cN 189 1 [2] Nz qY:= .rx qY.partial_correctness (.k Sp .n)
def xJ(b:aj):Option aj:=
 if hK (b.length:Int) (b.length:Int) then some b else none
theorem Sr:a6 PO xJ:= .bh
def tu:Int×Int×aq->Option (Int×aq)
 |(b,c,a)=>
 if (0<b:Bool) then some (de .i64 c 1)>>=λt10=>if aH t10 8 then if (t10.toNat<a.length:Bool) then tu (lr .u64 b 8,t10,a.set t10.toNat (bW .u8 b))else none else none else some (c,a)
  partial_fixpoint
theorem XA:cN 187 0 [0] Nx tu:= .rx tu.partial_correctness
def yW(n:Int):Option aj:=
 tu (n,8,[0,0,0,0,0,0,0,0])>>=λo=>if dT o.1 8 8 then if wF o.1.toNat ((8:Int).toNat-o.1.toNat) o.2.length then some (strOf ((o.2.drop o.1.toNat).take ((8:Int).toNat-o.1.toNat)))else none else none
theorem Ym:a6 PK yW:= .bh .n (.k XA .n)
mutual
def j1:Int×I×Int×List ah×Int->Option (aj×List ah×Int)
 |(t,v,e,b,w)=>
 some (iv w e)>>=λt19=>if aH t b.length then some (b.getD t.toNat aN)>>=λa=>if (a.Kind=1:Bool) then if v.bL then some ([1],b,t19)else some ([],b,t19)else if (a.Kind=2:Bool) then uW v.bc>>=λr=>yW r>>=λq=>some (q,b,t19)else if (a.Kind=3:Bool) then some (v.bn,b,t19)else if (a.Kind=4:Bool) then yW (bW .u64 v.ae)>>=λN=>some (N,b,t19)else if (a.Kind=5:Bool) then B3 (a,I.eta v,e,b,t19)>>=λu=>some (u.1,u.2.1,u.2.2)else if (a.Kind=6:Bool) then yD (a,I.eta v,e,b,t19)>>=λy=>some (y.1,y.2.1,y.2.2)else if (a.Kind=9:Bool) then if ((v.ai.length:Int)=0:Bool) then some ([],b,t19)else if aH 0 v.ai.length then j1 (a.aG,I.eta (v.ai.getD (0:Int).toNat au),aM .i64 e 1,b,t19)>>=λD=>if ([1].length+D.1.length<=eC:Bool) then some ([1]++D.1,D.2.1,D.2.2)else none else none else lD (e,v.ai,(v.ai.length:Int),0,b,t19,I.eta v,a,[])>>=λo=>xJ o.2.2>>=λU=>some (U,o.1,o.2.1)else none
  partial_fixpoint
def B3:ah×I×Int×List ah×Int->Option (aj×List ah×Int)
 |(a,v,e,b,w)=>
 qZ (e,a.ag,(a.ag.length:Int),0,b,w,I.eta v,[])>>=λo=>qv (o.2.2.1.Rest,(o.2.2.1.Rest.length:Int),0,o.1,o.2.1,o.2.2.2)>>=λB=>Gf B.2.2>>=λr=>if((r.length=B.2.2.length:Bool)&&true) then qY ((r.length:Int),0,B.1,B.2.1,r,[])>>=λL=>xJ L.2.2>>=λq=>some (q,L.1,L.2.1)else none
  partial_fixpoint
def yD:ah×I×Int×List ah×Int->Option (aj×List ah×Int)
 |(a,v,e,b,w)=>
 pv (bW .u64 v.ae)>>=λr=>hd (a,v.ae)>>=λq=>if !q.2 then if aH 0 v.Rest.length then some (v.Rest.getD (0:Int).toNat bX)>>=λc=>if (r.length+c.Data.length<=eC:Bool) then some (r++c.Data,b,w)else none else none else if aH q.1 a.ag.length then if aH 0 v.ai.length then j1 ((a.ag.getD q.1.toNat aE).av,I.eta (v.ai.getD (0:Int).toNat au),aM .i64 e 1,b,w)>>=λE=>if (r.length+E.1.length<=eC:Bool) then some (r++E.1,E.2.1,E.2.2)else none else none else none
  partial_fixpoint
def lD:Int×List I×Int×Int×List ah×Int×I×ah×aj->Option (List ah×Int×aj)
 |(f,t84,R,t86,H,J,A,x,K)=>
 if (t86<R:Bool) then if aH t86 t84.length then some (t84.getD t86.toNat au)>>=λS=>if (x.Kind=8:Bool) then if aH t86 A.aw.length then j1 (x.Key,I.eta (A.aw.getD t86.toNat au),aM .i64 f 1,H,J)>>=λM=>qH M.1>>=λW=>sh (W,K)>>=λX=>j1 (x.aG,I.eta S,aM .i64 f 1,M.2.1,M.2.2)>>=λO=>qH O.1>>=λY=>sh (Y,X.2)>>=λZ=>lD (f,t84,R,aM .i64 t86 1,O.2.1,O.2.2,I.eta A,x,Z.2)else none else j1 (x.aG,I.eta S,aM .i64 f 1,H,J)>>=λP=>qH P.1>>=λaf=>sh (af,K)>>=λam=>lD (f,t84,R,aM .i64 t86 1,P.2.1,P.2.2,I.eta A,x,am.2)else none else some (H,J,K)
  partial_fixpoint
def qZ:Int×List aS×Int×Int×List ah×Int×I×List gr->Option (List ah×Int×I×List gr)
 |(f,t18,Q,t20,F,G,p,z)=>
 if (t20<Q:Bool) then if aH t20 t18.length then some (t18.getD t20.toNat aE)>>=λc=>if aH t20 p.ai.length then BU ((⟨c.ae,c.Name,c.av,c.cp,c.bZ,I.eta c.bw⟩:aS),I.eta (p.ai.getD t20.toNat au))>>=λN=>if !N then if aH t20 p.ai.length then j1 (c.av,I.eta (p.ai.getD t20.toNat au),aM .i64 f 1,F,G)>>=λu=>u0 (c.ae,c.cp,u.1)>>=λy=>some [(⟨c.ae,y⟩:gr)]>>=λt53=>if room 24 (z++t53).length then qZ (f,t18,Q,aM .i64 t20 1,u.2.1,u.2.2,I.eta p,z++t53)else none else none else qZ (f,t18,Q,aM .i64 t20 1,F,G,I.eta p,z)else none else none else some (F,G,I.eta p,z)
  partial_fixpoint
end
theorem TR:dY qj j1/\ez 145 1 [0] zH lD/\dY Bm yD/\dY Bl B3/\ez 189 1 [0] zG qZ:=j1.mutual_partial_correctness (dV qj) (ey 145 1 [0] zH) (dV Bm) (dV Bl) (ey 189 1 [0] zG)
 (λ_ _ _ _ h0 h1 b c _ _ h=>eb h (.k Sk (.k Ym (.k (cg Bl c) (.k (cg Bm b) (.k (cg qj h0) (.k Sr .n)))))) (.k (eL zH h1) .n))
 (λ_ _ h0 h1 _ _ h=>eK zH h1 h (.k (cg qj h0) (.k Th (.k Sp .n))))
 (λ_ h0 _ _ h=>eb h (.k zh (.k nq (.k (cg qj h0) .n))))
 (λ_ a _ _ h=>eb h (.k GS (.k Sr .n)) (.k (eL zG a) (.k TP (.k TQ .n))))
 (λ_ _ h0 a _ _ h=>eK zG a h (.k Wp (.k (cg qj h0) (.k GW .n))))
theorem TJ:a6 qj j1:=cg _ TR.1
end
end Go.Proofs.YtdjagncoefjfeaaGreat
