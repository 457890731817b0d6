/- The functions of the program as functions of Lean, that its code does what they say, and what they answer; part A. -/
import Derived.Test.YtdjagncoefjfeaaGreatProg
import Derived.KernelRfl
import Derived.Shelf.SlGeneric
import Derived.Shelf.SlLaysF0
import Derived.Shelf.SlSortCmp.WholeK
import Derived.Lib.Small
import Derived.Test.YtdjagncoefjfeaaGreatCsLD

namespace Go.Proofs.YtdjagncoefjfeaaGreat
set_option linter.all false
section
open Go Go.Proofs.YtdjagncoefjfeaaGreat.Shv
open Tryz
set_option maxRecDepth 100000
structure lI where
 af:Int
 au:Int
 gZ:Int
structure dr where
 Kind:Int
 A:Int
 B:Int
 C:Int
 c2:List lI
structure ek where
 ed:List dr
structure k7 where
 S:ek
 T:Int
 C:aq
structure kE where
 Kind:Int
 Node:Int
 A:Int
 B:Int
structure mz where
 D:k7
 L:List kE
structure nn where
 C:mz
 wU:Bool
structure c6 where
 af:Int
 Name:aj
structure bY where
 af:Int
 Data:aj
structure I where
 Kind:Int
 bM:Bool
 bd:Int
 bl:aj
 af:Int
 av:List I
 ai:List I
 Rest:List bY
structure aU where
 af:Int
 Name:aj
 au:Int
 cn:Bool
 bW:Bool
 bw:I
structure ah where
 Kind:Int
 Name:aj
 bB:Int
 bF:Int
 Max:Int
 bg:List c6
 ag:List aU
 Key:Int
 aG:Int
 Open:Bool
structure aQ where
 Types:List ah
structure dv where
 cN:aQ
 au:Int
structure cQ where
 af:Int
 cn:Bool
 Data:aj
structure iW where
 Path:aq
 Reason:Int
structure iL where
 t:Int
 number:Int
structure gv where
 id:Int
 text:aj
structure eR where
 v:I
 u:I
 message:aj
structure cT where
 Value:I
 dQ:iW
 cj:Bool
structure dJ where
 Value:I
 Path:aq
 cj:Bool
structure kF where
 V:I
 U:I
 Message:aj
structure y3 where
 II:List kE
 gD:List kE
abbrev F0:Nat:=0
abbrev SH:Nat:=1
abbrev Vm:Nat:=2
abbrev vt:Nat:=4
abbrev B5:Nat:=5
abbrev Sx:Nat:=6
def iV:lI:=⟨0,0,0⟩
def br:dr:=⟨0,0,0,0,[]⟩
def RX:ek:=⟨[]⟩
def RY:k7:=⟨RX,0,[]⟩
def nR:kE:=⟨0,0,0,0⟩
def R8:mz:=⟨RY,[]⟩
def WG:nn:=⟨R8,false⟩
def dN:c6:=⟨0,[]⟩
def bX:bY:=⟨0,[]⟩
def ar:I:=⟨0,false,0,[],0,[],[],[]⟩
def aC:aU:=⟨0,[],0,false,false,ar⟩
def aP:ah:=⟨0,[],0,0,0,[],[],0,0,false⟩
def L7:aQ:=⟨[]⟩
def Ia:dv:=⟨L7,0⟩
def gk:cQ:=⟨0,false,[]⟩
def JJ:iW:=⟨[],0⟩
def HF:iL:=⟨0,0⟩
def u0:gv:=⟨0,[]⟩
def VG:eR:=⟨ar,ar,[]⟩
def Vn:cT:=⟨ar,JJ,false⟩
def Vo:dJ:=⟨ar,[],false⟩
def Vp:kF:=⟨ar,ar,[]⟩
def aaI:y3:=⟨[],[]⟩
def dD:Nat->Type
 |0=>nn
 |1=>mz
 |2=>k7
 |3=>ek
 |4=>dr
 |5=>lI
 |6=>kE
 |7=>ah
 |8=>c6
 |9=>aU
 |10=>I
 |11=>bY
 |12=>aQ
 |13=>dv
 |14=>cQ
 |15=>iW
 |16=>iL
 |17=>gv
 |18=>eR
 |19=>cT
 |20=>dJ
 |21=>kF
 |22=>y3
 |_=>Bool
def dW:Nat->List aJ
 |0=>[.slice (.nm 4),.int .u8,.slice (.int .u8),.slice (.nm 6),.bool]
 |1=>[.slice (.nm 4),.int .u8,.slice (.int .u8),.slice (.nm 6)]
 |2=>[.slice (.nm 4),.int .u8,.slice (.int .u8)]
 |3=>[.slice (.nm 4)]
 |4=>[.int .u8,.int .u8,.int .u8,.int .u8,.slice (.nm 5)]
 |5=>[.int .u8,.int .u8,.int .u8]
 |6=>[.int .u8,.int .u8,.int .u8,.int .u8]
 |7=>[.int .i64,.str,.int .i64,.int .i64,.int .i64,.slice (.nm 8),.slice (.nm 9),.int .i64,.int .i64,.bool]
 |8=>[.int .i64,.str]
 |9=>[.int .i64,.str,.int .i64,.bool,.bool,.int .i64,.bool,.int .i64,.str,.int .i64,.slice (.nm 10),.slice (.nm 10),.slice (.nm 11)]
 |10=>[.int .i64,.bool,.int .i64,.str,.int .i64,.slice (.nm 10),.slice (.nm 10),.slice (.nm 11)]
 |11=>[.int .i64,.str]
 |12=>[.slice (.nm 7)]
 |13=>[.slice (.nm 7),.int .i64]
 |14=>[.int .i64,.bool,.str]
 |15=>[.slice (.int .i64),.int .i64]
 |16=>[.int .i64,.int .i64]
 |17=>[.int .i64,.str]
 |18=>[.int .i64,.bool,.int .i64,.str,.int .i64,.slice (.nm 10),.slice (.nm 10),.slice (.nm 11),.int .i64,.bool,.int .i64,.str,.int .i64,.slice (.nm 10),.slice (.nm 10),.slice (.nm 11),.str]
 |19=>[.int .i64,.bool,.int .i64,.str,.int .i64,.slice (.nm 10),.slice (.nm 10),.slice (.nm 11),.slice (.int .i64),.int .i64,.bool]
 |20=>[.int .i64,.bool,.int .i64,.str,.int .i64,.slice (.nm 10),.slice (.nm 10),.slice (.nm 11),.slice (.int .i64),.bool]
 |21=>[.int .i64,.bool,.int .i64,.str,.int .i64,.slice (.nm 10),.slice (.nm 10),.slice (.nm 11),.int .i64,.bool,.int .i64,.str,.int .i64,.slice (.nm 10),.slice (.nm 10),.slice (.nm 11),.str]
 |22=>[.slice (.nm 6),.slice (.nm 6)]
 |_=>[.bool]
def agX:(n:Nat)->dD n->List (Cell dD)
 |0,(x:nn)=>[⟨.slice (.nm 4),x.C.D.S.ed⟩,⟨.int .u8,x.C.D.T⟩,⟨.slice (.int .u8),x.C.D.C⟩,⟨.slice (.nm 6),x.C.L⟩,⟨.bool,x.wU⟩]
 |1,(x:mz)=>[⟨.slice (.nm 4),x.D.S.ed⟩,⟨.int .u8,x.D.T⟩,⟨.slice (.int .u8),x.D.C⟩,⟨.slice (.nm 6),x.L⟩]
 |2,(x:k7)=>[⟨.slice (.nm 4),x.S.ed⟩,⟨.int .u8,x.T⟩,⟨.slice (.int .u8),x.C⟩]
 |3,(x:ek)=>[⟨.slice (.nm 4),x.ed⟩]
 |4,(x:dr)=>[⟨.int .u8,x.Kind⟩,⟨.int .u8,x.A⟩,⟨.int .u8,x.B⟩,⟨.int .u8,x.C⟩,⟨.slice (.nm 5),x.c2⟩]
 |5,(x:lI)=>[⟨.int .u8,x.af⟩,⟨.int .u8,x.au⟩,⟨.int .u8,x.gZ⟩]
 |6,(x:kE)=>[⟨.int .u8,x.Kind⟩,⟨.int .u8,x.Node⟩,⟨.int .u8,x.A⟩,⟨.int .u8,x.B⟩]
 |7,(x:ah)=>[⟨.int .i64,x.Kind⟩,⟨.str,x.Name⟩,⟨.int .i64,x.bB⟩,⟨.int .i64,x.bF⟩,⟨.int .i64,x.Max⟩,⟨.slice (.nm 8),x.bg⟩,⟨.slice (.nm 9),x.ag⟩,⟨.int .i64,x.Key⟩,⟨.int .i64,x.aG⟩,⟨.bool,x.Open⟩]
 |8,(x:c6)=>[⟨.int .i64,x.af⟩,⟨.str,x.Name⟩]
 |9,(x:aU)=>[⟨.int .i64,x.af⟩,⟨.str,x.Name⟩,⟨.int .i64,x.au⟩,⟨.bool,x.cn⟩,⟨.bool,x.bW⟩,⟨.int .i64,x.bw.Kind⟩,⟨.bool,x.bw.bM⟩,⟨.int .i64,x.bw.bd⟩,⟨.str,x.bw.bl⟩,⟨.int .i64,x.bw.af⟩,⟨.slice (.nm 10),x.bw.av⟩,⟨.slice (.nm 10),x.bw.ai⟩,⟨.slice (.nm 11),x.bw.Rest⟩]
 |10,(x:I)=>[⟨.int .i64,x.Kind⟩,⟨.bool,x.bM⟩,⟨.int .i64,x.bd⟩,⟨.str,x.bl⟩,⟨.int .i64,x.af⟩,⟨.slice (.nm 10),x.av⟩,⟨.slice (.nm 10),x.ai⟩,⟨.slice (.nm 11),x.Rest⟩]
 |11,(x:bY)=>[⟨.int .i64,x.af⟩,⟨.str,x.Data⟩]
 |12,(x:aQ)=>[⟨.slice (.nm 7),x.Types⟩]
 |13,(x:dv)=>[⟨.slice (.nm 7),x.cN.Types⟩,⟨.int .i64,x.au⟩]
 |14,(x:cQ)=>[⟨.int .i64,x.af⟩,⟨.bool,x.cn⟩,⟨.str,x.Data⟩]
 |15,(x:iW)=>[⟨.slice (.int .i64),x.Path⟩,⟨.int .i64,x.Reason⟩]
 |16,(x:iL)=>[⟨.int .i64,x.t⟩,⟨.int .i64,x.number⟩]
 |17,(x:gv)=>[⟨.int .i64,x.id⟩,⟨.str,x.text⟩]
 |18,(x:eR)=>[⟨.int .i64,x.v.Kind⟩,⟨.bool,x.v.bM⟩,⟨.int .i64,x.v.bd⟩,⟨.str,x.v.bl⟩,⟨.int .i64,x.v.af⟩,⟨.slice (.nm 10),x.v.av⟩,⟨.slice (.nm 10),x.v.ai⟩,⟨.slice (.nm 11),x.v.Rest⟩,⟨.int .i64,x.u.Kind⟩,⟨.bool,x.u.bM⟩,⟨.int .i64,x.u.bd⟩,⟨.str,x.u.bl⟩,⟨.int .i64,x.u.af⟩,⟨.slice (.nm 10),x.u.av⟩,⟨.slice (.nm 10),x.u.ai⟩,⟨.slice (.nm 11),x.u.Rest⟩,⟨.str,x.message⟩]
 |19,(x:cT)=>[⟨.int .i64,x.Value.Kind⟩,⟨.bool,x.Value.bM⟩,⟨.int .i64,x.Value.bd⟩,⟨.str,x.Value.bl⟩,⟨.int .i64,x.Value.af⟩,⟨.slice (.nm 10),x.Value.av⟩,⟨.slice (.nm 10),x.Value.ai⟩,⟨.slice (.nm 11),x.Value.Rest⟩,⟨.slice (.int .i64),x.dQ.Path⟩,⟨.int .i64,x.dQ.Reason⟩,⟨.bool,x.cj⟩]
 |20,(x:dJ)=>[⟨.int .i64,x.Value.Kind⟩,⟨.bool,x.Value.bM⟩,⟨.int .i64,x.Value.bd⟩,⟨.str,x.Value.bl⟩,⟨.int .i64,x.Value.af⟩,⟨.slice (.nm 10),x.Value.av⟩,⟨.slice (.nm 10),x.Value.ai⟩,⟨.slice (.nm 11),x.Value.Rest⟩,⟨.slice (.int .i64),x.Path⟩,⟨.bool,x.cj⟩]
 |21,(x:kF)=>[⟨.int .i64,x.V.Kind⟩,⟨.bool,x.V.bM⟩,⟨.int .i64,x.V.bd⟩,⟨.str,x.V.bl⟩,⟨.int .i64,x.V.af⟩,⟨.slice (.nm 10),x.V.av⟩,⟨.slice (.nm 10),x.V.ai⟩,⟨.slice (.nm 11),x.V.Rest⟩,⟨.int .i64,x.U.Kind⟩,⟨.bool,x.U.bM⟩,⟨.int .i64,x.U.bd⟩,⟨.str,x.U.bl⟩,⟨.int .i64,x.U.af⟩,⟨.slice (.nm 10),x.U.av⟩,⟨.slice (.nm 10),x.U.ai⟩,⟨.slice (.nm 11),x.U.Rest⟩,⟨.str,x.Message⟩]
 |22,(x:y3)=>[⟨.slice (.nm 6),x.II⟩,⟨.slice (.nm 6),x.gD⟩]
 |_+23,(x:Bool)=>[⟨.bool,x⟩]
def cR:(n:Nat)->List (Cell dD)->Option (dD n)
 |0,l=>match aL.dec dD (dW 0) l with
  |some h=>some (⟨(⟨(⟨(⟨h.1⟩:ek),h.2.1,h.2.2.1⟩:k7),h.2.2.2.1⟩:mz),h.2.2.2.2⟩:nn)
  |none=>none
 |1,l=>match aL.dec dD (dW 1) l with
  |some h=>some (⟨(⟨(⟨h.1⟩:ek),h.2.1,h.2.2.1⟩:k7),h.2.2.2⟩:mz)
  |none=>none
 |2,l=>match aL.dec dD (dW 2) l with
  |some h=>some (⟨(⟨h.1⟩:ek),h.2.1,h.2.2⟩:k7)
  |none=>none
 |3,l=>match aL.dec dD (dW 3) l with
  |some h=>some (⟨h⟩:ek)
  |none=>none
 |4,l=>match aL.dec dD (dW 4) l with
  |some h=>some (⟨h.1,h.2.1,h.2.2.1,h.2.2.2.1,h.2.2.2.2⟩:dr)
  |none=>none
 |5,l=>match aL.dec dD (dW 5) l with
  |some h=>some (⟨h.1,h.2.1,h.2.2⟩:lI)
  |none=>none
 |6,l=>match aL.dec dD (dW 6) l with
  |some h=>some (⟨h.1,h.2.1,h.2.2.1,h.2.2.2⟩:kE)
  |none=>none
 |7,l=>match aL.dec dD (dW 7) l with
  |some h=>some (⟨h.1,h.2.1,h.2.2.1,h.2.2.2.1,h.2.2.2.2.1,h.2.2.2.2.2.1,h.2.2.2.2.2.2.1,h.2.2.2.2.2.2.2.1,h.2.2.2.2.2.2.2.2.1,h.2.2.2.2.2.2.2.2.2⟩:ah)
  |none=>none
 |8,l=>match aL.dec dD (dW 8) l with
  |some h=>some (⟨h.1,h.2⟩:c6)
  |none=>none
 |9,l=>match aL.dec dD (dW 9) l with
  |some h=>some (⟨h.1,h.2.1,h.2.2.1,h.2.2.2.1,h.2.2.2.2.1,(⟨h.2.2.2.2.2.1,h.2.2.2.2.2.2.1,h.2.2.2.2.2.2.2.1,h.2.2.2.2.2.2.2.2.1,h.2.2.2.2.2.2.2.2.2.1,h.2.2.2.2.2.2.2.2.2.2.1,h.2.2.2.2.2.2.2.2.2.2.2.1,h.2.2.2.2.2.2.2.2.2.2.2.2⟩:I)⟩:aU)
  |none=>none
 |10,l=>match aL.dec dD (dW 10) l with
  |some h=>some (⟨h.1,h.2.1,h.2.2.1,h.2.2.2.1,h.2.2.2.2.1,h.2.2.2.2.2.1,h.2.2.2.2.2.2.1,h.2.2.2.2.2.2.2⟩:I)
  |none=>none
 |11,l=>match aL.dec dD (dW 11) l with
  |some h=>some (⟨h.1,h.2⟩:bY)
  |none=>none
 |12,l=>match aL.dec dD (dW 12) l with
  |some h=>some (⟨h⟩:aQ)
  |none=>none
 |13,l=>match aL.dec dD (dW 13) l with
  |some h=>some (⟨(⟨h.1⟩:aQ),h.2⟩:dv)
  |none=>none
 |14,l=>match aL.dec dD (dW 14) l with
  |some h=>some (⟨h.1,h.2.1,h.2.2⟩:cQ)
  |none=>none
 |15,l=>match aL.dec dD (dW 15) l with
  |some h=>some (⟨h.1,h.2⟩:iW)
  |none=>none
 |16,l=>match aL.dec dD (dW 16) l with
  |some h=>some (⟨h.1,h.2⟩:iL)
  |none=>none
 |17,l=>match aL.dec dD (dW 17) l with
  |some h=>some (⟨h.1,h.2⟩:gv)
  |none=>none
 |18,l=>match aL.dec dD (dW 18) l with
  |some h=>some (⟨(⟨h.1,h.2.1,h.2.2.1,h.2.2.2.1,h.2.2.2.2.1,h.2.2.2.2.2.1,h.2.2.2.2.2.2.1,h.2.2.2.2.2.2.2.1⟩:I),(⟨h.2.2.2.2.2.2.2.2.1,h.2.2.2.2.2.2.2.2.2.1,h.2.2.2.2.2.2.2.2.2.2.1,h.2.2.2.2.2.2.2.2.2.2.2.1,h.2.2.2.2.2.2.2.2.2.2.2.2.1,h.2.2.2.2.2.2.2.2.2.2.2.2.2.1,h.2.2.2.2.2.2.2.2.2.2.2.2.2.2.1,h.2.2.2.2.2.2.2.2.2.2.2.2.2.2.2.1⟩:I),h.2.2.2.2.2.2.2.2.2.2.2.2.2.2.2.2⟩:eR)
  |none=>none
 |19,l=>match aL.dec dD (dW 19) l with
  |some h=>some (⟨(⟨h.1,h.2.1,h.2.2.1,h.2.2.2.1,h.2.2.2.2.1,h.2.2.2.2.2.1,h.2.2.2.2.2.2.1,h.2.2.2.2.2.2.2.1⟩:I),(⟨h.2.2.2.2.2.2.2.2.1,h.2.2.2.2.2.2.2.2.2.1⟩:iW),h.2.2.2.2.2.2.2.2.2.2⟩:cT)
  |none=>none
 |20,l=>match aL.dec dD (dW 20) l with
  |some h=>some (⟨(⟨h.1,h.2.1,h.2.2.1,h.2.2.2.1,h.2.2.2.2.1,h.2.2.2.2.2.1,h.2.2.2.2.2.2.1,h.2.2.2.2.2.2.2.1⟩:I),h.2.2.2.2.2.2.2.2.1,h.2.2.2.2.2.2.2.2.2⟩:dJ)
  |none=>none
 |21,l=>match aL.dec dD (dW 21) l with
  |some h=>some (⟨(⟨h.1,h.2.1,h.2.2.1,h.2.2.2.1,h.2.2.2.2.1,h.2.2.2.2.2.1,h.2.2.2.2.2.2.1,h.2.2.2.2.2.2.2.1⟩:I),(⟨h.2.2.2.2.2.2.2.2.1,h.2.2.2.2.2.2.2.2.2.1,h.2.2.2.2.2.2.2.2.2.2.1,h.2.2.2.2.2.2.2.2.2.2.2.1,h.2.2.2.2.2.2.2.2.2.2.2.2.1,h.2.2.2.2.2.2.2.2.2.2.2.2.2.1,h.2.2.2.2.2.2.2.2.2.2.2.2.2.2.1,h.2.2.2.2.2.2.2.2.2.2.2.2.2.2.2.1⟩:I),h.2.2.2.2.2.2.2.2.2.2.2.2.2.2.2.2⟩:kF)
  |none=>none
 |22,l=>match aL.dec dD (dW 22) l with
  |some h=>some (⟨h.1,h.2⟩:y3)
  |none=>none
 |_+23,l=>match aL.dec dD [.bool] l with
  |some (h:Bool)=>some h
  |none=>none
def QQ(x:lI):List T:=[.int .u8 x.af,.int .u8 x.au,.int .u8 x.gZ]
def xp(x:dr):List T:=[.int .u8 x.Kind,.int .u8 x.A,.int .u8 x.B,.int .u8 x.C,.slice (x.c2.map QQ)]
def afC(x:ek):List T:=[.slice (x.ed.map xp)]
def afD(x:k7):List T:=[.slice (x.S.ed.map xp),.int .u8 x.T,.slice (x.C.map (λy=>[.int .u8 y]))]
def xo(x:kE):List T:=[.int .u8 x.Kind,.int .u8 x.Node,.int .u8 x.A,.int .u8 x.B]
def afF(x:mz):List T:=[.slice (x.D.S.ed.map xp),.int .u8 x.D.T,.slice (x.D.C.map (λy=>[.int .u8 y])),.slice (x.L.map xo)]
def afH(x:nn):List T:=[.slice (x.C.D.S.ed.map xp),.int .u8 x.C.D.T,.slice (x.C.D.C.map (λy=>[.int .u8 y])),.slice (x.C.L.map xo),.bool x.wU]
def QP(x:c6):List T:=[.int .i64 x.af,.str x.Name]
def nh(x:bY):List T:=[.int .i64 x.af,.str x.Data]
def I.eta(x:I):I:=⟨x.Kind,x.bM,x.bd,x.bl,x.af,x.av,x.ai,x.Rest⟩
theorem I.aO(x:I):x.eta=x:=by cases x;rfl
mutual
def h8:I->List T
 |⟨a0,a1,a2,a3,a4,a5,a,c⟩=>[.int .i64 a0,.bool a1,.int .i64 a2,.str a3,.int .i64 a4,.slice (xn a5),.slice (xn a),.slice (c.map nh)]
def xn:List I->List (List T)
 |[]=>[]
 |v::r=>h8 v::xn r
end
theorem SP:∀l,xn l=l.map h8
 |[]=>rfl
 |v::r=>by simp only[xn,List.map];rw[SP r]
theorem YZ(x:I):h8 x=[.int .i64 x.Kind,.bool x.bM,.int .i64 x.bd,.str x.bl,.int .i64 x.af,.slice (x.av.map h8),.slice (x.ai.map h8),.slice (x.Rest.map nh)]:=by cases x;simp only[h8,SP]
def QO(x:aU):List T:=[.int .i64 x.af,.str x.Name,.int .i64 x.au,.bool x.cn,.bool x.bW,.int .i64 x.bw.Kind,.bool x.bw.bM,.int .i64 x.bw.bd,.str x.bw.bl,.int .i64 x.bw.af,.slice (x.bw.av.map h8),.slice (x.bw.ai.map h8),.slice (x.bw.Rest.map nh)]
def EL(x:ah):List T:=[.int .i64 x.Kind,.str x.Name,.int .i64 x.bB,.int .i64 x.bF,.int .i64 x.Max,.slice (x.bg.map QP),.slice (x.ag.map QO),.int .i64 x.Key,.int .i64 x.aG,.bool x.Open]
def afB(x:aQ):List T:=[.slice (x.Types.map EL)]
def afA(x:dv):List T:=[.slice (x.cN.Types.map EL),.int .i64 x.au]
def afz(x:cQ):List T:=[.int .i64 x.af,.bool x.cn,.str x.Data]
def afy(x:iW):List T:=[.slice (x.Path.map (λy=>[.int .i64 y])),.int .i64 x.Reason]
def afx(x:iL):List T:=[.int .i64 x.t,.int .i64 x.number]
def afw(x:gv):List T:=[.int .i64 x.id,.str x.text]
def afv(x:eR):List T:=[.int .i64 x.v.Kind,.bool x.v.bM,.int .i64 x.v.bd,.str x.v.bl,.int .i64 x.v.af,.slice (x.v.av.map h8),.slice (x.v.ai.map h8),.slice (x.v.Rest.map nh),.int .i64 x.u.Kind,.bool x.u.bM,.int .i64 x.u.bd,.str x.u.bl,.int .i64 x.u.af,.slice (x.u.av.map h8),.slice (x.u.ai.map h8),.slice (x.u.Rest.map nh),.str x.message]
def afE(x:cT):List T:=[.int .i64 x.Value.Kind,.bool x.Value.bM,.int .i64 x.Value.bd,.str x.Value.bl,.int .i64 x.Value.af,.slice (x.Value.av.map h8),.slice (x.Value.ai.map h8),.slice (x.Value.Rest.map nh),.slice (x.dQ.Path.map (λy=>[.int .i64 y])),.int .i64 x.dQ.Reason,.bool x.cj]
def afG(x:dJ):List T:=[.int .i64 x.Value.Kind,.bool x.Value.bM,.int .i64 x.Value.bd,.str x.Value.bl,.int .i64 x.Value.af,.slice (x.Value.av.map h8),.slice (x.Value.ai.map h8),.slice (x.Value.Rest.map nh),.slice (x.Path.map (λy=>[.int .i64 y])),.bool x.cj]
def afI(x:kF):List T:=[.int .i64 x.V.Kind,.bool x.V.bM,.int .i64 x.V.bd,.str x.V.bl,.int .i64 x.V.af,.slice (x.V.av.map h8),.slice (x.V.ai.map h8),.slice (x.V.Rest.map nh),.int .i64 x.U.Kind,.bool x.U.bM,.int .i64 x.U.bd,.str x.U.bl,.int .i64 x.U.af,.slice (x.U.av.map h8),.slice (x.U.ai.map h8),.slice (x.U.Rest.map nh),.str x.Message]
def afJ(x:y3):List T:=[.slice (x.II.map xo),.slice (x.gD.map xo)]
def agW:(n:Nat)->dD n->List T
 |0,x=>afH x
 |1,x=>afF x
 |2,x=>afD x
 |3,x=>afC x
 |4,x=>xp x
 |5,x=>QQ x
 |6,x=>xo x
 |7,x=>EL x
 |8,x=>QP x
 |9,x=>QO x
 |10,x=>h8 x
 |11,x=>nh x
 |12,x=>afB x
 |13,x=>afA x
 |14,x=>afz x
 |15,x=>afy x
 |16,x=>afx x
 |17,x=>afw x
 |18,x=>afv x
 |19,x=>afE x
 |20,x=>afG x
 |21,x=>afI x
 |22,x=>afJ x
 |_+23,(x:Bool)=>[.bool x]
def cO:cK where
 D:=dD
 kc:=λn=>match n with
  |0=>WG
  |1=>R8
  |2=>RY
  |3=>RX
  |4=>br
  |5=>iV
  |6=>nR
  |7=>aP
  |8=>dN
  |9=>aC
  |10=>ar
  |11=>bX
  |12=>L7
  |13=>Ia
  |14=>gk
  |15=>JJ
  |16=>HF
  |17=>u0
  |18=>VG
  |19=>Vn
  |20=>Vo
  |21=>Vp
  |22=>aaI
  |_+23=>false
 oM:=agX
 make:=cR
 de:=dW
 enc:=agW
 QS:=λn x=>match n,x with
  |0,_=>rfl
  |1,_=>rfl
  |2,_=>rfl
  |3,_=>rfl
  |4,_=>rfl
  |5,_=>rfl
  |6,_=>rfl
  |7,_=>rfl
  |8,_=>rfl
  |9,_=>rfl
  |10,x=>YZ x
  |11,_=>rfl
  |12,_=>rfl
  |13,_=>rfl
  |14,_=>rfl
  |15,_=>rfl
  |16,_=>rfl
  |17,_=>rfl
  |18,_=>rfl
  |19,_=>rfl
  |20,_=>rfl
  |21,_=>rfl
  |22,_=>rfl
  |_+23,_=>rfl
 mk_eq:=λn l x h=>match n,x,h with
  |0,x,h=>by
   simp only[cR]at h;split at h
   . rename_i aa a;cases h;exact aL.fb a
   . cases h
  |1,x,h=>by
   simp only[cR]at h;split at h
   . rename_i aa a;cases h;exact aL.fb a
   . cases h
  |2,x,h=>by
   simp only[cR]at h;split at h
   . rename_i aa a;cases h;exact aL.fb a
   . cases h
  |3,x,h=>by
   simp only[cR]at h;split at h
   . rename_i aa a;cases h;exact aL.fb a
   . cases h
  |4,x,h=>by
   simp only[cR]at h;split at h
   . rename_i aa a;cases h;exact aL.fb a
   . cases h
  |5,x,h=>by
   simp only[cR]at h;split at h
   . rename_i aa a;cases h;exact aL.fb a
   . cases h
  |6,x,h=>by
   simp only[cR]at h;split at h
   . rename_i aa a;cases h;exact aL.fb a
   . cases h
  |7,x,h=>by
   simp only[cR]at h;split at h
   . rename_i aa a;cases h;exact aL.fb a
   . cases h
  |8,x,h=>by
   simp only[cR]at h;split at h
   . rename_i aa a;cases h;exact aL.fb a
   . cases h
  |9,x,h=>by
   simp only[cR]at h;split at h
   . rename_i aa a;cases h;exact aL.fb a
   . cases h
  |10,x,h=>by
   simp only[cR]at h;split at h
   . rename_i aa a;cases h;exact aL.fb a
   . cases h
  |11,x,h=>by
   simp only[cR]at h;split at h
   . rename_i aa a;cases h;exact aL.fb a
   . cases h
  |12,x,h=>by
   simp only[cR]at h;split at h
   . rename_i aa a;cases h;exact aL.fb a
   . cases h
  |13,x,h=>by
   simp only[cR]at h;split at h
   . rename_i aa a;cases h;exact aL.fb a
   . cases h
  |14,x,h=>by
   simp only[cR]at h;split at h
   . rename_i aa a;cases h;exact aL.fb a
   . cases h
  |15,x,h=>by
   simp only[cR]at h;split at h
   . rename_i aa a;cases h;exact aL.fb a
   . cases h
  |16,x,h=>by
   simp only[cR]at h;split at h
   . rename_i aa a;cases h;exact aL.fb a
   . cases h
  |17,x,h=>by
   simp only[cR]at h;split at h
   . rename_i aa a;cases h;exact aL.fb a
   . cases h
  |18,x,h=>by
   simp only[cR]at h;split at h
   . rename_i aa a;cases h;exact aL.fb a
   . cases h
  |19,x,h=>by
   simp only[cR]at h;split at h
   . rename_i aa a;cases h;exact aL.fb a
   . cases h
  |20,x,h=>by
   simp only[cR]at h;split at h
   . rename_i aa a;cases h;exact aL.fb a
   . cases h
  |21,x,h=>by
   simp only[cR]at h;split at h
   . rename_i aa a;cases h;exact aL.fb a
   . cases h
  |22,x,h=>by
   simp only[cR]at h;split at h
   . rename_i aa a;cases h;exact aL.fb a
   . cases h
  |_+23,x,h=>by
   simp only[cR]at h;split at h
   . rename_i aa a;cases h;exact aL.fb a
   . cases h
 RH:=λn x=>match n,x with
  |0,_=>rfl
  |1,_=>rfl
  |2,_=>rfl
  |3,_=>rfl
  |4,_=>rfl
  |5,_=>rfl
  |6,_=>rfl
  |7,_=>rfl
  |8,_=>rfl
  |9,_=>rfl
  |10,_=>rfl
  |11,_=>rfl
  |12,_=>rfl
  |13,_=>rfl
  |14,_=>rfl
  |15,_=>rfl
  |16,_=>rfl
  |17,_=>rfl
  |18,_=>rfl
  |19,_=>rfl
  |20,_=>rfl
  |21,_=>rfl
  |22,_=>rfl
  |_+23,_=>rfl
 RG:=λe=>match e with
  |3=>some (.int .i64)
  |5=>some (.int .u8)
  |9=>some .str
  |37=>some (.nm 13)
  |48=>some (.nm 10)
  |85=>some (.nm 9)
  |88=>some (.slice (.int .i64))
  |112=>some (.nm 7)
  |117=>some (.nm 11)
  |140=>some (.nm 5)
  |146=>some (.nm 8)
  |196=>some (.nm 16)
  |236=>some (.nm 14)
  |276=>some (.nm 17)
  |_=>none
 own:=[([false,false,true,true],2,.int .i64),([false,true,true,false],1,.int .i64),([false,false,true],2,.slice (.int .i64))]
 pos:=λn=>match n with
  |0=>by decide
  |1=>by decide
  |2=>by decide
  |3=>by decide
  |4=>by decide
  |5=>by decide
  |6=>by decide
  |7=>by decide
  |8=>by decide
  |9=>by decide
  |10=>by decide
  |11=>by decide
  |12=>by decide
  |13=>by decide
  |14=>by decide
  |15=>by decide
  |16=>by decide
  |17=>by decide
  |18=>by decide
  |19=>by decide
  |20=>by decide
  |21=>by decide
  |22=>by decide
  |_+23=>Nat.zero_lt_one
theorem adF:cO.Total:=λn l h=>match n,h with
 |0,h=>by
  obtain⟨x,a⟩:=aL.gP (D:=dD) (ts:=dW 0) h;exact⟨_,by show cR 0 l=_;simp only[cR,a];rfl⟩
 |1,h=>by
  obtain⟨x,a⟩:=aL.gP (D:=dD) (ts:=dW 1) h;exact⟨_,by show cR 1 l=_;simp only[cR,a];rfl⟩
 |2,h=>by
  obtain⟨x,a⟩:=aL.gP (D:=dD) (ts:=dW 2) h;exact⟨_,by show cR 2 l=_;simp only[cR,a];rfl⟩
 |3,h=>by
  obtain⟨x,a⟩:=aL.gP (D:=dD) (ts:=dW 3) h;exact⟨_,by show cR 3 l=_;simp only[cR,a];rfl⟩
 |4,h=>by
  obtain⟨x,a⟩:=aL.gP (D:=dD) (ts:=dW 4) h;exact⟨_,by show cR 4 l=_;simp only[cR,a];rfl⟩
 |5,h=>by
  obtain⟨x,a⟩:=aL.gP (D:=dD) (ts:=dW 5) h;exact⟨_,by show cR 5 l=_;simp only[cR,a];rfl⟩
 |6,h=>by
  obtain⟨x,a⟩:=aL.gP (D:=dD) (ts:=dW 6) h;exact⟨_,by show cR 6 l=_;simp only[cR,a];rfl⟩
 |7,h=>by
  obtain⟨x,a⟩:=aL.gP (D:=dD) (ts:=dW 7) h;exact⟨_,by show cR 7 l=_;simp only[cR,a];rfl⟩
 |8,h=>by
  obtain⟨x,a⟩:=aL.gP (D:=dD) (ts:=dW 8) h;exact⟨_,by show cR 8 l=_;simp only[cR,a];rfl⟩
 |9,h=>by
  obtain⟨x,a⟩:=aL.gP (D:=dD) (ts:=dW 9) h;exact⟨_,by show cR 9 l=_;simp only[cR,a];rfl⟩
 |10,h=>by
  obtain⟨x,a⟩:=aL.gP (D:=dD) (ts:=dW 10) h;exact⟨_,by show cR 10 l=_;simp only[cR,a];rfl⟩
 |11,h=>by
  obtain⟨x,a⟩:=aL.gP (D:=dD) (ts:=dW 11) h;exact⟨_,by show cR 11 l=_;simp only[cR,a];rfl⟩
 |12,h=>by
  obtain⟨x,a⟩:=aL.gP (D:=dD) (ts:=dW 12) h;exact⟨_,by show cR 12 l=_;simp only[cR,a];rfl⟩
 |13,h=>by
  obtain⟨x,a⟩:=aL.gP (D:=dD) (ts:=dW 13) h;exact⟨_,by show cR 13 l=_;simp only[cR,a];rfl⟩
 |14,h=>by
  obtain⟨x,a⟩:=aL.gP (D:=dD) (ts:=dW 14) h;exact⟨_,by show cR 14 l=_;simp only[cR,a];rfl⟩
 |15,h=>by
  obtain⟨x,a⟩:=aL.gP (D:=dD) (ts:=dW 15) h;exact⟨_,by show cR 15 l=_;simp only[cR,a];rfl⟩
 |16,h=>by
  obtain⟨x,a⟩:=aL.gP (D:=dD) (ts:=dW 16) h;exact⟨_,by show cR 16 l=_;simp only[cR,a];rfl⟩
 |17,h=>by
  obtain⟨x,a⟩:=aL.gP (D:=dD) (ts:=dW 17) h;exact⟨_,by show cR 17 l=_;simp only[cR,a];rfl⟩
 |18,h=>by
  obtain⟨x,a⟩:=aL.gP (D:=dD) (ts:=dW 18) h;exact⟨_,by show cR 18 l=_;simp only[cR,a];rfl⟩
 |19,h=>by
  obtain⟨x,a⟩:=aL.gP (D:=dD) (ts:=dW 19) h;exact⟨_,by show cR 19 l=_;simp only[cR,a];rfl⟩
 |20,h=>by
  obtain⟨x,a⟩:=aL.gP (D:=dD) (ts:=dW 20) h;exact⟨_,by show cR 20 l=_;simp only[cR,a];rfl⟩
 |21,h=>by
  obtain⟨x,a⟩:=aL.gP (D:=dD) (ts:=dW 21) h;exact⟨_,by show cR 21 l=_;simp only[cR,a];rfl⟩
 |22,h=>by
  obtain⟨x,a⟩:=aL.gP (D:=dD) (ts:=dW 22) h;exact⟨_,by show cR 22 l=_;simp only[cR,a];rfl⟩
 |m+23,h=>by
  obtain⟨x,a⟩:=aL.gP (D:=dD) (ts:=[.bool]) h;exact⟨x,by show cR (m+23) l=_;simp only[cR,a];rfl⟩
end
section
open Go Go.Proofs.YtdjagncoefjfeaaGreat.Shv
open Tryz
set_option maxRecDepth 100000
open Go.Proofs Go.Proofs.YtdjagncoefjfeaaGreat Go.Shelf
theorem VI:hI prog 134=true:=by kernel_rfl
def oW:cC cO:=DU cO 134 (.int .i64) 8
theorem U5:hX prog oW:=YT (sz:=1) (bytes:=8) (z:=[.t (.int .i64 0)]) func134 (by kernel_rfl) (by kernel_rfl) (by kernel_rfl) rfl rfl
theorem nO:g' prog oW:=⟨VI,U5⟩
theorem Vq:hI prog 179=true:=by kernel_rfl
def o0:cC cO:=vS cO 179 (.nm 10) 120
theorem UE:hX prog o0:=Hh (sz:=8) (bytes:=120) (z:=[.t (.int .i64 0),.t (.bool false),.t (.int .i64 0),.t (.str []),.t (.int .i64 0),.aF,.aF,.aF]) func179 (by kernel_rfl) (by kernel_rfl) (by kernel_rfl) rfl rfl
theorem nS:g' prog o0:=⟨Vq,UE⟩
theorem Vr:hI prog 245=true:=by kernel_rfl
def o1:cC cO:=vS cO 245 (.nm 11) 24
theorem UF:hX prog o1:=Hh (sz:=2) (bytes:=24) (z:=[.t (.int .i64 0),.t (.str [])]) func245 (by kernel_rfl) (by kernel_rfl) (by kernel_rfl) rfl rfl
theorem o2:g' prog o1:=⟨Vr,UF⟩
instance:Inhabited gv:=⟨u0⟩
instance:Inhabited (cO.D 17):=⟨u0⟩
def lz(x y:gv):Bool:=decide (x.id<y.id)
def F1(l:List gv):Option (List gv):=some (hQ lz l)
section
open Go.Proofs Go.Proofs.YtdjagncoefjfeaaGreat Go.Sort Go.RowKit Go.Lib
theorem agI(x:Int)(w:World):Calls prog 250 #[.int .i64 x] w λe w'=>e= .returned (.bool false)/\w'=w:=by
 go_enter func250,ntmps250
 go_wp2
 go_ret
 exact⟨by simp,rfl⟩
set_option maxHeartbeats 1000000 in
theorem agH(x y:Int)(w:World):Calls prog 227 #[.int .i64 x,.int .i64 y] w λe w'=>e= .returned (.int .i64 (Lib.compareInt x y))/\w'=w:=by
 go_enter func227,ntmps227
 go_wp2_with (go_at_call 250;refine(agI _ _).mono ?_;rintro e w' ⟨rfl,a⟩;rw[a])
 all_goals (go_ret;refine⟨?_,rfl⟩;unfold Lib.compareInt;(repeat' split)<;>first|rfl|(exfalso;omega))
def An(x:gv):List Value:=[.int .i64 x.id,.string ⟨x.text.toArray⟩]
set_option maxHeartbeats 1000000 in
theorem agG(x y:Int)(s t:ByteArray)(W:World):Calls prog 226 #[.agg #[.int .i64 x,.string s],.agg #[.int .i64 y,.string t]] W λe w'=>e= .returned (.int .i64 (Lib.compareInt x y))/\∃q c,w'=grow (W.drewN q) c:=by
 have a:=λb=>agH x y b;generalize Lib.compareInt x y=r at a⊢
 go_enter func226,ntmps226
 go_wp2_with (go_at_call 227;refine(a _).mono ?_;rintro e w' ⟨rfl,rfl⟩)
 go_ret
 exact⟨rfl,0,_,by rw[alloc_eq_grow,alloc_eq_grow,grow_grow];rfl⟩
def L8:Go.Shelf.Ren:=⟨λ|6=>225|15=>249|14=>248|28=>263|29=>264|20=>255|21=>256|22=>257|23=>258|24=>259|25=>260|26=>261|27=>262|46=>265|47=>266|48=>267|49=>268|50=>269|57=>270|n=>n,λ|22=>274|24=>276|25=>279|3=>3|39=>269|0=>0|53=>305|55=>114|4=>4|46=>299|45=>298|50=>118|5=>5|9=>9|66=>307|70=>311|76=>313|77=>314|n=>n,λ|n=>n⟩
theorem Q3:SlLaysF0.n6 prog L8:={
 mixed:=by kernel_rfl
 f6:=⟨f225.name,by decide,func225.trans (dS some (by kernel_rfl))⟩
 f14:=⟨f248.name,by decide,func248.trans (dS some (by kernel_rfl))⟩
 f15:=func249.trans (dS some (by kernel_rfl))
 f20:=⟨f255.name,by decide,func255.trans (dS some (by kernel_rfl))⟩
 f21:=⟨f256.name,by decide,func256.trans (dS some (by kernel_rfl))⟩
 f22:=⟨f257.name,by decide,func257.trans (dS some (by kernel_rfl))⟩
 f23:=⟨f258.name,by decide,func258.trans (dS some (by kernel_rfl))⟩
 f24:=⟨f259.name,by decide,func259.trans (dS some (by kernel_rfl))⟩
 f25:=⟨f260.name,by decide,func260.trans (dS some (by kernel_rfl))⟩
 f26:=⟨f261.name,by decide,func261.trans (dS some (by kernel_rfl))⟩
 f27:=⟨f262.name,by decide,func262.trans (dS some (by kernel_rfl))⟩
 f28:=func263.trans (dS some (by kernel_rfl))
 f29:=func264.trans (dS some (by kernel_rfl))
 f46:=⟨f265.name,by decide,func265.trans (dS some (by kernel_rfl))⟩
 f47:=func266.trans (dS some (by kernel_rfl))
 f48:=func267.trans (dS some (by kernel_rfl))
 f49:=⟨f268.name,by decide,func268.trans (dS some (by kernel_rfl))⟩
 f50:=⟨f269.name,by decide,func269.trans (dS some (by kernel_rfl))⟩
 f57:=⟨f270.name,by decide,func270.trans (dS some (by kernel_rfl))⟩
 t0:=underlying0
 a0:=isAgg0
 z0:=sizeOf0
 v0:=zeroValue0
 t3:=underlying3
 a3:=isAgg3
 z3:=sizeOf3
 v3:=zeroValue3
 t4:=underlying4
 a4:=isAgg4
 z4:=sizeOf4
 v4:=zeroValue4
 t5:=underlying5
 a5:=isAgg5
 z5:=sizeOf5
 v5:=zeroValue5
 t9:=underlying9
 a9:=isAgg9
 z9:=sizeOf9
 v9:=zeroValue9
 t22:=underlying274
 a22:=isAgg274
 z22:=sizeOf274
 v22:=zeroValue274
 t25:=underlying279
 a25:=isAgg279
 z25:=sizeOf279
 v25:=zeroValue279
 t39:=underlying269
 a39:=isAgg269
 z39:=sizeOf269
 v39:=zeroValue269
 t45:=underlying298
 a45:=isAgg298
 z45:=sizeOf298
 v45:=zeroValue298
 t46:=underlying299
 a46:=isAgg299
 z46:=sizeOf299
 v46:=zeroValue299
 t50:=underlying118
 a50:=isAgg118
 z50:=sizeOf118
 v50:=zeroValue118
 t53:=underlying305
 a53:=isAgg305
 z53:=sizeOf305
 v53:=zeroValue305
 t55:=underlying114
 a55:=isAgg114
 z55:=sizeOf114
 v55:=zeroValue114
 t66:=underlying307
 a66:=isAgg307
 z66:=sizeOf307
 v66:=zeroValue307
 t70:=underlying311
 a70:=isAgg311
 z70:=sizeOf311
 v70:=zeroValue311
 t76:=underlying313
 a76:=isAgg313
 z76:=sizeOf313
 v76:=zeroValue313
 t77:=underlying314
 a77:=isAgg314
 z77:=sizeOf314
 v77:=zeroValue314}
theorem K4:ltOf (λx y:gv=>Lib.compareInt x.id y.id)=lz:=by
 funext x y
 unfold ltOf lz Lib.compareInt;by_cases h1:x.id<y.id
 . simp[h1]
 . by_cases a:y.id<x.id<;>simp[h1,a]
theorem FJ:SWO lz:=abZ (λx:gv=>x.id)
set_option maxHeartbeats 2000000 in
theorem agK(p:Option Addr)(cap:Nat)(a:Value)(w:World):Calls prog 255 #[.slice p 0 cap,.int .i64 0,.int .i64 0,a] w λe w'=>e= .returned (.tuple #[])/\w'=w:=by
 go_enter func255,ntmps255
 go_wp2
 refine wp_loop_rounds 1 ?_;rw[rounds_succ]
 go_wp2
 go_end0
 exact⟨rfl,rfl⟩
set_option maxHeartbeats 2000000 in
theorem agL(p:Option Addr)(cap:Nat)(c:Int)(a:Value)(w:World):Calls prog 248 #[.slice p 0 cap,.int .i64 0,.int .i64 0,.int .i64 c,a] w λe w'=>e= .returned (.tuple #[])/\w'=w:=by
 have b:=λW=>agK p cap a W
 go_enter func248,ntmps248
 go_wp2
 refine wp_loop_rounds 1 ?_;rw[rounds_succ]
 go_wp2_with (go_at_call 255;refine(b _).mono ?_;rintro e w' ⟨rfl,rfl⟩)
 (try simp only[Exit.inBlock,Exit.then]);refine bodyPost_ret (results_none rfl _ _ _) rfl ?_
 exact⟨rfl,rfl⟩
set_option maxHeartbeats 2000000 in
theorem agJ(p:Option Addr)(cap:Nat)(a:Value)(w:World):Calls prog 225 #[.slice p 0 cap,a] w λe w'=>e= .returned (.tuple #[])/\w'=w:=by
 have b:=λc W=>agL p cap c a W;have ae:∀W,Calls prog 249 #[.int .u64 0] W λe w'=>e= .returned (.int .i64 (Lib.bitLen 0:Nat))/\w'=W:=λW=>by
  have h:=Any.bits_Len (SlLaysF0.n15.bits (P:=prog) (ρ:=L8) {Q3 with}) 0 W (by omega) (by omega);exact h
 go_enter func225,ntmps225
 go_wp2_with (first|(go_at_call 249;refine(ae _).mono ?_;rintro e w' ⟨rfl,rfl⟩)|(go_at_call 248;refine(b _ _).mono ?_;rintro e w' ⟨rfl,rfl⟩))
 go_end0
 exact⟨rfl,rfl⟩
theorem agM(blk off cap:Nat)(d:Array (cO.D 17))(w:World)(c:HoldsK An 2 w blk off d)(f:blk<w.heap.size)(g:d.size<4611686018427387904):
 Calls prog 225 #[.slice (some ⟨blk,off,none⟩) d.size cap,.func (.func 226) #[] #[]] w λe w'=>e= .returned (.tuple #[])/\∃n os,w'=sortWorldK An 2 w blk off n (pdq lz d 0 d.size (Lib.bitLen d.size) true true) os:=by
 have b:∀args w,(callFunc 226 args).run prog w= .ok (.enter 226 args) w:=enters_of func226 (by kernel_rfl) rfl;have h:=AnyQ.slices_SortFunc_eq (α:=gv) Q3 2 isAgg276 sizeOf276 An (λ_=>rfl) (λx v a=>by simp[An]at a;rcases a with rfl|rfl<;>rfl) (λx y=>Lib.compareInt x.id y.id) (by rw[K4];exact FJ) 226 #[] blk off cap d w b (λ_ _ _ _ x y=>agG x.id y.id _ _ _) c f g;rw[K4]at h;exact h
theorem acW:hI prog 225=true:=by kernel_rfl
def GJ:cC cO:=FI cO 225 17 226 (hQ (α:=cO.D 17) lz)
theorem WH:hX prog GJ:=aby (U:=cO) (n:=17) An lz FJ (λ_=>rfl) (λw S x j t v h a=>YY w S x.id x.text j t v h a) agM agJ
end
theorem GK:g' prog GJ:=⟨acW,WH⟩
def Ke:Go.Shelf.Ren:=⟨λ|240=>229|276=>251|n=>n,λ|0=>0|4=>4|9=>9|20=>20|37=>25|70=>250|72=>252|164=>294|n=>n,λn=>n⟩
theorem af5:Lays.n240 prog Ke:={
 mixed:=by kernel_rfl
 f240:=func229.trans (dS some (by kernel_rfl))
 f276:=func251.trans (dS some (by kernel_rfl))
 t0:=underlying0
 a0:=isAgg0
 z0:=sizeOf0
 v0:=zeroValue0
 t4:=underlying4
 a4:=isAgg4
 z4:=sizeOf4
 v4:=zeroValue4
 t9:=underlying9
 a9:=isAgg9
 z9:=sizeOf9
 v9:=zeroValue9
 t20:=underlying20
 a20:=isAgg20
 z20:=sizeOf20
 v20:=zeroValue20
 t70:=underlying250
 a70:=isAgg250
 z70:=sizeOf250
 v70:=zeroValue250
 t72:=underlying252
 a72:=isAgg252
 z72:=sizeOf252
 v72:=zeroValue252
 t164:=underlying294
 a164:=isAgg294
 z164:=sizeOf294
 v164:=zeroValue294}
theorem af6:Builder.X72 prog Ke:={
 sizeBuilder:=by kernel_rfl
 liesBuilder:=by kernel_rfl}
theorem acX:hI prog 229=true:=by kernel_rfl
def pN:cC cO:=DV cO 229 252 5
theorem VH:hX prog pN:=aaG af5 af6 rfl rfl
theorem qH:g' prog pN:=⟨acX,VH⟩
theorem Vs:hI prog 134=true:=by kernel_rfl
def o3:cC cO:=vS cO 134 (.int .i64) 8
theorem UG:hX prog o3:=Hh (sz:=1) (bytes:=8) (z:=[.t (.int .i64 0)]) func134 (by kernel_rfl) (by kernel_rfl) (by kernel_rfl) rfl rfl
theorem sr:g' prog o3:=⟨Vs,UG⟩
end
section
open Go Go.Proofs.YtdjagncoefjfeaaGreat.Shv
open Tryz
set_option maxRecDepth 100000
abbrev bb(e:et)(F:aL cO.D e.ts->Option (aL cO.D e.us)):Prop:=g' prog (e.s F)
abbrev cS(f kk:Nat)(p:a6)(e:gr)(F:aL cO.D e.ts->Option (ew cO e.outs)):Prop:=m' prog f kk p e F
abbrev O5(e:et):Prop:=iD prog e
abbrev ej(e:et):aL cO.D e.ts->aL cO.D e.us->Prop:=AR prog cO e
abbrev eM(f kk:Nat)(p:a6)(e:gr):aL cO.D e.ts->ew cO e.outs->Prop:=wV prog cO f kk p e
abbrev eu(e:et)(F:aL cO.D e.ts->Option (aL cO.D e.us)):Prop:=∀h r,F h=some r->ej e h r
abbrev eN(f kk:Nat)(p:a6)(e:gr)(F:aL cO.D e.ts->Option (ew cO e.outs)):Prop:=∀h r,F h=some r->eM f kk p e h r
variable{fs:List (cC cO)}{p:a6}{go:List dv->Option Int}{gc:dv×dv×aj->Option (eR×Int)}
theorem eC{e:et}{h:aL cO.D e.ts}{r:aL cO.D e.us}{x:Option (aL cO.D e.us)}(h0:x=some r)(b:js prog fs:=by exact .n){a:List (Nat×ha cO)}(ae:jE prog e.f e.st.length [] a:=by exact .n)(k:O5 e:=by exact .m (by kernel_rfl))(c:qe (hM fs) (kP a) prog e h=x:=by kernel_rfl):ej e h r:= .at k b ae (c.trans h0)
theorem eU(e:gr){f kk:Nat}{F:aL cO.D e.ts->Option (ew cO e.outs)}(bD:eN f kk p e F){h:aL cO.D e.ts}{o:ew cO e.outs}{x:Option (ew cO e.outs)}(h0:x=some o)(b:js prog fs:=by exact .n){a:List (Nat×ha cO)}(ae:jE prog f kk p a:=by exact .n)(c:qD (hM fs) (kP a) kk (p' prog f p) e F h=x:=by kernel_rfl):eM f kk p e h o:= .at bD b ae (c.trans h0)
theorem cq(e:et){F:aL cO.D e.ts->Option (aL cO.D e.us)}(h:eu e F)(k:O5 e:=by exact .m (by kernel_rfl)):bb e F:= .of k h
theorem eV(e:gr){f kk:Nat}{F:aL cO.D e.ts->Option (ew cO e.outs)}(h:eN f kk p e F):cS f kk p e F:= .of h
def afa:=aW 68 [.row 3,aa ab] (aa ab)
def afb:=aW 69 [aa ab] (aa .bool)
def afc:=aW 70 [.row 4] (aa ab)
def afd:=aW 71 [.row 4] (aa ab)
def QF:=b5 0 [(1,aw 0 0),(3,.c (.arr 1)),(4,aa ab)] [.bt 4,.arr ab] [bR (.exit 0) [(3,.c (.arr 0))] [.arr ab]] [] [(.slot 3,ab)]
def afe:=aW 72 [.row 4] (aa bZ) [QF]
def aet:=aW 146 [aa ab] (aa .bool)
def N7:=b5 0 [(3,aw 0 0),(7,aa ab),(9,aa ab)] [cl (aA 4)] [eX 6 ab,gz 0]
def aed:=aW 109 [.row 3,aa ab,aa (.int .u8)] (aa ab) [N7]
def aef:=aW 111 [aa ab] (aa .bool)
def QH:=b5 0 [(1,aa (.int .u8)),(2,aw 0 0),(5,aa ab),(6,aa ab)] [cl (aA 4)] [eX 4 ab,gz 0]
def afg:=aW 74 [.row 3,aa (.int .u8)] (aa ab) [QH]
def aee:=aW 110 [.row 3,aa ab,aa (.int .u8)] (.aY [.row 10,aa .bool])
def Nj:=b5 0 [(1,aa ab),(2,aa .bool),(3,aw 0 0),(7,aw 1 0),(8,.c (.arr 2)),(9,aa ab),(10,aa ab)] [cl (aA 4),.bt 4,.arr (.nm 9)] [bR (.exit 2) [(1,aa ab),(2,aa .bool),(3,aw 0 0),(7,aw 1 0),(8,.c (.arr 2)),(9,aa ab)] [cl (aA 4),.bt 4,.arr (.nm 9)]]
def QG:=b5 0 [(1,aa ab),(2,aa .bool),(3,aw 0 0),(7,aw 1 0),(8,.c (.arr 2)),(9,aa ab)] [cl (aA 4),.bt 4,.arr (.nm 9)] [bR (.exit 0) [(8,.c (.arr 0))] [.arr (.nm 9)]] [Nj] [(.slot 8,.nm 9)]
def aff:=aW 73 [.row 3,aa ab,aa .bool] (aa (aA 9)) [QG]
def Mz:=b5 0 [(1,aw 0 0),(2,aw 1 0),(4,aa ab),(5,aw 2 0),(6,aa ab),(8,aw 3 0),(9,aa bZ),(10,aa ab)] [cl (aA 4),.box [.aF],.box [.arr 4],.box [.hole ab,.hole .str,.hole ab,.hole ab,.hole ab,.arr 5,.aF,.hole ab,.hole ab,.hole .bool],.arr (.nm 7),.arr (.nm 8)] [bR (.exit 3) [(1,aw 0 0),(2,aw 1 0),(4,aa ab),(5,aw 2 0),(6,aa ab),(8,aw 3 0)] [cl (aA 4),.box [.aF],.box [.arr 4],.box [.hole ab,.hole .str,.hole ab,.hole ab,.hole ab,.arr 5,.aF,.hole ab,.hole ab,.hole .bool],.arr (.nm 7),.arr (.nm 8)]] [] [(.via 8 5,.nm 8)]
def Qv:=b5 0 [(1,aw 0 0),(2,aw 1 0),(4,aa ab),(5,aw 2 0),(6,aa ab)] [cl (aA 4),.box [.aF],.box [.arr 3],.arr (.nm 7)] [bR (.exit 0) [(2,aw 0 0),(5,aw 1 0)] [.box [.aF],.box [.arr 2],.arr (.nm 7)]] [Mz] [(.via 5 0,.nm 7)]
def aeY:=aW 34 [.row 3] (.aY [.row 12,aa .bool]) [Qv]
def aeu:=aW 147 [aw 0 0,aa ab] (aa ab) [] [.box [.hole (aA 7),.hole (.slice (.int .u8)),.hole .bool]] [.box [.hole (aA 7),.hole (.slice (.int .u8)),.hole .bool]]
def N8:=b5 0 [(0,aw 0 0),(5,aa .str),(6,aa ab)] [.box [.hole (aA 7),.hole (.slice (.int .u8)),.hole .bool]] [bR (.exit 0) [(5,aa .str)] [.box [.hole (aA 7),.hole (.slice (.int .u8)),.hole .bool]]]
def aev:=aW 148 [aw 0 0,aa ab] (aa .str) [N8] [.box [.hole (aA 7),.hole (.slice (.int .u8)),.hole .bool]] [.box [.hole (aA 7),.hole (.slice (.int .u8)),.hole .bool]]
def aew:=aW 149 [aw 0 0] (aa .bool) [] [.box [.hole (aA 7),.hole (.slice (.int .u8)),.hole .bool]] [.box [.hole (aA 7),.hole (.slice (.int .u8)),.hole .bool]]
def QB:=b5 0 [(1,aa ab),(2,aw 0 0),(6,aa ab)] [.bt 7] [bR .ret [(4,aa ab),(5,aa .bool)],gz 0]
def ae6:=aW 53 [.row 7,aa ab] (.aY [aa ab,aa .bool]) [QB]
def QK:=b5 0 [(1,aa ab),(2,aw 0 0),(6,aa ab)] [.bt 7] [bR .ret [(4,aa ab),(5,aa .bool)],gz 0]
def afm:=aW 82 [.row 7,aa ab] (.aY [aa ab,aa .bool]) [QK]
def aeO:=aW 194 [.row 7,aa ab] (aa .bool)
def Nv:=b5 0 [(3,aw 1 0),(5,aa ab)] [.box [.hole (aA 7),.hole (.slice (.int .u8)),.hole .bool],.bt 7] [bR (.exit 0) [(5,aa ab)] [.box [.hole (aA 7),.hole (.slice (.int .u8)),.hole .bool]]]
def aey:=aW 150 [aw 0 0,.row 7] (aa ab) [Nv] [.box [.hole (aA 7),.hole (.slice (.int .u8)),.hole .bool]] [.box [.hole (aA 7),.hole (.slice (.int .u8)),.hole .bool]]
def aez:=aW 151 [aw 0 0,aa ab] (.row 11) [] [.box [.hole (aA 7),.hole (.slice (.int .u8)),.hole .bool]] [.box [.hole (aA 7),.hole (.slice (.int .u8)),.hole .bool]]
def aeL:=aW 163 [aa .bool,aa .bool] (aa ab)
def ae4:=aW 51 [aa ab] (aa (.int .u64))
def aep:=aW 128 [.row 10,.row 10] (aa ab)
def Nw:=b5 0 [(3,aw 0 0),(4,aw 1 0),(5,aw 2 0),(6,aw 3 0),(7,aa ab)] [.bt 10,.bt 10,.bt 10,.box [.hole ab,.hole .bool,.hole ab,.hole .str,.hole ab,.aF,.aF,.aF]] [bR (.exit 0) [(3,aw 0 0),(4,aw 1 0),(5,aw 2 0),(6,aw 3 0),(7,aa ab)] [.bt 10,.bt 10,.bt 10,.box [.hole ab,.hole .bool,.hole ab,.hole .str,.hole ab,.aF,.aF,.aF]]]
def aeA:=aW 152 [.row 10,.row 10,.row 10] (.row 10) [Nw]
def zn:=b5 0 [(0,aw 0 0),(4,aw 1 0),(5,aw 2 0),(6,aw 3 0),(7,aa ab)] [.box [.hole (aA 7),.hole (.slice (.int .u8)),.hole .bool],.box [.hole ab,.hole .bool,.hole ab,.hole .str,.hole ab,.aF,.aF,.aF],.box [.hole ab,.hole .str,.hole ab,.hole ab,.hole ab,.hole (aA 8),.hole (aA 9),.hole ab,.hole ab,.hole .bool],.box [.hole ab,.hole .bool,.hole ab,.hole .str,.hole ab,.aF,.arr 4,.aF],.arr (.nm 10)] [bR (.exit 1) [(0,aw 0 0),(4,aw 1 0),(5,aw 2 0),(6,aw 3 0)] [.box [.hole (aA 7),.hole (.slice (.int .u8)),.hole .bool],.box [.hole ab,.hole .bool,.hole ab,.hole .str,.hole ab,.aF,.aF,.aF],.box [.hole ab,.hole .str,.hole ab,.hole ab,.hole ab,.hole (aA 8),.hole (aA 9),.hole ab,.hole ab,.hole .bool],.box [.hole ab,.hole .bool,.hole ab,.hole .str,.hole ab,.aF,.arr 4,.aF],.arr (.nm 10)]] [] [(.via 6 6,.nm 10)]
def zo:=b5 1 [(0,aw 0 0),(4,aw 1 0),(5,aw 2 0),(6,aw 3 0),(9,aa ab)] [.box [.hole (aA 7),.hole (.slice (.int .u8)),.hole .bool],.box [.hole ab,.hole .bool,.hole ab,.hole .str,.hole ab,.aF,.aF,.aF],.box [.hole ab,.hole .str,.hole ab,.hole ab,.hole ab,.hole (aA 8),.hole (aA 9),.hole ab,.hole ab,.hole .bool],.box [.hole ab,.hole .bool,.hole ab,.hole .str,.hole ab,.aF,.arr 4,.aF],.arr (.nm 10)] [bR (.exit 3) [(4,aw 1 0),(6,aw 2 0)] [.box [.hole (aA 7),.hole (.slice (.int .u8)),.hole .bool],.box [.hole ab,.hole .bool,.hole ab,.hole .str,.hole ab,.aF,.aF,.aF],.box [.hole ab,.hole .bool,.hole ab,.hole .str,.hole ab,.aF,.arr 3,.aF],.arr (.nm 10)]] [] [(.via 6 6,.nm 10)]
def zp:=b5 2 [(0,aw 0 0),(4,aw 1 0),(5,aw 2 0),(6,aw 3 0),(10,aa ab)] [.box [.hole (aA 7),.hole (.slice (.int .u8)),.hole .bool],.box [.hole ab,.hole .bool,.hole ab,.hole .str,.hole ab,.aF,.aF,.aF],.box [.hole ab,.hole .str,.hole ab,.hole ab,.hole ab,.hole (aA 8),.hole (aA 9),.hole ab,.hole ab,.hole .bool],.box [.hole ab,.hole .bool,.hole ab,.hole .str,.hole ab,.hole (aA 10),.hole (aA 10),.hole (aA 11)]] [bR (.exit 5) [(4,aw 1 0),(6,aw 2 0)] [.box [.hole (aA 7),.hole (.slice (.int .u8)),.hole .bool],.box [.hole ab,.hole .bool,.hole ab,.hole .str,.hole ab,.aF,.aF,.aF],.box [.hole ab,.hole .bool,.hole ab,.hole .str,.hole ab,.hole (aA 10),.hole (aA 10),.hole (aA 11)]]]
def sf:=aW 112 [aw 0 0,aa ab] (.row 10) [zn,zo,zp] [.box [.hole (aA 7),.hole (.slice (.int .u8)),.hole .bool]] [.box [.hole (aA 7),.hole (.slice (.int .u8)),.hole .bool]]
def afi:=aW 76 [.row 12,aa ab,aa (.slice (.int .u8))] (.row 10)
def afj:=aW 77 [.row 12,aa ab,aa (.slice (.int .u8))] (.row 10)
def aeZ:=aW 38 [.row 2] (.aY [.row 12,aa ab,.row 10,.row 10,aa .bool])
def Qu:=b5 0 [(1,aa (aA 6)),(4,aw 0 0),(5,aw 1 0),(6,aa ab)] [.box [.aF],.box [.arr 2],.arr (.nm 4)] [bR (.exit 0) [(4,aw 0 0),(5,aw 1 0)] [.box [.aF],.box [.arr 2],.arr (.nm 4)]]
def aeX:=aW 33 [.row 3,aa (aA 6)] (.row 3) [Qu]
def QI:=b5 0 [(1,aa ab),(2,aw 0 0),(5,aa ab)] [.bt 10] [bR (.exit 0) [(1,aa ab),(2,aw 0 0)] [.bt 10]]
def xj:=b5 1 [(1,aa ab),(2,aw 0 0),(6,aa ab)] [.bt 10] [bR (.exit 2) [(1,aa ab),(2,aw 0 0)] [.bt 10]]
def xk:=b5 2 [(1,aa ab),(2,aw 0 0),(7,aa ab)] [.bt 10] [bR (.exit 4) [(1,aa ab)]]
def xi:=aW 78 [.row 10,aa ab] (aa ab) [QI,xj,xk]
def ae0:=aW 39 [.row 10] (aa .bool)
def aes:=aW 14 [.row 1] (.aY [.row 12,.row 12,aa ab,.row 10,aa .bool])
def Qz:=b5 0 [(0,aa (.int .u64)),(3,aa .str)] [] [bR (.exit 0) [(3,aa .str)]]
def ae3:=aW 50 [aa (.int .u64)] (aa .str) [Qz]
def QA:=b5 0 [(0,aa (.int .u64)),(3,.c (.arr 0))] [.arr (.int .u8)] [bR (.exit 0) [(0,aa (.int .u64)),(3,.c (.arr 0))] [.arr (.int .u8)]] [] [(.slot 3,.int .u8)]
def ae5:=aW 52 [aa (.int .u64)] (aa .str) [QA]
def ae7:=aW 54 [aa .str] (aa .str)
def xl:=b5 0 [(0,aa (aA 10)),(1,aa (aA 10)),(5,aa ab)] [] [eX 4 .bool,gz 0]
def EK:=aW 89 [aa (aA 10),aa (aA 10)] (aa .bool) [xl]
def Qy:=b5 0 [(2,aw 0 0),(3,aw 1 0),(5,aa ab)] [.bt 10,.bt 10] [eX 4 .bool,bR (.exit 0) [(2,aw 0 0),(3,aw 1 0)] [.bt 10,.bt 10]]
def Bk:=aW 49 [.row 10,.row 10] (aa .bool) [Qy]
def ae8:=aW 55 [aa ab,aa .bool,aa .str] (aa .str)
def MA:=b5 0 [(3,aw 0 0),(5,aw 1 0),(7,aw 2 0),(14,aa .str),(15,aa ab),(19,aa ab)] [cl (aA 7),.bt 10,.bt 7] [bR (.exit 7) [(3,aw 0 0),(5,aw 1 0),(7,aw 2 0),(14,aa .str),(15,aa ab)] [cl (aA 7),.bt 10,.bt 7]]
def xa:=b5 0 [(3,aw 0 0),(5,aw 1 0),(7,aw 2 0),(10,aa .str),(11,aa ab)] [cl (aA 7),.bt 10,.bt 7] [bR (.exit 1) [(10,aa .str)]]
def xc:=b5 1 [(3,aw 0 0),(5,aw 1 0),(7,aw 2 0),(12,aa .str),(13,aa ab)] [cl (aA 7),.bt 10,.bt 7] [bR (.exit 3) [(12,aa .str)]]
def xd:=b5 2 [(3,aw 0 0),(5,aw 1 0),(7,aw 2 0),(14,aa .str),(15,aa ab)] [cl (aA 7),.bt 10,.bt 7] [bR (.exit 5) [(14,aa .str)]] [MA]
def sh:=aW 19 [.row 12,aa ab,.row 10] (aa .str) [xa,xc,xd]
def A4:=aW 10 [.row 0] (.aY [.row 13,.row 13,aa .str,aa .bool])
def Qw:=aW 40 [aa ab] (.row 9)
def Qx:=aW 41 [aa (aA 9)] (.row 13)
def Nx:=b5 0 [(0,aa (aA 8)),(1,aa (aA 8)),(12,aa ab),(13,aa ab)] [] [eX 4 .bool,gz 0]
def Qg:=aW 239 [aa (aA 8),aa (aA 8)] (aa .bool) [Nx]
def Ny:=b5 0 [(0,aa (aA 11)),(1,aa (aA 11)),(12,aa ab),(13,aa ab)] [] [eX 4 .bool,gz 0]
def Pn:=aW 103 [aa (aA 11),aa (aA 11)] (aa .bool) [Ny]
def y4:=b5 0 [(1,aa (aA 10)),(2,.c (.fn 242 [])),(15,aa (aA 10)),(16,aa ab),(17,aa ab)] [] [eX 6 .bool,gz 0]
def DW:=aW 104 [aa (aA 10),aa (aA 10),.c (.fn 242 [])] (aa .bool) [y4]
def xe:=aW 242 [.row 10,.row 10] (aa .bool)
def Qj:=aW 241 [.row 9,.row 9] (aa .bool)
def Nz:=b5 0 [(1,aa (aA 9)),(2,.c (.fn 241 [])),(15,aa (aA 9)),(16,aa ab),(17,aa ab)] [] [eX 6 .bool,gz 0]
def Qi:=aW 240 [aa (aA 9),aa (aA 9),.c (.fn 241 [])] (aa .bool) [Nz]
def PW:=aW 211 [.row 7,.row 7] (aa .bool)
def Qc:=aW 235 [aa (.int .u8)] (aa .bool)
def Qd:=aW 236 [aa (.int .u8)] (aa .bool)
def NA:=b5 0 [(0,aa .str),(18,aa ab),(19,aa ab)] [] [eX 2 .bool,gz 0]
def PT:=aW 208 [aa .str] (aa .bool) [NA]
def NB:=b5 0 [(0,aa bZ),(1,aa jl),(5,.c (.mp 0)),(9,aa bZ),(10,aa ab),(11,aa ab)] [.set] [eX 4 .bool,bR (.exit 0) [(0,aa bZ)]]
def Qe:=aW 237 [aa bZ,aa jl] (aa .bool) [NB]
def NC:=b5 0 [(0,aa (aA 8)),(3,.c (.arr 0)),(4,.c (.arr 1)),(7,aa (aA 8)),(8,aa ab),(9,aa ab)] [.arr ab,.arr .str] [bR (.exit 0) [(0,aa (aA 8)),(3,.c (.arr 0)),(4,.c (.arr 1))] [.arr ab,.arr .str]] [] [(.slot 3,ab),(.slot 4,.str)]
def PU:=aW 209 [aa (aA 8)] (aa .bool) [NC]
def Qf:=aW 238 [.row 10] (aa .bool)
def ND:=b5 0 [(1,aw 0 0),(3,.c (.arr 1)),(4,.c (.arr 2)),(8,aa (aA 9)),(9,aa ab),(10,aa ab)] [.bt 7,.arr ab,.arr .str] [eX 2 .bool,bR (.exit 0) [(1,aw 0 0),(3,.c (.arr 1)),(4,.c (.arr 2))] [.bt 7,.arr ab,.arr .str]] [] [(.slot 3,ab),(.slot 4,.str)]
def PV:=aW 210 [.row 7] (aa .bool) [ND]
def Pz:=aW 169 [.row 7] (aa .bool)
def NF:=b5 0 [(1,aw 0 0),(3,.c (.arr 1)),(7,aa (aA 9)),(8,aa ab),(9,aa ab)] [.bt 7,.arr ab] [bR (.exit 0) [(1,aw 0 0),(3,.c (.arr 1))] [.bt 7,.arr ab]] [] [(.slot 3,ab)]
def PA:=aW 170 [.row 7] (aa bZ) [NF]
def L9:=b5 0 [(1,aw 0 0),(3,.c (.mp 1)),(5,aw 2 0),(14,aa (aA 7)),(15,aa ab),(16,aa ab),(38,aa bZ),(39,aa ab),(40,aa ab)] [cl (aA 7),.set,.box [.hole ab,.hole .str,.hole ab,.hole ab,.hole ab,.hole (aA 8),.hole (aA 9),.hole ab,.hole ab,.hole .bool]] [eX 2 ab,bR (.exit 2) [(1,aw 0 0),(3,.c (.mp 1)),(5,aw 2 0),(14,aa (aA 7)),(15,aa ab),(16,aa ab)] [cl (aA 7),.set,.box [.hole ab,.hole .str,.hole ab,.hole ab,.hole ab,.hole (aA 8),.hole (aA 9),.hole ab,.hole ab,.hole .bool]]]
def NG:=b5 0 [(1,aw 0 0),(3,.c (.mp 1)),(14,aa (aA 7)),(15,aa ab),(16,aa ab)] [cl (aA 7),.set] [eX 2 ab,gz 0] [L9]
def A8:=aW 139 [.row 12] (aa ab) [NG]
def Ex:=aW 105 [.row 13] (aa ab)
def EI:=b5 0 [(6,aa (aA 13)),(7,aa ab),(8,aa ab)] [] [eX 2 ab,gz 0]
def EH:=aW 65 [aa (aA 13)] (aa ab) [EI]
def PB:=aW 171 [aw 0 0,aa ab] (.aY [.row 10,aa .bool]) [] [.box [.hole (aA 7),.arr 1,.hole bZ,.hole ab],.arr ab] [.box [.hole (aA 7),.arr 2,.arr 3,.hole ab],.gone,.arr ab,.arr ab]
def NH:=b5 0 [(0,aa .str),(4,aa (.int .u64)),(17,aa ab),(18,aa ab)] [] [bR (.exit 0) [(4,aa (.int .u64))]]
def PC:=aW 172 [aa .str] (.aY [aa (.int .u64),aa ab]) [NH]
def PD:=aW 173 [aa (.int .u64)] (aa ab)
def PS:=aW 206 [.row 8,aw 0 0] (aa .bool) [] [cl ab] [cl ab]
def NI:=b5 0 [(0,aa (aA 8)),(1,.c (.fn 206 [0])),(7,aa ab),(8,aa ab)] [cl ab] [bR .ret [(4,aa ab)] [cl ab],bR (.exit 0) [] [cl ab]]
def PR:=aW 205 [aa (aA 8),.c (.fn 206 [0])] (aa ab) [NI] [cl ab] [cl ab]
def Px:=aW 165 [.row 7,aa ab] (.aY [aa ab,aa .bool])
def oI:=aW 174 [aw 0 0,aa ab,aa ab,aa .str] (.aY [.row 10,aa .bool]) [] [.box [.hole (aA 7),.arr 1,.hole bZ,.hole ab],.arr ab] [.box [.hole (aA 7),.arr 2,.hole bZ,.hole ab],.gone,.arr ab]
def NJ:=b5 0 [(0,aa .str),(5,aa (.int .u64)),(10,aa ab),(11,aa ab)] [] [bR .ret [(2,aa (.int .u64)),(3,aa ab),(4,aa ab)],gz 0]
def Qr:=aW 254 [aa .str] (.aY [aa (.int .u64),aa ab,aa ab]) [NJ]
def Qk:=aW 243 [aa .str] (.aY [aa (.int .u64),aa .str,aa .bool])
def PX:=aW 212 [aa .str] (.aY [aa ab,aa .str,aa ab])
def Pu:=aW 138 [.row 9,aw 0 0] (aa .bool) [] [cl ab] [cl ab]
def NK:=b5 0 [(0,aa (aA 9)),(1,.c (.fn 138 [0])),(7,aa ab),(8,aa ab)] [cl ab] [bR .ret [(4,aa ab)] [cl ab],bR (.exit 0) [] [cl ab]]
def Pt:=aW 137 [aa (aA 9),.c (.fn 138 [0])] (aa ab) [NK] [cl ab] [cl ab]
def QN:=aW 98 [.row 7,aa ab] (.aY [aa ab,aa .bool])
def A9:=aW 175 [aw 0 0,.row 7,aa .str] (.aY [.row 10,aa .bool]) [] [.box [.hole (aA 7),.arr 1,.hole bZ,.hole ab],.arr ab] [.box [.hole (aA 7),.arr 2,.hole bZ,.hole ab],.gone,.arr ab]
def Ql:=aW 244 [aa .str] (.aY [aa .str,aa .str,aa .bool])
def NL:=b5 0 [(4,.c (.arr 0)),(5,aa .str)] [.arr .str] [bR .ret [(2,.c (.aF)),(3,aa ab)],bR (.exit 0) [(4,.c (.arr 0))] [.arr .str]] [] [(.slot 4,.str)]
def PY:=aW 213 [aa .str] (.aY [aa jl,aa ab]) [NL]
def zq:=b5 0 [(0,aw 0 0),(4,aw 2 0),(6,aw 3 0),(10,aw 4 0),(38,aa jl),(39,aa ab),(40,aa ab)] [.box [.hole (aA 7),.arr 5,.hole bZ,.hole ab],.gone,.bt 7,.box [.hole ab,.hole .bool,.hole ab,.hole .str,.hole ab,.aF,.aF,.aF],.box [.hole ab,.hole .bool,.hole ab,.hole .str,.hole ab,.aF,.arr 6,.aF],.arr ab,.arr (.nm 10)] [bR .ret [(6,aw 2 0),(7,aa .bool)] [.box [.hole (aA 7),.arr 3,.hole bZ,.hole ab],.gone,.bt 10,.arr ab],bR (.exit 0) [(6,aw 2 0),(10,aw 3 0)] [.box [.hole (aA 7),.arr 4,.hole bZ,.hole ab],.gone,.box [.hole ab,.hole .bool,.hole ab,.hole .str,.hole ab,.aF,.aF,.aF],.box [.hole ab,.hole .bool,.hole ab,.hole .str,.hole ab,.aF,.arr 5,.aF],.arr ab,.arr (.nm 10)]] [] [(.via 10 6,.nm 10)]
def A':=aW 176 [aw 0 0,.row 7,aa .str] (.aY [.row 10,aa .bool]) [zq] [.box [.hole (aA 7),.arr 1,.hole bZ,.hole ab],.arr ab] [.box [.hole (aA 7),.arr 2,.hole bZ,.hole ab],.gone,.arr ab]
def PJ:=aW 188 [aa ab] (aa (.int .u64))
def Qp:=aW 252 [aa (.int .u64)] (aa .bool)
def P':=aW 232 [aa (.int .u64),aa (.int .u64)] (aa ab)
def Qo:=aW 250 [aa ab] (aa .bool)
def P7:=aW 227 [aa ab,aa ab] (aa ab)
def Qq:=aW 253 [aa .str] (aa .bool)
def Qb:=aW 234 [aa .str,aa .str] (aa ab)
def NM:=b5 0 [(3,aa ab),(6,aa bZ),(7,aa ab),(8,aa ab)] [] [eX 2 ab,bR (.exit 0) [(3,aa ab)]]
def Qa:=aW 233 [aa bZ] (aa ab) [NM]
def PQ:=aW 204 [.row 10,.row 10] (aa ab)
def zr:=b5 0 [(0,aw 0 0),(4,aw 2 0),(6,aw 3 0),(8,aa jl),(10,aw 4 0),(11,aa ab)] [.box [.hole (aA 7),.arr 5,.hole bZ,.hole ab],.gone,.bt 7,.box [.hole ab,.hole .bool,.hole ab,.hole .str,.hole ab,.aF,.aF,.aF],.box [.hole ab,.hole .bool,.hole ab,.hole .str,.hole ab,.arr 6,.aF,.aF],.arr ab,.arr (.nm 10)] [bR .ret [(6,aw 2 0),(7,aa .bool)] [.box [.hole (aA 7),.arr 3,.hole bZ,.hole ab],.gone,.bt 10,.arr ab],bR (.exit 0) [(0,aw 0 0),(4,aw 2 0),(6,aw 3 0),(8,aa jl),(10,aw 4 0)] [.box [.hole (aA 7),.arr 5,.hole bZ,.hole ab],.gone,.bt 7,.box [.hole ab,.hole .bool,.hole ab,.hole .str,.hole ab,.aF,.aF,.aF],.box [.hole ab,.hole .bool,.hole ab,.hole .str,.hole ab,.arr 6,.aF,.aF],.arr ab,.arr (.nm 10)]] [] [(.via 10 5,.nm 10)]
def Nk:=b5 1 [(0,aw 0 0),(4,aw 2 0),(6,aw 3 0),(8,aa jl),(10,aw 4 0),(14,aa ab)] [.box [.hole (aA 7),.arr 5,.hole bZ,.hole ab],.gone,.bt 7,.box [.hole ab,.hole .bool,.hole ab,.hole .str,.hole ab,.aF,.aF,.aF],.box [.hole ab,.hole .bool,.hole ab,.hole .str,.hole ab,.arr 6,.aF,.aF],.arr ab,.arr (.nm 10)] [bR .ret [(6,aw 2 0),(7,aa .bool)] [.box [.hole (aA 7),.arr 3,.arr 4,.hole ab],.gone,.bt 10,.arr ab,.arr ab],bR (.exit 2) [(0,aw 0 0),(4,aw 2 0),(6,aw 3 0),(8,aa jl),(10,aw 4 0)] [.box [.hole (aA 7),.arr 5,.hole bZ,.hole ab],.gone,.bt 7,.box [.hole ab,.hole .bool,.hole ab,.hole .str,.hole ab,.aF,.aF,.aF],.box [.hole ab,.hole .bool,.hole ab,.hole .str,.hole ab,.arr 6,.aF,.aF],.arr ab,.arr (.nm 10)]]
def zs:=b5 2 [(0,aw 0 0),(4,aw 2 0),(6,aw 3 0),(8,aa jl),(10,aw 4 0),(15,aa ab)] [.box [.hole (aA 7),.arr 5,.hole bZ,.hole ab],.gone,.bt 7,.box [.hole ab,.hole .bool,.hole ab,.hole .str,.hole ab,.aF,.aF,.aF],.box [.hole ab,.hole .bool,.hole ab,.hole .str,.hole ab,.arr 6,.arr 7,.aF],.arr ab,.arr (.nm 10),.arr (.nm 10)] [bR .ret [(6,aw 2 0),(7,aa .bool)] [.box [.hole (aA 7),.arr 3,.hole bZ,.hole ab],.gone,.bt 10,.arr ab],bR (.exit 4) [(6,aw 2 0),(10,aw 3 0)] [.box [.hole (aA 7),.arr 4,.hole bZ,.hole ab],.gone,.box [.hole ab,.hole .bool,.hole ab,.hole .str,.hole ab,.aF,.aF,.aF],.box [.hole ab,.hole .bool,.hole ab,.hole .str,.hole ab,.arr 5,.arr 6,.aF],.arr ab,.arr (.nm 10),.arr (.nm 10)]] [] [(.via 10 6,.nm 10)]
def Ba:=aW 177 [aw 0 0,.row 7,aa .str] (.aY [.row 10,aa .bool]) [zr,Nk,zs] [.box [.hole (aA 7),.arr 1,.hole bZ,.hole ab],.arr ab] [.box [.hole (aA 7),.arr 2,.hole bZ,.hole ab],.gone,.arr ab]
def Nl:=b5 0 [(4,.c (.arr 0)),(5,aa (.int .u64)),(6,aa .str)] [.arr (.nm 14)] [bR .ret [(2,.c (.aF)),(3,aa ab)],bR (.exit 0) [(4,.c (.arr 0))] [.arr (.nm 14)]] [] [(.slot 4,.nm 14)]
def PZ:=aW 214 [aa .str] (.aY [aa (aA 14),aa ab]) [Nl]
def P1:=aW 216 [.row 14,aw 0 0] (aa .bool) [] [.bt 9] [.bt 9]
def Nn:=b5 0 [(0,aa (aA 14)),(1,.c (.fn 216 [0])),(7,aa ab),(8,aa ab)] [.bt 9] [bR .ret [(4,aa ab)] [.bt 9],bR (.exit 0) [] [.bt 9]]
def P0:=aW 215 [aa (aA 14),.c (.fn 216 [0])] (aa ab) [Nn] [.bt 9] [.bt 9]
def zt:=b5 0 [(1,aw 0 0),(2,aw 1 0),(20,.c (.arr 2)),(21,aa ab),(22,aa ab)] [.box [.hole ab,.hole .bool,.hole ab,.hole .str,.hole ab,.arr 2,.arr 3,.arr 4],.box [.hole ab,.hole .bool,.hole ab,.hole .str,.hole ab,.aF,.aF,.aF],.arr (.nm 10),.arr (.nm 10),.arr (.nm 11)] [bR (.exit 0) [(1,aw 0 0),(2,aw 1 0)] [.box [.hole ab,.hole .bool,.hole ab,.hole .str,.hole ab,.arr 2,.arr 3,.arr 4],.box [.hole ab,.hole .bool,.hole ab,.hole .str,.hole ab,.aF,.aF,.aF],.arr (.nm 10),.arr (.nm 10),.arr (.nm 11)]]
def zu:=b5 1 [(1,aw 0 0),(2,aw 1 0),(35,.c (.arr 2)),(36,aa ab),(37,aa ab)] [.box [.hole ab,.hole .bool,.hole ab,.hole .str,.hole ab,.arr 3,.arr 2,.arr 4],.box [.hole ab,.hole .bool,.hole ab,.hole .str,.hole ab,.aF,.aF,.aF],.arr (.nm 10),.arr (.nm 10),.arr (.nm 11)] [bR (.exit 2) [(1,aw 0 0),(2,aw 1 0)] [.box [.hole ab,.hole .bool,.hole ab,.hole .str,.hole ab,.arr 2,.arr 3,.arr 4],.box [.hole ab,.hole .bool,.hole ab,.hole .str,.hole ab,.aF,.aF,.aF],.arr (.nm 10),.arr (.nm 10),.arr (.nm 11)]]
def uC:=aW 217 [.row 10] (.row 10) [zt,zu]
def zv:=b5 0 [(0,aw 0 0),(4,aw 2 0),(6,aw 3 0),(8,aa (aA 14)),(10,aw 4 0),(39,aa (aA 9)),(40,aa ab),(41,aa ab)] [.box [.hole (aA 7),.arr 5,.hole bZ,.hole ab],.gone,.bt 7,.box [.hole ab,.hole .bool,.hole ab,.hole .str,.hole ab,.aF,.aF,.aF],.box [.hole ab,.hole .bool,.hole ab,.hole .str,.hole ab,.aF,.arr 6,.aF],.arr ab,.arr (.nm 10)] [bR .ret [(6,aw 2 0),(7,aa .bool)] [.box [.hole (aA 7),.arr 3,.hole bZ,.hole ab],.gone,.bt 10,.arr ab],bR (.exit 0) [(0,aw 0 0),(4,aw 2 0),(6,aw 3 0),(8,aa (aA 14)),(10,aw 4 0)] [.box [.hole (aA 7),.arr 5,.hole bZ,.hole ab],.gone,.bt 7,.box [.hole ab,.hole .bool,.hole ab,.hole .str,.hole ab,.aF,.aF,.aF],.box [.hole ab,.hole .bool,.hole ab,.hole .str,.hole ab,.aF,.arr 6,.aF],.arr ab,.arr (.nm 10)]] [] [(.via 10 6,.nm 10)]
def No:=b5 1 [(0,aw 0 0),(4,aw 2 0),(6,aw 3 0),(10,aw 4 0),(117,aa (aA 14)),(118,aa ab),(119,aa ab)] [.box [.hole (aA 7),.arr 5,.hole bZ,.hole ab],.gone,.bt 7,.box [.hole ab,.hole .bool,.hole ab,.hole .str,.hole ab,.aF,.aF,.aF],.box [.hole ab,.hole .bool,.hole ab,.hole .str,.hole ab,.aF,.arr 6,.arr 7],.arr ab,.arr (.nm 10),.arr (.nm 11)] [bR .ret [(6,aw 2 0),(7,aa .bool)] [.box [.hole (aA 7),.arr 3,.arr 4,.hole ab],.gone,.bt 10,.arr ab,.arr ab],bR (.exit 3) [(6,aw 2 0),(10,aw 3 0)] [.box [.hole (aA 7),.arr 4,.hole bZ,.hole ab],.gone,.box [.hole ab,.hole .bool,.hole ab,.hole .str,.hole ab,.aF,.aF,.aF],.box [.hole ab,.hole .bool,.hole ab,.hole .str,.hole ab,.aF,.arr 5,.arr 6],.arr ab,.arr (.nm 10),.arr (.nm 11)]] [] [(.via 10 7,.nm 11)]
def Bb:=aW 178 [aw 0 0,.row 7,aa .str] (.aY [.row 10,aa .bool]) [zv,No] [.box [.hole (aA 7),.arr 1,.hole bZ,.hole ab],.arr ab] [.box [.hole (aA 7),.arr 2,.hole bZ,.hole ab],.gone,.arr ab]
def w7:=aW 140 [aw 0 0,aa ab,aa .str] (.aY [.row 10,aa .bool]) [] [.box [.hole (aA 7),.arr 1,.hole bZ,.hole ab],.arr ab] [.box [.hole (aA 7),.arr 2,.hole bZ,.hole ab],.gone,.arr ab]
def Pm:=aW 102 [.row 12,aa ab,aa .str] (.aY [.row 10,.row 15,aa ab])
def Bm:=aW 63 [.row 12,aa ab,aa .str] (.aY [.row 10,aa ab])
def Po:=aW 129 [.row 12,aa ab] (aa ab)
def P9:=aW 230 [.row 10] (.row 10)
def PN:=aW 201 [.row 10] (aa .bool)
def PO:=aW 202 [aa ab] (aa .bool)
def Bi:=aW 231 [.row 10,aw 0 0,aw 1 0,aw 2 0] (aa .bool) [] [cl (aA 7),cl ab,cl .bool] [cl (aA 7),cl ab,cl .bool]
def y5:=b5 0 [(0,aa (aA 10)),(1,.c (.fn 231 [0,1,2])),(7,aa ab),(8,aa ab)] [cl (aA 7),cl ab,cl .bool] [bR .ret [(4,aa ab)] [cl (aA 7),cl ab,cl .bool],bR (.exit 0) [] [cl (aA 7),cl ab,cl .bool]]
def DX:=aW 207 [aa (aA 10),.c (.fn 231 [0,1,2])] (aa ab) [y5] [cl (aA 7),cl ab,cl .bool] [cl (aA 7),cl ab,cl .bool]
def DY:=aW 166 [aa (aA 10),.c (.fn 231 [0,1,2])] (aa .bool) [] [cl (aA 7),cl ab,cl .bool] [cl (aA 7),cl ab,cl .bool]
def Bh:=aW 203 [.row 12,aa ab,aa (aA 10),aa .bool] (aa .bool)
def Np:=b5 0 [(3,aa .bool),(4,aw 0 0),(6,aw 1 0),(9,aw 2 0),(111,aa (aA 11)),(112,aa ab),(113,aa ab)] [cl (aA 7),.bt 10,.box [.hole ab,.hole .str,.hole ab,.hole ab,.hole ab,.hole (aA 8),.hole (aA 9),.hole ab,.hole ab,.hole .bool]] [eX 8 .bool,bR (.exit 1) [(3,aa .bool),(4,aw 0 0),(6,aw 1 0),(9,aw 2 0)] [cl (aA 7),.box [.hole ab,.hole .bool,.hole ab,.hole .str,.hole ab,.hole (aA 10),.hole (aA 10),.hole (aA 11)],.box [.hole ab,.hole .str,.hole ab,.hole ab,.hole ab,.hole (aA 8),.hole (aA 9),.hole ab,.hole ab,.hole .bool]]]
def zw:=b5 1 [(3,aa .bool),(4,aw 0 0),(6,aw 1 0),(150,aa (aA 9)),(151,aa ab),(152,aa ab)] [cl (aA 7),.box [.hole ab,.hole .bool,.hole ab,.hole .str,.hole ab,.hole (aA 10),.hole (aA 10),.hole (aA 11)]] [eX 8 .bool,gz 3]
def Nq:=b5 2 [(3,aa .bool),(4,aw 0 0),(6,aw 1 0),(9,aw 2 0),(20,aa ab)] [cl (aA 7),.bt 10,.box [.hole ab,.hole .str,.hole ab,.hole ab,.hole ab,.hole (aA 8),.hole (aA 9),.hole ab,.hole ab,.hole .bool]] [eX 8 .bool,bR (.exit 5) [(3,aa .bool),(4,aw 0 0),(6,aw 1 0),(9,aw 2 0)] [cl (aA 7),.bt 10,.box [.hole ab,.hole .str,.hole ab,.hole ab,.hole ab,.hole (aA 8),.hole (aA 9),.hole ab,.hole ab,.hole .bool]]]
def sg:=aW 164 [.row 12,aa ab,.row 10,aa .bool] (aa .bool) [Np,zw,Nq]
def Pp:=aW 130 [.row 12,aa ab,.row 10] (aa .bool)
def QM:=aW 92 [.row 12,aa ab,.row 10] (aa ab)
def Pq:=aW 131 [.row 7,.row 10] (aa .bool)
def Py:=aW 167 [.row 10,aw 0 0,aw 1 0] (aa .bool) [] [cl (aA 7),.bt 7] [cl (aA 7),.bt 7]
def Ma:=b5 0 [(0,aa (aA 10)),(1,.c (.fn 167 [0,1])),(7,aa ab),(8,aa ab)] [cl (aA 7),.bt 7] [bR .ret [(4,aa ab)] [cl (aA 7),.bt 7],bR (.exit 0) [] [cl (aA 7),.bt 7]]
def Nr:=aW 207 [aa (aA 10),.c (.fn 167 [0,1])] (aa ab) [Ma] [cl (aA 7),.bt 7] [cl (aA 7),.bt 7]
def Ns:=aW 166 [aa (aA 10),.c (.fn 167 [0,1])] (aa .bool) [] [cl (aA 7),.bt 7] [cl (aA 7),.bt 7]
def Pr:=aW 132 [.row 12,.row 7,.row 10] (aa .bool)
def Nt:=b5 0 [(2,aw 0 0),(3,aw 1 0),(5,.c (.arr 2)),(11,aa ab),(12,aa ab)] [.bt 7,.bt 10,.arr (.nm 16)] [bR (.exit 0) [(5,.c (.arr 0))] [.arr (.nm 16)]] [] [(.slot 5,.nm 16)]
def Ps:=aW 133 [.row 7,.row 10] (aa (aA 16)) [Nt]
def zx:=b5 0 [(3,aw 0 0),(5,aw 1 0),(6,aw 2 0),(9,aw 3 0),(49,aa (aA 16)),(50,aa ab),(51,aa ab)] [cl (aA 7),.bt 10,.box [.hole ab,.hole .bool,.hole ab,.hole .str,.hole ab,.aF,.aF,.aF],.box [.hole ab,.hole .bool,.hole ab,.hole .str,.hole ab,.arr 4,.arr 5,.aF],.arr (.nm 10),.arr (.nm 10)] [bR .ret [(6,aw 0 0),(7,aa .bool)] [.box [.hole ab,.hole .bool,.hole ab,.hole .str,.hole ab,.aF,.aF,.aF]],bR (.exit 0) [(6,aw 0 0),(9,aw 1 0)] [.box [.hole ab,.hole .bool,.hole ab,.hole .str,.hole ab,.aF,.aF,.aF],.box [.hole ab,.hole .bool,.hole ab,.hole .str,.hole ab,.arr 2,.arr 3,.aF],.arr (.nm 10),.arr (.nm 10)]] [] [(.via 9 6,.nm 10)]
def w8:=aW 141 [.row 12,aa ab,.row 10] (.aY [.row 10,aa .bool]) [zx]
def A5:=aW 106 [.row 12,aa ab,.row 10] (.aY [.row 10,aa ab])
def PE:=aW 180 [.row 12,aa ab] (aa ab)
def PF:=aW 181 [.row 12,aa ab,.row 10] (aa .bool)
def Pv:=aW 142 [.row 12,aa ab,.row 10,.row 12,aa ab] (aa ab)
def PG:=aW 182 [aw 0 0] (.aY [.row 10,aa .bool]) [] [.box [.hole (aA 7),.hole (aA 7),.arr 1,.hole bZ],.arr ab] [.box [.hole (aA 7),.hole (aA 7),.arr 2,.arr 3],.gone,.arr ab,.arr ab]
def P2:=aW 218 [aw 0 0,aa ab] (.aY [.row 10,aa .bool]) [] [.box [.hole (aA 7),.hole (aA 7),.arr 1,.hole bZ],.arr ab] [.box [.hole (aA 7),.hole (aA 7),.arr 2,.arr 3],.gone,.arr ab,.arr ab]
def zy:=b5 0 [(1,aw 0 0),(2,aw 1 0),(20,.c (.arr 2)),(21,aa ab),(22,aa ab)] [.box [.hole ab,.hole .bool,.hole ab,.hole .str,.hole ab,.arr 2,.arr 3,.arr 4],.box [.hole ab,.hole .bool,.hole ab,.hole .str,.hole ab,.aF,.aF,.aF],.arr (.nm 10),.arr (.nm 10),.arr (.nm 11)] [bR (.exit 0) [(1,aw 0 0),(2,aw 1 0)] [.box [.hole ab,.hole .bool,.hole ab,.hole .str,.hole ab,.arr 2,.arr 3,.arr 4],.box [.hole ab,.hole .bool,.hole ab,.hole .str,.hole ab,.aF,.aF,.aF],.arr (.nm 10),.arr (.nm 10),.arr (.nm 11)]]
def zz:=b5 1 [(1,aw 0 0),(2,aw 1 0),(35,.c (.arr 2)),(36,aa ab),(37,aa ab)] [.box [.hole ab,.hole .bool,.hole ab,.hole .str,.hole ab,.arr 3,.arr 2,.arr 4],.box [.hole ab,.hole .bool,.hole ab,.hole .str,.hole ab,.aF,.aF,.aF],.arr (.nm 10),.arr (.nm 10),.arr (.nm 11)] [bR (.exit 2) [(1,aw 0 0),(2,aw 1 0)] [.box [.hole ab,.hole .bool,.hole ab,.hole .str,.hole ab,.arr 2,.arr 3,.arr 4],.box [.hole ab,.hole .bool,.hole ab,.hole .str,.hole ab,.aF,.aF,.aF],.arr (.nm 10),.arr (.nm 10),.arr (.nm 11)]]
def uD:=aW 219 [.row 10] (.row 10) [zy,zz]
def uE:=aW 220 [aw 0 0,aa ab,aa ab,.row 10,aa ab] (.aY [.row 10,aa .bool]) [] [.box [.hole (aA 7),.hole (aA 7),.arr 1,.hole bZ],.arr ab] [.box [.hole (aA 7),.hole (aA 7),.arr 2,.hole bZ],.gone,.arr ab]
def y6:=b5 0 [(1,aa (aA 10)),(2,.c (.fn 64 [])),(15,aa (aA 10)),(16,aa ab),(17,aa ab)] [] [eX 6 .bool,gz 0]
def DZ:=aW 104 [aa (aA 10),aa (aA 10),.c (.fn 64 [])] (aa .bool) [y6]
def xh:=aW 64 [.row 10,.row 10] (aa .bool)
def P4:=aW 221 [.row 9,.row 10] (aa .bool)
def Nu:=b5 0 [(0,aa (.int .u64)),(3,aw 0 0),(4,aa ab)] [.arr (.int .u8)] [bR (.exit 0) [(0,aa (.int .u64)),(3,aw 0 0),(4,aa ab)] [.arr (.int .u8)]]
def P8:=aW 228 [aa (.int .u64)] (aa .str) [Nu]
def PL:=aW 192 [aa .str] (aa .str)
def P6:=aW 224 [aa ab,aa .bool,aa .str] (aa .str)
def Qm:=aW 246 [aa ab,aa .bool,aa .str] (.aY [aa .str,aa ab])
def Qn:=aW 247 [aa .str] (aa .str)
def PH:=aW 186 [.row 12,aa ab] (aa ab)
def Pw:=aW 144 [.row 12,aa ab,.row 10] (aa ab)
def OG:=b5 0 [(0,aa (.int .u64)),(3,aw 0 0),(4,aa ab)] [.arr (.int .u8)] [bR (.exit 0) [(3,aw 0 0),(4,aa ab)] [.arr (.int .u8)]]
def PI:=aW 187 [aa (.int .u64)] (aa .str) [OG]
def P5:=aW 223 [.row 9,.row 10] (aa .bool)
def PK:=aW 191 [aw 0 0,aa .str] (.aY [aa ab,.c (.dead)]) [] [.b8 252 ((.cI 1)),.buf 5] [.b8 252 ((.cI 2)),.gone,.buf 5]
def PM:=aW 193 [aw 0 0] (aa .str) [] [.b8 252 ((.cI 1)),.buf 5] [.b8 252 ((.cI 1)),.gone]
def zA:=b5 0 [(0,aw 0 0),(3,aa ab),(6,aw 1 0),(9,.c (.arr 2)),(18,aa (aA 9)),(19,aa ab),(20,aa ab)] [.box [.hole (aA 7),.hole ab],.bt 10,.arr (.nm 17)] [bR (.exit 0) [(6,aw 1 0),(9,.c (.arr 2))] [.box [.hole (aA 7),.hole ab],.bt 10,.arr (.nm 17)]] [] [(.slot 9,.nm 17)]
def OH:=b5 1 [(9,.c (.arr 1)),(57,aa (aA 11)),(58,aa ab),(59,aa ab)] [.box [.hole (aA 7),.hole ab],.arr (.nm 17)] [bR (.exit 2) [(9,.c (.arr 1))] [.box [.hole (aA 7),.hole ab],.arr (.nm 17)]]
def OI:=b5 2 [(14,aw 1 0),(77,.c (.arr 2)),(78,aa ab),(79,aa ab)] [.box [.hole (aA 7),.hole ab],.b8 252 ((.cI 3)),.arr (.nm 17),.buf 5] [bR (.exit 4) [(14,aw 1 0)] [.box [.hole (aA 7),.hole ab],.b8 252 ((.cI 2)),.buf 5]]
def Bf:=aW 189 [aw 0 0,.row 7,.row 10,aa ab] (aa .str) [zA,OH,OI] [.box [.hole (aA 7),.hole ab]] [.box [.hole (aA 7),.hole ab]]
def Bg:=aW 190 [aw 0 0,.row 7,.row 10,aa ab] (aa .str) [] [.box [.hole (aA 7),.hole ab]] [.box [.hole (aA 7),.hole ab]]
def zB:=b5 0 [(0,aw 0 0),(3,aa ab),(6,aw 1 0),(9,aw 2 0),(10,aw 3 0),(84,aa (aA 10)),(85,aa ab),(86,aa ab)] [.box [.hole (aA 7),.hole ab],.bt 10,.bt 7,.b8 252 ((.cI 4)),.buf 5] [bR (.exit 1) [(10,aw 1 0)] [.box [.hole (aA 7),.hole ab],.b8 252 ((.cI 2)),.buf 5]]
def qm:=aW 145 [aw 0 0,aa ab,.row 10,aa ab] (aa .str) [zB] [.box [.hole (aA 7),.hole ab]] [.box [.hole (aA 7),.hole ab]]
def A7:=aW 108 [.row 12,aa ab,.row 10] (.aY [aa .str,aa ab])
def zC:=b5 0 [(3,aw 0 0),(5,aw 1 0),(8,aa .str),(36,aa (aA 9)),(37,aa ab),(38,aa ab)] [cl (aA 7),.bt 10] [bR (.exit 1) [(8,aa .str)]]
def zD:=b5 1 [(3,aw 0 0),(7,aw 1 0),(8,aa .str),(101,aa (aA 10)),(102,aa ab),(103,aa ab)] [cl (aA 7),.bt 7] [bR (.exit 3) [(8,aa .str)]]
def zE:=b5 2 [(3,aw 0 0),(5,aw 1 0),(7,aw 2 0),(8,aa .str),(118,aa (aA 10)),(119,aa ab),(120,aa ab)] [cl (aA 7),.bt 10,.bt 7] [bR (.exit 5) [(8,aa .str)]]
def qn:=aW 222 [.row 12,aa ab,.row 10] (aa .str) [zC,zD,zE]
def zF:=b5 0 [(0,aw 0 0),(5,aw 2 0),(6,aw 3 0),(7,aw 4 0),(8,aw 5 0),(10,aw 6 0),(25,aa (aA 9)),(26,aa ab),(27,aa ab)] [.box [.hole (aA 7),.hole (aA 7),.arr 7,.hole bZ],.gone,.bt 7,.bt 10,.bt 7,.box [.hole ab,.hole .bool,.hole ab,.hole .str,.hole ab,.aF,.aF,.aF],.box [.hole ab,.hole .bool,.hole ab,.hole .str,.hole ab,.aF,.arr 8,.aF],.arr ab,.arr (.nm 10)] [bR .ret [(8,aw 2 0),(9,aa .bool)] [.box [.hole (aA 7),.hole (aA 7),.arr 3,.hole bZ],.gone,.bt 10,.arr ab],bR (.exit 0) [(0,aw 0 0),(5,aw 2 0),(6,aw 3 0),(7,aw 4 0),(8,aw 5 0),(10,aw 6 0)] [.box [.hole (aA 7),.hole (aA 7),.arr 7,.hole bZ],.gone,.bt 7,.bt 10,.bt 7,.box [.hole ab,.hole .bool,.hole ab,.hole .str,.hole ab,.aF,.aF,.aF],.box [.hole ab,.hole .bool,.hole ab,.hole .str,.hole ab,.aF,.arr 8,.aF],.arr ab,.arr (.nm 10)]] [] [(.via 10 6,.nm 10)]
def OJ:=b5 1 [(0,aw 0 0),(6,aw 2 0),(7,aw 3 0),(8,aw 4 0),(10,aw 5 0),(115,aa (aA 9)),(116,aa ab),(117,aa ab)] [.box [.hole (aA 7),.hole (aA 7),.arr 6,.hole bZ],.gone,.bt 10,.bt 7,.box [.hole ab,.hole .bool,.hole ab,.hole .str,.hole ab,.aF,.aF,.aF],.box [.hole ab,.hole .bool,.hole ab,.hole .str,.hole ab,.aF,.arr 7,.arr 8],.arr ab,.arr (.nm 10),.arr (.nm 11)] [bR .ret [(8,aw 2 0),(9,aa .bool)] [.box [.hole (aA 7),.hole (aA 7),.arr 3,.arr 4],.gone,.bt 10,.arr ab,.arr ab],bR (.exit 2) [(8,aw 2 0),(10,aw 3 0)] [.box [.hole (aA 7),.hole (aA 7),.arr 4,.hole bZ],.gone,.box [.hole ab,.hole .bool,.hole ab,.hole .str,.hole ab,.aF,.aF,.aF],.box [.hole ab,.hole .bool,.hole ab,.hole .str,.hole ab,.aF,.arr 5,.arr 6],.arr ab,.arr (.nm 10),.arr (.nm 11)]] [] [(.via 10 7,.nm 11)]
def Bc:=aW 183 [aw 0 0,.row 7,.row 10,.row 7] (.aY [.row 10,aa .bool]) [zF,OJ] [.box [.hole (aA 7),.hole (aA 7),.arr 1,.hole bZ],.arr ab] [.box [.hole (aA 7),.hole (aA 7),.arr 2,.hole bZ],.gone,.arr ab]
def Bd:=aW 184 [aw 0 0,.row 7,.row 10,.row 7] (.aY [.row 10,aa .bool]) [] [.box [.hole (aA 7),.hole (aA 7),.arr 1,.hole bZ],.arr ab] [.box [.hole (aA 7),.hole (aA 7),.arr 2,.hole bZ],.gone,.arr ab]
def zG:=b5 0 [(0,aw 0 0),(1,aa ab),(3,aa ab),(10,.c (.arr 2)),(15,aa (aA 10)),(16,aa ab),(17,aa ab)] [.box [.hole (aA 7),.hole (aA 7),.arr 3,.hole bZ],.gone,.arr (.nm 10),.arr ab] [bR .ret [(8,.c (.aF)),(9,aa .bool)] [.box [.hole (aA 7),.hole (aA 7),.arr 2,.hole bZ],.gone,.arr ab],bR (.exit 0) [(10,.c (.arr 2))] [.box [.hole (aA 7),.hole (aA 7),.arr 3,.hole bZ],.gone,.arr (.nm 10),.arr ab]] [] [(.slot 10,.nm 10)]
def Be:=aW 185 [aw 0 0,aa ab,aa (aA 10),aa ab] (.aY [aa (aA 10),aa .bool]) [zG] [.box [.hole (aA 7),.hole (aA 7),.arr 1,.hole bZ],.arr ab] [.box [.hole (aA 7),.hole (aA 7),.arr 2,.hole bZ],.gone,.arr ab]
def w9:=aW 143 [aw 0 0,aa ab,.row 10,aa ab] (.aY [.row 10,aa .bool]) [] [.box [.hole (aA 7),.hole (aA 7),.arr 1,.hole bZ],.arr ab] [.box [.hole (aA 7),.hole (aA 7),.arr 2,.hole bZ],.gone,.arr ab]
def A6:=aW 107 [.row 12,aa ab,.row 10,.row 12,aa ab] (.aY [.row 10,aa ab])
def EJ:=aW 66 [.row 13,.row 13,aa .str] (.aY [.row 18,aa ab])
def EE:=aW 42 [.row 13,.row 13,aa .str] (.aY [.row 18,aa ab])
def ng:=aW 12 [.row 13,.row 13,aa .str] (.aY [aa .str,aa ab])
def aer:=aW 136 [.row 11,aw 0 0] (aa .bool) [] [.bt 9] [.bt 9]
def acY:=b5 0 [(0,aa (aA 11)),(1,.c (.fn 136 [0])),(7,aa ab),(8,aa ab)] [.bt 9] [bR .ret [(4,aa ab)] [.bt 9],bR (.exit 0) [] [.bt 9]]
def aeM:=aW 168 [aa (aA 11),.c (.fn 136 [0])] (aa ab) [acY] [.bt 9] [.bt 9]
def aeq:=aW 135 [aa (aA 11),.c (.fn 136 [0])] (aa .bool) [] [.bt 9] [.bt 9]
def afu:=aW 99 [aa bZ,aa ab] (aa bZ)
def aft:=b5 0 [(0,aw 0 0),(5,aa bZ),(7,aw 2 0),(8,aw 3 0),(10,aw 4 0),(18,aa (aA 9)),(19,aa ab),(20,aa ab)] [.box [.hole (aA 7),.hole (aA 7),.arr 5],.gone,.bt 7,.bt 10,.bt 10,.arr bZ] [bR (.exit 0) [] [.box [.hole (aA 7),.hole (aA 7),.arr 2],.gone,.arr bZ]]
def afs:=aW 97 [aw 0 0,.row 7,.row 10,.row 7,.row 10,aa bZ] (.aY []) [aft] [.box [.hole (aA 7),.hole (aA 7),.arr 1],.arr bZ] [.box [.hole (aA 7),.hole (aA 7),.arr 2],.gone,.arr bZ]
def ae':=b5 0 [(0,aw 0 0),(5,aa bZ),(8,aw 2 0),(10,aw 3 0),(12,aw 4 0),(13,aw 5 0),(39,aa ab),(40,aa ab)] [.box [.hole (aA 7),.hole (aA 7),.arr 6],.gone,.bt 10,.bt 10,.bt 7,.bt 7,.arr bZ] [bR (.exit 1) [] [.box [.hole (aA 7),.hole (aA 7),.arr 2],.gone,.arr bZ]]
def EG:=aW 60 [aw 0 0,aa ab,.row 10,aa ab,.row 10,aa bZ] (.aY []) [ae'] [.box [.hole (aA 7),.hole (aA 7),.arr 1],.arr bZ] [.box [.hole (aA 7),.hole (aA 7),.arr 2],.gone,.arr bZ]
def Qh:=aW 24 [.row 13,.row 13,aa .str] (.aY [aa (.slice bZ),aa ab])
def ab0:=b5 0 [(3,aa bZ),(4,aw 1 0),(6,aw 2 0),(10,.c (.arr 3)),(39,aa (aA 16)),(40,aa ab),(41,aa ab)] [.gone,cl (aA 7),.bt 10,.arr bZ] [bR (.exit 0) [(10,.c (.arr 1))] [.gone,.arr bZ]] [] [(.slot 10,bZ)]
def afq:=aW 93 [.row 12,aa ab,.row 10,.c (.arr 0)] (aa (.slice bZ)) [ab0] [.arr ab] [.gone]
def ab1:=b5 0 [(3,aa bZ),(4,aw 0 0),(6,aw 1 0),(10,.c (.arr 2)),(39,aa (aA 16)),(40,aa ab),(41,aa ab)] [cl (aA 7),.bt 10,.arr bZ] [bR (.exit 0) [(10,.c (.arr 0))] [.arr bZ]] [] [(.slot 10,bZ)]
def afr:=aW 93 [.row 12,aa ab,.row 10,aa bZ] (aa (.slice bZ)) [ab1]
def EF:=aW 58 [.row 12,aa ab,.row 10] (.aY [aa (.slice bZ),aa ab])
def P3:=aW 22 [.row 13,.row 13,aa .str] (.aY [aa (.slice bZ),aa ab])
def QD:=b5 0 [(0,aa bZ),(1,aa bZ),(5,aa ab)] [] [eX 4 .bool,gz 0]
def QC:=aW 62 [aa bZ,aa bZ] (aa .bool) [QD]
def Qt:=b5 0 [(0,aa (.slice bZ)),(1,aa (.slice bZ)),(5,aa ab)] [] [eX 4 .bool,gz 0]
def Qs:=aW 26 [aa (.slice bZ),aa (.slice bZ)] (aa .bool) [Qt]
def Ey:=aW 11 [] (aa .bool)
def aeC:=aW 154 [.row 7] (.row 7)
def aeP:=aW 195 [.row 9,.row 9] (aa .bool)
def OK:=b5 0 [(2,aw 0 0),(3,aw 1 0),(5,aa ab)] [.bt 7,.bt 7] [eX 4 .bool,bR (.exit 0) [(2,aw 0 0),(3,aw 1 0)] [.bt 7,.bt 7]]
def OL:=b5 1 [(2,aw 0 0),(3,aw 1 0),(6,aa ab)] [.bt 7,.bt 7] [eX 4 .bool,gz 2]
def aeB:=aW 153 [.row 7,.row 7] (aa .bool) [OK,OL]
def aeQ:=aW 196 [aa (.int .u8)] (aa .bool)
def aeR:=aW 197 [aa (.int .u8)] (aa .bool)
def OM:=b5 0 [(0,aa .str),(3,aa ab)] [] [eX 2 .bool,gz 0]
def aeD:=aW 155 [aa .str] (aa .bool) [OM]
def aeS:=aW 198 [aa ab,aa ab] (aa .bool)
def Mb:=b5 0 [(0,aa (aA 8)),(4,aa ab),(5,aa ab)] [] [eX 2 .bool,bR (.exit 2) [(0,aa (aA 8)),(4,aa ab)]]
def ON:=b5 0 [(0,aa (aA 8)),(3,aa ab),(4,aa ab)] [] [eX 2 .bool,bR (.exit 0) [(0,aa (aA 8))]] [Mb]
def aeE:=aW 156 [aa (aA 8)] (aa .bool) [ON]
def Mc:=b5 0 [(0,aa (aA 9)),(1,aa .bool),(6,aa ab),(7,aw 0 0),(8,aa ab)] [.bt 9] [eX 4 .bool,bR (.exit 2) [(0,aa (aA 9)),(1,aa .bool),(6,aa ab),(7,aw 0 0)] [.bt 9]]
def OO:=b5 0 [(0,aa (aA 9)),(1,aa .bool),(5,aa ab),(6,aa ab)] [] [eX 4 .bool,bR (.exit 0) [(0,aa (aA 9)),(1,aa .bool)]] [Mc]
def aeF:=aW 157 [aa (aA 9),aa .bool] (aa .bool) [OO]
def aeg:=aW 113 [.row 7] (aa .bool)
def OP:=b5 0 [(1,aw 0 0),(3,.c (.arr 1)),(4,aa ab)] [.bt 7,.arr ab] [bR (.exit 0) [(1,aw 0 0),(3,.c (.arr 1))] [.bt 7,.arr ab]] [] [(.slot 3,ab)]
def aeh:=aW 114 [.row 7] (aa bZ) [OP]
def MB:=b5 0 [(1,aw 0 0),(3,aa ab),(4,aw 1 0),(5,aa ab)] [cl (aA 7),.box [.hole ab,.hole .str,.hole ab,.hole ab,.hole ab,.hole (aA 8),.hole (aA 9),.hole ab,.hole ab,.hole .bool]] [eX 2 ab,bR (.exit 2) [(1,aw 0 0),(3,aa ab),(4,aw 1 0)] [cl (aA 7),.box [.hole ab,.hole .str,.hole ab,.hole ab,.hole ab,.hole (aA 8),.hole (aA 9),.hole ab,.hole ab,.hole .bool]]]
def MC:=b5 1 [(1,aw 0 0),(3,aa ab),(4,aw 1 0),(6,aa bZ),(7,aa ab)] [cl (aA 7),.box [.hole ab,.hole .str,.hole ab,.hole ab,.hole ab,.hole (aA 8),.hole (aA 9),.hole ab,.hole ab,.hole .bool]] [eX 2 ab,bR (.exit 4) [(1,aw 0 0),(3,aa ab),(4,aw 1 0)] [cl (aA 7),.box [.hole ab,.hole .str,.hole ab,.hole ab,.hole ab,.hole (aA 8),.hole (aA 9),.hole ab,.hole ab,.hole .bool]]]
def QJ:=b5 0 [(1,aw 0 0),(3,aa ab)] [cl (aA 7)] [eX 2 ab,gz 0] [MB,MC]
def afk:=aW 79 [.row 12] (aa ab) [QJ]
def afh:=aW 75 [.row 12,aa ab] (aa ab)
def afn:=aW 87 [aa bZ,aa ab] (.row 19)
def OQ:=b5 0 [(0,aa .str),(4,aa (.int .u64)),(5,aa ab)] [] [bR (.exit 0) [(4,aa (.int .u64))]]
def aeG:=aW 158 [aa .str] (.aY [aa (.int .u64),aa ab]) [OQ]
def aei:=aW 116 [aa .str] (.aY [aa (.int .u64),aa .bool])
def aej:=aW 117 [aa (.int .u64)] (aa ab)
def aek:=aW 118 [aa bZ,aa ab] (aa bZ)
def OR:=b5 0 [(0,aa .str),(5,aa (.int .u64)),(6,aa (.int .u64)),(7,aa ab)] [] [bR .ret [(2,aa (.int .u64)),(3,aa ab),(4,aa ab)],gz 0]
def aeT:=aW 199 [aa .str] (.aY [aa (.int .u64),aa ab,aa ab]) [OR]
def aeH:=aW 159 [aa .str] (.aY [aa ab,aa .str,aa ab])
def ael:=aW 123 [.row 10] (.row 19)
def Ez:=aW 119 [.row 12,.row 7,aa .str,aa ab,aa bZ] (.row 19)
def aeV:=aW 200 [aa .str] (.aY [aa .str,aa .str,aa .bool])
def OS:=b5 0 [(0,aa .str),(4,.c (.arr 0))] [.arr .str] [bR .ret [(2,.c (.aF)),(3,aa ab)],bR (.exit 0) [(4,.c (.arr 0))] [.arr .str]] [] [(.slot 4,.str)]
def aeI:=aW 160 [aa .str] (.aY [aa jl,aa ab]) [OS]
def zH:=b5 0 [(3,aa ab),(4,aa bZ),(5,aw 0 0),(6,aw 1 0),(10,aw 2 0),(11,aa jl),(13,aw 3 0),(14,aa ab)] [cl (aA 7),.bt 7,.box [.hole ab,.hole .bool,.hole ab,.hole .str,.hole ab,.aF,.aF,.aF,.aF,.hole ab,.hole .bool],.box [.hole ab,.hole .bool,.hole ab,.hole .str,.hole ab,.aF,.arr 4,.aF],.arr (.nm 10)] [bR .ret [(10,aw 0 0)] [.bt 19],bR (.exit 0) [(10,aw 0 0),(13,aw 1 0)] [.box [.hole ab,.hole .bool,.hole ab,.hole .str,.hole ab,.aF,.aF,.aF,.aF,.hole ab,.hole .bool],.box [.hole ab,.hole .bool,.hole ab,.hole .str,.hole ab,.aF,.arr 2,.aF],.arr (.nm 10)]] [] [(.via 13 6,.nm 10)]
def EA:=aW 120 [.row 12,.row 7,aa .str,aa ab,aa bZ] (.row 19) [zH]
def zI:=b5 0 [(3,aa ab),(4,aa bZ),(5,aw 0 0),(6,aw 1 0),(10,aw 2 0),(11,aa jl),(13,aw 3 0),(14,aa ab)] [cl (aA 7),.bt 7,.box [.hole ab,.hole .bool,.hole ab,.hole .str,.hole ab,.aF,.aF,.aF,.aF,.hole ab,.hole .bool],.box [.hole ab,.hole .bool,.hole ab,.hole .str,.hole ab,.arr 4,.aF,.aF],.arr (.nm 10)] [bR .ret [(10,aw 0 0)] [.bt 19],bR (.exit 0) [(3,aa ab),(4,aa bZ),(5,aw 0 0),(6,aw 1 0),(10,aw 2 0),(11,aa jl),(13,aw 3 0)] [cl (aA 7),.bt 7,.box [.hole ab,.hole .bool,.hole ab,.hole .str,.hole ab,.aF,.aF,.aF,.aF,.hole ab,.hole .bool],.box [.hole ab,.hole .bool,.hole ab,.hole .str,.hole ab,.arr 4,.aF,.aF],.arr (.nm 10)]] [] [(.via 13 5,.nm 10)]
def OT:=b5 1 [(3,aa ab),(4,aa bZ),(5,aw 0 0),(6,aw 1 0),(10,aw 2 0),(11,aa jl),(13,aw 3 0),(16,aa ab)] [cl (aA 7),.bt 7,.box [.hole ab,.hole .bool,.hole ab,.hole .str,.hole ab,.aF,.aF,.aF,.aF,.hole ab,.hole .bool],.box [.hole ab,.hole .bool,.hole ab,.hole .str,.hole ab,.arr 4,.aF,.aF],.arr (.nm 10)] [bR .ret [(10,aw 0 0)] [.bt 19],bR (.exit 2) [(3,aa ab),(4,aa bZ),(5,aw 0 0),(6,aw 1 0),(10,aw 2 0),(11,aa jl),(13,aw 3 0)] [cl (aA 7),.bt 7,.box [.hole ab,.hole .bool,.hole ab,.hole .str,.hole ab,.aF,.aF,.aF,.aF,.hole ab,.hole .bool],.box [.hole ab,.hole .bool,.hole ab,.hole .str,.hole ab,.arr 4,.aF,.aF],.arr (.nm 10)]]
def zJ:=b5 2 [(3,aa ab),(4,aa bZ),(5,aw 0 0),(6,aw 1 0),(10,aw 2 0),(11,aa jl),(13,aw 3 0),(17,aa ab)] [cl (aA 7),.bt 7,.box [.hole ab,.hole .bool,.hole ab,.hole .str,.hole ab,.aF,.aF,.aF,.aF,.hole ab,.hole .bool],.box [.hole ab,.hole .bool,.hole ab,.hole .str,.hole ab,.arr 4,.arr 5,.aF],.arr (.nm 10),.arr (.nm 10)] [bR .ret [(10,aw 0 0)] [.bt 19],bR (.exit 4) [(10,aw 0 0),(13,aw 1 0)] [.box [.hole ab,.hole .bool,.hole ab,.hole .str,.hole ab,.aF,.aF,.aF,.aF,.hole ab,.hole .bool],.box [.hole ab,.hole .bool,.hole ab,.hole .str,.hole ab,.arr 2,.arr 3,.aF],.arr (.nm 10),.arr (.nm 10)]] [] [(.via 13 6,.nm 10)]
def EB:=aW 121 [.row 12,.row 7,aa .str,aa ab,aa bZ] (.row 19) [zI,OT,zJ]
def OU:=b5 0 [(0,aa .str),(4,.c (.arr 0)),(5,aa ab)] [.arr (.nm 14)] [bR .ret [(2,.c (.aF)),(3,aa ab)],bR (.exit 0) [(4,.c (.arr 0))] [.arr (.nm 14)]] [] [(.slot 4,.nm 14)]
def aeJ:=aW 161 [aa .str] (.aY [aa (aA 14),aa ab]) [OU]
def OV:=b5 0 [(0,aa (aA 14)),(1,aa ab),(5,aa ab)] [] [eX 4 ab,gz 0]
def aeK:=aW 162 [aa (aA 14),aa ab] (aa ab) [OV]
def zK:=b5 0 [(3,aa ab),(4,aa bZ),(5,aw 0 0),(6,aw 1 0),(10,aw 2 0),(11,aa (aA 14)),(13,aw 3 0),(14,aa ab)] [cl (aA 7),.bt 7,.box [.hole ab,.hole .bool,.hole ab,.hole .str,.hole ab,.aF,.aF,.aF,.aF,.hole ab,.hole .bool],.box [.hole ab,.hole .bool,.hole ab,.hole .str,.hole ab,.aF,.arr 4,.aF],.arr (.nm 10)] [bR .ret [(10,aw 0 0)] [.bt 19],bR (.exit 0) [(4,aa bZ),(6,aw 0 0),(10,aw 1 0),(11,aa (aA 14)),(13,aw 2 0)] [.bt 7,.box [.hole ab,.hole .bool,.hole ab,.hole .str,.hole ab,.aF,.aF,.aF,.aF,.hole ab,.hole .bool],.box [.hole ab,.hole .bool,.hole ab,.hole .str,.hole ab,.aF,.arr 3,.aF],.arr (.nm 10)]] [] [(.via 13 6,.nm 10)]
def OW:=b5 1 [(4,aa bZ),(6,aw 0 0),(10,aw 1 0),(11,aa (aA 14)),(13,aw 2 0),(18,aa ab)] [.bt 7,.box [.hole ab,.hole .bool,.hole ab,.hole .str,.hole ab,.aF,.aF,.aF,.aF,.hole ab,.hole .bool],.box [.hole ab,.hole .bool,.hole ab,.hole .str,.hole ab,.aF,.arr 3,.arr 4],.arr (.nm 10),.arr (.nm 11)] [bR .ret [(10,aw 0 0)] [.bt 19],bR (.exit 2) [(10,aw 0 0),(13,aw 1 0)] [.box [.hole ab,.hole .bool,.hole ab,.hole .str,.hole ab,.aF,.aF,.aF,.aF,.hole ab,.hole .bool],.box [.hole ab,.hole .bool,.hole ab,.hole .str,.hole ab,.aF,.arr 2,.arr 3],.arr (.nm 10),.arr (.nm 11)]] [] [(.via 13 7,.nm 11)]
def EC:=aW 122 [.row 12,.row 7,aa .str,aa ab,aa bZ] (.row 19) [zK,OW]
def oJ:=aW 88 [.row 12,aa ab,aa .str,aa ab,aa bZ] (.row 19)
def ae2:=aW 48 [.row 12,aa ab,aa .str] (.aY [.row 19,aa ab])
def aeN:=aW 17 [.row 12,aa ab,aa .str] (.aY [.row 10,aa ab])
def aem:=aW 124 [.row 10] (aa .bool)
def aen:=aW 125 [aa ab,aa .bool] (aa .bool)
def OX:=b5 0 [(1,aa (aA 11)),(2,aw 0 0),(5,aa ab)] [.bt 7] [eX 4 .bool,gz 0]
def aeo:=aW 126 [.row 7,aa (aA 11)] (aa .bool) [OX]
def zj:=b5 0 [(1,aa ab),(2,aa (aA 10)),(3,aa .bool),(4,aw 0 0),(9,aa ab)] [cl (aA 7)] [eX 8 .bool,gz 0]
def ED:=aW 127 [.row 12,aa ab,aa (aA 10),aa .bool] (aa .bool) [zj]
def xm:=b5 0 [(3,aa .bool),(4,aw 0 0),(6,aw 1 0),(9,aw 2 0),(12,aa ab)] [cl (aA 7),.bt 10,.box [.hole ab,.hole .str,.hole ab,.hole ab,.hole ab,.hole (aA 8),.hole (aA 9),.hole ab,.hole ab,.hole .bool]] [eX 8 .bool,gz 1]
def QL:=b5 1 [(6,aw 0 0),(15,aa ab)] [.bt 10] [eX 8 .bool,gz 3]
def uG:=aW 91 [.row 12,aa ab,.row 10,aa .bool] (aa .bool) [xm,QL]
def afl:=aW 80 [.row 12,aa ab,.row 10] (aa .bool)
def ae1:=aW 44 [.row 12,aa ab,.row 10] (aa ab)
def afp:=aW 90 [.row 10] (.agg [.hole ab,.hole .bool,.hole ab,.hole .str,.hole ab,.arr 0,.arr 1,.arr 2]) [] [] [.arr (.nm 10),.arr (.nm 10),.arr (.nm 11)]
def xg:=b5 0 [(1,aw 0 0),(2,aw 1 0),(3,aa ab)] [.box [.hole ab,.hole .bool,.hole ab,.hole .str,.hole ab,.arr 2,.arr 3,.hole (aA 11)],.box [.hole ab,.hole .bool,.hole ab,.hole .str,.hole ab,.aF,.aF,.aF],.arr (.nm 10),.arr (.nm 10)] [bR (.exit 0) [(1,aw 0 0),(2,aw 1 0)] [.box [.hole ab,.hole .bool,.hole ab,.hole .str,.hole ab,.arr 2,.arr 3,.hole (aA 11)],.box [.hole ab,.hole .bool,.hole ab,.hole .str,.hole ab,.aF,.aF,.aF],.arr (.nm 10),.arr (.nm 10)]]
def Bl:=aW 56 [.row 10] (.row 10) [xg]
def ae9:=aW 57 [.row 12,aa ab,.row 10] (aa .bool)
def aeU:=aW 20 [.row 12,aa ab,.row 10] (.aY [.row 10,aa ab])
def xf:=b5 0 [(3,aw 0 0),(5,aw 1 0),(7,aw 2 0),(8,aa ab),(9,aa ab)] [cl (aA 7),.bt 10,.bt 7] [bR (.exit 0) [(5,aw 0 0),(8,aa ab)] [.bt 10]]
def Bj:=aW 45 [.row 12,aa ab,.row 10] (aa ab) [xf]
def aex:=aW 15 [.row 12,aa ab,.row 10] (.aY [aa .str,aa ab])
def dn:=aW 3 [.row 0] (aa .bool)
def iu:=aW 4 [.row 1] (aa .bool)
def aeW:=aW 21 [.row 12,aa ab,aa .str] (.aY [aa .str,aa ab])
def iN:=aW 5 [.row 0] (aa .bool)
def QE:=aW 7 [.row 0] (aa .bool)
def uF:=aW 6 [.row 0] (aa .bool)
def afo:=b5 0 [(5,aw 0 0),(6,aw 1 0),(9,.c (.arr 2)),(39,aa jl),(40,aa ab),(41,aa ab)] [.bt 13,.bt 13,.arr .str] [eX 4 .bool,bR (.exit 0) [(5,aw 0 0),(6,aw 1 0),(9,.c (.arr 2))] [.bt 13,.bt 13,.arr .str]]
def e8:=aW 8 [.row 0,aa jl] (aa .bool) [afo]
def agP:List et:=[Qw,Qx,Qg,Pn,DW,xe,Qj,Qi,PW,Qc,Qd,PT,Qe,PU,Qf,PV,Pz,PA,A8,Ex]
def agQ:List et:=[EH,PB,PC,PD,PS,PR,Px,oI,Qr,Qk,PX,Pu,Pt,QN,A9,Ql,PY,A',PJ,Qp]
def agR:List et:=[P',Qo,P7,Qq,Qb,Qa,PQ,Ba,PZ,P1,P0,uC,Bb,w7,Pm,Bm,Po,P9,PN,PO]
def agS:List et:=[Bi,DX,DY,Bh,sg,Pp,QM,Pq,Py,Nr,Ns,Pr,Ps,w8,A5,PE,PF,Pv,PG,P2]
def agT:List et:=[uD,uE,DZ,xh,P4,P8,PL,P6,Qm,Qn,PH,Pw,PI,P5,PK,PM,Bf,Bg,qm,A7]
def agU:List et:=[qn,Bc,Bd,Be,w9,A6,EJ,EE,ng,aer,aeM,aeq,afu,afs,EG,Qh,afq,afr,EF,P3]
def agV:List et:=[QC,Qs,Ey]
def rO:List et:=agP++agQ++agR++agS++agT++agU++agV
theorem tu:rO.all (tX prog)=true:=by kernel_rfl
def qK:cC cO:={GJ with F:=FH (α:=cO.D 17) lz}
theorem sM:g' prog qK:=⟨GK.1,λh r a=>GK.2 h r (abz FJ _ r a)⟩
def s3(n:Int):Option aU:=
 some (⟨2,[121],1,false,true,(⟨2,false,n,[],0,[],[],[]⟩:I)⟩:aU)
theorem U6:bb Qw s3:= .bm
def su(l:List aU):Option dv:=
 some (⟨(⟨[(⟨5,[82],0,0,0,[],l,0,0,false⟩:ah),(⟨2,[],0,9,0,[],[],0,0,false⟩:ah),(⟨1,[],0,0,0,[],[],0,0,false⟩:ah)]⟩:aQ),0⟩:dv)
theorem UH:bb Qx su:= .bm
def nP:aq×aq×Int->Option ((Bool) ⊕ (Unit))
 |(a,b,i)=>
 if (i<(a.length:Int):Bool) then if aH i a.length then if aH i b.length then if !(a.getD i.toNat 0=b.getD i.toNat 0:Bool) then some (.inl false)else nP (a,b,aM .i64 i 1)else none else none else some (.inr ())
  partial_fixpoint
theorem U7:cS 62 0 [0] QD nP:= .rx nP.partial_correctness
def rr:aq×aq->Option Bool
 |(a,b)=>
 if !((a.length:Int)=(b.length:Int):Bool) then some false else nP (a,b,0)>>=λo=>match o with
  |.inl c=>
   some c
  |.inr e=>
   some true
theorem Vt:bb QC rr:= .bm .n (.k U7 .n)
def re:List aq×List aq×Int->Option ((Bool) ⊕ (Unit))
 |(a,b,i)=>
 if (i<(a.length:Int):Bool) then if aH i a.length then if aH i b.length then rr (a.getD i.toNat [],b.getD i.toNat [])>>=λr=>if !r then some (.inl false)else re (a,b,aM .i64 i 1)else none else none else some (.inr ())
  partial_fixpoint
theorem UW:cS 26 0 [0] Qt re:= .rx re.partial_correctness (.k Vt .n)
def xT:List aq×List aq->Option Bool
 |(a,b)=>
 if !((a.length:Int)=(b.length:Int):Bool) then some false else re (a,b,0)>>=λo=>match o with
  |.inl c=>
   some c
  |.inr e=>
   some true
theorem VJ:bb Qs xT:= .bm .n (.k UW .n)
noncomputable def qL:aQ->Option Int:=ln prog rO [oW,o0,o1,qK,pN,o3] 3000 A8
theorem WI:bb A8 qL:= .run tu (.k nO (.k nS (.k o2 (.k sM (.k qH (.k sr .n)))))) (.m (by kernel_rfl)) 3000 λ_=>rfl
noncomputable def vy:aQ×Int×aj->Option (I×Int):=ln prog rO [oW,o0,o1,qK,pN,o3] 3000 Bm
theorem Ve:bb Bm vy:= .run tu (.k nO (.k nS (.k o2 (.k sM (.k qH (.k sr .n)))))) (.m (by kernel_rfl)) 3000 λ_=>rfl
noncomputable def BQ:aQ×Int×I->Option (I×Int):=ln prog rO [oW,o0,o1,qK,pN,o3] 3000 A5
theorem Wl:bb A5 BQ:= .run tu (.k nO (.k nS (.k o2 (.k sM (.k qH (.k sr .n)))))) (.m (by kernel_rfl)) 3000 λ_=>rfl
noncomputable def xU:aQ×Int×I×aQ×Int->Option (I×Int):=ln prog rO [oW,o0,o1,qK,pN,o3] 3000 A6
theorem VK:bb A6 xU:= .run tu (.k nO (.k nS (.k o2 (.k sM (.k qH (.k sr .n)))))) (.m (by kernel_rfl)) 3000 λ_=>rfl
noncomputable def vz:aQ×Int×I->Option (aj×Int):=ln prog rO [oW,o0,o1,qK,pN,o3] 3000 A7
theorem Vf:bb A7 vz:= .run tu (.k nO (.k nS (.k o2 (.k sM (.k qH (.k sr .n)))))) (.m (by kernel_rfl)) 3000 λ_=>rfl
noncomputable def GQ:aQ×Int×I->Option (List aq×Int):=ln prog rO [oW,o0,o1,qK,pN,o3] 3000 EF
theorem Wm:bb EF GQ:= .run tu (.k nO (.k nS (.k o2 (.k sM (.k qH (.k sr .n)))))) (.m (by kernel_rfl)) 3000 λ_=>rfl
noncomputable def FU:Int×I×Int×I×aq×List ah×List ah×List aq->Option (List ah×List ah×List aq):=ln prog rO [oW,o0,o1,qK,pN,o3] 3000 EG
theorem If:bb EG FU:= .run tu (.k nO (.k nS (.k o2 (.k sM (.k qH (.k sr .n)))))) (.m (by kernel_rfl)) 3000 λ_=>rfl
noncomputable def vA (r:dv):Option Int:=
 qL r.cN>>=λa=>if !(a=0:Bool) then some a
 else if(bif (r.au<0:Bool)then true else ((r.cN.Types.length:Int)<=r.au:Bool)) then some 4
  else some 0
theorem Vg:bb Ex vA:= .bm (.k WI .n)
noncomputable def mu (b:List dv×Int×Int):Option ((Int) ⊕ (Unit)):=
 match b with
 |(t6,a,t8)=>
 if (t8<a:Bool) then if aH t8 t6.length then vA (t6.getD t8.toNat Ia)>>=λr=>if !(r=0:Bool) then some (.inl r)
   else mu (t6,a,aM .i64 t8 1)
  else none
 else some (.inr ())
  partial_fixpoint
theorem UI:cS 65 0 [0] EI mu:= .rx mu.partial_correctness (.k Vg .n)
noncomputable def uT (l:List dv):Option Int:=
 mu (l,(l.length:Int),0)>>=λo=>match o with
 |.inl a=>
  some a
 |.inr b=>
  some 0
theorem Vh:bb EH uT:= .bm .n (.k UI .n)
noncomputable def sA (g:dv×dv×aj):Option (eR×Int):=
 match g with
 |(w,r,m)=>
 vy (w.cN,w.au,m)>>=λa=>if !(a.2=0:Bool) then some ((⟨(⟨0,false,0,[],0,[],[],[]⟩:I),(⟨0,false,0,[],0,[],[],[]⟩:I),[]⟩:eR),12)
 else BQ (w.cN,w.au,I.eta a.1)>>=λe=>if !(e.2=0:Bool) then some ((⟨(⟨0,false,0,[],0,[],[],[]⟩:I),(⟨0,false,0,[],0,[],[],[]⟩:I),[]⟩:eR),12)
  else xU (w.cN,w.au,I.eta e.1,r.cN,r.au)>>=λf=>if !(f.2=0:Bool) then some ((⟨(⟨0,false,0,[],0,[],[],[]⟩:I),(⟨0,false,0,[],0,[],[],[]⟩:I),[]⟩:eR),12)
   else vz (w.cN,w.au,I.eta a.1)>>=λc=>if !(c.2=0:Bool) then some ((⟨(⟨0,false,0,[],0,[],[],[]⟩:I),(⟨0,false,0,[],0,[],[],[]⟩:I),[]⟩:eR),3)
    else vy (r.cN,r.au,c.1)>>=λb=>if !(b.2=0:Bool) then some ((⟨(⟨0,false,0,[],0,[],[],[]⟩:I),(⟨0,false,0,[],0,[],[],[]⟩:I),[]⟩:eR),12)
     else vz (r.cN,r.au,I.eta b.1)>>=λd=>if !(d.2=0:Bool) then some ((⟨(⟨0,false,0,[],0,[],[],[]⟩:I),(⟨0,false,0,[],0,[],[],[]⟩:I),[]⟩:eR),3)
      else some ((⟨I.eta a.1,I.eta b.1,d.1⟩:eR),0)
theorem VL:bb EJ sA:= .bm (.k Ve (.k Wl (.k VK (.k Vf .n))))
noncomputable def qQ (c:dv×dv×aj):Option (eR×Int):=
 match c with
 |(w,r,m)=>
 uT [w,r]>>=λb=>if !(b=0:Bool) then some ((⟨(⟨0,false,0,[],0,[],[],[]⟩:I),(⟨0,false,0,[],0,[],[],[]⟩:I),[]⟩:eR),b)
 else sA (w,r,m)>>=λa=>some ((⟨I.eta a.1.v,I.eta a.1.u,a.1.message⟩:eR),a.2)
theorem Gb:bb EE qQ:= .bm (.k Vh (.k VL .n))
noncomputable def o6 (b:dv×dv×aj):Option (aj×Int):=
 match b with
 |(w,r,m)=>
 qQ (w,r,m)>>=λa=>some (a.1.message,a.2)
theorem VM:bb ng o6:= .bm (.k Gb .n)
noncomputable def x1 (c:dv×dv×aj):Option (List aq×Int):=
 match c with
 |(w,r,m)=>
 qQ (w,r,m)>>=λa=>if !(a.2=0:Bool) then some ([],a.2)
 else FU (w.au,I.eta a.1.v,r.au,I.eta a.1.u,[],w.cN.Types,r.cN.Types,[])>>=λb=>some (b.2.2,0)
theorem Vi:bb Qh x1:= .bm (.k Gb (.k If .n))
noncomputable def x6 (c:dv×dv×aj):Option (List aq×Int):=
 match c with
 |(w,r,m)=>
 qQ (w,r,m)>>=λa=>if !(a.2=0:Bool) then some ([],a.2)
 else GQ (r.cN,r.au,I.eta a.1.u)>>=λb=>some (b.1,b.2)
theorem WJ:bb P3 x6:= .bm (.k Gb (.k Wm .n))
noncomputable def B0 (_:Unit):Option Bool:=
 s3 3>>=λr=>su [(⟨1,[120],1,false,false,(⟨0,false,0,[],0,[],[],[]⟩:I)⟩:aU),(⟨r.af,r.Name,r.au,r.cn,r.bW,I.eta r.bw⟩:aU)]>>=λe=>s3 3>>=λc=>su [(⟨c.af,c.Name,c.au,c.cn,c.bW,I.eta c.bw⟩:aU),(⟨4,[122],2,false,true,(⟨1,true,0,[],0,[],[],[]⟩:I)⟩:aU)]>>=λo=>o6 (e,o,[2,1,10])>>=λg=>s3 3>>=λd=>su [(⟨d.af,d.Name,d.au,d.cn,d.bW,I.eta d.bw⟩:aU),(⟨4,[122],2,false,true,(⟨1,true,0,[],0,[],[],[]⟩:I)⟩:aU)]>>=λp=>x1 (e,p,[2,1,10])>>=λi=>s3 3>>=λa=>su [(⟨a.af,a.Name,a.au,a.cn,a.bW,I.eta a.bw⟩:aU),(⟨4,[122],2,false,true,(⟨1,true,0,[],0,[],[],[]⟩:I)⟩:aU)]>>=λj=>x6 (e,j,[2,1,10])>>=λf=>s3 4>>=λb=>su [(⟨b.af,b.Name,b.au,b.cn,b.bW,I.eta b.bw⟩:aU),(⟨4,[122],2,false,true,(⟨1,true,0,[],0,[],[],[]⟩:I)⟩:aU)]>>=λk=>o6 (e,k,[2,1,10])>>=λl=>some (bif bif bif bif decide (g.2=0)then decide (i.2=0)else false then decide (f.2=0)else false then decide (l.2=12)else false then decide (g.1=[2,1,10])else false)>>=λt76=>(if t76 then xT (i.1,[[4]])else some false)>>=λm=>some (bif t76 then m else false)>>=λt82=>(if t82 then xT (f.1,[[]])else some false)>>=λn=>some (bif t82 then n else false)
theorem UJ:bb Ey B0:= .bm (.k U6 (.k UH (.k VM (.k Vi (.k WJ (.k VJ .n))))))
def iH(n:Int):aU:=⟨2,[121],1,false,true,⟨2,false,n,[],0,[],[],[]⟩⟩
def ux:aU:=⟨1,[120],1,false,false,⟨0,false,0,[],0,[],[],[]⟩⟩
def r9:aU:=⟨4,[122],2,false,true,⟨1,true,0,[],0,[],[],[]⟩⟩
def fW(l:List aU):dv:=⟨⟨[⟨5,[82],0,0,0,[],l,0,0,false⟩,⟨2,[],0,9,0,[],[],0,0,false⟩,⟨1,[],0,0,0,[],[],0,0,false⟩]⟩,0⟩
def oF:I:=⟨5,false,0,[],0,[],[⟨2,false,5,[],0,[],[],[]⟩,⟨2,false,3,[],0,[],[],[]⟩],[]⟩
def r8:I:=⟨5,false,0,[],0,[],[⟨2,false,3,[],0,[],[],[]⟩,⟨1,true,0,[],0,[],[],[]⟩],[⟨1,[10]⟩]⟩
def gM:dv:=fW [ux,iH 3]
def iU:dv:=fW [iH 3,r9]
def r7:dv:=fW [iH 4,r9]
theorem acZ(n:Int):s3 n=some (iH n):=rfl
theorem ac0(l:List aU):su l=some (fW l):=rfl
theorem ad6(n:Int):(⟨(iH n).af,(iH n).Name,(iH n).au,(iH n).cn,(iH n).bW,(iH n).bw⟩:aU)=iH n:=rfl
theorem ad5:(⟨1,[120],1,false,false,(⟨0,false,0,[],0,[],[],[]⟩:I)⟩:aU)=ux:=rfl
theorem ad7:(⟨4,[122],2,false,true,(⟨1,true,0,[],0,[],[],[]⟩:I)⟩:aU)=r9:=rfl
theorem Pb:qL gM.cN=some 0:=by kernel_rfl
theorem ad0:qL iU.cN=some 0:=by kernel_rfl
theorem ad1:qL r7.cN=some 0:=by kernel_rfl
theorem O7:vy (gM.cN,gM.au,[2,1,10])=some (oF,0):=by kernel_rfl
theorem adL:vy (iU.cN,iU.au,[2,1,10])=some (r8,0):=by kernel_rfl
theorem O':BQ (gM.cN,gM.au,oF)=some (oF,0):=by kernel_rfl
theorem adY:xU (gM.cN,gM.au,oF,iU.cN,iU.au)=some (r8,0):=by kernel_rfl
theorem adZ:xU (gM.cN,gM.au,oF,r7.cN,r7.au)=some (⟨0,false,0,[],0,[],[],[]⟩,12):=by kernel_rfl
theorem adM:vz (gM.cN,gM.au,oF)=some ([2,1,10],0):=by kernel_rfl
theorem adN:vz (iU.cN,iU.au,r8)=some ([2,1,10],0):=by kernel_rfl
theorem adX:GQ (iU.cN,iU.au,r8)=some ([[]],0):=by kernel_rfl
theorem adI:FU (gM.au,oF,iU.au,r8,[],gM.cN.Types,iU.cN.Types,[])=some (gM.cN.Types,iU.cN.Types,[[4]]):=by kernel_rfl
theorem Pc{l:List aU}(h:qL (fW l).cN=some 0):vA (fW l)=some 0:=by
 rw[vA,h];rfl
theorem Pe{l m:List aU}(h1:qL (fW l).cN=some 0)(b:qL (fW m).cN=some 0):uT [fW l,fW m]=some 0:=by
 have a:mu ([fW l,fW m],2,2)=some (.inr ()):=by rw[mu];rfl
 have aK:mu ([fW l,fW m],2,1)=some (.inr ()):=by
  rw[mu,ad (by decide),ad (by rfl)];show(vA (fW m)>>=_)=_;rw[Pc b];exact a
 have cY:mu ([fW l,fW m],2,0)=some (.inr ()):=by
  rw[mu,ad (by decide),ad (by rfl)];show(vA (fW l)>>=_)=_;rw[Pc h1];exact aK
 rw[uT];show(mu ([fW l,fW m],2,0)>>=_)=_;rw[cY];rfl
def w5(gd:aQ×Int×aj->Option (I×Int))(gs:aQ×Int×I->Option (I×Int))(uK:aQ×Int×I×aQ×Int->Option (I×Int))(ge:aQ×Int×I->Option (aj×Int))(g:dv×dv×aj):Option (eR×Int):=
 match g with
 |(w,r,m)=>
 gd (w.cN,w.au,m)>>=λa=>if !(a.2=0:Bool) then some ((⟨(⟨0,false,0,[],0,[],[],[]⟩:I),(⟨0,false,0,[],0,[],[],[]⟩:I),[]⟩:eR),12)else gs (w.cN,w.au,I.eta a.1)>>=λe=>if !(e.2=0:Bool) then some ((⟨(⟨0,false,0,[],0,[],[],[]⟩:I),(⟨0,false,0,[],0,[],[],[]⟩:I),[]⟩:eR),12)else uK (w.cN,w.au,I.eta e.1,r.cN,r.au)>>=λf=>if !(f.2=0:Bool) then some ((⟨(⟨0,false,0,[],0,[],[],[]⟩:I),(⟨0,false,0,[],0,[],[],[]⟩:I),[]⟩:eR),12)else ge (w.cN,w.au,I.eta a.1)>>=λc=>if !(c.2=0:Bool) then some ((⟨(⟨0,false,0,[],0,[],[],[]⟩:I),(⟨0,false,0,[],0,[],[],[]⟩:I),[]⟩:eR),3)else gd (r.cN,r.au,c.1)>>=λb=>if !(b.2=0:Bool) then some ((⟨(⟨0,false,0,[],0,[],[],[]⟩:I),(⟨0,false,0,[],0,[],[],[]⟩:I),[]⟩:eR),12)else ge (r.cN,r.au,I.eta b.1)>>=λd=>if !(d.2=0:Bool) then some ((⟨(⟨0,false,0,[],0,[],[],[]⟩:I),(⟨0,false,0,[],0,[],[],[]⟩:I),[]⟩:eR),3)else some ((⟨I.eta a.1,I.eta b.1,d.1⟩:eR),0)
theorem Pk:sA=w5 vy BQ xU vz:=rfl
section
variable {gd:aQ×Int×aj->Option (I×Int)}{gs:aQ×Int×I->Option (I×Int)}{uK:aQ×Int×I×aQ×Int->Option (I×Int)}{ge:aQ×Int×I->Option (aj×Int)}{A B:dv}{m o:aj}{v u w:I}
theorem ac1 (h1:gd (A.cN,A.au,m)=some (v,0))(a:gs (A.cN,A.au,v)=some (v,0))(b:uK (A.cN,A.au,v,B.cN,B.au)=some (w,0))(c:ge (A.cN,A.au,v)=some (m,0))
 (ba:gd (B.cN,B.au,m)=some (u,0))(d:ge (B.cN,B.au,u)=some (o,0)):w5 gd gs uK ge (A,B,m)=some (⟨v,u,o⟩,0):=by
 unfold w5;simp[h1,a,b,c,ba,d,I.aO]
theorem ac2(h1:gd (A.cN,A.au,m)=some (v,0))(a:gs (A.cN,A.au,v)=some (v,0))(b:uK (A.cN,A.au,v,B.cN,B.au)=some (w,12)):
 w5 gd gs uK ge (A,B,m)=some (⟨⟨0,false,0,[],0,[],[],[]⟩,⟨0,false,0,[],0,[],[],[]⟩,[]⟩,12):=by
 unfold w5;simp[h1,a,b,I.aO]
theorem Rg{e:Int}(h1:go [A,B]=some 0)(c:gc (A,B,m)=some (⟨v,u,o⟩,e)):
 (go [A,B]>>=λb=>if !(b=0:Bool) then some ((⟨(⟨0,false,0,[],0,[],[],[]⟩:I),(⟨0,false,0,[],0,[],[],[]⟩:I),[]⟩:eR),b)
  else gc (A,B,m)>>=λa=>some ((⟨I.eta a.1.v,I.eta a.1.u,a.1.message⟩:eR),a.2))=some (⟨v,u,o⟩,e):=by
 rw[h1];simp[c,I.aO]
end
theorem adJ:sA (gM,iU,[2,1,10])=some (⟨oF,r8,[2,1,10]⟩,0):=by
 rw[Pk];exact ac1 O7 O' adY adM adL adN
theorem adK:sA (gM,r7,[2,1,10])=some (⟨⟨0,false,0,[],0,[],[],[]⟩,⟨0,false,0,[],0,[],[],[]⟩,[]⟩,12):=by
 rw[Pk];exact ac2 O7 O' adZ
theorem Er:qQ (gM,iU,[2,1,10])=some (⟨oF,r8,[2,1,10]⟩,0):=by
 have h:uT [gM,iU]=some 0:=Pe Pb ad0;rw[qQ];exact Rg (gc:=sA) h adJ
theorem ad2:qQ (gM,r7,[2,1,10])=some (⟨⟨0,false,0,[],0,[],[],[]⟩,⟨0,false,0,[],0,[],[],[]⟩,[]⟩,12):=by
 have h:uT [gM,r7]=some 0:=Pe Pb ad1;rw[qQ];exact Rg (gc:=sA) h adK
theorem adO:o6 (gM,iU,[2,1,10])=some ([2,1,10],0):=by rw[o6,Er];rfl
theorem adP:o6 (gM,r7,[2,1,10])=some ([],12):=by rw[o6,ad2];rfl
theorem adQ:x1 (gM,iU,[2,1,10])=some ([[4]],0):=by
 rw[x1,Er];simp[adI,I.aO]
theorem adR:x6 (gM,iU,[2,1,10])=some ([[]],0):=by
 rw[x6,Er];simp[adX,I.aO]
theorem ad4:rr ([4],[4])=some true:=by
 have h1:nP ([4],[4],1)=some (.inr ()):=by rw[nP];rfl
 have h0:nP ([4],[4],0)=some (.inr ()):=by
  rw[nP];exact h1
 rw[rr,h0];rfl
theorem ad3:rr ([],[])=some true:=by
 have h0:nP ([],[],0)=some (.inr ()):=by rw[nP];rfl
 rw[rr,h0];rfl
theorem Pd{p:aq}(a:rr (p,p)=some true):xT ([p],[p])=some true:=by
 have h1:re ([p],[p],1)=some (.inr ()):=by rw[re];rfl
 have h0:re ([p],[p],0)=some (.inr ()):=by
  rw[re,ad (by rfl),ad (by rfl),ad (by rfl)];show(rr (p,p)>>=_)=_;rw[a];exact h1
 rw[xT,h0];rfl
theorem aaJ:B0 ()=some true:=by
 have a:o6 (fW [ux,iH 3],fW [iH 3,r9],[2,1,10])=_:=adO;have b:o6 (fW [ux,iH 3],fW [iH 4,r9],[2,1,10])=_:=adP;have c:x1 (fW [ux,iH 3],fW [iH 3,r9],[2,1,10])=_:=adQ;have d:x6 (fW [ux,iH 3],fW [iH 3,r9],[2,1,10])=_:=adR;unfold B0;simp only[aT,ak,acZ,ac0,I.aO,ad6,ad5,ad7];rw[a,c,d,b];simp only[ak,c9,dK,bJ];rw[Pd ad4];simp only[ak,dK,bJ];rw[Pd ad3];rfl
def xV(_:Unit):Option Bool:=some true
theorem VN:bb Ey xV:=by
 have:B0=xV:=by funext x;exact aaJ
 rw[<-this];exact UJ
theorem U8:xV ()=some true:=rfl
def ru:ek×Int->Option Int
 |(d,i)=>
 if aH i d.ed.length then some (aM .i64 1 (bV .i64 (b' (d.ed.getD i.toNat br).Kind 9)))else none
theorem yF:bb afa ru:= .bm
def j4(a:Int):Option Bool:=
 some (bif bif decide (a=4)then true else decide (a=5)then true else decide (a=6))
theorem FX:bb afb j4:= .bm
def pO(a:dr):Option Int:=
 some (dh .i64 (bV .i64 (b' a.A 7)) 3)
theorem F2:bb afc pO:= .bm
def sG(a:dr):Option Int:=
 pO a>>=λr=>some (aM .i64 r (bV .i64 (b' a.B 6)))
theorem SE:bb afd sG:= .bm (.k F2 .n)
def o4:Int×dr×aq->Option aq
 |(i,b,a)=>
 if (i<6:Bool) then if (0<=i:Bool) then if (b' (ly .u8 b.A i) 2=1:Bool) then some [aM .i64 i 1]>>=λt18=>if room 8 (a++t18).length then o4 (aM .i64 i 1,b,a++t18)else none else o4 (aM .i64 i 1,b,a)else none else some a
  partial_fixpoint
theorem UK:cS 72 0 [0] QF o4:= .rx o4.partial_correctness
def np(a:dr):Option aq:=
 o4 (0,a,[])>>=λo=>if ((o.length:Int)=0:Bool) then some [1]>>=λt24=>if room 8 (o++t24).length then some (o++t24)else none else some o
theorem RZ:bb afe np:= .bm .n (.k UK .n)
def yH(a:Int):Option Bool:=
 some (decide (7<=a))
theorem St:bb aet yH:= .bm
def nM:Int×Int×List dr->Option ((Int) ⊕ (Unit))
 |(n,k,b)=>
 if (k<n:Bool) then ru ((⟨b⟩:ek),k)>>=λa=>yH a>>=λc=>if c then some (.inl k)else nM (n,aM .i64 k 1,b)else some (.inr ())
  partial_fixpoint
theorem TA:cS 109 0 [0] N7 nM:= .rx nM.partial_correctness (.k yF (.k St .n))
def yI(c:ek×Int×Int):Option Int:=
 match c with
 |(d,i,code)=>
 some (d.ed.length:Int)>>=λt12=>if !(t12=0:Bool) then some (b' (bV .i64 code) t12)>>=λt16=>ru (d,t16)>>=λr=>yH r>>=λb=>if(bif b then true else (t16<i:Bool)) then some t16 else if (0<i:Bool) then if !(i=0:Bool) then some (b' t16 i)else none else nM (t12,0,d.ed)>>=λo=>match o with
 |.inl a=>
 some a
 |.inr e=>
 some (-1)else none
theorem UL:bb aed yI:= .bm (.k yF (.k St .n)) (.k TA .n)
def yA(a:Int):Option Bool:=
 some (bif decide (1<=a)then decide (a<=4)else false)
theorem Sq:bb aef yA:= .bm
def nT:Int×Int×Int×List dr->Option ((Int) ⊕ (Unit))
 |(a,n,k,b)=>
 if (k<n:Bool) then if !(n=0:Bool) then some (b' (aM .i64 (bV .i64 a) k) n)>>=λt21=>ru ((⟨b⟩:ek),t21)>>=λr=>yA r>>=λc=>if c then some (.inl t21)else nT (a,n,aM .i64 k 1,b)else none else some (.inr ())
  partial_fixpoint
theorem UM:cS 74 0 [0] QH nT:= .rx nT.partial_correctness (.k yF (.k Sq .n))
def sL(b:ek×Int):Option Int:=
 match b with
 |(d,code)=>
 nT (code,(d.ed.length:Int),0,d.ed)>>=λo=>match o with
 |.inl a=>
 some a
 |.inr c=>
 some (-1)
theorem R0:bb afg sL:= .bm .n (.k UM .n)
def yB:ek×Int×Int->Option (I×Bool)
 |(d,t,code)=>
 if aH t d.ed.length then some (d.ed.getD t.toNat br)>>=λa=>ru (d,t)>>=λr=>some (decide (r=8))>>=λt21=>(if t21 then sL (d,0)else some 0)>>=λc=>if(bif t21 then (c<0:Bool)else false) then some ((⟨7,false,0,[],0,[],[],[]⟩:I),true)else if (r=1:Bool) then some ((⟨r,decide (b' code 2=1),0,[],0,[],[],[]⟩:I),true)else if (r=2:Bool) then pO a>>=λe=>sG a>>=λf=>pO a>>=λg=>some (aM .i64 (dh .i64 f g) 1)>>=λt47=>if !(t47=0:Bool) then some ((⟨r,false,aM .i64 e (b' (bV .i64 code) t47),[],0,[],[],[]⟩:I),true)else none else if (r=3:Bool) then if(bif (0<b' a.A 4:Bool)then (b' code 2=1:Bool)else false) then some ((⟨r,false,0,[97],0,[],[],[]⟩:I),true)else some ((⟨r,false,0,[],0,[],[],[]⟩:I),true)else if (r=4:Bool) then np a>>=λb=>np a>>=λi=>some (i.length:Int)>>=λt71=>if !(t71=0:Bool) then some (b' (bV .i64 code) t71)>>=λt72=>if aH t72 b.length then some ((⟨r,false,0,[],b.getD t72.toNat 0,[],[],[]⟩:I),true)else none else none else some (decide (r=5))>>=λt77=>if t77 then if t77 then some ((⟨0,false,0,[],0,[],[],[]⟩:I),false)else some ((⟨r,false,0,[],0,[],[],[]⟩:I),true)else if (r=6:Bool) then some ((⟨0,false,0,[],0,[],[],[]⟩:I),false)else some ((⟨r,false,0,[],0,[],[],[]⟩:I),true)else none
theorem U9:bb aee yB:= .bm (.k yF (.k R0 (.k F2 (.k SE (.k RZ .n)))))
def q8:Int×Bool×Int×Int×List dr×dr×List aU->Option (Int×Bool×Int×List dr×dr×List aU)
 |(f,e,a,k,c,d,b)=>
 if (k<(d.c2.length:Int):Bool) then if aH k d.c2.length then some (d.c2.getD k.toNat iV)>>=λg=>yI ((⟨c⟩:ek),f,g.au)>>=λr=>if(bif (!(aM .i64 1 (bV .i64 (b' g.af 12))=a:Bool))then true else (r<0:Bool)) then q8 (f,e,a,aM .i64 k 1,c,d,b)else some (mF (bV .i32 (aM .i64 97 a)))>>=λt55=>if ([109].length+t55.length<=ez:Bool) then some ([109]++t55)>>=λt56=>if(bif e then (b' g.gZ 4=1:Bool)else false) then if(bif e then (2<=b' g.gZ 4:Bool)else false) then yB ((⟨c⟩:ek),r,fw .u8 g.gZ 4)>>=λi=>some [(⟨a,t56,r,true,i.2,I.eta i.1⟩:aU)]>>=λt87=>if room 160 (b++t87).length then some (f,e,a,c,d,b++t87)else none else some [(⟨a,t56,r,true,false,(⟨0,false,0,[],0,[],[],[]⟩:I)⟩:aU)]>>=λl=>if room 160 (b++l).length then some (f,e,a,c,d,b++l)else none else if(bif e then (2<=b' g.gZ 4:Bool)else false) then yB ((⟨c⟩:ek),r,fw .u8 g.gZ 4)>>=λj=>some [(⟨a,t56,r,false,j.2,I.eta j.1⟩:aU)]>>=λm=>if room 160 (b++m).length then some (f,e,a,c,d,b++m)else none else some [(⟨a,t56,r,false,false,(⟨0,false,0,[],0,[],[],[]⟩:I)⟩:aU)]>>=λn=>if room 160 (b++n).length then some (f,e,a,c,d,b++n)else none else none else none else some (f,e,a,c,d,b)
  partial_fixpoint
theorem TS:cS 73 0 [0,0] Nj q8:= .rx q8.partial_correctness (.k UL (.k U9 .n))
def rf:Int×Bool×Int×List dr×dr×List aU->Option (List aU)
 |(e,f,id,c,d,b)=>
 if (id<=12:Bool) then q8 (e,f,id,0,c,d,b)>>=λa=>rf (a.1,a.2.1,aM .i64 a.2.2.1 1,a.2.2.2.1,a.2.2.2.2.1,a.2.2.2.2.2)else some b
  partial_fixpoint
theorem UX:cS 73 0 [0] QG rf:= .rx rf.partial_correctness .n (.k TS .n)
def sB:ek×Int×Bool->Option (List aU)
 |(d,i,record)=>
 if aH i d.ed.length then rf (i,record,1,d.ed,d.ed.getD i.toNat br,[])>>=λo=>some o else none
theorem VO:bb aff sB:= .bm .n (.k UX .n)
def oX:Int×Int×aq×Int×List dr×Int×aj×Int×Int×Int×Int×Int×Bool×List ah×List c6->Option (Int×Int×List dr×Int×aj×Int×Int×Int×Int×Int×Bool×List ah×List c6)
 |(p,o,a,k,c,d,e,f,g,i,j,l,m,n,b)=>
 if (k<(a.length:Int):Bool) then if aH k a.length then if aH k a.length then some (mF (bV .i32 (aM .i64 97 (a.getD k.toNat 0))))>>=λt87=>if ([115].length+t87.length<=ez:Bool) then some [(⟨a.getD k.toNat 0,[115]++t87⟩:c6)]>>=λt90=>if room 24 (b++t90).length then oX (p,o,a,aM .i64 k 1,c,d,e,f,g,i,j,l,m,n,b++t90)else none else none else none else none else some (p,o,c,d,e,f,g,i,j,l,m,n,b)
  partial_fixpoint
theorem U':cS 34 0 [0,0] Mz oX:= .rx oX.partial_correctness
def fN:Int×Int×List dr×List ah->Option (List ah)
 |(n,i,b,a)=>
 if (i<n:Bool) then if aH i b.length then some (b.getD i.toNat br)>>=λc=>ru ((⟨b⟩:ek),i)>>=λr=>j4 r>>=λN=>if N then some (mF (bV .i32 (aM .i64 65 i)))>>=λt41=>if (r=2:Bool) then pO c>>=λQ=>sG c>>=λR=>some [(⟨r,t41,Q,R,0,[],[],0,0,false⟩:ah)]>>=λt167=>if room 120 (a++t167).length then fN (n,aM .i64 i 1,b,a++t167)else none else if (r=3:Bool) then some [(⟨r,t41,0,0,bV .i64 (b' c.A 4),[],[],0,0,false⟩:ah)]>>=λo=>if room 120 (a++o).length then fN (n,aM .i64 i 1,b,a++o)else none else if (r=4:Bool) then np c>>=λS=>oX (n,i,S,0,b,r,t41,0,0,0,0,0,decide (b' c.B 2=1),a,[])>>=λd=>some [(⟨d.2.2.2.1,d.2.2.2.2.1,d.2.2.2.2.2.1,d.2.2.2.2.2.2.1,d.2.2.2.2.2.2.2.1,d.2.2.2.2.2.2.2.2.2.2.2.2,[],d.2.2.2.2.2.2.2.2.1,d.2.2.2.2.2.2.2.2.2.1,d.2.2.2.2.2.2.2.2.2.2.1⟩:ah)]>>=λD=>if room 120 (d.2.2.2.2.2.2.2.2.2.2.2.1++D).length then fN (d.1,aM .i64 d.2.1 1,d.2.2.1,d.2.2.2.2.2.2.2.2.2.2.2.1++D)else none else if (r=5:Bool) then sB ((⟨b⟩:ek),i,true)>>=λT=>some [(⟨r,t41,0,0,0,[],T,0,0,false⟩:ah)]>>=λG=>if room 120 (a++G).length then fN (n,aM .i64 i 1,b,a++G)else none else if (r=6:Bool) then sB ((⟨b⟩:ek),i,false)>>=λj=>if ((j.length:Int)=0:Bool) then some [(⟨5,t41,0,0,0,[],[],0,0,false⟩:ah)]>>=λH=>if room 120 (a++H).length then fN (n,aM .i64 i 1,b,a++H)else none else some [(⟨r,t41,0,0,0,[],j,0,0,decide (b' c.B 2=1)⟩:ah)]>>=λI=>if room 120 (a++I).length then fN (n,aM .i64 i 1,b,a++I)else none else if (r=7:Bool) then if !(n=0:Bool) then some [(⟨r,t41,0,0,bV .i64 (b' c.A 4),[],[],0,b' (bV .i64 c.C) n,false⟩:ah)]>>=λJ=>if room 120 (a++J).length then fN (n,aM .i64 i 1,b,a++J)else none else none else if (r=8:Bool) then some (bV .i64 (b' c.A 4))>>=λt135=>sL ((⟨b⟩:ek),c.B)>>=λk=>if !(n=0:Bool) then some (b' (bV .i64 c.C) n)>>=λt144=>if (k<0:Bool) then some [(⟨7,[],0,0,t135,[],[],0,t144,false⟩:ah)]>>=λK=>if room 120 (a++K).length then fN (n,aM .i64 i 1,b,a++K)else none else some [(⟨r,t41,0,0,t135,[],[],k,t144,false⟩:ah)]>>=λL=>if room 120 (a++L).length then fN (n,aM .i64 i 1,b,a++L)else none else none else if (r=9:Bool) then if !(n=0:Bool) then some [(⟨r,t41,0,0,0,[],[],0,b' (bV .i64 c.C) n,false⟩:ah)]>>=λM=>if room 120 (a++M).length then fN (n,aM .i64 i 1,b,a++M)else none else none else some [(⟨r,t41,0,0,0,[],[],0,0,false⟩:ah)]>>=λp=>if room 120 (a++p).length then fN (n,aM .i64 i 1,b,a++p)else none else if (r=2:Bool) then pO c>>=λU=>sG c>>=λV=>some [(⟨r,[],U,V,0,[],[],0,0,false⟩:ah)]>>=λq=>if room 120 (a++q).length then fN (n,aM .i64 i 1,b,a++q)else none else if (r=3:Bool) then some [(⟨r,[],0,0,bV .i64 (b' c.A 4),[],[],0,0,false⟩:ah)]>>=λs=>if room 120 (a++s).length then fN (n,aM .i64 i 1,b,a++s)else none else if (r=4:Bool) then np c>>=λO=>oX (n,i,O,0,b,r,[],0,0,0,0,0,decide (b' c.B 2=1),a,[])>>=λe=>some [(⟨e.2.2.2.1,e.2.2.2.2.1,e.2.2.2.2.2.1,e.2.2.2.2.2.2.1,e.2.2.2.2.2.2.2.1,e.2.2.2.2.2.2.2.2.2.2.2.2,[],e.2.2.2.2.2.2.2.2.1,e.2.2.2.2.2.2.2.2.2.1,e.2.2.2.2.2.2.2.2.2.2.1⟩:ah)]>>=λt=>if room 120 (e.2.2.2.2.2.2.2.2.2.2.2.1++t).length then fN (e.1,aM .i64 e.2.1 1,e.2.2.1,e.2.2.2.2.2.2.2.2.2.2.2.1++t)
 else none else if (r=5:Bool) then sB ((⟨b⟩:ek),i,true)>>=λP=>some [(⟨r,[],0,0,0,[],P,0,0,false⟩:ah)]>>=λu=>if room 120 (a++u).length then fN (n,aM .i64 i 1,b,a++u)else none else if (r=6:Bool) then sB ((⟨b⟩:ek),i,false)>>=λf=>if ((f.length:Int)=0:Bool) then some [(⟨5,[],0,0,0,[],[],0,0,false⟩:ah)]>>=λv=>if room 120 (a++v).length then fN (n,aM .i64 i 1,b,a++v)else none else some [(⟨r,[],0,0,0,[],f,0,0,decide (b' c.B 2=1)⟩:ah)]>>=λw=>if room 120 (a++w).length then fN (n,aM .i64 i 1,b,a++w)else none else if (r=7:Bool) then if !(n=0:Bool) then some [(⟨r,[],0,0,bV .i64 (b' c.A 4),[],[],0,b' (bV .i64 c.C) n,false⟩:ah)]>>=λx=>if room 120 (a++x).length then fN (n,aM .i64 i 1,b,a++x)else none else none else if (r=8:Bool) then some (bV .i64 (b' c.A 4))>>=λl=>sL ((⟨b⟩:ek),c.B)>>=λg=>if !(n=0:Bool) then some (b' (bV .i64 c.C) n)>>=λm=>if (g<0:Bool) then some [(⟨7,[],0,0,l,[],[],0,m,false⟩:ah)]>>=λy=>if room 120 (a++y).length then fN (n,aM .i64 i 1,b,a++y)else none else some [(⟨r,[],0,0,l,[],[],g,m,false⟩:ah)]>>=λz=>if room 120 (a++z).length then fN (n,aM .i64 i 1,b,a++z)else none else none else if (r=9:Bool) then if !(n=0:Bool) then some [(⟨r,[],0,0,0,[],[],0,b' (bV .i64 c.C) n,false⟩:ah)]>>=λE=>if room 120 (a++E).length then fN (n,aM .i64 i 1,b,a++E)else none else none else some [(⟨r,[],0,0,0,[],[],0,0,false⟩:ah)]>>=λF=>if room 120 (a++F).length then fN (n,aM .i64 i 1,b,a++F)else none else none else some a
  partial_fixpoint
theorem VP:cS 34 0 [0] Qv fN:= .rx fN.partial_correctness (.k yF (.k FX (.k F2 (.k SE (.k RZ (.k VO (.k R0 .n))))))) (.k U' .n)
def qM(d:ek):Option (aQ×Bool):=
 some (d.ed.length:Int)>>=λt13=>if(bif (t13<1:Bool)then true else (5<t13:Bool)) then some ((⟨[]⟩:aQ),false)else fN (t13,0,d.ed,[])>>=λo=>some ((⟨o⟩:aQ),true)
theorem R9:bb aeY qM:= .bm .n (.k VP .n)
def i':Int×List ah×aq×Bool->Option (Int×List ah×aq×Bool)
 |(n,b,a,c)=>
 if ((a.length:Int)=0:Bool) then some (0,b,a,c)else if aH 0 a.length then if !(n=0:Bool) then if dU 1 (a.length:Int) a.length then some (b' (bV .i64 (a.getD (0:Int).toNat 0)) n,b,d' a 1 (a.length:Int),c)else none else none else none
theorem sU:bb aeu i':= .bm
def sR:aj×Int×List ah×aq×Bool->Option (aj×List ah×aq×Bool)
 |(b,n,c,d,e)=>
 if (0<n:Bool) then i' (3,c,d,e)>>=λa=>some (mF (bV .i32 (aM .i64 97 a.1)))>>=λt21=>if (b.length+t21.length<=ez:Bool) then sR (b++t21,dh .i64 n 1,a.2.1,a.2.2.1,a.2.2.2)else none else some (b,c,d,e)
  partial_fixpoint
theorem Ui:cS 148 1 [0] N8 sR:= .rx sR.partial_correctness (.k sU .n)
def Cn:Int×List ah×aq×Bool->Option (aj×List ah×aq×Bool)
 |(most,b,a,c)=>
 i' (aM .i64 (jg most 3) 1,b,a,c)>>=λr=>sR ([],r.1,r.2.1,r.2.2.1,r.2.2.2)>>=λo=>some (o.1,o.2.1,o.2.2.1,o.2.2.2)
theorem TT:bb aev Cn:= .bm (.k sU .n) (.k Ui .n)
def vj:List ah×aq×Bool->Option (Bool×List ah×aq×Bool)
 |(b,c,a)=>
 if a then i' (4,b,c,a)>>=λr=>some (bif a then decide (r.1=3)else false,r.2.1,r.2.2.1,r.2.2.2)else some (bif a then false else false,b,c,a)
theorem TB:bb aew vj:= .bm (.k sU .n)
def oO:Int×Int×ah->Option ((Int×Bool) ⊕ (Unit))
 |(a,i,b)=>
 if (i<(b.ag.length:Int):Bool) then if aH i b.ag.length then if ((b.ag.getD i.toNat aC).af=a:Bool) then some (.inl (i,true))else oO (a,aM .i64 i 1,b)else none else some (.inr ())
  partial_fixpoint
theorem TC:cS 53 0 [0] QB oO:= .rx oO.partial_correctness
def hC(b:ah×Int):Option (Int×Bool):=
 match b with
 |(t,id)=>
 oO (id,0,t)>>=λo=>match o with
 |.inl a=>
 some (a.1,a.2)
 |.inr c=>
 some (0,false)
theorem rh:bb ae6 hC:= .bm .n (.k TC .n)
def nN:Int×Int×ah->Option ((Int×Bool) ⊕ (Unit))
 |(a,i,b)=>
 if (i<(b.bg.length:Int):Bool) then if aH i b.bg.length then if ((b.bg.getD i.toNat dN).af=a:Bool) then some (.inl (i,true))else nN (a,aM .i64 i 1,b)else none else some (.inr ())
  partial_fixpoint
theorem TD:cS 82 0 [0] QK nN:= .rx nN.partial_correctness
def sv(b:ah×Int):Option (Int×Bool):=
 match b with
 |(t,id)=>
 nN (id,0,t)>>=λo=>match o with
 |.inl a=>
 some (a.1,a.2)
 |.inr c=>
 some (0,false)
theorem FV:bb afm sv:= .bm .n (.k TD .n)
def B9:ah×Int->Option Bool
 |(t,n)=>
 hC (t,n)>>=λr=>sv (t,n)>>=λa=>some (bif r.2 then true else a.2)
theorem Vu:bb aeO B9:= .bm (.k rh (.k FV .n))
def uS:Int×List ah×aq×Bool×ah->Option (Int×List ah×aq×Bool)
 |(a,b,c,d,e)=>
 B9 (e,a)>>=λf=>if f then uS (aM .i64 a 1,b,c,d,e)else some (a,b,c,d)
  partial_fixpoint
theorem Uh:cS 150 1 [0] Nv uS:= .rx uS.partial_correctness (.k Vu .n)
def qv:ah×List ah×aq×Bool->Option (Int×List ah×aq×Bool)
 |(t,b,a,c)=>
 i' (14,b,a,c)>>=λr=>uS (aM .i64 1 r.1,r.2.1,r.2.2.1,r.2.2.2,t)>>=λo=>some (o.1,o.2.1,o.2.2.1,o.2.2.2)
theorem Uj:bb aey qv:= .bm (.k sU .n) (.k Uh .n)
def vk:Int×List ah×aq×Bool->Option (bY×List ah×aq×Bool)
 |(n,b,a,c)=>
 some [[],[1],[97],[3,1,2]]>>=λt6=>i' (4,b,a,c)>>=λr=>if aH r.1 t6.length then some ((⟨n,t6.getD r.1.toNat []⟩:bY),r.2.1,r.2.2.1,r.2.2.2)else none
theorem TE:bb aez vk:= .bm (.k sU .n)
def kG:Bool×Bool->Option Int
 |(b,a)=>
 if a then some 0 else if b then some (-1)else some 1
theorem VQ:bb aeL kG:= .bm
def vo(n:Int):Option Int:=
 if (0<=n:Bool) then some (gy .u64 2 (bV .u64 n))else some (aM .u64 (gy .u64 2 (bV .u64 (dh .i64 0 (aM .i64 n 1)))) 1)
theorem Su:bb ae4 vo:= .bm
def nQ:I×I->Option Int
 |(a,b)=>
 if !(a.Kind=b.Kind:Bool) then some 0 else if (a.Kind=1:Bool) then kG (b.bM,fu a.bM b.bM)>>=λr=>some r else if (a.Kind=2:Bool) then vo a.bd>>=λc=>vo b.bd>>=λd=>kG (decide (c<d),decide (a.bd=b.bd))>>=λe=>some e else if (a.Kind=3:Bool) then if !((a.bl.length:Int)=(b.bl.length:Int):Bool) then kG (decide ((a.bl.length:Int)<(b.bl.length:Int)),false)>>=λf=>some f else kG (Op.bytesLess a.bl b.bl,decide (a.bl=b.bl))>>=λg=>some g else if (a.Kind=4:Bool) then kG (decide (a.af<b.af),decide (a.af=b.af))>>=λi=>some i else some 0
theorem Cq:bb aep nQ:= .bm (.k VQ (.k Su .n))
def rm:Int×I×I×I×Int×Bool×Int×aj×Int->Option (Int×I×I×I×Int×Bool×Int×aj×Int)
 |(b,a,c,d,e,f,g,i,j)=>
 some (decide (b<(a.av.length:Int)))>>=λt12=>if(aH b a.av.length||(!t12)) then (if t12 then nQ (I.eta (a.av.getD b.toNat ar),I.eta c)else some 0)>>=λk=>if(bif t12 then (k<0:Bool)else false) then rm (aM .i64 b 1,I.eta a,I.eta c,I.eta d,e,f,g,i,j)else some (b,I.eta a,I.eta c,I.eta d,e,f,g,i,j)else none
  partial_fixpoint
theorem UN:cS 152 0 [0] Nw rm:= .rx rm.partial_correctness (.k Cq .n)
def Cb:I×I×I->Option I
 |(v,key,item)=>
 rm (0,I.eta v,I.eta key,I.eta item,0,false,0,[],0)>>=λo=>some (decide (o.1<(o.2.1.av.length:Int)))>>=λt29=>if(aH o.1 o.2.1.av.length||(!t29)) then (if t29 then nQ (I.eta (o.2.1.av.getD o.1.toNat ar),I.eta o.2.2.1)else some 0)>>=λr=>if(bif t29 then (r=0:Bool)else false) then some (I.eta o.2.1)else if dU 0 o.1 o.2.1.av.length then some (d' o.2.1.av 0 o.1)>>=λt45=>if room 120 ([]++t45).length then some ([]++t45)>>=λl=>some [I.eta o.2.2.1]>>=λt48=>if room 120 (l++t48).length then some (l++t48)>>=λa=>if dU o.1 (o.2.1.av.length:Int) o.2.1.av.length then some (d' o.2.1.av o.1 (o.2.1.av.length:Int))>>=λt53=>if room 120 (a++t53).length then if dU 0 o.1 o.2.1.ai.length then some (d' o.2.1.ai 0 o.1)>>=λt60=>if room 120 ([]++t60).length then some ([]++t60)>>=λb=>some [I.eta o.2.2.2.1]>>=λt63=>if room 120 (b++t63).length then some (b++t63)>>=λc=>if dU o.1 (o.2.1.ai.length:Int) o.2.1.ai.length then some (d' o.2.1.ai o.1 (o.2.1.ai.length:Int))>>=λt68=>if room 120 (c++t68).length then some (⟨o.2.1.Kind,o.2.1.bM,o.2.1.bd,o.2.1.bl,o.2.1.af,a++t53,c++t68,o.2.1.Rest⟩:I)else none else none else none else none else none else none else none else none else none else none else none
theorem Vj:bb aeA Cb:= .bm (.k Cq .n) (.k UN .n)
mutual
def jG:Int×List ah×aq×Bool->Option (I×List ah×aq×Bool)
 |(t,b,e,f)=>
 if aH t b.length then some (b.getD t.toNat aP)>>=λa=>if (a.Kind=1:Bool) then i' (2,b,e,f)>>=λr=>some ((⟨a.Kind,decide (r.1=1),0,[],0,[],[],[]⟩:I),r.2.1,r.2.2.1,r.2.2.2)else if (a.Kind=2:Bool) then i' (256,b,e,f)>>=λbi=>some (aM .i64 (dh .i64 a.bF a.bB) 1)>>=λt51=>if !(t51=0:Bool) then some ((⟨a.Kind,false,aM .i64 a.bB (b' bi.1 t51),[],0,[],[],[]⟩:I),bi.2.1,bi.2.2.1,bi.2.2.2)else none else if (a.Kind=3:Bool) then Cn (a.Max,b,e,f)>>=λaB=>some ((⟨a.Kind,false,0,aB.1,0,[],[],[]⟩:I),aB.2.1,aB.2.2.1,aB.2.2.2)else if (a.Kind=4:Bool) then i' ((a.bg.length:Int),b,e,f)>>=λp=>if aH p.1 a.bg.length then some (a.bg.getD p.1.toNat dN)>>=λhk=>if a.Open then vj (p.2.1,p.2.2.1,p.2.2.2)>>=λy=>if(bif a.Open then y.1 else false) then qv (a,y.2.1,y.2.2.1,y.2.2.2)>>=λa5=>some ((⟨a.Kind,false,0,[],a5.1,[],[],[]⟩:I),a5.2.1,a5.2.2.1,a5.2.2.2)else some ((⟨a.Kind,false,0,[],hk.af,[],[],[]⟩:I),y.2.1,y.2.2.1,y.2.2.2)else if(bif a.Open then false else false) then qv (a,p.2.1,p.2.2.1,p.2.2.2)>>=λa9=>some ((⟨a.Kind,false,0,[],a9.1,[],[],[]⟩:I),a9.2.1,a9.2.2.1,a9.2.2.2)else some ((⟨a.Kind,false,0,[],hk.af,[],[],[]⟩:I),p.2.1,p.2.2.1,p.2.2.2)else none else if (a.Kind=5:Bool) then mm (0,b,e,f,0,false,0,[],0,a.Kind,a.Name,a.bB,a.bF,a.Max,a.bg,a.ag,a.Key,a.aG,a.Open,a.Kind,false,0,[],0,[])>>=λo=>vj (o.1,o.2.1,o.2.2.1)>>=λz=>if z.1 then qv ((⟨o.2.2.2.2.2.2.2.2.1,o.2.2.2.2.2.2.2.2.2.1,o.2.2.2.2.2.2.2.2.2.2.1,o.2.2.2.2.2.2.2.2.2.2.2.1,o.2.2.2.2.2.2.2.2.2.2.2.2.1,o.2.2.2.2.2.2.2.2.2.2.2.2.2.1,o.2.2.2.2.2.2.2.2.2.2.2.2.2.2.1,o.2.2.2.2.2.2.2.2.2.2.2.2.2.2.2.1,o.2.2.2.2.2.2.2.2.2.2.2.2.2.2.2.2.1,o.2.2.2.2.2.2.2.2.2.2.2.2.2.2.2.2.2.1⟩:ah),z.2.1,z.2.2.1,z.2.2.2)>>=λba=>vk (ba.1,ba.2.1,ba.2.2.1,ba.2.2.2)>>=λbe=>some ((⟨o.2.2.2.2.2.2.2.2.2.2.2.2.2.2.2.2.2.2.1,o.2.2.2.2.2.2.2.2.2.2.2.2.2.2.2.2.2.2.2.1,o.2.2.2.2.2.2.2.2.2.2.2.2.2.2.2.2.2.2.2.2.1,o.2.2.2.2.2.2.2.2.2.2.2.2.2.2.2.2.2.2.2.2.2.1,o.2.2.2.2.2.2.2.2.2.2.2.2.2.2.2.2.2.2.2.2.2.2.1,[],o.2.2.2.2.2.2.2.2.2.2.2.2.2.2.2.2.2.2.2.2.2.2.2,[be.1]⟩:I),be.2.1,be.2.2.1,be.2.2.2)else some ((⟨o.2.2.2.2.2.2.2.2.2.2.2.2.2.2.2.2.2.2.1,o.2.2.2.2.2.2.2.2.2.2.2.2.2.2.2.2.2.2.2.1,o.2.2.2.2.2.2.2.2.2.2.2.2.2.2.2.2.2.2.2.2.1,o.2.2.2.2.2.2.2.2.2.2.2.2.2.2.2.2.2.2.2.2.2.1,o.2.2.2.2.2.2.2.2.2.2.2.2.2.2.2.2.2.2.2.2.2.2.1,[],o.2.2.2.2.2.2.2.2.2.2.2.2.2.2.2.2.2.2.2.2.2.2.2,[]⟩:I),z.2.1,z.2.2.1,z.2.2.2)else if (a.Kind=6:Bool) then if a.Open then vj (b,e,f)>>=λA=>if(bif a.Open then A.1 else false) then qv (a,A.2.1,A.2.2.1,A.2.2.2)>>=λZ=>vk (Z.1,Z.2.1,Z.2.2.1,Z.2.2.2)>>=λbn=>some ((⟨a.Kind,false,0,[],Z.1,[],[],[bn.1]⟩:I),bn.2.1,bn.2.2.1,bn.2.2.2)else i' ((a.ag.length:Int),A.2.1,A.2.2.1,A.2.2.2)>>=λae=>if aH ae.1 a.ag.length then some (a.ag.getD ae.1.toNat aC)>>=λhm=>jG (hm.au,ae.2.1,ae.2.2.1,ae.2.2.2)>>=λbs=>some ((⟨a.Kind,false,0,[],hm.af,[],[I.eta bs.1],[]⟩:I),bs.2.1,bs.2.2.1,bs.2.2.2)else none else if(bif a.Open then false else false) then qv (a,b,e,f)>>=λam=>vk (am.1,am.2.1,am.2.2.1,am.2.2.2)>>=λbv=>some ((⟨a.Kind,false,0,[],am.1,[],[],[bv.1]⟩:I),bv.2.1,bv.2.2.1,bv.2.2.2)
 else i' ((a.ag.length:Int),b,e,f)>>=λan=>if aH an.1 a.ag.length then some (a.ag.getD an.1.toNat aC)>>=λhs=>jG (hs.au,an.2.1,an.2.2.1,an.2.2.2)>>=λbI=>some ((⟨a.Kind,false,0,[],hs.af,[],[I.eta bI.1],[]⟩:I),bI.2.1,bI.2.2.1,bI.2.2.2)else none else if (a.Kind=7:Bool) then i' (aM .i64 (jg a.Max 3) 1,b,e,f)>>=λbQ=>qt (bQ.1,bQ.2.1,bQ.2.2.1,bQ.2.2.2,0,false,0,[],0,a.Kind,a.Name,a.bB,a.bF,a.Max,a.bg,a.ag,a.Key,a.aG,a.Open,a.Kind,false,0,[],0,[])>>=λu=>some ((⟨u.2.2.2.2.2.2.2.2.1,u.2.2.2.2.2.2.2.2.2.1,u.2.2.2.2.2.2.2.2.2.2.1,u.2.2.2.2.2.2.2.2.2.2.2.1,u.2.2.2.2.2.2.2.2.2.2.2.2.1,[],u.2.2.2.2.2.2.2.2.2.2.2.2.2,[]⟩:I),u.1,u.2.1,u.2.2.1)else if (a.Kind=8:Bool) then i' (aM .i64 (jg a.Max 3) 1,b,e,f)>>=λaI=>qu (aI.1,aI.2.1,aI.2.2.1,aI.2.2.2,0,false,0,[],0,a.Kind,a.Name,a.bB,a.bF,a.Max,a.bg,a.ag,a.Key,a.aG,a.Open,a.Kind,false,0,[],0,[],[],[])>>=λj=>some ((⟨j.2.2.2.2.2.2.2.2.1,j.2.2.2.2.2.2.2.2.2.1,j.2.2.2.2.2.2.2.2.2.2.1,j.2.2.2.2.2.2.2.2.2.2.2.1,j.2.2.2.2.2.2.2.2.2.2.2.2.1,j.2.2.2.2.2.2.2.2.2.2.2.2.2.1,j.2.2.2.2.2.2.2.2.2.2.2.2.2.2.1,j.2.2.2.2.2.2.2.2.2.2.2.2.2.2.2⟩:I),j.1,j.2.1,j.2.2.1)else i' (2,b,e,f)>>=λw=>if (w.1=1:Bool) then jG (a.aG,w.2.1,w.2.2.1,w.2.2.2)>>=λaZ=>some ((⟨a.Kind,false,0,[],0,[],[I.eta aZ.1],[]⟩:I),aZ.2.1,aZ.2.2.1,aZ.2.2.2)else some ((⟨a.Kind,false,0,[],0,[],[],[]⟩:I),w.2.1,w.2.2.1,w.2.2.2)else none
  partial_fixpoint
def mm:Int×List ah×aq×Bool×Int×Bool×Int×aj×Int×Int×aj×Int×Int×Int×List c6×List aU×Int×Int×Bool×Int×Bool×Int×aj×Int×List I->Option (List ah×aq×Bool×Int×Bool×Int×aj×Int×Int×aj×Int×Int×Int×List c6×List aU×Int×Int×Bool×Int×Bool×Int×aj×Int×List I)
 |(i,ap,ax,ay,D,E,F,G,H,J,K,L,M,N,O,c,P,Q,R,S,U,W,X,Y,q)=>
 if (i<(c.length:Int):Bool) then if aH i c.length then some (c.getD i.toNat aC)>>=λb0=>if b0.bW then i' (3,ap,ax,ay)>>=λx=>if(bif b0.bW then (x.1=0:Bool)else false) then if aH i c.length then some [I.eta (c.getD i.toNat aC).bw]>>=λt113=>if room 120 (q++t113).length then mm (aM .i64 i 1,x.2.1,x.2.2.1,x.2.2.2,D,E,F,G,H,J,K,L,M,N,O,c,P,Q,R,S,U,W,X,Y,q++t113)else none else none else if aH i c.length then jG ((c.getD i.toNat aC).au,x.2.1,x.2.2.1,x.2.2.2)>>=λa0=>some [I.eta a0.1]>>=λt126=>if room 120 (q++t126).length then mm (aM .i64 i 1,a0.2.1,a0.2.2.1,a0.2.2.2,D,E,F,G,H,J,K,L,M,N,O,c,P,Q,R,S,U,W,X,Y,q++t126)else none else none else if(bif b0.bW then false else false) then if aH i c.length then some [I.eta (c.getD i.toNat aC).bw]>>=λg9=>if room 120 (q++g9).length then mm (aM .i64 i 1,ap,ax,ay,D,E,F,G,H,J,K,L,M,N,O,c,P,Q,R,S,U,W,X,Y,q++g9)else none else none else if aH i c.length then jG ((c.getD i.toNat aC).au,ap,ax,ay)>>=λa1=>some [I.eta a1.1]>>=λhe=>if room 120 (q++he).length then mm (aM .i64 i 1,a1.2.1,a1.2.2.1,a1.2.2.2,D,E,F,G,H,J,K,L,M,N,O,c,P,Q,R,S,U,W,X,Y,q++he)else none else none else none else some (ap,ax,ay,D,E,F,G,H,J,K,L,M,N,O,c,P,Q,R,S,U,W,X,Y,q)
  partial_fixpoint
def qt:Int×List ah×aq×Bool×Int×Bool×Int×aj×Int×Int×aj×Int×Int×Int×List c6×List aU×Int×Int×Bool×Int×Bool×Int×aj×Int×List I->Option (List ah×aq×Bool×Int×Bool×Int×aj×Int×Int×Bool×Int×aj×Int×List I)
 |(n,gs,gt,g0,g1,g2,g3,g4,g5,ip,i0,i1,i2,i3,i4,i5,i6,g6,i7,g7,b1,b2,b3,b4,bS)=>
 if (0<n:Bool) then jG (g6,gs,gt,g0)>>=λa2=>some [I.eta a2.1]>>=λt193=>if room 120 (bS++t193).length then qt (dh .i64 n 1,a2.2.1,a2.2.2.1,a2.2.2.2,g1,g2,g3,g4,g5,ip,i0,i1,i2,i3,i4,i5,i6,g6,i7,g7,b1,b2,b3,b4,bS++t193)else none else some (gs,gt,g0,g1,g2,g3,g4,g5,g7,b1,b2,b3,b4,bS)
  partial_fixpoint
def qu:Int×List ah×aq×Bool×Int×Bool×Int×aj×Int×Int×aj×Int×Int×Int×List c6×List aU×Int×Int×Bool×Int×Bool×Int×aj×Int×List I×List I×List bY->Option (List ah×aq×Bool×Int×Bool×Int×aj×Int×Int×Bool×Int×aj×Int×List I×List I×List bY)
 |(g8,ce,ci,cp,cs,c',ds,dt,eq,ht,hu,hw,hH,h0,h1,ii,es,ex,io,fd,ff,fo,fs,gc,gd,ge,gl)=>
 if (0<g8:Bool) then jG (es,ce,ci,cp)>>=λa3=>jG (ex,a3.2.1,a3.2.2.1,a3.2.2.2)>>=λa4=>Cb ((⟨fd,ff,fo,fs,gc,gd,ge,gl⟩:I),I.eta a3.1,I.eta a4.1)>>=λv=>qu (dh .i64 g8 1,a4.2.1,a4.2.2.1,a4.2.2.2,cs,c',ds,dt,eq,ht,hu,hw,hH,h0,h1,ii,es,ex,io,v.Kind,v.bM,v.bd,v.bl,v.af,v.av,v.ai,v.Rest)else some (ce,ci,cp,cs,c',ds,dt,eq,fd,ff,fo,fs,gc,gd,ge,gl)
  partial_fixpoint
end
theorem Uk:eu sf jG/\eN 112 1 [2] zp qu/\eN 112 1 [1] zo qt/\eN 112 1 [0] zn mm:=jG.mutual_partial_correctness (ej sf) (eM 112 1 [2] zp) (eM 112 1 [1] zo) (eM 112 1 [0] zn)
 (λ_ _ _ _ h0 h1 a b _ _ h=>eC h (.k sU (.k TT (.k TB (.k Uj (.k TE (.k (cq sf h0) .n)))))) (.k (eV zn b) (.k (eV zo a) (.k (eV zp h1) .n))))
 (λ_ _ h0 h1 _ _ h=>eU zp h1 h (.k (cq sf h0) (.k Vj .n)))
 (λ_ _ h0 a _ _ h=>eU zo a h (.k (cq sf h0) .n))
 (λ_ _ h0 b _ _ h=>eU zn b h (.k sU (.k (cq sf h0) .n)))
theorem Sn:bb sf jG:=cq _ Uk.1
def xZ:aQ×Int×aq->Option I
 |(s,t,a)=>
 some (jg 60 (a.length:Int))>>=λt12=>if dU 0 t12 a.length then jG (t,s.Types,d' a 0 t12,false)>>=λr=>some (I.eta r.1)else none
theorem Vv:bb afi xZ:= .bm (.k Sn .n)
def yC:aQ×Int×aq->Option I
 |(s,t,a)=>
 some (jg 60 (a.length:Int))>>=λt12=>if dU 0 t12 a.length then jG (t,s.Types,d' a 0 t12,true)>>=λr=>some (I.eta r.1)else none
theorem Va:bb afj yC:= .bm (.k Sn .n)
def pR(d:k7):Option (aQ×Int×I×I×Bool):=
 qM d.S>>=λr=>if !r.2 then some (r.1,0,(⟨0,false,0,[],0,[],[],[]⟩:I),(⟨0,false,0,[],0,[],[],[]⟩:I),false)else some (r.1.Types.length:Int)>>=λt26=>if !(t26=0:Bool) then some (b' (bV .i64 d.T) t26)>>=λt27=>xZ (r.1,t27,d.C)>>=λa=>yC (r.1,t27,d.C)>>=λb=>some (r.1,t27,I.eta a,I.eta b,true)else none
theorem Sa:bb aeZ pR:= .bm (.k R9 (.k Vv (.k Va .n)))
def hB:List kE×Int×List dr->Option (List dr)
 |(d,i,a)=>
 if(bif (i<(d.length:Int):Bool)then (0<(a.length:Int):Bool)else false) then if aH i d.length then some (d.getD i.toNat nR)>>=λe=>some (a.length:Int)>>=λt38=>if !(t38=0:Bool) then some (b' (bV .i64 e.Node) t38)>>=λt39=>if aH t39 a.length then if (t39.toNat<a.length:Bool) then some (a.getD t39.toNat br).c2>>=λt46=>if room 3 ([]++t46).length then some ([]++t46)>>=λb=>if (t39.toNat<a.length:Bool) then if (t39.toNat=t39.toNat:Bool) then
 let n:=λc=>
 some (b' e.Kind 8)>>=λf=>if (f=0:Bool) then if (t39.toNat<a.length:Bool) then some (dh .u8 (aM .u8 (a.getD t39.toNat br).A (b' e.A 5)) 2)>>=λj=>if (t39.toNat<a.length:Bool) then hB (d,aM .i64 i 1,(a.set t39.toNat (⟨(a.getD t39.toNat br).Kind,j,(a.getD t39.toNat br).B,(a.getD t39.toNat br).C,(a.getD t39.toNat br).c2⟩:dr)).set t39.toNat (⟨((a.set t39.toNat (⟨(a.getD t39.toNat br).Kind,j,(a.getD t39.toNat br).B,(a.getD t39.toNat br).C,(a.getD t39.toNat br).c2⟩:dr)).getD t39.toNat br).Kind,((a.set t39.toNat (⟨(a.getD t39.toNat br).Kind,j,(a.getD t39.toNat br).B,(a.getD t39.toNat br).C,(a.getD t39.toNat br).c2⟩:dr)).getD t39.toNat br).A,((a.set t39.toNat (⟨(a.getD t39.toNat br).Kind,j,(a.getD t39.toNat br).B,(a.getD t39.toNat br).C,(a.getD t39.toNat br).c2⟩:dr)).getD t39.toNat br).B,((a.set t39.toNat (⟨(a.getD t39.toNat br).Kind,j,(a.getD t39.toNat br).B,(a.getD t39.toNat br).C,(a.getD t39.toNat br).c2⟩:dr)).getD t39.toNat br).C,b⟩:dr))else none else none else if (f=1:Bool) then if (t39.toNat<a.length:Bool) then some (dh .u8 (aM .u8 (a.getD t39.toNat br).B (b' e.B 5)) 2)>>=λk=>if (t39.toNat<a.length:Bool) then hB (d,aM .i64 i 1,(a.set t39.toNat (⟨(a.getD t39.toNat br).Kind,(a.getD t39.toNat br).A,k,(a.getD t39.toNat br).C,(a.getD t39.toNat br).c2⟩:dr)).set t39.toNat (⟨((a.set t39.toNat (⟨(a.getD t39.toNat br).Kind,(a.getD t39.toNat br).A,k,(a.getD t39.toNat br).C,(a.getD t39.toNat br).c2⟩:dr)).getD t39.toNat br).Kind,((a.set t39.toNat (⟨(a.getD t39.toNat br).Kind,(a.getD t39.toNat br).A,k,(a.getD t39.toNat br).C,(a.getD t39.toNat br).c2⟩:dr)).getD t39.toNat br).A,((a.set t39.toNat (⟨(a.getD t39.toNat br).Kind,(a.getD t39.toNat br).A,k,(a.getD t39.toNat br).C,(a.getD t39.toNat br).c2⟩:dr)).getD t39.toNat br).B,((a.set t39.toNat (⟨(a.getD t39.toNat br).Kind,(a.getD t39.toNat br).A,k,(a.getD t39.toNat br).C,(a.getD t39.toNat br).c2⟩:dr)).getD t39.toNat br).C,b⟩:dr))else none else none else if (f=2:Bool) then if (t39.toNat<a.length:Bool) then some (b' e.A 6)>>=λo=>if (0<=o:Bool) then some (uf .u8 (a.getD t39.toNat br).A (mR .u8 1 o))>>=λl=>if (t39.toNat<a.length:Bool) then hB (d,aM .i64 i 1,(a.set t39.toNat (⟨(a.getD t39.toNat br).Kind,l,(a.getD t39.toNat br).B,(a.getD t39.toNat br).C,(a.getD t39.toNat br).c2⟩:dr)).set t39.toNat (⟨((a.set t39.toNat (⟨(a.getD t39.toNat br).Kind,l,(a.getD t39.toNat br).B,(a.getD t39.toNat br).C,(a.getD t39.toNat br).c2⟩:dr)).getD t39.toNat br).Kind,((a.set t39.toNat (⟨(a.getD t39.toNat br).Kind,l,(a.getD t39.toNat br).B,(a.getD t39.toNat br).C,(a.getD t39.toNat br).c2⟩:dr)).getD t39.toNat br).A,((a.set t39.toNat (⟨(a.getD t39.toNat br).Kind,l,(a.getD t39.toNat br).B,(a.getD t39.toNat br).C,(a.getD t39.toNat br).c2⟩:dr)).getD t39.toNat br).B,((a.set t39.toNat (⟨(a.getD t39.toNat br).Kind,l,(a.getD t39.toNat br).B,(a.getD t39.toNat br).C,(a.getD t39.toNat br).c2⟩:dr)).getD t39.toNat br).C,b⟩:dr))else none else none else none else if (f=3:Bool) then if (t39.toNat<a.length:Bool) then some (aM .u8 (a.getD t39.toNat br).C e.A)>>=λm=>if (t39.toNat<a.length:Bool) then hB (d,aM .i64 i 1,(a.set t39.toNat (⟨(a.getD t39.toNat br).Kind,(a.getD t39.toNat br).A,(a.getD t39.toNat br).B,m,(a.getD t39.toNat br).c2⟩:dr)).set t39.toNat (⟨((a.set t39.toNat (⟨(a.getD t39.toNat br).Kind,(a.getD t39.toNat br).A,(a.getD t39.toNat br).B,m,(a.getD t39.toNat br).c2⟩:dr)).getD t39.toNat br).Kind,((a.set t39.toNat (⟨(a.getD t39.toNat br).Kind,(a.getD t39.toNat br).A,(a.getD t39.toNat br).B,m,(a.getD t39.toNat br).c2⟩:dr)).getD t39.toNat br).A,((a.set t39.toNat (⟨(a.getD t39.toNat br).Kind,(a.getD t39.toNat br).A,(a.getD t39.toNat br).B,m,(a.getD t39.toNat br).c2⟩:dr)).getD t39.toNat br).B,((a.set t39.toNat (⟨(a.getD t39.toNat br).Kind,(a.getD t39.toNat br).A,(a.getD t39.toNat br).B,m,(a.getD t39.toNat br).c2⟩:dr)).getD t39.toNat br).C,b⟩:dr))
 else none else none else if (f=4:Bool) then if (t39.toNat=t39.toNat:Bool) then if ((b.length:Int)<8:Bool) then if (t39.toNat=t39.toNat:Bool) then some [(⟨e.A,e.B,fw .u8 e.A 12⟩:lI)]>>=λp=>if room 3 (b++p).length then if (t39.toNat=t39.toNat:Bool) then hB (d,aM .i64 i 1,a.set t39.toNat (⟨(a.getD t39.toNat br).Kind,(a.getD t39.toNat br).A,(a.getD t39.toNat br).B,(a.getD t39.toNat br).C,b++p⟩:dr))else none else none else none else hB (d,aM .i64 i 1,a.set t39.toNat (⟨(a.getD t39.toNat br).Kind,(a.getD t39.toNat br).A,(a.getD t39.toNat br).B,(a.getD t39.toNat br).C,b⟩:dr))else none else if (f=5:Bool) then if (t39.toNat=t39.toNat:Bool) then if (0<(b.length:Int):Bool) then if (t39.toNat=t39.toNat:Bool) then if dU 0 c b.length then if (t39.toNat=t39.toNat:Bool) then some (aM .i64 c 1)>>=λg=>if dU g (b.length:Int) b.length then if((c.toNat+((b.length:Int).toNat-g.toNat)<=b.length:Bool)&&(g.toNat+((b.length:Int).toNat-g.toNat)<=b.length:Bool)) then if (t39.toNat=t39.toNat:Bool) then hB (d,aM .i64 i 1,a.set t39.toNat (⟨(a.getD t39.toNat br).Kind,(a.getD t39.toNat br).A,(a.getD t39.toNat br).B,(a.getD t39.toNat br).C,b.take c.toNat++(b.drop g.toNat).take ((b.length:Int).toNat-g.toNat)⟩:dr))else none else none else none else none else none else none else hB (d,aM .i64 i 1,a.set t39.toNat (⟨(a.getD t39.toNat br).Kind,(a.getD t39.toNat br).A,(a.getD t39.toNat br).B,(a.getD t39.toNat br).C,b⟩:dr))else none else if (f=6:Bool) then if (t39.toNat=t39.toNat:Bool) then if (0<(b.length:Int):Bool) then if (t39.toNat=t39.toNat:Bool) then if aH c b.length then if (c.toNat<b.length:Bool) then hB (d,aM .i64 i 1,a.set t39.toNat (⟨(a.getD t39.toNat br).Kind,(a.getD t39.toNat br).A,(a.getD t39.toNat br).B,(a.getD t39.toNat br).C,b.set c.toNat (⟨(b.getD c.toNat iV).af,(b.getD c.toNat iV).au,e.B⟩:lI)⟩:dr))else none else none else none else hB (d,aM .i64 i 1,a.set t39.toNat (⟨(a.getD t39.toNat br).Kind,(a.getD t39.toNat br).A,(a.getD t39.toNat br).B,(a.getD t39.toNat br).C,b⟩:dr))else none else if (t39.toNat=t39.toNat:Bool) then if (0<(b.length:Int):Bool) then if (t39.toNat=t39.toNat:Bool) then if (t39.toNat=t39.toNat:Bool) then if aH c b.length then if (c.toNat<b.length:Bool) then if aH c b.length then if (c.toNat<b.length:Bool) then hB (d,aM .i64 i 1,a.set t39.toNat (⟨(a.getD t39.toNat br).Kind,(a.getD t39.toNat br).A,(a.getD t39.toNat br).B,(a.getD t39.toNat br).C,b.set c.toNat (⟨(b.getD c.toNat iV).af,aM .u8 (b.getD c.toNat iV).au e.B,(b.getD c.toNat iV).gZ⟩:lI)⟩:dr))else none else none else none else none else none else none else hB (d,aM .i64 i 1,a.set t39.toNat (⟨(a.getD t39.toNat br).Kind,(a.getD t39.toNat br).A,(a.getD t39.toNat br).B,(a.getD t39.toNat br).C,b⟩:dr))else none
 if (0<(b.length:Int):Bool) then if (t39.toNat=t39.toNat:Bool) then some (b.length:Int)>>=λt63=>if !(t63=0:Bool) then some (b' (bV .i64 e.A) t63)>>=λt64=>n t64 else none else none else n 0 else none else none else none else none else none else none else none else some a
  partial_fixpoint
theorem TU:cS 33 0 [0] Qu hB:= .rx hB.partial_correctness
def BW:ek×List kE->Option ek
 |(d,l)=>
 if room 32 ([]++d.ed).length then hB (l,0,[]++d.ed)>>=λo=>some (⟨o⟩:ek)else none
theorem Vb:bb aeX BW:= .bm .n (.k TU .n)
def rj:Int×Int×I->Option (Int×I)
 |(b,i,a)=>
 if(bif (i<(a.Rest.length:Int):Bool)then (0<=b:Bool)else false) then if aH i a.Rest.length then rj (dh .i64 b ((a.Rest.getD i.toNat bX).Data.length:Int),aM .i64 i 1,I.eta a)else none else some (b,I.eta a)
  partial_fixpoint
theorem Vc:cS 78 0 [0] QI rj:= .rx rj.partial_correctness
mutual
def nW:I×Int->Option Int
 |(v,n)=>
 rj (dh .i64 n (aM .i64 (aM .i64 10 (v.bl.length:Int)) (v.Rest.length:Int)),0,I.eta v)>>=λo=>sk (o.1,0,I.eta o.2)>>=λt=>sm (t.1,0,I.eta t.2)>>=λu=>some u
  partial_fixpoint
def sk:Int×Int×I->Option (Int×I)
 |(p,f,a)=>
 if(bif (f<(a.av.length:Int):Bool)then (0<=p:Bool)else false) then if aH f a.av.length then nW (I.eta (a.av.getD f.toNat ar),p)>>=λr=>sk (r,aM .i64 f 1,I.eta a)else none else some (p,I.eta a)
  partial_fixpoint
def sm:Int×Int×I->Option Int
 |(q,j,e)=>
 if(bif (j<(e.ai.length:Int):Bool)then (0<=q:Bool)else false) then if aH j e.ai.length then nW (I.eta (e.ai.getD j.toNat ar),q)>>=λw=>sm (w,aM .i64 j 1,I.eta e)else none else some q
  partial_fixpoint
end
theorem UO:eu xi nW/\eN 78 0 [2] xk sm/\eN 78 0 [1] xj sk:=nW.mutual_partial_correctness (ej xi) (eM 78 0 [2] xk) (eM 78 0 [1] xj)
 (λ_ _ h1 a _ _ h=>eC h .n (.k Vc (.k (eV xj a) (.k (eV xk h1) .n))))
 (λ_ _ h0 h1 _ _ h=>eU xk h1 h (.k (cq xi h0) .n))
 (λ_ _ h0 a _ _ h=>eU xj a h (.k (cq xi h0) .n))
theorem Vw:bb xi nW:=cq _ UO.1
def vu(v:I):Option Bool:=
 nW (I.eta v,3000)>>=λr=>some (decide (0<=r))
theorem Sy:bb ae0 vu:= .bm (.k Vw .n)
def x7(c:mz):Option (aQ×aQ×Int×I×Bool):=
 pR c.D>>=λr=>BW (c.D.S,c.L)>>=λd=>qM d>>=λa=>some (bif bif (!r.2.2.2.2)then true else(!a.2)then true else decide (4<(c.L.length:Int)))>>=λt44=>(if !t44 then vu (I.eta r.2.2.1)else some false)>>=λb=>if(bif t44 then true else(!b)) then some ((⟨[]⟩:aQ),(⟨[]⟩:aQ),0,(⟨0,false,0,[],0,[],[],[]⟩:I),false)else some (r.1,a.1,r.2.1,I.eta r.2.2.1,true)
theorem WK:bb aes x7:= .bm (.k Sa (.k Vb (.k R9 (.k Sy .n))))
def vp:Int×aj->Option aj
 |(a,b)=>
 if (0<a:Bool) then some (strOf [bV .u8 (b' a 256)])>>=λt10=>if (t10.length+b.length<=ez:Bool) then vp (fw .u64 a 256,t10++b)else none else some b
  partial_fixpoint
theorem UP:cS 50 0 [0] Qz vp:= .rx vp.partial_correctness
def x2(n:Int):Option aj:=
 vp (n,[])>>=λo=>some o
theorem Vk:bb ae3 x2:= .bm .n (.k UP .n)
def vq:Int×aq->Option (Int×aq)
 |(a,b)=>
 if (128<=a:Bool) then some [bV .u8 (aM .u64 (b' a 128) 128)]>>=λt11=>if room 1 (b++t11).length then vq (fw .u64 a 128,b++t11)else none else some (a,b)
  partial_fixpoint
theorem UQ:cS 52 0 [0] QA vq:= .rx vq.partial_correctness
def qI(n:Int):Option aj:=
 vq (n,[])>>=λo=>some [bV .u8 o.1]>>=λt18=>if room 1 (o.2++t18).length then some (strOf (o.2++t18))else none
theorem F3:bb ae5 qI:= .bm .n (.k UQ .n)
def rv(p:aj):Option aj:=
 qI (bV .u64 (p.length:Int))>>=λr=>if (r.length+p.length<=ez:Bool) then some (r++p)else none
theorem FZ:bb ae7 rv:= .bm (.k F3 .n)
def pf:Int×I×I->Option ((Bool) ⊕ (I×I))
 |(i,a,b)=>
 if (i<(a.Rest.length:Int):Bool) then if aH i a.Rest.length then some (a.Rest.getD i.toNat bX)>>=λc=>if aH i b.Rest.length then some (b.Rest.getD i.toNat bX)>>=λd=>if !(hK c.af d.af&&(jA c.Data d.Data&&true)) then some (.inl false)else pf (aM .i64 i 1,I.eta a,I.eta b)else none else none else some (.inr (I.eta a,I.eta b))
  partial_fixpoint
theorem Um:cS 49 0 [0] Qy pf:= .rx pf.partial_correctness
mutual
def jH(e:I×I):Option Bool:=
 match e with
 |(a,b)=>
 if(bif bif bif bif bif (!(a.Kind=b.Kind:Bool))then true else(!(fu a.bM b.bM))then true else(!(a.bd=b.bd:Bool))then true else(!(a.bl=b.bl:Bool))then true else(!(a.af=b.af:Bool))then true else(!((a.Rest.length:Int)=(b.Rest.length:Int):Bool))) then some false else pf (0,(⟨a.Kind,a.bM,a.bd,a.bl,a.af,a.av,a.ai,a.Rest⟩:I),(⟨b.Kind,b.bM,b.bd,b.bl,b.af,b.av,b.ai,b.Rest⟩:I))>>=λo=>match o with
 |.inl p=>
 some p
 |.inr c=>
 xD (c.1.av,c.2.av)>>=λr=>(if r then xD (c.1.ai,c.2.ai)else some false)>>=λq=>some (bif r then q else false)
  partial_fixpoint
def xD(e:List I×List I):Option Bool:=
 match e with
 |(a,b)=>
 if !((a.length:Int)=(b.length:Int):Bool) then some false else vi (a,b,0)>>=λo=>match o with
 |.inl p=>
 some p
 |.inr c=>
 some true
  partial_fixpoint
def vi:List I×List I×Int->Option ((Bool) ⊕ (Unit))
 |(f,j,i)=>
 if (i<(f.length:Int):Bool) then if aH i f.length then if aH i j.length then jH (I.eta (f.getD i.toNat ar),I.eta (j.getD i.toNat ar))>>=λr=>if !r then some (.inl false)else vi (f,j,aM .i64 i 1)else none else none else some (.inr ())
  partial_fixpoint
end
theorem TK:eu Bk jH/\eu EK xD/\eN 89 0 [0] xl vi:=jH.mutual_partial_correctness (ej Bk) (ej EK) (eM 89 0 [0] xl)
 (λ_ h1 _ _ h=>eC h (.k (cq EK h1) .n) (.k Um .n))
 (λ_ a _ _ h=>eC h .n (.k (eV xl a) .n))
 (λ_ _ h0 a _ _ h=>eU xl a h (.k (cq Bk h0) .n))
theorem Cl:bb Bk jH:=cq _ TK.1
def xW:Int×Bool×aj->Option aj
 |(id,d,p)=>
 some (bV .u64 (gy .i64 2 id))>>=λt10=>if d then qI (aM .u64 t10 1)>>=λr=>rv p>>=λa=>if (r.length+a.length<=ez:Bool) then some (r++a)else none else qI t10>>=λb=>rv p>>=λc=>if (b.length+c.length<=ez:Bool) then some (b++c)else none
theorem Sz:bb ae8 xW:= .bm (.k F3 (.k FZ .n))
def mn:aj×Int×Int×List ah×I×ah->Option (aj×Int×List ah×I×ah)
 |(c,b,k,d,a,e)=>
 if (k<(a.Rest.length:Int):Bool) then if aH k a.Rest.length then if ((a.Rest.getD k.toNat bX).af=b:Bool) then if aH k a.Rest.length then xW (b,false,(a.Rest.getD k.toNat bX).Data)>>=λf=>if (c.length+f.length<=ez:Bool) then mn (c++f,b,aM .i64 k 1,d,I.eta a,e)else none else none else mn (c,b,aM .i64 k 1,d,I.eta a,e)else none else some (c,b,d,I.eta a,e)
  partial_fixpoint
theorem Un:cS 19 0 [0,2] MA mn:= .rx mn.partial_correctness (.k Sz .n)
mutual
def ja:aQ×Int×I->Option aj
 |(s,t,v)=>
 if aH t s.Types.length then some (s.Types.getD t.toNat aP)>>=λa=>if (a.Kind=1:Bool) then if v.bM then some [1]else some []else if (a.Kind=2:Bool) then vo v.bd>>=λr=>x2 r>>=λX=>some X else if (a.Kind=3:Bool) then some v.bl else if (a.Kind=4:Bool) then x2 (bV .u64 v.af)>>=λan=>some an else if (a.Kind=9:Bool) then if ((v.ai.length:Int)=0:Bool) then some []else if aH 0 v.ai.length then ja (s,a.aG,I.eta (v.ai.getD (0:Int).toNat ar))>>=λN=>if ([1].length+N.length<=ez:Bool) then some ([1]++N)else none else none else if (a.Kind=6:Bool) then if (0<(v.Rest.length:Int):Bool) then qI (bV .u64 v.af)>>=λO=>if aH 0 v.Rest.length then some (v.Rest.getD (0:Int).toNat bX)>>=λS=>if (O.length+S.Data.length<=ez:Bool) then some (O++S.Data)else none else none else hC (a,v.af)>>=λP=>qI (bV .u64 v.af)>>=λQ=>if aH P.1 a.ag.length then if aH 0 v.ai.length then ja (s,(a.ag.getD P.1.toNat aC).au,I.eta (v.ai.getD (0:Int).toNat ar))>>=λR=>if (Q.length+R.length<=ez:Bool) then some (Q++R)else none else none else none else if (a.Kind=7:Bool) then sX ([],0,s.Types,I.eta v,a)>>=λo=>some o else if (a.Kind=8:Bool) then sY ([],0,s.Types,I.eta v,a)>>=λU=>some U else pk ([],1,s.Types,I.eta v,a)>>=λW=>some W else none
  partial_fixpoint
def sX:aj×Int×List ah×I×ah->Option aj
 |(F,i,b,z,H)=>
 if (i<(z.ai.length:Int):Bool) then if aH i z.ai.length then ja ((⟨b⟩:aQ),H.aG,I.eta (z.ai.getD i.toNat ar))>>=λY=>rv Y>>=λJ=>if (F.length+J.length<=ez:Bool) then sX (F++J,aM .i64 i 1,b,I.eta z,H)else none else none else some F
  partial_fixpoint
def sY:aj×Int×List ah×I×ah->Option aj
 |(G,q,D,j,E)=>
 if (q<(j.ai.length:Int):Bool) then if aH q j.av.length then ja ((⟨D⟩:aQ),E.Key,I.eta (j.av.getD q.toNat ar))>>=λZ=>rv Z>>=λK=>if (G.length+K.length<=ez:Bool) then some (G++K)>>=λt144=>if aH q j.ai.length then ja ((⟨D⟩:aQ),E.aG,I.eta (j.ai.getD q.toNat ar))>>=λae=>rv ae>>=λL=>if (t144.length+L.length<=ez:Bool) then sY (t144++L,aM .i64 q 1,D,I.eta j,E)else none else none else none else none else some G
  partial_fixpoint
def pk:aj×Int×List ah×I×ah->Option aj
 |(y,id,A,c,p)=>
 if (id<=1000:Bool) then hC (p,id)>>=λe=>if e.2 then if aH e.1 p.ag.length then some (p.ag.getD e.1.toNat aC)>>=λB=>some (!B.bW)>>=λt175=>if(aH e.1 c.ai.length||(!(!t175))) then (if !t175 then jH (I.eta (c.ai.getD e.1.toNat ar),I.eta B.bw)else some false)>>=λam=>if(bif t175 then true else(!am)) then if aH e.1 c.ai.length then ja ((⟨A⟩:aQ),B.au,I.eta (c.ai.getD e.1.toNat ar))>>=λap=>xW (id,B.cn,ap)>>=λM=>if (y.length+M.length<=ez:Bool) then mn (y++M,id,0,A,I.eta c,p)>>=λu=>pk (u.1,aM .i64 u.2.1 1,u.2.2.1,I.eta u.2.2.2.1,u.2.2.2.2)else none else none else mn (y,id,0,A,I.eta c,p)>>=λw=>pk (w.1,aM .i64 w.2.1 1,w.2.2.1,I.eta w.2.2.2.1,w.2.2.2.2)else none else none else mn (y,id,0,A,I.eta c,p)>>=λx=>pk (x.1,aM .i64 x.2.1 1,x.2.2.1,I.eta x.2.2.2.1,x.2.2.2.2)else some y
  partial_fixpoint
end
theorem TF:eu sh ja/\eN 19 0 [2] xd pk/\eN 19 0 [1] xc sY/\eN 19 0 [0] xa sX:=ja.mutual_partial_correctness (ej sh) (eM 19 0 [2] xd) (eM 19 0 [1] xc) (eM 19 0 [0] xa)
 (λ_ _ _ _ h0 h1 a b _ _ h=>eC h (.k Su (.k Vk (.k (cq sh h0) (.k F3 (.k rh .n))))) (.k (eV xa b) (.k (eV xc a) (.k (eV xd h1) .n))))
 (λ_ _ h0 h1 _ _ h=>eU xd h1 h (.k rh (.k Cl (.k (cq sh h0) (.k Sz .n)))) (.k Un .n))
 (λ_ _ h0 a _ _ h=>eU xc a h (.k (cq sh h0) (.k FZ .n)))
 (λ_ _ h0 b _ _ h=>eU xa b h (.k (cq sh h0) (.k FZ .n)))
theorem Sr:bb sh ja:=cq _ TF.1
def x8(c:nn):Option (dv×dv×aj×Bool):=
 x7 c.C>>=λr=>if !r.2.2.2.2 then some ((⟨(⟨[]⟩:aQ),0⟩:dv),(⟨(⟨[]⟩:aQ),0⟩:dv),[],false)else if c.wU then pR c.C.D>>=λa=>vu (I.eta a.2.2.2.1)>>=λb=>if !b then some ((⟨(⟨[]⟩:aQ),0⟩:dv),(⟨(⟨[]⟩:aQ),0⟩:dv),[],false)else ja (r.1,r.2.2.1,I.eta a.2.2.2.1)>>=λd=>some ((⟨r.1,r.2.2.1⟩:dv),(⟨r.2.1,r.2.2.1⟩:dv),d,true)else vu (I.eta r.2.2.2.1)>>=λe=>if !e then some ((⟨(⟨[]⟩:aQ),0⟩:dv),(⟨(⟨[]⟩:aQ),0⟩:dv),[],false)else ja (r.1,r.2.2.1,I.eta r.2.2.2.1)>>=λf=>some ((⟨r.1,r.2.2.1⟩:dv),(⟨r.2.1,r.2.2.1⟩:dv),f,true)
theorem WL:bb A4 x8:= .bm (.k WK (.k Sa (.k Sy (.k Sr .n))))
def pd:List c6×List c6×Int×Int->Option ((Bool) ⊕ (Unit))
 |(a,b,c,t13)=>
 if (t13<c:Bool) then if aH t13 a.length then some (a.getD t13.toNat dN)>>=λd=>if aH t13 b.length then some (b.getD t13.toNat dN)>>=λe=>if !(hK d.af e.af&&(jA d.Name e.Name&&true)) then some (.inl false)else pd (a,b,c,aM .i64 t13 1)else none else none else some (.inr ())
  partial_fixpoint
theorem Ud:cS 239 0 [0] Nx pd:= .rx pd.partial_correctness
def Ck(c:List c6×List c6):Option Bool:=
 match c with
 |(s1,a)=>
 if !((s1.length:Int)=(a.length:Int):Bool) then some false else pd (s1,a,(s1.length:Int),0)>>=λo=>match o with
 |.inl b=>
 some b
 |.inr d=>
 some true
theorem Uf:bb Qg Ck:= .bm .n (.k Ud .n)
def pe:List bY×List bY×Int×Int->Option ((Bool) ⊕ (Unit))
 |(a,b,c,t13)=>
 if (t13<c:Bool) then if aH t13 a.length then some (a.getD t13.toNat bX)>>=λd=>if aH t13 b.length then some (b.getD t13.toNat bX)>>=λe=>if !(hK d.af e.af&&(jA d.Data e.Data&&true)) then some (.inl false)else pe (a,b,c,aM .i64 t13 1)else none else none else some (.inr ())
  partial_fixpoint
theorem Ug:cS 103 0 [0] Ny pe:= .rx pe.partial_correctness
def xG(c:List bY×List bY):Option Bool:=
 match c with
 |(s1,a)=>
 if !((s1.length:Int)=(a.length:Int):Bool) then some false else pe (s1,a,(s1.length:Int),0)>>=λo=>match o with
 |.inl b=>
 some b
 |.inr d=>
 some true
theorem RL:bb Pn xG:= .bm .n (.k Ug .n)
mutual
def lM:I×I->Option Bool
 |(a,b)=>
 some (bif bif bif bif decide (a.Kind=b.Kind)then fu a.bM b.bM else false then decide (a.bd=b.bd)else false then decide (a.bl=b.bl)else false then decide (a.af=b.af)else false)>>=λt37=>(if t37 then xG (a.Rest,b.Rest)else some false)>>=λr=>some (bif t37 then r else false)>>=λt44=>(if t44 then xE (a.av,b.av)else some false)>>=λq=>some (bif t44 then q else false)>>=λt51=>(if t51 then xE (a.ai,b.ai)else some false)>>=λt=>some (bif t51 then t else false)
  partial_fixpoint
def xE(c:List I×List I):Option Bool:=
 match c with
 |(s1,f)=>
 if !((s1.length:Int)=(f.length:Int):Bool) then some false else uQ (f,s1,(s1.length:Int),0)>>=λo=>match o with
 |.inl p=>
 some p
 |.inr u=>
 some true
  partial_fixpoint
def uQ:List I×List I×Int×Int->Option ((Bool) ⊕ (Unit))
 |(e,t15,j,t17)=>
 if (t17<j:Bool) then if aH t17 t15.length then if aH t17 e.length then lM (I.eta (t15.getD t17.toNat ar),I.eta (e.getD t17.toNat ar))>>=λr=>if !r then some (.inl false)else uQ (e,t15,j,aM .i64 t17 1)else none else none else some (.inr ())
  partial_fixpoint
end
theorem Wn:eu xe lM/\eu DW xE/\eN 104 0 [0] y4 uQ:=lM.mutual_partial_correctness (ej xe) (ej DW) (eM 104 0 [0] y4)
 (λ_ h1 _ _ h=>eC h (.k RL (.k (cq DW h1) .n)))
 (λ_ a _ _ h=>eC h .n (.k (eV y4 a) .n))
 (λ_ _ h0 a _ _ h=>eU y4 a h (.k (cq xe h0) .n))
theorem Ti:bb xe lM:=cq _ Wn.1
def x9:aU×aU->Option Bool
 |(a,y)=>
 some (bif bif bif bif decide (a.af=y.af)then decide (a.Name=y.Name)else false then decide (a.au=y.au)else false then fu a.cn y.cn else false then fu a.bW y.bW else false)>>=λt37=>(if t37 then lM ((⟨a.bw.Kind,a.bw.bM,a.bw.bd,a.bw.bl,a.bw.af,a.bw.av,a.bw.ai,a.bw.Rest⟩:I),I.eta y.bw)else some false)>>=λr=>some (bif t37 then r else false)
theorem WM:bb Qj x9:= .bm (.k Ti .n)
def o':List aU×List aU×Int×Int->Option ((Bool) ⊕ (Unit))
 |(c,t15,d,t17)=>
 if (t17<d:Bool) then if aH t17 t15.length then some (t15.getD t17.toNat aC)>>=λa=>if aH t17 c.length then some (c.getD t17.toNat aC)>>=λb=>x9 ((⟨a.af,a.Name,a.au,a.cn,a.bW,I.eta a.bw⟩:aU),(⟨b.af,b.Name,b.au,b.cn,b.bW,I.eta b.bw⟩:aU))>>=λr=>if !r then some (.inl false)else o' (c,t15,d,aM .i64 t17 1)else none else none else some (.inr ())
  partial_fixpoint
theorem Ty:cS 240 0 [0] Nz o':= .rx o'.partial_correctness (.k WM .n)
def Ci(c:List aU×List aU):Option Bool:=
 match c with
 |(s1,a)=>
 if !((s1.length:Int)=(a.length:Int):Bool) then some false else o' (a,s1,(s1.length:Int),0)>>=λo=>match o with
 |.inl b=>
 some b
 |.inr d=>
 some true
theorem Tz:bb Qi Ci:= .bm .n (.k Ty .n)
def h2:ah×ah->Option Bool
 |(a,b)=>
 some (bif bif bif bif bif bif bif decide (a.Kind=b.Kind)then decide (a.Name=b.Name)else false then decide (a.bB=b.bB)else false then decide (a.bF=b.bF)else false then decide (a.Max=b.Max)else false then decide (a.Key=b.Key)else false then decide (a.aG=b.aG)else false then fu a.Open b.Open else false)>>=λt58=>(if t58 then Ck (a.bg,b.bg)else some false)>>=λr=>some (bif t58 then r else false)>>=λt65=>(if t65 then Ci (a.ag,b.ag)else some false)>>=λc=>some (bif t65 then c else false)
theorem Xz:bb PW h2:= .bm (.k Uf (.k Tz .n))
def yu(c:Int):Option Bool:=
 some (bif bif decide (c=95)then true else bif decide (97<=c)then decide (c<=122)else false then true else bif decide (65<=c)then decide (c<=90)else false)
theorem Sb:bb Qc yu:= .bm
def BR(c:Int):Option Bool:=
 some (bif decide (48<=c)then decide (c<=57)else false)
theorem Wo:bb Qd BR:= .bm
def k8:aj×Int×Int->Option ((Bool) ⊕ (Unit))
 |(a,b,t19)=>
 if (t19<b:Bool) then if aH t19 a.length then yu (fr a t19)>>=λc=>some (!c)>>=λt26=>if(aH t19 a.length||(!t26)) then (if t26 then BR (fr a t19)else some false)>>=λd=>if(bif t26 then(!d)else false) then some (.inl false)else k8 (a,b,aM .i64 t19 1)else none else none else some (.inr ())
  partial_fixpoint
theorem Wq:cS 208 0 [0] NA k8:= .rx k8.partial_correctness (.k Sb (.k Wo .n))
def kJ(s:aj):Option Bool:=
 some (bif decide (s=[])then true else decide (24<(s.length:Int)))>>=λt10=>if(aH 0 s.length||(!(!t10))) then (if !t10 then yu (fr s 0)else some false)>>=λr=>if(bif t10 then true else(!r)) then some false else k8 (s,(s.length:Int),0)>>=λo=>match o with
 |.inl a=>
 some a
 |.inr b=>
 some true else none
theorem S':bb PT kJ:= .bm (.k Sb .n) (.k Wq .n)
def pS:aq×List aj×aq×Int×Int×List aj->Option ((Bool) ⊕ aq)
 |(c,a,t9,e,t11,b)=>
 if (t11<e:Bool) then if aH t11 t9.length then some (t9.getD t11.toNat 0)>>=λd=>some (bif decide (d<1)then true else decide (1000<d))>>=λt21=>some (decide (0<t11))>>=λt24=>some (dh .i64 t11 1)>>=λt29=>if(aH t29 c.length||(!((!t21)&&t24))) then some (bif t21 then true else bif t24 then decide (d<=c.getD t29.toNat 0)else false)>>=λt34=>if(aH t11 a.length||(!(!t34))) then some (bif t34 then true else jf b (a.getD t11.toNat []))>>=λt42=>if(aH t11 a.length||(!(!t42))) then (if !t42 then kJ (a.getD t11.toNat [])else some false)>>=λr=>if(bif t42 then true else(!r)) then some (.inl false)else if aH t11 a.length then pS (c,a,t9,e,aM .i64 t11 1,iT b (a.getD t11.toNat []))else none else none else none else none else none else some (.inr c)
  partial_fixpoint
theorem Wp:cS 237 0 [0] NB pS:= .rx pS.partial_correctness (.k S' .n)
def yN(c:aq×List aj):Option Bool:=
 match c with
 |(l,names)=>
 pS (l,names,l,(l.length:Int),0,[])>>=λo=>match o with
 |.inl a=>
 some a
 |.inr b=>
 some (decide ((b.length:Int)<=16))
theorem SQ:bb Qe yN:= .bm .n (.k Wp .n)
def rp:List c6×List c6×Int×Int×aq×List aj->Option (List c6×aq×List aj)
 |(c,t7,d,t9,a,b)=>
 if (t9<d:Bool) then if aH t9 t7.length then some (t7.getD t9.toNat dN)>>=λe=>some [e.af]>>=λt16=>if room 8 (a++t16).length then some [e.Name]>>=λt21=>if room 16 (b++t21).length then rp (c,t7,d,aM .i64 t9 1,a++t16,b++t21)else none else none else none else some (c,a,b)
  partial_fixpoint
theorem VR:cS 209 0 [0] NC rp:= .rx rp.partial_correctness
def uV(l:List c6):Option Bool:=
 rp (l,l,(l.length:Int),0,[],[])>>=λo=>some (decide (0<(o.1.length:Int)))>>=λt26=>(if t26 then yN (o.2.1,o.2.2)else some false)>>=λr=>some (bif t26 then r else false)
theorem WN:bb PU uV:= .bm (.k SQ .n) (.k VR .n)
def C3(v:I):Option Bool:=
 lM (I.eta v,(⟨0,false,0,[],0,[],[],[]⟩:I))>>=λr=>some r
theorem XA:bb Qf C3:= .bm (.k Ti .n)
def o7:List aU×Int×Int×ah×aq×List aj->Option ((Bool) ⊕ (ah×aq×List aj))
 |(t8,e,t10,b,c,d)=>
 if (t10<e:Bool) then if aH t10 t8.length then some (t8.getD t10.toNat aC)>>=λa=>some [a.af]>>=λt17=>if room 8 (c++t17).length then some [a.Name]>>=λt22=>if room 16 (d++t22).length then some (bif bif decide (b.Kind=6)then bif a.cn then true else a.bW else false then true else bif a.cn then a.bW else false)>>=λt42=>some (!a.bW)>>=λt46=>(if((!t42)&&t46) then C3 (I.eta a.bw)else some false)>>=λf=>if(bif t42 then true else bif t46 then(!f)else false) then some (.inl false)else o7 (t8,e,aM .i64 t10 1,b,c++t17,d++t22)else none else none else none else some (.inr (b,c,d))
  partial_fixpoint
theorem VS:cS 210 0 [0] ND o7:= .rx o7.partial_correctness (.k XA .n)
def sN(t:ah):Option Bool:=
 o7 (t.ag,(t.ag.length:Int),0,t,[],[])>>=λo=>match o with
 |.inl b=>
 some b
 |.inr a=>
 some (bif decide (a.1.Kind=5)then true else decide (0<(a.2.1.length:Int)))>>=λt62=>(if t62 then yN (a.2.1,a.2.2)else some false)>>=λr=>some (bif t62 then r else false)
theorem WO:bb PV sN:= .bm (.k SQ .n) (.k VS .n)
def gw(t:ah):Option Bool:=
 if (t.Kind=1:Bool) then h2 ((⟨0,t.Name,t.bB,t.bF,t.Max,t.bg,t.ag,t.Key,t.aG,t.Open⟩:ah),(⟨0,[],0,0,0,[],[],0,0,false⟩:ah))>>=λr=>some r else if (t.Kind=2:Bool) then some (decide (t.bB<=t.bF))>>=λt17=>(if t17 then h2 ((⟨0,t.Name,0,0,t.Max,t.bg,t.ag,t.Key,t.aG,t.Open⟩:ah),(⟨0,[],0,0,0,[],[],0,0,false⟩:ah))else some false)>>=λj=>some (bif t17 then j else false)else if (t.Kind=3:Bool) then some (bif decide (0<=t.Max)then decide (t.Max<=200)else false)>>=λt29=>(if t29 then h2 ((⟨0,t.Name,t.bB,t.bF,0,t.bg,t.ag,t.Key,t.aG,t.Open⟩:ah),(⟨0,[],0,0,0,[],[],0,0,false⟩:ah))else some false)>>=λv=>some (bif t29 then v else false)else if (t.Kind=4:Bool) then kJ t.Name>>=λe=>(if e then uV t.bg else some false)>>=λA=>some (bif e then A else false)>>=λt40=>(if t40 then h2 ((⟨0,[],t.bB,t.bF,t.Max,[],t.ag,t.Key,t.aG,false⟩:ah),(⟨0,[],0,0,0,[],[],0,0,false⟩:ah))else some false)>>=λB=>some (bif t40 then B else false)else some (decide (t.Kind=5))>>=λt45=>if t45 then if t45 then kJ t.Name>>=λf=>(if f then sN t else some false)>>=λC=>some (bif f then C else false)>>=λt53=>(if t53 then h2 ((⟨0,[],t.bB,t.bF,t.Max,t.bg,[],t.Key,t.aG,bif t.Open then decide (t.Kind=5)else false⟩:ah),(⟨0,[],0,0,0,[],[],0,0,false⟩:ah))else some false)>>=λD=>some (bif t53 then D else false)else some (decide (t.Kind=7))>>=λt65=>if t65 then if t65 then some (bif decide (0<=t.Max)then decide (t.Max<=50)else false)>>=λt74=>if (t.Kind=8:Bool) then (if t74 then h2 ((⟨0,t.Name,t.bB,t.bF,0,t.bg,t.ag,0,0,t.Open⟩:ah),(⟨0,[],0,0,0,[],[],0,0,false⟩:ah))else some false)>>=λE=>some (bif t74 then E else false)else (if t74 then h2 ((⟨0,t.Name,t.bB,t.bF,0,t.bg,t.ag,t.Key,0,t.Open⟩:ah),(⟨0,[],0,0,0,[],[],0,0,false⟩:ah))else some false)>>=λk=>some (bif t74 then k else false)else if (t.Kind=9:Bool) then h2 ((⟨0,t.Name,t.bB,t.bF,t.Max,t.bg,t.ag,t.Key,0,t.Open⟩:ah),(⟨0,[],0,0,0,[],[],0,0,false⟩:ah))>>=λl=>some l else some false else if (t.Kind=8:Bool) then some (bif decide (0<=t.Max)then decide (t.Max<=50)else false)>>=λa=>if (t.Kind=8:Bool) then (if a then h2 ((⟨0,t.Name,t.bB,t.bF,0,t.bg,t.ag,0,0,t.Open⟩:ah),(⟨0,[],0,0,0,[],[],0,0,false⟩:ah))else some false)>>=λm=>some (bif a then m else false)else (if a then h2 ((⟨0,t.Name,t.bB,t.bF,0,t.bg,t.ag,t.Key,0,t.Open⟩:ah),(⟨0,[],0,0,0,[],[],0,0,false⟩:ah))else some false)>>=λn=>some (bif a then n else false)else if (t.Kind=9:Bool) then h2 ((⟨0,t.Name,t.bB,t.bF,t.Max,t.bg,t.ag,t.Key,0,t.Open⟩:ah),(⟨0,[],0,0,0,[],[],0,0,false⟩:ah))>>=λo=>some o else some false else if (t.Kind=6:Bool) then kJ t.Name>>=λd=>(if d then sN t else some false)>>=λp=>some (bif d then p else false)>>=λg=>(if g then h2 ((⟨0,[],t.bB,t.bF,t.Max,t.bg,[],t.Key,t.aG,bif t.Open then decide (t.Kind=5)else false⟩:ah),(⟨0,[],0,0,0,[],[],0,0,false⟩:ah))else some false)>>=λq=>some (bif g then q else false)else some (decide (t.Kind=7))>>=λi=>if i then if i then some (bif decide (0<=t.Max)then decide (t.Max<=50)else false)>>=λb=>if (t.Kind=8:Bool) then (if b then h2 ((⟨0,t.Name,t.bB,t.bF,0,t.bg,t.ag,0,0,t.Open⟩:ah),(⟨0,[],0,0,0,[],[],0,0,false⟩:ah))else some false)>>=λs=>some (bif b then s else false)
 else (if b then h2 ((⟨0,t.Name,t.bB,t.bF,0,t.bg,t.ag,t.Key,0,t.Open⟩:ah),(⟨0,[],0,0,0,[],[],0,0,false⟩:ah))else some false)>>=λu=>some (bif b then u else false)else if (t.Kind=9:Bool) then h2 ((⟨0,t.Name,t.bB,t.bF,t.Max,t.bg,t.ag,t.Key,0,t.Open⟩:ah),(⟨0,[],0,0,0,[],[],0,0,false⟩:ah))>>=λw=>some w else some false else if (t.Kind=8:Bool) then some (bif decide (0<=t.Max)then decide (t.Max<=50)else false)>>=λc=>if (t.Kind=8:Bool) then (if c then h2 ((⟨0,t.Name,t.bB,t.bF,0,t.bg,t.ag,0,0,t.Open⟩:ah),(⟨0,[],0,0,0,[],[],0,0,false⟩:ah))else some false)>>=λx=>some (bif c then x else false)else (if c then h2 ((⟨0,t.Name,t.bB,t.bF,0,t.bg,t.ag,t.Key,0,t.Open⟩:ah),(⟨0,[],0,0,0,[],[],0,0,false⟩:ah))else some false)>>=λy=>some (bif c then y else false)else if (t.Kind=9:Bool) then h2 ((⟨0,t.Name,t.bB,t.bF,t.Max,t.bg,t.ag,t.Key,0,t.Open⟩:ah),(⟨0,[],0,0,0,[],[],0,0,false⟩:ah))>>=λz=>some z else some false
theorem WZ:bb Pz gw:= .bm (.k Xz (.k S' (.k WN (.k WO .n))))
def qN:List aU×Int×Int×ah×aq->Option (ah×aq)
 |(t7,c,t9,b,a)=>
 if (t9<c:Bool) then if aH t9 t7.length then some [(t7.getD t9.toNat aC).au]>>=λt16=>if room 8 (a++t16).length then qN (t7,c,aM .i64 t9 1,b,a++t16)else none else none else some (b,a)
  partial_fixpoint
theorem Wb:cS 170 0 [0] NF qN:= .rx qN.partial_correctness
def CC(t:ah):Option aq:=
 qN (t.ag,(t.ag.length:Int),0,t,[])>>=λo=>if (o.1.Kind=8:Bool) then some [o.1.Key]>>=λt25=>if room 8 (o.2++t25).length then some (o.2++t25)>>=λl=>if (7<=o.1.Kind:Bool) then some [o.1.aG]>>=λt33=>if room 8 (l++t33).length then some (l++t33)else none else some l else none else if (7<=o.1.Kind:Bool) then some [o.1.aG]>>=λa=>if room 8 (o.2++a).length then some (o.2++a)else none else some o.2
theorem W0:bb PA CC:= .bm .n (.k Wb .n)
def o8:List ah×Int×Int×aq×Int×Int×List ah×List aj×Int×aj×Int×Int×Int×List c6×List aU×Int×Int×Bool->Option ((Int) ⊕ (List ah×Int×Int×List ah×List aj×Int×aj×Int×Int×Int×List c6×List aU×Int×Int×Bool))
 |(n,o,p,t38,q,t40,a,b,c,d,e,f,g,i,j,k,l,m)=>
 if (t40<q:Bool) then if aH t40 t38.length then some (t38.getD t40.toNat 0)>>=λr=>if(bif (r<0:Bool)then true else ((a.length:Int)<=r:Bool)) then some (.inl 4)else o8 (n,o,p,t38,q,aM .i64 t40 1,a,b,c,d,e,f,g,i,j,k,l,m)else none else some (.inr (n,o,p,a,b,c,d,e,f,g,i,j,k,l,m))
  partial_fixpoint
theorem VT:cS 139 0 [0,0] L9 o8:= .rx o8.partial_correctness
def qJ(j:List ah×Int×Int×List ah×List aj):Option ((Int) ⊕ (Unit)):=
 match j with
 |(t14,f,t16,b,d)=>
 if (t16<f:Bool) then if aH t16 t14.length then some (t14.getD t16.toNat aP)>>=λa=>gw a>>=λr=>if(bif (!r)then true else bif (!(a.Name=[]:Bool))then jf d a.Name else false) then some (.inl 1)else CC a>>=λe=>o8 (t14,f,t16,e,(e.length:Int),0,b,iT d a.Name,a.Kind,a.Name,a.bB,a.bF,a.Max,a.bg,a.ag,a.Key,a.aG,a.Open)>>=λg=>match g with
 |.inl i=>
 some (.inl i)
 |.inr c=>
 some (decide (c.2.2.2.2.2.1=8))>>=λt56=>if(aH c.2.2.2.2.2.2.2.2.2.2.2.2.1 c.2.2.2.1.length||(!t56)) then some (decide ((c.2.2.2.1.getD c.2.2.2.2.2.2.2.2.2.2.2.2.1.toNat aP).Kind<1))>>=λt65=>if(aH c.2.2.2.2.2.2.2.2.2.2.2.2.1 c.2.2.2.1.length||(!(t56&&(!t65)))) then if(bif t56 then bif t65 then true else (4<(c.2.2.2.1.getD c.2.2.2.2.2.2.2.2.2.2.2.2.1.toNat aP).Kind:Bool)else false) then some (.inl 1)else qJ (c.1,c.2.1,aM .i64 c.2.2.1 1,c.2.2.2.1,c.2.2.2.2.1)else none else none else none else some (.inr ())
  partial_fixpoint
theorem Wr:cS 139 0 [0] NG qJ:= .rx qJ.partial_correctness (.k WZ (.k W0 .n)) (.k VT .n)
def pY(s:aQ):Option Int:=
 if (32<(s.Types.length:Int):Bool) then some 3 else qJ (s.Types,(s.Types.length:Int),0,s.Types,[])>>=λo=>match o with
 |.inl a=>
 some a
 |.inr b=>
 some 0
theorem xI:bb A8 pY:= .bm .n (.k Wr .n)
def uW(r:dv):Option Int:=
 pY r.cN>>=λa=>if !(a=0:Bool) then some a else if(bif (r.au<0:Bool)then true else ((r.cN.Types.length:Int)<=r.au:Bool)) then some 4 else some 0
theorem V4:bb Ex uW:= .bm (.k xI .n)
def my:List dv×Int×Int->Option ((Int) ⊕ (Unit))
 |(t6,a,t8)=>
 if (t8<a:Bool) then if aH t8 t6.length then uW (t6.getD t8.toNat Ia)>>=λr=>if !(r=0:Bool) then some (.inl r)else my (t6,a,aM .i64 t8 1)else none else some (.inr ())
  partial_fixpoint
theorem Vx:cS 65 0 [0] EI my:= .rx my.partial_correctness (.k V4 .n)
def BS(l:List dv):Option Int:=
 my (l,(l.length:Int),0)>>=λo=>match o with
 |.inl a=>
 some a
 |.inr b=>
 some 0
theorem V5:bb EH BS:= .bm .n (.k Vx .n)
def hD:Int×List ah×aq×Int×aq->Option (I×Bool×List ah×Int×aq×aq)
 |(c,b,e,f,a)=>
 tp 8 a>>=λr=>if((r.1.length=a.length:Bool)&&true) then some ((⟨0,false,0,[],0,[],[],[]⟩:I),false,b,c,r.1,r.2)else none
theorem ri:bb PB hD:= .bm (.k nO .n)
def mw:aj×Int×Int×Int->Option Int
 |(a,b,c,t18)=>
 if (t18<c:Bool) then if aH t18 a.length then mw (a,rJ .u64 (mR .u64 b 8) (bV .u64 (fr a t18)),c,aM .i64 t18 1)else none else some b
  partial_fixpoint
theorem VU:cS 172 0 [0] NH mw:= .rx mw.partial_correctness
def sO(s:aj):Option (Int×Int):=
 some (!(decide (s=[])))>>=λt7=>if(aH 0 s.length||(!t7)) then if(bif t7 then (fr s 0=0:Bool)else false) then some (0,2)else if (8<(s.length:Int):Bool) then some (0,7)else mw (s,0,(s.length:Int),0)>>=λo=>some (o,0)else none
theorem Wc:bb PC sO:= .bm .n (.k VU .n)
def Cc(n:Int):Option Int:=
 some (uf .i64 (bV .i64 (ly .u64 n 1)) (dh .i64 0 (bV .i64 (AX .u64 n 1))))
theorem Ws:bb PD Cc:= .bm
def Gc:c6×Int->Option (Bool×Int)
 |(a,b)=>
 some (decide (a.af=b),b)
theorem Wt:bb PS Gc:= .bm
def ni:List c6×Int×Int×Int->Option ((Int×Int) ⊕ (Int))
 |(a,c,t8,b)=>
 if (t8<c:Bool) then if aH t8 a.length then Gc (a.getD t8.toNat dN,b)>>=λr=>if r.1 then some (.inl (t8,r.2))else ni (a,c,aM .i64 t8 1,r.2)else none else some (.inr b)
  partial_fixpoint
theorem T5:cS 205 1 [0] NI ni:= .rx ni.partial_correctness (.k Wt .n)
def Gg(d:List c6×Int):Option (Int×Int):=
 match d with
 |(s,b)=>
 ni (s,(s.length:Int),0,b)>>=λo=>match o with
 |.inl a=>
 some (a.1,a.2)
 |.inr c=>
 some ((-1),c)
theorem Ua:bb PR Gg:= .bm .n (.k T5 .n)
def tD:ah×Int->Option (Int×Bool)
 |(t,id)=>
 Gg (t.bg,id)>>=λr=>some (ix r.1 0,decide (0<=r.1))
theorem Cd:bb Px tD:= .bm (.k Ua .n)
def DB(a:Int):Option Bool:=
 some (!(decide (a=a)))
theorem XU:bb Qp DB:= .bm
def CD:Int×Int->Option Int
 |(a,y)=>
 DB a>>=λr=>DB y>>=λb=>if r then if b then some 0 else some (-1)else if b then some 1 else if (a<y:Bool) then some (-1)else if (y<a:Bool) then some 1 else some 0
theorem W1:bb P' CD:= .bm (.k XU .n)
def CE(a:Int):Option Bool:=
 some (!(decide (a=a)))
theorem W2:bb Qo CE:= .bm
def xM:Int×Int->Option Int
 |(a,y)=>
 CE a>>=λr=>CE y>>=λb=>if r then if b then some 0 else some (-1)else if b then some 1 else if (a<y:Bool) then some (-1)else if (y<a:Bool) then some 1 else some 0
theorem V6:bb P7 xM:= .bm (.k W2 .n)
def CF(a:aj):Option Bool:=
 some (!(decide (a=a)))
theorem W3:bb Qq CF:= .bm
def BT:aj×aj->Option Int
 |(a,y)=>
 CF a>>=λr=>CF y>>=λb=>if r then if b then some 0 else some (-1)else if b then some 1 else if Op.bytesLess a y then some (-1)else if !(Op.bytesLess a y||(a=y:Bool)) then some 1 else some 0
theorem V7:bb Qb BT:= .bm (.k W3 .n)
def qY:Int×aq×Int×Int->Option ((Int) ⊕ (Int))
 |(a,t6,b,t8)=>
 if (t8<b:Bool) then if aH t8 t6.length then some (t6.getD t8.toNat 0)>>=λc=>if !(c=a:Bool) then some (.inl c)else qY (a,t6,b,aM .i64 t8 1)else none else some (.inr a)
  partial_fixpoint
theorem XV:cS 233 0 [0] NM qY:= .rx qY.partial_correctness
def D0(a:aq):Option Int:=
 qY (0,a,(a.length:Int),0)>>=λo=>match o with
 |.inl b=>
 some b
 |.inr c=>
 some c
theorem abA:bb Qa D0:= .bm .n (.k XV .n)
def uX(n:Int):Option Int:=
 some (uf .u64 (mR .u64 (bV .u64 n) 1) (bV .u64 (ly .i64 n 63)))
theorem Sg:bb PJ uX:= .bm
def pT:I×I->Option Int
 |(a,b)=>
 if !(a.Kind=b.Kind:Bool) then some 0 else if (a.Kind=1:Bool) then if fu a.bM b.bM then some 0 else if b.bM then some (-1)else some 1 else if (a.Kind=2:Bool) then uX a.bd>>=λr=>uX b.bd>>=λc=>CD (r,c)>>=λd=>some d else if (a.Kind=3:Bool) then xM ((a.bl.length:Int),(b.bl.length:Int))>>=λe=>BT (a.bl,b.bl)>>=λf=>D0 [e,f]>>=λg=>some g else if (a.Kind=4:Bool) then xM (a.af,b.af)>>=λi=>some i else some 0
theorem Sh:bb PQ pT:= .bm (.k Sg (.k W1 (.k V6 (.k V7 (.k abA .n)))))
def qx:List aj×Int×List ah×aq×Int×ah×Int×Bool×Int×aj×Int×Int×Bool×Int×aj×Int×aq×List I->Option ((Bool×List ah×Int×I×aq×aq) ⊕ (List aj×List ah×aq×Int×ah×Int×Bool×Int×aj×Int×Int×Bool×Int×aj×Int×aq×List I))
 |(t,b,d,e,f,i,j,k,l,m,n,o,p,q,r,s,g,a)=>
 if (b<(a.length:Int):Bool) then some (dh .i64 b 1)>>=λt86=>if aH t86 a.length then if (t86.toNat<a.length:Bool) then if aH b a.length then if (b.toNat<a.length:Bool) then pT (I.eta (a.getD t86.toNat ar),I.eta (a.getD b.toNat ar))>>=λu=>if (0<=u:Bool) then hD (1,d,e,f,g)>>=λc=>some (.inl (c.2.1,c.2.2.1,c.2.2.2.1,I.eta c.1,c.2.2.2.2.1,c.2.2.2.2.2))else qx (t,aM .i64 b 1,d,e,f,i,j,k,l,m,n,o,p,q,r,s,g,a)else none else none else none else none else some (.inr (t,d,e,f,i,j,k,l,m,n,o,p,q,r,s,g,a))
  partial_fixpoint
theorem Uo:cS 177 2 [1] Nk qx:= .rx qx.partial_correctness (.k Sh (.k ri .n))
def tE:aj×Int×Int×Int->Option ((Int×Int×Int) ⊕ (Unit))
 |(a,n,b,t11)=>
 if (t11<b:Bool) then if aH t11 a.length then some (fr a t11)>>=λt16=>if(bif (t11=9:Bool)then (1<t16:Bool)else false) then some (.inl (0,0,7))else if (128<=t16:Bool) then some (gy .i64 7 t11)>>=λt41=>if (0<=t41:Bool) then tE (a,rJ .u64 n (mR .u64 (bV .u64 (AX .u8 t16 127)) t41),b,aM .i64 t11 1)else none else if(bif (t16=0:Bool)then (0<t11:Bool)else false) then some (.inl (0,0,2))else some (gy .i64 7 t11)>>=λt21=>if (0<=t21:Bool) then some (.inl (rJ .u64 n (mR .u64 (bV .u64 t16) t21),aM .i64 t11 1,0))else none else none else some (.inr ())
  partial_fixpoint
theorem V8:cS 254 0 [0] NJ tE:= .rx tE.partial_correctness
def CP(s:aj):Option (Int×Int×Int):=
 tE (s,0,jg 10 (s.length:Int),0)>>=λo=>match o with
 |.inl a=>
 some (a.1,a.2.1,a.2.2)
 |.inr b=>
 some (0,0,10)
theorem Yc:bb Qr CP:= .bm .n (.k V8 .n)
def qS(s:aj):Option (Int×aj×Bool):=
 CP s>>=λr=>if !(r.2.2=0:Bool) then some (0,[],false)else if dU r.2.1 (s.length:Int) s.length then some (r.1,d' s r.2.1 (s.length:Int),true)else none
theorem GU:bb Qk qS:= .bm (.k Yc .n)
def ze(s:aj):Option (aj×aj×Bool):=
 qS s>>=λr=>if(bif (!r.2.2)then true else (bV .u64 (r.2.1.length:Int)<r.1:Bool)) then some ([],[],false)else if dU 0 r.1 r.2.1.length then if dU r.1 (r.2.1.length:Int) r.2.1.length then some (d' r.2.1 0 r.1,d' r.2.1 r.1 (r.2.1.length:Int),true)else none else none
theorem Tj:bb Ql ze:= .bm (.k GU .n)
def hE:aj×List aj->Option ((Int) ⊕ (List aj))
 |(s,a)=>
 if !(s=[]:Bool) then ze s>>=λr=>if !r.2.2 then some (.inl 12)else some [r.1]>>=λt22=>if room 16 (a++t22).length then hE (r.2.1,a++t22)else none else some (.inr a)
  partial_fixpoint
theorem Wu:cS 213 0 [0] NL hE:= .rx hE.partial_correctness (.k Tj .n)
def la(c:aj):Option (List aj×Int):=
 hE (c,[])>>=λo=>match o with
 |.inl a=>
 some ([],a)
 |.inr b=>
 some (b,0)
theorem Ta:bb PY la:= .bm .n (.k Wu .n)
mutual
def jJ(v:I):Option I:=
 fD 120 v.av>>=λr=>fD 120 v.ai>>=λU=>fD 24 v.Rest>>=λW=>sH ((r.length:Int),0,v.Kind,v.bM,v.bd,v.bl,v.af,0,false,0,[],0,r,U,W)>>=λo=>sI ((o.2.2.2.2.2.2.2.2.2.2.2.1.length:Int),0,o.1,o.2.1,o.2.2.1,o.2.2.2.1,o.2.2.2.2.1,o.2.2.2.2.2.1,o.2.2.2.2.2.2.1,o.2.2.2.2.2.2.2.1,o.2.2.2.2.2.2.2.2.1,o.2.2.2.2.2.2.2.2.2.1,o.2.2.2.2.2.2.2.2.2.2.2.1,o.2.2.2.2.2.2.2.2.2.2.1,o.2.2.2.2.2.2.2.2.2.2.2.2)>>=λa=>some (⟨a.1,a.2.1,a.2.2.1,a.2.2.2.1,a.2.2.2.2.1,a.2.2.2.2.2.2.2.2.2.2.1,a.2.2.2.2.2.2.2.2.2.2.2.1,a.2.2.2.2.2.2.2.2.2.2.2.2⟩:I)
  partial_fixpoint
def sH:Int×Int×Int×Bool×Int×aj×Int×Int×Bool×Int×aj×Int×List I×List I×List bY->Option (Int×Bool×Int×aj×Int×Int×Bool×Int×aj×Int×List I×List I×List bY)
 |(R,t22,j,p,q,t,u,w,x,y,z,A,c,B,D)=>
 if (t22<R:Bool) then if aH t22 c.length then if (t22.toNat<c.length:Bool) then jJ (I.eta (c.getD t22.toNat ar))>>=λX=>if aH t22 c.length then if (t22.toNat<c.length:Bool) then sH (R,aM .i64 t22 1,j,p,q,t,u,w,x,y,z,A,c.set t22.toNat (I.eta X),B,D)else none else none else none else none else some (j,p,q,t,u,w,x,y,z,A,c,B,D)
  partial_fixpoint
def sI:Int×Int×Int×Bool×Int×aj×Int×Int×Bool×Int×aj×Int×List I×List I×List bY->Option (Int×Bool×Int×aj×Int×Int×Bool×Int×aj×Int×List I×List I×List bY)
 |(S,t37,E,F,G,H,J,K,L,M,N,O,e,P,Q)=>
 if (t37<S:Bool) then if aH t37 e.length then if (t37.toNat<e.length:Bool) then jJ (I.eta (e.getD t37.toNat ar))>>=λY=>if aH t37 e.length then if (t37.toNat<e.length:Bool) then sI (S,aM .i64 t37 1,E,F,G,H,J,K,L,M,N,O,e.set t37.toNat (I.eta Y),P,Q)else none else none else none else none else some (E,F,G,H,J,K,L,M,N,O,P,e,Q)
  partial_fixpoint
end
theorem Wv:eu uC jJ/\eN 217 0 [1] zu sI/\eN 217 0 [0] zt sH:=jJ.mutual_partial_correctness (ej uC) (eM 217 0 [1] zu) (eM 217 0 [0] zt)
 (λ_ _ h1 a _ _ h=>eC h (.k nS (.k o2 .n)) (.k (eV zt a) (.k (eV zu h1) .n)))
 (λ_ _ h0 h1 _ _ h=>eU zu h1 h (.k (cq uC h0) .n))
 (λ_ _ h0 a _ _ h=>eU zt a h (.k (cq uC h0) .n))
theorem V9:bb uC jJ:=cq _ Wv.1
def FT:cQ×aU->Option (Bool×aU)
 |(f,b)=>
 some (decide (f.af=b.af),(⟨b.af,b.Name,b.au,b.cn,b.bW,I.eta b.bw⟩:aU))
theorem TV:bb P1 FT:= .bm
def pc:List cQ×Int×Int×aU->Option ((Int×aU) ⊕ (aU))
 |(b,c,t8,a)=>
 if (t8<c:Bool) then if aH t8 b.length then FT (b.getD t8.toNat gk,(⟨a.af,a.Name,a.au,a.cn,a.bW,I.eta a.bw⟩:aU))>>=λr=>if r.1 then some (.inl (t8,(⟨r.2.af,r.2.Name,r.2.au,r.2.cn,r.2.bW,I.eta r.2.bw⟩:aU)))else pc (b,c,aM .i64 t8 1,(⟨r.2.af,r.2.Name,r.2.au,r.2.cn,r.2.bW,I.eta r.2.bw⟩:aU))else none else some (.inr (⟨a.af,a.Name,a.au,a.cn,a.bW,I.eta a.bw⟩:aU))
  partial_fixpoint
theorem T':cS 215 1 [0] Nn pc:= .rx pc.partial_correctness (.k TV .n)
def xF(d:List cQ×aU):Option (Int×aU):=
 match d with
 |(s,b)=>
 pc (s,(s.length:Int),0,(⟨b.af,b.Name,b.au,b.cn,b.bW,I.eta b.bw⟩:aU))>>=λo=>match o with
 |.inl a=>
 some (a.1,(⟨a.2.af,a.2.Name,a.2.au,a.2.cn,a.2.bW,I.eta a.2.bw⟩:aU))
 |.inr c=>
 some ((-1),(⟨c.af,c.Name,c.au,c.cn,c.bW,I.eta c.bw⟩:aU))
theorem Ue:bb P0 xF:= .bm .n (.k T' .n)
def Gd:aU×Int->Option (Bool×Int)
 |(m,b)=>
 some (decide (m.af=b),b)
theorem Ww:bb Pu Gd:= .bm
def pa:List aU×Int×Int×Int->Option ((Int×Int) ⊕ (Int))
 |(b,d,t8,c)=>
 if (t8<d:Bool) then if aH t8 b.length then some (b.getD t8.toNat aC)>>=λa=>Gd ((⟨a.af,a.Name,a.au,a.cn,a.bW,I.eta a.bw⟩:aU),c)>>=λr=>if r.1 then some (.inl (t8,r.2))else pa (b,d,aM .i64 t8 1,r.2)else none else some (.inr c)
  partial_fixpoint
theorem T6:cS 137 1 [0] NK pa:= .rx pa.partial_correctness (.k Ww .n)
def Gh(d:List aU×Int):Option (Int×Int):=
 match d with
 |(s,b)=>
 pa (s,(s.length:Int),0,b)>>=λo=>match o with
 |.inl a=>
 some (a.1,a.2)
 |.inr c=>
 some ((-1),c)
theorem Ub:bb Pt Gh:= .bm .n (.k T6 .n)
def gN:ah×Int->Option (Int×Bool)
 |(t,id)=>
 Gh (t.ag,id)>>=λr=>some (ix r.1 0,decide (0<=r.1))
theorem nq:bb QN gN:= .bm (.k Ub .n)
def pg:List cQ×Int×Int×List ah×aq×Int×ah×Int×Bool×Int×aj×Int×Int×Bool×Int×aj×Int×aq×List I×List bY->Option ((Bool×List ah×Int×I×aq×aq) ⊕ (List ah×aq×Int×Int×Bool×Int×aj×Int×Int×Bool×Int×aj×Int×aq×List I×List bY))
 |(t117,u,t119,d,e,f,i,j,k,l,m,n,o,p,q,r,s,b,t,g)=>
 if (t119<u:Bool) then if aH t119 t117.length then some (t117.getD t119.toNat gk)>>=λc=>gN (i,c.af)>>=λv=>if v.2 then pg (t117,u,aM .i64 t119 1,d,e,f,i,j,k,l,m,n,o,p,q,r,s,b,t,g)else if c.cn then some [c.af]>>=λt140=>if room 8 (b++t140).length then hD (6,d,e,f,b++t140)>>=λa=>some (dh .i64 (a.2.2.2.2.1.length:Int) 1)>>=λt159=>if dU 0 t159 a.2.2.2.2.1.length then if (t159.toNat<=a.2.2.2.2.1.length:Bool) then some (.inl (false,a.2.2.1,a.2.2.2.1,I.eta a.1,a.2.2.2.2.1.take t159.toNat,a.2.2.2.2.2))else none else none else none else some [(⟨c.af,c.Data⟩:bY)]>>=λt171=>if room 24 (g++t171).length then pg (t117,u,aM .i64 t119 1,d,e,f,i,j,k,l,m,n,o,p,q,r,s,b,t,g++t171)else none else none else some (.inr (d,e,f,j,k,l,m,n,o,p,q,r,s,b,t,g))
  partial_fixpoint
theorem TL:cS 178 2 [1] No pg:= .rx pg.partial_correctness (.k nq (.k ri .n))
def fY:Int×aj×List cQ->Option ((Int) ⊕ (List cQ))
 |(last,s,a)=>
 if !(s=[]:Bool) then qS s>>=λr=>if(bif bif (!r.2.2)then true else (fw .u64 r.1 2<=last:Bool)then true else (1000<fw .u64 r.1 2:Bool)) then some (.inl 12)else ze r.2.1>>=λb=>if !b.2.2 then some (.inl 12)else some [(⟨bV .i64 (fw .u64 r.1 2),decide (b' r.1 2=1),b.1⟩:cQ)]>>=λt50=>if room 32 (a++t50).length then fY (fw .u64 r.1 2,b.2.1,a++t50)else none else some (.inr a)
  partial_fixpoint
theorem Vy:cS 214 0 [0] Nl fY:= .rx fY.partial_correctness (.k GU (.k Tj .n))
def lK(c:aj):Option (List cQ×Int):=
 fY (0,c,[])>>=λo=>match o with
 |.inl a=>
 some ([],a)
 |.inr b=>
 some (b,0)
theorem V':bb PZ lK:= .bm .n (.k Vy .n)
def lP(a:aj):Option (Int×aj×Int):=
 qS a>>=λr=>if(bif bif (!r.2.2)then true else (r.1<1:Bool)then true else (1000<r.1:Bool)) then some (0,[],12)else some (bV .i64 r.1,r.2.1,0)
theorem Yd:bb PX lP:= .bm (.k GU .n)
mutual
def yx(y:ah×aj×List ah×aq×Int×aq):Option (I×Bool×List ah×aq×Int×aq):=
 match y with
 |(c,p,b,f,j,e)=>
 la p>>=λr=>if(bif (!(r.2=0:Bool))then true else(!(b' (r.1.length:Int) 2=0:Bool))) then hD (1,b,f,j,e)>>=λx=>some (I.eta x.1,x.2.1,x.2.2.1,x.2.2.2.2.2,x.2.2.2.1,x.2.2.2.2.1)else if (c.Max<fw .i64 (r.1.length:Int) 2:Bool) then hD (3,b,f,j,e)>>=λv=>some (I.eta v.1,v.2.1,v.2.2.1,v.2.2.2.2.2,v.2.2.2.1,v.2.2.2.2.1)else sV (r.1,0,b,f,j,c,0,false,0,[],0,c.Kind,false,0,[],0,e,[])>>=λo=>match o with
 |.inl w=>
 some (I.eta w.2.2.2.2.1,w.1,w.2.1,w.2.2.1,w.2.2.2.1,w.2.2.2.2.2)
 |.inr a=>
 qx (a.1,1,a.2.1,a.2.2.1,a.2.2.2.1,a.2.2.2.2.1,a.2.2.2.2.2.1,a.2.2.2.2.2.2.1,a.2.2.2.2.2.2.2.1,a.2.2.2.2.2.2.2.2.1,a.2.2.2.2.2.2.2.2.2.1,a.2.2.2.2.2.2.2.2.2.2.1,a.2.2.2.2.2.2.2.2.2.2.2.1,a.2.2.2.2.2.2.2.2.2.2.2.2.1,a.2.2.2.2.2.2.2.2.2.2.2.2.2.1,a.2.2.2.2.2.2.2.2.2.2.2.2.2.2.1,a.2.2.2.2.2.2.2.2.2.2.2.2.2.2.2.1,a.2.2.2.2.2.2.2.2.2.2.2.2.2.2.2.2)>>=λbv=>match bv with
 |.inl B=>
 some (I.eta B.2.2.2.1,B.1,B.2.1,B.2.2.2.2.2,B.2.2.1,B.2.2.2.2.1)
 |.inr u=>
 sW (u.1,1,u.2.1,u.2.2.1,u.2.2.2.1,u.2.2.2.2.1,u.2.2.2.2.2.1,u.2.2.2.2.2.2.1,u.2.2.2.2.2.2.2.1,u.2.2.2.2.2.2.2.2.1,u.2.2.2.2.2.2.2.2.2.1,u.2.2.2.2.2.2.2.2.2.2.1,u.2.2.2.2.2.2.2.2.2.2.2.1,u.2.2.2.2.2.2.2.2.2.2.2.2.1,u.2.2.2.2.2.2.2.2.2.2.2.2.2.1,u.2.2.2.2.2.2.2.2.2.2.2.2.2.2.1,u.2.2.2.2.2.2.2.2.2.2.2.2.2.2.2.1,u.2.2.2.2.2.2.2.2.2.2.2.2.2.2.2.2,[])>>=λio=>match io with
 |.inl H=>
 some (I.eta H.2.2.2.2.1,H.1,H.2.1,H.2.2.1,H.2.2.2.1,H.2.2.2.2.2)
 |.inr D=>
 some ((⟨D.2.2.2.2.2.2.2.2.1,D.2.2.2.2.2.2.2.2.2.1,D.2.2.2.2.2.2.2.2.2.2.1,D.2.2.2.2.2.2.2.2.2.2.2.1,D.2.2.2.2.2.2.2.2.2.2.2.2.1,D.2.2.2.2.2.2.2.2.2.2.2.2.2.2.1,D.2.2.2.2.2.2.2.2.2.2.2.2.2.2.2,[]⟩:I),true,D.1,D.2.1,D.2.2.1,D.2.2.2.2.2.2.2.2.2.2.2.2.2.1)
  partial_fixpoint
def B1(y:ah×aj×List ah×aq×Int×aq):Option (I×Bool×List ah×aq×Int×aq):=
 match y with
 |(c,p,b,f,j,e)=>
 la p>>=λr=>if !(r.2=0:Bool) then hD (1,b,f,j,e)>>=λx=>some (I.eta x.1,x.2.1,x.2.2.1,x.2.2.2.2.2,x.2.2.2.1,x.2.2.2.2.1)else if (c.Max<(r.1.length:Int):Bool) then hD (3,b,f,j,e)>>=λv=>some (I.eta v.1,v.2.1,v.2.2.1,v.2.2.2.2.2,v.2.2.2.1,v.2.2.2.2.1)else sZ (r.1,(r.1.length:Int),0,b,f,j,c,0,false,0,[],0,c.Kind,false,0,[],0,e,[])>>=λo=>match o with
 |.inl w=>
 some (I.eta w.2.2.2.2.1,w.1,w.2.1,w.2.2.1,w.2.2.2.1,w.2.2.2.2.2)
 |.inr a=>
 some ((⟨a.2.2.2.2.2.2.2.2.1,a.2.2.2.2.2.2.2.2.2.1,a.2.2.2.2.2.2.2.2.2.2.1,a.2.2.2.2.2.2.2.2.2.2.2.1,a.2.2.2.2.2.2.2.2.2.2.2.2.1,[],a.2.2.2.2.2.2.2.2.2.2.2.2.2.2,[]⟩:I),true,a.1,a.2.1,a.2.2.1,a.2.2.2.2.2.2.2.2.2.2.2.2.2.1)
  partial_fixpoint
def jb:Int×Int×aj×List ah×aq×Int×aq->Option (I×Bool×List ah×aq×Int×aq)
 |(step,t,p,b,f,j,e)=>
 some [step]>>=λt18=>if room 8 (e++t18).length then oP (t,p,b,f,j,e++t18)>>=λr=>some (dh .i64 (r.2.2.2.2.2.length:Int) 1)>>=λt39=>if dU 0 t39 r.2.2.2.2.2.length then if (t39.toNat<=r.2.2.2.2.2.length:Bool) then some (I.eta r.1,r.2.1,r.2.2.1,r.2.2.2.1,r.2.2.2.2.1,r.2.2.2.2.2.take t39.toNat)else none else none else none
  partial_fixpoint
def oP:Int×aj×List ah×aq×Int×aq->Option (I×Bool×List ah×aq×Int×aq)
 |(t,p,b,f,j,e)=>
 if (200<=(e.length:Int):Bool) then hD (8,b,f,j,e)>>=λr=>some (I.eta r.1,r.2.1,r.2.2.1,r.2.2.2.2.2,r.2.2.2.1,r.2.2.2.2.1)else if aH t b.length then some (b.getD t.toNat aP)>>=λc=>if (c.Kind=1:Bool) then some (decide (p=[1]))>>=λt50=>if(bif (!(p=[]:Bool))then(!t50)else false) then hD (1,b,f,j,e)>>=λP=>some (I.eta P.1,P.2.1,P.2.2.1,P.2.2.2.2.2,P.2.2.2.1,P.2.2.2.2.1)else some ((⟨c.Kind,t50,0,[],0,[],[],[]⟩:I),true,b,f,j,e)else if (c.Kind=2:Bool) then sO p>>=λF=>if !(F.2=0:Bool) then hD (1,b,f,j,e)>>=λq=>some (I.eta q.1,q.2.1,q.2.2.1,q.2.2.2.2.2,q.2.2.2.1,q.2.2.2.2.1)else Cc F.1>>=λbQ=>if(bif (bQ<c.bB:Bool)then true else (c.bF<bQ:Bool)) then hD (2,b,f,j,e)>>=λJ=>some (I.eta J.1,J.2.1,J.2.2.1,J.2.2.2.2.2,J.2.2.2.1,J.2.2.2.2.1)else some ((⟨c.Kind,false,bQ,[],0,[],[],[]⟩:I),true,b,f,j,e)else if (c.Kind=3:Bool) then if (c.Max<(p.length:Int):Bool) then hD (3,b,f,j,e)>>=λz=>some (I.eta z.1,z.2.1,z.2.2.1,z.2.2.2.2.2,z.2.2.2.1,z.2.2.2.2.1)else some ((⟨c.Kind,false,0,p,0,[],[],[]⟩:I),true,b,f,j,e)else if (c.Kind=4:Bool) then sO p>>=λay=>if(bif bif (!(ay.2=0:Bool))then true else (ay.1<1:Bool)then true else (1000<ay.1:Bool)) then hD (1,b,f,j,e)>>=λL=>some (I.eta L.1,L.2.1,L.2.2.1,L.2.2.2.2.2,L.2.2.2.1,L.2.2.2.2.1)else some (bV .i64 ay.1)>>=λt130=>tD (c,t130)>>=λi0=>if(bif (!i0.2)then(!c.Open)else false) then hD (4,b,f,j,e)>>=λM=>some (I.eta M.1,M.2.1,M.2.2.1,M.2.2.2.2.2,M.2.2.2.1,M.2.2.2.2.1)else some ((⟨c.Kind,false,0,[],t130,[],[],[]⟩:I),true,b,f,j,e)else if (c.Kind=9:Bool) then if (p=[]:Bool) then some ((⟨c.Kind,false,0,[],0,[],[],[]⟩:I),true,b,f,j,e)else if aH 0 p.length then if !(fr p 0=1:Bool) then hD (1,b,f,j,e)>>=λN=>some (I.eta N.1,N.2.1,N.2.2.1,N.2.2.2.2.2,N.2.2.2.1,N.2.2.2.2.1)else if dU 1 (p.length:Int) p.length then jb (0,c.aG,d' p 1 (p.length:Int),b,f,j,e)>>=λO=>some ((⟨c.Kind,false,0,[],0,[],[I.eta O.1],[]⟩:I),O.2.1,O.2.2.1,O.2.2.2.1,O.2.2.2.2.1,O.2.2.2.2.2)else none else none else if (c.Kind=6:Bool) then BX (c,p,b,f,j,e)>>=λQ=>some (I.eta Q.1,Q.2.1,Q.2.2.1,Q.2.2.2.1,Q.2.2.2.2.1,Q.2.2.2.2.2)else if (c.Kind=7:Bool) then B1 (c,p,b,f,j,e)>>=λR=>some (I.eta R.1,R.2.1,R.2.2.1,R.2.2.2.1,R.2.2.2.2.1,R.2.2.2.2.2)else if (c.Kind=8:Bool) then yx (c,p,b,f,j,e)>>=λS=>some (I.eta S.1,S.2.1,S.2.2.1,S.2.2.2.1,S.2.2.2.2.1,S.2.2.2.2.2)else yz (c,p,b,f,j,e)>>=λU=>some (I.eta U.1,U.2.1,U.2.2.1,U.2.2.2.1,U.2.2.2.2.1,U.2.2.2.2.2)else none
  partial_fixpoint
def yz(y:ah×aj×List ah×aq×Int×aq):Option (I×Bool×List ah×aq×Int×aq):=
 match y with
 |(c,p,b,f,j,e)=>
 lK p>>=λr=>if !(r.2=0:Bool) then hD (1,b,f,j,e)>>=λx=>some (I.eta x.1,x.2.1,x.2.2.1,x.2.2.2.2.2,x.2.2.2.1,x.2.2.2.2.1)else mo (r.1,c.ag,(c.ag.length:Int),0,b,f,j,c,0,false,0,[],0,c.Kind,false,0,[],0,e,[])>>=λo=>match o with
 |.inl w=>
 some (I.eta w.2.2.2.2.1,w.1,w.2.1,w.2.2.1,w.2.2.2.1,w.2.2.2.2.2)
 |.inr a=>
 pg (a.1,(a.1.length:Int),0,a.2.1,a.2.2.1,a.2.2.2.1,a.2.2.2.2.1,a.2.2.2.2.2.1,a.2.2.2.2.2.2.1,a.2.2.2.2.2.2.2.1,a.2.2.2.2.2.2.2.2.1,a.2.2.2.2.2.2.2.2.2.1,a.2.2.2.2.2.2.2.2.2.2.1,a.2.2.2.2.2.2.2.2.2.2.2.1,a.2.2.2.2.2.2.2.2.2.2.2.2.1,a.2.2.2.2.2.2.2.2.2.2.2.2.2.1,a.2.2.2.2.2.2.2.2.2.2.2.2.2.2.1,a.2.2.2.2.2.2.2.2.2.2.2.2.2.2.2.1,a.2.2.2.2.2.2.2.2.2.2.2.2.2.2.2.2,[])>>=λbv=>match bv with
 |.inl B=>
 some (I.eta B.2.2.2.1,B.1,B.2.1,B.2.2.2.2.2,B.2.2.1,B.2.2.2.2.1)
 |.inr u=>
 some ((⟨u.2.2.2.2.2.2.2.2.1,u.2.2.2.2.2.2.2.2.2.1,u.2.2.2.2.2.2.2.2.2.2.1,u.2.2.2.2.2.2.2.2.2.2.2.1,u.2.2.2.2.2.2.2.2.2.2.2.2.1,[],u.2.2.2.2.2.2.2.2.2.2.2.2.2.2.1,u.2.2.2.2.2.2.2.2.2.2.2.2.2.2.2⟩:I),true,u.1,u.2.1,u.2.2.1,u.2.2.2.2.2.2.2.2.2.2.2.2.2.1)
  partial_fixpoint
def BX:ah×aj×List ah×aq×Int×aq->Option (I×Bool×List ah×aq×Int×aq)
 |(c,p,b,f,j,e)=>
 lP p>>=λr=>if !(r.2.2=0:Bool) then hD (1,b,f,j,e)>>=λK=>some (I.eta K.1,K.2.1,K.2.2.1,K.2.2.2.2.2,K.2.2.2.1,K.2.2.2.2.1)else gN (c,r.1)>>=λbI=>if bI.2 then if aH bI.1 c.ag.length then jb (r.1,(c.ag.getD bI.1.toNat aC).au,r.2.1,b,f,j,e)>>=λF=>some ((⟨c.Kind,false,0,[],r.1,[],[I.eta F.1],[]⟩:I),F.2.1,F.2.2.1,F.2.2.2.1,F.2.2.2.2.1,F.2.2.2.2.2)else none else if !c.Open then hD (5,b,f,j,e)>>=λA=>some (I.eta A.1,A.2.1,A.2.2.1,A.2.2.2.2.2,A.2.2.2.1,A.2.2.2.2.1)else some ((⟨c.Kind,false,0,[],r.1,[],[],[(⟨r.1,r.2.1⟩:bY)]⟩:I),true,b,f,j,e)
  partial_fixpoint
def sV:List aj×Int×List ah×aq×Int×ah×Int×Bool×Int×aj×Int×Int×Bool×Int×aj×Int×aq×List I->Option ((Bool×List ah×aq×Int×I×aq) ⊕ (List aj×List ah×aq×Int×ah×Int×Bool×Int×aj×Int×Int×Bool×Int×aj×Int×aq×List I))
 |(ae,i,g5,g6,g7,bn,g8,g9,he,hk,hm,hs,ht,hu,hw,hH,h0,bs)=>
 if (i<(ae.length:Int):Bool) then if aH i ae.length then jb (fw .i64 i 2,bn.Key,ae.getD i.toNat [],g5,g6,g7,h0)>>=λq=>if !q.2.1 then some (.inl (false,q.2.2.1,q.2.2.2.1,q.2.2.2.2.1,I.eta q.1,q.2.2.2.2.2))else some [I.eta q.1]>>=λt73=>if room 120 (bs++t73).length then sV (ae,aM .i64 i 2,q.2.2.1,q.2.2.2.1,q.2.2.2.2.1,bn,g8,g9,he,hk,hm,hs,ht,hu,hw,hH,q.2.2.2.2.2,bs++t73)else none else none else some (.inr (ae,g5,g6,g7,bn,g8,g9,he,hk,hm,hs,ht,hu,hw,hH,h0,bs))
  partial_fixpoint
def sW:List aj×Int×List ah×aq×Int×ah×Int×Bool×Int×aj×Int×Int×Bool×Int×aj×Int×aq×List I×List I->Option ((Bool×List ah×aq×Int×I×aq) ⊕ (List ah×aq×Int×Int×Bool×Int×aj×Int×Int×Bool×Int×aj×Int×aq×List I×List I))
 |(ax,Z,h1,b0,b1,b2,b3,b4,ce,ci,cp,cs,c',ds,dt,eq,es,ex,aB)=>
 if (Z<(ax.length:Int):Bool) then if aH Z ax.length then jb (fw .i64 Z 2,b2.aG,ax.getD Z.toNat [],h1,b0,b1,es)>>=λz=>if !z.2.1 then some (.inl (false,z.2.2.1,z.2.2.2.1,z.2.2.2.2.1,I.eta z.1,z.2.2.2.2.2))else some [I.eta z.1]>>=λt125=>if room 120 (aB++t125).length then sW (ax,aM .i64 Z 2,z.2.2.1,z.2.2.2.1,z.2.2.2.2.1,b2,b3,b4,ce,ci,cp,cs,c',ds,dt,eq,z.2.2.2.2.2,ex,aB++t125)else none else none else some (.inr (h1,b0,b1,b3,b4,ce,ci,cp,cs,c',ds,dt,eq,es,ex,aB))
  partial_fixpoint
def sZ:List aj×Int×Int×List ah×aq×Int×ah×Int×Bool×Int×aj×Int×Int×Bool×Int×aj×Int×aq×List I->Option ((Bool×List ah×aq×Int×I×aq) ⊕ (List ah×aq×Int×Int×Bool×Int×aj×Int×Int×Bool×Int×aj×Int×aq×List I))
 |(t38,ii,t40,fd,ff,fo,fs,gc,gd,ge,gl,gs,gt,g0,g1,g2,g3,g4,aI)=>
 if (t40<ii:Bool) then if aH t40 t38.length then jb (t40,fs.aG,t38.getD t40.toNat [],fd,ff,fo,g4)>>=λq=>if !q.2.1 then some (.inl (false,q.2.2.1,q.2.2.2.1,q.2.2.2.2.1,I.eta q.1,q.2.2.2.2.2))else some [I.eta q.1]>>=λt60=>if room 120 (aI++t60).length then sZ (t38,ii,aM .i64 t40 1,q.2.2.1,q.2.2.2.1,q.2.2.2.2.1,fs,gc,gd,ge,gl,gs,gt,g0,g1,g2,g3,q.2.2.2.2.2,aI++t60)else none else none else some (.inr (fd,ff,fo,gc,gd,ge,gl,gs,gt,g0,g1,g2,g3,g4,aI))
  partial_fixpoint
def mo:List cQ×List aU×Int×Int×List ah×aq×Int×ah×Int×Bool×Int×aj×Int×Int×Bool×Int×aj×Int×aq×List I->Option ((Bool×List ah×aq×Int×I×aq) ⊕ (List cQ×List ah×aq×Int×ah×Int×Bool×Int×aj×Int×Int×Bool×Int×aj×Int×aq×List I))
 |(G,t39,bS,t41,am,an,ap,aZ,a0,a1,a2,a3,a4,a5,a9,ba,be,bi,X,Y)=>
 if (t41<bS:Bool) then if aH t41 t39.length then some (t39.getD t41.toNat aC)>>=λW=>xF (G,(⟨W.af,W.Name,W.au,W.cn,W.bW,I.eta W.bw⟩:aU))>>=λv=>if (0<=v.1:Bool) then if aH v.1 G.length then jb (v.2.af,v.2.au,(G.getD v.1.toNat gk).Data,am,an,ap,X)>>=λE=>if !E.2.1 then some (.inl (false,E.2.2.1,E.2.2.2.1,E.2.2.2.2.1,I.eta E.1,E.2.2.2.2.2))else some [I.eta E.1]>>=λt102=>if room 120 (Y++t102).length then mo (G,t39,bS,aM .i64 t41 1,E.2.2.1,E.2.2.2.1,E.2.2.2.2.1,aZ,a0,a1,a2,a3,a4,a5,a9,ba,be,bi,E.2.2.2.2.2,Y++t102)else none else none else if v.2.bW then jJ (I.eta v.2.bw)>>=λip=>some [I.eta ip]>>=λt113=>if room 120 (Y++t113).length then mo (G,t39,bS,aM .i64 t41 1,am,an,ap,aZ,a0,a1,a2,a3,a4,a5,a9,ba,be,bi,X,Y++t113)else none else some [v.2.af]>>=λt55=>if room 8 (X++t55).length then hD (7,am,an,ap,X++t55)>>=λA=>some (dh .i64 (A.2.2.2.2.1.length:Int) 1)>>=λt74=>if dU 0 t74 A.2.2.2.2.1.length then if (t74.toNat<=A.2.2.2.2.1.length:Bool) then some (.inl (false,A.2.2.1,A.2.2.2.2.2,A.2.2.2.1,I.eta A.1,A.2.2.2.2.1.take t74.toNat))else none else none else none else none else some (.inr (G,am,an,ap,aZ,a0,a1,a2,a3,a4,a5,a9,ba,be,bi,X,Y))
  partial_fixpoint
end
theorem TM:eu Ba yx/\eN 177 2 [2] zs sW/\eu oI jb/\eu w7 oP/\eu Bb yz/\eN 178 2 [0] zv mo/\eu A' B1/\eN 176 2 [0] zq sZ/\eu A9 BX/\eN 177 2 [0] zr sV:=yx.mutual_partial_correctness (ej Ba) (eM 177 2 [2] zs) (ej oI) (ej w7) (ej Bb) (eM 178 2 [0] zv) (ej A') (eM 176 2 [0] zq) (ej A9) (eM 177 2 [0] zr)
 (λ_ _ h1 c _ _ h=>eC h (.k Ta (.k ri .n)) (.k (eV zr c) (.k Uo (.k (eV zs h1) .n))))
 (λ_ _ h1 a _ _ h=>eU zs h1 h (.k (cq oI a) .n))
 (λ_ d _ _ h=>eC h (.k (cq w7 d) .n))
 (λ_ _ _ _ _ h0 a e f g _ _ h=>eC h (.k ri (.k Wc (.k Ws (.k Cd (.k (cq oI a) (.k (cq A9 g) (.k (cq A' f) (.k (cq Ba h0) (.k (cq Bb e) .n))))))))))
 (λ_ ba _ _ h=>eC h (.k V' (.k ri .n)) (.k (eV zv ba) (.k TL .n)))
 (λ_ _ a ba _ _ h=>eU zv ba h (.k Ue (.k (cq oI a) (.k V9 (.k ri .n)))))
 (λ_ b _ _ h=>eC h (.k Ta (.k ri .n)) (.k (eV zq b) .n))
 (λ_ _ a b _ _ h=>eU zq b h (.k (cq oI a) .n))
 (λ_ a _ _ h=>eC h (.k Yd (.k ri (.k nq (.k (cq oI a) .n)))))
 (λ_ _ a c _ _ h=>eU zr c h (.k (cq oI a) .n))
theorem TG:bb w7 oP:=cq _ TM.2.2.2.1
def GD:aQ×Int×aj->Option (I×iW×Int)
 |(s,t,m)=>
 pY s>>=λr=>if !(r=0:Bool) then some ((⟨0,false,0,[],0,[],[],[]⟩:I),(⟨[],0⟩:iW),r)else if(bif (t<0:Bool)then true else ((s.Types.length:Int)<=t:Bool)) then some ((⟨0,false,0,[],0,[],[],[]⟩:I),(⟨[],0⟩:iW),4)else if (4096<(m.length:Int):Bool) then some ((⟨0,false,0,[],0,[],[],[]⟩:I),(⟨[],3⟩:iW),12)else oP (t,m,s.Types,[],0,[])>>=λa=>if !a.2.1 then some ((⟨0,false,0,[],0,[],[],[]⟩:I),(⟨a.2.2.2.1,a.2.2.2.2.1⟩:iW),12)else some (I.eta a.1,(⟨[],0⟩:iW),0)
theorem W4:bb Pm GD:= .bm (.k xI (.k TG .n))
def tF:aQ×Int×aj->Option (I×Int)
 |(s,t,m)=>
 GD (s,t,m)>>=λr=>some (I.eta r.1,r.2.2)
theorem Wa:bb Bm tF:= .bm (.k W4 .n)
def BU:aQ×Int->Option Int
 |(s,t)=>
 pY s>>=λr=>if !(r=0:Bool) then some r else if(bif (t<0:Bool)then true else ((s.Types.length:Int)<=t:Bool)) then some 4 else some 0
theorem Xn:bb Po BU:= .bm (.k xI .n)
def CQ(v:I):Option I:=
 if (v.Kind=1:Bool) then some (⟨v.Kind,v.bM,0,[],0,[],[],[]⟩:I)else if (v.Kind=2:Bool) then some (⟨v.Kind,false,v.bd,[],0,[],[],[]⟩:I)else if (v.Kind=3:Bool) then some (⟨v.Kind,false,0,v.bl,0,[],[],[]⟩:I)else if (v.Kind=4:Bool) then some (⟨v.Kind,false,0,[],v.af,[],[],[]⟩:I)else if (v.Kind=5:Bool) then some (⟨v.Kind,false,0,[],0,[],v.ai,v.Rest⟩:I)else if (v.Kind=6:Bool) then some (⟨v.Kind,false,0,[],v.af,[],v.ai,v.Rest⟩:I)else if (v.Kind=8:Bool) then some (⟨v.Kind,false,0,[],0,v.av,v.ai,[]⟩:I)else some (decide (v.Kind=7))>>=λt57=>if t57 then if t57 then some (⟨v.Kind,false,0,[],0,[],v.ai,[]⟩:I)else some (⟨v.Kind,false,0,[],0,[],[],[]⟩:I)else if (v.Kind=9:Bool) then some (⟨v.Kind,false,0,[],0,[],v.ai,[]⟩:I)else some (⟨v.Kind,false,0,[],0,[],[],[]⟩:I)
theorem Ye:bb P9 CQ:= .bm
def C4(v:I):Option Bool:=
 CQ (I.eta v)>>=λr=>some (bif bif bif bif bif bif fu v.bM r.bM then decide (v.bd=r.bd)else false then decide (v.bl=r.bl)else false then decide (v.af=r.af)else false then decide ((v.av.length:Int)=(r.av.length:Int))else false then decide ((v.ai.length:Int)=(r.ai.length:Int))else false then decide ((v.Rest.length:Int)=(r.Rest.length:Int))else false)
theorem XB:bb PN C4:= .bm (.k Ye .n)
def yO(id:Int):Option Bool:=
 some (bif decide (1<=id)then decide (id<=1000)else false)
theorem SR:bb PO yO:= .bm
def k':Bool×List bY×Int×Int×List ah×I×Int×aj×Int×Int×Int×List c6×List aU×Int×Int×Bool->Option ((Bool) ⊕ (Bool×List ah×Int×Bool×Int×aj×Int×List I×List I×List bY×Int×aj×Int×Int×Int×List c6×List aU×Int×Int×Bool))
 |(o,t111,q,t113,n,a,b,c,d,e,f,g,i,j,k,l)=>
 if (t113<q:Bool) then if aH t113 t111.length then some (t111.getD t113.toNat bX)>>=λm=>gN ((⟨b,c,d,e,f,g,i,j,k,l⟩:ah),m.af)>>=λp=>(if !p.2 then yO m.af else some false)>>=λr=>some (bif p.2 then true else(!r))>>=λt131=>some (decide (0<t113))>>=λt134=>some (dh .i64 t113 1)>>=λt141=>if(aH t141 a.Rest.length||(!((!t131)&&t134))) then if(bif t131 then true else bif t134 then (m.af<=(a.Rest.getD t141.toNat bX).af:Bool)else false) then some (.inl false)else k' (o,t111,q,aM .i64 t113 1,n,I.eta a,b,c,d,e,f,g,i,j,k,l)else none else none else some (.inr (o,n,a.Kind,a.bM,a.bd,a.bl,a.af,a.av,a.ai,a.Rest,b,c,d,e,f,g,i,j,k,l))
  partial_fixpoint
theorem Xo:cS 164 0 [0] Np k':= .rx k'.partial_correctness (.k nq (.k SR .n))
def kI:Bool×Int×List ah×I×Int×aj×Int×Int×Int×List c6×List aU×Int×Int×Bool->Option ((Bool) ⊕ (Bool×List ah×I×Int×aj×Int×Int×Int×List c6×List aU×Int×Int×Bool))
 |(o,i,b,a,c,d,e,f,g,j,k,l,m,n)=>
 if (i<(a.av.length:Int):Bool) then some (dh .i64 i 1)>>=λt291=>if aH t291 a.av.length then if aH i a.av.length then pT (I.eta (a.av.getD t291.toNat ar),I.eta (a.av.getD i.toNat ar))>>=λp=>if (0<=p:Bool) then some (.inl false)else kI (o,aM .i64 i 1,b,I.eta a,c,d,e,f,g,j,k,l,m,n)else none else none else some (.inr (o,b,I.eta a,c,d,e,f,g,j,k,l,m,n))
  partial_fixpoint
theorem Xp:cS 164 0 [2] Nq kI:= .rx kI.partial_correctness (.k Sh .n)
mutual
def Cj:List I×List ah×Int×Bool->Option (Bool×List ah×Int×Bool)
 |(s,b,f,j)=>
 FR (s,b,f,j)>>=λr=>some (decide (0<=r.1),r.2.1,r.2.2.1,r.2.2.2)
  partial_fixpoint
def FR(e:List I×List ah×Int×Bool):Option (Int×List ah×Int×Bool):=
 match e with
 |(s,b,f,j)=>
 qs (s,(s.length:Int),0,b,f,j)>>=λo=>match o with
 |.inl p=>
 some (p.1,p.2.1,p.2.2.1,p.2.2.2)
 |.inr c=>
 some ((-1),c.1,c.2.1,c.2.2)
  partial_fixpoint
def qW:aQ×Int×List I×Bool->Option Bool
 |(s,t,l,plain)=>
 Cj (l,s.Types,t,plain)>>=λr=>some (!r.1)
  partial_fixpoint
def Gn:I×List ah×Int×Bool->Option (Bool×List ah×Int×Bool)
 |(v,b,f,j)=>
 j6 ((⟨b⟩:aQ),f,I.eta v,j)>>=λr=>some ((!r),b,f,j)
  partial_fixpoint
def j6(e:aQ×Int×I×Bool):Option Bool:=
 match e with
 |(s,t,v,plain)=>
 if(bif (t<0:Bool)then true else ((s.Types.length:Int)<=t:Bool)) then some false else if aH t s.Types.length then some (s.Types.getD t.toNat aP)>>=λa=>some (!(decide (v.Kind=a.Kind)))>>=λt39=>(if !t39 then C4 (I.eta v)else some false)>>=λr=>if(bif t39 then true else(!r)) then some false else if (a.Kind=2:Bool) then some (bif decide (a.bB<=v.bd)then decide (v.bd<=a.bF)else false)else if (a.Kind=3:Bool) then some (decide ((v.bl.length:Int)<=a.Max))else if (a.Kind=4:Bool) then tD (a,v.af)>>=λE=>some (bif a.Open then(!plain)else false)>>=λt85=>(if((!E.2)&&t85) then yO v.af else some false)>>=λae=>some (bif E.2 then true else bif t85 then ae else false)else if (a.Kind=5:Bool) then if(bif (!((v.ai.length:Int)=(a.ag.length:Int):Bool))then true else bif plain then (0<(v.Rest.length:Int):Bool)else false) then some false else k' (plain,v.Rest,(v.Rest.length:Int),0,s.Types,I.eta v,a.Kind,a.Name,a.bB,a.bF,a.Max,a.bg,a.ag,a.Key,a.aG,a.Open)>>=λo=>match o with
 |.inl p=>
 some p
 |.inr c=>
 mA (c.1,c.2.2.2.2.2.2.2.2.2.2.2.2.2.2.2.2.1,(c.2.2.2.2.2.2.2.2.2.2.2.2.2.2.2.2.1.length:Int),0,c.2.1,c.2.2.1,c.2.2.2.1,c.2.2.2.2.1,c.2.2.2.2.2.1,c.2.2.2.2.2.2.1,c.2.2.2.2.2.2.2.1,c.2.2.2.2.2.2.2.2.1,c.2.2.2.2.2.2.2.2.2.1)>>=λP=>match P with
 |.inl Q=>
 some Q
 |.inr ap=>
 some true else if (a.Kind=6:Bool) then gN (a,v.af)>>=λw=>if w.2 then some (bif decide ((v.ai.length:Int)=1)then decide ((v.Rest.length:Int)=0)else false)>>=λt188=>if(aH w.1 a.ag.length||(!t188)) then if(aH 0 v.ai.length||(!t188)) then (if t188 then j6 ((⟨s.Types⟩:aQ),(a.ag.getD w.1.toNat aC).au,I.eta (v.ai.getD (0:Int).toNat ar),plain)else some false)>>=λam=>some (bif t188 then am else false)else none else none else some (bif a.Open then(!plain)else false)>>=λt209=>(if t209 then yO v.af else some false)>>=λan=>some (bif bif bif t209 then an else false then decide ((v.ai.length:Int)=0)else false then decide ((v.Rest.length:Int)=1)else false)>>=λt226=>if(aH 0 v.Rest.length||(!t226)) then some (bif t226 then decide ((v.Rest.getD (0:Int).toNat bX).af=v.af)else false)else none else if (a.Kind=7:Bool) then some (decide ((v.ai.length:Int)<=a.Max))>>=λt244=>(if t244 then qW ((⟨s.Types⟩:aQ),a.aG,v.ai,plain)else some false)>>=λU=>some (bif t244 then U else false)else if (a.Kind=8:Bool) then some (bif decide (a.Max<(v.av.length:Int))then true else(!(decide ((v.ai.length:Int)=(v.av.length:Int)))))>>=λt270=>(if !t270 then qW ((⟨s.Types⟩:aQ),a.Key,v.av,plain)else some false)>>=λW=>if(bif t270 then true else(!W)) then some false else kI (plain,1,s.Types,I.eta v,a.Kind,a.Name,a.bB,a.bF,a.Max,a.bg,a.ag,a.Key,a.aG,a.Open)>>=λR=>match R with
 |.inl S=>
 some S
 |.inr q=>
 qW ((⟨q.2.1⟩:aQ),q.2.2.2.2.2.2.2.2.2.2.2.1,q.2.2.1.ai,q.1)>>=λX=>some X else if (a.Kind=9:Bool) then some (decide ((v.ai.length:Int)<=1))>>=λt313=>(if t313 then qW ((⟨s.Types⟩:aQ),a.aG,v.ai,plain)else some false)>>=λY=>some (bif t313 then Y else false)else some true else none
  partial_fixpoint
def qs:List I×Int×Int×List ah×Int×Bool->Option ((Int×List ah×Int×Bool) ⊕ (List ah×Int×Bool))
 |(x,G,t8,B,y,z)=>
 if (t8<G:Bool) then if aH t8 x.length then Gn (I.eta (x.getD t8.toNat ar),B,y,z)>>=λr=>if r.1 then some (.inl (t8,r.2.1,r.2.2.1,r.2.2.2))else qs (x,G,aM .i64 t8 1,r.2.1,r.2.2.1,r.2.2.2)else none else some (.inr (B,y,z))
  partial_fixpoint
def mA:Bool×List aU×Int×Int×List ah×Int×Bool×Int×aj×Int×List I×List I×List bY->Option ((Bool) ⊕ (Unit))
 |(D,t150,F,t152,A,H,J,K,L,M,N,u,O)=>
 if (t152<F:Bool) then if aH t152 t150.length then if aH t152 u.length then j6 ((⟨A⟩:aQ),(t150.getD t152.toNat aC).au,I.eta (u.getD t152.toNat ar),D)>>=λZ=>if !Z then some (.inl false)else mA (D,t150,F,aM .i64 t152 1,A,H,J,K,L,M,N,u,O)else none else none else some (.inr ())
  partial_fixpoint
end
theorem T7:eu DY Cj/\eu DX FR/\eN 207 3 [0] y5 qs/\eu Bi Gn/\eu sg j6/\eu Bh qW/\eN 164 0 [1] zw mA:=Cj.mutual_partial_correctness (ej DY) (ej DX) (eM 207 3 [0] y5) (ej Bi) (ej sg) (ej Bh) (eM 164 0 [1] zw)
 (λ_ h1 _ _ h=>eC h (.k (cq DX h1) .n))
 (λ_ b _ _ h=>eC h .n (.k (eV y5 b) .n))
 (λ_ _ b d _ _ h=>eU y5 b h (.k (cq Bi d) .n))
 (λ_ a _ _ h=>eC h (.k (cq sg a) .n))
 (λ_ _ _ a ba c _ _ h=>eC h (.k XB (.k Cd (.k SR (.k nq (.k (cq sg a) (.k (cq Bh ba) .n)))))) (.k Xo (.k (eV zw c) (.k Xp .n))))
 (λ_ h0 _ _ h=>eC h (.k (cq DY h0) .n))
 (λ_ _ a c _ _ h=>eU zw c h (.k (cq sg a) .n))
theorem SS:bb sg j6:=cq _ T7.2.2.2.2.1
def s8:aQ×Int×I->Option Bool
 |(s,t,v)=>
 j6 ((⟨s.Types⟩:aQ),t,I.eta v,false)>>=λr=>some r
theorem SU:bb Pp s8:= .bm (.k SS .n)
def CX:aQ×Int×I->Option Int
 |(s,t,v)=>
 BU (s,t)>>=λr=>if !(r=0:Bool) then some r else s8 (s,t,I.eta v)>>=λa=>if !a then some 1 else some 0
theorem Xq:bb QM CX:= .bm (.k Xn (.k SU .n))
def mB:ah×I->Option Bool
 |(a,v)=>
 if !(a.Kind=4:Bool) then some false else tD (a,v.af)>>=λr=>some (!r.2)
theorem Tb:bb Pq mB:= .bm (.k Cd .n)
def C5:I×List ah×ah->Option (Bool×List ah×ah)
 |(k,b,a)=>
 if aH a.Key b.length then mB (b.getD a.Key.toNat aP,I.eta k)>>=λr=>some (r,b,a)else none
theorem XC:bb Py C5:= .bm (.k Tb .n)
def pb:List I×Int×Int×List ah×ah->Option ((Int×List ah×ah) ⊕ (List ah×ah))
 |(a,d,t8,b,c)=>
 if (t8<d:Bool) then if aH t8 a.length then C5 (I.eta (a.getD t8.toNat ar),b,c)>>=λr=>if r.1 then some (.inl (t8,r.2.1,r.2.2))else pb (a,d,aM .i64 t8 1,r.2.1,r.2.2)else none else some (.inr (b,c))
  partial_fixpoint
theorem T8:cS 207 2 [0] Ma pb:= .rx pb.partial_correctness (.k XC .n)
def FQ(e:List I×List ah×ah):Option (Int×List ah×ah):=
 match e with
 |(s,b,d)=>
 pb (s,(s.length:Int),0,b,d)>>=λo=>match o with
 |.inl a=>
 some (a.1,a.2.1,a.2.2)
 |.inr c=>
 some ((-1),c.1,c.2)
theorem Uc:bb Nr FQ:= .bm .n (.k T8 .n)
def Gf:List I×List ah×ah->Option (Bool×List ah×ah)
 |(s,b,a)=>
 FQ (s,b,a)>>=λr=>some (decide (0<=r.1),r.2.1,r.2.2)
theorem T9:bb Ns Gf:= .bm (.k Uc .n)
def CR:aQ×ah×I->Option Bool
 |(s,a,v)=>
 Gf (v.av,s.Types,a)>>=λr=>some r.1
theorem Yf:bb Pr CR:= .bm (.k T9 .n)
def nu:Int×Int×ah×I×List iL->Option (List iL)
 |(d,t12,a,c,b)=>
 if (t12<d:Bool) then if (a.Kind=5:Bool) then if aH t12 a.ag.length then if aH t12 a.ag.length then some [(⟨(a.ag.getD t12.toNat aC).au,(a.ag.getD t12.toNat aC).af⟩:iL)]>>=λt40=>if room 16 (b++t40).length then nu (d,aM .i64 t12 1,a,I.eta c,b++t40)else none else none else none else if (a.Kind=6:Bool) then gN (a,c.af)>>=λr=>if aH r.1 a.ag.length then some [(⟨(a.ag.getD r.1.toNat aC).au,c.af⟩:iL)]>>=λt61=>if room 16 (b++t61).length then nu (d,aM .i64 t12 1,a,I.eta c,b++t61)else none else none else some [(⟨a.aG,t12⟩:iL)]>>=λt22=>if room 16 (b++t22).length then nu (d,aM .i64 t12 1,a,I.eta c,b++t22)else none else some b
  partial_fixpoint
theorem Wd:cS 133 0 [0] Nt nu:= .rx nu.partial_correctness (.k nq .n)
def CG:ah×I->Option (List iL)
 |(a,v)=>
 nu ((v.ai.length:Int),0,a,I.eta v,[])>>=λo=>some o
theorem W5:bb Ps CG:= .bm .n (.k Wd .n)
mutual
def lN(p:aQ×Int×I):Option (I×Bool):=
 match p with
 |(s,t,v)=>
 if aH t s.Types.length then some (s.Types.getD t.toNat aP)>>=λe=>mB (e,I.eta v)>>=λr=>(if !r then CR (s,e,I.eta v)else some false)>>=λL=>if(bif bif r then true else L then true else bif (e.Kind=6:Bool)then ((v.ai.length:Int)=0:Bool)else false) then some ((⟨0,false,0,[],0,[],[],[]⟩:I),false)else fD 120 v.av>>=λM=>CG (e,I.eta v)>>=λH=>qO (H,(H.length:Int),0,s.Types,I.eta v,0,false,0,[],0,v.Kind,v.bM,v.bd,v.bl,v.af,M,[])>>=λo=>match o with
 |.inl c=>
 some ((⟨c.2.1,c.2.2.1,c.2.2.2.1,c.2.2.2.2.1,c.2.2.2.2.2,[],[],[]⟩:I),c.1)
 |.inr a=>
 some ((⟨a.2.2.2.2.2.1,a.2.2.2.2.2.2.1,a.2.2.2.2.2.2.2.1,a.2.2.2.2.2.2.2.2.1,a.2.2.2.2.2.2.2.2.2.1,a.2.2.2.2.2.2.2.2.2.2.1,a.2.2.2.2.2.2.2.2.2.2.2,[]⟩:I),true)else none
  partial_fixpoint
def qO:List iL×Int×Int×List ah×I×Int×Bool×Int×aj×Int×Int×Bool×Int×aj×Int×List I×List I->Option ((Bool×Int×Bool×Int×aj×Int) ⊕ (Int×Bool×Int×aj×Int×Int×Bool×Int×aj×Int×List I×List I))
 |(t49,K,t51,q,f,u,w,x,y,z,A,B,D,E,F,G,j)=>
 if (t51<K:Bool) then if aH t51 t49.length then if aH t51 f.ai.length then lN ((⟨q⟩:aQ),(t49.getD t51.toNat HF).t,I.eta (f.ai.getD t51.toNat ar))>>=λJ=>if !J.2 then some (.inl (false,0,false,0,[],0))else some [I.eta J.1]>>=λt74=>if room 120 (j++t74).length then qO (t49,K,aM .i64 t51 1,q,I.eta f,u,w,x,y,z,A,B,D,E,F,G,j++t74)else none else none else none else some (.inr (u,w,x,y,z,A,B,D,E,F,G,j))
  partial_fixpoint
end
theorem Xr:eu w8 lN/\eN 141 0 [0] zx qO:=lN.mutual_partial_correctness (ej w8) (eM 141 0 [0] zx)
 (λ_ h1 _ _ h=>eC h (.k Tb (.k Yf (.k nS (.k W5 .n)))) (.k (eV zx h1) .n))
 (λ_ _ h0 h1 _ _ h=>eU zx h1 h (.k (cq w8 h0) .n))
theorem W6:bb w8 lN:=cq _ Xr.1
def u4:aQ×Int×I->Option (I×Int)
 |(s,t,v)=>
 CX (s,t,I.eta v)>>=λr=>if !(r=0:Bool) then some ((⟨0,false,0,[],0,[],[],[]⟩:I),r)else lN (s,t,I.eta v)>>=λa=>if !a.2 then some ((⟨0,false,0,[],0,[],[],[]⟩:I),12)else some (I.eta a.1,0)
theorem W7:bb A5 u4:= .bm (.k Xq (.k W6 .n))
def xJ:aQ×Int->Option Int
 |(s,t)=>
 pY s>>=λr=>if !(r=0:Bool) then some r else if(bif (t<0:Bool)then true else ((s.Types.length:Int)<=t:Bool)) then some 4 else some 0
theorem We:bb PE xJ:= .bm (.k xI .n)
def GF:aQ×Int×I->Option Bool
 |(s,t,v)=>
 j6 (s,t,I.eta v,true)>>=λr=>some r
theorem W8:bb PF GF:= .bm (.k SS .n)
def CY:aQ×Int×I×aQ×Int->Option Int
 |(w,wt,v,r,rt)=>
 xJ (w,wt)>>=λa=>if !(a=0:Bool) then some a else xJ (r,rt)>>=λb=>if !(b=0:Bool) then some b else GF (w,wt,I.eta v)>>=λc=>if !c then some 1 else some 0
theorem Xs:bb Pv CY:= .bm (.k We (.k W8 .n))
def sC:List ah×List ah×aq×aq->Option (I×Bool×List ah×List ah×aq×aq)
 |(b,c,e,a)=>
 tp 8 a>>=λr=>if((r.1.length=a.length:Bool)&&true) then some ((⟨0,false,0,[],0,[],[],[]⟩:I),false,b,c,r.1,r.2)else none
theorem SA:bb PG sC:= .bm (.k nO .n)
def vl:Int×List ah×List ah×aq×aq->Option (I×Bool×List ah×List ah×aq×aq)
 |(id,b,c,e,a)=>
 tp 8 a>>=λr=>if((r.1.length=a.length:Bool)&&true) then some [id]>>=λt13=>if room 8 (r.2++t13).length then some ((⟨0,false,0,[],0,[],[],[]⟩:I),false,b,c,r.1,r.2++t13)else none else none
theorem Ss:bb P2 vl:= .bm (.k nO .n)
mutual
def j5(v:I):Option I:=
 fD 120 v.av>>=λr=>fD 120 v.ai>>=λU=>fD 24 v.Rest>>=λW=>sD ((r.length:Int),0,v.Kind,v.bM,v.bd,v.bl,v.af,0,false,0,[],0,r,U,W)>>=λo=>sE ((o.2.2.2.2.2.2.2.2.2.2.2.1.length:Int),0,o.1,o.2.1,o.2.2.1,o.2.2.2.1,o.2.2.2.2.1,o.2.2.2.2.2.1,o.2.2.2.2.2.2.1,o.2.2.2.2.2.2.2.1,o.2.2.2.2.2.2.2.2.1,o.2.2.2.2.2.2.2.2.2.1,o.2.2.2.2.2.2.2.2.2.2.2.1,o.2.2.2.2.2.2.2.2.2.2.1,o.2.2.2.2.2.2.2.2.2.2.2.2)>>=λa=>some (⟨a.1,a.2.1,a.2.2.1,a.2.2.2.1,a.2.2.2.2.1,a.2.2.2.2.2.2.2.2.2.2.1,a.2.2.2.2.2.2.2.2.2.2.2.1,a.2.2.2.2.2.2.2.2.2.2.2.2⟩:I)
  partial_fixpoint
def sD:Int×Int×Int×Bool×Int×aj×Int×Int×Bool×Int×aj×Int×List I×List I×List bY->Option (Int×Bool×Int×aj×Int×Int×Bool×Int×aj×Int×List I×List I×List bY)
 |(R,t22,j,p,q,t,u,w,x,y,z,A,c,B,D)=>
 if (t22<R:Bool) then if aH t22 c.length then if (t22.toNat<c.length:Bool) then j5 (I.eta (c.getD t22.toNat ar))>>=λX=>if aH t22 c.length then if (t22.toNat<c.length:Bool) then sD (R,aM .i64 t22 1,j,p,q,t,u,w,x,y,z,A,c.set t22.toNat (I.eta X),B,D)else none else none else none else none else some (j,p,q,t,u,w,x,y,z,A,c,B,D)
  partial_fixpoint
def sE:Int×Int×Int×Bool×Int×aj×Int×Int×Bool×Int×aj×Int×List I×List I×List bY->Option (Int×Bool×Int×aj×Int×Int×Bool×Int×aj×Int×List I×List I×List bY)
 |(S,t37,E,F,G,H,J,K,L,M,N,O,e,P,Q)=>
 if (t37<S:Bool) then if aH t37 e.length then if (t37.toNat<e.length:Bool) then j5 (I.eta (e.getD t37.toNat ar))>>=λY=>if aH t37 e.length then if (t37.toNat<e.length:Bool) then sE (S,aM .i64 t37 1,E,F,G,H,J,K,L,M,N,O,e.set t37.toNat (I.eta Y),P,Q)else none else none else none else none else some (E,F,G,H,J,K,L,M,N,O,P,e,Q)
  partial_fixpoint
end
theorem Vz:eu uD j5/\eN 219 0 [1] zz sE/\eN 219 0 [0] zy sD:=j5.mutual_partial_correctness (ej uD) (eM 219 0 [1] zz) (eM 219 0 [0] zy)
 (λ_ _ h1 a _ _ h=>eC h (.k nS (.k o2 .n)) (.k (eV zy a) (.k (eV zz h1) .n)))
 (λ_ _ h0 h1 _ _ h=>eU zz h1 h (.k (cq uD h0) .n))
 (λ_ _ h0 a _ _ h=>eU zy a h (.k (cq uD h0) .n))
theorem Wf:bb uD j5:=cq _ Vz.1
mutual
def uR(c:List I×List I):Option Bool:=
 match c with
 |(s1,f)=>
 if !((s1.length:Int)=(f.length:Int):Bool) then some false else uP (f,s1,(s1.length:Int),0)>>=λo=>match o with
 |.inl p=>
 some p
 |.inr u=>
 some true
  partial_fixpoint
def pq:I×I->Option Bool
 |(a,b)=>
 some (bif bif bif bif decide (a.Kind=b.Kind)then fu a.bM b.bM else false then decide (a.bd=b.bd)else false then decide (a.bl=b.bl)else false then decide (a.af=b.af)else false)>>=λt37=>(if t37 then xG (a.Rest,b.Rest)else some false)>>=λr=>some (bif t37 then r else false)>>=λt44=>(if t44 then uR (a.av,b.av)else some false)>>=λq=>some (bif t44 then q else false)>>=λt51=>(if t51 then uR (a.ai,b.ai)else some false)>>=λt=>some (bif t51 then t else false)
  partial_fixpoint
def uP:List I×List I×Int×Int->Option ((Bool) ⊕ (Unit))
 |(e,t15,j,t17)=>
 if (t17<j:Bool) then if aH t17 t15.length then if aH t17 e.length then pq (I.eta (t15.getD t17.toNat ar),I.eta (e.getD t17.toNat ar))>>=λr=>if !r then some (.inl false)else uP (e,t15,j,aM .i64 t17 1)else none else none else some (.inr ())
  partial_fixpoint
end
theorem T4:eu DZ uR/\eN 104 0 [0] y6 uP/\eu xh pq:=uR.mutual_partial_correctness (ej DZ) (eM 104 0 [0] y6) (ej xh)
 (λ_ h1 _ _ h=>eC h .n (.k (eV y6 h1) .n))
 (λ_ _ h1 a _ _ h=>eU y6 h1 h (.k (cq xh a) .n))
 (λ_ h0 _ _ h=>eC h (.k RL (.k (cq DZ h0) .n)))
theorem Tk:bb xh pq:=cq _ T4.2.2
def o9:aU×I->Option Bool
 |(m,item)=>
 (if m.bW then pq (I.eta item,I.eta m.bw)else some false)>>=λr=>some (bif m.bW then r else false)
theorem FY:bb P4 o9:= .bm (.k Tk .n)
def GL:aQ×Int->Option Int
 |(s,t)=>
 pY (⟨s.Types⟩:aQ)>>=λr=>if !(r=0:Bool) then some r else if(bif (t<0:Bool)then true else ((s.Types.length:Int)<=t:Bool)) then some 4 else some 0
theorem Wg:bb PH GL:= .bm (.k xI .n)
def tz:aQ×Int×I->Option Int
 |(s,t,v)=>
 GL ((⟨s.Types⟩:aQ),t)>>=λr=>if !(r=0:Bool) then some r else s8 ((⟨s.Types⟩:aQ),t,I.eta v)>>=λa=>if !a then some 1 else some 0
theorem Wh:bb Pw tz:= .bm (.k Wg (.k SU .n))
def tG:Int×Int×aq->Option (Int×Int×aq)
 |(b,a,c)=>
 if (128<=b:Bool) then if aH a 10 then if (a.toNat<c.length:Bool) then tG (ly .u64 b 7,aM .i64 a 1,c.set a.toNat (rJ .u8 (bV .u8 b) 128))else none else none else some (b,a,c)
  partial_fixpoint
theorem Xt:cS 228 0 [0] Nu tG:= .rx tG.partial_correctness
def pw(n:Int):Option aj:=
 tG (n,0,[0,0,0,0,0,0,0,0,0,0])>>=λo=>if aH o.2.1 10 then if (o.2.1.toNat<o.2.2.length:Bool) then some (o.2.2.set o.2.1.toNat (bV .u8 o.1))>>=λa=>some (aM .i64 o.2.1 1)>>=λt21=>if dU 0 t21 10 then if wH (0:Int).toNat t21.toNat a.length then some (strOf ((a.drop (0:Int).toNat).take t21.toNat))else none else none else none else none
theorem y':bb P8 pw:= .bm .n (.k Xt .n)
def qR(p:aj):Option aj:=
 pw (bV .u64 (p.length:Int))>>=λr=>if (r.length+p.length<=ez:Bool) then some (r++p)else none
theorem Tc:bb PL qR:= .bm (.k y' .n)
def sP:aj×aj->Option (Int×aj)
 |(s,b)=>
 some b>>=λr=>if((r.length=b.length:Bool)&&true) then if room 1 (r.length+s.length) then some ((s.length:Int),A2 r s)else none else none
theorem Sm:bb PK sP:= .bm (.k qH .n)
def u1:Int×Bool×aj->Option aj
 |(id,d,p)=>
 some (gy .u64 2 (bV .u64 id))>>=λt10=>if d then pw (aM .u64 t10 1)>>=λr=>qR p>>=λa=>if (r.length+a.length<=ez:Bool) then some (r++a)else none else pw t10>>=λb=>qR p>>=λc=>if (b.length+c.length<=ez:Bool) then some (b++c)else none
theorem GM:bb P6 u1:= .bm (.k y' (.k Tc .n))
def Ce:aU×I->Option Bool
 |(m,v)=>
 (if m.bW then pq (I.eta m.bw,I.eta v)else some false)>>=λr=>some (bif m.bW then r else false)
theorem Wi:bb P5 Ce:= .bm (.k Tk .n)
def q4:List bY×Int×Int×List ah×Int×List gv->Option (List ah×Int×List gv)
 |(t57,e,t59,c,d,a)=>
 if (t59<e:Bool) then if aH t59 t57.length then some (t57.getD t59.toNat bX)>>=λb=>u1 (b.af,false,b.Data)>>=λf=>some [(⟨b.af,f⟩:gv)]>>=λt72=>if room 24 (a++t72).length then q4 (t57,e,aM .i64 t59 1,c,d,a++t72)else none else none else some (c,d,a)
  partial_fixpoint
theorem TN:cS 189 1 [1] OH q4:= .rx q4.partial_correctness (.k GM .n)
def q5:Int×Int×List ah×Int×List gv×aj->Option (List ah×Int×aj)
 |(e,t79,b,c,a,d)=>
 if (t79<e:Bool) then if aH t79 a.length then if (t79.toNat<a.length:Bool) then sP ((a.getD t79.toNat u0).text,d)>>=λf=>q5 (e,aM .i64 t79 1,b,c,a,f.2)else none else none else some (b,c,d)
  partial_fixpoint
theorem TO:cS 189 1 [2] OI q5:= .rx q5.partial_correctness (.k Sm .n)
def yv(b:aj):Option aj:=
 if hK (b.length:Int) (b.length:Int) then some b else none
theorem Sp:bb PM yv:= .bm
def tH:Int×Int×aq->Option (Int×aq)
 |(b,c,a)=>
 if (0<b:Bool) then some (dh .i64 c 1)>>=λt10=>if aH t10 8 then if (t10.toNat<a.length:Bool) then tH (ly .u64 b 8,t10,a.set t10.toNat (bV .u8 b))else none else none else some (c,a)
  partial_fixpoint
theorem Xu:cS 187 0 [0] OG tH:= .rx tH.partial_correctness
def yP(n:Int):Option aj:=
 tH (n,8,[0,0,0,0,0,0,0,0])>>=λo=>if dU o.1 8 8 then if wH o.1.toNat ((8:Int).toNat-o.1.toNat) o.2.length then some (strOf ((o.2.drop o.1.toNat).take ((8:Int).toNat-o.1.toNat)))else none else none
theorem Yg:bb PI yP:= .bm .n (.k Xu .n)
mutual
def j2:Int×I×Int×List ah×Int->Option (aj×List ah×Int)
 |(t,v,e,b,w)=>
 some (ix w e)>>=λt19=>if aH t b.length then some (b.getD t.toNat aP)>>=λa=>if (a.Kind=1:Bool) then if v.bM then some ([1],b,t19)else some ([],b,t19)else if (a.Kind=2:Bool) then uX v.bd>>=λr=>yP r>>=λq=>some (q,b,t19)else if (a.Kind=3:Bool) then some (v.bl,b,t19)else if (a.Kind=4:Bool) then yP (bV .u64 v.af)>>=λN=>some (N,b,t19)else if (a.Kind=5:Bool) then Cr (a,I.eta v,e,b,t19)>>=λu=>some (u.1,u.2.1,u.2.2)else if (a.Kind=6:Bool) then yD (a,I.eta v,e,b,t19)>>=λy=>some (y.1,y.2.1,y.2.2)else if (a.Kind=9:Bool) then if ((v.ai.length:Int)=0:Bool) then some ([],b,t19)else if aH 0 v.ai.length then j2 (a.aG,I.eta (v.ai.getD (0:Int).toNat ar),aM .i64 e 1,b,t19)>>=λD=>if ([1].length+D.1.length<=ez:Bool) then some ([1]++D.1,D.2.1,D.2.2)else none else none else lH (e,v.ai,(v.ai.length:Int),0,b,t19,I.eta v,a,[])>>=λo=>yv o.2.2>>=λU=>some (U,o.1,o.2.1)else none
  partial_fixpoint
def Cr:ah×I×Int×List ah×Int->Option (aj×List ah×Int)
 |(a,v,e,b,w)=>
 q6 (e,a.ag,(a.ag.length:Int),0,b,w,I.eta v,[])>>=λo=>q4 (o.2.2.1.Rest,(o.2.2.1.Rest.length:Int),0,o.1,o.2.1,o.2.2.2)>>=λB=>F1 B.2.2>>=λr=>if((r.length=B.2.2.length:Bool)&&true) then q5 ((r.length:Int),0,B.1,B.2.1,r,[])>>=λL=>yv L.2.2>>=λq=>some (q,L.1,L.2.1)else none
  partial_fixpoint
def yD:ah×I×Int×List ah×Int->Option (aj×List ah×Int)
 |(a,v,e,b,w)=>
 pw (bV .u64 v.af)>>=λr=>gN (a,v.af)>>=λq=>if !q.2 then if aH 0 v.Rest.length then some (v.Rest.getD (0:Int).toNat bX)>>=λc=>if (r.length+c.Data.length<=ez:Bool) then some (r++c.Data,b,w)else none else none else if aH q.1 a.ag.length then if aH 0 v.ai.length then j2 ((a.ag.getD q.1.toNat aC).au,I.eta (v.ai.getD (0:Int).toNat ar),aM .i64 e 1,b,w)>>=λE=>if (r.length+E.1.length<=ez:Bool) then some (r++E.1,E.2.1,E.2.2)else none else none else none
  partial_fixpoint
def lH:Int×List I×Int×Int×List ah×Int×I×ah×aj->Option (List ah×Int×aj)
 |(f,t84,R,t86,H,J,A,x,K)=>
 if (t86<R:Bool) then if aH t86 t84.length then some (t84.getD t86.toNat ar)>>=λS=>if (x.Kind=8:Bool) then if aH t86 A.av.length then j2 (x.Key,I.eta (A.av.getD t86.toNat ar),aM .i64 f 1,H,J)>>=λM=>qR M.1>>=λW=>sP (W,K)>>=λX=>j2 (x.aG,I.eta S,aM .i64 f 1,M.2.1,M.2.2)>>=λO=>qR O.1>>=λY=>sP (Y,X.2)>>=λZ=>lH (f,t84,R,aM .i64 t86 1,O.2.1,O.2.2,I.eta A,x,Z.2)else none else j2 (x.aG,I.eta S,aM .i64 f 1,H,J)>>=λP=>qR P.1>>=λae=>sP (ae,K)>>=λam=>lH (f,t84,R,aM .i64 t86 1,P.2.1,P.2.2,I.eta A,x,am.2)else none else some (H,J,K)
  partial_fixpoint
def q6:Int×List aU×Int×Int×List ah×Int×I×List gv->Option (List ah×Int×I×List gv)
 |(f,t18,Q,t20,F,G,p,z)=>
 if (t20<Q:Bool) then if aH t20 t18.length then some (t18.getD t20.toNat aC)>>=λc=>if aH t20 p.ai.length then Ce ((⟨c.af,c.Name,c.au,c.cn,c.bW,I.eta c.bw⟩:aU),I.eta (p.ai.getD t20.toNat ar))>>=λN=>if !N then if aH t20 p.ai.length then j2 (c.au,I.eta (p.ai.getD t20.toNat ar),aM .i64 f 1,F,G)>>=λu=>u1 (c.af,c.cn,u.1)>>=λy=>some [(⟨c.af,y⟩:gv)]>>=λt53=>if room 24 (z++t53).length then q6 (f,t18,Q,aM .i64 t20 1,u.2.1,u.2.2,I.eta p,z++t53)else none else none else q6 (f,t18,Q,aM .i64 t20 1,F,G,I.eta p,z)else none else none else some (F,G,I.eta p,z)
  partial_fixpoint
end
theorem TP:eu qm j2/\eN 145 1 [0] zB lH/\eu Bg yD/\eu Bf Cr/\eN 189 1 [0] zA q6:=j2.mutual_partial_correctness (ej qm) (eM 145 1 [0] zB) (ej Bg) (ej Bf) (eM 189 1 [0] zA)
 (λ_ _ _ _ h0 h1 b c _ _ h=>eC h (.k Sg (.k Yg (.k (cq Bf c) (.k (cq Bg b) (.k (cq qm h0) (.k Sp .n)))))) (.k (eV zB h1) .n))
 (λ_ _ h0 h1 _ _ h=>eU zB h1 h (.k (cq qm h0) (.k Tc (.k Sm .n))))
 (λ_ h0 _ _ h=>eC h (.k y' (.k nq (.k (cq qm h0) .n))))
 (λ_ a _ _ h=>eC h (.k GK (.k Sp .n)) (.k (eV zA a) (.k TN (.k TO .n))))
 (λ_ _ h0 a _ _ h=>eU zA a h (.k Wi (.k (cq qm h0) (.k GM .n))))
theorem TH:bb qm j2:=cq _ TP.1
end
end Go.Proofs.YtdjagncoefjfeaaGreat
