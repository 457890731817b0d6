/- The functions of the program as functions of Lean, that its code does what they say, and what they answer; part A. -/
import Derived.Test.YtkbmjabicjpmjaaGreatDoorProg
import Derived.KernelRfl
import Derived.Shelf.SlGeneric
import Derived.Shelf.SlLaysF0
import Derived.Shelf.SlSortCmp.WholeK
import Derived.Lib.Small
import Derived.Test.YtkbmjabicjpmjaaGreatDoorCeLD

namespace Go.Proofs.YtkbmjabicjpmjaaGreatDoor
set_option linter.all false
section
open Go Go.Proofs.YtkbmjabicjpmjaaGreatDoor.Shv
open Tryz
set_option maxRecDepth 100000
structure k7 where
 ah:Int
 aC:Int
 gH:Int
structure dv where
 Kind:Int
 A:Int
 B:Int
 C:Int
 cX:List k7
structure ed where
 ei:List dv
structure km where
 Kind:Int
 Node:Int
 A:Int
 B:Int
structure lI where
 S:ed
 L:List km
 T:Int
 U:Int
structure aK where
 bW:Int
 bZ:Int
structure dd where
 ah:Int
 Name:aD
structure cG where
 ah:Int
 Data:aD
structure ab where
 Kind:Int
 cd:Bool
 bB:Int
 bL:aD
 ah:Int
 bb:List ab
 ar:List ab
 Rest:List cG
structure aY where
 ah:Int
 Name:aD
 aC:Int
 cJ:Bool
 bX:Bool
 bC:ab
structure af where
 Kind:Int
 Name:aD
 bH:Int
 bK:Int
 Max:Int
 br:List dd
 ae:List aY
 Key:Int
 aQ:Int
 Open:Bool
structure a7 where
 Types:List af
structure cq where
 e1:a7
 aC:Int
structure fi where
 w:cq
 r:cq
structure hx where
 id:Int
 text:aD
structure iK where
 ah:Int
 cJ:Bool
 Data:aD
structure kt where
 Path:az
 Reason:Int
structure hV where
 y8:Bool
 Relation:List aK
 Message:aD
structure dE where
 Value:ab
 Path:az
 eu:Bool
structure wg where
 Value:ab
 y':kt
 eu:Bool
structure qb where
 S:ed
 T:Int
 C:az
structure tJ where
 D:qb
 L:List km
abbrev EP:Nat:=0
abbrev wh:Nat:=2
abbrev A4:Nat:=3
abbrev Qh:Nat:=4
def ia:k7:=⟨0,0,0⟩
def bw:dv:=⟨0,0,0,0,[]⟩
def ER:ed:=⟨[]⟩
def mG:km:=⟨0,0,0,0⟩
def Uq:lI:=⟨ER,[],0,0⟩
def bG:aK:=⟨0,0⟩
def dB:dd:=⟨0,[]⟩
def ch:cG:=⟨0,[]⟩
def aR:ab:=⟨0,false,0,[],0,[],[],[]⟩
def aG:aY:=⟨0,[],0,false,false,aR⟩
def aL:af:=⟨0,[],0,0,0,[],[],0,0,false⟩
def H8:a7:=⟨[]⟩
def GD:cq:=⟨H8,0⟩
def Wq:fi:=⟨GD,GD⟩
def AV:hx:=⟨0,[]⟩
def Cm:iK:=⟨0,false,[]⟩
def IN:kt:=⟨[],0⟩
def YN:hV:=⟨false,[],[]⟩
def UT:dE:=⟨aR,[],false⟩
def UU:wg:=⟨aR,IN,false⟩
def PK:qb:=⟨ER,0,[]⟩
def Ur:tJ:=⟨PK,[]⟩
def dD:Nat->Type
 |0=>lI
 |1=>ed
 |2=>dv
 |3=>k7
 |4=>km
 |5=>aK
 |6=>af
 |7=>dd
 |8=>aY
 |9=>ab
 |10=>cG
 |11=>a7
 |12=>cq
 |13=>fi
 |14=>hx
 |15=>iK
 |16=>kt
 |17=>hV
 |18=>dE
 |19=>wg
 |20=>tJ
 |21=>qb
 |_=>Bool
def eb:Nat->List aH
 |0=>[.slice (.nm 2),.slice (.nm 4),.int .u8,.int .u8]
 |1=>[.slice (.nm 2)]
 |2=>[.int .u8,.int .u8,.int .u8,.int .u8,.slice (.nm 3)]
 |3=>[.int .u8,.int .u8,.int .u8]
 |4=>[.int .u8,.int .u8,.int .u8,.int .u8]
 |5=>[.int .i64,.int .i64]
 |6=>[.int .i64,.str,.int .i64,.int .i64,.int .i64,.slice (.nm 7),.slice (.nm 8),.int .i64,.int .i64,.bool]
 |7=>[.int .i64,.str]
 |8=>[.int .i64,.str,.int .i64,.bool,.bool,.int .i64,.bool,.int .i64,.str,.int .i64,.slice (.nm 9),.slice (.nm 9),.slice (.nm 10)]
 |9=>[.int .i64,.bool,.int .i64,.str,.int .i64,.slice (.nm 9),.slice (.nm 9),.slice (.nm 10)]
 |10=>[.int .i64,.str]
 |11=>[.slice (.nm 6)]
 |12=>[.slice (.nm 6),.int .i64]
 |13=>[.slice (.nm 6),.int .i64,.slice (.nm 6),.int .i64]
 |14=>[.int .i64,.str]
 |15=>[.int .i64,.bool,.str]
 |16=>[.slice (.int .i64),.int .i64]
 |17=>[.bool,.slice (.nm 5),.str]
 |18=>[.int .i64,.bool,.int .i64,.str,.int .i64,.slice (.nm 9),.slice (.nm 9),.slice (.nm 10),.slice (.int .i64),.bool]
 |19=>[.int .i64,.bool,.int .i64,.str,.int .i64,.slice (.nm 9),.slice (.nm 9),.slice (.nm 10),.slice (.int .i64),.int .i64,.bool]
 |20=>[.slice (.nm 2),.int .u8,.slice (.int .u8),.slice (.nm 4)]
 |21=>[.slice (.nm 2),.int .u8,.slice (.int .u8)]
 |_=>[.bool]
def aeT:(n:Nat)->dD n->List (Cell dD)
 |0,(x:lI)=>[⟨.slice (.nm 2),x.S.ei⟩,⟨.slice (.nm 4),x.L⟩,⟨.int .u8,x.T⟩,⟨.int .u8,x.U⟩]
 |1,(x:ed)=>[⟨.slice (.nm 2),x.ei⟩]
 |2,(x:dv)=>[⟨.int .u8,x.Kind⟩,⟨.int .u8,x.A⟩,⟨.int .u8,x.B⟩,⟨.int .u8,x.C⟩,⟨.slice (.nm 3),x.cX⟩]
 |3,(x:k7)=>[⟨.int .u8,x.ah⟩,⟨.int .u8,x.aC⟩,⟨.int .u8,x.gH⟩]
 |4,(x:km)=>[⟨.int .u8,x.Kind⟩,⟨.int .u8,x.Node⟩,⟨.int .u8,x.A⟩,⟨.int .u8,x.B⟩]
 |5,(x:aK)=>[⟨.int .i64,x.bW⟩,⟨.int .i64,x.bZ⟩]
 |6,(x:af)=>[⟨.int .i64,x.Kind⟩,⟨.str,x.Name⟩,⟨.int .i64,x.bH⟩,⟨.int .i64,x.bK⟩,⟨.int .i64,x.Max⟩,⟨.slice (.nm 7),x.br⟩,⟨.slice (.nm 8),x.ae⟩,⟨.int .i64,x.Key⟩,⟨.int .i64,x.aQ⟩,⟨.bool,x.Open⟩]
 |7,(x:dd)=>[⟨.int .i64,x.ah⟩,⟨.str,x.Name⟩]
 |8,(x:aY)=>[⟨.int .i64,x.ah⟩,⟨.str,x.Name⟩,⟨.int .i64,x.aC⟩,⟨.bool,x.cJ⟩,⟨.bool,x.bX⟩,⟨.int .i64,x.bC.Kind⟩,⟨.bool,x.bC.cd⟩,⟨.int .i64,x.bC.bB⟩,⟨.str,x.bC.bL⟩,⟨.int .i64,x.bC.ah⟩,⟨.slice (.nm 9),x.bC.bb⟩,⟨.slice (.nm 9),x.bC.ar⟩,⟨.slice (.nm 10),x.bC.Rest⟩]
 |9,(x:ab)=>[⟨.int .i64,x.Kind⟩,⟨.bool,x.cd⟩,⟨.int .i64,x.bB⟩,⟨.str,x.bL⟩,⟨.int .i64,x.ah⟩,⟨.slice (.nm 9),x.bb⟩,⟨.slice (.nm 9),x.ar⟩,⟨.slice (.nm 10),x.Rest⟩]
 |10,(x:cG)=>[⟨.int .i64,x.ah⟩,⟨.str,x.Data⟩]
 |11,(x:a7)=>[⟨.slice (.nm 6),x.Types⟩]
 |12,(x:cq)=>[⟨.slice (.nm 6),x.e1.Types⟩,⟨.int .i64,x.aC⟩]
 |13,(x:fi)=>[⟨.slice (.nm 6),x.w.e1.Types⟩,⟨.int .i64,x.w.aC⟩,⟨.slice (.nm 6),x.r.e1.Types⟩,⟨.int .i64,x.r.aC⟩]
 |14,(x:hx)=>[⟨.int .i64,x.id⟩,⟨.str,x.text⟩]
 |15,(x:iK)=>[⟨.int .i64,x.ah⟩,⟨.bool,x.cJ⟩,⟨.str,x.Data⟩]
 |16,(x:kt)=>[⟨.slice (.int .i64),x.Path⟩,⟨.int .i64,x.Reason⟩]
 |17,(x:hV)=>[⟨.bool,x.y8⟩,⟨.slice (.nm 5),x.Relation⟩,⟨.str,x.Message⟩]
 |18,(x:dE)=>[⟨.int .i64,x.Value.Kind⟩,⟨.bool,x.Value.cd⟩,⟨.int .i64,x.Value.bB⟩,⟨.str,x.Value.bL⟩,⟨.int .i64,x.Value.ah⟩,⟨.slice (.nm 9),x.Value.bb⟩,⟨.slice (.nm 9),x.Value.ar⟩,⟨.slice (.nm 10),x.Value.Rest⟩,⟨.slice (.int .i64),x.Path⟩,⟨.bool,x.eu⟩]
 |19,(x:wg)=>[⟨.int .i64,x.Value.Kind⟩,⟨.bool,x.Value.cd⟩,⟨.int .i64,x.Value.bB⟩,⟨.str,x.Value.bL⟩,⟨.int .i64,x.Value.ah⟩,⟨.slice (.nm 9),x.Value.bb⟩,⟨.slice (.nm 9),x.Value.ar⟩,⟨.slice (.nm 10),x.Value.Rest⟩,⟨.slice (.int .i64),x.y'.Path⟩,⟨.int .i64,x.y'.Reason⟩,⟨.bool,x.eu⟩]
 |20,(x:tJ)=>[⟨.slice (.nm 2),x.D.S.ei⟩,⟨.int .u8,x.D.T⟩,⟨.slice (.int .u8),x.D.C⟩,⟨.slice (.nm 4),x.L⟩]
 |21,(x:qb)=>[⟨.slice (.nm 2),x.S.ei⟩,⟨.int .u8,x.T⟩,⟨.slice (.int .u8),x.C⟩]
 |_+22,(x:Bool)=>[⟨.bool,x⟩]
def cT:(n:Nat)->List (Cell dD)->Option (dD n)
 |0,l=>match aJ.dec dD (eb 0) l with
  |some h=>some (⟨(⟨h.1⟩:ed),h.2.1,h.2.2.1,h.2.2.2⟩:lI)
  |none=>none
 |1,l=>match aJ.dec dD (eb 1) l with
  |some h=>some (⟨h⟩:ed)
  |none=>none
 |2,l=>match aJ.dec dD (eb 2) l with
  |some h=>some (⟨h.1,h.2.1,h.2.2.1,h.2.2.2.1,h.2.2.2.2⟩:dv)
  |none=>none
 |3,l=>match aJ.dec dD (eb 3) l with
  |some h=>some (⟨h.1,h.2.1,h.2.2⟩:k7)
  |none=>none
 |4,l=>match aJ.dec dD (eb 4) l with
  |some h=>some (⟨h.1,h.2.1,h.2.2.1,h.2.2.2⟩:km)
  |none=>none
 |5,l=>match aJ.dec dD (eb 5) l with
  |some h=>some (⟨h.1,h.2⟩:aK)
  |none=>none
 |6,l=>match aJ.dec dD (eb 6) l with
  |some h=>some (⟨h.1,h.2.1,h.2.2.1,h.2.2.2.1,h.2.2.2.2.1,h.2.2.2.2.2.1,h.2.2.2.2.2.2.1,h.2.2.2.2.2.2.2.1,h.2.2.2.2.2.2.2.2.1,h.2.2.2.2.2.2.2.2.2⟩:af)
  |none=>none
 |7,l=>match aJ.dec dD (eb 7) l with
  |some h=>some (⟨h.1,h.2⟩:dd)
  |none=>none
 |8,l=>match aJ.dec dD (eb 8) l with
  |some h=>some (⟨h.1,h.2.1,h.2.2.1,h.2.2.2.1,h.2.2.2.2.1,(⟨h.2.2.2.2.2.1,h.2.2.2.2.2.2.1,h.2.2.2.2.2.2.2.1,h.2.2.2.2.2.2.2.2.1,h.2.2.2.2.2.2.2.2.2.1,h.2.2.2.2.2.2.2.2.2.2.1,h.2.2.2.2.2.2.2.2.2.2.2.1,h.2.2.2.2.2.2.2.2.2.2.2.2⟩:ab)⟩:aY)
  |none=>none
 |9,l=>match aJ.dec dD (eb 9) l with
  |some h=>some (⟨h.1,h.2.1,h.2.2.1,h.2.2.2.1,h.2.2.2.2.1,h.2.2.2.2.2.1,h.2.2.2.2.2.2.1,h.2.2.2.2.2.2.2⟩:ab)
  |none=>none
 |10,l=>match aJ.dec dD (eb 10) l with
  |some h=>some (⟨h.1,h.2⟩:cG)
  |none=>none
 |11,l=>match aJ.dec dD (eb 11) l with
  |some h=>some (⟨h⟩:a7)
  |none=>none
 |12,l=>match aJ.dec dD (eb 12) l with
  |some h=>some (⟨(⟨h.1⟩:a7),h.2⟩:cq)
  |none=>none
 |13,l=>match aJ.dec dD (eb 13) l with
  |some h=>some (⟨(⟨(⟨h.1⟩:a7),h.2.1⟩:cq),(⟨(⟨h.2.2.1⟩:a7),h.2.2.2⟩:cq)⟩:fi)
  |none=>none
 |14,l=>match aJ.dec dD (eb 14) l with
  |some h=>some (⟨h.1,h.2⟩:hx)
  |none=>none
 |15,l=>match aJ.dec dD (eb 15) l with
  |some h=>some (⟨h.1,h.2.1,h.2.2⟩:iK)
  |none=>none
 |16,l=>match aJ.dec dD (eb 16) l with
  |some h=>some (⟨h.1,h.2⟩:kt)
  |none=>none
 |17,l=>match aJ.dec dD (eb 17) l with
  |some h=>some (⟨h.1,h.2.1,h.2.2⟩:hV)
  |none=>none
 |18,l=>match aJ.dec dD (eb 18) l with
  |some h=>some (⟨(⟨h.1,h.2.1,h.2.2.1,h.2.2.2.1,h.2.2.2.2.1,h.2.2.2.2.2.1,h.2.2.2.2.2.2.1,h.2.2.2.2.2.2.2.1⟩:ab),h.2.2.2.2.2.2.2.2.1,h.2.2.2.2.2.2.2.2.2⟩:dE)
  |none=>none
 |19,l=>match aJ.dec dD (eb 19) l with
  |some h=>some (⟨(⟨h.1,h.2.1,h.2.2.1,h.2.2.2.1,h.2.2.2.2.1,h.2.2.2.2.2.1,h.2.2.2.2.2.2.1,h.2.2.2.2.2.2.2.1⟩:ab),(⟨h.2.2.2.2.2.2.2.2.1,h.2.2.2.2.2.2.2.2.2.1⟩:kt),h.2.2.2.2.2.2.2.2.2.2⟩:wg)
  |none=>none
 |20,l=>match aJ.dec dD (eb 20) l with
  |some h=>some (⟨(⟨(⟨h.1⟩:ed),h.2.1,h.2.2.1⟩:qb),h.2.2.2⟩:tJ)
  |none=>none
 |21,l=>match aJ.dec dD (eb 21) l with
  |some h=>some (⟨(⟨h.1⟩:ed),h.2.1,h.2.2⟩:qb)
  |none=>none
 |_+22,l=>match aJ.dec dD [.bool] l with
  |some (h:Bool)=>some h
  |none=>none
def Oq(x:k7):List T:=[.int .u8 x.ah,.int .u8 x.aC,.int .u8 x.gH]
def vM(x:dv):List T:=[.int .u8 x.Kind,.int .u8 x.A,.int .u8 x.B,.int .u8 x.C,.slice (x.cX.map Oq)]
def ads(x:ed):List T:=[.slice (x.ei.map vM)]
def C7(x:km):List T:=[.int .u8 x.Kind,.int .u8 x.Node,.int .u8 x.A,.int .u8 x.B]
def adx(x:lI):List T:=[.slice (x.S.ei.map vM),.slice (x.L.map C7),.int .u8 x.T,.int .u8 x.U]
def Om(x:aK):List T:=[.int .i64 x.bW,.int .i64 x.bZ]
def Oo(x:dd):List T:=[.int .i64 x.ah,.str x.Name]
def s9(x:cG):List T:=[.int .i64 x.ah,.str x.Data]
def ab.eta(x:ab):ab:=⟨x.Kind,x.cd,x.bB,x.bL,x.ah,x.bb,x.ar,x.Rest⟩
theorem ab.b7(x:ab):x.eta=x:=by cases x;rfl
mutual
def kD:ab->List T
 |⟨a0,a1,a2,a3,a4,a5,a,c⟩=>[.int .i64 a0,.bool a1,.int .i64 a2,.str a3,.int .i64 a4,.slice (vL a5),.slice (vL a),.slice (c.map s9)]
def vL:List ab->List (List T)
 |[]=>[]
 |v::r=>kD v::vL r
end
theorem QL:∀l,vL l=l.map kD
 |[]=>rfl
 |v::r=>by simp only[vL,List.map];rw[QL r]
theorem Yr(x:ab):kD x=[.int .i64 x.Kind,.bool x.cd,.int .i64 x.bB,.str x.bL,.int .i64 x.ah,.slice (x.bb.map kD),.slice (x.ar.map kD),.slice (x.Rest.map s9)]:=by cases x;simp only[kD,QL]
def On(x:aY):List T:=[.int .i64 x.ah,.str x.Name,.int .i64 x.aC,.bool x.cJ,.bool x.bX,.int .i64 x.bC.Kind,.bool x.bC.cd,.int .i64 x.bC.bB,.str x.bC.bL,.int .i64 x.bC.ah,.slice (x.bC.bb.map kD),.slice (x.bC.ar.map kD),.slice (x.bC.Rest.map s9)]
def vK(x:af):List T:=[.int .i64 x.Kind,.str x.Name,.int .i64 x.bH,.int .i64 x.bK,.int .i64 x.Max,.slice (x.br.map Oo),.slice (x.ae.map On),.int .i64 x.Key,.int .i64 x.aQ,.bool x.Open]
def adq(x:a7):List T:=[.slice (x.Types.map vK)]
def adp(x:cq):List T:=[.slice (x.e1.Types.map vK),.int .i64 x.aC]
def adl(x:fi):List T:=[.slice (x.w.e1.Types.map vK),.int .i64 x.w.aC,.slice (x.r.e1.Types.map vK),.int .i64 x.r.aC]
def adm(x:hx):List T:=[.int .i64 x.id,.str x.text]
def ado(x:iK):List T:=[.int .i64 x.ah,.bool x.cJ,.str x.Data]
def adn(x:kt):List T:=[.slice (x.Path.map (λy=>[.int .i64 y])),.int .i64 x.Reason]
def adr(x:hV):List T:=[.bool x.y8,.slice (x.Relation.map Om),.str x.Message]
def adw(x:dE):List T:=[.int .i64 x.Value.Kind,.bool x.Value.cd,.int .i64 x.Value.bB,.str x.Value.bL,.int .i64 x.Value.ah,.slice (x.Value.bb.map kD),.slice (x.Value.ar.map kD),.slice (x.Value.Rest.map s9),.slice (x.Path.map (λy=>[.int .i64 y])),.bool x.eu]
def adu(x:wg):List T:=[.int .i64 x.Value.Kind,.bool x.Value.cd,.int .i64 x.Value.bB,.str x.Value.bL,.int .i64 x.Value.ah,.slice (x.Value.bb.map kD),.slice (x.Value.ar.map kD),.slice (x.Value.Rest.map s9),.slice (x.y'.Path.map (λy=>[.int .i64 y])),.int .i64 x.y'.Reason,.bool x.eu]
def adt(x:qb):List T:=[.slice (x.S.ei.map vM),.int .u8 x.T,.slice (x.C.map (λy=>[.int .u8 y]))]
def adv(x:tJ):List T:=[.slice (x.D.S.ei.map vM),.int .u8 x.D.T,.slice (x.D.C.map (λy=>[.int .u8 y])),.slice (x.L.map C7)]
def aeS:(n:Nat)->dD n->List T
 |0,x=>adx x
 |1,x=>ads x
 |2,x=>vM x
 |3,x=>Oq x
 |4,x=>C7 x
 |5,x=>Om x
 |6,x=>vK x
 |7,x=>Oo x
 |8,x=>On x
 |9,x=>kD x
 |10,x=>s9 x
 |11,x=>adq x
 |12,x=>adp x
 |13,x=>adl x
 |14,x=>adm x
 |15,x=>ado x
 |16,x=>adn x
 |17,x=>adr x
 |18,x=>adw x
 |19,x=>adu x
 |20,x=>adv x
 |21,x=>adt x
 |_+22,(x:Bool)=>[.bool x]
def cu:cE where
 D:=dD
 jD:=λn=>match n with
  |0=>Uq
  |1=>ER
  |2=>bw
  |3=>ia
  |4=>mG
  |5=>bG
  |6=>aL
  |7=>dB
  |8=>aG
  |9=>aR
  |10=>ch
  |11=>H8
  |12=>GD
  |13=>Wq
  |14=>AV
  |15=>Cm
  |16=>IN
  |17=>YN
  |18=>UT
  |19=>UU
  |20=>Ur
  |21=>PK
  |_+22=>false
 tf:=aeT
 make:=cT
 dh:=eb
 enc:=aeS
 Ou:=λn x=>match n,x with
  |0,_=>rfl
  |1,_=>rfl
  |2,_=>rfl
  |3,_=>rfl
  |4,_=>rfl
  |5,_=>rfl
  |6,_=>rfl
  |7,_=>rfl
  |8,_=>rfl
  |9,x=>Yr x
  |10,_=>rfl
  |11,_=>rfl
  |12,_=>rfl
  |13,_=>rfl
  |14,_=>rfl
  |15,_=>rfl
  |16,_=>rfl
  |17,_=>rfl
  |18,_=>rfl
  |19,_=>rfl
  |20,_=>rfl
  |21,_=>rfl
  |_+22,_=>rfl
 mk_eq:=λn l x h=>match n,x,h with
  |0,x,h=>by
   simp only[cT]at h;split at h
   . rename_i aa aj;cases h;exact aJ.fa aj
   . cases h
  |1,x,h=>by
   simp only[cT]at h;split at h
   . rename_i aa aj;cases h;exact aJ.fa aj
   . cases h
  |2,x,h=>by
   simp only[cT]at h;split at h
   . rename_i aa aj;cases h;exact aJ.fa aj
   . cases h
  |3,x,h=>by
   simp only[cT]at h;split at h
   . rename_i aa aj;cases h;exact aJ.fa aj
   . cases h
  |4,x,h=>by
   simp only[cT]at h;split at h
   . rename_i aa aj;cases h;exact aJ.fa aj
   . cases h
  |5,x,h=>by
   simp only[cT]at h;split at h
   . rename_i aa aj;cases h;exact aJ.fa aj
   . cases h
  |6,x,h=>by
   simp only[cT]at h;split at h
   . rename_i aa aj;cases h;exact aJ.fa aj
   . cases h
  |7,x,h=>by
   simp only[cT]at h;split at h
   . rename_i aa aj;cases h;exact aJ.fa aj
   . cases h
  |8,x,h=>by
   simp only[cT]at h;split at h
   . rename_i aa aj;cases h;exact aJ.fa aj
   . cases h
  |9,x,h=>by
   simp only[cT]at h;split at h
   . rename_i aa aj;cases h;exact aJ.fa aj
   . cases h
  |10,x,h=>by
   simp only[cT]at h;split at h
   . rename_i aa aj;cases h;exact aJ.fa aj
   . cases h
  |11,x,h=>by
   simp only[cT]at h;split at h
   . rename_i aa aj;cases h;exact aJ.fa aj
   . cases h
  |12,x,h=>by
   simp only[cT]at h;split at h
   . rename_i aa aj;cases h;exact aJ.fa aj
   . cases h
  |13,x,h=>by
   simp only[cT]at h;split at h
   . rename_i aa aj;cases h;exact aJ.fa aj
   . cases h
  |14,x,h=>by
   simp only[cT]at h;split at h
   . rename_i aa aj;cases h;exact aJ.fa aj
   . cases h
  |15,x,h=>by
   simp only[cT]at h;split at h
   . rename_i aa aj;cases h;exact aJ.fa aj
   . cases h
  |16,x,h=>by
   simp only[cT]at h;split at h
   . rename_i aa aj;cases h;exact aJ.fa aj
   . cases h
  |17,x,h=>by
   simp only[cT]at h;split at h
   . rename_i aa aj;cases h;exact aJ.fa aj
   . cases h
  |18,x,h=>by
   simp only[cT]at h;split at h
   . rename_i aa aj;cases h;exact aJ.fa aj
   . cases h
  |19,x,h=>by
   simp only[cT]at h;split at h
   . rename_i aa aj;cases h;exact aJ.fa aj
   . cases h
  |20,x,h=>by
   simp only[cT]at h;split at h
   . rename_i aa aj;cases h;exact aJ.fa aj
   . cases h
  |21,x,h=>by
   simp only[cT]at h;split at h
   . rename_i aa aj;cases h;exact aJ.fa aj
   . cases h
  |_+22,x,h=>by
   simp only[cT]at h;split at h
   . rename_i aa aj;cases h;exact aJ.fa aj
   . cases h
 Pg:=λn x=>match n,x with
  |0,_=>rfl
  |1,_=>rfl
  |2,_=>rfl
  |3,_=>rfl
  |4,_=>rfl
  |5,_=>rfl
  |6,_=>rfl
  |7,_=>rfl
  |8,_=>rfl
  |9,_=>rfl
  |10,_=>rfl
  |11,_=>rfl
  |12,_=>rfl
  |13,_=>rfl
  |14,_=>rfl
  |15,_=>rfl
  |16,_=>rfl
  |17,_=>rfl
  |18,_=>rfl
  |19,_=>rfl
  |20,_=>rfl
  |21,_=>rfl
  |_+22,_=>rfl
 Pf:=λe=>match e with
  |3=>some (.int .i64)
  |4=>some .bool
  |5=>some (.int .u8)
  |9=>some .str
  |28=>some (.slice (.nm 5))
  |39=>some (.nm 5)
  |62=>some (.nm 9)
  |112=>some (.nm 6)
  |141=>some (.nm 7)
  |148=>some (.nm 3)
  |162=>some (.nm 8)
  |188=>some (.nm 10)
  |239=>some (.nm 15)
  |276=>some (.nm 14)
  |_=>none
 cc:=some (.nm 5)
 own:=[([false,false,true,true],2,.int .i64),([false,true,true,false],1,.int .i64)]
 pos:=λn=>match n with
  |0=>by decide
  |1=>by decide
  |2=>by decide
  |3=>by decide
  |4=>by decide
  |5=>by decide
  |6=>by decide
  |7=>by decide
  |8=>by decide
  |9=>by decide
  |10=>by decide
  |11=>by decide
  |12=>by decide
  |13=>by decide
  |14=>by decide
  |15=>by decide
  |16=>by decide
  |17=>by decide
  |18=>by decide
  |19=>by decide
  |20=>by decide
  |21=>by decide
  |_+22=>Nat.zero_lt_one
theorem abL:cu.Total:=λn l h=>match n,h with
 |0,h=>by
  obtain⟨x,I⟩:=aJ.gP (D:=dD) (ts:=eb 0) h;exact⟨_,by show cT 0 l=_;simp only[cT,I];rfl⟩
 |1,h=>by
  obtain⟨x,I⟩:=aJ.gP (D:=dD) (ts:=eb 1) h;exact⟨_,by show cT 1 l=_;simp only[cT,I];rfl⟩
 |2,h=>by
  obtain⟨x,I⟩:=aJ.gP (D:=dD) (ts:=eb 2) h;exact⟨_,by show cT 2 l=_;simp only[cT,I];rfl⟩
 |3,h=>by
  obtain⟨x,I⟩:=aJ.gP (D:=dD) (ts:=eb 3) h;exact⟨_,by show cT 3 l=_;simp only[cT,I];rfl⟩
 |4,h=>by
  obtain⟨x,I⟩:=aJ.gP (D:=dD) (ts:=eb 4) h;exact⟨_,by show cT 4 l=_;simp only[cT,I];rfl⟩
 |5,h=>by
  obtain⟨x,I⟩:=aJ.gP (D:=dD) (ts:=eb 5) h;exact⟨_,by show cT 5 l=_;simp only[cT,I];rfl⟩
 |6,h=>by
  obtain⟨x,I⟩:=aJ.gP (D:=dD) (ts:=eb 6) h;exact⟨_,by show cT 6 l=_;simp only[cT,I];rfl⟩
 |7,h=>by
  obtain⟨x,I⟩:=aJ.gP (D:=dD) (ts:=eb 7) h;exact⟨_,by show cT 7 l=_;simp only[cT,I];rfl⟩
 |8,h=>by
  obtain⟨x,I⟩:=aJ.gP (D:=dD) (ts:=eb 8) h;exact⟨_,by show cT 8 l=_;simp only[cT,I];rfl⟩
 |9,h=>by
  obtain⟨x,I⟩:=aJ.gP (D:=dD) (ts:=eb 9) h;exact⟨_,by show cT 9 l=_;simp only[cT,I];rfl⟩
 |10,h=>by
  obtain⟨x,I⟩:=aJ.gP (D:=dD) (ts:=eb 10) h;exact⟨_,by show cT 10 l=_;simp only[cT,I];rfl⟩
 |11,h=>by
  obtain⟨x,I⟩:=aJ.gP (D:=dD) (ts:=eb 11) h;exact⟨_,by show cT 11 l=_;simp only[cT,I];rfl⟩
 |12,h=>by
  obtain⟨x,I⟩:=aJ.gP (D:=dD) (ts:=eb 12) h;exact⟨_,by show cT 12 l=_;simp only[cT,I];rfl⟩
 |13,h=>by
  obtain⟨x,I⟩:=aJ.gP (D:=dD) (ts:=eb 13) h;exact⟨_,by show cT 13 l=_;simp only[cT,I];rfl⟩
 |14,h=>by
  obtain⟨x,I⟩:=aJ.gP (D:=dD) (ts:=eb 14) h;exact⟨_,by show cT 14 l=_;simp only[cT,I];rfl⟩
 |15,h=>by
  obtain⟨x,I⟩:=aJ.gP (D:=dD) (ts:=eb 15) h;exact⟨_,by show cT 15 l=_;simp only[cT,I];rfl⟩
 |16,h=>by
  obtain⟨x,I⟩:=aJ.gP (D:=dD) (ts:=eb 16) h;exact⟨_,by show cT 16 l=_;simp only[cT,I];rfl⟩
 |17,h=>by
  obtain⟨x,I⟩:=aJ.gP (D:=dD) (ts:=eb 17) h;exact⟨_,by show cT 17 l=_;simp only[cT,I];rfl⟩
 |18,h=>by
  obtain⟨x,I⟩:=aJ.gP (D:=dD) (ts:=eb 18) h;exact⟨_,by show cT 18 l=_;simp only[cT,I];rfl⟩
 |19,h=>by
  obtain⟨x,I⟩:=aJ.gP (D:=dD) (ts:=eb 19) h;exact⟨_,by show cT 19 l=_;simp only[cT,I];rfl⟩
 |20,h=>by
  obtain⟨x,I⟩:=aJ.gP (D:=dD) (ts:=eb 20) h;exact⟨_,by show cT 20 l=_;simp only[cT,I];rfl⟩
 |21,h=>by
  obtain⟨x,I⟩:=aJ.gP (D:=dD) (ts:=eb 21) h;exact⟨_,by show cT 21 l=_;simp only[cT,I];rfl⟩
 |m+22,h=>by
  obtain⟨x,I⟩:=aJ.gP (D:=dD) (ts:=[.bool]) h;exact⟨x,by show cT (m+22) l=_;simp only[cT,I];rfl⟩
end
section
open Go Go.Proofs.YtkbmjabicjpmjaaGreatDoor.Shv
open Tryz
set_option maxRecDepth 100000
open Go.Proofs Go.Proofs.YtkbmjabicjpmjaaGreatDoor Go.Shelf
theorem TK:gL prog 232=true:=by kernel_rfl
def kZ:cA cu:=GB cu 232 (.int .i64) 8
theorem Sz:gT prog kZ:=Yk (te:=3) (sz:=1) (bytes:=8) (z:=[.t (.int .i64 0)]) func232 (by kernel_rfl) (by kernel_rfl) (by kernel_rfl) rfl rfl
theorem kh:eZ prog kZ:=⟨TK,Sz⟩
theorem UW:gL prog 291=true:=by kernel_rfl
def k2:cA cu:=B7 cu 291 (.nm 9) 120
theorem Uc:gT prog k2:=IH (te:=62) (sz:=8) (bytes:=120) (z:=[.t (.int .i64 0),.t (.bool false),.t (.int .i64 0),.t (.str []),.t (.int .i64 0),.aT,.aT,.aT]) func291 (by kernel_rfl) (by kernel_rfl) (by kernel_rfl) rfl rfl
theorem k3:eZ prog k2:=⟨UW,Uc⟩
theorem UX:gL prog 292=true:=by kernel_rfl
def k4:cA cu:=B7 cu 292 (.nm 10) 24
theorem Ud:gT prog k4:=IH (te:=188) (sz:=2) (bytes:=24) (z:=[.t (.int .i64 0),.t (.str [])]) func292 (by kernel_rfl) (by kernel_rfl) (by kernel_rfl) rfl rfl
theorem k5:eZ prog k4:=⟨UX,Ud⟩
instance:Inhabited hx:=⟨AV⟩
instance:Inhabited (cu.D 14):=⟨AV⟩
def qE(x y:hx):Bool:=decide (x.id<y.id)
def Uv(l:List hx):Option (List hx):=some (j8 qE l)
section
open Go.Proofs Go.Proofs.YtkbmjabicjpmjaaGreatDoor Go.Sort Go.RowKit Go.Lib
theorem aeB(x:Int)(w:World):Calls prog 287 #[.int .i64 x] w λe w'=>e= .returned (.bool false)/\w'=w:=by
 go_enter func287,ntmps287
 go_wp2
 go_ret
 exact⟨by simp,rfl⟩
set_option maxHeartbeats 1000000 in
theorem aeA(x y:Int)(w:World):Calls prog 225 #[.int .i64 x,.int .i64 y] w λe w'=>e= .returned (.int .i64 (Lib.compareInt x y))/\w'=w:=by
 go_enter func225,ntmps225
 go_wp2_with (go_at_call 287;refine(aeB _ _).mono ?_;rintro e w' ⟨rfl,a⟩;rw[a])
 all_goals (go_ret;refine⟨?_,rfl⟩;unfold Lib.compareInt;(repeat' split)<;>first|rfl|(exfalso;omega))
def yR(x:hx):List Value:=[.int .i64 x.id,.string ⟨x.text.toArray⟩]
set_option maxHeartbeats 1000000 in
theorem aez(x y:Int)(s t:ByteArray)(W:World):Calls prog 230 #[.agg #[.int .i64 x,.string s],.agg #[.int .i64 y,.string t]] W λe w'=>e= .returned (.int .i64 (Lib.compareInt x y))/\∃q c,w'=grow (W.drewN q) c:=by
 have a:=λb=>aeA x y b;generalize Lib.compareInt x y=r at a⊢
 go_enter func230,ntmps230
 go_wp2_with (go_at_call 225;refine(a _).mono ?_;rintro e w' ⟨rfl,rfl⟩)
 go_ret
 exact⟨rfl,0,_,by rw[alloc_eq_grow,alloc_eq_grow,grow_grow];rfl⟩
def H9:Go.Shelf.Ren:=⟨λ|6=>229|15=>290|14=>289|28=>338|29=>302|20=>330|21=>331|22=>332|23=>333|24=>334|25=>335|26=>336|27=>337|46=>347|47=>348|48=>349|49=>350|50=>351|57=>354|n=>n,λ|22=>274|24=>276|25=>278|3=>3|39=>196|0=>0|53=>324|55=>185|4=>4|46=>341|45=>340|50=>159|5=>5|9=>9|66=>358|70=>362|76=>370|77=>131|n=>n,λ|n=>n⟩
theorem OH:SlLaysF0.n6 prog H9:={
 mixed:=by kernel_rfl
 f6:=⟨f229.name,by decide,func229.trans (dP some (by kernel_rfl))⟩
 f14:=⟨f289.name,by decide,func289.trans (dP some (by kernel_rfl))⟩
 f15:=func290.trans (dP some (by kernel_rfl))
 f20:=⟨f330.name,by decide,func330.trans (dP some (by kernel_rfl))⟩
 f21:=⟨f331.name,by decide,func331.trans (dP some (by kernel_rfl))⟩
 f22:=⟨f332.name,by decide,func332.trans (dP some (by kernel_rfl))⟩
 f23:=⟨f333.name,by decide,func333.trans (dP some (by kernel_rfl))⟩
 f24:=⟨f334.name,by decide,func334.trans (dP some (by kernel_rfl))⟩
 f25:=⟨f335.name,by decide,func335.trans (dP some (by kernel_rfl))⟩
 f26:=⟨f336.name,by decide,func336.trans (dP some (by kernel_rfl))⟩
 f27:=⟨f337.name,by decide,func337.trans (dP some (by kernel_rfl))⟩
 f28:=func338.trans (dP some (by kernel_rfl))
 f29:=func302.trans (dP some (by kernel_rfl))
 f46:=⟨f347.name,by decide,func347.trans (dP some (by kernel_rfl))⟩
 f47:=func348.trans (dP some (by kernel_rfl))
 f48:=func349.trans (dP some (by kernel_rfl))
 f49:=⟨f350.name,by decide,func350.trans (dP some (by kernel_rfl))⟩
 f50:=⟨f351.name,by decide,func351.trans (dP some (by kernel_rfl))⟩
 f57:=⟨f354.name,by decide,func354.trans (dP some (by kernel_rfl))⟩
 t0:=underlying0
 a0:=isAgg0
 z0:=sizeOf0
 v0:=zeroValue0
 t3:=underlying3
 a3:=isAgg3
 z3:=sizeOf3
 v3:=zeroValue3
 t4:=underlying4
 a4:=isAgg4
 z4:=sizeOf4
 v4:=zeroValue4
 t5:=underlying5
 a5:=isAgg5
 z5:=sizeOf5
 v5:=zeroValue5
 t9:=underlying9
 a9:=isAgg9
 z9:=sizeOf9
 v9:=zeroValue9
 t22:=underlying274
 a22:=isAgg274
 z22:=sizeOf274
 v22:=zeroValue274
 t25:=underlying278
 a25:=isAgg278
 z25:=sizeOf278
 v25:=zeroValue278
 t39:=underlying196
 a39:=isAgg196
 z39:=sizeOf196
 v39:=zeroValue196
 t45:=underlying340
 a45:=isAgg340
 z45:=sizeOf340
 v45:=zeroValue340
 t46:=underlying341
 a46:=isAgg341
 z46:=sizeOf341
 v46:=zeroValue341
 t50:=underlying159
 a50:=isAgg159
 z50:=sizeOf159
 v50:=zeroValue159
 t53:=underlying324
 a53:=isAgg324
 z53:=sizeOf324
 v53:=zeroValue324
 t55:=underlying185
 a55:=isAgg185
 z55:=sizeOf185
 v55:=zeroValue185
 t66:=underlying358
 a66:=isAgg358
 z66:=sizeOf358
 v66:=zeroValue358
 t70:=underlying362
 a70:=isAgg362
 z70:=sizeOf362
 v70:=zeroValue362
 t76:=underlying370
 a76:=isAgg370
 z76:=sizeOf370
 v76:=zeroValue370
 t77:=underlying131
 a77:=isAgg131
 z77:=sizeOf131
 v77:=zeroValue131}
theorem IP:ltOf (λx y:hx=>Lib.compareInt x.id y.id)=qE:=by
 funext x y
 unfold ltOf qE Lib.compareInt;by_cases h1:x.id<y.id
 . simp[h1]
 . by_cases a:y.id<x.id<;>simp[h1,a]
theorem Ed:SWO qE:=aap (λx:hx=>x.id)
set_option maxHeartbeats 2000000 in
theorem aeD(p:Option Addr)(cap:Nat)(a:Value)(w:World):Calls prog 330 #[.slice p 0 cap,.int .i64 0,.int .i64 0,a] w λe w'=>e= .returned (.tuple #[])/\w'=w:=by
 go_enter func330,ntmps330
 go_wp2
 refine wp_loop_rounds 1 ?_;rw[rounds_succ]
 go_wp2
 go_end0
 exact⟨rfl,rfl⟩
set_option maxHeartbeats 2000000 in
theorem aeE(p:Option Addr)(cap:Nat)(c:Int)(a:Value)(w:World):Calls prog 289 #[.slice p 0 cap,.int .i64 0,.int .i64 0,.int .i64 c,a] w λe w'=>e= .returned (.tuple #[])/\w'=w:=by
 have b:=λW=>aeD p cap a W
 go_enter func289,ntmps289
 go_wp2
 refine wp_loop_rounds 1 ?_;rw[rounds_succ]
 go_wp2_with (go_at_call 330;refine(b _).mono ?_;rintro e w' ⟨rfl,rfl⟩)
 (try simp only[Exit.inBlock,Exit.then]);refine bodyPost_ret (results_none rfl _ _ _) rfl ?_
 exact⟨rfl,rfl⟩
set_option maxHeartbeats 2000000 in
theorem aeC(p:Option Addr)(cap:Nat)(a:Value)(w:World):Calls prog 229 #[.slice p 0 cap,a] w λe w'=>e= .returned (.tuple #[])/\w'=w:=by
 have al:=λb W=>aeE p cap b a W;have ag:∀W,Calls prog 290 #[.int .u64 0] W λe w'=>e= .returned (.int .i64 (Lib.bitLen 0:Nat))/\w'=W:=λW=>by
  have h:=Any.bits_Len (SlLaysF0.n15.bits (P:=prog) (ρ:=H9) {OH with}) 0 W (by omega) (by omega);exact h
 go_enter func229,ntmps229
 go_wp2_with (first|(go_at_call 290;refine(ag _).mono ?_;rintro e w' ⟨rfl,rfl⟩)|(go_at_call 289;refine(al _ _).mono ?_;rintro e w' ⟨rfl,rfl⟩))
 go_end0
 exact⟨rfl,rfl⟩
theorem aeF(blk off cap:Nat)(d:Array (cu.D 14))(w:World)(c:HoldsK yR 2 w blk off d)(f:blk<w.heap.size)(g:d.size<4611686018427387904):
 Calls prog 229 #[.slice (some ⟨blk,off,none⟩) d.size cap,.func (.func 230) #[] #[]] w λe w'=>e= .returned (.tuple #[])/\∃n os,w'=sortWorldK yR 2 w blk off n (pdq qE d 0 d.size (Lib.bitLen d.size) true true) os:=by
 have b:∀args w,(callFunc 230 args).run prog w= .ok (.enter 230 args) w:=enters_of func230 (by kernel_rfl) rfl;have h:=AnyQ.slices_SortFunc_eq (α:=hx) OH 2 isAgg276 sizeOf276 yR (λ_=>rfl) (λx v a=>by simp[yR]at a;rcases a with rfl|rfl<;>rfl) (λx y=>Lib.compareInt x.id y.id) (by rw[IP];exact Ed) 230 #[] blk off cap d w b (λ_ _ _ _ x y=>aez x.id y.id _ _ _) c f g;rw[IP]at h;exact h
theorem abb:gL prog 229=true:=by kernel_rfl
def Ep:cA cu:=Ec cu 229 14 230 (j8 (α:=cu.D 14) qE)
theorem VF:gT prog Ep:=Zu (U:=cu) (n:=14) yR qE Ed (λ_=>rfl) (λw S x j t v h a=>Yp w S x.id x.text j t v h a) aeF aeC
end
theorem Er:eZ prog Ep:=⟨abb,VF⟩
def HQ:Go.Shelf.Ren:=⟨λ|240=>128|276=>185|n=>n,λ|0=>0|4=>4|9=>9|20=>20|37=>54|70=>114|72=>116|164=>250|n=>n,λn=>n⟩
theorem ad0:Lays.n240 prog HQ:={
 mixed:=by kernel_rfl
 f240:=func128.trans (dP some (by kernel_rfl))
 f276:=func185.trans (dP some (by kernel_rfl))
 t0:=underlying0
 a0:=isAgg0
 z0:=sizeOf0
 v0:=zeroValue0
 t4:=underlying4
 a4:=isAgg4
 z4:=sizeOf4
 v4:=zeroValue4
 t9:=underlying9
 a9:=isAgg9
 z9:=sizeOf9
 v9:=zeroValue9
 t20:=underlying20
 a20:=isAgg20
 z20:=sizeOf20
 v20:=zeroValue20
 t70:=underlying114
 a70:=isAgg114
 z70:=sizeOf114
 v70:=zeroValue114
 t72:=underlying116
 a72:=isAgg116
 z72:=sizeOf116
 v72:=zeroValue116
 t164:=underlying250
 a164:=isAgg250
 z164:=sizeOf250
 v164:=zeroValue250}
theorem ad1:Builder.X72 prog HQ:={
 sizeBuilder:=by kernel_rfl
 liesBuilder:=by kernel_rfl}
theorem abc:gL prog 128=true:=by kernel_rfl
def k8:cA cu:=B8 cu 128 116 5
theorem Uw:gT prog k8:=YJ ad0 ad1 rfl rfl
theorem lJ:eZ prog k8:=⟨abc,Uw⟩
def Ys:Go.Shelf.Ren:=⟨λ|129=>302|171=>70|243=>129|246=>186|283=>259|284=>260|285=>261|286=>262|317=>301|318=>303|319=>304|320=>305|337=>339|338=>340|n=>n,λ|0=>0|2=>2|3=>3|4=>4|5=>5|9=>9|20=>20|37=>54|46=>196|51=>324|53=>185|171=>295|173=>298|212=>323|213=>325|232=>364|233=>365|n=>n,λ|17=>0|18=>6|19=>7|n=>n⟩
theorem adZ:Lays.n171 prog Ys:={
 mixed:=by kernel_rfl
 f129:=func302.trans (dP some (by kernel_rfl))
 f171:=func70.trans (dP some (by kernel_rfl))
 f243:=func129.trans (dP some (by kernel_rfl))
 f246:=func186.trans (dP some (by kernel_rfl))
 f283:=func259.trans (dP some (by kernel_rfl))
 f284:=func260.trans (dP some (by kernel_rfl))
 f285:=func261.trans (dP some (by kernel_rfl))
 f286:=func262.trans (dP some (by kernel_rfl))
 f317:=func301.trans (dP some (by kernel_rfl))
 f318:=func303.trans (dP some (by kernel_rfl))
 f319:=func304.trans (dP some (by kernel_rfl))
 f320:=func305.trans (dP some (by kernel_rfl))
 f337:=func339.trans (dP some (by kernel_rfl))
 f338:=func340.trans (dP some (by kernel_rfl))
 t0:=underlying0
 a0:=isAgg0
 z0:=sizeOf0
 v0:=zeroValue0
 t2:=underlying2
 a2:=isAgg2
 z2:=sizeOf2
 v2:=zeroValue2
 t3:=underlying3
 a3:=isAgg3
 z3:=sizeOf3
 v3:=zeroValue3
 t4:=underlying4
 a4:=isAgg4
 z4:=sizeOf4
 v4:=zeroValue4
 t5:=underlying5
 a5:=isAgg5
 z5:=sizeOf5
 v5:=zeroValue5
 t9:=underlying9
 a9:=isAgg9
 z9:=sizeOf9
 v9:=zeroValue9
 t20:=underlying20
 a20:=isAgg20
 z20:=sizeOf20
 v20:=zeroValue20
 t37:=underlying54
 a37:=isAgg54
 z37:=sizeOf54
 v37:=zeroValue54
 t46:=underlying196
 a46:=isAgg196
 z46:=sizeOf196
 v46:=zeroValue196
 t51:=underlying324
 a51:=isAgg324
 z51:=sizeOf324
 v51:=zeroValue324
 t53:=underlying185
 a53:=isAgg185
 z53:=sizeOf185
 v53:=zeroValue185
 t171:=underlying295
 a171:=isAgg295
 z171:=sizeOf295
 v171:=zeroValue295
 t173:=underlying298
 a173:=isAgg298
 z173:=sizeOf298
 v173:=zeroValue298
 t212:=underlying323
 a212:=isAgg323
 z212:=sizeOf323
 v212:=zeroValue323
 t213:=underlying325
 a213:=isAgg325
 z213:=sizeOf325
 t232:=underlying364
 a232:=isAgg364
 z232:=sizeOf364
 v232:=zeroValue364
 t233:=underlying365
 a233:=isAgg365
 z233:=sizeOf365
 v233:=zeroValue365
 g17:=by kernel_rfl
 g18:=by kernel_rfl
 g19:=by kernel_rfl}
theorem Sc:gL prog 70=true:=by kernel_rfl
def k6:cA cu:=OD cu 70
theorem TL:gT prog k6:=Zy adZ rfl
theorem mJ:eZ prog k6:=⟨Sc,TL⟩
end
section
open Go Go.Proofs.YtkbmjabicjpmjaaGreatDoor.Shv
open Tryz
set_option maxRecDepth 100000
theorem Ay:mo prog 85:= .of (by kernel_rfl)
variable{S:c6}{w:World}{g kk:Nat}{ks:List (Int×Int)}{v:Value}{es:List MapEntry}{fs:List (cA cu)}{p:aZ}{M:cq×cq×aD->Option Bool}{R P:cq×cq×List aK->Option Bool}
variable{a f:Nat}
theorem R8(G:∀b j,S b j->b<w.heap.size)(x:aK){E:TypeId}{es:Array MapEntry}{cv:Nat}
 (h1:w.heap[g]?=some (.cells #[.map (some a)] E (0,0)))(m:w.heap[a]?=some (.map es cv))(hs:iC ks es.toList)(B:∀j,¬S g j)(C:∀j,¬S a j):
 Calls prog 44 #[dS (x.bW,x.bZ),.pointer (some ⟨g,0,none⟩)] w λe w'=>e= .returned (.bool (!hF ks (x.bW,x.bZ)))/\∃bj,nJ S w bj w':=by
 refine calls_of_wp func44 rfl ?_;have u:=cC.enter (U:=cu) (gs:=[g,a]) (N:=2) (nt:=8) (φ:=λb=>if b=0 then(g,0)else(a,0)) (args:=[.agg [.t ⟨.int .i64,x.bW⟩,.t ⟨.int .i64,x.bZ⟩],.c (.ptr 0 0)]) (w:=w) (S:=S)
  (.cons (.agg (.cons (.t _) (.cons (.t _) .nil))) (.cons (.c (.ptr 0 0)) .nil)) (vs:=[dS (x.bW,x.bZ),.pointer (some ⟨g,0,none⟩)]) (.cons (.agg (.cons (bP.int _ _) (.cons (bP.int _ _) .nil))) (.cons (.c rfl) .nil)) rfl G (sr rfl)
  (by
   have:=mQ h1;have:=mQ m;intro b p;simp at p;rcases p with rfl|rfl
   . exact⟨by assumption,B⟩
   . exact⟨by assumption,C⟩)
 refine wp_seq (u.fU 2 [bu .normal [(1,.c (.ptr 0 0)),(2,.c (.ptr 2 0))] [.gone,.gone,.bd 5]] (o:=x) .n (by kernel_rfl) λL H a1 r l dR=>?_);refine wp_seq (oE [0,1,2,3,4] ?_);have bn:a1.tmps[1]?=some (.pointer (some ⟨g,0,none⟩)):=(l.ptr (k:=1) rfl).trans (by rw[dR.fix 0 (by decide)];rfl);have D:r.heap[g]?=_:=(dR.al g (by simp)).trans h1;have F:r.heap[a]?=_:=(dR.al a (by simp)).trans m;refine nu rfl rfl rfl (ld1 rfl (by kernel_rfl) (fH bn) D (off:=0) rfl) ?_;have z:=l.put (d:=4) (x:= .map (some a)) (v:= .c (.mp 1)) (.c (.mp 1)) (.c (by show _=Value.map (some _);rw[dR.fix 1 (by decide)];rfl));refine z.op 2 1 1 [(4,.c (.mp 1)),(5,.row 5)] [.gone,.gone] (h:=x) .n (by kernel_rfl) λM I a3 J f q=>?_
 have cw:a3.tmps[4]?=some (.map (some a)):=(f.mp (k:=4) rfl).trans (by rw[q.fix 1 (by decide),dR.fix 1 (by decide)];rfl);have cW:a3.tmps[5]?=some (dS (x.bW,x.bZ)):=f.pair rfl;refine nu rfl rfl rfl (ad2 rfl Ay (fH cw) (fH cW) ((q.al a (by simp)).trans F) hs) ?_;have A:=f.put (d:=6) (v:= .c (.t ⟨.bool,hF ks (x.bW,x.bZ)⟩)) (.c (.t _)) (.c (bP.bool _));refine A.op 2 3 2 [(3,.c (.hole .bool))] [.gone,.gone] (h:=!hF ks (x.bW,x.bZ)) .n (by kernel_rfl) λO s a5 K i ew=>?_;refine wp_ret (i.ret rfl rfl λy ak=>⟨?_,s,i.ext,i.st⟩);cases ak;rfl
def hZ(ks:List (Int×Int))(x:aK):Bool:=hF ks (x.bW,x.bZ)
structure nH (S:c6)(w:World)(g Db:Nat)(ks:List (Int×Int)):Prop where
 st:∀b j,S b j->b<w.heap.size
 g1:∃E,w.heap[g]?=some (.cells #[.map (some Db)] E (0,0))
 g2:∃es cv,w.heap[Db]?=some (.map es cv)/\iC ks es.toList
 g3:∀j,¬S g j
 g4:∀j,¬S Db j
theorem nH.next{bj:c6}{w':World}{c:Nat}(h:nH S w g c ks){nt:Nat}{au:Ctx}{s:vt cu}{φ j:c0}{a:Act}(T:cC au nt [g,c] s φ bj a w')(n:qR [g,c] kk j w φ w'):nH bj w' g c ks:=by
 obtain⟨h0,⟨E,h1⟩,⟨es,cv,e,f⟩,o,bh⟩:=h;exact⟨T.st,⟨E,(n.al g (by simp)).trans h1⟩,⟨es,cv,(n.al c (by simp)).trans e,f⟩,(T.dU g (by simp)).2,(T.dU c (by simp)).2⟩
theorem nH.dU(ao:nH S w g a ks):∀b,b∈[g,a]->b<w.heap.size/\∀j,¬S b j:=by
 obtain⟨h0,⟨E,h1⟩,⟨es,cv,e,_⟩,f,o⟩:=ao;have:=mQ h1;have:=mQ e;intro b c;simp at c;rcases c with rfl|rfl
 . exact⟨by assumption,f⟩
 . exact⟨by assumption,o⟩
theorem Sf(φ:c0)(l:List aK){q:Nat}(ao:nH S w g q ks)(O:(φ 0).1=g)(aq:bP w S (Cell.enc cu ⟨.slice (.nm 5),l⟩) v):
 Calls prog 92 #[v,.func (.func 44) #[] #[.pointer (some ⟨g,0,none⟩)]] w λe w'=>∃m bj,e= .returned (.int .i64 m)/\((l.any λx=>!hZ ks x)=decide (0<=m))/\nJ S w bj w':=by
 refine calls_of_wp func92 rfl ?_;have Z:=cC.enter (U:=cu) (gs:=[g,q]) (N:=1) (nt:=19) (φ:=φ) (args:=[.c (.t ⟨.slice (.nm 5),l⟩),.c (.fn 44 [0])]) (w:=w) (S:=S)
  (.cons (.c (.t _)) (.cons (.c (.fn 44 [0])) .nil)) (vs:=[v,.func (.func 44) #[] #[.pointer (some ⟨g,0,none⟩)]]) (.cons (.c aq) (.cons (.c (by rw[<-O];rfl)) .nil)) rfl ao.st (sr rfl)
  ao.dU
 refine wp_seq (Z.fU 1 [bu .normal [(0,aa (ay 5)),(1,.c (.fn 44 [0]))] [.gone]] (o:=l) .n (by kernel_rfl) λaN aF a1 aL G dR=>?_);refine wp_seq (wp_seq (G.fU 1 [bu .normal [(0,aa (ay 5)),(1,.c (.fn 44 [0])),(7,aa ad),(8,aa ad)] [.gone]] (o:=(l,(l.length:Int),(0:Int))) .n (by kernel_rfl) λaz V a2 ar H P=>?_));refine wp_block (Bp ?_);refine(show(∀(n i:Nat),i+n=l.length->(∀j,j<i->∃x,l[j]?=some x/\hZ ks x=true)->∀bg bj b4 w',cC _ 19 [g,q] (e7 (U:=cu) [bu .normal [(0,aa (ay 5)),(1,.c (.fn 44 [0])),(7,aa ad),(8,aa ad)] [.gone]] (l,(l.length:Int),(i:Int))).2 bg bj b4 w'->(bg 0).1=g->nH bj w' g q ks->sH prog _ _ b4 w')from ?_) l.length 0 (by simp) (by simp) az V a2 ar H (by rw[P.fix 0 (by decide),dR.fix 0 (by decide)];exact O) ((ao.next G dR).next H P);intro n;induction n with
 |zero=>
  intro i al B aA W a3 au A K M;refine tT (wp_seq (A.fU 1 [bu .normal [(9,aa .bool)] [.gone]] (o:=(decide ((i:Int)<l.length))) .n (by kernel_rfl) λaC X a4 av f C=>?_));refine wp_seq (wp_cond_false (by rw[fH (f.bool (k:=9) rfl)];simp;omega) (wp_exit ?_));refine f.fU 1 [bu .ret [(4,aa ad)] [.gone]] (o:=(-1:Int)) .n (by kernel_rfl) λaD F a5 aw p ew=>p.ret rfl rfl λy ak=>⟨-1,F,?_,?_,p.ext,p.st⟩
  . cases ak;rfl
  . have:(l.any λx=>!hZ ks x)=false:=by
     rw[List.any_eq_false];intro x I;obtain⟨j,ap,rfl⟩:=l1.1 I;obtain⟨y,h1,ae⟩:=B j (by omega);rw[df ap]at h1;cases h1;simp[ae]
    rw[this];rfl
 |succ n ih=>
  intro i al B aA W a3 au A K M;have am:i<l.length:=by omega
  refine tT (wp_seq (A.fU 1 [bu .normal [(0,aa (ay 5)),(1,.c (.fn 44 [0])),(7,aa ad),(8,aa ad),(9,aa .bool)] [.gone]] (o:=(l,(l.length:Int),(i:Int),decide ((i:Int)<l.length))) .n (by kernel_rfl) λaC X a4 av f C=>?_));refine wp_seq (wp_cond_true (by rw[fH (f.bool (k:=9) rfl)];simp;omega) (wp_skip ?_));refine wp_seq (wp_block (wp_seq (f.fU 1 [bu .normal [(0,aa (ay 5)),(1,.c (.fn 44 [0])),(7,aa ad),(8,aa ad),(5,aa ad)] [.gone]] (o:=(l,(l.length:Int),(i:Int),(i:Int))) .n (by kernel_rfl) λaD F a5 aw p ew=>?_)));refine wp_seq (oE [0,1,2,3,4,5] ?_);refine p.op 1 0 5 [(0,aa (ay 5)),(1,.c (.fn 44 [0])),(7,aa ad),(8,aa ad),(5,aa ad),(11,.c (.fn 44 [0])),(15,.row 5)] [.gone] (h:=(l,(l.length:Int),(i:Int),(i:Int),l.getD (Int.toNat i) bG)) .n ((show _=(if aB (i:Int) l.length then some _ else none) by kernel_rfl).trans (ai (by simp[aB];omega))) λaE aG aH aM r Q=>?_
  have L:(aE 0).1=g:=by rw[Q.fix 0 (by decide),ew.fix 0 (by decide),C.fix 0 (by decide)];exact K
  have ah:=((M.next f C).next p ew).next r Q;have I:l[i]?=some (l.getD i bG):=by simp[List.getD,df am]
  refine Dl rfl rfl rfl (rM rfl rfl (fH (r.fn (k:=11) rfl)) (by kernel_rfl)) (args:=#[dS ((l.getD i bG).bW,(l.getD i bG).bZ),.pointer (some ⟨g,0,none⟩)]) ?_ ?_
  . simp[fH (r.pair (k:=15) rfl),L]
  obtain⟨h0,⟨E,g1⟩,⟨es,cv,g2,g3⟩,g4,ab⟩:=ah;refine(R8 h0 (l.getD i bG) g1 g2 g3 g4 ab).mono ?_
  rintro e ax ⟨rfl,Y,u⟩
  refine⟨_,rfl,?_⟩;have b:=(r.extend u.1 u.2).put (d:=16) (v:= .c (.t ⟨.bool,!hZ ks (l.getD i bG)⟩)) (.c (.t _)) (.c (bP.bool _));have aj:nH Y ax g q ks:=⟨b.st,⟨E,u.heap g1⟩,⟨es,cv,u.heap g2,g3⟩,(b.dU g (by simp)).2,(b.dU q (by simp)).2⟩
  cases s:hZ ks (l.getD i bG)with
  |false=>
   refine wp_cond_true ((fH (b.bool (k:=16) rfl)).trans (by rw[s];rfl)) (wp_seq (b.fU 1 [bu .normal [(4,aa ad)] [.gone]] (o:=(i:Int)) .n (by kernel_rfl) λT z J R a D=>wp_ret ?_));simp only[Exit.inBlock,Exit.then];refine a.ret rfl rfl λy ak=>⟨(i:Int),z,?_,?_,a.ext,a.st⟩
   . cases ak;rfl
   . have:(l.any λx=>!hZ ks x)=true:=qw.2 ⟨l.getD i bG,eV I,by rw[s];rfl⟩;rw[this];simp
  |true=>
   refine wp_cond_false ((fH (b.bool (k:=16) rfl)).trans (by rw[s];rfl)) (wp_skip ?_);refine b.fU 1 [bu .normal [(0,aa (ay 5)),(1,.c (.fn 44 [0])),(7,aa ad),(8,aa ad)] [.gone]] (o:=(l,(l.length:Int),aS .i64 (i:Int) 1)) .n (by kernel_rfl) λT z J R a D=>?_;have ag:aS .i64 (i:Int) 1=((i+1:Nat):Int):=by
    have af:l.length<=dk:=a.len (k:=0) rfl;unfold dk at af;have aI:(i:Int)<281474976710656:=(by omega);unfold aS;rw[IntKind.wrap_i64];omega
   rw[ag]at a;refine ih (i+1) (by omega) (λj aJ=>?_) T z J R a (by rw[D.fix 0 (by decide)];exact L) (aj.next a D);by_cases an:j<i
   . exact B j an
   . have:j=i:=(by omega);subst this;exact⟨_,I,s⟩
theorem R7(l:List aK){j:Nat}(ao:nH S w g j ks)(F:bP w S (Cell.enc cu ⟨.slice (.nm 5),l⟩) v):
 Calls prog 42 #[v,.func (.func 44) #[] #[.pointer (some ⟨g,0,none⟩)]] w λe w'=>∃bj,e= .returned (.bool (l.any λx=>!hZ ks x))/\nJ S w bj w':=by
 refine calls_of_wp func42 rfl ?_;have A:=cC.enter (U:=cu) (gs:=[g,j]) (N:=1) (nt:=9) (φ:=λ_=>(g,0)) (args:=[.c (.t ⟨.slice (.nm 5),l⟩),.c (.fn 44 [0])]) (w:=w) (S:=S)
  (.cons (.c (.t _)) (.cons (.c (.fn 44 [0])) .nil)) (vs:=[v,.func (.func 44) #[] #[.pointer (some ⟨g,0,none⟩)]]) (.cons (.c F) (.cons (.c rfl) .nil)) rfl ao.st (sr rfl) ao.dU
 refine wp_seq (A.fU 1 [bu .normal [(0,aa (ay 5)),(1,.c (.fn 44 [0]))] [.gone]] (o:=l) .n (by kernel_rfl) λP G a1 K i dR=>?_);refine wp_seq (oE [0,1,2,3,4] ?_);refine i.op 1 0 2 [(5,aa (ay 5)),(6,.c (.fn 44 [0]))] [.gone] (h:=l) .n (by kernel_rfl) λs H a2 L a r=>?_;have C:=(ao.next i dR).next a r;obtain⟨u,cW,E⟩:=a.cell (k:=5) rfl;have p:(s 0).1=g:=by rw[r.fix 0 (by decide),dR.fix 0 (by decide)]
 refine Dl rfl rfl rfl (rM rfl rfl (f:=92) (caps:=[]) rfl (by kernel_rfl)) (args:=#[u,.func (.func 44) #[] #[.pointer (some ⟨g,0,none⟩)]]) ?_ ?_
 . simp[fH cW,fH (a.fn (k:=6) rfl),p]
 refine(Sf s l C p E).mono ?_
 rintro e M ⟨m,I,rfl,D,q⟩
 refine⟨_,rfl,?_⟩;have B:=(a.extend q.1 q.2).put (d:=7) (v:= .c (.t ⟨.int .i64,m⟩)) (.c (.t _)) (.c (bP.int _ _));refine B.op 1 3 2 [(4,aa .bool)] [.gone] (h:=decide (0<=m)) .n (by kernel_rfl) λQ z a4 O b J=>?_;refine wp_ret (b.ret rfl rfl λy ak=>⟨z,?_,b.ext,b.st⟩);cases ak;rw[D]
section
variable (ly:cq->Option Bool)(sK:List aK×aK->Option Bool)(sU:fi->Option aK)(nF nG:fi×aK->Option Bool)(qQ:fi×aK->Option (List aK))
def yO(p:fi)(l:List aK)(x:aK):Option Bool:=
 nF (p,x)>>=λa=>if !a then some false else nG (p,x)>>=λb=>if !b then some false else qQ (p,x)>>=λm=>some (m.all λy=>l.any λz=>(dZ y.bW z.bW&&(dZ y.bZ z.bZ&&true)))
def qX(g:aK->Option Bool):List aK->Option Bool
 |[]=>some true
 |x::r=>g x>>=λa=>qX g r>>=λb=>some (a&&b)
def BO:cq×cq×List aK->Option Bool
 |(w,r,l)=>
 ly w>>=λa=>if !a then some false else ly r>>=λb=>if !b then some false else sU (⟨w,r⟩:fi)>>=λq=>sK (l,q)>>=λc=>if !c then some false else qX (yO nF nG qQ (⟨w,r⟩:fi) l) l
end
theorem IQ{g:aK->Option Bool}:∀{l:List aK} {b:Bool},qX g l=some b->(∀x,x∈l->∃a,g x=some a/\(a=false->b=false))/\((∀x,x∈l->g x=some true)->b=true)
 |[],b,h=>by simp[qX]at h;simp[h]
 |x::r,b,h=>by
  simp only[qX,bind,bk]at h;obtain⟨a,c,j,i,h⟩:=h;obtain⟨h1,f⟩:=IQ i;simp at h;subst h;refine⟨λy ak=>?_,λd=>?_⟩
  . rcases fg.1 ak with rfl|ak
    . exact⟨a,c,λh=>by simp[h]⟩
    . obtain⟨b4,g1,g2⟩:=h1 y ak;exact⟨b4,g1,λh=>by simp[g2 h]⟩
  . have e:=d x (by simp);rw[c]at e;cases e;rw[f λy ak=>d y (by simp[ak])];rfl
def la(l:List aK):List (Int×Int):=l.foldl (λks x=>mr ks (x.bW,x.bZ)) []
theorem YO{x y:Int×Int}:hF (mr ks x) y=(hF ks y||decide (x=y)):=by
 unfold mr;split
 . rename_i h;by_cases a:x=y
   . subst a;simp[h]
   . simp[a]
 . simp[hF]
theorem YP(l:List aK)(x:aK):la (l++[x])=mr (la l) (x.bW,x.bZ):=by simp[la]
theorem Gm{y:aK}(l:List aK):hZ (la l) y=l.any λz=>(dZ y.bW z.bW&&(dZ y.bZ z.bZ&&true)):=by
 have key:∀(l:List aK) (ks:List (Int×Int)),hZ (l.foldl (λks x=>mr ks (x.bW,x.bZ)) ks) y=(hZ ks y||l.any λz=>(dZ y.bW z.bW&&(dZ y.bZ z.bZ&&true))):=by
  intro l;induction l with
  |nil=>simp
  |cons x l ih=>
   intro ks;rw[kK,ih];unfold hZ;rw[YO,List.any_cons,Bool.or_assoc]
   congr 2
   rw[qz];simp[dZ,Prod.ext_iff];constructor<;>rintro ⟨h1,a⟩<;>exact⟨h1.symm,a.symm⟩
 have:=key l [];simpa[hZ,hF,la]using this
theorem Zz{k:Int×Int}(l:List aK)(h:k∈la l):∃x,x∈l/\k=(x.bW,x.bZ):=by
 have:hZ (la l) ⟨k.1,k.2⟩=true:=by
  unfold hZ hF;rw[qw];exact⟨k,h,by simp⟩
 rw[Gm,qw]at this;obtain⟨z,a,h⟩:=this;simp[dZ]at h;exact⟨z,a,Prod.ext h.1 h.2⟩
theorem YQ(h:iC ks es){k:Int×Int}(c:k∈ks):∃e,e∈es/\e.key=dS k:=by
 obtain⟨i,b⟩:=zP.1 c;obtain⟨e,h1,a⟩:=h.get b;exact⟨e,eV h1,a.1⟩
theorem ZA(h:iC ks es){e:MapEntry}(he:e∈es):∃k,k∈ks/\e.key=dS k/\e.val= .bool true:=by
 induction h with
 |nil=>simp at he
 |cons h1 _ ih=>
  rcases fg.1 he with rfl|he
  . exact⟨_,by simp,h1⟩
  . obtain⟨k,a,h⟩:=ih he;exact⟨k,by simp[a],h⟩
section
variable {ly:cq->Option Bool}{sK:List aK×aK->Option Bool}{sU:fi->Option aK}{nF nG:fi×aK->Option Bool}{qQ:fi×aK->Option (List aK)}
theorem J9 (aT:eZ prog ((aW 37 [.row 12] (aa .bool)).s (U:=cu) ly))(bC:eZ prog ((aW 38 [aa (ay 5),.row 5] (aa .bool)).s (U:=cu) sK))(bD:eZ prog ((aW 39 [.row 13] (.row 5)).s (U:=cu) sU))
 (aQ:eZ prog ((aW 40 [.row 13,.row 5] (aa .bool)).s (U:=cu) nF))(aR:eZ prog ((aW 41 [.row 13,.row 5] (aa .bool)).s (U:=cu) nG))(cr:eZ prog ((aW 43 [.row 13,.row 5] (aa (ay 5))).s (U:=cu) qQ)):
 eZ prog ((aW 13 [.row 12,.row 12,aa (ay 5)] (aa .bool)).s (U:=cu) (BO ly sK sU nF nG qQ)):=by
 refine .hand (by kernel_rfl) ?_
 rintro ⟨rw,B,b7⟩ b bV φ S w dv vs cM aG cQ cw
 obtain⟨l,rfl⟩:∃l:List aK,l=b7:=⟨b7,rfl⟩
 refine calls_of_wp func13 rfl ?_;have cl:=cC.enter (U:=cu) (gs:=[]) (N:=0) (nt:=61) aG cQ cw cM (by rw[<-aG.length];exact sr rfl) (by simp);have X:∀{gs:aZ} {s:vt cu} {bo:c0} {aJ:c6} {a1:Act} {av:World} (T:cC ⟨w,S,λ_=>False,φ,0⟩ 61 gs s bo aJ a1 av),aX s.1 6=some (.c (.t ⟨.bool,b⟩))->bodyPost prog f13 (λe w'=>∃bj,e= .returned (.bool b)/\nJ S w bj w') .ret a1 av:=
  λT a8=>T.ret rfl a8 λy ak=>⟨_,by cases ak;rfl,T.ext,T.st⟩
 refine wp_seq (cl.fU 0 [bu .normal [(2,aa (ay 5)),(3,aq 0 0),(4,aq 1 0)] [.bd 12,.bd 12]] (o:=(l,rw,B)) .n (by kernel_rfl) λbo aJ a1 av J dR=>?_);obtain⟨c8,h1,bV⟩:=j5.1 bV;cases c8 with
 |false=>
  cases bV;refine wp_seq (J.fU 0 [bu .ret [(6,aa .bool)],bu .normal [(2,aa (ay 5)),(3,aq 0 0),(4,aq 1 0)] [.bd 12,.bd 12]] (o:= .inl false) (.k aT .n) ((show _=(ly rw>>=λA=>(if !(!A) then ly B else some false)>>=λF=>if(bif (!A)then true else(!F)) then some (Sum.inl false)else some (Sum.inr (l,rw,B))) by kernel_rfl).trans (by rw[h1];rfl)) λcd bq a2 O L b8=>X L rfl)
 |true=>
 obtain⟨c9,af,bV⟩:=j5.1 bV;cases c9 with
 |false=>
  cases bV;refine wp_seq (J.fU 0 [bu .ret [(6,aa .bool)],bu .normal [(2,aa (ay 5)),(3,aq 0 0),(4,aq 1 0)] [.bd 12,.bd 12]] (o:= .inl false) (.k aT .n) ((show _=(ly rw>>=λA=>(if !(!A) then ly B else some false)>>=λF=>if(bif (!A)then true else(!F)) then some (Sum.inl false)else some (Sum.inr (l,rw,B))) by kernel_rfl).trans (by rw[h1];simp[af];rfl)) λcd bq a2 O L b8=>X L rfl)
 |true=>
 refine wp_seq (J.fU 0 [bu .ret [(6,aa .bool)],bu .normal [(2,aa (ay 5)),(3,aq 0 0),(4,aq 1 0)] [.bd 12,.bd 12]] (o:= .inr (l,rw,B)) (.k aT .n) ((show _=(ly rw>>=λA=>(if !(!A) then ly B else some false)>>=λF=>if(bif (!A)then true else(!F)) then some (Sum.inl false)else some (Sum.inr (l,rw,B))) by kernel_rfl).trans (by rw[h1];simp[af];rfl)) λcd bq a2 O L b8=>?_);refine wp_seq (L.fU 0 [bu .normal [(2,aa (ay 5)),(7,aq 0 0)] [.bd 13]] (o:=(l,(⟨rw,B⟩:fi))) .n (by kernel_rfl) λdi cj a3 ca W cW=>?_);obtain⟨q,aC,bV⟩:=j5.1 bV;obtain⟨c',aD,bV⟩:=j5.1 bV;cases c' with
 |false=>
  cases bV;refine wp_seq (W.fU 0 [bu .ret [(6,aa .bool)],bu .normal [(2,aa (ay 5)),(7,aq 0 0)] [.bd 13]] (o:= .inl false) (.k bD (.k bC .n)) ((show _=(sU ⟨rw,B⟩>>=λq=>sK (l,q)>>=λc=>if !c then some (Sum.inl false)else some (Sum.inr (l,(⟨rw,B⟩:fi)))) by kernel_rfl).trans (by rw[aC];simp[aD];rfl)) λax aL a4 bm M V=>X M rfl)
 |true=>
 refine wp_seq (W.fU 0 [bu .ret [(6,aa .bool)],bu .normal [(2,aa (ay 5)),(7,aq 0 0)] [.bd 13]] (o:= .inr (l,(⟨rw,B⟩:fi))) (.k bD (.k bC .n)) ((show _=(sU ⟨rw,B⟩>>=λq=>sK (l,q)>>=λc=>if !c then some (Sum.inl false)else some (Sum.inr (l,(⟨rw,B⟩:fi)))) by kernel_rfl).trans (by rw[aC];simp[aD];rfl)) λax aL a4 bm M V=>?_);obtain⟨cs,cO⟩:=IQ bV;clear bV;generalize al:(⟨rw,B⟩:fi)=p at*;refine wp_seq (oE [0,1,2,3,4] ?_);refine M.op 0 0 2 [(2,aa (ay 5)),(7,aq 0 0),(29,aa ad)] [.bd 13] (h:=(l,(l.length:Int),p)) .n (by kernel_rfl) λdC dm a5 C aj ew=>?_;refine nu rfl rfl rfl (ad9 rfl Ay (fH (aj.int (k:=29) rfl))) ?_;have ae:=(aj.new (.map #[] 0)).put (d:=30) (x:= .map (some C.heap.size)) (v:= .c (.mp 1)) (.c (.mp 1)) (.c (by show _=Value.map (some _);simp[et]));refine nu rfl rfl rfl (abR rfl (z:= .map none) (by kernel_rfl) rfl) ?_
 have G:=(ae.new (.cells #[.map none] 85 (0,0))).put (d:=8) (x:= .pointer (some ⟨(C.alloc (.map #[] 0)).heap.size,0,none⟩)) (v:= .c (.ptr 2 0)) (.c (.ptr 2 0)) (.c (by show _=Value.pointer _;simp[et]));have ao:C.heap.size+1=(C.alloc (.map #[] 0)).heap.size:=by simp
 refine ad5 rfl rfl rfl rfl (by kernel_rfl) (b:=(C.alloc (.map #[] 0)).heap.size) (u:= .map none) (E:=85) (v:= .map (some C.heap.size)) (fH ((G.ptr (k:=8) rfl).trans (by simp[et]))) (fH ((G.mp (k:=30) rfl).trans (by simp[et]))) rfl rfl Shv.heap_alloc_new ?_;intro bn cX cY cZ c1 b9 bk;have bc:w.heap.size<=C.heap.size:=aj.ext.size;have H:=G.write (w':=bn) (g:=(C.alloc (.map #[] 0)).heap.size) (by simp) (by rw[<-ao];exact Nat.le_succ_of_le bc) cX cY cZ c1 bk;have ap:bn.heap[C.heap.size]?=some (.map #[] 0):=by
  rw[bk _ (by rw[<-ao];omega),q7 (by simp)];exact Shv.heap_alloc_new
 obtain⟨dj,ck,P,_⟩:=H.goto 0 (sh:=⟨[(2,aa (ay 5)),(7,aq 1 0),(8,aq 0 0)],[.gone,.bd 13]⟩) (ts:=[ay 5,.nm 13]) (h:=(l,p)) (by kernel_rfl);have aE:(dj 0).1=(C.alloc (.map #[] 0)).heap.size:=by
  have aN:=P.ptr (k:=8) rfl;have am:=H.ptr (k:=8) rfl;rw[aN]at am;simpa[et]using am
 have dz:w.heap.size<=(C.alloc (.map #[] 0)).heap.size:=by rw[<-ao];exact Nat.le_succ_of_le bc
 have cL:C.heap.size≠(C.alloc (.map #[] 0)).heap.size:=by rw[<-ao];omega
 clear G H ae ao bk;generalize (C.alloc (.map #[] 0)).heap.size=g at*;generalize C.heap.size=j at*;refine wp_seq (wp_seq (P.fU 1 [bu .normal [(2,aa (ay 5)),(7,aq 1 0),(8,aq 0 0),(31,aa (ay 5)),(32,aa ad),(33,aa ad)] [.gone,.bd 13]] (o:=(l,l,(l.length:Int),(0:Int),p)) .n (by kernel_rfl) λaI az bs b' Z Q=>?_));refine wp_block (Bp ?_);refine(show(∀(n i:Nat),i+n=l.length->∀bg bj b4 w' es cv,cC ⟨w,S,λ_=>False,φ,0⟩ 61 [g,j] (e7 (U:=cu) [bu .normal [(2,aa (ay 5)),(7,aq 1 0),(8,aq 0 0),(31,aa (ay 5)),(32,aa ad),(33,aa ad)] [.gone,.bd 13]] (l,l,(l.length:Int),(i:Int),p)).2 bg bj b4 w'->(bg 0).1=g->w'.heap[g]?=some (.cells #[.map (some j)] 85 (0,0))->w'.heap[j]?=some (.map es cv)->iC (la (l.take i)) es.toList->np es.toList cv->sH prog _ _ b4 w')from ?_)
  l.length 0 (by simp) aI az bs b' #[] 0 Z ((Q.fix 0 (by decide)).symm▸aE) ((Q.al g (by simp)).trans b9) ((Q.al j (by simp)).trans ap) .nil ⟨by simp,by simp⟩
 clear P Q Z b9 ap aE;intro n;induction n with
 |succ n ih=>
  intro i cB dd cg cn c3 es cv aM aP a0 a' ag an;have bQ:i<l.length:=by omega
  refine tT (wp_seq (aM.fU 1 [bu .normal [(2,aa (ay 5)),(7,aq 1 0),(8,aq 0 0),(31,aa (ay 5)),(32,aa ad),(33,aa ad),(34,aa .bool)] [.gone,.bd 13]] (o:=(l,l,(l.length:Int),(i:Int),decide ((i:Int)<l.length),p)) .n (by kernel_rfl) λcc ch cp r D R=>?_));refine wp_seq (wp_cond_true ((fH (D.bool (k:=34) rfl)).trans (by simp;omega)) (wp_skip ?_));refine wp_seq (wp_block (wp_seq ?_));refine D.fU 1 [bu .normal [(2,aa (ay 5)),(7,aq 1 0),(8,aq 0 0),(31,aa (ay 5)),(32,aa ad),(33,aa ad),(10,aq 2 0)] [.gone,.bd 13,.bd 5]] (o:=(l,l,(l.length:Int),(i:Int),p,l.getD (Int.toNat i) bG)) .n ((show _=(if aB (i:Int) (List.length l) then some _ else none) by kernel_rfl).trans (ai (by simp[aB];omega))) λde dl dq dA ah bh=>?_;have bA:(de 0).1=g:=by rw[bh.fix 0 (by decide),R.fix 0 (by decide)];exact aP
  have bJ:=(bh.al g (by simp)).trans ((R.al g (by simp)).trans a0);have cI:=(bh.al j (by simp)).trans ((R.al j (by simp)).trans a');refine oE [0,1,2] ?_;refine nu rfl rfl rfl (ld1 rfl (by kernel_rfl) (fH ((ah.ptr (k:=8) rfl).trans (by rw[bA]))) bJ (off:=0) rfl) ?_;have ab:=(ah.num j).put (d:=37) (x:= .map (some j)) (v:= .c (.mp 3)) (.c (.mp 3)) (.c (by show _=Value.map _;simp[et]));refine ab.op 4 1 1 [(2,aa (ay 5)),(7,aq 1 0),(8,aq 0 0),(31,aa (ay 5)),(32,aa ad),(33,aa ad),(37,.c (.mp 3)),(38,.row 5)] [.gone,.bd 13,.bd 5,.gone] (h:=(l,l,(l.length:Int),(i:Int),l.getD (Int.toNat i) bG,p,l.getD (Int.toNat i) bG)) .n (by kernel_rfl) λaw bp dr bl K aH=>?_;have aA:(aw 0).1=g:=by rw[aH.fix 0 (by decide)];simpa[et]using bA
  refine ad6 rfl rfl rfl rfl Ay (fH ((K.mp (k:=37) rfl).trans (by rw[aH.fix 3 (by decide)];simp[et]))) (fH (K.pair (k:=38) rfl)) rfl ((aH.al j (by simp)).trans cI) ag an λbx bv bY ct=>?_;have cm:=K.write (w':={bl with heap:=bl.heap.setIfInBounds j (.map bx bv)}) (g:=j) (by simp) bc rfl rfl rfl (by simp) (λb aU=>by simp[x2,du aU]);have aF:j<bl.heap.size:=(K.dU j (by simp)).1;refine cm.fU 1 [bu .normal [(2,aa (ay 5)),(7,aq 1 0),(8,aq 0 0),(31,aa (ay 5)),(32,aa ad),(33,aa ad)] [.gone,.bd 13]] (o:=(l,l,(l.length:Int),aS .i64 (i:Int) 1,p)) .n (by kernel_rfl) λdh ci cq c4 aO bi=>?_;have aG:aS .i64 (i:Int) 1=((i+1:Nat):Int):=by
   have aE:List.length l<=dk:=aO.len (k:=2) rfl;unfold dk at aE;have dx:(i:Int)<281474976710656:=(by omega);unfold aS;rw[IntKind.wrap_i64];omega
  rw[aG]at aO;refine ih (i+1) (by omega) dh ci cq c4 bx bv aO (by rw[bi.fix 0 (by decide)];exact aA) ?_ ?_ ?_ ct
  . rw[bi.al g (by simp)];simp[x2,cL];exact(aH.al g (by simp)).trans bJ
  . rw[bi.al j (by simp)];simp[x2,aF]
  . rw[List.take_add_one,df bQ];have e:l.getD (Int.toNat i) bG=l[i]:=(by simp[List.getD,df bQ]);rw[e]at bY;exact(YP _ _).symm▸bY
 |zero=>
  intro i cB dd cg cn c3 es cv aM aP a0 a' ag an;have cH:l.take i=l:=uU (by omega);rw[cH]at ag;refine tT (wp_seq (aM.fU 1 [bu .normal [(2,aa (ay 5)),(7,aq 1 0),(8,aq 0 0),(34,aa .bool)] [.gone,.bd 13]] (o:=(l,decide ((i:Int)<l.length),p)) .n (by kernel_rfl) λcc ch cp r D R=>?_));refine wp_seq (wp_cond_false ((fH (D.bool (k:=34) rfl)).trans (by simp;omega)) (wp_exit ?_));have bz:(cc 0).1=g:=by rw[R.fix 0 (by decide)];exact aP
  have a6:=(R.al g (by simp)).trans a0;have bb:=(R.al j (by simp)).trans a';refine wp_seq (wp_seq (oE [0,1] ?_));refine nu rfl rfl rfl (ld1 rfl (by kernel_rfl) (fH ((D.ptr (k:=8) rfl).trans (by rw[bz]))) a6 (off:=0) rfl) ?_;have ah:=D.put (d:=40) (x:= .map (some j)) (v:= .c .dead) (.c (.dead .dead)) (.c rfl);refine nu rfl rfl rfl (aes rfl Ay (fH (se (by rw[D.size];decide))) bb) ?_;have ab:=(ah.new (.mapIter (some j) cv #[] cv)).put (d:=41) (x:= .pointer (some ⟨r.heap.size,0,none⟩)) (v:= .c (.ptr 2 0)) (.c (.ptr 2 0)) (.c (by show _=Value.pointer _;simp[et]));obtain⟨aw,bp,K,_⟩:=ab.goto 0 (sh:=⟨[(2,aa (ay 5)),(7,aq 2 0),(8,aq 0 0),(41,aq 1 0)],[.gone,.gone,.bd 13]⟩) (ts:=[ay 5,.nm 13]) (h:=(l,p)) (by kernel_rfl);have bM:=(D.dU g (by simp)).1;have bX:=(D.dU j (by simp)).1;have aA:(aw 0).1=g:=by
   have aN:=K.ptr (k:=8) rfl;rw[ab.ptr (k:=8) rfl]at aN;simp[et]at aN;rw[<-aN];exact bz
  have b5:(aw 1).1=r.heap.size:=by
   have aN:=K.ptr (k:=41) rfl;rw[ab.ptr (k:=41) rfl]at aN;simp[et]at aN;exact aN.symm
  have bK:(r.alloc (.mapIter (some j) cv #[] cv)).heap[g]?=_:=(Shv.q7 bM).trans a6;have bT:(r.alloc (.mapIter (some j) cv #[] cv)).heap[j]?=_:=(Shv.q7 bX).trans bb;have bN:(r.alloc (.mapIter (some j) cv #[] cv)).heap[r.heap.size]?=_:=Shv.heap_alloc_new;have cR:w.heap.size<=r.heap.size:=D.ext.size;have cA:g≠r.heap.size:=by omega
  have cK:j≠r.heap.size:=by omega
  clear ab ah D R bM bX a6 bb;refine wp_block (Bp ?_);have cG:∀e,e∈es.toList->∃x,x∈l/\e.key=dS (x.bW,x.bZ)/\e.val= .bool true:=λe he=>by
   obtain⟨k,h1,af,aC⟩:=ZA ag he;obtain⟨x,I,rfl⟩:=Zz l h1;exact⟨x,I,af,aC⟩
  have c2:∀{x y:aK},dS (x.bW,x.bZ)=dS (y.bW,y.bZ)->x=y:=λ{x y} h=>by
   obtain⟨a,b⟩:=x;obtain⟨c,d⟩:=y;simp[dS]at h;rw[h.1,h.2]
  refine(λ(key:∀(n:Nat) (seen:Array Nat),(leftOf es seen).size=n->∀bg bj b4 w',cC ⟨w,S,λ_=>False,φ,0⟩ 61 [r.heap.size,g,j] (e7 (U:=cu) [bu .normal [(2,aa (ay 5)),(7,aq 2 0),(8,aq 0 0),(41,aq 1 0)] [.gone,.gone,.bd 13]] (l,p)).2 bg bj b4 w'->(bg 0).1=g->(bg 1).1=r.heap.size->w'.heap[g]?=some (.cells #[.map (some j)] 85 (0,0))->w'.heap[j]?=some (.map es cv)->w'.heap[r.heap.size]?=some (.mapIter (some j) cv seen cv)->(∀e,e∈es.toList->seen.contains e.born=true->∀x:aK,e.key=dS (x.bW,x.bZ)->yO nF nG qQ p l x=some true)->sH prog _ _ b4 w')=>key _ #[] rfl aw bp _ _ K aA b5 bK bT bN (by simp)) ?_;clear K aA b5 bK bT bN;intro n;induction n using Nat.strongRecOn with
  |_ n ih=>
  intro seen cN bo aJ a1 av J h1 b3 cx bS cD bF;refine tT (wp_seq (oE [0,1] ?_));refine ad4 rfl rfl rfl rfl (fH ((J.ptr (k:=41) rfl).trans (by rw[b3]))) cD bS an (λh0=>?_) λe he O b1=>?_
  . have L:=J.put (d:=42) (x:= .tuple #[.bool false]) (v:= .ba [.c (.t ⟨.bool,false⟩)]) (bR.sF (.cons (.c (.t _)) .nil)) (b2.sF (.cons (.c (bP.bool _)) .nil));refine L.op 2 1 1 [(2,aa (ay 5)),(7,aq 2 0),(8,aq 0 0),(41,aq 1 0),(43,aa .bool)] [.gone,.gone,.bd 13] (h:=(l,false,p)) .n (by kernel_rfl) λdi cj a3 ca W cW=>?_;refine wp_seq (wp_cond_false (fH (W.bool (k:=43) rfl)) (wp_exit ?_));have aU:b=true:=cO λx I=>by
     have:hZ (la l) x=true:=by
      rw[Gm,qw];exact⟨x,I,by simp[dZ]⟩
     unfold hZ hF at this;obtain⟨k,a8,a9⟩:=qw.1 this;have a9:=gf a9;obtain⟨e,he,af⟩:=YQ ag a8;exact bF e he (all_seen es seen h0 e he) x (by rw[af,a9])
    subst aU;exact W.fU 2 [bu .ret [(6,aa .bool)] [.gone,.gone]] (o:=true) .n (by kernel_rfl) λax aL a4 bm M V=>X M rfl
  . obtain⟨aY,dy⟩:=mem_left he;obtain⟨x,cS,aV,bI⟩:=cG e aY;rw[aV,bI];have L:=cC.set (q:=r.heap.size) (w:=O) (by rcases b1 with rfl|rfl;exact J;exact J.drew) (.mapIter (some j) cv (seen.push e.born) cv) (by simp) cR;have a7:O.heap=av.heap:=by rcases b1 with rfl|rfl<;>rfl
    have cy:(ChangeMaps.setBlock O r.heap.size (.mapIter (some j) cv (seen.push e.born) cv)).heap[g]?=some (.cells #[.map (some j)] 85 (0,0)):=(Fa cA).trans (a7▸cx);have cJ:(ChangeMaps.setBlock O r.heap.size (.mapIter (some j) cv (seen.push e.born) cv)).heap[j]?=some (.map es cv):=(Fa cK).trans (a7▸bS);have cE:(ChangeMaps.setBlock O r.heap.size (.mapIter (some j) cv (seen.push e.born) cv)).heap[r.heap.size]?=some (.mapIter (some j) cv (seen.push e.born) cv):=XC (by rw[a7];exact(J.dU _ (by simp)).1);generalize ChangeMaps.setBlock O r.heap.size (.mapIter (some j) cv (seen.push e.born) cv)=ca at*
    have W:=L.put (d:=42) (x:= .tuple #[.bool true,dS (x.bW,x.bZ),.bool true]) (v:= .ba [.c (.t ⟨.bool,true⟩),.agg [.t ⟨.int .i64,x.bW⟩,.t ⟨.int .i64,x.bZ⟩],.c (.t ⟨.bool,true⟩)]) (bR.sF (.cons (.c (.t _)) (.cons (bR.yD (x.bW,x.bZ)) (.cons (.c (.t _)) .nil)))) (b2.sF (.cons (.c (bP.bool _)) (.cons (b2.yD (x.bW,x.bZ)) (.cons (.c (bP.bool _)) .nil))));refine W.op 2 1 1 [(2,aa (ay 5)),(7,aq 2 0),(8,aq 0 0),(41,aq 1 0),(43,aa .bool)] [.gone,.gone,.bd 13] (h:=(l,true,p)) .n (by kernel_rfl) λax aL a4 bm M V=>?_;refine wp_seq (wp_cond_true (fH (M.bool (k:=43) rfl)) (wp_skip ?_));have aD:(ax 0).1=g:=by rw[V.fix 0 (by decide)];exact h1
    have b6:(ax 1).1=r.heap.size:=by rw[V.fix 1 (by decide)];exact b3
    have cz:=(V.al g (by simp)).trans cy;have bU:=(V.al j (by simp)).trans cJ;have bO:=(V.al r.heap.size (by simp)).trans cE;refine wp_block (wp_seq (oE [0,1,2,3] ?_));refine nu rfl rfl rfl (ady rfl (fH ((M.ptr (k:=41) rfl).trans (by rw[b6]))) bO bU aY an) ?_;rw[aV,bI];have aj:=M.put (d:=44) (x:= .tuple #[dS (x.bW,x.bZ),.bool true]) (v:= .ba [.agg [.t ⟨.int .i64,x.bW⟩,.t ⟨.int .i64,x.bZ⟩],.c (.t ⟨.bool,true⟩)]) (bR.sF (.cons (bR.yD (x.bW,x.bZ)) (.cons (.c (.t _)) .nil))) (b2.sF (.cons (b2.yD (x.bW,x.bZ)) (.cons (.c (bP.bool _)) .nil)));refine aj.op 2 1 3 [(2,aa (ay 5)),(7,aq 2 0),(8,aq 0 0),(41,aq 1 0),(11,aq 3 0)] [.gone,.gone,.bd 13,.bd 5] (h:=(l,p,x)) .n (by kernel_rfl) λdD dn ds dB ae ar=>?_;obtain⟨y,ak,bf⟩:=cs x cS;have cT:=ak;obtain⟨da,aN,ak⟩:=j5.1 ak;cases da with
    |false=>
     cases ak;cases bf rfl;refine wp_seq (ae.fU 2 [bu .ret [(6,aa .bool)] [.gone,.gone],bu .normal [(2,aa (ay 5)),(7,aq 2 0),(8,aq 0 0),(41,aq 1 0),(11,aq 3 0)] [.gone,.gone,.bd 13,.bd 5]] (o:= .inl false) (.k aQ (.k aR .n)) ((show _=(nF (p,x)>>=λA=>(if !(!A) then nG (p,x)else some false)>>=λF=>if(bif (!A)then true else(!F)) then some (Sum.inl false)else some (Sum.inr (l,p,x))) by kernel_rfl).trans (by rw[aN];rfl)) λce br bt cb G Y=>?_);exact X G rfl
    |true=>
    obtain⟨db,am,ak⟩:=j5.1 ak;cases db with
    |false=>
     cases ak;cases bf rfl;refine wp_seq (ae.fU 2 [bu .ret [(6,aa .bool)] [.gone,.gone],bu .normal [(2,aa (ay 5)),(7,aq 2 0),(8,aq 0 0),(41,aq 1 0),(11,aq 3 0)] [.gone,.gone,.bd 13,.bd 5]] (o:= .inl false) (.k aQ (.k aR .n)) ((show _=(nF (p,x)>>=λA=>(if !(!A) then nG (p,x)else some false)>>=λF=>if(bif (!A)then true else(!F)) then some (Sum.inl false)else some (Sum.inr (l,p,x))) by kernel_rfl).trans (by rw[aN];simp[am];rfl)) λce br bt cb G Y=>?_);exact X G rfl
    |true=>
    obtain⟨m,dw,ak⟩:=j5.1 ak;refine wp_seq (ae.fU 2 [bu .ret [(6,aa .bool)] [.gone,.gone],bu .normal [(2,aa (ay 5)),(7,aq 2 0),(8,aq 0 0),(41,aq 1 0),(11,aq 3 0)] [.gone,.gone,.bd 13,.bd 5]] (o:= .inr (l,p,x)) (.k aQ (.k aR .n)) ((show _=(nF (p,x)>>=λA=>(if !(!A) then nG (p,x)else some false)>>=λF=>if(bif (!A)then true else(!F)) then some (Sum.inl false)else some (Sum.inr (l,p,x))) by kernel_rfl).trans (by rw[aN];simp[am];rfl)) λce br bt cb G Y=>?_);refine wp_seq (oE [0,1,2,3,4] ?_);refine G.op 2 0 4 [(2,aa (ay 5)),(7,aq 2 0),(8,aq 0 0),(41,aq 1 0),(58,aa (ay 5)),(59,.c (.fn 44 [0]))] [.gone,.gone,.bd 13] (h:=(l,m,p)) (.k cr .n) ((show _=(qQ (p,x)>>=λm=>some (l,m,p)) by kernel_rfl).trans (by rw[dw];rfl)) λcf dp dt bn H au=>?_;have bB:(cf 0).1=g:=by rw[au.fix 0 (by decide),Y.fix 0 (by decide),ar.fix 0 (by decide)];exact aD
    have cU:(cf 1).1=r.heap.size:=by rw[au.fix 1 (by decide),Y.fix 1 (by decide),ar.fix 1 (by decide)];exact b6
    have bL:=(au.al g (by simp)).trans ((Y.al g (by simp)).trans ((ar.al g (by simp)).trans cz));have ap:=(au.al j (by simp)).trans ((Y.al j (by simp)).trans ((ar.al j (by simp)).trans bU));have cF:=(au.al r.heap.size (by simp)).trans ((Y.al r.heap.size (by simp)).trans ((ar.al r.heap.size (by simp)).trans bO));obtain⟨u,cV,cP⟩:=H.cell (k:=58) rfl;refine Dl rfl rfl rfl (rM rfl rfl (f:=42) (caps:=[]) rfl (by kernel_rfl)) (args:=#[u,.func (.func 44) #[] #[.pointer (some ⟨g,0,none⟩)]]) ?_ ?_
    . simp[fH cV,fH (H.fn (k:=59) rfl),bB]
    refine(R7 m ⟨H.st,⟨_,bL⟩,⟨_,_,ap,ag⟩,(H.dU g (by simp)).2,(H.dU j (by simp)).2⟩ cP).mono ?_
    rintro dc c5 ⟨ck,rfl,gr⟩
    refine⟨_,rfl,?_⟩;have P:=(H.extend gr.1 gr.2).put (d:=60) (x:= .bool (m.any λx=>!hZ (la l) x)) (v:= .c (.t ⟨.bool,m.any λx=>!hZ (la l) x⟩)) (.c (.t _)) (.c (bP.bool _));have bE:(m.any λx=>!hZ (la l) x)=!y:=by
     cases ak;rw[List.not_all_eq_any_not]
     congr 1
     funext y
     rw[Gm]
    cases y with
    |false=>
     cases bf rfl;refine wp_cond_true ((fH (P.bool (k:=60) rfl)).trans (by rw[bE];rfl)) ?_;refine P.fU 2 [bu .ret [(6,aa .bool)] [.gone,.gone]] (o:=false) .n (by kernel_rfl) λaI az bs b' Z Q=>?_;exact X Z rfl
    |true=>
     refine wp_cond_false ((fH (P.bool (k:=60) rfl)).trans (by rw[bE];rfl)) (wp_skip ?_);obtain⟨aI,az,Z,Q⟩:=P.goto 2 (sh:=⟨[(2,aa (ay 5)),(7,aq 2 0),(8,aq 0 0),(41,aq 1 0)],[.gone,.gone,.bd 13]⟩) (ts:=[ay 5,.nm 13]) (h:=(l,p)) (by kernel_rfl);refine ih _ (by rw[<-cN];exact left_shrinks es seen e he) (seen.push e.born) rfl aI az _ c5 Z (by rw[Q.fix 0 (by decide)];exact bB) (by rw[Q.fix 1 (by decide)];exact cU) (gr.heap bL) (gr.heap ap) (gr.heap cF) λbw bH b0 c7 be=>?_;rw[contains_push]at b0;rcases lj _ _▸b0 with h|h
     . exact bF bw bH h c7 be
     . have:bw=e:=born_inj an.2 bH aY (hL.1 h);subst this;rw[aV]at be;rw[<-c2 be];exact cT
end
abbrev bc(e:eh)(F:aJ cu.D e.ts->Option (aJ cu.D e.us)):Prop:=eZ prog (e.s F)
abbrev cb(f kk:Nat)(p:aZ)(e:fV)(F:aJ cu.D e.ts->Option (ec cu e.outs)):Prop:=mn prog f kk p e F
abbrev Mi(e:eh):Prop:=hQ prog e
abbrev eM(e:eh):aJ cu.D e.ts->aJ cu.D e.us->Prop:=y9 prog cu e
abbrev fp(f kk:Nat)(p:aZ)(e:fV):aJ cu.D e.ts->ec cu e.outs->Prop:=vp prog cu f kk p e
abbrev eR(e:eh)(F:aJ cu.D e.ts->Option (aJ cu.D e.us)):Prop:=∀h r,F h=some r->eM e h r
abbrev fq(f kk:Nat)(p:aZ)(e:fV)(F:aJ cu.D e.ts->Option (ec cu e.outs)):Prop:=∀h r,F h=some r->fp f kk p e h r
theorem eX{e:eh}{h:aJ cu.D e.ts}{r:aJ cu.D e.us}{x:Option (aJ cu.D e.us)}(h0:x=some r)(b:hP prog fs:=by exact .n){a:List (Nat×gJ cu)}(ag:iY prog e.f e.st.length [] a:=by exact .n)(k:Mi e:=by exact .m (by kernel_rfl))(I:oV (gD fs) (j4 a) prog e h=x:=by kernel_rfl):eM e h r:= .at k b ag (I.trans h0)
theorem fL(e:fV){F:aJ cu.D e.ts->Option (ec cu e.outs)}(bV:fq f kk p e F){h:aJ cu.D e.ts}{o:ec cu e.outs}{x:Option (ec cu e.outs)}(h0:x=some o)(b:hP prog fs:=by exact .n){a:List (Nat×gJ cu)}(ag:iY prog f kk p a:=by exact .n)(I:qo (gD fs) (j4 a) kk (oN prog f p) e F h=x:=by kernel_rfl):fp f kk p e h o:= .at bV b ag (I.trans h0)
theorem cN(e:eh){F:aJ cu.D e.ts->Option (aJ cu.D e.us)}(h:eR e F)(k:Mi e:=by exact .m (by kernel_rfl)):bc e F:= .of k h
theorem fM(e:fV){F:aJ cu.D e.ts->Option (ec cu e.outs)}(h:fq f kk p e F):cb f kk p e F:= .of h
def ac8:=aW 82 [.row 1,aa ad] (aa ad)
def ac9:=aW 83 [aa ad] (aa .bool)
def ac':=aW 84 [.row 2] (aa ad)
def ada:=aW 85 [.row 2] (aa ad)
def N3:=bI 0 [(1,aq 0 0),(3,.c (.arr 1)),(4,aa ad)] [.bd 2,.arr ad] [bu (.exit 0) [(3,.c (.arr 0))] [.arr ad]] [] [(.slot 3,ad)]
def adb:=aW 86 [.row 2] (aa cK) [N3]
def acD:=aW 196 [aa ad] (aa .bool)
def Ka:=bI 0 [(3,aq 0 0),(7,aa ad),(9,aa ad)] [b6 (ay 2)] [dV 6 ad,e5 0]
def acn:=aW 138 [.row 1,aa ad,aa (.int .u8)] (aa ad) [Ka]
def acp:=aW 140 [aa ad] (aa .bool)
def N5:=bI 0 [(1,aa (.int .u8)),(2,aq 0 0),(5,aa ad),(6,aa ad)] [b6 (ay 2)] [dV 4 ad,e5 0]
def adf:=aW 88 [.row 1,aa (.int .u8)] (aa ad) [N5]
def aco:=aW 139 [.row 1,aa ad,aa (.int .u8)] (.ba [.row 9,aa .bool])
def Jg:=bI 0 [(1,aa ad),(2,aa .bool),(3,aq 0 0),(7,aq 1 0),(8,.c (.arr 2)),(9,aa ad),(10,aa ad)] [b6 (ay 2),.bd 2,.arr (.nm 8)] [bu (.exit 2) [(1,aa ad),(2,aa .bool),(3,aq 0 0),(7,aq 1 0),(8,.c (.arr 2)),(9,aa ad)] [b6 (ay 2),.bd 2,.arr (.nm 8)]]
def N4:=bI 0 [(1,aa ad),(2,aa .bool),(3,aq 0 0),(7,aq 1 0),(8,.c (.arr 2)),(9,aa ad)] [b6 (ay 2),.bd 2,.arr (.nm 8)] [bu (.exit 0) [(8,.c (.arr 0))] [.arr (.nm 8)]] [Jg] [(.slot 8,.nm 8)]
def ade:=aW 87 [.row 1,aa ad,aa .bool] (aa (ay 8)) [N4]
def Jh:=bI 0 [(1,aq 0 0),(2,aq 1 0),(4,aa ad),(5,aq 2 0),(6,aa ad),(8,aq 3 0),(9,aa cK),(10,aa ad)] [b6 (ay 2),.box [.aT],.box [.arr 4],.box [.hole ad,.hole .str,.hole ad,.hole ad,.hole ad,.arr 5,.aT,.hole ad,.hole ad,.hole .bool],.arr (.nm 6),.arr (.nm 7)] [bu (.exit 3) [(1,aq 0 0),(2,aq 1 0),(4,aa ad),(5,aq 2 0),(6,aa ad),(8,aq 3 0)] [b6 (ay 2),.box [.aT],.box [.arr 4],.box [.hole ad,.hole .str,.hole ad,.hole ad,.hole ad,.arr 5,.aT,.hole ad,.hole ad,.hole .bool],.arr (.nm 6),.arr (.nm 7)]] [] [(.via 8 5,.nm 7)]
def NN:=bI 0 [(1,aq 0 0),(2,aq 1 0),(4,aa ad),(5,aq 2 0),(6,aa ad)] [b6 (ay 2),.box [.aT],.box [.arr 3],.arr (.nm 6)] [bu (.exit 0) [(2,aq 0 0),(5,aq 1 0)] [.box [.aT],.box [.arr 2],.arr (.nm 6)]] [Jh] [(.via 5 0,.nm 6)]
def acW:=aW 34 [.row 1] (.ba [.row 11,aa .bool]) [NN]
def NO:=bI 0 [(1,aa (ay 4)),(4,aq 0 0),(5,aq 1 0),(6,aa ad)] [.box [.aT],.box [.arr 2],.arr (.nm 2)] [bu (.exit 0) [(4,aq 0 0),(5,aq 1 0)] [.box [.aT],.box [.arr 2],.arr (.nm 2)]]
def acX:=aW 35 [.row 1,aa (ay 4)] (.row 1) [NO]
def ab':=aW 11 [.row 0] (.ba [.row 12,.row 12,aa .bool])
def NP:=aW 36 [aa ad] (.row 12)
def Kb:=bI 0 [(0,aa (ay 7)),(1,aa (ay 7)),(12,aa ad),(13,aa ad)] [] [dV 4 .bool,e5 0]
def NH:=aW 324 [aa (ay 7),aa (ay 7)] (aa .bool) [Kb]
def Kc:=bI 0 [(0,aa (ay 10)),(1,aa (ay 10)),(12,aa ad),(13,aa ad)] [] [dV 4 .bool,e5 0]
def NB:=aW 316 [aa (ay 10),aa (ay 10)] (aa .bool) [Kc]
def yf:=bI 0 [(1,aa (ay 9)),(2,.c (.fn 327 [])),(15,aa (ay 9)),(16,aa ad),(17,aa ad)] [] [dV 6 .bool,e5 0]
def B9:=aW 317 [aa (ay 9),aa (ay 9),.c (.fn 327 [])] (aa .bool) [yf]
def vE:=aW 327 [.row 9,.row 9] (aa .bool)
def NJ:=aW 326 [.row 8,.row 8] (aa .bool)
def Kd:=bI 0 [(1,aa (ay 8)),(2,.c (.fn 326 [])),(15,aa (ay 8)),(16,aa ad),(17,aa ad)] [] [dV 6 .bool,e5 0]
def NI:=aW 325 [aa (ay 8),aa (ay 8),.c (.fn 326 [])] (aa .bool) [Kd]
def Nq:=aW 278 [.row 6,.row 6] (aa .bool)
def NC:=aW 320 [aa (.int .u8)] (aa .bool)
def ND:=aW 321 [aa (.int .u8)] (aa .bool)
def Ke:=bI 0 [(0,aa .str),(18,aa ad),(19,aa ad)] [] [dV 2 .bool,e5 0]
def Nn:=aW 275 [aa .str] (aa .bool) [Ke]
def Kf:=bI 0 [(0,aa cK),(1,aa oT),(5,.c (.mp 0)),(9,aa cK),(10,aa ad),(11,aa ad)] [.set] [dV 4 .bool,bu (.exit 0) [(0,aa cK)]]
def NF:=aW 322 [aa cK,aa oT] (aa .bool) [Kf]
def Kg:=bI 0 [(0,aa (ay 7)),(3,.c (.arr 0)),(4,.c (.arr 1)),(7,aa (ay 7)),(8,aa ad),(9,aa ad)] [.arr ad,.arr .str] [bu (.exit 0) [(0,aa (ay 7)),(3,.c (.arr 0)),(4,.c (.arr 1))] [.arr ad,.arr .str]] [] [(.slot 3,ad),(.slot 4,.str)]
def No:=aW 276 [aa (ay 7)] (aa .bool) [Kg]
def NG:=aW 323 [.row 9] (aa .bool)
def Lx:=bI 0 [(1,aq 0 0),(3,.c (.arr 1)),(4,.c (.arr 2)),(8,aa (ay 8)),(9,aa ad),(10,aa ad)] [.bd 6,.arr ad,.arr .str] [dV 2 .bool,bu (.exit 0) [(1,aq 0 0),(3,.c (.arr 1)),(4,.c (.arr 2))] [.bd 6,.arr ad,.arr .str]] [] [(.slot 3,ad),(.slot 4,.str)]
def Np:=aW 277 [.row 6] (aa .bool) [Lx]
def MZ:=aW 206 [.row 6] (aa .bool)
def Ly:=bI 0 [(1,aq 0 0),(3,.c (.arr 1)),(7,aa (ay 8)),(8,aa ad),(9,aa ad)] [.bd 6,.arr ad] [bu (.exit 0) [(1,aq 0 0),(3,.c (.arr 1))] [.bd 6,.arr ad]] [] [(.slot 3,ad)]
def M0:=aW 207 [.row 6] (aa cK) [Ly]
def H':=bI 0 [(1,aq 0 0),(3,.c (.mp 1)),(5,aq 2 0),(14,aa (ay 6)),(15,aa ad),(16,aa ad),(38,aa cK),(39,aa ad),(40,aa ad)] [b6 (ay 6),.set,.box [.hole ad,.hole .str,.hole ad,.hole ad,.hole ad,.hole (ay 7),.hole (ay 8),.hole ad,.hole ad,.hole .bool]] [dV 2 ad,bu (.exit 2) [(1,aq 0 0),(3,.c (.mp 1)),(5,aq 2 0),(14,aa (ay 6)),(15,aa ad),(16,aa ad)] [b6 (ay 6),.set,.box [.hole ad,.hole .str,.hole ad,.hole ad,.hole ad,.hole (ay 7),.hole (ay 8),.hole ad,.hole ad,.hole .bool]]]
def Lz:=bI 0 [(1,aq 0 0),(3,.c (.mp 1)),(14,aa (ay 6)),(15,aa ad),(16,aa ad)] [b6 (ay 6),.set] [dV 2 ad,e5 0] [H']
def MD:=aW 147 [.row 11] (aa ad) [Lz]
def M6:=aW 216 [.row 9] (.row 9)
def ME:=aW 149 [.row 9] (aa .bool)
def M8:=aW 218 [.row 7,aq 0 0] (aa .bool) [] [b6 ad] [b6 ad]
def LA:=bI 0 [(0,aa (ay 7)),(1,.c (.fn 218 [0])),(7,aa ad),(8,aa ad)] [b6 ad] [bu .ret [(4,aa ad)] [b6 ad],bu (.exit 0) [] [b6 ad]]
def M7:=aW 217 [aa (ay 7),.c (.fn 218 [0])] (aa ad) [LA] [b6 ad] [b6 ad]
def MF:=aW 150 [.row 6,aa ad] (.ba [aa ad,aa .bool])
def MG:=aW 151 [aa ad] (aa .bool)
def M':=aW 220 [.row 8,aq 0 0] (aa .bool) [] [b6 ad] [b6 ad]
def LB:=bI 0 [(0,aa (ay 8)),(1,.c (.fn 220 [0])),(7,aa ad),(8,aa ad)] [b6 ad] [bu .ret [(4,aa ad)] [b6 ad],bu (.exit 0) [] [b6 ad]]
def M9:=aW 219 [aa (ay 8),.c (.fn 220 [0])] (aa ad) [LB] [b6 ad] [b6 ad]
def MH:=aW 152 [.row 6,aa ad] (.ba [aa ad,aa .bool])
def zA:=aW 222 [.row 9,aq 0 0,aq 1 0,aq 2 0] (aa .bool) [] [b6 (ay 6),b6 ad,b6 .bool] [b6 (ay 6),b6 ad,b6 .bool]
def xR:=bI 0 [(0,aa (ay 9)),(1,.c (.fn 222 [0,1,2])),(7,aa ad),(8,aa ad)] [b6 (ay 6),b6 ad,b6 .bool] [bu .ret [(4,aa ad)] [b6 (ay 6),b6 ad,b6 .bool],bu (.exit 0) [] [b6 (ay 6),b6 ad,b6 .bool]]
def zB:=aW 285 [aa (ay 9),.c (.fn 222 [0,1,2])] (aa ad) [xR] [b6 (ay 6),b6 ad,b6 .bool] [b6 (ay 6),b6 ad,b6 .bool]
def zz:=aW 221 [aa (ay 9),.c (.fn 222 [0,1,2])] (aa .bool) [] [b6 (ay 6),b6 ad,b6 .bool] [b6 (ay 6),b6 ad,b6 .bool]
def zm:=aW 153 [.row 11,aa ad,aa (ay 9),aa .bool] (aa .bool)
def MM:=aW 158 [aa ad] (aa (.int .u64))
def Nw:=aW 286 [aa (.int .u64)] (aa .bool)
def Na:=aW 223 [aa (.int .u64),aa (.int .u64)] (aa ad)
def Nx:=aW 287 [aa ad] (aa .bool)
def Nc:=aW 225 [aa ad,aa ad] (aa ad)
def Ny:=aW 288 [aa .str] (aa .bool)
def Nd:=aW 226 [aa .str,aa .str] (aa ad)
def LC:=bI 0 [(3,aa ad),(6,aa cK),(7,aa ad),(8,aa ad)] [] [dV 2 ad,bu (.exit 0) [(3,aa ad)]]
def Nb:=aW 224 [aa cK] (aa ad) [LC]
def MI:=aW 154 [.row 9,.row 9] (aa ad)
def LD:=bI 0 [(3,aa .bool),(4,aq 0 0),(6,aq 1 0),(9,aq 2 0),(111,aa (ay 10)),(112,aa ad),(113,aa ad)] [b6 (ay 6),.bd 9,.box [.hole ad,.hole .str,.hole ad,.hole ad,.hole ad,.hole (ay 7),.hole (ay 8),.hole ad,.hole ad,.hole .bool]] [dV 8 .bool,bu (.exit 1) [(3,aa .bool),(4,aq 0 0),(6,aq 1 0),(9,aq 2 0)] [b6 (ay 6),.box [.hole ad,.hole .bool,.hole ad,.hole .str,.hole ad,.hole (ay 9),.hole (ay 9),.hole (ay 10)],.box [.hole ad,.hole .str,.hole ad,.hole ad,.hole ad,.hole (ay 7),.hole (ay 8),.hole ad,.hole ad,.hole .bool]]]
def xS:=bI 1 [(3,aa .bool),(4,aq 0 0),(6,aq 1 0),(150,aa (ay 8)),(151,aa ad),(152,aa ad)] [b6 (ay 6),.box [.hole ad,.hole .bool,.hole ad,.hole .str,.hole ad,.hole (ay 9),.hole (ay 9),.hole (ay 10)]] [dV 8 .bool,e5 3]
def LF:=bI 2 [(3,aa .bool),(4,aq 0 0),(6,aq 1 0),(9,aq 2 0),(20,aa ad)] [b6 (ay 6),.bd 9,.box [.hole ad,.hole .str,.hole ad,.hole ad,.hole ad,.hole (ay 7),.hole (ay 8),.hole ad,.hole ad,.hole .bool]] [dV 8 .bool,bu (.exit 5) [(3,aa .bool),(4,aq 0 0),(6,aq 1 0),(9,aq 2 0)] [b6 (ay 6),.bd 9,.box [.hole ad,.hole .str,.hole ad,.hole ad,.hole ad,.hole (ay 7),.hole (ay 8),.hole ad,.hole ad,.hole .bool]]]
def q3:=aW 101 [.row 11,aa ad,.row 9,aa .bool] (aa .bool) [LD,xS,LF]
def NY:=aW 54 [.row 11,aa ad,.row 9] (aa .bool)
def Ia:=bI 0 [(1,aq 0 0),(6,aa ad),(16,aa (ay 6)),(17,aa ad),(18,aa ad),(24,aa (ay 8)),(25,aa ad),(26,aa ad)] [b6 (ay 6)] [bu .ret [(2,aa ad),(3,aa ad),(4,aa ad)],bu (.exit 2) [(1,aq 0 0),(16,aa (ay 6)),(17,aa ad),(18,aa ad)] [b6 (ay 6)]]
def LG:=bI 0 [(1,aq 0 0),(16,aa (ay 6)),(17,aa ad),(18,aa ad)] [b6 (ay 6)] [bu .ret [(2,aa ad),(3,aa ad),(4,aa ad)],e5 0] [Ia]
def Nk:=aW 270 [.row 11] (.ba [aa ad,aa ad,aa ad]) [LG]
def MR:=aW 197 [.row 11] (aa ad)
def LH:=bI 0 [(1,.c (.arr 0)),(5,aa ad),(33,aa (ay 8)),(34,aa ad),(35,aa ad)] [.arr ad] [bu (.exit 1) [(5,aa ad)] [.arr ad]]
def LI:=bI 1 [(1,.c (.arr 0)),(8,aa ad),(52,aa (ay 8)),(53,aa ad),(54,aa ad)] [.arr ad] [bu (.exit 3) [(8,aa ad)] [.arr ad]]
def Nl:=aW 271 [.row 6,.c (.arr 0)] (aa ad) [LH,LI] [.arr ad] [.arr ad]
def Ib:=bI 0 [(1,aq 0 0),(3,.c (.arr 1)),(4,aa .bool),(14,aa (ay 6)),(15,aa ad),(16,aa ad)] [b6 (ay 6),.arr ad] [bu (.exit 2) [(1,aq 0 0),(3,.c (.arr 1)),(4,aa .bool)] [b6 (ay 6),.arr ad]]
def LJ:=bI 0 [(1,aq 0 0),(3,.c (.arr 1)),(4,aa .bool)] [b6 (ay 6),.arr ad] [bu (.exit 0) [(3,.c (.arr 0))] [.arr ad]] [Ib]
def MS:=aW 198 [.row 11] (aa cK) [LJ]
def LK:=bI 0 [(5,.c (.arr 0)),(14,aa cK),(15,aa ad),(16,aa ad)] [.arr .bool] [bu (.exit 0) [(5,.c (.arr 0))] [.arr .bool]] [] [(.slot 5,.bool)]
def Mz:=aW 141 [.row 11] (.ba [aa (.slice .bool),aa ad]) [LK]
def N7:=bI 0 [(15,aa (.slice .bool)),(16,aa ad),(17,aa ad)] [] [dV 2 ad,e5 0]
def N6:=aW 89 [.row 11] (aa ad) [N7]
def C1:=aW 37 [.row 12] (aa .bool)
def Ji:=bI 0 [(0,aa (ay 5)),(3,aq 0 0),(7,aa ad),(8,aa ad)] [.bd 5] [dV 4 ad,e5 0]
def N8:=aW 90 [aa (ay 5),.row 5] (aa ad) [Ji]
def C2:=aW 38 [aa (ay 5),.row 5] (aa .bool)
def C3:=aW 39 [.row 13] (.row 5)
def C4:=aW 40 [.row 13,.row 5] (aa .bool)
def MT:=aW 199 [.row 11,aa ad] (aa ad)
def MA:=aW 142 [.row 12,.row 12] (aa ad)
def MV:=aW 200 [.row 6] (aa ad)
def LL:=bI 0 [(2,aq 0 0),(3,aq 1 0),(16,aa (ay 7)),(17,aa ad),(18,aa ad)] [.bd 6,.bd 6] [dV 4 .bool,bu (.exit 0) [(2,aq 0 0),(3,aq 1 0)] [.bd 6,.bd 6]]
def LM:=bI 1 [(3,aq 0 0),(33,aa (ay 8)),(34,aa ad),(35,aa ad)] [.bd 6] [dV 4 .bool,e5 2]
def MW:=aW 201 [.row 6,.row 6] (aa .bool) [LL,LM]
def MO:=aW 162 [.row 11,aa ad] (aa ad)
def My:=aW 104 [.row 11,aa ad,.row 9,.row 11,aa ad] (aa ad)
def MP:=aW 163 [aq 0 0] (.ba [.row 9,aa .bool]) [] [.box [.hole (ay 6),.hole (ay 6),.arr 1,.hole cK],.arr ad] [.box [.hole (ay 6),.hole (ay 6),.arr 2,.arr 3],.gone,.arr ad,.arr ad]
def Ni:=aW 233 [aq 0 0,aa ad] (.ba [.row 9,aa .bool]) [] [.box [.hole (ay 6),.hole (ay 6),.arr 1,.hole cK],.arr ad] [.box [.hole (ay 6),.hole (ay 6),.arr 2,.arr 3],.gone,.arr ad,.arr ad]
def xT:=bI 0 [(1,aq 0 0),(2,aq 1 0),(20,.c (.arr 2)),(21,aa ad),(22,aa ad)] [.box [.hole ad,.hole .bool,.hole ad,.hole .str,.hole ad,.arr 2,.arr 3,.arr 4],.box [.hole ad,.hole .bool,.hole ad,.hole .str,.hole ad,.aT,.aT,.aT],.arr (.nm 9),.arr (.nm 9),.arr (.nm 10)] [bu (.exit 0) [(1,aq 0 0),(2,aq 1 0)] [.box [.hole ad,.hole .bool,.hole ad,.hole .str,.hole ad,.arr 2,.arr 3,.arr 4],.box [.hole ad,.hole .bool,.hole ad,.hole .str,.hole ad,.aT,.aT,.aT],.arr (.nm 9),.arr (.nm 9),.arr (.nm 10)]]
def x8:=bI 1 [(1,aq 0 0),(2,aq 1 0),(35,.c (.arr 2)),(36,aa ad),(37,aa ad)] [.box [.hole ad,.hole .bool,.hole ad,.hole .str,.hole ad,.arr 3,.arr 2,.arr 4],.box [.hole ad,.hole .bool,.hole ad,.hole .str,.hole ad,.aT,.aT,.aT],.arr (.nm 9),.arr (.nm 9),.arr (.nm 10)] [bu (.exit 2) [(1,aq 0 0),(2,aq 1 0)] [.box [.hole ad,.hole .bool,.hole ad,.hole .str,.hole ad,.arr 2,.arr 3,.arr 4],.box [.hole ad,.hole .bool,.hole ad,.hole .str,.hole ad,.aT,.aT,.aT],.arr (.nm 9),.arr (.nm 9),.arr (.nm 10)]]
def s6:=aW 234 [.row 9] (.row 9) [xT,x8]
def s7:=aW 235 [aq 0 0,aa ad,aa ad,.row 9,aa ad] (.ba [.row 9,aa .bool]) [] [.box [.hole (ay 6),.hole (ay 6),.arr 1,.hole cK],.arr ad] [.box [.hole (ay 6),.hole (ay 6),.arr 2,.hole cK],.gone,.arr ad]
def yg:=bI 0 [(1,aa (ay 9)),(2,.c (.fn 272 [])),(15,aa (ay 9)),(16,aa ad),(17,aa ad)] [] [dV 6 .bool,e5 0]
def B':=aW 317 [aa (ay 9),aa (ay 9),.c (.fn 272 [])] (aa .bool) [yg]
def vD:=aW 272 [.row 9,.row 9] (aa .bool)
def Nj:=aW 236 [.row 8,.row 9] (aa .bool)
def LN:=bI 0 [(0,aa (.int .u64)),(3,aq 0 0),(4,aa ad)] [.arr (.int .u8)] [bu (.exit 0) [(0,aa (.int .u64)),(3,aq 0 0),(4,aa ad)] [.arr (.int .u8)]]
def Nh:=aW 231 [aa (.int .u64)] (aa .str) [LN]
def MN:=aW 161 [aa .str] (aa .str)
def Ng:=aW 228 [aa ad,aa .bool,aa .str] (aa .str)
def Nz:=aW 293 [aa ad,aa .bool,aa .str] (.ba [aa .str,aa ad])
def NA:=aW 294 [aa .str] (aa .str)
def MJ:=aW 155 [.row 11,aa ad] (aa ad)
def MK:=aW 156 [.row 11,aa ad,.row 9] (aa .bool)
def Mx:=aW 102 [.row 11,aa ad,.row 9] (aa ad)
def LO:=bI 0 [(0,aa (.int .u64)),(3,aq 0 0),(4,aa ad)] [.arr (.int .u8)] [bu (.exit 0) [(3,aq 0 0),(4,aa ad)] [.arr (.int .u8)]]
def ML:=aW 157 [aa (.int .u64)] (aa .str) [LO]
def Nf:=aW 227 [.row 8,.row 9] (aa .bool)
def N1:=aW 69 [aq 0 0,aa .str] (.ba [aa ad,.c (.dead)]) [] [.b1 116 ((.cj 1)),.buf 5] [.b1 116 ((.cj 2)),.gone,.buf 5]
def N2:=aW 71 [aq 0 0] (aa .str) [] [.b1 116 ((.cj 1)),.buf 5] [.b1 116 ((.cj 1)),.gone]
def xv:=bI 0 [(0,aq 0 0),(3,aa ad),(6,aq 1 0),(9,.c (.arr 2)),(18,aa (ay 8)),(19,aa ad),(20,aa ad)] [.box [.hole (ay 6),.hole ad],.bd 9,.arr (.nm 14)] [bu (.exit 0) [(6,aq 1 0),(9,.c (.arr 2))] [.box [.hole (ay 6),.hole ad],.bd 9,.arr (.nm 14)]] [] [(.slot 9,.nm 14)]
def LP:=bI 1 [(9,.c (.arr 1)),(57,aa (ay 10)),(58,aa ad),(59,aa ad)] [.box [.hole (ay 6),.hole ad],.arr (.nm 14)] [bu (.exit 2) [(9,.c (.arr 1))] [.box [.hole (ay 6),.hole ad],.arr (.nm 14)]]
def LQ:=bI 2 [(14,aq 1 0),(77,.c (.arr 2)),(78,aa ad),(79,aa ad)] [.box [.hole (ay 6),.hole ad],.b1 116 ((.cj 3)),.arr (.nm 14),.buf 5] [bu (.exit 4) [(14,aq 1 0)] [.box [.hole (ay 6),.hole ad],.b1 116 ((.cj 2)),.buf 5]]
def zn:=aW 159 [aq 0 0,.row 6,.row 9,aa ad] (aa .str) [xv,LP,LQ] [.box [.hole (ay 6),.hole ad]] [.box [.hole (ay 6),.hole ad]]
def zo:=aW 160 [aq 0 0,.row 6,.row 9,aa ad] (aa .str) [] [.box [.hole (ay 6),.hole ad]] [.box [.hole (ay 6),.hole ad]]
def xw:=bI 0 [(0,aq 0 0),(3,aa ad),(6,aq 1 0),(9,aq 2 0),(10,aq 3 0),(84,aa (ay 9)),(85,aa ad),(86,aa ad)] [.box [.hole (ay 6),.hole ad],.bd 9,.bd 6,.b1 116 ((.cj 4)),.buf 5] [bu (.exit 1) [(10,aq 1 0)] [.box [.hole (ay 6),.hole ad],.b1 116 ((.cj 2)),.buf 5]]
def o3:=aW 103 [aq 0 0,aa ad,.row 9,aa ad] (aa .str) [xw] [.box [.hole (ay 6),.hole ad]] [.box [.hole (ay 6),.hole ad]]
def NZ:=aW 55 [.row 11,aa ad,.row 9] (.ba [aa .str,aa ad])
def xx:=bI 0 [(3,aq 0 0),(5,aq 1 0),(8,aa .str),(36,aa (ay 8)),(37,aa ad),(38,aa ad)] [b6 (ay 6),.bd 9] [bu (.exit 1) [(8,aa .str)]]
def xy:=bI 1 [(3,aq 0 0),(7,aq 1 0),(8,aa .str),(101,aa (ay 9)),(102,aa ad),(103,aa ad)] [b6 (ay 6),.bd 6] [bu (.exit 3) [(8,aa .str)]]
def yx:=bI 2 [(3,aq 0 0),(5,aq 1 0),(7,aq 2 0),(8,aa .str),(118,aa (ay 9)),(119,aa ad),(120,aa ad)] [b6 (ay 6),.bd 9,.bd 6] [bu (.exit 5) [(8,aa .str)]]
def o5:=aW 237 [.row 11,aa ad,.row 9] (aa .str) [xx,xy,yx]
def yy:=bI 0 [(0,aq 0 0),(5,aq 2 0),(6,aq 3 0),(7,aq 4 0),(8,aq 5 0),(10,aq 6 0),(25,aa (ay 8)),(26,aa ad),(27,aa ad)] [.box [.hole (ay 6),.hole (ay 6),.arr 7,.hole cK],.gone,.bd 6,.bd 9,.bd 6,.box [.hole ad,.hole .bool,.hole ad,.hole .str,.hole ad,.aT,.aT,.aT],.box [.hole ad,.hole .bool,.hole ad,.hole .str,.hole ad,.aT,.arr 8,.aT],.arr ad,.arr (.nm 9)] [bu .ret [(8,aq 2 0),(9,aa .bool)] [.box [.hole (ay 6),.hole (ay 6),.arr 3,.hole cK],.gone,.bd 9,.arr ad],bu (.exit 0) [(0,aq 0 0),(5,aq 2 0),(6,aq 3 0),(7,aq 4 0),(8,aq 5 0),(10,aq 6 0)] [.box [.hole (ay 6),.hole (ay 6),.arr 7,.hole cK],.gone,.bd 6,.bd 9,.bd 6,.box [.hole ad,.hole .bool,.hole ad,.hole .str,.hole ad,.aT,.aT,.aT],.box [.hole ad,.hole .bool,.hole ad,.hole .str,.hole ad,.aT,.arr 8,.aT],.arr ad,.arr (.nm 9)]] [] [(.via 10 6,.nm 9)]
def LR:=bI 1 [(0,aq 0 0),(6,aq 2 0),(7,aq 3 0),(8,aq 4 0),(10,aq 5 0),(115,aa (ay 8)),(116,aa ad),(117,aa ad)] [.box [.hole (ay 6),.hole (ay 6),.arr 6,.hole cK],.gone,.bd 9,.bd 6,.box [.hole ad,.hole .bool,.hole ad,.hole .str,.hole ad,.aT,.aT,.aT],.box [.hole ad,.hole .bool,.hole ad,.hole .str,.hole ad,.aT,.arr 7,.arr 8],.arr ad,.arr (.nm 9),.arr (.nm 10)] [bu .ret [(8,aq 2 0),(9,aa .bool)] [.box [.hole (ay 6),.hole (ay 6),.arr 3,.arr 4],.gone,.bd 9,.arr ad,.arr ad],bu (.exit 2) [(8,aq 2 0),(10,aq 3 0)] [.box [.hole (ay 6),.hole (ay 6),.arr 4,.hole cK],.gone,.box [.hole ad,.hole .bool,.hole ad,.hole .str,.hole ad,.aT,.aT,.aT],.box [.hole ad,.hole .bool,.hole ad,.hole .str,.hole ad,.aT,.arr 5,.arr 6],.arr ad,.arr (.nm 9),.arr (.nm 10)]] [] [(.via 10 7,.nm 10)]
def zp:=aW 164 [aq 0 0,.row 6,.row 9,.row 6] (.ba [.row 9,aa .bool]) [yy,LR] [.box [.hole (ay 6),.hole (ay 6),.arr 1,.hole cK],.arr ad] [.box [.hole (ay 6),.hole (ay 6),.arr 2,.hole cK],.gone,.arr ad]
def zq:=aW 165 [aq 0 0,.row 6,.row 9,.row 6] (.ba [.row 9,aa .bool]) [] [.box [.hole (ay 6),.hole (ay 6),.arr 1,.hole cK],.arr ad] [.box [.hole (ay 6),.hole (ay 6),.arr 2,.hole cK],.gone,.arr ad]
def yz:=bI 0 [(0,aq 0 0),(1,aa ad),(3,aa ad),(10,.c (.arr 2)),(15,aa (ay 9)),(16,aa ad),(17,aa ad)] [.box [.hole (ay 6),.hole (ay 6),.arr 3,.hole cK],.gone,.arr (.nm 9),.arr ad] [bu .ret [(8,.c (.aT)),(9,aa .bool)] [.box [.hole (ay 6),.hole (ay 6),.arr 2,.hole cK],.gone,.arr ad],bu (.exit 0) [(10,.c (.arr 2))] [.box [.hole (ay 6),.hole (ay 6),.arr 3,.hole cK],.gone,.arr (.nm 9),.arr ad]] [] [(.slot 10,.nm 9)]
def zr:=aW 166 [aq 0 0,aa ad,aa (ay 9),aa ad] (.ba [aa (ay 9),aa .bool]) [yz] [.box [.hole (ay 6),.hole (ay 6),.arr 1,.hole cK],.arr ad] [.box [.hole (ay 6),.hole (ay 6),.arr 2,.hole cK],.gone,.arr ad]
def vB:=aW 105 [aq 0 0,aa ad,.row 9,aa ad] (.ba [.row 9,aa .bool]) [] [.box [.hole (ay 6),.hole (ay 6),.arr 1,.hole cK],.arr ad] [.box [.hole (ay 6),.hole (ay 6),.arr 2,.hole cK],.gone,.arr ad]
def N0:=aW 56 [.row 11,aa ad,.row 9,.row 11,aa ad] (.ba [.row 9,aa ad])
def LS:=bI 0 [(4,aq 0 0),(5,aq 1 0),(6,aq 2 0),(7,aq 3 0),(21,aa (ay 8)),(22,aa ad),(23,aa ad)] [b6 (ay 6),.bd 6,b6 (ay 6),.bd 6] [dV 8 ad,bu (.exit 0) [(5,aq 0 0),(7,aq 1 0)] [.bd 6,.bd 6]]
def LU:=bI 1 [(7,aq 0 0),(73,aa (ay 8)),(74,aa ad),(75,aa ad)] [.bd 6] [dV 8 ad,e5 2]
def MX:=aW 202 [.row 11,.row 6,.row 11,.row 6] (aa ad) [LS,LU]
def MB:=aW 143 [.row 11,aa ad,.row 11,aa ad] (aa ad)
def Oa:=aW 91 [.row 11,aa ad,.row 11,aa ad] (.ba [aa ad,aa ad])
def C5:=aW 41 [.row 13,.row 5] (aa .bool)
def Jj:=bI 0 [(0,.c (.arr 0)),(3,aq 1 0),(7,aa ad),(8,aa ad)] [.arr (.nm 5),.bd 5] [bu .ret [(4,aa ad)] [.arr (.nm 5)],bu (.exit 0) [] [.arr (.nm 5)]]
def N9:=aW 90 [.c (.arr 0),.row 5] (aa ad) [Jj] [.arr (.nm 5)] [.arr (.nm 5)]
def NQ:=aW 38 [.c (.arr 0),.row 5] (aa .bool) [] [.arr (.nm 5)] [.arr (.nm 5)]
def MY:=aW 203 [aa ad,aa ad,aq 0 0] (.ba []) [] [.box [.arr 1],.arr (.nm 5)] [.box [.arr 2],.gone,.arr (.nm 5)]
def LV:=bI 0 [(9,aq 0 0),(10,aq 1 0),(11,aq 2 0),(12,.c (.fn 203 [2])),(35,aa (ay 8)),(36,aa ad),(37,aa ad)] [.bd 6,.bd 6,.box [.arr 3],.arr (.nm 5)] [bu (.exit 0) [(9,aq 0 0),(10,aq 1 0),(11,aq 2 0),(12,.c (.fn 203 [2]))] [.bd 6,.bd 6,.box [.arr 3],.arr (.nm 5)]] [] [(.via 11 0,.nm 5)]
def MC:=aW 144 [.row 11,aa ad,.row 11,aa ad] (aa (ay 5)) [LV]
def Od:=aW 93 [.row 11,aa ad,.row 11,aa ad] (.ba [aa (ay 5),aa ad])
def C6:=aW 43 [.row 13,.row 5] (aa (ay 5))
def CX:=aW 13 [.row 12,.row 12,aa (ay 5)] (aa .bool)
def M1:=aW 208 [aq 0 0,aa ad] (.ba [.row 9,aa .bool]) [] [.box [.hole (ay 6),.arr 1,.hole cK,.hole ad],.arr ad] [.box [.hole (ay 6),.arr 2,.arr 3,.hole ad],.gone,.arr ad,.arr ad]
def LW:=bI 0 [(0,aa .str),(4,aa (.int .u64)),(17,aa ad),(18,aa ad)] [] [bu (.exit 0) [(4,aa (.int .u64))]]
def M3:=aW 209 [aa .str] (.ba [aa (.int .u64),aa ad]) [LW]
def M5:=aW 210 [aa (.int .u64)] (aa ad)
def nT:=aW 211 [aq 0 0,aa ad,aa ad,aa .str] (.ba [.row 9,aa .bool]) [] [.box [.hole (ay 6),.arr 1,.hole cK,.hole ad],.arr ad] [.box [.hole (ay 6),.arr 2,.hole cK,.hole ad],.gone,.arr ad]
def Lc:=bI 0 [(0,aa .str),(5,aa (.int .u64)),(10,aa ad),(11,aa ad)] [] [bu .ret [(2,aa (.int .u64)),(3,aa ad),(4,aa ad)],e5 0]
def NM:=aW 346 [aa .str] (.ba [aa (.int .u64),aa ad,aa ad]) [Lc]
def NK:=aW 328 [aa .str] (.ba [aa (.int .u64),aa .str,aa .bool])
def Nr:=aW 279 [aa .str] (.ba [aa ad,aa .str,aa ad])
def zu:=aW 212 [aq 0 0,.row 6,aa .str] (.ba [.row 9,aa .bool]) [] [.box [.hole (ay 6),.arr 1,.hole cK,.hole ad],.arr ad] [.box [.hole (ay 6),.arr 2,.hole cK,.hole ad],.gone,.arr ad]
def NL:=aW 329 [aa .str] (.ba [aa .str,aa .str,aa .bool])
def Ld:=bI 0 [(4,.c (.arr 0)),(5,aa .str)] [.arr .str] [bu .ret [(2,.c (.aT)),(3,aa ad)],bu (.exit 0) [(4,.c (.arr 0))] [.arr .str]] [] [(.slot 4,.str)]
def Ns:=aW 280 [aa .str] (.ba [aa oT,aa ad]) [Ld]
def yA:=bI 0 [(0,aq 0 0),(4,aq 2 0),(6,aq 3 0),(10,aq 4 0),(38,aa oT),(39,aa ad),(40,aa ad)] [.box [.hole (ay 6),.arr 5,.hole cK,.hole ad],.gone,.bd 6,.box [.hole ad,.hole .bool,.hole ad,.hole .str,.hole ad,.aT,.aT,.aT],.box [.hole ad,.hole .bool,.hole ad,.hole .str,.hole ad,.aT,.arr 6,.aT],.arr ad,.arr (.nm 9)] [bu .ret [(6,aq 2 0),(7,aa .bool)] [.box [.hole (ay 6),.arr 3,.hole cK,.hole ad],.gone,.bd 9,.arr ad],bu (.exit 0) [(6,aq 2 0),(10,aq 3 0)] [.box [.hole (ay 6),.arr 4,.hole cK,.hole ad],.gone,.box [.hole ad,.hole .bool,.hole ad,.hole .str,.hole ad,.aT,.aT,.aT],.box [.hole ad,.hole .bool,.hole ad,.hole .str,.hole ad,.aT,.arr 5,.aT],.arr ad,.arr (.nm 9)]] [] [(.via 10 6,.nm 9)]
def zv:=aW 213 [aq 0 0,.row 6,aa .str] (.ba [.row 9,aa .bool]) [yA] [.box [.hole (ay 6),.arr 1,.hole cK,.hole ad],.arr ad] [.box [.hole (ay 6),.arr 2,.hole cK,.hole ad],.gone,.arr ad]
def yB:=bI 0 [(0,aq 0 0),(4,aq 2 0),(6,aq 3 0),(8,aa oT),(10,aq 4 0),(11,aa ad)] [.box [.hole (ay 6),.arr 5,.hole cK,.hole ad],.gone,.bd 6,.box [.hole ad,.hole .bool,.hole ad,.hole .str,.hole ad,.aT,.aT,.aT],.box [.hole ad,.hole .bool,.hole ad,.hole .str,.hole ad,.arr 6,.aT,.aT],.arr ad,.arr (.nm 9)] [bu .ret [(6,aq 2 0),(7,aa .bool)] [.box [.hole (ay 6),.arr 3,.hole cK,.hole ad],.gone,.bd 9,.arr ad],bu (.exit 0) [(0,aq 0 0),(4,aq 2 0),(6,aq 3 0),(8,aa oT),(10,aq 4 0)] [.box [.hole (ay 6),.arr 5,.hole cK,.hole ad],.gone,.bd 6,.box [.hole ad,.hole .bool,.hole ad,.hole .str,.hole ad,.aT,.aT,.aT],.box [.hole ad,.hole .bool,.hole ad,.hole .str,.hole ad,.arr 6,.aT,.aT],.arr ad,.arr (.nm 9)]] [] [(.via 10 5,.nm 9)]
def Le:=bI 1 [(0,aq 0 0),(4,aq 2 0),(6,aq 3 0),(8,aa oT),(10,aq 4 0),(14,aa ad)] [.box [.hole (ay 6),.arr 5,.hole cK,.hole ad],.gone,.bd 6,.box [.hole ad,.hole .bool,.hole ad,.hole .str,.hole ad,.aT,.aT,.aT],.box [.hole ad,.hole .bool,.hole ad,.hole .str,.hole ad,.arr 6,.aT,.aT],.arr ad,.arr (.nm 9)] [bu .ret [(6,aq 2 0),(7,aa .bool)] [.box [.hole (ay 6),.arr 3,.arr 4,.hole ad],.gone,.bd 9,.arr ad,.arr ad],bu (.exit 2) [(0,aq 0 0),(4,aq 2 0),(6,aq 3 0),(8,aa oT),(10,aq 4 0)] [.box [.hole (ay 6),.arr 5,.hole cK,.hole ad],.gone,.bd 6,.box [.hole ad,.hole .bool,.hole ad,.hole .str,.hole ad,.aT,.aT,.aT],.box [.hole ad,.hole .bool,.hole ad,.hole .str,.hole ad,.arr 6,.aT,.aT],.arr ad,.arr (.nm 9)]]
def yC:=bI 2 [(0,aq 0 0),(4,aq 2 0),(6,aq 3 0),(8,aa oT),(10,aq 4 0),(15,aa ad)] [.box [.hole (ay 6),.arr 5,.hole cK,.hole ad],.gone,.bd 6,.box [.hole ad,.hole .bool,.hole ad,.hole .str,.hole ad,.aT,.aT,.aT],.box [.hole ad,.hole .bool,.hole ad,.hole .str,.hole ad,.arr 6,.arr 7,.aT],.arr ad,.arr (.nm 9),.arr (.nm 9)] [bu .ret [(6,aq 2 0),(7,aa .bool)] [.box [.hole (ay 6),.arr 3,.hole cK,.hole ad],.gone,.bd 9,.arr ad],bu (.exit 4) [(6,aq 2 0),(10,aq 3 0)] [.box [.hole (ay 6),.arr 4,.hole cK,.hole ad],.gone,.box [.hole ad,.hole .bool,.hole ad,.hole .str,.hole ad,.aT,.aT,.aT],.box [.hole ad,.hole .bool,.hole ad,.hole .str,.hole ad,.arr 5,.arr 6,.aT],.arr ad,.arr (.nm 9),.arr (.nm 9)]] [] [(.via 10 6,.nm 9)]
def zw:=aW 214 [aq 0 0,.row 6,aa .str] (.ba [.row 9,aa .bool]) [yB,Le,yC] [.box [.hole (ay 6),.arr 1,.hole cK,.hole ad],.arr ad] [.box [.hole (ay 6),.arr 2,.hole cK,.hole ad],.gone,.arr ad]
def Lf:=bI 0 [(4,.c (.arr 0)),(5,aa (.int .u64)),(6,aa .str)] [.arr (.nm 15)] [bu .ret [(2,.c (.aT)),(3,aa ad)],bu (.exit 0) [(4,.c (.arr 0))] [.arr (.nm 15)]] [] [(.slot 4,.nm 15)]
def Nt:=aW 281 [aa .str] (.ba [aa (ay 15),aa ad]) [Lf]
def Nv:=aW 283 [.row 15,aq 0 0] (aa .bool) [] [.bd 8] [.bd 8]
def Lg:=bI 0 [(0,aa (ay 15)),(1,.c (.fn 283 [0])),(7,aa ad),(8,aa ad)] [.bd 8] [bu .ret [(4,aa ad)] [.bd 8],bu (.exit 0) [] [.bd 8]]
def Nu:=aW 282 [aa (ay 15),.c (.fn 283 [0])] (aa ad) [Lg] [.bd 8] [.bd 8]
def yE:=bI 0 [(1,aq 0 0),(2,aq 1 0),(20,.c (.arr 2)),(21,aa ad),(22,aa ad)] [.box [.hole ad,.hole .bool,.hole ad,.hole .str,.hole ad,.arr 2,.arr 3,.arr 4],.box [.hole ad,.hole .bool,.hole ad,.hole .str,.hole ad,.aT,.aT,.aT],.arr (.nm 9),.arr (.nm 9),.arr (.nm 10)] [bu (.exit 0) [(1,aq 0 0),(2,aq 1 0)] [.box [.hole ad,.hole .bool,.hole ad,.hole .str,.hole ad,.arr 2,.arr 3,.arr 4],.box [.hole ad,.hole .bool,.hole ad,.hole .str,.hole ad,.aT,.aT,.aT],.arr (.nm 9),.arr (.nm 9),.arr (.nm 10)]]
def yF:=bI 1 [(1,aq 0 0),(2,aq 1 0),(35,.c (.arr 2)),(36,aa ad),(37,aa ad)] [.box [.hole ad,.hole .bool,.hole ad,.hole .str,.hole ad,.arr 3,.arr 2,.arr 4],.box [.hole ad,.hole .bool,.hole ad,.hole .str,.hole ad,.aT,.aT,.aT],.arr (.nm 9),.arr (.nm 9),.arr (.nm 10)] [bu (.exit 2) [(1,aq 0 0),(2,aq 1 0)] [.box [.hole ad,.hole .bool,.hole ad,.hole .str,.hole ad,.arr 2,.arr 3,.arr 4],.box [.hole ad,.hole .bool,.hole ad,.hole .str,.hole ad,.aT,.aT,.aT],.arr (.nm 9),.arr (.nm 9),.arr (.nm 10)]]
def s8:=aW 284 [.row 9] (.row 9) [yE,yF]
def yG:=bI 0 [(0,aq 0 0),(4,aq 2 0),(6,aq 3 0),(8,aa (ay 15)),(10,aq 4 0),(39,aa (ay 8)),(40,aa ad),(41,aa ad)] [.box [.hole (ay 6),.arr 5,.hole cK,.hole ad],.gone,.bd 6,.box [.hole ad,.hole .bool,.hole ad,.hole .str,.hole ad,.aT,.aT,.aT],.box [.hole ad,.hole .bool,.hole ad,.hole .str,.hole ad,.aT,.arr 6,.aT],.arr ad,.arr (.nm 9)] [bu .ret [(6,aq 2 0),(7,aa .bool)] [.box [.hole (ay 6),.arr 3,.hole cK,.hole ad],.gone,.bd 9,.arr ad],bu (.exit 0) [(0,aq 0 0),(4,aq 2 0),(6,aq 3 0),(8,aa (ay 15)),(10,aq 4 0)] [.box [.hole (ay 6),.arr 5,.hole cK,.hole ad],.gone,.bd 6,.box [.hole ad,.hole .bool,.hole ad,.hole .str,.hole ad,.aT,.aT,.aT],.box [.hole ad,.hole .bool,.hole ad,.hole .str,.hole ad,.aT,.arr 6,.aT],.arr ad,.arr (.nm 9)]] [] [(.via 10 6,.nm 9)]
def Lh:=bI 1 [(0,aq 0 0),(4,aq 2 0),(6,aq 3 0),(10,aq 4 0),(117,aa (ay 15)),(118,aa ad),(119,aa ad)] [.box [.hole (ay 6),.arr 5,.hole cK,.hole ad],.gone,.bd 6,.box [.hole ad,.hole .bool,.hole ad,.hole .str,.hole ad,.aT,.aT,.aT],.box [.hole ad,.hole .bool,.hole ad,.hole .str,.hole ad,.aT,.arr 6,.arr 7],.arr ad,.arr (.nm 9),.arr (.nm 10)] [bu .ret [(6,aq 2 0),(7,aa .bool)] [.box [.hole (ay 6),.arr 3,.arr 4,.hole ad],.gone,.bd 9,.arr ad,.arr ad],bu (.exit 3) [(6,aq 2 0),(10,aq 3 0)] [.box [.hole (ay 6),.arr 4,.hole cK,.hole ad],.gone,.box [.hole ad,.hole .bool,.hole ad,.hole .str,.hole ad,.aT,.aT,.aT],.box [.hole ad,.hole .bool,.hole ad,.hole .str,.hole ad,.aT,.arr 5,.arr 6],.arr ad,.arr (.nm 9),.arr (.nm 10)]] [] [(.via 10 7,.nm 10)]
def zx:=aW 215 [aq 0 0,.row 6,aa .str] (.ba [.row 9,aa .bool]) [yG,Lh] [.box [.hole (ay 6),.arr 1,.hole cK,.hole ad],.arr ad] [.box [.hole (ay 6),.arr 2,.hole cK,.hole ad],.gone,.arr ad]
def vC:=aW 148 [aq 0 0,aa ad,aa .str] (.ba [.row 9,aa .bool]) [] [.box [.hole (ay 6),.arr 1,.hole cK,.hole ad],.arr ad] [.box [.hole (ay 6),.arr 2,.hole cK,.hole ad],.gone,.arr ad]
def Mw:=aW 100 [.row 11,aa ad,aa .str] (.ba [.row 9,.row 16,aa ad])
def NX:=aW 53 [.row 11,aa ad,aa .str] (.ba [.row 9,aa ad])
def zy:=aW 22 [.row 12,.row 12,aa .str] (aa .bool)
def M4:=bI 0 [(2,aa (ay 5)),(7,aq 0 0),(8,aa ad)] [.box [.hole (ay 6),.hole ad,.hole (ay 6),.hole ad]] [dV 6 .bool,bu (.exit 0) [(2,aa (ay 5)),(7,aq 0 0)] [.box [.hole (ay 6),.hole ad,.hole (ay 6),.hole ad]]]
def zt:=aW 20 [.row 12,.row 12,aa (ay 5)] (aa .bool) [M4]
def Ol:=aW 99 [.row 5] (aa .bool)
def Oc:=bI 0 [(0,aa (ay 5)),(1,.c (.fn 99 [])),(7,aa ad),(8,aa ad)] [] [dV 4 ad,e5 0]
def Ob:=aW 92 [aa (ay 5),.c (.fn 99 [])] (aa ad) [Oc]
def NR:=aW 42 [aa (ay 5),.c (.fn 99 [])] (aa .bool)
def NW:=aW 52 [.row 17] (aa .bool)
def zs:=aW 18 [.row 12,.row 12,.row 17] (aa .bool)
def acm:=aW 127 [aq 0 0,aa (.int .u8)] (.c (.dead)) [] [.b1 116 ((.cj 1)),.buf 5] [.b1 116 ((.cj 2)),.gone,.buf 5]
def ac7:=bI 0 [(0,aa .str),(3,aq 0 0),(8,aa ad),(9,aa ad)] [.b1 116 ((.cj 1)),.buf 5] [bu (.exit 0) [(3,aq 0 0)] [.b1 116 ((.cj 1)),.buf 5]]
def ac6:=aW 68 [aa .str] (aa .str) [ac7]
def acT:=bI 0 [(3,aq 0 0),(21,aa (ay 5)),(22,aa ad),(23,aa ad)] [.b1 116 ((.cj 1)),.buf 5] [bu (.exit 1) [(3,aq 0 0)] [.b1 116 ((.cj 1)),.buf 5]]
def C0:=aW 29 [.row 17] (aa .str) [acT]
def o4:=aW 12 [] (aa .bool)
def acH:=aW 239 [.row 6] (.row 6)
def yH:=bI 0 [(0,aa (ay 9)),(1,aa (ay 9)),(5,aa ad)] [] [dV 4 .bool,e5 0]
def CZ:=aW 183 [aa (ay 9),aa (ay 9)] (aa .bool) [yH]
def Li:=bI 0 [(2,aq 0 0),(3,aq 1 0),(5,aa ad)] [.bd 9,.bd 9] [dV 4 .bool,bu (.exit 0) [(2,aq 0 0),(3,aq 1 0)] [.bd 9,.bd 9]]
def zl:=aW 118 [.row 9,.row 9] (aa .bool) [Li]
def acP:=aW 295 [.row 8,.row 8] (aa .bool)
def Lj:=bI 0 [(2,aq 0 0),(3,aq 1 0),(5,aa ad)] [.bd 6,.bd 6] [dV 4 .bool,bu (.exit 0) [(2,aq 0 0),(3,aq 1 0)] [.bd 6,.bd 6]]
def Lk:=bI 1 [(2,aq 0 0),(3,aq 1 0),(6,aa ad)] [.bd 6,.bd 6] [dV 4 .bool,e5 2]
def acG:=aW 238 [.row 6,.row 6] (aa .bool) [Lj,Lk]
def acQ:=aW 296 [aa (.int .u8)] (aa .bool)
def acR:=aW 297 [aa (.int .u8)] (aa .bool)
def Ll:=bI 0 [(0,aa .str),(3,aa ad)] [] [dV 2 .bool,e5 0]
def acI:=aW 240 [aa .str] (aa .bool) [Ll]
def acS:=aW 298 [aa ad,aa ad] (aa .bool)
def Ic:=bI 0 [(0,aa (ay 7)),(4,aa ad),(5,aa ad)] [] [dV 2 .bool,bu (.exit 2) [(0,aa (ay 7)),(4,aa ad)]]
def Lm:=bI 0 [(0,aa (ay 7)),(3,aa ad),(4,aa ad)] [] [dV 2 .bool,bu (.exit 0) [(0,aa (ay 7))]] [Ic]
def acJ:=aW 241 [aa (ay 7)] (aa .bool) [Lm]
def Ie:=bI 0 [(0,aa (ay 8)),(1,aa .bool),(6,aa ad),(7,aq 0 0),(8,aa ad)] [.bd 8] [dV 4 .bool,bu (.exit 2) [(0,aa (ay 8)),(1,aa .bool),(6,aa ad),(7,aq 0 0)] [.bd 8]]
def Ln:=bI 0 [(0,aa (ay 8)),(1,aa .bool),(5,aa ad),(6,aa ad)] [] [dV 4 .bool,bu (.exit 0) [(0,aa (ay 8)),(1,aa .bool)]] [Ie]
def acK:=aW 242 [aa (ay 8),aa .bool] (aa .bool) [Ln]
def acu:=aW 167 [.row 6] (aa .bool)
def Lo:=bI 0 [(1,aq 0 0),(3,.c (.arr 1)),(4,aa ad)] [.bd 6,.arr ad] [bu (.exit 0) [(1,aq 0 0),(3,.c (.arr 1))] [.bd 6,.arr ad]] [] [(.slot 3,ad)]
def acv:=aW 168 [.row 6] (aa cK) [Lo]
def Ig:=bI 0 [(1,aq 0 0),(3,aa ad),(4,aq 1 0),(5,aa ad)] [b6 (ay 6),.box [.hole ad,.hole .str,.hole ad,.hole ad,.hole ad,.hole (ay 7),.hole (ay 8),.hole ad,.hole ad,.hole .bool]] [dV 2 ad,bu (.exit 2) [(1,aq 0 0),(3,aa ad),(4,aq 1 0)] [b6 (ay 6),.box [.hole ad,.hole .str,.hole ad,.hole ad,.hole ad,.hole (ay 7),.hole (ay 8),.hole ad,.hole ad,.hole .bool]]]
def Ih:=bI 1 [(1,aq 0 0),(3,aa ad),(4,aq 1 0),(6,aa cK),(7,aa ad)] [b6 (ay 6),.box [.hole ad,.hole .str,.hole ad,.hole ad,.hole ad,.hole (ay 7),.hole (ay 8),.hole ad,.hole ad,.hole .bool]] [dV 2 ad,bu (.exit 4) [(1,aq 0 0),(3,aa ad),(4,aq 1 0)] [b6 (ay 6),.box [.hole ad,.hole .str,.hole ad,.hole ad,.hole ad,.hole (ay 7),.hole (ay 8),.hole ad,.hole ad,.hole .bool]]]
def Lp:=bI 0 [(1,aq 0 0),(3,aa ad)] [b6 (ay 6)] [dV 2 ad,e5 0] [Ig,Ih]
def ab9:=aW 106 [.row 11] (aa ad) [Lp]
def acx:=aW 177 [.row 9] (aa .bool)
def Lq:=bI 0 [(1,aa ad),(2,aq 0 0),(6,aa ad)] [.bd 6] [bu .ret [(4,aa ad),(5,aa .bool)],e5 0]
def aci:=aW 122 [.row 6,aa ad] (.ba [aa ad,aa .bool]) [Lq]
def acy:=aW 178 [aa ad,aa .bool] (aa .bool)
def Oj:=bI 0 [(1,aa ad),(2,aq 0 0),(6,aa ad)] [.bd 6] [bu .ret [(4,aa ad),(5,aa .bool)],e5 0]
def adk:=aW 98 [.row 6,aa ad] (.ba [aa ad,aa .bool]) [Oj]
def Lr:=bI 0 [(1,aa (ay 10)),(2,aq 0 0),(5,aa ad)] [.bd 6] [dV 4 .bool,e5 0]
def acz:=aW 179 [.row 6,aa (ay 10)] (aa .bool) [Lr]
def yn:=bI 0 [(1,aa ad),(2,aa (ay 9)),(3,aa .bool),(4,aq 0 0),(9,aa ad)] [b6 (ay 6)] [dV 8 .bool,e5 0]
def CY:=aW 180 [.row 11,aa ad,aa (ay 9),aa .bool] (aa .bool) [yn]
def acL:=aW 252 [aa .bool,aa .bool] (aa ad)
def acb:=aW 115 [aa ad] (aa (.int .u64))
def acA:=aW 181 [.row 9,.row 9] (aa ad)
def yo:=bI 0 [(3,aa .bool),(4,aq 0 0),(6,aq 1 0),(9,aq 2 0),(12,aa ad)] [b6 (ay 6),.bd 9,.box [.hole ad,.hole .str,.hole ad,.hole ad,.hole ad,.hole (ay 7),.hole (ay 8),.hole ad,.hole ad,.hole .bool]] [dV 8 .bool,e5 1]
def Ls:=bI 1 [(6,aq 0 0),(15,aa ad)] [.bd 9] [dV 8 .bool,e5 3]
def s5:=aW 109 [.row 11,aa ad,.row 9,aa .bool] (aa .bool) [yo,Ls]
def ac4:=aW 59 [.row 11,aa ad,.row 9] (aa .bool)
def JI:=bI 0 [(1,aq 0 0),(6,aa ad),(7,aa (ay 8)),(8,aa ad)] [b6 (ay 6)] [bu .ret [(2,aa ad),(3,aa ad),(4,aa ad)],bu (.exit 2) [(1,aq 0 0),(6,aa ad)] [b6 (ay 6)]]
def Lt:=bI 0 [(1,aq 0 0),(6,aa ad)] [b6 (ay 6)] [bu .ret [(2,aa ad),(3,aa ad),(4,aa ad)],e5 0] [JI]
def acU:=aW 318 [.row 11] (.ba [aa ad,aa ad,aa ad]) [Lt]
def acN:=aW 273 [.row 11] (aa ad)
def Lu:=bI 0 [(1,.c (.arr 0)),(2,aq 1 0),(5,aa ad),(6,aa ad)] [.arr ad,.bd 6] [bu (.exit 1) [(5,aa ad)] [.arr ad]]
def Lv:=bI 1 [(1,.c (.arr 0)),(2,aq 1 0),(7,aa ad),(8,aa ad)] [.arr ad,.bd 6] [bu (.exit 3) [(7,aa ad)] [.arr ad]]
def acV:=aW 319 [.row 6,.c (.arr 0)] (aa ad) [Lu,Lv] [.arr ad] [.arr ad]
def JJ:=bI 0 [(1,aq 0 0),(3,.c (.arr 1)),(4,aa ad),(5,aa ad)] [b6 (ay 6),.arr ad] [bu (.exit 2) [(1,aq 0 0),(3,.c (.arr 1)),(4,aa ad)] [b6 (ay 6),.arr ad]]
def Lw:=bI 0 [(1,aq 0 0),(3,.c (.arr 1)),(4,aa ad)] [b6 (ay 6),.arr ad] [bu (.exit 0) [(3,.c (.arr 0))] [.arr ad]] [JJ]
def acO:=aW 274 [.row 11] (aa cK) [Lw]
def K5:=bI 0 [(5,aa cK),(6,.c (.arr 0)),(7,aa ad)] [.arr .bool] [bu (.exit 0) [(6,.c (.arr 0))] [.arr .bool]] [] [(.slot 6,.bool)]
def acE:=aW 204 [.row 11] (.ba [aa (.slice .bool),aa ad]) [K5]
def K6:=bI 0 [(3,aa (.slice .bool)),(5,aa ad)] [] [dV 2 ad,e5 0]
def acq:=aW 145 [.row 11] (aa ad) [K6]
def adg:=aW 94 [.row 11,aa ad] (aa ad)
def acY:=aW 45 [.row 12,.row 12] (aa ad)
def KF:=bI 0 [(0,.c (.arr 0)),(3,aq 1 0),(5,aa ad)] [.arr (.nm 5),.bd 5] [bu .ret [(4,aa .bool)] [.arr (.nm 5)],bu (.exit 0) [] [.arr (.nm 5)]]
def ac0:=aW 47 [.c (.arr 0),.row 5] (aa .bool) [KF] [.arr (.nm 5)] [.arr (.nm 5)]
def NT:=bI 0 [(9,aq 0 0),(10,aq 1 0),(11,.c (.arr 2)),(12,aa ad)] [.bd 6,.bd 6,.arr (.nm 5)] [bu (.exit 0) [(9,aq 0 0),(10,aq 1 0),(11,.c (.arr 2))] [.bd 6,.bd 6,.arr (.nm 5)]] [] [(.slot 11,.nm 5)]
def NU:=bI 1 [(11,.c (.arr 0)),(15,.c (.arr 1)),(16,aa ad)] [.arr (.nm 5),.arr (.nm 5)] [bu (.exit 2) [(15,.c (.arr 0))] [.arr (.nm 5)]] [] [(.slot 15,.nm 5)]
def ac2:=aW 50 [.row 11,aa ad,.row 11,aa ad] (aa (ay 5)) [NT,NU]
def KG:=bI 0 [(4,aq 0 0),(6,aq 1 0),(9,.c (.arr 2)),(10,aa ad),(11,aa (ay 5)),(12,aa ad)] [b6 (ay 6),b6 (ay 6),.arr (.nm 5)] [bu (.exit 2) [(4,aq 0 0),(6,aq 1 0),(9,.c (.arr 2)),(10,aa ad)] [b6 (ay 6),b6 (ay 6),.arr (.nm 5)]]
def NV:=bI 0 [(4,aq 0 0),(6,aq 1 0),(9,.c (.arr 2)),(10,aa ad)] [b6 (ay 6),b6 (ay 6),.arr (.nm 5)] [bu (.exit 0) [(9,.c (.arr 0))] [.arr (.nm 5)]] [KG]
def ac3:=aW 51 [.row 11,aa ad,.row 11,aa ad] (.c (.arr 0)) [NV] [] [.arr (.nm 5)]
def Oe:=bI 0 [(1,aq 0 0),(3,aa ad),(4,aa ad)] [.bd 6] [bu (.exit 1) [(3,aa ad)]]
def adh:=aW 95 [.row 6] (aa ad) [Oe]
def Of:=bI 0 [(2,aq 0 0),(3,aq 1 0),(5,aa ad)] [.bd 6,.bd 6] [dV 4 .bool,bu (.exit 0) [(2,aq 0 0),(3,aq 1 0)] [.bd 6,.bd 6]]
def Og:=bI 1 [(2,aq 0 0),(3,aq 1 0),(8,aa ad)] [.bd 6,.bd 6] [dV 4 .bool,e5 2]
def adi:=aW 96 [.row 6,.row 6] (aa .bool) [Of,Og]
def acg:=aW 120 [.row 11,aa ad] (aa ad)
def ac5:=aW 65 [.row 11,aa ad,.row 9,.row 11,aa ad] (aa ad)
def ach:=aW 121 [aa cK] (.row 18)
def K7:=bI 0 [(0,aa (.int .u64)),(3,aa .str)] [] [bu (.exit 0) [(3,aa .str)]]
def aca:=aW 114 [aa (.int .u64)] (aa .str) [K7]
def K8:=bI 0 [(0,aa (.int .u64)),(3,.c (.arr 0))] [.arr (.int .u8)] [bu (.exit 0) [(0,aa (.int .u64)),(3,.c (.arr 0))] [.arr (.int .u8)]] [] [(.slot 3,.int .u8)]
def acd:=aW 116 [aa (.int .u64)] (aa .str) [K8]
def ace:=aW 117 [aa .str] (aa .str)
def acf:=aW 119 [aa ad,aa .bool,aa .str] (aa .str)
def KH:=bI 0 [(3,aq 0 0),(5,aq 1 0),(7,aq 2 0),(14,aa .str),(15,aa ad),(19,aa ad)] [b6 (ay 6),.bd 9,.bd 6] [bu (.exit 7) [(3,aq 0 0),(5,aq 1 0),(7,aq 2 0),(14,aa .str),(15,aa ad)] [b6 (ay 6),.bd 9,.bd 6]]
def vF:=bI 0 [(3,aq 0 0),(5,aq 1 0),(7,aq 2 0),(10,aa .str),(11,aa ad)] [b6 (ay 6),.bd 9,.bd 6] [bu (.exit 1) [(10,aa .str)]]
def vG:=bI 1 [(3,aq 0 0),(5,aq 1 0),(7,aq 2 0),(12,aa .str),(13,aa ad)] [b6 (ay 6),.bd 9,.bd 6] [bu (.exit 3) [(12,aa .str)]]
def vH:=bI 2 [(3,aq 0 0),(5,aq 1 0),(7,aq 2 0),(14,aa .str),(15,aa ad)] [b6 (ay 6),.bd 9,.bd 6] [bu (.exit 5) [(14,aa .str)]] [KH]
def q4:=aW 63 [.row 11,aa ad,.row 9] (aa .str) [vF,vG,vH]
def ack:=aW 126 [.row 9] (.row 18)
def acj:=aW 125 [aa cK,aa ad] (aa cK)
def CV:=aW 123 [.row 11,.row 6,.row 9,.row 11,.row 6,aa cK] (.row 18)
def acF:=aW 205 [.row 9,.row 9] (aa .bool)
def acB:=aW 184 [.row 8,.row 9] (aa .bool)
def yp:=bI 0 [(5,aa cK),(6,aq 0 0),(7,aq 1 0),(8,aq 2 0),(9,aq 3 0),(10,aq 4 0),(12,aq 5 0),(13,aq 6 0),(14,aa ad)] [b6 (ay 6),.bd 6,.bd 9,b6 (ay 6),.bd 6,.box [.hole ad,.hole .bool,.hole ad,.hole .str,.hole ad,.aT,.aT,.aT,.aT,.hole .bool],.box [.hole ad,.hole .bool,.hole ad,.hole .str,.hole ad,.aT,.arr 7,.aT],.arr (.nm 9)] [bu .ret [(12,aq 0 0)] [.bd 18],bu (.exit 0) [(5,aa cK),(6,aq 0 0),(7,aq 1 0),(8,aq 2 0),(10,aq 3 0),(12,aq 4 0),(13,aq 5 0)] [b6 (ay 6),.bd 6,.bd 9,.bd 6,.box [.hole ad,.hole .bool,.hole ad,.hole .str,.hole ad,.aT,.aT,.aT,.aT,.hole .bool],.box [.hole ad,.hole .bool,.hole ad,.hole .str,.hole ad,.aT,.arr 6,.aT],.arr (.nm 9)]] [] [(.via 13 6,.nm 9)]
def K9:=bI 1 [(5,aa cK),(6,aq 0 0),(7,aq 1 0),(8,aq 2 0),(10,aq 3 0),(12,aq 4 0),(13,aq 5 0),(20,aa ad)] [b6 (ay 6),.bd 6,.bd 9,.bd 6,.box [.hole ad,.hole .bool,.hole ad,.hole .str,.hole ad,.aT,.aT,.aT,.aT,.hole .bool],.box [.hole ad,.hole .bool,.hole ad,.hole .str,.hole ad,.aT,.arr 6,.arr 7],.arr (.nm 9),.arr (.nm 10)] [bu .ret [(12,aq 0 0)] [.bd 18],bu (.exit 2) [(12,aq 0 0),(13,aq 1 0)] [.box [.hole ad,.hole .bool,.hole ad,.hole .str,.hole ad,.aT,.aT,.aT,.aT,.hole .bool],.box [.hole ad,.hole .bool,.hole ad,.hole .str,.hole ad,.aT,.arr 2,.arr 3],.arr (.nm 9),.arr (.nm 10)]] [] [(.via 13 7,.nm 10)]
def CW:=aW 124 [.row 11,.row 6,.row 9,.row 11,.row 6,aa cK] (.row 18) [yp,K9]
def vI:=bI 0 [(5,aa cK),(6,aq 0 0),(8,aq 1 0),(9,aq 2 0),(12,aq 3 0),(13,aq 4 0),(14,aq 5 0),(17,aq 6 0),(18,aa ad)] [b6 (ay 6),.bd 9,b6 (ay 6),.box [.hole ad,.hole .bool,.hole ad,.hole .str,.hole ad,.aT,.aT,.aT,.aT,.hole .bool],.bd 6,.bd 6,.box [.hole ad,.hole .bool,.hole ad,.hole .str,.hole ad,.arr 7,.aT,.hole (ay 10)],.arr (.nm 9)] [bu .ret [(12,aq 0 0)] [.bd 18],bu (.exit 0) [(5,aa cK),(6,aq 0 0),(8,aq 1 0),(9,aq 2 0),(12,aq 3 0),(13,aq 4 0),(14,aq 5 0),(17,aq 6 0)] [b6 (ay 6),.bd 9,b6 (ay 6),.box [.hole ad,.hole .bool,.hole ad,.hole .str,.hole ad,.aT,.aT,.aT,.aT,.hole .bool],.bd 6,.bd 6,.box [.hole ad,.hole .bool,.hole ad,.hole .str,.hole ad,.arr 7,.aT,.hole (ay 10)],.arr (.nm 9)]] [] [(.via 17 5,.nm 9)]
def vJ:=bI 1 [(5,aa cK),(6,aq 0 0),(8,aq 1 0),(9,aq 2 0),(12,aq 3 0),(13,aq 4 0),(14,aq 5 0),(17,aq 6 0),(20,aa ad)] [b6 (ay 6),.bd 9,b6 (ay 6),.box [.hole ad,.hole .bool,.hole ad,.hole .str,.hole ad,.aT,.aT,.aT,.aT,.hole .bool],.bd 6,.bd 6,.box [.hole ad,.hole .bool,.hole ad,.hole .str,.hole ad,.arr 7,.arr 8,.hole (ay 10)],.arr (.nm 9),.arr (.nm 9)] [bu .ret [(12,aq 0 0)] [.bd 18],bu (.exit 2) [(12,aq 0 0),(17,aq 1 0)] [.box [.hole ad,.hole .bool,.hole ad,.hole .str,.hole ad,.aT,.aT,.aT,.aT,.hole .bool],.box [.hole ad,.hole .bool,.hole ad,.hole .str,.hole ad,.arr 2,.arr 3,.hole (ay 10)],.arr (.nm 9),.arr (.nm 9)]] [] [(.via 17 6,.nm 9)]
def q5:=aW 66 [.row 11,aa ad,.row 9,.row 11,aa ad,aa cK] (.row 18) [vI,vJ]
def acM:=aW 26 [.row 11,aa ad,.row 9,.row 11,aa ad] (.ba [.row 9,aa ad])
def acr:=aW 146 [.row 11,aa ad,.row 9,.row 11,aa ad,.row 9] (aa .bool)
def Oh:=bI 0 [(4,aq 0 0),(5,aq 1 0),(6,aq 2 0),(7,aq 3 0),(9,aa ad)] [b6 (ay 6),.bd 6,b6 (ay 6),.bd 6] [dV 8 ad,bu (.exit 0) [(5,aq 0 0),(7,aq 1 0)] [.bd 6,.bd 6]]
def Oi:=bI 1 [(5,aq 0 0),(7,aq 1 0),(13,aa ad)] [.bd 6,.bd 6] [dV 8 ad,e5 2]
def adj:=aW 97 [.row 11,.row 6,.row 11,.row 6] (aa ad) [Oh,Oi]
def ac1:=aW 49 [.row 11,aa ad,.row 11,aa ad] (aa ad)
def NS:=bI 0 [(4,aq 0 0),(6,aq 1 0),(9,.c (.arr 2)),(10,aa ad)] [b6 (ay 6),b6 (ay 6),.arr (.nm 5)] [dV 8 .bool,e5 0]
def acZ:=aW 46 [.row 11,aa ad,.row 11,aa ad] (aa .bool) [NS]
def acs:=aW 15 [.row 12,.row 12] (.ba [aa .bool,aa ad])
def KI:=bI 0 [(8,.c (.arr 0)),(9,aa ad),(10,aa ad)] [.arr (.nm 5)] [bu (.exit 2) [(8,.c (.arr 0)),(9,aa ad)] [.arr (.nm 5)]]
def MQ:=bI 0 [(8,.c (.arr 0)),(9,aa ad)] [.arr (.nm 5)] [bu (.exit 0) [(8,.c (.arr 0))] [.arr (.nm 5)]] [KI]
def acw:=aW 17 [.row 12,.row 12] (.ba [aa (ay 5),aa ad]) [MQ]
def KJ:=bI 0 [(2,aq 0 0),(3,aq 1 0),(8,.c (.arr 2)),(9,.c (.arr 3)),(10,aa ad),(13,aa (ay 5)),(14,aa ad)] [.bd 12,.bd 12,.arr (ay 5),.arr (.nm 5)] [bu (.exit 2) [(2,aq 0 0),(3,aq 1 0),(8,.c (.arr 2)),(9,.c (.arr 3)),(10,aa ad)] [.bd 12,.bd 12,.arr (ay 5),.arr (.nm 5)]]
def MU:=bI 0 [(2,aq 0 0),(3,aq 1 0),(8,.c (.arr 2)),(9,.c (.arr 3)),(10,aa ad)] [.bd 12,.bd 12,.arr (ay 5),.arr (.nm 5)] [bu .ret [(4,aa (ay 5)),(5,aa ad),(6,aa ad)],e5 0] [KJ]
def acC:=aW 19 [.row 12,.row 12] (.ba [aa (ay 5),aa ad,aa ad]) [MU]
def fR:=aW 4 [.row 0] (aa .bool)
def dw:=aW 3 [.row 0,aa (ay 5)] (aa .bool)
def iL:=aW 5 [.row 0,aa (ay 5)] (aa .bool)
def mx:=aW 6 [.row 0,aa .str] (aa .bool)
def my:=aW 7 [.row 20] (aa .bool)
def e8:=aW 8 [.row 12,.row 12,.row 17] (aa .bool)
def aeK:List eh:=[N9,NQ,NP,NH,NB,B9,vE,NJ,NI,Nq,NC,ND,Nn,NF,No,NG,Np,MZ,M0,MD]
def aeL:List eh:=[M6,ME,M8,M7,MF,MG,M',M9,MH,zA,zB,zz,zm,MM,Nw,Na,Nx,Nc,Ny,Nd]
def aeM:List eh:=[Nb,MI,q3,NY,Nk,MR,Nl,MS,Mz,N6,C1,N8,C2,C3,C4,MT,MA,MV,MW,MO]
def aeN:List eh:=[My,MP,Ni,s6,s7,B',vD,Nj,Nh,MN,Ng,Nz,NA,MJ,MK,Mx,ML,Nf,N1,N2]
def aeO:List eh:=[zn,zo,o3,NZ,o5,zp,zq,zr,vB,N0,MX,MB,Oa,C5,MY,MC,Od,C6,M1,M3]
def aeP:List eh:=[M5,nT,NM,NK,Nr,zu,NL,Ns,zv,zw,Nt,Nv,Nu,s8,zx,vC,Mw,NX,zy,zt]
def aeQ:List eh:=[Ol,Ob,NR,NW,zs,acm,ac6,C0,o4]
def me:List eh:=aeK++aeL++aeM++aeN++aeO++aeP++aeQ
theorem nq:me.all (sv prog)=true:=by kernel_rfl
def lL:cA cu:={Ep with F:=Eb (α:=cu.D 14) qE}
theorem mO:eZ prog lL:=⟨Er.1,λh r a=>Er.2 h r (Zv Ed _ r a)⟩
noncomputable def tx:cA cu:=CX.s (BO (jE prog me [kZ,k2,k4,lL,k8,k6] 3000 C1) (jE prog me [kZ,k2,k4,lL,k8,k6] 3000 C2) (jE prog me [kZ,k2,k4,lL,k8,k6] 3000 C3) (jE prog me [kZ,k2,k4,lL,k8,k6] 3000 C4) (jE prog me [kZ,k2,k4,lL,k8,k6] 3000 C5) (jE prog me [kZ,k2,k4,lL,k8,k6] 3000 C6))
theorem wQ:eZ prog tx:=J9 (.run nq (.k kh (.k k3 (.k k5 (.k mO (.k lJ (.k mJ .n)))))) (.m (by kernel_rfl)) 3000 λ_=>rfl) (.run nq (.k kh (.k k3 (.k k5 (.k mO (.k lJ (.k mJ .n)))))) (.m (by kernel_rfl)) 3000 λ_=>rfl) (.run nq (.k kh (.k k3 (.k k5 (.k mO (.k lJ (.k mJ .n)))))) (.m (by kernel_rfl)) 3000 λ_=>rfl) (.run nq (.k kh (.k k3 (.k k5 (.k mO (.k lJ (.k mJ .n)))))) (.m (by kernel_rfl)) 3000 λ_=>rfl) (.run nq (.k kh (.k k3 (.k k5 (.k mO (.k lJ (.k mJ .n)))))) (.m (by kernel_rfl)) 3000 λ_=>rfl) (.run nq (.k kh (.k k3 (.k k5 (.k mO (.k lJ (.k mJ .n)))))) (.m (by kernel_rfl)) 3000 λ_=>rfl)
def A5(high:Int):Option cq:=
 some (⟨(⟨[(⟨7,[],0,0,2,[],[],0,1,false⟩:af),(⟨2,[],0,high,0,[],[],0,0,false⟩:af)]⟩:a7),0⟩:cq)
theorem TM:bc NP A5:= .bm
noncomputable def rX:cq×cq×List aK->Option Bool:=tx.F
theorem Ue:bc CX rX:=wQ
noncomputable def wi:cq×cq×aD->Option Bool:=jE prog me [tx,kZ,k2,k4,lL,k8,k6] 3000 zy
theorem TN:bc zy wi:= .run nq (.k wQ (.k kh (.k k3 (.k k5 (.k mO (.k lJ (.k mJ .n))))))) (.m (by kernel_rfl)) 3000 λ_=>rfl
noncomputable def xh:cq×cq×List aK->Option Bool:=jE prog me [tx,kZ,k2,k4,lL,k8,k6] 3000 zt
theorem VG:bc zt xh:= .run nq (.k wQ (.k kh (.k k3 (.k k5 (.k mO (.k lJ (.k mJ .n))))))) (.m (by kernel_rfl)) 3000 λ_=>rfl
noncomputable def wz:cq×cq×hV->Option Bool:=jE prog me [tx,kZ,k2,k4,lL,k8,k6] 3000 zs
theorem Ux:bc zs wz:= .run nq (.k wQ (.k kh (.k k3 (.k k5 (.k mO (.k lJ (.k mJ .n))))))) (.m (by kernel_rfl)) 3000 λ_=>rfl
noncomputable def rm:hV->Option aD:=jE prog me [tx,kZ,k2,k4,lL,k8,k6] 3000 C0
theorem UY:bc C0 rm:= .run nq (.k wQ (.k kh (.k k3 (.k k5 (.k mO (.k lJ (.k mJ .n))))))) (.m (by kernel_rfl)) 3000 λ_=>rfl
def EJ(rX:cq×cq×List aK->Option Bool)(wi:cq×cq×aD->Option Bool)(xh:cq×cq×List aK->Option Bool)(wz:cq×cq×hV->Option Bool)(rm:hV->Option aD):Option Bool:=
 A5 9>>=λr=>A5 20>>=λa=>rX (r,a,[(⟨0,0⟩:aK),(⟨1,1⟩:aK)])>>=λb=>some [(⟨0,0⟩:aK),(⟨1,1⟩:aK)]>>=λt18=>if(gu 0 1 t18.length||(!b)) then (if b then rX (r,a,lC t18 0 1)else some false)>>=λc=>some (bif b then(!c)else false)>>=λt22=>(if t22 then wi (a,r,[1,40])else some false)>>=λd=>some (bif t22 then d else false)>>=λt27=>(if t27 then xh (a,r,[(⟨0,0⟩:aK),(⟨1,1⟩:aK)])else some false)>>=λe=>some (bif t27 then e else false)>>=λt33=>(if t33 then wz (a,r,(⟨false,[],[1,40]⟩:hV))else some false)>>=λf=>some (bif t33 then f else false)>>=λt39=>(if t39 then rm (⟨false,[],[1,40]⟩:hV)else some [])>>=λg=>some (bif t39 then decide (g=[109,105,115,114,101,97,100,32,34,92,120,48,49,40,34,10])else false)>>=λt44=>(if t44 then rm (⟨true,[(⟨0,0⟩:aK),(⟨1,1⟩:aK)],[]⟩:hV)else some [])>>=λi=>some (bif t44 then decide (i=[99,111,109,112,97,116,105,98,108,101,10,48,32,48,10,49,32,49,10])else false)else none
noncomputable def EK (_:Unit):Option Bool:=EJ rX wi xh wz rm
theorem Uf:bc o4 EK:= .bm (.k TM (.k Ue (.k TN (.k VG (.k Ux (.k UY .n))))))
def hf(n:Int):cq:=⟨⟨[⟨7,[],0,0,2,[],[],0,1,false⟩,⟨2,[],0,n,0,[],[],0,0,false⟩]⟩,0⟩
theorem abd(n:Int):A5 n=some (hf n):=rfl
theorem abY:rX (hf 9,hf 20,[⟨0,0⟩,⟨1,1⟩])=some true:=by kernel_rfl
theorem abZ:rX (hf 9,hf 20,[⟨0,0⟩])=some false:=by kernel_rfl
theorem abS:wi (hf 20,hf 9,[1,40])=some true:=by kernel_rfl
theorem abX:xh (hf 20,hf 9,[⟨0,0⟩,⟨1,1⟩])=some true:=by kernel_rfl
theorem abO:wz (hf 20,hf 9,⟨false,[],[1,40]⟩)=some true:=by kernel_rfl
theorem abP:rm ⟨false,[],[1,40]⟩=some [109,105,115,114,101,97,100,32,34,92,120,48,49,40,34,10]:=by kernel_rfl
theorem abQ:rm ⟨true,[⟨0,0⟩,⟨1,1⟩],[]⟩=some [99,111,109,112,97,116,105,98,108,101,10,48,32,48,10,49,32,49,10]:=by kernel_rfl
theorem ab0{C:cq×cq×hV->Option Bool}{F:hV->Option aD}
 (h1:R (hf 9,hf 20,[⟨0,0⟩,⟨1,1⟩])=some true)(a:R (hf 9,hf 20,[⟨0,0⟩])=some false)(b:M (hf 20,hf 9,[1,40])=some true)(c:P (hf 20,hf 9,[⟨0,0⟩,⟨1,1⟩])=some true)(bh:C (hf 20,hf 9,⟨false,[],[1,40]⟩)=some true)
 (d:F ⟨false,[],[1,40]⟩=some [109,105,115,114,101,97,100,32,34,92,120,48,49,40,34,10])(e:F ⟨true,[⟨0,0⟩,⟨1,1⟩],[]⟩=some [99,111,109,112,97,116,105,98,108,101,10,48,32,48,10,49,32,49,10]):EJ R M P C F=some true:=by
 have f:lC [(⟨0,0⟩:aK),⟨1,1⟩] 0 1=[⟨0,0⟩]:=rfl;unfold EJ;simp only[bl,aw,abd];rw[h1];simp only[aw,ds,gZ,bJ,f];rw[a,b,c];simp only[aw,eL,dX,bJ];rw[bh,d,e];rfl
theorem YR:EK ()=some true:=ab0 abY abZ abS abX abO abP abQ
def wj(_:Unit):Option Bool:=some true
theorem TO:bc o4 wj:=by
 have:EK=wj:=by funext x;exact YR
 rw[<-this];exact Uf
theorem P3:wj ()=some true:=rfl
def qc:ed×Int->Option Int
 |(d,i)=>
 if aB i d.ei.length then some (aS .i64 1 (ca .i64 (cy (d.ei.getD i.toNat bw).Kind 9)))else none
theorem vX:bc ac8 qc:= .bm
def jz(a:Int):Option Bool:=
 some (bif bif decide (a=4)then true else decide (a=5)then true else decide (a=6))
theorem EE:bc ac9 jz:= .bm
def n2(a:dv):Option Int:=
 some (dM .i64 (ca .i64 (cy a.A 7)) 3)
theorem ES:bc ac' n2:= .bm
def rn(a:dv):Option Int:=
 n2 a>>=λr=>some (aS .i64 r (ca .i64 (cy a.B 6)))
theorem PE:bc ada rn:= .bm (.k ES .n)
def nZ:Int×dv×az->Option az
 |(i,b,a)=>
 if (i<6:Bool) then if (0<=i:Bool) then if (cy (mc .u8 b.A i) 2=1:Bool) then some [aS .i64 i 1]>>=λt18=>if room 8 (a++t18).length then nZ (aS .i64 i 1,b,a++t18)else none else nZ (aS .i64 i 1,b,a)else none else some a
  partial_fixpoint
theorem Ug:cb 86 0 [0] N3 nZ:= .rx nZ.partial_correctness
def mM(a:dv):Option az:=
 nZ (0,a,[])>>=λo=>if ((o.length:Int)=0:Bool) then some [1]>>=λt24=>if room 8 (o++t24).length then some (o++t24)else none else some o
theorem PL:bc adb mM:= .bm .n (.k Ug .n)
def vY(a:Int):Option Bool:=
 some (decide (7<=a))
theorem P9:bc acD vY:= .bm
def mz:Int×Int×List dv->Option ((Int) ⊕ (Unit))
 |(n,k,b)=>
 if (k<n:Bool) then qc ((⟨b⟩:ed),k)>>=λa=>vY a>>=λc=>if c then some (.inl k)else mz (n,aS .i64 k 1,b)else some (.inr ())
  partial_fixpoint
theorem Ts:cb 138 0 [0] Ka mz:= .rx mz.partial_correctness (.k vX (.k P9 .n))
def vZ(c:ed×Int×Int):Option Int:=
 match c with
 |(d,i,code)=>
 some (d.ei.length:Int)>>=λt12=>if !(t12=0:Bool) then some (cy (ca .i64 code) t12)>>=λt16=>qc (d,t16)>>=λr=>vY r>>=λb=>if(bif b then true else (t16<i:Bool)) then some t16 else if (0<i:Bool) then if !(i=0:Bool) then some (cy t16 i)else none else mz (t12,0,d.ei)>>=λo=>match o with
 |.inl a=>
 some a
 |.inr e=>
 some (-1)else none
theorem Uh:bc acn vZ:= .bm (.k vX (.k P9 .n)) (.k Ts .n)
def wK(a:Int):Option Bool:=
 some (bif decide (1<=a)then decide (a<=4)else false)
theorem P4:bc acp wK:= .bm
def mH:Int×Int×Int×List dv->Option ((Int) ⊕ (Unit))
 |(a,n,k,b)=>
 if (k<n:Bool) then if !(n=0:Bool) then some (cy (aS .i64 (ca .i64 a) k) n)>>=λt21=>qc ((⟨b⟩:ed),t21)>>=λr=>wK r>>=λc=>if c then some (.inl t21)else mH (a,n,aS .i64 k 1,b)else none else some (.inr ())
  partial_fixpoint
theorem Ui:cb 88 0 [0] N5 mH:= .rx mH.partial_correctness (.k vX (.k P4 .n))
def rv(b:ed×Int):Option Int:=
 match b with
 |(d,code)=>
 mH (code,(d.ei.length:Int),0,d.ei)>>=λo=>match o with
 |.inl a=>
 some a
 |.inr c=>
 some (-1)
theorem PM:bc adf rv:= .bm .n (.k Ui .n)
def wL:ed×Int×Int->Option (ab×Bool)
 |(d,t,code)=>
 if aB t d.ei.length then some (d.ei.getD t.toNat bw)>>=λa=>qc (d,t)>>=λr=>some (decide (r=8))>>=λt21=>(if t21 then rv (d,0)else some 0)>>=λc=>if(bif t21 then (c<0:Bool)else false) then some ((⟨7,false,0,[],0,[],[],[]⟩:ab),true)else if (r=1:Bool) then some ((⟨r,decide (cy code 2=1),0,[],0,[],[],[]⟩:ab),true)else if (r=2:Bool) then n2 a>>=λe=>rn a>>=λf=>n2 a>>=λg=>some (aS .i64 (dM .i64 f g) 1)>>=λt47=>if !(t47=0:Bool) then some ((⟨r,false,aS .i64 e (cy (ca .i64 code) t47),[],0,[],[],[]⟩:ab),true)else none else if (r=3:Bool) then if(bif (0<cy a.A 4:Bool)then (cy code 2=1:Bool)else false) then some ((⟨r,false,0,[97],0,[],[],[]⟩:ab),true)else some ((⟨r,false,0,[],0,[],[],[]⟩:ab),true)else if (r=4:Bool) then mM a>>=λb=>mM a>>=λi=>some (i.length:Int)>>=λt71=>if !(t71=0:Bool) then some (cy (ca .i64 code) t71)>>=λt72=>if aB t72 b.length then some ((⟨r,false,0,[],b.getD t72.toNat 0,[],[],[]⟩:ab),true)else none else none else some (decide (r=5))>>=λt77=>if t77 then if t77 then some ((⟨0,false,0,[],0,[],[],[]⟩:ab),false)else some ((⟨r,false,0,[],0,[],[],[]⟩:ab),true)else if (r=6:Bool) then some ((⟨0,false,0,[],0,[],[],[]⟩:ab),false)else some ((⟨r,false,0,[],0,[],[],[]⟩:ab),true)else none
theorem SA:bc aco wL:= .bm (.k vX (.k PM (.k ES (.k PE (.k PL .n)))))
def pG:Int×Bool×Int×Int×List dv×dv×List aY->Option (Int×Bool×Int×List dv×dv×List aY)
 |(f,e,a,k,c,d,b)=>
 if (k<(d.cX.length:Int):Bool) then if aB k d.cX.length then some (d.cX.getD k.toNat ia)>>=λg=>vZ ((⟨c⟩:ed),f,g.aC)>>=λr=>if(bif (!(aS .i64 1 (ca .i64 (cy g.ah 12))=a:Bool))then true else (r<0:Bool)) then pG (f,e,a,aS .i64 k 1,c,d,b)else some (mW (ca .i32 (aS .i64 97 a)))>>=λt55=>if ([109].length+t55.length<=ej:Bool) then some ([109]++t55)>>=λt56=>if(bif e then (cy g.gH 4=1:Bool)else false) then if(bif e then (2<=cy g.gH 4:Bool)else false) then wL ((⟨c⟩:ed),r,h4 .u8 g.gH 4)>>=λi=>some [(⟨a,t56,r,true,i.2,ab.eta i.1⟩:aY)]>>=λt87=>if room 160 (b++t87).length then some (f,e,a,c,d,b++t87)else none else some [(⟨a,t56,r,true,false,(⟨0,false,0,[],0,[],[],[]⟩:ab)⟩:aY)]>>=λl=>if room 160 (b++l).length then some (f,e,a,c,d,b++l)else none else if(bif e then (2<=cy g.gH 4:Bool)else false) then wL ((⟨c⟩:ed),r,h4 .u8 g.gH 4)>>=λj=>some [(⟨a,t56,r,false,j.2,ab.eta j.1⟩:aY)]>>=λm=>if room 160 (b++m).length then some (f,e,a,c,d,b++m)else none else some [(⟨a,t56,r,false,false,(⟨0,false,0,[],0,[],[],[]⟩:ab)⟩:aY)]>>=λn=>if room 160 (b++n).length then some (f,e,a,c,d,b++n)else none else none else none else some (f,e,a,c,d,b)
  partial_fixpoint
theorem Te:cb 87 0 [0,0] Jg pG:= .rx pG.partial_correctness (.k Uh (.k SA .n))
def pe:Int×Bool×Int×List dv×dv×List aY->Option (List aY)
 |(e,f,id,c,d,b)=>
 if (id<=12:Bool) then pG (e,f,id,0,c,d,b)>>=λa=>pe (a.1,a.2.1,aS .i64 a.2.2.1 1,a.2.2.2.1,a.2.2.2.2.1,a.2.2.2.2.2)else some b
  partial_fixpoint
theorem SV:cb 87 0 [0] N4 pe:= .rx pe.partial_correctness .n (.k Te .n)
def r3:ed×Int×Bool->Option (List aY)
 |(d,i,record)=>
 if aB i d.ei.length then pe (i,record,1,d.ei,d.ei.getD i.toNat bw,[])>>=λo=>some o else none
theorem TP:bc ade r3:= .bm .n (.k SV .n)
def nX:Int×Int×az×Int×List dv×Int×aD×Int×Int×Int×Int×Int×Bool×List af×List dd->Option (Int×Int×List dv×Int×aD×Int×Int×Int×Int×Int×Bool×List af×List dd)
 |(p,o,a,k,c,d,e,f,g,i,j,l,m,n,b)=>
 if (k<(a.length:Int):Bool) then if aB k a.length then if aB k a.length then some (mW (ca .i32 (aS .i64 97 (a.getD k.toNat 0))))>>=λt87=>if ([115].length+t87.length<=ej:Bool) then some [(⟨a.getD k.toNat 0,[115]++t87⟩:dd)]>>=λt90=>if room 24 (b++t90).length then nX (p,o,a,aS .i64 k 1,c,d,e,f,g,i,j,l,m,n,b++t90)else none else none else none else none else some (p,o,c,d,e,f,g,i,j,l,m,n,b)
  partial_fixpoint
theorem SB:cb 34 0 [0,0] Jh nX:= .rx nX.partial_correctness
def fG:Int×Int×List dv×List af->Option (List af)
 |(n,i,b,a)=>
 if (i<n:Bool) then if aB i b.length then some (b.getD i.toNat bw)>>=λc=>qc ((⟨b⟩:ed),i)>>=λr=>jz r>>=λN=>if N then some (mW (ca .i32 (aS .i64 65 i)))>>=λt41=>if (r=2:Bool) then n2 c>>=λQ=>rn c>>=λR=>some [(⟨r,t41,Q,R,0,[],[],0,0,false⟩:af)]>>=λt167=>if room 120 (a++t167).length then fG (n,aS .i64 i 1,b,a++t167)else none else if (r=3:Bool) then some [(⟨r,t41,0,0,ca .i64 (cy c.A 4),[],[],0,0,false⟩:af)]>>=λo=>if room 120 (a++o).length then fG (n,aS .i64 i 1,b,a++o)else none else if (r=4:Bool) then mM c>>=λS=>nX (n,i,S,0,b,r,t41,0,0,0,0,0,decide (cy c.B 2=1),a,[])>>=λd=>some [(⟨d.2.2.2.1,d.2.2.2.2.1,d.2.2.2.2.2.1,d.2.2.2.2.2.2.1,d.2.2.2.2.2.2.2.1,d.2.2.2.2.2.2.2.2.2.2.2.2,[],d.2.2.2.2.2.2.2.2.1,d.2.2.2.2.2.2.2.2.2.1,d.2.2.2.2.2.2.2.2.2.2.1⟩:af)]>>=λD=>if room 120 (d.2.2.2.2.2.2.2.2.2.2.2.1++D).length then fG (d.1,aS .i64 d.2.1 1,d.2.2.1,d.2.2.2.2.2.2.2.2.2.2.2.1++D)else none else if (r=5:Bool) then r3 ((⟨b⟩:ed),i,true)>>=λT=>some [(⟨r,t41,0,0,0,[],T,0,0,false⟩:af)]>>=λG=>if room 120 (a++G).length then fG (n,aS .i64 i 1,b,a++G)else none else if (r=6:Bool) then r3 ((⟨b⟩:ed),i,false)>>=λj=>if ((j.length:Int)=0:Bool) then some [(⟨5,t41,0,0,0,[],[],0,0,false⟩:af)]>>=λH=>if room 120 (a++H).length then fG (n,aS .i64 i 1,b,a++H)else none else some [(⟨r,t41,0,0,0,[],j,0,0,decide (cy c.B 2=1)⟩:af)]>>=λI=>if room 120 (a++I).length then fG (n,aS .i64 i 1,b,a++I)else none else if (r=7:Bool) then if !(n=0:Bool) then some [(⟨r,t41,0,0,ca .i64 (cy c.A 4),[],[],0,cy (ca .i64 c.C) n,false⟩:af)]>>=λJ=>if room 120 (a++J).length then fG (n,aS .i64 i 1,b,a++J)else none else none else if (r=8:Bool) then some (ca .i64 (cy c.A 4))>>=λt135=>rv ((⟨b⟩:ed),c.B)>>=λk=>if !(n=0:Bool) then some (cy (ca .i64 c.C) n)>>=λt144=>if (k<0:Bool) then some [(⟨7,[],0,0,t135,[],[],0,t144,false⟩:af)]>>=λK=>if room 120 (a++K).length then fG (n,aS .i64 i 1,b,a++K)else none else some [(⟨r,t41,0,0,t135,[],[],k,t144,false⟩:af)]>>=λL=>if room 120 (a++L).length then fG (n,aS .i64 i 1,b,a++L)else none else none else if (r=9:Bool) then if !(n=0:Bool) then some [(⟨r,t41,0,0,0,[],[],0,cy (ca .i64 c.C) n,false⟩:af)]>>=λM=>if room 120 (a++M).length then fG (n,aS .i64 i 1,b,a++M)else none else none else some [(⟨r,t41,0,0,0,[],[],0,0,false⟩:af)]>>=λp=>if room 120 (a++p).length then fG (n,aS .i64 i 1,b,a++p)else none else if (r=2:Bool) then n2 c>>=λU=>rn c>>=λV=>some [(⟨r,[],U,V,0,[],[],0,0,false⟩:af)]>>=λq=>if room 120 (a++q).length then fG (n,aS .i64 i 1,b,a++q)else none else if (r=3:Bool) then some [(⟨r,[],0,0,ca .i64 (cy c.A 4),[],[],0,0,false⟩:af)]>>=λs=>if room 120 (a++s).length then fG (n,aS .i64 i 1,b,a++s)else none else if (r=4:Bool) then mM c>>=λO=>nX (n,i,O,0,b,r,[],0,0,0,0,0,decide (cy c.B 2=1),a,[])>>=λe=>some [(⟨e.2.2.2.1,e.2.2.2.2.1,e.2.2.2.2.2.1,e.2.2.2.2.2.2.1,e.2.2.2.2.2.2.2.1,e.2.2.2.2.2.2.2.2.2.2.2.2,[],e.2.2.2.2.2.2.2.2.1,e.2.2.2.2.2.2.2.2.2.1,e.2.2.2.2.2.2.2.2.2.2.1⟩:af)]>>=λt=>if room 120 (e.2.2.2.2.2.2.2.2.2.2.2.1++t).length then fG (e.1,aS .i64 e.2.1 1,e.2.2.1,e.2.2.2.2.2.2.2.2.2.2.2.1++t)
 else none else if (r=5:Bool) then r3 ((⟨b⟩:ed),i,true)>>=λP=>some [(⟨r,[],0,0,0,[],P,0,0,false⟩:af)]>>=λu=>if room 120 (a++u).length then fG (n,aS .i64 i 1,b,a++u)else none else if (r=6:Bool) then r3 ((⟨b⟩:ed),i,false)>>=λf=>if ((f.length:Int)=0:Bool) then some [(⟨5,[],0,0,0,[],[],0,0,false⟩:af)]>>=λv=>if room 120 (a++v).length then fG (n,aS .i64 i 1,b,a++v)else none else some [(⟨r,[],0,0,0,[],f,0,0,decide (cy c.B 2=1)⟩:af)]>>=λw=>if room 120 (a++w).length then fG (n,aS .i64 i 1,b,a++w)else none else if (r=7:Bool) then if !(n=0:Bool) then some [(⟨r,[],0,0,ca .i64 (cy c.A 4),[],[],0,cy (ca .i64 c.C) n,false⟩:af)]>>=λx=>if room 120 (a++x).length then fG (n,aS .i64 i 1,b,a++x)else none else none else if (r=8:Bool) then some (ca .i64 (cy c.A 4))>>=λl=>rv ((⟨b⟩:ed),c.B)>>=λg=>if !(n=0:Bool) then some (cy (ca .i64 c.C) n)>>=λm=>if (g<0:Bool) then some [(⟨7,[],0,0,l,[],[],0,m,false⟩:af)]>>=λy=>if room 120 (a++y).length then fG (n,aS .i64 i 1,b,a++y)else none else some [(⟨r,[],0,0,l,[],[],g,m,false⟩:af)]>>=λz=>if room 120 (a++z).length then fG (n,aS .i64 i 1,b,a++z)else none else none else if (r=9:Bool) then if !(n=0:Bool) then some [(⟨r,[],0,0,0,[],[],0,cy (ca .i64 c.C) n,false⟩:af)]>>=λE=>if room 120 (a++E).length then fG (n,aS .i64 i 1,b,a++E)else none else none else some [(⟨r,[],0,0,0,[],[],0,0,false⟩:af)]>>=λF=>if room 120 (a++F).length then fG (n,aS .i64 i 1,b,a++F)else none else none else some a
  partial_fixpoint
theorem TQ:cb 34 0 [0] NN fG:= .rx fG.partial_correctness (.k vX (.k EE (.k ES (.k PE (.k PL (.k TP (.k PM .n))))))) (.k SB .n)
def ql(d:ed):Option (a7×Bool):=
 some (d.ei.length:Int)>>=λt13=>if(bif (t13<1:Bool)then true else (5<t13:Bool)) then some ((⟨[]⟩:a7),false)else fG (t13,0,d.ei,[])>>=λo=>some ((⟨o⟩:a7),true)
theorem VH:bc acW ql:= .bm .n (.k TQ .n)
def gU:List km×Int×List dv->Option (List dv)
 |(d,i,a)=>
 if(bif (i<(d.length:Int):Bool)then (0<(a.length:Int):Bool)else false) then if aB i d.length then some (d.getD i.toNat mG)>>=λe=>some (a.length:Int)>>=λt38=>if !(t38=0:Bool) then some (cy (ca .i64 e.Node) t38)>>=λt39=>if aB t39 a.length then if (t39.toNat<a.length:Bool) then some (a.getD t39.toNat bw).cX>>=λt46=>if room 3 ([]++t46).length then some ([]++t46)>>=λb=>if (t39.toNat<a.length:Bool) then if (t39.toNat=t39.toNat:Bool) then
 let n:=λc=>
 some (cy e.Kind 8)>>=λf=>if (f=0:Bool) then if (t39.toNat<a.length:Bool) then some (dM .u8 (aS .u8 (a.getD t39.toNat bw).A (cy e.A 5)) 2)>>=λj=>if (t39.toNat<a.length:Bool) then gU (d,aS .i64 i 1,(a.set t39.toNat (⟨(a.getD t39.toNat bw).Kind,j,(a.getD t39.toNat bw).B,(a.getD t39.toNat bw).C,(a.getD t39.toNat bw).cX⟩:dv)).set t39.toNat (⟨((a.set t39.toNat (⟨(a.getD t39.toNat bw).Kind,j,(a.getD t39.toNat bw).B,(a.getD t39.toNat bw).C,(a.getD t39.toNat bw).cX⟩:dv)).getD t39.toNat bw).Kind,((a.set t39.toNat (⟨(a.getD t39.toNat bw).Kind,j,(a.getD t39.toNat bw).B,(a.getD t39.toNat bw).C,(a.getD t39.toNat bw).cX⟩:dv)).getD t39.toNat bw).A,((a.set t39.toNat (⟨(a.getD t39.toNat bw).Kind,j,(a.getD t39.toNat bw).B,(a.getD t39.toNat bw).C,(a.getD t39.toNat bw).cX⟩:dv)).getD t39.toNat bw).B,((a.set t39.toNat (⟨(a.getD t39.toNat bw).Kind,j,(a.getD t39.toNat bw).B,(a.getD t39.toNat bw).C,(a.getD t39.toNat bw).cX⟩:dv)).getD t39.toNat bw).C,b⟩:dv))else none else none else if (f=1:Bool) then if (t39.toNat<a.length:Bool) then some (dM .u8 (aS .u8 (a.getD t39.toNat bw).B (cy e.B 5)) 2)>>=λk=>if (t39.toNat<a.length:Bool) then gU (d,aS .i64 i 1,(a.set t39.toNat (⟨(a.getD t39.toNat bw).Kind,(a.getD t39.toNat bw).A,k,(a.getD t39.toNat bw).C,(a.getD t39.toNat bw).cX⟩:dv)).set t39.toNat (⟨((a.set t39.toNat (⟨(a.getD t39.toNat bw).Kind,(a.getD t39.toNat bw).A,k,(a.getD t39.toNat bw).C,(a.getD t39.toNat bw).cX⟩:dv)).getD t39.toNat bw).Kind,((a.set t39.toNat (⟨(a.getD t39.toNat bw).Kind,(a.getD t39.toNat bw).A,k,(a.getD t39.toNat bw).C,(a.getD t39.toNat bw).cX⟩:dv)).getD t39.toNat bw).A,((a.set t39.toNat (⟨(a.getD t39.toNat bw).Kind,(a.getD t39.toNat bw).A,k,(a.getD t39.toNat bw).C,(a.getD t39.toNat bw).cX⟩:dv)).getD t39.toNat bw).B,((a.set t39.toNat (⟨(a.getD t39.toNat bw).Kind,(a.getD t39.toNat bw).A,k,(a.getD t39.toNat bw).C,(a.getD t39.toNat bw).cX⟩:dv)).getD t39.toNat bw).C,b⟩:dv))else none else none else if (f=2:Bool) then if (t39.toNat<a.length:Bool) then some (cy e.A 6)>>=λo=>if (0<=o:Bool) then some (y2 .u8 (a.getD t39.toNat bw).A (sD .u8 1 o))>>=λl=>if (t39.toNat<a.length:Bool) then gU (d,aS .i64 i 1,(a.set t39.toNat (⟨(a.getD t39.toNat bw).Kind,l,(a.getD t39.toNat bw).B,(a.getD t39.toNat bw).C,(a.getD t39.toNat bw).cX⟩:dv)).set t39.toNat (⟨((a.set t39.toNat (⟨(a.getD t39.toNat bw).Kind,l,(a.getD t39.toNat bw).B,(a.getD t39.toNat bw).C,(a.getD t39.toNat bw).cX⟩:dv)).getD t39.toNat bw).Kind,((a.set t39.toNat (⟨(a.getD t39.toNat bw).Kind,l,(a.getD t39.toNat bw).B,(a.getD t39.toNat bw).C,(a.getD t39.toNat bw).cX⟩:dv)).getD t39.toNat bw).A,((a.set t39.toNat (⟨(a.getD t39.toNat bw).Kind,l,(a.getD t39.toNat bw).B,(a.getD t39.toNat bw).C,(a.getD t39.toNat bw).cX⟩:dv)).getD t39.toNat bw).B,((a.set t39.toNat (⟨(a.getD t39.toNat bw).Kind,l,(a.getD t39.toNat bw).B,(a.getD t39.toNat bw).C,(a.getD t39.toNat bw).cX⟩:dv)).getD t39.toNat bw).C,b⟩:dv))else none else none else none else if (f=3:Bool) then if (t39.toNat<a.length:Bool) then some (aS .u8 (a.getD t39.toNat bw).C e.A)>>=λm=>if (t39.toNat<a.length:Bool) then gU (d,aS .i64 i 1,(a.set t39.toNat (⟨(a.getD t39.toNat bw).Kind,(a.getD t39.toNat bw).A,(a.getD t39.toNat bw).B,m,(a.getD t39.toNat bw).cX⟩:dv)).set t39.toNat (⟨((a.set t39.toNat (⟨(a.getD t39.toNat bw).Kind,(a.getD t39.toNat bw).A,(a.getD t39.toNat bw).B,m,(a.getD t39.toNat bw).cX⟩:dv)).getD t39.toNat bw).Kind,((a.set t39.toNat (⟨(a.getD t39.toNat bw).Kind,(a.getD t39.toNat bw).A,(a.getD t39.toNat bw).B,m,(a.getD t39.toNat bw).cX⟩:dv)).getD t39.toNat bw).A,((a.set t39.toNat (⟨(a.getD t39.toNat bw).Kind,(a.getD t39.toNat bw).A,(a.getD t39.toNat bw).B,m,(a.getD t39.toNat bw).cX⟩:dv)).getD t39.toNat bw).B,((a.set t39.toNat (⟨(a.getD t39.toNat bw).Kind,(a.getD t39.toNat bw).A,(a.getD t39.toNat bw).B,m,(a.getD t39.toNat bw).cX⟩:dv)).getD t39.toNat bw).C,b⟩:dv))
 else none else none else if (f=4:Bool) then if (t39.toNat=t39.toNat:Bool) then if ((b.length:Int)<8:Bool) then if (t39.toNat=t39.toNat:Bool) then some [(⟨e.A,e.B,h4 .u8 e.A 12⟩:k7)]>>=λp=>if room 3 (b++p).length then if (t39.toNat=t39.toNat:Bool) then gU (d,aS .i64 i 1,a.set t39.toNat (⟨(a.getD t39.toNat bw).Kind,(a.getD t39.toNat bw).A,(a.getD t39.toNat bw).B,(a.getD t39.toNat bw).C,b++p⟩:dv))else none else none else none else gU (d,aS .i64 i 1,a.set t39.toNat (⟨(a.getD t39.toNat bw).Kind,(a.getD t39.toNat bw).A,(a.getD t39.toNat bw).B,(a.getD t39.toNat bw).C,b⟩:dv))else none else if (f=5:Bool) then if (t39.toNat=t39.toNat:Bool) then if (0<(b.length:Int):Bool) then if (t39.toNat=t39.toNat:Bool) then if gu 0 c b.length then if (t39.toNat=t39.toNat:Bool) then some (aS .i64 c 1)>>=λg=>if gu g (b.length:Int) b.length then if((c.toNat+((b.length:Int).toNat-g.toNat)<=b.length:Bool)&&(g.toNat+((b.length:Int).toNat-g.toNat)<=b.length:Bool)) then if (t39.toNat=t39.toNat:Bool) then gU (d,aS .i64 i 1,a.set t39.toNat (⟨(a.getD t39.toNat bw).Kind,(a.getD t39.toNat bw).A,(a.getD t39.toNat bw).B,(a.getD t39.toNat bw).C,b.take c.toNat++(b.drop g.toNat).take ((b.length:Int).toNat-g.toNat)⟩:dv))else none else none else none else none else none else none else gU (d,aS .i64 i 1,a.set t39.toNat (⟨(a.getD t39.toNat bw).Kind,(a.getD t39.toNat bw).A,(a.getD t39.toNat bw).B,(a.getD t39.toNat bw).C,b⟩:dv))else none else if (f=6:Bool) then if (t39.toNat=t39.toNat:Bool) then if (0<(b.length:Int):Bool) then if (t39.toNat=t39.toNat:Bool) then if aB c b.length then if (c.toNat<b.length:Bool) then gU (d,aS .i64 i 1,a.set t39.toNat (⟨(a.getD t39.toNat bw).Kind,(a.getD t39.toNat bw).A,(a.getD t39.toNat bw).B,(a.getD t39.toNat bw).C,b.set c.toNat (⟨(b.getD c.toNat ia).ah,(b.getD c.toNat ia).aC,e.B⟩:k7)⟩:dv))else none else none else none else gU (d,aS .i64 i 1,a.set t39.toNat (⟨(a.getD t39.toNat bw).Kind,(a.getD t39.toNat bw).A,(a.getD t39.toNat bw).B,(a.getD t39.toNat bw).C,b⟩:dv))else none else if (t39.toNat=t39.toNat:Bool) then if (0<(b.length:Int):Bool) then if (t39.toNat=t39.toNat:Bool) then if (t39.toNat=t39.toNat:Bool) then if aB c b.length then if (c.toNat<b.length:Bool) then if aB c b.length then if (c.toNat<b.length:Bool) then gU (d,aS .i64 i 1,a.set t39.toNat (⟨(a.getD t39.toNat bw).Kind,(a.getD t39.toNat bw).A,(a.getD t39.toNat bw).B,(a.getD t39.toNat bw).C,b.set c.toNat (⟨(b.getD c.toNat ia).ah,aS .u8 (b.getD c.toNat ia).aC e.B,(b.getD c.toNat ia).gH⟩:k7)⟩:dv))else none else none else none else none else none else none else gU (d,aS .i64 i 1,a.set t39.toNat (⟨(a.getD t39.toNat bw).Kind,(a.getD t39.toNat bw).A,(a.getD t39.toNat bw).B,(a.getD t39.toNat bw).C,b⟩:dv))else none
 if (0<(b.length:Int):Bool) then if (t39.toNat=t39.toNat:Bool) then some (b.length:Int)>>=λt63=>if !(t63=0:Bool) then some (cy (ca .i64 e.A) t63)>>=λt64=>n t64 else none else none else n 0 else none else none else none else none else none else none else none else some a
  partial_fixpoint
theorem Tf:cb 35 0 [0] NO gU:= .rx gU.partial_correctness
def Af:ed×List km->Option ed
 |(d,l)=>
 if room 32 ([]++d.ei).length then gU (l,0,[]++d.ei)>>=λo=>some (⟨o⟩:ed)else none
theorem SC:bc acX Af:= .bm .n (.k Tf .n)
def xi(c:lI):Option (cq×cq×Bool):=
 ql c.S>>=λr=>Af (c.S,c.L)>>=λb=>ql b>>=λa=>if(bif bif (!r.2)then true else(!a.2)then true else (5<(c.L.length:Int):Bool)) then some ((⟨(⟨[]⟩:a7),0⟩:cq),(⟨(⟨[]⟩:a7),0⟩:cq),false)else some (r.1.Types.length:Int)>>=λt45=>if !(t45=0:Bool) then some (cy (ca .i64 c.T) t45)>>=λt46=>some (a.1.Types.length:Int)>>=λt58=>if !(t58=0:Bool) then some ((⟨r.1,t46⟩:cq),(⟨a.1,cy (aS .i64 t46 (ca .i64 c.U)) t58⟩:cq),true)else none else none
theorem VI:bc ab' xi:= .bm (.k VH (.k SC .n))
def rN:List dd×List dd×Int×Int->Option ((Bool) ⊕ (Unit))
 |(a,b,c,t13)=>
 if (t13<c:Bool) then if aB t13 a.length then some (a.getD t13.toNat dB)>>=λd=>if aB t13 b.length then some (b.getD t13.toNat dB)>>=λe=>if !(dZ d.ah e.ah&&(iM d.Name e.Name&&true)) then some (.inl false)else rN (a,b,c,aS .i64 t13 1)else none else none else some (.inr ())
  partial_fixpoint
theorem Sp:cb 324 0 [0] Kb rN:= .rx rN.partial_correctness
def Al(c:List dd×List dd):Option Bool:=
 match c with
 |(s1,a)=>
 if !((s1.length:Int)=(a.length:Int):Bool) then some false else rN (s1,a,(s1.length:Int),0)>>=λo=>match o with
 |.inl b=>
 some b
 |.inr d=>
 some true
theorem Sr:bc NH Al:= .bm .n (.k Sp .n)
def rO:List cG×List cG×Int×Int->Option ((Bool) ⊕ (Unit))
 |(a,b,c,t13)=>
 if (t13<c:Bool) then if aB t13 a.length then some (a.getD t13.toNat ch)>>=λd=>if aB t13 b.length then some (b.getD t13.toNat ch)>>=λe=>if !(dZ d.ah e.ah&&(iM d.Data e.Data&&true)) then some (.inl false)else rO (a,b,c,aS .i64 t13 1)else none else none else some (.inr ())
  partial_fixpoint
theorem Ss:cb 316 0 [0] Kc rO:= .rx rO.partial_correctness
def wD(c:List cG×List cG):Option Bool:=
 match c with
 |(s1,a)=>
 if !((s1.length:Int)=(a.length:Int):Bool) then some false else rO (s1,a,(s1.length:Int),0)>>=λo=>match o with
 |.inl b=>
 some b
 |.inr d=>
 some true
theorem Po:bc NB wD:= .bm .n (.k Ss .n)
mutual
def lM:ab×ab->Option Bool
 |(a,b)=>
 some (bif bif bif bif decide (a.Kind=b.Kind)then fy a.cd b.cd else false then decide (a.bB=b.bB)else false then decide (a.bL=b.bL)else false then decide (a.ah=b.ah)else false)>>=λt37=>(if t37 then wD (a.Rest,b.Rest)else some false)>>=λr=>some (bif t37 then r else false)>>=λt44=>(if t44 then wC (a.bb,b.bb)else some false)>>=λp=>some (bif t44 then p else false)>>=λt51=>(if t51 then wC (a.ar,b.ar)else some false)>>=λq=>some (bif t51 then q else false)
  partial_fixpoint
def wC(c:List ab×List ab):Option Bool:=
 match c with
 |(s1,f)=>
 if !((s1.length:Int)=(f.length:Int):Bool) then some false else tM (f,s1,(s1.length:Int),0)>>=λo=>match o with
 |.inl j=>
 some j
 |.inr t=>
 some true
  partial_fixpoint
def tM:List ab×List ab×Int×Int->Option ((Bool) ⊕ (Unit))
 |(e,t15,g,t17)=>
 if (t17<g:Bool) then if aB t17 t15.length then if aB t17 e.length then lM (ab.eta (t15.getD t17.toNat aR),ab.eta (e.getD t17.toNat aR))>>=λr=>if !r then some (.inl false)else tM (e,t15,g,aS .i64 t17 1)else none else none else some (.inr ())
  partial_fixpoint
end
theorem Vi:eR vE lM/\eR B9 wC/\fq 317 0 [0] yf tM:=lM.mutual_partial_correctness (eM vE) (eM B9) (fp 317 0 [0] yf)
 (λ_ h1 _ _ h=>eX h (.k Po (.k (cN B9 h1) .n)))
 (λ_ a _ _ h=>eX h .n (.k (fM yf a) .n))
 (λ_ _ h0 a _ _ h=>fL yf a h (.k (cN vE h0) .n))
theorem Qs:bc vE lM:=cN _ Vi.1
def xj:aY×aY->Option Bool
 |(a,y)=>
 some (bif bif bif bif decide (a.ah=y.ah)then decide (a.Name=y.Name)else false then decide (a.aC=y.aC)else false then fy a.cJ y.cJ else false then fy a.bX y.bX else false)>>=λt37=>(if t37 then lM ((⟨a.bC.Kind,a.bC.cd,a.bC.bB,a.bC.bL,a.bC.ah,a.bC.bb,a.bC.ar,a.bC.Rest⟩:ab),ab.eta y.bC)else some false)>>=λr=>some (bif t37 then r else false)
theorem VJ:bc NJ xj:= .bm (.k Qs .n)
def om:List aY×List aY×Int×Int->Option ((Bool) ⊕ (Unit))
 |(c,t15,d,t17)=>
 if (t17<d:Bool) then if aB t17 t15.length then some (t15.getD t17.toNat aG)>>=λa=>if aB t17 c.length then some (c.getD t17.toNat aG)>>=λb=>xj ((⟨a.ah,a.Name,a.aC,a.cJ,a.bX,ab.eta a.bC⟩:aY),(⟨b.ah,b.Name,b.aC,b.cJ,b.bX,ab.eta b.bC⟩:aY))>>=λr=>if !r then some (.inl false)else om (c,t15,d,aS .i64 t17 1)else none else none else some (.inr ())
  partial_fixpoint
theorem Sy:cb 325 0 [0] Kd om:= .rx om.partial_correctness (.k VJ .n)
def Ai(c:List aY×List aY):Option Bool:=
 match c with
 |(s1,a)=>
 if !((s1.length:Int)=(a.length:Int):Bool) then some false else om (a,s1,(s1.length:Int),0)>>=λo=>match o with
 |.inl b=>
 some b
 |.inr d=>
 some true
theorem Sg:bc NI Ai:= .bm .n (.k Sy .n)
def hg:af×af->Option Bool
 |(a,b)=>
 some (bif bif bif bif bif bif bif decide (a.Kind=b.Kind)then decide (a.Name=b.Name)else false then decide (a.bH=b.bH)else false then decide (a.bK=b.bK)else false then decide (a.Max=b.Max)else false then decide (a.Key=b.Key)else false then decide (a.aQ=b.aQ)else false then fy a.Open b.Open else false)>>=λt58=>(if t58 then Al (a.br,b.br)else some false)>>=λr=>some (bif t58 then r else false)>>=λt65=>(if t65 then Ai (a.ae,b.ae)else some false)>>=λc=>some (bif t65 then c else false)
theorem U':bc Nq hg:= .bm (.k Sr (.k Sg .n))
def xk(c:Int):Option Bool:=
 some (bif bif decide (c=95)then true else bif decide (97<=c)then decide (c<=122)else false then true else bif decide (65<=c)then decide (c<=90)else false)
theorem PT:bc NC xk:= .bm
def AJ(c:Int):Option Bool:=
 some (bif decide (48<=c)then decide (c<=57)else false)
theorem Vj:bc ND AJ:= .bm
def k9:aD×Int×Int->Option ((Bool) ⊕ (Unit))
 |(a,b,t19)=>
 if (t19<b:Bool) then if aB t19 a.length then xk (jf a t19)>>=λc=>some (!c)>>=λt26=>if(aB t19 a.length||(!t26)) then (if t26 then AJ (jf a t19)else some false)>>=λd=>if(bif t26 then(!d)else false) then some (.inl false)else k9 (a,b,aS .i64 t19 1)else none else none else some (.inr ())
  partial_fixpoint
theorem Uy:cb 275 0 [0] Ke k9:= .rx k9.partial_correctness (.k PT (.k Vj .n))
def jW(s:aD):Option Bool:=
 some (bif decide (s=[])then true else decide (24<(s.length:Int)))>>=λt10=>if(aB 0 s.length||(!(!t10))) then (if !t10 then xk (jf s 0)else some false)>>=λr=>if(bif t10 then true else(!r)) then some false else k9 (s,(s.length:Int),0)>>=λo=>match o with
 |.inl a=>
 some a
 |.inr b=>
 some true else none
theorem QZ:bc Nn jW:= .bm (.k PT .n) (.k Uy .n)
def n3:az×List aD×az×Int×Int×List aD->Option ((Bool) ⊕ az)
 |(c,a,t9,e,t11,b)=>
 if (t11<e:Bool) then if aB t11 t9.length then some (t9.getD t11.toNat 0)>>=λd=>some (bif decide (d<1)then true else decide (1000<d))>>=λt21=>some (decide (0<t11))>>=λt24=>some (dM .i64 t11 1)>>=λt29=>if(aB t29 c.length||(!((!t21)&&t24))) then some (bif t21 then true else bif t24 then decide (d<=c.getD t29.toNat 0)else false)>>=λt34=>if(aB t11 a.length||(!(!t34))) then some (bif t34 then true else gb b (a.getD t11.toNat []))>>=λt42=>if(aB t11 a.length||(!(!t42))) then (if !t42 then jW (a.getD t11.toNat [])else some false)>>=λr=>if(bif t42 then true else(!r)) then some (.inl false)else if aB t11 a.length then n3 (c,a,t9,e,aS .i64 t11 1,h' b (a.getD t11.toNat []))else none else none else none else none else none else some (.inr c)
  partial_fixpoint
theorem Vk:cb 322 0 [0] Kf n3:= .rx n3.partial_correctness (.k QZ .n)
def w6(c:az×List aD):Option Bool:=
 match c with
 |(l,names)=>
 n3 (l,names,l,(l.length:Int),0,[])>>=λo=>match o with
 |.inl a=>
 some a
 |.inr b=>
 some (decide ((b.length:Int)<=16))
theorem QM:bc NF w6:= .bm .n (.k Vk .n)
def pH:List dd×List dd×Int×Int×az×List aD->Option (List dd×az×List aD)
 |(c,t7,d,t9,a,b)=>
 if (t9<d:Bool) then if aB t9 t7.length then some (t7.getD t9.toNat dB)>>=λe=>some [e.ah]>>=λt16=>if room 8 (a++t16).length then some [e.Name]>>=λt21=>if room 16 (b++t21).length then pH (c,t7,d,aS .i64 t9 1,a++t16,b++t21)else none else none else none else some (c,a,b)
  partial_fixpoint
theorem TR:cb 276 0 [0] Kg pH:= .rx pH.partial_correctness
def uu(l:List dd):Option Bool:=
 pH (l,l,(l.length:Int),0,[],[])>>=λo=>some (decide (0<(o.1.length:Int)))>>=λt26=>(if t26 then w6 (o.2.1,o.2.2)else some false)>>=λr=>some (bif t26 then r else false)
theorem VK:bc No uu:= .bm (.k QM .n) (.k TR .n)
def AW(v:ab):Option Bool:=
 lM (ab.eta v,(⟨0,false,0,[],0,[],[],[]⟩:ab))>>=λr=>some r
theorem Va:bc NG AW:= .bm (.k Qs .n)
def n0:List aY×Int×Int×af×az×List aD->Option ((Bool) ⊕ (af×az×List aD))
 |(t8,e,t10,b,c,d)=>
 if (t10<e:Bool) then if aB t10 t8.length then some (t8.getD t10.toNat aG)>>=λa=>some [a.ah]>>=λt17=>if room 8 (c++t17).length then some [a.Name]>>=λt22=>if room 16 (d++t22).length then some (bif bif decide (b.Kind=6)then bif a.cJ then true else a.bX else false then true else bif a.cJ then a.bX else false)>>=λt42=>some (!a.bX)>>=λt46=>(if((!t42)&&t46) then AW (ab.eta a.bC)else some false)>>=λf=>if(bif t42 then true else bif t46 then(!f)else false) then some (.inl false)else n0 (t8,e,aS .i64 t10 1,b,c++t17,d++t22)else none else none else none else some (.inr (b,c,d))
  partial_fixpoint
theorem TS:cb 277 0 [0] Lx n0:= .rx n0.partial_correctness (.k Va .n)
def rz(t:af):Option Bool:=
 n0 (t.ae,(t.ae.length:Int),0,t,[],[])>>=λo=>match o with
 |.inl b=>
 some b
 |.inr a=>
 some (bif decide (a.1.Kind=5)then true else decide (0<(a.2.1.length:Int)))>>=λt62=>(if t62 then w6 (a.2.1,a.2.2)else some false)>>=λr=>some (bif t62 then r else false)
theorem VL:bc Np rz:= .bm (.k QM .n) (.k TS .n)
def fZ(t:af):Option Bool:=
 if (t.Kind=1:Bool) then hg ((⟨0,t.Name,t.bH,t.bK,t.Max,t.br,t.ae,t.Key,t.aQ,t.Open⟩:af),(⟨0,[],0,0,0,[],[],0,0,false⟩:af))>>=λr=>some r else if (t.Kind=2:Bool) then some (decide (t.bH<=t.bK))>>=λt17=>(if t17 then hg ((⟨0,t.Name,0,0,t.Max,t.br,t.ae,t.Key,t.aQ,t.Open⟩:af),(⟨0,[],0,0,0,[],[],0,0,false⟩:af))else some false)>>=λj=>some (bif t17 then j else false)else if (t.Kind=3:Bool) then some (bif decide (0<=t.Max)then decide (t.Max<=200)else false)>>=λt29=>(if t29 then hg ((⟨0,t.Name,t.bH,t.bK,0,t.br,t.ae,t.Key,t.aQ,t.Open⟩:af),(⟨0,[],0,0,0,[],[],0,0,false⟩:af))else some false)>>=λv=>some (bif t29 then v else false)else if (t.Kind=4:Bool) then jW t.Name>>=λe=>(if e then uu t.br else some false)>>=λA=>some (bif e then A else false)>>=λt40=>(if t40 then hg ((⟨0,[],t.bH,t.bK,t.Max,[],t.ae,t.Key,t.aQ,false⟩:af),(⟨0,[],0,0,0,[],[],0,0,false⟩:af))else some false)>>=λB=>some (bif t40 then B else false)else some (decide (t.Kind=5))>>=λt45=>if t45 then if t45 then jW t.Name>>=λf=>(if f then rz t else some false)>>=λC=>some (bif f then C else false)>>=λt53=>(if t53 then hg ((⟨0,[],t.bH,t.bK,t.Max,t.br,[],t.Key,t.aQ,bif t.Open then decide (t.Kind=5)else false⟩:af),(⟨0,[],0,0,0,[],[],0,0,false⟩:af))else some false)>>=λD=>some (bif t53 then D else false)else some (decide (t.Kind=7))>>=λt65=>if t65 then if t65 then some (bif decide (0<=t.Max)then decide (t.Max<=50)else false)>>=λt74=>if (t.Kind=8:Bool) then (if t74 then hg ((⟨0,t.Name,t.bH,t.bK,0,t.br,t.ae,0,0,t.Open⟩:af),(⟨0,[],0,0,0,[],[],0,0,false⟩:af))else some false)>>=λE=>some (bif t74 then E else false)else (if t74 then hg ((⟨0,t.Name,t.bH,t.bK,0,t.br,t.ae,t.Key,0,t.Open⟩:af),(⟨0,[],0,0,0,[],[],0,0,false⟩:af))else some false)>>=λk=>some (bif t74 then k else false)else if (t.Kind=9:Bool) then hg ((⟨0,t.Name,t.bH,t.bK,t.Max,t.br,t.ae,t.Key,0,t.Open⟩:af),(⟨0,[],0,0,0,[],[],0,0,false⟩:af))>>=λl=>some l else some false else if (t.Kind=8:Bool) then some (bif decide (0<=t.Max)then decide (t.Max<=50)else false)>>=λa=>if (t.Kind=8:Bool) then (if a then hg ((⟨0,t.Name,t.bH,t.bK,0,t.br,t.ae,0,0,t.Open⟩:af),(⟨0,[],0,0,0,[],[],0,0,false⟩:af))else some false)>>=λm=>some (bif a then m else false)else (if a then hg ((⟨0,t.Name,t.bH,t.bK,0,t.br,t.ae,t.Key,0,t.Open⟩:af),(⟨0,[],0,0,0,[],[],0,0,false⟩:af))else some false)>>=λn=>some (bif a then n else false)else if (t.Kind=9:Bool) then hg ((⟨0,t.Name,t.bH,t.bK,t.Max,t.br,t.ae,t.Key,0,t.Open⟩:af),(⟨0,[],0,0,0,[],[],0,0,false⟩:af))>>=λo=>some o else some false else if (t.Kind=6:Bool) then jW t.Name>>=λd=>(if d then rz t else some false)>>=λp=>some (bif d then p else false)>>=λg=>(if g then hg ((⟨0,[],t.bH,t.bK,t.Max,t.br,[],t.Key,t.aQ,bif t.Open then decide (t.Kind=5)else false⟩:af),(⟨0,[],0,0,0,[],[],0,0,false⟩:af))else some false)>>=λq=>some (bif g then q else false)else some (decide (t.Kind=7))>>=λi=>if i then if i then some (bif decide (0<=t.Max)then decide (t.Max<=50)else false)>>=λb=>if (t.Kind=8:Bool) then (if b then hg ((⟨0,t.Name,t.bH,t.bK,0,t.br,t.ae,0,0,t.Open⟩:af),(⟨0,[],0,0,0,[],[],0,0,false⟩:af))else some false)>>=λs=>some (bif b then s else false)
 else (if b then hg ((⟨0,t.Name,t.bH,t.bK,0,t.br,t.ae,t.Key,0,t.Open⟩:af),(⟨0,[],0,0,0,[],[],0,0,false⟩:af))else some false)>>=λu=>some (bif b then u else false)else if (t.Kind=9:Bool) then hg ((⟨0,t.Name,t.bH,t.bK,t.Max,t.br,t.ae,t.Key,0,t.Open⟩:af),(⟨0,[],0,0,0,[],[],0,0,false⟩:af))>>=λw=>some w else some false else if (t.Kind=8:Bool) then some (bif decide (0<=t.Max)then decide (t.Max<=50)else false)>>=λc=>if (t.Kind=8:Bool) then (if c then hg ((⟨0,t.Name,t.bH,t.bK,0,t.br,t.ae,0,0,t.Open⟩:af),(⟨0,[],0,0,0,[],[],0,0,false⟩:af))else some false)>>=λx=>some (bif c then x else false)else (if c then hg ((⟨0,t.Name,t.bH,t.bK,0,t.br,t.ae,t.Key,0,t.Open⟩:af),(⟨0,[],0,0,0,[],[],0,0,false⟩:af))else some false)>>=λy=>some (bif c then y else false)else if (t.Kind=9:Bool) then hg ((⟨0,t.Name,t.bH,t.bK,t.Max,t.br,t.ae,t.Key,0,t.Open⟩:af),(⟨0,[],0,0,0,[],[],0,0,false⟩:af))>>=λz=>some z else some false
theorem Wr:bc MZ fZ:= .bm (.k U' (.k QZ (.k VK (.k VL .n))))
def rA:List aY×Int×Int×af×az->Option (af×az)
 |(t7,c,t9,b,a)=>
 if (t9<c:Bool) then if aB t9 t7.length then some [(t7.getD t9.toNat aG).aC]>>=λt16=>if room 8 (a++t16).length then rA (t7,c,aS .i64 t9 1,b,a++t16)else none else none else some (b,a)
  partial_fixpoint
theorem VM:cb 207 0 [0] Ly rA:= .rx rA.partial_correctness
def BM(t:af):Option az:=
 rA (t.ae,(t.ae.length:Int),0,t,[])>>=λo=>if (o.1.Kind=8:Bool) then some [o.1.Key]>>=λt25=>if room 8 (o.2++t25).length then some (o.2++t25)>>=λl=>if (7<=o.1.Kind:Bool) then some [o.1.aQ]>>=λt33=>if room 8 (l++t33).length then some (l++t33)else none else some l else none else if (7<=o.1.Kind:Bool) then some [o.1.aQ]>>=λa=>if room 8 (o.2++a).length then some (o.2++a)else none else some o.2
theorem Ws:bc M0 BM:= .bm .n (.k VM .n)
def n1:List af×Int×Int×az×Int×Int×List af×List aD×Int×aD×Int×Int×Int×List dd×List aY×Int×Int×Bool->Option ((Int) ⊕ (List af×Int×Int×List af×List aD×Int×aD×Int×Int×Int×List dd×List aY×Int×Int×Bool))
 |(n,o,p,t38,q,t40,a,b,c,d,e,f,g,i,j,k,l,m)=>
 if (t40<q:Bool) then if aB t40 t38.length then some (t38.getD t40.toNat 0)>>=λr=>if(bif (r<0:Bool)then true else ((a.length:Int)<=r:Bool)) then some (.inl 4)else n1 (n,o,p,t38,q,aS .i64 t40 1,a,b,c,d,e,f,g,i,j,k,l,m)else none else some (.inr (n,o,p,a,b,c,d,e,f,g,i,j,k,l,m))
  partial_fixpoint
theorem TT:cb 147 0 [0,0] H' n1:= .rx n1.partial_correctness
def qi(j:List af×Int×Int×List af×List aD):Option ((Int) ⊕ (Unit)):=
 match j with
 |(t14,f,t16,b,d)=>
 if (t16<f:Bool) then if aB t16 t14.length then some (t14.getD t16.toNat aL)>>=λa=>fZ a>>=λr=>if(bif (!r)then true else bif (!(a.Name=[]:Bool))then gb d a.Name else false) then some (.inl 1)else BM a>>=λe=>n1 (t14,f,t16,e,(e.length:Int),0,b,h' d a.Name,a.Kind,a.Name,a.bH,a.bK,a.Max,a.br,a.ae,a.Key,a.aQ,a.Open)>>=λg=>match g with
 |.inl i=>
 some (.inl i)
 |.inr c=>
 some (decide (c.2.2.2.2.2.1=8))>>=λt56=>if(aB c.2.2.2.2.2.2.2.2.2.2.2.2.1 c.2.2.2.1.length||(!t56)) then some (decide ((c.2.2.2.1.getD c.2.2.2.2.2.2.2.2.2.2.2.2.1.toNat aL).Kind<1))>>=λt65=>if(aB c.2.2.2.2.2.2.2.2.2.2.2.2.1 c.2.2.2.1.length||(!(t56&&(!t65)))) then if(bif t56 then bif t65 then true else (4<(c.2.2.2.1.getD c.2.2.2.2.2.2.2.2.2.2.2.2.1.toNat aL).Kind:Bool)else false) then some (.inl 1)else qi (c.1,c.2.1,aS .i64 c.2.2.1 1,c.2.2.2.1,c.2.2.2.2.1)else none else none else none else some (.inr ())
  partial_fixpoint
theorem Uz:cb 147 0 [0] Lz qi:= .rx qi.partial_correctness (.k Wr (.k Ws .n)) (.k TT .n)
def oa(s:a7):Option Int:=
 if (32<(s.Types.length:Int):Bool) then some 3 else qi (s.Types,(s.Types.length:Int),0,s.Types,[])>>=λo=>match o with
 |.inl a=>
 some a
 |.inr b=>
 some 0
theorem xl:bc MD oa:= .bm .n (.k Uz .n)
def Bt(v:ab):Option ab:=
 if (v.Kind=1:Bool) then some (⟨v.Kind,v.cd,0,[],0,[],[],[]⟩:ab)else if (v.Kind=2:Bool) then some (⟨v.Kind,false,v.bB,[],0,[],[],[]⟩:ab)else if (v.Kind=3:Bool) then some (⟨v.Kind,false,0,v.bL,0,[],[],[]⟩:ab)else if (v.Kind=4:Bool) then some (⟨v.Kind,false,0,[],v.ah,[],[],[]⟩:ab)else if (v.Kind=5:Bool) then some (⟨v.Kind,false,0,[],0,[],v.ar,v.Rest⟩:ab)else if (v.Kind=6:Bool) then some (⟨v.Kind,false,0,[],v.ah,[],v.ar,v.Rest⟩:ab)else if (v.Kind=8:Bool) then some (⟨v.Kind,false,0,[],0,v.bb,v.ar,[]⟩:ab)else some (decide (v.Kind=7))>>=λt57=>if t57 then if t57 then some (⟨v.Kind,false,0,[],0,[],v.ar,[]⟩:ab)else some (⟨v.Kind,false,0,[],0,[],[],[]⟩:ab)else if (v.Kind=9:Bool) then some (⟨v.Kind,false,0,[],0,[],v.ar,[]⟩:ab)else some (⟨v.Kind,false,0,[],0,[],[],[]⟩:ab)
theorem Wk:bc M6 Bt:= .bm
def AX(v:ab):Option Bool:=
 Bt (ab.eta v)>>=λr=>some (bif bif bif bif bif bif fy v.cd r.cd then decide (v.bB=r.bB)else false then decide (v.bL=r.bL)else false then decide (v.ah=r.ah)else false then decide ((v.bb.length:Int)=(r.bb.length:Int))else false then decide ((v.ar.length:Int)=(r.ar.length:Int))else false then decide ((v.Rest.length:Int)=(r.Rest.length:Int))else false)
theorem Vb:bc ME AX:= .bm (.k Wk .n)
def Ef:dd×Int->Option (Bool×Int)
 |(a,b)=>
 some (decide (a.ah=b),b)
theorem UA:bc M8 Ef:= .bm
def mX:List dd×Int×Int×Int->Option ((Int×Int) ⊕ (Int))
 |(a,c,t8,b)=>
 if (t8<c:Bool) then if aB t8 a.length then Ef (a.getD t8.toNat dB,b)>>=λr=>if r.1 then some (.inl (t8,r.2))else mX (a,c,aS .i64 t8 1,r.2)else none else some (.inr b)
  partial_fixpoint
theorem Si:cb 217 1 [0] LA mX:= .rx mX.partial_correctness (.k UA .n)
def D0(d:List dd×Int):Option (Int×Int):=
 match d with
 |(s,b)=>
 mX (s,(s.length:Int),0,b)>>=λo=>match o with
 |.inl a=>
 some (a.1,a.2)
 |.inr c=>
 some ((-1),c)
theorem Sm:bc M7 D0:= .bm .n (.k Si .n)
def pK:af×Int->Option (Int×Bool)
 |(t,id)=>
 D0 (t.br,id)>>=λr=>some (nv r.1 0,decide (0<=r.1))
theorem Bg:bc MF pK:= .bm (.k Sm .n)
def w7(id:Int):Option Bool:=
 some (bif decide (1<=id)then decide (id<=1000)else false)
theorem QN:bc MG w7:= .bm
def Eg:aY×Int->Option (Bool×Int)
 |(m,b)=>
 some (decide (m.ah=b),b)
theorem UB:bc M' Eg:= .bm
def oo:List aY×Int×Int×Int->Option ((Int×Int) ⊕ (Int))
 |(b,d,t8,c)=>
 if (t8<d:Bool) then if aB t8 b.length then some (b.getD t8.toNat aG)>>=λa=>Eg ((⟨a.ah,a.Name,a.aC,a.cJ,a.bX,ab.eta a.bC⟩:aY),c)>>=λr=>if r.1 then some (.inl (t8,r.2))else oo (b,d,aS .i64 t8 1,r.2)else none else some (.inr c)
  partial_fixpoint
theorem Sj:cb 219 1 [0] LB oo:= .rx oo.partial_correctness (.k UB .n)
def D1(d:List aY×Int):Option (Int×Int):=
 match d with
 |(s,b)=>
 oo (s,(s.length:Int),0,b)>>=λo=>match o with
 |.inl a=>
 some (a.1,a.2)
 |.inr c=>
 some ((-1),c)
theorem Sn:bc M9 D1:= .bm .n (.k Sj .n)
def gk:af×Int->Option (Int×Bool)
 |(t,id)=>
 D1 (t.ae,id)>>=λr=>some (nv r.1 0,decide (0<=r.1))
theorem kn:bc MH gk:= .bm (.k Sn .n)
def kp:Bool×List cG×Int×Int×List af×ab×Int×aD×Int×Int×Int×List dd×List aY×Int×Int×Bool->Option ((Bool) ⊕ (Bool×List af×Int×Bool×Int×aD×Int×List ab×List ab×List cG×Int×aD×Int×Int×Int×List dd×List aY×Int×Int×Bool))
 |(o,t111,q,t113,n,a,b,c,d,e,f,g,i,j,k,l)=>
 if (t113<q:Bool) then if aB t113 t111.length then some (t111.getD t113.toNat ch)>>=λm=>gk ((⟨b,c,d,e,f,g,i,j,k,l⟩:af),m.ah)>>=λp=>(if !p.2 then w7 m.ah else some false)>>=λr=>some (bif p.2 then true else(!r))>>=λt131=>some (decide (0<t113))>>=λt134=>some (dM .i64 t113 1)>>=λt141=>if(aB t141 a.Rest.length||(!((!t131)&&t134))) then if(bif t131 then true else bif t134 then (m.ah<=(a.Rest.getD t141.toNat ch).ah:Bool)else false) then some (.inl false)else kp (o,t111,q,aS .i64 t113 1,n,ab.eta a,b,c,d,e,f,g,i,j,k,l)else none else none else some (.inr (o,n,a.Kind,a.cd,a.bB,a.bL,a.ah,a.bb,a.ar,a.Rest,b,c,d,e,f,g,i,j,k,l))
  partial_fixpoint
theorem Vl:cb 101 0 [0] LD kp:= .rx kp.partial_correctness (.k kn (.k QN .n))
def BD(a:Int):Option Bool:=
 some (!(decide (a=a)))
theorem XD:bc Nw BD:= .bm
def BP:Int×Int->Option Int
 |(a,y)=>
 BD a>>=λr=>BD y>>=λb=>if r then if b then some 0 else some (-1)else if b then some 1 else if (a<y:Bool) then some (-1)else if (y<a:Bool) then some 1 else some 0
theorem Wt:bc Na BP:= .bm (.k XD .n)
def BQ(a:Int):Option Bool:=
 some (!(decide (a=a)))
theorem Wu:bc Nx BQ:= .bm
def xr:Int×Int->Option Int
 |(a,y)=>
 BQ a>>=λr=>BQ y>>=λb=>if r then if b then some 0 else some (-1)else if b then some 1 else if (a<y:Bool) then some (-1)else if (y<a:Bool) then some 1 else some 0
theorem Vm:bc Nc xr:= .bm (.k Wu .n)
def BR(a:aD):Option Bool:=
 some (!(decide (a=a)))
theorem Wv:bc Ny BR:= .bm
def AK:aD×aD->Option Int
 |(a,y)=>
 BR a>>=λr=>BR y>>=λb=>if r then if b then some 0 else some (-1)else if b then some 1 else if Op.bytesLess a y then some (-1)else if !(Op.bytesLess a y||(a=y:Bool)) then some 1 else some 0
theorem Vn:bc Nd AK:= .bm (.k Wv .n)
def pZ:Int×az×Int×Int->Option ((Int) ⊕ (Int))
 |(a,t6,b,t8)=>
 if (t8<b:Bool) then if aB t8 t6.length then some (t6.getD t8.toNat 0)>>=λc=>if !(c=a:Bool) then some (.inl c)else pZ (a,t6,b,aS .i64 t8 1)else none else some (.inr a)
  partial_fixpoint
theorem XE:cb 224 0 [0] LC pZ:= .rx pZ.partial_correctness
def Ca(a:az):Option Int:=
 pZ (0,a,(a.length:Int),0)>>=λo=>match o with
 |.inl b=>
 some b
 |.inr c=>
 some c
theorem ZB:bc Nb Ca:= .bm .n (.k XE .n)
def uv(n:Int):Option Int:=
 some (y2 .u64 (sD .u64 (ca .u64 n) 1) (ca .u64 (mc .i64 n 63)))
theorem PY:bc MM uv:= .bm
def pL:ab×ab->Option Int
 |(a,b)=>
 if !(a.Kind=b.Kind:Bool) then some 0 else if (a.Kind=1:Bool) then if fy a.cd b.cd then some 0 else if b.cd then some (-1)else some 1 else if (a.Kind=2:Bool) then uv a.bB>>=λr=>uv b.bB>>=λc=>BP (r,c)>>=λd=>some d else if (a.Kind=3:Bool) then xr ((a.bL.length:Int),(b.bL.length:Int))>>=λe=>AK (a.bL,b.bL)>>=λf=>Ca [e,f]>>=λg=>some g else if (a.Kind=4:Bool) then xr (a.ah,b.ah)>>=λi=>some i else some 0
theorem PZ:bc MI pL:= .bm (.k PY (.k Wt (.k Vm (.k Vn (.k ZB .n)))))
def kU:Bool×Int×List af×ab×Int×aD×Int×Int×Int×List dd×List aY×Int×Int×Bool->Option ((Bool) ⊕ (Bool×List af×ab×Int×aD×Int×Int×Int×List dd×List aY×Int×Int×Bool))
 |(o,i,b,a,c,d,e,f,g,j,k,l,m,n)=>
 if (i<(a.bb.length:Int):Bool) then some (dM .i64 i 1)>>=λt291=>if aB t291 a.bb.length then if aB i a.bb.length then pL (ab.eta (a.bb.getD t291.toNat aR),ab.eta (a.bb.getD i.toNat aR))>>=λp=>if (0<=p:Bool) then some (.inl false)else kU (o,aS .i64 i 1,b,ab.eta a,c,d,e,f,g,j,k,l,m,n)else none else none else some (.inr (o,b,ab.eta a,c,d,e,f,g,j,k,l,m,n))
  partial_fixpoint
theorem Vo:cb 101 0 [2] LF kU:= .rx kU.partial_correctness (.k PZ .n)
mutual
def Aj:List ab×List af×Int×Bool->Option (Bool×List af×Int×Bool)
 |(s,b,f,g)=>
 D2 (s,b,f,g)>>=λr=>some (decide (0<=r.1),r.2.1,r.2.2.1,r.2.2.2)
  partial_fixpoint
def D2(e:List ab×List af×Int×Bool):Option (Int×List af×Int×Bool):=
 match e with
 |(s,b,f,g)=>
 pB (s,(s.length:Int),0,b,f,g)>>=λo=>match o with
 |.inl j=>
 some (j.1,j.2.1,j.2.2.1,j.2.2.2)
 |.inr c=>
 some ((-1),c.1,c.2.1,c.2.2)
  partial_fixpoint
def pW:a7×Int×List ab×Bool->Option Bool
 |(s,t,l,plain)=>
 Aj (l,s.Types,t,plain)>>=λr=>some (!r.1)
  partial_fixpoint
def FE:ab×List af×Int×Bool->Option (Bool×List af×Int×Bool)
 |(v,b,f,g)=>
 jC ((⟨b⟩:a7),f,ab.eta v,g)>>=λr=>some ((!r),b,f,g)
  partial_fixpoint
def jC(e:a7×Int×ab×Bool):Option Bool:=
 match e with
 |(s,t,v,plain)=>
 if(bif (t<0:Bool)then true else ((s.Types.length:Int)<=t:Bool)) then some false else if aB t s.Types.length then some (s.Types.getD t.toNat aL)>>=λa=>some (!(decide (v.Kind=a.Kind)))>>=λt39=>(if !t39 then AX (ab.eta v)else some false)>>=λr=>if(bif t39 then true else(!r)) then some false else if (a.Kind=2:Bool) then some (bif decide (a.bH<=v.bB)then decide (v.bB<=a.bK)else false)else if (a.Kind=3:Bool) then some (decide ((v.bL.length:Int)<=a.Max))else if (a.Kind=4:Bool) then pK (a,v.ah)>>=λF=>some (bif a.Open then(!plain)else false)>>=λt85=>(if((!F.2)&&t85) then w7 v.ah else some false)>>=λag=>some (bif F.2 then true else bif t85 then ag else false)else if (a.Kind=5:Bool) then if(bif (!((v.ar.length:Int)=(a.ae.length:Int):Bool))then true else bif plain then (0<(v.Rest.length:Int):Bool)else false) then some false else kp (plain,v.Rest,(v.Rest.length:Int),0,s.Types,ab.eta v,a.Kind,a.Name,a.bH,a.bK,a.Max,a.br,a.ae,a.Key,a.aQ,a.Open)>>=λo=>match o with
 |.inl j=>
 some j
 |.inr c=>
 n4 (c.1,c.2.2.2.2.2.2.2.2.2.2.2.2.2.2.2.2.1,(c.2.2.2.2.2.2.2.2.2.2.2.2.2.2.2.2.1.length:Int),0,c.2.1,c.2.2.1,c.2.2.2.1,c.2.2.2.2.1,c.2.2.2.2.2.1,c.2.2.2.2.2.2.1,c.2.2.2.2.2.2.2.1,c.2.2.2.2.2.2.2.2.1,c.2.2.2.2.2.2.2.2.2.1)>>=λP=>match P with
 |.inl Q=>
 some Q
 |.inr an=>
 some true else if (a.Kind=6:Bool) then gk (a,v.ah)>>=λw=>if w.2 then some (bif decide ((v.ar.length:Int)=1)then decide ((v.Rest.length:Int)=0)else false)>>=λt188=>if(aB w.1 a.ae.length||(!t188)) then if(aB 0 v.ar.length||(!t188)) then (if t188 then jC ((⟨s.Types⟩:a7),(a.ae.getD w.1.toNat aG).aC,ab.eta (v.ar.getD (0:Int).toNat aR),plain)else some false)>>=λak=>some (bif t188 then ak else false)else none else none else some (bif a.Open then(!plain)else false)>>=λt209=>(if t209 then w7 v.ah else some false)>>=λam=>some (bif bif bif t209 then am else false then decide ((v.ar.length:Int)=0)else false then decide ((v.Rest.length:Int)=1)else false)>>=λt226=>if(aB 0 v.Rest.length||(!t226)) then some (bif t226 then decide ((v.Rest.getD (0:Int).toNat ch).ah=v.ah)else false)else none else if (a.Kind=7:Bool) then some (decide ((v.ar.length:Int)<=a.Max))>>=λt244=>(if t244 then pW ((⟨s.Types⟩:a7),a.aQ,v.ar,plain)else some false)>>=λU=>some (bif t244 then U else false)else if (a.Kind=8:Bool) then some (bif decide (a.Max<(v.bb.length:Int))then true else(!(decide ((v.ar.length:Int)=(v.bb.length:Int)))))>>=λt270=>(if !t270 then pW ((⟨s.Types⟩:a7),a.Key,v.bb,plain)else some false)>>=λW=>if(bif t270 then true else(!W)) then some false else kU (plain,1,s.Types,ab.eta v,a.Kind,a.Name,a.bH,a.bK,a.Max,a.br,a.ae,a.Key,a.aQ,a.Open)>>=λR=>match R with
 |.inl S=>
 some S
 |.inr p=>
 pW ((⟨p.2.1⟩:a7),p.2.2.2.2.2.2.2.2.2.2.2.1,p.2.2.1.ar,p.1)>>=λX=>some X else if (a.Kind=9:Bool) then some (decide ((v.ar.length:Int)<=1))>>=λt313=>(if t313 then pW ((⟨s.Types⟩:a7),a.aQ,v.ar,plain)else some false)>>=λY=>some (bif t313 then Y else false)else some true else none
  partial_fixpoint
def pB:List ab×Int×Int×List af×Int×Bool->Option ((Int×List af×Int×Bool) ⊕ (List af×Int×Bool))
 |(x,H,t8,D,y,A)=>
 if (t8<H:Bool) then if aB t8 x.length then FE (ab.eta (x.getD t8.toNat aR),D,y,A)>>=λr=>if r.1 then some (.inl (t8,r.2.1,r.2.2.1,r.2.2.2))else pB (x,H,aS .i64 t8 1,r.2.1,r.2.2.1,r.2.2.2)else none else some (.inr (D,y,A))
  partial_fixpoint
def n4:Bool×List aY×Int×Int×List af×Int×Bool×Int×aD×Int×List ab×List ab×List cG->Option ((Bool) ⊕ (Unit))
 |(E,t150,G,t152,B,I,J,K,L,M,N,q,O)=>
 if (t152<G:Bool) then if aB t152 t150.length then if aB t152 q.length then jC ((⟨B⟩:a7),(t150.getD t152.toNat aG).aC,ab.eta (q.getD t152.toNat aR),E)>>=λZ=>if !Z then some (.inl false)else n4 (E,t150,G,aS .i64 t152 1,B,I,J,K,L,M,N,q,O)else none else none else some (.inr ())
  partial_fixpoint
end
theorem Sk:eR zz Aj/\eR zB D2/\fq 285 3 [0] xR pB/\eR zA FE/\eR q3 jC/\eR zm pW/\fq 101 0 [1] xS n4:=Aj.mutual_partial_correctness (eM zz) (eM zB) (fp 285 3 [0] xR) (eM zA) (eM q3) (eM zm) (fp 101 0 [1] xS)
 (λ_ h1 _ _ h=>eX h (.k (cN zB h1) .n))
 (λ_ b _ _ h=>eX h .n (.k (fM xR b) .n))
 (λ_ _ b d _ _ h=>fL xR b h (.k (cN zA d) .n))
 (λ_ a _ _ h=>eX h (.k (cN q3 a) .n))
 (λ_ _ _ a bh c _ _ h=>eX h (.k Vb (.k Bg (.k QN (.k kn (.k (cN q3 a) (.k (cN zm bh) .n)))))) (.k Vl (.k (fM xS c) (.k Vo .n))))
 (λ_ h0 _ _ h=>eX h (.k (cN zz h0) .n))
 (λ_ _ a c _ _ h=>fL xS c h (.k (cN q3 a) .n))
theorem QO:bc q3 jC:=cN _ Sk.2.2.2.2.1
def rG:a7×Int×ab->Option Bool
 |(s,t,v)=>
 jC (s,t,ab.eta v,true)>>=λr=>some r
theorem EA:bc NY rG:= .bm (.k QO .n)
def pn:Int×List af×Int×Int×List aY×Int×Int×List af->Option ((Int×Int×Int) ⊕ (List af×Int×Int×List af))
 |(i,c,d,e,t24,f,t26,b)=>
 if (t26<f:Bool) then if aB t26 t24.length then some (t24.getD t26.toNat aG)>>=λa=>(if a.bX then rG ((⟨b⟩:a7),a.aC,ab.eta a.bC)else some false)>>=λg=>if(bif a.bX then(!g)else false) then some (.inl (i,a.ah,1))else pn (i,c,d,e,t24,f,aS .i64 t26 1,b)else none else some (.inr (c,d,e,b))
  partial_fixpoint
theorem SD:cb 270 0 [0,0] Ia pn:= .rx pn.partial_correctness (.k EA .n)
def p7(g:List af×Int×Int×List af):Option ((Int×Int×Int) ⊕ (Unit)):=
 match g with
 |(t16,d,t18,b)=>
 if (t18<d:Bool) then if aB t18 t16.length then some (t16.getD t18.toNat aL)>>=λe=>pn (t18,t16,d,t18,e.ae,(e.ae.length:Int),0,b)>>=λf=>match f with
 |.inl c=>
 some (.inl (c.1,c.2.1,c.2.2))
 |.inr a=>
 p7 (a.1,a.2.1,aS .i64 a.2.2.1 1,a.2.2.2)else none else some (.inr ())
  partial_fixpoint
theorem TU:cb 270 0 [0] LG p7:= .rx p7.partial_correctness .n (.k SD .n)
def Es(s:a7):Option (Int×Int×Int):=
 oa s>>=λr=>if !(r=0:Bool) then some (0,0,r)else p7 (s.Types,(s.Types.length:Int),0,s.Types)>>=λo=>match o with
 |.inl a=>
 some (a.1,a.2.1,a.2.2)
 |.inr b=>
 some (0,0,0)
theorem VN:bc Nk Es:= .bm (.k xl .n) (.k TU .n)
def AL(s:a7):Option Int:=
 oa s>>=λr=>if !(r=0:Bool) then some r else Es s>>=λa=>some a.2.2
theorem Vp:bc MR AL:= .bm (.k xl (.k VN .n))
def qd:Int×List aY×Int×Int×az->Option (Int×az)
 |(c,t33,d,t35,a)=>
 if (t35<d:Bool) then if aB t35 t33.length then some (t33.getD t35.toNat aG)>>=λb=>if aB b.aC a.length then if (b.aC.toNat<a.length:Bool) then qd (da 2 (hG .i64 c (a.getD b.aC.toNat 0)),t33,d,aS .i64 t35 1,a)else none else none else none else some (c,a)
  partial_fixpoint
theorem UZ:cb 271 1 [0] LH qd:= .rx qd.partial_correctness
def qe:Int×List aY×Int×Int×az->Option (Int×az)
 |(c,t52,d,t54,a)=>
 if (t54<d:Bool) then if aB t54 t52.length then some (t52.getD t54.toNat aG)>>=λb=>if aB b.aC a.length then if (b.aC.toNat<a.length:Bool) then qe (aS .i64 c (a.getD b.aC.toNat 0),t52,d,aS .i64 t54 1,a)else none else none else none else some (c,a)
  partial_fixpoint
theorem U0:cb 271 1 [1] LI qe:= .rx qe.partial_correctness
def AM:af×az->Option (Int×az)
 |(a,b)=>
 if (a.Kind=2:Bool) then if (a.bH=a.bK:Bool) then some (1,b)else some (2,b)else if (a.Kind=3:Bool) then if (a.Max=0:Bool) then some (1,b)else some (2,b)else if (a.Kind=4:Bool) then some ((a.br.length:Int),b)else if (a.Kind=5:Bool) then qd (1,a.ae,(a.ae.length:Int),0,b)>>=λo=>some (o.1,o.2)else if (a.Kind=6:Bool) then qe (0,a.ae,(a.ae.length:Int),0,b)>>=λc=>some (c.1,c.2)else if (a.Kind=7:Bool) then some (decide (a.Max=0))>>=λt71=>if(aB a.aQ b.length||(!(!t71))) then if((a.aQ.toNat<b.length:Bool)||(!(!t71))) then if(bif t71 then true else (b.getD a.aQ.toNat 0=0:Bool)) then some (1,b)else some (2,b)else none else none else if (a.Kind=8:Bool) then some (decide (a.Max=0))>>=λt84=>if(aB a.aQ b.length||(!(!t84))) then if((a.aQ.toNat<b.length:Bool)||(!(!t84))) then some (bif t84 then true else decide (b.getD a.aQ.toNat 0=0))>>=λt92=>if(aB a.Key b.length||(!(!t92))) then if((a.Key.toNat<b.length:Bool)||(!(!t92))) then if(bif t92 then true else (b.getD a.Key.toNat 0=0:Bool)) then some (1,b)else some (2,b)else none else none else none else none else if (a.Kind=9:Bool) then if aB a.aQ b.length then if (a.aQ.toNat<b.length:Bool) then some (aS .i64 1 (b.getD a.aQ.toNat 0),b)else none else none else some (2,b)
theorem Vq:bc Nl AM:= .bm .n (.k UZ (.k U0 .n))
def nY:Bool×List af×Int×Int×List af×az->Option (Bool×List af×az)
 |(d,t14,c,t16,a,b)=>
 if (t16<c:Bool) then if aB t16 t14.length then AM (t14.getD t16.toNat aL,b)>>=λr=>if((r.2.length=b.length:Bool)&&true) then some (da 2 r.1)>>=λt24=>if aB t16 r.2.length then if (t16.toNat<r.2.length:Bool) then if !(t24=r.2.getD t16.toNat 0:Bool) then if aB t16 r.2.length then if (t16.toNat<r.2.length:Bool) then nY (true,t14,c,aS .i64 t16 1,a,r.2.set t16.toNat t24)else none else none else nY (d,t14,c,aS .i64 t16 1,a,r.2)else none else none else none else none else some (d,a,b)
  partial_fixpoint
theorem SE:cb 198 0 [0,0] Ib nY:= .rx nY.partial_correctness (.k Vq .n)
def r4:Bool×List af×az->Option az
 |(d,a,c)=>
 if d then nY (false,a,(a.length:Int),0,a,c)>>=λb=>r4 (b.1,b.2.1,b.2.2)else some c
  partial_fixpoint
theorem TV:cb 198 0 [0] LJ r4:= .rx r4.partial_correctness .n (.k SE .n)
def AD(s:a7):Option az:=
 some (s.Types.length:Int)>>=λt10=>if wG 8 t10 then r4 (true,s.Types,List.replicate t10.toNat 0)>>=λo=>some o else none
theorem VO:bc MS AD:= .bm .n (.k TV .n)
def p8:az×Int×Int×List Bool->Option (List Bool)
 |(t14,b,t16,a)=>
 if (t16<b:Bool) then if aB t16 t14.length then some [decide (0<t14.getD t16.toNat 0)]>>=λt23=>if room 1 (a++t23).length then p8 (t14,b,aS .i64 t16 1,a++t23)else none else none else some a
  partial_fixpoint
theorem TW:cb 141 0 [0] LK p8:= .rx p8.partial_correctness
def Et(s:a7):Option (List Bool×Int):=
 AL s>>=λr=>if !(r=0:Bool) then some ([],r)else AD s>>=λa=>p8 (a,(a.length:Int),0,[])>>=λo=>some (o,0)
theorem VP:bc Mz Et:= .bm (.k Vp (.k VO .n)) (.k TW .n)
def qf:List Bool×Int×Int->Option ((Int) ⊕ (Unit))
 |(t15,a,t17)=>
 if (t17<a:Bool) then if aB t17 t15.length then if !(t15.getD t17.toNat false) then some (.inl 10)else qf (t15,a,aS .i64 t17 1)else none else some (.inr ())
  partial_fixpoint
theorem U1:cb 89 0 [0] N7 qf:= .rx qf.partial_correctness
def xt(s:a7):Option Int:=
 Et s>>=λr=>if !(r.2=0:Bool) then some r.2 else qf (r.1,(r.1.length:Int),0)>>=λo=>match o with
 |.inl a=>
 some a
 |.inr b=>
 some 0
theorem Pu:bc N6 xt:= .bm (.k VP .n) (.k U1 .n)
def pM(r:cq):Option Bool:=
 xt r.e1>>=λa=>some (bif bif decide (a=0)then decide (0<=r.aC)else false then decide (r.aC<(r.e1.Types.length:Int))else false)
theorem Eh:bc C1 pM:= .bm (.k Pu .n)
def nc:List aK×Int×Int×aK->Option ((Int) ⊕ (Unit))
 |(a,c,t8,b)=>
 if (t8<c:Bool) then if aB t8 a.length then some (a.getD t8.toNat bG)>>=λd=>if(dZ b.bW d.bW&&(dZ b.bZ d.bZ&&true)) then some (.inl t8)else nc (a,c,aS .i64 t8 1,b)else none else some (.inr ())
  partial_fixpoint
theorem Tg:cb 90 0 [0] Ji nc:= .rx nc.partial_correctness
def EF(b:List aK×aK):Option Int:=
 match b with
 |(s,v)=>
 nc (s,(s.length:Int),0,v)>>=λo=>match o with
 |.inl a=>
 some a
 |.inr c=>
 some (-1)
theorem SF:bc N8 EF:= .bm .n (.k Tg .n)
def tn:List aK×aK->Option Bool
 |(s,v)=>
 EF (s,v)>>=λr=>some (decide (0<=r))
theorem Pq:bc C2 tn:= .bm (.k SF .n)
def v7(p:fi):Option aK:=
 some (⟨p.w.aC,p.r.aC⟩:aK)
theorem P':bc C3 v7:= .bm
def tq:fi×aK->Option Bool
 |(p,a)=>
 some (bif bif decide (0<=da a.bW a.bZ)then decide (a.bW<(p.w.e1.Types.length:Int))else false then decide (a.bZ<(p.r.e1.Types.length:Int))else false)
theorem SX:bc C4 tq:= .bm
def xm:a7×Int->Option Int
 |(s,t)=>
 xt s>>=λr=>if !(r=0:Bool) then some r else if(bif (t<0:Bool)then true else ((s.Types.length:Int)<=t:Bool)) then some 4 else some 0
theorem VQ:bc MT xm:= .bm (.k Pu .n)
def xu:cq×cq->Option Int
 |(w,r)=>
 xm (w.e1,w.aC)>>=λa=>if !(a=0:Bool) then some a else xm (r.e1,r.aC)>>=λb=>some b
theorem Pv:bc MA xu:= .bm (.k VQ .n)
def wR(a:af):Option Int:=
 if (a.Kind=1:Bool) then some 2 else if (a.Kind=2:Bool) then some (dM .u64 (ca .u64 a.bK) (ca .u64 a.bH))>>=λt16=>if (t16<2147483647:Bool) then some (aS .i64 (ca .i64 t16) 1)else some 2147483647 else if (a.Kind=4:Bool) then some (a.br.length:Int)else if (a.Kind=3:Bool) then if (a.Max=0:Bool) then some 1 else some 2147483647 else some 2147483647
theorem Vr:bc MV wR:= .bm
def po:List dd×Int×Int×af×af->Option ((Bool) ⊕ (af×af))
 |(t16,c,t18,b,a)=>
 if (t18<c:Bool) then if aB t18 t16.length then pK (a,(t16.getD t18.toNat dB).ah)>>=λr=>if !r.2 then some (.inl false)else po (t16,c,aS .i64 t18 1,b,a)else none else some (.inr (b,a))
  partial_fixpoint
theorem SG:cb 201 0 [0] LL po:= .rx po.partial_correctness (.k Bg .n)
def pq:List aY×Int×Int×af->Option ((Bool) ⊕ (Unit))
 |(t33,b,t35,a)=>
 if (t35<b:Bool) then if aB t35 t33.length then gk (a,(t33.getD t35.toNat aG).ah)>>=λc=>if !c.2 then some (.inl false)else pq (t33,b,aS .i64 t35 1,a)else none else some (.inr ())
  partial_fixpoint
theorem SH:cb 201 0 [1] LM pq:= .rx pq.partial_correctness (.k kn .n)
def wv(f:af×af):Option Bool:=
 match f with
 |(b,y)=>
 if y.Open then some true else po (b.br,(b.br.length:Int),0,b,y)>>=λo=>match o with
 |.inl c=>
 some c
 |.inr a=>
 pq (a.1.ae,(a.1.ae.length:Int),0,a.2)>>=λd=>match d with
 |.inl e=>
 some e
 |.inr g=>
 some true
theorem U2:bc MW wv:= .bm .n (.k SG (.k SH .n))
def xn:a7×Int->Option Int
 |(s,t)=>
 oa s>>=λr=>if !(r=0:Bool) then some r else if(bif (t<0:Bool)then true else ((s.Types.length:Int)<=t:Bool)) then some 4 else some 0
theorem VR:bc MO xn:= .bm (.k xl .n)
def AN:a7×Int×ab×a7×Int->Option Int
 |(w,wt,v,r,rt)=>
 xn (w,wt)>>=λa=>if !(a=0:Bool) then some a else xn (r,rt)>>=λb=>if !(b=0:Bool) then some b else rG (w,wt,ab.eta v)>>=λc=>if !c then some 1 else some 0
theorem Vs:bc My AN:= .bm (.k VR (.k EA .n))
def r5:List af×List af×az×az->Option (ab×Bool×List af×List af×az×az)
 |(b,c,e,a)=>
 tQ 8 a>>=λr=>if((r.1.length=a.length:Bool)&&true) then some ((⟨0,false,0,[],0,[],[],[]⟩:ab),false,b,c,r.1,r.2)else none
theorem Qi:bc MP r5:= .bm (.k kh .n)
def tu:Int×List af×List af×az×az->Option (ab×Bool×List af×List af×az×az)
 |(id,b,c,e,a)=>
 tQ 8 a>>=λr=>if((r.1.length=a.length:Bool)&&true) then some [id]>>=λt13=>if room 8 (r.2++t13).length then some ((⟨0,false,0,[],0,[],[],[]⟩:ab),false,b,c,r.1,r.2++t13)else none else none
theorem P5:bc Ni tu:= .bm (.k kh .n)
mutual
def jA(v:ab):Option ab:=
 ga 120 v.bb>>=λr=>ga 120 v.ar>>=λU=>ga 24 v.Rest>>=λW=>r6 ((r.length:Int),0,v.Kind,v.cd,v.bB,v.bL,v.ah,0,false,0,[],0,r,U,W)>>=λo=>rj ((o.2.2.2.2.2.2.2.2.2.2.2.1.length:Int),0,o.1,o.2.1,o.2.2.1,o.2.2.2.1,o.2.2.2.2.1,o.2.2.2.2.2.1,o.2.2.2.2.2.2.1,o.2.2.2.2.2.2.2.1,o.2.2.2.2.2.2.2.2.1,o.2.2.2.2.2.2.2.2.2.1,o.2.2.2.2.2.2.2.2.2.2.2.1,o.2.2.2.2.2.2.2.2.2.2.1,o.2.2.2.2.2.2.2.2.2.2.2.2)>>=λa=>some (⟨a.1,a.2.1,a.2.2.1,a.2.2.2.1,a.2.2.2.2.1,a.2.2.2.2.2.2.2.2.2.2.1,a.2.2.2.2.2.2.2.2.2.2.2.1,a.2.2.2.2.2.2.2.2.2.2.2.2⟩:ab)
  partial_fixpoint
def r6:Int×Int×Int×Bool×Int×aD×Int×Int×Bool×Int×aD×Int×List ab×List ab×List cG->Option (Int×Bool×Int×aD×Int×Int×Bool×Int×aD×Int×List ab×List ab×List cG)
 |(R,t22,g,j,p,q,t,w,x,y,A,B,c,D,E)=>
 if (t22<R:Bool) then if aB t22 c.length then if (t22.toNat<c.length:Bool) then jA (ab.eta (c.getD t22.toNat aR))>>=λX=>if aB t22 c.length then if (t22.toNat<c.length:Bool) then r6 (R,aS .i64 t22 1,g,j,p,q,t,w,x,y,A,B,c.set t22.toNat (ab.eta X),D,E)else none else none else none else none else some (g,j,p,q,t,w,x,y,A,B,c,D,E)
  partial_fixpoint
def rj:Int×Int×Int×Bool×Int×aD×Int×Int×Bool×Int×aD×Int×List ab×List ab×List cG->Option (Int×Bool×Int×aD×Int×Int×Bool×Int×aD×Int×List ab×List ab×List cG)
 |(S,t37,F,G,H,I,J,K,L,M,N,O,e,P,Q)=>
 if (t37<S:Bool) then if aB t37 e.length then if (t37.toNat<e.length:Bool) then jA (ab.eta (e.getD t37.toNat aR))>>=λY=>if aB t37 e.length then if (t37.toNat<e.length:Bool) then rj (S,aS .i64 t37 1,F,G,H,I,J,K,L,M,N,O,e.set t37.toNat (ab.eta Y),P,Q)else none else none else none else none else some (F,G,H,I,J,K,L,M,N,O,P,e,Q)
  partial_fixpoint
end
theorem U3:eR s6 jA/\fq 234 0 [1] x8 rj/\fq 234 0 [0] xT r6:=jA.mutual_partial_correctness (eM s6) (fp 234 0 [1] x8) (fp 234 0 [0] xT)
 (λ_ _ h1 a _ _ h=>eX h (.k k3 (.k k5 .n)) (.k (fM xT a) (.k (fM x8 h1) .n)))
 (λ_ _ h0 h1 _ _ h=>fL x8 h1 h (.k (cN s6 h0) .n))
 (λ_ _ h0 a _ _ h=>fL xT a h (.k (cN s6 h0) .n))
theorem VS:bc s6 jA:=cN _ U3.1
mutual
def tl(c:List ab×List ab):Option Bool:=
 match c with
 |(s1,f)=>
 if !((s1.length:Int)=(f.length:Int):Bool) then some false else tL (f,s1,(s1.length:Int),0)>>=λo=>match o with
 |.inl j=>
 some j
 |.inr t=>
 some true
  partial_fixpoint
def lN:ab×ab->Option Bool
 |(a,b)=>
 some (bif bif bif bif decide (a.Kind=b.Kind)then fy a.cd b.cd else false then decide (a.bB=b.bB)else false then decide (a.bL=b.bL)else false then decide (a.ah=b.ah)else false)>>=λt37=>(if t37 then wD (a.Rest,b.Rest)else some false)>>=λr=>some (bif t37 then r else false)>>=λt44=>(if t44 then tl (a.bb,b.bb)else some false)>>=λp=>some (bif t44 then p else false)>>=λt51=>(if t51 then tl (a.ar,b.ar)else some false)>>=λq=>some (bif t51 then q else false)
  partial_fixpoint
def tL:List ab×List ab×Int×Int->Option ((Bool) ⊕ (Unit))
 |(e,t15,g,t17)=>
 if (t17<g:Bool) then if aB t17 t15.length then if aB t17 e.length then lN (ab.eta (t15.getD t17.toNat aR),ab.eta (e.getD t17.toNat aR))>>=λr=>if !r then some (.inl false)else tL (e,t15,g,aS .i64 t17 1)else none else none else some (.inr ())
  partial_fixpoint
end
theorem Sh:eR B' tl/\fq 317 0 [0] yg tL/\eR vD lN:=tl.mutual_partial_correctness (eM B') (fp 317 0 [0] yg) (eM vD)
 (λ_ h1 _ _ h=>eX h .n (.k (fM yg h1) .n))
 (λ_ _ h1 a _ _ h=>fL yg h1 h (.k (cN vD a) .n))
 (λ_ h0 _ _ h=>eX h (.k Po (.k (cN B' h0) .n)))
theorem EB:bc vD lN:=cN _ Sh.2.2
def rk:aY×ab->Option Bool
 |(m,a)=>
 (if m.bX then lN (ab.eta a,ab.eta m.bC)else some false)>>=λr=>some (bif m.bX then r else false)
theorem EG:bc Nj rk:= .bm (.k EB .n)
def Eu:a7×Int->Option Int
 |(s,t)=>
 oa (⟨s.Types⟩:a7)>>=λr=>if !(r=0:Bool) then some r else if(bif (t<0:Bool)then true else ((s.Types.length:Int)<=t:Bool)) then some 4 else some 0
theorem VT:bc MJ Eu:= .bm (.k xl .n)
def Bu:a7×Int×ab->Option Bool
 |(s,t,v)=>
 jC ((⟨s.Types⟩:a7),t,ab.eta v,false)>>=λr=>some r
theorem Wl:bc MK Bu:= .bm (.k QO .n)
def AE:a7×Int×ab->Option Int
 |(s,t,v)=>
 Eu ((⟨s.Types⟩:a7),t)>>=λr=>if !(r=0:Bool) then some r else Bu ((⟨s.Types⟩:a7),t,ab.eta v)>>=λa=>if !a then some 1 else some 0
theorem VU:bc Mx AE:= .bm (.k VT (.k Wl .n))
def rB:Int×Int×az->Option (Int×Int×az)
 |(b,a,c)=>
 if (128<=b:Bool) then if aB a 10 then if (a.toNat<c.length:Bool) then rB (mc .u64 b 7,aS .i64 a 1,c.set a.toNat (u3 .u8 (ca .u8 b) 128))else none else none else some (b,a,c)
  partial_fixpoint
theorem Vt:cb 231 0 [0] LN rB:= .rx rB.partial_correctness
def oc(n:Int):Option aD:=
 rB (n,0,[0,0,0,0,0,0,0,0,0,0])>>=λo=>if aB o.2.1 10 then if (o.2.1.toNat<o.2.2.length:Bool) then some (o.2.2.set o.2.1.toNat (ca .u8 o.1))>>=λa=>some (aS .i64 o.2.1 1)>>=λt21=>if gu 0 t21 10 then if vb (0:Int).toNat t21.toNat a.length then some (strOf ((a.drop (0:Int).toNat).take t21.toNat))else none else none else none else none
theorem wU:bc Nh oc:= .bm .n (.k Vt .n)
def pO(p:aD):Option aD:=
 oc (ca .u64 (p.length:Int))>>=λr=>if (r.length+p.length<=ej:Bool) then some (r++p)else none
theorem Q0:bc MN pO:= .bm (.k wU .n)
def wE:aD×aD->Option (Int×aD)
 |(s,b)=>
 some b>>=λr=>if((r.length=b.length:Bool)&&true) then if room 1 (r.length+s.length) then some ((s.length:Int),sZ r s)else none else none
theorem Pp:bc N1 wE:= .bm (.k lJ .n)
def uz:Int×Bool×aD->Option aD
 |(id,d,p)=>
 some (hG .u64 2 (ca .u64 id))>>=λt10=>if d then oc (aS .u64 t10 1)>>=λr=>pO p>>=λa=>if (r.length+a.length<=ej:Bool) then some (r++a)else none else oc t10>>=λb=>pO p>>=λc=>if (b.length+c.length<=ej:Bool) then some (b++c)else none
theorem Ev:bc Ng uz:= .bm (.k wU (.k Q0 .n))
def Q1:aY×ab->Option Bool
 |(m,v)=>
 (if m.bX then lN (ab.eta m.bC,ab.eta v)else some false)>>=λr=>some (bif m.bX then r else false)
theorem VV:bc Nf Q1:= .bm (.k EB .n)
def Ap:List cG×Int×Int×List af×Int×List hx->Option (List af×Int×List hx)
 |(t57,e,t59,c,d,a)=>
 if (t59<e:Bool) then if aB t59 t57.length then some (t57.getD t59.toNat ch)>>=λb=>uz (b.ah,false,b.Data)>>=λf=>some [(⟨b.ah,f⟩:hx)]>>=λt72=>if room 24 (a++t72).length then Ap (t57,e,aS .i64 t59 1,c,d,a++t72)else none else none else some (c,d,a)
  partial_fixpoint
theorem Sd:cb 159 1 [1] LP Ap:= .rx Ap.partial_correctness (.k Ev .n)
def Aq:Int×Int×List af×Int×List hx×aD->Option (List af×Int×aD)
 |(e,t79,b,c,a,d)=>
 if (t79<e:Bool) then if aB t79 a.length then if (t79.toNat<a.length:Bool) then wE ((a.getD t79.toNat AV).text,d)>>=λf=>Aq (e,aS .i64 t79 1,b,c,a,f.2)else none else none else some (b,c,d)
  partial_fixpoint
theorem Se:cb 159 1 [2] LQ Aq:= .rx Aq.partial_correctness (.k Pp .n)
def DW(b:aD):Option aD:=
 if dZ (b.length:Int) (b.length:Int) then some b else none
theorem Pr:bc N2 DW:= .bm
def rC:Int×Int×az->Option (Int×az)
 |(b,c,a)=>
 if (0<b:Bool) then some (dM .i64 c 1)>>=λt10=>if aB t10 8 then if (t10.toNat<a.length:Bool) then rC (mc .u64 b 8,t10,a.set t10.toNat (ca .u8 b))else none else none else some (c,a)
  partial_fixpoint
theorem Vu:cb 157 0 [0] LO rC:= .rx rC.partial_correctness
def w8(n:Int):Option aD:=
 rC (n,8,[0,0,0,0,0,0,0,0])>>=λo=>if gu o.1 8 8 then if vb o.1.toNat ((8:Int).toNat-o.1.toNat) o.2.length then some (strOf ((o.2.drop o.1.toNat).take ((8:Int).toNat-o.1.toNat)))else none else none
theorem V0:bc ML w8:= .bm .n (.k Vu .n)
mutual
def kY:Int×ab×Int×List af×Int->Option (aD×List af×Int)
 |(t,v,e,b,w)=>
 some (nv w e)>>=λt19=>if aB t b.length then some (b.getD t.toNat aL)>>=λa=>if (a.Kind=1:Bool) then if v.cd then some ([1],b,t19)else some ([],b,t19)else if (a.Kind=2:Bool) then uv v.bB>>=λr=>w8 r>>=λp=>some (p,b,t19)else if (a.Kind=3:Bool) then some (v.bL,b,t19)else if (a.Kind=4:Bool) then w8 (ca .u64 v.ah)>>=λN=>some (N,b,t19)else if (a.Kind=5:Bool) then Qa (a,ab.eta v,e,b,t19)>>=λq=>some (q.1,q.2.1,q.2.2)else if (a.Kind=6:Bool) then Qj (a,ab.eta v,e,b,t19)>>=λy=>some (y.1,y.2.1,y.2.2)else if (a.Kind=9:Bool) then if ((v.ar.length:Int)=0:Bool) then some ([],b,t19)else if aB 0 v.ar.length then kY (a.aQ,ab.eta (v.ar.getD (0:Int).toNat aR),aS .i64 e 1,b,t19)>>=λE=>if ([1].length+E.1.length<=ej:Bool) then some ([1]++E.1,E.2.1,E.2.2)else none else none else Am (e,v.ar,(v.ar.length:Int),0,b,t19,ab.eta v,a,[])>>=λo=>DW o.2.2>>=λU=>some (U,o.1,o.2.1)else none
  partial_fixpoint
def Qa:af×ab×Int×List af×Int->Option (aD×List af×Int)
 |(a,v,e,b,w)=>
 Ar (e,a.ae,(a.ae.length:Int),0,b,w,ab.eta v,[])>>=λo=>Ap (o.2.2.1.Rest,(o.2.2.1.Rest.length:Int),0,o.1,o.2.1,o.2.2.2)>>=λD=>Uv D.2.2>>=λr=>if((r.length=D.2.2.length:Bool)&&true) then Aq ((r.length:Int),0,D.1,D.2.1,r,[])>>=λL=>DW L.2.2>>=λp=>some (p,L.1,L.2.1)else none
  partial_fixpoint
def Qj:af×ab×Int×List af×Int->Option (aD×List af×Int)
 |(a,v,e,b,w)=>
 oc (ca .u64 v.ah)>>=λr=>gk (a,v.ah)>>=λp=>if !p.2 then if aB 0 v.Rest.length then some (v.Rest.getD (0:Int).toNat ch)>>=λc=>if (r.length+c.Data.length<=ej:Bool) then some (r++c.Data,b,w)else none else none else if aB p.1 a.ae.length then if aB 0 v.ar.length then kY ((a.ae.getD p.1.toNat aG).aC,ab.eta (v.ar.getD (0:Int).toNat aR),aS .i64 e 1,b,w)>>=λF=>if (r.length+F.1.length<=ej:Bool) then some (r++F.1,F.2.1,F.2.2)else none else none else none
  partial_fixpoint
def Am:Int×List ab×Int×Int×List af×Int×ab×af×aD->Option (List af×Int×aD)
 |(f,t84,R,t86,I,J,B,x,K)=>
 if (t86<R:Bool) then if aB t86 t84.length then some (t84.getD t86.toNat aR)>>=λS=>if (x.Kind=8:Bool) then if aB t86 B.bb.length then kY (x.Key,ab.eta (B.bb.getD t86.toNat aR),aS .i64 f 1,I,J)>>=λM=>pO M.1>>=λW=>wE (W,K)>>=λX=>kY (x.aQ,ab.eta S,aS .i64 f 1,M.2.1,M.2.2)>>=λO=>pO O.1>>=λY=>wE (Y,X.2)>>=λZ=>Am (f,t84,R,aS .i64 t86 1,O.2.1,O.2.2,ab.eta B,x,Z.2)else none else kY (x.aQ,ab.eta S,aS .i64 f 1,I,J)>>=λP=>pO P.1>>=λag=>wE (ag,K)>>=λak=>Am (f,t84,R,aS .i64 t86 1,P.2.1,P.2.2,ab.eta B,x,ak.2)else none else some (I,J,K)
  partial_fixpoint
def Ar:Int×List aY×Int×Int×List af×Int×ab×List hx->Option (List af×Int×ab×List hx)
 |(f,t18,Q,t20,G,H,j,A)=>
 if (t20<Q:Bool) then if aB t20 t18.length then some (t18.getD t20.toNat aG)>>=λc=>if aB t20 j.ar.length then Q1 ((⟨c.ah,c.Name,c.aC,c.cJ,c.bX,ab.eta c.bC⟩:aY),ab.eta (j.ar.getD t20.toNat aR))>>=λN=>if !N then if aB t20 j.ar.length then kY (c.aC,ab.eta (j.ar.getD t20.toNat aR),aS .i64 f 1,G,H)>>=λq=>uz (c.ah,c.cJ,q.1)>>=λy=>some [(⟨c.ah,y⟩:hx)]>>=λt53=>if room 24 (A++t53).length then Ar (f,t18,Q,aS .i64 t20 1,q.2.1,q.2.2,ab.eta j,A++t53)else none else none else Ar (f,t18,Q,aS .i64 t20 1,G,H,ab.eta j,A)else none else none else some (G,H,ab.eta j,A)
  partial_fixpoint
end
theorem S6:eR o3 kY/\fq 103 1 [0] xw Am/\eR zo Qj/\eR zn Qa/\fq 159 1 [0] xv Ar:=kY.mutual_partial_correctness (eM o3) (fp 103 1 [0] xw) (eM zo) (eM zn) (fp 159 1 [0] xv)
 (λ_ _ _ _ h0 h1 b c _ _ h=>eX h (.k PY (.k V0 (.k (cN zn c) (.k (cN zo b) (.k (cN o3 h0) (.k Pr .n)))))) (.k (fM xw h1) .n))
 (λ_ _ h0 h1 _ _ h=>fL xw h1 h (.k (cN o3 h0) (.k Q0 (.k Pp .n))))
 (λ_ h0 _ _ h=>eX h (.k wU (.k kn (.k (cN o3 h0) .n))))
 (λ_ a _ _ h=>eX h (.k Er (.k Pr .n)) (.k (fM xv a) (.k Sd (.k Se .n))))
 (λ_ _ h0 a _ _ h=>fL xv a h (.k VV (.k (cN o3 h0) (.k Ev .n))))
theorem SI:bc o3 kY:=cN _ S6.1
def uw:a7×Int×ab->Option (aD×Int)
 |(s,t,v)=>
 AE ((⟨s.Types⟩:a7),t,ab.eta v)>>=λr=>if !(r=0:Bool) then some ([],r)else kY (t,ab.eta v,1,s.Types,0)>>=λa=>if(bif (4096<(a.1.length:Int):Bool)then true else (200<a.2.2:Bool)) then some ([],3)else some (a.1,0)
theorem Pw:bc NZ uw:= .bm (.k VU (.k SI .n))
def AY:Int×Bool×aD->Option (aD×Int)
 |(id,b,a)=>
 if(bif (id<1:Bool)then true else (1000<id:Bool)) then some ([],7)else if (4096<(a.length:Int):Bool) then some ([],3)else uz (id,b,a)>>=λr=>some (r,0)
theorem Vc:bc Nz AY:= .bm (.k Ev .n)
def ux(p:aD):Option aD:=
 oc (ca .u64 (p.length:Int))>>=λr=>if (r.length+p.length<=ej:Bool) then some (r++p)else none
theorem Vv:bc NA ux:= .bm (.k wU .n)
mutual
def ko:a7×Int×ab->Option aD
 |(s,t,v)=>
 if aB t s.Types.length then some (s.Types.getD t.toNat aL)>>=λa=>if (a.Kind=5:Bool) then px ([],a.ae,(a.ae.length:Int),0,s.Types,ab.eta v)>>=λo=>some o else if (a.Kind=6:Bool) then gk (a,v.ah)>>=λr=>oc (ca .u64 v.ah)>>=λI=>if aB r.1 a.ae.length then if aB 0 v.ar.length then ko (s,(a.ae.getD r.1.toNat aG).aC,ab.eta (v.ar.getD (0:Int).toNat aR))>>=λJ=>if (I.length+J.length<=ej:Bool) then some (I++J)else none else none else none else if (a.Kind=9:Bool) then tz ([],v.ar,(v.ar.length:Int),0,s.Types,a)>>=λM=>some M else some (decide (a.Kind=7))>>=λt115=>if t115 then if t115 then kj ([],v.ar,(v.ar.length:Int),0,s.Types,ab.eta v,a)>>=λN=>some N else uw (s,t,ab.eta v)>>=λX=>some X.1 else if (a.Kind=8:Bool) then kj ([],v.ar,(v.ar.length:Int),0,s.Types,ab.eta v,a)>>=λO=>some O else uw (s,t,ab.eta v)>>=λY=>some Y.1 else none
  partial_fixpoint
def px:aD×List aY×Int×Int×List af×ab->Option aD
 |(w,t36,y,t38,b,f)=>
 if (t38<y:Bool) then if aB t38 t36.length then some (t36.getD t38.toNat aG)>>=λc=>if aB t38 f.ar.length then rk ((⟨c.ah,c.Name,c.aC,c.cJ,c.bX,ab.eta c.bC⟩:aY),ab.eta (f.ar.getD t38.toNat aR))>>=λQ=>if !Q then if aB t38 f.ar.length then ko ((⟨b⟩:a7),c.aC,ab.eta (f.ar.getD t38.toNat aR))>>=λR=>AY (c.ah,c.cJ,R)>>=λD=>if (w.length+D.1.length<=ej:Bool) then px (w++D.1,t36,y,aS .i64 t38 1,b,ab.eta f)else none else none else px (w,t36,y,aS .i64 t38 1,b,ab.eta f)else none else none else some w
  partial_fixpoint
def tz:aD×List ab×Int×Int×List af×af->Option aD
 |(P,t101,K,t103,A,B)=>
 if (t103<K:Bool) then if aB t103 t101.length then ko ((⟨A⟩:a7),B.aQ,ab.eta (t101.getD t103.toNat aR))>>=λE=>if ([1].length+E.length<=ej:Bool) then tz ([1]++E,t101,K,aS .i64 t103 1,A,B)else none else none else some P
  partial_fixpoint
def kj:aD×List ab×Int×Int×List af×ab×af->Option aD
 |(p,t118,x,t120,j,q,g)=>
 if (t120<x:Bool) then if aB t120 t118.length then some (t118.getD t120.toNat aR)>>=λL=>if (g.Kind=8:Bool) then if aB t120 q.bb.length then ko ((⟨j⟩:a7),g.Key,ab.eta (q.bb.getD t120.toNat aR))>>=λS=>ux S>>=λF=>if (p.length+F.length<=ej:Bool) then some (p++F)>>=λt139=>ko ((⟨j⟩:a7),g.aQ,ab.eta L)>>=λU=>ux U>>=λG=>if (t139.length+G.length<=ej:Bool) then kj (t139++G,t118,x,aS .i64 t120 1,j,ab.eta q,g)else none else none else none else ko ((⟨j⟩:a7),g.aQ,ab.eta L)>>=λW=>ux W>>=λH=>if (p.length+H.length<=ej:Bool) then kj (p++H,t118,x,aS .i64 t120 1,j,ab.eta q,g)else none else none else some p
  partial_fixpoint
end
theorem Tt:eR o5 ko/\fq 237 0 [2] yx kj/\fq 237 0 [1] xy tz/\fq 237 0 [0] xx px:=ko.mutual_partial_correctness (eM o5) (fp 237 0 [2] yx) (fp 237 0 [1] xy) (fp 237 0 [0] xx)
 (λ_ _ _ _ h0 h1 a b _ _ h=>eX h (.k kn (.k wU (.k (cN o5 h0) (.k Pw .n)))) (.k (fM xx b) (.k (fM xy a) (.k (fM yx h1) .n))))
 (λ_ _ h0 h1 _ _ h=>fL yx h1 h (.k (cN o5 h0) (.k Vv .n)))
 (λ_ _ h0 a _ _ h=>fL xy a h (.k (cN o5 h0) .n))
 (λ_ _ h0 b _ _ h=>fL xx b h (.k EG (.k (cN o5 h0) (.k Vc .n))))
theorem PN:bc o5 ko:=cN _ Tt.1
def nd:List aY×Int×Int×List af×List af×az×ab×af×Int×Bool×Int×aD×Int×Int×Bool×Int×aD×Int×az×List ab×List cG->Option ((Bool×List af×List af×ab×az×az) ⊕ (List af×List af×az×Int×Bool×Int×aD×Int×Int×Bool×Int×aD×Int×az×List ab×List cG))
 |(t115,v,t117,c,e,f,b,j,k,l,m,n,o,p,q,r,s,t,g,u,i)=>
 if (t117<v:Bool) then if aB t117 t115.length then some (t115.getD t117.toNat aG)>>=λa=>gk (j,a.ah)>>=λw=>if w.2 then nd (t115,v,aS .i64 t117 1,c,e,f,ab.eta b,j,k,l,m,n,o,p,q,r,s,t,g,u,i)else if a.cJ then tu (a.ah,c,e,f,g)>>=λd=>some (.inl (d.2.1,d.2.2.1,d.2.2.2.1,ab.eta d.1,d.2.2.2.2.1,d.2.2.2.2.2))else if aB t117 b.ar.length then rk ((⟨a.ah,a.Name,a.aC,a.cJ,a.bX,ab.eta a.bC⟩:aY),ab.eta (b.ar.getD t117.toNat aR))>>=λx=>if !x then if aB t117 b.ar.length then ko ((⟨c⟩:a7),a.aC,ab.eta (b.ar.getD t117.toNat aR))>>=λy=>some [(⟨a.ah,y⟩:cG)]>>=λt163=>if room 24 (i++t163).length then nd (t115,v,aS .i64 t117 1,c,e,f,ab.eta b,j,k,l,m,n,o,p,q,r,s,t,g,u,i++t163)else none else none else nd (t115,v,aS .i64 t117 1,c,e,f,ab.eta b,j,k,l,m,n,o,p,q,r,s,t,g,u,i)else none else none else some (.inr (c,e,f,k,l,m,n,o,p,q,r,s,t,g,u,i))
  partial_fixpoint
theorem Th:cb 164 2 [1] LR nd:= .rx nd.partial_correctness (.k kn (.k P5 (.k EG (.k PN .n))))
mutual
def p9:Int×Int×ab×Int×List af×List af×az×az->Option (ab×Bool×List af×List af×az×az)
 |(step,wt,v,rt,b,f,j,g)=>
 some [step]>>=λt20=>if room 8 (g++t20).length then rl (wt,ab.eta v,rt,b,f,j,g++t20)>>=λr=>some (dM .i64 (r.2.2.2.2.2.length:Int) 1)>>=λt42=>if gu 0 t42 r.2.2.2.2.2.length then if (t42.toNat<=r.2.2.2.2.2.length:Bool) then some (ab.eta r.1,r.2.1,r.2.2.1,r.2.2.2.1,r.2.2.2.2.1,r.2.2.2.2.2.take t42.toNat)else none else none else none
  partial_fixpoint
def mI(q:Int×List ab×Int×List af×List af×az×az):Option (List ab×Bool×List af×List af×az×az):=
 match q with
 |(wt,l,rt,b,f,j,g)=>
 rT (wt,rt,l,(l.length:Int),0,b,f,j,[],g)>>=λo=>match o with
 |.inl t=>
 some ([],t.1,t.2.1,t.2.2.1,t.2.2.2.1,t.2.2.2.2)
 |.inr e=>
 some (e.2.2.2.1,true,e.1,e.2.1,e.2.2.1,e.2.2.2.2)
  partial_fixpoint
def rl:Int×ab×Int×List af×List af×az×az->Option (ab×Bool×List af×List af×az×az)
 |(wt,v,rt,b,f,j,g)=>
 if aB wt b.length then some (b.getD wt.toNat aL)>>=λc=>if aB rt f.length then some (f.getD rt.toNat aL)>>=λa=>if !(c.Kind=a.Kind:Bool) then r5 (b,f,j,g)>>=λr=>some (ab.eta r.1,r.2.1,r.2.2.1,r.2.2.2.1,r.2.2.2.2.2,r.2.2.2.2.1)else
 let bj:=λcr=>
 if !cr then r5 (b,f,j,g)>>=λS=>some (ab.eta S.1,S.2.1,S.2.2.1,S.2.2.2.1,S.2.2.2.2.2,S.2.2.2.2.1)else if (c.Kind=5:Bool) then wM (c,ab.eta v,a,b,f,j,g)>>=λN=>some (ab.eta N.1,N.2.1,N.2.2.1,N.2.2.2.1,N.2.2.2.2.1,N.2.2.2.2.2)else if (c.Kind=6:Bool) then v8 (c,ab.eta v,a,b,f,j,g)>>=λO=>some (ab.eta O.1,O.2.1,O.2.2.1,O.2.2.2.1,O.2.2.2.2.1,O.2.2.2.2.2)else if (c.Kind=8:Bool) then mI (c.Key,v.bb,a.Key,b,f,j,g)>>=λB=>if !B.2.1 then some ((⟨0,false,0,[],0,[],[],[]⟩:ab),false,B.2.2.1,B.2.2.2.1,B.2.2.2.2.1,B.2.2.2.2.2)else mI (c.aQ,v.ar,a.aQ,B.2.2.1,B.2.2.2.1,B.2.2.2.2.1,B.2.2.2.2.2)>>=λF=>if !F.2.1 then some ((⟨0,false,0,[],0,[],[],[]⟩:ab),false,F.2.2.1,F.2.2.2.1,F.2.2.2.2.1,F.2.2.2.2.2)else some ((⟨v.Kind,v.cd,v.bB,v.bL,v.ah,B.1,F.1,[]⟩:ab),true,F.2.2.1,F.2.2.2.1,F.2.2.2.2.1,F.2.2.2.2.2)else mI (c.aQ,v.ar,a.aQ,b,f,j,g)>>=λG=>if !G.2.1 then some ((⟨0,false,0,[],0,[],[],[]⟩:ab),false,G.2.2.1,G.2.2.2.1,G.2.2.2.2.1,G.2.2.2.2.2)else some ((⟨v.Kind,v.cd,v.bB,v.bL,v.ah,[],G.1,[]⟩:ab),true,G.2.2.1,G.2.2.2.1,G.2.2.2.2.1,G.2.2.2.2.2)
 if (c.Kind=2:Bool) then bj (bif decide (a.bH<=v.bB)then decide (v.bB<=a.bK)else false)else
 let bi:=λcp=>
 bj cp
 if (c.Kind=3:Bool) then bi (decide ((v.bL.length:Int)<=a.Max))else if (c.Kind=4:Bool) then pK (a,v.ah)>>=λce=>bi (bif ce.2 then true else a.Open)else some (decide (c.Kind=7))>>=λt91=>
 let bh:=λci=>
 let bg:=λ(_:Unit)=>
 if (c.Kind=5:Bool) then wM (c,ab.eta v,a,b,f,j,g)>>=λQ=>some (ab.eta Q.1,Q.2.1,Q.2.2.1,Q.2.2.2.1,Q.2.2.2.2.1,Q.2.2.2.2.2)else if (c.Kind=6:Bool) then v8 (c,ab.eta v,a,b,f,j,g)>>=λR=>some (ab.eta R.1,R.2.1,R.2.2.1,R.2.2.2.1,R.2.2.2.2.1,R.2.2.2.2.2)else if (c.Kind=8:Bool) then mI (c.Key,v.bb,a.Key,b,f,j,g)>>=λx=>if !x.2.1 then some ((⟨0,false,0,[],0,[],[],[]⟩:ab),false,x.2.2.1,x.2.2.2.1,x.2.2.2.2.1,x.2.2.2.2.2)else mI (c.aQ,v.ar,a.aQ,x.2.2.1,x.2.2.2.1,x.2.2.2.2.1,x.2.2.2.2.2)>>=λA=>if !A.2.1 then some ((⟨0,false,0,[],0,[],[],[]⟩:ab),false,A.2.2.1,A.2.2.2.1,A.2.2.2.2.1,A.2.2.2.2.2)else some ((⟨v.Kind,v.cd,v.bB,v.bL,v.ah,x.1,A.1,[]⟩:ab),true,A.2.2.1,A.2.2.2.1,A.2.2.2.2.1,A.2.2.2.2.2)else mI (c.aQ,v.ar,a.aQ,b,f,j,g)>>=λD=>if !D.2.1 then some ((⟨0,false,0,[],0,[],[],[]⟩:ab),false,D.2.2.1,D.2.2.2.1,D.2.2.2.2.1,D.2.2.2.2.2)else some ((⟨v.Kind,v.cd,v.bB,v.bL,v.ah,[],D.1,[]⟩:ab),true,D.2.2.1,D.2.2.2.1,D.2.2.2.2.1,D.2.2.2.2.2)
 if ci then if !((v.ar.length:Int)<=a.Max:Bool) then r5 (b,f,j,g)>>=λP=>some (ab.eta P.1,P.2.1,P.2.2.1,P.2.2.2.1,P.2.2.2.2.2,P.2.2.2.2.1)else bg ()else bg ()
 if t91 then bh t91 else bh (decide (c.Kind=8))else none else none
  partial_fixpoint
def wM(q:af×ab×af×List af×List af×az×az):Option (ab×Bool×List af×List af×az×az):=
 match q with
 |(c,v,y,b,f,j,g)=>
 ov (y.ae,(y.ae.length:Int),0,b,f,j,c,ab.eta v,y,0,false,0,[],0,v.Kind,false,0,[],0,g,[])>>=λo=>match o with
 |.inl t=>
 some (ab.eta t.2.2.2.2.1,t.1,t.2.1,t.2.2.1,t.2.2.2.1,t.2.2.2.2.2)
 |.inr e=>
 nd (e.2.2.2.1.ae,(e.2.2.2.1.ae.length:Int),0,e.1,e.2.1,e.2.2.1,ab.eta e.2.2.2.2.1,e.2.2.2.2.2.1,e.2.2.2.2.2.2.1,e.2.2.2.2.2.2.2.1,e.2.2.2.2.2.2.2.2.1,e.2.2.2.2.2.2.2.2.2.1,e.2.2.2.2.2.2.2.2.2.2.1,e.2.2.2.2.2.2.2.2.2.2.2.1,e.2.2.2.2.2.2.2.2.2.2.2.2.1,e.2.2.2.2.2.2.2.2.2.2.2.2.2.1,e.2.2.2.2.2.2.2.2.2.2.2.2.2.2.1,e.2.2.2.2.2.2.2.2.2.2.2.2.2.2.2.1,e.2.2.2.2.2.2.2.2.2.2.2.2.2.2.2.2.1,e.2.2.2.2.2.2.2.2.2.2.2.2.2.2.2.2.2,[])>>=λb0=>match b0 with
 |.inl L=>
 some (ab.eta L.2.2.2.1,L.1,L.2.1,L.2.2.1,L.2.2.2.2.2,L.2.2.2.2.1)
 |.inr w=>
 some ((⟨w.2.2.2.2.2.2.2.2.1,w.2.2.2.2.2.2.2.2.2.1,w.2.2.2.2.2.2.2.2.2.2.1,w.2.2.2.2.2.2.2.2.2.2.2.1,w.2.2.2.2.2.2.2.2.2.2.2.2.1,[],w.2.2.2.2.2.2.2.2.2.2.2.2.2.2.1,w.2.2.2.2.2.2.2.2.2.2.2.2.2.2.2⟩:ab),true,w.1,w.2.1,w.2.2.1,w.2.2.2.2.2.2.2.2.2.2.2.2.2.1)
  partial_fixpoint
def v8:af×ab×af×List af×List af×az×az->Option (ab×Bool×List af×List af×az×az)
 |(c,v,y,b,f,j,g)=>
 gk (c,v.ah)>>=λr=>gk (y,v.ah)>>=λE=>if E.2 then if aB r.1 c.ae.length then if aB 0 v.ar.length then if aB E.1 y.ae.length then p9 (v.ah,(c.ae.getD r.1.toNat aG).aC,ab.eta (v.ar.getD (0:Int).toNat aR),(y.ae.getD E.1.toNat aG).aC,b,f,j,g)>>=λH=>if !H.2.1 then some ((⟨0,false,0,[],0,[],[],[]⟩:ab),false,H.2.2.1,H.2.2.2.1,H.2.2.2.2.1,H.2.2.2.2.2)else some ((⟨v.Kind,false,0,[],v.ah,[],[ab.eta H.1],[]⟩:ab),true,H.2.2.1,H.2.2.2.1,H.2.2.2.2.1,H.2.2.2.2.2)else none else none else none else if !y.Open then r5 (b,f,j,g)>>=λM=>some (ab.eta M.1,M.2.1,M.2.2.1,M.2.2.2.1,M.2.2.2.2.2,M.2.2.2.2.1)else if aB r.1 c.ae.length then if aB 0 v.ar.length then ko ((⟨b⟩:a7),(c.ae.getD r.1.toNat aG).aC,ab.eta (v.ar.getD (0:Int).toNat aR))>>=λJ=>some ((⟨v.Kind,false,0,[],v.ah,[],[],[(⟨v.ah,J⟩:cG)]⟩:ab),true,b,f,j,g)else none else none
  partial_fixpoint
def rT:Int×Int×List ab×Int×Int×List af×List af×az×List ab×az->Option ((Bool×List af×List af×az×az) ⊕ (List af×List af×az×List ab×az))
 |(bE,bs,t15,bv,t17,a5,a9,a',ak,be)=>
 if (t17<bv:Bool) then if aB t17 t15.length then p9 (t17,bE,ab.eta (t15.getD t17.toNat aR),bs,a5,a9,a',be)>>=λr=>if !r.2.1 then some (.inl (false,r.2.2.1,r.2.2.2.1,r.2.2.2.2.1,r.2.2.2.2.2))else some [ab.eta r.1]>>=λt35=>if room 120 (ak++t35).length then rT (bE,bs,t15,bv,aS .i64 t17 1,r.2.2.1,r.2.2.2.1,r.2.2.2.2.1,ak++t35,r.2.2.2.2.2)else none else none else some (.inr (a5,a9,a',ak,be))
  partial_fixpoint
def ov:List aY×Int×Int×List af×List af×az×af×ab×af×Int×Bool×Int×aD×Int×Int×Bool×Int×aD×Int×az×List ab->Option ((Bool×List af×List af×az×ab×az) ⊕ (List af×List af×az×af×ab×af×Int×Bool×Int×aD×Int×Int×Bool×Int×aD×Int×az×List ab))
 |(t25,a4,t27,X,Y,Z,I,K,am,an,ap,au,ax,aF,aI,a0,a1,a2,a3,ag,W)=>
 if (t27<a4:Bool) then if aB t27 t25.length then some (t25.getD t27.toNat aG)>>=λa=>gk (I,a.ah)>>=λr=>if !r.2 then if !a.bX then tu (a.ah,X,Y,Z,ag)>>=λE=>some (.inl (E.2.1,E.2.2.1,E.2.2.2.1,E.2.2.2.2.2,ab.eta E.1,E.2.2.2.2.1))else jA (ab.eta a.bC)>>=λb3=>some [ab.eta b3]>>=λt54=>if room 120 (W++t54).length then ov (t25,a4,aS .i64 t27 1,X,Y,Z,I,ab.eta K,am,an,ap,au,ax,aF,aI,a0,a1,a2,a3,ag,W++t54)else none else if aB r.1 I.ae.length then if aB r.1 K.ar.length then p9 (a.ah,(I.ae.getD r.1.toNat aG).aC,ab.eta (K.ar.getD r.1.toNat aR),a.aC,X,Y,Z,ag)>>=λp=>if aB r.1 I.ae.length then some (I.ae.getD r.1.toNat aG)>>=λU=>if aB r.1 K.ar.length then rk ((⟨U.ah,U.Name,U.aC,U.cJ,U.bX,ab.eta U.bC⟩:aY),ab.eta (K.ar.getD r.1.toNat aR))>>=λbp=>some (!p.2.1)>>=λt90=>(if(bp&&(!t90)) then rk ((⟨a.ah,a.Name,a.aC,a.cJ,a.bX,ab.eta a.bC⟩:aY),ab.eta p.1)else some false)>>=λb4=>if(bif bp then bif t90 then true else(!b4)else false) then tu (a.ah,p.2.2.1,p.2.2.2.1,p.2.2.2.2.1,p.2.2.2.2.2)>>=λJ=>some (.inl (J.2.1,J.2.2.1,J.2.2.2.1,J.2.2.2.2.2,ab.eta J.1,J.2.2.2.2.1))else if !p.2.1 then some (.inl (false,p.2.2.1,p.2.2.2.1,p.2.2.2.2.1,(⟨0,false,0,[],0,[],[],[]⟩:ab),p.2.2.2.2.2))else some [ab.eta p.1]>>=λt110=>if room 120 (W++t110).length then ov (t25,a4,aS .i64 t27 1,p.2.2.1,p.2.2.2.1,p.2.2.2.2.1,I,ab.eta K,am,an,ap,au,ax,aF,aI,a0,a1,a2,a3,p.2.2.2.2.2,W++t110)else none else none else none else none else none else none else some (.inr (X,Y,Z,I,ab.eta K,am,an,ap,au,ax,aF,aI,a0,a1,a2,a3,ag,W))
  partial_fixpoint
end
theorem TX:eR s7 p9/\eR vB rl/\eR zr mI/\fq 166 2 [0] yz rT/\eR zq v8/\eR zp wM/\fq 164 2 [0] yy ov:=p9.mutual_partial_correctness (eM s7) (eM vB) (eM zr) (fp 166 2 [0] yz) (eM zq) (eM zp) (fp 164 2 [0] yy)
 (λ_ h1 _ _ h=>eX h (.k (cN vB h1) .n))
 (λ_ _ _ c d bh _ _ h=>eX h (.k Qi (.k (cN zp bh) (.k (cN zq d) (.k (cN zr c) (.k Bg .n))))))
 (λ_ a _ _ h=>eX h .n (.k (fM yz a) .n))
 (λ_ _ h0 a _ _ h=>fL yz a h (.k (cN s7 h0) .n))
 (λ_ h0 _ _ h=>eX h (.k kn (.k (cN s7 h0) (.k Qi (.k PN .n)))))
 (λ_ b _ _ h=>eX h .n (.k (fM yy b) (.k Th .n)))
 (λ_ _ h0 b _ _ h=>fL yy b h (.k kn (.k P5 (.k VS (.k (cN s7 h0) (.k EG .n))))))
theorem Tu:bc vB rl:=cN _ TX.2.1
def tK:a7×Int×ab×a7×Int->Option (ab×Int)
 |(w,wt,v,r,rt)=>
 AN (w,wt,ab.eta v,r,rt)>>=λa=>if !(a=0:Bool) then some ((⟨0,false,0,[],0,[],[],[]⟩:ab),a)else rl (wt,ab.eta v,rt,w.Types,r.Types,[],[])>>=λb=>if !b.2.1 then some ((⟨0,false,0,[],0,[],[],[]⟩:ab),12)else some (ab.eta b.1,0)
theorem PO:bc N0 tK:= .bm (.k Vs (.k Tu .n))
def mC:List aY×Int×Int×List af×af×List af×af->Option ((Int) ⊕ (af×af))
 |(t21,f,t23,c,a,d,e)=>
 if (t23<f:Bool) then if aB t23 t21.length then some (t21.getD t23.toNat aG)>>=λb=>gk (a,b.ah)>>=λg=>if !g.2 then if !b.bX then some (.inl 7)else mC (t21,f,aS .i64 t23 1,c,a,d,e)else if aB g.1 a.ae.length then some (a.ae.getD g.1.toNat aG)>>=λi=>if !i.bX then mC (t21,f,aS .i64 t23 1,c,a,d,e)else if !b.bX then some (.inl 7)else tK ((⟨c⟩:a7),i.aC,ab.eta i.bC,(⟨d⟩:a7),b.aC)>>=λj=>some (!(decide (j.2=0)))>>=λt63=>(if !t63 then lN (ab.eta j.1,ab.eta b.bC)else some false)>>=λk=>if(bif t63 then true else(!k)) then some (.inl 10)else mC (t21,f,aS .i64 t23 1,c,a,d,e)else none else none else some (.inr (a,e))
  partial_fixpoint
theorem TY:cb 202 0 [0] LS mC:= .rx mC.partial_correctness (.k kn (.k PO (.k EB .n)))
def pr:List aY×Int×Int×af->Option ((Int) ⊕ (Unit))
 |(t73,b,t75,a)=>
 if (t75<b:Bool) then if aB t75 t73.length then some (t73.getD t75.toNat aG)>>=λc=>gk (a,c.ah)>>=λd=>if(bif (!d.2)then c.cJ else false) then some (.inl 6)else pr (t73,b,aS .i64 t75 1,a)else none else some (.inr ())
  partial_fixpoint
theorem TZ:cb 202 0 [1] LU pr:= .rx pr.partial_correctness (.k kn .n)
def Bd(f:a7×af×a7×af):Option Int:=
 match f with
 |(w,e,r,y)=>
 mC (y.ae,(y.ae.length:Int),0,w.Types,e,r.Types,y)>>=λo=>match o with
 |.inl b=>
 some b
 |.inr a=>
 pr (a.1.ae,(a.1.ae.length:Int),0,a.2)>>=λc=>match c with
 |.inl d=>
 some d
 |.inr g=>
 some 0
theorem U4:bc MX Bd:= .bm .n (.k TY (.k TZ .n))
def Bh:a7×Int×a7×Int->Option Int
 |(w,wt,r,rt)=>
 if aB wt w.Types.length then some (w.Types.getD wt.toNat aL)>>=λa=>if aB rt r.Types.length then some (r.Types.getD rt.toNat aL)>>=λb=>if !(a.Kind=b.Kind:Bool) then some 9 else if(bif (a.Kind=2:Bool)then bif (a.bH<b.bH:Bool)then true else (b.bK<a.bK:Bool)else false) then some 2 else if(bif bif (a.Kind=3:Bool)then true else (a.Kind=7:Bool)then (b.Max<a.Max:Bool)else false) then some 3 else some (decide (a.Kind=8))>>=λt63=>if(aB a.Key w.Types.length||(!t63)) then (if t63 then wR (w.Types.getD a.Key.toNat aL)else some 0)>>=λc=>if(bif t63 then (b.Max<da a.Max c:Bool)else false) then some 3 else some (decide (a.Kind=4))>>=λt82=>(if t82 then wv (a,b)else some false)>>=λd=>if(bif t82 then(!d)else false) then some 4 else some (decide (a.Kind=6))>>=λt92=>(if t92 then wv (a,b)else some false)>>=λe=>if(bif t92 then(!e)else false) then some 5 else if (a.Kind=5:Bool) then Bd (w,a,r,b)>>=λf=>some f else some 0 else none else none else none
theorem UC:bc MB Bh:= .bm (.k Vr (.k U2 (.k U4 .n)))
def AF:a7×Int×a7×Int->Option (Int×Int)
 |(w,wt,r,rt)=>
 xu ((⟨w,wt⟩:cq),(⟨r,rt⟩:cq))>>=λa=>if !(a=0:Bool) then some (0,a)else Bh (w,wt,r,rt)>>=λb=>some (b,0)
theorem VW:bc Oa AF:= .bm (.k Pv (.k UC .n))
def rY:fi×aK->Option Bool
 |(p,a)=>
 AF (p.w.e1,a.bW,p.r.e1,a.bZ)>>=λr=>some (bif decide (r.1=0)then decide (r.2=0)else false)
theorem Qb:bc C5 rY:= .bm (.k VW .n)
def mZ:Int×Int×List aK×aK->Option ((Int×List aK) ⊕ (List aK))
 |(c,t8,a,b)=>
 if (t8<c:Bool) then if aB t8 a.length then if (t8.toNat<a.length:Bool) then if(dZ b.bW (a.getD t8.toNat bG).bW&&(dZ b.bZ (a.getD t8.toNat bG).bZ&&true)) then some (.inl (t8,a))else mZ (c,aS .i64 t8 1,a,b)else none else none else some (.inr a)
  partial_fixpoint
theorem R2:cb 90 1 [0] Jj mZ:= .rx mZ.partial_correctness
def DX(d:aK×List aK):Option (Int×List aK):=
 match d with
 |(v,b)=>
 mZ ((b.length:Int),0,b,v)>>=λo=>match o with
 |.inl a=>
 some (a.1,a.2)
 |.inr c=>
 some ((-1),c)
theorem SJ:bc N9 DX:= .bm .n (.k R2 .n)
def An:aK×List aK->Option (Bool×List aK)
 |(v,b)=>
 DX (v,b)>>=λr=>if((r.2.length=b.length:Bool)&&true) then some (decide (0<=r.1),r.2)else none
theorem R3:bc NQ An:= .bm (.k SJ .n)
def rU:Int×Int×List aK->Option (List aK)
 |(a,b,c)=>
 An ((⟨a,b⟩:aK),c)>>=λr=>if((r.2.length=c.length:Bool)&&true) then if !r.1 then some [(⟨a,b⟩:aK)]>>=λt15=>if room 16 (r.2++t15).length then some (r.2++t15)else none else some r.2 else none
theorem Ps:bc MY rU:= .bm (.k R3 .n)
def o8:List aY×Int×Int×af×af×List aK->Option (af×af×List aK)
 |(t35,e,t37,b,a,c)=>
 if (t37<e:Bool) then if aB t37 t35.length then some (t35.getD t37.toNat aG)>>=λf=>gk (a,f.ah)>>=λd=>if d.2 then if aB d.1 a.ae.length then rU (f.aC,(a.ae.getD d.1.toNat aG).aC,c)>>=λg=>o8 (t35,e,aS .i64 t37 1,b,a,g)else none else o8 (t35,e,aS .i64 t37 1,b,a,c)else none else some (b,a,c)
  partial_fixpoint
theorem Ti:cb 144 0 [0] LV o8:= .rx o8.partial_correctness (.k kn (.k Ps .n))
def Ag:a7×Int×a7×Int->Option (List aK)
 |(w,wt,r,rt)=>
 if aB wt w.Types.length then some (w.Types.getD wt.toNat aL)>>=λa=>if aB rt r.Types.length then some (r.Types.getD rt.toNat aL)>>=λc=>if !(a.Kind=c.Kind:Bool) then some []else o8 (a.ae,(a.ae.length:Int),0,a,c,[])>>=λo=>if(bif (o.1.Kind=8:Bool)then (0<o.1.Max:Bool)else false) then rU (o.1.Key,o.2.1.Key,o.2.2)>>=λb=>if(bif (o.1.Kind=9:Bool)then true else bif bif (o.1.Kind=7:Bool)then true else (o.1.Kind=8:Bool)then (0<o.1.Max:Bool)else false) then rU (o.1.aQ,o.2.1.aQ,b)>>=λd=>some d else some b else if(bif (o.1.Kind=9:Bool)then true else bif bif (o.1.Kind=7:Bool)then true else (o.1.Kind=8:Bool)then (0<o.1.Max:Bool)else false) then rU (o.1.aQ,o.2.1.aQ,o.2.2)>>=λe=>some e else some o.2.2 else none else none
theorem T0:bc MC Ag:= .bm (.k Ps .n) (.k Ti .n)
def Ah:a7×Int×a7×Int->Option (List aK×Int)
 |(w,wt,r,rt)=>
 xu ((⟨w,wt⟩:cq),(⟨r,rt⟩:cq))>>=λa=>if !(a=0:Bool) then some ([],a)else Ag (w,wt,r,rt)>>=λb=>some (b,0)
theorem T1:bc Od Ah:= .bm (.k Pv (.k T0 .n))
def rZ:fi×aK->Option (List aK)
 |(p,a)=>
 Ah (p.w.e1,a.bW,p.r.e1,a.bZ)>>=λr=>some r.1
theorem Qc:bc C6 rZ:= .bm (.k T1 .n)
def tF(a:cq×cq×List aK):Option Bool:=BO pM tn v7 tq rY rZ a
theorem PF:bc CX tF:=J9 Eh Pq P' SX Qb Qc
def hT:Int×List af×az×Int×az->Option (ab×Bool×List af×Int×az×az)
 |(c,b,e,f,a)=>
 tQ 8 a>>=λr=>if((r.1.length=a.length:Bool)&&true) then some ((⟨0,false,0,[],0,[],[],[]⟩:ab),false,b,c,r.1,r.2)else none
theorem pf:bc M1 hT:= .bm (.k kh .n)
def A6:aD×Int×Int×Int->Option Int
 |(a,b,c,t18)=>
 if (t18<c:Bool) then if aB t18 a.length then A6 (a,u3 .u64 (sD .u64 b 8) (ca .u64 (jf a t18)),c,aS .i64 t18 1)else none else some b
  partial_fixpoint
theorem Tv:cb 209 0 [0] LW A6:= .rx A6.partial_correctness
def Ew(s:aD):Option (Int×Int):=
 some (!(decide (s=[])))>>=λt7=>if(aB 0 s.length||(!t7)) then if(bif t7 then (jf s 0=0:Bool)else false) then some (0,2)else if (8<(s.length:Int):Bool) then some (0,7)else A6 (s,0,(s.length:Int),0)>>=λo=>some (o,0)else none
theorem VX:bc M3 Ew:= .bm .n (.k Tv .n)
def Px(n:Int):Option Int:=
 some (y2 .i64 (ca .i64 (mc .u64 n 1)) (dM .i64 0 (ca .i64 (Mk .u64 n 1))))
theorem UD:bc M5 Px:= .bm
def Ao:List aD×Int×List af×az×Int×af×Int×Bool×Int×aD×Int×Int×Bool×Int×aD×Int×az×List ab->Option ((Bool×List af×Int×ab×az×az) ⊕ (List aD×List af×az×Int×af×Int×Bool×Int×aD×Int×Int×Bool×Int×aD×Int×az×List ab))
 |(t,b,d,e,f,i,j,k,l,m,n,o,p,q,r,s,g,a)=>
 if (b<(a.length:Int):Bool) then some (dM .i64 b 1)>>=λt86=>if aB t86 a.length then if (t86.toNat<a.length:Bool) then if aB b a.length then if (b.toNat<a.length:Bool) then pL (ab.eta (a.getD t86.toNat aR),ab.eta (a.getD b.toNat aR))>>=λu=>if (0<=u:Bool) then hT (1,d,e,f,g)>>=λc=>some (.inl (c.2.1,c.2.2.1,c.2.2.2.1,ab.eta c.1,c.2.2.2.2.1,c.2.2.2.2.2))else Ao (t,aS .i64 b 1,d,e,f,i,j,k,l,m,n,o,p,q,r,s,g,a)else none else none else none else none else some (.inr (t,d,e,f,i,j,k,l,m,n,o,p,q,r,s,g,a))
  partial_fixpoint
theorem R4:cb 214 2 [1] Le Ao:= .rx Ao.partial_correctness (.k PZ (.k pf .n))
def AO:aD×Int×Int×Int->Option ((Int×Int×Int) ⊕ (Unit))
 |(a,n,b,t11)=>
 if (t11<b:Bool) then if aB t11 a.length then some (jf a t11)>>=λt16=>if(bif (t11=9:Bool)then (1<t16:Bool)else false) then some (.inl (0,0,7))else if (128<=t16:Bool) then some (hG .i64 7 t11)>>=λt41=>if (0<=t41:Bool) then AO (a,u3 .u64 n (sD .u64 (ca .u64 (Mk .u8 t16 127)) t41),b,aS .i64 t11 1)else none else if(bif (t16=0:Bool)then (0<t11:Bool)else false) then some (.inl (0,0,2))else some (hG .i64 7 t11)>>=λt21=>if (0<=t21:Bool) then some (.inl (u3 .u64 n (sD .u64 (ca .u64 t16) t21),aS .i64 t11 1,0))else none else none else some (.inr ())
  partial_fixpoint
theorem Vw:cb 346 0 [0] Lc AO:= .rx AO.partial_correctness
def HS(s:aD):Option (Int×Int×Int):=
 AO (s,0,da 10 (s.length:Int),0)>>=λo=>match o with
 |.inl a=>
 some (a.1,a.2.1,a.2.2)
 |.inr b=>
 some (0,0,10)
theorem V1:bc NM HS:= .bm .n (.k Vw .n)
def BS(s:aD):Option (Int×aD×Bool):=
 HS s>>=λr=>if !(r.2.2=0:Bool) then some (0,[],false)else if gu r.2.1 (s.length:Int) s.length then some (r.1,lC s r.2.1 (s.length:Int),true)else none
theorem Fq:bc NK BS:= .bm (.k V1 .n)
def Fb(s:aD):Option (aD×aD×Bool):=
 BS s>>=λr=>if(bif (!r.2.2)then true else (ca .u64 (r.2.1.length:Int)<r.1:Bool)) then some ([],[],false)else if gu 0 r.1 r.2.1.length then if gu r.1 (r.2.1.length:Int) r.2.1.length then some (lC r.2.1 0 r.1,lC r.2.1 r.1 (r.2.1.length:Int),true)else none else none
theorem Qt:bc NL Fb:= .bm (.k Fq .n)
def Bi:aD×List aD->Option ((Int) ⊕ (List aD))
 |(s,a)=>
 if !(s=[]:Bool) then Fb s>>=λr=>if !r.2.2 then some (.inl 12)else some [r.1]>>=λt22=>if room 16 (a++t22).length then Bi (r.2.1,a++t22)else none else some (.inr a)
  partial_fixpoint
theorem UE:cb 280 0 [0] Ld Bi:= .rx Bi.partial_correctness (.k Qt .n)
def FF(c:aD):Option (List aD×Int):=
 Bi (c,[])>>=λo=>match o with
 |.inl a=>
 some ([],a)
 |.inr b=>
 some (b,0)
theorem Q2:bc Ns FF:= .bm .n (.k UE .n)
mutual
def kq(v:ab):Option ab:=
 ga 120 v.bb>>=λr=>ga 120 v.ar>>=λU=>ga 24 v.Rest>>=λW=>rp ((r.length:Int),0,v.Kind,v.cd,v.bB,v.bL,v.ah,0,false,0,[],0,r,U,W)>>=λo=>rq ((o.2.2.2.2.2.2.2.2.2.2.2.1.length:Int),0,o.1,o.2.1,o.2.2.1,o.2.2.2.1,o.2.2.2.2.1,o.2.2.2.2.2.1,o.2.2.2.2.2.2.1,o.2.2.2.2.2.2.2.1,o.2.2.2.2.2.2.2.2.1,o.2.2.2.2.2.2.2.2.2.1,o.2.2.2.2.2.2.2.2.2.2.2.1,o.2.2.2.2.2.2.2.2.2.2.1,o.2.2.2.2.2.2.2.2.2.2.2.2)>>=λa=>some (⟨a.1,a.2.1,a.2.2.1,a.2.2.2.1,a.2.2.2.2.1,a.2.2.2.2.2.2.2.2.2.2.1,a.2.2.2.2.2.2.2.2.2.2.2.1,a.2.2.2.2.2.2.2.2.2.2.2.2⟩:ab)
  partial_fixpoint
def rp:Int×Int×Int×Bool×Int×aD×Int×Int×Bool×Int×aD×Int×List ab×List ab×List cG->Option (Int×Bool×Int×aD×Int×Int×Bool×Int×aD×Int×List ab×List ab×List cG)
 |(R,t22,g,j,p,q,t,w,x,y,A,B,c,D,E)=>
 if (t22<R:Bool) then if aB t22 c.length then if (t22.toNat<c.length:Bool) then kq (ab.eta (c.getD t22.toNat aR))>>=λX=>if aB t22 c.length then if (t22.toNat<c.length:Bool) then rp (R,aS .i64 t22 1,g,j,p,q,t,w,x,y,A,B,c.set t22.toNat (ab.eta X),D,E)else none else none else none else none else some (g,j,p,q,t,w,x,y,A,B,c,D,E)
  partial_fixpoint
def rq:Int×Int×Int×Bool×Int×aD×Int×Int×Bool×Int×aD×Int×List ab×List ab×List cG->Option (Int×Bool×Int×aD×Int×Int×Bool×Int×aD×Int×List ab×List ab×List cG)
 |(S,t37,F,G,H,I,J,K,L,M,N,O,e,P,Q)=>
 if (t37<S:Bool) then if aB t37 e.length then if (t37.toNat<e.length:Bool) then kq (ab.eta (e.getD t37.toNat aR))>>=λY=>if aB t37 e.length then if (t37.toNat<e.length:Bool) then rq (S,aS .i64 t37 1,F,G,H,I,J,K,L,M,N,O,e.set t37.toNat (ab.eta Y),P,Q)else none else none else none else none else some (F,G,H,I,J,K,L,M,N,O,P,e,Q)
  partial_fixpoint
end
theorem UF:eR s8 kq/\fq 284 0 [1] yF rq/\fq 284 0 [0] yE rp:=kq.mutual_partial_correctness (eM s8) (fp 284 0 [1] yF) (fp 284 0 [0] yE)
 (λ_ _ h1 a _ _ h=>eX h (.k k3 (.k k5 .n)) (.k (fM yE a) (.k (fM yF h1) .n)))
 (λ_ _ h0 h1 _ _ h=>fL yF h1 h (.k (cN s8 h0) .n))
 (λ_ _ h0 a _ _ h=>fL yE a h (.k (cN s8 h0) .n))
theorem Vx:bc s8 kq:=cN _ UF.1
def P0:iK×aY->Option (Bool×aY)
 |(f,b)=>
 some (decide (f.ah=b.ah),(⟨b.ah,b.Name,b.aC,b.cJ,b.bX,ab.eta b.bC⟩:aY))
theorem Tj:bc Nv P0:= .bm
def Ak:List iK×Int×Int×aY->Option ((Int×aY) ⊕ (aY))
 |(b,c,t8,a)=>
 if (t8<c:Bool) then if aB t8 b.length then P0 (b.getD t8.toNat Cm,(⟨a.ah,a.Name,a.aC,a.cJ,a.bX,ab.eta a.bC⟩:aY))>>=λr=>if r.1 then some (.inl (t8,(⟨r.2.ah,r.2.Name,r.2.aC,r.2.cJ,r.2.bX,ab.eta r.2.bC⟩:aY)))else Ak (b,c,aS .i64 t8 1,(⟨r.2.ah,r.2.Name,r.2.aC,r.2.cJ,r.2.bX,ab.eta r.2.bC⟩:aY))else none else some (.inr (⟨a.ah,a.Name,a.aC,a.cJ,a.bX,ab.eta a.bC⟩:aY))
  partial_fixpoint
theorem Sl:cb 282 1 [0] Lg Ak:= .rx Ak.partial_correctness (.k Tj .n)
def Pn(d:List iK×aY):Option (Int×aY):=
 match d with
 |(s,b)=>
 Ak (s,(s.length:Int),0,(⟨b.ah,b.Name,b.aC,b.cJ,b.bX,ab.eta b.bC⟩:aY))>>=λo=>match o with
 |.inl a=>
 some (a.1,(⟨a.2.ah,a.2.Name,a.2.aC,a.2.cJ,a.2.bX,ab.eta a.2.bC⟩:aY))
 |.inr c=>
 some ((-1),(⟨c.ah,c.Name,c.aC,c.cJ,c.bX,ab.eta c.bC⟩:aY))
theorem Sq:bc Nu Pn:= .bm .n (.k Sl .n)
def wF:List iK×Int×Int×List af×az×Int×af×Int×Bool×Int×aD×Int×Int×Bool×Int×aD×Int×az×List ab×List cG->Option ((Bool×List af×Int×ab×az×az) ⊕ (List af×az×Int×Int×Bool×Int×aD×Int×Int×Bool×Int×aD×Int×az×List ab×List cG))
 |(t117,u,t119,d,e,f,i,j,k,l,m,n,o,p,q,r,s,b,t,g)=>
 if (t119<u:Bool) then if aB t119 t117.length then some (t117.getD t119.toNat Cm)>>=λc=>gk (i,c.ah)>>=λv=>if v.2 then wF (t117,u,aS .i64 t119 1,d,e,f,i,j,k,l,m,n,o,p,q,r,s,b,t,g)else if c.cJ then some [c.ah]>>=λt140=>if room 8 (b++t140).length then hT (6,d,e,f,b++t140)>>=λa=>some (dM .i64 (a.2.2.2.2.1.length:Int) 1)>>=λt159=>if gu 0 t159 a.2.2.2.2.1.length then if (t159.toNat<=a.2.2.2.2.1.length:Bool) then some (.inl (false,a.2.2.1,a.2.2.2.1,ab.eta a.1,a.2.2.2.2.1.take t159.toNat,a.2.2.2.2.2))else none else none else none else some [(⟨c.ah,c.Data⟩:cG)]>>=λt171=>if room 24 (g++t171).length then wF (t117,u,aS .i64 t119 1,d,e,f,i,j,k,l,m,n,o,p,q,r,s,b,t,g++t171)else none else none else some (.inr (d,e,f,j,k,l,m,n,o,p,q,r,s,b,t,g))
  partial_fixpoint
theorem S7:cb 215 2 [1] Lh wF:= .rx wF.partial_correctness (.k kn (.k pf .n))
end
end Go.Proofs.YtkbmjabicjpmjaaGreatDoor
