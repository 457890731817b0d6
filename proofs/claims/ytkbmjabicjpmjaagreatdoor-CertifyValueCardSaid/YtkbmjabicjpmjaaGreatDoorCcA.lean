/- The functions of the program as functions of Lean, that its code does what they say, and what they answer; part A. -/
import Derived.Test.YtkbmjabicjpmjaaGreatDoorProg
import Derived.KernelRfl
import Derived.Shelf.SlGeneric
import Derived.Shelf.SlLaysF0
import Derived.Shelf.SlSortCmp.WholeK
import Derived.Lib.Small
import Derived.Test.YtkbmjabicjpmjaaGreatDoorCcLD

namespace Go.Proofs.YtkbmjabicjpmjaaGreatDoor
set_option linter.all false
section
open Go Go.Proofs.YtkbmjabicjpmjaaGreatDoor.Shv
open Tryz
set_option maxRecDepth 100000
structure lI where
 ae:Int
 aB:Int
 gX:Int
structure dp where
 Kind:Int
 A:Int
 B:Int
 C:Int
 cT:List lI
structure ek where
 ed:List dp
structure k3 where
 Kind:Int
 Node:Int
 A:Int
 B:Int
structure uc where
 S:ek
 L:List k3
 T:Int
 U:Int
structure cQ where
 eP:Int
 dI:Int
structure c6 where
 ae:Int
 Name:ao
structure b6 where
 ae:Int
 Data:ao
structure I where
 Kind:Int
 b5:Bool
 bo:Int
 bx:ao
 ae:Int
 aG:List I
 ai:List I
 Rest:List b6
structure aU where
 ae:Int
 Name:ao
 aB:Int
 cv:Bool
 bV:Bool
 bz:I
structure ah where
 Kind:Int
 Name:ao
 bE:Int
 bG:Int
 Max:Int
 bg:List c6
 ag:List aU
 Key:Int
 aC:Int
 Open:Bool
structure bl where
 Types:List ah
structure dZ where
 kS:bl
 aB:Int
structure ie where
 w:dZ
 r:dZ
structure gv where
 id:Int
 text:ao
structure eE where
 ae:Int
 cv:Bool
 Data:ao
structure k7 where
 Path:au
 Reason:Int
structure kB where
 JW:Bool
 Relation:List cQ
 Message:ao
structure dJ where
 Value:I
 Path:au
 eB:Bool
structure xB where
 Value:I
 zE:k7
 eB:Bool
structure lH where
 S:ek
 T:Int
 C:au
structure lJ where
 D:lH
 L:List k3
abbrev uP:Nat:=2
abbrev AO:Nat:=3
abbrev PO:Nat:=4
abbrev E6:Nat:=20
abbrev Tn:Nat:=21
def iG:lI:=⟨0,0,0⟩
def bt:dp:=⟨0,0,0,0,[]⟩
def Es:ek:=⟨[]⟩
def nk:k3:=⟨0,0,0,0⟩
def UE:uc:=⟨Es,[],0,0⟩
def k8:cQ:=⟨0,0⟩
def dR:c6:=⟨0,[]⟩
def bS:b6:=⟨0,[]⟩
def az:I:=⟨0,false,0,[],0,[],[],[]⟩
def aD:aU:=⟨0,[],0,false,false,az⟩
def aN:ah:=⟨0,[],0,0,0,[],[],0,0,false⟩
def IF:bl:=⟨[]⟩
def GU:dZ:=⟨IF,0⟩
def Vy:ie:=⟨GU,GU⟩
def uj:gv:=⟨0,[]⟩
def lP:eE:=⟨0,false,[]⟩
def HJ:k7:=⟨[],0⟩
def XN:kB:=⟨false,[],[]⟩
def To:dJ:=⟨az,[],false⟩
def Tp:xB:=⟨az,HJ,false⟩
def PW:lH:=⟨Es,0,[]⟩
def UF:lJ:=⟨PW,[]⟩
def dH:Nat->Type
 |0=>uc
 |1=>ek
 |2=>dp
 |3=>lI
 |4=>k3
 |5=>cQ
 |6=>ah
 |7=>c6
 |8=>aU
 |9=>I
 |10=>b6
 |11=>bl
 |12=>dZ
 |13=>ie
 |14=>gv
 |15=>eE
 |16=>k7
 |17=>kB
 |18=>dJ
 |19=>xB
 |20=>lJ
 |21=>lH
 |_=>Bool
def ei:Nat->List aF
 |0=>[.slice (.nm 2),.slice (.nm 4),.int .u8,.int .u8]
 |1=>[.slice (.nm 2)]
 |2=>[.int .u8,.int .u8,.int .u8,.int .u8,.slice (.nm 3)]
 |3=>[.int .u8,.int .u8,.int .u8]
 |4=>[.int .u8,.int .u8,.int .u8,.int .u8]
 |5=>[.int .i64,.int .i64]
 |6=>[.int .i64,.str,.int .i64,.int .i64,.int .i64,.slice (.nm 7),.slice (.nm 8),.int .i64,.int .i64,.bool]
 |7=>[.int .i64,.str]
 |8=>[.int .i64,.str,.int .i64,.bool,.bool,.int .i64,.bool,.int .i64,.str,.int .i64,.slice (.nm 9),.slice (.nm 9),.slice (.nm 10)]
 |9=>[.int .i64,.bool,.int .i64,.str,.int .i64,.slice (.nm 9),.slice (.nm 9),.slice (.nm 10)]
 |10=>[.int .i64,.str]
 |11=>[.slice (.nm 6)]
 |12=>[.slice (.nm 6),.int .i64]
 |13=>[.slice (.nm 6),.int .i64,.slice (.nm 6),.int .i64]
 |14=>[.int .i64,.str]
 |15=>[.int .i64,.bool,.str]
 |16=>[.slice (.int .i64),.int .i64]
 |17=>[.bool,.slice (.nm 5),.str]
 |18=>[.int .i64,.bool,.int .i64,.str,.int .i64,.slice (.nm 9),.slice (.nm 9),.slice (.nm 10),.slice (.int .i64),.bool]
 |19=>[.int .i64,.bool,.int .i64,.str,.int .i64,.slice (.nm 9),.slice (.nm 9),.slice (.nm 10),.slice (.int .i64),.int .i64,.bool]
 |20=>[.slice (.nm 2),.int .u8,.slice (.int .u8),.slice (.nm 4)]
 |21=>[.slice (.nm 2),.int .u8,.slice (.int .u8)]
 |_=>[.bool]
def aeL:(n:Nat)->dH n->List (Cell dH)
 |0,(x:uc)=>[⟨.slice (.nm 2),x.S.ed⟩,⟨.slice (.nm 4),x.L⟩,⟨.int .u8,x.T⟩,⟨.int .u8,x.U⟩]
 |1,(x:ek)=>[⟨.slice (.nm 2),x.ed⟩]
 |2,(x:dp)=>[⟨.int .u8,x.Kind⟩,⟨.int .u8,x.A⟩,⟨.int .u8,x.B⟩,⟨.int .u8,x.C⟩,⟨.slice (.nm 3),x.cT⟩]
 |3,(x:lI)=>[⟨.int .u8,x.ae⟩,⟨.int .u8,x.aB⟩,⟨.int .u8,x.gX⟩]
 |4,(x:k3)=>[⟨.int .u8,x.Kind⟩,⟨.int .u8,x.Node⟩,⟨.int .u8,x.A⟩,⟨.int .u8,x.B⟩]
 |5,(x:cQ)=>[⟨.int .i64,x.eP⟩,⟨.int .i64,x.dI⟩]
 |6,(x:ah)=>[⟨.int .i64,x.Kind⟩,⟨.str,x.Name⟩,⟨.int .i64,x.bE⟩,⟨.int .i64,x.bG⟩,⟨.int .i64,x.Max⟩,⟨.slice (.nm 7),x.bg⟩,⟨.slice (.nm 8),x.ag⟩,⟨.int .i64,x.Key⟩,⟨.int .i64,x.aC⟩,⟨.bool,x.Open⟩]
 |7,(x:c6)=>[⟨.int .i64,x.ae⟩,⟨.str,x.Name⟩]
 |8,(x:aU)=>[⟨.int .i64,x.ae⟩,⟨.str,x.Name⟩,⟨.int .i64,x.aB⟩,⟨.bool,x.cv⟩,⟨.bool,x.bV⟩,⟨.int .i64,x.bz.Kind⟩,⟨.bool,x.bz.b5⟩,⟨.int .i64,x.bz.bo⟩,⟨.str,x.bz.bx⟩,⟨.int .i64,x.bz.ae⟩,⟨.slice (.nm 9),x.bz.aG⟩,⟨.slice (.nm 9),x.bz.ai⟩,⟨.slice (.nm 10),x.bz.Rest⟩]
 |9,(x:I)=>[⟨.int .i64,x.Kind⟩,⟨.bool,x.b5⟩,⟨.int .i64,x.bo⟩,⟨.str,x.bx⟩,⟨.int .i64,x.ae⟩,⟨.slice (.nm 9),x.aG⟩,⟨.slice (.nm 9),x.ai⟩,⟨.slice (.nm 10),x.Rest⟩]
 |10,(x:b6)=>[⟨.int .i64,x.ae⟩,⟨.str,x.Data⟩]
 |11,(x:bl)=>[⟨.slice (.nm 6),x.Types⟩]
 |12,(x:dZ)=>[⟨.slice (.nm 6),x.kS.Types⟩,⟨.int .i64,x.aB⟩]
 |13,(x:ie)=>[⟨.slice (.nm 6),x.w.kS.Types⟩,⟨.int .i64,x.w.aB⟩,⟨.slice (.nm 6),x.r.kS.Types⟩,⟨.int .i64,x.r.aB⟩]
 |14,(x:gv)=>[⟨.int .i64,x.id⟩,⟨.str,x.text⟩]
 |15,(x:eE)=>[⟨.int .i64,x.ae⟩,⟨.bool,x.cv⟩,⟨.str,x.Data⟩]
 |16,(x:k7)=>[⟨.slice (.int .i64),x.Path⟩,⟨.int .i64,x.Reason⟩]
 |17,(x:kB)=>[⟨.bool,x.JW⟩,⟨.slice (.nm 5),x.Relation⟩,⟨.str,x.Message⟩]
 |18,(x:dJ)=>[⟨.int .i64,x.Value.Kind⟩,⟨.bool,x.Value.b5⟩,⟨.int .i64,x.Value.bo⟩,⟨.str,x.Value.bx⟩,⟨.int .i64,x.Value.ae⟩,⟨.slice (.nm 9),x.Value.aG⟩,⟨.slice (.nm 9),x.Value.ai⟩,⟨.slice (.nm 10),x.Value.Rest⟩,⟨.slice (.int .i64),x.Path⟩,⟨.bool,x.eB⟩]
 |19,(x:xB)=>[⟨.int .i64,x.Value.Kind⟩,⟨.bool,x.Value.b5⟩,⟨.int .i64,x.Value.bo⟩,⟨.str,x.Value.bx⟩,⟨.int .i64,x.Value.ae⟩,⟨.slice (.nm 9),x.Value.aG⟩,⟨.slice (.nm 9),x.Value.ai⟩,⟨.slice (.nm 10),x.Value.Rest⟩,⟨.slice (.int .i64),x.zE.Path⟩,⟨.int .i64,x.zE.Reason⟩,⟨.bool,x.eB⟩]
 |20,(x:lJ)=>[⟨.slice (.nm 2),x.D.S.ed⟩,⟨.int .u8,x.D.T⟩,⟨.slice (.int .u8),x.D.C⟩,⟨.slice (.nm 4),x.L⟩]
 |21,(x:lH)=>[⟨.slice (.nm 2),x.S.ed⟩,⟨.int .u8,x.T⟩,⟨.slice (.int .u8),x.C⟩]
 |_+22,(x:Bool)=>[⟨.bool,x⟩]
def cO:(n:Nat)->List (Cell dH)->Option (dH n)
 |0,l=>match aJ.dec dH (ei 0) l with
  |some h=>some (⟨(⟨h.1⟩:ek),h.2.1,h.2.2.1,h.2.2.2⟩:uc)
  |none=>none
 |1,l=>match aJ.dec dH (ei 1) l with
  |some h=>some (⟨h⟩:ek)
  |none=>none
 |2,l=>match aJ.dec dH (ei 2) l with
  |some h=>some (⟨h.1,h.2.1,h.2.2.1,h.2.2.2.1,h.2.2.2.2⟩:dp)
  |none=>none
 |3,l=>match aJ.dec dH (ei 3) l with
  |some h=>some (⟨h.1,h.2.1,h.2.2⟩:lI)
  |none=>none
 |4,l=>match aJ.dec dH (ei 4) l with
  |some h=>some (⟨h.1,h.2.1,h.2.2.1,h.2.2.2⟩:k3)
  |none=>none
 |5,l=>match aJ.dec dH (ei 5) l with
  |some h=>some (⟨h.1,h.2⟩:cQ)
  |none=>none
 |6,l=>match aJ.dec dH (ei 6) l with
  |some h=>some (⟨h.1,h.2.1,h.2.2.1,h.2.2.2.1,h.2.2.2.2.1,h.2.2.2.2.2.1,h.2.2.2.2.2.2.1,h.2.2.2.2.2.2.2.1,h.2.2.2.2.2.2.2.2.1,h.2.2.2.2.2.2.2.2.2⟩:ah)
  |none=>none
 |7,l=>match aJ.dec dH (ei 7) l with
  |some h=>some (⟨h.1,h.2⟩:c6)
  |none=>none
 |8,l=>match aJ.dec dH (ei 8) l with
  |some h=>some (⟨h.1,h.2.1,h.2.2.1,h.2.2.2.1,h.2.2.2.2.1,(⟨h.2.2.2.2.2.1,h.2.2.2.2.2.2.1,h.2.2.2.2.2.2.2.1,h.2.2.2.2.2.2.2.2.1,h.2.2.2.2.2.2.2.2.2.1,h.2.2.2.2.2.2.2.2.2.2.1,h.2.2.2.2.2.2.2.2.2.2.2.1,h.2.2.2.2.2.2.2.2.2.2.2.2⟩:I)⟩:aU)
  |none=>none
 |9,l=>match aJ.dec dH (ei 9) l with
  |some h=>some (⟨h.1,h.2.1,h.2.2.1,h.2.2.2.1,h.2.2.2.2.1,h.2.2.2.2.2.1,h.2.2.2.2.2.2.1,h.2.2.2.2.2.2.2⟩:I)
  |none=>none
 |10,l=>match aJ.dec dH (ei 10) l with
  |some h=>some (⟨h.1,h.2⟩:b6)
  |none=>none
 |11,l=>match aJ.dec dH (ei 11) l with
  |some h=>some (⟨h⟩:bl)
  |none=>none
 |12,l=>match aJ.dec dH (ei 12) l with
  |some h=>some (⟨(⟨h.1⟩:bl),h.2⟩:dZ)
  |none=>none
 |13,l=>match aJ.dec dH (ei 13) l with
  |some h=>some (⟨(⟨(⟨h.1⟩:bl),h.2.1⟩:dZ),(⟨(⟨h.2.2.1⟩:bl),h.2.2.2⟩:dZ)⟩:ie)
  |none=>none
 |14,l=>match aJ.dec dH (ei 14) l with
  |some h=>some (⟨h.1,h.2⟩:gv)
  |none=>none
 |15,l=>match aJ.dec dH (ei 15) l with
  |some h=>some (⟨h.1,h.2.1,h.2.2⟩:eE)
  |none=>none
 |16,l=>match aJ.dec dH (ei 16) l with
  |some h=>some (⟨h.1,h.2⟩:k7)
  |none=>none
 |17,l=>match aJ.dec dH (ei 17) l with
  |some h=>some (⟨h.1,h.2.1,h.2.2⟩:kB)
  |none=>none
 |18,l=>match aJ.dec dH (ei 18) l with
  |some h=>some (⟨(⟨h.1,h.2.1,h.2.2.1,h.2.2.2.1,h.2.2.2.2.1,h.2.2.2.2.2.1,h.2.2.2.2.2.2.1,h.2.2.2.2.2.2.2.1⟩:I),h.2.2.2.2.2.2.2.2.1,h.2.2.2.2.2.2.2.2.2⟩:dJ)
  |none=>none
 |19,l=>match aJ.dec dH (ei 19) l with
  |some h=>some (⟨(⟨h.1,h.2.1,h.2.2.1,h.2.2.2.1,h.2.2.2.2.1,h.2.2.2.2.2.1,h.2.2.2.2.2.2.1,h.2.2.2.2.2.2.2.1⟩:I),(⟨h.2.2.2.2.2.2.2.2.1,h.2.2.2.2.2.2.2.2.2.1⟩:k7),h.2.2.2.2.2.2.2.2.2.2⟩:xB)
  |none=>none
 |20,l=>match aJ.dec dH (ei 20) l with
  |some h=>some (⟨(⟨(⟨h.1⟩:ek),h.2.1,h.2.2.1⟩:lH),h.2.2.2⟩:lJ)
  |none=>none
 |21,l=>match aJ.dec dH (ei 21) l with
  |some h=>some (⟨(⟨h.1⟩:ek),h.2.1,h.2.2⟩:lH)
  |none=>none
 |_+22,l=>match aJ.dec dH [.bool] l with
  |some (h:Bool)=>some h
  |none=>none
def NW(x:lI):List T:=[.int .u8 x.ae,.int .u8 x.aB,.int .u8 x.gX]
def wD(x:dp):List T:=[.int .u8 x.Kind,.int .u8 x.A,.int .u8 x.B,.int .u8 x.C,.slice (x.cT.map NW)]
def ade(x:ek):List T:=[.slice (x.ed.map wD)]
def Dq(x:k3):List T:=[.int .u8 x.Kind,.int .u8 x.Node,.int .u8 x.A,.int .u8 x.B]
def adj(x:uc):List T:=[.slice (x.S.ed.map wD),.slice (x.L.map Dq),.int .u8 x.T,.int .u8 x.U]
def NT(x:cQ):List T:=[.int .i64 x.eP,.int .i64 x.dI]
def NV(x:c6):List T:=[.int .i64 x.ae,.str x.Name]
def tJ(x:b6):List T:=[.int .i64 x.ae,.str x.Data]
def I.eta(x:I):I:=⟨x.Kind,x.b5,x.bo,x.bx,x.ae,x.aG,x.ai,x.Rest⟩
theorem I.bk(x:I):x.eta=x:=by cases x;rfl
mutual
def k9:I->List T
 |⟨a0,a1,a2,a3,a4,a5,a,c⟩=>[.int .i64 a0,.bool a1,.int .i64 a2,.str a3,.int .i64 a4,.slice (wC a5),.slice (wC a),.slice (c.map tJ)]
def wC:List I->List (List T)
 |[]=>[]
 |v::r=>k9 v::wC r
end
theorem QP:∀l,wC l=l.map k9
 |[]=>rfl
 |v::r=>by simp only[wC,List.map];rw[QP r]
theorem WK(x:I):k9 x=[.int .i64 x.Kind,.bool x.b5,.int .i64 x.bo,.str x.bx,.int .i64 x.ae,.slice (x.aG.map k9),.slice (x.ai.map k9),.slice (x.Rest.map tJ)]:=by cases x;simp only[k9,QP]
def NU(x:aU):List T:=[.int .i64 x.ae,.str x.Name,.int .i64 x.aB,.bool x.cv,.bool x.bV,.int .i64 x.bz.Kind,.bool x.bz.b5,.int .i64 x.bz.bo,.str x.bz.bx,.int .i64 x.bz.ae,.slice (x.bz.aG.map k9),.slice (x.bz.ai.map k9),.slice (x.bz.Rest.map tJ)]
def wB(x:ah):List T:=[.int .i64 x.Kind,.str x.Name,.int .i64 x.bE,.int .i64 x.bG,.int .i64 x.Max,.slice (x.bg.map NV),.slice (x.ag.map NU),.int .i64 x.Key,.int .i64 x.aC,.bool x.Open]
def ada(x:bl):List T:=[.slice (x.Types.map wB)]
def ac'(x:dZ):List T:=[.slice (x.kS.Types.map wB),.int .i64 x.aB]
def ac6(x:ie):List T:=[.slice (x.w.kS.Types.map wB),.int .i64 x.w.aB,.slice (x.r.kS.Types.map wB),.int .i64 x.r.aB]
def ac7(x:gv):List T:=[.int .i64 x.id,.str x.text]
def ac9(x:eE):List T:=[.int .i64 x.ae,.bool x.cv,.str x.Data]
def ac8(x:k7):List T:=[.slice (x.Path.map (λy=>[.int .i64 y])),.int .i64 x.Reason]
def adb(x:kB):List T:=[.bool x.JW,.slice (x.Relation.map NT),.str x.Message]
def adi(x:dJ):List T:=[.int .i64 x.Value.Kind,.bool x.Value.b5,.int .i64 x.Value.bo,.str x.Value.bx,.int .i64 x.Value.ae,.slice (x.Value.aG.map k9),.slice (x.Value.ai.map k9),.slice (x.Value.Rest.map tJ),.slice (x.Path.map (λy=>[.int .i64 y])),.bool x.eB]
def adg(x:xB):List T:=[.int .i64 x.Value.Kind,.bool x.Value.b5,.int .i64 x.Value.bo,.str x.Value.bx,.int .i64 x.Value.ae,.slice (x.Value.aG.map k9),.slice (x.Value.ai.map k9),.slice (x.Value.Rest.map tJ),.slice (x.zE.Path.map (λy=>[.int .i64 y])),.int .i64 x.zE.Reason,.bool x.eB]
def adf(x:lH):List T:=[.slice (x.S.ed.map wD),.int .u8 x.T,.slice (x.C.map (λy=>[.int .u8 y]))]
def adh(x:lJ):List T:=[.slice (x.D.S.ed.map wD),.int .u8 x.D.T,.slice (x.D.C.map (λy=>[.int .u8 y])),.slice (x.L.map Dq)]
def aeK:(n:Nat)->dH n->List T
 |0,x=>adj x
 |1,x=>ade x
 |2,x=>wD x
 |3,x=>NW x
 |4,x=>Dq x
 |5,x=>NT x
 |6,x=>wB x
 |7,x=>NV x
 |8,x=>NU x
 |9,x=>k9 x
 |10,x=>tJ x
 |11,x=>ada x
 |12,x=>ac' x
 |13,x=>ac6 x
 |14,x=>ac7 x
 |15,x=>ac9 x
 |16,x=>ac8 x
 |17,x=>adb x
 |18,x=>adi x
 |19,x=>adg x
 |20,x=>adh x
 |21,x=>adf x
 |_+22,(x:Bool)=>[.bool x]
def cn:cE where
 D:=dH
 j2:=λn=>match n with
  |0=>UE
  |1=>Es
  |2=>bt
  |3=>iG
  |4=>nk
  |5=>k8
  |6=>aN
  |7=>dR
  |8=>aD
  |9=>az
  |10=>bS
  |11=>IF
  |12=>GU
  |13=>Vy
  |14=>uj
  |15=>lP
  |16=>HJ
  |17=>XN
  |18=>To
  |19=>Tp
  |20=>UF
  |21=>PW
  |_+22=>false
 rr:=aeL
 make:=cO
 df:=ei
 enc:=aeK
 NY:=λn x=>match n,x with
  |0,_=>rfl
  |1,_=>rfl
  |2,_=>rfl
  |3,_=>rfl
  |4,_=>rfl
  |5,_=>rfl
  |6,_=>rfl
  |7,_=>rfl
  |8,_=>rfl
  |9,x=>WK x
  |10,_=>rfl
  |11,_=>rfl
  |12,_=>rfl
  |13,_=>rfl
  |14,_=>rfl
  |15,_=>rfl
  |16,_=>rfl
  |17,_=>rfl
  |18,_=>rfl
  |19,_=>rfl
  |20,_=>rfl
  |21,_=>rfl
  |_+22,_=>rfl
 mk_eq:=λn l x h=>match n,x,h with
  |0,x,h=>by
   simp only[cO]at h;split at h
   . rename_i aa a;cases h;exact aJ.fl a
   . cases h
  |1,x,h=>by
   simp only[cO]at h;split at h
   . rename_i aa a;cases h;exact aJ.fl a
   . cases h
  |2,x,h=>by
   simp only[cO]at h;split at h
   . rename_i aa a;cases h;exact aJ.fl a
   . cases h
  |3,x,h=>by
   simp only[cO]at h;split at h
   . rename_i aa a;cases h;exact aJ.fl a
   . cases h
  |4,x,h=>by
   simp only[cO]at h;split at h
   . rename_i aa a;cases h;exact aJ.fl a
   . cases h
  |5,x,h=>by
   simp only[cO]at h;split at h
   . rename_i aa a;cases h;exact aJ.fl a
   . cases h
  |6,x,h=>by
   simp only[cO]at h;split at h
   . rename_i aa a;cases h;exact aJ.fl a
   . cases h
  |7,x,h=>by
   simp only[cO]at h;split at h
   . rename_i aa a;cases h;exact aJ.fl a
   . cases h
  |8,x,h=>by
   simp only[cO]at h;split at h
   . rename_i aa a;cases h;exact aJ.fl a
   . cases h
  |9,x,h=>by
   simp only[cO]at h;split at h
   . rename_i aa a;cases h;exact aJ.fl a
   . cases h
  |10,x,h=>by
   simp only[cO]at h;split at h
   . rename_i aa a;cases h;exact aJ.fl a
   . cases h
  |11,x,h=>by
   simp only[cO]at h;split at h
   . rename_i aa a;cases h;exact aJ.fl a
   . cases h
  |12,x,h=>by
   simp only[cO]at h;split at h
   . rename_i aa a;cases h;exact aJ.fl a
   . cases h
  |13,x,h=>by
   simp only[cO]at h;split at h
   . rename_i aa a;cases h;exact aJ.fl a
   . cases h
  |14,x,h=>by
   simp only[cO]at h;split at h
   . rename_i aa a;cases h;exact aJ.fl a
   . cases h
  |15,x,h=>by
   simp only[cO]at h;split at h
   . rename_i aa a;cases h;exact aJ.fl a
   . cases h
  |16,x,h=>by
   simp only[cO]at h;split at h
   . rename_i aa a;cases h;exact aJ.fl a
   . cases h
  |17,x,h=>by
   simp only[cO]at h;split at h
   . rename_i aa a;cases h;exact aJ.fl a
   . cases h
  |18,x,h=>by
   simp only[cO]at h;split at h
   . rename_i aa a;cases h;exact aJ.fl a
   . cases h
  |19,x,h=>by
   simp only[cO]at h;split at h
   . rename_i aa a;cases h;exact aJ.fl a
   . cases h
  |20,x,h=>by
   simp only[cO]at h;split at h
   . rename_i aa a;cases h;exact aJ.fl a
   . cases h
  |21,x,h=>by
   simp only[cO]at h;split at h
   . rename_i aa a;cases h;exact aJ.fl a
   . cases h
  |_+22,x,h=>by
   simp only[cO]at h;split at h
   . rename_i aa a;cases h;exact aJ.fl a
   . cases h
 OW:=λn x=>match n,x with
  |0,_=>rfl
  |1,_=>rfl
  |2,_=>rfl
  |3,_=>rfl
  |4,_=>rfl
  |5,_=>rfl
  |6,_=>rfl
  |7,_=>rfl
  |8,_=>rfl
  |9,_=>rfl
  |10,_=>rfl
  |11,_=>rfl
  |12,_=>rfl
  |13,_=>rfl
  |14,_=>rfl
  |15,_=>rfl
  |16,_=>rfl
  |17,_=>rfl
  |18,_=>rfl
  |19,_=>rfl
  |20,_=>rfl
  |21,_=>rfl
  |_+22,_=>rfl
 OV:=λe=>match e with
  |3=>some (.int .i64)
  |4=>some .bool
  |5=>some (.int .u8)
  |9=>some .str
  |39=>some (.nm 5)
  |62=>some (.nm 9)
  |112=>some (.nm 6)
  |141=>some (.nm 7)
  |148=>some (.nm 3)
  |162=>some (.nm 8)
  |188=>some (.nm 10)
  |239=>some (.nm 15)
  |276=>some (.nm 14)
  |_=>none
 cc:=some (.nm 5)
 own:=[([false,false,true,true],2,.int .i64),([false,true,true,false],1,.int .i64)]
 pos:=λn=>match n with
  |0=>by decide
  |1=>by decide
  |2=>by decide
  |3=>by decide
  |4=>by decide
  |5=>by decide
  |6=>by decide
  |7=>by decide
  |8=>by decide
  |9=>by decide
  |10=>by decide
  |11=>by decide
  |12=>by decide
  |13=>by decide
  |14=>by decide
  |15=>by decide
  |16=>by decide
  |17=>by decide
  |18=>by decide
  |19=>by decide
  |20=>by decide
  |21=>by decide
  |_+22=>Nat.zero_lt_one
theorem aaG:cn.Total:=λn l h=>match n,h with
 |0,h=>by
  obtain⟨x,a⟩:=aJ.hh (D:=dH) (ts:=ei 0) h;exact⟨_,by show cO 0 l=_;simp only[cO,a];rfl⟩
 |1,h=>by
  obtain⟨x,a⟩:=aJ.hh (D:=dH) (ts:=ei 1) h;exact⟨_,by show cO 1 l=_;simp only[cO,a];rfl⟩
 |2,h=>by
  obtain⟨x,a⟩:=aJ.hh (D:=dH) (ts:=ei 2) h;exact⟨_,by show cO 2 l=_;simp only[cO,a];rfl⟩
 |3,h=>by
  obtain⟨x,a⟩:=aJ.hh (D:=dH) (ts:=ei 3) h;exact⟨_,by show cO 3 l=_;simp only[cO,a];rfl⟩
 |4,h=>by
  obtain⟨x,a⟩:=aJ.hh (D:=dH) (ts:=ei 4) h;exact⟨_,by show cO 4 l=_;simp only[cO,a];rfl⟩
 |5,h=>by
  obtain⟨x,a⟩:=aJ.hh (D:=dH) (ts:=ei 5) h;exact⟨_,by show cO 5 l=_;simp only[cO,a];rfl⟩
 |6,h=>by
  obtain⟨x,a⟩:=aJ.hh (D:=dH) (ts:=ei 6) h;exact⟨_,by show cO 6 l=_;simp only[cO,a];rfl⟩
 |7,h=>by
  obtain⟨x,a⟩:=aJ.hh (D:=dH) (ts:=ei 7) h;exact⟨_,by show cO 7 l=_;simp only[cO,a];rfl⟩
 |8,h=>by
  obtain⟨x,a⟩:=aJ.hh (D:=dH) (ts:=ei 8) h;exact⟨_,by show cO 8 l=_;simp only[cO,a];rfl⟩
 |9,h=>by
  obtain⟨x,a⟩:=aJ.hh (D:=dH) (ts:=ei 9) h;exact⟨_,by show cO 9 l=_;simp only[cO,a];rfl⟩
 |10,h=>by
  obtain⟨x,a⟩:=aJ.hh (D:=dH) (ts:=ei 10) h;exact⟨_,by show cO 10 l=_;simp only[cO,a];rfl⟩
 |11,h=>by
  obtain⟨x,a⟩:=aJ.hh (D:=dH) (ts:=ei 11) h;exact⟨_,by show cO 11 l=_;simp only[cO,a];rfl⟩
 |12,h=>by
  obtain⟨x,a⟩:=aJ.hh (D:=dH) (ts:=ei 12) h;exact⟨_,by show cO 12 l=_;simp only[cO,a];rfl⟩
 |13,h=>by
  obtain⟨x,a⟩:=aJ.hh (D:=dH) (ts:=ei 13) h;exact⟨_,by show cO 13 l=_;simp only[cO,a];rfl⟩
 |14,h=>by
  obtain⟨x,a⟩:=aJ.hh (D:=dH) (ts:=ei 14) h;exact⟨_,by show cO 14 l=_;simp only[cO,a];rfl⟩
 |15,h=>by
  obtain⟨x,a⟩:=aJ.hh (D:=dH) (ts:=ei 15) h;exact⟨_,by show cO 15 l=_;simp only[cO,a];rfl⟩
 |16,h=>by
  obtain⟨x,a⟩:=aJ.hh (D:=dH) (ts:=ei 16) h;exact⟨_,by show cO 16 l=_;simp only[cO,a];rfl⟩
 |17,h=>by
  obtain⟨x,a⟩:=aJ.hh (D:=dH) (ts:=ei 17) h;exact⟨_,by show cO 17 l=_;simp only[cO,a];rfl⟩
 |18,h=>by
  obtain⟨x,a⟩:=aJ.hh (D:=dH) (ts:=ei 18) h;exact⟨_,by show cO 18 l=_;simp only[cO,a];rfl⟩
 |19,h=>by
  obtain⟨x,a⟩:=aJ.hh (D:=dH) (ts:=ei 19) h;exact⟨_,by show cO 19 l=_;simp only[cO,a];rfl⟩
 |20,h=>by
  obtain⟨x,a⟩:=aJ.hh (D:=dH) (ts:=ei 20) h;exact⟨_,by show cO 20 l=_;simp only[cO,a];rfl⟩
 |21,h=>by
  obtain⟨x,a⟩:=aJ.hh (D:=dH) (ts:=ei 21) h;exact⟨_,by show cO 21 l=_;simp only[cO,a];rfl⟩
 |m+22,h=>by
  obtain⟨x,a⟩:=aJ.hh (D:=dH) (ts:=[.bool]) h;exact⟨x,by show cO (m+22) l=_;simp only[cO,a];rfl⟩
end
section
open Go Go.Proofs.YtkbmjabicjpmjaaGreatDoor.Shv
open Tryz
set_option maxRecDepth 100000
open Go.Proofs Go.Proofs.YtkbmjabicjpmjaaGreatDoor Go.Shelf
theorem Sq:hb prog 232=true:=by kernel_rfl
def lA:cw cn:=GR cn 232 (.int .i64) 8
theorem Tb:hn prog lA:=WC (te:=3) (sz:=1) (bytes:=8) (z:=[.t (.int .i64 0)]) func232 (by kernel_rfl) (by kernel_rfl) (by kernel_rfl) rfl rfl
theorem k0:fc prog lA:=⟨Sq,Tb⟩
theorem Tq:hb prog 291=true:=by kernel_rfl
def lC:cw cn:=Cq cn 291 (.nm 9) 120
theorem SF:hn prog lC:=HD (te:=62) (sz:=8) (bytes:=120) (z:=[.t (.int .i64 0),.t (.bool false),.t (.int .i64 0),.t (.str []),.t (.int .i64 0),.aL,.aL,.aL]) func291 (by kernel_rfl) (by kernel_rfl) (by kernel_rfl) rfl rfl
theorem lD:fc prog lC:=⟨Tq,SF⟩
theorem Tr:hb prog 292=true:=by kernel_rfl
def lE:cw cn:=Cq cn 292 (.nm 10) 24
theorem SG:hn prog lE:=HD (te:=188) (sz:=2) (bytes:=24) (z:=[.t (.int .i64 0),.t (.str [])]) func292 (by kernel_rfl) (by kernel_rfl) (by kernel_rfl) rfl rfl
theorem lF:fc prog lE:=⟨Tr,SG⟩
instance:Inhabited gv:=⟨uj⟩
instance:Inhabited (cn.D 14):=⟨uj⟩
def lk(x y:gv):Bool:=decide (x.id<y.id)
def Et(l:List gv):Option (List gv):=some (kK lk l)
section
open Go.Proofs Go.Proofs.YtkbmjabicjpmjaaGreatDoor Go.Sort Go.RowKit Go.Lib
theorem aev(x:Int)(w:World):Calls prog 287 #[.int .i64 x] w λe w'=>e= .returned (.bool false)/\w'=w:=by
 go_enter func287,ntmps287
 go_wp2
 go_ret
 exact⟨by simp,rfl⟩
set_option maxHeartbeats 1000000 in
theorem aeu(x y:Int)(w:World):Calls prog 225 #[.int .i64 x,.int .i64 y] w λe w'=>e= .returned (.int .i64 (Lib.compareInt x y))/\w'=w:=by
 go_enter func225,ntmps225
 go_wp2_with (go_at_call 287;refine(aev _ _).mono ?_;rintro e w' ⟨rfl,a⟩;rw[a])
 all_goals (go_ret;refine⟨?_,rfl⟩;unfold Lib.compareInt;(repeat' split)<;>first|rfl|(exfalso;omega))
def zn(x:gv):List Value:=[.int .i64 x.id,.string ⟨x.text.toArray⟩]
set_option maxHeartbeats 1000000 in
theorem aet(x y:Int)(s t:ByteArray)(W:World):Calls prog 230 #[.agg #[.int .i64 x,.string s],.agg #[.int .i64 y,.string t]] W λe w'=>e= .returned (.int .i64 (Lib.compareInt x y))/\∃q c,w'=grow (W.drewN q) c:=by
 have a:=λb=>aeu x y b;generalize Lib.compareInt x y=r at a⊢
 go_enter func230,ntmps230
 go_wp2_with (go_at_call 225;refine(a _).mono ?_;rintro e w' ⟨rfl,rfl⟩)
 go_ret
 exact⟨rfl,0,_,by rw[alloc_eq_grow,alloc_eq_grow,grow_grow];rfl⟩
def IG:Go.Shelf.Ren:=⟨λ|6=>229|15=>290|14=>289|28=>338|29=>302|20=>330|21=>331|22=>332|23=>333|24=>334|25=>335|26=>336|27=>337|46=>347|47=>348|48=>349|49=>350|50=>351|57=>354|n=>n,λ|22=>274|24=>276|25=>278|3=>3|39=>196|0=>0|53=>324|55=>185|4=>4|46=>341|45=>340|50=>159|5=>5|9=>9|66=>358|70=>362|76=>370|77=>131|n=>n,λ|n=>n⟩
theorem Oc:SlLaysF0.n6 prog IG:={
 mixed:=by kernel_rfl
 f6:=⟨f229.name,by decide,func229.trans (dK some (by kernel_rfl))⟩
 f14:=⟨f289.name,by decide,func289.trans (dK some (by kernel_rfl))⟩
 f15:=func290.trans (dK some (by kernel_rfl))
 f20:=⟨f330.name,by decide,func330.trans (dK some (by kernel_rfl))⟩
 f21:=⟨f331.name,by decide,func331.trans (dK some (by kernel_rfl))⟩
 f22:=⟨f332.name,by decide,func332.trans (dK some (by kernel_rfl))⟩
 f23:=⟨f333.name,by decide,func333.trans (dK some (by kernel_rfl))⟩
 f24:=⟨f334.name,by decide,func334.trans (dK some (by kernel_rfl))⟩
 f25:=⟨f335.name,by decide,func335.trans (dK some (by kernel_rfl))⟩
 f26:=⟨f336.name,by decide,func336.trans (dK some (by kernel_rfl))⟩
 f27:=⟨f337.name,by decide,func337.trans (dK some (by kernel_rfl))⟩
 f28:=func338.trans (dK some (by kernel_rfl))
 f29:=func302.trans (dK some (by kernel_rfl))
 f46:=⟨f347.name,by decide,func347.trans (dK some (by kernel_rfl))⟩
 f47:=func348.trans (dK some (by kernel_rfl))
 f48:=func349.trans (dK some (by kernel_rfl))
 f49:=⟨f350.name,by decide,func350.trans (dK some (by kernel_rfl))⟩
 f50:=⟨f351.name,by decide,func351.trans (dK some (by kernel_rfl))⟩
 f57:=⟨f354.name,by decide,func354.trans (dK some (by kernel_rfl))⟩
 t0:=underlying0
 a0:=isAgg0
 z0:=sizeOf0
 v0:=zeroValue0
 t3:=underlying3
 a3:=isAgg3
 z3:=sizeOf3
 v3:=zeroValue3
 t4:=underlying4
 a4:=isAgg4
 z4:=sizeOf4
 v4:=zeroValue4
 t5:=underlying5
 a5:=isAgg5
 z5:=sizeOf5
 v5:=zeroValue5
 t9:=underlying9
 a9:=isAgg9
 z9:=sizeOf9
 v9:=zeroValue9
 t22:=underlying274
 a22:=isAgg274
 z22:=sizeOf274
 v22:=zeroValue274
 t25:=underlying278
 a25:=isAgg278
 z25:=sizeOf278
 v25:=zeroValue278
 t39:=underlying196
 a39:=isAgg196
 z39:=sizeOf196
 v39:=zeroValue196
 t45:=underlying340
 a45:=isAgg340
 z45:=sizeOf340
 v45:=zeroValue340
 t46:=underlying341
 a46:=isAgg341
 z46:=sizeOf341
 v46:=zeroValue341
 t50:=underlying159
 a50:=isAgg159
 z50:=sizeOf159
 v50:=zeroValue159
 t53:=underlying324
 a53:=isAgg324
 z53:=sizeOf324
 v53:=zeroValue324
 t55:=underlying185
 a55:=isAgg185
 z55:=sizeOf185
 v55:=zeroValue185
 t66:=underlying358
 a66:=isAgg358
 z66:=sizeOf358
 v66:=zeroValue358
 t70:=underlying362
 a70:=isAgg362
 z70:=sizeOf362
 v70:=zeroValue362
 t76:=underlying370
 a76:=isAgg370
 z76:=sizeOf370
 v76:=zeroValue370
 t77:=underlying131
 a77:=isAgg131
 z77:=sizeOf131
 v77:=zeroValue131}
theorem HK:ltOf (λx y:gv=>Lib.compareInt x.id y.id)=lk:=by
 funext x y
 unfold ltOf lk Lib.compareInt;by_cases h1:x.id<y.id
 . simp[h1]
 . by_cases a:y.id<x.id<;>simp[h1,a]
theorem Er:SWO lk:=aap (λx:gv=>x.id)
set_option maxHeartbeats 2000000 in
theorem aex(p:Option Addr)(cap:Nat)(a:Value)(w:World):Calls prog 330 #[.slice p 0 cap,.int .i64 0,.int .i64 0,a] w λe w'=>e= .returned (.tuple #[])/\w'=w:=by
 go_enter func330,ntmps330
 go_wp2
 refine wp_loop_rounds 1 ?_;rw[rounds_succ]
 go_wp2
 go_end0
 exact⟨rfl,rfl⟩
set_option maxHeartbeats 2000000 in
theorem aey(p:Option Addr)(cap:Nat)(c:Int)(a:Value)(w:World):Calls prog 289 #[.slice p 0 cap,.int .i64 0,.int .i64 0,.int .i64 c,a] w λe w'=>e= .returned (.tuple #[])/\w'=w:=by
 have b:=λW=>aex p cap a W
 go_enter func289,ntmps289
 go_wp2
 refine wp_loop_rounds 1 ?_;rw[rounds_succ]
 go_wp2_with (go_at_call 330;refine(b _).mono ?_;rintro e w' ⟨rfl,rfl⟩)
 (try simp only[Exit.inBlock,Exit.then]);refine bodyPost_ret (results_none rfl _ _ _) rfl ?_
 exact⟨rfl,rfl⟩
set_option maxHeartbeats 2000000 in
theorem aew(p:Option Addr)(cap:Nat)(a:Value)(w:World):Calls prog 229 #[.slice p 0 cap,a] w λe w'=>e= .returned (.tuple #[])/\w'=w:=by
 have aj:=λb W=>aey p cap b a W;have ad:∀W,Calls prog 290 #[.int .u64 0] W λe w'=>e= .returned (.int .i64 (Lib.bitLen 0:Nat))/\w'=W:=λW=>by
  have h:=Any.bits_Len (SlLaysF0.n15.bits (P:=prog) (ρ:=IG) {Oc with}) 0 W (by omega) (by omega);exact h
 go_enter func229,ntmps229
 go_wp2_with (first|(go_at_call 290;refine(ad _).mono ?_;rintro e w' ⟨rfl,rfl⟩)|(go_at_call 289;refine(aj _ _).mono ?_;rintro e w' ⟨rfl,rfl⟩))
 go_end0
 exact⟨rfl,rfl⟩
theorem aez(blk off cap:Nat)(d:Array (cn.D 14))(w:World)(c:HoldsK zn 2 w blk off d)(f:blk<w.heap.size)(g:d.size<4611686018427387904):
 Calls prog 229 #[.slice (some ⟨blk,off,none⟩) d.size cap,.func (.func 230) #[] #[]] w λe w'=>e= .returned (.tuple #[])/\∃n os,w'=sortWorldK zn 2 w blk off n (pdq lk d 0 d.size (Lib.bitLen d.size) true true) os:=by
 have b:∀args w,(callFunc 230 args).run prog w= .ok (.enter 230 args) w:=enters_of func230 (by kernel_rfl) rfl;have h:=AnyQ.slices_SortFunc_eq (α:=gv) Oc 2 isAgg276 sizeOf276 zn (λ_=>rfl) (λx v a=>by simp[zn]at a;rcases a with rfl|rfl<;>rfl) (λx y=>Lib.compareInt x.id y.id) (by rw[HK];exact Er) 230 #[] blk off cap d w b (λ_ _ _ _ x y=>aet x.id y.id _ _ _) c f g;rw[HK]at h;exact h
theorem abb:hb prog 229=true:=by kernel_rfl
def EI:cw cn:=Ep cn 229 14 230 (kK (α:=cn.D 14) lk)
theorem UG:hn prog EI:=Zi (U:=cn) (n:=14) zn lk Er (λ_=>rfl) (λw S x j t v h a=>WI w S x.id x.text j t v h a) aez aew
end
theorem EJ:fc prog EI:=⟨abb,UG⟩
def Rb:Go.Shelf.Ren:=⟨λ|240=>128|276=>185|n=>n,λ|0=>0|4=>4|9=>9|20=>20|37=>54|70=>114|72=>116|164=>250|n=>n,λn=>n⟩
theorem adN:Lays.n240 prog Rb:={
 mixed:=by kernel_rfl
 f240:=func128.trans (dK some (by kernel_rfl))
 f276:=func185.trans (dK some (by kernel_rfl))
 t0:=underlying0
 a0:=isAgg0
 z0:=sizeOf0
 v0:=zeroValue0
 t4:=underlying4
 a4:=isAgg4
 z4:=sizeOf4
 v4:=zeroValue4
 t9:=underlying9
 a9:=isAgg9
 z9:=sizeOf9
 v9:=zeroValue9
 t20:=underlying20
 a20:=isAgg20
 z20:=sizeOf20
 v20:=zeroValue20
 t70:=underlying114
 a70:=isAgg114
 z70:=sizeOf114
 v70:=zeroValue114
 t72:=underlying116
 a72:=isAgg116
 z72:=sizeOf116
 v72:=zeroValue116
 t164:=underlying250
 a164:=isAgg250
 z164:=sizeOf250
 v164:=zeroValue250}
theorem adO:Builder.X72 prog Rb:={
 sizeBuilder:=by kernel_rfl
 liesBuilder:=by kernel_rfl}
theorem abc:hb prog 128=true:=by kernel_rfl
def lK:cw cn:=Cr cn 128 116 5
theorem Td:hn prog lK:=XJ adN adO rfl rfl
theorem mB:fc prog lK:=⟨abc,Td⟩
def WL:Go.Shelf.Ren:=⟨λ|129=>302|171=>70|243=>129|246=>186|283=>259|284=>260|285=>261|286=>262|317=>301|318=>303|319=>304|320=>305|337=>339|338=>340|n=>n,λ|0=>0|2=>2|3=>3|4=>4|5=>5|9=>9|20=>20|37=>54|46=>196|51=>324|53=>185|171=>295|173=>298|212=>323|213=>325|232=>364|233=>365|n=>n,λ|17=>0|18=>6|19=>7|n=>n⟩
theorem adM:Lays.n171 prog WL:={
 mixed:=by kernel_rfl
 f129:=func302.trans (dK some (by kernel_rfl))
 f171:=func70.trans (dK some (by kernel_rfl))
 f243:=func129.trans (dK some (by kernel_rfl))
 f246:=func186.trans (dK some (by kernel_rfl))
 f283:=func259.trans (dK some (by kernel_rfl))
 f284:=func260.trans (dK some (by kernel_rfl))
 f285:=func261.trans (dK some (by kernel_rfl))
 f286:=func262.trans (dK some (by kernel_rfl))
 f317:=func301.trans (dK some (by kernel_rfl))
 f318:=func303.trans (dK some (by kernel_rfl))
 f319:=func304.trans (dK some (by kernel_rfl))
 f320:=func305.trans (dK some (by kernel_rfl))
 f337:=func339.trans (dK some (by kernel_rfl))
 f338:=func340.trans (dK some (by kernel_rfl))
 t0:=underlying0
 a0:=isAgg0
 z0:=sizeOf0
 v0:=zeroValue0
 t2:=underlying2
 a2:=isAgg2
 z2:=sizeOf2
 v2:=zeroValue2
 t3:=underlying3
 a3:=isAgg3
 z3:=sizeOf3
 v3:=zeroValue3
 t4:=underlying4
 a4:=isAgg4
 z4:=sizeOf4
 v4:=zeroValue4
 t5:=underlying5
 a5:=isAgg5
 z5:=sizeOf5
 v5:=zeroValue5
 t9:=underlying9
 a9:=isAgg9
 z9:=sizeOf9
 v9:=zeroValue9
 t20:=underlying20
 a20:=isAgg20
 z20:=sizeOf20
 v20:=zeroValue20
 t37:=underlying54
 a37:=isAgg54
 z37:=sizeOf54
 v37:=zeroValue54
 t46:=underlying196
 a46:=isAgg196
 z46:=sizeOf196
 v46:=zeroValue196
 t51:=underlying324
 a51:=isAgg324
 z51:=sizeOf324
 v51:=zeroValue324
 t53:=underlying185
 a53:=isAgg185
 z53:=sizeOf185
 v53:=zeroValue185
 t171:=underlying295
 a171:=isAgg295
 z171:=sizeOf295
 v171:=zeroValue295
 t173:=underlying298
 a173:=isAgg298
 z173:=sizeOf298
 v173:=zeroValue298
 t212:=underlying323
 a212:=isAgg323
 z212:=sizeOf323
 v212:=zeroValue323
 t213:=underlying325
 a213:=isAgg325
 z213:=sizeOf325
 t232:=underlying364
 a232:=isAgg364
 z232:=sizeOf364
 v232:=zeroValue364
 t233:=underlying365
 a233:=isAgg365
 z233:=sizeOf365
 v233:=zeroValue365
 g17:=by kernel_rfl
 g18:=by kernel_rfl
 g19:=by kernel_rfl}
theorem RS:hb prog 70=true:=by kernel_rfl
def lG:cw cn:=N8 cn 70
theorem Sr:hn prog lG:=Zm adM rfl
theorem nx:fc prog lG:=⟨RS,Sr⟩
end
section
open Go Go.Proofs.YtkbmjabicjpmjaaGreatDoor.Shv
open Tryz
set_option maxRecDepth 100000
theorem AK:mT prog 85:= .of (by kernel_rfl)
variable{S:c0}{ks:List (Int×Int)}{g kk:Nat}{w:World}{v:Value}{es:List MapEntry}{fs:List (cw cn)}{p:aW}{P R:dZ×dZ×List cQ->Option Bool}{M:dZ×dZ×ao->Option Bool}
variable{a f:Nat}
theorem RO(G:∀b j,S b j->b<w.heap.size)(x:cQ){E:TypeId}{es:Array MapEntry}{ct:Nat}
 (h1:w.heap[g]?=some (.cells #[.map (some a)] E (0,0)))(m:w.heap[a]?=some (.map es ct))(hs:iT ks es.toList)(B:∀j,¬S g j)(C:∀j,¬S a j):
 Calls prog 44 #[d' (x.eP,x.dI),.pointer (some ⟨g,0,none⟩)] w λe w'=>e= .returned (.bool (!hY ks (x.eP,x.dI)))/\∃bd,n2 S w bd w':=by
 refine calls_of_wp func44 rfl ?_;have u:=cy.enter (U:=cn) (gs:=[g,a]) (N:=2) (nt:=8) (φ:=λb=>if b=0 then(g,0)else(a,0)) (args:=[.agg [.t ⟨.int .i64,x.eP⟩,.t ⟨.int .i64,x.dI⟩],.c (.ptr 0 0)]) (w:=w) (S:=S)
  (.cons (.agg (.cons (.t _) (.cons (.t _) .nil))) (.cons (.c (.ptr 0 0)) .nil)) (vs:=[d' (x.eP,x.dI),.pointer (some ⟨g,0,none⟩)]) (.cons (.agg (.cons (bM.int _ _) (.cons (bM.int _ _) .nil))) (.cons (.c rfl) .nil)) rfl G (sS rfl)
  (by
   have:=nG h1;have:=nG m;intro b p;simp at p;rcases p with rfl|rfl
   . exact⟨by assumption,B⟩
   . exact⟨by assumption,C⟩)
 refine wp_seq (u.gm 2 [bw .normal [(1,.c (.ptr 0 0)),(2,.c (.ptr 2 0))] [.gone,.gone,.ba 5]] (o:=x) .n (by kernel_rfl) λM I a1 r l cV=>?_);refine wp_seq (oV [0,1,2,3,4] ?_);have bb:a1.tmps[1]?=some (.pointer (some ⟨g,0,none⟩)):=(l.ptr (k:=1) rfl).trans (by rw[cV.fix 0 (by decide)];rfl);have D:r.heap[g]?=_:=(cV.aj g (by simp)).trans h1;have F:r.heap[a]?=_:=(cV.aj a (by simp)).trans m;refine nO rfl rfl rfl (ld1 rfl (by kernel_rfl) (fQ bb) D (off:=0) rfl) ?_;have z:=l.put (d:=4) (x:= .map (some a)) (v:= .c (.mp 1)) (.c (.mp 1)) (.c (by show _=Value.map (some _);rw[cV.fix 1 (by decide)];rfl));refine z.op 2 1 1 [(4,.c (.mp 1)),(5,.row 5)] [.gone,.gone] (h:=x) .n (by kernel_rfl) λO J a3 K f q=>?_
 have cu:a3.tmps[4]?=some (.map (some a)):=(f.mp (k:=4) rfl).trans (by rw[q.fix 1 (by decide),cV.fix 1 (by decide)];rfl);have cW:a3.tmps[5]?=some (d' (x.eP,x.dI)):=f.pair rfl;refine nO rfl rfl rfl (adP rfl AK (fQ cu) (fQ cW) ((q.aj a (by simp)).trans F) hs) ?_;have A:=f.put (d:=6) (v:= .c (.t ⟨.bool,hY ks (x.eP,x.dI)⟩)) (.c (.t _)) (.c (bM.bool _));refine A.op 2 3 2 [(3,.c (.hole .bool))] [.gone,.gone] (h:=!hY ks (x.eP,x.dI)) .n (by kernel_rfl) λP s a5 L i eO=>?_;refine wp_ret (i.ret rfl rfl λy H=>⟨?_,s,i.ext,i.st⟩);cases H;rfl
def iu(ks:List (Int×Int))(x:cQ):Bool:=hY ks (x.eP,x.dI)
structure n0 (S:c0)(w:World)(g Dv:Nat)(ks:List (Int×Int)):Prop where
 st:∀b j,S b j->b<w.heap.size
 g1:∃E,w.heap[g]?=some (.cells #[.map (some Dv)] E (0,0))
 g2:∃es ct,w.heap[Dv]?=some (.map es ct)/\iT ks es.toList
 g3:∀j,¬S g j
 g4:∀j,¬S Dv j
theorem n0.next{bd:c0}{w':World}{c:Nat}(h:n0 S w g c ks){nt:Nat}{av:Ctx}{s:v8 cn}{φ j:cZ}{a:Act}(T:cy av nt [g,c] s φ bd a w')(n:q' [g,c] kk j w φ w'):n0 bd w' g c ks:=by
 obtain⟨h0,⟨E,h1⟩,⟨es,ct,e,f⟩,o,bp⟩:=h;exact⟨T.st,⟨E,(n.aj g (by simp)).trans h1⟩,⟨es,ct,(n.aj c (by simp)).trans e,f⟩,(T.ea g (by simp)).2,(T.ea c (by simp)).2⟩
theorem n0.ea(ak:n0 S w g a ks):∀b,b∈[g,a]->b<w.heap.size/\∀j,¬S b j:=by
 obtain⟨h0,⟨E,h1⟩,⟨es,ct,e,_⟩,f,o⟩:=ak;have:=nG h1;have:=nG e;intro b c;simp at c;rcases c with rfl|rfl
 . exact⟨by assumption,f⟩
 . exact⟨by assumption,o⟩
theorem RV(φ:cZ)(l:List cQ){q:Nat}(ak:n0 S w g q ks)(P:(φ 0).1=g)(aq:bM w S (Cell.enc cn ⟨.slice (.nm 5),l⟩) v):
 Calls prog 92 #[v,.func (.func 44) #[] #[.pointer (some ⟨g,0,none⟩)]] w λe w'=>∃m bd,e= .returned (.int .i64 m)/\((l.any λx=>!iu ks x)=decide (0<=m))/\n2 S w bd w':=by
 refine calls_of_wp func92 rfl ?_;have ad:=cy.enter (U:=cn) (gs:=[g,q]) (N:=1) (nt:=19) (φ:=φ) (args:=[.c (.t ⟨.slice (.nm 5),l⟩),.c (.fn 44 [0])]) (w:=w) (S:=S)
  (.cons (.c (.t _)) (.cons (.c (.fn 44 [0])) .nil)) (vs:=[v,.func (.func 44) #[] #[.pointer (some ⟨g,0,none⟩)]]) (.cons (.c aq) (.cons (.c (by rw[<-P];rfl)) .nil)) rfl ak.st (sS rfl)
  ak.ea
 refine wp_seq (ad.gm 1 [bw .normal [(0,aa (aw 5)),(1,.c (.fn 44 [0]))] [.gone]] (o:=l) .n (by kernel_rfl) λaM aE a1 aK I cV=>?_);refine wp_seq (wp_seq (I.gm 1 [bw .normal [(0,aa (aw 5)),(1,.c (.fn 44 [0])),(7,aa ab),(8,aa ab)] [.gone]] (o:=(l,(l.length:Int),(0:Int))) .n (by kernel_rfl) λaz W a2 ar J Q=>?_));refine wp_block (BC ?_);refine(show(∀(n i:Nat),i+n=l.length->(∀j,j<i->∃x,l[j]?=some x/\iu ks x=true)->∀bc bd bX w',cy _ 19 [g,q] (fi (U:=cn) [bw .normal [(0,aa (aw 5)),(1,.c (.fn 44 [0])),(7,aa ab),(8,aa ab)] [.gone]] (l,(l.length:Int),(i:Int))).2 bc bd bX w'->(bc 0).1=g->n0 bd w' g q ks->tc prog _ _ bX w')from ?_) l.length 0 (by simp) (by simp) az W a2 ar J (by rw[Q.fix 0 (by decide),cV.fix 0 (by decide)];exact P) ((ak.next I cV).next J Q);intro n;induction n with
 |zero=>
  intro i am C aA X a3 au B L O;refine ux (wp_seq (B.gm 1 [bw .normal [(9,aa .bool)] [.gone]] (o:=(decide ((i:Int)<l.length))) .n (by kernel_rfl) λaB Y a4 av f F=>?_));refine wp_seq (wp_cond_false (by rw[fQ (f.bool (k:=9) rfl)];simp;omega) (wp_exit ?_));refine f.gm 1 [bw .ret [(4,aa ab)] [.gone]] (o:=(-1:Int)) .n (by kernel_rfl) λaC H a5 ax p eO=>p.ret rfl rfl λy D=>⟨-1,H,?_,?_,p.ext,p.st⟩
  . cases D;rfl
  . have:(l.any λx=>!iu ks x)=false:=by
     rw[List.any_eq_false];intro x z;obtain⟨j,ap,rfl⟩:=DV.1 z;obtain⟨y,h1,ag⟩:=C j (by omega);rw[eF ap]at h1;cases h1;simp[ag]
    rw[this];rfl
 |succ n ih=>
  intro i am C aA X a3 au B L O;have an:i<l.length:=by omega
  refine ux (wp_seq (B.gm 1 [bw .normal [(0,aa (aw 5)),(1,.c (.fn 44 [0])),(7,aa ab),(8,aa ab),(9,aa .bool)] [.gone]] (o:=(l,(l.length:Int),(i:Int),decide ((i:Int)<l.length))) .n (by kernel_rfl) λaB Y a4 av f F=>?_));refine wp_seq (wp_cond_true (by rw[fQ (f.bool (k:=9) rfl)];simp;omega) (wp_skip ?_));refine wp_seq (wp_block (wp_seq (f.gm 1 [bw .normal [(0,aa (aw 5)),(1,.c (.fn 44 [0])),(7,aa ab),(8,aa ab),(5,aa ab)] [.gone]] (o:=(l,(l.length:Int),(i:Int),(i:Int))) .n (by kernel_rfl) λaC H a5 ax p eO=>?_)));refine wp_seq (oV [0,1,2,3,4,5] ?_);refine p.op 1 0 5 [(0,aa (aw 5)),(1,.c (.fn 44 [0])),(7,aa ab),(8,aa ab),(5,aa ab),(11,.c (.fn 44 [0])),(15,.row 5)] [.gone] (h:=(l,(l.length:Int),(i:Int),(i:Int),l.getD (Int.toNat i) k8)) .n ((show _=(if aI (i:Int) l.length then some _ else none) by kernel_rfl).trans (af (by simp[aI];omega))) λaD aF aG aL r R=>?_
  have M:(aD 0).1=g:=by rw[R.fix 0 (by decide),eO.fix 0 (by decide),F.fix 0 (by decide)];exact L
  have aj:=((O.next f F).next p eO).next r R;have z:l[i]?=some (l.getD i k8):=by simp[List.getD,eF an]
  refine DF rfl rfl rfl (sJ rfl rfl (fQ (r.fn (k:=11) rfl)) (by kernel_rfl)) (args:=#[d' ((l.getD i k8).eP,(l.getD i k8).dI),.pointer (some ⟨g,0,none⟩)]) ?_ ?_
  . simp[fQ (r.pair (k:=15) rfl),M]
  obtain⟨h0,⟨E,g1⟩,⟨es,ct,g2,g3⟩,g4,ae⟩:=aj;refine(RO h0 (l.getD i k8) g1 g2 g3 g4 ae).mono ?_
  rintro e ay ⟨rfl,Z,u⟩
  refine⟨_,rfl,?_⟩;have b:=(r.extend u.1 u.2).put (d:=16) (v:= .c (.t ⟨.bool,!iu ks (l.getD i k8)⟩)) (.c (.t _)) (.c (bM.bool _));have al:n0 Z ay g q ks:=⟨b.st,⟨E,u.heap g1⟩,⟨es,ct,u.heap g2,g3⟩,(b.ea g (by simp)).2,(b.ea q (by simp)).2⟩
  cases s:iu ks (l.getD i k8)with
  |false=>
   refine wp_cond_true ((fQ (b.bool (k:=16) rfl)).trans (by rw[s];rfl)) (wp_seq (b.gm 1 [bw .normal [(4,aa ab)] [.gone]] (o:=(i:Int)) .n (by kernel_rfl) λV A K T a G=>wp_ret ?_));simp only[Exit.inBlock,Exit.then];refine a.ret rfl rfl λy D=>⟨(i:Int),A,?_,?_,a.ext,a.st⟩
   . cases D;rfl
   . have:(l.any λx=>!iu ks x)=true:=vx.2 ⟨l.getD i k8,e7 z,by rw[s];rfl⟩;rw[this];simp
  |true=>
   refine wp_cond_false ((fQ (b.bool (k:=16) rfl)).trans (by rw[s];rfl)) (wp_skip ?_);refine b.gm 1 [bw .normal [(0,aa (aw 5)),(1,.c (.fn 44 [0])),(7,aa ab),(8,aa ab)] [.gone]] (o:=(l,(l.length:Int),aQ .i64 (i:Int) 1)) .n (by kernel_rfl) λV A K T a G=>?_;have ai:aQ .i64 (i:Int) 1=((i+1:Nat):Int):=by
    have ah:l.length<=dm:=a.len (k:=0) rfl;unfold dm at ah;have aH:(i:Int)<281474976710656:=(by omega);unfold aQ;rw[IntKind.wrap_i64];omega
   rw[ai]at a;refine ih (i+1) (by omega) (λj aJ=>?_) V A K T a (by rw[G.fix 0 (by decide)];exact M) (al.next a G);by_cases ao:j<i
   . exact C j ao
   . have:j=i:=(by omega);subst this;exact⟨_,z,s⟩
theorem RN(l:List cQ){j:Nat}(ak:n0 S w g j ks)(F:bM w S (Cell.enc cn ⟨.slice (.nm 5),l⟩) v):
 Calls prog 42 #[v,.func (.func 44) #[] #[.pointer (some ⟨g,0,none⟩)]] w λe w'=>∃bd,e= .returned (.bool (l.any λx=>!iu ks x))/\n2 S w bd w':=by
 refine calls_of_wp func42 rfl ?_;have A:=cy.enter (U:=cn) (gs:=[g,j]) (N:=1) (nt:=9) (φ:=λ_=>(g,0)) (args:=[.c (.t ⟨.slice (.nm 5),l⟩),.c (.fn 44 [0])]) (w:=w) (S:=S)
  (.cons (.c (.t _)) (.cons (.c (.fn 44 [0])) .nil)) (vs:=[v,.func (.func 44) #[] #[.pointer (some ⟨g,0,none⟩)]]) (.cons (.c F) (.cons (.c rfl) .nil)) rfl ak.st (sS rfl) ak.ea
 refine wp_seq (A.gm 1 [bw .normal [(0,aa (aw 5)),(1,.c (.fn 44 [0]))] [.gone]] (o:=l) .n (by kernel_rfl) λQ H a1 L i cV=>?_);refine wp_seq (oV [0,1,2,3,4] ?_);refine i.op 1 0 2 [(5,aa (aw 5)),(6,.c (.fn 44 [0]))] [.gone] (h:=l) .n (by kernel_rfl) λs I a2 M a r=>?_;have C:=(ak.next i cV).next a r;obtain⟨u,cW,E⟩:=a.cell (k:=5) rfl;have p:(s 0).1=g:=by rw[r.fix 0 (by decide),cV.fix 0 (by decide)]
 refine DF rfl rfl rfl (sJ rfl rfl (f:=92) (caps:=[]) rfl (by kernel_rfl)) (args:=#[u,.func (.func 44) #[] #[.pointer (some ⟨g,0,none⟩)]]) ?_ ?_
 . simp[fQ cW,fQ (a.fn (k:=6) rfl),p]
 refine(RV s l C p E).mono ?_
 rintro e O ⟨m,J,rfl,D,q⟩
 refine⟨_,rfl,?_⟩;have B:=(a.extend q.1 q.2).put (d:=7) (v:= .c (.t ⟨.int .i64,m⟩)) (.c (.t _)) (.c (bM.int _ _));refine B.op 1 3 2 [(4,aa .bool)] [.gone] (h:=decide (0<=m)) .n (by kernel_rfl) λR z a4 P b K=>?_;refine wp_ret (b.ret rfl rfl λy G=>⟨z,?_,b.ext,b.st⟩);cases G;rw[D]
section
variable (l':dZ->Option Bool)(th:List cQ×cQ->Option Bool)(tu:ie->Option cQ)(nY nZ:ie×cQ->Option Bool)(q9:ie×cQ->Option (List cQ))
def ON(p:ie)(l:List cQ)(x:cQ):Option Bool:=
 nY (p,x)>>=λa=>if !a then some false else nZ (p,x)>>=λb=>if !b then some false else q9 (p,x)>>=λm=>some (m.all λy=>l.any λz=>(fy y.eP z.eP&&(fy y.dI z.dI&&true)))
def v'(g:cQ->Option Bool):List cQ->Option Bool
 |[]=>some true
 |x::r=>g x>>=λa=>v' g r>>=λb=>some (a&&b)
def OM:dZ×dZ×List cQ->Option Bool
 |(w,r,l)=>
 l' w>>=λa=>if !a then some false else l' r>>=λb=>if !b then some false else tu (⟨w,r⟩:ie)>>=λq=>th (l,q)>>=λc=>if !c then some false else v' (ON nY nZ q9 (⟨w,r⟩:ie) l) l
end
theorem HL{g:cQ->Option Bool}:∀{l:List cQ} {b:Bool},v' g l=some b->(∀x,x∈l->∃a,g x=some a/\(a=false->b=false))/\((∀x,x∈l->g x=some true)->b=true)
 |[],b,h=>by simp[v']at h;simp[h]
 |x::r,b,h=>by
  simp only[v',bind,bf]at h;obtain⟨a,d,k,j,h⟩:=h;obtain⟨h1,i⟩:=HL j;simp at h;subst h;refine⟨λy c=>?_,λf=>?_⟩
  . rcases e2.1 c with rfl|c
    . exact⟨a,d,λh=>by simp[h]⟩
    . obtain⟨bX,g1,g2⟩:=h1 y c;exact⟨bX,g1,λh=>by simp[g2 h]⟩
  . have e:=f x (by simp);rw[d]at e;cases e;rw[i λy c=>f y (by simp[c])];rfl
def lT(l:List cQ):List (Int×Int):=l.foldl (λks x=>mV ks (x.eP,x.dI)) []
theorem Xl{x y:Int×Int}:hY (mV ks x) y=(hY ks y||decide (x=y)):=by
 unfold mV;split
 . rename_i h;by_cases a:x=y
   . subst a;simp[h]
   . simp[a]
 . simp[hY]
theorem Xm(l:List cQ)(x:cQ):lT (l++[x])=mV (lT l) (x.eP,x.dI):=by simp[lT]
theorem GI{y:cQ}(l:List cQ):iu (lT l) y=l.any λz=>(fy y.eP z.eP&&(fy y.dI z.dI&&true)):=by
 have key:∀(l:List cQ) (ks:List (Int×Int)),iu (l.foldl (λks x=>mV ks (x.eP,x.dI)) ks) y=(iu ks y||l.any λz=>(fy y.eP z.eP&&(fy y.dI z.dI&&true))):=by
  intro l;induction l with
  |nil=>simp
  |cons x l ih=>
   intro ks;rw[List.foldl_cons,ih];unfold iu;rw[Xl,List.any_cons,Bool.or_assoc]
   congr 2
   rw[Bool.eq_iff_iff];simp[fy,Prod.ext_iff];constructor<;>rintro ⟨h1,a⟩<;>exact⟨h1.symm,a.symm⟩
 have:=key l [];simpa[iu,hY,lT]using this
theorem Zn{k:Int×Int}(l:List cQ)(h:k∈lT l):∃x,x∈l/\k=(x.eP,x.dI):=by
 have:iu (lT l) ⟨k.1,k.2⟩=true:=by
  unfold iu hY;rw[vx];exact⟨k,h,by simp⟩
 rw[GI,vx]at this;obtain⟨z,a,h⟩:=this;simp[fy]at h;exact⟨z,a,Prod.ext h.1 h.2⟩
theorem Xn(h:iT ks es){k:Int×Int}(c:k∈ks):∃e,e∈es/\e.key=d' k:=by
 obtain⟨i,b⟩:=DR.1 c;obtain⟨e,h1,a⟩:=h.get b;exact⟨e,e7 h1,a.1⟩
theorem Zo(h:iT ks es){e:MapEntry}(he:e∈es):∃k,k∈ks/\e.key=d' k/\e.val= .bool true:=by
 induction h with
 |nil=>simp at he
 |cons h1 _ ih=>
  rcases e2.1 he with rfl|he
  . exact⟨_,by simp,h1⟩
  . obtain⟨k,a,h⟩:=ih he;exact⟨k,by simp[a],h⟩
section
variable {l':dZ->Option Bool}{th:List cQ×cQ->Option Bool}{tu:ie->Option cQ}{nY nZ:ie×cQ->Option Bool}{q9:ie×cQ->Option (List cQ)}
theorem abd (aR:fc prog ((aV 37 [.row 12] (aa .bool)).s (U:=cn) l'))(bB:fc prog ((aV 38 [aa (aw 5),.row 5] (aa .bool)).s (U:=cn) th))(bC:fc prog ((aV 39 [.row 13] (.row 5)).s (U:=cn) tu))
 (aO:fc prog ((aV 40 [.row 13,.row 5] (aa .bool)).s (U:=cn) nY))(aP:fc prog ((aV 41 [.row 13,.row 5] (aa .bool)).s (U:=cn) nZ))(cm:fc prog ((aV 43 [.row 13,.row 5] (aa (aw 5))).s (U:=cn) q9)):
 fc prog ((aV 13 [.row 12,.row 12,aa (aw 5)] (aa .bool)).s (U:=cn) (OM l' th tu nY nZ q9)):=by
 refine .hand (by kernel_rfl) ?_
 rintro ⟨rw,B,b3⟩ b bI φ S w dr vs cI aD cM cr
 obtain⟨l,rfl⟩:∃l:List cQ,l=b3:=⟨b3,rfl⟩
 refine calls_of_wp func13 rfl ?_;have ch:=cy.enter (U:=cn) (gs:=[]) (N:=0) (nt:=61) aD cM cr cI (by rw[<-aD.length];exact sS rfl) (by simp);have X:∀{gs:aW} {s:v8 cn} {bn:cZ} {aH:c0} {a1:Act} {au:World} (T:cy ⟨w,S,λ_=>False,φ,0⟩ 61 gs s bn aH a1 au),aT s.1 6=some (.c (.t ⟨.bool,b⟩))->bodyPost prog f13 (λe w'=>∃bd,e= .returned (.bool b)/\n2 S w bd w') .ret a1 au:=
  λT a7=>T.ret rfl a7 λy D=>⟨_,by cases D;rfl,T.ext,T.st⟩
 refine wp_seq (ch.gm 0 [bw .normal [(2,aa (aw 5)),(3,ar 0 0),(4,ar 1 0)] [.ba 12,.ba 12]] (o:=(l,rw,B)) .n (by kernel_rfl) λbn aH a1 au J cV=>?_);obtain⟨c6,h1,bI⟩:=kI.1 bI;cases c6 with
 |false=>
  cases bI;refine wp_seq (J.gm 0 [bw .ret [(6,aa .bool)],bw .normal [(2,aa (aw 5)),(3,ar 0 0),(4,ar 1 0)] [.ba 12,.ba 12]] (o:= .inl false) (.k aR .n) ((show _=(l' rw>>=λA=>(if !(!A) then l' B else some false)>>=λG=>if(bif (!A)then true else(!G)) then some (Sum.inl false)else some (Sum.inr (l,rw,B))) by kernel_rfl).trans (by rw[h1];rfl)) λb' bp a2 O L b4=>X L rfl)
 |true=>
 obtain⟨c7,ag,bI⟩:=kI.1 bI;cases c7 with
 |false=>
  cases bI;refine wp_seq (J.gm 0 [bw .ret [(6,aa .bool)],bw .normal [(2,aa (aw 5)),(3,ar 0 0),(4,ar 1 0)] [.ba 12,.ba 12]] (o:= .inl false) (.k aR .n) ((show _=(l' rw>>=λA=>(if !(!A) then l' B else some false)>>=λG=>if(bif (!A)then true else(!G)) then some (Sum.inl false)else some (Sum.inr (l,rw,B))) by kernel_rfl).trans (by rw[h1];simp[ag];rfl)) λb' bp a2 O L b4=>X L rfl)
 |true=>
 refine wp_seq (J.gm 0 [bw .ret [(6,aa .bool)],bw .normal [(2,aa (aw 5)),(3,ar 0 0),(4,ar 1 0)] [.ba 12,.ba 12]] (o:= .inr (l,rw,B)) (.k aR .n) ((show _=(l' rw>>=λA=>(if !(!A) then l' B else some false)>>=λG=>if(bif (!A)then true else(!G)) then some (Sum.inl false)else some (Sum.inr (l,rw,B))) by kernel_rfl).trans (by rw[h1];simp[ag];rfl)) λb' bp a2 O L b4=>?_);refine wp_seq (L.gm 0 [bw .normal [(2,aa (aw 5)),(7,ar 0 0)] [.ba 13]] (o:=(l,(⟨rw,B⟩:ie))) .n (by kernel_rfl) λdd cf a3 b7 W cT=>?_);obtain⟨q,aA,bI⟩:=kI.1 bI;obtain⟨c8,aB,bI⟩:=kI.1 bI;cases c8 with
 |false=>
  cases bI;refine wp_seq (W.gm 0 [bw .ret [(6,aa .bool)],bw .normal [(2,aa (aw 5)),(7,ar 0 0)] [.ba 13]] (o:= .inl false) (.k bC (.k bB .n)) ((show _=(tu ⟨rw,B⟩>>=λq=>th (l,q)>>=λc=>if !c then some (Sum.inl false)else some (Sum.inr (l,(⟨rw,B⟩:ie)))) by kernel_rfl).trans (by rw[aA];simp[aB];rfl)) λax aJ a4 bl M V=>X M rfl)
 |true=>
 refine wp_seq (W.gm 0 [bw .ret [(6,aa .bool)],bw .normal [(2,aa (aw 5)),(7,ar 0 0)] [.ba 13]] (o:= .inr (l,(⟨rw,B⟩:ie))) (.k bC (.k bB .n)) ((show _=(tu ⟨rw,B⟩>>=λq=>th (l,q)>>=λc=>if !c then some (Sum.inl false)else some (Sum.inr (l,(⟨rw,B⟩:ie)))) by kernel_rfl).trans (by rw[aA];simp[aB];rfl)) λax aJ a4 bl M V=>?_);obtain⟨cp,cK⟩:=HL bI;clear bI;generalize aj:(⟨rw,B⟩:ie)=p at*;refine wp_seq (oV [0,1,2,3,4] ?_);refine M.op 0 0 2 [(2,aa (aw 5)),(7,ar 0 0),(29,aa ab)] [.ba 13] (h:=(l,(l.length:Int),p)) .n (by kernel_rfl) λdy di a5 C al eO=>?_;refine nO rfl rfl rfl (adW rfl AK (fQ (al.int (k:=29) rfl))) ?_;have ae:=(al.new (.map #[] 0)).put (d:=30) (x:= .map (some C.heap.size)) (v:= .c (.mp 1)) (.c (.mp 1)) (.c (by show _=Value.map (some _);simp[eA]));refine nO rfl rfl rfl (abo rfl (z:= .map none) (by kernel_rfl) rfl) ?_
 have H:=(ae.new (.cells #[.map none] 85 (0,0))).put (d:=8) (x:= .pointer (some ⟨(C.alloc (.map #[] 0)).heap.size,0,none⟩)) (v:= .c (.ptr 2 0)) (.c (.ptr 2 0)) (.c (by show _=Value.pointer _;simp[eA]));have ak:C.heap.size+1=(C.alloc (.map #[] 0)).heap.size:=by simp
 refine adS rfl rfl rfl rfl (by kernel_rfl) (b:=(C.alloc (.map #[] 0)).heap.size) (u:= .map none) (E:=85) (v:= .map (some C.heap.size)) (fQ ((H.ptr (k:=8) rfl).trans (by simp[eA]))) (fQ ((H.mp (k:=30) rfl).trans (by simp[eA]))) rfl rfl Shv.heap_alloc_new ?_;intro bm cU cW cX cY b5 bj;have bb:w.heap.size<=C.heap.size:=al.ext.size;have I:=H.write (w':=bm) (g:=(C.alloc (.map #[] 0)).heap.size) (by simp) (by rw[<-ak];exact Nat.le_succ_of_le bb) cU cW cX cY bj;have ao:bm.heap[C.heap.size]?=some (.map #[] 0):=by
  rw[bj _ (by rw[<-ak];omega),ru (by simp)];exact Shv.heap_alloc_new
 obtain⟨de,cg,P,_⟩:=I.goto 0 (sh:=⟨[(2,aa (aw 5)),(7,ar 1 0),(8,ar 0 0)],[.gone,.ba 13]⟩) (ts:=[aw 5,.nm 13]) (h:=(l,p)) (by kernel_rfl);have aC:(de 0).1=(C.alloc (.map #[] 0)).heap.size:=by
  have aK:=P.ptr (k:=8) rfl;have am:=I.ptr (k:=8) rfl;rw[aK]at am;simpa[eA]using am
 have du:w.heap.size<=(C.alloc (.map #[] 0)).heap.size:=by rw[<-ak];exact Nat.le_succ_of_le bb
 have cH:C.heap.size≠(C.alloc (.map #[] 0)).heap.size:=by rw[<-ak];omega
 clear H I ae ak bj;generalize (C.alloc (.map #[] 0)).heap.size=g at*;generalize C.heap.size=j at*;refine wp_seq (wp_seq (P.gm 1 [bw .normal [(2,aa (aw 5)),(7,ar 1 0),(8,ar 0 0),(31,aa (aw 5)),(32,aa ab),(33,aa ab)] [.gone,.ba 13]] (o:=(l,l,(l.length:Int),(0:Int),p)) .n (by kernel_rfl) λaG ay br b6 Z Q=>?_));refine wp_block (BC ?_);refine(show(∀(n i:Nat),i+n=l.length->∀bc bd bX w' es ct,cy ⟨w,S,λ_=>False,φ,0⟩ 61 [g,j] (fi (U:=cn) [bw .normal [(2,aa (aw 5)),(7,ar 1 0),(8,ar 0 0),(31,aa (aw 5)),(32,aa ab),(33,aa ab)] [.gone,.ba 13]] (l,l,(l.length:Int),(i:Int),p)).2 bc bd bX w'->(bc 0).1=g->w'.heap[g]?=some (.cells #[.map (some j)] 85 (0,0))->w'.heap[j]?=some (.map es ct)->iT (lT (l.take i)) es.toList->nv es.toList ct->tc prog _ _ bX w')from ?_)
  l.length 0 (by simp) aG ay br b6 #[] 0 Z ((Q.fix 0 (by decide)).symm▸aC) ((Q.aj g (by simp)).trans b5) ((Q.aj j (by simp)).trans ao) .nil ⟨by simp,by simp⟩
 clear P Q Z b5 ao aC;intro n;induction n with
 |succ n ih=>
  intro i cx da cc cj c2 es ct aL aN aY a9 ah an;have bQ:i<l.length:=by omega
  refine ux (wp_seq (aL.gm 1 [bw .normal [(2,aa (aw 5)),(7,ar 1 0),(8,ar 0 0),(31,aa (aw 5)),(32,aa ab),(33,aa ab),(34,aa .bool)] [.gone,.ba 13]] (o:=(l,l,(l.length:Int),(i:Int),decide ((i:Int)<l.length),p)) .n (by kernel_rfl) λb9 cd ck r F R=>?_));refine wp_seq (wp_cond_true ((fQ (F.bool (k:=34) rfl)).trans (by simp;omega)) (wp_skip ?_));refine wp_seq (wp_block (wp_seq ?_));refine F.gm 1 [bw .normal [(2,aa (aw 5)),(7,ar 1 0),(8,ar 0 0),(31,aa (aw 5)),(32,aa ab),(33,aa ab),(10,ar 2 0)] [.gone,.ba 13,.ba 5]] (o:=(l,l,(l.length:Int),(i:Int),p,l.getD (Int.toNat i) k8)) .n ((show _=(if aI (i:Int) (List.length l) then some _ else none) by kernel_rfl).trans (af (by simp[aI];omega))) λdb df dl dv ai bh=>?_;have bz:(db 0).1=g:=by rw[bh.fix 0 (by decide),R.fix 0 (by decide)];exact aN
  have bH:=(bh.aj g (by simp)).trans ((R.aj g (by simp)).trans aY);have cE:=(bh.aj j (by simp)).trans ((R.aj j (by simp)).trans a9);refine oV [0,1,2] ?_;refine nO rfl rfl rfl (ld1 rfl (by kernel_rfl) (fQ ((ai.ptr (k:=8) rfl).trans (by rw[bz]))) bH (off:=0) rfl) ?_;have ad:=(ai.num j).put (d:=37) (x:= .map (some j)) (v:= .c (.mp 3)) (.c (.mp 3)) (.c (by show _=Value.map _;simp[eA]));refine ad.op 4 1 1 [(2,aa (aw 5)),(7,ar 1 0),(8,ar 0 0),(31,aa (aw 5)),(32,aa ab),(33,aa ab),(37,.c (.mp 3)),(38,.row 5)] [.gone,.ba 13,.ba 5,.gone] (h:=(l,l,(l.length:Int),(i:Int),l.getD (Int.toNat i) k8,p,l.getD (Int.toNat i) k8)) .n (by kernel_rfl) λav bo dn bk K aF=>?_;have az:(av 0).1=g:=by rw[aF.fix 0 (by decide)];simpa[eA]using bz
  refine adT rfl rfl rfl rfl AK (fQ ((K.mp (k:=37) rfl).trans (by rw[aF.fix 3 (by decide)];simp[eA]))) (fQ (K.pair (k:=38) rfl)) rfl ((aF.aj j (by simp)).trans cE) ah an λbv bt bV cq=>?_;have ci:=K.write (w':={bk with heap:=bk.heap.setIfInBounds j (.map bv bt)}) (g:=j) (by simp) bb rfl rfl rfl (by simp) (λb aS=>by simp[yb,dx aS]);have aE:j<bk.heap.size:=(K.ea j (by simp)).1;refine ci.gm 1 [bw .normal [(2,aa (aw 5)),(7,ar 1 0),(8,ar 0 0),(31,aa (aw 5)),(32,aa ab),(33,aa ab)] [.gone,.ba 13]] (o:=(l,l,(l.length:Int),aQ .i64 (i:Int) 1,p)) .n (by kernel_rfl) λdc ce cl c3 aM bi=>?_;have aD:aQ .i64 (i:Int) 1=((i+1:Nat):Int):=by
   have aC:List.length l<=dm:=aM.len (k:=2) rfl;unfold dm at aC;have ds:(i:Int)<281474976710656:=(by omega);unfold aQ;rw[IntKind.wrap_i64];omega
  rw[aD]at aM;refine ih (i+1) (by omega) dc ce cl c3 bv bt aM (by rw[bi.fix 0 (by decide)];exact az) ?_ ?_ ?_ cq
  . rw[bi.aj g (by simp)];simp[yb,cH];exact(aF.aj g (by simp)).trans bH
  . rw[bi.aj j (by simp)];simp[yb,aE]
  . rw[List.take_add_one,eF bQ];have e:l.getD (Int.toNat i) k8=l[i]:=(by simp[List.getD,eF bQ]);rw[e]at bV;exact(Xm _ _).symm▸bV
 |zero=>
  intro i cx da cc cj c2 es ct aL aN aY a9 ah an;have cD:l.take i=l:=vp (by omega);rw[cD]at ah;refine ux (wp_seq (aL.gm 1 [bw .normal [(2,aa (aw 5)),(7,ar 1 0),(8,ar 0 0),(34,aa .bool)] [.gone,.ba 13]] (o:=(l,decide ((i:Int)<l.length),p)) .n (by kernel_rfl) λb9 cd ck r F R=>?_));refine wp_seq (wp_cond_false ((fQ (F.bool (k:=34) rfl)).trans (by simp;omega)) (wp_exit ?_));have bx:(b9 0).1=g:=by rw[R.fix 0 (by decide)];exact aN
  have aZ:=(R.aj g (by simp)).trans aY;have a':=(R.aj j (by simp)).trans a9;refine wp_seq (wp_seq (oV [0,1] ?_));refine nO rfl rfl rfl (ld1 rfl (by kernel_rfl) (fQ ((F.ptr (k:=8) rfl).trans (by rw[bx]))) aZ (off:=0) rfl) ?_;have ai:=F.put (d:=40) (x:= .map (some j)) (v:= .c .dead) (.c (.dead .dead)) (.c rfl);refine nO rfl rfl rfl (aei rfl AK (fQ (oW (by rw[F.size];decide))) a') ?_;have ad:=(ai.new (.mapIter (some j) ct #[] ct)).put (d:=41) (x:= .pointer (some ⟨r.heap.size,0,none⟩)) (v:= .c (.ptr 2 0)) (.c (.ptr 2 0)) (.c (by show _=Value.pointer _;simp[eA]));obtain⟨av,bo,K,_⟩:=ad.goto 0 (sh:=⟨[(2,aa (aw 5)),(7,ar 2 0),(8,ar 0 0),(41,ar 1 0)],[.gone,.gone,.ba 13]⟩) (ts:=[aw 5,.nm 13]) (h:=(l,p)) (by kernel_rfl);have bL:=(F.ea g (by simp)).1;have bU:=(F.ea j (by simp)).1;have az:(av 0).1=g:=by
   have aK:=K.ptr (k:=8) rfl;rw[ad.ptr (k:=8) rfl]at aK;simp[eA]at aK;rw[<-aK];exact bx
  have b1:(av 1).1=r.heap.size:=by
   have aK:=K.ptr (k:=41) rfl;rw[ad.ptr (k:=41) rfl]at aK;simp[eA]at aK;exact aK.symm
  have bJ:(r.alloc (.mapIter (some j) ct #[] ct)).heap[g]?=_:=(Shv.ru bL).trans aZ;have bS:(r.alloc (.mapIter (some j) ct #[] ct)).heap[j]?=_:=(Shv.ru bU).trans a';have bO:(r.alloc (.mapIter (some j) ct #[] ct)).heap[r.heap.size]?=_:=Shv.heap_alloc_new;have cN:w.heap.size<=r.heap.size:=F.ext.size;have cw:g≠r.heap.size:=by omega
  have cG:j≠r.heap.size:=by omega
  clear ad ai F R bL bU aZ a';refine wp_block (BC ?_);have cC:∀e,e∈es.toList->∃x,x∈l/\e.key=d' (x.eP,x.dI)/\e.val= .bool true:=λe he=>by
   obtain⟨k,h1,ag,aA⟩:=Zo ah he;obtain⟨x,be,rfl⟩:=Zn l h1;exact⟨x,be,ag,aA⟩
  have c1:∀{x y:cQ},d' (x.eP,x.dI)=d' (y.eP,y.dI)->x=y:=λ{x y} h=>by
   obtain⟨a,b⟩:=x;obtain⟨c,d⟩:=y;simp[d']at h;rw[h.1,h.2]
  refine(λ(key:∀(n:Nat) (seen:Array Nat),(leftOf es seen).size=n->∀bc bd bX w',cy ⟨w,S,λ_=>False,φ,0⟩ 61 [r.heap.size,g,j] (fi (U:=cn) [bw .normal [(2,aa (aw 5)),(7,ar 2 0),(8,ar 0 0),(41,ar 1 0)] [.gone,.gone,.ba 13]] (l,p)).2 bc bd bX w'->(bc 0).1=g->(bc 1).1=r.heap.size->w'.heap[g]?=some (.cells #[.map (some j)] 85 (0,0))->w'.heap[j]?=some (.map es ct)->w'.heap[r.heap.size]?=some (.mapIter (some j) ct seen ct)->(∀e,e∈es.toList->seen.contains e.born=true->∀x:cQ,e.key=d' (x.eP,x.dI)->ON nY nZ q9 p l x=some true)->tc prog _ _ bX w')=>key _ #[] rfl av bo _ _ K az b1 bJ bS bO (by simp)) ?_;clear K az b1 bJ bS bO;intro n;induction n using Nat.strongRecOn with
  |_ n ih=>
  intro seen cJ bn aH a1 au J h1 b0 cs bR cz bE;refine ux (wp_seq (oV [0,1] ?_));refine adR rfl rfl rfl rfl (fQ ((J.ptr (k:=41) rfl).trans (by rw[b0]))) cz bR an (λh0=>?_) λe he O bZ=>?_
  . have L:=J.put (d:=42) (x:= .tuple #[.bool false]) (v:= .a6 [.c (.t ⟨.bool,false⟩)]) (bN.s7 (.cons (.c (.t _)) .nil)) (bW.s7 (.cons (.c (bM.bool _)) .nil));refine L.op 2 1 1 [(2,aa (aw 5)),(7,ar 2 0),(8,ar 0 0),(41,ar 1 0),(43,aa .bool)] [.gone,.gone,.ba 13] (h:=(l,false,p)) .n (by kernel_rfl) λdd cf a3 b7 W cT=>?_;refine wp_seq (wp_cond_false (fQ (W.bool (k:=43) rfl)) (wp_exit ?_));have aS:b=true:=cK λx be=>by
     have:iu (lT l) x=true:=by
      rw[GI,vx];exact⟨x,be,by simp[fy]⟩
     unfold iu hY at this;obtain⟨k,a7,a8⟩:=vx.1 this;have a8:=gk a8;obtain⟨e,he,ag⟩:=Xn ah a7;exact bE e he (all_seen es seen h0 e he) x (by rw[ag,a8])
    subst aS;exact W.gm 2 [bw .ret [(6,aa .bool)] [.gone,.gone]] (o:=true) .n (by kernel_rfl) λax aJ a4 bl M V=>X M rfl
  . obtain⟨aX,dt⟩:=mem_left he;obtain⟨x,cO,aU,bG⟩:=cC e aX;rw[aU,bG];have L:=cy.set (q:=r.heap.size) (w:=O) (by rcases bZ with rfl|rfl;exact J;exact J.drew) (.mapIter (some j) ct (seen.push e.born) ct) (by simp) cN;have a0:O.heap=au.heap:=by rcases bZ with rfl|rfl<;>rfl
    have cu:(ChangeMaps.setBlock O r.heap.size (.mapIter (some j) ct (seen.push e.born) ct)).heap[g]?=some (.cells #[.map (some j)] 85 (0,0)):=(Fl cw).trans (a0▸cs);have cF:(ChangeMaps.setBlock O r.heap.size (.mapIter (some j) ct (seen.push e.born) ct)).heap[j]?=some (.map es ct):=(Fl cG).trans (a0▸bR);have cA:(ChangeMaps.setBlock O r.heap.size (.mapIter (some j) ct (seen.push e.born) ct)).heap[r.heap.size]?=some (.mapIter (some j) ct (seen.push e.born) ct):=Wn (by rw[a0];exact(J.ea _ (by simp)).1);generalize ChangeMaps.setBlock O r.heap.size (.mapIter (some j) ct (seen.push e.born) ct)=b7 at*
    have W:=L.put (d:=42) (x:= .tuple #[.bool true,d' (x.eP,x.dI),.bool true]) (v:= .a6 [.c (.t ⟨.bool,true⟩),.agg [.t ⟨.int .i64,x.eP⟩,.t ⟨.int .i64,x.dI⟩],.c (.t ⟨.bool,true⟩)]) (bN.s7 (.cons (.c (.t _)) (.cons (bN.y5 (x.eP,x.dI)) (.cons (.c (.t _)) .nil)))) (bW.s7 (.cons (.c (bM.bool _)) (.cons (bW.y5 (x.eP,x.dI)) (.cons (.c (bM.bool _)) .nil))));refine W.op 2 1 1 [(2,aa (aw 5)),(7,ar 2 0),(8,ar 0 0),(41,ar 1 0),(43,aa .bool)] [.gone,.gone,.ba 13] (h:=(l,true,p)) .n (by kernel_rfl) λax aJ a4 bl M V=>?_;refine wp_seq (wp_cond_true (fQ (M.bool (k:=43) rfl)) (wp_skip ?_));have aB:(ax 0).1=g:=by rw[V.fix 0 (by decide)];exact h1
    have b2:(ax 1).1=r.heap.size:=by rw[V.fix 1 (by decide)];exact b0
    have cv:=(V.aj g (by simp)).trans cu;have bT:=(V.aj j (by simp)).trans cF;have bP:=(V.aj r.heap.size (by simp)).trans cA;refine wp_block (wp_seq (oV [0,1,2,3] ?_));refine nO rfl rfl rfl (adl rfl (fQ ((M.ptr (k:=41) rfl).trans (by rw[b2]))) bP bT aX an) ?_;rw[aU,bG];have al:=M.put (d:=44) (x:= .tuple #[d' (x.eP,x.dI),.bool true]) (v:= .a6 [.agg [.t ⟨.int .i64,x.eP⟩,.t ⟨.int .i64,x.dI⟩],.c (.t ⟨.bool,true⟩)]) (bN.s7 (.cons (bN.y5 (x.eP,x.dI)) (.cons (.c (.t _)) .nil))) (bW.s7 (.cons (bW.y5 (x.eP,x.dI)) (.cons (.c (bM.bool _)) .nil)));refine al.op 2 1 3 [(2,aa (aw 5)),(7,ar 2 0),(8,ar 0 0),(41,ar 1 0),(11,ar 3 0)] [.gone,.gone,.ba 13,.ba 5] (h:=(l,p,x)) .n (by kernel_rfl) λdz dj dp dw ae ap=>?_;obtain⟨y,D,bg⟩:=cp x cO;have cP:=D;obtain⟨c9,aK,D⟩:=kI.1 D;cases c9 with
    |false=>
     cases D;cases bg rfl;refine wp_seq (ae.gm 2 [bw .ret [(6,aa .bool)] [.gone,.gone],bw .normal [(2,aa (aw 5)),(7,ar 2 0),(8,ar 0 0),(41,ar 1 0),(11,ar 3 0)] [.gone,.gone,.ba 13,.ba 5]] (o:= .inl false) (.k aO (.k aP .n)) ((show _=(nY (p,x)>>=λA=>(if !(!A) then nZ (p,x)else some false)>>=λG=>if(bif (!A)then true else(!G)) then some (Sum.inl false)else some (Sum.inr (l,p,x))) by kernel_rfl).trans (by rw[aK];rfl)) λca bq bs b8 H Y=>?_);exact X H rfl
    |true=>
    obtain⟨c',am,D⟩:=kI.1 D;cases c' with
    |false=>
     cases D;cases bg rfl;refine wp_seq (ae.gm 2 [bw .ret [(6,aa .bool)] [.gone,.gone],bw .normal [(2,aa (aw 5)),(7,ar 2 0),(8,ar 0 0),(41,ar 1 0),(11,ar 3 0)] [.gone,.gone,.ba 13,.ba 5]] (o:= .inl false) (.k aO (.k aP .n)) ((show _=(nY (p,x)>>=λA=>(if !(!A) then nZ (p,x)else some false)>>=λG=>if(bif (!A)then true else(!G)) then some (Sum.inl false)else some (Sum.inr (l,p,x))) by kernel_rfl).trans (by rw[aK];simp[am];rfl)) λca bq bs b8 H Y=>?_);exact X H rfl
    |true=>
    obtain⟨m,dD,D⟩:=kI.1 D;refine wp_seq (ae.gm 2 [bw .ret [(6,aa .bool)] [.gone,.gone],bw .normal [(2,aa (aw 5)),(7,ar 2 0),(8,ar 0 0),(41,ar 1 0),(11,ar 3 0)] [.gone,.gone,.ba 13,.ba 5]] (o:= .inr (l,p,x)) (.k aO (.k aP .n)) ((show _=(nY (p,x)>>=λA=>(if !(!A) then nZ (p,x)else some false)>>=λG=>if(bif (!A)then true else(!G)) then some (Sum.inl false)else some (Sum.inr (l,p,x))) by kernel_rfl).trans (by rw[aK];simp[am];rfl)) λca bq bs b8 H Y=>?_);refine wp_seq (oV [0,1,2,3,4] ?_);refine H.op 2 0 4 [(2,aa (aw 5)),(7,ar 2 0),(8,ar 0 0),(41,ar 1 0),(58,aa (aw 5)),(59,.c (.fn 44 [0]))] [.gone,.gone,.ba 13] (h:=(l,m,p)) (.k cm .n) ((show _=(q9 (p,x)>>=λm=>some (l,m,p)) by kernel_rfl).trans (by rw[dD];rfl)) λcb dk dq bm I aq=>?_;have bA:(cb 0).1=g:=by rw[aq.fix 0 (by decide),Y.fix 0 (by decide),ap.fix 0 (by decide)];exact aB
    have cR:(cb 1).1=r.heap.size:=by rw[aq.fix 1 (by decide),Y.fix 1 (by decide),ap.fix 1 (by decide)];exact b2
    have bK:=(aq.aj g (by simp)).trans ((Y.aj g (by simp)).trans ((ap.aj g (by simp)).trans cv));have ao:=(aq.aj j (by simp)).trans ((Y.aj j (by simp)).trans ((ap.aj j (by simp)).trans bT));have cB:=(aq.aj r.heap.size (by simp)).trans ((Y.aj r.heap.size (by simp)).trans ((ap.aj r.heap.size (by simp)).trans bP));obtain⟨u,cS,cL⟩:=I.cell (k:=58) rfl;refine DF rfl rfl rfl (sJ rfl rfl (f:=42) (caps:=[]) rfl (by kernel_rfl)) (args:=#[u,.func (.func 44) #[] #[.pointer (some ⟨g,0,none⟩)]]) ?_ ?_
    . simp[fQ cS,fQ (I.fn (k:=59) rfl),bA]
    refine(RN m ⟨I.st,⟨_,bK⟩,⟨_,_,ao,ah⟩,(I.ea g (by simp)).2,(I.ea j (by simp)).2⟩ cL).mono ?_
    rintro dh c4 ⟨cg,rfl,gi⟩
    refine⟨_,rfl,?_⟩;have P:=(I.extend gi.1 gi.2).put (d:=60) (x:= .bool (m.any λx=>!iu (lT l) x)) (v:= .c (.t ⟨.bool,m.any λx=>!iu (lT l) x⟩)) (.c (.t _)) (.c (bM.bool _));have bD:(m.any λx=>!iu (lT l) x)=!y:=by
     cases D;rw[List.not_all_eq_any_not]
     congr 1
     funext y
     rw[GI]
    cases y with
    |false=>
     cases bg rfl;refine wp_cond_true ((fQ (P.bool (k:=60) rfl)).trans (by rw[bD];rfl)) ?_;refine P.gm 2 [bw .ret [(6,aa .bool)] [.gone,.gone]] (o:=false) .n (by kernel_rfl) λaG ay br b6 Z Q=>?_;exact X Z rfl
    |true=>
     refine wp_cond_false ((fQ (P.bool (k:=60) rfl)).trans (by rw[bD];rfl)) (wp_skip ?_);obtain⟨aG,ay,Z,Q⟩:=P.goto 2 (sh:=⟨[(2,aa (aw 5)),(7,ar 2 0),(8,ar 0 0),(41,ar 1 0)],[.gone,.gone,.ba 13]⟩) (ts:=[aw 5,.nm 13]) (h:=(l,p)) (by kernel_rfl);refine ih _ (by rw[<-cJ];exact left_shrinks es seen e he) (seen.push e.born) rfl aG ay _ c4 Z (by rw[Q.fix 0 (by decide)];exact bA) (by rw[Q.fix 1 (by decide)];exact cR) (gi.heap bK) (gi.heap ao) (gi.heap cB) λbu bF bY c5 bf=>?_;rw[contains_push]at bY;rcases lV _ _▸bY with h|h
     . exact bE bu bF h c5 bf
     . have:bu=e:=born_inj an.2 bF aX (ix.1 h);subst this;rw[aU]at bf;rw[<-c1 bf];exact cP
end
abbrev bm(e:et)(F:aJ cn.D e.ts->Option (aJ cn.D e.us)):Prop:=fc prog (e.s F)
abbrev cS(f kk:Nat)(p:aW)(e:gn)(F:aJ cn.D e.ts->Option (ej cn e.outs)):Prop:=mS prog f kk p e F
abbrev Mh(e:et):Prop:=h9 prog e
abbrev eM(e:et):aJ cn.D e.ts->aJ cn.D e.us->Prop:=zD prog cn e
abbrev eX(f kk:Nat)(p:aW)(e:gn):aJ cn.D e.ts->ej cn e.outs->Prop:=vX prog cn f kk p e
abbrev eQ(e:et)(F:aJ cn.D e.ts->Option (aJ cn.D e.us)):Prop:=∀h r,F h=some r->eM e h r
abbrev eY(f kk:Nat)(p:aW)(e:gn)(F:aJ cn.D e.ts->Option (ej cn e.outs)):Prop:=∀h r,F h=some r->eX f kk p e h r
theorem eT{e:et}{h:aJ cn.D e.ts}{r:aJ cn.D e.us}{x:Option (aJ cn.D e.us)}(h0:x=some r)(b:h8 prog fs:=by exact .n){a:List (Nat×gY cn)}(ad:jo prog e.f e.st.length [] a:=by exact .n)(k:Mh e:=by exact .m (by kernel_rfl))(c:pB (gQ fs) (kH a) prog e h=x:=by kernel_rfl):eM e h r:= .at k b ad (c.trans h0)
theorem fa(e:gn){F:aJ cn.D e.ts->Option (ej cn e.outs)}(bI:eY f kk p e F){h:aJ cn.D e.ts}{o:ej cn e.outs}{x:Option (ej cn e.outs)}(h0:x=some o)(b:h8 prog fs:=by exact .n){a:List (Nat×gY cn)}(ad:jo prog f kk p a:=by exact .n)(c:qK (gQ fs) (kH a) kk (pw prog f p) e F h=x:=by kernel_rfl):eX f kk p e h o:= .at bI b ad (c.trans h0)
theorem cC(e:et){F:aJ cn.D e.ts->Option (aJ cn.D e.us)}(h:eQ e F)(k:Mh e:=by exact .m (by kernel_rfl)):bm e F:= .of k h
theorem fb(e:gn){F:aJ cn.D e.ts->Option (ej cn e.outs)}(h:eY f kk p e F):cS f kk p e F:= .of h
def acR:=aV 82 [.row 1,aa ab] (aa ab)
def acS:=aV 83 [aa ab] (aa .bool)
def acT:=aV 84 [.row 2] (aa ab)
def acU:=aV 85 [.row 2] (aa ab)
def NN:=bQ 0 [(1,ar 0 0),(3,.c (.arr 1)),(4,aa ab)] [.ba 2,.arr ab] [bw (.exit 0) [(3,.c (.arr 0))] [.arr ab]] [] [(.slot 3,ab)]
def acV:=aV 86 [.row 2] (aa cJ) [NN]
def ab':=aV 196 [aa ab] (aa .bool)
def KG:=bQ 0 [(3,ar 0 0),(7,aa ab),(9,aa ab)] [cg (aw 2)] [eI 6 ab,gj 0]
def abX:=aV 138 [.row 1,aa ab,aa (.int .u8)] (aa ab) [KG]
def abZ:=aV 140 [aa ab] (aa .bool)
def NP:=bQ 0 [(1,aa (.int .u8)),(2,ar 0 0),(5,aa ab),(6,aa ab)] [cg (aw 2)] [eI 4 ab,gj 0]
def acX:=aV 88 [.row 1,aa (.int .u8)] (aa ab) [NP]
def abY:=aV 139 [.row 1,aa ab,aa (.int .u8)] (.a6 [.row 9,aa .bool])
def KO:=bQ 0 [(1,aa ab),(2,aa .bool),(3,ar 0 0),(7,ar 1 0),(8,.c (.arr 2)),(9,aa ab),(10,aa ab)] [cg (aw 2),.ba 2,.arr (.nm 8)] [bw (.exit 2) [(1,aa ab),(2,aa .bool),(3,ar 0 0),(7,ar 1 0),(8,.c (.arr 2)),(9,aa ab)] [cg (aw 2),.ba 2,.arr (.nm 8)]]
def NO:=bQ 0 [(1,aa ab),(2,aa .bool),(3,ar 0 0),(7,ar 1 0),(8,.c (.arr 2)),(9,aa ab)] [cg (aw 2),.ba 2,.arr (.nm 8)] [bw (.exit 0) [(8,.c (.arr 0))] [.arr (.nm 8)]] [KO] [(.slot 8,.nm 8)]
def acW:=aV 87 [.row 1,aa ab,aa .bool] (aa (aw 8)) [NO]
def KP:=bQ 0 [(1,ar 0 0),(2,ar 1 0),(4,aa ab),(5,ar 2 0),(6,aa ab),(8,ar 3 0),(9,aa cJ),(10,aa ab)] [cg (aw 2),.box [.aL],.box [.arr 4],.box [.hole ab,.hole .str,.hole ab,.hole ab,.hole ab,.arr 5,.aL,.hole ab,.hole ab,.hole .bool],.arr (.nm 6),.arr (.nm 7)] [bw (.exit 3) [(1,ar 0 0),(2,ar 1 0),(4,aa ab),(5,ar 2 0),(6,aa ab),(8,ar 3 0)] [cg (aw 2),.box [.aL],.box [.arr 4],.box [.hole ab,.hole .str,.hole ab,.hole ab,.hole ab,.arr 5,.aL,.hole ab,.hole ab,.hole .bool],.arr (.nm 6),.arr (.nm 7)]] [] [(.via 8 5,.nm 7)]
def Ny:=bQ 0 [(1,ar 0 0),(2,ar 1 0),(4,aa ab),(5,ar 2 0),(6,aa ab)] [cg (aw 2),.box [.aL],.box [.arr 3],.arr (.nm 6)] [bw (.exit 0) [(2,ar 0 0),(5,ar 1 0)] [.box [.aL],.box [.arr 2],.arr (.nm 6)]] [KP] [(.via 5 0,.nm 6)]
def acF:=aV 34 [.row 1] (.a6 [.row 11,aa .bool]) [Ny]
def Nz:=bQ 0 [(1,aa (aw 4)),(4,ar 0 0),(5,ar 1 0),(6,aa ab)] [.box [.aL],.box [.arr 2],.arr (.nm 2)] [bw (.exit 0) [(4,ar 0 0),(5,ar 1 0)] [.box [.aL],.box [.arr 2],.arr (.nm 2)]]
def acG:=aV 35 [.row 1,aa (aw 4)] (.row 1) [Nz]
def NA:=aV 36 [aa ab] (.row 12)
def J9:=bQ 0 [(0,aa (aw 7)),(1,aa (aw 7)),(12,aa ab),(13,aa ab)] [] [eI 4 .bool,gj 0]
def Ns:=aV 324 [aa (aw 7),aa (aw 7)] (aa .bool) [J9]
def Ka:=bQ 0 [(0,aa (aw 10)),(1,aa (aw 10)),(12,aa ab),(13,aa ab)] [] [eI 4 .bool,gj 0]
def Nn:=aV 316 [aa (aw 10),aa (aw 10)] (aa .bool) [Ka]
def xV:=bQ 0 [(1,aa (aw 9)),(2,.c (.fn 327 [])),(15,aa (aw 9)),(16,aa ab),(17,aa ab)] [] [eI 6 .bool,gj 0]
def Cs:=aV 317 [aa (aw 9),aa (aw 9),.c (.fn 327 [])] (aa .bool) [xV]
def wq:=aV 327 [.row 9,.row 9] (aa .bool)
def Nu:=aV 326 [.row 8,.row 8] (aa .bool)
def Kb:=bQ 0 [(1,aa (aw 8)),(2,.c (.fn 326 [])),(15,aa (aw 8)),(16,aa ab),(17,aa ab)] [] [eI 6 .bool,gj 0]
def Nt:=aV 325 [aa (aw 8),aa (aw 8),.c (.fn 326 [])] (aa .bool) [Kb]
def Na:=aV 278 [.row 6,.row 6] (aa .bool)
def No:=aV 320 [aa (.int .u8)] (aa .bool)
def Np:=aV 321 [aa (.int .u8)] (aa .bool)
def Kc:=bQ 0 [(0,aa .str),(18,aa ab),(19,aa ab)] [] [eI 2 .bool,gj 0]
def M8:=aV 275 [aa .str] (aa .bool) [Kc]
def Kd:=bQ 0 [(0,aa cJ),(1,aa pz),(5,.c (.mp 0)),(9,aa cJ),(10,aa ab),(11,aa ab)] [.set] [eI 4 .bool,bw (.exit 0) [(0,aa cJ)]]
def Nq:=aV 322 [aa cJ,aa pz] (aa .bool) [Kd]
def Ke:=bQ 0 [(0,aa (aw 7)),(3,.c (.arr 0)),(4,.c (.arr 1)),(7,aa (aw 7)),(8,aa ab),(9,aa ab)] [.arr ab,.arr .str] [bw (.exit 0) [(0,aa (aw 7)),(3,.c (.arr 0)),(4,.c (.arr 1))] [.arr ab,.arr .str]] [] [(.slot 3,ab),(.slot 4,.str)]
def M9:=aV 276 [aa (aw 7)] (aa .bool) [Ke]
def Nr:=aV 323 [.row 9] (aa .bool)
def Kf:=bQ 0 [(1,ar 0 0),(3,.c (.arr 1)),(4,.c (.arr 2)),(8,aa (aw 8)),(9,aa ab),(10,aa ab)] [.ba 6,.arr ab,.arr .str] [eI 2 .bool,bw (.exit 0) [(1,ar 0 0),(3,.c (.arr 1)),(4,.c (.arr 2))] [.ba 6,.arr ab,.arr .str]] [] [(.slot 3,ab),(.slot 4,.str)]
def M':=aV 277 [.row 6] (aa .bool) [Kf]
def MM:=aV 206 [.row 6] (aa .bool)
def Kg:=bQ 0 [(1,ar 0 0),(3,.c (.arr 1)),(7,aa (aw 8)),(8,aa ab),(9,aa ab)] [.ba 6,.arr ab] [bw (.exit 0) [(1,ar 0 0),(3,.c (.arr 1))] [.ba 6,.arr ab]] [] [(.slot 3,ab)]
def MN:=aV 207 [.row 6] (aa cJ) [Kg]
def IH:=bQ 0 [(1,ar 0 0),(3,.c (.mp 1)),(5,ar 2 0),(14,aa (aw 6)),(15,aa ab),(16,aa ab),(38,aa cJ),(39,aa ab),(40,aa ab)] [cg (aw 6),.set,.box [.hole ab,.hole .str,.hole ab,.hole ab,.hole ab,.hole (aw 7),.hole (aw 8),.hole ab,.hole ab,.hole .bool]] [eI 2 ab,bw (.exit 2) [(1,ar 0 0),(3,.c (.mp 1)),(5,ar 2 0),(14,aa (aw 6)),(15,aa ab),(16,aa ab)] [cg (aw 6),.set,.box [.hole ab,.hole .str,.hole ab,.hole ab,.hole ab,.hole (aw 7),.hole (aw 8),.hole ab,.hole ab,.hole .bool]]]
def Kh:=bQ 0 [(1,ar 0 0),(3,.c (.mp 1)),(14,aa (aw 6)),(15,aa ab),(16,aa ab)] [cg (aw 6),.set] [eI 2 ab,gj 0] [IH]
def Mx:=aV 147 [.row 11] (aa ab) [Kh]
def MR:=aV 216 [.row 9] (.row 9)
def My:=aV 149 [.row 9] (aa .bool)
def MT:=aV 218 [.row 7,ar 0 0] (aa .bool) [] [cg ab] [cg ab]
def Ki:=bQ 0 [(0,aa (aw 7)),(1,.c (.fn 218 [0])),(7,aa ab),(8,aa ab)] [cg ab] [bw .ret [(4,aa ab)] [cg ab],bw (.exit 0) [] [cg ab]]
def MS:=aV 217 [aa (aw 7),.c (.fn 218 [0])] (aa ab) [Ki] [cg ab] [cg ab]
def Mz:=aV 150 [.row 6,aa ab] (.a6 [aa ab,aa .bool])
def MA:=aV 151 [aa ab] (aa .bool)
def MV:=aV 220 [.row 8,ar 0 0] (aa .bool) [] [cg ab] [cg ab]
def Lz:=bQ 0 [(0,aa (aw 8)),(1,.c (.fn 220 [0])),(7,aa ab),(8,aa ab)] [cg ab] [bw .ret [(4,aa ab)] [cg ab],bw (.exit 0) [] [cg ab]]
def MU:=aV 219 [aa (aw 8),.c (.fn 220 [0])] (aa ab) [Lz] [cg ab] [cg ab]
def MB:=aV 152 [.row 6,aa ab] (.a6 [aa ab,aa .bool])
def Ad:=aV 222 [.row 9,ar 0 0,ar 1 0,ar 2 0] (aa .bool) [] [cg (aw 6),cg ab,cg .bool] [cg (aw 6),cg ab,cg .bool]
def yE:=bQ 0 [(0,aa (aw 9)),(1,.c (.fn 222 [0,1,2])),(7,aa ab),(8,aa ab)] [cg (aw 6),cg ab,cg .bool] [bw .ret [(4,aa ab)] [cg (aw 6),cg ab,cg .bool],bw (.exit 0) [] [cg (aw 6),cg ab,cg .bool]]
def Ae:=aV 285 [aa (aw 9),.c (.fn 222 [0,1,2])] (aa ab) [yE] [cg (aw 6),cg ab,cg .bool] [cg (aw 6),cg ab,cg .bool]
def Ac:=aV 221 [aa (aw 9),.c (.fn 222 [0,1,2])] (aa .bool) [] [cg (aw 6),cg ab,cg .bool] [cg (aw 6),cg ab,cg .bool]
def zV:=aV 153 [.row 11,aa ab,aa (aw 9),aa .bool] (aa .bool)
def MG:=aV 158 [aa ab] (aa (.int .u64))
def Nh:=aV 286 [aa (.int .u64)] (aa .bool)
def MW:=aV 223 [aa (.int .u64),aa (.int .u64)] (aa ab)
def Ni:=aV 287 [aa ab] (aa .bool)
def MY:=aV 225 [aa ab,aa ab] (aa ab)
def Nj:=aV 288 [aa .str] (aa .bool)
def MZ:=aV 226 [aa .str,aa .str] (aa ab)
def LA:=bQ 0 [(3,aa ab),(6,aa cJ),(7,aa ab),(8,aa ab)] [] [eI 2 ab,bw (.exit 0) [(3,aa ab)]]
def MX:=aV 224 [aa cJ] (aa ab) [LA]
def MC:=aV 154 [.row 9,.row 9] (aa ab)
def LB:=bQ 0 [(3,aa .bool),(4,ar 0 0),(6,ar 1 0),(9,ar 2 0),(111,aa (aw 10)),(112,aa ab),(113,aa ab)] [cg (aw 6),.ba 9,.box [.hole ab,.hole .str,.hole ab,.hole ab,.hole ab,.hole (aw 7),.hole (aw 8),.hole ab,.hole ab,.hole .bool]] [eI 8 .bool,bw (.exit 1) [(3,aa .bool),(4,ar 0 0),(6,ar 1 0),(9,ar 2 0)] [cg (aw 6),.box [.hole ab,.hole .bool,.hole ab,.hole .str,.hole ab,.hole (aw 9),.hole (aw 9),.hole (aw 10)],.box [.hole ab,.hole .str,.hole ab,.hole ab,.hole ab,.hole (aw 7),.hole (aw 8),.hole ab,.hole ab,.hole .bool]]]
def yF:=bQ 1 [(3,aa .bool),(4,ar 0 0),(6,ar 1 0),(150,aa (aw 8)),(151,aa ab),(152,aa ab)] [cg (aw 6),.box [.hole ab,.hole .bool,.hole ab,.hole .str,.hole ab,.hole (aw 9),.hole (aw 9),.hole (aw 10)]] [eI 8 .bool,gj 3]
def LC:=bQ 2 [(3,aa .bool),(4,ar 0 0),(6,ar 1 0),(9,ar 2 0),(20,aa ab)] [cg (aw 6),.ba 9,.box [.hole ab,.hole .str,.hole ab,.hole ab,.hole ab,.hole (aw 7),.hole (aw 8),.hole ab,.hole ab,.hole .bool]] [eI 8 .bool,bw (.exit 5) [(3,aa .bool),(4,ar 0 0),(6,ar 1 0),(9,ar 2 0)] [cg (aw 6),.ba 9,.box [.hole ab,.hole .str,.hole ab,.hole ab,.hole ab,.hole (aw 7),.hole (aw 8),.hole ab,.hole ab,.hole .bool]]]
def rl:=aV 101 [.row 11,aa ab,.row 9,aa .bool] (aa .bool) [LB,yF,LC]
def NI:=aV 54 [.row 11,aa ab,.row 9] (aa .bool)
def II:=bQ 0 [(1,ar 0 0),(6,aa ab),(16,aa (aw 6)),(17,aa ab),(18,aa ab),(24,aa (aw 8)),(25,aa ab),(26,aa ab)] [cg (aw 6)] [bw .ret [(2,aa ab),(3,aa ab),(4,aa ab)],bw (.exit 2) [(1,ar 0 0),(16,aa (aw 6)),(17,aa ab),(18,aa ab)] [cg (aw 6)]]
def LD:=bQ 0 [(1,ar 0 0),(16,aa (aw 6)),(17,aa ab),(18,aa ab)] [cg (aw 6)] [bw .ret [(2,aa ab),(3,aa ab),(4,aa ab)],gj 0] [II]
def M6:=aV 270 [.row 11] (.a6 [aa ab,aa ab,aa ab]) [LD]
def MK:=aV 197 [.row 11] (aa ab)
def LF:=bQ 0 [(1,.c (.arr 0)),(5,aa ab),(33,aa (aw 8)),(34,aa ab),(35,aa ab)] [.arr ab] [bw (.exit 1) [(5,aa ab)] [.arr ab]]
def LG:=bQ 1 [(1,.c (.arr 0)),(8,aa ab),(52,aa (aw 8)),(53,aa ab),(54,aa ab)] [.arr ab] [bw (.exit 3) [(8,aa ab)] [.arr ab]]
def M7:=aV 271 [.row 6,.c (.arr 0)] (aa ab) [LF,LG] [.arr ab] [.arr ab]
def IJ:=bQ 0 [(1,ar 0 0),(3,.c (.arr 1)),(4,aa .bool),(14,aa (aw 6)),(15,aa ab),(16,aa ab)] [cg (aw 6),.arr ab] [bw (.exit 2) [(1,ar 0 0),(3,.c (.arr 1)),(4,aa .bool)] [cg (aw 6),.arr ab]]
def LH:=bQ 0 [(1,ar 0 0),(3,.c (.arr 1)),(4,aa .bool)] [cg (aw 6),.arr ab] [bw (.exit 0) [(3,.c (.arr 0))] [.arr ab]] [IJ]
def ML:=aV 198 [.row 11] (aa cJ) [LH]
def LI:=bQ 0 [(5,.c (.arr 0)),(14,aa cJ),(15,aa ab),(16,aa ab)] [.arr .bool] [bw (.exit 0) [(5,.c (.arr 0))] [.arr .bool]] [] [(.slot 5,.bool)]
def Mw:=aV 141 [.row 11] (.a6 [aa (.slice .bool),aa ab]) [LI]
def NR:=bQ 0 [(15,aa (.slice .bool)),(16,aa ab),(17,aa ab)] [] [eI 2 ab,gj 0]
def NQ:=aV 89 [.row 11] (aa ab) [NR]
def Dp:=aV 37 [.row 12] (aa .bool)
def aar:=bQ 0 [(0,aa (aw 5)),(3,ar 0 0),(7,aa ab),(8,aa ab)] [.ba 5] [eI 4 ab,gj 0]
def acY:=aV 90 [aa (aw 5),.row 5] (aa ab) [aar]
def NB:=aV 38 [aa (aw 5),.row 5] (aa .bool)
def NC:=aV 39 [.row 13] (.row 5)
def ND:=aV 40 [.row 13,.row 5] (aa .bool)
def aca:=aV 199 [.row 11,aa ab] (aa ab)
def ab0:=aV 142 [.row 12,.row 12] (aa ab)
def acb:=aV 200 [.row 6] (aa ab)
def abe:=bQ 0 [(2,ar 0 0),(3,ar 1 0),(16,aa (aw 7)),(17,aa ab),(18,aa ab)] [.ba 6,.ba 6] [eI 4 .bool,bw (.exit 0) [(2,ar 0 0),(3,ar 1 0)] [.ba 6,.ba 6]]
def abf:=bQ 1 [(3,ar 0 0),(33,aa (aw 8)),(34,aa ab),(35,aa ab)] [.ba 6] [eI 4 .bool,gj 2]
def acd:=aV 201 [.row 6,.row 6] (aa .bool) [abe,abf]
def MI:=aV 162 [.row 11,aa ab] (aa ab)
def Mu:=aV 104 [.row 11,aa ab,.row 9,.row 11,aa ab] (aa ab)
def MJ:=aV 163 [ar 0 0] (.a6 [.row 9,aa .bool]) [] [.box [.hole (aw 6),.hole (aw 6),.arr 1,.hole cJ],.arr ab] [.box [.hole (aw 6),.hole (aw 6),.arr 2,.arr 3],.gone,.arr ab,.arr ab]
def M4:=aV 233 [ar 0 0,aa ab] (.a6 [.row 9,aa .bool]) [] [.box [.hole (aw 6),.hole (aw 6),.arr 1,.hole cJ],.arr ab] [.box [.hole (aw 6),.hole (aw 6),.arr 2,.arr 3],.gone,.arr ab,.arr ab]
def yG:=bQ 0 [(1,ar 0 0),(2,ar 1 0),(20,.c (.arr 2)),(21,aa ab),(22,aa ab)] [.box [.hole ab,.hole .bool,.hole ab,.hole .str,.hole ab,.arr 2,.arr 3,.arr 4],.box [.hole ab,.hole .bool,.hole ab,.hole .str,.hole ab,.aL,.aL,.aL],.arr (.nm 9),.arr (.nm 9),.arr (.nm 10)] [bw (.exit 0) [(1,ar 0 0),(2,ar 1 0)] [.box [.hole ab,.hole .bool,.hole ab,.hole .str,.hole ab,.arr 2,.arr 3,.arr 4],.box [.hole ab,.hole .bool,.hole ab,.hole .str,.hole ab,.aL,.aL,.aL],.arr (.nm 9),.arr (.nm 9),.arr (.nm 10)]]
def yH:=bQ 1 [(1,ar 0 0),(2,ar 1 0),(35,.c (.arr 2)),(36,aa ab),(37,aa ab)] [.box [.hole ab,.hole .bool,.hole ab,.hole .str,.hole ab,.arr 3,.arr 2,.arr 4],.box [.hole ab,.hole .bool,.hole ab,.hole .str,.hole ab,.aL,.aL,.aL],.arr (.nm 9),.arr (.nm 9),.arr (.nm 10)] [bw (.exit 2) [(1,ar 0 0),(2,ar 1 0)] [.box [.hole ab,.hole .bool,.hole ab,.hole .str,.hole ab,.arr 2,.arr 3,.arr 4],.box [.hole ab,.hole .bool,.hole ab,.hole .str,.hole ab,.aL,.aL,.aL],.arr (.nm 9),.arr (.nm 9),.arr (.nm 10)]]
def tG:=aV 234 [.row 9] (.row 9) [yG,yH]
def tH:=aV 235 [ar 0 0,aa ab,aa ab,.row 9,aa ab] (.a6 [.row 9,aa .bool]) [] [.box [.hole (aw 6),.hole (aw 6),.arr 1,.hole cJ],.arr ab] [.box [.hole (aw 6),.hole (aw 6),.arr 2,.hole cJ],.gone,.arr ab]
def xW:=bQ 0 [(1,aa (aw 9)),(2,.c (.fn 272 [])),(15,aa (aw 9)),(16,aa ab),(17,aa ab)] [] [eI 6 .bool,gj 0]
def B4:=aV 317 [aa (aw 9),aa (aw 9),.c (.fn 272 [])] (aa .bool) [xW]
def wo:=aV 272 [.row 9,.row 9] (aa .bool)
def M5:=aV 236 [.row 8,.row 9] (aa .bool)
def LJ:=bQ 0 [(0,aa (.int .u64)),(3,ar 0 0),(4,aa ab)] [.arr (.int .u8)] [bw (.exit 0) [(0,aa (.int .u64)),(3,ar 0 0),(4,aa ab)] [.arr (.int .u8)]]
def M3:=aV 231 [aa (.int .u64)] (aa .str) [LJ]
def MH:=aV 161 [aa .str] (aa .str)
def M1:=aV 228 [aa ab,aa .bool,aa .str] (aa .str)
def Nk:=aV 293 [aa ab,aa .bool,aa .str] (.a6 [aa .str,aa ab])
def Nl:=aV 294 [aa .str] (aa .str)
def MD:=aV 155 [.row 11,aa ab] (aa ab)
def ME:=aV 156 [.row 11,aa ab,.row 9] (aa .bool)
def Mt:=aV 102 [.row 11,aa ab,.row 9] (aa ab)
def LK:=bQ 0 [(0,aa (.int .u64)),(3,ar 0 0),(4,aa ab)] [.arr (.int .u8)] [bw (.exit 0) [(3,ar 0 0),(4,aa ab)] [.arr (.int .u8)]]
def MF:=aV 157 [aa (.int .u64)] (aa .str) [LK]
def M0:=aV 227 [.row 8,.row 9] (aa .bool)
def NL:=aV 69 [ar 0 0,aa .str] (.a6 [aa ab,.c (.dead)]) [] [.bT 116 ((.cb 1)),.buf 5] [.bT 116 ((.cb 2)),.gone,.buf 5]
def NM:=aV 71 [ar 0 0] (aa .str) [] [.bT 116 ((.cb 1)),.buf 5] [.bT 116 ((.cb 1)),.gone]
def yI:=bQ 0 [(0,ar 0 0),(3,aa ab),(6,ar 1 0),(9,.c (.arr 2)),(18,aa (aw 8)),(19,aa ab),(20,aa ab)] [.box [.hole (aw 6),.hole ab],.ba 9,.arr (.nm 14)] [bw (.exit 0) [(6,ar 1 0),(9,.c (.arr 2))] [.box [.hole (aw 6),.hole ab],.ba 9,.arr (.nm 14)]] [] [(.slot 9,.nm 14)]
def LL:=bQ 1 [(9,.c (.arr 1)),(57,aa (aw 10)),(58,aa ab),(59,aa ab)] [.box [.hole (aw 6),.hole ab],.arr (.nm 14)] [bw (.exit 2) [(9,.c (.arr 1))] [.box [.hole (aw 6),.hole ab],.arr (.nm 14)]]
def LM:=bQ 2 [(14,ar 1 0),(77,.c (.arr 2)),(78,aa ab),(79,aa ab)] [.box [.hole (aw 6),.hole ab],.bT 116 ((.cb 3)),.arr (.nm 14),.buf 5] [bw (.exit 4) [(14,ar 1 0)] [.box [.hole (aw 6),.hole ab],.bT 116 ((.cb 2)),.buf 5]]
def zW:=aV 159 [ar 0 0,.row 6,.row 9,aa ab] (aa .str) [yI,LL,LM] [.box [.hole (aw 6),.hole ab]] [.box [.hole (aw 6),.hole ab]]
def zX:=aV 160 [ar 0 0,.row 6,.row 9,aa ab] (aa .str) [] [.box [.hole (aw 6),.hole ab]] [.box [.hole (aw 6),.hole ab]]
def yJ:=bQ 0 [(0,ar 0 0),(3,aa ab),(6,ar 1 0),(9,ar 2 0),(10,ar 3 0),(84,aa (aw 9)),(85,aa ab),(86,aa ab)] [.box [.hole (aw 6),.hole ab],.ba 9,.ba 6,.bT 116 ((.cb 4)),.buf 5] [bw (.exit 1) [(10,ar 1 0)] [.box [.hole (aw 6),.hole ab],.bT 116 ((.cb 2)),.buf 5]]
def pJ:=aV 103 [ar 0 0,aa ab,.row 9,aa ab] (aa .str) [yJ] [.box [.hole (aw 6),.hole ab]] [.box [.hole (aw 6),.hole ab]]
def NJ:=aV 55 [.row 11,aa ab,.row 9] (.a6 [aa .str,aa ab])
def yK:=bQ 0 [(3,ar 0 0),(5,ar 1 0),(8,aa .str),(36,aa (aw 8)),(37,aa ab),(38,aa ab)] [cg (aw 6),.ba 9] [bw (.exit 1) [(8,aa .str)]]
def yL:=bQ 1 [(3,ar 0 0),(7,ar 1 0),(8,aa .str),(101,aa (aw 9)),(102,aa ab),(103,aa ab)] [cg (aw 6),.ba 6] [bw (.exit 3) [(8,aa .str)]]
def yM:=bQ 2 [(3,ar 0 0),(5,ar 1 0),(7,ar 2 0),(8,aa .str),(118,aa (aw 9)),(119,aa ab),(120,aa ab)] [cg (aw 6),.ba 9,.ba 6] [bw (.exit 5) [(8,aa .str)]]
def pL:=aV 237 [.row 11,aa ab,.row 9] (aa .str) [yK,yL,yM]
def yN:=bQ 0 [(0,ar 0 0),(5,ar 2 0),(6,ar 3 0),(7,ar 4 0),(8,ar 5 0),(10,ar 6 0),(25,aa (aw 8)),(26,aa ab),(27,aa ab)] [.box [.hole (aw 6),.hole (aw 6),.arr 7,.hole cJ],.gone,.ba 6,.ba 9,.ba 6,.box [.hole ab,.hole .bool,.hole ab,.hole .str,.hole ab,.aL,.aL,.aL],.box [.hole ab,.hole .bool,.hole ab,.hole .str,.hole ab,.aL,.arr 8,.aL],.arr ab,.arr (.nm 9)] [bw .ret [(8,ar 2 0),(9,aa .bool)] [.box [.hole (aw 6),.hole (aw 6),.arr 3,.hole cJ],.gone,.ba 9,.arr ab],bw (.exit 0) [(0,ar 0 0),(5,ar 2 0),(6,ar 3 0),(7,ar 4 0),(8,ar 5 0),(10,ar 6 0)] [.box [.hole (aw 6),.hole (aw 6),.arr 7,.hole cJ],.gone,.ba 6,.ba 9,.ba 6,.box [.hole ab,.hole .bool,.hole ab,.hole .str,.hole ab,.aL,.aL,.aL],.box [.hole ab,.hole .bool,.hole ab,.hole .str,.hole ab,.aL,.arr 8,.aL],.arr ab,.arr (.nm 9)]] [] [(.via 10 6,.nm 9)]
def LN:=bQ 1 [(0,ar 0 0),(6,ar 2 0),(7,ar 3 0),(8,ar 4 0),(10,ar 5 0),(115,aa (aw 8)),(116,aa ab),(117,aa ab)] [.box [.hole (aw 6),.hole (aw 6),.arr 6,.hole cJ],.gone,.ba 9,.ba 6,.box [.hole ab,.hole .bool,.hole ab,.hole .str,.hole ab,.aL,.aL,.aL],.box [.hole ab,.hole .bool,.hole ab,.hole .str,.hole ab,.aL,.arr 7,.arr 8],.arr ab,.arr (.nm 9),.arr (.nm 10)] [bw .ret [(8,ar 2 0),(9,aa .bool)] [.box [.hole (aw 6),.hole (aw 6),.arr 3,.arr 4],.gone,.ba 9,.arr ab,.arr ab],bw (.exit 2) [(8,ar 2 0),(10,ar 3 0)] [.box [.hole (aw 6),.hole (aw 6),.arr 4,.hole cJ],.gone,.box [.hole ab,.hole .bool,.hole ab,.hole .str,.hole ab,.aL,.aL,.aL],.box [.hole ab,.hole .bool,.hole ab,.hole .str,.hole ab,.aL,.arr 5,.arr 6],.arr ab,.arr (.nm 9),.arr (.nm 10)]] [] [(.via 10 7,.nm 10)]
def zY:=aV 164 [ar 0 0,.row 6,.row 9,.row 6] (.a6 [.row 9,aa .bool]) [yN,LN] [.box [.hole (aw 6),.hole (aw 6),.arr 1,.hole cJ],.arr ab] [.box [.hole (aw 6),.hole (aw 6),.arr 2,.hole cJ],.gone,.arr ab]
def zZ:=aV 165 [ar 0 0,.row 6,.row 9,.row 6] (.a6 [.row 9,aa .bool]) [] [.box [.hole (aw 6),.hole (aw 6),.arr 1,.hole cJ],.arr ab] [.box [.hole (aw 6),.hole (aw 6),.arr 2,.hole cJ],.gone,.arr ab]
def yO:=bQ 0 [(0,ar 0 0),(1,aa ab),(3,aa ab),(10,.c (.arr 2)),(15,aa (aw 9)),(16,aa ab),(17,aa ab)] [.box [.hole (aw 6),.hole (aw 6),.arr 3,.hole cJ],.gone,.arr (.nm 9),.arr ab] [bw .ret [(8,.c (.aL)),(9,aa .bool)] [.box [.hole (aw 6),.hole (aw 6),.arr 2,.hole cJ],.gone,.arr ab],bw (.exit 0) [(10,.c (.arr 2))] [.box [.hole (aw 6),.hole (aw 6),.arr 3,.hole cJ],.gone,.arr (.nm 9),.arr ab]] [] [(.slot 10,.nm 9)]
def z6:=aV 166 [ar 0 0,aa ab,aa (aw 9),aa ab] (.a6 [aa (aw 9),aa .bool]) [yO] [.box [.hole (aw 6),.hole (aw 6),.arr 1,.hole cJ],.arr ab] [.box [.hole (aw 6),.hole (aw 6),.arr 2,.hole cJ],.gone,.arr ab]
def wj:=aV 105 [ar 0 0,aa ab,.row 9,aa ab] (.a6 [.row 9,aa .bool]) [] [.box [.hole (aw 6),.hole (aw 6),.arr 1,.hole cJ],.arr ab] [.box [.hole (aw 6),.hole (aw 6),.arr 2,.hole cJ],.gone,.arr ab]
def NK:=aV 56 [.row 11,aa ab,.row 9,.row 11,aa ab] (.a6 [.row 9,aa ab])
def abg:=bQ 0 [(4,ar 0 0),(5,ar 1 0),(6,ar 2 0),(7,ar 3 0),(21,aa (aw 8)),(22,aa ab),(23,aa ab)] [cg (aw 6),.ba 6,cg (aw 6),.ba 6] [eI 8 ab,bw (.exit 0) [(5,ar 0 0),(7,ar 1 0)] [.ba 6,.ba 6]]
def abh:=bQ 1 [(7,ar 0 0),(73,aa (aw 8)),(74,aa ab),(75,aa ab)] [.ba 6] [eI 8 ab,gj 2]
def ace:=aV 202 [.row 11,.row 6,.row 11,.row 6] (aa ab) [abg,abh]
def ab1:=aV 143 [.row 11,aa ab,.row 11,aa ab] (aa ab)
def ac0:=aV 91 [.row 11,aa ab,.row 11,aa ab] (.a6 [aa ab,aa ab])
def NF:=aV 41 [.row 13,.row 5] (aa .bool)
def aas:=bQ 0 [(0,.c (.arr 0)),(3,ar 1 0),(7,aa ab),(8,aa ab)] [.arr (.nm 5),.ba 5] [bw .ret [(4,aa ab)] [.arr (.nm 5)],bw (.exit 0) [] [.arr (.nm 5)]]
def acZ:=aV 90 [.c (.arr 0),.row 5] (aa ab) [aas] [.arr (.nm 5)] [.arr (.nm 5)]
def acH:=aV 38 [.c (.arr 0),.row 5] (aa .bool) [] [.arr (.nm 5)] [.arr (.nm 5)]
def acf:=aV 203 [aa ab,aa ab,ar 0 0] (.a6 []) [] [.box [.arr 1],.arr (.nm 5)] [.box [.arr 2],.gone,.arr (.nm 5)]
def aaH:=bQ 0 [(9,ar 0 0),(10,ar 1 0),(11,ar 2 0),(12,.c (.fn 203 [2])),(35,aa (aw 8)),(36,aa ab),(37,aa ab)] [.ba 6,.ba 6,.box [.arr 3],.arr (.nm 5)] [bw (.exit 0) [(9,ar 0 0),(10,ar 1 0),(11,ar 2 0),(12,.c (.fn 203 [2]))] [.ba 6,.ba 6,.box [.arr 3],.arr (.nm 5)]] [] [(.via 11 0,.nm 5)]
def ab2:=aV 144 [.row 11,aa ab,.row 11,aa ab] (aa (aw 5)) [aaH]
def ac3:=aV 93 [.row 11,aa ab,.row 11,aa ab] (.a6 [aa (aw 5),aa ab])
def NG:=aV 43 [.row 13,.row 5] (aa (aw 5))
def Mv:=aV 13 [.row 12,.row 12,aa (aw 5)] (aa .bool)
def MO:=aV 208 [ar 0 0,aa ab] (.a6 [.row 9,aa .bool]) [] [.box [.hole (aw 6),.arr 1,.hole cJ,.hole ab],.arr ab] [.box [.hole (aw 6),.arr 2,.arr 3,.hole ab],.gone,.arr ab,.arr ab]
def LO:=bQ 0 [(0,aa .str),(4,aa (.int .u64)),(17,aa ab),(18,aa ab)] [] [bw (.exit 0) [(4,aa (.int .u64))]]
def MP:=aV 209 [aa .str] (.a6 [aa (.int .u64),aa ab]) [LO]
def MQ:=aV 210 [aa (.int .u64)] (aa ab)
def oe:=aV 211 [ar 0 0,aa ab,aa ab,aa .str] (.a6 [.row 9,aa .bool]) [] [.box [.hole (aw 6),.arr 1,.hole cJ,.hole ab],.arr ab] [.box [.hole (aw 6),.arr 2,.hole cJ,.hole ab],.gone,.arr ab]
def LP:=bQ 0 [(0,aa .str),(5,aa (.int .u64)),(10,aa ab),(11,aa ab)] [] [bw .ret [(2,aa (.int .u64)),(3,aa ab),(4,aa ab)],gj 0]
def Nx:=aV 346 [aa .str] (.a6 [aa (.int .u64),aa ab,aa ab]) [LP]
def Nv:=aV 328 [aa .str] (.a6 [aa (.int .u64),aa .str,aa .bool])
def Nb:=aV 279 [aa .str] (.a6 [aa ab,aa .str,aa ab])
def z7:=aV 212 [ar 0 0,.row 6,aa .str] (.a6 [.row 9,aa .bool]) [] [.box [.hole (aw 6),.arr 1,.hole cJ,.hole ab],.arr ab] [.box [.hole (aw 6),.arr 2,.hole cJ,.hole ab],.gone,.arr ab]
def Nw:=aV 329 [aa .str] (.a6 [aa .str,aa .str,aa .bool])
def LQ:=bQ 0 [(4,.c (.arr 0)),(5,aa .str)] [.arr .str] [bw .ret [(2,.c (.aL)),(3,aa ab)],bw (.exit 0) [(4,.c (.arr 0))] [.arr .str]] [] [(.slot 4,.str)]
def Nc:=aV 280 [aa .str] (.a6 [aa pz,aa ab]) [LQ]
def yP:=bQ 0 [(0,ar 0 0),(4,ar 2 0),(6,ar 3 0),(10,ar 4 0),(38,aa pz),(39,aa ab),(40,aa ab)] [.box [.hole (aw 6),.arr 5,.hole cJ,.hole ab],.gone,.ba 6,.box [.hole ab,.hole .bool,.hole ab,.hole .str,.hole ab,.aL,.aL,.aL],.box [.hole ab,.hole .bool,.hole ab,.hole .str,.hole ab,.aL,.arr 6,.aL],.arr ab,.arr (.nm 9)] [bw .ret [(6,ar 2 0),(7,aa .bool)] [.box [.hole (aw 6),.arr 3,.hole cJ,.hole ab],.gone,.ba 9,.arr ab],bw (.exit 0) [(6,ar 2 0),(10,ar 3 0)] [.box [.hole (aw 6),.arr 4,.hole cJ,.hole ab],.gone,.box [.hole ab,.hole .bool,.hole ab,.hole .str,.hole ab,.aL,.aL,.aL],.box [.hole ab,.hole .bool,.hole ab,.hole .str,.hole ab,.aL,.arr 5,.aL],.arr ab,.arr (.nm 9)]] [] [(.via 10 6,.nm 9)]
def z8:=aV 213 [ar 0 0,.row 6,aa .str] (.a6 [.row 9,aa .bool]) [yP] [.box [.hole (aw 6),.arr 1,.hole cJ,.hole ab],.arr ab] [.box [.hole (aw 6),.arr 2,.hole cJ,.hole ab],.gone,.arr ab]
def yQ:=bQ 0 [(0,ar 0 0),(4,ar 2 0),(6,ar 3 0),(8,aa pz),(10,ar 4 0),(11,aa ab)] [.box [.hole (aw 6),.arr 5,.hole cJ,.hole ab],.gone,.ba 6,.box [.hole ab,.hole .bool,.hole ab,.hole .str,.hole ab,.aL,.aL,.aL],.box [.hole ab,.hole .bool,.hole ab,.hole .str,.hole ab,.arr 6,.aL,.aL],.arr ab,.arr (.nm 9)] [bw .ret [(6,ar 2 0),(7,aa .bool)] [.box [.hole (aw 6),.arr 3,.hole cJ,.hole ab],.gone,.ba 9,.arr ab],bw (.exit 0) [(0,ar 0 0),(4,ar 2 0),(6,ar 3 0),(8,aa pz),(10,ar 4 0)] [.box [.hole (aw 6),.arr 5,.hole cJ,.hole ab],.gone,.ba 6,.box [.hole ab,.hole .bool,.hole ab,.hole .str,.hole ab,.aL,.aL,.aL],.box [.hole ab,.hole .bool,.hole ab,.hole .str,.hole ab,.arr 6,.aL,.aL],.arr ab,.arr (.nm 9)]] [] [(.via 10 5,.nm 9)]
def LR:=bQ 1 [(0,ar 0 0),(4,ar 2 0),(6,ar 3 0),(8,aa pz),(10,ar 4 0),(14,aa ab)] [.box [.hole (aw 6),.arr 5,.hole cJ,.hole ab],.gone,.ba 6,.box [.hole ab,.hole .bool,.hole ab,.hole .str,.hole ab,.aL,.aL,.aL],.box [.hole ab,.hole .bool,.hole ab,.hole .str,.hole ab,.arr 6,.aL,.aL],.arr ab,.arr (.nm 9)] [bw .ret [(6,ar 2 0),(7,aa .bool)] [.box [.hole (aw 6),.arr 3,.arr 4,.hole ab],.gone,.ba 9,.arr ab,.arr ab],bw (.exit 2) [(0,ar 0 0),(4,ar 2 0),(6,ar 3 0),(8,aa pz),(10,ar 4 0)] [.box [.hole (aw 6),.arr 5,.hole cJ,.hole ab],.gone,.ba 6,.box [.hole ab,.hole .bool,.hole ab,.hole .str,.hole ab,.aL,.aL,.aL],.box [.hole ab,.hole .bool,.hole ab,.hole .str,.hole ab,.arr 6,.aL,.aL],.arr ab,.arr (.nm 9)]]
def yR:=bQ 2 [(0,ar 0 0),(4,ar 2 0),(6,ar 3 0),(8,aa pz),(10,ar 4 0),(15,aa ab)] [.box [.hole (aw 6),.arr 5,.hole cJ,.hole ab],.gone,.ba 6,.box [.hole ab,.hole .bool,.hole ab,.hole .str,.hole ab,.aL,.aL,.aL],.box [.hole ab,.hole .bool,.hole ab,.hole .str,.hole ab,.arr 6,.arr 7,.aL],.arr ab,.arr (.nm 9),.arr (.nm 9)] [bw .ret [(6,ar 2 0),(7,aa .bool)] [.box [.hole (aw 6),.arr 3,.hole cJ,.hole ab],.gone,.ba 9,.arr ab],bw (.exit 4) [(6,ar 2 0),(10,ar 3 0)] [.box [.hole (aw 6),.arr 4,.hole cJ,.hole ab],.gone,.box [.hole ab,.hole .bool,.hole ab,.hole .str,.hole ab,.aL,.aL,.aL],.box [.hole ab,.hole .bool,.hole ab,.hole .str,.hole ab,.arr 5,.arr 6,.aL],.arr ab,.arr (.nm 9),.arr (.nm 9)]] [] [(.via 10 6,.nm 9)]
def z':=aV 214 [ar 0 0,.row 6,aa .str] (.a6 [.row 9,aa .bool]) [yQ,LR,yR] [.box [.hole (aw 6),.arr 1,.hole cJ,.hole ab],.arr ab] [.box [.hole (aw 6),.arr 2,.hole cJ,.hole ab],.gone,.arr ab]
def LS:=bQ 0 [(4,.c (.arr 0)),(5,aa (.int .u64)),(6,aa .str)] [.arr (.nm 15)] [bw .ret [(2,.c (.aL)),(3,aa ab)],bw (.exit 0) [(4,.c (.arr 0))] [.arr (.nm 15)]] [] [(.slot 4,.nm 15)]
def Nd:=aV 281 [aa .str] (.a6 [aa (aw 15),aa ab]) [LS]
def Ng:=aV 283 [.row 15,ar 0 0] (aa .bool) [] [.ba 8] [.ba 8]
def LU:=bQ 0 [(0,aa (aw 15)),(1,.c (.fn 283 [0])),(7,aa ab),(8,aa ab)] [.ba 8] [bw .ret [(4,aa ab)] [.ba 8],bw (.exit 0) [] [.ba 8]]
def Nf:=aV 282 [aa (aw 15),.c (.fn 283 [0])] (aa ab) [LU] [.ba 8] [.ba 8]
def yS:=bQ 0 [(1,ar 0 0),(2,ar 1 0),(20,.c (.arr 2)),(21,aa ab),(22,aa ab)] [.box [.hole ab,.hole .bool,.hole ab,.hole .str,.hole ab,.arr 2,.arr 3,.arr 4],.box [.hole ab,.hole .bool,.hole ab,.hole .str,.hole ab,.aL,.aL,.aL],.arr (.nm 9),.arr (.nm 9),.arr (.nm 10)] [bw (.exit 0) [(1,ar 0 0),(2,ar 1 0)] [.box [.hole ab,.hole .bool,.hole ab,.hole .str,.hole ab,.arr 2,.arr 3,.arr 4],.box [.hole ab,.hole .bool,.hole ab,.hole .str,.hole ab,.aL,.aL,.aL],.arr (.nm 9),.arr (.nm 9),.arr (.nm 10)]]
def yT:=bQ 1 [(1,ar 0 0),(2,ar 1 0),(35,.c (.arr 2)),(36,aa ab),(37,aa ab)] [.box [.hole ab,.hole .bool,.hole ab,.hole .str,.hole ab,.arr 3,.arr 2,.arr 4],.box [.hole ab,.hole .bool,.hole ab,.hole .str,.hole ab,.aL,.aL,.aL],.arr (.nm 9),.arr (.nm 9),.arr (.nm 10)] [bw (.exit 2) [(1,ar 0 0),(2,ar 1 0)] [.box [.hole ab,.hole .bool,.hole ab,.hole .str,.hole ab,.arr 2,.arr 3,.arr 4],.box [.hole ab,.hole .bool,.hole ab,.hole .str,.hole ab,.aL,.aL,.aL],.arr (.nm 9),.arr (.nm 9),.arr (.nm 10)]]
def tI:=aV 284 [.row 9] (.row 9) [yS,yT]
def yU:=bQ 0 [(0,ar 0 0),(4,ar 2 0),(6,ar 3 0),(8,aa (aw 15)),(10,ar 4 0),(39,aa (aw 8)),(40,aa ab),(41,aa ab)] [.box [.hole (aw 6),.arr 5,.hole cJ,.hole ab],.gone,.ba 6,.box [.hole ab,.hole .bool,.hole ab,.hole .str,.hole ab,.aL,.aL,.aL],.box [.hole ab,.hole .bool,.hole ab,.hole .str,.hole ab,.aL,.arr 6,.aL],.arr ab,.arr (.nm 9)] [bw .ret [(6,ar 2 0),(7,aa .bool)] [.box [.hole (aw 6),.arr 3,.hole cJ,.hole ab],.gone,.ba 9,.arr ab],bw (.exit 0) [(0,ar 0 0),(4,ar 2 0),(6,ar 3 0),(8,aa (aw 15)),(10,ar 4 0)] [.box [.hole (aw 6),.arr 5,.hole cJ,.hole ab],.gone,.ba 6,.box [.hole ab,.hole .bool,.hole ab,.hole .str,.hole ab,.aL,.aL,.aL],.box [.hole ab,.hole .bool,.hole ab,.hole .str,.hole ab,.aL,.arr 6,.aL],.arr ab,.arr (.nm 9)]] [] [(.via 10 6,.nm 9)]
def LV:=bQ 1 [(0,ar 0 0),(4,ar 2 0),(6,ar 3 0),(10,ar 4 0),(117,aa (aw 15)),(118,aa ab),(119,aa ab)] [.box [.hole (aw 6),.arr 5,.hole cJ,.hole ab],.gone,.ba 6,.box [.hole ab,.hole .bool,.hole ab,.hole .str,.hole ab,.aL,.aL,.aL],.box [.hole ab,.hole .bool,.hole ab,.hole .str,.hole ab,.aL,.arr 6,.arr 7],.arr ab,.arr (.nm 9),.arr (.nm 10)] [bw .ret [(6,ar 2 0),(7,aa .bool)] [.box [.hole (aw 6),.arr 3,.arr 4,.hole ab],.gone,.ba 9,.arr ab,.arr ab],bw (.exit 3) [(6,ar 2 0),(10,ar 3 0)] [.box [.hole (aw 6),.arr 4,.hole cJ,.hole ab],.gone,.box [.hole ab,.hole .bool,.hole ab,.hole .str,.hole ab,.aL,.aL,.aL],.box [.hole ab,.hole .bool,.hole ab,.hole .str,.hole ab,.aL,.arr 5,.arr 6],.arr ab,.arr (.nm 9),.arr (.nm 10)]] [] [(.via 10 7,.nm 10)]
def Aa:=aV 215 [ar 0 0,.row 6,aa .str] (.a6 [.row 9,aa .bool]) [yU,LV] [.box [.hole (aw 6),.arr 1,.hole cJ,.hole ab],.arr ab] [.box [.hole (aw 6),.arr 2,.hole cJ,.hole ab],.gone,.arr ab]
def wm:=aV 148 [ar 0 0,aa ab,aa .str] (.a6 [.row 9,aa .bool]) [] [.box [.hole (aw 6),.arr 1,.hole cJ,.hole ab],.arr ab] [.box [.hole (aw 6),.arr 2,.hole cJ,.hole ab],.gone,.arr ab]
def Ms:=aV 100 [.row 11,aa ab,aa .str] (.a6 [.row 9,.row 16,aa ab])
def NH:=aV 53 [.row 11,aa ab,aa .str] (.a6 [.row 9,aa ab])
def Ab:=aV 22 [.row 12,.row 12,aa .str] (aa .bool)
def ach:=bQ 0 [(2,aa (aw 5)),(7,ar 0 0),(8,aa ab)] [.box [.hole (aw 6),.hole ab,.hole (aw 6),.hole ab]] [eI 6 .bool,bw (.exit 0) [(2,aa (aw 5)),(7,ar 0 0)] [.box [.hole (aw 6),.hole ab,.hole (aw 6),.hole ab]]]
def Dm:=aV 20 [.row 12,.row 12,aa (aw 5)] (aa .bool) [ach]
def ac5:=aV 99 [.row 5] (aa .bool)
def ac2:=bQ 0 [(0,aa (aw 5)),(1,.c (.fn 99 [])),(7,aa ab),(8,aa ab)] [] [eI 4 ab,gj 0]
def ac1:=aV 92 [aa (aw 5),.c (.fn 99 [])] (aa ab) [ac2]
def acI:=aV 42 [aa (aw 5),.c (.fn 99 [])] (aa .bool)
def acJ:=aV 52 [.row 17] (aa .bool)
def Dj:=aV 18 [.row 12,.row 12,.row 17] (aa .bool)
def abW:=aV 127 [ar 0 0,aa (.int .u8)] (.c (.dead)) [] [.bT 116 ((.cb 1)),.buf 5] [.bT 116 ((.cb 2)),.gone,.buf 5]
def acQ:=bQ 0 [(0,aa .str),(3,ar 0 0),(8,aa ab),(9,aa ab)] [.bT 116 ((.cb 1)),.buf 5] [bw (.exit 0) [(3,ar 0 0)] [.bT 116 ((.cb 1)),.buf 5]]
def acP:=aV 68 [aa .str] (aa .str) [acQ]
def acD:=bQ 0 [(3,ar 0 0),(21,aa (aw 5)),(22,aa ab),(23,aa ab)] [.bT 116 ((.cb 1)),.buf 5] [bw (.exit 1) [(3,ar 0 0)] [.bT 116 ((.cb 1)),.buf 5]]
def Dn:=aV 29 [.row 17] (aa .str) [acD]
def pK:=aV 12 [] (aa .bool)
def acj:=aV 239 [.row 6] (.row 6)
def yV:=bQ 0 [(0,aa (aw 9)),(1,aa (aw 9)),(5,aa ab)] [] [eI 4 .bool,gj 0]
def Dl:=aV 183 [aa (aw 9),aa (aw 9)] (aa .bool) [yV]
def LW:=bQ 0 [(2,ar 0 0),(3,ar 1 0),(5,aa ab)] [.ba 9,.ba 9] [eI 4 .bool,bw (.exit 0) [(2,ar 0 0),(3,ar 1 0)] [.ba 9,.ba 9]]
def zU:=aV 118 [.row 9,.row 9] (aa .bool) [LW]
def acz:=aV 295 [.row 8,.row 8] (aa .bool)
def LX:=bQ 0 [(2,ar 0 0),(3,ar 1 0),(5,aa ab)] [.ba 6,.ba 6] [eI 4 .bool,bw (.exit 0) [(2,ar 0 0),(3,ar 1 0)] [.ba 6,.ba 6]]
def LY:=bQ 1 [(2,ar 0 0),(3,ar 1 0),(6,aa ab)] [.ba 6,.ba 6] [eI 4 .bool,gj 2]
def aci:=aV 238 [.row 6,.row 6] (aa .bool) [LX,LY]
def acA:=aV 296 [aa (.int .u8)] (aa .bool)
def acB:=aV 297 [aa (.int .u8)] (aa .bool)
def Le:=bQ 0 [(0,aa .str),(3,aa ab)] [] [eI 2 .bool,gj 0]
def acm:=aV 240 [aa .str] (aa .bool) [Le]
def acC:=aV 298 [aa ab,aa ab] (aa .bool)
def IK:=bQ 0 [(0,aa (aw 7)),(4,aa ab),(5,aa ab)] [] [eI 2 .bool,bw (.exit 2) [(0,aa (aw 7)),(4,aa ab)]]
def Lf:=bQ 0 [(0,aa (aw 7)),(3,aa ab),(4,aa ab)] [] [eI 2 .bool,bw (.exit 0) [(0,aa (aw 7))]] [IK]
def acn:=aV 241 [aa (aw 7)] (aa .bool) [Lf]
def IL:=bQ 0 [(0,aa (aw 8)),(1,aa .bool),(6,aa ab),(7,ar 0 0),(8,aa ab)] [.ba 8] [eI 4 .bool,bw (.exit 2) [(0,aa (aw 8)),(1,aa .bool),(6,aa ab),(7,ar 0 0)] [.ba 8]]
def Lg:=bQ 0 [(0,aa (aw 8)),(1,aa .bool),(5,aa ab),(6,aa ab)] [] [eI 4 .bool,bw (.exit 0) [(0,aa (aw 8)),(1,aa .bool)]] [IL]
def aco:=aV 242 [aa (aw 8),aa .bool] (aa .bool) [Lg]
def ab3:=aV 167 [.row 6] (aa .bool)
def Lh:=bQ 0 [(1,ar 0 0),(3,.c (.arr 1)),(4,aa ab)] [.ba 6,.arr ab] [bw (.exit 0) [(1,ar 0 0),(3,.c (.arr 1))] [.ba 6,.arr ab]] [] [(.slot 3,ab)]
def ab4:=aV 168 [.row 6] (aa cJ) [Lh]
def IM:=bQ 0 [(1,ar 0 0),(3,aa ab),(4,ar 1 0),(5,aa ab)] [cg (aw 6),.box [.hole ab,.hole .str,.hole ab,.hole ab,.hole ab,.hole (aw 7),.hole (aw 8),.hole ab,.hole ab,.hole .bool]] [eI 2 ab,bw (.exit 2) [(1,ar 0 0),(3,aa ab),(4,ar 1 0)] [cg (aw 6),.box [.hole ab,.hole .str,.hole ab,.hole ab,.hole ab,.hole (aw 7),.hole (aw 8),.hole ab,.hole ab,.hole .bool]]]
def Ig:=bQ 1 [(1,ar 0 0),(3,aa ab),(4,ar 1 0),(6,aa cJ),(7,aa ab)] [cg (aw 6),.box [.hole ab,.hole .str,.hole ab,.hole ab,.hole ab,.hole (aw 7),.hole (aw 8),.hole ab,.hole ab,.hole .bool]] [eI 2 ab,bw (.exit 4) [(1,ar 0 0),(3,aa ab),(4,ar 1 0)] [cg (aw 6),.box [.hole ab,.hole .str,.hole ab,.hole ab,.hole ab,.hole (aw 7),.hole (aw 8),.hole ab,.hole ab,.hole .bool]]]
def Li:=bQ 0 [(1,ar 0 0),(3,aa ab)] [cg (aw 6)] [eI 2 ab,gj 0] [IM,Ig]
def abI:=aV 106 [.row 11] (aa ab) [Li]
def ab5:=aV 177 [.row 9] (aa .bool)
def Lj:=bQ 0 [(1,aa ab),(2,ar 0 0),(6,aa ab)] [.ba 6] [bw .ret [(4,aa ab),(5,aa .bool)],gj 0]
def abT:=aV 122 [.row 6,aa ab] (.a6 [aa ab,aa .bool]) [Lj]
def ab6:=aV 178 [aa ab,aa .bool] (aa .bool)
def NS:=bQ 0 [(1,aa ab),(2,ar 0 0),(6,aa ab)] [.ba 6] [bw .ret [(4,aa ab),(5,aa .bool)],gj 0]
def ac4:=aV 98 [.row 6,aa ab] (.a6 [aa ab,aa .bool]) [NS]
def Lk:=bQ 0 [(1,aa (aw 10)),(2,ar 0 0),(5,aa ab)] [.ba 6] [eI 4 .bool,gj 0]
def ab7:=aV 179 [.row 6,aa (aw 10)] (aa .bool) [Lk]
def yW:=bQ 0 [(1,aa ab),(2,aa (aw 9)),(3,aa .bool),(4,ar 0 0),(9,aa ab)] [cg (aw 6)] [eI 8 .bool,gj 0]
def Dk:=aV 180 [.row 11,aa ab,aa (aw 9),aa .bool] (aa .bool) [yW]
def acq:=aV 252 [aa .bool,aa .bool] (aa ab)
def abN:=aV 115 [aa ab] (aa (.int .u64))
def ab8:=aV 181 [.row 9,.row 9] (aa ab)
def yX:=bQ 0 [(3,aa .bool),(4,ar 0 0),(6,ar 1 0),(9,ar 2 0),(12,aa ab)] [cg (aw 6),.ba 9,.box [.hole ab,.hole .str,.hole ab,.hole ab,.hole ab,.hole (aw 7),.hole (aw 8),.hole ab,.hole ab,.hole .bool]] [eI 8 .bool,gj 1]
def Ll:=bQ 1 [(6,ar 0 0),(15,aa ab)] [.ba 9] [eI 8 .bool,gj 3]
def tF:=aV 109 [.row 11,aa ab,.row 9,aa .bool] (aa .bool) [yX,Ll]
def acK:=aV 59 [.row 11,aa ab,.row 9] (aa .bool)
def abR:=aV 120 [.row 11,aa ab] (aa ab)
def acO:=aV 65 [.row 11,aa ab,.row 9,.row 11,aa ab] (aa ab)
def abS:=aV 121 [aa cJ] (.row 18)
def Lm:=bQ 0 [(0,aa (.int .u64)),(3,aa .str)] [] [bw (.exit 0) [(3,aa .str)]]
def abM:=aV 114 [aa (.int .u64)] (aa .str) [Lm]
def Ln:=bQ 0 [(0,aa (.int .u64)),(3,.c (.arr 0))] [.arr (.int .u8)] [bw (.exit 0) [(0,aa (.int .u64)),(3,.c (.arr 0))] [.arr (.int .u8)]] [] [(.slot 3,.int .u8)]
def abO:=aV 116 [aa (.int .u64)] (aa .str) [Ln]
def abP:=aV 117 [aa .str] (aa .str)
def abQ:=aV 119 [aa ab,aa .bool,aa .str] (aa .str)
def KQ:=bQ 0 [(3,ar 0 0),(5,ar 1 0),(7,ar 2 0),(14,aa .str),(15,aa ab),(19,aa ab)] [cg (aw 6),.ba 9,.ba 6] [bw (.exit 7) [(3,ar 0 0),(5,ar 1 0),(7,ar 2 0),(14,aa .str),(15,aa ab)] [cg (aw 6),.ba 9,.ba 6]]
def wu:=bQ 0 [(3,ar 0 0),(5,ar 1 0),(7,ar 2 0),(10,aa .str),(11,aa ab)] [cg (aw 6),.ba 9,.ba 6] [bw (.exit 1) [(10,aa .str)]]
def wv:=bQ 1 [(3,ar 0 0),(5,ar 1 0),(7,ar 2 0),(12,aa .str),(13,aa ab)] [cg (aw 6),.ba 9,.ba 6] [bw (.exit 3) [(12,aa .str)]]
def wx:=bQ 2 [(3,ar 0 0),(5,ar 1 0),(7,ar 2 0),(14,aa .str),(15,aa ab)] [cg (aw 6),.ba 9,.ba 6] [bw (.exit 5) [(14,aa .str)]] [KQ]
def rn:=aV 63 [.row 11,aa ab,.row 9] (aa .str) [wu,wv,wx]
def abV:=aV 126 [.row 9] (.row 18)
def abU:=aV 125 [aa cJ,aa ab] (aa cJ)
def Dh:=aV 123 [.row 11,.row 6,.row 9,.row 11,.row 6,aa cJ] (.row 18)
def acg:=aV 205 [.row 9,.row 9] (aa .bool)
def ab9:=aV 184 [.row 8,.row 9] (aa .bool)
def yY:=bQ 0 [(5,aa cJ),(6,ar 0 0),(7,ar 1 0),(8,ar 2 0),(9,ar 3 0),(10,ar 4 0),(12,ar 5 0),(13,ar 6 0),(14,aa ab)] [cg (aw 6),.ba 6,.ba 9,cg (aw 6),.ba 6,.box [.hole ab,.hole .bool,.hole ab,.hole .str,.hole ab,.aL,.aL,.aL,.aL,.hole .bool],.box [.hole ab,.hole .bool,.hole ab,.hole .str,.hole ab,.aL,.arr 7,.aL],.arr (.nm 9)] [bw .ret [(12,ar 0 0)] [.ba 18],bw (.exit 0) [(5,aa cJ),(6,ar 0 0),(7,ar 1 0),(8,ar 2 0),(10,ar 3 0),(12,ar 4 0),(13,ar 5 0)] [cg (aw 6),.ba 6,.ba 9,.ba 6,.box [.hole ab,.hole .bool,.hole ab,.hole .str,.hole ab,.aL,.aL,.aL,.aL,.hole .bool],.box [.hole ab,.hole .bool,.hole ab,.hole .str,.hole ab,.aL,.arr 6,.aL],.arr (.nm 9)]] [] [(.via 13 6,.nm 9)]
def Lo:=bQ 1 [(5,aa cJ),(6,ar 0 0),(7,ar 1 0),(8,ar 2 0),(10,ar 3 0),(12,ar 4 0),(13,ar 5 0),(20,aa ab)] [cg (aw 6),.ba 6,.ba 9,.ba 6,.box [.hole ab,.hole .bool,.hole ab,.hole .str,.hole ab,.aL,.aL,.aL,.aL,.hole .bool],.box [.hole ab,.hole .bool,.hole ab,.hole .str,.hole ab,.aL,.arr 6,.arr 7],.arr (.nm 9),.arr (.nm 10)] [bw .ret [(12,ar 0 0)] [.ba 18],bw (.exit 2) [(12,ar 0 0),(13,ar 1 0)] [.box [.hole ab,.hole .bool,.hole ab,.hole .str,.hole ab,.aL,.aL,.aL,.aL,.hole .bool],.box [.hole ab,.hole .bool,.hole ab,.hole .str,.hole ab,.aL,.arr 2,.arr 3],.arr (.nm 9),.arr (.nm 10)]] [] [(.via 13 7,.nm 10)]
def Di:=aV 124 [.row 11,.row 6,.row 9,.row 11,.row 6,aa cJ] (.row 18) [yY,Lo]
def wz:=bQ 0 [(5,aa cJ),(6,ar 0 0),(8,ar 1 0),(9,ar 2 0),(12,ar 3 0),(13,ar 4 0),(14,ar 5 0),(17,ar 6 0),(18,aa ab)] [cg (aw 6),.ba 9,cg (aw 6),.box [.hole ab,.hole .bool,.hole ab,.hole .str,.hole ab,.aL,.aL,.aL,.aL,.hole .bool],.ba 6,.ba 6,.box [.hole ab,.hole .bool,.hole ab,.hole .str,.hole ab,.arr 7,.aL,.hole (aw 10)],.arr (.nm 9)] [bw .ret [(12,ar 0 0)] [.ba 18],bw (.exit 0) [(5,aa cJ),(6,ar 0 0),(8,ar 1 0),(9,ar 2 0),(12,ar 3 0),(13,ar 4 0),(14,ar 5 0),(17,ar 6 0)] [cg (aw 6),.ba 9,cg (aw 6),.box [.hole ab,.hole .bool,.hole ab,.hole .str,.hole ab,.aL,.aL,.aL,.aL,.hole .bool],.ba 6,.ba 6,.box [.hole ab,.hole .bool,.hole ab,.hole .str,.hole ab,.arr 7,.aL,.hole (aw 10)],.arr (.nm 9)]] [] [(.via 17 5,.nm 9)]
def wA:=bQ 1 [(5,aa cJ),(6,ar 0 0),(8,ar 1 0),(9,ar 2 0),(12,ar 3 0),(13,ar 4 0),(14,ar 5 0),(17,ar 6 0),(20,aa ab)] [cg (aw 6),.ba 9,cg (aw 6),.box [.hole ab,.hole .bool,.hole ab,.hole .str,.hole ab,.aL,.aL,.aL,.aL,.hole .bool],.ba 6,.ba 6,.box [.hole ab,.hole .bool,.hole ab,.hole .str,.hole ab,.arr 7,.arr 8,.hole (aw 10)],.arr (.nm 9),.arr (.nm 9)] [bw .ret [(12,ar 0 0)] [.ba 18],bw (.exit 2) [(12,ar 0 0),(17,ar 1 0)] [.box [.hole ab,.hole .bool,.hole ab,.hole .str,.hole ab,.aL,.aL,.aL,.aL,.hole .bool],.box [.hole ab,.hole .bool,.hole ab,.hole .str,.hole ab,.arr 2,.arr 3,.hole (aw 10)],.arr (.nm 9),.arr (.nm 9)]] [] [(.via 17 6,.nm 9)]
def rp:=aV 66 [.row 11,aa ab,.row 9,.row 11,aa ab,aa cJ] (.row 18) [wz,wA]
def acy:=aV 26 [.row 11,aa ab,.row 9,.row 11,aa ab] (.a6 [.row 9,aa ab])
def dD:=aV 3 [.row 0,aa (aw 5)] (aa .bool)
def j3:=aV 5 [.row 0,aa (aw 5)] (aa .bool)
def pM:=aV 6 [.row 0,aa .str] (aa .bool)
def acr:=aV 253 [ar 0 0,aa ab] (aa ab) [] [.box [.hole (aw 6),.hole (.slice (.int .u8)),.hole .bool]] [.box [.hole (aw 6),.hole (.slice (.int .u8)),.hole .bool]]
def Lp:=bQ 0 [(0,ar 0 0),(5,aa .str),(6,aa ab)] [.box [.hole (aw 6),.hole (.slice (.int .u8)),.hole .bool]] [bw (.exit 0) [(5,aa .str)] [.box [.hole (aw 6),.hole (.slice (.int .u8)),.hole .bool]]]
def acs:=aV 254 [ar 0 0,aa ab] (aa .str) [Lp] [.box [.hole (aw 6),.hole (.slice (.int .u8)),.hole .bool]] [.box [.hole (aw 6),.hole (.slice (.int .u8)),.hole .bool]]
def acu:=aV 255 [ar 0 0] (aa .bool) [] [.box [.hole (aw 6),.hole (.slice (.int .u8)),.hole .bool]] [.box [.hole (aw 6),.hole (.slice (.int .u8)),.hole .bool]]
def acE:=aV 300 [.row 6,aa ab] (aa .bool)
def Lq:=bQ 0 [(3,ar 1 0),(5,aa ab)] [.box [.hole (aw 6),.hole (.slice (.int .u8)),.hole .bool],.ba 6] [bw (.exit 0) [(5,aa ab)] [.box [.hole (aw 6),.hole (.slice (.int .u8)),.hole .bool]]]
def acv:=aV 256 [ar 0 0,.row 6] (aa ab) [Lq] [.box [.hole (aw 6),.hole (.slice (.int .u8)),.hole .bool]] [.box [.hole (aw 6),.hole (.slice (.int .u8)),.hole .bool]]
def acw:=aV 257 [ar 0 0,aa ab] (.row 10) [] [.box [.hole (aw 6),.hole (.slice (.int .u8)),.hole .bool]] [.box [.hole (aw 6),.hole (.slice (.int .u8)),.hole .bool]]
def Lr:=bQ 0 [(3,ar 0 0),(4,ar 1 0),(5,ar 2 0),(6,ar 3 0),(7,aa ab)] [.ba 9,.ba 9,.ba 9,.box [.hole ab,.hole .bool,.hole ab,.hole .str,.hole ab,.aL,.aL,.aL]] [bw (.exit 0) [(3,ar 0 0),(4,ar 1 0),(5,ar 2 0),(6,ar 3 0),(7,aa ab)] [.ba 9,.ba 9,.ba 9,.box [.hole ab,.hole .bool,.hole ab,.hole .str,.hole ab,.aL,.aL,.aL]]]
def acx:=aV 258 [.row 9,.row 9,.row 9] (.row 9) [Lr]
def yB:=bQ 0 [(0,ar 0 0),(4,ar 1 0),(5,ar 2 0),(6,ar 3 0),(7,aa ab)] [.box [.hole (aw 6),.hole (.slice (.int .u8)),.hole .bool],.box [.hole ab,.hole .bool,.hole ab,.hole .str,.hole ab,.aL,.aL,.aL],.box [.hole ab,.hole .str,.hole ab,.hole ab,.hole ab,.hole (aw 7),.hole (aw 8),.hole ab,.hole ab,.hole .bool],.box [.hole ab,.hole .bool,.hole ab,.hole .str,.hole ab,.aL,.arr 4,.aL],.arr (.nm 9)] [bw (.exit 1) [(0,ar 0 0),(4,ar 1 0),(5,ar 2 0),(6,ar 3 0)] [.box [.hole (aw 6),.hole (.slice (.int .u8)),.hole .bool],.box [.hole ab,.hole .bool,.hole ab,.hole .str,.hole ab,.aL,.aL,.aL],.box [.hole ab,.hole .str,.hole ab,.hole ab,.hole ab,.hole (aw 7),.hole (aw 8),.hole ab,.hole ab,.hole .bool],.box [.hole ab,.hole .bool,.hole ab,.hole .str,.hole ab,.aL,.arr 4,.aL],.arr (.nm 9)]] [] [(.via 6 6,.nm 9)]
def yC:=bQ 1 [(0,ar 0 0),(4,ar 1 0),(5,ar 2 0),(6,ar 3 0),(9,aa ab)] [.box [.hole (aw 6),.hole (.slice (.int .u8)),.hole .bool],.box [.hole ab,.hole .bool,.hole ab,.hole .str,.hole ab,.aL,.aL,.aL],.box [.hole ab,.hole .str,.hole ab,.hole ab,.hole ab,.hole (aw 7),.hole (aw 8),.hole ab,.hole ab,.hole .bool],.box [.hole ab,.hole .bool,.hole ab,.hole .str,.hole ab,.aL,.arr 4,.aL],.arr (.nm 9)] [bw (.exit 3) [(4,ar 1 0),(6,ar 2 0)] [.box [.hole (aw 6),.hole (.slice (.int .u8)),.hole .bool],.box [.hole ab,.hole .bool,.hole ab,.hole .str,.hole ab,.aL,.aL,.aL],.box [.hole ab,.hole .bool,.hole ab,.hole .str,.hole ab,.aL,.arr 3,.aL],.arr (.nm 9)]] [] [(.via 6 6,.nm 9)]
def y':=bQ 2 [(0,ar 0 0),(4,ar 1 0),(5,ar 2 0),(6,ar 3 0),(10,aa ab)] [.box [.hole (aw 6),.hole (.slice (.int .u8)),.hole .bool],.box [.hole ab,.hole .bool,.hole ab,.hole .str,.hole ab,.aL,.aL,.aL],.box [.hole ab,.hole .str,.hole ab,.hole ab,.hole ab,.hole (aw 7),.hole (aw 8),.hole ab,.hole ab,.hole .bool],.box [.hole ab,.hole .bool,.hole ab,.hole .str,.hole ab,.hole (aw 9),.hole (aw 9),.hole (aw 10)]] [bw (.exit 5) [(4,ar 1 0),(6,ar 2 0)] [.box [.hole (aw 6),.hole (.slice (.int .u8)),.hole .bool],.box [.hole ab,.hole .bool,.hole ab,.hole .str,.hole ab,.aL,.aL,.aL],.box [.hole ab,.hole .bool,.hole ab,.hole .str,.hole ab,.hole (aw 9),.hole (aw 9),.hole (aw 10)]]]
def rm:=aV 182 [ar 0 0,aa ab] (.row 9) [yB,yC,y'] [.box [.hole (aw 6),.hole (.slice (.int .u8)),.hole .bool]] [.box [.hole (aw 6),.hole (.slice (.int .u8)),.hole .bool]]
def abJ:=aV 110 [.row 11,aa ab,aa (.slice (.int .u8))] (.row 9)
def abK:=aV 111 [.row 11,aa ab,aa (.slice (.int .u8))] (.row 9)
def acL:=aV 60 [.row 21] (.a6 [.row 11,aa ab,.row 9,.row 9,aa .bool])
def Ls:=bQ 0 [(1,aa ab),(2,ar 0 0),(5,aa ab)] [.ba 9] [bw (.exit 0) [(1,aa ab),(2,ar 0 0)] [.ba 9]]
def za:=bQ 1 [(1,aa ab),(2,ar 0 0),(6,aa ab)] [.ba 9] [bw (.exit 2) [(1,aa ab),(2,ar 0 0)] [.ba 9]]
def zb:=bQ 2 [(1,aa ab),(2,ar 0 0),(7,aa ab)] [.ba 9] [bw (.exit 4) [(1,aa ab)]]
def wk:=aV 112 [.row 9,aa ab] (aa ab) [Ls,za,zb]
def acM:=aV 61 [.row 9] (aa .bool)
def ack:=aV 24 [.row 20] (.a6 [.row 11,.row 11,aa ab,.row 9,aa .bool])
def abL:=aV 113 [.row 11,aa ab,.row 9] (aa .bool)
def acN:=aV 62 [.row 11,aa ab,.row 9] (aa ab)
def wy:=bQ 0 [(3,ar 0 0),(5,ar 1 0),(7,ar 2 0),(8,aa ab),(9,aa ab)] [cg (aw 6),.ba 9,.ba 6] [bw (.exit 0) [(5,ar 0 0),(8,aa ab)] [.ba 9]]
def Af:=aV 64 [.row 11,aa ab,.row 9] (aa ab) [wy]
def acp:=aV 25 [.row 11,aa ab,.row 9] (.a6 [aa .str,aa ab])
def og:=aV 7 [.row 20] (aa .bool)
def e8:=aV 8 [.row 12,.row 12,.row 17] (aa .bool)
def aeD:List et:=[acZ,acH,NA,Ns,Nn,Cs,wq,Nu,Nt,Na,No,Np,M8,Nq,M9,Nr,M',MM,MN,Mx]
def aeE:List et:=[MR,My,MT,MS,Mz,MA,MV,MU,MB,Ad,Ae,Ac,zV,MG,Nh,MW,Ni,MY,Nj,MZ]
def aeF:List et:=[MX,MC,rl,NI,M6,MK,M7,ML,Mw,NQ,Dp,acY,NB,NC,ND,aca,ab0,acb,acd,MI]
def aeG:List et:=[Mu,MJ,M4,tG,tH,B4,wo,M5,M3,MH,M1,Nk,Nl,MD,ME,Mt,MF,M0,NL,NM]
def aeH:List et:=[zW,zX,pJ,NJ,pL,zY,zZ,z6,wj,NK,ace,ab1,ac0,NF,acf,ab2,ac3,NG,MO,MP]
def aeI:List et:=[MQ,oe,Nx,Nv,Nb,z7,Nw,Nc,z8,z',Nd,Ng,Nf,tI,Aa,wm,Ms,NH,Ab,Dm]
def aeJ:List et:=[ac5,ac1,acI,acJ,Dj,abW,acP,Dn,pK]
def mL:List et:=aeD++aeE++aeF++aeG++aeH++aeI++aeJ
theorem nw:mL.all (sY prog)=true:=by kernel_rfl
def mh:cw cn:={EI with F:=Eo (α:=cn.D 14) lk}
theorem nC:fc prog mh:=⟨EJ.1,λh r a=>EJ.2 h r (Zj Er _ r a)⟩
noncomputable def uJ:cw cn:=Mv.s (OM (j4 prog mL [lA,lC,lE,mh,lK,lG] 3000 Dp) (j4 prog mL [lA,lC,lE,mh,lK,lG] 3000 NB) (j4 prog mL [lA,lC,lE,mh,lK,lG] 3000 NC) (j4 prog mL [lA,lC,lE,mh,lK,lG] 3000 ND) (j4 prog mL [lA,lC,lE,mh,lK,lG] 3000 NF) (j4 prog mL [lA,lC,lE,mh,lK,lG] 3000 NG))
theorem w1:fc prog uJ:=abd (.run nw (.k k0 (.k lD (.k lF (.k nC (.k mB (.k nx .n)))))) (.m (by kernel_rfl)) 3000 λ_=>rfl) (.run nw (.k k0 (.k lD (.k lF (.k nC (.k mB (.k nx .n)))))) (.m (by kernel_rfl)) 3000 λ_=>rfl) (.run nw (.k k0 (.k lD (.k lF (.k nC (.k mB (.k nx .n)))))) (.m (by kernel_rfl)) 3000 λ_=>rfl) (.run nw (.k k0 (.k lD (.k lF (.k nC (.k mB (.k nx .n)))))) (.m (by kernel_rfl)) 3000 λ_=>rfl) (.run nw (.k k0 (.k lD (.k lF (.k nC (.k mB (.k nx .n)))))) (.m (by kernel_rfl)) 3000 λ_=>rfl) (.run nw (.k k0 (.k lD (.k lF (.k nC (.k mB (.k nx .n)))))) (.m (by kernel_rfl)) 3000 λ_=>rfl)
def AP(high:Int):Option dZ:=
 some (⟨(⟨[(⟨7,[],0,0,2,[],[],0,1,false⟩:ah),(⟨2,[],0,high,0,[],[],0,0,false⟩:ah)]⟩:bl),0⟩:dZ)
theorem TG:bm NA AP:= .bA
noncomputable def rI:dZ×dZ×List cQ->Option Bool:=uJ.F
theorem SH:bm Mv rI:=w1
noncomputable def xD:dZ×dZ×ao->Option Bool:=j4 prog mL [uJ,lA,lC,lE,mh,lK,lG] 3000 Ab
theorem TH:bm Ab xD:= .run nw (.k w1 (.k k0 (.k lD (.k lF (.k nC (.k mB (.k nx .n))))))) (.m (by kernel_rfl)) 3000 λ_=>rfl
noncomputable def xd:dZ×dZ×List cQ->Option Bool:=j4 prog mL [uJ,lA,lC,lE,mh,lK,lG] 3000 Dm
theorem UH:bm Dm xd:= .run nw (.k w1 (.k k0 (.k lD (.k lF (.k nC (.k mB (.k nx .n))))))) (.m (by kernel_rfl)) 3000 λ_=>rfl
noncomputable def xa:dZ×dZ×kB->Option Bool:=j4 prog mL [uJ,lA,lC,lE,mh,lK,lG] 3000 Dj
theorem Te:bm Dj xa:= .run nw (.k w1 (.k k0 (.k lD (.k lF (.k nC (.k mB (.k nx .n))))))) (.m (by kernel_rfl)) 3000 λ_=>rfl
noncomputable def rR:kB->Option ao:=j4 prog mL [uJ,lA,lC,lE,mh,lK,lG] 3000 Dn
theorem Ts:bm Dn rR:= .run nw (.k w1 (.k k0 (.k lD (.k lF (.k nC (.k mB (.k nx .n))))))) (.m (by kernel_rfl)) 3000 λ_=>rfl
def E1(rI:dZ×dZ×List cQ->Option Bool)(xD:dZ×dZ×ao->Option Bool)(xd:dZ×dZ×List cQ->Option Bool)(xa:dZ×dZ×kB->Option Bool)(rR:kB->Option ao):Option Bool:=
 AP 9>>=λr=>AP 20>>=λa=>rI (r,a,[(⟨0,0⟩:cQ),(⟨1,1⟩:cQ)])>>=λb=>some [(⟨0,0⟩:cQ),(⟨1,1⟩:cQ)]>>=λt18=>if(ez 0 1 t18.length||(!b)) then (if b then rI (r,a,e1 t18 0 1)else some false)>>=λc=>some (bif b then(!c)else false)>>=λt22=>(if t22 then xD (a,r,[1,40])else some false)>>=λd=>some (bif t22 then d else false)>>=λt27=>(if t27 then xd (a,r,[(⟨0,0⟩:cQ),(⟨1,1⟩:cQ)])else some false)>>=λe=>some (bif t27 then e else false)>>=λt33=>(if t33 then xa (a,r,(⟨false,[],[1,40]⟩:kB))else some false)>>=λf=>some (bif t33 then f else false)>>=λt39=>(if t39 then rR (⟨false,[],[1,40]⟩:kB)else some [])>>=λg=>some (bif t39 then decide (g=[109,105,115,114,101,97,100,32,34,92,120,48,49,40,34,10])else false)>>=λt44=>(if t44 then rR (⟨true,[(⟨0,0⟩:cQ),(⟨1,1⟩:cQ)],[]⟩:kB)else some [])>>=λi=>some (bif t44 then decide (i=[99,111,109,112,97,116,105,98,108,101,10,48,32,48,10,49,32,49,10])else false)else none
noncomputable def E2 (_:Unit):Option Bool:=E1 rI xD xd xa rR
theorem SI:bm pK E2:= .bA (.k TG (.k SH (.k TH (.k UH (.k Te (.k Ts .n))))))
def hE(n:Int):dZ:=⟨⟨[⟨7,[],0,0,2,[],[],0,1,false⟩,⟨2,[],0,n,0,[],[],0,0,false⟩]⟩,0⟩
theorem aaI(n:Int):AP n=some (hE n):=rfl
theorem abx:rI (hE 9,hE 20,[⟨0,0⟩,⟨1,1⟩])=some true:=by kernel_rfl
theorem aby:rI (hE 9,hE 20,[⟨0,0⟩])=some false:=by kernel_rfl
theorem abp:xD (hE 20,hE 9,[1,40])=some true:=by kernel_rfl
theorem abw:xd (hE 20,hE 9,[⟨0,0⟩,⟨1,1⟩])=some true:=by kernel_rfl
theorem abk:xa (hE 20,hE 9,⟨false,[],[1,40]⟩)=some true:=by kernel_rfl
theorem abm:rR ⟨false,[],[1,40]⟩=some [109,105,115,114,101,97,100,32,34,92,120,48,49,40,34,10]:=by kernel_rfl
theorem abn:rR ⟨true,[⟨0,0⟩,⟨1,1⟩],[]⟩=some [99,111,109,112,97,116,105,98,108,101,10,48,32,48,10,49,32,49,10]:=by kernel_rfl
theorem abz{C:dZ×dZ×kB->Option Bool}{F:kB->Option ao}
 (h1:R (hE 9,hE 20,[⟨0,0⟩,⟨1,1⟩])=some true)(a:R (hE 9,hE 20,[⟨0,0⟩])=some false)(b:M (hE 20,hE 9,[1,40])=some true)(c:P (hE 20,hE 9,[⟨0,0⟩,⟨1,1⟩])=some true)(bp:C (hE 20,hE 9,⟨false,[],[1,40]⟩)=some true)
 (d:F ⟨false,[],[1,40]⟩=some [109,105,115,114,101,97,100,32,34,92,120,48,49,40,34,10])(e:F ⟨true,[⟨0,0⟩,⟨1,1⟩],[]⟩=some [99,111,109,112,97,116,105,98,108,101,10,48,32,48,10,49,32,49,10]):E1 R M P C F=some true:=by
 have f:e1 [(⟨0,0⟩:cQ),⟨1,1⟩] 0 1=[⟨0,0⟩]:=rfl;unfold E1;simp only[a8,aq,aaI];rw[h1];simp only[aq,dU,hQ,b7,f];rw[a,b,c];simp only[aq,fz,eS,b7];rw[bp,d,e];rfl
theorem Xo:E2 ()=some true:=abz abx aby abp abw abk abm abn
def xE(_:Unit):Option Bool:=some true
theorem TI:bm pK xE:=by
 have:E2=xE:=by funext x;exact Xo
 rw[<-this];exact SI
theorem PF:xE ()=some true:=rfl
def pV:ek×Int->Option Int
 |(d,i)=>
 if aI i d.ed.length then some (aQ .i64 1 (b9 .i64 (cf (d.ed.getD i.toNat bt).Kind 9)))else none
theorem xt:bm acR pV:= .bA
def jV(a:Int):Option Bool:=
 some (bif bif decide (a=4)then true else decide (a=5)then true else decide (a=6))
theorem EZ:bm acS jV:= .bA
def o6(a:dp):Option Int:=
 some (dL .i64 (b9 .i64 (cf a.A 7)) 3)
theorem Eu:bm acT o6:= .bA
def rS(a:dp):Option Int:=
 o6 a>>=λr=>some (aQ .i64 r (b9 .i64 (cf a.B 6)))
theorem PT:bm acU rS:= .bA (.k Eu .n)
def o2:Int×dp×au->Option au
 |(i,b,a)=>
 if (i<6:Bool) then if (0<=i:Bool) then if (cf (lh .u8 b.A i) 2=1:Bool) then some [aQ .i64 i 1]>>=λt18=>if room 8 (a++t18).length then o2 (aQ .i64 i 1,b,a++t18)else none else o2 (aQ .i64 i 1,b,a)else none else some a
  partial_fixpoint
theorem SJ:cS 86 0 [0] NN o2:= .rx o2.partial_correctness
def nA(a:dp):Option au:=
 o2 (0,a,[])>>=λo=>if ((o.length:Int)=0:Bool) then some [1]>>=λt24=>if room 8 (o++t24).length then some (o++t24)else none else some o
theorem PY:bm acV nA:= .bA .n (.k SJ .n)
def xu(a:Int):Option Bool:=
 some (decide (7<=a))
theorem PK:bm ab' xu:= .bA
def nd:Int×Int×List dp->Option ((Int) ⊕ (Unit))
 |(n,k,b)=>
 if (k<n:Bool) then pV ((⟨b⟩:ek),k)>>=λa=>xu a>>=λc=>if c then some (.inl k)else nd (n,aQ .i64 k 1,b)else some (.inr ())
  partial_fixpoint
theorem SY:cS 138 0 [0] KG nd:= .rx nd.partial_correctness (.k xt (.k PK .n))
def xv(c:ek×Int×Int):Option Int:=
 match c with
 |(d,i,code)=>
 some (d.ed.length:Int)>>=λt12=>if !(t12=0:Bool) then some (cf (b9 .i64 code) t12)>>=λt16=>pV (d,t16)>>=λr=>xu r>>=λb=>if(bif b then true else (t16<i:Bool)) then some t16 else if (0<i:Bool) then if !(i=0:Bool) then some (cf t16 i)else none else nd (t12,0,d.ed)>>=λo=>match o with
 |.inl a=>
 some a
 |.inr e=>
 some (-1)else none
theorem SK:bm abX xv:= .bA (.k xt (.k PK .n)) (.k SY .n)
def wV(a:Int):Option Bool:=
 some (bif decide (1<=a)then decide (a<=4)else false)
theorem PI:bm abZ wV:= .bA
def nn:Int×Int×Int×List dp->Option ((Int) ⊕ (Unit))
 |(a,n,k,b)=>
 if (k<n:Bool) then if !(n=0:Bool) then some (cf (aQ .i64 (b9 .i64 a) k) n)>>=λt21=>pV ((⟨b⟩:ek),t21)>>=λr=>wV r>>=λc=>if c then some (.inl t21)else nn (a,n,aQ .i64 k 1,b)else none else some (.inr ())
  partial_fixpoint
theorem SL:cS 88 0 [0] NP nn:= .rx nn.partial_correctness (.k xt (.k PI .n))
def rX(b:ek×Int):Option Int:=
 match b with
 |(d,code)=>
 nn (code,(d.ed.length:Int),0,d.ed)>>=λo=>match o with
 |.inl a=>
 some a
 |.inr c=>
 some (-1)
theorem PZ:bm acX rX:= .bA .n (.k SL .n)
def wW:ek×Int×Int->Option (I×Bool)
 |(d,t,code)=>
 if aI t d.ed.length then some (d.ed.getD t.toNat bt)>>=λa=>pV (d,t)>>=λr=>some (decide (r=8))>>=λt21=>(if t21 then rX (d,0)else some 0)>>=λc=>if(bif t21 then (c<0:Bool)else false) then some ((⟨7,false,0,[],0,[],[],[]⟩:I),true)else if (r=1:Bool) then some ((⟨r,decide (cf code 2=1),0,[],0,[],[],[]⟩:I),true)else if (r=2:Bool) then o6 a>>=λe=>rS a>>=λf=>o6 a>>=λg=>some (aQ .i64 (dL .i64 f g) 1)>>=λt47=>if !(t47=0:Bool) then some ((⟨r,false,aQ .i64 e (cf (b9 .i64 code) t47),[],0,[],[],[]⟩:I),true)else none else if (r=3:Bool) then if(bif (0<cf a.A 4:Bool)then (cf code 2=1:Bool)else false) then some ((⟨r,false,0,[97],0,[],[],[]⟩:I),true)else some ((⟨r,false,0,[],0,[],[],[]⟩:I),true)else if (r=4:Bool) then nA a>>=λb=>nA a>>=λi=>some (i.length:Int)>>=λt71=>if !(t71=0:Bool) then some (cf (b9 .i64 code) t71)>>=λt72=>if aI t72 b.length then some ((⟨r,false,0,[],b.getD t72.toNat 0,[],[],[]⟩:I),true)else none else none else some (decide (r=5))>>=λt77=>if t77 then if t77 then some ((⟨0,false,0,[],0,[],[],[]⟩:I),false)else some ((⟨r,false,0,[],0,[],[],[]⟩:I),true)else if (r=6:Bool) then some ((⟨0,false,0,[],0,[],[],[]⟩:I),false)else some ((⟨r,false,0,[],0,[],[],[]⟩:I),true)else none
theorem Ss:bm abY wW:= .bA (.k xt (.k PZ (.k Eu (.k PT (.k PY .n)))))
def ql:Int×Bool×Int×Int×List dp×dp×List aU->Option (Int×Bool×Int×List dp×dp×List aU)
 |(f,e,a,k,c,d,b)=>
 if (k<(d.cT.length:Int):Bool) then if aI k d.cT.length then some (d.cT.getD k.toNat iG)>>=λg=>xv ((⟨c⟩:ek),f,g.aB)>>=λr=>if(bif (!(aQ .i64 1 (b9 .i64 (cf g.ae 12))=a:Bool))then true else (r<0:Bool)) then ql (f,e,a,aQ .i64 k 1,c,d,b)else some (mq (b9 .i32 (aQ .i64 97 a)))>>=λt55=>if ([109].length+t55.length<=eo:Bool) then some ([109]++t55)>>=λt56=>if(bif e then (cf g.gX 4=1:Bool)else false) then if(bif e then (2<=cf g.gX 4:Bool)else false) then wW ((⟨c⟩:ek),r,gF .u8 g.gX 4)>>=λi=>some [(⟨a,t56,r,true,i.2,I.eta i.1⟩:aU)]>>=λt87=>if room 160 (b++t87).length then some (f,e,a,c,d,b++t87)else none else some [(⟨a,t56,r,true,false,(⟨0,false,0,[],0,[],[],[]⟩:I)⟩:aU)]>>=λl=>if room 160 (b++l).length then some (f,e,a,c,d,b++l)else none else if(bif e then (2<=cf g.gX 4:Bool)else false) then wW ((⟨c⟩:ek),r,gF .u8 g.gX 4)>>=λj=>some [(⟨a,t56,r,false,j.2,I.eta j.1⟩:aU)]>>=λm=>if room 160 (b++m).length then some (f,e,a,c,d,b++m)else none else some [(⟨a,t56,r,false,false,(⟨0,false,0,[],0,[],[],[]⟩:I)⟩:aU)]>>=λn=>if room 160 (b++n).length then some (f,e,a,c,d,b++n)else none else none else none else some (f,e,a,c,d,b)
  partial_fixpoint
theorem RT:cS 87 0 [0,0] KO ql:= .rx ql.partial_correctness (.k SK (.k Ss .n))
def qn:Int×Bool×Int×List dp×dp×List aU->Option (List aU)
 |(e,f,id,c,d,b)=>
 if (id<=12:Bool) then ql (e,f,id,0,c,d,b)>>=λa=>qn (a.1,a.2.1,aQ .i64 a.2.2.1 1,a.2.2.2.1,a.2.2.2.2.1,a.2.2.2.2.2)else some b
  partial_fixpoint
theorem S8:cS 87 0 [0] NO qn:= .rx qn.partial_correctness .n (.k RT .n)
def rK:ek×Int×Bool->Option (List aU)
 |(d,i,record)=>
 if aI i d.ed.length then qn (i,record,1,d.ed,d.ed.getD i.toNat bt,[])>>=λo=>some o else none
theorem TJ:bm acW rK:= .bA .n (.k S8 .n)
def oE:Int×Int×au×Int×List dp×Int×ao×Int×Int×Int×Int×Int×Bool×List ah×List c6->Option (Int×Int×List dp×Int×ao×Int×Int×Int×Int×Int×Bool×List ah×List c6)
 |(p,o,a,k,c,d,e,f,g,i,j,l,m,n,b)=>
 if (k<(a.length:Int):Bool) then if aI k a.length then if aI k a.length then some (mq (b9 .i32 (aQ .i64 97 (a.getD k.toNat 0))))>>=λt87=>if ([115].length+t87.length<=eo:Bool) then some [(⟨a.getD k.toNat 0,[115]++t87⟩:c6)]>>=λt90=>if room 24 (b++t90).length then oE (p,o,a,aQ .i64 k 1,c,d,e,f,g,i,j,l,m,n,b++t90)else none else none else none else none else some (p,o,c,d,e,f,g,i,j,l,m,n,b)
  partial_fixpoint
theorem St:cS 34 0 [0,0] KP oE:= .rx oE.partial_correctness
def fP:Int×Int×List dp×List ah->Option (List ah)
 |(n,i,b,a)=>
 if (i<n:Bool) then if aI i b.length then some (b.getD i.toNat bt)>>=λc=>pV ((⟨b⟩:ek),i)>>=λr=>jV r>>=λN=>if N then some (mq (b9 .i32 (aQ .i64 65 i)))>>=λt41=>if (r=2:Bool) then o6 c>>=λQ=>rS c>>=λR=>some [(⟨r,t41,Q,R,0,[],[],0,0,false⟩:ah)]>>=λt167=>if room 120 (a++t167).length then fP (n,aQ .i64 i 1,b,a++t167)else none else if (r=3:Bool) then some [(⟨r,t41,0,0,b9 .i64 (cf c.A 4),[],[],0,0,false⟩:ah)]>>=λo=>if room 120 (a++o).length then fP (n,aQ .i64 i 1,b,a++o)else none else if (r=4:Bool) then nA c>>=λS=>oE (n,i,S,0,b,r,t41,0,0,0,0,0,decide (cf c.B 2=1),a,[])>>=λd=>some [(⟨d.2.2.2.1,d.2.2.2.2.1,d.2.2.2.2.2.1,d.2.2.2.2.2.2.1,d.2.2.2.2.2.2.2.1,d.2.2.2.2.2.2.2.2.2.2.2.2,[],d.2.2.2.2.2.2.2.2.1,d.2.2.2.2.2.2.2.2.2.1,d.2.2.2.2.2.2.2.2.2.2.1⟩:ah)]>>=λD=>if room 120 (d.2.2.2.2.2.2.2.2.2.2.2.1++D).length then fP (d.1,aQ .i64 d.2.1 1,d.2.2.1,d.2.2.2.2.2.2.2.2.2.2.2.1++D)else none else if (r=5:Bool) then rK ((⟨b⟩:ek),i,true)>>=λT=>some [(⟨r,t41,0,0,0,[],T,0,0,false⟩:ah)]>>=λG=>if room 120 (a++G).length then fP (n,aQ .i64 i 1,b,a++G)else none else if (r=6:Bool) then rK ((⟨b⟩:ek),i,false)>>=λj=>if ((j.length:Int)=0:Bool) then some [(⟨5,t41,0,0,0,[],[],0,0,false⟩:ah)]>>=λH=>if room 120 (a++H).length then fP (n,aQ .i64 i 1,b,a++H)else none else some [(⟨r,t41,0,0,0,[],j,0,0,decide (cf c.B 2=1)⟩:ah)]>>=λI=>if room 120 (a++I).length then fP (n,aQ .i64 i 1,b,a++I)else none else if (r=7:Bool) then if !(n=0:Bool) then some [(⟨r,t41,0,0,b9 .i64 (cf c.A 4),[],[],0,cf (b9 .i64 c.C) n,false⟩:ah)]>>=λJ=>if room 120 (a++J).length then fP (n,aQ .i64 i 1,b,a++J)else none else none else if (r=8:Bool) then some (b9 .i64 (cf c.A 4))>>=λt135=>rX ((⟨b⟩:ek),c.B)>>=λk=>if !(n=0:Bool) then some (cf (b9 .i64 c.C) n)>>=λt144=>if (k<0:Bool) then some [(⟨7,[],0,0,t135,[],[],0,t144,false⟩:ah)]>>=λK=>if room 120 (a++K).length then fP (n,aQ .i64 i 1,b,a++K)else none else some [(⟨r,t41,0,0,t135,[],[],k,t144,false⟩:ah)]>>=λL=>if room 120 (a++L).length then fP (n,aQ .i64 i 1,b,a++L)else none else none else if (r=9:Bool) then if !(n=0:Bool) then some [(⟨r,t41,0,0,0,[],[],0,cf (b9 .i64 c.C) n,false⟩:ah)]>>=λM=>if room 120 (a++M).length then fP (n,aQ .i64 i 1,b,a++M)else none else none else some [(⟨r,t41,0,0,0,[],[],0,0,false⟩:ah)]>>=λp=>if room 120 (a++p).length then fP (n,aQ .i64 i 1,b,a++p)else none else if (r=2:Bool) then o6 c>>=λU=>rS c>>=λV=>some [(⟨r,[],U,V,0,[],[],0,0,false⟩:ah)]>>=λq=>if room 120 (a++q).length then fP (n,aQ .i64 i 1,b,a++q)else none else if (r=3:Bool) then some [(⟨r,[],0,0,b9 .i64 (cf c.A 4),[],[],0,0,false⟩:ah)]>>=λs=>if room 120 (a++s).length then fP (n,aQ .i64 i 1,b,a++s)else none else if (r=4:Bool) then nA c>>=λO=>oE (n,i,O,0,b,r,[],0,0,0,0,0,decide (cf c.B 2=1),a,[])>>=λe=>some [(⟨e.2.2.2.1,e.2.2.2.2.1,e.2.2.2.2.2.1,e.2.2.2.2.2.2.1,e.2.2.2.2.2.2.2.1,e.2.2.2.2.2.2.2.2.2.2.2.2,[],e.2.2.2.2.2.2.2.2.1,e.2.2.2.2.2.2.2.2.2.1,e.2.2.2.2.2.2.2.2.2.2.1⟩:ah)]>>=λt=>if room 120 (e.2.2.2.2.2.2.2.2.2.2.2.1++t).length then fP (e.1,aQ .i64 e.2.1 1,e.2.2.1,e.2.2.2.2.2.2.2.2.2.2.2.1++t)
 else none else if (r=5:Bool) then rK ((⟨b⟩:ek),i,true)>>=λP=>some [(⟨r,[],0,0,0,[],P,0,0,false⟩:ah)]>>=λu=>if room 120 (a++u).length then fP (n,aQ .i64 i 1,b,a++u)else none else if (r=6:Bool) then rK ((⟨b⟩:ek),i,false)>>=λf=>if ((f.length:Int)=0:Bool) then some [(⟨5,[],0,0,0,[],[],0,0,false⟩:ah)]>>=λv=>if room 120 (a++v).length then fP (n,aQ .i64 i 1,b,a++v)else none else some [(⟨r,[],0,0,0,[],f,0,0,decide (cf c.B 2=1)⟩:ah)]>>=λw=>if room 120 (a++w).length then fP (n,aQ .i64 i 1,b,a++w)else none else if (r=7:Bool) then if !(n=0:Bool) then some [(⟨r,[],0,0,b9 .i64 (cf c.A 4),[],[],0,cf (b9 .i64 c.C) n,false⟩:ah)]>>=λx=>if room 120 (a++x).length then fP (n,aQ .i64 i 1,b,a++x)else none else none else if (r=8:Bool) then some (b9 .i64 (cf c.A 4))>>=λl=>rX ((⟨b⟩:ek),c.B)>>=λg=>if !(n=0:Bool) then some (cf (b9 .i64 c.C) n)>>=λm=>if (g<0:Bool) then some [(⟨7,[],0,0,l,[],[],0,m,false⟩:ah)]>>=λy=>if room 120 (a++y).length then fP (n,aQ .i64 i 1,b,a++y)else none else some [(⟨r,[],0,0,l,[],[],g,m,false⟩:ah)]>>=λz=>if room 120 (a++z).length then fP (n,aQ .i64 i 1,b,a++z)else none else none else if (r=9:Bool) then if !(n=0:Bool) then some [(⟨r,[],0,0,0,[],[],0,cf (b9 .i64 c.C) n,false⟩:ah)]>>=λE=>if room 120 (a++E).length then fP (n,aQ .i64 i 1,b,a++E)else none else none else some [(⟨r,[],0,0,0,[],[],0,0,false⟩:ah)]>>=λF=>if room 120 (a++F).length then fP (n,aQ .i64 i 1,b,a++F)else none else none else some a
  partial_fixpoint
theorem TK:cS 34 0 [0] Ny fP:= .rx fP.partial_correctness (.k xt (.k EZ (.k Eu (.k PT (.k PY (.k TJ (.k PZ .n))))))) (.k St .n)
def p2(d:ek):Option (bl×Bool):=
 some (d.ed.length:Int)>>=λt13=>if(bif (t13<1:Bool)then true else (5<t13:Bool)) then some ((⟨[]⟩:bl),false)else fP (t13,0,d.ed,[])>>=λo=>some ((⟨o⟩:bl),true)
theorem Ph:bm acF p2:= .bA .n (.k TK .n)
def ho:List k3×Int×List dp->Option (List dp)
 |(d,i,a)=>
 if(bif (i<(d.length:Int):Bool)then (0<(a.length:Int):Bool)else false) then if aI i d.length then some (d.getD i.toNat nk)>>=λe=>some (a.length:Int)>>=λt38=>if !(t38=0:Bool) then some (cf (b9 .i64 e.Node) t38)>>=λt39=>if aI t39 a.length then if (t39.toNat<a.length:Bool) then some (a.getD t39.toNat bt).cT>>=λt46=>if room 3 ([]++t46).length then some ([]++t46)>>=λb=>if (t39.toNat<a.length:Bool) then if (t39.toNat=t39.toNat:Bool) then
 let n:=λc=>
 some (cf e.Kind 8)>>=λf=>if (f=0:Bool) then if (t39.toNat<a.length:Bool) then some (dL .u8 (aQ .u8 (a.getD t39.toNat bt).A (cf e.A 5)) 2)>>=λj=>if (t39.toNat<a.length:Bool) then ho (d,aQ .i64 i 1,(a.set t39.toNat (⟨(a.getD t39.toNat bt).Kind,j,(a.getD t39.toNat bt).B,(a.getD t39.toNat bt).C,(a.getD t39.toNat bt).cT⟩:dp)).set t39.toNat (⟨((a.set t39.toNat (⟨(a.getD t39.toNat bt).Kind,j,(a.getD t39.toNat bt).B,(a.getD t39.toNat bt).C,(a.getD t39.toNat bt).cT⟩:dp)).getD t39.toNat bt).Kind,((a.set t39.toNat (⟨(a.getD t39.toNat bt).Kind,j,(a.getD t39.toNat bt).B,(a.getD t39.toNat bt).C,(a.getD t39.toNat bt).cT⟩:dp)).getD t39.toNat bt).A,((a.set t39.toNat (⟨(a.getD t39.toNat bt).Kind,j,(a.getD t39.toNat bt).B,(a.getD t39.toNat bt).C,(a.getD t39.toNat bt).cT⟩:dp)).getD t39.toNat bt).B,((a.set t39.toNat (⟨(a.getD t39.toNat bt).Kind,j,(a.getD t39.toNat bt).B,(a.getD t39.toNat bt).C,(a.getD t39.toNat bt).cT⟩:dp)).getD t39.toNat bt).C,b⟩:dp))else none else none else if (f=1:Bool) then if (t39.toNat<a.length:Bool) then some (dL .u8 (aQ .u8 (a.getD t39.toNat bt).B (cf e.B 5)) 2)>>=λk=>if (t39.toNat<a.length:Bool) then ho (d,aQ .i64 i 1,(a.set t39.toNat (⟨(a.getD t39.toNat bt).Kind,(a.getD t39.toNat bt).A,k,(a.getD t39.toNat bt).C,(a.getD t39.toNat bt).cT⟩:dp)).set t39.toNat (⟨((a.set t39.toNat (⟨(a.getD t39.toNat bt).Kind,(a.getD t39.toNat bt).A,k,(a.getD t39.toNat bt).C,(a.getD t39.toNat bt).cT⟩:dp)).getD t39.toNat bt).Kind,((a.set t39.toNat (⟨(a.getD t39.toNat bt).Kind,(a.getD t39.toNat bt).A,k,(a.getD t39.toNat bt).C,(a.getD t39.toNat bt).cT⟩:dp)).getD t39.toNat bt).A,((a.set t39.toNat (⟨(a.getD t39.toNat bt).Kind,(a.getD t39.toNat bt).A,k,(a.getD t39.toNat bt).C,(a.getD t39.toNat bt).cT⟩:dp)).getD t39.toNat bt).B,((a.set t39.toNat (⟨(a.getD t39.toNat bt).Kind,(a.getD t39.toNat bt).A,k,(a.getD t39.toNat bt).C,(a.getD t39.toNat bt).cT⟩:dp)).getD t39.toNat bt).C,b⟩:dp))else none else none else if (f=2:Bool) then if (t39.toNat<a.length:Bool) then some (cf e.A 6)>>=λo=>if (0<=o:Bool) then some (td .u8 (a.getD t39.toNat bt).A (mK .u8 1 o))>>=λl=>if (t39.toNat<a.length:Bool) then ho (d,aQ .i64 i 1,(a.set t39.toNat (⟨(a.getD t39.toNat bt).Kind,l,(a.getD t39.toNat bt).B,(a.getD t39.toNat bt).C,(a.getD t39.toNat bt).cT⟩:dp)).set t39.toNat (⟨((a.set t39.toNat (⟨(a.getD t39.toNat bt).Kind,l,(a.getD t39.toNat bt).B,(a.getD t39.toNat bt).C,(a.getD t39.toNat bt).cT⟩:dp)).getD t39.toNat bt).Kind,((a.set t39.toNat (⟨(a.getD t39.toNat bt).Kind,l,(a.getD t39.toNat bt).B,(a.getD t39.toNat bt).C,(a.getD t39.toNat bt).cT⟩:dp)).getD t39.toNat bt).A,((a.set t39.toNat (⟨(a.getD t39.toNat bt).Kind,l,(a.getD t39.toNat bt).B,(a.getD t39.toNat bt).C,(a.getD t39.toNat bt).cT⟩:dp)).getD t39.toNat bt).B,((a.set t39.toNat (⟨(a.getD t39.toNat bt).Kind,l,(a.getD t39.toNat bt).B,(a.getD t39.toNat bt).C,(a.getD t39.toNat bt).cT⟩:dp)).getD t39.toNat bt).C,b⟩:dp))else none else none else none else if (f=3:Bool) then if (t39.toNat<a.length:Bool) then some (aQ .u8 (a.getD t39.toNat bt).C e.A)>>=λm=>if (t39.toNat<a.length:Bool) then ho (d,aQ .i64 i 1,(a.set t39.toNat (⟨(a.getD t39.toNat bt).Kind,(a.getD t39.toNat bt).A,(a.getD t39.toNat bt).B,m,(a.getD t39.toNat bt).cT⟩:dp)).set t39.toNat (⟨((a.set t39.toNat (⟨(a.getD t39.toNat bt).Kind,(a.getD t39.toNat bt).A,(a.getD t39.toNat bt).B,m,(a.getD t39.toNat bt).cT⟩:dp)).getD t39.toNat bt).Kind,((a.set t39.toNat (⟨(a.getD t39.toNat bt).Kind,(a.getD t39.toNat bt).A,(a.getD t39.toNat bt).B,m,(a.getD t39.toNat bt).cT⟩:dp)).getD t39.toNat bt).A,((a.set t39.toNat (⟨(a.getD t39.toNat bt).Kind,(a.getD t39.toNat bt).A,(a.getD t39.toNat bt).B,m,(a.getD t39.toNat bt).cT⟩:dp)).getD t39.toNat bt).B,((a.set t39.toNat (⟨(a.getD t39.toNat bt).Kind,(a.getD t39.toNat bt).A,(a.getD t39.toNat bt).B,m,(a.getD t39.toNat bt).cT⟩:dp)).getD t39.toNat bt).C,b⟩:dp))
 else none else none else if (f=4:Bool) then if (t39.toNat=t39.toNat:Bool) then if ((b.length:Int)<8:Bool) then if (t39.toNat=t39.toNat:Bool) then some [(⟨e.A,e.B,gF .u8 e.A 12⟩:lI)]>>=λp=>if room 3 (b++p).length then if (t39.toNat=t39.toNat:Bool) then ho (d,aQ .i64 i 1,a.set t39.toNat (⟨(a.getD t39.toNat bt).Kind,(a.getD t39.toNat bt).A,(a.getD t39.toNat bt).B,(a.getD t39.toNat bt).C,b++p⟩:dp))else none else none else none else ho (d,aQ .i64 i 1,a.set t39.toNat (⟨(a.getD t39.toNat bt).Kind,(a.getD t39.toNat bt).A,(a.getD t39.toNat bt).B,(a.getD t39.toNat bt).C,b⟩:dp))else none else if (f=5:Bool) then if (t39.toNat=t39.toNat:Bool) then if (0<(b.length:Int):Bool) then if (t39.toNat=t39.toNat:Bool) then if ez 0 c b.length then if (t39.toNat=t39.toNat:Bool) then some (aQ .i64 c 1)>>=λg=>if ez g (b.length:Int) b.length then if((c.toNat+((b.length:Int).toNat-g.toNat)<=b.length:Bool)&&(g.toNat+((b.length:Int).toNat-g.toNat)<=b.length:Bool)) then if (t39.toNat=t39.toNat:Bool) then ho (d,aQ .i64 i 1,a.set t39.toNat (⟨(a.getD t39.toNat bt).Kind,(a.getD t39.toNat bt).A,(a.getD t39.toNat bt).B,(a.getD t39.toNat bt).C,b.take c.toNat++(b.drop g.toNat).take ((b.length:Int).toNat-g.toNat)⟩:dp))else none else none else none else none else none else none else ho (d,aQ .i64 i 1,a.set t39.toNat (⟨(a.getD t39.toNat bt).Kind,(a.getD t39.toNat bt).A,(a.getD t39.toNat bt).B,(a.getD t39.toNat bt).C,b⟩:dp))else none else if (f=6:Bool) then if (t39.toNat=t39.toNat:Bool) then if (0<(b.length:Int):Bool) then if (t39.toNat=t39.toNat:Bool) then if aI c b.length then if (c.toNat<b.length:Bool) then ho (d,aQ .i64 i 1,a.set t39.toNat (⟨(a.getD t39.toNat bt).Kind,(a.getD t39.toNat bt).A,(a.getD t39.toNat bt).B,(a.getD t39.toNat bt).C,b.set c.toNat (⟨(b.getD c.toNat iG).ae,(b.getD c.toNat iG).aB,e.B⟩:lI)⟩:dp))else none else none else none else ho (d,aQ .i64 i 1,a.set t39.toNat (⟨(a.getD t39.toNat bt).Kind,(a.getD t39.toNat bt).A,(a.getD t39.toNat bt).B,(a.getD t39.toNat bt).C,b⟩:dp))else none else if (t39.toNat=t39.toNat:Bool) then if (0<(b.length:Int):Bool) then if (t39.toNat=t39.toNat:Bool) then if (t39.toNat=t39.toNat:Bool) then if aI c b.length then if (c.toNat<b.length:Bool) then if aI c b.length then if (c.toNat<b.length:Bool) then ho (d,aQ .i64 i 1,a.set t39.toNat (⟨(a.getD t39.toNat bt).Kind,(a.getD t39.toNat bt).A,(a.getD t39.toNat bt).B,(a.getD t39.toNat bt).C,b.set c.toNat (⟨(b.getD c.toNat iG).ae,aQ .u8 (b.getD c.toNat iG).aB e.B,(b.getD c.toNat iG).gX⟩:lI)⟩:dp))else none else none else none else none else none else none else ho (d,aQ .i64 i 1,a.set t39.toNat (⟨(a.getD t39.toNat bt).Kind,(a.getD t39.toNat bt).A,(a.getD t39.toNat bt).B,(a.getD t39.toNat bt).C,b⟩:dp))else none
 if (0<(b.length:Int):Bool) then if (t39.toNat=t39.toNat:Bool) then some (b.length:Int)>>=λt63=>if !(t63=0:Bool) then some (cf (b9 .i64 e.A) t63)>>=λt64=>n t64 else none else none else n 0 else none else none else none else none else none else none else none else some a
  partial_fixpoint
theorem RU:cS 35 0 [0] Nz ho:= .rx ho.partial_correctness
def Bj:ek×List k3->Option ek
 |(d,l)=>
 if room 32 ([]++d.ed).length then ho (l,0,[]++d.ed)>>=λo=>some (⟨o⟩:ek)else none
theorem Su:bm acG Bj:= .bA .n (.k RU .n)
def r2:List c6×List c6×Int×Int->Option ((Bool) ⊕ (Unit))
 |(a,b,c,t13)=>
 if (t13<c:Bool) then if aI t13 a.length then some (a.getD t13.toNat dR)>>=λd=>if aI t13 b.length then some (b.getD t13.toNat dR)>>=λe=>if !(fy d.ae e.ae&&(jd d.Name e.Name&&true)) then some (.inl false)else r2 (a,b,c,aQ .i64 t13 1)else none else none else some (.inr ())
  partial_fixpoint
theorem R0:cS 324 0 [0] J9 r2:= .rx r2.partial_correctness
def Be(c:List c6×List c6):Option Bool:=
 match c with
 |(s1,a)=>
 if !((s1.length:Int)=(a.length:Int):Bool) then some false else r2 (s1,a,(s1.length:Int),0)>>=λo=>match o with
 |.inl b=>
 some b
 |.inr d=>
 some true
theorem R2:bm Ns Be:= .bA .n (.k R0 .n)
def r3:List b6×List b6×Int×Int->Option ((Bool) ⊕ (Unit))
 |(a,b,c,t13)=>
 if (t13<c:Bool) then if aI t13 a.length then some (a.getD t13.toNat bS)>>=λd=>if aI t13 b.length then some (b.getD t13.toNat bS)>>=λe=>if !(fy d.ae e.ae&&(jd d.Data e.Data&&true)) then some (.inl false)else r3 (a,b,c,aQ .i64 t13 1)else none else none else some (.inr ())
  partial_fixpoint
theorem R3:cS 316 0 [0] Ka r3:= .rx r3.partial_correctness
def wO(c:List b6×List b6):Option Bool:=
 match c with
 |(s1,a)=>
 if !((s1.length:Int)=(a.length:Int):Bool) then some false else r3 (s1,a,(s1.length:Int),0)>>=λo=>match o with
 |.inl b=>
 some b
 |.inr d=>
 some true
theorem O5:bm Nn wO:= .bA .n (.k R3 .n)
mutual
def mj:I×I->Option Bool
 |(a,b)=>
 some (bif bif bif bif decide (a.Kind=b.Kind)then fg a.b5 b.b5 else false then decide (a.bo=b.bo)else false then decide (a.bx=b.bx)else false then decide (a.ae=b.ae)else false)>>=λt37=>(if t37 then wO (a.Rest,b.Rest)else some false)>>=λr=>some (bif t37 then r else false)>>=λt44=>(if t44 then wM (a.aG,b.aG)else some false)>>=λp=>some (bif t44 then p else false)>>=λt51=>(if t51 then wM (a.ai,b.ai)else some false)>>=λq=>some (bif t51 then q else false)
  partial_fixpoint
def wM(c:List I×List I):Option Bool:=
 match c with
 |(s1,f)=>
 if !((s1.length:Int)=(f.length:Int):Bool) then some false else tT (f,s1,(s1.length:Int),0)>>=λo=>match o with
 |.inl j=>
 some j
 |.inr t=>
 some true
  partial_fixpoint
def tT:List I×List I×Int×Int->Option ((Bool) ⊕ (Unit))
 |(e,t15,g,t17)=>
 if (t17<g:Bool) then if aI t17 t15.length then if aI t17 e.length then mj (I.eta (t15.getD t17.toNat az),I.eta (e.getD t17.toNat az))>>=λr=>if !r then some (.inl false)else tT (e,t15,g,aQ .i64 t17 1)else none else none else some (.inr ())
  partial_fixpoint
end
theorem Ui:eQ wq mj/\eQ Cs wM/\eY 317 0 [0] xV tT:=mj.mutual_partial_correctness (eM wq) (eM Cs) (eX 317 0 [0] xV)
 (λ_ h1 _ _ h=>eT h (.k O5 (.k (cC Cs h1) .n)))
 (λ_ a _ _ h=>eT h .n (.k (fb xV a) .n))
 (λ_ _ h0 a _ _ h=>fa xV a h (.k (cC wq h0) .n))
theorem Qy:bm wq mj:=cC _ Ui.1
def xe:aU×aU->Option Bool
 |(a,y)=>
 some (bif bif bif bif decide (a.ae=y.ae)then decide (a.Name=y.Name)else false then decide (a.aB=y.aB)else false then fg a.cv y.cv else false then fg a.bV y.bV else false)>>=λt37=>(if t37 then mj ((⟨a.bz.Kind,a.bz.b5,a.bz.bo,a.bz.bx,a.bz.ae,a.bz.aG,a.bz.ai,a.bz.Rest⟩:I),I.eta y.bz)else some false)>>=λr=>some (bif t37 then r else false)
theorem UI:bm Nu xe:= .bA (.k Qy .n)
def oi:List aU×List aU×Int×Int->Option ((Bool) ⊕ (Unit))
 |(c,t15,d,t17)=>
 if (t17<d:Bool) then if aI t17 t15.length then some (t15.getD t17.toNat aD)>>=λa=>if aI t17 c.length then some (c.getD t17.toNat aD)>>=λb=>xe ((⟨a.ae,a.Name,a.aB,a.cv,a.bV,I.eta a.bz⟩:aU),(⟨b.ae,b.Name,b.aB,b.cv,b.bV,I.eta b.bz⟩:aU))>>=λr=>if !r then some (.inl false)else oi (c,t15,d,aQ .i64 t17 1)else none else none else some (.inr ())
  partial_fixpoint
theorem Sd:cS 325 0 [0] Kb oi:= .rx oi.partial_correctness (.k UI .n)
def Bc(c:List aU×List aU):Option Bool:=
 match c with
 |(s1,a)=>
 if !((s1.length:Int)=(a.length:Int):Bool) then some false else oi (a,s1,(s1.length:Int),0)>>=λo=>match o with
 |.inl b=>
 some b
 |.inr d=>
 some true
theorem Se:bm Nt Bc:= .bA .n (.k Sd .n)
def hI:ah×ah->Option Bool
 |(a,b)=>
 some (bif bif bif bif bif bif bif decide (a.Kind=b.Kind)then decide (a.Name=b.Name)else false then decide (a.bE=b.bE)else false then decide (a.bG=b.bG)else false then decide (a.Max=b.Max)else false then decide (a.Key=b.Key)else false then decide (a.aC=b.aC)else false then fg a.Open b.Open else false)>>=λt58=>(if t58 then Be (a.bg,b.bg)else some false)>>=λr=>some (bif t58 then r else false)>>=λt65=>(if t65 then Bc (a.ag,b.ag)else some false)>>=λc=>some (bif t65 then c else false)
theorem Vn:bm Na hI:= .bA (.k R2 (.k Se .n))
def xf(c:Int):Option Bool:=
 some (bif bif decide (c=95)then true else bif decide (97<=c)then decide (c<=122)else false then true else bif decide (65<=c)then decide (c<=90)else false)
theorem Pj:bm No xf:= .bA
def A5(c:Int):Option Bool:=
 some (bif decide (48<=c)then decide (c<=57)else false)
theorem Uj:bm Np A5:= .bA
def lL:ao×Int×Int->Option ((Bool) ⊕ (Unit))
 |(a,b,t19)=>
 if (t19<b:Bool) then if aI t19 a.length then xf (hU a t19)>>=λc=>some (!c)>>=λt26=>if(aI t19 a.length||(!t26)) then (if t26 then A5 (hU a t19)else some false)>>=λd=>if(bif t26 then(!d)else false) then some (.inl false)else lL (a,b,aQ .i64 t19 1)else none else none else some (.inr ())
  partial_fixpoint
theorem Tf:cS 275 0 [0] Kc lL:= .rx lL.partial_correctness (.k Pj (.k Uj .n))
def kx(s:ao):Option Bool:=
 some (bif decide (s=[])then true else decide (24<(s.length:Int)))>>=λt10=>if(aI 0 s.length||(!(!t10))) then (if !t10 then xf (hU s 0)else some false)>>=λr=>if(bif t10 then true else(!r)) then some false else lL (s,(s.length:Int),0)>>=λo=>match o with
 |.inl a=>
 some a
 |.inr b=>
 some true else none
theorem PB:bm M8 kx:= .bA (.k Pj .n) (.k Tf .n)
def o8:au×List ao×au×Int×Int×List ao->Option ((Bool) ⊕ au)
 |(c,a,t9,e,t11,b)=>
 if (t11<e:Bool) then if aI t11 t9.length then some (t9.getD t11.toNat 0)>>=λd=>some (bif decide (d<1)then true else decide (1000<d))>>=λt21=>some (decide (0<t11))>>=λt24=>some (dL .i64 t11 1)>>=λt29=>if(aI t29 c.length||(!((!t21)&&t24))) then some (bif t21 then true else bif t24 then decide (d<=c.getD t29.toNat 0)else false)>>=λt34=>if(aI t11 a.length||(!(!t34))) then some (bif t34 then true else iO b (a.getD t11.toNat []))>>=λt42=>if(aI t11 a.length||(!(!t42))) then (if !t42 then kx (a.getD t11.toNat [])else some false)>>=λr=>if(bif t42 then true else(!r)) then some (.inl false)else if aI t11 a.length then o8 (c,a,t9,e,aQ .i64 t11 1,iC b (a.getD t11.toNat []))else none else none else none else none else none else some (.inr c)
  partial_fixpoint
theorem Uk:cS 322 0 [0] Kd o8:= .rx o8.partial_correctness (.k PB .n)
def yy(c:au×List ao):Option Bool:=
 match c with
 |(l,names)=>
 o8 (l,names,l,(l.length:Int),0,[])>>=λo=>match o with
 |.inl a=>
 some a
 |.inr b=>
 some (decide ((b.length:Int)<=16))
theorem QQ:bm Nq yy:= .bA .n (.k Uk .n)
def qx:List c6×List c6×Int×Int×au×List ao->Option (List c6×au×List ao)
 |(c,t7,d,t9,a,b)=>
 if (t9<d:Bool) then if aI t9 t7.length then some (t7.getD t9.toNat dR)>>=λe=>some [e.ae]>>=λt16=>if room 8 (a++t16).length then some [e.Name]>>=λt21=>if room 16 (b++t21).length then qx (c,t7,d,aQ .i64 t9 1,a++t16,b++t21)else none else none else none else some (c,a,b)
  partial_fixpoint
theorem TL:cS 276 0 [0] Ke qx:= .rx qx.partial_correctness
def ud(l:List c6):Option Bool:=
 qx (l,l,(l.length:Int),0,[],[])>>=λo=>some (decide (0<(o.1.length:Int)))>>=λt26=>(if t26 then yy (o.2.1,o.2.2)else some false)>>=λr=>some (bif t26 then r else false)
theorem UJ:bm M9 ud:= .bA (.k QQ .n) (.k TL .n)
def AN(v:I):Option Bool:=
 mj (I.eta v,(⟨0,false,0,[],0,[],[],[]⟩:I))>>=λr=>some r
theorem Vo:bm Nr AN:= .bA (.k Qy .n)
def o3:List aU×Int×Int×ah×au×List ao->Option ((Bool) ⊕ (ah×au×List ao))
 |(t8,e,t10,b,c,d)=>
 if (t10<e:Bool) then if aI t10 t8.length then some (t8.getD t10.toNat aD)>>=λa=>some [a.ae]>>=λt17=>if room 8 (c++t17).length then some [a.Name]>>=λt22=>if room 16 (d++t22).length then some (bif bif decide (b.Kind=6)then bif a.cv then true else a.bV else false then true else bif a.cv then a.bV else false)>>=λt42=>some (!a.bV)>>=λt46=>(if((!t42)&&t46) then AN (I.eta a.bz)else some false)>>=λf=>if(bif t42 then true else bif t46 then(!f)else false) then some (.inl false)else o3 (t8,e,aQ .i64 t10 1,b,c++t17,d++t22)else none else none else none else some (.inr (b,c,d))
  partial_fixpoint
theorem TM:cS 277 0 [0] Kf o3:= .rx o3.partial_correctness (.k Vo .n)
def rY(t:ah):Option Bool:=
 o3 (t.ag,(t.ag.length:Int),0,t,[],[])>>=λo=>match o with
 |.inl b=>
 some b
 |.inr a=>
 some (bif decide (a.1.Kind=5)then true else decide (0<(a.2.1.length:Int)))>>=λt62=>(if t62 then yy (a.2.1,a.2.2)else some false)>>=λr=>some (bif t62 then r else false)
theorem UK:bm M' rY:= .bA (.k QQ .n) (.k TM .n)
def gr(t:ah):Option Bool:=
 if (t.Kind=1:Bool) then hI ((⟨0,t.Name,t.bE,t.bG,t.Max,t.bg,t.ag,t.Key,t.aC,t.Open⟩:ah),(⟨0,[],0,0,0,[],[],0,0,false⟩:ah))>>=λr=>some r else if (t.Kind=2:Bool) then some (decide (t.bE<=t.bG))>>=λt17=>(if t17 then hI ((⟨0,t.Name,0,0,t.Max,t.bg,t.ag,t.Key,t.aC,t.Open⟩:ah),(⟨0,[],0,0,0,[],[],0,0,false⟩:ah))else some false)>>=λj=>some (bif t17 then j else false)else if (t.Kind=3:Bool) then some (bif decide (0<=t.Max)then decide (t.Max<=200)else false)>>=λt29=>(if t29 then hI ((⟨0,t.Name,t.bE,t.bG,0,t.bg,t.ag,t.Key,t.aC,t.Open⟩:ah),(⟨0,[],0,0,0,[],[],0,0,false⟩:ah))else some false)>>=λv=>some (bif t29 then v else false)else if (t.Kind=4:Bool) then kx t.Name>>=λe=>(if e then ud t.bg else some false)>>=λA=>some (bif e then A else false)>>=λt40=>(if t40 then hI ((⟨0,[],t.bE,t.bG,t.Max,[],t.ag,t.Key,t.aC,false⟩:ah),(⟨0,[],0,0,0,[],[],0,0,false⟩:ah))else some false)>>=λB=>some (bif t40 then B else false)else some (decide (t.Kind=5))>>=λt45=>if t45 then if t45 then kx t.Name>>=λf=>(if f then rY t else some false)>>=λC=>some (bif f then C else false)>>=λt53=>(if t53 then hI ((⟨0,[],t.bE,t.bG,t.Max,t.bg,[],t.Key,t.aC,bif t.Open then decide (t.Kind=5)else false⟩:ah),(⟨0,[],0,0,0,[],[],0,0,false⟩:ah))else some false)>>=λD=>some (bif t53 then D else false)else some (decide (t.Kind=7))>>=λt65=>if t65 then if t65 then some (bif decide (0<=t.Max)then decide (t.Max<=50)else false)>>=λt74=>if (t.Kind=8:Bool) then (if t74 then hI ((⟨0,t.Name,t.bE,t.bG,0,t.bg,t.ag,0,0,t.Open⟩:ah),(⟨0,[],0,0,0,[],[],0,0,false⟩:ah))else some false)>>=λE=>some (bif t74 then E else false)else (if t74 then hI ((⟨0,t.Name,t.bE,t.bG,0,t.bg,t.ag,t.Key,0,t.Open⟩:ah),(⟨0,[],0,0,0,[],[],0,0,false⟩:ah))else some false)>>=λk=>some (bif t74 then k else false)else if (t.Kind=9:Bool) then hI ((⟨0,t.Name,t.bE,t.bG,t.Max,t.bg,t.ag,t.Key,0,t.Open⟩:ah),(⟨0,[],0,0,0,[],[],0,0,false⟩:ah))>>=λl=>some l else some false else if (t.Kind=8:Bool) then some (bif decide (0<=t.Max)then decide (t.Max<=50)else false)>>=λa=>if (t.Kind=8:Bool) then (if a then hI ((⟨0,t.Name,t.bE,t.bG,0,t.bg,t.ag,0,0,t.Open⟩:ah),(⟨0,[],0,0,0,[],[],0,0,false⟩:ah))else some false)>>=λm=>some (bif a then m else false)else (if a then hI ((⟨0,t.Name,t.bE,t.bG,0,t.bg,t.ag,t.Key,0,t.Open⟩:ah),(⟨0,[],0,0,0,[],[],0,0,false⟩:ah))else some false)>>=λn=>some (bif a then n else false)else if (t.Kind=9:Bool) then hI ((⟨0,t.Name,t.bE,t.bG,t.Max,t.bg,t.ag,t.Key,0,t.Open⟩:ah),(⟨0,[],0,0,0,[],[],0,0,false⟩:ah))>>=λo=>some o else some false else if (t.Kind=6:Bool) then kx t.Name>>=λd=>(if d then rY t else some false)>>=λp=>some (bif d then p else false)>>=λg=>(if g then hI ((⟨0,[],t.bE,t.bG,t.Max,t.bg,[],t.Key,t.aC,bif t.Open then decide (t.Kind=5)else false⟩:ah),(⟨0,[],0,0,0,[],[],0,0,false⟩:ah))else some false)>>=λq=>some (bif g then q else false)else some (decide (t.Kind=7))>>=λi=>if i then if i then some (bif decide (0<=t.Max)then decide (t.Max<=50)else false)>>=λb=>if (t.Kind=8:Bool) then (if b then hI ((⟨0,t.Name,t.bE,t.bG,0,t.bg,t.ag,0,0,t.Open⟩:ah),(⟨0,[],0,0,0,[],[],0,0,false⟩:ah))else some false)>>=λs=>some (bif b then s else false)
 else (if b then hI ((⟨0,t.Name,t.bE,t.bG,0,t.bg,t.ag,t.Key,0,t.Open⟩:ah),(⟨0,[],0,0,0,[],[],0,0,false⟩:ah))else some false)>>=λu=>some (bif b then u else false)else if (t.Kind=9:Bool) then hI ((⟨0,t.Name,t.bE,t.bG,t.Max,t.bg,t.ag,t.Key,0,t.Open⟩:ah),(⟨0,[],0,0,0,[],[],0,0,false⟩:ah))>>=λw=>some w else some false else if (t.Kind=8:Bool) then some (bif decide (0<=t.Max)then decide (t.Max<=50)else false)>>=λc=>if (t.Kind=8:Bool) then (if c then hI ((⟨0,t.Name,t.bE,t.bG,0,t.bg,t.ag,0,0,t.Open⟩:ah),(⟨0,[],0,0,0,[],[],0,0,false⟩:ah))else some false)>>=λx=>some (bif c then x else false)else (if c then hI ((⟨0,t.Name,t.bE,t.bG,0,t.bg,t.ag,t.Key,0,t.Open⟩:ah),(⟨0,[],0,0,0,[],[],0,0,false⟩:ah))else some false)>>=λy=>some (bif c then y else false)else if (t.Kind=9:Bool) then hI ((⟨0,t.Name,t.bE,t.bG,t.Max,t.bg,t.ag,t.Key,0,t.Open⟩:ah),(⟨0,[],0,0,0,[],[],0,0,false⟩:ah))>>=λz=>some z else some false
theorem Vz:bm MM gr:= .bA (.k Vn (.k PB (.k UJ (.k UK .n))))
def rZ:List aU×Int×Int×ah×au->Option (ah×au)
 |(t7,c,t9,b,a)=>
 if (t9<c:Bool) then if aI t9 t7.length then some [(t7.getD t9.toNat aD).aB]>>=λt16=>if room 8 (a++t16).length then rZ (t7,c,aQ .i64 t9 1,b,a++t16)else none else none else some (b,a)
  partial_fixpoint
theorem UL:cS 207 0 [0] Kg rZ:= .rx rZ.partial_correctness
def Bt(t:ah):Option au:=
 rZ (t.ag,(t.ag.length:Int),0,t,[])>>=λo=>if (o.1.Kind=8:Bool) then some [o.1.Key]>>=λt25=>if room 8 (o.2++t25).length then some (o.2++t25)>>=λl=>if (7<=o.1.Kind:Bool) then some [o.1.aC]>>=λt33=>if room 8 (l++t33).length then some (l++t33)else none else some l else none else if (7<=o.1.Kind:Bool) then some [o.1.aC]>>=λa=>if room 8 (o.2++a).length then some (o.2++a)else none else some o.2
theorem VA:bm MN Bt:= .bA .n (.k UL .n)
def o4:List ah×Int×Int×au×Int×Int×List ah×List ao×Int×ao×Int×Int×Int×List c6×List aU×Int×Int×Bool->Option ((Int) ⊕ (List ah×Int×Int×List ah×List ao×Int×ao×Int×Int×Int×List c6×List aU×Int×Int×Bool))
 |(n,o,p,t38,q,t40,a,b,c,d,e,f,g,i,j,k,l,m)=>
 if (t40<q:Bool) then if aI t40 t38.length then some (t38.getD t40.toNat 0)>>=λr=>if(bif (r<0:Bool)then true else ((a.length:Int)<=r:Bool)) then some (.inl 4)else o4 (n,o,p,t38,q,aQ .i64 t40 1,a,b,c,d,e,f,g,i,j,k,l,m)else none else some (.inr (n,o,p,a,b,c,d,e,f,g,i,j,k,l,m))
  partial_fixpoint
theorem TN:cS 147 0 [0,0] IH o4:= .rx o4.partial_correctness
def p0(j:List ah×Int×Int×List ah×List ao):Option ((Int) ⊕ (Unit)):=
 match j with
 |(t14,f,t16,b,d)=>
 if (t16<f:Bool) then if aI t16 t14.length then some (t14.getD t16.toNat aN)>>=λa=>gr a>>=λr=>if(bif (!r)then true else bif (!(a.Name=[]:Bool))then iO d a.Name else false) then some (.inl 1)else Bt a>>=λe=>o4 (t14,f,t16,e,(e.length:Int),0,b,iC d a.Name,a.Kind,a.Name,a.bE,a.bG,a.Max,a.bg,a.ag,a.Key,a.aC,a.Open)>>=λg=>match g with
 |.inl i=>
 some (.inl i)
 |.inr c=>
 some (decide (c.2.2.2.2.2.1=8))>>=λt56=>if(aI c.2.2.2.2.2.2.2.2.2.2.2.2.1 c.2.2.2.1.length||(!t56)) then some (decide ((c.2.2.2.1.getD c.2.2.2.2.2.2.2.2.2.2.2.2.1.toNat aN).Kind<1))>>=λt65=>if(aI c.2.2.2.2.2.2.2.2.2.2.2.2.1 c.2.2.2.1.length||(!(t56&&(!t65)))) then if(bif t56 then bif t65 then true else (4<(c.2.2.2.1.getD c.2.2.2.2.2.2.2.2.2.2.2.2.1.toNat aN).Kind:Bool)else false) then some (.inl 1)else p0 (c.1,c.2.1,aQ .i64 c.2.2.1 1,c.2.2.2.1,c.2.2.2.2.1)else none else none else none else some (.inr ())
  partial_fixpoint
theorem Tg:cS 147 0 [0] Kh p0:= .rx p0.partial_correctness (.k Vz (.k VA .n)) (.k TN .n)
def pd(s:bl):Option Int:=
 if (32<(s.Types.length:Int):Bool) then some 3 else p0 (s.Types,(s.Types.length:Int),0,s.Types,[])>>=λo=>match o with
 |.inl a=>
 some a
 |.inr b=>
 some 0
theorem xg:bm Mx pd:= .bA .n (.k Tg .n)
def BG(v:I):Option I:=
 if (v.Kind=1:Bool) then some (⟨v.Kind,v.b5,0,[],0,[],[],[]⟩:I)else if (v.Kind=2:Bool) then some (⟨v.Kind,false,v.bo,[],0,[],[],[]⟩:I)else if (v.Kind=3:Bool) then some (⟨v.Kind,false,0,v.bx,0,[],[],[]⟩:I)else if (v.Kind=4:Bool) then some (⟨v.Kind,false,0,[],v.ae,[],[],[]⟩:I)else if (v.Kind=5:Bool) then some (⟨v.Kind,false,0,[],0,[],v.ai,v.Rest⟩:I)else if (v.Kind=6:Bool) then some (⟨v.Kind,false,0,[],v.ae,[],v.ai,v.Rest⟩:I)else if (v.Kind=8:Bool) then some (⟨v.Kind,false,0,[],0,v.aG,v.ai,[]⟩:I)else some (decide (v.Kind=7))>>=λt57=>if t57 then if t57 then some (⟨v.Kind,false,0,[],0,[],v.ai,[]⟩:I)else some (⟨v.Kind,false,0,[],0,[],[],[]⟩:I)else if (v.Kind=9:Bool) then some (⟨v.Kind,false,0,[],0,[],v.ai,[]⟩:I)else some (⟨v.Kind,false,0,[],0,[],[],[]⟩:I)
theorem US:bm MR BG:= .bA
def BS(v:I):Option Bool:=
 BG (I.eta v)>>=λr=>some (bif bif bif bif bif bif fg v.b5 r.b5 then decide (v.bo=r.bo)else false then decide (v.bx=r.bx)else false then decide (v.ae=r.ae)else false then decide ((v.aG.length:Int)=(r.aG.length:Int))else false then decide ((v.ai.length:Int)=(r.ai.length:Int))else false then decide ((v.Rest.length:Int)=(r.Rest.length:Int))else false)
theorem Vp:bm My BS:= .bA (.k US .n)
def Ez:c6×Int->Option (Bool×Int)
 |(a,b)=>
 some (decide (a.ae=b),b)
theorem Th:bm MT Ez:= .bA
def mZ:List c6×Int×Int×Int->Option ((Int×Int) ⊕ (Int))
 |(a,c,t8,b)=>
 if (t8<c:Bool) then if aI t8 a.length then Ez (a.getD t8.toNat dR,b)>>=λr=>if r.1 then some (.inl (t8,r.2))else mZ (a,c,aQ .i64 t8 1,r.2)else none else some (.inr b)
  partial_fixpoint
theorem Sg:cS 217 1 [0] Ki mZ:= .rx mZ.partial_correctness (.k Th .n)
def EP(d:List c6×Int):Option (Int×Int):=
 match d with
 |(s,b)=>
 mZ (s,(s.length:Int),0,b)>>=λo=>match o with
 |.inl a=>
 some (a.1,a.2)
 |.inr c=>
 some ((-1),c)
theorem RY:bm MS EP:= .bA .n (.k Sg .n)
def uf:ah×Int->Option (Int×Bool)
 |(t,id)=>
 EP (t.bg,id)>>=λr=>some (iw r.1 0,decide (0<=r.1))
theorem EA:bm Mz uf:= .bA (.k RY .n)
def yz(id:Int):Option Bool:=
 some (bif decide (1<=id)then decide (id<=1000)else false)
theorem QR:bm MA yz:= .bA
def EB:aU×Int->Option (Bool×Int)
 |(m,b)=>
 some (decide (m.ae=b),b)
theorem Ti:bm MV EB:= .bA
def oj:List aU×Int×Int×Int->Option ((Int×Int) ⊕ (Int))
 |(b,d,t8,c)=>
 if (t8<d:Bool) then if aI t8 b.length then some (b.getD t8.toNat aD)>>=λa=>EB ((⟨a.ae,a.Name,a.aB,a.cv,a.bV,I.eta a.bz⟩:aU),c)>>=λr=>if r.1 then some (.inl (t8,r.2))else oj (b,d,aQ .i64 t8 1,r.2)else none else some (.inr c)
  partial_fixpoint
theorem Sh:cS 219 1 [0] Lz oj:= .rx oj.partial_correctness (.k Ti .n)
def ER(d:List aU×Int):Option (Int×Int):=
 match d with
 |(s,b)=>
 oj (s,(s.length:Int),0,b)>>=λo=>match o with
 |.inl a=>
 some (a.1,a.2)
 |.inr c=>
 some ((-1),c)
theorem RZ:bm MU ER:= .bA .n (.k Sh .n)
def hG:ah×Int->Option (Int×Bool)
 |(t,id)=>
 ER (t.ag,id)>>=λr=>some (iw r.1 0,decide (0<=r.1))
theorem o7:bm MB hG:= .bA (.k RZ .n)
def k5:Bool×List b6×Int×Int×List ah×I×Int×ao×Int×Int×Int×List c6×List aU×Int×Int×Bool->Option ((Bool) ⊕ (Bool×List ah×Int×Bool×Int×ao×Int×List I×List I×List b6×Int×ao×Int×Int×Int×List c6×List aU×Int×Int×Bool))
 |(o,t111,q,t113,n,a,b,c,d,e,f,g,i,j,k,l)=>
 if (t113<q:Bool) then if aI t113 t111.length then some (t111.getD t113.toNat bS)>>=λm=>hG ((⟨b,c,d,e,f,g,i,j,k,l⟩:ah),m.ae)>>=λp=>(if !p.2 then yz m.ae else some false)>>=λr=>some (bif p.2 then true else(!r))>>=λt131=>some (decide (0<t113))>>=λt134=>some (dL .i64 t113 1)>>=λt141=>if(aI t141 a.Rest.length||(!((!t131)&&t134))) then if(bif t131 then true else bif t134 then (m.ae<=(a.Rest.getD t141.toNat bS).ae:Bool)else false) then some (.inl false)else k5 (o,t111,q,aQ .i64 t113 1,n,I.eta a,b,c,d,e,f,g,i,j,k,l)else none else none else some (.inr (o,n,a.Kind,a.b5,a.bo,a.bx,a.ae,a.aG,a.ai,a.Rest,b,c,d,e,f,g,i,j,k,l))
  partial_fixpoint
theorem Ul:cS 101 0 [0] LB k5:= .rx k5.partial_correctness (.k o7 (.k QR .n))
def Bn(a:Int):Option Bool:=
 some (!(decide (a=a)))
theorem Wo:bm Nh Bn:= .bA
def Bu:Int×Int->Option Int
 |(a,y)=>
 Bn a>>=λr=>Bn y>>=λb=>if r then if b then some 0 else some (-1)else if b then some 1 else if (a<y:Bool) then some (-1)else if (y<a:Bool) then some 1 else some 0
theorem VB:bm MW Bu:= .bA (.k Wo .n)
def Bv(a:Int):Option Bool:=
 some (!(decide (a=a)))
theorem VC:bm Ni Bv:= .bA
def xm:Int×Int->Option Int
 |(a,y)=>
 Bv a>>=λr=>Bv y>>=λb=>if r then if b then some 0 else some (-1)else if b then some 1 else if (a<y:Bool) then some (-1)else if (y<a:Bool) then some 1 else some 0
theorem Um:bm MY xm:= .bA (.k VC .n)
def Bw(a:ao):Option Bool:=
 some (!(decide (a=a)))
theorem VD:bm Nj Bw:= .bA
def A6:ao×ao->Option Int
 |(a,y)=>
 Bw a>>=λr=>Bw y>>=λb=>if r then if b then some 0 else some (-1)else if b then some 1 else if Op.bytesLess a y then some (-1)else if !(Op.bytesLess a y||(a=y:Bool)) then some 1 else some 0
theorem Un:bm MZ A6:= .bA (.k VD .n)
def qB:Int×au×Int×Int->Option ((Int) ⊕ (Int))
 |(a,t6,b,t8)=>
 if (t8<b:Bool) then if aI t8 t6.length then some (t6.getD t8.toNat 0)>>=λc=>if !(c=a:Bool) then some (.inl c)else qB (a,t6,b,aQ .i64 t8 1)else none else some (.inr a)
  partial_fixpoint
theorem VN:cS 224 0 [0] LA qB:= .rx qB.partial_correctness
def B5(a:au):Option Int:=
 qB (0,a,(a.length:Int),0)>>=λo=>match o with
 |.inl b=>
 some b
 |.inr c=>
 some c
theorem Zp:bm MX B5:= .bA .n (.k VN .n)
def ug(n:Int):Option Int:=
 some (td .u64 (mK .u64 (b9 .u64 n) 1) (b9 .u64 (lh .i64 n 63)))
theorem Po:bm MG ug:= .bA
def o9:I×I->Option Int
 |(a,b)=>
 if !(a.Kind=b.Kind:Bool) then some 0 else if (a.Kind=1:Bool) then if fg a.b5 b.b5 then some 0 else if b.b5 then some (-1)else some 1 else if (a.Kind=2:Bool) then ug a.bo>>=λr=>ug b.bo>>=λc=>Bu (r,c)>>=λd=>some d else if (a.Kind=3:Bool) then xm ((a.bx.length:Int),(b.bx.length:Int))>>=λe=>A6 (a.bx,b.bx)>>=λf=>B5 [e,f]>>=λg=>some g else if (a.Kind=4:Bool) then xm (a.ae,b.ae)>>=λi=>some i else some 0
theorem Pp:bm MC o9:= .bA (.k Po (.k VB (.k Um (.k Un (.k Zp .n)))))
def lM:Bool×Int×List ah×I×Int×ao×Int×Int×Int×List c6×List aU×Int×Int×Bool->Option ((Bool) ⊕ (Bool×List ah×I×Int×ao×Int×Int×Int×List c6×List aU×Int×Int×Bool))
 |(o,i,b,a,c,d,e,f,g,j,k,l,m,n)=>
 if (i<(a.aG.length:Int):Bool) then some (dL .i64 i 1)>>=λt291=>if aI t291 a.aG.length then if aI i a.aG.length then o9 (I.eta (a.aG.getD t291.toNat az),I.eta (a.aG.getD i.toNat az))>>=λp=>if (0<=p:Bool) then some (.inl false)else lM (o,aQ .i64 i 1,b,I.eta a,c,d,e,f,g,j,k,l,m,n)else none else none else some (.inr (o,b,I.eta a,c,d,e,f,g,j,k,l,m,n))
  partial_fixpoint
theorem Uo:cS 101 0 [2] LC lM:= .rx lM.partial_correctness (.k Pp .n)
mutual
def Bd:List I×List ah×Int×Bool->Option (Bool×List ah×Int×Bool)
 |(s,b,f,g)=>
 ES (s,b,f,g)>>=λr=>some (decide (0<=r.1),r.2.1,r.2.2.1,r.2.2.2)
  partial_fixpoint
def ES(e:List I×List ah×Int×Bool):Option (Int×List ah×Int×Bool):=
 match e with
 |(s,b,f,g)=>
 pP (s,(s.length:Int),0,b,f,g)>>=λo=>match o with
 |.inl j=>
 some (j.1,j.2.1,j.2.2.1,j.2.2.2)
 |.inr c=>
 some ((-1),c.1,c.2.1,c.2.2)
  partial_fixpoint
def qy:bl×Int×List I×Bool->Option Bool
 |(s,t,l,plain)=>
 Bd (l,s.Types,t,plain)>>=λr=>some (!r.1)
  partial_fixpoint
def FP:I×List ah×Int×Bool->Option (Bool×List ah×Int×Bool)
 |(v,b,f,g)=>
 jX ((⟨b⟩:bl),f,I.eta v,g)>>=λr=>some ((!r),b,f,g)
  partial_fixpoint
def jX(e:bl×Int×I×Bool):Option Bool:=
 match e with
 |(s,t,v,plain)=>
 if(bif (t<0:Bool)then true else ((s.Types.length:Int)<=t:Bool)) then some false else if aI t s.Types.length then some (s.Types.getD t.toNat aN)>>=λa=>some (!(decide (v.Kind=a.Kind)))>>=λt39=>(if !t39 then BS (I.eta v)else some false)>>=λr=>if(bif t39 then true else(!r)) then some false else if (a.Kind=2:Bool) then some (bif decide (a.bE<=v.bo)then decide (v.bo<=a.bG)else false)else if (a.Kind=3:Bool) then some (decide ((v.bx.length:Int)<=a.Max))else if (a.Kind=4:Bool) then uf (a,v.ae)>>=λF=>some (bif a.Open then(!plain)else false)>>=λt85=>(if((!F.2)&&t85) then yz v.ae else some false)>>=λam=>some (bif F.2 then true else bif t85 then am else false)else if (a.Kind=5:Bool) then if(bif (!((v.ai.length:Int)=(a.ag.length:Int):Bool))then true else bif plain then (0<(v.Rest.length:Int):Bool)else false) then some false else k5 (plain,v.Rest,(v.Rest.length:Int),0,s.Types,I.eta v,a.Kind,a.Name,a.bE,a.bG,a.Max,a.bg,a.ag,a.Key,a.aC,a.Open)>>=λo=>match o with
 |.inl j=>
 some j
 |.inr c=>
 o' (c.1,c.2.2.2.2.2.2.2.2.2.2.2.2.2.2.2.2.1,(c.2.2.2.2.2.2.2.2.2.2.2.2.2.2.2.2.1.length:Int),0,c.2.1,c.2.2.1,c.2.2.2.1,c.2.2.2.2.1,c.2.2.2.2.2.1,c.2.2.2.2.2.2.1,c.2.2.2.2.2.2.2.1,c.2.2.2.2.2.2.2.2.1,c.2.2.2.2.2.2.2.2.2.1)>>=λQ=>match Q with
 |.inl R=>
 some R
 |.inr av=>
 some true else if (a.Kind=6:Bool) then hG (a,v.ae)>>=λw=>if w.2 then some (bif decide ((v.ai.length:Int)=1)then decide ((v.Rest.length:Int)=0)else false)>>=λt188=>if(aI w.1 a.ag.length||(!t188)) then if(aI 0 v.ai.length||(!t188)) then (if t188 then jX ((⟨s.Types⟩:bl),(a.ag.getD w.1.toNat aD).aB,I.eta (v.ai.getD (0:Int).toNat az),plain)else some false)>>=λan=>some (bif t188 then an else false)else none else none else some (bif a.Open then(!plain)else false)>>=λt209=>(if t209 then yz v.ae else some false)>>=λap=>some (bif bif bif t209 then ap else false then decide ((v.ai.length:Int)=0)else false then decide ((v.Rest.length:Int)=1)else false)>>=λt226=>if(aI 0 v.Rest.length||(!t226)) then some (bif t226 then decide ((v.Rest.getD (0:Int).toNat bS).ae=v.ae)else false)else none else if (a.Kind=7:Bool) then some (decide ((v.ai.length:Int)<=a.Max))>>=λt244=>(if t244 then qy ((⟨s.Types⟩:bl),a.aC,v.ai,plain)else some false)>>=λW=>some (bif t244 then W else false)else if (a.Kind=8:Bool) then some (bif decide (a.Max<(v.aG.length:Int))then true else(!(decide ((v.ai.length:Int)=(v.aG.length:Int)))))>>=λt270=>(if !t270 then qy ((⟨s.Types⟩:bl),a.Key,v.aG,plain)else some false)>>=λX=>if(bif t270 then true else(!X)) then some false else lM (plain,1,s.Types,I.eta v,a.Kind,a.Name,a.bE,a.bG,a.Max,a.bg,a.ag,a.Key,a.aC,a.Open)>>=λS=>match S with
 |.inl U=>
 some U
 |.inr p=>
 qy ((⟨p.2.1⟩:bl),p.2.2.2.2.2.2.2.2.2.2.2.1,p.2.2.1.ai,p.1)>>=λY=>some Y else if (a.Kind=9:Bool) then some (decide ((v.ai.length:Int)<=1))>>=λt313=>(if t313 then qy ((⟨s.Types⟩:bl),a.aC,v.ai,plain)else some false)>>=λZ=>some (bif t313 then Z else false)else some true else none
  partial_fixpoint
def pP:List I×Int×Int×List ah×Int×Bool->Option ((Int×List ah×Int×Bool) ⊕ (List ah×Int×Bool))
 |(x,H,t8,D,y,A)=>
 if (t8<H:Bool) then if aI t8 x.length then FP (I.eta (x.getD t8.toNat az),D,y,A)>>=λr=>if r.1 then some (.inl (t8,r.2.1,r.2.2.1,r.2.2.2))else pP (x,H,aQ .i64 t8 1,r.2.1,r.2.2.1,r.2.2.2)else none else some (.inr (D,y,A))
  partial_fixpoint
def o':Bool×List aU×Int×Int×List ah×Int×Bool×Int×ao×Int×List I×List I×List b6->Option ((Bool) ⊕ (Unit))
 |(E,t150,G,t152,B,J,K,L,M,N,O,q,P)=>
 if (t152<G:Bool) then if aI t152 t150.length then if aI t152 q.length then jX ((⟨B⟩:bl),(t150.getD t152.toNat aD).aB,I.eta (q.getD t152.toNat az),E)>>=λad=>if !ad then some (.inl false)else o' (E,t150,G,aQ .i64 t152 1,B,J,K,L,M,N,O,q,P)else none else none else some (.inr ())
  partial_fixpoint
end
theorem RW:eQ Ac Bd/\eQ Ae ES/\eY 285 3 [0] yE pP/\eQ Ad FP/\eQ rl jX/\eQ zV qy/\eY 101 0 [1] yF o':=Bd.mutual_partial_correctness (eM Ac) (eM Ae) (eX 285 3 [0] yE) (eM Ad) (eM rl) (eM zV) (eX 101 0 [1] yF)
 (λ_ h1 _ _ h=>eT h (.k (cC Ae h1) .n))
 (λ_ b _ _ h=>eT h .n (.k (fb yE b) .n))
 (λ_ _ b d _ _ h=>fa yE b h (.k (cC Ad d) .n))
 (λ_ a _ _ h=>eT h (.k (cC rl a) .n))
 (λ_ _ _ a bp c _ _ h=>eT h (.k Vp (.k EA (.k QR (.k o7 (.k (cC rl a) (.k (cC zV bp) .n)))))) (.k Ul (.k (fb yF c) (.k Uo .n))))
 (λ_ h0 _ _ h=>eT h (.k (cC Ac h0) .n))
 (λ_ _ a c _ _ h=>fa yF c h (.k (cC rl a) .n))
theorem P':bm rl jX:=cC _ RW.2.2.2.2.1
def oG:bl×Int×I->Option Bool
 |(s,t,v)=>
 jX (s,t,I.eta v,true)>>=λr=>some r
theorem FC:bm NI oG:= .bA (.k P' .n)
def qt:Int×List ah×Int×Int×List aU×Int×Int×List ah->Option ((Int×Int×Int) ⊕ (List ah×Int×Int×List ah))
 |(i,c,d,e,t24,f,t26,b)=>
 if (t26<f:Bool) then if aI t26 t24.length then some (t24.getD t26.toNat aD)>>=λa=>(if a.bV then oG ((⟨b⟩:bl),a.aB,I.eta a.bz)else some false)>>=λg=>if(bif a.bV then(!g)else false) then some (.inl (i,a.ae,1))else qt (i,c,d,e,t24,f,aQ .i64 t26 1,b)else none else some (.inr (c,d,e,b))
  partial_fixpoint
theorem Sv:cS 270 0 [0,0] II qt:= .rx qt.partial_correctness (.k FC .n)
def pS(g:List ah×Int×Int×List ah):Option ((Int×Int×Int) ⊕ (Unit)):=
 match g with
 |(t16,d,t18,b)=>
 if (t18<d:Bool) then if aI t18 t16.length then some (t16.getD t18.toNat aN)>>=λe=>qt (t18,t16,d,t18,e.ag,(e.ag.length:Int),0,b)>>=λf=>match f with
 |.inl c=>
 some (.inl (c.1,c.2.1,c.2.2))
 |.inr a=>
 pS (a.1,a.2.1,aQ .i64 a.2.2.1 1,a.2.2.2)else none else some (.inr ())
  partial_fixpoint
theorem TO:cS 270 0 [0] LD pS:= .rx pS.partial_correctness .n (.k Sv .n)
def EK(s:bl):Option (Int×Int×Int):=
 pd s>>=λr=>if !(r=0:Bool) then some (0,0,r)else pS (s.Types,(s.Types.length:Int),0,s.Types)>>=λo=>match o with
 |.inl a=>
 some (a.1,a.2.1,a.2.2)
 |.inr b=>
 some (0,0,0)
theorem UM:bm M6 EK:= .bA (.k xg .n) (.k TO .n)
def A7(s:bl):Option Int:=
 pd s>>=λr=>if !(r=0:Bool) then some r else EK s>>=λa=>some a.2.2
theorem Up:bm MK A7:= .bA (.k xg (.k UM .n))
def pW:Int×List aU×Int×Int×au->Option (Int×au)
 |(c,t33,d,t35,a)=>
 if (t35<d:Bool) then if aI t35 t33.length then some (t33.getD t35.toNat aD)>>=λb=>if aI b.aB a.length then if (b.aB.toNat<a.length:Bool) then pW (eN 2 (jH .i64 c (a.getD b.aB.toNat 0)),t33,d,aQ .i64 t35 1,a)else none else none else none else some (c,a)
  partial_fixpoint
theorem Tt:cS 271 1 [0] LF pW:= .rx pW.partial_correctness
def pX:Int×List aU×Int×Int×au->Option (Int×au)
 |(c,t52,d,t54,a)=>
 if (t54<d:Bool) then if aI t54 t52.length then some (t52.getD t54.toNat aD)>>=λb=>if aI b.aB a.length then if (b.aB.toNat<a.length:Bool) then pX (aQ .i64 c (a.getD b.aB.toNat 0),t52,d,aQ .i64 t54 1,a)else none else none else none else some (c,a)
  partial_fixpoint
theorem Tu:cS 271 1 [1] LG pX:= .rx pX.partial_correctness
def A8:ah×au->Option (Int×au)
 |(a,b)=>
 if (a.Kind=2:Bool) then if (a.bE=a.bG:Bool) then some (1,b)else some (2,b)else if (a.Kind=3:Bool) then if (a.Max=0:Bool) then some (1,b)else some (2,b)else if (a.Kind=4:Bool) then some ((a.bg.length:Int),b)else if (a.Kind=5:Bool) then pW (1,a.ag,(a.ag.length:Int),0,b)>>=λo=>some (o.1,o.2)else if (a.Kind=6:Bool) then pX (0,a.ag,(a.ag.length:Int),0,b)>>=λc=>some (c.1,c.2)else if (a.Kind=7:Bool) then some (decide (a.Max=0))>>=λt71=>if(aI a.aC b.length||(!(!t71))) then if((a.aC.toNat<b.length:Bool)||(!(!t71))) then if(bif t71 then true else (b.getD a.aC.toNat 0=0:Bool)) then some (1,b)else some (2,b)else none else none else if (a.Kind=8:Bool) then some (decide (a.Max=0))>>=λt84=>if(aI a.aC b.length||(!(!t84))) then if((a.aC.toNat<b.length:Bool)||(!(!t84))) then some (bif t84 then true else decide (b.getD a.aC.toNat 0=0))>>=λt92=>if(aI a.Key b.length||(!(!t92))) then if((a.Key.toNat<b.length:Bool)||(!(!t92))) then if(bif t92 then true else (b.getD a.Key.toNat 0=0:Bool)) then some (1,b)else some (2,b)else none else none else none else none else if (a.Kind=9:Bool) then if aI a.aC b.length then if (a.aC.toNat<b.length:Bool) then some (aQ .i64 1 (b.getD a.aC.toNat 0),b)else none else none else some (2,b)
theorem Uq:bm M7 A8:= .bA .n (.k Tt (.k Tu .n))
def o0:Bool×List ah×Int×Int×List ah×au->Option (Bool×List ah×au)
 |(d,t14,c,t16,a,b)=>
 if (t16<c:Bool) then if aI t16 t14.length then A8 (t14.getD t16.toNat aN,b)>>=λr=>if((r.2.length=b.length:Bool)&&true) then some (eN 2 r.1)>>=λt24=>if aI t16 r.2.length then if (t16.toNat<r.2.length:Bool) then if !(t24=r.2.getD t16.toNat 0:Bool) then if aI t16 r.2.length then if (t16.toNat<r.2.length:Bool) then o0 (true,t14,c,aQ .i64 t16 1,a,r.2.set t16.toNat t24)else none else none else o0 (d,t14,c,aQ .i64 t16 1,a,r.2)else none else none else none else none else some (d,a,b)
  partial_fixpoint
theorem Sw:cS 198 0 [0,0] IJ o0:= .rx o0.partial_correctness (.k Uq .n)
def rL:Bool×List ah×au->Option au
 |(d,a,c)=>
 if d then o0 (false,a,(a.length:Int),0,a,c)>>=λb=>rL (b.1,b.2.1,b.2.2)else some c
  partial_fixpoint
theorem TP:cS 198 0 [0] LH rL:= .rx rL.partial_correctness .n (.k Sw .n)
def A0(s:bl):Option au:=
 some (s.Types.length:Int)>>=λt10=>if Al 8 t10 then rL (true,s.Types,List.replicate t10.toNat 0)>>=λo=>some o else none
theorem UN:bm ML A0:= .bA .n (.k TP .n)
def pT:au×Int×Int×List Bool->Option (List Bool)
 |(t14,b,t16,a)=>
 if (t16<b:Bool) then if aI t16 t14.length then some [decide (0<t14.getD t16.toNat 0)]>>=λt23=>if room 1 (a++t23).length then pT (t14,b,aQ .i64 t16 1,a++t23)else none else none else some a
  partial_fixpoint
theorem TQ:cS 141 0 [0] LI pT:= .rx pT.partial_correctness
def EL(s:bl):Option (List Bool×Int):=
 A7 s>>=λr=>if !(r=0:Bool) then some ([],r)else A0 s>>=λa=>pT (a,(a.length:Int),0,[])>>=λo=>some (o,0)
theorem UO:bm Mw EL:= .bA (.k Up (.k UN .n)) (.k TQ .n)
def pY:List Bool×Int×Int->Option ((Int) ⊕ (Unit))
 |(t15,a,t17)=>
 if (t17<a:Bool) then if aI t17 t15.length then if !(t15.getD t17.toNat false) then some (.inl 10)else pY (t15,a,aQ .i64 t17 1)else none else some (.inr ())
  partial_fixpoint
theorem Tv:cS 89 0 [0] NR pY:= .rx pY.partial_correctness
def A9(s:bl):Option Int:=
 EL s>>=λr=>if !(r.2=0:Bool) then some r.2 else pY (r.1,(r.1.length:Int),0)>>=λo=>match o with
 |.inl a=>
 some a
 |.inr b=>
 some 0
theorem Ur:bm NQ A9:= .bA (.k UO .n) (.k Tv .n)
def xn(r:dZ):Option Bool:=
 A9 r.kS>>=λa=>some (bif bif decide (a=0)then decide (0<=r.aB)else false then decide (r.aB<(r.kS.Types.length:Int))else false)
theorem Us:bm Dp xn:= .bA (.k Ur .n)
def xh:bl×Int->Option Int
 |(s,t)=>
 pd s>>=λr=>if !(r=0:Bool) then some r else if(bif (t<0:Bool)then true else ((s.Types.length:Int)<=t:Bool)) then some 4 else some 0
theorem UP:bm MI xh:= .bA (.k xg .n)
def A':bl×Int×I×bl×Int->Option Int
 |(w,wt,v,r,rt)=>
 xh (w,wt)>>=λa=>if !(a=0:Bool) then some a else xh (r,rt)>>=λb=>if !(b=0:Bool) then some b else oG (w,wt,I.eta v)>>=λc=>if !c then some 1 else some 0
theorem Ut:bm Mu A':= .bA (.k UP (.k FC .n))
def rM:List ah×List ah×au×au->Option (I×Bool×List ah×List ah×au×au)
 |(b,c,e,a)=>
 sr 8 a>>=λr=>if((r.1.length=a.length:Bool)&&true) then some ((⟨0,false,0,[],0,[],[],[]⟩:I),false,b,c,r.1,r.2)else none
theorem PQ:bm MJ rM:= .bA (.k k0 .n)
def uH:Int×List ah×List ah×au×au->Option (I×Bool×List ah×List ah×au×au)
 |(id,b,c,e,a)=>
 sr 8 a>>=λr=>if((r.1.length=a.length:Bool)&&true) then some [id]>>=λt13=>if room 8 (r.2++t13).length then some ((⟨0,false,0,[],0,[],[],[]⟩:I),false,b,c,r.1,r.2++t13)else none else none
theorem PJ:bm M4 uH:= .bA (.k k0 .n)
mutual
def jW(v:I):Option I:=
 gg 120 v.aG>>=λr=>gg 120 v.ai>>=λW=>gg 24 v.Rest>>=λX=>rN ((r.length:Int),0,v.Kind,v.b5,v.bo,v.bx,v.ae,0,false,0,[],0,r,W,X)>>=λo=>rO ((o.2.2.2.2.2.2.2.2.2.2.2.1.length:Int),0,o.1,o.2.1,o.2.2.1,o.2.2.2.1,o.2.2.2.2.1,o.2.2.2.2.2.1,o.2.2.2.2.2.2.1,o.2.2.2.2.2.2.2.1,o.2.2.2.2.2.2.2.2.1,o.2.2.2.2.2.2.2.2.2.1,o.2.2.2.2.2.2.2.2.2.2.2.1,o.2.2.2.2.2.2.2.2.2.2.1,o.2.2.2.2.2.2.2.2.2.2.2.2)>>=λa=>some (⟨a.1,a.2.1,a.2.2.1,a.2.2.2.1,a.2.2.2.2.1,a.2.2.2.2.2.2.2.2.2.2.1,a.2.2.2.2.2.2.2.2.2.2.2.1,a.2.2.2.2.2.2.2.2.2.2.2.2⟩:I)
  partial_fixpoint
def rN:Int×Int×Int×Bool×Int×ao×Int×Int×Bool×Int×ao×Int×List I×List I×List b6->Option (Int×Bool×Int×ao×Int×Int×Bool×Int×ao×Int×List I×List I×List b6)
 |(S,t22,g,j,p,q,t,w,x,y,A,B,c,D,E)=>
 if (t22<S:Bool) then if aI t22 c.length then if (t22.toNat<c.length:Bool) then jW (I.eta (c.getD t22.toNat az))>>=λY=>if aI t22 c.length then if (t22.toNat<c.length:Bool) then rN (S,aQ .i64 t22 1,g,j,p,q,t,w,x,y,A,B,c.set t22.toNat (I.eta Y),D,E)else none else none else none else none else some (g,j,p,q,t,w,x,y,A,B,c,D,E)
  partial_fixpoint
def rO:Int×Int×Int×Bool×Int×ao×Int×Int×Bool×Int×ao×Int×List I×List I×List b6->Option (Int×Bool×Int×ao×Int×Int×Bool×Int×ao×Int×List I×List I×List b6)
 |(U,t37,F,G,H,J,K,L,M,N,O,P,e,Q,R)=>
 if (t37<U:Bool) then if aI t37 e.length then if (t37.toNat<e.length:Bool) then jW (I.eta (e.getD t37.toNat az))>>=λZ=>if aI t37 e.length then if (t37.toNat<e.length:Bool) then rO (U,aQ .i64 t37 1,F,G,H,J,K,L,M,N,O,P,e.set t37.toNat (I.eta Z),Q,R)else none else none else none else none else some (F,G,H,J,K,L,M,N,O,P,Q,e,R)
  partial_fixpoint
end
theorem Tw:eQ tG jW/\eY 234 0 [1] yH rO/\eY 234 0 [0] yG rN:=jW.mutual_partial_correctness (eM tG) (eX 234 0 [1] yH) (eX 234 0 [0] yG)
 (λ_ _ h1 a _ _ h=>eT h (.k lD (.k lF .n)) (.k (fb yG a) (.k (fb yH h1) .n)))
 (λ_ _ h0 h1 _ _ h=>fa yH h1 h (.k (cC tG h0) .n))
 (λ_ _ h0 a _ _ h=>fa yG a h (.k (cC tG h0) .n))
theorem T':bm tG jW:=cC _ Tw.1
mutual
def tU(c:List I×List I):Option Bool:=
 match c with
 |(s1,f)=>
 if !((s1.length:Int)=(f.length:Int):Bool) then some false else tS (f,s1,(s1.length:Int),0)>>=λo=>match o with
 |.inl j=>
 some j
 |.inr t=>
 some true
  partial_fixpoint
def oH:I×I->Option Bool
 |(a,b)=>
 some (bif bif bif bif decide (a.Kind=b.Kind)then fg a.b5 b.b5 else false then decide (a.bo=b.bo)else false then decide (a.bx=b.bx)else false then decide (a.ae=b.ae)else false)>>=λt37=>(if t37 then wO (a.Rest,b.Rest)else some false)>>=λr=>some (bif t37 then r else false)>>=λt44=>(if t44 then tU (a.aG,b.aG)else some false)>>=λp=>some (bif t44 then p else false)>>=λt51=>(if t51 then tU (a.ai,b.ai)else some false)>>=λq=>some (bif t51 then q else false)
  partial_fixpoint
def tS:List I×List I×Int×Int->Option ((Bool) ⊕ (Unit))
 |(e,t15,g,t17)=>
 if (t17<g:Bool) then if aI t17 t15.length then if aI t17 e.length then oH (I.eta (t15.getD t17.toNat az),I.eta (e.getD t17.toNat az))>>=λr=>if !r then some (.inl false)else tS (e,t15,g,aQ .i64 t17 1)else none else none else some (.inr ())
  partial_fixpoint
end
theorem Sf:eQ B4 tU/\eY 317 0 [0] xW tS/\eQ wo oH:=tU.mutual_partial_correctness (eM B4) (eX 317 0 [0] xW) (eM wo)
 (λ_ h1 _ _ h=>eT h .n (.k (fb xW h1) .n))
 (λ_ _ h1 a _ _ h=>fa xW h1 h (.k (cC wo a) .n))
 (λ_ h0 _ _ h=>eT h (.k O5 (.k (cC B4 h0) .n)))
theorem Qz:bm wo oH:=cC _ Sf.2.2
def rP:aU×I->Option Bool
 |(m,item)=>
 (if m.bV then oH (I.eta item,I.eta m.bz)else some false)>>=λr=>some (bif m.bV then r else false)
theorem E0:bm M5 rP:= .bA (.k Qz .n)
def EM:bl×Int->Option Int
 |(s,t)=>
 pd (⟨s.Types⟩:bl)>>=λr=>if !(r=0:Bool) then some r else if(bif (t<0:Bool)then true else ((s.Types.length:Int)<=t:Bool)) then some 4 else some 0
theorem Ua:bm MD EM:= .bA (.k xg .n)
def BH:bl×Int×I->Option Bool
 |(s,t,v)=>
 jX ((⟨s.Types⟩:bl),t,I.eta v,false)>>=λr=>some r
theorem UT:bm ME BH:= .bA (.k P' .n)
def ue:bl×Int×I->Option Int
 |(s,t,v)=>
 EM ((⟨s.Types⟩:bl),t)>>=λr=>if !(r=0:Bool) then some r else BH ((⟨s.Types⟩:bl),t,I.eta v)>>=λa=>if !a then some 1 else some 0
theorem Ub:bm Mt ue:= .bA (.k Ua (.k UT .n))
def r1:Int×Int×au->Option (Int×Int×au)
 |(b,a,c)=>
 if (128<=b:Bool) then if aI a 10 then if (a.toNat<c.length:Bool) then r1 (lh .u64 b 7,aQ .i64 a 1,c.set a.toNat (qR .u8 (b9 .u8 b) 128))else none else none else some (b,a,c)
  partial_fixpoint
theorem T3:cS 231 0 [0] LJ r1:= .rx r1.partial_correctness
def oJ(n:Int):Option ao:=
 r1 (n,0,[0,0,0,0,0,0,0,0,0,0])>>=λo=>if aI o.2.1 10 then if (o.2.1.toNat<o.2.2.length:Bool) then some (o.2.2.set o.2.1.toNat (b9 .u8 o.1))>>=λa=>some (aQ .i64 o.2.1 1)>>=λt21=>if ez 0 t21 10 then if vI (0:Int).toNat t21.toNat a.length then some (strOf ((a.drop (0:Int).toNat).take t21.toNat))else none else none else none else none
theorem w3:bm M3 oJ:= .bA .n (.k T3 .n)
def p8(p:ao):Option ao:=
 oJ (b9 .u64 (p.length:Int))>>=λr=>if (r.length+p.length<=eo:Bool) then some (r++p)else none
theorem PC:bm MH p8:= .bA (.k w3 .n)
def r4:ao×ao->Option (Int×ao)
 |(s,b)=>
 some b>>=λr=>if((r.length=b.length:Bool)&&true) then if room 1 (r.length+s.length) then some ((s.length:Int),tB r s)else none else none
theorem O6:bm NL r4:= .bA (.k mB .n)
def uk:Int×Bool×ao->Option ao
 |(id,d,p)=>
 some (jH .u64 2 (b9 .u64 id))>>=λt10=>if d then oJ (aQ .u64 t10 1)>>=λr=>p8 p>>=λa=>if (r.length+a.length<=eo:Bool) then some (r++a)else none else oJ t10>>=λb=>p8 p>>=λc=>if (b.length+c.length<=eo:Bool) then some (b++c)else none
theorem EN:bm M1 uk:= .bA (.k w3 (.k PC .n))
def A1:aU×I->Option Bool
 |(m,v)=>
 (if m.bV then oH (I.eta m.bz,I.eta v)else some false)>>=λr=>some (bif m.bV then r else false)
theorem Uc:bm M0 A1:= .bA (.k Qz .n)
def qj:List b6×Int×Int×List ah×Int×List gv->Option (List ah×Int×List gv)
 |(t57,e,t59,c,d,a)=>
 if (t59<e:Bool) then if aI t59 t57.length then some (t57.getD t59.toNat bS)>>=λb=>uk (b.ae,false,b.Data)>>=λf=>some [(⟨b.ae,f⟩:gv)]>>=λt72=>if room 24 (a++t72).length then qj (t57,e,aQ .i64 t59 1,c,d,a++t72)else none else none else some (c,d,a)
  partial_fixpoint
theorem RI:cS 159 1 [1] LL qj:= .rx qj.partial_correctness (.k EN .n)
def r9:Int×Int×List ah×Int×List gv×ao->Option (List ah×Int×ao)
 |(e,t79,b,c,a,d)=>
 if (t79<e:Bool) then if aI t79 a.length then if (t79.toNat<a.length:Bool) then r4 ((a.getD t79.toNat uj).text,d)>>=λf=>r9 (e,aQ .i64 t79 1,b,c,a,f.2)else none else none else some (b,c,d)
  partial_fixpoint
theorem RJ:cS 159 1 [2] LM r9:= .rx r9.partial_correctness (.k O6 .n)
def wQ(b:ao):Option ao:=
 if fy (b.length:Int) (b.length:Int) then some b else none
theorem O8:bm NM wQ:= .bA
def rv:Int×Int×au->Option (Int×au)
 |(b,c,a)=>
 if (0<b:Bool) then some (dL .i64 c 1)>>=λt10=>if aI t10 8 then if (t10.toNat<a.length:Bool) then rv (lh .u64 b 8,t10,a.set t10.toNat (b9 .u8 b))else none else none else some (c,a)
  partial_fixpoint
theorem T4:cS 157 0 [0] LK rv:= .rx rv.partial_correctness
def yA(n:Int):Option ao:=
 rv (n,8,[0,0,0,0,0,0,0,0])>>=λo=>if ez o.1 8 8 then if vI o.1.toNat ((8:Int).toNat-o.1.toNat) o.2.length then some (strOf ((o.2.drop o.1.toNat).take ((8:Int).toNat-o.1.toNat)))else none else none
theorem UU:bm MF yA:= .bA .n (.k T4 .n)
mutual
def jT:Int×I×Int×List ah×Int->Option (ao×List ah×Int)
 |(t,v,e,b,w)=>
 some (iw w e)>>=λt19=>if aI t b.length then some (b.getD t.toNat aN)>>=λa=>if (a.Kind=1:Bool) then if v.b5 then some ([1],b,t19)else some ([],b,t19)else if (a.Kind=2:Bool) then ug v.bo>>=λr=>yA r>>=λp=>some (p,b,t19)else if (a.Kind=3:Bool) then some (v.bx,b,t19)else if (a.Kind=4:Bool) then yA (b9 .u64 v.ae)>>=λO=>some (O,b,t19)else if (a.Kind=5:Bool) then Bh (a,I.eta v,e,b,t19)>>=λq=>some (q.1,q.2.1,q.2.2)else if (a.Kind=6:Bool) then wX (a,I.eta v,e,b,t19)>>=λy=>some (y.1,y.2.1,y.2.2)else if (a.Kind=9:Bool) then if ((v.ai.length:Int)=0:Bool) then some ([],b,t19)else if aI 0 v.ai.length then jT (a.aC,I.eta (v.ai.getD (0:Int).toNat az),aQ .i64 e 1,b,t19)>>=λE=>if ([1].length+E.1.length<=eo:Bool) then some ([1]++E.1,E.2.1,E.2.2)else none else none else lz (e,v.ai,(v.ai.length:Int),0,b,t19,I.eta v,a,[])>>=λo=>wQ o.2.2>>=λW=>some (W,o.1,o.2.1)else none
  partial_fixpoint
def Bh:ah×I×Int×List ah×Int->Option (ao×List ah×Int)
 |(a,v,e,b,w)=>
 qk (e,a.ag,(a.ag.length:Int),0,b,w,I.eta v,[])>>=λo=>qj (o.2.2.1.Rest,(o.2.2.1.Rest.length:Int),0,o.1,o.2.1,o.2.2.2)>>=λD=>Et D.2.2>>=λr=>if((r.length=D.2.2.length:Bool)&&true) then r9 ((r.length:Int),0,D.1,D.2.1,r,[])>>=λM=>wQ M.2.2>>=λp=>some (p,M.1,M.2.1)else none
  partial_fixpoint
def wX:ah×I×Int×List ah×Int->Option (ao×List ah×Int)
 |(a,v,e,b,w)=>
 oJ (b9 .u64 v.ae)>>=λr=>hG (a,v.ae)>>=λp=>if !p.2 then if aI 0 v.Rest.length then some (v.Rest.getD (0:Int).toNat bS)>>=λc=>if (r.length+c.Data.length<=eo:Bool) then some (r++c.Data,b,w)else none else none else if aI p.1 a.ag.length then if aI 0 v.ai.length then jT ((a.ag.getD p.1.toNat aD).aB,I.eta (v.ai.getD (0:Int).toNat az),aQ .i64 e 1,b,w)>>=λF=>if (r.length+F.1.length<=eo:Bool) then some (r++F.1,F.2.1,F.2.2)else none else none else none
  partial_fixpoint
def lz:Int×List I×Int×Int×List ah×Int×I×ah×ao->Option (List ah×Int×ao)
 |(f,t84,S,t86,J,K,B,x,L)=>
 if (t86<S:Bool) then if aI t86 t84.length then some (t84.getD t86.toNat az)>>=λU=>if (x.Kind=8:Bool) then if aI t86 B.aG.length then jT (x.Key,I.eta (B.aG.getD t86.toNat az),aQ .i64 f 1,J,K)>>=λN=>p8 N.1>>=λX=>r4 (X,L)>>=λY=>jT (x.aC,I.eta U,aQ .i64 f 1,N.2.1,N.2.2)>>=λP=>p8 P.1>>=λZ=>r4 (Z,Y.2)>>=λad=>lz (f,t84,S,aQ .i64 t86 1,P.2.1,P.2.2,I.eta B,x,ad.2)else none else jT (x.aC,I.eta U,aQ .i64 f 1,J,K)>>=λQ=>p8 Q.1>>=λam=>r4 (am,L)>>=λan=>lz (f,t84,S,aQ .i64 t86 1,Q.2.1,Q.2.2,I.eta B,x,an.2)else none else some (J,K,L)
  partial_fixpoint
def qk:Int×List aU×Int×Int×List ah×Int×I×List gv->Option (List ah×Int×I×List gv)
 |(f,t18,R,t20,G,H,j,A)=>
 if (t20<R:Bool) then if aI t20 t18.length then some (t18.getD t20.toNat aD)>>=λc=>if aI t20 j.ai.length then A1 ((⟨c.ae,c.Name,c.aB,c.cv,c.bV,I.eta c.bz⟩:aU),I.eta (j.ai.getD t20.toNat az))>>=λO=>if !O then if aI t20 j.ai.length then jT (c.aB,I.eta (j.ai.getD t20.toNat az),aQ .i64 f 1,G,H)>>=λq=>uk (c.ae,c.cv,q.1)>>=λy=>some [(⟨c.ae,y⟩:gv)]>>=λt53=>if room 24 (A++t53).length then qk (f,t18,R,aQ .i64 t20 1,q.2.1,q.2.2,I.eta j,A++t53)else none else none else qk (f,t18,R,aQ .i64 t20 1,G,H,I.eta j,A)else none else none else some (G,H,I.eta j,A)
  partial_fixpoint
end
theorem RK:eQ pJ jT/\eY 103 1 [0] yJ lz/\eQ zX wX/\eQ zW Bh/\eY 159 1 [0] yI qk:=jT.mutual_partial_correctness (eM pJ) (eX 103 1 [0] yJ) (eM zX) (eM zW) (eX 159 1 [0] yI)
 (λ_ _ _ _ h0 h1 b c _ _ h=>eT h (.k Po (.k UU (.k (cC zW c) (.k (cC zX b) (.k (cC pJ h0) (.k O8 .n)))))) (.k (fb yJ h1) .n))
 (λ_ _ h0 h1 _ _ h=>fa yJ h1 h (.k (cC pJ h0) (.k PC (.k O6 .n))))
 (λ_ h0 _ _ h=>eT h (.k w3 (.k o7 (.k (cC pJ h0) .n))))
 (λ_ a _ _ h=>eT h (.k EJ (.k O8 .n)) (.k (fb yI a) (.k RI (.k RJ .n))))
 (λ_ _ h0 a _ _ h=>fa yI a h (.k Uc (.k (cC pJ h0) (.k EN .n))))
theorem SZ:bm pJ jT:=cC _ RK.1
def nD:bl×Int×I->Option (ao×Int)
 |(s,t,v)=>
 ue ((⟨s.Types⟩:bl),t,I.eta v)>>=λr=>if !(r=0:Bool) then some ([],r)else jT (t,I.eta v,1,s.Types,0)>>=λa=>if(bif (4096<(a.1.length:Int):Bool)then true else (200<a.2.2:Bool)) then some ([],3)else some (a.1,0)
theorem Pq:bm NJ nD:= .bA (.k Ub (.k SZ .n))
def BT:Int×Bool×ao->Option (ao×Int)
 |(id,b,a)=>
 if(bif (id<1:Bool)then true else (1000<id:Bool)) then some ([],7)else if (4096<(a.length:Int):Bool) then some ([],3)else uk (id,b,a)>>=λr=>some (r,0)
theorem Vq:bm Nk BT:= .bA (.k EN .n)
def uh(p:ao):Option ao:=
 oJ (b9 .u64 (p.length:Int))>>=λr=>if (r.length+p.length<=eo:Bool) then some (r++p)else none
theorem T5:bm Nl uh:= .bA (.k w3 .n)
mutual
def k4:bl×Int×I->Option ao
 |(s,t,v)=>
 if aI t s.Types.length then some (s.Types.getD t.toNat aN)>>=λa=>if (a.Kind=5:Bool) then qv ([],a.ag,(a.ag.length:Int),0,s.Types,I.eta v)>>=λo=>some o else if (a.Kind=6:Bool) then hG (a,v.ae)>>=λr=>oJ (b9 .u64 v.ae)>>=λJ=>if aI r.1 a.ag.length then if aI 0 v.ai.length then k4 (s,(a.ag.getD r.1.toNat aD).aB,I.eta (v.ai.getD (0:Int).toNat az))>>=λK=>if (J.length+K.length<=eo:Bool) then some (J++K)else none else none else none else if (a.Kind=9:Bool) then uK ([],v.ai,(v.ai.length:Int),0,s.Types,a)>>=λN=>some N else some (decide (a.Kind=7))>>=λt115=>if t115 then if t115 then k1 ([],v.ai,(v.ai.length:Int),0,s.Types,I.eta v,a)>>=λO=>some O else nD (s,t,I.eta v)>>=λY=>some Y.1 else if (a.Kind=8:Bool) then k1 ([],v.ai,(v.ai.length:Int),0,s.Types,I.eta v,a)>>=λP=>some P else nD (s,t,I.eta v)>>=λZ=>some Z.1 else none
  partial_fixpoint
def qv:ao×List aU×Int×Int×List ah×I->Option ao
 |(w,t36,y,t38,b,f)=>
 if (t38<y:Bool) then if aI t38 t36.length then some (t36.getD t38.toNat aD)>>=λc=>if aI t38 f.ai.length then rP ((⟨c.ae,c.Name,c.aB,c.cv,c.bV,I.eta c.bz⟩:aU),I.eta (f.ai.getD t38.toNat az))>>=λR=>if !R then if aI t38 f.ai.length then k4 ((⟨b⟩:bl),c.aB,I.eta (f.ai.getD t38.toNat az))>>=λS=>BT (c.ae,c.cv,S)>>=λD=>if (w.length+D.1.length<=eo:Bool) then qv (w++D.1,t36,y,aQ .i64 t38 1,b,I.eta f)else none else none else qv (w,t36,y,aQ .i64 t38 1,b,I.eta f)else none else none else some w
  partial_fixpoint
def uK:ao×List I×Int×Int×List ah×ah->Option ao
 |(Q,t101,L,t103,A,B)=>
 if (t103<L:Bool) then if aI t103 t101.length then k4 ((⟨A⟩:bl),B.aC,I.eta (t101.getD t103.toNat az))>>=λE=>if ([1].length+E.length<=eo:Bool) then uK ([1]++E,t101,L,aQ .i64 t103 1,A,B)else none else none else some Q
  partial_fixpoint
def k1:ao×List I×Int×Int×List ah×I×ah->Option ao
 |(p,t118,x,t120,j,q,g)=>
 if (t120<x:Bool) then if aI t120 t118.length then some (t118.getD t120.toNat az)>>=λM=>if (g.Kind=8:Bool) then if aI t120 q.aG.length then k4 ((⟨j⟩:bl),g.Key,I.eta (q.aG.getD t120.toNat az))>>=λU=>uh U>>=λF=>if (p.length+F.length<=eo:Bool) then some (p++F)>>=λt139=>k4 ((⟨j⟩:bl),g.aC,I.eta M)>>=λW=>uh W>>=λG=>if (t139.length+G.length<=eo:Bool) then k1 (t139++G,t118,x,aQ .i64 t120 1,j,I.eta q,g)else none else none else none else k4 ((⟨j⟩:bl),g.aC,I.eta M)>>=λX=>uh X>>=λH=>if (p.length+H.length<=eo:Bool) then k1 (p++H,t118,x,aQ .i64 t120 1,j,I.eta q,g)else none else none else some p
  partial_fixpoint
end
theorem TR:eQ pL k4/\eY 237 0 [2] yM k1/\eY 237 0 [1] yL uK/\eY 237 0 [0] yK qv:=k4.mutual_partial_correctness (eM pL) (eX 237 0 [2] yM) (eX 237 0 [1] yL) (eX 237 0 [0] yK)
 (λ_ _ _ _ h0 h1 a b _ _ h=>eT h (.k o7 (.k w3 (.k (cC pL h0) (.k Pq .n)))) (.k (fb yK b) (.k (fb yL a) (.k (fb yM h1) .n))))
 (λ_ _ h0 h1 _ _ h=>fa yM h1 h (.k (cC pL h0) (.k T5 .n)))
 (λ_ _ h0 a _ _ h=>fa yL a h (.k (cC pL h0) .n))
 (λ_ _ h0 b _ _ h=>fa yK b h (.k E0 (.k (cC pL h0) (.k Vq .n))))
theorem P0:bm pL k4:=cC _ TR.1
def nb:List aU×Int×Int×List ah×List ah×au×I×ah×Int×Bool×Int×ao×Int×Int×Bool×Int×ao×Int×au×List I×List b6->Option ((Bool×List ah×List ah×I×au×au) ⊕ (List ah×List ah×au×Int×Bool×Int×ao×Int×Int×Bool×Int×ao×Int×au×List I×List b6))
 |(t115,v,t117,c,e,f,b,j,k,l,m,n,o,p,q,r,s,t,g,u,i)=>
 if (t117<v:Bool) then if aI t117 t115.length then some (t115.getD t117.toNat aD)>>=λa=>hG (j,a.ae)>>=λw=>if w.2 then nb (t115,v,aQ .i64 t117 1,c,e,f,I.eta b,j,k,l,m,n,o,p,q,r,s,t,g,u,i)else if a.cv then uH (a.ae,c,e,f,g)>>=λd=>some (.inl (d.2.1,d.2.2.1,d.2.2.2.1,I.eta d.1,d.2.2.2.2.1,d.2.2.2.2.2))else if aI t117 b.ai.length then rP ((⟨a.ae,a.Name,a.aB,a.cv,a.bV,I.eta a.bz⟩:aU),I.eta (b.ai.getD t117.toNat az))>>=λx=>if !x then if aI t117 b.ai.length then k4 ((⟨c⟩:bl),a.aB,I.eta (b.ai.getD t117.toNat az))>>=λy=>some [(⟨a.ae,y⟩:b6)]>>=λt163=>if room 24 (i++t163).length then nb (t115,v,aQ .i64 t117 1,c,e,f,I.eta b,j,k,l,m,n,o,p,q,r,s,t,g,u,i++t163)else none else none else nb (t115,v,aQ .i64 t117 1,c,e,f,I.eta b,j,k,l,m,n,o,p,q,r,s,t,g,u,i)else none else none else some (.inr (c,e,f,k,l,m,n,o,p,q,r,s,t,g,u,i))
  partial_fixpoint
theorem SO:cS 164 2 [1] LN nb:= .rx nb.partial_correctness (.k o7 (.k PJ (.k E0 (.k P0 .n))))
mutual
def pU:Int×Int×I×Int×List ah×List ah×au×au->Option (I×Bool×List ah×List ah×au×au)
 |(step,wt,v,rt,b,f,j,g)=>
 some [step]>>=λt20=>if room 8 (g++t20).length then rQ (wt,I.eta v,rt,b,f,j,g++t20)>>=λr=>some (dL .i64 (r.2.2.2.2.2.length:Int) 1)>>=λt42=>if ez 0 t42 r.2.2.2.2.2.length then if (t42.toNat<=r.2.2.2.2.2.length:Bool) then some (I.eta r.1,r.2.1,r.2.2.1,r.2.2.2.1,r.2.2.2.2.1,r.2.2.2.2.2.take t42.toNat)else none else none else none
  partial_fixpoint
def np(q:Int×List I×Int×List ah×List ah×au×au):Option (List I×Bool×List ah×List ah×au×au):=
 match q with
 |(wt,l,rt,b,f,j,g)=>
 rD (wt,rt,l,(l.length:Int),0,b,f,j,[],g)>>=λo=>match o with
 |.inl t=>
 some ([],t.1,t.2.1,t.2.2.1,t.2.2.2.1,t.2.2.2.2)
 |.inr e=>
 some (e.2.2.2.1,true,e.1,e.2.1,e.2.2.1,e.2.2.2.2)
  partial_fixpoint
def rQ:Int×I×Int×List ah×List ah×au×au->Option (I×Bool×List ah×List ah×au×au)
 |(wt,v,rt,b,f,j,g)=>
 if aI wt b.length then some (b.getD wt.toNat aN)>>=λc=>if aI rt f.length then some (f.getD rt.toNat aN)>>=λa=>if !(c.Kind=a.Kind:Bool) then rM (b,f,j,g)>>=λr=>some (I.eta r.1,r.2.1,r.2.2.1,r.2.2.2.1,r.2.2.2.2.2,r.2.2.2.2.1)else
 let bs:=λcs=>
 if !cs then rM (b,f,j,g)>>=λU=>some (I.eta U.1,U.2.1,U.2.2.1,U.2.2.2.1,U.2.2.2.2.2,U.2.2.2.2.1)else if (c.Kind=5:Bool) then wY (c,I.eta v,a,b,f,j,g)>>=λO=>some (I.eta O.1,O.2.1,O.2.2.1,O.2.2.2.1,O.2.2.2.2.1,O.2.2.2.2.2)else if (c.Kind=6:Bool) then xw (c,I.eta v,a,b,f,j,g)>>=λP=>some (I.eta P.1,P.2.1,P.2.2.1,P.2.2.2.1,P.2.2.2.2.1,P.2.2.2.2.2)else if (c.Kind=8:Bool) then np (c.Key,v.aG,a.Key,b,f,j,g)>>=λB=>if !B.2.1 then some ((⟨0,false,0,[],0,[],[],[]⟩:I),false,B.2.2.1,B.2.2.2.1,B.2.2.2.2.1,B.2.2.2.2.2)else np (c.aC,v.ai,a.aC,B.2.2.1,B.2.2.2.1,B.2.2.2.2.1,B.2.2.2.2.2)>>=λF=>if !F.2.1 then some ((⟨0,false,0,[],0,[],[],[]⟩:I),false,F.2.2.1,F.2.2.2.1,F.2.2.2.2.1,F.2.2.2.2.2)else some ((⟨v.Kind,v.b5,v.bo,v.bx,v.ae,B.1,F.1,[]⟩:I),true,F.2.2.1,F.2.2.2.1,F.2.2.2.2.1,F.2.2.2.2.2)else np (c.aC,v.ai,a.aC,b,f,j,g)>>=λG=>if !G.2.1 then some ((⟨0,false,0,[],0,[],[],[]⟩:I),false,G.2.2.1,G.2.2.2.1,G.2.2.2.2.1,G.2.2.2.2.2)else some ((⟨v.Kind,v.b5,v.bo,v.bx,v.ae,[],G.1,[]⟩:I),true,G.2.2.1,G.2.2.2.1,G.2.2.2.2.1,G.2.2.2.2.2)
 if (c.Kind=2:Bool) then bs (bif decide (a.bE<=v.bo)then decide (v.bo<=a.bG)else false)else
 let bp:=λcp=>
 bs cp
 if (c.Kind=3:Bool) then bp (decide ((v.bx.length:Int)<=a.Max))else if (c.Kind=4:Bool) then uf (a,v.ae)>>=λce=>bp (bif ce.2 then true else a.Open)else some (decide (c.Kind=7))>>=λt91=>
 let bj:=λci=>
 let bi:=λ(_:Unit)=>
 if (c.Kind=5:Bool) then wY (c,I.eta v,a,b,f,j,g)>>=λR=>some (I.eta R.1,R.2.1,R.2.2.1,R.2.2.2.1,R.2.2.2.2.1,R.2.2.2.2.2)else if (c.Kind=6:Bool) then xw (c,I.eta v,a,b,f,j,g)>>=λS=>some (I.eta S.1,S.2.1,S.2.2.1,S.2.2.2.1,S.2.2.2.2.1,S.2.2.2.2.2)else if (c.Kind=8:Bool) then np (c.Key,v.aG,a.Key,b,f,j,g)>>=λx=>if !x.2.1 then some ((⟨0,false,0,[],0,[],[],[]⟩:I),false,x.2.2.1,x.2.2.2.1,x.2.2.2.2.1,x.2.2.2.2.2)else np (c.aC,v.ai,a.aC,x.2.2.1,x.2.2.2.1,x.2.2.2.2.1,x.2.2.2.2.2)>>=λA=>if !A.2.1 then some ((⟨0,false,0,[],0,[],[],[]⟩:I),false,A.2.2.1,A.2.2.2.1,A.2.2.2.2.1,A.2.2.2.2.2)else some ((⟨v.Kind,v.b5,v.bo,v.bx,v.ae,x.1,A.1,[]⟩:I),true,A.2.2.1,A.2.2.2.1,A.2.2.2.2.1,A.2.2.2.2.2)else np (c.aC,v.ai,a.aC,b,f,j,g)>>=λD=>if !D.2.1 then some ((⟨0,false,0,[],0,[],[],[]⟩:I),false,D.2.2.1,D.2.2.2.1,D.2.2.2.2.1,D.2.2.2.2.2)else some ((⟨v.Kind,v.b5,v.bo,v.bx,v.ae,[],D.1,[]⟩:I),true,D.2.2.1,D.2.2.2.1,D.2.2.2.2.1,D.2.2.2.2.2)
 if ci then if !((v.ai.length:Int)<=a.Max:Bool) then rM (b,f,j,g)>>=λQ=>some (I.eta Q.1,Q.2.1,Q.2.2.1,Q.2.2.2.1,Q.2.2.2.2.2,Q.2.2.2.2.1)else bi ()else bi ()
 if t91 then bj t91 else bj (decide (c.Kind=8))else none else none
  partial_fixpoint
def wY(q:ah×I×ah×List ah×List ah×au×au):Option (I×Bool×List ah×List ah×au×au):=
 match q with
 |(c,v,y,b,f,j,g)=>
 ov (y.ag,(y.ag.length:Int),0,b,f,j,c,I.eta v,y,0,false,0,[],0,v.Kind,false,0,[],0,g,[])>>=λo=>match o with
 |.inl t=>
 some (I.eta t.2.2.2.2.1,t.1,t.2.1,t.2.2.1,t.2.2.2.1,t.2.2.2.2.2)
 |.inr e=>
 nb (e.2.2.2.1.ag,(e.2.2.2.1.ag.length:Int),0,e.1,e.2.1,e.2.2.1,I.eta e.2.2.2.2.1,e.2.2.2.2.2.1,e.2.2.2.2.2.2.1,e.2.2.2.2.2.2.2.1,e.2.2.2.2.2.2.2.2.1,e.2.2.2.2.2.2.2.2.2.1,e.2.2.2.2.2.2.2.2.2.2.1,e.2.2.2.2.2.2.2.2.2.2.2.1,e.2.2.2.2.2.2.2.2.2.2.2.2.1,e.2.2.2.2.2.2.2.2.2.2.2.2.2.1,e.2.2.2.2.2.2.2.2.2.2.2.2.2.2.1,e.2.2.2.2.2.2.2.2.2.2.2.2.2.2.2.1,e.2.2.2.2.2.2.2.2.2.2.2.2.2.2.2.2.1,e.2.2.2.2.2.2.2.2.2.2.2.2.2.2.2.2.2,[])>>=λb0=>match b0 with
 |.inl M=>
 some (I.eta M.2.2.2.1,M.1,M.2.1,M.2.2.1,M.2.2.2.2.2,M.2.2.2.2.1)
 |.inr w=>
 some ((⟨w.2.2.2.2.2.2.2.2.1,w.2.2.2.2.2.2.2.2.2.1,w.2.2.2.2.2.2.2.2.2.2.1,w.2.2.2.2.2.2.2.2.2.2.2.1,w.2.2.2.2.2.2.2.2.2.2.2.2.1,[],w.2.2.2.2.2.2.2.2.2.2.2.2.2.2.1,w.2.2.2.2.2.2.2.2.2.2.2.2.2.2.2⟩:I),true,w.1,w.2.1,w.2.2.1,w.2.2.2.2.2.2.2.2.2.2.2.2.2.1)
  partial_fixpoint
def xw:ah×I×ah×List ah×List ah×au×au->Option (I×Bool×List ah×List ah×au×au)
 |(c,v,y,b,f,j,g)=>
 hG (c,v.ae)>>=λr=>hG (y,v.ae)>>=λE=>if E.2 then if aI r.1 c.ag.length then if aI 0 v.ai.length then if aI E.1 y.ag.length then pU (v.ae,(c.ag.getD r.1.toNat aD).aB,I.eta (v.ai.getD (0:Int).toNat az),(y.ag.getD E.1.toNat aD).aB,b,f,j,g)>>=λH=>if !H.2.1 then some ((⟨0,false,0,[],0,[],[],[]⟩:I),false,H.2.2.1,H.2.2.2.1,H.2.2.2.2.1,H.2.2.2.2.2)else some ((⟨v.Kind,false,0,[],v.ae,[],[I.eta H.1],[]⟩:I),true,H.2.2.1,H.2.2.2.1,H.2.2.2.2.1,H.2.2.2.2.2)else none else none else none else if !y.Open then rM (b,f,j,g)>>=λN=>some (I.eta N.1,N.2.1,N.2.2.1,N.2.2.2.1,N.2.2.2.2.2,N.2.2.2.2.1)else if aI r.1 c.ag.length then if aI 0 v.ai.length then k4 ((⟨b⟩:bl),(c.ag.getD r.1.toNat aD).aB,I.eta (v.ai.getD (0:Int).toNat az))>>=λK=>some ((⟨v.Kind,false,0,[],v.ae,[],[],[(⟨v.ae,K⟩:b6)]⟩:I),true,b,f,j,g)else none else none
  partial_fixpoint
def rD:Int×Int×List I×Int×Int×List ah×List ah×au×List I×au->Option ((Bool×List ah×List ah×au×au) ⊕ (List ah×List ah×au×List I×au))
 |(bY,bJ,t15,bX,t17,a9,bc,bd,an,be)=>
 if (t17<bX:Bool) then if aI t17 t15.length then pU (t17,bY,I.eta (t15.getD t17.toNat az),bJ,a9,bc,bd,be)>>=λr=>if !r.2.1 then some (.inl (false,r.2.2.1,r.2.2.2.1,r.2.2.2.2.1,r.2.2.2.2.2))else some [I.eta r.1]>>=λt35=>if room 120 (an++t35).length then rD (bY,bJ,t15,bX,aQ .i64 t17 1,r.2.2.1,r.2.2.2.1,r.2.2.2.2.1,an++t35,r.2.2.2.2.2)else none else none else some (.inr (a9,bc,bd,an,be))
  partial_fixpoint
def ov:List aU×Int×Int×List ah×List ah×au×ah×I×ah×Int×Bool×Int×ao×Int×Int×Bool×Int×ao×Int×au×List I->Option ((Bool×List ah×List ah×au×I×au) ⊕ (List ah×List ah×au×ah×I×ah×Int×Bool×Int×ao×Int×Int×Bool×Int×ao×Int×au×List I))
 |(t25,a5,t27,Y,Z,ad,J,L,ap,av,ax,aE,aH,aY,a0,a1,a2,a3,a4,am,X)=>
 if (t27<a5:Bool) then if aI t27 t25.length then some (t25.getD t27.toNat aD)>>=λa=>hG (J,a.ae)>>=λr=>if !r.2 then if !a.bV then uH (a.ae,Y,Z,ad,am)>>=λE=>some (.inl (E.2.1,E.2.2.1,E.2.2.2.1,E.2.2.2.2.2,I.eta E.1,E.2.2.2.2.1))else jW (I.eta a.bz)>>=λb1=>some [I.eta b1]>>=λt54=>if room 120 (X++t54).length then ov (t25,a5,aQ .i64 t27 1,Y,Z,ad,J,I.eta L,ap,av,ax,aE,aH,aY,a0,a1,a2,a3,a4,am,X++t54)else none else if aI r.1 J.ag.length then if aI r.1 L.ai.length then pU (a.ae,(J.ag.getD r.1.toNat aD).aB,I.eta (L.ai.getD r.1.toNat az),a.aB,Y,Z,ad,am)>>=λp=>if aI r.1 J.ag.length then some (J.ag.getD r.1.toNat aD)>>=λW=>if aI r.1 L.ai.length then rP ((⟨W.ae,W.Name,W.aB,W.cv,W.bV,I.eta W.bz⟩:aU),I.eta (L.ai.getD r.1.toNat az))>>=λbv=>some (!p.2.1)>>=λt90=>(if(bv&&(!t90)) then rP ((⟨a.ae,a.Name,a.aB,a.cv,a.bV,I.eta a.bz⟩:aU),I.eta p.1)else some false)>>=λb2=>if(bif bv then bif t90 then true else(!b2)else false) then uH (a.ae,p.2.2.1,p.2.2.2.1,p.2.2.2.2.1,p.2.2.2.2.2)>>=λK=>some (.inl (K.2.1,K.2.2.1,K.2.2.2.1,K.2.2.2.2.2,I.eta K.1,K.2.2.2.2.1))else if !p.2.1 then some (.inl (false,p.2.2.1,p.2.2.2.1,p.2.2.2.2.1,(⟨0,false,0,[],0,[],[],[]⟩:I),p.2.2.2.2.2))else some [I.eta p.1]>>=λt110=>if room 120 (X++t110).length then ov (t25,a5,aQ .i64 t27 1,p.2.2.1,p.2.2.2.1,p.2.2.2.2.1,J,I.eta L,ap,av,ax,aE,aH,aY,a0,a1,a2,a3,a4,p.2.2.2.2.2,X++t110)else none else none else none else none else none else none else some (.inr (Y,Z,ad,J,I.eta L,ap,av,ax,aE,aH,aY,a0,a1,a2,a3,a4,am,X))
  partial_fixpoint
end
theorem Sx:eQ tH pU/\eQ wj rQ/\eQ z6 np/\eY 166 2 [0] yO rD/\eQ zZ xw/\eQ zY wY/\eY 164 2 [0] yN ov:=pU.mutual_partial_correctness (eM tH) (eM wj) (eM z6) (eX 166 2 [0] yO) (eM zZ) (eM zY) (eX 164 2 [0] yN)
 (λ_ h1 _ _ h=>eT h (.k (cC wj h1) .n))
 (λ_ _ _ c d bp _ _ h=>eT h (.k PQ (.k (cC zY bp) (.k (cC zZ d) (.k (cC z6 c) (.k EA .n))))))
 (λ_ a _ _ h=>eT h .n (.k (fb yO a) .n))
 (λ_ _ h0 a _ _ h=>fa yO a h (.k (cC tH h0) .n))
 (λ_ h0 _ _ h=>eT h (.k o7 (.k (cC tH h0) (.k PQ (.k P0 .n)))))
 (λ_ b _ _ h=>eT h .n (.k (fb yN b) (.k SO .n)))
 (λ_ _ h0 b _ _ h=>fa yN b h (.k o7 (.k PJ (.k T' (.k (cC tH h0) (.k E0 .n))))))
theorem TS:bm wj rQ:=cC _ Sx.2.1
def AW:bl×Int×I×bl×Int->Option (I×Int)
 |(w,wt,v,r,rt)=>
 A' (w,wt,I.eta v,r,rt)>>=λa=>if !(a=0:Bool) then some ((⟨0,false,0,[],0,[],[],[]⟩:I),a)else rQ (wt,I.eta v,rt,w.Types,r.Types,[],[])>>=λb=>if !b.2.1 then some ((⟨0,false,0,[],0,[],[],[]⟩:I),12)else some (I.eta b.1,0)
theorem Tj:bm NK AW:= .bA (.k Ut (.k TS .n))
def hp:Int×List ah×au×Int×au->Option (I×Bool×List ah×Int×au×au)
 |(c,b,e,f,a)=>
 sr 8 a>>=λr=>if((r.1.length=a.length:Bool)&&true) then some ((⟨0,false,0,[],0,[],[],[]⟩:I),false,b,c,r.1,r.2)else none
theorem qo:bm MO hp:= .bA (.k k0 .n)
def o5:ao×Int×Int×Int->Option Int
 |(a,b,c,t18)=>
 if (t18<c:Bool) then if aI t18 a.length then o5 (a,qR .u64 (mK .u64 b 8) (b9 .u64 (hU a t18)),c,aQ .i64 t18 1)else none else some b
  partial_fixpoint
theorem TT:cS 209 0 [0] LO o5:= .rx o5.partial_correctness
def xi(s:ao):Option (Int×Int):=
 some (!(decide (s=[])))>>=λt7=>if(aI 0 s.length||(!t7)) then if(bif t7 then (hU s 0=0:Bool)else false) then some (0,2)else if (8<(s.length:Int):Bool) then some (0,7)else o5 (s,0,(s.length:Int),0)>>=λo=>some (o,0)else none
theorem Ud:bm MP xi:= .bA .n (.k TT .n)
def AX(n:Int):Option Int:=
 some (td .i64 (b9 .i64 (lh .u64 n 1)) (dL .i64 0 (b9 .i64 (zN .u64 n 1))))
theorem Tk:bm MQ AX:= .bA
def qi:List ao×Int×List ah×au×Int×ah×Int×Bool×Int×ao×Int×Int×Bool×Int×ao×Int×au×List I->Option ((Bool×List ah×Int×I×au×au) ⊕ (List ao×List ah×au×Int×ah×Int×Bool×Int×ao×Int×Int×Bool×Int×ao×Int×au×List I))
 |(t,b,d,e,f,i,j,k,l,m,n,o,p,q,r,s,g,a)=>
 if (b<(a.length:Int):Bool) then some (dL .i64 b 1)>>=λt86=>if aI t86 a.length then if (t86.toNat<a.length:Bool) then if aI b a.length then if (b.toNat<a.length:Bool) then o9 (I.eta (a.getD t86.toNat az),I.eta (a.getD b.toNat az))>>=λu=>if (0<=u:Bool) then hp (1,d,e,f,g)>>=λc=>some (.inl (c.2.1,c.2.2.1,c.2.2.2.1,I.eta c.1,c.2.2.2.2.1,c.2.2.2.2.2))else qi (t,aQ .i64 b 1,d,e,f,i,j,k,l,m,n,o,p,q,r,s,g,a)else none else none else none else none else some (.inr (t,d,e,f,i,j,k,l,m,n,o,p,q,r,s,g,a))
  partial_fixpoint
theorem R8:cS 214 2 [1] LR qi:= .rx qi.partial_correctness (.k Pp (.k qo .n))
def ry:ao×Int×Int×Int->Option ((Int×Int×Int) ⊕ (Unit))
 |(a,n,b,t11)=>
 if (t11<b:Bool) then if aI t11 a.length then some (hU a t11)>>=λt16=>if(bif (t11=9:Bool)then (1<t16:Bool)else false) then some (.inl (0,0,7))else if (128<=t16:Bool) then some (jH .i64 7 t11)>>=λt41=>if (0<=t41:Bool) then ry (a,qR .u64 n (mK .u64 (b9 .u64 (zN .u8 t16 127)) t41),b,aQ .i64 t11 1)else none else if(bif (t16=0:Bool)then (0<t11:Bool)else false) then some (.inl (0,0,2))else some (jH .i64 7 t11)>>=λt21=>if (0<=t21:Bool) then some (.inl (qR .u64 n (mK .u64 (b9 .u64 t16) t21),aQ .i64 t11 1,0))else none else none else some (.inr ())
  partial_fixpoint
theorem T6:cS 346 0 [0] LP ry:= .rx ry.partial_correctness
def BI(s:ao):Option (Int×Int×Int):=
 ry (s,0,eN 10 (s.length:Int),0)>>=λo=>match o with
 |.inl a=>
 some (a.1,a.2.1,a.2.2)
 |.inr b=>
 some (0,0,10)
theorem UW:bm Nx BI:= .bA .n (.k T6 .n)
def qa(s:ao):Option (Int×ao×Bool):=
 BI s>>=λr=>if !(r.2.2=0:Bool) then some (0,[],false)else if ez r.2.1 (s.length:Int) s.length then some (r.1,e1 s r.2.1 (s.length:Int),true)else none
theorem FD:bm Nv qa:= .bA (.k UW .n)
def ym(s:ao):Option (ao×ao×Bool):=
 qa s>>=λr=>if(bif (!r.2.2)then true else (b9 .u64 (r.2.1.length:Int)<r.1:Bool)) then some ([],[],false)else if ez 0 r.1 r.2.1.length then if ez r.1 (r.2.1.length:Int) r.2.1.length then some (e1 r.2.1 0 r.1,e1 r.2.1 r.1 (r.2.1.length:Int),true)else none else none
theorem QA:bm Nw ym:= .bA (.k FD .n)
def kv:ao×List ao->Option ((Int) ⊕ (List ao))
 |(s,a)=>
 if !(s=[]:Bool) then ym s>>=λr=>if !r.2.2 then some (.inl 12)else some [r.1]>>=λt22=>if room 16 (a++t22).length then kv (r.2.1,a++t22)else none else some (.inr a)
  partial_fixpoint
theorem Uu:cS 280 0 [0] LQ kv:= .rx kv.partial_correctness (.k QA .n)
def pe(c:ao):Option (List ao×Int):=
 kv (c,[])>>=λo=>match o with
 |.inl a=>
 some ([],a)
 |.inr b=>
 some (b,0)
theorem PD:bm Nc pe:= .bA .n (.k Uu .n)
mutual
def jw(v:I):Option I:=
 gg 120 v.aG>>=λr=>gg 120 v.ai>>=λW=>gg 24 v.Rest>>=λX=>rT ((r.length:Int),0,v.Kind,v.b5,v.bo,v.bx,v.ae,0,false,0,[],0,r,W,X)>>=λo=>rU ((o.2.2.2.2.2.2.2.2.2.2.2.1.length:Int),0,o.1,o.2.1,o.2.2.1,o.2.2.2.1,o.2.2.2.2.1,o.2.2.2.2.2.1,o.2.2.2.2.2.2.1,o.2.2.2.2.2.2.2.1,o.2.2.2.2.2.2.2.2.1,o.2.2.2.2.2.2.2.2.2.1,o.2.2.2.2.2.2.2.2.2.2.2.1,o.2.2.2.2.2.2.2.2.2.2.1,o.2.2.2.2.2.2.2.2.2.2.2.2)>>=λa=>some (⟨a.1,a.2.1,a.2.2.1,a.2.2.2.1,a.2.2.2.2.1,a.2.2.2.2.2.2.2.2.2.2.1,a.2.2.2.2.2.2.2.2.2.2.2.1,a.2.2.2.2.2.2.2.2.2.2.2.2⟩:I)
  partial_fixpoint
def rT:Int×Int×Int×Bool×Int×ao×Int×Int×Bool×Int×ao×Int×List I×List I×List b6->Option (Int×Bool×Int×ao×Int×Int×Bool×Int×ao×Int×List I×List I×List b6)
 |(S,t22,g,j,p,q,t,w,x,y,A,B,c,D,E)=>
 if (t22<S:Bool) then if aI t22 c.length then if (t22.toNat<c.length:Bool) then jw (I.eta (c.getD t22.toNat az))>>=λY=>if aI t22 c.length then if (t22.toNat<c.length:Bool) then rT (S,aQ .i64 t22 1,g,j,p,q,t,w,x,y,A,B,c.set t22.toNat (I.eta Y),D,E)else none else none else none else none else some (g,j,p,q,t,w,x,y,A,B,c,D,E)
  partial_fixpoint
def rU:Int×Int×Int×Bool×Int×ao×Int×Int×Bool×Int×ao×Int×List I×List I×List b6->Option (Int×Bool×Int×ao×Int×Int×Bool×Int×ao×Int×List I×List I×List b6)
 |(U,t37,F,G,H,J,K,L,M,N,O,P,e,Q,R)=>
 if (t37<U:Bool) then if aI t37 e.length then if (t37.toNat<e.length:Bool) then jw (I.eta (e.getD t37.toNat az))>>=λZ=>if aI t37 e.length then if (t37.toNat<e.length:Bool) then rU (U,aQ .i64 t37 1,F,G,H,J,K,L,M,N,O,P,e.set t37.toNat (I.eta Z),Q,R)else none else none else none else none else some (F,G,H,J,K,L,M,N,O,P,Q,e,R)
  partial_fixpoint
end
theorem Uv:eQ tI jw/\eY 284 0 [1] yT rU/\eY 284 0 [0] yS rT:=jw.mutual_partial_correctness (eM tI) (eX 284 0 [1] yT) (eX 284 0 [0] yS)
 (λ_ _ h1 a _ _ h=>eT h (.k lD (.k lF .n)) (.k (fb yS a) (.k (fb yT h1) .n)))
 (λ_ _ h0 h1 _ _ h=>fa yT h1 h (.k (cC tI h0) .n))
 (λ_ _ h0 a _ _ h=>fa yS a h (.k (cC tI h0) .n))
theorem T7:bm tI jw:=cC _ Uv.1
def ET:eE×aU->Option (Bool×aU)
 |(f,b)=>
 some (decide (f.ae=b.ae),(⟨b.ae,b.Name,b.aB,b.cv,b.bV,I.eta b.bz⟩:aU))
theorem SP:bm Ng ET:= .bA
def om:List eE×Int×Int×aU->Option ((Int×aU) ⊕ (aU))
 |(b,c,t8,a)=>
 if (t8<c:Bool) then if aI t8 b.length then ET (b.getD t8.toNat lP,(⟨a.ae,a.Name,a.aB,a.cv,a.bV,I.eta a.bz⟩:aU))>>=λr=>if r.1 then some (.inl (t8,(⟨r.2.ae,r.2.Name,r.2.aB,r.2.cv,r.2.bV,I.eta r.2.bz⟩:aU)))else om (b,c,aQ .i64 t8 1,(⟨r.2.ae,r.2.Name,r.2.aB,r.2.cv,r.2.bV,I.eta r.2.bz⟩:aU))else none else some (.inr (⟨a.ae,a.Name,a.aB,a.cv,a.bV,I.eta a.bz⟩:aU))
  partial_fixpoint
theorem RX:cS 282 1 [0] LU om:= .rx om.partial_correctness (.k SP .n)
def wN(d:List eE×aU):Option (Int×aU):=
 match d with
 |(s,b)=>
 om (s,(s.length:Int),0,(⟨b.ae,b.Name,b.aB,b.cv,b.bV,I.eta b.bz⟩:aU))>>=λo=>match o with
 |.inl a=>
 some (a.1,(⟨a.2.ae,a.2.Name,a.2.aB,a.2.cv,a.2.bV,I.eta a.2.bz⟩:aU))
 |.inr c=>
 some ((-1),(⟨c.ae,c.Name,c.aB,c.cv,c.bV,I.eta c.bz⟩:aU))
theorem R1:bm Nf wN:= .bA .n (.k RX .n)
def oq:List eE×Int×Int×List ah×au×Int×ah×Int×Bool×Int×ao×Int×Int×Bool×Int×ao×Int×au×List I×List b6->Option ((Bool×List ah×Int×I×au×au) ⊕ (List ah×au×Int×Int×Bool×Int×ao×Int×Int×Bool×Int×ao×Int×au×List I×List b6))
 |(t117,u,t119,d,e,f,i,j,k,l,m,n,o,p,q,r,s,b,t,g)=>
 if (t119<u:Bool) then if aI t119 t117.length then some (t117.getD t119.toNat lP)>>=λc=>hG (i,c.ae)>>=λv=>if v.2 then oq (t117,u,aQ .i64 t119 1,d,e,f,i,j,k,l,m,n,o,p,q,r,s,b,t,g)else if c.cv then some [c.ae]>>=λt140=>if room 8 (b++t140).length then hp (6,d,e,f,b++t140)>>=λa=>some (dL .i64 (a.2.2.2.2.1.length:Int) 1)>>=λt159=>if ez 0 t159 a.2.2.2.2.1.length then if (t159.toNat<=a.2.2.2.2.1.length:Bool) then some (.inl (false,a.2.2.1,a.2.2.2.1,I.eta a.1,a.2.2.2.2.1.take t159.toNat,a.2.2.2.2.2))else none else none else none else some [(⟨c.ae,c.Data⟩:b6)]>>=λt171=>if room 24 (g++t171).length then oq (t117,u,aQ .i64 t119 1,d,e,f,i,j,k,l,m,n,o,p,q,r,s,b,t,g++t171)else none else none else some (.inr (d,e,f,j,k,l,m,n,o,p,q,r,s,b,t,g))
  partial_fixpoint
theorem RL:cS 215 2 [1] LV oq:= .rx oq.partial_correctness (.k o7 (.k qo .n))
end
end Go.Proofs.YtkbmjabicjpmjaaGreatDoor
