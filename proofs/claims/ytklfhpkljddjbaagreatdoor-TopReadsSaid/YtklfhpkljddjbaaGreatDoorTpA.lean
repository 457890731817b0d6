/- The functions of the program as functions of Lean, that its code does what they say, and what they answer; part A. -/
import Derived.Test.YtklfhpkljddjbaaGreatDoorProg
import Derived.KernelRfl
import Derived.Shelf.SlGeneric
import Derived.Shelf.SlLaysF0
import Derived.Shelf.SlSortCmp.WholeK
import Derived.Lib.Small
import Derived.Deep.QuietTactic
import Derived.Test.YtklfhpkljddjbaaGreatDoorTpLD

namespace Go.Proofs.YtklfhpkljddjbaaGreatDoor
set_option linter.all false
section
open Go Go.Proofs.YtklfhpkljddjbaaGreatDoor.Shv
open Tryz
set_option maxRecDepth 100000
structure lM where
 ah:Int
 aB:Int
 g':Int
structure dk where
 Kind:Int
 A:Int
 B:Int
 C:Int
 cY:List lM
structure en where
 eE:List dk
structure la where
 Kind:Int
 Node:Int
 A:Int
 B:Int
structure mB where
 S:en
 L:List la
 T:Int
 U:Int
structure dO where
 ah:Int
 Name:ar
structure cG where
 ah:Int
 Data:ar
structure aa where
 Kind:Int
 b9:Bool
 bw:Int
 bH:ar
 ah:Int
 aJ:List aa
 aq:List aa
 Rest:List cG
structure aU where
 ah:Int
 Name:ar
 aB:Int
 cu:Bool
 b8:Bool
 bU:aa
structure aj where
 Kind:Int
 Name:ar
 bT:Int
 bW:Int
 Max:Int
 bo:List dO
 af:List aU
 Key:Int
 aK:Int
 Open:Bool
structure bq where
 Types:List aj
structure bY where
 eX:bq
 aB:Int
structure bt where
 bQ:Int
 bF:Int
structure fZ where
 id:Int
 text:ar
structure y0 where
 found:Bool
 xY:Bool
 kG:ar
 value:aa
structure y1 where
 known:Bool
 xY:Bool
 kG:ar
 v:aa
structure jv where
 AE:Bool
 Relation:List bt
 Message:ar
structure ir where
 w:bY
 r:bY
structure c7 where
 ah:Int
 cu:Bool
 Data:ar
structure lT where
 Path:au
 Reason:Int
structure iu where
 t:Int
 number:Int
structure jz where
 v:aa
 u:aa
 message:ar
abbrev Ho:Nat:=0
abbrev C0:Nat:=2
abbrev RB:Nat:=3
abbrev R9:Nat:=4
def iL:lM:=⟨0,0,0⟩
def bp:dk:=⟨0,0,0,0,[]⟩
def RC:en:=⟨[]⟩
def nI:la:=⟨0,0,0,0⟩
def VJ:mB:=⟨RC,[],0,0⟩
def fE:dO:=⟨0,[]⟩
def ec:cG:=⟨0,[]⟩
def aH:aa:=⟨0,false,0,[],0,[],[],[]⟩
def aG:aU:=⟨0,[],0,false,false,aH⟩
def aM:aj:=⟨0,[],0,0,0,[],[],0,0,false⟩
def LF:bq:=⟨[]⟩
def q1:bY:=⟨LF,0⟩
def dN:bt:=⟨0,0⟩
def vW:fZ:=⟨0,[]⟩
def X1:y0:=⟨false,false,[],aH⟩
def X2:y1:=⟨false,false,[],aH⟩
def Z8:jv:=⟨false,[],[]⟩
def X3:ir:=⟨q1,q1⟩
def lV:c7:=⟨0,false,[]⟩
def Z9:lT:=⟨[],0⟩
def Iz:iu:=⟨0,0⟩
def VV:jz:=⟨aH,aH,[]⟩
def fz:Nat->Type
 |0=>mB
 |1=>en
 |2=>dk
 |3=>lM
 |4=>la
 |5=>aj
 |6=>dO
 |7=>aU
 |8=>aa
 |9=>cG
 |10=>bq
 |11=>bY
 |12=>bt
 |13=>fZ
 |14=>y0
 |15=>y1
 |16=>jv
 |17=>ir
 |18=>c7
 |19=>lT
 |20=>iu
 |21=>jz
 |_=>Bool
def gX:Nat->List aD
 |0=>[.slice (.nm 2),.slice (.nm 4),.int .u8,.int .u8]
 |1=>[.slice (.nm 2)]
 |2=>[.int .u8,.int .u8,.int .u8,.int .u8,.slice (.nm 3)]
 |3=>[.int .u8,.int .u8,.int .u8]
 |4=>[.int .u8,.int .u8,.int .u8,.int .u8]
 |5=>[.int .i64,.str,.int .i64,.int .i64,.int .i64,.slice (.nm 6),.slice (.nm 7),.int .i64,.int .i64,.bool]
 |6=>[.int .i64,.str]
 |7=>[.int .i64,.str,.int .i64,.bool,.bool,.int .i64,.bool,.int .i64,.str,.int .i64,.slice (.nm 8),.slice (.nm 8),.slice (.nm 9)]
 |8=>[.int .i64,.bool,.int .i64,.str,.int .i64,.slice (.nm 8),.slice (.nm 8),.slice (.nm 9)]
 |9=>[.int .i64,.str]
 |10=>[.slice (.nm 5)]
 |11=>[.slice (.nm 5),.int .i64]
 |12=>[.int .i64,.int .i64]
 |13=>[.int .i64,.str]
 |14=>[.bool,.bool,.str,.int .i64,.bool,.int .i64,.str,.int .i64,.slice (.nm 8),.slice (.nm 8),.slice (.nm 9)]
 |15=>[.bool,.bool,.str,.int .i64,.bool,.int .i64,.str,.int .i64,.slice (.nm 8),.slice (.nm 8),.slice (.nm 9)]
 |16=>[.bool,.slice (.nm 12),.str]
 |17=>[.slice (.nm 5),.int .i64,.slice (.nm 5),.int .i64]
 |18=>[.int .i64,.bool,.str]
 |19=>[.slice (.int .i64),.int .i64]
 |20=>[.int .i64,.int .i64]
 |21=>[.int .i64,.bool,.int .i64,.str,.int .i64,.slice (.nm 8),.slice (.nm 8),.slice (.nm 9),.int .i64,.bool,.int .i64,.str,.int .i64,.slice (.nm 8),.slice (.nm 8),.slice (.nm 9),.str]
 |_=>[.bool]
def ahm:(n:Nat)->fz n->List (Cell fz)
 |0,(x:mB)=>[⟨.slice (.nm 2),x.S.eE⟩,⟨.slice (.nm 4),x.L⟩,⟨.int .u8,x.T⟩,⟨.int .u8,x.U⟩]
 |1,(x:en)=>[⟨.slice (.nm 2),x.eE⟩]
 |2,(x:dk)=>[⟨.int .u8,x.Kind⟩,⟨.int .u8,x.A⟩,⟨.int .u8,x.B⟩,⟨.int .u8,x.C⟩,⟨.slice (.nm 3),x.cY⟩]
 |3,(x:lM)=>[⟨.int .u8,x.ah⟩,⟨.int .u8,x.aB⟩,⟨.int .u8,x.g'⟩]
 |4,(x:la)=>[⟨.int .u8,x.Kind⟩,⟨.int .u8,x.Node⟩,⟨.int .u8,x.A⟩,⟨.int .u8,x.B⟩]
 |5,(x:aj)=>[⟨.int .i64,x.Kind⟩,⟨.str,x.Name⟩,⟨.int .i64,x.bT⟩,⟨.int .i64,x.bW⟩,⟨.int .i64,x.Max⟩,⟨.slice (.nm 6),x.bo⟩,⟨.slice (.nm 7),x.af⟩,⟨.int .i64,x.Key⟩,⟨.int .i64,x.aK⟩,⟨.bool,x.Open⟩]
 |6,(x:dO)=>[⟨.int .i64,x.ah⟩,⟨.str,x.Name⟩]
 |7,(x:aU)=>[⟨.int .i64,x.ah⟩,⟨.str,x.Name⟩,⟨.int .i64,x.aB⟩,⟨.bool,x.cu⟩,⟨.bool,x.b8⟩,⟨.int .i64,x.bU.Kind⟩,⟨.bool,x.bU.b9⟩,⟨.int .i64,x.bU.bw⟩,⟨.str,x.bU.bH⟩,⟨.int .i64,x.bU.ah⟩,⟨.slice (.nm 8),x.bU.aJ⟩,⟨.slice (.nm 8),x.bU.aq⟩,⟨.slice (.nm 9),x.bU.Rest⟩]
 |8,(x:aa)=>[⟨.int .i64,x.Kind⟩,⟨.bool,x.b9⟩,⟨.int .i64,x.bw⟩,⟨.str,x.bH⟩,⟨.int .i64,x.ah⟩,⟨.slice (.nm 8),x.aJ⟩,⟨.slice (.nm 8),x.aq⟩,⟨.slice (.nm 9),x.Rest⟩]
 |9,(x:cG)=>[⟨.int .i64,x.ah⟩,⟨.str,x.Data⟩]
 |10,(x:bq)=>[⟨.slice (.nm 5),x.Types⟩]
 |11,(x:bY)=>[⟨.slice (.nm 5),x.eX.Types⟩,⟨.int .i64,x.aB⟩]
 |12,(x:bt)=>[⟨.int .i64,x.bQ⟩,⟨.int .i64,x.bF⟩]
 |13,(x:fZ)=>[⟨.int .i64,x.id⟩,⟨.str,x.text⟩]
 |14,(x:y0)=>[⟨.bool,x.found⟩,⟨.bool,x.xY⟩,⟨.str,x.kG⟩,⟨.int .i64,x.value.Kind⟩,⟨.bool,x.value.b9⟩,⟨.int .i64,x.value.bw⟩,⟨.str,x.value.bH⟩,⟨.int .i64,x.value.ah⟩,⟨.slice (.nm 8),x.value.aJ⟩,⟨.slice (.nm 8),x.value.aq⟩,⟨.slice (.nm 9),x.value.Rest⟩]
 |15,(x:y1)=>[⟨.bool,x.known⟩,⟨.bool,x.xY⟩,⟨.str,x.kG⟩,⟨.int .i64,x.v.Kind⟩,⟨.bool,x.v.b9⟩,⟨.int .i64,x.v.bw⟩,⟨.str,x.v.bH⟩,⟨.int .i64,x.v.ah⟩,⟨.slice (.nm 8),x.v.aJ⟩,⟨.slice (.nm 8),x.v.aq⟩,⟨.slice (.nm 9),x.v.Rest⟩]
 |16,(x:jv)=>[⟨.bool,x.AE⟩,⟨.slice (.nm 12),x.Relation⟩,⟨.str,x.Message⟩]
 |17,(x:ir)=>[⟨.slice (.nm 5),x.w.eX.Types⟩,⟨.int .i64,x.w.aB⟩,⟨.slice (.nm 5),x.r.eX.Types⟩,⟨.int .i64,x.r.aB⟩]
 |18,(x:c7)=>[⟨.int .i64,x.ah⟩,⟨.bool,x.cu⟩,⟨.str,x.Data⟩]
 |19,(x:lT)=>[⟨.slice (.int .i64),x.Path⟩,⟨.int .i64,x.Reason⟩]
 |20,(x:iu)=>[⟨.int .i64,x.t⟩,⟨.int .i64,x.number⟩]
 |21,(x:jz)=>[⟨.int .i64,x.v.Kind⟩,⟨.bool,x.v.b9⟩,⟨.int .i64,x.v.bw⟩,⟨.str,x.v.bH⟩,⟨.int .i64,x.v.ah⟩,⟨.slice (.nm 8),x.v.aJ⟩,⟨.slice (.nm 8),x.v.aq⟩,⟨.slice (.nm 9),x.v.Rest⟩,⟨.int .i64,x.u.Kind⟩,⟨.bool,x.u.b9⟩,⟨.int .i64,x.u.bw⟩,⟨.str,x.u.bH⟩,⟨.int .i64,x.u.ah⟩,⟨.slice (.nm 8),x.u.aJ⟩,⟨.slice (.nm 8),x.u.aq⟩,⟨.slice (.nm 9),x.u.Rest⟩,⟨.str,x.message⟩]
 |_+22,(x:Bool)=>[⟨.bool,x⟩]
def Rm:(n:Nat)->List (Cell fz)->Option (fz n)
 |0,l=>(aP.dec fz (gX 0) l).map λ(a0,a1,a2,a3)=>(⟨(⟨a0⟩:en),a1,a2,a3⟩:mB)
 |1,l=>(aP.dec fz (gX 1) l).map λh=>(⟨h⟩:en)
 |2,l=>(aP.dec fz (gX 2) l).map λ(a0,a1,a2,a3,a4)=>(⟨a0,a1,a2,a3,a4⟩:dk)
 |3,l=>(aP.dec fz (gX 3) l).map λ(a0,a1,a2)=>(⟨a0,a1,a2⟩:lM)
 |4,l=>(aP.dec fz (gX 4) l).map λ(a0,a1,a2,a3)=>(⟨a0,a1,a2,a3⟩:la)
 |5,l=>(aP.dec fz (gX 5) l).map λ(a0,a1,a2,a3,a4,a5,a,b,c,a9)=>(⟨a0,a1,a2,a3,a4,a5,a,b,c,a9⟩:aj)
 |6,l=>(aP.dec fz (gX 6) l).map λ(a0,a1)=>(⟨a0,a1⟩:dO)
 |7,l=>(aP.dec fz (gX 7) l).map λ(a0,a1,a2,a3,a4,a5,a,b,c,a9,d,e,f)=>(⟨a0,a1,a2,a3,a4,(⟨a5,a,b,c,a9,d,e,f⟩:aa)⟩:aU)
 |8,l=>(aP.dec fz (gX 8) l).map λ(a0,a1,a2,a3,a4,a5,a,b)=>(⟨a0,a1,a2,a3,a4,a5,a,b⟩:aa)
 |9,l=>(aP.dec fz (gX 9) l).map λ(a0,a1)=>(⟨a0,a1⟩:cG)
 |10,l=>(aP.dec fz (gX 10) l).map λh=>(⟨h⟩:bq)
 |11,l=>(aP.dec fz (gX 11) l).map λ(a0,a1)=>(⟨(⟨a0⟩:bq),a1⟩:bY)
 |12,l=>(aP.dec fz (gX 12) l).map λ(a0,a1)=>(⟨a0,a1⟩:bt)
 |13,l=>(aP.dec fz (gX 13) l).map λ(a0,a1)=>(⟨a0,a1⟩:fZ)
 |14,l=>(aP.dec fz (gX 14) l).map λ(a0,a1,a2,a3,a4,a5,a,b,c,a9,d)=>(⟨a0,a1,a2,(⟨a3,a4,a5,a,b,c,a9,d⟩:aa)⟩:y0)
 |15,l=>(aP.dec fz (gX 15) l).map λ(a0,a1,a2,a3,a4,a5,a,b,c,a9,d)=>(⟨a0,a1,a2,(⟨a3,a4,a5,a,b,c,a9,d⟩:aa)⟩:y1)
 |16,l=>(aP.dec fz (gX 16) l).map λ(a0,a1,a2)=>(⟨a0,a1,a2⟩:jv)
 |17,l=>(aP.dec fz (gX 17) l).map λ(a0,a1,a2,a3)=>(⟨(⟨(⟨a0⟩:bq),a1⟩:bY),(⟨(⟨a2⟩:bq),a3⟩:bY)⟩:ir)
 |18,l=>(aP.dec fz (gX 18) l).map λ(a0,a1,a2)=>(⟨a0,a1,a2⟩:c7)
 |19,l=>(aP.dec fz (gX 19) l).map λ(a0,a1)=>(⟨a0,a1⟩:lT)
 |20,l=>(aP.dec fz (gX 20) l).map λ(a0,a1)=>(⟨a0,a1⟩:iu)
 |21,l=>(aP.dec fz (gX 21) l).map λ(a0,a1,a2,a3,a4,a5,a,b,c,a9,d,e,f,g,i,j,k)=>(⟨(⟨a0,a1,a2,a3,a4,a5,a,b⟩:aa),(⟨c,a9,d,e,f,g,i,j⟩:aa),k⟩:jz)
 |_+22,l=>(aP.dec fz [.bool] l).map λ(h:Bool)=>h
def Qp(x:lM):List T:=[.int .u8 x.ah,.int .u8 x.aB,.int .u8 x.g']
def Gg(x:dk):List T:=[.int .u8 x.Kind,.int .u8 x.A,.int .u8 x.B,.int .u8 x.C,.slice (x.cY.map Qp)]
def afg(x:en):List T:=[.slice (x.eE.map Gg)]
def Qo(x:la):List T:=[.int .u8 x.Kind,.int .u8 x.Node,.int .u8 x.A,.int .u8 x.B]
def afh(x:mB):List T:=[.slice (x.S.eE.map Gg),.slice (x.L.map Qo),.int .u8 x.T,.int .u8 x.U]
def Qn(x:dO):List T:=[.int .i64 x.ah,.str x.Name]
def qf(x:cG):List T:=[.int .i64 x.ah,.str x.Data]
def aa.eta(x:aa):aa:=⟨x.Kind,x.b9,x.bw,x.bH,x.ah,x.aJ,x.aq,x.Rest⟩
theorem aa.bO(x:aa):x.eta=x:=by cases x;rfl
mutual
def jb:aa->List T
 |⟨a0,a1,a2,a3,a4,a5,a,c⟩=>[.int .i64 a0,.bool a1,.int .i64 a2,.str a3,.int .i64 a4,.slice (xP a5),.slice (xP a),.slice (c.map qf)]
def xP:List aa->List (List T)
 |[]=>[]
 |v::r=>jb v::xP r
end
theorem Ss:∀l,xP l=l.map jb
 |[]=>rfl
 |v::r=>by simp only[xP,List.map];rw[Ss r]
theorem Ze(x:aa):jb x=[.int .i64 x.Kind,.bool x.b9,.int .i64 x.bw,.str x.bH,.int .i64 x.ah,.slice (x.aJ.map jb),.slice (x.aq.map jb),.slice (x.Rest.map qf)]:=by cases x;simp only[jb,Ss]
def Qm(x:aU):List T:=[.int .i64 x.ah,.str x.Name,.int .i64 x.aB,.bool x.cu,.bool x.b8,.int .i64 x.bU.Kind,.bool x.bU.b9,.int .i64 x.bU.bw,.str x.bU.bH,.int .i64 x.bU.ah,.slice (x.bU.aJ.map jb),.slice (x.bU.aq.map jb),.slice (x.bU.Rest.map qf)]
def xO(x:aj):List T:=[.int .i64 x.Kind,.str x.Name,.int .i64 x.bT,.int .i64 x.bW,.int .i64 x.Max,.slice (x.bo.map Qn),.slice (x.af.map Qm),.int .i64 x.Key,.int .i64 x.aK,.bool x.Open]
def afe(x:bq):List T:=[.slice (x.Types.map xO)]
def afd(x:bY):List T:=[.slice (x.eX.Types.map xO),.int .i64 x.aB]
def Ql(x:bt):List T:=[.int .i64 x.bQ,.int .i64 x.bF]
def ae9(x:fZ):List T:=[.int .i64 x.id,.str x.text]
def afi(x:y0):List T:=[.bool x.found,.bool x.xY,.str x.kG,.int .i64 x.value.Kind,.bool x.value.b9,.int .i64 x.value.bw,.str x.value.bH,.int .i64 x.value.ah,.slice (x.value.aJ.map jb),.slice (x.value.aq.map jb),.slice (x.value.Rest.map qf)]
def ae'(x:y1):List T:=[.bool x.known,.bool x.xY,.str x.kG,.int .i64 x.v.Kind,.bool x.v.b9,.int .i64 x.v.bw,.str x.v.bH,.int .i64 x.v.ah,.slice (x.v.aJ.map jb),.slice (x.v.aq.map jb),.slice (x.v.Rest.map qf)]
def aff(x:jv):List T:=[.bool x.AE,.slice (x.Relation.map Ql),.str x.Message]
def ae7(x:ir):List T:=[.slice (x.w.eX.Types.map xO),.int .i64 x.w.aB,.slice (x.r.eX.Types.map xO),.int .i64 x.r.aB]
def afc(x:c7):List T:=[.int .i64 x.ah,.bool x.cu,.str x.Data]
def afb(x:lT):List T:=[.slice (x.Path.map (λy=>[.int .i64 y])),.int .i64 x.Reason]
def afa(x:iu):List T:=[.int .i64 x.t,.int .i64 x.number]
def ae8(x:jz):List T:=[.int .i64 x.v.Kind,.bool x.v.b9,.int .i64 x.v.bw,.str x.v.bH,.int .i64 x.v.ah,.slice (x.v.aJ.map jb),.slice (x.v.aq.map jb),.slice (x.v.Rest.map qf),.int .i64 x.u.Kind,.bool x.u.b9,.int .i64 x.u.bw,.str x.u.bH,.int .i64 x.u.ah,.slice (x.u.aJ.map jb),.slice (x.u.aq.map jb),.slice (x.u.Rest.map qf),.str x.message]
def ahl:(n:Nat)->fz n->List T
 |0,x=>afh x
 |1,x=>afg x
 |2,x=>Gg x
 |3,x=>Qp x
 |4,x=>Qo x
 |5,x=>xO x
 |6,x=>Qn x
 |7,x=>Qm x
 |8,x=>jb x
 |9,x=>qf x
 |10,x=>afe x
 |11,x=>afd x
 |12,x=>Ql x
 |13,x=>ae9 x
 |14,x=>afi x
 |15,x=>ae' x
 |16,x=>aff x
 |17,x=>ae7 x
 |18,x=>afc x
 |19,x=>afb x
 |20,x=>afa x
 |21,x=>ae8 x
 |_+22,(x:Bool)=>[.bool x]
def bP:cF where
 D:=fz
 jZ:=λn=>match n with
  |0=>VJ
  |1=>RC
  |2=>bp
  |3=>iL
  |4=>nI
  |5=>aM
  |6=>fE
  |7=>aG
  |8=>aH
  |9=>ec
  |10=>LF
  |11=>q1
  |12=>dN
  |13=>vW
  |14=>X1
  |15=>X2
  |16=>Z8
  |17=>X3
  |18=>lV
  |19=>Z9
  |20=>Iz
  |21=>VV
  |_+22=>false
 u3:=ahm
 make:=Rm
 de:=gX
 enc:=ahl
 Qr:=λn x=>match n,x with
  |0,_|1,_|2,_|3,_|4,_|5,_|6,_|7,_|9,_|10,_|11,_|12,_|13,_|14,_|15,_|16,_|17,_|18,_|19,_|20,_|21,_=>rfl
  |8,x=>Ze x
  |_+22,_=>rfl
 mk_eq:=λn l x h=>match n,x,h with
  |0,x,h|1,x,h|2,x,h|3,x,h|4,x,h|5,x,h|6,x,h|7,x,h|8,x,h|9,x,h|10,x,h|11,x,h|12,x,h|13,x,h|14,x,h|15,x,h|16,x,h|17,x,h|18,x,h|19,x,h|20,x,h|21,x,h=>by
   obtain⟨_,a,rfl⟩:=kB.1 h;exact aP.mL a
  |_+22,x,h=>by
   obtain⟨_,a,rfl⟩:=kB.1 h;exact aP.mL a
 Rl:=λn x=>match n,x with
  |0,_|1,_|2,_|3,_|4,_|5,_|6,_|7,_|8,_|9,_|10,_|11,_|12,_|13,_|14,_|15,_|16,_|17,_|18,_|19,_|20,_|21,_=>rfl
  |_+22,_=>rfl
 Rk:=λe=>match e with
  |3=>some (.int .i64)
  |4=>some .bool
  |9=>some .str
  |33=>some (.nm 11)
  |43=>some (.nm 8)
  |59=>some (.nm 5)
  |96=>some (.nm 6)
  |103=>some (.nm 3)
  |106=>some (.nm 7)
  |108=>some (.nm 14)
  |119=>some (.nm 12)
  |126=>some (.nm 9)
  |193=>some (.nm 13)
  |250=>some (.nm 18)
  |304=>some (.nm 20)
  |_=>none
 own:=[([false,false,true,true],2,.int .i64),([false,true,true,false],1,.int .i64)]
 pos:=λn=>match n with
  |0|1|2|3|4|5|6|7|8|9|10|11|12|13|14|15|16|17|18|19|20|21=>by decide
  |_+22=>Nat.zero_lt_one
theorem acZ:∀n (l:List (Cell fz)),l.map Cell.ty=gX n->∃x,Rm n l=some x:=λn l h=>by
 obtain⟨x,I⟩:=aP.aeq h
 match n,x,I with
 |0,x,I|1,x,I|2,x,I|3,x,I|4,x,I|5,x,I|6,x,I|7,x,I|8,x,I|9,x,I|10,x,I|11,x,I|12,x,I|13,x,I|14,x,I|15,x,I|16,x,I|17,x,I|18,x,I|19,x,I|20,x,I|21,x,I|_+22,x,I=>exact⟨_,dd (Option.map _) I⟩
theorem aeh:bP.Total:=acZ
end
section
open Go Go.Proofs.YtklfhpkljddjbaaGreatDoor.Shv
open Tryz
set_option maxRecDepth 100000
open Go.Proofs Go.Proofs.YtklfhpkljddjbaaGreatDoor Go.Shelf
theorem UX:gL prog 149=true:=by kernel_rfl
def kT:ca bP:=J4 bP 149 (.int .i64) 8
theorem U2:hN prog kT:=Y8 (te:=3) (sz:=1) (bytes:=8) (z:=[.t (.int .i64 0)]) func149 (by kernel_rfl) (by kernel_rfl) (by kernel_rfl) rfl rfl
theorem kU:dP prog kT:=⟨UX,U2⟩
theorem Wo:gL prog 212=true:=by kernel_rfl
def kV:ca bP:=E9 bP 212 (.nm 8) 120
theorem Vg:hN prog kV:=La (te:=43) (sz:=8) (bytes:=120) (z:=[.t (.int .i64 0),.t (.bool false),.t (.int .i64 0),.t (.str []),.t (.int .i64 0),.bD,.bD,.bD]) func212 (by kernel_rfl) (by kernel_rfl) (by kernel_rfl) rfl rfl
theorem kZ:dP prog kV:=⟨Wo,Vg⟩
theorem Wp:gL prog 213=true:=by kernel_rfl
def k0:ca bP:=E9 bP 213 (.nm 9) 24
theorem Vh:hN prog k0:=La (te:=126) (sz:=2) (bytes:=24) (z:=[.t (.int .i64 0),.t (.str [])]) func213 (by kernel_rfl) (by kernel_rfl) (by kernel_rfl) rfl rfl
theorem lZ:dP prog k0:=⟨Wp,Vh⟩
instance:Inhabited fZ:=⟨vW⟩
instance:Inhabited (bP.D 13):=⟨vW⟩
def lD(x y:fZ):Bool:=decide (x.id<y.id)
def Hp(l:List fZ):Option (List fZ):=some (j4 lD l)
section
open Go.Proofs Go.Proofs.YtklfhpkljddjbaaGreatDoor Go.Sort Go.RowKit Go.Lib
theorem agK(x:Int)(w:World):Calls prog 141 #[.int .i64 x] w λe w'=>e= .returned (.bool false)/\w'=w:=by
 go_enter func141,ntmps141
 go_wp2
 go_ret
 exact⟨by simp,rfl⟩
set_option maxHeartbeats 1000000 in
theorem agJ(x y:Int)(w:World):Calls prog 97 #[.int .i64 x,.int .i64 y] w λe w'=>e= .returned (.int .i64 (Lib.compareInt x y))/\w'=w:=by
 go_enter func97,ntmps97
 go_wp2_with (go_at_call 141;refine(agK _ _).mono ?_;rintro e w' ⟨rfl,a⟩;rw[a])
 all_goals (go_ret;refine⟨?_,rfl⟩;unfold Lib.compareInt;(repeat' split)<;>first|rfl|(exfalso;omega))
def Aj(x:fZ):List Value:=[.int .i64 x.id,.string ⟨x.text.toArray⟩]
set_option maxHeartbeats 1000000 in
theorem agH(x y:Int)(s t:ByteArray)(W:World):Calls prog 96 #[.agg #[.int .i64 x,.string s],.agg #[.int .i64 y,.string t]] W λe w'=>e= .returned (.int .i64 (Lib.compareInt x y))/\∃q c,w'=grow (W.drewN q) c:=by
 have a:=λb=>agJ x y b;generalize Lib.compareInt x y=r at a⊢
 go_enter func96,ntmps96
 go_wp2_with (go_at_call 97;refine(a _).mono ?_;rintro e w' ⟨rfl,rfl⟩)
 go_ret
 exact⟨rfl,0,_,by rw[alloc_eq_grow,alloc_eq_grow,grow_grow];rfl⟩
def LG:Go.Shelf.Ren:=⟨λ|6=>95|15=>126|14=>140|28=>186|29=>187|20=>194|21=>195|22=>196|23=>197|24=>198|25=>199|26=>200|27=>201|46=>240|47=>233|48=>234|49=>241|50=>242|57=>256|n=>n,λ|22=>189|24=>193|25=>196|3=>3|39=>188|0=>0|53=>277|55=>132|4=>4|46=>271|45=>270|50=>197|5=>5|9=>9|66=>317|70=>321|76=>338|77=>339|n=>n,λ|n=>n⟩
theorem QB:SlLaysF0.n6 prog LG:={
 mixed:=by kernel_rfl
 f6:=⟨f95.name,by decide,func95.trans (dd some (by kernel_rfl))⟩
 f14:=⟨f140.name,by decide,func140.trans (dd some (by kernel_rfl))⟩
 f15:=func126.trans (dd some (by kernel_rfl))
 f20:=⟨f194.name,by decide,func194.trans (dd some (by kernel_rfl))⟩
 f21:=⟨f195.name,by decide,func195.trans (dd some (by kernel_rfl))⟩
 f22:=⟨f196.name,by decide,func196.trans (dd some (by kernel_rfl))⟩
 f23:=⟨f197.name,by decide,func197.trans (dd some (by kernel_rfl))⟩
 f24:=⟨f198.name,by decide,func198.trans (dd some (by kernel_rfl))⟩
 f25:=⟨f199.name,by decide,func199.trans (dd some (by kernel_rfl))⟩
 f26:=⟨f200.name,by decide,func200.trans (dd some (by kernel_rfl))⟩
 f27:=⟨f201.name,by decide,func201.trans (dd some (by kernel_rfl))⟩
 f28:=func186.trans (dd some (by kernel_rfl))
 f29:=func187.trans (dd some (by kernel_rfl))
 f46:=⟨f240.name,by decide,func240.trans (dd some (by kernel_rfl))⟩
 f47:=func233.trans (dd some (by kernel_rfl))
 f48:=func234.trans (dd some (by kernel_rfl))
 f49:=⟨f241.name,by decide,func241.trans (dd some (by kernel_rfl))⟩
 f50:=⟨f242.name,by decide,func242.trans (dd some (by kernel_rfl))⟩
 f57:=⟨f256.name,by decide,func256.trans (dd some (by kernel_rfl))⟩
 t0:=underlying0
 a0:=isAgg0
 z0:=sizeOf0
 v0:=zeroValue0
 t3:=underlying3
 a3:=isAgg3
 z3:=sizeOf3
 v3:=zeroValue3
 t4:=underlying4
 a4:=isAgg4
 z4:=sizeOf4
 v4:=zeroValue4
 t5:=underlying5
 a5:=isAgg5
 z5:=sizeOf5
 v5:=zeroValue5
 t9:=underlying9
 a9:=isAgg9
 z9:=sizeOf9
 v9:=zeroValue9
 t22:=underlying189
 a22:=isAgg189
 z22:=sizeOf189
 v22:=zeroValue189
 t25:=underlying196
 a25:=isAgg196
 z25:=sizeOf196
 v25:=zeroValue196
 t39:=underlying188
 a39:=isAgg188
 z39:=sizeOf188
 v39:=zeroValue188
 t45:=underlying270
 a45:=isAgg270
 z45:=sizeOf270
 v45:=zeroValue270
 t46:=underlying271
 a46:=isAgg271
 z46:=sizeOf271
 v46:=zeroValue271
 t50:=underlying197
 a50:=isAgg197
 z50:=sizeOf197
 v50:=zeroValue197
 t53:=underlying277
 a53:=isAgg277
 z53:=sizeOf277
 v53:=zeroValue277
 t55:=underlying132
 a55:=isAgg132
 z55:=sizeOf132
 v55:=zeroValue132
 t66:=underlying317
 a66:=isAgg317
 z66:=sizeOf317
 v66:=zeroValue317
 t70:=underlying321
 a70:=isAgg321
 z70:=sizeOf321
 v70:=zeroValue321
 t76:=underlying338
 a76:=isAgg338
 z76:=sizeOf338
 v76:=zeroValue338
 t77:=underlying339
 a77:=isAgg339
 z77:=sizeOf339
 v77:=zeroValue339}
theorem KP:ltOf (λx y:fZ=>Lib.compareInt x.id y.id)=lD:=by
 funext x y
 unfold ltOf lD Lib.compareInt;by_cases h1:x.id<y.id
 . simp[h1]
 . by_cases a:y.id<x.id<;>simp[h1,a]
theorem Hv:SWO lD:=acY (λx:fZ=>x.id)
set_option maxHeartbeats 2000000 in
theorem agN(p:Option Addr)(cap:Nat)(a:Value)(w:World):Calls prog 194 #[.slice p 0 cap,.int .i64 0,.int .i64 0,a] w λe w'=>e= .returned (.tuple #[])/\w'=w:=by
 go_enter func194,ntmps194
 go_wp2
 refine wp_loop_rounds 1 ?_;rw[rounds_succ]
 go_wp2
 go_end0
 exact⟨rfl,rfl⟩
set_option maxHeartbeats 2000000 in
theorem agP(p:Option Addr)(cap:Nat)(c:Int)(a:Value)(w:World):Calls prog 140 #[.slice p 0 cap,.int .i64 0,.int .i64 0,.int .i64 c,a] w λe w'=>e= .returned (.tuple #[])/\w'=w:=by
 have b:=λW=>agN p cap a W
 go_enter func140,ntmps140
 go_wp2
 refine wp_loop_rounds 1 ?_;rw[rounds_succ]
 go_wp2_with (go_at_call 194;refine(b _).mono ?_;rintro e w' ⟨rfl,rfl⟩)
 (try simp only[Exit.inBlock,Exit.then]);refine bodyPost_ret (results_none rfl _ _ _) rfl ?_
 exact⟨rfl,rfl⟩
set_option maxHeartbeats 2000000 in
theorem agM(p:Option Addr)(cap:Nat)(a:Value)(w:World):Calls prog 95 #[.slice p 0 cap,a] w λe w'=>e= .returned (.tuple #[])/\w'=w:=by
 have ai:=λb W=>agP p cap b a W;have ae:∀W,Calls prog 126 #[.int .u64 0] W λe w'=>e= .returned (.int .i64 (Lib.bitLen 0:Nat))/\w'=W:=λW=>by
  have h:=Any.bits_Len (SlLaysF0.n15.bits (P:=prog) (ρ:=LG) {QB with}) 0 W (by omega) (by omega);exact h
 go_enter func95,ntmps95
 go_wp2_with (first|(go_at_call 126;refine(ae _).mono ?_;rintro e w' ⟨rfl,rfl⟩)|(go_at_call 140;refine(ai _ _).mono ?_;rintro e w' ⟨rfl,rfl⟩))
 go_end0
 exact⟨rfl,rfl⟩
theorem agS(blk off cap:Nat)(d:Array (bP.D 13))(w:World)(c:HoldsK Aj 2 w blk off d)(f:blk<w.heap.size)(g:d.size<4611686018427387904):
 Calls prog 95 #[.slice (some ⟨blk,off,none⟩) d.size cap,.func (.func 96) #[] #[]] w λe w'=>e= .returned (.tuple #[])/\∃n os,w'=sortWorldK Aj 2 w blk off n (pdq lD d 0 d.size (Lib.bitLen d.size) true true) os:=by
 have b:∀args w,(callFunc 96 args).run prog w= .ok (.enter 96 args) w:=enters_of func96 (by kernel_rfl) rfl;have h:=AnyQ.slices_SortFunc_eq (α:=fZ) QB 2 isAgg193 sizeOf193 Aj (λ_=>rfl) (λx v a=>by simp[Aj]at a;rcases a with rfl|rfl<;>rfl) (λx y=>Lib.compareInt x.id y.id) (by rw[KP];exact Hv) 96 #[] blk off cap d w b (λ_ _ _ _ x y=>agH x.id y.id _ _ _) c f g;rw[KP]at h;exact h
theorem Uy:gL prog 95=true:=by kernel_rfl
def HB:ca bP:=E7 bP 95 13 96 (j4 (α:=bP.D 13) lD)
theorem Xj:hN prog HB:=LA (U:=bP) (n:=13) Aj lD Hv (λ_=>rfl) (λw S x j t v h a=>Zc w S x.id x.text j t v h a) agS agM
end
theorem HC:dP prog HB:=⟨Uy,Xj⟩
def Ld:Go.Shelf.Ren:=⟨λ|240=>100|276=>144|n=>n,λ|0=>0|4=>4|9=>9|20=>20|37=>28|70=>135|72=>137|164=>234|n=>n,λn=>n⟩
theorem afC:Lays.n240 prog Ld:={
 mixed:=by kernel_rfl
 f240:=func100.trans (dd some (by kernel_rfl))
 f276:=func144.trans (dd some (by kernel_rfl))
 t0:=underlying0
 a0:=isAgg0
 z0:=sizeOf0
 v0:=zeroValue0
 t4:=underlying4
 a4:=isAgg4
 z4:=sizeOf4
 v4:=zeroValue4
 t9:=underlying9
 a9:=isAgg9
 z9:=sizeOf9
 v9:=zeroValue9
 t20:=underlying20
 a20:=isAgg20
 z20:=sizeOf20
 v20:=zeroValue20
 t70:=underlying135
 a70:=isAgg135
 z70:=sizeOf135
 v70:=zeroValue135
 t72:=underlying137
 a72:=isAgg137
 z72:=sizeOf137
 v72:=zeroValue137
 t164:=underlying234
 a164:=isAgg234
 z164:=sizeOf234
 v164:=zeroValue234}
theorem afD:Builder.X72 prog Ld:={
 sizeBuilder:=by kernel_rfl
 liesBuilder:=by kernel_rfl}
theorem ad1:gL prog 100=true:=by kernel_rfl
def lb:ca bP:=Fa bP 100 137 5
theorem VW:hN prog lb:=Z5 afC afD rfl rfl
theorem mC:dP prog lb:=⟨ad1,VW⟩
instance:Inhabited bt:=⟨dN⟩
instance:Inhabited (bP.D 12):=⟨dN⟩
def ot(x y:bt):Bool:=decide (x.bQ<y.bQ)||(decide (x.bQ=y.bQ)&&decide (x.bF<y.bF))
section
open Go.Proofs Go.Proofs.YtklfhpkljddjbaaGreatDoor Go.Sort Go.RowKit Go.Lib
theorem agL(x:Int)(w:World):Calls prog 141 #[.int .i64 x] w λe w'=>e= .returned (.bool false)/\w'=w:=by
 go_enter func141,ntmps141
 go_wp2
 go_ret
 exact⟨by simp,rfl⟩
set_option maxHeartbeats 1000000 in
theorem Rc(x y:Int)(w:World):Calls prog 97 #[.int .i64 x,.int .i64 y] w λe w'=>e= .returned (.int .i64 (Lib.compareInt x y))/\w'=w:=by
 go_enter func97,ntmps97
 go_wp2_with (go_at_call 141;refine(agL _ _).mono ?_;rintro e w' ⟨rfl,a⟩;rw[a])
 all_goals (go_ret;refine⟨?_,rfl⟩;unfold Lib.compareInt;(repeat' split)<;>first|rfl|(exfalso;omega))
def oN(a b c d:Int):Int:=if Lib.compareInt a c=0 then Lib.compareInt b d else Lib.compareInt a c
set_option maxHeartbeats 4000000 in
theorem agG(a b c d:Int)(p q:Nat)(w:World)(h0:w.cell? ⟨p,0,none⟩=some (.int .i64 a))(h1:w.cell? ⟨p,1,none⟩=some (.int .i64 b))(j:w.cell? ⟨q,0,none⟩=some (.int .i64 c))(k:w.cell? ⟨q,1,none⟩=some (.int .i64 d)):
 Calls prog 74 #[.slice (some ⟨p,0,none⟩) 2 2,.slice (some ⟨q,0,none⟩) 2 2] w λe w'=>e= .returned (.int .i64 (oN a b c d))/\w'=w:=by
 go_enter func74,ntmps74
 go_wp2
 refine wp_loop_rounds 3 ?_;rw[rounds_succ]
 go_wp2_with (go_at_call 97;refine(Rc _ _ _).mono ?_;rintro e w' ⟨rfl,rfl⟩)
 . rename_i g
   go_ret
   refine⟨?_,rfl⟩;show Ending.returned (.int .i64 (compareInt a c))=_;rw[oN,ao (by simpa using g)]
 . have f:(compareInt a c !=0)=false:=by assumption
   rw[rounds_succ]
   go_wp2_with (go_at_call 97;refine(Rc _ _ _).mono ?_;rintro e w' ⟨rfl,rfl⟩)
   . go_ret
     refine⟨?_,rfl⟩;show Ending.returned (.int .i64 (compareInt b d))=_;rw[oN,ad (by simpa using f)]
   . have i:(compareInt b d !=0)=false:=by assumption
     rw[rounds_succ]
     go_wp2
     go_ret
     refine⟨?_,rfl⟩;show Ending.returned (.int .i64 0)=_;rw[oN,ad (by simpa using f)];have:compareInt b d=0:=(by simpa using i);rw[this]
theorem Dd(W:World)(a b c d:Value)(E F:TypeId)(n:Nat):(((W.alloc (.cells #[a,b] E)).alloc (.cells #[c,d] F)).drewN n).cell? ⟨W.heap.size,0,none⟩=some a/\(((W.alloc (.cells #[a,b] E)).alloc (.cells #[c,d] F)).drewN n).cell? ⟨W.heap.size,1,none⟩=some b/\
 (((W.alloc (.cells #[a,b] E)).alloc (.cells #[c,d] F)).drewN n).cell? ⟨W.heap.size+1,0,none⟩=some c/\(((W.alloc (.cells #[a,b] E)).alloc (.cells #[c,d] F)).drewN n).cell? ⟨W.heap.size+1,1,none⟩=some d:=by
 have aC:((W.alloc (.cells #[a,b] E)).alloc (.cells #[c,d] F)).heap[W.heap.size]?=some (.cells #[a,b] E):=(Shv.qD (by simp)).trans Shv.heap_alloc_new;have e:((W.alloc (.cells #[a,b] E)).alloc (.cells #[c,d] F)).heap[W.heap.size+1]?=some (.cells #[c,d] F):=by
  have:=Shv.heap_alloc_new (w:=W.alloc (.cells #[a,b] E)) (o:= .cells #[c,d] F);rw[show(W.alloc (.cells #[a,b] E)).heap.size=W.heap.size+1 by simp]at this;exact this
 refine⟨?_,?_,?_,?_⟩<;>unfold World.cell?<;>rw[World.heap_drewN]<;>first|(rw[aC];rfl)|(rw[e];rfl)
set_option maxHeartbeats 4000000 in
theorem agI(a b c d:Int)(W:World):Calls prog 73 #[.agg #[.int .i64 a,.int .i64 b],.agg #[.int .i64 c,.int .i64 d]] W λe w'=>e= .returned (.int .i64 (oN a b c d))/\∃q j,w'=grow (W.drewN q) j:=by
 have f:=λp q w' h0 h1 g i=>agG a b c d p q w' h0 h1 g i;generalize oN a b c d=r at f⊢
 go_enter func73,ntmps73
 go_wp2
 go_quiet (first|(go_at_call 74;refine Calls.quiet_of_same (f _ _ _ ?_ ?_ ?_ ?_);exact(Dd ..).1;exact(Dd ..).2.1;exact(Dd ..).2.2.1;exact(Dd ..).2.2.2))
 go_wp2
 go_ret
 exact⟨rfl,k,#[_,_],by rw[alloc_eq_grow,alloc_eq_grow,grow_grow];rfl⟩
def Ak(x:bt):List Value:=[.int .i64 x.bQ,.int .i64 x.bF]
def LH:Go.Shelf.Ren:=⟨λ|6=>72|15=>126|14=>125|28=>186|29=>187|20=>178|21=>179|22=>180|23=>181|24=>182|25=>183|26=>184|27=>185|46=>232|47=>233|48=>234|49=>235|50=>236|57=>255|n=>n,λ|22=>61|24=>119|25=>170|3=>3|39=>188|0=>0|53=>277|55=>132|4=>4|46=>271|45=>270|50=>197|5=>5|9=>9|66=>317|70=>321|76=>338|77=>339|n=>n,λ|n=>n⟩
theorem QA:SlLaysF0.n6 prog LH:={
 mixed:=by kernel_rfl
 f6:=⟨f72.name,by decide,func72.trans (dd some (by kernel_rfl))⟩
 f14:=⟨f125.name,by decide,func125.trans (dd some (by kernel_rfl))⟩
 f15:=func126.trans (dd some (by kernel_rfl))
 f20:=⟨f178.name,by decide,func178.trans (dd some (by kernel_rfl))⟩
 f21:=⟨f179.name,by decide,func179.trans (dd some (by kernel_rfl))⟩
 f22:=⟨f180.name,by decide,func180.trans (dd some (by kernel_rfl))⟩
 f23:=⟨f181.name,by decide,func181.trans (dd some (by kernel_rfl))⟩
 f24:=⟨f182.name,by decide,func182.trans (dd some (by kernel_rfl))⟩
 f25:=⟨f183.name,by decide,func183.trans (dd some (by kernel_rfl))⟩
 f26:=⟨f184.name,by decide,func184.trans (dd some (by kernel_rfl))⟩
 f27:=⟨f185.name,by decide,func185.trans (dd some (by kernel_rfl))⟩
 f28:=func186.trans (dd some (by kernel_rfl))
 f29:=func187.trans (dd some (by kernel_rfl))
 f46:=⟨f232.name,by decide,func232.trans (dd some (by kernel_rfl))⟩
 f47:=func233.trans (dd some (by kernel_rfl))
 f48:=func234.trans (dd some (by kernel_rfl))
 f49:=⟨f235.name,by decide,func235.trans (dd some (by kernel_rfl))⟩
 f50:=⟨f236.name,by decide,func236.trans (dd some (by kernel_rfl))⟩
 f57:=⟨f255.name,by decide,func255.trans (dd some (by kernel_rfl))⟩
 t0:=underlying0
 a0:=isAgg0
 z0:=sizeOf0
 v0:=zeroValue0
 t3:=underlying3
 a3:=isAgg3
 z3:=sizeOf3
 v3:=zeroValue3
 t4:=underlying4
 a4:=isAgg4
 z4:=sizeOf4
 v4:=zeroValue4
 t5:=underlying5
 a5:=isAgg5
 z5:=sizeOf5
 v5:=zeroValue5
 t9:=underlying9
 a9:=isAgg9
 z9:=sizeOf9
 v9:=zeroValue9
 t22:=underlying61
 a22:=isAgg61
 z22:=sizeOf61
 v22:=zeroValue61
 t25:=underlying170
 a25:=isAgg170
 z25:=sizeOf170
 v25:=zeroValue170
 t39:=underlying188
 a39:=isAgg188
 z39:=sizeOf188
 v39:=zeroValue188
 t45:=underlying270
 a45:=isAgg270
 z45:=sizeOf270
 v45:=zeroValue270
 t46:=underlying271
 a46:=isAgg271
 z46:=sizeOf271
 v46:=zeroValue271
 t50:=underlying197
 a50:=isAgg197
 z50:=sizeOf197
 v50:=zeroValue197
 t53:=underlying277
 a53:=isAgg277
 z53:=sizeOf277
 v53:=zeroValue277
 t55:=underlying132
 a55:=isAgg132
 z55:=sizeOf132
 v55:=zeroValue132
 t66:=underlying317
 a66:=isAgg317
 z66:=sizeOf317
 v66:=zeroValue317
 t70:=underlying321
 a70:=isAgg321
 z70:=sizeOf321
 v70:=zeroValue321
 t76:=underlying338
 a76:=isAgg338
 z76:=sizeOf338
 v76:=zeroValue338
 t77:=underlying339
 a77:=isAgg339
 z77:=sizeOf339
 v77:=zeroValue339}
theorem Le:ltOf (λx y:bt=>oN x.bQ x.bF y.bQ y.bF)=ot:=by
 funext x y
 unfold ltOf ot oN Lib.compareInt;rcases Int.lt_trichotomy x.bQ y.bQ with h|h|h
 . have b:¬x.bQ=y.bQ:=(by omega);simp[h,b]
 . rcases Int.lt_trichotomy x.bF y.bF with a|a|a
   . simp[h,a]
   . simp[h,a]
   . have c:¬x.bF<y.bF:=(by omega);simp[h,a,c]
 . have b:¬x.bQ<y.bQ:=(by omega);have a:¬x.bQ=y.bQ:=(by omega);simp[h,b,a]
theorem Hw:SWO ot where
 irrefl x:=by simp[ot]
 trans x y z h1 a:=by simp[ot]at*;omega
 ntrans x y z h1 a:=by simp[ot]at*;omega
set_option maxHeartbeats 2000000 in
theorem agO(p:Option Addr)(cap:Nat)(a:Value)(w:World):Calls prog 178 #[.slice p 0 cap,.int .i64 0,.int .i64 0,a] w λe w'=>e= .returned (.tuple #[])/\w'=w:=by
 go_enter func178,ntmps178
 go_wp2
 refine wp_loop_rounds 1 ?_;rw[rounds_succ]
 go_wp2
 go_end0
 exact⟨rfl,rfl⟩
set_option maxHeartbeats 2000000 in
theorem agR(p:Option Addr)(cap:Nat)(c:Int)(a:Value)(w:World):Calls prog 125 #[.slice p 0 cap,.int .i64 0,.int .i64 0,.int .i64 c,a] w λe w'=>e= .returned (.tuple #[])/\w'=w:=by
 have b:=λW=>agO p cap a W
 go_enter func125,ntmps125
 go_wp2
 refine wp_loop_rounds 1 ?_;rw[rounds_succ]
 go_wp2_with (go_at_call 178;refine(b _).mono ?_;rintro e w' ⟨rfl,rfl⟩)
 (try simp only[Exit.inBlock,Exit.then]);refine bodyPost_ret (results_none rfl _ _ _) rfl ?_
 exact⟨rfl,rfl⟩
set_option maxHeartbeats 2000000 in
theorem agQ(p:Option Addr)(cap:Nat)(a:Value)(w:World):Calls prog 72 #[.slice p 0 cap,a] w λe w'=>e= .returned (.tuple #[])/\w'=w:=by
 have ai:=λb W=>agR p cap b a W;have ae:∀W,Calls prog 126 #[.int .u64 0] W λe w'=>e= .returned (.int .i64 (Lib.bitLen 0:Nat))/\w'=W:=λW=>by
  have h:=Any.bits_Len (SlLaysF0.n15.bits (P:=prog) (ρ:=LH) {QA with}) 0 W (by omega) (by omega);exact h
 go_enter func72,ntmps72
 go_wp2_with (first|(go_at_call 126;refine(ae _).mono ?_;rintro e w' ⟨rfl,rfl⟩)|(go_at_call 125;refine(ai _ _).mono ?_;rintro e w' ⟨rfl,rfl⟩))
 go_end0
 exact⟨rfl,rfl⟩
theorem agT(blk off cap:Nat)(d:Array (bP.D 12))(w:World)(c:HoldsK Ak 2 w blk off d)(f:blk<w.heap.size)(g:d.size<4611686018427387904):
 Calls prog 72 #[.slice (some ⟨blk,off,none⟩) d.size cap,.func (.func 73) #[] #[]] w λe w'=>e= .returned (.tuple #[])/\∃n os,w'=sortWorldK Ak 2 w blk off n (pdq ot d 0 d.size (Lib.bitLen d.size) true true) os:=by
 have b:∀args w,(callFunc 73 args).run prog w= .ok (.enter 73 args) w:=enters_of func73 (by kernel_rfl) rfl;have h:=AnyQ.slices_SortFunc_eq (α:=bt) QA 2 isAgg119 sizeOf119 Ak (λ_=>rfl) (λx v a=>by simp[Ak]at a;rcases a with rfl|rfl<;>rfl) (λx y=>oN x.bQ x.bF y.bQ y.bF) (by rw[Le];exact Hw) 73 #[] blk off cap d w b (λ_ _ _ _ x y=>agI x.bQ x.bF y.bQ y.bF _) c f g;rw[Le]at h;exact h
theorem YU(w:World)(S:cR)(i k:Int)(j:Nat)(t:T)(v:Value)(h:[T.int .i64 i,T.int .i64 k][j]?=some t)(a:bK w S t v):[Value.int .i64 i,Value.int .i64 k][j]?=some v:=by
 match j,h with
 |0,h=>cases h;cases a;rfl
 |1,h=>cases h;cases a;rfl
theorem Uu:gL prog 72=true:=by kernel_rfl
def HE:ca bP:=E7 bP 72 12 73 (j4 (α:=bP.D 12) ot)
theorem Xk:hN prog HE:=LA (U:=bP) (n:=12) Ak ot Hw (λ_=>rfl) (λw S x j t v h a=>YU w S x.bQ x.bF j t v h a) agT agQ
end
theorem SR:dP prog HE:=⟨Uu,Xk⟩
end
section
open Go Go.Proofs.YtklfhpkljddjbaaGreatDoor.Shv
open Tryz
set_option maxRecDepth 100000
section
variable (gk:bq×Int×bq×Int->Option (List bt))
def oK(i:Int):List bt->List bt->au->Option (List bt×au)
 |[],l,b=>some (l,b)
 |x::r,l,b=>if(l.any λz=>(eh x.bQ z.bQ&&eh x.bF z.bF)) then oK i r l b
  else if(room 16 (l++[x]).length&&room 8 (b++[i]).length) then oK i r (l++[x]) (b++[i])else none
def wS(w r:bY):Nat->Nat->List bt->au->Option (List bt×au)
 |0,_,_,_=>none
 |n+1,i,l,b=>if (i:Int)<(l.length:Int) then gk (w.eX,(l.getD i dN).bQ,r.eX,(l.getD i dN).bF)>>=λm=>
  oK (i:Int) m l b>>=λp=>wS w r n (i+1) p.1 p.2 else some (l,b)
def EC(x:bY×bY):Option (List bt×au):=wS gk x.1 x.2 60 0 [⟨x.1.aB,x.2.aB⟩] [-1]
end
theorem GS:lH prog 178:= .of (by kernel_rfl)
def nd(l:List bt):List (Int×Int):=l.map λx=>(x.bQ,x.bF)
theorem aba(l:List bt)(x:bt):ga (nd l) (x.bQ,x.bF)=l.any λz=>(eh x.bQ z.bQ&&eh x.bF z.bF):=by
 unfold ga nd;rw[List.any_map]
 congr 1
 funext z
 show decide ((z.bQ,z.bF)=(x.bQ,x.bF))=_;rw[zB];simp only[eh,e9,cK,dG];exact⟨λh=>⟨h.1.symm,h.2.symm⟩,λh=>⟨h.1.symm,h.2.symm⟩⟩
theorem abb{l:List bt}{x:bt}(h:ga (nd l) (x.bQ,x.bF)=false):kR (nd l) (x.bQ,x.bF)=nd (l++[x]):=by
 unfold kR;rw[h];simp[nd]
theorem MX{gk:bq×Int×bq×Int->Option (List bt)}(bk:dP prog ((aW 86 [.row 10,ab ak,.row 10,ab ak] (ab (aI 12))).s (U:=bP) gk)):
 dP prog ((aW 40 [.row 11,.row 11] (.aX [.c (.arr 0),.c (.arr 1)]) [] [] [.arr (.nm 12),.arr ak]).s (U:=bP) (EC gk)):=by
 refine .aft (by kernel_rfl) ?_
 rintro ⟨rw,a⟩ ⟨ap,an⟩ bc φ S w bC vs bu aH bv bn
 unfold EC at bc;refine calls_of_wp func40 rfl ?_;have av:=cl.enter (U:=bP) (gs:=[]) (N:=0) (nt:=67) aH bv bn bu (by rw[<-aH.length];exact rr rfl) (by simp);refine wp_seq (av.eD 0 [bl .normal [(2,aw 0 0),(3,aw 1 0)] [.bb 11,.bb 11]] (o:=(rw,a)) .n (by kernel_rfl) λar ae a1 aq E cI=>?_);refine wp_seq (E.eD 0 [bl .normal [(2,aw 0 0),(3,aw 1 0),(6,.c (.arr 2)),(7,.c (.arr 3))] [.bb 11,.bb 11,.arr (.nm 12),.arr ak]] (o:=(rw,a,[(⟨rw.aB,a.aB⟩:bt)],([-1]:au))) .n (by kernel_rfl) λaa af a2 u f A=>?_);refine wp_seq (lW [0,1,2,3,4,5,6] ?_);refine l5 rfl rfl rfl (agb rfl) ?_;have r:=(f.new (.map #[] 0)).put (d:=19) (x:= .map (some u.heap.size)) (v:= .c (.mp 4)) (.c (.mp 4)) (.c (by show _=Value.map (some _);simp[dZ]))
 refine r.op 5 1 3 [(2,aw 0 0),(3,aw 1 0),(6,.c (.arr 2)),(7,.c (.arr 3)),(19,.c (.mp 4)),(22,.row 12)] [.bb 11,.bb 11,.arr (.nm 12),.arr ak,.gone] (h:=((⟨rw.aB,a.aB⟩:bt),rw,a,[(⟨rw.aB,a.aB⟩:bt)],([-1]:au))) .n (by kernel_rfl) λa5 a' a4 T F H=>?_;have K:T.heap[u.heap.size]?=some (.map #[] 0):=(H.ai u.heap.size (by simp)).trans Shv.heap_alloc_new;refine af8 rfl rfl rfl rfl GS (et ((F.mp (k:=19) rfl).trans (by rw[H.fix 4 (by decide)];simp[dZ]))) (et (F.pair (k:=22) rfl)) rfl K (ks:=[]) .nil ⟨by simp,by simp⟩ λaj ah aS aJ=>?_;have aU:w.heap.size<=u.heap.size:=f.ext.size;have O:=F.write (w':={T with heap:=T.heap.setIfInBounds u.heap.size (.map aj ah)}) (g:=u.heap.size) (by simp) aU rfl rfl rfl (by simp) (λb C=>by simp[tO,dn C]);have aM:u.heap.size<T.heap.size:=(F.dQ _ (by simp)).1
 refine O.op 5 5 2 [(2,aw 0 0),(3,aw 1 0),(6,.c (.arr 2)),(7,.c (.arr 3)),(8,.c (.mp 4))] [.bb 11,.bb 11,.arr (.nm 12),.arr ak,.gone] (h:=(rw,a,[(⟨rw.aB,a.aB⟩:bt)],([-1]:au))) .n (by kernel_rfl) λa6 bd bh a0 G J=>?_;obtain⟨W,ag,B,_⟩:=G.goto 0 (sh:=⟨[(2,aw 1 0),(3,aw 2 0),(6,.c (.arr 3)),(7,.c (.arr 4)),(8,.c (.mp 0))],[.gone,.bb 11,.bb 11,.arr (.nm 12),.arr ak]⟩) (ts:=[.nm 11,.nm 11,aI 12,gy]) (h:=(rw,a,[(⟨rw.aB,a.aB⟩:bt)],([-1]:au))) (by kernel_rfl);have aG:(W 0).1=u.heap.size:=by
  have aC:=B.mp (k:=8) rfl;rw[G.mp (k:=8) rfl,J.fix 4 (by decide),H.fix 4 (by decide)]at aC;simp[dZ]at aC;exact aC.symm
 have Z:a0.heap[u.heap.size]?=some (.map aj ah):=by
  rw[J.ai u.heap.size (by simp)];simp[tO,aM]
 clear O G J F H r K aM;generalize u.heap.size=e at*;refine wp_seq (wp_seq (B.eD 1 [bl .normal [(2,aw 1 0),(3,aw 2 0),(6,.c (.arr 3)),(7,.c (.arr 4)),(8,.c (.mp 0)),(9,ab ak)] [.gone,.bb 11,.bb 11,.arr (.nm 12),.arr ak]] (o:=(((0:Nat):Int),rw,a,[(⟨rw.aB,a.aB⟩:bt)],([-1]:au))) .n (by kernel_rfl) λbA be bi bx X am=>?_));refine wp_block (wc ?_);refine(show(∀(n i:Nat) (l:List bt) (b:au),wS gk rw a n i l b=some (ap,an)->∀a8 ba bR w' es b',cl ⟨w,S,λ_=>False,φ,0⟩ 67 [e] (fa (U:=bP) [bl .normal [(2,aw 1 0),(3,aw 2 0),(6,.c (.arr 3)),(7,.c (.arr 4)),(8,.c (.mp 0)),(9,ab ak)] [.gone,.bb 11,.bb 11,.arr (.nm 12),.arr ak]] ((i:Int),rw,a,l,b)).2 a8 ba bR w'->(a8 0).1=e->w'.heap[e]?=some (.map es b')->hK (nd l) es.toList->kq es.toList b'->p0 prog _ _ bR w')from ?_)
  60 0 _ _ bc bA be bi bx aj ah X ((am.fix 0 (by decide)).symm▸aG) ((am.ai e (by simp)).trans Z) aS aJ
 clear B X am Z aG aS aJ bc f A E cI av;intro n;induction n with
 |zero=>intro i l b y;cases y
 |succ n ih=>
  intro i l b y ar ae a1 aq es b' E h1 I hs C
  change (if(i:Int)<(List.length l:Int)then(gk (rw.eX,(l.getD i dN).bQ,a.eX,(l.getD i dN).bF)>>=λm=>oK (i:Int) m l b>>=λp=>wS gk rw a n (i+1) p.1 p.2)else some (l,b))=some (ap,an)at y
  refine py (wp_seq (wp_seq (E.eD 1 [bl .normal [(2,aw 1 0),(3,aw 2 0),(6,.c (.arr 3)),(7,.c (.arr 4)),(8,.c (.mp 0)),(9,ab ak),(27,ab .bool)] [.gone,.bb 11,.bb 11,.arr (.nm 12),.arr ak]] (o:=((i:Int),decide ((i:Int)<l.length),rw,a,l,b)) .n (by kernel_rfl) λaa af a2 u f A=>?_)));have f2:(aa 0).1=e:=by rw[A.fix 0 (by decide)];exact h1
  have aN:=(A.ai e (by simp)).trans I;by_cases Y:(i:Int)<(l.length:Int)
  . rw[ad Y]at y;obtain⟨m,bs,y⟩:=jF.1 y;obtain⟨⟨l2,b2⟩,q,y⟩:=jF.1 y;have bp:aT .i64 (i:Int) 1=((i+1:Nat):Int):=by
     have al:List.length l<=c1:=f.afE (b:=3) rfl;unfold c1 at al;have bj:(i:Int)<281474976710656:=(by omega);unfold aT;rw[IntKind.wrap_i64];omega
    refine wp_cond_true ((et (f.bool (k:=27) rfl)).trans (by simp[Y])) (wp_skip ?_)
    refine wp_seq (wp_block (wp_seq (f.eD 1 [bl .normal [(2,aw 1 0),(3,aw 2 0),(6,.c (.arr 3)),(7,.c (.arr 4)),(8,.c (.mp 0)),(9,ab ak),(44,ab (aI 12)),(45,ab ak),(46,ab ak)] [.gone,.bb 11,.bb 11,.arr (.nm 12),.arr ak]] (o:=((i:Int),m,(m.length:Int),((0:Nat):Int),rw,a,l,b)) (.k bk .n) ((show _=(if aQ (i:Int) (List.length l) then(if (Int.toNat i<List.length l:Bool) then(if aQ (i:Int) (List.length l) then(if (Int.toNat i<List.length l:Bool) then(gk (rw.eX,(l.getD i dN).bQ,a.eX,(l.getD i dN).bF)>>=λm=>some ((i:Int),m,(m.length:Int),((0:Nat):Int),rw,a,l,b))else none)else none)else none)else none) by kernel_rfl).trans (by
     have az:aQ (i:Int) (List.length l)=true:=by simp[aQ];omega
     have aA:decide (Int.toNat i<List.length l)=true:=by simp;omega
     rw[ad az,ad aA,ad az,ad aA,bs];rfl)) λL M a3 R r D=>?_)))
    refine wp_block (wc ?_);refine(show(∀(k j:Nat),j+k=m.length->∀(l:List bt) (b:au),oK (i:Int) (m.drop j) l b=some (l2,b2)->∀a8 ba bR w' es b',cl ⟨w,S,λ_=>False,φ,0⟩ 67 [e] (fa (U:=bP) [bl .normal [(2,aw 1 0),(3,aw 2 0),(6,.c (.arr 3)),(7,.c (.arr 4)),(8,.c (.mp 0)),(9,ab ak),(44,ab (aI 12)),(45,ab ak),(46,ab ak)] [.gone,.bb 11,.bb 11,.arr (.nm 12),.arr ak]] ((i:Int),m,(m.length:Int),(j:Int),rw,a,l,b)).2 a8 ba bR w'->(a8 0).1=e->w'.heap[e]?=some (.map es b')->hK (nd l) es.toList->kq es.toList b'->p0 prog _ _ bR w')from ?_)
     m.length 0 (by simp) l b q L M a3 R es b' r (by rw[D.fix 0 (by decide)];exact f2) ((D.ai e (by simp)).trans aN) hs C
    clear r D f A E h1 I f2 aN hs C q;intro k;induction k with
    |zero=>
     intro j br l b q ar ae a1 aq es b' E h1 I hs C;rw[hI (by omega)]at q
     change some (l,b)=some (l2,b2)at q
     obtain⟨rfl,rfl⟩:=Prod.mk.inj (oh q);dsimp only at y;refine py (wp_seq (E.eD 1 [bl .normal [(2,aw 1 0),(3,aw 2 0),(6,.c (.arr 3)),(7,.c (.arr 4)),(8,.c (.mp 0)),(9,ab ak),(47,ab .bool)] [.gone,.bb 11,.bb 11,.arr (.nm 12),.arr ak]] (o:=((i:Int),decide ((j:Int)<m.length),rw,a,l,b)) .n (by kernel_rfl) λaa af a2 u f A=>?_));refine wp_seq (wp_cond_false ((et (f.bool (k:=47) rfl)).trans (by simp;omega)) (wp_exit ?_));refine f.eD 1 [bl .normal [(2,aw 1 0),(3,aw 2 0),(6,.c (.arr 3)),(7,.c (.arr 4)),(8,.c (.mp 0)),(9,ab ak)] [.gone,.bb 11,.bb 11,.arr (.nm 12),.arr ak]] (o:=(aT .i64 (i:Int) 1,rw,a,l,b)) .n (by kernel_rfl) λL M a3 R r D=>?_;rw[bp]at r;exact ih (i+1) _ _ y L M a3 R es b' r (by rw[D.fix 0 (by decide),A.fix 0 (by decide)];exact h1) ((D.ai e (by simp)).trans ((A.ai e (by simp)).trans I)) hs C
    |succ k aV=>
     intro j br l b q ar ae a1 aq es b' E h1 I hs C;have aL:j<m.length:=(by omega);rw[m' aL]at q;have bo:m.getD (Int.toNat j) dN=m[j]:=(by simp[List.getD,eC aL]);refine py (wp_seq (E.eD 1 [bl .normal [(2,aw 1 0),(3,aw 2 0),(6,.c (.arr 3)),(7,.c (.arr 4)),(8,.c (.mp 0)),(9,ab ak),(44,ab (aI 12)),(45,ab ak),(46,ab ak),(47,ab .bool)] [.gone,.bb 11,.bb 11,.arr (.nm 12),.arr ak]] (o:=((i:Int),m,(m.length:Int),(j:Int),decide ((j:Int)<m.length),rw,a,l,b)) .n (by kernel_rfl) λaa af a2 u f A=>?_));refine wp_seq (wp_cond_true ((et (f.bool (k:=47) rfl)).trans (by simp;omega)) (wp_skip ?_))
     refine wp_seq (wp_block (wp_seq (f.eD 1 [bl .normal [(2,aw 1 0),(3,aw 2 0),(6,.c (.arr 3)),(7,.c (.arr 4)),(8,.c (.mp 0)),(9,ab ak),(44,ab (aI 12)),(45,ab ak),(46,ab ak),(11,aw 5 0)] [.gone,.bb 11,.bb 11,.arr (.nm 12),.arr ak,.bb 12]] (o:=((i:Int),m,(m.length:Int),(j:Int),rw,a,l,b,m.getD (Int.toNat j) dN)) .n ((show _=(if aQ (j:Int) (List.length m) then some _ else none) by kernel_rfl).trans (ad (by simp[aQ];omega))) λL M a3 R r D=>?_)));rw[bo]at r;generalize m[j]=x at*;have f3:(L 0).1=e:=by rw[D.fix 0 (by decide),A.fix 0 (by decide)];exact h1
     have aO:=(D.ai e (by simp)).trans ((A.ai e (by simp)).trans I);refine wp_seq (lW [0,1,2,3] ?_);refine r.op 6 0 2 [(2,aw 1 0),(3,aw 2 0),(6,.c (.arr 3)),(7,.c (.arr 4)),(8,.c (.mp 0)),(9,ab ak),(44,ab (aI 12)),(45,ab ak),(46,ab ak),(11,aw 5 0),(50,.c (.mp 0)),(51,.row 12)] [.gone,.bb 11,.bb 11,.arr (.nm 12),.arr ak,.bb 12] (h:=((i:Int),m,(m.length:Int),(j:Int),x,rw,a,l,b,x)) .n (by kernel_rfl) λa5 a' a4 T F H=>?_;have f4:(a5 0).1=e:=by rw[H.fix 0 (by decide)];exact f3
     have K:=(H.ai e (by simp)).trans aO;refine l5 rfl rfl rfl (QC rfl GS (et ((F.mp (k:=50) rfl).trans (by rw[f4]))) (et (F.pair (k:=51) rfl)) K hs) ?_;have O:=F.put (d:=52) (v:= .c (.t ⟨.bool,ga (nd l) (x.bQ,x.bF)⟩)) (.c (.t _)) (.c (bK.bool _));refine O.op 6 3 1 [(2,aw 1 0),(3,aw 2 0),(6,.c (.arr 3)),(7,.c (.arr 4)),(8,.c (.mp 0)),(9,ab ak),(44,ab (aI 12)),(45,ab ak),(46,ab ak),(11,aw 5 0),(53,ab .bool)] [.gone,.bb 11,.bb 11,.arr (.nm 12),.arr ak,.bb 12] (h:=((i:Int),m,(m.length:Int),(j:Int),!ga (nd l) (x.bQ,x.bF),rw,a,l,b,x)) .n (by kernel_rfl) λa6 bd bh a0 G J=>?_;have f6:(a6 0).1=e:=by rw[J.fix 0 (by decide)];exact f4
     have aP:=(J.ai e (by simp)).trans K;have aK:aT .i64 (j:Int) 1=((j+1:Nat):Int):=by
      have al:List.length m<=c1:=G.len (k:=44) rfl;unfold c1 at al;have bj:(j:Int)<281474976710656:=(by omega);unfold aT;rw[IntKind.wrap_i64];omega
     change (if(l.any λz=>(eh x.bQ z.bQ&&eh x.bF z.bF)) then oK (i:Int) (m.drop (j+1)) l b else if(room 16 (l++[x]).length&&room 8 (b++[(i:Int)]).length) then oK (i:Int) (m.drop (j+1)) (l++[x]) (b++[(i:Int)])else none)=some (l2,b2)at q
     rw[<-aba]at q;clear r D f A E h1 I F H O J aO f3 f4 K;cases ai:ga (nd l) (x.bQ,x.bF)with
     |true=>
      rw[ai,ad rfl]at q;refine wp_cond_false ((et (G.bool (k:=53) rfl)).trans (by rw[ai];rfl)) (wp_skip ?_);refine G.eD 1 [bl .normal [(2,aw 1 0),(3,aw 2 0),(6,.c (.arr 3)),(7,.c (.arr 4)),(8,.c (.mp 0)),(9,ab ak),(44,ab (aI 12)),(45,ab ak),(46,ab ak)] [.gone,.bb 11,.bb 11,.arr (.nm 12),.arr ak]] (o:=((i:Int),m,(m.length:Int),aT .i64 (j:Int) 1,rw,a,l,b)) .n (by kernel_rfl) λW ag ay V B Q=>?_;rw[aK]at B;exact aV (j+1) (by omega) l b q W ag ay V es b' B (by rw[Q.fix 0 (by decide)];exact f6) ((Q.ai e (by simp)).trans aP) hs C
     |false=>
      rw[ai,c2]at q;by_cases P:(room 16 (l++[x]).length&&room 8 (b++[(i:Int)]).length)=true
      . rw[ad P]at q;simp only[cK]at P;refine wp_cond_true ((et (G.bool (k:=53) rfl)).trans (by rw[ai];rfl)) ?_;refine wp_seq (lW [0,1,2] ?_);refine G.op 6 0 2 [(2,aw 1 0),(3,aw 2 0),(6,.c (.arr 3)),(7,.c (.arr 4)),(8,.c (.mp 0)),(9,ab ak),(44,ab (aI 12)),(45,ab ak),(46,ab ak),(11,aw 5 0),(54,.c (.mp 0)),(55,.row 12)] [.gone,.bb 11,.bb 11,.arr (.nm 12),.arr ak,.bb 12] (h:=((i:Int),m,(m.length:Int),(j:Int),x,rw,a,l,b,x)) .n (by kernel_rfl) λW ag ay V B Q=>?_;have f7:(W 0).1=e:=by rw[Q.fix 0 (by decide)];exact f6
        have Z:=(Q.ai e (by simp)).trans aP;refine QI rfl rfl rfl rfl GS (et ((B.mp (k:=54) rfl).trans (by rw[f7]))) (et (B.pair (k:=55) rfl)) rfl Z hs C λaF aD aR bm=>?_;rw[abb ai]at aR;have X:=B.write (w':={V with heap:=V.heap.setIfInBounds e (.map aF aD)}) (g:=e) (by simp) aU rfl rfl rfl (by simp) (λb C=>by simp[tO,dn C]);have aE:e<V.heap.size:=(B.dQ e (by simp)).1;refine X.eD 1 [bl .normal [(2,aw 1 0),(3,aw 2 0),(6,.c (.arr 3)),(7,.c (.arr 4)),(8,.c (.mp 0)),(9,ab ak),(44,ab (aI 12)),(45,ab ak),(46,ab ak)] [.gone,.bb 11,.bb 11,.arr (.nm 12),.arr ak]] (o:=((i:Int),m,(m.length:Int),(j:Int),rw,a,l++[x],b++[(i:Int)])) .n ((show _=(if room 16 (l++[x]).length then(if room 8 (b++[(i:Int)]).length then some ((i:Int),m,(m.length:Int),(j:Int),rw,a,l++[x],b++[(i:Int)])else none)else none) by kernel_rfl).trans (by rw[ad P.1,ad P.2];rfl)) λbE bB a9 bD bf aZ=>?_
        refine bf.eD 1 [bl .normal [(2,aw 1 0),(3,aw 2 0),(6,.c (.arr 3)),(7,.c (.arr 4)),(8,.c (.mp 0)),(9,ab ak),(44,ab (aI 12)),(45,ab ak),(46,ab ak)] [.gone,.bb 11,.bb 11,.arr (.nm 12),.arr ak]] (o:=((i:Int),m,(m.length:Int),aT .i64 (j:Int) 1,rw,a,l++[x],b++[(i:Int)])) .n (by kernel_rfl) λbz a7 bg bw ax aY=>?_;rw[aK]at ax;refine aV (j+1) (by omega) _ _ q bz a7 bg bw aF aD ax (by rw[aY.fix 0 (by decide),aZ.fix 0 (by decide)];exact f7) ?_ aR bm;rw[aY.ai e (by simp),aZ.ai e (by simp)];simp[tO,aE]
      . rw[ao P]at q;cases q
  . rw[ao Y]at y;cases y;refine wp_cond_false ((et (f.bool (k:=27) rfl)).trans (by simp[Y])) (wp_exit ?_);refine f.eD 0 [bl .ret [(4,.c (.arr 0)),(5,.c (.arr 1))] [.arr (.nm 12),.arr ak]] (o:=(ap,an)) .n (by kernel_rfl) λL M a3 R r D=>?_;exact r.afo rfl rfl rfl
theorem De:lH prog 178:= .of (by kernel_rfl)
variable{w:World}{ks:List (Int×Int)}{S:cR}{kk:Nat}{v:Value}{es:List MapEntry}{fs:List (ca bP)}{p:aY}{a:bY×bY->Option (Bool×Int)}
theorem Uq(G:∀b j,S b j->b<w.heap.size)(x:bt){g a:Nat}{E:TypeId}{es:Array MapEntry}{b':Nat}
 (h1:w.heap[g]?=some (.cells #[.map (some a)] E (0,0)))(m:w.heap[a]?=some (.map es b'))(hs:hK ks es.toList)(B:∀j,¬S g j)(C:∀j,¬S a j):
 Calls prog 83 #[dR (x.bQ,x.bF),.pointer (some ⟨g,0,none⟩)] w λe w'=>e= .returned (.bool (!ga ks (x.bQ,x.bF)))/\∃ba,oG S w ba w':=by
 refine calls_of_wp func83 rfl ?_;have u:=cl.enter (U:=bP) (gs:=[g,a]) (N:=2) (nt:=8) (φ:=λb=>if b=0 then(g,0)else(a,0)) (args:=[.agg [.t ⟨.int .i64,x.bQ⟩,.t ⟨.int .i64,x.bF⟩],.c (.ptr 0 0)]) (w:=w) (S:=S)
  (.cons (.agg (.cons (.t _) (.cons (.t _) .nil))) (.cons (.c (.ptr 0 0)) .nil)) (vs:=[dR (x.bQ,x.bF),.pointer (some ⟨g,0,none⟩)]) (.cons (.agg (.cons (bK.int _ _) (.cons (bK.int _ _) .nil))) (.cons (.c rfl) .nil)) rfl G (rr rfl)
  (by
   have:=nV h1;have:=nV m;intro b p;simp at p;rcases p with rfl|rfl
   . exact⟨by assumption,B⟩
   . exact⟨by assumption,C⟩)
 refine wp_seq (u.eD 2 [bl .normal [(1,.c (.ptr 0 0)),(2,.c (.ptr 2 0))] [.gone,.gone,.bb 12]] (o:=x) .n (by kernel_rfl) λL H a1 r l cI=>?_);refine wp_seq (lW [0,1,2,3,4] ?_);have k1:a1.tmps[1]?=some (.pointer (some ⟨g,0,none⟩)):=(l.ptr (k:=1) rfl).trans (by rw[cI.fix 0 (by decide)];rfl);have D:r.heap[g]?=_:=(cI.ai g (by simp)).trans h1;have F:r.heap[a]?=_:=(cI.ai a (by simp)).trans m;refine l5 rfl rfl rfl (ld1 rfl (by kernel_rfl) (et k1) D (off:=0) rfl) ?_;have z:=l.put (d:=4) (x:= .map (some a)) (v:= .c (.mp 1)) (.c (.mp 1)) (.c (by show _=Value.map (some _);rw[cI.fix 1 (by decide)];rfl));refine z.op 2 1 1 [(4,.c (.mp 1)),(5,.row 12)] [.gone,.gone] (h:=x) .n (by kernel_rfl) λM I a3 J f q=>?_
 have k4:a3.tmps[4]?=some (.map (some a)):=(f.mp (k:=4) rfl).trans (by rw[q.fix 1 (by decide),cI.fix 1 (by decide)];rfl);have k5:a3.tmps[5]?=some (dR (x.bQ,x.bF)):=f.pair rfl;refine l5 rfl rfl rfl (QC rfl De (et k4) (et k5) ((q.ai a (by simp)).trans F) hs) ?_;have A:=f.put (d:=6) (v:= .c (.t ⟨.bool,ga ks (x.bQ,x.bF)⟩)) (.c (.t _)) (.c (bK.bool _));refine A.op 2 3 2 [(3,.c (.hole .bool))] [.gone,.gone] (h:=!ga ks (x.bQ,x.bF)) .n (by kernel_rfl) λO s a5 K i dV=>?_;refine wp_ret (i.ret rfl rfl λy ag=>⟨?_,s,i.ext,i.st⟩);cases ag;rfl
def iy(ks:List (Int×Int))(x:bt):Bool:=ga ks (x.bQ,x.bF)
structure oE (S:cR)(w:World)(g Gl:Nat)(ks:List (Int×Int)):Prop where
 st:∀b j,S b j->b<w.heap.size
 g1:∃E,w.heap[g]?=some (.cells #[.map (some Gl)] E (0,0))
 g2:∃es b',w.heap[Gl]?=some (.map es b')/\hK ks es.toList
 g3:∀j,¬S g j
 g4:∀j,¬S Gl j
theorem oE.next{ba:cR}{w':World}{g c:Nat}(h:oE S w g c ks){nt:Nat}{av:Ctx}{s:uB bP}{φ j:cU}{a:Act}(T:cl av nt [g,c] s φ ba a w')(n:r3 [g,c] kk j w φ w'):oE ba w' g c ks:=by
 obtain⟨h0,⟨E,h1⟩,⟨es,b',e,f⟩,o,bj⟩:=h;exact⟨T.st,⟨E,(n.ai g (by simp)).trans h1⟩,⟨es,b',(n.ai c (by simp)).trans e,f⟩,(T.dQ g (by simp)).2,(T.dQ c (by simp)).2⟩
theorem oE.dQ{g a:Nat}(al:oE S w g a ks):∀b,b∈[g,a]->b<w.heap.size/\∀j,¬S b j:=by
 obtain⟨h0,⟨E,h1⟩,⟨es,b',e,_⟩,f,o⟩:=al;have:=nV h1;have:=nV e;intro b c;simp at c;rcases c with rfl|rfl
 . exact⟨by assumption,f⟩
 . exact⟨by assumption,o⟩
theorem Ux(φ:cU)(l:List bt){g q:Nat}(al:oE S w g q ks)(O:(φ 0).1=g)(aq:bK w S (Cell.enc bP ⟨.slice (.nm 12),l⟩) v):
 Calls prog 127 #[v,.func (.func 83) #[] #[.pointer (some ⟨g,0,none⟩)]] w λe w'=>∃m ba,e= .returned (.int .i64 m)/\((l.any λx=>!iy ks x)=decide (0<=m))/\oG S w ba w':=by
 refine calls_of_wp func127 rfl ?_;have Z:=cl.enter (U:=bP) (gs:=[g,q]) (N:=1) (nt:=19) (φ:=φ) (args:=[.c (.t ⟨.slice (.nm 12),l⟩),.c (.fn 83 [0])]) (w:=w) (S:=S)
  (.cons (.c (.t _)) (.cons (.c (.fn 83 [0])) .nil)) (vs:=[v,.func (.func 83) #[] #[.pointer (some ⟨g,0,none⟩)]]) (.cons (.c aq) (.cons (.c (by rw[<-O];rfl)) .nil)) rfl al.st (rr rfl)
  al.dQ
 refine wp_seq (Z.eD 1 [bl .normal [(0,ab (aI 12)),(1,.c (.fn 83 [0]))] [.gone]] (o:=l) .n (by kernel_rfl) λaL aD a1 aJ G cI=>?_);refine wp_seq (wp_seq (G.eD 1 [bl .normal [(0,ab (aI 12)),(1,.c (.fn 83 [0])),(7,ab ak),(8,ab ak)] [.gone]] (o:=(l,(l.length:Int),(0:Int))) .n (by kernel_rfl) λay V a2 ar H P=>?_));refine wp_block (wc ?_);refine(show(∀(n i:Nat),i+n=l.length->(∀j,j<i->∃x,l[j]?=some x/\iy ks x=true)->∀a8 ba bR w',cl _ 19 [g,q] (fa (U:=bP) [bl .normal [(0,ab (aI 12)),(1,.c (.fn 83 [0])),(7,ab ak),(8,ab ak)] [.gone]] (l,(l.length:Int),(i:Int))).2 a8 ba bR w'->(a8 0).1=g->oE ba w' g q ks->p0 prog _ _ bR w')from ?_) l.length 0 (by simp) (by simp) ay V a2 ar H (by rw[P.fix 0 (by decide),cI.fix 0 (by decide)];exact O) ((al.next G cI).next H P);intro n;induction n with
 |zero=>
  intro i am B az W a3 au A K M;refine py (wp_seq (A.eD 1 [bl .normal [(9,ab .bool)] [.gone]] (o:=(decide ((i:Int)<l.length))) .n (by kernel_rfl) λaA X a4 av f C=>?_));refine wp_seq (wp_cond_false (by rw[et (f.bool (k:=9) rfl)];simp;omega) (wp_exit ?_));refine f.eD 1 [bl .ret [(4,ab ak)] [.gone]] (o:=(-1:Int)) .n (by kernel_rfl) λaB F a5 aw p dV=>p.ret rfl rfl λy ag=>⟨-1,F,?_,?_,p.ext,p.st⟩
  . cases ag;rfl
  . have:(l.any λx=>!iy ks x)=false:=by
     rw[List.any_eq_false];intro x I;obtain⟨j,ap,rfl⟩:=wO.1 I;obtain⟨y,h1,ae⟩:=B j (by omega);rw[eC ap]at h1;cases h1;simp[ae]
    rw[this];rfl
 |succ n ih=>
  intro i am B az W a3 au A K M;have an:i<l.length:=by omega
  refine py (wp_seq (A.eD 1 [bl .normal [(0,ab (aI 12)),(1,.c (.fn 83 [0])),(7,ab ak),(8,ab ak),(9,ab .bool)] [.gone]] (o:=(l,(l.length:Int),(i:Int),decide ((i:Int)<l.length))) .n (by kernel_rfl) λaA X a4 av f C=>?_));refine wp_seq (wp_cond_true (by rw[et (f.bool (k:=9) rfl)];simp;omega) (wp_skip ?_));refine wp_seq (wp_block (wp_seq (f.eD 1 [bl .normal [(0,ab (aI 12)),(1,.c (.fn 83 [0])),(7,ab ak),(8,ab ak),(5,ab ak)] [.gone]] (o:=(l,(l.length:Int),(i:Int),(i:Int))) .n (by kernel_rfl) λaB F a5 aw p dV=>?_)));refine wp_seq (lW [0,1,2,3,4,5] ?_);refine p.op 1 0 5 [(0,ab (aI 12)),(1,.c (.fn 83 [0])),(7,ab ak),(8,ab ak),(5,ab ak),(11,.c (.fn 83 [0])),(15,.row 12)] [.gone] (h:=(l,(l.length:Int),(i:Int),(i:Int),l.getD (Int.toNat i) dN)) .n ((show _=(if aQ (i:Int) l.length then some _ else none) by kernel_rfl).trans (ad (by simp[aQ];omega))) λaC aE aF aK r Q=>?_
  have L:(aC 0).1=g:=by rw[Q.fix 0 (by decide),dV.fix 0 (by decide),C.fix 0 (by decide)];exact K
  have ai:=((M.next f C).next p dV).next r Q;have I:l[i]?=some (l.getD i dN):=by simp[List.getD,eC an]
  refine Gs rfl rfl rfl (sr rfl rfl (et (r.fn (k:=11) rfl)) (by kernel_rfl)) (args:=#[dR ((l.getD i dN).bQ,(l.getD i dN).bF),.pointer (some ⟨g,0,none⟩)]) ?_ ?_
  . simp[et (r.pair (k:=15) rfl),L]
  obtain⟨h0,⟨E,g1⟩,⟨es,b',g2,g3⟩,g4,aa⟩:=ai;refine(Uq h0 (l.getD i dN) g1 g2 g3 g4 aa).mono ?_
  rintro e ax ⟨rfl,Y,u⟩
  refine⟨_,rfl,?_⟩;have b:=(r.extend u.1 u.2).put (d:=16) (v:= .c (.t ⟨.bool,!iy ks (l.getD i dN)⟩)) (.c (.t _)) (.c (bK.bool _));have aj:oE Y ax g q ks:=⟨b.st,⟨E,u.heap g1⟩,⟨es,b',u.heap g2,g3⟩,(b.dQ g (by simp)).2,(b.dQ q (by simp)).2⟩
  cases s:iy ks (l.getD i dN)with
  |false=>
   refine wp_cond_true ((et (b.bool (k:=16) rfl)).trans (by rw[s];rfl)) (wp_seq (b.eD 1 [bl .normal [(4,ab ak)] [.gone]] (o:=(i:Int)) .n (by kernel_rfl) λT z J R a D=>wp_ret ?_));simp only[Exit.inBlock,Exit.then];refine a.ret rfl rfl λy ag=>⟨(i:Int),z,?_,?_,a.ext,a.st⟩
   . cases ag;rfl
   . have:(l.any λx=>!iy ks x)=true:=pP.2 ⟨l.getD i dN,eN I,by rw[s];rfl⟩;rw[this];simp
  |true=>
   refine wp_cond_false ((et (b.bool (k:=16) rfl)).trans (by rw[s];rfl)) (wp_skip ?_);refine b.eD 1 [bl .normal [(0,ab (aI 12)),(1,.c (.fn 83 [0])),(7,ab ak),(8,ab ak)] [.gone]] (o:=(l,(l.length:Int),aT .i64 (i:Int) 1)) .n (by kernel_rfl) λT z J R a D=>?_;have ah:aT .i64 (i:Int) 1=((i+1:Nat):Int):=by
    have af:l.length<=c1:=a.len (k:=0) rfl;unfold c1 at af;have aG:(i:Int)<281474976710656:=(by omega);unfold aT;rw[IntKind.wrap_i64];omega
   rw[ah]at a;refine ih (i+1) (by omega) (λj aH=>?_) T z J R a (by rw[D.fix 0 (by decide)];exact L) (aj.next a D);by_cases ao:j<i
   . exact B j ao
   . have:j=i:=(by omega);subst this;exact⟨_,I,s⟩
theorem Up(l:List bt){g j:Nat}(al:oE S w g j ks)(F:bK w S (Cell.enc bP ⟨.slice (.nm 12),l⟩) v):
 Calls prog 75 #[v,.func (.func 83) #[] #[.pointer (some ⟨g,0,none⟩)]] w λe w'=>∃ba,e= .returned (.bool (l.any λx=>!iy ks x))/\oG S w ba w':=by
 refine calls_of_wp func75 rfl ?_;have A:=cl.enter (U:=bP) (gs:=[g,j]) (N:=1) (nt:=9) (φ:=λ_=>(g,0)) (args:=[.c (.t ⟨.slice (.nm 12),l⟩),.c (.fn 83 [0])]) (w:=w) (S:=S)
  (.cons (.c (.t _)) (.cons (.c (.fn 83 [0])) .nil)) (vs:=[v,.func (.func 83) #[] #[.pointer (some ⟨g,0,none⟩)]]) (.cons (.c F) (.cons (.c rfl) .nil)) rfl al.st (rr rfl) al.dQ
 refine wp_seq (A.eD 1 [bl .normal [(0,ab (aI 12)),(1,.c (.fn 83 [0]))] [.gone]] (o:=l) .n (by kernel_rfl) λP G a1 K i cI=>?_);refine wp_seq (lW [0,1,2,3,4] ?_);refine i.op 1 0 2 [(5,ab (aI 12)),(6,.c (.fn 83 [0]))] [.gone] (h:=l) .n (by kernel_rfl) λs H a2 L a r=>?_;have C:=(al.next i cI).next a r;obtain⟨u,k5,E⟩:=a.cell (k:=5) rfl;have p:(s 0).1=g:=by rw[r.fix 0 (by decide),cI.fix 0 (by decide)]
 refine Gs rfl rfl rfl (sr rfl rfl (f:=127) (caps:=[]) rfl (by kernel_rfl)) (args:=#[u,.func (.func 83) #[] #[.pointer (some ⟨g,0,none⟩)]]) ?_ ?_
 . simp[et k5,et (a.fn (k:=6) rfl),p]
 refine(Ux s l C p E).mono ?_
 rintro e M ⟨m,I,rfl,D,q⟩
 refine⟨_,rfl,?_⟩;have B:=(a.extend q.1 q.2).put (d:=7) (v:= .c (.t ⟨.int .i64,m⟩)) (.c (.t _)) (.c (bK.int _ _));refine B.op 1 3 2 [(4,ab .bool)] [.gone] (h:=decide (0<=m)) .n (by kernel_rfl) λQ z a4 O b J=>?_;refine wp_ret (b.ret rfl rfl λy ag=>⟨z,?_,b.ext,b.st⟩);cases ag;rw[D]
section
variable (mu:bY->Option Bool)(uk:List bt×bt->Option Bool)(uz:ir->Option bt)(oC oD:ir×bt->Option Bool)(r2:ir×bt->Option (List bt))
def Q'(p:ir)(l:List bt)(x:bt):Option Bool:=
 oC (p,x)>>=λa=>if !a then some false else oD (p,x)>>=λb=>if !b then some false else r2 (p,x)>>=λm=>some (m.all λy=>l.any λz=>(eh y.bQ z.bQ&&(eh y.bF z.bF&&true)))
def xx(g:bt->Option Bool):List bt->Option Bool
 |[]=>some true
 |x::r=>g x>>=λa=>xx g r>>=λb=>some (a&&b)
def Q9:bY×bY×List bt->Option Bool
 |(w,r,l)=>
 mu w>>=λa=>if !a then some false else mu r>>=λb=>if !b then some false else uz (⟨w,r⟩:ir)>>=λq=>uk (l,q)>>=λc=>if !c then some false else xx (Q' oC oD r2 (⟨w,r⟩:ir) l) l
end
theorem L7{g:bt->Option Bool}:∀{l:List bt} {b:Bool},xx g l=some b->(∀x,x∈l->∃a,g x=some a/\(a=false->b=false))/\((∀x,x∈l->g x=some true)->b=true)
 |[],b,h=>by simp[xx]at h;simp[h]
 |x::r,b,h=>by
  simp only[xx,bind,bf]at h;obtain⟨a,c,j,i,h⟩:=h;obtain⟨h1,f⟩:=L7 i;simp at h;subst h;refine⟨λy ag=>?_,λd=>?_⟩
  . rcases dK.1 ag with rfl|ag
    . exact⟨a,c,λh=>by simp[h]⟩
    . obtain⟨bR,g1,g2⟩:=h1 y ag;exact⟨bR,g1,λh=>by simp[g2 h]⟩
  . have e:=d x (by simp);rw[c]at e;cases e;rw[f λy ag=>d y (by simp[ag])];rfl
def l4(l:List bt):List (Int×Int):=l.foldl (λks x=>kR ks (x.bQ,x.bF)) []
theorem Z'{x y:Int×Int}:ga (kR ks x) y=(ga ks y||decide (x=y)):=by
 unfold kR;split
 . rename_i h;by_cases a:x=y
   . subst a;simp[h]
   . simp[a]
 . simp[ga]
theorem aaa(l:List bt)(x:bt):l4 (l++[x])=kR (l4 l) (x.bQ,x.bF):=by simp[l4]
theorem JD{y:bt}(l:List bt):iy (l4 l) y=l.any λz=>(eh y.bQ z.bQ&&(eh y.bF z.bF&&true)):=by
 have key:∀(l:List bt) (ks:List (Int×Int)),iy (l.foldl (λks x=>kR ks (x.bQ,x.bF)) ks) y=(iy ks y||l.any λz=>(eh y.bQ z.bQ&&(eh y.bF z.bF&&true))):=by
  intro l;induction l with
  |nil=>simp
  |cons x l ih=>
   intro ks;rw[rz,ih];unfold iy;rw[Z',List.any_cons,Bool.or_assoc]
   congr 2
   rw[zB];simp[eh,Prod.ext_iff];constructor<;>rintro ⟨h1,a⟩<;>exact⟨h1.symm,a.symm⟩
 have:=key l [];simpa[iy,ga,l4]using this
theorem abc{k:Int×Int}(l:List bt)(h:k∈l4 l):∃x,x∈l/\k=(x.bQ,x.bF):=by
 have:iy (l4 l) ⟨k.1,k.2⟩=true:=by
  unfold iy ga;rw[pP];exact⟨k,h,by simp⟩
 rw[JD,pP]at this;obtain⟨z,a,h⟩:=this;simp[eh]at h;exact⟨z,a,tM h.1 h.2⟩
theorem aab(h:hK ks es){k:Int×Int}(c:k∈ks):∃e,e∈es/\e.key=dR k:=by
 obtain⟨i,b⟩:=GC.1 c;obtain⟨e,h1,a⟩:=h.get b;exact⟨e,eN h1,a.1⟩
theorem abd(h:hK ks es){e:MapEntry}(he:e∈es):∃k,k∈ks/\e.key=dR k/\e.val= .bool true:=by
 induction h with
 |nil=>simp at he
 |cons h1 _ ih=>
  rcases dK.1 he with rfl|he
  . exact⟨_,by simp,h1⟩
  . obtain⟨k,a,h⟩:=ih he;exact⟨k,by simp[a],h⟩
section
variable {mu:bY->Option Bool}{uk:List bt×bt->Option Bool}{uz:ir->Option bt}{oC oD:ir×bt->Option Bool}{r2:ir×bt->Option (List bt)}
theorem ad2 (aR:dP prog ((aW 77 [.row 11] (ab .bool)).s (U:=bP) mu))(bD:dP prog ((aW 78 [ab (aI 12),.row 12] (ab .bool)).s (U:=bP) uk))(bE:dP prog ((aW 79 [.row 17] (.row 12)).s (U:=bP) uz))
 (aO:dP prog ((aW 80 [.row 17,.row 12] (ab .bool)).s (U:=bP) oC))(aP:dP prog ((aW 81 [.row 17,.row 12] (ab .bool)).s (U:=bP) oD))(ct:dP prog ((aW 82 [.row 17,.row 12] (ab (aI 12))).s (U:=bP) r2)):
 dP prog ((aW 37 [.row 11,.row 11,ab (aI 12)] (ab .bool)).s (U:=bP) (Q9 mu uk uz oC oD r2)):=by
 refine .hand (by kernel_rfl) ?_
 rintro ⟨rw,B,b7⟩ b bc φ S w du vs cM aF cQ cw
 obtain⟨l,rfl⟩:∃l:List bt,l=b7:=⟨b7,rfl⟩
 refine calls_of_wp func37 rfl ?_;have cn:=cl.enter (U:=bP) (gs:=[]) (N:=0) (nt:=61) aF cQ cw cM (by rw[<-aF.length];exact rr rfl) (by simp);have X:∀{gs:aY} {s:uB bP} {bp:cU} {aJ:cR} {a1:Act} {au:World} (T:cl ⟨w,S,λ_=>False,φ,0⟩ 61 gs s bp aJ a1 au),aS s.1 6=some (.c (.t ⟨.bool,b⟩))->bodyPost prog f37 (λe w'=>∃ba,e= .returned (.bool b)/\oG S w ba w') .ret a1 au:=
  λT a9=>T.ret rfl a9 λy ag=>⟨_,by cases ag;rfl,T.ext,T.st⟩
 refine wp_seq (cn.eD 0 [bl .normal [(2,ab (aI 12)),(3,aw 0 0),(4,aw 1 0)] [.bb 11,.bb 11]] (o:=(l,rw,B)) .n (by kernel_rfl) λbp aJ a1 au J cI=>?_);obtain⟨c9,h1,bc⟩:=jF.1 bc;cases c9 with
 |false=>
  cases bc;refine wp_seq (J.eD 0 [bl .ret [(6,ab .bool)],bl .normal [(2,ab (aI 12)),(3,aw 0 0),(4,aw 1 0)] [.bb 11,.bb 11]] (o:= .inl false) (.k aR .n) ((show _=(mu rw>>=λA=>(if !(!A) then mu B else some false)>>=λF=>if(bif (!A)then true else(!F)) then some (Sum.inl false)else some (Sum.inr (l,rw,B))) by kernel_rfl).trans (by rw[h1];rfl)) λce br a2 O L b8=>X L rfl)
 |true=>
 obtain⟨c',af,bc⟩:=jF.1 bc;cases c' with
 |false=>
  cases bc;refine wp_seq (J.eD 0 [bl .ret [(6,ab .bool)],bl .normal [(2,ab (aI 12)),(3,aw 0 0),(4,aw 1 0)] [.bb 11,.bb 11]] (o:= .inl false) (.k aR .n) ((show _=(mu rw>>=λA=>(if !(!A) then mu B else some false)>>=λF=>if(bif (!A)then true else(!F)) then some (Sum.inl false)else some (Sum.inr (l,rw,B))) by kernel_rfl).trans (by rw[h1];simp[af];rfl)) λce br a2 O L b8=>X L rfl)
 |true=>
 refine wp_seq (J.eD 0 [bl .ret [(6,ab .bool)],bl .normal [(2,ab (aI 12)),(3,aw 0 0),(4,aw 1 0)] [.bb 11,.bb 11]] (o:= .inr (l,rw,B)) (.k aR .n) ((show _=(mu rw>>=λA=>(if !(!A) then mu B else some false)>>=λF=>if(bif (!A)then true else(!F)) then some (Sum.inl false)else some (Sum.inr (l,rw,B))) by kernel_rfl).trans (by rw[h1];simp[af];rfl)) λce br a2 O L b8=>?_);refine wp_seq (L.eD 0 [bl .normal [(2,ab (aI 12)),(7,aw 0 0)] [.bb 17]] (o:=(l,(⟨rw,B⟩:ir))) .n (by kernel_rfl) λdh ck a3 cb W cY=>?_);obtain⟨q,aA,bc⟩:=jF.1 bc;obtain⟨da,aB,bc⟩:=jF.1 bc;cases da with
 |false=>
  cases bc;refine wp_seq (W.eD 0 [bl .ret [(6,ab .bool)],bl .normal [(2,ab (aI 12)),(7,aw 0 0)] [.bb 17]] (o:= .inl false) (.k bE (.k bD .n)) ((show _=(uz ⟨rw,B⟩>>=λq=>uk (l,q)>>=λc=>if !c then some (Sum.inl false)else some (Sum.inr (l,(⟨rw,B⟩:ir)))) by kernel_rfl).trans (by rw[aA];simp[aB];rfl)) λax aK a4 bn M V=>X M rfl)
 |true=>
 refine wp_seq (W.eD 0 [bl .ret [(6,ab .bool)],bl .normal [(2,ab (aI 12)),(7,aw 0 0)] [.bb 17]] (o:= .inr (l,(⟨rw,B⟩:ir))) (.k bE (.k bD .n)) ((show _=(uz ⟨rw,B⟩>>=λq=>uk (l,q)>>=λc=>if !c then some (Sum.inl false)else some (Sum.inr (l,(⟨rw,B⟩:ir)))) by kernel_rfl).trans (by rw[aA];simp[aB];rfl)) λax aK a4 bn M V=>?_);obtain⟨cu,cO⟩:=L7 bc;clear bc;generalize ai:(⟨rw,B⟩:ir)=p at*;refine wp_seq (lW [0,1,2,3,4] ?_);refine M.op 0 0 2 [(2,ab (aI 12)),(7,aw 0 0),(29,ab ak)] [.bb 17] (h:=(l,(l.length:Int),p)) .n (by kernel_rfl) λdB dk a5 C am dV=>?_;refine l5 rfl rfl rfl (agc rfl De (et (am.int (k:=29) rfl))) ?_;have ae:=(am.new (.map #[] 0)).put (d:=30) (x:= .map (some C.heap.size)) (v:= .c (.mp 1)) (.c (.mp 1)) (.c (by show _=Value.map (some _);simp[dZ]));refine l5 rfl rfl rfl (ael rfl (z:= .map none) (by kernel_rfl) rfl) ?_
 have G:=(ae.new (.cells #[.map none] 178 (0,0))).put (d:=8) (x:= .pointer (some ⟨(C.alloc (.map #[] 0)).heap.size,0,none⟩)) (v:= .c (.ptr 2 0)) (.c (.ptr 2 0)) (.c (by show _=Value.pointer _;simp[dZ]));have al:C.heap.size+1=(C.alloc (.map #[] 0)).heap.size:=by simp
 refine af' rfl rfl rfl rfl (by kernel_rfl) (b:=(C.alloc (.map #[] 0)).heap.size) (u:= .map none) (E:=178) (v:= .map (some C.heap.size)) (et ((G.ptr (k:=8) rfl).trans (by simp[dZ]))) (et ((G.mp (k:=30) rfl).trans (by simp[dZ]))) rfl rfl Shv.heap_alloc_new ?_;intro bo cZ c0 c2 c3 b9 bk;have bf:w.heap.size<=C.heap.size:=am.ext.size;have H:=G.write (w':=bo) (g:=(C.alloc (.map #[] 0)).heap.size) (by simp) (by rw[<-al];exact Nat.le_succ_of_le bf) cZ c0 c2 c3 bk;have ap:bo.heap[C.heap.size]?=some (.map #[] 0):=by
  rw[bk _ (by rw[<-al];omega),qD (by simp)];exact Shv.heap_alloc_new
 obtain⟨di,cm,P,_⟩:=H.goto 0 (sh:=⟨[(2,ab (aI 12)),(7,aw 1 0),(8,aw 0 0)],[.gone,.bb 17]⟩) (ts:=[aI 12,.nm 17]) (h:=(l,p)) (by kernel_rfl);have aD:(di 0).1=(C.alloc (.map #[] 0)).heap.size:=by
  have aC:=P.ptr (k:=8) rfl;have an:=H.ptr (k:=8) rfl;rw[aC]at an;simpa[dZ]using an
 have dy:w.heap.size<=(C.alloc (.map #[] 0)).heap.size:=by rw[<-al];exact Nat.le_succ_of_le bf
 have cL:C.heap.size≠(C.alloc (.map #[] 0)).heap.size:=by rw[<-al];omega
 clear G H ae al bk;generalize (C.alloc (.map #[] 0)).heap.size=g at*;generalize C.heap.size=j at*;refine wp_seq (wp_seq (P.eD 1 [bl .normal [(2,ab (aI 12)),(7,aw 1 0),(8,aw 0 0),(31,ab (aI 12)),(32,ab ak),(33,ab ak)] [.gone,.bb 17]] (o:=(l,l,(l.length:Int),(0:Int),p)) .n (by kernel_rfl) λaH ay bu ca Z Q=>?_));refine wp_block (wc ?_);refine(show(∀(n i:Nat),i+n=l.length->∀a8 ba bR w' es b',cl ⟨w,S,λ_=>False,φ,0⟩ 61 [g,j] (fa (U:=bP) [bl .normal [(2,ab (aI 12)),(7,aw 1 0),(8,aw 0 0),(31,ab (aI 12)),(32,ab ak),(33,ab ak)] [.gone,.bb 17]] (l,l,(l.length:Int),(i:Int),p)).2 a8 ba bR w'->(a8 0).1=g->w'.heap[g]?=some (.cells #[.map (some j)] 178 (0,0))->w'.heap[j]?=some (.map es b')->hK (l4 (l.take i)) es.toList->kq es.toList b'->p0 prog _ _ bR w')from ?_)
  l.length 0 (by simp) aH ay bu ca #[] 0 Z ((Q.fix 0 (by decide)).symm▸aD) ((Q.ai g (by simp)).trans b9) ((Q.ai j (by simp)).trans ap) .nil ⟨by simp,by simp⟩
 clear P Q Z b9 ap aD;intro n;induction n with
 |succ n ih=>
  intro i cB dd ch cq c5 es b' aL aN a0 bd ah ao;have bW:i<l.length:=by omega
  refine py (wp_seq (aL.eD 1 [bl .normal [(2,ab (aI 12)),(7,aw 1 0),(8,aw 0 0),(31,ab (aI 12)),(32,ab ak),(33,ab ak),(34,ab .bool)] [.gone,.bb 17]] (o:=(l,l,(l.length:Int),(i:Int),decide ((i:Int)<l.length),p)) .n (by kernel_rfl) λcd ci cr r D R=>?_));refine wp_seq (wp_cond_true ((et (D.bool (k:=34) rfl)).trans (by simp;omega)) (wp_skip ?_));refine wp_seq (wp_block (wp_seq ?_));refine D.eD 1 [bl .normal [(2,ab (aI 12)),(7,aw 1 0),(8,aw 0 0),(31,ab (aI 12)),(32,ab ak),(33,ab ak),(10,aw 2 0)] [.gone,.bb 17,.bb 12]] (o:=(l,l,(l.length:Int),(i:Int),p,l.getD (Int.toNat i) dN)) .n ((show _=(if aQ (i:Int) (List.length l) then some _ else none) by kernel_rfl).trans (ad (by simp[aQ];omega))) λde dj dp dz aj bi=>?_;have bB:(de 0).1=g:=by rw[bi.fix 0 (by decide),R.fix 0 (by decide)];exact aN
  have bM:=(bi.ai g (by simp)).trans ((R.ai g (by simp)).trans a0);have cH:=(bi.ai j (by simp)).trans ((R.ai j (by simp)).trans bd);refine lW [0,1,2] ?_;refine l5 rfl rfl rfl (ld1 rfl (by kernel_rfl) (et ((aj.ptr (k:=8) rfl).trans (by rw[bB]))) bM (off:=0) rfl) ?_;have aa:=(aj.num j).put (d:=37) (x:= .map (some j)) (v:= .c (.mp 3)) (.c (.mp 3)) (.c (by show _=Value.map _;simp[dZ]));refine aa.op 4 1 1 [(2,ab (aI 12)),(7,aw 1 0),(8,aw 0 0),(31,ab (aI 12)),(32,ab ak),(33,ab ak),(37,.c (.mp 3)),(38,.row 12)] [.gone,.bb 17,.bb 12,.gone] (h:=(l,l,(l.length:Int),(i:Int),l.getD (Int.toNat i) dN,p,l.getD (Int.toNat i) dN)) .n (by kernel_rfl) λav bq dq bm K aG=>?_;have az:(av 0).1=g:=by rw[aG.fix 0 (by decide)];simpa[dZ]using bB
  refine QI rfl rfl rfl rfl De (et ((K.mp (k:=37) rfl).trans (by rw[aG.fix 3 (by decide)];simp[dZ]))) (et (K.pair (k:=38) rfl)) rfl ((aG.ai j (by simp)).trans cH) ah ao λbz bw b1 cv=>?_;have cp:=K.write (w':={bm with heap:=bm.heap.setIfInBounds j (.map bz bw)}) (g:=j) (by simp) bf rfl rfl rfl (by simp) (λb aU=>by simp[tO,dn aU]);have aE:j<bm.heap.size:=(K.dQ j (by simp)).1;refine cp.eD 1 [bl .normal [(2,ab (aI 12)),(7,aw 1 0),(8,aw 0 0),(31,ab (aI 12)),(32,ab ak),(33,ab ak)] [.gone,.bb 17]] (o:=(l,l,(l.length:Int),aT .i64 (i:Int) 1,p)) .n (by kernel_rfl) λdf cj cs c6 aM bj=>?_;have aF:aT .i64 (i:Int) 1=((i+1:Nat):Int):=by
   have aD:List.length l<=c1:=aM.len (k:=2) rfl;unfold c1 at aD;have dv:(i:Int)<281474976710656:=(by omega);unfold aT;rw[IntKind.wrap_i64];omega
  rw[aF]at aM;refine ih (i+1) (by omega) df cj cs c6 bz bw aM (by rw[bj.fix 0 (by decide)];exact az) ?_ ?_ ?_ cv
  . rw[bj.ai g (by simp)];simp[tO,cL];exact(aG.ai g (by simp)).trans bM
  . rw[bj.ai j (by simp)];simp[tO,aE]
  . rw[GK,eC bW];have e:l.getD (Int.toNat i) dN=l[i]:=(by simp[List.getD,eC bW]);rw[e]at b1;exact(aaa _ _).symm▸b1
 |zero=>
  intro i cB dd ch cq c5 es b' aL aN a0 bd ah ao;have cG:l.take i=l:=tP (by omega);rw[cG]at ah;refine py (wp_seq (aL.eD 1 [bl .normal [(2,ab (aI 12)),(7,aw 1 0),(8,aw 0 0),(34,ab .bool)] [.gone,.bb 17]] (o:=(l,decide ((i:Int)<l.length),p)) .n (by kernel_rfl) λcd ci cr r D R=>?_));refine wp_seq (wp_cond_false ((et (D.bool (k:=34) rfl)).trans (by simp;omega)) (wp_exit ?_));have bA:(cd 0).1=g:=by rw[R.fix 0 (by decide)];exact aN
  have a6:=(R.ai g (by simp)).trans a0;have be:=(R.ai j (by simp)).trans bd;refine wp_seq (wp_seq (lW [0,1] ?_));refine l5 rfl rfl rfl (ld1 rfl (by kernel_rfl) (et ((D.ptr (k:=8) rfl).trans (by rw[bA]))) a6 (off:=0) rfl) ?_;have aj:=D.put (d:=40) (x:= .map (some j)) (v:= .c .dead) (.c (.dead .dead)) (.c rfl);refine l5 rfl rfl rfl (agw rfl De (et (po (by rw[D.size];decide))) be) ?_;have aa:=(aj.new (.mapIter (some j) b' #[] b')).put (d:=41) (x:= .pointer (some ⟨r.heap.size,0,none⟩)) (v:= .c (.ptr 2 0)) (.c (.ptr 2 0)) (.c (by show _=Value.pointer _;simp[dZ]));obtain⟨av,bq,K,_⟩:=aa.goto 0 (sh:=⟨[(2,ab (aI 12)),(7,aw 2 0),(8,aw 0 0),(41,aw 1 0)],[.gone,.gone,.bb 17]⟩) (ts:=[aI 12,.nm 17]) (h:=(l,p)) (by kernel_rfl);have bT:=(D.dQ g (by simp)).1;have b0:=(D.dQ j (by simp)).1;have az:(av 0).1=g:=by
   have aC:=K.ptr (k:=8) rfl;rw[aa.ptr (k:=8) rfl]at aC;simp[dZ]at aC;rw[<-aC];exact bA
  have b5:(av 1).1=r.heap.size:=by
   have aC:=K.ptr (k:=41) rfl;rw[aa.ptr (k:=41) rfl]at aC;simp[dZ]at aC;exact aC.symm
  have bN:(r.alloc (.mapIter (some j) b' #[] b')).heap[g]?=_:=(Shv.qD bT).trans a6;have bY:(r.alloc (.mapIter (some j) b' #[] b')).heap[j]?=_:=(Shv.qD b0).trans be;have bU:(r.alloc (.mapIter (some j) b' #[] b')).heap[r.heap.size]?=_:=Shv.heap_alloc_new;have cS:w.heap.size<=r.heap.size:=D.ext.size;have cA:g≠r.heap.size:=by omega
  have cK:j≠r.heap.size:=by omega
  clear aa aj D R bT b0 a6 be;refine wp_block (wc ?_);have cF:∀e,e∈es.toList->∃x,x∈l/\e.key=dR (x.bQ,x.bF)/\e.val= .bool true:=λe he=>by
   obtain⟨k,h1,af,aA⟩:=abd ah he;obtain⟨x,I,rfl⟩:=abc l h1;exact⟨x,I,af,aA⟩
  have c4:∀{x y:bt},dR (x.bQ,x.bF)=dR (y.bQ,y.bF)->x=y:=λ{x y} h=>by
   obtain⟨a,b⟩:=x;obtain⟨c,d⟩:=y;simp[dR]at h;rw[h.1,h.2]
  refine(λ(key:∀(n:Nat) (seen:Array Nat),(leftOf es seen).size=n->∀a8 ba bR w',cl ⟨w,S,λ_=>False,φ,0⟩ 61 [r.heap.size,g,j] (fa (U:=bP) [bl .normal [(2,ab (aI 12)),(7,aw 2 0),(8,aw 0 0),(41,aw 1 0)] [.gone,.gone,.bb 17]] (l,p)).2 a8 ba bR w'->(a8 0).1=g->(a8 1).1=r.heap.size->w'.heap[g]?=some (.cells #[.map (some j)] 178 (0,0))->w'.heap[j]?=some (.map es b')->w'.heap[r.heap.size]?=some (.mapIter (some j) b' seen b')->(∀e,e∈es.toList->seen.contains e.born=true->∀x:bt,e.key=dR (x.bQ,x.bF)->Q' oC oD r2 p l x=some true)->p0 prog _ _ bR w')=>key _ #[] rfl av bq _ _ K az b5 bN bY bU (by simp)) ?_;clear K az b5 bN bY bU;intro n;induction n using Nat.strongRecOn with
  |_ n ih=>
  intro seen cN bp aJ a1 au J h1 b4 cx bX cC bH;refine py (wp_seq (lW [0,1] ?_));refine af9 rfl rfl rfl rfl (et ((J.ptr (k:=41) rfl).trans (by rw[b4]))) cC bX ao (λh0=>?_) λe he O b3=>?_
  . have L:=J.put (d:=42) (x:= .tuple #[.bool false]) (v:= .aX [.c (.t ⟨.bool,false⟩)]) (bL.pZ (.cons (.c (.t _)) .nil)) (bS.pZ (.cons (.c (bK.bool _)) .nil));refine L.op 2 1 1 [(2,ab (aI 12)),(7,aw 2 0),(8,aw 0 0),(41,aw 1 0),(43,ab .bool)] [.gone,.gone,.bb 17] (h:=(l,false,p)) .n (by kernel_rfl) λdh ck a3 cb W cY=>?_;refine wp_seq (wp_cond_false (et (W.bool (k:=43) rfl)) (wp_exit ?_));have aU:b=true:=cO λx I=>by
     have:iy (l4 l) x=true:=by
      rw[JD,pP];exact⟨x,I,by simp[eh]⟩
     unfold iy ga at this;obtain⟨k,a9,a'⟩:=pP.1 this;have a':=hn a';obtain⟨e,he,af⟩:=aab ah a9;exact bH e he (all_seen es seen h0 e he) x (by rw[af,a'])
    subst aU;exact W.eD 2 [bl .ret [(6,ab .bool)] [.gone,.gone]] (o:=true) .n (by kernel_rfl) λax aK a4 bn M V=>X M rfl
  . obtain⟨aZ,dx⟩:=mem_left he;obtain⟨x,cT,aV,bJ⟩:=cF e aZ;rw[aV,bJ];have L:=cl.set (q:=r.heap.size) (w:=O) (by rcases b3 with rfl|rfl;exact J;exact J.drew) (.mapIter (some j) b' (seen.push e.born) b') (by simp) cS;have a7:O.heap=au.heap:=by rcases b3 with rfl|rfl<;>rfl
    have cy:(ChangeMaps.setBlock O r.heap.size (.mapIter (some j) b' (seen.push e.born) b')).heap[g]?=some (.cells #[.map (some j)] 178 (0,0)):=(I1 cA).trans (a7▸cx);have cJ:(ChangeMaps.setBlock O r.heap.size (.mapIter (some j) b' (seen.push e.born) b')).heap[j]?=some (.map es b'):=(I1 cK).trans (a7▸bX);have cD:(ChangeMaps.setBlock O r.heap.size (.mapIter (some j) b' (seen.push e.born) b')).heap[r.heap.size]?=some (.mapIter (some j) b' (seen.push e.born) b'):=YT (by rw[a7];exact(J.dQ _ (by simp)).1);generalize ChangeMaps.setBlock O r.heap.size (.mapIter (some j) b' (seen.push e.born) b')=cb at*
    have W:=L.put (d:=42) (x:= .tuple #[.bool true,dR (x.bQ,x.bF),.bool true]) (v:= .aX [.c (.t ⟨.bool,true⟩),.agg [.t ⟨.int .i64,x.bQ⟩,.t ⟨.int .i64,x.bF⟩],.c (.t ⟨.bool,true⟩)]) (bL.pZ (.cons (.c (.t _)) (.cons (bL.Ad (x.bQ,x.bF)) (.cons (.c (.t _)) .nil)))) (bS.pZ (.cons (.c (bK.bool _)) (.cons (bS.Ad (x.bQ,x.bF)) (.cons (.c (bK.bool _)) .nil))));refine W.op 2 1 1 [(2,ab (aI 12)),(7,aw 2 0),(8,aw 0 0),(41,aw 1 0),(43,ab .bool)] [.gone,.gone,.bb 17] (h:=(l,true,p)) .n (by kernel_rfl) λax aK a4 bn M V=>?_;refine wp_seq (wp_cond_true (et (M.bool (k:=43) rfl)) (wp_skip ?_));have aB:(ax 0).1=g:=by rw[V.fix 0 (by decide)];exact h1
    have b6:(ax 1).1=r.heap.size:=by rw[V.fix 1 (by decide)];exact b4
    have cz:=(V.ai g (by simp)).trans cy;have bZ:=(V.ai j (by simp)).trans cJ;have bV:=(V.ai r.heap.size (by simp)).trans cD;refine wp_block (wp_seq (lW [0,1,2,3] ?_));refine l5 rfl rfl rfl (afj rfl (et ((M.ptr (k:=41) rfl).trans (by rw[b6]))) bV bZ aZ ao) ?_;rw[aV,bJ];have am:=M.put (d:=44) (x:= .tuple #[dR (x.bQ,x.bF),.bool true]) (v:= .aX [.agg [.t ⟨.int .i64,x.bQ⟩,.t ⟨.int .i64,x.bF⟩],.c (.t ⟨.bool,true⟩)]) (bL.pZ (.cons (bL.Ad (x.bQ,x.bF)) (.cons (.c (.t _)) .nil))) (bS.pZ (.cons (bS.Ad (x.bQ,x.bF)) (.cons (.c (bK.bool _)) .nil)));refine am.op 2 1 3 [(2,ab (aI 12)),(7,aw 2 0),(8,aw 0 0),(41,aw 1 0),(11,aw 3 0)] [.gone,.gone,.bb 17,.bb 12] (h:=(l,p,x)) .n (by kernel_rfl) λdC dl dr dA ae aq=>?_;obtain⟨y,ag,bh⟩:=cu x cT;have cV:=ag;obtain⟨db,aC,ag⟩:=jF.1 ag;cases db with
    |false=>
     cases ag;cases bh rfl;refine wp_seq (ae.eD 2 [bl .ret [(6,ab .bool)] [.gone,.gone],bl .normal [(2,ab (aI 12)),(7,aw 2 0),(8,aw 0 0),(41,aw 1 0),(11,aw 3 0)] [.gone,.gone,.bb 17,.bb 12]] (o:= .inl false) (.k aO (.k aP .n)) ((show _=(oC (p,x)>>=λA=>(if !(!A) then oD (p,x)else some false)>>=λF=>if(bif (!A)then true else(!F)) then some (Sum.inl false)else some (Sum.inr (l,p,x))) by kernel_rfl).trans (by rw[aC];rfl)) λcf bs bv cc G Y=>?_);exact X G rfl
    |true=>
    obtain⟨dc,an,ag⟩:=jF.1 ag;cases dc with
    |false=>
     cases ag;cases bh rfl;refine wp_seq (ae.eD 2 [bl .ret [(6,ab .bool)] [.gone,.gone],bl .normal [(2,ab (aI 12)),(7,aw 2 0),(8,aw 0 0),(41,aw 1 0),(11,aw 3 0)] [.gone,.gone,.bb 17,.bb 12]] (o:= .inl false) (.k aO (.k aP .n)) ((show _=(oC (p,x)>>=λA=>(if !(!A) then oD (p,x)else some false)>>=λF=>if(bif (!A)then true else(!F)) then some (Sum.inl false)else some (Sum.inr (l,p,x))) by kernel_rfl).trans (by rw[aC];simp[an];rfl)) λcf bs bv cc G Y=>?_);exact X G rfl
    |true=>
    obtain⟨m,dw,ag⟩:=jF.1 ag;refine wp_seq (ae.eD 2 [bl .ret [(6,ab .bool)] [.gone,.gone],bl .normal [(2,ab (aI 12)),(7,aw 2 0),(8,aw 0 0),(41,aw 1 0),(11,aw 3 0)] [.gone,.gone,.bb 17,.bb 12]] (o:= .inr (l,p,x)) (.k aO (.k aP .n)) ((show _=(oC (p,x)>>=λA=>(if !(!A) then oD (p,x)else some false)>>=λF=>if(bif (!A)then true else(!F)) then some (Sum.inl false)else some (Sum.inr (l,p,x))) by kernel_rfl).trans (by rw[aC];simp[an];rfl)) λcf bs bv cc G Y=>?_);refine wp_seq (lW [0,1,2,3,4] ?_);refine G.op 2 0 4 [(2,ab (aI 12)),(7,aw 2 0),(8,aw 0 0),(41,aw 1 0),(58,ab (aI 12)),(59,.c (.fn 83 [0]))] [.gone,.gone,.bb 17] (h:=(l,m,p)) (.k ct .n) ((show _=(r2 (p,x)>>=λm=>some (l,m,p)) by kernel_rfl).trans (by rw[dw];rfl)) λcg dm dt bo H ar=>?_;have bC:(cg 0).1=g:=by rw[ar.fix 0 (by decide),Y.fix 0 (by decide),aq.fix 0 (by decide)];exact aB
    have cW:(cg 1).1=r.heap.size:=by rw[ar.fix 1 (by decide),Y.fix 1 (by decide),aq.fix 1 (by decide)];exact b6
    have bO:=(ar.ai g (by simp)).trans ((Y.ai g (by simp)).trans ((aq.ai g (by simp)).trans cz));have ap:=(ar.ai j (by simp)).trans ((Y.ai j (by simp)).trans ((aq.ai j (by simp)).trans bZ));have cE:=(ar.ai r.heap.size (by simp)).trans ((Y.ai r.heap.size (by simp)).trans ((aq.ai r.heap.size (by simp)).trans bV));obtain⟨u,cX,cP⟩:=H.cell (k:=58) rfl;refine Gs rfl rfl rfl (sr rfl rfl (f:=75) (caps:=[]) rfl (by kernel_rfl)) (args:=#[u,.func (.func 83) #[] #[.pointer (some ⟨g,0,none⟩)]]) ?_ ?_
    . simp[et cX,et (H.fn (k:=59) rfl),bC]
    refine(Up m ⟨H.st,⟨_,bO⟩,⟨_,_,ap,ah⟩,(H.dQ g (by simp)).2,(H.dQ j (by simp)).2⟩ cP).mono ?_
    rintro ds c7 ⟨cm,rfl,k9⟩
    refine⟨_,rfl,?_⟩;have P:=(H.extend k9.1 k9.2).put (d:=60) (x:= .bool (m.any λx=>!iy (l4 l) x)) (v:= .c (.t ⟨.bool,m.any λx=>!iy (l4 l) x⟩)) (.c (.t _)) (.c (bK.bool _));have bG:(m.any λx=>!iy (l4 l) x)=!y:=by
     cases ag;rw[List.not_all_eq_any_not]
     congr 1
     funext y
     rw[JD]
    cases y with
    |false=>
     cases bh rfl;refine wp_cond_true ((et (P.bool (k:=60) rfl)).trans (by rw[bG];rfl)) ?_;refine P.eD 2 [bl .ret [(6,ab .bool)] [.gone,.gone]] (o:=false) .n (by kernel_rfl) λaH ay bu ca Z Q=>?_;exact X Z rfl
    |true=>
     refine wp_cond_false ((et (P.bool (k:=60) rfl)).trans (by rw[bG];rfl)) (wp_skip ?_);obtain⟨aH,ay,Z,Q⟩:=P.goto 2 (sh:=⟨[(2,ab (aI 12)),(7,aw 2 0),(8,aw 0 0),(41,aw 1 0)],[.gone,.gone,.bb 17]⟩) (ts:=[aI 12,.nm 17]) (h:=(l,p)) (by kernel_rfl);refine ih _ (by rw[<-cN];exact left_shrinks es seen e he) (seen.push e.born) rfl aH ay _ c7 Z (by rw[Q.fix 0 (by decide)];exact bC) (by rw[Q.fix 1 (by decide)];exact cW) (k9.heap bO) (k9.heap ap) (k9.heap cE) λbx bI b2 c8 bg=>?_;rw[contains_push]at b2;rcases l' _ _▸b2 with h|h
     . exact bH bx bI h c8 bg
     . have:bx=e:=born_inj ao.2 bI aZ (iB.1 h);subst this;rw[aV]at bg;rw[<-c4 bg];exact cV
end
abbrev bm(e:dr)(F:aP bP.D e.ts->Option (aP bP.D e.us)):Prop:=dP prog (e.s F)
abbrev c5(f kk:Nat)(p:aY)(e:fV)(F:aP bP.D e.ts->Option (ea bP e.outs)):Prop:=nr prog f kk p e F
abbrev PD(e:dr):Prop:=ij prog e
abbrev e2(e:dr):aP bP.D e.ts->aP bP.D e.us->Prop:=AF prog bP e
abbrev fU(f kk:Nat)(p:aY)(e:fV):aP bP.D e.ts->ea bP e.outs->Prop:=xv prog bP f kk p e
abbrev fc(e:dr)(F:aP bP.D e.ts->Option (aP bP.D e.us)):Prop:=∀h r,F h=some r->e2 e h r
abbrev fW(f kk:Nat)(p:aY)(e:fV)(F:aP bP.D e.ts->Option (ea bP e.outs)):Prop:=∀h r,F h=some r->fU f kk p e h r
theorem fl{e:dr}{h:aP bP.D e.ts}{r:aP bP.D e.us}{x:Option (aP bP.D e.us)}(h0:x=some r)(b:hr prog fs:=by exact .n){a:List (Nat×gG bP)}(ae:jn prog e.f e.st.length [] a:=by exact .n)(k:PD e:=by exact .m (by kernel_rfl))(I:p1 (gP fs) (kx a) prog e h=x:=by kernel_rfl):e2 e h r:= .at k b ae (I.trans h0)
variable{f:Nat}
theorem gE(e:fV){F:aP bP.D e.ts->Option (ea bP e.outs)}(bc:fW f kk p e F){h:aP bP.D e.ts}{o:ea bP e.outs}{x:Option (ea bP e.outs)}(h0:x=some o)(b:hr prog fs:=by exact .n){a:List (Nat×gG bP)}(ae:jn prog f kk p a:=by exact .n)(I:q0 (gP fs) (kx a) kk (pR prog f p) e F h=x:=by kernel_rfl):fU f kk p e h o:= .at bc b ae (I.trans h0)
theorem c4(e:dr){F:aP bP.D e.ts->Option (aP bP.D e.us)}(h:fc e F)(k:PD e:=by exact .m (by kernel_rfl)):bm e F:= .of k h
theorem gF(e:fV){F:aP bP.D e.ts->Option (ea bP e.outs)}(h:fW f kk p e F):c5 f kk p e F:= .of h
def ui:List dh:=[.arr 3,.arr 4]
def mh:List dh:=[.arr (.nm 12)]
def Fu:List dh:=[.arr (.int .u8)]
def xr:List (Nat×du):=[(1,aw 0 0),(2,aw 1 0)]
def KI:List (Nat×du):=[(6,aw 2 0),(10,aw 3 0)]
def xq:List (Nat×du):=[(6,aw 2 0),(7,ab .bool)]
def xp:List dh:=[.box [.hole (aI 5),.hole ak]]
def Ft:List fK:=[.hole (aI 5),.arr 5,.hole gy,.hole ak]
def KH:List fK:=[.hole (aI 5),.arr 4,.hole gy,.hole ak]
def TI:List fK:=[.hole (aI 5),.hole (aI 5),.arr 3,.arr 4]
def TH:List fK:=[.hole (aI 5),.hole (aI 5),.arr 3,.arr 2]
def TG:List dh:=[.box [.bD],.box [.arr 2],.arr (.nm 2)]
def TF:List (Nat×du):=[(1,aw 0 0),(3,.c (.arr 1)),(4,ab .bool)]
def KG:List (Nat×du):=[(0,ab (.int .u64)),(3,aw 0 0),(4,ab ak)]
def TD:List dh:=[.box [.hole (aI 5),.hole ak],.arr (.nm 13)]
def TC:List (Nat×du):=[(3,ab .bool),(4,aw 0 0),(6,aw 1 0),(9,aw 2 0)]
def TB:List (Nat×du):=[(1,aw 0 0),(16,ab (aI 5)),(17,ab ak),(18,ab ak)]
def TA:List (Nat×du):=[(1,aw 0 0),(3,.c (.arr 1)),(14,ab ak),(15,ab ak)]
def xo:List fK:=[.hole (aI 5),.hole (.slice (.int .u8)),.hole .bool]
def Tz:List dh:=[.box [.hole (aI 5),.hole ak],.bb 8,.arr (.nm 13)]
def uh:List dh:=[.box [.hole (aI 5),.arr 1,.hole gy,.hole ak],.arr ak]
def Ty:List (Nat×du):=[(3,aw 0 0),(4,aw 1 0),(5,aw 2 0),(6,aw 3 0),(7,ab ak)]
def Tx:List (Nat×du):=[(0,aw 0 0),(4,aw 2 0),(6,aw 3 0),(8,ab rJ),(10,aw 4 0)]
def Tw:List dh:=[.box [.hole (aI 5),.hole ak],.b3 137 ((.cr 2)),.buf 5]
def ug:List dh:=[.box [.hole (aI 5),.hole (aI 5),.arr 1,.hole gy],.arr ak]
def ka:List dh:=[.box xo]
def xn:List dh:=[.box [.hole (aI 5),.arr 2,.hole gy,.hole ak],.gone,.arr ak]
def Tv:List (Nat×du):=[(1,aw 0 0),(2,aw 1 0),(35,.c (.arr 2)),(36,ab ak),(37,ab ak)]
def Tu:List (Nat×du):=[(1,aw 0 0),(2,aw 1 0),(20,.c (.arr 2)),(21,ab ak),(22,ab ak)]
def xm:List dh:=[.box [.hole (aI 5),.hole (aI 5),.arr 2,.hole gy],.gone,.arr ak]
def KE:List (Nat×du):=[(5,aw 0 0),(11,ab .bool),(83,.c (.arr 1)),(84,ab ak),(85,ab ak)]
def hX:List fK:=[.hole ak,.hole .bool,.hole ak,.hole .str,.hole ak,.bD,.bD,.bD]
def Fs:List dh:=[.box [.hole (aI 5),.arr 3,.hole gy,.hole ak],.gone,.bb 8,.arr ak]
def Tt:List dh:=[.box [.hole (aI 5),.hole (aI 5),.arr 2,.arr 3],.gone,.arr ak,.arr ak]
def Ts:List fK:=[.hole ak,.hole .bool,.hole ak,.hole .str,.hole ak,.bD,.arr 5,.arr 6]
def Tr:List (Nat×du):=[(1,ab ak),(2,ab .bool),(3,aw 0 0),(7,aw 1 0),(8,.c (.arr 2)),(9,ab ak)]
def Tq:List dh:=[.box [.hole (aI 5),.arr 3,.arr 4,.hole ak],.gone,.bb 8,.arr ak,.arr ak]
def Tp:List dh:=[.box [.hole (aI 5),.hole (aI 5),.arr 3,.hole gy],.gone,.arr (.nm 8),.arr ak]
def Fp:List fK:=[.hole ak,.hole .bool,.hole ak,.hole .str,.hole ak,.hole (aI 8),.hole (aI 8),.hole (aI 9)]
def To:List fK:=[.hole ak,.hole .str,.hole ak,.hole ak,.hole ak,.arr 5,.bD,.hole ak,.hole ak,.hole .bool]
def rW:List fK:=[.hole ak,.hole .str,.hole ak,.hole ak,.hole ak,.hole (aI 6),.hole (aI 7),.hole ak,.hole ak,.hole .bool]
def oz:List fK:=[.hole .bool,.hole .bool,.hole .str,.hole ak,.hole .bool,.hole ak,.hole .str,.hole ak,.bD,.bD,.bD]
def KD:List dh:=[.box [.hole (aI 5),.hole (aI 5),.arr 2,.arr 1],.box ui,.arr (.nm 14),.arr (.nm 14),.arr (.nm 14)]
def uf:List dh:=[.box [.hole (aI 5),.hole (aI 5),.arr 1,.arr 2],.arr (.nm 14),.box ui,.arr (.nm 14),.arr (.nm 14)]
def TM:List dh:=[.box [.hole (aI 5),.hole (aI 5),.arr 5,.arr 2],.gone,.box ui,.arr (.nm 14),.arr (.nm 14),.arr (.nm 14)]
def TL:List fK:=[.hole .bool,.hole .bool,.hole .str,.hole ak,.hole .bool,.hole ak,.hole .str,.hole ak,.hole (aI 8),.hole (aI 8),.hole (aI 9)]
def TK:List (Nat×du):=[(5,aw 0 0),(11,ab .bool),(12,ab ak),(13,.c (.arr 1)),(83,.c (.arr 2)),(84,ab ak),(85,ab ak),(90,.c (.arr 1)),(91,ab ak),(92,ab ak)]
def TJ:List dh:=[.box [.hole ak,.hole .bool,.hole ak,.hole .str,.hole ak,.arr 3,.arr 2,.arr 4],.box hX,.arr (.nm 8),.arr (.nm 8),.arr (.nm 9)]
def oA:List dh:=[.box [.hole ak,.hole .bool,.hole ak,.hole .str,.hole ak,.arr 2,.arr 3,.arr 4],.box hX,.arr (.nm 8),.arr (.nm 8),.arr (.nm 9)]
def TE:List dh:=[.arr (.nm 15),cv (aI 5),.box oz,.box [.hole ak,.hole .bool,.hole ak,.hole .str,.hole ak,.bD,.arr 4,.bD],.arr (.nm 8)]
def KF:List dh:=[.box Ft,.gone,.bb 5,.box hX,.box [.hole ak,.hole .bool,.hole ak,.hole .str,.hole ak,.bD,.arr 6,.bD],.arr ak,.arr (.nm 8)]
def Fq:List dh:=[.box Ft,.gone,.bb 5,.box hX,.box [.hole ak,.hole .bool,.hole ak,.hole .str,.hole ak,.arr 6,.bD,.bD],.arr ak,.arr (.nm 8)]
def Tn:List dh:=[.box [.hole (aI 5),.hole (aI 5),.arr 7,.hole gy],.gone,.bb 5,.bb 8,.bb 5,.box hX,.box [.hole ak,.hole .bool,.hole ak,.hole .str,.hole ak,.bD,.arr 8,.bD],.arr ak,.arr (.nm 8)]
def KC:List dh:=[.box xo,.box hX,.box rW,.box [.hole ak,.hole .bool,.hole ak,.hole .str,.hole ak,.bD,.arr 4,.bD],.arr (.nm 8)]
def aeK:=aW 27 [.row 1,ab ak] (ab ak)
def aeL:=aW 28 [ab ak] (ab .bool)
def aeM:=aW 29 [.row 2] (ab ak)
def aeN:=aW 30 [.row 2] (ab ak)
def PZ:=bZ 0 [(1,aw 0 0),(3,.c (.arr 1)),(4,ab ak)] [.bb 2,.arr ak] [bl (.exit 0) [(3,.c (.arr 0))] [.arr ak]] [] [(.slot 3,ak)]
def aeO:=aW 31 [.row 2] (ab gy) [PZ]
def aew:=aW 119 [ab ak] (ab .bool)
def Qc:=bZ 0 [(3,aw 0 0),(7,ab ak),(9,ab ak)] [cv (aI 2)] [gf 6 ak,hG 0]
def ae0:=aW 67 [.row 1,ab ak,ab (.int .u8)] (ab ak) [Qc]
def ae2:=aW 69 [ab ak] (ab .bool)
def P1:=bZ 0 [(1,ab (.int .u8)),(2,aw 0 0),(5,ab ak),(6,ab ak)] [cv (aI 2)] [gf 4 ak,hG 0]
def aeQ:=aW 33 [.row 1,ab (.int .u8)] (ab ak) [P1]
def ae1:=aW 68 [.row 1,ab ak,ab (.int .u8)] (.aX [.row 8,ab .bool])
def Od:=bZ 0 [(1,ab ak),(2,ab .bool),(3,aw 0 0),(7,aw 1 0),(8,.c (.arr 2)),(9,ab ak),(10,ab ak)] [cv (aI 2),.bb 2,.arr (.nm 7)] [bl (.exit 2) Tr [cv (aI 2),.bb 2,.arr (.nm 7)]]
def P0:=bZ 0 Tr [cv (aI 2),.bb 2,.arr (.nm 7)] [bl (.exit 0) [(8,.c (.arr 0))] [.arr (.nm 7)]] [Od] [(.slot 8,.nm 7)]
def aeP:=aW 32 [.row 1,ab ak,ab .bool] (ab (aI 7)) [P0]
def Oe:=bZ 0 [(1,aw 0 0),(2,aw 1 0),(4,ab ak),(5,aw 2 0),(6,ab ak),(8,aw 3 0),(9,ab gy),(10,ab ak)] [cv (aI 2),.box [.bD],.box [.arr 4],.box To,.arr (.nm 5),.arr (.nm 6)] [bl (.exit 3) [(1,aw 0 0),(2,aw 1 0),(4,ab ak),(5,aw 2 0),(6,ab ak),(8,aw 3 0)] [cv (aI 2),.box [.bD],.box [.arr 4],.box To,.arr (.nm 5),.arr (.nm 6)]] [] [(.via 8 5,.nm 6)]
def PV:=bZ 0 [(1,aw 0 0),(2,aw 1 0),(4,ab ak),(5,aw 2 0),(6,ab ak)] [cv (aI 2),.box [.bD],.box [.arr 3],.arr (.nm 5)] [bl (.exit 0) [(2,aw 0 0),(5,aw 1 0)] [.box [.bD],.box [.arr 2],.arr (.nm 5)]] [Oe] [(.via 5 0,.nm 5)]
def aex:=aW 13 [.row 1] (.aX [.row 10,ab .bool]) [PV]
def PW:=bZ 0 [(1,ab (aI 4)),(4,aw 0 0),(5,aw 1 0),(6,ab ak)] TG [bl (.exit 0) [(4,aw 0 0),(5,aw 1 0)] TG]
def aeC:=aW 14 [.row 1,ab (aI 4)] (.row 1) [PW]
def h8:=aW 4 [.row 0] (.aX [.row 11,.row 11,ab .bool])
def Bc:=aW 15 [ab (.slice .bool)] (.row 11)
def OW:=bZ 0 [(0,ab (aI 6)),(1,ab (aI 6)),(12,ab ak),(13,ab ak)] [] [gf 4 .bool,hG 0]
def By:=aW 206 [ab (aI 6),ab (aI 6)] (ab .bool) [OW]
def Qb:=bZ 0 [(0,ab (aI 9)),(1,ab (aI 9)),(12,ab ak),(13,ab ak)] [] [gf 4 .bool,hG 0]
def B1:=aW 64 [ab (aI 9),ab (aI 9)] (ab .bool) [Qb]
def z6:=bZ 0 [(1,ab (aI 8)),(2,.c (.fn 209 [])),(15,ab (aI 8)),(16,ab ak),(17,ab ak)] [] [gf 6 .bool,hG 0]
def uX:=aW 65 [ab (aI 8),ab (aI 8),.c (.fn 209 [])] (ab .bool) [z6]
def se:=aW 209 [.row 8,.row 8] (ab .bool)
def BA:=aW 208 [.row 7,.row 7] (ab .bool)
def OX:=bZ 0 [(1,ab (aI 7)),(2,.c (.fn 208 [])),(15,ab (aI 7)),(16,ab ak),(17,ab ak)] [] [gf 6 .bool,hG 0]
def Bz:=aW 207 [ab (aI 7),ab (aI 7),.c (.fn 208 [])] (ab .bool) [OX]
def Bb:=aW 148 [.row 5,.row 5] (ab .bool)
def Bu:=aW 202 [ab (.int .u8)] (ab .bool)
def Bv:=aW 203 [ab (.int .u8)] (ab .bool)
def OY:=bZ 0 [(0,ab .str),(18,ab ak),(19,ab ak)] [] [gf 2 .bool,hG 0]
def A9:=aW 145 [ab .str] (ab .bool) [OY]
def OZ:=bZ 0 [(0,ab gy),(1,ab rJ),(5,.c (.mp 0)),(9,ab gy),(10,ab ak),(11,ab ak)] [.set] [gf 4 .bool,bl (.exit 0) [(0,ab gy)]]
def Bw:=aW 204 [ab gy,ab rJ] (ab .bool) [OZ]
def O0:=bZ 0 [(0,ab (aI 6)),(3,.c (.arr 0)),(4,.c (.arr 1)),(7,ab (aI 6)),(8,ab ak),(9,ab ak)] [.arr ak,.arr .str] [bl (.exit 0) [(0,ab (aI 6)),(3,.c (.arr 0)),(4,.c (.arr 1))] [.arr ak,.arr .str]] [] [(.slot 3,ak),(.slot 4,.str)]
def A':=aW 146 [ab (aI 6)] (ab .bool) [O0]
def Bx:=aW 205 [.row 8] (ab .bool)
def O1:=bZ 0 [(1,aw 0 0),(3,.c (.arr 1)),(4,.c (.arr 2)),(8,ab (aI 7)),(9,ab ak),(10,ab ak)] [.bb 5,.arr ak,.arr .str] [gf 2 .bool,bl (.exit 0) [(1,aw 0 0),(3,.c (.arr 1)),(4,.c (.arr 2))] [.bb 5,.arr ak,.arr .str]] [] [(.slot 3,ak),(.slot 4,.str)]
def Ba:=aW 147 [.row 5] (ab .bool) [O1]
def AU:=aW 101 [.row 5] (ab .bool)
def O2:=bZ 0 [(1,aw 0 0),(3,.c (.arr 1)),(7,ab (aI 7)),(8,ab ak),(9,ab ak)] [.bb 5,.arr ak] [bl (.exit 0) [(1,aw 0 0),(3,.c (.arr 1))] [.bb 5,.arr ak]] [] [(.slot 3,ak)]
def AV:=aW 102 [.row 5] (ab gy) [O2]
def Of:=bZ 0 [(1,aw 0 0),(3,.c (.mp 1)),(5,aw 2 0),(14,ab (aI 5)),(15,ab ak),(16,ab ak),(38,ab gy),(39,ab ak),(40,ab ak)] [cv (aI 5),.set,.box rW] [gf 2 ak,bl (.exit 2) [(1,aw 0 0),(3,.c (.mp 1)),(5,aw 2 0),(14,ab (aI 5)),(15,ab ak),(16,ab ak)] [cv (aI 5),.set,.box rW]]
def P':=bZ 0 [(1,aw 0 0),(3,.c (.mp 1)),(14,ab (aI 5)),(15,ab ak),(16,ab ak)] [cv (aI 5),.set] [gf 2 ak,hG 0] [Of]
def BZ:=aW 58 [.row 10] (ab ak) [P']
def Bp:=aW 188 [.row 8] (.row 8)
def A3:=aW 136 [.row 8] (ab .bool)
def Be:=aW 151 [.row 6,aw 0 0] (ab .bool) [] [cv ak] [cv ak]
def O3:=bZ 0 [(0,ab (aI 6)),(1,.c (.fn 151 [0])),(7,ab ak),(8,ab ak)] [cv ak] [bl .ret [(4,ab ak)] [cv ak],bl (.exit 0) [] [cv ak]]
def Bd:=aW 150 [ab (aI 6),.c (.fn 151 [0])] (ab ak) [O3] [cv ak] [cv ak]
def AZ:=aW 106 [.row 5,ab ak] (.aX [ab ak,ab .bool])
def A4:=aW 137 [ab ak] (ab .bool)
def A8:=aW 143 [.row 7,aw 0 0] (ab .bool) [] [cv ak] [cv ak]
def O4:=bZ 0 [(0,ab (aI 7)),(1,.c (.fn 143 [0])),(7,ab ak),(8,ab ak)] [cv ak] [bl .ret [(4,ab ak)] [cv ak],bl (.exit 0) [] [cv ak]]
def A7:=aW 142 [ab (aI 7),.c (.fn 143 [0])] (ab ak) [O4] [cv ak] [cv ak]
def Ch:=aW 99 [.row 5,ab ak] (.aX [ab ak,ab .bool])
def uU:=aW 190 [.row 8,aw 0 0,aw 1 0,aw 2 0] (ab .bool) [] [cv (aI 5),cv ak,cv .bool] [cv (aI 5),cv ak,cv .bool]
def zN:=bZ 0 [(0,ab (aI 8)),(1,.c (.fn 190 [0,1,2])),(7,ab ak),(8,ab ak)] [cv (aI 5),cv ak,cv .bool] [bl .ret [(4,ab ak)] [cv (aI 5),cv ak,cv .bool],bl (.exit 0) [] [cv (aI 5),cv ak,cv .bool]]
def wk:=aW 237 [ab (aI 8),.c (.fn 190 [0,1,2])] (ab ak) [zN] [cv (aI 5),cv ak,cv .bool] [cv (aI 5),cv ak,cv .bool]
def wm:=aW 189 [ab (aI 8),.c (.fn 190 [0,1,2])] (ab .bool) [] [cv (aI 5),cv ak,cv .bool] [cv (aI 5),cv ak,cv .bool]
def uS:=aW 138 [.row 10,ab ak,ab (aI 8),ab .bool] (ab .bool)
def BV:=aW 52 [ab ak] (ab (.int .u64))
def BI:=aW 238 [ab (.int .u64)] (ab .bool)
def Bq:=aW 191 [ab (.int .u64),ab (.int .u64)] (ab ak)
def A6:=aW 141 [ab ak] (ab .bool)
def Cf:=aW 97 [ab ak,ab ak] (ab ak)
def BJ:=aW 239 [ab .str] (ab .bool)
def Bs:=aW 193 [ab .str,ab .str] (ab ak)
def O5:=bZ 0 [(3,ab ak),(6,ab gy),(7,ab ak),(8,ab ak)] [] [gf 2 ak,bl (.exit 0) [(3,ab ak)]]
def Br:=aW 192 [ab gy] (ab ak) [O5]
def A5:=aW 139 [.row 8,.row 8] (ab ak)
def Qi:=bZ 0 [(3,ab .bool),(4,aw 0 0),(6,aw 1 0),(9,aw 2 0),(111,ab (aI 9)),(112,ab ak),(113,ab ak)] [cv (aI 5),.bb 8,.box rW] [gf 8 .bool,bl (.exit 1) TC [cv (aI 5),.box Fp,.box rW]]
def xN:=bZ 1 [(3,ab .bool),(4,aw 0 0),(6,aw 1 0),(150,ab (aI 7)),(151,ab ak),(152,ab ak)] [cv (aI 5),.box Fp] [gf 8 .bool,hG 3]
def Qj:=bZ 2 [(3,ab .bool),(4,aw 0 0),(6,aw 1 0),(9,aw 2 0),(20,ab ak)] [cv (aI 5),.bb 8,.box rW] [gf 8 .bool,bl (.exit 5) TC [cv (aI 5),.bb 8,.box rW]]
def oT:=aW 92 [.row 10,ab ak,.row 8,ab .bool] (ab .bool) [Qi,xN,Qj]
def B9:=aW 84 [.row 10,ab ak,.row 8] (ab .bool)
def MY:=bZ 0 [(1,aw 0 0),(6,ab ak),(16,ab (aI 5)),(17,ab ak),(18,ab ak),(24,ab (aI 7)),(25,ab ak),(26,ab ak)] [cv (aI 5)] [bl .ret [(2,ab ak),(3,ab ak),(4,ab ak)],bl (.exit 2) TB [cv (aI 5)]]
def O6:=bZ 0 TB [cv (aI 5)] [bl .ret [(2,ab ak),(3,ab ak),(4,ab ak)],hG 0] [MY]
def BM:=aW 245 [.row 10] (.aX [ab ak,ab ak,ab ak]) [O6]
def BG:=aW 220 [.row 10] (ab ak)
def O7:=bZ 0 [(1,.c (.arr 0)),(5,ab ak),(33,ab (aI 7)),(34,ab ak),(35,ab ak)] [.arr ak] [bl (.exit 1) [(5,ab ak)] [.arr ak]]
def O8:=bZ 1 [(1,.c (.arr 0)),(8,ab ak),(52,ab (aI 7)),(53,ab ak),(54,ab ak)] [.arr ak] [bl (.exit 3) [(8,ab ak)] [.arr ak]]
def BN:=aW 246 [.row 5,.c (.arr 0)] (ab ak) [O7,O8] [.arr ak] [.arr ak]
def MZ:=bZ 0 [(1,aw 0 0),(3,.c (.arr 1)),(4,ab .bool),(14,ab (aI 5)),(15,ab ak),(16,ab ak)] [cv (aI 5),.arr ak] [bl (.exit 2) TF [cv (aI 5),.arr ak]]
def O9:=bZ 0 TF [cv (aI 5),.arr ak] [bl (.exit 0) [(3,.c (.arr 0))] [.arr ak]] [MZ]
def BH:=aW 221 [.row 10] (ab gy) [O9]
def O':=bZ 0 [(5,.c (.arr 0)),(14,ab gy),(15,ab ak),(16,ab ak)] [.arr .bool] [bl (.exit 0) [(5,.c (.arr 0))] [.arr .bool]] [] [(.slot 5,.bool)]
def Bn:=aW 165 [.row 10] (.aX [ab (.slice .bool),ab ak]) [O']
def Pa:=bZ 0 [(15,ab (.slice .bool)),(16,ab ak),(17,ab ak)] [] [gf 2 ak,hG 0]
def p':=aW 120 [.row 10] (ab ak) [Pa]
def B':=aW 85 [.row 10,ab ak] (ab ak)
def BP:=aW 39 [.row 11,.row 11] (ab ak)
def M0:=bZ 0 [(0,.c (.arr 0)),(3,aw 1 0),(7,ab ak),(8,ab ak)] [.arr (.nm 12),.bb 12] [bl .ret [(4,ab ak)] mh,bl (.exit 0) [] mh]
def Fb:=aW 128 [.c (.arr 0),.row 12] (ab ak) [M0] mh mh
def B3:=aW 78 [.c (.arr 0),.row 12] (ab .bool) [] mh mh
def A2:=aW 131 [ab ak,ab ak,aw 0 0] (.aX []) [] [.box [.arr 1],.arr (.nm 12)] [.box [.arr 2],.gone,.arr (.nm 12)]
def Qd:=bZ 0 [(9,aw 0 0),(10,aw 1 0),(11,aw 2 0),(12,.c (.fn 131 [2])),(35,ab (aI 7)),(36,ab ak),(37,ab ak)] [.bb 5,.bb 5,.box [.arr 3],.arr (.nm 12)] [bl (.exit 0) [(9,aw 0 0),(10,aw 1 0),(11,aw 2 0),(12,.c (.fn 131 [2]))] [.bb 5,.bb 5,.box [.arr 3],.arr (.nm 12)]] [] [(.via 11 0,.nm 12)]
def uZ:=aW 86 [.row 10,ab ak,.row 10,ab ak] (ab (aI 12)) [Qd]
def P2:=aW 40 [.row 11,.row 11] (.aX [.c (.arr 0),.c (.arr 1)]) [] [] [.arr (.nm 12),.arr ak]
def Ca:=aW 87 [.row 5] (ab ak)
def Qe:=bZ 0 [(2,aw 0 0),(3,aw 1 0),(16,ab (aI 6)),(17,ab ak),(18,ab ak)] [.bb 5,.bb 5] [gf 4 .bool,bl (.exit 0) [(2,aw 0 0),(3,aw 1 0)] [.bb 5,.bb 5]]
def Qf:=bZ 1 [(3,aw 0 0),(33,ab (aI 7)),(34,ab ak),(35,ab ak)] [.bb 5] [gf 4 .bool,hG 2]
def Cb:=aW 88 [.row 5,.row 5] (ab .bool) [Qe,Qf]
def A0:=aW 114 [.row 10,ab ak] (ab ak)
def B0:=aW 62 [.row 10,ab ak,.row 8,.row 10,ab ak] (ab ak)
def A1:=aW 115 [aw 0 0] (.aX [.row 8,ab .bool]) [] ug Tt
def Bl:=aW 160 [aw 0 0,ab ak] (.aX [.row 8,ab .bool]) [] ug Tt
def zm:=bZ 0 Tu oA [bl (.exit 0) xr oA]
def zn:=bZ 1 Tv TJ [bl (.exit 2) xr oA]
def qb:=aW 161 [.row 8] (.row 8) [zm,zn]
def qc:=aW 162 [aw 0 0,ab ak,ab ak,.row 8,ab ak] (.aX [.row 8,ab .bool]) [] ug xm
def z7:=bZ 0 [(1,ab (aI 8)),(2,.c (.fn 25 [])),(15,ab (aI 8)),(16,ab ak),(17,ab ak)] [] [gf 6 .bool,hG 0]
def uY:=aW 65 [ab (aI 8),ab (aI 8),.c (.fn 25 [])] (ab .bool) [z7]
def sf:=aW 25 [.row 8,.row 8] (ab .bool)
def Bm:=aW 163 [.row 7,.row 8] (ab .bool)
def Qk:=bZ 0 KG Fu [bl (.exit 0) KG Fu]
def Cg:=aW 98 [ab (.int .u64)] (ab .str) [Qk]
def BX:=aW 56 [ab .str] (ab .str)
def Ce:=aW 94 [ab ak,ab .bool,ab .str] (ab .str)
def BD:=aW 218 [ab ak,ab .bool,ab .str] (.aX [ab .str,ab ak])
def BE:=aW 219 [ab .str] (ab .str)
def BS:=aW 49 [.row 10,ab ak] (ab ak)
def BT:=aW 50 [.row 10,ab ak,.row 8] (ab .bool)
def Bt:=aW 20 [.row 10,ab ak,.row 8] (ab ak)
def P7:=bZ 0 KG Fu [bl (.exit 0) [(3,aw 0 0),(4,ab ak)] Fu]
def BU:=aW 51 [ab (.int .u64)] (ab .str) [P7]
def Cd:=aW 93 [.row 7,.row 8] (ab .bool)
def BW:=aW 55 [aw 0 0,ab .str] (.aX [ab ak,.c (.dead)]) [] [.b3 137 ((.cr 1)),.buf 5] [.b3 137 ((.cr 2)),.gone,.buf 5]
def BY:=aW 57 [aw 0 0] (ab .str) [] [.b3 137 ((.cr 1)),.buf 5] [.b3 137 ((.cr 1)),.gone]
def xK:=bZ 0 [(0,aw 0 0),(3,ab ak),(6,aw 1 0),(9,.c (.arr 2)),(18,ab (aI 7)),(19,ab ak),(20,ab ak)] Tz [bl (.exit 0) [(6,aw 1 0),(9,.c (.arr 2))] Tz] [] [(.slot 9,.nm 13)]
def P8:=bZ 1 [(9,.c (.arr 1)),(57,ab (aI 9)),(58,ab ak),(59,ab ak)] TD [bl (.exit 2) [(9,.c (.arr 1))] TD]
def P9:=bZ 2 [(14,aw 1 0),(77,.c (.arr 2)),(78,ab ak),(79,ab ak)] [.box [.hole (aI 5),.hole ak],.b3 137 ((.cr 3)),.arr (.nm 13),.buf 5] [bl (.exit 4) [(14,aw 1 0)] Tw]
def uV:=aW 53 [aw 0 0,.row 5,.row 8,ab ak] (ab .str) [xK,P8,P9] xp xp
def uW:=aW 54 [aw 0 0,.row 5,.row 8,ab ak] (ab .str) [] xp xp
def xJ:=bZ 0 [(0,aw 0 0),(3,ab ak),(6,aw 1 0),(9,aw 2 0),(10,aw 3 0),(84,ab (aI 8)),(85,ab ak),(86,ab ak)] [.box [.hole (aI 5),.hole ak],.bb 8,.bb 5,.b3 137 ((.cr 4)),.buf 5] [bl (.exit 1) [(10,aw 1 0)] Tw]
def nB:=aW 21 [aw 0 0,ab ak,.row 8,ab ak] (ab .str) [xJ] xp xp
def e8:=aW 8 [.row 10,ab ak,.row 8] (.aX [ab .str,ab ak])
def zo:=bZ 0 [(3,aw 0 0),(5,aw 1 0),(8,ab .str),(36,ab (aI 7)),(37,ab ak),(38,ab ak)] [cv (aI 5),.bb 8] [bl (.exit 1) [(8,ab .str)]]
def zp:=bZ 1 [(3,aw 0 0),(7,aw 1 0),(8,ab .str),(101,ab (aI 8)),(102,ab ak),(103,ab ak)] [cv (aI 5),.bb 5] [bl (.exit 3) [(8,ab .str)]]
def zq:=bZ 2 [(3,aw 0 0),(5,aw 1 0),(7,aw 2 0),(8,ab .str),(118,ab (aI 8)),(119,ab ak),(120,ab ak)] [cv (aI 5),.bb 8,.bb 5] [bl (.exit 5) [(8,ab .str)]]
def nA:=aW 164 [.row 10,ab ak,.row 8] (ab .str) [zo,zp,zq]
def zr:=bZ 0 [(0,aw 0 0),(5,aw 2 0),(6,aw 3 0),(7,aw 4 0),(8,aw 5 0),(10,aw 6 0),(25,ab (aI 7)),(26,ab ak),(27,ab ak)] Tn [bl .ret [(8,aw 2 0),(9,ab .bool)] [.box [.hole (aI 5),.hole (aI 5),.arr 3,.hole gy],.gone,.bb 8,.arr ak],bl (.exit 0) [(0,aw 0 0),(5,aw 2 0),(6,aw 3 0),(7,aw 4 0),(8,aw 5 0),(10,aw 6 0)] Tn] [] [(.via 10 6,.nm 8)]
def Pb:=bZ 1 [(0,aw 0 0),(6,aw 2 0),(7,aw 3 0),(8,aw 4 0),(10,aw 5 0),(115,ab (aI 7)),(116,ab ak),(117,ab ak)] [.box [.hole (aI 5),.hole (aI 5),.arr 6,.hole gy],.gone,.bb 8,.bb 5,.box hX,.box [.hole ak,.hole .bool,.hole ak,.hole .str,.hole ak,.bD,.arr 7,.arr 8],.arr ak,.arr (.nm 8),.arr (.nm 9)] [bl .ret [(8,aw 2 0),(9,ab .bool)] [.box TI,.gone,.bb 8,.arr ak,.arr ak],bl (.exit 2) [(8,aw 2 0),(10,aw 3 0)] [.box [.hole (aI 5),.hole (aI 5),.arr 4,.hole gy],.gone,.box hX,.box Ts,.arr ak,.arr (.nm 8),.arr (.nm 9)]] [] [(.via 10 7,.nm 9)]
def uO:=aW 116 [aw 0 0,.row 5,.row 8,.row 5] (.aX [.row 8,ab .bool]) [zr,Pb] ug xm
def uP:=aW 117 [aw 0 0,.row 5,.row 8,.row 5] (.aX [.row 8,ab .bool]) [] ug xm
def zs:=bZ 0 [(0,aw 0 0),(1,ab ak),(3,ab ak),(10,.c (.arr 2)),(15,ab (aI 8)),(16,ab ak),(17,ab ak)] Tp [bl .ret [(8,.c (.bD)),(9,ab .bool)] xm,bl (.exit 0) [(10,.c (.arr 2))] Tp] [] [(.slot 10,.nm 8)]
def uQ:=aW 118 [aw 0 0,ab ak,ab (aI 8),ab ak] (.aX [ab (aI 8),ab .bool]) [zs] ug xm
def si:=aW 63 [aw 0 0,ab ak,.row 8,ab ak] (.aX [.row 8,ab .bool]) [] ug xm
def BK:=aW 24 [.row 10,ab ak,.row 8,.row 10,ab ak] (.aX [.row 8,ab ak])
def Qg:=bZ 0 [(4,aw 0 0),(5,aw 1 0),(6,aw 2 0),(7,aw 3 0),(21,ab (aI 7)),(22,ab ak),(23,ab ak)] [cv (aI 5),.bb 5,cv (aI 5),.bb 5] [gf 8 ak,bl (.exit 0) [(5,aw 0 0),(7,aw 1 0)] [.bb 5,.bb 5]]
def Qh:=bZ 1 [(7,aw 0 0),(73,ab (aI 7)),(74,ab ak),(75,ab ak)] [.bb 5] [gf 8 ak,hG 2]
def Cc:=aW 89 [.row 10,.row 5,.row 10,.row 5] (ab ak) [Qg,Qh]
def BQ:=aW 41 [.row 10,ab ak,.row 10,ab ak] (ab ak)
def P3:=bZ 0 [(0,.c (.arr 0)),(2,ab ak),(3,ab ak)] mh [bl (.exit 0) [] mh]
def BR:=aW 42 [.c (.arr 0)] (.aX []) [P3] mh mh
def Og:=bZ 0 [(8,.c (.arr 0)),(9,.c (.arr 1)),(10,ab ak),(12,ab ak),(13,.c (.arr 2))] [.arr (.nm 12),.arr ak,.arr (.nm 12)] [bl (.exit 2) [(12,ab ak),(13,.c (.arr 0))] mh] [] [(.slot 13,.nm 12)]
def PX:=bZ 0 [(2,aw 0 0),(3,aw 1 0),(8,.c (.arr 2)),(9,.c (.arr 3)),(26,.c (.arr 2)),(27,ab ak),(28,ab ak)] [.bb 11,.bb 11,.arr (.nm 12),.arr ak] [bl .ret [(4,.c (.arr 0)),(5,ab ak),(6,ab ak)] mh,hG 0] [Og]
def Bo:=aW 18 [.row 11,.row 11] (.aX [ab (aI 12),ab ak,ab ak]) [PX]
def ja:=aW 6 [.row 11,.row 11] (.aX [ab .bool,ab ak])
def Gc:=aW 70 [.row 11] (ab ak)
def FY:=aW 166 [.row 10,ab ak] (ab ak)
def F5:=aW 247 [ab ak,ab ak] (ab ak)
def qd:=aW 257 [.row 10,ab ak,.row 8] (.aX [ab ak,ab ak])
def F7:=aW 258 [.row 10,ab ak,.row 8] (ab .str)
def F6:=aW 248 [.row 10,ab ak,.row 8] (.row 15)
def F4:=aW 223 [.row 15,.row 15] (ab .bool)
def ad3:=bZ 0 [(1,ab ak),(3,.c (.arr 0)),(4,aw 1 0),(8,aw 2 0),(9,aw 3 0),(10,ab .bool),(42,ab (aI 7)),(43,ab ak),(44,ab ak)] TE [bl .ret [(8,aw 1 0)] [.arr (.nm 15),.box oz],bl (.exit 1) [(1,ab ak),(4,aw 1 0),(8,aw 2 0),(9,aw 3 0),(10,ab .bool)] TE] [] [(.via 9 6,.nm 8)]
def adq:=bZ 1 [(1,ab ak),(3,.c (.arr 0)),(4,aw 1 0),(6,aw 2 0),(8,aw 3 0),(14,aw 4 0),(80,ab (aI 7)),(81,ab ak),(82,ab ak)] [.arr (.nm 15),cv (aI 5),.bb 5,.box oz,.box TL] [bl (.exit 3) [(8,aw 1 0),(14,aw 2 0)] [.arr (.nm 15),.box oz,.box TL]]
def F3:=aW 222 [.row 10,ab ak,.row 5,.c (.arr 0)] (.row 15) [ad3,adq] [.arr (.nm 15)] [.arr (.nm 15)]
def aaG:=bZ 0 [(1,aw 0 0),(3,.c (.arr 1)),(14,ab ak),(15,ab ak),(18,ab (aI 5)),(19,ab ak),(20,ab ak)] [cv (aI 5),.arr (.nm 15)] [bl (.exit 2) TA [cv (aI 5),.arr (.nm 15)]]
def adr:=bZ 0 TA [cv (aI 5),.arr (.nm 15)] [bl (.exit 0) [(3,.c (.arr 0))] [.arr (.nm 15)]] [aaG]
def FZ:=aW 167 [.row 10] (ab (aI 15)) [adr]
def ads:=bZ 0 [(1,aw 0 0),(2,aw 1 0),(19,ab ak),(20,ab ak)] oA [bl (.exit 0) xr oA]
def adt:=bZ 1 [(1,aw 0 0),(2,aw 1 0),(36,ab ak),(37,ab ak)] oA [bl (.exit 2) xr oA]
def F0:=aW 168 [.row 8] (.row 8) [ads,adt]
def oS:=aW 121 [.row 10,ab ak] (.aX [.row 8,ab ak])
def FT:=aW 122 [.row 8,ab .str] (.row 14)
def lq:=aW 129 [.row 10,ab ak,.row 10,ab ak] (.aX [ab ak,ab ak])
def adu:=bZ 0 [(0,aw 0 0),(1,ab ak),(5,aw 5 0),(6,aw 6 0),(7,aw 7 0),(8,aw 8 0),(24,ab (aI 7)),(25,ab ak),(26,ab ak)] [.box [.hole (aI 5),.hole (aI 5),.arr 9,.arr 2],.gone,.box ui,.arr (.nm 14),.arr (.nm 14),.bb 5,.box oz,.bb 5,.box oz,.arr (.nm 14)] [bl (.exit 0) [(6,aw 5 0),(8,aw 6 0)] [.box [.hole (aI 5),.hole (aI 5),.arr 7,.arr 2],.gone,.box ui,.arr (.nm 14),.arr (.nm 14),.box oz,.box oz,.arr (.nm 14)]]
def F2:=aW 177 [aw 0 0,ab ak,.row 5] (.row 14) [adu] uf TM
def adv:=bZ 0 [(0,aw 0 0),(1,ab ak),(6,aw 5 0),(7,aw 6 0),(8,aw 7 0),(91,ab (aI 6)),(92,ab ak),(93,ab ak)] [.box [.hole (aI 5),.hole (aI 5),.arr 8,.arr 2],.gone,.box ui,.arr (.nm 14),.arr (.nm 14),.box oz,.bb 5,.bb 5,.arr (.nm 14)] [bl (.exit 1) [(6,aw 5 0)] [.box [.hole (aI 5),.hole (aI 5),.arr 6,.arr 2],.gone,.box ui,.arr (.nm 14),.arr (.nm 14),.box oz,.arr (.nm 14)]]
def FV:=aW 124 [aw 0 0,ab ak,ab ak] (.row 14) [adv] uf TM
def F1:=aW 169 [ab .str,ab .str] (ab .bool)
def FU:=aW 123 [.row 14,.row 14] (.row 14)
def aac:=bZ 0 TK [.box TH,.arr (.nm 14),.box [.arr 1,.arr 4],.arr (.nm 14),.arr (.nm 14)] [bl (.exit 6) KE KD]
def Zf:=bZ 1000 TK [.box TH,.arr (.nm 14),.box [.arr 4,.arr 1],.arr (.nm 14),.arr (.nm 14)] [bl (.exit 6) KE KD]
def ac0:=bZ 0 KE KD [bl (.exit 4) [(5,aw 0 0),(11,ab .bool)] uf] [aac,Zf]
def ae3:=bZ 0 [(2,aw 0 0),(3,aw 1 0),(5,aw 2 0),(27,ab ak),(28,ab ak)] [cv (aI 5),cv (aI 5),.box TI,.arr (.nm 14),.box [.arr 5,.arr 6],.arr (.nm 14),.arr (.nm 14)] [bl (.exit 0) [(5,aw 0 0)] uf] [] [(.via 5 2,.nm 14),(.cell 128 0,.nm 14),(.cell 128 1,.nm 14)] [(.via 5 2,.nm 14),(.cell 4 0,.nm 14),(.cell 4 1,.nm 14)]
def ae4:=bZ 1 [(5,aw 0 0),(11,ab .bool)] uf [bl (.exit 2) [(5,aw 0 0)] uf] [ac0]
def Gd:=aW 71 [.row 10,.row 10] (aw 0 0) [ae3,ae4] [] uf
def F8:=aW 34 [.row 11,.row 11] (.aX [.row 14,ab ak])
def F9:=aW 35 [.row 11,.row 11] (.aX [ab (aI 12),ab ak])
def sb:=aW 16 [.row 11,.row 11] (.aX [.row 16,ab ak])
def Gf:=aW 76 [.row 12] (ab .bool)
def adw:=bZ 0 [(0,ab (aI 12)),(1,.c (.fn 76 [])),(7,ab ak),(8,ab ak)] [] [gf 4 ak,hG 0]
def FW:=aW 127 [ab (aI 12),.c (.fn 76 [])] (ab ak) [adw]
def Ge:=aW 75 [ab (aI 12),.c (.fn 76 [])] (ab .bool)
def F':=aW 36 [.row 16] (ab .bool)
def B2:=aW 77 [.row 11] (ab .bool)
def aaH:=bZ 0 [(0,ab (aI 12)),(3,aw 0 0),(7,ab ak),(8,ab ak)] [.bb 12] [gf 4 ak,hG 0]
def J6:=aW 128 [ab (aI 12),.row 12] (ab ak) [aaH]
def B4:=aW 78 [ab (aI 12),.row 12] (ab .bool)
def B5:=aW 79 [.row 17] (.row 12)
def B6:=aW 80 [.row 17,.row 12] (ab .bool)
def B7:=aW 81 [.row 17,.row 12] (ab .bool)
def FX:=aW 130 [.row 10,ab ak,.row 10,ab ak] (.aX [ab (aI 12),ab ak])
def B8:=aW 82 [.row 17,.row 12] (ab (aI 12))
def aeR:=aW 37 [.row 11,.row 11,ab (aI 12)] (ab .bool)
def AW:=aW 103 [aw 0 0,ab ak] (.aX [.row 8,ab .bool]) [] uh [.box [.hole (aI 5),.arr 2,.arr 3,.hole ak],.gone,.arr ak,.arr ak]
def Pc:=bZ 0 [(0,ab .str),(4,ab (.int .u64)),(17,ab ak),(18,ab ak)] [] [bl (.exit 0) [(4,ab (.int .u64))]]
def AX:=aW 104 [ab .str] (.aX [ab (.int .u64),ab ak]) [Pc]
def AY:=aW 105 [ab (.int .u64)] (ab ak)
def mM:=aW 107 [aw 0 0,ab ak,ab ak,ab .str] (.aX [.row 8,ab .bool]) [] uh xn
def Pd:=bZ 0 [(0,ab .str),(5,ab (.int .u64)),(10,ab ak),(11,ab ak)] [] [bl .ret [(2,ab (.int .u64)),(3,ab ak),(4,ab ak)],hG 0]
def BL:=aW 243 [ab .str] (.aX [ab (.int .u64),ab ak,ab ak]) [Pd]
def BB:=aW 210 [ab .str] (.aX [ab (.int .u64),ab .str,ab .bool])
def Bf:=aW 152 [ab .str] (.aX [ab ak,ab .str,ab ak])
def uK:=aW 108 [aw 0 0,.row 5,ab .str] (.aX [.row 8,ab .bool]) [] uh xn
def BC:=aW 211 [ab .str] (.aX [ab .str,ab .str,ab .bool])
def Ow:=bZ 0 [(4,.c (.arr 0)),(5,ab .str)] [.arr .str] [bl .ret [(2,.c (.bD)),(3,ab ak)],bl (.exit 0) [(4,.c (.arr 0))] [.arr .str]] [] [(.slot 4,.str)]
def Bg:=aW 153 [ab .str] (.aX [ab rJ,ab ak]) [Ow]
def zt:=bZ 0 [(0,aw 0 0),(4,aw 2 0),(6,aw 3 0),(10,aw 4 0),(38,ab rJ),(39,ab ak),(40,ab ak)] KF [bl .ret xq Fs,bl (.exit 0) KI [.box KH,.gone,.box hX,.box [.hole ak,.hole .bool,.hole ak,.hole .str,.hole ak,.bD,.arr 5,.bD],.arr ak,.arr (.nm 8)]] [] [(.via 10 6,.nm 8)]
def uL:=aW 109 [aw 0 0,.row 5,ab .str] (.aX [.row 8,ab .bool]) [zt] uh xn
def zu:=bZ 0 [(0,aw 0 0),(4,aw 2 0),(6,aw 3 0),(8,ab rJ),(10,aw 4 0),(11,ab ak)] Fq [bl .ret xq Fs,bl (.exit 0) Tx Fq] [] [(.via 10 5,.nm 8)]
def Ox:=bZ 1 [(0,aw 0 0),(4,aw 2 0),(6,aw 3 0),(8,ab rJ),(10,aw 4 0),(14,ab ak)] Fq [bl .ret xq Tq,bl (.exit 2) Tx Fq]
def zL:=bZ 2 [(0,aw 0 0),(4,aw 2 0),(6,aw 3 0),(8,ab rJ),(10,aw 4 0),(15,ab ak)] [.box Ft,.gone,.bb 5,.box hX,.box [.hole ak,.hole .bool,.hole ak,.hole .str,.hole ak,.arr 6,.arr 7,.bD],.arr ak,.arr (.nm 8),.arr (.nm 8)] [bl .ret xq Fs,bl (.exit 4) KI [.box KH,.gone,.box hX,.box [.hole ak,.hole .bool,.hole ak,.hole .str,.hole ak,.arr 5,.arr 6,.bD],.arr ak,.arr (.nm 8),.arr (.nm 8)]] [] [(.via 10 6,.nm 8)]
def uM:=aW 110 [aw 0 0,.row 5,ab .str] (.aX [.row 8,ab .bool]) [zu,Ox,zL] uh xn
def Oy:=bZ 0 [(4,.c (.arr 0)),(5,ab (.int .u64)),(6,ab .str)] [.arr (.nm 18)] [bl .ret [(2,.c (.bD)),(3,ab ak)],bl (.exit 0) [(4,.c (.arr 0))] [.arr (.nm 18)]] [] [(.slot 4,.nm 18)]
def Bh:=aW 154 [ab .str] (.aX [ab (aI 18),ab ak]) [Oy]
def Bj:=aW 156 [.row 18,aw 0 0] (ab .bool) [] [.bb 7] [.bb 7]
def Oz:=bZ 0 [(0,ab (aI 18)),(1,.c (.fn 156 [0])),(7,ab ak),(8,ab ak)] [.bb 7] [bl .ret [(4,ab ak)] [.bb 7],bl (.exit 0) [] [.bb 7]]
def Bi:=aW 155 [ab (aI 18),.c (.fn 156 [0])] (ab ak) [Oz] [.bb 7] [.bb 7]
def y7:=bZ 0 Tu oA [bl (.exit 0) xr oA]
def y8:=bZ 1 Tv TJ [bl (.exit 2) xr oA]
def qa:=aW 157 [.row 8] (.row 8) [y7,y8]
def y9:=bZ 0 [(0,aw 0 0),(4,aw 2 0),(6,aw 3 0),(8,ab (aI 18)),(10,aw 4 0),(39,ab (aI 7)),(40,ab ak),(41,ab ak)] KF [bl .ret xq Fs,bl (.exit 0) [(0,aw 0 0),(4,aw 2 0),(6,aw 3 0),(8,ab (aI 18)),(10,aw 4 0)] KF] [] [(.via 10 6,.nm 8)]
def OA:=bZ 1 [(0,aw 0 0),(4,aw 2 0),(6,aw 3 0),(10,aw 4 0),(117,ab (aI 18)),(118,ab ak),(119,ab ak)] [.box Ft,.gone,.bb 5,.box hX,.box [.hole ak,.hole .bool,.hole ak,.hole .str,.hole ak,.bD,.arr 6,.arr 7],.arr ak,.arr (.nm 8),.arr (.nm 9)] [bl .ret xq Tq,bl (.exit 3) KI [.box KH,.gone,.box hX,.box Ts,.arr ak,.arr (.nm 8),.arr (.nm 9)]] [] [(.via 10 7,.nm 9)]
def uN:=aW 111 [aw 0 0,.row 5,ab .str] (.aX [.row 8,ab .bool]) [y9,OA] uh xn
def sg:=aW 59 [aw 0 0,ab ak,ab .str] (.aX [.row 8,ab .bool]) [] uh xn
def BF:=aW 22 [.row 10,ab ak,ab .str] (.aX [.row 8,.row 19,ab ak])
def qe:=aW 9 [.row 10,ab ak,ab .str] (.aX [.row 8,ab ak])
def Ga:=aW 38 [.row 11,.row 11,ab .str] (ab .bool)
def uT:=aW 17 [.row 11,.row 11,.row 16] (ab .bool)
def iv:=aW 5 [] (ab .bool)
def aeS:=aW 43 [aw 0 0,ab ak] (ab ak) [] ka ka
def P4:=bZ 0 [(0,aw 0 0),(5,ab .str),(6,ab ak)] ka [bl (.exit 0) [(5,ab .str)] ka]
def aeT:=aW 44 [aw 0 0,ab ak] (ab .str) [P4] ka ka
def aeU:=aW 45 [aw 0 0] (ab .bool) [] ka ka
def OB:=bZ 0 [(1,ab ak),(2,aw 0 0),(6,ab ak)] [.bb 5] [bl .ret [(4,ab ak),(5,ab .bool)],hG 0]
def aey:=aW 132 [.row 5,ab ak] (.aX [ab ak,ab .bool]) [OB]
def OC:=bZ 0 [(1,ab ak),(2,aw 0 0),(6,ab ak)] [.bb 5] [bl .ret [(4,ab ak),(5,ab .bool)],hG 0]
def aez:=aW 133 [.row 5,ab ak] (.aX [ab ak,ab .bool]) [OC]
def ae5:=aW 90 [.row 5,ab ak] (ab .bool)
def P5:=bZ 0 [(3,aw 1 0),(5,ab ak)] [.box xo,.bb 5] [bl (.exit 0) [(5,ab ak)] ka]
def aeV:=aW 46 [aw 0 0,.row 5] (ab ak) [P5] ka ka
def aeW:=aW 47 [aw 0 0,ab ak] (.row 9) [] ka ka
def aeA:=aW 134 [ab .bool,ab .bool] (ab ak)
def aeB:=aW 135 [ab ak] (ab (.int .u64))
def ae6:=aW 91 [.row 8,.row 8] (ab ak)
def P6:=bZ 0 Ty [.bb 8,.bb 8,.bb 8,.box hX] [bl (.exit 0) Ty [.bb 8,.bb 8,.bb 8,.box hX]]
def aeX:=aW 48 [.row 8,.row 8,.row 8] (.row 8) [P6]
def xG:=bZ 0 [(0,aw 0 0),(4,aw 1 0),(5,aw 2 0),(6,aw 3 0),(7,ab ak)] KC [bl (.exit 1) [(0,aw 0 0),(4,aw 1 0),(5,aw 2 0),(6,aw 3 0)] KC] [] [(.via 6 6,.nm 8)]
def xH:=bZ 1 [(0,aw 0 0),(4,aw 1 0),(5,aw 2 0),(6,aw 3 0),(9,ab ak)] KC [bl (.exit 3) [(4,aw 1 0),(6,aw 2 0)] [.box xo,.box hX,.box [.hole ak,.hole .bool,.hole ak,.hole .str,.hole ak,.bD,.arr 3,.bD],.arr (.nm 8)]] [] [(.via 6 6,.nm 8)]
def xI:=bZ 2 [(0,aw 0 0),(4,aw 1 0),(5,aw 2 0),(6,aw 3 0),(10,ab ak)] [.box xo,.box hX,.box rW,.box Fp] [bl (.exit 5) [(4,aw 1 0),(6,aw 2 0)] [.box xo,.box hX,.box Fp]]
def sd:=aW 19 [aw 0 0,ab ak] (.row 8) [xG,xH,xI] ka ka
def xM:=aW 7 [.row 10,ab ak,ab (.slice (.int .u8))] (.row 8)
def aeu:=aW 112 [.row 11] (ab ak)
def Qa:=bZ 0 [(6,ab (aI 11)),(7,ab ak),(8,ab ak)] [] [gf 2 ak,hG 0]
def aeY:=aW 60 [ab (aI 11)] (ab ak) [Qa]
def aeE:=aW 214 [.row 10,ab ak] (ab ak)
def aeD:=aW 158 [.row 10,ab ak,.row 8] (ab ak)
def aeF:=aW 215 [.row 5,.row 8] (ab .bool)
def aeJ:=aW 244 [.row 8,aw 0 0,aw 1 0] (ab .bool) [] [cv (aI 5),.bb 5] [cv (aI 5),.bb 5]
def M1:=bZ 0 [(0,ab (aI 8)),(1,.c (.fn 244 [0,1])),(7,ab ak),(8,ab ak)] [cv (aI 5),.bb 5] [bl .ret [(4,ab ak)] [cv (aI 5),.bb 5],bl (.exit 0) [] [cv (aI 5),.bb 5]]
def adx:=aW 237 [ab (aI 8),.c (.fn 244 [0,1])] (ab ak) [M1] [cv (aI 5),.bb 5] [cv (aI 5),.bb 5]
def ady:=aW 189 [ab (aI 8),.c (.fn 244 [0,1])] (ab .bool) [] [cv (aI 5),.bb 5] [cv (aI 5),.bb 5]
def aeG:=aW 216 [.row 10,.row 5,.row 8] (ab .bool)
def OD:=bZ 0 [(2,aw 0 0),(3,aw 1 0),(5,.c (.arr 2)),(11,ab ak),(12,ab ak)] [.bb 5,.bb 8,.arr (.nm 20)] [bl (.exit 0) [(5,.c (.arr 0))] [.arr (.nm 20)]] [] [(.slot 5,.nm 20)]
def aeH:=aW 217 [.row 5,.row 8] (ab (aI 20)) [OD]
def y':=bZ 0 [(3,aw 0 0),(5,aw 1 0),(6,aw 2 0),(9,aw 3 0),(49,ab (aI 20)),(50,ab ak),(51,ab ak)] [cv (aI 5),.bb 8,.box hX,.box [.hole ak,.hole .bool,.hole ak,.hole .str,.hole ak,.arr 4,.arr 5,.bD],.arr (.nm 8),.arr (.nm 8)] [bl .ret [(6,aw 0 0),(7,ab .bool)] [.box hX],bl (.exit 0) [(6,aw 0 0),(9,aw 1 0)] [.box hX,.box [.hole ak,.hole .bool,.hole ak,.hole .str,.hole ak,.arr 2,.arr 3,.bD],.arr (.nm 8),.arr (.nm 8)]] [] [(.via 9 6,.nm 8)]
def Bk:=aW 159 [.row 10,ab ak,.row 8] (.aX [.row 8,ab .bool]) [y']
def aev:=aW 113 [.row 10,ab ak,.row 8] (.aX [.row 8,ab ak])
def aeZ:=aW 61 [.row 11,.row 11,ab .str] (.aX [.row 21,ab ak])
def aeI:=aW 23 [.row 11,.row 11,ab .str] (.aX [.row 21,ab ak])
def FR:=aW 10 [.row 11,.row 11,ab .str] (.aX [ab .str,ab ak])
def aet:=aW 11 [.row 10,ab ak,.row 8,.row 10,ab ak,.row 8] (ab .bool)
def xL:=bZ 0 [(0,ab (aI 8)),(1,ab (aI 8)),(5,ab ak)] [] [gf 4 .bool,hG 0]
def Gb:=aW 66 [ab (aI 8),ab (aI 8)] (ab .bool) [xL]
def PY:=bZ 0 [(2,aw 0 0),(3,aw 1 0),(5,ab ak)] [.bb 8,.bb 8] [gf 4 .bool,bl (.exit 0) [(2,aw 0 0),(3,aw 1 0)] [.bb 8,.bb 8]]
def BO:=aW 26 [.row 8,.row 8] (ab .bool) [PY]
def uR:=aW 12 [.row 8,.row 8] (ab .bool)
def dw:=aW 3 [.row 0,ab (.slice (.int .u8))] (ab .bool)
def agY:List dr:=[Fb,B3,Bc,By,B1,uX,se,BA,Bz,Bb,Bu,Bv,A9,Bw,A',Bx,Ba,AU,AV,BZ]
def agZ:List dr:=[Bp,A3,Be,Bd,AZ,A4,A8,A7,Ch,uU,wk,wm,uS,BV,BI,Bq,A6,Cf,BJ,Bs]
def ag0:List dr:=[Br,A5,oT,B9,BM,BG,BN,BH,Bn,p',B',BP,A2,uZ,Ca,Cb,A0,B0,A1,Bl]
def ag1:List dr:=[qb,qc,uY,sf,Bm,Cg,BX,Ce,BD,BE,BS,BT,Bt,BU,Cd,BW,BY,uV,uW,nB]
def ag2:List dr:=[e8,nA,uO,uP,uQ,si,BK,Cc,BQ,BR,Bo,ja,Gc,FY,F5,qd,F7,F6,F4,F3]
def ag3:List dr:=[FZ,F0,oS,FT,lq,F2,FV,F1,FU,Gd,F8,F9,sb,Gf,FW,Ge,F',B2,J6,B4]
def ag4:List dr:=[B5,B6,B7,FX,B8,AW,AX,AY,mM,BL,BB,Bf,uK,BC,Bg,uL,uM,Bh,Bj,Bi]
def ag5:List dr:=[qa,uN,sg,BF,qe,Ga,uT,iv]
def gz:List dr:=agY++agZ++ag0++ag1++ag2++ag3++ag4++ag5
theorem lX:gz.all (pQ prog)=true:=by kernel_rfl
def lP:ca bP:={HB with F:=E6 (α:=bP.D 13) lD}
theorem nN:dP prog lP:=⟨HC.1,λh r a=>HC.2 h r (LB Hv _ r a)⟩
def lQ:ca bP:={HE with F:=E6 (α:=bP.D 12) ot}
theorem nO:dP prog lQ:=⟨SR.1,λh r a=>SR.2 h r (LB Hw _ r a)⟩
noncomputable def x2:ca bP:=P2.s (EC (ed prog gz [kT,kV,k0,lP,lb,lQ] 3000 uZ))
theorem Hl:dP prog x2:=MX (.run (e:=uZ) lX (.k kU (.k kZ (.k lZ (.k nN (.k mC (.k nO .n)))))) (.m (by kernel_rfl)) 3000 λ_=>rfl)
noncomputable def x3:ca bP:=aeR.s (Q9 (ed prog gz [kT,kV,k0,lP,lb,lQ] 3000 B2) (ed prog gz [kT,kV,k0,lP,lb,lQ] 3000 B4) (ed prog gz [kT,kV,k0,lP,lb,lQ] 3000 B5) (ed prog gz [kT,kV,k0,lP,lb,lQ] 3000 B6) (ed prog gz [kT,kV,k0,lP,lb,lQ] 3000 B7) (ed prog gz [kT,kV,k0,lP,lb,lQ] 3000 B8))
theorem Hm:dP prog x3:=ad2 (.run lX (.k kU (.k kZ (.k lZ (.k nN (.k mC (.k nO .n)))))) (.m (by kernel_rfl)) 3000 λ_=>rfl) (.run lX (.k kU (.k kZ (.k lZ (.k nN (.k mC (.k nO .n)))))) (.m (by kernel_rfl)) 3000 λ_=>rfl) (.run lX (.k kU (.k kZ (.k lZ (.k nN (.k mC (.k nO .n)))))) (.m (by kernel_rfl)) 3000 λ_=>rfl) (.run lX (.k kU (.k kZ (.k lZ (.k nN (.k mC (.k nO .n)))))) (.m (by kernel_rfl)) 3000 λ_=>rfl) (.run lX (.k kU (.k kZ (.k lZ (.k nN (.k mC (.k nO .n)))))) (.m (by kernel_rfl)) 3000 λ_=>rfl) (.run lX (.k kU (.k kZ (.k lZ (.k nN (.k mC (.k nO .n)))))) (.m (by kernel_rfl)) 3000 λ_=>rfl)
def jU(l:List Bool):Option bY:=
 if (0<(l.length:Int):Bool) then if aQ 0 l.length then some (⟨(⟨[(⟨5,[82],0,0,0,[],[(⟨1,[120],1,false,true,(⟨1,l.getD (0:Int).toNat false,0,[],0,[],[],[]⟩:aa)⟩:aU)],0,0,false⟩:aj),(⟨1,[],0,0,0,[],[],0,0,false⟩:aj)]⟩:bq),0⟩:bY)else none else some (⟨(⟨[(⟨5,[82],0,0,0,[],[(⟨1,[120],1,false,false,(⟨0,false,0,[],0,[],[],[]⟩:aa)⟩:aU)],0,0,false⟩:aj),(⟨1,[],0,0,0,[],[],0,0,false⟩:aj)]⟩:bq),0⟩:bY)
theorem VK:bm Bc jU:= .bC
noncomputable def HT:bY×bY->Option (jv×Int):=ed prog gz [x3,x2,kT,kV,k0,lP,lb,lQ] 3000 sb
noncomputable def vm:bY×bY×jv->Option Bool:=ed prog gz [x3,x2,kT,kV,k0,lP,lb,lQ] 3000 uT
theorem VX:bm uT vm:= .run lX (.k Hm (.k Hl (.k kU (.k kZ (.k lZ (.k nN (.k mC (.k nO .n)))))))) (.m (by kernel_rfl)) 3000 λ_=>rfl
noncomputable def qv:bY×bY->Option (Bool×Int):=ed prog gz [x3,x2,kT,kV,k0,lP,lb,lQ] 3000 ja
theorem Vw:bm ja qv:= .run lX (.k Hm (.k Hl (.k kU (.k kZ (.k lZ (.k nN (.k mC (.k nO .n)))))))) (.m (by kernel_rfl)) 3000 λ_=>rfl
def Hn(HT:bY×bY->Option (jv×Int))(vm:bY×bY×jv->Option Bool)(qv:bY×bY->Option (Bool×Int)):Option Bool:=
 some [(⟨5,[82],0,0,0,[],[],0,0,false⟩:aj)]>>=λt13=>jU [false]>>=λr=>qv ((⟨(⟨t13⟩:bq),0⟩:bY),r)>>=λc=>jU [true]>>=λq=>qv (q,(⟨(⟨t13⟩:bq),0⟩:bY))>>=λe=>jU [true]>>=λs=>jU [false]>>=λt=>qv (s,t)>>=λd=>jU [true]>>=λf=>jU [false]>>=λg=>HT (f,g)>>=λa=>jU []>>=λi=>jU [true]>>=λj=>HT (i,j)>>=λb=>some (bif bif bif bif bif bif bif bif bif decide (c.2=0)then decide (e.2=0)else false then decide (d.2=0)else false then decide (a.2=0)else false then decide (b.2=0)else false then c.1 else false then e.1 else false then(!d.1)else false then decide (a.1.Message=[])else false then(!a.1.AE)else false)>>=λt90=>(if t90 then jU [true]else some q1)>>=λk=>(if t90 then jU [false]else some q1)>>=λl=>(if t90 then vm (k,l,a.1)else some false)>>=λm=>some (bif bif t90 then m else false then b.1.AE else false)>>=λt102=>(if t102 then jU []else some q1)>>=λn=>(if t102 then jU [true]else some q1)>>=λo=>(if t102 then vm (n,o,b.1)else some false)>>=λp=>some (bif t102 then p else false)
theorem Vi{ml:bY×bY->Option (jv×Int)}{a:bY×bY×jv->Option Bool}{b:bY×bY->Option (Bool×Int)}(d:bm sb ml)(c:bm uT a)(hs:bm ja b):bm iv (λ_=>Hn ml a b):= .bC (.k VK (.k hs (.k d (.k c .n))))
def oq(a b:ar):Bool:=decide (a=b)
def wQ:List cG->List cG->Bool
 |[],[]=>true
 |x::l,y::m=>decide (x.ah=y.ah)&&oq x.Data y.Data&&wQ l m
 |_,_=>false
mutual
def Al:aa->aa->Bool
 |⟨a1,a2,a3,a4,a5,a,c,e⟩,b=>decide (a1=b.Kind)&&decide (a2=b.b9)&&decide (a3=b.bw)&&oq a4 b.bH&&decide (a5=b.ah)&&t' a b.aJ&&t' c b.aq&&wQ e b.Rest
def t':List aa->List aa->Bool
 |[],b=>(match b with|[]=>true|_=>false)
 |x::l,b=>(match b with|[]=>false|y::m=>Al x y&&t' l m)
end
def wh:List aU->List aU->Bool
 |[],[]=>true
 |x::l,y::m=>decide (x.ah=y.ah)&&oq x.Name y.Name&&decide (x.aB=y.aB)&&decide (x.cu=y.cu)&&decide (x.b8=y.b8)&&Al x.bU y.bU&&wh l m
 |_,_=>false
def xl:List dO->List dO->Bool
 |[],[]=>true
 |x::l,y::m=>decide (x.ah=y.ah)&&oq x.Name y.Name&&xl l m
 |_,_=>false
def wY:List aj->List aj->Bool
 |[],[]=>true
 |x::l,y::m=>decide (x.Kind=y.Kind)&&oq x.Name y.Name&&decide (x.bT=y.bT)&&decide (x.bW=y.bW)&&decide (x.Max=y.Max)&&xl x.bo y.bo&&wh x.af y.af&&decide (x.aK=y.aK)&&decide (x.Key=y.Key)&&decide (x.Open=y.Open)&&wY l m
 |_,_=>false
theorem OE:∀{a b:List cG},wQ a b=true->a=b
 |[],[],_=>rfl
 |[],_::_,h=>by simp[wQ]at h
 |_::_,[],h=>by simp[wQ]at h
 |x::l,y::m,h=>by
  simp only[wQ,oq,cK,e9]at h;obtain⟨⟨h1,f⟩,e⟩:=h;obtain⟨a,b⟩:=x;obtain⟨c,d⟩:=y;rw[OE e];simp_all
mutual
theorem J7:∀(a:aa) {b:aa},Al a b=true->a=b
 |⟨a1,a2,a3,a4,a5,c,e,v⟩,⟨b1,b2,w,A,B,D,E,F⟩,h=>by
  simp only[Al,oq,cK,e9]at h;obtain⟨⟨⟨⟨⟨⟨⟨h1,f⟩,j⟩,o⟩,bj⟩,p⟩,q⟩,t⟩:=h;rw[h1,f,j,o,bj,Kn c p,Kn e q,OE t]
theorem Kn:∀(a:List aa) {b:List aa},t' a b=true->a=b
 |[],[],_=>rfl
 |[],_::_,h=>by simp[t']at h
 |_::_,[],h=>by simp[t']at h
 |x::l,y::m,h=>by
  simp only[t',cK]at h;rw[J7 x h.1,Kn l h.2]
end
theorem OF:∀{a b:List aU},wh a b=true->a=b
 |[],[],_=>rfl
 |[],_::_,h=>by simp[wh]at h
 |_::_,[],h=>by simp[wh]at h
 |x::l,y::m,h=>by
  simp only[wh,oq,cK,e9]at h;obtain⟨⟨⟨⟨⟨⟨h1,k⟩,n⟩,o⟩,bj⟩,c⟩,d⟩:=h;have c:=J7 _ c;obtain⟨a1,a2,a3,a4,a5,e⟩:=x;obtain⟨b1,b2,f,g,i,j⟩:=y;rw[OF d];simp_all
theorem OG:∀{a b:List dO},xl a b=true->a=b
 |[],[],_=>rfl
 |[],_::_,h=>by simp[xl]at h
 |_::_,[],h=>by simp[xl]at h
 |x::l,y::m,h=>by
  simp only[xl,oq,cK,e9]at h;obtain⟨⟨h1,f⟩,e⟩:=h;obtain⟨a,b⟩:=x;obtain⟨c,d⟩:=y;rw[OG e];simp_all
theorem OH:∀{a b:List aj},wY a b=true->a=b
 |[],[],_=>rfl
 |[],_::_,h=>by simp[wY]at h
 |_::_,[],h=>by simp[wY]at h
 |x::l,y::m,h=>by
  simp only[wY,oq,cK,e9]at h;obtain⟨⟨⟨⟨⟨⟨⟨⟨⟨⟨h1,v⟩,w⟩,z⟩,bj⟩,c⟩,d⟩,A⟩,B⟩,u⟩,e⟩:=h;have c:=OG c;have d:=OF d;obtain⟨a1,a2,a3,a4,a5,g,i,j,a9,f⟩:=x;obtain⟨b1,b2,n,o,p,q,r,s,t,k⟩:=y;rw[OH e];simp_all
def mZ{α a:Type}(eq:α->α->Bool):List (α×a)->α->Option a
 |[],_=>none
 |p::r,h=>match eq p.1 h with
  |true=>some p.2
  |false=>mZ eq r h
theorem L8{α d:Type}{eq:α->α->Bool}(he:∀a b,eq a b=true->a=b){F:α->Option d}:∀{l:List (α×d)},(∀p,p∈l->F p.1=some p.2)->∀{h:α} {r:d},mZ eq l h=some r->F h=some r
 |[],_,h,r,c=>by cases c
 |p::l,ae,h,r,c=>by
  unfold mZ at c;split at c
  . rename_i e;cases c;rw[<-he _ _ e];exact ae p (by simp)
  . exact L8 he (λq f=>ae q (by simp[f])) c
theorem ym{e:dr}{F:aP bP.D e.ts->Option (aP bP.D e.us)}(bc:dP prog (e.s F)){eq:aP bP.D e.ts->aP bP.D e.ts->Bool}(he:∀a b,eq a b=true->a=b){l:List (aP bP.D e.ts×aP bP.D e.us)}(ae:∀p,p∈l->F p.1=some p.2):dP prog (e.s (mZ eq l)):=
 ⟨bc.1,λh r c=>bc.2 h r (L8 he ae c)⟩
def sk(a b:bq):Bool:=wY a.Types b.Types
theorem za(a b:bq)(h:sk a b=true):a=b:=by
 obtain⟨a⟩:=a;obtain⟨b⟩:=b;exact dd bq.mk (OH h)
def u1(a b:bq×Int×aa):Bool:=decide (a.2.1=b.2.1)&&(sk a.1 b.1&&Al a.2.2 b.2.2)
theorem Oh(a b:bq×Int×aa)(h:u1 a b=true):a=b:=by
 simp only[u1,cK,e9]at h;exact tM (za _ _ h.2.1) (tM h.1 (J7 _ h.2.2))
def Cj(a b:bq×Int):Bool:=decide (a.2=b.2)&&sk a.1 b.1
theorem ac1(a b:bq×Int)(h:Cj a b=true):a=b:=by
 simp only[Cj,cK,e9]at h;exact tM (za _ _ h.2) h.1
def Ci(a b:bq×Int×bq×Int):Bool:=decide (a.2.1=b.2.1)&&(decide (a.2.2.2=b.2.2.2)&&(sk a.1 b.1&&sk a.2.2.1 b.2.2.1))
theorem ac2(a b:bq×Int×bq×Int)(h:Ci a b=true):a=b:=by
 simp only[Ci,cK,e9]at h;exact tM (za _ _ h.2.2.1) (tM h.1 (tM (za _ _ h.2.2.2) h.2.1))
def gW(b:Bool):aU:=⟨1,[120],1,false,true,⟨1,b,0,[],0,[],[],[]⟩⟩
def w1:aU:=⟨1,[120],1,false,false,⟨0,false,0,[],0,[],[],[]⟩⟩
def fy(m:aU):bY:=⟨⟨[⟨5,[82],0,0,0,[],[m],0,0,false⟩,⟨1,[],0,0,0,[],[],0,0,false⟩]⟩,0⟩
def Ff:bY:=⟨⟨[⟨5,[82],0,0,0,[],[],0,0,false⟩]⟩,0⟩
def w2:jv:=⟨false,[],[]⟩
def w3:jv:=⟨true,[⟨0,0⟩,⟨1,1⟩],[]⟩
abbrev c'(b:Bool):bq:=(fy (gW b)).eX
abbrev e0:bq:=(fy w1).eX
def iR(b:Bool):aa:=⟨1,b,0,[],0,[],[],[]⟩
def iS(b:Bool):aa:=⟨5,false,0,[],0,[],[⟨1,b,0,[],0,[],[],[]⟩],[]⟩
theorem Ri(b:Bool):jU [b]=some (fy (gW b)):=rfl
theorem Rj:jU []=some (fy w1):=rfl
def ag6:List dr:=[Fb,B3,Bc,By,B1,uX,se,BA,Bz,Bb,Bu,Bv,A9,Bw,A',Bx,Ba,AU,AV,BZ,Bp,A3,Be,Bd,AZ,A4,A8,A7,Ch,uU,wk,wm,uS,BV,BI,Bq,A6,Cf,BJ,Bs]
def ag7:List dr:=[Br,A5,oT,B9,BM,BG,BN,BH,Bn,B',BP,A2,uZ,Ca,Cb,A0,B0,A1,Bl,qb,qc,uY,sf,Bm,Cg,BX,Ce,BD,BE,BS,BT,Bt,BU,Cd,BW,BY,uV,uW,nB,nA]
def ag8:List dr:=[uO,uP,uQ,si,BK,Cc,BQ,BR,Bo,ja,Gc,FY,F5,F7,F6,F4,F3,FZ,F0,oS,FT,lq,F2,FV,F1,FU,Gd,F8,F9,sb,Gf,FW,Ge,F',B2,J6,B4,B5,B6,B7]
def ag9:List dr:=[FX,B8,AW,AX,AY,mM,BL,BB,Bf,uK,BC,Bg,uL,uM,Bh,Bj,Bi,qa,uN,sg,BF,qe,Ga,uT,iv]
def j7:List dr:=ag6++ag7++ag8++ag9
theorem OI:j7.all (pQ prog)=true:=by kernel_rfl
def ag':List dr:=[Fb,B3,Bc,By,B1,uX,se,BA,Bz,Bb,Bu,Bv,A9,Bw,A',Bx,Ba,AU,AV,BZ,Bp,A3,Be,Bd,AZ,A4,A8,A7,Ch,uU,wk,wm,uS,BV,BI,Bq,A6,Cf,BJ,Bs]
def aha:List dr:=[Br,A5,oT,B9,BM,BG,BN,BH,Bn,B',BP,A2,uZ,Ca,Cb,A0,B0,A1,Bl,qb,qc,uY,sf,Bm,Cg,BX,Ce,BD,BE,BS,BT,Bt,BU,Cd,BW,BY,uV,uW,nB,nA]
def ahb:List dr:=[uO,uP,uQ,si,BK,Cc,BQ,BR,Bo,ja,Gc,FY,F5,F7,F6,F4,F3,FZ,F0,FT,F2,FV,F1,FU,Gd,F8,F9,sb,Gf,FW,Ge,F',B2,J6,B4,B5,B6,B7,FX,B8]
def ahc:List dr:=[AW,AX,AY,mM,BL,BB,Bf,uK,BC,Bg,uL,uM,Bh,Bj,Bi,qa,uN,sg,BF,qe,Ga,uT,iv]
def Rh:List dr:=ag'++aha++ahb++ahc
theorem adz:Rh.all (pQ prog)=true:=by kernel_rfl
noncomputable abbrev jq:List (ca bP):=[x3,x2,kT,kV,k0,lP,lb,lQ]
theorem AL:hr prog jq:=(.k Hm (.k Hl (.k kU (.k kZ (.k lZ (.k nN (.k mC (.k nO .n))))))))
theorem af4:ed prog gz jq 3000 p' (c' true)=some (0:Int):=by kernel_rfl
theorem af5:ed prog gz jq 3000 p' (c' false)=some (0:Int):=by kernel_rfl
theorem af6:ed prog gz jq 3000 p' e0=some (0:Int):=by kernel_rfl
noncomputable def QH:ca bP:=p'.s (mZ sk [((c' true),(0:Int)),((c' false),(0:Int)),(e0,(0:Int))])
theorem af7:dP prog QH:=ym (e:=p') (F:=ed prog gz jq 3000 p') (.run lX AL (.m (by kernel_rfl)) 3000 λ_=>rfl) (eq:=sk) za (l:=[((c' true),(0:Int)),((c' false),(0:Int)),(e0,(0:Int))]) (by
 intro p ai;simp only[dK,zz,tN]at ai;rcases ai with rfl|rfl|rfl
 . exact af4
 . exact af5
 . exact af6)
theorem afG:ed prog gz jq 3000 e8 (c' true,(0:Int),iS true)=some (([]:ar),(0:Int)):=by kernel_rfl
theorem afH:ed prog gz jq 3000 e8 (c' true,(1:Int),iR false)=some (([]:ar),(0:Int)):=by kernel_rfl
theorem afI:ed prog gz jq 3000 e8 (e0,(0:Int),iS false)=some (([2,0]:ar),(0:Int)):=by kernel_rfl
theorem afJ:ed prog gz jq 3000 e8 (e0,(1:Int),iR false)=some (([]:ar),(0:Int)):=by kernel_rfl
noncomputable def QD:ca bP:=e8.s (mZ u1 [((c' true,(0:Int),iS true),(([]:ar),(0:Int))),((c' true,(1:Int),iR false),(([]:ar),(0:Int))),((e0,(0:Int),iS false),(([2,0]:ar),(0:Int))),((e0,(1:Int),iR false),(([]:ar),(0:Int)))])
theorem afK:dP prog QD:=ym (e:=e8) (F:=ed prog gz jq 3000 e8) (.run lX AL (.m (by kernel_rfl)) 3000 λ_=>rfl) (eq:=u1) Oh (l:=[((c' true,(0:Int),iS true),(([]:ar),(0:Int))),((c' true,(1:Int),iR false),(([]:ar),(0:Int))),((e0,(0:Int),iS false),(([2,0]:ar),(0:Int))),((e0,(1:Int),iR false),(([]:ar),(0:Int)))]) (by
 intro p ai;simp only[dK,zz,tN]at ai;rcases ai with rfl|rfl|rfl|rfl
 . exact afG
 . exact afH
 . exact afI
 . exact afJ)
theorem afZ:ed prog gz jq 3000 qd (c' true,(0:Int),iS true)=some ((0:Int),(0:Int)):=by kernel_rfl
theorem af0:ed prog gz jq 3000 qd (c' true,(1:Int),iR false)=some ((0:Int),(0:Int)):=by kernel_rfl
theorem af1:ed prog gz jq 3000 qd (e0,(0:Int),iS false)=some ((2:Int),(0:Int)):=by kernel_rfl
theorem af2:ed prog gz jq 3000 qd (e0,(1:Int),iR false)=some ((0:Int),(0:Int)):=by kernel_rfl
noncomputable def QG:ca bP:=qd.s (mZ u1 [((c' true,(0:Int),iS true),((0:Int),(0:Int))),((c' true,(1:Int),iR false),((0:Int),(0:Int))),((e0,(0:Int),iS false),((2:Int),(0:Int))),((e0,(1:Int),iR false),((0:Int),(0:Int)))])
theorem af3:dP prog QG:=ym (e:=qd) (F:=ed prog gz jq 3000 qd) (.run lX AL (.m (by kernel_rfl)) 3000 λ_=>rfl) (eq:=u1) Oh (l:=[((c' true,(0:Int),iS true),((0:Int),(0:Int))),((c' true,(1:Int),iR false),((0:Int),(0:Int))),((e0,(0:Int),iS false),((2:Int),(0:Int))),((e0,(1:Int),iR false),((0:Int),(0:Int)))]) (by
 intro p ai;simp only[dK,zz,tN]at ai;rcases ai with rfl|rfl|rfl|rfl
 . exact afZ
 . exact af0
 . exact af1
 . exact af2)
noncomputable abbrev jr:List (ca bP):=QH::QD::QG::jq
theorem FI:hr prog jr:= .k af7 (.k afK (.k af3 AL))
theorem afL:ed prog j7 jr 3000 oS (c' true,(0:Int))=some (iS true,(0:Int)):=by kernel_rfl
theorem afM:ed prog j7 jr 3000 oS (c' true,(1:Int))=some (iR false,(0:Int)):=by kernel_rfl
theorem afN:ed prog j7 jr 3000 oS (e0,(0:Int))=some (iS false,(0:Int)):=by kernel_rfl
theorem afO:ed prog j7 jr 3000 oS (e0,(1:Int))=some (iR false,(0:Int)):=by kernel_rfl
noncomputable def QE:ca bP:=oS.s (mZ Cj [((c' true,(0:Int)),(iS true,(0:Int))),((c' true,(1:Int)),(iR false,(0:Int))),((e0,(0:Int)),(iS false,(0:Int))),((e0,(1:Int)),(iR false,(0:Int)))])
theorem afP:dP prog QE:=ym (e:=oS) (F:=ed prog j7 jr 3000 oS) (.run OI FI (.m (by kernel_rfl)) 3000 λ_=>rfl) (eq:=Cj) ac1 (l:=[((c' true,(0:Int)),(iS true,(0:Int))),((c' true,(1:Int)),(iR false,(0:Int))),((e0,(0:Int)),(iS false,(0:Int))),((e0,(1:Int)),(iR false,(0:Int)))]) (by
 intro p ai;simp only[dK,zz,tN]at ai;rcases ai with rfl|rfl|rfl|rfl
 . exact afL
 . exact afM
 . exact afN
 . exact afO)
theorem afQ:ed prog j7 jr 3000 lq ((c' true),(0:Int),(c' false),(0:Int))=some ((10:Int),(0:Int)):=by kernel_rfl
theorem afR:ed prog j7 jr 3000 lq ((c' true),(0:Int),(c' false),(1:Int))=some ((9:Int),(0:Int)):=by kernel_rfl
theorem afS:ed prog j7 jr 3000 lq ((c' true),(1:Int),(c' false),(0:Int))=some ((9:Int),(0:Int)):=by kernel_rfl
theorem afT:ed prog j7 jr 3000 lq ((c' true),(1:Int),(c' false),(1:Int))=some ((0:Int),(0:Int)):=by kernel_rfl
theorem afU:ed prog j7 jr 3000 lq (e0,(0:Int),(c' true),(0:Int))=some ((0:Int),(0:Int)):=by kernel_rfl
theorem afV:ed prog j7 jr 3000 lq (e0,(0:Int),(c' true),(1:Int))=some ((9:Int),(0:Int)):=by kernel_rfl
theorem afW:ed prog j7 jr 3000 lq (e0,(1:Int),(c' true),(0:Int))=some ((9:Int),(0:Int)):=by kernel_rfl
theorem afX:ed prog j7 jr 3000 lq (e0,(1:Int),(c' true),(1:Int))=some ((0:Int),(0:Int)):=by kernel_rfl
noncomputable def QF:ca bP:=lq.s (mZ Ci [(((c' true),(0:Int),(c' false),(0:Int)),((10:Int),(0:Int))),(((c' true),(0:Int),(c' false),(1:Int)),((9:Int),(0:Int))),(((c' true),(1:Int),(c' false),(0:Int)),((9:Int),(0:Int))),(((c' true),(1:Int),(c' false),(1:Int)),((0:Int),(0:Int))),((e0,(0:Int),(c' true),(0:Int)),((0:Int),(0:Int))),((e0,(0:Int),(c' true),(1:Int)),((9:Int),(0:Int))),((e0,(1:Int),(c' true),(0:Int)),((9:Int),(0:Int))),((e0,(1:Int),(c' true),(1:Int)),((0:Int),(0:Int)))])
theorem afY:dP prog QF:=ym (e:=lq) (F:=ed prog j7 jr 3000 lq) (.run OI FI (.m (by kernel_rfl)) 3000 λ_=>rfl) (eq:=Ci) ac2 (l:=[(((c' true),(0:Int),(c' false),(0:Int)),((10:Int),(0:Int))),(((c' true),(0:Int),(c' false),(1:Int)),((9:Int),(0:Int))),(((c' true),(1:Int),(c' false),(0:Int)),((9:Int),(0:Int))),(((c' true),(1:Int),(c' false),(1:Int)),((0:Int),(0:Int))),((e0,(0:Int),(c' true),(0:Int)),((0:Int),(0:Int))),((e0,(0:Int),(c' true),(1:Int)),((9:Int),(0:Int))),((e0,(1:Int),(c' true),(0:Int)),((9:Int),(0:Int))),((e0,(1:Int),(c' true),(1:Int)),((0:Int),(0:Int)))]) (by
 intro p ai;simp only[dK,zz,tN]at ai;rcases ai with rfl|rfl|rfl|rfl|rfl|rfl|rfl|rfl
 . exact afQ
 . exact afR
 . exact afS
 . exact afT
 . exact afU
 . exact afV
 . exact afW
 . exact afX)
noncomputable abbrev PH:List (ca bP):=QE::QF::jr
theorem aej:hr prog PH:= .k afP (.k afY FI)
noncomputable def HD:bY×bY->Option (jv×Int):=ed prog Rh PH 3000 sb
theorem agX:bm sb HD:= .run adz aej (.m (by kernel_rfl)) 3000 λ_=>rfl
theorem ahg:HD (fy (gW true),fy (gW false))=some (w2,0):=by kernel_rfl
theorem ahh:HD (fy w1,fy (gW true))=some (w3,0):=by kernel_rfl
theorem ahd:qv (Ff,fy (gW false))=some (true,0):=by kernel_rfl
theorem ahe:qv (fy (gW true),Ff)=some (true,0):=by kernel_rfl
theorem ahf:qv (fy (gW true),fy (gW false))=some (false,0):=by kernel_rfl
theorem ahi:vm (fy (gW true),fy (gW false),w2)=some true:=by kernel_rfl
theorem ahj:vm (fy w1,fy (gW true),w3)=some true:=by kernel_rfl
theorem ac3{ml:bY×bY->Option (jv×Int)}{b:bY×bY×jv->Option Bool}(c:a (Ff,fy (gW false))=some (true,0))(d:a (fy (gW true),Ff)=some (true,0))(e:a (fy (gW true),fy (gW false))=some (false,0))
 (d1:ml (fy (gW true),fy (gW false))=some (w2,0))(d2:ml (fy w1,fy (gW true))=some (w3,0))(k1:b (fy (gW true),fy (gW false),w2)=some true)(k2:b (fy w1,fy (gW true),w3)=some true):Hn ml b a=some true:=by
 have aC:a ((⟨(⟨[(⟨5,[82],0,0,0,[],[],0,0,false⟩:aj)]⟩:bq),0⟩:bY),fy (gW false))=some (true,0):=c;have f:a (fy (gW true),(⟨(⟨[(⟨5,[82],0,0,0,[],[],0,0,false⟩:aj)]⟩:bq),0⟩:bY))=some (true,0):=d;unfold Hn;simp only[Ri,Rj,bg,ay,aC,f,e,d1,d2];simp[w2,w3,Ri,Rj];simp only[w2,w3]at k1 k2;simp[k1,k2]
def C1(_:Unit):Option Bool:=some true
theorem UY:bm iv C1:=by
 have:=Vi agX VX Vw;rw[ac3 ahd ahe ahf ahg ahh ahi ahj]at this;exact this
theorem R4:C1 ()=some true:=rfl
def q8:en×Int->Option Int
 |(d,i)=>
 if aQ i d.eE.length then some (aT .i64 1 (b7 .i64 (cd (d.eE.getD i.toNat bp).Kind 9)))else none
theorem x4:bm aeK q8:= .bC
def G8(a:Int):Option Bool:=
 some (bif bif decide (a=4)then true else decide (a=5)then true else decide (a=6))
theorem UZ:bm aeL G8:= .bC
def o9(a:dk):Option Int:=
 some (dY .i64 (b7 .i64 (cd a.A 7)) 3)
theorem G9:bm aeM o9:= .bC
def tn(a:dk):Option Int:=
 o9 a>>=λr=>some (aT .i64 r (b7 .i64 (cd a.B 6)))
theorem Sb:bm aeN tn:= .bC (.k G9 .n)
def o5:Int×dk×au->Option au
 |(i,b,a)=>
 if (i<6:Bool) then if (0<=i:Bool) then if (cd (lC .u8 b.A i) 2=1:Bool) then some [aT .i64 i 1]>>=λt18=>if room 8 (a++t18).length then o5 (aT .i64 i 1,b,a++t18)else none else o5 (aT .i64 i 1,b,a)else none else some a
  partial_fixpoint
theorem Vj:c5 31 0 [0] PZ o5:= .rx o5.partial_correctness
def nL(a:dk):Option au:=
 o5 (0,a,[])>>=λo=>if ((o.length:Int)=0:Bool) then some [1]>>=λt24=>if room 8 (o++t24).length then some (o++t24)else none else some o
theorem RD:bm aeO nL:= .bC .n (.k Vj .n)
def x5(a:Int):Option Bool:=
 some (decide (7<=a))
theorem R8:bm aew x5:= .bC
def nF:Int×Int×List dk->Option ((Int) ⊕ (Unit))
 |(n,k,b)=>
 if (k<n:Bool) then q8 ((⟨b⟩:en),k)>>=λa=>x5 a>>=λc=>if c then some (.inl k)else nF (n,aT .i64 k 1,b)else some (.inr ())
  partial_fixpoint
theorem Vx:c5 67 0 [0] Qc nF:= .rx nF.partial_correctness (.k x4 (.k R8 .n))
def x6(c:en×Int×Int):Option Int:=
 match c with
 |(d,i,code)=>
 some (d.eE.length:Int)>>=λt12=>if !(t12=0:Bool) then some (cd (b7 .i64 code) t12)>>=λt16=>q8 (d,t16)>>=λr=>x5 r>>=λb=>if(bif b then true else (t16<i:Bool)) then some t16 else if (0<i:Bool) then if !(i=0:Bool) then some (cd t16 i)else none else nF (t12,0,d.eE)>>=λo=>match o with
 |.inl a=>
 some a
 |.inr e=>
 some (-1)else none
theorem Vk:bm ae0 x6:= .bC (.k x4 (.k R8 .n)) (.k Vx .n)
def Hj(a:Int):Option Bool:=
 some (bif decide (1<=a)then decide (a<=4)else false)
theorem U3:bm ae2 Hj:= .bC
def nJ:Int×Int×Int×List dk->Option ((Int) ⊕ (Unit))
 |(a,n,k,b)=>
 if (k<n:Bool) then if !(n=0:Bool) then some (cd (aT .i64 (b7 .i64 a) k) n)>>=λt21=>q8 ((⟨b⟩:en),t21)>>=λr=>Hj r>>=λc=>if c then some (.inl t21)else nJ (a,n,aT .i64 k 1,b)else none else some (.inr ())
  partial_fixpoint
theorem Vl:c5 33 0 [0] P1 nJ:= .rx nJ.partial_correctness (.k x4 (.k U3 .n))
def sE(b:en×Int):Option Int:=
 match b with
 |(d,code)=>
 nJ (code,(d.eE.length:Int),0,d.eE)>>=λo=>match o with
 |.inl a=>
 some a
 |.inr c=>
 some (-1)
theorem RE:bm aeQ sE:= .bC .n (.k Vl .n)
def yw:en×Int×Int->Option (aa×Bool)
 |(d,t,code)=>
 if aQ t d.eE.length then some (d.eE.getD t.toNat bp)>>=λa=>q8 (d,t)>>=λr=>some (decide (r=8))>>=λt21=>(if t21 then sE (d,0)else some 0)>>=λc=>if(bif t21 then (c<0:Bool)else false) then some ((⟨7,false,0,[],0,[],[],[]⟩:aa),true)else if (r=1:Bool) then some ((⟨r,decide (cd code 2=1),0,[],0,[],[],[]⟩:aa),true)else if (r=2:Bool) then o9 a>>=λe=>tn a>>=λf=>o9 a>>=λg=>some (aT .i64 (dY .i64 f g) 1)>>=λt47=>if !(t47=0:Bool) then some ((⟨r,false,aT .i64 e (cd (b7 .i64 code) t47),[],0,[],[],[]⟩:aa),true)else none else if (r=3:Bool) then if(bif (0<cd a.A 4:Bool)then (cd code 2=1:Bool)else false) then some ((⟨r,false,0,[97],0,[],[],[]⟩:aa),true)else some ((⟨r,false,0,[],0,[],[],[]⟩:aa),true)else if (r=4:Bool) then nL a>>=λb=>nL a>>=λi=>some (i.length:Int)>>=λt71=>if !(t71=0:Bool) then some (cd (b7 .i64 code) t71)>>=λt72=>if aQ t72 b.length then some ((⟨r,false,0,[],b.getD t72.toNat 0,[],[],[]⟩:aa),true)else none else none else some (decide (r=5))>>=λt77=>if t77 then if t77 then some ((⟨0,false,0,[],0,[],[],[]⟩:aa),false)else some ((⟨r,false,0,[],0,[],[],[]⟩:aa),true)else if (r=6:Bool) then some ((⟨0,false,0,[],0,[],[],[]⟩:aa),false)else some ((⟨r,false,0,[],0,[],[],[]⟩:aa),true)else none
theorem U4:bm ae1 yw:= .bC (.k x4 (.k RE (.k G9 (.k Sb (.k RD .n)))))
def qt:Int×Bool×Int×Int×List dk×dk×List aU->Option (Int×Bool×Int×List dk×dk×List aU)
 |(f,e,a,k,c,d,b)=>
 if (k<(d.cY.length:Int):Bool) then if aQ k d.cY.length then some (d.cY.getD k.toNat iL)>>=λg=>x6 ((⟨c⟩:en),f,g.aB)>>=λr=>if(bif (!(aT .i64 1 (b7 .i64 (cd g.ah 12))=a:Bool))then true else (r<0:Bool)) then qt (f,e,a,aT .i64 k 1,c,d,b)else some (mT (b7 .i32 (aT .i64 97 a)))>>=λt55=>if ([109].length+t55.length<=ft:Bool) then some ([109]++t55)>>=λt56=>if(bif e then (cd g.g' 4=1:Bool)else false) then if(bif e then (2<=cd g.g' 4:Bool)else false) then yw ((⟨c⟩:en),r,iC .u8 g.g' 4)>>=λi=>some [(⟨a,t56,r,true,i.2,aa.eta i.1⟩:aU)]>>=λt87=>if room 160 (b++t87).length then some (f,e,a,c,d,b++t87)else none else some [(⟨a,t56,r,true,false,(⟨0,false,0,[],0,[],[],[]⟩:aa)⟩:aU)]>>=λl=>if room 160 (b++l).length then some (f,e,a,c,d,b++l)else none else if(bif e then (2<=cd g.g' 4:Bool)else false) then yw ((⟨c⟩:en),r,iC .u8 g.g' 4)>>=λj=>some [(⟨a,t56,r,false,j.2,aa.eta j.1⟩:aU)]>>=λm=>if room 160 (b++m).length then some (f,e,a,c,d,b++m)else none else some [(⟨a,t56,r,false,false,(⟨0,false,0,[],0,[],[],[]⟩:aa)⟩:aU)]>>=λn=>if room 160 (b++n).length then some (f,e,a,c,d,b++n)else none else none else none else some (f,e,a,c,d,b)
  partial_fixpoint
theorem Vq:c5 32 0 [0,0] Od qt:= .rx qt.partial_correctness (.k Vk (.k U4 .n))
def qx:Int×Bool×Int×List dk×dk×List aU->Option (List aU)
 |(e,f,id,c,d,b)=>
 if (id<=12:Bool) then qt (e,f,id,0,c,d,b)>>=λa=>qx (a.1,a.2.1,aT .i64 a.2.2.1 1,a.2.2.2.1,a.2.2.2.2.1,a.2.2.2.2.2)else some b
  partial_fixpoint
theorem U1:c5 32 0 [0] P0 qx:= .rx qx.partial_correctness .n (.k Vq .n)
def td:en×Int×Bool->Option (List aU)
 |(d,i,a)=>
 if aQ i d.eE.length then qx (i,a,1,d.eE,d.eE.getD i.toNat bp,[])>>=λo=>some o else none
theorem U0:bm aeP td:= .bC .n (.k U1 .n)
def o3:Int×Int×au×Int×List dk×Int×ar×Int×Int×Int×Int×Int×Bool×List aj×List dO->Option (Int×Int×List dk×Int×ar×Int×Int×Int×Int×Int×Bool×List aj×List dO)
 |(p,o,a,k,c,d,e,f,g,i,j,l,m,n,b)=>
 if (k<(a.length:Int):Bool) then if aQ k a.length then if aQ k a.length then some (mT (b7 .i32 (aT .i64 97 (a.getD k.toNat 0))))>>=λt87=>if ([115].length+t87.length<=ft:Bool) then some [(⟨a.getD k.toNat 0,[115]++t87⟩:dO)]>>=λt90=>if room 24 (b++t90).length then o3 (p,o,a,aT .i64 k 1,c,d,e,f,g,i,j,l,m,n,b++t90)else none else none else none else none else some (p,o,c,d,e,f,g,i,j,l,m,n,b)
  partial_fixpoint
theorem U5:c5 13 0 [0,0] Oe o3:= .rx o3.partial_correctness
def fD:Int×Int×List dk×List aj->Option (List aj)
 |(n,i,b,a)=>
 if (i<n:Bool) then if aQ i b.length then some (b.getD i.toNat bp)>>=λc=>q8 ((⟨b⟩:en),i)>>=λr=>G8 r>>=λN=>if N then some (mT (b7 .i32 (aT .i64 65 i)))>>=λt41=>if (r=2:Bool) then o9 c>>=λQ=>tn c>>=λR=>some [(⟨r,t41,Q,R,0,[],[],0,0,false⟩:aj)]>>=λt167=>if room 120 (a++t167).length then fD (n,aT .i64 i 1,b,a++t167)else none else if (r=3:Bool) then some [(⟨r,t41,0,0,b7 .i64 (cd c.A 4),[],[],0,0,false⟩:aj)]>>=λo=>if room 120 (a++o).length then fD (n,aT .i64 i 1,b,a++o)else none else if (r=4:Bool) then nL c>>=λS=>o3 (n,i,S,0,b,r,t41,0,0,0,0,0,decide (cd c.B 2=1),a,[])>>=λd=>some [(⟨d.2.2.2.1,d.2.2.2.2.1,d.2.2.2.2.2.1,d.2.2.2.2.2.2.1,d.2.2.2.2.2.2.2.1,d.2.2.2.2.2.2.2.2.2.2.2.2,[],d.2.2.2.2.2.2.2.2.1,d.2.2.2.2.2.2.2.2.2.1,d.2.2.2.2.2.2.2.2.2.2.1⟩:aj)]>>=λD=>if room 120 (d.2.2.2.2.2.2.2.2.2.2.2.1++D).length then fD (d.1,aT .i64 d.2.1 1,d.2.2.1,d.2.2.2.2.2.2.2.2.2.2.2.1++D)else none else if (r=5:Bool) then td ((⟨b⟩:en),i,true)>>=λT=>some [(⟨r,t41,0,0,0,[],T,0,0,false⟩:aj)]>>=λG=>if room 120 (a++G).length then fD (n,aT .i64 i 1,b,a++G)else none else if (r=6:Bool) then td ((⟨b⟩:en),i,false)>>=λj=>if ((j.length:Int)=0:Bool) then some [(⟨5,t41,0,0,0,[],[],0,0,false⟩:aj)]>>=λH=>if room 120 (a++H).length then fD (n,aT .i64 i 1,b,a++H)else none else some [(⟨r,t41,0,0,0,[],j,0,0,decide (cd c.B 2=1)⟩:aj)]>>=λI=>if room 120 (a++I).length then fD (n,aT .i64 i 1,b,a++I)else none else if (r=7:Bool) then if !(n=0:Bool) then some [(⟨r,t41,0,0,b7 .i64 (cd c.A 4),[],[],0,cd (b7 .i64 c.C) n,false⟩:aj)]>>=λJ=>if room 120 (a++J).length then fD (n,aT .i64 i 1,b,a++J)else none else none else if (r=8:Bool) then some (b7 .i64 (cd c.A 4))>>=λt135=>sE ((⟨b⟩:en),c.B)>>=λk=>if !(n=0:Bool) then some (cd (b7 .i64 c.C) n)>>=λt144=>if (k<0:Bool) then some [(⟨7,[],0,0,t135,[],[],0,t144,false⟩:aj)]>>=λK=>if room 120 (a++K).length then fD (n,aT .i64 i 1,b,a++K)else none else some [(⟨r,t41,0,0,t135,[],[],k,t144,false⟩:aj)]>>=λL=>if room 120 (a++L).length then fD (n,aT .i64 i 1,b,a++L)else none else none else if (r=9:Bool) then if !(n=0:Bool) then some [(⟨r,t41,0,0,0,[],[],0,cd (b7 .i64 c.C) n,false⟩:aj)]>>=λM=>if room 120 (a++M).length then fD (n,aT .i64 i 1,b,a++M)else none else none else some [(⟨r,t41,0,0,0,[],[],0,0,false⟩:aj)]>>=λp=>if room 120 (a++p).length then fD (n,aT .i64 i 1,b,a++p)else none else if (r=2:Bool) then o9 c>>=λU=>tn c>>=λV=>some [(⟨r,[],U,V,0,[],[],0,0,false⟩:aj)]>>=λq=>if room 120 (a++q).length then fD (n,aT .i64 i 1,b,a++q)else none else if (r=3:Bool) then some [(⟨r,[],0,0,b7 .i64 (cd c.A 4),[],[],0,0,false⟩:aj)]>>=λs=>if room 120 (a++s).length then fD (n,aT .i64 i 1,b,a++s)else none else if (r=4:Bool) then nL c>>=λO=>o3 (n,i,O,0,b,r,[],0,0,0,0,0,decide (cd c.B 2=1),a,[])>>=λe=>some [(⟨e.2.2.2.1,e.2.2.2.2.1,e.2.2.2.2.2.1,e.2.2.2.2.2.2.1,e.2.2.2.2.2.2.2.1,e.2.2.2.2.2.2.2.2.2.2.2.2,[],e.2.2.2.2.2.2.2.2.1,e.2.2.2.2.2.2.2.2.2.1,e.2.2.2.2.2.2.2.2.2.2.1⟩:aj)]>>=λt=>if room 120 (e.2.2.2.2.2.2.2.2.2.2.2.1++t).length then fD (e.1,aT .i64 e.2.1 1,e.2.2.1,e.2.2.2.2.2.2.2.2.2.2.2.1++t)
 else none else if (r=5:Bool) then td ((⟨b⟩:en),i,true)>>=λP=>some [(⟨r,[],0,0,0,[],P,0,0,false⟩:aj)]>>=λu=>if room 120 (a++u).length then fD (n,aT .i64 i 1,b,a++u)else none else if (r=6:Bool) then td ((⟨b⟩:en),i,false)>>=λf=>if ((f.length:Int)=0:Bool) then some [(⟨5,[],0,0,0,[],[],0,0,false⟩:aj)]>>=λv=>if room 120 (a++v).length then fD (n,aT .i64 i 1,b,a++v)else none else some [(⟨r,[],0,0,0,[],f,0,0,decide (cd c.B 2=1)⟩:aj)]>>=λw=>if room 120 (a++w).length then fD (n,aT .i64 i 1,b,a++w)else none else if (r=7:Bool) then if !(n=0:Bool) then some [(⟨r,[],0,0,b7 .i64 (cd c.A 4),[],[],0,cd (b7 .i64 c.C) n,false⟩:aj)]>>=λx=>if room 120 (a++x).length then fD (n,aT .i64 i 1,b,a++x)else none else none else if (r=8:Bool) then some (b7 .i64 (cd c.A 4))>>=λl=>sE ((⟨b⟩:en),c.B)>>=λg=>if !(n=0:Bool) then some (cd (b7 .i64 c.C) n)>>=λm=>if (g<0:Bool) then some [(⟨7,[],0,0,l,[],[],0,m,false⟩:aj)]>>=λy=>if room 120 (a++y).length then fD (n,aT .i64 i 1,b,a++y)else none else some [(⟨r,[],0,0,l,[],[],g,m,false⟩:aj)]>>=λz=>if room 120 (a++z).length then fD (n,aT .i64 i 1,b,a++z)else none else none else if (r=9:Bool) then if !(n=0:Bool) then some [(⟨r,[],0,0,0,[],[],0,cd (b7 .i64 c.C) n,false⟩:aj)]>>=λE=>if room 120 (a++E).length then fD (n,aT .i64 i 1,b,a++E)else none else none else some [(⟨r,[],0,0,0,[],[],0,0,false⟩:aj)]>>=λF=>if room 120 (a++F).length then fD (n,aT .i64 i 1,b,a++F)else none else none else some a
  partial_fixpoint
theorem Wa:c5 13 0 [0] PV fD:= .rx fD.partial_correctness (.k x4 (.k UZ (.k G9 (.k Sb (.k RD (.k U0 (.k RE .n))))))) (.k U5 .n)
def ra(d:en):Option (bq×Bool):=
 some (d.eE.length:Int)>>=λt13=>if(bif (t13<1:Bool)then true else (5<t13:Bool)) then some ((⟨[]⟩:bq),false)else fD (t13,0,d.eE,[])>>=λo=>some ((⟨o⟩:bq),true)
theorem VL:bm aex ra:= .bC .n (.k Wa .n)
def hy:List la×Int×List dk->Option (List dk)
 |(d,i,a)=>
 if(bif (i<(d.length:Int):Bool)then (0<(a.length:Int):Bool)else false) then if aQ i d.length then some (d.getD i.toNat nI)>>=λe=>some (a.length:Int)>>=λt38=>if !(t38=0:Bool) then some (cd (b7 .i64 e.Node) t38)>>=λt39=>if aQ t39 a.length then if (t39.toNat<a.length:Bool) then some (a.getD t39.toNat bp).cY>>=λt46=>if room 3 ([]++t46).length then some ([]++t46)>>=λb=>if (t39.toNat<a.length:Bool) then if (t39.toNat=t39.toNat:Bool) then
 let n:=λc=>
 some (cd e.Kind 8)>>=λf=>if (f=0:Bool) then if (t39.toNat<a.length:Bool) then some (dY .u8 (aT .u8 (a.getD t39.toNat bp).A (cd e.A 5)) 2)>>=λj=>if (t39.toNat<a.length:Bool) then hy (d,aT .i64 i 1,(a.set t39.toNat (⟨(a.getD t39.toNat bp).Kind,j,(a.getD t39.toNat bp).B,(a.getD t39.toNat bp).C,(a.getD t39.toNat bp).cY⟩:dk)).set t39.toNat (⟨((a.set t39.toNat (⟨(a.getD t39.toNat bp).Kind,j,(a.getD t39.toNat bp).B,(a.getD t39.toNat bp).C,(a.getD t39.toNat bp).cY⟩:dk)).getD t39.toNat bp).Kind,((a.set t39.toNat (⟨(a.getD t39.toNat bp).Kind,j,(a.getD t39.toNat bp).B,(a.getD t39.toNat bp).C,(a.getD t39.toNat bp).cY⟩:dk)).getD t39.toNat bp).A,((a.set t39.toNat (⟨(a.getD t39.toNat bp).Kind,j,(a.getD t39.toNat bp).B,(a.getD t39.toNat bp).C,(a.getD t39.toNat bp).cY⟩:dk)).getD t39.toNat bp).B,((a.set t39.toNat (⟨(a.getD t39.toNat bp).Kind,j,(a.getD t39.toNat bp).B,(a.getD t39.toNat bp).C,(a.getD t39.toNat bp).cY⟩:dk)).getD t39.toNat bp).C,b⟩:dk))else none else none else if (f=1:Bool) then if (t39.toNat<a.length:Bool) then some (dY .u8 (aT .u8 (a.getD t39.toNat bp).B (cd e.B 5)) 2)>>=λk=>if (t39.toNat<a.length:Bool) then hy (d,aT .i64 i 1,(a.set t39.toNat (⟨(a.getD t39.toNat bp).Kind,(a.getD t39.toNat bp).A,k,(a.getD t39.toNat bp).C,(a.getD t39.toNat bp).cY⟩:dk)).set t39.toNat (⟨((a.set t39.toNat (⟨(a.getD t39.toNat bp).Kind,(a.getD t39.toNat bp).A,k,(a.getD t39.toNat bp).C,(a.getD t39.toNat bp).cY⟩:dk)).getD t39.toNat bp).Kind,((a.set t39.toNat (⟨(a.getD t39.toNat bp).Kind,(a.getD t39.toNat bp).A,k,(a.getD t39.toNat bp).C,(a.getD t39.toNat bp).cY⟩:dk)).getD t39.toNat bp).A,((a.set t39.toNat (⟨(a.getD t39.toNat bp).Kind,(a.getD t39.toNat bp).A,k,(a.getD t39.toNat bp).C,(a.getD t39.toNat bp).cY⟩:dk)).getD t39.toNat bp).B,((a.set t39.toNat (⟨(a.getD t39.toNat bp).Kind,(a.getD t39.toNat bp).A,k,(a.getD t39.toNat bp).C,(a.getD t39.toNat bp).cY⟩:dk)).getD t39.toNat bp).C,b⟩:dk))else none else none else if (f=2:Bool) then if (t39.toNat<a.length:Bool) then some (cd e.A 6)>>=λo=>if (0<=o:Bool) then some (ud .u8 (a.getD t39.toNat bp).A (ni .u8 1 o))>>=λl=>if (t39.toNat<a.length:Bool) then hy (d,aT .i64 i 1,(a.set t39.toNat (⟨(a.getD t39.toNat bp).Kind,l,(a.getD t39.toNat bp).B,(a.getD t39.toNat bp).C,(a.getD t39.toNat bp).cY⟩:dk)).set t39.toNat (⟨((a.set t39.toNat (⟨(a.getD t39.toNat bp).Kind,l,(a.getD t39.toNat bp).B,(a.getD t39.toNat bp).C,(a.getD t39.toNat bp).cY⟩:dk)).getD t39.toNat bp).Kind,((a.set t39.toNat (⟨(a.getD t39.toNat bp).Kind,l,(a.getD t39.toNat bp).B,(a.getD t39.toNat bp).C,(a.getD t39.toNat bp).cY⟩:dk)).getD t39.toNat bp).A,((a.set t39.toNat (⟨(a.getD t39.toNat bp).Kind,l,(a.getD t39.toNat bp).B,(a.getD t39.toNat bp).C,(a.getD t39.toNat bp).cY⟩:dk)).getD t39.toNat bp).B,((a.set t39.toNat (⟨(a.getD t39.toNat bp).Kind,l,(a.getD t39.toNat bp).B,(a.getD t39.toNat bp).C,(a.getD t39.toNat bp).cY⟩:dk)).getD t39.toNat bp).C,b⟩:dk))else none else none else none else if (f=3:Bool) then if (t39.toNat<a.length:Bool) then some (aT .u8 (a.getD t39.toNat bp).C e.A)>>=λm=>if (t39.toNat<a.length:Bool) then hy (d,aT .i64 i 1,(a.set t39.toNat (⟨(a.getD t39.toNat bp).Kind,(a.getD t39.toNat bp).A,(a.getD t39.toNat bp).B,m,(a.getD t39.toNat bp).cY⟩:dk)).set t39.toNat (⟨((a.set t39.toNat (⟨(a.getD t39.toNat bp).Kind,(a.getD t39.toNat bp).A,(a.getD t39.toNat bp).B,m,(a.getD t39.toNat bp).cY⟩:dk)).getD t39.toNat bp).Kind,((a.set t39.toNat (⟨(a.getD t39.toNat bp).Kind,(a.getD t39.toNat bp).A,(a.getD t39.toNat bp).B,m,(a.getD t39.toNat bp).cY⟩:dk)).getD t39.toNat bp).A,((a.set t39.toNat (⟨(a.getD t39.toNat bp).Kind,(a.getD t39.toNat bp).A,(a.getD t39.toNat bp).B,m,(a.getD t39.toNat bp).cY⟩:dk)).getD t39.toNat bp).B,((a.set t39.toNat (⟨(a.getD t39.toNat bp).Kind,(a.getD t39.toNat bp).A,(a.getD t39.toNat bp).B,m,(a.getD t39.toNat bp).cY⟩:dk)).getD t39.toNat bp).C,b⟩:dk))
 else none else none else if (f=4:Bool) then if (t39.toNat=t39.toNat:Bool) then if ((b.length:Int)<8:Bool) then if (t39.toNat=t39.toNat:Bool) then some [(⟨e.A,e.B,iC .u8 e.A 12⟩:lM)]>>=λp=>if room 3 (b++p).length then if (t39.toNat=t39.toNat:Bool) then hy (d,aT .i64 i 1,a.set t39.toNat (⟨(a.getD t39.toNat bp).Kind,(a.getD t39.toNat bp).A,(a.getD t39.toNat bp).B,(a.getD t39.toNat bp).C,b++p⟩:dk))else none else none else none else hy (d,aT .i64 i 1,a.set t39.toNat (⟨(a.getD t39.toNat bp).Kind,(a.getD t39.toNat bp).A,(a.getD t39.toNat bp).B,(a.getD t39.toNat bp).C,b⟩:dk))else none else if (f=5:Bool) then if (t39.toNat=t39.toNat:Bool) then if (0<(b.length:Int):Bool) then if (t39.toNat=t39.toNat:Bool) then if eH 0 c b.length then if (t39.toNat=t39.toNat:Bool) then some (aT .i64 c 1)>>=λg=>if eH g (b.length:Int) b.length then if((c.toNat+((b.length:Int).toNat-g.toNat)<=b.length:Bool)&&(g.toNat+((b.length:Int).toNat-g.toNat)<=b.length:Bool)) then if (t39.toNat=t39.toNat:Bool) then hy (d,aT .i64 i 1,a.set t39.toNat (⟨(a.getD t39.toNat bp).Kind,(a.getD t39.toNat bp).A,(a.getD t39.toNat bp).B,(a.getD t39.toNat bp).C,b.take c.toNat++(b.drop g.toNat).take ((b.length:Int).toNat-g.toNat)⟩:dk))else none else none else none else none else none else none else hy (d,aT .i64 i 1,a.set t39.toNat (⟨(a.getD t39.toNat bp).Kind,(a.getD t39.toNat bp).A,(a.getD t39.toNat bp).B,(a.getD t39.toNat bp).C,b⟩:dk))else none else if (f=6:Bool) then if (t39.toNat=t39.toNat:Bool) then if (0<(b.length:Int):Bool) then if (t39.toNat=t39.toNat:Bool) then if aQ c b.length then if (c.toNat<b.length:Bool) then hy (d,aT .i64 i 1,a.set t39.toNat (⟨(a.getD t39.toNat bp).Kind,(a.getD t39.toNat bp).A,(a.getD t39.toNat bp).B,(a.getD t39.toNat bp).C,b.set c.toNat (⟨(b.getD c.toNat iL).ah,(b.getD c.toNat iL).aB,e.B⟩:lM)⟩:dk))else none else none else none else hy (d,aT .i64 i 1,a.set t39.toNat (⟨(a.getD t39.toNat bp).Kind,(a.getD t39.toNat bp).A,(a.getD t39.toNat bp).B,(a.getD t39.toNat bp).C,b⟩:dk))else none else if (t39.toNat=t39.toNat:Bool) then if (0<(b.length:Int):Bool) then if (t39.toNat=t39.toNat:Bool) then if (t39.toNat=t39.toNat:Bool) then if aQ c b.length then if (c.toNat<b.length:Bool) then if aQ c b.length then if (c.toNat<b.length:Bool) then hy (d,aT .i64 i 1,a.set t39.toNat (⟨(a.getD t39.toNat bp).Kind,(a.getD t39.toNat bp).A,(a.getD t39.toNat bp).B,(a.getD t39.toNat bp).C,b.set c.toNat (⟨(b.getD c.toNat iL).ah,aT .u8 (b.getD c.toNat iL).aB e.B,(b.getD c.toNat iL).g'⟩:lM)⟩:dk))else none else none else none else none else none else none else hy (d,aT .i64 i 1,a.set t39.toNat (⟨(a.getD t39.toNat bp).Kind,(a.getD t39.toNat bp).A,(a.getD t39.toNat bp).B,(a.getD t39.toNat bp).C,b⟩:dk))else none
 if (0<(b.length:Int):Bool) then if (t39.toNat=t39.toNat:Bool) then some (b.length:Int)>>=λt63=>if !(t63=0:Bool) then some (cd (b7 .i64 e.A) t63)>>=λt64=>n t64 else none else none else n 0 else none else none else none else none else none else none else none else some a
  partial_fixpoint
theorem Vr:c5 14 0 [0] PW hy:= .rx hy.partial_correctness
def CU:en×List la->Option en
 |(d,l)=>
 if room 32 ([]++d.eE).length then hy (l,0,[]++d.eE)>>=λo=>some (⟨o⟩:en)else none
theorem U6:bm aeC CU:= .bC .n (.k Vr .n)
def yd(c:mB):Option (bY×bY×Bool):=
 ra c.S>>=λr=>CU (c.S,c.L)>>=λb=>ra b>>=λa=>if(bif bif (!r.2)then true else(!a.2)then true else (5<(c.L.length:Int):Bool)) then some ((⟨(⟨[]⟩:bq),0⟩:bY),(⟨(⟨[]⟩:bq),0⟩:bY),false)else some (r.1.Types.length:Int)>>=λt45=>if !(t45=0:Bool) then some (cd (b7 .i64 c.T) t45)>>=λt46=>some (a.1.Types.length:Int)>>=λt58=>if !(t58=0:Bool) then some ((⟨r.1,t46⟩:bY),(⟨a.1,cd (aT .i64 t46 (b7 .i64 c.U)) t58⟩:bY),true)else none else none
theorem VM:bm h8 yd:= .bC (.k VL (.k U6 .n))
def sq:List dO×List dO×Int×Int->Option ((Bool) ⊕ (Unit))
 |(a,b,c,t13)=>
 if (t13<c:Bool) then if aQ t13 a.length then some (a.getD t13.toNat fE)>>=λd=>if aQ t13 b.length then some (b.getD t13.toNat fE)>>=λe=>if !(eh d.ah e.ah&&(kv d.Name e.Name&&true)) then some (.inl false)else sq (a,b,c,aT .i64 t13 1)else none else none else some (.inr ())
  partial_fixpoint
theorem UL:c5 206 0 [0] OW sq:= .rx sq.partial_correctness
def Dh(c:List dO×List dO):Option Bool:=
 match c with
 |(s1,a)=>
 if !((s1.length:Int)=(a.length:Int):Bool) then some false else sq (s1,a,(s1.length:Int),0)>>=λo=>match o with
 |.inl b=>
 some b
 |.inr d=>
 some true
theorem UN:bm By Dh:= .bC .n (.k UL .n)
def sZ:List cG×List cG×Int×Int->Option ((Bool) ⊕ (Unit))
 |(a,b,c,t13)=>
 if (t13<c:Bool) then if aQ t13 a.length then some (a.getD t13.toNat ec)>>=λd=>if aQ t13 b.length then some (b.getD t13.toNat ec)>>=λe=>if !(eh d.ah e.ah&&(kv d.Data e.Data&&true)) then some (.inl false)else sZ (a,b,c,aT .i64 t13 1)else none else none else some (.inr ())
  partial_fixpoint
theorem UO:c5 64 0 [0] Qb sZ:= .rx sZ.partial_correctness
def yp(c:List cG×List cG):Option Bool:=
 match c with
 |(s1,a)=>
 if !((s1.length:Int)=(a.length:Int):Bool) then some false else sZ (s1,a,(s1.length:Int),0)>>=λo=>match o with
 |.inl b=>
 some b
 |.inr d=>
 some true
theorem R0:bm B1 yp:= .bC .n (.k UO .n)
mutual
def mG:aa×aa->Option Bool
 |(a,b)=>
 some (bif bif bif bif decide (a.Kind=b.Kind)then gr a.b9 b.b9 else false then decide (a.bw=b.bw)else false then decide (a.bH=b.bH)else false then decide (a.ah=b.ah)else false)>>=λt37=>(if t37 then yp (a.Rest,b.Rest)else some false)>>=λr=>some (bif t37 then r else false)>>=λt44=>(if t44 then yn (a.aJ,b.aJ)else some false)>>=λq=>some (bif t44 then q else false)>>=λt51=>(if t51 then yn (a.aq,b.aq)else some false)>>=λt=>some (bif t51 then t else false)
  partial_fixpoint
def yn(c:List aa×List aa):Option Bool:=
 match c with
 |(s1,f)=>
 if !((s1.length:Int)=(f.length:Int):Bool) then some false else vb (f,s1,(s1.length:Int),0)>>=λo=>match o with
 |.inl p=>
 some p
 |.inr v=>
 some true
  partial_fixpoint
def vb:List aa×List aa×Int×Int->Option ((Bool) ⊕ (Unit))
 |(e,t15,j,t17)=>
 if (t17<j:Bool) then if aQ t17 t15.length then if aQ t17 e.length then mG (aa.eta (t15.getD t17.toNat aH),aa.eta (e.getD t17.toNat aH))>>=λr=>if !r then some (.inl false)else vb (e,t15,j,aT .i64 t17 1)else none else none else some (.inr ())
  partial_fixpoint
end
theorem Xl:fc se mG/\fc uX yn/\fW 65 0 [0] z6 vb:=mG.mutual_partial_correctness (e2 se) (e2 uX) (fU 65 0 [0] z6)
 (λ_ h1 _ _ h=>fl h (.k R0 (.k (c4 uX h1) .n)))
 (λ_ a _ _ h=>fl h .n (.k (gF z6 a) .n))
 (λ_ _ h0 a _ _ h=>gE z6 a h (.k (c4 se h0) .n))
theorem SS:bm se mG:=c4 _ Xl.1
def ye:aU×aU->Option Bool
 |(a,y)=>
 some (bif bif bif bif decide (a.ah=y.ah)then decide (a.Name=y.Name)else false then decide (a.aB=y.aB)else false then gr a.cu y.cu else false then gr a.b8 y.b8 else false)>>=λt37=>(if t37 then mG ((⟨a.bU.Kind,a.bU.b9,a.bU.bw,a.bU.bH,a.bU.ah,a.bU.aJ,a.bU.aq,a.bU.Rest⟩:aa),aa.eta y.bU)else some false)>>=λr=>some (bif t37 then r else false)
theorem VN:bm BA ye:= .bC (.k SS .n)
def pg:List aU×List aU×Int×Int->Option ((Bool) ⊕ (Unit))
 |(c,t15,d,t17)=>
 if (t17<d:Bool) then if aQ t17 t15.length then some (t15.getD t17.toNat aG)>>=λa=>if aQ t17 c.length then some (c.getD t17.toNat aG)>>=λb=>ye ((⟨a.ah,a.Name,a.aB,a.cu,a.b8,aa.eta a.bU⟩:aU),(⟨b.ah,b.Name,b.aB,b.cu,b.b8,aa.eta b.bU⟩:aU))>>=λr=>if !r then some (.inl false)else pg (c,t15,d,aT .i64 t17 1)else none else none else some (.inr ())
  partial_fixpoint
theorem Uz:c5 207 0 [0] OX pg:= .rx pg.partial_correctness (.k VN .n)
def Df(c:List aU×List aU):Option Bool:=
 match c with
 |(s1,a)=>
 if !((s1.length:Int)=(a.length:Int):Bool) then some false else pg (a,s1,(s1.length:Int),0)>>=λo=>match o with
 |.inl b=>
 some b
 |.inr d=>
 some true
theorem UA:bm Bz Df:= .bC .n (.k Uz .n)
def hO:aj×aj->Option Bool
 |(a,b)=>
 some (bif bif bif bif bif bif bif decide (a.Kind=b.Kind)then decide (a.Name=b.Name)else false then decide (a.bT=b.bT)else false then decide (a.bW=b.bW)else false then decide (a.Max=b.Max)else false then decide (a.Key=b.Key)else false then decide (a.aK=b.aK)else false then gr a.Open b.Open else false)>>=λt58=>(if t58 then Dh (a.bo,b.bo)else some false)>>=λr=>some (bif t58 then r else false)>>=λt65=>(if t65 then Df (a.af,b.af)else some false)>>=λc=>some (bif t65 then c else false)
theorem WA:bm Bb hO:= .bC (.k UN (.k UA .n))
def yf(c:Int):Option Bool:=
 some (bif bif decide (c=95)then true else bif decide (97<=c)then decide (c<=122)else false then true else bif decide (65<=c)then decide (c<=90)else false)
theorem RJ:bm Bu yf:= .bC
def CR(c:Int):Option Bool:=
 some (bif decide (48<=c)then decide (c<=57)else false)
theorem Xm:bm Bv CR:= .bC
def lN:ar×Int×Int->Option ((Bool) ⊕ (Unit))
 |(a,b,t19)=>
 if (t19<b:Bool) then if aQ t19 a.length then yf (h4 a t19)>>=λc=>some (!c)>>=λt26=>if(aQ t19 a.length||(!t26)) then (if t26 then CR (h4 a t19)else some false)>>=λd=>if(bif t26 then(!d)else false) then some (.inl false)else lN (a,b,aT .i64 t19 1)else none else none else some (.inr ())
  partial_fixpoint
theorem VY:c5 145 0 [0] OY lN:= .rx lN.partial_correctness (.k RJ (.k Xm .n))
def lh(s:ar):Option Bool:=
 some (bif decide (s=[])then true else decide (24<(s.length:Int)))>>=λt10=>if(aQ 0 s.length||(!(!t10))) then (if !t10 then yf (h4 s 0)else some false)>>=λr=>if(bif t10 then true else(!r)) then some false else lN (s,(s.length:Int),0)>>=λo=>match o with
 |.inl a=>
 some a
 |.inr b=>
 some true else none
theorem Rw:bm A9 lh:= .bC (.k RJ .n) (.k VY .n)
def o':au×List ar×au×Int×Int×List ar->Option ((Bool) ⊕ au)
 |(c,a,t9,e,t11,b)=>
 if (t11<e:Bool) then if aQ t11 t9.length then some (t9.getD t11.toNat 0)>>=λd=>some (bif decide (d<1)then true else decide (1000<d))>>=λt21=>some (decide (0<t11))>>=λt24=>some (dY .i64 t11 1)>>=λt29=>if(aQ t29 c.length||(!((!t21)&&t24))) then some (bif t21 then true else bif t24 then decide (d<=c.getD t29.toNat 0)else false)>>=λt34=>if(aQ t11 a.length||(!(!t34))) then some (bif t34 then true else gu b (a.getD t11.toNat []))>>=λt42=>if(aQ t11 a.length||(!(!t42))) then (if !t42 then lh (a.getD t11.toNat [])else some false)>>=λr=>if(bif t42 then true else(!r)) then some (.inl false)else if aQ t11 a.length then o' (c,a,t9,e,aT .i64 t11 1,iH b (a.getD t11.toNat []))else none else none else none else none else none else some (.inr c)
  partial_fixpoint
theorem Xn:c5 204 0 [0] OZ o':= .rx o'.partial_correctness (.k Rw .n)
def yG(c:au×List ar):Option Bool:=
 match c with
 |(l,names)=>
 o' (l,names,l,(l.length:Int),0,[])>>=λo=>match o with
 |.inl a=>
 some a
 |.inr b=>
 some (decide ((b.length:Int)<=16))
theorem St:bm Bw yG:= .bC .n (.k Xn .n)
def q5:List dO×List dO×Int×Int×au×List ar->Option (List dO×au×List ar)
 |(c,t7,d,t9,a,b)=>
 if (t9<d:Bool) then if aQ t9 t7.length then some (t7.getD t9.toNat fE)>>=λe=>some [e.ah]>>=λt16=>if room 8 (a++t16).length then some [e.Name]>>=λt21=>if room 16 (b++t21).length then q5 (c,t7,d,aT .i64 t9 1,a++t16,b++t21)else none else none else none else some (c,a,b)
  partial_fixpoint
theorem Wb:c5 146 0 [0] O0 q5:= .rx q5.partial_correctness
def yg(l:List dO):Option Bool:=
 q5 (l,l,(l.length:Int),0,[],[])>>=λo=>some (decide (0<(o.1.length:Int)))>>=λt26=>(if t26 then yG (o.2.1,o.2.2)else some false)>>=λr=>some (bif t26 then r else false)
theorem VO:bm A' yg:= .bC (.k St .n) (.k Wb .n)
def D2(v:aa):Option Bool:=
 mG (aa.eta v,(⟨0,false,0,[],0,[],[],[]⟩:aa))>>=λr=>some r
theorem WB:bm Bx D2:= .bC (.k SS .n)
def o6:List aU×Int×Int×aj×au×List ar->Option ((Bool) ⊕ (aj×au×List ar))
 |(t8,e,t10,b,c,d)=>
 if (t10<e:Bool) then if aQ t10 t8.length then some (t8.getD t10.toNat aG)>>=λa=>some [a.ah]>>=λt17=>if room 8 (c++t17).length then some [a.Name]>>=λt22=>if room 16 (d++t22).length then some (bif bif decide (b.Kind=6)then bif a.cu then true else a.b8 else false then true else bif a.cu then a.b8 else false)>>=λt42=>some (!a.b8)>>=λt46=>(if((!t42)&&t46) then D2 (aa.eta a.bU)else some false)>>=λf=>if(bif t42 then true else bif t46 then(!f)else false) then some (.inl false)else o6 (t8,e,aT .i64 t10 1,b,c++t17,d++t22)else none else none else none else some (.inr (b,c,d))
  partial_fixpoint
theorem Wc:c5 147 0 [0] O1 o6:= .rx o6.partial_correctness (.k WB .n)
def vn(t:aj):Option Bool:=
 o6 (t.af,(t.af.length:Int),0,t,[],[])>>=λo=>match o with
 |.inl b=>
 some b
 |.inr a=>
 some (bif decide (a.1.Kind=5)then true else decide (0<(a.2.1.length:Int)))>>=λt62=>(if t62 then yG (a.2.1,a.2.2)else some false)>>=λr=>some (bif t62 then r else false)
theorem VP:bm Ba vn:= .bC (.k St .n) (.k Wc .n)
def Ds(t:aj):Option Bool:=
 if (t.Kind=1:Bool) then hO ((⟨0,t.Name,t.bT,t.bW,t.Max,t.bo,t.af,t.Key,t.aK,t.Open⟩:aj),(⟨0,[],0,0,0,[],[],0,0,false⟩:aj))>>=λr=>some r else if (t.Kind=2:Bool) then some (decide (t.bT<=t.bW))>>=λt17=>(if t17 then hO ((⟨0,t.Name,0,0,t.Max,t.bo,t.af,t.Key,t.aK,t.Open⟩:aj),(⟨0,[],0,0,0,[],[],0,0,false⟩:aj))else some false)>>=λj=>some (bif t17 then j else false)else if (t.Kind=3:Bool) then some (bif decide (0<=t.Max)then decide (t.Max<=200)else false)>>=λt29=>(if t29 then hO ((⟨0,t.Name,t.bT,t.bW,0,t.bo,t.af,t.Key,t.aK,t.Open⟩:aj),(⟨0,[],0,0,0,[],[],0,0,false⟩:aj))else some false)>>=λv=>some (bif t29 then v else false)else if (t.Kind=4:Bool) then lh t.Name>>=λe=>(if e then yg t.bo else some false)>>=λA=>some (bif e then A else false)>>=λt40=>(if t40 then hO ((⟨0,[],t.bT,t.bW,t.Max,[],t.af,t.Key,t.aK,false⟩:aj),(⟨0,[],0,0,0,[],[],0,0,false⟩:aj))else some false)>>=λB=>some (bif t40 then B else false)else some (decide (t.Kind=5))>>=λt45=>if t45 then if t45 then lh t.Name>>=λf=>(if f then vn t else some false)>>=λC=>some (bif f then C else false)>>=λt53=>(if t53 then hO ((⟨0,[],t.bT,t.bW,t.Max,t.bo,[],t.Key,t.aK,bif t.Open then decide (t.Kind=5)else false⟩:aj),(⟨0,[],0,0,0,[],[],0,0,false⟩:aj))else some false)>>=λD=>some (bif t53 then D else false)else some (decide (t.Kind=7))>>=λt65=>if t65 then if t65 then some (bif decide (0<=t.Max)then decide (t.Max<=50)else false)>>=λt74=>if (t.Kind=8:Bool) then (if t74 then hO ((⟨0,t.Name,t.bT,t.bW,0,t.bo,t.af,0,0,t.Open⟩:aj),(⟨0,[],0,0,0,[],[],0,0,false⟩:aj))else some false)>>=λE=>some (bif t74 then E else false)else (if t74 then hO ((⟨0,t.Name,t.bT,t.bW,0,t.bo,t.af,t.Key,0,t.Open⟩:aj),(⟨0,[],0,0,0,[],[],0,0,false⟩:aj))else some false)>>=λk=>some (bif t74 then k else false)else if (t.Kind=9:Bool) then hO ((⟨0,t.Name,t.bT,t.bW,t.Max,t.bo,t.af,t.Key,0,t.Open⟩:aj),(⟨0,[],0,0,0,[],[],0,0,false⟩:aj))>>=λl=>some l else some false else if (t.Kind=8:Bool) then some (bif decide (0<=t.Max)then decide (t.Max<=50)else false)>>=λa=>if (t.Kind=8:Bool) then (if a then hO ((⟨0,t.Name,t.bT,t.bW,0,t.bo,t.af,0,0,t.Open⟩:aj),(⟨0,[],0,0,0,[],[],0,0,false⟩:aj))else some false)>>=λm=>some (bif a then m else false)else (if a then hO ((⟨0,t.Name,t.bT,t.bW,0,t.bo,t.af,t.Key,0,t.Open⟩:aj),(⟨0,[],0,0,0,[],[],0,0,false⟩:aj))else some false)>>=λn=>some (bif a then n else false)else if (t.Kind=9:Bool) then hO ((⟨0,t.Name,t.bT,t.bW,t.Max,t.bo,t.af,t.Key,0,t.Open⟩:aj),(⟨0,[],0,0,0,[],[],0,0,false⟩:aj))>>=λo=>some o else some false else if (t.Kind=6:Bool) then lh t.Name>>=λd=>(if d then vn t else some false)>>=λp=>some (bif d then p else false)>>=λg=>(if g then hO ((⟨0,[],t.bT,t.bW,t.Max,t.bo,[],t.Key,t.aK,bif t.Open then decide (t.Kind=5)else false⟩:aj),(⟨0,[],0,0,0,[],[],0,0,false⟩:aj))else some false)>>=λq=>some (bif g then q else false)else some (decide (t.Kind=7))>>=λi=>if i then if i then some (bif decide (0<=t.Max)then decide (t.Max<=50)else false)>>=λb=>if (t.Kind=8:Bool) then (if b then hO ((⟨0,t.Name,t.bT,t.bW,0,t.bo,t.af,0,0,t.Open⟩:aj),(⟨0,[],0,0,0,[],[],0,0,false⟩:aj))else some false)>>=λs=>some (bif b then s else false)
 else (if b then hO ((⟨0,t.Name,t.bT,t.bW,0,t.bo,t.af,t.Key,0,t.Open⟩:aj),(⟨0,[],0,0,0,[],[],0,0,false⟩:aj))else some false)>>=λu=>some (bif b then u else false)else if (t.Kind=9:Bool) then hO ((⟨0,t.Name,t.bT,t.bW,t.Max,t.bo,t.af,t.Key,0,t.Open⟩:aj),(⟨0,[],0,0,0,[],[],0,0,false⟩:aj))>>=λw=>some w else some false else if (t.Kind=8:Bool) then some (bif decide (0<=t.Max)then decide (t.Max<=50)else false)>>=λc=>if (t.Kind=8:Bool) then (if c then hO ((⟨0,t.Name,t.bT,t.bW,0,t.bo,t.af,0,0,t.Open⟩:aj),(⟨0,[],0,0,0,[],[],0,0,false⟩:aj))else some false)>>=λx=>some (bif c then x else false)else (if c then hO ((⟨0,t.Name,t.bT,t.bW,0,t.bo,t.af,t.Key,0,t.Open⟩:aj),(⟨0,[],0,0,0,[],[],0,0,false⟩:aj))else some false)>>=λy=>some (bif c then y else false)else if (t.Kind=9:Bool) then hO ((⟨0,t.Name,t.bT,t.bW,t.Max,t.bo,t.af,t.Key,0,t.Open⟩:aj),(⟨0,[],0,0,0,[],[],0,0,false⟩:aj))>>=λz=>some z else some false
theorem X4:bm AU Ds:= .bC (.k WA (.k Rw (.k VO (.k VP .n))))
def sF:List aU×Int×Int×aj×au->Option (aj×au)
 |(t7,c,t9,b,a)=>
 if (t9<c:Bool) then if aQ t9 t7.length then some [(t7.getD t9.toNat aG).aB]>>=λt16=>if room 8 (a++t16).length then sF (t7,c,aT .i64 t9 1,b,a++t16)else none else none else some (b,a)
  partial_fixpoint
theorem W4:c5 102 0 [0] O2 sF:= .rx sF.partial_correctness
def Dt(t:aj):Option au:=
 sF (t.af,(t.af.length:Int),0,t,[])>>=λo=>if (o.1.Kind=8:Bool) then some [o.1.Key]>>=λt25=>if room 8 (o.2++t25).length then some (o.2++t25)>>=λl=>if (7<=o.1.Kind:Bool) then some [o.1.aK]>>=λt33=>if room 8 (l++t33).length then some (l++t33)else none else some l else none else if (7<=o.1.Kind:Bool) then some [o.1.aK]>>=λa=>if room 8 (o.2++a).length then some (o.2++a)else none else some o.2
theorem X5:bm AV Dt:= .bC .n (.k W4 .n)
def o7:List aj×Int×Int×au×Int×Int×List aj×List ar×Int×ar×Int×Int×Int×List dO×List aU×Int×Int×Bool->Option ((Int) ⊕ (List aj×Int×Int×List aj×List ar×Int×ar×Int×Int×Int×List dO×List aU×Int×Int×Bool))
 |(n,o,p,t38,q,t40,a,b,c,d,e,f,g,i,j,k,l,m)=>
 if (t40<q:Bool) then if aQ t40 t38.length then some (t38.getD t40.toNat 0)>>=λr=>if(bif (r<0:Bool)then true else ((a.length:Int)<=r:Bool)) then some (.inl 4)else o7 (n,o,p,t38,q,aT .i64 t40 1,a,b,c,d,e,f,g,i,j,k,l,m)else none else some (.inr (n,o,p,a,b,c,d,e,f,g,i,j,k,l,m))
  partial_fixpoint
theorem Wd:c5 58 0 [0,0] Of o7:= .rx o7.partial_correctness
def q9(j:List aj×Int×Int×List aj×List ar):Option ((Int) ⊕ (Unit)):=
 match j with
 |(t14,f,t16,b,d)=>
 if (t16<f:Bool) then if aQ t16 t14.length then some (t14.getD t16.toNat aM)>>=λa=>Ds a>>=λr=>if(bif (!r)then true else bif (!(a.Name=[]:Bool))then gu d a.Name else false) then some (.inl 1)else Dt a>>=λe=>o7 (t14,f,t16,e,(e.length:Int),0,b,iH d a.Name,a.Kind,a.Name,a.bT,a.bW,a.Max,a.bo,a.af,a.Key,a.aK,a.Open)>>=λg=>match g with
 |.inl i=>
 some (.inl i)
 |.inr c=>
 some (decide (c.2.2.2.2.2.1=8))>>=λt56=>if(aQ c.2.2.2.2.2.2.2.2.2.2.2.2.1 c.2.2.2.1.length||(!t56)) then some (decide ((c.2.2.2.1.getD c.2.2.2.2.2.2.2.2.2.2.2.2.1.toNat aM).Kind<1))>>=λt65=>if(aQ c.2.2.2.2.2.2.2.2.2.2.2.2.1 c.2.2.2.1.length||(!(t56&&(!t65)))) then if(bif t56 then bif t65 then true else (4<(c.2.2.2.1.getD c.2.2.2.2.2.2.2.2.2.2.2.2.1.toNat aM).Kind:Bool)else false) then some (.inl 1)else q9 (c.1,c.2.1,aT .i64 c.2.2.1 1,c.2.2.2.1,c.2.2.2.2.1)else none else none else none else some (.inr ())
  partial_fixpoint
theorem VZ:c5 58 0 [0] P' q9:= .rx q9.partial_correctness (.k X4 (.k X5 .n)) (.k Wd .n)
def nR(s:bq):Option Int:=
 if (32<(s.Types.length:Int):Bool) then some 3 else q9 (s.Types,(s.Types.length:Int),0,s.Types,[])>>=λo=>match o with
 |.inl a=>
 some a
 |.inr b=>
 some 0
theorem sG:bm BZ nR:= .bC .n (.k VZ .n)
def IA(v:aa):Option aa:=
 if (v.Kind=1:Bool) then some (⟨v.Kind,v.b9,0,[],0,[],[],[]⟩:aa)else if (v.Kind=2:Bool) then some (⟨v.Kind,false,v.bw,[],0,[],[],[]⟩:aa)else if (v.Kind=3:Bool) then some (⟨v.Kind,false,0,v.bH,0,[],[],[]⟩:aa)else if (v.Kind=4:Bool) then some (⟨v.Kind,false,0,[],v.ah,[],[],[]⟩:aa)else if (v.Kind=5:Bool) then some (⟨v.Kind,false,0,[],0,[],v.aq,v.Rest⟩:aa)else if (v.Kind=6:Bool) then some (⟨v.Kind,false,0,[],v.ah,[],v.aq,v.Rest⟩:aa)else if (v.Kind=8:Bool) then some (⟨v.Kind,false,0,[],0,v.aJ,v.aq,[]⟩:aa)else some (decide (v.Kind=7))>>=λt57=>if t57 then if t57 then some (⟨v.Kind,false,0,[],0,[],v.aq,[]⟩:aa)else some (⟨v.Kind,false,0,[],0,[],[],[]⟩:aa)else if (v.Kind=9:Bool) then some (⟨v.Kind,false,0,[],0,[],v.aq,[]⟩:aa)else some (⟨v.Kind,false,0,[],0,[],[],[]⟩:aa)
theorem XS:bm Bp IA:= .bC
def y2(v:aa):Option Bool:=
 IA (aa.eta v)>>=λr=>some (bif bif bif bif bif bif gr v.b9 r.b9 then decide (v.bw=r.bw)else false then decide (v.bH=r.bH)else false then decide (v.ah=r.ah)else false then decide ((v.aJ.length:Int)=(r.aJ.length:Int))else false then decide ((v.aq.length:Int)=(r.aq.length:Int))else false then decide ((v.Rest.length:Int)=(r.Rest.length:Int))else false)
theorem WC:bm A3 y2:= .bC (.k XS .n)
def HV:dO×Int->Option (Bool×Int)
 |(a,b)=>
 some (decide (a.ah=b),b)
theorem V0:bm Be HV:= .bC
def nC:List dO×Int×Int×Int->Option ((Int×Int) ⊕ (Int))
 |(a,c,t8,b)=>
 if (t8<c:Bool) then if aQ t8 a.length then HV (a.getD t8.toNat fE,b)>>=λr=>if r.1 then some (.inl (t8,r.2))else nC (a,c,aT .i64 t8 1,r.2)else none else some (.inr b)
  partial_fixpoint
theorem UC:c5 150 1 [0] O3 nC:= .rx nC.partial_correctness (.k V0 .n)
def Hd(d:List dO×Int):Option (Int×Int):=
 match d with
 |(s,b)=>
 nC (s,(s.length:Int),0,b)>>=λo=>match o with
 |.inl a=>
 some (a.1,a.2)
 |.inr c=>
 some ((-1),c)
theorem UI:bm Bd Hd:= .bC .n (.k UC .n)
def pa:aj×Int->Option (Int×Bool)
 |(t,id)=>
 Hd (t.bo,id)>>=λr=>some (l7 r.1 0,decide (0<=r.1))
theorem yc:bm AZ pa:= .bC (.k UI .n)
def sQ(id:Int):Option Bool:=
 some (bif decide (1<=id)then decide (id<=1000)else false)
theorem Su:bm A4 sQ:= .bC
def HX:aU×Int->Option (Bool×Int)
 |(m,b)=>
 some (decide (m.ah=b),b)
theorem V1:bm A8 HX:= .bC
def oU:List aU×Int×Int×Int->Option ((Int×Int) ⊕ (Int))
 |(b,d,t8,c)=>
 if (t8<d:Bool) then if aQ t8 b.length then some (b.getD t8.toNat aG)>>=λa=>HX ((⟨a.ah,a.Name,a.aB,a.cu,a.b8,aa.eta a.bU⟩:aU),c)>>=λr=>if r.1 then some (.inl (t8,r.2))else oU (b,d,aT .i64 t8 1,r.2)else none else some (.inr c)
  partial_fixpoint
theorem UD:c5 142 1 [0] O4 oU:= .rx oU.partial_correctness (.k V1 .n)
def He(d:List aU×Int):Option (Int×Int):=
 match d with
 |(s,b)=>
 oU (s,(s.length:Int),0,b)>>=λo=>match o with
 |.inl a=>
 some (a.1,a.2)
 |.inr c=>
 some ((-1),c)
theorem UJ:bm A7 He:= .bC .n (.k UD .n)
def gH:aj×Int->Option (Int×Bool)
 |(t,id)=>
 He (t.af,id)>>=λr=>some (l7 r.1 0,decide (0<=r.1))
theorem kg:bm Ch gH:= .bC (.k UJ .n)
def pb:Bool×List cG×Int×Int×List aj×aa×Int×ar×Int×Int×Int×List dO×List aU×Int×Int×Bool->Option ((Bool) ⊕ (Bool×List aj×Int×Bool×Int×ar×Int×List aa×List aa×List cG×Int×ar×Int×Int×Int×List dO×List aU×Int×Int×Bool))
 |(o,t111,q,t113,n,a,b,c,d,e,f,g,i,j,k,l)=>
 if (t113<q:Bool) then if aQ t113 t111.length then some (t111.getD t113.toNat ec)>>=λm=>gH ((⟨b,c,d,e,f,g,i,j,k,l⟩:aj),m.ah)>>=λp=>(if !p.2 then sQ m.ah else some false)>>=λr=>some (bif p.2 then true else(!r))>>=λt131=>some (decide (0<t113))>>=λt134=>some (dY .i64 t113 1)>>=λt141=>if(aQ t141 a.Rest.length||(!((!t131)&&t134))) then if(bif t131 then true else bif t134 then (m.ah<=(a.Rest.getD t141.toNat ec).ah:Bool)else false) then some (.inl false)else pb (o,t111,q,aT .i64 t113 1,n,aa.eta a,b,c,d,e,f,g,i,j,k,l)else none else none else some (.inr (o,n,a.Kind,a.b9,a.bw,a.bH,a.ah,a.aJ,a.aq,a.Rest,b,c,d,e,f,g,i,j,k,l))
  partial_fixpoint
theorem Xo:c5 92 0 [0] Qi pb:= .rx pb.partial_correctness (.k kg (.k Su .n))
def ED(a:Int):Option Bool:=
 some (!(decide (a=a)))
theorem YV:bm BI ED:= .bC
def Du:Int×Int->Option Int
 |(a,y)=>
 ED a>>=λr=>ED y>>=λb=>if r then if b then some 0 else some (-1)else if b then some 1 else if (a<y:Bool) then some (-1)else if (y<a:Bool) then some 1 else some 0
theorem X6:bm Bq Du:= .bC (.k YV .n)
def Dv(a:Int):Option Bool:=
 some (!(decide (a=a)))
theorem X7:bm A6 Dv:= .bC
def yV:Int×Int->Option Int
 |(a,y)=>
 Dv a>>=λr=>Dv y>>=λb=>if r then if b then some 0 else some (-1)else if b then some 1 else if (a<y:Bool) then some (-1)else if (y<a:Bool) then some 1 else some 0
theorem WH:bm Cf yV:= .bC (.k X7 .n)
def Dw(a:ar):Option Bool:=
 some (!(decide (a=a)))
theorem X8:bm BJ Dw:= .bC
def CS:ar×ar->Option Int
 |(a,y)=>
 Dw a>>=λr=>Dw y>>=λb=>if r then if b then some 0 else some (-1)else if b then some 1 else if Op.bytesLess a y then some (-1)else if !(Op.bytesLess a y||(a=y:Bool)) then some 1 else some 0
theorem WI:bm Bs CS:= .bC (.k X8 .n)
def qP:Int×au×Int×Int->Option ((Int) ⊕ (Int))
 |(a,t6,b,t8)=>
 if (t8<b:Bool) then if aQ t8 t6.length then some (t6.getD t8.toNat 0)>>=λc=>if !(c=a:Bool) then some (.inl c)else qP (a,t6,b,aT .i64 t8 1)else none else some (.inr a)
  partial_fixpoint
theorem YW:c5 192 0 [0] O5 qP:= .rx qP.partial_correctness
def Fc(a:au):Option Int:=
 qP (0,a,(a.length:Int),0)>>=λo=>match o with
 |.inl b=>
 some b
 |.inr c=>
 some c
theorem aaI:bm Br Fc:= .bC .n (.k YW .n)
def vp(n:Int):Option Int:=
 some (ud .u64 (ni .u64 (b7 .u64 n) 1) (b7 .u64 (lC .i64 n 63)))
theorem RN:bm BV vp:= .bC
def ri:aa×aa->Option Int
 |(a,b)=>
 if !(a.Kind=b.Kind:Bool) then some 0 else if (a.Kind=1:Bool) then if gr a.b9 b.b9 then some 0 else if b.b9 then some (-1)else some 1 else if (a.Kind=2:Bool) then vp a.bw>>=λr=>vp b.bw>>=λc=>Du (r,c)>>=λd=>some d else if (a.Kind=3:Bool) then yV ((a.bH.length:Int),(b.bH.length:Int))>>=λe=>CS (a.bH,b.bH)>>=λf=>Fc [e,f]>>=λg=>some g else if (a.Kind=4:Bool) then yV (a.ah,b.ah)>>=λi=>some i else some 0
theorem RO:bm A5 ri:= .bC (.k RN (.k X6 (.k WH (.k WI (.k aaI .n)))))
def pc:Bool×Int×List aj×aa×Int×ar×Int×Int×Int×List dO×List aU×Int×Int×Bool->Option ((Bool) ⊕ (Bool×List aj×aa×Int×ar×Int×Int×Int×List dO×List aU×Int×Int×Bool))
 |(o,i,b,a,c,d,e,f,g,j,k,l,m,n)=>
 if (i<(a.aJ.length:Int):Bool) then some (dY .i64 i 1)>>=λt291=>if aQ t291 a.aJ.length then if aQ i a.aJ.length then ri (aa.eta (a.aJ.getD t291.toNat aH),aa.eta (a.aJ.getD i.toNat aH))>>=λp=>if (0<=p:Bool) then some (.inl false)else pc (o,aT .i64 i 1,b,aa.eta a,c,d,e,f,g,j,k,l,m,n)else none else none else some (.inr (o,b,aa.eta a,c,d,e,f,g,j,k,l,m,n))
  partial_fixpoint
theorem WJ:c5 92 0 [2] Qj pc:= .rx pc.partial_correctness (.k RO .n)
mutual
def Dg:List aa×List aj×Int×Bool->Option (Bool×List aj×Int×Bool)
 |(s,b,f,j)=>
 Hg (s,b,f,j)>>=λr=>some (decide (0<=r.1),r.2.1,r.2.2.1,r.2.2.2)
  partial_fixpoint
def Hg(e:List aa×List aj×Int×Bool):Option (Int×List aj×Int×Bool):=
 match e with
 |(s,b,f,j)=>
 qk (s,(s.length:Int),0,b,f,j)>>=λo=>match o with
 |.inl p=>
 some (p.1,p.2.1,p.2.2.1,p.2.2.2)
 |.inr c=>
 some ((-1),c.1,c.2.1,c.2.2)
  partial_fixpoint
def qM:bq×Int×List aa×Bool->Option Bool
 |(s,t,l,plain)=>
 Dg (l,s.Types,t,plain)>>=λr=>some (!r.1)
  partial_fixpoint
def II:aa×List aj×Int×Bool->Option (Bool×List aj×Int×Bool)
 |(v,b,f,j)=>
 pt ((⟨b⟩:bq),f,aa.eta v,j)>>=λr=>some ((!r),b,f,j)
  partial_fixpoint
def pt(e:bq×Int×aa×Bool):Option Bool:=
 match e with
 |(s,t,v,plain)=>
 if(bif (t<0:Bool)then true else ((s.Types.length:Int)<=t:Bool)) then some false else if aQ t s.Types.length then some (s.Types.getD t.toNat aM)>>=λa=>some (!(decide (v.Kind=a.Kind)))>>=λt39=>(if !t39 then y2 (aa.eta v)else some false)>>=λr=>if(bif t39 then true else(!r)) then some false else if (a.Kind=2:Bool) then some (bif decide (a.bT<=v.bw)then decide (v.bw<=a.bW)else false)else if (a.Kind=3:Bool) then some (decide ((v.bH.length:Int)<=a.Max))else if (a.Kind=4:Bool) then pa (a,v.ah)>>=λG=>some (bif a.Open then(!plain)else false)>>=λt85=>(if((!G.2)&&t85) then sQ v.ah else some false)>>=λag=>some (bif G.2 then true else bif t85 then ag else false)else if (a.Kind=5:Bool) then if(bif (!((v.aq.length:Int)=(a.af.length:Int):Bool))then true else bif plain then (0<(v.Rest.length:Int):Bool)else false) then some false else pb (plain,v.Rest,(v.Rest.length:Int),0,s.Types,aa.eta v,a.Kind,a.Name,a.bT,a.bW,a.Max,a.bo,a.af,a.Key,a.aK,a.Open)>>=λo=>match o with
 |.inl p=>
 some p
 |.inr c=>
 rj (c.1,c.2.2.2.2.2.2.2.2.2.2.2.2.2.2.2.2.1,(c.2.2.2.2.2.2.2.2.2.2.2.2.2.2.2.2.1.length:Int),0,c.2.1,c.2.2.1,c.2.2.2.1,c.2.2.2.2.1,c.2.2.2.2.2.1,c.2.2.2.2.2.2.1,c.2.2.2.2.2.2.2.1,c.2.2.2.2.2.2.2.2.1,c.2.2.2.2.2.2.2.2.2.1)>>=λQ=>match Q with
 |.inl R=>
 some R
 |.inr ap=>
 some true else if (a.Kind=6:Bool) then gH (a,v.ah)>>=λx=>if x.2 then some (bif decide ((v.aq.length:Int)=1)then decide ((v.Rest.length:Int)=0)else false)>>=λt188=>if(aQ x.1 a.af.length||(!t188)) then if(aQ 0 v.aq.length||(!t188)) then (if t188 then pt ((⟨s.Types⟩:bq),(a.af.getD x.1.toNat aG).aB,aa.eta (v.aq.getD (0:Int).toNat aH),plain)else some false)>>=λam=>some (bif t188 then am else false)else none else none else some (bif a.Open then(!plain)else false)>>=λt209=>(if t209 then sQ v.ah else some false)>>=λan=>some (bif bif bif t209 then an else false then decide ((v.aq.length:Int)=0)else false then decide ((v.Rest.length:Int)=1)else false)>>=λt226=>if(aQ 0 v.Rest.length||(!t226)) then some (bif t226 then decide ((v.Rest.getD (0:Int).toNat ec).ah=v.ah)else false)else none else if (a.Kind=7:Bool) then some (decide ((v.aq.length:Int)<=a.Max))>>=λt244=>(if t244 then qM ((⟨s.Types⟩:bq),a.aK,v.aq,plain)else some false)>>=λW=>some (bif t244 then W else false)else if (a.Kind=8:Bool) then some (bif decide (a.Max<(v.aJ.length:Int))then true else(!(decide ((v.aq.length:Int)=(v.aJ.length:Int)))))>>=λt270=>(if !t270 then qM ((⟨s.Types⟩:bq),a.Key,v.aJ,plain)else some false)>>=λX=>if(bif t270 then true else(!X)) then some false else pc (plain,1,s.Types,aa.eta v,a.Kind,a.Name,a.bT,a.bW,a.Max,a.bo,a.af,a.Key,a.aK,a.Open)>>=λS=>match S with
 |.inl U=>
 some U
 |.inr q=>
 qM ((⟨q.2.1⟩:bq),q.2.2.2.2.2.2.2.2.2.2.2.1,q.2.2.1.aq,q.1)>>=λY=>some Y else if (a.Kind=9:Bool) then some (decide ((v.aq.length:Int)<=1))>>=λt313=>(if t313 then qM ((⟨s.Types⟩:bq),a.aK,v.aq,plain)else some false)>>=λZ=>some (bif t313 then Z else false)else some true else none
  partial_fixpoint
def qk:List aa×Int×Int×List aj×Int×Bool->Option ((Int×List aj×Int×Bool) ⊕ (List aj×Int×Bool))
 |(y,I,t8,E,A,B)=>
 if (t8<I:Bool) then if aQ t8 y.length then II (aa.eta (y.getD t8.toNat aH),E,A,B)>>=λr=>if r.1 then some (.inl (t8,r.2.1,r.2.2.1,r.2.2.2))else qk (y,I,aT .i64 t8 1,r.2.1,r.2.2.1,r.2.2.2)else none else some (.inr (E,A,B))
  partial_fixpoint
def rj:Bool×List aU×Int×Int×List aj×Int×Bool×Int×ar×Int×List aa×List aa×List cG->Option ((Bool) ⊕ (Unit))
 |(F,t150,H,t152,D,J,K,L,M,N,O,w,P)=>
 if (t152<H:Bool) then if aQ t152 t150.length then if aQ t152 w.length then pt ((⟨D⟩:bq),(t150.getD t152.toNat aG).aB,aa.eta (w.getD t152.toNat aH),F)>>=λae=>if !ae then some (.inl false)else rj (F,t150,H,aT .i64 t152 1,D,J,K,L,M,N,O,w,P)else none else none else some (.inr ())
  partial_fixpoint
end
theorem UE:fc wm Dg/\fc wk Hg/\fW 237 3 [0] zN qk/\fc uU II/\fc oT pt/\fc uS qM/\fW 92 0 [1] xN rj:=Dg.mutual_partial_correctness (e2 wm) (e2 wk) (fU 237 3 [0] zN) (e2 uU) (e2 oT) (e2 uS) (fU 92 0 [1] xN)
 (λ_ h1 _ _ h=>fl h (.k (c4 wk h1) .n))
 (λ_ b _ _ h=>fl h .n (.k (gF zN b) .n))
 (λ_ _ b d _ _ h=>gE zN b h (.k (c4 uU d) .n))
 (λ_ a _ _ h=>fl h (.k (c4 oT a) .n))
 (λ_ _ _ a bj c _ _ h=>fl h (.k WC (.k yc (.k Su (.k kg (.k (c4 oT a) (.k (c4 uS bj) .n)))))) (.k Xo (.k (gF xN c) (.k WJ .n))))
 (λ_ h0 _ _ h=>fl h (.k (c4 wm h0) .n))
 (λ_ _ a c _ _ h=>gE xN c h (.k (c4 oT a) .n))
theorem Sv:bm oT pt:=c4 _ UE.2.2.2.2.1
def v8:bq×Int×aa->Option Bool
 |(s,t,v)=>
 pt (s,t,aa.eta v,true)>>=λr=>some r
theorem SU:bm B9 v8:= .bC (.k Sv .n)
def qz:Int×List aj×Int×Int×List aU×Int×Int×List aj->Option ((Int×Int×Int) ⊕ (List aj×Int×Int×List aj))
 |(i,c,d,e,t24,f,t26,b)=>
 if (t26<f:Bool) then if aQ t26 t24.length then some (t24.getD t26.toNat aG)>>=λa=>(if a.b8 then v8 ((⟨b⟩:bq),a.aB,aa.eta a.bU)else some false)>>=λg=>if(bif a.b8 then(!g)else false) then some (.inl (i,a.ah,1))else qz (i,c,d,e,t24,f,aT .i64 t26 1,b)else none else some (.inr (c,d,e,b))
  partial_fixpoint
theorem U7:c5 245 0 [0,0] MY qz:= .rx qz.partial_correctness (.k SU .n)
def tf(g:List aj×Int×Int×List aj):Option ((Int×Int×Int) ⊕ (Unit)):=
 match g with
 |(t16,d,t18,b)=>
 if (t18<d:Bool) then if aQ t18 t16.length then some (t16.getD t18.toNat aM)>>=λe=>qz (t18,t16,d,t18,e.af,(e.af.length:Int),0,b)>>=λf=>match f with
 |.inl c=>
 some (.inl (c.1,c.2.1,c.2.2))
 |.inr a=>
 tf (a.1,a.2.1,aT .i64 a.2.2.1 1,a.2.2.2)else none else some (.inr ())
  partial_fixpoint
theorem We:c5 245 0 [0] O6 tf:= .rx tf.partial_correctness .n (.k U7 .n)
def H9(s:bq):Option (Int×Int×Int):=
 nR s>>=λr=>if !(r=0:Bool) then some (0,0,r)else tf (s.Types,(s.Types.length:Int),0,s.Types)>>=λo=>match o with
 |.inl a=>
 some (a.1,a.2.1,a.2.2)
 |.inr b=>
 some (0,0,0)
theorem W5:bm BM H9:= .bC (.k sG .n) (.k We .n)
def DO(s:bq):Option Int:=
 nR s>>=λr=>if !(r=0:Bool) then some r else H9 s>>=λa=>some a.2.2
theorem WK:bm BG DO:= .bC (.k sG (.k W5 .n))
def tp:Int×List aU×Int×Int×au->Option (Int×au)
 |(c,t33,d,t35,a)=>
 if (t35<d:Bool) then if aQ t35 t33.length then some (t33.getD t35.toNat aG)>>=λb=>if aQ b.aB a.length then if (b.aB.toNat<a.length:Bool) then tp (dU 2 (ky .i64 c (a.getD b.aB.toNat 0)),t33,d,aT .i64 t35 1,a)else none else none else none else some (c,a)
  partial_fixpoint
theorem Wq:c5 246 1 [0] O7 tp:= .rx tp.partial_correctness
def sA:Int×List aU×Int×Int×au->Option (Int×au)
 |(c,t52,d,t54,a)=>
 if (t54<d:Bool) then if aQ t54 t52.length then some (t52.getD t54.toNat aG)>>=λb=>if aQ b.aB a.length then if (b.aB.toNat<a.length:Bool) then sA (aT .i64 c (a.getD b.aB.toNat 0),t52,d,aT .i64 t54 1,a)else none else none else none else some (c,a)
  partial_fixpoint
theorem Wr:c5 246 1 [1] O8 sA:= .rx sA.partial_correctness
def DP:aj×au->Option (Int×au)
 |(a,b)=>
 if (a.Kind=2:Bool) then if (a.bT=a.bW:Bool) then some (1,b)else some (2,b)else if (a.Kind=3:Bool) then if (a.Max=0:Bool) then some (1,b)else some (2,b)else if (a.Kind=4:Bool) then some ((a.bo.length:Int),b)else if (a.Kind=5:Bool) then tp (1,a.af,(a.af.length:Int),0,b)>>=λo=>some (o.1,o.2)else if (a.Kind=6:Bool) then sA (0,a.af,(a.af.length:Int),0,b)>>=λc=>some (c.1,c.2)else if (a.Kind=7:Bool) then some (decide (a.Max=0))>>=λt71=>if(aQ a.aK b.length||(!(!t71))) then if((a.aK.toNat<b.length:Bool)||(!(!t71))) then if(bif t71 then true else (b.getD a.aK.toNat 0=0:Bool)) then some (1,b)else some (2,b)else none else none else if (a.Kind=8:Bool) then some (decide (a.Max=0))>>=λt84=>if(aQ a.aK b.length||(!(!t84))) then if((a.aK.toNat<b.length:Bool)||(!(!t84))) then some (bif t84 then true else decide (b.getD a.aK.toNat 0=0))>>=λt92=>if(aQ a.Key b.length||(!(!t92))) then if((a.Key.toNat<b.length:Bool)||(!(!t92))) then if(bif t92 then true else (b.getD a.Key.toNat 0=0:Bool)) then some (1,b)else some (2,b)else none else none else none else none else if (a.Kind=9:Bool) then if aQ a.aK b.length then if (a.aK.toNat<b.length:Bool) then some (aT .i64 1 (b.getD a.aK.toNat 0),b)else none else none else some (2,b)
theorem WL:bm BN DP:= .bC .n (.k Wq (.k Wr .n))
def o4:Bool×List aj×Int×Int×List aj×au->Option (Bool×List aj×au)
 |(d,t14,c,t16,a,b)=>
 if (t16<c:Bool) then if aQ t16 t14.length then DP (t14.getD t16.toNat aM,b)>>=λr=>if((r.2.length=b.length:Bool)&&true) then some (dU 2 r.1)>>=λt24=>if aQ t16 r.2.length then if (t16.toNat<r.2.length:Bool) then if !(t24=r.2.getD t16.toNat 0:Bool) then if aQ t16 r.2.length then if (t16.toNat<r.2.length:Bool) then o4 (true,t14,c,aT .i64 t16 1,a,r.2.set t16.toNat t24)else none else none else o4 (d,t14,c,aT .i64 t16 1,a,r.2)else none else none else none else none else some (d,a,b)
  partial_fixpoint
theorem U8:c5 221 0 [0,0] MZ o4:= .rx o4.partial_correctness (.k WL .n)
def tg:Bool×List aj×au->Option au
 |(d,a,c)=>
 if d then o4 (false,a,(a.length:Int),0,a,c)>>=λb=>tg (b.1,b.2.1,b.2.2)else some c
  partial_fixpoint
theorem Wf:c5 221 0 [0] O9 tg:= .rx tg.partial_correctness .n (.k U8 .n)
def C9(s:bq):Option au:=
 some (s.Types.length:Int)>>=λt10=>if wx 8 t10 then tg (true,s.Types,List.replicate t10.toNat 0)>>=λo=>some o else none
theorem W6:bm BH C9:= .bC .n (.k Wf .n)
def th:au×Int×Int×List Bool->Option (List Bool)
 |(t14,b,t16,a)=>
 if (t16<b:Bool) then if aQ t16 t14.length then some [decide (0<t14.getD t16.toNat 0)]>>=λt23=>if room 1 (a++t23).length then th (t14,b,aT .i64 t16 1,a++t23)else none else none else some a
  partial_fixpoint
theorem Wg:c5 165 0 [0] O' th:= .rx th.partial_correctness
def H'(s:bq):Option (List Bool×Int):=
 DO s>>=λr=>if !(r=0:Bool) then some ([],r)else C9 s>>=λa=>th (a,(a.length:Int),0,[])>>=λo=>some (o,0)
theorem W7:bm Bn H':= .bC (.k WK (.k W6 .n)) (.k Wg .n)
def sB:List Bool×Int×Int->Option ((Int) ⊕ (Unit))
 |(t15,a,t17)=>
 if (t17<a:Bool) then if aQ t17 t15.length then if !(t15.getD t17.toNat false) then some (.inl 10)else sB (t15,a,aT .i64 t17 1)else none else some (.inr ())
  partial_fixpoint
theorem Ws:c5 120 0 [0] Pa sB:= .rx sB.partial_correctness
def DQ(s:bq):Option Int:=
 H' s>>=λr=>if !(r.2=0:Bool) then some r.2 else sB (r.1,(r.1.length:Int),0)>>=λo=>match o with
 |.inl a=>
 some a
 |.inr b=>
 some 0
theorem WM:bm p' DQ:= .bC (.k W7 .n) (.k Ws .n)
def yh:bq×Int->Option Int
 |(s,t)=>
 DQ s>>=λr=>if !(r=0:Bool) then some r else if(bif (t<0:Bool)then true else ((s.Types.length:Int)<=t:Bool)) then some 4 else some 0
theorem W8:bm B' yh:= .bC (.k WM .n)
def DR:bY×bY->Option Int
 |(w,r)=>
 yh (w.eX,w.aB)>>=λa=>if !(a=0:Bool) then some a else yh (r.eX,r.aB)>>=λb=>some b
theorem WN:bm BP DR:= .bC (.k W8 .n)
def nD:Int×Int×List bt×bt->Option ((Int×List bt) ⊕ (List bt))
 |(c,t8,a,b)=>
 if (t8<c:Bool) then if aQ t8 a.length then if (t8.toNat<a.length:Bool) then if(eh b.bQ (a.getD t8.toNat dN).bQ&&(eh b.bF (a.getD t8.toNat dN).bF&&true)) then some (.inl (t8,a))else nD (c,aT .i64 t8 1,a,b)else none else none else some (.inr a)
  partial_fixpoint
theorem Um:c5 128 1 [0] M0 nD:= .rx nD.partial_correctness
def Hi(d:bt×List bt):Option (Int×List bt):=
 match d with
 |(v,b)=>
 nD ((b.length:Int),0,b,v)>>=λo=>match o with
 |.inl a=>
 some (a.1,a.2)
 |.inr c=>
 some ((-1),c)
theorem Vy:bm Fb Hi:= .bC .n (.k Um .n)
def Di:bt×List bt->Option (Bool×List bt)
 |(v,b)=>
 Hi (v,b)>>=λr=>if((r.2.length=b.length:Bool)&&true) then some (decide (0<=r.1),r.2)else none
theorem Un:bm B3 Di:= .bC (.k Vy .n)
def s8:Int×Int×List bt->Option (List bt)
 |(a,b,c)=>
 Di ((⟨a,b⟩:bt),c)>>=λr=>if((r.2.length=c.length:Bool)&&true) then if !r.1 then some [(⟨a,b⟩:bt)]>>=λt15=>if room 16 (r.2++t15).length then some (r.2++t15)else none else some r.2 else none
theorem R3:bm A2 s8:= .bC (.k Un .n)
def qu:List aU×Int×Int×aj×aj×List bt->Option (aj×aj×List bt)
 |(t35,e,t37,b,a,c)=>
 if (t37<e:Bool) then if aQ t37 t35.length then some (t35.getD t37.toNat aG)>>=λf=>gH (a,f.ah)>>=λd=>if d.2 then if aQ d.1 a.af.length then s8 (f.aB,(a.af.getD d.1.toNat aG).aB,c)>>=λg=>qu (t35,e,aT .i64 t37 1,b,a,g)else none else qu (t35,e,aT .i64 t37 1,b,a,c)else none else some (b,a,c)
  partial_fixpoint
theorem Vs:c5 86 0 [0] Qd qu:= .rx qu.partial_correctness (.k kg (.k R3 .n))
def xZ:bq×Int×bq×Int->Option (List bt)
 |(w,wt,r,rt)=>
 if aQ wt w.Types.length then some (w.Types.getD wt.toNat aM)>>=λa=>if aQ rt r.Types.length then some (r.Types.getD rt.toNat aM)>>=λc=>if !(a.Kind=c.Kind:Bool) then some []else qu (a.af,(a.af.length:Int),0,a,c,[])>>=λo=>if(bif (o.1.Kind=8:Bool)then (0<o.1.Max:Bool)else false) then s8 (o.1.Key,o.2.1.Key,o.2.2)>>=λb=>if(bif (o.1.Kind=9:Bool)then true else bif bif (o.1.Kind=7:Bool)then true else (o.1.Kind=8:Bool)then (0<o.1.Max:Bool)else false) then s8 (o.1.aK,o.2.1.aK,b)>>=λd=>some d else some b else if(bif (o.1.Kind=9:Bool)then true else bif bif (o.1.Kind=7:Bool)then true else (o.1.Kind=8:Bool)then (0<o.1.Max:Bool)else false) then s8 (o.1.aK,o.2.1.aK,o.2.2)>>=λe=>some e else some o.2.2 else none else none
theorem U9:bm uZ xZ:= .bC (.k R3 .n) (.k Vs .n)
def HU(a:bY×bY):Option (List bt×au):=EC xZ a
theorem Wt:bm P2 HU:=MX U9
def yW(a:aj):Option Int:=
 if (a.Kind=1:Bool) then some 2 else if (a.Kind=2:Bool) then some (dY .u64 (b7 .u64 a.bW) (b7 .u64 a.bT))>>=λt16=>if (t16<2147483647:Bool) then some (aT .i64 (b7 .i64 t16) 1)else some 2147483647 else if (a.Kind=4:Bool) then some (a.bo.length:Int)else if (a.Kind=3:Bool) then if (a.Max=0:Bool) then some 1 else some 2147483647 else some 2147483647
theorem WO:bm Ca yW:= .bC
def qA:List dO×Int×Int×aj×aj->Option ((Bool) ⊕ (aj×aj))
 |(t16,c,t18,b,a)=>
 if (t18<c:Bool) then if aQ t18 t16.length then pa (a,(t16.getD t18.toNat fE).ah)>>=λr=>if !r.2 then some (.inl false)else qA (t16,c,aT .i64 t18 1,b,a)else none else some (.inr (b,a))
  partial_fixpoint
theorem U':c5 88 0 [0] Qe qA:= .rx qA.partial_correctness (.k yc .n)
def qB:List aU×Int×Int×aj->Option ((Bool) ⊕ (Unit))
 |(t33,b,t35,a)=>
 if (t35<b:Bool) then if aQ t35 t33.length then gH (a,(t33.getD t35.toNat aG).ah)>>=λc=>if !c.2 then some (.inl false)else qB (t33,b,aT .i64 t35 1,a)else none else some (.inr ())
  partial_fixpoint
theorem Va:c5 88 0 [1] Qf qB:= .rx qB.partial_correctness (.k kg .n)
def yb(f:aj×aj):Option Bool:=
 match f with
 |(b,y)=>
 if y.Open then some true else qA (b.bo,(b.bo.length:Int),0,b,y)>>=λo=>match o with
 |.inl c=>
 some c
 |.inr a=>
 qB (a.1.af,(a.1.af.length:Int),0,a.2)>>=λd=>match d with
 |.inl e=>
 some e
 |.inr g=>
 some true
theorem Wu:bm Cb yb:= .bC .n (.k U' (.k Va .n))
def yi:bq×Int->Option Int
 |(s,t)=>
 nR s>>=λr=>if !(r=0:Bool) then some r else if(bif (t<0:Bool)then true else ((s.Types.length:Int)<=t:Bool)) then some 4 else some 0
theorem W9:bm A0 yi:= .bC (.k sG .n)
def DS:bq×Int×aa×bq×Int->Option Int
 |(w,wt,v,r,rt)=>
 yi (w,wt)>>=λa=>if !(a=0:Bool) then some a else yi (r,rt)>>=λb=>if !(b=0:Bool) then some b else v8 (w,wt,aa.eta v)>>=λc=>if !c then some 1 else some 0
theorem WQ:bm B0 DS:= .bC (.k W9 (.k SU .n))
def ti:List aj×List aj×au×au->Option (aa×Bool×List aj×List aj×au×au)
 |(b,c,e,a)=>
 tF 8 a>>=λr=>if((r.1.length=a.length:Bool)&&true) then some ((⟨0,false,0,[],0,[],[],[]⟩:aa),false,b,c,r.1,r.2)else none
theorem Sa:bm A1 ti:= .bC (.k kU .n)
def vi:Int×List aj×List aj×au×au->Option (aa×Bool×List aj×List aj×au×au)
 |(id,b,c,e,a)=>
 tF 8 a>>=λr=>if((r.1.length=a.length:Bool)&&true) then some [id]>>=λt13=>if room 8 (r.2++t13).length then some ((⟨0,false,0,[],0,[],[],[]⟩:aa),false,b,c,r.1,r.2++t13)else none else none
theorem R5:bm Bl vi:= .bC (.k kU .n)
mutual
def kh(v:aa):Option aa:=
 fv 120 v.aJ>>=λr=>fv 120 v.aq>>=λW=>fv 24 v.Rest>>=λX=>tj ((r.length:Int),0,v.Kind,v.b9,v.bw,v.bH,v.ah,0,false,0,[],0,r,W,X)>>=λo=>tk ((o.2.2.2.2.2.2.2.2.2.2.2.1.length:Int),0,o.1,o.2.1,o.2.2.1,o.2.2.2.1,o.2.2.2.2.1,o.2.2.2.2.2.1,o.2.2.2.2.2.2.1,o.2.2.2.2.2.2.2.1,o.2.2.2.2.2.2.2.2.1,o.2.2.2.2.2.2.2.2.2.1,o.2.2.2.2.2.2.2.2.2.2.2.1,o.2.2.2.2.2.2.2.2.2.2.1,o.2.2.2.2.2.2.2.2.2.2.2.2)>>=λa=>some (⟨a.1,a.2.1,a.2.2.1,a.2.2.2.1,a.2.2.2.2.1,a.2.2.2.2.2.2.2.2.2.2.1,a.2.2.2.2.2.2.2.2.2.2.2.1,a.2.2.2.2.2.2.2.2.2.2.2.2⟩:aa)
  partial_fixpoint
def tj:Int×Int×Int×Bool×Int×ar×Int×Int×Bool×Int×ar×Int×List aa×List aa×List cG->Option (Int×Bool×Int×ar×Int×Int×Bool×Int×ar×Int×List aa×List aa×List cG)
 |(S,t22,j,p,q,t,w,x,y,A,B,D,c,E,F)=>
 if (t22<S:Bool) then if aQ t22 c.length then if (t22.toNat<c.length:Bool) then kh (aa.eta (c.getD t22.toNat aH))>>=λY=>if aQ t22 c.length then if (t22.toNat<c.length:Bool) then tj (S,aT .i64 t22 1,j,p,q,t,w,x,y,A,B,D,c.set t22.toNat (aa.eta Y),E,F)else none else none else none else none else some (j,p,q,t,w,x,y,A,B,D,c,E,F)
  partial_fixpoint
def tk:Int×Int×Int×Bool×Int×ar×Int×Int×Bool×Int×ar×Int×List aa×List aa×List cG->Option (Int×Bool×Int×ar×Int×Int×Bool×Int×ar×Int×List aa×List aa×List cG)
 |(U,t37,G,H,I,J,K,L,M,N,O,P,e,Q,R)=>
 if (t37<U:Bool) then if aQ t37 e.length then if (t37.toNat<e.length:Bool) then kh (aa.eta (e.getD t37.toNat aH))>>=λZ=>if aQ t37 e.length then if (t37.toNat<e.length:Bool) then tk (U,aT .i64 t37 1,G,H,I,J,K,L,M,N,O,P,e.set t37.toNat (aa.eta Z),Q,R)else none else none else none else none else some (G,H,I,J,K,L,M,N,O,P,Q,e,R)
  partial_fixpoint
end
theorem Wv:fc qb kh/\fW 161 0 [1] zn tk/\fW 161 0 [0] zm tj:=kh.mutual_partial_correctness (e2 qb) (fU 161 0 [1] zn) (fU 161 0 [0] zm)
 (λ_ _ h1 a _ _ h=>fl h (.k kZ (.k lZ .n)) (.k (gF zm a) (.k (gF zn h1) .n)))
 (λ_ _ h0 h1 _ _ h=>gE zn h1 h (.k (c4 qb h0) .n))
 (λ_ _ h0 a _ _ h=>gE zm a h (.k (c4 qb h0) .n))
theorem W':bm qb kh:=c4 _ Wv.1
mutual
def vc(c:List aa×List aa):Option Bool:=
 match c with
 |(s1,f)=>
 if !((s1.length:Int)=(f.length:Int):Bool) then some false else va (f,s1,(s1.length:Int),0)>>=λo=>match o with
 |.inl p=>
 some p
 |.inr v=>
 some true
  partial_fixpoint
def lR:aa×aa->Option Bool
 |(a,b)=>
 some (bif bif bif bif decide (a.Kind=b.Kind)then gr a.b9 b.b9 else false then decide (a.bw=b.bw)else false then decide (a.bH=b.bH)else false then decide (a.ah=b.ah)else false)>>=λt37=>(if t37 then yp (a.Rest,b.Rest)else some false)>>=λr=>some (bif t37 then r else false)>>=λt44=>(if t44 then vc (a.aJ,b.aJ)else some false)>>=λq=>some (bif t44 then q else false)>>=λt51=>(if t51 then vc (a.aq,b.aq)else some false)>>=λt=>some (bif t51 then t else false)
  partial_fixpoint
def va:List aa×List aa×Int×Int->Option ((Bool) ⊕ (Unit))
 |(e,t15,j,t17)=>
 if (t17<j:Bool) then if aQ t17 t15.length then if aQ t17 e.length then lR (aa.eta (t15.getD t17.toNat aH),aa.eta (e.getD t17.toNat aH))>>=λr=>if !r then some (.inl false)else va (e,t15,j,aT .i64 t17 1)else none else none else some (.inr ())
  partial_fixpoint
end
theorem UB:fc uY vc/\fW 65 0 [0] z7 va/\fc sf lR:=vc.mutual_partial_correctness (e2 uY) (fU 65 0 [0] z7) (e2 sf)
 (λ_ h1 _ _ h=>fl h .n (.k (gF z7 h1) .n))
 (λ_ _ h1 a _ _ h=>gE z7 h1 h (.k (c4 sf a) .n))
 (λ_ h0 _ _ h=>fl h (.k R0 (.k (c4 uY h0) .n)))
theorem DT:bm sf lR:=c4 _ UB.2.2
def tl:aU×aa->Option Bool
 |(m,item)=>
 (if m.b8 then lR (aa.eta item,aa.eta m.bU)else some false)>>=λr=>some (bif m.b8 then r else false)
theorem Hk:bm Bm tl:= .bC (.k DT .n)
def Ib:bq×Int->Option Int
 |(s,t)=>
 nR (⟨s.Types⟩:bq)>>=λr=>if !(r=0:Bool) then some r else if(bif (t<0:Bool)then true else ((s.Types.length:Int)<=t:Bool)) then some 4 else some 0
theorem Xa:bm BS Ib:= .bC (.k sG .n)
def sR:bq×Int×aa->Option Bool
 |(s,t,v)=>
 pt ((⟨s.Types⟩:bq),t,aa.eta v,false)>>=λr=>some r
theorem Sw:bm BT sR:= .bC (.k Sv .n)
def vo:bq×Int×aa->Option Int
 |(s,t,v)=>
 Ib ((⟨s.Types⟩:bq),t)>>=λr=>if !(r=0:Bool) then some r else sR ((⟨s.Types⟩:bq),t,aa.eta v)>>=λa=>if !a then some 1 else some 0
theorem Xb:bm Bt vo:= .bC (.k Xa (.k Sw .n))
def sH:Int×Int×au->Option (Int×Int×au)
 |(b,a,c)=>
 if (128<=b:Bool) then if aQ a 10 then if (a.toNat<c.length:Bool) then sH (lC .u64 b 7,aT .i64 a 1,c.set a.toNat (rD .u8 (b7 .u8 b) 128))else none else none else some (b,a,c)
  partial_fixpoint
theorem WR:c5 98 0 [0] Qk sH:= .rx sH.partial_correctness
def pv(n:Int):Option ar:=
 sH (n,0,[0,0,0,0,0,0,0,0,0,0])>>=λo=>if aQ o.2.1 10 then if (o.2.1.toNat<o.2.2.length:Bool) then some (o.2.2.set o.2.1.toNat (b7 .u8 o.1))>>=λa=>some (aT .i64 o.2.1 1)>>=λt21=>if eH 0 t21 10 then if wX (0:Int).toNat t21.toNat a.length then some (strOf ((a.drop (0:Int).toNat).take t21.toNat))else none else none else none else none
theorem y4:bm Cg pv:= .bC .n (.k WR .n)
def qE(p:ar):Option ar:=
 pv (b7 .u64 (p.length:Int))>>=λr=>if (r.length+p.length<=ft:Bool) then some (r++p)else none
theorem Rx:bm BX qE:= .bC (.k y4 .n)
def s0:ar×ar->Option (Int×ar)
 |(s,b)=>
 some b>>=λr=>if((r.length=b.length:Bool)&&true) then if room 1 (r.length+s.length) then some ((s.length:Int),uF r s)else none else none
theorem R1:bm BW s0:= .bC (.k mC .n)
def vX:Int×Bool×ar->Option ar
 |(id,d,p)=>
 some (ky .u64 2 (b7 .u64 id))>>=λt10=>if d then pv (aT .u64 t10 1)>>=λr=>qE p>>=λa=>if (r.length+a.length<=ft:Bool) then some (r++a)else none else pv t10>>=λb=>qE p>>=λc=>if (b.length+c.length<=ft:Bool) then some (b++c)else none
theorem Hx:bm Ce vX:= .bC (.k y4 (.k Rx .n))
def C':aU×aa->Option Bool
 |(m,v)=>
 (if m.b8 then lR (aa.eta m.bU,aa.eta v)else some false)>>=λr=>some (bif m.b8 then r else false)
theorem Xc:bm Cd C':= .bC (.k DT .n)
def qp:List cG×Int×Int×List aj×Int×List fZ->Option (List aj×Int×List fZ)
 |(t57,e,t59,c,d,a)=>
 if (t59<e:Bool) then if aQ t59 t57.length then some (t57.getD t59.toNat ec)>>=λb=>vX (b.ah,false,b.Data)>>=λf=>some [(⟨b.ah,f⟩:fZ)]>>=λt72=>if room 24 (a++t72).length then qp (t57,e,aT .i64 t59 1,c,d,a++t72)else none else none else some (c,d,a)
  partial_fixpoint
theorem Ut:c5 53 1 [1] P8 qp:= .rx qp.partial_correctness (.k Hx .n)
def s7:Int×Int×List aj×Int×List fZ×ar->Option (List aj×Int×ar)
 |(e,t79,b,c,a,d)=>
 if (t79<e:Bool) then if aQ t79 a.length then if (t79.toNat<a.length:Bool) then s0 ((a.getD t79.toNat vW).text,d)>>=λf=>s7 (e,aT .i64 t79 1,b,c,a,f.2)else none else none else some (b,c,d)
  partial_fixpoint
theorem Uv:c5 53 1 [2] P9 s7:= .rx s7.partial_correctness (.k R1 .n)
def yq(b:ar):Option ar:=
 if eh (b.length:Int) (b.length:Int) then some b else none
theorem R2:bm BY yq:= .bC
def sI:Int×Int×au->Option (Int×au)
 |(b,c,a)=>
 if (0<b:Bool) then some (dY .i64 c 1)>>=λt10=>if aQ t10 8 then if (t10.toNat<a.length:Bool) then sI (lC .u64 b 8,t10,a.set t10.toNat (b7 .u8 b))else none else none else some (c,a)
  partial_fixpoint
theorem WS:c5 51 0 [0] P7 sI:= .rx sI.partial_correctness
def yH(n:Int):Option ar:=
 sI (n,8,[0,0,0,0,0,0,0,0])>>=λo=>if eH o.1 8 8 then if wX o.1.toNat ((8:Int).toNat-o.1.toNat) o.2.length then some (strOf ((o.2.drop o.1.toNat).take ((8:Int).toNat-o.1.toNat)))else none else none
theorem XT:bm BU yH:= .bC .n (.k WS .n)
mutual
def jT:Int×aa×Int×List aj×Int->Option (ar×List aj×Int)
 |(t,v,e,b,x)=>
 some (l7 x e)>>=λt19=>if aQ t b.length then some (b.getD t.toNat aM)>>=λa=>if (a.Kind=1:Bool) then if v.b9 then some ([1],b,t19)else some ([],b,t19)else if (a.Kind=2:Bool) then vp v.bw>>=λr=>yH r>>=λq=>some (q,b,t19)else if (a.Kind=3:Bool) then some (v.bH,b,t19)else if (a.Kind=4:Bool) then yH (b7 .u64 v.ah)>>=λO=>some (O,b,t19)else if (a.Kind=5:Bool) then CT (a,aa.eta v,e,b,t19)>>=λw=>some (w.1,w.2.1,w.2.2)else if (a.Kind=6:Bool) then x0 (a,aa.eta v,e,b,t19)>>=λA=>some (A.1,A.2.1,A.2.2)else if (a.Kind=9:Bool) then if ((v.aq.length:Int)=0:Bool) then some ([],b,t19)else if aQ 0 v.aq.length then jT (a.aK,aa.eta (v.aq.getD (0:Int).toNat aH),aT .i64 e 1,b,t19)>>=λF=>if ([1].length+F.1.length<=ft:Bool) then some ([1]++F.1,F.2.1,F.2.2)else none else none else lY (e,v.aq,(v.aq.length:Int),0,b,t19,aa.eta v,a,[])>>=λo=>yq o.2.2>>=λW=>some (W,o.1,o.2.1)else none
  partial_fixpoint
def CT:aj×aa×Int×List aj×Int->Option (ar×List aj×Int)
 |(a,v,e,b,x)=>
 qq (e,a.af,(a.af.length:Int),0,b,x,aa.eta v,[])>>=λo=>qp (o.2.2.1.Rest,(o.2.2.1.Rest.length:Int),0,o.1,o.2.1,o.2.2.2)>>=λE=>Hp E.2.2>>=λr=>if((r.length=E.2.2.length:Bool)&&true) then s7 ((r.length:Int),0,E.1,E.2.1,r,[])>>=λM=>yq M.2.2>>=λq=>some (q,M.1,M.2.1)else none
  partial_fixpoint
def x0:aj×aa×Int×List aj×Int->Option (ar×List aj×Int)
 |(a,v,e,b,x)=>
 pv (b7 .u64 v.ah)>>=λr=>gH (a,v.ah)>>=λq=>if !q.2 then if aQ 0 v.Rest.length then some (v.Rest.getD (0:Int).toNat ec)>>=λc=>if (r.length+c.Data.length<=ft:Bool) then some (r++c.Data,b,x)else none else none else if aQ q.1 a.af.length then if aQ 0 v.aq.length then jT ((a.af.getD q.1.toNat aG).aB,aa.eta (v.aq.getD (0:Int).toNat aH),aT .i64 e 1,b,x)>>=λG=>if (r.length+G.1.length<=ft:Bool) then some (r++G.1,G.2.1,G.2.2)else none else none else none
  partial_fixpoint
def lY:Int×List aa×Int×Int×List aj×Int×aa×aj×ar->Option (List aj×Int×ar)
 |(f,t84,S,t86,J,K,D,y,L)=>
 if (t86<S:Bool) then if aQ t86 t84.length then some (t84.getD t86.toNat aH)>>=λU=>if (y.Kind=8:Bool) then if aQ t86 D.aJ.length then jT (y.Key,aa.eta (D.aJ.getD t86.toNat aH),aT .i64 f 1,J,K)>>=λN=>qE N.1>>=λX=>s0 (X,L)>>=λY=>jT (y.aK,aa.eta U,aT .i64 f 1,N.2.1,N.2.2)>>=λP=>qE P.1>>=λZ=>s0 (Z,Y.2)>>=λae=>lY (f,t84,S,aT .i64 t86 1,P.2.1,P.2.2,aa.eta D,y,ae.2)else none else jT (y.aK,aa.eta U,aT .i64 f 1,J,K)>>=λQ=>qE Q.1>>=λag=>s0 (ag,L)>>=λam=>lY (f,t84,S,aT .i64 t86 1,Q.2.1,Q.2.2,aa.eta D,y,am.2)else none else some (J,K,L)
  partial_fixpoint
def qq:Int×List aU×Int×Int×List aj×Int×aa×List fZ->Option (List aj×Int×aa×List fZ)
 |(f,t18,R,t20,H,I,p,B)=>
 if (t20<R:Bool) then if aQ t20 t18.length then some (t18.getD t20.toNat aG)>>=λc=>if aQ t20 p.aq.length then C' ((⟨c.ah,c.Name,c.aB,c.cu,c.b8,aa.eta c.bU⟩:aU),aa.eta (p.aq.getD t20.toNat aH))>>=λO=>if !O then if aQ t20 p.aq.length then jT (c.aB,aa.eta (p.aq.getD t20.toNat aH),aT .i64 f 1,H,I)>>=λw=>vX (c.ah,c.cu,w.1)>>=λA=>some [(⟨c.ah,A⟩:fZ)]>>=λt53=>if room 24 (B++t53).length then qq (f,t18,R,aT .i64 t20 1,w.2.1,w.2.2,aa.eta p,B++t53)else none else none else qq (f,t18,R,aT .i64 t20 1,H,I,aa.eta p,B)else none else none else some (H,I,aa.eta p,B)
  partial_fixpoint
end
theorem Uw:fc nB jT/\fW 21 1 [0] xJ lY/\fc uW x0/\fc uV CT/\fW 53 1 [0] xK qq:=jT.mutual_partial_correctness (e2 nB) (fU 21 1 [0] xJ) (e2 uW) (e2 uV) (fU 53 1 [0] xK)
 (λ_ _ _ _ h0 h1 b c _ _ h=>fl h (.k RN (.k XT (.k (c4 uV c) (.k (c4 uW b) (.k (c4 nB h0) (.k R2 .n)))))) (.k (gF xJ h1) .n))
 (λ_ _ h0 h1 _ _ h=>gE xJ h1 h (.k (c4 nB h0) (.k Rx (.k R1 .n))))
 (λ_ h0 _ _ h=>fl h (.k y4 (.k kg (.k (c4 nB h0) .n))))
 (λ_ a _ _ h=>fl h (.k HC (.k R2 .n)) (.k (gF xK a) (.k Ut (.k Uv .n))))
 (λ_ _ h0 a _ _ h=>gE xK a h (.k Xc (.k (c4 nB h0) (.k Hx .n))))
theorem Vz:bm nB jT:=c4 _ Uw.1
def lg:bq×Int×aa->Option (ar×Int)
 |(s,t,v)=>
 vo ((⟨s.Types⟩:bq),t,aa.eta v)>>=λr=>if !(r=0:Bool) then some ([],r)else jT (t,aa.eta v,1,s.Types,0)>>=λa=>if(bif (4096<(a.1.length:Int):Bool)then true else (200<a.2.2:Bool)) then some ([],3)else some (a.1,0)
theorem HY:bm e8 lg:= .bC (.k Xb (.k Vz .n))
def D3:Int×Bool×ar->Option (ar×Int)
 |(id,a,kG)=>
 if(bif (id<1:Bool)then true else (1000<id:Bool)) then some ([],7)else if (4096<(kG.length:Int):Bool) then some ([],3)else vX (id,a,kG)>>=λr=>some (r,0)
theorem WD:bm BD D3:= .bC (.k Hx .n)
def vq(p:ar):Option ar:=
 pv (b7 .u64 (p.length:Int))>>=λr=>if (r.length+p.length<=ft:Bool) then some (r++p)else none
theorem WT:bm BE vq:= .bC (.k y4 .n)
mutual
def lf:bq×Int×aa->Option ar
 |(s,t,v)=>
 if aQ t s.Types.length then some (s.Types.getD t.toNat aM)>>=λa=>if (a.Kind=5:Bool) then q3 ([],a.af,(a.af.length:Int),0,s.Types,aa.eta v)>>=λo=>some o else if (a.Kind=6:Bool) then gH (a,v.ah)>>=λr=>pv (b7 .u64 v.ah)>>=λJ=>if aQ r.1 a.af.length then if aQ 0 v.aq.length then lf (s,(a.af.getD r.1.toNat aG).aB,aa.eta (v.aq.getD (0:Int).toNat aH))>>=λK=>if (J.length+K.length<=ft:Bool) then some (J++K)else none else none else none else if (a.Kind=9:Bool) then vk ([],v.aq,(v.aq.length:Int),0,s.Types,a)>>=λN=>some N else some (decide (a.Kind=7))>>=λt115=>if t115 then if t115 then k' ([],v.aq,(v.aq.length:Int),0,s.Types,aa.eta v,a)>>=λO=>some O else lg (s,t,aa.eta v)>>=λY=>some Y.1 else if (a.Kind=8:Bool) then k' ([],v.aq,(v.aq.length:Int),0,s.Types,aa.eta v,a)>>=λP=>some P else lg (s,t,aa.eta v)>>=λZ=>some Z.1 else none
  partial_fixpoint
def q3:ar×List aU×Int×Int×List aj×aa->Option ar
 |(x,t36,A,t38,b,f)=>
 if (t38<A:Bool) then if aQ t38 t36.length then some (t36.getD t38.toNat aG)>>=λc=>if aQ t38 f.aq.length then tl ((⟨c.ah,c.Name,c.aB,c.cu,c.b8,aa.eta c.bU⟩:aU),aa.eta (f.aq.getD t38.toNat aH))>>=λR=>if !R then if aQ t38 f.aq.length then lf ((⟨b⟩:bq),c.aB,aa.eta (f.aq.getD t38.toNat aH))>>=λS=>D3 (c.ah,c.cu,S)>>=λE=>if (x.length+E.1.length<=ft:Bool) then q3 (x++E.1,t36,A,aT .i64 t38 1,b,aa.eta f)else none else none else q3 (x,t36,A,aT .i64 t38 1,b,aa.eta f)else none else none else some x
  partial_fixpoint
def vk:ar×List aa×Int×Int×List aj×aj->Option ar
 |(Q,t101,L,t103,B,D)=>
 if (t103<L:Bool) then if aQ t103 t101.length then lf ((⟨B⟩:bq),D.aK,aa.eta (t101.getD t103.toNat aH))>>=λF=>if ([1].length+F.length<=ft:Bool) then vk ([1]++F,t101,L,aT .i64 t103 1,B,D)else none else none else some Q
  partial_fixpoint
def k':ar×List aa×Int×Int×List aj×aa×aj->Option ar
 |(q,t118,y,t120,p,w,j)=>
 if (t120<y:Bool) then if aQ t120 t118.length then some (t118.getD t120.toNat aH)>>=λM=>if (j.Kind=8:Bool) then if aQ t120 w.aJ.length then lf ((⟨p⟩:bq),j.Key,aa.eta (w.aJ.getD t120.toNat aH))>>=λU=>vq U>>=λG=>if (q.length+G.length<=ft:Bool) then some (q++G)>>=λt139=>lf ((⟨p⟩:bq),j.aK,aa.eta M)>>=λW=>vq W>>=λH=>if (t139.length+H.length<=ft:Bool) then k' (t139++H,t118,y,aT .i64 t120 1,p,aa.eta w,j)else none else none else none else lf ((⟨p⟩:bq),j.aK,aa.eta M)>>=λX=>vq X>>=λI=>if (q.length+I.length<=ft:Bool) then k' (q++I,t118,y,aT .i64 t120 1,p,aa.eta w,j)else none else none else some q
  partial_fixpoint
end
theorem Wh:fc nA lf/\fW 164 0 [2] zq k'/\fW 164 0 [1] zp vk/\fW 164 0 [0] zo q3:=lf.mutual_partial_correctness (e2 nA) (fU 164 0 [2] zq) (fU 164 0 [1] zp) (fU 164 0 [0] zo)
 (λ_ _ _ _ h0 h1 a b _ _ h=>fl h (.k kg (.k y4 (.k (c4 nA h0) (.k HY .n)))) (.k (gF zo b) (.k (gF zp a) (.k (gF zq h1) .n))))
 (λ_ _ h0 h1 _ _ h=>gE zq h1 h (.k (c4 nA h0) (.k WT .n)))
 (λ_ _ h0 a _ _ h=>gE zp a h (.k (c4 nA h0) .n))
 (λ_ _ h0 b _ _ h=>gE zo b h (.k Hk (.k (c4 nA h0) (.k WD .n))))
theorem RF:bm nA lf:=c4 _ Wh.1
end
end Go.Proofs.YtklfhpkljddjbaaGreatDoor
