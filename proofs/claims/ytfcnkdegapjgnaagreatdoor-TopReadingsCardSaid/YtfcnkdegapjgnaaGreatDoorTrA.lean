/- The functions of the program as functions of Lean, that its code does what they say, and what they answer; part A. -/
import Derived.Test.YtfcnkdegapjgnaaGreatDoorProg
import Derived.KernelRfl
import Derived.Shelf.Strconv.ParseIntPublic10
import Derived.Shelf.Strconv.Itoa4
import Derived.WalkKit
import Derived.Handy
import Derived.Deep.QuietTactic
import Derived.Shelf.SlGeneric
import Derived.Shelf.SlLaysF0
import Derived.Shelf.SlSortCmp.WholeK
import Derived.Lib.Small
import Derived.Test.YtfcnkdegapjgnaaGreatDoorTrLD

namespace Go.Proofs.YtfcnkdegapjgnaaGreatDoor
set_option linter.all false
section
open Go Go.Proofs.YtfcnkdegapjgnaaGreatDoor.Shv
open Tryz
set_option maxRecDepth 100000
def agI:List T:=[.slice [[.str [45,62]],[.str [46,46]],[.str [123]],[.str [125]],[.str [40]],[.str [41]],[.str [91]],[.str [93]],[.str [44]],[.str [59]],[.str [58]],[.str [61]],[.str [46]],[.str [33]],[.str [63]],[.str [64]],[.str [42]],[.str [124]]]]
def QG(g:Nat):List T:=match Nat.beq g 0 with
 |true=>agI
 |false=>[]
instance:da:=⟨[],QG,λ_=>false⟩
structure lG where
 af:Int
 av:Int
 gQ:Int
structure dA where
 Kind:Int
 A:Int
 B:Int
 C:Int
 cX:List lG
structure eo where
 ek:List dA
structure lF where
 S:eo
 T:Int
 C:List Int
structure lE where
 Kind:Int
 Node:Int
 A:Int
 B:Int
structure lH where
 D:lF
 L:List lE
structure dc where
 af:Int
 Name:List UInt8
structure cF where
 af:Int
 Data:List UInt8
structure I where
 Kind:Int
 b':Bool
 bq:Int
 bA:List UInt8
 af:Int
 aE:List I
 al:List I
 Rest:List cF
structure aO where
 af:Int
 Name:List UInt8
 av:Int
 bQ:Bool
 bD:Bool
 bk:I
structure ah where
 Kind:Int
 Name:List UInt8
 bz:Int
 bx:Int
 Max:Int
 a7:List dc
 ae:List aO
 Key:Int
 aH:Int
 Open:Bool
structure bh where
 Types:List ah
structure hX where
 id:Int
 text:List UInt8
structure eP where
 af:Int
 bQ:Bool
 Data:List UInt8
structure ml where
 Path:List Int
 Reason:Int
structure aY where
 V:I
 P:List UInt8
structure cJ where
 Found:Bool
 ew:Bool
 fx:List UInt8
 Value:I
abbrev FD:Nat:=0
abbrev VF:Nat:=1
abbrev xf:Nat:=3
abbrev Rg:Nat:=4
abbrev Q0:Nat:=5
def iA:lG:=⟨0,0,0⟩
def bl:dA:=⟨0,0,0,0,[]⟩
def Rh:eo:=⟨[]⟩
def Ri:lF:=⟨Rh,0,[]⟩
def nK:lE:=⟨0,0,0,0⟩
def WV:lH:=⟨Ri,[]⟩
def dm:dc:=⟨0,[]⟩
def b8:cF:=⟨0,[]⟩
def aK:I:=⟨0,false,0,[],0,[],[],[]⟩
def au:aO:=⟨0,[],0,false,false,aK⟩
def ar:ah:=⟨0,[],0,0,0,[],[],0,0,false⟩
def abS:bh:=⟨[]⟩
def Ci:hX:=⟨0,[]⟩
def lP:eP:=⟨0,false,[]⟩
def aaF:ml:=⟨[],0⟩
def dU:aY:=⟨aK,[]⟩
def eL:cJ:=⟨false,false,[],aK⟩
def gz:Nat->Type
 |0=>lH
 |1=>lF
 |2=>eo
 |3=>dA
 |4=>lG
 |5=>lE
 |6=>ah
 |7=>dc
 |8=>aO
 |9=>I
 |10=>cF
 |11=>bh
 |12=>hX
 |13=>eP
 |14=>ml
 |15=>aY
 |16=>cJ
 |_=>Bool
def iw:Nat->List aD
 |0=>[.slice (.nm 3),.int .u8,.slice (.int .u8),.slice (.nm 5)]
 |1=>[.slice (.nm 3),.int .u8,.slice (.int .u8)]
 |2=>[.slice (.nm 3)]
 |3=>[.int .u8,.int .u8,.int .u8,.int .u8,.slice (.nm 4)]
 |4=>[.int .u8,.int .u8,.int .u8]
 |5=>[.int .u8,.int .u8,.int .u8,.int .u8]
 |6=>[.int .i64,.str,.int .i64,.int .i64,.int .i64,.slice (.nm 7),.slice (.nm 8),.int .i64,.int .i64,.bool]
 |7=>[.int .i64,.str]
 |8=>[.int .i64,.str,.int .i64,.bool,.bool,.int .i64,.bool,.int .i64,.str,.int .i64,.slice (.nm 9),.slice (.nm 9),.slice (.nm 10)]
 |9=>[.int .i64,.bool,.int .i64,.str,.int .i64,.slice (.nm 9),.slice (.nm 9),.slice (.nm 10)]
 |10=>[.int .i64,.str]
 |11=>[.slice (.nm 6)]
 |12=>[.int .i64,.str]
 |13=>[.int .i64,.bool,.str]
 |14=>[.slice (.int .i64),.int .i64]
 |15=>[.int .i64,.bool,.int .i64,.str,.int .i64,.slice (.nm 9),.slice (.nm 9),.slice (.nm 10),.str]
 |16=>[.bool,.bool,.str,.int .i64,.bool,.int .i64,.str,.int .i64,.slice (.nm 9),.slice (.nm 9),.slice (.nm 10)]
 |_=>[.bool]
def agP:(n:Nat)->gz n->List (Cell gz)
 |0,(x:lH)=>[⟨.slice (.nm 3),x.D.S.ek⟩,⟨.int .u8,x.D.T⟩,⟨.slice (.int .u8),x.D.C⟩,⟨.slice (.nm 5),x.L⟩]
 |1,(x:lF)=>[⟨.slice (.nm 3),x.S.ek⟩,⟨.int .u8,x.T⟩,⟨.slice (.int .u8),x.C⟩]
 |2,(x:eo)=>[⟨.slice (.nm 3),x.ek⟩]
 |3,(x:dA)=>[⟨.int .u8,x.Kind⟩,⟨.int .u8,x.A⟩,⟨.int .u8,x.B⟩,⟨.int .u8,x.C⟩,⟨.slice (.nm 4),x.cX⟩]
 |4,(x:lG)=>[⟨.int .u8,x.af⟩,⟨.int .u8,x.av⟩,⟨.int .u8,x.gQ⟩]
 |5,(x:lE)=>[⟨.int .u8,x.Kind⟩,⟨.int .u8,x.Node⟩,⟨.int .u8,x.A⟩,⟨.int .u8,x.B⟩]
 |6,(x:ah)=>[⟨.int .i64,x.Kind⟩,⟨.str,x.Name⟩,⟨.int .i64,x.bz⟩,⟨.int .i64,x.bx⟩,⟨.int .i64,x.Max⟩,⟨.slice (.nm 7),x.a7⟩,⟨.slice (.nm 8),x.ae⟩,⟨.int .i64,x.Key⟩,⟨.int .i64,x.aH⟩,⟨.bool,x.Open⟩]
 |7,(x:dc)=>[⟨.int .i64,x.af⟩,⟨.str,x.Name⟩]
 |8,(x:aO)=>[⟨.int .i64,x.af⟩,⟨.str,x.Name⟩,⟨.int .i64,x.av⟩,⟨.bool,x.bQ⟩,⟨.bool,x.bD⟩,⟨.int .i64,x.bk.Kind⟩,⟨.bool,x.bk.b'⟩,⟨.int .i64,x.bk.bq⟩,⟨.str,x.bk.bA⟩,⟨.int .i64,x.bk.af⟩,⟨.slice (.nm 9),x.bk.aE⟩,⟨.slice (.nm 9),x.bk.al⟩,⟨.slice (.nm 10),x.bk.Rest⟩]
 |9,(x:I)=>[⟨.int .i64,x.Kind⟩,⟨.bool,x.b'⟩,⟨.int .i64,x.bq⟩,⟨.str,x.bA⟩,⟨.int .i64,x.af⟩,⟨.slice (.nm 9),x.aE⟩,⟨.slice (.nm 9),x.al⟩,⟨.slice (.nm 10),x.Rest⟩]
 |10,(x:cF)=>[⟨.int .i64,x.af⟩,⟨.str,x.Data⟩]
 |11,(x:bh)=>[⟨.slice (.nm 6),x.Types⟩]
 |12,(x:hX)=>[⟨.int .i64,x.id⟩,⟨.str,x.text⟩]
 |13,(x:eP)=>[⟨.int .i64,x.af⟩,⟨.bool,x.bQ⟩,⟨.str,x.Data⟩]
 |14,(x:ml)=>[⟨.slice (.int .i64),x.Path⟩,⟨.int .i64,x.Reason⟩]
 |15,(x:aY)=>[⟨.int .i64,x.V.Kind⟩,⟨.bool,x.V.b'⟩,⟨.int .i64,x.V.bq⟩,⟨.str,x.V.bA⟩,⟨.int .i64,x.V.af⟩,⟨.slice (.nm 9),x.V.aE⟩,⟨.slice (.nm 9),x.V.al⟩,⟨.slice (.nm 10),x.V.Rest⟩,⟨.str,x.P⟩]
 |16,(x:cJ)=>[⟨.bool,x.Found⟩,⟨.bool,x.ew⟩,⟨.str,x.fx⟩,⟨.int .i64,x.Value.Kind⟩,⟨.bool,x.Value.b'⟩,⟨.int .i64,x.Value.bq⟩,⟨.str,x.Value.bA⟩,⟨.int .i64,x.Value.af⟩,⟨.slice (.nm 9),x.Value.aE⟩,⟨.slice (.nm 9),x.Value.al⟩,⟨.slice (.nm 10),x.Value.Rest⟩]
 |_+17,(x:Bool)=>[⟨.bool,x⟩]
def QK:(n:Nat)->List (Cell gz)->Option (gz n)
 |0,l=>(aR.dec gz (iw 0) l).map λ(a0,a1,a2,a3)=>(⟨(⟨(⟨a0⟩:eo),a1,a2⟩:lF),a3⟩:lH)
 |1,l=>(aR.dec gz (iw 1) l).map λ(a0,a1,a2)=>(⟨(⟨a0⟩:eo),a1,a2⟩:lF)
 |2,l=>(aR.dec gz (iw 2) l).map λh=>(⟨h⟩:eo)
 |3,l=>(aR.dec gz (iw 3) l).map λ(a0,a1,a2,a3,a4)=>(⟨a0,a1,a2,a3,a4⟩:dA)
 |4,l=>(aR.dec gz (iw 4) l).map λ(a0,a1,a2)=>(⟨a0,a1,a2⟩:lG)
 |5,l=>(aR.dec gz (iw 5) l).map λ(a0,a1,a2,a3)=>(⟨a0,a1,a2,a3⟩:lE)
 |6,l=>(aR.dec gz (iw 6) l).map λ(a0,a1,a2,a3,a4,a5,a,b,c,a9)=>(⟨a0,a1,a2,a3,a4,a5,a,b,c,a9⟩:ah)
 |7,l=>(aR.dec gz (iw 7) l).map λ(a0,a1)=>(⟨a0,a1⟩:dc)
 |8,l=>(aR.dec gz (iw 8) l).map λ(a0,a1,a2,a3,a4,a5,a,b,c,a9,d,e,f)=>(⟨a0,a1,a2,a3,a4,(⟨a5,a,b,c,a9,d,e,f⟩:I)⟩:aO)
 |9,l=>(aR.dec gz (iw 9) l).map λ(a0,a1,a2,a3,a4,a5,a,b)=>(⟨a0,a1,a2,a3,a4,a5,a,b⟩:I)
 |10,l=>(aR.dec gz (iw 10) l).map λ(a0,a1)=>(⟨a0,a1⟩:cF)
 |11,l=>(aR.dec gz (iw 11) l).map λh=>(⟨h⟩:bh)
 |12,l=>(aR.dec gz (iw 12) l).map λ(a0,a1)=>(⟨a0,a1⟩:hX)
 |13,l=>(aR.dec gz (iw 13) l).map λ(a0,a1,a2)=>(⟨a0,a1,a2⟩:eP)
 |14,l=>(aR.dec gz (iw 14) l).map λ(a0,a1)=>(⟨a0,a1⟩:ml)
 |15,l=>(aR.dec gz (iw 15) l).map λ(a0,a1,a2,a3,a4,a5,a,b,c)=>(⟨(⟨a0,a1,a2,a3,a4,a5,a,b⟩:I),c⟩:aY)
 |16,l=>(aR.dec gz (iw 16) l).map λ(a0,a1,a2,a3,a4,a5,a,b,c,a9,d)=>(⟨a0,a1,a2,(⟨a3,a4,a5,a,b,c,a9,d⟩:I)⟩:cJ)
 |_+17,l=>(aR.dec gz [.bool] l).map λ(h:Bool)=>h
def PH(x:lG):List T:=[.int .u8 x.af,.int .u8 x.av,.int .u8 x.gQ]
def Aq(x:dA):List T:=[.int .u8 x.Kind,.int .u8 x.A,.int .u8 x.B,.int .u8 x.C,.slice (x.cX.map PH)]
def afn(x:eo):List T:=[.slice (x.ek.map Aq)]
def afo(x:lF):List T:=[.slice (x.S.ek.map Aq),.int .u8 x.T,.slice (x.C.map (λy=>[.int .u8 y]))]
def PG(x:lE):List T:=[.int .u8 x.Kind,.int .u8 x.Node,.int .u8 x.A,.int .u8 x.B]
def afq(x:lH):List T:=[.slice (x.D.S.ek.map Aq),.int .u8 x.D.T,.slice (x.D.C.map (λy=>[.int .u8 y])),.slice (x.L.map PG)]
def PE(x:dc):List T:=[.int .i64 x.af,.str x.Name]
def tX(x:cF):List T:=[.int .i64 x.af,.str x.Data]
def I.eta(x:I):I:=⟨x.Kind,x.b',x.bq,x.bA,x.af,x.aE,x.al,x.Rest⟩
theorem I.bj(x:I):x.eta=x:=by cases x;rfl
mutual
def k2:I->List T
 |⟨a0,a1,a2,a3,a4,a5,a,c⟩=>[.int .i64 a0,.bool a1,.int .i64 a2,.str a3,.int .i64 a4,.slice (wV a5),.slice (wV a),.slice (c.map tX)]
def wV:List I->List (List T)
 |[]=>[]
 |v::r=>k2 v::wV r
end
theorem Ry:∀l,wV l=l.map k2
 |[]=>rfl
 |v::r=>by simp only[wV,List.map];rw[Ry r]
theorem Y0(x:I):k2 x=[.int .i64 x.Kind,.bool x.b',.int .i64 x.bq,.str x.bA,.int .i64 x.af,.slice (x.aE.map k2),.slice (x.al.map k2),.slice (x.Rest.map tX)]:=by cases x;simp only[k2,Ry]
def PD(x:aO):List T:=[.int .i64 x.af,.str x.Name,.int .i64 x.av,.bool x.bQ,.bool x.bD,.int .i64 x.bk.Kind,.bool x.bk.b',.int .i64 x.bk.bq,.str x.bk.bA,.int .i64 x.bk.af,.slice (x.bk.aE.map k2),.slice (x.bk.al.map k2),.slice (x.bk.Rest.map tX)]
def PF(x:ah):List T:=[.int .i64 x.Kind,.str x.Name,.int .i64 x.bz,.int .i64 x.bx,.int .i64 x.Max,.slice (x.a7.map PE),.slice (x.ae.map PD),.int .i64 x.Key,.int .i64 x.aH,.bool x.Open]
def afm(x:bh):List T:=[.slice (x.Types.map PF)]
def afj(x:hX):List T:=[.int .i64 x.id,.str x.text]
def afl(x:eP):List T:=[.int .i64 x.af,.bool x.bQ,.str x.Data]
def afk(x:ml):List T:=[.slice (x.Path.map (λy=>[.int .i64 y])),.int .i64 x.Reason]
def afr(x:aY):List T:=[.int .i64 x.V.Kind,.bool x.V.b',.int .i64 x.V.bq,.str x.V.bA,.int .i64 x.V.af,.slice (x.V.aE.map k2),.slice (x.V.al.map k2),.slice (x.V.Rest.map tX),.str x.P]
def afp(x:cJ):List T:=[.bool x.Found,.bool x.ew,.str x.fx,.int .i64 x.Value.Kind,.bool x.Value.b',.int .i64 x.Value.bq,.str x.Value.bA,.int .i64 x.Value.af,.slice (x.Value.aE.map k2),.slice (x.Value.al.map k2),.slice (x.Value.Rest.map tX)]
def agO:(n:Nat)->gz n->List T
 |0,x=>afq x
 |1,x=>afo x
 |2,x=>afn x
 |3,x=>Aq x
 |4,x=>PH x
 |5,x=>PG x
 |6,x=>PF x
 |7,x=>PE x
 |8,x=>PD x
 |9,x=>k2 x
 |10,x=>tX x
 |11,x=>afm x
 |12,x=>afj x
 |13,x=>afl x
 |14,x=>afk x
 |15,x=>afr x
 |16,x=>afp x
 |_+17,(x:Bool)=>[.bool x]
def cT:cK where
 D:=gz
 jP:=λn=>match n with
  |0=>WV
  |1=>Ri
  |2=>Rh
  |3=>bl
  |4=>iA
  |5=>nK
  |6=>ar
  |7=>dm
  |8=>au
  |9=>aK
  |10=>b8
  |11=>abS
  |12=>Ci
  |13=>lP
  |14=>aaF
  |15=>dU
  |16=>eL
  |_+17=>false
 rE:=agP
 make:=QK
 du:=iw
 enc:=agO
 PJ:=λn x=>match n,x with
  |0,_|1,_|2,_|3,_|4,_|5,_|6,_|7,_|8,_|10,_|11,_|12,_|13,_|14,_|15,_|16,_=>rfl
  |9,x=>Y0 x
  |_+17,_=>rfl
 mk_eq:=λn l x h=>match n,x,h with
  |0,x,h|1,x,h|2,x,h|3,x,h|4,x,h|5,x,h|6,x,h|7,x,h|8,x,h|9,x,h|10,x,h|11,x,h|12,x,h|13,x,h|14,x,h|15,x,h|16,x,h=>by
   obtain⟨_,a,rfl⟩:=pE.1 h;exact aR.mc a
  |_+17,x,h=>by
   obtain⟨_,a,rfl⟩:=pE.1 h;exact aR.mc a
 QJ:=λn x=>match n,x with
  |0,_|1,_|2,_|3,_|4,_|5,_|6,_|7,_|8,_|9,_|10,_|11,_|12,_|13,_|14,_|15,_|16,_=>rfl
  |_+17,_=>rfl
 QI:=λe=>match e with
  |3=>some (.int .i64)
  |4=>some .bool
  |5=>some (.int .u8)
  |9=>some .str
  |37=>some (.nm 9)
  |46=>some (.nm 15)
  |85=>some (.nm 6)
  |90=>some (.nm 7)
  |97=>some (.nm 4)
  |114=>some (.nm 8)
  |129=>some (.nm 10)
  |228=>some (.nm 12)
  |254=>some (.nm 13)
  |_=>none
 ro:=[255]
 P0:=λs=>match Nat.beq s 11 with
  |true=>some (.nm 16)
  |false=>none
 own:=[([false,false,true,true],2,.int .i64),([false,true,true,false],1,.int .i64)]
 pos:=λn=>match n with
  |0|1|2|3|4|5|6|7|8|9|10|11|12|13|14|15|16=>by decide
  |_+17=>Nat.zero_lt_one
theorem acB:∀n (l:List (Cell gz)),l.map Cell.ty=iw n->∃x,QK n l=some x:=λn l h=>by
 obtain⟨x,a⟩:=aR.adW h
 match n,x,a with
 |0,x,a|1,x,a|2,x,a|3,x,a|4,x,a|5,x,a|6,x,a|7,x,a|8,x,a|9,x,a|10,x,a|11,x,a|12,x,a|13,x,a|14,x,a|15,x,a|16,x,a|_+17,x,a=>exact⟨_,cC (Option.map _) a⟩
theorem adI:cT.Total:=acB
end
section
open Go Go.Proofs.YtfcnkdegapjgnaaGreatDoor.Shv
open Tryz
set_option maxRecDepth 100000
open Go.Proofs Go.Proofs.YtfcnkdegapjgnaaGreatDoor Go.Shelf
@[reducible] def D5:da:=⟨[],QG,λe=>Nat.beq e 85⟩
def Y1:Go.Shelf.Ren:=⟨λ|129=>220|173=>165|246=>199|283=>236|284=>237|285=>238|286=>239|317=>261|318=>262|319=>263|320=>264|337=>278|338=>279|n=>n,λ|0=>0|2=>2|3=>3|4=>4|5=>5|9=>9|20=>20|37=>25|46=>224|51=>304|53=>111|171=>318|173=>320|212=>337|213=>338|232=>351|233=>352|n=>n,λ|17=>4|18=>5|19=>6|n=>n⟩
theorem afY:Lays.n173 prog Y1:={
 mixed:=by kernel_rfl
 f129:=func220.trans (cC some (by kernel_rfl))
 f173:=func165.trans (cC some (by kernel_rfl))
 f246:=func199.trans (cC some (by kernel_rfl))
 f283:=func236.trans (cC some (by kernel_rfl))
 f284:=func237.trans (cC some (by kernel_rfl))
 f285:=func238.trans (cC some (by kernel_rfl))
 f286:=func239.trans (cC some (by kernel_rfl))
 f317:=func261.trans (cC some (by kernel_rfl))
 f318:=func262.trans (cC some (by kernel_rfl))
 f319:=func263.trans (cC some (by kernel_rfl))
 f320:=func264.trans (cC some (by kernel_rfl))
 f337:=func278.trans (cC some (by kernel_rfl))
 f338:=func279.trans (cC some (by kernel_rfl))
 t0:=underlying0
 a0:=isAgg0
 z0:=sizeOf0
 v0:=zeroValue0
 t2:=underlying2
 a2:=isAgg2
 z2:=sizeOf2
 v2:=zeroValue2
 t3:=underlying3
 a3:=isAgg3
 z3:=sizeOf3
 v3:=zeroValue3
 t4:=underlying4
 a4:=isAgg4
 z4:=sizeOf4
 v4:=zeroValue4
 t5:=underlying5
 a5:=isAgg5
 z5:=sizeOf5
 v5:=zeroValue5
 t9:=underlying9
 a9:=isAgg9
 z9:=sizeOf9
 v9:=zeroValue9
 t20:=underlying20
 a20:=isAgg20
 z20:=sizeOf20
 v20:=zeroValue20
 t37:=underlying25
 a37:=isAgg25
 z37:=sizeOf25
 v37:=zeroValue25
 t46:=underlying224
 a46:=isAgg224
 z46:=sizeOf224
 v46:=zeroValue224
 t51:=underlying304
 a51:=isAgg304
 z51:=sizeOf304
 v51:=zeroValue304
 t53:=underlying111
 a53:=isAgg111
 z53:=sizeOf111
 v53:=zeroValue111
 t171:=underlying318
 a171:=isAgg318
 z171:=sizeOf318
 v171:=zeroValue318
 t173:=underlying320
 a173:=isAgg320
 z173:=sizeOf320
 v173:=zeroValue320
 t212:=underlying337
 a212:=isAgg337
 z212:=sizeOf337
 v212:=zeroValue337
 t213:=underlying338
 a213:=isAgg338
 z213:=sizeOf338
 t232:=underlying351
 a232:=isAgg351
 z232:=sizeOf351
 v232:=zeroValue351
 t233:=underlying352
 a233:=isAgg352
 z233:=sizeOf352
 v233:=zeroValue352
 g17:=by kernel_rfl
 g18:=by kernel_rfl
 g19:=by kernel_rfl}
def Y2:Go.Shelf.Ren:=⟨λ|129=>220|171=>260|174=>164|205=>259|243=>277|245=>198|246=>199|247=>197|279=>232|280=>233|281=>234|282=>235|283=>236|284=>237|285=>238|286=>239|287=>231|316=>258|317=>261|318=>262|319=>263|320=>264|321=>256|322=>257|337=>278|338=>279|n=>n,λ|0=>0|2=>2|3=>3|4=>4|5=>5|9=>9|20=>20|21=>21|37=>25|46=>224|51=>304|53=>111|75=>171|80=>175|85=>257|127=>232|143=>348|145=>350|167=>312|168=>315|171=>318|173=>320|175=>313|210=>334|212=>337|213=>338|232=>351|233=>352|n=>n,λ|15=>2|16=>3|17=>4|18=>5|19=>6|n=>n⟩
theorem afZ:LaysC.n174 prog Y2:={
 mixed:=by kernel_rfl
 f129:=func220.trans (cC some (by kernel_rfl))
 f171:=func260.trans (cC some (by kernel_rfl))
 f174:=func164.trans (cC some (by kernel_rfl))
 f205:=func259.trans (cC some (by kernel_rfl))
 f243:=func277.trans (cC some (by kernel_rfl))
 f245:=func198.trans (cC some (by kernel_rfl))
 f246:=func199.trans (cC some (by kernel_rfl))
 f247:=func197.trans (cC some (by kernel_rfl))
 f279:=func232.trans (cC some (by kernel_rfl))
 f280:=func233.trans (cC some (by kernel_rfl))
 f281:=func234.trans (cC some (by kernel_rfl))
 f282:=func235.trans (cC some (by kernel_rfl))
 f283:=func236.trans (cC some (by kernel_rfl))
 f284:=func237.trans (cC some (by kernel_rfl))
 f285:=func238.trans (cC some (by kernel_rfl))
 f286:=func239.trans (cC some (by kernel_rfl))
 f287:=func231.trans (cC some (by kernel_rfl))
 f316:=func258.trans (cC some (by kernel_rfl))
 f317:=func261.trans (cC some (by kernel_rfl))
 f318:=func262.trans (cC some (by kernel_rfl))
 f319:=func263.trans (cC some (by kernel_rfl))
 f320:=func264.trans (cC some (by kernel_rfl))
 f321:=func256.trans (cC some (by kernel_rfl))
 f322:=func257.trans (cC some (by kernel_rfl))
 f337:=func278.trans (cC some (by kernel_rfl))
 f338:=func279.trans (cC some (by kernel_rfl))
 t0:=underlying0
 a0:=isAgg0
 z0:=sizeOf0
 v0:=zeroValue0
 t2:=underlying2
 a2:=isAgg2
 z2:=sizeOf2
 v2:=zeroValue2
 t3:=underlying3
 a3:=isAgg3
 z3:=sizeOf3
 v3:=zeroValue3
 t4:=underlying4
 a4:=isAgg4
 z4:=sizeOf4
 v4:=zeroValue4
 t5:=underlying5
 a5:=isAgg5
 z5:=sizeOf5
 v5:=zeroValue5
 t9:=underlying9
 a9:=isAgg9
 z9:=sizeOf9
 v9:=zeroValue9
 t20:=underlying20
 a20:=isAgg20
 z20:=sizeOf20
 v20:=zeroValue20
 t21:=underlying21
 a21:=isAgg21
 z21:=sizeOf21
 v21:=zeroValue21
 t37:=underlying25
 a37:=isAgg25
 z37:=sizeOf25
 v37:=zeroValue25
 t46:=underlying224
 a46:=isAgg224
 z46:=sizeOf224
 v46:=zeroValue224
 t51:=underlying304
 a51:=isAgg304
 z51:=sizeOf304
 v51:=zeroValue304
 t53:=underlying111
 a53:=isAgg111
 z53:=sizeOf111
 v53:=zeroValue111
 t75:=underlying171
 a75:=isAgg171
 z75:=sizeOf171
 v75:=zeroValue171
 t85:=underlying257
 a85:=isAgg257
 z85:=sizeOf257
 v85:=zeroValue257
 t127:=underlying232
 a127:=isAgg232
 z127:=sizeOf232
 v127:=zeroValue232
 t143:=underlying348
 a143:=isAgg348
 z143:=sizeOf348
 v143:=zeroValue348
 t145:=underlying350
 a145:=isAgg350
 z145:=sizeOf350
 v145:=zeroValue350
 t167:=underlying312
 a167:=isAgg312
 z167:=sizeOf312
 v167:=zeroValue312
 t168:=underlying315
 a168:=isAgg315
 z168:=sizeOf315
 v168:=zeroValue315
 t171:=underlying318
 a171:=isAgg318
 z171:=sizeOf318
 v171:=zeroValue318
 t173:=underlying320
 a173:=isAgg320
 z173:=sizeOf320
 v173:=zeroValue320
 t175:=underlying313
 a175:=isAgg313
 z175:=sizeOf313
 v175:=zeroValue313
 t210:=underlying334
 a210:=isAgg334
 z210:=sizeOf334
 v210:=zeroValue334
 t212:=underlying337
 a212:=isAgg337
 z212:=sizeOf337
 v212:=zeroValue337
 t213:=underlying338
 a213:=isAgg338
 z213:=sizeOf338
 t232:=underlying351
 a232:=isAgg351
 z232:=sizeOf351
 v232:=zeroValue351
 t233:=underlying352
 a233:=isAgg352
 z233:=sizeOf352
 v233:=zeroValue352
 g15:=by kernel_rfl
 g16:=by kernel_rfl
 g17:=by kernel_rfl
 g18:=by kernel_rfl
 g19:=by kernel_rfl
 t80:=underlying175
 a80:=isAgg175
 z80:=sizeOf175
 v80:=zeroValue175
 i0:=by kernel_rfl
 i2:=by kernel_rfl
 i3:=by kernel_rfl
 i4:=by kernel_rfl
 i5:=by kernel_rfl
 i9:=by kernel_rfl
 i20:=by kernel_rfl
 i21:=by kernel_rfl
 i37:=by kernel_rfl
 i46:=by kernel_rfl
 i51:=by kernel_rfl
 i53:=by kernel_rfl
 i75:=by kernel_rfl
 i80:=by kernel_rfl
 i85:=by kernel_rfl
 i127:=by kernel_rfl
 i143:=by kernel_rfl
 i145:=by kernel_rfl
 i167:=by kernel_rfl
 i168:=by kernel_rfl
 i171:=by kernel_rfl
 i173:=by kernel_rfl
 i175:=by kernel_rfl
 i210:=by kernel_rfl
 i212:=by kernel_rfl
 i232:=by kernel_rfl
 i233:=by kernel_rfl
 m15:=by kernel_rfl
 m16:=by kernel_rfl
 m17:=by kernel_rfl
 m18:=by kernel_rfl
 m19:=by kernel_rfl
 c0:=by kernel_rfl
 c2:=by kernel_rfl
 c3:=by kernel_rfl
 c4:=by kernel_rfl
 c5:=by kernel_rfl
 c9:=by kernel_rfl
 c20:=by kernel_rfl
 c21:=by kernel_rfl
 c37:=by kernel_rfl
 c46:=by kernel_rfl
 c51:=by kernel_rfl
 c53:=by kernel_rfl
 c75:=by kernel_rfl
 c80:=by kernel_rfl
 c85:=by kernel_rfl
 c127:=by kernel_rfl
 c143:=by kernel_rfl
 c145:=by kernel_rfl
 c167:=by kernel_rfl
 c168:=by kernel_rfl
 c171:=by kernel_rfl
 c173:=by kernel_rfl
 c175:=by kernel_rfl
 c210:=by kernel_rfl
 c212:=by kernel_rfl
 c213:=by kernel_rfl
 c232:=by kernel_rfl
 c233:=by kernel_rfl}
section
open Go.Proofs Go.Proofs.YtfcnkdegapjgnaaGreatDoor Go.Shelf Go.Sort Go.RowKit Go.Lib
theorem adZ(x:Int)(h:x<48)(w:World):Calls prog 117 #[.int .u8 x] w λe w'=>e= .returned (.bool false)/\w'=w:=by
 have k:¬(48<=x):=by omega
 have a:decide (48<=x)=false:=by simp;omega
 go_enter func117,ntmps117
 go_wp2
 go_ret
 exact⟨rfl,rfl⟩
set_option maxHeartbeats 4000000 in
theorem acC (s:ByteArray)(n:Int)(w:World)(hs:1<s.size)(d:(s[1].toNat:Int)<48)
 (aC:Calls prog 164 #[.string (s.extract 0 1),.int .i64 10,.int .i64 64] w λe w'=>e= .returned (.tuple #[.int .i64 n,.nilIface])/\Below w.heap.size w w')
 (c:∀b,Calls prog 165 #[.int .i64 n,.int .i64 10] b λe w'=>e= .returned (.string (s.extract 0 1))/\w'=b):
 Calls prog 118 #[.string s] w λe w'=>e= .returned (.tuple #[.int .i64 n,.int .i64 1,.bool true])/\Below w.heap.size w w':=by
 go_enter func118,ntmps118
 go_wp2_with (first|(refine wp_loop_rounds 1 ?_;rw[rounds_succ])|(go_at_call 117;refine(adZ _ d _).mono ?_;rintro e w' ⟨rfl,rfl⟩)|(go_at_call 164;refine aC.mono ?_;rintro e w' ⟨rfl,a⟩))
 have aZ:(1:Int)<=s.size:=by omega
 have ba:(1:Nat)<=s.size:=by omega
 have bE:¬((s.size:Int)<1):=by omega
 have bU:¬(s.size<1):=by omega
 go_quiet (first|(go_at_call 165;refine Calls.quiet_of_same (c _)))
 go_wp2
 go_returns
 refine⟨?_,⟨a.os,a.tape,a.output,a.size,a.block⟩⟩;simp[Act.put]
theorem adX:∀k:Fin 10,Lib.parseIntB 64 [UInt8.ofNat (48+k.val)]= .ok (k.val:Int):=by decide
theorem adY:∀k:Fin 10,Ab k.val=[UInt8.ofNat (48+k.val)]:=by decide
theorem af9(s:ByteArray)(d c:UInt8)(r:List UInt8)(he:s.data.toList=d::c::r)(h1:48<=d.toNat)(k:d.toNat<=57)(i:c.toNat<48)(w:World):
 Calls prog 118 #[.string s] w λe w'=>e= .returned (.tuple #[.int .i64 ((d.toNat-48:Nat):Int),.int .i64 1,.bool true])/\Below w.heap.size w w':=by
 have l:s.size=r.length+2:=by
  have:=cC List.length he
  simpa using this
 have aI:1<s.size:=by omega
 have aj:s[1]=c:=by
  have h:s.data.toList[1]?=some c:=by rw[he];rfl
  have g:s.data.toList[1]?=some s[1]:=by
   rw[eu (by rw[he];simp)];rfl
  rw[g]at h;exact lW h
 have b:(s.extract 0 1).data.toList=[d]:=by
  rw[ByteArray.data_extract,Array.toList_extract,he];rfl
 have f:d=UInt8.ofNat (48+(d.toNat-48)):=by
  rw[show 48+(d.toNat-48)=d.toNat by omega];simp
 refine acC s _ w aI (by rw[aj];omega) ?_ ?_
 . have a:=adX ⟨d.toNat-48,by omega⟩;refine(Any.strconv_ParseInt_10_at64_ok afZ (s.extract 0 1) ?_ _ (by rw[b];rw[<-f]at a;exact a) w).mono ?_
   . have:=cC List.length b;have i:(s.extract 0 1).size=1:=by simpa using this
     omega
   . rintro e w' ⟨rfl,rfl|⟨t,rfl⟩⟩
     . exact⟨rfl,Below.refl _ _⟩
     . exact⟨rfl,Lib.bytesWorld_below _ _ _⟩
 . intro j;refine(Any.strconv_FormatInt_10_small afY (d.toNat-48) (by omega) j).mono ?_
   rintro e w' ⟨rfl,rfl⟩
   refine⟨?_,rfl⟩;rw[acz (by omega)];have a:=adY ⟨d.toNat-48,by omega⟩;have a:Ab (d.toNat-48)=[UInt8.ofNat (48+(d.toNat-48))]:=a;rw[a,<-f,<-b]
end
def AA:Nat->List V->Option V:=λf args=>match Nat.beq f 118,args with
 |true,[.c (.t (.str (d::c::_)))]=>match decide (48<=d.toNat/\d.toNat<=57/\c.toNat<48)with
  |true=>some (.aS [.c (.t (.int .i64 ((d.toNat-48:Nat):Int))),.c (.t (.int .i64 1)),.c (.t (.bool true))])
  |false=>none
 |_,_=>none
theorem abT(f:Nat)(args:List V)(r:V)(h:AA f args=some r):@dG D5 prog f args [] 0 (λD E p=>D=r/\E=[]/\p=0):=by
 unfold AA at h;split at h
 . rename_i d c t A;split at h
   . rename_i z;cases h;obtain⟨h1,g,q⟩:=fm z;have:=Ep A;subst this;intro φ S w B o J I G H vs n;cases n with|cons k n=>
     cases n;cases k with|c k=>
     have C:∀(l:List UInt8) (b:Value),b5 w S (.str l) b->∃s:ByteArray,s.data.toList=l/\b= .string s:=λl b h=>by cases h with|str s hs=>exact⟨s,rfl,rfl⟩
     obtain⟨s,hs,rfl⟩:=C _ _ k;refine(af9 s d c t hs h1 g q w).mono ?_
     rintro e w' ⟨rfl,cA⟩
     have m:fw w S w' S:=⟨λ_ _ h=>h,λa j h=>nU (cA.block a (o.st a j h)) j⟩
     refine⟨_,_,φ,S,[],0,rfl,⟨rfl,rfl,rfl⟩,cd.aS [_,_,_] [_,_,_] rfl λi v x h1 g=>?_,rfl,⟨λb x h=>by simp[aJ]at h,λb F x y h=>by simp[aJ]at h,λa j h=>k' (o.st a j h) cA.size⟩,λb x h=>by simp[aJ]at h,
      ⟨cA.os,cA.tape,cA.output,cA.size,λa u _=>cA.block a u,m,λ_ _ h=>.inl h⟩,λb x h=>by simp[aJ]at h,λ_ _=>rfl⟩
     match i with
     |0=>cases h1;cases g;exact .c (b5.int _ _)
     |1=>cases h1;cases g;exact .c (b5.int _ _)
     |2=>cases h1;cases g;exact .c (b5.bool _)
     |_+3=>cases h1
   . cases h
 . cases h
def zt:List UInt8:=[114,101,99,111,114,100,32,80,32,123,32,49,32,120,58,32,105,110,116,40,48,46,46,57,41,59,32,50,32,121,58,32,98,111,111,108,32,61,32,116,114,117,101,59,32,125,59]
def agq:bh:=⟨[⟨5,[80],0,0,0,[],[⟨1,[120],1,false,false,⟨0,false,0,[],0,[],[],[]⟩⟩,⟨2,[121],2,false,true,⟨1,true,0,[],0,[],[],[]⟩⟩],0,0,false⟩,⟨2,[],0,9,0,[],[],0,0,false⟩,⟨1,[],0,0,0,[],[],0,0,false⟩]⟩
def EI:bh×Int×Int:=(agq,0,0)
def EA(s:List UInt8):Option (bh×Int×Int):=match decide (s=zt)with
 |true=>some EI
 |false=>none
def A4:cx cT:=⟨15,[.c (.hole .str)],[],[.str],.aS [.row 11,.c (.hole (.int .i64)),.c (.hole (.int .i64))],[],[.nm 11,.int .i64,.int .i64],λs=>EA s⟩
theorem aaG :@zi D5 prog AA 300 60 15 [.c (.t (.str zt))] [] 0=some (fb (A4.res EI),[],0):=by kernel_rfl
theorem aaH:hz prog A4:=by
 intro(s:List UInt8) r bP l J1 d ay;have a:EA s=some r:=bP;unfold EA at a;split at a
 . rename_i hs;cases a;have:=fm hs;subst this;cases d with|cons a1 d=>
   cases d;have az:=b6.iR a1;subst az;have f:dG prog 15 [.c (.t (.str zt))] [] 0 (λi j e=>i=fb (A4.res EI)/\j=[]/\e=0):=
    @Sz D5 prog AA abT 300 60 15 [.c (.t (.str zt))] [] 0 _ [] 0 aaG
   refine dG.mono (dG.conv (J':=[]) (args':=[.c (.t (.str zt))]) (.cons (.c (.refl _)) .nil) (λb x h=>by simp[aJ]at h) f) ?_
   rintro m s1 k ⟨rfl,rfl,rfl⟩
   exact⟨rfl,(sK (by rfl)).1,λb x g=>by cases g⟩
 . cases a
theorem TD:gS prog 15=true:=by kernel_rfl
theorem acD:gD prog A4:=⟨TD,aaH⟩
instance:Inhabited hX:=⟨Ci⟩
instance:Inhabited (cT.D 12):=⟨Ci⟩
def rb(x y:hX):Bool:=decide (x.id<y.id)
def WD(l:List hX):Option (List hX):=some (kt rb l)
section
open Go.Proofs Go.Proofs.YtfcnkdegapjgnaaGreatDoor Go.Sort Go.RowKit Go.Lib
theorem agz(x:Int)(w:World):Calls prog 174 #[.int .i64 x] w λe w'=>e= .returned (.bool false)/\w'=w:=by
 go_enter func174,ntmps174
 go_wp2
 go_ret
 exact⟨by simp,rfl⟩
set_option maxHeartbeats 1000000 in
theorem agy(x y:Int)(w:World):Calls prog 134 #[.int .i64 x,.int .i64 y] w λe w'=>e= .returned (.int .i64 (Lib.compareInt x y))/\w'=w:=by
 go_enter func134,ntmps134
 go_wp2_with (go_at_call 174;refine(agz _ _).mono ?_;rintro e w' ⟨rfl,a⟩;rw[a])
 all_goals (go_ret;refine⟨?_,rfl⟩;unfold Lib.compareInt;(repeat' split)<;>first|rfl|(exfalso;omega))
def zs(x:hX):List Value:=[.int .i64 x.id,.string ⟨x.text.toArray⟩]
set_option maxHeartbeats 1000000 in
theorem agx(x y:Int)(s t:ByteArray)(W:World):Calls prog 133 #[.agg #[.int .i64 x,.string s],.agg #[.int .i64 y,.string t]] W λe w'=>e= .returned (.int .i64 (Lib.compareInt x y))/\∃q c,w'=grow (W.drewN q) c:=by
 have a:=λb=>agy x y b
 generalize Lib.compareInt x y=r at a⊢
 go_enter func133,ntmps133
 go_wp2_with (go_at_call 134;refine(a _).mono ?_;rintro e w' ⟨rfl,rfl⟩)
 go_ret
 exact⟨rfl,0,_,by rw[alloc_eq_grow,alloc_eq_grow,grow_grow];rfl⟩
def K7:Go.Shelf.Ren:=⟨λ|6=>132|15=>173|14=>172|28=>219|29=>220|20=>211|21=>212|22=>213|23=>214|24=>215|25=>216|26=>217|27=>218|46=>243|47=>244|48=>245|49=>246|50=>247|57=>265|n=>n,λ|22=>225|24=>228|25=>231|3=>3|39=>224|0=>0|53=>304|55=>111|4=>4|46=>298|45=>297|50=>119|5=>5|9=>9|66=>322|70=>326|76=>339|77=>340|n=>n,λ|n=>n⟩
theorem PY:SlLaysF0.n6 prog K7:={
 mixed:=by kernel_rfl
 f6:=⟨f132.name,by decide,func132.trans (cC some (by kernel_rfl))⟩
 f14:=⟨f172.name,by decide,func172.trans (cC some (by kernel_rfl))⟩
 f15:=func173.trans (cC some (by kernel_rfl))
 f20:=⟨f211.name,by decide,func211.trans (cC some (by kernel_rfl))⟩
 f21:=⟨f212.name,by decide,func212.trans (cC some (by kernel_rfl))⟩
 f22:=⟨f213.name,by decide,func213.trans (cC some (by kernel_rfl))⟩
 f23:=⟨f214.name,by decide,func214.trans (cC some (by kernel_rfl))⟩
 f24:=⟨f215.name,by decide,func215.trans (cC some (by kernel_rfl))⟩
 f25:=⟨f216.name,by decide,func216.trans (cC some (by kernel_rfl))⟩
 f26:=⟨f217.name,by decide,func217.trans (cC some (by kernel_rfl))⟩
 f27:=⟨f218.name,by decide,func218.trans (cC some (by kernel_rfl))⟩
 f28:=func219.trans (cC some (by kernel_rfl))
 f29:=func220.trans (cC some (by kernel_rfl))
 f46:=⟨f243.name,by decide,func243.trans (cC some (by kernel_rfl))⟩
 f47:=func244.trans (cC some (by kernel_rfl))
 f48:=func245.trans (cC some (by kernel_rfl))
 f49:=⟨f246.name,by decide,func246.trans (cC some (by kernel_rfl))⟩
 f50:=⟨f247.name,by decide,func247.trans (cC some (by kernel_rfl))⟩
 f57:=⟨f265.name,by decide,func265.trans (cC some (by kernel_rfl))⟩
 t0:=underlying0
 a0:=isAgg0
 z0:=sizeOf0
 v0:=zeroValue0
 t3:=underlying3
 a3:=isAgg3
 z3:=sizeOf3
 v3:=zeroValue3
 t4:=underlying4
 a4:=isAgg4
 z4:=sizeOf4
 v4:=zeroValue4
 t5:=underlying5
 a5:=isAgg5
 z5:=sizeOf5
 v5:=zeroValue5
 t9:=underlying9
 a9:=isAgg9
 z9:=sizeOf9
 v9:=zeroValue9
 t22:=underlying225
 a22:=isAgg225
 z22:=sizeOf225
 v22:=zeroValue225
 t25:=underlying231
 a25:=isAgg231
 z25:=sizeOf231
 v25:=zeroValue231
 t39:=underlying224
 a39:=isAgg224
 z39:=sizeOf224
 v39:=zeroValue224
 t45:=underlying297
 a45:=isAgg297
 z45:=sizeOf297
 v45:=zeroValue297
 t46:=underlying298
 a46:=isAgg298
 z46:=sizeOf298
 v46:=zeroValue298
 t50:=underlying119
 a50:=isAgg119
 z50:=sizeOf119
 v50:=zeroValue119
 t53:=underlying304
 a53:=isAgg304
 z53:=sizeOf304
 v53:=zeroValue304
 t55:=underlying111
 a55:=isAgg111
 z55:=sizeOf111
 v55:=zeroValue111
 t66:=underlying322
 a66:=isAgg322
 z66:=sizeOf322
 v66:=zeroValue322
 t70:=underlying326
 a70:=isAgg326
 z70:=sizeOf326
 v70:=zeroValue326
 t76:=underlying339
 a76:=isAgg339
 z76:=sizeOf339
 v76:=zeroValue339
 t77:=underlying340
 a77:=isAgg340
 z77:=sizeOf340
 v77:=zeroValue340}
theorem Km:ltOf (λx y:hX=>Lib.compareInt x.id y.id)=rb:=by
 funext x y
 unfold ltOf rb Lib.compareInt;by_cases h1:x.id<y.id
 . simp[h1]
 . by_cases a:y.id<x.id<;>simp[h1,a]
theorem EZ:SWO rb:=acx (λx:hX=>x.id)
set_option maxHeartbeats 2000000 in
theorem agB(p:Option Addr)(cap:Nat)(a:Value)(w:World):Calls prog 211 #[.slice p 0 cap,.int .i64 0,.int .i64 0,a] w λe w'=>e= .returned (.tuple #[])/\w'=w:=by
 go_enter func211,ntmps211
 go_wp2
 refine wp_loop_rounds 1 ?_;rw[rounds_succ]
 go_wp2
 go_end0
 exact⟨rfl,rfl⟩
set_option maxHeartbeats 2000000 in
theorem agC(p:Option Addr)(cap:Nat)(b:Int)(a:Value)(w:World):Calls prog 172 #[.slice p 0 cap,.int .i64 0,.int .i64 0,.int .i64 b,a] w λe w'=>e= .returned (.tuple #[])/\w'=w:=by
 have hi:=λW=>agB p cap a W
 go_enter func172,ntmps172
 go_wp2
 refine wp_loop_rounds 1 ?_;rw[rounds_succ]
 go_wp2_with (go_at_call 211;refine(hi _).mono ?_;rintro e w' ⟨rfl,rfl⟩)
 (try simp only[Exit.inBlock,Exit.then]);refine bodyPost_ret (results_none rfl _ _ _) rfl ?_
 exact⟨rfl,rfl⟩
set_option maxHeartbeats 2000000 in
theorem agA(p:Option Addr)(cap:Nat)(a:Value)(w:World):Calls prog 132 #[.slice p 0 cap,a] w λe w'=>e= .returned (.tuple #[])/\w'=w:=by
 have b:=λc W=>agC p cap c a W
 have ad:∀W,Calls prog 173 #[.int .u64 0] W λe w'=>e= .returned (.int .i64 (Lib.bitLen 0:Nat))/\w'=W:=λW=>by
  have h:=Any.bits_Len (SlLaysF0.n15.bits (P:=prog) (ρ:=K7) {PY with}) 0 W (by omega) (by omega);exact h
 go_enter func132,ntmps132
 go_wp2_with (first|(go_at_call 173;refine(ad _).mono ?_;rintro e w' ⟨rfl,rfl⟩)|(go_at_call 172;refine(b _ _).mono ?_;rintro e w' ⟨rfl,rfl⟩))
 go_end0
 exact⟨rfl,rfl⟩
theorem agD(blk off cap:Nat)(d:Array (cT.D 12))(w:World)(c:HoldsK zs 2 w blk off d)(f:blk<w.heap.size)(g:d.size<4611686018427387904):
 Calls prog 132 #[.slice (some ⟨blk,off,none⟩) d.size cap,.func (.func 133) #[] #[]] w λe w'=>e= .returned (.tuple #[])/\∃n os,w'=sortWorldK zs 2 w blk off n (pdq rb d 0 d.size (Lib.bitLen d.size) true true) os:=by
 have b:∀args w,(callFunc 133 args).run prog w= .ok (.enter 133 args) w:=enters_of func133 (by kernel_rfl) rfl
 have h:=AnyQ.slices_SortFunc_eq (α:=hX) PY 2 isAgg228 sizeOf228 zs (λ_=>rfl) (λx v a=>by simp[zs]at a;rcases a with rfl|rfl<;>rfl) (λx y=>Lib.compareInt x.id y.id) (by rw[Km];exact EZ) 133 #[] blk off cap d w b (λ_ _ _ _ x y=>agx x.id y.id _ _ _) c f g;rw[Km]at h;exact h
theorem acY:gS prog 132=true:=by kernel_rfl
def Fe:cx cT:=EY cT 132 12 133 (kt (α:=cT.D 12) rb)
theorem WW:hz prog Fe:=abP (U:=cT) (n:=12) zs rb EZ (λ_=>rfl) (λw S x j t v h a=>YW w S x.id x.text j t v h a) agD agA
end
theorem Ff:gD prog Fe:=⟨acY,WW⟩
def IG:Go.Shelf.Ren:=⟨λ|240=>136|276=>175|n=>n,λ|0=>0|4=>4|9=>9|20=>20|37=>25|70=>167|72=>169|164=>268|n=>n,λn=>n⟩
theorem af0:Lays.n240 prog IG:={
 mixed:=by kernel_rfl
 f240:=func136.trans (cC some (by kernel_rfl))
 f276:=func175.trans (cC some (by kernel_rfl))
 t0:=underlying0
 a0:=isAgg0
 z0:=sizeOf0
 v0:=zeroValue0
 t4:=underlying4
 a4:=isAgg4
 z4:=sizeOf4
 v4:=zeroValue4
 t9:=underlying9
 a9:=isAgg9
 z9:=sizeOf9
 v9:=zeroValue9
 t20:=underlying20
 a20:=isAgg20
 z20:=sizeOf20
 v20:=zeroValue20
 t70:=underlying167
 a70:=isAgg167
 z70:=sizeOf167
 v70:=zeroValue167
 t72:=underlying169
 a72:=isAgg169
 z72:=sizeOf169
 v72:=zeroValue169
 t164:=underlying268
 a164:=isAgg268
 z164:=sizeOf268
 v164:=zeroValue268}
theorem af1:Builder.X72 prog IG:={
 sizeBuilder:=by kernel_rfl
 liesBuilder:=by kernel_rfl}
theorem acZ:gS prog 136=true:=by kernel_rfl
def R2:cx cT:=CU cT 136 169 5
theorem WE:hz prog R2:=aaE af0 af1 rfl rfl
theorem R3:gD prog R2:=⟨acZ,WE⟩
theorem VG:gS prog 88=true:=by kernel_rfl
def Q8:cx cT:=Hm cT 88 (.int .i64) 8
theorem UC:hz prog Q8:=YR (te:=3) (sz:=1) (bytes:=8) (z:=[.t (.int .i64 0)]) func88 (by kernel_rfl) (by kernel_rfl) (by kernel_rfl) rfl rfl
theorem A9:gD prog Q8:=⟨VG,UC⟩
theorem VH:gS prog 148=true:=by kernel_rfl
def Q9:cx cT:=CT cT 148 (.nm 9) 120
theorem VN:hz prog Q9:=Kh (te:=37) (sz:=8) (bytes:=120) (z:=[.t (.int .i64 0),.t (.bool false),.t (.int .i64 0),.t (.str []),.t (.int .i64 0),.bC,.bC,.bC]) func148 (by kernel_rfl) (by kernel_rfl) (by kernel_rfl) rfl rfl
theorem Fz:gD prog Q9:=⟨VH,VN⟩
theorem VI:gS prog 149=true:=by kernel_rfl
def Q':cx cT:=CT cT 149 (.nm 10) 24
theorem VO:hz prog Q':=Kh (te:=129) (sz:=2) (bytes:=24) (z:=[.t (.int .i64 0),.t (.str [])]) func149 (by kernel_rfl) (by kernel_rfl) (by kernel_rfl) rfl rfl
theorem FA:gD prog Q':=⟨VI,VO⟩
end
section
open Go Go.Proofs.YtfcnkdegapjgnaaGreatDoor.Shv
open Tryz
set_option maxRecDepth 100000
abbrev bd(e:eA)(F:aR cT.D e.ts->Option (aR cT.D e.us)):Prop:=gD prog (e.s F)
abbrev ck(f kk:Nat)(p:List Nat)(e:f')(F:aR cT.D e.ts->Option (en cT e.outs)):Prop:=mU prog f kk p e F
abbrev NU(e:eA):Prop:=ib prog e
abbrev ez(e:eA):aR cT.D e.ts->aR cT.D e.us->Prop:=zP prog cT e
abbrev eW(f kk:Nat)(p:List Nat)(e:f'):aR cT.D e.ts->en cT e.outs->Prop:=we prog cT f kk p e
abbrev eD(e:eA)(F:aR cT.D e.ts->Option (aR cT.D e.us)):Prop:=∀h r,F h=some r->ez e h r
abbrev eX(f kk:Nat)(p:List Nat)(e:f')(F:aR cT.D e.ts->Option (en cT e.outs)):Prop:=∀h r,F h=some r->eW f kk p e h r
theorem eH{e:eA}{h:aR cT.D e.ts}{r:aR cT.D e.us}{x:Option (aR cT.D e.us)}(h0:x=some r){fs:List (cx cT)}(b:hT prog fs:=by exact .n){a:List (Nat×gF cT)}(ad:jg prog e.f e.st.length [] a:=by exact .n)(k:NU e:=by exact .m (by kernel_rfl))(c:pR (ho fs) (kh a) prog e h=x:=by kernel_rfl):ez e h r:= .at k b ad (c.trans h0)
theorem e'(e:f'){f kk:Nat}{p:List Nat}{F:aR cT.D e.ts->Option (en cT e.outs)}(bP:eX f kk p e F){h:aR cT.D e.ts}{o:en cT e.outs}{x:Option (en cT e.outs)}(h0:x=some o){fs:List (cx cT)}(b:hT prog fs:=by exact .n){a:List (Nat×gF cT)}(ad:jg prog f kk p a:=by exact .n)(c:qE (ho fs) (kh a) kk (pK prog f p) e F h=x:=by kernel_rfl):eW f kk p e h o:= .at bP b ad (c.trans h0)
theorem cB(e:eA){F:aR cT.D e.ts->Option (aR cT.D e.us)}(h:eD e F)(k:NU e:=by exact .m (by kernel_rfl)):bd e F:= .of k h
theorem fa(e:f'){f kk:Nat}{p:List Nat}{F:aR cT.D e.ts->Option (en cT e.outs)}(h:eX f kk p e F):ck f kk p e F:= .of h
def zI:List dJ:=[.arr (.nm 16)]
def l3:List dJ:=[.arr (.nm 15)]
def wa:List dJ:=[.arr (.int .u8)]
def Dt:List (Nat×dw):=[(8,.c (.arr 0))]
def Iv:List (Nat×dw):=[(4,aC 1 0),(6,aC 2 0)]
def Ds:List (Nat×dw):=[(1,aC 0 0),(2,aC 1 0)]
def Iu:List (Nat×dw):=[(6,aC 2 0),(10,aC 3 0)]
def v':List (Nat×dw):=[(6,aC 2 0),(7,aa .bool)]
def v8:List dJ:=[.box [.hole (aT 6),.hole ai]]
def It:List (Nat×dw):=[(1,aa ai),(2,aC 0 0),(6,aa ai)]
def v7:List (Nat×dw):=[(1,aC 0 0),(3,.c (.arr 1)),(4,aa ai)]
def Dr:List fO:=[.hole (aT 6),.arr 5,.hole gm,.hole ai]
def Is:List fO:=[.hole (aT 6),.arr 4,.hole gm,.hole ai]
def S2:List dJ:=[.box [.bC],.box [.arr 2],.arr (.nm 3)]
def Ir:List (Nat×dw):=[(0,aa (.int .u64)),(3,aC 0 0),(4,aa ai)]
def S1:List dJ:=[.box [.hole (aT 6),.hole ai],.arr (.nm 12)]
def S0:List (Nat×dw):=[(3,aa .bool),(4,aC 0 0),(6,aC 1 0),(9,aC 2 0)]
def Iq:List (Nat×dw):=[(1,aa ai),(2,aC 0 0),(5,.c (.arr 1)),(6,aa ai)]
def SZ:List (Nat×dw):=[(1,aC 0 0),(3,.c (.arr 1)),(4,aa ai),(5,aa ai)]
def vY:List fO:=[.hole (aT 6),.hole (.slice (.int .u8)),.hole .bool]
def SY:List dJ:=[.box [.hole (aT 6),.hole ai],.bK 9,.arr (.nm 12)]
def tm:List dJ:=[.box [.hole (aT 6),.arr 1,.hole gm,.hole ai],.arr ai]
def SX:List (Nat×dw):=[(3,aC 0 0),(4,aC 1 0),(5,aC 2 0),(6,aC 3 0),(7,aa ai)]
def SV:List (Nat×dw):=[(0,aC 0 0),(4,aC 2 0),(6,aC 3 0),(8,aa re),(10,aC 4 0)]
def SU:List dJ:=[.box [.hole (aT 6),.hole ai],.bX 169 ((.cr 2)),.buf 5]
def SS:List (Nat×dw):=[(3,aC 0 0),(5,aC 1 0),(7,aC 2 0),(14,aa .str),(15,aa ai)]
def tl:List dJ:=[.box [.hole (aT 6),.hole (aT 6),.arr 1,.hole gm],.arr ai]
def j2:List dJ:=[.box vY]
def SR:List (Nat×dw):=[(2,aa ai),(3,aC 0 0),(7,aC 1 0),(8,.c (.arr 2)),(13,aa ai)]
def vX:List dJ:=[.box [.hole (aT 6),.arr 2,.hole gm,.hole ai],.gone,.arr ai]
def SQ:List (Nat×dw):=[(1,aC 0 0),(2,aC 1 0),(35,.c (.arr 2)),(36,aa ai),(37,aa ai)]
def SP:List (Nat×dw):=[(1,aC 0 0),(2,aC 1 0),(20,.c (.arr 2)),(21,aa ai),(22,aa ai)]
def SO:List (Nat×dw):=[(2,aa ai),(4,aC 0 0),(7,.c (.arr 1)),(8,aa (aT 15)),(9,aa ai)]
def vW:List dJ:=[.box [.hole (aT 6),.hole (aT 6),.arr 2,.hole gm],.gone,.arr ai]
def Io:List (Nat×dw):=[(3,aa (aT 15)),(4,aa (aT 15)),(5,.c (.arr 0)),(6,aa ai),(7,aa ai)]
def hS:List fO:=[.hole ai,.hole .bool,.hole ai,.hole .str,.hole ai,.bC,.bC,.bC]
def Dq:List dJ:=[.box [.hole (aT 6),.arr 3,.hole gm,.hole ai],.gone,.bK 9,.arr ai]
def SN:List fO:=[.hole ai,.hole .bool,.hole ai,.hole .str,.hole ai,.bC,.arr 3,.bC]
def SM:List dJ:=[.box [.hole (aT 6),.hole (aT 6),.arr 2,.arr 3],.gone,.arr ai,.arr ai]
def SL:List fO:=[.hole ai,.hole .bool,.hole ai,.hole .str,.hole ai,.bC,.arr 5,.arr 6]
def SK:List (Nat×dw):=[(1,aa ai),(2,aa .bool),(3,aC 0 0),(7,aC 1 0),(8,.c (.arr 2)),(9,aa ai)]
def SJ:List dJ:=[.box [.hole (aT 6),.arr 3,.arr 4,.hole ai],.gone,.bK 9,.arr ai,.arr ai]
def SI:List dJ:=[.box [.hole (aT 6),.hole (aT 6),.arr 3,.hole gm],.gone,.arr (.nm 9),.arr ai]
def SH:List (Nat×dw):=[(2,aa ai),(4,aC 0 0),(7,.c (.arr 1)),(8,aa (aT 15)),(9,aa (aT 15)),(10,aa ai)]
def SG:List fO:=[.hole ai,.hole .str,.hole ai,.hole ai,.hole ai,.arr 5,.bC,.hole ai,.hole ai,.hole .bool]
def Dn:List fO:=[.hole ai,.hole .bool,.hole ai,.hole .str,.hole ai,.hole (aT 9),.hole (aT 9),.hole (aT 10)]
def SF:List (Nat×dw):=[(2,aa ai),(4,aC 0 0),(7,.c (.arr 1)),(8,aa (aT 15)),(9,aa (aT 15)),(10,aa ai),(11,aC 2 0),(12,aa ai)]
def lr:List fO:=[.hole ai,.hole .str,.hole ai,.hole ai,.hole ai,.hole (aT 7),.hole (aT 8),.hole ai,.hole ai,.hole .bool]
def Du:List fO:=[.hole .bool,.hole .bool,.hole .str,.hole ai,.hole .bool,.hole ai,.hole .str,.hole ai,.bC,.bC,.bC]
def S6:List fO:=[.hole .bool,.hole .bool,.hole .str,.hole ai,.hole .bool,.hole ai,.hole .str,.hole ai,.hole (aT 9),.hole (aT 9),.hole (aT 10)]
def S5:List (Nat×dw):=[(2,aa ai),(3,aC 0 0),(4,aC 1 0),(7,aa ai),(9,aa ai),(10,.c (.arr 2)),(11,aa ai),(12,aC 3 0),(14,aa (aT 15)),(15,.c (.arr 4)),(16,aa ai)]
def S4:List dJ:=[.arr (.nm 16),cf (aT 6),.box Du,.bK 6]
def S3:List dJ:=[.box [.hole ai,.hole .bool,.hole ai,.hole .str,.hole ai,.arr 3,.arr 2,.arr 4],.box hS,.arr (.nm 9),.arr (.nm 9),.arr (.nm 10)]
def vZ:List dJ:=[.box [.hole ai,.hole .bool,.hole ai,.hole .str,.hole ai,.arr 2,.arr 3,.arr 4],.box hS,.arr (.nm 9),.arr (.nm 9),.arr (.nm 10)]
def Ip:List dJ:=[.box Dr,.gone,.bK 6,.box hS,.box [.hole ai,.hole .bool,.hole ai,.hole .str,.hole ai,.bC,.arr 6,.bC],.arr ai,.arr (.nm 9)]
def Dp:List dJ:=[.box Dr,.gone,.bK 6,.box hS,.box [.hole ai,.hole .bool,.hole ai,.hole .str,.hole ai,.arr 6,.bC,.bC],.arr ai,.arr (.nm 9)]
def SE:List dJ:=[.box [.hole (aT 6),.hole (aT 6),.arr 7,.hole gm],.gone,.bK 6,.bK 9,.bK 6,.box hS,.box [.hole ai,.hole .bool,.hole ai,.hole .str,.hole ai,.bC,.arr 8,.bC],.arr ai,.arr (.nm 9)]
def Im:List dJ:=[.box vY,.box hS,.box lr,.box [.hole ai,.hole .bool,.hole ai,.hole .str,.hole ai,.bC,.arr 4,.bC],.arr (.nm 9)]
def aeL:=a8 27 [.row 2,aa ai] (aa ai)
def aeS:=a8 28 [aa ai] (aa .bool)
def aeT:=a8 29 [.row 3] (aa ai)
def aeU:=a8 30 [.row 3] (aa ai)
def OW:=bI 0 v7 [.bK 3,.arr ai] [bN (.exit 0) [(3,.c (.arr 0))] [.arr ai]] [] [(.slot 3,ai)]
def aeV:=a8 31 [.row 3] (aa gm) [OW]
def ad9:=a8 113 [aa ai] (aa .bool)
def Pg:=bI 0 [(3,aC 0 0),(7,aa ai),(9,aa ai)] [cf (aT 3)] [e1 6 ai,gN 0]
def ae8:=a8 62 [.row 2,aa ai,aa (.int .u8)] (aa ai) [Pg]
def ae':=a8 64 [aa ai] (aa .bool)
def OY:=bI 0 [(1,aa (.int .u8)),(2,aC 0 0),(5,aa ai),(6,aa ai)] [cf (aT 3)] [e1 4 ai,gN 0]
def aeX:=a8 33 [.row 2,aa (.int .u8)] (aa ai) [OY]
def ae9:=a8 63 [.row 2,aa ai,aa (.int .u8)] (.aS [.row 9,aa .bool])
def Lx:=bI 0 [(1,aa ai),(2,aa .bool),(3,aC 0 0),(7,aC 1 0),(8,.c (.arr 2)),(9,aa ai),(10,aa ai)] [cf (aT 3),.bK 3,.arr (.nm 8)] [bN (.exit 2) SK [cf (aT 3),.bK 3,.arr (.nm 8)]]
def OX:=bI 0 SK [cf (aT 3),.bK 3,.arr (.nm 8)] [bN (.exit 0) Dt [.arr (.nm 8)]] [Lx] [(.slot 8,.nm 8)]
def aeW:=a8 32 [.row 2,aa ai,aa .bool] (aa (aT 8)) [OX]
def Ly:=bI 0 [(1,aC 0 0),(2,aC 1 0),(4,aa ai),(5,aC 2 0),(6,aa ai),(8,aC 3 0),(9,aa gm),(10,aa ai)] [cf (aT 3),.box [.bC],.box [.arr 4],.box SG,.arr (.nm 6),.arr (.nm 7)] [bN (.exit 3) [(1,aC 0 0),(2,aC 1 0),(4,aa ai),(5,aC 2 0),(6,aa ai),(8,aC 3 0)] [cf (aT 3),.box [.bC],.box [.arr 4],.box SG,.arr (.nm 6),.arr (.nm 7)]] [] [(.via 8 5,.nm 7)]
def Od:=bI 0 [(1,aC 0 0),(2,aC 1 0),(4,aa ai),(5,aC 2 0),(6,aa ai)] [cf (aT 3),.box [.bC],.box [.arr 3],.arr (.nm 6)] [bN (.exit 0) [(2,aC 0 0),(5,aC 1 0)] [.box [.bC],.box [.arr 2],.arr (.nm 6)]] [Ly] [(.via 5 0,.nm 6)]
def tT:=a8 12 [.row 2] (.aS [.row 11,aa .bool]) [Od]
def ad2:=a8 107 [aC 0 0,aa ai] (aa ai) [] j2 j2
def Mp:=bI 0 [(0,aC 0 0),(5,aa .str),(6,aa ai)] j2 [bN (.exit 0) [(5,aa .str)] j2]
def ad3:=a8 108 [aC 0 0,aa ai] (aa .str) [Mp] j2 j2
def ad4:=a8 109 [aC 0 0] (aa .bool) [] j2 j2
def Mq:=bI 0 It [.bK 6] [bN .ret [(4,aa ai),(5,aa .bool)],gN 0]
def aeq:=a8 195 [.row 6,aa ai] (.aS [aa ai,aa .bool]) [Mq]
def Mr:=bI 0 It [.bK 6] [bN .ret [(4,aa ai),(5,aa .bool)],gN 0]
def aer:=a8 196 [.row 6,aa ai] (.aS [aa ai,aa .bool]) [Mr]
def aei:=a8 162 [.row 6,aa ai] (aa .bool)
def Ms:=bI 0 [(3,aC 1 0),(5,aa ai)] [.box vY,.bK 6] [bN (.exit 0) [(5,aa ai)] j2]
def ad6:=a8 110 [aC 0 0,.row 6] (aa ai) [Ms] j2 j2
def ad7:=a8 111 [aC 0 0,aa ai] (.row 10) [] j2 j2
def aee:=a8 140 [aa .bool,aa .bool] (aa ai)
def afb:=a8 81 [aa ai] (aa (.int .u64))
def afe:=a8 84 [.row 9,.row 9] (aa ai)
def Mt:=bI 0 SX [.bK 9,.bK 9,.bK 9,.box hS] [bN (.exit 0) SX [.bK 9,.bK 9,.bK 9,.box hS]]
def ad8:=a8 112 [.row 9,.row 9,.row 9] (.row 9) [Mt]
def wJ:=bI 0 [(0,aC 0 0),(4,aC 1 0),(5,aC 2 0),(6,aC 3 0),(7,aa ai)] Im [bN (.exit 1) [(0,aC 0 0),(4,aC 1 0),(5,aC 2 0),(6,aC 3 0)] Im] [] [(.via 6 6,.nm 9)]
def wK:=bI 1 [(0,aC 0 0),(4,aC 1 0),(5,aC 2 0),(6,aC 3 0),(9,aa ai)] Im [bN (.exit 3) Iv [.box vY,.box hS,.box SN,.arr (.nm 9)]] [] [(.via 6 6,.nm 9)]
def wL:=bI 2 [(0,aC 0 0),(4,aC 1 0),(5,aC 2 0),(6,aC 3 0),(10,aa ai)] [.box vY,.box hS,.box lr,.box Dn] [bN (.exit 5) Iv [.box vY,.box hS,.box Dn]]
def rz:=a8 61 [aC 0 0,aa ai] (.row 9) [wJ,wK,wL] j2 j2
def aeB:=a8 25 [.row 11,aa ai,aa (.slice (.int .u8))] (.row 9)
def aeG:=a8 26 [.row 11,aa ai,aa (.slice (.int .u8))] (.row 9)
def ad5:=a8 11 [.row 1] (.aS [.row 11,aa ai,.row 9,.row 9,aa .bool])
def Oi:=bI 0 [(1,aa (aT 5)),(4,aC 0 0),(5,aC 1 0),(6,aa ai)] S2 [bN (.exit 0) [(4,aC 0 0),(5,aC 1 0)] S2]
def ad':=a8 13 [.row 2,aa (aT 5)] (.row 2) [Oi]
def OZ:=bI 0 [(1,aa ai),(2,aC 0 0),(5,aa ai)] [.bK 9] [bN (.exit 0) [(1,aa ai),(2,aC 0 0)] [.bK 9]]
def wB:=bI 1 It [.bK 9] [bN (.exit 2) [(1,aa ai),(2,aC 0 0)] [.bK 9]]
def wC:=bI 2 [(1,aa ai),(2,aC 0 0),(7,aa ai)] [.bK 9] [bN (.exit 4) [(1,aa ai)]]
def wA:=a8 34 [.row 9,aa ai] (aa ai) [OZ,wB,wC]
def aed:=a8 14 [.row 9] (aa .bool)
def e6:=a8 4 [.row 0] (.aS [.row 11,.row 11,aa ai,.row 9,aa .bool])
def Mu:=bI 0 [(0,aa (aT 7)),(1,aa (aT 7)),(12,aa ai),(13,aa ai)] [] [e1 4 .bool,gN 0]
def OJ:=a8 189 [aa (aT 7),aa (aT 7)] (aa .bool) [Mu]
def Pf:=bI 0 [(0,aa (aT 10)),(1,aa (aT 10)),(12,aa ai),(13,aa ai)] [] [e1 4 .bool,gN 0]
def Pe:=a8 59 [aa (aT 10),aa (aT 10)] (aa .bool) [Pf]
def y7:=bI 0 [(1,aa (aT 9)),(2,.c (.fn 192 [])),(15,aa (aT 9)),(16,aa ai),(17,aa ai)] [] [e1 6 .bool,gN 0]
def Am:=a8 60 [aa (aT 9),aa (aT 9),.c (.fn 192 [])] (aa .bool) [y7]
def wx:=a8 192 [.row 9,.row 9] (aa .bool)
def ON:=a8 191 [.row 8,.row 8] (aa .bool)
def Mv:=bI 0 [(1,aa (aT 8)),(2,.c (.fn 191 [])),(15,aa (aT 8)),(16,aa ai),(17,aa ai)] [] [e1 6 .bool,gN 0]
def OM:=a8 190 [aa (aT 8),aa (aT 8),.c (.fn 191 [])] (aa .bool) [Mv]
def Ov:=a8 155 [.row 6,.row 6] (aa .bool)
def Ob:=a8 116 [aa (.int .u8)] (aa .bool)
def Oc:=a8 117 [aa (.int .u8)] (aa .bool)
def Mw:=bI 0 [(0,aa .str),(18,aa ai),(19,aa ai)] [] [e1 2 .bool,gN 0]
def Oq:=a8 152 [aa .str] (aa .bool) [Mw]
def Mx:=bI 0 [(0,aa gm),(1,aa re),(5,.c (.mp 0)),(9,aa gm),(10,aa ai),(11,aa ai)] [.set] [e1 4 .bool,bN (.exit 0) [(0,aa gm)]]
def OH:=a8 187 [aa gm,aa re] (aa .bool) [Mx]
def My:=bI 0 [(0,aa (aT 7)),(3,.c (.arr 0)),(4,.c (.arr 1)),(7,aa (aT 7)),(8,aa ai),(9,aa ai)] [.arr ai,.arr .str] [bN (.exit 0) [(0,aa (aT 7)),(3,.c (.arr 0)),(4,.c (.arr 1))] [.arr ai,.arr .str]] [] [(.slot 3,ai),(.slot 4,.str)]
def Ot:=a8 153 [aa (aT 7)] (aa .bool) [My]
def OI:=a8 188 [.row 9] (aa .bool)
def Mz:=bI 0 [(1,aC 0 0),(3,.c (.arr 1)),(4,.c (.arr 2)),(8,aa (aT 8)),(9,aa ai),(10,aa ai)] [.bK 6,.arr ai,.arr .str] [e1 2 .bool,bN (.exit 0) [(1,aC 0 0),(3,.c (.arr 1)),(4,.c (.arr 2))] [.bK 6,.arr ai,.arr .str]] [] [(.slot 3,ai),(.slot 4,.str)]
def Ou:=a8 154 [.row 6] (aa .bool) [Mz]
def Pz:=a8 97 [.row 6] (aa .bool)
def PB:=bI 0 [(1,aC 0 0),(3,.c (.arr 1)),(7,aa (aT 8)),(8,aa ai),(9,aa ai)] [.bK 6,.arr ai] [bN (.exit 0) [(1,aC 0 0),(3,.c (.arr 1))] [.bK 6,.arr ai]] [] [(.slot 3,ai)]
def PA:=a8 98 [.row 6] (aa gm) [PB]
def Lz:=bI 0 [(1,aC 0 0),(3,.c (.mp 1)),(5,aC 2 0),(14,aa (aT 6)),(15,aa ai),(16,aa ai),(38,aa gm),(39,aa ai),(40,aa ai)] [cf (aT 6),.set,.box lr] [e1 2 ai,bN (.exit 2) [(1,aC 0 0),(3,.c (.mp 1)),(5,aC 2 0),(14,aa (aT 6)),(15,aa ai),(16,aa ai)] [cf (aT 6),.set,.box lr]]
def Pd:=bI 0 [(1,aC 0 0),(3,.c (.mp 1)),(14,aa (aT 6)),(15,aa ai),(16,aa ai)] [cf (aT 6),.set] [e1 2 ai,gN 0] [Lz]
def Pc:=a8 56 [.row 11] (aa ai) [Pd]
def Ph:=a8 71 [.row 11,aa ai] (aa ai)
def OD:=a8 181 [.row 9] (.row 9)
def Oj:=a8 142 [.row 9] (aa .bool)
def Px:=a8 90 [.row 7,aC 0 0] (aa .bool) [] [cf ai] [cf ai]
def Pw:=bI 0 [(0,aa (aT 7)),(1,.c (.fn 90 [0])),(7,aa ai),(8,aa ai)] [cf ai] [bN .ret [(4,aa ai)] [cf ai],bN (.exit 0) [] [cf ai]]
def Pv:=a8 89 [aa (aT 7),.c (.fn 90 [0])] (aa ai) [Pw] [cf ai] [cf ai]
def Pa:=a8 52 [.row 6,aa ai] (.aS [aa ai,aa .bool])
def Ol:=a8 143 [aa ai] (aa .bool)
def Oo:=a8 147 [.row 8,aC 0 0] (aa .bool) [] [cf ai] [cf ai]
def MA:=bI 0 [(0,aa (aT 8)),(1,.c (.fn 147 [0])),(7,aa ai),(8,aa ai)] [cf ai] [bN .ret [(4,aa ai)] [cf ai],bN (.exit 0) [] [cf ai]]
def On:=a8 146 [aa (aT 8),.c (.fn 147 [0])] (aa ai) [MA] [cf ai] [cf ai]
def Py:=a8 91 [.row 6,aa ai] (.aS [aa ai,aa .bool])
def Ai:=a8 183 [.row 9,aC 0 0,aC 1 0,aC 2 0] (aa .bool) [] [cf (aT 6),cf ai,cf .bool] [cf (aT 6),cf ai,cf .bool]
def yO:=bI 0 [(0,aa (aT 9)),(1,.c (.fn 183 [0,1,2])),(7,aa ai),(8,aa ai)] [cf (aT 6),cf ai,cf .bool] [bN .ret [(4,aa ai)] [cf (aT 6),cf ai,cf .bool],bN (.exit 0) [] [cf (aT 6),cf ai,cf .bool]]
def Ak:=a8 227 [aa (aT 9),.c (.fn 183 [0,1,2])] (aa ai) [yO] [cf (aT 6),cf ai,cf .bool] [cf (aT 6),cf ai,cf .bool]
def Ah:=a8 182 [aa (aT 9),.c (.fn 183 [0,1,2])] (aa .bool) [] [cf (aT 6),cf ai,cf .bool] [cf (aT 6),cf ai,cf .bool]
def Ag:=a8 144 [.row 11,aa ai,aa (aT 9),aa .bool] (aa .bool)
def Pm:=a8 74 [aa ai] (aa (.int .u64))
def OS:=a8 228 [aa (.int .u64)] (aa .bool)
def OE:=a8 184 [aa (.int .u64),aa (.int .u64)] (aa ai)
def OC:=a8 174 [aa ai] (aa .bool)
def Og:=a8 134 [aa ai,aa ai] (aa ai)
def OT:=a8 229 [aa .str] (aa .bool)
def OG:=a8 186 [aa .str,aa .str] (aa ai)
def MB:=bI 0 [(3,aa ai),(6,aa gm),(7,aa ai),(8,aa ai)] [] [e1 2 ai,bN (.exit 0) [(3,aa ai)]]
def OF:=a8 185 [aa gm] (aa ai) [MB]
def Om:=a8 145 [.row 9,.row 9] (aa ai)
def Pt:=bI 0 [(3,aa .bool),(4,aC 0 0),(6,aC 1 0),(9,aC 2 0),(111,aa (aT 10)),(112,aa ai),(113,aa ai)] [cf (aT 6),.bK 9,.box lr] [e1 8 .bool,bN (.exit 1) S0 [cf (aT 6),.box Dn,.box lr]]
def wN:=bI 1 [(3,aa .bool),(4,aC 0 0),(6,aC 1 0),(150,aa (aT 8)),(151,aa ai),(152,aa ai)] [cf (aT 6),.box Dn] [e1 8 .bool,gN 3]
def Pu:=bI 2 [(3,aa .bool),(4,aC 0 0),(6,aC 1 0),(9,aC 2 0),(20,aa ai)] [cf (aT 6),.bK 9,.box lr] [e1 8 .bool,bN (.exit 5) S0 [cf (aT 6),.bK 9,.box lr]]
def rA:=a8 87 [.row 11,aa ai,.row 9,aa .bool] (aa .bool) [Pt,wN,Pu]
def Pj:=a8 72 [.row 11,aa ai,.row 9] (aa .bool)
def O0:=a8 37 [.row 11,aa ai,.row 9] (aa ai)
def Pl:=bI 0 Ir wa [bN (.exit 0) [(3,aC 0 0),(4,aa ai)] wa]
def Pk:=a8 73 [aa (.int .u64)] (aa .str) [Pl]
def y8:=bI 0 [(1,aa (aT 9)),(2,.c (.fn 24 [])),(15,aa (aT 9)),(16,aa ai),(17,aa ai)] [] [e1 6 .bool,gN 0]
def An:=a8 60 [aa (aT 9),aa (aT 9),.c (.fn 24 [])] (aa .bool) [y8]
def wz:=a8 24 [.row 9,.row 9] (aa .bool)
def Oe:=a8 130 [.row 8,.row 9] (aa .bool)
def Mc:=bI 0 Ir wa [bN (.exit 0) Ir wa]
def Oh:=a8 135 [aa (.int .u64)] (aa .str) [Mc]
def Pq:=a8 78 [aa .str] (aa .str)
def Of:=a8 131 [aa ai,aa .bool,aa .str] (aa .str)
def Pp:=a8 77 [aC 0 0,aa .str] (.aS [aa ai,.c (.dead)]) [] [.bX 169 ((.cr 1)),.buf 5] [.bX 169 ((.cr 2)),.gone,.buf 5]
def Pr:=a8 79 [aC 0 0] (aa .str) [] [.bX 169 ((.cr 1)),.buf 5] [.bX 169 ((.cr 1)),.gone]
def wM:=bI 0 [(0,aC 0 0),(3,aa ai),(6,aC 1 0),(9,.c (.arr 2)),(18,aa (aT 8)),(19,aa ai),(20,aa ai)] SY [bN (.exit 0) [(6,aC 1 0),(9,.c (.arr 2))] SY] [] [(.slot 9,.nm 12)]
def Pn:=bI 1 [(9,.c (.arr 1)),(57,aa (aT 10)),(58,aa ai),(59,aa ai)] S1 [bN (.exit 2) [(9,.c (.arr 1))] S1]
def Po:=bI 2 [(14,aC 1 0),(77,.c (.arr 2)),(78,aa ai),(79,aa ai)] [.box [.hole (aT 6),.hole ai],.bX 169 ((.cr 3)),.arr (.nm 12),.buf 5] [bN (.exit 4) [(14,aC 1 0)] SU]
def Ao:=a8 75 [aC 0 0,.row 6,.row 9,aa ai] (aa .str) [wM,Pn,Po] v8 v8
def Ap:=a8 76 [aC 0 0,.row 6,.row 9,aa ai] (aa .str) [] v8 v8
def wD:=bI 0 [(0,aC 0 0),(3,aa ai),(6,aC 1 0),(9,aC 2 0),(10,aC 3 0),(84,aa (aT 9)),(85,aa ai),(86,aa ai)] [.box [.hole (aT 6),.hole ai],.bK 9,.bK 6,.bX 169 ((.cr 4)),.buf 5] [bN (.exit 1) [(10,aC 1 0)] SU]
def p2:=a8 38 [aC 0 0,aa ai,.row 9,aa ai] (aa .str) [wD] v8 v8
def OA:=a8 16 [.row 11,aa ai,.row 9] (.aS [aa .str,aa ai])
def PC:=a8 99 [aC 0 0,aa ai] (.aS [.row 9,aa .bool]) [] tm [.box [.hole (aT 6),.arr 2,.arr 3,.hole ai],.gone,.arr ai,.arr ai]
def Md:=bI 0 [(0,aa .str),(4,aa (.int .u64)),(17,aa ai),(18,aa ai)] [] [bN (.exit 0) [(4,aa (.int .u64))]]
def N9:=a8 100 [aa .str] (.aS [aa (.int .u64),aa ai]) [Md]
def Oa:=a8 101 [aa (.int .u64)] (aa ai)
def ot:=a8 102 [aC 0 0,aa ai,aa ai,aa .str] (.aS [.row 9,aa .bool]) [] tm vX
def Me:=bI 0 [(0,aa .str),(5,aa (.int .u64)),(10,aa ai),(11,aa ai)] [] [bN .ret [(2,aa (.int .u64)),(3,aa ai),(4,aa ai)],gN 0]
def OU:=a8 230 [aa .str] (.aS [aa (.int .u64),aa ai,aa ai]) [Me]
def OO:=a8 193 [aa .str] (.aS [aa (.int .u64),aa .str,aa .bool])
def Ow:=a8 156 [aa .str] (.aS [aa ai,aa .str,aa ai])
def Ac:=a8 103 [aC 0 0,.row 6,aa .str] (.aS [.row 9,aa .bool]) [] tm vX
def OP:=a8 194 [aa .str] (.aS [aa .str,aa .str,aa .bool])
def Mf:=bI 0 [(4,.c (.arr 0)),(5,aa .str)] [.arr .str] [bN .ret [(2,.c (.bC)),(3,aa ai)],bN (.exit 0) [(4,.c (.arr 0))] [.arr .str]] [] [(.slot 4,.str)]
def Ox:=a8 157 [aa .str] (.aS [aa re,aa ai]) [Mf]
def yP:=bI 0 [(0,aC 0 0),(4,aC 2 0),(6,aC 3 0),(10,aC 4 0),(38,aa re),(39,aa ai),(40,aa ai)] Ip [bN .ret v' Dq,bN (.exit 0) Iu [.box Is,.gone,.box hS,.box [.hole ai,.hole .bool,.hole ai,.hole .str,.hole ai,.bC,.arr 5,.bC],.arr ai,.arr (.nm 9)]] [] [(.via 10 6,.nm 9)]
def Ad:=a8 104 [aC 0 0,.row 6,aa .str] (.aS [.row 9,aa .bool]) [yP] tm vX
def yQ:=bI 0 [(0,aC 0 0),(4,aC 2 0),(6,aC 3 0),(8,aa re),(10,aC 4 0),(11,aa ai)] Dp [bN .ret v' Dq,bN (.exit 0) SV Dp] [] [(.via 10 5,.nm 9)]
def Mg:=bI 1 [(0,aC 0 0),(4,aC 2 0),(6,aC 3 0),(8,aa re),(10,aC 4 0),(14,aa ai)] Dp [bN .ret v' SJ,bN (.exit 2) SV Dp]
def yR:=bI 2 [(0,aC 0 0),(4,aC 2 0),(6,aC 3 0),(8,aa re),(10,aC 4 0),(15,aa ai)] [.box Dr,.gone,.bK 6,.box hS,.box [.hole ai,.hole .bool,.hole ai,.hole .str,.hole ai,.arr 6,.arr 7,.bC],.arr ai,.arr (.nm 9),.arr (.nm 9)] [bN .ret v' Dq,bN (.exit 4) Iu [.box Is,.gone,.box hS,.box [.hole ai,.hole .bool,.hole ai,.hole .str,.hole ai,.arr 5,.arr 6,.bC],.arr ai,.arr (.nm 9),.arr (.nm 9)]] [] [(.via 10 6,.nm 9)]
def Ae:=a8 105 [aC 0 0,.row 6,aa .str] (.aS [.row 9,aa .bool]) [yQ,Mg,yR] tm vX
def Mh:=bI 0 [(4,.c (.arr 0)),(5,aa (.int .u64)),(6,aa .str)] [.arr (.nm 13)] [bN .ret [(2,.c (.bC)),(3,aa ai)],bN (.exit 0) [(4,.c (.arr 0))] [.arr (.nm 13)]] [] [(.slot 4,.nm 13)]
def Oy:=a8 158 [aa .str] (.aS [aa (aT 13),aa ai]) [Mh]
def OB:=a8 160 [.row 13,aC 0 0] (aa .bool) [] [.bK 8] [.bK 8]
def Mi:=bI 0 [(0,aa (aT 13)),(1,.c (.fn 160 [0])),(7,aa ai),(8,aa ai)] [.bK 8] [bN .ret [(4,aa ai)] [.bK 8],bN (.exit 0) [] [.bK 8]]
def Oz:=a8 159 [aa (aT 13),.c (.fn 160 [0])] (aa ai) [Mi] [.bK 8] [.bK 8]
def yS:=bI 0 SP vZ [bN (.exit 0) Ds vZ]
def yT:=bI 1 SQ S3 [bN (.exit 2) Ds vZ]
def tU:=a8 161 [.row 9] (.row 9) [yS,yT]
def yU:=bI 0 [(0,aC 0 0),(4,aC 2 0),(6,aC 3 0),(8,aa (aT 13)),(10,aC 4 0),(39,aa (aT 8)),(40,aa ai),(41,aa ai)] Ip [bN .ret v' Dq,bN (.exit 0) [(0,aC 0 0),(4,aC 2 0),(6,aC 3 0),(8,aa (aT 13)),(10,aC 4 0)] Ip] [] [(.via 10 6,.nm 9)]
def Mj:=bI 1 [(0,aC 0 0),(4,aC 2 0),(6,aC 3 0),(10,aC 4 0),(117,aa (aT 13)),(118,aa ai),(119,aa ai)] [.box Dr,.gone,.bK 6,.box hS,.box [.hole ai,.hole .bool,.hole ai,.hole .str,.hole ai,.bC,.arr 6,.arr 7],.arr ai,.arr (.nm 9),.arr (.nm 10)] [bN .ret v' SJ,bN (.exit 3) Iu [.box Is,.gone,.box hS,.box SL,.arr ai,.arr (.nm 9),.arr (.nm 10)]] [] [(.via 10 7,.nm 10)]
def Af:=a8 106 [aC 0 0,.row 6,aa .str] (.aS [.row 9,aa .bool]) [yU,Mj] tm vX
def wH:=a8 57 [aC 0 0,aa ai,aa .str] (.aS [.row 9,aa .bool]) [] tm vX
def OR:=a8 22 [.row 11,aa ai,aa .str] (.aS [.row 9,.row 14,aa ai])
def e8:=a8 8 [.row 11,aa ai,aa .str] (.aS [.row 9,aa ai])
def wI:=bI 0 [(0,aa (aT 9)),(1,aa (aT 9)),(5,aa ai)] [] [e1 4 .bool,gN 0]
def Al:=a8 58 [aa (aT 9),aa (aT 9)] (aa .bool) [wI]
def OV:=bI 0 [(2,aC 0 0),(3,aC 1 0),(5,aa ai)] [.bK 9,.bK 9] [e1 4 .bool,bN (.exit 0) [(2,aC 0 0),(3,aC 1 0)] [.bK 9,.bK 9]]
def wy:=a8 23 [.row 9,.row 9] (aa .bool) [OV]
def tW:=a8 9 [.row 9,.row 9] (aa .bool)
def gx:=a8 5 [] (aa .bool)
def aeA:=a8 249 [.row 6] (.row 6)
def aeH:=a8 266 [.row 8,.row 8] (aa .bool)
def Nw:=bI 0 [(2,aC 0 0),(3,aC 1 0),(5,aa ai)] [.bK 6,.bK 6] [e1 4 .bool,bN (.exit 0) [(2,aC 0 0),(3,aC 1 0)] [.bK 6,.bK 6]]
def Nx:=bI 1 [(2,aC 0 0),(3,aC 1 0),(6,aa ai)] [.bK 6,.bK 6] [e1 4 .bool,gN 2]
def aez:=a8 248 [.row 6,.row 6] (aa .bool) [Nw,Nx]
def aeI:=a8 267 [aa (.int .u8)] (aa .bool)
def aeJ:=a8 268 [aa (.int .u8)] (aa .bool)
def Ny:=bI 0 [(0,aa .str),(3,aa ai)] [] [e1 2 .bool,gN 0]
def aeC:=a8 250 [aa .str] (aa .bool) [Ny]
def aeK:=a8 269 [aa ai,aa ai] (aa .bool)
def K8:=bI 0 [(0,aa (aT 7)),(4,aa ai),(5,aa ai)] [] [e1 2 .bool,bN (.exit 2) [(0,aa (aT 7)),(4,aa ai)]]
def Nz:=bI 0 [(0,aa (aT 7)),(3,aa ai),(4,aa ai)] [] [e1 2 .bool,bN (.exit 0) [(0,aa (aT 7))]] [K8]
def aeD:=a8 251 [aa (aT 7)] (aa .bool) [Nz]
def K9:=bI 0 [(0,aa (aT 8)),(1,aa .bool),(6,aa ai),(7,aC 0 0),(8,aa ai)] [.bK 8] [e1 4 .bool,bN (.exit 2) [(0,aa (aT 8)),(1,aa .bool),(6,aa ai),(7,aC 0 0)] [.bK 8]]
def NA:=bI 0 [(0,aa (aT 8)),(1,aa .bool),(5,aa ai),(6,aa ai)] [] [e1 4 .bool,bN (.exit 0) [(0,aa (aT 8)),(1,aa .bool)]] [K9]
def aeE:=a8 252 [aa (aT 8),aa .bool] (aa .bool) [NA]
def aet:=a8 221 [.row 6] (aa .bool)
def NB:=bI 0 v7 [.bK 6,.arr ai] [bN (.exit 0) [(1,aC 0 0),(3,.c (.arr 1))] [.bK 6,.arr ai]] [] [(.slot 3,ai)]
def aeu:=a8 222 [.row 6] (aa gm) [NB]
def K':=bI 0 [(1,aC 0 0),(3,aa ai),(4,aC 1 0),(5,aa ai)] [cf (aT 6),.box lr] [e1 2 ai,bN (.exit 2) [(1,aC 0 0),(3,aa ai),(4,aC 1 0)] [cf (aT 6),.box lr]]
def La:=bI 1 [(1,aC 0 0),(3,aa ai),(4,aC 1 0),(6,aa gm),(7,aa ai)] [cf (aT 6),.box lr] [e1 2 ai,bN (.exit 4) [(1,aC 0 0),(3,aa ai),(4,aC 1 0)] [cf (aT 6),.box lr]]
def NC:=bI 0 [(1,aC 0 0),(3,aa ai)] [cf (aT 6)] [e1 2 ai,gN 0] [K',La]
def aek:=a8 176 [.row 11] (aa ai) [NC]
def aeM:=a8 270 [.row 9] (aa .bool)
def aeN:=a8 271 [aa ai,aa .bool] (aa .bool)
def ND:=bI 0 [(1,aa (aT 10)),(2,aC 0 0),(5,aa ai)] [.bK 6] [e1 4 .bool,gN 0]
def aeO:=a8 272 [.row 6,aa (aT 10)] (aa .bool) [ND]
def yV:=bI 0 [(1,aa ai),(2,aa (aT 9)),(3,aa .bool),(4,aC 0 0),(9,aa ai)] [cf (aT 6)] [e1 8 .bool,gN 0]
def DT:=a8 273 [.row 11,aa ai,aa (aT 9),aa .bool] (aa .bool) [yV]
def yW:=bI 0 [(3,aa .bool),(4,aC 0 0),(6,aC 1 0),(9,aC 2 0),(12,aa ai)] [cf (aT 6),.bK 9,.box lr] [e1 8 .bool,gN 1]
def NF:=bI 1 [(6,aC 0 0),(15,aa ai)] [.bK 9] [e1 8 .bool,gN 3]
def tV:=a8 253 [.row 11,aa ai,.row 9,aa .bool] (aa .bool) [yW,NF]
def aev:=a8 223 [.row 11,aa ai,.row 9] (aa .bool)
def Lb:=bI 0 [(1,aC 0 0),(6,aa ai),(7,aa (aT 8)),(8,aa ai)] [cf (aT 6)] [bN .ret [(2,aa ai),(3,aa ai),(4,aa ai)],bN (.exit 2) [(1,aC 0 0),(6,aa ai)] [cf (aT 6)]]
def NG:=bI 0 [(1,aC 0 0),(6,aa ai)] [cf (aT 6)] [bN .ret [(2,aa ai),(3,aa ai),(4,aa ai)],gN 0] [Lb]
def ael:=a8 177 [.row 11] (.aS [aa ai,aa ai,aa ai]) [NG]
def aea:=a8 137 [.row 11] (aa ai)
def NH:=bI 0 [(1,.c (.arr 0)),(2,aC 1 0),(5,aa ai),(6,aa ai)] [.arr ai,.bK 6] [bN (.exit 1) [(5,aa ai)] [.arr ai]]
def NI:=bI 1 [(1,.c (.arr 0)),(2,aC 1 0),(7,aa ai),(8,aa ai)] [.arr ai,.bK 6] [bN (.exit 3) [(7,aa ai)] [.arr ai]]
def aem:=a8 178 [.row 6,.c (.arr 0)] (aa ai) [NH,NI] [.arr ai] [.arr ai]
def Lc:=bI 0 SZ [cf (aT 6),.arr ai] [bN (.exit 2) v7 [cf (aT 6),.arr ai]]
def NJ:=bI 0 v7 [cf (aT 6),.arr ai] [bN (.exit 0) [(3,.c (.arr 0))] [.arr ai]] [Lc]
def aeb:=a8 138 [.row 11] (aa gm) [NJ]
def Ps:=bI 0 [(5,aa gm),(6,.c (.arr 0)),(7,aa ai)] [.arr .bool] [bN (.exit 0) [(6,.c (.arr 0))] [.arr .bool]] [] [(.slot 6,.bool)]
def afa:=a8 80 [.row 11] (.aS [aa (.slice .bool),aa ai]) [Ps]
def O1:=bI 0 [(3,aa (.slice .bool)),(5,aa ai)] [] [e1 2 ai,gN 0]
def aeY:=a8 39 [.row 11] (aa ai) [O1]
def aej:=a8 17 [.row 11,aa ai] (aa ai)
def O6:=bI 0 [(0,aa (.int .u64)),(3,aa .str)] [] [bN (.exit 0) [(3,aa .str)]]
def ae1:=a8 42 [aa (.int .u64)] (aa .str) [O6]
def O3:=bI 0 Iq [.bK 6,.arr (.nm 15)] [bN (.exit 0) [(1,aa ai),(2,aC 0 0),(5,.c (.arr 1))] [.bK 6,.arr (.nm 15)]] [] [(.slot 5,.nm 15)]
def O4:=bI 1 [(1,aa ai),(2,aC 0 0),(5,.c (.arr 1)),(8,aa ai)] [.bK 6,.arr (.nm 15)] [bN (.exit 2) [(5,.c (.arr 0))] l3]
def aeZ:=a8 40 [.row 6,aa ai] (aa (aT 15)) [O3,O4]
def LA:=bI 0 [(1,aa ai),(2,aC 0 0),(5,.c (.arr 1)),(6,aa ai),(7,aa ai)] [.bK 6,.arr (.nm 15)] [bN (.exit 2) Iq [.bK 6,.arr (.nm 15)]]
def O5:=bI 0 Iq [.bK 6,.arr (.nm 15)] [bN (.exit 0) [(5,.c (.arr 0))] l3] [LA]
def ae0:=a8 41 [.row 6,aa ai] (aa (aT 15)) [O5]
def ae2:=a8 43 [.row 9,.row 9] (.row 9)
def O7:=bI 0 [(0,aa (.int .u64)),(3,.c (.arr 0))] wa [bN (.exit 0) [(0,aa (.int .u64)),(3,.c (.arr 0))] wa] [] [(.slot 3,.int .u8)]
def ae3:=a8 44 [aa (.int .u64)] (aa .str) [O7]
def afc:=a8 82 [aa .str] (aa .str)
def LB:=bI 0 [(2,aa ai),(4,aC 0 0),(7,.c (.arr 1)),(8,aa (aT 15)),(9,aa ai),(10,aa ai)] [.bK 6,.arr (.nm 15)] [bN (.exit 2) SO [.bK 6,.arr (.nm 15)]]
def O8:=bI 0 SO [.bK 6,.arr (.nm 15)] [bN (.exit 0) [(7,.c (.arr 0))] l3] [LB]
def DU:=a8 45 [.row 11,.row 6,aa ai] (aa (aT 15)) [O8]
def aew:=a8 224 [.row 11,aa ai] (aa ai)
def NK:=bI 0 [(1,.c (.arr 0)),(2,aC 1 0),(4,aC 2 0),(6,aC 3 0),(7,aa ai)] [.arr (.nm 16),.bK 6,.box hS,.box [.hole ai,.hole .bool,.hole ai,.hole .str,.hole ai,.bC,.arr 4,.bC],.arr (.nm 9)] [bN .ret [(4,aC 1 0),(5,aa .bool)] [.arr (.nm 16),.box hS],bN (.exit 0) Iv [.arr (.nm 16),.box hS,.box SN,.arr (.nm 9)]] [] [(.via 6 6,.nm 9)]
def aeP:=a8 274 [.row 6,.c (.arr 0)] (.aS [.row 9,aa .bool]) [NK] zI zI
def aey:=a8 226 [aa .str] (aa .str)
def aeo:=a8 180 [aa ai,aa .bool,aa .str] (aa .str)
def Ld:=bI 0 [(3,aC 0 0),(5,aC 1 0),(7,aC 2 0),(14,aa .str),(15,aa ai),(19,aa ai)] [cf (aT 6),.bK 9,.bK 6] [bN (.exit 7) SS [cf (aT 6),.bK 9,.bK 6]]
def yX:=bI 0 [(3,aC 0 0),(5,aC 1 0),(7,aC 2 0),(10,aa .str),(11,aa ai)] [cf (aT 6),.bK 9,.bK 6] [bN (.exit 1) [(10,aa .str)]]
def yY:=bI 1 [(3,aC 0 0),(5,aC 1 0),(7,aC 2 0),(12,aa .str),(13,aa ai)] [cf (aT 6),.bK 9,.bK 6] [bN (.exit 3) [(12,aa .str)]]
def yZ:=bI 2 SS [cf (aT 6),.bK 9,.bK 6] [bN (.exit 5) [(14,aa .str)]] [Ld]
def ry:=a8 280 [.row 11,aa ai,.row 9] (aa .str) [yX,yY,yZ]
def aeQ:=a8 275 [.row 11,aa ai,.row 9] (.row 16)
def aeR:=a8 276 [.row 6] (.row 9)
def ae4:=a8 48 [aa .str,aa .str] (aa .bool)
def aeF:=a8 254 [.row 16,.row 16] (.row 16)
def NL:=bI 0 [(1,aa ai),(2,.c (.arr 0)),(3,aC 1 0),(6,aC 2 0),(7,aC 3 0),(8,aa ai)] S4 [bN .ret [(6,aC 1 0)] [.arr (.nm 16),.box Du],bN (.exit 0) [(1,aa ai),(2,.c (.arr 0)),(3,aC 1 0),(6,aC 2 0),(7,aC 3 0)] S4]
def NM:=bI 1 [(1,aa ai),(2,.c (.arr 0)),(3,aC 1 0),(6,aC 2 0),(7,aC 3 0),(11,aC 4 0),(12,aa ai)] [.arr (.nm 16),cf (aT 6),.box Du,.bK 6,.box S6] [bN (.exit 2) [(6,aC 1 0),(11,aC 2 0)] [.arr (.nm 16),.box Du,.box S6]]
def DS:=a8 255 [.row 11,aa ai,.c (.arr 0)] (.row 16) [NL,NM] zI zI
def Kt:=bI 0 SZ [cf (aT 6),.arr (.nm 16)] [bN (.exit 2) v7 [cf (aT 6),.arr (.nm 16)]]
def NN:=bI 0 v7 [cf (aT 6),.arr (.nm 16)] [bN (.exit 0) [(3,.c (.arr 0))] zI] [Kt]
def aex:=a8 225 [.row 11] (aa (aT 16)) [NN]
def aen:=a8 179 [.row 11,aa ai] (.aS [.row 16,aa ai])
def aec:=a8 139 [.row 11,aa ai] (.aS [aa ai,aa ai])
def afd:=a8 83 [.row 11,aa ai] (aa ai)
def Kn:=bI 0 [(2,aa ai),(4,aC 0 0),(7,.c (.arr 1)),(8,aa (aT 15)),(9,aa (aT 15)),(10,aa ai),(11,aC 2 0),(12,aa ai),(13,aa ai)] [.bK 6,.arr (.nm 15),.bK 9] [bN (.exit 4) SF [.bK 6,.arr (.nm 15),.bK 9]]
def LC:=bI 0 SF [.bK 6,.arr (.nm 15),.bK 9] [bN (.exit 2) SH [.bK 6,.arr (.nm 15)]] [Kn]
def O9:=bI 0 SH [.bK 6,.arr (.nm 15)] [bN (.exit 0) [(7,.c (.arr 0))] l3] [LC]
def DV:=a8 46 [.row 11,.row 6,aa ai] (aa (aT 15)) [O9]
def aef:=a8 141 [aa ai,aa .bool,aa .str] (.aS [aa .str,aa ai])
def afg:=a8 86 [.row 8,aa .str] (aa .str)
def aff:=a8 85 [.row 11,.row 8] (aa ai)
def Jy:=bI 0 [(2,aa ai),(3,aC 0 0),(4,aC 1 0),(7,aa ai),(9,aa ai),(10,.c (.arr 2)),(11,aa ai),(12,aC 3 0),(14,aa (aT 15)),(15,.c (.arr 4)),(16,aa ai),(17,aa ai)] [cf (aT 6),.bK 6,.arr (.nm 15),.bK 8,.arr (.nm 15)] [bN (.exit 6) S5 [cf (aT 6),.bK 6,.arr (.nm 15),.bK 8,.arr (.nm 15)]] [] [(.slot 15,.nm 15)]
def LD:=bI 0 S5 [cf (aT 6),.bK 6,.arr (.nm 15),.bK 8,.arr (.nm 15)] [bN (.exit 4) [(2,aa ai),(3,aC 0 0),(4,aC 1 0),(7,aa ai),(9,aa ai),(11,aa ai),(15,.c (.arr 2))] [cf (aT 6),.bK 6,.arr (.nm 15)]] [Jy] [(.slot 15,.nm 15)]
def O':=bI 0 [(2,aa ai),(3,aC 0 0),(4,aC 1 0),(7,aa ai),(8,aa ai)] [cf (aT 6),.bK 6] [bN (.exit 0) [(2,aa ai),(3,aC 0 0),(4,aC 1 0),(7,aa ai)] [cf (aT 6),.bK 6]]
def wE:=bI 1 [(2,aa ai),(3,aC 0 0),(4,aC 1 0),(7,aa ai),(9,aa ai),(10,.c (.arr 2)),(11,aa ai)] [cf (aT 6),.bK 6,.arr (.nm 15)] [bN (.exit 2) [(10,.c (.arr 0))] l3] [LD]
def DW:=a8 47 [.row 11,.row 6,aa ai] (aa (aT 15)) [O',wE]
def LF:=bI 0 [(2,aa ai),(3,aC 0 0),(7,aC 1 0),(8,.c (.arr 2)),(13,aa ai),(14,aa .str),(15,aa (aT 15)),(16,aa ai)] [cf (aT 6),.bK 6,.arr (.nm 15)] [bN (.exit 7) SR [cf (aT 6),.bK 6,.arr (.nm 15)]]
def OK:=bI 0 [(2,aa ai),(7,aC 0 0),(8,.c (.arr 1)),(9,aa ai)] [.bK 6,.arr (.nm 15)] [bN (.exit 1) Dt l3] [] [(.slot 8,.nm 15)]
def OL:=bI 1 [(7,aC 0 0),(8,.c (.arr 1)),(11,aa (aT 15)),(12,aa ai)] [.bK 6,.arr (.nm 15)] [bN (.exit 3) Dt l3]
def wv:=bI 2 SR [cf (aT 6),.bK 6,.arr (.nm 15)] [bN (.exit 5) Dt l3] [LF] [(.slot 8,.nm 15)]
def p1:=a8 18 [.row 11,aa ai,aa ai] (aa (aT 15)) [OK,OL,wv]
def LG:=bI 0 Io l3 [bN (.exit 2) Io l3]
def OQ:=bI 0 Io l3 [bN (.exit 0) [(3,aa (aT 15)),(5,.c (.arr 0)),(6,aa ai)] l3] [LG] [(.slot 5,.nm 15)]
def aep:=a8 19 [aa (aT 15)] (aa (aT 15)) [OQ]
def jQ:=a8 6 [.row 11,aa ai,aa ai] (.aS [aa (aT 15),aa ai])
def ae5:=a8 49 [.row 11,aa ai] (aa ai)
def ae6:=a8 50 [.row 11,aa ai,.row 9] (aa .bool)
def aes:=a8 20 [.row 11,aa ai,.row 9,.row 11,aa ai] (aa ai)
def ae7:=a8 51 [aC 0 0] (.aS [.row 9,aa .bool]) [] tl SM
def afh:=a8 92 [aC 0 0,aa ai] (.aS [.row 9,aa .bool]) [] tl SM
def wP:=bI 0 SP vZ [bN (.exit 0) Ds vZ]
def wQ:=bI 1 SQ S3 [bN (.exit 2) Ds vZ]
def wO:=a8 93 [.row 9] (.row 9) [wP,wQ]
def wR:=a8 94 [aC 0 0,aa ai,aa ai,.row 9,aa ai] (.aS [.row 9,aa .bool]) [] tl vW
def afi:=a8 95 [.row 8,.row 9] (aa .bool)
def aeg:=a8 150 [aa ai,aa .bool,aa .str] (.aS [aa .str,aa ai])
def aeh:=a8 151 [aa .str] (aa .str)
def wS:=bI 0 [(3,aC 0 0),(5,aC 1 0),(8,aa .str),(36,aa (aT 8)),(37,aa ai),(38,aa ai)] [cf (aT 6),.bK 9] [bN (.exit 1) [(8,aa .str)]]
def wT:=bI 1 [(3,aC 0 0),(7,aC 1 0),(8,aa .str),(101,aa (aT 9)),(102,aa ai),(103,aa ai)] [cf (aT 6),.bK 6] [bN (.exit 3) [(8,aa .str)]]
def wU:=bI 2 [(3,aC 0 0),(5,aC 1 0),(7,aC 2 0),(8,aa .str),(118,aa (aT 9)),(119,aa ai),(120,aa ai)] [cf (aT 6),.bK 9,.bK 6] [bN (.exit 5) [(8,aa .str)]]
def rB:=a8 96 [.row 11,aa ai,.row 9] (aa .str) [wS,wT,wU]
def wF:=bI 0 [(0,aC 0 0),(5,aC 2 0),(6,aC 3 0),(7,aC 4 0),(8,aC 5 0),(10,aC 6 0),(25,aa (aT 8)),(26,aa ai),(27,aa ai)] SE [bN .ret [(8,aC 2 0),(9,aa .bool)] [.box [.hole (aT 6),.hole (aT 6),.arr 3,.hole gm],.gone,.bK 9,.arr ai],bN (.exit 0) [(0,aC 0 0),(5,aC 2 0),(6,aC 3 0),(7,aC 4 0),(8,aC 5 0),(10,aC 6 0)] SE] [] [(.via 10 6,.nm 9)]
def Pb:=bI 1 [(0,aC 0 0),(6,aC 2 0),(7,aC 3 0),(8,aC 4 0),(10,aC 5 0),(115,aa (aT 8)),(116,aa ai),(117,aa ai)] [.box [.hole (aT 6),.hole (aT 6),.arr 6,.hole gm],.gone,.bK 9,.bK 6,.box hS,.box [.hole ai,.hole .bool,.hole ai,.hole .str,.hole ai,.bC,.arr 7,.arr 8],.arr ai,.arr (.nm 9),.arr (.nm 10)] [bN .ret [(8,aC 2 0),(9,aa .bool)] [.box [.hole (aT 6),.hole (aT 6),.arr 3,.arr 4],.gone,.bK 9,.arr ai,.arr ai],bN (.exit 2) [(8,aC 2 0),(10,aC 3 0)] [.box [.hole (aT 6),.hole (aT 6),.arr 4,.hole gm],.gone,.box hS,.box SL,.arr ai,.arr (.nm 9),.arr (.nm 10)]] [] [(.via 10 7,.nm 10)]
def DX:=a8 53 [aC 0 0,.row 6,.row 9,.row 6] (.aS [.row 9,aa .bool]) [wF,Pb] tl vW
def DY:=a8 54 [aC 0 0,.row 6,.row 9,.row 6] (.aS [.row 9,aa .bool]) [] tl vW
def wG:=bI 0 [(0,aC 0 0),(1,aa ai),(3,aa ai),(10,.c (.arr 2)),(15,aa (aT 9)),(16,aa ai),(17,aa ai)] SI [bN .ret [(8,.c (.bC)),(9,aa .bool)] vW,bN (.exit 0) [(10,.c (.arr 2))] SI] [] [(.slot 10,.nm 9)]
def DZ:=a8 55 [aC 0 0,aa ai,aa (aT 9),aa ai] (.aS [aa (aT 9),aa .bool]) [wG] tl vW
def Aj:=a8 21 [aC 0 0,aa ai,.row 9,aa ai] (.aS [.row 9,aa .bool]) [] tl vW
def ou:=a8 7 [.row 11,aa ai,.row 9,.row 11,aa ai] (.aS [.row 9,aa ai])
def wu:=a8 10 [.row 11,aa ai,.row 9,.row 11,aa ai,.row 9] (aa .bool)
def O2:=bI 0 [(3,aC 0 0),(4,aC 1 0),(5,aa ai),(44,aa (aT 15)),(45,aa ai),(46,aa ai)] [cf (aT 6),cf (aT 6)] [e1 2 .bool,gN 0]
def cz:=a8 3 [.row 0] (aa .bool) [O2]
def agK:List eA:=[OJ,Pe,Am,wx,ON,OM,Ov,Ob,Oc,Oq,OH,Ot,OI,Ou,Pz,PA,Pc,Ph,OD,Oj]
def agL:List eA:=[Px,Pv,Pa,Ol,Oo,On,Py,Ai,Ak,Ah,Ag,Pm,OS,OE,OC,Og,OT,OG,OF,Om]
def agM:List eA:=[rA,Pj,O0,Pk,An,wz,Oe,Oh,Pq,Of,Pp,Pr,Ao,Ap,p2,OA,PC,N9,Oa,ot]
def agN:List eA:=[OU,OO,Ow,Ac,OP,Ox,Ad,Ae,Oy,OB,Oz,tU,Af,wH,OR,e8,Al,wy,tW,gx]
def agJ:List eA:=agK++agL++agM++agN
theorem ac0:agJ.all (s8 prog)=true:=by kernel_rfl
def Xn:cx cT:={Fe with F:=EX (α:=cT.D 12) rb}
theorem Xo:gD prog Xn:=⟨Ff.1,λh r a=>Ff.2 h r (abQ EZ _ r a)⟩
def xg(_:Unit):Option (Bool):=some true
theorem V1:bd gx xg:= .run ac0 (.k acD (.k Xo (.k R3 (.k A9 (.k Fz (.k FA .n)))))) (.m (by kernel_rfl)) 3000 λ_=>by kernel_rfl
def qJ(a:eo×Int):Option (Int):=
 match a with
 |(d,i)=>
 if aB i d.ek.length=true then some (aM .i64 1 (bW .i64 (cg (d.ek.getD i.toNat bl).Kind 9)))
 else none
theorem xL:bd aeL qJ:= .bt
def jH(a:Int):Option (Bool):=
 some (bif bif decide (a=4)then true else decide (a=5)then true else decide (a=6))
theorem Fu:bd aeS jH:= .bt
def oF(a:dA):Option (Int):=
 some (c' .i64 (bW .i64 (cg a.A 7)) 3)
theorem FE:bd aeT oF:= .bt
def sy(a:dA):Option (Int):=
 oF a>>=λr=>some (aM .i64 r (bW .i64 (cg a.B 6)))
theorem Ra:bd aeU sy:= .bt (.k FE .n)
def pb(c:Int×dA×List Int):Option (List Int):=
 match c with
 |(i,b,a)=>
 if decide (i<6)=true then if decide (0<=i)=true then if decide (cg (lh .u8 b.A i) 2=1)=true then some [aM .i64 i 1]>>=λt18=>if room 8 (a++t18).length=true then pb (aM .i64 i 1,b,a++t18)
 else none
 else pb (aM .i64 i 1,b,a)
 else none
 else some a
  partial_fixpoint
theorem VP:ck 31 0 [0] OW pb:= .rx pb.partial_correctness
def nQ(a:dA):Option (List Int):=
 pb (0,a,[])>>=λo=>if decide ((o.length:Int)=0)=true then some [1]>>=λt24=>if room 8 (o++t24).length=true then some (o++t24)
 else none
 else some o
theorem Rj:bd aeV nQ:= .bt .n (.k VP .n)
def xM(a:Int):Option (Bool):=
 some (decide (7<=a))
theorem Rv:bd ad9 xM:= .bt
def nG(d:Int×Int×List dA):Option ((Int) ⊕ (Unit)):=
 match d with
 |(n,k,b)=>
 if decide (k<n)=true then qJ ((⟨b⟩:eo),k)>>=λa=>xM a>>=λc=>if c=true then some (.inl k)
 else nG (n,aM .i64 k 1,b)
 else some (.inr ())
  partial_fixpoint
theorem U9:ck 62 0 [0] Pg nG:= .rx nG.partial_correctness (.k xL (.k Rv .n))
def xN(c:eo×Int×Int):Option (Int):=
 match c with
 |(d,i,code)=>
 some (d.ek.length:Int)>>=λt12=>if(!(decide (t12=0)))=true then some (cg (bW .i64 code) t12)>>=λt16=>qJ (d,t16)>>=λr=>xM r>>=λb=>if(bif b then true else decide (t16<i))=true then some t16
 else if decide (0<i)=true then if(!(decide (i=0)))=true then some (cg t16 i)
 else none
 else nG (t12,0,d.ek)>>=λo=>match o with
 |.inl a=>
 some a
 |.inr e=>
 some (-1)
 else none
theorem VQ:bd ae8 xN:= .bt (.k xL (.k Rv .n)) (.k U9 .n)
def xF(a:Int):Option (Bool):=
 some (bif decide (1<=a)then decide (a<=4)else false)
theorem Rt:bd ae' xF:= .bt
def nL(d:Int×Int×Int×List dA):Option ((Int) ⊕ (Unit)):=
 match d with
 |(a,n,k,b)=>
 if decide (k<n)=true then if(!(decide (n=0)))=true then some (cg (aM .i64 (bW .i64 a) k) n)>>=λt21=>qJ ((⟨b⟩:eo),t21)>>=λr=>xF r>>=λc=>if c=true then some (.inl t21)
 else nL (a,n,aM .i64 k 1,b)
 else none
 else some (.inr ())
  partial_fixpoint
theorem VR:ck 33 0 [0] OY nL:= .rx nL.partial_correctness (.k xL (.k Rt .n))
def sG(b:eo×Int):Option (Int):=
 match b with
 |(d,code)=>
 nL (code,(d.ek.length:Int),0,d.ek)>>=λo=>match o with
 |.inl a=>
 some a
 |.inr c=>
 some (-1)
theorem Rk:bd aeX sG:= .bt .n (.k VR .n)
def xG(j:eo×Int×Int):Option (I×Bool):=
 match j with
 |(d,t,code)=>
 if aB t d.ek.length=true then some (d.ek.getD t.toNat bl)>>=λa=>qJ (d,t)>>=λr=>some (decide (r=8))>>=λt21=>(if t21=true then sG (d,0)else some 0)>>=λc=>if(bif t21 then decide (c<0)else false)=true then some ((⟨7,false,0,[],0,[],[],[]⟩:I),true)
 else if decide (r=1)=true then some ((⟨r,decide (cg code 2=1),0,[],0,[],[],[]⟩:I),true)
 else if decide (r=2)=true then oF a>>=λe=>sy a>>=λf=>oF a>>=λg=>some (aM .i64 (c' .i64 f g) 1)>>=λt47=>if(!(decide (t47=0)))=true then some ((⟨r,false,aM .i64 e (cg (bW .i64 code) t47),[],0,[],[],[]⟩:I),true)
 else none
 else if decide (r=3)=true then if(bif decide (0<cg a.A 4)then decide (cg code 2=1)else false)=true then some ((⟨r,false,0,[97],0,[],[],[]⟩:I),true)
 else some ((⟨r,false,0,[],0,[],[],[]⟩:I),true)
 else if decide (r=4)=true then nQ a>>=λb=>nQ a>>=λi=>some (i.length:Int)>>=λt71=>if(!(decide (t71=0)))=true then some (cg (bW .i64 code) t71)>>=λt72=>if aB t72 b.length=true then some ((⟨r,false,0,[],b.getD t72.toNat 0,[],[],[]⟩:I),true)
 else none
 else none
 else some (decide (r=5))>>=λt77=>if t77=true then if t77=true then some ((⟨0,false,0,[],0,[],[],[]⟩:I),false)
 else some ((⟨r,false,0,[],0,[],[],[]⟩:I),true)
 else if decide (r=6)=true then some ((⟨0,false,0,[],0,[],[],[]⟩:I),false)
 else some ((⟨r,false,0,[],0,[],[],[]⟩:I),true)
 else none
theorem UP:bd ae9 xG:= .bt (.k xL (.k Rk (.k FE (.k Ra (.k Rj .n)))))
def qf(o:Int×Bool×Int×Int×List dA×dA×List aO):Option (Int×Bool×Int×List dA×dA×List aO):=
 match o with
 |(f,e,a,k,c,d,b)=>
 if decide (k<(d.cX.length:Int))=true then if aB k d.cX.length=true then some (d.cX.getD k.toNat iA)>>=λg=>xN ((⟨c⟩:eo),f,g.av)>>=λr=>if(bif (!(decide (aM .i64 1 (bW .i64 (cg g.af 12))=a)))then true else decide (r<0))=true then qf (f,e,a,aM .i64 k 1,c,d,b)
 else some (mo (bW .i32 (aM .i64 97 a)))>>=λt55=>if decide ([109].length+t55.length<=dK)=true then some ([109]++t55)>>=λt56=>if(bif e then decide (cg g.gQ 4=1)else false)=true then if(bif e then decide (2<=cg g.gQ 4)else false)=true then xG ((⟨c⟩:eo),r,fY .u8 g.gQ 4)>>=λi=>some [(⟨a,t56,r,true,i.2,I.eta i.1⟩:aO)]>>=λt87=>if room 160 (b++t87).length=true then some (f,e,a,c,d,b++t87)
 else none
 else some [(⟨a,t56,r,true,false,(⟨0,false,0,[],0,[],[],[]⟩:I)⟩:aO)]>>=λl=>if room 160 (b++l).length=true then some (f,e,a,c,d,b++l)
 else none
 else if(bif e then decide (2<=cg g.gQ 4)else false)=true then xG ((⟨c⟩:eo),r,fY .u8 g.gQ 4)>>=λj=>some [(⟨a,t56,r,false,j.2,I.eta j.1⟩:aO)]>>=λm=>if room 160 (b++m).length=true then some (f,e,a,c,d,b++m)
 else none
 else some [(⟨a,t56,r,false,false,(⟨0,false,0,[],0,[],[],[]⟩:I)⟩:aO)]>>=λn=>if room 160 (b++n).length=true then some (f,e,a,c,d,b++n)
 else none
 else none
 else none
 else some (f,e,a,c,d,b)
  partial_fixpoint
theorem TG:ck 32 0 [0,0] Lx qf:= .rx qf.partial_correctness (.k VQ (.k UP .n))
def qm(g:Int×Bool×Int×List dA×dA×List aO):Option (List aO):=
 match g with
 |(e,f,id,c,d,b)=>
 if decide (id<=12)=true then qf (e,f,id,0,c,d,b)>>=λa=>qm (a.1,a.2.1,aM .i64 a.2.2.1 1,a.2.2.2.1,a.2.2.2.2.1,a.2.2.2.2.2)
 else some b
  partial_fixpoint
theorem UG:ck 32 0 [0] OX qm:= .rx qm.partial_correctness .n (.k TG .n)
def rI(a:eo×Int×Bool):Option (List aO):=
 match a with
 |(d,i,record)=>
 if aB i d.ek.length=true then qm (i,record,1,d.ek,d.ek.getD i.toNat bl,[])>>=λo=>some o
 else none
theorem V2:bd aeW rI:= .bt .n (.k UG .n)
def pa(q:Int×Int×List Int×Int×List dA×Int×List UInt8×Int×Int×Int×Int×Int×Bool×List ah×List dc):Option (Int×Int×List dA×Int×List UInt8×Int×Int×Int×Int×Int×Bool×List ah×List dc):=
 match q with
 |(p,o,a,k,c,d,e,f,g,i,j,l,m,n,b)=>
 if decide (k<(a.length:Int))=true then if aB k a.length=true then if aB k a.length=true then some (mo (bW .i32 (aM .i64 97 (a.getD k.toNat 0))))>>=λt87=>if decide ([115].length+t87.length<=dK)=true then some [(⟨a.getD k.toNat 0,[115]++t87⟩:dc)]>>=λt90=>if room 24 (b++t90).length=true then pa (p,o,a,aM .i64 k 1,c,d,e,f,g,i,j,l,m,n,b++t90)
 else none
 else none
 else none
 else none
 else some (p,o,c,d,e,f,g,i,j,l,m,n,b)
  partial_fixpoint
theorem UQ:ck 12 0 [0,0] Ly pa:= .rx pa.partial_correctness
def fA(W:Int×Int×List dA×List ah):Option (List ah):=
 match W with
 |(n,i,b,a)=>
 if decide (i<n)=true then if aB i b.length=true then some (b.getD i.toNat bl)>>=λc=>qJ ((⟨b⟩:eo),i)>>=λr=>jH r>>=λN=>if N=true then some (mo (bW .i32 (aM .i64 65 i)))>>=λt41=>if decide (r=2)=true then oF c>>=λQ=>sy c>>=λR=>some [(⟨r,t41,Q,R,0,[],[],0,0,false⟩:ah)]>>=λt167=>if room 120 (a++t167).length=true then fA (n,aM .i64 i 1,b,a++t167)
 else none
 else if decide (r=3)=true then some [(⟨r,t41,0,0,bW .i64 (cg c.A 4),[],[],0,0,false⟩:ah)]>>=λo=>if room 120 (a++o).length=true then fA (n,aM .i64 i 1,b,a++o)
 else none
 else if decide (r=4)=true then nQ c>>=λS=>pa (n,i,S,0,b,r,t41,0,0,0,0,0,decide (cg c.B 2=1),a,[])>>=λd=>some [(⟨d.2.2.2.1,d.2.2.2.2.1,d.2.2.2.2.2.1,d.2.2.2.2.2.2.1,d.2.2.2.2.2.2.2.1,d.2.2.2.2.2.2.2.2.2.2.2.2,[],d.2.2.2.2.2.2.2.2.1,d.2.2.2.2.2.2.2.2.2.1,d.2.2.2.2.2.2.2.2.2.2.1⟩:ah)]>>=λD=>if room 120 (d.2.2.2.2.2.2.2.2.2.2.2.1++D).length=true then fA (d.1,aM .i64 d.2.1 1,d.2.2.1,d.2.2.2.2.2.2.2.2.2.2.2.1++D)
 else none
 else if decide (r=5)=true then rI ((⟨b⟩:eo),i,true)>>=λT=>some [(⟨r,t41,0,0,0,[],T,0,0,false⟩:ah)]>>=λG=>if room 120 (a++G).length=true then fA (n,aM .i64 i 1,b,a++G)
 else none
 else if decide (r=6)=true then rI ((⟨b⟩:eo),i,false)>>=λj=>if decide ((j.length:Int)=0)=true then some [(⟨5,t41,0,0,0,[],[],0,0,false⟩:ah)]>>=λH=>if room 120 (a++H).length=true then fA (n,aM .i64 i 1,b,a++H)
 else none
 else some [(⟨r,t41,0,0,0,[],j,0,0,decide (cg c.B 2=1)⟩:ah)]>>=λI=>if room 120 (a++I).length=true then fA (n,aM .i64 i 1,b,a++I)
 else none
 else if decide (r=7)=true then if(!(decide (n=0)))=true then some [(⟨r,t41,0,0,bW .i64 (cg c.A 4),[],[],0,cg (bW .i64 c.C) n,false⟩:ah)]>>=λJ=>if room 120 (a++J).length=true then fA (n,aM .i64 i 1,b,a++J)
 else none
 else none
 else if decide (r=8)=true then some (bW .i64 (cg c.A 4))>>=λt135=>sG ((⟨b⟩:eo),c.B)>>=λk=>if(!(decide (n=0)))=true then some (cg (bW .i64 c.C) n)>>=λt144=>if decide (k<0)=true then some [(⟨7,[],0,0,t135,[],[],0,t144,false⟩:ah)]>>=λK=>if room 120 (a++K).length=true then fA (n,aM .i64 i 1,b,a++K)
 else none
 else some [(⟨r,t41,0,0,t135,[],[],k,t144,false⟩:ah)]>>=λL=>if room 120 (a++L).length=true then fA (n,aM .i64 i 1,b,a++L)
 else none
 else none
 else if decide (r=9)=true then if(!(decide (n=0)))=true then some [(⟨r,t41,0,0,0,[],[],0,cg (bW .i64 c.C) n,false⟩:ah)]>>=λM=>if room 120 (a++M).length=true then fA (n,aM .i64 i 1,b,a++M)
 else none
 else none
 else some [(⟨r,t41,0,0,0,[],[],0,0,false⟩:ah)]>>=λp=>if room 120 (a++p).length=true then fA (n,aM .i64 i 1,b,a++p)
 else none
 else if decide (r=2)=true then oF c>>=λU=>sy c>>=λV=>some [(⟨r,[],U,V,0,[],[],0,0,false⟩:ah)]>>=λq=>if room 120 (a++q).length=true then fA (n,aM .i64 i 1,b,a++q)
 else none
 else if decide (r=3)=true then some [(⟨r,[],0,0,bW .i64 (cg c.A 4),[],[],0,0,false⟩:ah)]>>=λs=>if room 120 (a++s).length=true then fA (n,aM .i64 i 1,b,a++s)
 else none
 else if decide (r=4)=true then nQ c>>=λO=>pa (n,i,O,0,b,r,[],0,0,0,0,0,decide (cg c.B 2=1),a,[])>>=λe=>some [(⟨e.2.2.2.1,e.2.2.2.2.1,e.2.2.2.2.2.1,e.2.2.2.2.2.2.1,e.2.2.2.2.2.2.2.1,e.2.2.2.2.2.2.2.2.2.2.2.2,[],e.2.2.2.2.2.2.2.2.1,e.2.2.2.2.2.2.2.2.2.1,e.2.2.2.2.2.2.2.2.2.2.1⟩:ah)]>>=λt=>if room 120 (e.2.2.2.2.2.2.2.2.2.2.2.1++t).length=true then fA (e.1,aM .i64 e.2.1 1,e.2.2.1,e.2.2.2.2.2.2.2.2.2.2.2.1++t)
 else none
 else if decide (r=5)=true then rI ((⟨b⟩:eo),i,true)>>=λP=>some [(⟨r,[],0,0,0,[],P,0,0,false⟩:ah)]>>=λu=>if room 120 (a++u).length=true then fA (n,aM .i64 i 1,b,a++u)
 else none
 else if decide (r=6)=true then rI ((⟨b⟩:eo),i,false)>>=λf=>if decide ((f.length:Int)=0)=true then some [(⟨5,[],0,0,0,[],[],0,0,false⟩:ah)]>>=λv=>if room 120 (a++v).length=true then fA (n,aM .i64 i 1,b,a++v)
 else none
 else some [(⟨r,[],0,0,0,[],f,0,0,decide (cg c.B 2=1)⟩:ah)]>>=λw=>if room 120 (a++w).length=true then fA (n,aM .i64 i 1,b,a++w)
 else none
 else if decide (r=7)=true then if(!(decide (n=0)))=true then some [(⟨r,[],0,0,bW .i64 (cg c.A 4),[],[],0,cg (bW .i64 c.C) n,false⟩:ah)]>>=λx=>if room 120 (a++x).length=true then fA (n,aM .i64 i 1,b,a++x)
 else none
 else none
 else if decide (r=8)=true then some (bW .i64 (cg c.A 4))>>=λl=>sG ((⟨b⟩:eo),c.B)>>=λg=>if(!(decide (n=0)))=true then some (cg (bW .i64 c.C) n)>>=λm=>if decide (g<0)=true then some [(⟨7,[],0,0,l,[],[],0,m,false⟩:ah)]>>=λy=>if room 120 (a++y).length=true then fA (n,aM .i64 i 1,b,a++y)
 else none
 else some [(⟨r,[],0,0,l,[],[],g,m,false⟩:ah)]>>=λz=>if room 120 (a++z).length=true then fA (n,aM .i64 i 1,b,a++z)
 else none
 else none
 else if decide (r=9)=true then if(!(decide (n=0)))=true then some [(⟨r,[],0,0,0,[],[],0,cg (bW .i64 c.C) n,false⟩:ah)]>>=λE=>if room 120 (a++E).length=true then fA (n,aM .i64 i 1,b,a++E)
 else none
 else none
 else some [(⟨r,[],0,0,0,[],[],0,0,false⟩:ah)]>>=λF=>if room 120 (a++F).length=true then fA (n,aM .i64 i 1,b,a++F)
 else none
 else none
 else some a
  partial_fixpoint
theorem V3:ck 12 0 [0] Od fA:= .rx fA.partial_correctness (.k xL (.k Fu (.k FE (.k Ra (.k Rj (.k V2 (.k Rk .n))))))) (.k UQ .n)
def qM(d:eo):Option (bh×Bool):=
 some (d.ek.length:Int)>>=λt13=>if(bif decide (t13<1)then true else decide (5<t13))=true then some ((⟨[]⟩:bh),false)
 else fA (t13,0,d.ek,[])>>=λo=>some ((⟨o⟩:bh),true)
theorem QT:bd tT qM:= .bt .n (.k V3 .n)
def ix(d:Int×List ah×List Int×Bool):Option (Int×List ah×List Int×Bool):=
 match d with
 |(n,b,a,c)=>
 if decide ((a.length:Int)=0)=true then some (0,b,a,c)
 else if aB 0 a.length=true then if(!(decide (n=0)))=true then if ed 1 (a.length:Int) a.length=true then some (cg (bW .i64 (a.getD (0:Int).toNat 0)) n,b,eI a 1 (a.length:Int),c)
 else none
 else none
 else none
theorem rR:bd ad2 ix:= .bt
def rQ(f:List UInt8×Int×List ah×List Int×Bool):Option (List UInt8×List ah×List Int×Bool):=
 match f with
 |(b,n,c,d,e)=>
 if decide (0<n)=true then ix (3,c,d,e)>>=λa=>some (mo (bW .i32 (aM .i64 97 a.1)))>>=λt21=>if decide (b.length+t21.length<=dK)=true then rQ (b++t21,c' .i64 n 1,a.2.1,a.2.2.1,a.2.2.2)
 else none
 else some (b,c,d,e)
  partial_fixpoint
theorem Ul:ck 108 1 [0] Mp rQ:= .rx rQ.partial_correctness (.k rR .n)
def BB(d:Int×List ah×List Int×Bool):Option (List UInt8×List ah×List Int×Bool):=
 match d with
 |(most,b,a,c)=>
 ix (aM .i64 (dD most 3) 1,b,a,c)>>=λr=>rQ ([],r.1,r.2.1,r.2.2.1,r.2.2.2)>>=λo=>some (o.1,o.2.1,o.2.2.1,o.2.2.2)
theorem TH:bd ad3 BB:= .bt (.k rR .n) (.k Ul .n)
def uj(d:List ah×List Int×Bool):Option (Bool×List ah×List Int×Bool):=
 match d with
 |(b,c,a)=>
 if a=true then ix (4,b,c,a)>>=λr=>some (bif a then decide (r.1=3)else false,r.2.1,r.2.2.1,r.2.2.2)
 else some (bif a then false else false,b,c,a)
theorem U':bd ad4 uj:= .bt (.k rR .n)
def o6(c:Int×Int×ah):Option ((Int×Bool) ⊕ (Unit)):=
 match c with
 |(a,i,b)=>
 if decide (i<(b.ae.length:Int))=true then if aB i b.ae.length=true then if decide ((b.ae.getD i.toNat au).af=a)=true then some (.inl (i,true))
 else o6 (a,aM .i64 i 1,b)
 else none
 else some (.inr ())
  partial_fixpoint
theorem Va:ck 195 0 [0] Mq o6:= .rx o6.partial_correctness
def mC(b:ah×Int):Option (Int×Bool):=
 match b with
 |(t,id)=>
 o6 (id,0,t)>>=λo=>match o with
 |.inl a=>
 some (a.1,a.2)
 |.inr c=>
 some (0,false)
theorem xD:bd aeq mC:= .bt .n (.k Va .n)
def nH(c:Int×Int×ah):Option ((Int×Bool) ⊕ (Unit)):=
 match c with
 |(a,i,b)=>
 if decide (i<(b.a7.length:Int))=true then if aB i b.a7.length=true then if decide ((b.a7.getD i.toNat dm).af=a)=true then some (.inl (i,true))
 else nH (a,aM .i64 i 1,b)
 else none
 else some (.inr ())
  partial_fixpoint
theorem Vb:ck 196 0 [0] Mr nH:= .rx nH.partial_correctness
def xa(b:ah×Int):Option (Int×Bool):=
 match b with
 |(t,id)=>
 nH (id,0,t)>>=λo=>match o with
 |.inl a=>
 some (a.1,a.2)
 |.inr c=>
 some (0,false)
theorem Rw:bd aer xa:= .bt .n (.k Vb .n)
def Bk(b:ah×Int):Option (Bool):=
 match b with
 |(t,n)=>
 mC (t,n)>>=λr=>xa (t,n)>>=λa=>some (bif r.2 then true else a.2)
theorem VJ:bd aei Bk:= .bt (.k xD (.k Rw .n))
def uN(g:Int×List ah×List Int×Bool×ah):Option (Int×List ah×List Int×Bool):=
 match g with
 |(a,b,c,d,e)=>
 Bk (e,a)>>=λf=>if f=true then uN (aM .i64 a 1,b,c,d,e)
 else some (a,b,c,d)
  partial_fixpoint
theorem Uj:ck 110 1 [0] Ms uN:= .rx uN.partial_correctness (.k VJ .n)
def p7(d:ah×List ah×List Int×Bool):Option (Int×List ah×List Int×Bool):=
 match d with
 |(t,b,a,c)=>
 ix (14,b,a,c)>>=λr=>uN (aM .i64 1 r.1,r.2.1,r.2.2.1,r.2.2.2,t)>>=λo=>some (o.1,o.2.1,o.2.2.1,o.2.2.2)
theorem Um:bd ad6 p7:= .bt (.k rR .n) (.k Uj .n)
def uk(d:Int×List ah×List Int×Bool):Option (cF×List ah×List Int×Bool):=
 match d with
 |(n,b,a,c)=>
 some [[],[1],[97],[3,1,2]]>>=λt6=>ix (4,b,a,c)>>=λr=>if aB r.1 t6.length=true then some ((⟨n,t6.getD r.1.toNat []⟩:cF),r.2.1,r.2.2.1,r.2.2.2)
 else none
theorem Vc:bd ad7 uk:= .bt (.k rR .n)
def j7(c:Bool×Bool):Option (Int):=
 match c with
 |(b,a)=>
 if a=true then some 0
 else if b=true then some (-1)
 else some 1
theorem V4:bd aee j7:= .bt
def pc(n:Int):Option (Int):=
 if decide (0<=n)=true then some (iq .u64 2 (bW .u64 n))
 else some (aM .u64 (iq .u64 2 (bW .u64 (c' .i64 0 (aM .i64 n 1)))) 1)
theorem BD:bd afb pc:= .bt
def nI(j:I×I):Option (Int):=
 match j with
 |(a,b)=>
 if(!(decide (a.Kind=b.Kind)))=true then some 0
 else if decide (a.Kind=1)=true then j7 (b.b',fc a.b' b.b')>>=λr=>some r
 else if decide (a.Kind=2)=true then pc a.bq>>=λc=>pc b.bq>>=λd=>j7 (decide (c<d),decide (a.bq=b.bq))>>=λe=>some e
 else if decide (a.Kind=3)=true then if(!(decide ((a.bA.length:Int)=(b.bA.length:Int))))=true then j7 (decide ((a.bA.length:Int)<(b.bA.length:Int)),false)>>=λf=>some f
 else j7 (Op.bytesLess a.bA b.bA,decide (a.bA=b.bA))>>=λg=>some g
 else if decide (a.Kind=4)=true then j7 (decide (a.af<b.af),decide (a.af=b.af))>>=λi=>some i
 else some 0
theorem BC:bd afe nI:= .bt (.k V4 (.k BD .n))
def qt(l:Int×I×I×I×Int×Bool×Int×List UInt8×Int):Option (Int×I×I×I×Int×Bool×Int×List UInt8×Int):=
 match l with
 |(b,a,c,d,e,f,g,i,j)=>
 some (decide (b<(a.aE.length:Int)))>>=λt12=>if(aB b a.aE.length||(!t12))=true then (if t12=true then nI (I.eta (a.aE.getD b.toNat aK),I.eta c)else some 0)>>=λk=>if(bif t12 then decide (k<0)else false)=true then qt (aM .i64 b 1,I.eta a,I.eta c,I.eta d,e,f,g,i,j)
 else some (b,I.eta a,I.eta c,I.eta d,e,f,g,i,j)
 else none
  partial_fixpoint
theorem VS:ck 112 0 [0] Mt qt:= .rx qt.partial_correctness (.k BC .n)
def Bm(d:I×I×I):Option (I):=
 match d with
 |(v,key,item)=>
 qt (0,I.eta v,I.eta key,I.eta item,0,false,0,[],0)>>=λo=>some (decide (o.1<(o.2.1.aE.length:Int)))>>=λt29=>if(aB o.1 o.2.1.aE.length||(!t29))=true then (if t29=true then nI (I.eta (o.2.1.aE.getD o.1.toNat aK),I.eta o.2.2.1)else some 0)>>=λr=>if(bif t29 then decide (r=0)else false)=true then some (I.eta o.2.1)
 else if ed 0 o.1 o.2.1.aE.length=true then some (eI o.2.1.aE 0 o.1)>>=λt45=>if room 120 ([]++t45).length=true then some ([]++t45)>>=λl=>some [I.eta o.2.2.1]>>=λt48=>if room 120 (l++t48).length=true then some (l++t48)>>=λa=>if ed o.1 (o.2.1.aE.length:Int) o.2.1.aE.length=true then some (eI o.2.1.aE o.1 (o.2.1.aE.length:Int))>>=λt53=>if room 120 (a++t53).length=true then if ed 0 o.1 o.2.1.al.length=true then some (eI o.2.1.al 0 o.1)>>=λt60=>if room 120 ([]++t60).length=true then some ([]++t60)>>=λb=>some [I.eta o.2.2.2.1]>>=λt63=>if room 120 (b++t63).length=true then some (b++t63)>>=λc=>if ed o.1 (o.2.1.al.length:Int) o.2.1.al.length=true then some (eI o.2.1.al o.1 (o.2.1.al.length:Int))>>=λt68=>if room 120 (c++t68).length=true then some (⟨o.2.1.Kind,o.2.1.b',o.2.1.bq,o.2.1.bA,o.2.1.af,a++t53,c++t68,o.2.1.Rest⟩:I)
 else none
 else none
 else none
 else none
 else none
 else none
 else none
 else none
 else none
 else none
 else none
theorem WG:bd ad8 Bm:= .bt (.k BC .n) (.k VS .n)
mutual
def jj(D:Int×List ah×List Int×Bool):Option (I×List ah×List Int×Bool):=
 match D with
 |(t,b,e,f)=>
 if aB t b.length=true then some (b.getD t.toNat ar)>>=λa=>if decide (a.Kind=1)=true then ix (2,b,e,f)>>=λr=>some ((⟨a.Kind,decide (r.1=1),0,[],0,[],[],[]⟩:I),r.2.1,r.2.2.1,r.2.2.2)
 else if decide (a.Kind=2)=true then ix (256,b,e,f)>>=λbi=>some (aM .i64 (c' .i64 a.bx a.bz) 1)>>=λt51=>if(!(decide (t51=0)))=true then some ((⟨a.Kind,false,aM .i64 a.bz (cg bi.1 t51),[],0,[],[],[]⟩:I),bi.2.1,bi.2.2.1,bi.2.2.2)
 else none
 else if decide (a.Kind=3)=true then BB (a.Max,b,e,f)>>=λaI=>some ((⟨a.Kind,false,0,aI.1,0,[],[],[]⟩:I),aI.2.1,aI.2.2.1,aI.2.2.2)
 else if decide (a.Kind=4)=true then ix ((a.a7.length:Int),b,e,f)>>=λj=>if aB j.1 a.a7.length=true then some (a.a7.getD j.1.toNat dm)>>=λhm=>if a.Open=true then uj (j.2.1,j.2.2.1,j.2.2.2)>>=λy=>if(bif a.Open then y.1 else false)=true then p7 (a,y.2.1,y.2.2.1,y.2.2.2)>>=λa9=>some ((⟨a.Kind,false,0,[],a9.1,[],[],[]⟩:I),a9.2.1,a9.2.2.1,a9.2.2.2)
 else some ((⟨a.Kind,false,0,[],hm.af,[],[],[]⟩:I),y.2.1,y.2.2.1,y.2.2.2)
 else if(bif a.Open then false else false)=true then p7 (a,j.2.1,j.2.2.1,j.2.2.2)>>=λbe=>some ((⟨a.Kind,false,0,[],be.1,[],[],[]⟩:I),be.2.1,be.2.2.1,be.2.2.2)
 else some ((⟨a.Kind,false,0,[],hm.af,[],[],[]⟩:I),j.2.1,j.2.2.1,j.2.2.2)
 else none
 else if decide (a.Kind=5)=true then mx (0,b,e,f,0,false,0,[],0,a.Kind,a.Name,a.bz,a.bx,a.Max,a.a7,a.ae,a.Key,a.aH,a.Open,a.Kind,false,0,[],0,[])>>=λo=>uj (o.1,o.2.1,o.2.2.1)>>=λA=>if A.1=true then p7 ((⟨o.2.2.2.2.2.2.2.2.1,o.2.2.2.2.2.2.2.2.2.1,o.2.2.2.2.2.2.2.2.2.2.1,o.2.2.2.2.2.2.2.2.2.2.2.1,o.2.2.2.2.2.2.2.2.2.2.2.2.1,o.2.2.2.2.2.2.2.2.2.2.2.2.2.1,o.2.2.2.2.2.2.2.2.2.2.2.2.2.2.1,o.2.2.2.2.2.2.2.2.2.2.2.2.2.2.2.1,o.2.2.2.2.2.2.2.2.2.2.2.2.2.2.2.2.1,o.2.2.2.2.2.2.2.2.2.2.2.2.2.2.2.2.2.1⟩:ah),A.2.1,A.2.2.1,A.2.2.2)>>=λbf=>uk (bf.1,bf.2.1,bf.2.2.1,bf.2.2.2)>>=λbg=>some ((⟨o.2.2.2.2.2.2.2.2.2.2.2.2.2.2.2.2.2.2.1,o.2.2.2.2.2.2.2.2.2.2.2.2.2.2.2.2.2.2.2.1,o.2.2.2.2.2.2.2.2.2.2.2.2.2.2.2.2.2.2.2.2.1,o.2.2.2.2.2.2.2.2.2.2.2.2.2.2.2.2.2.2.2.2.2.1,o.2.2.2.2.2.2.2.2.2.2.2.2.2.2.2.2.2.2.2.2.2.2.1,[],o.2.2.2.2.2.2.2.2.2.2.2.2.2.2.2.2.2.2.2.2.2.2.2,[bg.1]⟩:I),bg.2.1,bg.2.2.1,bg.2.2.2)
 else some ((⟨o.2.2.2.2.2.2.2.2.2.2.2.2.2.2.2.2.2.2.1,o.2.2.2.2.2.2.2.2.2.2.2.2.2.2.2.2.2.2.2.1,o.2.2.2.2.2.2.2.2.2.2.2.2.2.2.2.2.2.2.2.2.1,o.2.2.2.2.2.2.2.2.2.2.2.2.2.2.2.2.2.2.2.2.2.1,o.2.2.2.2.2.2.2.2.2.2.2.2.2.2.2.2.2.2.2.2.2.2.1,[],o.2.2.2.2.2.2.2.2.2.2.2.2.2.2.2.2.2.2.2.2.2.2.2,[]⟩:I),A.2.1,A.2.2.1,A.2.2.2)
 else if decide (a.Kind=6)=true then if a.Open=true then uj (b,e,f)>>=λB=>if(bif a.Open then B.1 else false)=true then p7 (a,B.2.1,B.2.2.1,B.2.2.2)>>=λad=>uk (ad.1,ad.2.1,ad.2.2.1,ad.2.2.2)>>=λbr=>some ((⟨a.Kind,false,0,[],ad.1,[],[],[br.1]⟩:I),br.2.1,br.2.2.1,br.2.2.2)
 else ix ((a.ae.length:Int),B.2.1,B.2.2.1,B.2.2.2)>>=λam=>if aB am.1 a.ae.length=true then some (a.ae.getD am.1.toNat au)>>=λhs=>jj (hs.av,am.2.1,am.2.2.1,am.2.2.2)>>=λbv=>some ((⟨a.Kind,false,0,[],hs.af,[],[I.eta bv.1],[]⟩:I),bv.2.1,bv.2.2.1,bv.2.2.2)
 else none
 else if(bif a.Open then false else false)=true then p7 (a,b,e,f)>>=λan=>uk (an.1,an.2.1,an.2.2.1,an.2.2.2)>>=λbH=>some ((⟨a.Kind,false,0,[],an.1,[],[],[bH.1]⟩:I),bH.2.1,bH.2.2.1,bH.2.2.2)
 else ix ((a.ae.length:Int),b,e,f)>>=λao=>if aB ao.1 a.ae.length=true then some (a.ae.getD ao.1.toNat au)>>=λht=>jj (ht.av,ao.2.1,ao.2.2.1,ao.2.2.2)>>=λbR=>some ((⟨a.Kind,false,0,[],ht.af,[],[I.eta bR.1],[]⟩:I),bR.2.1,bR.2.2.1,bR.2.2.2)
 else none
 else if decide (a.Kind=7)=true then ix (aM .i64 (dD a.Max 3) 1,b,e,f)>>=λb0=>qx (b0.1,b0.2.1,b0.2.2.1,b0.2.2.2,0,false,0,[],0,a.Kind,a.Name,a.bz,a.bx,a.Max,a.a7,a.ae,a.Key,a.aH,a.Open,a.Kind,false,0,[],0,[])>>=λq=>some ((⟨q.2.2.2.2.2.2.2.2.1,q.2.2.2.2.2.2.2.2.2.1,q.2.2.2.2.2.2.2.2.2.2.1,q.2.2.2.2.2.2.2.2.2.2.2.1,q.2.2.2.2.2.2.2.2.2.2.2.2.1,[],q.2.2.2.2.2.2.2.2.2.2.2.2.2,[]⟩:I),q.1,q.2.1,q.2.2.1)
 else if decide (a.Kind=8)=true then ix (aM .i64 (dD a.Max 3) 1,b,e,f)>>=λaP=>p6 (aP.1,aP.2.1,aP.2.2.1,aP.2.2.2,0,false,0,[],0,a.Kind,a.Name,a.bz,a.bx,a.Max,a.a7,a.ae,a.Key,a.aH,a.Open,a.Kind,false,0,[],0,[],[],[])>>=λg=>some ((⟨g.2.2.2.2.2.2.2.2.1,g.2.2.2.2.2.2.2.2.2.1,g.2.2.2.2.2.2.2.2.2.2.1,g.2.2.2.2.2.2.2.2.2.2.2.1,g.2.2.2.2.2.2.2.2.2.2.2.2.1,g.2.2.2.2.2.2.2.2.2.2.2.2.2.1,g.2.2.2.2.2.2.2.2.2.2.2.2.2.2.1,g.2.2.2.2.2.2.2.2.2.2.2.2.2.2.2⟩:I),g.1,g.2.1,g.2.2.1)
 else ix (2,b,e,f)>>=λw=>if decide (w.1=1)=true then jj (a.aH,w.2.1,w.2.2.1,w.2.2.2)>>=λa0=>some ((⟨a.Kind,false,0,[],0,[],[I.eta a0.1],[]⟩:I),a0.2.1,a0.2.2.1,a0.2.2.2)
 else some ((⟨a.Kind,false,0,[],0,[],[],[]⟩:I),w.2.1,w.2.2.1,w.2.2.2)
 else none
  partial_fixpoint
def mx(D:Int×List ah×List Int×Bool×Int×Bool×Int×List UInt8×Int×Int×List UInt8×Int×Int×Int×List dc×List aO×Int×Int×Bool×Int×Bool×Int×List UInt8×Int×List I):Option (List ah×List Int×Bool×Int×Bool×Int×List UInt8×Int×Int×List UInt8×Int×Int×Int×List dc×List aO×Int×Int×Bool×Int×Bool×Int×List UInt8×Int×List I):=
 match D with
 |(i,ap,ax,aG,E,F,G,H,J,K,L,M,N,O,P,c,Q,R,S,U,W,X,Y,Z,p)=>
 if decide (i<(c.length:Int))=true then if aB i c.length=true then some (c.getD i.toNat au)>>=λb2=>if b2.bD=true then ix (3,ap,ax,aG)>>=λx=>if(bif b2.bD then decide (x.1=0)else false)=true then if aB i c.length=true then some [I.eta (c.getD i.toNat au).bk]>>=λt113=>if room 120 (p++t113).length=true then mx (aM .i64 i 1,x.2.1,x.2.2.1,x.2.2.2,E,F,G,H,J,K,L,M,N,O,P,c,Q,R,S,U,W,X,Y,Z,p++t113)
 else none
 else none
 else if aB i c.length=true then jj ((c.getD i.toNat au).av,x.2.1,x.2.2.1,x.2.2.2)>>=λa1=>some [I.eta a1.1]>>=λt126=>if room 120 (p++t126).length=true then mx (aM .i64 i 1,a1.2.1,a1.2.2.1,a1.2.2.2,E,F,G,H,J,K,L,M,N,O,P,c,Q,R,S,U,W,X,Y,Z,p++t126)
 else none
 else none
 else if(bif b2.bD then false else false)=true then if aB i c.length=true then some [I.eta (c.getD i.toNat au).bk]>>=λhi=>if room 120 (p++hi).length=true then mx (aM .i64 i 1,ap,ax,aG,E,F,G,H,J,K,L,M,N,O,P,c,Q,R,S,U,W,X,Y,Z,p++hi)
 else none
 else none
 else if aB i c.length=true then jj ((c.getD i.toNat au).av,ap,ax,aG)>>=λa2=>some [I.eta a2.1]>>=λhk=>if room 120 (p++hk).length=true then mx (aM .i64 i 1,a2.2.1,a2.2.2.1,a2.2.2.2,E,F,G,H,J,K,L,M,N,O,P,c,Q,R,S,U,W,X,Y,Z,p++hk)
 else none
 else none
 else none
 else some (ap,ax,aG,E,F,G,H,J,K,L,M,N,O,P,c,Q,R,S,U,W,X,Y,Z,p)
  partial_fixpoint
def qx(D:Int×List ah×List Int×Bool×Int×Bool×Int×List UInt8×Int×Int×List UInt8×Int×Int×Int×List dc×List aO×Int×Int×Bool×Int×Bool×Int×List UInt8×Int×List I):Option (List ah×List Int×Bool×Int×Bool×Int×List UInt8×Int×Int×Bool×Int×List UInt8×Int×List I):=
 match D with
 |(n,g0,g1,g2,g3,g4,g5,g6,g7,i0,i1,i2,i3,i4,i5,i6,i7,g8,i8,g9,b3,ce,ci,cm,b1)=>
 if decide (0<n)=true then jj (g8,g0,g1,g2)>>=λa3=>some [I.eta a3.1]>>=λt193=>if room 120 (b1++t193).length=true then qx (c' .i64 n 1,a3.2.1,a3.2.2.1,a3.2.2.2,g3,g4,g5,g6,g7,i0,i1,i2,i3,i4,i5,i6,i7,g8,i8,g9,b3,ce,ci,cm,b1++t193)
 else none
 else some (g0,g1,g2,g3,g4,g5,g6,g7,g9,b3,ce,ci,cm,b1)
  partial_fixpoint
def p6(D:Int×List ah×List Int×Bool×Int×Bool×Int×List UInt8×Int×Int×List UInt8×Int×Int×Int×List dc×List aO×Int×Int×Bool×Int×Bool×Int×List UInt8×Int×List I×List I×List cF):Option (List ah×List Int×Bool×Int×Bool×Int×List UInt8×Int×Int×Bool×Int×List UInt8×Int×List I×List I×List cF):=
 match D with
 |(he,cs,cP,c0,c9,dt,eq,es,ex,hu,hw,hH,h0,h1,ii,io,fd,ff,ip,fo,fs,gc,gd,ge,gl,gs,gt)=>
 if decide (0<he)=true then jj (fd,cs,cP,c0)>>=λa4=>jj (ff,a4.2.1,a4.2.2.1,a4.2.2.2)>>=λa5=>Bm ((⟨fo,fs,gc,gd,ge,gl,gs,gt⟩:I),I.eta a4.1,I.eta a5.1)>>=λv=>p6 (c' .i64 he 1,a5.2.1,a5.2.2.1,a5.2.2.2,c9,dt,eq,es,ex,hu,hw,hH,h0,h1,ii,io,fd,ff,ip,v.Kind,v.b',v.bq,v.bA,v.af,v.aE,v.al,v.Rest)
 else some (cs,cP,c0,c9,dt,eq,es,ex,fo,fs,gc,gd,ge,gl,gs,gt)
  partial_fixpoint
end
theorem Un:eD rz jj/\eX 61 1 [2] wL p6/\eX 61 1 [1] wK qx/\eX 61 1 [0] wJ mx:=jj.mutual_partial_correctness (ez rz) (eW 61 1 [2] wL) (eW 61 1 [1] wK) (eW 61 1 [0] wJ)
 (λ_ _ _ _ h0 h1 a b _ _ h=>eH h (.k rR (.k TH (.k U' (.k Um (.k Vc (.k (cB rz h0) .n)))))) (.k (fa wJ b) (.k (fa wK a) (.k (fa wL h1) .n))))
 (λ_ _ h0 h1 _ _ h=>e' wL h1 h (.k (cB rz h0) (.k WG .n)))
 (λ_ _ h0 a _ _ h=>e' wK a h (.k (cB rz h0) .n))
 (λ_ _ h0 b _ _ h=>e' wJ b h (.k rR (.k (cB rz h0) .n)))
theorem Rr:bd rz jj:=cB _ Un.1
def xj(b:bh×Int×List Int):Option (I):=
 match b with
 |(s,t,a)=>
 some (dD 60 (a.length:Int))>>=λt12=>if ed 0 t12 a.length=true then jj (t,s.Types,eI a 0 t12,false)>>=λr=>some (I.eta r.1)
 else none
theorem VK:bd aeB xj:= .bt (.k Rr .n)
def xH(b:bh×Int×List Int):Option (I):=
 match b with
 |(s,t,a)=>
 some (dD 60 (a.length:Int))>>=λt12=>if ed 0 t12 a.length=true then jj (t,s.Types,eI a 0 t12,true)>>=λr=>some (I.eta r.1)
 else none
theorem UR:bd aeG xH:= .bt (.k Rr .n)
def qN(d:lF):Option (bh×Int×I×I×Bool):=
 qM d.S>>=λr=>if(!r.2)=true then some (r.1,0,(⟨0,false,0,[],0,[],[],[]⟩:I),(⟨0,false,0,[],0,[],[],[]⟩:I),false)
 else some (r.1.Types.length:Int)>>=λt26=>if(!(decide (t26=0)))=true then some (cg (bW .i64 d.T) t26)>>=λt27=>xj (r.1,t27,d.C)>>=λa=>xH (r.1,t27,d.C)>>=λb=>some (r.1,t27,I.eta a,I.eta b,true)
 else none
theorem WX:bd ad5 qN:= .bt (.k QT (.k VK (.k UR .n)))
def hd(q:List lE×Int×List dA):Option (List dA):=
 match q with
 |(d,i,a)=>
 if(bif decide (i<(d.length:Int))then decide (0<(a.length:Int))else false)=true then if aB i d.length=true then some (d.getD i.toNat nK)>>=λe=>some (a.length:Int)>>=λt38=>if(!(decide (t38=0)))=true then some (cg (bW .i64 e.Node) t38)>>=λt39=>if aB t39 a.length=true then if decide (t39.toNat<a.length)=true then some (a.getD t39.toNat bl).cX>>=λt46=>if room 3 ([]++t46).length=true then some ([]++t46)>>=λb=>if decide (t39.toNat<a.length)=true then if decide (t39.toNat=t39.toNat)=true then
 let n:=λc=>
 some (cg e.Kind 8)>>=λf=>if decide (f=0)=true then if decide (t39.toNat<a.length)=true then some (c' .u8 (aM .u8 (a.getD t39.toNat bl).A (cg e.A 5)) 2)>>=λj=>if decide (t39.toNat<a.length)=true then hd (d,aM .i64 i 1,(a.set t39.toNat (⟨(a.getD t39.toNat bl).Kind,j,(a.getD t39.toNat bl).B,(a.getD t39.toNat bl).C,(a.getD t39.toNat bl).cX⟩:dA)).set t39.toNat (⟨((a.set t39.toNat (⟨(a.getD t39.toNat bl).Kind,j,(a.getD t39.toNat bl).B,(a.getD t39.toNat bl).C,(a.getD t39.toNat bl).cX⟩:dA)).getD t39.toNat bl).Kind,((a.set t39.toNat (⟨(a.getD t39.toNat bl).Kind,j,(a.getD t39.toNat bl).B,(a.getD t39.toNat bl).C,(a.getD t39.toNat bl).cX⟩:dA)).getD t39.toNat bl).A,((a.set t39.toNat (⟨(a.getD t39.toNat bl).Kind,j,(a.getD t39.toNat bl).B,(a.getD t39.toNat bl).C,(a.getD t39.toNat bl).cX⟩:dA)).getD t39.toNat bl).B,((a.set t39.toNat (⟨(a.getD t39.toNat bl).Kind,j,(a.getD t39.toNat bl).B,(a.getD t39.toNat bl).C,(a.getD t39.toNat bl).cX⟩:dA)).getD t39.toNat bl).C,b⟩:dA))
 else none
 else none
 else if decide (f=1)=true then if decide (t39.toNat<a.length)=true then some (c' .u8 (aM .u8 (a.getD t39.toNat bl).B (cg e.B 5)) 2)>>=λk=>if decide (t39.toNat<a.length)=true then hd (d,aM .i64 i 1,(a.set t39.toNat (⟨(a.getD t39.toNat bl).Kind,(a.getD t39.toNat bl).A,k,(a.getD t39.toNat bl).C,(a.getD t39.toNat bl).cX⟩:dA)).set t39.toNat (⟨((a.set t39.toNat (⟨(a.getD t39.toNat bl).Kind,(a.getD t39.toNat bl).A,k,(a.getD t39.toNat bl).C,(a.getD t39.toNat bl).cX⟩:dA)).getD t39.toNat bl).Kind,((a.set t39.toNat (⟨(a.getD t39.toNat bl).Kind,(a.getD t39.toNat bl).A,k,(a.getD t39.toNat bl).C,(a.getD t39.toNat bl).cX⟩:dA)).getD t39.toNat bl).A,((a.set t39.toNat (⟨(a.getD t39.toNat bl).Kind,(a.getD t39.toNat bl).A,k,(a.getD t39.toNat bl).C,(a.getD t39.toNat bl).cX⟩:dA)).getD t39.toNat bl).B,((a.set t39.toNat (⟨(a.getD t39.toNat bl).Kind,(a.getD t39.toNat bl).A,k,(a.getD t39.toNat bl).C,(a.getD t39.toNat bl).cX⟩:dA)).getD t39.toNat bl).C,b⟩:dA))
 else none
 else none
 else if decide (f=2)=true then if decide (t39.toNat<a.length)=true then some (cg e.A 6)>>=λo=>if decide (0<=o)=true then some (tj .u8 (a.getD t39.toNat bl).A (mL .u8 1 o))>>=λl=>if decide (t39.toNat<a.length)=true then hd (d,aM .i64 i 1,(a.set t39.toNat (⟨(a.getD t39.toNat bl).Kind,l,(a.getD t39.toNat bl).B,(a.getD t39.toNat bl).C,(a.getD t39.toNat bl).cX⟩:dA)).set t39.toNat (⟨((a.set t39.toNat (⟨(a.getD t39.toNat bl).Kind,l,(a.getD t39.toNat bl).B,(a.getD t39.toNat bl).C,(a.getD t39.toNat bl).cX⟩:dA)).getD t39.toNat bl).Kind,((a.set t39.toNat (⟨(a.getD t39.toNat bl).Kind,l,(a.getD t39.toNat bl).B,(a.getD t39.toNat bl).C,(a.getD t39.toNat bl).cX⟩:dA)).getD t39.toNat bl).A,((a.set t39.toNat (⟨(a.getD t39.toNat bl).Kind,l,(a.getD t39.toNat bl).B,(a.getD t39.toNat bl).C,(a.getD t39.toNat bl).cX⟩:dA)).getD t39.toNat bl).B,((a.set t39.toNat (⟨(a.getD t39.toNat bl).Kind,l,(a.getD t39.toNat bl).B,(a.getD t39.toNat bl).C,(a.getD t39.toNat bl).cX⟩:dA)).getD t39.toNat bl).C,b⟩:dA))
 else none
 else none
 else none
 else if decide (f=3)=true then if decide (t39.toNat<a.length)=true then some (aM .u8 (a.getD t39.toNat bl).C e.A)>>=λm=>if decide (t39.toNat<a.length)=true then hd (d,aM .i64 i 1,(a.set t39.toNat (⟨(a.getD t39.toNat bl).Kind,(a.getD t39.toNat bl).A,(a.getD t39.toNat bl).B,m,(a.getD t39.toNat bl).cX⟩:dA)).set t39.toNat (⟨((a.set t39.toNat (⟨(a.getD t39.toNat bl).Kind,(a.getD t39.toNat bl).A,(a.getD t39.toNat bl).B,m,(a.getD t39.toNat bl).cX⟩:dA)).getD t39.toNat bl).Kind,((a.set t39.toNat (⟨(a.getD t39.toNat bl).Kind,(a.getD t39.toNat bl).A,(a.getD t39.toNat bl).B,m,(a.getD t39.toNat bl).cX⟩:dA)).getD t39.toNat bl).A,((a.set t39.toNat (⟨(a.getD t39.toNat bl).Kind,(a.getD t39.toNat bl).A,(a.getD t39.toNat bl).B,m,(a.getD t39.toNat bl).cX⟩:dA)).getD t39.toNat bl).B,((a.set t39.toNat (⟨(a.getD t39.toNat bl).Kind,(a.getD t39.toNat bl).A,(a.getD t39.toNat bl).B,m,(a.getD t39.toNat bl).cX⟩:dA)).getD t39.toNat bl).C,b⟩:dA))
 else none
 else none
 else if decide (f=4)=true then if decide (t39.toNat=t39.toNat)=true then if decide ((b.length:Int)<8)=true then if decide (t39.toNat=t39.toNat)=true then some [(⟨e.A,e.B,fY .u8 e.A 12⟩:lG)]>>=λp=>if room 3 (b++p).length=true then if decide (t39.toNat=t39.toNat)=true then hd (d,aM .i64 i 1,a.set t39.toNat (⟨(a.getD t39.toNat bl).Kind,(a.getD t39.toNat bl).A,(a.getD t39.toNat bl).B,(a.getD t39.toNat bl).C,b++p⟩:dA))
 else none
 else none
 else none
 else hd (d,aM .i64 i 1,a.set t39.toNat (⟨(a.getD t39.toNat bl).Kind,(a.getD t39.toNat bl).A,(a.getD t39.toNat bl).B,(a.getD t39.toNat bl).C,b⟩:dA))
 else none
 else if decide (f=5)=true then if decide (t39.toNat=t39.toNat)=true then if decide (0<(b.length:Int))=true then if decide (t39.toNat=t39.toNat)=true then if ed 0 c b.length=true then if decide (t39.toNat=t39.toNat)=true then some (aM .i64 c 1)>>=λg=>if ed g (b.length:Int) b.length=true then if(decide (c.toNat+((b.length:Int).toNat-g.toNat)<=b.length)&&decide (g.toNat+((b.length:Int).toNat-g.toNat)<=b.length))=true then if decide (t39.toNat=t39.toNat)=true then hd (d,aM .i64 i 1,a.set t39.toNat (⟨(a.getD t39.toNat bl).Kind,(a.getD t39.toNat bl).A,(a.getD t39.toNat bl).B,(a.getD t39.toNat bl).C,b.take c.toNat++(b.drop g.toNat).take ((b.length:Int).toNat-g.toNat)⟩:dA))
 else none
 else none
 else none
 else none
 else none
 else none
 else hd (d,aM .i64 i 1,a.set t39.toNat (⟨(a.getD t39.toNat bl).Kind,(a.getD t39.toNat bl).A,(a.getD t39.toNat bl).B,(a.getD t39.toNat bl).C,b⟩:dA))
 else none
 else if decide (f=6)=true then if decide (t39.toNat=t39.toNat)=true then if decide (0<(b.length:Int))=true then if decide (t39.toNat=t39.toNat)=true then if aB c b.length=true then if decide (c.toNat<b.length)=true then hd (d,aM .i64 i 1,a.set t39.toNat (⟨(a.getD t39.toNat bl).Kind,(a.getD t39.toNat bl).A,(a.getD t39.toNat bl).B,(a.getD t39.toNat bl).C,b.set c.toNat (⟨(b.getD c.toNat iA).af,(b.getD c.toNat iA).av,e.B⟩:lG)⟩:dA))
 else none
 else none
 else none
 else hd (d,aM .i64 i 1,a.set t39.toNat (⟨(a.getD t39.toNat bl).Kind,(a.getD t39.toNat bl).A,(a.getD t39.toNat bl).B,(a.getD t39.toNat bl).C,b⟩:dA))
 else none
 else if decide (t39.toNat=t39.toNat)=true then if decide (0<(b.length:Int))=true then if decide (t39.toNat=t39.toNat)=true then if decide (t39.toNat=t39.toNat)=true then if aB c b.length=true then if decide (c.toNat<b.length)=true then if aB c b.length=true then if decide (c.toNat<b.length)=true then hd (d,aM .i64 i 1,a.set t39.toNat (⟨(a.getD t39.toNat bl).Kind,(a.getD t39.toNat bl).A,(a.getD t39.toNat bl).B,(a.getD t39.toNat bl).C,b.set c.toNat (⟨(b.getD c.toNat iA).af,aM .u8 (b.getD c.toNat iA).av e.B,(b.getD c.toNat iA).gQ⟩:lG)⟩:dA))
 else none
 else none
 else none
 else none
 else none
 else none
 else hd (d,aM .i64 i 1,a.set t39.toNat (⟨(a.getD t39.toNat bl).Kind,(a.getD t39.toNat bl).A,(a.getD t39.toNat bl).B,(a.getD t39.toNat bl).C,b⟩:dA))
 else none
 if decide (0<(b.length:Int))=true then if decide (t39.toNat=t39.toNat)=true then some (b.length:Int)>>=λt63=>if(!(decide (t63=0)))=true then some (cg (bW .i64 e.A) t63)>>=λt64=>n t64
 else none
 else none
 else n 0
 else none
 else none
 else none
 else none
 else none
 else none
 else none
 else some a
  partial_fixpoint
theorem TI:ck 13 0 [0] Oi hd:= .rx hd.partial_correctness
def BH(a:eo×List lE):Option (eo):=
 match a with
 |(d,l)=>
 if room 32 ([]++d.ek).length=true then hd (l,0,[]++d.ek)>>=λo=>some (⟨o⟩:eo)
 else none
theorem US:bd ad' BH:= .bt .n (.k TI .n)
def qs(c:Int×Int×I):Option (Int×I):=
 match c with
 |(b,i,a)=>
 if(bif decide (i<(a.Rest.length:Int))then decide (0<=b)else false)=true then if aB i a.Rest.length=true then qs (c' .i64 b ((a.Rest.getD i.toNat b8).Data.length:Int),aM .i64 i 1,I.eta a)
 else none
 else some (b,I.eta a)
  partial_fixpoint
theorem UT:ck 34 0 [0] OZ qs:= .rx qs.partial_correctness
mutual
def nN(c:I×Int):Option (Int):=
 match c with
 |(v,n)=>
 qs (c' .i64 n (aM .i64 (aM .i64 10 (v.bA.length:Int)) (v.Rest.length:Int)),0,I.eta v)>>=λo=>r1 (o.1,0,I.eta o.2)>>=λq=>r2 (q.1,0,I.eta q.2)>>=λt=>some t
  partial_fixpoint
def r1(c:Int×Int×I):Option (Int×I):=
 match c with
 |(j,f,a)=>
 if(bif decide (f<(a.aE.length:Int))then decide (0<=j)else false)=true then if aB f a.aE.length=true then nN (I.eta (a.aE.getD f.toNat aK),j)>>=λr=>r1 (r,aM .i64 f 1,I.eta a)
 else none
 else some (j,I.eta a)
  partial_fixpoint
def r2(c:Int×Int×I):Option (Int):=
 match c with
 |(p,g,e)=>
 if(bif decide (g<(e.al.length:Int))then decide (0<=p)else false)=true then if aB g e.al.length=true then nN (I.eta (e.al.getD g.toNat aK),p)>>=λw=>r2 (w,aM .i64 g 1,I.eta e)
 else none
 else some p
  partial_fixpoint
end
theorem VT:eD wA nN/\eX 34 0 [2] wC r2/\eX 34 0 [1] wB r1:=nN.mutual_partial_correctness (ez wA) (eW 34 0 [2] wC) (eW 34 0 [1] wB)
 (λ_ _ h1 a _ _ h=>eH h .n (.k UT (.k (fa wB a) (.k (fa wC h1) .n))))
 (λ_ _ h0 h1 _ _ h=>e' wC h1 h (.k (cB wA h0) .n))
 (λ_ _ h0 a _ _ h=>e' wB a h (.k (cB wA h0) .n))
theorem VL:bd wA nN:=cB _ VT.1
def Bb(v:I):Option (Bool):=
 nN (I.eta v,3000)>>=λr=>some (decide (0<=r))
theorem V5:bd aed Bb:= .bt (.k VL .n)
def sH(c:lH):Option (bh×bh×Int×I×Bool):=
 qN c.D>>=λr=>BH (c.D.S,c.L)>>=λd=>qM d>>=λa=>some (bif bif (!r.2.2.2.2)then true else(!a.2)then true else decide (4<(c.L.length:Int)))>>=λt44=>(if(!t44)=true then Bb (I.eta r.2.2.1)else some false)>>=λb=>if(bif t44 then true else(!b))=true then some ((⟨[]⟩:bh),(⟨[]⟩:bh),0,(⟨0,false,0,[],0,[],[],[]⟩:I),false)
 else some (r.1,a.1,r.2.1,I.eta r.2.2.1,true)
theorem WY:bd e6 sH:= .bt (.k WX (.k US (.k QT (.k V5 .n))))
def rO(f:List dc×List dc×Int×Int):Option ((Bool) ⊕ (Unit)):=
 match f with
 |(a,b,c,t13)=>
 if decide (t13<c)=true then if aB t13 a.length=true then some (a.getD t13.toNat dm)>>=λd=>if aB t13 b.length=true then some (b.getD t13.toNat dm)>>=λe=>if(!(hJ d.af e.af&&(jb d.Name e.Name&&true)))=true then some (.inl false)
 else rO (a,b,c,aM .i64 t13 1)
 else none
 else none
 else some (.inr ())
  partial_fixpoint
theorem Uf:ck 189 0 [0] Mu rO:= .rx rO.partial_correctness
def A2(c:List dc×List dc):Option (Bool):=
 match c with
 |(s1,a)=>
 if(!(decide ((s1.length:Int)=(a.length:Int))))=true then some false
 else rO (s1,a,(s1.length:Int),0)>>=λo=>match o with
 |.inl b=>
 some b
 |.inr d=>
 some true
theorem Uh:bd OJ A2:= .bt .n (.k Uf .n)
def rP(f:List cF×List cF×Int×Int):Option ((Bool) ⊕ (Unit)):=
 match f with
 |(a,b,c,t13)=>
 if decide (t13<c)=true then if aB t13 a.length=true then some (a.getD t13.toNat b8)>>=λd=>if aB t13 b.length=true then some (b.getD t13.toNat b8)>>=λe=>if(!(hJ d.af e.af&&(jb d.Data e.Data&&true)))=true then some (.inl false)
 else rP (a,b,c,aM .i64 t13 1)
 else none
 else none
 else some (.inr ())
  partial_fixpoint
theorem Ui:ck 59 0 [0] Pf rP:= .rx rP.partial_correctness
def w6(c:List cF×List cF):Option (Bool):=
 match c with
 |(s1,a)=>
 if(!(decide ((s1.length:Int)=(a.length:Int))))=true then some false
 else rP (s1,a,(s1.length:Int),0)>>=λo=>match o with
 |.inl b=>
 some b
 |.inr d=>
 some true
theorem Rp:bd Pe w6:= .bt .n (.k Ui .n)
mutual
def mi(c:I×I):Option (Bool):=
 match c with
 |(a,b)=>
 some (bif bif bif bif decide (a.Kind=b.Kind)then fc a.b' b.b' else false then decide (a.bq=b.bq)else false then decide (a.bA=b.bA)else false then decide (a.af=b.af)else false)>>=λt37=>(if t37=true then w6 (a.Rest,b.Rest)else some false)>>=λr=>some (bif t37 then r else false)>>=λt44=>(if t44=true then w4 (a.aE,b.aE)else some false)>>=λp=>some (bif t44 then p else false)>>=λt51=>(if t51=true then w4 (a.al,b.al)else some false)>>=λq=>some (bif t51 then q else false)
  partial_fixpoint
def w4(c:List I×List I):Option (Bool):=
 match c with
 |(s1,f)=>
 if(!(decide ((s1.length:Int)=(f.length:Int))))=true then some false
 else uL (f,s1,(s1.length:Int),0)>>=λo=>match o with
 |.inl j=>
 some j
 |.inr t=>
 some true
  partial_fixpoint
def uL(c:List I×List I×Int×Int):Option ((Bool) ⊕ (Unit)):=
 match c with
 |(e,t15,g,t17)=>
 if decide (t17<g)=true then if aB t17 t15.length=true then if aB t17 e.length=true then mi (I.eta (t15.getD t17.toNat aK),I.eta (e.getD t17.toNat aK))>>=λr=>if(!r)=true then some (.inl false)
 else uL (e,t15,g,aM .i64 t17 1)
 else none
 else none
 else some (.inr ())
  partial_fixpoint
end
theorem Wr:eD wx mi/\eD Am w4/\eX 60 0 [0] y7 uL:=mi.mutual_partial_correctness (ez wx) (ez Am) (eW 60 0 [0] y7)
 (λ_ h1 _ _ h=>eH h (.k Rp (.k (cB Am h1) .n)))
 (λ_ a _ _ h=>eH h .n (.k (fa y7 a) .n))
 (λ_ _ h0 a _ _ h=>e' y7 a h (.k (cB wx h0) .n))
theorem RH:bd wx mi:=cB _ Wr.1
def xm(b:aO×aO):Option (Bool):=
 match b with
 |(a,y)=>
 some (bif bif bif bif decide (a.af=y.af)then decide (a.Name=y.Name)else false then decide (a.av=y.av)else false then fc a.bQ y.bQ else false then fc a.bD y.bD else false)>>=λt37=>(if t37=true then mi ((⟨a.bk.Kind,a.bk.b',a.bk.bq,a.bk.bA,a.bk.af,a.bk.aE,a.bk.al,a.bk.Rest⟩:I),I.eta y.bk)else some false)>>=λr=>some (bif t37 then r else false)
theorem WZ:bd ON xm:= .bt (.k RH .n)
def ov(e:List aO×List aO×Int×Int):Option ((Bool) ⊕ (Unit)):=
 match e with
 |(c,t15,d,t17)=>
 if decide (t17<d)=true then if aB t17 t15.length=true then some (t15.getD t17.toNat au)>>=λa=>if aB t17 c.length=true then some (c.getD t17.toNat au)>>=λb=>xm ((⟨a.af,a.Name,a.av,a.bQ,a.bD,I.eta a.bk⟩:aO),(⟨b.af,b.Name,b.av,b.bQ,b.bD,I.eta b.bk⟩:aO))>>=λr=>if(!r)=true then some (.inl false)
 else ov (c,t15,d,aM .i64 t17 1)
 else none
 else none
 else some (.inr ())
  partial_fixpoint
theorem T7:ck 190 0 [0] Mv ov:= .rx ov.partial_correctness (.k WZ .n)
def A3(c:List aO×List aO):Option (Bool):=
 match c with
 |(s1,a)=>
 if(!(decide ((s1.length:Int)=(a.length:Int))))=true then some false
 else ov (a,s1,(s1.length:Int),0)>>=λo=>match o with
 |.inl b=>
 some b
 |.inr d=>
 some true
theorem T8:bd OM A3:= .bt .n (.k T7 .n)
def hC(d:ah×ah):Option (Bool):=
 match d with
 |(a,b)=>
 some (bif bif bif bif bif bif bif decide (a.Kind=b.Kind)then decide (a.Name=b.Name)else false then decide (a.bz=b.bz)else false then decide (a.bx=b.bx)else false then decide (a.Max=b.Max)else false then decide (a.Key=b.Key)else false then decide (a.aH=b.aH)else false then fc a.Open b.Open else false)>>=λt58=>(if t58=true then A2 (a.a7,b.a7)else some false)>>=λr=>some (bif t58 then r else false)>>=λt65=>(if t65=true then A3 (a.ae,b.ae)else some false)>>=λc=>some (bif t65 then c else false)
theorem Xp:bd Ov hC:= .bt (.k Uh (.k T8 .n))
def xn(c:Int):Option (Bool):=
 some (bif bif decide (c=95)then true else bif decide (97<=c)then decide (c<=122)else false then true else bif decide (65<=c)then decide (c<=90)else false)
theorem QU:bd Ob xn:= .bt
def Bt(c:Int):Option (Bool):=
 some (bif decide (48<=c)then decide (c<=57)else false)
theorem Ws:bd Oc Bt:= .bt
def lI(e:List UInt8×Int×Int):Option ((Bool) ⊕ (Unit)):=
 match e with
 |(a,b,t19)=>
 if decide (t19<b)=true then if aB t19 a.length=true then xn (hY a t19)>>=λc=>some (!c)>>=λt26=>if(aB t19 a.length||(!t26))=true then (if t26=true then Bt (hY a t19)else some false)>>=λd=>if(bif t26 then(!d)else false)=true then some (.inl false)
 else lI (a,b,aM .i64 t19 1)
 else none
 else none
 else some (.inr ())
  partial_fixpoint
theorem WH:ck 152 0 [0] Mw lI:= .rx lI.partial_correctness (.k QU (.k Ws .n))
def ka(s:List UInt8):Option (Bool):=
 some (bif decide (s=[])then true else decide (24<(s.length:Int)))>>=λt10=>if(aB 0 s.length||(!(!t10)))=true then (if(!t10)=true then xn (hY s 0)else some false)>>=λr=>if(bif t10 then true else(!r))=true then some false
 else lI (s,(s.length:Int),0)>>=λo=>match o with
 |.inl a=>
 some a
 |.inr b=>
 some true
 else none
theorem Se:bd Oq ka:= .bt (.k QU .n) (.k WH .n)
def oI(f:List Int×List (List UInt8)×List Int×Int×Int×List (List UInt8)):Option ((Bool) ⊕ (List Int)):=
 match f with
 |(c,a,t9,e,t11,b)=>
 if decide (t11<e)=true then if aB t11 t9.length=true then some (t9.getD t11.toNat 0)>>=λd=>some (bif decide (d<1)then true else decide (1000<d))>>=λt21=>some (decide (0<t11))>>=λt24=>some (c' .i64 t11 1)>>=λt29=>if(aB t29 c.length||(!((!t21)&&t24)))=true then some (bif t21 then true else bif t24 then decide (d<=c.getD t29.toNat 0)else false)>>=λt34=>if(aB t11 a.length||(!(!t34)))=true then some (bif t34 then true else iN b (a.getD t11.toNat []))>>=λt42=>if(aB t11 a.length||(!(!t42)))=true then (if(!t42)=true then ka (a.getD t11.toNat [])else some false)>>=λr=>if(bif t42 then true else(!r))=true then some (.inl false)
 else if aB t11 a.length=true then oI (c,a,t9,e,aM .i64 t11 1,ig b (a.getD t11.toNat []))
 else none
 else none
 else none
 else none
 else none
 else some (.inr c)
  partial_fixpoint
theorem Wt:ck 187 0 [0] Mx oI:= .rx oI.partial_correctness (.k Se .n)
def yI(c:List Int×List (List UInt8)):Option (Bool):=
 match c with
 |(l,names)=>
 oI (l,names,l,(l.length:Int),0,[])>>=λo=>match o with
 |.inl a=>
 some a
 |.inr b=>
 some (decide ((b.length:Int)<=16))
theorem Rz:bd OH yI:= .bt .n (.k Wt .n)
def qG(f:List dc×List dc×Int×Int×List Int×List (List UInt8)):Option (List dc×List Int×List (List UInt8)):=
 match f with
 |(c,t7,d,t9,a,b)=>
 if decide (t9<d)=true then if aB t9 t7.length=true then some (t7.getD t9.toNat dm)>>=λe=>some [e.af]>>=λt16=>if room 8 (a++t16).length=true then some [e.Name]>>=λt21=>if room 16 (b++t21).length=true then qG (c,t7,d,aM .i64 t9 1,a++t16,b++t21)
 else none
 else none
 else none
 else some (c,a,b)
  partial_fixpoint
theorem V6:ck 153 0 [0] My qG:= .rx qG.partial_correctness
def uA(l:List dc):Option (Bool):=
 qG (l,l,(l.length:Int),0,[],[])>>=λo=>some (decide (0<(o.1.length:Int)))>>=λt26=>(if t26=true then yI (o.2.1,o.2.2)else some false)>>=λr=>some (bif t26 then r else false)
theorem W0:bd Ot uA:= .bt (.k Rz .n) (.k V6 .n)
def Cj(v:I):Option (Bool):=
 mi (I.eta v,(⟨0,false,0,[],0,[],[],[]⟩:I))>>=λr=>some r
theorem Xq:bd OI Cj:= .bt (.k RH .n)
def pf(g:List aO×Int×Int×ah×List Int×List (List UInt8)):Option ((Bool) ⊕ (ah×List Int×List (List UInt8))):=
 match g with
 |(t8,e,t10,b,c,d)=>
 if decide (t10<e)=true then if aB t10 t8.length=true then some (t8.getD t10.toNat au)>>=λa=>some [a.af]>>=λt17=>if room 8 (c++t17).length=true then some [a.Name]>>=λt22=>if room 16 (d++t22).length=true then some (bif bif decide (b.Kind=6)then bif a.bQ then true else a.bD else false then true else bif a.bQ then a.bD else false)>>=λt42=>some (!a.bD)>>=λt46=>(if((!t42)&&t46)=true then Cj (I.eta a.bk)else some false)>>=λf=>if(bif t42 then true else bif t46 then(!f)else false)=true then some (.inl false)
 else pf (t8,e,aM .i64 t10 1,b,c++t17,d++t22)
 else none
 else none
 else none
 else some (.inr (b,c,d))
  partial_fixpoint
theorem V7:ck 154 0 [0] Mz pf:= .rx pf.partial_correctness (.k Xq .n)
def sI(t:ah):Option (Bool):=
 pf (t.ae,(t.ae.length:Int),0,t,[],[])>>=λo=>match o with
 |.inl b=>
 some b
 |.inr a=>
 some (bif decide (a.1.Kind=5)then true else decide (0<(a.2.1.length:Int)))>>=λt62=>(if t62=true then yI (a.2.1,a.2.2)else some false)>>=λr=>some (bif t62 then r else false)
theorem Wf:bd Ou sI:= .bt (.k Rz .n) (.k V7 .n)
def gg(t:ah):Option (Bool):=
 if decide (t.Kind=1)=true then hC ((⟨0,t.Name,t.bz,t.bx,t.Max,t.a7,t.ae,t.Key,t.aH,t.Open⟩:ah),(⟨0,[],0,0,0,[],[],0,0,false⟩:ah))>>=λr=>some r
 else if decide (t.Kind=2)=true then some (decide (t.bz<=t.bx))>>=λt17=>(if t17=true then hC ((⟨0,t.Name,0,0,t.Max,t.a7,t.ae,t.Key,t.aH,t.Open⟩:ah),(⟨0,[],0,0,0,[],[],0,0,false⟩:ah))else some false)>>=λj=>some (bif t17 then j else false)
 else if decide (t.Kind=3)=true then some (bif decide (0<=t.Max)then decide (t.Max<=200)else false)>>=λt29=>(if t29=true then hC ((⟨0,t.Name,t.bz,t.bx,0,t.a7,t.ae,t.Key,t.aH,t.Open⟩:ah),(⟨0,[],0,0,0,[],[],0,0,false⟩:ah))else some false)>>=λv=>some (bif t29 then v else false)
 else if decide (t.Kind=4)=true then ka t.Name>>=λe=>(if e=true then uA t.a7 else some false)>>=λA=>some (bif e then A else false)>>=λt40=>(if t40=true then hC ((⟨0,[],t.bz,t.bx,t.Max,[],t.ae,t.Key,t.aH,false⟩:ah),(⟨0,[],0,0,0,[],[],0,0,false⟩:ah))else some false)>>=λB=>some (bif t40 then B else false)
 else some (decide (t.Kind=5))>>=λt45=>if t45=true then if t45=true then ka t.Name>>=λf=>(if f=true then sI t else some false)>>=λC=>some (bif f then C else false)>>=λt53=>(if t53=true then hC ((⟨0,[],t.bz,t.bx,t.Max,t.a7,[],t.Key,t.aH,bif t.Open then decide (t.Kind=5)else false⟩:ah),(⟨0,[],0,0,0,[],[],0,0,false⟩:ah))else some false)>>=λD=>some (bif t53 then D else false)
 else some (decide (t.Kind=7))>>=λt65=>if t65=true then if t65=true then some (bif decide (0<=t.Max)then decide (t.Max<=50)else false)>>=λt74=>if decide (t.Kind=8)=true then (if t74=true then hC ((⟨0,t.Name,t.bz,t.bx,0,t.a7,t.ae,0,0,t.Open⟩:ah),(⟨0,[],0,0,0,[],[],0,0,false⟩:ah))else some false)>>=λE=>some (bif t74 then E else false)
 else (if t74=true then hC ((⟨0,t.Name,t.bz,t.bx,0,t.a7,t.ae,t.Key,0,t.Open⟩:ah),(⟨0,[],0,0,0,[],[],0,0,false⟩:ah))else some false)>>=λk=>some (bif t74 then k else false)
 else if decide (t.Kind=9)=true then hC ((⟨0,t.Name,t.bz,t.bx,t.Max,t.a7,t.ae,t.Key,0,t.Open⟩:ah),(⟨0,[],0,0,0,[],[],0,0,false⟩:ah))>>=λl=>some l
 else some false
 else if decide (t.Kind=8)=true then some (bif decide (0<=t.Max)then decide (t.Max<=50)else false)>>=λa=>if decide (t.Kind=8)=true then (if a=true then hC ((⟨0,t.Name,t.bz,t.bx,0,t.a7,t.ae,0,0,t.Open⟩:ah),(⟨0,[],0,0,0,[],[],0,0,false⟩:ah))else some false)>>=λm=>some (bif a then m else false)
 else (if a=true then hC ((⟨0,t.Name,t.bz,t.bx,0,t.a7,t.ae,t.Key,0,t.Open⟩:ah),(⟨0,[],0,0,0,[],[],0,0,false⟩:ah))else some false)>>=λn=>some (bif a then n else false)
 else if decide (t.Kind=9)=true then hC ((⟨0,t.Name,t.bz,t.bx,t.Max,t.a7,t.ae,t.Key,0,t.Open⟩:ah),(⟨0,[],0,0,0,[],[],0,0,false⟩:ah))>>=λo=>some o
 else some false
 else if decide (t.Kind=6)=true then ka t.Name>>=λd=>(if d=true then sI t else some false)>>=λp=>some (bif d then p else false)>>=λg=>(if g=true then hC ((⟨0,[],t.bz,t.bx,t.Max,t.a7,[],t.Key,t.aH,bif t.Open then decide (t.Kind=5)else false⟩:ah),(⟨0,[],0,0,0,[],[],0,0,false⟩:ah))else some false)>>=λq=>some (bif g then q else false)
 else some (decide (t.Kind=7))>>=λi=>if i=true then if i=true then some (bif decide (0<=t.Max)then decide (t.Max<=50)else false)>>=λb=>if decide (t.Kind=8)=true then (if b=true then hC ((⟨0,t.Name,t.bz,t.bx,0,t.a7,t.ae,0,0,t.Open⟩:ah),(⟨0,[],0,0,0,[],[],0,0,false⟩:ah))else some false)>>=λs=>some (bif b then s else false)
 else (if b=true then hC ((⟨0,t.Name,t.bz,t.bx,0,t.a7,t.ae,t.Key,0,t.Open⟩:ah),(⟨0,[],0,0,0,[],[],0,0,false⟩:ah))else some false)>>=λu=>some (bif b then u else false)
 else if decide (t.Kind=9)=true then hC ((⟨0,t.Name,t.bz,t.bx,t.Max,t.a7,t.ae,t.Key,0,t.Open⟩:ah),(⟨0,[],0,0,0,[],[],0,0,false⟩:ah))>>=λw=>some w
 else some false
 else if decide (t.Kind=8)=true then some (bif decide (0<=t.Max)then decide (t.Max<=50)else false)>>=λc=>if decide (t.Kind=8)=true then (if c=true then hC ((⟨0,t.Name,t.bz,t.bx,0,t.a7,t.ae,0,0,t.Open⟩:ah),(⟨0,[],0,0,0,[],[],0,0,false⟩:ah))else some false)>>=λx=>some (bif c then x else false)
 else (if c=true then hC ((⟨0,t.Name,t.bz,t.bx,0,t.a7,t.ae,t.Key,0,t.Open⟩:ah),(⟨0,[],0,0,0,[],[],0,0,false⟩:ah))else some false)>>=λy=>some (bif c then y else false)
 else if decide (t.Kind=9)=true then hC ((⟨0,t.Name,t.bz,t.bx,t.Max,t.a7,t.ae,t.Key,0,t.Open⟩:ah),(⟨0,[],0,0,0,[],[],0,0,false⟩:ah))>>=λz=>some z
 else some false
theorem XE:bd Pz gg:= .bt (.k Xp (.k Se (.k W0 (.k Wf .n))))
def r5(d:List aO×Int×Int×ah×List Int):Option (ah×List Int):=
 match d with
 |(t7,c,t9,b,a)=>
 if decide (t9<c)=true then if aB t9 t7.length=true then some [(t7.getD t9.toNat au).av]>>=λt16=>if room 8 (a++t16).length=true then r5 (t7,c,aM .i64 t9 1,b,a++t16)
 else none
 else none
 else some (b,a)
  partial_fixpoint
theorem Wg:ck 98 0 [0] PB r5:= .rx r5.partial_correctness
def BV(t:ah):Option (List Int):=
 r5 (t.ae,(t.ae.length:Int),0,t,[])>>=λo=>if decide (o.1.Kind=8)=true then some [o.1.Key]>>=λt25=>if room 8 (o.2++t25).length=true then some (o.2++t25)>>=λl=>if decide (7<=o.1.Kind)=true then some [o.1.aH]>>=λt33=>if room 8 (l++t33).length=true then some (l++t33)
 else none
 else some l
 else none
 else if decide (7<=o.1.Kind)=true then some [o.1.aH]>>=λa=>if room 8 (o.2++a).length=true then some (o.2++a)
 else none
 else some o.2
theorem XF:bd PA BV:= .bt .n (.k Wg .n)
def oC(s:List ah×Int×Int×List Int×Int×Int×List ah×List (List UInt8)×Int×List UInt8×Int×Int×Int×List dc×List aO×Int×Int×Bool):Option ((Int) ⊕ (List ah×Int×Int×List ah×List (List UInt8)×Int×List UInt8×Int×Int×Int×List dc×List aO×Int×Int×Bool)):=
 match s with
 |(n,o,p,t38,q,t40,a,b,c,d,e,f,g,i,j,k,l,m)=>
 if decide (t40<q)=true then if aB t40 t38.length=true then some (t38.getD t40.toNat 0)>>=λr=>if(bif decide (r<0)then true else decide ((a.length:Int)<=r))=true then some (.inl 4)
 else oC (n,o,p,t38,q,aM .i64 t40 1,a,b,c,d,e,f,g,i,j,k,l,m)
 else none
 else some (.inr (n,o,p,a,b,c,d,e,f,g,i,j,k,l,m))
  partial_fixpoint
theorem V8:ck 56 0 [0,0] Lz oC:= .rx oC.partial_correctness
def qL(j:List ah×Int×Int×List ah×List (List UInt8)):Option ((Int) ⊕ (Unit)):=
 match j with
 |(t14,f,t16,b,d)=>
 if decide (t16<f)=true then if aB t16 t14.length=true then some (t14.getD t16.toNat ar)>>=λa=>gg a>>=λr=>if(bif (!r)then true else bif (!(decide (a.Name=[])))then iN d a.Name else false)=true then some (.inl 1)
 else BV a>>=λe=>oC (t14,f,t16,e,(e.length:Int),0,b,ig d a.Name,a.Kind,a.Name,a.bz,a.bx,a.Max,a.a7,a.ae,a.Key,a.aH,a.Open)>>=λg=>match g with
 |.inl i=>
 some (.inl i)
 |.inr c=>
 some (decide (c.2.2.2.2.2.1=8))>>=λt56=>if(aB c.2.2.2.2.2.2.2.2.2.2.2.2.1 c.2.2.2.1.length||(!t56))=true then some (decide ((c.2.2.2.1.getD c.2.2.2.2.2.2.2.2.2.2.2.2.1.toNat ar).Kind<1))>>=λt65=>if(aB c.2.2.2.2.2.2.2.2.2.2.2.2.1 c.2.2.2.1.length||(!(t56&&(!t65))))=true then if(bif t56 then bif t65 then true else decide (4<(c.2.2.2.1.getD c.2.2.2.2.2.2.2.2.2.2.2.2.1.toNat ar).Kind)else false)=true then some (.inl 1)
 else qL (c.1,c.2.1,aM .i64 c.2.2.1 1,c.2.2.2.1,c.2.2.2.2.1)
 else none
 else none
 else none
 else some (.inr ())
  partial_fixpoint
theorem WI:ck 56 0 [0] Pd qL:= .rx qL.partial_correctness (.k XE (.k XF .n)) (.k V8 .n)
def sa(s:bh):Option (Int):=
 if decide (32<(s.Types.length:Int))=true then some 3
 else qL (s.Types,(s.Types.length:Int),0,s.Types,[])>>=λo=>match o with
 |.inl a=>
 some a
 |.inr b=>
 some 0
theorem Fg:bd Pc sa:= .bt .n (.k WI .n)
def Fh(a:bh×Int):Option (Int):=
 match a with
 |(s,t)=>
 sa (⟨s.Types⟩:bh)>>=λr=>if(!(decide (r=0)))=true then some r
 else if(bif decide (t<0)then true else decide ((s.Types.length:Int)<=t))=true then some 4
 else some 0
theorem Wh:bd Ph Fh:= .bt (.k Fg .n)
def B7(v:I):Option (I):=
 if decide (v.Kind=1)=true then some (⟨v.Kind,v.b',0,[],0,[],[],[]⟩:I)
 else if decide (v.Kind=2)=true then some (⟨v.Kind,false,v.bq,[],0,[],[],[]⟩:I)
 else if decide (v.Kind=3)=true then some (⟨v.Kind,false,0,v.bA,0,[],[],[]⟩:I)
 else if decide (v.Kind=4)=true then some (⟨v.Kind,false,0,[],v.af,[],[],[]⟩:I)
 else if decide (v.Kind=5)=true then some (⟨v.Kind,false,0,[],0,[],v.al,v.Rest⟩:I)
 else if decide (v.Kind=6)=true then some (⟨v.Kind,false,0,[],v.af,[],v.al,v.Rest⟩:I)
 else if decide (v.Kind=8)=true then some (⟨v.Kind,false,0,[],0,v.aE,v.al,[]⟩:I)
 else some (decide (v.Kind=7))>>=λt57=>if t57=true then if t57=true then some (⟨v.Kind,false,0,[],0,[],v.al,[]⟩:I)
 else some (⟨v.Kind,false,0,[],0,[],[],[]⟩:I)
 else if decide (v.Kind=9)=true then some (⟨v.Kind,false,0,[],0,[],v.al,[]⟩:I)
 else some (⟨v.Kind,false,0,[],0,[],[],[]⟩:I)
theorem Yj:bd OD B7:= .bt
def Cl(v:I):Option (Bool):=
 B7 (I.eta v)>>=λr=>some (bif bif bif bif bif bif fc v.b' r.b' then decide (v.bq=r.bq)else false then decide (v.bA=r.bA)else false then decide (v.af=r.af)else false then decide ((v.aE.length:Int)=(r.aE.length:Int))else false then decide ((v.al.length:Int)=(r.al.length:Int))else false then decide ((v.Rest.length:Int)=(r.Rest.length:Int))else false)
theorem Xr:bd Oj Cl:= .bt (.k Yj .n)
def E4(c:dc×Int):Option (Bool×Int):=
 match c with
 |(a,b)=>
 some (decide (a.af=b),b)
theorem WJ:bd Px E4:= .bt
def m'(d:List dc×Int×Int×Int):Option ((Int×Int) ⊕ (Int)):=
 match d with
 |(a,c,t8,b)=>
 if decide (t8<c)=true then if aB t8 a.length=true then E4 (a.getD t8.toNat dm,b)>>=λr=>if r.1=true then some (.inl (t8,r.2))
 else m' (a,c,aM .i64 t8 1,r.2)
 else none
 else some (.inr b)
  partial_fixpoint
theorem T':ck 89 1 [0] Pw m':= .rx m'.partial_correctness (.k WJ .n)
def ER(d:List dc×Int):Option (Int×Int):=
 match d with
 |(s,b)=>
 m' (s,(s.length:Int),0,b)>>=λo=>match o with
 |.inl a=>
 some (a.1,a.2)
 |.inr c=>
 some ((-1),c)
theorem Ud:bd Pv ER:= .bt .n (.k T' .n)
def uC(a:ah×Int):Option (Int×Bool):=
 match a with
 |(t,id)=>
 ER (t.a7,id)>>=λr=>some (ki r.1 0,decide (0<=r.1))
theorem E5:bd Pa uC:= .bt (.k Ud .n)
def xT(id:Int):Option (Bool):=
 some (bif decide (1<=id)then decide (id<=1000)else false)
theorem RA:bd Ol xT:= .bt
def E6(a:aO×Int):Option (Bool×Int):=
 match a with
 |(m,b)=>
 some (decide (m.af=b),b)
theorem WK:bd Oo E6:= .bt
def ow(e:List aO×Int×Int×Int):Option ((Int×Int) ⊕ (Int)):=
 match e with
 |(b,d,t8,c)=>
 if decide (t8<d)=true then if aB t8 b.length=true then some (b.getD t8.toNat au)>>=λa=>E6 ((⟨a.af,a.Name,a.av,a.bQ,a.bD,I.eta a.bk⟩:aO),c)>>=λr=>if r.1=true then some (.inl (t8,r.2))
 else ow (b,d,aM .i64 t8 1,r.2)
 else none
 else some (.inr c)
  partial_fixpoint
theorem Ua:ck 146 1 [0] MA ow:= .rx ow.partial_correctness (.k WK .n)
def Fo(d:List aO×Int):Option (Int×Int):=
 match d with
 |(s,b)=>
 ow (s,(s.length:Int),0,b)>>=λo=>match o with
 |.inl a=>
 some (a.1,a.2)
 |.inr c=>
 some ((-1),c)
theorem Ue:bd On Fo:= .bt .n (.k Ua .n)
def hB(a:ah×Int):Option (Int×Bool):=
 match a with
 |(t,id)=>
 Fo (t.ae,id)>>=λr=>some (ki r.1 0,decide (0<=r.1))
theorem oG:bd Py hB:= .bt (.k Ue .n)
def kJ(s:Bool×List cF×Int×Int×List ah×I×Int×List UInt8×Int×Int×Int×List dc×List aO×Int×Int×Bool):Option ((Bool) ⊕ (Bool×List ah×Int×Bool×Int×List UInt8×Int×List I×List I×List cF×Int×List UInt8×Int×Int×Int×List dc×List aO×Int×Int×Bool)):=
 match s with
 |(o,t111,q,t113,n,a,b,c,d,e,f,g,i,j,k,l)=>
 if decide (t113<q)=true then if aB t113 t111.length=true then some (t111.getD t113.toNat b8)>>=λm=>hB ((⟨b,c,d,e,f,g,i,j,k,l⟩:ah),m.af)>>=λp=>(if(!p.2)=true then xT m.af else some false)>>=λr=>some (bif p.2 then true else(!r))>>=λt131=>some (decide (0<t113))>>=λt134=>some (c' .i64 t113 1)>>=λt141=>if(aB t141 a.Rest.length||(!((!t131)&&t134)))=true then if(bif t131 then true else bif t134 then decide (m.af<=(a.Rest.getD t141.toNat b8).af)else false)=true then some (.inl false)
 else kJ (o,t111,q,aM .i64 t113 1,n,I.eta a,b,c,d,e,f,g,i,j,k,l)
 else none
 else none
 else some (.inr (o,n,a.Kind,a.b',a.bq,a.bA,a.af,a.aE,a.al,a.Rest,b,c,d,e,f,g,i,j,k,l))
  partial_fixpoint
theorem Wu:ck 87 0 [0] Pt kJ:= .rx kJ.partial_correctness (.k oG (.k RA .n))
def BP(a:Int):Option (Bool):=
 some (!(decide (a=a)))
theorem X5:bd OS BP:= .bt
def BW(c:Int×Int):Option (Int):=
 match c with
 |(a,y)=>
 BP a>>=λr=>BP y>>=λb=>if r=true then if b=true then some 0
 else some (-1)
 else if b=true then some 1
 else if decide (a<y)=true then some (-1)
 else if decide (y<a)=true then some 1
 else some 0
theorem XG:bd OE BW:= .bt (.k X5 .n)
def BX(a:Int):Option (Bool):=
 some (!(decide (a=a)))
theorem XH:bd OC BX:= .bt
def xt(c:Int×Int):Option (Int):=
 match c with
 |(a,y)=>
 BX a>>=λr=>BX y>>=λb=>if r=true then if b=true then some 0
 else some (-1)
 else if b=true then some 1
 else if decide (a<y)=true then some (-1)
 else if decide (y<a)=true then some 1
 else some 0
theorem Wv:bd Og xt:= .bt (.k XH .n)
def BY(a:List UInt8):Option (Bool):=
 some (!(decide (a=a)))
theorem XI:bd OT BY:= .bt
def Bu(c:List UInt8×List UInt8):Option (Int):=
 match c with
 |(a,y)=>
 BY a>>=λr=>BY y>>=λb=>if r=true then if b=true then some 0
 else some (-1)
 else if b=true then some 1
 else if Op.bytesLess a y=true then some (-1)
 else if(!(Op.bytesLess a y||decide (a=y)))=true then some 1
 else some 0
theorem Ww:bd OG Bu:= .bt (.k XI .n)
def q0(d:Int×List Int×Int×Int):Option ((Int) ⊕ (Int)):=
 match d with
 |(a,t6,b,t8)=>
 if decide (t8<b)=true then if aB t8 t6.length=true then some (t6.getD t8.toNat 0)>>=λc=>if(!(decide (c=a)))=true then some (.inl c)
 else q0 (a,t6,b,aM .i64 t8 1)
 else none
 else some (.inr a)
  partial_fixpoint
theorem X6:ck 185 0 [0] MB q0:= .rx q0.partial_correctness
def CV(a:List Int):Option (Int):=
 q0 (0,a,(a.length:Int),0)>>=λo=>match o with
 |.inl b=>
 some b
 |.inr c=>
 some c
theorem abU:bd OF CV:= .bt .n (.k X6 .n)
def uD(n:Int):Option (Int):=
 some (tj .u64 (mL .u64 (bW .u64 n) 1) (bW .u64 (lh .i64 n 63)))
theorem R4:bd Pm uD:= .bt
def oJ(j:I×I):Option (Int):=
 match j with
 |(a,b)=>
 if(!(decide (a.Kind=b.Kind)))=true then some 0
 else if decide (a.Kind=1)=true then if fc a.b' b.b'=true then some 0
 else if b.b'=true then some (-1)
 else some 1
 else if decide (a.Kind=2)=true then uD a.bq>>=λr=>uD b.bq>>=λc=>BW (r,c)>>=λd=>some d
 else if decide (a.Kind=3)=true then xt ((a.bA.length:Int),(b.bA.length:Int))>>=λe=>Bu (a.bA,b.bA)>>=λf=>CV [e,f]>>=λg=>some g
 else if decide (a.Kind=4)=true then xt (a.af,b.af)>>=λi=>some i
 else some 0
theorem R5:bd Om oJ:= .bt (.k R4 (.k XG (.k Wv (.k Ww (.k abU .n)))))
def lJ(q:Bool×Int×List ah×I×Int×List UInt8×Int×Int×Int×List dc×List aO×Int×Int×Bool):Option ((Bool) ⊕ (Bool×List ah×I×Int×List UInt8×Int×Int×Int×List dc×List aO×Int×Int×Bool)):=
 match q with
 |(o,i,b,a,c,d,e,f,g,j,k,l,m,n)=>
 if decide (i<(a.aE.length:Int))=true then some (c' .i64 i 1)>>=λt291=>if aB t291 a.aE.length=true then if aB i a.aE.length=true then oJ (I.eta (a.aE.getD t291.toNat aK),I.eta (a.aE.getD i.toNat aK))>>=λp=>if decide (0<=p)=true then some (.inl false)
 else lJ (o,aM .i64 i 1,b,I.eta a,c,d,e,f,g,j,k,l,m,n)
 else none
 else none
 else some (.inr (o,b,I.eta a,c,d,e,f,g,j,k,l,m,n))
  partial_fixpoint
theorem Wx:ck 87 0 [2] Pu lJ:= .rx lJ.partial_correctness (.k R5 .n)
mutual
def A1(e:List I×List ah×Int×Bool):Option (Bool×List ah×Int×Bool):=
 match e with
 |(s,b,f,g)=>
 Fp (s,b,f,g)>>=λr=>some (decide (0<=r.1),r.2.1,r.2.2.1,r.2.2.2)
  partial_fixpoint
def Fp(e:List I×List ah×Int×Bool):Option (Int×List ah×Int×Bool):=
 match e with
 |(s,b,f,g)=>
 qw (s,(s.length:Int),0,b,f,g)>>=λo=>match o with
 |.inl j=>
 some (j.1,j.2.1,j.2.2.1,j.2.2.2)
 |.inr c=>
 some ((-1),c.1,c.2.1,c.2.2)
  partial_fixpoint
def qW(e:bh×Int×List I×Bool):Option (Bool):=
 match e with
 |(s,t,l,plain)=>
 A1 (l,s.Types,t,plain)>>=λr=>some (!r.1)
  partial_fixpoint
def Gp(e:I×List ah×Int×Bool):Option (Bool×List ah×Int×Bool):=
 match e with
 |(v,b,f,g)=>
 jJ ((⟨b⟩:bh),f,I.eta v,g)>>=λr=>some ((!r),b,f,g)
  partial_fixpoint
def jJ(e:bh×Int×I×Bool):Option (Bool):=
 match e with
 |(s,t,v,plain)=>
 if(bif decide (t<0)then true else decide ((s.Types.length:Int)<=t))=true then some false
 else if aB t s.Types.length=true then some (s.Types.getD t.toNat ar)>>=λa=>some (!(decide (v.Kind=a.Kind)))>>=λt39=>(if(!t39)=true then Cl (I.eta v)else some false)>>=λr=>if(bif t39 then true else(!r))=true then some false
 else if decide (a.Kind=2)=true then some (bif decide (a.bz<=v.bq)then decide (v.bq<=a.bx)else false)
 else if decide (a.Kind=3)=true then some (decide ((v.bA.length:Int)<=a.Max))
 else if decide (a.Kind=4)=true then uC (a,v.af)>>=λF=>some (bif a.Open then(!plain)else false)>>=λt85=>(if((!F.2)&&t85)=true then xT v.af else some false)>>=λam=>some (bif F.2 then true else bif t85 then am else false)
 else if decide (a.Kind=5)=true then if(bif (!(decide ((v.al.length:Int)=(a.ae.length:Int))))then true else bif plain then decide (0<(v.Rest.length:Int))else false)=true then some false
 else kJ (plain,v.Rest,(v.Rest.length:Int),0,s.Types,I.eta v,a.Kind,a.Name,a.bz,a.bx,a.Max,a.a7,a.ae,a.Key,a.aH,a.Open)>>=λo=>match o with
 |.inl j=>
 some j
 |.inr c=>
 oK (c.1,c.2.2.2.2.2.2.2.2.2.2.2.2.2.2.2.2.1,(c.2.2.2.2.2.2.2.2.2.2.2.2.2.2.2.2.1.length:Int),0,c.2.1,c.2.2.1,c.2.2.2.1,c.2.2.2.2.1,c.2.2.2.2.2.1,c.2.2.2.2.2.2.1,c.2.2.2.2.2.2.2.1,c.2.2.2.2.2.2.2.2.1,c.2.2.2.2.2.2.2.2.2.1)>>=λQ=>match Q with
 |.inl R=>
 some R
 |.inr ap=>
 some true
 else if decide (a.Kind=6)=true then hB (a,v.af)>>=λw=>if w.2=true then some (bif decide ((v.al.length:Int)=1)then decide ((v.Rest.length:Int)=0)else false)>>=λt188=>if(aB w.1 a.ae.length||(!t188))=true then if(aB 0 v.al.length||(!t188))=true then (if t188=true then jJ ((⟨s.Types⟩:bh),(a.ae.getD w.1.toNat au).av,I.eta (v.al.getD (0:Int).toNat aK),plain)else some false)>>=λan=>some (bif t188 then an else false)
 else none
 else none
 else some (bif a.Open then(!plain)else false)>>=λt209=>(if t209=true then xT v.af else some false)>>=λao=>some (bif bif bif t209 then ao else false then decide ((v.al.length:Int)=0)else false then decide ((v.Rest.length:Int)=1)else false)>>=λt226=>if(aB 0 v.Rest.length||(!t226))=true then some (bif t226 then decide ((v.Rest.getD (0:Int).toNat b8).af=v.af)else false)
 else none
 else if decide (a.Kind=7)=true then some (decide ((v.al.length:Int)<=a.Max))>>=λt244=>(if t244=true then qW ((⟨s.Types⟩:bh),a.aH,v.al,plain)else some false)>>=λW=>some (bif t244 then W else false)
 else if decide (a.Kind=8)=true then some (bif decide (a.Max<(v.aE.length:Int))then true else(!(decide ((v.al.length:Int)=(v.aE.length:Int)))))>>=λt270=>(if(!t270)=true then qW ((⟨s.Types⟩:bh),a.Key,v.aE,plain)else some false)>>=λX=>if(bif t270 then true else(!X))=true then some false
 else lJ (plain,1,s.Types,I.eta v,a.Kind,a.Name,a.bz,a.bx,a.Max,a.a7,a.ae,a.Key,a.aH,a.Open)>>=λS=>match S with
 |.inl U=>
 some U
 |.inr p=>
 qW ((⟨p.2.1⟩:bh),p.2.2.2.2.2.2.2.2.2.2.2.1,p.2.2.1.al,p.1)>>=λY=>some Y
 else if decide (a.Kind=9)=true then some (decide ((v.al.length:Int)<=1))>>=λt313=>(if t313=true then qW ((⟨s.Types⟩:bh),a.aH,v.al,plain)else some false)>>=λZ=>some (bif t313 then Z else false)
 else some true
 else none
  partial_fixpoint
def qw(e:List I×Int×Int×List ah×Int×Bool):Option ((Int×List ah×Int×Bool) ⊕ (List ah×Int×Bool)):=
 match e with
 |(x,H,t8,D,y,A)=>
 if decide (t8<H)=true then if aB t8 x.length=true then Gp (I.eta (x.getD t8.toNat aK),D,y,A)>>=λr=>if r.1=true then some (.inl (t8,r.2.1,r.2.2.1,r.2.2.2))
 else qw (x,H,aM .i64 t8 1,r.2.1,r.2.2.1,r.2.2.2)
 else none
 else some (.inr (D,y,A))
  partial_fixpoint
def oK(e:Bool×List aO×Int×Int×List ah×Int×Bool×Int×List UInt8×Int×List I×List I×List cF):Option ((Bool) ⊕ (Unit)):=
 match e with
 |(E,t150,G,t152,B,J,K,L,M,N,O,q,P)=>
 if decide (t152<G)=true then if aB t152 t150.length=true then if aB t152 q.length=true then jJ ((⟨B⟩:bh),(t150.getD t152.toNat au).av,I.eta (q.getD t152.toNat aK),E)>>=λad=>if(!ad)=true then some (.inl false)
 else oK (E,t150,G,aM .i64 t152 1,B,J,K,L,M,N,O,q,P)
 else none
 else none
 else some (.inr ())
  partial_fixpoint
end
theorem Ub:eD Ah A1/\eD Ak Fp/\eX 227 3 [0] yO qw/\eD Ai Gp/\eD rA jJ/\eD Ag qW/\eX 87 0 [1] wN oK:=A1.mutual_partial_correctness (ez Ah) (ez Ak) (eW 227 3 [0] yO) (ez Ai) (ez rA) (ez Ag) (eW 87 0 [1] wN)
 (λ_ h1 _ _ h=>eH h (.k (cB Ak h1) .n))
 (λ_ b _ _ h=>eH h .n (.k (fa yO b) .n))
 (λ_ _ b d _ _ h=>e' yO b h (.k (cB Ai d) .n))
 (λ_ a _ _ h=>eH h (.k (cB rA a) .n))
 (λ_ _ _ a bf c _ _ h=>eH h (.k Xr (.k E5 (.k RA (.k oG (.k (cB rA a) (.k (cB Ag bf) .n)))))) (.k Wu (.k (fa wN c) (.k Wx .n))))
 (λ_ h0 _ _ h=>eH h (.k (cB Ah h0) .n))
 (λ_ _ a c _ _ h=>e' wN c h (.k (cB rA a) .n))
theorem Tf:bd rA jJ:=cB _ Ub.2.2.2.2.1
def B8(a:bh×Int×I):Option (Bool):=
 match a with
 |(s,t,v)=>
 jJ ((⟨s.Types⟩:bh),t,I.eta v,false)>>=λr=>some r
theorem Yk:bd Pj B8:= .bt (.k Tf .n)
def Bo(b:bh×Int×I):Option (Int):=
 match b with
 |(s,t,v)=>
 Fh ((⟨s.Types⟩:bh),t)>>=λr=>if(!(decide (r=0)))=true then some r
 else B8 ((⟨s.Types⟩:bh),t,I.eta v)>>=λa=>if(!a)=true then some 1
 else some 0
theorem Wi:bd O0 Bo:= .bt (.k Wh (.k Yk .n))
def r6(d:Int×Int×List Int):Option (Int×List Int):=
 match d with
 |(b,c,a)=>
 if decide (0<b)=true then some (c' .i64 c 1)>>=λt10=>if aB t10 8=true then if decide (t10.toNat<a.length)=true then r6 (lh .u64 b 8,t10,a.set t10.toNat (bW .u8 b))
 else none
 else none
 else some (c,a)
  partial_fixpoint
theorem Wy:ck 73 0 [0] Pl r6:= .rx r6.partial_correctness
def xU(n:Int):Option (List UInt8):=
 r6 (n,8,[0,0,0,0,0,0,0,0])>>=λo=>if ed o.1 8 8=true then if vJ o.1.toNat ((8:Int).toNat-o.1.toNat) o.2.length=true then some (strOf ((o.2.drop o.1.toNat).take ((8:Int).toNat-o.1.toNat)))
 else none
 else none
theorem Yl:bd Pk xU:= .bt .n (.k Wy .n)
mutual
def uM(c:List I×List I):Option (Bool):=
 match c with
 |(s1,f)=>
 if(!(decide ((s1.length:Int)=(f.length:Int))))=true then some false
 else uK (f,s1,(s1.length:Int),0)>>=λo=>match o with
 |.inl j=>
 some j
 |.inr t=>
 some true
  partial_fixpoint
def nq(c:I×I):Option (Bool):=
 match c with
 |(a,b)=>
 some (bif bif bif bif decide (a.Kind=b.Kind)then fc a.b' b.b' else false then decide (a.bq=b.bq)else false then decide (a.bA=b.bA)else false then decide (a.af=b.af)else false)>>=λt37=>(if t37=true then w6 (a.Rest,b.Rest)else some false)>>=λr=>some (bif t37 then r else false)>>=λt44=>(if t44=true then uM (a.aE,b.aE)else some false)>>=λp=>some (bif t44 then p else false)>>=λt51=>(if t51=true then uM (a.al,b.al)else some false)>>=λq=>some (bif t51 then q else false)
  partial_fixpoint
def uK(c:List I×List I×Int×Int):Option ((Bool) ⊕ (Unit)):=
 match c with
 |(e,t15,g,t17)=>
 if decide (t17<g)=true then if aB t17 t15.length=true then if aB t17 e.length=true then nq (I.eta (t15.getD t17.toNat aK),I.eta (e.getD t17.toNat aK))>>=λr=>if(!r)=true then some (.inl false)
 else uK (e,t15,g,aM .i64 t17 1)
 else none
 else none
 else some (.inr ())
  partial_fixpoint
end
theorem T9:eD An uM/\eX 60 0 [0] y8 uK/\eD wz nq:=uM.mutual_partial_correctness (ez An) (eW 60 0 [0] y8) (ez wz)
 (λ_ h1 _ _ h=>eH h .n (.k (fa y8 h1) .n))
 (λ_ _ h1 a _ _ h=>e' y8 h1 h (.k (cB wz a) .n))
 (λ_ h0 _ _ h=>eH h (.k Rp (.k (cB An h0) .n)))
theorem Fm:bd wz nq:=cB _ T9.2.2
def Sf(a:aO×I):Option (Bool):=
 match a with
 |(m,v)=>
 (if m.bD=true then nq (I.eta m.bk,I.eta v)else some false)>>=λr=>some (bif m.bD then r else false)
theorem Wj:bd Oe Sf:= .bt (.k Fm .n)
def r7(d:Int×Int×List Int):Option (Int×Int×List Int):=
 match d with
 |(b,a,c)=>
 if decide (128<=b)=true then if aB a 10=true then if decide (a.toNat<c.length)=true then r7 (lh .u64 b 7,aM .i64 a 1,c.set a.toNat (q' .u8 (bW .u8 b) 128))
 else none
 else none
 else some (b,a,c)
  partial_fixpoint
theorem Wz:ck 135 0 [0] Mc r7:= .rx r7.partial_correctness
def oQ(n:Int):Option (List UInt8):=
 r7 (n,0,[0,0,0,0,0,0,0,0,0,0])>>=λo=>if aB o.2.1 10=true then if decide (o.2.1.toNat<o.2.2.length)=true then some (o.2.2.set o.2.1.toNat (bW .u8 o.1))>>=λa=>some (aM .i64 o.2.1 1)>>=λt21=>if ed 0 t21 10=true then if vJ (0:Int).toNat t21.toNat a.length=true then some (strOf ((a.drop (0:Int).toNat).take t21.toNat))
 else none
 else none
 else none
 else none
theorem xy:bd Oh oQ:= .bt .n (.k Wz .n)
def qQ(p:List UInt8):Option (List UInt8):=
 oQ (bW .u64 (p.length:Int))>>=λr=>if decide (r.length+p.length<=dK)=true then some (r++p)
 else none
theorem Sg:bd Pq qQ:= .bt (.k xy .n)
def uG(e:Int×Bool×List UInt8):Option (List UInt8):=
 match e with
 |(id,d,p)=>
 some (iq .u64 2 (bW .u64 id))>>=λt10=>if d=true then oQ (aM .u64 t10 1)>>=λr=>qQ p>>=λa=>if decide (r.length+a.length<=dK)=true then some (r++a)
 else none
 else oQ t10>>=λb=>qQ p>>=λc=>if decide (b.length+c.length<=dK)=true then some (b++c)
 else none
theorem Fi:bd Of uG:= .bt (.k xy (.k Sg .n))
def w7(a:List UInt8×List UInt8):Option (Int×List UInt8):=
 match a with
 |(s,b)=>
 some b>>=λr=>if(decide (r.length=b.length)&&true)=true then if room 1 (r.length+s.length)=true then some ((s.length:Int),tO r s)
 else none
 else none
theorem Rq:bd Pp w7:= .bt (.k R3 .n)
def Fq(b:List UInt8):Option (List UInt8):=
 if hJ (b.length:Int) (b.length:Int)=true then some b
 else none
theorem Rs:bd Pr Fq:= .bt
def By(g:List cF×Int×Int×List ah×Int×List hX):Option (List ah×Int×List hX):=
 match g with
 |(t57,e,t59,c,d,a)=>
 if decide (t59<e)=true then if aB t59 t57.length=true then some (t57.getD t59.toNat b8)>>=λb=>uG (b.af,false,b.Data)>>=λf=>some [(⟨b.af,f⟩:hX)]>>=λt72=>if room 24 (a++t72).length=true then By (t57,e,aM .i64 t59 1,c,d,a++t72)
 else none
 else none
 else some (c,d,a)
  partial_fixpoint
theorem TV:ck 75 1 [1] Pn By:= .rx By.partial_correctness (.k Fi .n)
def Bz(g:Int×Int×List ah×Int×List hX×List UInt8):Option (List ah×Int×List UInt8):=
 match g with
 |(e,t79,b,c,a,d)=>
 if decide (t79<e)=true then if aB t79 a.length=true then if decide (t79.toNat<a.length)=true then w7 ((a.getD t79.toNat Ci).text,d)>>=λf=>Bz (e,aM .i64 t79 1,b,c,a,f.2)
 else none
 else none
 else some (b,c,d)
  partial_fixpoint
theorem TW:ck 75 1 [2] Po Bz:= .rx Bz.partial_correctness (.k Rq .n)
mutual
def lB(g:Int×I×Int×List ah×Int):Option (List UInt8×List ah×Int):=
 match g with
 |(t,v,e,b,w)=>
 some (ki w e)>>=λt19=>if aB t b.length=true then some (b.getD t.toNat ar)>>=λa=>if decide (a.Kind=1)=true then if v.b'=true then some ([1],b,t19)
 else some ([],b,t19)
 else if decide (a.Kind=2)=true then uD v.bq>>=λr=>xU r>>=λp=>some (p,b,t19)
 else if decide (a.Kind=3)=true then some (v.bA,b,t19)
 else if decide (a.Kind=4)=true then xU (bW .u64 v.af)>>=λO=>some (O,b,t19)
 else if decide (a.Kind=5)=true then QX (a,I.eta v,e,b,t19)>>=λq=>some (q.1,q.2.1,q.2.2)
 else if decide (a.Kind=6)=true then Q1 (a,I.eta v,e,b,t19)>>=λy=>some (y.1,y.2.1,y.2.2)
 else if decide (a.Kind=9)=true then if decide ((v.al.length:Int)=0)=true then some ([],b,t19)
 else if aB 0 v.al.length=true then lB (a.aH,I.eta (v.al.getD (0:Int).toNat aK),aM .i64 e 1,b,t19)>>=λE=>if decide ([1].length+E.1.length<=dK)=true then some ([1]++E.1,E.2.1,E.2.2)
 else none
 else none
 else Bx (e,v.al,(v.al.length:Int),0,b,t19,I.eta v,a,[])>>=λo=>Fq o.2.2>>=λW=>some (W,o.1,o.2.1)
 else none
  partial_fixpoint
def QX(g:ah×I×Int×List ah×Int):Option (List UInt8×List ah×Int):=
 match g with
 |(a,v,e,b,w)=>
 BA (e,a.ae,(a.ae.length:Int),0,b,w,I.eta v,[])>>=λo=>By (o.2.2.1.Rest,(o.2.2.1.Rest.length:Int),0,o.1,o.2.1,o.2.2.2)>>=λD=>WD D.2.2>>=λr=>if(decide (r.length=D.2.2.length)&&true)=true then Bz ((r.length:Int),0,D.1,D.2.1,r,[])>>=λM=>Fq M.2.2>>=λp=>some (p,M.1,M.2.1)
 else none
  partial_fixpoint
def Q1(g:ah×I×Int×List ah×Int):Option (List UInt8×List ah×Int):=
 match g with
 |(a,v,e,b,w)=>
 oQ (bW .u64 v.af)>>=λr=>hB (a,v.af)>>=λp=>if(!p.2)=true then if aB 0 v.Rest.length=true then some (v.Rest.getD (0:Int).toNat b8)>>=λc=>if decide (r.length+c.Data.length<=dK)=true then some (r++c.Data,b,w)
 else none
 else none
 else if aB p.1 a.ae.length=true then if aB 0 v.al.length=true then lB ((a.ae.getD p.1.toNat au).av,I.eta (v.al.getD (0:Int).toNat aK),aM .i64 e 1,b,w)>>=λF=>if decide (r.length+F.1.length<=dK)=true then some (r++F.1,F.2.1,F.2.2)
 else none
 else none
 else none
  partial_fixpoint
def Bx(g:Int×List I×Int×Int×List ah×Int×I×ah×List UInt8):Option (List ah×Int×List UInt8):=
 match g with
 |(f,t84,S,t86,J,K,B,x,L)=>
 if decide (t86<S)=true then if aB t86 t84.length=true then some (t84.getD t86.toNat aK)>>=λU=>if decide (x.Kind=8)=true then if aB t86 B.aE.length=true then lB (x.Key,I.eta (B.aE.getD t86.toNat aK),aM .i64 f 1,J,K)>>=λN=>qQ N.1>>=λX=>w7 (X,L)>>=λY=>lB (x.aH,I.eta U,aM .i64 f 1,N.2.1,N.2.2)>>=λP=>qQ P.1>>=λZ=>w7 (Z,Y.2)>>=λad=>Bx (f,t84,S,aM .i64 t86 1,P.2.1,P.2.2,I.eta B,x,ad.2)
 else none
 else lB (x.aH,I.eta U,aM .i64 f 1,J,K)>>=λQ=>qQ Q.1>>=λam=>w7 (am,L)>>=λan=>Bx (f,t84,S,aM .i64 t86 1,Q.2.1,Q.2.2,I.eta B,x,an.2)
 else none
 else some (J,K,L)
  partial_fixpoint
def BA(g:Int×List aO×Int×Int×List ah×Int×I×List hX):Option (List ah×Int×I×List hX):=
 match g with
 |(f,t18,R,t20,G,H,j,A)=>
 if decide (t20<R)=true then if aB t20 t18.length=true then some (t18.getD t20.toNat au)>>=λc=>if aB t20 j.al.length=true then Sf ((⟨c.af,c.Name,c.av,c.bQ,c.bD,I.eta c.bk⟩:aO),I.eta (j.al.getD t20.toNat aK))>>=λO=>if(!O)=true then if aB t20 j.al.length=true then lB (c.av,I.eta (j.al.getD t20.toNat aK),aM .i64 f 1,G,H)>>=λq=>uG (c.af,c.bQ,q.1)>>=λy=>some [(⟨c.af,y⟩:hX)]>>=λt53=>if room 24 (A++t53).length=true then BA (f,t18,R,aM .i64 t20 1,q.2.1,q.2.2,I.eta j,A++t53)
 else none
 else none
 else BA (f,t18,R,aM .i64 t20 1,G,H,I.eta j,A)
 else none
 else none
 else some (G,H,I.eta j,A)
  partial_fixpoint
end
theorem TX:eD p2 lB/\eX 38 1 [0] wD Bx/\eD Ap Q1/\eD Ao QX/\eX 75 1 [0] wM BA:=lB.mutual_partial_correctness (ez p2) (eW 38 1 [0] wD) (ez Ap) (ez Ao) (eW 75 1 [0] wM)
 (λ_ _ _ _ h0 h1 b c _ _ h=>eH h (.k R4 (.k Yl (.k (cB Ao c) (.k (cB Ap b) (.k (cB p2 h0) (.k Rs .n)))))) (.k (fa wD h1) .n))
 (λ_ _ h0 h1 _ _ h=>e' wD h1 h (.k (cB p2 h0) (.k Sg (.k Rq .n))))
 (λ_ h0 _ _ h=>eH h (.k xy (.k oG (.k (cB p2 h0) .n))))
 (λ_ a _ _ h=>eH h (.k Ff (.k Rs .n)) (.k (fa wM a) (.k TV (.k TW .n))))
 (λ_ _ h0 a _ _ h=>e' wM a h (.k Wj (.k (cB p2 h0) (.k Fi .n))))
theorem Vd:bd p2 lB:=cB _ TX.1
def xu(b:bh×Int×I):Option (List UInt8×Int):=
 match b with
 |(s,t,v)=>
 Bo ((⟨s.Types⟩:bh),t,I.eta v)>>=λr=>if(!(decide (r=0)))=true then some ([],r)
 else lB (t,I.eta v,1,s.Types,0)>>=λa=>if(bif decide (4096<(a.1.length:Int))then true else decide (200<a.2.2))=true then some ([],3)
 else some (a.1,0)
theorem WA:bd OA xu:= .bt (.k Wi (.k Vd .n))
def hf(d:Int×List ah×List Int×Int×List Int):Option (I×Bool×List ah×Int×List Int×List Int):=
 match d with
 |(c,b,e,f,a)=>
 sR 8 a>>=λr=>if(decide (r.1.length=a.length)&&true)=true then some ((⟨0,false,0,[],0,[],[],[]⟩:I),false,b,c,r.1,r.2)
 else none
theorem qn:bd PC hf:= .bt (.k A9 .n)
def oD(d:List UInt8×Int×Int×Int):Option (Int):=
 match d with
 |(a,b,c,t18)=>
 if decide (t18<c)=true then if aB t18 a.length=true then oD (a,q' .u64 (mL .u64 b 8) (bW .u64 (hY a t18)),c,aM .i64 t18 1)
 else none
 else some b
  partial_fixpoint
theorem Vs:ck 100 0 [0] Md oD:= .rx oD.partial_correctness
def xo(s:List UInt8):Option (Int×Int):=
 some (!(decide (s=[])))>>=λt7=>if(aB 0 s.length||(!t7))=true then if(bif t7 then decide (hY s 0=0)else false)=true then some (0,2)
 else if decide (8<(s.length:Int))=true then some (0,7)
 else oD (s,0,(s.length:Int),0)>>=λo=>some (o,0)
 else none
theorem Wk:bd N9 xo:= .bt .n (.k Vs .n)
def Bn(n:Int):Option (Int):=
 some (tj .i64 (bW .i64 (lh .u64 n 1)) (c' .i64 0 (bW .i64 (zX .u64 n 1))))
theorem WL:bd Oa Bn:= .bt
def p8(v:List (List UInt8)×Int×List ah×List Int×Int×ah×Int×Bool×Int×List UInt8×Int×Int×Bool×Int×List UInt8×Int×List Int×List I):Option ((Bool×List ah×Int×I×List Int×List Int) ⊕ (List (List UInt8)×List ah×List Int×Int×ah×Int×Bool×Int×List UInt8×Int×Int×Bool×Int×List UInt8×Int×List Int×List I)):=
 match v with
 |(t,b,d,e,f,i,j,k,l,m,n,o,p,q,r,s,g,a)=>
 if decide (b<(a.length:Int))=true then some (c' .i64 b 1)>>=λt86=>if aB t86 a.length=true then if decide (t86.toNat<a.length)=true then if aB b a.length=true then if decide (b.toNat<a.length)=true then oJ (I.eta (a.getD t86.toNat aK),I.eta (a.getD b.toNat aK))>>=λu=>if decide (0<=u)=true then hf (1,d,e,f,g)>>=λc=>some (.inl (c.2.1,c.2.2.1,c.2.2.2.1,I.eta c.1,c.2.2.2.2.1,c.2.2.2.2.2))
 else p8 (t,aM .i64 b 1,d,e,f,i,j,k,l,m,n,o,p,q,r,s,g,a)
 else none
 else none
 else none
 else none
 else some (.inr (t,d,e,f,i,j,k,l,m,n,o,p,q,r,s,g,a))
  partial_fixpoint
theorem Up:ck 105 2 [1] Mg p8:= .rx p8.partial_correctness (.k R5 (.k qn .n))
def r8(c:List UInt8×Int×Int×Int):Option ((Int×Int×Int) ⊕ (Unit)):=
 match c with
 |(a,n,b,t11)=>
 if decide (t11<b)=true then if aB t11 a.length=true then some (hY a t11)>>=λt16=>if(bif decide (t11=9)then decide (1<t16)else false)=true then some (.inl (0,0,7))
 else if decide (128<=t16)=true then some (iq .i64 7 t11)>>=λt41=>if decide (0<=t41)=true then r8 (a,q' .u64 n (mL .u64 (bW .u64 (zX .u8 t16 127)) t41),b,aM .i64 t11 1)
 else none
 else if(bif decide (t16=0)then decide (0<t11)else false)=true then some (.inl (0,0,2))
 else some (iq .i64 7 t11)>>=λt21=>if decide (0<=t21)=true then some (.inl (q' .u64 n (mL .u64 (bW .u64 t16) t21),aM .i64 t11 1,0))
 else none
 else none
 else some (.inr ())
  partial_fixpoint
theorem WB:ck 230 0 [0] Me r8:= .rx r8.partial_correctness
def B9(s:List UInt8):Option (Int×Int×Int):=
 r8 (s,0,dD 10 (s.length:Int),0)>>=λo=>match o with
 |.inl a=>
 some (a.1,a.2.1,a.2.2)
 |.inr b=>
 some (0,0,10)
theorem Ym:bd OU B9:= .bt .n (.k WB .n)
def qS(s:List UInt8):Option (Int×List UInt8×Bool):=
 B9 s>>=λr=>if(!(decide (r.2.2=0)))=true then some (0,[],false)
 else if ed r.2.1 (s.length:Int) s.length=true then some (r.1,eI s r.2.1 (s.length:Int),true)
 else none
theorem Ga:bd OO qS:= .bt (.k Ym .n)
def yw(s:List UInt8):Option (List UInt8×List UInt8×Bool):=
 qS s>>=λr=>if(bif (!r.2.2)then true else decide (bW .u64 (r.2.1.length:Int)<r.1))=true then some ([],[],false)
 else if ed 0 r.1 r.2.1.length=true then if ed r.1 (r.2.1.length:Int) r.2.1.length=true then some (eI r.2.1 0 r.1,eI r.2.1 r.1 (r.2.1.length:Int),true)
 else none
 else none
theorem RI:bd OP yw:= .bt (.k Ga .n)
def j8(b:List UInt8×List (List UInt8)):Option ((Int) ⊕ (List (List UInt8))):=
 match b with
 |(s,a)=>
 if(!(decide (s=[])))=true then yw s>>=λr=>if(!r.2.2)=true then some (.inl 12)
 else some [r.1]>>=λt22=>if room 16 (a++t22).length=true then j8 (r.2.1,a++t22)
 else none
 else some (.inr a)
  partial_fixpoint
theorem WM:ck 157 0 [0] Mf j8:= .rx j8.partial_correctness (.k RI .n)
def oM(c:List UInt8):Option (List (List UInt8)×Int):=
 j8 (c,[])>>=λo=>match o with
 |.inl a=>
 some ([],a)
 |.inr b=>
 some (b,0)
theorem Sh:bd Ox oM:= .bt .n (.k WM .n)
mutual
def jl(v:I):Option (I):=
 fR 120 v.aE>>=λr=>fR 120 v.al>>=λW=>fR 24 v.Rest>>=λX=>sA ((r.length:Int),0,v.Kind,v.b',v.bq,v.bA,v.af,0,false,0,[],0,r,W,X)>>=λo=>sC ((o.2.2.2.2.2.2.2.2.2.2.2.1.length:Int),0,o.1,o.2.1,o.2.2.1,o.2.2.2.1,o.2.2.2.2.1,o.2.2.2.2.2.1,o.2.2.2.2.2.2.1,o.2.2.2.2.2.2.2.1,o.2.2.2.2.2.2.2.2.1,o.2.2.2.2.2.2.2.2.2.1,o.2.2.2.2.2.2.2.2.2.2.2.1,o.2.2.2.2.2.2.2.2.2.2.1,o.2.2.2.2.2.2.2.2.2.2.2.2)>>=λa=>some (⟨a.1,a.2.1,a.2.2.1,a.2.2.2.1,a.2.2.2.2.1,a.2.2.2.2.2.2.2.2.2.2.1,a.2.2.2.2.2.2.2.2.2.2.2.1,a.2.2.2.2.2.2.2.2.2.2.2.2⟩:I)
  partial_fixpoint
def sA(f:Int×Int×Int×Bool×Int×List UInt8×Int×Int×Bool×Int×List UInt8×Int×List I×List I×List cF):Option (Int×Bool×Int×List UInt8×Int×Int×Bool×Int×List UInt8×Int×List I×List I×List cF):=
 match f with
 |(S,t22,g,j,p,q,t,w,x,y,A,B,c,D,E)=>
 if decide (t22<S)=true then if aB t22 c.length=true then if decide (t22.toNat<c.length)=true then jl (I.eta (c.getD t22.toNat aK))>>=λY=>if aB t22 c.length=true then if decide (t22.toNat<c.length)=true then sA (S,aM .i64 t22 1,g,j,p,q,t,w,x,y,A,B,c.set t22.toNat (I.eta Y),D,E)
 else none
 else none
 else none
 else none
 else some (g,j,p,q,t,w,x,y,A,B,c,D,E)
  partial_fixpoint
def sC(f:Int×Int×Int×Bool×Int×List UInt8×Int×Int×Bool×Int×List UInt8×Int×List I×List I×List cF):Option (Int×Bool×Int×List UInt8×Int×Int×Bool×Int×List UInt8×Int×List I×List I×List cF):=
 match f with
 |(U,t37,F,G,H,J,K,L,M,N,O,P,e,Q,R)=>
 if decide (t37<U)=true then if aB t37 e.length=true then if decide (t37.toNat<e.length)=true then jl (I.eta (e.getD t37.toNat aK))>>=λZ=>if aB t37 e.length=true then if decide (t37.toNat<e.length)=true then sC (U,aM .i64 t37 1,F,G,H,J,K,L,M,N,O,P,e.set t37.toNat (I.eta Z),Q,R)
 else none
 else none
 else none
 else none
 else some (F,G,H,J,K,L,M,N,O,P,Q,e,R)
  partial_fixpoint
end
theorem WN:eD tU jl/\eX 161 0 [1] yT sC/\eX 161 0 [0] yS sA:=jl.mutual_partial_correctness (ez tU) (eW 161 0 [1] yT) (eW 161 0 [0] yS)
 (λ_ _ h1 a _ _ h=>eH h (.k Fz (.k FA .n)) (.k (fa yS a) (.k (fa yT h1) .n)))
 (λ_ _ h0 h1 _ _ h=>e' yT h1 h (.k (cB tU h0) .n))
 (λ_ _ h0 a _ _ h=>e' yS a h (.k (cB tU h0) .n))
theorem WC:bd tU jl:=cB _ WN.1
def Fs(a:eP×aO):Option (Bool×aO):=
 match a with
 |(f,b)=>
 some (decide (f.af=b.af),(⟨b.af,b.Name,b.av,b.bQ,b.bD,I.eta b.bk⟩:aO))
theorem TJ:bd OB Fs:= .bt
def ox(d:List eP×Int×Int×aO):Option ((Int×aO) ⊕ (aO)):=
 match d with
 |(b,c,t8,a)=>
 if decide (t8<c)=true then if aB t8 b.length=true then Fs (b.getD t8.toNat lP,(⟨a.af,a.Name,a.av,a.bQ,a.bD,I.eta a.bk⟩:aO))>>=λr=>if r.1=true then some (.inl (t8,(⟨r.2.af,r.2.Name,r.2.av,r.2.bQ,r.2.bD,I.eta r.2.bk⟩:aO)))
 else ox (b,c,aM .i64 t8 1,(⟨r.2.af,r.2.Name,r.2.av,r.2.bQ,r.2.bD,I.eta r.2.bk⟩:aO))
 else none
 else some (.inr (⟨a.af,a.Name,a.av,a.bQ,a.bD,I.eta a.bk⟩:aO))
  partial_fixpoint
theorem Uc:ck 159 1 [0] Mi ox:= .rx ox.partial_correctness (.k TJ .n)
def w5(d:List eP×aO):Option (Int×aO):=
 match d with
 |(s,b)=>
 ox (s,(s.length:Int),0,(⟨b.af,b.Name,b.av,b.bQ,b.bD,I.eta b.bk⟩:aO))>>=λo=>match o with
 |.inl a=>
 some (a.1,(⟨a.2.af,a.2.Name,a.2.av,a.2.bQ,a.2.bD,I.eta a.2.bk⟩:aO))
 |.inr c=>
 some ((-1),(⟨c.af,c.Name,c.av,c.bQ,c.bD,I.eta c.bk⟩:aO))
theorem Ug:bd Oz w5:= .bt .n (.k Uc .n)
def oz(w:List eP×Int×Int×List ah×List Int×Int×ah×Int×Bool×Int×List UInt8×Int×Int×Bool×Int×List UInt8×Int×List Int×List I×List cF):Option ((Bool×List ah×Int×I×List Int×List Int) ⊕ (List ah×List Int×Int×Int×Bool×Int×List UInt8×Int×Int×Bool×Int×List UInt8×Int×List Int×List I×List cF)):=
 match w with
 |(t117,u,t119,d,e,f,i,j,k,l,m,n,o,p,q,r,s,b,t,g)=>
 if decide (t119<u)=true then if aB t119 t117.length=true then some (t117.getD t119.toNat lP)>>=λc=>hB (i,c.af)>>=λv=>if v.2=true then oz (t117,u,aM .i64 t119 1,d,e,f,i,j,k,l,m,n,o,p,q,r,s,b,t,g)
 else if c.bQ=true then some [c.af]>>=λt140=>if room 8 (b++t140).length=true then hf (6,d,e,f,b++t140)>>=λa=>some (c' .i64 (a.2.2.2.2.1.length:Int) 1)>>=λt159=>if ed 0 t159 a.2.2.2.2.1.length=true then if decide (t159.toNat<=a.2.2.2.2.1.length)=true then some (.inl (false,a.2.2.1,a.2.2.2.1,I.eta a.1,a.2.2.2.2.1.take t159.toNat,a.2.2.2.2.2))
 else none
 else none
 else none
 else some [(⟨c.af,c.Data⟩:cF)]>>=λt171=>if room 24 (g++t171).length=true then oz (t117,u,aM .i64 t119 1,d,e,f,i,j,k,l,m,n,o,p,q,r,s,b,t,g++t171)
 else none
 else none
 else some (.inr (d,e,f,j,k,l,m,n,o,p,q,r,s,b,t,g))
  partial_fixpoint
theorem TY:ck 106 2 [1] Mj oz:= .rx oz.partial_correctness (.k oG (.k qn .n))
def jI(c:Int×List UInt8×List eP):Option ((Int) ⊕ (List eP)):=
 match c with
 |(last,s,a)=>
 if(!(decide (s=[])))=true then qS s>>=λr=>if(bif bif (!r.2.2)then true else decide (fY .u64 r.1 2<=last)then true else decide (1000<fY .u64 r.1 2))=true then some (.inl 12)
 else yw r.2.1>>=λb=>if(!b.2.2)=true then some (.inl 12)
 else some [(⟨bW .i64 (fY .u64 r.1 2),decide (cg r.1 2=1),b.1⟩:eP)]>>=λt50=>if room 32 (a++t50).length=true then jI (fY .u64 r.1 2,b.2.1,a++t50)
 else none
 else some (.inr a)
  partial_fixpoint
theorem VM:ck 158 0 [0] Mh jI:= .rx jI.partial_correctness (.k Ga (.k RI .n))
def qO(c:List UInt8):Option (List eP×Int):=
 jI (0,c,[])>>=λo=>match o with
 |.inl a=>
 some ([],a)
 |.inr b=>
 some (b,0)
theorem V9:bd Oy qO:= .bt .n (.k VM .n)
def qX(a:List UInt8):Option (Int×List UInt8×Int):=
 qS a>>=λr=>if(bif bif (!r.2.2)then true else decide (r.1<1)then true else decide (1000<r.1))=true then some (0,[],12)
 else some (bW .i64 r.1,r.2.1,0)
theorem Yn:bd Ow qX:= .bt (.k Ga .n)
mutual
def xC(y:ah×List UInt8×List ah×List Int×Int×List Int):Option (I×Bool×List ah×List Int×Int×List Int):=
 match y with
 |(c,p,b,f,g,e)=>
 oM p>>=λr=>if(bif (!(decide (r.2=0)))then true else(!(decide (cg (r.1.length:Int) 2=0))))=true then hf (1,b,f,g,e)>>=λx=>some (I.eta x.1,x.2.1,x.2.2.1,x.2.2.2.2.2,x.2.2.2.1,x.2.2.2.2.1)
 else if decide (c.Max<fY .i64 (r.1.length:Int) 2)=true then hf (3,b,f,g,e)>>=λv=>some (I.eta v.1,v.2.1,v.2.2.1,v.2.2.2.2.2,v.2.2.2.1,v.2.2.2.2.1)
 else rS (r.1,0,b,f,g,c,0,false,0,[],0,c.Kind,false,0,[],0,e,[])>>=λo=>match o with
 |.inl w=>
 some (I.eta w.2.2.2.2.1,w.1,w.2.1,w.2.2.1,w.2.2.2.1,w.2.2.2.2.2)
 |.inr a=>
 p8 (a.1,1,a.2.1,a.2.2.1,a.2.2.2.1,a.2.2.2.2.1,a.2.2.2.2.2.1,a.2.2.2.2.2.2.1,a.2.2.2.2.2.2.2.1,a.2.2.2.2.2.2.2.2.1,a.2.2.2.2.2.2.2.2.2.1,a.2.2.2.2.2.2.2.2.2.2.1,a.2.2.2.2.2.2.2.2.2.2.2.1,a.2.2.2.2.2.2.2.2.2.2.2.2.1,a.2.2.2.2.2.2.2.2.2.2.2.2.2.1,a.2.2.2.2.2.2.2.2.2.2.2.2.2.2.1,a.2.2.2.2.2.2.2.2.2.2.2.2.2.2.2.1,a.2.2.2.2.2.2.2.2.2.2.2.2.2.2.2.2)>>=λbH=>match bH with
 |.inl D=>
 some (I.eta D.2.2.2.1,D.1,D.2.1,D.2.2.2.2.2,D.2.2.1,D.2.2.2.2.1)
 |.inr q=>
 rT (q.1,1,q.2.1,q.2.2.1,q.2.2.2.1,q.2.2.2.2.1,q.2.2.2.2.2.1,q.2.2.2.2.2.2.1,q.2.2.2.2.2.2.2.1,q.2.2.2.2.2.2.2.2.1,q.2.2.2.2.2.2.2.2.2.1,q.2.2.2.2.2.2.2.2.2.2.1,q.2.2.2.2.2.2.2.2.2.2.2.1,q.2.2.2.2.2.2.2.2.2.2.2.2.1,q.2.2.2.2.2.2.2.2.2.2.2.2.2.1,q.2.2.2.2.2.2.2.2.2.2.2.2.2.2.1,q.2.2.2.2.2.2.2.2.2.2.2.2.2.2.2.1,q.2.2.2.2.2.2.2.2.2.2.2.2.2.2.2.2,[])>>=λip=>match ip with
 |.inl J=>
 some (I.eta J.2.2.2.2.1,J.1,J.2.1,J.2.2.1,J.2.2.2.1,J.2.2.2.2.2)
 |.inr E=>
 some ((⟨E.2.2.2.2.2.2.2.2.1,E.2.2.2.2.2.2.2.2.2.1,E.2.2.2.2.2.2.2.2.2.2.1,E.2.2.2.2.2.2.2.2.2.2.2.1,E.2.2.2.2.2.2.2.2.2.2.2.2.1,E.2.2.2.2.2.2.2.2.2.2.2.2.2.2.1,E.2.2.2.2.2.2.2.2.2.2.2.2.2.2.2,[]⟩:I),true,E.1,E.2.1,E.2.2.1,E.2.2.2.2.2.2.2.2.2.2.2.2.2.1)
  partial_fixpoint
def A'(y:ah×List UInt8×List ah×List Int×Int×List Int):Option (I×Bool×List ah×List Int×Int×List Int):=
 match y with
 |(c,p,b,f,g,e)=>
 oM p>>=λr=>if(!(decide (r.2=0)))=true then hf (1,b,f,g,e)>>=λx=>some (I.eta x.1,x.2.1,x.2.2.1,x.2.2.2.2.2,x.2.2.2.1,x.2.2.2.2.1)
 else if decide (c.Max<(r.1.length:Int))=true then hf (3,b,f,g,e)>>=λv=>some (I.eta v.1,v.2.1,v.2.2.1,v.2.2.2.2.2,v.2.2.2.1,v.2.2.2.2.1)
 else rX (r.1,(r.1.length:Int),0,b,f,g,c,0,false,0,[],0,c.Kind,false,0,[],0,e,[])>>=λo=>match o with
 |.inl w=>
 some (I.eta w.2.2.2.2.1,w.1,w.2.1,w.2.2.1,w.2.2.2.1,w.2.2.2.2.2)
 |.inr a=>
 some ((⟨a.2.2.2.2.2.2.2.2.1,a.2.2.2.2.2.2.2.2.2.1,a.2.2.2.2.2.2.2.2.2.2.1,a.2.2.2.2.2.2.2.2.2.2.2.1,a.2.2.2.2.2.2.2.2.2.2.2.2.1,[],a.2.2.2.2.2.2.2.2.2.2.2.2.2.2,[]⟩:I),true,a.1,a.2.1,a.2.2.1,a.2.2.2.2.2.2.2.2.2.2.2.2.2.1)
  partial_fixpoint
def iy(y:Int×Int×List UInt8×List ah×List Int×Int×List Int):Option (I×Bool×List ah×List Int×Int×List Int):=
 match y with
 |(step,t,p,b,f,g,e)=>
 some [step]>>=λt18=>if room 8 (e++t18).length=true then o8 (t,p,b,f,g,e++t18)>>=λr=>some (c' .i64 (r.2.2.2.2.2.length:Int) 1)>>=λt39=>if ed 0 t39 r.2.2.2.2.2.length=true then if decide (t39.toNat<=r.2.2.2.2.2.length)=true then some (I.eta r.1,r.2.1,r.2.2.1,r.2.2.2.1,r.2.2.2.2.1,r.2.2.2.2.2.take t39.toNat)
 else none
 else none
 else none
  partial_fixpoint
def o8(y:Int×List UInt8×List ah×List Int×Int×List Int):Option (I×Bool×List ah×List Int×Int×List Int):=
 match y with
 |(t,p,b,f,g,e)=>
 if decide (200<=(e.length:Int))=true then hf (8,b,f,g,e)>>=λr=>some (I.eta r.1,r.2.1,r.2.2.1,r.2.2.2.2.2,r.2.2.2.1,r.2.2.2.2.1)
 else if aB t b.length=true then some (b.getD t.toNat ar)>>=λc=>if decide (c.Kind=1)=true then some (decide (p=[1]))>>=λt50=>if(bif (!(decide (p=[])))then(!t50)else false)=true then hf (1,b,f,g,e)>>=λQ=>some (I.eta Q.1,Q.2.1,Q.2.2.1,Q.2.2.2.2.2,Q.2.2.2.1,Q.2.2.2.2.1)
 else some ((⟨c.Kind,t50,0,[],0,[],[],[]⟩:I),true,b,f,g,e)
 else if decide (c.Kind=2)=true then xo p>>=λG=>if(!(decide (G.2=0)))=true then hf (1,b,f,g,e)>>=λj=>some (I.eta j.1,j.2.1,j.2.2.1,j.2.2.2.2.2,j.2.2.2.1,j.2.2.2.2.1)
 else Bn G.1>>=λb0=>if(bif decide (b0<c.bz)then true else decide (c.bx<b0))=true then hf (2,b,f,g,e)>>=λK=>some (I.eta K.1,K.2.1,K.2.2.1,K.2.2.2.2.2,K.2.2.2.1,K.2.2.2.2.1)
 else some ((⟨c.Kind,false,b0,[],0,[],[],[]⟩:I),true,b,f,g,e)
 else if decide (c.Kind=3)=true then if decide (c.Max<(p.length:Int))=true then hf (3,b,f,g,e)>>=λA=>some (I.eta A.1,A.2.1,A.2.2.1,A.2.2.2.2.2,A.2.2.2.1,A.2.2.2.2.1)
 else some ((⟨c.Kind,false,0,p,0,[],[],[]⟩:I),true,b,f,g,e)
 else if decide (c.Kind=4)=true then xo p>>=λaG=>if(bif bif (!(decide (aG.2=0)))then true else decide (aG.1<1)then true else decide (1000<aG.1))=true then hf (1,b,f,g,e)>>=λM=>some (I.eta M.1,M.2.1,M.2.2.1,M.2.2.2.2.2,M.2.2.2.1,M.2.2.2.2.1)
 else some (bW .i64 aG.1)>>=λt130=>uC (c,t130)>>=λi1=>if(bif (!i1.2)then(!c.Open)else false)=true then hf (4,b,f,g,e)>>=λN=>some (I.eta N.1,N.2.1,N.2.2.1,N.2.2.2.2.2,N.2.2.2.1,N.2.2.2.2.1)
 else some ((⟨c.Kind,false,0,[],t130,[],[],[]⟩:I),true,b,f,g,e)
 else if decide (c.Kind=9)=true then if decide (p=[])=true then some ((⟨c.Kind,false,0,[],0,[],[],[]⟩:I),true,b,f,g,e)
 else if aB 0 p.length=true then if(!(decide (hY p 0=1)))=true then hf (1,b,f,g,e)>>=λO=>some (I.eta O.1,O.2.1,O.2.2.1,O.2.2.2.2.2,O.2.2.2.1,O.2.2.2.2.1)
 else if ed 1 (p.length:Int) p.length=true then iy (0,c.aH,eI p 1 (p.length:Int),b,f,g,e)>>=λP=>some ((⟨c.Kind,false,0,[],0,[],[I.eta P.1],[]⟩:I),P.2.1,P.2.2.1,P.2.2.2.1,P.2.2.2.2.1,P.2.2.2.2.2)
 else none
 else none
 else if decide (c.Kind=6)=true then BI (c,p,b,f,g,e)>>=λR=>some (I.eta R.1,R.2.1,R.2.2.1,R.2.2.2.1,R.2.2.2.2.1,R.2.2.2.2.2)
 else if decide (c.Kind=7)=true then A' (c,p,b,f,g,e)>>=λS=>some (I.eta S.1,S.2.1,S.2.2.1,S.2.2.2.1,S.2.2.2.2.1,S.2.2.2.2.2)
 else if decide (c.Kind=8)=true then xC (c,p,b,f,g,e)>>=λU=>some (I.eta U.1,U.2.1,U.2.2.1,U.2.2.2.1,U.2.2.2.2.1,U.2.2.2.2.2)
 else xE (c,p,b,f,g,e)>>=λW=>some (I.eta W.1,W.2.1,W.2.2.1,W.2.2.2.1,W.2.2.2.2.1,W.2.2.2.2.2)
 else none
  partial_fixpoint
def xE(y:ah×List UInt8×List ah×List Int×Int×List Int):Option (I×Bool×List ah×List Int×Int×List Int):=
 match y with
 |(c,p,b,f,g,e)=>
 qO p>>=λr=>if(!(decide (r.2=0)))=true then hf (1,b,f,g,e)>>=λx=>some (I.eta x.1,x.2.1,x.2.2.1,x.2.2.2.2.2,x.2.2.2.1,x.2.2.2.2.1)
 else mA (r.1,c.ae,(c.ae.length:Int),0,b,f,g,c,0,false,0,[],0,c.Kind,false,0,[],0,e,[])>>=λo=>match o with
 |.inl w=>
 some (I.eta w.2.2.2.2.1,w.1,w.2.1,w.2.2.1,w.2.2.2.1,w.2.2.2.2.2)
 |.inr a=>
 oz (a.1,(a.1.length:Int),0,a.2.1,a.2.2.1,a.2.2.2.1,a.2.2.2.2.1,a.2.2.2.2.2.1,a.2.2.2.2.2.2.1,a.2.2.2.2.2.2.2.1,a.2.2.2.2.2.2.2.2.1,a.2.2.2.2.2.2.2.2.2.1,a.2.2.2.2.2.2.2.2.2.2.1,a.2.2.2.2.2.2.2.2.2.2.2.1,a.2.2.2.2.2.2.2.2.2.2.2.2.1,a.2.2.2.2.2.2.2.2.2.2.2.2.2.1,a.2.2.2.2.2.2.2.2.2.2.2.2.2.2.1,a.2.2.2.2.2.2.2.2.2.2.2.2.2.2.2.1,a.2.2.2.2.2.2.2.2.2.2.2.2.2.2.2.2,[])>>=λbH=>match bH with
 |.inl D=>
 some (I.eta D.2.2.2.1,D.1,D.2.1,D.2.2.2.2.2,D.2.2.1,D.2.2.2.2.1)
 |.inr q=>
 some ((⟨q.2.2.2.2.2.2.2.2.1,q.2.2.2.2.2.2.2.2.2.1,q.2.2.2.2.2.2.2.2.2.2.1,q.2.2.2.2.2.2.2.2.2.2.2.1,q.2.2.2.2.2.2.2.2.2.2.2.2.1,[],q.2.2.2.2.2.2.2.2.2.2.2.2.2.2.1,q.2.2.2.2.2.2.2.2.2.2.2.2.2.2.2⟩:I),true,q.1,q.2.1,q.2.2.1,q.2.2.2.2.2.2.2.2.2.2.2.2.2.1)
  partial_fixpoint
def BI(y:ah×List UInt8×List ah×List Int×Int×List Int):Option (I×Bool×List ah×List Int×Int×List Int):=
 match y with
 |(c,p,b,f,g,e)=>
 qX p>>=λr=>if(!(decide (r.2.2=0)))=true then hf (1,b,f,g,e)>>=λL=>some (I.eta L.1,L.2.1,L.2.2.1,L.2.2.2.2.2,L.2.2.2.1,L.2.2.2.2.1)
 else hB (c,r.1)>>=λbR=>if bR.2=true then if aB bR.1 c.ae.length=true then iy (r.1,(c.ae.getD bR.1.toNat au).av,r.2.1,b,f,g,e)>>=λG=>some ((⟨c.Kind,false,0,[],r.1,[],[I.eta G.1],[]⟩:I),G.2.1,G.2.2.1,G.2.2.2.1,G.2.2.2.2.1,G.2.2.2.2.2)
 else none
 else if(!c.Open)=true then hf (5,b,f,g,e)>>=λB=>some (I.eta B.1,B.2.1,B.2.2.1,B.2.2.2.2.2,B.2.2.2.1,B.2.2.2.2.1)
 else some ((⟨c.Kind,false,0,[],r.1,[],[],[(⟨r.1,r.2.1⟩:cF)]⟩:I),true,b,f,g,e)
  partial_fixpoint
def rS(y:List (List UInt8)×Int×List ah×List Int×Int×ah×Int×Bool×Int×List UInt8×Int×Int×Bool×Int×List UInt8×Int×List Int×List I):Option ((Bool×List ah×List Int×Int×I×List Int) ⊕ (List (List UInt8)×List ah×List Int×Int×ah×Int×Bool×Int×List UInt8×Int×Int×Bool×Int×List UInt8×Int×List Int×List I)):=
 match y with
 |(am,i,g7,g8,g9,br,he,hi,hk,hm,hs,ht,hu,hw,hH,h0,h1,bv)=>
 if decide (i<(am.length:Int))=true then if aB i am.length=true then iy (fY .i64 i 2,br.Key,am.getD i.toNat [],g7,g8,g9,h1)>>=λj=>if(!j.2.1)=true then some (.inl (false,j.2.2.1,j.2.2.2.1,j.2.2.2.2.1,I.eta j.1,j.2.2.2.2.2))
 else some [I.eta j.1]>>=λt73=>if room 120 (bv++t73).length=true then rS (am,aM .i64 i 2,j.2.2.1,j.2.2.2.1,j.2.2.2.2.1,br,he,hi,hk,hm,hs,ht,hu,hw,hH,h0,j.2.2.2.2.2,bv++t73)
 else none
 else none
 else some (.inr (am,g7,g8,g9,br,he,hi,hk,hm,hs,ht,hu,hw,hH,h0,h1,bv))
  partial_fixpoint
def rT(y:List (List UInt8)×Int×List ah×List Int×Int×ah×Int×Bool×Int×List UInt8×Int×Int×Bool×Int×List UInt8×Int×List Int×List I×List I):Option ((Bool×List ah×List Int×Int×I×List Int) ⊕ (List ah×List Int×Int×Int×Bool×Int×List UInt8×Int×Int×Bool×Int×List UInt8×Int×List Int×List I×List I)):=
 match y with
 |(ax,ad,ii,b2,b3,ce,ci,cm,cs,cP,c0,c9,dt,eq,es,ex,fd,ff,aI)=>
 if decide (ad<(ax.length:Int))=true then if aB ad ax.length=true then iy (fY .i64 ad 2,ce.aH,ax.getD ad.toNat [],ii,b2,b3,fd)>>=λA=>if(!A.2.1)=true then some (.inl (false,A.2.2.1,A.2.2.2.1,A.2.2.2.2.1,I.eta A.1,A.2.2.2.2.2))
 else some [I.eta A.1]>>=λt125=>if room 120 (aI++t125).length=true then rT (ax,aM .i64 ad 2,A.2.2.1,A.2.2.2.1,A.2.2.2.2.1,ce,ci,cm,cs,cP,c0,c9,dt,eq,es,ex,A.2.2.2.2.2,ff,aI++t125)
 else none
 else none
 else some (.inr (ii,b2,b3,ci,cm,cs,cP,c0,c9,dt,eq,es,ex,fd,ff,aI))
  partial_fixpoint
def rX(y:List (List UInt8)×Int×Int×List ah×List Int×Int×ah×Int×Bool×Int×List UInt8×Int×Int×Bool×Int×List UInt8×Int×List Int×List I):Option ((Bool×List ah×List Int×Int×I×List Int) ⊕ (List ah×List Int×Int×Int×Bool×Int×List UInt8×Int×Int×Bool×Int×List UInt8×Int×List Int×List I)):=
 match y with
 |(t38,io,t40,fo,fs,gc,gd,ge,gl,gs,gt,g0,g1,g2,g3,g4,g5,g6,aP)=>
 if decide (t40<io)=true then if aB t40 t38.length=true then iy (t40,gd.aH,t38.getD t40.toNat [],fo,fs,gc,g6)>>=λj=>if(!j.2.1)=true then some (.inl (false,j.2.2.1,j.2.2.2.1,j.2.2.2.2.1,I.eta j.1,j.2.2.2.2.2))
 else some [I.eta j.1]>>=λt60=>if room 120 (aP++t60).length=true then rX (t38,io,aM .i64 t40 1,j.2.2.1,j.2.2.2.1,j.2.2.2.2.1,gd,ge,gl,gs,gt,g0,g1,g2,g3,g4,g5,j.2.2.2.2.2,aP++t60)
 else none
 else none
 else some (.inr (fo,fs,gc,ge,gl,gs,gt,g0,g1,g2,g3,g4,g5,g6,aP))
  partial_fixpoint
def mA(y:List eP×List aO×Int×Int×List ah×List Int×Int×ah×Int×Bool×Int×List UInt8×Int×Int×Bool×Int×List UInt8×Int×List Int×List I):Option ((Bool×List ah×List Int×Int×I×List Int) ⊕ (List eP×List ah×List Int×Int×ah×Int×Bool×Int×List UInt8×Int×Int×Bool×Int×List UInt8×Int×List Int×List I)):=
 match y with
 |(H,t39,b1,t41,an,ao,ap,a0,a1,a2,a3,a4,a5,a9,be,bf,bg,bi,Y,Z)=>
 if decide (t41<b1)=true then if aB t41 t39.length=true then some (t39.getD t41.toNat au)>>=λX=>w5 (H,(⟨X.af,X.Name,X.av,X.bQ,X.bD,I.eta X.bk⟩:aO))>>=λv=>if decide (0<=v.1)=true then if aB v.1 H.length=true then iy (v.2.af,v.2.av,(H.getD v.1.toNat lP).Data,an,ao,ap,Y)>>=λF=>if(!F.2.1)=true then some (.inl (false,F.2.2.1,F.2.2.2.1,F.2.2.2.2.1,I.eta F.1,F.2.2.2.2.2))
 else some [I.eta F.1]>>=λt102=>if room 120 (Z++t102).length=true then mA (H,t39,b1,aM .i64 t41 1,F.2.2.1,F.2.2.2.1,F.2.2.2.2.1,a0,a1,a2,a3,a4,a5,a9,be,bf,bg,bi,F.2.2.2.2.2,Z++t102)
 else none
 else none
 else if v.2.bD=true then jl (I.eta v.2.bk)>>=λi0=>some [I.eta i0]>>=λt113=>if room 120 (Z++t113).length=true then mA (H,t39,b1,aM .i64 t41 1,an,ao,ap,a0,a1,a2,a3,a4,a5,a9,be,bf,bg,bi,Y,Z++t113)
 else none
 else some [v.2.af]>>=λt55=>if room 8 (Y++t55).length=true then hf (7,an,ao,ap,Y++t55)>>=λB=>some (c' .i64 (B.2.2.2.2.1.length:Int) 1)>>=λt74=>if ed 0 t74 B.2.2.2.2.1.length=true then if decide (t74.toNat<=B.2.2.2.2.1.length)=true then some (.inl (false,B.2.2.1,B.2.2.2.2.2,B.2.2.2.1,I.eta B.1,B.2.2.2.2.1.take t74.toNat))
 else none
 else none
 else none
 else none
 else some (.inr (H,an,ao,ap,a0,a1,a2,a3,a4,a5,a9,be,bf,bg,bi,Y,Z))
  partial_fixpoint
end
theorem TZ:eD Ae xC/\eX 105 2 [2] yR rT/\eD ot iy/\eD wH o8/\eD Af xE/\eX 106 2 [0] yU mA/\eD Ad A'/\eX 104 2 [0] yP rX/\eD Ac BI/\eX 105 2 [0] yQ rS:=xC.mutual_partial_correctness (ez Ae) (eW 105 2 [2] yR) (ez ot) (ez wH) (ez Af) (eW 106 2 [0] yU) (ez Ad) (eW 104 2 [0] yP) (ez Ac) (eW 105 2 [0] yQ)
 (λ_ _ h1 c _ _ h=>eH h (.k Sh (.k qn .n)) (.k (fa yQ c) (.k Up (.k (fa yR h1) .n))))
 (λ_ _ h1 a _ _ h=>e' yR h1 h (.k (cB ot a) .n))
 (λ_ d _ _ h=>eH h (.k (cB wH d) .n))
 (λ_ _ _ _ _ h0 a e f g _ _ h=>eH h (.k qn (.k Wk (.k WL (.k E5 (.k (cB ot a) (.k (cB Ac g) (.k (cB Ad f) (.k (cB Ae h0) (.k (cB Af e) .n))))))))))
 (λ_ bf _ _ h=>eH h (.k V9 (.k qn .n)) (.k (fa yU bf) (.k TY .n)))
 (λ_ _ a bf _ _ h=>e' yU bf h (.k Ug (.k (cB ot a) (.k WC (.k qn .n)))))
 (λ_ b _ _ h=>eH h (.k Sh (.k qn .n)) (.k (fa yP b) .n))
 (λ_ _ a b _ _ h=>e' yP b h (.k (cB ot a) .n))
 (λ_ a _ _ h=>eH h (.k Yn (.k qn (.k oG (.k (cB ot a) .n)))))
 (λ_ _ a c _ _ h=>e' yQ c h (.k (cB ot a) .n))
theorem Ve:bd wH o8:=cB _ TZ.2.2.2.1
def FV(b:bh×Int×List UInt8):Option (I×ml×Int):=
 match b with
 |(s,t,m)=>
 sa s>>=λr=>if(!(decide (r=0)))=true then some ((⟨0,false,0,[],0,[],[],[]⟩:I),(⟨[],0⟩:ml),r)
 else if(bif decide (t<0)then true else decide ((s.Types.length:Int)<=t))=true then some ((⟨0,false,0,[],0,[],[],[]⟩:I),(⟨[],0⟩:ml),4)
 else if decide (4096<(m.length:Int))=true then some ((⟨0,false,0,[],0,[],[],[]⟩:I),(⟨[],3⟩:ml),12)
 else o8 (t,m,s.Types,[],0,[])>>=λa=>if(!a.2.1)=true then some ((⟨0,false,0,[],0,[],[],[]⟩:I),(⟨a.2.2.2.1,a.2.2.2.2.1⟩:ml),12)
 else some (I.eta a.1,(⟨[],0⟩:ml),0)
theorem XJ:bd OR FV:= .bt (.k Fg (.k Ve .n))
def Bv(a:bh×Int×List UInt8):Option (I×Int):=
 match a with
 |(s,t,m)=>
 FV (s,t,m)>>=λr=>some (I.eta r.1,r.2.2)
theorem V':bd e8 Bv:= .bt (.k XJ .n)
def oy(e:Int×I×I):Option ((Bool) ⊕ (I×I)):=
 match e with
 |(i,a,b)=>
 if decide (i<(a.Rest.length:Int))=true then if aB i a.Rest.length=true then some (a.Rest.getD i.toNat b8)>>=λc=>if aB i b.Rest.length=true then some (b.Rest.getD i.toNat b8)>>=λd=>if(!(hJ c.af d.af&&(jb c.Data d.Data&&true)))=true then some (.inl false)
 else oy (aM .i64 i 1,I.eta a,I.eta b)
 else none
 else none
 else some (.inr (I.eta a,I.eta b))
  partial_fixpoint
theorem Uq:ck 23 0 [0] OV oy:= .rx oy.partial_correctness
mutual
def jG(e:I×I):Option (Bool):=
 match e with
 |(a,b)=>
 if(bif bif bif bif bif (!(decide (a.Kind=b.Kind)))then true else(!(fc a.b' b.b'))then true else(!(decide (a.bq=b.bq)))then true else(!(decide (a.bA=b.bA)))then true else(!(decide (a.af=b.af)))then true else(!(decide ((a.Rest.length:Int)=(b.Rest.length:Int)))))=true then some false
 else oy (0,(⟨a.Kind,a.b',a.bq,a.bA,a.af,a.aE,a.al,a.Rest⟩:I),(⟨b.Kind,b.b',b.bq,b.bA,b.af,b.aE,b.al,b.Rest⟩:I))>>=λo=>match o with
 |.inl j=>
 some j
 |.inr c=>
 xA (c.1.aE,c.2.aE)>>=λr=>(if r=true then xA (c.1.al,c.2.al)else some false)>>=λp=>some (bif r then p else false)
  partial_fixpoint
def xA(e:List I×List I):Option (Bool):=
 match e with
 |(a,b)=>
 if(!(decide ((a.length:Int)=(b.length:Int))))=true then some false
 else ui (a,b,0)>>=λo=>match o with
 |.inl j=>
 some j
 |.inr c=>
 some true
  partial_fixpoint
def ui(e:List I×List I×Int):Option ((Bool) ⊕ (Unit)):=
 match e with
 |(f,g,i)=>
 if decide (i<(f.length:Int))=true then if aB i f.length=true then if aB i g.length=true then jG (I.eta (f.getD i.toNat aK),I.eta (g.getD i.toNat aK))>>=λr=>if(!r)=true then some (.inl false)
 else ui (f,g,aM .i64 i 1)
 else none
 else none
 else some (.inr ())
  partial_fixpoint
end
theorem T0:eD wy jG/\eD Al xA/\eX 58 0 [0] wI ui:=jG.mutual_partial_correctness (ez wy) (ez Al) (eW 58 0 [0] wI)
 (λ_ h1 _ _ h=>eH h (.k (cB Al h1) .n) (.k Uq .n))
 (λ_ a _ _ h=>eH h .n (.k (fa wI a) .n))
 (λ_ _ h0 a _ _ h=>e' wI a h (.k (cB wy h0) .n))
theorem xz:bd wy jG:=cB _ T0.1
def Bc(c:I×I):Option (Bool):=
 match c with
 |(a,b)=>
 jG (I.eta a,I.eta b)>>=λr=>some r
theorem Vt:bd tW Bc:= .bt (.k xz .n)
def mf(t:ah):Option (ah):=
 if decide (t.Kind=1)=true then some (⟨t.Kind,[],0,0,0,[],[],0,0,false⟩:ah)
 else if decide (t.Kind=2)=true then some (⟨t.Kind,[],t.bz,t.bx,0,[],[],0,0,false⟩:ah)
 else if decide (t.Kind=3)=true then some (⟨t.Kind,[],0,0,t.Max,[],[],0,0,false⟩:ah)
 else if decide (t.Kind=4)=true then some (⟨t.Kind,t.Name,0,0,0,t.a7,[],0,0,t.Open⟩:ah)
 else if decide (t.Kind=5)=true then some (⟨t.Kind,t.Name,0,0,0,[],t.ae,0,0,false⟩:ah)
 else if decide (t.Kind=6)=true then some (⟨t.Kind,t.Name,0,0,0,[],t.ae,0,0,t.Open⟩:ah)
 else if decide (t.Kind=7)=true then some (⟨t.Kind,[],0,0,t.Max,[],[],0,t.aH,false⟩:ah)
 else if decide (t.Kind=8)=true then some (⟨t.Kind,[],0,0,t.Max,[],[],t.Key,t.aH,false⟩:ah)
 else some (⟨t.Kind,[],0,0,0,[],[],0,t.aH,false⟩:ah)
theorem Vu:bd aeA mf:= .bt
def xB(c:aO×aO):Option (Bool):=
 match c with
 |(a,b)=>
 some (bif bif bif bif decide (a.af=b.af)then decide (a.Name=b.Name)else false then decide (a.av=b.av)else false then fc a.bQ b.bQ else false then fc a.bD b.bD else false)>>=λt37=>(if t37=true then jG ((⟨a.bk.Kind,a.bk.b',a.bk.bq,a.bk.bA,a.bk.af,a.bk.aE,a.bk.al,a.bk.Rest⟩:I),(⟨b.bk.Kind,b.bk.b',b.bk.bq,b.bk.bA,b.bk.af,b.bk.aE,b.bk.al,b.bk.Rest⟩:I))else some false)>>=λr=>some (bif t37 then r else false)
theorem TK:bd aeH xB:= .bt (.k xz .n)
def oA(e:Int×ah×ah):Option ((Bool) ⊕ (ah×ah)):=
 match e with
 |(i,a,b)=>
 if decide (i<(a.a7.length:Int))=true then if aB i a.a7.length=true then some (a.a7.getD i.toNat dm)>>=λc=>if aB i b.a7.length=true then some (b.a7.getD i.toNat dm)>>=λd=>if(!(hJ c.af d.af&&(jb c.Name d.Name&&true)))=true then some (.inl false)
 else oA (aM .i64 i 1,a,b)
 else none
 else none
 else some (.inr (a,b))
  partial_fixpoint
theorem T1:ck 248 0 [0] Nw oA:= .rx oA.partial_correctness
def oZ(f:Int×ah×ah):Option ((Bool) ⊕ (Unit)):=
 match f with
 |(a,d,e)=>
 if decide (a<(d.ae.length:Int))=true then if aB a d.ae.length=true then some (d.ae.getD a.toNat au)>>=λb=>if aB a e.ae.length=true then some (e.ae.getD a.toNat au)>>=λc=>xB ((⟨b.af,b.Name,b.av,b.bQ,b.bD,I.eta b.bk⟩:aO),(⟨c.af,c.Name,c.av,c.bQ,c.bD,I.eta c.bk⟩:aO))>>=λr=>if(!r)=true then some (.inl false)
 else oZ (aM .i64 a 1,d,e)
 else none
 else none
 else some (.inr ())
  partial_fixpoint
theorem T2:ck 248 0 [1] Nx oZ:= .rx oZ.partial_correctness (.k TK .n)
def BE(g:ah×ah):Option (Bool):=
 match g with
 |(a,b)=>
 if(bif bif bif bif bif bif bif bif bif (!(decide (a.Kind=b.Kind)))then true else(!(decide (a.Name=b.Name)))then true else(!(decide (a.bz=b.bz)))then true else(!(decide (a.bx=b.bx)))then true else(!(decide (a.Max=b.Max)))then true else(!(decide (a.Key=b.Key)))then true else(!(decide (a.aH=b.aH)))then true else(!(fc a.Open b.Open))then true else(!(decide ((a.a7.length:Int)=(b.a7.length:Int))))then true else(!(decide ((a.ae.length:Int)=(b.ae.length:Int)))))=true then some false
 else oA (0,(⟨a.Kind,a.Name,a.bz,a.bx,a.Max,a.a7,a.ae,a.Key,a.aH,a.Open⟩:ah),(⟨b.Kind,b.Name,b.bz,b.bx,b.Max,b.a7,b.ae,b.Key,b.aH,b.Open⟩:ah))>>=λo=>match o with
 |.inl d=>
 some d
 |.inr c=>
 oZ (0,c.1,c.2)>>=λe=>match e with
 |.inl f=>
 some f
 |.inr i=>
 some true
theorem UH:bd aez BE:= .bt .n (.k T1 (.k T2 .n))
def xc(b:Int):Option (Bool):=
 some (bif bif bif decide (97<=b)then decide (b<=122)else false then true else bif decide (65<=b)then decide (b<=90)else false then true else decide (b=95))
theorem QY:bd aeI xc:= .bt
def Bd(b:Int):Option (Bool):=
 some (bif decide (48<=b)then decide (b<=57)else false)
theorem Vv:bd aeJ Bd:= .bt
def o9(d:List UInt8×Int):Option ((Bool) ⊕ (Unit)):=
 match d with
 |(a,i)=>
 if decide (i<(a.length:Int))=true then if aB i a.length=true then xc (hY a i)>>=λb=>some (!b)>>=λt27=>if(aB i a.length||(!t27))=true then (if t27=true then Bd (hY a i)else some false)>>=λc=>if(bif t27 then(!c)else false)=true then some (.inl false)
 else o9 (a,aM .i64 i 1)
 else none
 else none
 else some (.inr ())
  partial_fixpoint
theorem Vf:ck 250 0 [0] Ny o9:= .rx o9.partial_correctness (.k QY (.k Vv .n))
def r4(s:List UInt8):Option (Bool):=
 some (bif decide (s=[])then true else decide (24<(s.length:Int)))>>=λt10=>if(aB 0 s.length||(!(!t10)))=true then (if(!t10)=true then xc (hY s 0)else some false)>>=λr=>if(bif t10 then true else(!r))=true then some false
 else o9 (s,0)>>=λo=>match o with
 |.inl a=>
 some a
 |.inr b=>
 some true
 else none
theorem Ft:bd aeC r4:= .bt (.k QY .n) (.k Vf .n)
def xp(b:Int×Int):Option (Bool):=
 match b with
 |(a,n)=>
 some (bif bif decide (a<n)then decide (1<=n)else false then decide (n<=1000)else false)
theorem QV:bd aeK xp:= .bt
def nb(c:List dc×Int×Int):Option ((Bool) ⊕ (List dc×Int)):=
 match c with
 |(a,b,k)=>
 if decide (k<b)=true then if aB k a.length=true then if aB b a.length=true then if decide ((a.getD k.toNat dm).Name=(a.getD b.toNat dm).Name)=true then some (.inl false)
 else nb (a,b,aM .i64 k 1)
 else none
 else none
 else some (.inr (a,b))
  partial_fixpoint
theorem Ur:ck 251 0 [0,0] K8 nb:= .rx nb.partial_correctness
def o0(g:List dc×Int×Int):Option ((Bool) ⊕ (List dc)):=
 match g with
 |(a,c,i)=>
 if decide (i<(a.length:Int))=true then if aB i a.length=true then xp (c,(a.getD i.toNat dm).af)>>=λr=>some (!r)>>=λt19=>if(aB i a.length||(!(!t19)))=true then (if(!t19)=true then r4 (a.getD i.toNat dm).Name else some false)>>=λf=>if(bif t19 then true else(!f))=true then some (.inl false)
 else nb (a,i,0)>>=λd=>match d with
 |.inl e=>
 some (.inl e)
 |.inr b=>
 if aB b.2 b.1.length=true then o0 (b.1,(b.1.getD b.2.toNat dm).af,aM .i64 b.2 1)
 else none
 else none
 else none
 else some (.inr a)
  partial_fixpoint
theorem TL:ck 251 0 [0] Nz o0:= .rx o0.partial_correctness (.k QV (.k Ft .n)) (.k Ur .n)
def xI(l:List dc):Option (Bool):=
 o0 (l,0,0)>>=λo=>match o with
 |.inl b=>
 some b
 |.inr a=>
 some (bif decide (1<=(a.length:Int))then decide ((a.length:Int)<=16)else false)
theorem UU:bd aeD xI:= .bt .n (.k TL .n)
def nc(e:List aO×Bool×Int×Int×aO):Option ((Bool) ⊕ (List aO×Bool×Int×aO)):=
 match e with
 |(b,d,c,k,a)=>
 if decide (k<c)=true then if aB k b.length=true then if decide ((b.getD k.toNat au).Name=a.Name)=true then some (.inl false)
 else nc (b,d,c,aM .i64 k 1,(⟨a.af,a.Name,a.av,a.bQ,a.bD,I.eta a.bk⟩:aO))
 else none
 else some (.inr (b,d,c,(⟨a.af,a.Name,a.av,a.bQ,a.bD,I.eta a.bk⟩:aO)))
  partial_fixpoint
theorem Us:ck 252 0 [0,0] K9 nc:= .rx nc.partial_correctness
def o1(l:List aO×Bool×Int×Int):Option ((Bool) ⊕ (List aO×Bool)):=
 match l with
 |(b,d,e,i)=>
 if decide (i<(b.length:Int))=true then if aB i b.length=true then some (b.getD i.toNat au)>>=λa=>xp (e,a.af)>>=λr=>some (!r)>>=λt23=>(if(!t23)=true then r4 a.Name else some false)>>=λj=>if(bif bif bif t23 then true else(!j)then true else bif a.bQ then a.bD else false then true else bif (!d)then bif a.bQ then true else a.bD else false)=true then some (.inl false)
 else some (!a.bD)>>=λt52=>(if t52=true then jG (I.eta a.bk,(⟨0,false,0,[],0,[],[],[]⟩:I))else some false)>>=λk=>if(bif t52 then(!k)else false)=true then some (.inl false)
 else nc (b,d,i,0,(⟨a.af,a.Name,a.av,a.bQ,a.bD,I.eta a.bk⟩:aO))>>=λf=>match f with
 |.inl g=>
 some (.inl g)
 |.inr c=>
 o1 (c.1,c.2.1,c.2.2.2.af,aM .i64 c.2.2.1 1)
 else none
 else some (.inr (b,d))
  partial_fixpoint
theorem TM:ck 252 0 [0] NA o1:= .rx o1.partial_correctness (.k QV (.k Ft (.k xz .n))) (.k Us .n)
def uo(c:List aO×Bool):Option (Bool):=
 match c with
 |(l,record)=>
 o1 (l,record,0,0)>>=λo=>match o with
 |.inl b=>
 some b
 |.inr a=>
 some (bif decide ((a.1.length:Int)<=16)then bif a.2 then true else decide (1<=(a.1.length:Int))else false)
theorem UW:bd aeE uo:= .bt .n (.k TM .n)
def hg(t:ah):Option (Bool):=
 some (bif decide (t.Kind<1)then true else decide (9<t.Kind))>>=λt10=>(if(!t10)=true then mf t else some ar)>>=λr=>(if(!t10)=true then BE (t,r)else some false)>>=λc=>some (bif t10 then true else(!c))>>=λt17=>(if(!t17)=true then jH t.Kind else some false)>>=λa=>(if((!t17)&&a)=true then r4 t.Name else some false)>>=λd=>if(bif t17 then true else bif a then(!d)else false)=true then some false
 else if decide (t.Kind=2)=true then some (decide (t.bz<=t.bx))
 else if decide (t.Kind=3)=true then some (bif decide (0<=t.Max)then decide (t.Max<=200)else false)
 else if decide (t.Kind=4)=true then xI t.a7>>=λe=>some e
 else some (decide (t.Kind=5))>>=λt54=>if t54=true then if t54=true then uo (t.ae,decide (t.Kind=5))>>=λf=>some f
 else some (decide (t.Kind=7))>>=λt63=>if t63=true then if t63=true then some (bif decide (0<=t.Max)then decide (t.Max<=50)else false)
 else some true
 else if decide (t.Kind=8)=true then some (bif decide (0<=t.Max)then decide (t.Max<=50)else false)
 else some true
 else if decide (t.Kind=6)=true then uo (t.ae,decide (t.Kind=5))>>=λg=>some g
 else some (decide (t.Kind=7))>>=λb=>if b=true then if b=true then some (bif decide (0<=t.Max)then decide (t.Max<=50)else false)
 else some true
 else if decide (t.Kind=8)=true then some (bif decide (0<=t.Max)then decide (t.Max<=50)else false)
 else some true
theorem WO:bd aet hg:= .bt (.k Vu (.k UH (.k Fu (.k Ft (.k UU (.k UW .n))))))
def r3(c:Int×ah×List Int):Option (ah×List Int):=
 match c with
 |(i,a,b)=>
 if decide (i<(a.ae.length:Int))=true then if aB i a.ae.length=true then some [(a.ae.getD i.toNat au).av]>>=λt19=>if room 8 (b++t19).length=true then r3 (aM .i64 i 1,a,b++t19)
 else none
 else none
 else some (a,b)
  partial_fixpoint
theorem UX:ck 222 0 [0] NB r3:= .rx r3.partial_correctness
def Bl(t:ah):Option (List Int):=
 r3 (0,t,[])>>=λo=>if decide (o.1.Kind=8)=true then some [o.1.Key]>>=λt27=>if room 8 (o.2++t27).length=true then some (o.2++t27)>>=λl=>if(bif bif decide (o.1.Kind=7)then true else decide (o.1.Kind=8)then true else decide (o.1.Kind=9))=true then some [o.1.aH]>>=λt45=>if room 8 (l++t45).length=true then some (l++t45)
 else none
 else some l
 else none
 else if(bif bif decide (o.1.Kind=7)then true else decide (o.1.Kind=8)then true else decide (o.1.Kind=9))=true then some [o.1.aH]>>=λa=>if room 8 (o.2++a).length=true then some (o.2++a)
 else none
 else some o.2
theorem Vl:bd aeu Bl:= .bt .n (.k UX .n)
def nh(p:Int×Int×List ah×Int×List UInt8×Int×Int×Int×List dc×List aO×Int×Int×Bool):Option ((Int) ⊕ (Int×List ah×Int×List UInt8×Int×Int×Int×List dc×List aO×Int×Int×Bool)):=
 match p with
 |(d,k,a,b,c,e,f,g,i,j,l,m,n)=>
 if decide (k<d)=true then jH b>>=λo=>if(aB k a.length||(!o))=true then if(bif o then decide ((a.getD k.toNat ar).Name=c)else false)=true then some (.inl 1)
 else nh (d,aM .i64 k 1,a,b,c,e,f,g,i,j,l,m,n)
 else none
 else some (.inr (d,a,b,c,e,f,g,i,j,l,m,n))
  partial_fixpoint
theorem UZ:ck 176 0 [0,0] K' nh:= .rx nh.partial_correctness (.k Fu .n)
def qg(p:Int×List Int×Int×List ah×Int×List UInt8×Int×Int×Int×List dc×List aO×Int×Int×Bool):Option ((Int) ⊕ (Int×List ah×Int×List UInt8×Int×Int×Int×List dc×List aO×Int×Int×Bool)):=
 match p with
 |(o,l,a,b,c,d,e,f,g,i,j,k,m,n)=>
 if decide (a<(l.length:Int))=true then if aB a l.length=true then some (decide (l.getD a.toNat 0<0))>>=λt58=>if(aB a l.length||(!(!t58)))=true then if(bif t58 then true else decide ((b.length:Int)<=l.getD a.toNat 0))=true then some (.inl 4)
 else qg (o,l,aM .i64 a 1,b,c,d,e,f,g,i,j,k,m,n)
 else none
 else none
 else some (.inr (o,b,c,d,e,f,g,i,j,k,m,n))
  partial_fixpoint
theorem U0:ck 176 0 [1,0] La qg:= .rx qg.partial_correctness
def qo(m:Int×List ah):Option ((Int) ⊕ (Unit)):=
 match m with
 |(i,b)=>
 if decide (i<(b.length:Int))=true then if aB i b.length=true then some (b.getD i.toNat ar)>>=λc=>hg c>>=λr=>if(!r)=true then some (.inl 1)
 else nh (i,0,b,c.Kind,c.Name,c.bz,c.bx,c.Max,c.a7,c.ae,c.Key,c.aH,c.Open)>>=λe=>match e with
 |.inl f=>
 some (.inl f)
 |.inr a=>
 Bl (⟨a.2.2.1,a.2.2.2.1,a.2.2.2.2.1,a.2.2.2.2.2.1,a.2.2.2.2.2.2.1,a.2.2.2.2.2.2.2.1,a.2.2.2.2.2.2.2.2.1,a.2.2.2.2.2.2.2.2.2.1,a.2.2.2.2.2.2.2.2.2.2.1,a.2.2.2.2.2.2.2.2.2.2.2⟩:ah)>>=λk=>qg (a.1,k,0,a.2.1,a.2.2.1,a.2.2.2.1,a.2.2.2.2.1,a.2.2.2.2.2.1,a.2.2.2.2.2.2.1,a.2.2.2.2.2.2.2.1,a.2.2.2.2.2.2.2.2.1,a.2.2.2.2.2.2.2.2.2.1,a.2.2.2.2.2.2.2.2.2.2.1,a.2.2.2.2.2.2.2.2.2.2.2)>>=λg=>match g with
 |.inl j=>
 some (.inl j)
 |.inr d=>
 some (decide (d.2.2.1=8))>>=λt71=>if(aB d.2.2.2.2.2.2.2.2.2.1 d.2.1.length||(!t71))=true then (if t71=true then xF (d.2.1.getD d.2.2.2.2.2.2.2.2.2.1.toNat ar).Kind else some false)>>=λl=>if(bif t71 then(!l)else false)=true then some (.inl 1)
 else qo (aM .i64 d.1 1,d.2.1)
 else none
 else none
 else some (.inr ())
  partial_fixpoint
theorem UI:ck 176 0 [0] NC qo:= .rx qo.partial_correctness (.k WO (.k Vl (.k Rt .n))) (.k UZ (.k U0 .n))
def rJ(s:bh):Option (Int):=
 if decide (32<(s.Types.length:Int))=true then some 3
 else qo (0,s.Types)>>=λo=>match o with
 |.inl a=>
 some a
 |.inr b=>
 some 0
theorem Q2:bd aek rJ:= .bt .n (.k UI .n)
def sD(v:I):Option (Bool):=
 some (bif bif bif bif bif bif bif decide (v.Kind=1)then true else(!v.b')then bif decide (v.Kind=2)then true else decide (v.bq=0)else false then bif decide (v.Kind=3)then true else decide (v.bA=[])else false then bif bif decide (v.Kind=4)then true else decide (v.Kind=6)then true else decide (v.af=0)else false then bif decide (v.Kind=8)then true else decide ((v.aE.length:Int)=0)else false then bif decide (5<=v.Kind)then true else decide ((v.al.length:Int)=0)else false then bif bif decide (v.Kind=5)then true else decide (v.Kind=6)then true else decide ((v.Rest.length:Int)=0)else false)
theorem Vm:bd aeM sD:= .bt
def iX(b:Int×Bool):Option (Bool):=
 match b with
 |(n,a)=>
 some (bif bif (!a)then decide (1<=n)else false then decide (n<=1000)else false)
theorem QW:bd aeN iX:= .bt
def lC(d:List cF×Int×ah):Option ((Bool) ⊕ (Unit)):=
 match d with
 |(a,i,b)=>
 if decide (i<(a.length:Int))=true then if aB i a.length=true then mC (b,(a.getD i.toNat b8).af)>>=λr=>if aB i a.length=true then iX ((a.getD i.toNat b8).af,r.2)>>=λc=>some (!c)>>=λt31=>some (decide (0<i))>>=λt34=>if(aB i a.length||(!((!t31)&&t34)))=true then some (c' .i64 i 1)>>=λt43=>if(aB t43 a.length||(!((!t31)&&t34)))=true then if(bif t31 then true else bif t34 then decide ((a.getD i.toNat b8).af<=(a.getD t43.toNat b8).af)else false)=true then some (.inl false)
 else lC (a,aM .i64 i 1,b)
 else none
 else none
 else none
 else none
 else some (.inr ())
  partial_fixpoint
theorem UY:ck 272 0 [0] ND lC:= .rx lC.partial_correctness (.k xD (.k QW .n))
def sE(b:ah×List cF):Option (Bool):=
 match b with
 |(t,l)=>
 lC (l,0,t)>>=λo=>match o with
 |.inl a=>
 some a
 |.inr c=>
 some true
theorem Vn:bd aeO sE:= .bt .n (.k UY .n)
def jk(d:Int×I):Option ((Bool) ⊕ (Unit)):=
 match d with
 |(b,a)=>
 if decide (b<(a.aE.length:Int))=true then some (c' .i64 b 1)>>=λt270=>if aB t270 a.aE.length=true then if aB b a.aE.length=true then nI (I.eta (a.aE.getD t270.toNat aK),I.eta (a.aE.getD b.toNat aK))>>=λc=>if decide (0<=c)=true then some (.inl false)
 else jk (aM .i64 b 1,I.eta a)
 else none
 else none
 else some (.inr ())
  partial_fixpoint
theorem VU:ck 253 0 [1] NF jk:= .rx jk.partial_correctness (.k BC .n)
mutual
def nS(c:bh×Int×List I×Bool):Option (Bool):=
 match c with
 |(s,t,l,plain)=>
 me (t,l,plain,0,s.Types)>>=λo=>match o with
 |.inl q=>
 some q
 |.inr K=>
 some true
  partial_fixpoint
def iB(c:bh×Int×I×Bool):Option (Bool):=
 match c with
 |(s,t,v,plain)=>
 if(bif decide (t<0)then true else decide ((s.Types.length:Int)<=t))=true then some false
 else if aB t s.Types.length=true then some (s.Types.getD t.toNat ar)>>=λa=>some (!(decide (v.Kind=a.Kind)))>>=λt34=>(if(!t34)=true then sD (I.eta v)else some false)>>=λr=>if(bif bif t34 then true else(!r)then true else bif plain then decide (0<(v.Rest.length:Int))else false)=true then some false
 else if decide (a.Kind=1)=true then some true
 else if decide (a.Kind=2)=true then some (bif decide (a.bz<=v.bq)then decide (v.bq<=a.bx)else false)
 else if decide (a.Kind=3)=true then some (decide ((v.bA.length:Int)<=a.Max))
 else if decide (a.Kind=4)=true then xa (a,v.af)>>=λw=>some (bif a.Open then(!plain)else false)>>=λt91=>(if((!w.2)&&t91)=true then iX (v.af,w.2)else some false)>>=λU=>some (bif w.2 then true else bif t91 then U else false)
 else if decide (a.Kind=5)=true then some (!(decide ((v.al.length:Int)=(a.ae.length:Int))))>>=λt107=>(if(!t107)=true then sE (a,v.Rest)else some false)>>=λW=>if(bif t107 then true else(!W))=true then some false
 else kY (plain,0,s.Types,I.eta v,a.Kind,a.Name,a.bz,a.bx,a.Max,a.a7,a.ae,a.Key,a.aH,a.Open)>>=λo=>match o with
 |.inl q=>
 some q
 |.inr K=>
 some true
 else if decide (a.Kind=6)=true then mC (a,v.af)>>=λj=>if j.2=true then some (bif decide ((v.al.length:Int)=1)then decide ((v.Rest.length:Int)=0)else false)>>=λt156=>if(aB j.1 a.ae.length||(!t156))=true then if(aB 0 v.al.length||(!t156))=true then (if t156=true then iB (s,(a.ae.getD j.1.toNat au).av,I.eta (v.al.getD (0:Int).toNat aK),plain)else some false)>>=λX=>some (bif t156 then X else false)
 else none
 else none
 else some (bif a.Open then(!plain)else false)>>=λt177=>(if t177=true then iX (v.af,j.2)else some false)>>=λN=>some (bif bif bif t177 then N else false then decide ((v.al.length:Int)=0)else false then decide ((v.Rest.length:Int)=1)else false)>>=λt195=>if(aB 0 v.Rest.length||(!t195))=true then some (bif t195 then decide ((v.Rest.getD (0:Int).toNat b8).af=v.af)else false)
 else none
 else if decide (a.Kind=7)=true then some (decide ((v.al.length:Int)<=a.Max))>>=λt213=>(if t213=true then nS (s,a.aH,v.al,plain)else some false)>>=λO=>some (bif t213 then O else false)
 else if decide (a.Kind=8)=true then some (bif decide (a.Max<(v.aE.length:Int))then true else(!(decide ((v.al.length:Int)=(v.aE.length:Int)))))>>=λt239=>(if(!t239)=true then nS (s,a.Key,v.aE,plain)else some false)>>=λP=>some (bif t239 then true else(!P))>>=λt249=>(if(!t249)=true then nS (s,a.aH,v.al,plain)else some false)>>=λQ=>if(bif t249 then true else(!Q))=true then some false
 else jk (1,I.eta v)>>=λL=>match L with
 |.inl M=>
 some M
 |.inr Y=>
 some true
 else some (decide ((v.al.length:Int)<=1))>>=λt283=>(if t283=true then nS (s,a.aH,v.al,plain)else some false)>>=λR=>some (bif t283 then R else false)
 else none
  partial_fixpoint
def me(c:Int×List I×Bool×Int×List ah):Option ((Bool) ⊕ (Unit)):=
 match c with
 |(x,g,e,i,b)=>
 if decide (i<(g.length:Int))=true then if aB i g.length=true then iB ((⟨b⟩:bh),x,I.eta (g.getD i.toNat aK),e)>>=λr=>if(!r)=true then some (.inl false)
 else me (x,g,e,aM .i64 i 1,b)
 else none
 else some (.inr ())
  partial_fixpoint
def kY(c:Bool×Int×List ah×I×Int×List UInt8×Int×Int×Int×List dc×List aO×Int×Int×Bool):Option ((Bool) ⊕ (Unit)):=
 match c with
 |(e,i,b,f,B,D,E,F,G,H,p,J,y,A)=>
 if decide (i<(f.al.length:Int))=true then if aB i p.length=true then if aB i f.al.length=true then iB ((⟨b⟩:bh),(p.getD i.toNat au).av,I.eta (f.al.getD i.toNat aK),e)>>=λS=>if(!S)=true then some (.inl false)
 else kY (e,aM .i64 i 1,b,I.eta f,B,D,E,F,G,H,p,J,y,A)
 else none
 else none
 else some (.inr ())
  partial_fixpoint
end
theorem Vw:eD DT nS/\eX 273 0 [0] yV me/\eD tV iB/\eX 253 0 [0] yW kY:=nS.mutual_partial_correctness (ez DT) (eW 273 0 [0] yV) (ez tV) (eW 253 0 [0] yW)
 (λ_ h1 _ _ h=>eH h .n (.k (fa yV h1) .n))
 (λ_ _ h1 a _ _ h=>e' yV h1 h (.k (cB tV a) .n))
 (λ_ _ _ h0 a b _ _ h=>eH h (.k Vm (.k Rw (.k QW (.k Vn (.k xD (.k (cB tV a) (.k (cB DT h0) .n))))))) (.k (fa yW b) (.k VU .n)))
 (λ_ _ a b _ _ h=>e' yW b h (.k (cB tV a) .n))
theorem WQ:bd tV iB:=cB _ Vw.2.2.1
def Be(a:bh×Int×I):Option (Bool):=
 match a with
 |(s,t,v)=>
 iB (s,t,I.eta v,true)>>=λr=>some r
theorem Vx:bd aev Be:= .bt (.k WQ .n)
def na(e:Int×List aO×Int×List ah):Option ((Int×Int×Int) ⊕ (Int×List ah)):=
 match e with
 |(c,l,i,b)=>
 if decide (i<(l.length:Int))=true then if aB i l.length=true then some (l.getD i.toNat au)>>=λa=>if(aB i l.length||(!a.bD))=true then if(aB i l.length||(!a.bD))=true then (if a.bD=true then Be ((⟨b⟩:bh),(l.getD i.toNat au).av,I.eta (l.getD i.toNat au).bk)else some false)>>=λd=>if(bif a.bD then(!d)else false)=true then if aB i l.length=true then some (.inl (c,(l.getD i.toNat au).af,1))
 else none
 else na (c,l,aM .i64 i 1,b)
 else none
 else none
 else none
 else some (.inr (c,b))
  partial_fixpoint
theorem Uo:ck 177 0 [0,0] Lb na:= .rx na.partial_correctness (.k Vx .n)
def nd(e:Int×List ah):Option ((Int×Int×Int) ⊕ (Unit)):=
 match e with
 |(t,b)=>
 if decide (t<(b.length:Int))=true then if aB t b.length=true then na (t,(b.getD t.toNat ar).ae,0,b)>>=λd=>match d with
 |.inl a=>
 some (.inl (a.1,a.2.1,a.2.2))
 |.inr c=>
 nd (aM .i64 c.1 1,c.2)
 else none
 else some (.inr ())
  partial_fixpoint
theorem T3:ck 177 0 [0] NG nd:= .rx nd.partial_correctness .n (.k Uo .n)
def BF(s:bh):Option (Int×Int×Int):=
 rJ s>>=λr=>if(!(decide (r=0)))=true then some (0,0,r)
 else nd (0,s.Types)>>=λo=>match o with
 |.inl a=>
 some (a.1,a.2.1,a.2.2)
 |.inr b=>
 some (0,0,0)
theorem UJ:bd ael BF:= .bt (.k Q2 .n) (.k T3 .n)
def rK(s:bh):Option (Int):=
 rJ s>>=λr=>if(!(decide (r=0)))=true then some r
 else BF s>>=λa=>some a.2.2
theorem Q3:bd aea rK:= .bt (.k Q2 (.k UJ .n))
def qp(e:Int×Int×List Int×ah):Option (Int×List Int):=
 match e with
 |(d,i,a,b)=>
 if decide (i<(b.ae.length:Int))=true then if aB i b.ae.length=true then some (b.ae.getD i.toNat au)>>=λc=>if aB c.av a.length=true then if decide (c.av.toNat<a.length)=true then qp (dD 2 (iq .i64 d (a.getD c.av.toNat 0)),aM .i64 i 1,a,b)
 else none
 else none
 else none
 else some (d,a)
  partial_fixpoint
theorem UK:ck 178 1 [0] NH qp:= .rx qp.partial_correctness
def qq(f:Int×Int×List Int×ah):Option (Int×List Int):=
 match f with
 |(e,c,a,b)=>
 if decide (c<(b.ae.length:Int))=true then if aB c b.ae.length=true then some (b.ae.getD c.toNat au)>>=λd=>if aB d.av a.length=true then if decide (d.av.toNat<a.length)=true then qq (dD 2 (aM .i64 e (a.getD d.av.toNat 0)),aM .i64 c 1,a,b)
 else none
 else none
 else none
 else some (e,a)
  partial_fixpoint
theorem UL:ck 178 1 [1] NI qq:= .rx qq.partial_correctness
def Bf(e:ah×List Int):Option (Int×List Int):=
 match e with
 |(a,b)=>
 if decide (a.Kind=2)=true then if decide (a.bz=a.bx)=true then some (1,b)
 else some (2,b)
 else if decide (a.Kind=3)=true then if decide (a.Max=0)=true then some (1,b)
 else some (2,b)
 else if decide (a.Kind=4)=true then some (dD 2 (a.a7.length:Int),b)
 else if decide (a.Kind=5)=true then qp (1,0,b,a)>>=λo=>some (o.1,o.2)
 else if decide (a.Kind=6)=true then qq (0,0,b,a)>>=λd=>some (d.1,d.2)
 else some (decide (a.Kind=7))>>=λt74=>if t74=true then if t74=true then some (decide (a.Max=0))>>=λt78=>if(aB a.aH b.length||(!(!t78)))=true then if(decide (a.aH.toNat<b.length)||(!(!t78)))=true then if(bif t78 then true else decide (b.getD a.aH.toNat 0=0))=true then some (1,b)
 else some (2,b)
 else none
 else none
 else if decide (a.Kind=9)=true then if aB a.aH b.length=true then if decide (a.aH.toNat<b.length)=true then some (dD 2 (aM .i64 1 (b.getD a.aH.toNat 0)),b)
 else none
 else none
 else some (2,b)
 else if decide (a.Kind=8)=true then some (decide (a.Max=0))>>=λc=>if(aB a.aH b.length||(!(!c)))=true then if(decide (a.aH.toNat<b.length)||(!(!c)))=true then if(bif c then true else decide (b.getD a.aH.toNat 0=0))=true then some (1,b)
 else some (2,b)
 else none
 else none
 else if decide (a.Kind=9)=true then if aB a.aH b.length=true then if decide (a.aH.toNat<b.length)=true then some (dD 2 (aM .i64 1 (b.getD a.aH.toNat 0)),b)
 else none
 else none
 else some (2,b)
theorem Vy:bd aem Bf:= .bt .n (.k UK (.k UL .n))
def qc(d:Int×Int×List ah×List Int):Option (Int×List ah×List Int):=
 match d with
 |(c,i,a,b)=>
 if decide (i<(a.length:Int))=true then if aB i a.length=true then Bf (a.getD i.toNat ar,b)>>=λr=>if(decide (r.2.length=b.length)&&true)=true then if aB i r.2.length=true then if decide (i.toNat<r.2.length)=true then qc (c,aM .i64 i 1,a,r.2.set i.toNat r.1)
 else none
 else none
 else none
 else none
 else some (c,a,b)
  partial_fixpoint
theorem T4:ck 138 0 [0,0] Lc qc:= .rx qc.partial_correctness (.k Vy .n)
def qk(e:Int×List ah×List Int):Option (List Int):=
 match e with
 |(d,b,c)=>
 if decide (d<=iq .i64 2 (b.length:Int))=true then qc (d,0,b,c)>>=λa=>qk (aM .i64 a.1 1,a.2.1,a.2.2)
 else some c
  partial_fixpoint
theorem Vg:ck 138 0 [0] NJ qk:= .rx qk.partial_correctness .n (.k T4 .n)
def Ba(s:bh):Option (List Int):=
 some (s.Types.length:Int)>>=λt8=>if pB 8 t8=true then qk (0,s.Types,List.replicate t8.toNat 0)>>=λo=>some o
 else none
theorem VV:bd aeb Ba:= .bt .n (.k Vg .n)
def rY(b:List Int×Int×List Bool):Option (List Bool):=
 match b with
 |(n,i,a)=>
 if decide (i<(n.length:Int))=true then if aB i n.length=true then some [decide (0<n.getD i.toNat 0)]>>=λt27=>if room 1 (a++t27).length=true then rY (n,aM .i64 i 1,a++t27)
 else none
 else none
 else some a
  partial_fixpoint
theorem Vh:ck 80 0 [0] Ps rY:= .rx rY.partial_correctness
def FB(s:bh):Option (List Bool×Int):=
 rK s>>=λr=>if(!(decide (r=0)))=true then some ([],r)
 else Ba s>>=λa=>rY (a,0,[])>>=λo=>some (o,0)
theorem VW:bd afa FB:= .bt (.k Q3 (.k VV .n)) (.k Vh .n)
def r0(a:List Bool×Int):Option ((Int) ⊕ (Unit)):=
 match a with
 |(l,i)=>
 if decide (i<(l.length:Int))=true then if aB i l.length=true then if(!(l.getD i.toNat false))=true then some (.inl 10)
 else r0 (l,aM .i64 i 1)
 else none
 else some (.inr ())
  partial_fixpoint
theorem UM:ck 39 0 [0] O1 r0:= .rx r0.partial_correctness
def Bg(s:bh):Option (Int):=
 FB s>>=λr=>if(!(decide (r.2=0)))=true then some r.2
 else r0 (r.1,0)>>=λo=>match o with
 |.inl a=>
 some a
 |.inr b=>
 some 0
theorem Vz:bd aeY Bg:= .bt (.k VW .n) (.k UM .n)
def Bh(a:bh×Int):Option (Int):=
 match a with
 |(s,t)=>
 Bg s>>=λr=>if(!(decide (r=0)))=true then some r
 else if(bif decide (t<0)then true else decide ((s.Types.length:Int)<=t))=true then some 4
 else some 0
theorem VA:bd aej Bh:= .bt (.k Vz .n)
def ur(c:Int×List UInt8):Option (List UInt8):=
 match c with
 |(a,b)=>
 if decide (0<a)=true then some (strOf [bW .u8 (cg a 256)])>>=λt10=>if decide (t10.length+b.length<=dK)=true then ur (fY .u64 a 256,t10++b)
 else none
 else some b
  partial_fixpoint
theorem VX:ck 42 0 [0] O6 ur:= .rx ur.partial_correctness
def oH(n:Int):Option (List UInt8):=
 ur (n,[])>>=λo=>some o
theorem Bi:bd ae1 oH:= .bt .n (.k VX .n)
def qd(e:Int×Int×ah×List aY):Option (Int×ah×List aY):=
 match e with
 |(c,i,a,b)=>
 if(bif decide (i<=a.bx)then decide ((b.length:Int)<=3000)else false)=true then pc i>>=λr=>oH r>>=λd=>if decide (c<(d.length:Int))=true then some (c,a,b)
 else some [(⟨(⟨a.Kind,false,i,[],0,[],[],[]⟩:I),d⟩:aY)]>>=λt38=>if room 136 (b++t38).length=true then some (b++t38)>>=λl=>if decide (i=a.bx)=true then some (c,a,l)
 else qd (c,aM .i64 i 1,a,l)
 else none
 else some (c,a,b)
  partial_fixpoint
theorem T5:ck 40 0 [0] O3 qd:= .rx qd.partial_correctness (.k BD (.k Bi .n))
def qe(i:Int×Int×ah×List aY):Option (List aY):=
 match i with
 |(e,b,c,a)=>
 if(bif decide (c.bz<=b)then decide ((a.length:Int)<=3000)else false)=true then pc b>>=λg=>oH g>>=λf=>if decide (e<(f.length:Int))=true then some a
 else some [(⟨(⟨c.Kind,false,b,[],0,[],[],[]⟩:I),f⟩:aY)]>>=λt72=>if room 136 (a++t72).length=true then some (a++t72)>>=λd=>if decide (b=c.bz)=true then some d
 else qe (e,c' .i64 b 1,c,d)
 else none
 else some a
  partial_fixpoint
theorem T6:ck 40 0 [1] O4 qe:= .rx qe.partial_correctness (.k BD (.k Bi .n))
def BG(c:ah×Int):Option (List aY):=
 match c with
 |(a,n)=>
 qd (n,ki a.bz 0,a,[])>>=λo=>qe (o.1,dD o.2.1.bx (-1),o.2.1,o.2.2)>>=λb=>some b
theorem UN:bd aeZ BG:= .bt .n (.k T5 (.k T6 .n))
def p9(f:Int×Int×Int×ah×List aY):Option (Int×Int×ah×List aY):=
 match f with
 |(e,b,c,d,a)=>
 if decide (c<256)=true then if aB b a.length=true then if decide (b.toNat<a.length)=true then some (a.getD b.toNat dU).P>>=λt44=>some (strOf [bW .u8 c])>>=λt48=>if decide (t44.length+t48.length<=dK)=true then some (t44++t48)>>=λt49=>some [(⟨(⟨d.Kind,false,0,t49,0,[],[],[]⟩:I),t49⟩:aY)]>>=λt57=>if room 136 (a++t57).length=true then p9 (e,b,aM .i64 c 1,d,a++t57)
 else none
 else none
 else none
 else none
 else some (e,b,d,a)
  partial_fixpoint
theorem Ut:ck 41 0 [0,0] LA p9:= .rx p9.partial_correctness
def ni(e:Int×Int×ah×List aY):Option (List aY):=
 match e with
 |(d,i,c,a)=>
 if(bif decide (i<(a.length:Int))then decide ((a.length:Int)<=3000)else false)=true then if aB i a.length=true then if decide (i.toNat<a.length)=true then if decide (((a.getD i.toNat dU).P.length:Int)=dD d c.Max)=true then ni (d,aM .i64 i 1,c,a)
 else p9 (d,i,0,c,a)>>=λb=>ni (b.1,aM .i64 b.2.1 1,b.2.2.1,b.2.2.2)
 else none
 else none
 else some a
  partial_fixpoint
theorem U1:ck 41 0 [0] O5 ni:= .rx ni.partial_correctness .n (.k Ut .n)
def BJ(b:ah×Int):Option (List aY):=
 match b with
 |(a,n)=>
 ni (n,0,a,[(⟨(⟨a.Kind,false,0,[],0,[],[],[]⟩:I),[]⟩:aY)])>>=λo=>some o
theorem Uu:bd ae0 BJ:= .bt .n (.k U1 .n)
def nO(a:I×I):Option (I):=
 match a with
 |(v,item)=>
 if room 120 ([]++v.al).length=true then some ([]++v.al)>>=λl=>some [I.eta item]>>=λt10=>if room 120 (l++t10).length=true then some (⟨v.Kind,v.b',v.bq,v.bA,v.af,v.aE,l++t10,v.Rest⟩:I)
 else none
 else none
theorem uu:bd ae2 nO:= .bt
def uv(c:Int×List Int):Option (Int×List Int):=
 match c with
 |(a,b)=>
 if decide (128<=a)=true then some [bW .u8 (aM .u64 (cg a 128) 128)]>>=λt11=>if room 1 (b++t11).length=true then uv (fY .u64 a 128,b++t11)
 else none
 else some (a,b)
  partial_fixpoint
theorem VY:ck 44 0 [0] O7 uv:= .rx uv.partial_correctness
def nT(n:Int):Option (List UInt8):=
 uv (n,[])>>=λo=>some [bW .u8 o.1]>>=λt18=>if room 1 (o.2++t18).length=true then some (strOf (o.2++t18))
 else none
theorem xh:bd ae3 nT:= .bt .n (.k VY .n)
def uz(p:List UInt8):Option (List UInt8):=
 nT (bW .u64 (p.length:Int))>>=λr=>if decide (r.length+p.length<=dK)=true then some (r++p)
 else none
theorem Rb:bd afc uz:= .bt (.k xh .n)
def o2(e:Int×Int×ah×List aY):Option (List aY):=
 match e with
 |(c,i,a,b)=>
 if decide (i<(a.a7.length:Int))=true then if aB i a.a7.length=true then oH (bW .u64 (a.a7.getD i.toNat dm).af)>>=λd=>if decide ((d.length:Int)<=c)=true then if aB i a.a7.length=true then some [(⟨(⟨a.Kind,false,0,[],(a.a7.getD i.toNat dm).af,[],[],[]⟩:I),d⟩:aY)]>>=λt87=>if room 136 (b++t87).length=true then o2 (c,aM .i64 i 1,a,b++t87)
 else none
 else none
 else o2 (c,aM .i64 i 1,a,b)
 else none
 else some b
  partial_fixpoint
theorem U2:ck 18 0 [0] OK o2:= .rx o2.partial_correctness (.k Bi .n)
def qh(g:List aY×Int×ah×List aY):Option (List aY):=
 match g with
 |(b,a,d,c)=>
 if decide (a<(b.length:Int))=true then if aB a b.length=true then nO ((⟨d.Kind,false,0,[],0,[],[],[]⟩:I),I.eta (b.getD a.toNat dU).V)>>=λf=>if aB a b.length=true then some (b.getD a.toNat dU)>>=λe=>if decide ([1].length+e.P.length<=dK)=true then some [(⟨I.eta f,[1]++e.P⟩:aY)]>>=λt127=>if room 136 (c++t127).length=true then qh (b,aM .i64 a 1,d,c++t127)
 else none
 else none
 else none
 else none
 else some c
  partial_fixpoint
theorem U3:ck 18 0 [1] OL qh:= .rx qh.partial_correctness (.k uu .n)
def p'(j:Int×Int×List UInt8×List aY×Int×List ah×ah×List aY):Option (Int×Int×List ah×ah×List aY):=
 match j with
 |(f,c,head,a,k,e,b,d)=>
 if decide (k<(a.length:Int))=true then if aB c b.ae.length=true then if aB k a.length=true then nO ((⟨b.Kind,false,0,[],(b.ae.getD c.toNat au).af,[],[],[]⟩:I),I.eta (a.getD k.toNat dU).V)>>=λi=>if aB k a.length=true then some (a.getD k.toNat dU)>>=λg=>if decide (head.length+g.P.length<=dK)=true then some [(⟨I.eta i,head++g.P⟩:aY)]>>=λt197=>if room 136 (d++t197).length=true then p' (f,c,head,a,aM .i64 k 1,e,b,d++t197)
 else none
 else none
 else none
 else none
 else none
 else some (f,c,e,b,d)
  partial_fixpoint
theorem TN:ck 18 0 [0,2] LF p':= .rx p'.partial_correctness (.k uu .n)
end
end Go.Proofs.YtfcnkdegapjgnaaGreatDoor
