/- The functions of the program as functions of Lean, that its code does what they say, and what they answer; part A. -/
import Derived.Test.YtopcfbelfjclmaaGreatDoorProg
import Derived.KernelRfl
import Derived.Shelf.SlGeneric
import Derived.Shelf.SlLaysF0
import Derived.Shelf.SlSortCmp.WholeK
import Derived.Lib.Small
import Derived.Test.YtopcfbelfjclmaaGreatDoorCkLD

namespace Go.Proofs.YtopcfbelfjclmaaGreatDoor
set_option linter.all false
section
open Go Go.Proofs.YtopcfbelfjclmaaGreatDoor.Shv
open Tryz
set_option maxRecDepth 100000
structure df where
 ai:Int
 aP:aq
structure ch where
 ai:Int
 bT:aq
structure ab where
 ae:Int
 ct:Bool
 bE:Int
 bZ:aq
 ai:Int
 a7:List ab
 aw:List ab
 aX:List ch
structure aU where
 ai:Int
 aP:aq
 aC:Int
 b4:Bool
 bH:Bool
 bm:ab
structure aj where
 ae:Int
 aP:aq
 br:Int
 bB:Int
 Max:Int
 bc:List df
 af:List aU
 aR:Int
 aF:Int
 bt:Bool
structure aT where
 bh:List aj
structure cv where
 dO:aT
 aC:Int
structure bn where
 cg:Int
 bY:Int
structure ha where
 nS:Bool
 fv:List bn
 kc:aq
structure gr where
 w:cv
 r:cv
structure gP where
 id:Int
 text:aq
structure cY where
 ai:Int
 b4:Bool
 bT:aq
structure jf where
 fb:az
 Cn:Int
structure dU where
 bX:ab
 fb:az
 cA:Bool
structure c2 where
 bX:ab
 dZ:jf
 cA:Bool
abbrev oA:Nat:=0
abbrev uv:Nat:=2
abbrev IE:Nat:=3
abbrev J0:Nat:=4
abbrev mj:Nat:=5
abbrev Fo:Nat:=6
abbrev E6:Nat:=7
def dV:df:=⟨0,[]⟩
def cj:ch:=⟨0,[]⟩
def aM:ab:=⟨0,false,0,[],0,[],[],[]⟩
def aH:aU:=⟨0,[],0,false,false,aM⟩
def aN:aj:=⟨0,[],0,0,0,[],[],0,0,false⟩
def Pn:aT:=⟨[]⟩
def KD:cv:=⟨Pn,0⟩
def dH:bn:=⟨0,0⟩
def adQ:ha:=⟨false,[],[]⟩
def aaq:gr:=⟨KD,KD⟩
def wo:gP:=⟨0,[]⟩
def dz:cY:=⟨0,false,[]⟩
def Oo:jf:=⟨[],0⟩
def YN:dU:=⟨aM,[],false⟩
def YO:c2:=⟨aM,Oo,false⟩
def hQ:Nat->Type
 |0=>cv
 |1=>aT
 |2=>aj
 |3=>df
 |4=>aU
 |5=>ab
 |6=>ch
 |7=>ha
 |8=>bn
 |9=>gr
 |10=>gP
 |11=>cY
 |12=>jf
 |13=>dU
 |14=>c2
 |_=>J
def jK:Nat->I aL
 |0=>[.slice (.nm 2),.int .i64]
 |1=>[.slice (.nm 2)]
 |2=>[.int .i64,.str,.int .i64,.int .i64,.int .i64,.slice (.nm 3),.slice (.nm 4),.int .i64,.int .i64,.bool]
 |3=>[.int .i64,.str]
 |4=>[.int .i64,.str,.int .i64,.bool,.bool,.int .i64,.bool,.int .i64,.str,.int .i64,.slice (.nm 5),.slice (.nm 5),.slice (.nm 6)]
 |5=>[.int .i64,.bool,.int .i64,.str,.int .i64,.slice (.nm 5),.slice (.nm 5),.slice (.nm 6)]
 |6=>[.int .i64,.str]
 |7=>[.bool,.slice (.nm 8),.str]
 |8=>[.int .i64,.int .i64]
 |9=>[.slice (.nm 2),.int .i64,.slice (.nm 2),.int .i64]
 |10=>[.int .i64,.str]
 |11=>[.int .i64,.bool,.str]
 |12=>[.slice (.int .i64),.int .i64]
 |13=>[.int .i64,.bool,.int .i64,.str,.int .i64,.slice (.nm 5),.slice (.nm 5),.slice (.nm 6),.slice (.int .i64),.bool]
 |14=>[.int .i64,.bool,.int .i64,.str,.int .i64,.slice (.nm 5),.slice (.nm 5),.slice (.nm 6),.slice (.int .i64),.int .i64,.bool]
 |_=>[.bool]
def akP:(n:Nat)->hQ n->I (bL hQ)
 |0,(x:cv)=>[⟨.slice (.nm 2),x.dO.bh⟩,⟨.int .i64,x.aC⟩]
 |1,(x:aT)=>[⟨.slice (.nm 2),x.bh⟩]
 |2,(x:aj)=>[⟨.int .i64,x.ae⟩,⟨.str,x.aP⟩,⟨.int .i64,x.br⟩,⟨.int .i64,x.bB⟩,⟨.int .i64,x.Max⟩,⟨.slice (.nm 3),x.bc⟩,⟨.slice (.nm 4),x.af⟩,⟨.int .i64,x.aR⟩,⟨.int .i64,x.aF⟩,⟨.bool,x.bt⟩]
 |3,(x:df)=>[⟨.int .i64,x.ai⟩,⟨.str,x.aP⟩]
 |4,(x:aU)=>[⟨.int .i64,x.ai⟩,⟨.str,x.aP⟩,⟨.int .i64,x.aC⟩,⟨.bool,x.b4⟩,⟨.bool,x.bH⟩,⟨.int .i64,x.bm.ae⟩,⟨.bool,x.bm.ct⟩,⟨.int .i64,x.bm.bE⟩,⟨.str,x.bm.bZ⟩,⟨.int .i64,x.bm.ai⟩,⟨.slice (.nm 5),x.bm.a7⟩,⟨.slice (.nm 5),x.bm.aw⟩,⟨.slice (.nm 6),x.bm.aX⟩]
 |5,(x:ab)=>[⟨.int .i64,x.ae⟩,⟨.bool,x.ct⟩,⟨.int .i64,x.bE⟩,⟨.str,x.bZ⟩,⟨.int .i64,x.ai⟩,⟨.slice (.nm 5),x.a7⟩,⟨.slice (.nm 5),x.aw⟩,⟨.slice (.nm 6),x.aX⟩]
 |6,(x:ch)=>[⟨.int .i64,x.ai⟩,⟨.str,x.bT⟩]
 |7,(x:ha)=>[⟨.bool,x.nS⟩,⟨.slice (.nm 8),x.fv⟩,⟨.str,x.kc⟩]
 |8,(x:bn)=>[⟨.int .i64,x.cg⟩,⟨.int .i64,x.bY⟩]
 |9,(x:gr)=>[⟨.slice (.nm 2),x.w.dO.bh⟩,⟨.int .i64,x.w.aC⟩,⟨.slice (.nm 2),x.r.dO.bh⟩,⟨.int .i64,x.r.aC⟩]
 |10,(x:gP)=>[⟨.int .i64,x.id⟩,⟨.str,x.text⟩]
 |11,(x:cY)=>[⟨.int .i64,x.ai⟩,⟨.bool,x.b4⟩,⟨.str,x.bT⟩]
 |12,(x:jf)=>[⟨.slice (.int .i64),x.fb⟩,⟨.int .i64,x.Cn⟩]
 |13,(x:dU)=>[⟨.int .i64,x.bX.ae⟩,⟨.bool,x.bX.ct⟩,⟨.int .i64,x.bX.bE⟩,⟨.str,x.bX.bZ⟩,⟨.int .i64,x.bX.ai⟩,⟨.slice (.nm 5),x.bX.a7⟩,⟨.slice (.nm 5),x.bX.aw⟩,⟨.slice (.nm 6),x.bX.aX⟩,⟨.slice (.int .i64),x.fb⟩,⟨.bool,x.cA⟩]
 |14,(x:c2)=>[⟨.int .i64,x.bX.ae⟩,⟨.bool,x.bX.ct⟩,⟨.int .i64,x.bX.bE⟩,⟨.str,x.bX.bZ⟩,⟨.int .i64,x.bX.ai⟩,⟨.slice (.nm 5),x.bX.a7⟩,⟨.slice (.nm 5),x.bX.aw⟩,⟨.slice (.nm 6),x.bX.aX⟩,⟨.slice (.int .i64),x.dZ.fb⟩,⟨.int .i64,x.dZ.Cn⟩,⟨.bool,x.cA⟩]
 |_+15,(x:J)=>[⟨.bool,x⟩]
def V3:(n:Nat)->I (bL hQ)->ag (hQ n)
 |0,l=>(a6.dec hQ (jK 0) l).map λ(a0,a1)=>(⟨(⟨a0⟩:aT),a1⟩:cv)
 |1,l=>(a6.dec hQ (jK 1) l).map λh=>(⟨h⟩:aT)
 |2,l=>(a6.dec hQ (jK 2) l).map λ(a0,a1,a2,a3,a4,a5,a,b,c,a9)=>(⟨a0,a1,a2,a3,a4,a5,a,b,c,a9⟩:aj)
 |3,l=>(a6.dec hQ (jK 3) l).map λ(a0,a1)=>(⟨a0,a1⟩:df)
 |4,l=>(a6.dec hQ (jK 4) l).map λ(a0,a1,a2,a3,a4,a5,a,b,c,a9,d,e,f)=>(⟨a0,a1,a2,a3,a4,(⟨a5,a,b,c,a9,d,e,f⟩:ab)⟩:aU)
 |5,l=>(a6.dec hQ (jK 5) l).map λ(a0,a1,a2,a3,a4,a5,a,b)=>(⟨a0,a1,a2,a3,a4,a5,a,b⟩:ab)
 |6,l=>(a6.dec hQ (jK 6) l).map λ(a0,a1)=>(⟨a0,a1⟩:ch)
 |7,l=>(a6.dec hQ (jK 7) l).map λ(a0,a1,a2)=>(⟨a0,a1,a2⟩:ha)
 |8,l=>(a6.dec hQ (jK 8) l).map λ(a0,a1)=>(⟨a0,a1⟩:bn)
 |9,l=>(a6.dec hQ (jK 9) l).map λ(a0,a1,a2,a3)=>(⟨(⟨(⟨a0⟩:aT),a1⟩:cv),(⟨(⟨a2⟩:aT),a3⟩:cv)⟩:gr)
 |10,l=>(a6.dec hQ (jK 10) l).map λ(a0,a1)=>(⟨a0,a1⟩:gP)
 |11,l=>(a6.dec hQ (jK 11) l).map λ(a0,a1,a2)=>(⟨a0,a1,a2⟩:cY)
 |12,l=>(a6.dec hQ (jK 12) l).map λ(a0,a1)=>(⟨a0,a1⟩:jf)
 |13,l=>(a6.dec hQ (jK 13) l).map λ(a0,a1,a2,a3,a4,a5,a,b,c,a9)=>(⟨(⟨a0,a1,a2,a3,a4,a5,a,b⟩:ab),c,a9⟩:dU)
 |14,l=>(a6.dec hQ (jK 14) l).map λ(a0,a1,a2,a3,a4,a5,a,b,c,a9,d)=>(⟨(⟨a0,a1,a2,a3,a4,a5,a,b⟩:ab),(⟨c,a9⟩:jf),d⟩:c2)
 |_+15,l=>(a6.dec hQ [.bool] l).map λ(h:J)=>h
def U1(x:df):I T:=[.int .i64 x.ai,.str x.aP]
def vI(x:ch):I T:=[.int .i64 x.ai,.str x.bT]
def ab.eta(x:ab):ab:=⟨x.ae,x.ct,x.bE,x.bZ,x.ai,x.a7,x.aw,x.aX⟩
theorem ab.bI(x:ab):x.eta=x:=by cases x;rfl
mutual
def lI:ab->I T
 |⟨a0,a1,a2,a3,a4,a5,a,c⟩=>[.int .i64 a0,.bool a1,.int .i64 a2,.str a3,.int .i64 a4,.slice (yM a5),.slice (yM a),.slice (c.map vI)]
def yM:I ab->I (I T)
 |[]=>[]
 |v::r=>lI v::yM r
end
theorem KU:∀l,yM l=l.map lI
 |[]=>rfl
 |v::r=>by simp only[yM,List.map];rw[KU r]
theorem adz(x:ab):lI x=[.int .i64 x.ae,.bool x.ct,.int .i64 x.bE,.str x.bZ,.int .i64 x.ai,.slice (x.a7.map lI),.slice (x.aw.map lI),.slice (x.aX.map vI)]:=by cases x;simp only[lI,KU]
def U0(x:aU):I T:=[.int .i64 x.ai,.str x.aP,.int .i64 x.aC,.bool x.b4,.bool x.bH,.int .i64 x.bm.ae,.bool x.bm.ct,.int .i64 x.bm.bE,.str x.bm.bZ,.int .i64 x.bm.ai,.slice (x.bm.a7.map lI),.slice (x.bm.aw.map lI),.slice (x.bm.aX.map vI)]
def yL(x:aj):I T:=[.int .i64 x.ae,.str x.aP,.int .i64 x.br,.int .i64 x.bB,.int .i64 x.Max,.slice (x.bc.map U1),.slice (x.af.map U0),.int .i64 x.aR,.int .i64 x.aF,.bool x.bt]
def ajk(x:aT):I T:=[.slice (x.bh.map yL)]
def ajj(x:cv):I T:=[.slice (x.dO.bh.map yL),.int .i64 x.aC]
def UZ(x:bn):I T:=[.int .i64 x.cg,.int .i64 x.bY]
def ajl(x:ha):I T:=[.bool x.nS,.slice (x.fv.map UZ),.str x.kc]
def ajf(x:gr):I T:=[.slice (x.w.dO.bh.map yL),.int .i64 x.w.aC,.slice (x.r.dO.bh.map yL),.int .i64 x.r.aC]
def ajg(x:gP):I T:=[.int .i64 x.id,.str x.text]
def aji(x:cY):I T:=[.int .i64 x.ai,.bool x.b4,.str x.bT]
def ajh(x:jf):I T:=[.slice (x.fb.map (λy=>[.int .i64 y])),.int .i64 x.Cn]
def ajn(x:dU):I T:=[.int .i64 x.bX.ae,.bool x.bX.ct,.int .i64 x.bX.bE,.str x.bX.bZ,.int .i64 x.bX.ai,.slice (x.bX.a7.map lI),.slice (x.bX.aw.map lI),.slice (x.bX.aX.map vI),.slice (x.fb.map (λy=>[.int .i64 y])),.bool x.cA]
def ajm(x:c2):I T:=[.int .i64 x.bX.ae,.bool x.bX.ct,.int .i64 x.bX.bE,.str x.bX.bZ,.int .i64 x.bX.ai,.slice (x.bX.a7.map lI),.slice (x.bX.aw.map lI),.slice (x.bX.aX.map vI),.slice (x.dZ.fb.map (λy=>[.int .i64 y])),.int .i64 x.dZ.Cn,.bool x.cA]
def akO:(n:Nat)->hQ n->I T
 |0,x=>ajj x
 |1,x=>ajk x
 |2,x=>yL x
 |3,x=>U1 x
 |4,x=>U0 x
 |5,x=>lI x
 |6,x=>vI x
 |7,x=>ajl x
 |8,x=>UZ x
 |9,x=>ajf x
 |10,x=>ajg x
 |11,x=>aji x
 |12,x=>ajh x
 |13,x=>ajn x
 |14,x=>ajm x
 |_+15,(x:J)=>[.bool x]
def bM:cM where
 D:=hQ
 mY:=λn=>match n with
  |0=>KD
  |1=>Pn
  |2=>aN
  |3=>dV
  |4=>aH
  |5=>aM
  |6=>cj
  |7=>adQ
  |8=>dH
  |9=>aaq
  |10=>wo
  |11=>dz
  |12=>Oo
  |13=>YN
  |14=>YO
  |_+15=>false
 jZ:=akP
 make:=V3
 dx:=jK
 bJ:=akO
 U3:=λn x=>match n,x with
  |0,_|1,_|2,_|3,_|4,_|6,_|7,_|8,_|9,_|10,_|11,_|12,_|13,_|14,_=>rfl
  |5,x=>adz x
  |_+15,_=>rfl
 mk_eq:=λn l x h=>match n,x,h with
  |0,x,h|1,x,h|2,x,h|3,x,h|4,x,h|5,x,h|6,x,h|7,x,h|8,x,h|9,x,h|10,x,h|11,x,h|12,x,h|13,x,h|14,x,h=>by
   obtain⟨_,a,rfl⟩:=oV.1 h;exact a6.mX a
  |_+15,x,h=>by
   obtain⟨_,a,rfl⟩:=oV.1 h;exact a6.mX a
 V2:=λn x=>match n,x with
  |0,_|1,_|2,_|3,_|4,_|5,_|6,_|7,_|8,_|9,_|10,_|11,_|12,_|13,_|14,_=>rfl
  |_+15,_=>rfl
 V1:=λe=>match e with
  |3=>some (.int .i64)
  |4=>some .bool
  |5=>some (.int .u8)
  |9=>some .str
  |34=>some (.nm 8)
  |41=>some (.nm 2)
  |54=>some (.nm 5)
  |131=>some (.nm 6)
  |163=>some (.nm 11)
  |194=>some (.nm 10)
  |_=>none
 cz:=some (.nm 8)
 own:=[([false,false,true,true],2,.int .i64),([false,true,true,false],1,.int .i64)]
 pos:=λn=>match n with
  |0|1|2|3|4|5|6|7|8|9|10|11|12|13|14=>by decide
  |_+15=>Nat.zero_lt_one
theorem agJ:∀n (l:I (bL hQ)),l.map bL.ty=jK n->∃x,V3 n l=some x:=λn l h=>by
 obtain⟨x,aa⟩:=a6.ahZ h
 match n,x,aa with
 |0,x,aa|1,x,aa|2,x,aa|3,x,aa|4,x,aa|5,x,aa|6,x,aa|7,x,aa|8,x,aa|9,x,aa|10,x,aa|11,x,aa|12,x,aa|13,x,aa|14,x,aa|_+15,x,aa=>exact⟨_,dA (Option.map _) aa⟩
theorem ahi:bM.Total:=agJ
end
section
open Go Go.Proofs.YtopcfbelfjclmaaGreatDoor.Shv
open Tryz
set_option maxRecDepth 100000
open Go.Proofs Go.Proofs.YtopcfbelfjclmaaGreatDoor Go.Shelf
theorem YS:hE prog 154:=by kernel_rfl
def l5:cP bM:=KB bM 154 (.int .i64) 8
theorem X9:hU prog l5:=adr (te:=3) (sz:=1) (bytes:=8) (z:=[.t (.int .i64 0)]) func154 (by kernel_rfl) (by kernel_rfl) (by kernel_rfl) rfl rfl
theorem lA:fz prog l5:=⟨YS,X9⟩
theorem YP:hE prog 207:=by kernel_rfl
def l8:cP bM:=FM bM 207 (.nm 5) 120
theorem Zi:hU prog l8:=Oh (te:=54) (sz:=8) (bytes:=120) (z:=[.t (.int .i64 0),.t (.bool false),.t (.int .i64 0),.t (.str []),.t (.int .i64 0),.bV,.bV,.bV]) func207 (by kernel_rfl) (by kernel_rfl) (by kernel_rfl) rfl rfl
theorem l9:fz prog l8:=⟨YP,Zi⟩
theorem Z4:hE prog 208:=by kernel_rfl
def l':cP bM:=FM bM 208 (.nm 6) 24
theorem Zj:hU prog l':=Oh (te:=131) (sz:=2) (bytes:=24) (z:=[.t (.int .i64 0),.t (.str [])]) func208 (by kernel_rfl) (by kernel_rfl) (by kernel_rfl) rfl rfl
theorem ma:fz prog l':=⟨Z4,Zj⟩
instance:Inhabited gP:=⟨wo⟩
instance:Inhabited (bM.D 10):=⟨wo⟩
def lR(x y:gP):J:=(x.id<y.id:J)
def Is(l:I gP):ag (I gP):=some (lh lR l)
section
open Go.Proofs Go.Proofs.YtopcfbelfjclmaaGreatDoor Go.Sort Go.RowKit Go.Lib
theorem akz(x:Int)(w:World):Calls prog 203 #[.int .i64 x] w λe w'=>e= .returned (.bool false)/\w'=w:=by
 go_enter func203,ntmps203
 go_wp2
 go_ret
 exact⟨by simp,rfl⟩
set_option maxHeartbeats 1000000 in
theorem aky(x y:Int)(w:World):Calls prog 147 #[.int .i64 x,.int .i64 y] w λe w'=>e= .returned (.int .i64 (Lib.compareInt x y))/\w'=w:=by
 go_enter func147,ntmps147
 go_wp2_with (go_at_call 203;refine(akz _ _).mono ?_;rintro e w' ⟨rfl,a⟩;rw[a])
 all_goals (go_ret;refine⟨?_,rfl⟩;unfold Lib.compareInt;(repeat' split)<;>first|rfl|(exfalso;omega))
def BU(x:gP):I Value:=[.int .i64 x.id,.string ⟨x.text.toArray⟩]
set_option maxHeartbeats 1000000 in
theorem akx(x y:Int)(s t:ByteArray)(W:World):Calls prog 152 #[.agg #[.int .i64 x,.string s],.agg #[.int .i64 y,.string t]] W λe w'=>e= .returned (.int .i64 (Lib.compareInt x y))/\∃q c,w'=grow (W.drewN q) c:=by
 have a:=λb=>aky x y b;generalize Lib.compareInt x y=r at a⊢
 go_enter func152,ntmps152
 go_wp2_with (go_at_call 147;refine(a _).mono ?_;rintro e w' ⟨rfl,rfl⟩)
 go_ret
 exact⟨rfl,0,_,by rw[alloc_eq_grow,alloc_eq_grow,grow_grow];rfl⟩
def Po:Go.Shelf.Ren:=⟨λ|6=>151|15=>206|14=>205|28=>244|29=>212|20=>236|21=>237|22=>238|23=>239|24=>240|25=>241|26=>242|27=>243|46=>250|47=>251|48=>252|49=>253|50=>254|57=>255|n=>n,λ|22=>190|24=>194|25=>196|3=>3|39=>103|0=>0|53=>234|55=>135|4=>4|46=>250|45=>249|50=>109|5=>5|9=>9|66=>256|70=>260|76=>264|77=>265|n=>n,λ|n=>n⟩
theorem Vh:SlLaysF0.n6 prog Po:={
 mixed:=by kernel_rfl
 f6:=⟨f151.name,by decide,func151.trans (dA some (by kernel_rfl))⟩
 f14:=⟨f205.name,by decide,func205.trans (dA some (by kernel_rfl))⟩
 f15:=func206.trans (dA some (by kernel_rfl))
 f20:=⟨f236.name,by decide,func236.trans (dA some (by kernel_rfl))⟩
 f21:=⟨f237.name,by decide,func237.trans (dA some (by kernel_rfl))⟩
 f22:=⟨f238.name,by decide,func238.trans (dA some (by kernel_rfl))⟩
 f23:=⟨f239.name,by decide,func239.trans (dA some (by kernel_rfl))⟩
 f24:=⟨f240.name,by decide,func240.trans (dA some (by kernel_rfl))⟩
 f25:=⟨f241.name,by decide,func241.trans (dA some (by kernel_rfl))⟩
 f26:=⟨f242.name,by decide,func242.trans (dA some (by kernel_rfl))⟩
 f27:=⟨f243.name,by decide,func243.trans (dA some (by kernel_rfl))⟩
 f28:=func244.trans (dA some (by kernel_rfl))
 f29:=func212.trans (dA some (by kernel_rfl))
 f46:=⟨f250.name,by decide,func250.trans (dA some (by kernel_rfl))⟩
 f47:=func251.trans (dA some (by kernel_rfl))
 f48:=func252.trans (dA some (by kernel_rfl))
 f49:=⟨f253.name,by decide,func253.trans (dA some (by kernel_rfl))⟩
 f50:=⟨f254.name,by decide,func254.trans (dA some (by kernel_rfl))⟩
 f57:=⟨f255.name,by decide,func255.trans (dA some (by kernel_rfl))⟩
 t0:=underlying0
 a0:=isAgg0
 z0:=sizeOf0
 v0:=zeroValue0
 t3:=underlying3
 a3:=isAgg3
 z3:=sizeOf3
 v3:=zeroValue3
 t4:=underlying4
 a4:=isAgg4
 z4:=sizeOf4
 v4:=zeroValue4
 t5:=underlying5
 a5:=isAgg5
 z5:=sizeOf5
 v5:=zeroValue5
 t9:=underlying9
 a9:=isAgg9
 z9:=sizeOf9
 v9:=zeroValue9
 t22:=underlying190
 a22:=isAgg190
 z22:=sizeOf190
 v22:=zeroValue190
 t25:=underlying196
 a25:=isAgg196
 z25:=sizeOf196
 v25:=zeroValue196
 t39:=underlying103
 a39:=isAgg103
 z39:=sizeOf103
 v39:=zeroValue103
 t45:=underlying249
 a45:=isAgg249
 z45:=sizeOf249
 v45:=zeroValue249
 t46:=underlying250
 a46:=isAgg250
 z46:=sizeOf250
 v46:=zeroValue250
 t50:=underlying109
 a50:=isAgg109
 z50:=sizeOf109
 v50:=zeroValue109
 t53:=underlying234
 a53:=isAgg234
 z53:=sizeOf234
 v53:=zeroValue234
 t55:=underlying135
 a55:=isAgg135
 z55:=sizeOf135
 v55:=zeroValue135
 t66:=underlying256
 a66:=isAgg256
 z66:=sizeOf256
 v66:=zeroValue256
 t70:=underlying260
 a70:=isAgg260
 z70:=sizeOf260
 v70:=zeroValue260
 t76:=underlying264
 a76:=isAgg264
 z76:=sizeOf264
 v76:=zeroValue264
 t77:=underlying265
 a77:=isAgg265
 z77:=sizeOf265
 v77:=zeroValue265}
theorem Oq:ltOf (λx y:gP=>Lib.compareInt x.id y.id)=lR:=by
 funext x y;unfold ltOf lR Lib.compareInt;by_cases h1:x.id<y.id;simp[h1];by_cases a:y.id<x.id<;>simp[h1,a]
theorem HD:SWO lR:=agH (λx:gP=>x.id)
set_option maxHeartbeats 2000000 in
theorem akB(p:ag Addr)(cap:Nat)(a:Value)(w:World):Calls prog 236 #[.slice p 0 cap,.int .i64 0,.int .i64 0,a] w λe w'=>e= .returned (.tuple #[])/\w'=w:=by
 go_enter func236,ntmps236
 go_wp2
 refine wp_loop_rounds 1 ?_;rw[rounds_succ]
 go_wp2
 go_end0
 exact⟨rfl,rfl⟩
set_option maxHeartbeats 2000000 in
theorem akC(p:ag Addr)(cap:Nat)(c:Int)(a:Value)(w:World):Calls prog 205 #[.slice p 0 cap,.int .i64 0,.int .i64 0,.int .i64 c,a] w λe w'=>e= .returned (.tuple #[])/\w'=w:=by
 have b:=λW=>akB p cap a W
 go_enter func205,ntmps205
 go_wp2
 refine wp_loop_rounds 1 ?_;rw[rounds_succ]
 go_wp2_with (go_at_call 236;refine(b _).mono ?_;rintro e w' ⟨rfl,rfl⟩)
 (try simp only[Exit.inBlock,Exit.then]);refine bodyPost_ret (results_none rfl _ _ _) rfl ?_
 exact⟨rfl,rfl⟩
set_option maxHeartbeats 2000000 in
theorem akA(p:ag Addr)(cap:Nat)(a:Value)(w:World):Calls prog 151 #[.slice p 0 cap,a] w λe w'=>e= .returned (.tuple #[])/\w'=w:=by
 have ar:=λb W=>akC p cap b a W;have ak:∀W,Calls prog 206 #[.int .u64 0] W λe w'=>e= .returned (.int .i64 (Lib.bitLen 0:Nat))/\w'=W:=λW=>by
  have h:=Any.bits_Len (SlLaysF0.n15.bits (P:=prog) (ρ:=Po) {Vh with}) 0 W (by omega) (by omega);exact h
 go_enter func151,ntmps151
 go_wp2_with (first|(go_at_call 206;refine(ak _).mono ?_;rintro e w' ⟨rfl,rfl⟩)|(go_at_call 205;refine(ar _ _).mono ?_;rintro e w' ⟨rfl,rfl⟩))
 go_end0
 exact⟨rfl,rfl⟩
theorem akD(blk off cap:Nat)(d:Array (bM.D 10))(w:World)(c:HoldsK BU 2 w blk off d)(f:blk<w.heap.size)(g:d.size<4611686018427387904):
 Calls prog 151 #[.slice (some ⟨blk,off,none⟩) d.size cap,.func (.func 152) #[] #[]] w λe w'=>e= .returned (.tuple #[])/\∃n os,w'=sortWorldK BU 2 w blk off n (pdq lR d 0 d.size (Lib.bitLen d.size) true true) os:=by
 have b:∀args w,(callFunc 152 args).run prog w= .ok (.enter 152 args) w:=enters_of func152 (by kernel_rfl) rfl;have h:=AnyQ.slices_SortFunc_eq (α:=gP) Vh 2 isAgg194 sizeOf194 BU (λ_=>rfl) (λx v a=>by simp[BU]at a;rcases a with rfl|rfl<;>rfl) (λx y=>Lib.compareInt x.id y.id) (by rw[Oq];exact HD) 152 #[] blk off cap d w b (λ_ _ _ _ x y=>akx x.id y.id _ _ _) c f g;rw[Oq]at h;exact h
theorem ahB:hE prog 151:=by kernel_rfl
def H3:cP bM:=HC bM 151 10 152 (lh (α:=bM.D 10) lR)
theorem Z1:hU prog H3:=afK (U:=bM) (n:=10) BU lR HD (λ_=>rfl) (λw S x j t v h a=>adx w S x.id x.text j t v h a) akD akA
end
theorem H4:fz prog H3:=⟨ahB,Z1⟩
def Nv:Go.Shelf.Ren:=⟨λ|240=>55|276=>92|n=>n,λ|0=>0|4=>4|9=>9|20=>20|37=>64|70=>63|72=>66|164=>142|n=>n,λn=>n⟩
theorem ajQ:Lays.n240 prog Nv:={
 mixed:=by kernel_rfl
 f240:=func55.trans (dA some (by kernel_rfl))
 f276:=func92.trans (dA some (by kernel_rfl))
 t0:=underlying0
 a0:=isAgg0
 z0:=sizeOf0
 v0:=zeroValue0
 t4:=underlying4
 a4:=isAgg4
 z4:=sizeOf4
 v4:=zeroValue4
 t9:=underlying9
 a9:=isAgg9
 z9:=sizeOf9
 v9:=zeroValue9
 t20:=underlying20
 a20:=isAgg20
 z20:=sizeOf20
 v20:=zeroValue20
 t70:=underlying63
 a70:=isAgg63
 z70:=sizeOf63
 v70:=zeroValue63
 t72:=underlying66
 a72:=isAgg66
 z72:=sizeOf66
 v72:=zeroValue66
 t164:=underlying142
 a164:=isAgg142
 z164:=sizeOf142
 v164:=zeroValue142}
theorem ajR:Builder.X72 prog Nv:={
 sizeBuilder:=by kernel_rfl
 liesBuilder:=by kernel_rfl}
theorem W8:hE prog 55:=by kernel_rfl
def mc:cP bM:=FN bM 55 66 5
theorem Z2:hU prog mc:=adM ajQ ajR rfl rfl
theorem na:fz prog mc:=⟨W8,Z2⟩
def adA:Go.Shelf.Ren:=⟨λ|129=>212|171=>31|243=>56|246=>93|283=>160|284=>161|285=>162|286=>163|317=>211|318=>213|319=>214|320=>215|337=>245|338=>246|n=>n,λ|0=>0|2=>2|3=>3|4=>4|5=>5|9=>9|20=>20|37=>64|46=>103|51=>234|53=>135|171=>199|173=>202|212=>233|213=>235|232=>262|233=>263|n=>n,λ|17=>0|18=>1|19=>2|n=>n⟩
theorem ajP:Lays.n171 prog adA:={
 mixed:=by kernel_rfl
 f129:=func212.trans (dA some (by kernel_rfl))
 f171:=func31.trans (dA some (by kernel_rfl))
 f243:=func56.trans (dA some (by kernel_rfl))
 f246:=func93.trans (dA some (by kernel_rfl))
 f283:=func160.trans (dA some (by kernel_rfl))
 f284:=func161.trans (dA some (by kernel_rfl))
 f285:=func162.trans (dA some (by kernel_rfl))
 f286:=func163.trans (dA some (by kernel_rfl))
 f317:=func211.trans (dA some (by kernel_rfl))
 f318:=func213.trans (dA some (by kernel_rfl))
 f319:=func214.trans (dA some (by kernel_rfl))
 f320:=func215.trans (dA some (by kernel_rfl))
 f337:=func245.trans (dA some (by kernel_rfl))
 f338:=func246.trans (dA some (by kernel_rfl))
 t0:=underlying0
 a0:=isAgg0
 z0:=sizeOf0
 v0:=zeroValue0
 t2:=underlying2
 a2:=isAgg2
 z2:=sizeOf2
 v2:=zeroValue2
 t3:=underlying3
 a3:=isAgg3
 z3:=sizeOf3
 v3:=zeroValue3
 t4:=underlying4
 a4:=isAgg4
 z4:=sizeOf4
 v4:=zeroValue4
 t5:=underlying5
 a5:=isAgg5
 z5:=sizeOf5
 v5:=zeroValue5
 t9:=underlying9
 a9:=isAgg9
 z9:=sizeOf9
 v9:=zeroValue9
 t20:=underlying20
 a20:=isAgg20
 z20:=sizeOf20
 v20:=zeroValue20
 t37:=underlying64
 a37:=isAgg64
 z37:=sizeOf64
 v37:=zeroValue64
 t46:=underlying103
 a46:=isAgg103
 z46:=sizeOf103
 v46:=zeroValue103
 t51:=underlying234
 a51:=isAgg234
 z51:=sizeOf234
 v51:=zeroValue234
 t53:=underlying135
 a53:=isAgg135
 z53:=sizeOf135
 v53:=zeroValue135
 t171:=underlying199
 a171:=isAgg199
 z171:=sizeOf199
 v171:=zeroValue199
 t173:=underlying202
 a173:=isAgg202
 z173:=sizeOf202
 v173:=zeroValue202
 t212:=underlying233
 a212:=isAgg233
 z212:=sizeOf233
 v212:=zeroValue233
 t213:=underlying235
 a213:=isAgg235
 z213:=sizeOf235
 t232:=underlying262
 a232:=isAgg262
 z232:=sizeOf262
 v232:=zeroValue262
 t233:=underlying263
 a233:=isAgg263
 z233:=sizeOf263
 v233:=zeroValue263
 g17:=by kernel_rfl
 g18:=by kernel_rfl
 g19:=by kernel_rfl}
theorem W5:hE prog 31:=by kernel_rfl
def mb:cP bM:=Ve bM 31
theorem YT:hU prog mb:=afO ajP rfl
theorem oO:fz prog mb:=⟨W5,YT⟩
end
section
open Go Go.Proofs.YtopcfbelfjclmaaGreatDoor.Shv
open Tryz
set_option maxRecDepth 100000
theorem Da:nU prog 47:= .of (by kernel_rfl)
variable{ks:I (Int×Int)}{g kk:Nat}{S:dm}{w:World}{v:Value}{es:I MapEntry}{fs:I (cP bM)}{p:ba}{P:cv×cv×I bn->ag J}
variable{a f:Nat}
theorem W7(H:∀b j,S b j->b<w.heap.size)(x:bn){E:TypeId}{es:Array MapEntry}{cV:Nat}
 (h1:w.heap[g]?=some (.cells #[.map (some a)] E (0,0)))(p:w.heap[a]?=some (.map es cV))(hs:kE ks es.toList)(C:∀j,¬S g j)(D:∀j,¬S a j):
 Calls prog 24 #[eu (x.cg,x.bY),.pointer (some ⟨g,0,none⟩)] w λe w'=>e= .returned (.bool (!iA ks (x.cg,x.bY)))/\∃bu,pb S w bu w':=by
 refine calls_of_wp func24 rfl ?_;have z:=cQ.enter (U:=bM) (gs:=[g,a]) (N:=2) (nt:=8) (φ:=λb=>if b=0 then(g,0)else(a,0)) (args:=[.agg [.t ⟨.int .i64,x.cg⟩,.t ⟨.int .i64,x.bY⟩],.c (.ptr 0 0)]) (w:=w) (S:=S)
  (.cons (.agg (.cons (.t _) (.cons (.t _) .nil))) (.cons (.c (.ptr 0 0)) .nil)) (vs:=[eu (x.cg,x.bY),.pointer (some ⟨g,0,none⟩)]) (.cons (.agg (.cons (b6.int _ _) (.cons (b6.int _ _) .nil))) (.cons (.c rfl) .nil)) rfl H (uT rfl)
  (by
   have:=om h1;have:=om p;intro b q;simp at q;rcases q with rfl|rfl;exact⟨by assumption,C⟩
   . exact⟨by assumption,D⟩)
 refine wp_seq (z.gJ 2 [bp .normal [(1,.c (.ptr 0 0)),(2,.c (.ptr 2 0))] [.gone,.gone,.bk 8]] (o:=x) .n (by kernel_rfl) λP J a1 s m f=>?_);refine wp_seq (qk [0,1,2,3,4] ?_);have k1:a1.tmps[1]?=some (.pointer (some ⟨g,0,none⟩)):=(m.ptr (k:=1) rfl).trans (by rw[f.fix 0 (by decide)];rfl);have F:s.heap[g]?=_:=(f.ar g (by simp)).trans h1;have G:s.heap[a]?=_:=(f.ar a (by simp)).trans p;refine oU rfl rfl rfl (ld1 rfl (by kernel_rfl) (gi k1) F (off:=0) rfl) ?_;have A:=m.put (d:=4) (x:= .map (some a)) (v:= .c (.mp 1)) (.c (.mp 1)) (.c (by show _=Value.map (some _);rw[f.fix 1 (by decide)];rfl));refine A.op 2 1 1 [(4,.c (.mp 1)),(5,.row 8)] [.gone,.gone] (h:=x) .n (by kernel_rfl) λQ K a3 M i r=>?_
 have k4:a3.tmps[4]?=some (.map (some a)):=(i.mp (k:=4) rfl).trans (by rw[r.fix 1 (by decide),f.fix 1 (by decide)];rfl);have k5:a3.tmps[5]?=some (eu (x.cg,x.bY)):=i.pair rfl;refine oU rfl rfl rfl (ajS rfl Da (gi k4) (gi k5) ((r.ar a (by simp)).trans G) hs) ?_;have B:=i.put (d:=6) (v:= .c (.t ⟨.bool,iA ks (x.cg,x.bY)⟩)) (.c (.t _)) (.c (b6.bool _));refine B.op 2 3 2 [(3,.c (.hole .bool))] [.gone,.gone] (h:=!iA ks (x.cg,x.bY)) .n (by kernel_rfl) λR u a5 O l L=>?_;refine wp_ret (l.ret rfl rfl λy al=>⟨?_,u,l.ext,l.st⟩);cases al;rfl
def iR(ks:I (Int×Int))(x:bn):J:=iA ks (x.cg,x.bY)
structure pa (S:dm)(w:World)(g GH:Nat)(ks:List (Int×Int)):Prop where
 st:∀b j,S b j->b<w.heap.size
 g1:∃E,w.heap[g]?=some (.cells #[.map (some GH)] E (0,0))
 g2:∃es cV,w.heap[GH]?=some (.map es cV)/\kE ks es.toList
 g3:∀j,¬S g j
 g4:∀j,¬S GH j
theorem pa.next{bu:dm}{w':World}{c:Nat}(h:pa S w g c ks){nt:Nat}{aA:Ctx}{s:yk bM}{φ j:dk}{a:Act}(T:cQ aA nt [g,c] s φ bu a w')(n:sQ [g,c] kk j w φ w'):pa bu w' g c ks:=by
 obtain⟨h0,⟨E,h1⟩,⟨es,cV,e,f⟩,o,p⟩:=h;exact⟨T.st,⟨E,(n.ar g (by simp)).trans h1⟩,⟨es,cV,(n.ar c (by simp)).trans e,f⟩,(T.eY g (by simp)).2,(T.eY c (by simp)).2⟩
theorem pa.eY(av:pa S w g a ks):∀b,b∈[g,a]->b<w.heap.size/\∀j,¬S b j:=by
 obtain⟨h0,⟨E,h1⟩,⟨es,cV,e,_⟩,f,o⟩:=av;have:=om h1;have:=om e;intro b c;simp at c;rcases c with rfl|rfl;exact⟨by assumption,f⟩;exact⟨by assumption,o⟩
theorem W9(φ:dk)(l:I bn){q:Nat}(av:pa S w g q ks)(Q:(φ 0).1=g)(aw:b6 w S (bL.bJ bM ⟨.slice (.nm 8),l⟩) v):
 Calls prog 46 #[v,.func (.func 24) #[] #[.pointer (some ⟨g,0,none⟩)]] w λe w'=>∃m bu,e= .returned (.int .i64 m)/\((l.any λx=>!iR ks x)=(0<=m:J))/\pb S w bu w':=by
 refine calls_of_wp func46 rfl ?_;have af:=cQ.enter (U:=bM) (gs:=[g,q]) (N:=1) (nt:=19) (φ:=φ) (args:=[.c (.t ⟨.slice (.nm 8),l⟩),.c (.fn 24 [0])]) (w:=w) (S:=S)
  (.cons (.c (.t _)) (.cons (.c (.fn 24 [0])) .nil)) (vs:=[v,.func (.func 24) #[] #[.pointer (some ⟨g,0,none⟩)]]) (.cons (.c aw) (.cons (.c (by rw[<-Q];rfl)) .nil)) rfl av.st (uT rfl)
  av.eY
 refine wp_seq (af.gJ 1 [bp .normal [(0,ad (aO 8)),(1,.c (.fn 24 [0]))] [.gone]] (o:=l) .n (by kernel_rfl) λaQ aI a1 aN H R=>?_);refine wp_seq (wp_seq (H.gJ 1 [bp .normal [(0,ad (aO 8)),(1,.c (.fn 24 [0])),(7,ad ao),(8,ad ao)] [.gone]] (o:=(l,(l.length:Int),(0:Int))) .n (by kernel_rfl) λaC Y a2 ax K T=>?_));refine wp_block (E2 ?_);refine(show(∀(n i:Nat),i+n=l.length->(∀j,j<i->∃x,l[j]?=some x/\iR ks x)->∀bq bu ca w',cQ _ 19 [g,q] (fZ (U:=bM) [bp .normal [(0,ad (aO 8)),(1,.c (.fn 24 [0])),(7,ad ao),(8,ad ao)] [.gone]] (l,(l.length:Int),(i:Int))).2 bq bu ca w'->(bq 0).1=g->pa bu w' g q ks->vd prog _ _ ca w')from ?_) l.length 0 (by simp) (by simp) aC Y a2 ax K (by rw[T.fix 0 (by decide),R.fix 0 (by decide)];exact Q) ((av.next H R).next K T);intro n;induction n with
 |zero=>
  intro i ap B aD Z a3 ay A M P;refine xg (wp_seq (A.gJ 1 [bp .normal [(9,ad .bool)] [.gone]] (o:=((i:Int)<l.length:J)) .n (by kernel_rfl) λaF ab a4 az f C=>?_));refine wp_seq (wp_cond_false (by rw[gi (f.bool (k:=9) rfl)];simp;omega) (wp_exit ?_));refine f.gJ 1 [bp .ret [(4,ad ao)] [.gone]] (o:=(-1:Int)) .n (by kernel_rfl) λaG G a5 aA p D=>p.ret rfl rfl λy al=>⟨-1,G,?_,?_,p.ext,p.st⟩;cases al;rfl
  . have:(l.any λx=>!iR ks x)=false:=by
     rw[List.any_eq_false];intro x aa;obtain⟨j,au,rfl⟩:=zH.1 aa;obtain⟨y,h1,ai⟩:=B j (by omega);rw[e0 au]at h1;cases h1;simp[ai]
    rw[this];rfl
 |succ n ih=>
  intro i ap B aD Z a3 ay A M P;have aq:i<l.length:=by omega
  refine xg (wp_seq (A.gJ 1 [bp .normal [(0,ad (aO 8)),(1,.c (.fn 24 [0])),(7,ad ao),(8,ad ao),(9,ad .bool)] [.gone]] (o:=(l,(l.length:Int),(i:Int),((i:Int)<l.length:J))) .n (by kernel_rfl) λaF ab a4 az f C=>?_));refine wp_seq (wp_cond_true (by rw[gi (f.bool (k:=9) rfl)];simp;omega) (wp_skip ?_));refine wp_seq (wp_block (wp_seq (f.gJ 1 [bp .normal [(0,ad (aO 8)),(1,.c (.fn 24 [0])),(7,ad ao),(8,ad ao),(5,ad ao)] [.gone]] (o:=(l,(l.length:Int),(i:Int),(i:Int))) .n (by kernel_rfl) λaG G a5 aA p D=>?_)));refine wp_seq (qk [0,1,2,3,4,5] ?_);refine p.op 1 0 5 [(0,ad (aO 8)),(1,.c (.fn 24 [0])),(7,ad ao),(8,ad ao),(5,ad ao),(11,.c (.fn 24 [0])),(15,.row 8)] [.gone] (h:=(l,(l.length:Int),(i:Int),(i:Int),l.getD (Int.toNat i) dH)) .n ((show _=(if aE (i:Int) l.length then some _ else none) by kernel_rfl).trans (ah (by simp[aE];omega))) λaH aJ aK aP r V=>?_
  have O:(aH 0).1=g:=by rw[V.fix 0 (by decide),D.fix 0 (by decide),C.fix 0 (by decide)];exact M
  have am:=((P.next f C).next p D).next r V;have aa:l[i]?=some (l.getD i dH):=by simp[List.getD,e0 aq]
  refine GR rfl rfl rfl (ui rfl rfl (gi (r.fn (k:=11) rfl)) (by kernel_rfl)) (args:=#[eu ((l.getD i dH).cg,(l.getD i dH).bY),.pointer (some ⟨g,0,none⟩)]) ?_ ?_
  simp[gi (r.pair (k:=15) rfl),O]
  obtain⟨h0,⟨E,g1⟩,⟨es,cV,g2,g3⟩,g4,ag⟩:=am;refine(W7 h0 (l.getD i dH) g1 g2 g3 g4 ag).mono ?_
  rintro e aB ⟨rfl,ae,u⟩;refine⟨_,rfl,?_⟩;have b:=(r.extend u.1 u.2).put (d:=16) (v:= .c (.t ⟨.bool,!iR ks (l.getD i dH)⟩)) (.c (.t _)) (.c (b6.bool _));have an:pa ae aB g q ks:=⟨b.st,⟨E,u.heap g1⟩,⟨es,cV,u.heap g2,g3⟩,(b.eY g (by simp)).2,(b.eY q (by simp)).2⟩
  cases s:iR ks (l.getD i dH)with
  |false=>
   refine wp_cond_true ((gi (b.bool (k:=16) rfl)).trans (by rw[s];rfl)) (wp_seq (b.gJ 1 [bp .normal [(4,ad ao)] [.gone]] (o:=(i:Int)) .n (by kernel_rfl) λX z L W a F=>wp_ret ?_));simp only[Exit.inBlock,Exit.then];refine a.ret rfl rfl λy al=>⟨(i:Int),z,?_,?_,a.ext,a.st⟩;cases al;rfl;have:(l.any λx=>!iR ks x):=su.2 ⟨l.getD i dH,fr aa,by rw[s];rfl⟩;rw[this];simp
  |true=>
   refine wp_cond_false ((gi (b.bool (k:=16) rfl)).trans (by rw[s];rfl)) (wp_skip ?_);refine b.gJ 1 [bp .normal [(0,ad (aO 8)),(1,.c (.fn 24 [0])),(7,ad ao),(8,ad ao)] [.gone]] (o:=(l,(l.length:Int),a' .i64 (i:Int) 1)) .n (by kernel_rfl) λX z L W a F=>?_;have ak:a' .i64 (i:Int) 1=((i+1:Nat):Int):=by
    have aj:l.length<=dB:=a.len (k:=0) rfl;unfold dB at aj;have aL:(i:Int)<281474976710656:=(by omega);unfold a';rw[IntKind.wrap_i64];omega
   rw[ak]at a;refine ih (i+1) (by omega) (λj aM=>?_) X z L W a (by rw[F.fix 0 (by decide)];exact O) (an.next a F);by_cases ar:j<i;exact B j ar;have:j=i:=(by omega);subst this;exact⟨_,aa,s⟩
theorem W6(l:I bn){j:Nat}(av:pa S w g j ks)(G:b6 w S (bL.bJ bM ⟨.slice (.nm 8),l⟩) v):
 Calls prog 22 #[v,.func (.func 24) #[] #[.pointer (some ⟨g,0,none⟩)]] w λe w'=>∃bu,e= .returned (.bool (l.any λx=>!iR ks x))/\pb S w bu w':=by
 refine calls_of_wp func22 rfl ?_;have B:=cQ.enter (U:=bM) (gs:=[g,j]) (N:=1) (nt:=9) (φ:=λ_=>(g,0)) (args:=[.c (.t ⟨.slice (.nm 8),l⟩),.c (.fn 24 [0])]) (w:=w) (S:=S)
  (.cons (.c (.t _)) (.cons (.c (.fn 24 [0])) .nil)) (vs:=[v,.func (.func 24) #[] #[.pointer (some ⟨g,0,none⟩)]]) (.cons (.c G) (.cons (.c rfl) .nil)) rfl av.st (uT rfl) av.eY
 refine wp_seq (B.gJ 1 [bp .normal [(0,ad (aO 8)),(1,.c (.fn 24 [0]))] [.gone]] (o:=l) .n (by kernel_rfl) λT H a1 O i r=>?_);refine wp_seq (qk [0,1,2,3,4] ?_);refine i.op 1 0 2 [(5,ad (aO 8)),(6,.c (.fn 24 [0]))] [.gone] (h:=l) .n (by kernel_rfl) λz K a2 P a s=>?_;have D:=(av.next i r).next a s;obtain⟨u,k5,F⟩:=a.cell (k:=5) rfl;have p:(z 0).1=g:=by rw[s.fix 0 (by decide),r.fix 0 (by decide)]
 refine GR rfl rfl rfl (ui rfl rfl (f:=46) (caps:=[]) rfl (by kernel_rfl)) (args:=#[u,.func (.func 24) #[] #[.pointer (some ⟨g,0,none⟩)]]) ?_ ?_
 simp[gi k5,gi (a.fn (k:=6) rfl),p]
 refine(W9 z l D p F).mono ?_
 rintro e Q ⟨m,L,rfl,E,q⟩
 refine⟨_,rfl,?_⟩;have C:=(a.extend q.1 q.2).put (d:=7) (v:= .c (.t ⟨.int .i64,m⟩)) (.c (.t _)) (.c (b6.int _ _));refine C.op 1 3 2 [(4,ad .bool)] [.gone] (h:=(0<=m:J)) .n (by kernel_rfl) λV A a4 R b M=>?_;refine wp_ret (b.ret rfl rfl λy al=>⟨A,?_,b.ext,b.st⟩);cases al;rw[E]
section
variable (mR:cv->ag J)(vk:I bn×bn->ag J)(vu:gr->ag bn)(o9 o':gr×bn->ag J)(sP:gr×bn->ag (I bn))
def BF(p:gr)(l:I bn)(x:bn):ag J:=
 o9 (p,x)>>=λa=>if !a then some false else o' (p,x)>>=λb=>if !b then some false else sP (p,x)>>=λm=>some (m.all λy=>l.any λz=>(eJ y.cg z.cg&&(eJ y.bY z.bY&&true)))
def sW(g:bn->ag J):I bn->ag J
 |[]=>some true
 |x::r=>g x>>=λa=>sW g r>>=λb=>some (a&&b)
def BE:cv×cv×I bn->ag J
 |(w,r,l)=>
 mR w>>=λa=>if !a then some false else mR r>>=λb=>if !b then some false else vu (⟨w,r⟩:gr)>>=λq=>vk (l,q)>>=λc=>if !c then some false else sW (BF o9 o' sP (⟨w,r⟩:gr) l) l
end
theorem Ot{g:bn->ag J}:∀{l:I bn} {b:J},sW g l=some b->(∀x,x∈l->∃a,g x=some a/\(a=false->b=false))/\((∀x,x∈l->g x=some true)->b=true)
 |[],b,h=>by simp[sW]at h;simp[h]
 |x::r,b,h=>by
  simp only[sW,bind,bw]at h;obtain⟨a,c,j,i,h⟩:=h;obtain⟨h1,f⟩:=Ot i;simp at h;subst h;refine⟨λy al=>?_,λd=>?_⟩
  . rcases eE.1 al with rfl|al
    exact⟨a,c,λh=>by simp[h]⟩;obtain⟨ca,g1,g2⟩:=h1 y al;exact⟨ca,g1,λh=>by simp[g2 h]⟩
  have e:=d x (by simp);rw[c]at e;cases e;rw[f λy al=>d y (by simp[al])];rfl
def mw(l:I bn):I (Int×Int):=l.foldl (λks x=>nX ks (x.cg,x.bY)) []
theorem adR{x y:Int×Int}:iA (nX ks x) y=(iA ks y||(x=y:J)):=by
 unfold nX;split
 . rename_i h;by_cases a:x=y
   subst a;simp[h];simp[a]
 simp[iA]
theorem adS(l:I bn)(x:bn):mw (l++[x])=nX (mw l) (x.cg,x.bY):=by simp[mw]
theorem J1{y:bn}(l:I bn):iR (mw l) y=l.any λz=>(eJ y.cg z.cg&&(eJ y.bY z.bY&&true)):=by
 have key:∀(l:I bn) (ks:I (Int×Int)),iR (l.foldl (λks x=>nX ks (x.cg,x.bY)) ks) y=(iR ks y||l.any λz=>(eJ y.cg z.cg&&(eJ y.bY z.bY&&true))):=by
  intro l;induction l with
  |nil=>simp
  |cons x l ih=>
   intro ks;rw[uW,ih];unfold iR;rw[adR,zA,Bool.or_assoc];congr 2;rw[xl];simp[eJ,Prod.ext_iff];constructor<;>rintro ⟨h1,a⟩<;>exact⟨h1.symm,a.symm⟩
 have:=key l [];simpa[iR,iA,mw]using this
theorem afP{k:Int×Int}(l:I bn)(h:k∈mw l):∃x,x∈l/\k=(x.cg,x.bY):=by
 have:iR (mw l) ⟨k.1,k.2⟩:=by
  unfold iR iA;rw[su];exact⟨k,h,by simp⟩
 rw[J1,su]at this;obtain⟨z,a,h⟩:=this;simp[eJ]at h;exact⟨z,a,Prod.ext h.1 h.2⟩
theorem adT(h:kE ks es){k:Int×Int}(c:k∈ks):∃e,e∈es/\e.key=eu k:=by
 obtain⟨i,b⟩:=List.mem_iff_getElem?.1 c;obtain⟨e,h1,a⟩:=h.get b;exact⟨e,fr h1,a.1⟩
theorem afQ(h:kE ks es){e:MapEntry}(he:e∈es):∃k,k∈ks/\e.key=eu k/\e.val= .bool true:=by
 induction h with
 |nil=>simp at he
 |cons h1 _ ih=>
  rcases eE.1 he with rfl|he;exact⟨_,by simp,h1⟩;obtain⟨k,a,h⟩:=ih he;exact⟨k,by simp[a],h⟩
section
variable {mR:cv->ag J}{vk:I bn×bn->ag J}{vu:gr->ag bn}{o9 o':gr×bn->ag J}{sP:gr×bn->ag (I bn)}
theorem RQ (aT:fz prog ((aZ 17 [.row 0] (ad .bool)).s (U:=bM) mR))(bE:fz prog ((aZ 18 [ad (aO 8),.row 8] (ad .bool)).s (U:=bM) vk))(bF:fz prog ((aZ 19 [.row 9] (.row 8)).s (U:=bM) vu))
 (aR:fz prog ((aZ 20 [.row 9,.row 8] (ad .bool)).s (U:=bM) o9))(aS:fz prog ((aZ 21 [.row 9,.row 8] (ad .bool)).s (U:=bM) o'))(ct:fz prog ((aZ 23 [.row 9,.row 8] (ad (aO 8))).s (U:=bM) sP)):
 fz prog ((aZ 9 [.row 0,.row 0,ad (aO 8)] (ad .bool)).s (U:=bM) (BE mR vk vu o9 o' sP)):=by
 refine .hand (by kernel_rfl) ?_
 rintro ⟨rw,B,b4⟩ b bK φ S w du vs cL aH cP cw;obtain⟨l,rfl⟩:∃l:I bn,l=b4:=⟨b4,rfl⟩
 refine calls_of_wp func9 rfl ?_;have cn:=cQ.enter (U:=bM) (gs:=[]) (N:=0) (nt:=61) aH cP cw cL (by rw[<-aH.length];exact uT rfl) (by simp);have Y:∀{gs:ba} {s:yk bM} {bo:dk} {aL:dm} {a1:Act} {aw:World} (T:cQ ⟨w,S,λ_=>False,φ,0⟩ 61 gs s bo aL a1 aw),a8 s.1 6=some (.c (.t ⟨.bool,b⟩))->bodyPost prog f9 (λe w'=>∃bu,e= .returned (.bool b)/\pb S w bu w') .ret a1 aw:=
  λT a6=>T.ret rfl a6 λy al=>⟨_,by cases al;rfl,T.ext,T.st⟩
 refine wp_seq (cn.gJ 0 [bp .normal [(2,ad (aO 8)),(3,aB 0 0),(4,aB 1 0)] [.bk 0,.bk 0]] (o:=(l,rw,B)) .n (by kernel_rfl) λbo aL a1 aw K dy=>?_);obtain⟨c8,h1,bK⟩:=lb.1 bK;cases c8 with
 |false=>
  cases bK;refine wp_seq (K.gJ 0 [bp .ret [(6,ad .bool)],bp .normal [(2,ad (aO 8)),(3,aB 0 0),(4,aB 1 0)] [.bk 0,.bk 0]] (o:= .inl false) (.k aT .n) ((show _=(mR rw>>=λA=>(if !(!A) then mR B else some false)>>=λF=>if(bif (!A)then true else(!F)) then some (Sum.inl false)else some (Sum.inr (l,rw,B))) by kernel_rfl).trans (by rw[h1];rfl)) λce bs a2 P M b5=>Y M rfl)
 |true=>
 obtain⟨c9,ag,bK⟩:=lb.1 bK;cases c9 with
 |false=>
  cases bK;refine wp_seq (K.gJ 0 [bp .ret [(6,ad .bool)],bp .normal [(2,ad (aO 8)),(3,aB 0 0),(4,aB 1 0)] [.bk 0,.bk 0]] (o:= .inl false) (.k aT .n) ((show _=(mR rw>>=λA=>(if !(!A) then mR B else some false)>>=λF=>if(bif (!A)then true else(!F)) then some (Sum.inl false)else some (Sum.inr (l,rw,B))) by kernel_rfl).trans (by rw[h1];simp[ag];rfl)) λce bs a2 P M b5=>Y M rfl)
 |true=>
 refine wp_seq (K.gJ 0 [bp .ret [(6,ad .bool)],bp .normal [(2,ad (aO 8)),(3,aB 0 0),(4,aB 1 0)] [.bk 0,.bk 0]] (o:= .inr (l,rw,B)) (.k aT .n) ((show _=(mR rw>>=λA=>(if !(!A) then mR B else some false)>>=λF=>if(bif (!A)then true else(!F)) then some (Sum.inl false)else some (Sum.inr (l,rw,B))) by kernel_rfl).trans (by rw[h1];simp[ag];rfl)) λce bs a2 P M b5=>?_);refine wp_seq (M.gJ 0 [bp .normal [(2,ad (aO 8)),(7,aB 0 0)] [.bk 9]] (o:=(l,(⟨rw,B⟩:gr))) .n (by kernel_rfl) λdf cl a3 b' X cX=>?_);obtain⟨q,aC,bK⟩:=lb.1 bK;obtain⟨c',aF,bK⟩:=lb.1 bK;cases c' with
 |false=>
  cases bK;refine wp_seq (X.gJ 0 [bp .ret [(6,ad .bool)],bp .normal [(2,ad (aO 8)),(7,aB 0 0)] [.bk 9]] (o:= .inl false) (.k bF (.k bE .n)) ((show _=(vu ⟨rw,B⟩>>=λq=>vk (l,q)>>=λc=>if !c then some (Sum.inl false)else some (Sum.inr (l,(⟨rw,B⟩:gr)))) by kernel_rfl).trans (by rw[aC];simp[aF];rfl)) λay aM a4 bl O W=>Y O rfl)
 |true=>
 refine wp_seq (X.gJ 0 [bp .ret [(6,ad .bool)],bp .normal [(2,ad (aO 8)),(7,aB 0 0)] [.bk 9]] (o:= .inr (l,(⟨rw,B⟩:gr))) (.k bF (.k bE .n)) ((show _=(vu ⟨rw,B⟩>>=λq=>vk (l,q)>>=λc=>if !c then some (Sum.inl false)else some (Sum.inr (l,(⟨rw,B⟩:gr)))) by kernel_rfl).trans (by rw[aC];simp[aF];rfl)) λay aM a4 bl O W=>?_);obtain⟨cu,cN⟩:=Ot bK;clear bK;generalize ar:(⟨rw,B⟩:gr)=p at*;refine wp_seq (qk [0,1,2,3,4] ?_);refine O.op 0 0 2 [(2,ad (aO 8)),(7,aB 0 0),(29,ad ao)] [.bk 9] (h:=(l,(l.length:Int),p)) .n (by kernel_rfl) λdD dj a5 C ak dz=>?_;refine oU rfl rfl rfl (ajZ rfl Da (gi (ak.int (k:=29) rfl))) ?_;have af:=(ak.new (.map #[] 0)).put (d:=30) (x:= .map (some C.heap.size)) (v:= .c (.mp 1)) (.c (.mp 1)) (.c (by show _=Value.map (some _);simp[eN]));refine oU rfl rfl rfl (ahN rfl (z:= .map none) (by kernel_rfl) rfl) ?_
 have G:=(af.new (.cells #[.map none] 47 (0,0))).put (d:=8) (x:= .pointer (some ⟨(C.alloc (.map #[] 0)).heap.size,0,none⟩)) (v:= .c (.ptr 2 0)) (.c (.ptr 2 0)) (.c (by show _=Value.pointer _;simp[eN]));have av:C.heap.size+1=(C.alloc (.map #[] 0)).heap.size:=by simp
 refine ajV rfl rfl rfl rfl (by kernel_rfl) (b:=(C.alloc (.map #[] 0)).heap.size) (u:= .map none) (E:=47) (v:= .map (some C.heap.size)) (gi ((G.ptr (k:=8) rfl).trans (by simp[eN]))) (gi ((G.mp (k:=30) rfl).trans (by simp[eN]))) rfl rfl Shv.heap_alloc_new ?_;intro bm cY cZ c0 c1 b8 bi;have bc:w.heap.size<=C.heap.size:=ak.ext.size;have H:=G.write (w':=bm) (g:=(C.alloc (.map #[] 0)).heap.size) (by simp) (by rw[<-av];exact Nat.le_succ_of_le bc) cY cZ c0 c1 bi;have ap:bm.heap[C.heap.size]?=some (.map #[] 0):=by
  rw[bi _ (by rw[<-av];omega),s9 (by simp)];exact Shv.heap_alloc_new
 obtain⟨dh,cm,Q,_⟩:=H.goto 0 (sh:=⟨[(2,ad (aO 8)),(7,aB 1 0),(8,aB 0 0)],[.gone,.bk 9]⟩) (ts:=[aO 8,.nm 9]) (h:=(l,p)) (by kernel_rfl);have aG:(dh 0).1=(C.alloc (.map #[] 0)).heap.size:=by
  have aJ:=Q.ptr (k:=8) rfl;have am:=H.ptr (k:=8) rfl;rw[aJ]at am;simpa[eN]using am
 have dx:w.heap.size<=(C.alloc (.map #[] 0)).heap.size:=by rw[<-av];exact Nat.le_succ_of_le bc
 have cK:C.heap.size≠(C.alloc (.map #[] 0)).heap.size:=by rw[<-av];omega
 clear G H af av bi;generalize (C.alloc (.map #[] 0)).heap.size=g at*;generalize C.heap.size=j at*;refine wp_seq (wp_seq (Q.gJ 1 [bp .normal [(2,ad (aO 8)),(7,aB 1 0),(8,aB 0 0),(31,ad (aO 8)),(32,ad ao),(33,ad ao)] [.gone,.bk 9]] (o:=(l,l,(l.length:Int),(0:Int),p)) .n (by kernel_rfl) λaK az bv b9 ab R=>?_));refine wp_block (E2 ?_);refine(show(∀(n i:Nat),i+n=l.length->∀bq bu ca w' es cV,cQ ⟨w,S,λ_=>False,φ,0⟩ 61 [g,j] (fZ (U:=bM) [bp .normal [(2,ad (aO 8)),(7,aB 1 0),(8,aB 0 0),(31,ad (aO 8)),(32,ad ao),(33,ad ao)] [.gone,.bk 9]] (l,l,(l.length:Int),(i:Int),p)).2 bq bu ca w'->(bq 0).1=g->w'.heap[g]?=some (.cells #[.map (some j)] 47 (0,0))->w'.heap[j]?=some (.map es cV)->kE (mw (l.take i)) es.toList->oQ es.toList cV->vd prog _ _ ca w')from ?_)
  l.length 0 (by simp) aK az bv b9 #[] 0 ab ((R.fix 0 (by decide)).symm▸aG) ((R.ar g (by simp)).trans b8) ((R.ar j (by simp)).trans ap) .nil ⟨by simp,by simp⟩
 clear Q R ab b8 ap aG;intro n;induction n with
 |succ n ih=>
  intro i cB dc ci cq c4 es cV aN aQ aX a9 ai an;have bS:i<l.length:=by omega
  refine xg (wp_seq (aN.gJ 1 [bp .normal [(2,ad (aO 8)),(7,aB 1 0),(8,aB 0 0),(31,ad (aO 8)),(32,ad ao),(33,ad ao),(34,ad .bool)] [.gone,.bk 9]] (o:=(l,l,(l.length:Int),(i:Int),((i:Int)<l.length:J),p)) .n (by kernel_rfl) λcd cj cr r D V=>?_));refine wp_seq (wp_cond_true ((gi (D.bool (k:=34) rfl)).trans (by simp;omega)) (wp_skip ?_));refine wp_seq (wp_block (wp_seq ?_));refine D.gJ 1 [bp .normal [(2,ad (aO 8)),(7,aB 1 0),(8,aB 0 0),(31,ad (aO 8)),(32,ad ao),(33,ad ao),(10,aB 2 0)] [.gone,.bk 9,.bk 8]] (o:=(l,l,(l.length:Int),(i:Int),p,l.getD (Int.toNat i) dH)) .n ((show _=(if aE (i:Int) (List.length l) then some _ else none) by kernel_rfl).trans (ah (by simp[aE];omega))) λdd di dq dA aj bg=>?_;have bC:(dd 0).1=g:=by rw[bg.fix 0 (by decide),V.fix 0 (by decide)];exact aQ
  have bL:=(bg.ar g (by simp)).trans ((V.ar g (by simp)).trans aX);have cH:=(bg.ar j (by simp)).trans ((V.ar j (by simp)).trans a9);refine qk [0,1,2] ?_;refine oU rfl rfl rfl (ld1 rfl (by kernel_rfl) (gi ((aj.ptr (k:=8) rfl).trans (by rw[bC]))) bL (off:=0) rfl) ?_;have ae:=(aj.num j).put (d:=37) (x:= .map (some j)) (v:= .c (.mp 3)) (.c (.mp 3)) (.c (by show _=Value.map _;simp[eN]));refine ae.op 4 1 1 [(2,ad (aO 8)),(7,aB 1 0),(8,aB 0 0),(31,ad (aO 8)),(32,ad ao),(33,ad ao),(37,.c (.mp 3)),(38,.row 8)] [.gone,.bk 9,.bk 8,.gone] (h:=(l,l,(l.length:Int),(i:Int),l.getD (Int.toNat i) dH,p,l.getD (Int.toNat i) dH)) .n (by kernel_rfl) λax br dr bj L aI=>?_;have aA:(ax 0).1=g:=by rw[aI.fix 0 (by decide)];simpa[eN]using bC
  refine ajW rfl rfl rfl rfl Da (gi ((L.mp (k:=37) rfl).trans (by rw[aI.fix 3 (by decide)];simp[eN]))) (gi (L.pair (k:=38) rfl)) rfl ((aI.ar j (by simp)).trans cH) ai an λbA bx bX cv=>?_;have cp:=L.write (w':={bj with heap:=bj.heap.setIfInBounds j (.map bA bx)}) (g:=j) (by simp) bc rfl rfl rfl (by simp) (λb aU=>by simp[G0,dN aU]);have aD:j<bj.heap.size:=(L.eY j (by simp)).1;refine cp.gJ 1 [bp .normal [(2,ad (aO 8)),(7,aB 1 0),(8,aB 0 0),(31,ad (aO 8)),(32,ad ao),(33,ad ao)] [.gone,.bk 9]] (o:=(l,l,(l.length:Int),a' .i64 (i:Int) 1,p)) .n (by kernel_rfl) λde ck cs c5 aP bh=>?_;have aH:a' .i64 (i:Int) 1=((i+1:Nat):Int):=by
   have aG:List.length l<=dB:=aP.len (k:=2) rfl;unfold dB at aG;have dv:(i:Int)<281474976710656:=(by omega);unfold a';rw[IntKind.wrap_i64];omega
  rw[aH]at aP;refine ih (i+1) (by omega) de ck cs c5 bA bx aP (by rw[bh.fix 0 (by decide)];exact aA) ?_ ?_ ?_ cv
  rw[bh.ar g (by simp)];simp[G0,cK];exact(aI.ar g (by simp)).trans bL;rw[bh.ar j (by simp)];simp[G0,aD];rw[List.take_add_one,e0 bS];have e:l.getD (Int.toNat i) dH=l[i]:=(by simp[List.getD,e0 bS]);rw[e]at bX;exact(adS _ _).symm▸bX
 |zero=>
  intro i cB dc ci cq c4 es cV aN aQ aX a9 ai an;have cG:l.take i=l:=sq (by omega);rw[cG]at ai;refine xg (wp_seq (aN.gJ 1 [bp .normal [(2,ad (aO 8)),(7,aB 1 0),(8,aB 0 0),(34,ad .bool)] [.gone,.bk 9]] (o:=(l,((i:Int)<l.length:J),p)) .n (by kernel_rfl) λcd cj cr r D V=>?_));refine wp_seq (wp_cond_false ((gi (D.bool (k:=34) rfl)).trans (by simp;omega)) (wp_exit ?_));have bB:(cd 0).1=g:=by rw[V.fix 0 (by decide)];exact aQ
  have aY:=(V.ar g (by simp)).trans aX;have bb:=(V.ar j (by simp)).trans a9;refine wp_seq (wp_seq (qk [0,1] ?_));refine oU rfl rfl rfl (ld1 rfl (by kernel_rfl) (gi ((D.ptr (k:=8) rfl).trans (by rw[bB]))) aY (off:=0) rfl) ?_;have aj:=D.put (d:=40) (x:= .map (some j)) (v:= .c .dead) (.c (.dead .dead)) (.c rfl);refine oU rfl rfl rfl (akh rfl Da (gi (ql (by rw[D.size];decide))) bb) ?_;have ae:=(aj.new (.mapIter (some j) cV #[] cV)).put (d:=41) (x:= .pointer (some ⟨r.heap.size,0,none⟩)) (v:= .c (.ptr 2 0)) (.c (.ptr 2 0)) (.c (by show _=Value.pointer _;simp[eN]));obtain⟨ax,br,L,_⟩:=ae.goto 0 (sh:=⟨[(2,ad (aO 8)),(7,aB 2 0),(8,aB 0 0),(41,aB 1 0)],[.gone,.gone,.bk 9]⟩) (ts:=[aO 8,.nm 9]) (h:=(l,p)) (by kernel_rfl);have bP:=(D.eY g (by simp)).1;have bW:=(D.eY j (by simp)).1;have aA:(ax 0).1=g:=by
   have aJ:=L.ptr (k:=8) rfl;rw[ae.ptr (k:=8) rfl]at aJ;simp[eN]at aJ;rw[<-aJ];exact bB
  have b2:(ax 1).1=r.heap.size:=by
   have aJ:=L.ptr (k:=41) rfl;rw[ae.ptr (k:=41) rfl]at aJ;simp[eN]at aJ;exact aJ.symm
  have bN:(r.alloc (.mapIter (some j) cV #[] cV)).heap[g]?=_:=(Shv.s9 bP).trans aY;have bU:(r.alloc (.mapIter (some j) cV #[] cV)).heap[j]?=_:=(Shv.s9 bW).trans bb;have bQ:(r.alloc (.mapIter (some j) cV #[] cV)).heap[r.heap.size]?=_:=Shv.heap_alloc_new;have cR:w.heap.size<=r.heap.size:=D.ext.size;have cA:g≠r.heap.size:=by omega
  have cJ:j≠r.heap.size:=by omega
  clear ae aj D V bP bW aY bb;refine wp_block (E2 ?_);have cF:∀e,e∈es.toList->∃x,x∈l/\e.key=eu (x.cg,x.bY)/\e.val= .bool true:=λe he=>by
   obtain⟨k,h1,ag,aC⟩:=afQ ai he;obtain⟨x,aa,rfl⟩:=afP l h1;exact⟨x,aa,ag,aC⟩
  have c2:∀{x y:bn},eu (x.cg,x.bY)=eu (y.cg,y.bY)->x=y:=λ{x y} h=>by
   obtain⟨a,b⟩:=x;obtain⟨c,d⟩:=y;simp[eu]at h;rw[h.1,h.2]
  refine(λ(key:∀(n:Nat) (seen:Array Nat),(leftOf es seen).size=n->∀bq bu ca w',cQ ⟨w,S,λ_=>False,φ,0⟩ 61 [r.heap.size,g,j] (fZ (U:=bM) [bp .normal [(2,ad (aO 8)),(7,aB 2 0),(8,aB 0 0),(41,aB 1 0)] [.gone,.gone,.bk 9]] (l,p)).2 bq bu ca w'->(bq 0).1=g->(bq 1).1=r.heap.size->w'.heap[g]?=some (.cells #[.map (some j)] 47 (0,0))->w'.heap[j]?=some (.map es cV)->w'.heap[r.heap.size]?=some (.mapIter (some j) cV seen cV)->(∀e,e∈es.toList->seen.contains e.born->∀x:bn,e.key=eu (x.cg,x.bY)->BF o9 o' sP p l x=some true)->vd prog _ _ ca w')=>key _ #[] rfl ax br _ _ L aA b2 bN bU bQ (by simp)) ?_;clear L aA b2 bN bU bQ;intro n;induction n using Nat.strongRecOn with
  |_ n ih=>
  intro seen cM bo aL a1 aw K h1 b1 cx bT cC bH;refine xg (wp_seq (qk [0,1] ?_));refine ajU rfl rfl rfl rfl (gi ((K.ptr (k:=41) rfl).trans (by rw[b1]))) cC bT an (λh0=>?_) λe he P b0=>?_
  . have M:=K.put (d:=42) (x:= .tuple #[.bool false]) (v:= .bf [.c (.t ⟨.bool,false⟩)]) (b7.u' (.cons (.c (.t _)) .nil)) (cc.u' (.cons (.c (b6.bool _)) .nil));refine M.op 2 1 1 [(2,ad (aO 8)),(7,aB 2 0),(8,aB 0 0),(41,aB 1 0),(43,ad .bool)] [.gone,.gone,.bk 9] (h:=(l,false,p)) .n (by kernel_rfl) λdf cl a3 b' X cX=>?_;refine wp_seq (wp_cond_false (gi (X.bool (k:=43) rfl)) (wp_exit ?_));have aU:b=true:=cN λx aa=>by
     have:iR (mw l) x:=by
      rw[J1,su];exact⟨x,aa,by simp[eJ]⟩
     unfold iR iA at this;obtain⟨k,a6,a7⟩:=su.1 this;have a7:=gU a7;obtain⟨e,he,ag⟩:=adT ai a6;exact bH e he (all_seen es seen h0 e he) x (by rw[ag,a7])
    subst aU;exact X.gJ 2 [bp .ret [(6,ad .bool)] [.gone,.gone]] (o:=true) .n (by kernel_rfl) λay aM a4 bl O W=>Y O rfl
  . obtain⟨aW,dw⟩:=mem_left he;obtain⟨x,cS,aV,bJ⟩:=cF e aW;rw[aV,bJ];have M:=cQ.set (q:=r.heap.size) (w:=P) (by rcases b0 with rfl|rfl;exact K;exact K.drew) (.mapIter (some j) cV (seen.push e.born) cV) (by simp) cR;have a0:P.heap=aw.heap:=by rcases b0 with rfl|rfl<;>rfl
    have cy:(ChangeMaps.setBlock P r.heap.size (.mapIter (some j) cV (seen.push e.born) cV)).heap[g]?=some (.cells #[.map (some j)] 47 (0,0)):=(IF cA).trans (a0▸cx);have cI:(ChangeMaps.setBlock P r.heap.size (.mapIter (some j) cV (seen.push e.born) cV)).heap[j]?=some (.map es cV):=(IF cJ).trans (a0▸bT);have cD:(ChangeMaps.setBlock P r.heap.size (.mapIter (some j) cV (seen.push e.born) cV)).heap[r.heap.size]?=some (.mapIter (some j) cV (seen.push e.born) cV):=acI (by rw[a0];exact(K.eY _ (by simp)).1);generalize ChangeMaps.setBlock P r.heap.size (.mapIter (some j) cV (seen.push e.born) cV)=b' at*
    have X:=M.put (d:=42) (x:= .tuple #[.bool true,eu (x.cg,x.bY),.bool true]) (v:= .bf [.c (.t ⟨.bool,true⟩),.agg [.t ⟨.int .i64,x.cg⟩,.t ⟨.int .i64,x.bY⟩],.c (.t ⟨.bool,true⟩)]) (b7.u' (.cons (.c (.t _)) (.cons (b7.Al (x.cg,x.bY)) (.cons (.c (.t _)) .nil)))) (cc.u' (.cons (.c (b6.bool _)) (.cons (cc.Al (x.cg,x.bY)) (.cons (.c (b6.bool _)) .nil))));refine X.op 2 1 1 [(2,ad (aO 8)),(7,aB 2 0),(8,aB 0 0),(41,aB 1 0),(43,ad .bool)] [.gone,.gone,.bk 9] (h:=(l,true,p)) .n (by kernel_rfl) λay aM a4 bl O W=>?_;refine wp_seq (wp_cond_true (gi (O.bool (k:=43) rfl)) (wp_skip ?_));have aF:(ay 0).1=g:=by rw[W.fix 0 (by decide)];exact h1
    have b3:(ay 1).1=r.heap.size:=by rw[W.fix 1 (by decide)];exact b1
    have cz:=(W.ar g (by simp)).trans cy;have bV:=(W.ar j (by simp)).trans cI;have bR:=(W.ar r.heap.size (by simp)).trans cD;refine wp_block (wp_seq (qk [0,1,2,3] ?_));refine oU rfl rfl rfl (ajo rfl (gi ((O.ptr (k:=41) rfl).trans (by rw[b3]))) bR bV aW an) ?_;rw[aV,bJ];have ak:=O.put (d:=44) (x:= .tuple #[eu (x.cg,x.bY),.bool true]) (v:= .bf [.agg [.t ⟨.int .i64,x.cg⟩,.t ⟨.int .i64,x.bY⟩],.c (.t ⟨.bool,true⟩)]) (b7.u' (.cons (b7.Al (x.cg,x.bY)) (.cons (.c (.t _)) .nil))) (cc.u' (.cons (cc.Al (x.cg,x.bY)) (.cons (.c (b6.bool _)) .nil)));refine ak.op 2 1 3 [(2,ad (aO 8)),(7,aB 2 0),(8,aB 0 0),(41,aB 1 0),(11,aB 3 0)] [.gone,.gone,.bk 9,.bk 8] (h:=(l,p,x)) .n (by kernel_rfl) λdE dl ds dC af aq=>?_;obtain⟨y,al,be⟩:=cu x cS;have cT:=al;obtain⟨da,aJ,al⟩:=lb.1 al;cases da with
    |false=>
     cases al;cases be rfl;refine wp_seq (af.gJ 2 [bp .ret [(6,ad .bool)] [.gone,.gone],bp .normal [(2,ad (aO 8)),(7,aB 2 0),(8,aB 0 0),(41,aB 1 0),(11,aB 3 0)] [.gone,.gone,.bk 9,.bk 8]] (o:= .inl false) (.k aR (.k aS .n)) ((show _=(o9 (p,x)>>=λA=>(if !(!A) then o' (p,x)else some false)>>=λF=>if(bif (!A)then true else(!F)) then some (Sum.inl false)else some (Sum.inr (l,p,x))) by kernel_rfl).trans (by rw[aJ];rfl)) λcf bt bw cb G Z=>?_);exact Y G rfl
    |true=>
    obtain⟨db,am,al⟩:=lb.1 al;cases db with
    |false=>
     cases al;cases be rfl;refine wp_seq (af.gJ 2 [bp .ret [(6,ad .bool)] [.gone,.gone],bp .normal [(2,ad (aO 8)),(7,aB 2 0),(8,aB 0 0),(41,aB 1 0),(11,aB 3 0)] [.gone,.gone,.bk 9,.bk 8]] (o:= .inl false) (.k aR (.k aS .n)) ((show _=(o9 (p,x)>>=λA=>(if !(!A) then o' (p,x)else some false)>>=λF=>if(bif (!A)then true else(!F)) then some (Sum.inl false)else some (Sum.inr (l,p,x))) by kernel_rfl).trans (by rw[aJ];simp[am];rfl)) λcf bt bw cb G Z=>?_);exact Y G rfl
    |true=>
    obtain⟨m,c3,al⟩:=lb.1 al;refine wp_seq (af.gJ 2 [bp .ret [(6,ad .bool)] [.gone,.gone],bp .normal [(2,ad (aO 8)),(7,aB 2 0),(8,aB 0 0),(41,aB 1 0),(11,aB 3 0)] [.gone,.gone,.bk 9,.bk 8]] (o:= .inr (l,p,x)) (.k aR (.k aS .n)) ((show _=(o9 (p,x)>>=λA=>(if !(!A) then o' (p,x)else some false)>>=λF=>if(bif (!A)then true else(!F)) then some (Sum.inl false)else some (Sum.inr (l,p,x))) by kernel_rfl).trans (by rw[aJ];simp[am];rfl)) λcf bt bw cb G Z=>?_);refine wp_seq (qk [0,1,2,3,4] ?_);refine G.op 2 0 4 [(2,ad (aO 8)),(7,aB 2 0),(8,aB 0 0),(41,aB 1 0),(58,ad (aO 8)),(59,.c (.fn 24 [0]))] [.gone,.gone,.bk 9] (h:=(l,m,p)) (.k ct .n) ((show _=(sP (p,x)>>=λm=>some (l,m,p)) by kernel_rfl).trans (by rw[c3];rfl)) λch dn dt bm H au=>?_;have bD:(ch 0).1=g:=by rw[au.fix 0 (by decide),Z.fix 0 (by decide),aq.fix 0 (by decide)];exact aF
    have cU:(ch 1).1=r.heap.size:=by rw[au.fix 1 (by decide),Z.fix 1 (by decide),aq.fix 1 (by decide)];exact b3
    have bO:=(au.ar g (by simp)).trans ((Z.ar g (by simp)).trans ((aq.ar g (by simp)).trans cz));have ap:=(au.ar j (by simp)).trans ((Z.ar j (by simp)).trans ((aq.ar j (by simp)).trans bV));have cE:=(au.ar r.heap.size (by simp)).trans ((Z.ar r.heap.size (by simp)).trans ((aq.ar r.heap.size (by simp)).trans bR));obtain⟨u,cW,cO⟩:=H.cell (k:=58) rfl;refine GR rfl rfl rfl (ui rfl rfl (f:=22) (caps:=[]) rfl (by kernel_rfl)) (args:=#[u,.func (.func 24) #[] #[.pointer (some ⟨g,0,none⟩)]]) ?_ ?_
    simp[gi cW,gi (H.fn (k:=59) rfl),bD]
    refine(W6 m ⟨H.st,⟨_,bO⟩,⟨_,_,ap,ai⟩,(H.eY g (by simp)).2,(H.eY j (by simp)).2⟩ cO).mono ?_
    rintro dp c6 ⟨cm,rfl,k9⟩
    refine⟨_,rfl,?_⟩;have Q:=(H.extend k9.1 k9.2).put (d:=60) (x:= .bool (m.any λx=>!iR (mw l) x)) (v:= .c (.t ⟨.bool,m.any λx=>!iR (mw l) x⟩)) (.c (.t _)) (.c (b6.bool _));have bG:(m.any λx=>!iR (mw l) x)=!y:=by
     cases al;rw[List.not_all_eq_any_not];congr 1;funext y;rw[J1]
    cases y with
    |false=>
     cases be rfl;refine wp_cond_true ((gi (Q.bool (k:=60) rfl)).trans (by rw[bG];rfl)) ?_;refine Q.gJ 2 [bp .ret [(6,ad .bool)] [.gone,.gone]] (o:=false) .n (by kernel_rfl) λaK az bv b9 ab R=>?_;exact Y ab rfl
    |true=>
     refine wp_cond_false ((gi (Q.bool (k:=60) rfl)).trans (by rw[bG];rfl)) (wp_skip ?_);obtain⟨aK,az,ab,R⟩:=Q.goto 2 (sh:=⟨[(2,ad (aO 8)),(7,aB 2 0),(8,aB 0 0),(41,aB 1 0)],[.gone,.gone,.bk 9]⟩) (ts:=[aO 8,.nm 9]) (h:=(l,p)) (by kernel_rfl);refine ih _ (by rw[<-cM];exact left_shrinks es seen e he) (seen.push e.born) rfl aK az _ c6 ab (by rw[R.fix 0 (by decide)];exact bD) (by rw[R.fix 1 (by decide)];exact cU) (k9.heap bO) (k9.heap ap) (k9.heap cE) λbz bI bZ c7 bd=>?_;rw[contains_push]at bZ;rcases lN _ _▸bZ with h|h
     exact bH bz bI h c7 bd;have:bz=e:=born_inj an.2 bI aW (iS.1 h);subst this;rw[aV]at bd;rw[<-c2 bd];exact cT
end
abbrev bj(e:eD)(F:a6 bM.D e.ts->ag (a6 bM.D e.us)):Prop:=fz prog (e.s F)
abbrev cy(f kk:Nat)(p:ba)(e:gL)(F:a6 bM.D e.ts->ag (ez bM e.outs)):Prop:=nT prog f kk p e F
abbrev SP(e:eD):Prop:=iJ prog e
abbrev eG(e:eD):a6 bM.D e.ts->a6 bM.D e.us->Prop:=Ch prog bM e
abbrev e'(f kk:Nat)(p:ba)(e:gL):a6 bM.D e.ts->ez bM e.outs->Prop:=yg prog bM f kk p e
abbrev eP(e:eD)(F:a6 bM.D e.ts->ag (a6 bM.D e.us)):Prop:=∀h r,F h=some r->eG e h r
abbrev fa(f kk:Nat)(p:ba)(e:gL)(F:a6 bM.D e.ts->ag (ez bM e.outs)):Prop:=∀h r,F h=some r->e' f kk p e h r
theorem eV{e:eD}{h:a6 bM.D e.ts}{r:a6 bM.D e.us}{x:ag (a6 bM.D e.us)}(h0:x=some r)(b:iI prog fs:=by exact .n){a:I (Nat×hz bM)}(ak:jM prog e.f e.st.length [] a:=by exact .n)(k:SP e:=by exact .m (by kernel_rfl))(aa:qH (ho fs) (la a) prog e h=x:=by kernel_rfl):eG e h r:= .at k b ak (aa.trans h0)
theorem fk(e:gL){F:a6 bM.D e.ts->ag (ez bM e.outs)}(bK:fa f kk p e F){h:a6 bM.D e.ts}{o:ez bM e.outs}{x:ag (ez bM e.outs)}(h0:x=some o)(b:iI prog fs:=by exact .n){a:I (Nat×hz bM)}(ak:jM prog f kk p a:=by exact .n)(aa:rT (ho fs) (la a) kk (qx prog f p) e F h=x:=by kernel_rfl):e' f kk p e h o:= .at bK b ak (aa.trans h0)
theorem cL(e:eD){F:a6 bM.D e.ts->ag (a6 bM.D e.us)}(h:eP e F)(k:SP e:=by exact .m (by kernel_rfl)):bj e F:= .of k h
theorem fl(e:gL){F:a6 bM.D e.ts->ag (ez bM e.outs)}(h:fa f kk p e F):cy f kk p e F:= .of h
def nR:I dL:=[.arr (.nm 8)]
def F6:I dL:=[.arr (.nm 11)]
def yd:I dL:=[.arr (.int .u8)]
def F5:I (Nat×dy):=[(4,.c (.arr 0))]
def Ks:I (Nat×dy):=[(1,aB 0 0),(3,ad ao)]
def F4:I (Nat×dy):=[(2,aB 0 0),(3,aB 1 0)]
def F3:I (Nat×dy):=[(1,aB 0 0),(2,aB 1 0)]
def Kr:I (Nat×dy):=[(6,aB 2 0),(10,aB 3 0)]
def yc:I (Nat×dy):=[(6,aB 2 0),(7,ad .bool)]
def Kp:I (Nat×dy):=[(10,aB 0 0),(13,aB 1 0)]
def F2:I (Nat×dy):=[(2,.c (.bV)),(3,ad ao)]
def vi:I dL:=[.cm 66 ((.cN 1)),.buf 5]
def yb:I dL:=[.box [.hole (aO 2),.hole ao]]
def F1:I (Nat×dy):=[(2,ad ao),(3,ad ao),(4,ad ao)]
def Ko:I (Nat×dy):=[(2,aB 0 0),(3,aB 1 0),(5,ad ao)]
def WQ:I dL:=[.cm 66 ((.cN 2)),.gone,.buf 5]
def Kn:I (Nat×dy):=[(1,aB 0 0),(3,.c (.arr 1)),(4,ad ao)]
def F0:I gB:=[.hole (aO 2),.arr 5,.hole dP,.hole ao]
def Km:I gB:=[.hole (aO 2),.arr 4,.hole dP,.hole ao]
def WN:I (Nat×dy):=[(1,aB 0 0),(3,.c (.arr 1)),(4,ad .bool)]
def Kl:I (Nat×dy):=[(0,ad (.int .u64)),(3,aB 0 0),(4,ad ao)]
def WM:I dL:=[.box [.hole (aO 2),.hole ao],.arr (.nm 10)]
def WL:I (Nat×dy):=[(3,ad .bool),(4,aB 0 0),(6,aB 1 0),(9,aB 2 0)]
def WK:I (Nat×dy):=[(2,ad (aO 8)),(3,aB 0 0),(4,aB 1 0),(7,ad ao)]
def WJ:I (Nat×dy):=[(1,aB 0 0),(16,ad (aO 2)),(17,ad ao),(18,ad ao)]
def WI:I dL:=[.box [.hole (aO 2),.hole ao],.bk 5,.arr (.nm 10)]
def WH:I dL:=[.box [.hole (aO 2),.hole ao,.hole (aO 2),.hole ao]]
def vh:I dL:=[.box [.hole (aO 2),.arr 1,.hole dP,.hole ao],.arr ao]
def WG:I dL:=[.box [.hole (aO 2),.hole ao],.cm 66 ((.cN 2)),.buf 5]
def WE:I (Nat×dy):=[(0,aB 0 0),(4,aB 2 0),(6,aB 3 0),(8,ad j8),(10,aB 4 0)]
def WD:I (Nat×dy):=[(3,aB 0 0),(5,aB 1 0),(7,aB 2 0),(14,ad .str),(15,ad ao)]
def vg:I dL:=[.box [.hole (aO 2),.hole (aO 2),.arr 1,.hole dP],.arr ao]
def x':I dL:=[.box [.hole (aO 2),.arr 2,.hole dP,.hole ao],.gone,.arr ao]
def WC:I (Nat×dy):=[(1,aB 0 0),(2,aB 1 0),(35,.c (.arr 2)),(36,ad ao),(37,ad ao)]
def WB:I (Nat×dy):=[(1,aB 0 0),(2,aB 1 0),(20,.c (.arr 2)),(21,ad ao),(22,ad ao)]
def x9:I dL:=[.box [.hole (aO 2),.hole (aO 2),.arr 2,.hole dP],.gone,.arr ao]
def mK:I gB:=[.hole ao,.hole .bool,.hole ao,.hole .str,.hole ao,.bV,.bV,.bV]
def FZ:I dL:=[.box [.hole (aO 2),.arr 3,.hole dP,.hole ao],.gone,.bk 5,.arr ao]
def WA:I gB:=[.hole ao,.hole .bool,.hole ao,.hole .str,.hole ao,.bV,.arr 4,.bV]
def FY:I gB:=[.hole ao,.hole .bool,.hole ao,.hole .str,.hole ao,.arr 4,.bV,.bV]
def Wz:I dL:=[.box [.hole (aO 2),.hole (aO 2),.arr 2,.arr 3],.gone,.arr ao,.arr ao]
def Wy:I gB:=[.hole ao,.hole .bool,.hole ao,.hole .str,.hole ao,.bV,.arr 6,.arr 7]
def Wx:I gB:=[.hole ao,.hole .bool,.hole ao,.hole .str,.hole ao,.bV,.arr 5,.arr 6]
def Ww:I gB:=[.hole ao,.hole .bool,.hole ao,.hole .str,.hole ao,.bV,.arr 2,.arr 3]
def Wv:I dL:=[.box [.hole (aO 2),.arr 3,.arr 4,.hole ao],.gone,.bk 5,.arr ao,.arr ao]
def Wu:I gB:=[.hole ao,.hole .bool,.hole ao,.hole .str,.hole ao,.arr 7,.bV,.hole (aO 6)]
def Wt:I dL:=[.box [.hole (aO 2),.hole (aO 2),.arr 3,.hole dP],.gone,.arr (.nm 5),.arr ao]
def Ws:I (Nat×dy):=[(3,ad ao),(4,ad dP),(5,aB 0 0),(6,aB 1 0),(10,aB 2 0),(11,ad j8),(13,aB 3 0)]
def sN:I gB:=[.hole ao,.hole .bool,.hole ao,.hole .str,.hole ao,.bV,.bV,.bV,.bV,.hole .bool]
def WS:I gB:=[.hole ao,.hole .bool,.hole ao,.hole .str,.hole ao,.hole (aO 5),.hole (aO 5),.hole (aO 6)]
def WR:I (Nat×dy):=[(3,ad ao),(4,ad dP),(5,aB 0 0),(6,aB 1 0),(10,aB 2 0),(11,ad j8),(13,aB 3 0),(14,ad ao)]
def mL:I gB:=[.hole ao,.hole .bool,.hole ao,.hole .str,.hole ao,.bV,.bV,.bV,.bV,.hole ao,.hole .bool]
def jL:I gB:=[.hole ao,.hole .str,.hole ao,.hole ao,.hole ao,.hole (aO 3),.hole (aO 4),.hole ao,.hole ao,.hole .bool]
def Kq:I dL:=[.box jL]
def WO:I dL:=[.box [.hole ao,.hole .bool,.hole ao,.hole .str,.hole ao,.arr 3,.arr 2,.arr 4],.box mK,.arr (.nm 5),.arr (.nm 5),.arr (.nm 6)]
def ya:I dL:=[.box [.hole ao,.hole .bool,.hole ao,.hole .str,.hole ao,.arr 2,.arr 3,.arr 4],.box mK,.arr (.nm 5),.arr (.nm 5),.arr (.nm 6)]
def Kk:I dL:=[.box F0,.gone,.bk 2,.box mK,.box [.hole ao,.hole .bool,.hole ao,.hole .str,.hole ao,.bV,.arr 6,.bV],.arr ao,.arr (.nm 5)]
def FX:I dL:=[.box F0,.gone,.bk 2,.box mK,.box [.hole ao,.hole .bool,.hole ao,.hole .str,.hole ao,.arr 6,.bV,.bV],.arr ao,.arr (.nm 5)]
def Wr:I dL:=[.box [.hole (aO 2),.hole (aO 2),.arr 7,.hole dP],.gone,.bk 2,.bk 5,.bk 2,.box mK,.box [.hole ao,.hole .bool,.hole ao,.hole .str,.hole ao,.bV,.arr 8,.bV],.arr ao,.arr (.nm 5)]
def e8:=aZ 8 [ad ao] (.row 0)
def RR:=bR 0 [(0,ad (aO 3)),(1,ad (aO 3)),(12,ad ao),(13,ad ao)] [] [dR 4 .bool,fq 0]
def TW:=aZ 230 [ad (aO 3),ad (aO 3)] (ad .bool) [RR]
def RS:=bR 0 [(0,ad (aO 6)),(1,ad (aO 6)),(12,ad ao),(13,ad ao)] [] [dR 4 .bool,fq 0]
def TR:=aZ 224 [ad (aO 6),ad (aO 6)] (ad .bool) [RS]
def AA:=bR 0 [(1,ad (aO 5)),(2,.c (.fn 233 [])),(15,ad (aO 5)),(16,ad ao),(17,ad ao)] [] [dR 6 .bool,fq 0]
def Fp:=aZ 225 [ad (aO 5),ad (aO 5),.c (.fn 233 [])] (ad .bool) [AA]
def yx:=aZ 233 [.row 5,.row 5] (ad .bool)
def TY:=aZ 232 [.row 4,.row 4] (ad .bool)
def RT:=bR 0 [(1,ad (aO 4)),(2,.c (.fn 232 [])),(15,ad (aO 4)),(16,ad ao),(17,ad ao)] [] [dR 6 .bool,fq 0]
def TX:=aZ 231 [ad (aO 4),ad (aO 4),.c (.fn 232 [])] (ad .bool) [RT]
def TF:=aZ 194 [.row 2,.row 2] (ad .bool)
def TS:=aZ 226 [ad (.int .u8)] (ad .bool)
def TT:=aZ 227 [ad (.int .u8)] (ad .bool)
def RU:=bR 0 [(0,ad .str),(18,ad ao),(19,ad ao)] [] [dR 2 .bool,fq 0]
def TC:=aZ 191 [ad .str] (ad .bool) [RU]
def RV:=bR 0 [(0,ad dP),(1,ad j8),(5,.c (.mp 0)),(9,ad dP),(10,ad ao),(11,ad ao)] [.set] [dR 4 .bool,bp (.exit 0) [(0,ad dP)]]
def TU:=aZ 228 [ad dP,ad j8] (ad .bool) [RV]
def RW:=bR 0 [(0,ad (aO 3)),(3,.c (.arr 0)),(4,.c (.arr 1)),(7,ad (aO 3)),(8,ad ao),(9,ad ao)] [.arr ao,.arr .str] [bp (.exit 0) [(0,ad (aO 3)),(3,.c (.arr 0)),(4,.c (.arr 1))] [.arr ao,.arr .str]] [] [(.slot 3,ao),(.slot 4,.str)]
def TD:=aZ 192 [ad (aO 3)] (ad .bool) [RW]
def TV:=aZ 229 [.row 5] (ad .bool)
def RX:=bR 0 [(1,aB 0 0),(3,.c (.arr 1)),(4,.c (.arr 2)),(8,ad (aO 4)),(9,ad ao),(10,ad ao)] [.bk 2,.arr ao,.arr .str] [dR 2 .bool,bp (.exit 0) [(1,aB 0 0),(3,.c (.arr 1)),(4,.c (.arr 2))] [.bk 2,.arr ao,.arr .str]] [] [(.slot 3,ao),(.slot 4,.str)]
def TE:=aZ 193 [.row 2] (ad .bool) [RX]
def Tc:=aZ 128 [.row 2] (ad .bool)
def RY:=bR 0 [(1,aB 0 0),(3,.c (.arr 1)),(7,ad (aO 4)),(8,ad ao),(9,ad ao)] [.bk 2,.arr ao] [bp (.exit 0) [(1,aB 0 0),(3,.c (.arr 1))] [.bk 2,.arr ao]] [] [(.slot 3,ao)]
def Td:=aZ 129 [.row 2] (ad dP) [RY]
def QO:=bR 0 [(1,aB 0 0),(3,.c (.mp 1)),(5,aB 2 0),(14,ad (aO 2)),(15,ad ao),(16,ad ao),(38,ad dP),(39,ad ao),(40,ad ao)] [ck (aO 2),.set,.box jL] [dR 2 ao,bp (.exit 2) [(1,aB 0 0),(3,.c (.mp 1)),(5,aB 2 0),(14,ad (aO 2)),(15,ad ao),(16,ad ao)] [ck (aO 2),.set,.box jL]]
def UE:=bR 0 [(1,aB 0 0),(3,.c (.mp 1)),(14,ad (aO 2)),(15,ad ao),(16,ad ao)] [ck (aO 2),.set] [dR 2 ao,fq 0] [QO]
def UD:=aZ 72 [.row 1] (ad ao) [UE]
def Ti:=aZ 138 [.row 5] (.row 5)
def UF:=aZ 74 [.row 5] (ad .bool)
def Tk:=aZ 140 [.row 3,aB 0 0] (ad .bool) [] [ck ao] [ck ao]
def RZ:=bR 0 [(0,ad (aO 3)),(1,.c (.fn 140 [0])),(7,ad ao),(8,ad ao)] [ck ao] [bp .ret [(4,ad ao)] [ck ao],bp (.exit 0) [] [ck ao]]
def Tj:=aZ 139 [ad (aO 3),.c (.fn 140 [0])] (ad ao) [RZ] [ck ao] [ck ao]
def UG:=aZ 75 [.row 2,ad ao] (.bf [ad ao,ad .bool])
def UH:=aZ 76 [ad ao] (ad .bool)
def Tm:=aZ 142 [.row 4,aB 0 0] (ad .bool) [] [ck ao] [ck ao]
def R0:=bR 0 [(0,ad (aO 4)),(1,.c (.fn 142 [0])),(7,ad ao),(8,ad ao)] [ck ao] [bp .ret [(4,ad ao)] [ck ao],bp (.exit 0) [] [ck ao]]
def Tl:=aZ 141 [ad (aO 4),.c (.fn 142 [0])] (ad ao) [R0] [ck ao] [ck ao]
def UI:=aZ 77 [.row 2,ad ao] (.bf [ad ao,ad .bool])
def Cy:=aZ 144 [.row 5,aB 0 0,aB 1 0,aB 2 0] (ad .bool) [] [ck (aO 2),ck ao,ck .bool] [ck (aO 2),ck ao,ck .bool]
def Bh:=bR 0 [(0,ad (aO 5)),(1,.c (.fn 144 [0,1,2])),(7,ad ao),(8,ad ao)] [ck (aO 2),ck ao,ck .bool] [bp .ret [(4,ad ao)] [ck (aO 2),ck ao,ck .bool],bp (.exit 0) [] [ck (aO 2),ck ao,ck .bool]]
def CA:=aZ 201 [ad (aO 5),.c (.fn 144 [0,1,2])] (ad ao) [Bh] [ck (aO 2),ck ao,ck .bool] [ck (aO 2),ck ao,ck .bool]
def Cx:=aZ 143 [ad (aO 5),.c (.fn 144 [0,1,2])] (ad .bool) [] [ck (aO 2),ck ao,ck .bool] [ck (aO 2),ck ao,ck .bool]
def CB:=aZ 78 [.row 1,ad ao,ad (aO 5),ad .bool] (ad .bool)
def UO:=aZ 83 [ad ao] (ad (.int .u64))
def TL:=aZ 202 [ad (.int .u64)] (ad .bool)
def Tn:=aZ 145 [ad (.int .u64),ad (.int .u64)] (ad ao)
def TM:=aZ 203 [ad ao] (ad .bool)
def Tp:=aZ 147 [ad ao,ad ao] (ad ao)
def TN:=aZ 204 [ad .str] (ad .bool)
def Tq:=aZ 148 [ad .str,ad .str] (ad ao)
def Rh:=bR 0 [(3,ad ao),(6,ad dP),(7,ad ao),(8,ad ao)] [] [dR 2 ao,bp (.exit 0) [(3,ad ao)]]
def To:=aZ 146 [ad dP] (ad ao) [Rh]
def UJ:=aZ 79 [.row 5,.row 5] (ad ao)
def Uj:=bR 0 [(3,ad .bool),(4,aB 0 0),(6,aB 1 0),(9,aB 2 0),(111,ad (aO 6)),(112,ad ao),(113,ad ao)] [ck (aO 2),.bk 5,.box jL] [dR 8 .bool,bp (.exit 1) WL [ck (aO 2),.box WS,.box jL]]
def yy:=bR 1 [(3,ad .bool),(4,aB 0 0),(6,aB 1 0),(150,ad (aO 4)),(151,ad ao),(152,ad ao)] [ck (aO 2),.box WS] [dR 8 .bool,fq 3]
def Uk:=bR 2 [(3,ad .bool),(4,aB 0 0),(6,aB 1 0),(9,aB 2 0),(20,ad ao)] [ck (aO 2),.bk 5,.box jL] [dR 8 .bool,bp (.exit 5) WL [ck (aO 2),.bk 5,.box jL]]
def s5:=aZ 49 [.row 1,ad ao,.row 5,ad .bool] (ad .bool) [Uj,yy,Uk]
def T3:=aZ 26 [.row 1,ad ao,.row 5] (ad .bool)
def Pp:=bR 0 [(1,aB 0 0),(6,ad ao),(16,ad (aO 2)),(17,ad ao),(18,ad ao),(24,ad (aO 4)),(25,ad ao),(26,ad ao)] [ck (aO 2)] [bp .ret F1,bp (.exit 2) WJ [ck (aO 2)]]
def Ri:=bR 0 WJ [ck (aO 2)] [bp .ret F1,fq 0] [Pp]
def Tz:=aZ 188 [.row 1] (.bf [ad ao,ad ao,ad ao]) [Ri]
def S6:=aZ 121 [.row 1] (ad ao)
def Rj:=bR 0 [(1,.c (.arr 0)),(5,ad ao),(33,ad (aO 4)),(34,ad ao),(35,ad ao)] [.arr ao] [bp (.exit 1) [(5,ad ao)] [.arr ao]]
def Rk:=bR 1 [(1,.c (.arr 0)),(8,ad ao),(52,ad (aO 4)),(53,ad ao),(54,ad ao)] [.arr ao] [bp (.exit 3) [(8,ad ao)] [.arr ao]]
def TA:=aZ 189 [.row 2,.c (.arr 0)] (ad ao) [Rj,Rk] [.arr ao] [.arr ao]
def Pq:=bR 0 [(1,aB 0 0),(3,.c (.arr 1)),(4,ad .bool),(14,ad (aO 2)),(15,ad ao),(16,ad ao)] [ck (aO 2),.arr ao] [bp (.exit 2) WN [ck (aO 2),.arr ao]]
def Rl:=bR 0 WN [ck (aO 2),.arr ao] [bp (.exit 0) [(3,.c (.arr 0))] [.arr ao]] [Pq]
def S7:=aZ 122 [.row 1] (ad dP) [Rl]
def Uy:=bR 0 [(5,.c (.arr 0)),(14,ad dP),(15,ad ao),(16,ad ao)] [.arr .bool] [bp (.exit 0) [(5,.c (.arr 0))] [.arr .bool]] [] [(.slot 5,.bool)]
def Ux:=aZ 68 [.row 1] (.bf [ad (.slice .bool),ad ao]) [Uy]
def Ub:=bR 0 [(15,ad (.slice .bool)),(16,ad ao),(17,ad ao)] [] [dR 2 ao,fq 0]
def Ua:=aZ 43 [.row 1] (ad ao) [Ub]
def Gq:=aZ 17 [.row 0] (ad .bool)
def QP:=bR 0 [(0,ad (aO 8)),(3,aB 0 0),(7,ad ao),(8,ad ao)] [.bk 8] [dR 4 ao,fq 0]
def Uc:=aZ 44 [ad (aO 8),.row 8] (ad ao) [QP]
def Gv:=aZ 18 [ad (aO 8),.row 8] (ad .bool)
def Gw:=aZ 19 [.row 9] (.row 8)
def Gx:=aZ 20 [.row 9,.row 8] (ad .bool)
def S8:=aZ 123 [.row 1,ad ao] (ad ao)
def Uz:=aZ 69 [.row 0,.row 0] (ad ao)
def S9:=aZ 124 [.row 2] (ad ao)
def Rm:=bR 0 [(2,aB 0 0),(3,aB 1 0),(16,ad (aO 3)),(17,ad ao),(18,ad ao)] [.bk 2,.bk 2] [dR 4 .bool,bp (.exit 0) F4 [.bk 2,.bk 2]]
def Rn:=bR 1 [(3,aB 0 0),(33,ad (aO 4)),(34,ad ao),(35,ad ao)] [.bk 2] [dR 4 .bool,fq 2]
def S':=aZ 125 [.row 2,.row 2] (ad .bool) [Rm,Rn]
def US:=aZ 87 [.row 1,ad ao] (ad ao)
def Um:=aZ 52 [.row 1,ad ao,.row 5,.row 1,ad ao] (ad ao)
def UT:=aZ 88 [aB 0 0] (.bf [.row 5,ad .bool]) [] vg Wz
def Tw:=aZ 155 [aB 0 0,ad ao] (.bf [.row 5,ad .bool]) [] vg Wz
def Bi:=bR 0 WB ya [bp (.exit 0) F3 ya]
def Bj:=bR 1 WC WO [bp (.exit 2) F3 ya]
def vE:=aZ 156 [.row 5] (.row 5) [Bi,Bj]
def vF:=aZ 157 [aB 0 0,ad ao,ad ao,.row 5,ad ao] (.bf [.row 5,ad .bool]) [] vg x9
def AB:=bR 0 [(1,ad (aO 5)),(2,.c (.fn 190 [])),(15,ad (aO 5)),(16,ad ao),(17,ad ao)] [] [dR 6 .bool,fq 0]
def Fq:=aZ 225 [ad (aO 5),ad (aO 5),.c (.fn 190 [])] (ad .bool) [AB]
def yw:=aZ 190 [.row 5,.row 5] (ad .bool)
def Tx:=aZ 158 [.row 4,.row 5] (ad .bool)
def Ro:=bR 0 Kl yd [bp (.exit 0) Kl yd]
def Tv:=aZ 153 [ad (.int .u64)] (ad .str) [Ro]
def UR:=aZ 86 [ad .str] (ad .str)
def Tu:=aZ 150 [ad ao,ad .bool,ad .str] (ad .str)
def TO:=aZ 209 [ad ao,ad .bool,ad .str] (.bf [ad .str,ad ao])
def TP:=aZ 210 [ad .str] (ad .str)
def UK:=aZ 80 [.row 1,ad ao] (ad ao)
def UL:=aZ 81 [.row 1,ad ao,.row 5] (ad .bool)
def Ul:=aZ 50 [.row 1,ad ao,.row 5] (ad ao)
def UN:=bR 0 Kl yd [bp (.exit 0) [(3,aB 0 0),(4,ad ao)] yd]
def UM:=aZ 82 [ad (.int .u64)] (ad .str) [UN]
def Tr:=aZ 149 [.row 4,.row 5] (ad .bool)
def T6:=aZ 30 [aB 0 0,ad .str] (.bf [ad ao,.c (.dead)]) [] vi WQ
def T7:=aZ 32 [aB 0 0] (ad .str) [] vi [.cm 66 ((.cN 1)),.gone]
def yI:=bR 0 [(0,aB 0 0),(3,ad ao),(6,aB 1 0),(9,.c (.arr 2)),(18,ad (aO 4)),(19,ad ao),(20,ad ao)] WI [bp (.exit 0) [(6,aB 1 0),(9,.c (.arr 2))] WI] [] [(.slot 9,.nm 10)]
def UP:=bR 1 [(9,.c (.arr 1)),(57,ad (aO 6)),(58,ad ao),(59,ad ao)] WM [bp (.exit 2) [(9,.c (.arr 1))] WM]
def UQ:=bR 2 [(14,aB 1 0),(77,.c (.arr 2)),(78,ad ao),(79,ad ao)] [.box [.hole (aO 2),.hole ao],.cm 66 ((.cN 3)),.arr (.nm 10),.buf 5] [bp (.exit 4) [(14,aB 1 0)] WG]
def CC:=aZ 84 [aB 0 0,.row 2,.row 5,ad ao] (ad .str) [yI,UP,UQ] yb yb
def CD:=aZ 85 [aB 0 0,.row 2,.row 5,ad ao] (ad .str) [] yb yb
def yz:=bR 0 [(0,aB 0 0),(3,ad ao),(6,aB 1 0),(9,aB 2 0),(10,aB 3 0),(84,ad (aO 5)),(85,ad ao),(86,ad ao)] [.box [.hole (aO 2),.hole ao],.bk 5,.bk 2,.cm 66 ((.cN 4)),.buf 5] [bp (.exit 1) [(10,aB 1 0)] WG]
def qV:=aZ 51 [aB 0 0,ad ao,.row 5,ad ao] (ad .str) [yz] yb yb
def T4:=aZ 27 [.row 1,ad ao,.row 5] (.bf [ad .str,ad ao])
def Bk:=bR 0 [(3,aB 0 0),(5,aB 1 0),(8,ad .str),(36,ad (aO 4)),(37,ad ao),(38,ad ao)] [ck (aO 2),.bk 5] [bp (.exit 1) [(8,ad .str)]]
def Bl:=bR 1 [(3,aB 0 0),(7,aB 1 0),(8,ad .str),(101,ad (aO 5)),(102,ad ao),(103,ad ao)] [ck (aO 2),.bk 2] [bp (.exit 3) [(8,ad .str)]]
def Bm:=bR 2 [(3,aB 0 0),(5,aB 1 0),(7,aB 2 0),(8,ad .str),(118,ad (aO 5)),(119,ad ao),(120,ad ao)] [ck (aO 2),.bk 5,.bk 2] [bp (.exit 5) [(8,ad .str)]]
def qU:=aZ 159 [.row 1,ad ao,.row 5] (ad .str) [Bk,Bl,Bm]
def yJ:=bR 0 [(0,aB 0 0),(5,aB 2 0),(6,aB 3 0),(7,aB 4 0),(8,aB 5 0),(10,aB 6 0),(25,ad (aO 4)),(26,ad ao),(27,ad ao)] Wr [bp .ret [(8,aB 2 0),(9,ad .bool)] [.box [.hole (aO 2),.hole (aO 2),.arr 3,.hole dP],.gone,.bk 5,.arr ao],bp (.exit 0) [(0,aB 0 0),(5,aB 2 0),(6,aB 3 0),(7,aB 4 0),(8,aB 5 0),(10,aB 6 0)] Wr] [] [(.via 10 6,.nm 5)]
def UU:=bR 1 [(0,aB 0 0),(6,aB 2 0),(7,aB 3 0),(8,aB 4 0),(10,aB 5 0),(115,ad (aO 4)),(116,ad ao),(117,ad ao)] [.box [.hole (aO 2),.hole (aO 2),.arr 6,.hole dP],.gone,.bk 5,.bk 2,.box mK,.box [.hole ao,.hole .bool,.hole ao,.hole .str,.hole ao,.bV,.arr 7,.arr 8],.arr ao,.arr (.nm 5),.arr (.nm 6)] [bp .ret [(8,aB 2 0),(9,ad .bool)] [.box [.hole (aO 2),.hole (aO 2),.arr 3,.arr 4],.gone,.bk 5,.arr ao,.arr ao],bp (.exit 2) [(8,aB 2 0),(10,aB 3 0)] [.box [.hole (aO 2),.hole (aO 2),.arr 4,.hole dP],.gone,.box mK,.box Wx,.arr ao,.arr (.nm 5),.arr (.nm 6)]] [] [(.via 10 7,.nm 6)]
def CE:=aZ 89 [aB 0 0,.row 2,.row 5,.row 2] (.bf [.row 5,ad .bool]) [yJ,UU] vg x9
def CF:=aZ 90 [aB 0 0,.row 2,.row 5,.row 2] (.bf [.row 5,ad .bool]) [] vg x9
def yK:=bR 0 [(0,aB 0 0),(1,ad ao),(3,ad ao),(10,.c (.arr 2)),(15,ad (aO 5)),(16,ad ao),(17,ad ao)] Wt [bp .ret [(8,.c (.bV)),(9,ad .bool)] x9,bp (.exit 0) [(10,.c (.arr 2))] Wt] [] [(.slot 10,.nm 5)]
def CG:=aZ 91 [aB 0 0,ad ao,ad (aO 5),ad ao] (.bf [ad (aO 5),ad .bool]) [yK] vg x9
def yA:=aZ 53 [aB 0 0,ad ao,.row 5,ad ao] (.bf [.row 5,ad .bool]) [] vg x9
def T5:=aZ 28 [.row 1,ad ao,.row 5,.row 1,ad ao] (.bf [.row 5,ad ao])
def Rp:=bR 0 [(4,aB 0 0),(5,aB 1 0),(6,aB 2 0),(7,aB 3 0),(21,ad (aO 4)),(22,ad ao),(23,ad ao)] [ck (aO 2),.bk 2,ck (aO 2),.bk 2] [dR 8 ao,bp (.exit 0) [(5,aB 0 0),(7,aB 1 0)] [.bk 2,.bk 2]]
def Rq:=bR 1 [(7,aB 0 0),(73,ad (aO 4)),(74,ad ao),(75,ad ao)] [.bk 2] [dR 8 ao,fq 2]
def Ta:=aZ 126 [.row 1,.row 2,.row 1,.row 2] (ad ao) [Rp,Rq]
def UA:=aZ 70 [.row 1,ad ao,.row 1,ad ao] (ad ao)
def Ue:=aZ 45 [.row 1,ad ao,.row 1,ad ao] (.bf [ad ao,ad ao])
def Gy:=aZ 21 [.row 9,.row 8] (ad .bool)
def QQ:=bR 0 [(0,.c (.arr 0)),(3,aB 1 0),(7,ad ao),(8,ad ao)] [.arr (.nm 8),.bk 8] [bp .ret [(4,ad ao)] nR,bp (.exit 0) [] nR]
def Ud:=aZ 44 [.c (.arr 0),.row 8] (ad ao) [QQ] nR nR
def TB:=aZ 18 [.c (.arr 0),.row 8] (ad .bool) [] nR nR
def Tb:=aZ 127 [ad ao,ad ao,aB 0 0] (.bf []) [] [.box [.arr 1],.arr (.nm 8)] [.box [.arr 2],.gone,.arr (.nm 8)]
def UC:=bR 0 [(9,aB 0 0),(10,aB 1 0),(11,aB 2 0),(12,.c (.fn 127 [2])),(35,ad (aO 4)),(36,ad ao),(37,ad ao)] [.bk 2,.bk 2,.box [.arr 3],.arr (.nm 8)] [bp (.exit 0) [(9,aB 0 0),(10,aB 1 0),(11,aB 2 0),(12,.c (.fn 127 [2]))] [.bk 2,.bk 2,.box [.arr 3],.arr (.nm 8)]] [] [(.via 11 0,.nm 8)]
def UB:=aZ 71 [.row 1,ad ao,.row 1,ad ao] (ad (aO 8)) [UC]
def Uh:=aZ 47 [.row 1,ad ao,.row 1,ad ao] (.bf [ad (aO 8),ad ao])
def GA:=aZ 23 [.row 9,.row 8] (ad (aO 8))
def pv:=aZ 9 [.row 0,.row 0,ad (aO 8)] (ad .bool)
def Tf:=aZ 130 [aB 0 0,ad ao] (.bf [.row 5,ad .bool]) [] vh [.box [.hole (aO 2),.arr 2,.arr 3,.hole ao],.gone,.arr ao,.arr ao]
def Rr:=bR 0 [(0,ad .str),(4,ad (.int .u64)),(17,ad ao),(18,ad ao)] [] [bp (.exit 0) [(4,ad (.int .u64))]]
def Tg:=aZ 131 [ad .str] (.bf [ad (.int .u64),ad ao]) [Rr]
def Th:=aZ 132 [ad (.int .u64)] (ad ao)
def pt:=aZ 133 [aB 0 0,ad ao,ad ao,ad .str] (.bf [.row 5,ad .bool]) [] vh x'
def Rs:=bR 0 [(0,ad .str),(5,ad (.int .u64)),(10,ad ao),(11,ad ao)] [] [bp .ret [(2,ad (.int .u64)),(3,ad ao),(4,ad ao)],fq 0]
def T1:=aZ 249 [ad .str] (.bf [ad (.int .u64),ad ao,ad ao]) [Rs]
def TZ:=aZ 234 [ad .str] (.bf [ad (.int .u64),ad .str,ad .bool])
def TG:=aZ 195 [ad .str] (.bf [ad ao,ad .str,ad ao])
def Ct:=aZ 134 [aB 0 0,.row 2,ad .str] (.bf [.row 5,ad .bool]) [] vh x'
def T0:=aZ 235 [ad .str] (.bf [ad .str,ad .str,ad .bool])
def Rt:=bR 0 [(4,.c (.arr 0)),(5,ad .str)] [.arr .str] [bp .ret F2,bp (.exit 0) F5 [.arr .str]] [] [(.slot 4,.str)]
def TH:=aZ 196 [ad .str] (.bf [ad j8,ad ao]) [Rt]
def Bn:=bR 0 [(0,aB 0 0),(4,aB 2 0),(6,aB 3 0),(10,aB 4 0),(38,ad j8),(39,ad ao),(40,ad ao)] Kk [bp .ret yc FZ,bp (.exit 0) Kr [.box Km,.gone,.box mK,.box [.hole ao,.hole .bool,.hole ao,.hole .str,.hole ao,.bV,.arr 5,.bV],.arr ao,.arr (.nm 5)]] [] [(.via 10 6,.nm 5)]
def Cu:=aZ 135 [aB 0 0,.row 2,ad .str] (.bf [.row 5,ad .bool]) [Bn] vh x'
def Bo:=bR 0 [(0,aB 0 0),(4,aB 2 0),(6,aB 3 0),(8,ad j8),(10,aB 4 0),(11,ad ao)] FX [bp .ret yc FZ,bp (.exit 0) WE FX] [] [(.via 10 5,.nm 5)]
def Ru:=bR 1 [(0,aB 0 0),(4,aB 2 0),(6,aB 3 0),(8,ad j8),(10,aB 4 0),(14,ad ao)] FX [bp .ret yc Wv,bp (.exit 2) WE FX]
def Bp:=bR 2 [(0,aB 0 0),(4,aB 2 0),(6,aB 3 0),(8,ad j8),(10,aB 4 0),(15,ad ao)] [.box F0,.gone,.bk 2,.box mK,.box [.hole ao,.hole .bool,.hole ao,.hole .str,.hole ao,.arr 6,.arr 7,.bV],.arr ao,.arr (.nm 5),.arr (.nm 5)] [bp .ret yc FZ,bp (.exit 4) Kr [.box Km,.gone,.box mK,.box [.hole ao,.hole .bool,.hole ao,.hole .str,.hole ao,.arr 5,.arr 6,.bV],.arr ao,.arr (.nm 5),.arr (.nm 5)]] [] [(.via 10 6,.nm 5)]
def Cv:=aZ 136 [aB 0 0,.row 2,ad .str] (.bf [.row 5,ad .bool]) [Bo,Ru,Bp] vh x'
def Rv:=bR 0 [(4,.c (.arr 0)),(5,ad (.int .u64)),(6,ad .str)] F6 [bp .ret F2,bp (.exit 0) F5 F6] [] [(.slot 4,.nm 11)]
def TI:=aZ 197 [ad .str] (.bf [ad (aO 11),ad ao]) [Rv]
def TK:=aZ 199 [.row 11,aB 0 0] (ad .bool) [] [.bk 4] [.bk 4]
def Rw:=bR 0 [(0,ad (aO 11)),(1,.c (.fn 199 [0])),(7,ad ao),(8,ad ao)] [.bk 4] [bp .ret [(4,ad ao)] [.bk 4],bp (.exit 0) [] [.bk 4]]
def TJ:=aZ 198 [ad (aO 11),.c (.fn 199 [0])] (ad ao) [Rw] [.bk 4] [.bk 4]
def Bq:=bR 0 WB ya [bp (.exit 0) F3 ya]
def Br:=bR 1 WC WO [bp (.exit 2) F3 ya]
def vG:=aZ 200 [.row 5] (.row 5) [Bq,Br]
def Bs:=bR 0 [(0,aB 0 0),(4,aB 2 0),(6,aB 3 0),(8,ad (aO 11)),(10,aB 4 0),(39,ad (aO 4)),(40,ad ao),(41,ad ao)] Kk [bp .ret yc FZ,bp (.exit 0) [(0,aB 0 0),(4,aB 2 0),(6,aB 3 0),(8,ad (aO 11)),(10,aB 4 0)] Kk] [] [(.via 10 6,.nm 5)]
def Rx:=bR 1 [(0,aB 0 0),(4,aB 2 0),(6,aB 3 0),(10,aB 4 0),(117,ad (aO 11)),(118,ad ao),(119,ad ao)] [.box F0,.gone,.bk 2,.box mK,.box Wy,.arr ao,.arr (.nm 5),.arr (.nm 6)] [bp .ret yc Wv,bp (.exit 3) Kr [.box Km,.gone,.box mK,.box Wx,.arr ao,.arr (.nm 5),.arr (.nm 6)]] [] [(.via 10 7,.nm 6)]
def Cw:=aZ 137 [aB 0 0,.row 2,ad .str] (.bf [.row 5,ad .bool]) [Bs,Rx] vh x'
def yH:=aZ 73 [aB 0 0,ad ao,ad .str] (.bf [.row 5,ad .bool]) [] vh x'
def Ui:=aZ 48 [.row 1,ad ao,ad .str] (.bf [.row 5,.row 12,ad ao])
def T2:=aZ 25 [.row 1,ad ao,ad .str] (.bf [.row 5,ad ao])
def pq:=aZ 10 [.row 0,.row 0,ad .str] (ad .bool)
def aih:=bR 0 [(2,ad (aO 8)),(7,aB 0 0),(8,ad ao)] WH [dR 6 .bool,bp (.exit 0) [(2,ad (aO 8)),(7,aB 0 0)] WH]
def Gl:=aZ 11 [.row 0,.row 0,ad (aO 8)] (ad .bool) [aih]
def T8:=aZ 33 [.row 8] (ad .bool)
def Ug:=bR 0 [(0,ad (aO 8)),(1,.c (.fn 33 [])),(7,ad ao),(8,ad ao)] [] [dR 4 ao,fq 0]
def Uf:=aZ 46 [ad (aO 8),.c (.fn 33 [])] (ad ao) [Ug]
def TQ:=aZ 22 [ad (aO 8),.c (.fn 33 [])] (ad .bool)
def Te:=aZ 13 [.row 7] (ad .bool)
def k':=aZ 6 [.row 0,.row 0,.row 7] (ad .bool)
def ai1:=aZ 54 [aB 0 0,ad (.int .u8)] (.c (.dead)) [] vi WQ
def aiQ:=bR 0 [(0,ad .str),(3,aB 0 0),(8,ad ao),(9,ad ao)] vi [bp (.exit 0) [(3,aB 0 0)] vi]
def aiP:=aZ 29 [ad .str] (ad .str) [aiQ]
def aij:=bR 0 [(3,aB 0 0),(21,ad (aO 8)),(22,ad ao),(23,ad ao)] vi [bp (.exit 1) [(3,aB 0 0)] vi]
def qT:=aZ 12 [.row 7] (ad .str) [aij]
def gH:=aZ 4 [] (ad .bool)
def Uq:=bR 0 [(1,aB 0 0),(3,ad ao),(8,ad (aO 2)),(9,ad ao),(10,ad ao)] [.bk 0] [bp (.exit 0) Ks [.bk 0]]
def mq:=aZ 5 [.row 0] (ad .bool) [Uq]
def Tt:=bR 0 Ks [.bk 7] [dR 2 .bool,bp (.exit 0) [(1,aB 0 0)] [.bk 7]]
def aik:=aZ 14 [.row 7] (ad .bool) [Tt]
def aiq:=aZ 167 [.row 2] (.row 2)
def Bt:=bR 0 [(0,ad (aO 5)),(1,ad (aO 5)),(5,ad ao)] [] [dR 4 .bool,fq 0]
def Gz:=aZ 222 [ad (aO 5),ad (aO 5)] (ad .bool) [Bt]
def Ry:=bR 0 Ko [.bk 5,.bk 5] [dR 4 .bool,bp (.exit 0) F4 [.bk 5,.bk 5]]
def Cz:=aZ 177 [.row 5,.row 5] (ad .bool) [Ry]
def aiI:=aZ 218 [.row 4,.row 4] (ad .bool)
def Rz:=bR 0 Ko [.bk 2,.bk 2] [dR 4 .bool,bp (.exit 0) F4 [.bk 2,.bk 2]]
def RA:=bR 1 [(2,aB 0 0),(3,aB 1 0),(6,ad ao)] [.bk 2,.bk 2] [dR 4 .bool,fq 2]
def aip:=aZ 166 [.row 2,.row 2] (ad .bool) [Rz,RA]
def ajd:=aZ 98 [ad ao] (ad .bool)
def aiJ:=aZ 219 [ad (.int .u8)] (ad .bool)
def aiK:=aZ 220 [ad (.int .u8)] (ad .bool)
def RB:=bR 0 [(0,ad .str),(3,ad ao)] [] [dR 2 .bool,fq 0]
def air:=aZ 168 [ad .str] (ad .bool) [RB]
def aiL:=aZ 221 [ad ao,ad ao] (ad .bool)
def Pr:=bR 0 [(0,ad (aO 3)),(4,ad ao),(5,ad ao)] [] [dR 2 .bool,bp (.exit 2) [(0,ad (aO 3)),(4,ad ao)]]
def Q8:=bR 0 [(0,ad (aO 3)),(3,ad ao),(4,ad ao)] [] [dR 2 .bool,bp (.exit 0) [(0,ad (aO 3))]] [Pr]
def ais:=aZ 169 [ad (aO 3)] (ad .bool) [Q8]
def Ps:=bR 0 [(0,ad (aO 4)),(1,ad .bool),(6,ad ao),(7,aB 0 0),(8,ad ao)] [.bk 4] [dR 4 .bool,bp (.exit 2) [(0,ad (aO 4)),(1,ad .bool),(6,ad ao),(7,aB 0 0)] [.bk 4]]
def Q9:=bR 0 [(0,ad (aO 4)),(1,ad .bool),(5,ad ao),(6,ad ao)] [] [dR 4 .bool,bp (.exit 0) [(0,ad (aO 4)),(1,ad .bool)]] [Ps]
def ait:=aZ 170 [ad (aO 4),ad .bool] (ad .bool) [Q9]
def ajc:=aZ 97 [.row 2] (ad .bool)
def UY:=bR 0 Kn [.bk 2,.arr ao] [bp (.exit 0) [(1,aB 0 0),(3,.c (.arr 1))] [.bk 2,.arr ao]] [] [(.slot 3,ao)]
def aje:=aZ 99 [.row 2] (ad dP) [UY]
def ah2:=aZ 100 [ad ao] (ad .bool)
def QR:=bR 0 [(1,aB 0 0),(3,ad ao),(4,aB 1 0),(5,ad ao)] [ck (aO 2),.box jL] [dR 2 ao,bp (.exit 2) [(1,aB 0 0),(3,ad ao),(4,aB 1 0)] [ck (aO 2),.box jL]]
def QS:=bR 1 [(1,aB 0 0),(3,ad ao),(4,aB 1 0),(6,ad dP),(7,ad ao)] [ck (aO 2),.box jL] [dR 2 ao,bp (.exit 4) [(1,aB 0 0),(3,ad ao),(4,aB 1 0)] [ck (aO 2),.box jL]]
def Uu:=bR 0 Ks [ck (aO 2)] [dR 2 ao,fq 0] [QR,QS]
def ai7:=aZ 62 [.row 1] (ad ao) [Uu]
def aia:=aZ 111 [.row 5] (ad .bool)
def UX:=bR 0 [(1,ad ao),(2,aB 0 0),(6,ad ao)] [.bk 2] [bp .ret [(4,ad ao),(5,ad .bool)],fq 0]
def aja:=aZ 95 [.row 2,ad ao] (.bf [ad ao,ad .bool]) [UX]
def aib:=aZ 112 [ad ao,ad .bool] (ad .bool)
def Ut:=bR 0 [(1,ad ao),(2,aB 0 0),(6,ad ao)] [.bk 2] [bp .ret [(4,ad ao),(5,ad .bool)],fq 0]
def ai6:=aZ 61 [.row 2,ad ao] (.bf [ad ao,ad .bool]) [Ut]
def Q':=bR 0 [(1,ad (aO 6)),(2,aB 0 0),(5,ad ao)] [.bk 2] [dR 4 .bool,fq 0]
def aic:=aZ 113 [.row 2,ad (aO 6)] (ad .bool) [Q']
def Bu:=bR 0 [(1,ad ao),(2,ad (aO 5)),(3,ad .bool),(4,aB 0 0),(9,ad ao)] [ck (aO 2)] [dR 8 .bool,fq 0]
def Gm:=aZ 114 [.row 1,ad ao,ad (aO 5),ad .bool] (ad .bool) [Bu]
def aiE:=aZ 186 [ad .bool,ad .bool] (ad ao)
def aix:=aZ 174 [ad ao] (ad (.int .u64))
def aid:=aZ 115 [.row 5,.row 5] (ad ao)
def yE:=bR 0 [(3,ad .bool),(4,aB 0 0),(6,aB 1 0),(9,aB 2 0),(12,ad ao)] [ck (aO 2),.bk 5,.box jL] [dR 8 .bool,fq 1]
def Uw:=bR 1 [(6,aB 0 0),(15,ad ao)] [.bk 5] [dR 8 .bool,fq 3]
def vH:=aZ 65 [.row 1,ad ao,.row 5,ad .bool] (ad .bool) [yE,Uw]
def aiZ:=aZ 41 [.row 1,ad ao,.row 5] (ad .bool)
def OK:=bR 0 [(1,aB 0 0),(6,ad ao),(7,ad (aO 4)),(8,ad ao)] [ck (aO 2)] [bp .ret F1,bp (.exit 2) [(1,aB 0 0),(6,ad ao)] [ck (aO 2)]]
def Ra:=bR 0 [(1,aB 0 0),(6,ad ao)] [ck (aO 2)] [bp .ret F1,fq 0] [OK]
def aiN:=aZ 247 [.row 1] (.bf [ad ao,ad ao,ad ao]) [Ra]
def aiG:=aZ 216 [.row 1] (ad ao)
def Rb:=bR 0 [(1,.c (.arr 0)),(2,aB 1 0),(5,ad ao),(6,ad ao)] [.arr ao,.bk 2] [bp (.exit 1) [(5,ad ao)] [.arr ao]]
def Rc:=bR 1 [(1,.c (.arr 0)),(2,aB 1 0),(7,ad ao),(8,ad ao)] [.arr ao,.bk 2] [bp (.exit 3) [(7,ad ao)] [.arr ao]]
def aiO:=aZ 248 [.row 2,.c (.arr 0)] (ad ao) [Rb,Rc] [.arr ao] [.arr ao]
def OL:=bR 0 [(1,aB 0 0),(3,.c (.arr 1)),(4,ad ao),(5,ad ao)] [ck (aO 2),.arr ao] [bp (.exit 2) Kn [ck (aO 2),.arr ao]]
def Re:=bR 0 Kn [ck (aO 2),.arr ao] [bp (.exit 0) [(3,.c (.arr 0))] [.arr ao]] [OL]
def aiH:=aZ 217 [.row 1] (ad dP) [Re]
def Rf:=bR 0 [(5,ad dP),(6,.c (.arr 0)),(7,ad ao)] [.arr .bool] [bp (.exit 0) [(6,.c (.arr 0))] [.arr .bool]] [] [(.slot 6,.bool)]
def ain:=aZ 164 [.row 1] (.bf [ad (.slice .bool),ad ao]) [Rf]
def UW:=bR 0 [(3,ad (.slice .bool)),(5,ad ao)] [] [dR 2 ao,fq 0]
def ai':=aZ 94 [.row 1] (ad ao) [UW]
def ai2:=aZ 57 [.row 1,ad ao] (ad ao)
def aiR:=aZ 34 [.row 0,.row 0] (ad ao)
def QT:=bR 0 [(0,ad (aO 8)),(3,aB 0 0),(5,ad ao)] [.bk 8] [dR 4 .bool,fq 0]
def aiS:=aZ 35 [ad (aO 8),.row 8] (ad .bool) [QT]
def aiU:=aZ 36 [.row 0,.row 0,.row 8] (ad .bool)
def Un:=bR 0 [(1,aB 0 0),(3,ad ao),(4,ad ao)] [.bk 2] [bp (.exit 1) [(3,ad ao)]]
def ai3:=aZ 58 [.row 2] (ad ao) [Un]
def Uo:=bR 0 Ko [.bk 2,.bk 2] [dR 4 .bool,bp (.exit 0) F4 [.bk 2,.bk 2]]
def Up:=bR 1 [(2,aB 0 0),(3,aB 1 0),(8,ad ao)] [.bk 2,.bk 2] [dR 4 .bool,fq 2]
def ai4:=aZ 59 [.row 2,.row 2] (ad .bool) [Uo,Up]
def ah9:=aZ 108 [.row 1,ad ao] (ad ao)
def ai9:=aZ 66 [.row 1,ad ao,.row 5,.row 1,ad ao] (ad ao)
def aie:=aZ 116 [ad dP] (.row 13)
def Rg:=bR 0 [(0,ad (.int .u64)),(3,ad .str)] [] [bp (.exit 0) [(3,ad .str)]]
def aiw:=aZ 173 [ad (.int .u64)] (ad .str) [Rg]
def Su:=bR 0 [(0,ad (.int .u64)),(3,.c (.arr 0))] yd [bp (.exit 0) [(0,ad (.int .u64)),(3,.c (.arr 0))] yd] [] [(.slot 3,.int .u8)]
def aiy:=aZ 175 [ad (.int .u64)] (ad .str) [Su]
def aiz:=aZ 176 [ad .str] (ad .str)
def aiA:=aZ 178 [ad ao,ad .bool,ad .str] (ad .str)
def OM:=bR 0 [(3,aB 0 0),(5,aB 1 0),(7,aB 2 0),(14,ad .str),(15,ad ao),(19,ad ao)] [ck (aO 2),.bk 5,.bk 2] [bp (.exit 7) WD [ck (aO 2),.bk 5,.bk 2]]
def Bv:=bR 0 [(3,aB 0 0),(5,aB 1 0),(7,aB 2 0),(10,ad .str),(11,ad ao)] [ck (aO 2),.bk 5,.bk 2] [bp (.exit 1) [(10,ad .str)]]
def Bw:=bR 1 [(3,aB 0 0),(5,aB 1 0),(7,aB 2 0),(12,ad .str),(13,ad ao)] [ck (aO 2),.bk 5,.bk 2] [bp (.exit 3) [(12,ad .str)]]
def Bx:=bR 2 WD [ck (aO 2),.bk 5,.bk 2] [bp (.exit 5) [(14,ad .str)]] [OM]
def s4:=aZ 107 [.row 1,ad ao,.row 5] (ad .str) [Bv,Bw,Bx]
def aii:=aZ 120 [.row 5] (.row 13)
def aif:=aZ 119 [ad dP,ad ao] (ad dP)
def Gn:=aZ 117 [.row 1,.row 2,.row 5,.row 1,.row 2,ad dP] (.row 13)
def aio:=aZ 165 [.row 5,.row 5] (ad .bool)
def aiF:=aZ 187 [.row 4,.row 5] (ad .bool)
def By:=bR 0 [(5,ad dP),(6,aB 0 0),(7,aB 1 0),(8,aB 2 0),(9,aB 3 0),(10,aB 4 0),(12,aB 5 0),(13,aB 6 0),(14,ad ao)] [ck (aO 2),.bk 2,.bk 5,ck (aO 2),.bk 2,.box sN,.box [.hole ao,.hole .bool,.hole ao,.hole .str,.hole ao,.bV,.arr 7,.bV],.arr (.nm 5)] [bp .ret [(12,aB 0 0)] [.bk 13],bp (.exit 0) [(5,ad dP),(6,aB 0 0),(7,aB 1 0),(8,aB 2 0),(10,aB 3 0),(12,aB 4 0),(13,aB 5 0)] [ck (aO 2),.bk 2,.bk 5,.bk 2,.box sN,.box [.hole ao,.hole .bool,.hole ao,.hole .str,.hole ao,.bV,.arr 6,.bV],.arr (.nm 5)]] [] [(.via 13 6,.nm 5)]
def Sv:=bR 1 [(5,ad dP),(6,aB 0 0),(7,aB 1 0),(8,aB 2 0),(10,aB 3 0),(12,aB 4 0),(13,aB 5 0),(20,ad ao)] [ck (aO 2),.bk 2,.bk 5,.bk 2,.box sN,.box Wy,.arr (.nm 5),.arr (.nm 6)] [bp .ret [(12,aB 0 0)] [.bk 13],bp (.exit 2) [(12,aB 0 0),(13,aB 1 0)] [.box sN,.box Ww,.arr (.nm 5),.arr (.nm 6)]] [] [(.via 13 7,.nm 6)]
def Gp:=aZ 118 [.row 1,.row 2,.row 5,.row 1,.row 2,ad dP] (.row 13) [By,Sv]
def yF:=bR 0 [(5,ad dP),(6,aB 0 0),(8,aB 1 0),(9,aB 2 0),(12,aB 3 0),(13,aB 4 0),(14,aB 5 0),(17,aB 6 0),(18,ad ao)] [ck (aO 2),.bk 5,ck (aO 2),.box sN,.bk 2,.bk 2,.box Wu,.arr (.nm 5)] [bp .ret [(12,aB 0 0)] [.bk 13],bp (.exit 0) [(5,ad dP),(6,aB 0 0),(8,aB 1 0),(9,aB 2 0),(12,aB 3 0),(13,aB 4 0),(14,aB 5 0),(17,aB 6 0)] [ck (aO 2),.bk 5,ck (aO 2),.box sN,.bk 2,.bk 2,.box Wu,.arr (.nm 5)]] [] [(.via 17 5,.nm 5)]
def yG:=bR 1 [(5,ad dP),(6,aB 0 0),(8,aB 1 0),(9,aB 2 0),(12,aB 3 0),(13,aB 4 0),(14,aB 5 0),(17,aB 6 0),(20,ad ao)] [ck (aO 2),.bk 5,ck (aO 2),.box sN,.bk 2,.bk 2,.box [.hole ao,.hole .bool,.hole ao,.hole .str,.hole ao,.arr 7,.arr 8,.hole (aO 6)],.arr (.nm 5),.arr (.nm 5)] [bp .ret [(12,aB 0 0)] [.bk 13],bp (.exit 2) [(12,aB 0 0),(17,aB 1 0)] [.box sN,.box [.hole ao,.hole .bool,.hole ao,.hole .str,.hole ao,.arr 2,.arr 3,.hole (aO 6)],.arr (.nm 5),.arr (.nm 5)]] [] [(.via 17 6,.nm 5)]
def s7:=aZ 67 [.row 1,ad ao,.row 5,.row 1,ad ao,ad dP] (.row 13) [yF,yG]
def ai0:=aZ 42 [.row 1,ad ao,.row 5,.row 1,ad ao] (.bf [.row 5,ad ao])
def ajb:=aZ 96 [.row 1,ad ao,.row 5,.row 1,ad ao,.row 5] (ad .bool)
def Ur:=bR 0 [(4,aB 0 0),(5,aB 1 0),(6,aB 2 0),(7,aB 3 0),(9,ad ao)] [ck (aO 2),.bk 2,ck (aO 2),.bk 2] [dR 8 ao,bp (.exit 0) [(5,aB 0 0),(7,aB 1 0)] [.bk 2,.bk 2]]
def Us:=bR 1 [(5,aB 0 0),(7,aB 1 0),(13,ad ao)] [.bk 2,.bk 2] [dR 8 ao,fq 2]
def ai5:=aZ 60 [.row 1,.row 2,.row 1,.row 2] (ad ao) [Ur,Us]
def aiV:=aZ 37 [.row 1,ad ao,.row 1,ad ao] (ad ao)
def QU:=bR 0 [(0,.c (.arr 0)),(3,aB 1 0),(5,ad ao)] [.arr (.nm 8),.bk 8] [bp .ret [(4,ad .bool)] nR,bp (.exit 0) [] nR]
def aiT:=aZ 35 [.c (.arr 0),.row 8] (ad .bool) [QU] nR nR
def T9:=bR 0 [(9,aB 0 0),(10,aB 1 0),(11,.c (.arr 2)),(12,ad ao)] [.bk 2,.bk 2,.arr (.nm 8)] [bp (.exit 0) [(9,aB 0 0),(10,aB 1 0),(11,.c (.arr 2))] [.bk 2,.bk 2,.arr (.nm 8)]] [] [(.slot 11,.nm 8)]
def T':=bR 1 [(11,.c (.arr 0)),(15,.c (.arr 1)),(16,ad ao)] [.arr (.nm 8),.arr (.nm 8)] [bp (.exit 2) [(15,.c (.arr 0))] nR] [] [(.slot 15,.nm 8)]
def aiW:=aZ 38 [.row 1,ad ao,.row 1,ad ao] (ad (aO 8)) [T9,T']
def QV:=bR 0 [(2,ad (aO 8)),(3,aB 0 0),(4,aB 1 0),(7,ad ao),(8,ad (aO 8)),(9,ad ao)] [.bk 0,.bk 0] [dR 6 .bool,bp (.exit 2) WK [.bk 0,.bk 0]]
def Ty:=bR 0 WK [.bk 0,.bk 0] [dR 6 .bool,fq 0] [QV]
def ail:=aZ 15 [.row 0,.row 0,ad (aO 8)] (ad .bool) [Ty]
def Sw:=bR 0 [(0,ad .str),(4,ad (.int .u64)),(5,ad ao)] [] [bp (.exit 0) [(4,ad (.int .u64))]]
def ah3:=aZ 101 [ad .str] (.bf [ad (.int .u64),ad ao]) [Sw]
def ah4:=aZ 102 [ad (.int .u64)] (ad ao)
def Sx:=bR 0 [(0,ad .str),(5,ad (.int .u64)),(6,ad (.int .u64)),(7,ad ao)] [] [bp .ret [(2,ad (.int .u64)),(3,ad ao),(4,ad ao)],fq 0]
def aiu:=aZ 171 [ad .str] (.bf [ad (.int .u64),ad ao,ad ao]) [Sx]
def ah5:=aZ 103 [ad .str] (.bf [ad ao,ad .str,ad ao])
def aiv:=aZ 172 [ad .str] (.bf [ad .str,ad .str,ad .bool])
def Sy:=bR 0 [(0,ad .str),(4,.c (.arr 0))] [.arr .str] [bp .ret F2,bp (.exit 0) F5 [.arr .str]] [] [(.slot 4,.str)]
def ah6:=aZ 104 [ad .str] (.bf [ad j8,ad ao]) [Sy]
def ah7:=aZ 105 [ad .str,ad .str] (ad .bool)
def Sz:=bR 0 [(0,ad .str),(4,.c (.arr 0)),(5,ad ao)] F6 [bp .ret F2,bp (.exit 0) F5 F6] [] [(.slot 4,.nm 11)]
def ah8:=aZ 106 [ad .str] (.bf [ad (aO 11),ad ao]) [Sz]
def QW:=bR 0 [(3,ad ao),(4,aB 0 0),(9,aB 1 0),(27,ad (aO 11)),(29,ad ao),(30,aB 2 0),(31,ad ao),(32,ad ao)] [ck (aO 2),.box jL,.bk 4] [bp (.exit 7) [(3,ad ao),(4,aB 0 0),(9,aB 1 0),(27,ad (aO 11)),(29,ad ao),(30,aB 2 0),(31,ad ao)] [ck (aO 2),.box jL,.bk 4]]
def yB:=bR 0 [(3,ad ao),(4,aB 0 0),(9,aB 1 0),(21,ad j8),(22,ad ao),(23,ad ao)] [ck (aO 2),.box jL] [dR 8 .bool,bp (.exit 1) [(9,aB 0 0),(21,ad j8),(22,ad ao)] Kq]
def yC:=bR 1 [(3,ad ao),(4,aB 0 0),(9,aB 1 0),(24,ad j8),(26,ad ao)] [ck (aO 2),.box jL] [dR 8 .bool,fq 3]
def yD:=bR 2 [(3,ad ao),(4,aB 0 0),(9,aB 1 0),(27,ad (aO 11)),(29,ad ao)] [ck (aO 2),.box jL] [dR 8 .bool,bp (.exit 5) [(9,aB 0 0),(27,ad (aO 11))] Kq] [QW]
def Uv:=bR 4 [(9,aB 0 0),(27,ad (aO 11)),(33,ad ao)] Kq [dR 8 .bool,fq 9]
def s6:=aZ 63 [.row 1,ad ao,ad .str,ad ao] (ad .bool) [yB,yC,yD,Uv]
def aiX:=aZ 39 [.row 1,ad ao,ad .str] (ad .bool)
def ah':=aZ 109 [ad dP,ad ao] (.row 14)
def aiB:=aZ 179 [ad .str] (.bf [ad (.int .u64),ad .bool])
def aiC:=aZ 180 [ad dP,ad ao] (ad dP)
def aiD:=aZ 185 [.row 5] (.row 14)
def Gr:=aZ 181 [.row 1,.row 2,ad .str,ad ao,ad dP] (.row 14)
def Bz:=bR 0 WR [ck (aO 2),.bk 2,.box mL,.box WA,.arr (.nm 5)] [bp .ret [(10,aB 0 0)] [.bk 14],bp (.exit 0) Kp [.box mL,.box [.hole ao,.hole .bool,.hole ao,.hole .str,.hole ao,.bV,.arr 2,.bV],.arr (.nm 5)]] [] [(.via 13 6,.nm 5)]
def Gs:=aZ 182 [.row 1,.row 2,ad .str,ad ao,ad dP] (.row 14) [Bz]
def BA:=bR 0 WR [ck (aO 2),.bk 2,.box mL,.box FY,.arr (.nm 5)] [bp .ret [(10,aB 0 0)] [.bk 14],bp (.exit 0) Ws [ck (aO 2),.bk 2,.box mL,.box FY,.arr (.nm 5)]] [] [(.via 13 5,.nm 5)]
def SA:=bR 1 [(3,ad ao),(4,ad dP),(5,aB 0 0),(6,aB 1 0),(10,aB 2 0),(11,ad j8),(13,aB 3 0),(16,ad ao)] [ck (aO 2),.bk 2,.box mL,.box FY,.arr (.nm 5)] [bp .ret [(10,aB 0 0)] [.bk 14],bp (.exit 2) Ws [ck (aO 2),.bk 2,.box mL,.box FY,.arr (.nm 5)]]
def BB:=bR 2 [(3,ad ao),(4,ad dP),(5,aB 0 0),(6,aB 1 0),(10,aB 2 0),(11,ad j8),(13,aB 3 0),(17,ad ao)] [ck (aO 2),.bk 2,.box mL,.box [.hole ao,.hole .bool,.hole ao,.hole .str,.hole ao,.arr 4,.arr 5,.bV],.arr (.nm 5),.arr (.nm 5)] [bp .ret [(10,aB 0 0)] [.bk 14],bp (.exit 4) Kp [.box mL,.box [.hole ao,.hole .bool,.hole ao,.hole .str,.hole ao,.arr 2,.arr 3,.bV],.arr (.nm 5),.arr (.nm 5)]] [] [(.via 13 6,.nm 5)]
def Gt:=aZ 183 [.row 1,.row 2,ad .str,ad ao,ad dP] (.row 14) [BA,SA,BB]
def SB:=bR 0 [(0,ad (aO 11)),(1,ad ao),(5,ad ao)] [] [dR 4 ao,fq 0]
def aiM:=aZ 223 [ad (aO 11),ad ao] (ad ao) [SB]
def BC:=bR 0 [(3,ad ao),(4,ad dP),(5,aB 0 0),(6,aB 1 0),(10,aB 2 0),(11,ad (aO 11)),(13,aB 3 0),(14,ad ao)] [ck (aO 2),.bk 2,.box mL,.box WA,.arr (.nm 5)] [bp .ret [(10,aB 0 0)] [.bk 14],bp (.exit 0) [(4,ad dP),(6,aB 0 0),(10,aB 1 0),(11,ad (aO 11)),(13,aB 2 0)] [.bk 2,.box mL,.box [.hole ao,.hole .bool,.hole ao,.hole .str,.hole ao,.bV,.arr 3,.bV],.arr (.nm 5)]] [] [(.via 13 6,.nm 5)]
def SC:=bR 1 [(4,ad dP),(6,aB 0 0),(10,aB 1 0),(11,ad (aO 11)),(13,aB 2 0),(18,ad ao)] [.bk 2,.box mL,.box [.hole ao,.hole .bool,.hole ao,.hole .str,.hole ao,.bV,.arr 3,.arr 4],.arr (.nm 5),.arr (.nm 6)] [bp .ret [(10,aB 0 0)] [.bk 14],bp (.exit 2) Kp [.box mL,.box Ww,.arr (.nm 5),.arr (.nm 6)]] [] [(.via 13 7,.nm 6)]
def Gu:=aZ 184 [.row 1,.row 2,ad .str,ad ao,ad dP] (.row 14) [BC,SC]
def pr:=aZ 110 [.row 1,ad ao,ad .str,ad ao,ad dP] (.row 14)
def ai8:=aZ 64 [.row 1,ad ao,ad .str] (.bf [.row 14,ad ao])
def aiY:=aZ 40 [.row 1,ad ao,ad .str] (.bf [.row 5,ad ao])
def aim:=aZ 16 [.row 0,.row 0,ad .str] (ad .bool)
def qW:=aZ 7 [.row 0,.row 0,.row 7] (ad .bool)
def c3:=aZ 3 [.row 0,.row 0,.row 7] (ad .bool)
def akH:I eD:=[Ud,TB,e8,TW,TR,Fp,yx,TY,TX,TF,TS,TT,TC,TU,TD,TV,TE,Tc,Td,UD]
def akI:I eD:=[Ti,UF,Tk,Tj,UG,UH,Tm,Tl,UI,Cy,CA,Cx,CB,UO,TL,Tn,TM,Tp,TN,Tq]
def akJ:I eD:=[To,UJ,s5,T3,Tz,S6,TA,S7,Ux,Ua,Gq,Uc,Gv,Gw,Gx,S8,Uz,S9,S',US]
def akK:I eD:=[Um,UT,Tw,vE,vF,Fq,yw,Tx,Tv,UR,Tu,TO,TP,UK,UL,Ul,UM,Tr,T6,T7]
def akL:I eD:=[CC,CD,qV,T4,qU,CE,CF,CG,yA,T5,Ta,UA,Ue,Gy,Tb,UB,Uh,GA,Tf,Tg]
def akM:I eD:=[Th,pt,T1,TZ,TG,Ct,T0,TH,Cu,Cv,TI,TK,TJ,vG,Cw,yH,Ui,T2,pq,Gl]
def akN:I eD:=[T8,Uf,TQ,Te,k',ai1,aiP,qT,gH]
def nL:I eD:=akH++akI++akJ++akK++akL++akM++akN
theorem oR:nL.all (u1 prog):=by kernel_rfl
def nb:cP bM:={H3 with F:=HB (α:=bM.D 10) lR}
theorem og:fz prog nb:=⟨H4.1,λh r a=>H4.2 h r (afL HD _ r a)⟩
noncomputable def vS:cP bM:=pv.s (BE (kr prog nL [l5,l8,l',nb,mc,mb] 3000 Gq) (kr prog nL [l5,l8,l',nb,mc,mb] 3000 Gv) (kr prog nL [l5,l8,l',nb,mc,mb] 3000 Gw) (kr prog nL [l5,l8,l',nb,mc,mb] 3000 Gx) (kr prog nL [l5,l8,l',nb,mc,mb] 3000 Gy) (kr prog nL [l5,l8,l',nb,mc,mb] 3000 GA))
theorem zk:fz prog vS:=RQ (.run oR (.k lA (.k l9 (.k ma (.k og (.k na (.k oO .n)))))) (.m (by kernel_rfl)) 3000 λ_=>rfl) (.run oR (.k lA (.k l9 (.k ma (.k og (.k na (.k oO .n)))))) (.m (by kernel_rfl)) 3000 λ_=>rfl) (.run oR (.k lA (.k l9 (.k ma (.k og (.k na (.k oO .n)))))) (.m (by kernel_rfl)) 3000 λ_=>rfl) (.run oR (.k lA (.k l9 (.k ma (.k og (.k na (.k oO .n)))))) (.m (by kernel_rfl)) 3000 λ_=>rfl) (.run oR (.k lA (.k l9 (.k ma (.k og (.k na (.k oO .n)))))) (.m (by kernel_rfl)) 3000 λ_=>rfl) (.run oR (.k lA (.k l9 (.k ma (.k og (.k na (.k oO .n)))))) (.m (by kernel_rfl)) 3000 λ_=>rfl)
def Dy(high:Int):ag (cv):=
 some (⟨(⟨[(⟨7,[],0,0,2,[],[],0,1,false⟩:aj),(⟨2,[],0,high,0,[],[],0,0,false⟩:aj)]⟩:aT),0⟩:cv)
theorem YU:bj e8 Dy:= .bo
noncomputable def ti:cv×cv×I bn->ag (J):=vS.F
theorem Zk:bj pv ti:=zk
noncomputable def y5:cv×cv×aq->ag (J):=kr prog nL [vS,l5,l8,l',nb,mc,mb] 3000 pq
theorem YV:bj pq y5:= .run oR (.k zk (.k lA (.k l9 (.k ma (.k og (.k na (.k oO .n))))))) (.m (by kernel_rfl)) 3000 λ_=>rfl
noncomputable def zO:cv×cv×I bn->ag (J):=kr prog nL [vS,l5,l8,l',nb,mc,mb] 3000 Gl
theorem Z3:bj Gl zO:= .run oR (.k zk (.k lA (.k l9 (.k ma (.k og (.k na (.k oO .n))))))) (.m (by kernel_rfl)) 3000 λ_=>rfl
noncomputable def Ao:cv×cv×ha->ag (J):=kr prog nL [vS,l5,l8,l',nb,mc,mb] 3000 k'
theorem aan:bj k' Ao:= .run oR (.k zk (.k lA (.k l9 (.k ma (.k og (.k na (.k oO .n))))))) (.m (by kernel_rfl)) 3000 λ_=>rfl
noncomputable def tA:ha->ag aq:=kr prog nL [vS,l5,l8,l',nb,mc,mb] 3000 qT
theorem Z5:bj qT tA:= .run oR (.k zk (.k lA (.k l9 (.k ma (.k og (.k na (.k oO .n))))))) (.m (by kernel_rfl)) 3000 λ_=>rfl
def Im(ti:cv×cv×I bn->ag (J))(y5:cv×cv×aq->ag (J))(zO:cv×cv×I bn->ag (J))(Ao:cv×cv×ha->ag (J))(tA:ha->ag aq):ag (J):=
 Dy 9>>=λr=>Dy 20>>=λa=>ti (r,a,[(⟨0,0⟩:bn),(⟨1,1⟩:bn)])>>=λb=>some [(⟨0,0⟩:bn),(⟨1,1⟩:bn)]>>=λt18=>ite (fy 0 1 t18.length||(!b)) ((if b then ti (r,a,gG t18 0 1)else some false)>>=λc=>some (bif b then(!c)else false)>>=λt22=>(if t22 then y5 (a,r,[1,40])else some false)>>=λd=>some (bif t22 then d else false)>>=λt27=>(if t27 then zO (a,r,[(⟨0,0⟩:bn),(⟨1,1⟩:bn)])else some false)>>=λe=>some (bif t27 then e else false)>>=λt33=>(if t33 then Ao (a,r,(⟨false,[],[1,40]⟩:ha))else some false)>>=λf=>some (bif t33 then f else false)>>=λt39=>(if t39 then tA (⟨false,[],[1,40]⟩:ha)else some [])>>=λg=>some (bif t39 then (g=[109,105,115,114,101,97,100,32,34,92,120,48,49,40,34,10]:J)else false)>>=λt44=>(if t44 then tA (⟨true,[(⟨0,0⟩:bn),(⟨1,1⟩:bn)],[]⟩:ha)else some [])>>=λi=>some (bif t44 then (i=[99,111,109,112,97,116,105,98,108,101,10,48,32,48,10,49,32,49,10]:J)else false)) none
noncomputable def Io (_:Unit):ag (J):=Im ti y5 zO Ao tA
theorem Zl:bj gH Io:= .bo (.k YU (.k Zk (.k YV (.k Z3 (.k aan (.k Z5 .n))))))
def h'(n:Int):cv:=⟨⟨[⟨7,[],0,0,2,[],[],0,1,false⟩,⟨2,[],0,n,0,[],[],0,0,false⟩]⟩,0⟩
theorem ahC(n:Int):Dy n=some (h' n):=rfl
theorem ahV:ti (h' 9,h' 20,[⟨0,0⟩,⟨1,1⟩])=some true:=by kernel_rfl
theorem ahW:ti (h' 9,h' 20,[⟨0,0⟩])=some false:=by kernel_rfl
theorem ahO:y5 (h' 20,h' 9,[1,40])=some true:=by kernel_rfl
theorem ahU:zO (h' 20,h' 9,[⟨0,0⟩,⟨1,1⟩])=some true:=by kernel_rfl
theorem ahK:Ao (h' 20,h' 9,⟨false,[],[1,40]⟩)=some true:=by kernel_rfl
theorem ahL:tA ⟨false,[],[1,40]⟩=some [109,105,115,114,101,97,100,32,34,92,120,48,49,40,34,10]:=by kernel_rfl
theorem ahM:tA ⟨true,[⟨0,0⟩,⟨1,1⟩],[]⟩=some [99,111,109,112,97,116,105,98,108,101,10,48,32,48,10,49,32,49,10]:=by kernel_rfl
theorem ahX{R:cv×cv×I bn->ag J}{M:cv×cv×aq->ag J}{C:cv×cv×ha->ag J}{F:ha->ag aq}
 (h1:R (h' 9,h' 20,[⟨0,0⟩,⟨1,1⟩])=some true)(a:R (h' 9,h' 20,[⟨0,0⟩])=some false)(b:M (h' 20,h' 9,[1,40])=some true)(c:P (h' 20,h' 9,[⟨0,0⟩,⟨1,1⟩])=some true)(d:C (h' 20,h' 9,⟨false,[],[1,40]⟩)=some true)
 (e:F ⟨false,[],[1,40]⟩=some [109,105,115,114,101,97,100,32,34,92,120,48,49,40,34,10])(f:F ⟨true,[⟨0,0⟩,⟨1,1⟩],[]⟩=some [99,111,109,112,97,116,105,98,108,101,10,48,32,48,10,49,32,49,10]):Im R M P C F=some true:=by
 have g:gG [(⟨0,0⟩:bn),⟨1,1⟩] 0 1=[⟨0,0⟩]:=rfl;unfold Im;simp only[aW,ay,ahC];rw[h1];simp only[ay,dc,iC,cl,g];rw[a,b,c];simp only[ay,eL,fh,cl];rw[d,e,f];rfl
theorem adU:Io ()=some true:=ahX ahV ahW ahO ahU ahK ahL ahM
def y6(_:Unit):ag (J):=some true
theorem YW:bj gH y6:=by
 have:Io=y6:=by funext x;exact adU
 rw[<-this];exact Zl
theorem X':y6 ()=some true:=rfl
def ta:I df×I df×Int×Int->ag ((J) ⊕ (Unit))
 |(a,b,c,t13)=>
 if (t13<c:J) then ite (aE t13 a.length) (some (a.getD t13.toNat dV)>>=λd=>ite (aE t13 b.length) (some (b.getD t13.toNat dV)>>=λe=>if !(eJ d.ai e.ai&&(jA d.aP e.aP&&true)) then some (.inl false)else ta (a,b,c,a' .i64 t13 1)) none) none else some (.inr ())
  partial_fixpoint
theorem XM:cy 230 0 [0] RR ta:= .rx ta.partial_correctness
def DM(c:I df×I df):ag (J):=
 match c with
 |(s1,a)=>
 if !((s1.length:Int)=(a.length:Int):J) then some false else ta (s1,a,(s1.length:Int),0)>>=λo=>match o with
 |.inl b=>
 some b
 |.inr d=>
 some true
theorem XO:bj TW DM:= .bo .n (.k XM .n)
def tb:I ch×I ch×Int×Int->ag ((J) ⊕ (Unit))
 |(a,b,c,t13)=>
 if (t13<c:J) then ite (aE t13 a.length) (some (a.getD t13.toNat cj)>>=λd=>ite (aE t13 b.length) (some (b.getD t13.toNat cj)>>=λe=>if !(eJ d.ai e.ai&&(jA d.bT e.bT&&true)) then some (.inl false)else tb (a,b,c,a' .i64 t13 1)) none) none else some (.inr ())
  partial_fixpoint
theorem XP:cy 224 0 [0] RS tb:= .rx tb.partial_correctness
def y'(c:I ch×I ch):ag (J):=
 match c with
 |(s1,a)=>
 if !((s1.length:Int)=(a.length:Int):J) then some false else tb (s1,a,(s1.length:Int),0)>>=λo=>match o with
 |.inl b=>
 some b
 |.inr d=>
 some true
theorem Wc:bj TR y':= .bo .n (.k XP .n)
mutual
def ng:ab×ab->ag (J)
 |(a,b)=>
 some (bif bif bif bif (a.ae=b.ae:J)then e7 a.ct b.ct else false then (a.bE=b.bE:J)else false then (a.bZ=b.bZ:J)else false then (a.ai=b.ai:J)else false)>>=λt37=>(if t37 then y' (a.aX,b.aX)else some false)>>=λr=>some (bif t37 then r else false)>>=λt44=>(if t44 then y8 (a.a7,b.a7)else some false)>>=λp=>some (bif t44 then p else false)>>=λt51=>(if t51 then y8 (a.aw,b.aw)else some false)>>=λq=>some (bif t51 then q else false)
  partial_fixpoint
def y8(c:I ab×I ab):ag (J):=
 match c with
 |(s1,f)=>
 if !((s1.length:Int)=(f.length:Int):J) then some false else wv (f,s1,(s1.length:Int),0)>>=λo=>match o with
 |.inl j=>
 some j
 |.inr t=>
 some true
  partial_fixpoint
def wv:I ab×I ab×Int×Int->ag ((J) ⊕ (Unit))
 |(e,t15,g,t17)=>
 if (t17<g:J) then ite (aE t17 t15.length) (ite (aE t17 e.length) (ng (ab.eta (t15.getD t17.toNat aM),ab.eta (e.getD t17.toNat aM))>>=λr=>if !r then some (.inl false)else wv (e,t15,g,a' .i64 t17 1)) none) none else some (.inr ())
  partial_fixpoint
end
theorem aa9:eP yx ng/\eP Fp y8/\fa 225 0 [0] AA wv:=ng.mutual_partial_correctness (eG yx) (eG Fp) (e' 225 0 [0] AA)
 (λ_ h1 _ _ h=>eV h (.k Wc (.k (cL Fp h1) .n)))
 (λ_ a _ _ h=>eV h .n (.k (fl AA a) .n))
 (λ_ _ h0 a _ _ h=>fk AA a h (.k (cL yx h0) .n))
theorem K7:bj yx ng:=cL _ aa9.1
def zP:aU×aU->ag (J)
 |(a,y)=>
 some (bif bif bif bif (a.ai=y.ai:J)then (a.aP=y.aP:J)else false then (a.aC=y.aC:J)else false then e7 a.b4 y.b4 else false then e7 a.bH y.bH else false)>>=λt37=>(if t37 then ng ((⟨a.bm.ae,a.bm.ct,a.bm.bE,a.bm.bZ,a.bm.ai,a.bm.a7,a.bm.aw,a.bm.aX⟩:ab),ab.eta y.bm)else some false)>>=λr=>some (bif t37 then r else false)
theorem ZC:bj TY zP:= .bo (.k K7 .n)
def pV:I aU×I aU×Int×Int->ag ((J) ⊕ (Unit))
 |(c,t15,d,t17)=>
 if (t17<d:J) then ite (aE t17 t15.length) (some (t15.getD t17.toNat aH)>>=λa=>ite (aE t17 c.length) (some (c.getD t17.toNat aH)>>=λb=>zP ((⟨a.ai,a.aP,a.aC,a.b4,a.bH,ab.eta a.bm⟩:aU),(⟨b.ai,b.aP,b.aC,b.b4,b.bH,ab.eta b.bm⟩:aU))>>=λr=>if !r then some (.inl false)else pV (c,t15,d,a' .i64 t17 1)) none) none else some (.inr ())
  partial_fixpoint
theorem XD:cy 231 0 [0] RT pV:= .rx pV.partial_correctness (.k ZC .n)
def DK(c:I aU×I aU):ag (J):=
 match c with
 |(s1,a)=>
 if !((s1.length:Int)=(a.length:Int):J) then some false else pV (a,s1,(s1.length:Int),0)>>=λo=>match o with
 |.inl b=>
 some b
 |.inr d=>
 some true
theorem XE:bj TX DK:= .bo .n (.k XD .n)
def ia:aj×aj->ag (J)
 |(a,b)=>
 some (bif bif bif bif bif bif bif (a.ae=b.ae:J)then (a.aP=b.aP:J)else false then (a.br=b.br:J)else false then (a.bB=b.bB:J)else false then (a.Max=b.Max:J)else false then (a.aR=b.aR:J)else false then (a.aF=b.aF:J)else false then e7 a.bt b.bt else false)>>=λt58=>(if t58 then DM (a.bc,b.bc)else some false)>>=λr=>some (bif t58 then r else false)>>=λt65=>(if t65 then DK (a.af,b.af)else some false)>>=λc=>some (bif t65 then c else false)
theorem aaM:bj TF ia:= .bo (.k XO (.k XE .n))
def zQ(c:Int):ag (J):=
 some (bif bif (c=95:J)then true else bif (97<=c:J)then (c<=122:J)else false then true else bif (65<=c:J)then (c<=90:J)else false)
theorem Ll:bj TS zQ:= .bo
def Es(c:Int):ag (J):=
 some (bif (48<=c:J)then (c<=57:J)else false)
theorem aa':bj TT Es:= .bo
def pL:aq×Int×Int->ag ((J) ⊕ (Unit))
 |(a,b,t19)=>
 if (t19<b:J) then ite (aE t19 a.length) (zQ (gj a t19)>>=λc=>some (!c)>>=λt26=>ite (aE t19 a.length||(!t26)) ((if t26 then Es (gj a t19)else some false)>>=λd=>if(bif t26 then(!d)else false) then some (.inl false)else pL (a,b,a' .i64 t19 1)) none) none else some (.inr ())
  partial_fixpoint
theorem aao:cy 191 0 [0] RU pL:= .rx pL.partial_correctness (.k Ll (.k aa' .n))
def lG(s:aq):ag (J):=
 some (bif (s=[]:J)then true else (24<(s.length:Int):J))>>=λt10=>ite (aE 0 s.length||(!(!t10))) ((if !t10 then zQ (gj s 0)else some false)>>=λr=>if(bif t10 then true else(!r)) then some false else pL (s,(s.length:Int),0)>>=λo=>match o with
 |.inl a=>
 some a
 |.inr b=>
 some true) none
theorem KX:bj TC lG:= .bo (.k Ll .n) (.k aao .n)
def pM:az×I aq×az×Int×Int×I aq->ag ((J) ⊕ az)
 |(c,a,t9,e,t11,b)=>
 if (t11<e:J) then ite (aE t11 t9.length) (some (t9.getD t11.toNat 0)>>=λd=>some (bif (d<1:J)then true else (1000<d:J))>>=λt21=>some (0<t11:J)>>=λt24=>some (dD .i64 t11 1)>>=λt29=>ite (aE t29 c.length||(!((!t21)&&t24))) (some (bif t21 then true else bif t24 then (d<=c.getD t29.toNat 0:J)else false)>>=λt34=>ite (aE t11 a.length||(!(!t34))) (some (bif t34 then true else hc b (a.getD t11.toNat []))>>=λt42=>ite (aE t11 a.length||(!(!t42))) ((if !t42 then lG (a.getD t11.toNat [])else some false)>>=λr=>if(bif t42 then true else(!r)) then some (.inl false)else ite (aE t11 a.length) (pM (c,a,t9,e,a' .i64 t11 1,iY b (a.getD t11.toNat []))) none) none) none) none) none else some (.inr c)
  partial_fixpoint
theorem aba:cy 228 0 [0] RV pM:= .rx pM.partial_correctness (.k KX .n)
def A3(c:az×I aq):ag (J):=
 match c with
 |(l,names)=>
 pM (l,names,l,(l.length:Int),0,[])>>=λo=>match o with
 |.inl a=>
 some a
 |.inr b=>
 some ((b.length:Int)<=16:J)
theorem KV:bj TU A3:= .bo .n (.k aba .n)
def r2:I df×I df×Int×Int×az×I aq->ag (I df×az×I aq)
 |(c,t7,d,t9,a,b)=>
 if (t9<d:J) then ite (aE t9 t7.length) (some (t7.getD t9.toNat dV)>>=λe=>some [e.ai]>>=λt16=>ite (cn 8 (a++t16).length) (some [e.aP]>>=λt21=>ite (cn 16 (b++t21).length) (r2 (c,t7,d,a' .i64 t9 1,a++t16,b++t21)) none) none) none else some (c,a,b)
  partial_fixpoint
theorem YX:cy 192 0 [0] RW r2:= .rx r2.partial_correctness
def wh(l:I df):ag (J):=
 r2 (l,l,(l.length:Int),0,[],[])>>=λo=>some (0<(o.1.length:Int):J)>>=λt26=>(if t26 then A3 (o.2.1,o.2.2)else some false)>>=λr=>some (bif t26 then r else false)
theorem ZD:bj TD wh:= .bo (.k KV .n) (.k YX .n)
def DZ(v:ab):ag (J):=
 ng (ab.eta v,(⟨0,false,0,[],0,[],[],[]⟩:ab))>>=λr=>some r
theorem aaN:bj TV DZ:= .bo (.k K7 .n)
def pH:I aU×Int×Int×aj×az×I aq->ag ((J) ⊕ (aj×az×I aq))
 |(t8,e,t10,b,c,d)=>
 if (t10<e:J) then ite (aE t10 t8.length) (some (t8.getD t10.toNat aH)>>=λa=>some [a.ai]>>=λt17=>ite (cn 8 (c++t17).length) (some [a.aP]>>=λt22=>ite (cn 16 (d++t22).length) (some (bif bif (b.ae=6:J)then bif a.b4 then true else a.bH else false then true else bif a.b4 then a.bH else false)>>=λt42=>some (!a.bH)>>=λt46=>(if((!t42)&&t46) then DZ (ab.eta a.bm)else some false)>>=λf=>if(bif t42 then true else bif t46 then(!f)else false) then some (.inl false)else pH (t8,e,a' .i64 t10 1,b,c++t17,d++t22)) none) none) none else some (.inr (b,c,d))
  partial_fixpoint
theorem YY:cy 193 0 [0] RX pH:= .rx pH.partial_correctness (.k aaN .n)
def uD(t:aj):ag (J):=
 pH (t.af,(t.af.length:Int),0,t,[],[])>>=λo=>match o with
 |.inl b=>
 some b
 |.inr a=>
 some (bif (a.1.ae=5:J)then true else (0<(a.2.1.length:Int):J))>>=λt62=>(if t62 then A3 (a.2.1,a.2.2)else some false)>>=λr=>some (bif t62 then r else false)
theorem ZE:bj TE uD:= .bo (.k KV .n) (.k YY .n)
def gQ(t:aj):ag (J):=
 if (t.ae=1:J) then ia ((⟨0,t.aP,t.br,t.bB,t.Max,t.bc,t.af,t.aR,t.aF,t.bt⟩:aj),(⟨0,[],0,0,0,[],[],0,0,false⟩:aj))>>=λr=>some r else if (t.ae=2:J) then some (t.br<=t.bB:J)>>=λt17=>(if t17 then ia ((⟨0,t.aP,0,0,t.Max,t.bc,t.af,t.aR,t.aF,t.bt⟩:aj),(⟨0,[],0,0,0,[],[],0,0,false⟩:aj))else some false)>>=λj=>some (bif t17 then j else false)else if (t.ae=3:J) then some (bif (0<=t.Max:J)then (t.Max<=200:J)else false)>>=λt29=>(if t29 then ia ((⟨0,t.aP,t.br,t.bB,0,t.bc,t.af,t.aR,t.aF,t.bt⟩:aj),(⟨0,[],0,0,0,[],[],0,0,false⟩:aj))else some false)>>=λv=>some (bif t29 then v else false)else if (t.ae=4:J) then lG t.aP>>=λe=>(if e then wh t.bc else some false)>>=λA=>some (bif e then A else false)>>=λt40=>(if t40 then ia ((⟨0,[],t.br,t.bB,t.Max,[],t.af,t.aR,t.aF,false⟩:aj),(⟨0,[],0,0,0,[],[],0,0,false⟩:aj))else some false)>>=λB=>some (bif t40 then B else false)else some (t.ae=5:J)>>=λt45=>if t45 then if t45 then lG t.aP>>=λf=>(if f then uD t else some false)>>=λC=>some (bif f then C else false)>>=λt53=>(if t53 then ia ((⟨0,[],t.br,t.bB,t.Max,t.bc,[],t.aR,t.aF,bif t.bt then (t.ae=5:J)else false⟩:aj),(⟨0,[],0,0,0,[],[],0,0,false⟩:aj))else some false)>>=λD=>some (bif t53 then D else false)else some (t.ae=7:J)>>=λt65=>if t65 then if t65 then some (bif (0<=t.Max:J)then (t.Max<=50:J)else false)>>=λt74=>if (t.ae=8:J) then (if t74 then ia ((⟨0,t.aP,t.br,t.bB,0,t.bc,t.af,0,0,t.bt⟩:aj),(⟨0,[],0,0,0,[],[],0,0,false⟩:aj))else some false)>>=λE=>some (bif t74 then E else false)else (if t74 then ia ((⟨0,t.aP,t.br,t.bB,0,t.bc,t.af,t.aR,0,t.bt⟩:aj),(⟨0,[],0,0,0,[],[],0,0,false⟩:aj))else some false)>>=λk=>some (bif t74 then k else false)else if (t.ae=9:J) then ia ((⟨0,t.aP,t.br,t.bB,t.Max,t.bc,t.af,t.aR,0,t.bt⟩:aj),(⟨0,[],0,0,0,[],[],0,0,false⟩:aj))>>=λl=>some l else some false else if (t.ae=8:J) then some (bif (0<=t.Max:J)then (t.Max<=50:J)else false)>>=λa=>if (t.ae=8:J) then (if a then ia ((⟨0,t.aP,t.br,t.bB,0,t.bc,t.af,0,0,t.bt⟩:aj),(⟨0,[],0,0,0,[],[],0,0,false⟩:aj))else some false)>>=λm=>some (bif a then m else false)else (if a then ia ((⟨0,t.aP,t.br,t.bB,0,t.bc,t.af,t.aR,0,t.bt⟩:aj),(⟨0,[],0,0,0,[],[],0,0,false⟩:aj))else some false)>>=λn=>some (bif a then n else false)else if (t.ae=9:J) then ia ((⟨0,t.aP,t.br,t.bB,t.Max,t.bc,t.af,t.aR,0,t.bt⟩:aj),(⟨0,[],0,0,0,[],[],0,0,false⟩:aj))>>=λo=>some o else some false else if (t.ae=6:J) then lG t.aP>>=λd=>(if d then uD t else some false)>>=λp=>some (bif d then p else false)>>=λg=>(if g then ia ((⟨0,[],t.br,t.bB,t.Max,t.bc,[],t.aR,t.aF,bif t.bt then (t.ae=5:J)else false⟩:aj),(⟨0,[],0,0,0,[],[],0,0,false⟩:aj))else some false)>>=λq=>some (bif g then q else false)else some (t.ae=7:J)>>=λi=>if i then if i then some (bif (0<=t.Max:J)then (t.Max<=50:J)else false)>>=λb=>if (t.ae=8:J) then (if b then ia ((⟨0,t.aP,t.br,t.bB,0,t.bc,t.af,0,0,t.bt⟩:aj),(⟨0,[],0,0,0,[],[],0,0,false⟩:aj))else some false)>>=λs=>some (bif b then s else false)else (if b then ia ((⟨0,t.aP,t.br,t.bB,0,t.bc,t.af,t.aR,0,t.bt⟩:aj),(⟨0,[],0,0,0,[],[],0,0,false⟩:aj))else some false)>>=λu=>some (bif b then u else false)
 else if (t.ae=9:J) then ia ((⟨0,t.aP,t.br,t.bB,t.Max,t.bc,t.af,t.aR,0,t.bt⟩:aj),(⟨0,[],0,0,0,[],[],0,0,false⟩:aj))>>=λw=>some w else some false else if (t.ae=8:J) then some (bif (0<=t.Max:J)then (t.Max<=50:J)else false)>>=λc=>if (t.ae=8:J) then (if c then ia ((⟨0,t.aP,t.br,t.bB,0,t.bc,t.af,0,0,t.bt⟩:aj),(⟨0,[],0,0,0,[],[],0,0,false⟩:aj))else some false)>>=λx=>some (bif c then x else false)else (if c then ia ((⟨0,t.aP,t.br,t.bB,0,t.bc,t.af,t.aR,0,t.bt⟩:aj),(⟨0,[],0,0,0,[],[],0,0,false⟩:aj))else some false)>>=λy=>some (bif c then y else false)else if (t.ae=9:J) then ia ((⟨0,t.aP,t.br,t.bB,t.Max,t.bc,t.af,t.aR,0,t.bt⟩:aj),(⟨0,[],0,0,0,[],[],0,0,false⟩:aj))>>=λz=>some z else some false
theorem aar:bj Tc gQ:= .bo (.k aaM (.k KX (.k ZD (.k ZE .n))))
def uE:I aU×Int×Int×aj×az->ag (aj×az)
 |(t7,c,t9,b,a)=>
 if (t9<c:J) then ite (aE t9 t7.length) (some [(t7.getD t9.toNat aH).aC]>>=λt16=>ite (cn 8 (a++t16).length) (uE (t7,c,a' .i64 t9 1,b,a++t16)) none) none else some (b,a)
  partial_fixpoint
theorem ZF:cy 129 0 [0] RY uE:= .rx uE.partial_correctness
def D8(t:aj):ag az:=
 uE (t.af,(t.af.length:Int),0,t,[])>>=λo=>if (o.1.ae=8:J) then some [o.1.aR]>>=λt25=>ite (cn 8 (o.2++t25).length) (some (o.2++t25)>>=λl=>if (7<=o.1.ae:J) then some [o.1.aF]>>=λt33=>ite (cn 8 (l++t33).length) (some (l++t33)) none else some l) none else if (7<=o.1.ae:J) then some [o.1.aF]>>=λa=>ite (cn 8 (o.2++a).length) (some (o.2++a)) none else some o.2
theorem aas:bj Td D8:= .bo .n (.k ZF .n)
def pI:I aj×Int×Int×az×Int×Int×I aj×I aq×Int×aq×Int×Int×Int×I df×I aU×Int×Int×J->ag ((Int) ⊕ (I aj×Int×Int×I aj×I aq×Int×aq×Int×Int×Int×I df×I aU×Int×Int×J))
 |(n,o,p,t38,q,t40,a,b,c,d,e,f,g,i,j,k,l,m)=>
 if (t40<q:J) then ite (aE t40 t38.length) (some (t38.getD t40.toNat 0)>>=λr=>if(bif (r<0:J)then true else ((a.length:Int)<=r:J)) then some (.inl 4)else pI (n,o,p,t38,q,a' .i64 t40 1,a,b,c,d,e,f,g,i,j,k,l,m)) none else some (.inr (n,o,p,a,b,c,d,e,f,g,i,j,k,l,m))
  partial_fixpoint
theorem YZ:cy 72 0 [0,0] QO pI:= .rx pI.partial_correctness
def r9(j:I aj×Int×Int×I aj×I aq):ag ((Int) ⊕ (Unit)):=
 match j with
 |(t14,f,t16,b,d)=>
 if (t16<f:J) then ite (aE t16 t14.length) (some (t14.getD t16.toNat aN)>>=λa=>gQ a>>=λr=>if(bif (!r)then true else bif (!(a.aP=[]:J))then hc d a.aP else false) then some (.inl 1)else D8 a>>=λe=>pI (t14,f,t16,e,(e.length:Int),0,b,iY d a.aP,a.ae,a.aP,a.br,a.bB,a.Max,a.bc,a.af,a.aR,a.aF,a.bt)>>=λg=>match g with
 |.inl i=>
 some (.inl i)
 |.inr c=>
 some (c.2.2.2.2.2.1=8:J)>>=λt56=>ite (aE c.2.2.2.2.2.2.2.2.2.2.2.2.1 c.2.2.2.1.length||(!t56)) (some ((c.2.2.2.1.getD c.2.2.2.2.2.2.2.2.2.2.2.2.1.toNat aN).ae<1:J)>>=λt65=>ite (aE c.2.2.2.2.2.2.2.2.2.2.2.2.1 c.2.2.2.1.length||(!(t56&&(!t65)))) (if(bif t56 then bif t65 then true else (4<(c.2.2.2.1.getD c.2.2.2.2.2.2.2.2.2.2.2.2.1.toNat aN).ae:J)else false) then some (.inl 1)else r9 (c.1,c.2.1,a' .i64 c.2.2.1 1,c.2.2.2.1,c.2.2.2.2.1)) none) none) none else some (.inr ())
  partial_fixpoint
theorem ZI:cy 72 0 [0] UE r9:= .rx r9.partial_correctness (.k aar (.k aas .n)) (.k YZ .n)
def pR(s:aT):ag (Int):=
 if (32<(s.bh.length:Int):J) then some 3 else r9 (s.bh,(s.bh.length:Int),0,s.bh,[])>>=λo=>match o with
 |.inl a=>
 some a
 |.inr b=>
 some 0
theorem zR:bj UD pR:= .bo .n (.k ZI .n)
def E7(v:ab):ag (ab):=
 if (v.ae=1:J) then some (⟨v.ae,v.ct,0,[],0,[],[],[]⟩:ab)else if (v.ae=2:J) then some (⟨v.ae,false,v.bE,[],0,[],[],[]⟩:ab)else if (v.ae=3:J) then some (⟨v.ae,false,0,v.bZ,0,[],[],[]⟩:ab)else if (v.ae=4:J) then some (⟨v.ae,false,0,[],v.ai,[],[],[]⟩:ab)else if (v.ae=5:J) then some (⟨v.ae,false,0,[],0,[],v.aw,v.aX⟩:ab)else if (v.ae=6:J) then some (⟨v.ae,false,0,[],v.ai,[],v.aw,v.aX⟩:ab)else if (v.ae=8:J) then some (⟨v.ae,false,0,[],0,v.a7,v.aw,[]⟩:ab)else some (v.ae=7:J)>>=λt57=>if t57 then if t57 then some (⟨v.ae,false,0,[],0,[],v.aw,[]⟩:ab)else some (⟨v.ae,false,0,[],0,[],[],[]⟩:ab)else if (v.ae=9:J) then some (⟨v.ae,false,0,[],0,[],v.aw,[]⟩:ab)else some (⟨v.ae,false,0,[],0,[],[],[]⟩:ab)
theorem abn:bj Ti E7:= .bo
def D0(v:ab):ag (J):=
 E7 (ab.eta v)>>=λr=>some (bif bif bif bif bif bif e7 v.ct r.ct then (v.bE=r.bE:J)else false then (v.bZ=r.bZ:J)else false then (v.ai=r.ai:J)else false then ((v.a7.length:Int)=(r.a7.length:Int):J)else false then ((v.aw.length:Int)=(r.aw.length:Int):J)else false then ((v.aX.length:Int)=(r.aX.length:Int):J)else false)
theorem aaO:bj UF D0:= .bo (.k abn .n)
def Ix:df×Int->ag (J×Int)
 |(a,b)=>
 some ((a.ai=b:J),b)
theorem ZJ:bj Tk Ix:= .bo
def n1:I df×Int×Int×Int->ag ((Int×Int) ⊕ (Int))
 |(a,c,t8,b)=>
 if (t8<c:J) then ite (aE t8 a.length) (Ix (a.getD t8.toNat dV,b)>>=λr=>if r.1 then some (.inl (t8,r.2))else n1 (a,c,a' .i64 t8 1,r.2)) none else some (.inr b)
  partial_fixpoint
theorem XG:cy 139 1 [0] RZ n1:= .rx n1.partial_correctness (.k ZJ .n)
def HH(d:I df×Int):ag (Int×Int):=
 match d with
 |(s,b)=>
 n1 (s,(s.length:Int),0,b)>>=λo=>match o with
 |.inl a=>
 some (a.1,a.2)
 |.inr c=>
 some ((-1),c)
theorem XK:bj Tj HH:= .bo .n (.k XG .n)
def sd:aj×Int->ag (Int×J)
 |(t,id)=>
 HH (t.bc,id)>>=λr=>some (mx r.1 0,(0<=r.1:J))
theorem Eg:bj UG sd:= .bo (.k XK .n)
def A4(id:Int):ag (J):=
 some (bif (1<=id:J)then (id<=1000:J)else false)
theorem Me:bj UH A4:= .bo
def Iy:aU×Int->ag (J×Int)
 |(m,b)=>
 some ((m.ai=b:J),b)
theorem ZK:bj Tm Iy:= .bo
def pW:I aU×Int×Int×Int->ag ((Int×Int) ⊕ (Int))
 |(b,d,t8,c)=>
 if (t8<d:J) then ite (aE t8 b.length) (some (b.getD t8.toNat aH)>>=λa=>Iy ((⟨a.ai,a.aP,a.aC,a.b4,a.bH,ab.eta a.bm⟩:aU),c)>>=λr=>if r.1 then some (.inl (t8,r.2))else pW (b,d,a' .i64 t8 1,r.2)) none else some (.inr c)
  partial_fixpoint
theorem XH:cy 141 1 [0] R0 pW:= .rx pW.partial_correctness (.k ZK .n)
def HI(d:I aU×Int):ag (Int×Int):=
 match d with
 |(s,b)=>
 pW (s,(s.length:Int),0,b)>>=λo=>match o with
 |.inl a=>
 some (a.1,a.2)
 |.inr c=>
 some ((-1),c)
theorem XL:bj Tl HI:= .bo .n (.k XH .n)
def gO:aj×Int->ag (Int×J)
 |(t,id)=>
 HI (t.af,id)>>=λr=>some (mx r.1 0,(0<=r.1:J))
theorem lE:bj UI gO:= .bo (.k XL .n)
def lF:J×I ch×Int×Int×I aj×ab×Int×aq×Int×Int×Int×I df×I aU×Int×Int×J->ag ((J) ⊕ (J×I aj×Int×J×Int×aq×Int×I ab×I ab×I ch×Int×aq×Int×Int×Int×I df×I aU×Int×Int×J))
 |(o,t111,q,t113,n,a,b,c,d,e,f,g,i,j,k,l)=>
 if (t113<q:J) then ite (aE t113 t111.length) (some (t111.getD t113.toNat cj)>>=λm=>gO ((⟨b,c,d,e,f,g,i,j,k,l⟩:aj),m.ai)>>=λp=>(if !p.2 then A4 m.ai else some false)>>=λr=>some (bif p.2 then true else(!r))>>=λt131=>some (0<t113:J)>>=λt134=>some (dD .i64 t113 1)>>=λt141=>ite (aE t141 a.aX.length||(!((!t131)&&t134))) (if(bif t131 then true else bif t134 then (m.ai<=(a.aX.getD t141.toNat cj).ai:J)else false) then some (.inl false)else lF (o,t111,q,a' .i64 t113 1,n,ab.eta a,b,c,d,e,f,g,i,j,k,l)) none) none else some (.inr (o,n,a.ae,a.ct,a.bE,a.bZ,a.ai,a.a7,a.aw,a.aX,b,c,d,e,f,g,i,j,k,l))
  partial_fixpoint
theorem abb:cy 49 0 [0] Uj lF:= .rx lF.partial_correctness (.k lE (.k Me .n))
def Fl(a:Int):ag (J):=
 some (!(a=a:J))
theorem acJ:bj TL Fl:= .bo
def D9:Int×Int->ag (Int)
 |(a,y)=>
 Fl a>>=λr=>Fl y>>=λb=>if r then if b then some 0 else some (-1)else if b then some 1 else if (a<y:J) then some (-1)else if (y<a:J) then some 1 else some 0
theorem aat:bj Tn D9:= .bo (.k acJ .n)
def D'(a:Int):ag (J):=
 some (!(a=a:J))
theorem aau:bj TM D':= .bo
def zZ:Int×Int->ag (Int)
 |(a,y)=>
 D' a>>=λr=>D' y>>=λb=>if r then if b then some 0 else some (-1)else if b then some 1 else if (a<y:J) then some (-1)else if (y<a:J) then some 1 else some 0
theorem abc:bj Tp zZ:= .bo (.k aau .n)
def Ea(a:aq):ag (J):=
 some (!(a=a:J))
theorem aav:bj TN Ea:= .bo
def Et:aq×aq->ag (Int)
 |(a,y)=>
 Ea a>>=λr=>Ea y>>=λb=>if r then if b then some 0 else some (-1)else if b then some 1 else if Op.bytesLess a y then some (-1)else if !(Op.bytesLess a y||(a=y:J)) then some 1 else some 0
theorem abd:bj Tq Et:= .bo (.k aav .n)
def rH:Int×az×Int×Int->ag ((Int) ⊕ (Int))
 |(a,t6,b,t8)=>
 if (t8<b:J) then ite (aE t8 t6.length) (some (t6.getD t8.toNat 0)>>=λc=>if !(c=a:J) then some (.inl c)else rH (a,t6,b,a' .i64 t8 1)) none else some (.inr a)
  partial_fixpoint
theorem acK:cy 146 0 [0] Rh rH:= .rx rH.partial_correctness
def Fs(a:az):ag (Int):=
 rH (0,a,(a.length:Int),0)>>=λo=>match o with
 |.inl b=>
 some b
 |.inr c=>
 some c
theorem afR:bj To Fs:= .bo .n (.k acK .n)
def wj(n:Int):ag (Int):=
 some (x6 .u64 (o3 .u64 (da .u64 n) 1) (da .u64 (mG .i64 n 63)))
theorem Lr:bj UO wj:= .bo
def oh:ab×ab->ag (Int)
 |(a,b)=>
 if !(a.ae=b.ae:J) then some 0 else if (a.ae=1:J) then if e7 a.ct b.ct then some 0 else if b.ct then some (-1)else some 1 else if (a.ae=2:J) then wj a.bE>>=λr=>wj b.bE>>=λc=>D9 (r,c)>>=λd=>some d else if (a.ae=3:J) then zZ ((a.bZ.length:Int),(b.bZ.length:Int))>>=λe=>Et (a.bZ,b.bZ)>>=λf=>Fs [e,f]>>=λg=>some g else if (a.ae=4:J) then zZ (a.ai,b.ai)>>=λi=>some i else some 0
theorem Ls:bj UJ oh:= .bo (.k Lr (.k aat (.k abc (.k abd (.k afR .n)))))
def mf:J×Int×I aj×ab×Int×aq×Int×Int×Int×I df×I aU×Int×Int×J->ag ((J) ⊕ (J×I aj×ab×Int×aq×Int×Int×Int×I df×I aU×Int×Int×J))
 |(o,i,b,a,c,d,e,f,g,j,k,l,m,n)=>
 if (i<(a.a7.length:Int):J) then some (dD .i64 i 1)>>=λp=>ite (aE p a.a7.length) (ite (aE i a.a7.length) (oh (ab.eta (a.a7.getD p.toNat aM),ab.eta (a.a7.getD i.toNat aM))>>=λq=>if (0<=q:J) then some (.inl false)else mf (o,a' .i64 i 1,b,ab.eta a,c,d,e,f,g,j,k,l,m,n)) none) none else some (.inr (o,b,ab.eta a,c,d,e,f,g,j,k,l,m,n))
  partial_fixpoint
theorem abe:cy 49 0 [2] Uk mf:= .rx mf.partial_correctness (.k Ls .n)
mutual
def DL:I ab×I aj×Int×J->ag (J×I aj×Int×J)
 |(s,b,f,g)=>
 HJ (s,b,f,g)>>=λr=>some ((0<=r.1:J),r.2.1,r.2.2.1,r.2.2.2)
  partial_fixpoint
def HJ(e:I ab×I aj×Int×J):ag (Int×I aj×Int×J):=
 match e with
 |(s,b,f,g)=>
 q1 (s,(s.length:Int),0,b,f,g)>>=λo=>match o with
 |.inl j=>
 some (j.1,j.2.1,j.2.2.1,j.2.2.2)
 |.inr c=>
 some ((-1),c.1,c.2.1,c.2.2)
  partial_fixpoint
def rF:aT×Int×I ab×J->ag (J)
 |(s,t,l,plain)=>
 DL (l,s.bh,t,plain)>>=λr=>some (!r.1)
  partial_fixpoint
def I':ab×I aj×Int×J->ag (J×I aj×Int×J)
 |(v,b,f,g)=>
 ko ((⟨b⟩:aT),f,ab.eta v,g)>>=λr=>some ((!r),b,f,g)
  partial_fixpoint
def ko(e:aT×Int×ab×J):ag (J):=
 match e with
 |(s,t,v,plain)=>
 if(bif (t<0:J)then true else ((s.bh.length:Int)<=t:J)) then some false else ite (aE t s.bh.length) (some (s.bh.getD t.toNat aN)>>=λa=>some (!(v.ae=a.ae:J))>>=λt39=>(if !t39 then D0 (ab.eta v)else some false)>>=λr=>if(bif t39 then true else(!r)) then some false else if (a.ae=2:J) then some (bif (a.br<=v.bE:J)then (v.bE<=a.bB:J)else false)else if (a.ae=3:J) then some ((v.bZ.length:Int)<=a.Max:J)else if (a.ae=4:J) then sd (a,v.ai)>>=λD=>some (bif a.bt then(!plain)else false)>>=λt85=>(if((!D.2)&&t85) then A4 v.ai else some false)>>=λam=>some (bif D.2 then true else bif t85 then am else false)else if (a.ae=5:J) then if(bif (!((v.aw.length:Int)=(a.af.length:Int):J))then true else bif plain then (0<(v.aX.length:Int):J)else false) then some false else lF (plain,v.aX,(v.aX.length:Int),0,s.bh,ab.eta v,a.ae,a.aP,a.br,a.bB,a.Max,a.bc,a.af,a.aR,a.aF,a.bt)>>=λo=>match o with
 |.inl j=>
 some j
 |.inr c=>
 pN (c.1,c.2.2.2.2.2.2.2.2.2.2.2.2.2.2.2.2.1,(c.2.2.2.2.2.2.2.2.2.2.2.2.2.2.2.2.1.length:Int),0,c.2.1,c.2.2.1,c.2.2.2.1,c.2.2.2.2.1,c.2.2.2.2.2.1,c.2.2.2.2.2.2.1,c.2.2.2.2.2.2.2.1,c.2.2.2.2.2.2.2.2.1,c.2.2.2.2.2.2.2.2.2.1)>>=λS=>match S with
 |.inl U=>
 some U
 |.inr ax=>
 some true else if (a.ae=6:J) then gO (a,v.ai)>>=λu=>if u.2 then some (bif ((v.aw.length:Int)=1:J)then ((v.aX.length:Int)=0:J)else false)>>=λt188=>ite (aE u.1 a.af.length||(!t188)) (ite (aE 0 v.aw.length||(!t188)) ((if t188 then ko ((⟨s.bh⟩:aT),(a.af.getD u.1.toNat aH).aC,ab.eta (v.aw.getD (0:Int).toNat aM),plain)else some false)>>=λan=>some (bif t188 then an else false)) none) none else some (bif a.bt then(!plain)else false)>>=λt209=>(if t209 then A4 v.ai else some false)>>=λap=>some (bif bif bif t209 then ap else false then ((v.aw.length:Int)=0:J)else false then ((v.aX.length:Int)=1:J)else false)>>=λt226=>ite (aE 0 v.aX.length||(!t226)) (some (bif t226 then ((v.aX.getD (0:Int).toNat cj).ai=v.ai:J)else false)) none else if (a.ae=7:J) then some ((v.aw.length:Int)<=a.Max:J)>>=λt244=>(if t244 then rF ((⟨s.bh⟩:aT),a.aF,v.aw,plain)else some false)>>=λY=>some (bif t244 then Y else false)else if (a.ae=8:J) then some (bif (a.Max<(v.a7.length:Int):J)then true else(!((v.aw.length:Int)=(v.a7.length:Int):J)))>>=λt270=>(if !t270 then rF ((⟨s.bh⟩:aT),a.aR,v.a7,plain)else some false)>>=λZ=>if(bif t270 then true else(!Z)) then some false else mf (plain,1,s.bh,ab.eta v,a.ae,a.aP,a.br,a.bB,a.Max,a.bc,a.af,a.aR,a.aF,a.bt)>>=λW=>match W with
 |.inl X=>
 some X
 |.inr p=>
 rF ((⟨p.2.1⟩:aT),p.2.2.2.2.2.2.2.2.2.2.2.1,p.2.2.1.aw,p.1)>>=λaa=>some aa else if (a.ae=9:J) then some ((v.aw.length:Int)<=1:J)>>=λF=>(if F then rF ((⟨s.bh⟩:aT),a.aF,v.aw,plain)else some false)>>=λak=>some (bif F then ak else false)else some true) none
  partial_fixpoint
def q1:I ab×Int×Int×I aj×Int×J->ag ((Int×I aj×Int×J) ⊕ (I aj×Int×J))
 |(w,G,t8,A,x,y)=>
 if (t8<G:J) then ite (aE t8 w.length) (I' (ab.eta (w.getD t8.toNat aM),A,x,y)>>=λr=>if r.1 then some (.inl (t8,r.2.1,r.2.2.1,r.2.2.2))else q1 (w,G,a' .i64 t8 1,r.2.1,r.2.2.1,r.2.2.2)) none else some (.inr (A,x,y))
  partial_fixpoint
def pN:J×I aU×Int×Int×I aj×Int×J×Int×aq×Int×I ab×I ab×I ch->ag ((J) ⊕ (Unit))
 |(B,t150,E,t152,z,H,K,L,N,O,P,q,Q)=>
 if (t152<E:J) then ite (aE t152 t150.length) (ite (aE t152 q.length) (ko ((⟨z⟩:aT),(t150.getD t152.toNat aH).aC,ab.eta (q.getD t152.toNat aM),B)>>=λal=>if !al then some (.inl false)else pN (B,t150,E,a' .i64 t152 1,z,H,K,L,N,O,P,q,Q)) none) none else some (.inr ())
  partial_fixpoint
end
theorem XI:eP Cx DL/\eP CA HJ/\fa 201 3 [0] Bh q1/\eP Cy I'/\eP s5 ko/\eP CB rF/\fa 49 0 [1] yy pN:=DL.mutual_partial_correctness (eG Cx) (eG CA) (e' 201 3 [0] Bh) (eG Cy) (eG s5) (eG CB) (e' 49 0 [1] yy)
 (λ_ h1 _ _ h=>eV h (.k (cL CA h1) .n))
 (λ_ b _ _ h=>eV h .n (.k (fl Bh b) .n))
 (λ_ _ b d _ _ h=>fk Bh b h (.k (cL Cy d) .n))
 (λ_ a _ _ h=>eV h (.k (cL s5 a) .n))
 (λ_ _ _ a e c _ _ h=>eV h (.k aaO (.k Eg (.k Me (.k lE (.k (cL s5 a) (.k (cL CB e) .n)))))) (.k abb (.k (fl yy c) (.k abe .n))))
 (λ_ h0 _ _ h=>eV h (.k (cL Cx h0) .n))
 (λ_ _ a c _ _ h=>fk yy c h (.k (cL s5 a) .n))
theorem Mf:bj s5 ko:=cL _ XI.2.2.2.2.1
def rv:aT×Int×ab->ag (J)
 |(s,t,v)=>
 ko (s,t,ab.eta v,true)>>=λr=>some r
theorem H':bj T3 rv:= .bo (.k Mf .n)
def oI:Int×I aj×Int×Int×I aU×Int×Int×I aj->ag ((Int×Int×Int) ⊕ (I aj×Int×Int×I aj))
 |(i,c,d,e,t24,f,t26,b)=>
 if (t26<f:J) then ite (aE t26 t24.length) (some (t24.getD t26.toNat aH)>>=λa=>(if a.bH then rv ((⟨b⟩:aT),a.aC,ab.eta a.bm)else some false)>>=λg=>if(bif a.bH then(!g)else false) then some (.inl (i,a.ai,1))else oI (i,c,d,e,t24,f,a' .i64 t26 1,b)) none else some (.inr (c,d,e,b))
  partial_fixpoint
theorem Ya:cy 188 0 [0,0] Pp oI:= .rx oI.partial_correctness (.k H' .n)
def oP(g:I aj×Int×Int×I aj):ag ((Int×Int×Int) ⊕ (Unit)):=
 match g with
 |(t16,d,t18,b)=>
 if (t18<d:J) then ite (aE t18 t16.length) (some (t16.getD t18.toNat aN)>>=λe=>oI (t18,t16,d,t18,e.af,(e.af.length:Int),0,b)>>=λf=>match f with
 |.inl c=>
 some (.inl (c.1,c.2.1,c.2.2))
 |.inr a=>
 oP (a.1,a.2.1,a' .i64 a.2.2.1 1,a.2.2.2)) none else some (.inr ())
  partial_fixpoint
theorem Y0:cy 188 0 [0] Ri oP:= .rx oP.partial_correctness .n (.k Ya .n)
def H5(s:aT):ag (Int×Int×Int):=
 pR s>>=λr=>if !(r=0:J) then some (0,0,r)else oP (s.bh,(s.bh.length:Int),0,s.bh)>>=λo=>match o with
 |.inl a=>
 some (a.1,a.2.1,a.2.2)
 |.inr b=>
 some (0,0,0)
theorem ZG:bj Tz H5:= .bo (.k zR .n) (.k Y0 .n)
def z'(s:aT):ag (Int):=
 pR s>>=λr=>if !(r=0:J) then some r else H5 s>>=λa=>some a.2.2
theorem abf:bj S6 z':= .bo (.k zR (.k ZG .n))
def tB:Int×I aU×Int×Int×az->ag (Int×az)
 |(c,t33,d,t35,a)=>
 if (t35<d:J) then ite (aE t35 t33.length) (some (t33.getD t35.toNat aH)>>=λb=>ite (aE b.aC a.length) (ite (b.aC.toNat<a.length:J) (tB (c4 2 (fH .i64 c (a.getD b.aC.toNat 0)),t33,d,a' .i64 t35 1,a)) none) none) none else some (c,a)
  partial_fixpoint
theorem Z6:cy 189 1 [0] Rj tB:= .rx tB.partial_correctness
def tC:Int×I aU×Int×Int×az->ag (Int×az)
 |(c,t52,d,t54,a)=>
 if (t54<d:J) then ite (aE t54 t52.length) (some (t52.getD t54.toNat aH)>>=λb=>ite (aE b.aC a.length) (ite (b.aC.toNat<a.length:J) (tC (a' .i64 c (a.getD b.aC.toNat 0),t52,d,a' .i64 t54 1,a)) none) none) none else some (c,a)
  partial_fixpoint
theorem Z7:cy 189 1 [1] Rk tC:= .rx tC.partial_correctness
def Eu:aj×az->ag (Int×az)
 |(a,b)=>
 if (a.ae=2:J) then if (a.br=a.bB:J) then some (1,b)else some (2,b)else if (a.ae=3:J) then if (a.Max=0:J) then some (1,b)else some (2,b)else if (a.ae=4:J) then some ((a.bc.length:Int),b)else if (a.ae=5:J) then tB (1,a.af,(a.af.length:Int),0,b)>>=λo=>some (o.1,o.2)else if (a.ae=6:J) then tC (0,a.af,(a.af.length:Int),0,b)>>=λc=>some (c.1,c.2)else if (a.ae=7:J) then some (a.Max=0:J)>>=λt71=>ite (aE a.aF b.length||(!(!t71))) (ite ((a.aF.toNat<b.length:J)||(!(!t71))) (if(bif t71 then true else (b.getD a.aF.toNat 0=0:J)) then some (1,b)else some (2,b)) none) none else if (a.ae=8:J) then some (a.Max=0:J)>>=λt84=>ite (aE a.aF b.length||(!(!t84))) (ite ((a.aF.toNat<b.length:J)||(!(!t84))) (some (bif t84 then true else (b.getD a.aF.toNat 0=0:J))>>=λt92=>ite (aE a.aR b.length||(!(!t92))) (ite ((a.aR.toNat<b.length:J)||(!(!t92))) (if(bif t92 then true else (b.getD a.aR.toNat 0=0:J)) then some (1,b)else some (2,b)) none) none) none) none else if (a.ae=9:J) then ite (aE a.aF b.length) (ite (a.aF.toNat<b.length:J) (some (a' .i64 1 (b.getD a.aF.toNat 0),b)) none) none else some (2,b)
theorem abg:bj TA Eu:= .bo .n (.k Z6 (.k Z7 .n))
def pE:J×I aj×Int×Int×I aj×az->ag (J×I aj×az)
 |(d,t14,c,t16,a,b)=>
 if (t16<c:J) then ite (aE t16 t14.length) (Eu (t14.getD t16.toNat aN,b)>>=λr=>ite ((r.2.length=b.length:J)&&true) (some (c4 2 r.1)>>=λt24=>ite (aE t16 r.2.length) (ite (t16.toNat<r.2.length:J) (if !(t24=r.2.getD t16.toNat 0:J) then ite (aE t16 r.2.length) (ite (t16.toNat<r.2.length:J) (pE (true,t14,c,a' .i64 t16 1,a,r.2.set t16.toNat t24)) none) none else pE (d,t14,c,a' .i64 t16 1,a,r.2)) none) none) none) none else some (d,a,b)
  partial_fixpoint
theorem Yb:cy 122 0 [0,0] Pq pE:= .rx pE.partial_correctness (.k abg .n)
def tl:J×I aj×az->ag az
 |(d,a,c)=>
 if d then pE (false,a,(a.length:Int),0,a,c)>>=λb=>tl (b.1,b.2.1,b.2.2)else some c
  partial_fixpoint
theorem Y1:cy 122 0 [0] Rl tl:= .rx tl.partial_correctness .n (.k Yb .n)
def Ej(s:aT):ag az:=
 some (s.bh.length:Int)>>=λt10=>ite (y2 8 t10) (tl (true,s.bh,List.replicate t10.toNat 0)>>=λo=>some o) none
theorem ZH:bj S7 Ej:= .bo .n (.k Y1 .n)
def r3:az×Int×Int×I J->ag (I J)
 |(t14,b,t16,a)=>
 if (t16<b:J) then ite (aE t16 t14.length) (some [(0<t14.getD t16.toNat 0:J)]>>=λt23=>ite (cn 1 (a++t23).length) (r3 (t14,b,a' .i64 t16 1,a++t23)) none) none else some a
  partial_fixpoint
theorem Y2:cy 68 0 [0] Uy r3:= .rx r3.partial_correctness
def zS(s:aT):ag (I J×Int):=
 z' s>>=λr=>if !(r=0:J) then some ([],r)else Ej s>>=λa=>r3 (a,(a.length:Int),0,[])>>=λo=>some (o,0)
theorem aaX:bj Ux zS:= .bo (.k abf (.k ZH .n)) (.k Y2 .n)
def r7:I J×Int×Int->ag ((Int) ⊕ (Unit))
 |(t15,a,t17)=>
 if (t17<a:J) then ite (aE t17 t15.length) (if !(t15.getD t17.toNat false) then some (.inl 10)else r7 (t15,a,a' .i64 t17 1)) none else some (.inr ())
  partial_fixpoint
theorem Z8:cy 43 0 [0] Ub r7:= .rx r7.partial_correctness
def se(s:aT):ag (Int):=
 zS s>>=λr=>if !(r.2=0:J) then some r.2 else r7 (r.1,(r.1.length:Int),0)>>=λo=>match o with
 |.inl a=>
 some a
 |.inr b=>
 some 0
theorem Lt:bj Ua se:= .bo (.k aaX .n) (.k Z8 .n)
def sf(r:cv):ag (J):=
 se r.dO>>=λa=>some (bif bif (a=0:J)then (0<=r.aC:J)else false then (r.aC<(r.dO.bh.length:Int):J)else false)
theorem Lu:bj Gq sf:= .bo (.k Lt .n)
def oa:I bn×Int×Int×bn->ag ((Int) ⊕ (Unit))
 |(a,c,t8,b)=>
 if (t8<c:J) then ite (aE t8 a.length) (some (a.getD t8.toNat dH)>>=λd=>if(eJ b.cg d.cg&&(eJ b.bY d.bY&&true)) then some (.inl t8)else oa (a,c,a' .i64 t8 1,b)) none else some (.inr ())
  partial_fixpoint
theorem XA:cy 44 0 [0] QP oa:= .rx oa.partial_correctness
def HQ(b:I bn×bn):ag (Int):=
 match b with
 |(s,v)=>
 oa (s,(s.length:Int),0,v)>>=λo=>match o with
 |.inl a=>
 some a
 |.inr c=>
 some (-1)
theorem Yc:bj Uc HQ:= .bo .n (.k XA .n)
def DP:I bn×bn->ag (J)
 |(s,v)=>
 HQ (s,v)>>=λr=>some (0<=r:J)
theorem XB:bj Gv DP:= .bo (.k Yc .n)
def Ip(p:gr):ag (bn):=
 some (⟨p.w.aC,p.r.aC⟩:bn)
theorem Zm:bj Gw Ip:= .bo
def wB:gr×bn->ag (J)
 |(p,a)=>
 some (bif bif (0<=c4 a.cg a.bY:J)then (a.cg<(p.w.dO.bh.length:Int):J)else false then (a.bY<(p.r.dO.bh.length:Int):J)else false)
theorem YB:bj Gx wB:= .bo
def zT:aT×Int->ag (Int)
 |(s,t)=>
 se s>>=λr=>if !(r=0:J) then some r else if(bif (t<0:J)then true else ((s.bh.length:Int)<=t:J)) then some 4 else some 0
theorem aaY:bj S8 zT:= .bo (.k Lt .n)
def Aa:cv×cv->ag (Int)
 |(w,r)=>
 zT (w.dO,w.aC)>>=λa=>if !(a=0:J) then some a else zT (r.dO,r.aC)>>=λb=>some b
theorem Lv:bj Uz Aa:= .bo (.k aaY .n)
def Ab(a:aj):ag (Int):=
 if (a.ae=1:J) then some 2 else if (a.ae=2:J) then some (dD .u64 (da .u64 a.bB) (da .u64 a.br))>>=λt16=>if (t16<2147483647:J) then some (a' .i64 (da .i64 t16) 1)else some 2147483647 else if (a.ae=4:J) then some (a.bc.length:Int)else if (a.ae=3:J) then if (a.Max=0:J) then some 1 else some 2147483647 else some 2147483647
theorem abh:bj S9 Ab:= .bo
def rn:I df×Int×Int×aj×aj->ag ((J) ⊕ (aj×aj))
 |(t16,c,t18,b,a)=>
 if (t18<c:J) then ite (aE t18 t16.length) (sd (a,(t16.getD t18.toNat dV).ai)>>=λr=>if !r.2 then some (.inl false)else rn (t16,c,a' .i64 t18 1,b,a)) none else some (.inr (b,a))
  partial_fixpoint
theorem Yd:cy 125 0 [0] Rm rn:= .rx rn.partial_correctness (.k Eg .n)
def rp:I aU×Int×Int×aj->ag ((J) ⊕ (Unit))
 |(t33,b,t35,a)=>
 if (t35<b:J) then ite (aE t35 t33.length) (gO (a,(t33.getD t35.toNat aH).ai)>>=λc=>if !c.2 then some (.inl false)else rp (t33,b,a' .i64 t35 1,a)) none else some (.inr ())
  partial_fixpoint
theorem Ye:cy 125 0 [1] Rn rp:= .rx rp.partial_correctness (.k lE .n)
def Am(f:aj×aj):ag (J):=
 match f with
 |(b,y)=>
 if y.bt then some true else rn (b.bc,(b.bc.length:Int),0,b,y)>>=λo=>match o with
 |.inl c=>
 some c
 |.inr a=>
 rp (a.1.af,(a.1.af.length:Int),0,a.2)>>=λd=>match d with
 |.inl e=>
 some e
 |.inr g=>
 some true
theorem Z9:bj S' Am:= .bo .n (.k Yd (.k Ye .n))
def zU:aT×Int->ag (Int)
 |(s,t)=>
 pR s>>=λr=>if !(r=0:J) then some r else if(bif (t<0:J)then true else ((s.bh.length:Int)<=t:J)) then some 4 else some 0
theorem aaZ:bj US zU:= .bo (.k zR .n)
def Ev:aT×Int×ab×aT×Int->ag (Int)
 |(w,wt,v,r,rt)=>
 zU (w,wt)>>=λa=>if !(a=0:J) then some a else zU (r,rt)>>=λb=>if !(b=0:J) then some b else rv (w,wt,ab.eta v)>>=λc=>if !c then some 1 else some 0
theorem aaz:bj Um Ev:= .bo (.k aaZ (.k H' .n))
def tm:I aj×I aj×az×az->ag (ab×J×I aj×I aj×az×az)
 |(b,c,e,a)=>
 uJ 8 a>>=λr=>ite ((r.1.length=a.length:J)&&true) (some ((⟨0,false,0,[],0,[],[],[]⟩:ab),false,b,c,r.1,r.2)) none
theorem Wp:bj UT tm:= .bo (.k lA .n)
def wE:Int×I aj×I aj×az×az->ag (ab×J×I aj×I aj×az×az)
 |(id,b,c,e,a)=>
 uJ 8 a>>=λr=>ite ((r.1.length=a.length:J)&&true) (some [id]>>=λt13=>ite (cn 8 (r.2++t13).length) (some ((⟨0,false,0,[],0,[],[],[]⟩:ab),false,b,c,r.1,r.2++t13)) none) none
theorem Wi:bj Tw wE:= .bo (.k lA .n)
mutual
def kR(v:ab):ag (ab):=
 gF 120 v.a7>>=λr=>gF 120 v.aw>>=λX=>gF 24 v.aX>>=λY=>tn ((r.length:Int),0,v.ae,v.ct,v.bE,v.bZ,v.ai,0,false,0,[],0,r,X,Y)>>=λo=>tp ((o.2.2.2.2.2.2.2.2.2.2.2.1.length:Int),0,o.1,o.2.1,o.2.2.1,o.2.2.2.1,o.2.2.2.2.1,o.2.2.2.2.2.1,o.2.2.2.2.2.2.1,o.2.2.2.2.2.2.2.1,o.2.2.2.2.2.2.2.2.1,o.2.2.2.2.2.2.2.2.2.1,o.2.2.2.2.2.2.2.2.2.2.2.1,o.2.2.2.2.2.2.2.2.2.2.1,o.2.2.2.2.2.2.2.2.2.2.2.2)>>=λa=>some (⟨a.1,a.2.1,a.2.2.1,a.2.2.2.1,a.2.2.2.2.1,a.2.2.2.2.2.2.2.2.2.2.1,a.2.2.2.2.2.2.2.2.2.2.2.1,a.2.2.2.2.2.2.2.2.2.2.2.2⟩:ab)
  partial_fixpoint
def tn:Int×Int×Int×J×Int×aq×Int×Int×J×Int×aq×Int×I ab×I ab×I ch->ag (Int×J×Int×aq×Int×Int×J×Int×aq×Int×I ab×I ab×I ch)
 |(U,t22,g,j,p,q,t,u,w,x,y,z,c,A,B)=>
 if (t22<U:J) then ite (aE t22 c.length) (ite (t22.toNat<c.length:J) (kR (ab.eta (c.getD t22.toNat aM))>>=λZ=>ite (aE t22 c.length) (ite (t22.toNat<c.length:J) (tn (U,a' .i64 t22 1,g,j,p,q,t,u,w,x,y,z,c.set t22.toNat (ab.eta Z),A,B)) none) none) none) none else some (g,j,p,q,t,u,w,x,y,z,c,A,B)
  partial_fixpoint
def tp:Int×Int×Int×J×Int×aq×Int×Int×J×Int×aq×Int×I ab×I ab×I ch->ag (Int×J×Int×aq×Int×Int×J×Int×aq×Int×I ab×I ab×I ch)
 |(W,t37,D,E,F,G,H,K,L,N,O,P,e,Q,S)=>
 if (t37<W:J) then ite (aE t37 e.length) (ite (t37.toNat<e.length:J) (kR (ab.eta (e.getD t37.toNat aM))>>=λaa=>ite (aE t37 e.length) (ite (t37.toNat<e.length:J) (tp (W,a' .i64 t37 1,D,E,F,G,H,K,L,N,O,P,e.set t37.toNat (ab.eta aa),Q,S)) none) none) none) none else some (D,E,F,G,H,K,L,N,O,P,Q,e,S)
  partial_fixpoint
end
theorem Z':eP vE kR/\fa 156 0 [1] Bj tp/\fa 156 0 [0] Bi tn:=kR.mutual_partial_correctness (eG vE) (e' 156 0 [1] Bj) (e' 156 0 [0] Bi)
 (λ_ _ h1 a _ _ h=>eV h (.k l9 (.k ma .n)) (.k (fl Bi a) (.k (fl Bj h1) .n)))
 (λ_ _ h0 h1 _ _ h=>fk Bj h1 h (.k (cL vE h0) .n))
 (λ_ _ h0 a _ _ h=>fk Bi a h (.k (cL vE h0) .n))
theorem aa0:bj vE kR:=cL _ Z'.1
mutual
def wx(c:I ab×I ab):ag (J):=
 match c with
 |(s1,f)=>
 if !((s1.length:Int)=(f.length:Int):J) then some false else wu (f,s1,(s1.length:Int),0)>>=λo=>match o with
 |.inl j=>
 some j
 |.inr t=>
 some true
  partial_fixpoint
def nh:ab×ab->ag (J)
 |(a,b)=>
 some (bif bif bif bif (a.ae=b.ae:J)then e7 a.ct b.ct else false then (a.bE=b.bE:J)else false then (a.bZ=b.bZ:J)else false then (a.ai=b.ai:J)else false)>>=λt37=>(if t37 then y' (a.aX,b.aX)else some false)>>=λr=>some (bif t37 then r else false)>>=λt44=>(if t44 then wx (a.a7,b.a7)else some false)>>=λp=>some (bif t44 then p else false)>>=λt51=>(if t51 then wx (a.aw,b.aw)else some false)>>=λq=>some (bif t51 then q else false)
  partial_fixpoint
def wu:I ab×I ab×Int×Int->ag ((J) ⊕ (Unit))
 |(e,t15,g,t17)=>
 if (t17<g:J) then ite (aE t17 t15.length) (ite (aE t17 e.length) (nh (ab.eta (t15.getD t17.toNat aM),ab.eta (e.getD t17.toNat aM))>>=λr=>if !r then some (.inl false)else wu (e,t15,g,a' .i64 t17 1)) none) none else some (.inr ())
  partial_fixpoint
end
theorem XF:eP Fq wx/\fa 225 0 [0] AB wu/\eP yw nh:=wx.mutual_partial_correctness (eG Fq) (e' 225 0 [0] AB) (eG yw)
 (λ_ h1 _ _ h=>eV h .n (.k (fl AB h1) .n))
 (λ_ _ h1 a _ _ h=>fk AB h1 h (.k (cL yw a) .n))
 (λ_ h0 _ _ h=>eV h (.k Wc (.k (cL Fq h0) .n)))
theorem Ia:bj yw nh:=cL _ XF.2.2
def tq:aU×ab->ag (J)
 |(m,a)=>
 (if m.bH then nh (ab.eta a,ab.eta m.bm)else some false)>>=λr=>some (bif m.bH then r else false)
theorem HR:bj Tx tq:= .bo (.k Ia .n)
def H6:aT×Int->ag (Int)
 |(s,t)=>
 pR (⟨s.bh⟩:aT)>>=λr=>if !(r=0:J) then some r else if(bif (t<0:J)then true else ((s.bh.length:Int)<=t:J)) then some 4 else some 0
theorem aa1:bj UK H6:= .bo (.k zR .n)
def E8:aT×Int×ab->ag (J)
 |(s,t,v)=>
 ko ((⟨s.bh⟩:aT),t,ab.eta v,false)>>=λr=>some r
theorem abo:bj UL E8:= .bo (.k Mf .n)
def wi:aT×Int×ab->ag (Int)
 |(s,t,v)=>
 H6 ((⟨s.bh⟩:aT),t)>>=λr=>if !(r=0:J) then some r else E8 ((⟨s.bh⟩:aT),t,ab.eta v)>>=λa=>if !a then some 1 else some 0
theorem aa2:bj Ul wi:= .bo (.k aa1 (.k abo .n))
def uG:Int×Int×az->ag (Int×Int×az)
 |(b,a,c)=>
 if (128<=b:J) then ite (aE a 10) (ite (a.toNat<c.length:J) (uG (mG .u64 b 7,a' .i64 a 1,c.set a.toNat (sw .u8 (da .u8 b) 128))) none) none else some (b,a,c)
  partial_fixpoint
theorem aaA:cy 153 0 [0] Ro uG:= .rx uG.partial_correctness
def pT(n:Int):ag aq:=
 uG (n,0,[0,0,0,0,0,0,0,0,0,0])>>=λo=>ite (aE o.2.1 10) (ite (o.2.1.toNat<o.2.2.length:J) (some (o.2.2.set o.2.1.toNat (da .u8 o.1))>>=λa=>some (a' .i64 o.2.1 1)>>=λt21=>ite (fy 0 t21 10) (ite (xY (0:Int).toNat t21.toNat a.length) (some (strOf ((a.drop (0:Int).toNat).take t21.toNat))) none) none) none) none
theorem Af:bj Tv pT:= .bo .n (.k aaA .n)
def sg(p:aq):ag aq:=
 pT (da .u64 (p.length:Int))>>=λr=>ite (r.length+p.length<=eS:J) (some (r++p)) none
theorem KY:bj UR sg:= .bo (.k Af .n)
def tc:aq×aq->ag (Int×aq)
 |(s,b)=>
 some b>>=λr=>ite ((r.length=b.length:J)&&true) (ite (cn 1 (r.length+s.length)) (some ((s.length:Int),vz r s)) none) none
theorem Wd:bj T6 tc:= .bo (.k na .n)
def wq:Int×J×aq->ag aq
 |(id,d,p)=>
 some (fH .u64 2 (da .u64 id))>>=λt10=>if d then pT (a' .u64 t10 1)>>=λr=>sg p>>=λa=>ite (r.length+a.length<=eS:J) (some (r++a)) none else pT t10>>=λb=>sg p>>=λc=>ite (b.length+c.length<=eS:J) (some (b++c)) none
theorem H7:bj Tu wq:= .bo (.k Af (.k KY .n))
def Ek:aU×ab->ag (J)
 |(m,v)=>
 (if m.bH then nh (ab.eta m.bm,ab.eta v)else some false)>>=λr=>some (bif m.bH then r else false)
theorem aa3:bj Tr Ek:= .bo (.k Ia .n)
def q6:I ch×Int×Int×I aj×Int×I gP->ag (I aj×Int×I gP)
 |(t57,e,t59,c,d,a)=>
 if (t59<e:J) then ite (aE t59 t57.length) (some (t57.getD t59.toNat cj)>>=λb=>wq (b.ai,false,b.bT)>>=λf=>some [(⟨b.ai,f⟩:gP)]>>=λt72=>ite (cn 24 (a++t72).length) (q6 (t57,e,a' .i64 t59 1,c,d,a++t72)) none) none else some (c,d,a)
  partial_fixpoint
theorem Xo:cy 84 1 [1] UP q6:= .rx q6.partial_correctness (.k H7 .n)
def tI:Int×Int×I aj×Int×I gP×aq->ag (I aj×Int×aq)
 |(e,t79,b,c,a,d)=>
 if (t79<e:J) then ite (aE t79 a.length) (ite (t79.toNat<a.length:J) (tc ((a.getD t79.toNat wo).text,d)>>=λf=>tI (e,a' .i64 t79 1,b,c,a,f.2)) none) none else some (b,c,d)
  partial_fixpoint
theorem Xp:cy 84 1 [2] UQ tI:= .rx tI.partial_correctness (.k Wd .n)
def za(b:aq):ag aq:=
 ite (eJ (b.length:Int) (b.length:Int)) (some b) none
theorem We:bj T7 za:= .bo
def uH:Int×Int×az->ag (Int×az)
 |(b,c,a)=>
 if (0<b:J) then some (dD .i64 c 1)>>=λt10=>ite (aE t10 8) (ite (t10.toNat<a.length:J) (uH (mG .u64 b 8,t10,a.set t10.toNat (da .u8 b))) none) none else some (c,a)
  partial_fixpoint
theorem aaB:cy 82 0 [0] UN uH:= .rx uH.partial_correctness
def A5(n:Int):ag aq:=
 uH (n,8,[0,0,0,0,0,0,0,0])>>=λo=>ite (fy o.1 8 8) (ite (xY o.1.toNat ((8:Int).toNat-o.1.toNat) o.2.length) (some (strOf ((o.2.drop o.1.toNat).take ((8:Int).toNat-o.1.toNat)))) none) none
theorem abp:bj UM A5:= .bo .n (.k aaB .n)
mutual
def kj:Int×ab×Int×I aj×Int->ag (aq×I aj×Int)
 |(t,v,e,b,u)=>
 some (mx u e)>>=λt19=>ite (aE t b.length) (some (b.getD t.toNat aN)>>=λa=>if (a.ae=1:J) then if v.ct then some ([1],b,t19)else some ([],b,t19)else if (a.ae=2:J) then wj v.bE>>=λr=>A5 r>>=λp=>some (p,b,t19)else if (a.ae=3:J) then some (v.bZ,b,t19)else if (a.ae=4:J) then A5 (da .u64 v.ai)>>=λO=>some (O,b,t19)else if (a.ae=5:J) then Dl (a,ab.eta v,e,b,t19)>>=λq=>some (q.1,q.2.1,q.2.2)else if (a.ae=6:J) then zg (a,ab.eta v,e,b,t19)>>=λx=>some (x.1,x.2.1,x.2.2)else if (a.ae=9:J) then if ((v.aw.length:Int)=0:J) then some ([],b,t19)else ite (aE 0 v.aw.length) (kj (a.aF,ab.eta (v.aw.getD (0:Int).toNat aM),a' .i64 e 1,b,t19)>>=λB=>ite ([1].length+B.1.length<=eS:J) (some ([1]++B.1,B.2.1,B.2.2)) none) none else l4 (e,v.aw,(v.aw.length:Int),0,b,t19,ab.eta v,a,[])>>=λo=>za o.2.2>>=λX=>some (X,o.1,o.2.1)) none
  partial_fixpoint
def Dl:aj×ab×Int×I aj×Int->ag (aq×I aj×Int)
 |(a,v,e,b,u)=>
 q7 (e,a.af,(a.af.length:Int),0,b,u,ab.eta v,[])>>=λo=>q6 (o.2.2.1.aX,(o.2.2.1.aX.length:Int),0,o.1,o.2.1,o.2.2.2)>>=λA=>Is A.2.2>>=λr=>ite ((r.length=A.2.2.length:J)&&true) (tI ((r.length:Int),0,A.1,A.2.1,r,[])>>=λL=>za L.2.2>>=λp=>some (p,L.1,L.2.1)) none
  partial_fixpoint
def zg:aj×ab×Int×I aj×Int->ag (aq×I aj×Int)
 |(a,v,e,b,u)=>
 pT (da .u64 v.ai)>>=λr=>gO (a,v.ai)>>=λp=>if !p.2 then ite (aE 0 v.aX.length) (some (v.aX.getD (0:Int).toNat cj)>>=λc=>ite (r.length+c.bT.length<=eS:J) (some (r++c.bT,b,u)) none) none else ite (aE p.1 a.af.length) (ite (aE 0 v.aw.length) (kj ((a.af.getD p.1.toNat aH).aC,ab.eta (v.aw.getD (0:Int).toNat aM),a' .i64 e 1,b,u)>>=λD=>ite (r.length+D.1.length<=eS:J) (some (r++D.1,D.2.1,D.2.2)) none) none) none
  partial_fixpoint
def l4:Int×I ab×Int×Int×I aj×Int×ab×aj×aq->ag (I aj×Int×aq)
 |(f,t84,U,t86,G,H,z,w,K)=>
 if (t86<U:J) then ite (aE t86 t84.length) (some (t84.getD t86.toNat aM)>>=λW=>if (w.ae=8:J) then ite (aE t86 z.a7.length) (kj (w.aR,ab.eta (z.a7.getD t86.toNat aM),a' .i64 f 1,G,H)>>=λN=>sg N.1>>=λY=>tc (Y,K)>>=λZ=>kj (w.aF,ab.eta W,a' .i64 f 1,N.2.1,N.2.2)>>=λP=>sg P.1>>=λaa=>tc (aa,Z.2)>>=λak=>l4 (f,t84,U,a' .i64 t86 1,P.2.1,P.2.2,ab.eta z,w,ak.2)) none else kj (w.aF,ab.eta W,a' .i64 f 1,G,H)>>=λQ=>sg Q.1>>=λal=>tc (al,K)>>=λam=>l4 (f,t84,U,a' .i64 t86 1,Q.2.1,Q.2.2,ab.eta z,w,am.2)) none else some (G,H,K)
  partial_fixpoint
def q7:Int×I aU×Int×Int×I aj×Int×ab×I gP->ag (I aj×Int×ab×I gP)
 |(f,t18,S,t20,E,F,j,y)=>
 if (t20<S:J) then ite (aE t20 t18.length) (some (t18.getD t20.toNat aH)>>=λc=>ite (aE t20 j.aw.length) (Ek ((⟨c.ai,c.aP,c.aC,c.b4,c.bH,ab.eta c.bm⟩:aU),ab.eta (j.aw.getD t20.toNat aM))>>=λO=>if !O then ite (aE t20 j.aw.length) (kj (c.aC,ab.eta (j.aw.getD t20.toNat aM),a' .i64 f 1,E,F)>>=λq=>wq (c.ai,c.b4,q.1)>>=λx=>some [(⟨c.ai,x⟩:gP)]>>=λt53=>ite (cn 24 (y++t53).length) (q7 (f,t18,S,a' .i64 t20 1,q.2.1,q.2.2,ab.eta j,y++t53)) none) none else q7 (f,t18,S,a' .i64 t20 1,E,F,ab.eta j,y)) none) none else some (E,F,ab.eta j,y)
  partial_fixpoint
end
theorem Xq:eP qV kj/\fa 51 1 [0] yz l4/\eP CD zg/\eP CC Dl/\fa 84 1 [0] yI q7:=kj.mutual_partial_correctness (eG qV) (e' 51 1 [0] yz) (eG CD) (eG CC) (e' 84 1 [0] yI)
 (λ_ _ _ _ h0 h1 b c _ _ h=>eV h (.k Lr (.k abp (.k (cL CC c) (.k (cL CD b) (.k (cL qV h0) (.k We .n)))))) (.k (fl yz h1) .n))
 (λ_ _ h0 h1 _ _ h=>fk yz h1 h (.k (cL qV h0) (.k KY (.k Wd .n))))
 (λ_ h0 _ _ h=>eV h (.k Af (.k lE (.k (cL qV h0) .n))))
 (λ_ a _ _ h=>eV h (.k H4 (.k We .n)) (.k (fl yI a) (.k Xo (.k Xp .n))))
 (λ_ _ h0 a _ _ h=>fk yI a h (.k aa3 (.k (cL qV h0) (.k H7 .n))))
theorem Yk:bj qV kj:=cL _ Xq.1
def oi:aT×Int×ab->ag (aq×Int)
 |(s,t,v)=>
 wi ((⟨s.bh⟩:aT),t,ab.eta v)>>=λr=>if !(r=0:J) then some ([],r)else kj (t,ab.eta v,1,s.bh,0)>>=λa=>if(bif (4096<(a.1.length:Int):J)then true else (200<a.2.2:J)) then some ([],3)else some (a.1,0)
theorem Lw:bj T4 oi:= .bo (.k aa2 (.k Yk .n))
def Ag:Int×J×aq->ag (aq×Int)
 |(id,b,a)=>
 if(bif (id<1:J)then true else (1000<id:J)) then some ([],7)else if (4096<(a.length:Int):J) then some ([],3)else wq (id,b,a)>>=λr=>some (r,0)
theorem aaP:bj TO Ag:= .bo (.k H7 .n)
def wk(p:aq):ag aq:=
 pT (da .u64 (p.length:Int))>>=λr=>ite (r.length+p.length<=eS:J) (some (r++p)) none
theorem aaC:bj TP wk:= .bo (.k Af .n)
mutual
def kn:aT×Int×ab->ag aq
 |(s,t,v)=>
 ite (aE t s.bh.length) (some (s.bh.getD t.toNat aN)>>=λa=>if (a.ae=5:J) then rY ([],a.af,(a.af.length:Int),0,s.bh,ab.eta v)>>=λo=>some o else if (a.ae=6:J) then gO (a,v.ai)>>=λr=>pT (da .u64 v.ai)>>=λG=>ite (aE r.1 a.af.length) (ite (aE 0 v.aw.length) (kn (s,(a.af.getD r.1.toNat aH).aC,ab.eta (v.aw.getD (0:Int).toNat aM))>>=λH=>ite (G.length+H.length<=eS:J) (some (G++H)) none) none) none else if (a.ae=9:J) then vT ([],v.aw,(v.aw.length:Int),0,s.bh,a)>>=λN=>some N else some (a.ae=7:J)>>=λt115=>if t115 then if t115 then lB ([],v.aw,(v.aw.length:Int),0,s.bh,ab.eta v,a)>>=λO=>some O else oi (s,t,ab.eta v)>>=λZ=>some Z.1 else if (a.ae=8:J) then lB ([],v.aw,(v.aw.length:Int),0,s.bh,ab.eta v,a)>>=λP=>some P else oi (s,t,ab.eta v)>>=λaa=>some aa.1) none
  partial_fixpoint
def rY:aq×I aU×Int×Int×I aj×ab->ag aq
 |(u,t36,x,t38,b,f)=>
 if (t38<x:J) then ite (aE t38 t36.length) (some (t36.getD t38.toNat aH)>>=λc=>ite (aE t38 f.aw.length) (tq ((⟨c.ai,c.aP,c.aC,c.b4,c.bH,ab.eta c.bm⟩:aU),ab.eta (f.aw.getD t38.toNat aM))>>=λS=>if !S then ite (aE t38 f.aw.length) (kn ((⟨b⟩:aT),c.aC,ab.eta (f.aw.getD t38.toNat aM))>>=λU=>Ag (c.ai,c.b4,U)>>=λA=>ite (u.length+A.1.length<=eS:J) (rY (u++A.1,t36,x,a' .i64 t38 1,b,ab.eta f)) none) none else rY (u,t36,x,a' .i64 t38 1,b,ab.eta f)) none) none else some u
  partial_fixpoint
def vT:aq×I ab×Int×Int×I aj×aj->ag aq
 |(Q,t101,K,t103,y,z)=>
 if (t103<K:J) then ite (aE t103 t101.length) (kn ((⟨y⟩:aT),z.aF,ab.eta (t101.getD t103.toNat aM))>>=λB=>ite ([1].length+B.length<=eS:J) (vT ([1]++B,t101,K,a' .i64 t103 1,y,z)) none) none else some Q
  partial_fixpoint
def lB:aq×I ab×Int×Int×I aj×ab×aj->ag aq
 |(p,t118,w,t120,j,q,g)=>
 if (t120<w:J) then ite (aE t120 t118.length) (some (t118.getD t120.toNat aM)>>=λL=>if (g.ae=8:J) then ite (aE t120 q.a7.length) (kn ((⟨j⟩:aT),g.aR,ab.eta (q.a7.getD t120.toNat aM))>>=λW=>wk W>>=λD=>ite (p.length+D.length<=eS:J) (some (p++D)>>=λt139=>kn ((⟨j⟩:aT),g.aF,ab.eta L)>>=λX=>wk X>>=λE=>ite (t139.length+E.length<=eS:J) (lB (t139++E,t118,w,a' .i64 t120 1,j,ab.eta q,g)) none) none) none else kn ((⟨j⟩:aT),g.aF,ab.eta L)>>=λY=>wk Y>>=λF=>ite (p.length+F.length<=eS:J) (lB (p++F,t118,w,a' .i64 t120 1,j,ab.eta q,g)) none) none else some p
  partial_fixpoint
end
theorem Y3:eP qU kn/\fa 159 0 [2] Bm lB/\fa 159 0 [1] Bl vT/\fa 159 0 [0] Bk rY:=kn.mutual_partial_correctness (eG qU) (e' 159 0 [2] Bm) (e' 159 0 [1] Bl) (e' 159 0 [0] Bk)
 (λ_ _ _ _ h0 h1 a b _ _ h=>eV h (.k lE (.k Af (.k (cL qU h0) (.k Lw .n)))) (.k (fl Bk b) (.k (fl Bl a) (.k (fl Bm h1) .n))))
 (λ_ _ h0 h1 _ _ h=>fk Bm h1 h (.k (cL qU h0) (.k aaC .n)))
 (λ_ _ h0 a _ _ h=>fk Bl a h (.k (cL qU h0) .n))
 (λ_ _ h0 b _ _ h=>fk Bk b h (.k HR (.k (cL qU h0) (.k aaP .n))))
theorem WZ:bj qU kn:=cL _ Y3.1
def oE:I aU×Int×Int×I aj×I aj×az×ab×aj×Int×J×Int×aq×Int×Int×J×Int×aq×Int×az×I ab×I ch->ag ((J×I aj×I aj×ab×az×az) ⊕ (I aj×I aj×az×Int×J×Int×aq×Int×Int×J×Int×aq×Int×az×I ab×I ch))
 |(t115,v,t117,c,e,f,b,j,k,l,m,n,o,p,q,r,s,t,g,u,i)=>
 if (t117<v:J) then ite (aE t117 t115.length) (some (t115.getD t117.toNat aH)>>=λa=>gO (j,a.ai)>>=λw=>if w.2 then oE (t115,v,a' .i64 t117 1,c,e,f,ab.eta b,j,k,l,m,n,o,p,q,r,s,t,g,u,i)else if a.b4 then wE (a.ai,c,e,f,g)>>=λd=>some (.inl (d.2.1,d.2.2.1,d.2.2.2.1,ab.eta d.1,d.2.2.2.2.1,d.2.2.2.2.2))else ite (aE t117 b.aw.length) (tq ((⟨a.ai,a.aP,a.aC,a.b4,a.bH,ab.eta a.bm⟩:aU),ab.eta (b.aw.getD t117.toNat aM))>>=λx=>if !x then ite (aE t117 b.aw.length) (kn ((⟨c⟩:aT),a.aC,ab.eta (b.aw.getD t117.toNat aM))>>=λy=>some [(⟨a.ai,y⟩:ch)]>>=λt163=>ite (cn 24 (i++t163).length) (oE (t115,v,a' .i64 t117 1,c,e,f,ab.eta b,j,k,l,m,n,o,p,q,r,s,t,g,u,i++t163)) none) none else oE (t115,v,a' .i64 t117 1,c,e,f,ab.eta b,j,k,l,m,n,o,p,q,r,s,t,g,u,i)) none) none else some (.inr (c,e,f,k,l,m,n,o,p,q,r,s,t,g,u,i))
  partial_fixpoint
theorem XC:cy 89 2 [1] UU oE:= .rx oE.partial_correctness (.k lE (.k Wi (.k HR (.k WZ .n))))
mutual
def r4:Int×Int×ab×Int×I aj×I aj×az×az->ag (ab×J×I aj×I aj×az×az)
 |(step,wt,v,rt,b,f,j,g)=>
 some [step]>>=λt20=>ite (cn 8 (g++t20).length) (tu (wt,ab.eta v,rt,b,f,j,g++t20)>>=λr=>some (dD .i64 (r.2.2.2.2.2.length:Int) 1)>>=λt42=>ite (fy 0 t42 r.2.2.2.2.2.length) (ite (t42.toNat<=r.2.2.2.2.2.length:J) (some (ab.eta r.1,r.2.1,r.2.2.1,r.2.2.2.1,r.2.2.2.2.1,r.2.2.2.2.2.take t42.toNat)) none) none) none
  partial_fixpoint
def oN(q:Int×I ab×Int×I aj×I aj×az×az):ag (I ab×J×I aj×I aj×az×az):=
 match q with
 |(wt,l,rt,b,f,j,g)=>
 tL (wt,rt,l,(l.length:Int),0,b,f,j,[],g)>>=λo=>match o with
 |.inl t=>
 some ([],t.1,t.2.1,t.2.2.1,t.2.2.2.1,t.2.2.2.2)
 |.inr e=>
 some (e.2.2.2.1,true,e.1,e.2.1,e.2.2.1,e.2.2.2.2)
  partial_fixpoint
def tu:Int×ab×Int×I aj×I aj×az×az->ag (ab×J×I aj×I aj×az×az)
 |(wt,v,rt,b,f,j,g)=>
 ite (aE wt b.length) (some (b.getD wt.toNat aN)>>=λc=>ite (aE rt f.length) (some (f.getD rt.toNat aN)>>=λa=>if !(c.ae=a.ae:J) then tm (b,f,j,g)>>=λr=>some (ab.eta r.1,r.2.1,r.2.2.1,r.2.2.2.1,r.2.2.2.2.2,r.2.2.2.2.1)else
 let bz:=λcs=>
 if !cs then tm (b,f,j,g)>>=λW=>some (ab.eta W.1,W.2.1,W.2.2.1,W.2.2.2.1,W.2.2.2.2.2,W.2.2.2.2.1)else if (c.ae=5:J) then zh (c,ab.eta v,a,b,f,j,g)>>=λO=>some (ab.eta O.1,O.2.1,O.2.2.1,O.2.2.2.1,O.2.2.2.2.1,O.2.2.2.2.2)else if (c.ae=6:J) then zl (c,ab.eta v,a,b,f,j,g)>>=λP=>some (ab.eta P.1,P.2.1,P.2.2.1,P.2.2.2.1,P.2.2.2.2.1,P.2.2.2.2.2)else if (c.ae=8:J) then oN (c.aR,v.a7,a.aR,b,f,j,g)>>=λz=>if !z.2.1 then some ((⟨0,false,0,[],0,[],[],[]⟩:ab),false,z.2.2.1,z.2.2.2.1,z.2.2.2.2.1,z.2.2.2.2.2)else oN (c.aF,v.aw,a.aF,z.2.2.1,z.2.2.2.1,z.2.2.2.2.1,z.2.2.2.2.2)>>=λD=>if !D.2.1 then some ((⟨0,false,0,[],0,[],[],[]⟩:ab),false,D.2.2.1,D.2.2.2.1,D.2.2.2.2.1,D.2.2.2.2.2)else some ((⟨v.ae,v.ct,v.bE,v.bZ,v.ai,z.1,D.1,[]⟩:ab),true,D.2.2.1,D.2.2.2.1,D.2.2.2.2.1,D.2.2.2.2.2)else oN (c.aF,v.aw,a.aF,b,f,j,g)>>=λE=>if !E.2.1 then some ((⟨0,false,0,[],0,[],[],[]⟩:ab),false,E.2.2.1,E.2.2.2.1,E.2.2.2.2.1,E.2.2.2.2.2)else some ((⟨v.ae,v.ct,v.bE,v.bZ,v.ai,[],E.1,[]⟩:ab),true,E.2.2.1,E.2.2.2.1,E.2.2.2.2.1,E.2.2.2.2.2)
 if (c.ae=2:J) then bz (bif (a.br<=v.bE:J)then (v.bE<=a.bB:J)else false)else
 let bv:=λci=>
 bz ci
 if (c.ae=3:J) then bv ((v.bZ.length:Int)<=a.Max:J)else if (c.ae=4:J) then sd (a,v.ai)>>=λcd=>bv (bif cd.2 then true else a.bt)else some (c.ae=7:J)>>=λt91=>
 let bu:=λce=>
 let bs:=λ(_:Unit)=>
 if (c.ae=5:J) then zh (c,ab.eta v,a,b,f,j,g)>>=λS=>some (ab.eta S.1,S.2.1,S.2.2.1,S.2.2.2.1,S.2.2.2.2.1,S.2.2.2.2.2)else if (c.ae=6:J) then zl (c,ab.eta v,a,b,f,j,g)>>=λU=>some (ab.eta U.1,U.2.1,U.2.2.1,U.2.2.2.1,U.2.2.2.2.1,U.2.2.2.2.2)else if (c.ae=8:J) then oN (c.aR,v.a7,a.aR,b,f,j,g)>>=λw=>if !w.2.1 then some ((⟨0,false,0,[],0,[],[],[]⟩:ab),false,w.2.2.1,w.2.2.2.1,w.2.2.2.2.1,w.2.2.2.2.2)else oN (c.aF,v.aw,a.aF,w.2.2.1,w.2.2.2.1,w.2.2.2.2.1,w.2.2.2.2.2)>>=λx=>if !x.2.1 then some ((⟨0,false,0,[],0,[],[],[]⟩:ab),false,x.2.2.1,x.2.2.2.1,x.2.2.2.2.1,x.2.2.2.2.2)else some ((⟨v.ae,v.ct,v.bE,v.bZ,v.ai,w.1,x.1,[]⟩:ab),true,x.2.2.1,x.2.2.2.1,x.2.2.2.2.1,x.2.2.2.2.2)else oN (c.aF,v.aw,a.aF,b,f,j,g)>>=λA=>if !A.2.1 then some ((⟨0,false,0,[],0,[],[],[]⟩:ab),false,A.2.2.1,A.2.2.2.1,A.2.2.2.2.1,A.2.2.2.2.2)else some ((⟨v.ae,v.ct,v.bE,v.bZ,v.ai,[],A.1,[]⟩:ab),true,A.2.2.1,A.2.2.2.1,A.2.2.2.2.1,A.2.2.2.2.2)
 if ce then if !((v.aw.length:Int)<=a.Max:J) then tm (b,f,j,g)>>=λQ=>some (ab.eta Q.1,Q.2.1,Q.2.2.1,Q.2.2.2.1,Q.2.2.2.2.2,Q.2.2.2.2.1)else bs ()else bs ()
 if t91 then bu t91 else bu (c.ae=8:J)) none) none
  partial_fixpoint
def zh(q:aj×ab×aj×I aj×I aj×az×az):ag (ab×J×I aj×I aj×az×az):=
 match q with
 |(c,v,y,b,f,j,g)=>
 p4 (y.af,(y.af.length:Int),0,b,f,j,c,ab.eta v,y,0,false,0,[],0,v.ae,false,0,[],0,g,[])>>=λo=>match o with
 |.inl t=>
 some (ab.eta t.2.2.2.2.1,t.1,t.2.1,t.2.2.1,t.2.2.2.1,t.2.2.2.2.2)
 |.inr e=>
 oE (e.2.2.2.1.af,(e.2.2.2.1.af.length:Int),0,e.1,e.2.1,e.2.2.1,ab.eta e.2.2.2.2.1,e.2.2.2.2.2.1,e.2.2.2.2.2.2.1,e.2.2.2.2.2.2.2.1,e.2.2.2.2.2.2.2.2.1,e.2.2.2.2.2.2.2.2.2.1,e.2.2.2.2.2.2.2.2.2.2.1,e.2.2.2.2.2.2.2.2.2.2.2.1,e.2.2.2.2.2.2.2.2.2.2.2.2.1,e.2.2.2.2.2.2.2.2.2.2.2.2.2.1,e.2.2.2.2.2.2.2.2.2.2.2.2.2.2.1,e.2.2.2.2.2.2.2.2.2.2.2.2.2.2.2.1,e.2.2.2.2.2.2.2.2.2.2.2.2.2.2.2.2.1,e.2.2.2.2.2.2.2.2.2.2.2.2.2.2.2.2.2,[])>>=λb2=>match b2 with
 |.inl L=>
 some (ab.eta L.2.2.2.1,L.1,L.2.1,L.2.2.1,L.2.2.2.2.2,L.2.2.2.2.1)
 |.inr u=>
 some ((⟨u.2.2.2.2.2.2.2.2.1,u.2.2.2.2.2.2.2.2.2.1,u.2.2.2.2.2.2.2.2.2.2.1,u.2.2.2.2.2.2.2.2.2.2.2.1,u.2.2.2.2.2.2.2.2.2.2.2.2.1,[],u.2.2.2.2.2.2.2.2.2.2.2.2.2.2.1,u.2.2.2.2.2.2.2.2.2.2.2.2.2.2.2⟩:ab),true,u.1,u.2.1,u.2.2.1,u.2.2.2.2.2.2.2.2.2.2.2.2.2.1)
  partial_fixpoint
def zl:aj×ab×aj×I aj×I aj×az×az->ag (ab×J×I aj×I aj×az×az)
 |(c,v,y,b,f,j,g)=>
 gO (c,v.ai)>>=λr=>gO (y,v.ai)>>=λB=>if B.2 then ite (aE r.1 c.af.length) (ite (aE 0 v.aw.length) (ite (aE B.1 y.af.length) (r4 (v.ai,(c.af.getD r.1.toNat aH).aC,ab.eta (v.aw.getD (0:Int).toNat aM),(y.af.getD B.1.toNat aH).aC,b,f,j,g)>>=λF=>if !F.2.1 then some ((⟨0,false,0,[],0,[],[],[]⟩:ab),false,F.2.2.1,F.2.2.2.1,F.2.2.2.2.1,F.2.2.2.2.2)else some ((⟨v.ae,false,0,[],v.ai,[],[ab.eta F.1],[]⟩:ab),true,F.2.2.1,F.2.2.2.1,F.2.2.2.2.1,F.2.2.2.2.2)) none) none) none else if !y.bt then tm (b,f,j,g)>>=λN=>some (ab.eta N.1,N.2.1,N.2.2.1,N.2.2.2.1,N.2.2.2.2.2,N.2.2.2.2.1)else ite (aE r.1 c.af.length) (ite (aE 0 v.aw.length) (kn ((⟨b⟩:aT),(c.af.getD r.1.toNat aH).aC,ab.eta (v.aw.getD (0:Int).toNat aM))>>=λH=>some ((⟨v.ae,false,0,[],v.ai,[],[],[(⟨v.ai,H⟩:ch)]⟩:ab),true,b,f,j,g)) none) none
  partial_fixpoint
def tL:Int×Int×I ab×Int×Int×I aj×I aj×az×I ab×az->ag ((J×I aj×I aj×az×az) ⊕ (I aj×I aj×az×I ab×az))
 |(b1,bW,t15,b0,t17,bd,be,bi,am,bq)=>
 if (t17<b0:J) then ite (aE t17 t15.length) (r4 (t17,b1,ab.eta (t15.getD t17.toNat aM),bW,bd,be,bi,bq)>>=λr=>if !r.2.1 then some (.inl (false,r.2.2.1,r.2.2.2.1,r.2.2.2.2.1,r.2.2.2.2.2))else some [ab.eta r.1]>>=λt35=>ite (cn 120 (am++t35).length) (tL (b1,bW,t15,b0,a' .i64 t17 1,r.2.2.1,r.2.2.2.1,r.2.2.2.2.1,am++t35,r.2.2.2.2.2)) none) none else some (.inr (bd,be,bi,am,bq))
  partial_fixpoint
def p4:I aU×Int×Int×I aj×I aj×az×aj×ab×aj×Int×J×Int×aq×Int×Int×J×Int×aq×Int×az×I ab->ag ((J×I aj×I aj×az×ab×az) ⊕ (I aj×I aj×az×aj×ab×aj×Int×J×Int×aq×Int×Int×J×Int×aq×Int×az×I ab))
 |(t25,a9,t27,Z,aa,ak,G,K,an,ap,ax,aA,aD,a0,a1,a2,a3,a4,a5,al,Y)=>
 if (t27<a9:J) then ite (aE t27 t25.length) (some (t25.getD t27.toNat aH)>>=λa=>gO (G,a.ai)>>=λr=>if !r.2 then if !a.bH then wE (a.ai,Z,aa,ak,al)>>=λB=>some (.inl (B.2.1,B.2.2.1,B.2.2.2.1,B.2.2.2.2.2,ab.eta B.1,B.2.2.2.2.1))else kR (ab.eta a.bm)>>=λb5=>some [ab.eta b5]>>=λt54=>ite (cn 120 (Y++t54).length) (p4 (t25,a9,a' .i64 t27 1,Z,aa,ak,G,ab.eta K,an,ap,ax,aA,aD,a0,a1,a2,a3,a4,a5,al,Y++t54)) none else ite (aE r.1 G.af.length) (ite (aE r.1 K.aw.length) (r4 (a.ai,(G.af.getD r.1.toNat aH).aC,ab.eta (K.aw.getD r.1.toNat aM),a.aC,Z,aa,ak,al)>>=λp=>ite (aE r.1 G.af.length) (some (G.af.getD r.1.toNat aH)>>=λX=>ite (aE r.1 K.aw.length) (tq ((⟨X.ai,X.aP,X.aC,X.b4,X.bH,ab.eta X.bm⟩:aU),ab.eta (K.aw.getD r.1.toNat aM))>>=λbU=>some (!p.2.1)>>=λt90=>(if(bU&&(!t90)) then tq ((⟨a.ai,a.aP,a.aC,a.b4,a.bH,ab.eta a.bm⟩:aU),ab.eta p.1)else some false)>>=λca=>if(bif bU then bif t90 then true else(!ca)else false) then wE (a.ai,p.2.2.1,p.2.2.2.1,p.2.2.2.2.1,p.2.2.2.2.2)>>=λH=>some (.inl (H.2.1,H.2.2.1,H.2.2.2.1,H.2.2.2.2.2,ab.eta H.1,H.2.2.2.2.1))else if !p.2.1 then some (.inl (false,p.2.2.1,p.2.2.2.1,p.2.2.2.2.1,(⟨0,false,0,[],0,[],[],[]⟩:ab),p.2.2.2.2.2))else some [ab.eta p.1]>>=λt110=>ite (cn 120 (Y++t110).length) (p4 (t25,a9,a' .i64 t27 1,p.2.2.1,p.2.2.2.1,p.2.2.2.2.1,G,ab.eta K,an,ap,ax,aA,aD,a0,a1,a2,a3,a4,a5,p.2.2.2.2.2,Y++t110)) none) none) none) none) none) none else some (.inr (Z,aa,ak,G,ab.eta K,an,ap,ax,aA,aD,a0,a1,a2,a3,a4,a5,al,Y))
  partial_fixpoint
end
theorem Yf:eP vF r4/\eP yA tu/\eP CG oN/\fa 91 2 [0] yK tL/\eP CF zl/\eP CE zh/\fa 89 2 [0] yJ p4:=r4.mutual_partial_correctness (eG vF) (eG yA) (eG CG) (e' 91 2 [0] yK) (eG CF) (eG CE) (e' 89 2 [0] yJ)
 (λ_ h1 _ _ h=>eV h (.k (cL yA h1) .n))
 (λ_ _ _ c d e _ _ h=>eV h (.k Wp (.k (cL CE e) (.k (cL CF d) (.k (cL CG c) (.k Eg .n))))))
 (λ_ a _ _ h=>eV h .n (.k (fl yK a) .n))
 (λ_ _ h0 a _ _ h=>fk yK a h (.k (cL vF h0) .n))
 (λ_ h0 _ _ h=>eV h (.k lE (.k (cL vF h0) (.k Wp (.k WZ .n)))))
 (λ_ b _ _ h=>eV h .n (.k (fl yJ b) (.k XC .n)))
 (λ_ _ h0 b _ _ h=>fk yJ b h (.k lE (.k Wi (.k aa0 (.k (cL vF h0) (.k HR .n))))))
theorem Y4:bj yA tu:=cL _ Yf.2.1
def wb:aT×Int×ab×aT×Int->ag (ab×Int)
 |(w,wt,v,r,rt)=>
 Ev (w,wt,ab.eta v,r,rt)>>=λa=>if !(a=0:J) then some ((⟨0,false,0,[],0,[],[],[]⟩:ab),a)else tu (wt,ab.eta v,rt,w.bh,r.bh,[],[])>>=λb=>if !b.2.1 then some ((⟨0,false,0,[],0,[],[],[]⟩:ab),12)else some (ab.eta b.1,0)
theorem W0:bj T5 wb:= .bo (.k aaz (.k Y4 .n))
def oJ:I aU×Int×Int×I aj×aj×I aj×aj->ag ((Int) ⊕ (aj×aj))
 |(t21,f,t23,c,a,d,e)=>
 if (t23<f:J) then ite (aE t23 t21.length) (some (t21.getD t23.toNat aH)>>=λb=>gO (a,b.ai)>>=λg=>if !g.2 then if !b.bH then some (.inl 7)else oJ (t21,f,a' .i64 t23 1,c,a,d,e)else ite (aE g.1 a.af.length) (some (a.af.getD g.1.toNat aH)>>=λi=>if !i.bH then oJ (t21,f,a' .i64 t23 1,c,a,d,e)else if !b.bH then some (.inl 7)else wb ((⟨c⟩:aT),i.aC,ab.eta i.bm,(⟨d⟩:aT),b.aC)>>=λj=>some (!(j.2=0:J))>>=λt63=>(if !t63 then nh (ab.eta j.1,ab.eta b.bm)else some false)>>=λk=>if(bif t63 then true else(!k)) then some (.inl 10)else oJ (t21,f,a' .i64 t23 1,c,a,d,e)) none) none else some (.inr (a,e))
  partial_fixpoint
theorem Yg:cy 126 0 [0] Rp oJ:= .rx oJ.partial_correctness (.k lE (.k W0 (.k Ia .n)))
def rV:I aU×Int×Int×aj->ag ((Int) ⊕ (Unit))
 |(t73,b,t75,a)=>
 if (t75<b:J) then ite (aE t75 t73.length) (some (t73.getD t75.toNat aH)>>=λc=>gO (a,c.ai)>>=λd=>if(bif (!d.2)then c.b4 else false) then some (.inl 6)else rV (t73,b,a' .i64 t75 1,a)) none else some (.inr ())
  partial_fixpoint
theorem Yh:cy 126 0 [1] Rq rV:= .rx rV.partial_correctness (.k lE .n)
def DG(f:aT×aj×aT×aj):ag (Int):=
 match f with
 |(w,e,r,y)=>
 oJ (y.af,(y.af.length:Int),0,w.bh,e,r.bh,y)>>=λo=>match o with
 |.inl b=>
 some b
 |.inr a=>
 rV (a.1.af,(a.1.af.length:Int),0,a.2)>>=λc=>match c with
 |.inl d=>
 some d
 |.inr g=>
 some 0
theorem aaa:bj Ta DG:= .bo .n (.k Yg (.k Yh .n))
def Eh:aT×Int×aT×Int->ag (Int)
 |(w,wt,r,rt)=>
 ite (aE wt w.bh.length) (some (w.bh.getD wt.toNat aN)>>=λa=>ite (aE rt r.bh.length) (some (r.bh.getD rt.toNat aN)>>=λb=>if !(a.ae=b.ae:J) then some 9 else if(bif (a.ae=2:J)then bif (a.br<b.br:J)then true else (b.bB<a.bB:J)else false) then some 2 else if(bif bif (a.ae=3:J)then true else (a.ae=7:J)then (b.Max<a.Max:J)else false) then some 3 else some (a.ae=8:J)>>=λt63=>ite (aE a.aR w.bh.length||(!t63)) ((if t63 then Ab (w.bh.getD a.aR.toNat aN)else some 0)>>=λc=>if(bif t63 then (b.Max<c4 a.Max c:J)else false) then some 3 else some (a.ae=4:J)>>=λt82=>(if t82 then Am (a,b)else some false)>>=λd=>if(bif t82 then(!d)else false) then some 4 else some (a.ae=6:J)>>=λt92=>(if t92 then Am (a,b)else some false)>>=λe=>if(bif t92 then(!e)else false) then some 5 else if (a.ae=5:J) then DG (w,a,r,b)>>=λf=>some f else some 0) none) none) none
theorem ZL:bj UA Eh:= .bo (.k abh (.k Z9 (.k aaa .n)))
def El:aT×Int×aT×Int->ag (Int×Int)
 |(w,wt,r,rt)=>
 Aa ((⟨w,wt⟩:cv),(⟨r,rt⟩:cv))>>=λa=>if !(a=0:J) then some (0,a)else Eh (w,wt,r,rt)>>=λb=>some (b,0)
theorem aa4:bj Ue El:= .bo (.k Lv (.k ZL .n))
def vU:gr×bn->ag (J)
 |(p,a)=>
 El (p.w.dO,a.cg,p.r.dO,a.bY)>>=λr=>some (bif (r.1=0:J)then (r.2=0:J)else false)
theorem Zn:bj Gy vU:= .bo (.k aa4 .n)
def n3:Int×Int×I bn×bn->ag ((Int×I bn) ⊕ (I bn))
 |(c,t8,a,b)=>
 if (t8<c:J) then ite (aE t8 a.length) (ite (t8.toNat<a.length:J) (if(eJ b.cg (a.getD t8.toNat dH).cg&&(eJ b.bY (a.getD t8.toNat dH).bY&&true)) then some (.inl (t8,a))else n3 (c,a' .i64 t8 1,a,b)) none) none else some (.inr a)
  partial_fixpoint
theorem Xg:cy 44 1 [0] QQ n3:= .rx n3.partial_correctness
def HN(d:bn×I bn):ag (Int×I bn):=
 match d with
 |(v,b)=>
 n3 ((b.length:Int),0,b,v)>>=λo=>match o with
 |.inl a=>
 some (a.1,a.2)
 |.inr c=>
 some ((-1),c)
theorem Yl:bj Ud HN:= .bo .n (.k Xg .n)
def DN:bn×I bn->ag (J×I bn)
 |(v,b)=>
 HN (v,b)>>=λr=>ite ((r.2.length=b.length:J)&&true) (some ((0<=r.1:J),r.2)) none
theorem Xh:bj TB DN:= .bo (.k Yl .n)
def tM:Int×Int×I bn->ag (I bn)
 |(a,b,c)=>
 DN ((⟨a,b⟩:bn),c)>>=λr=>ite ((r.2.length=c.length:J)&&true) (if !r.1 then some [(⟨a,b⟩:bn)]>>=λt15=>ite (cn 16 (r.2++t15).length) (some (r.2++t15)) none else some r.2) none
theorem Wf:bj Tb tM:= .bo (.k Xh .n)
def q':I aU×Int×Int×aj×aj×I bn->ag (aj×aj×I bn)
 |(t35,e,t37,b,a,c)=>
 if (t37<e:J) then ite (aE t37 t35.length) (some (t35.getD t37.toNat aH)>>=λf=>gO (a,f.ai)>>=λd=>if d.2 then ite (aE d.1 a.af.length) (tM (f.aC,(a.af.getD d.1.toNat aH).aC,c)>>=λg=>q' (t35,e,a' .i64 t37 1,b,a,g)) none else q' (t35,e,a' .i64 t37 1,b,a,c)) none else some (b,a,c)
  partial_fixpoint
theorem W':cy 71 0 [0] UC q':= .rx q'.partial_correctness (.k lE (.k Wf .n))
def Dp:aT×Int×aT×Int->ag (I bn)
 |(w,wt,r,rt)=>
 ite (aE wt w.bh.length) (some (w.bh.getD wt.toNat aN)>>=λa=>ite (aE rt r.bh.length) (some (r.bh.getD rt.toNat aN)>>=λc=>if !(a.ae=c.ae:J) then some []else q' (a.af,(a.af.length:Int),0,a,c,[])>>=λo=>if(bif (o.1.ae=8:J)then (0<o.1.Max:J)else false) then tM (o.1.aR,o.2.1.aR,o.2.2)>>=λb=>if(bif (o.1.ae=9:J)then true else bif bif (o.1.ae=7:J)then true else (o.1.ae=8:J)then (0<o.1.Max:J)else false) then tM (o.1.aF,o.2.1.aF,b)>>=λd=>some d else some b else if(bif (o.1.ae=9:J)then true else bif bif (o.1.ae=7:J)then true else (o.1.ae=8:J)then (0<o.1.Max:J)else false) then tM (o.1.aF,o.2.1.aF,o.2.2)>>=λe=>some e else some o.2.2) none) none
theorem Yi:bj UB Dp:= .bo (.k Wf .n) (.k W' .n)
def Dq:aT×Int×aT×Int->ag (I bn×Int)
 |(w,wt,r,rt)=>
 Aa ((⟨w,wt⟩:cv),(⟨r,rt⟩:cv))>>=λa=>if !(a=0:J) then some ([],a)else Dp (w,wt,r,rt)>>=λb=>some (b,0)
theorem XX:bj Uh Dq:= .bo (.k Lv (.k Yi .n))
def vV:gr×bn->ag (I bn)
 |(p,a)=>
 Dq (p.w.dO,a.cg,p.r.dO,a.bY)>>=λr=>some r.1
theorem Zo:bj GA vV:= .bo (.k XX .n)
def v8(a:cv×cv×I bn):ag (J):=BE sf DP Ip wB vU vV a
theorem aab:bj pv v8:=RQ Lu XB Zm YB Zn Zo
def hW:Int×I aj×az×Int×az->ag (ab×J×I aj×Int×az×az)
 |(c,b,e,f,a)=>
 uJ 8 a>>=λr=>ite ((r.1.length=a.length:J)&&true) (some ((⟨0,false,0,[],0,[],[],[]⟩:ab),false,b,c,r.1,r.2)) none
theorem ri:bj Tf hW:= .bo (.k lA .n)
def nz:aq×Int×Int×Int->ag (Int)
 |(a,b,c,t18)=>
 if (t18<c:J) then ite (aE t18 a.length) (nz (a,sw .u64 (o3 .u64 b 8) (da .u64 (gj a t18)),c,a' .i64 t18 1)) none else some b
  partial_fixpoint
theorem Y5:cy 131 0 [0] Rr nz:= .rx nz.partial_correctness
def uF(s:aq):ag (Int×Int):=
 some (!(s=[]:J))>>=λt7=>ite (aE 0 s.length||(!t7)) (if(bif t7 then (gj s 0=0:J)else false) then some (0,2)else if (8<(s.length:Int):J) then some (0,7)else nz (s,0,(s.length:Int),0)>>=λo=>some (o,0)) none
theorem aa5:bj Tg uF:= .bo .n (.k Y5 .n)
def Ei(n:Int):ag (Int):=
 some (x6 .i64 (da .i64 (mG .u64 n 1)) (dD .i64 0 (da .i64 (Co .u64 n 1))))
theorem ZM:bj Th Ei:= .bo
def q5:I aq×Int×I aj×az×Int×aj×Int×J×Int×aq×Int×Int×J×Int×aq×Int×az×I ab->ag ((J×I aj×Int×ab×az×az) ⊕ (I aq×I aj×az×Int×aj×Int×J×Int×aq×Int×Int×J×Int×aq×Int×az×I ab))
 |(t,b,d,e,f,i,j,k,l,m,n,o,p,q,r,s,g,a)=>
 if (b<(a.length:Int):J) then some (dD .i64 b 1)>>=λt86=>ite (aE t86 a.length) (ite (t86.toNat<a.length:J) (ite (aE b a.length) (ite (b.toNat<a.length:J) (oh (ab.eta (a.getD t86.toNat aM),ab.eta (a.getD b.toNat aM))>>=λu=>if (0<=u:J) then hW (1,d,e,f,g)>>=λc=>some (.inl (c.2.1,c.2.2.1,c.2.2.2.1,ab.eta c.1,c.2.2.2.2.1,c.2.2.2.2.2))else q5 (t,a' .i64 b 1,d,e,f,i,j,k,l,m,n,o,p,q,r,s,g,a)) none) none) none) none else some (.inr (t,d,e,f,i,j,k,l,m,n,o,p,q,r,s,g,a))
  partial_fixpoint
theorem Xi:cy 136 2 [1] Ru q5:= .rx q5.partial_correctness (.k Ls (.k ri .n))
def uI:aq×Int×Int×Int->ag ((Int×Int×Int) ⊕ (Unit))
 |(a,n,b,t11)=>
 if (t11<b:J) then ite (aE t11 a.length) (some (gj a t11)>>=λt16=>if(bif (t11=9:J)then (1<t16:J)else false) then some (.inl (0,0,7))else if (128<=t16:J) then some (fH .i64 7 t11)>>=λt41=>ite (0<=t41:J) (uI (a,sw .u64 n (o3 .u64 (da .u64 (Co .u8 t16 127)) t41),b,a' .i64 t11 1)) none else if(bif (t16=0:J)then (0<t11:J)else false) then some (.inl (0,0,2))else some (fH .i64 7 t11)>>=λt21=>ite (0<=t21:J) (some (.inl (sw .u64 n (o3 .u64 (da .u64 t16) t21),a' .i64 t11 1,0))) none) none else some (.inr ())
  partial_fixpoint
theorem aaD:cy 249 0 [0] Rs uI:= .rx uI.partial_correctness
def E9(s:aq):ag (Int×Int×Int):=
 uI (s,0,c4 10 (s.length:Int),0)>>=λo=>match o with
 |.inl a=>
 some (a.1,a.2.1,a.2.2)
 |.inr b=>
 some (0,0,10)
theorem abq:bj T1 E9:= .bo .n (.k aaD .n)
def ry(s:aq):ag (Int×aq×J):=
 E9 s>>=λr=>if !(r.2.2=0:J) then some (0,[],false)else ite (fy r.2.1 (s.length:Int) s.length) (some (r.1,gG s r.2.1 (s.length:Int),true)) none
theorem Ib:bj TZ ry:= .bo (.k abq .n)
def AV(s:aq):ag (aq×aq×J):=
 ry s>>=λr=>if(bif (!r.2.2)then true else (da .u64 (r.2.1.length:Int)<r.1:J)) then some ([],[],false)else ite (fy 0 r.1 r.2.1.length) (ite (fy r.1 (r.2.1.length:Int) r.2.1.length) (some (gG r.2.1 0 r.1,gG r.2.1 r.1 (r.2.1.length:Int),true)) none) none
theorem K8:bj T0 AV:= .bo (.k Ib .n)
def hX:aq×I aq->ag ((Int) ⊕ (I aq))
 |(s,a)=>
 if !(s=[]:J) then AV s>>=λr=>if !r.2.2 then some (.inl 12)else some [r.1]>>=λt22=>ite (cn 16 (a++t22).length) (hX (r.2.1,a++t22)) none else some (.inr a)
  partial_fixpoint
theorem ZN:cy 196 0 [0] Rt hX:= .rx hX.partial_correctness (.k K8 .n)
def kT(c:aq):ag (I aq×Int):=
 hX (c,[])>>=λo=>match o with
 |.inl a=>
 some ([],a)
 |.inr b=>
 some (b,0)
theorem KZ:bj TH kT:= .bo .n (.k ZN .n)
mutual
def jQ(v:ab):ag (ab):=
 gF 120 v.a7>>=λr=>gF 120 v.aw>>=λX=>gF 24 v.aX>>=λY=>tD ((r.length:Int),0,v.ae,v.ct,v.bE,v.bZ,v.ai,0,false,0,[],0,r,X,Y)>>=λo=>uw ((o.2.2.2.2.2.2.2.2.2.2.2.1.length:Int),0,o.1,o.2.1,o.2.2.1,o.2.2.2.1,o.2.2.2.2.1,o.2.2.2.2.2.1,o.2.2.2.2.2.2.1,o.2.2.2.2.2.2.2.1,o.2.2.2.2.2.2.2.2.1,o.2.2.2.2.2.2.2.2.2.1,o.2.2.2.2.2.2.2.2.2.2.2.1,o.2.2.2.2.2.2.2.2.2.2.1,o.2.2.2.2.2.2.2.2.2.2.2.2)>>=λa=>some (⟨a.1,a.2.1,a.2.2.1,a.2.2.2.1,a.2.2.2.2.1,a.2.2.2.2.2.2.2.2.2.2.1,a.2.2.2.2.2.2.2.2.2.2.2.1,a.2.2.2.2.2.2.2.2.2.2.2.2⟩:ab)
  partial_fixpoint
def tD:Int×Int×Int×J×Int×aq×Int×Int×J×Int×aq×Int×I ab×I ab×I ch->ag (Int×J×Int×aq×Int×Int×J×Int×aq×Int×I ab×I ab×I ch)
 |(U,t22,g,j,p,q,t,u,w,x,y,z,c,A,B)=>
 if (t22<U:J) then ite (aE t22 c.length) (ite (t22.toNat<c.length:J) (jQ (ab.eta (c.getD t22.toNat aM))>>=λZ=>ite (aE t22 c.length) (ite (t22.toNat<c.length:J) (tD (U,a' .i64 t22 1,g,j,p,q,t,u,w,x,y,z,c.set t22.toNat (ab.eta Z),A,B)) none) none) none) none else some (g,j,p,q,t,u,w,x,y,z,c,A,B)
  partial_fixpoint
def uw:Int×Int×Int×J×Int×aq×Int×Int×J×Int×aq×Int×I ab×I ab×I ch->ag (Int×J×Int×aq×Int×Int×J×Int×aq×Int×I ab×I ab×I ch)
 |(W,t37,D,E,F,G,H,K,L,N,O,P,e,Q,S)=>
 if (t37<W:J) then ite (aE t37 e.length) (ite (t37.toNat<e.length:J) (jQ (ab.eta (e.getD t37.toNat aM))>>=λaa=>ite (aE t37 e.length) (ite (t37.toNat<e.length:J) (uw (W,a' .i64 t37 1,D,E,F,G,H,K,L,N,O,P,e.set t37.toNat (ab.eta aa),Q,S)) none) none) none) none else some (D,E,F,G,H,K,L,N,O,P,Q,e,S)
  partial_fixpoint
end
theorem ZO:eP vG jQ/\fa 200 0 [1] Br uw/\fa 200 0 [0] Bq tD:=jQ.mutual_partial_correctness (eG vG) (e' 200 0 [1] Br) (e' 200 0 [0] Bq)
 (λ_ _ h1 a _ _ h=>eV h (.k l9 (.k ma .n)) (.k (fl Bq a) (.k (fl Br h1) .n)))
 (λ_ _ h0 h1 _ _ h=>fk Br h1 h (.k (cL vG h0) .n))
 (λ_ _ h0 a _ _ h=>fk Bq a h (.k (cL vG h0) .n))
theorem aaE:bj vG jQ:=cL _ ZO.1
def HM:cY×aU->ag (J×aU)
 |(f,b)=>
 some ((f.ai=b.ai:J),(⟨b.ai,b.aP,b.aC,b.b4,b.bH,ab.eta b.bm⟩:aU))
theorem Xa:bj TK HM:= .bo
def pX:I cY×Int×Int×aU->ag ((Int×aU) ⊕ (aU))
 |(b,c,t8,a)=>
 if (t8<c:J) then ite (aE t8 b.length) (HM (b.getD t8.toNat dz,(⟨a.ai,a.aP,a.aC,a.b4,a.bH,ab.eta a.bm⟩:aU))>>=λr=>if r.1 then some (.inl (t8,(⟨r.2.ai,r.2.aP,r.2.aC,r.2.b4,r.2.bH,ab.eta r.2.bm⟩:aU)))else pX (b,c,a' .i64 t8 1,(⟨r.2.ai,r.2.aP,r.2.aC,r.2.b4,r.2.bH,ab.eta r.2.bm⟩:aU))) none else some (.inr (⟨a.ai,a.aP,a.aC,a.b4,a.bH,ab.eta a.bm⟩:aU))
  partial_fixpoint
theorem XJ:cy 198 1 [0] Rw pX:= .rx pX.partial_correctness (.k Xa .n)
def y9(d:I cY×aU):ag (Int×aU):=
 match d with
 |(s,b)=>
 pX (s,(s.length:Int),0,(⟨b.ai,b.aP,b.aC,b.b4,b.bH,ab.eta b.bm⟩:aU))>>=λo=>match o with
 |.inl a=>
 some (a.1,(⟨a.2.ai,a.2.aP,a.2.aC,a.2.b4,a.2.bH,ab.eta a.2.bm⟩:aU))
 |.inr c=>
 some ((-1),(⟨c.ai,c.aP,c.aC,c.b4,c.bH,ab.eta c.bm⟩:aU))
theorem XN:bj TJ y9:= .bo .n (.k XJ .n)
def p1:I cY×Int×Int×I aj×az×Int×aj×Int×J×Int×aq×Int×Int×J×Int×aq×Int×az×I ab×I ch->ag ((J×I aj×Int×ab×az×az) ⊕ (I aj×az×Int×Int×J×Int×aq×Int×Int×J×Int×aq×Int×az×I ab×I ch))
 |(t117,u,t119,d,e,f,i,j,k,l,m,n,o,p,q,r,s,b,t,g)=>
 if (t119<u:J) then ite (aE t119 t117.length) (some (t117.getD t119.toNat dz)>>=λc=>gO (i,c.ai)>>=λv=>if v.2 then p1 (t117,u,a' .i64 t119 1,d,e,f,i,j,k,l,m,n,o,p,q,r,s,b,t,g)else if c.b4 then some [c.ai]>>=λt140=>ite (cn 8 (b++t140).length) (hW (6,d,e,f,b++t140)>>=λa=>some (dD .i64 (a.2.2.2.2.1.length:Int) 1)>>=λt159=>ite (fy 0 t159 a.2.2.2.2.1.length) (ite (t159.toNat<=a.2.2.2.2.1.length:J) (some (.inl (false,a.2.2.1,a.2.2.2.1,ab.eta a.1,a.2.2.2.2.1.take t159.toNat,a.2.2.2.2.2))) none) none) none else some [(⟨c.ai,c.bT⟩:ch)]>>=λt171=>ite (cn 24 (g++t171).length) (p1 (t117,u,a' .i64 t119 1,d,e,f,i,j,k,l,m,n,o,p,q,r,s,b,t,g++t171)) none) none else some (.inr (d,e,f,j,k,l,m,n,o,p,q,r,s,b,t,g))
  partial_fixpoint
theorem Xr:cy 137 2 [1] Rx p1:= .rx p1.partial_correctness (.k lE (.k ri .n))
def gZ:Int×aq×I cY->ag ((Int) ⊕ (I cY))
 |(last,s,a)=>
 if !(s=[]:J) then ry s>>=λr=>if(bif bif (!r.2.2)then true else (gA .u64 r.1 2<=last:J)then true else (1000<gA .u64 r.1 2:J)) then some (.inl 12)else AV r.2.1>>=λb=>if !b.2.2 then some (.inl 12)else some [(⟨da .i64 (gA .u64 r.1 2),(f' r.1 2=1:J),b.1⟩:cY)]>>=λt50=>ite (cn 32 (a++t50).length) (gZ (gA .u64 r.1 2,b.2.1,a++t50)) none else some (.inr a)
  partial_fixpoint
theorem aac:cy 197 0 [0] Rv gZ:= .rx gZ.partial_correctness (.k Ib (.k K8 .n))
def mg(c:aq):ag (I cY×Int):=
 gZ (0,c,[])>>=λo=>match o with
 |.inl a=>
 some ([],a)
 |.inr b=>
 some (b,0)
theorem aaF:bj TI mg:= .bo .n (.k aac .n)
def mh(a:aq):ag (Int×aq×Int):=
 ry a>>=λr=>if(bif bif (!r.2.2)then true else (r.1<1:J)then true else (1000<r.1:J)) then some (0,[],12)else some (da .i64 r.1,r.2.1,0)
theorem abr:bj TG mh:= .bo (.k Ib .n)
mutual
def zd(x:aj×aq×I aj×az×Int×az):ag (ab×J×I aj×az×Int×az):=
 match x with
 |(c,p,b,f,g,e)=>
 kT p>>=λr=>if(bif (!(r.2=0:J))then true else(!(f' (r.1.length:Int) 2=0:J))) then hW (1,b,f,g,e)>>=λw=>some (ab.eta w.1,w.2.1,w.2.2.1,w.2.2.2.2.2,w.2.2.2.1,w.2.2.2.2.1)else if (c.Max<gA .i64 (r.1.length:Int) 2:J) then hW (3,b,f,g,e)>>=λu=>some (ab.eta u.1,u.2.1,u.2.2.1,u.2.2.2.2.2,u.2.2.2.1,u.2.2.2.2.1)else tF (r.1,0,b,f,g,c,0,false,0,[],0,c.ae,false,0,[],0,e,[])>>=λo=>match o with
 |.inl v=>
 some (ab.eta v.2.2.2.2.1,v.1,v.2.1,v.2.2.1,v.2.2.2.1,v.2.2.2.2.2)
 |.inr a=>
 q5 (a.1,1,a.2.1,a.2.2.1,a.2.2.2.1,a.2.2.2.2.1,a.2.2.2.2.2.1,a.2.2.2.2.2.2.1,a.2.2.2.2.2.2.2.1,a.2.2.2.2.2.2.2.2.1,a.2.2.2.2.2.2.2.2.2.1,a.2.2.2.2.2.2.2.2.2.2.1,a.2.2.2.2.2.2.2.2.2.2.2.1,a.2.2.2.2.2.2.2.2.2.2.2.2.1,a.2.2.2.2.2.2.2.2.2.2.2.2.2.1,a.2.2.2.2.2.2.2.2.2.2.2.2.2.2.1,a.2.2.2.2.2.2.2.2.2.2.2.2.2.2.2.1,a.2.2.2.2.2.2.2.2.2.2.2.2.2.2.2.2)>>=λbz=>match bz with
 |.inl A=>
 some (ab.eta A.2.2.2.1,A.1,A.2.1,A.2.2.2.2.2,A.2.2.1,A.2.2.2.2.1)
 |.inr q=>
 tG (q.1,1,q.2.1,q.2.2.1,q.2.2.2.1,q.2.2.2.2.1,q.2.2.2.2.2.1,q.2.2.2.2.2.2.1,q.2.2.2.2.2.2.2.1,q.2.2.2.2.2.2.2.2.1,q.2.2.2.2.2.2.2.2.2.1,q.2.2.2.2.2.2.2.2.2.2.1,q.2.2.2.2.2.2.2.2.2.2.2.1,q.2.2.2.2.2.2.2.2.2.2.2.2.1,q.2.2.2.2.2.2.2.2.2.2.2.2.2.1,q.2.2.2.2.2.2.2.2.2.2.2.2.2.2.1,q.2.2.2.2.2.2.2.2.2.2.2.2.2.2.2.1,q.2.2.2.2.2.2.2.2.2.2.2.2.2.2.2.2,[])>>=λh0=>match h0 with
 |.inl G=>
 some (ab.eta G.2.2.2.2.1,G.1,G.2.1,G.2.2.1,G.2.2.2.1,G.2.2.2.2.2)
 |.inr B=>
 some ((⟨B.2.2.2.2.2.2.2.2.1,B.2.2.2.2.2.2.2.2.2.1,B.2.2.2.2.2.2.2.2.2.2.1,B.2.2.2.2.2.2.2.2.2.2.2.1,B.2.2.2.2.2.2.2.2.2.2.2.2.1,B.2.2.2.2.2.2.2.2.2.2.2.2.2.2.1,B.2.2.2.2.2.2.2.2.2.2.2.2.2.2.2,[]⟩:ab),true,B.1,B.2.1,B.2.2.1,B.2.2.2.2.2.2.2.2.2.2.2.2.2.1)
  partial_fixpoint
def Dt(x:aj×aq×I aj×az×Int×az):ag (ab×J×I aj×az×Int×az):=
 match x with
 |(c,p,b,f,g,e)=>
 kT p>>=λr=>if !(r.2=0:J) then hW (1,b,f,g,e)>>=λw=>some (ab.eta w.1,w.2.1,w.2.2.1,w.2.2.2.2.2,w.2.2.2.1,w.2.2.2.2.1)else if (c.Max<(r.1.length:Int):J) then hW (3,b,f,g,e)>>=λu=>some (ab.eta u.1,u.2.1,u.2.2.1,u.2.2.2.2.2,u.2.2.2.1,u.2.2.2.2.1)else tN (r.1,(r.1.length:Int),0,b,f,g,c,0,false,0,[],0,c.ae,false,0,[],0,e,[])>>=λo=>match o with
 |.inl v=>
 some (ab.eta v.2.2.2.2.1,v.1,v.2.1,v.2.2.1,v.2.2.2.1,v.2.2.2.2.2)
 |.inr a=>
 some ((⟨a.2.2.2.2.2.2.2.2.1,a.2.2.2.2.2.2.2.2.2.1,a.2.2.2.2.2.2.2.2.2.2.1,a.2.2.2.2.2.2.2.2.2.2.2.1,a.2.2.2.2.2.2.2.2.2.2.2.2.1,[],a.2.2.2.2.2.2.2.2.2.2.2.2.2.2,[]⟩:ab),true,a.1,a.2.1,a.2.2.1,a.2.2.2.2.2.2.2.2.2.2.2.2.2.1)
  partial_fixpoint
def ja:Int×Int×aq×I aj×az×Int×az->ag (ab×J×I aj×az×Int×az)
 |(step,t,p,b,f,g,e)=>
 some [step]>>=λt18=>ite (cn 8 (e++t18).length) (py (t,p,b,f,g,e++t18)>>=λr=>some (dD .i64 (r.2.2.2.2.2.length:Int) 1)>>=λt39=>ite (fy 0 t39 r.2.2.2.2.2.length) (ite (t39.toNat<=r.2.2.2.2.2.length:J) (some (ab.eta r.1,r.2.1,r.2.2.1,r.2.2.2.1,r.2.2.2.2.1,r.2.2.2.2.2.take t39.toNat)) none) none) none
  partial_fixpoint
def py:Int×aq×I aj×az×Int×az->ag (ab×J×I aj×az×Int×az)
 |(t,p,b,f,g,e)=>
 if (200<=(e.length:Int):J) then hW (8,b,f,g,e)>>=λr=>some (ab.eta r.1,r.2.1,r.2.2.1,r.2.2.2.2.2,r.2.2.2.1,r.2.2.2.2.1)else ite (aE t b.length) (some (b.getD t.toNat aN)>>=λc=>if (c.ae=1:J) then some (p=[1]:J)>>=λt50=>if(bif (!(p=[]:J))then(!t50)else false) then hW (1,b,f,g,e)>>=λQ=>some (ab.eta Q.1,Q.2.1,Q.2.2.1,Q.2.2.2.2.2,Q.2.2.2.1,Q.2.2.2.2.1)else some ((⟨c.ae,t50,0,[],0,[],[],[]⟩:ab),true,b,f,g,e)else if (c.ae=2:J) then uF p>>=λE=>if !(E.2=0:J) then hW (1,b,f,g,e)>>=λj=>some (ab.eta j.1,j.2.1,j.2.2.1,j.2.2.2.2.2,j.2.2.2.1,j.2.2.2.2.1)else Ei E.1>>=λbW=>if(bif (bW<c.br:J)then true else (c.bB<bW:J)) then hW (2,b,f,g,e)>>=λH=>some (ab.eta H.1,H.2.1,H.2.2.1,H.2.2.2.2.2,H.2.2.2.1,H.2.2.2.2.1)else some ((⟨c.ae,false,bW,[],0,[],[],[]⟩:ab),true,b,f,g,e)else if (c.ae=3:J) then if (c.Max<(p.length:Int):J) then hW (3,b,f,g,e)>>=λy=>some (ab.eta y.1,y.2.1,y.2.2.1,y.2.2.2.2.2,y.2.2.2.1,y.2.2.2.2.1)else some ((⟨c.ae,false,0,p,0,[],[],[]⟩:ab),true,b,f,g,e)else if (c.ae=4:J) then uF p>>=λaA=>if(bif bif (!(aA.2=0:J))then true else (aA.1<1:J)then true else (1000<aA.1:J)) then hW (1,b,f,g,e)>>=λL=>some (ab.eta L.1,L.2.1,L.2.2.1,L.2.2.2.2.2,L.2.2.2.1,L.2.2.2.2.1)else some (da .i64 aA.1)>>=λt130=>sd (c,t130)>>=λii=>if(bif (!ii.2)then(!c.bt)else false) then hW (4,b,f,g,e)>>=λN=>some (ab.eta N.1,N.2.1,N.2.2.1,N.2.2.2.2.2,N.2.2.2.1,N.2.2.2.2.1)else some ((⟨c.ae,false,0,[],t130,[],[],[]⟩:ab),true,b,f,g,e)else if (c.ae=9:J) then if (p=[]:J) then some ((⟨c.ae,false,0,[],0,[],[],[]⟩:ab),true,b,f,g,e)else ite (aE 0 p.length) (if !(gj p 0=1:J) then hW (1,b,f,g,e)>>=λO=>some (ab.eta O.1,O.2.1,O.2.2.1,O.2.2.2.2.2,O.2.2.2.1,O.2.2.2.2.1)else ite (fy 1 (p.length:Int) p.length) (ja (0,c.aF,gG p 1 (p.length:Int),b,f,g,e)>>=λP=>some ((⟨c.ae,false,0,[],0,[],[ab.eta P.1],[]⟩:ab),P.2.1,P.2.2.1,P.2.2.2.1,P.2.2.2.2.1,P.2.2.2.2.2)) none) none else if (c.ae=6:J) then Dr (c,p,b,f,g,e)>>=λS=>some (ab.eta S.1,S.2.1,S.2.2.1,S.2.2.2.1,S.2.2.2.2.1,S.2.2.2.2.2)else if (c.ae=7:J) then Dt (c,p,b,f,g,e)>>=λU=>some (ab.eta U.1,U.2.1,U.2.2.1,U.2.2.2.1,U.2.2.2.2.1,U.2.2.2.2.2)else if (c.ae=8:J) then zd (c,p,b,f,g,e)>>=λW=>some (ab.eta W.1,W.2.1,W.2.2.1,W.2.2.2.1,W.2.2.2.2.1,W.2.2.2.2.2)else ze (c,p,b,f,g,e)>>=λX=>some (ab.eta X.1,X.2.1,X.2.2.1,X.2.2.2.1,X.2.2.2.2.1,X.2.2.2.2.2)) none
  partial_fixpoint
def ze(x:aj×aq×I aj×az×Int×az):ag (ab×J×I aj×az×Int×az):=
 match x with
 |(c,p,b,f,g,e)=>
 mg p>>=λr=>if !(r.2=0:J) then hW (1,b,f,g,e)>>=λw=>some (ab.eta w.1,w.2.1,w.2.2.1,w.2.2.2.2.2,w.2.2.2.1,w.2.2.2.2.1)else nw (r.1,c.af,(c.af.length:Int),0,b,f,g,c,0,false,0,[],0,c.ae,false,0,[],0,e,[])>>=λo=>match o with
 |.inl v=>
 some (ab.eta v.2.2.2.2.1,v.1,v.2.1,v.2.2.1,v.2.2.2.1,v.2.2.2.2.2)
 |.inr a=>
 p1 (a.1,(a.1.length:Int),0,a.2.1,a.2.2.1,a.2.2.2.1,a.2.2.2.2.1,a.2.2.2.2.2.1,a.2.2.2.2.2.2.1,a.2.2.2.2.2.2.2.1,a.2.2.2.2.2.2.2.2.1,a.2.2.2.2.2.2.2.2.2.1,a.2.2.2.2.2.2.2.2.2.2.1,a.2.2.2.2.2.2.2.2.2.2.2.1,a.2.2.2.2.2.2.2.2.2.2.2.2.1,a.2.2.2.2.2.2.2.2.2.2.2.2.2.1,a.2.2.2.2.2.2.2.2.2.2.2.2.2.2.1,a.2.2.2.2.2.2.2.2.2.2.2.2.2.2.2.1,a.2.2.2.2.2.2.2.2.2.2.2.2.2.2.2.2,[])>>=λbz=>match bz with
 |.inl A=>
 some (ab.eta A.2.2.2.1,A.1,A.2.1,A.2.2.2.2.2,A.2.2.1,A.2.2.2.2.1)
 |.inr q=>
 some ((⟨q.2.2.2.2.2.2.2.2.1,q.2.2.2.2.2.2.2.2.2.1,q.2.2.2.2.2.2.2.2.2.2.1,q.2.2.2.2.2.2.2.2.2.2.2.1,q.2.2.2.2.2.2.2.2.2.2.2.2.1,[],q.2.2.2.2.2.2.2.2.2.2.2.2.2.2.1,q.2.2.2.2.2.2.2.2.2.2.2.2.2.2.2⟩:ab),true,q.1,q.2.1,q.2.2.1,q.2.2.2.2.2.2.2.2.2.2.2.2.2.1)
  partial_fixpoint
def Dr:aj×aq×I aj×az×Int×az->ag (ab×J×I aj×az×Int×az)
 |(c,p,b,f,g,e)=>
 mh p>>=λr=>if !(r.2.2=0:J) then hW (1,b,f,g,e)>>=λK=>some (ab.eta K.1,K.2.1,K.2.2.1,K.2.2.2.2.2,K.2.2.2.1,K.2.2.2.2.1)else gO (c,r.1)>>=λbU=>if bU.2 then ite (aE bU.1 c.af.length) (ja (r.1,(c.af.getD bU.1.toNat aH).aC,r.2.1,b,f,g,e)>>=λE=>some ((⟨c.ae,false,0,[],r.1,[],[ab.eta E.1],[]⟩:ab),E.2.1,E.2.2.1,E.2.2.2.1,E.2.2.2.2.1,E.2.2.2.2.2)) none else if !c.bt then hW (5,b,f,g,e)>>=λz=>some (ab.eta z.1,z.2.1,z.2.2.1,z.2.2.2.2.2,z.2.2.2.1,z.2.2.2.2.1)else some ((⟨c.ae,false,0,[],r.1,[],[],[(⟨r.1,r.2.1⟩:ch)]⟩:ab),true,b,f,g,e)
  partial_fixpoint
def tF:I aq×Int×I aj×az×Int×aj×Int×J×Int×aq×Int×Int×J×Int×aq×Int×az×I ab->ag ((J×I aj×az×Int×ab×az) ⊕ (I aq×I aj×az×Int×aj×Int×J×Int×aq×Int×Int×J×Int×aq×Int×az×I ab))
 |(al,i,g2,g3,g4,bu,g5,g6,g7,g8,g9,he,hk,hm,hs,ht,hu,bv)=>
 if (i<(al.length:Int):J) then ite (aE i al.length) (ja (gA .i64 i 2,bu.aR,al.getD i.toNat [],g2,g3,g4,hu)>>=λj=>if !j.2.1 then some (.inl (false,j.2.2.1,j.2.2.2.1,j.2.2.2.2.1,ab.eta j.1,j.2.2.2.2.2))else some [ab.eta j.1]>>=λt73=>ite (cn 120 (bv++t73).length) (tF (al,a' .i64 i 2,j.2.2.1,j.2.2.2.1,j.2.2.2.2.1,bu,g5,g6,g7,g8,g9,he,hk,hm,hs,ht,j.2.2.2.2.2,bv++t73)) none) none else some (.inr (al,g2,g3,g4,bu,g5,g6,g7,g8,g9,he,hk,hm,hs,ht,hu,bv))
  partial_fixpoint
def tG:I aq×Int×I aj×az×Int×aj×Int×J×Int×aq×Int×Int×J×Int×aq×Int×az×I ab×I ab->ag ((J×I aj×az×Int×ab×az) ⊕ (I aj×az×Int×Int×J×Int×aq×Int×Int×J×Int×aq×Int×az×I ab×I ab))
 |(ax,ak,hw,b1,b2,b5,ca,cd,ce,ci,cs,cV,c5,ds,dt,dw,ec,eq,aD)=>
 if (ak<(ax.length:Int):J) then ite (aE ak ax.length) (ja (gA .i64 ak 2,b5.aF,ax.getD ak.toNat [],hw,b1,b2,ec)>>=λy=>if !y.2.1 then some (.inl (false,y.2.2.1,y.2.2.2.1,y.2.2.2.2.1,ab.eta y.1,y.2.2.2.2.2))else some [ab.eta y.1]>>=λt125=>ite (cn 120 (aD++t125).length) (tG (ax,a' .i64 ak 2,y.2.2.1,y.2.2.2.1,y.2.2.2.2.1,b5,ca,cd,ce,ci,cs,cV,c5,ds,dt,dw,y.2.2.2.2.2,eq,aD++t125)) none) none else some (.inr (hw,b1,b2,ca,cd,ce,ci,cs,cV,c5,ds,dt,dw,ec,eq,aD))
  partial_fixpoint
def tN:I aq×Int×Int×I aj×az×Int×aj×Int×J×Int×aq×Int×Int×J×Int×aq×Int×az×I ab->ag ((J×I aj×az×Int×ab×az) ⊕ (I aj×az×Int×Int×J×Int×aq×Int×Int×J×Int×aq×Int×az×I ab))
 |(t38,hH,t40,es,ex,fd,ff,fo,fs,gc,gd,ge,gl,gs,gt,gy,g0,g1,a0)=>
 if (t40<hH:J) then ite (aE t40 t38.length) (ja (t40,ff.aF,t38.getD t40.toNat [],es,ex,fd,g1)>>=λj=>if !j.2.1 then some (.inl (false,j.2.2.1,j.2.2.2.1,j.2.2.2.2.1,ab.eta j.1,j.2.2.2.2.2))else some [ab.eta j.1]>>=λt60=>ite (cn 120 (a0++t60).length) (tN (t38,hH,a' .i64 t40 1,j.2.2.1,j.2.2.2.1,j.2.2.2.2.1,ff,fo,fs,gc,gd,ge,gl,gs,gt,gy,g0,j.2.2.2.2.2,a0++t60)) none) none else some (.inr (es,ex,fd,fo,fs,gc,gd,ge,gl,gs,gt,gy,g0,g1,a0))
  partial_fixpoint
def nw:I cY×I aU×Int×Int×I aj×az×Int×aj×Int×J×Int×aq×Int×Int×J×Int×aq×Int×az×I ab->ag ((J×I aj×az×Int×ab×az) ⊕ (I cY×I aj×az×Int×aj×Int×J×Int×aq×Int×Int×J×Int×aq×Int×az×I ab))
 |(F,t39,b0,t41,am,an,ap,a1,a2,a3,a4,a5,a9,bd,be,bi,bq,bs,Z,aa)=>
 if (t41<b0:J) then ite (aE t41 t39.length) (some (t39.getD t41.toNat aH)>>=λY=>y9 (F,(⟨Y.ai,Y.aP,Y.aC,Y.b4,Y.bH,ab.eta Y.bm⟩:aU))>>=λu=>if (0<=u.1:J) then ite (aE u.1 F.length) (ja (u.2.ai,u.2.aC,(F.getD u.1.toNat dz).bT,am,an,ap,Z)>>=λD=>if !D.2.1 then some (.inl (false,D.2.2.1,D.2.2.2.1,D.2.2.2.2.1,ab.eta D.1,D.2.2.2.2.2))else some [ab.eta D.1]>>=λt102=>ite (cn 120 (aa++t102).length) (nw (F,t39,b0,a' .i64 t41 1,D.2.2.1,D.2.2.2.1,D.2.2.2.2.1,a1,a2,a3,a4,a5,a9,bd,be,bi,bq,bs,D.2.2.2.2.2,aa++t102)) none) none else if u.2.bH then jQ (ab.eta u.2.bm)>>=λh1=>some [ab.eta h1]>>=λt113=>ite (cn 120 (aa++t113).length) (nw (F,t39,b0,a' .i64 t41 1,am,an,ap,a1,a2,a3,a4,a5,a9,bd,be,bi,bq,bs,Z,aa++t113)) none else some [u.2.ai]>>=λt55=>ite (cn 8 (Z++t55).length) (hW (7,am,an,ap,Z++t55)>>=λz=>some (dD .i64 (z.2.2.2.2.1.length:Int) 1)>>=λt74=>ite (fy 0 t74 z.2.2.2.2.1.length) (ite (t74.toNat<=z.2.2.2.2.1.length:J) (some (.inl (false,z.2.2.1,z.2.2.2.2.2,z.2.2.2.1,ab.eta z.1,z.2.2.2.2.1.take t74.toNat))) none) none) none) none else some (.inr (F,am,an,ap,a1,a2,a3,a4,a5,a9,bd,be,bi,bq,bs,Z,aa))
  partial_fixpoint
end
theorem Xs:eP Cv zd/\fa 136 2 [2] Bp tG/\eP pt ja/\eP yH py/\eP Cw ze/\fa 137 2 [0] Bs nw/\eP Cu Dt/\fa 135 2 [0] Bn tN/\eP Ct Dr/\fa 136 2 [0] Bo tF:=zd.mutual_partial_correctness (eG Cv) (e' 136 2 [2] Bp) (eG pt) (eG yH) (eG Cw) (e' 137 2 [0] Bs) (eG Cu) (e' 135 2 [0] Bn) (eG Ct) (e' 136 2 [0] Bo)
 (λ_ _ h1 d _ _ h=>eV h (.k KZ (.k ri .n)) (.k (fl Bo d) (.k Xi (.k (fl Bp h1) .n))))
 (λ_ _ h1 a _ _ h=>fk Bp h1 h (.k (cL pt a) .n))
 (λ_ e _ _ h=>eV h (.k (cL yH e) .n))
 (λ_ _ _ _ _ h0 a f g i _ _ h=>eV h (.k ri (.k aa5 (.k ZM (.k Eg (.k (cL pt a) (.k (cL Ct i) (.k (cL Cu g) (.k (cL Cv h0) (.k (cL Cw f) .n))))))))))
 (λ_ b _ _ h=>eV h (.k aaF (.k ri .n)) (.k (fl Bs b) (.k Xr .n)))
 (λ_ _ a b _ _ h=>fk Bs b h (.k XN (.k (cL pt a) (.k aaE (.k ri .n)))))
 (λ_ c _ _ h=>eV h (.k KZ (.k ri .n)) (.k (fl Bn c) .n))
 (λ_ _ a c _ _ h=>fk Bn c h (.k (cL pt a) .n))
 (λ_ a _ _ h=>eV h (.k abr (.k ri (.k lE (.k (cL pt a) .n)))))
 (λ_ _ a d _ _ h=>fk Bo d h (.k (cL pt a) .n))
theorem Ym:bj yH py:=cL _ Xs.2.2.2.1
def IG:aT×Int×aq->ag (ab×jf×Int)
 |(s,t,m)=>
 pR s>>=λr=>if !(r=0:J) then some ((⟨0,false,0,[],0,[],[],[]⟩:ab),(⟨[],0⟩:jf),r)else if(bif (t<0:J)then true else ((s.bh.length:Int)<=t:J)) then some ((⟨0,false,0,[],0,[],[],[]⟩:ab),(⟨[],0⟩:jf),4)else if (4096<(m.length:Int):J) then some ((⟨0,false,0,[],0,[],[],[]⟩:ab),(⟨[],3⟩:jf),12)else py (t,m,s.bh,[],0,[])>>=λa=>if !a.2.1 then some ((⟨0,false,0,[],0,[],[],[]⟩:ab),(⟨a.2.2.2.1,a.2.2.2.2.1⟩:jf),12)else some (ab.eta a.1,(⟨[],0⟩:jf),0)
theorem aaw:bj Ui IG:= .bo (.k zR (.k Ym .n))
def Ew:aT×Int×aq->ag (ab×Int)
 |(s,t,m)=>
 IG (s,t,m)>>=λr=>some (ab.eta r.1,r.2.2)
theorem aaG:bj T2 Ew:= .bo (.k aaw .n)
def wc:cv×cv×aq->ag (J)
 |(w,r,m)=>
 sf w>>=λc=>some (!c)>>=λt13=>(if !t13 then sf r else some false)>>=λe=>if(bif t13 then true else(!e)) then some false else Ew (w.dO,w.aC,m)>>=λa=>some (!(a.2=0:J))>>=λt29=>(if !t29 then rv (w.dO,w.aC,ab.eta a.1)else some false)>>=λf=>if(bif t29 then true else(!f)) then some false else oi (w.dO,w.aC,ab.eta a.1)>>=λb=>if(bif (!(b.2=0:J))then true else(!(b.1=m:J))) then some false else wb (w.dO,w.aC,ab.eta a.1,r.dO,r.aC)>>=λd=>some (d.2=12:J)
theorem ZP:bj pq wc:= .bo (.k Lu (.k aaG (.k H' (.k Lw (.k W0 .n)))))
def HV(a:bn):ag (J):=
 some (c4 a.cg a.bY<0:J)
theorem ZQ:bj T8 HV:= .bo
def q2:I bn×Int×Int->ag ((Int) ⊕ (Unit))
 |(a,b,t8)=>
 if (t8<b:J) then ite (aE t8 a.length) (HV (a.getD t8.toNat dH)>>=λr=>if r then some (.inl t8)else q2 (a,b,a' .i64 t8 1)) none else some (.inr ())
  partial_fixpoint
theorem XQ:cy 46 0 [0] Ug q2:= .rx q2.partial_correctness (.k ZQ .n)
def HL(s:I bn):ag (Int):=
 q2 (s,(s.length:Int),0)>>=λo=>match o with
 |.inl a=>
 some a
 |.inr b=>
 some (-1)
theorem XT:bj Uf HL:= .bo .n (.k XQ .n)
def HK(s:I bn):ag (J):=
 HL s>>=λr=>some (0<=r:J)
theorem XR:bj TQ HK:= .bo (.k XT .n)
def Ey(v:ha):ag (J):=
 if v.nS then some (v.kc=[]:J)>>=λt7=>(if t7 then HK v.fv else some false)>>=λr=>some (bif t7 then(!r)else false)else some ((v.fv.length:Int)=0:J)
theorem aaH:bj Te Ey:= .bo (.k XR .n)
def DU:cv×cv×ha->ag (J)
 |(w,r,v)=>
 Ey v>>=λa=>if !a then some false else if v.nS then v8 (w,r,v.fv)>>=λb=>some b else wc (w,r,v.kc)>>=λc=>some c
theorem aaI:bj k' DU:= .bo (.k aaH (.k aab (.k ZP .n)))
def rZ:Int×I aj×Int×Int×cv->ag (Int×cv)
 |(b,t8,c,t10,a)=>
 if (t10<c:J) then ite (aE t10 t8.length) (some (t8.getD t10.toNat aN)>>=λd=>rZ (a' .i64 b (a' .i64 (d.af.length:Int) (d.bc.length:Int)),t8,c,a' .i64 t10 1,a)) none else some (b,a)
  partial_fixpoint
theorem Zp:cy 5 0 [0] Uq rZ:= .rx rZ.partial_correctness
def Ap(r:cv):ag (J):=
 rZ (0,r.dO.bh,(r.dO.bh.length:Int),0,r)>>=λo=>some (bif ((o.2.dO.bh.length:Int)<=6:J)then (o.1<=40:J)else false)
theorem ZR:bj mq Ap:= .bo .n (.k Zp .n)
def tv:Int×ha->ag ((J) ⊕ (ha))
 |(i,a)=>
 if (i<(a.fv.length:Int):J) then ite (aE i a.fv.length) (some ((a.fv.getD i.toNat dH).cg<0:J)>>=λt24=>ite (aE i a.fv.length||(!(!t24))) (if(bif t24 then true else ((a.fv.getD i.toNat dH).bY<0:J)) then some (.inl false)else tv (a' .i64 i 1,a)) none) none else some (.inr a)
  partial_fixpoint
theorem Y6:cy 14 0 [0] Tt tv:= .rx tv.partial_correctness
def Em(v:ha):ag (J):=
 if !v.nS then some ((v.fv.length:Int)=0:J)else tv (0,v)>>=λo=>match o with
 |.inl a=>
 some a
 |.inr b=>
 some (b.kc=[]:J)
theorem aa6:bj aik Em:= .bo .n (.k Y6 .n)
def nA(t:aj):ag (aj):=
 if (t.ae=1:J) then some (⟨t.ae,[],0,0,0,[],[],0,0,false⟩:aj)else if (t.ae=2:J) then some (⟨t.ae,[],t.br,t.bB,0,[],[],0,0,false⟩:aj)else if (t.ae=3:J) then some (⟨t.ae,[],0,0,t.Max,[],[],0,0,false⟩:aj)else if (t.ae=4:J) then some (⟨t.ae,t.aP,0,0,0,t.bc,[],0,0,t.bt⟩:aj)else if (t.ae=5:J) then some (⟨t.ae,t.aP,0,0,0,[],t.af,0,0,false⟩:aj)else if (t.ae=6:J) then some (⟨t.ae,t.aP,0,0,0,[],t.af,0,0,t.bt⟩:aj)else if (t.ae=7:J) then some (⟨t.ae,[],0,0,t.Max,[],[],0,t.aF,false⟩:aj)else if (t.ae=8:J) then some (⟨t.ae,[],0,0,t.Max,[],[],t.aR,t.aF,false⟩:aj)else some (⟨t.ae,[],0,0,0,[],[],0,t.aF,false⟩:aj)
theorem Y7:bj aiq nA:= .bo
def pZ:Int×ab×ab->ag ((J) ⊕ (ab×ab))
 |(i,a,b)=>
 if (i<(a.aX.length:Int):J) then ite (aE i a.aX.length) (some (a.aX.getD i.toNat cj)>>=λc=>ite (aE i b.aX.length) (some (b.aX.getD i.toNat cj)>>=λd=>if !(eJ c.ai d.ai&&(jA c.bT d.bT&&true)) then some (.inl false)else pZ (a' .i64 i 1,ab.eta a,ab.eta b)) none) none else some (.inr (ab.eta a,ab.eta b))
  partial_fixpoint
theorem Xj:cy 177 0 [0] Ry pZ:= .rx pZ.partial_correctness
mutual
def kP(e:ab×ab):ag (J):=
 match e with
 |(a,b)=>
 if(bif bif bif bif bif (!(a.ae=b.ae:J))then true else(!(e7 a.ct b.ct))then true else(!(a.bE=b.bE:J))then true else(!(a.bZ=b.bZ:J))then true else(!(a.ai=b.ai:J))then true else(!((a.aX.length:Int)=(b.aX.length:Int):J))) then some false else pZ (0,(⟨a.ae,a.ct,a.bE,a.bZ,a.ai,a.a7,a.aw,a.aX⟩:ab),(⟨b.ae,b.ct,b.bE,b.bZ,b.ai,b.a7,b.aw,b.aX⟩:ab))>>=λo=>match o with
 |.inl j=>
 some j
 |.inr c=>
 zb (c.1.a7,c.2.a7)>>=λr=>(if r then zb (c.1.aw,c.2.aw)else some false)>>=λp=>some (bif r then p else false)
  partial_fixpoint
def zb(e:I ab×I ab):ag (J):=
 match e with
 |(a,b)=>
 if !((a.length:Int)=(b.length:Int):J) then some false else wy (a,b,0)>>=λo=>match o with
 |.inl j=>
 some j
 |.inr c=>
 some true
  partial_fixpoint
def wy:I ab×I ab×Int->ag ((J) ⊕ (Unit))
 |(f,g,i)=>
 if (i<(f.length:Int):J) then ite (aE i f.length) (ite (aE i g.length) (kP (ab.eta (f.getD i.toNat aM),ab.eta (g.getD i.toNat aM))>>=λr=>if !r then some (.inl false)else wy (f,g,a' .i64 i 1)) none) none else some (.inr ())
  partial_fixpoint
end
theorem Xt:eP Cz kP/\eP Gz zb/\fa 222 0 [0] Bt wy:=kP.mutual_partial_correctness (eG Cz) (eG Gz) (e' 222 0 [0] Bt)
 (λ_ h1 _ _ h=>eV h (.k (cL Gz h1) .n) (.k Xj .n))
 (λ_ a _ _ h=>eV h .n (.k (fl Bt a) .n))
 (λ_ _ h0 a _ _ h=>fk Bt a h (.k (cL Cz h0) .n))
theorem DO:bj Cz kP:=cL _ Xt.1
def zc:aU×aU->ag (J)
 |(a,b)=>
 some (bif bif bif bif (a.ai=b.ai:J)then (a.aP=b.aP:J)else false then (a.aC=b.aC:J)else false then e7 a.b4 b.b4 else false then e7 a.bH b.bH else false)>>=λt37=>(if t37 then kP ((⟨a.bm.ae,a.bm.ct,a.bm.bE,a.bm.bZ,a.bm.ai,a.bm.a7,a.bm.aw,a.bm.aX⟩:ab),(⟨b.bm.ae,b.bm.ct,b.bm.bE,b.bm.bZ,b.bm.ai,b.bm.a7,b.bm.aw,b.bm.aX⟩:ab))else some false)>>=λr=>some (bif t37 then r else false)
theorem Xb:bj aiI zc:= .bo (.k DO .n)
def p2:Int×aj×aj->ag ((J) ⊕ (aj×aj))
 |(i,a,b)=>
 if (i<(a.bc.length:Int):J) then ite (aE i a.bc.length) (some (a.bc.getD i.toNat dV)>>=λc=>ite (aE i b.bc.length) (some (b.bc.getD i.toNat dV)>>=λd=>if !(eJ c.ai d.ai&&(jA c.aP d.aP&&true)) then some (.inl false)else p2 (a' .i64 i 1,a,b)) none) none else some (.inr (a,b))
  partial_fixpoint
theorem Xu:cy 166 0 [0] Rz p2:= .rx p2.partial_correctness
def p3:Int×aj×aj->ag ((J) ⊕ (Unit))
 |(a,d,e)=>
 if (a<(d.af.length:Int):J) then ite (aE a d.af.length) (some (d.af.getD a.toNat aH)>>=λb=>ite (aE a e.af.length) (some (e.af.getD a.toNat aH)>>=λc=>zc ((⟨b.ai,b.aP,b.aC,b.b4,b.bH,ab.eta b.bm⟩:aU),(⟨c.ai,c.aP,c.aC,c.b4,c.bH,ab.eta c.bm⟩:aU))>>=λr=>if !r then some (.inl false)else p3 (a' .i64 a 1,d,e)) none) none else some (.inr ())
  partial_fixpoint
theorem Xv:cy 166 0 [1] RA p3:= .rx p3.partial_correctness (.k Xb .n)
def Dm(g:aj×aj):ag (J):=
 match g with
 |(a,b)=>
 if(bif bif bif bif bif bif bif bif bif (!(a.ae=b.ae:J))then true else(!(a.aP=b.aP:J))then true else(!(a.br=b.br:J))then true else(!(a.bB=b.bB:J))then true else(!(a.Max=b.Max:J))then true else(!(a.aR=b.aR:J))then true else(!(a.aF=b.aF:J))then true else(!(e7 a.bt b.bt))then true else(!((a.bc.length:Int)=(b.bc.length:Int):J))then true else(!((a.af.length:Int)=(b.af.length:Int):J))) then some false else p2 (0,(⟨a.ae,a.aP,a.br,a.bB,a.Max,a.bc,a.af,a.aR,a.aF,a.bt⟩:aj),(⟨b.ae,b.aP,b.br,b.bB,b.Max,b.bc,b.af,b.aR,b.aF,b.bt⟩:aj))>>=λo=>match o with
 |.inl d=>
 some d
 |.inr c=>
 p3 (0,c.1,c.2)>>=λe=>match e with
 |.inl f=>
 some f
 |.inr i=>
 some true
theorem YC:bj aip Dm:= .bo .n (.k Xu (.k Xv .n))
def lD(a:Int):ag (J):=
 some (bif bif (a=4:J)then true else (a=5:J)then true else (a=6:J))
theorem Wq:bj ajd lD:= .bo
def zm(b:Int):ag (J):=
 some (bif bif bif (97<=b:J)then (b<=122:J)else false then true else bif (65<=b:J)then (b<=90:J)else false then true else (b=95:J))
theorem Wm:bj aiJ zm:= .bo
def Dz(b:Int):ag (J):=
 some (bif (48<=b:J)then (b<=57:J)else false)
theorem Y8:bj aiK Dz:= .bo
def pz:aq×Int->ag ((J) ⊕ (Unit))
 |(a,i)=>
 if (i<(a.length:Int):J) then ite (aE i a.length) (zm (gj a i)>>=λb=>some (!b)>>=λt27=>ite (aE i a.length||(!t27)) ((if t27 then Dz (gj a i)else some false)>>=λc=>if(bif t27 then(!c)else false) then some (.inl false)else pz (a,a' .i64 i 1)) none) none else some (.inr ())
  partial_fixpoint
theorem Yn:cy 168 0 [0] RB pz:= .rx pz.partial_correctness (.k Wm (.k Y8 .n))
def tj(s:aq):ag (J):=
 some (bif (s=[]:J)then true else (24<(s.length:Int):J))>>=λt10=>ite (aE 0 s.length||(!(!t10))) ((if !t10 then zm (gj s 0)else some false)>>=λr=>if(bif t10 then true else(!r)) then some false else pz (s,0)>>=λo=>match o with
 |.inl a=>
 some a
 |.inr b=>
 some true) none
theorem HP:bj air tj:= .bo (.k Wm .n) (.k Yn .n)
def zV:Int×Int->ag (J)
 |(a,n)=>
 some (bif bif (a<n:J)then (1<=n:J)else false then (n<=1000:J)else false)
theorem Lm:bj aiL zV:= .bo
def n4:I df×Int×Int->ag ((J) ⊕ (I df×Int))
 |(a,b,k)=>
 if (k<b:J) then ite (aE k a.length) (ite (aE b a.length) (if ((a.getD k.toNat dV).aP=(a.getD b.toNat dV).aP:J) then some (.inl false)else n4 (a,b,a' .i64 k 1)) none) none else some (.inr (a,b))
  partial_fixpoint
theorem Xk:cy 169 0 [0,0] Pr n4:= .rx n4.partial_correctness
def p5(g:I df×Int×Int):ag ((J) ⊕ (I df)):=
 match g with
 |(a,c,i)=>
 if (i<(a.length:Int):J) then ite (aE i a.length) (zV (c,(a.getD i.toNat dV).ai)>>=λr=>some (!r)>>=λt19=>ite (aE i a.length||(!(!t19))) ((if !t19 then tj (a.getD i.toNat dV).aP else some false)>>=λf=>if(bif t19 then true else(!f)) then some (.inl false)else n4 (a,i,0)>>=λd=>match d with
 |.inl e=>
 some (.inl e)
 |.inr b=>
 ite (aE b.2 b.1.length) (p5 (b.1,(b.1.getD b.2.toNat dV).ai,a' .i64 b.2 1)) none) none) none else some (.inr a)
  partial_fixpoint
theorem Xc:cy 169 0 [0] Q8 p5:= .rx p5.partial_correctness (.k Lm (.k HP .n)) (.k Xk .n)
def zi(l:I df):ag (J):=
 p5 (l,0,0)>>=λo=>match o with
 |.inl b=>
 some b
 |.inr a=>
 some (bif (1<=(a.length:Int):J)then ((a.length:Int)<=16:J)else false)
theorem XY:bj ais zi:= .bo .n (.k Xc .n)
def n5:I aU×J×Int×Int×aU->ag ((J) ⊕ (I aU×J×Int×aU))
 |(b,d,c,k,a)=>
 if (k<c:J) then ite (aE k b.length) (if ((b.getD k.toNat aH).aP=a.aP:J) then some (.inl false)else n5 (b,d,c,a' .i64 k 1,(⟨a.ai,a.aP,a.aC,a.b4,a.bH,ab.eta a.bm⟩:aU))) none else some (.inr (b,d,c,(⟨a.ai,a.aP,a.aC,a.b4,a.bH,ab.eta a.bm⟩:aU)))
  partial_fixpoint
theorem Xl:cy 170 0 [0,0] Ps n5:= .rx n5.partial_correctness
def p6(l:I aU×J×Int×Int):ag ((J) ⊕ (I aU×J)):=
 match l with
 |(b,d,e,i)=>
 if (i<(b.length:Int):J) then ite (aE i b.length) (some (b.getD i.toNat aH)>>=λa=>zV (e,a.ai)>>=λr=>some (!r)>>=λt23=>(if !t23 then tj a.aP else some false)>>=λj=>if(bif bif bif t23 then true else(!j)then true else bif a.b4 then a.bH else false then true else bif (!d)then bif a.b4 then true else a.bH else false) then some (.inl false)else some (!a.bH)>>=λt52=>(if t52 then kP (ab.eta a.bm,(⟨0,false,0,[],0,[],[],[]⟩:ab))else some false)>>=λk=>if(bif t52 then(!k)else false) then some (.inl false)else n5 (b,d,i,0,(⟨a.ai,a.aP,a.aC,a.b4,a.bH,ab.eta a.bm⟩:aU))>>=λf=>match f with
 |.inl g=>
 some (.inl g)
 |.inr c=>
 p6 (c.1,c.2.1,c.2.2.2.ai,a' .i64 c.2.2.1 1)) none else some (.inr (b,d))
  partial_fixpoint
theorem Xd:cy 170 0 [0] Q9 p6:= .rx p6.partial_correctness (.k Lm (.k HP (.k DO .n))) (.k Xl .n)
def wF(c:I aU×J):ag (J):=
 match c with
 |(l,record)=>
 p6 (l,record,0,0)>>=λo=>match o with
 |.inl b=>
 some b
 |.inr a=>
 some (bif ((a.1.length:Int)<=16:J)then bif a.2 then true else (1<=(a.1.length:Int):J)else false)
theorem XZ:bj ait wF:= .bo .n (.k Xd .n)
def hY(t:aj):ag (J):=
 some (bif (t.ae<1:J)then true else (9<t.ae:J))>>=λt10=>(if !t10 then nA t else some aN)>>=λr=>(if !t10 then Dm (t,r)else some false)>>=λc=>some (bif t10 then true else(!c))>>=λt17=>(if !t17 then lD t.ae else some false)>>=λa=>(if((!t17)&&a) then tj t.aP else some false)>>=λd=>if(bif t17 then true else bif a then(!d)else false) then some false else if (t.ae=2:J) then some (t.br<=t.bB:J)else if (t.ae=3:J) then some (bif (0<=t.Max:J)then (t.Max<=200:J)else false)else if (t.ae=4:J) then zi t.bc>>=λe=>some e else some (t.ae=5:J)>>=λt54=>if t54 then if t54 then wF (t.af,(t.ae=5:J))>>=λf=>some f else some (t.ae=7:J)>>=λt63=>if t63 then if t63 then some (bif (0<=t.Max:J)then (t.Max<=50:J)else false)else some true else if (t.ae=8:J) then some (bif (0<=t.Max:J)then (t.Max<=50:J)else false)else some true else if (t.ae=6:J) then wF (t.af,(t.ae=5:J))>>=λg=>some g else some (t.ae=7:J)>>=λb=>if b then if b then some (bif (0<=t.Max:J)then (t.Max<=50:J)else false)else some true else if (t.ae=8:J) then some (bif (0<=t.Max:J)then (t.Max<=50:J)else false)else some true
theorem ZS:bj ajc hY:= .bo (.k Y7 (.k YC (.k Wq (.k HP (.k XY (.k XZ .n))))))
end
end Go.Proofs.YtopcfbelfjclmaaGreatDoor
