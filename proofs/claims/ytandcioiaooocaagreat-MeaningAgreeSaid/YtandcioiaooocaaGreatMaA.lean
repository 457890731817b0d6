/- The functions of the program as functions of Lean, that its code does what they say, and what they answer; part A. -/
import Derived.Test.YtandcioiaooocaaGreatProg
import Derived.KernelRfl
import Derived.Shelf.SlGeneric
import Derived.Shelf.SlLaysF0
import Derived.Shelf.SlSortCmp.WholeK
import Derived.Lib.Small
import Derived.Test.YtandcioiaooocaaGreatMaLD

namespace Go.Proofs.YtandcioiaooocaaGreat
set_option linter.all false
section
open Go Go.Proofs.YtandcioiaooocaaGreat.Shv
open Tryz
set_option maxRecDepth 100000
structure acH where
 c6:Int
 jb:Int
 al6:Int
structure W1 where
 Kind:Int
 A:Int
 B:Int
 C:Int
 aiF:List acH
structure W0 where
 Y2:List W1
structure YP where
 S:W0
 T:Int
 C:ev
structure s4 where
 c6:Int
 Name:b8
structure Jh where
 c6:Int
 Data:b8
structure a6 where
 Kind:Int
 s0:Bool
 oj:Int
 o':b8
 c6:Int
 r3:List a6
 qb:List a6
 Rest:List Jh
structure hv where
 c6:Int
 Name:b8
 jb:Int
 r2:Bool
 qx:Bool
 ix:a6
structure b' where
 Kind:Int
 Name:b8
 mJ:Int
 mx:Int
 Max:Int
 hD:List s4
 c7:List hv
 Key:Int
 h6:Int
 Open:Bool
structure f4 where
 Types:List b'
structure Uz where
 id:Int
 text:b8
structure aeT where
 W:f4
 R:f4
 arO:Int
 hY:Int
 V:a6
structure acG where
 Kind:Int
 Node:Int
 A:Int
 B:Int
structure aeP where
 D:YP
 L:List acG
structure afs where
 Value:a6
 Path:ev
 ry:Bool
structure yJ where
 c6:Int
 r2:Bool
 Data:b8
structure O3 where
 Path:ev
 Reason:Int
structure aaq where
 Z6:b8
 JR:b8
structure ns where
 Value:a6
 vk:O3
 ry:Bool
abbrev acD:Nat:=4
abbrev auL:Nat:=5
abbrev ajs:Nat:=6
abbrev TE:Nat:=7
abbrev aj2:Nat:=8
abbrev auM:Nat:=9
abbrev atb:Nat:=17
def aFz:acH:=⟨0,0,0⟩
def arv:W1:=⟨0,0,0,0,[]⟩
def arM:W0:=⟨[]⟩
def arN:YP:=⟨arM,0,[]⟩
def yt:s4:=⟨0,[]⟩
def Na:Jh:=⟨0,[]⟩
def f5:a6:=⟨0,false,0,[],0,[],[],[]⟩
def d5:hv:=⟨0,[],0,false,false,f5⟩
def d4:b':=⟨0,[],0,0,0,[],[],0,0,false⟩
def amU:f4:=⟨[]⟩
def anl:Uz:=⟨0,[]⟩
def aEV:aeT:=⟨amU,amU,0,0,f5⟩
def aDP:acG:=⟨0,0,0,0⟩
def aFA:aeP:=⟨arN,[]⟩
def aFb:afs:=⟨f5,[],false⟩
def Lr:yJ:=⟨0,false,[]⟩
def auN:O3:=⟨[],0⟩
def aHI:aaq:=⟨[],[]⟩
def aFc:ns:=⟨f5,auN,false⟩
def x':Nat->Type
 |0=>YP
 |1=>W0
 |2=>W1
 |3=>acH
 |4=>b'
 |5=>s4
 |6=>hv
 |7=>a6
 |8=>Jh
 |9=>f4
 |10=>Uz
 |11=>aeT
 |12=>aeP
 |13=>acG
 |14=>afs
 |15=>yJ
 |16=>O3
 |17=>aaq
 |18=>ns
 |_=>Bool
def H':Nat->List c8
 |0=>[.slice (.nm 2),.int .u8,.slice (.int .u8)]
 |1=>[.slice (.nm 2)]
 |2=>[.int .u8,.int .u8,.int .u8,.int .u8,.slice (.nm 3)]
 |3=>[.int .u8,.int .u8,.int .u8]
 |4=>[.int .i64,.str,.int .i64,.int .i64,.int .i64,.slice (.nm 5),.slice (.nm 6),.int .i64,.int .i64,.bool]
 |5=>[.int .i64,.str]
 |6=>[.int .i64,.str,.int .i64,.bool,.bool,.int .i64,.bool,.int .i64,.str,.int .i64,.slice (.nm 7),.slice (.nm 7),.slice (.nm 8)]
 |7=>[.int .i64,.bool,.int .i64,.str,.int .i64,.slice (.nm 7),.slice (.nm 7),.slice (.nm 8)]
 |8=>[.int .i64,.str]
 |9=>[.slice (.nm 4)]
 |10=>[.int .i64,.str]
 |11=>[.slice (.nm 4),.slice (.nm 4),.int .i64,.int .i64,.int .i64,.bool,.int .i64,.str,.int .i64,.slice (.nm 7),.slice (.nm 7),.slice (.nm 8)]
 |12=>[.slice (.nm 2),.int .u8,.slice (.int .u8),.slice (.nm 13)]
 |13=>[.int .u8,.int .u8,.int .u8,.int .u8]
 |14=>[.int .i64,.bool,.int .i64,.str,.int .i64,.slice (.nm 7),.slice (.nm 7),.slice (.nm 8),.slice (.int .i64),.bool]
 |15=>[.int .i64,.bool,.str]
 |16=>[.slice (.int .i64),.int .i64]
 |17=>[.str,.str]
 |18=>[.int .i64,.bool,.int .i64,.str,.int .i64,.slice (.nm 7),.slice (.nm 7),.slice (.nm 8),.slice (.int .i64),.int .i64,.bool]
 |_=>[.bool]
def aNq:(n:Nat)->x' n->List (Cell x')
 |0,(x:YP)=>[⟨.slice (.nm 2),x.S.Y2⟩,⟨.int .u8,x.T⟩,⟨.slice (.int .u8),x.C⟩]
 |1,(x:W0)=>[⟨.slice (.nm 2),x.Y2⟩]
 |2,(x:W1)=>[⟨.int .u8,x.Kind⟩,⟨.int .u8,x.A⟩,⟨.int .u8,x.B⟩,⟨.int .u8,x.C⟩,⟨.slice (.nm 3),x.aiF⟩]
 |3,(x:acH)=>[⟨.int .u8,x.c6⟩,⟨.int .u8,x.jb⟩,⟨.int .u8,x.al6⟩]
 |4,(x:b')=>[⟨.int .i64,x.Kind⟩,⟨.str,x.Name⟩,⟨.int .i64,x.mJ⟩,⟨.int .i64,x.mx⟩,⟨.int .i64,x.Max⟩,⟨.slice (.nm 5),x.hD⟩,⟨.slice (.nm 6),x.c7⟩,⟨.int .i64,x.Key⟩,⟨.int .i64,x.h6⟩,⟨.bool,x.Open⟩]
 |5,(x:s4)=>[⟨.int .i64,x.c6⟩,⟨.str,x.Name⟩]
 |6,(x:hv)=>[⟨.int .i64,x.c6⟩,⟨.str,x.Name⟩,⟨.int .i64,x.jb⟩,⟨.bool,x.r2⟩,⟨.bool,x.qx⟩,⟨.int .i64,x.ix.Kind⟩,⟨.bool,x.ix.s0⟩,⟨.int .i64,x.ix.oj⟩,⟨.str,x.ix.o'⟩,⟨.int .i64,x.ix.c6⟩,⟨.slice (.nm 7),x.ix.r3⟩,⟨.slice (.nm 7),x.ix.qb⟩,⟨.slice (.nm 8),x.ix.Rest⟩]
 |7,(x:a6)=>[⟨.int .i64,x.Kind⟩,⟨.bool,x.s0⟩,⟨.int .i64,x.oj⟩,⟨.str,x.o'⟩,⟨.int .i64,x.c6⟩,⟨.slice (.nm 7),x.r3⟩,⟨.slice (.nm 7),x.qb⟩,⟨.slice (.nm 8),x.Rest⟩]
 |8,(x:Jh)=>[⟨.int .i64,x.c6⟩,⟨.str,x.Data⟩]
 |9,(x:f4)=>[⟨.slice (.nm 4),x.Types⟩]
 |10,(x:Uz)=>[⟨.int .i64,x.id⟩,⟨.str,x.text⟩]
 |11,(x:aeT)=>[⟨.slice (.nm 4),x.W.Types⟩,⟨.slice (.nm 4),x.R.Types⟩,⟨.int .i64,x.arO⟩,⟨.int .i64,x.hY⟩,⟨.int .i64,x.V.Kind⟩,⟨.bool,x.V.s0⟩,⟨.int .i64,x.V.oj⟩,⟨.str,x.V.o'⟩,⟨.int .i64,x.V.c6⟩,⟨.slice (.nm 7),x.V.r3⟩,⟨.slice (.nm 7),x.V.qb⟩,⟨.slice (.nm 8),x.V.Rest⟩]
 |12,(x:aeP)=>[⟨.slice (.nm 2),x.D.S.Y2⟩,⟨.int .u8,x.D.T⟩,⟨.slice (.int .u8),x.D.C⟩,⟨.slice (.nm 13),x.L⟩]
 |13,(x:acG)=>[⟨.int .u8,x.Kind⟩,⟨.int .u8,x.Node⟩,⟨.int .u8,x.A⟩,⟨.int .u8,x.B⟩]
 |14,(x:afs)=>[⟨.int .i64,x.Value.Kind⟩,⟨.bool,x.Value.s0⟩,⟨.int .i64,x.Value.oj⟩,⟨.str,x.Value.o'⟩,⟨.int .i64,x.Value.c6⟩,⟨.slice (.nm 7),x.Value.r3⟩,⟨.slice (.nm 7),x.Value.qb⟩,⟨.slice (.nm 8),x.Value.Rest⟩,⟨.slice (.int .i64),x.Path⟩,⟨.bool,x.ry⟩]
 |15,(x:yJ)=>[⟨.int .i64,x.c6⟩,⟨.bool,x.r2⟩,⟨.str,x.Data⟩]
 |16,(x:O3)=>[⟨.slice (.int .i64),x.Path⟩,⟨.int .i64,x.Reason⟩]
 |17,(x:aaq)=>[⟨.str,x.Z6⟩,⟨.str,x.JR⟩]
 |18,(x:ns)=>[⟨.int .i64,x.Value.Kind⟩,⟨.bool,x.Value.s0⟩,⟨.int .i64,x.Value.oj⟩,⟨.str,x.Value.o'⟩,⟨.int .i64,x.Value.c6⟩,⟨.slice (.nm 7),x.Value.r3⟩,⟨.slice (.nm 7),x.Value.qb⟩,⟨.slice (.nm 8),x.Value.Rest⟩,⟨.slice (.int .i64),x.vk.Path⟩,⟨.int .i64,x.vk.Reason⟩,⟨.bool,x.ry⟩]
 |_+19,(x:Bool)=>[⟨.bool,x⟩]
def q1:(n:Nat)->List (Cell x')->Option (x' n)
 |0,l=>match c'.dec x' (H' 0) l with
  |some h=>some (⟨(⟨h.1⟩:W0),h.2.1,h.2.2⟩:YP)
  |none=>none
 |1,l=>match c'.dec x' (H' 1) l with
  |some h=>some (⟨h⟩:W0)
  |none=>none
 |2,l=>match c'.dec x' (H' 2) l with
  |some h=>some (⟨h.1,h.2.1,h.2.2.1,h.2.2.2.1,h.2.2.2.2⟩:W1)
  |none=>none
 |3,l=>match c'.dec x' (H' 3) l with
  |some h=>some (⟨h.1,h.2.1,h.2.2⟩:acH)
  |none=>none
 |4,l=>match c'.dec x' (H' 4) l with
  |some h=>some (⟨h.1,h.2.1,h.2.2.1,h.2.2.2.1,h.2.2.2.2.1,h.2.2.2.2.2.1,h.2.2.2.2.2.2.1,h.2.2.2.2.2.2.2.1,h.2.2.2.2.2.2.2.2.1,h.2.2.2.2.2.2.2.2.2⟩:b')
  |none=>none
 |5,l=>match c'.dec x' (H' 5) l with
  |some h=>some (⟨h.1,h.2⟩:s4)
  |none=>none
 |6,l=>match c'.dec x' (H' 6) l with
  |some h=>some (⟨h.1,h.2.1,h.2.2.1,h.2.2.2.1,h.2.2.2.2.1,(⟨h.2.2.2.2.2.1,h.2.2.2.2.2.2.1,h.2.2.2.2.2.2.2.1,h.2.2.2.2.2.2.2.2.1,h.2.2.2.2.2.2.2.2.2.1,h.2.2.2.2.2.2.2.2.2.2.1,h.2.2.2.2.2.2.2.2.2.2.2.1,h.2.2.2.2.2.2.2.2.2.2.2.2⟩:a6)⟩:hv)
  |none=>none
 |7,l=>match c'.dec x' (H' 7) l with
  |some h=>some (⟨h.1,h.2.1,h.2.2.1,h.2.2.2.1,h.2.2.2.2.1,h.2.2.2.2.2.1,h.2.2.2.2.2.2.1,h.2.2.2.2.2.2.2⟩:a6)
  |none=>none
 |8,l=>match c'.dec x' (H' 8) l with
  |some h=>some (⟨h.1,h.2⟩:Jh)
  |none=>none
 |9,l=>match c'.dec x' (H' 9) l with
  |some h=>some (⟨h⟩:f4)
  |none=>none
 |10,l=>match c'.dec x' (H' 10) l with
  |some h=>some (⟨h.1,h.2⟩:Uz)
  |none=>none
 |11,l=>match c'.dec x' (H' 11) l with
  |some h=>some (⟨(⟨h.1⟩:f4),(⟨h.2.1⟩:f4),h.2.2.1,h.2.2.2.1,(⟨h.2.2.2.2.1,h.2.2.2.2.2.1,h.2.2.2.2.2.2.1,h.2.2.2.2.2.2.2.1,h.2.2.2.2.2.2.2.2.1,h.2.2.2.2.2.2.2.2.2.1,h.2.2.2.2.2.2.2.2.2.2.1,h.2.2.2.2.2.2.2.2.2.2.2⟩:a6)⟩:aeT)
  |none=>none
 |12,l=>match c'.dec x' (H' 12) l with
  |some h=>some (⟨(⟨(⟨h.1⟩:W0),h.2.1,h.2.2.1⟩:YP),h.2.2.2⟩:aeP)
  |none=>none
 |13,l=>match c'.dec x' (H' 13) l with
  |some h=>some (⟨h.1,h.2.1,h.2.2.1,h.2.2.2⟩:acG)
  |none=>none
 |14,l=>match c'.dec x' (H' 14) l with
  |some h=>some (⟨(⟨h.1,h.2.1,h.2.2.1,h.2.2.2.1,h.2.2.2.2.1,h.2.2.2.2.2.1,h.2.2.2.2.2.2.1,h.2.2.2.2.2.2.2.1⟩:a6),h.2.2.2.2.2.2.2.2.1,h.2.2.2.2.2.2.2.2.2⟩:afs)
  |none=>none
 |15,l=>match c'.dec x' (H' 15) l with
  |some h=>some (⟨h.1,h.2.1,h.2.2⟩:yJ)
  |none=>none
 |16,l=>match c'.dec x' (H' 16) l with
  |some h=>some (⟨h.1,h.2⟩:O3)
  |none=>none
 |17,l=>match c'.dec x' (H' 17) l with
  |some h=>some (⟨h.1,h.2⟩:aaq)
  |none=>none
 |18,l=>match c'.dec x' (H' 18) l with
  |some h=>some (⟨(⟨h.1,h.2.1,h.2.2.1,h.2.2.2.1,h.2.2.2.2.1,h.2.2.2.2.2.1,h.2.2.2.2.2.2.1,h.2.2.2.2.2.2.2.1⟩:a6),(⟨h.2.2.2.2.2.2.2.2.1,h.2.2.2.2.2.2.2.2.2.1⟩:O3),h.2.2.2.2.2.2.2.2.2.2⟩:ns)
  |none=>none
 |_+19,l=>match c'.dec x' [.bool] l with
  |some (h:Bool)=>some h
  |none=>none
def awe(x:acH):List T:=[.int .u8 x.c6,.int .u8 x.jb,.int .u8 x.al6]
def akq(x:W1):List T:=[.int .u8 x.Kind,.int .u8 x.A,.int .u8 x.B,.int .u8 x.C,.slice (x.aiF.map awe)]
def aCZ(x:W0):List T:=[.slice (x.Y2.map akq)]
def aC0(x:YP):List T:=[.slice (x.S.Y2.map akq),.int .u8 x.T,.slice (x.C.map (λy=>[.int .u8 y]))]
def awc(x:s4):List T:=[.int .i64 x.c6,.str x.Name]
def abb(x:Jh):List T:=[.int .i64 x.c6,.str x.Data]
def a6.eta(x:a6):a6:=⟨x.Kind,x.s0,x.oj,x.o',x.c6,x.r3,x.qb,x.Rest⟩
theorem a6.pa(x:a6):x.eta=x:=by cases x;rfl
mutual
def QP:a6->List T
 |⟨a0,a1,a2,a3,a4,a5,TK,aA0⟩=>[.int .i64 a0,.bool a1,.int .i64 a2,.str a3,.int .i64 a4,.slice (agK a5),.slice (agK TK),.slice (aA0.map abb)]
def agK:List a6->List (List T)
 |[]=>[]
 |v::r=>QP v::agK r
end
theorem asc:∀l,agK l=l.map QP
 |[]=>rfl
 |v::r=>by simp only[agK,List.map];rw[asc r]
theorem aG2(x:a6):QP x=[.int .i64 x.Kind,.bool x.s0,.int .i64 x.oj,.str x.o',.int .i64 x.c6,.slice (x.r3.map QP),.slice (x.qb.map QP),.slice (x.Rest.map abb)]:=by cases x;simp only[QP,asc]
def awb(x:hv):List T:=[.int .i64 x.c6,.str x.Name,.int .i64 x.jb,.bool x.r2,.bool x.qx,.int .i64 x.ix.Kind,.bool x.ix.s0,.int .i64 x.ix.oj,.str x.ix.o',.int .i64 x.ix.c6,.slice (x.ix.r3.map QP),.slice (x.ix.qb.map QP),.slice (x.ix.Rest.map abb)]
def akp(x:b'):List T:=[.int .i64 x.Kind,.str x.Name,.int .i64 x.mJ,.int .i64 x.mx,.int .i64 x.Max,.slice (x.hD.map awc),.slice (x.c7.map awb),.int .i64 x.Key,.int .i64 x.h6,.bool x.Open]
def aCX(x:f4):List T:=[.slice (x.Types.map akp)]
def aCU(x:Uz):List T:=[.int .i64 x.id,.str x.text]
def aCY(x:aeT):List T:=[.slice (x.W.Types.map akp),.slice (x.R.Types.map akp),.int .i64 x.arO,.int .i64 x.hY,.int .i64 x.V.Kind,.bool x.V.s0,.int .i64 x.V.oj,.str x.V.o',.int .i64 x.V.c6,.slice (x.V.r3.map QP),.slice (x.V.qb.map QP),.slice (x.V.Rest.map abb)]
def awd(x:acG):List T:=[.int .u8 x.Kind,.int .u8 x.Node,.int .u8 x.A,.int .u8 x.B]
def aC2(x:aeP):List T:=[.slice (x.D.S.Y2.map akq),.int .u8 x.D.T,.slice (x.D.C.map (λy=>[.int .u8 y])),.slice (x.L.map awd)]
def aC3(x:afs):List T:=[.int .i64 x.Value.Kind,.bool x.Value.s0,.int .i64 x.Value.oj,.str x.Value.o',.int .i64 x.Value.c6,.slice (x.Value.r3.map QP),.slice (x.Value.qb.map QP),.slice (x.Value.Rest.map abb),.slice (x.Path.map (λy=>[.int .i64 y])),.bool x.ry]
def aCW(x:yJ):List T:=[.int .i64 x.c6,.bool x.r2,.str x.Data]
def aCV(x:O3):List T:=[.slice (x.Path.map (λy=>[.int .i64 y])),.int .i64 x.Reason]
def aC4(x:aaq):List T:=[.str x.Z6,.str x.JR]
def aC1(x:ns):List T:=[.int .i64 x.Value.Kind,.bool x.Value.s0,.int .i64 x.Value.oj,.str x.Value.o',.int .i64 x.Value.c6,.slice (x.Value.r3.map QP),.slice (x.Value.qb.map QP),.slice (x.Value.Rest.map abb),.slice (x.vk.Path.map (λy=>[.int .i64 y])),.int .i64 x.vk.Reason,.bool x.ry]
def aNp:(n:Nat)->x' n->List T
 |0,x=>aC0 x
 |1,x=>aCZ x
 |2,x=>akq x
 |3,x=>awe x
 |4,x=>akp x
 |5,x=>awc x
 |6,x=>awb x
 |7,x=>QP x
 |8,x=>abb x
 |9,x=>aCX x
 |10,x=>aCU x
 |11,x=>aCY x
 |12,x=>aC2 x
 |13,x=>awd x
 |14,x=>aC3 x
 |15,x=>aCW x
 |16,x=>aCV x
 |17,x=>aC4 x
 |18,x=>aC1 x
 |_+19,(x:Bool)=>[.bool x]
def nJ:k9 where
 D:=x'
 TZ:=λn=>match n with
  |0=>arN
  |1=>arM
  |2=>arv
  |3=>aFz
  |4=>d4
  |5=>yt
  |6=>d5
  |7=>f5
  |8=>Na
  |9=>amU
  |10=>anl
  |11=>aEV
  |12=>aFA
  |13=>aDP
  |14=>aFb
  |15=>Lr
  |16=>auN
  |17=>aHI
  |18=>aFc
  |_+19=>false
 Wh:=aNq
 make:=q1
 q0:=H'
 enc:=aNp
 awh:=λn x=>match n,x with
  |0,_=>rfl
  |1,_=>rfl
  |2,_=>rfl
  |3,_=>rfl
  |4,_=>rfl
  |5,_=>rfl
  |6,_=>rfl
  |7,x=>aG2 x
  |8,_=>rfl
  |9,_=>rfl
  |10,_=>rfl
  |11,_=>rfl
  |12,_=>rfl
  |13,_=>rfl
  |14,_=>rfl
  |15,_=>rfl
  |16,_=>rfl
  |17,_=>rfl
  |18,_=>rfl
  |_+19,_=>rfl
 mk_eq:=λn l x h=>match n,x,h with
  |0,x,h=>by
   simp only[q1]at h;split at h
   . rename_i ak ay;cases h;exact c'.KV ay
   . cases h
  |1,x,h=>by
   simp only[q1]at h;split at h
   . rename_i ak ay;cases h;exact c'.KV ay
   . cases h
  |2,x,h=>by
   simp only[q1]at h;split at h
   . rename_i ak ay;cases h;exact c'.KV ay
   . cases h
  |3,x,h=>by
   simp only[q1]at h;split at h
   . rename_i ak ay;cases h;exact c'.KV ay
   . cases h
  |4,x,h=>by
   simp only[q1]at h;split at h
   . rename_i ak ay;cases h;exact c'.KV ay
   . cases h
  |5,x,h=>by
   simp only[q1]at h;split at h
   . rename_i ak ay;cases h;exact c'.KV ay
   . cases h
  |6,x,h=>by
   simp only[q1]at h;split at h
   . rename_i ak ay;cases h;exact c'.KV ay
   . cases h
  |7,x,h=>by
   simp only[q1]at h;split at h
   . rename_i ak ay;cases h;exact c'.KV ay
   . cases h
  |8,x,h=>by
   simp only[q1]at h;split at h
   . rename_i ak ay;cases h;exact c'.KV ay
   . cases h
  |9,x,h=>by
   simp only[q1]at h;split at h
   . rename_i ak ay;cases h;exact c'.KV ay
   . cases h
  |10,x,h=>by
   simp only[q1]at h;split at h
   . rename_i ak ay;cases h;exact c'.KV ay
   . cases h
  |11,x,h=>by
   simp only[q1]at h;split at h
   . rename_i ak ay;cases h;exact c'.KV ay
   . cases h
  |12,x,h=>by
   simp only[q1]at h;split at h
   . rename_i ak ay;cases h;exact c'.KV ay
   . cases h
  |13,x,h=>by
   simp only[q1]at h;split at h
   . rename_i ak ay;cases h;exact c'.KV ay
   . cases h
  |14,x,h=>by
   simp only[q1]at h;split at h
   . rename_i ak ay;cases h;exact c'.KV ay
   . cases h
  |15,x,h=>by
   simp only[q1]at h;split at h
   . rename_i ak ay;cases h;exact c'.KV ay
   . cases h
  |16,x,h=>by
   simp only[q1]at h;split at h
   . rename_i ak ay;cases h;exact c'.KV ay
   . cases h
  |17,x,h=>by
   simp only[q1]at h;split at h
   . rename_i ak ay;cases h;exact c'.KV ay
   . cases h
  |18,x,h=>by
   simp only[q1]at h;split at h
   . rename_i ak ay;cases h;exact c'.KV ay
   . cases h
  |_+19,x,h=>by
   simp only[q1]at h;split at h
   . rename_i ak ay;cases h;exact c'.KV ay
   . cases h
 aAc:=λn x=>match n,x with
  |0,_=>rfl
  |1,_=>rfl
  |2,_=>rfl
  |3,_=>rfl
  |4,_=>rfl
  |5,_=>rfl
  |6,_=>rfl
  |7,_=>rfl
  |8,_=>rfl
  |9,_=>rfl
  |10,_=>rfl
  |11,_=>rfl
  |12,_=>rfl
  |13,_=>rfl
  |14,_=>rfl
  |15,_=>rfl
  |16,_=>rfl
  |17,_=>rfl
  |18,_=>rfl
  |_+19,_=>rfl
 aAb:=λe=>match e with
  |3=>some (.int .i64)
  |5=>some (.int .u8)
  |9=>some .str
  |37=>some (.nm 7)
  |74=>some (.nm 6)
  |81=>some (.nm 8)
  |96=>some (.nm 4)
  |118=>some (.nm 5)
  |125=>some (.nm 3)
  |206=>some (.nm 15)
  |245=>some (.nm 10)
  |_=>none
 own:=[([false,false,true,true],2,.int .i64),([false,true,true,false],1,.int .i64)]
 pos:=λn=>match n with
  |0=>by decide
  |1=>by decide
  |2=>by decide
  |3=>by decide
  |4=>by decide
  |5=>by decide
  |6=>by decide
  |7=>by decide
  |8=>by decide
  |9=>by decide
  |10=>by decide
  |11=>by decide
  |12=>by decide
  |13=>by decide
  |14=>by decide
  |15=>by decide
  |16=>by decide
  |17=>by decide
  |18=>by decide
  |_+19=>Nat.zero_lt_one
theorem aKr:nJ.Total:=λn l h=>match n,h with
 |0,h=>by
  obtain⟨x,aa⟩:=c'.Oe (D:=x') (ts:=H' 0) h;exact⟨_,by show q1 0 l=_;simp only[q1,aa];rfl⟩
 |1,h=>by
  obtain⟨x,aa⟩:=c'.Oe (D:=x') (ts:=H' 1) h;exact⟨_,by show q1 1 l=_;simp only[q1,aa];rfl⟩
 |2,h=>by
  obtain⟨x,aa⟩:=c'.Oe (D:=x') (ts:=H' 2) h;exact⟨_,by show q1 2 l=_;simp only[q1,aa];rfl⟩
 |3,h=>by
  obtain⟨x,aa⟩:=c'.Oe (D:=x') (ts:=H' 3) h;exact⟨_,by show q1 3 l=_;simp only[q1,aa];rfl⟩
 |4,h=>by
  obtain⟨x,aa⟩:=c'.Oe (D:=x') (ts:=H' 4) h;exact⟨_,by show q1 4 l=_;simp only[q1,aa];rfl⟩
 |5,h=>by
  obtain⟨x,aa⟩:=c'.Oe (D:=x') (ts:=H' 5) h;exact⟨_,by show q1 5 l=_;simp only[q1,aa];rfl⟩
 |6,h=>by
  obtain⟨x,aa⟩:=c'.Oe (D:=x') (ts:=H' 6) h;exact⟨_,by show q1 6 l=_;simp only[q1,aa];rfl⟩
 |7,h=>by
  obtain⟨x,aa⟩:=c'.Oe (D:=x') (ts:=H' 7) h;exact⟨_,by show q1 7 l=_;simp only[q1,aa];rfl⟩
 |8,h=>by
  obtain⟨x,aa⟩:=c'.Oe (D:=x') (ts:=H' 8) h;exact⟨_,by show q1 8 l=_;simp only[q1,aa];rfl⟩
 |9,h=>by
  obtain⟨x,aa⟩:=c'.Oe (D:=x') (ts:=H' 9) h;exact⟨_,by show q1 9 l=_;simp only[q1,aa];rfl⟩
 |10,h=>by
  obtain⟨x,aa⟩:=c'.Oe (D:=x') (ts:=H' 10) h;exact⟨_,by show q1 10 l=_;simp only[q1,aa];rfl⟩
 |11,h=>by
  obtain⟨x,aa⟩:=c'.Oe (D:=x') (ts:=H' 11) h;exact⟨_,by show q1 11 l=_;simp only[q1,aa];rfl⟩
 |12,h=>by
  obtain⟨x,aa⟩:=c'.Oe (D:=x') (ts:=H' 12) h;exact⟨_,by show q1 12 l=_;simp only[q1,aa];rfl⟩
 |13,h=>by
  obtain⟨x,aa⟩:=c'.Oe (D:=x') (ts:=H' 13) h;exact⟨_,by show q1 13 l=_;simp only[q1,aa];rfl⟩
 |14,h=>by
  obtain⟨x,aa⟩:=c'.Oe (D:=x') (ts:=H' 14) h;exact⟨_,by show q1 14 l=_;simp only[q1,aa];rfl⟩
 |15,h=>by
  obtain⟨x,aa⟩:=c'.Oe (D:=x') (ts:=H' 15) h;exact⟨_,by show q1 15 l=_;simp only[q1,aa];rfl⟩
 |16,h=>by
  obtain⟨x,aa⟩:=c'.Oe (D:=x') (ts:=H' 16) h;exact⟨_,by show q1 16 l=_;simp only[q1,aa];rfl⟩
 |17,h=>by
  obtain⟨x,aa⟩:=c'.Oe (D:=x') (ts:=H' 17) h;exact⟨_,by show q1 17 l=_;simp only[q1,aa];rfl⟩
 |18,h=>by
  obtain⟨x,aa⟩:=c'.Oe (D:=x') (ts:=H' 18) h;exact⟨_,by show q1 18 l=_;simp only[q1,aa];rfl⟩
 |m+19,h=>by
  obtain⟨x,aa⟩:=c'.Oe (D:=x') (ts:=[.bool]) h;exact⟨x,by show q1 (m+19) l=_;simp only[q1,aa];rfl⟩
end
section
open Go Go.Proofs.YtandcioiaooocaaGreat.Shv
open Tryz
set_option maxRecDepth 100000
open Go.Proofs Go.Proofs.YtandcioiaooocaaGreat Go.Shelf
theorem aFd:N6 prog 98=true:=by kernel_rfl
def aiR:k6 nJ:=aj0 nJ 98 (.int .i64) 8
theorem aDW:N9 prog aiR:=aGV (sz:=1) (bytes:=8) (z:=[.t (.int .i64 0)]) func98 (by kernel_rfl) (by kernel_rfl) (by kernel_rfl) rfl rfl
theorem amv:Nk prog aiR:=⟨aFd,aDW⟩
theorem aFe:N6 prog 145=true:=by kernel_rfl
def aiS:k6 nJ:=afF nJ 145 (.nm 7) 120
theorem aDX:N9 prog aiS:=auF (sz:=8) (bytes:=120) (z:=[.t (.int .i64 0),.t (.bool false),.t (.int .i64 0),.t (.str []),.t (.int .i64 0),.hN,.hN,.hN]) func145 (by kernel_rfl) (by kernel_rfl) (by kernel_rfl) rfl rfl
theorem amw:Nk prog aiS:=⟨aFe,aDX⟩
theorem aFf:N6 prog 146=true:=by kernel_rfl
def aiT:k6 nJ:=afF nJ 146 (.nm 8) 24
theorem aDY:N9 prog aiT:=auF (sz:=2) (bytes:=24) (z:=[.t (.int .i64 0),.t (.str [])]) func146 (by kernel_rfl) (by kernel_rfl) (by kernel_rfl) rfl rfl
theorem amx:Nk prog aiT:=⟨aFf,aDY⟩
instance:Inhabited Uz:=⟨anl⟩
instance:Inhabited (nJ.D 10):=⟨anl⟩
def abT(x y:Uz):Bool:=decide (x.id<y.id)
section
open Go.Proofs Go.Proofs.YtandcioiaooocaaGreat Go.Sort Go.RowKit Go.Lib
theorem aM7(x:Int)(w:World):Calls prog 196 #[.int .i64 x] w λe w'=>e= .returned (.bool false)/\w'=w:=by
 go_enter func196,ntmps196
 go_wp2
 go_ret
 exact⟨by simp,rfl⟩
set_option maxHeartbeats 1000000 in
theorem aM6(x y:Int)(w:World):Calls prog 177 #[.int .i64 x,.int .i64 y] w λe w'=>e= .returned (.int .i64 (Lib.compareInt x y))/\w'=w:=by
 go_enter func177,ntmps177
 go_wp2_with (go_at_call 196;refine(aM7 _ _).mono ?_;rintro e w' ⟨rfl,hw⟩;rw[hw])
 all_goals (go_ret;refine⟨?_,rfl⟩;unfold Lib.compareInt;(repeat' split)<;>first|rfl|(exfalso;omega))
def aia(x:Uz):List Value:=[.int .i64 x.id,.string ⟨x.text.toArray⟩]
set_option maxHeartbeats 1000000 in
theorem aM5(x y:Int)(s t:ByteArray)(W:World):Calls prog 209 #[.agg #[.int .i64 x,.string s],.agg #[.int .i64 y,.string t]] W λe w'=>e= .returned (.int .i64 (Lib.compareInt x y))/\∃q aMz,w'=grow (W.drewN q) aMz:=by
 have Om:=λRy=>aM6 x y Ry
 generalize Lib.compareInt x y=r at Om⊢
 go_enter func209,ntmps209
 go_wp2_with (go_at_call 177;refine(Om _).mono ?_;rintro e w' ⟨rfl,rfl⟩)
 go_ret
 exact⟨rfl,0,_,by rw[alloc_eq_grow,alloc_eq_grow,grow_grow];rfl⟩
def aut:Go.Shelf.Ren:=⟨λ|6=>208|15=>212|14=>211|28=>222|29=>223|20=>214|21=>215|22=>216|23=>217|24=>218|25=>219|26=>220|27=>221|46=>224|47=>225|48=>226|49=>227|50=>228|57=>229|n=>n,λ|22=>243|24=>245|25=>247|3=>3|39=>196|0=>0|53=>261|55=>147|4=>4|46=>255|45=>254|50=>127|5=>5|9=>9|66=>263|70=>267|76=>269|77=>270|n=>n,λ|n=>n⟩
theorem aze:SlLaysF0.n6 prog aut:={
 mixed:=by kernel_rfl
 f6:=⟨f208.name,by decide,func208.trans (Jy some (by kernel_rfl))⟩
 f14:=⟨f211.name,by decide,func211.trans (Jy some (by kernel_rfl))⟩
 f15:=func212.trans (Jy some (by kernel_rfl))
 f20:=⟨f214.name,by decide,func214.trans (Jy some (by kernel_rfl))⟩
 f21:=⟨f215.name,by decide,func215.trans (Jy some (by kernel_rfl))⟩
 f22:=⟨f216.name,by decide,func216.trans (Jy some (by kernel_rfl))⟩
 f23:=⟨f217.name,by decide,func217.trans (Jy some (by kernel_rfl))⟩
 f24:=⟨f218.name,by decide,func218.trans (Jy some (by kernel_rfl))⟩
 f25:=⟨f219.name,by decide,func219.trans (Jy some (by kernel_rfl))⟩
 f26:=⟨f220.name,by decide,func220.trans (Jy some (by kernel_rfl))⟩
 f27:=⟨f221.name,by decide,func221.trans (Jy some (by kernel_rfl))⟩
 f28:=func222.trans (Jy some (by kernel_rfl))
 f29:=func223.trans (Jy some (by kernel_rfl))
 f46:=⟨f224.name,by decide,func224.trans (Jy some (by kernel_rfl))⟩
 f47:=func225.trans (Jy some (by kernel_rfl))
 f48:=func226.trans (Jy some (by kernel_rfl))
 f49:=⟨f227.name,by decide,func227.trans (Jy some (by kernel_rfl))⟩
 f50:=⟨f228.name,by decide,func228.trans (Jy some (by kernel_rfl))⟩
 f57:=⟨f229.name,by decide,func229.trans (Jy some (by kernel_rfl))⟩
 t0:=underlying0
 a0:=isAgg0
 z0:=sizeOf0
 v0:=zeroValue0
 t3:=underlying3
 a3:=isAgg3
 z3:=sizeOf3
 v3:=zeroValue3
 t4:=underlying4
 a4:=isAgg4
 z4:=sizeOf4
 v4:=zeroValue4
 t5:=underlying5
 a5:=isAgg5
 z5:=sizeOf5
 v5:=zeroValue5
 t9:=underlying9
 a9:=isAgg9
 z9:=sizeOf9
 v9:=zeroValue9
 t22:=underlying243
 a22:=isAgg243
 z22:=sizeOf243
 v22:=zeroValue243
 t25:=underlying247
 a25:=isAgg247
 z25:=sizeOf247
 v25:=zeroValue247
 t39:=underlying196
 a39:=isAgg196
 z39:=sizeOf196
 v39:=zeroValue196
 t45:=underlying254
 a45:=isAgg254
 z45:=sizeOf254
 v45:=zeroValue254
 t46:=underlying255
 a46:=isAgg255
 z46:=sizeOf255
 v46:=zeroValue255
 t50:=underlying127
 a50:=isAgg127
 z50:=sizeOf127
 v50:=zeroValue127
 t53:=underlying261
 a53:=isAgg261
 z53:=sizeOf261
 v53:=zeroValue261
 t55:=underlying147
 a55:=isAgg147
 z55:=sizeOf147
 v55:=zeroValue147
 t66:=underlying263
 a66:=isAgg263
 z66:=sizeOf263
 v66:=zeroValue263
 t70:=underlying267
 a70:=isAgg267
 z70:=sizeOf267
 v70:=zeroValue267
 t76:=underlying269
 a76:=isAgg269
 z76:=sizeOf269
 v76:=zeroValue269
 t77:=underlying270
 a77:=isAgg270
 z77:=sizeOf270
 v77:=zeroValue270}
theorem auO:ltOf (λx y:Uz=>Lib.compareInt x.id y.id)=abT:=by
 funext x y
 unfold ltOf abT Lib.compareInt;by_cases h1:x.id<y.id
 . simp[h1]
 . by_cases ad:y.id<x.id<;>simp[h1,ad]
theorem aqH:SWO abT:=aIS (λx:Uz=>x.id)
set_option maxHeartbeats 2000000 in
theorem aM9(p:Option Addr)(cap:Nat)(U4:Value)(w:World):Calls prog 214 #[.slice p 0 cap,.int .i64 0,.int .i64 0,U4] w λe w'=>e= .returned (.tuple #[])/\w'=w:=by
 go_enter func214,ntmps214
 go_wp2
 refine wp_loop_rounds 1 ?_;rw[rounds_succ]
 go_wp2
 go_end0
 exact⟨rfl,rfl⟩
set_option maxHeartbeats 2000000 in
theorem aM'(p:Option Addr)(cap:Nat)(apM:Int)(U4:Value)(w:World):Calls prog 211 #[.slice p 0 cap,.int .i64 0,.int .i64 0,.int .i64 apM,U4] w λe w'=>e= .returned (.tuple #[])/\w'=w:=by
 have ao:=λW=>aM9 p cap U4 W
 go_enter func211,ntmps211
 go_wp2
 refine wp_loop_rounds 1 ?_;rw[rounds_succ]
 go_wp2_with (go_at_call 214;refine(ao _).mono ?_;rintro e w' ⟨rfl,rfl⟩)
 (try simp only[Exit.inBlock,Exit.then]);refine bodyPost_ret (results_none rfl _ _ _) rfl ?_
 exact⟨rfl,rfl⟩
set_option maxHeartbeats 2000000 in
theorem aM8(p:Option Addr)(cap:Nat)(U4:Value)(w:World):Calls prog 208 #[.slice p 0 cap,U4] w λe w'=>e= .returned (.tuple #[])/\w'=w:=by
 have aJ:=λapM W=>aM' p cap apM U4 W
 have ar:∀W,Calls prog 212 #[.int .u64 0] W λe w'=>e= .returned (.int .i64 (Lib.bitLen 0:Nat))/\w'=W:=λW=>by
  have h:=Any.bits_Len (SlLaysF0.n15.bits (P:=prog) (ρ:=aut) {aze with}) 0 W (by omega) (by omega);exact h
 go_enter func208,ntmps208
 go_wp2_with (first|(go_at_call 212;refine(ar _).mono ?_;rintro e w' ⟨rfl,rfl⟩)|(go_at_call 211;refine(aJ _ _).mono ?_;rintro e w' ⟨rfl,rfl⟩))
 go_end0
 exact⟨rfl,rfl⟩
theorem aNa(blk off cap:Nat)(d:Array (nJ.D 10))(w:World)(hH:HoldsK aia 2 w blk off d)(Wl:blk<w.heap.size)(hG:d.size<4611686018427387904):
 Calls prog 208 #[.slice (some ⟨blk,off,none⟩) d.size cap,.func (.func 209) #[] #[]] w λe w'=>e= .returned (.tuple #[])/\∃n os,w'=sortWorldK aia 2 w blk off n (pdq abT d 0 d.size (Lib.bitLen d.size) true true) os:=by
 have XX:∀args w,(callFunc 209 args).run prog w= .ok (.enter 209 args) w:=enters_of func209 (by kernel_rfl) rfl
 have h:=AnyQ.slices_SortFunc_eq (α:=Uz) aze 2 isAgg245 sizeOf245 aia (λ_=>rfl) (λx v ch=>by simp[aia]at ch;rcases ch with rfl|rfl<;>rfl) (λx y=>Lib.compareInt x.id y.id) (by rw[auO];exact aqH) 209 #[] blk off cap d w XX (λ_ _ _ _ x y=>aM5 x.id y.id _ _ _) hH Wl hG;rw[auO]at h;exact h
theorem aJx:N6 prog 208=true:=by kernel_rfl
def amJ:k6 nJ:=aqG nJ 208 10 209 (NX (α:=nJ.D 10) abT)
theorem aEN:N9 prog amJ:=aI6 (U:=nJ) (n:=10) aia abT aqH (λ_=>rfl) (λw S x j t v h al=>aG1 w S x.id x.text j t v h al) aNa aM8
end
theorem asy:Nk prog amJ:=⟨aJx,aEN⟩
def atc:Go.Shelf.Ren:=⟨λ|240=>210|276=>213|n=>n,λ|0=>0|4=>4|9=>9|20=>20|37=>25|70=>234|72=>236|164=>251|n=>n,λn=>n⟩
theorem aMg:Lays.n240 prog atc:={
 mixed:=by kernel_rfl
 f240:=func210.trans (Jy some (by kernel_rfl))
 f276:=func213.trans (Jy some (by kernel_rfl))
 t0:=underlying0
 a0:=isAgg0
 z0:=sizeOf0
 v0:=zeroValue0
 t4:=underlying4
 a4:=isAgg4
 z4:=sizeOf4
 v4:=zeroValue4
 t9:=underlying9
 a9:=isAgg9
 z9:=sizeOf9
 v9:=zeroValue9
 t20:=underlying20
 a20:=isAgg20
 z20:=sizeOf20
 v20:=zeroValue20
 t70:=underlying234
 a70:=isAgg234
 z70:=sizeOf234
 v70:=zeroValue234
 t72:=underlying236
 a72:=isAgg236
 z72:=sizeOf236
 v72:=zeroValue236
 t164:=underlying251
 a164:=isAgg251
 z164:=sizeOf251
 v164:=zeroValue251}
theorem aMh:Builder.X72 prog atc:={
 sizeBuilder:=by kernel_rfl
 liesBuilder:=by kernel_rfl}
theorem aJy:N6 prog 210=true:=by kernel_rfl
def aiG:k6 nJ:=aj1 nJ 210 236 5
theorem aFl:N9 prog aiG:=aHG aMg aMh rfl rfl
theorem arA:Nk prog aiG:=⟨aJy,aFl⟩
end
section
open Go Go.Proofs.YtandcioiaooocaaGreat.Shv
open Tryz
set_option maxRecDepth 100000
abbrev iy(e:eI)(F:c' nJ.D e.ts->Option (c' nJ.D e.us)):Prop:=Nk prog (e.s F)
abbrev xi(f kk:Nat)(p:ey)(e:h7)(F:c' nJ.D e.ts->Option (C' nJ e.outs)):Prop:=Yz prog f kk p e F
abbrev arl(e:eI):Prop:=OG prog e
abbrev NM(e:eI):c' nJ.D e.ts->c' nJ.D e.us->Prop:=aiA prog nJ e
abbrev PV(f kk:Nat)(p:ey)(e:h7):c' nJ.D e.ts->C' nJ e.outs->Prop:=aeD prog nJ f kk p e
abbrev Oa(e:eI)(F:c' nJ.D e.ts->Option (c' nJ.D e.us)):Prop:=∀h r,F h=some r->NM e h r
abbrev PW(f kk:Nat)(p:ey)(e:h7)(F:c' nJ.D e.ts->Option (C' nJ e.outs)):Prop:=∀h r,F h=some r->PV f kk p e h r
theorem OF{e:eI}{h:c' nJ.D e.ts}{r:c' nJ.D e.us}{x:Option (c' nJ.D e.us)}(h0:x=some r){fs:List (k6 nJ)}(c9:Qd prog fs:=by exact .n){ls:List (Nat×Nl nJ)}(ar:QI prog e.f e.st.length [] ls:=by exact .n)(k:arl e:=by exact .m (by kernel_rfl))(aa:Yv (NP fs) (Ta ls) prog e h=x:=by kernel_rfl):NM e h r:= .at k c9 ar (aa.trans h0)
theorem QG(e:h7){f kk:Nat}{p:ey}{F:c' nJ.D e.ts->Option (C' nJ e.outs)}(v':PW f kk p e F){h:c' nJ.D e.ts}{o:C' nJ e.outs}{x:Option (C' nJ e.outs)}(h0:x=some o){fs:List (k6 nJ)}(c9:Qd prog fs:=by exact .n){ls:List (Nat×Nl nJ)}(ar:QI prog f kk p ls:=by exact .n)(aa:Z' (NP fs) (Ta ls) kk (ZN prog f p) e F h=x:=by kernel_rfl):PV f kk p e h o:= .at v' c9 ar (aa.trans h0)
theorem Is(e:eI){F:c' nJ.D e.ts->Option (c' nJ.D e.us)}(h:Oa e F)(k:arl e:=by exact .m (by kernel_rfl)):iy e F:= .of k h
theorem QH(e:h7){f kk:Nat}{p:ey}{F:c' nJ.D e.ts->Option (C' nJ e.outs)}(h:PW f kk p e F):xi f kk p e F:= .of h
def al2:List c8:=[.nm 9,ah,.str]
def al1:List z':=[.arr (.nm 15)]
def aiw:List c8:=[.nm 9,ah,.nm 7]
def al0:List c8:=[.int .u64,ah,ah]
def alZ:List z':=[.arr (.int .u8)]
def alY:List (Nat×ze):=[(4,.c (.arr 0))]
def arb:List (Nat×ze):=[(1,ez 0 0),(3,ak ah)]
def alX:List (Nat×ze):=[(1,ez 0 0),(2,ez 1 0)]
def ara:List (Nat×ze):=[(6,ez 2 0),(10,ez 3 0)]
def aq':List c8:=[.nm 9,ah,.nm 7,.nm 9,ah]
def alW:List c8:=[.nm 9,.nm 4,.str,ah,gJ]
def aez:List (Nat×ze):=[(6,ez 2 0),(7,ak .bool)]
def aq9:List (Nat×ze):=[(10,ez 0 0),(13,ez 1 0)]
def alV:List (Nat×ze):=[(2,.c (.hN)),(3,ak ah)]
def alU:List c8:=[.nm 4,.str,b7 4,gJ,ah,gJ]
def aey:List c8:=[.nm 7,.bool,b7 4,gJ,ah,gJ]
def alT:List c8:=[.bool,b7 4,gJ,ah,.nm 7,gJ]
def aex:List z':=[.box [.hole (b7 4),.hole ah]]
def aew:List c8:=[.nm 7,.bool,b7 4,b7 4,gJ,gJ]
def aq8:List c8:=[.int .u64,ah,.slice (.int .u8)]
def aq7:List (Nat×ze):=[(1,ez 0 0),(3,ak ah),(4,ak ah)]
def aAE:List c8:=[.nm 4,.nm 7,.nm 4,b7 4,b7 4,gJ,gJ]
def alS:List Nn:=[.hole (b7 4),.arr 5,.hole gJ,.hole ah]
def aq6:List Nn:=[.hole (b7 4),.arr 4,.hole gJ,.hole ah]
def aq5:List (Nat×ze):=[(0,ak (.int .u64)),(3,ez 0 0),(4,ak ah)]
def aAD:List z':=[.box [.hole (b7 4),.hole ah],.arr (.nm 10)]
def aAC:List (Nat×ze):=[(3,ak .bool),(4,ez 0 0),(6,ez 1 0),(9,ez 2 0)]
def aAB:List c8:=[ah,b7 4,ah,.str,ah,ah,ah,b7 5,b7 6,ah,ah,.bool]
def aAA:List z':=[.box [.hole (b7 4),.hole ah],.l' 7,.arr (.nm 10)]
def abY:List z':=[.box [.hole (b7 4),.arr 1,.hole gJ,.hole ah],.arr ah]
def alR:List c8:=[ah,.bool,ah,.str,ah,ah,.bool,ah,.str,ah,b7 7,b7 7,b7 8]
def aAz:List (Nat×ze):=[(0,ez 0 0),(4,ez 2 0),(6,ez 3 0),(8,ak EI),(10,ez 4 0)]
def aAy:List z':=[.box [.hole (b7 4),.hole ah],.hZ 236 ((.lJ 2)),.buf 5]
def abX:List z':=[.box [.hole (b7 4),.hole (b7 4),.arr 1,.hole gJ],.arr ah]
def aeu:List z':=[.box [.hole (b7 4),.arr 2,.hole gJ,.hole ah],.gone,.arr ah]
def alQ:List c8:=[ah,ah,ah,.bool,ah,.str,ah,ah,.bool,ah,.str,ah,b7 7,b7 7,b7 8]
def aAx:List (Nat×ze):=[(1,ez 0 0),(2,ez 1 0),(35,.c (.arr 2)),(36,ak ah),(37,ak ah)]
def aAw:List (Nat×ze):=[(1,ez 0 0),(2,ez 1 0),(20,.c (.arr 2)),(21,ak ah),(22,ak ah)]
def aet:List z':=[.box [.hole (b7 4),.hole (b7 4),.arr 2,.hole gJ],.gone,.arr ah]
def Uu:List Nn:=[.hole ah,.hole .bool,.hole ah,.hole .str,.hole ah,.hN,.hN,.hN]
def alP:List z':=[.box [.hole (b7 4),.arr 3,.hole gJ,.hole ah],.gone,.l' 7,.arr ah]
def aAv:List Nn:=[.hole ah,.hole .bool,.hole ah,.hole .str,.hole ah,.hN,.arr 4,.hN]
def alO:List Nn:=[.hole ah,.hole .bool,.hole ah,.hole .str,.hole ah,.arr 4,.hN,.hN]
def aAu:List z':=[.box [.hole (b7 4),.hole (b7 4),.arr 2,.arr 3],.gone,.arr ah,.arr ah]
def aAt:List Nn:=[.hole ah,.hole .bool,.hole ah,.hole .str,.hole ah,.hN,.arr 5,.arr 6]
def aAs:List z':=[.box [.hole (b7 4),.arr 3,.arr 4,.hole ah],.gone,.l' 7,.arr ah,.arr ah]
def aAr:List z':=[.box [.hole (b7 4),.hole (b7 4),.arr 3,.hole gJ],.gone,.arr (.nm 7),.arr ah]
def aAI:List (Nat×ze):=[(3,ak ah),(4,ak gJ),(5,ez 0 0),(6,ez 1 0),(10,ez 2 0),(11,ak EI),(13,ez 3 0)]
def aAH:List Nn:=[.hole ah,.hole .bool,.hole ah,.hole .str,.hole ah,.hole (b7 7),.hole (b7 7),.hole (b7 8)]
def aAG:List (Nat×ze):=[(3,ak ah),(4,ak gJ),(5,ez 0 0),(6,ez 1 0),(10,ez 2 0),(11,ak EI),(13,ez 3 0),(14,ak ah)]
def Uw:List Nn:=[.hole ah,.hole .bool,.hole ah,.hole .str,.hole ah,.hN,.hN,.hN,.hN,.hole ah,.hole .bool]
def WQ:List Nn:=[.hole ah,.hole .str,.hole ah,.hole ah,.hole ah,.hole (b7 5),.hole (b7 6),.hole ah,.hole ah,.hole .bool]
def aAF:List z':=[.box [.hole ah,.hole .bool,.hole ah,.hole .str,.hole ah,.arr 3,.arr 2,.arr 4],.box Uu,.arr (.nm 7),.arr (.nm 7),.arr (.nm 8)]
def aev:List z':=[.box [.hole ah,.hole .bool,.hole ah,.hole .str,.hole ah,.arr 2,.arr 3,.arr 4],.box Uu,.arr (.nm 7),.arr (.nm 7),.arr (.nm 8)]
def aq4:List z':=[.box alS,.gone,.l' 4,.box Uu,.box [.hole ah,.hole .bool,.hole ah,.hole .str,.hole ah,.hN,.arr 6,.hN],.arr ah,.arr (.nm 7)]
def alN:List z':=[.box alS,.gone,.l' 4,.box Uu,.box [.hole ah,.hole .bool,.hole ah,.hole .str,.hole ah,.arr 6,.hN,.hN],.arr ah,.arr (.nm 7)]
def aAq:List z':=[.box [.hole (b7 4),.hole (b7 4),.arr 7,.hole gJ],.gone,.l' 4,.l' 7,.l' 4,.box Uu,.box [.hole ah,.hole .bool,.hole ah,.hole .str,.hole ah,.hN,.arr 8,.hN],.arr ah,.arr (.nm 7)]
def aCy:eI:=⟨55,[ak ah],[],[ah],ak .bool,[],[.bool],[]⟩
def aCP:eI:=⟨94,[ak ah],[],[ah],ak .bool,[],[.bool],[]⟩
def av6:h7:=⟨0,⟨[(1,ak ah),(2,ez 0 0),(6,ak ah)],[.l' 4]⟩,[],[],[ah,ah,.nm 4],[⟨.ret,⟨[(4,ak ah),(5,ak .bool)],[]⟩,[],[ah,.bool]⟩,PD 0],[]⟩
def aCJ:eI:=⟨78,[.row 4,ak ah],[],[.nm 4,ah],.e2 [ak ah,ak .bool],[],[ah,.bool],[av6]⟩
def av4:h7:=⟨0,⟨[(1,ak ah),(2,ez 0 0),(6,ak ah)],[.l' 4]⟩,[],[],[ah,ah,.nm 4],[⟨.ret,⟨[(4,ak ah),(5,ak .bool)],[]⟩,[],[ah,.bool]⟩,PD 0],[]⟩
def aCI:eI:=⟨69,[.row 4,ak ah],[],[.nm 4,ah],.e2 [ak ah,ak .bool],[],[ah,.bool],[av4]⟩
def aBv:eI:=⟨108,[ak .bool,ak .bool],[],[.bool,.bool],ak ah,[],[ah],[]⟩
def aCL:eI:=⟨84,[ak ah],[],[ah],ak (.int .u64),[],[.int .u64],[]⟩
def aCK:eI:=⟨80,[.row 7,.row 7],[],[.nm 7,.nm 7],ak ah,[],[ah],[]⟩
def avV:eI:=⟨33,[ak ah],[],[ah],.row 7,[],[.nm 7],[]⟩
def avU:eI:=⟨32,[ak ah],[],[ah],.row 6,[],[.nm 6],[]⟩
def avW:eI:=⟨34,[ak (b7 6)],[],[b7 6],.row 9,[],[.nm 9],[]⟩
def avX:eI:=⟨35,[ak ah,ak ah],[],[ah,ah],.row 7,[],[.nm 7],[]⟩
def awn:h7:=⟨0,⟨[(0,ak (b7 5)),(1,ak (b7 5)),(12,ak ah),(13,ak ah)],[]⟩,[],[],[b7 5,b7 5,ah,ah],[K9 4 .bool,PD 0],[]⟩
def avL:eI:=⟨186,[ak (b7 5),ak (b7 5)],[],[b7 5,b7 5],ak .bool,[],[.bool],[awn]⟩
def avZ:h7:=⟨0,⟨[(0,ak (b7 8)),(1,ak (b7 8)),(12,ak ah),(13,ak ah)],[]⟩,[],[],[b7 8,b7 8,ah,ah],[K9 4 .bool,PD 0],[]⟩
def avY:eI:=⟨36,[ak (b7 8),ak (b7 8)],[],[b7 8,b7 8],ak .bool,[],[.bool],[avZ]⟩
def afZ:h7:=⟨0,⟨[(1,ak (b7 7)),(2,.c (.fn 189 [])),(15,ak (b7 7)),(16,ak ah),(17,ak ah)],[]⟩,[],[],[b7 7,b7 7,ah,ah],[K9 6 .bool,PD 0],[]⟩
def akm:eI:=⟨82,[ak (b7 7),ak (b7 7),.c (.fn 189 [])],[],[b7 7,b7 7],ak .bool,[],[.bool],[afZ]⟩
def agD:eI:=⟨189,[.row 7,.row 7],[],[.nm 7,.nm 7],ak .bool,[],[.bool],[]⟩
def avN:eI:=⟨188,[.row 6,.row 6],[],[.nm 6,.nm 6],ak .bool,[],[.bool],[]⟩
def awo:h7:=⟨0,⟨[(1,ak (b7 6)),(2,.c (.fn 188 [])),(15,ak (b7 6)),(16,ak ah),(17,ak ah)],[]⟩,[],[],[b7 6,b7 6,ah,ah],[K9 6 .bool,PD 0],[]⟩
def avM:eI:=⟨187,[ak (b7 6),ak (b7 6),.c (.fn 188 [])],[],[b7 6,b7 6],ak .bool,[],[.bool],[awo]⟩
def avB:eI:=⟨155,[.row 4,.row 4],[],[.nm 4,.nm 4],ak .bool,[],[.bool],[]⟩
def avH:eI:=⟨182,[ak (.int .u8)],[],[.int .u8],ak .bool,[],[.bool],[]⟩
def avI:eI:=⟨183,[ak (.int .u8)],[],[.int .u8],ak .bool,[],[.bool],[]⟩
def awp:h7:=⟨0,⟨[(0,ak .str),(18,ak ah),(19,ak ah)],[]⟩,[],[],[.str,ah,ah],[K9 2 .bool,PD 0],[]⟩
def avy:eI:=⟨152,[ak .str],[],[.str],ak .bool,[],[.bool],[awp]⟩
def awq:h7:=⟨0,⟨[(0,ak gJ),(1,ak EI),(5,.c (.mp 0)),(9,ak gJ),(10,ak ah),(11,ak ah)],[.set]⟩,[],[],[gJ,EI,gJ,ah,ah,EI],[K9 4 .bool,⟨.exit 0,⟨[(0,ak gJ)],[]⟩,[],[gJ]⟩],[]⟩
def avJ:eI:=⟨184,[ak gJ,ak EI],[],[gJ,EI],ak .bool,[],[.bool],[awq]⟩
def awr:h7:=⟨0,⟨[(0,ak (b7 5)),(3,.c (.arr 0)),(4,.c (.arr 1)),(7,ak (b7 5)),(8,ak ah),(9,ak ah)],[.arr ah,.arr .str]⟩,[(.slot 3,ah),(.slot 4,.str)],[(.slot 3,ah),(.slot 4,.str)],[b7 5,b7 5,ah,ah,gJ,EI],[⟨.exit 0,⟨[(0,ak (b7 5)),(3,.c (.arr 0)),(4,.c (.arr 1))],[.arr ah,.arr .str]⟩,[],[b7 5,gJ,EI]⟩],[]⟩
def avz:eI:=⟨153,[ak (b7 5)],[],[b7 5],ak .bool,[],[.bool],[awr]⟩
def avK:eI:=⟨185,[.row 7],[],[.nm 7],ak .bool,[],[.bool],[]⟩
def aws:h7:=⟨0,⟨[(1,ez 0 0),(3,.c (.arr 1)),(4,.c (.arr 2)),(8,ak (b7 6)),(9,ak ah),(10,ak ah)],[.l' 4,.arr ah,.arr .str]⟩,[(.slot 3,ah),(.slot 4,.str)],[(.slot 3,ah),(.slot 4,.str)],[b7 6,ah,ah,.nm 4,gJ,EI],[K9 2 .bool,⟨.exit 0,⟨[(1,ez 0 0),(3,.c (.arr 1)),(4,.c (.arr 2))],[.l' 4,.arr ah,.arr .str]⟩,[],[.nm 4,gJ,EI]⟩],[]⟩
def avA:eI:=⟨154,[.row 4],[],[.nm 4],ak .bool,[],[.bool],[aws]⟩
def avt:eI:=⟨115,[.row 4],[],[.nm 4],ak .bool,[],[.bool],[]⟩
def awt:h7:=⟨0,⟨[(1,ez 0 0),(3,.c (.arr 1)),(7,ak (b7 6)),(8,ak ah),(9,ak ah)],[.l' 4,.arr ah]⟩,[(.slot 3,ah)],[(.slot 3,ah)],[b7 6,ah,ah,.nm 4,gJ],[⟨.exit 0,⟨[(1,ez 0 0),(3,.c (.arr 1))],[.l' 4,.arr ah]⟩,[],[.nm 4,gJ]⟩],[]⟩
def avu:eI:=⟨116,[.row 4],[],[.nm 4],ak gJ,[],[gJ],[awt]⟩
def awy:h7:=⟨0,⟨[(1,ez 0 0),(3,.c (.mp 1)),(5,ez 2 0),(14,ak (b7 4)),(15,ak ah),(16,ak ah),(38,ak gJ),(39,ak ah),(40,ak ah)],[pr (b7 4),.set,.box WQ]⟩,[],[],[b7 4,ah,ah,gJ,ah,ah,b7 4,EI,ah,.str,ah,ah,ah,b7 5,b7 6,ah,ah,.bool],[K9 2 ah,⟨.exit 2,⟨[(1,ez 0 0),(3,.c (.mp 1)),(5,ez 2 0),(14,ak (b7 4)),(15,ak ah),(16,ak ah)],[pr (b7 4),.set,.box WQ]⟩,[],[b7 4,ah,ah,b7 4,EI,ah,.str,ah,ah,ah,b7 5,b7 6,ah,ah,.bool]⟩],[]⟩
def av8:h7:=⟨0,⟨[(1,ez 0 0),(3,.c (.mp 1)),(14,ak (b7 4)),(15,ak ah),(16,ak ah)],[pr (b7 4),.set]⟩,[],[],[b7 4,ah,ah,b7 4,EI],[K9 2 ah,PD 0],[awy]⟩
def av7:eI:=⟨88,[.row 9],[],[.nm 9],ak ah,[],[ah],[av8]⟩
def aCz:eI:=⟨61,[.row 9,ak ah],[],[.nm 9,ah],ak ah,[],[ah],[]⟩
def aB4:eI:=⟨171,[.row 7],[],[.nm 7],.row 7,[],[.nm 7],[]⟩
def aBI:eI:=⟨139,[.row 7],[],[.nm 7],ak .bool,[],[.bool],[]⟩
def avr:eI:=⟨100,[.row 5,ez 0 0],[pr ah],[.nm 5,ah],ak .bool,[pr ah],[.bool,ah],[]⟩
def awa:h7:=⟨0,⟨[(0,ak (b7 5)),(1,.c (.fn 100 [0])),(7,ak ah),(8,ak ah)],[pr ah]⟩,[],[],[b7 5,ah,ah,ah],[⟨.ret,⟨[(4,ak ah)],[pr ah]⟩,[],[ah,ah]⟩,⟨.exit 0,⟨[],[pr ah]⟩,[],[ah]⟩],[]⟩
def av':eI:=⟨99,[ak (b7 5),.c (.fn 100 [0])],[pr ah],[b7 5,ah],ak ah,[pr ah],[ah,ah],[awa]⟩
def av3:eI:=⟨64,[.row 4,ak ah],[],[.nm 4,ah],.e2 [ak ah,ak .bool],[],[ah,.bool],[]⟩
def aBJ:eI:=⟨140,[ak ah],[],[ah],ak .bool,[],[.bool],[]⟩
def avx:eI:=⟨144,[.row 6,ez 0 0],[pr ah],[.nm 6,ah],ak .bool,[pr ah],[.bool,ah],[]⟩
def awu:h7:=⟨0,⟨[(0,ak (b7 6)),(1,.c (.fn 144 [0])),(7,ak ah),(8,ak ah)],[pr ah]⟩,[],[],[b7 6,ah,ah,ah],[⟨.ret,⟨[(4,ak ah)],[pr ah]⟩,[],[ah,ah]⟩,⟨.exit 0,⟨[],[pr ah]⟩,[],[ah]⟩],[]⟩
def avw:eI:=⟨143,[ak (b7 6),.c (.fn 144 [0])],[pr ah],[b7 6,ah],ak ah,[pr ah],[ah,ah],[awu]⟩
def avs:eI:=⟨101,[.row 4,ak ah],[],[.nm 4,ah],.e2 [ak ah,ak .bool],[],[ah,.bool],[]⟩
def aB6:eI:=⟨173,[.row 7,ez 0 0,ez 1 0,ez 2 0],[pr (b7 4),pr ah,pr .bool],[.nm 7,b7 4,ah,.bool],ak .bool,[pr (b7 4),pr ah,pr .bool],[.bool,b7 4,ah,.bool],[]⟩
def aJz:h7:=⟨0,⟨[(0,ak (b7 7)),(1,.c (.fn 173 [0,1,2])),(7,ak ah),(8,ak ah)],[pr (b7 4),pr ah,pr .bool]⟩,[],[],[b7 7,ah,ah,b7 4,ah,.bool],[⟨.ret,⟨[(4,ak ah)],[pr (b7 4),pr ah,pr .bool]⟩,[],[ah,b7 4,ah,.bool]⟩,⟨.exit 0,⟨[],[pr (b7 4),pr ah,pr .bool]⟩,[],[b7 4,ah,.bool]⟩],[]⟩
def aCd:eI:=⟨194,[ak (b7 7),.c (.fn 173 [0,1,2])],[pr (b7 4),pr ah,pr .bool],[b7 7,b7 4,ah,.bool],ak ah,[pr (b7 4),pr ah,pr .bool],[ah,b7 4,ah,.bool],[aJz]⟩
def aB5:eI:=⟨172,[ak (b7 7),.c (.fn 173 [0,1,2])],[pr (b7 4),pr ah,pr .bool],[b7 7,b7 4,ah,.bool],ak .bool,[pr (b7 4),pr ah,pr .bool],[.bool,b7 4,ah,.bool],[]⟩
def aBK:eI:=⟨141,[.row 9,ak ah,ak (b7 7),ak .bool],[],[.nm 9,ah,b7 7,.bool],ak .bool,[],[.bool],[]⟩
def avD:eI:=⟨175,[ak ah],[],[ah],ak (.int .u64),[],[.int .u64],[]⟩
def avP:eI:=⟨195,[ak (.int .u64)],[],[.int .u64],ak .bool,[],[.bool],[]⟩
def avC:eI:=⟨174,[ak (.int .u64),ak (.int .u64)],[],[.int .u64,.int .u64],ak ah,[],[ah],[]⟩
def avQ:eI:=⟨196,[ak ah],[],[ah],ak .bool,[],[.bool],[]⟩
def avF:eI:=⟨177,[ak ah,ak ah],[],[ah,ah],ak ah,[],[ah],[]⟩
def avR:eI:=⟨197,[ak .str],[],[.str],ak .bool,[],[.bool],[]⟩
def avG:eI:=⟨178,[ak .str,ak .str],[],[.str,.str],ak ah,[],[ah],[]⟩
def awv:h7:=⟨0,⟨[(3,ak ah),(6,ak gJ),(7,ak ah),(8,ak ah)],[]⟩,[],[],[ah,gJ,ah,ah],[K9 2 ah,⟨.exit 0,⟨[(3,ak ah)],[]⟩,[],[ah]⟩],[]⟩
def avE:eI:=⟨176,[ak gJ],[],[gJ],ak ah,[],[ah],[awv]⟩
def avv:eI:=⟨142,[.row 7,.row 7],[],[.nm 7,.nm 7],ak ah,[],[ah],[]⟩
def aCR:h7:=⟨0,⟨[(3,ak .bool),(4,ez 0 0),(6,ez 1 0),(9,ez 2 0),(111,ak (b7 8)),(112,ak ah),(113,ak ah)],[pr (b7 4),.l' 7,.box WQ]⟩,[],[],[.bool,b7 8,ah,ah,b7 4,.nm 7,ah,.str,ah,ah,ah,b7 5,b7 6,ah,ah,.bool],[K9 8 .bool,⟨.exit 1,⟨aAC,[pr (b7 4),.box aAH,.box WQ]⟩,[],[.bool,b7 4,ah,.bool,ah,.str,ah,b7 7,b7 7,b7 8,ah,.str,ah,ah,ah,b7 5,b7 6,ah,ah,.bool]⟩],[]⟩
def aCS:h7:=⟨1,⟨[(3,ak .bool),(4,ez 0 0),(6,ez 1 0),(150,ak (b7 6)),(151,ak ah),(152,ak ah)],[pr (b7 4),.box aAH]⟩,[],[],[.bool,b7 6,ah,ah,b7 4,ah,.bool,ah,.str,ah,b7 7,b7 7,b7 8],[K9 8 .bool,PD 3],[]⟩
def aCT:h7:=⟨2,⟨[(3,ak .bool),(4,ez 0 0),(6,ez 1 0),(9,ez 2 0),(20,ak ah)],[pr (b7 4),.l' 7,.box WQ]⟩,[],[],[.bool,ah,b7 4,.nm 7,ah,.str,ah,ah,ah,b7 5,b7 6,ah,ah,.bool],[K9 8 .bool,⟨.exit 5,⟨aAC,[pr (b7 4),.l' 7,.box WQ]⟩,[],[.bool,b7 4,.nm 7,ah,.str,ah,ah,ah,b7 5,b7 6,ah,ah,.bool]⟩],[]⟩
def aCQ:eI:=⟨97,[.row 9,ak ah,.row 7,ak .bool],[],[.nm 9,ah,.nm 7,.bool],ak .bool,[],[.bool],[aCR,aCS,aCT]⟩
def aCA:eI:=⟨62,[.row 9,ak ah,.row 7],[],aiw,ak .bool,[],[.bool],[]⟩
def aCt:eI:=⟨37,[.row 9,ak ah,.row 7,.row 9,ak ah],[],aq',ak ah,[],[ah],[]⟩
def aCB:eI:=⟨63,[ez 0 0],abX,[b7 4,b7 4,gJ,gJ],.e2 [.row 7,ak .bool],aAu,aew,[]⟩
def aBq:eI:=⟨102,[ez 0 0,ak ah],abX,[ah,b7 4,b7 4,gJ,gJ],.e2 [.row 7,ak .bool],aAu,aew,[]⟩
def aJA:h7:=⟨0,⟨aAw,aev⟩,[],[],alQ,[⟨.exit 0,⟨alX,aev⟩,[],alR⟩],[]⟩
def aJB:h7:=⟨1,⟨aAx,aAF⟩,[],[],alQ,[⟨.exit 2,⟨alX,aev⟩,[],alR⟩],[]⟩
def aBr:eI:=⟨103,[.row 7],[],[.nm 7],.row 7,[],[.nm 7],[aJA,aJB]⟩
def aBs:eI:=⟨104,[ez 0 0,ak ah,ak ah,.row 7,ak ah],abX,[ah,ah,.nm 7,ah,b7 4,b7 4,gJ,gJ],.e2 [.row 7,ak .bool],aet,aew,[]⟩
def af0:h7:=⟨0,⟨[(1,ak (b7 7)),(2,.c (.fn 45 [])),(15,ak (b7 7)),(16,ak ah),(17,ak ah)],[]⟩,[],[],[b7 7,b7 7,ah,ah],[K9 6 .bool,PD 0],[]⟩
def akn:eI:=⟨82,[ak (b7 7),ak (b7 7),.c (.fn 45 [])],[],[b7 7,b7 7],ak .bool,[],[.bool],[af0]⟩
def agE:eI:=⟨45,[.row 7,.row 7],[],[.nm 7,.nm 7],ak .bool,[],[.bool],[]⟩
def aBt:eI:=⟨105,[.row 6,.row 7],[],[.nm 6,.nm 7],ak .bool,[],[.bool],[]⟩
def aJC:h7:=⟨0,⟨aq5,alZ⟩,[],[],aq8,[⟨.exit 0,⟨aq5,alZ⟩,[],aq8⟩],[]⟩
def aBM:eI:=⟨148,[ak (.int .u64)],[],[.int .u64],ak .str,[],[.str],[aJC]⟩
def aCe:eI:=⟨198,[ak .str],[],[.str],ak .str,[],[.str],[]⟩
def aB7:eI:=⟨179,[ak ah,ak .bool,ak .str],[],[ah,.bool,.str],ak .str,[],[.str],[]⟩
def aBL:eI:=⟨147,[ak ah,ak .bool,ak .str],[],[ah,.bool,.str],.e2 [ak .str,ak ah],[],[.str,ah],[]⟩
def aBN:eI:=⟨149,[ak .str],[],[.str],ak .str,[],[.str],[]⟩
def aCf:eI:=⟨199,[.row 9,ak ah],[],[.nm 9,ah],ak ah,[],[ah],[]⟩
def aCg:eI:=⟨200,[.row 9,ak ah,.row 7],[],aiw,ak .bool,[],[.bool],[]⟩
def aB8:eI:=⟨180,[.row 9,ak ah,.row 7],[],aiw,ak ah,[],[ah],[]⟩
def aJD:h7:=⟨0,⟨aq5,alZ⟩,[],[],aq8,[⟨.exit 0,⟨[(3,ez 0 0),(4,ak ah)],alZ⟩,[],[ah,.slice (.int .u8)]⟩],[]⟩
def aCh:eI:=⟨201,[ak (.int .u64)],[],[.int .u64],ak .str,[],[.str],[aJD]⟩
def aCn:eI:=⟨207,[.row 6,.row 7],[],[.nm 6,.nm 7],ak .bool,[],[.bool],[]⟩
def aCk:eI:=⟨204,[ez 0 0,ak .str],[.hZ 236 ((.lJ 1)),.buf 5],[.str,.str],.e2 [ak ah,.c (.dead)],[.hZ 236 ((.lJ 2)),.gone,.buf 5],[ah,.str],[]⟩
def aCl:eI:=⟨205,[ez 0 0],[.hZ 236 ((.lJ 1)),.buf 5],[.str],ak .str,[.hZ 236 ((.lJ 1)),.gone],[.str],[]⟩
def aJE:h7:=⟨0,⟨[(0,ez 0 0),(3,ak ah),(6,ez 1 0),(9,.c (.arr 2)),(18,ak (b7 6)),(19,ak ah),(20,ak ah)],aAA⟩,[(.slot 9,.nm 10)],[(.slot 9,.nm 10)],[ah,b7 6,ah,ah,b7 4,ah,.nm 7,b7 10],[⟨.exit 0,⟨[(6,ez 1 0),(9,.c (.arr 2))],aAA⟩,[],[b7 4,ah,.nm 7,b7 10]⟩],[]⟩
def aJF:h7:=⟨1,⟨[(9,.c (.arr 1)),(57,ak (b7 8)),(58,ak ah),(59,ak ah)],aAD⟩,[],[],[b7 8,ah,ah,b7 4,ah,b7 10],[⟨.exit 2,⟨[(9,.c (.arr 1))],aAD⟩,[],[b7 4,ah,b7 10]⟩],[]⟩
def aJG:h7:=⟨2,⟨[(14,ez 1 0),(77,.c (.arr 2)),(78,ak ah),(79,ak ah)],[.box [.hole (b7 4),.hole ah],.hZ 236 ((.lJ 3)),.arr (.nm 10),.buf 5]⟩,[],[],[ah,ah,b7 4,ah,b7 10,.str],[⟨.exit 4,⟨[(14,ez 1 0)],aAy⟩,[],[b7 4,ah,.str]⟩],[]⟩
def aCi:eI:=⟨202,[ez 0 0,.row 4,.row 7,ak ah],aex,[.nm 4,.nm 7,ah,b7 4,ah],ak .str,aex,[.str,b7 4,ah],[aJE,aJF,aJG]⟩
def aCj:eI:=⟨203,[ez 0 0,.row 4,.row 7,ak ah],aex,[.nm 4,.nm 7,ah,b7 4,ah],ak .str,aex,[.str,b7 4,ah],[]⟩
def aJH:h7:=⟨0,⟨[(0,ez 0 0),(3,ak ah),(6,ez 1 0),(9,ez 2 0),(10,ez 3 0),(84,ak (b7 7)),(85,ak ah),(86,ak ah)],[.box [.hole (b7 4),.hole ah],.l' 7,.l' 4,.hZ 236 ((.lJ 4)),.buf 5]⟩,[],[],[ah,b7 7,ah,ah,b7 4,ah,.nm 7,.nm 4,.str],[⟨.exit 1,⟨[(10,ez 1 0)],aAy⟩,[],[b7 4,ah,.str]⟩],[]⟩
def aB9:eI:=⟨181,[ez 0 0,ak ah,.row 7,ak ah],aex,[ah,.nm 7,ah,b7 4,ah],ak .str,aex,[.str,b7 4,ah],[aJH]⟩
def aBP:eI:=⟨150,[.row 9,ak ah,.row 7],[],aiw,.e2 [ak .str,ak ah],[],[.str,ah],[]⟩
def aJI:h7:=⟨0,⟨[(3,ez 0 0),(5,ez 1 0),(8,ak .str),(36,ak (b7 6)),(37,ak ah),(38,ak ah)],[pr (b7 4),.l' 7]⟩,[],[],[.str,b7 6,ah,ah,b7 4,.nm 7],[⟨.exit 1,⟨[(8,ak .str)],[]⟩,[],[.str]⟩],[]⟩
def aJJ:h7:=⟨1,⟨[(3,ez 0 0),(7,ez 1 0),(8,ak .str),(101,ak (b7 7)),(102,ak ah),(103,ak ah)],[pr (b7 4),.l' 4]⟩,[],[],[.str,b7 7,ah,ah,b7 4,.nm 4],[⟨.exit 3,⟨[(8,ak .str)],[]⟩,[],[.str]⟩],[]⟩
def aJK:h7:=⟨2,⟨[(3,ez 0 0),(5,ez 1 0),(7,ez 2 0),(8,ak .str),(118,ak (b7 7)),(119,ak ah),(120,ak ah)],[pr (b7 4),.l' 7,.l' 4]⟩,[],[],[.str,b7 7,ah,ah,b7 4,.nm 7,.nm 4],[⟨.exit 5,⟨[(8,ak .str)],[]⟩,[],[.str]⟩],[]⟩
def aBu:eI:=⟨106,[.row 9,ak ah,.row 7],[],aiw,ak .str,[],[.str],[aJI,aJJ,aJK]⟩
def aCD:h7:=⟨0,⟨[(0,ez 0 0),(5,ez 2 0),(6,ez 3 0),(7,ez 4 0),(8,ez 5 0),(10,ez 6 0),(25,ak (b7 6)),(26,ak ah),(27,ak ah)],aAq⟩,[(.via 10 6,.nm 7)],[(.via 10 6,.nm 7)],[b7 6,ah,ah,b7 4,b7 4,gJ,.nm 4,.nm 7,.nm 4,ah,.bool,ah,.str,ah,ah,.bool,ah,.str,ah,gJ,b7 7],[⟨.ret,⟨[(8,ez 2 0),(9,ak .bool)],[.box [.hole (b7 4),.hole (b7 4),.arr 3,.hole gJ],.gone,.l' 7,.arr ah]⟩,[],[.bool,b7 4,b7 4,gJ,.nm 7,gJ]⟩,⟨.exit 0,⟨[(0,ez 0 0),(5,ez 2 0),(6,ez 3 0),(7,ez 4 0),(8,ez 5 0),(10,ez 6 0)],aAq⟩,[],[b7 4,b7 4,gJ,.nm 4,.nm 7,.nm 4,ah,.bool,ah,.str,ah,ah,.bool,ah,.str,ah,gJ,b7 7]⟩],[]⟩
def aCE:h7:=⟨1,⟨[(0,ez 0 0),(6,ez 2 0),(7,ez 3 0),(8,ez 4 0),(10,ez 5 0),(115,ak (b7 6)),(116,ak ah),(117,ak ah)],[.box [.hole (b7 4),.hole (b7 4),.arr 6,.hole gJ],.gone,.l' 7,.l' 4,.box Uu,.box [.hole ah,.hole .bool,.hole ah,.hole .str,.hole ah,.hN,.arr 7,.arr 8],.arr ah,.arr (.nm 7),.arr (.nm 8)]⟩,[(.via 10 7,.nm 8)],[(.via 10 7,.nm 8)],[b7 6,ah,ah,b7 4,b7 4,gJ,.nm 7,.nm 4,ah,.bool,ah,.str,ah,ah,.bool,ah,.str,ah,gJ,b7 7,b7 8],[⟨.ret,⟨[(8,ez 2 0),(9,ak .bool)],[.box [.hole (b7 4),.hole (b7 4),.arr 3,.arr 4],.gone,.l' 7,.arr ah,.arr ah]⟩,[],[.bool,b7 4,b7 4,.nm 7,gJ,gJ]⟩,⟨.exit 2,⟨[(8,ez 2 0),(10,ez 3 0)],[.box [.hole (b7 4),.hole (b7 4),.arr 4,.hole gJ],.gone,.box Uu,.box aAt,.arr ah,.arr (.nm 7),.arr (.nm 8)]⟩,[],[b7 4,b7 4,gJ,ah,.bool,ah,.str,ah,ah,.bool,ah,.str,ah,gJ,b7 7,b7 8]⟩],[]⟩
def aCC:eI:=⟨65,[ez 0 0,.row 4,.row 7,.row 4],abX,aAE,.e2 [.row 7,ak .bool],aet,aew,[aCD,aCE]⟩
def aCF:eI:=⟨66,[ez 0 0,.row 4,.row 7,.row 4],abX,aAE,.e2 [.row 7,ak .bool],aet,aew,[]⟩
def aCH:h7:=⟨0,⟨[(0,ez 0 0),(1,ak ah),(3,ak ah),(10,.c (.arr 2)),(15,ak (b7 7)),(16,ak ah),(17,ak ah)],aAr⟩,[(.slot 10,.nm 7)],[(.slot 10,.nm 7)],[ah,ah,b7 7,ah,ah,b7 4,b7 4,gJ,b7 7,gJ],[⟨.ret,⟨[(8,.c (.hN)),(9,ak .bool)],aet⟩,[],[.bool,b7 4,b7 4,gJ,gJ]⟩,⟨.exit 0,⟨[(10,.c (.arr 2))],aAr⟩,[],[b7 4,b7 4,gJ,b7 7,gJ]⟩],[]⟩
def aCG:eI:=⟨67,[ez 0 0,ak ah,ak (b7 7),ak ah],abX,[ah,b7 7,ah,b7 4,b7 4,gJ,gJ],.e2 [ak (b7 7),ak .bool],aet,[b7 7,.bool,b7 4,b7 4,gJ,gJ],[aCH]⟩
def aCu:eI:=⟨38,[ez 0 0,ak ah,.row 7,ak ah],abX,[ah,.nm 7,ah,b7 4,b7 4,gJ,gJ],.e2 [.row 7,ak .bool],aet,aew,[]⟩
def aot:eI:=⟨13,[.row 9,ak ah,.row 7,.row 9,ak ah],[],aq',.e2 [.row 7,ak ah],[],[.nm 7,ah],[]⟩
def aow:eI:=⟨17,[.row 9,ak ah,.row 7,.row 9,ak ah],[],aq',.e2 [ak gJ,ak ah],[],[gJ,ah],[]⟩
def avS:h7:=⟨0,⟨[(0,ak gJ),(1,ak gJ),(12,ak ah),(13,ak ah)],[]⟩,[],[],[gJ,gJ,ah,ah],[K9 4 .bool,PD 0],[]⟩
def avO:eI:=⟨19,[ak gJ,ak gJ],[],[gJ,gJ],ak .bool,[],[.bool],[avS]⟩
def Wg:eI:=⟨12,[],[],[],ak .bool,[],[.bool],[]⟩
def agJ:h7:=⟨0,⟨[(0,ak (b7 7)),(1,ak (b7 7)),(5,ak ah)],[]⟩,[],[],[b7 7,b7 7,ah],[K9 4 .bool,PD 0],[]⟩
def aox:eI:=⟨74,[ak (b7 7),ak (b7 7)],[],[b7 7,b7 7],ak .bool,[],[.bool],[agJ]⟩
def av0:h7:=⟨0,⟨[(2,ez 0 0),(3,ez 1 0),(5,ak ah)],[.l' 7,.l' 7]⟩,[],[],[ah,.nm 7,.nm 7],[K9 4 .bool,⟨.exit 0,⟨[(2,ez 0 0),(3,ez 1 0)],[.l' 7,.l' 7]⟩,[],[.nm 7,.nm 7]⟩],[]⟩
def akl:eI:=⟨40,[.row 7,.row 7],[],[.nm 7,.nm 7],ak .bool,[],[.bool],[av0]⟩
def aBO:eI:=⟨15,[.row 7,.row 7],[],[.nm 7,.nm 7],ak .bool,[],[.bool],[]⟩
def aba:eI:=⟨5,[.row 0],[],[.nm 0],ak .bool,[],[.bool],[]⟩
def agG:h7:=⟨0,⟨aq7,[.l' 7]⟩,[],[],[ah,ah,.nm 7],[⟨.exit 0,⟨arb,[.l' 7]⟩,[],[ah,.nm 7]⟩],[]⟩
def agH:h7:=⟨1,⟨[(1,ez 0 0),(3,ak ah),(5,ak ah)],[.l' 7]⟩,[],[],[ah,ah,.nm 7],[⟨.exit 2,⟨arb,[.l' 7]⟩,[],[ah,.nm 7]⟩],[]⟩
def av1:h7:=⟨2,⟨[(1,ez 0 0),(3,ak ah),(6,ak ah)],[.l' 7]⟩,[],[],[ah,ah,.nm 7],[⟨.exit 4,⟨[(3,ak ah)],[]⟩,[],[ah]⟩],[]⟩
def agF:eI:=⟨46,[.row 7],[],[.nm 7],ak ah,[],[ah],[agG,agH,av1]⟩
def awz:h7:=⟨0,⟨[(1,ez 0 0),(3,ak ah),(4,ak ah),(5,ez 1 0),(6,ak ah)],[pr (b7 4),.l' 4]⟩,[],[],[ah,ah,ah,b7 4,.nm 4],[⟨.exit 2,⟨aq7,[pr (b7 4)]⟩,[],[ah,ah,b7 4]⟩],[]⟩
def avT:h7:=⟨0,⟨aq7,[pr (b7 4)]⟩,[],[],[ah,ah,b7 4],[⟨.exit 0,⟨[(3,ak ah)],[]⟩,[],[ah]⟩],[awz]⟩
def aCo:eI:=⟨23,[.row 9],[],[.nm 9],ak .bool,[],[.bool],[avT]⟩
def aBE:eI:=⟨134,[.row 4],[],[.nm 4],.row 4,[],[.nm 4],[]⟩
def aB0:eI:=⟨167,[.row 6,.row 6],[],[.nm 6,.nm 6],ak .bool,[],[.bool],[]⟩
def aww:h7:=⟨0,⟨[(2,ez 0 0),(3,ez 1 0),(5,ak ah)],[.l' 4,.l' 4]⟩,[],[],[ah,.nm 4,.nm 4],[K9 4 .bool,⟨.exit 0,⟨[(2,ez 0 0),(3,ez 1 0)],[.l' 4,.l' 4]⟩,[],[.nm 4,.nm 4]⟩],[]⟩
def axJ:h7:=⟨1,⟨[(2,ez 0 0),(3,ez 1 0),(6,ak ah)],[.l' 4,.l' 4]⟩,[],[],[ah,.nm 4,.nm 4],[K9 4 .bool,PD 2],[]⟩
def aBD:eI:=⟨133,[.row 4,.row 4],[],[.nm 4,.nm 4],ak .bool,[],[.bool],[aww,axJ]⟩
def aB1:eI:=⟨168,[ak (.int .u8)],[],[.int .u8],ak .bool,[],[.bool],[]⟩
def aB2:eI:=⟨169,[ak (.int .u8)],[],[.int .u8],ak .bool,[],[.bool],[]⟩
def axK:h7:=⟨0,⟨[(0,ak .str),(3,ak ah)],[]⟩,[],[],[.str,ah],[K9 2 .bool,PD 0],[]⟩
def aBF:eI:=⟨135,[ak .str],[],[.str],ak .bool,[],[.bool],[axK]⟩
def aB3:eI:=⟨170,[ak ah,ak ah],[],[ah,ah],ak .bool,[],[.bool],[]⟩
def auu:h7:=⟨0,⟨[(0,ak (b7 5)),(4,ak ah),(5,ak ah)],[]⟩,[],[],[b7 5,ah,ah],[K9 2 .bool,⟨.exit 2,⟨[(0,ak (b7 5)),(4,ak ah)],[]⟩,[],[b7 5,ah]⟩],[]⟩
def axL:h7:=⟨0,⟨[(0,ak (b7 5)),(3,ak ah),(4,ak ah)],[]⟩,[],[],[b7 5,ah,ah],[K9 2 .bool,⟨.exit 0,⟨[(0,ak (b7 5))],[]⟩,[],[b7 5]⟩],[auu]⟩
def aBG:eI:=⟨136,[ak (b7 5)],[],[b7 5],ak .bool,[],[.bool],[axL]⟩
def atP:h7:=⟨0,⟨[(0,ak (b7 6)),(1,ak .bool),(6,ak ah),(7,ez 0 0),(8,ak ah)],[.l' 6]⟩,[],[],[b7 6,.bool,ah,ah,.nm 6],[K9 4 .bool,⟨.exit 2,⟨[(0,ak (b7 6)),(1,ak .bool),(6,ak ah),(7,ez 0 0)],[.l' 6]⟩,[],[b7 6,.bool,ah,.nm 6]⟩],[]⟩
def axM:h7:=⟨0,⟨[(0,ak (b7 6)),(1,ak .bool),(5,ak ah),(6,ak ah)],[]⟩,[],[],[b7 6,.bool,ah,ah],[K9 4 .bool,⟨.exit 0,⟨[(0,ak (b7 6)),(1,ak .bool)],[]⟩,[],[b7 6,.bool]⟩],[atP]⟩
def aBH:eI:=⟨137,[ak (b7 6),ak .bool],[],[b7 6,.bool],ak .bool,[],[.bool],[axM]⟩
def aCN:eI:=⟨92,[.row 4],[],[.nm 4],ak .bool,[],[.bool],[]⟩
def av9:h7:=⟨0,⟨[(1,ez 0 0),(3,.c (.arr 1)),(4,ak ah)],[.l' 4,.arr ah]⟩,[(.slot 3,ah)],[(.slot 3,ah)],[ah,.nm 4,gJ],[⟨.exit 0,⟨[(1,ez 0 0),(3,.c (.arr 1))],[.l' 4,.arr ah]⟩,[],[.nm 4,gJ]⟩],[]⟩
def aCO:eI:=⟨93,[.row 4],[],[.nm 4],ak gJ,[],[gJ],[av9]⟩
def awA:h7:=⟨0,⟨[(1,ez 0 0),(3,ak ah),(4,ez 1 0),(5,ak ah)],[pr (b7 4),.box WQ]⟩,[],[],[ah,ah,b7 4,ah,.str,ah,ah,ah,b7 5,b7 6,ah,ah,.bool],[K9 2 ah,⟨.exit 2,⟨[(1,ez 0 0),(3,ak ah),(4,ez 1 0)],[pr (b7 4),.box WQ]⟩,[],aAB⟩],[]⟩
def awB:h7:=⟨1,⟨[(1,ez 0 0),(3,ak ah),(4,ez 1 0),(6,ak gJ),(7,ak ah)],[pr (b7 4),.box WQ]⟩,[],[],[ah,gJ,ah,b7 4,ah,.str,ah,ah,ah,b7 5,b7 6,ah,ah,.bool],[K9 2 ah,⟨.exit 4,⟨[(1,ez 0 0),(3,ak ah),(4,ez 1 0)],[pr (b7 4),.box WQ]⟩,[],aAB⟩],[]⟩
def av2:h7:=⟨0,⟨arb,[pr (b7 4)]⟩,[],[],[ah,b7 4],[K9 2 ah,PD 0],[awA,awB]⟩
def aCx:eI:=⟨53,[.row 9],[],[.nm 9],ak ah,[],[ah],[av2]⟩
def aCr:eI:=⟨28,[.row 9,ak ah],[],[.nm 9,ah],ak ah,[],[ah],[]⟩
def e8:eI:=⟨8,[.row 11],[],[.nm 11],ak .bool,[],[.bool],[]⟩
def zt:eI:=⟨3,[.row 12],[],[.nm 12],ak .bool,[],[.bool],[]⟩
def T0:eI:=⟨4,[.row 12],[],[.nm 12],ak .bool,[],[.bool],[]⟩
def av5:eI:=⟨7,[.row 12,.row 7],[],[.nm 12,.nm 7],ak .bool,[],[.bool],[]⟩
def agI:eI:=⟨6,[.row 12,ak (.int .u8)],[],[.nm 12,.int .u8],ak .bool,[],[.bool],[]⟩
def aBw:eI:=⟨117,[ez 0 0,ak ah],abY,[ah,b7 4,gJ,ah,gJ],.e2 [.row 7,ak .bool],[.box [.hole (b7 4),.arr 2,.arr 3,.hole ah],.gone,.arr ah,.arr ah],[.nm 7,.bool,b7 4,ah,gJ,gJ],[]⟩
def axN:h7:=⟨0,⟨[(0,ak .str),(4,ak (.int .u64)),(17,ak ah),(18,ak ah)],[]⟩,[],[],[.str,.int .u64,ah,ah],[⟨.exit 0,⟨[(4,ak (.int .u64))],[]⟩,[],[.int .u64]⟩],[]⟩
def aBx:eI:=⟨118,[ak .str],[],[.str],.e2 [ak (.int .u64),ak ah],[],[.int .u64,ah],[axN]⟩
def aBy:eI:=⟨119,[ak (.int .u64)],[],[.int .u64],ak ah,[],[ah],[]⟩
def Zc:eI:=⟨120,[ez 0 0,ak ah,ak ah,ak .str],abY,[ah,ah,.str,b7 4,gJ,ah,gJ],.e2 [.row 7,ak .bool],aeu,aey,[]⟩
def axO:h7:=⟨0,⟨[(0,ak .str),(5,ak (.int .u64)),(10,ak ah),(11,ak ah)],[]⟩,[],[],[.str,.int .u64,ah,ah],[⟨.ret,⟨[(2,ak (.int .u64)),(3,ak ah),(4,ak ah)],[]⟩,[],al0⟩,PD 0],[]⟩
def aCm:eI:=⟨206,[ak .str],[],[.str],.e2 [ak (.int .u64),ak ah,ak ah],[],al0,[axO]⟩
def aB':eI:=⟨190,[ak .str],[],[.str],.e2 [ak (.int .u64),ak .str,ak .bool],[],[.int .u64,.str,.bool],[]⟩
def aBQ:eI:=⟨156,[ak .str],[],[.str],.e2 [ak ah,ak .str,ak ah],[],[ah,.str,ah],[]⟩
def aon:eI:=⟨121,[ez 0 0,.row 4,ak .str],abY,alU,.e2 [.row 7,ak .bool],aeu,aey,[]⟩
def aCa:eI:=⟨191,[ak .str],[],[.str],.e2 [ak .str,ak .str,ak .bool],[],[.str,.str,.bool],[]⟩
def axP:h7:=⟨0,⟨[(4,.c (.arr 0)),(5,ak .str)],[.arr .str]⟩,[(.slot 4,.str)],[(.slot 4,.str)],[.str,EI],[⟨.ret,⟨alV,[]⟩,[],[ah]⟩,⟨.exit 0,⟨alY,[.arr .str]⟩,[],[EI]⟩],[]⟩
def aBR:eI:=⟨157,[ak .str],[],[.str],.e2 [ak EI,ak ah],[],[EI,ah],[axP]⟩
def afJ:h7:=⟨0,⟨[(0,ez 0 0),(4,ez 2 0),(6,ez 3 0),(10,ez 4 0),(38,ak EI),(39,ak ah),(40,ak ah)],aq4⟩,[(.via 10 6,.nm 7)],[(.via 10 6,.nm 7)],[EI,ah,ah,b7 4,gJ,ah,.nm 4,ah,.bool,ah,.str,ah,ah,.bool,ah,.str,ah,gJ,b7 7],[⟨.ret,⟨aez,alP⟩,[],alT⟩,⟨.exit 0,⟨ara,[.box aq6,.gone,.box Uu,.box [.hole ah,.hole .bool,.hole ah,.hole .str,.hole ah,.hN,.arr 5,.hN],.arr ah,.arr (.nm 7)]⟩,[],[b7 4,gJ,ah,ah,.bool,ah,.str,ah,ah,.bool,ah,.str,ah,gJ,b7 7]⟩],[]⟩
def aoo:eI:=⟨122,[ez 0 0,.row 4,ak .str],abY,alU,.e2 [.row 7,ak .bool],aeu,aey,[afJ]⟩
def afK:h7:=⟨0,⟨[(0,ez 0 0),(4,ez 2 0),(6,ez 3 0),(8,ak EI),(10,ez 4 0),(11,ak ah)],alN⟩,[(.via 10 5,.nm 7)],[(.via 10 5,.nm 7)],[EI,ah,b7 4,gJ,ah,.nm 4,ah,.bool,ah,.str,ah,ah,.bool,ah,.str,ah,gJ,b7 7],[⟨.ret,⟨aez,alP⟩,[],alT⟩,⟨.exit 0,⟨aAz,alN⟩,[],[EI,b7 4,gJ,ah,.nm 4,ah,.bool,ah,.str,ah,ah,.bool,ah,.str,ah,gJ,b7 7]⟩],[]⟩
def axQ:h7:=⟨1,⟨[(0,ez 0 0),(4,ez 2 0),(6,ez 3 0),(8,ak EI),(10,ez 4 0),(14,ak ah)],alN⟩,[],[],[EI,ah,b7 4,gJ,ah,.nm 4,ah,.bool,ah,.str,ah,ah,.bool,ah,.str,ah,gJ,b7 7],[⟨.ret,⟨aez,aAs⟩,[],[.bool,b7 4,ah,.nm 7,gJ,gJ]⟩,⟨.exit 2,⟨aAz,alN⟩,[],[EI,b7 4,gJ,ah,.nm 4,ah,.bool,ah,.str,ah,ah,.bool,ah,.str,ah,gJ,b7 7]⟩],[]⟩
def afL:h7:=⟨2,⟨[(0,ez 0 0),(4,ez 2 0),(6,ez 3 0),(8,ak EI),(10,ez 4 0),(15,ak ah)],[.box alS,.gone,.l' 4,.box Uu,.box [.hole ah,.hole .bool,.hole ah,.hole .str,.hole ah,.arr 6,.arr 7,.hN],.arr ah,.arr (.nm 7),.arr (.nm 7)]⟩,[(.via 10 6,.nm 7)],[(.via 10 6,.nm 7)],[EI,ah,b7 4,gJ,ah,.nm 4,ah,.bool,ah,.str,ah,ah,.bool,ah,.str,ah,gJ,b7 7,b7 7],[⟨.ret,⟨aez,alP⟩,[],alT⟩,⟨.exit 4,⟨ara,[.box aq6,.gone,.box Uu,.box [.hole ah,.hole .bool,.hole ah,.hole .str,.hole ah,.arr 5,.arr 6,.hN],.arr ah,.arr (.nm 7),.arr (.nm 7)]⟩,[],[b7 4,gJ,ah,ah,.bool,ah,.str,ah,ah,.bool,ah,.str,ah,gJ,b7 7,b7 7]⟩],[]⟩
def aop:eI:=⟨123,[ez 0 0,.row 4,ak .str],abY,alU,.e2 [.row 7,ak .bool],aeu,aey,[afK,axQ,afL]⟩
def axR:h7:=⟨0,⟨[(4,.c (.arr 0)),(5,ak (.int .u64)),(6,ak .str)],al1⟩,[(.slot 4,.nm 15)],[(.slot 4,.nm 15)],[.int .u64,.str,b7 15],[⟨.ret,⟨alV,[]⟩,[],[ah]⟩,⟨.exit 0,⟨alY,al1⟩,[],[b7 15]⟩],[]⟩
def aBS:eI:=⟨158,[ak .str],[],[.str],.e2 [ak (b7 15),ak ah],[],[b7 15,ah],[axR]⟩
def aBU:eI:=⟨160,[.row 15,ez 0 0],[.l' 6],[.nm 15,.nm 6],ak .bool,[.l' 6],[.bool,.nm 6],[]⟩
def axS:h7:=⟨0,⟨[(0,ak (b7 15)),(1,.c (.fn 160 [0])),(7,ak ah),(8,ak ah)],[.l' 6]⟩,[],[],[b7 15,ah,ah,.nm 6],[⟨.ret,⟨[(4,ak ah)],[.l' 6]⟩,[],[ah,.nm 6]⟩,⟨.exit 0,⟨[],[.l' 6]⟩,[],[.nm 6]⟩],[]⟩
def aBT:eI:=⟨159,[ak (b7 15),.c (.fn 160 [0])],[.l' 6],[b7 15,.nm 6],ak ah,[.l' 6],[ah,.nm 6],[axS]⟩
def afM:h7:=⟨0,⟨aAw,aev⟩,[],[],alQ,[⟨.exit 0,⟨alX,aev⟩,[],alR⟩],[]⟩
def afN:h7:=⟨1,⟨aAx,aAF⟩,[],[],alQ,[⟨.exit 2,⟨alX,aev⟩,[],alR⟩],[]⟩
def agC:eI:=⟨161,[.row 7],[],[.nm 7],.row 7,[],[.nm 7],[afM,afN]⟩
def afO:h7:=⟨0,⟨[(0,ez 0 0),(4,ez 2 0),(6,ez 3 0),(8,ak (b7 15)),(10,ez 4 0),(39,ak (b7 6)),(40,ak ah),(41,ak ah)],aq4⟩,[(.via 10 6,.nm 7)],[(.via 10 6,.nm 7)],[b7 15,b7 6,ah,ah,b7 4,gJ,ah,.nm 4,ah,.bool,ah,.str,ah,ah,.bool,ah,.str,ah,gJ,b7 7],[⟨.ret,⟨aez,alP⟩,[],alT⟩,⟨.exit 0,⟨[(0,ez 0 0),(4,ez 2 0),(6,ez 3 0),(8,ak (b7 15)),(10,ez 4 0)],aq4⟩,[],[b7 15,b7 4,gJ,ah,.nm 4,ah,.bool,ah,.str,ah,ah,.bool,ah,.str,ah,gJ,b7 7]⟩],[]⟩
def axT:h7:=⟨1,⟨[(0,ez 0 0),(4,ez 2 0),(6,ez 3 0),(10,ez 4 0),(117,ak (b7 15)),(118,ak ah),(119,ak ah)],[.box alS,.gone,.l' 4,.box Uu,.box [.hole ah,.hole .bool,.hole ah,.hole .str,.hole ah,.hN,.arr 6,.arr 7],.arr ah,.arr (.nm 7),.arr (.nm 8)]⟩,[(.via 10 7,.nm 8)],[(.via 10 7,.nm 8)],[b7 15,ah,ah,b7 4,gJ,ah,.nm 4,ah,.bool,ah,.str,ah,ah,.bool,ah,.str,ah,gJ,b7 7,b7 8],[⟨.ret,⟨aez,aAs⟩,[],[.bool,b7 4,ah,.nm 7,gJ,gJ]⟩,⟨.exit 3,⟨ara,[.box aq6,.gone,.box Uu,.box aAt,.arr ah,.arr (.nm 7),.arr (.nm 8)]⟩,[],[b7 4,gJ,ah,ah,.bool,ah,.str,ah,ah,.bool,ah,.str,ah,gJ,b7 7,b7 8]⟩],[]⟩
def aoq:eI:=⟨124,[ez 0 0,.row 4,ak .str],abY,alU,.e2 [.row 7,ak .bool],aeu,aey,[afO,axT]⟩
def ako:eI:=⟨89,[ez 0 0,ak ah,ak .str],abY,[ah,.str,b7 4,gJ,ah,gJ],.e2 [.row 7,ak .bool],aeu,aey,[]⟩
def aCv:eI:=⟨51,[.row 9,ak ah,ak .str],[],al2,.e2 [.row 7,.row 16,ak ah],[],[.nm 7,.nm 16,ah],[]⟩
def aCp:eI:=⟨26,[.row 9,ak ah,ak .str],[],al2,.e2 [.row 7,ak ah],[],[.nm 7,ah],[]⟩
def aoy:eI:=⟨9,[.row 12],[],[.nm 12],ak .bool,[],[.bool],[]⟩
def aCM:eI:=⟨90,[ak gJ,ak ah],[],[gJ,ah],.row 18,[],[.nm 18],[]⟩
def axU:h7:=⟨0,⟨[(0,ak .str),(4,ak (.int .u64)),(5,ak ah)],[]⟩,[],[],[.str,.int .u64,ah],[⟨.exit 0,⟨[(4,ak (.int .u64))],[]⟩,[],[.int .u64]⟩],[]⟩
def aBV:eI:=⟨162,[ak .str],[],[.str],.e2 [ak (.int .u64),ak ah],[],[.int .u64,ah],[axU]⟩
def aBz:eI:=⟨125,[ak .str],[],[.str],.e2 [ak (.int .u64),ak .bool],[],[.int .u64,.bool],[]⟩
def aBA:eI:=⟨126,[ak (.int .u64)],[],[.int .u64],ak ah,[],[ah],[]⟩
def aBB:eI:=⟨127,[ak gJ,ak ah],[],[gJ,ah],ak gJ,[],[gJ],[]⟩
def axV:h7:=⟨0,⟨[(0,ak .str),(5,ak (.int .u64)),(6,ak (.int .u64)),(7,ak ah)],[]⟩,[],[],[.str,.int .u64,.int .u64,ah],[⟨.ret,⟨[(2,ak (.int .u64)),(3,ak ah),(4,ak ah)],[]⟩,[],al0⟩,PD 0],[]⟩
def aCb:eI:=⟨192,[ak .str],[],[.str],.e2 [ak (.int .u64),ak ah,ak ah],[],al0,[axV]⟩
def aBW:eI:=⟨163,[ak .str],[],[.str],.e2 [ak ah,ak .str,ak ah],[],[ah,.str,ah],[]⟩
def aBC:eI:=⟨132,[.row 7],[],[.nm 7],.row 18,[],[.nm 18],[]⟩
def aor:eI:=⟨128,[.row 9,.row 4,ak .str,ak ah,ak gJ],[],alW,.row 18,[],[.nm 18],[]⟩
def aCc:eI:=⟨193,[ak .str],[],[.str],.e2 [ak .str,ak .str,ak .bool],[],[.str,.str,.bool],[]⟩
def axW:h7:=⟨0,⟨[(0,ak .str),(4,.c (.arr 0))],[.arr .str]⟩,[(.slot 4,.str)],[(.slot 4,.str)],[.str,EI],[⟨.ret,⟨alV,[]⟩,[],[ah]⟩,⟨.exit 0,⟨alY,[.arr .str]⟩,[],[EI]⟩],[]⟩
def aBX:eI:=⟨164,[ak .str],[],[.str],.e2 [ak EI,ak ah],[],[EI,ah],[axW]⟩
def afz:h7:=⟨0,⟨aAG,[pr (b7 4),.l' 4,.box Uw,.box aAv,.arr (.nm 7)]⟩,[(.via 13 6,.nm 7)],[(.via 13 6,.nm 7)],[ah,gJ,EI,ah,b7 4,.nm 4,ah,.bool,ah,.str,ah,ah,.bool,ah,.bool,ah,.str,ah,b7 7],[⟨.ret,⟨[(10,ez 0 0)],[.l' 18]⟩,[],[.nm 18]⟩,⟨.exit 0,⟨aq9,[.box Uw,.box [.hole ah,.hole .bool,.hole ah,.hole .str,.hole ah,.hN,.arr 2,.hN],.arr (.nm 7)]⟩,[],[ah,.bool,ah,.str,ah,ah,.bool,ah,.bool,ah,.str,ah,b7 7]⟩],[]⟩
def aos:eI:=⟨129,[.row 9,.row 4,ak .str,ak ah,ak gJ],[],alW,.row 18,[],[.nm 18],[afz]⟩
def afA:h7:=⟨0,⟨aAG,[pr (b7 4),.l' 4,.box Uw,.box alO,.arr (.nm 7)]⟩,[(.via 13 5,.nm 7)],[(.via 13 5,.nm 7)],[ah,gJ,EI,ah,b7 4,.nm 4,ah,.bool,ah,.str,ah,ah,.bool,ah,.bool,ah,.str,ah,b7 7],[⟨.ret,⟨[(10,ez 0 0)],[.l' 18]⟩,[],[.nm 18]⟩,⟨.exit 0,⟨aAI,[pr (b7 4),.l' 4,.box Uw,.box alO,.arr (.nm 7)]⟩,[],[ah,gJ,EI,b7 4,.nm 4,ah,.bool,ah,.str,ah,ah,.bool,ah,.bool,ah,.str,ah,b7 7]⟩],[]⟩
def axX:h7:=⟨1,⟨[(3,ak ah),(4,ak gJ),(5,ez 0 0),(6,ez 1 0),(10,ez 2 0),(11,ak EI),(13,ez 3 0),(16,ak ah)],[pr (b7 4),.l' 4,.box Uw,.box alO,.arr (.nm 7)]⟩,[],[],[ah,gJ,EI,ah,b7 4,.nm 4,ah,.bool,ah,.str,ah,ah,.bool,ah,.bool,ah,.str,ah,b7 7],[⟨.ret,⟨[(10,ez 0 0)],[.l' 18]⟩,[],[.nm 18]⟩,⟨.exit 2,⟨aAI,[pr (b7 4),.l' 4,.box Uw,.box alO,.arr (.nm 7)]⟩,[],[ah,gJ,EI,b7 4,.nm 4,ah,.bool,ah,.str,ah,ah,.bool,ah,.bool,ah,.str,ah,b7 7]⟩],[]⟩
def af7:h7:=⟨2,⟨[(3,ak ah),(4,ak gJ),(5,ez 0 0),(6,ez 1 0),(10,ez 2 0),(11,ak EI),(13,ez 3 0),(17,ak ah)],[pr (b7 4),.l' 4,.box Uw,.box [.hole ah,.hole .bool,.hole ah,.hole .str,.hole ah,.arr 4,.arr 5,.hN],.arr (.nm 7),.arr (.nm 7)]⟩,[(.via 13 6,.nm 7)],[(.via 13 6,.nm 7)],[ah,gJ,EI,ah,b7 4,.nm 4,ah,.bool,ah,.str,ah,ah,.bool,ah,.bool,ah,.str,ah,b7 7,b7 7],[⟨.ret,⟨[(10,ez 0 0)],[.l' 18]⟩,[],[.nm 18]⟩,⟨.exit 4,⟨aq9,[.box Uw,.box [.hole ah,.hole .bool,.hole ah,.hole .str,.hole ah,.arr 2,.arr 3,.hN],.arr (.nm 7),.arr (.nm 7)]⟩,[],[ah,.bool,ah,.str,ah,ah,.bool,ah,.bool,ah,.str,ah,b7 7,b7 7]⟩],[]⟩
def aou:eI:=⟨130,[.row 9,.row 4,ak .str,ak ah,ak gJ],[],alW,.row 18,[],[.nm 18],[afA,axX,af7]⟩
def axY:h7:=⟨0,⟨[(0,ak .str),(4,.c (.arr 0)),(5,ak ah)],al1⟩,[(.slot 4,.nm 15)],[(.slot 4,.nm 15)],[.str,ah,b7 15],[⟨.ret,⟨alV,[]⟩,[],[ah]⟩,⟨.exit 0,⟨alY,al1⟩,[],[b7 15]⟩],[]⟩
def aBY:eI:=⟨165,[ak .str],[],[.str],.e2 [ak (b7 15),ak ah],[],[b7 15,ah],[axY]⟩
def axZ:h7:=⟨0,⟨[(0,ak (b7 15)),(1,ak ah),(5,ak ah)],[]⟩,[],[],[b7 15,ah,ah],[K9 4 ah,PD 0],[]⟩
def aBZ:eI:=⟨166,[ak (b7 15),ak ah],[],[b7 15,ah],ak ah,[],[ah],[axZ]⟩
def af8:h7:=⟨0,⟨[(3,ak ah),(4,ak gJ),(5,ez 0 0),(6,ez 1 0),(10,ez 2 0),(11,ak (b7 15)),(13,ez 3 0),(14,ak ah)],[pr (b7 4),.l' 4,.box Uw,.box aAv,.arr (.nm 7)]⟩,[(.via 13 6,.nm 7)],[(.via 13 6,.nm 7)],[ah,gJ,b7 15,ah,b7 4,.nm 4,ah,.bool,ah,.str,ah,ah,.bool,ah,.bool,ah,.str,ah,b7 7],[⟨.ret,⟨[(10,ez 0 0)],[.l' 18]⟩,[],[.nm 18]⟩,⟨.exit 0,⟨[(4,ak gJ),(6,ez 0 0),(10,ez 1 0),(11,ak (b7 15)),(13,ez 2 0)],[.l' 4,.box Uw,.box [.hole ah,.hole .bool,.hole ah,.hole .str,.hole ah,.hN,.arr 3,.hN],.arr (.nm 7)]⟩,[],[gJ,b7 15,.nm 4,ah,.bool,ah,.str,ah,ah,.bool,ah,.bool,ah,.str,ah,b7 7]⟩],[]⟩
def ax0:h7:=⟨1,⟨[(4,ak gJ),(6,ez 0 0),(10,ez 1 0),(11,ak (b7 15)),(13,ez 2 0),(18,ak ah)],[.l' 4,.box Uw,.box [.hole ah,.hole .bool,.hole ah,.hole .str,.hole ah,.hN,.arr 3,.arr 4],.arr (.nm 7),.arr (.nm 8)]⟩,[(.via 13 7,.nm 8)],[(.via 13 7,.nm 8)],[gJ,b7 15,ah,.nm 4,ah,.bool,ah,.str,ah,ah,.bool,ah,.bool,ah,.str,ah,b7 7,b7 8],[⟨.ret,⟨[(10,ez 0 0)],[.l' 18]⟩,[],[.nm 18]⟩,⟨.exit 2,⟨aq9,[.box Uw,.box [.hole ah,.hole .bool,.hole ah,.hole .str,.hole ah,.hN,.arr 2,.arr 3],.arr (.nm 7),.arr (.nm 8)]⟩,[],[ah,.bool,ah,.str,ah,ah,.bool,ah,.bool,ah,.str,ah,b7 7,b7 8]⟩],[]⟩
def aov:eI:=⟨131,[.row 9,.row 4,ak .str,ak ah,ak gJ],[],alW,.row 18,[],[.nm 18],[af8,ax0]⟩
def XW:eI:=⟨91,[.row 9,ak ah,ak .str,ak ah,ak gJ],[],[.nm 9,ah,.str,ah,gJ],.row 18,[],[.nm 18],[]⟩
def aCw:eI:=⟨52,[.row 9,ak ah,ak .str],[],al2,.e2 [.row 18,ak ah],[],[.nm 18,ah],[]⟩
def aCq:eI:=⟨27,[.row 9,ak ah,ak .str],[],al2,.e2 [.row 7,ak ah],[],[.nm 7,ah],[]⟩
def aCs:eI:=⟨29,[.row 9,ak ah,ak .str,ak .str],[],[.nm 9,ah,.str,.str],ak .bool,[],[.bool],[]⟩
def Zb:eI:=⟨10,[.row 9,ak ah,.row 17],[],[.nm 9,ah,.nm 17],ak .bool,[],[.bool],[]⟩
def aNg:List eI:=[avV,avU,avW,avX,avL,avY,akm,agD,avN,avM,avB,avH,avI,avy,avJ,avz,avK,avA,avt,avu]
def aNh:List eI:=[av7,aCz,aB4,aBI,avr,av',av3,aBJ,avx,avw,avs,aB6,aCd,aB5,aBK,avD,avP,avC,avQ,avF]
def aNi:List eI:=[avR,avG,avE,avv,aCQ,aCA,aCt,aCB,aBq,aBr,aBs,akn,agE,aBt,aBM,aCe,aB7,aBL,aBN,aCf]
def aNj:List eI:=[aCg,aB8,aCh,aCn,aCk,aCl,aCi,aCj,aB9,aBP,aBu,aCC,aCF,aCG,aCu,aot,aow,avO,Wg]
def aqN:List eI:=aNg++aNh++aNi++aNj
theorem ax1:aqN.all (abM prog)=true:=by kernel_rfl
def amK:k6 nJ:={amJ with F:=aqF (α:=nJ.D 10) abT}
theorem asz:Nk prog amK:=⟨asy.1,λh r al=>asy.2 h r (aI7 aqH _ r al)⟩
def aiH(n:Int):Option (a6):=
 some (⟨2,false,n,[],0,[],[],[]⟩:a6)
theorem arP:iy avV aiH:= .km
def ab8(n:Int):Option (hv):=
 aiH n>>=λr=>some (⟨2,[121],1,false,true,a6.eta r⟩:hv)
theorem aEx:iy avU ab8:= .km (.k arP .n)
def acE(l:List hv):Option (f4):=
 some (⟨[(⟨5,[82],0,0,0,[],l,0,0,false⟩:b'),(⟨2,[],0,9,0,[],[],0,0,false⟩:b'),(⟨2,[],0,5,0,[],[],0,0,false⟩:b'),(⟨1,[],0,0,0,[],[],0,0,false⟩:b')]⟩:f4)
theorem aDZ:iy avW acE:= .km
def ab9(dJ:Int×Int):Option (a6):=
 match dJ with
 |(a,b)=>
 aiH a>>=λr=>aiH b>>=λoJ=>some (⟨5,false,0,[],0,[],[a6.eta r,a6.eta oJ],[]⟩:a6)
theorem aEy:iy avX ab9:= .km (.k arP .n)
def Su(dJ:List Jh×List Jh×Int×Int):Option ((Bool) ⊕ (Unit)):=
 match dJ with
 |(Vt,M',ZY,t13)=>
 if decide (t13<ZY)=true then if hz t13 Vt.length=true then some (Vt.getD t13.toNat Na)>>=λb9=>if hz t13 M'.length=true then some (M'.getD t13.toNat Na)>>=λJQ=>if(!(NN b9.c6 JQ.c6&&(Pj b9.Data JQ.Data&&true)))=true then some (.inl false)
    else Su (Vt,M',ZY,hK .i64 t13 1)
   else none
  else none
 else some (.inr ())
  partial_fixpoint
theorem aDD:xi 36 0 [0] avZ Su:= .rx Su.partial_correctness
def Y3(dJ:List Jh×List Jh):Option (Bool):=
 match dJ with
 |(s1,s2)=>
 if(!(decide ((s1.length:Int)=(s2.length:Int))))=true then some false
 else Su (s1,s2,(s1.length:Int),0)>>=λo=>match o with
  |.inl hq=>
   some hq
  |.inr g'=>
   some true
theorem amq:iy avY Y3:= .km .n (.k aDD .n)
def YH(dJ:ev×ev×Int×Int):Option ((Bool) ⊕ (Unit)):=
 match dJ with
 |(Vt,M',ZY,t13)=>
 if decide (t13<ZY)=true then if hz t13 Vt.length=true then if hz t13 M'.length=true then if(!(decide (Vt.getD t13.toNat 0=M'.getD t13.toNat 0)))=true then some (.inl false)
    else YH (Vt,M',ZY,hK .i64 t13 1)
   else none
  else none
 else some (.inr ())
  partial_fixpoint
theorem aDq:xi 19 0 [0] avS YH:= .rx YH.partial_correctness
def afj(dJ:ev×ev):Option (Bool):=
 match dJ with
 |(s1,s2)=>
 if(!(decide ((s1.length:Int)=(s2.length:Int))))=true then some false
 else YH (s1,s2,(s1.length:Int),0)>>=λo=>match o with
  |.inl hq=>
   some hq
  |.inr g'=>
   some true
theorem aEz:iy avO afj:= .km .n (.k aDq .n)
noncomputable def aaM:f4×Int×a6×f4×Int->Option (a6×Int):=Ze prog aqN [aiR,aiS,aiT,amK,aiG] 3000 aot
theorem aD':iy aot aaM:= .run ax1 (.k amv (.k amw (.k amx (.k asz (.k arA .n))))) (.m (by kernel_rfl)) 3000 λ_=>rfl
noncomputable def aaN:f4×Int×a6×f4×Int->Option (ev×Int):=Ze prog aqN [aiR,aiS,aiT,amK,aiG] 3000 aow
theorem aEa:iy aow aaN:= .run ax1 (.k amv (.k amw (.k amx (.k asz (.k arA .n))))) (.m (by kernel_rfl)) 3000 λ_=>rfl
def amy(aaM:f4×Int×a6×f4×Int->Option (a6×Int))(aaN:f4×Int×a6×f4×Int->Option (ev×Int)):Option (Bool):=
 ab8 3>>=λr=>acE [(⟨1,[120],1,false,false,(⟨0,false,0,[],0,[],[],[]⟩:a6)⟩:hv),(⟨r.c6,r.Name,r.jb,r.r2,r.qx,a6.eta r.ix⟩:hv)]>>=λoJ=>ab8 3>>=λHW=>acE [(⟨1,[120],2,false,false,(⟨0,false,0,[],0,[],[],[]⟩:a6)⟩:hv),(⟨HW.c6,HW.Name,HW.jb,HW.r2,HW.qx,a6.eta HW.ix⟩:hv),(⟨4,[122],3,false,true,(⟨1,true,0,[],0,[],[],[]⟩:a6)⟩:hv)]>>=λr0=>ab9 (5,3)>>=λC3=>aaM (oJ,0,a6.eta C3,r0,0)>>=λK1=>ab9 (6,3)>>=λTo=>aaN (oJ,0,a6.eta To,r0,0)>>=λOB=>ab9 (1,3)>>=λabP=>ab8 4>>=λNz=>acE [(⟨Nz.c6,Nz.Name,Nz.jb,Nz.r2,Nz.qx,a6.eta Nz.ix⟩:hv)]>>=λQa=>aaN (oJ,0,a6.eta abP,Qa,0)>>=λah5=>ab9 (1,4)>>=λaql=>ab8 4>>=λZR=>acE [(⟨ZR.c6,ZR.Name,ZR.jb,ZR.r2,ZR.qx,a6.eta ZR.ix⟩:hv)]>>=λah6=>aaM (oJ,0,a6.eta aql,ah6,0)>>=λOA=>some (bif bif bif bif decide (K1.2=0)then decide (OB.2=0)else false then decide (ah5.2=0)else false then decide (OA.2=0)else false then decide ((K1.1.qb.length:Int)=3)else false)>>=λt83=>if(hz 2 K1.1.qb.length||(!t83))=true then some (bif t83 then(K1.1.qb.getD (2:Int).toNat f5).s0 else false)>>=λt90=>(if t90=true then afj (OB.1,[1])else some false)>>=λabQ=>some (bif t90 then abQ else false)>>=λt95=>(if t95=true then afj (ah5.1,[2])else some false)>>=λQ6=>some (bif t95 then Q6 else false)>>=λt100=>(if t100=true then Y3 (OA.1.Rest,[(⟨1,[2]⟩:Jh)])else some false)>>=λaMK=>some (bif t100 then aMK else false)
 else none
noncomputable def amz (_:Unit):Option (Bool):=amy aaM aaN
theorem aD0:iy Wg amz:= .km (.k aEx (.k aDZ (.k aEy (.k aD' (.k aEa (.k aEz (.k amq .n)))))))
def MG(n:Int):hv:=⟨2,[121],1,false,true,⟨2,false,n,[],0,[],[],[]⟩⟩
def SN(t:Int):hv:=⟨1,[120],t,false,false,⟨0,false,0,[],0,[],[],[]⟩⟩
def agb:hv:=⟨4,[122],3,false,true,⟨1,true,0,[],0,[],[],[]⟩⟩
def PY(l:List hv):f4:=⟨[⟨5,[82],0,0,0,[],l,0,0,false⟩,⟨2,[],0,9,0,[],[],0,0,false⟩,⟨2,[],0,5,0,[],[],0,0,false⟩,⟨1,[],0,0,0,[],[],0,0,false⟩]⟩
def Xy(a b:Int):a6:=⟨5,false,0,[],0,[],[⟨2,false,a,[],0,[],[],[]⟩,⟨2,false,b,[],0,[],[],[]⟩],[]⟩
theorem aJL(n:Int):ab8 n=some (MG n):=rfl
theorem aJM(l:List hv):acE l=some (PY l):=rfl
theorem aJN(a b:Int):ab9 (a,b)=some (Xy a b):=rfl
def ake:Option (a6×Int)->Bool
 |some (u,e)=>decide (e=0)&&(decide (u.qb.length=3)&&(u.qb.getD 2 f5).s0)
 |none=>false
def acZ(n:Int):Option (ev×Int)->Bool
 |some (p,e)=>decide (e=0)&&decide (p=[n])
 |none=>false
def akf:Option (a6×Int)->Bool
 |some (u,e)=>decide (e=0)&&(match u.Rest with
  |[x]=>decide (x.c6=1)&&decide (x.Data=[2])
  |_=>false)
 |none=>false
theorem aA4:ake (aaM (PY [SN 1,MG 3],0,Xy 5 3,PY [SN 2,MG 3,agb],0))=true:=by kernel_rfl
theorem aA5:acZ 1 (aaN (PY [SN 1,MG 3],0,Xy 6 3,PY [SN 2,MG 3,agb],0))=true:=by kernel_rfl
theorem aA6:acZ 2 (aaN (PY [SN 1,MG 3],0,Xy 1 3,PY [MG 4],0))=true:=by kernel_rfl
theorem aA7:akf (aaM (PY [SN 1,MG 3],0,Xy 1 4,PY [MG 4],0))=true:=by kernel_rfl
theorem aA8(n:Int):afj ([n],[n])=some true:=by
 have h1:YH ([n],[n],1,hK .i64 0 1)=some (.inr ()):=by rw[YH];rfl
 have h0:YH ([n],[n],(([n]:ev).length:Int),0)=some (.inr ()):=by
  rw[YH]
  simpa[hz]using h1
 rw[afj,h0];rfl
theorem aA9:Y3 ([⟨1,[2]⟩],[⟨1,[2]⟩])=some true:=by
 have h1:Su ([⟨1,[2]⟩],[⟨1,[2]⟩],1,hK .i64 0 1)=some (.inr ()):=by rw[Su];rfl
 have h0:Su ([⟨1,[2]⟩],[⟨1,[2]⟩],(([⟨1,[2]⟩]:List Jh).length:Int),0)=some (.inr ()):=by
  rw[Su]
  simpa[hz,NN,Pj]using h1
 rw[Y3,h0];rfl
theorem aBa(n:Int):(⟨(MG n).c6,(MG n).Name,(MG n).jb,(MG n).r2,(MG n).qx,(MG n).ix⟩:hv)=MG n:=rfl
theorem aA'(n:Int):(⟨1,[120],n,false,false,(⟨0,false,0,[],0,[],[],[]⟩:a6)⟩:hv)=SN n:=rfl
theorem aBb:(⟨4,[122],3,false,true,(⟨1,true,0,[],0,[],[],[]⟩:a6)⟩:hv)=agb:=rfl
theorem aMs{o:Option (a6×Int)}(h:ake o=true):∃u,o=some (u,0)/\u.qb.length=3/\(u.qb.getD (2:Int).toNat f5).s0=true:=by
 match o,h with
 |some (u,e),h=>
  simp only[ake,h5,u2]at h;obtain⟨rfl,h1,ad⟩:=h;exact⟨u,rfl,h1,ad⟩
theorem azr{n:Int}{o:Option (ev×Int)}(h:acZ n o=true):o=some ([n],0):=by
 match o,h with
 |some (u,e),h=>
  simp only[acZ,h5,u2]at h;obtain⟨rfl,rfl⟩:=h;rfl
theorem aMt{o:Option (a6×Int)}(h:akf o=true):∃u,o=some (u,0)/\u.Rest=[⟨1,[2]⟩]:=by
 match o,h with
 |some (u,e),h=>
  simp only[akf,h5,u2]at h;obtain⟨rfl,h1⟩:=h;refine⟨u,rfl,?_⟩;split at h1
  . rename_i x aa;simp only[h5,u2]at h1;rw[aa];cases x;simp_all
  . cases h1
theorem aHJ (g1:f4×Int×a6×f4×Int->Option (a6×Int))(g2:f4×Int×a6×f4×Int->Option (ev×Int))
 (h1:ake (g1 (PY [SN 1,MG 3],0,Xy 5 3,PY [SN 2,MG 3,agb],0))=true)(ad:acZ 1 (g2 (PY [SN 1,MG 3],0,Xy 6 3,PY [SN 2,MG 3,agb],0))=true)
 (a':acZ 2 (g2 (PY [SN 1,MG 3],0,Xy 1 3,PY [MG 4],0))=true)(d':akf (g1 (PY [SN 1,MG 3],0,Xy 1 4,PY [MG 4],0))=true):amy g1 g2=some true:=by
 obtain⟨aih,ep,b1,kn⟩:=aMs h1;have hp:=azr ad;have zt:=azr a';obtain⟨aej,T0,al⟩:=aMt d';have ar:decide ((aih.qb.length:Int)=3)=true:=by rw[b1];rfl
 have JV:hz 2 aih.qb.length=true:=by rw[b1];rfl
 unfold amy;simp only[h3,ec,aJL,aJM,aJN,a6.pa,aBa,aA',aBb];rw[ep,hp,zt,T0];simp only[ec,ar,JV,al,kn,aA8,aA9,ZL,abG,ahO,xe]
theorem aHK:amz ()=some true:=aHJ _ _ aA4 aA5 aA6 aA7
def aft(_:Unit):Option (Bool):=some true
theorem aEb:iy Wg aft:=by
 have:amz=aft:=by funext x;exact aHK
 rw[<-this];exact aD0
theorem aEA:aft ()=some true:=rfl
def Sv(kind:Int):Option (Bool):=
 some (bif bif decide (kind=4)then true else decide (kind=5)then true else decide (kind=6))
theorem arH:iy aCy Sv:= .km
def amA(dJ:Int×W1×ev):Option ev:=
 match dJ with
 |(i,lo,qj)=>
 if decide (i<6)=true then if decide (0<=i)=true then if decide (NY (abS .u8 lo.A i) 2=1)=true then some [hK .i64 i 1]>>=λt18=>if q5 8 (qj++t18).length=true then amA (hK .i64 i 1,lo,qj++t18)
 else none
 else amA (hK .i64 i 1,lo,qj)
 else none
 else some qj
  partial_fixpoint
def aEW(b9:W1):Option ev:=
 amA (0,b9,[])>>=λo=>if decide ((o.length:Int)=0)=true then some [1]>>=λt24=>if q5 8 (o++t24).length=true then some (o++t24)
 else none
 else some o
def amu(kind:Int):Option (Bool):=
 some (bif decide (1<=kind)then decide (kind<=4)else false)
theorem aEB:iy aCP amu:= .km
def Xc(dJ:Int×Int×b'):Option ((Int×Bool) ⊕ (Unit)):=
 match dJ with
 |(Zx,i,b)=>
 if decide (i<(b.c7.length:Int))=true then if hz i b.c7.length=true then if decide ((b.c7.getD i.toNat d5).c6=Zx)=true then some (.inl (i,true))
 else Xc (Zx,hK .i64 i 1,b)
 else none
 else some (.inr ())
  partial_fixpoint
theorem aEk:xi 78 0 [0] av6 Xc:= .rx Xc.partial_correctness
def acF(dJ:b'×Int):Option (Int×Bool):=
 match dJ with
 |(t,id)=>
 Xc (id,0,t)>>=λo=>match o with
 |.inl hq=>
 some (hq.1,hq.2)
 |.inr g'=>
 some (0,false)
theorem arF:iy aCJ acF:= .km .n (.k aEk .n)
def VK(dJ:Int×Int×b'):Option ((Int×Bool) ⊕ (Unit)):=
 match dJ with
 |(Zx,i,b)=>
 if decide (i<(b.hD.length:Int))=true then if hz i b.hD.length=true then if decide ((b.hD.getD i.toNat yt).c6=Zx)=true then some (.inl (i,true))
 else VK (Zx,hK .i64 i 1,b)
 else none
 else some (.inr ())
  partial_fixpoint
theorem aEl:xi 69 0 [0] av4 VK:= .rx VK.partial_correctness
def aiU(dJ:b'×Int):Option (Int×Bool):=
 match dJ with
 |(t,id)=>
 VK (id,0,t)>>=λo=>match o with
 |.inl hq=>
 some (hq.1,hq.2)
 |.inr g'=>
 some (0,false)
theorem aD1:iy aCI aiU:= .km .n (.k aEl .n)
def VB(dJ:Bool×Bool):Option (Int):=
 match dJ with
 |(aMi,equal)=>
 if equal=true then some 0
 else if aMi=true then some (-1)
 else some 1
theorem aEc:iy aBv VB:= .km
def afm(n:Int):Option (Int):=
 if decide (0<=n)=true then some (Nw .u64 2 (G' .u64 n))
 else some (hK .u64 (Nw .u64 2 (G' .u64 (MP .i64 0 (hK .i64 n 1)))) 1)
theorem aD2:iy aCL afm:= .km
def afk(dJ:a6×a6):Option (Int):=
 match dJ with
 |(a,b)=>
 if(!(decide (a.Kind=b.Kind)))=true then some 0
 else if decide (a.Kind=1)=true then VB (b.s0,JB a.s0 b.s0)>>=λr=>some r
 else if decide (a.Kind=2)=true then afm a.oj>>=λoJ=>afm b.oj>>=λHW=>VB (decide (oJ<HW),decide (a.oj=b.oj))>>=λr0=>some r0
 else if decide (a.Kind=3)=true then if(!(decide ((a.o'.length:Int)=(b.o'.length:Int))))=true then VB (decide ((a.o'.length:Int)<(b.o'.length:Int)),false)>>=λC3=>some C3
 else VB (Op.bytesLess a.o' b.o',decide (a.o'=b.o'))>>=λK1=>some K1
 else if decide (a.Kind=4)=true then VB (decide (a.c6<b.c6),decide (a.c6=b.c6))>>=λNA=>some NA
 else some 0
theorem aEC:iy aCK afk:= .km (.k aEc (.k aD2 .n))
def W5(dJ:List s4×List s4×Int×Int):Option ((Bool) ⊕ (Unit)):=
 match dJ with
 |(Vt,M',ZY,t13)=>
 if decide (t13<ZY)=true then if hz t13 Vt.length=true then some (Vt.getD t13.toNat yt)>>=λb9=>if hz t13 M'.length=true then some (M'.getD t13.toNat yt)>>=λJQ=>if(!(NN b9.c6 JQ.c6&&(Pj b9.Name JQ.Name&&true)))=true then some (.inl false)
 else W5 (Vt,M',ZY,hK .i64 t13 1)
 else none
 else none
 else some (.inr ())
  partial_fixpoint
theorem aDA:xi 186 0 [0] awn W5:= .rx W5.partial_correctness
def ai5(dJ:List s4×List s4):Option (Bool):=
 match dJ with
 |(s1,s2)=>
 if(!(decide ((s1.length:Int)=(s2.length:Int))))=true then some false
 else W5 (s1,s2,(s1.length:Int),0)>>=λo=>match o with
 |.inl hq=>
 some hq
 |.inr g'=>
 some true
theorem aDC:iy avL ai5:= .km .n (.k aDA .n)
mutual
def UA(dJ:a6×a6):Option (Bool):=
 match dJ with
 |(a,b)=>
 some (bif bif bif bif decide (a.Kind=b.Kind)then JB a.s0 b.s0 else false then decide (a.oj=b.oj)else false then decide (a.o'=b.o')else false then decide (a.c6=b.c6)else false)>>=λt37=>(if t37=true then Y3 (a.Rest,b.Rest)else some false)>>=λr=>some (bif t37 then r else false)>>=λt44=>(if t44=true then afd (a.r3,b.r3)else some false)>>=λoJ=>some (bif t44 then oJ else false)>>=λt51=>(if t51=true then afd (a.qb,b.qb)else some false)>>=λHW=>some (bif t51 then HW else false)
  partial_fixpoint
def afd(dJ:List a6×List a6):Option (Bool):=
 match dJ with
 |(s1,s2)=>
 if(!(decide ((s1.length:Int)=(s2.length:Int))))=true then some false
 else ab5 (s2,s1,(s1.length:Int),0)>>=λo=>match o with
 |.inl hq=>
 some hq
 |.inr g'=>
 some true
  partial_fixpoint
def ab5(dJ:List a6×List a6×Int×Int):Option ((Bool) ⊕ (Unit)):=
 match dJ with
 |(M',t15,ZZ,t17)=>
 if decide (t17<ZZ)=true then if hz t17 t15.length=true then if hz t17 M'.length=true then UA (a6.eta (t15.getD t17.toNat f5),a6.eta (M'.getD t17.toNat f5))>>=λr=>if(!r)=true then some (.inl false)
 else ab5 (M',t15,ZZ,hK .i64 t17 1)
 else none
 else none
 else some (.inr ())
  partial_fixpoint
end
theorem aEX:Oa agD UA/\Oa akm afd/\PW 82 0 [0] afZ ab5:=UA.mutual_partial_correctness (NM agD) (NM akm) (PV 82 0 [0] afZ)
 (λ_ h1 _ _ h=>OF h (.k amq (.k (Is akm h1) .n)))
 (λ_ ad _ _ h=>OF h .n (.k (QH afZ ad) .n))
 (λ_ _ h0 ad _ _ h=>QG afZ ad h (.k (Is agD h0) .n))
theorem asI:iy agD UA:=Is _ aEX.1
def aeU(dJ:hv×hv):Option (Bool):=
 match dJ with
 |(b9,y)=>
 some (bif bif bif bif decide (b9.c6=y.c6)then decide (b9.Name=y.Name)else false then decide (b9.jb=y.jb)else false then JB b9.r2 y.r2 else false then JB b9.qx y.qx else false)>>=λt37=>(if t37=true then UA ((⟨b9.ix.Kind,b9.ix.s0,b9.ix.oj,b9.ix.o',b9.ix.c6,b9.ix.r3,b9.ix.qb,b9.ix.Rest⟩:a6),a6.eta y.ix)else some false)>>=λr=>some (bif t37 then r else false)
theorem aEO:iy avN aeU:= .km (.k asI .n)
def W2(dJ:List hv×List hv×Int×Int):Option ((Bool) ⊕ (Unit)):=
 match dJ with
 |(M',t15,ZZ,t17)=>
 if decide (t17<ZZ)=true then if hz t17 t15.length=true then some (t15.getD t17.toNat d5)>>=λb9=>if hz t17 M'.length=true then some (M'.getD t17.toNat d5)>>=λJQ=>aeU ((⟨b9.c6,b9.Name,b9.jb,b9.r2,b9.qx,a6.eta b9.ix⟩:hv),(⟨JQ.c6,JQ.Name,JQ.jb,JQ.r2,JQ.qx,a6.eta JQ.ix⟩:hv))>>=λr=>if(!r)=true then some (.inl false)
 else W2 (M',t15,ZZ,hK .i64 t17 1)
 else none
 else none
 else some (.inr ())
  partial_fixpoint
theorem aDs:xi 187 0 [0] awo W2:= .rx W2.partial_correctness (.k aEO .n)
def ai4(dJ:List hv×List hv):Option (Bool):=
 match dJ with
 |(s1,s2)=>
 if(!(decide ((s1.length:Int)=(s2.length:Int))))=true then some false
 else W2 (s2,s1,(s1.length:Int),0)>>=λo=>match o with
 |.inl hq=>
 some hq
 |.inr g'=>
 some true
theorem aDt:iy avM ai4:= .km .n (.k aDs .n)
def N4(dJ:b'×b'):Option (Bool):=
 match dJ with
 |(a,b)=>
 some (bif bif bif bif bif bif bif decide (a.Kind=b.Kind)then decide (a.Name=b.Name)else false then decide (a.mJ=b.mJ)else false then decide (a.mx=b.mx)else false then decide (a.Max=b.Max)else false then decide (a.Key=b.Key)else false then decide (a.h6=b.h6)else false then JB a.Open b.Open else false)>>=λt58=>(if t58=true then ai5 (a.hD,b.hD)else some false)>>=λr=>some (bif t58 then r else false)>>=λt65=>(if t65=true then ai4 (a.c7,b.c7)else some false)>>=λoJ=>some (bif t65 then oJ else false)
theorem aEE:iy avB N4:= .km (.k aDC (.k aDt .n))
def aeV(c:Int):Option (Bool):=
 some (bif bif decide (c=95)then true else bif decide (97<=c)then decide (c<=122)else false then true else bif decide (65<=c)then decide (c<=90)else false)
theorem arw:iy avH aeV:= .km
def ajx(c:Int):Option (Bool):=
 some (bif decide (48<=c)then decide (c<=57)else false)
theorem aEY:iy avI ajx:= .km
def Xf(dJ:b8×Int×Int):Option ((Bool) ⊕ (Unit)):=
 match dJ with
 |(C4,az0,t19)=>
 if decide (t19<az0)=true then if hz t19 C4.length=true then aeV (m5 C4 t19)>>=λoJ=>some (!oJ)>>=λt26=>if(hz t19 C4.length||(!t26))=true then (if t26=true then ajx (m5 C4 t19)else some false)>>=λHW=>if(bif t26 then(!HW)else false)=true then some (.inl false)
 else Xf (C4,az0,hK .i64 t19 1)
 else none
 else none
 else some (.inr ())
  partial_fixpoint
theorem aFm:xi 152 0 [0] awp Xf:= .rx Xf.partial_correctness (.k arw (.k aEY .n))
def SA(s:b8):Option (Bool):=
 some (bif decide (s=[])then true else decide (24<(s.length:Int)))>>=λt10=>if(hz 0 s.length||(!(!t10)))=true then (if(!t10)=true then aeV (m5 s 0)else some false)>>=λr=>if(bif t10 then true else(!r))=true then some false
 else Xf (s,(s.length:Int),0)>>=λo=>match o with
 |.inl hq=>
 some hq
 |.inr g'=>
 some true
 else none
theorem asA:iy avy SA:= .km (.k arw .n) (.k aFm .n)
def Xh(dJ:ev×List b8×ev×Int×Int×List b8):Option ((Bool) ⊕ ev):=
 match dJ with
 |(JH,abD,t9,aic,t11,b)=>
 if decide (t11<aic)=true then if hz t11 t9.length=true then some (t9.getD t11.toNat 0)>>=λb9=>some (bif decide (b9<1)then true else decide (1000<b9))>>=λt21=>some (decide (0<t11))>>=λt24=>some (MP .i64 t11 1)>>=λt29=>if(hz t29 JH.length||(!((!t21)&&t24)))=true then some (bif t21 then true else bif t24 then decide (b9<=JH.getD t29.toNat 0)else false)>>=λt34=>if(hz t11 abD.length||(!(!t34)))=true then some (bif t34 then true else Pn b (abD.getD t11.toNat []))>>=λt42=>if(hz t11 abD.length||(!(!t42)))=true then (if(!t42)=true then SA (abD.getD t11.toNat [])else some false)>>=λr=>if(bif t42 then true else(!r))=true then some (.inl false)
 else if hz t11 abD.length=true then Xh (JH,abD,t9,aic,hK .i64 t11 1,O7 b (abD.getD t11.toNat []))
 else none
 else none
 else none
 else none
 else none
 else some (.inr JH)
  partial_fixpoint
theorem aEZ:xi 184 0 [0] awq Xh:= .rx Xh.partial_correctness (.k asA .n)
def afc(dJ:ev×List b8):Option (Bool):=
 match dJ with
 |(l,names)=>
 Xh (l,names,l,(l.length:Int),0,[])>>=λo=>match o with
 |.inl hq=>
 some hq
 |.inr g'=>
 some (decide ((g'.length:Int)<=16))
theorem asd:iy avJ afc:= .km .n (.k aEZ .n)
def YO(dJ:List s4×List s4×Int×Int×ev×List b8):Option (List s4×ev×List b8):=
 match dJ with
 |(JH,t7,aie,t9,qj,h4)=>
 if decide (t9<aie)=true then if hz t9 t7.length=true then some (t7.getD t9.toNat yt)>>=λb9=>some [b9.c6]>>=λt16=>if q5 8 (qj++t16).length=true then some [b9.Name]>>=λt21=>if q5 16 (h4++t21).length=true then YO (JH,t7,aie,hK .i64 t9 1,qj++t16,h4++t21)
 else none
 else none
 else none
 else some (JH,qj,h4)
  partial_fixpoint
theorem aEd:xi 153 0 [0] awr YO:= .rx YO.partial_correctness
def acJ(l:List s4):Option (Bool):=
 YO (l,l,(l.length:Int),0,[],[])>>=λo=>some (decide (0<(o.1.length:Int)))>>=λt26=>(if t26=true then afc (o.2.1,o.2.2)else some false)>>=λr=>some (bif t26 then r else false)
theorem aEP:iy avz acJ:= .km (.k asd .n) (.k aEd .n)
def ajE(v:a6):Option (Bool):=
 UA (a6.eta v,(⟨0,false,0,[],0,[],[],[]⟩:a6))>>=λr=>some r
theorem aEF:iy avK ajE:= .km (.k asI .n)
def WY(dJ:List hv×Int×Int×b'×ev×List b8):Option ((Bool) ⊕ (b'×ev×List b8)):=
 match dJ with
 |(t8,az8,t10,h4,O9,Y8)=>
 if decide (t10<az8)=true then if hz t10 t8.length=true then some (t8.getD t10.toNat d5)>>=λb9=>some [b9.c6]>>=λt17=>if q5 8 (O9++t17).length=true then some [b9.Name]>>=λt22=>if q5 16 (Y8++t22).length=true then some (bif bif decide (h4.Kind=6)then bif b9.r2 then true else b9.qx else false then true else bif b9.r2 then b9.qx else false)>>=λt42=>some (!b9.qx)>>=λt46=>(if((!t42)&&t46)=true then ajE (a6.eta b9.ix)else some false)>>=λoJ=>if(bif t42 then true else bif t46 then(!oJ)else false)=true then some (.inl false)
 else WY (t8,az8,hK .i64 t10 1,h4,O9++t17,Y8++t22)
 else none
 else none
 else none
 else some (.inr (h4,O9,Y8))
  partial_fixpoint
theorem aDG:xi 154 0 [0] aws WY:= .rx WY.partial_correctness (.k aEF .n)
def aaS(t:b'):Option (Bool):=
 WY (t.c7,(t.c7.length:Int),0,t,[],[])>>=λo=>match o with
 |.inl hq=>
 some hq
 |.inr g'=>
 some (bif decide (g'.1.Kind=5)then true else decide (0<(g'.2.1.length:Int)))>>=λt62=>(if t62=true then afc (g'.2.1,g'.2.2)else some false)>>=λr=>some (bif t62 then r else false)
theorem aEQ:iy avA aaS:= .km (.k asd .n) (.k aDG .n)
def LP(t:b'):Option (Bool):=
 if decide (t.Kind=1)=true then N4 ((⟨0,t.Name,t.mJ,t.mx,t.Max,t.hD,t.c7,t.Key,t.h6,t.Open⟩:b'),(⟨0,[],0,0,0,[],[],0,0,false⟩:b'))>>=λr=>some r
 else if decide (t.Kind=2)=true then some (decide (t.mJ<=t.mx))>>=λt17=>(if t17=true then N4 ((⟨0,t.Name,0,0,t.Max,t.hD,t.c7,t.Key,t.h6,t.Open⟩:b'),(⟨0,[],0,0,0,[],[],0,0,false⟩:b'))else some false)>>=λoJ=>some (bif t17 then oJ else false)
 else if decide (t.Kind=3)=true then some (bif decide (0<=t.Max)then decide (t.Max<=200)else false)>>=λt29=>(if t29=true then N4 ((⟨0,t.Name,t.mJ,t.mx,0,t.hD,t.c7,t.Key,t.h6,t.Open⟩:b'),(⟨0,[],0,0,0,[],[],0,0,false⟩:b'))else some false)>>=λHW=>some (bif t29 then HW else false)
 else if decide (t.Kind=4)=true then SA t.Name>>=λr0=>(if r0=true then acJ t.hD else some false)>>=λC3=>some (bif r0 then C3 else false)>>=λt40=>(if t40=true then N4 ((⟨0,[],t.mJ,t.mx,t.Max,[],t.c7,t.Key,t.h6,false⟩:b'),(⟨0,[],0,0,0,[],[],0,0,false⟩:b'))else some false)>>=λK1=>some (bif t40 then K1 else false)
 else some (decide (t.Kind=5))>>=λt45=>if t45=true then if t45=true then SA t.Name>>=λNA=>(if NA=true then aaS t else some false)>>=λLS=>some (bif NA then LS else false)>>=λt53=>(if t53=true then N4 ((⟨0,[],t.mJ,t.mx,t.Max,t.hD,[],t.Key,t.h6,bif t.Open then decide (t.Kind=5)else false⟩:b'),(⟨0,[],0,0,0,[],[],0,0,false⟩:b'))else some false)>>=λTo=>some (bif t53 then To else false)
 else some (decide (t.Kind=7))>>=λt65=>if t65=true then if t65=true then some (bif decide (0<=t.Max)then decide (t.Max<=50)else false)>>=λt74=>if decide (t.Kind=8)=true then (if t74=true then N4 ((⟨0,t.Name,t.mJ,t.mx,0,t.hD,t.c7,0,0,t.Open⟩:b'),(⟨0,[],0,0,0,[],[],0,0,false⟩:b'))else some false)>>=λOB=>some (bif t74 then OB else false)
 else (if t74=true then N4 ((⟨0,t.Name,t.mJ,t.mx,0,t.hD,t.c7,t.Key,0,t.Open⟩:b'),(⟨0,[],0,0,0,[],[],0,0,false⟩:b'))else some false)>>=λJj=>some (bif t74 then Jj else false)
 else if decide (t.Kind=9)=true then N4 ((⟨0,t.Name,t.mJ,t.mx,t.Max,t.hD,t.c7,t.Key,0,t.Open⟩:b'),(⟨0,[],0,0,0,[],[],0,0,false⟩:b'))>>=λOZ=>some OZ
 else some false
 else if decide (t.Kind=8)=true then some (bif decide (0<=t.Max)then decide (t.Max<=50)else false)>>=λalr=>if decide (t.Kind=8)=true then (if alr=true then N4 ((⟨0,t.Name,t.mJ,t.mx,0,t.hD,t.c7,0,0,t.Open⟩:b'),(⟨0,[],0,0,0,[],[],0,0,false⟩:b'))else some false)>>=λabP=>some (bif alr then abP else false)
 else (if alr=true then N4 ((⟨0,t.Name,t.mJ,t.mx,0,t.hD,t.c7,t.Key,0,t.Open⟩:b'),(⟨0,[],0,0,0,[],[],0,0,false⟩:b'))else some false)>>=λNz=>some (bif alr then Nz else false)
 else if decide (t.Kind=9)=true then N4 ((⟨0,t.Name,t.mJ,t.mx,t.Max,t.hD,t.c7,t.Key,0,t.Open⟩:b'),(⟨0,[],0,0,0,[],[],0,0,false⟩:b'))>>=λQa=>some Qa
 else some false
 else if decide (t.Kind=6)=true then SA t.Name>>=λah5=>(if ah5=true then aaS t else some false)>>=λaMH=>some (bif ah5 then aMH else false)>>=λaz5=>(if az5=true then N4 ((⟨0,[],t.mJ,t.mx,t.Max,t.hD,[],t.Key,t.h6,bif t.Open then decide (t.Kind=5)else false⟩:b'),(⟨0,[],0,0,0,[],[],0,0,false⟩:b'))else some false)>>=λJP=>some (bif az5 then JP else false)
 else some (decide (t.Kind=7))>>=λaz7=>if az7=true then if az7=true then some (bif decide (0<=t.Max)then decide (t.Max<=50)else false)>>=λals=>if decide (t.Kind=8)=true then (if als=true then N4 ((⟨0,t.Name,t.mJ,t.mx,0,t.hD,t.c7,0,0,t.Open⟩:b'),(⟨0,[],0,0,0,[],[],0,0,false⟩:b'))else some false)>>=λaql=>some (bif als then aql else false)
 else (if als=true then N4 ((⟨0,t.Name,t.mJ,t.mx,0,t.hD,t.c7,t.Key,0,t.Open⟩:b'),(⟨0,[],0,0,0,[],[],0,0,false⟩:b'))else some false)>>=λZR=>some (bif als then ZR else false)
 else if decide (t.Kind=9)=true then N4 ((⟨0,t.Name,t.mJ,t.mx,t.Max,t.hD,t.c7,t.Key,0,t.Open⟩:b'),(⟨0,[],0,0,0,[],[],0,0,false⟩:b'))>>=λah6=>some ah6
 else some false
 else if decide (t.Kind=8)=true then some (bif decide (0<=t.Max)then decide (t.Max<=50)else false)>>=λalu=>if decide (t.Kind=8)=true then (if alu=true then N4 ((⟨0,t.Name,t.mJ,t.mx,0,t.hD,t.c7,0,0,t.Open⟩:b'),(⟨0,[],0,0,0,[],[],0,0,false⟩:b'))else some false)>>=λOA=>some (bif alu then OA else false)
 else (if alu=true then N4 ((⟨0,t.Name,t.mJ,t.mx,0,t.hD,t.c7,t.Key,0,t.Open⟩:b'),(⟨0,[],0,0,0,[],[],0,0,false⟩:b'))else some false)>>=λaMI=>some (bif alu then aMI else false)
 else if decide (t.Kind=9)=true then N4 ((⟨0,t.Name,t.mJ,t.mx,t.Max,t.hD,t.c7,t.Key,0,t.Open⟩:b'),(⟨0,[],0,0,0,[],[],0,0,false⟩:b'))>>=λaMJ=>some aMJ
 else some false
theorem aF9:iy avt LP:= .km (.k aEE (.k asA (.k aEP (.k aEQ .n))))
def YR(dJ:List hv×Int×Int×b'×ev):Option (b'×ev):=
 match dJ with
 |(t7,aie,t9,qj,h4)=>
 if decide (t9<aie)=true then if hz t9 t7.length=true then some [(t7.getD t9.toNat d5).jb]>>=λt16=>if q5 8 (h4++t16).length=true then YR (t7,aie,hK .i64 t9 1,qj,h4++t16)
 else none
 else none
 else some (qj,h4)
  partial_fixpoint
theorem aER:xi 116 0 [0] awt YR:= .rx YR.partial_correctness
def ajJ(t:b'):Option ev:=
 YR (t.c7,(t.c7.length:Int),0,t,[])>>=λo=>if decide (o.1.Kind=8)=true then some [o.1.Key]>>=λt25=>if q5 8 (o.2++t25).length=true then some (o.2++t25)>>=λl=>if decide (7<=o.1.Kind)=true then some [o.1.h6]>>=λt33=>if q5 8 (l++t33).length=true then some (l++t33)
 else none
 else some l
 else none
 else if decide (7<=o.1.Kind)=true then some [o.1.h6]>>=λaz2=>if q5 8 (o.2++az2).length=true then some (o.2++az2)
 else none
 else some o.2
theorem aF':iy avu ajJ:= .km .n (.k aER .n)
def WZ(dJ:List b'×Int×Int×ev×Int×Int×List b'×List b8×Int×b8×Int×Int×Int×List s4×List hv×Int×Int×Bool):Option ((Int) ⊕ (List b'×Int×Int×List b'×List b8×Int×b8×Int×Int×Int×List s4×List hv×Int×Int×Bool)):=
 match dJ with
 |(azV,azX,azY,t38,aid,t40,ac0,agd,age,agf,agh,agi,agj,agk,agl,V3,TN,TO)=>
 if decide (t40<aid)=true then if hz t40 t38.length=true then some (t38.getD t40.toNat 0)>>=λRb=>if(bif decide (Rb<0)then true else decide ((ac0.length:Int)<=Rb))=true then some (.inl 4)
 else WZ (azV,azX,azY,t38,aid,hK .i64 t40 1,ac0,agd,age,agf,agh,agi,agj,agk,agl,V3,TN,TO)
 else none
 else some (.inr (azV,azX,azY,ac0,agd,age,agf,agh,agi,agj,agk,agl,V3,TN,TO))
  partial_fixpoint
theorem aDH:xi 88 0 [0,0] awy WZ:= .rx WZ.partial_correctness
def YQ(dJ:List b'×Int×Int×List b'×List b8):Option ((Int) ⊕ (Unit)):=
 match dJ with
 |(t14,azW,t16,b,lo)=>
 if decide (t16<azW)=true then if hz t16 t14.length=true then some (t14.getD t16.toNat d4)>>=λb9=>LP b9>>=λr=>if(bif (!r)then true else bif (!(decide (b9.Name=[])))then Pn lo b9.Name else false)=true then some (.inl 1)
 else ajJ b9>>=λoJ=>WZ (t14,azW,t16,oJ,(oJ.length:Int),0,b,O7 lo b9.Name,b9.Kind,b9.Name,b9.mJ,b9.mx,b9.Max,b9.hD,b9.c7,b9.Key,b9.h6,b9.Open)>>=λP9=>match P9 with
 |.inl JZ=>
 some (.inl JZ)
 |.inr hR=>
 some (decide (hR.2.2.2.2.2.1=8))>>=λt56=>if(hz hR.2.2.2.2.2.2.2.2.2.2.2.2.1 hR.2.2.2.1.length||(!t56))=true then some (decide ((hR.2.2.2.1.getD hR.2.2.2.2.2.2.2.2.2.2.2.2.1.toNat d4).Kind<1))>>=λt65=>if(hz hR.2.2.2.2.2.2.2.2.2.2.2.2.1 hR.2.2.2.1.length||(!(t56&&(!t65))))=true then if(bif t56 then bif t65 then true else decide (4<(hR.2.2.2.1.getD hR.2.2.2.2.2.2.2.2.2.2.2.2.1.toNat d4).Kind)else false)=true then some (.inl 1)
 else YQ (hR.1,hR.2.1,hK .i64 hR.2.2.1 1,hR.2.2.2.1,hR.2.2.2.2.1)
 else none
 else none
 else none
 else some (.inr ())
  partial_fixpoint
theorem aFn:xi 88 0 [0] av8 YQ:= .rx YQ.partial_correctness (.k aF9 (.k aF' .n)) (.k aDH .n)
def aaf(s:f4):Option (Int):=
 if decide (32<(s.Types.length:Int))=true then some 3
 else YQ (s.Types,(s.Types.length:Int),0,s.Types,[])>>=λo=>match o with
 |.inl hq=>
 some hq
 |.inr g'=>
 some 0
theorem aEG:iy av7 aaf:= .km .n (.k aFn .n)
def amD(dJ:s4×Int):Option (Bool×Int):=
 match dJ with
 |(b9,b)=>
 some (decide (b9.c6=b),b)
theorem aFo:iy avr amD:= .km
def VG(dJ:List s4×Int×Int×Int):Option ((Int×Int) ⊕ (Int)):=
 match dJ with
 |(C4,Vu,t8,h4)=>
 if decide (t8<Vu)=true then if hz t8 C4.length=true then amD (C4.getD t8.toNat yt,h4)>>=λr=>if r.1=true then some (.inl (t8,r.2))
 else VG (C4,Vu,hK .i64 t8 1,r.2)
 else none
 else some (.inr h4)
  partial_fixpoint
theorem aDv:xi 99 1 [0] awa VG:= .rx VG.partial_correctness (.k aFo .n)
def amn(dJ:List s4×Int):Option (Int×Int):=
 match dJ with
 |(s,b)=>
 VG (s,(s.length:Int),0,b)>>=λo=>match o with
 |.inl hq=>
 some (hq.1,hq.2)
 |.inr g'=>
 some ((-1),g')
theorem aDy:iy av' amn:= .km .n (.k aDv .n)
def ajy(dJ:b'×Int):Option (Int×Bool):=
 match dJ with
 |(t,id)=>
 amn (t.hD,id)>>=λr=>some (ZC r.1 0,decide (0<=r.1))
theorem aE0:iy av3 ajy:= .km (.k aDy .n)
def amE(dJ:hv×Int):Option (Bool×Int):=
 match dJ with
 |(m,b)=>
 some (decide (m.c6=b),b)
theorem aFp:iy avx amE:= .km
def W3(dJ:List hv×Int×Int×Int):Option ((Int×Int) ⊕ (Int)):=
 match dJ with
 |(C4,Vu,t8,h4)=>
 if decide (t8<Vu)=true then if hz t8 C4.length=true then some (C4.getD t8.toNat d5)>>=λb9=>amE ((⟨b9.c6,b9.Name,b9.jb,b9.r2,b9.qx,a6.eta b9.ix⟩:hv),h4)>>=λr=>if r.1=true then some (.inl (t8,r.2))
 else W3 (C4,Vu,hK .i64 t8 1,r.2)
 else none
 else some (.inr h4)
  partial_fixpoint
theorem aDw:xi 143 1 [0] awu W3:= .rx W3.partial_correctness (.k aFp .n)
def amo(dJ:List hv×Int):Option (Int×Int):=
 match dJ with
 |(s,b)=>
 W3 (s,(s.length:Int),0,b)>>=λo=>match o with
 |.inl hq=>
 some (hq.1,hq.2)
 |.inr g'=>
 some ((-1),g')
theorem aDz:iy avw amo:= .km .n (.k aDw .n)
def aaU(dJ:b'×Int):Option (Int×Bool):=
 match dJ with
 |(t,id)=>
 amo (t.c7,id)>>=λr=>some (ZC r.1 0,decide (0<=r.1))
theorem arB:iy avs aaU:= .km (.k aDz .n)
def ajt(b9:Int):Option (Bool):=
 some (!(decide (b9=b9)))
theorem aFI:iy avP ajt:= .km
def ajK(dJ:Int×Int):Option (Int):=
 match dJ with
 |(b9,y)=>
 ajt b9>>=λr=>ajt y>>=λoJ=>if r=true then if oJ=true then some 0
 else some (-1)
 else if oJ=true then some 1
 else if decide (b9<y)=true then some (-1)
 else if decide (y<b9)=true then some 1
 else some 0
theorem aGa:iy avC ajK:= .km (.k aFI .n)
def ai'(b9:Int):Option (Bool):=
 some (!(decide (b9=b9)))
theorem aGb:iy avQ ai':= .km
def aeY(dJ:Int×Int):Option (Int):=
 match dJ with
 |(b9,y)=>
 ai' b9>>=λr=>ai' y>>=λoJ=>if r=true then if oJ=true then some 0
 else some (-1)
 else if oJ=true then some 1
 else if decide (b9<y)=true then some (-1)
 else if decide (y<b9)=true then some 1
 else some 0
theorem aE1:iy avF aeY:= .km (.k aGb .n)
def aja(b9:b8):Option (Bool):=
 some (!(decide (b9=b9)))
theorem aGc:iy avR aja:= .km
def ajz(dJ:b8×b8):Option (Int):=
 match dJ with
 |(b9,y)=>
 aja b9>>=λr=>aja y>>=λoJ=>if r=true then if oJ=true then some 0
 else some (-1)
 else if oJ=true then some 1
 else if Op.bytesLess b9 y=true then some (-1)
 else if(!(Op.bytesLess b9 y||decide (b9=y)))=true then some 1
 else some 0
theorem aE2:iy avG ajz:= .km (.k aGc .n)
def YZ(dJ:Int×ev×Int×Int):Option ((Int) ⊕ (Int)):=
 match dJ with
 |(ard,t6,Vu,t8)=>
 if decide (t8<Vu)=true then if hz t8 t6.length=true then some (t6.getD t8.toNat 0)>>=λb9=>if(!(decide (b9=ard)))=true then some (.inl b9)
 else YZ (ard,t6,Vu,hK .i64 t8 1)
 else none
 else some (.inr ard)
  partial_fixpoint
theorem aFJ:xi 176 0 [0] awv YZ:= .rx YZ.partial_correctness
def aj3(aAd:ev):Option (Int):=
 YZ (0,aAd,(aAd.length:Int),0)>>=λo=>match o with
 |.inl hq=>
 some hq
 |.inr g'=>
 some g'
theorem aI8:iy avE aj3:= .km .n (.k aFJ .n)
def aeZ(n:Int):Option (Int):=
 some (aeq .u64 (WI .u64 (G' .u64 n) 1) (G' .u64 (abS .i64 n 63)))
theorem aE3:iy avD aeZ:= .km
def acK(dJ:a6×a6):Option (Int):=
 match dJ with
 |(a,b)=>
 if(!(decide (a.Kind=b.Kind)))=true then some 0
 else if decide (a.Kind=1)=true then if JB a.s0 b.s0=true then some 0
 else if b.s0=true then some (-1)
 else some 1
 else if decide (a.Kind=2)=true then aeZ a.oj>>=λr=>aeZ b.oj>>=λoJ=>ajK (r,oJ)>>=λHW=>some HW
 else if decide (a.Kind=3)=true then aeY ((a.o'.length:Int),(b.o'.length:Int))>>=λr0=>ajz (a.o',b.o')>>=λC3=>aj3 [r0,C3]>>=λK1=>some K1
 else if decide (a.Kind=4)=true then aeY (a.c6,b.c6)>>=λNA=>some NA
 else some 0
theorem aE4:iy avv acK:= .km (.k aE3 (.k aGa (.k aE1 (.k aE2 (.k aI8 .n)))))
mutual
def ab6(dJ:List a6×List a6):Option (Bool):=
 match dJ with
 |(s1,s2)=>
 if(!(decide ((s1.length:Int)=(s2.length:Int))))=true then some false
 else ab4 (s2,s1,(s1.length:Int),0)>>=λo=>match o with
 |.inl hq=>
 some hq
 |.inr g'=>
 some true
  partial_fixpoint
def YU(dJ:a6×a6):Option (Bool):=
 match dJ with
 |(a,b)=>
 some (bif bif bif bif decide (a.Kind=b.Kind)then JB a.s0 b.s0 else false then decide (a.oj=b.oj)else false then decide (a.o'=b.o')else false then decide (a.c6=b.c6)else false)>>=λt37=>(if t37=true then Y3 (a.Rest,b.Rest)else some false)>>=λr=>some (bif t37 then r else false)>>=λt44=>(if t44=true then ab6 (a.r3,b.r3)else some false)>>=λoJ=>some (bif t44 then oJ else false)>>=λt51=>(if t51=true then ab6 (a.qb,b.qb)else some false)>>=λHW=>some (bif t51 then HW else false)
  partial_fixpoint
def ab4(dJ:List a6×List a6×Int×Int):Option ((Bool) ⊕ (Unit)):=
 match dJ with
 |(M',t15,ZZ,t17)=>
 if decide (t17<ZZ)=true then if hz t17 t15.length=true then if hz t17 M'.length=true then YU (a6.eta (t15.getD t17.toNat f5),a6.eta (M'.getD t17.toNat f5))>>=λr=>if(!r)=true then some (.inl false)
 else ab4 (M',t15,ZZ,hK .i64 t17 1)
 else none
 else none
 else some (.inr ())
  partial_fixpoint
end
theorem aDu:Oa akn ab6/\PW 82 0 [0] af0 ab4/\Oa agE YU:=ab6.mutual_partial_correctness (NM akn) (PV 82 0 [0] af0) (NM agE)
 (λ_ h1 _ _ h=>OF h .n (.k (QH af0 h1) .n))
 (λ_ _ h1 ad _ _ h=>QG af0 h1 h (.k (Is agE ad) .n))
 (λ_ h0 _ _ h=>OF h (.k amq (.k (Is akn h0) .n)))
theorem aGd:iy agE YU:=Is _ aDu.2.2
end
section
open Go Go.Proofs.YtandcioiaooocaaGreat.Shv
open Tryz
set_option maxRecDepth 100000
set_option linter.all false

end
section
open Go Go.Proofs.YtandcioiaooocaaGreat.Shv
open Tryz
set_option maxRecDepth 100000
def W6(dJ:Int×a6×a6):Option ((Bool) ⊕ (a6×a6)):=
 match dJ with
 |(i,h4,O9)=>
 if decide (i<(h4.Rest.length:Int))=true then if hz i h4.Rest.length=true then some (h4.Rest.getD i.toNat Na)>>=λb9=>if hz i O9.Rest.length=true then some (O9.Rest.getD i.toNat Na)>>=λJQ=>if(!(NN b9.c6 JQ.c6&&(Pj b9.Data JQ.Data&&true)))=true then some (.inl false)
 else W6 (hK .i64 i 1,a6.eta h4,a6.eta O9)
 else none
 else none
 else some (.inr (a6.eta h4,a6.eta O9))
  partial_fixpoint
theorem aDF:xi 40 0 [0] av0 W6:= .rx W6.partial_correctness
mutual
def UK(dJ:a6×a6):Option (Bool):=
 match dJ with
 |(a,b)=>
 if(bif bif bif bif bif (!(decide (a.Kind=b.Kind)))then true else(!(JB a.s0 b.s0))then true else(!(decide (a.oj=b.oj)))then true else(!(decide (a.o'=b.o')))then true else(!(decide (a.c6=b.c6)))then true else(!(decide ((a.Rest.length:Int)=(b.Rest.length:Int)))))=true then some false
 else W6 (0,(⟨a.Kind,a.s0,a.oj,a.o',a.c6,a.r3,a.qb,a.Rest⟩:a6),(⟨b.Kind,b.s0,b.oj,b.o',b.c6,b.r3,b.qb,b.Rest⟩:a6))>>=λo=>match o with
 |.inl hq=>
 some hq
 |.inr g'=>
 aff (g'.1.r3,g'.2.r3)>>=λr=>(if r=true then aff (g'.1.qb,g'.2.qb)else some false)>>=λoJ=>some (bif r then oJ else false)
  partial_fixpoint
def aff(dJ:List a6×List a6):Option (Bool):=
 match dJ with
 |(a,b)=>
 if(!(decide ((a.length:Int)=(b.length:Int))))=true then some false
 else ab7 (a,b,0)>>=λo=>match o with
 |.inl hq=>
 some hq
 |.inr g'=>
 some true
  partial_fixpoint
def ab7(dJ:List a6×List a6×Int):Option ((Bool) ⊕ (Unit)):=
 match dJ with
 |(aj',lo,i)=>
 if decide (i<(aj'.length:Int))=true then if hz i aj'.length=true then if hz i lo.length=true then UK (a6.eta (aj'.getD i.toNat f5),a6.eta (lo.getD i.toNat f5))>>=λr=>if(!r)=true then some (.inl false)
 else ab7 (aj',lo,hK .i64 i 1)
 else none
 else none
 else some (.inr ())
  partial_fixpoint
end
theorem aDl:Oa akl UK/\Oa aox aff/\PW 74 0 [0] agJ ab7:=UK.mutual_partial_correctness (NM akl) (NM aox) (PV 74 0 [0] agJ)
 (λ_ h1 _ _ h=>OF h (.k (Is aox h1) .n) (.k aDF .n))
 (λ_ ad _ _ h=>OF h .n (.k (QH agJ ad) .n))
 (λ_ _ h0 ad _ _ h=>QG agJ ad h (.k (Is akl h0) .n))
theorem amr:iy akl UK:=Is _ aDl.1
def aiY(dJ:a6×a6):Option (Bool):=
 match dJ with
 |(a,b)=>
 UK (a6.eta a,a6.eta b)>>=λr=>some r
theorem aDI:iy aBO aiY:= .km (.k amr .n)
def YL(dJ:Int×Int×a6):Option (Int):=
 match dJ with
 |(azl,K7,O9)=>
 if decide (K7<(O9.Rest.length:Int))=true then if hz K7 O9.Rest.length=true then YL (hK .i64 (hK .i64 azl 1) ((O9.Rest.getD K7.toNat Na).Data.length:Int),hK .i64 K7 1,a6.eta O9)
 else none
 else some azl
  partial_fixpoint
theorem aDQ:xi 46 0 [2] av1 YL:= .rx YL.partial_correctness
mutual
def VD(v:a6):Option (Int):=
 aaF (hK .i64 1 (v.o'.length:Int),0,a6.eta v)>>=λo=>aaG (o.1,0,a6.eta o.2)>>=λhq=>YL (hq.1,0,a6.eta hq.2)>>=λg'=>
 some g'
  partial_fixpoint
def aaF(dJ:Int×Int×a6):Option (Int×a6):=
 match dJ with
 |(ahE,i,qj)=>
 if decide (i<(qj.r3.length:Int))=true then if hz i qj.r3.length=true then VD (a6.eta (qj.r3.getD i.toNat f5))>>=λr=>aaF (hK .i64 ahE r,hK .i64 i 1,a6.eta qj)
 else none
 else some (ahE,a6.eta qj)
  partial_fixpoint
def aaG(dJ:Int×Int×a6):Option (Int×a6):=
 match dJ with
 |(azk,Md,h4)=>
 if decide (Md<(h4.qb.length:Int))=true then if hz Md h4.qb.length=true then VD (a6.eta (h4.qb.getD Md.toNat f5))>>=λoJ=>aaG (hK .i64 azk oJ,hK .i64 Md 1,a6.eta h4)
 else none
 else some (azk,a6.eta h4)
  partial_fixpoint
end
theorem aD3:Oa agF VD/\PW 46 0 [1] agH aaG/\PW 46 0 [0] agG aaF:=VD.mutual_partial_correctness (NM agF) (PV 46 0 [1] agH) (PV 46 0 [0] agG)
 (λ_ _ h1 ad _ _ h=>OF h .n (.k (QH agG ad) (.k (QH agH h1) (.k aDQ .n))))
 (λ_ _ h0 h1 _ _ h=>QG agH h1 h (.k (Is agF h0) .n))
 (λ_ _ h0 ad _ _ h=>QG agG ad h (.k (Is agF h0) .n))
theorem aFg:iy agF VD:=Is _ aD3.1
def NE(dJ:Int×Int×Int×List b'×b'):Option (Int×Int×List b'):=
 match dJ with
 |(ahE,K7,k,qj,h4)=>
 if(bif decide (k<(h4.c7.length:Int))then decide (k<100)else false)=true then if hz k h4.c7.length=true then VD (a6.eta (h4.c7.getD k.toNat d5).ix)>>=λr=>if hz k h4.c7.length=true then NE (hK .i64 (hK .i64 ahE r) ((h4.c7.getD k.toNat d5).Name.length:Int),K7,hK .i64 k 1,qj,h4)
 else none
 else none
 else some (ahE,K7,qj)
  partial_fixpoint
theorem aEr:xi 23 0 [0,0] awz NE:= .rx NE.partial_correctness (.k aFg .n)
def YN(dJ:Int×Int×List b'):Option (Int):=
 match dJ with
 |(Wy,i,b)=>
 if decide (i<(b.length:Int))=true then if hz i b.length=true then some (b.getD i.toNat d4)>>=λb9=>NE (hK .i64 (hK .i64 (hK .i64 Wy (b9.c7.length:Int)) (b9.hD.length:Int)) (b9.Name.length:Int),i,0,b,b9)>>=λhq=>YN (hq.1,hK .i64 hq.2.1 1,hq.2.2)
 else none
 else some Wy
  partial_fixpoint
theorem aD4:xi 23 0 [0] avT YN:= .rx YN.partial_correctness .n (.k aEr .n)
def aiI(s:f4):Option (Bool):=
 if decide (40<(s.Types.length:Int))=true then some false
 else YN (0,0,s.Types)>>=λo=>some (decide (o<=400))
theorem aFq:iy aCo aiI:= .km .n (.k aD4 .n)
def UM(t:b'):Option (b'):=
 if decide (t.Kind=1)=true then some (⟨t.Kind,[],0,0,0,[],[],0,0,false⟩:b')
 else if decide (t.Kind=2)=true then some (⟨t.Kind,[],t.mJ,t.mx,0,[],[],0,0,false⟩:b')
 else if decide (t.Kind=3)=true then some (⟨t.Kind,[],0,0,t.Max,[],[],0,0,false⟩:b')
 else if decide (t.Kind=4)=true then some (⟨t.Kind,t.Name,0,0,0,t.hD,[],0,0,t.Open⟩:b')
 else if decide (t.Kind=5)=true then some (⟨t.Kind,t.Name,0,0,0,[],t.c7,0,0,false⟩:b')
 else if decide (t.Kind=6)=true then some (⟨t.Kind,t.Name,0,0,0,[],t.c7,0,0,t.Open⟩:b')
 else if decide (t.Kind=7)=true then some (⟨t.Kind,[],0,0,t.Max,[],[],0,t.h6,false⟩:b')
 else if decide (t.Kind=8)=true then some (⟨t.Kind,[],0,0,t.Max,[],[],t.Key,t.h6,false⟩:b')
 else some (⟨t.Kind,[],0,0,0,[],[],0,t.h6,false⟩:b')
theorem aDJ:iy aBE UM:= .km
def afg(dJ:hv×hv):Option (Bool):=
 match dJ with
 |(a,b)=>
 some (bif bif bif bif decide (a.c6=b.c6)then decide (a.Name=b.Name)else false then decide (a.jb=b.jb)else false then JB a.r2 b.r2 else false then JB a.qx b.qx else false)>>=λt37=>(if t37=true then UK ((⟨a.ix.Kind,a.ix.s0,a.ix.oj,a.ix.o',a.ix.c6,a.ix.r3,a.ix.qb,a.ix.Rest⟩:a6),(⟨b.ix.Kind,b.ix.s0,b.ix.oj,b.ix.o',b.ix.c6,b.ix.r3,b.ix.qb,b.ix.Rest⟩:a6))else some false)>>=λr=>some (bif t37 then r else false)
theorem aDr:iy aB0 afg:= .km (.k amr .n)
def W7(dJ:Int×b'×b'):Option ((Bool) ⊕ (b'×b')):=
 match dJ with
 |(i,h4,O9)=>
 if decide (i<(h4.hD.length:Int))=true then if hz i h4.hD.length=true then some (h4.hD.getD i.toNat yt)>>=λb9=>if hz i O9.hD.length=true then some (O9.hD.getD i.toNat yt)>>=λJQ=>if(!(NN b9.c6 JQ.c6&&(Pj b9.Name JQ.Name&&true)))=true then some (.inl false)
 else W7 (hK .i64 i 1,h4,O9)
 else none
 else none
 else some (.inr (h4,O9))
  partial_fixpoint
theorem aDm:xi 133 0 [0] aww W7:= .rx W7.partial_correctness
def W8(dJ:Int×b'×b'):Option ((Bool) ⊕ (Unit)):=
 match dJ with
 |(Md,Y8,aoe)=>
 if decide (Md<(Y8.c7.length:Int))=true then if hz Md Y8.c7.length=true then some (Y8.c7.getD Md.toNat d5)>>=λaen=>if hz Md aoe.c7.length=true then some (aoe.c7.getD Md.toNat d5)>>=λRb=>afg ((⟨aen.c6,aen.Name,aen.jb,aen.r2,aen.qx,a6.eta aen.ix⟩:hv),(⟨Rb.c6,Rb.Name,Rb.jb,Rb.r2,Rb.qx,a6.eta Rb.ix⟩:hv))>>=λr=>if(!r)=true then some (.inl false)
 else W8 (hK .i64 Md 1,Y8,aoe)
 else none
 else none
 else some (.inr ())
  partial_fixpoint
theorem aDn:xi 133 0 [1] axJ W8:= .rx W8.partial_correctness (.k aDr .n)
def aiN(dJ:b'×b'):Option (Bool):=
 match dJ with
 |(a,b)=>
 if(bif bif bif bif bif bif bif bif bif (!(decide (a.Kind=b.Kind)))then true else(!(decide (a.Name=b.Name)))then true else(!(decide (a.mJ=b.mJ)))then true else(!(decide (a.mx=b.mx)))then true else(!(decide (a.Max=b.Max)))then true else(!(decide (a.Key=b.Key)))then true else(!(decide (a.h6=b.h6)))then true else(!(JB a.Open b.Open))then true else(!(decide ((a.hD.length:Int)=(b.hD.length:Int))))then true else(!(decide ((a.c7.length:Int)=(b.c7.length:Int)))))=true then some false
 else W7 (0,(⟨a.Kind,a.Name,a.mJ,a.mx,a.Max,a.hD,a.c7,a.Key,a.h6,a.Open⟩:b'),(⟨b.Kind,b.Name,b.mJ,b.mx,b.Max,b.hD,b.c7,b.Key,b.h6,b.Open⟩:b'))>>=λo=>match o with
 |.inl hq=>
 some hq
 |.inr g'=>
 W8 (0,g'.1,g'.2)>>=λP9=>match P9 with
 |.inl JZ=>
 some JZ
 |.inr hR=>
 some true
theorem aEs:iy aBD aiN:= .km .n (.k aDm (.k aDn .n))
def afn(b:Int):Option (Bool):=
 some (bif bif bif decide (97<=b)then decide (b<=122)else false then true else bif decide (65<=b)then decide (b<=90)else false then true else decide (b=95))
theorem arG:iy aB1 afn:= .km
def aiZ(b:Int):Option (Bool):=
 some (bif decide (48<=b)then decide (b<=57)else false)
theorem aDK:iy aB2 aiZ:= .km
def Xd(dJ:b8×Int):Option ((Bool) ⊕ (Unit)):=
 match dJ with
 |(C4,i)=>
 if decide (i<(C4.length:Int))=true then if hz i C4.length=true then afn (m5 C4 i)>>=λoJ=>some (!oJ)>>=λt27=>if(hz i C4.length||(!t27))=true then (if t27=true then aiZ (m5 C4 i)else some false)>>=λHW=>if(bif t27 then(!HW)else false)=true then some (.inl false)
 else Xd (C4,hK .i64 i 1)
 else none
 else none
 else some (.inr ())
  partial_fixpoint
theorem aEm:xi 135 0 [0] axK Xd:= .rx Xd.partial_correctness (.k arG (.k aDK .n))
def aaI(s:b8):Option (Bool):=
 some (bif decide (s=[])then true else decide (24<(s.length:Int)))>>=λt10=>if(hz 0 s.length||(!(!t10)))=true then (if(!t10)=true then afn (m5 s 0)else some false)>>=λr=>if(bif t10 then true else(!r))=true then some false
 else Xd (s,0)>>=λo=>match o with
 |.inl hq=>
 some hq
 |.inr g'=>
 some true
 else none
theorem amt:iy aBF aaI:= .km (.k arG .n) (.k aEm .n)
def aeW(dJ:Int×Int):Option (Bool):=
 match dJ with
 |(MU,n)=>
 some (bif bif decide (MU<n)then decide (1<=n)else false then decide (n<=1000)else false)
theorem arx:iy aB3 aeW:= .km
def VH(dJ:List s4×Int×Int):Option ((Bool) ⊕ (List s4×Int)):=
 match dJ with
 |(JY,K7,k)=>
 if decide (k<K7)=true then if hz k JY.length=true then if hz K7 JY.length=true then if decide ((JY.getD k.toNat yt).Name=(JY.getD K7.toNat yt).Name)=true then some (.inl false)
 else VH (JY,K7,hK .i64 k 1)
 else none
 else none
 else some (.inr (JY,K7))
  partial_fixpoint
theorem aDi:xi 136 0 [0,0] auu VH:= .rx VH.partial_correctness
def W'(dJ:List s4×Int×Int):Option ((Bool) ⊕ (List s4)):=
 match dJ with
 |(JH,MU,i)=>
 if decide (i<(JH.length:Int))=true then if hz i JH.length=true then aeW (MU,(JH.getD i.toNat yt).c6)>>=λr=>some (!r)>>=λt19=>if(hz i JH.length||(!(!t19)))=true then (if(!t19)=true then aaI (JH.getD i.toNat yt).Name else some false)>>=λoJ=>if(bif t19 then true else(!oJ))=true then some (.inl false)
 else VH (JH,i,0)>>=λP9=>match P9 with
 |.inl JZ=>
 some (.inl JZ)
 |.inr hR=>
 if hz hR.2 hR.1.length=true then W' (hR.1,(hR.1.getD hR.2.toNat yt).c6,hK .i64 hR.2 1)
 else none
 else none
 else none
 else some (.inr JH)
  partial_fixpoint
theorem aEe:xi 136 0 [0] axL W':= .rx W'.partial_correctness (.k arx (.k amt .n)) (.k aDi .n)
def afl(l:List s4):Option (Bool):=
 W' (l,0,0)>>=λo=>match o with
 |.inl hq=>
 some hq
 |.inr g'=>
 some (bif decide (1<=(g'.length:Int))then decide ((g'.length:Int)<=16)else false)
theorem aDR:iy aBG afl:= .km .n (.k aEe .n)
def VI(dJ:List hv×Bool×Int×Int×hv):Option ((Bool) ⊕ (List hv×Bool×Int×hv)):=
 match dJ with
 |(JY,azI,K7,k,lo)=>
 if decide (k<K7)=true then if hz k JY.length=true then if decide ((JY.getD k.toNat d5).Name=lo.Name)=true then some (.inl false)
 else VI (JY,azI,K7,hK .i64 k 1,(⟨lo.c6,lo.Name,lo.jb,lo.r2,lo.qx,a6.eta lo.ix⟩:hv))
 else none
 else some (.inr (JY,azI,K7,(⟨lo.c6,lo.Name,lo.jb,lo.r2,lo.qx,a6.eta lo.ix⟩:hv)))
  partial_fixpoint
theorem aDj:xi 137 0 [0,0] atP VI:= .rx VI.partial_correctness
def Xa(dJ:List hv×Bool×Int×Int):Option ((Bool) ⊕ (List hv×Bool)):=
 match dJ with
 |(JH,aqw,MU,i)=>
 if decide (i<(JH.length:Int))=true then if hz i JH.length=true then some (JH.getD i.toNat d5)>>=λb9=>aeW (MU,b9.c6)>>=λr=>some (!r)>>=λt23=>(if(!t23)=true then aaI b9.Name else some false)>>=λoJ=>if(bif bif bif t23 then true else(!oJ)then true else bif b9.r2 then b9.qx else false then true else bif (!aqw)then bif b9.r2 then true else b9.qx else false)=true then some (.inl false)
 else some (!b9.qx)>>=λt52=>(if t52=true then UK (a6.eta b9.ix,(⟨0,false,0,[],0,[],[],[]⟩:a6))else some false)>>=λHW=>if(bif t52 then(!HW)else false)=true then some (.inl false)
 else VI (JH,aqw,i,0,(⟨b9.c6,b9.Name,b9.jb,b9.r2,b9.qx,a6.eta b9.ix⟩:hv))>>=λP9=>match P9 with
 |.inl JZ=>
 some (.inl JZ)
 |.inr hR=>
 Xa (hR.1,hR.2.1,hR.2.2.2.c6,hK .i64 hR.2.2.1 1)
 else none
 else some (.inr (JH,aqw))
  partial_fixpoint
theorem aEf:xi 137 0 [0] axM Xa:= .rx Xa.partial_correctness (.k arx (.k amt (.k amr .n))) (.k aDj .n)
def ab'(dJ:List hv×Bool):Option (Bool):=
 match dJ with
 |(l,record)=>
 Xa (l,record,0,0)>>=λo=>match o with
 |.inl hq=>
 some hq
 |.inr g'=>
 some (bif decide ((g'.1.length:Int)<=16)then bif g'.2 then true else decide (1<=(g'.1.length:Int))else false)
theorem aDS:iy aBH ab':= .km .n (.k aEf .n)
def NC(t:b'):Option (Bool):=
 some (bif decide (t.Kind<1)then true else decide (9<t.Kind))>>=λt10=>(if(!t10)=true then UM t else some d4)>>=λr=>(if(!t10)=true then aiN (t,r)else some false)>>=λoJ=>some (bif t10 then true else(!oJ))>>=λt17=>(if(!t17)=true then Sv t.Kind else some false)>>=λHW=>(if((!t17)&&HW)=true then aaI t.Name else some false)>>=λr0=>if(bif t17 then true else bif HW then(!r0)else false)=true then some false
 else if decide (t.Kind=2)=true then some (decide (t.mJ<=t.mx))
 else if decide (t.Kind=3)=true then some (bif decide (0<=t.Max)then decide (t.Max<=200)else false)
 else if decide (t.Kind=4)=true then afl t.hD>>=λC3=>some C3
 else some (decide (t.Kind=5))>>=λt54=>if t54=true then if t54=true then ab' (t.c7,decide (t.Kind=5))>>=λK1=>some K1
 else some (decide (t.Kind=7))>>=λt63=>if t63=true then if t63=true then some (bif decide (0<=t.Max)then decide (t.Max<=50)else false)
 else some true
 else if decide (t.Kind=8)=true then some (bif decide (0<=t.Max)then decide (t.Max<=50)else false)
 else some true
 else if decide (t.Kind=6)=true then ab' (t.c7,decide (t.Kind=5))>>=λNA=>some NA
 else some (decide (t.Kind=7))>>=λaz6=>if az6=true then if az6=true then some (bif decide (0<=t.Max)then decide (t.Max<=50)else false)
 else some true
 else if decide (t.Kind=8)=true then some (bif decide (0<=t.Max)then decide (t.Max<=50)else false)
 else some true
theorem aFr:iy aCN NC:= .km (.k aDJ (.k aEs (.k arH (.k amt (.k aDR (.k aDS .n))))))
def YM(dJ:Int×b'×ev):Option (b'×ev):=
 match dJ with
 |(i,qj,h4)=>
 if decide (i<(qj.c7.length:Int))=true then if hz i qj.c7.length=true then some [(qj.c7.getD i.toNat d5).jb]>>=λt19=>if q5 8 (h4++t19).length=true then YM (hK .i64 i 1,qj,h4++t19)
 else none
 else none
 else some (qj,h4)
  partial_fixpoint
theorem aDT:xi 93 0 [0] av9 YM:= .rx YM.partial_correctness
def ai1(t:b'):Option ev:=
 YM (0,t,[])>>=λo=>if decide (o.1.Kind=8)=true then some [o.1.Key]>>=λt27=>if q5 8 (o.2++t27).length=true then some (o.2++t27)>>=λl=>if(bif bif decide (o.1.Kind=7)then true else decide (o.1.Kind=8)then true else decide (o.1.Kind=9))=true then some [o.1.h6]>>=λt45=>if q5 8 (l++t45).length=true then some (l++t45)
 else none
 else some l
 else none
 else if(bif bif decide (o.1.Kind=7)then true else decide (o.1.Kind=8)then true else decide (o.1.Kind=9))=true then some [o.1.h6]>>=λaz4=>if q5 8 (o.2++az4).length=true then some (o.2++az4)
 else none
 else some o.2
theorem aFh:iy aCO ai1:= .km .n (.k aDT .n)
def VJ(dJ:Int×Int×List b'×Int×b8×Int×Int×Int×List s4×List hv×Int×Int×Bool):Option ((Int) ⊕ (Int×List b'×Int×b8×Int×Int×Int×List s4×List hv×Int×Int×Bool)):=
 match dJ with
 |(apG,k,V3,TN,TO,US,UT,TP,Y7,TQ,QM,TR,TS)=>
 if decide (k<apG)=true then Sv TN>>=λr0=>if(hz k V3.length||(!r0))=true then if(bif r0 then decide ((V3.getD k.toNat d4).Name=TO)else false)=true then some (.inl 1)
 else VJ (apG,hK .i64 k 1,V3,TN,TO,US,UT,TP,Y7,TQ,QM,TR,TS)
 else none
 else some (.inr (apG,V3,TN,TO,US,UT,TP,Y7,TQ,QM,TR,TS))
  partial_fixpoint
theorem aEg:xi 53 0 [0,0] awA VJ:= .rx VJ.partial_correctness (.k arH .n)
def YI(dJ:Int×ev×Int×List b'×Int×b8×Int×Int×Int×List s4×List hv×Int×Int×Bool):Option ((Int) ⊕ (Int×List b'×Int×b8×Int×Int×Int×List s4×List hv×Int×Int×Bool)):=
 match dJ with
 |(ay6,l,adG,SO,TT,PZ,TU,TV,SQ,Xz,XA,XD,XF,UU)=>
 if decide (adG<(l.length:Int))=true then if hz adG l.length=true then some (decide (l.getD adG.toNat 0<0))>>=λt58=>if(hz adG l.length||(!(!t58)))=true then if(bif t58 then true else decide ((SO.length:Int)<=l.getD adG.toNat 0))=true then some (.inl 4)
 else YI (ay6,l,hK .i64 adG 1,SO,TT,PZ,TU,TV,SQ,Xz,XA,XD,XF,UU)
 else none
 else none
 else some (.inr (ay6,SO,TT,PZ,TU,TV,SQ,Xz,XA,XD,XF,UU))
  partial_fixpoint
theorem aEh:xi 53 0 [1,0] awB YI:= .rx YI.partial_correctness
def WV(dJ:Int×List b'):Option ((Int) ⊕ (Unit)):=
 match dJ with
 |(i,b)=>
 if decide (i<(b.length:Int))=true then if hz i b.length=true then some (b.getD i.toNat d4)>>=λb9=>NC b9>>=λr=>if(!r)=true then some (.inl 1)
 else VJ (i,0,b,b9.Kind,b9.Name,b9.mJ,b9.mx,b9.Max,b9.hD,b9.c7,b9.Key,b9.h6,b9.Open)>>=λP9=>match P9 with
 |.inl JZ=>
 some (.inl JZ)
 |.inr hR=>
 ai1 (⟨hR.2.2.1,hR.2.2.2.1,hR.2.2.2.2.1,hR.2.2.2.2.2.1,hR.2.2.2.2.2.2.1,hR.2.2.2.2.2.2.2.1,hR.2.2.2.2.2.2.2.2.1,hR.2.2.2.2.2.2.2.2.2.1,hR.2.2.2.2.2.2.2.2.2.2.1,hR.2.2.2.2.2.2.2.2.2.2.2⟩:b')>>=λoJ=>YI (hR.1,oJ,0,hR.2.1,hR.2.2.1,hR.2.2.2.1,hR.2.2.2.2.1,hR.2.2.2.2.2.1,hR.2.2.2.2.2.2.1,hR.2.2.2.2.2.2.2.1,hR.2.2.2.2.2.2.2.2.1,hR.2.2.2.2.2.2.2.2.2.1,hR.2.2.2.2.2.2.2.2.2.2.1,hR.2.2.2.2.2.2.2.2.2.2.2)>>=λahZ=>match ahZ with
 |.inl Uh=>
 some (.inl Uh)
 |.inr Lu=>
 some (decide (Lu.2.2.1=8))>>=λt71=>if(hz Lu.2.2.2.2.2.2.2.2.2.1 Lu.2.1.length||(!t71))=true then (if t71=true then amu (Lu.2.1.getD Lu.2.2.2.2.2.2.2.2.2.1.toNat d4).Kind else some false)>>=λHW=>if(bif t71 then(!HW)else false)=true then some (.inl 1)
 else WV (hK .i64 Lu.1 1,Lu.2.1)
 else none
 else none
 else some (.inr ())
  partial_fixpoint
theorem aEt:xi 53 0 [0] av2 WV:= .rx WV.partial_correctness (.k aFr (.k aFh (.k aEB .n))) (.k aEg (.k aEh .n))
def aaO(s:f4):Option (Int):=
 if decide (32<(s.Types.length:Int))=true then some 3
 else WV (0,s.Types)>>=λo=>match o with
 |.inl hq=>
 some hq
 |.inr g'=>
 some 0
theorem aDL:iy aCx aaO:= .km .n (.k aEt .n)
def VC(dJ:f4×Int):Option (Int):=
 match dJ with
 |(s,t)=>
 aaO s>>=λr=>if(!(decide (r=0)))=true then some r
 else if(bif decide (t<0)then true else decide ((s.Types.length:Int)<=t))=true then some 4
 else some 0
theorem arJ:iy aCr VC:= .km (.k aDL .n)
end
section
open Go Go.Proofs.YtandcioiaooocaaGreat.Shv
open Tryz
set_option maxRecDepth 100000
set_option linter.all false

end
section
open Go Go.Proofs.YtandcioiaooocaaGreat.Shv
open Tryz
set_option maxRecDepth 100000
def NB(dJ:Int×List b'×ev×Int×ev):Option (a6×Bool×List b'×Int×ev×ev):=
 match dJ with
 |(Tq,b,lo,qj,h4)=>
 anK 8 h4>>=λr=>if(decide (r.1.length=h4.length)&&true)=true then some ((⟨0,false,0,[],0,[],[],[]⟩:a6),false,b,Tq,r.1,r.2)
 else none
theorem YK:iy aBw NB:= .km (.k amv .n)
def UN(dJ:b8×Int×Int×Int):Option (Int):=
 match dJ with
 |(C4,Wy,azZ,t18)=>
 if decide (t18<azZ)=true then if hz t18 C4.length=true then UN (C4,ah0 .u64 (WI .u64 Wy 8) (G' .u64 (m5 C4 t18)),azZ,hK .i64 t18 1)
 else none
 else some Wy
  partial_fixpoint
theorem aDM:xi 118 0 [0] axN UN:= .rx UN.partial_correctness
def aaT(s:b8):Option (Int×Int):=
 some (!(decide (s=[])))>>=λt7=>if(hz 0 s.length||(!t7))=true then if(bif t7 then decide (m5 s 0=0)else false)=true then some (0,2)
 else if decide (8<(s.length:Int))=true then some (0,7)
 else UN (s,0,(s.length:Int),0)>>=λo=>some (o,0)
 else none
theorem aES:iy aBx aaT:= .km .n (.k aDM .n)
def aiJ(n:Int):Option (Int):=
 some (aeq .i64 (G' .i64 (abS .u64 n 1)) (MP .i64 0 (G' .i64 (akc .u64 n 1))))
theorem aFs:iy aBy aiJ:= .km
def YG(dJ:List b8×Int×List b'×ev×Int×b'×Int×Bool×Int×b8×Int×Int×Bool×Int×b8×Int×ev×List a6):Option ((Bool×List b'×Int×a6×ev×ev) ⊕ (List b8×List b'×ev×Int×b'×Int×Bool×Int×b8×Int×Int×Bool×Int×b8×Int×ev×List a6)):=
 match dJ with
 |(JY,Md,ac5,ac6,ac7,agp,agq,agr,ags,agt,agu,ac8,avf,avg,avh,avi,aof,XR)=>
 if decide (Md<(XR.length:Int))=true then some (MP .i64 Md 1)>>=λt86=>if hz t86 XR.length=true then if decide (t86.toNat<XR.length)=true then if hz Md XR.length=true then if decide (Md.toNat<XR.length)=true then acK (a6.eta (XR.getD t86.toNat f5),a6.eta (XR.getD Md.toNat f5))>>=λabQ=>if decide (0<=abQ)=true then NB (1,ac5,ac6,ac7,aof)>>=λQ6=>some (.inl (Q6.2.1,Q6.2.2.1,Q6.2.2.2.1,a6.eta Q6.1,Q6.2.2.2.2.1,Q6.2.2.2.2.2))
 else YG (JY,hK .i64 Md 1,ac5,ac6,ac7,agp,agq,agr,ags,agt,agu,ac8,avf,avg,avh,avi,aof,XR)
 else none
 else none
 else none
 else none
 else some (.inr (JY,ac5,ac6,ac7,agp,agq,agr,ags,agt,agu,ac8,avf,avg,avh,avi,aof,XR))
  partial_fixpoint
theorem aDk:xi 123 2 [1] axQ YG:= .rx YG.partial_correctness (.k aE4 (.k YK .n))
def aac(dJ:b8×Int×Int×Int):Option ((Int×Int×Int) ⊕ (Unit)):=
 match dJ with
 |(C4,n,aic,t11)=>
 if decide (t11<aic)=true then if hz t11 C4.length=true then some (m5 C4 t11)>>=λt16=>if(bif decide (t11=9)then decide (1<t16)else false)=true then some (.inl (0,0,7))
 else if decide (128<=t16)=true then some (Nw .i64 7 t11)>>=λt41=>if decide (0<=t41)=true then aac (C4,ah0 .u64 n (WI .u64 (G' .u64 (akc .u8 t16 127)) t41),aic,hK .i64 t11 1)
 else none
 else if(bif decide (t16=0)then decide (0<t11)else false)=true then some (.inl (0,0,2))
 else some (Nw .i64 7 t11)>>=λt21=>if decide (0<=t21)=true then some (.inl (ah0 .u64 n (WI .u64 (G' .u64 t16) t21),hK .i64 t11 1,0))
 else none
 else none
 else some (.inr ())
  partial_fixpoint
theorem aE5:xi 206 0 [0] axO aac:= .rx aac.partial_correctness
def ajj(s:b8):Option (Int×Int×Int):=
 aac (s,0,ahC 10 (s.length:Int),0)>>=λo=>match o with
 |.inl hq=>
 some (hq.1,hq.2.1,hq.2.2)
 |.inr g'=>
 some (0,0,10)
theorem aFS:iy aCm ajj:= .km .n (.k aE5 .n)
def YV(s:b8):Option (Int×b8×Bool):=
 ajj s>>=λr=>if(!(decide (r.2.2=0)))=true then some (0,[],false)
 else if ME r.2.1 (s.length:Int) s.length=true then some (r.1,LY s r.2.1 (s.length:Int),true)
 else none
theorem amg:iy aB' YV:= .km (.k aFS .n)
def ae6(s:b8):Option (b8×b8×Bool):=
 YV s>>=λr=>if(bif (!r.2.2)then true else decide (G' .u64 (r.2.1.length:Int)<r.1))=true then some ([],[],false)
 else if ME 0 r.1 r.2.1.length=true then if ME r.1 (r.2.1.length:Int) r.2.1.length=true then some (LY r.2.1 0 r.1,LY r.2.1 r.1 (r.2.1.length:Int),true)
 else none
 else none
theorem asJ:iy aCa ae6:= .km (.k amg .n)
def TA(dJ:b8×List b8):Option ((Int) ⊕ (List b8)):=
 match dJ with
 |(s,lo)=>
 if(!(decide (s=[])))=true then ae6 s>>=λr=>if(!r.2.2)=true then some (.inl 12)
 else some [r.1]>>=λt22=>if q5 16 (lo++t22).length=true then TA (r.2.1,lo++t22)
 else none
 else some (.inr lo)
  partial_fixpoint
theorem aFt:xi 157 0 [0] axP TA:= .rx TA.partial_correctness (.k asJ .n)
def UO(Q4:b8):Option (List b8×Int):=
 TA (Q4,[])>>=λo=>match o with
 |.inl hq=>
 some ([],hq)
 |.inr g'=>
 some (g',0)
theorem asB:iy aBR UO:= .km .n (.k aFt .n)
mutual
def Rr(v:a6):Option (a6):=
 Qi 120 v.r3>>=λr=>Qi 120 v.qb>>=λoJ=>Qi 24 v.Rest>>=λHW=>aaP ((r.length:Int),0,v.Kind,v.s0,v.oj,v.o',v.c6,0,false,0,[],0,r,oJ,HW)>>=λo=>aaQ ((o.2.2.2.2.2.2.2.2.2.2.2.1.length:Int),0,o.1,o.2.1,o.2.2.1,o.2.2.2.1,o.2.2.2.2.1,o.2.2.2.2.2.1,o.2.2.2.2.2.2.1,o.2.2.2.2.2.2.2.1,o.2.2.2.2.2.2.2.2.1,o.2.2.2.2.2.2.2.2.2.1,o.2.2.2.2.2.2.2.2.2.2.2.1,o.2.2.2.2.2.2.2.2.2.2.1,o.2.2.2.2.2.2.2.2.2.2.2.2)>>=λhq=>some (⟨hq.1,hq.2.1,hq.2.2.1,hq.2.2.2.1,hq.2.2.2.2.1,hq.2.2.2.2.2.2.2.2.2.2.1,hq.2.2.2.2.2.2.2.2.2.2.2.1,hq.2.2.2.2.2.2.2.2.2.2.2.2⟩:a6)
  partial_fixpoint
def aaP(dJ:Int×Int×Int×Bool×Int×b8×Int×Int×Bool×Int×b8×Int×List a6×List a6×List Jh):Option (Int×Bool×Int×b8×Int×Int×Bool×Int×b8×Int×List a6×List a6×List Jh):=
 match dJ with
 |(az1,t22,US,UT,TP,Y7,TQ,QM,TR,TS,SO,TT,PZ,TU,TV)=>
 if decide (t22<az1)=true then if hz t22 PZ.length=true then if decide (t22.toNat<PZ.length)=true then Rr (a6.eta (PZ.getD t22.toNat f5))>>=λr0=>if hz t22 PZ.length=true then if decide (t22.toNat<PZ.length)=true then aaP (az1,hK .i64 t22 1,US,UT,TP,Y7,TQ,QM,TR,TS,SO,TT,PZ.set t22.toNat (a6.eta r0),TU,TV)
 else none
 else none
 else none
 else none
 else some (US,UT,TP,Y7,TQ,QM,TR,TS,SO,TT,PZ,TU,TV)
  partial_fixpoint
def aaQ(dJ:Int×Int×Int×Bool×Int×b8×Int×Int×Bool×Int×b8×Int×List a6×List a6×List Jh):Option (Int×Bool×Int×b8×Int×Int×Bool×Int×b8×Int×List a6×List a6×List Jh):=
 match dJ with
 |(az3,t37,SQ,Xz,XA,XD,XF,UU,ac1,UW,QN,QO,O',SS,SU)=>
 if decide (t37<az3)=true then if hz t37 O'.length=true then if decide (t37.toNat<O'.length)=true then Rr (a6.eta (O'.getD t37.toNat f5))>>=λC3=>if hz t37 O'.length=true then if decide (t37.toNat<O'.length)=true then aaQ (az3,hK .i64 t37 1,SQ,Xz,XA,XD,XF,UU,ac1,UW,QN,QO,O'.set t37.toNat (a6.eta C3),SS,SU)
 else none
 else none
 else none
 else none
 else some (SQ,Xz,XA,XD,XF,UU,ac1,UW,QN,QO,SS,O',SU)
  partial_fixpoint
end
theorem aFu:Oa agC Rr/\PW 161 0 [1] afN aaQ/\PW 161 0 [0] afM aaP:=Rr.mutual_partial_correctness (NM agC) (PV 161 0 [1] afN) (PV 161 0 [0] afM)
 (λ_ _ h1 ad _ _ h=>OF h (.k amw (.k amx .n)) (.k (QH afM ad) (.k (QH afN h1) .n)))
 (λ_ _ h0 h1 _ _ h=>QG afN h1 h (.k (Is agC h0) .n))
 (λ_ _ h0 ad _ _ h=>QG afM ad h (.k (Is agC h0) .n))
theorem aE6:iy agC Rr:=Is _ aFu.1
def ams(dJ:yJ×hv):Option (Bool×hv):=
 match dJ with
 |(f,b)=>
 some (decide (f.c6=b.c6),(⟨b.c6,b.Name,b.jb,b.r2,b.qx,a6.eta b.ix⟩:hv))
theorem aEi:iy aBU ams:= .km
def W4(dJ:List yJ×Int×Int×hv):Option ((Int×hv) ⊕ (hv)):=
 match dJ with
 |(C4,Vu,t8,h4)=>
 if decide (t8<Vu)=true then if hz t8 C4.length=true then ams (C4.getD t8.toNat Lr,(⟨h4.c6,h4.Name,h4.jb,h4.r2,h4.qx,a6.eta h4.ix⟩:hv))>>=λr=>if r.1=true then some (.inl (t8,(⟨r.2.c6,r.2.Name,r.2.jb,r.2.r2,r.2.qx,a6.eta r.2.ix⟩:hv)))
 else W4 (C4,Vu,hK .i64 t8 1,(⟨r.2.c6,r.2.Name,r.2.jb,r.2.r2,r.2.qx,a6.eta r.2.ix⟩:hv))
 else none
 else some (.inr (⟨h4.c6,h4.Name,h4.jb,h4.r2,h4.qx,a6.eta h4.ix⟩:hv))
  partial_fixpoint
theorem aDx:xi 159 1 [0] axS W4:= .rx W4.partial_correctness (.k aEi .n)
def afe(dJ:List yJ×hv):Option (Int×hv):=
 match dJ with
 |(s,b)=>
 W4 (s,(s.length:Int),0,(⟨b.c6,b.Name,b.jb,b.r2,b.qx,a6.eta b.ix⟩:hv))>>=λo=>match o with
 |.inl hq=>
 some (hq.1,(⟨hq.2.c6,hq.2.Name,hq.2.jb,hq.2.r2,hq.2.qx,a6.eta hq.2.ix⟩:hv))
 |.inr g'=>
 some ((-1),(⟨g'.c6,g'.Name,g'.jb,g'.r2,g'.qx,a6.eta g'.ix⟩:hv))
theorem aDB:iy aBT afe:= .km .n (.k aDx .n)
def W9(dJ:List yJ×Int×Int×List b'×ev×Int×b'×Int×Bool×Int×b8×Int×Int×Bool×Int×b8×Int×ev×List a6×List Jh):Option ((Bool×List b'×Int×a6×ev×ev) ⊕ (List b'×ev×Int×Int×Bool×Int×b8×Int×Int×Bool×Int×b8×Int×ev×List a6×List Jh)):=
 match dJ with
 |(t117,aqL,t119,aaZ,aa0,aa1,ac2,ac3,XH,XI,XJ,Wa,XL,XM,XN,XO,XP,Pe,XQ,Wb)=>
 if decide (t119<aqL)=true then if hz t119 t117.length=true then some (t117.getD t119.toNat Lr)>>=λRb=>aaU (ac2,Rb.c6)>>=λaMN=>if aMN.2=true then W9 (t117,aqL,hK .i64 t119 1,aaZ,aa0,aa1,ac2,ac3,XH,XI,XJ,Wa,XL,XM,XN,XO,XP,Pe,XQ,Wb)
 else if Rb.r2=true then some [Rb.c6]>>=λt140=>if q5 8 (Pe++t140).length=true then NB (6,aaZ,aa0,aa1,Pe++t140)>>=λZS=>some (MP .i64 (ZS.2.2.2.2.1.length:Int) 1)>>=λt159=>if ME 0 t159 ZS.2.2.2.2.1.length=true then if decide (t159.toNat<=ZS.2.2.2.2.1.length)=true then some (.inl (false,ZS.2.2.1,ZS.2.2.2.1,a6.eta ZS.1,ZS.2.2.2.2.1.take t159.toNat,ZS.2.2.2.2.2))
 else none
 else none
 else none
 else some [(⟨Rb.c6,Rb.Data⟩:Jh)]>>=λt171=>if q5 24 (Wb++t171).length=true then W9 (t117,aqL,hK .i64 t119 1,aaZ,aa0,aa1,ac2,ac3,XH,XI,XJ,Wa,XL,XM,XN,XO,XP,Pe,XQ,Wb++t171)
 else none
 else none
 else some (.inr (aaZ,aa0,aa1,ac3,XH,XI,XJ,Wa,XL,XM,XN,XO,XP,Pe,XQ,Wb))
  partial_fixpoint
theorem aDo:xi 124 2 [1] axT W9:= .rx W9.partial_correctness (.k arB (.k YK .n))
def QE(dJ:Int×b8×List yJ):Option ((Int) ⊕ (List yJ)):=
 match dJ with
 |(C2,s,lo)=>
 if(!(decide (s=[])))=true then YV s>>=λr=>if(bif bif (!r.2.2)then true else decide (OY .u64 r.1 2<=C2)then true else decide (1000<OY .u64 r.1 2))=true then some (.inl 12)
 else ae6 r.2.1>>=λC3=>if(!C3.2.2)=true then some (.inl 12)
 else some [(⟨G' .i64 (OY .u64 r.1 2),decide (NY r.1 2=1),C3.1⟩:yJ)]>>=λt50=>if q5 32 (lo++t50).length=true then QE (OY .u64 r.1 2,C3.2.1,lo++t50)
 else none
 else some (.inr lo)
  partial_fixpoint
theorem aFi:xi 158 0 [0] axR QE:= .rx QE.partial_correctness (.k amg (.k asJ .n))
def VW(Q4:b8):Option (List yJ×Int):=
 QE (0,Q4,[])>>=λo=>match o with
 |.inl hq=>
 some ([],hq)
 |.inr g'=>
 some (g',0)
theorem aE7:iy aBS VW:= .km .n (.k aFi .n)
def UB(Q4:b8):Option (Int×b8×Int):=
 YV Q4>>=λr=>if(bif bif (!r.2.2)then true else decide (r.1<1)then true else decide (1000<r.1))=true then some (0,[],12)
 else some (G' .i64 r.1,r.2.1,0)
theorem aFT:iy aBQ UB:= .km (.k amg .n)
mutual
def afh(dJ:b'×b8×List b'×ev×Int×ev):Option (a6×Bool×List b'×ev×Int×ev):=
 match dJ with
 |(b9,p,b,lo,qj,h4)=>
 UO p>>=λr=>if(bif (!(decide (r.2=0)))then true else(!(decide (NY (r.1.length:Int) 2=0))))=true then NB (1,b,lo,qj,h4)>>=λr0=>some (a6.eta r0.1,r0.2.1,r0.2.2.1,r0.2.2.2.2.2,r0.2.2.2.1,r0.2.2.2.2.1)
 else if decide (b9.Max<OY .i64 (r.1.length:Int) 2)=true then NB (3,b,lo,qj,h4)>>=λJj=>some (a6.eta Jj.1,Jj.2.1,Jj.2.2.1,Jj.2.2.2.2.2,Jj.2.2.2.1,Jj.2.2.2.2.1)
 else aaB (r.1,0,b,lo,qj,b9,0,false,0,[],0,b9.Kind,false,0,[],0,h4,[])>>=λo=>match o with
 |.inl hq=>
 some (a6.eta hq.2.2.2.2.1,hq.1,hq.2.1,hq.2.2.1,hq.2.2.2.1,hq.2.2.2.2.2)
 |.inr g'=>
 YG (g'.1,1,g'.2.1,g'.2.2.1,g'.2.2.2.1,g'.2.2.2.2.1,g'.2.2.2.2.2.1,g'.2.2.2.2.2.2.1,g'.2.2.2.2.2.2.2.1,g'.2.2.2.2.2.2.2.2.1,g'.2.2.2.2.2.2.2.2.2.1,g'.2.2.2.2.2.2.2.2.2.2.1,g'.2.2.2.2.2.2.2.2.2.2.2.1,g'.2.2.2.2.2.2.2.2.2.2.2.2.1,g'.2.2.2.2.2.2.2.2.2.2.2.2.2.1,g'.2.2.2.2.2.2.2.2.2.2.2.2.2.2.1,g'.2.2.2.2.2.2.2.2.2.2.2.2.2.2.2.1,g'.2.2.2.2.2.2.2.2.2.2.2.2.2.2.2.2)>>=λP9=>match P9 with
 |.inl JZ=>
 some (a6.eta JZ.2.2.2.1,JZ.1,JZ.2.1,JZ.2.2.2.2.2,JZ.2.2.1,JZ.2.2.2.2.1)
 |.inr hR=>
 aaC (hR.1,1,hR.2.1,hR.2.2.1,hR.2.2.2.1,hR.2.2.2.2.1,hR.2.2.2.2.2.1,hR.2.2.2.2.2.2.1,hR.2.2.2.2.2.2.2.1,hR.2.2.2.2.2.2.2.2.1,hR.2.2.2.2.2.2.2.2.2.1,hR.2.2.2.2.2.2.2.2.2.2.1,hR.2.2.2.2.2.2.2.2.2.2.2.1,hR.2.2.2.2.2.2.2.2.2.2.2.2.1,hR.2.2.2.2.2.2.2.2.2.2.2.2.2.1,hR.2.2.2.2.2.2.2.2.2.2.2.2.2.2.1,hR.2.2.2.2.2.2.2.2.2.2.2.2.2.2.2.1,hR.2.2.2.2.2.2.2.2.2.2.2.2.2.2.2.2,[])>>=λahZ=>match ahZ with
 |.inl Uh=>
 some (a6.eta Uh.2.2.2.2.1,Uh.1,Uh.2.1,Uh.2.2.1,Uh.2.2.2.1,Uh.2.2.2.2.2)
 |.inr Lu=>
 some ((⟨Lu.2.2.2.2.2.2.2.2.1,Lu.2.2.2.2.2.2.2.2.2.1,Lu.2.2.2.2.2.2.2.2.2.2.1,Lu.2.2.2.2.2.2.2.2.2.2.2.1,Lu.2.2.2.2.2.2.2.2.2.2.2.2.1,Lu.2.2.2.2.2.2.2.2.2.2.2.2.2.2.1,Lu.2.2.2.2.2.2.2.2.2.2.2.2.2.2.2,[]⟩:a6),true,Lu.1,Lu.2.1,Lu.2.2.1,Lu.2.2.2.2.2.2.2.2.2.2.2.2.2.1)
  partial_fixpoint
def aiV(dJ:b'×b8×List b'×ev×Int×ev):Option (a6×Bool×List b'×ev×Int×ev):=
 match dJ with
 |(b9,p,b,lo,qj,h4)=>
 UO p>>=λr=>if(!(decide (r.2=0)))=true then NB (1,b,lo,qj,h4)>>=λr0=>some (a6.eta r0.1,r0.2.1,r0.2.2.1,r0.2.2.2.2.2,r0.2.2.2.1,r0.2.2.2.2.1)
 else if decide (b9.Max<(r.1.length:Int))=true then NB (3,b,lo,qj,h4)>>=λJj=>some (a6.eta Jj.1,Jj.2.1,Jj.2.2.1,Jj.2.2.2.2.2,Jj.2.2.2.1,Jj.2.2.2.2.1)
 else aaD (r.1,(r.1.length:Int),0,b,lo,qj,b9,0,false,0,[],0,b9.Kind,false,0,[],0,h4,[])>>=λo=>match o with
 |.inl hq=>
 some (a6.eta hq.2.2.2.2.1,hq.1,hq.2.1,hq.2.2.1,hq.2.2.2.1,hq.2.2.2.2.2)
 |.inr g'=>
 some ((⟨g'.2.2.2.2.2.2.2.2.1,g'.2.2.2.2.2.2.2.2.2.1,g'.2.2.2.2.2.2.2.2.2.2.1,g'.2.2.2.2.2.2.2.2.2.2.2.1,g'.2.2.2.2.2.2.2.2.2.2.2.2.1,[],g'.2.2.2.2.2.2.2.2.2.2.2.2.2.2,[]⟩:a6),true,g'.1,g'.2.1,g'.2.2.1,g'.2.2.2.2.2.2.2.2.2.2.2.2.2.1)
  partial_fixpoint
def O2(dJ:Int×Int×b8×List b'×ev×Int×ev):Option (a6×Bool×List b'×ev×Int×ev):=
 match dJ with
 |(step,t,p,b,lo,qj,h4)=>
 some [step]>>=λt18=>if q5 8 (h4++t18).length=true then Xe (t,p,b,lo,qj,h4++t18)>>=λr=>some (MP .i64 (r.2.2.2.2.2.length:Int) 1)>>=λt39=>if ME 0 t39 r.2.2.2.2.2.length=true then if decide (t39.toNat<=r.2.2.2.2.2.length)=true then some (a6.eta r.1,r.2.1,r.2.2.1,r.2.2.2.1,r.2.2.2.2.1,r.2.2.2.2.2.take t39.toNat)
 else none
 else none
 else none
  partial_fixpoint
def Xe(dJ:Int×b8×List b'×ev×Int×ev):Option (a6×Bool×List b'×ev×Int×ev):=
 match dJ with
 |(t,p,b,lo,qj,h4)=>
 if decide (200<=(h4.length:Int))=true then NB (8,b,lo,qj,h4)>>=λr=>some (a6.eta r.1,r.2.1,r.2.2.1,r.2.2.2.2.2,r.2.2.2.1,r.2.2.2.2.1)
 else if hz t b.length=true then some (b.getD t.toNat d4)>>=λb9=>if decide (b9.Kind=1)=true then some (decide (p=[1]))>>=λt50=>if(bif (!(decide (p=[])))then(!t50)else false)=true then NB (1,b,lo,qj,h4)>>=λLS=>some (a6.eta LS.1,LS.2.1,LS.2.2.1,LS.2.2.2.2.2,LS.2.2.2.1,LS.2.2.2.2.1)
 else some ((⟨b9.Kind,t50,0,[],0,[],[],[]⟩:a6),true,b,lo,qj,h4)
 else if decide (b9.Kind=2)=true then aaT p>>=λQa=>if(!(decide (Qa.2=0)))=true then NB (1,b,lo,qj,h4)>>=λJP=>some (a6.eta JP.1,JP.2.1,JP.2.2.1,JP.2.2.2.2.2,JP.2.2.2.1,JP.2.2.2.2.1)
 else aiJ Qa.1>>=λabQ=>if(bif decide (abQ<b9.mJ)then true else decide (b9.mx<abQ))=true then NB (2,b,lo,qj,h4)>>=λQ6=>some (a6.eta Q6.1,Q6.2.1,Q6.2.2.1,Q6.2.2.2.2.2,Q6.2.2.2.1,Q6.2.2.2.2.1)
 else some ((⟨b9.Kind,false,abQ,[],0,[],[],[]⟩:a6),true,b,lo,qj,h4)
 else if decide (b9.Kind=3)=true then if decide (b9.Max<(p.length:Int))=true then NB (3,b,lo,qj,h4)>>=λPK=>some (a6.eta PK.1,PK.2.1,PK.2.2.1,PK.2.2.2.2.2,PK.2.2.2.1,PK.2.2.2.2.1)
 else some ((⟨b9.Kind,false,0,p,0,[],[],[]⟩:a6),true,b,lo,qj,h4)
 else if decide (b9.Kind=4)=true then aaT p>>=λalm=>if(bif bif (!(decide (alm.2=0)))then true else decide (alm.1<1)then true else decide (1000<alm.1))=true then NB (1,b,lo,qj,h4)>>=λad1=>some (a6.eta ad1.1,ad1.2.1,ad1.2.2.1,ad1.2.2.2.2.2,ad1.2.2.2.1,ad1.2.2.2.2.1)
 else some (G' .i64 alm.1)>>=λt130=>ajy (b9,t130)>>=λaMO=>if(bif (!aMO.2)then(!b9.Open)else false)=true then NB (4,b,lo,qj,h4)>>=λad2=>some (a6.eta ad2.1,ad2.2.1,ad2.2.2.1,ad2.2.2.2.2.2,ad2.2.2.2.1,ad2.2.2.2.2.1)
 else some ((⟨b9.Kind,false,0,[],t130,[],[],[]⟩:a6),true,b,lo,qj,h4)
 else if decide (b9.Kind=9)=true then if decide (p=[])=true then some ((⟨b9.Kind,false,0,[],0,[],[],[]⟩:a6),true,b,lo,qj,h4)
 else if hz 0 p.length=true then if(!(decide (m5 p 0=1)))=true then NB (1,b,lo,qj,h4)>>=λad3=>some (a6.eta ad3.1,ad3.2.1,ad3.2.2.1,ad3.2.2.2.2.2,ad3.2.2.2.1,ad3.2.2.2.2.1)
 else if ME 1 (p.length:Int) p.length=true then O2 (0,b9.h6,LY p 1 (p.length:Int),b,lo,qj,h4)>>=λad4=>some ((⟨b9.Kind,false,0,[],0,[],[a6.eta ad4.1],[]⟩:a6),ad4.2.1,ad4.2.2.1,ad4.2.2.2.1,ad4.2.2.2.2.1,ad4.2.2.2.2.2)
 else none
 else none
 else if decide (b9.Kind=6)=true then aiP (b9,p,b,lo,qj,h4)>>=λad5=>some (a6.eta ad5.1,ad5.2.1,ad5.2.2.1,ad5.2.2.2.1,ad5.2.2.2.2.1,ad5.2.2.2.2.2)
 else if decide (b9.Kind=7)=true then aiV (b9,p,b,lo,qj,h4)>>=λad6=>some (a6.eta ad6.1,ad6.2.1,ad6.2.2.1,ad6.2.2.2.1,ad6.2.2.2.2.1,ad6.2.2.2.2.2)
 else if decide (b9.Kind=8)=true then afh (b9,p,b,lo,qj,h4)>>=λad7=>some (a6.eta ad7.1,ad7.2.1,ad7.2.2.1,ad7.2.2.2.1,ad7.2.2.2.2.1,ad7.2.2.2.2.2)
 else afi (b9,p,b,lo,qj,h4)>>=λad8=>some (a6.eta ad8.1,ad8.2.1,ad8.2.2.1,ad8.2.2.2.1,ad8.2.2.2.2.1,ad8.2.2.2.2.2)
 else none
  partial_fixpoint
def afi(dJ:b'×b8×List b'×ev×Int×ev):Option (a6×Bool×List b'×ev×Int×ev):=
 match dJ with
 |(b9,p,b,lo,qj,h4)=>
 VW p>>=λr=>if(!(decide (r.2=0)))=true then NB (1,b,lo,qj,h4)>>=λr0=>some (a6.eta r0.1,r0.2.1,r0.2.2.1,r0.2.2.2.2.2,r0.2.2.2.1,r0.2.2.2.2.1)
 else UJ (r.1,b9.c7,(b9.c7.length:Int),0,b,lo,qj,b9,0,false,0,[],0,b9.Kind,false,0,[],0,h4,[])>>=λo=>match o with
 |.inl hq=>
 some (a6.eta hq.2.2.2.2.1,hq.1,hq.2.1,hq.2.2.1,hq.2.2.2.1,hq.2.2.2.2.2)
 |.inr g'=>
 W9 (g'.1,(g'.1.length:Int),0,g'.2.1,g'.2.2.1,g'.2.2.2.1,g'.2.2.2.2.1,g'.2.2.2.2.2.1,g'.2.2.2.2.2.2.1,g'.2.2.2.2.2.2.2.1,g'.2.2.2.2.2.2.2.2.1,g'.2.2.2.2.2.2.2.2.2.1,g'.2.2.2.2.2.2.2.2.2.2.1,g'.2.2.2.2.2.2.2.2.2.2.2.1,g'.2.2.2.2.2.2.2.2.2.2.2.2.1,g'.2.2.2.2.2.2.2.2.2.2.2.2.2.1,g'.2.2.2.2.2.2.2.2.2.2.2.2.2.2.1,g'.2.2.2.2.2.2.2.2.2.2.2.2.2.2.2.1,g'.2.2.2.2.2.2.2.2.2.2.2.2.2.2.2.2,[])>>=λP9=>match P9 with
 |.inl JZ=>
 some (a6.eta JZ.2.2.2.1,JZ.1,JZ.2.1,JZ.2.2.2.2.2,JZ.2.2.1,JZ.2.2.2.2.1)
 |.inr hR=>
 some ((⟨hR.2.2.2.2.2.2.2.2.1,hR.2.2.2.2.2.2.2.2.2.1,hR.2.2.2.2.2.2.2.2.2.2.1,hR.2.2.2.2.2.2.2.2.2.2.2.1,hR.2.2.2.2.2.2.2.2.2.2.2.2.1,[],hR.2.2.2.2.2.2.2.2.2.2.2.2.2.2.1,hR.2.2.2.2.2.2.2.2.2.2.2.2.2.2.2⟩:a6),true,hR.1,hR.2.1,hR.2.2.1,hR.2.2.2.2.2.2.2.2.2.2.2.2.2.1)
  partial_fixpoint
def aiP(dJ:b'×b8×List b'×ev×Int×ev):Option (a6×Bool×List b'×ev×Int×ev):=
 match dJ with
 |(b9,p,b,lo,qj,h4)=>
 UB p>>=λr=>if(!(decide (r.2.2=0)))=true then NB (1,b,lo,qj,h4)>>=λC3=>some (a6.eta C3.1,C3.2.1,C3.2.2.1,C3.2.2.2.2.2,C3.2.2.2.1,C3.2.2.2.2.1)
 else aaU (b9,r.1)>>=λOZ=>if OZ.2=true then if hz OZ.1 b9.c7.length=true then O2 (r.1,(b9.c7.getD OZ.1.toNat d5).jb,r.2.1,b,lo,qj,h4)>>=λQa=>some ((⟨b9.Kind,false,0,[],r.1,[],[a6.eta Qa.1],[]⟩:a6),Qa.2.1,Qa.2.2.1,Qa.2.2.2.1,Qa.2.2.2.2.1,Qa.2.2.2.2.2)
 else none
 else if(!b9.Open)=true then NB (5,b,lo,qj,h4)>>=λOA=>some (a6.eta OA.1,OA.2.1,OA.2.2.1,OA.2.2.2.2.2,OA.2.2.2.1,OA.2.2.2.2.1)
 else some ((⟨b9.Kind,false,0,[],r.1,[],[],[(⟨r.1,r.2.1⟩:Jh)]⟩:a6),true,b,lo,qj,h4)
  partial_fixpoint
def aaB(dJ:List b8×Int×List b'×ev×Int×b'×Int×Bool×Int×b8×Int×Int×Bool×Int×b8×Int×ev×List a6):Option ((Bool×List b'×ev×Int×a6×ev) ⊕ (List b8×List b'×ev×Int×b'×Int×Bool×Int×b8×Int×Int×Bool×Int×b8×Int×ev×List a6)):=
 match dJ with
 |(JH,i,XH,XI,XJ,Wa,XL,XM,XN,XO,XP,Pe,XQ,Wb,agm,agn,ago,ac4)=>
 if decide (i<(JH.length:Int))=true then if hz i JH.length=true then O2 (OY .i64 i 2,Wa.Key,JH.getD i.toNat [],XH,XI,XJ,ago)>>=λJP=>if(!JP.2.1)=true then some (.inl (false,JP.2.2.1,JP.2.2.2.1,JP.2.2.2.2.1,a6.eta JP.1,JP.2.2.2.2.2))
 else some [a6.eta JP.1]>>=λt73=>if q5 120 (ac4++t73).length=true then aaB (JH,hK .i64 i 2,JP.2.2.1,JP.2.2.2.1,JP.2.2.2.2.1,Wa,XL,XM,XN,XO,XP,Pe,XQ,Wb,agm,agn,JP.2.2.2.2.2,ac4++t73)
 else none
 else none
 else some (.inr (JH,XH,XI,XJ,Wa,XL,XM,XN,XO,XP,Pe,XQ,Wb,agm,agn,ago,ac4))
  partial_fixpoint
def aaC(dJ:List b8×Int×List b'×ev×Int×b'×Int×Bool×Int×b8×Int×Int×Bool×Int×b8×Int×ev×List a6×List a6):Option ((Bool×List b'×ev×Int×a6×ev) ⊕ (List b'×ev×Int×Int×Bool×Int×b8×Int×Int×Bool×Int×b8×Int×ev×List a6×List a6)):=
 match dJ with
 |(Yh,K7,avj,au1,au2,au3,au4,au5,au6,au7,au8,au9,au',ava,avb,avc,avd,ave,aod)=>
 if decide (K7<(Yh.length:Int))=true then if hz K7 Yh.length=true then O2 (OY .i64 K7 2,au3.h6,Yh.getD K7.toNat [],avj,au1,au2,avd)>>=λPK=>if(!PK.2.1)=true then some (.inl (false,PK.2.2.1,PK.2.2.2.1,PK.2.2.2.2.1,a6.eta PK.1,PK.2.2.2.2.2))
 else some [a6.eta PK.1]>>=λt125=>if q5 120 (aod++t125).length=true then aaC (Yh,hK .i64 K7 2,PK.2.2.1,PK.2.2.2.1,PK.2.2.2.2.1,au3,au4,au5,au6,au7,au8,au9,au',ava,avb,avc,PK.2.2.2.2.2,ave,aod++t125)
 else none
 else none
 else some (.inr (avj,au1,au2,au4,au5,au6,au7,au8,au9,au',ava,avb,avc,avd,ave,aod))
  partial_fixpoint
def aaD(dJ:List b8×Int×Int×List b'×ev×Int×b'×Int×Bool×Int×b8×Int×Int×Bool×Int×b8×Int×ev×List a6):Option ((Bool×List b'×ev×Int×a6×ev) ⊕ (List b'×ev×Int×Int×Bool×Int×b8×Int×Int×Bool×Int×b8×Int×ev×List a6)):=
 match dJ with
 |(t38,aid,t40,TN,TO,US,UT,TP,Y7,TQ,QM,TR,TS,SO,TT,PZ,TU,TV,SQ)=>
 if decide (t40<aid)=true then if hz t40 t38.length=true then O2 (t40,UT.h6,t38.getD t40.toNat [],TN,TO,US,TV)>>=λJP=>if(!JP.2.1)=true then some (.inl (false,JP.2.2.1,JP.2.2.2.1,JP.2.2.2.2.1,a6.eta JP.1,JP.2.2.2.2.2))
 else some [a6.eta JP.1]>>=λt60=>if q5 120 (SQ++t60).length=true then aaD (t38,aid,hK .i64 t40 1,JP.2.2.1,JP.2.2.2.1,JP.2.2.2.2.1,UT,TP,Y7,TQ,QM,TR,TS,SO,TT,PZ,TU,JP.2.2.2.2.2,SQ++t60)
 else none
 else none
 else some (.inr (TN,TO,US,TP,Y7,TQ,QM,TR,TS,SO,TT,PZ,TU,TV,SQ))
  partial_fixpoint
def UJ(dJ:List yJ×List hv×Int×Int×List b'×ev×Int×b'×Int×Bool×Int×b8×Int×Int×Bool×Int×b8×Int×ev×List a6):Option ((Bool×List b'×ev×Int×a6×ev) ⊕ (List yJ×List b'×ev×Int×b'×Int×Bool×Int×b8×Int×Int×Bool×Int×b8×Int×ev×List a6)):=
 match dJ with
 |(Py,t39,aqM,t41,UW,QN,QO,O',SS,SU,V4,V5,V6,V7,V8,V9,V',UX,Y9,XG)=>
 if decide (t41<aqM)=true then if hz t41 t39.length=true then some (t39.getD t41.toNat d5)>>=λJQ=>afe (Py,(⟨JQ.c6,JQ.Name,JQ.jb,JQ.r2,JQ.qx,a6.eta JQ.ix⟩:hv))>>=λJj=>if decide (0<=Jj.1)=true then if hz Jj.1 Py.length=true then O2 (Jj.2.c6,Jj.2.jb,(Py.getD Jj.1.toNat Lr).Data,UW,QN,QO,Y9)>>=λNz=>if(!Nz.2.1)=true then some (.inl (false,Nz.2.2.1,Nz.2.2.2.1,Nz.2.2.2.2.1,a6.eta Nz.1,Nz.2.2.2.2.2))
 else some [a6.eta Nz.1]>>=λt102=>if q5 120 (XG++t102).length=true then UJ (Py,t39,aqM,hK .i64 t41 1,Nz.2.2.1,Nz.2.2.2.1,Nz.2.2.2.2.1,O',SS,SU,V4,V5,V6,V7,V8,V9,V',UX,Nz.2.2.2.2.2,XG++t102)
 else none
 else none
 else if Jj.2.qx=true then Rr (a6.eta Jj.2.ix)>>=λah6=>some [a6.eta ah6]>>=λt113=>if q5 120 (XG++t113).length=true then UJ (Py,t39,aqM,hK .i64 t41 1,UW,QN,QO,O',SS,SU,V4,V5,V6,V7,V8,V9,V',UX,Y9,XG++t113)
 else none
 else some [Jj.2.c6]>>=λt55=>if q5 8 (Y9++t55).length=true then NB (7,UW,QN,QO,Y9++t55)>>=λOA=>some (MP .i64 (OA.2.2.2.2.1.length:Int) 1)>>=λt74=>if ME 0 t74 OA.2.2.2.2.1.length=true then if decide (t74.toNat<=OA.2.2.2.2.1.length)=true then some (.inl (false,OA.2.2.1,OA.2.2.2.2.2,OA.2.2.2.1,a6.eta OA.1,OA.2.2.2.2.1.take t74.toNat))
 else none
 else none
 else none
 else none
 else some (.inr (Py,UW,QN,QO,O',SS,SU,V4,V5,V6,V7,V8,V9,V',UX,Y9,XG))
  partial_fixpoint
end
theorem aDp:Oa aop afh/\PW 123 2 [2] afL aaC/\Oa Zc O2/\Oa ako Xe/\Oa aoq afi/\PW 124 2 [0] afO UJ/\Oa aoo aiV/\PW 122 2 [0] afJ aaD/\Oa aon aiP/\PW 123 2 [0] afK aaB:=afh.mutual_partial_correctness (NM aop) (PV 123 2 [2] afL) (NM Zc) (NM ako) (NM aoq) (PV 124 2 [0] afO) (NM aoo) (PV 122 2 [0] afJ) (NM aon) (PV 123 2 [0] afK)
 (λ_ _ h1 Qm _ _ h=>OF h (.k asB (.k YK .n)) (.k (QH afK Qm) (.k aDk (.k (QH afL h1) .n))))
 (λ_ _ h1 ad _ _ h=>QG afL h1 h (.k (Is Zc ad) .n))
 (λ_ a' _ _ h=>OF h (.k (Is ako a') .n))
 (λ_ _ _ _ _ h0 ad d' B' Oj _ _ h=>OF h (.k YK (.k aES (.k aFs (.k aE0 (.k (Is Zc ad) (.k (Is aon Oj) (.k (Is aoo B') (.k (Is aop h0) (.k (Is aoq d') .n))))))))))
 (λ_ hy _ _ h=>OF h (.k aE7 (.k YK .n)) (.k (QH afO hy) (.k aDo .n)))
 (λ_ _ ad hy _ _ h=>QG afO hy h (.k aDB (.k (Is Zc ad) (.k aE6 (.k YK .n)))))
 (λ_ Oi _ _ h=>OF h (.k asB (.k YK .n)) (.k (QH afJ Oi) .n))
 (λ_ _ ad Oi _ _ h=>QG afJ Oi h (.k (Is Zc ad) .n))
 (λ_ ad _ _ h=>OF h (.k aFT (.k YK (.k arB (.k (Is Zc ad) .n)))))
 (λ_ _ ad Qm _ _ h=>QG afK Qm h (.k (Is Zc ad) .n))
theorem aEn:iy ako Xe:=Is _ aDp.2.2.2.1
def ajb(dJ:f4×Int×b8):Option (a6×O3×Int):=
 match dJ with
 |(s,t,m)=>
 aaf s>>=λr=>if(!(decide (r=0)))=true then some ((⟨0,false,0,[],0,[],[],[]⟩:a6),(⟨[],0⟩:O3),r)
 else if(bif decide (t<0)then true else decide ((s.Types.length:Int)<=t))=true then some ((⟨0,false,0,[],0,[],[],[]⟩:a6),(⟨[],0⟩:O3),4)
 else if decide (4096<(m.length:Int))=true then some ((⟨0,false,0,[],0,[],[],[]⟩:a6),(⟨[],3⟩:O3),12)
 else Xe (t,m,s.Types,[],0,[])>>=λoJ=>if(!oJ.2.1)=true then some ((⟨0,false,0,[],0,[],[],[]⟩:a6),(⟨oJ.2.2.2.1,oJ.2.2.2.2.1⟩:O3),12)
 else some (a6.eta oJ.1,(⟨[],0⟩:O3),0)
theorem aGe:iy aCv ajb:= .km (.k aEG (.k aEn .n))
def aad(dJ:f4×Int×b8):Option (a6×Int):=
 match dJ with
 |(s,t,m)=>
 ajb (s,t,m)>>=λr=>some (a6.eta r.1,r.2.2)
theorem aE8:iy aCp aad:= .km (.k aGe .n)
def M7(dJ:ev×Int):Option (ns):=
 match dJ with
 |(path,Tq)=>
 if q5 8 ([]++path).length=true then some (⟨(⟨0,false,0,[],0,[],[],[]⟩:a6),(⟨[]++path,Tq⟩:O3),false⟩:ns)
 else none
theorem WW:iy aCM M7:= .km
def Xb(dJ:b8×Int×Int):Option (Int):=
 match dJ with
 |(C4,Wy,i)=>
 if decide (i<(C4.length:Int))=true then if hz i C4.length=true then Xb (C4,hK .u64 (Nw .u64 Wy 256) (G' .u64 (m5 C4 i)),hK .i64 i 1)
 else none
 else some Wy
  partial_fixpoint
theorem aEj:xi 162 0 [0] axU Xb:= .rx Xb.partial_correctness
def aiQ(s:b8):Option (Int×Int):=
 some (decide (0<(s.length:Int)))>>=λt8=>if(hz 0 s.length||(!t8))=true then if(bif t8 then decide (m5 s 0=0)else false)=true then some (0,2)
 else if decide (8<(s.length:Int))=true then some (0,7)
 else Xb (s,0,0)>>=λo=>some (o,0)
 else none
theorem aDU:iy aBV aiQ:= .km .n (.k aEj .n)
def afo(p:b8):Option (Int×Bool):=
 aiQ p>>=λr=>some (r.1,decide (r.2=0))
theorem aD5:iy aBz afo:= .km (.k aDU .n)
def aiO(n:Int):Option (Int):=
 if decide (NY n 2=0)=true then some (G' .i64 (OY .u64 n 2))
 else some (MP .i64 (MP .i64 0 (G' .i64 (OY .u64 n 2))) 1)
theorem aEu:iy aBA aiO:= .km
def TB(dJ:ev×Int):Option ev:=
 match dJ with
 |(path,step)=>
 if q5 8 ([]++path).length=true then some ([]++path)>>=λl=>some [step]>>=λt9=>if q5 8 (l++t9).length=true then some (l++t9)
 else none
 else none
theorem aaR:iy aBB TB:= .km
def aaK(dJ:b8×Int×Int×Int):Option ((Int×Int×Int) ⊕ (Unit)):=
 match dJ with
 |(C4,n,unit,i)=>
 if decide (i<10)=true then if decide (i=(C4.length:Int))=true then some (.inl (0,0,10))
 else if hz i C4.length=true then some (G' .u64 (m5 C4 i))>>=λt20=>if(bif decide (i=9)then decide (1<t20)else false)=true then some (.inl (0,0,7))
 else some (hK .u64 n (Nw .u64 (NY t20 128) unit))>>=λt32=>if decide (t20<128)=true then if(bif decide (t20=0)then decide (0<i)else false)=true then some (.inl (0,0,2))
 else some (.inl (t32,hK .i64 i 1,0))
 else aaK (C4,t32,Nw .u64 unit 128,hK .i64 i 1)
 else none
 else some (.inr ())
  partial_fixpoint
theorem aD6:xi 192 0 [0] axV aaK:= .rx aaK.partial_correctness
def acI(s:b8):Option (Int×Int×Int):=
 aaK (s,0,1,0)>>=λo=>match o with
 |.inl hq=>
 some (hq.1,hq.2.1,hq.2.2)
 |.inr g'=>
 some (0,0,7)
theorem amB:iy aCb acI:= .km .n (.k aD6 .n)
def aeQ(Q4:b8):Option (Int×b8×Int):=
 acI Q4>>=λr=>if(bif bif (!(decide (r.2.2=0)))then true else decide (r.1<1)then true else decide (1000<r.1))=true then some (0,[],12)
 else if ME r.2.1 (Q4.length:Int) Q4.length=true then some (G' .i64 r.1,LY Q4 r.2.1 (Q4.length:Int),0)
 else none
theorem aFv:iy aBW aeQ:= .km (.k amB .n)
def VE(v:a6):Option (ns):=
 some (⟨a6.eta v,(⟨[],0⟩:O3),true⟩:ns)
theorem afp:iy aBC VE:= .km
def aeS(s:b8):Option (b8×b8×Bool):=
 acI s>>=λr=>if(bif (!(decide (r.2.2=0)))then true else decide (G' .u64 (MP .i64 (s.length:Int) r.2.1)<r.1))=true then some ([],[],false)
 else some (hK .i64 r.2.1 (G' .i64 r.1))>>=λt30=>if ME r.2.1 t30 s.length=true then some (hK .i64 r.2.1 (G' .i64 r.1))>>=λt36=>if ME t36 (s.length:Int) s.length=true then some (LY s r.2.1 t30,LY s t36 (s.length:Int),true)
 else none
 else none
theorem arQ:iy aCc aeS:= .km (.k amB .n)
def aaE(dJ:b8×List b8):Option ((Int) ⊕ (List b8)):=
 match dJ with
 |(Yp,lo)=>
 if(!(decide (Yp=[])))=true then aeS Yp>>=λr=>if(!r.2.2)=true then some (.inl 12)
 else some [r.1]>>=λt20=>if q5 16 (lo++t20).length=true then aaE (r.2.1,lo++t20)
 else none
 else some (.inr lo)
  partial_fixpoint
theorem aEv:xi 164 0 [0] axW aaE:= .rx aaE.partial_correctness (.k arQ .n)
def Pi(Q4:b8):Option (List b8×Int):=
 aaE (Q4,[])>>=λo=>match o with
 |.inl hq=>
 some ([],hq)
 |.inr g'=>
 some (g',0)
theorem arK:iy aBX Pi:= .km .n (.k aEv .n)
def Y4(dJ:Int×ev×List b8×Int×List b'×b'×Int×Bool×Int×b8×Int×Int×Bool×Int×Bool×Int×b8×Int×List a6):Option ((ns) ⊕ (Int×ev×List b8×List b'×b'×Int×Bool×Int×b8×Int×Int×Bool×Int×Bool×Int×b8×Int×List a6)):=
 match dJ with
 |(azf,aqd,JY,Md,aaZ,aa0,aa1,ac2,ac3,XH,XI,XJ,Wa,XL,XM,XN,XO,XP,Pe)=>
 if decide (Md<(Pe.length:Int))=true then some (MP .i64 Md 1)>>=λt87=>if hz t87 Pe.length=true then if decide (t87.toNat<Pe.length)=true then if hz Md Pe.length=true then if decide (Md.toNat<Pe.length)=true then afk (a6.eta (Pe.getD t87.toNat f5),a6.eta (Pe.getD Md.toNat f5))>>=λTo=>if decide (0<=To)=true then M7 (aqd,1)>>=λOB=>some (.inl (⟨a6.eta OB.Value,OB.vk,OB.ry⟩:ns))
 else Y4 (azf,aqd,JY,hK .i64 Md 1,aaZ,aa0,aa1,ac2,ac3,XH,XI,XJ,Wa,XL,XM,XN,XO,XP,Pe)
 else none
 else none
 else none
 else none
 else some (.inr (azf,aqd,JY,aaZ,aa0,aa1,ac2,ac3,XH,XI,XJ,Wa,XL,XM,XN,XO,XP,Pe))
  partial_fixpoint
theorem aDE:xi 130 0 [1] axX Y4:= .rx Y4.partial_correctness (.k aEC (.k WW .n))
def YJ(dJ:b8×Int×List yJ):Option ((Int) ⊕ (List yJ)):=
 match dJ with
 |(Yp,MU,lo)=>
 if(!(decide (Yp=[])))=true then acI Yp>>=λr=>if(bif bif (!(decide (r.2.2=0)))then true else decide (2001<r.1)then true else decide (G' .i64 (OY .u64 r.1 2)<=MU))=true then some (.inl 12)
 else if ME r.2.1 (Yp.length:Int) Yp.length=true then aeS (LY Yp r.2.1 (Yp.length:Int))>>=λC3=>if(!C3.2.2)=true then some (.inl 12)
 else some (G' .i64 (OY .u64 r.1 2))>>=λt45=>some [(⟨t45,decide (NY r.1 2=1),C3.1⟩:yJ)]>>=λt54=>if q5 32 (lo++t54).length=true then YJ (C3.2.1,t45,lo++t54)
 else none
 else none
 else some (.inr lo)
  partial_fixpoint
theorem aEo:xi 165 0 [0] axY YJ:= .rx YJ.partial_correctness (.k amB (.k arQ .n))
def afq(Q4:b8):Option (List yJ×Int):=
 YJ (Q4,0,[])>>=λo=>match o with
 |.inl hq=>
 some ([],hq)
 |.inr g'=>
 some (g',0)
theorem aD7:iy aBY afq:= .km .n (.k aEo .n)
def WX(dJ:List yJ×Int×Int):Option ((Int) ⊕ (Unit)):=
 match dJ with
 |(Py,Zx,i)=>
 if decide (i<(Py.length:Int))=true then if hz i Py.length=true then if decide ((Py.getD i.toNat Lr).c6=Zx)=true then some (.inl i)
 else WX (Py,Zx,hK .i64 i 1)
 else none
 else some (.inr ())
  partial_fixpoint
theorem aEw:xi 166 0 [0] axZ WX:= .rx WX.partial_correctness
def afu(dJ:List yJ×Int):Option (Int):=
 match dJ with
 |(l,id)=>
 WX (l,id,0)>>=λo=>match o with
 |.inl hq=>
 some hq
 |.inr g'=>
 some (-1)
theorem aDN:iy aBZ afu:= .km .n (.k aEw .n)
def WU(dJ:ev×List yJ×Int×b'×Int×Bool×Int×b8×Int×Int×Bool×Int×Bool×Int×b8×Int×List a6×List Jh):Option ((ns) ⊕ (Int×Bool×Int×b8×Int×Int×Bool×Int×Bool×Int×b8×Int×List a6×List Jh)):=
 match dJ with
 |(abN,JY,k,ac1,UW,QN,QO,O',SS,SU,V4,V5,V6,V7,V8,V9,V',UX)=>
 if decide (k<(JY.length:Int))=true then if hz k JY.length=true then acF (ac1,(JY.getD k.toNat Lr).c6)>>=λJj=>if Jj.2=true then WU (abN,JY,hK .i64 k 1,ac1,UW,QN,QO,O',SS,SU,V4,V5,V6,V7,V8,V9,V',UX)
 else if hz k JY.length=true then if(JY.getD k.toNat Lr).r2=true then if hz k JY.length=true then TB (abN,(JY.getD k.toNat Lr).c6)>>=λNz=>M7 (Nz,6)>>=λQa=>some (.inl (⟨a6.eta Qa.Value,Qa.vk,Qa.ry⟩:ns))
 else none
 else if hz k JY.length=true then if hz k JY.length=true then some [(⟨(JY.getD k.toNat Lr).c6,(JY.getD k.toNat Lr).Data⟩:Jh)]>>=λt135=>if q5 24 (UX++t135).length=true then WU (abN,JY,hK .i64 k 1,ac1,UW,QN,QO,O',SS,SU,V4,V5,V6,V7,V8,V9,V',UX++t135)
 else none
 else none
 else none
 else none
 else none
 else some (.inr (UW,QN,QO,O',SS,SU,V4,V5,V6,V7,V8,V9,V',UX))
  partial_fixpoint
theorem aEp:xi 131 0 [1] ax0 WU:= .rx WU.partial_correctness (.k arF (.k aaR (.k WW .n)))
mutual
def Qj(dJ:f4×Int×b8×Int×ev):Option (ns):=
 match dJ with
 |(s,t,p,RX,path)=>
 if hz t s.Types.length=true then some (s.Types.getD t.toNat d4)>>=λb9=>if decide (200<RX)=true then M7 (path,8)>>=λr=>some (⟨a6.eta r.Value,r.vk,r.ry⟩:ns)
 else
 let azb:=λaNL=>
 let aza:=λaNK=>
 let ay':=λaNJ=>
 let ay9:=λaNI=>
 let ay8:=λaNH=>
 if decide (b9.Kind=6)=true then ai0 (s,b9,p,RX,path)>>=λaqq=>some (⟨a6.eta aqq.Value,aqq.vk,aqq.ry⟩:ns)
 else if decide (b9.Kind=7)=true then ai2 (s,b9,p,RX,path)>>=λaqr=>some (⟨a6.eta aqr.Value,aqr.vk,aqr.ry⟩:ns)
 else if decide (b9.Kind=8)=true then ai6 (s,b9,p,RX,path)>>=λaqs=>some (⟨a6.eta aqs.Value,aqs.vk,aqs.ry⟩:ns)
 else if decide (b9.Kind=5)=true then aiW (s,b9,p,RX,path)>>=λaqt=>some (⟨a6.eta aqt.Value,aqt.vk,aqt.ry⟩:ns)
 else VE (⟨b9.Kind,aNL,aNK,aNJ,aNI,[],aNH,[]⟩:a6)>>=λaqu=>some (⟨a6.eta aqu.Value,aqu.vk,aqu.ry⟩:ns)
 if(bif decide (b9.Kind=9)then(!(decide (p=[])))else false)=true then if hz 0 p.length=true then if(!(decide (m5 p 0=1)))=true then M7 (path,1)>>=λaqp=>some (⟨a6.eta aqp.Value,aqp.vk,aqp.ry⟩:ns)
 else if ME 1 (p.length:Int) p.length=true then TB (path,0)>>=λaMM=>Qj (s,b9.h6,LY p 1 (p.length:Int),hK .i64 RX 1,aMM)>>=λah7=>if(!ah7.ry)=true then some (⟨a6.eta ah7.Value,ah7.vk,ah7.ry⟩:ns)
 else ay8 [a6.eta ah7.Value]
 else none
 else none
 else ay8 []
 if decide (b9.Kind=4)=true then afo p>>=λalk=>if(bif bif (!alk.2)then true else decide (alk.1<1)then true else decide (1000<alk.1))=true then M7 (path,1)>>=λaqn=>some (⟨a6.eta aqn.Value,aqn.vk,aqn.ry⟩:ns)
 else some (G' .i64 alk.1)>>=λazU=>aiU (b9,azU)>>=λaML=>if(bif (!aML.2)then(!b9.Open)else false)=true then M7 (path,4)>>=λaqo=>some (⟨a6.eta aqo.Value,aqo.vk,aqo.ry⟩:ns)
 else ay9 azU
 else ay9 0
 if decide (b9.Kind=3)=true then if decide (b9.Max<(p.length:Int))=true then M7 (path,3)>>=λaqm=>some (⟨a6.eta aqm.Value,aqm.vk,aqm.ry⟩:ns)
 else ay' p
 else ay' []
 if decide (b9.Kind=2)=true then afo p>>=λazF=>if(!azF.2)=true then M7 (path,1)>>=λaqi=>some (⟨a6.eta aqi.Value,aqi.vk,aqi.ry⟩:ns)
 else aiO azF.1>>=λaqj=>if(bif decide (aqj<b9.mJ)then true else decide (b9.mx<aqj))=true then M7 (path,2)>>=λaqk=>some (⟨a6.eta aqk.Value,aqk.vk,aqk.ry⟩:ns)
 else aza aqj
 else aza 0
 if decide (b9.Kind=1)=true then if(bif (!(decide (p=[])))then(!(decide (p=[1])))else false)=true then M7 (path,1)>>=λoJ=>some (⟨a6.eta oJ.Value,oJ.vk,oJ.ry⟩:ns)
 else some (!(decide (p=[])))>>=λt44=>azb t44
 else azb false
 else none
  partial_fixpoint
def ai6(dJ:f4×b'×b8×Int×ev):Option (ns):=
 match dJ with
 |(s,b9,p,RX,path)=>
 Pi p>>=λr=>if(bif (!(decide (r.2=0)))then true else decide (NY (r.1.length:Int) 2=1))=true then M7 (path,1)>>=λr0=>some (⟨a6.eta r0.Value,r0.vk,r0.ry⟩:ns)
 else if decide (b9.Max<OY .i64 (r.1.length:Int) 2)=true then M7 (path,3)>>=λC3=>some (⟨a6.eta C3.Value,C3.vk,C3.ry⟩:ns)
 else Z9 (RX,path,r.1,0,s.Types,b9,0,false,0,[],0,0,false,b9.Kind,false,0,[],0,[])>>=λo=>match o with
 |.inl hq=>
 some (⟨a6.eta hq.Value,hq.vk,hq.ry⟩:ns)
 |.inr g'=>
 Y4 (g'.1,g'.2.1,g'.2.2.1,1,g'.2.2.2.1,g'.2.2.2.2.1,g'.2.2.2.2.2.1,g'.2.2.2.2.2.2.1,g'.2.2.2.2.2.2.2.1,g'.2.2.2.2.2.2.2.2.1,g'.2.2.2.2.2.2.2.2.2.1,g'.2.2.2.2.2.2.2.2.2.2.1,g'.2.2.2.2.2.2.2.2.2.2.2.1,g'.2.2.2.2.2.2.2.2.2.2.2.2.1,g'.2.2.2.2.2.2.2.2.2.2.2.2.2.1,g'.2.2.2.2.2.2.2.2.2.2.2.2.2.2.1,g'.2.2.2.2.2.2.2.2.2.2.2.2.2.2.2.1,g'.2.2.2.2.2.2.2.2.2.2.2.2.2.2.2.2.1,g'.2.2.2.2.2.2.2.2.2.2.2.2.2.2.2.2.2)>>=λP9=>match P9 with
 |.inl JZ=>
 some (⟨a6.eta JZ.Value,JZ.vk,JZ.ry⟩:ns)
 |.inr hR=>
 aaA (hR.1,hR.2.1,hR.2.2.1,0,hR.2.2.2.1,hR.2.2.2.2.1,hR.2.2.2.2.2.1,hR.2.2.2.2.2.2.1,hR.2.2.2.2.2.2.2.1,hR.2.2.2.2.2.2.2.2.1,hR.2.2.2.2.2.2.2.2.2.1,hR.2.2.2.2.2.2.2.2.2.2.1,hR.2.2.2.2.2.2.2.2.2.2.2.1,hR.2.2.2.2.2.2.2.2.2.2.2.2.1,hR.2.2.2.2.2.2.2.2.2.2.2.2.2.1,hR.2.2.2.2.2.2.2.2.2.2.2.2.2.2.1,hR.2.2.2.2.2.2.2.2.2.2.2.2.2.2.2.1,hR.2.2.2.2.2.2.2.2.2.2.2.2.2.2.2.2.1,hR.2.2.2.2.2.2.2.2.2.2.2.2.2.2.2.2.2,[])>>=λahZ=>match ahZ with
 |.inl Uh=>
 some (⟨a6.eta Uh.Value,Uh.vk,Uh.ry⟩:ns)
 |.inr Lu=>
 VE (⟨Lu.2.2.2.2.2.2.2.1,Lu.2.2.2.2.2.2.2.2.1,Lu.2.2.2.2.2.2.2.2.2.1,Lu.2.2.2.2.2.2.2.2.2.2.1,Lu.2.2.2.2.2.2.2.2.2.2.2.1,Lu.2.2.2.2.2.2.2.2.2.2.2.2.1,Lu.2.2.2.2.2.2.2.2.2.2.2.2.2,[]⟩:a6)>>=λK1=>some (⟨a6.eta K1.Value,K1.vk,K1.ry⟩:ns)
  partial_fixpoint
def ai2(dJ:f4×b'×b8×Int×ev):Option (ns):=
 match dJ with
 |(s,b9,p,RX,path)=>
 Pi p>>=λr=>if(!(decide (r.2=0)))=true then M7 (path,1)>>=λr0=>some (⟨a6.eta r0.Value,r0.vk,r0.ry⟩:ns)
 else if decide (b9.Max<(r.1.length:Int))=true then M7 (path,3)>>=λC3=>some (⟨a6.eta C3.Value,C3.vk,C3.ry⟩:ns)
 else aaH (RX,path,r.1,0,s.Types,b9,0,false,0,[],0,0,false,b9.Kind,false,0,[],0,[])>>=λo=>match o with
 |.inl hq=>
 some (⟨a6.eta hq.Value,hq.vk,hq.ry⟩:ns)
 |.inr g'=>
 VE (⟨g'.2.2.2.2.2.2.2.1,g'.2.2.2.2.2.2.2.2.1,g'.2.2.2.2.2.2.2.2.2.1,g'.2.2.2.2.2.2.2.2.2.2.1,g'.2.2.2.2.2.2.2.2.2.2.2.1,[],g'.2.2.2.2.2.2.2.2.2.2.2.2,[]⟩:a6)>>=λK1=>some (⟨a6.eta K1.Value,K1.vk,K1.ry⟩:ns)
  partial_fixpoint
def aiW(dJ:f4×b'×b8×Int×ev):Option (ns):=
 match dJ with
 |(s,b9,p,RX,path)=>
 afq p>>=λr=>if(!(decide (r.2=0)))=true then M7 (path,1)>>=λr0=>some (⟨a6.eta r0.Value,r0.vk,r0.ry⟩:ns)
 else UL (RX,path,r.1,0,s.Types,b9,0,false,0,[],0,0,false,b9.Kind,false,0,[],0,[])>>=λo=>match o with
 |.inl hq=>
 some (⟨a6.eta hq.Value,hq.vk,hq.ry⟩:ns)
 |.inr g'=>
 WU (g'.1,g'.2.1,0,g'.2.2.1,g'.2.2.2.1,g'.2.2.2.2.1,g'.2.2.2.2.2.1,g'.2.2.2.2.2.2.1,g'.2.2.2.2.2.2.2.1,g'.2.2.2.2.2.2.2.2.1,g'.2.2.2.2.2.2.2.2.2.1,g'.2.2.2.2.2.2.2.2.2.2.1,g'.2.2.2.2.2.2.2.2.2.2.2.1,g'.2.2.2.2.2.2.2.2.2.2.2.2.1,g'.2.2.2.2.2.2.2.2.2.2.2.2.2.1,g'.2.2.2.2.2.2.2.2.2.2.2.2.2.2.1,g'.2.2.2.2.2.2.2.2.2.2.2.2.2.2.2,[])>>=λP9=>match P9 with
 |.inl JZ=>
 some (⟨a6.eta JZ.Value,JZ.vk,JZ.ry⟩:ns)
 |.inr hR=>
 VE (⟨hR.2.2.2.2.2.2.2.1,hR.2.2.2.2.2.2.2.2.1,hR.2.2.2.2.2.2.2.2.2.1,hR.2.2.2.2.2.2.2.2.2.2.1,hR.2.2.2.2.2.2.2.2.2.2.2.1,[],hR.2.2.2.2.2.2.2.2.2.2.2.2.1,hR.2.2.2.2.2.2.2.2.2.2.2.2.2⟩:a6)>>=λC3=>some (⟨a6.eta C3.Value,C3.vk,C3.ry⟩:ns)
  partial_fixpoint
def ai0(dJ:f4×b'×b8×Int×ev):Option (ns):=
 match dJ with
 |(s,b9,p,RX,path)=>
 aeQ p>>=λr=>if(!(decide (r.2.2=0)))=true then M7 (path,1)>>=λC3=>some (⟨a6.eta C3.Value,C3.vk,C3.ry⟩:ns)
 else acF (b9,r.1)>>=λK1=>if(bif (!K1.2)then(!b9.Open)else false)=true then M7 (path,5)>>=λTo=>some (⟨a6.eta To.Value,To.vk,To.ry⟩:ns)
 else if(!K1.2)=true then VE (⟨b9.Kind,false,0,[],r.1,[],[],[(⟨r.1,r.2.1⟩:Jh)]⟩:a6)>>=λOB=>some (⟨a6.eta OB.Value,OB.vk,OB.ry⟩:ns)
 else if hz K1.1 b9.c7.length=true then TB (path,r.1)>>=λJj=>Qj (s,(b9.c7.getD K1.1.toNat d5).jb,r.2.1,hK .i64 RX 1,Jj)>>=λOZ=>if(!OZ.ry)=true then some (⟨a6.eta OZ.Value,OZ.vk,OZ.ry⟩:ns)
 else VE (⟨b9.Kind,false,0,[],r.1,[],[a6.eta OZ.Value],[]⟩:a6)>>=λabP=>some (⟨a6.eta abP.Value,abP.vk,abP.ry⟩:ns)
 else none
  partial_fixpoint
def Z9(dJ:Int×ev×List b8×Int×List b'×b'×Int×Bool×Int×b8×Int×Int×Bool×Int×Bool×Int×b8×Int×List a6):Option ((ns) ⊕ (Int×ev×List b8×List b'×b'×Int×Bool×Int×b8×Int×Int×Bool×Int×Bool×Int×b8×Int×List a6)):=
 match dJ with
 |(apK,abN,JH,i,QN,QO,O',SS,SU,V4,V5,V6,V7,V8,V9,V',UX,Y9,XG)=>
 if decide (Nw .i64 2 i<(JH.length:Int))=true then some (Nw .i64 2 i)>>=λt57=>if hz t57 JH.length=true then TB (abN,i)>>=λNA=>Qj ((⟨QN⟩:f4),QO.Key,JH.getD t57.toNat [],hK .i64 apK 1,NA)>>=λLS=>if(!LS.ry)=true then some (.inl (⟨a6.eta LS.Value,LS.vk,LS.ry⟩:ns))
 else some [a6.eta LS.Value]>>=λt74=>if q5 120 (XG++t74).length=true then Z9 (apK,abN,JH,hK .i64 i 1,QN,QO,O',SS,SU,V4,V5,V6,V7,V8,V9,V',UX,Y9,XG++t74)
 else none
 else none
 else some (.inr (apK,abN,JH,QN,QO,O',SS,SU,V4,V5,V6,V7,V8,V9,V',UX,Y9,XG))
  partial_fixpoint
def aaA(dJ:Int×ev×List b8×Int×List b'×b'×Int×Bool×Int×b8×Int×Int×Bool×Int×Bool×Int×b8×Int×List a6×List a6):Option ((ns) ⊕ (Int×Bool×Int×b8×Int×Int×Bool×Int×Bool×Int×b8×Int×List a6×List a6)):=
 match dJ with
 |(azg,azy,Yh,K7,XQ,Wb,agm,agn,ago,ac4,ac5,ac6,ac7,agp,agq,agr,ags,agt,agu,ac8)=>
 if decide (Nw .i64 2 K7<(Yh.length:Int))=true then some (hK .i64 (Nw .i64 2 K7) 1)>>=λt112=>if hz t112 Yh.length=true then TB (azy,K7)>>=λJj=>Qj ((⟨XQ⟩:f4),Wb.h6,Yh.getD t112.toNat [],hK .i64 azg 1,Jj)>>=λOZ=>if(!OZ.ry)=true then some (.inl (⟨a6.eta OZ.Value,OZ.vk,OZ.ry⟩:ns))
 else some [a6.eta OZ.Value]>>=λt129=>if q5 120 (ac8++t129).length=true then aaA (azg,azy,Yh,hK .i64 K7 1,XQ,Wb,agm,agn,ago,ac4,ac5,ac6,ac7,agp,agq,agr,ags,agt,agu,ac8++t129)
 else none
 else none
 else some (.inr (agm,agn,ago,ac4,ac5,ac6,ac7,agp,agq,agr,ags,agt,agu,ac8))
  partial_fixpoint
def aaH(dJ:Int×ev×List b8×Int×List b'×b'×Int×Bool×Int×b8×Int×Int×Bool×Int×Bool×Int×b8×Int×List a6):Option ((ns) ⊕ (Int×Bool×Int×b8×Int×Int×Bool×Int×Bool×Int×b8×Int×List a6)):=
 match dJ with
 |(adH,azx,l,i,ac0,agd,age,agf,agh,agi,agj,agk,agl,V3,TN,TO,US,UT,TP)=>
 if decide (i<(l.length:Int))=true then if hz i l.length=true then TB (azx,i)>>=λNA=>Qj ((⟨ac0⟩:f4),agd.h6,l.getD i.toNat [],hK .i64 adH 1,NA)>>=λLS=>if(!LS.ry)=true then some (.inl (⟨a6.eta LS.Value,LS.vk,LS.ry⟩:ns))
 else some [a6.eta LS.Value]>>=λt62=>if q5 120 (TP++t62).length=true then aaH (adH,azx,l,hK .i64 i 1,ac0,agd,age,agf,agh,agi,agj,agk,agl,V3,TN,TO,US,UT,TP++t62)
 else none
 else none
 else some (.inr (age,agf,agh,agi,agj,agk,agl,V3,TN,TO,US,UT,TP))
  partial_fixpoint
def UL(dJ:Int×ev×List yJ×Int×List b'×b'×Int×Bool×Int×b8×Int×Int×Bool×Int×Bool×Int×b8×Int×List a6):Option ((ns) ⊕ (ev×List yJ×b'×Int×Bool×Int×b8×Int×Int×Bool×Int×Bool×Int×b8×Int×List a6)):=
 match dJ with
 |(adH,ah2,Py,i,TQ,QM,TR,TS,SO,TT,PZ,TU,TV,SQ,Xz,XA,XD,XF,UU)=>
 if decide (i<(QM.c7.length:Int))=true then if hz i QM.c7.length=true then some (QM.c7.getD i.toNat d5)>>=λJQ=>afu (Py,JQ.c6)>>=λK1=>if decide (K1<0)=true then if(!JQ.qx)=true then TB (ah2,JQ.c6)>>=λNA=>M7 (NA,7)>>=λLS=>some (.inl (⟨a6.eta LS.Value,LS.vk,LS.ry⟩:ns))
 else some [a6.eta JQ.ix]>>=λt63=>if q5 120 (UU++t63).length=true then UL (adH,ah2,Py,hK .i64 i 1,TQ,QM,TR,TS,SO,TT,PZ,TU,TV,SQ,Xz,XA,XD,XF,UU++t63)
 else none
 else if hz K1 Py.length=true then TB (ah2,JQ.c6)>>=λTo=>Qj ((⟨TQ⟩:f4),JQ.jb,(Py.getD K1.toNat Lr).Data,hK .i64 adH 1,To)>>=λOB=>if(!OB.ry)=true then some (.inl (⟨a6.eta OB.Value,OB.vk,OB.ry⟩:ns))
 else some [a6.eta OB.Value]>>=λt89=>if q5 120 (UU++t89).length=true then UL (adH,ah2,Py,hK .i64 i 1,TQ,QM,TR,TS,SO,TT,PZ,TU,TV,SQ,Xz,XA,XD,XF,UU++t89)
 else none
 else none
 else none
 else some (.inr (ah2,Py,QM,TR,TS,SO,TT,PZ,TU,TV,SQ,Xz,XA,XD,XF,UU))
  partial_fixpoint
end
theorem aEq:Oa XW Qj/\Oa aov aiW/\PW 131 0 [0] af8 UL/\Oa aou ai6/\PW 130 0 [2] af7 aaA/\PW 130 0 [0] afA Z9/\Oa aos ai2/\PW 129 0 [0] afz aaH/\Oa aor ai0:=Qj.mutual_partial_correctness (NM XW) (NM aov) (PV 131 0 [0] af8) (NM aou) (PV 130 0 [2] af7) (PV 130 0 [0] afA) (NM aos) (PV 129 0 [0] afz) (NM aor)
 (λ_ _ _ _ _ h0 h1 a' B' Oj _ _ h=>OF h (.k WW (.k aD5 (.k aEu (.k aD1 (.k aaR (.k (Is XW h0) (.k (Is aor Oj) (.k (Is aos B') (.k (Is aou a') (.k (Is aov h1) (.k afp .n))))))))))))
 (λ_ ad _ _ h=>OF h (.k aD7 (.k WW (.k afp .n))) (.k (QH af8 ad) (.k aEp .n)))
 (λ_ _ h0 ad _ _ h=>QG af8 ad h (.k aDN (.k aaR (.k WW (.k (Is XW h0) .n)))))
 (λ_ _ d' hy _ _ h=>OF h (.k arK (.k WW (.k afp .n))) (.k (QH afA hy) (.k aDE (.k (QH af7 d') .n))))
 (λ_ _ h0 d' _ _ h=>QG af7 d' h (.k aaR (.k (Is XW h0) .n)))
 (λ_ _ h0 hy _ _ h=>QG afA hy h (.k aaR (.k (Is XW h0) .n)))
 (λ_ Oi _ _ h=>OF h (.k arK (.k WW (.k afp .n))) (.k (QH afz Oi) .n))
 (λ_ _ h0 Oi _ _ h=>QG afz Oi h (.k aaR (.k (Is XW h0) .n)))
 (λ_ h0 _ _ h=>OF h (.k aFv (.k WW (.k arF (.k afp (.k aaR (.k (Is XW h0) .n)))))))
theorem aDV:iy XW Qj:=Is _ aEq.1
def ai3(dJ:f4×Int×b8):Option (ns×Int):=
 match dJ with
 |(s,t,m)=>
 VC (s,t)>>=λr=>if(!(decide (r=0)))=true then some ((⟨(⟨0,false,0,[],0,[],[],[]⟩:a6),(⟨[],0⟩:O3),false⟩:ns),r)
 else if decide (4096<(m.length:Int))=true then M7 ([],3)>>=λoJ=>some ((⟨a6.eta oJ.Value,oJ.vk,oJ.ry⟩:ns),0)
 else Qj (s,t,m,1,[])>>=λHW=>some ((⟨a6.eta HW.Value,HW.vk,HW.ry⟩:ns),0)
theorem aFj:iy aCw ai3:= .km (.k arJ (.k WW (.k aDV .n)))
def aaL(dJ:f4×Int×b8):Option (a6×Int):=
 match dJ with
 |(s,t,m)=>
 ai3 (s,t,m)>>=λr=>if(bif decide (r.2=0)then(!r.1.ry)else false)=true then some (a6.eta r.1.Value,12)
 else some (a6.eta r.1.Value,r.2)
theorem aD8:iy aCq aaL:= .km (.k aFj .n)
def ae0(dJ:f4×Int×b8×b8):Option (Bool):=
 match dJ with
 |(s,t,m,n)=>
 aad (s,t,m)>>=λr=>aad (s,t,n)>>=λr0=>if decide (r.2=0)=true then some (decide (r0.2=0))>>=λt31=>(if t31=true then YU (a6.eta r.1,a6.eta r0.1)else some false)>>=λNA=>some (bif t31 then NA else false)
 else if decide (r.2=12)=true then some (decide (r0.2=r.2))
 else some false
theorem aE9:iy aCs ae0:= .km (.k aE8 (.k aGd .n))
def af'(dJ:f4×Int×aaq):Option (Bool):=
 match dJ with
 |(s,t,m)=>
 aft ()>>=λr=>some (!r)>>=λt13=>(if(!t13)=true then aiI s else some false)>>=λoJ=>if(bif bif bif t13 then true else(!oJ)then true else decide (400<(m.Z6.length:Int))then true else decide (400<(m.JR.length:Int)))=true then aft ()>>=λHW=>some HW
 else aaL (s,t,m.Z6)>>=λr0=>aaL (s,t,m.JR)>>=λNA=>VC (s,t)>>=λOB=>some (bif decide (OB=0)then decide (r0.2=NA.2)else false)>>=λt56=>(if t56=true then aiY (a6.eta r0.1,a6.eta NA.1)else some false)>>=λJj=>ae0 (s,t,m.Z6,m.JR)>>=λOZ=>some (JB OZ (bif t56 then Jj else false))
theorem aKq:iy Zb af':= .km (.k aEb (.k aFq (.k aD8 (.k arJ (.k aDI (.k aE9 .n))))))
end
section
open Go Go.Proofs.YtandcioiaooocaaGreat.Shv
set_option maxRecDepth 100000
def O1(s:b8):Nat->Nat->Nat->Int×Int×Int
 |0,_,_=>(0,0,10)
 |f+1,i,n=>
  if i<s.length then if i=9/\1<(s.getD i 0).toNat then(0,0,7)
   else if 128<=(s.getD i 0).toNat then O1 s f (i+1) (n+((s.getD i 0).toNat%128)*2^(7*i))
   else if(s.getD i 0).toNat=0/\0<i then(0,0,2)
   else(((n+(s.getD i 0).toNat*2^(7*i):Nat):Int),((i+1:Nat):Int),0)
  else(0,0,10)
theorem azA{i:Nat}(h:i<=9):2^(7*i)<=9223372036854775808:=by
 have:2^(7*i)<=2^63:=adS (by omega) (by omega);omega
theorem aMF(i:Nat):2^(7*(i+1))=2^(7*i)*128:=by rw[Nat.mul_add,Nat.pow_add]
theorem aqJ{n i b:Nat}(eJ:n<2^(7*i)):n+(b%128)*2^(7*i)<2^(7*(i+1)):=by
 rw[aMF];have:b%128*2^(7*i)<=127*2^(7*i):=Ja _ (by omega);omega
theorem agP{n i b:Nat}(ao:i<=9)(eJ:n<2^(7*i))(ai:b<128)(Qm:i=9->b<=1):b*2^(7*i)<18446744073709551616/\n+b*2^(7*i)<18446744073709551616:=by
 rcases Nat.lt_or_ge i 9 with h|h
 . have:2^(7*i)<=2^56:=adS (by omega) (by omega);have e:(2:Nat)^56=72057594037927936:=by decide
   have:b*2^(7*i)<=127*2^(7*i):=Ja _ (by omega);omega
 grind
theorem ax2(s:b8):∀(f i n:Nat),i+f=10->n<2^(7*i)->∃o,aac (s,(n:Int),((min 10 s.length:Nat):Int),(i:Int))=some o/\(match o with|.inl x=>x|.inr _=>(0,0,10))=O1 s f i n
 |0,i,n,h,eJ=>by
  refine⟨.inr (),?_,rfl⟩;rw[aac]
  grind
 |f+1,i,n,h,eJ=>by
  rw[aac];simp only[O1,h3,ec,afb];by_cases ao:i<s.length
  . have ai:=aeJ s i;generalize (s.getD i 0).toNat=b at ai⊢;rw[kp,bJ (js ao),bJ ao];have hm:Nw .i64 7 (i:Int)=((7*i:Nat):Int):=by rw[aJw (by omega) (by omega)];norm_cast
    rw[hm];have gb:decide ((0:Int)<=((7*i:Nat):Int))=true:=by simp;omega
    by_cases Qm:i=9/\1<b
    . rw[bJ Qm,bJ (by obtain⟨h1,ad⟩:=Qm;subst h1;simp;omega)]
      grind
    . rw[cx Qm,cx (by grind)];by_cases Zl:128<=b
      . rw[bJ Zl,kp,bJ gb];have aoF:i=9->False:=λh1=>Qm ⟨h1,by omega⟩
        have e':b%128<128:=Nat.mod_lt _ (by omega);have c9:=agP (i:=i) (n:=n) (b:=b%128) (by omega) eJ e' (λh1=>(aoF h1).elim);rw[aI3 ai,WM,aus (by omega) c9.1,axx (by have:=azA (i:=i) (by omega);omega) c9.1,aw8 eJ,f7];exact ax2 s f (i+1) (n+b%128*2^(7*i)) (by omega) (aqJ eJ)
      . rw[cx Zl,u1];by_cases h0:b=0/\0<i
        . simp_all
        . rw[cx h0,cx (by grind),bJ gb];have c9:=agP (i:=i) (n:=n) (b:=b) (by omega) eJ (by omega) (λh1=>by omega);rw[WM,aus (by omega) c9.1,axx (by have:=azA (i:=i) (by omega);omega) c9.1,aw8 eJ,f7]
          grind
  . rw[u1,cx ao]
    grind
theorem ax3(s:b8):ajj s=some (O1 s 10 0 0):=by
 obtain⟨o,h1,ad⟩:=ax2 s 10 0 0 rfl (by decide);rw[ajj];have:ahC 10 (s.length:Int)=((min 10 s.length:Nat):Int):=aI4 10 s.length
 grind
theorem auP(s:b8):∀(f i n:Nat),i<=s.length->i+f=10->n<2^(7*i)->∃o,aaK (s,(n:Int),(if i<10 then((2^(7*i):Nat):Int)else Nw .u64 ((2^(7*9):Nat):Int) 128),(i:Int))=some o/\(i<10->(match o with|.inl x=>x|.inr _=>(0,0,7))=O1 s f i n)
 |0,i,n,Wp,h,eJ=>by
  refine⟨.inr (),?_,λs'=>by omega⟩;rw[aaK]
  grind
 |f+1,i,n,Wp,h,eJ=>by
  rw[aaK];simp only[O1,h3,ec,afb];rw[bJ (show decide ((i:Int)<10)=true by simp;omega),bJ (show i<10 by omega)];by_cases ao:i<s.length
  . have ai:=aeJ s i;generalize (s.getD i 0).toNat=b at ai⊢;rw[u1,bJ (js ao),bJ ao,WM];by_cases Qm:i=9/\1<b
    . rw[bJ Qm,bJ (by obtain⟨h1,ad⟩:=Qm;subst h1;simp;omega)]
      grind
    . rw[cx Qm,cx (by grind)];have adu:NY (b:Int) 128=((b%128:Nat):Int):=azK (b:=128);have e':b%128<128:=Nat.mod_lt _ (by omega);by_cases Zl:128<=b
      . rw[bJ Zl,u1];have aoF:i=9->False:=λh1=>Qm ⟨h1,by omega⟩
        have c9:=agP (i:=i) (n:=n) (b:=b%128) (by omega) eJ e' (λh1=>(aoF h1).elim);rw[adu,adI c9.1,aka c9.2,f7];obtain⟨o,h1,ad⟩:=auP s f (i+1) (n+b%128*2^(7*i)) (by omega) (by omega) (aqJ eJ);have hu:Nw .u64 ((2^(7*i):Nat):Int) 128=((2^(7*(i+1)):Nat):Int):=by
         have:=adI (a:=2^(7*i)) (b:=128) (by
          have:2^(7*i)<=2^56:=adS (by omega) (by omega)
          omega)
         grind
        grind
      . rw[cx Zl,kp];have aLv:b%128=b:=ZJ (by omega);have c9:=agP (i:=i) (n:=n) (b:=b) (by omega) eJ (by omega) (λh1=>by omega);by_cases h0:b=0/\0<i
        . simp_all
        . rw[cx h0,cx (by grind)];rw[adu,aLv,adI c9.1,aka c9.2,f7]
          grind
  . rw[kp,cx ao]
    grind
theorem ana(s:b8):acI s=some (O1 s 10 0 0):=by
 obtain⟨o,h1,ad⟩:=auP s 10 0 0 (by omega) rfl (by decide);rw[acI]
 grind
theorem atQ(s:b8):∀(f i n:Nat),i<=s.length->i+f=10->n<2^(7*i)->(∃e:Int,e≠0/\O1 s f i n=(0,0,e))\/∃m k:Nat,O1 s f i n=((m:Int),(k:Int),0)/\i<k/\k<=s.length/\m<18446744073709551616
 |0,i,n,Wp,h,eJ=>.inl ⟨10,by decide,rfl⟩
 |f+1,i,n,Wp,h,eJ=>by
  simp only[O1];have ai:=aeJ s i;generalize (s.getD i 0).toNat=b at ai⊢;by_cases ao:i<s.length
  . rw[bJ ao];by_cases Qm:i=9/\1<b
    . simp_all
    . rw[cx Qm];by_cases Zl:128<=b
      . rw[bJ Zl];rcases atQ s f (i+1) (n+b%128*2^(7*i)) (by omega) (by omega) (aqJ eJ)with h|⟨m,k,h1,ad,a',d'⟩
        . exact .inl h
        grind
      . rw[cx Zl];by_cases h0:b=0/\0<i
        . simp_all
        . rw[cx h0];have c9:=agP (i:=i) (n:=n) (b:=b) (by omega) eJ (by omega) (λh1=>by omega);exact .inr ⟨_,i+1,rfl,by omega,by omega,c9.2⟩
  . rw[cx ao];exact .inl ⟨10,by decide,rfl⟩
theorem WL(s:b8):(∃e:Int,e≠0/\O1 s 10 0 0=(0,0,e))\/∃m k:Nat,O1 s 10 0 0=((m:Int),(k:Int),0)/\0<k/\k<=s.length/\m<18446744073709551616:=
 atQ s 10 0 0 (by omega) rfl (by decide)
theorem YB{s:b8}{e:Int}(he:e≠0)(h:O1 s 10 0 0=(0,0,e)):YV s=some (0,[],false):=by
 rw[YV,ax3,h]
 grind
theorem YC{s:b8}{m k:Nat}(h:O1 s 10 0 0=((m:Int),(k:Int),0))(hk:k<=s.length):YV s=some ((m:Int),s.drop k,true):=by
 rw[YV,ax3,h];simp only[h3,ec];rw[nc,bJ (aau hk (DJ _)),aeO]
def LG:Option (b8×b8)->b8×b8×Bool
 |none=>([],[],false)
 |some (a,b)=>(a,b,true)
def Uo(s:b8):Option (b8×b8):=
 match O1 s 10 0 0 with
 |(m,k,e)=>if e=0/\m.toNat+k.toNat<=s.length then some ((s.drop k.toNat).take m.toNat,(s.drop k.toNat).drop m.toNat)else none
theorem acm{s a b:b8}(h:Uo s=some (a,b)):a.length+b.length<s.length:=by
 unfold Uo at h;rcases WL s with⟨e,he,ch⟩|⟨m,k,ch,Oo,hk,hm⟩
 . grind
 grind
theorem acb{s:b8}(hs:s.length<=1000000:=by omega):ae6 s=some (LG (Uo s)):=by
 rw[ae6];unfold Uo;rcases WL s with⟨e,he,ch⟩|⟨m,k,ch,Oo,hk,hm⟩
 . rw[YB he ch,ch];simp[he,LG]
 . rw[YC ch hk,ch];simp only[h3,ec,ahY,true_and,adY];rw[WM];by_cases q4:m+k<=s.length
   . rw[u1,bJ (show ME 0 (m:Int) (s.length-k)=true from aau (a:=0) (by omega) (by omega)),bJ (aau (by omega) (DJ _)),bJ q4];have:((s.length-k:Nat):Int)=((s.drop k).length:Int):=by simp
     rw[this,aeO,aG0];rfl
   . rw[kp,cx q4];rfl
theorem ax4{s:b8}(hs:s.length<=1000000):aeS s=some (LG (Uo s)):=by
 rw[aeS,ana];unfold Uo;rcases WL s with⟨e,he,ch⟩|⟨m,k,ch,Oo,hk,hm⟩
 . rw[ch];simp[he,LG]
 . rw[ch];simp only[h3,ec,ahY,true_and];have JM:MP .i64 (s.length:Int) (k:Int)=((s.length-k:Nat):Int):=by rw[UI];omega
   rw[JM,WM];by_cases q4:m+k<=s.length
   . rw[u1,bJ q4];have hw:G' .i64 (m:Int)=(m:Int):=Si;rw[hw,awx (by omega),bJ (aau (by omega) (by omega)),bJ (aau (by omega) (DJ _)),aeO];have:LY s (k:Int) ((k+m:Nat):Int)=(s.drop k).take m:=by
      unfold LY;rw[ahY,ahY,List.drop_take]
      grind
     rw[this,ahI];rfl
   . rw[kp,cx q4];rfl
theorem atS:∀(n:Nat) (s:b8) (b:List b8),s.length<=n->s.length+b.length<=100000->∃o,TA (s,b)=some o/\∀l,o= .inr l->l.length<=s.length+b.length:=by
 intro n
 induction n with
 |zero=>
  intro s b h1 ad;have:s=[]:=Qw (by omega);subst this;refine⟨.inr b,?_,λl ar=>by cases ar;omega⟩;rw[TA];rw[nc]
 |succ n ih=>
  intro s b h1 ad;rw[TA,acb];simp only[h3,ec];by_cases hs:s=[]
  . grind
  . have a7:(!(decide (s=[])))=true:=by simp[hs]
    rw[bJ a7];cases ch:Uo s with
    |none=>exact⟨.inl 12,rfl,λl ar=>by cases ar⟩
    |some p=>
     obtain⟨x,y⟩:=p;have ar:=acm ch;have al:q5 16 (b++[(LG (some (x,y))).1]).length=true:=MD;have eJ:¬((!(LG (some (x,y))).2.2)=true):=by simp[LG]
     rw[cx eJ,bJ al];obtain⟨o,a',hy⟩:=ih y (b++[x]) (by omega) (by simp;omega);exact⟨o,a',λl Lm=>by have:=hy l Lm;simp at this;omega⟩
theorem aI9{s:b8}(h:s.length<=90000):∃o,UO s=some o/\o.1.length<=s.length:=by
 obtain⟨o,h1,a'⟩:=atS s.length s [] (DJ _) (by simp;omega);rw[UO,h1];cases o with
 |inl e=>exact⟨_,rfl,by simp⟩
 |inr l=>exact⟨_,rfl,by have:=a' l rfl;simpa using this⟩
theorem aIU:∀(n:Nat) (s:b8) (b:List b8),s.length<=n->s.length+b.length<=100000->aaE (s,b)=TA (s,b):=by
 intro n
 induction n with
 |zero=>
  intro s b h1 ad;have:s=[]:=Qw (by omega);subst this;rw[TA,aaE,nc,nc]
 |succ n ih=>
  intro s b h1 ad;rw[TA,aaE,acb,ax4 (by omega)];simp only[h3,ec];by_cases hs:s=[]
  . grind
  . have a7:(!(decide (s=[])))=true:=by simp[hs]
    rw[bJ a7,bJ a7];cases ch:Uo s with
    |none=>rfl
    |some p=>
     obtain⟨x,y⟩:=p;have ar:=acm ch;have al:q5 16 (b++[(LG (some (x,y))).1]).length=true:=MD;have eJ:¬((!(LG (some (x,y))).2.2)=true):=by simp[LG]
     rw[cx eJ,bJ al,cx eJ,bJ al];exact ih y (b++[x]) (by omega) (by simp;omega)
theorem aI'{s:b8}(h:s.length<=90000):Pi s=UO s:=by
 rw[UO,Pi,aIU s.length s [] (DJ _) (by simp;omega)]
theorem auQ:∀(n:Nat) (s:b8) (C2:Nat) (b:List yJ),s.length<=n->s.length+b.length<=100000->∃o,QE ((C2:Int),s,b)=some o/\∀l,o= .inr l->l.length<=s.length+b.length:=by
 intro n
 induction n with
 |zero=>
  intro s C2 b h1 ad;have:s=[]:=Qw (by omega);subst this;refine⟨.inr b,?_,λl ar=>by cases ar;omega⟩;rw[QE];rw[nc]
 |succ n ih=>
  intro s C2 b h1 ad;rw[QE];by_cases hs:s=[]
  . subst hs;exact⟨.inr b,by rw[nc],λl ar=>by cases ar;omega⟩
  . have a7:(!(decide (s=[])))=true:=by simp[hs]
    rw[bJ a7];rcases WL s with⟨e,he,ch⟩|⟨m,k,ch,Oo,hk,hm⟩
    . rw[YB he ch];exact⟨.inl 12,rfl,λl ar=>by cases ar⟩
    . rw[YC ch hk];simp only[h3,ec];rw[alj hm];by_cases aoR:m/2<=C2\/1000<m/2
      . exact⟨.inl 12,by rw[kp],λl ar=>by cases ar⟩
      . have hw:G' .i64 ((m/2:Nat):Int)=((m/2:Nat):Int):=Si;rw[u1,hw,acb (by simp;omega)];simp only[ec];cases aJ:Uo (s.drop k)with
        |none=>exact⟨.inl 12,rfl,λl ar=>by cases ar⟩
        |some p=>
         obtain⟨x,y⟩:=p;have ar:=acm aJ;rw[adY]at ar;have al:q5 32 (b++[(⟨((m/2:Nat):Int),decide (NY (m:Int) 2=1),(LG (some (x,y))).1⟩:yJ)]).length=true:=MD;have eJ:¬((!(LG (some (x,y))).2.2)=true):=by simp[LG]
         rw[cx eJ,bJ al];obtain⟨o,a',hy⟩:=ih y (m/2) (b++[(⟨((m/2:Nat):Int),decide (NY (m:Int) 2=1),x⟩:yJ)]) (by omega) (by simp;omega);exact⟨o,a',λl Lm=>by have:=hy l Lm;simp at this;omega⟩
theorem aHL{s:b8}(h:s.length<=90000):∃o,VW s=some o/\o.1.length<=s.length:=by
 obtain⟨o,h1,a'⟩:=auQ s.length s 0 [] (DJ _) (by simp;omega);have LK:QE (0,s,[])=some o:=h1;rw[VW,LK];cases o with
 |inl e=>exact⟨_,rfl,by simp⟩
 |inr l=>exact⟨_,rfl,by have:=a' l rfl;simpa using this⟩
theorem aJa:∀(n:Nat) (s:b8) (C2:Nat) (b:List yJ),s.length<=n->s.length+b.length<=100000->YJ (s,(C2:Int),b)=QE ((C2:Int),s,b):=by
 intro n
 induction n with
 |zero=>
  intro s C2 b h1 ad;have:s=[]:=Qw (by omega);subst this;rw[QE,YJ,nc,nc]
 |succ n ih=>
  intro s C2 b h1 ad;rw[QE,YJ,ana];by_cases hs:s=[]
  . simp_all
  . have a7:(!(decide (s=[])))=true:=by simp[hs]
    rw[bJ a7,bJ a7];rcases WL s with⟨e,he,ch⟩|⟨m,k,ch,Oo,hk,hm⟩
    . rw[YB he ch,ch];simp_all
    . rw[YC ch hk,ch];simp only[h3,ec];rw[alj hm];by_cases aoR:m/2<=C2\/1000<m/2
      . have ep:(bif bif (!true)then true else decide (((m/2:Nat):Int)<=(C2:Int))then true else decide (1000<((m/2:Nat):Int)))=true:=by simp;omega
        rw[bJ ep];rw[bJ];by_cases aN0:2001<m
        . simp;omega
        . have hw:G' .i64 ((m/2:Nat):Int)=((m/2:Nat):Int):=Si
          grind
      . have hw:G' .i64 ((m/2:Nat):Int)=((m/2:Nat):Int):=Si;have aBi:¬(bif bif (!true)then true else decide (((m/2:Nat):Int)<=(C2:Int))then true else decide (1000<((m/2:Nat):Int)))=true:=by simp;omega
        rw[hw,u1,bJ (aau hk (DJ _)),aeO,ax4 (by simp;omega),cx aBi,acb (by simp;omega)];simp only[ec];cases aJ:Uo (s.drop k)with
        |none=>rfl
        |some p=>
         obtain⟨x,y⟩:=p;have ar:=acm aJ;rw[adY]at ar;have al:q5 32 (b++[(⟨((m/2:Nat):Int),decide (NY (m:Int) 2=1),(LG (some (x,y))).1⟩:yJ)]).length=true:=MD;have eJ:¬((!(LG (some (x,y))).2.2)=true):=by simp[LG]
         rw[cx eJ,bJ al,cx eJ,bJ al];exact ih y (m/2) (b++[(⟨((m/2:Nat):Int),decide (NY (m:Int) 2=1),x⟩:yJ)]) (by omega) (by simp;omega)
theorem aHM{s:b8}(h:s.length<=90000):afq s=VW s:=by
 have h1:YJ (s,0,[])=QE (0,s,[]):=aJa s.length s 0 [] (DJ _) (by simp;omega);rw[VW,afq,h1]
theorem aJO(s:b8):∃o,UB s=some o:=by
 rw[UB];rcases WL s with⟨e,he,ch⟩|⟨m,k,ch,Oo,hk,hm⟩
 . rw[YB he ch];exact⟨_,rfl⟩
 . rw[YC ch hk];simp only[h3,ec];by_cases aoR:m<1\/1000<m
   . exact⟨(0,[],12),by rw[kp]⟩
   . rw[u1];exact⟨_,rfl⟩
theorem aJP(s:b8):∃o,UB s=some o/\aeQ s=some o:=by
 rw[UB,aeQ,ana];rcases WL s with⟨e,he,ch⟩|⟨m,k,ch,Oo,hk,hm⟩
 . rw[YB he ch,ch];simp_all
 . rw[YC ch hk,ch];simp only[h3,ec];by_cases aoR:m<1\/1000<m
   . exact⟨(0,[],12),by rw[kp],by rw[kp]⟩
   . rw[u1,u1,bJ (aau hk (DJ _)),aeO]
     grind
def Vw(n:Nat):b8:=if n<128 then[UInt8.ofNat n]else UInt8.ofNat (n%128+128)::Vw (n/128)
termination_by n
decreasing_by omega
theorem aGu{n:Nat}(h:n<128):Vw n=[UInt8.ofNat n]:=by rw[Vw,bJ h]
theorem aJb{n:Nat}(h:¬n<128):Vw n=UInt8.ofNat (n%128+128)::Vw (n/128):=by rw[Vw,cx h]
def aJQ(p:b8):b8:=Vw p.length++p
def aJR(id:Nat)(c:Bool)(p:b8):b8:=Vw (2*id+(if c then 1 else 0))++aJQ p
inductive JJ:a6->Prop
 |mk (v:a6) (hs:v.o'.length<=reachBytes) (h1:v.r3.length<=reachBytes) (ad:v.qb.length<=reachBytes) (a':v.Rest.length<=reachBytes)
  (hk:∀x,x∈v.r3->JJ x) (ao:∀x,x∈v.qb->JJ x) (al:∀x,x∈v.Rest->x.Data.length<=reachBytes)
  (Ww: -9223372036854775808<=v.Kind/\v.Kind<=9223372036854775807) (Wx: -9223372036854775808<=v.oj/\v.oj<=9223372036854775807) (adJ: -9223372036854775808<=v.c6/\v.c6<=9223372036854775807)
  (adK:∀x,x∈v.Rest->-9223372036854775808<=x.c6/\x.c6<=9223372036854775807):JJ v
theorem M8{n:Nat}(h:n<=reachBytes):n<9223372036854775807:=Nat.lt_of_le_of_lt h (by decide)
theorem Qb{LV:Type}(L:Nat->Option LV)(n:Nat)(p:Nat->Bool)(aa2 abf:LV)(Ot:∀i,i<n->L i=if p i=true then L (i+1)else some aa2)(U':L n=some abf):
 (L 0=some abf/\∀j,j<n->p j=true)\/(L 0=some aa2/\∃j,j<n/\p j=false):=by
 have key:∀k i,i+k=n->(L i=some abf/\∀j,i<=j->j<n->p j=true)\/(L i=some aa2/\∃j,j<n/\p j=false):=by
  intro k
  induction k with
  |zero=> intro i ao; have:i = n:= by omega
          subst this;exact .inl ⟨U',λj h1 ad=>by omega⟩
  |succ k ih=>grind
 rcases key n 0 (by omega)with⟨h1,ad⟩|h
 . exact .inl ⟨h1,λj ea=>ad j (Q2 _) ea⟩
 . exact .inr h
theorem KZ{α:Type}{l:List α}{i:Nat}(h:i<l.length)(d:α):l.getD i d=l[i]:=by grind
theorem acO{α:Type}{a b:List α}{p:Nat->Bool}(ar:a.length=b.length)(aJ:∀(i:Nat) (h1:i<a.length) (ad:i<b.length),p i=true↔a[i]=b[i]):
 (∀j,j<a.length->p j=true)↔a=b:=by
 constructor
 . intro h;exact List.ext_getElem ar λi h1 ad=>(aJ i h1 ad).1 (h i h1)
 . rintro rfl j ea
   exact(aJ j ea ea).2 rfl
def Jg{α:Type}(o:Option Bool)(a b:α):Prop:=∃r,o=some r/\(r=true↔a=b)
theorem Jg.ap9 {α:Type}{a b:List α}{p:Nat->Bool}(ar:a.length=b.length)(aJ:∀(i:Nat) (h1:i<a.length) (ad:i<b.length),p i=true↔a[i]=b[i]){o:Option Bool}
 (h:(o=some true/\∀j,j<a.length->p j=true)\/(o=some false/\∃j,j<a.length/\p j=false)):Jg o a b:=by
 rcases h with⟨h1,ad⟩|⟨h1,j,ad,a'⟩
 . exact⟨true,h1,by simp[(acO ar aJ).1 ad]⟩
 . refine⟨false,h1,?_⟩;constructor
   . intro h;cases h
   . intro h;have:=(acO ar aJ).2 h j ad;rw[a']at this;cases this
theorem ax5{a b:Jh}:(NN a.c6 b.c6&&(Pj a.Data b.Data&&true))=true↔a=b:=by cases a;cases b;simp[NN,Pj]
theorem ax6{a b:s4}:(NN a.c6 b.c6&&(Pj a.Name b.Name&&true))=true↔a=b:=by
 cases a;cases b;simp[NN,Pj]
theorem aJS{α:Type}{a b:List α}(h:¬a.length=b.length):a≠b:=λe=>h (Jy List.length e)
theorem acu{α:Type}{a b:List α}(h:¬a.length=b.length):Jg (some false) a b:=⟨false,rfl,by simp[aJS h]⟩
theorem ax7{a b:List Jh}(b6:a.length<=reachBytes):Jg (Y3 (a,b)) a b:=by
 rw[Y3];by_cases ar:a.length=b.length
 . rw[u1];have al:=M8 b6;have:=Qb (λi=>Su (a,b,(a.length:Int),(i:Int))) a.length (λi=>NN (a.getD i Na).c6 (b.getD i Na).c6&&(Pj (a.getD i Na).Data (b.getD i Na).Data&&true)) (.inl false) (.inr ())
    (λi ao=>by
     rw[Su,kp,bJ (js ao)];simp only[h3,ec,u3];rw[bJ (js (by omega)),f7]
     grind)
    (by rw[Su,nc])
   have h0:Su (a,b,(a.length:Int),((0:Nat):Int))=Su (a,b,(a.length:Int),0):=rfl;simp only[h0]at this;refine Jg.ap9 (p:=λi=>NN (a.getD i Na).c6 (b.getD i Na).c6&&(Pj (a.getD i Na).Data (b.getD i Na).Data&&true)) ar (λi h1 ad=>by simp only[KZ h1,KZ ad];exact ax5) ?_
   grind
 . rw[kp];exact acu ar
theorem aJT{a b:List s4}(b6:a.length<=reachBytes):Jg (ai5 (a,b)) a b:=by
 rw[ai5];by_cases ar:a.length=b.length
 . rw[u1];have al:=M8 b6;have:=Qb (λi=>W5 (a,b,(a.length:Int),(i:Int))) a.length (λi=>NN (a.getD i yt).c6 (b.getD i yt).c6&&(Pj (a.getD i yt).Name (b.getD i yt).Name&&true)) (.inl false) (.inr ())
    (λi ao=>by
     rw[W5,kp,bJ (js ao)];simp only[h3,ec,u3];rw[bJ (js (by omega)),f7]
     grind)
    (by rw[W5,nc])
   have h0:W5 (a,b,(a.length:Int),((0:Nat):Int))=W5 (a,b,(a.length:Int),0):=rfl;simp only[h0]at this;refine Jg.ap9 (p:=λi=>NN (a.getD i yt).c6 (b.getD i yt).c6&&(Pj (a.getD i yt).Name (b.getD i yt).Name&&true)) ar (λi h1 ad=>by simp only[KZ h1,KZ ad];exact ax6) ?_
   grind
 . rw[kp];exact acu ar
theorem aju(v:a6):(⟨v.Kind,v.s0,v.oj,v.o',v.c6,v.r3,v.qb,v.Rest⟩:a6)=v:=by cases v;rfl
theorem auR{a b:a6}:a=b↔a.Kind=b.Kind/\a.s0=b.s0/\a.oj=b.oj/\a.o'=b.o'/\a.c6=b.c6/\a.Rest=b.Rest/\a.r3=b.r3/\a.qb=b.qb:=by
 constructor
 . grind
 . cases a;cases b
   grind
section
variable {f:a6×a6->Option Bool}
theorem amZ {a b:List a6}(ar:a.length=b.length)(ih:∀x,x∈a->∀y,Jg (f (x,y)) x y)(L:Nat->Option (Bool ⊕ Unit))
 (Ot:∀i,i<a.length->L i=(f (a6.eta (a.getD i f5),a6.eta (b.getD i f5))>>=λr=>if(!r)=true then some (.inl false)else L (i+1)))
 (U':L a.length=some (.inr ())):Jg (L 0>>=λo=>match o with|.inl x=>some x|.inr _=>some true) a b:=by
 have t':∀(i:Nat) (h1:i<a.length) (ad:i<b.length),Jg (f (a6.eta (a.getD i f5),a6.eta (b.getD i f5))) a[i] b[i]:=by
  intro i h1 ad;rw[KZ h1,KZ ad,a6.pa,a6.pa]
  grind
 have:=Qb L a.length (λi=>(f (a6.eta (a.getD i f5),a6.eta (b.getD i f5))).getD false) (.inl false) (.inr ())
  (λi ao=>by
   obtain⟨r,h1,ad⟩:=t' i ao (by omega)
   grind) U'
 refine Jg.ap9 ar (λi h1 ad=>?_) ?_ (p:=λi=>(f (a6.eta (a.getD i f5),a6.eta (b.getD i f5))).getD false)
 . obtain⟨r,a',d'⟩:=t' i h1 ad;rw[a'];exact d'
 . rcases this with⟨h1,ad⟩|⟨h1,ad⟩
   . exact .inl ⟨by rw[h1];rfl,ad⟩
   . exact .inr ⟨by rw[h1];rfl,ad⟩
end
theorem awC{a b:List a6}(b6:a.length<=reachBytes)(ih:∀x,x∈a->∀y,Jg (YU (x,y)) x y):Jg (ab6 (a,b)) a b:=by
 rw[ab6];by_cases ar:a.length=b.length
 . rw[u1];have al:=M8 b6;exact amZ ar ih (λi=>ab4 (b,a,(a.length:Int),(i:Int)))
    (λi ao=>by
     rw[ab4,kp,bJ (js ao),bJ (js (by omega)),f7]
     rfl)
    (by rw[ab4,nc])
 . rw[kp];exact acu ar
theorem awD{a b:List a6}(b6:a.length<=reachBytes)(ih:∀x,x∈a->∀y,Jg (UA (x,y)) x y):Jg (afd (a,b)) a b:=by
 rw[afd];by_cases ar:a.length=b.length
 . rw[u1];have al:=M8 b6;exact amZ ar ih (λi=>ab5 (b,a,(a.length:Int),(i:Int)))
    (λi ao=>by
     rw[ab5,kp,bJ (js ao),bJ (js (by omega)),f7]
     rfl)
    (by rw[ab5,nc])
 . rw[kp];exact acu ar
theorem awF{a b:List a6}(b6:a.length<=reachBytes)(ih:∀x,x∈a->∀y,Jg (UK (x,y)) x y):Jg (aff (a,b)) a b:=by
 rw[aff];by_cases ar:a.length=b.length
 . rw[u1];have al:=M8 b6;exact amZ ar ih (λi=>ab7 (a,b,(i:Int)))
    (λi ao=>by
     rw[ab7,kp,bJ (js ao),bJ (js (by omega)),f7]
     rfl)
    (by rw[ab7,nc])
 . rw[kp];exact acu ar
theorem az'{a b:a6}{hy:Bool}(aba:hy=true↔a.Kind=b.Kind/\a.s0=b.s0/\a.oj=b.oj/\a.o'=b.o'/\a.c6=b.c6){x y z:Option Bool}(aa:Jg x a.Rest b.Rest)(bo:Jg y a.r3 b.r3)(gb:Jg z a.qb b.qb):
 Jg (some hy>>=λt37=>(if t37=true then x else some false)>>=λr=>some (bif t37 then r else false)>>=λt44=>(if t44=true then y else some false)>>=λoJ=>some (bif t44 then oJ else false)>>=λt51=>(if t51=true then z else some false)>>=λHW=>some (bif t51 then HW else false)) a b:=by
 obtain⟨rx,P6,aL2⟩:=aa;obtain⟨azQ,ahq,ahr⟩:=bo;obtain⟨aMW,abu,ahs⟩:=gb;subst P6;subst ahq;subst abu;refine⟨hy&&rx&&azQ&&aMW,?_,?_⟩
 . cases hy<;>cases rx<;>cases azQ<;>rfl
 . rw[auR];simp only[h5];rw[aba,aL2,ahr,ahs];constructor
   . rintro ⟨⟨⟨⟨h1,ad,a',d',hy⟩,B'⟩,Oi⟩,Oj⟩;exact⟨h1,ad,a',d',hy,B',Oi,Oj⟩
   . rintro ⟨h1,ad,a',d',hy,B',Oi,Oj⟩;exact⟨⟨⟨⟨h1,ad,a',d',hy⟩,B'⟩,Oi⟩,Oj⟩
theorem awl{a b:a6}:(bif bif bif bif decide (a.Kind=b.Kind)then JB a.s0 b.s0 else false then decide (a.oj=b.oj)else false then decide (a.o'=b.o')else false then decide (a.c6=b.c6)else false)=true↔a.Kind=b.Kind/\a.s0=b.s0/\a.oj=b.oj/\a.o'=b.o'/\a.c6=b.c6:=by
 simp only[ahH,JB]
 grind
theorem aGv{a:a6}(h:JJ a):∀b,Jg (YU (a,b)) a b:=by
 induction h with
 |mk a hs h1 ad a' hk ao al Ww Wx adJ adK abx abw=>
  intro b;rw[YU];exact az' awl (ax7 a') (awC h1 abx) (awC ad abw)
theorem am0{a:a6}(h:JJ a):∀b,Jg (UA (a,b)) a b:=by
 induction h with
 |mk a hs h1 ad a' hk ao al Ww Wx adJ adK abx abw=>
  intro b;rw[UA];exact az' awl (ax7 a') (awD h1 abx) (awD ad abw)
theorem an1{a:a6}(h:JJ a):∀b,Jg (UK (a,b)) a b:=by
 induction h with
 |mk a hs h1 ad a' hk ao al Ww Wx adJ adK abx abw=>
  intro b;rw[UK];by_cases hy:a.Kind=b.Kind/\a.s0=b.s0/\a.oj=b.oj/\a.o'=b.o'/\a.c6=b.c6/\a.Rest.length=b.Rest.length
  . obtain⟨ep,hp,zt,T0,aba,agI⟩:=hy;rw[cx (by simp[ep,hp,zt,T0,aba,agI,JB])];have ayR:=M8 a';have LM:=Qb (λi=>W6 ((i:Int),a,b)) a.Rest.length (λi=>NN (a.Rest.getD i Na).c6 (b.Rest.getD i Na).c6&&(Pj (a.Rest.getD i Na).Data (b.Rest.getD i Na).Data&&true)) (.inl false) (.inr (a,b))
     (λi Wn=>by
      rw[W6,kp,bJ (js Wn)];simp only[h3,ec,u3,a6.pa];rw[bJ (js (by omega)),f7]
      grind)
     (by rw[W6,nc,a6.pa,a6.pa])
    have h0:W6 (((0:Nat):Int),a,b)=W6 (0,a,b):=rfl;simp only[h0]at LM;rw[aju,aju];have aJ:∀(i:Nat) (h1:i<a.Rest.length) (ad:i<b.Rest.length),(NN (a.Rest.getD i Na).c6 (b.Rest.getD i Na).c6&&(Pj (a.Rest.getD i Na).Data (b.Rest.getD i Na).Data&&true))=true↔a.Rest[i]=b.Rest[i]:=λi h1 ad=>by rw[KZ h1,KZ ad];exact ax5
    rcases LM with⟨g1,g2⟩|⟨g1,j,g2,g3⟩
    . have aOd:=(acO agI aJ).1 g2;rw[g1];obtain⟨aqx,ha,hg⟩:=awF (a:=a.r3) (b:=b.r3) h1 abx;obtain⟨aMT,i1,i2⟩:=awF (a:=a.qb) (b:=b.qb) ad abw;simp only[h3,ec];rw[ha,i1];refine⟨aqx&&aMT,by cases aqx<;>rfl,?_⟩;rw[auR,h5,hg,i2]
      grind
    . rw[g1];refine⟨false,rfl,?_⟩
      grind
  . rw[bJ]
    . refine⟨false,rfl,?_⟩
      grind
    . simp only[ahH,JB]
      grind
def acd(c:Int):Bool:=decide (c=95\/(97<=c/\c<=122)\/(65<=c/\c<=90))
def af9(c:Int):Bool:=decide (48<=c/\c<=57)
theorem auS(c:Int):aeV c=some (acd c):=by
 rw[aeV];unfold acd
 grind
theorem auT(c:Int):afn c=some (acd c):=by
 rw[afn];unfold acd
 grind
theorem aJc(c:Int):ajx c=some (af9 c):=by
 rw[ajx];unfold af9
 grind
theorem aJd(c:Int):aiZ c=some (af9 c):=by
 rw[aiZ];unfold af9
 grind
theorem atT{LV:Type}(A B ri:Bool)(X Y:Option LV)(X0:ri=true):
 (some A>>=λoJ=>some (!oJ)>>=λt26=>if(ri||(!t26))=true then(if t26=true then some B else some false)>>=λHW=>if(bif t26 then(!HW)else false)=true then X else Y else none)=if(A||B)=true then Y else X:=by
 subst X0;cases A<;>cases B<;>rfl
theorem awG(s:b8):∃r,SA s=some r/\aaI s=some r:=by
 rw[SA,aaI];simp only[h3,ec];by_cases ai:s=[]\/24<s.length
 . have ht:(bif decide (s=[])then true else decide (24<(s.length:Int)))=true:=by grind
   rw[ht];simp_all
 . have hn:s≠[]:=λh=>ai (.inl h)
   have n':s.length<=24:=by omega
   have ht:(bif decide (s=[])then true else decide (24<(s.length:Int)))=false:=by grind
   have Yd:0<s.length:=ahV.2 hn;have JV:hz 0 s.length=true:=js (k:=0) Yd;simp only[ht,JV,ahO,xe,Tf,ec,auS,auT,Ti];cases ar:acd (m5 s 0)with
   |false=>exact⟨false,rfl,rfl⟩
   |true=>
    rw[nc,nc]
    let p:Nat->Bool:=λi=>acd (m5 s i)||af9 (m5 s i)
    have s1:=Qb (λi=>Xf (s,(s.length:Int),(i:Int))) s.length p (.inl false) (.inr ())
     (λi ao=>by
      rw[Xf,kp,bJ (js ao),auS,aJc,f7]
      exact atT _ _ _ _ _ (js ao))
     (by rw[Xf,nc])
    have s2:=Qb (λi=>Xd (s,(i:Int))) s.length p (.inl false) (.inr ())
     (λi ao=>by
      rw[Xd,kp,bJ (js ao),auT,aJd,f7]
      exact atT _ _ _ _ _ (js ao))
     (by rw[Xd,nc])
    have ep:Xf (s,(s.length:Int),((0:Nat):Int))=Xf (s,(s.length:Int),0):=rfl;have hp:Xd (s,((0:Nat):Int))=Xd (s,0):=rfl;simp only[ep,hp]at s1 s2;rcases s1 with⟨a1,a2⟩|⟨a1,j,a2,a3⟩<;>rcases s2 with⟨b1,b2⟩|⟨b1,k,b2,pI⟩
    . simp_all
    . grind
    . grind
    simp_all
def nm(s:b8):Bool:=(SA s).getD false
theorem abB(s:b8):SA s=some (nm s):=by
 obtain⟨r,h1,_⟩:=awG s;unfold nm;rw[h1];rfl
theorem ah8(s:b8):aaI s=some (nm s):=by
 obtain⟨r,h1,ad⟩:=awG s;unfold nm;rw[h1,ad];rfl
theorem apT{s:b8}(h:nm s=true):s≠[]:=by
 rintro rfl
 unfold nm at h;rw[SA]at h;simp at h
def QY(l:ev)(names:List b8)(i:Nat):Bool:=
 decide (1<=l.getD i 0)&&decide (l.getD i 0<=1000)&&(decide (i=0)||decide (l.getD (i-1) 0<l.getD i 0))&&nm (names.getD i []) && !((names.take i).contains (names.getD i []))
def R2(l:List b8):List b8:=l.foldl O7 []
theorem aJe(ks:List b8)(a s:b8):Pn (O7 ks a) s=(Pn ks s||decide (a=s)):=by
 unfold O7;split
 . grind
 . simp[Pn,List.any_append]
theorem atd(l:List b8)(s:b8):Pn (R2 l) s=l.contains s:=by
 have key:∀(l:List b8) (ks:List b8),Pn (l.foldl O7 ks) s=(Pn ks s||l.contains s):=by
  intro l
  induction l with
  |nil=>intro ks;simp
  |cons a r ih=>
   intro ks;rw[List.foldl_cons,ih,aJe,Bool.or_assoc]
   grind
 have:=key l []
 simpa[R2,Pn]using this
theorem ate{l:List b8}{i:Nat}(h:i<l.length):O7 (R2 (l.take i)) (l.getD i [])=R2 (l.take (i+1)):=by
 unfold R2;rw[List.take_add_one,List.foldl_append,HJ h,KZ h];rfl
theorem aIV{LV:Type}(A Z al7 C ri H N:Bool)(X Y:Option LV)(X0:ri=true)(aKw:Z=true->al7=true):
 (if(al7||(!((!A)&&Z)))=true then
  some (bif A then true else bif Z then C else false)>>=λt34=>
  if(ri||(!(!t34)))=true then
   some (bif t34 then true else H)>>=λt42=>
   if(ri||(!(!t42)))=true then
    (if(!t42)=true then some N else some false)>>=λr=>
    if(bif t42 then true else(!r))=true then X else(if ri=true then Y else none)
   else none
  else none
 else none)=if(!A&&(!Z || !C)&&N && !H)=true then Y else X:=by
 subst X0;cases Z with
 |true=>have:=aKw rfl;subst this;cases A<;>cases C<;>cases H<;>cases N<;>rfl
 |false=>cases A<;>cases al7<;>cases C<;>cases H<;>cases N<;>rfl
theorem ax8{l:ev}{names:List b8}(ar:l.length<=reachBytes)(eJ:names.length=l.length):∃r,afc (l,names)=some r/\(r=true↔(∀i,i<l.length->QY l names i=true)/\l.length<=16):=by
 rw[afc];have al:=M8 ar;have LM:=Qb (λi=>Xh (l,names,l,(l.length:Int),(i:Int),R2 (names.take i))) l.length (QY l names) (.inl false) (.inr l)
  (λi ao=>by
   have JV:i<names.length:=by omega
   rw[Xh,kp,bJ (js ao)];simp only[u3];rw[abB,f7,ate JV,atd];have JM:0<i->MP .i64 (i:Int) 1=((i-1:Nat):Int):=by intro h;rw[UI];omega
   refine(aIV (bif decide (l.getD i 0<1)then true else decide (1000<l.getD i 0)) (decide ((0:Int)<(i:Int))) (hz (MP .i64 (i:Int) 1) l.length) (decide (l.getD i 0<=l.getD (MP .i64 (i:Int) 1).toNat 0)) (hz (i:Int) names.length) ((names.take i).contains (names.getD i [])) (nm (names.getD i [])) _ _ (js JV) (λgb=>?_)).trans ?_
   . have Yd:0<i:=by simp at gb;omega
     rw[JM Yd];exact js (by omega)
   . have:(!(bif decide (l.getD i 0<1)then true else decide (1000<l.getD i 0))&&(!(decide ((0:Int)<(i:Int))) || !(decide (l.getD i 0<=l.getD (MP .i64 (i:Int) 1).toNat 0)))&&nm (names.getD i []) && !((names.take i).contains (names.getD i [])))=QY l names i:=by
      unfold QY
      grind
     rw[this])
  (by rw[Xh,nc])
 have vK:Xh (l,names,l,(l.length:Int),((0:Nat):Int),R2 (names.take 0))=Xh (l,names,l,(l.length:Int),0,[]):=rfl;simp only[vK]at LM;rcases LM with⟨h1,ad⟩|⟨h1,j,ad,a'⟩
 . rw[h1];refine⟨decide ((l.length:Int)<=16),rfl,?_⟩
   grind
 . rw[h1];refine⟨false,rfl,?_⟩
   grind
theorem aln{k n:Nat}(hk:k<=16)(h:n*24<=reachBytes:=by simp;omega):q5 k n=true:=by
 unfold q5 UE I';unfold reachBytes at h;simp only[h5,u2];have:(2*n+192)*k<=(2*n+192)*16:=Nat.mul_le_mul_left _ hk;omega
theorem acn{α:Type}(l:List α)(i:Nat)(d:α)(h:i<l.length):l.take i++[l.getD i d]=l.take (i+1):=by simp_all
theorem O4{α β:Type}(f:α->β)(l:List α)(i:Nat)(d:α)(e:β)(h:i<l.length:=by omega):(l.map f).getD i e=f (l.getD i d):=by grind
theorem YT{l:List b8}{i:Nat}{s:b8}(ao:i<=l.length:=by simp;omega):(l.take i).contains s=true↔∃k,k<i/\l.getD k []=s:=by
 rw[List.contains_iff_mem];constructor
 . intro h;obtain⟨k,hk,he⟩:=OV h;rw[ahG]at hk;refine⟨k,by omega,?_⟩
   grind
 . rintro ⟨k,hk,he⟩
   rw[<-he,KZ (by omega)];have:(l.take i)[k]'(by rw[ahG];omega)=l[k]:=List.getElem_take
   grind
def TW(l:ev)(i:Nat):Int:=if i=0 then 0 else l.getD (i-1) 0
theorem awH{l:ev}{names:List b8}{i:Nat}(ao:i<l.length)(eJ:names.length=l.length):
 QY l names i=(decide (TW l i<l.getD i 0)&&decide (1<=l.getD i 0)&&decide (l.getD i 0<=1000)&&nm (names.getD i []) && !((names.take i).contains (names.getD i []))):=by
 unfold QY TW;generalize l.getD i 0=x;generalize l.getD (i-1) 0=y;generalize nm (names.getD i [])=a;generalize (names.take i).contains (names.getD i [])=b;by_cases h0:i=0
 . subst h0;by_cases h1:1<=x
   . have:decide ((0:Int)<x)=true:=by simp;omega
     simp[h1,this]
   . simp[h1]
 . simp only[h0,Jb,Vp,Bool.false_or];by_cases h1:1<=x<;>by_cases ad:x<=1000<;>by_cases a':y<x<;>simp[h1,ad,a']
theorem atf(l:List s4)(ar:l.length*24<=reachBytes):∀(k i:Nat),i+k=l.length->YO (l,l,(l.length:Int),(i:Int),(l.map (·.c6)).take i,(l.map (·.Name)).take i)=some (l,l.map (·.c6),l.map (·.Name))
 |0,i,h=>by
  have:i=l.length:=by omega
  subst this;rw[YO,nc];rw[abJ (by simp),abJ (by simp)]
 |k+1,i,h=>by
  have al:l.length<9223372036854775807:=by unfold reachBytes at ar;omega
  have ao:i<l.length:=by omega
  rw[YO,kp,bJ (js ao)];simp only[h3,ec,u3];rw[<-O4 (·.c6) l i yt 0 ao,<-O4 (·.Name) l i yt [] ao,acn _ _ _ (by simpa using ao),acn _ _ _ (by simpa using ao)];rw[bJ (aln (by omega)),bJ (aln (by omega)),f7];exact atf l ar k (i+1) (by omega)
theorem awI{l:List s4}(ar:l.length*24<=reachBytes):∃r,acJ l=some r/\(r=true↔0<l.length/\(∀i,i<l.length->QY (l.map (·.c6)) (l.map (·.Name)) i=true)/\l.length<=16):=by
 have h:=atf l ar l.length 0 (by omega);have s':YO (l,l,(l.length:Int),0,[],[])=some (l,l.map (·.c6),l.map (·.Name)):=h;rw[acJ,s'];simp only[h3,ec];obtain⟨r,h1,ad⟩:=ax8 (l:=l.map (·.c6)) (names:=l.map (·.Name)) (by simp;unfold reachBytes at*;omega) (by simp);rw[PE]at ad
 grind
theorem azJ(a b:Int):aeW (a,b)=some (decide (a<b)&&decide (1<=b)&&decide (b<=1000)):=by
 rw[aeW]
 grind
theorem aGw(l:List s4)(ar:l.length<=reachBytes)(i:Nat)(ao:i<l.length):
 VH (l,(i:Int),0)=some (if((l.map (·.Name)).take i).contains ((l.map (·.Name)).getD i [])=true then .inl false else .inr (l,(i:Int))):=by
 have al:=M8 ar;have LM:=Qb (λk=>VH (l,(i:Int),(k:Int))) i (λk=>!(decide ((l.getD k yt).Name=(l.getD i yt).Name))) (.inl false) (.inr (l,(i:Int)))
  (λk hk=>by
   rw[VH,kp,bJ (js (by omega)),bJ (js ao),f7]
   grind)
  (by rw[VH,nc])
 have vK:VH (l,(i:Int),((0:Nat):Int))=VH (l,(i:Int),0):=rfl;simp only[vK]at LM;rw[O4 (·.Name) l i yt [] ao];rcases LM with⟨h1,ad⟩|⟨h1,j,ad,a'⟩
 . rw[h1,cx];rw[YT]
   rintro ⟨k,hk,he⟩
   rw[O4 (·.Name) l k yt []]at he;have:=ad k hk;rw[he]at this;simp at this
 . rw[h1,bJ];rw[YT];refine⟨j,ad,?_⟩;rw[O4 (·.Name) l j yt []]
   simpa using a'
theorem aIn{l:List s4}(ar:l.length<=reachBytes):∃r,afl l=some r/\(r=true↔0<l.length/\(∀i,i<l.length->QY (l.map (·.c6)) (l.map (·.Name)) i=true)/\l.length<=16):=by
 have al:=M8 ar;have LM:=Qb (λi=>W' (l,TW (l.map (·.c6)) i,(i:Int))) l.length (QY (l.map (·.c6)) (l.map (·.Name))) (.inl false) (.inr l)
  (λi ao=>by
   rw[W',kp,bJ (js ao),azJ,aGw l ar i ao,awH (by simpa using ao) (by simp)];simp only[h3,ec,u3];rw[<-O4 (·.c6) l i yt 0 ao,<-O4 (·.Name) l i yt [] ao,ah8];generalize (decide (TW (l.map (·.c6)) i<(l.map (·.c6)).getD i 0)&&decide (1<=(l.map (·.c6)).getD i 0)&&decide ((l.map (·.c6)).getD i 0<=1000))=q
   rw[bJ (by rw[js ao];rfl)];cases q with
   |false=>rfl
   |true=>
    simp only[OW,Tf,xe,ec,Vm];cases nm ((l.map (·.Name)).getD i [])with
    |false=>rfl
    |true=>
     simp only[OW,Ti,y0,Jb,Vm];cases a7:((l.map (·.Name)).take i).contains ((l.map (·.Name)).getD i [])with
     |true=>simp
     |false=>
      simp only[y0,Jb,Tf,xe];rw[bJ (js ao),f7];have:TW (l.map (·.c6)) (i+1)=(l.getD i yt).c6:=by
       unfold TW
       grind
      grind)
  (by rw[W',nc])
 have vK:W' (l,TW (l.map (·.c6)) 0,((0:Nat):Int))=W' (l,0,0):=rfl;simp only[vK]at LM;rw[afl];rcases LM with⟨h1,ad⟩|⟨h1,j,ad,a'⟩
 . rw[h1];refine⟨_,rfl,?_⟩
   grind
 . rw[h1];refine⟨false,rfl,?_⟩
   grind
theorem aHN{l:List s4}(ar:l.length*24<=reachBytes):∃r,acJ l=some r/\afl l=some r:=by
 obtain⟨r,h1,ad⟩:=awI ar;obtain⟨q,a',d'⟩:=aIn (l:=l) (by unfold reachBytes at*;omega)
 grind
structure JI (t:b'):Prop where
 syms:t.hD.length*24<=reachBytes
 Pz:t.c7.length*24<=reachBytes
 RF:∀m,m∈t.c7->JJ m.ix
theorem UF{n:Nat}(h:n*24<=reachBytes):n<=reachBytes:=by unfold reachBytes at*;omega
theorem aGx{a b:hv}:a=b↔a.c6=b.c6/\a.Name=b.Name/\a.jb=b.jb/\a.r2=b.r2/\a.qx=b.qx/\a.ix=b.ix:=by cases a;cases b;simp
theorem UC(x:hv):(⟨x.c6,x.Name,x.jb,x.r2,x.qx,a6.eta x.ix⟩:hv)=x:=by cases x;simp[a6.pa]
theorem awm{a b:hv}:(bif bif bif bif decide (a.c6=b.c6)then decide (a.Name=b.Name)else false then decide (a.jb=b.jb)else false then JB a.r2 b.r2 else false then JB a.qx b.qx else false)=true↔a.c6=b.c6/\a.Name=b.Name/\a.jb=b.jb/\a.r2=b.r2/\a.qx=b.qx:=by
 simp only[ahH,JB]
 grind
theorem aAa{a b:hv}{q:Bool}(e1:q=true↔a.c6=b.c6/\a.Name=b.Name/\a.jb=b.jb/\a.r2=b.r2/\a.qx=b.qx){x:Option Bool}(aa:Jg x a.ix b.ix):
 Jg (some q>>=λt37=>(if t37=true then x else some false)>>=λr=>some (bif t37 then r else false)) a b:=by
 obtain⟨rx,h1,ad⟩:=aa;subst h1;refine⟨q&&rx,by cases q<;>cases rx<;>rfl,?_⟩;rw[aGx,h5,e1,ad];constructor
 . rintro ⟨⟨a1,a2,a3,a4,a5⟩,TK⟩;exact⟨a1,a2,a3,a4,a5,TK⟩
 . rintro ⟨a1,a2,a3,a4,a5,TK⟩;exact⟨⟨a1,a2,a3,a4,a5⟩,TK⟩
theorem aHO{a:hv}(h:JJ a.ix)(b:hv):Jg (aeU (a,b)) a b:=by
 rw[aeU];simp only[aju,a6.pa];exact aAa awm (am0 h _)
theorem aHP{a:hv}(h:JJ a.ix)(b:hv):Jg (afg (a,b)) a b:=by
 rw[afg];simp only[aju,a6.pa];exact aAa awm (an1 h _)
theorem atv {f:hv×hv->Option Bool}{LV:Type}{g:LV}{a b:List hv}(ar:a.length=b.length)(ih:∀x,x∈a->∀y,Jg (f (x,y)) x y)(L:Nat->Option (Bool ⊕ LV))
 (Ot:∀i,i<a.length->L i=(f (a.getD i d5,b.getD i d5)>>=λr=>if(!r)=true then some (.inl false)else L (i+1)))
 (U':L a.length=some (.inr g)):(L 0=some (.inr g)/\a=b)\/(L 0=some (.inl false)/\a≠b):=by
 have t':∀(i:Nat) (h1:i<a.length) (ad:i<b.length),Jg (f (a.getD i d5,b.getD i d5)) a[i] b[i]:=by grind
 have aJ:∀(i:Nat) (h1:i<a.length) (ad:i<b.length),(f (a.getD i d5,b.getD i d5)).getD false=true↔a[i]=b[i]:=by
  intro i h1 ad;obtain⟨r,a',d'⟩:=t' i h1 ad
  grind
 have:=Qb L a.length (λi=>(f (a.getD i d5,b.getD i d5)).getD false) (.inl false) (.inr g)
  (λi ao=>by
   obtain⟨r,h1,ad⟩:=t' i ao (by omega)
   grind) U'
 rcases this with⟨h1,ad⟩|⟨h1,j,ad,a'⟩
 . exact .inl ⟨h1,(acO ar aJ).1 ad⟩
 . refine .inr ⟨h1,λe=>?_⟩;have:=(acO ar aJ).2 e j ad;rw[a']at this;cases this
theorem aFU{a b:List hv}(b6:a.length<=reachBytes)(ay:∀m,m∈a->JJ m.ix):Jg (ai4 (a,b)) a b:=by
 rw[ai4];by_cases ar:a.length=b.length
 . rw[u1];have al:=M8 b6;have hs:=atv (g:=()) ar (f:=aeU) (λx aa y=>aHO (ay x aa) y) (λi=>W2 (b,a,(a.length:Int),(i:Int)))
    (λi ao=>by
     rw[W2,kp,bJ (js ao)];simp only[h3,ec,u3,UC]
     rw[bJ (js (by omega)),f7])
    (by rw[W2,nc])
   have vK:W2 (b,a,(a.length:Int),((0:Nat):Int))=W2 (b,a,(a.length:Int),0):=rfl;simp only[vK]at hs;rcases hs with⟨h1,ad⟩|⟨h1,ad⟩
   . rw[h1];exact⟨true,rfl,by simp[ad]⟩
   . rw[h1];exact⟨false,rfl,by simp[ad]⟩
 . rw[kp];exact acu ar
theorem atU{a b:b'}:a=b↔a.Kind=b.Kind/\a.Name=b.Name/\a.mJ=b.mJ/\a.mx=b.mx/\a.Max=b.Max/\a.Key=b.Key/\a.h6=b.h6/\a.Open=b.Open/\a.hD=b.hD/\a.c7=b.c7:=by
 cases a;cases b
 grind
theorem aJl{a b:b'}:(bif bif bif bif bif bif bif decide (a.Kind=b.Kind)then decide (a.Name=b.Name)else false then decide (a.mJ=b.mJ)else false then decide (a.mx=b.mx)else false then decide (a.Max=b.Max)else false then decide (a.Key=b.Key)else false then decide (a.h6=b.h6)else false then JB a.Open b.Open else false)=true↔
 a.Kind=b.Kind/\a.Name=b.Name/\a.mJ=b.mJ/\a.mx=b.mx/\a.Max=b.Max/\a.Key=b.Key/\a.h6=b.h6/\a.Open=b.Open:=by
 simp only[ahH,JB];by_cases h1:a.Kind=b.Kind<;>by_cases ad:a.Name=b.Name<;>by_cases a':a.mJ=b.mJ<;>by_cases d':a.mx=b.mx<;>simp[h1,ad,a',d']
 by_cases hy:a.Max=b.Max<;>by_cases B':a.Key=b.Key<;>by_cases Oi:a.h6=b.h6<;>simp[hy,B',Oi]
theorem O5{a:b'}(h:JI a)(b:b'):Jg (N4 (a,b)) a b:=by
 rw[N4];obtain⟨rs,s1,s2⟩:=aJT (a:=a.hD) (b:=b.hD) (UF h.syms);obtain⟨azN,m1,m2⟩:=aFU (a:=a.c7) (b:=b.c7) (UF h.Pz) h.RF;have e8:=aJl (a:=a) (b:=b)
 generalize (bif bif bif bif bif bif bif decide (a.Kind=b.Kind)then decide (a.Name=b.Name)else false then decide (a.mJ=b.mJ)else false then decide (a.mx=b.mx)else false then decide (a.Max=b.Max)else false then decide (a.Key=b.Key)else false then decide (a.h6=b.h6)else false then JB a.Open b.Open else false)=q at e8⊢
 simp only[h3,ec];rw[s1,m1];refine⟨q&&rs&&azN,by cases q<;>cases rs<;>cases azN<;>rfl,?_⟩;rw[atU,h5,h5,e8,s2,m2]
 grind
theorem atV(a:b'):(⟨a.Kind,a.Name,a.mJ,a.mx,a.Max,a.hD,a.c7,a.Key,a.h6,a.Open⟩:b')=a:=by cases a;rfl
theorem Xs{a:b'}(h:JI a)(b:b'):Jg (aiN (a,b)) a b:=by
 rw[aiN];simp only[atV];by_cases hy:(a.Kind=b.Kind/\a.Name=b.Name/\a.mJ=b.mJ/\a.mx=b.mx/\a.Max=b.Max/\a.Key=b.Key/\a.h6=b.h6/\a.Open=b.Open)/\a.hD.length=b.hD.length/\a.c7.length=b.c7.length
 . obtain⟨⟨ep,hp,zt,T0,aba,agI,av5,e8⟩,aoy,Zb⟩:=hy;rw[cx (by simp[ep,hp,zt,T0,aba,agI,av5,e8,aoy,Zb,JB])];have al:=M8 (UF h.syms);have ads:=M8 (UF h.Pz)
   have LM:=Qb (λi=>W7 ((i:Int),a,b)) a.hD.length (λi=>NN (a.hD.getD i yt).c6 (b.hD.getD i yt).c6&&(Pj (a.hD.getD i yt).Name (b.hD.getD i yt).Name&&true)) (.inl false) (.inr (a,b))
    (λi Wn=>by
     rw[W7,kp,bJ (js Wn)];simp only[h3,ec,u3];rw[bJ (js (by omega)),f7]
     grind)
    (by rw[W7,nc])
   have h0:W7 (((0:Nat):Int),a,b)=W7 (0,a,b):=rfl;simp only[h0]at LM;have aJ:∀(i:Nat) (h1:i<a.hD.length) (ad:i<b.hD.length),(NN (a.hD.getD i yt).c6 (b.hD.getD i yt).c6&&(Pj (a.hD.getD i yt).Name (b.hD.getD i yt).Name&&true))=true↔a.hD[i]=b.hD[i]:=λi h1 ad=>by rw[KZ h1,KZ ad];exact ax6
   rcases LM with⟨g1,g2⟩|⟨g1,j,g2,g3⟩
   . have aOf:=(acO aoy aJ).1 g2;rw[g1];simp only[h3,ec];have hs:=atv (g:=()) Zb (f:=afg) (λx aa y=>aHP (h.RF x aa) y) (λi=>W8 ((i:Int),a,b))
      (λi ao=>by
       rw[W8,kp,bJ (js ao)];simp only[h3,ec,u3,UC]
       rw[bJ (js (by omega)),f7])
      (by rw[W8,nc])
     have vK:W8 (((0:Nat):Int),a,b)=W8 (0,a,b):=rfl;simp only[vK]at hs;rcases hs with⟨ha,hg⟩|⟨ha,hg⟩
     . rw[ha];refine⟨true,rfl,?_⟩;rw[atU]
       grind
     . rw[ha];refine⟨false,rfl,?_⟩
       grind
   . rw[g1];refine⟨false,rfl,?_⟩
     grind
 . rw[bJ]
   . refine⟨false,rfl,?_⟩
     grind
   . simp only[ahH,JB];by_cases Jd:a.Kind=b.Kind<;>by_cases HS:a.Name=b.Name<;>by_cases Q5:a.mJ=b.mJ<;>by_cases ah4:a.mx=b.mx<;>simp[Jd,HS,Q5,ah4]
     grind
def aab(v:a6):Bool:=(UA (v,f5)).getD false
theorem aIo{v:a6}(h:JJ v):UA (v,f5)=some (aab v):=by
 obtain⟨r,h1,ad⟩:=am0 h f5;unfold aab;rw[h1];rfl
theorem aIp{v:a6}(h:JJ v):UK (v,f5)=some (aab v):=by
 obtain⟨r,h1,ad⟩:=am0 h f5;obtain⟨q,a',d'⟩:=an1 h f5;unfold aab;rw[h1,a']
 grind
theorem aJf{v:a6}(h:JJ v):ajE v=some (aab v):=by
 rw[ajE,a6.pa];have:=aIo h;unfold f5 at this
 grind
def Wc(alx:Bool)(m:hv):Bool:=(alx&&(m.r2||m.qx))||(m.r2&&m.qx)||(!m.qx && !aab m.ix)
theorem E'{α:Type}{l:List α}{i:Nat}(h:i<l.length)(d:α):l.getD i d∈l:=by grind
theorem atg{t:b'}(h:JI t):∃r,aaS t=some r/\(r=true↔(∀i,i<t.c7.length->Wc (decide (t.Kind=6)) (t.c7.getD i d5)=false)/\(t.Kind=5\/0<t.c7.length)/\(∀i,i<t.c7.length->QY (t.c7.map (·.c6)) (t.c7.map (·.Name)) i=true)/\t.c7.length<=16):=by
 have al:t.c7.length<9223372036854775807:=M8 (UF h.Pz);have LM:=Qb (λi=>WY (t.c7,(t.c7.length:Int),(i:Int),t,(t.c7.map (·.c6)).take i,(t.c7.map (·.Name)).take i)) t.c7.length (λi=>!(Wc (decide (t.Kind=6)) (t.c7.getD i d5))) (.inl false) (.inr (t,t.c7.map (·.c6),t.c7.map (·.Name)))
  (λi ao=>by
   have gb:=aJf (h.RF _ (E' ao d5));rw[WY,kp,bJ (js ao)];simp only[h3,ec,u3,a6.pa];rw[<-O4 (·.c6) t.c7 i d5 0 ao,<-O4 (·.Name) t.c7 i d5 [] ao,acn _ _ _ (by simpa using ao),acn _ _ _ (by simpa using ao)];have ai:((t.c7.map (·.c6)).take (i+1)).length*24<=reachBytes:=by
    refine Ug (Ja _ ?_) h.Pz;simp;omega
   have JS:((t.c7.map (·.Name)).take (i+1)).length*24<=reachBytes:=by grind
   rw[bJ (aln (by omega) ai),bJ (aln (by omega) JS),f7,gb];unfold Wc
   grind)
  (by
   rw[WY,nc]
   rw[abJ (by simp),abJ (by simp)])
 have vK:WY (t.c7,(t.c7.length:Int),((0:Nat):Int),t,(t.c7.map (·.c6)).take 0,(t.c7.map (·.Name)).take 0)=WY (t.c7,(t.c7.length:Int),0,t,[],[]):=rfl;simp only[vK]at LM;rw[aaS];obtain⟨r,h1,ad⟩:=ax8 (l:=t.c7.map (·.c6)) (names:=t.c7.map (·.Name)) (by simpa using UF h.Pz) (by simp);rw[PE]at ad
 rcases LM with⟨g1,g2⟩|⟨g1,j,g2,g3⟩
 . rw[g1];simp only[h3,ec];rw[h1];refine⟨(bif decide (t.Kind=5)then true else decide (0<((t.c7.map (·.c6)).length:Int)))&&r,?_,?_⟩
   . grind
   grind
 grind
theorem aGy(l:List hv)(record:Bool)(ar:l.length<=reachBytes)(i:Nat)(ao:i<l.length):
 VI (l,record,(i:Int),0,l.getD i d5)=some (if((l.map (·.Name)).take i).contains ((l.map (·.Name)).getD i [])=true then .inl false else .inr (l,record,(i:Int),l.getD i d5)):=by
 have al:=M8 ar;have LM:=Qb (λk=>VI (l,record,(i:Int),(k:Int),l.getD i d5)) i (λk=>!(decide ((l.getD k d5).Name=(l.getD i d5).Name))) (.inl false) (.inr (l,record,(i:Int),l.getD i d5))
  (λk hk=>by
   rw[VI,kp,bJ (js (by omega)),f7];simp only[u3,UC]
   grind)
  (by rw[VI,nc,UC])
 have vK:VI (l,record,(i:Int),((0:Nat):Int),l.getD i d5)=VI (l,record,(i:Int),0,l.getD i d5):=rfl;simp only[vK]at LM;rw[O4 (·.Name) l i d5 [] ao];rcases LM with⟨h1,ad⟩|⟨h1,j,ad,a'⟩
 . rw[h1,cx];rw[YT]
   rintro ⟨k,hk,he⟩
   rw[O4 (·.Name) l k d5 []]at he;have:=ad k hk;rw[he]at this;simp at this
 . rw[h1,bJ];rw[YT];refine⟨j,ad,?_⟩;rw[O4 (·.Name) l j d5 []]
   simpa using a'
theorem aGz{l:List hv}{record:Bool}(ar:l.length<=reachBytes)(ay:∀m,m∈l->JJ m.ix):∃r,ab' (l,record)=some r/\(r=true↔(∀i,i<l.length->Wc (!record) (l.getD i d5)=false)/\(record=true\/0<l.length)/\(∀i,i<l.length->QY (l.map (·.c6)) (l.map (·.Name)) i=true)/\l.length<=16):=by
 have al:=M8 ar;have LM:=Qb (λi=>Xa (l,record,TW (l.map (·.c6)) i,(i:Int))) l.length (λi=>QY (l.map (·.c6)) (l.map (·.Name)) i && !(Wc (!record) (l.getD i d5))) (.inl false) (.inr (l,record))
  (λi ao=>by
   have gb:=aIp (ay _ (E' ao d5));unfold f5 at gb;rw[Xa,kp,bJ (js ao)];simp only[h3,ec,u3,a6.pa,UC,awH (l:=l.map (·.c6)) (names:=l.map (·.Name)) (i:=i) (by simpa using ao) (by simp)];rw[aGy l record ar i ao,gb];have aKO:TW (l.map (·.c6)) (i+1)=(l.getD i d5).c6:=by
    unfold TW
    grind
   rw[<-O4 (·.c6) l i d5 0 ao,<-O4 (·.Name) l i d5 [] ao,azJ,ah8];simp only[ec];generalize (decide (TW (l.map (·.c6)) i<(l.map (·.c6)).getD i 0)&&decide (1<=(l.map (·.c6)).getD i 0)&&decide ((l.map (·.c6)).getD i 0<=1000))=q;cases q with
   |false=>simp
   |true=>
    simp only[OW,Tf,xe,ec,Vm];cases nm ((l.map (·.Name)).getD i [])with
    |false=>simp
    |true=>
     simp only[OW,Vm,Qx,Ti];unfold Wc;cases record<;>cases (l.getD i d5).r2<;>cases (l.getD i d5).qx<;>cases aab (l.getD i d5).ix <;>
      simp only[OW,Tf,Bool.or_self,Bool.and_self,Bool.or_true,ahO,Bool.and_true,Bool.and_false,Bool.false_and,Vm,Bool.false_or,Qx,abG,Ti,xe,Jb,y0,ec] <;>
      first
       |rfl
       |(cases a7:((l.map (·.Name)).take i).contains ((l.map (·.Name)).getD i [])with
        |true=>simp
        |false=>
         simp only[y0,Jb,Tf,xe];rw[f7,aKO]
         try rfl))
  (by rw[Xa,nc])
 have vK:Xa (l,record,TW (l.map (·.c6)) 0,((0:Nat):Int))=Xa (l,record,0,0):=rfl;simp only[vK]at LM;rw[ab'];rcases LM with⟨h1,ad⟩|⟨h1,j,ad,a'⟩
 . rw[h1];refine⟨_,rfl,?_⟩
   grind
 . rw[h1];refine⟨false,rfl,?_⟩
   grind
theorem auU{t:b'}(h:JI t)(hk:t.Kind=5\/t.Kind=6):∃r,aaS t=some r/\ab' (t.c7,decide (t.Kind=5))=some r:=by
 obtain⟨r,h1,ad⟩:=atg h;obtain⟨q,a',d'⟩:=aGz (l:=t.c7) (record:=decide (t.Kind=5)) (UF h.Pz) h.RF;have hu:(!(decide (t.Kind=5)))=decide (t.Kind=6):=by grind
 grind
end
end Go.Proofs.YtandcioiaooocaaGreat
