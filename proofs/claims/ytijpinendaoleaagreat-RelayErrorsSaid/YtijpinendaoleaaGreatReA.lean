/- The functions of the program as functions of Lean, that its code does what they say, and what they answer; part A. -/
import Derived.Test.YtijpinendaoleaaGreatProg
import Derived.KernelRfl
import Derived.Shelf.SlGeneric
import Derived.Shelf.SlLaysF0
import Derived.Shelf.SlSortCmp.WholeK
import Derived.Lib.Small
import Derived.Test.YtijpinendaoleaaGreatReLD

namespace Go.Proofs.YtijpinendaoleaaGreat
set_option linter.all false
section
open Go Go.Proofs.YtijpinendaoleaaGreat.Shv
open Tryz
set_option maxRecDepth 100000
structure abv where
 bo:Int
 ki:Int
 aku:Int
structure WZ where
 Kind:Int
 A:Int
 B:Int
 C:Int
 ahl:List abv
structure Vb where
 Vz:List WZ
structure ri where
 bo:Int
 Name:List UInt8
structure C2 where
 bo:Int
 Data:List UInt8
structure ao where
 Kind:Int
 kt:Bool
 hX:Int
 hG:List UInt8
 bo:Int
 e0:List ao
 b9:List ao
 Rest:List C2
structure em where
 bo:Int
 Name:List UInt8
 ki:Int
 Is:Bool
 x':Bool
 oo:ao
structure cm where
 Kind:Int
 Name:List UInt8
 jb:Int
 i':Int
 Max:Int
 hq:List ri
 cy:List em
 Key:Int
 hZ:Int
 Open:Bool
structure gJ where
 Types:List cm
structure aeS where
 bo:Int
 Is:Bool
 Data:List UInt8
structure ZC where
 Path:List Int
 Reason:Int
structure T9 where
 id:Int
 text:List UInt8
structure Na where
 t:Int
 number:Int
structure ad0 where
 Value:ao
 ahh:ZC
 aqh:Bool
structure aes where
 s:gJ
structure Vd where
 S:Vb
 T:Int
 C:List Int
structure adM where
 D:Vd
 C:List Int
structure abr where
 Kind:Int
 Node:Int
 A:Int
 B:Int
structure adH where
 D:Vd
 ap8:List (List abr)
structure aeE where
 aqt:gJ
 ki:Int
structure ZZ where
 Ll:ao
 Nj:ao
abbrev ah6 :Nat:=3
abbrev asY :Nat:=4
abbrev asZ :Nat:=5
abbrev WA :Nat:=6
abbrev awJ :Nat:=7
abbrev as0 :Nat:=8
abbrev atb :Nat:=20
def aCP :abv:=⟨0,0,0⟩
def arb :WZ:=⟨0,0,0,0,[]⟩
def aq6 :Vb:=⟨[]⟩
def wm :ri:=⟨0,[]⟩
def ka :C2:=⟨0,[]⟩
def e2 :ao:=⟨0,false,0,[],0,[],[],[]⟩
def hL :em:=⟨0,[],0,false,false,e2⟩
def e1 :cm:=⟨0,[],0,0,0,[],[],0,0,false⟩
def aiG :gJ:=⟨[]⟩
def aHq :aeS:=⟨0,false,[]⟩
def asr :ZC:=⟨[],0⟩
def alI :T9:=⟨0,[]⟩
def abm :Na:=⟨0,0⟩
def aDc :ad0:=⟨e2,asr,false⟩
def aDx :aes:=⟨aiG⟩
def akI :Vd:=⟨aq6,0,[]⟩
def aCq :adM:=⟨akI,[]⟩
def aDd :abr:=⟨0,0,0,0⟩
def aCA :adH:=⟨akI,[]⟩
def aIM :aeE:=⟨aiG,0⟩
def aGP :ZZ:=⟨e2,e2⟩
def u3 :Nat->Type
 | 0=>Vb
 | 1=>WZ
 | 2=>abv
 | 3=>cm
 | 4=>ri
 | 5=>em
 | 6=>ao
 | 7=>C2
 | 8=>gJ
 | 9=>aeS
 | 10=>ZC
 | 11=>T9
 | 12=>Na
 | 13=>ad0
 | 14=>aes
 | 15=>Vd
 | 16=>adM
 | 17=>adH
 | 18=>abr
 | 19=>aeE
 | 20=>ZZ
 | _=>Bool
def zv :Nat->List c9
 | 0=>[.slice (.nm 1)]
 | 1=>[.int .u8,.int .u8,.int .u8,.int .u8,.slice (.nm 2)]
 | 2=>[.int .u8,.int .u8,.int .u8]
 | 3=>[.int .i64,.str,.int .i64,.int .i64,.int .i64,.slice (.nm 4),.slice (.nm 5),.int .i64,.int .i64,.bool]
 | 4=>[.int .i64,.str]
 | 5=>[.int .i64,.str,.int .i64,.bool,.bool,.int .i64,.bool,.int .i64,.str,.int .i64,.slice (.nm 6),.slice (.nm 6),.slice (.nm 7)]
 | 6=>[.int .i64,.bool,.int .i64,.str,.int .i64,.slice (.nm 6),.slice (.nm 6),.slice (.nm 7)]
 | 7=>[.int .i64,.str]
 | 8=>[.slice (.nm 3)]
 | 9=>[.int .i64,.bool,.str]
 | 10=>[.slice (.int .i64),.int .i64]
 | 11=>[.int .i64,.str]
 | 12=>[.int .i64,.int .i64]
 | 13=>[.int .i64,.bool,.int .i64,.str,.int .i64,.slice (.nm 6),.slice (.nm 6),.slice (.nm 7),.slice (.int .i64),.int .i64,.bool]
 | 14=>[.slice (.nm 3)]
 | 15=>[.slice (.nm 1),.int .u8,.slice (.int .u8)]
 | 16=>[.slice (.nm 1),.int .u8,.slice (.int .u8),.slice (.int .u8)]
 | 17=>[.slice (.nm 1),.int .u8,.slice (.int .u8),.slice (.slice (.nm 18))]
 | 18=>[.int .u8,.int .u8,.int .u8,.int .u8]
 | 19=>[.slice (.nm 3),.int .i64]
 | 20=>[.int .i64,.bool,.int .i64,.str,.int .i64,.slice (.nm 6),.slice (.nm 6),.slice (.nm 7),.int .i64,.bool,.int .i64,.str,.int .i64,.slice (.nm 6),.slice (.nm 6),.slice (.nm 7)]
 | _=>[.bool]
def aMw :(n:Nat)->u3 n->List (Cell u3)
 | 0,(x:Vb)=>[⟨.slice (.nm 1),x.Vz⟩]
 | 1,(x:WZ)=>[⟨.int .u8,x.Kind⟩,⟨.int .u8,x.A⟩,⟨.int .u8,x.B⟩,⟨.int .u8,x.C⟩,⟨.slice (.nm 2),x.ahl⟩]
 | 2,(x:abv)=>[⟨.int .u8,x.bo⟩,⟨.int .u8,x.ki⟩,⟨.int .u8,x.aku⟩]
 | 3,(x:cm)=>[⟨.int .i64,x.Kind⟩,⟨.str,x.Name⟩,⟨.int .i64,x.jb⟩,⟨.int .i64,x.i'⟩,⟨.int .i64,x.Max⟩,⟨.slice (.nm 4),x.hq⟩,⟨.slice (.nm 5),x.cy⟩,⟨.int .i64,x.Key⟩,⟨.int .i64,x.hZ⟩,⟨.bool,x.Open⟩]
 | 4,(x:ri)=>[⟨.int .i64,x.bo⟩,⟨.str,x.Name⟩]
 | 5,(x:em)=>[⟨.int .i64,x.bo⟩,⟨.str,x.Name⟩,⟨.int .i64,x.ki⟩,⟨.bool,x.Is⟩,⟨.bool,x.x'⟩,⟨.int .i64,x.oo.Kind⟩,⟨.bool,x.oo.kt⟩,⟨.int .i64,x.oo.hX⟩,⟨.str,x.oo.hG⟩,⟨.int .i64,x.oo.bo⟩,⟨.slice (.nm 6),x.oo.e0⟩,⟨.slice (.nm 6),x.oo.b9⟩,⟨.slice (.nm 7),x.oo.Rest⟩]
 | 6,(x:ao)=>[⟨.int .i64,x.Kind⟩,⟨.bool,x.kt⟩,⟨.int .i64,x.hX⟩,⟨.str,x.hG⟩,⟨.int .i64,x.bo⟩,⟨.slice (.nm 6),x.e0⟩,⟨.slice (.nm 6),x.b9⟩,⟨.slice (.nm 7),x.Rest⟩]
 | 7,(x:C2)=>[⟨.int .i64,x.bo⟩,⟨.str,x.Data⟩]
 | 8,(x:gJ)=>[⟨.slice (.nm 3),x.Types⟩]
 | 9,(x:aeS)=>[⟨.int .i64,x.bo⟩,⟨.bool,x.Is⟩,⟨.str,x.Data⟩]
 | 10,(x:ZC)=>[⟨.slice (.int .i64),x.Path⟩,⟨.int .i64,x.Reason⟩]
 | 11,(x:T9)=>[⟨.int .i64,x.id⟩,⟨.str,x.text⟩]
 | 12,(x:Na)=>[⟨.int .i64,x.t⟩,⟨.int .i64,x.number⟩]
 | 13,(x:ad0)=>[⟨.int .i64,x.Value.Kind⟩,⟨.bool,x.Value.kt⟩,⟨.int .i64,x.Value.hX⟩,⟨.str,x.Value.hG⟩,⟨.int .i64,x.Value.bo⟩,⟨.slice (.nm 6),x.Value.e0⟩,⟨.slice (.nm 6),x.Value.b9⟩,⟨.slice (.nm 7),x.Value.Rest⟩,⟨.slice (.int .i64),x.ahh.Path⟩,⟨.int .i64,x.ahh.Reason⟩,⟨.bool,x.aqh⟩]
 | 14,(x:aes)=>[⟨.slice (.nm 3),x.s.Types⟩]
 | 15,(x:Vd)=>[⟨.slice (.nm 1),x.S.Vz⟩,⟨.int .u8,x.T⟩,⟨.slice (.int .u8),x.C⟩]
 | 16,(x:adM)=>[⟨.slice (.nm 1),x.D.S.Vz⟩,⟨.int .u8,x.D.T⟩,⟨.slice (.int .u8),x.D.C⟩,⟨.slice (.int .u8),x.C⟩]
 | 17,(x:adH)=>[⟨.slice (.nm 1),x.D.S.Vz⟩,⟨.int .u8,x.D.T⟩,⟨.slice (.int .u8),x.D.C⟩,⟨.slice (.slice (.nm 18)),x.ap8⟩]
 | 18,(x:abr)=>[⟨.int .u8,x.Kind⟩,⟨.int .u8,x.Node⟩,⟨.int .u8,x.A⟩,⟨.int .u8,x.B⟩]
 | 19,(x:aeE)=>[⟨.slice (.nm 3),x.aqt.Types⟩,⟨.int .i64,x.ki⟩]
 | 20,(x:ZZ)=>[⟨.int .i64,x.Ll.Kind⟩,⟨.bool,x.Ll.kt⟩,⟨.int .i64,x.Ll.hX⟩,⟨.str,x.Ll.hG⟩,⟨.int .i64,x.Ll.bo⟩,⟨.slice (.nm 6),x.Ll.e0⟩,⟨.slice (.nm 6),x.Ll.b9⟩,⟨.slice (.nm 7),x.Ll.Rest⟩,⟨.int .i64,x.Nj.Kind⟩,⟨.bool,x.Nj.kt⟩,⟨.int .i64,x.Nj.hX⟩,⟨.str,x.Nj.hG⟩,⟨.int .i64,x.Nj.bo⟩,⟨.slice (.nm 6),x.Nj.e0⟩,⟨.slice (.nm 6),x.Nj.b9⟩,⟨.slice (.nm 7),x.Nj.Rest⟩]
 | _+21,(x:Bool)=>[⟨.bool,x⟩]
def p' :(n:Nat)->List (Cell u3)->Option (u3 n)
 | 0,l=>match d'.dec u3 (zv 0) l with
  | some h=>some (⟨h⟩:Vb)
  | none=>none
 | 1,l=>match d'.dec u3 (zv 1) l with
  | some h=>some (⟨h.1,h.2.1,h.2.2.1,h.2.2.2.1,h.2.2.2.2⟩:WZ)
  | none=>none
 | 2,l=>match d'.dec u3 (zv 2) l with
  | some h=>some (⟨h.1,h.2.1,h.2.2⟩:abv)
  | none=>none
 | 3,l=>match d'.dec u3 (zv 3) l with
  | some h=>some (⟨h.1,h.2.1,h.2.2.1,h.2.2.2.1,h.2.2.2.2.1,h.2.2.2.2.2.1,h.2.2.2.2.2.2.1,h.2.2.2.2.2.2.2.1,h.2.2.2.2.2.2.2.2.1,h.2.2.2.2.2.2.2.2.2⟩:cm)
  | none=>none
 | 4,l=>match d'.dec u3 (zv 4) l with
  | some h=>some (⟨h.1,h.2⟩:ri)
  | none=>none
 | 5,l=>match d'.dec u3 (zv 5) l with
  | some h=>some (⟨h.1,h.2.1,h.2.2.1,h.2.2.2.1,h.2.2.2.2.1,(⟨h.2.2.2.2.2.1,h.2.2.2.2.2.2.1,h.2.2.2.2.2.2.2.1,h.2.2.2.2.2.2.2.2.1,h.2.2.2.2.2.2.2.2.2.1,h.2.2.2.2.2.2.2.2.2.2.1,h.2.2.2.2.2.2.2.2.2.2.2.1,h.2.2.2.2.2.2.2.2.2.2.2.2⟩:ao)⟩:em)
  | none=>none
 | 6,l=>match d'.dec u3 (zv 6) l with
  | some h=>some (⟨h.1,h.2.1,h.2.2.1,h.2.2.2.1,h.2.2.2.2.1,h.2.2.2.2.2.1,h.2.2.2.2.2.2.1,h.2.2.2.2.2.2.2⟩:ao)
  | none=>none
 | 7,l=>match d'.dec u3 (zv 7) l with
  | some h=>some (⟨h.1,h.2⟩:C2)
  | none=>none
 | 8,l=>match d'.dec u3 (zv 8) l with
  | some h=>some (⟨h⟩:gJ)
  | none=>none
 | 9,l=>match d'.dec u3 (zv 9) l with
  | some h=>some (⟨h.1,h.2.1,h.2.2⟩:aeS)
  | none=>none
 | 10,l=>match d'.dec u3 (zv 10) l with
  | some h=>some (⟨h.1,h.2⟩:ZC)
  | none=>none
 | 11,l=>match d'.dec u3 (zv 11) l with
  | some h=>some (⟨h.1,h.2⟩:T9)
  | none=>none
 | 12,l=>match d'.dec u3 (zv 12) l with
  | some h=>some (⟨h.1,h.2⟩:Na)
  | none=>none
 | 13,l=>match d'.dec u3 (zv 13) l with
  | some h=>some (⟨(⟨h.1,h.2.1,h.2.2.1,h.2.2.2.1,h.2.2.2.2.1,h.2.2.2.2.2.1,h.2.2.2.2.2.2.1,h.2.2.2.2.2.2.2.1⟩:ao),(⟨h.2.2.2.2.2.2.2.2.1,h.2.2.2.2.2.2.2.2.2.1⟩:ZC),h.2.2.2.2.2.2.2.2.2.2⟩:ad0)
  | none=>none
 | 14,l=>match d'.dec u3 (zv 14) l with
  | some h=>some (⟨(⟨h⟩:gJ)⟩:aes)
  | none=>none
 | 15,l=>match d'.dec u3 (zv 15) l with
  | some h=>some (⟨(⟨h.1⟩:Vb),h.2.1,h.2.2⟩:Vd)
  | none=>none
 | 16,l=>match d'.dec u3 (zv 16) l with
  | some h=>some (⟨(⟨(⟨h.1⟩:Vb),h.2.1,h.2.2.1⟩:Vd),h.2.2.2⟩:adM)
  | none=>none
 | 17,l=>match d'.dec u3 (zv 17) l with
  | some h=>some (⟨(⟨(⟨h.1⟩:Vb),h.2.1,h.2.2.1⟩:Vd),h.2.2.2⟩:adH)
  | none=>none
 | 18,l=>match d'.dec u3 (zv 18) l with
  | some h=>some (⟨h.1,h.2.1,h.2.2.1,h.2.2.2⟩:abr)
  | none=>none
 | 19,l=>match d'.dec u3 (zv 19) l with
  | some h=>some (⟨(⟨h.1⟩:gJ),h.2⟩:aeE)
  | none=>none
 | 20,l=>match d'.dec u3 (zv 20) l with
  | some h=>some (⟨(⟨h.1,h.2.1,h.2.2.1,h.2.2.2.1,h.2.2.2.2.1,h.2.2.2.2.2.1,h.2.2.2.2.2.2.1,h.2.2.2.2.2.2.2.1⟩:ao),(⟨h.2.2.2.2.2.2.2.2.1,h.2.2.2.2.2.2.2.2.2.1,h.2.2.2.2.2.2.2.2.2.2.1,h.2.2.2.2.2.2.2.2.2.2.2.1,h.2.2.2.2.2.2.2.2.2.2.2.2.1,h.2.2.2.2.2.2.2.2.2.2.2.2.2.1,h.2.2.2.2.2.2.2.2.2.2.2.2.2.2.1,h.2.2.2.2.2.2.2.2.2.2.2.2.2.2.2⟩:ao)⟩:ZZ)
  | none=>none
 | _+21,l=>match d'.dec u3 [.bool] l with
  | some (h:Bool)=>some h
  | none=>none
def auR(x:abv):List T:=[.int .u8 x.bo,.int .u8 x.ki,.int .u8 x.aku]
def aft(x:WZ):List T:=[.int .u8 x.Kind,.int .u8 x.A,.int .u8 x.B,.int .u8 x.C,.slice (x.ahl.map auR)]
def aA2(x:Vb):List T:=[.slice (x.Vz.map aft)]
def auP(x:ri):List T:=[.int .i64 x.bo,.str x.Name]
def aar(x:C2):List T:=[.int .i64 x.bo,.str x.Data]
def ao.eta(x:ao):ao:=⟨x.Kind,x.kt,x.hX,x.hG,x.bo,x.e0,x.b9,x.Rest⟩
theorem ao.d5(x:ao):x.eta=x:=by cases x;rfl
mutual
def P7 :ao->List T
 | ⟨a0,a1,a2,a3,a4,a5,n',JM⟩=>[.int .i64 a0,.bool a1,.int .i64 a2,.str a3,.int .i64 a4,.slice (afs a5),.slice (afs n'),.slice (JM.map aar)]
def afs :List ao->List (List T)
 | []=>[]
 | v::r=>P7 v::afs r
end
theorem ar5 :∀l,afs l=l.map P7
 | []=>rfl
 | v::r=>by simp only[afs,List.map];rw[ar5 r]
theorem aF4(x:ao):P7 x=[.int .i64 x.Kind,.bool x.kt,.int .i64 x.hX,.str x.hG,.int .i64 x.bo,.slice (x.e0.map P7),.slice (x.b9.map P7),.slice (x.Rest.map aar)]:=by cases x;simp only[P7,ar5]
def auO(x:em):List T:=[.int .i64 x.bo,.str x.Name,.int .i64 x.ki,.bool x.Is,.bool x.x',.int .i64 x.oo.Kind,.bool x.oo.kt,.int .i64 x.oo.hX,.str x.oo.hG,.int .i64 x.oo.bo,.slice (x.oo.e0.map P7),.slice (x.oo.b9.map P7),.slice (x.oo.Rest.map aar)]
def ai2(x:cm):List T:=[.int .i64 x.Kind,.str x.Name,.int .i64 x.jb,.int .i64 x.i',.int .i64 x.Max,.slice (x.hq.map auP),.slice (x.cy.map auO),.int .i64 x.Key,.int .i64 x.hZ,.bool x.Open]
def aAZ(x:gJ):List T:=[.slice (x.Types.map ai2)]
def aAX(x:aeS):List T:=[.int .i64 x.bo,.bool x.Is,.str x.Data]
def aAW(x:ZC):List T:=[.slice (x.Path.map (λy=>[.int .i64 y])),.int .i64 x.Reason]
def aAT(x:T9):List T:=[.int .i64 x.id,.str x.text]
def aAV(x:Na):List T:=[.int .i64 x.t,.int .i64 x.number]
def aA4(x:ad0):List T:=[.int .i64 x.Value.Kind,.bool x.Value.kt,.int .i64 x.Value.hX,.str x.Value.hG,.int .i64 x.Value.bo,.slice (x.Value.e0.map P7),.slice (x.Value.b9.map P7),.slice (x.Value.Rest.map aar),.slice (x.ahh.Path.map (λy=>[.int .i64 y])),.int .i64 x.ahh.Reason,.bool x.aqh]
def aAU(x:aes):List T:=[.slice (x.s.Types.map ai2)]
def aA3(x:Vd):List T:=[.slice (x.S.Vz.map aft),.int .u8 x.T,.slice (x.C.map (λy=>[.int .u8 y]))]
def aA1(x:adM):List T:=[.slice (x.D.S.Vz.map aft),.int .u8 x.D.T,.slice (x.D.C.map (λy=>[.int .u8 y])),.slice (x.C.map (λy=>[.int .u8 y]))]
def auQ(x:abr):List T:=[.int .u8 x.Kind,.int .u8 x.Node,.int .u8 x.A,.int .u8 x.B]
def aA0(x:adH):List T:=[.slice (x.D.S.Vz.map aft),.int .u8 x.D.T,.slice (x.D.C.map (λy=>[.int .u8 y])),.slice (x.ap8.map (λy=>[.slice (y.map auQ)]))]
def aAY(x:aeE):List T:=[.slice (x.aqt.Types.map ai2),.int .i64 x.ki]
def aA5(x:ZZ):List T:=[.int .i64 x.Ll.Kind,.bool x.Ll.kt,.int .i64 x.Ll.hX,.str x.Ll.hG,.int .i64 x.Ll.bo,.slice (x.Ll.e0.map P7),.slice (x.Ll.b9.map P7),.slice (x.Ll.Rest.map aar),.int .i64 x.Nj.Kind,.bool x.Nj.kt,.int .i64 x.Nj.hX,.str x.Nj.hG,.int .i64 x.Nj.bo,.slice (x.Nj.e0.map P7),.slice (x.Nj.b9.map P7),.slice (x.Nj.Rest.map aar)]
def aMv :(n:Nat)->u3 n->List T
 | 0,x=>aA2 x
 | 1,x=>aft x
 | 2,x=>auR x
 | 3,x=>ai2 x
 | 4,x=>auP x
 | 5,x=>auO x
 | 6,x=>P7 x
 | 7,x=>aar x
 | 8,x=>aAZ x
 | 9,x=>aAX x
 | 10,x=>aAW x
 | 11,x=>aAT x
 | 12,x=>aAV x
 | 13,x=>aA4 x
 | 14,x=>aAU x
 | 15,x=>aA3 x
 | 16,x=>aA1 x
 | 17,x=>aA0 x
 | 18,x=>auQ x
 | 19,x=>aAY x
 | 20,x=>aA5 x
 | _+21,(x:Bool)=>[.bool x]
def oi :l1 where
 D:=u3
 To:=λn=>match n with
  | 0=>aq6
  | 1=>arb
  | 2=>aCP
  | 3=>e1
  | 4=>wm
  | 5=>hL
  | 6=>e2
  | 7=>ka
  | 8=>aiG
  | 9=>aHq
  | 10=>asr
  | 11=>alI
  | 12=>abm
  | 13=>aDc
  | 14=>aDx
  | 15=>akI
  | 16=>aCq
  | 17=>aCA
  | 18=>aDd
  | 19=>aIM
  | 20=>aGP
  | _+21=>false
 Uu:=aMw
 make:=p'
 q2:=zv
 enc:=aMv
 auT:=λn x=>match n,x with
  | 0,_=>rfl
  | 1,_=>rfl
  | 2,_=>rfl
  | 3,_=>rfl
  | 4,_=>rfl
  | 5,_=>rfl
  | 6,x=>aF4 x
  | 7,_=>rfl
  | 8,_=>rfl
  | 9,_=>rfl
  | 10,_=>rfl
  | 11,_=>rfl
  | 12,_=>rfl
  | 13,_=>rfl
  | 14,_=>rfl
  | 15,_=>rfl
  | 16,_=>rfl
  | 17,_=>rfl
  | 18,_=>rfl
  | 19,_=>rfl
  | 20,_=>rfl
  | _+21,_=>rfl
 mk_eq:=λn l x h=>match n,x,h with
  | 0,x,h=>by
   simp only[p']at h;split at h
   . rename_i ak a6;cases h;exact d'.JD a6
   . cases h
  | 1,x,h=>by
   simp only[p']at h;split at h
   . rename_i ak a6;cases h;exact d'.JD a6
   . cases h
  | 2,x,h=>by
   simp only[p']at h;split at h
   . rename_i ak a6;cases h;exact d'.JD a6
   . cases h
  | 3,x,h=>by
   simp only[p']at h;split at h
   . rename_i ak a6;cases h;exact d'.JD a6
   . cases h
  | 4,x,h=>by
   simp only[p']at h;split at h
   . rename_i ak a6;cases h;exact d'.JD a6
   . cases h
  | 5,x,h=>by
   simp only[p']at h;split at h
   . rename_i ak a6;cases h;exact d'.JD a6
   . cases h
  | 6,x,h=>by
   simp only[p']at h;split at h
   . rename_i ak a6;cases h;exact d'.JD a6
   . cases h
  | 7,x,h=>by
   simp only[p']at h;split at h
   . rename_i ak a6;cases h;exact d'.JD a6
   . cases h
  | 8,x,h=>by
   simp only[p']at h;split at h
   . rename_i ak a6;cases h;exact d'.JD a6
   . cases h
  | 9,x,h=>by
   simp only[p']at h;split at h
   . rename_i ak a6;cases h;exact d'.JD a6
   . cases h
  | 10,x,h=>by
   simp only[p']at h;split at h
   . rename_i ak a6;cases h;exact d'.JD a6
   . cases h
  | 11,x,h=>by
   simp only[p']at h;split at h
   . rename_i ak a6;cases h;exact d'.JD a6
   . cases h
  | 12,x,h=>by
   simp only[p']at h;split at h
   . rename_i ak a6;cases h;exact d'.JD a6
   . cases h
  | 13,x,h=>by
   simp only[p']at h;split at h
   . rename_i ak a6;cases h;exact d'.JD a6
   . cases h
  | 14,x,h=>by
   simp only[p']at h;split at h
   . rename_i ak a6;cases h;exact d'.JD a6
   . cases h
  | 15,x,h=>by
   simp only[p']at h;split at h
   . rename_i ak a6;cases h;exact d'.JD a6
   . cases h
  | 16,x,h=>by
   simp only[p']at h;split at h
   . rename_i ak a6;cases h;exact d'.JD a6
   . cases h
  | 17,x,h=>by
   simp only[p']at h;split at h
   . rename_i ak a6;cases h;exact d'.JD a6
   . cases h
  | 18,x,h=>by
   simp only[p']at h;split at h
   . rename_i ak a6;cases h;exact d'.JD a6
   . cases h
  | 19,x,h=>by
   simp only[p']at h;split at h
   . rename_i ak a6;cases h;exact d'.JD a6
   . cases h
  | 20,x,h=>by
   simp only[p']at h;split at h
   . rename_i ak a6;cases h;exact d'.JD a6
   . cases h
  | _+21,x,h=>by
   simp only[p']at h;split at h
   . rename_i ak a6;cases h;exact d'.JD a6
   . cases h
 ayT:=λn x=>match n,x with
  | 0,_=>rfl
  | 1,_=>rfl
  | 2,_=>rfl
  | 3,_=>rfl
  | 4,_=>rfl
  | 5,_=>rfl
  | 6,_=>rfl
  | 7,_=>rfl
  | 8,_=>rfl
  | 9,_=>rfl
  | 10,_=>rfl
  | 11,_=>rfl
  | 12,_=>rfl
  | 13,_=>rfl
  | 14,_=>rfl
  | 15,_=>rfl
  | 16,_=>rfl
  | 17,_=>rfl
  | 18,_=>rfl
  | 19,_=>rfl
  | 20,_=>rfl
  | _+21,_=>rfl
 ayS:=λe=>match e with
  | 3=>some (.int .i64)
  | 5=>some (.int .u8)
  | 9=>some .str
  | 41=>some (.nm 6)
  | 58=>some (.nm 19)
  | 69=>some (.slice (.int .i64))
  | 89=>some (.nm 3)
  | 94=>some (.nm 4)
  | 100=>some (.nm 7)
  | 114=>some (.nm 2)
  | 127=>some (.nm 5)
  | 155=>some (.nm 12)
  | 194=>some (.nm 9)
  | 233=>some (.nm 11)
  | _=>none
 own:=[([false,true,true,false],1,.int .i64)]
 pos:=λn=>match n with
  | 0=>by decide
  | 1=>by decide
  | 2=>by decide
  | 3=>by decide
  | 4=>by decide
  | 5=>by decide
  | 6=>by decide
  | 7=>by decide
  | 8=>by decide
  | 9=>by decide
  | 10=>by decide
  | 11=>by decide
  | 12=>by decide
  | 13=>by decide
  | 14=>by decide
  | 15=>by decide
  | 16=>by decide
  | 17=>by decide
  | 18=>by decide
  | 19=>by decide
  | 20=>by decide
  | _+21=>Nat.zero_lt_one
theorem aI8 :oi.Total:=λn l h=>match n,h with
 | 0,h=>by
  obtain⟨x,aa⟩:=d'.MX (D:=u3) (ts:=zv 0) h;exact⟨_,by show p' 0 l=_;simp only[p',aa];rfl⟩
 | 1,h=>by
  obtain⟨x,aa⟩:=d'.MX (D:=u3) (ts:=zv 1) h;exact⟨_,by show p' 1 l=_;simp only[p',aa];rfl⟩
 | 2,h=>by
  obtain⟨x,aa⟩:=d'.MX (D:=u3) (ts:=zv 2) h;exact⟨_,by show p' 2 l=_;simp only[p',aa];rfl⟩
 | 3,h=>by
  obtain⟨x,aa⟩:=d'.MX (D:=u3) (ts:=zv 3) h;exact⟨_,by show p' 3 l=_;simp only[p',aa];rfl⟩
 | 4,h=>by
  obtain⟨x,aa⟩:=d'.MX (D:=u3) (ts:=zv 4) h;exact⟨_,by show p' 4 l=_;simp only[p',aa];rfl⟩
 | 5,h=>by
  obtain⟨x,aa⟩:=d'.MX (D:=u3) (ts:=zv 5) h;exact⟨_,by show p' 5 l=_;simp only[p',aa];rfl⟩
 | 6,h=>by
  obtain⟨x,aa⟩:=d'.MX (D:=u3) (ts:=zv 6) h;exact⟨_,by show p' 6 l=_;simp only[p',aa];rfl⟩
 | 7,h=>by
  obtain⟨x,aa⟩:=d'.MX (D:=u3) (ts:=zv 7) h;exact⟨_,by show p' 7 l=_;simp only[p',aa];rfl⟩
 | 8,h=>by
  obtain⟨x,aa⟩:=d'.MX (D:=u3) (ts:=zv 8) h;exact⟨_,by show p' 8 l=_;simp only[p',aa];rfl⟩
 | 9,h=>by
  obtain⟨x,aa⟩:=d'.MX (D:=u3) (ts:=zv 9) h;exact⟨_,by show p' 9 l=_;simp only[p',aa];rfl⟩
 | 10,h=>by
  obtain⟨x,aa⟩:=d'.MX (D:=u3) (ts:=zv 10) h;exact⟨_,by show p' 10 l=_;simp only[p',aa];rfl⟩
 | 11,h=>by
  obtain⟨x,aa⟩:=d'.MX (D:=u3) (ts:=zv 11) h;exact⟨_,by show p' 11 l=_;simp only[p',aa];rfl⟩
 | 12,h=>by
  obtain⟨x,aa⟩:=d'.MX (D:=u3) (ts:=zv 12) h;exact⟨_,by show p' 12 l=_;simp only[p',aa];rfl⟩
 | 13,h=>by
  obtain⟨x,aa⟩:=d'.MX (D:=u3) (ts:=zv 13) h;exact⟨_,by show p' 13 l=_;simp only[p',aa];rfl⟩
 | 14,h=>by
  obtain⟨x,aa⟩:=d'.MX (D:=u3) (ts:=zv 14) h;exact⟨_,by show p' 14 l=_;simp only[p',aa];rfl⟩
 | 15,h=>by
  obtain⟨x,aa⟩:=d'.MX (D:=u3) (ts:=zv 15) h;exact⟨_,by show p' 15 l=_;simp only[p',aa];rfl⟩
 | 16,h=>by
  obtain⟨x,aa⟩:=d'.MX (D:=u3) (ts:=zv 16) h;exact⟨_,by show p' 16 l=_;simp only[p',aa];rfl⟩
 | 17,h=>by
  obtain⟨x,aa⟩:=d'.MX (D:=u3) (ts:=zv 17) h;exact⟨_,by show p' 17 l=_;simp only[p',aa];rfl⟩
 | 18,h=>by
  obtain⟨x,aa⟩:=d'.MX (D:=u3) (ts:=zv 18) h;exact⟨_,by show p' 18 l=_;simp only[p',aa];rfl⟩
 | 19,h=>by
  obtain⟨x,aa⟩:=d'.MX (D:=u3) (ts:=zv 19) h;exact⟨_,by show p' 19 l=_;simp only[p',aa];rfl⟩
 | 20,h=>by
  obtain⟨x,aa⟩:=d'.MX (D:=u3) (ts:=zv 20) h;exact⟨_,by show p' 20 l=_;simp only[p',aa];rfl⟩
 | m+21,h=>by
  obtain⟨x,aa⟩:=d'.MX (D:=u3) (ts:=[.bool]) h;exact⟨x,by show p' (m+21) l=_;simp only[p',aa];rfl⟩
end
section
open Go Go.Proofs.YtijpinendaoleaaGreat.Shv
open Tryz
set_option maxRecDepth 100000
open Go.Proofs Go.Proofs.YtijpinendaoleaaGreat Go.Shelf
theorem aDe :Nb prog 90=true:=by kernel_rfl
def ZJ :nc oi:=aid oi 90 (.int .i64) 8
theorem aBp :Nl prog ZJ:=aFY (sz:=1) (bytes:=8) (z:=[.t (.int .i64 0)]) func90 (by kernel_rfl) (by kernel_rfl) (by kernel_rfl) rfl rfl
theorem adW :OD prog ZJ:=⟨aDe,aBp⟩
theorem aDf :Nb prog 103=true:=by kernel_rfl
def ZK :nc oi:=abM oi 103 (.nm 6) 120
theorem aBq :Nl prog ZK:=amo (sz:=8) (bytes:=120) (z:=[.t (.int .i64 0),.t (.bool false),.t (.int .i64 0),.t (.str []),.t (.int .i64 0),.eI,.eI,.eI]) func103 (by kernel_rfl) (by kernel_rfl) (by kernel_rfl) rfl rfl
theorem ZL :OD prog ZK:=⟨aDf,aBq⟩
theorem aDg :Nb prog 113=true:=by kernel_rfl
def ZM :nc oi:=abM oi 113 (.nm 7) 24
theorem aBr :Nl prog ZM:=amo (sz:=2) (bytes:=24) (z:=[.t (.int .i64 0),.t (.str [])]) func113 (by kernel_rfl) (by kernel_rfl) (by kernel_rfl) rfl rfl
theorem abq :OD prog ZM:=⟨aDg,aBr⟩
instance:Inhabited T9:=⟨alI⟩
instance:Inhabited (oi.D 11):=⟨alI⟩
def aa8(x y:T9):Bool:=decide (x.id < y.id)
section
open Go.Proofs Go.Proofs.YtijpinendaoleaaGreat Go.Sort Go.RowKit Go.Lib
theorem aMa(x:Int)(w:World):Calls prog 208 #[.int .i64 x] w λe w'=>e= .returned (.bool false)/\w'=w:=by
 go_enter func208,ntmps208
 go_wp2
 go_ret
 exact⟨by simp,rfl⟩
set_option maxHeartbeats 1000000 in
theorem aL'(x y:Int)(w:World):Calls prog 174 #[.int .i64 x,.int .i64 y] w λe w'=>e= .returned (.int .i64 (Lib.compareInt x y))/\w'=w:=by
 go_enter func174,ntmps174
 go_wp2_with (go_at_call 208;refine(aMa _ _).mono ?_;rintro e w' ⟨rfl,hw⟩;rw[hw])
 all_goals (go_ret;refine⟨?_,rfl⟩;unfold Lib.compareInt;(repeat' split) <;> first | rfl | (exfalso;omega))
def agT(x:T9):List Value:=[.int .i64 x.id,.string ⟨x.text.toArray⟩]
set_option maxHeartbeats 1000000 in
theorem aL9(x y:Int)(s t:ByteArray)(W:World):Calls prog 173 #[.agg #[.int .i64 x,.string s],.agg #[.int .i64 y,.string t]] W λe w'=>e= .returned (.int .i64 (Lib.compareInt x y))/\∃q aLM,w'=grow (W.drewN q) aLM:=by
 have NV:=λQN=>aL' x y QN
 generalize Lib.compareInt x y=r at NV ⊢
 go_enter func173,ntmps173
 go_wp2_with (go_at_call 174;refine(NV _).mono ?_;rintro e w' ⟨rfl,rfl⟩)
 go_ret
 exact⟨rfl,0,_,by rw[alloc_eq_grow,alloc_eq_grow,grow_grow];rfl⟩
def avM :Go.Shelf.Ren:=⟨λ| 6=>172 | 15=>207 | 14=>206 | 28=>234 | 29=>235 | 20=>226 | 21=>227 | 22=>228 | 23=>229 | 24=>230 | 25=>231 | 26=>232 | 27=>233 | 46=>236 | 47=>237 | 48=>238 | 49=>239 | 50=>240 | 57=>241 | n=>n,λ| 22=>230 | 24=>233 | 25=>236 | 3=>3 | 39=>229 | 0=>0 | 53=>275 | 55=>164 | 4=>4 | 46=>269 | 45=>268 | 50=>157 | 5=>5 | 9=>9 | 66=>277 | 70=>281 | 76=>283 | 77=>284 | n=>n,λ| n=>n⟩
theorem ax5 :SlLaysF0.n6 prog avM:={
 mixed:=by kernel_rfl
 f6:=⟨f172.name,by decide,func172.trans (Jj some (by kernel_rfl))⟩
 f14:=⟨f206.name,by decide,func206.trans (Jj some (by kernel_rfl))⟩
 f15:=func207.trans (Jj some (by kernel_rfl))
 f20:=⟨f226.name,by decide,func226.trans (Jj some (by kernel_rfl))⟩
 f21:=⟨f227.name,by decide,func227.trans (Jj some (by kernel_rfl))⟩
 f22:=⟨f228.name,by decide,func228.trans (Jj some (by kernel_rfl))⟩
 f23:=⟨f229.name,by decide,func229.trans (Jj some (by kernel_rfl))⟩
 f24:=⟨f230.name,by decide,func230.trans (Jj some (by kernel_rfl))⟩
 f25:=⟨f231.name,by decide,func231.trans (Jj some (by kernel_rfl))⟩
 f26:=⟨f232.name,by decide,func232.trans (Jj some (by kernel_rfl))⟩
 f27:=⟨f233.name,by decide,func233.trans (Jj some (by kernel_rfl))⟩
 f28:=func234.trans (Jj some (by kernel_rfl))
 f29:=func235.trans (Jj some (by kernel_rfl))
 f46:=⟨f236.name,by decide,func236.trans (Jj some (by kernel_rfl))⟩
 f47:=func237.trans (Jj some (by kernel_rfl))
 f48:=func238.trans (Jj some (by kernel_rfl))
 f49:=⟨f239.name,by decide,func239.trans (Jj some (by kernel_rfl))⟩
 f50:=⟨f240.name,by decide,func240.trans (Jj some (by kernel_rfl))⟩
 f57:=⟨f241.name,by decide,func241.trans (Jj some (by kernel_rfl))⟩
 t0:=underlying0
 a0:=isAgg0
 z0:=sizeOf0
 v0:=zeroValue0
 t3:=underlying3
 a3:=isAgg3
 z3:=sizeOf3
 v3:=zeroValue3
 t4:=underlying4
 a4:=isAgg4
 z4:=sizeOf4
 v4:=zeroValue4
 t5:=underlying5
 a5:=isAgg5
 z5:=sizeOf5
 v5:=zeroValue5
 t9:=underlying9
 a9:=isAgg9
 z9:=sizeOf9
 v9:=zeroValue9
 t22:=underlying230
 a22:=isAgg230
 z22:=sizeOf230
 v22:=zeroValue230
 t25:=underlying236
 a25:=isAgg236
 z25:=sizeOf236
 v25:=zeroValue236
 t39:=underlying229
 a39:=isAgg229
 z39:=sizeOf229
 v39:=zeroValue229
 t45:=underlying268
 a45:=isAgg268
 z45:=sizeOf268
 v45:=zeroValue268
 t46:=underlying269
 a46:=isAgg269
 z46:=sizeOf269
 v46:=zeroValue269
 t50:=underlying157
 a50:=isAgg157
 z50:=sizeOf157
 v50:=zeroValue157
 t53:=underlying275
 a53:=isAgg275
 z53:=sizeOf275
 v53:=zeroValue275
 t55:=underlying164
 a55:=isAgg164
 z55:=sizeOf164
 v55:=zeroValue164
 t66:=underlying277
 a66:=isAgg277
 z66:=sizeOf277
 v66:=zeroValue277
 t70:=underlying281
 a70:=isAgg281
 z70:=sizeOf281
 v70:=zeroValue281
 t76:=underlying283
 a76:=isAgg283
 z76:=sizeOf283
 v76:=zeroValue283
 t77:=underlying284
 a77:=isAgg284
 z77:=sizeOf284
 v77:=zeroValue284}
theorem ass :ltOf (λx y:T9=>Lib.compareInt x.id y.id)=aa8:=by
 funext x y
 unfold ltOf aa8 Lib.compareInt;by_cases h1:x.id < y.id
 . simp[h1]
 . by_cases ah:y.id < x.id <;> simp[h1,ah]
theorem apK :SWO aa8:=aHo (λx:T9=>x.id)
set_option maxHeartbeats 2000000 in
theorem aMc(p:Option Addr)(cap:Nat)(Ux:Value)(w:World):Calls prog 226 #[.slice p 0 cap,.int .i64 0,.int .i64 0,Ux] w λe w'=>e= .returned (.tuple #[])/\w'=w:=by
 go_enter func226,ntmps226
 go_wp2
 refine wp_loop_rounds 1 ?_;rw[rounds_succ]
 go_wp2
 go_end0
 exact⟨rfl,rfl⟩
set_option maxHeartbeats 2000000 in
theorem aMd(p:Option Addr)(cap:Nat)(lim:Int)(Ux:Value)(w:World):Calls prog 206 #[.slice p 0 cap,.int .i64 0,.int .i64 0,.int .i64 lim,Ux] w λe w'=>e= .returned (.tuple #[])/\w'=w:=by
 have al:=λW=>aMc p cap Ux W
 go_enter func206,ntmps206
 go_wp2
 refine wp_loop_rounds 1 ?_;rw[rounds_succ]
 go_wp2_with (go_at_call 226;refine(al _).mono ?_;rintro e w' ⟨rfl,rfl⟩)
 (try simp only[Exit.inBlock,Exit.then]);refine bodyPost_ret (results_none rfl _ _ _) rfl ?_
 exact⟨rfl,rfl⟩
set_option maxHeartbeats 2000000 in
theorem aMb(p:Option Addr)(cap:Nat)(Ux:Value)(w:World):Calls prog 172 #[.slice p 0 cap,Ux] w λe w'=>e= .returned (.tuple #[])/\w'=w:=by
 have a7:=λlim W=>aMd p cap lim Ux W
 have aJ:∀W,Calls prog 207 #[.int .u64 0] W λe w'=>e= .returned (.int .i64 (Lib.bitLen 0:Nat))/\w'=W:=λW=>by
  have h:=Any.bits_Len (SlLaysF0.n15.bits (P:=prog) (ρ:=avM) {ax5 with}) 0 W (by omega) (by omega);exact h
 go_enter func172,ntmps172
 go_wp2_with (first | (go_at_call 207;refine(aJ _).mono ?_;rintro e w' ⟨rfl,rfl⟩) | (go_at_call 206;refine(a7 _ _).mono ?_;rintro e w' ⟨rfl,rfl⟩))
 go_end0
 exact⟨rfl,rfl⟩
theorem aMe(blk off cap:Nat)(d:Array (oi.D 11))(w:World)(hH:HoldsK agT 2 w blk off d)(hblk:blk < w.heap.size)(hI:d.size < 4611686018427387904):
 Calls prog 172 #[.slice (some ⟨blk,off,none⟩) d.size cap,.func (.func 173) #[] #[]] w λe w'=>e= .returned (.tuple #[])/\∃n os,w'=sortWorldK agT 2 w blk off n (pdq aa8 d 0 d.size (Lib.bitLen d.size) true true) os:=by
 have Xi:∀args w,(callFunc 173 args).run prog w= .ok (.enter 173 args) w:=enters_of func173 (by kernel_rfl) rfl
 have h:=AnyQ.slices_SortFunc_eq (α:=T9) ax5 2 isAgg233 sizeOf233 agT (λ_=>rfl) (λx v cJ=>by simp[agT]at cJ;rcases cJ with rfl | rfl <;> rfl) (λx y=>Lib.compareInt x.id y.id) (by rw[ass];exact apK) 173 #[] blk off cap d w Xi (λ_ _ _ _ x y=>aL9 x.id y.id _ _ _) hH hblk hI;rw[ass]at h;exact h
theorem aIN :Nb prog 172=true:=by kernel_rfl
def alw :nc oi:=apJ oi 172 11 173 (Nz (α:=oi.D 11) aa8)
theorem aCQ :Nl prog alw:=aGa (U:=oi) (n:=11) agT aa8 apK (λ_=>rfl) (λw S x j t v h ar=>aF3 w S x.id x.text j t v h ar) aMe aMb
end
theorem aqL :OD prog alw:=⟨aIN,aCQ⟩
def atc :Go.Shelf.Ren:=⟨λ| 240=>176 | 276=>209 | n=>n,λ| 0=>0 | 4=>4 | 9=>9 | 20=>20 | 37=>35 | 70=>198 | 72=>200 | 164=>256 | n=>n,λn=>n⟩
theorem aLw :Lays.n240 prog atc:={
 mixed:=by kernel_rfl
 f240:=func176.trans (Jj some (by kernel_rfl))
 f276:=func209.trans (Jj some (by kernel_rfl))
 t0:=underlying0
 a0:=isAgg0
 z0:=sizeOf0
 v0:=zeroValue0
 t4:=underlying4
 a4:=isAgg4
 z4:=sizeOf4
 v4:=zeroValue4
 t9:=underlying9
 a9:=isAgg9
 z9:=sizeOf9
 v9:=zeroValue9
 t20:=underlying20
 a20:=isAgg20
 z20:=sizeOf20
 v20:=zeroValue20
 t70:=underlying198
 a70:=isAgg198
 z70:=sizeOf198
 v70:=zeroValue198
 t72:=underlying200
 a72:=isAgg200
 z72:=sizeOf200
 v72:=zeroValue200
 t164:=underlying256
 a164:=isAgg256
 z164:=sizeOf256
 v164:=zeroValue256}
theorem aLx :Builder.X72 prog atc:={
 sizeBuilder:=by kernel_rfl
 liesBuilder:=by kernel_rfl}
theorem aIO :Nb prog 176=true:=by kernel_rfl
def ZT :nc oi:=aie oi 176 200 5
theorem aCB :Nl prog ZT:=aGN aLw aLx rfl rfl
theorem adJ :OD prog ZT:=⟨aIO,aCB⟩
theorem aCC :Nb prog 90=true:=by kernel_rfl
def ZQ :nc oi:=abM oi 90 (.int .i64) 8
theorem aCV :Nl prog ZQ:=amo (sz:=1) (bytes:=8) (z:=[.t (.int .i64 0)]) func90 (by kernel_rfl) (by kernel_rfl) (by kernel_rfl) rfl rfl
theorem ZR :OD prog ZQ:=⟨aCC,aCV⟩
end
section
open Go Go.Proofs.YtijpinendaoleaaGreat.Shv
open Tryz
set_option maxRecDepth 100000
abbrev hT(e:fu)(F:d' oi.D e.ts->Option (d' oi.D e.us)):Prop:=OD prog (e.s F)
abbrev xe(f kk:Nat)(p:List Nat)(e:hU)(F:d' oi.D e.ts->Option (ID oi e.outs)):Prop:=abi prog f kk p e F
abbrev hR(e:fu):Prop:=OY prog e
abbrev z'(e:fu):d' oi.D e.ts->d' oi.D e.us->Prop:=ahg prog oi e
abbrev E8(f kk:Nat)(p:List Nat)(e:hU):d' oi.D e.ts->ID oi e.outs->Prop:=adD prog oi f kk p e
theorem KX(e:fu)(k:hR e){F:d' oi.D e.ts->Option (d' oi.D e.us)}(h:∀h r,F h=some r->z' e h r):hT e F:= .of k h
theorem O4(e:hU){f kk:Nat}{p:List Nat}{F:d' oi.D e.ts->Option (ID oi e.outs)}(h:∀h o,F h=some o->E8 f kk p e h o):xe f kk p e F:= .of h
theorem NN(e:fu)(k:hR e){fs:List (nc oi)}(c6:Ro prog fs){ls:List (Nat×Ob oi)}(aJ:S0 prog e.f e.st.length [] ls){h:d' oi.D e.ts}{r:d' oi.D e.us}(aa:abd (OL fs) (VZ ls) prog e h=some r):z' e h r:= .at k c6 aJ aa
theorem O3(e:hU){f kk:Nat}{p:List Nat}{F:d' oi.D e.ts->Option (ID oi e.outs)}(tr:∀h o,F h=some o->E8 f kk p e h o){fs:List (nc oi)}(c6:Ro prog fs){ls:List (Nat×Ob oi)}(aJ:S0 prog f kk p ls){h:d' oi.D e.ts}{o:ID oi e.outs}(aa:abL (OL fs) (VZ ls) kk (aa1 prog f p) e F h=some o):E8 f kk p e h o:= .at tr c6 aJ aa
def aum :fu:=⟨41,[ak ad],[],[ad],ak .bool,[],[.bool],[]⟩
def auB :fu:=⟨75,[ak ad],[],[ad],ak .bool,[],[.bool],[]⟩
def aHr :hU:=⟨0,⟨[(1,eb 0 0),(2,eb 1 0),(4,ak ad),(5,eb 2 0),(6,ak ad),(8,eb 3 0),(9,ak eJ),(10,ak ad)],[k4 (a' 1),.box [.eI],.box [.arr 4],.box [.hole ad,.hole .str,.hole ad,.hole ad,.hole ad,.arr 5,.eI,.hole ad,.hole ad,.hole .bool],.arr (.nm 3),.arr (.nm 4)]⟩,[(.via 8 5,.nm 4)],[(.via 8 5,.nm 4)],[ad,ad,eJ,ad,a' 1,ad,.str,ad,ad,ad,ad,ad,.bool,a' 3,a' 4],[⟨.exit 3,⟨[(1,eb 0 0),(2,eb 1 0),(4,ak ad),(5,eb 2 0),(6,ak ad),(8,eb 3 0)],[k4 (a' 1),.box [.eI],.box [.arr 4],.box [.hole ad,.hole .str,.hole ad,.hole ad,.hole ad,.arr 5,.eI,.hole ad,.hole ad,.hole .bool],.arr (.nm 3),.arr (.nm 4)]⟩,[],[ad,ad,a' 1,ad,.str,ad,ad,ad,ad,ad,.bool,a' 3,a' 4]⟩],[]⟩
def azG :hU:=⟨0,⟨[(1,eb 0 0),(2,eb 1 0),(4,ak ad),(5,eb 2 0),(6,ak ad)],[k4 (a' 1),.box [.eI],.box [.arr 3],.arr (.nm 3)]⟩,[(.via 5 0,.nm 3)],[(.via 5 0,.nm 3)],[ad,ad,a' 1,a' 3],[⟨.exit 0,⟨[(2,eb 0 0),(5,eb 1 0)],[.box [.eI],.box [.arr 2],.arr (.nm 3)]⟩,[],[a' 3]⟩],[aHr]⟩
def amQ :fu:=⟨10,[.row 0],[],[.nm 0],.fz [.row 8,ak .bool],[],[.nm 8,.bool],[azG]⟩
def anp :fu:=⟨47,[],[],[],.row 8,[],[.nm 8],[]⟩
def awK :hU:=⟨0,⟨[(0,ak (a' 4)),(1,ak (a' 4)),(12,ak ad),(13,ak ad)],[]⟩,[],[],[a' 4,a' 4,ad,ad],[Jh 4 .bool,Mc 0],[]⟩
def anl :fu:=⟨220,[ak (a' 4),ak (a' 4)],[],[a' 4,a' 4],ak .bool,[],[.bool],[awK]⟩
def awL :hU:=⟨0,⟨[(0,ak (a' 7)),(1,ak (a' 7)),(12,ak ad),(13,ak ad)],[]⟩,[],[],[a' 7,a' 7,ad,ad],[Jh 4 .bool,Mc 0],[]⟩
def ano :fu:=⟨224,[ak (a' 7),ak (a' 7)],[],[a' 7,a' 7],ak .bool,[],[.bool],[awL]⟩
def ad3 :hU:=⟨0,⟨[(1,ak (a' 6)),(2,.c (.fn 223 [])),(15,ak (a' 6)),(16,ak ad),(17,ak ad)],[]⟩,[],[],[a' 6,a' 6,ad,ad],[Jh 6 .bool,Mc 0],[]⟩
def abO :fu:=⟨225,[ak (a' 6),ak (a' 6),.c (.fn 223 [])],[],[a' 6,a' 6],ak .bool,[],[.bool],[ad3]⟩
def aak :fu:=⟨223,[.row 6,.row 6],[],[.nm 6,.nm 6],ak .bool,[],[.bool],[]⟩
def ann :fu:=⟨222,[.row 5,.row 5],[],[.nm 5,.nm 5],ak .bool,[],[.bool],[]⟩
def awM :hU:=⟨0,⟨[(1,ak (a' 5)),(2,.c (.fn 222 [])),(15,ak (a' 5)),(16,ak ad),(17,ak ad)],[]⟩,[],[],[a' 5,a' 5,ad,ad],[Jh 6 .bool,Mc 0],[]⟩
def anm :fu:=⟨221,[ak (a' 5),ak (a' 5),.c (.fn 222 [])],[],[a' 5,a' 5],ak .bool,[],[.bool],[awM]⟩
def anc :fu:=⟨201,[.row 3,.row 3],[],[.nm 3,.nm 3],ak .bool,[],[.bool],[]⟩
def anh :fu:=⟨216,[ak (.int .u8)],[],[.int .u8],ak .bool,[],[.bool],[]⟩
def ani :fu:=⟨217,[ak (.int .u8)],[],[.int .u8],ak .bool,[],[.bool],[]⟩
def awO :hU:=⟨0,⟨[(0,ak .str),(18,ak ad),(19,ak ad)],[]⟩,[],[],[.str,ad,ad],[Jh 2 .bool,Mc 0],[]⟩
def am' :fu:=⟨198,[ak .str],[],[.str],ak .bool,[],[.bool],[awO]⟩
def awQ :hU:=⟨0,⟨[(0,ak eJ),(1,ak KV),(5,.c (.mp 0)),(9,ak eJ),(10,ak ad),(11,ak ad)],[.set]⟩,[],[],[eJ,KV,eJ,ad,ad,KV],[Jh 4 .bool,⟨.exit 0,⟨[(0,ak eJ)],[]⟩,[],[eJ]⟩],[]⟩
def anj :fu:=⟨218,[ak eJ,ak KV],[],[eJ,KV],ak .bool,[],[.bool],[awQ]⟩
def av0 :hU:=⟨0,⟨[(0,ak (a' 4)),(3,.c (.arr 0)),(4,.c (.arr 1)),(7,ak (a' 4)),(8,ak ad),(9,ak ad)],[.arr ad,.arr .str]⟩,[(.slot 3,ad),(.slot 4,.str)],[(.slot 3,ad),(.slot 4,.str)],[a' 4,a' 4,ad,ad,eJ,KV],[⟨.exit 0,⟨[(0,ak (a' 4)),(3,.c (.arr 0)),(4,.c (.arr 1))],[.arr ad,.arr .str]⟩,[],[a' 4,eJ,KV]⟩],[]⟩
def ana :fu:=⟨199,[ak (a' 4)],[],[a' 4],ak .bool,[],[.bool],[av0]⟩
def ank :fu:=⟨219,[.row 6],[],[.nm 6],ak .bool,[],[.bool],[]⟩
def av1 :hU:=⟨0,⟨[(1,eb 0 0),(3,.c (.arr 1)),(4,.c (.arr 2)),(8,ak (a' 5)),(9,ak ad),(10,ak ad)],[.iy 3,.arr ad,.arr .str]⟩,[(.slot 3,ad),(.slot 4,.str)],[(.slot 3,ad),(.slot 4,.str)],[a' 5,ad,ad,.nm 3,eJ,KV],[Jh 2 .bool,⟨.exit 0,⟨[(1,eb 0 0),(3,.c (.arr 1)),(4,.c (.arr 2))],[.iy 3,.arr ad,.arr .str]⟩,[],[.nm 3,eJ,KV]⟩],[]⟩
def anb :fu:=⟨200,[.row 3],[],[.nm 3],ak .bool,[],[.bool],[av1]⟩
def amZ :fu:=⟨158,[.row 3],[],[.nm 3],ak .bool,[],[.bool],[]⟩
def av2 :hU:=⟨0,⟨[(1,eb 0 0),(3,.c (.arr 1)),(7,ak (a' 5)),(8,ak ad),(9,ak ad)],[.iy 3,.arr ad]⟩,[(.slot 3,ad)],[(.slot 3,ad)],[a' 5,ad,ad,.nm 3,eJ],[⟨.exit 0,⟨[(1,eb 0 0),(3,.c (.arr 1))],[.iy 3,.arr ad]⟩,[],[.nm 3,eJ]⟩],[]⟩
def am0 :fu:=⟨159,[.row 3],[],[.nm 3],ak eJ,[],[eJ],[av2]⟩
def avN :hU:=⟨0,⟨[(1,eb 0 0),(3,.c (.mp 1)),(5,eb 2 0),(14,ak (a' 3)),(15,ak ad),(16,ak ad),(38,ak eJ),(39,ak ad),(40,ak ad)],[k4 (a' 3),.set,.box [.hole ad,.hole .str,.hole ad,.hole ad,.hole ad,.hole (a' 4),.hole (a' 5),.hole ad,.hole ad,.hole .bool]]⟩,[],[],[a' 3,ad,ad,eJ,ad,ad,a' 3,KV,ad,.str,ad,ad,ad,a' 4,a' 5,ad,ad,.bool],[Jh 2 ad,⟨.exit 2,⟨[(1,eb 0 0),(3,.c (.mp 1)),(5,eb 2 0),(14,ak (a' 3)),(15,ak ad),(16,ak ad)],[k4 (a' 3),.set,.box [.hole ad,.hole .str,.hole ad,.hole ad,.hole ad,.hole (a' 4),.hole (a' 5),.hole ad,.hole ad,.hole .bool]]⟩,[],[a' 3,ad,ad,a' 3,KV,ad,.str,ad,ad,ad,a' 4,a' 5,ad,ad,.bool]⟩],[]⟩
def av3 :hU:=⟨0,⟨[(1,eb 0 0),(3,.c (.mp 1)),(14,ak (a' 3)),(15,ak ad),(16,ak ad)],[k4 (a' 3),.set]⟩,[],[],[a' 3,ad,ad,a' 3,KV],[Jh 2 ad,Mc 0],[avN]⟩
def amR :fu:=⟨125,[.row 8],[],[.nm 8],ak ad,[],[ad],[av3]⟩
def az0 :fu:=⟨177,[eb 0 0,ak ad],[.box [.hole (a' 3),.arr 1,.hole eJ,.hole ad],.arr ad],[ad,a' 3,eJ,ad,eJ],.fz [.row 6,ak .bool],[.box [.hole (a' 3),.arr 2,.arr 3,.hole ad],.gone,.arr ad,.arr ad],[.nm 6,.bool,a' 3,ad,eJ,eJ],[]⟩
def aIP :hU:=⟨0,⟨[(0,ak .str),(4,ak (.int .u64)),(17,ak ad),(18,ak ad)],[]⟩,[],[],[.str,.int .u64,ad,ad],[⟨.exit 0,⟨[(4,ak (.int .u64))],[]⟩,[],[.int .u64]⟩],[]⟩
def azU :fu:=⟨168,[ak .str],[],[.str],.fz [ak (.int .u64),ak ad],[],[.int .u64,ad],[aIP]⟩
def azV :fu:=⟨169,[ak (.int .u64)],[],[.int .u64],ak ad,[],[ad],[]⟩
def am5 :fu:=⟨191,[.row 4,eb 0 0],[k4 ad],[.nm 4,ad],ak .bool,[k4 ad],[.bool,ad],[]⟩
def av4 :hU:=⟨0,⟨[(0,ak (a' 4)),(1,.c (.fn 191 [0])),(7,ak ad),(8,ak ad)],[k4 ad]⟩,[],[],[a' 4,ad,ad,ad],[⟨.ret,⟨[(4,ak ad)],[k4 ad]⟩,[],[ad,ad]⟩,⟨.exit 0,⟨[],[k4 ad]⟩,[],[ad]⟩],[]⟩
def am4 :fu:=⟨190,[ak (a' 4),.c (.fn 191 [0])],[k4 ad],[a' 4,ad],ak ad,[k4 ad],[ad,ad],[av4]⟩
def amU :fu:=⟨143,[.row 3,ak ad],[],[.nm 3,ad],.fz [ak ad,ak .bool],[],[ad,.bool],[]⟩
def az1 :fu:=⟨178,[eb 0 0,ak ad,ak ad,ak .str],[.box [.hole (a' 3),.arr 1,.hole eJ,.hole ad],.arr ad],[ad,ad,.str,a' 3,eJ,ad,eJ],.fz [.row 6,ak .bool],[.box [.hole (a' 3),.arr 2,.hole eJ,.hole ad],.gone,.arr ad],[.nm 6,.bool,a' 3,eJ,ad,eJ],[]⟩
def aIQ :hU:=⟨0,⟨[(0,ak .str),(5,ak (.int .u64)),(10,ak ad),(11,ak ad)],[]⟩,[],[],[.str,.int .u64,ad,ad],[⟨.ret,⟨[(2,ak (.int .u64)),(3,ak ad),(4,ak ad)],[]⟩,[],[.int .u64,ad,ad]⟩,Mc 0],[]⟩
def az9 :fu:=⟨204,[ak .str],[],[.str],.fz [ak (.int .u64),ak ad,ak ad],[],[.int .u64,ad,ad],[aIQ]⟩
def azT :fu:=⟨165,[ak .str],[],[.str],.fz [ak (.int .u64),ak .str,ak .bool],[],[.int .u64,.str,.bool],[]⟩
def azI :fu:=⟨128,[ak .str],[],[.str],.fz [ak ad,ak .str,ak ad],[],[ad,.str,ad],[]⟩
def am2 :fu:=⟨167,[.row 5,eb 0 0],[k4 ad],[.nm 5,ad],ak .bool,[k4 ad],[.bool,ad],[]⟩
def av5 :hU:=⟨0,⟨[(0,ak (a' 5)),(1,.c (.fn 167 [0])),(7,ak ad),(8,ak ad)],[k4 ad]⟩,[],[],[a' 5,ad,ad,ad],[⟨.ret,⟨[(4,ak ad)],[k4 ad]⟩,[],[ad,ad]⟩,⟨.exit 0,⟨[],[k4 ad]⟩,[],[ad]⟩],[]⟩
def am1 :fu:=⟨166,[ak (a' 5),.c (.fn 167 [0])],[k4 ad],[a' 5,ad],ak ad,[k4 ad],[ad,ad],[av5]⟩
def amS :fu:=⟨129,[.row 3,ak ad],[],[.nm 3,ad],.fz [ak ad,ak .bool],[],[ad,.bool],[]⟩
def az2 :fu:=⟨179,[eb 0 0,.row 3,ak .str],[.box [.hole (a' 3),.arr 1,.hole eJ,.hole ad],.arr ad],[.nm 3,.str,a' 3,eJ,ad,eJ],.fz [.row 6,ak .bool],[.box [.hole (a' 3),.arr 2,.hole eJ,.hole ad],.gone,.arr ad],[.nm 6,.bool,a' 3,eJ,ad,eJ],[]⟩
def az8 :fu:=⟨202,[ak .str],[],[.str],.fz [ak .str,ak .str,ak .bool],[],[.str,.str,.bool],[]⟩
def aIR :hU:=⟨0,⟨[(4,.c (.arr 0)),(5,ak .str)],[.arr .str]⟩,[(.slot 4,.str)],[(.slot 4,.str)],[.str,KV],[⟨.ret,⟨[(2,.c (.eI)),(3,ak ad)],[]⟩,[],[ad]⟩,⟨.exit 0,⟨[(4,.c (.arr 0))],[.arr .str]⟩,[],[KV]⟩],[]⟩
def azS :fu:=⟨161,[ak .str],[],[.str],.fz [ak KV,ak ad],[],[KV,ad],[aIR]⟩
def aIS :hU:=⟨0,⟨[(0,eb 0 0),(4,eb 2 0),(6,eb 3 0),(10,eb 4 0),(38,ak KV),(39,ak ad),(40,ak ad)],[.box [.hole (a' 3),.arr 5,.hole eJ,.hole ad],.gone,.iy 3,.box [.hole ad,.hole .bool,.hole ad,.hole .str,.hole ad,.eI,.eI,.eI],.box [.hole ad,.hole .bool,.hole ad,.hole .str,.hole ad,.eI,.arr 6,.eI],.arr ad,.arr (.nm 6)]⟩,[(.via 10 6,.nm 6)],[(.via 10 6,.nm 6)],[KV,ad,ad,a' 3,eJ,ad,.nm 3,ad,.bool,ad,.str,ad,ad,.bool,ad,.str,ad,eJ,a' 6],[⟨.ret,⟨[(6,eb 2 0),(7,ak .bool)],[.box [.hole (a' 3),.arr 3,.hole eJ,.hole ad],.gone,.iy 6,.arr ad]⟩,[],[.bool,a' 3,eJ,ad,.nm 6,eJ]⟩,⟨.exit 0,⟨[(6,eb 2 0),(10,eb 3 0)],[.box [.hole (a' 3),.arr 4,.hole eJ,.hole ad],.gone,.box [.hole ad,.hole .bool,.hole ad,.hole .str,.hole ad,.eI,.eI,.eI],.box [.hole ad,.hole .bool,.hole ad,.hole .str,.hole ad,.eI,.arr 5,.eI],.arr ad,.arr (.nm 6)]⟩,[],[a' 3,eJ,ad,ad,.bool,ad,.str,ad,ad,.bool,ad,.str,ad,eJ,a' 6]⟩],[]⟩
def az4 :fu:=⟨180,[eb 0 0,.row 3,ak .str],[.box [.hole (a' 3),.arr 1,.hole eJ,.hole ad],.arr ad],[.nm 3,.str,a' 3,eJ,ad,eJ],.fz [.row 6,ak .bool],[.box [.hole (a' 3),.arr 2,.hole eJ,.hole ad],.gone,.arr ad],[.nm 6,.bool,a' 3,eJ,ad,eJ],[aIS]⟩
def amT :fu:=⟨133,[ak ad],[],[ad],ak (.int .u64),[],[.int .u64],[]⟩
def anf :fu:=⟨214,[ak (.int .u64)],[],[.int .u64],ak .bool,[],[.bool],[]⟩
def am7 :fu:=⟨195,[ak (.int .u64),ak (.int .u64)],[],[.int .u64,.int .u64],ak ad,[],[ad],[]⟩
def ane :fu:=⟨208,[ak ad],[],[ad],ak .bool,[],[.bool],[]⟩
def am3 :fu:=⟨174,[ak ad,ak ad],[],[ad,ad],ak ad,[],[ad],[]⟩
def ang :fu:=⟨215,[ak .str],[],[.str],ak .bool,[],[.bool],[]⟩
def am9 :fu:=⟨197,[ak .str,ak .str],[],[.str,.str],ak ad,[],[ad],[]⟩
def av6 :hU:=⟨0,⟨[(3,ak ad),(6,ak eJ),(7,ak ad),(8,ak ad)],[]⟩,[],[],[ad,eJ,ad,ad],[Jh 2 ad,⟨.exit 0,⟨[(3,ak ad)],[]⟩,[],[ad]⟩],[]⟩
def am8 :fu:=⟨196,[ak eJ],[],[eJ],ak ad,[],[ad],[av6]⟩
def amY :fu:=⟨151,[.row 6,.row 6],[],[.nm 6,.nm 6],ak ad,[],[ad],[]⟩
def aIT :hU:=⟨0,⟨[(0,eb 0 0),(4,eb 2 0),(6,eb 3 0),(8,ak KV),(10,eb 4 0),(11,ak ad)],[.box [.hole (a' 3),.arr 5,.hole eJ,.hole ad],.gone,.iy 3,.box [.hole ad,.hole .bool,.hole ad,.hole .str,.hole ad,.eI,.eI,.eI],.box [.hole ad,.hole .bool,.hole ad,.hole .str,.hole ad,.arr 6,.eI,.eI],.arr ad,.arr (.nm 6)]⟩,[(.via 10 5,.nm 6)],[(.via 10 5,.nm 6)],[KV,ad,a' 3,eJ,ad,.nm 3,ad,.bool,ad,.str,ad,ad,.bool,ad,.str,ad,eJ,a' 6],[⟨.ret,⟨[(6,eb 2 0),(7,ak .bool)],[.box [.hole (a' 3),.arr 3,.hole eJ,.hole ad],.gone,.iy 6,.arr ad]⟩,[],[.bool,a' 3,eJ,ad,.nm 6,eJ]⟩,⟨.exit 0,⟨[(0,eb 0 0),(4,eb 2 0),(6,eb 3 0),(8,ak KV),(10,eb 4 0)],[.box [.hole (a' 3),.arr 5,.hole eJ,.hole ad],.gone,.iy 3,.box [.hole ad,.hole .bool,.hole ad,.hole .str,.hole ad,.eI,.eI,.eI],.box [.hole ad,.hole .bool,.hole ad,.hole .str,.hole ad,.arr 6,.eI,.eI],.arr ad,.arr (.nm 6)]⟩,[],[KV,a' 3,eJ,ad,.nm 3,ad,.bool,ad,.str,ad,ad,.bool,ad,.str,ad,eJ,a' 6]⟩],[]⟩
def aIU :hU:=⟨1,⟨[(0,eb 0 0),(4,eb 2 0),(6,eb 3 0),(8,ak KV),(10,eb 4 0),(14,ak ad)],[.box [.hole (a' 3),.arr 5,.hole eJ,.hole ad],.gone,.iy 3,.box [.hole ad,.hole .bool,.hole ad,.hole .str,.hole ad,.eI,.eI,.eI],.box [.hole ad,.hole .bool,.hole ad,.hole .str,.hole ad,.arr 6,.eI,.eI],.arr ad,.arr (.nm 6)]⟩,[],[],[KV,ad,a' 3,eJ,ad,.nm 3,ad,.bool,ad,.str,ad,ad,.bool,ad,.str,ad,eJ,a' 6],[⟨.ret,⟨[(6,eb 2 0),(7,ak .bool)],[.box [.hole (a' 3),.arr 3,.arr 4,.hole ad],.gone,.iy 6,.arr ad,.arr ad]⟩,[],[.bool,a' 3,ad,.nm 6,eJ,eJ]⟩,⟨.exit 2,⟨[(0,eb 0 0),(4,eb 2 0),(6,eb 3 0),(8,ak KV),(10,eb 4 0)],[.box [.hole (a' 3),.arr 5,.hole eJ,.hole ad],.gone,.iy 3,.box [.hole ad,.hole .bool,.hole ad,.hole .str,.hole ad,.eI,.eI,.eI],.box [.hole ad,.hole .bool,.hole ad,.hole .str,.hole ad,.arr 6,.eI,.eI],.arr ad,.arr (.nm 6)]⟩,[],[KV,a' 3,eJ,ad,.nm 3,ad,.bool,ad,.str,ad,ad,.bool,ad,.str,ad,eJ,a' 6]⟩],[]⟩
def aIV :hU:=⟨2,⟨[(0,eb 0 0),(4,eb 2 0),(6,eb 3 0),(8,ak KV),(10,eb 4 0),(15,ak ad)],[.box [.hole (a' 3),.arr 5,.hole eJ,.hole ad],.gone,.iy 3,.box [.hole ad,.hole .bool,.hole ad,.hole .str,.hole ad,.eI,.eI,.eI],.box [.hole ad,.hole .bool,.hole ad,.hole .str,.hole ad,.arr 6,.arr 7,.eI],.arr ad,.arr (.nm 6),.arr (.nm 6)]⟩,[(.via 10 6,.nm 6)],[(.via 10 6,.nm 6)],[KV,ad,a' 3,eJ,ad,.nm 3,ad,.bool,ad,.str,ad,ad,.bool,ad,.str,ad,eJ,a' 6,a' 6],[⟨.ret,⟨[(6,eb 2 0),(7,ak .bool)],[.box [.hole (a' 3),.arr 3,.hole eJ,.hole ad],.gone,.iy 6,.arr ad]⟩,[],[.bool,a' 3,eJ,ad,.nm 6,eJ]⟩,⟨.exit 4,⟨[(6,eb 2 0),(10,eb 3 0)],[.box [.hole (a' 3),.arr 4,.hole eJ,.hole ad],.gone,.box [.hole ad,.hole .bool,.hole ad,.hole .str,.hole ad,.eI,.eI,.eI],.box [.hole ad,.hole .bool,.hole ad,.hole .str,.hole ad,.arr 5,.arr 6,.eI],.arr ad,.arr (.nm 6),.arr (.nm 6)]⟩,[],[a' 3,eJ,ad,ad,.bool,ad,.str,ad,ad,.bool,ad,.str,ad,eJ,a' 6,a' 6]⟩],[]⟩
def az5 :fu:=⟨181,[eb 0 0,.row 3,ak .str],[.box [.hole (a' 3),.arr 1,.hole eJ,.hole ad],.arr ad],[.nm 3,.str,a' 3,eJ,ad,eJ],.fz [.row 6,ak .bool],[.box [.hole (a' 3),.arr 2,.hole eJ,.hole ad],.gone,.arr ad],[.nm 6,.bool,a' 3,eJ,ad,eJ],[aIT,aIU,aIV]⟩
def aIW :hU:=⟨0,⟨[(4,.c (.arr 0)),(5,ak (.int .u64)),(6,ak .str)],[.arr (.nm 9)]⟩,[(.slot 4,.nm 9)],[(.slot 4,.nm 9)],[.int .u64,.str,a' 9],[⟨.ret,⟨[(2,.c (.eI)),(3,ak ad)],[]⟩,[],[ad]⟩,⟨.exit 0,⟨[(4,.c (.arr 0))],[.arr (.nm 9)]⟩,[],[a' 9]⟩],[]⟩
def azR :fu:=⟨160,[ak .str],[],[.str],.fz [ak (a' 9),ak ad],[],[a' 9,ad],[aIW]⟩
def aAb :fu:=⟨211,[.row 9,eb 0 0],[.iy 5],[.nm 9,.nm 5],ak .bool,[.iy 5],[.bool,.nm 5],[]⟩
def aIX :hU:=⟨0,⟨[(0,ak (a' 9)),(1,.c (.fn 211 [0])),(7,ak ad),(8,ak ad)],[.iy 5]⟩,[],[],[a' 9,ad,ad,.nm 5],[⟨.ret,⟨[(4,ak ad)],[.iy 5]⟩,[],[ad,.nm 5]⟩,⟨.exit 0,⟨[],[.iy 5]⟩,[],[.nm 5]⟩],[]⟩
def aAa :fu:=⟨210,[ak (a' 9),.c (.fn 211 [0])],[.iy 5],[a' 9,.nm 5],ak ad,[.iy 5],[ad,.nm 5],[aIX]⟩
def aIY :hU:=⟨0,⟨[(1,eb 0 0),(2,eb 1 0),(20,.c (.arr 2)),(21,ak ad),(22,ak ad)],[.box [.hole ad,.hole .bool,.hole ad,.hole .str,.hole ad,.arr 2,.arr 3,.arr 4],.box [.hole ad,.hole .bool,.hole ad,.hole .str,.hole ad,.eI,.eI,.eI],.arr (.nm 6),.arr (.nm 6),.arr (.nm 7)]⟩,[],[],[ad,ad,ad,.bool,ad,.str,ad,ad,.bool,ad,.str,ad,a' 6,a' 6,a' 7],[⟨.exit 0,⟨[(1,eb 0 0),(2,eb 1 0)],[.box [.hole ad,.hole .bool,.hole ad,.hole .str,.hole ad,.arr 2,.arr 3,.arr 4],.box [.hole ad,.hole .bool,.hole ad,.hole .str,.hole ad,.eI,.eI,.eI],.arr (.nm 6),.arr (.nm 6),.arr (.nm 7)]⟩,[],[ad,.bool,ad,.str,ad,ad,.bool,ad,.str,ad,a' 6,a' 6,a' 7]⟩],[]⟩
def aIZ :hU:=⟨1,⟨[(1,eb 0 0),(2,eb 1 0),(35,.c (.arr 2)),(36,ak ad),(37,ak ad)],[.box [.hole ad,.hole .bool,.hole ad,.hole .str,.hole ad,.arr 3,.arr 2,.arr 4],.box [.hole ad,.hole .bool,.hole ad,.hole .str,.hole ad,.eI,.eI,.eI],.arr (.nm 6),.arr (.nm 6),.arr (.nm 7)]⟩,[],[],[ad,ad,ad,.bool,ad,.str,ad,ad,.bool,ad,.str,ad,a' 6,a' 6,a' 7],[⟨.exit 2,⟨[(1,eb 0 0),(2,eb 1 0)],[.box [.hole ad,.hole .bool,.hole ad,.hole .str,.hole ad,.arr 2,.arr 3,.arr 4],.box [.hole ad,.hole .bool,.hole ad,.hole .str,.hole ad,.eI,.eI,.eI],.arr (.nm 6),.arr (.nm 6),.arr (.nm 7)]⟩,[],[ad,.bool,ad,.str,ad,ad,.bool,ad,.str,ad,a' 6,a' 6,a' 7]⟩],[]⟩
def aAc :fu:=⟨212,[.row 6],[],[.nm 6],.row 6,[],[.nm 6],[aIY,aIZ]⟩
def aIb :hU:=⟨0,⟨[(0,eb 0 0),(4,eb 2 0),(6,eb 3 0),(8,ak (a' 9)),(10,eb 4 0),(39,ak (a' 5)),(40,ak ad),(41,ak ad)],[.box [.hole (a' 3),.arr 5,.hole eJ,.hole ad],.gone,.iy 3,.box [.hole ad,.hole .bool,.hole ad,.hole .str,.hole ad,.eI,.eI,.eI],.box [.hole ad,.hole .bool,.hole ad,.hole .str,.hole ad,.eI,.arr 6,.eI],.arr ad,.arr (.nm 6)]⟩,[(.via 10 6,.nm 6)],[(.via 10 6,.nm 6)],[a' 9,a' 5,ad,ad,a' 3,eJ,ad,.nm 3,ad,.bool,ad,.str,ad,ad,.bool,ad,.str,ad,eJ,a' 6],[⟨.ret,⟨[(6,eb 2 0),(7,ak .bool)],[.box [.hole (a' 3),.arr 3,.hole eJ,.hole ad],.gone,.iy 6,.arr ad]⟩,[],[.bool,a' 3,eJ,ad,.nm 6,eJ]⟩,⟨.exit 0,⟨[(0,eb 0 0),(4,eb 2 0),(6,eb 3 0),(8,ak (a' 9)),(10,eb 4 0)],[.box [.hole (a' 3),.arr 5,.hole eJ,.hole ad],.gone,.iy 3,.box [.hole ad,.hole .bool,.hole ad,.hole .str,.hole ad,.eI,.eI,.eI],.box [.hole ad,.hole .bool,.hole ad,.hole .str,.hole ad,.eI,.arr 6,.eI],.arr ad,.arr (.nm 6)]⟩,[],[a' 9,a' 3,eJ,ad,.nm 3,ad,.bool,ad,.str,ad,ad,.bool,ad,.str,ad,eJ,a' 6]⟩],[]⟩
def aIc :hU:=⟨1,⟨[(0,eb 0 0),(4,eb 2 0),(6,eb 3 0),(10,eb 4 0),(117,ak (a' 9)),(118,ak ad),(119,ak ad)],[.box [.hole (a' 3),.arr 5,.hole eJ,.hole ad],.gone,.iy 3,.box [.hole ad,.hole .bool,.hole ad,.hole .str,.hole ad,.eI,.eI,.eI],.box [.hole ad,.hole .bool,.hole ad,.hole .str,.hole ad,.eI,.arr 6,.arr 7],.arr ad,.arr (.nm 6),.arr (.nm 7)]⟩,[(.via 10 7,.nm 7)],[(.via 10 7,.nm 7)],[a' 9,ad,ad,a' 3,eJ,ad,.nm 3,ad,.bool,ad,.str,ad,ad,.bool,ad,.str,ad,eJ,a' 6,a' 7],[⟨.ret,⟨[(6,eb 2 0),(7,ak .bool)],[.box [.hole (a' 3),.arr 3,.arr 4,.hole ad],.gone,.iy 6,.arr ad,.arr ad]⟩,[],[.bool,a' 3,ad,.nm 6,eJ,eJ]⟩,⟨.exit 3,⟨[(6,eb 2 0),(10,eb 3 0)],[.box [.hole (a' 3),.arr 4,.hole eJ,.hole ad],.gone,.box [.hole ad,.hole .bool,.hole ad,.hole .str,.hole ad,.eI,.eI,.eI],.box [.hole ad,.hole .bool,.hole ad,.hole .str,.hole ad,.eI,.arr 5,.arr 6],.arr ad,.arr (.nm 6),.arr (.nm 7)]⟩,[],[a' 3,eJ,ad,ad,.bool,ad,.str,ad,ad,.bool,ad,.str,ad,eJ,a' 6,a' 7]⟩],[]⟩
def az6 :fu:=⟨182,[eb 0 0,.row 3,ak .str],[.box [.hole (a' 3),.arr 1,.hole eJ,.hole ad],.arr ad],[.nm 3,.str,a' 3,eJ,ad,eJ],.fz [.row 6,ak .bool],[.box [.hole (a' 3),.arr 2,.hole eJ,.hole ad],.gone,.arr ad],[.nm 6,.bool,a' 3,eJ,ad,eJ],[aIb,aIc]⟩
def azQ :fu:=⟨139,[eb 0 0,ak ad,ak .str],[.box [.hole (a' 3),.arr 1,.hole eJ,.hole ad],.arr ad],[ad,.str,a' 3,eJ,ad,eJ],.fz [.row 6,ak .bool],[.box [.hole (a' 3),.arr 2,.hole eJ,.hole ad],.gone,.arr ad],[.nm 6,.bool,a' 3,eJ,ad,eJ],[]⟩
def aAF :fu:=⟨83,[.row 8,ak ad,ak .str],[],[.nm 8,ad,.str],.fz [.row 6,.row 10,ak ad],[],[.nm 6,.nm 10,ad],[]⟩
def aAq :fu:=⟨50,[.row 8,ak ad,ak .str],[],[.nm 8,ad,.str],.fz [.row 6,ak ad],[],[.nm 6,ad],[]⟩
def aAA :fu:=⟨77,[.row 8,ak ad],[],[.nm 8,ad],ak ad,[],[ad],[]⟩
def am6 :fu:=⟨193,[.row 6],[],[.nm 6],.row 6,[],[.nm 6],[]⟩
def amW :fu:=⟨148,[.row 6],[],[.nm 6],ak .bool,[],[.bool],[]⟩
def amX :fu:=⟨149,[ak ad],[],[ad],ak .bool,[],[.bool],[]⟩
def acx :fu:=⟨194,[.row 6,eb 0 0,eb 1 0,eb 2 0],[k4 (a' 3),k4 ad,k4 .bool],[.nm 6,a' 3,ad,.bool],ak .bool,[k4 (a' 3),k4 ad,k4 .bool],[.bool,a' 3,ad,.bool],[]⟩
def ad4 :hU:=⟨0,⟨[(0,ak (a' 6)),(1,.c (.fn 194 [0,1,2])),(7,ak ad),(8,ak ad)],[k4 (a' 3),k4 ad,k4 .bool]⟩,[],[],[a' 6,ad,ad,a' 3,ad,.bool],[⟨.ret,⟨[(4,ak ad)],[k4 (a' 3),k4 ad,k4 .bool]⟩,[],[ad,a' 3,ad,.bool]⟩,⟨.exit 0,⟨[],[k4 (a' 3),k4 ad,k4 .bool]⟩,[],[a' 3,ad,.bool]⟩],[]⟩
def abP :fu:=⟨192,[ak (a' 6),.c (.fn 194 [0,1,2])],[k4 (a' 3),k4 ad,k4 .bool],[a' 6,a' 3,ad,.bool],ak ad,[k4 (a' 3),k4 ad,k4 .bool],[ad,a' 3,ad,.bool],[ad4]⟩
def abQ :fu:=⟨144,[ak (a' 6),.c (.fn 194 [0,1,2])],[k4 (a' 3),k4 ad,k4 .bool],[a' 6,a' 3,ad,.bool],ak .bool,[k4 (a' 3),k4 ad,k4 .bool],[.bool,a' 3,ad,.bool],[]⟩
def acw :fu:=⟨150,[.row 8,ak ad,ak (a' 6),ak .bool],[],[.nm 8,ad,a' 6,.bool],ak .bool,[],[.bool],[]⟩
def av7 :hU:=⟨0,⟨[(3,ak .bool),(4,eb 0 0),(6,eb 1 0),(9,eb 2 0),(111,ak (a' 7)),(112,ak ad),(113,ak ad)],[k4 (a' 3),.iy 6,.box [.hole ad,.hole .str,.hole ad,.hole ad,.hole ad,.hole (a' 4),.hole (a' 5),.hole ad,.hole ad,.hole .bool]]⟩,[],[],[.bool,a' 7,ad,ad,a' 3,.nm 6,ad,.str,ad,ad,ad,a' 4,a' 5,ad,ad,.bool],[Jh 8 .bool,⟨.exit 1,⟨[(3,ak .bool),(4,eb 0 0),(6,eb 1 0),(9,eb 2 0)],[k4 (a' 3),.box [.hole ad,.hole .bool,.hole ad,.hole .str,.hole ad,.hole (a' 6),.hole (a' 6),.hole (a' 7)],.box [.hole ad,.hole .str,.hole ad,.hole ad,.hole ad,.hole (a' 4),.hole (a' 5),.hole ad,.hole ad,.hole .bool]]⟩,[],[.bool,a' 3,ad,.bool,ad,.str,ad,a' 6,a' 6,a' 7,ad,.str,ad,ad,ad,a' 4,a' 5,ad,ad,.bool]⟩],[]⟩
def aeT :hU:=⟨1,⟨[(3,ak .bool),(4,eb 0 0),(6,eb 1 0),(150,ak (a' 5)),(151,ak ad),(152,ak ad)],[k4 (a' 3),.box [.hole ad,.hole .bool,.hole ad,.hole .str,.hole ad,.hole (a' 6),.hole (a' 6),.hole (a' 7)]]⟩,[],[],[.bool,a' 5,ad,ad,a' 3,ad,.bool,ad,.str,ad,a' 6,a' 6,a' 7],[Jh 8 .bool,Mc 3],[]⟩
def av8 :hU:=⟨2,⟨[(3,ak .bool),(4,eb 0 0),(6,eb 1 0),(9,eb 2 0),(20,ak ad)],[k4 (a' 3),.iy 6,.box [.hole ad,.hole .str,.hole ad,.hole ad,.hole ad,.hole (a' 4),.hole (a' 5),.hole ad,.hole ad,.hole .bool]]⟩,[],[],[.bool,ad,a' 3,.nm 6,ad,.str,ad,ad,ad,a' 4,a' 5,ad,ad,.bool],[Jh 8 .bool,⟨.exit 5,⟨[(3,ak .bool),(4,eb 0 0),(6,eb 1 0),(9,eb 2 0)],[k4 (a' 3),.iy 6,.box [.hole ad,.hole .str,.hole ad,.hole ad,.hole ad,.hole (a' 4),.hole (a' 5),.hole ad,.hole ad,.hole .bool]]⟩,[],[.bool,a' 3,.nm 6,ad,.str,ad,ad,ad,a' 4,a' 5,ad,ad,.bool]⟩],[]⟩
def Xg :fu:=⟨112,[.row 8,ak ad,.row 6,ak .bool],[],[.nm 8,ad,.nm 6,.bool],ak .bool,[],[.bool],[av7,aeT,av8]⟩
def anD :fu:=⟨86,[.row 8,ak ad,.row 6],[],[.nm 8,ad,.nm 6],ak .bool,[],[.bool],[]⟩
def aAC :fu:=⟨81,[.row 8,ak ad,.row 6],[],[.nm 8,ad,.nm 6],ak ad,[],[ad],[]⟩
def aId :hU:=⟨0,⟨[(0,ak (.int .u64)),(3,eb 0 0),(4,ak ad)],[.arr (.int .u8)]⟩,[],[],[.int .u64,ad,.slice (.int .u8)],[⟨.exit 0,⟨[(3,eb 0 0),(4,ak ad)],[.arr (.int .u8)]⟩,[],[ad,.slice (.int .u8)]⟩],[]⟩
def azK :fu:=⟨132,[ak (.int .u64)],[],[.int .u64],ak .str,[],[.str],[aId]⟩
def aGc :hU:=⟨0,⟨[(1,ak (a' 6)),(2,.c (.fn 205 [])),(15,ak (a' 6)),(16,ak ad),(17,ak ad)],[]⟩,[],[],[a' 6,a' 6,ad,ad],[Jh 6 .bool,Mc 0],[]⟩
def aIe :fu:=⟨225,[ak (a' 6),ak (a' 6),.c (.fn 205 [])],[],[a' 6,a' 6],ak .bool,[],[.bool],[aGc]⟩
def az' :fu:=⟨205,[.row 6,.row 6],[],[.nm 6,.nm 6],ak .bool,[],[.bool],[]⟩
def azX :fu:=⟨170,[.row 5,.row 6],[],[.nm 5,.nm 6],ak .bool,[],[.bool],[]⟩
def aIf :hU:=⟨0,⟨[(0,ak (.int .u64)),(3,eb 0 0),(4,ak ad)],[.arr (.int .u8)]⟩,[],[],[.int .u64,ad,.slice (.int .u8)],[⟨.exit 0,⟨[(0,ak (.int .u64)),(3,eb 0 0),(4,ak ad)],[.arr (.int .u8)]⟩,[],[.int .u64,ad,.slice (.int .u8)]⟩],[]⟩
def azZ :fu:=⟨175,[ak (.int .u64)],[],[.int .u64],ak .str,[],[.str],[aIf]⟩
def azO :fu:=⟨137,[ak .str],[],[.str],ak .str,[],[.str],[]⟩
def azY :fu:=⟨171,[ak ad,ak .bool,ak .str],[],[ad,.bool,.str],ak .str,[],[.str],[]⟩
def azN :fu:=⟨136,[eb 0 0,ak .str],[.h4 200 ((.l' 1)),.buf 5],[.str,.str],.fz [ak ad,.c (.dead)],[.h4 200 ((.l' 2)),.gone,.buf 5],[ad,.str],[]⟩
def azP :fu:=⟨138,[eb 0 0],[.h4 200 ((.l' 1)),.buf 5],[.str],ak .str,[.h4 200 ((.l' 1)),.gone],[.str],[]⟩
def aIg :hU:=⟨0,⟨[(0,eb 0 0),(3,ak ad),(6,eb 1 0),(9,.c (.arr 2)),(18,ak (a' 5)),(19,ak ad),(20,ak ad)],[.box [.hole (a' 3),.hole ad],.iy 6,.arr (.nm 11)]⟩,[(.slot 9,.nm 11)],[(.slot 9,.nm 11)],[ad,a' 5,ad,ad,a' 3,ad,.nm 6,a' 11],[⟨.exit 0,⟨[(6,eb 1 0),(9,.c (.arr 2))],[.box [.hole (a' 3),.hole ad],.iy 6,.arr (.nm 11)]⟩,[],[a' 3,ad,.nm 6,a' 11]⟩],[]⟩
def aIh :hU:=⟨1,⟨[(9,.c (.arr 1)),(57,ak (a' 7)),(58,ak ad),(59,ak ad)],[.box [.hole (a' 3),.hole ad],.arr (.nm 11)]⟩,[],[],[a' 7,ad,ad,a' 3,ad,a' 11],[⟨.exit 2,⟨[(9,.c (.arr 1))],[.box [.hole (a' 3),.hole ad],.arr (.nm 11)]⟩,[],[a' 3,ad,a' 11]⟩],[]⟩
def aIi :hU:=⟨2,⟨[(14,eb 1 0),(77,.c (.arr 2)),(78,ak ad),(79,ak ad)],[.box [.hole (a' 3),.hole ad],.h4 200 ((.l' 3)),.arr (.nm 11),.buf 5]⟩,[],[],[ad,ad,a' 3,ad,a' 11,.str],[⟨.exit 4,⟨[(14,eb 1 0)],[.box [.hole (a' 3),.hole ad],.h4 200 ((.l' 2)),.buf 5]⟩,[],[a' 3,ad,.str]⟩],[]⟩
def azL :fu:=⟨134,[eb 0 0,.row 3,.row 6,ak ad],[.box [.hole (a' 3),.hole ad]],[.nm 3,.nm 6,ad,a' 3,ad],ak .str,[.box [.hole (a' 3),.hole ad]],[.str,a' 3,ad],[aIg,aIh,aIi]⟩
def azM :fu:=⟨135,[eb 0 0,.row 3,.row 6,ak ad],[.box [.hole (a' 3),.hole ad]],[.nm 3,.nm 6,ad,a' 3,ad],ak .str,[.box [.hole (a' 3),.hole ad]],[.str,a' 3,ad],[]⟩
def aAE :hU:=⟨0,⟨[(0,eb 0 0),(3,ak ad),(6,eb 1 0),(9,eb 2 0),(10,eb 3 0),(84,ak (a' 6)),(85,ak ad),(86,ak ad)],[.box [.hole (a' 3),.hole ad],.iy 6,.iy 3,.h4 200 ((.l' 4)),.buf 5]⟩,[],[],[ad,a' 6,ad,ad,a' 3,ad,.nm 6,.nm 3,.str],[⟨.exit 1,⟨[(10,eb 1 0)],[.box [.hole (a' 3),.hole ad],.h4 200 ((.l' 2)),.buf 5]⟩,[],[a' 3,ad,.str]⟩],[]⟩
def aAD :fu:=⟨82,[eb 0 0,ak ad,.row 6,ak ad],[.box [.hole (a' 3),.hole ad]],[ad,.nm 6,ad,a' 3,ad],ak .str,[.box [.hole (a' 3),.hole ad]],[.str,a' 3,ad],[aAE]⟩
def aiY :fu:=⟨49,[.row 8,ak ad,.row 6],[],[.nm 8,ad,.nm 6],.fz [ak .str,ak ad],[],[.str,ad],[]⟩
def Us :fu:=⟨12,[.row 8,ak ad,ak .str],[],[.nm 8,ad,.str],.fz [ak .str,ak ad],[],[.str,ad],[]⟩
def anq :fu:=⟨48,[ak ad,ak ad,ak (a' 7)],[],[ad,ad,a' 7],.row 6,[],[.nm 6],[]⟩
def anC :fu:=⟨85,[.row 8,ak ad],[],[.nm 8,ad],ak ad,[],[ad],[]⟩
def anr :fu:=⟨53,[.row 8,ak ad,.row 6],[],[.nm 8,ad,.nm 6],ak ad,[],[ad],[]⟩
def anE :fu:=⟨87,[.row 3,.row 6],[],[.nm 3,.nm 6],ak .bool,[],[.bool],[]⟩
def amV :fu:=⟨145,[.row 6,eb 0 0,eb 1 0],[k4 (a' 3),.iy 3],[.nm 6,a' 3,.nm 3],ak .bool,[k4 (a' 3),.iy 3],[.bool,a' 3,.nm 3],[]⟩
def avO :hU:=⟨0,⟨[(0,ak (a' 6)),(1,.c (.fn 145 [0,1])),(7,ak ad),(8,ak ad)],[k4 (a' 3),.iy 3]⟩,[],[],[a' 6,ad,ad,a' 3,.nm 3],[⟨.ret,⟨[(4,ak ad)],[k4 (a' 3),.iy 3]⟩,[],[ad,a' 3,.nm 3]⟩,⟨.exit 0,⟨[],[k4 (a' 3),.iy 3]⟩,[],[a' 3,.nm 3]⟩],[]⟩
def alS :fu:=⟨192,[ak (a' 6),.c (.fn 145 [0,1])],[k4 (a' 3),.iy 3],[a' 6,a' 3,.nm 3],ak ad,[k4 (a' 3),.iy 3],[ad,a' 3,.nm 3],[avO]⟩
def alT :fu:=⟨144,[ak (a' 6),.c (.fn 145 [0,1])],[k4 (a' 3),.iy 3],[a' 6,a' 3,.nm 3],ak .bool,[k4 (a' 3),.iy 3],[.bool,a' 3,.nm 3],[]⟩
def anF :fu:=⟨88,[.row 8,.row 3,.row 6],[],[.nm 8,.nm 3,.nm 6],ak .bool,[],[.bool],[]⟩
def auC :hU:=⟨0,⟨[(2,eb 0 0),(3,eb 1 0),(5,.c (.arr 2)),(11,ak ad),(12,ak ad)],[.iy 3,.iy 6,.arr (.nm 12)]⟩,[(.slot 5,.nm 12)],[(.slot 5,.nm 12)],[ad,ad,.nm 3,.nm 6,a' 12],[⟨.exit 0,⟨[(5,.c (.arr 0))],[.arr (.nm 12)]⟩,[],[a' 12]⟩],[]⟩
def anG :fu:=⟨89,[.row 3,.row 6],[],[.nm 3,.nm 6],ak (a' 12),[],[a' 12],[auC]⟩
def aeF :hU:=⟨0,⟨[(3,ak eJ),(4,eb 1 0),(6,eb 2 0),(10,.c (.arr 3)),(39,ak (a' 12)),(40,ak ad),(41,ak ad)],[.gone,k4 (a' 3),.iy 6,.arr eJ]⟩,[(.slot 10,eJ)],[(.slot 10,eJ)],[eJ,a' 12,ad,ad,a' 3,.nm 6,.slice eJ],[⟨.exit 0,⟨[(10,.c (.arr 1))],[.gone,.arr eJ]⟩,[],[.slice eJ]⟩],[]⟩
def aam :fu:=⟨54,[.row 8,ak ad,.row 6,.c (.arr 0)],[.arr ad],[.nm 8,ad,.nm 6,eJ],ak (.slice eJ),[.gone],[.slice eJ],[aeF]⟩
def au3 :hU:=⟨0,⟨[(3,ak eJ),(4,eb 0 0),(6,eb 1 0),(10,.c (.arr 2)),(39,ak (a' 12)),(40,ak ad),(41,ak ad)],[k4 (a' 3),.iy 6,.arr eJ]⟩,[(.slot 10,eJ)],[(.slot 10,eJ)],[eJ,a' 12,ad,ad,a' 3,.nm 6,.slice eJ],[⟨.exit 0,⟨[(10,.c (.arr 0))],[.arr eJ]⟩,[],[.slice eJ]⟩],[]⟩
def ant :fu:=⟨54,[.row 8,ak ad,.row 6,ak eJ],[],[.nm 8,ad,.nm 6,eJ],ak (.slice eJ),[],[.slice eJ],[au3]⟩
def afb :fu:=⟨15,[.row 8,ak ad,.row 6],[],[.nm 8,ad,.nm 6],.fz [ak (.slice eJ),ak ad],[],[.slice eJ,ad],[]⟩
def anA :fu:=⟨67,[.row 8,ak ad,.row 6],[],[.nm 8,ad,.nm 6],ak .bool,[],[.bool],[]⟩
def afk :hU:=⟨0,⟨[(4,eb 0 0),(6,eb 1 0),(7,eb 2 0),(8,eb 3 0),(10,eb 4 0),(55,ak (a' 12)),(56,ak ad),(57,ak ad)],[k4 (a' 3),.iy 6,.iy 6,.box [.hole ad,.hole .bool,.hole ad,.hole .str,.hole ad,.eI,.eI,.eI],.box [.hole ad,.hole .bool,.hole ad,.hole .str,.hole ad,.hole (a' 6),.arr 5,.hole (a' 7)],.arr (.nm 6)]⟩,[],[],[a' 12,ad,ad,a' 3,.nm 6,.nm 6,ad,.bool,ad,.str,ad,ad,.bool,ad,.str,ad,a' 6,a' 7,a' 6],[⟨.exit 1,⟨[(8,eb 0 0),(10,eb 1 0)],[.box [.hole ad,.hole .bool,.hole ad,.hole .str,.hole ad,.eI,.eI,.eI],.box [.hole ad,.hole .bool,.hole ad,.hole .str,.hole ad,.hole (a' 6),.arr 2,.hole (a' 7)],.arr (.nm 6)]⟩,[],[ad,.bool,ad,.str,ad,ad,.bool,ad,.str,ad,a' 6,a' 7,a' 6]⟩],[]⟩
def aan :fu:=⟨68,[.row 8,ak ad,.row 6,.row 6],[],[.nm 8,ad,.nm 6,.nm 6],.row 6,[],[.nm 6],[afk]⟩
def afc :fu:=⟨27,[.row 8,ak ad,.row 6,.row 6],[],[.nm 8,ad,.nm 6,.nm 6],.fz [.row 6,ak ad],[],[.nm 6,ad],[]⟩
def aiX :fu:=⟨37,[.row 8,ak ad,ak .str],[],[.nm 8,ad,.str],ak .bool,[],[.bool],[]⟩
def aiW :fu:=⟨11,[],[],[],ak .bool,[],[.bool],[]⟩
def atO :fu:=⟨115,[.row 3],[],[.nm 3],.row 3,[],[.nm 3],[]⟩
def aeU :hU:=⟨0,⟨[(0,ak (a' 6)),(1,ak (a' 6)),(5,ak ad)],[]⟩,[],[],[a' 6,a' 6,ad],[Jh 4 .bool,Mc 0],[]⟩
def afa :fu:=⟨105,[ak (a' 6),ak (a' 6)],[],[a' 6,a' 6],ak .bool,[],[.bool],[aeU]⟩
def aut :hU:=⟨0,⟨[(2,eb 0 0),(3,eb 1 0),(5,ak ad)],[.iy 6,.iy 6]⟩,[],[],[ad,.nm 6,.nm 6],[Jh 4 .bool,⟨.exit 0,⟨[(2,eb 0 0),(3,eb 1 0)],[.iy 6,.iy 6]⟩,[],[.nm 6,.nm 6]⟩],[]⟩
def acC :fu:=⟨65,[.row 6,.row 6],[],[.nm 6,.nm 6],ak .bool,[],[.bool],[aut]⟩
def atU :fu:=⟨152,[.row 5,.row 5],[],[.nm 5,.nm 5],ak .bool,[],[.bool],[]⟩
def av9 :hU:=⟨0,⟨[(2,eb 0 0),(3,eb 1 0),(5,ak ad)],[.iy 3,.iy 3]⟩,[],[],[ad,.nm 3,.nm 3],[Jh 4 .bool,⟨.exit 0,⟨[(2,eb 0 0),(3,eb 1 0)],[.iy 3,.iy 3]⟩,[],[.nm 3,.nm 3]⟩],[]⟩
def av' :hU:=⟨1,⟨[(2,eb 0 0),(3,eb 1 0),(6,ak ad)],[.iy 3,.iy 3]⟩,[],[],[ad,.nm 3,.nm 3],[Jh 4 .bool,Mc 2],[]⟩
def atN :fu:=⟨114,[.row 3,.row 3],[],[.nm 3,.nm 3],ak .bool,[],[.bool],[av9,av']⟩
def atV :fu:=⟨153,[ak (.int .u8)],[],[.int .u8],ak .bool,[],[.bool],[]⟩
def atW :fu:=⟨154,[ak (.int .u8)],[],[.int .u8],ak .bool,[],[.bool],[]⟩
def awa :hU:=⟨0,⟨[(0,ak .str),(3,ak ad)],[]⟩,[],[],[.str,ad],[Jh 2 .bool,Mc 0],[]⟩
def atP :fu:=⟨116,[ak .str],[],[.str],ak .bool,[],[.bool],[awa]⟩
def atX :fu:=⟨155,[ak ad,ak ad],[],[ad,ad],ak .bool,[],[.bool],[]⟩
def avP :hU:=⟨0,⟨[(0,ak (a' 4)),(4,ak ad),(5,ak ad)],[]⟩,[],[],[a' 4,ad,ad],[Jh 2 .bool,⟨.exit 2,⟨[(0,ak (a' 4)),(4,ak ad)],[]⟩,[],[a' 4,ad]⟩],[]⟩
def awb :hU:=⟨0,⟨[(0,ak (a' 4)),(3,ak ad),(4,ak ad)],[]⟩,[],[],[a' 4,ad,ad],[Jh 2 .bool,⟨.exit 0,⟨[(0,ak (a' 4))],[]⟩,[],[a' 4]⟩],[avP]⟩
def atQ :fu:=⟨117,[ak (a' 4)],[],[a' 4],ak .bool,[],[.bool],[awb]⟩
def avQ :hU:=⟨0,⟨[(0,ak (a' 5)),(1,ak .bool),(6,ak ad),(7,eb 0 0),(8,ak ad)],[.iy 5]⟩,[],[],[a' 5,.bool,ad,ad,.nm 5],[Jh 4 .bool,⟨.exit 2,⟨[(0,ak (a' 5)),(1,ak .bool),(6,ak ad),(7,eb 0 0)],[.iy 5]⟩,[],[a' 5,.bool,ad,.nm 5]⟩],[]⟩
def awc :hU:=⟨0,⟨[(0,ak (a' 5)),(1,ak .bool),(5,ak ad),(6,ak ad)],[]⟩,[],[],[a' 5,.bool,ad,ad],[Jh 4 .bool,⟨.exit 0,⟨[(0,ak (a' 5)),(1,ak .bool)],[]⟩,[],[a' 5,.bool]⟩],[avQ]⟩
def atS :fu:=⟨118,[ak (a' 5),ak .bool],[],[a' 5,.bool],ak .bool,[],[.bool],[awc]⟩
def auy :fu:=⟨73,[.row 3],[],[.nm 3],ak .bool,[],[.bool],[]⟩
def auA :hU:=⟨0,⟨[(1,eb 0 0),(3,.c (.arr 1)),(4,ak ad)],[.iy 3,.arr ad]⟩,[(.slot 3,ad)],[(.slot 3,ad)],[ad,.nm 3,eJ],[⟨.exit 0,⟨[(1,eb 0 0),(3,.c (.arr 1))],[.iy 3,.arr ad]⟩,[],[.nm 3,eJ]⟩],[]⟩
def auz :fu:=⟨74,[.row 3],[],[.nm 3],ak eJ,[],[eJ],[auA]⟩
def au4 :hU:=⟨0,⟨[(1,eb 0 0),(3,ak ad),(4,eb 1 0),(5,ak ad)],[k4 (a' 3),.box [.hole ad,.hole .str,.hole ad,.hole ad,.hole ad,.hole (a' 4),.hole (a' 5),.hole ad,.hole ad,.hole .bool]]⟩,[],[],[ad,ad,a' 3,ad,.str,ad,ad,ad,a' 4,a' 5,ad,ad,.bool],[Jh 2 ad,⟨.exit 2,⟨[(1,eb 0 0),(3,ak ad),(4,eb 1 0)],[k4 (a' 3),.box [.hole ad,.hole .str,.hole ad,.hole ad,.hole ad,.hole (a' 4),.hole (a' 5),.hole ad,.hole ad,.hole .bool]]⟩,[],[ad,a' 3,ad,.str,ad,ad,ad,a' 4,a' 5,ad,ad,.bool]⟩],[]⟩
def au5 :hU:=⟨1,⟨[(1,eb 0 0),(3,ak ad),(4,eb 1 0),(6,ak eJ),(7,ak ad)],[k4 (a' 3),.box [.hole ad,.hole .str,.hole ad,.hole ad,.hole ad,.hole (a' 4),.hole (a' 5),.hole ad,.hole ad,.hole .bool]]⟩,[],[],[ad,eJ,ad,a' 3,ad,.str,ad,ad,ad,a' 4,a' 5,ad,ad,.bool],[Jh 2 ad,⟨.exit 4,⟨[(1,eb 0 0),(3,ak ad),(4,eb 1 0)],[k4 (a' 3),.box [.hole ad,.hole .str,.hole ad,.hole ad,.hole ad,.hole (a' 4),.hole (a' 5),.hole ad,.hole ad,.hole .bool]]⟩,[],[ad,a' 3,ad,.str,ad,ad,ad,a' 4,a' 5,ad,ad,.bool]⟩],[]⟩
def aul :hU:=⟨0,⟨[(1,eb 0 0),(3,ak ad)],[k4 (a' 3)]⟩,[],[],[ad,a' 3],[Jh 2 ad,Mc 0],[au4,au5]⟩
def auk :fu:=⟨36,[.row 8],[],[.nm 8],ak ad,[],[ad],[aul]⟩
def auG :hU:=⟨0,⟨[(1,ak ad),(2,eb 0 0),(6,ak ad)],[.iy 3]⟩,[],[],[ad,ad,.nm 3],[⟨.ret,⟨[(4,ak ad),(5,ak .bool)],[]⟩,[],[ad,.bool]⟩,Mc 0],[]⟩
def auF :fu:=⟨92,[.row 3,ak ad],[],[.nm 3,ad],.fz [ak ad,ak .bool],[],[ad,.bool],[auG]⟩
def auE :hU:=⟨0,⟨[(1,ak ad),(2,eb 0 0),(6,ak ad)],[.iy 3]⟩,[],[],[ad,ad,.nm 3],[⟨.ret,⟨[(4,ak ad),(5,ak .bool)],[]⟩,[],[ad,.bool]⟩,Mc 0],[]⟩
def auD :fu:=⟨91,[.row 3,ak ad],[],[.nm 3,ad],.fz [ak ad,ak .bool],[],[ad,.bool],[auE]⟩
def atT :fu:=⟨146,[ak .bool,ak .bool],[],[.bool,.bool],ak ad,[],[ad],[]⟩
def auN :fu:=⟨99,[ak ad],[],[ad],ak (.int .u64),[],[.int .u64],[]⟩
def auM :fu:=⟨97,[.row 6,.row 6],[],[.nm 6,.nm 6],ak ad,[],[ad],[]⟩
def auH :fu:=⟨93,[.row 6],[],[.nm 6],ak .bool,[],[.bool],[]⟩
def auI :fu:=⟨94,[ak ad,ak .bool],[],[ad,.bool],ak .bool,[],[.bool],[]⟩
def auK :hU:=⟨0,⟨[(1,ak (a' 7)),(2,eb 0 0),(5,ak ad)],[.iy 3]⟩,[],[],[a' 7,ad,.nm 3],[Jh 4 .bool,Mc 0],[]⟩
def auJ :fu:=⟨95,[.row 3,ak (a' 7)],[],[.nm 3,a' 7],ak .bool,[],[.bool],[auK]⟩
def afr :hU:=⟨0,⟨[(1,ak ad),(2,ak (a' 6)),(3,ak .bool),(4,eb 0 0),(9,ak ad)],[k4 (a' 3)]⟩,[],[],[ad,a' 6,.bool,ad,a' 3],[Jh 8 .bool,Mc 0],[]⟩
def afq :fu:=⟨96,[.row 8,ak ad,ak (a' 6),ak .bool],[],[.nm 8,ad,a' 6,.bool],ak .bool,[],[.bool],[afr]⟩
def afg :hU:=⟨0,⟨[(3,ak .bool),(4,eb 0 0),(6,eb 1 0),(9,eb 2 0),(12,ak ad)],[k4 (a' 3),.iy 6,.box [.hole ad,.hole .str,.hole ad,.hole ad,.hole ad,.hole (a' 4),.hole (a' 5),.hole ad,.hole ad,.hole .bool]]⟩,[],[],[.bool,ad,a' 3,.nm 6,ad,.str,ad,ad,ad,a' 4,a' 5,ad,ad,.bool],[Jh 8 .bool,Mc 1],[]⟩
def aus :hU:=⟨1,⟨[(6,eb 0 0),(15,ak ad)],[.iy 6]⟩,[],[],[ad,.nm 6],[Jh 8 .bool,Mc 3],[]⟩
def YH :fu:=⟨60,[.row 8,ak ad,.row 6,ak .bool],[],[.nm 8,ad,.nm 6,.bool],ak .bool,[],[.bool],[afg,aus]⟩
def aue :fu:=⟨29,[.row 8,ak ad,.row 6],[],[.nm 8,ad,.nm 6],ak .bool,[],[.bool],[]⟩
def aun :fu:=⟨55,[.row 8,ak ad,.row 6],[],[.nm 8,ad,.nm 6],ak ad,[],[ad],[]⟩
def te :fu:=⟨3,[.row 0,ak ad,ak .str],[],[.nm 0,ad,.str],ak .bool,[],[.bool],[]⟩
def Xh :fu:=⟨9,[.row 0,ak ad,ak .str],[],[.nm 0,ad,.str],ak .bool,[],[.bool],[]⟩
def afi :hU:=⟨0,⟨[(3,eb 0 0),(5,eb 1 0),(6,eb 2 0),(9,eb 3 0),(49,ak (a' 12)),(50,ak ad),(51,ak ad)],[k4 (a' 3),.iy 6,.box [.hole ad,.hole .bool,.hole ad,.hole .str,.hole ad,.eI,.eI,.eI],.box [.hole ad,.hole .bool,.hole ad,.hole .str,.hole ad,.arr 4,.arr 5,.eI],.arr (.nm 6),.arr (.nm 6)]⟩,[(.via 9 6,.nm 6)],[(.via 9 6,.nm 6)],[a' 12,ad,ad,a' 3,.nm 6,ad,.bool,ad,.str,ad,ad,.bool,ad,.str,ad,a' 6,a' 6],[⟨.ret,⟨[(6,eb 0 0),(7,ak .bool)],[.box [.hole ad,.hole .bool,.hole ad,.hole .str,.hole ad,.eI,.eI,.eI]]⟩,[],[.bool,ad,.bool,ad,.str,ad]⟩,⟨.exit 0,⟨[(6,eb 0 0),(9,eb 1 0)],[.box [.hole ad,.hole .bool,.hole ad,.hole .str,.hole ad,.eI,.eI,.eI],.box [.hole ad,.hole .bool,.hole ad,.hole .str,.hole ad,.arr 2,.arr 3,.eI],.arr (.nm 6),.arr (.nm 6)]⟩,[],[ad,.bool,ad,.str,ad,ad,.bool,ad,.str,ad,a' 6,a' 6]⟩],[]⟩
def acA :fu:=⟨63,[.row 8,ak ad,.row 6],[],[.nm 8,ad,.nm 6],.fz [.row 6,ak .bool],[],[.nm 6,.bool],[afi]⟩
def aua :fu:=⟨23,[.row 8,ak ad,.row 6],[],[.nm 8,ad,.nm 6],.fz [.row 6,ak ad],[],[.nm 6,ad],[]⟩
def atM :fu:=⟨104,[.row 6],[],[.nm 6],.agg [.hole ad,.hole .bool,.hole ad,.hole .str,.hole ad,.arr 0,.arr 1,.arr 2],[.arr (.nm 6),.arr (.nm 6),.arr (.nm 7)],[ad,.bool,ad,.str,ad,a' 6,a' 6,a' 7],[]⟩
def afj :hU:=⟨0,⟨[(1,eb 0 0),(2,eb 1 0),(3,ak ad)],[.box [.hole ad,.hole .bool,.hole ad,.hole .str,.hole ad,.arr 2,.arr 3,.hole (a' 7)],.box [.hole ad,.hole .bool,.hole ad,.hole .str,.hole ad,.eI,.eI,.eI],.arr (.nm 6),.arr (.nm 6)]⟩,[],[],[ad,ad,.bool,ad,.str,ad,a' 7,ad,.bool,ad,.str,ad,a' 6,a' 6],[⟨.exit 0,⟨[(1,eb 0 0),(2,eb 1 0)],[.box [.hole ad,.hole .bool,.hole ad,.hole .str,.hole ad,.arr 2,.arr 3,.hole (a' 7)],.box [.hole ad,.hole .bool,.hole ad,.hole .str,.hole ad,.eI,.eI,.eI],.arr (.nm 6),.arr (.nm 6)]⟩,[],[ad,.bool,ad,.str,ad,a' 7,ad,.bool,ad,.str,ad,a' 6,a' 6]⟩],[]⟩
def acB :fu:=⟨64,[.row 6],[],[.nm 6],.row 6,[],[.nm 6],[afj]⟩
def at7 :fu:=⟨18,[.row 8,ak ad,.row 6],[],[.nm 8,ad,.nm 6],ak .bool,[],[.bool],[]⟩
def aub :fu:=⟨24,[.row 8,ak ad,.row 6],[],[.nm 8,ad,.nm 6],.fz [.row 6,ak ad],[],[.nm 6,ad],[]⟩
def aff :fu:=⟨6,[.row 15],[],[.nm 15],ak .bool,[],[.bool],[]⟩
def au6 :hU:=⟨0,⟨[(3,eb 0 0),(5,eb 1 0),(7,.c (.arr 2)),(8,eb 3 0),(9,ak ad),(10,ak ad),(14,ak (.slice eJ)),(15,ak ad)],[k4 (a' 3),.iy 6,.arr eJ,.iy 3]⟩,[],[],[ad,ad,.slice eJ,ad,a' 3,.nm 6,.slice eJ,.nm 3],[⟨.exit 2,⟨[(3,eb 0 0),(5,eb 1 0),(7,.c (.arr 2)),(8,eb 3 0),(9,ak ad)],[k4 (a' 3),.iy 6,.arr eJ,.iy 3]⟩,[],[ad,a' 3,.nm 6,.slice eJ,.nm 3]⟩],[]⟩
def afd :hU:=⟨0,⟨[(3,eb 0 0),(5,eb 1 0),(7,.c (.arr 2)),(8,eb 3 0),(9,ak ad)],[k4 (a' 3),.iy 6,.arr eJ,.iy 3]⟩,[],[],[ad,a' 3,.nm 6,.slice eJ,.nm 3],[⟨.exit 0,⟨[(7,.c (.arr 0))],[.arr eJ]⟩,[],[.slice eJ]⟩],[au6]⟩
def acy :fu:=⟨56,[.row 8,ak ad,.row 6],[],[.nm 8,ad,.nm 6],ak (.slice eJ),[],[.slice eJ],[afd]⟩
def aup :hU:=⟨0,⟨[(1,ak ad),(3,ak eJ),(4,eb 0 0),(6,eb 1 0),(8,eb 2 0),(11,ak ad)],[k4 (a' 3),.iy 6,.box [.hole ad,.hole .bool,.hole ad,.hole .str,.hole ad,.eI,.eI,.eI]]⟩,[],[],[ad,eJ,ad,a' 3,.nm 6,ad,.bool,ad,.str,ad],[⟨.ret,⟨[(8,eb 0 0),(9,ak ad),(10,ak ad)],[.box [.hole ad,.hole .bool,.hole ad,.hole .str,.hole ad,.eI,.eI,.eI]]⟩,[],[ad,ad,ad,.bool,ad,.str,ad]⟩,⟨.exit 0,⟨[(1,ak ad),(6,eb 0 0),(8,eb 1 0)],[.iy 6,.box [.hole ad,.hole .bool,.hole ad,.hole .str,.hole ad,.eI,.eI,.eI]]⟩,[],[ad,.nm 6,ad,.bool,ad,.str,ad]⟩],[]⟩
def auo :fu:=⟨57,[.row 8,ak ad,.row 6,ak eJ],[],[.nm 8,ad,.nm 6,eJ],.fz [.row 6,ak ad,ak ad],[],[.nm 6,ad,ad],[aup]⟩
def afe :hU:=⟨0,⟨[(3,eb 0 0),(5,eb 1 0),(7,eb 2 0),(10,ak ad)],[k4 (a' 3),.iy 6,.iy 3]⟩,[],[],[ad,a' 3,.nm 6,.nm 3],[Jh 6 .bool,Mc 1],[]⟩
def acz :fu:=⟨58,[.row 8,ak ad,.row 6],[],[.nm 8,ad,.nm 6],ak .bool,[],[.bool],[afe]⟩
def at0 :hU:=⟨0,⟨[(1,ak ad),(3,eb 0 0),(5,eb 1 0),(9,.c (.arr 2)),(10,ak (.slice eJ)),(11,ak ad)],[k4 (a' 3),.iy 6,.arr eJ]⟩,[(.slot 9,eJ)],[(.slot 9,eJ)],[ad,.slice eJ,ad,a' 3,.nm 6,.slice eJ],[⟨.exit 0,⟨[(9,.c (.arr 0))],[.arr eJ]⟩,[],[.slice eJ]⟩],[]⟩
def atZ :fu:=⟨16,[.row 8,ak ad,.row 6],[],[.nm 8,ad,.nm 6],.fz [ak (.slice eJ),ak ad],[],[.slice eJ,ad],[at0]⟩
def aur :hU:=⟨0,⟨[(0,ak eJ),(1,ak eJ),(5,ak ad)],[]⟩,[],[],[eJ,eJ,ad],[Jh 4 .bool,Mc 0],[]⟩
def auq :fu:=⟨59,[ak eJ,ak eJ],[],[eJ,eJ],ak .bool,[],[.bool],[aur]⟩
def at6 :hU:=⟨0,⟨[(0,ak (.slice eJ)),(1,ak (.slice eJ)),(5,ak ad)],[]⟩,[],[],[.slice eJ,.slice eJ,ad],[Jh 4 .bool,Mc 0],[]⟩
def at1 :fu:=⟨17,[ak (.slice eJ),ak (.slice eJ)],[],[.slice eJ,.slice eJ],ak .bool,[],[.bool],[at6]⟩
def YG :fu:=⟨4,[.row 15],[],[.nm 15],ak .bool,[],[.bool],[]⟩
def afl :hU:=⟨0,⟨[(2,eb 0 0),(3,eb 1 0),(4,eb 2 0),(5,eb 3 0),(6,ak ad)],[.iy 6,.iy 6,.box [.hole ad,.hole .bool,.hole ad,.hole .str,.hole ad,.eI,.eI,.eI],.box [.hole ad,.hole .bool,.hole ad,.hole .str,.hole ad,.arr 4,.arr 5,.arr 6],.arr (.nm 6),.arr (.nm 6),.arr (.nm 7)]⟩,[],[],[ad,.nm 6,.nm 6,ad,.bool,ad,.str,ad,ad,.bool,ad,.str,ad,a' 6,a' 6,a' 7],[⟨.exit 1,⟨[(4,eb 0 0),(5,eb 1 0)],[.box [.hole ad,.hole .bool,.hole ad,.hole .str,.hole ad,.eI,.eI,.eI],.box [.hole ad,.hole .bool,.hole ad,.hole .str,.hole ad,.arr 2,.arr 3,.arr 4],.arr (.nm 6),.arr (.nm 6),.arr (.nm 7)]⟩,[],[ad,.bool,ad,.str,ad,ad,.bool,ad,.str,ad,a' 6,a' 6,a' 7]⟩],[]⟩
def aao :fu:=⟨69,[.row 6,.row 6],[],[.nm 6,.nm 6],.row 6,[],[.nm 6],[afl]⟩
def aud :fu:=⟨28,[.row 8,ak ad,.row 6,.row 6],[],[.nm 8,ad,.nm 6,.nm 6],.fz [.row 6,ak ad],[],[.nm 6,ad],[]⟩
def aAB :hU:=⟨0,⟨[(17,ak (.slice eJ)),(114,ak (.slice eJ)),(115,ak ad),(116,ak ad)],[]⟩,[],[],[.slice eJ,.slice eJ,ad,ad],[Jh 2 .bool,Mc 0],[]⟩
def auu :fu:=⟨7,[.row 16],[],[.nm 16],ak .bool,[],[.bool],[aAB]⟩
def aAv :hU:=⟨0,⟨[(1,eb 0 0),(4,ak ad),(8,ak .str),(10,.c (.arr 1)),(11,.c (.arr 2)),(57,ak (.slice (a' 18))),(58,ak ad),(59,ak ad)],[.iy 17,.arr (.nm 19),.arr (.nm 19)]⟩,[(.slot 10,.nm 19),(.slot 11,.nm 19)],[(.slot 10,.nm 19),(.slot 11,.nm 19)],[ad,.str,.slice (a' 18),ad,ad,.nm 17,a' 19,a' 19],[⟨.exit 0,⟨[(8,ak .str),(10,.c (.arr 0)),(11,.c (.arr 1))],[.arr (.nm 19),.arr (.nm 19)]⟩,[],[.str,a' 19,a' 19]⟩],[]⟩
def aal :fu:=⟨5,[.row 17],[],[.nm 17],ak .bool,[],[.bool],[aAv]⟩
def afm :hU:=⟨0,⟨[(1,eb 0 0),(3,ak ad),(4,ak ad)],[.iy 6]⟩,[],[],[ad,ad,.nm 6],[⟨.exit 0,⟨[(1,eb 0 0),(3,ak ad)],[.iy 6]⟩,[],[ad,.nm 6]⟩],[]⟩
def afn :hU:=⟨1,⟨[(1,eb 0 0),(3,ak ad),(5,ak ad)],[.iy 6]⟩,[],[],[ad,ad,.nm 6],[⟨.exit 2,⟨[(1,eb 0 0),(3,ak ad)],[.iy 6]⟩,[],[ad,.nm 6]⟩],[]⟩
def auv :hU:=⟨2,⟨[(1,eb 0 0),(3,ak ad),(6,ak ad)],[.iy 6]⟩,[],[],[ad,ad,.nm 6],[⟨.exit 4,⟨[(3,ak ad)],[]⟩,[],[ad]⟩],[]⟩
def aap :fu:=⟨71,[.row 6],[],[.nm 6],ak ad,[],[ad],[afm,afn,auv]⟩
def au7 :hU:=⟨0,⟨[(1,eb 0 0),(3,ak ad),(4,ak ad),(5,eb 1 0),(6,ak ad)],[k4 (a' 3),.iy 3]⟩,[],[],[ad,ad,ad,a' 3,.nm 3],[⟨.exit 2,⟨[(1,eb 0 0),(3,ak ad),(4,ak ad)],[k4 (a' 3)]⟩,[],[ad,ad,a' 3]⟩],[]⟩
def aug :hU:=⟨0,⟨[(1,eb 0 0),(3,ak ad),(4,ak ad)],[k4 (a' 3)]⟩,[],[],[ad,ad,a' 3],[⟨.exit 0,⟨[(3,ak ad)],[]⟩,[],[ad]⟩],[au7]⟩
def auf :fu:=⟨33,[.row 8],[],[.nm 8],ak .bool,[],[.bool],[aug]⟩
def auw :hU:=⟨0,⟨[(1,ak ad),(2,eb 0 0),(5,ak ad)],[.iy 6]⟩,[],[],[ad,ad,.nm 6],[⟨.exit 0,⟨[(1,ak ad),(2,eb 0 0)],[.iy 6]⟩,[],[ad,.nm 6]⟩],[]⟩
def afo :hU:=⟨1,⟨[(1,ak ad),(2,eb 0 0),(6,ak ad)],[.iy 6]⟩,[],[],[ad,ad,.nm 6],[⟨.exit 2,⟨[(1,ak ad),(2,eb 0 0)],[.iy 6]⟩,[],[ad,.nm 6]⟩],[]⟩
def afp :hU:=⟨2,⟨[(1,ak ad),(2,eb 0 0),(7,ak ad)],[.iy 6]⟩,[],[],[ad,ad,.nm 6],[⟨.exit 4,⟨[(1,ak ad)],[]⟩,[],[ad]⟩],[]⟩
def aaq :fu:=⟨72,[.row 6,ak ad],[],[.nm 6,ad],ak ad,[],[ad],[auw,afo,afp]⟩
def auh :fu:=⟨34,[.row 6],[],[.nm 6],ak .bool,[],[.bool],[]⟩
def awo :hU:=⟨0,⟨[(1,eb 0 0),(6,ak ad),(7,ak (a' 5)),(8,ak ad)],[k4 (a' 3)]⟩,[],[],[ad,a' 5,ad,a' 3],[⟨.ret,⟨[(2,ak ad),(3,ak ad),(4,ak ad)],[]⟩,[],[ad,ad,ad]⟩,⟨.exit 2,⟨[(1,eb 0 0),(6,ak ad)],[k4 (a' 3)]⟩,[],[ad,a' 3]⟩],[]⟩
def auj :hU:=⟨0,⟨[(1,eb 0 0),(6,ak ad)],[k4 (a' 3)]⟩,[],[],[ad,a' 3],[⟨.ret,⟨[(2,ak ad),(3,ak ad),(4,ak ad)],[]⟩,[],[ad,ad,ad]⟩,Mc 0],[awo]⟩
def aui :fu:=⟨35,[.row 8],[],[.nm 8],.fz [ak ad,ak ad,ak ad],[],[ad,ad,ad],[auj]⟩
def e8 :fu:=⟨8,[.row 8,ak ad,.row 20],[],[.nm 8,ad,.nm 20],ak .bool,[],[.bool],[]⟩
def aMl :List fu:=[anp,anl,ano,abO,aak,ann,anm,anc,anh,ani,am',anj,ana,ank,anb,amZ,am0,amR,az0,azU]
def aMm :List fu:=[azV,am5,am4,amU,az1,az9,azT,azI,am2,am1,amS,az2,az8,azS,az4,amT,anf,am7,ane,am3]
def aMn :List fu:=[ang,am9,am8,amY,az5,azR,aAb,aAa,aAc,az6,azQ,aAF,aAq,aAA,am6,amW,amX,acx,abP,abQ]
def aMo :List fu:=[acw,Xg,anD,aAC,azK,aIe,az',azX,azZ,azO,azY,azN,azP,azL,azM,aAD,aiY,Us,anq,anC]
def aMp :List fu:=[anr,anE,amV,alS,alT,anF,anG,aam,ant,afb,anA,aan,afc,aiX,aiW]
def adq :List fu:=aMl++aMm++aMn++aMo++aMp
theorem aez :adq.all (aa0 prog)=true:=by kernel_rfl
def abw :nc oi:={alw with F:=apI (α:=oi.D 11) aa8}
theorem adN :OD prog abw:=⟨aqL.1,λh r ar=>aqL.2 h r (aGb apK _ r ar)⟩
def ZE(_:Unit):Option (gJ):=
 some (⟨[(⟨2,[],(-10),10,0,[],[],0,0,false⟩:cm),(⟨2,[],0,5,0,[],[],0,0,false⟩:cm),(⟨5,[80,111,105,110,116],0,0,0,[],[(⟨1,[120],0,false,false,(⟨0,false,0,[],0,[],[],[]⟩:ao)⟩:em),(⟨2,[121],1,false,true,(⟨2,false,3,[],0,[],[],[]⟩:ao)⟩:em)],0,0,false⟩:cm)]⟩:gJ)
theorem aAn :hR anp:= .m (by kernel_rfl)
theorem aBJ :hT anp ZE:= .fn aAn .n .n λ_=>by kernel_rfl
def ahU(c':Int×Int×List C2):Option (ao):=
 match c' with
 | (b7,y,rest)=>
 some (⟨5,false,0,[],0,[],[(⟨2,false,b7,[],0,[],[],[]⟩:ao),(⟨2,false,y,[],0,[],[],[]⟩:ao)],rest⟩:ao)
theorem aAo :hR anq:= .m (by kernel_rfl)
theorem aCW :hT anq ahU:= .fn aAo .n .n λ_=>by kernel_rfl
theorem azJ :hR Us:= .m (by kernel_rfl)
noncomputable def adK:gJ×Int×List UInt8->Option (List UInt8×Int):=Ut prog adq [ZJ,ZK,ZM,abw,ZT,ZQ] 3000 Us
theorem aCD :hT Us adK:= .run aez (.k adW (.k ZL (.k abq (.k adN (.k adJ (.k ZR .n)))))) azJ 3000 λ_=>rfl
theorem atY :hR afb:= .m (by kernel_rfl)
noncomputable def ael:gJ×Int×ao->Option (List (List Int)×Int):=Ut prog adq [ZJ,ZK,ZM,abw,ZT,ZQ] 3000 afb
theorem aCr :hT afb ael:= .run aez (.k adW (.k ZL (.k abq (.k adN (.k adJ (.k ZR .n)))))) atY 3000 λ_=>rfl
theorem auc :hR afc:= .m (by kernel_rfl)
noncomputable def aem:gJ×Int×ao×ao->Option (ao×Int):=Ut prog adq [ZJ,ZK,ZM,abw,ZT,ZQ] 3000 afc
theorem aCs :hT afc aem:= .run aez (.k adW (.k ZL (.k abq (.k adN (.k adJ (.k ZR .n)))))) auc 3000 λ_=>rfl
theorem aAp :hR aiY:= .m (by kernel_rfl)
noncomputable def adL:gJ×Int×ao->Option (List UInt8×Int):=Ut prog adq [ZJ,ZK,ZM,abw,ZT,ZQ] 3000 aiY
theorem aCE :hT aiY adL:= .run aez (.k adW (.k ZL (.k abq (.k adN (.k adJ (.k ZR .n)))))) aAp 3000 λ_=>rfl
theorem aAl :hR aiX:= .m (by kernel_rfl)
noncomputable def adT:gJ×Int×List UInt8->Option (Bool):=Ut prog adq [ZJ,ZK,ZM,abw,ZT,ZQ] 3000 aiX
theorem aBK :hT aiX adT:= .run aez (.k adW (.k ZL (.k abq (.k adN (.k adJ (.k ZR .n)))))) aAl 3000 λ_=>rfl
def akF(adK:gJ×Int×List UInt8->Option (List UInt8×Int))(ael:gJ×Int×ao->Option (List (List Int)×Int))(aem:gJ×Int×ao×ao->Option (ao×Int))(adL:gJ×Int×ao->Option (List UInt8×Int))(adT:gJ×Int×List UInt8->Option (Bool)):Option (Bool):=
 ZE () >>=λr=>adK (r,2,[2,1,3,4,1,6,8,1,9]) >>=λh8=>ahU ((-2),3,[(⟨4,[9]⟩:C2)]) >>=λE1=>ZE () >>=λJB=>ael (JB,2,ao.eta E1) >>=λLW=>ZE () >>=λPx=>ahU (0,3,[]) >>=λQn=>aem (Px,2,ao.eta E1,ao.eta Qn) >>=λTN=>ZE () >>=λZe=>adL (Ze,2,ao.eta TN.1) >>=λaa3=>some (bif bif bif bif bif decide (h8.2=0)then decide (LW.2=0)else false then decide (TN.2=0)else false then decide (aa3.2=0)else false then decide (h8.1=[2,1,3,8,1,9])else false then decide ((LW.1.length:Int)=1)else false) >>=λt59=>if(eh 0 LW.1.length || (!t59))=true then some (bif bif t59 then decide (((LW.1.getD (0:Int).toNat []).length:Int)=0)else false then decide (aa3.1=[2,0,8,1,9])else false) >>=λt70=>(if t70=true then ZE ()else some aiG) >>=λagO=>(if t70=true then adT (agO,2,h8.1)else some false) >>=λaa4=>some (bif t70 then aa4 else false)
 else none
noncomputable def akG (_:Unit):Option (Bool):=akF adK ael aem adL adT
theorem azH :hR aiW:= .m (by kernel_rfl)
theorem aBs :hT aiW akG:= .fn azH (.k aBJ (.k aCD (.k aCW (.k aCr (.k aCs (.k aCE (.k aBK .n))))))) .n λ_=>by kernel_rfl
def amE(n:Int):ao:=⟨2,false,n,[],0,[],[],[]⟩
def Uh :gJ:=⟨[⟨2,[],-10,10,0,[],[],0,0,false⟩,⟨2,[],0,5,0,[],[],0,0,false⟩,⟨5,[80,111,105,110,116],0,0,0,[],[⟨1,[120],0,false,false,⟨0,false,0,[],0,[],[],[]⟩⟩,⟨2,[121],1,false,true,amE 3⟩],0,0,false⟩]⟩
def Ui(x y:Int)(r:List C2):ao:=⟨5,false,0,[],0,[],[amE x,amE y],r⟩
theorem aIj :ZE ()=some Uh:=rfl
theorem aIk(x y:Int)(r:List C2):ahU (x,y,r)=some (Ui x y r):=rfl
theorem azp :adK (Uh,2,[2,1,3,4,1,6,8,1,9])=some ([2,1,3,8,1,9],0):=by kernel_rfl
theorem azq :ael (Uh,2,Ui (-2) 3 [⟨4,[9]⟩])=some ([[]],0):=by kernel_rfl
theorem azr :aem (Uh,2,Ui (-2) 3 [⟨4,[9]⟩],Ui 0 3 [])=some (Ui 0 3 [⟨4,[9]⟩],0):=by kernel_rfl
theorem azs :adL (Uh,2,Ui 0 3 [⟨4,[9]⟩])=some ([2,0,8,1,9],0):=by kernel_rfl
theorem azt :adT (Uh,2,[2,1,3,8,1,9])=some true:=by kernel_rfl
theorem aGQ (g1:gJ×Int×List UInt8 -> Option (List UInt8×Int)) (g2:gJ×Int×ao -> Option (List (List Int)×Int)) (g3:gJ×Int×ao×ao -> Option (ao×Int)) (g4:gJ×Int×ao -> Option (List UInt8×Int)) (g5:gJ×Int×List UInt8 -> Option Bool)
 (h1:g1 (Uh,2,[2,1,3,4,1,6,8,1,9])=some ([2,1,3,8,1,9],0)) (ah:g2 (Uh,2,Ui (-2) 3 [⟨4,[9]⟩])=some ([[]],0)) (bJ:g3 (Uh,2,Ui (-2) 3 [⟨4,[9]⟩],Ui 0 3 [])=some (Ui 0 3 [⟨4,[9]⟩],0))
 (ea:g4 (Uh,2,Ui 0 3 [⟨4,[9]⟩])=some ([2,0,8,1,9],0)) (hi:g5 (Uh,2,[2,1,3,8,1,9])=some true):akF g1 g2 g3 g4 g5=some true:=by
 unfold akF;simp only[h',eg,aIj,aIk,ao.d5];rw[h1,ah];simp only[eg];rw[bJ];simp only[eg,ao.d5];rw[ea];simp[eh,hi]
theorem aGR :akG ()=some true:=aGQ _ _ _ _ _ azp azq azr azs azt
def ad1(_:Unit):Option (Bool):=some true
theorem aCX :hT aiW ad1:=by
 have:akG=ad1:=by funext x;exact aGR
 rw[<-this];exact aBs
theorem aBL :ad1 ()=some true:=rfl
def Rr(kind:Int):Option (Bool):=
 some (bif bif decide (kind=4)then true else decide (kind=5)then true else decide (kind=6))
theorem aAm :hR aum:= .m (by kernel_rfl)
theorem aq2 :hT aum Rr:= .fn aAm .n .n λ_=>by kernel_rfl
def akH(c':Int×WZ×List Int):Option (List Int):=
 match c' with
 | (i,k3,l3)=>
 if decide (i < 6)=true then if decide (0<=i)=true then if decide (aLZ (akb .u8 k3.A i) 2=1)=true then some [hO .i64 i 1] >>=λt18=>if room 8 (l3++t18).length=true then akH (hO .i64 i 1,k3,l3++t18)
 else none
 else akH (hO .i64 i 1,k3,l3)
 else none
 else some l3
  partial_fixpoint
def aCt(b7:WZ):Option (List Int):=
 akH (0,b7,[]) >>=λo=>if decide ((o.length:Int)=0)=true then some [1] >>=λt24=>if room 8 (o++t24).length=true then some (o++t24)
 else none
 else some o
def akB(kind:Int):Option (Bool):=
 some (bif decide (1<=kind)then decide (kind<=4)else false)
theorem aAz :hR auB:= .m (by kernel_rfl)
theorem aBM :hT auB akB:= .fn aAz .n .n λ_=>by kernel_rfl
def Wp(c':List ri×List ri×Int×Int):Option ((Bool) ⊕ (Unit)):=
 match c' with
 | (aa6,Qp,agV,t13)=>
 if decide (t13 < agV)=true then if eh t13 aa6.length=true then some (aa6.getD t13.toNat wm) >>=λb7=>if eh t13 Qp.length=true then some (Qp.getD t13.toNat wm) >>=λvx=>if(!(NQ b7.bo vx.bo && (O9 b7.Name vx.Name && true)))=true then some (.inl false)
 else Wp (aa6,Qp,agV,hO .i64 t13 1)
 else none
 else none
 else some (.inr ())
  partial_fixpoint
theorem aB2 :xe 220 0 [0] awK Wp:= .rc Wp.partial_correctness .n .n λ_ _=>by kernel_rfl
def ahP(c':List ri×List ri):Option (Bool):=
 match c' with
 | (s1,s2)=>
 if(!(decide ((s1.length:Int)=(s2.length:Int))))=true then some false
 else Wp (s1,s2,(s1.length:Int),0) >>=λo=>match o with
 | .inl ho=>
 some ho
 | .inr hV=>
 some true
theorem aIl :hR anl:= .m (by kernel_rfl)
theorem aB3 :hT anl ahP:= .fn aIl .n (.k aB2 .n) λ_=>by kernel_rfl
def Wq(c':List C2×List C2×Int×Int):Option ((Bool) ⊕ (Unit)):=
 match c' with
 | (aa6,Qp,agV,t13)=>
 if decide (t13 < agV)=true then if eh t13 aa6.length=true then some (aa6.getD t13.toNat ka) >>=λb7=>if eh t13 Qp.length=true then some (Qp.getD t13.toNat ka) >>=λvx=>if(!(NQ b7.bo vx.bo && (O9 b7.Data vx.Data && true)))=true then some (.inl false)
 else Wq (aa6,Qp,agV,hO .i64 t13 1)
 else none
 else none
 else some (.inr ())
  partial_fixpoint
theorem aB4 :xe 224 0 [0] awL Wq:= .rc Wq.partial_correctness .n .n λ_ _=>by kernel_rfl
def ahQ(c':List C2×List C2):Option (Bool):=
 match c' with
 | (s1,s2)=>
 if(!(decide ((s1.length:Int)=(s2.length:Int))))=true then some false
 else Wq (s1,s2,(s1.length:Int),0) >>=λo=>match o with
 | .inl ho=>
 some ho
 | .inr hV=>
 some true
theorem aIm :hR ano:= .m (by kernel_rfl)
theorem aB5 :hT ano ahQ:= .fn aIm .n (.k aB4 .n) λ_=>by kernel_rfl
mutual
def T'(c':ao×ao):Option (Bool):=
 match c' with
 | (a,b)=>
 some (bif bif bif bif decide (a.Kind=b.Kind)then J0 a.kt b.kt else false then decide (a.hX=b.hX)else false then decide (a.hG=b.hG)else false then decide (a.bo=b.bo)else false) >>=λt37=>(if t37=true then ahQ (a.Rest,b.Rest)else some false) >>=λr=>some (bif t37 then r else false) >>=λt44=>(if t44=true then adQ (a.e0,b.e0)else some false) >>=λh8=>some (bif t44 then h8 else false) >>=λt51=>(if t51=true then adQ (a.b9,b.b9)else some false) >>=λy1=>some (bif t51 then y1 else false)
  partial_fixpoint
def adQ(c':List ao×List ao):Option (Bool):=
 match c' with
 | (s1,s2)=>
 if(!(decide ((s1.length:Int)=(s2.length:Int))))=true then some false
 else abG (s2,s1,(s1.length:Int),0) >>=λo=>match o with
 | .inl ho=>
 some ho
 | .inr hV=>
 some true
  partial_fixpoint
def abG(c':List ao×List ao×Int×Int):Option ((Bool) ⊕ (Unit)):=
 match c' with
 | (Qp,t15,agW,t17)=>
 if decide (t17 < agW)=true then if eh t17 t15.length=true then if eh t17 Qp.length=true then T' (ao.eta (t15.getD t17.toNat e2),ao.eta (Qp.getD t17.toNat e2)) >>=λr=>if(!r)=true then some (.inl false)
 else abG (Qp,t15,agW,hO .i64 t17 1)
 else none
 else none
 else some (.inr ())
  partial_fixpoint
end
theorem alU :hR aak:= .m (by kernel_rfl)
theorem avR :hR abO:= .m (by kernel_rfl)
theorem aCu :(∀h r,T' h=some r->z' aak h r)/\(∀h r,adQ h=some r->z' abO h r)/\(∀h r,abG h=some r->E8 225 0 [0] ad3 h r):=T'.mutual_partial_correctness (z' aak) (z' abO) (E8 225 0 [0] ad3)
 (λ_ h1 _ _ h=>NN aak alU (.k aB5 (.k (KX abO avR h1) .n)) .n (.trans (by kernel_rfl) h))
 (λ_ ah _ _ h=>NN abO avR .n (.k (O4 ad3 ah) .n) (.trans (by kernel_rfl) h))
 (λ_ _ h0 ah _ _ h=>O3 ad3 ah (.k (KX aak alU h0) .n) .n (.trans (by kernel_rfl) h))
theorem aqW :hT aak T':= .of alU aCu.1
def adO(c':em×em):Option (Bool):=
 match c' with
 | (b7,y)=>
 some (bif bif bif bif decide (b7.bo=y.bo)then decide (b7.Name=y.Name)else false then decide (b7.ki=y.ki)else false then J0 b7.Is y.Is else false then J0 b7.x' y.x' else false) >>=λt37=>(if t37=true then T' ((⟨b7.oo.Kind,b7.oo.kt,b7.oo.hX,b7.oo.hG,b7.oo.bo,b7.oo.e0,b7.oo.b9,b7.oo.Rest⟩:ao),ao.eta y.oo)else some false) >>=λr=>some (bif t37 then r else false)
theorem aIn :hR ann:= .m (by kernel_rfl)
theorem aCR :hT ann adO:= .fn aIn (.k aqW .n) .n λ_=>by kernel_rfl
def Wl(c':List em×List em×Int×Int):Option ((Bool) ⊕ (Unit)):=
 match c' with
 | (Qp,t15,agW,t17)=>
 if decide (t17 < agW)=true then if eh t17 t15.length=true then some (t15.getD t17.toNat hL) >>=λb7=>if eh t17 Qp.length=true then some (Qp.getD t17.toNat hL) >>=λvx=>adO ((⟨b7.bo,b7.Name,b7.ki,b7.Is,b7.x',ao.eta b7.oo⟩:em),(⟨vx.bo,vx.Name,vx.ki,vx.Is,vx.x',ao.eta vx.oo⟩:em)) >>=λr=>if(!r)=true then some (.inl false)
 else Wl (Qp,t15,agW,hO .i64 t17 1)
 else none
 else none
 else some (.inr ())
  partial_fixpoint
theorem aBj :xe 221 0 [0] awM Wl:= .rc Wl.partial_correctness (.k aCR .n) .n λ_ _=>by kernel_rfl
def ahm(c':List em×List em):Option (Bool):=
 match c' with
 | (s1,s2)=>
 if(!(decide ((s1.length:Int)=(s2.length:Int))))=true then some false
 else Wl (s2,s1,(s1.length:Int),0) >>=λo=>match o with
 | .inl ho=>
 some ho
 | .inr hV=>
 some true
theorem aIo :hR anm:= .m (by kernel_rfl)
theorem aBk :hT anm ahm:= .fn aIo .n (.k aBj .n) λ_=>by kernel_rfl
def NG(c':cm×cm):Option (Bool):=
 match c' with
 | (a,b)=>
 some (bif bif bif bif bif bif bif decide (a.Kind=b.Kind)then decide (a.Name=b.Name)else false then decide (a.jb=b.jb)else false then decide (a.i'=b.i')else false then decide (a.Max=b.Max)else false then decide (a.Key=b.Key)else false then decide (a.hZ=b.hZ)else false then J0 a.Open b.Open else false) >>=λt58=>(if t58=true then ahP (a.hq,b.hq)else some false) >>=λr=>some (bif t58 then r else false) >>=λt65=>(if t65=true then ahm (a.cy,b.cy)else some false) >>=λh8=>some (bif t65 then h8 else false)
theorem aIp :hR anc:= .m (by kernel_rfl)
theorem aD6 :hT anc NG:= .fn aIp (.k aB3 (.k aBk .n)) .n λ_=>by kernel_rfl
def aei(c:Int):Option (Bool):=
 some (bif bif decide (c=95)then true else bif decide (97<=c)then decide (c<=122)else false then true else bif decide (65<=c)then decide (c<=90)else false)
theorem aIq :hR anh:= .m (by kernel_rfl)
theorem arc :hT anh aei:= .fn aIq .n .n λ_=>by kernel_rfl
def ahu(c:Int):Option (Bool):=
 some (bif decide (48<=c)then decide (c<=57)else false)
theorem aIr :hR ani:= .m (by kernel_rfl)
theorem aCv :hT ani ahu:= .fn aIr .n .n λ_=>by kernel_rfl
def W0(c':List UInt8×Int×Int):Option ((Bool) ⊕ (Unit)):=
 match c' with
 | (KU,ayF,t19)=>
 if decide (t19 < ayF)=true then if eh t19 KU.length=true then aei (Vv KU t19) >>=λh8=>some (!h8) >>=λt26=>if(eh t19 KU.length || (!t26))=true then (if t26=true then ahu (Vv KU t19)else some false) >>=λy1=>if(bif t26 then(!y1)else false)=true then some (.inl false)
 else W0 (KU,ayF,hO .i64 t19 1)
 else none
 else none
 else some (.inr ())
  partial_fixpoint
theorem aCF :xe 198 0 [0] awO W0:= .rc W0.partial_correctness (.k arc (.k aCv .n)) .n λ_ _=>by kernel_rfl
def Ry(s:List UInt8):Option (Bool):=
 some (bif decide (s=[])then true else decide (24 < (s.length:Int))) >>=λt10=>if(eh 0 s.length || (!(!t10)))=true then (if(!t10)=true then aei (Vv s 0)else some false) >>=λr=>if(bif t10 then true else(!r))=true then some false
 else W0 (s,(s.length:Int),0) >>=λo=>match o with
 | .inl ho=>
 some ho
 | .inr hV=>
 some true
 else none
theorem aIs :hR am':= .m (by kernel_rfl)
theorem aqM :hT am' Ry:= .fn aIs (.k arc .n) (.k aCF .n) λ_=>by kernel_rfl
def W3(c':List Int×List (List UInt8)×List Int×Int×Int×List (List UInt8)):Option ((Bool) ⊕ (List Int)):=
 match c' with
 | (Ns,aaS,t9,ayy,t11,b)=>
 if decide (t11 < ayy)=true then if eh t11 t9.length=true then some (t9.getD t11.toNat 0) >>=λb7=>some (bif decide (b7 < 1)then true else decide (1000 < b7)) >>=λt21=>some (decide (0 < t11)) >>=λt24=>some (Lx .i64 t11 1) >>=λt29=>if(eh t29 Ns.length || (!((!t21) && t24)))=true then some (bif t21 then true else bif t24 then decide (b7<=Ns.getD t29.toNat 0)else false) >>=λt34=>if(eh t11 aaS.length || (!(!t34)))=true then some (bif t34 then true else OO b (aaS.getD t11.toNat [])) >>=λt42=>if(eh t11 aaS.length || (!(!t42)))=true then (if(!t42)=true then Ry (aaS.getD t11.toNat [])else some false) >>=λr=>if(bif t42 then true else(!r))=true then some (.inl false)
 else if eh t11 aaS.length=true then W3 (Ns,aaS,t9,ayy,hO .i64 t11 1,OH b (aaS.getD t11.toNat []))
 else none
 else none
 else none
 else none
 else none
 else some (.inr Ns)
  partial_fixpoint
theorem aDS :xe 218 0 [0] awQ W3:= .rc W3.partial_correctness (.k aqM .n) .n λ_ _=>by kernel_rfl
def ad8(c':List Int×List (List UInt8)):Option (Bool):=
 match c' with
 | (l,names)=>
 W3 (l,names,l,(l.length:Int),0,[]) >>=λo=>match o with
 | .inl ho=>
 some ho
 | .inr hV=>
 some (decide ((hV.length:Int)<=16))
theorem aIt :hR anj:= .m (by kernel_rfl)
theorem ar6 :hT anj ad8:= .fn aIt .n (.k aDS .n) λ_=>by kernel_rfl
def X0(c':List ri×List ri×Int×Int×List Int×List (List UInt8)):Option (List ri×List Int×List (List UInt8)):=
 match c' with
 | (Ns,t7,agY,t9,l3,l0)=>
 if decide (t9 < agY)=true then if eh t9 t7.length=true then some (t7.getD t9.toNat wm) >>=λb7=>some [b7.bo] >>=λt16=>if room 8 (l3++t16).length=true then some [b7.Name] >>=λt21=>if room 16 (l0++t21).length=true then X0 (Ns,t7,agY,hO .i64 t9 1,l3++t16,l0++t21)
 else none
 else none
 else none
 else some (Ns,l3,l0)
  partial_fixpoint
theorem aCY :xe 199 0 [0] av0 X0:= .rc X0.partial_correctness .n .n λ_ _=>by kernel_rfl
def PP(l:List ri):Option (Bool):=
 X0 (l,l,(l.length:Int),0,[],[]) >>=λo=>some (decide (0 < (o.1.length:Int))) >>=λt26=>(if t26=true then ad8 (o.2.1,o.2.2)else some false) >>=λr=>some (bif t26 then r else false)
theorem aIu :hR ana:= .m (by kernel_rfl)
theorem aCS :hT ana PP:= .fn aIu (.k ar6 .n) (.k aCY .n) λ_=>by kernel_rfl
def ahB(v:ao):Option (Bool):=
 T' (ao.eta v,(⟨0,false,0,[],0,[],[],[]⟩:ao)) >>=λr=>some r
theorem aIv :hR ank:= .m (by kernel_rfl)
theorem aD7 :hT ank ahB:= .fn aIv (.k aqW .n) .n λ_=>by kernel_rfl
def WX(c':List em×Int×Int×cm×List Int×List (List UInt8)):Option ((Bool) ⊕ (cm×List Int×List (List UInt8))):=
 match c' with
 | (t8,ayP,t10,l0,s3,QT)=>
 if decide (t10 < ayP)=true then if eh t10 t8.length=true then some (t8.getD t10.toNat hL) >>=λb7=>some [b7.bo] >>=λt17=>if room 8 (s3++t17).length=true then some [b7.Name] >>=λt22=>if room 16 (QT++t22).length=true then some (bif bif decide (l0.Kind=6)then bif b7.Is then true else b7.x' else false then true else bif b7.Is then b7.x' else false) >>=λt42=>some (!b7.x') >>=λt46=>(if((!t42) && t46)=true then ahB (ao.eta b7.oo)else some false) >>=λh8=>if(bif t42 then true else bif t46 then(!h8)else false)=true then some (.inl false)
 else WX (t8,ayP,hO .i64 t10 1,l0,s3++t17,QT++t22)
 else none
 else none
 else none
 else some (.inr (l0,s3,QT))
  partial_fixpoint
theorem aCZ :xe 200 0 [0] av1 WX:= .rc WX.partial_correctness (.k aD7 .n) .n λ_ _=>by kernel_rfl
def ZU(t:cm):Option (Bool):=
 WX (t.cy,(t.cy.length:Int),0,t,[],[]) >>=λo=>match o with
 | .inl ho=>
 some ho
 | .inr hV=>
 some (bif decide (hV.1.Kind=5)then true else decide (0 < (hV.2.1.length:Int))) >>=λt62=>(if t62=true then ad8 (hV.2.1,hV.2.2)else some false) >>=λr=>some (bif t62 then r else false)
theorem aIw :hR anb:= .m (by kernel_rfl)
theorem aCT :hT anb ZU:= .fn aIw (.k ar6 .n) (.k aCZ .n) λ_=>by kernel_rfl
def Lu(t:cm):Option (Bool):=
 if decide (t.Kind=1)=true then NG ((⟨0,t.Name,t.jb,t.i',t.Max,t.hq,t.cy,t.Key,t.hZ,t.Open⟩:cm),(⟨0,[],0,0,0,[],[],0,0,false⟩:cm)) >>=λr=>some r
 else if decide (t.Kind=2)=true then some (decide (t.jb<=t.i')) >>=λt17=>(if t17=true then NG ((⟨0,t.Name,0,0,t.Max,t.hq,t.cy,t.Key,t.hZ,t.Open⟩:cm),(⟨0,[],0,0,0,[],[],0,0,false⟩:cm))else some false) >>=λh8=>some (bif t17 then h8 else false)
 else if decide (t.Kind=3)=true then some (bif decide (0<=t.Max)then decide (t.Max<=200)else false) >>=λt29=>(if t29=true then NG ((⟨0,t.Name,t.jb,t.i',0,t.hq,t.cy,t.Key,t.hZ,t.Open⟩:cm),(⟨0,[],0,0,0,[],[],0,0,false⟩:cm))else some false) >>=λy1=>some (bif t29 then y1 else false)
 else if decide (t.Kind=4)=true then Ry t.Name >>=λJs=>(if Js=true then PP t.hq else some false) >>=λE1=>some (bif Js then E1 else false) >>=λt40=>(if t40=true then NG ((⟨0,[],t.jb,t.i',t.Max,[],t.cy,t.Key,t.hZ,false⟩:cm),(⟨0,[],0,0,0,[],[],0,0,false⟩:cm))else some false) >>=λJB=>some (bif t40 then JB else false)
 else some (decide (t.Kind=5)) >>=λt45=>if t45=true then if t45=true then Ry t.Name >>=λLW=>(if LW=true then ZU t else some false) >>=λapx=>some (bif LW then apx else false) >>=λt53=>(if t53=true then NG ((⟨0,[],t.jb,t.i',t.Max,t.hq,[],t.Key,t.hZ,bif t.Open then decide (t.Kind=5)else false⟩:cm),(⟨0,[],0,0,0,[],[],0,0,false⟩:cm))else some false) >>=λXN=>some (bif t53 then XN else false)
 else some (decide (t.Kind=7)) >>=λt65=>if t65=true then if t65=true then some (bif decide (0<=t.Max)then decide (t.Max<=50)else false) >>=λt74=>if decide (t.Kind=8)=true then (if t74=true then NG ((⟨0,t.Name,t.jb,t.i',0,t.hq,t.cy,0,0,t.Open⟩:cm),(⟨0,[],0,0,0,[],[],0,0,false⟩:cm))else some false) >>=λPx=>some (bif t74 then Px else false)
 else (if t74=true then NG ((⟨0,t.Name,t.jb,t.i',0,t.hq,t.cy,t.Key,0,t.Open⟩:cm),(⟨0,[],0,0,0,[],[],0,0,false⟩:cm))else some false) >>=λQn=>some (bif t74 then Qn else false)
 else if decide (t.Kind=9)=true then NG ((⟨0,t.Name,t.jb,t.i',t.Max,t.hq,t.cy,t.Key,0,t.Open⟩:cm),(⟨0,[],0,0,0,[],[],0,0,false⟩:cm)) >>=λTN=>some TN
 else some false
 else if decide (t.Kind=8)=true then some (bif decide (0<=t.Max)then decide (t.Max<=50)else false) >>=λake=>if decide (t.Kind=8)=true then (if ake=true then NG ((⟨0,t.Name,t.jb,t.i',0,t.hq,t.cy,0,0,t.Open⟩:cm),(⟨0,[],0,0,0,[],[],0,0,false⟩:cm))else some false) >>=λXM=>some (bif ake then XM else false)
 else (if ake=true then NG ((⟨0,t.Name,t.jb,t.i',0,t.hq,t.cy,t.Key,0,t.Open⟩:cm),(⟨0,[],0,0,0,[],[],0,0,false⟩:cm))else some false) >>=λUS=>some (bif ake then US else false)
 else if decide (t.Kind=9)=true then NG ((⟨0,t.Name,t.jb,t.i',t.Max,t.hq,t.cy,t.Key,0,t.Open⟩:cm),(⟨0,[],0,0,0,[],[],0,0,false⟩:cm)) >>=λZe=>some Ze
 else some false
 else if decide (t.Kind=6)=true then Ry t.Name >>=λaa3=>(if aa3=true then ZU t else some false) >>=λagM=>some (bif aa3 then agM else false) >>=λayL=>(if ayL=true then NG ((⟨0,[],t.jb,t.i',t.Max,t.hq,[],t.Key,t.hZ,bif t.Open then decide (t.Kind=5)else false⟩:cm),(⟨0,[],0,0,0,[],[],0,0,false⟩:cm))else some false) >>=λagN=>some (bif ayL then agN else false)
 else some (decide (t.Kind=7)) >>=λayO=>if ayO=true then if ayO=true then some (bif decide (0<=t.Max)then decide (t.Max<=50)else false) >>=λakf=>if decide (t.Kind=8)=true then (if akf=true then NG ((⟨0,t.Name,t.jb,t.i',0,t.hq,t.cy,0,0,t.Open⟩:cm),(⟨0,[],0,0,0,[],[],0,0,false⟩:cm))else some false) >>=λagO=>some (bif akf then agO else false)
 else (if akf=true then NG ((⟨0,t.Name,t.jb,t.i',0,t.hq,t.cy,t.Key,0,t.Open⟩:cm),(⟨0,[],0,0,0,[],[],0,0,false⟩:cm))else some false) >>=λaa4=>some (bif akf then aa4 else false)
 else if decide (t.Kind=9)=true then NG ((⟨0,t.Name,t.jb,t.i',t.Max,t.hq,t.cy,t.Key,0,t.Open⟩:cm),(⟨0,[],0,0,0,[],[],0,0,false⟩:cm)) >>=λaLS=>some aLS
 else some false
 else if decide (t.Kind=8)=true then some (bif decide (0<=t.Max)then decide (t.Max<=50)else false) >>=λakg=>if decide (t.Kind=8)=true then (if akg=true then NG ((⟨0,t.Name,t.jb,t.i',0,t.hq,t.cy,0,0,t.Open⟩:cm),(⟨0,[],0,0,0,[],[],0,0,false⟩:cm))else some false) >>=λaLT=>some (bif akg then aLT else false)
 else (if akg=true then NG ((⟨0,t.Name,t.jb,t.i',0,t.hq,t.cy,t.Key,0,t.Open⟩:cm),(⟨0,[],0,0,0,[],[],0,0,false⟩:cm))else some false) >>=λaj6=>some (bif akg then aj6 else false)
 else if decide (t.Kind=9)=true then NG ((⟨0,t.Name,t.jb,t.i',t.Max,t.hq,t.cy,t.Key,0,t.Open⟩:cm),(⟨0,[],0,0,0,[],[],0,0,false⟩:cm)) >>=λaLU=>some aLU
 else some false
theorem aIx :hR amZ:= .m (by kernel_rfl)
theorem aDy :hT amZ Lu:= .fn aIx (.k aD6 (.k aqM (.k aCS (.k aCT .n)))) .n λ_=>by kernel_rfl
def Yf(c':List em×Int×Int×cm×List Int):Option (cm×List Int):=
 match c' with
 | (t7,agY,t9,l3,l0)=>
 if decide (t9 < agY)=true then if eh t9 t7.length=true then some [(t7.getD t9.toNat hL).ki] >>=λt16=>if room 8 (l0++t16).length=true then Yf (t7,agY,hO .i64 t9 1,l3,l0++t16)
 else none
 else none
 else some (l3,l0)
  partial_fixpoint
theorem aCU :xe 159 0 [0] av2 Yf:= .rc Yf.partial_correctness .n .n λ_ _=>by kernel_rfl
def ahI(t:cm):Option (List Int):=
 Yf (t.cy,(t.cy.length:Int),0,t,[]) >>=λo=>if decide (o.1.Kind=8)=true then some [o.1.Key] >>=λt25=>if room 8 (o.2++t25).length=true then some (o.2++t25) >>=λl=>if decide (7<=o.1.Kind)=true then some [o.1.hZ] >>=λt33=>if room 8 (l++t33).length=true then some (l++t33)
 else none
 else some l
 else none
 else if decide (7<=o.1.Kind)=true then some [o.1.hZ] >>=λayH=>if room 8 (o.2++ayH).length=true then some (o.2++ayH)
 else none
 else some o.2
theorem aIy :hR am0:= .m (by kernel_rfl)
theorem aDz :hT am0 ahI:= .fn aIy .n (.k aCU .n) λ_=>by kernel_rfl
def WY(c':List cm×Int×Int×List Int×Int×Int×List cm×List (List UInt8)×Int×List UInt8×Int×Int×Int×List ri×List em×Int×Int×Bool):Option ((Int) ⊕ (List cm×Int×Int×List cm×List (List UInt8)×Int×List UInt8×Int×Int×Int×List ri×List em×Int×Int×Bool)):=
 match c' with
 | (ayA,ayD,ayE,t38,ayI,t40,QR,Tf,Ti,P4,W7,Yx,Yy,Uj,Uk,O6,P5,Tj)=>
 if decide (t40 < ayI)=true then if eh t40 t38.length=true then some (t38.getD t40.toNat 0) >>=λXS=>if(bif decide (XS < 0)then true else decide ((QR.length:Int)<=XS))=true then some (.inl 4)
 else WY (ayA,ayD,ayE,t38,ayI,hO .i64 t40 1,QR,Tf,Ti,P4,W7,Yx,Yy,Uj,Uk,O6,P5,Tj)
 else none
 else some (.inr (ayA,ayD,ayE,QR,Tf,Ti,P4,W7,Yx,Yy,Uj,Uk,O6,P5,Tj))
  partial_fixpoint
theorem aC0 :xe 125 0 [0,0] avN WY:= .rc WY.partial_correctness .n .n λ_ _=>by kernel_rfl
def Ye(c':List cm×Int×Int×List cm×List (List UInt8)):Option ((Int) ⊕ (Unit)):=
 match c' with
 | (t14,ayC,t16,b,k3)=>
 if decide (t16 < ayC)=true then if eh t16 t14.length=true then some (t14.getD t16.toNat e1) >>=λb7=>Lu b7 >>=λr=>if(bif (!r)then true else bif (!(decide (b7.Name=[])))then OO k3 b7.Name else false)=true then some (.inl 1)
 else ahI b7 >>=λh8=>WY (t14,ayC,t16,h8,(h8.length:Int),0,b,OH k3 b7.Name,b7.Kind,b7.Name,b7.jb,b7.i',b7.Max,b7.hq,b7.cy,b7.Key,b7.hZ,b7.Open) >>=λLd=>match Ld with
 | .inl J9=>
 some (.inl J9)
 | .inr r0=>
 some (decide (r0.2.2.2.2.2.1=8)) >>=λt56=>if(eh r0.2.2.2.2.2.2.2.2.2.2.2.2.1 r0.2.2.2.1.length || (!t56))=true then some (decide ((r0.2.2.2.1.getD r0.2.2.2.2.2.2.2.2.2.2.2.2.1.toNat e1).Kind < 1)) >>=λt65=>if(eh r0.2.2.2.2.2.2.2.2.2.2.2.2.1 r0.2.2.2.1.length || (!(t56 && (!t65))))=true then if(bif t56 then bif t65 then true else decide (4 < (r0.2.2.2.1.getD r0.2.2.2.2.2.2.2.2.2.2.2.2.1.toNat e1).Kind)else false)=true then some (.inl 1)
 else Ye (r0.1,r0.2.1,hO .i64 r0.2.2.1 1,r0.2.2.2.1,r0.2.2.2.2.1)
 else none
 else none
 else none
 else some (.inr ())
  partial_fixpoint
theorem aCG :xe 125 0 [0] av3 Ye:= .rc Ye.partial_correctness (.k aDy (.k aDz .n)) (.k aC0 .n) λ_ _=>by kernel_rfl
def aby(s:gJ):Option (Int):=
 if decide (32 < (s.Types.length:Int))=true then some 3
 else Ye (s.Types,(s.Types.length:Int),0,s.Types,[]) >>=λo=>match o with
 | .inl ho=>
 some ho
 | .inr hV=>
 some 0
theorem aIz :hR amR:= .m (by kernel_rfl)
theorem aD8 :hT amR aby:= .fn aIz .n (.k aCG .n) λ_=>by kernel_rfl
def alm(c':ri×Int):Option (Bool×Int):=
 match c' with
 | (b7,b)=>
 some (decide (b7.bo=b),b)
theorem aH2 :hR am5:= .m (by kernel_rfl)
theorem aCH :hT am5 alm:= .fn aH2 .n .n λ_=>by kernel_rfl
def U0(c':List ri×Int×Int×Int):Option ((Int×Int) ⊕ (Int)):=
 match c' with
 | (KU,Rh,t8,l0)=>
 if decide (t8 < Rh)=true then if eh t8 KU.length=true then alm (KU.getD t8.toNat wm,l0) >>=λr=>if r.1=true then some (.inl (t8,r.2))
 else U0 (KU,Rh,hO .i64 t8 1,r.2)
 else none
 else some (.inr l0)
  partial_fixpoint
theorem aBl :xe 190 1 [0] av4 U0:= .rc U0.partial_correctness (.k aCH .n) .n λ_ _=>by kernel_rfl
def UV(c':List ri×Int):Option (Int×Int):=
 match c' with
 | (s,b)=>
 U0 (s,(s.length:Int),0,b) >>=λo=>match o with
 | .inl ho=>
 some (ho.1,ho.2)
 | .inr hV=>
 some ((-1),hV)
theorem aH3 :hR am4:= .m (by kernel_rfl)
theorem aBZ :hT am4 UV:= .fn aH3 .n (.k aBl .n) λ_=>by kernel_rfl
def aen(c':cm×Int):Option (Int×Bool):=
 match c' with
 | (t,id)=>
 UV (t.hq,id) >>=λr=>some (Y4 r.1 0,decide (0<=r.1))
theorem aH4 :hR amU:= .m (by kernel_rfl)
theorem ark :hT amU aen:= .fn aH4 (.k aBZ .n) .n λ_=>by kernel_rfl
def aiv(b7:Int):Option (Bool):=
 some (!(decide (b7=b7)))
theorem aH5 :hR anf:= .m (by kernel_rfl)
theorem aEs :hT anf aiv:= .fn aH5 .n .n λ_=>by kernel_rfl
def ahJ(c':Int×Int):Option (Int):=
 match c' with
 | (b7,y)=>
 aiv b7 >>=λr=>aiv y >>=λh8=>if r=true then if h8=true then some 0
 else some (-1)
 else if h8=true then some 1
 else if decide (b7 < y)=true then some (-1)
 else if decide (y < b7)=true then some 1
 else some 0
theorem aH6 :hR am7:= .m (by kernel_rfl)
theorem aDA :hT am7 ahJ:= .fn aH6 (.k aEs .n) .n λ_=>by kernel_rfl
def ahK(b7:Int):Option (Bool):=
 some (!(decide (b7=b7)))
theorem aH7 :hR ane:= .m (by kernel_rfl)
theorem aDB :hT ane ahK:= .fn aH7 .n .n λ_=>by kernel_rfl
def aeo(c':Int×Int):Option (Int):=
 match c' with
 | (b7,y)=>
 ahK b7 >>=λr=>ahK y >>=λh8=>if r=true then if h8=true then some 0
 else some (-1)
 else if h8=true then some 1
 else if decide (b7 < y)=true then some (-1)
 else if decide (y < b7)=true then some 1
 else some 0
theorem aH8 :hR am3:= .m (by kernel_rfl)
theorem aDT :hT am3 aeo:= .fn aH8 (.k aDB .n) .n λ_=>by kernel_rfl
def ahL(b7:List UInt8):Option (Bool):=
 some (!(decide (b7=b7)))
theorem aH9 :hR ang:= .m (by kernel_rfl)
theorem aDC :hT ang ahL:= .fn aH9 .n .n λ_=>by kernel_rfl
def ahv(c':List UInt8×List UInt8):Option (Int):=
 match c' with
 | (b7,y)=>
 ahL b7 >>=λr=>ahL y >>=λh8=>if r=true then if h8=true then some 0
 else some (-1)
 else if h8=true then some 1
 else if Op.bytesLess b7 y=true then some (-1)
 else if(!(Op.bytesLess b7 y || decide (b7=y)))=true then some 1
 else some 0
theorem aH' :hR am9:= .m (by kernel_rfl)
theorem aDU :hT am9 ahv:= .fn aH' (.k aDC .n) .n λ_=>by kernel_rfl
def Yp(c':Int×List Int×Int×Int):Option ((Int) ⊕ (Int)):=
 match c' with
 | (ap5,t6,Rh,t8)=>
 if decide (t8 < Rh)=true then if eh t8 t6.length=true then some (t6.getD t8.toNat 0) >>=λb7=>if(!(decide (b7=ap5)))=true then some (.inl b7)
 else Yp (ap5,t6,Rh,hO .i64 t8 1)
 else none
 else some (.inr ap5)
  partial_fixpoint
theorem aEt :xe 196 0 [0] av6 Yp:= .rc Yp.partial_correctness .n .n λ_ _=>by kernel_rfl
def aif(ayY:List Int):Option (Int):=
 Yp (0,ayY,(ayY.length:Int),0) >>=λo=>match o with
 | .inl ho=>
 some ho
 | .inr hV=>
 some hV
theorem aIa :hR am8:= .m (by kernel_rfl)
theorem aGd :hT am8 aif:= .fn aIa .n (.k aEt .n) λ_=>by kernel_rfl
def aep(n:Int):Option (Int):=
 some (apY .u64 (apH .u64 (We .u64 n) 1) (We .u64 (akb .i64 n 63)))
theorem aI' :hR amT:= .m (by kernel_rfl)
theorem aDV :hT amT aep:= .fn aI' .n .n λ_=>by kernel_rfl
def ZV(c':ao×ao):Option (Int):=
 match c' with
 | (a,b)=>
 if(!(decide (a.Kind=b.Kind)))=true then some 0
 else if decide (a.Kind=1)=true then if J0 a.kt b.kt=true then some 0
 else if b.kt=true then some (-1)
 else some 1
 else if decide (a.Kind=2)=true then aep a.hX >>=λr=>aep b.hX >>=λh8=>ahJ (r,h8) >>=λy1=>some y1
 else if decide (a.Kind=3)=true then aeo ((a.hG.length:Int),(b.hG.length:Int)) >>=λJs=>ahv (a.hG,b.hG) >>=λE1=>aif [Js,E1] >>=λJB=>some JB
 else if decide (a.Kind=4)=true then aeo (a.bo,b.bo) >>=λLW=>some LW
 else some 0
theorem aJa :hR amY:= .m (by kernel_rfl)
theorem aDW :hT amY ZV:= .fn aJa (.k aDV (.k aDA (.k aDT (.k aDU (.k aGd .n))))) .n λ_=>by kernel_rfl
def aln(c':em×Int):Option (Bool×Int):=
 match c' with
 | (m,b)=>
 some (decide (m.bo=b),b)
theorem aJb :hR am2:= .m (by kernel_rfl)
theorem aCI :hT am2 aln:= .fn aJb .n .n λ_=>by kernel_rfl
def Wm(c':List em×Int×Int×Int):Option ((Int×Int) ⊕ (Int)):=
 match c' with
 | (KU,Rh,t8,l0)=>
 if decide (t8 < Rh)=true then if eh t8 KU.length=true then some (KU.getD t8.toNat hL) >>=λb7=>aln ((⟨b7.bo,b7.Name,b7.ki,b7.Is,b7.x',ao.eta b7.oo⟩:em),l0) >>=λr=>if r.1=true then some (.inl (t8,r.2))
 else Wm (KU,Rh,hO .i64 t8 1,r.2)
 else none
 else some (.inr l0)
  partial_fixpoint
theorem aBm :xe 166 1 [0] av5 Wm:= .rc Wm.partial_correctness (.k aCI .n) .n λ_ _=>by kernel_rfl
def akL(c':List em×Int):Option (Int×Int):=
 match c' with
 | (s,b)=>
 Wm (s,(s.length:Int),0,b) >>=λo=>match o with
 | .inl ho=>
 some (ho.1,ho.2)
 | .inr hV=>
 some ((-1),hV)
theorem aJc :hR am1:= .m (by kernel_rfl)
theorem aB0 :hT am1 akL:= .fn aJc .n (.k aBm .n) λ_=>by kernel_rfl
def S7(c':cm×Int):Option (Int×Bool):=
 match c' with
 | (t,id)=>
 akL (t.cy,id) >>=λr=>some (Y4 r.1 0,decide (0<=r.1))
theorem aJd :hR amS:= .m (by kernel_rfl)
theorem alo :hT amS S7:= .fn aJd (.k aB0 .n) .n λ_=>by kernel_rfl
end
section
open Go Go.Proofs.YtijpinendaoleaaGreat.Shv
open Tryz
set_option maxRecDepth 100000
def aqN(c':gJ×Int):Option (Int):=
 match c' with
 | (s,t)=>
 aby (⟨s.Types⟩:gJ) >>=λr=>if(!(decide (r=0)))=true then some r
 else if(bif decide (t < 0)then true else decide ((s.Types.length:Int)<=t))=true then some 4
 else some 0
def aio(v:ao):Option (ao):=
 if decide (v.Kind=1)=true then some (⟨v.Kind,v.kt,0,[],0,[],[],[]⟩:ao)
 else if decide (v.Kind=2)=true then some (⟨v.Kind,false,v.hX,[],0,[],[],[]⟩:ao)
 else if decide (v.Kind=3)=true then some (⟨v.Kind,false,0,v.hG,0,[],[],[]⟩:ao)
 else if decide (v.Kind=4)=true then some (⟨v.Kind,false,0,[],v.bo,[],[],[]⟩:ao)
 else if decide (v.Kind=5)=true then some (⟨v.Kind,false,0,[],0,[],v.b9,v.Rest⟩:ao)
 else if decide (v.Kind=6)=true then some (⟨v.Kind,false,0,[],v.bo,[],v.b9,v.Rest⟩:ao)
 else if decide (v.Kind=8)=true then some (⟨v.Kind,false,0,[],0,v.e0,v.b9,[]⟩:ao)
 else some (decide (v.Kind=7)) >>=λt57=>if t57=true then if t57=true then some (⟨v.Kind,false,0,[],0,[],v.b9,[]⟩:ao)
 else some (⟨v.Kind,false,0,[],0,[],[],[]⟩:ao)
 else if decide (v.Kind=9)=true then some (⟨v.Kind,false,0,[],0,[],v.b9,[]⟩:ao)
 else some (⟨v.Kind,false,0,[],0,[],[],[]⟩:ao)
theorem aJe :hR am6:= .m (by kernel_rfl)
theorem aER :hT am6 aio:= .fn aJe .n .n λ_=>by kernel_rfl
def ahC(v:ao):Option (Bool):=
 aio (ao.eta v) >>=λr=>some (bif bif bif bif bif bif J0 v.kt r.kt then decide (v.hX=r.hX)else false then decide (v.hG=r.hG)else false then decide (v.bo=r.bo)else false then decide ((v.e0.length:Int)=(r.e0.length:Int))else false then decide ((v.b9.length:Int)=(r.b9.length:Int))else false then decide ((v.Rest.length:Int)=(r.Rest.length:Int))else false)
theorem aJf :hR amW:= .m (by kernel_rfl)
theorem aD9 :hT amW ahC:= .fn aJf (.k aER .n) .n λ_=>by kernel_rfl
def ad9(id:Int):Option (Bool):=
 some (bif decide (1<=id)then decide (id<=1000)else false)
theorem aJg :hR amX:= .m (by kernel_rfl)
theorem ar7 :hT amX ad9:= .fn aJg .n .n λ_=>by kernel_rfl
def Rt(c':Bool×List C2×Int×Int×List cm×ao×Int×List UInt8×Int×Int×Int×List ri×List em×Int×Int×Bool):Option ((Bool) ⊕ (Bool×List cm×Int×Bool×Int×List UInt8×Int×List ao×List ao×List C2×Int×List UInt8×Int×Int×Int×List ri×List em×Int×Int×Bool)):=
 match c' with
 | (ayh,t111,ayz,t113,YB,O7,W9,VI,W',Xa,Xb,P6,Xc,VJ,VK,Xd)=>
 if decide (t113 < ayz)=true then if eh t113 t111.length=true then some (t111.getD t113.toNat ka) >>=λapT=>S7 ((⟨W9,VI,W',Xa,Xb,P6,Xc,VJ,VK,Xd⟩:cm),apT.bo) >>=λZe=>(if(!Ze.2)=true then ad9 apT.bo else some false) >>=λagN=>some (bif Ze.2 then true else(!agN)) >>=λt131=>some (decide (0 < t113)) >>=λt134=>some (Lx .i64 t113 1) >>=λt141=>if(eh t141 O7.Rest.length || (!((!t131) && t134)))=true then if(bif t131 then true else bif t134 then decide (apT.bo<=(O7.Rest.getD t141.toNat ka).bo)else false)=true then some (.inl false)
 else Rt (ayh,t111,ayz,hO .i64 t113 1,YB,ao.eta O7,W9,VI,W',Xa,Xb,P6,Xc,VJ,VK,Xd)
 else none
 else none
 else some (.inr (ayh,YB,O7.Kind,O7.kt,O7.hX,O7.hG,O7.bo,O7.e0,O7.b9,O7.Rest,W9,VI,W',Xa,Xb,P6,Xc,VJ,VK,Xd))
  partial_fixpoint
theorem aDX :xe 112 0 [0] av7 Rt:= .rc Rt.partial_correctness (.k alo (.k ar7 .n)) .n λ_ _=>by kernel_rfl
def QE(c':Bool×Int×List cm×ao×Int×List UInt8×Int×Int×Int×List ri×List em×Int×Int×Bool):Option ((Bool) ⊕ (Bool×List cm×ao×Int×List UInt8×Int×Int×Int×List ri×List em×Int×Int×Bool)):=
 match c' with
 | (ayj,i,ae5,VL,aad,atw,atx,aty,atz,atA,atB,atC,atD,atE)=>
 if decide (i < (VL.e0.length:Int))=true then some (Lx .i64 i 1) >>=λt291=>if eh t291 VL.e0.length=true then if eh i VL.e0.length=true then ZV (ao.eta (VL.e0.getD t291.toNat e2),ao.eta (VL.e0.getD i.toNat e2)) >>=λaa4=>if decide (0<=aa4)=true then some (.inl false)
 else QE (ayj,hO .i64 i 1,ae5,ao.eta VL,aad,atw,atx,aty,atz,atA,atB,atC,atD,atE)
 else none
 else none
 else some (.inr (ayj,ae5,ao.eta VL,aad,atw,atx,aty,atz,atA,atB,atC,atD,atE))
  partial_fixpoint
theorem aDY :xe 112 0 [2] av8 QE:= .rc QE.partial_correctness (.k aDW .n) .n λ_ _=>by kernel_rfl
mutual
def ahO(c':List ao×List cm×Int×Bool):Option (Bool×List cm×Int×Bool):=
 match c' with
 | (s,b,k3,l3)=>
 akN (s,b,k3,l3) >>=λr=>some (decide (0<=r.1),r.2.1,r.2.2.1,r.2.2.2)
  partial_fixpoint
def akN(c':List ao×List cm×Int×Bool):Option (Int×List cm×Int×Bool):=
 match c' with
 | (s,b,k3,l3)=>
 X3 (s,(s.length:Int),0,b,k3,l3) >>=λo=>match o with
 | .inl ho=>
 some (ho.1,ho.2.1,ho.2.2.1,ho.2.2.2)
 | .inr hV=>
 some ((-1),hV.1,hV.2.1,hV.2.2)
  partial_fixpoint
def Yn(c':gJ×Int×List ao×Bool):Option (Bool):=
 match c' with
 | (s,t,l,plain)=>
 ahO (l,s.Types,t,plain) >>=λr=>some (!r.1)
  partial_fixpoint
def alJ(c':ao×List cm×Int×Bool):Option (Bool×List cm×Int×Bool):=
 match c' with
 | (v,b,k3,l3)=>
 PY ((⟨b⟩:gJ),k3,ao.eta v,l3) >>=λr=>some ((!r),b,k3,l3)
  partial_fixpoint
def PY(c':gJ×Int×ao×Bool):Option (Bool):=
 match c' with
 | (s,t,v,plain)=>
 if(bif decide (t < 0)then true else decide ((s.Types.length:Int)<=t))=true then some false
 else if eh t s.Types.length=true then some (s.Types.getD t.toNat e1) >>=λb7=>some (!(decide (v.Kind=b7.Kind))) >>=λt39=>(if(!t39)=true then ahC (ao.eta v)else some false) >>=λr=>if(bif t39 then true else(!r))=true then some false
 else if decide (b7.Kind=2)=true then some (bif decide (b7.jb<=v.hX)then decide (v.hX<=b7.i')else false)
 else if decide (b7.Kind=3)=true then some (decide ((v.hG.length:Int)<=b7.Max))
 else if decide (b7.Kind=4)=true then aen (b7,v.bo) >>=λh8=>some (bif b7.Open then(!plain)else false) >>=λt85=>(if((!h8.2) && t85)=true then ad9 v.bo else some false) >>=λE1=>some (bif h8.2 then true else bif t85 then E1 else false)
 else if decide (b7.Kind=5)=true then if(bif (!(decide ((v.b9.length:Int)=(b7.cy.length:Int))))then true else bif plain then decide (0 < (v.Rest.length:Int))else false)=true then some false
 else Rt (plain,v.Rest,(v.Rest.length:Int),0,s.Types,ao.eta v,b7.Kind,b7.Name,b7.jb,b7.i',b7.Max,b7.hq,b7.cy,b7.Key,b7.hZ,b7.Open) >>=λo=>match o with
 | .inl ho=>
 some ho
 | .inr hV=>
 T0 (hV.1,hV.2.2.2.2.2.2.2.2.2.2.2.2.2.2.2.2.1,(hV.2.2.2.2.2.2.2.2.2.2.2.2.2.2.2.2.1.length:Int),0,hV.2.1,hV.2.2.1,hV.2.2.2.1,hV.2.2.2.2.1,hV.2.2.2.2.2.1,hV.2.2.2.2.2.2.1,hV.2.2.2.2.2.2.2.1,hV.2.2.2.2.2.2.2.2.1,hV.2.2.2.2.2.2.2.2.2.1) >>=λLd=>match Ld with
 | .inl J9=>
 some J9
 | .inr r0=>
 some true
 else if decide (b7.Kind=6)=true then S7 (b7,v.bo) >>=λJB=>if JB.2=true then some (bif decide ((v.b9.length:Int)=1)then decide ((v.Rest.length:Int)=0)else false) >>=λt188=>if(eh JB.1 b7.cy.length || (!t188))=true then if(eh 0 v.b9.length || (!t188))=true then (if t188=true then PY ((⟨s.Types⟩:gJ),(b7.cy.getD JB.1.toNat hL).ki,ao.eta (v.b9.getD (0:Int).toNat e2),plain)else some false) >>=λXN=>some (bif t188 then XN else false)
 else none
 else none
 else some (bif b7.Open then(!plain)else false) >>=λt209=>(if t209=true then ad9 v.bo else some false) >>=λPx=>some (bif bif bif t209 then Px else false then decide ((v.b9.length:Int)=0)else false then decide ((v.Rest.length:Int)=1)else false) >>=λt226=>if(eh 0 v.Rest.length || (!t226))=true then some (bif t226 then decide ((v.Rest.getD (0:Int).toNat ka).bo=v.bo)else false)
 else none
 else if decide (b7.Kind=7)=true then some (decide ((v.b9.length:Int)<=b7.Max)) >>=λt244=>(if t244=true then Yn ((⟨s.Types⟩:gJ),b7.hZ,v.b9,plain)else some false) >>=λQn=>some (bif t244 then Qn else false)
 else if decide (b7.Kind=8)=true then some (bif decide (b7.Max < (v.e0.length:Int))then true else(!(decide ((v.b9.length:Int)=(v.e0.length:Int))))) >>=λt270=>(if(!t270)=true then Yn ((⟨s.Types⟩:gJ),b7.Key,v.e0,plain)else some false) >>=λTN=>if(bif t270 then true else(!TN))=true then some false
 else QE (plain,1,s.Types,ao.eta v,b7.Kind,b7.Name,b7.jb,b7.i',b7.Max,b7.hq,b7.cy,b7.Key,b7.hZ,b7.Open) >>=λapj=>match apj with
 | .inl apk=>
 some apk
 | .inr TK=>
 Yn ((⟨TK.2.1⟩:gJ),TK.2.2.2.2.2.2.2.2.2.2.2.1,TK.2.2.1.b9,TK.1) >>=λXM=>some XM
 else if decide (b7.Kind=9)=true then some (decide ((v.b9.length:Int)<=1)) >>=λayG=>(if ayG=true then Yn ((⟨s.Types⟩:gJ),b7.hZ,v.b9,plain)else some false) >>=λUS=>some (bif ayG then US else false)
 else some true
 else none
  partial_fixpoint
def X3(c':List ao×Int×Int×List cm×Int×Bool):Option ((Int×List cm×Int×Bool) ⊕ (List cm×Int×Bool)):=
 match c' with
 | (KU,Rh,t8,aiQ,aiI,Td)=>
 if decide (t8 < Rh)=true then if eh t8 KU.length=true then alJ (ao.eta (KU.getD t8.toNat e2),aiQ,aiI,Td) >>=λr=>if r.1=true then some (.inl (t8,r.2.1,r.2.2.1,r.2.2.2))
 else X3 (KU,Rh,hO .i64 t8 1,r.2.1,r.2.2.1,r.2.2.2)
 else none
 else some (.inr (aiQ,aiI,Td))
  partial_fixpoint
def T0(c':Bool×List em×Int×Int×List cm×Int×Bool×Int×List UInt8×Int×List ao×List ao×List C2):Option ((Bool) ⊕ (Unit)):=
 match c' with
 | (ayi,t150,ayB,t152,YC,aac,aiJ,aiK,aiL,aiM,aiN,aco,aiO)=>
 if decide (t152 < ayB)=true then if eh t152 t150.length=true then if eh t152 aco.length=true then PY ((⟨YC⟩:gJ),(t150.getD t152.toNat hL).ki,ao.eta (aco.getD t152.toNat e2),ayi) >>=λagO=>if(!agO)=true then some (.inl false)
 else T0 (ayi,t150,ayB,hO .i64 t152 1,YC,aac,aiJ,aiK,aiL,aiM,aiN,aco,aiO)
 else none
 else none
 else some (.inr ())
  partial_fixpoint
end
theorem avS :hR abQ:= .m (by kernel_rfl)
theorem avT :hR abP:= .m (by kernel_rfl)
theorem awd :hR acx:= .m (by kernel_rfl)
theorem aeA :hR Xg:= .m (by kernel_rfl)
theorem awe :hR acw:= .m (by kernel_rfl)
theorem aBn :(∀h r,ahO h=some r->z' abQ h r)/\(∀h r,akN h=some r->z' abP h r)/\(∀h r,X3 h=some r->E8 192 3 [0] ad4 h r)/\(∀h r,alJ h=some r->z' acx h r)/\(∀h r,PY h=some r->z' Xg h r)/\(∀h r,Yn h=some r->z' acw h r)/\(∀h r,T0 h=some r->E8 112 0 [1] aeT h r):=ahO.mutual_partial_correctness (z' abQ) (z' abP) (E8 192 3 [0] ad4) (z' acx) (z' Xg) (z' acw) (E8 112 0 [1] aeT)
 (λ_ h1 _ _ h=>NN abQ avS (.k (KX abP avT h1) .n) .n (.trans (by kernel_rfl) h))
 (λ_ ah _ _ h=>NN abP avT .n (.k (O4 ad4 ah) .n) (.trans (by kernel_rfl) h))
 (λ_ _ ah bJ _ _ h=>O3 ad4 ah (.k (KX acx awd bJ) .n) .n (.trans (by kernel_rfl) h))
 (λ_ ea _ _ h=>NN acx awd (.k (KX Xg aeA ea) .n) .n (.trans (by kernel_rfl) h))
 (λ_ _ _ ea hi q0 _ _ h=>NN Xg aeA (.k aD9 (.k ark (.k ar7 (.k alo (.k (KX Xg aeA ea) (.k (KX acw awe hi) .n)))))) (.k aDX (.k (O4 aeT q0) (.k aDY .n))) (.trans (by kernel_rfl) h))
 (λ_ h0 _ _ h=>NN acw awe (.k (KX abQ avS h0) .n) .n (.trans (by kernel_rfl) h))
 (λ_ _ ea q0 _ _ h=>O3 aeT q0 (.k (KX Xg aeA ea) .n) .n (.trans (by kernel_rfl) h))
theorem ar8 :hT Xg PY:= .of aeA aBn.2.2.2.2.1
def Ub(c':gJ×Int×ao):Option (Bool):=
 match c' with
 | (s,t,v)=>
 PY ((⟨s.Types⟩:gJ),t,ao.eta v,false) >>=λr=>some r
theorem aAH :hR anD:= .m (by kernel_rfl)
theorem aES :hT anD Ub:= .fn aAH (.k ar8 .n) .n λ_=>by kernel_rfl
def alx(c':gJ×Int×ao):Option (Int):=
 match c' with
 | (s,t,v)=>
 aqN ((⟨s.Types⟩:gJ),t) >>=λr=>if(!(decide (r=0)))=true then some r
 else Ub ((⟨s.Types⟩:gJ),t,ao.eta v) >>=λh8=>if(!h8)=true then some 1
 else some 0
def S8(c':gJ×Int):Option (Int):=
 match c' with
 | (s,t)=>
 aby s >>=λr=>if(!(decide (r=0)))=true then some r
 else if(bif decide (t < 0)then true else decide ((s.Types.length:Int)<=t))=true then some 4
 else some 0
theorem aAG :hR anC:= .m (by kernel_rfl)
theorem aDZ :hT anC S8:= .fn aAG (.k aD8 .n) .n λ_=>by kernel_rfl
def Rx(c':gJ×Int×ao):Option (Int):=
 match c' with
 | (s,t,v)=>
 S8 (s,t) >>=λr=>if(!(decide (r=0)))=true then some r
 else Ub (s,t,ao.eta v) >>=λh8=>if(!h8)=true then some 1
 else some 0
theorem aAr :hR anr:= .m (by kernel_rfl)
theorem alp :hT anr Rx:= .fn aAr (.k aDZ (.k aES .n)) .n λ_=>by kernel_rfl
def Rz(c':cm×ao):Option (Bool):=
 match c' with
 | (b7,v)=>
 if(!(decide (b7.Kind=4)))=true then some false
 else aen (b7,v.bo) >>=λr=>some (!r.2)
theorem aAI :hR anE:= .m (by kernel_rfl)
theorem ah0 :hT anE Rz:= .fn aAI (.k ark .n) .n λ_=>by kernel_rfl
def ahD(c':ao×List cm×cm):Option (Bool×List cm×cm):=
 match c' with
 | (k,b,k3)=>
 if eh k3.Key b.length=true then Rz (b.getD k3.Key.toNat e1,ao.eta k) >>=λr=>some (r,b,k3)
 else none
theorem aJh :hR amV:= .m (by kernel_rfl)
theorem aD' :hT amV ahD:= .fn aJh (.k ah0 .n) .n λ_=>by kernel_rfl
def Wn(c':List ao×Int×Int×List cm×cm):Option ((Int×List cm×cm) ⊕ (List cm×cm)):=
 match c' with
 | (KU,Rh,t8,YD,aiP)=>
 if decide (t8 < Rh)=true then if eh t8 KU.length=true then ahD (ao.eta (KU.getD t8.toNat e2),YD,aiP) >>=λr=>if r.1=true then some (.inl (t8,r.2.1,r.2.2))
 else Wn (KU,Rh,hO .i64 t8 1,r.2.1,r.2.2)
 else none
 else some (.inr (YD,aiP))
  partial_fixpoint
theorem aBo :xe 192 2 [0] avO Wn:= .rc Wn.partial_correctness (.k aD' .n) .n λ_ _=>by kernel_rfl
def akM(c':List ao×List cm×cm):Option (Int×List cm×cm):=
 match c' with
 | (s,b,k3)=>
 Wn (s,(s.length:Int),0,b,k3) >>=λo=>match o with
 | .inl ho=>
 some (ho.1,ho.2.1,ho.2.2)
 | .inr hV=>
 some ((-1),hV.1,hV.2)
theorem aGe :hR alS:= .m (by kernel_rfl)
theorem aB1 :hT alS akM:= .fn aGe .n (.k aBo .n) λ_=>by kernel_rfl
def akK(c':List ao×List cm×cm):Option (Bool×List cm×cm):=
 match c' with
 | (s,b,k3)=>
 akM (s,b,k3) >>=λr=>some (decide (0<=r.1),r.2.1,r.2.2)
theorem aGf :hR alT:= .m (by kernel_rfl)
theorem aBY :hT alT akK:= .fn aGf (.k aB1 .n) .n λ_=>by kernel_rfl
def abn(c':gJ×cm×ao):Option (Bool):=
 match c' with
 | (s,b7,v)=>
 akK (v.e0,s.Types,b7) >>=λr=>some r.1
theorem aAJ :hR anF:= .m (by kernel_rfl)
theorem alK :hT anF abn:= .fn aAJ (.k aBY .n) .n λ_=>by kernel_rfl
def Vi(c':Int×Int×cm×ao×List Na):Option (List Na):=
 match c' with
 | (akd,t12,k3,l3,l0)=>
 if decide (t12 < akd)=true then if decide (k3.Kind=5)=true then if eh t12 k3.cy.length=true then if eh t12 k3.cy.length=true then some [(⟨(k3.cy.getD t12.toNat hL).ki,(k3.cy.getD t12.toNat hL).bo⟩:Na)] >>=λt40=>if room 16 (l0++t40).length=true then Vi (akd,hO .i64 t12 1,k3,ao.eta l3,l0++t40)
 else none
 else none
 else none
 else if decide (k3.Kind=6)=true then S7 (k3,l3.bo) >>=λr=>if eh r.1 k3.cy.length=true then some [(⟨(k3.cy.getD r.1.toNat hL).ki,l3.bo⟩:Na)] >>=λt61=>if room 16 (l0++t61).length=true then Vi (akd,hO .i64 t12 1,k3,ao.eta l3,l0++t61)
 else none
 else none
 else some [(⟨k3.hZ,t12⟩:Na)] >>=λt22=>if room 16 (l0++t22).length=true then Vi (akd,hO .i64 t12 1,k3,ao.eta l3,l0++t22)
 else none
 else some l0
  partial_fixpoint
theorem aCm :xe 89 0 [0] auC Vi:= .rc Vi.partial_correctness (.k alo .n) .n λ_ _=>by kernel_rfl
def Ua(c':cm×ao):Option (List Na):=
 match c' with
 | (b7,v)=>
 Vi ((v.b9.length:Int),0,b7,ao.eta v,[]) >>=λo=>some o
theorem aAK :hR anG:= .m (by kernel_rfl)
theorem ahw :hT anG Ua:= .fn aAK .n (.k aCm .n) λ_=>by kernel_rfl
mutual
def Yi(c':gJ×Int×ao×List Int):Option (List (List Int)):=
 match c' with
 | (s,t,v,b)=>
 if eh t s.Types.length=true then some (s.Types.getD t.toNat e1) >>=λb7=>some (decide (0 < (v.Rest.length:Int))) >>=λt21=>(if(!t21)=true then Rz (b7,ao.eta v)else some false) >>=λr=>some (bif t21 then true else r) >>=λt26=>(if(!t26)=true then abn (s,b7,ao.eta v)else some false) >>=λh8=>if(bif t26 then true else h8)=true then some [b] >>=λt35=>if room 24 t35.length=true then Ua (b7,ao.eta v) >>=λy1=>Yb (b,y1,(y1.length:Int),0,s.Types,ao.eta v,t35) >>=λo=>some o
 else none
 else Ua (b7,ao.eta v) >>=λJs=>Yb (b,Js,(Js.length:Int),0,s.Types,ao.eta v,[]) >>=λho=>some ho
 else none
  partial_fixpoint
def Yb(c':List Int×List Na×Int×Int×List cm×ao×List (List Int)):Option (List (List Int)):=
 match c' with
 | (path,t39,agX,t41,l0,s3,QT)=>
 if decide (t41 < agX)=true then if eh t41 t39.length=true then some (t39.getD t41.toNat abm) >>=λvx=>if eh t41 s3.b9.length=true then MS 8 path >>=λE1=>some [vx.number] >>=λt59=>if room 8 (E1++t59).length=true then Yi ((⟨l0⟩:gJ),vx.t,ao.eta (s3.b9.getD t41.toNat e2),E1++t59) >>=λJB=>if room 24 (QT++JB).length=true then Yb (path,t39,agX,hO .i64 t41 1,l0,ao.eta s3,QT++JB)
 else none
 else none
 else none
 else none
 else some QT
  partial_fixpoint
end
theorem al8 :hR aam:= .m (by kernel_rfl)
theorem aCJ :(∀h r,Yi h=some r->z' aam h r)/\(∀h r,Yb h=some r->E8 54 1 [0] aeF h r):=Yi.mutual_partial_correctness (z' aam) (E8 54 1 [0] aeF)
 (λ_ h1 _ _ h=>NN aam al8 (.k ah0 (.k alK (.k ahw .n))) (.k (O4 aeF h1) .n) (.trans (by kernel_rfl) h))
 (λ_ _ h0 h1 _ _ h=>O3 aeF h1 (.k ZR (.k (KX aam al8 h0) .n)) .n (.trans (by kernel_rfl) h))
theorem aD0 :hT aam Yi:= .of al8 aCJ.1
def W2(c':List Int×List Na×Int×Int×List cm×ao×List (List Int)):Option (List (List Int)):=
 match c' with
 | (UR,t39,agX,t41,l3,l0,s3)=>
 if decide (t41 < agX)=true then if eh t41 t39.length=true then some (t39.getD t41.toNat abm) >>=λvx=>if eh t41 l0.b9.length=true then MS 8 UR >>=λE1=>some [vx.number] >>=λt59=>if room 8 (E1++t59).length=true then Yi ((⟨l3⟩:gJ),vx.t,ao.eta (l0.b9.getD t41.toNat e2),E1++t59) >>=λJB=>if room 24 (s3++JB).length=true then W2 (UR,t39,agX,hO .i64 t41 1,l3,ao.eta l0,s3++JB)
 else none
 else none
 else none
 else none
 else some s3
  partial_fixpoint
theorem aCn :xe 54 0 [0] au3 W2:= .rc W2.partial_correctness (.k ZR (.k aD0 .n)) .n λ_ _=>by kernel_rfl
def aew(c':gJ×Int×ao×List Int):Option (List (List Int)):=
 match c' with
 | (s,t,v,path)=>
 if eh t s.Types.length=true then some (s.Types.getD t.toNat e1) >>=λb7=>some (decide (0 < (v.Rest.length:Int))) >>=λt21=>(if(!t21)=true then Rz (b7,ao.eta v)else some false) >>=λr=>some (bif t21 then true else r) >>=λt26=>(if(!t26)=true then abn (s,b7,ao.eta v)else some false) >>=λh8=>if(bif t26 then true else h8)=true then some [path] >>=λt35=>if room 24 t35.length=true then Ua (b7,ao.eta v) >>=λy1=>W2 (path,y1,(y1.length:Int),0,s.Types,ao.eta v,t35) >>=λo=>some o
 else none
 else Ua (b7,ao.eta v) >>=λJs=>W2 (path,Js,(Js.length:Int),0,s.Types,ao.eta v,[]) >>=λho=>some ho
 else none
theorem aHs :hR ant:= .m (by kernel_rfl)
theorem aDD :hT ant aew:= .fn aHs (.k ah0 (.k alK (.k ahw .n))) (.k aCn .n) λ_=>by kernel_rfl
def abB(c':gJ×Int×ao):Option (List (List Int)×Int):=
 match c' with
 | (s,t,v)=>
 Rx (s,t,ao.eta v) >>=λr=>if(!(decide (r=0)))=true then some ([],r)
 else aew (s,t,ao.eta v,[]) >>=λh8=>some (h8,0)
theorem aDE :hT afb abB:= .fn atY (.k alp (.k aDD .n)) .n λ_=>by kernel_rfl
def abC(c':gJ×Int×ao):Option (Bool):=
 match c' with
 | (s,t,v)=>
 PY (s,t,ao.eta v,true) >>=λr=>some r
theorem aAw :hR anA:= .m (by kernel_rfl)
theorem aDF :hT anA abC:= .fn aAw (.k ar8 .n) .n λ_=>by kernel_rfl
mutual
def Vm(c':gJ×Int×ao×ao):Option (ao):=
 match c' with
 | (s,t,JJ,fresh)=>
 if eh t s.Types.length=true then some (s.Types.getD t.toNat e1) >>=λb7=>MS 120 fresh.b9 >>=λr=>if decide (b7.Kind=5)=true then MS 24 JJ.Rest >>=λh8=>Ua (b7,ao.eta fresh) >>=λy1=>Vj (y1,(y1.length:Int),0,s.Types,ao.eta JJ,ao.eta fresh,0,false,0,[],0,fresh.Kind,fresh.kt,fresh.hX,fresh.hG,fresh.bo,fresh.e0,h8,r) >>=λo=>some (⟨o.2.2.2.2.2.1,o.2.2.2.2.2.2.1,o.2.2.2.2.2.2.2.1,o.2.2.2.2.2.2.2.2.1,o.2.2.2.2.2.2.2.2.2.1,o.2.2.2.2.2.2.2.2.2.2.1,o.2.2.2.2.2.2.2.2.2.2.2.2,o.2.2.2.2.2.2.2.2.2.2.2.1⟩:ao)
 else if decide (b7.Kind=6)=true then if(bif (!(decide (JJ.bo=fresh.bo)))then true else decide ((JJ.b9.length:Int)=0))=true then some (⟨fresh.Kind,fresh.kt,fresh.hX,fresh.hG,fresh.bo,fresh.e0,r,fresh.Rest⟩:ao)
 else Ua (b7,ao.eta fresh) >>=λJs=>Vj (Js,(Js.length:Int),0,s.Types,ao.eta JJ,ao.eta fresh,0,false,0,[],0,fresh.Kind,fresh.kt,fresh.hX,fresh.hG,fresh.bo,fresh.e0,fresh.Rest,r) >>=λho=>some (⟨ho.2.2.2.2.2.1,ho.2.2.2.2.2.2.1,ho.2.2.2.2.2.2.2.1,ho.2.2.2.2.2.2.2.2.1,ho.2.2.2.2.2.2.2.2.2.1,ho.2.2.2.2.2.2.2.2.2.2.1,ho.2.2.2.2.2.2.2.2.2.2.2.2,ho.2.2.2.2.2.2.2.2.2.2.2.1⟩:ao)
 else if decide (b7.Kind=9)=true then if decide ((JJ.b9.length:Int)=0)=true then some (⟨fresh.Kind,fresh.kt,fresh.hX,fresh.hG,fresh.bo,fresh.e0,r,fresh.Rest⟩:ao)
 else Ua (b7,ao.eta fresh) >>=λE1=>Vj (E1,(E1.length:Int),0,s.Types,ao.eta JJ,ao.eta fresh,0,false,0,[],0,fresh.Kind,fresh.kt,fresh.hX,fresh.hG,fresh.bo,fresh.e0,fresh.Rest,r) >>=λhV=>some (⟨hV.2.2.2.2.2.1,hV.2.2.2.2.2.2.1,hV.2.2.2.2.2.2.2.1,hV.2.2.2.2.2.2.2.2.1,hV.2.2.2.2.2.2.2.2.2.1,hV.2.2.2.2.2.2.2.2.2.2.1,hV.2.2.2.2.2.2.2.2.2.2.2.2,hV.2.2.2.2.2.2.2.2.2.2.2.1⟩:ao)
 else some (⟨fresh.Kind,fresh.kt,fresh.hX,fresh.hG,fresh.bo,fresh.e0,r,fresh.Rest⟩:ao)
 else none
  partial_fixpoint
def Vj(c':List Na×Int×Int×List cm×ao×ao×Int×Bool×Int×List UInt8×Int×Int×Bool×Int×List UInt8×Int×List ao×List C2×List ao):Option (Int×Bool×Int×List UInt8×Int×Int×Bool×Int×List UInt8×Int×List ao×List C2×List ao):=
 match c' with
 | (t55,ayM,t57,Xc,VJ,VK,Xd,YC,aac,aiJ,aiK,aiL,aiM,aiN,aco,aiO,ae5,VL,aad)=>
 if decide (t57 < ayM)=true then if eh t57 t55.length=true then if eh t57 VJ.b9.length=true then if eh t57 VK.b9.length=true then Vm ((⟨Xc⟩:gJ),(t55.getD t57.toNat abm).t,ao.eta (VJ.b9.getD t57.toNat e2),ao.eta (VK.b9.getD t57.toNat e2)) >>=λJB=>if eh t57 aad.length=true then if decide (t57.toNat < aad.length)=true then Vj (t55,ayM,hO .i64 t57 1,Xc,ao.eta VJ,ao.eta VK,Xd,YC,aac,aiJ,aiK,aiL,aiM,aiN,aco,aiO,ae5,VL,aad.set t57.toNat (ao.eta JB))
 else none
 else none
 else none
 else none
 else none
 else some (Xd,YC,aac,aiJ,aiK,aiL,aiM,aiN,aco,aiO,ae5,VL,aad)
  partial_fixpoint
end
theorem anB :hR aan:= .m (by kernel_rfl)
theorem aD1 :(∀h r,Vm h=some r->z' aan h r)/\(∀h r,Vj h=some r->E8 68 0 [0] afk h r):=Vm.mutual_partial_correctness (z' aan) (E8 68 0 [0] afk)
 (λ_ h1 _ _ h=>NN aan anB (.k ZL (.k abq (.k ahw .n))) (.k (O4 afk h1) .n) (.trans (by kernel_rfl) h))
 (λ_ _ h0 h1 _ _ h=>O3 afk h1 (.k (KX aan anB h0) .n) .n (.trans (by kernel_rfl) h))
theorem aDG :hT aan Vm:= .of anB aD1.1
def Yk(c':gJ×Int×ao×ao):Option (ao×Int):=
 match c' with
 | (s,t,JJ,new)=>
 Rx (s,t,ao.eta JJ) >>=λr=>if(!(decide (r=0)))=true then some ((⟨0,false,0,[],0,[],[],[]⟩:ao),r)
 else abC (s,t,ao.eta new) >>=λh8=>if(!h8)=true then some ((⟨0,false,0,[],0,[],[],[]⟩:ao),1)
 else Vm (s,t,ao.eta JJ,ao.eta new) >>=λy1=>some (ao.eta y1,0)
theorem aDH :hT afc Yk:= .fn auc (.k alp (.k aDF (.k aDG .n))) .n λ_=>by kernel_rfl
def TY(t:cm):Option (cm):=
 if decide (t.Kind=1)=true then some (⟨t.Kind,[],0,0,0,[],[],0,0,false⟩:cm)
 else if decide (t.Kind=2)=true then some (⟨t.Kind,[],t.jb,t.i',0,[],[],0,0,false⟩:cm)
 else if decide (t.Kind=3)=true then some (⟨t.Kind,[],0,0,t.Max,[],[],0,0,false⟩:cm)
 else if decide (t.Kind=4)=true then some (⟨t.Kind,t.Name,0,0,0,t.hq,[],0,0,t.Open⟩:cm)
 else if decide (t.Kind=5)=true then some (⟨t.Kind,t.Name,0,0,0,[],t.cy,0,0,false⟩:cm)
 else if decide (t.Kind=6)=true then some (⟨t.Kind,t.Name,0,0,0,[],t.cy,0,0,t.Open⟩:cm)
 else if decide (t.Kind=7)=true then some (⟨t.Kind,[],0,0,t.Max,[],[],0,t.hZ,false⟩:cm)
 else if decide (t.Kind=8)=true then some (⟨t.Kind,[],0,0,t.Max,[],[],t.Key,t.hZ,false⟩:cm)
 else some (⟨t.Kind,[],0,0,0,[],[],0,t.hZ,false⟩:cm)
theorem aJi :hR atO:= .m (by kernel_rfl)
theorem aC1 :hT atO TY:= .fn aJi .n .n λ_=>by kernel_rfl
def Ws(c':Int×ao×ao):Option ((Bool) ⊕ (ao×ao)):=
 match c' with
 | (i,l0,s3)=>
 if decide (i < (l0.Rest.length:Int))=true then if eh i l0.Rest.length=true then some (l0.Rest.getD i.toNat ka) >>=λb7=>if eh i s3.Rest.length=true then some (s3.Rest.getD i.toNat ka) >>=λvx=>if(!(NQ b7.bo vx.bo && (O9 b7.Data vx.Data && true)))=true then some (.inl false)
 else Ws (hO .i64 i 1,ao.eta l0,ao.eta s3)
 else none
 else none
 else some (.inr (ao.eta l0,ao.eta s3))
  partial_fixpoint
theorem aB7 :xe 65 0 [0] aut Ws:= .rc Ws.partial_correctness .n .n λ_ _=>by kernel_rfl
mutual
def U7(c':ao×ao):Option (Bool):=
 match c' with
 | (a,b)=>
 if(bif bif bif bif bif (!(decide (a.Kind=b.Kind)))then true else(!(J0 a.kt b.kt))then true else(!(decide (a.hX=b.hX)))then true else(!(decide (a.hG=b.hG)))then true else(!(decide (a.bo=b.bo)))then true else(!(decide ((a.Rest.length:Int)=(b.Rest.length:Int)))))=true then some false
 else Ws (0,(⟨a.Kind,a.kt,a.hX,a.hG,a.bo,a.e0,a.b9,a.Rest⟩:ao),(⟨b.Kind,b.kt,b.hX,b.hG,b.bo,b.e0,b.b9,b.Rest⟩:ao)) >>=λo=>match o with
 | .inl ho=>
 some ho
 | .inr hV=>
 adR (hV.1.e0,hV.2.e0) >>=λr=>(if r=true then adR (hV.1.b9,hV.2.b9)else some false) >>=λh8=>some (bif r then h8 else false)
  partial_fixpoint
def adR(c':List ao×List ao):Option (Bool):=
 match c' with
 | (a,b)=>
 if(!(decide ((a.length:Int)=(b.length:Int))))=true then some false
 else abH (a,b,0) >>=λo=>match o with
 | .inl ho=>
 some ho
 | .inr hV=>
 some true
  partial_fixpoint
def abH(c':List ao×List ao×Int):Option ((Bool) ⊕ (Unit)):=
 match c' with
 | (QO,k3,i)=>
 if decide (i < (QO.length:Int))=true then if eh i QO.length=true then if eh i k3.length=true then U7 (ao.eta (QO.getD i.toNat e2),ao.eta (k3.getD i.toNat e2)) >>=λr=>if(!r)=true then some (.inl false)
 else abH (QO,k3,hO .i64 i 1)
 else none
 else none
 else some (.inr ())
  partial_fixpoint
end
theorem anz :hR acC:= .m (by kernel_rfl)
theorem awf :hR afa:= .m (by kernel_rfl)
theorem aB' :(∀h r,U7 h=some r->z' acC h r)/\(∀h r,adR h=some r->z' afa h r)/\(∀h r,abH h=some r->E8 105 0 [0] aeU h r):=U7.mutual_partial_correctness (z' acC) (z' afa) (E8 105 0 [0] aeU)
 (λ_ h1 _ _ h=>NN acC anz (.k (KX afa awf h1) .n) (.k aB7 .n) (.trans (by kernel_rfl) h))
 (λ_ ah _ _ h=>NN afa awf .n (.k (O4 aeU ah) .n) (.trans (by kernel_rfl) h))
 (λ_ _ h0 ah _ _ h=>O3 aeU ah (.k (KX acC anz h0) .n) .n (.trans (by kernel_rfl) h))
theorem aqY :hT acC U7:= .of anz aB'.1
def adS(c':em×em):Option (Bool):=
 match c' with
 | (a,b)=>
 some (bif bif bif bif decide (a.bo=b.bo)then decide (a.Name=b.Name)else false then decide (a.ki=b.ki)else false then J0 a.Is b.Is else false then J0 a.x' b.x' else false) >>=λt37=>(if t37=true then U7 ((⟨a.oo.Kind,a.oo.kt,a.oo.hX,a.oo.hG,a.oo.bo,a.oo.e0,a.oo.b9,a.oo.Rest⟩:ao),(⟨b.oo.Kind,b.oo.kt,b.oo.hX,b.oo.hG,b.oo.bo,b.oo.e0,b.oo.b9,b.oo.Rest⟩:ao))else some false) >>=λr=>some (bif t37 then r else false)
theorem aJj :hR atU:= .m (by kernel_rfl)
theorem aCd :hT atU adS:= .fn aJj (.k aqY .n) .n λ_=>by kernel_rfl
def WL(c':Int×cm×cm):Option ((Bool) ⊕ (cm×cm)):=
 match c' with
 | (i,l0,s3)=>
 if decide (i < (l0.hq.length:Int))=true then if eh i l0.hq.length=true then some (l0.hq.getD i.toNat wm) >>=λb7=>if eh i s3.hq.length=true then some (s3.hq.getD i.toNat wm) >>=λvx=>if(!(NQ b7.bo vx.bo && (O9 b7.Name vx.Name && true)))=true then some (.inl false)
 else WL (hO .i64 i 1,l0,s3)
 else none
 else none
 else some (.inr (l0,s3))
  partial_fixpoint
theorem aCa :xe 114 0 [0] av9 WL:= .rc WL.partial_correctness .n .n λ_ _=>by kernel_rfl
def WM(c':Int×cm×cm):Option ((Bool) ⊕ (Unit)):=
 match c' with
 | (M5,QT,YD)=>
 if decide (M5 < (QT.cy.length:Int))=true then if eh M5 QT.cy.length=true then some (QT.cy.getD M5.toNat hL) >>=λadt=>if eh M5 YD.cy.length=true then some (YD.cy.getD M5.toNat hL) >>=λXS=>adS ((⟨adt.bo,adt.Name,adt.ki,adt.Is,adt.x',ao.eta adt.oo⟩:em),(⟨XS.bo,XS.Name,XS.ki,XS.Is,XS.x',ao.eta XS.oo⟩:em)) >>=λr=>if(!r)=true then some (.inl false)
 else WM (hO .i64 M5 1,QT,YD)
 else none
 else none
 else some (.inr ())
  partial_fixpoint
theorem aCb :xe 114 0 [1] av' WM:= .rc WM.partial_correctness (.k aCd .n) .n λ_ _=>by kernel_rfl
def ahR(c':cm×cm):Option (Bool):=
 match c' with
 | (a,b)=>
 if(bif bif bif bif bif bif bif bif bif (!(decide (a.Kind=b.Kind)))then true else(!(decide (a.Name=b.Name)))then true else(!(decide (a.jb=b.jb)))then true else(!(decide (a.i'=b.i')))then true else(!(decide (a.Max=b.Max)))then true else(!(decide (a.Key=b.Key)))then true else(!(decide (a.hZ=b.hZ)))then true else(!(J0 a.Open b.Open))then true else(!(decide ((a.hq.length:Int)=(b.hq.length:Int))))then true else(!(decide ((a.cy.length:Int)=(b.cy.length:Int)))))=true then some false
 else WL (0,(⟨a.Kind,a.Name,a.jb,a.i',a.Max,a.hq,a.cy,a.Key,a.hZ,a.Open⟩:cm),(⟨b.Kind,b.Name,b.jb,b.i',b.Max,b.hq,b.cy,b.Key,b.hZ,b.Open⟩:cm)) >>=λo=>match o with
 | .inl ho=>
 some ho
 | .inr hV=>
 WM (0,hV.1,hV.2) >>=λLd=>match Ld with
 | .inl J9=>
 some J9
 | .inr r0=>
 some true
theorem aJk :hR atN:= .m (by kernel_rfl)
theorem aBC :hT atN ahR:= .fn aJk .n (.k aCa (.k aCb .n)) λ_=>by kernel_rfl
def adX(b:Int):Option (Bool):=
 some (bif bif bif decide (97<=b)then decide (b<=122)else false then true else bif decide (65<=b)then decide (b<=90)else false then true else decide (b=95))
theorem aJl :hR atV:= .m (by kernel_rfl)
theorem aqZ :hT atV adX:= .fn aJl .n .n λ_=>by kernel_rfl
def ahV(b:Int):Option (Bool):=
 some (bif decide (48<=b)then decide (b<=57)else false)
theorem aJm :hR atW:= .m (by kernel_rfl)
theorem aC2 :hT atW ahV:= .fn aJm .n .n λ_=>by kernel_rfl
def WR(c':List UInt8×Int):Option ((Bool) ⊕ (Unit)):=
 match c' with
 | (KU,i)=>
 if decide (i < (KU.length:Int))=true then if eh i KU.length=true then adX (Vv KU i) >>=λh8=>some (!h8) >>=λt27=>if(eh i KU.length || (!t27))=true then (if t27=true then ahV (Vv KU i)else some false) >>=λy1=>if(bif t27 then(!y1)else false)=true then some (.inl false)
 else WR (KU,hO .i64 i 1)
 else none
 else none
 else some (.inr ())
  partial_fixpoint
theorem aCk :xe 116 0 [0] awa WR:= .rc WR.partial_correctness (.k aqZ (.k aC2 .n)) .n λ_ _=>by kernel_rfl
def ZN(s:List UInt8):Option (Bool):=
 some (bif decide (s=[])then true else decide (24 < (s.length:Int))) >>=λt10=>if(eh 0 s.length || (!(!t10)))=true then (if(!t10)=true then adX (Vv s 0)else some false) >>=λr=>if(bif t10 then true else(!r))=true then some false
 else WR (s,0) >>=λo=>match o with
 | .inl ho=>
 some ho
 | .inr hV=>
 some true
 else none
theorem aJn :hR atP:= .m (by kernel_rfl)
theorem akO :hT atP ZN:= .fn aJn (.k aqZ .n) (.k aCk .n) λ_=>by kernel_rfl
def aej(c':Int×Int):Option (Bool):=
 match c' with
 | (before,n)=>
 some (bif bif decide (before < n)then decide (1<=n)else false then decide (n<=1000)else false)
theorem aJo :hR atX:= .m (by kernel_rfl)
theorem ard :hT atX aej:= .fn aJo .n .n λ_=>by kernel_rfl
def U2(c':List ri×Int×Int):Option ((Bool) ⊕ (List ri×Int)):=
 match c' with
 | (UK,M6,k)=>
 if decide (k < M6)=true then if eh k UK.length=true then if eh M6 UK.length=true then if decide ((UK.getD k.toNat wm).Name=(UK.getD M6.toNat wm).Name)=true then some (.inl false)
 else U2 (UK,M6,hO .i64 k 1)
 else none
 else none
 else some (.inr (UK,M6))
  partial_fixpoint
theorem aB8 :xe 117 0 [0,0] avP U2:= .rc U2.partial_correctness .n .n λ_ _=>by kernel_rfl
def WN(c':List ri×Int×Int):Option ((Bool) ⊕ (List ri)):=
 match c' with
 | (Ns,before,i)=>
 if decide (i < (Ns.length:Int))=true then if eh i Ns.length=true then aej (before,(Ns.getD i.toNat wm).bo) >>=λr=>some (!r) >>=λt19=>if(eh i Ns.length || (!(!t19)))=true then (if(!t19)=true then ZN (Ns.getD i.toNat wm).Name else some false) >>=λh8=>if(bif t19 then true else(!h8))=true then some (.inl false)
 else U2 (Ns,i,0) >>=λLd=>match Ld with
 | .inl J9=>
 some (.inl J9)
 | .inr r0=>
 if eh r0.2 r0.1.length=true then WN (r0.1,(r0.1.getD r0.2.toNat wm).bo,hO .i64 r0.2 1)
 else none
 else none
 else none
 else some (.inr Ns)
  partial_fixpoint
theorem aCe :xe 117 0 [0] awb WN:= .rc WN.partial_correctness (.k ard (.k akO .n)) (.k aB8 .n) λ_ _=>by kernel_rfl
def adU(l:List ri):Option (Bool):=
 WN (l,0,0) >>=λo=>match o with
 | .inl ho=>
 some ho
 | .inr hV=>
 some (bif decide (1<=(hV.length:Int))then decide ((hV.length:Int)<=16)else false)
theorem aJp :hR atQ:= .m (by kernel_rfl)
theorem aBN :hT atQ adU:= .fn aJp .n (.k aCe .n) λ_=>by kernel_rfl
def Vw(c':List em×Bool×Int×Int×em):Option ((Bool) ⊕ (List em×Bool×Int×em)):=
 match c' with
 | (UK,ayq,M6,k,k3)=>
 if decide (k < M6)=true then if eh k UK.length=true then if decide ((UK.getD k.toNat hL).Name=k3.Name)=true then some (.inl false)
 else Vw (UK,ayq,M6,hO .i64 k 1,(⟨k3.bo,k3.Name,k3.ki,k3.Is,k3.x',ao.eta k3.oo⟩:em))
 else none
 else some (.inr (UK,ayq,M6,(⟨k3.bo,k3.Name,k3.ki,k3.Is,k3.x',ao.eta k3.oo⟩:em)))
  partial_fixpoint
theorem aB9 :xe 118 0 [0,0] avQ Vw:= .rc Vw.partial_correctness .n .n λ_ _=>by kernel_rfl
def WO(c':List em×Bool×Int×Int):Option ((Bool) ⊕ (List em×Bool)):=
 match c' with
 | (Ns,apz,before,i)=>
 if decide (i < (Ns.length:Int))=true then if eh i Ns.length=true then some (Ns.getD i.toNat hL) >>=λb7=>aej (before,b7.bo) >>=λr=>some (!r) >>=λt23=>(if(!t23)=true then ZN b7.Name else some false) >>=λh8=>if(bif bif bif t23 then true else(!h8)then true else bif b7.Is then b7.x' else false then true else bif (!apz)then bif b7.Is then true else b7.x' else false)=true then some (.inl false)
 else some (!b7.x') >>=λt52=>(if t52=true then U7 (ao.eta b7.oo,(⟨0,false,0,[],0,[],[],[]⟩:ao))else some false) >>=λy1=>if(bif t52 then(!y1)else false)=true then some (.inl false)
 else Vw (Ns,apz,i,0,(⟨b7.bo,b7.Name,b7.ki,b7.Is,b7.x',ao.eta b7.oo⟩:em)) >>=λLd=>match Ld with
 | .inl J9=>
 some (.inl J9)
 | .inr r0=>
 WO (r0.1,r0.2.1,r0.2.2.2.bo,hO .i64 r0.2.2.1 1)
 else none
 else some (.inr (Ns,apz))
  partial_fixpoint
theorem aCf :xe 118 0 [0] awc WO:= .rc WO.partial_correctness (.k ard (.k akO (.k aqY .n))) (.k aB9 .n) λ_ _=>by kernel_rfl
def abI(c':List em×Bool):Option (Bool):=
 match c' with
 | (l,record)=>
 WO (l,record,0,0) >>=λo=>match o with
 | .inl ho=>
 some ho
 | .inr hV=>
 some (bif decide ((hV.1.length:Int)<=16)then bif hV.2 then true else decide (1<=(hV.1.length:Int))else false)
theorem aJq :hR atS:= .m (by kernel_rfl)
theorem aBO :hT atS abI:= .fn aJq .n (.k aCf .n) λ_=>by kernel_rfl
def M9(t:cm):Option (Bool):=
 some (bif decide (t.Kind < 1)then true else decide (9 < t.Kind)) >>=λt10=>(if(!t10)=true then TY t else some e1) >>=λr=>(if(!t10)=true then ahR (t,r)else some false) >>=λh8=>some (bif t10 then true else(!h8)) >>=λt17=>(if(!t17)=true then Rr t.Kind else some false) >>=λy1=>(if((!t17) && y1)=true then ZN t.Name else some false) >>=λJs=>if(bif t17 then true else bif y1 then(!Js)else false)=true then some false
 else if decide (t.Kind=2)=true then some (decide (t.jb<=t.i'))
 else if decide (t.Kind=3)=true then some (bif decide (0<=t.Max)then decide (t.Max<=200)else false)
 else if decide (t.Kind=4)=true then adU t.hq >>=λE1=>some E1
 else some (decide (t.Kind=5)) >>=λt54=>if t54=true then if t54=true then abI (t.cy,decide (t.Kind=5)) >>=λJB=>some JB
 else some (decide (t.Kind=7)) >>=λt63=>if t63=true then if t63=true then some (bif decide (0<=t.Max)then decide (t.Max<=50)else false)
 else some true
 else if decide (t.Kind=8)=true then some (bif decide (0<=t.Max)then decide (t.Max<=50)else false)
 else some true
 else if decide (t.Kind=6)=true then abI (t.cy,decide (t.Kind=5)) >>=λLW=>some LW
 else some (decide (t.Kind=7)) >>=λayN=>if ayN=true then if ayN=true then some (bif decide (0<=t.Max)then decide (t.Max<=50)else false)
 else some true
 else if decide (t.Kind=8)=true then some (bif decide (0<=t.Max)then decide (t.Max<=50)else false)
 else some true
theorem aAx :hR auy:= .m (by kernel_rfl)
theorem aCK :hT auy M9:= .fn aAx (.k aC1 (.k aBC (.k aq2 (.k akO (.k aBN (.k aBO .n)))))) .n λ_=>by kernel_rfl
def X8(c':Int×cm×List Int):Option (cm×List Int):=
 match c' with
 | (i,l3,l0)=>
 if decide (i < (l3.cy.length:Int))=true then if eh i l3.cy.length=true then some [(l3.cy.getD i.toNat hL).ki] >>=λt19=>if room 8 (l0++t19).length=true then X8 (hO .i64 i 1,l3,l0++t19)
 else none
 else none
 else some (l3,l0)
  partial_fixpoint
theorem aBP :xe 74 0 [0] auA X8:= .rc X8.partial_correctness .n .n λ_ _=>by kernel_rfl
def ahX(t:cm):Option (List Int):=
 X8 (0,t,[]) >>=λo=>if decide (o.1.Kind=8)=true then some [o.1.Key] >>=λt27=>if room 8 (o.2++t27).length=true then some (o.2++t27) >>=λl=>if(bif bif decide (o.1.Kind=7)then true else decide (o.1.Kind=8)then true else decide (o.1.Kind=9))=true then some [o.1.hZ] >>=λt45=>if room 8 (l++t45).length=true then some (l++t45)
 else none
 else some l
 else none
 else if(bif bif decide (o.1.Kind=7)then true else decide (o.1.Kind=8)then true else decide (o.1.Kind=9))=true then some [o.1.hZ] >>=λayJ=>if room 8 (o.2++ayJ).length=true then some (o.2++ayJ)
 else none
 else some o.2
theorem aAy :hR auz:= .m (by kernel_rfl)
theorem aDh :hT auz ahX:= .fn aAy .n (.k aBP .n) λ_=>by kernel_rfl
def Vy(c':Int×Int×List cm×Int×List UInt8×Int×Int×Int×List ri×List em×Int×Int×Bool):Option ((Int) ⊕ (Int×List cm×Int×List UInt8×Int×Int×Int×List ri×List em×Int×Int×Bool)):=
 match c' with
 | (aoO,k,O6,P5,Tj,QS,Ul,Yz,YA,W8,YB,O7,W9)=>
 if decide (k < aoO)=true then Rr P5 >>=λJs=>if(eh k O6.length || (!Js))=true then if(bif Js then decide ((O6.getD k.toNat e1).Name=Tj)else false)=true then some (.inl 1)
 else Vy (aoO,hO .i64 k 1,O6,P5,Tj,QS,Ul,Yz,YA,W8,YB,O7,W9)
 else none
 else some (.inr (aoO,O6,P5,Tj,QS,Ul,Yz,YA,W8,YB,O7,W9))
  partial_fixpoint
theorem aCg :xe 36 0 [0,0] au4 Vy:= .rc Vy.partial_correctness (.k aq2 .n) .n λ_ _=>by kernel_rfl
def X5(c':Int×List Int×Int×List cm×Int×List UInt8×Int×Int×Int×List ri×List em×Int×Int×Bool):Option ((Int) ⊕ (Int×List cm×Int×List UInt8×Int×Int×Int×List ri×List em×Int×Int×Bool)):=
 match c' with
 | (axV,l,ac3,VI,W',Xa,Xb,P6,Xc,VJ,VK,Xd,YC,aac)=>
 if decide (ac3 < (l.length:Int))=true then if eh ac3 l.length=true then some (decide (l.getD ac3.toNat 0 < 0)) >>=λt58=>if(eh ac3 l.length || (!(!t58)))=true then if(bif t58 then true else decide ((VI.length:Int)<=l.getD ac3.toNat 0))=true then some (.inl 4)
 else X5 (axV,l,hO .i64 ac3 1,VI,W',Xa,Xb,P6,Xc,VJ,VK,Xd,YC,aac)
 else none
 else none
 else some (.inr (axV,VI,W',Xa,Xb,P6,Xc,VJ,VK,Xd,YC,aac))
  partial_fixpoint
theorem aCh :xe 36 0 [1,0] au5 X5:= .rc X5.partial_correctness .n .n λ_ _=>by kernel_rfl
def WT(c':Int×List cm):Option ((Int) ⊕ (Unit)):=
 match c' with
 | (i,b)=>
 if decide (i < (b.length:Int))=true then if eh i b.length=true then some (b.getD i.toNat e1) >>=λb7=>M9 b7 >>=λr=>if(!r)=true then some (.inl 1)
 else Vy (i,0,b,b7.Kind,b7.Name,b7.jb,b7.i',b7.Max,b7.hq,b7.cy,b7.Key,b7.hZ,b7.Open) >>=λLd=>match Ld with
 | .inl J9=>
 some (.inl J9)
 | .inr r0=>
 ahX (⟨r0.2.2.1,r0.2.2.2.1,r0.2.2.2.2.1,r0.2.2.2.2.2.1,r0.2.2.2.2.2.2.1,r0.2.2.2.2.2.2.2.1,r0.2.2.2.2.2.2.2.2.1,r0.2.2.2.2.2.2.2.2.2.1,r0.2.2.2.2.2.2.2.2.2.2.1,r0.2.2.2.2.2.2.2.2.2.2.2⟩:cm) >>=λh8=>X5 (r0.1,h8,0,r0.2.1,r0.2.2.1,r0.2.2.2.1,r0.2.2.2.2.1,r0.2.2.2.2.2.1,r0.2.2.2.2.2.2.1,r0.2.2.2.2.2.2.2.1,r0.2.2.2.2.2.2.2.2.1,r0.2.2.2.2.2.2.2.2.2.1,r0.2.2.2.2.2.2.2.2.2.2.1,r0.2.2.2.2.2.2.2.2.2.2.2) >>=λapj=>match apj with
 | .inl apk=>
 some (.inl apk)
 | .inr TK=>
 some (decide (TK.2.2.1=8)) >>=λt71=>if(eh TK.2.2.2.2.2.2.2.2.2.1 TK.2.1.length || (!t71))=true then (if t71=true then akB (TK.2.1.getD TK.2.2.2.2.2.2.2.2.2.1.toNat e1).Kind else some false) >>=λy1=>if(bif t71 then(!y1)else false)=true then some (.inl 1)
 else WT (hO .i64 TK.1 1,TK.2.1)
 else none
 else none
 else some (.inr ())
  partial_fixpoint
theorem aBD :xe 36 0 [0] aul WT:= .rc WT.partial_correctness (.k aCK (.k aDh (.k aBM .n))) (.k aCg (.k aCh .n)) λ_ _=>by kernel_rfl
def X1(s:gJ):Option (Int):=
 if decide (32 < (s.Types.length:Int))=true then some 3
 else WT (0,s.Types) >>=λo=>match o with
 | .inl ho=>
 some ho
 | .inr hV=>
 some 0
theorem aAk :hR auk:= .m (by kernel_rfl)
theorem akC :hT auk X1:= .fn aAk .n (.k aBD .n) λ_=>by kernel_rfl
def U9(c':Int×Int×cm):Option ((Int×Bool) ⊕ (Unit)):=
 match c' with
 | (agh,i,b)=>
 if decide (i < (b.hq.length:Int))=true then if eh i b.hq.length=true then if decide ((b.hq.getD i.toNat wm).bo=agh)=true then some (.inl (i,true))
 else U9 (agh,hO .i64 i 1,b)
 else none
 else some (.inr ())
  partial_fixpoint
theorem aCl :xe 92 0 [0] auG U9:= .rc U9.partial_correctness .n .n λ_ _=>by kernel_rfl
def ZO(c':cm×Int):Option (Int×Bool):=
 match c' with
 | (t,id)=>
 U9 (id,0,t) >>=λo=>match o with
 | .inl ho=>
 some (ho.1,ho.2)
 | .inr hV=>
 some (0,false)
theorem aAN :hR auF:= .m (by kernel_rfl)
theorem aq0 :hT auF ZO:= .fn aAN .n (.k aCl .n) λ_=>by kernel_rfl
def WS(c':Int×Int×cm):Option ((Int×Bool) ⊕ (Unit)):=
 match c' with
 | (agh,i,b)=>
 if decide (i < (b.cy.length:Int))=true then if eh i b.cy.length=true then if decide ((b.cy.getD i.toNat hL).bo=agh)=true then some (.inl (i,true))
 else WS (agh,hO .i64 i 1,b)
 else none
 else some (.inr ())
  partial_fixpoint
theorem aBz :xe 91 0 [0] auE WS:= .rc WS.partial_correctness .n .n λ_ _=>by kernel_rfl
def QB(c':cm×Int):Option (Int×Bool):=
 match c' with
 | (t,id)=>
 WS (id,0,t) >>=λo=>match o with
 | .inl ho=>
 some (ho.1,ho.2)
 | .inr hV=>
 some (0,false)
theorem aAM :hR auD:= .m (by kernel_rfl)
theorem ahS :hT auD QB:= .fn aAM .n (.k aBz .n) λ_=>by kernel_rfl
def adY(n:Int):Option (Int):=
 if decide (0<=n)=true then some (ago .u64 2 (We .u64 n))
 else some (hO .u64 (ago .u64 2 (We .u64 (Lx .i64 0 (hO .i64 n 1)))) 1)
theorem aAS :hR auN:= .m (by kernel_rfl)
theorem aBt :hT auN adY:= .fn aAS .n .n λ_=>by kernel_rfl
def U'(c':Bool×Bool):Option (Int):=
 match c' with
 | (less,equal)=>
 if equal=true then some 0
 else if less=true then some (-1)
 else some 1
theorem aJr :hR atT:= .m (by kernel_rfl)
theorem aC3 :hT atT U':= .fn aJr .n .n λ_=>by kernel_rfl
def adV(c':ao×ao):Option (Int):=
 match c' with
 | (a,b)=>
 if(!(decide (a.Kind=b.Kind)))=true then some 0
 else if decide (a.Kind=1)=true then U' (b.kt,J0 a.kt b.kt) >>=λr=>some r
 else if decide (a.Kind=2)=true then adY a.hX >>=λh8=>adY b.hX >>=λy1=>U' (decide (h8 < y1),decide (a.hX=b.hX)) >>=λJs=>some Js
 else if decide (a.Kind=3)=true then if(!(decide ((a.hG.length:Int)=(b.hG.length:Int))))=true then U' (decide ((a.hG.length:Int) < (b.hG.length:Int)),false) >>=λE1=>some E1
 else U' (Op.bytesLess a.hG b.hG,decide (a.hG=b.hG)) >>=λJB=>some JB
 else if decide (a.Kind=4)=true then U' (decide (a.bo < b.bo),decide (a.bo=b.bo)) >>=λLW=>some LW
 else some 0
theorem aAR :hR auM:= .m (by kernel_rfl)
theorem aBQ :hT auM adV:= .fn aAR (.k aC3 (.k aBt .n)) .n λ_=>by kernel_rfl
def ZS(v:ao):Option (Bool):=
 some (bif bif bif bif bif bif bif decide (v.Kind=1)then true else(!v.kt)then bif decide (v.Kind=2)then true else decide (v.hX=0)else false then bif decide (v.Kind=3)then true else decide (v.hG=[])else false then bif bif decide (v.Kind=4)then true else decide (v.Kind=6)then true else decide (v.bo=0)else false then bif decide (v.Kind=8)then true else decide ((v.e0.length:Int)=0)else false then bif decide (5<=v.Kind)then true else decide ((v.b9.length:Int)=0)else false then bif bif decide (v.Kind=5)then true else decide (v.Kind=6)then true else decide ((v.Rest.length:Int)=0)else false)
theorem aAO :hR auH:= .m (by kernel_rfl)
theorem aDi :hT auH ZS:= .fn aAO .n .n λ_=>by kernel_rfl
def O0(c':Int×Bool):Option (Bool):=
 match c' with
 | (n,known)=>
 some (bif bif (!known)then decide (1<=n)else false then decide (n<=1000)else false)
theorem aAP :hR auI:= .m (by kernel_rfl)
theorem are :hT auI O0:= .fn aAP .n .n λ_=>by kernel_rfl
def PX(c':List C2×Int×cm):Option ((Bool) ⊕ (Unit)):=
 match c' with
 | (Qj,i,b)=>
 if decide (i < (Qj.length:Int))=true then if eh i Qj.length=true then QB (b,(Qj.getD i.toNat ka).bo) >>=λr=>if eh i Qj.length=true then O0 ((Qj.getD i.toNat ka).bo,r.2) >>=λJs=>some (!Js) >>=λt31=>some (decide (0 < i)) >>=λt34=>if(eh i Qj.length || (!((!t31) && t34)))=true then some (Lx .i64 i 1) >>=λt43=>if(eh t43 Qj.length || (!((!t31) && t34)))=true then if(bif t31 then true else bif t34 then decide ((Qj.getD i.toNat ka).bo<=(Qj.getD t43.toNat ka).bo)else false)=true then some (.inl false)
 else PX (Qj,hO .i64 i 1,b)
 else none
 else none
 else none
 else none
 else some (.inr ())
  partial_fixpoint
theorem aBR :xe 95 0 [0] auK PX:= .rc PX.partial_correctness (.k ahS (.k are .n)) .n λ_ _=>by kernel_rfl
def Yc(c':cm×List C2):Option (Bool):=
 match c' with
 | (t,l)=>
 PX (l,0,t) >>=λo=>match o with
 | .inl ho=>
 some ho
 | .inr hV=>
 some true
theorem aAQ :hR auJ:= .m (by kernel_rfl)
theorem aDj :hT auJ Yc:= .fn aAQ .n (.k aBR .n) λ_=>by kernel_rfl
def ND(c':Int×ao):Option ((Bool) ⊕ (Unit)):=
 match c' with
 | (M5,MW)=>
 if decide (M5 < (MW.e0.length:Int))=true then some (Lx .i64 M5 1) >>=λt270=>if eh t270 MW.e0.length=true then if eh M5 MW.e0.length=true then adV (ao.eta (MW.e0.getD t270.toNat e2),ao.eta (MW.e0.getD M5.toNat e2)) >>=λagM=>if decide (0<=agM)=true then some (.inl false)
 else ND (hO .i64 M5 1,ao.eta MW)
 else none
 else none
 else some (.inr ())
  partial_fixpoint
theorem aBu :xe 60 0 [1] aus ND:= .rc ND.partial_correctness (.k aBQ .n) .n λ_ _=>by kernel_rfl
mutual
def Vg(c':gJ×Int×List ao×Bool):Option (Bool):=
 match c' with
 | (s,t,l,plain)=>
 QD (t,l,plain,0,s.Types) >>=λo=>match o with
 | .inl ho=>
 some ho
 | .inr hV=>
 some true
  partial_fixpoint
def NM(c':gJ×Int×ao×Bool):Option (Bool):=
 match c' with
 | (s,t,v,plain)=>
 if(bif decide (t < 0)then true else decide ((s.Types.length:Int)<=t))=true then some false
 else if eh t s.Types.length=true then some (s.Types.getD t.toNat e1) >>=λb7=>some (!(decide (v.Kind=b7.Kind))) >>=λt34=>(if(!t34)=true then ZS (ao.eta v)else some false) >>=λr=>if(bif bif t34 then true else(!r)then true else bif plain then decide (0 < (v.Rest.length:Int))else false)=true then some false
 else if decide (b7.Kind=1)=true then some true
 else if decide (b7.Kind=2)=true then some (bif decide (b7.jb<=v.hX)then decide (v.hX<=b7.i')else false)
 else if decide (b7.Kind=3)=true then some (decide ((v.hG.length:Int)<=b7.Max))
 else if decide (b7.Kind=4)=true then ZO (b7,v.bo) >>=λh8=>some (bif b7.Open then(!plain)else false) >>=λt91=>(if((!h8.2) && t91)=true then O0 (v.bo,h8.2)else some false) >>=λE1=>some (bif h8.2 then true else bif t91 then E1 else false)
 else if decide (b7.Kind=5)=true then some (!(decide ((v.b9.length:Int)=(b7.cy.length:Int)))) >>=λt107=>(if(!t107)=true then Yc (b7,v.Rest)else some false) >>=λJB=>if(bif t107 then true else(!JB))=true then some false
 else Oz (plain,0,s.Types,ao.eta v,b7.Kind,b7.Name,b7.jb,b7.i',b7.Max,b7.hq,b7.cy,b7.Key,b7.hZ,b7.Open) >>=λo=>match o with
 | .inl ho=>
 some ho
 | .inr hV=>
 some true
 else if decide (b7.Kind=6)=true then QB (b7,v.bo) >>=λLW=>if LW.2=true then some (bif decide ((v.b9.length:Int)=1)then decide ((v.Rest.length:Int)=0)else false) >>=λt156=>if(eh LW.1 b7.cy.length || (!t156))=true then if(eh 0 v.b9.length || (!t156))=true then (if t156=true then NM (s,(b7.cy.getD LW.1.toNat hL).ki,ao.eta (v.b9.getD (0:Int).toNat e2),plain)else some false) >>=λPx=>some (bif t156 then Px else false)
 else none
 else none
 else some (bif b7.Open then(!plain)else false) >>=λt177=>(if t177=true then O0 (v.bo,LW.2)else some false) >>=λQn=>some (bif bif bif t177 then Qn else false then decide ((v.b9.length:Int)=0)else false then decide ((v.Rest.length:Int)=1)else false) >>=λt195=>if(eh 0 v.Rest.length || (!t195))=true then some (bif t195 then decide ((v.Rest.getD (0:Int).toNat ka).bo=v.bo)else false)
 else none
 else if decide (b7.Kind=7)=true then some (decide ((v.b9.length:Int)<=b7.Max)) >>=λt213=>(if t213=true then Vg (s,b7.hZ,v.b9,plain)else some false) >>=λTN=>some (bif t213 then TN else false)
 else if decide (b7.Kind=8)=true then some (bif decide (b7.Max < (v.e0.length:Int))then true else(!(decide ((v.b9.length:Int)=(v.e0.length:Int))))) >>=λt239=>(if(!t239)=true then Vg (s,b7.Key,v.e0,plain)else some false) >>=λXM=>some (bif t239 then true else(!XM)) >>=λt249=>(if(!t249)=true then Vg (s,b7.hZ,v.b9,plain)else some false) >>=λUS=>if(bif t249 then true else(!US))=true then some false
 else ND (1,ao.eta v) >>=λLd=>match Ld with
 | .inl J9=>
 some J9
 | .inr r0=>
 some true
 else some (decide ((v.b9.length:Int)<=1)) >>=λt283=>(if t283=true then Vg (s,b7.hZ,v.b9,plain)else some false) >>=λZe=>some (bif t283 then Ze else false)
 else none
  partial_fixpoint
def QD(c':Int×List ao×Bool×Int×List cm):Option ((Bool) ⊕ (Unit)):=
 match c' with
 | (ado,Qj,agJ,i,b)=>
 if decide (i < (Qj.length:Int))=true then if eh i Qj.length=true then NM ((⟨b⟩:gJ),ado,ao.eta (Qj.getD i.toNat e2),agJ) >>=λr=>if(!r)=true then some (.inl false)
 else QD (ado,Qj,agJ,hO .i64 i 1,b)
 else none
 else some (.inr ())
  partial_fixpoint
def Oz(c':Bool×Int×List cm×ao×Int×List UInt8×Int×Int×Int×List ri×List em×Int×Int×Bool):Option ((Bool) ⊕ (Unit)):=
 match c' with
 | (agJ,i,b,k3,l3,l0,s3,QT,YD,aiP,amG,aiQ,aiI,Td)=>
 if decide (i < (k3.b9.length:Int))=true then if eh i amG.length=true then if eh i k3.b9.length=true then NM ((⟨b⟩:gJ),(amG.getD i.toNat hL).ki,ao.eta (k3.b9.getD i.toNat e2),agJ) >>=λaa3=>if(!aa3)=true then some (.inl false)
 else Oz (agJ,hO .i64 i 1,b,ao.eta k3,l3,l0,s3,QT,YD,aiP,amG,aiQ,aiI,Td)
 else none
 else none
 else some (.inr ())
  partial_fixpoint
end
theorem auL :hR afq:= .m (by kernel_rfl)
theorem afh :hR YH:= .m (by kernel_rfl)
theorem aC4 :(∀h r,Vg h=some r->z' afq h r)/\(∀h r,QD h=some r->E8 96 0 [0] afr h r)/\(∀h r,NM h=some r->z' YH h r)/\(∀h r,Oz h=some r->E8 60 0 [0] afg h r):=Vg.mutual_partial_correctness (z' afq) (E8 96 0 [0] afr) (z' YH) (E8 60 0 [0] afg)
 (λ_ h1 _ _ h=>NN afq auL .n (.k (O4 afr h1) .n) (.trans (by kernel_rfl) h))
 (λ_ _ h1 ah _ _ h=>O3 afr h1 (.k (KX YH afh ah) .n) .n (.trans (by kernel_rfl) h))
 (λ_ _ _ h0 ah bJ _ _ h=>NN YH afh (.k aDi (.k aq0 (.k are (.k aDj (.k ahS (.k (KX YH afh ah) (.k (KX afq auL h0) .n))))))) (.k (O4 afg bJ) (.k aBu .n)) (.trans (by kernel_rfl) h))
 (λ_ _ ah bJ _ _ h=>O3 afg bJ (.k (KX YH afh ah) .n) .n (.trans (by kernel_rfl) h))
theorem aq7 :hT YH NM:= .of afh aC4.2.2.1
def Yd(c':gJ×Int×ao):Option (Bool):=
 match c' with
 | (s,t,v)=>
 NM (s,t,ao.eta v,false) >>=λr=>some r
theorem aAg :hR aue:= .m (by kernel_rfl)
theorem aq3 :hT aue Yd:= .fn aAg (.k aq7 .n) .n λ_=>by kernel_rfl
def S4(c':gJ×Int×ao):Option (Int):=
 match c' with
 | (s,t,v)=>
 X1 s >>=λr=>if(!(decide (r=0)))=true then some r
 else if(bif decide (t < 0)then true else decide ((s.Types.length:Int)<=t))=true then some 4
 else Yd (s,t,ao.eta v) >>=λh8=>if(!h8)=true then some 1
 else some 0
theorem aAs :hR aun:= .m (by kernel_rfl)
theorem akD :hT aun S4:= .fn aAs (.k akC (.k aq3 .n)) .n λ_=>by kernel_rfl
end
section
open Go Go.Proofs.YtijpinendaoleaaGreat.Shv
open Tryz
set_option maxRecDepth 100000
set_option linter.all false


end
section
open Go Go.Proofs.YtijpinendaoleaaGreat.Shv
open Tryz
set_option maxRecDepth 100000
mutual
def LE(c':gJ×Int×ao):Option (ao×Bool):=
 match c' with
 | (s,t,v)=>
 if eh t s.Types.length=true then some (s.Types.getD t.toNat e1) >>=λb7=>Rz (b7,ao.eta v) >>=λr=>(if(!r)=true then abn (s,b7,ao.eta v)else some false) >>=λh8=>if(bif bif r then true else h8 then true else bif decide (b7.Kind=6)then decide ((v.b9.length:Int)=0)else false)=true then some ((⟨0,false,0,[],0,[],[],[]⟩:ao),false)
 else MS 120 v.e0 >>=λy1=>Ua (b7,ao.eta v) >>=λJs=>Yg (Js,(Js.length:Int),0,s.Types,ao.eta v,0,false,0,[],0,v.Kind,v.kt,v.hX,v.hG,v.bo,y1,[]) >>=λo=>match o with
 | .inl ho=>
 some ((⟨ho.2.1,ho.2.2.1,ho.2.2.2.1,ho.2.2.2.2.1,ho.2.2.2.2.2,[],[],[]⟩:ao),ho.1)
 | .inr hV=>
 some ((⟨hV.2.2.2.2.2.1,hV.2.2.2.2.2.2.1,hV.2.2.2.2.2.2.2.1,hV.2.2.2.2.2.2.2.2.1,hV.2.2.2.2.2.2.2.2.2.1,hV.2.2.2.2.2.2.2.2.2.2.1,hV.2.2.2.2.2.2.2.2.2.2.2,[]⟩:ao),true)
 else none
  partial_fixpoint
def Yg(c':List Na×Int×Int×List cm×ao×Int×Bool×Int×List UInt8×Int×Int×Bool×Int×List UInt8×Int×List ao×List ao):Option ((Bool×Int×Bool×Int×List UInt8×Int) ⊕ (Int×Bool×Int×List UInt8×Int×Int×Bool×Int×List UInt8×Int×List ao×List ao)):=
 match c' with
 | (t49,ayK,t51,P4,W7,Yx,Yy,Uj,Uk,O6,P5,Tj,QS,Ul,Yz,YA,W8)=>
 if decide (t51 < ayK)=true then if eh t51 t49.length=true then if eh t51 W7.b9.length=true then LE ((⟨P4⟩:gJ),(t49.getD t51.toNat abm).t,ao.eta (W7.b9.getD t51.toNat e2)) >>=λE1=>if(!E1.2)=true then some (.inl (false,0,false,0,[],0))
 else some [ao.eta E1.1] >>=λt74=>if room 120 (W8++t74).length=true then Yg (t49,ayK,hO .i64 t51 1,P4,ao.eta W7,Yx,Yy,Uj,Uk,O6,P5,Tj,QS,Ul,Yz,YA,W8++t74)
 else none
 else none
 else none
 else some (.inr (Yx,Yy,Uj,Uk,O6,P5,Tj,QS,Ul,Yz,YA,W8))
  partial_fixpoint
end
theorem anw :hR acA:= .m (by kernel_rfl)
theorem aD2 :(∀h r,LE h=some r->z' acA h r)/\(∀h r,Yg h=some r->E8 63 0 [0] afi h r):=LE.mutual_partial_correctness (z' acA) (E8 63 0 [0] afi)
 (λ_ h1 _ _ h=>NN acA anw (.k ah0 (.k alK (.k ZL (.k ahw .n)))) (.k (O4 afi h1) .n) (.trans (by kernel_rfl) h))
 (λ_ _ h0 h1 _ _ h=>O3 afi h1 (.k (KX acA anw h0) .n) .n (.trans (by kernel_rfl) h))
theorem aDI :hT acA LE:= .of anw aD2.1
def abD(c':gJ×Int×ao):Option (ao×Int):=
 match c' with
 | (s,t,v)=>
 Rx (s,t,ao.eta v) >>=λr=>if(!(decide (r=0)))=true then some ((⟨0,false,0,[],0,[],[],[]⟩:ao),r)
 else LE (s,t,ao.eta v) >>=λh8=>if(!h8.2)=true then some ((⟨0,false,0,[],0,[],[],[]⟩:ao),12)
 else some (ao.eta h8.1,0)
theorem aAd :hR aua:= .m (by kernel_rfl)
theorem aDJ :hT aua abD:= .fn aAd (.k alp (.k aDI .n)) .n λ_=>by kernel_rfl
def ZP(v:ao):Option (Int×Bool×Int×List UInt8×Int×List ao×List ao×List C2):=
 if room 120 ([]++v.e0).length=true then if room 120 ([]++v.b9).length=true then if room 24 ([]++v.Rest).length=true then some (v.Kind,v.kt,v.hX,v.hG,v.bo,[]++v.e0,[]++v.b9,[]++v.Rest)
 else none
 else none
 else none
theorem aJs :hR atM:= .m (by kernel_rfl)
theorem aq1 :hT atM ZP:= .fn aJs .n .n λ_=>by kernel_rfl
mutual
def WU(v:ao):Option (ao):=
 ZP (ao.eta v) >>=λr=>if decide (r.1=5)=true then X4 (0,r.1,r.2.1,r.2.2.1,r.2.2.2.1,r.2.2.2.2.1,[],0,false,0,[],0,r.2.2.2.2.2.1,r.2.2.2.2.2.2.1) >>=λo=>some (⟨o.1,o.2.1,o.2.2.1,o.2.2.2.1,o.2.2.2.2.1,o.2.2.2.2.2.2.2.2.2.2.2.1,o.2.2.2.2.2.2.2.2.2.2.2.2,o.2.2.2.2.2.1⟩:ao)
 else X4 (0,r.1,r.2.1,r.2.2.1,r.2.2.2.1,r.2.2.2.2.1,r.2.2.2.2.2.2.2,0,false,0,[],0,r.2.2.2.2.2.1,r.2.2.2.2.2.2.1) >>=λho=>some (⟨ho.1,ho.2.1,ho.2.2.1,ho.2.2.2.1,ho.2.2.2.2.1,ho.2.2.2.2.2.2.2.2.2.2.2.1,ho.2.2.2.2.2.2.2.2.2.2.2.2,ho.2.2.2.2.2.1⟩:ao)
  partial_fixpoint
def X4(c':Int×Int×Bool×Int×List UInt8×Int×List C2×Int×Bool×Int×List UInt8×Int×List ao×List ao):Option (Int×Bool×Int×List UInt8×Int×List C2×Int×Bool×Int×List UInt8×Int×List ao×List ao):=
 match c' with
 | (i,QS,Ul,Yz,YA,W8,YB,O7,W9,VI,W',Xa,Xb,P6)=>
 if decide (i < (P6.length:Int))=true then if eh i P6.length=true then if decide (i.toNat < P6.length)=true then WU (ao.eta (P6.getD i.toNat e2)) >>=λPx=>if eh i P6.length=true then if decide (i.toNat < P6.length)=true then X4 (hO .i64 i 1,QS,Ul,Yz,YA,W8,YB,O7,W9,VI,W',Xa,Xb,P6.set i.toNat (ao.eta Px))
 else none
 else none
 else none
 else none
 else some (QS,Ul,Yz,YA,W8,YB,O7,W9,VI,W',Xa,Xb,P6)
  partial_fixpoint
end
theorem anx :hR acB:= .m (by kernel_rfl)
theorem aCi :(∀h r,WU h=some r->z' acB h r)/\(∀h r,X4 h=some r->E8 64 0 [0] afj h r):=WU.mutual_partial_correctness (z' acB) (E8 64 0 [0] afj)
 (λ_ h1 _ _ h=>NN acB anx (.k aq1 .n) (.k (O4 afj h1) .n) (.trans (by kernel_rfl) h))
 (λ_ _ h0 h1 _ _ h=>O3 afj h1 (.k (KX acB anx h0) .n) .n (.trans (by kernel_rfl) h))
theorem aBE :hT acB WU:= .of anx aCi.1
def Va(c':gJ×Int×ao):Option (Bool):=
 match c' with
 | (s,t,v)=>
 NM (s,t,ao.eta v,true) >>=λr=>some r
theorem az7 :hR at7:= .m (by kernel_rfl)
theorem akE :hT at7 Va:= .fn az7 (.k aq7 .n) .n λ_=>by kernel_rfl
def abt(c':gJ×Int×ao):Option (ao×Int):=
 match c' with
 | (s,t,v)=>
 S4 (s,t,ao.eta v) >>=λr=>if(!(decide (r=0)))=true then some ((⟨0,false,0,[],0,[],[],[]⟩:ao),r)
 else WU (ao.eta v) >>=λh8=>Va (s,t,ao.eta h8) >>=λy1=>if(!y1)=true then some ((⟨0,false,0,[],0,[],[],[]⟩:ao),12)
 else some (ao.eta h8,0)
theorem aAe :hR aub:= .m (by kernel_rfl)
theorem aC5 :hT aub abt:= .fn aAe (.k akD (.k aBE (.k akE .n))) .n λ_=>by kernel_rfl
def S1(c':Int×Int×List (List Int)×Int×List cm×ao×List (List Int)×cm):Option (Int×List cm×ao×List (List Int)×cm):=
 match c' with
 | (axW,n,l,k,Uj,Uk,O6,P5)=>
 if decide (k < (l.length:Int))=true then if eh k l.length=true then some (l.getD k.toNat []) >>=λay2=>if room 8 ([n]++ay2).length=true then some [[n]++ay2] >>=λt87=>if room 24 (O6++t87).length=true then S1 (axW,n,l,hO .i64 k 1,Uj,ao.eta Uk,O6++t87,P5)
 else none
 else none
 else none
 else some (axW,Uj,ao.eta Uk,O6,P5)
  partial_fixpoint
theorem aCj :xe 56 0 [0,0] au6 S1:= .rc S1.partial_correctness .n .n λ_ _=>by kernel_rfl
mutual
def TZ(c':gJ×Int×ao):Option (List (List Int)):=
 match c' with
 | (s,t,v)=>
 if eh t s.Types.length=true then TX (0,s.Types,ao.eta v,[[]],s.Types.getD t.toNat e1) >>=λo=>some o
 else none
  partial_fixpoint
def TX(c':Int×List cm×ao×List (List Int)×cm):Option (List (List Int)):=
 match c' with
 | (i,k3,l3,l0,s3)=>
 if decide (i < (l3.b9.length:Int))=true then if decide (s3.Kind=5)=true then if eh i s3.cy.length=true then if eh i s3.cy.length=true then if decide (s3.Kind=6)=true then QB (s3,l3.bo) >>=λr=>if eh r.1 s3.cy.length=true then if eh i l3.b9.length=true then TZ ((⟨k3⟩:gJ),(s3.cy.getD r.1.toNat hL).ki,ao.eta (l3.b9.getD i.toNat e2)) >>=λJs=>S1 (i,l3.bo,Js,0,k3,ao.eta l3,l0,s3) >>=λho=>TX (hO .i64 ho.1 1,ho.2.1,ao.eta ho.2.2.1,ho.2.2.2.1,ho.2.2.2.2)
 else none
 else none
 else if eh i l3.b9.length=true then TZ ((⟨k3⟩:gJ),(s3.cy.getD i.toNat hL).ki,ao.eta (l3.b9.getD i.toNat e2)) >>=λE1=>S1 (i,(s3.cy.getD i.toNat hL).bo,E1,0,k3,ao.eta l3,l0,s3) >>=λhV=>TX (hO .i64 hV.1 1,hV.2.1,ao.eta hV.2.2.1,hV.2.2.2.1,hV.2.2.2.2)
 else none
 else none
 else none
 else if decide (s3.Kind=6)=true then QB (s3,l3.bo) >>=λJB=>if eh JB.1 s3.cy.length=true then if eh i l3.b9.length=true then TZ ((⟨k3⟩:gJ),(s3.cy.getD JB.1.toNat hL).ki,ao.eta (l3.b9.getD i.toNat e2)) >>=λXN=>S1 (i,l3.bo,XN,0,k3,ao.eta l3,l0,s3) >>=λLd=>TX (hO .i64 Ld.1 1,Ld.2.1,ao.eta Ld.2.2.1,Ld.2.2.2.1,Ld.2.2.2.2)
 else none
 else none
 else if eh i l3.b9.length=true then TZ ((⟨k3⟩:gJ),s3.hZ,ao.eta (l3.b9.getD i.toNat e2)) >>=λPx=>S1 (i,i,Px,0,k3,ao.eta l3,l0,s3) >>=λJ9=>TX (hO .i64 J9.1 1,J9.2.1,ao.eta J9.2.2.1,J9.2.2.2.1,J9.2.2.2.2)
 else none
 else some l0
  partial_fixpoint
end
theorem anu :hR acy:= .m (by kernel_rfl)
theorem aBS :(∀h r,TZ h=some r->z' acy h r)/\(∀h r,TX h=some r->E8 56 0 [0] afd h r):=TZ.mutual_partial_correctness (z' acy) (E8 56 0 [0] afd)
 (λ_ h1 _ _ h=>NN acy anu .n (.k (O4 afd h1) .n) (.trans (by kernel_rfl) h))
 (λ_ _ h0 h1 _ _ h=>O3 afd h1 (.k ahS (.k (KX acy anu h0) .n)) (.k aCj .n) (.trans (by kernel_rfl) h))
theorem aC6 :hT acy TZ:= .of anu aBS.1
def S5(c':Int×List Int×Int×List cm×ao×Int×Bool×Int×List UInt8×Int):Option ((Int×Int×Int×Bool×Int×List UInt8×Int) ⊕ (Int×ao×Int×Bool×Int×List UInt8×Int)):=
 match c' with
 | (aa9,UR,i,Td,MW,VH,QR,Tf,Ti,P4)=>
 if decide (i < (UR.length:Int))=true then if eh aa9 Td.length=true then some (Td.getD aa9.toNat e1) >>=λb7=>if eh i UR.length=true then some (UR.getD i.toNat 0) >>=λvx=>if decide (b7.Kind=5)=true then QB (b7,vx) >>=λh8=>if h8.2=true then if eh h8.1 b7.cy.length=true then if decide (h8.1 < 0)=true then some (.inl (0,4,0,false,0,[],0))
 else if eh h8.1 MW.b9.length=true then S5 ((b7.cy.getD h8.1.toNat hL).ki,UR,hO .i64 i 1,Td,ao.eta (MW.b9.getD h8.1.toNat e2),VH,QR,Tf,Ti,P4)
 else none
 else none
 else some (.inl (0,4,0,false,0,[],0))
 else if decide (b7.Kind=6)=true then QB (b7,vx) >>=λE1=>if(bif E1.2 then decide (vx=MW.bo)else false)=true then if eh E1.1 b7.cy.length=true then if eh 0 MW.b9.length=true then S5 ((b7.cy.getD E1.1.toNat hL).ki,UR,hO .i64 i 1,Td,ao.eta (MW.b9.getD (0:Int).toNat e2),VH,QR,Tf,Ti,P4)
 else none
 else none
 else some (.inl (0,4,0,false,0,[],0))
 else some (decide (b7.Kind=7)) >>=λt80=>if t80=true then if t80=true then if(bif decide (0<=vx)then decide (vx < (MW.b9.length:Int))else false)=true then if decide (vx < 0)=true then some (.inl (0,4,0,false,0,[],0))
 else if eh vx MW.b9.length=true then S5 (b7.hZ,UR,hO .i64 i 1,Td,ao.eta (MW.b9.getD vx.toNat e2),VH,QR,Tf,Ti,P4)
 else none
 else some (.inl (0,4,0,false,0,[],0))
 else some (.inl (0,4,0,false,0,[],0))
 else some (decide (b7.Kind=8)) >>=λt81=>if t81=true then if t81=true then if(bif decide (0<=vx)then decide (vx < (MW.b9.length:Int))else false)=true then if decide (vx < 0)=true then some (.inl (0,4,0,false,0,[],0))
 else if eh vx MW.b9.length=true then S5 (b7.hZ,UR,hO .i64 i 1,Td,ao.eta (MW.b9.getD vx.toNat e2),VH,QR,Tf,Ti,P4)
 else none
 else some (.inl (0,4,0,false,0,[],0))
 else some (.inl (0,4,0,false,0,[],0))
 else if decide (b7.Kind=9)=true then if(bif decide (0<=vx)then decide (vx < (MW.b9.length:Int))else false)=true then if decide (vx < 0)=true then some (.inl (0,4,0,false,0,[],0))
 else if eh vx MW.b9.length=true then S5 (b7.hZ,UR,hO .i64 i 1,Td,ao.eta (MW.b9.getD vx.toNat e2),VH,QR,Tf,Ti,P4)
 else none
 else some (.inl (0,4,0,false,0,[],0))
 else some (.inl (0,4,0,false,0,[],0))
 else none
 else none
 else some (.inr (aa9,ao.eta MW,VH,QR,Tf,Ti,P4))
  partial_fixpoint
theorem aC7 :xe 57 0 [0] aup S5:= .rc S5.partial_correctness (.k ahS .n) .n λ_ _=>by kernel_rfl
def ahq(c':gJ×Int×ao×List Int):Option (ao×Int×Int):=
 match c' with
 | (s,t,v,path)=>
 Yd (s,t,ao.eta v) >>=λr=>if(!r)=true then some ((⟨0,false,0,[],0,[],[],[]⟩:ao),0,1)
 else S5 (t,path,0,s.Types,ao.eta v,0,false,0,[],0) >>=λo=>match o with
 | .inl ho=>
 some ((⟨ho.2.2.1,ho.2.2.2.1,ho.2.2.2.2.1,ho.2.2.2.2.2.1,ho.2.2.2.2.2.2,[],[],[]⟩:ao),ho.1,ho.2.1)
 | .inr hV=>
 some (ao.eta hV.2.1,hV.1,0)
theorem aAt :hR auo:= .m (by kernel_rfl)
theorem aCo :hT auo ahq:= .fn aAt (.k aq3 .n) (.k aC7 .n) λ_=>by kernel_rfl
mutual
def WW(c':gJ×Int×ao):Option (Bool):=
 match c' with
 | (s,t,v)=>
 if eh t s.Types.length=true then some (s.Types.getD t.toNat e1) >>=λb7=>some (decide (b7.Kind=5)) >>=λt19=>if t19=true then if t19=true then some (decide (0 < (v.Rest.length:Int)))
 else if decide (b7.Kind=4)=true then ZO (b7,v.bo) >>=λr=>some (!r.2)
 else if decide (b7.Kind=8)=true then WQ (0,s.Types,ao.eta v,b7) >>=λo=>match o with
 | .inl ho=>
 some ho
 | .inr hV=>
 some false
 else some false
 else if decide (b7.Kind=6)=true then some (decide (0 < (v.Rest.length:Int)))
 else if decide (b7.Kind=4)=true then ZO (b7,v.bo) >>=λJs=>some (!Js.2)
 else if decide (b7.Kind=8)=true then WQ (0,s.Types,ao.eta v,b7) >>=λLd=>match Ld with
 | .inl J9=>
 some J9
 | .inr r0=>
 some false
 else some false
 else none
  partial_fixpoint
def WQ(c':Int×List cm×ao×cm):Option ((Bool) ⊕ (Unit)):=
 match c' with
 | (i,b,k3,l3)=>
 if decide (i < (k3.e0.length:Int))=true then if eh i k3.e0.length=true then WW ((⟨b⟩:gJ),l3.Key,ao.eta (k3.e0.getD i.toNat e2)) >>=λLW=>if LW=true then some (.inl true)
 else WQ (hO .i64 i 1,b,ao.eta k3,l3)
 else none
 else some (.inr ())
  partial_fixpoint
end
theorem anv :hR acz:= .m (by kernel_rfl)
theorem aBA :(∀h r,WW h=some r->z' acz h r)/\(∀h r,WQ h=some r->E8 58 0 [0] afe h r):=WW.mutual_partial_correctness (z' acz) (E8 58 0 [0] afe)
 (λ_ h1 _ _ h=>NN acz anv (.k aq0 .n) (.k (O4 afe h1) .n) (.trans (by kernel_rfl) h))
 (λ_ _ h0 h1 _ _ h=>O3 afe h1 (.k (KX acz anv h0) .n) .n (.trans (by kernel_rfl) h))
theorem aBT :hT acz WW:= .of anv aBA.1
def WV(c':Int×List (List Int)×Int×List cm×ao×List (List Int)):Option (List (List Int)):=
 match c' with
 | (ado,l,i,k3,l3,l0)=>
 if decide (i < (l.length:Int))=true then if eh i l.length=true then ahq ((⟨k3⟩:gJ),ado,ao.eta l3,l.getD i.toNat []) >>=λy1=>WW ((⟨k3⟩:gJ),y1.2.1,ao.eta y1.1) >>=λLW=>if LW=true then if eh i l.length=true then some [l.getD i.toNat []] >>=λt53=>if room 24 (l0++t53).length=true then WV (ado,l,hO .i64 i 1,k3,ao.eta l3,l0++t53)
 else none
 else none
 else WV (ado,l,hO .i64 i 1,k3,ao.eta l3,l0)
 else none
 else some l0
  partial_fixpoint
theorem aBF :xe 16 0 [0] at0 WV:= .rc WV.partial_correctness (.k aCo (.k aBT .n)) .n λ_ _=>by kernel_rfl
def abu(c':gJ×Int×ao):Option (List (List Int)×Int):=
 match c' with
 | (s,t,v)=>
 S4 (s,t,ao.eta v) >>=λr=>if(!(decide (r=0)))=true then some ([],r)
 else TZ (s,t,ao.eta v) >>=λh8=>WV (t,h8,0,s.Types,ao.eta v,[]) >>=λo=>some (o,0)
theorem azW :hR atZ:= .m (by kernel_rfl)
theorem aC8 :hT atZ abu:= .fn azW (.k akD (.k aC6 .n)) (.k aBF .n) λ_=>by kernel_rfl
def X9(c':List Int×List Int×Int):Option ((Bool) ⊕ (Unit)):=
 match c' with
 | (QO,k3,i)=>
 if decide (i < (QO.length:Int))=true then if eh i QO.length=true then if eh i k3.length=true then if(!(decide (QO.getD i.toNat 0=k3.getD i.toNat 0)))=true then some (.inl false)
 else X9 (QO,k3,hO .i64 i 1)
 else none
 else none
 else some (.inr ())
  partial_fixpoint
theorem aBU :xe 59 0 [0] aur X9:= .rc X9.partial_correctness .n .n λ_ _=>by kernel_rfl
def ahY(c':List Int×List Int):Option (Bool):=
 match c' with
 | (a,b)=>
 if(!(decide ((a.length:Int)=(b.length:Int))))=true then some false
 else X9 (a,b,0) >>=λo=>match o with
 | .inl ho=>
 some ho
 | .inr hV=>
 some true
theorem aAu :hR auq:= .m (by kernel_rfl)
theorem aCw :hT auq ahY:= .fn aAu .n (.k aBU .n) λ_=>by kernel_rfl
def X6(c':List (List Int)×List (List Int)×Int):Option ((Bool) ⊕ (Unit)):=
 match c' with
 | (QO,k3,i)=>
 if decide (i < (QO.length:Int))=true then if eh i QO.length=true then if eh i k3.length=true then ahY (QO.getD i.toNat [],k3.getD i.toNat []) >>=λr=>if(!r)=true then some (.inl false)
 else X6 (QO,k3,hO .i64 i 1)
 else none
 else none
 else some (.inr ())
  partial_fixpoint
theorem aBG :xe 17 0 [0] at6 X6:= .rc X6.partial_correctness (.k aCw .n) .n λ_ _=>by kernel_rfl
def ahW(c':List (List Int)×List (List Int)):Option (Bool):=
 match c' with
 | (a,b)=>
 if(!(decide ((a.length:Int)=(b.length:Int))))=true then some false
 else X6 (a,b,0) >>=λo=>match o with
 | .inl ho=>
 some ho
 | .inr hV=>
 some true
theorem az3 :hR at1:= .m (by kernel_rfl)
theorem aC9 :hT at1 ahW:= .fn az3 .n (.k aBG .n) λ_=>by kernel_rfl
mutual
def S3(c':ao×ao):Option (ao):=
 match c' with
 | (JJ,new)=>
 ZP (ao.eta new) >>=λr=>if decide (new.Kind=5)=true then if room 24 ([]++JJ.Rest).length=true then ZD (0,ao.eta JJ,ao.eta new,0,false,0,[],0,r.1,r.2.1,r.2.2.1,r.2.2.2.1,r.2.2.2.2.1,r.2.2.2.2.2.1,r.2.2.2.2.2.2.1,[]++JJ.Rest) >>=λo=>some (⟨o.2.2.2.2.2.1,o.2.2.2.2.2.2.1,o.2.2.2.2.2.2.2.1,o.2.2.2.2.2.2.2.2.1,o.2.2.2.2.2.2.2.2.2.1,o.2.2.2.2.2.2.2.2.2.2.1,o.2.2.2.2.2.2.2.2.2.2.2.1,o.2.2.2.2.2.2.2.2.2.2.2.2⟩:ao)
 else none
 else some (decide (new.Kind=6)) >>=λt41=>if t41=true then if t41=true then if(bif bif decide (JJ.bo=new.bo)then decide ((JJ.b9.length:Int)=1)else false then decide ((new.b9.length:Int)=1)else false)=true then if eh 0 JJ.b9.length=true then if eh 0 new.b9.length=true then S3 (ao.eta (JJ.b9.getD (0:Int).toNat e2),ao.eta (new.b9.getD (0:Int).toNat e2)) >>=λPx=>if eh 0 r.2.2.2.2.2.2.1.length=true then if decide ((0:Int).toNat < r.2.2.2.2.2.2.1.length)=true then some (⟨r.1,r.2.1,r.2.2.1,r.2.2.2.1,r.2.2.2.2.1,r.2.2.2.2.2.1,r.2.2.2.2.2.2.1.set (0:Int).toNat (ao.eta Px),r.2.2.2.2.2.2.2⟩:ao)
 else none
 else none
 else none
 else none
 else some (⟨r.1,r.2.1,r.2.2.1,r.2.2.2.1,r.2.2.2.2.1,r.2.2.2.2.2.1,r.2.2.2.2.2.2.1,r.2.2.2.2.2.2.2⟩:ao)
 else some (⟨r.1,r.2.1,r.2.2.1,r.2.2.2.1,r.2.2.2.2.1,r.2.2.2.2.2.1,r.2.2.2.2.2.2.1,r.2.2.2.2.2.2.2⟩:ao)
 else if decide (new.Kind=9)=true then if(bif bif decide (JJ.bo=new.bo)then decide ((JJ.b9.length:Int)=1)else false then decide ((new.b9.length:Int)=1)else false)=true then if eh 0 JJ.b9.length=true then if eh 0 new.b9.length=true then S3 (ao.eta (JJ.b9.getD (0:Int).toNat e2),ao.eta (new.b9.getD (0:Int).toNat e2)) >>=λQn=>if eh 0 r.2.2.2.2.2.2.1.length=true then if decide ((0:Int).toNat < r.2.2.2.2.2.2.1.length)=true then some (⟨r.1,r.2.1,r.2.2.1,r.2.2.2.1,r.2.2.2.2.1,r.2.2.2.2.2.1,r.2.2.2.2.2.2.1.set (0:Int).toNat (ao.eta Qn),r.2.2.2.2.2.2.2⟩:ao)
 else none
 else none
 else none
 else none
 else some (⟨r.1,r.2.1,r.2.2.1,r.2.2.2.1,r.2.2.2.2.1,r.2.2.2.2.2.1,r.2.2.2.2.2.2.1,r.2.2.2.2.2.2.2⟩:ao)
 else some (⟨r.1,r.2.1,r.2.2.1,r.2.2.2.1,r.2.2.2.2.1,r.2.2.2.2.2.1,r.2.2.2.2.2.2.1,r.2.2.2.2.2.2.2⟩:ao)
  partial_fixpoint
def ZD(c':Int×ao×ao×Int×Bool×Int×List UInt8×Int×Int×Bool×Int×List UInt8×Int×List ao×List ao×List C2):Option (Int×Bool×Int×List UInt8×Int×Int×Bool×Int×List UInt8×Int×List ao×List ao×List C2):=
 match c' with
 | (i,VH,QR,Tf,Ti,P4,W7,Yx,Yy,Uj,Uk,O6,P5,Tj,QS,Ul)=>
 if decide (i < (QS.length:Int))=true then if eh i VH.b9.length=true then if eh i QR.b9.length=true then S3 (ao.eta (VH.b9.getD i.toNat e2),ao.eta (QR.b9.getD i.toNat e2)) >>=λTN=>if eh i QS.length=true then if decide (i.toNat < QS.length)=true then ZD (hO .i64 i 1,ao.eta VH,ao.eta QR,Tf,Ti,P4,W7,Yx,Yy,Uj,Uk,O6,P5,Tj,QS.set i.toNat (ao.eta TN),Ul)
 else none
 else none
 else none
 else none
 else some (Tf,Ti,P4,W7,Yx,Yy,Uj,Uk,O6,P5,Tj,QS,Ul)
  partial_fixpoint
end
theorem aiZ :hR aao:= .m (by kernel_rfl)
theorem aBB :(∀h r,S3 h=some r->z' aao h r)/\(∀h r,ZD h=some r->E8 69 0 [0] afl h r):=S3.mutual_partial_correctness (z' aao) (E8 69 0 [0] afl)
 (λ_ _ h0 h1 _ _ h=>NN aao aiZ (.k aq1 (.k (KX aao aiZ h0) .n)) (.k (O4 afl h1) .n) (.trans (by kernel_rfl) h))
 (λ_ _ h0 h1 _ _ h=>O3 afl h1 (.k (KX aao aiZ h0) .n) .n (.trans (by kernel_rfl) h))
theorem aBV :hT aao S3:= .of aiZ aBB.1
def X2(c':gJ×Int×ao×ao):Option (ao×Int):=
 match c' with
 | (s,t,JJ,new)=>
 S4 (s,t,ao.eta JJ) >>=λr=>if(!(decide (r=0)))=true then some ((⟨0,false,0,[],0,[],[],[]⟩:ao),r)
 else Va (s,t,ao.eta new) >>=λh8=>if(!h8)=true then some ((⟨0,false,0,[],0,[],[],[]⟩:ao),1)
 else S3 (ao.eta JJ,ao.eta new) >>=λy1=>some (ao.eta y1,0)
theorem aAf :hR aud:= .m (by kernel_rfl)
theorem aC' :hT aud X2:= .fn aAf (.k akD (.k akE (.k aBV .n))) .n λ_=>by kernel_rfl
def XX(c':Int×Int×ao):Option (Int):=
 match c' with
 | (ac5,M6,s3)=>
 if decide (M6 < (s3.Rest.length:Int))=true then if eh M6 s3.Rest.length=true then XX (hO .i64 (hO .i64 ac5 1) ((s3.Rest.getD M6.toNat ka).Data.length:Int),hO .i64 M6 1,ao.eta s3)
 else none
 else some ac5
  partial_fixpoint
theorem aBW :xe 71 0 [2] auv XX:= .rc XX.partial_correctness .n .n λ_ _=>by kernel_rfl
mutual
def Ve(v:ao):Option (Int):=
 ZF (hO .i64 1 (v.hG.length:Int),0,ao.eta v) >>=λo=>ZG (o.1,0,ao.eta o.2) >>=λho=>XX (ho.1,0,ao.eta ho.2) >>=λhV=>some hV
  partial_fixpoint
def ZF(c':Int×Int×ao):Option (Int×ao):=
 match c' with
 | (agp,i,l3)=>
 if decide (i < (l3.e0.length:Int))=true then if eh i l3.e0.length=true then Ve (ao.eta (l3.e0.getD i.toNat e2)) >>=λr=>ZF (hO .i64 agp r,hO .i64 i 1,ao.eta l3)
 else none
 else some (agp,ao.eta l3)
  partial_fixpoint
def ZG(c':Int×Int×ao):Option (Int×ao):=
 match c' with
 | (ac4,M5,l0)=>
 if decide (M5 < (l0.b9.length:Int))=true then if eh M5 l0.b9.length=true then Ve (ao.eta (l0.b9.getD M5.toNat e2)) >>=λh8=>ZG (hO .i64 ac4 h8,hO .i64 M5 1,ao.eta l0)
 else none
 else some (ac4,ao.eta l0)
  partial_fixpoint
end
theorem ai0 :hR aap:= .m (by kernel_rfl)
theorem aBv :(∀h r,Ve h=some r->z' aap h r)/\(∀h r,ZG h=some r->E8 71 0 [1] afn h r)/\(∀h r,ZF h=some r->E8 71 0 [0] afm h r):=Ve.mutual_partial_correctness (z' aap) (E8 71 0 [1] afn) (E8 71 0 [0] afm)
 (λ_ _ h1 ah _ _ h=>NN aap ai0 .n (.k (O4 afm ah) (.k (O4 afn h1) (.k aBW .n))) (.trans (by kernel_rfl) h))
 (λ_ _ h0 h1 _ _ h=>O3 afn h1 (.k (KX aap ai0 h0) .n) .n (.trans (by kernel_rfl) h))
 (λ_ _ h0 ah _ _ h=>O3 afm ah (.k (KX aap ai0 h0) .n) .n (.trans (by kernel_rfl) h))
theorem aCx :hT aap Ve:= .of ai0 aBv.1
def X7(c':Int×Int×Int×List cm×cm):Option (Int×Int×List cm):=
 match c' with
 | (agp,M6,k,l3,l0)=>
 if(bif decide (k < (l0.cy.length:Int))then decide (k < 100)else false)=true then if eh k l0.cy.length=true then Ve (ao.eta (l0.cy.getD k.toNat hL).oo) >>=λr=>if eh k l0.cy.length=true then X7 (hO .i64 (hO .i64 agp r) ((l0.cy.getD k.toNat hL).Name.length:Int),M6,hO .i64 k 1,l3,l0)
 else none
 else none
 else some (agp,M6,l3)
  partial_fixpoint
theorem aBH :xe 33 0 [0,0] au7 X7:= .rc X7.partial_correctness (.k aCx .n) .n λ_ _=>by kernel_rfl
def XZ(c':Int×Int×List cm):Option (Int):=
 match c' with
 | (ajC,i,b)=>
 if decide (i < (b.length:Int))=true then if eh i b.length=true then some (b.getD i.toNat e1) >>=λb7=>X7 (hO .i64 (hO .i64 (hO .i64 ajC (b7.cy.length:Int)) (b7.hq.length:Int)) (b7.Name.length:Int),i,0,b,b7) >>=λho=>XZ (ho.1,hO .i64 ho.2.1 1,ho.2.2)
 else none
 else some ajC
  partial_fixpoint
theorem aBw :xe 33 0 [0] aug XZ:= .rc XZ.partial_correctness .n (.k aBH .n) λ_ _=>by kernel_rfl
def ahZ(s:gJ):Option (Bool):=
 if decide (40 < (s.Types.length:Int))=true then some false
 else XZ (0,0,s.Types) >>=λo=>some (decide (o<=400))
theorem aAh :hR auf:= .m (by kernel_rfl)
theorem aCL :hT auf ahZ:= .fn aAh .n (.k aBw .n) λ_=>by kernel_rfl
def XY(c':Int×Int×ao):Option (Int×ao):=
 match c' with
 | (ac4,i,l3)=>
 if(bif decide (i < (l3.Rest.length:Int))then decide (0<=ac4)else false)=true then if eh i l3.Rest.length=true then XY (Lx .i64 ac4 ((l3.Rest.getD i.toNat ka).Data.length:Int),hO .i64 i 1,ao.eta l3)
 else none
 else some (ac4,ao.eta l3)
  partial_fixpoint
theorem aBX :xe 72 0 [0] auw XY:= .rc XY.partial_correctness .n .n λ_ _=>by kernel_rfl
mutual
def Vf(c':ao×Int):Option (Int):=
 match c' with
 | (v,n)=>
 XY (Lx .i64 n (hO .i64 (hO .i64 10 (v.hG.length:Int)) (v.Rest.length:Int)),0,ao.eta v) >>=λo=>ZH (o.1,0,ao.eta o.2) >>=λho=>ZI (ho.1,0,ao.eta ho.2) >>=λhV=>some hV
  partial_fixpoint
def ZH(c':Int×Int×ao):Option (Int×ao):=
 match c' with
 | (ac5,M5,l0)=>
 if(bif decide (M5 < (l0.e0.length:Int))then decide (0<=ac5)else false)=true then if eh M5 l0.e0.length=true then Vf (ao.eta (l0.e0.getD M5.toNat e2),ac5) >>=λr=>ZH (r,hO .i64 M5 1,ao.eta l0)
 else none
 else some (ac5,ao.eta l0)
  partial_fixpoint
def ZI(c':Int×Int×ao):Option (Int):=
 match c' with
 | (ao2,M6,s3)=>
 if(bif decide (M6 < (s3.b9.length:Int))then decide (0<=ao2)else false)=true then if eh M6 s3.b9.length=true then Vf (ao.eta (s3.b9.getD M6.toNat e2),ao2) >>=λh8=>ZI (h8,hO .i64 M6 1,ao.eta s3)
 else none
 else some ao2
  partial_fixpoint
end
theorem ai1 :hR aaq:= .m (by kernel_rfl)
theorem aBx :(∀h r,Vf h=some r->z' aaq h r)/\(∀h r,ZI h=some r->E8 72 0 [2] afp h r)/\(∀h r,ZH h=some r->E8 72 0 [1] afo h r):=Vf.mutual_partial_correctness (z' aaq) (E8 72 0 [2] afp) (E8 72 0 [1] afo)
 (λ_ _ h1 ah _ _ h=>NN aaq ai1 .n (.k aBX (.k (O4 afo ah) (.k (O4 afp h1) .n))) (.trans (by kernel_rfl) h))
 (λ_ _ h0 h1 _ _ h=>O3 afp h1 (.k (KX aaq ai1 h0) .n) .n (.trans (by kernel_rfl) h))
 (λ_ _ h0 ah _ _ h=>O3 afo ah (.k (KX aaq ai1 h0) .n) .n (.trans (by kernel_rfl) h))
theorem aCy :hT aaq Vf:= .of ai1 aBx.1
def adF(v:ao):Option (Bool):=
 Vf (ao.eta v,3000) >>=λr=>some (decide (0<=r))
theorem aAi :hR auh:= .m (by kernel_rfl)
theorem aDa :hT auh adF:= .fn aAi (.k aCy .n) .n λ_=>by kernel_rfl
def U1(c':Int×List em×Int×List cm):Option ((Int×Int×Int) ⊕ (Int×List cm)):=
 match c' with
 | (aa9,l,i,l3)=>
 if decide (i < (l.length:Int))=true then if eh i l.length=true then some (l.getD i.toNat hL) >>=λvx=>if(eh i l.length || (!vx.x'))=true then if(eh i l.length || (!vx.x'))=true then (if vx.x'=true then Va ((⟨l3⟩:gJ),(l.getD i.toNat hL).ki,ao.eta (l.getD i.toNat hL).oo)else some false) >>=λh8=>if(bif vx.x' then(!h8)else false)=true then if eh i l.length=true then some (.inl (aa9,(l.getD i.toNat hL).bo,1))
 else none
 else U1 (aa9,l,hO .i64 i 1,l3)
 else none
 else none
 else none
 else some (.inr (aa9,l3))
  partial_fixpoint
theorem aB6 :xe 35 0 [0,0] awo U1:= .rc U1.partial_correctness (.k akE .n) .n λ_ _=>by kernel_rfl
def Vx(c':Int×List cm):Option ((Int×Int×Int) ⊕ (Unit)):=
 match c' with
 | (t,b)=>
 if decide (t < (b.length:Int))=true then if eh t b.length=true then U1 (t,(b.getD t.toNat e1).cy,0,b) >>=λLd=>match Ld with
 | .inl J9=>
 some (.inl (J9.1,J9.2.1,J9.2.2))
 | .inr r0=>
 Vx (hO .i64 r0.1 1,r0.2)
 else none
 else some (.inr ())
  partial_fixpoint
theorem aCc :xe 35 0 [0] auj Vx:= .rc Vx.partial_correctness .n (.k aB6 .n) λ_ _=>by kernel_rfl
def ahT(s:gJ):Option (Int×Int×Int):=
 X1 s >>=λr=>if(!(decide (r=0)))=true then some (0,0,r)
 else Vx (0,s.Types) >>=λo=>match o with
 | .inl ho=>
 some (ho.1,ho.2.1,ho.2.2)
 | .inr hV=>
 some (0,0,0)
theorem aAj :hR aui:= .m (by kernel_rfl)
theorem aBI :hT aui ahT:= .fn aAj (.k akC .n) (.k aCc .n) λ_=>by kernel_rfl
def ae2(c':gJ×Int×ZZ):Option (Bool):=
 match c' with
 | (s,t,l)=>
 ad1 () >>=λr=>some (!r) >>=λt23=>(if(!t23)=true then ahZ s else some false) >>=λh8=>some (bif t23 then true else(!h8)) >>=λt28=>(if(!t28)=true then adF (ao.eta l.Ll)else some false) >>=λy1=>some (bif t28 then true else(!y1)) >>=λt34=>(if(!t34)=true then adF (ao.eta l.Nj)else some false) >>=λJs=>if(bif t34 then true else(!Js))=true then ad1 () >>=λE1=>some E1
 else ahT s >>=λJB=>X1 s >>=λPx=>if(bif decide (Px=0)then(!(decide (JB.2.2=0)))else false)=true then some true
 else abD (s,t,ao.eta l.Ll) >>=λQn=>abt (s,t,ao.eta l.Ll) >>=λUS=>Yk (s,t,ao.eta l.Ll,ao.eta l.Nj) >>=λagM=>X2 (s,t,ao.eta l.Ll,ao.eta l.Nj) >>=λaa4=>abB (s,t,ao.eta l.Ll) >>=λaj6=>abu (s,t,ao.eta l.Ll) >>=λayo=>some (bif bif decide (Qn.2=US.2)then decide (agM.2=aa4.2)else false then decide (aj6.2=ayo.2)else false) >>=λt119=>(if t119=true then ahW (aj6.1,ayo.1)else some false) >>=λaLV=>some (bif t119 then aLV else false)
theorem aAL :hR e8:= .m (by kernel_rfl)
theorem aI7 :hT e8 ae2:= .fn aAL (.k aCX (.k aCL (.k aDa (.k aBI (.k akC (.k aDJ (.k aC5 (.k aDH (.k aC' (.k aDE (.k aC8 (.k aC9 .n)))))))))))) .n λ_=>by kernel_rfl
end
section
open Go Go.Proofs.YtijpinendaoleaaGreat.Shv
set_option maxRecDepth 100000
set_option linter.all false

end
section
open Go Go.Proofs.YtijpinendaoleaaGreat.Shv
set_option maxRecDepth 100000
def apR(n:Nat):List UInt8:=if n < 128 then[UInt8.ofNat n]else UInt8.ofNat (n % 128+128)::apR (n / 128)
termination_by n
decreasing_by omega
def aJt(p:List UInt8):List UInt8:=apR p.length++p
def aJu(id:Nat)(c:Bool)(p:List UInt8):List UInt8:=apR (2*id+(if c then 1 else 0))++aJt p
inductive pI:ao->Prop
 | mk (v : ao) (hs : v.hG.length <= reachBytes) (h1 : v.e0.length <= reachBytes) (ah : v.b9.length <= reachBytes) (bJ : v.Rest.length <= reachBytes)
  (hk:∀x,x∈v.e0->pI x) (al:∀x,x∈v.b9->pI x) (ar:∀x,x∈v.Rest->x.Data.length<=reachBytes)
  (Ls: -9223372036854775808<=v.Kind/\v.Kind<=9223372036854775807) (K8: -9223372036854775808<=v.hX/\v.hX<=9223372036854775807) (Nv: -9223372036854775808<=v.bo/\v.bo<=9223372036854775807)
  (Nw:∀x,x∈v.Rest->-9223372036854775808<=x.bo/\x.bo<=9223372036854775807):pI v
theorem i4{n:Nat}(h:n<=reachBytes):n < 9223372036854775807:=Nat.lt_of_le_of_lt h (by decide)
theorem scan{Ju:Type}(L:Nat -> Option Ju)(n:Nat)(p:Nat -> Bool)(bad aav:Ju)(NZ:∀i,i < n -> L i=if p i=true then L (i+1)else some bad)(UD:L n=some aav):
 (L 0=some aav/\∀j,j < n->p j=true)\/(L 0=some bad/\∃j,j < n/\p j=false):=by
 have key:∀k i,i+k=n->(L i=some aav/\∀j,i<=j->j < n->p j=true)\/(L i=some bad/\∃j,j < n/\p j=false):=by
  intro k
  induction k with
  | zero => intro i al; have : i = n := by omega
            subst this;exact .inl ⟨UD,λj h1 ah=>by omega⟩
  | succ k ih=>grind
 rcases key n 0 (by omega)with⟨h1,ah⟩ | h
 . exact .inl ⟨h1,λj dx=>ah j (Pq _) dx⟩
 . exact .inr h
theorem G'{α:Type}{l:List α}{i:Nat}(h:i < l.length)(d:α):l.getD i d=l[i]:=by grind
theorem abE{α:Type}{a b:List α}{p:Nat -> Bool}(aJ:a.length=b.length)(a7:∀(i:Nat) (h1:i < a.length) (ah:i < b.length),p i=true↔a[i]=b[i]):
 (∀j,j < a.length->p j=true)↔a=b:=by
 constructor
 . intro h;exact List.ext_getElem aJ λi h1 ah=>(a7 i h1 ah).1 (h i h1)
 . rintro rfl j dx
   exact(a7 j dx dx).2 rfl
def JC{α:Type}(o:Option Bool)(a b:α):Prop:=∃r,o=some r/\(r=true↔a=b)
theorem JC.apn {α:Type} {a b:List α} {p:Nat -> Bool} (aJ:a.length=b.length) (a7:∀(i:Nat) (h1:i < a.length) (ah:i < b.length),p i=true↔a[i]=b[i]) {o:Option Bool}
 (h:(o=some true/\∀j,j < a.length->p j=true)\/(o=some false/\∃j,j < a.length/\p j=false)):JC o a b:=by
 rcases h with⟨h1,ah⟩ | ⟨h1,j,ah,bJ⟩
 . exact⟨true,h1,by simp[(abE aJ a7).1 ah]⟩
 . refine⟨false,h1,?_⟩;constructor
   . intro h;cases h
   . intro h;have:=(abE aJ a7).2 h j ah;rw[bJ]at this;cases this
theorem awg{a b:C2}:(NQ a.bo b.bo && (O9 a.Data b.Data && true))=true↔a=b:=by cases a;cases b;simp[NQ,O9]
theorem awh{a b:ri}:(NQ a.bo b.bo && (O9 a.Name b.Name && true))=true↔a=b:=by
 cases a;cases b;simp[NQ,O9]
theorem aJv{α:Type}{a b:List α}(h:¬a.length=b.length):a≠b:=λe=>h (Jj List.length e)
theorem aeV{α:Type}{a b:List α}(h:¬a.length=b.length):JC (some false) a b:=⟨false,rfl,by simp[aJv h]⟩
theorem aJw{a b:List C2}(ch:a.length<=reachBytes):JC (ahQ (a,b)) a b:=by
 rw[ahQ];by_cases aJ:a.length=b.length
 . rw[b' (by simp;omega)];have ar:=i4 ch;have:=scan (λi=>Wq (a,b,(a.length:Int),(i:Int))) a.length (λi=>NQ (a.getD i ka).bo (b.getD i ka).bo && (O9 (a.getD i ka).Data (b.getD i ka).Data && true)) (.inl false) (.inr ())
    (λi al=>by
     rw[Wq,b6 (by simp;omega),b6 (d4 al)];simp only[h',eg,o1];rw[b6 (d4 (by omega)),pv (by omega)]
     grind)
    (by rw[Wq,b' (by simp)])
   have h0:Wq (a,b,(a.length:Int),((0:Nat):Int))=Wq (a,b,(a.length:Int),0):=rfl;simp only[h0]at this;refine JC.apn (p:=λi=>NQ (a.getD i ka).bo (b.getD i ka).bo && (O9 (a.getD i ka).Data (b.getD i ka).Data && true)) aJ (λi h1 ah=>by simp only[G' h1,G' ah];exact awg) ?_
   grind
 . rw[b6 (by simp;omega)];exact aeV aJ
theorem aJx{a b:List ri}(ch:a.length<=reachBytes):JC (ahP (a,b)) a b:=by
 rw[ahP];by_cases aJ:a.length=b.length
 . rw[b' (by simp;omega)];have ar:=i4 ch;have:=scan (λi=>Wp (a,b,(a.length:Int),(i:Int))) a.length (λi=>NQ (a.getD i wm).bo (b.getD i wm).bo && (O9 (a.getD i wm).Name (b.getD i wm).Name && true)) (.inl false) (.inr ())
    (λi al=>by
     rw[Wp,b6 (by simp;omega),b6 (d4 al)];simp only[h',eg,o1];rw[b6 (d4 (by omega)),pv (by omega)]
     grind)
    (by rw[Wp,b' (by simp)])
   have h0:Wp (a,b,(a.length:Int),((0:Nat):Int))=Wp (a,b,(a.length:Int),0):=rfl;simp only[h0]at this;refine JC.apn (p:=λi=>NQ (a.getD i wm).bo (b.getD i wm).bo && (O9 (a.getD i wm).Name (b.getD i wm).Name && true)) aJ (λi h1 ah=>by simp only[G' h1,G' ah];exact awh) ?_
   grind
 . rw[b6 (by simp;omega)];exact aeV aJ
theorem aiw(v:ao):(⟨v.Kind,v.kt,v.hX,v.hG,v.bo,v.e0,v.b9,v.Rest⟩:ao)=v:=by cases v;rfl
theorem asu{a b:ao}:a=b↔a.Kind=b.Kind/\a.kt=b.kt/\a.hX=b.hX/\a.hG=b.hG/\a.bo=b.bo/\a.Rest=b.Rest/\a.e0=b.e0/\a.b9=b.b9:=by
 constructor
 . grind
 . cases a;cases b
   grind
section
variable {f:ao×ao->Option Bool}
theorem atd {a b:List ao} (aJ:a.length=b.length) (ih:∀x,x∈a -> ∀y,JC (f (x,y)) x y) (L:Nat -> Option (Bool ⊕ Unit))
 (NZ:∀i,i < a.length->L i=(f (ao.eta (a.getD i e2),ao.eta (b.getD i e2)) >>=λr=>if(!r)=true then some (.inl false)else L (i+1)))
 (UD:L a.length=some (.inr ())):JC (L 0 >>=λo=>match o with | .inl x=>some x | .inr _=>some true) a b:=by
 have sK:∀(i:Nat) (h1:i < a.length) (ah:i < b.length),JC (f (ao.eta (a.getD i e2),ao.eta (b.getD i e2))) a[i] b[i]:=by
  intro i h1 ah;rw[G' h1,G' ah,ao.d5,ao.d5]
  grind
 have:=scan L a.length (λi=>(f (ao.eta (a.getD i e2),ao.eta (b.getD i e2))).getD false) (.inl false) (.inr ())
  (λi al=>by
   obtain⟨r,h1,ah⟩:=sK i al (by omega)
   grind) UD
 refine JC.apn aJ (λi h1 ah=>?_) ?_ (p:=λi=>(f (ao.eta (a.getD i e2),ao.eta (b.getD i e2))).getD false)
 . obtain⟨r,bJ,ea⟩:=sK i h1 ah;rw[bJ];exact ea
 . rcases this with⟨h1,ah⟩ | ⟨h1,ah⟩
   . exact .inl ⟨by rw[h1];rfl,ah⟩
   . exact .inr ⟨by rw[h1];rfl,ah⟩
end
theorem awp{a b:List ao}(ch:a.length<=reachBytes)(ih:∀x,x∈a->∀y,JC (T' (x,y)) x y):JC (adQ (a,b)) a b:=by
 rw[adQ];by_cases aJ:a.length=b.length
 . rw[b' (by simp;omega)];have ar:=i4 ch;exact atd aJ ih (λi=>abG (b,a,(a.length:Int),(i:Int)))
    (λi al=>by
     rw[abG,b6 (by simp;omega),b6 (d4 al),b6 (d4 (by omega)),pv (by omega)]
     rfl)
    (by rw[abG,b' (by simp)])
 . rw[b6 (by simp;omega)];exact aeV aJ
theorem awq{a b:List ao}(ch:a.length<=reachBytes)(ih:∀x,x∈a->∀y,JC (U7 (x,y)) x y):JC (adR (a,b)) a b:=by
 rw[adR];by_cases aJ:a.length=b.length
 . rw[b' (by simp;omega)];have ar:=i4 ch;exact atd aJ ih (λi=>abH (a,b,(i:Int)))
    (λi al=>by
     rw[abH,b6 (by simp;omega),b6 (d4 al),b6 (d4 (by omega)),pv (by omega)]
     rfl)
    (by rw[abH,b' (by simp)])
 . rw[b6 (by simp;omega)];exact aeV aJ
theorem three{a b:ao}{hi:Bool}(aal:hi=true↔a.Kind=b.Kind /\ a.kt=b.kt /\ a.hX=b.hX /\ a.hG=b.hG /\ a.bo=b.bo){x y z:Option Bool}(aa:JC x a.Rest b.Rest)(b8:JC y a.e0 b.e0)(gA:JC z a.b9 b.b9):
 JC (some hi >>=λt37=>(if t37=true then x else some false) >>=λr=>some (bif t37 then r else false) >>=λt44=>(if t44=true then y else some false) >>=λh8=>some (bif t44 then h8 else false) >>=λt51=>(if t51=true then z else some false) >>=λy1=>some (bif t51 then y1 else false)) a b:=by
 obtain⟨rx,Pl,aLe⟩:=aa;obtain⟨ayu,aga,agb⟩:=b8;obtain⟨aL3,aaM,agc⟩:=gA;subst Pl;subst aga;subst aaM;refine⟨hi && rx && ayu && aL3,?_,?_⟩
 . cases hi <;> cases rx <;> cases ayu <;> rfl
 . rw[asu];simp only[kc];rw[aal,aLe,agb,agc];constructor
   . rintro ⟨⟨⟨⟨h1,ah,bJ,ea,hi⟩,q0⟩,Tt⟩,OM⟩;exact⟨h1,ah,bJ,ea,hi,q0,Tt,OM⟩
   . rintro ⟨h1,ah,bJ,ea,hi,q0,Tt,OM⟩;exact⟨⟨⟨⟨h1,ah,bJ,ea,hi⟩,q0⟩,Tt⟩,OM⟩
theorem aA'{a b:ao}:(bif bif bif bif decide (a.Kind=b.Kind)then J0 a.kt b.kt else false then decide (a.hX=b.hX)else false then decide (a.hG=b.hG)else false then decide (a.bo=b.bo)else false)=true↔a.Kind=b.Kind/\a.kt=b.kt/\a.hX=b.hX/\a.hG=b.hG/\a.bo=b.bo:=by
 simp only[agF,J0]
 grind
theorem akT{a:ao}(h:pI a):∀b,JC (T' (a,b)) a b:=by
 induction h with
 | mk a hs h1 ah bJ hk al ar Ls K8 Nv Nw N2 Jp=>
  intro b;rw[T'];exact three aA' (aJw bJ) (awp h1 N2) (awp ah Jp)
theorem awr{a:ao}(h:pI a):∀b,JC (U7 (a,b)) a b:=by
 induction h with
 | mk a hs h1 ah bJ hk al ar Ls K8 Nv Nw N2 Jp=>
  intro b;rw[U7];by_cases hi:a.Kind=b.Kind/\a.kt=b.kt/\a.hX=b.hX/\a.hG=b.hG/\a.bo=b.bo/\a.Rest.length=b.Rest.length
  . obtain⟨e',hf,te,YG,aal,aff⟩:=hi;rw[b' (by simp[e',hf,te,YG,aal,aff,J0])];have axG:=i4 bJ;have Lq:=scan (λi=>Ws ((i:Int),a,b)) a.Rest.length (λi=>NQ (a.Rest.getD i ka).bo (b.Rest.getD i ka).bo && (O9 (a.Rest.getD i ka).Data (b.Rest.getD i ka).Data && true)) (.inl false) (.inr (a,b))
     (λi JG=>by
      rw[Ws,b6 (by simp;omega),b6 (d4 JG)];simp only[h',eg,o1,ao.d5];rw[b6 (d4 (by omega)),pv (by omega)]
      grind)
     (by rw[Ws,b' (by simp),ao.d5,ao.d5])
    have h0:Ws (((0:Nat):Int),a,b)=Ws (0,a,b):=rfl;simp only[h0]at Lq;rw[aiw,aiw];have a7:∀(i:Nat) (h1:i < a.Rest.length) (ah:i < b.Rest.length),(NQ (a.Rest.getD i ka).bo (b.Rest.getD i ka).bo && (O9 (a.Rest.getD i ka).Data (b.Rest.getD i ka).Data && true))=true↔a.Rest[i]=b.Rest[i]:=λi h1 ah=>by rw[G' h1,G' ah];exact awg
    rcases Lq with⟨g1,g2⟩ | ⟨g1,j,g2,g3⟩
    . have af1:=(abE aff a7).1 g2;rw[g1];obtain⟨Zf,hg,hl⟩:=awq (a:=a.e0) (b:=b.e0) h1 N2;obtain⟨agQ,i1,i2⟩:=awq (a:=a.b9) (b:=b.b9) ah Jp;simp only[h',eg];rw[hg,i1];refine⟨Zf && agQ,by cases Zf <;> rfl,?_⟩;rw[asu,kc,hl,i2]
      grind
    . rw[g1];refine⟨false,rfl,?_⟩
      grind
  . rw[b6]
    . refine⟨false,rfl,?_⟩
      grind
    . simp only[agF,J0]
      grind
def acb(c:Int):Bool:=decide (c=95\/(97<=c/\c<=122)\/(65<=c/\c<=90))
def aeB(c:Int):Bool:=decide (48<=c/\c<=57)
theorem asv(c:Int):aei c=some (acb c):=by
 rw[aei];unfold acb
 grind
theorem asw(c:Int):adX c=some (acb c):=by
 rw[adX];unfold acb
 grind
theorem aHD(c:Int):ahu c=some (aeB c):=by
 rw[ahu];unfold aeB
 grind
theorem aHE(c:Int):ahV c=some (aeB c):=by
 rw[ahV];unfold aeB
 grind
theorem avU{Ju:Type}(A B k5:Bool)(X Y:Option Ju)(anN:k5=true):
 (some A >>=λh8=>some (!h8) >>=λt26=>if(k5 || (!t26))=true then(if t26=true then some B else some false) >>=λy1=>if(bif t26 then(!y1)else false)=true then X else Y else none)=if(A || B)=true then Y else X:=by
 subst anN;cases A <;> cases B <;> rfl
theorem aws(s:List UInt8):∃r,Ry s=some r/\ZN s=some r:=by
 rw[Ry,ZN];simp only[h',eg];by_cases ai:s=[]\/24 < s.length
 . have ht:(bif decide (s=[])then true else decide (24 < (s.length:Int)))=true:=by grind
   rw[ht];simp_all
 . have hv:s≠[]:=λh=>ai (.inl h)
   have hlen:s.length<=24:=by omega
   have ht:(bif decide (s=[])then true else decide (24 < (s.length:Int)))=false:=by grind
   have UH:0 < s.length:=ao'.2 hv;have tw:eh 0 s.length=true:=d4 (k:=0) UH;simp only[ht,tw,Bool.true_or,q',Ov,eg,asv,asw,XL];cases aJ:acb (Vv s 0)with
   | false=>exact⟨false,rfl,rfl⟩
   | true=>
    rw[b' (by simp),b' (by simp)]
    let p:Nat->Bool:=λi=>acb (Vv s i) || aeB (Vv s i)
    have s1:=scan (λi=>W0 (s,(s.length:Int),(i:Int))) s.length p (.inl false) (.inr ())
     (λi al=>by
      rw[W0,b6 (by simp;omega),b6 (d4 al),asv,aHD,pv (by omega)]
      exact avU _ _ _ _ _ (d4 al))
     (by rw[W0,b' (by simp)])
    have s2:=scan (λi=>WR (s,(i:Int))) s.length p (.inl false) (.inr ())
     (λi al=>by
      rw[WR,b6 (by simp;omega),b6 (d4 al),asw,aHE,pv (by omega)]
      exact avU _ _ _ _ _ (d4 al))
     (by rw[WR,b' (by simp)])
    have e':W0 (s,(s.length:Int),((0:Nat):Int))=W0 (s,(s.length:Int),0):=rfl;have hf:WR (s,((0:Nat):Int))=WR (s,0):=rfl;simp only[e',hf]at s1 s2;rcases s1 with⟨a1,a2⟩ | ⟨a1,j,a2,a3⟩ <;> rcases s2 with⟨b1,b2⟩ | ⟨b1,k,b2,b3⟩
    . simp_all
    . grind
    . grind
    simp_all
def nm(s:List UInt8):Bool:=(Ry s).getD false
theorem aaQ(s:List UInt8):Ry s=some (nm s):=by
 obtain⟨r,h1,_⟩:=aws s;unfold nm;rw[h1];rfl
theorem agP(s:List UInt8):ZN s=some (nm s):=by
 obtain⟨r,h1,ah⟩:=aws s;unfold nm;rw[h1,ah];rfl
theorem ao4{s:List UInt8}(h:nm s=true):s≠[]:=by
 rintro rfl
 unfold nm at h;rw[Ry]at h;simp at h
def Qe(l:List Int)(names:List (List UInt8))(i:Nat):Bool:=
 decide (1<=l.getD i 0) && decide (l.getD i 0<=1000) && (decide (i=0) || decide (l.getD (i - 1) 0 < l.getD i 0)) && nm (names.getD i []) && !((names.take i).contains (names.getD i []))
def Rb(l:List (List UInt8)):List (List UInt8):=l.foldl OH []
theorem aHF(ks:List (List UInt8))(a s:List UInt8):OO (OH ks a) s=(OO ks s || decide (a=s)):=by
 unfold OH;split
 . grind
 . simp[OO,List.any_append]
theorem ate(l:List (List UInt8))(s:List UInt8):OO (Rb l) s=l.contains s:=by
 have key:∀(l:List (List UInt8)) (ks:List (List UInt8)),OO (l.foldl OH ks) s=(OO ks s || l.contains s):=by
  intro l
  induction l with
  | nil=>intro ks;simp
  | cons a r ih=>
   intro ks;rw[List.foldl_cons,ih,aHF,Bool.or_assoc]
   grind
 have:=key l []
 simpa[Rb,OO]using this
theorem atf{l:List (List UInt8)}{i:Nat}(h:i < l.length):OH (Rb (l.take i)) (l.getD i [])=Rb (l.take (i+1)):=by
 unfold Rb;rw[ajI,List.foldl_append,CJ h,G' h];rfl
theorem aHt{Ju:Type}(A Z QA C k5 H N:Bool)(X Y:Option Ju)(anN:k5=true)(afz:Z=true -> QA=true):
 (if(QA || (!((!A) && Z)))=true then
  some (bif A then true else bif Z then C else false) >>=λt34=>
  if(k5 || (!(!t34)))=true then
   some (bif t34 then true else H) >>=λt42=>
   if(k5 || (!(!t42)))=true then
    (if(!t42)=true then some N else some false) >>=λr=>
    if(bif t42 then true else(!r))=true then X else(if k5=true then Y else none)
   else none
  else none
 else none)=if(!A && (!Z || !C) && N && !H)=true then Y else X:=by
 subst anN;cases Z with
 | true=>have:=afz rfl;subst this;cases A <;> cases C <;> cases H <;> cases N <;> rfl
 | false=>cases A <;> cases QA <;> cases C <;> cases H <;> cases N <;> rfl
theorem awi{l:List Int}{names:List (List UInt8)}(aJ:l.length<=reachBytes)(g':names.length=l.length):∃r,ad8 (l,names)=some r/\(r=true↔(∀i,i < l.length->Qe l names i=true)/\l.length<=16):=by
 rw[ad8];have ar:=i4 aJ;have Lq:=scan (λi=>W3 (l,names,l,(l.length:Int),(i:Int),Rb (names.take i))) l.length (Qe l names) (.inl false) (.inr l)
  (λi al=>by
   have tw:i < names.length:=by omega
   rw[W3,b6 (by simp;omega),b6 (d4 al)];simp only[o1];rw[aaQ,pv (by omega),atf tw,ate];have JQ:0 < i->Lx .i64 (i:Int) 1=((i - 1:Nat):Int):=by intro h;rw[aeR (by omega) (by omega)];omega
   refine(aHt (bif decide (l.getD i 0 < 1)then true else decide (1000 < l.getD i 0)) (decide ((0:Int) < (i:Int))) (eh (Lx .i64 (i:Int) 1) l.length) (decide (l.getD i 0<=l.getD (Lx .i64 (i:Int) 1).toNat 0)) (eh (i:Int) names.length) ((names.take i).contains (names.getD i [])) (nm (names.getD i [])) _ _ (d4 tw) (λgA=>?_)).trans ?_
   . have UH:0 < i:=by simp at gA;omega
     rw[JQ UH];exact d4 (by omega)
   . have:(!(bif decide (l.getD i 0 < 1)then true else decide (1000 < l.getD i 0)) && (!(decide ((0:Int) < (i:Int))) || !(decide (l.getD i 0<=l.getD (Lx .i64 (i:Int) 1).toNat 0))) && nm (names.getD i []) && !((names.take i).contains (names.getD i [])))=Qe l names i:=by
      unfold Qe
      grind
     rw[this])
  (by rw[W3,b' (by simp)])
 have vK:W3 (l,names,l,(l.length:Int),((0:Nat):Int),Rb (names.take 0))=W3 (l,names,l,(l.length:Int),0,[]):=rfl;simp only[vK]at Lq;rcases Lq with⟨h1,ah⟩ | ⟨h1,j,ah,bJ⟩
 . rw[h1];refine⟨decide ((l.length:Int)<=16),rfl,?_⟩
   grind
 . rw[h1];refine⟨false,rfl,?_⟩
   grind
theorem aj7{k n:Nat}(hk:k<=16)(h:n*24<=reachBytes):room k n=true:=by
 unfold room Pz Jf;unfold reachBytes at h;simp only[kc,I2];have:(2*n+192)*k<=(2*n+192)*16:=Nat.mul_le_mul_left _ hk;omega
theorem abV{α:Type}(l:List α)(i:Nat)(d:α)(h:i < l.length):l.take i++[l.getD i d]=l.take (i+1):=by simp_all
theorem OB{α β:Type}(f:α->β)(l:List α)(i:Nat)(d:α)(e:β)(h:i < l.length):(l.map f).getD i e=f (l.getD i d):=by grind
theorem Yj{l:List (List UInt8)}{i:Nat}{s:List UInt8}(al:i<=l.length):(l.take i).contains s=true↔∃k,k < i/\l.getD k []=s:=by
 rw[List.contains_iff_mem];constructor
 . intro h;obtain⟨k,hk,he⟩:=K' h;rw[agE]at hk;refine⟨k,by omega,?_⟩
   grind
 . rintro ⟨k,hk,he⟩
   rw[<-he,G' (by omega)];have:(l.take i)[k]'(by rw[agE];omega)=l[k]:=List.getElem_take
   grind
def Tm(l:List Int)(i:Nat):Int:=if i=0 then 0 else l.getD (i - 1) 0
theorem awt{l:List Int}{names:List (List UInt8)}{i:Nat}(al:i < l.length)(g':names.length=l.length):
 Qe l names i=(decide (Tm l i < l.getD i 0) && decide (1<=l.getD i 0) && decide (l.getD i 0<=1000) && nm (names.getD i []) && !((names.take i).contains (names.getD i []))):=by
 unfold Qe Tm;generalize l.getD i 0=x;generalize l.getD (i - 1) 0=y;generalize nm (names.getD i [])=a;generalize (names.take i).contains (names.getD i [])=b;by_cases h0:i=0
 . subst h0;by_cases h1:1<=x
   . have:decide ((0:Int) < x)=true:=by simp;omega
     simp[h1,this]
   . simp[h1]
 . simp only[h0,vv,aaZ,Bool.false_or];by_cases h1:1<=x <;> by_cases ah:x<=1000 <;> by_cases bJ:y < x <;> simp[h1,ah,bJ]
theorem atg(l:List ri)(aJ:l.length*24<=reachBytes):∀(k i:Nat),i+k=l.length->X0 (l,l,(l.length:Int),(i:Int),(l.map (·.bo)).take i,(l.map (·.Name)).take i)=some (l,l.map (·.bo),l.map (·.Name))
 | 0,i,h=>by
  have:i=l.length:=by omega
  subst this;rw[X0,b' (by simp)];rw[UL (by simp),UL (by simp)]
 | k+1,i,h=>by
  have ar:l.length < 9223372036854775807:=by unfold reachBytes at aJ;omega
  have al:i < l.length:=by omega
  rw[X0,b6 (by simp;omega),b6 (d4 al)];simp only[h',eg,o1];rw[<-OB (·.bo) l i wm 0 al,<-OB (·.Name) l i wm [] al,abV _ _ _ (by simpa using al),abV _ _ _ (by simpa using al)];rw[b6 (aj7 (by omega) (by simp;omega)),b6 (aj7 (by omega) (by simp;omega)),pv (by omega)];exact atg l aJ k (i+1) (by omega)
theorem awu{l:List ri}(aJ:l.length*24<=reachBytes):∃r,PP l=some r/\(r=true↔0 < l.length/\(∀i,i < l.length->Qe (l.map (·.bo)) (l.map (·.Name)) i=true)/\l.length<=16):=by
 have h:=atg l aJ l.length 0 (by omega);have vc:X0 (l,l,(l.length:Int),0,[],[])=some (l,l.map (·.bo),l.map (·.Name)):=h;rw[PP,vc];simp only[h',eg];obtain⟨r,h1,ah⟩:=awi (l:=l.map (·.bo)) (names:=l.map (·.Name)) (by simp;unfold reachBytes at*;omega) (by simp);rw[JU]at ah
 grind
theorem ayr(a b:Int):aej (a,b)=some (decide (a < b) && decide (1<=b) && decide (b<=1000)):=by
 rw[aej]
 grind
theorem aF5(l:List ri)(aJ:l.length <=reachBytes)(i:Nat)(al:i < l.length):
 U2 (l,(i:Int),0)=some (if((l.map (·.Name)).take i).contains ((l.map (·.Name)).getD i [])=true then .inl false else .inr (l,(i:Int))):=by
 have ar:=i4 aJ;have Lq:=scan (λk=>U2 (l,(i:Int),(k:Int))) i (λk=>!(decide ((l.getD k wm).Name=(l.getD i wm).Name))) (.inl false) (.inr (l,(i:Int)))
  (λk hk=>by
   rw[U2,b6 (by simp;omega),b6 (d4 (by omega)),b6 (d4 al),pv (by omega)]
   grind)
  (by rw[U2,b' (by simp)])
 have vK:U2 (l,(i:Int),((0:Nat):Int))=U2 (l,(i:Int),0):=rfl;simp only[vK]at Lq;rw[OB (·.Name) l i wm [] al];rcases Lq with⟨h1,ah⟩ | ⟨h1,j,ah,bJ⟩
 . rw[h1,b'];rw[Yj (by simp;omega)]
   rintro ⟨k,hk,he⟩
   rw[OB (·.Name) l k wm [] (by omega)]at he;have:=ah k hk;rw[he]at this;simp at this
 . rw[h1,b6];rw[Yj (by simp;omega)];refine⟨j,ah,?_⟩;rw[OB (·.Name) l j wm [] (by omega)]
   simpa using bJ
theorem aHu{l:List ri}(aJ:l.length<=reachBytes):∃r,adU l=some r/\(r=true↔0 < l.length/\(∀i,i < l.length->Qe (l.map (·.bo)) (l.map (·.Name)) i=true)/\l.length<=16):=by
 have ar:=i4 aJ;have Lq:=scan (λi=>WN (l,Tm (l.map (·.bo)) i,(i:Int))) l.length (Qe (l.map (·.bo)) (l.map (·.Name))) (.inl false) (.inr l)
  (λi al=>by
   rw[WN,b6 (by simp;omega),b6 (d4 al),ayr,aF5 l aJ i al,awt (by simpa using al) (by simp)];simp only[h',eg,o1];rw[<-OB (·.bo) l i wm 0 al,<-OB (·.Name) l i wm [] al,agP];generalize (decide (Tm (l.map (·.bo)) i < (l.map (·.bo)).getD i 0) && decide (1<=(l.map (·.bo)).getD i 0) && decide ((l.map (·.bo)).getD i 0<=1000))=q
   rw[b6 (by rw[d4 al];rfl)];cases q with
   | false=>rfl
   | true=>
    simp only[Po,Ov,q',eg,aaY];cases nm ((l.map (·.Name)).getD i [])with
    | false=>rfl
    | true=>
     simp only[Po,XL,u1,vv,aaY];cases ay:((l.map (·.Name)).take i).contains ((l.map (·.Name)).getD i [])with
     | true=>simp
     | false=>
      simp only[u1,vv,Ov,q'];rw[b6 (d4 al),pv (by omega)];have:Tm (l.map (·.bo)) (i+1)=(l.getD i wm).bo:=by
       unfold Tm
       grind
      grind)
  (by rw[WN,b' (by simp)])
 have vK:WN (l,Tm (l.map (·.bo)) 0,((0:Nat):Int))=WN (l,0,0):=rfl;simp only[vK]at Lq;rw[adU];rcases Lq with⟨h1,ah⟩ | ⟨h1,j,ah,bJ⟩
 . rw[h1];refine⟨_,rfl,?_⟩
   grind
 . rw[h1];refine⟨false,rfl,?_⟩
   grind
theorem aGS{l:List ri}(aJ:l.length*24<=reachBytes):∃r,PP l=some r/\adU l=some r:=by
 obtain⟨r,h1,ah⟩:=awu aJ;obtain⟨q,bJ,ea⟩:=aHu (l:=l) (by unfold reachBytes at*;omega)
 grind
structure vk (t:cm):Prop where
 syms:t.hq.length*24<=reachBytes
 Nu:t.cy.length*24<=reachBytes
 QV:∀m,m∈t.cy->pI m.oo
theorem QG{n:Nat}(h:n*24<=reachBytes):n<=reachBytes:=by unfold reachBytes at*;omega
theorem aF6{a b:em}:a=b↔a.bo=b.bo/\a.Name=b.Name/\a.ki=b.ki/\a.Is=b.Is/\a.x'=b.x'/\a.oo=b.oo:=by cases a;cases b;simp
theorem abo(x:em):(⟨x.bo,x.Name,x.ki,x.Is,x.x',ao.eta x.oo⟩:em)=x:=by cases x;simp[ao.d5]
theorem auX{a b:em}:(bif bif bif bif decide (a.bo=b.bo)then decide (a.Name=b.Name)else false then decide (a.ki=b.ki)else false then J0 a.Is b.Is else false then J0 a.x' b.x' else false)=true↔a.bo=b.bo/\a.Name=b.Name/\a.ki=b.ki/\a.Is=b.Is/\a.x'=b.x':=by
 simp only[agF,J0]
 grind
theorem ayR{a b:em}{q:Bool}(ee:q=true↔a.bo=b.bo /\ a.Name=b.Name /\ a.ki=b.ki /\ a.Is=b.Is /\ a.x'=b.x'){x:Option Bool}(aa:JC x a.oo b.oo):
 JC (some q >>=λt37=>(if t37=true then x else some false) >>=λr=>some (bif t37 then r else false)) a b:=by
 obtain⟨rx,h1,ah⟩:=aa;subst h1;refine⟨q && rx,by cases q <;> cases rx <;> rfl,?_⟩;rw[aF6,kc,ee,ah];constructor
 . rintro ⟨⟨a1,a2,a3,a4,a5⟩,n'⟩;exact⟨a1,a2,a3,a4,a5,n'⟩
 . rintro ⟨a1,a2,a3,a4,a5,n'⟩;exact⟨⟨a1,a2,a3,a4,a5⟩,n'⟩
theorem aGT{a:em}(h:pI a.oo)(b:em):JC (adO (a,b)) a b:=by
 rw[adO];simp only[aiw,ao.d5];exact ayR auX (akT h _)
theorem aGU{a:em}(h:pI a.oo)(b:em):JC (adS (a,b)) a b:=by
 rw[adS];simp only[aiw,ao.d5];exact ayR auX (awr h _)
theorem arM {f:em×em -> Option Bool} {Ju:Type} {g:Ju} {a b:List em} (aJ:a.length=b.length) (ih:∀x,x∈a -> ∀y,JC (f (x,y)) x y) (L:Nat -> Option (Bool ⊕ Ju))
 (NZ:∀i,i < a.length->L i=(f (a.getD i hL,b.getD i hL) >>=λr=>if(!r)=true then some (.inl false)else L (i+1)))
 (UD:L a.length=some (.inr g)):(L 0=some (.inr g)/\a=b)\/(L 0=some (.inl false)/\a≠b):=by
 have sK:∀(i:Nat) (h1:i < a.length) (ah:i < b.length),JC (f (a.getD i hL,b.getD i hL)) a[i] b[i]:=by grind
 have a7:∀(i:Nat) (h1:i < a.length) (ah:i < b.length),(f (a.getD i hL,b.getD i hL)).getD false=true↔a[i]=b[i]:=by
  intro i h1 ah;obtain⟨r,bJ,ea⟩:=sK i h1 ah
  grind
 have:=scan L a.length (λi=>(f (a.getD i hL,b.getD i hL)).getD false) (.inl false) (.inr g)
  (λi al=>by
   obtain⟨r,h1,ah⟩:=sK i al (by omega)
   grind) UD
 rcases this with⟨h1,ah⟩ | ⟨h1,j,ah,bJ⟩
 . exact .inl ⟨h1,(abE aJ a7).1 ah⟩
 . refine .inr ⟨h1,λe=>?_⟩;have:=(abE aJ a7).2 e j ah;rw[bJ]at this;cases this
theorem aET{a b:List em}(ch:a.length<=reachBytes)(a6:∀m,m∈a->pI m.oo):JC (ahm (a,b)) a b:=by
 rw[ahm];by_cases aJ:a.length=b.length
 . rw[b' (by simp;omega)];have ar:=i4 ch;have hs:=arM (g:=()) aJ (f:=adO) (λx aa y=>aGT (a6 x aa) y) (λi=>Wl (b,a,(a.length:Int),(i:Int)))
    (λi al=>by
     rw[Wl,b6 (by simp;omega),b6 (d4 al)];simp only[h',eg,o1,abo]
     rw[b6 (d4 (by omega)),pv (by omega)])
    (by rw[Wl,b' (by simp)])
   have vK:Wl (b,a,(a.length:Int),((0:Nat):Int))=Wl (b,a,(a.length:Int),0):=rfl;simp only[vK]at hs;rcases hs with⟨h1,ah⟩ | ⟨h1,ah⟩
   . rw[h1];exact⟨true,rfl,by simp[ah]⟩
   . rw[h1];exact⟨false,rfl,by simp[ah]⟩
 . rw[b6 (by simp;omega)];exact aeV aJ
theorem avV{a b:cm}:a=b↔a.Kind=b.Kind/\a.Name=b.Name/\a.jb=b.jb/\a.i'=b.i'/\a.Max=b.Max/\a.Key=b.Key/\a.hZ=b.hZ/\a.Open=b.Open/\a.hq=b.hq/\a.cy=b.cy:=by
 cases a;cases b
 grind
theorem aJy{a b:cm}:(bif bif bif bif bif bif bif decide (a.Kind=b.Kind)then decide (a.Name=b.Name)else false then decide (a.jb=b.jb)else false then decide (a.i'=b.i')else false then decide (a.Max=b.Max)else false then decide (a.Key=b.Key)else false then decide (a.hZ=b.hZ)else false then J0 a.Open b.Open else false)=true↔
 a.Kind=b.Kind/\a.Name=b.Name/\a.jb=b.jb/\a.i'=b.i'/\a.Max=b.Max/\a.Key=b.Key/\a.hZ=b.hZ/\a.Open=b.Open:=by
 simp only[agF,J0];by_cases h1:a.Kind=b.Kind <;> by_cases ah:a.Name=b.Name <;> by_cases bJ:a.jb=b.jb <;> by_cases ea:a.i'=b.i' <;> simp[h1,ah,bJ,ea]
 by_cases hi:a.Max=b.Max <;> by_cases q0:a.Key=b.Key <;> by_cases Tt:a.hZ=b.hZ <;> simp[hi,q0,Tt]
theorem OC{a:cm}(h:vk a)(b:cm):JC (NG (a,b)) a b:=by
 rw[NG];obtain⟨rs,s1,s2⟩:=aJx (a:=a.hq) (b:=b.hq) (QG h.syms);obtain⟨ays,m1,m2⟩:=aET (a:=a.cy) (b:=b.cy) (QG h.Nu) h.QV;have e8:=aJy (a:=a) (b:=b)
 generalize (bif bif bif bif bif bif bif decide (a.Kind=b.Kind)then decide (a.Name=b.Name)else false then decide (a.jb=b.jb)else false then decide (a.i'=b.i')else false then decide (a.Max=b.Max)else false then decide (a.Key=b.Key)else false then decide (a.hZ=b.hZ)else false then J0 a.Open b.Open else false)=q at e8 ⊢
 simp only[h',eg];rw[s1,m1];refine⟨q && rs && ays,by cases q <;> cases rs <;> cases ays <;> rfl,?_⟩;rw[avV,kc,kc,e8,s2,m2]
 grind
theorem alY(a:cm):(⟨a.Kind,a.Name,a.jb,a.i',a.Max,a.hq,a.cy,a.Key,a.hZ,a.Open⟩:cm)=a:=by cases a;rfl
theorem WE{a:cm}(h:vk a)(b:cm):JC (ahR (a,b)) a b:=by
 rw[ahR];simp only[alY];by_cases hi:(a.Kind=b.Kind/\a.Name=b.Name/\a.jb=b.jb/\a.i'=b.i'/\a.Max=b.Max/\a.Key=b.Key/\a.hZ=b.hZ/\a.Open=b.Open)/\a.hq.length=b.hq.length/\a.cy.length=b.cy.length
 . obtain⟨⟨e',hf,te,YG,aal,aff,auu,e8⟩,Xh,amQ⟩:=hi;rw[b' (by simp[e',hf,te,YG,aal,aff,auu,e8,Xh,amQ,J0])];have ar:=i4 (QG h.syms);have acP:=i4 (QG h.Nu)
   have Lq:=scan (λi=>WL ((i:Int),a,b)) a.hq.length (λi=>NQ (a.hq.getD i wm).bo (b.hq.getD i wm).bo && (O9 (a.hq.getD i wm).Name (b.hq.getD i wm).Name && true)) (.inl false) (.inr (a,b))
    (λi JG=>by
     rw[WL,b6 (by simp;omega),b6 (d4 JG)];simp only[h',eg,o1];rw[b6 (d4 (by omega)),pv (by omega)]
     grind)
    (by rw[WL,b' (by simp)])
   have h0:WL (((0:Nat):Int),a,b)=WL (0,a,b):=rfl;simp only[h0]at Lq;have a7:∀(i:Nat) (h1:i < a.hq.length) (ah:i < b.hq.length),(NQ (a.hq.getD i wm).bo (b.hq.getD i wm).bo && (O9 (a.hq.getD i wm).Name (b.hq.getD i wm).Name && true))=true↔a.hq[i]=b.hq[i]:=λi h1 ah=>by rw[G' h1,G' ah];exact awh
   rcases Lq with⟨g1,g2⟩ | ⟨g1,j,g2,g3⟩
   . have acS:=(abE Xh a7).1 g2;rw[g1];simp only[h',eg];have hs:=arM (g:=()) amQ (f:=adS) (λx aa y=>aGU (h.QV x aa) y) (λi=>WM ((i:Int),a,b))
      (λi al=>by
       rw[WM,b6 (by simp;omega),b6 (d4 al)];simp only[h',eg,o1,abo]
       rw[b6 (d4 (by omega)),pv (by omega)])
      (by rw[WM,b' (by simp)])
     have vK:WM (((0:Nat):Int),a,b)=WM (0,a,b):=rfl;simp only[vK]at hs;rcases hs with⟨hg,hl⟩ | ⟨hg,hl⟩
     . rw[hg];refine⟨true,rfl,?_⟩;rw[avV]
       grind
     . rw[hg];refine⟨false,rfl,?_⟩
       grind
   . rw[g1];refine⟨false,rfl,?_⟩
     grind
 . rw[b6]
   . refine⟨false,rfl,?_⟩
     grind
   . simp only[agF,J0];by_cases y0:a.Kind=b.Kind <;> by_cases t':a.Name=b.Name <;> by_cases SL:a.jb=b.jb <;> by_cases agL:a.i'=b.i' <;> simp[y0,t',SL,agL]
     grind
def Z8(v:ao):Bool:=(T' (v,e2)).getD false
theorem aHv{v:ao}(h:pI v):T' (v,e2)=some (Z8 v):=by
 obtain⟨r,h1,ah⟩:=akT h e2;unfold Z8;rw[h1];rfl
theorem aHw{v:ao}(h:pI v):U7 (v,e2)=some (Z8 v):=by
 obtain⟨r,h1,ah⟩:=akT h e2;obtain⟨q,bJ,ea⟩:=awr h e2;unfold Z8;rw[h1,bJ]
 grind
theorem aHG{v:ao}(h:pI v):ahB v=some (Z8 v):=by
 rw[ahB,ao.d5];have:=aHv h;unfold e2 at this
 grind
def VM(union:Bool)(m:em):Bool:=(union && (m.Is || m.x')) || (m.Is && m.x') || (!m.x' && !Z8 m.oo)
theorem oJ{α:Type}{l:List α}{i:Nat}(h:i < l.length)(d:α):l.getD i d∈l:=by grind
theorem ath{t:cm}(h:vk t):∃r,ZU t=some r/\(r=true↔(∀i,i < t.cy.length->VM (decide (t.Kind=6)) (t.cy.getD i hL)=false)/\(t.Kind=5\/0 < t.cy.length)/\(∀i,i < t.cy.length->Qe (t.cy.map (·.bo)) (t.cy.map (·.Name)) i=true)/\t.cy.length<=16):=by
 have ar:t.cy.length < 9223372036854775807:=i4 (QG h.Nu);have Lq:=scan (λi=>WX (t.cy,(t.cy.length:Int),(i:Int),t,(t.cy.map (·.bo)).take i,(t.cy.map (·.Name)).take i)) t.cy.length (λi=>!(VM (decide (t.Kind=6)) (t.cy.getD i hL))) (.inl false) (.inr (t,t.cy.map (·.bo),t.cy.map (·.Name)))
  (λi al=>by
   have gA:=aHG (h.QV _ (oJ al hL));rw[WX,b6 (by simp;omega),b6 (d4 al)];simp only[h',eg,o1,ao.d5];rw[<-OB (·.bo) t.cy i hL 0 al,<-OB (·.Name) t.cy i hL [] al,abV _ _ _ (by simpa using al),abV _ _ _ (by simpa using al)];have ai:((t.cy.map (·.bo)).take (i+1)).length*24<=reachBytes:=by
    refine SH (Ji _ ?_) h.Nu;simp;omega
   have JE:((t.cy.map (·.Name)).take (i+1)).length*24<=reachBytes:=by grind
   rw[b6 (aj7 (by omega) ai),b6 (aj7 (by omega) JE),pv (by omega),gA];unfold VM
   grind)
  (by
   rw[WX,b' (by simp)]
   rw[UL (by simp),UL (by simp)])
 have vK:WX (t.cy,(t.cy.length:Int),((0:Nat):Int),t,(t.cy.map (·.bo)).take 0,(t.cy.map (·.Name)).take 0)=WX (t.cy,(t.cy.length:Int),0,t,[],[]):=rfl;simp only[vK]at Lq;rw[ZU];obtain⟨r,h1,ah⟩:=awi (l:=t.cy.map (·.bo)) (names:=t.cy.map (·.Name)) (by simpa using QG h.Nu) (by simp);rw[JU]at ah
 rcases Lq with⟨g1,g2⟩ | ⟨g1,j,g2,g3⟩
 . rw[g1];simp only[h',eg];rw[h1];refine⟨(bif decide (t.Kind=5)then true else decide (0 < ((t.cy.map (·.bo)).length:Int))) && r,?_,?_⟩
   . grind
   grind
 grind
theorem aFl(l:List em)(record:Bool)(aJ:l.length <=reachBytes)(i:Nat)(al:i < l.length):
 Vw (l,record,(i:Int),0,l.getD i hL)=some (if((l.map (·.Name)).take i).contains ((l.map (·.Name)).getD i [])=true then .inl false else .inr (l,record,(i:Int),l.getD i hL)):=by
 have ar:=i4 aJ;have Lq:=scan (λk=>Vw (l,record,(i:Int),(k:Int),l.getD i hL)) i (λk=>!(decide ((l.getD k hL).Name=(l.getD i hL).Name))) (.inl false) (.inr (l,record,(i:Int),l.getD i hL))
  (λk hk=>by
   rw[Vw,b6 (by simp;omega),b6 (d4 (by omega)),pv (by omega)];simp only[o1,abo]
   grind)
  (by rw[Vw,b' (by simp),abo])
 have vK:Vw (l,record,(i:Int),((0:Nat):Int),l.getD i hL)=Vw (l,record,(i:Int),0,l.getD i hL):=rfl;simp only[vK]at Lq;rw[OB (·.Name) l i hL [] al];rcases Lq with⟨h1,ah⟩ | ⟨h1,j,ah,bJ⟩
 . rw[h1,b'];rw[Yj (by simp;omega)]
   rintro ⟨k,hk,he⟩
   rw[OB (·.Name) l k hL [] (by omega)]at he;have:=ah k hk;rw[he]at this;simp at this
 . rw[h1,b6];rw[Yj (by simp;omega)];refine⟨j,ah,?_⟩;rw[OB (·.Name) l j hL [] (by omega)]
   simpa using bJ
theorem aFm{l:List em}{record:Bool}(aJ:l.length<=reachBytes)(a6:∀m,m∈l->pI m.oo):∃r,abI (l,record)=some r/\(r=true↔(∀i,i < l.length->VM (!record) (l.getD i hL)=false)/\(record=true\/0 < l.length)/\(∀i,i < l.length->Qe (l.map (·.bo)) (l.map (·.Name)) i=true)/\l.length<=16):=by
 have ar:=i4 aJ;have Lq:=scan (λi=>WO (l,record,Tm (l.map (·.bo)) i,(i:Int))) l.length (λi=>Qe (l.map (·.bo)) (l.map (·.Name)) i && !(VM (!record) (l.getD i hL))) (.inl false) (.inr (l,record))
  (λi al=>by
   have gA:=aHw (a6 _ (oJ al hL));unfold e2 at gA;rw[WO,b6 (by simp;omega),b6 (d4 al)];simp only[h',eg,o1,ao.d5,abo,awt (l:=l.map (·.bo)) (names:=l.map (·.Name)) (i:=i) (by simpa using al) (by simp)];rw[aFl l record aJ i al,gA];have aJT:Tm (l.map (·.bo)) (i+1)=(l.getD i hL).bo:=by
    unfold Tm
    grind
   rw[<-OB (·.bo) l i hL 0 al,<-OB (·.Name) l i hL [] al,ayr,agP];simp only[eg];generalize (decide (Tm (l.map (·.bo)) i < (l.map (·.bo)).getD i 0) && decide (1<=(l.map (·.bo)).getD i 0) && decide ((l.map (·.bo)).getD i 0<=1000))=q;cases q with
   | false=>simp
   | true=>
    simp only[Po,Ov,q',eg,aaY];cases nm ((l.map (·.Name)).getD i [])with
    | false=>simp
    | true=>
     simp only[Po,aaY,PS,XL];unfold VM;cases record <;> cases (l.getD i hL).Is <;> cases (l.getD i hL).x' <;> cases Z8 (l.getD i hL).oo <;>
      simp only[Po,Ov,Bool.or_self,Bool.and_self,Bool.or_true,Bool.true_or,Bool.and_true,Bool.and_false,Bool.false_and,aaY,Bool.false_or,PS,cond_true,XL,q',vv,u1,eg] <;>
      first
       | rfl
       | (cases ay:((l.map (·.Name)).take i).contains ((l.map (·.Name)).getD i [])with
        | true=>simp
        | false=>
         simp only[u1,vv,Ov,q'];rw[pv (by omega),aJT]
         try rfl))
  (by rw[WO,b' (by simp)])
 have vK:WO (l,record,Tm (l.map (·.bo)) 0,((0:Nat):Int))=WO (l,record,0,0):=rfl;simp only[vK]at Lq;rw[abI];rcases Lq with⟨h1,ah⟩ | ⟨h1,j,ah,bJ⟩
 . rw[h1];refine⟨_,rfl,?_⟩
   grind
 . rw[h1];refine⟨false,rfl,?_⟩
   grind
theorem asx{t:cm}(h:vk t)(hk:t.Kind=5\/t.Kind=6):∃r,ZU t=some r/\abI (t.cy,decide (t.Kind=5))=some r:=by
 obtain⟨r,h1,ah⟩:=ath h;obtain⟨q,bJ,ea⟩:=aFm (l:=t.cy) (record:=decide (t.Kind=5)) (QG h.Nu) h.QV;have hu:(!(decide (t.Kind=5)))=decide (t.Kind=6):=by grind
 grind
theorem vk.plain{k l h m kk e:Int}{n:List UInt8}{S:List ri}{hF:List em}{o:Bool}(c8:S.length*24<=reachBytes)(ON:hF.length*24<=reachBytes)(a6:∀x,x∈hF->pI x.oo):vk ⟨k,n,l,h,m,S,hF,kk,e,o⟩:=⟨c8,ON,a6⟩
theorem aBa{N:List UInt8}{L H M K E:Int}{S:List ri}{hF:List em}{O:Bool}(h:vk (⟨1,N,L,H,M,S,hF,K,E,O⟩:cm)):∃r,Lu (⟨1,N,L,H,M,S,hF,K,E,O⟩:cm)=some r/\M9 (⟨1,N,L,H,M,S,hF,K,E,O⟩:cm)=some r/\(r=true->N=[]):=by
 obtain⟨a,a1,a2⟩:=OC (a:=(⟨0,N,L,H,M,S,hF,K,E,O⟩:cm)) ⟨h.syms,h.Nu,h.QV⟩ (⟨0,[],0,0,0,[],[],0,0,false⟩:cm);obtain⟨b,b1,b2⟩:=WE h (⟨1,[],0,0,0,[],[],0,0,false⟩:cm);have ze:a=b:=by grind
 subst ze;refine⟨a,by simp[Lu,a1],by simp[M9,TY,Rr,b1];try (cases a <;> rfl),λar=>?_⟩
 grind
theorem aBb{N:List UInt8}{L H M K E:Int}{S:List ri}{hF:List em}{O:Bool}(h:vk (⟨2,N,L,H,M,S,hF,K,E,O⟩:cm)):∃r,Lu (⟨2,N,L,H,M,S,hF,K,E,O⟩:cm)=some r/\M9 (⟨2,N,L,H,M,S,hF,K,E,O⟩:cm)=some r/\(r=true->N=[]):=by
 obtain⟨a,a1,a2⟩:=OC (a:=(⟨0,N,0,0,M,S,hF,K,E,O⟩:cm)) ⟨h.syms,h.Nu,h.QV⟩ (⟨0,[],0,0,0,[],[],0,0,false⟩:cm);obtain⟨b,b1,b2⟩:=WE h (⟨2,[],L,H,0,[],[],0,0,false⟩:cm);have ze:a=b:=by grind
 subst ze;refine⟨decide (L<=H) && a,?_,?_,λar=>?_⟩
 . simp only[Lu]
   grind
 . simp only[M9];generalize decide (L<=H)=q;simp[TY,Rr,b1]
   grind
 grind
theorem aBc{N:List UInt8}{L H M K E:Int}{S:List ri}{hF:List em}{O:Bool}(h:vk (⟨3,N,L,H,M,S,hF,K,E,O⟩:cm)):∃r,Lu (⟨3,N,L,H,M,S,hF,K,E,O⟩:cm)=some r/\M9 (⟨3,N,L,H,M,S,hF,K,E,O⟩:cm)=some r/\(r=true->N=[]):=by
 obtain⟨a,a1,a2⟩:=OC (a:=(⟨0,N,L,H,0,S,hF,K,E,O⟩:cm)) ⟨h.syms,h.Nu,h.QV⟩ (⟨0,[],0,0,0,[],[],0,0,false⟩:cm);obtain⟨b,b1,b2⟩:=WE h (⟨3,[],0,0,M,[],[],0,0,false⟩:cm);have ze:a=b:=by grind
 subst ze;refine⟨(bif decide (0<=M)then decide (M<=200)else false) && a,?_,?_,λar=>?_⟩
 . simp only[Lu]
   grind
 . simp only[M9];generalize (bif decide (0<=M)then decide (M<=200)else false)=q;simp[TY,Rr,b1]
   grind
 grind
theorem aBd{N:List UInt8}{L H M K E:Int}{S:List ri}{hF:List em}{O:Bool}(h:vk (⟨4,N,L,H,M,S,hF,K,E,O⟩:cm)):∃r,Lu (⟨4,N,L,H,M,S,hF,K,E,O⟩:cm)=some r/\M9 (⟨4,N,L,H,M,S,hF,K,E,O⟩:cm)=some r/\(r=true->N≠[]):=by
 obtain⟨a,a1,a2⟩:=OC (a:=(⟨0,[],L,H,M,[],hF,K,E,false⟩:cm)) ⟨(by simp),h.Nu,h.QV⟩ (⟨0,[],0,0,0,[],[],0,0,false⟩:cm);obtain⟨b,b1,b2⟩:=WE h (⟨4,N,0,0,0,S,[],0,0,O⟩:cm);have ze:a=b:=by grind
 subst ze;obtain⟨q,y0,t'⟩:=aGS (l:=S) h.syms;refine⟨nm N && q && a,?_,?_,λar=>?_⟩
 . simp only[Lu];simp[a1,y0,aaQ]
   grind
 . simp only[M9]
   try simp at t'
   simp[TY,Rr,b1,t',agP]
   grind
 . simp only[kc]at ar;exact ao4 ar.1.1
theorem aBe{N:List UInt8}{L H M K E:Int}{S:List ri}{hF:List em}{O:Bool}(h:vk (⟨5,N,L,H,M,S,hF,K,E,O⟩:cm)):∃r,Lu (⟨5,N,L,H,M,S,hF,K,E,O⟩:cm)=some r/\M9 (⟨5,N,L,H,M,S,hF,K,E,O⟩:cm)=some r/\(r=true->N≠[]):=by
 obtain⟨a,a1,a2⟩:=OC (a:=(⟨0,[],L,H,M,S,[],K,E,(bif O then decide ((5:Int)=5)else false)⟩:cm)) ⟨h.syms,(by simp),(by simp)⟩ (⟨0,[],0,0,0,[],[],0,0,false⟩:cm);obtain⟨b,b1,b2⟩:=WE h (⟨5,N,0,0,0,[],hF,0,0,false⟩:cm);have ze:a=b:=by grind
 subst ze;obtain⟨q,y0,t'⟩:=asx h (by simp);refine⟨nm N && q && a,?_,?_,λar=>?_⟩
 . simp only[Lu]
   try simp at a1
   try simp at y0
   simp[a1,y0,aaQ]
   grind
 . simp only[M9]
   try simp at t'
   simp[TY,Rr,b1,t',agP]
   grind
 . simp only[kc]at ar;exact ao4 ar.1.1
theorem aBf{N:List UInt8}{L H M K E:Int}{S:List ri}{hF:List em}{O:Bool}(h:vk (⟨6,N,L,H,M,S,hF,K,E,O⟩:cm)):∃r,Lu (⟨6,N,L,H,M,S,hF,K,E,O⟩:cm)=some r/\M9 (⟨6,N,L,H,M,S,hF,K,E,O⟩:cm)=some r/\(r=true->N≠[]):=by
 obtain⟨a,a1,a2⟩:=OC (a:=(⟨0,[],L,H,M,S,[],K,E,(bif O then decide ((6:Int)=5)else false)⟩:cm)) ⟨h.syms,(by simp),(by simp)⟩ (⟨0,[],0,0,0,[],[],0,0,false⟩:cm);obtain⟨b,b1,b2⟩:=WE h (⟨6,N,0,0,0,[],hF,0,0,O⟩:cm);have ze:a=b:=by grind
 subst ze;obtain⟨q,y0,t'⟩:=asx h (by simp);refine⟨nm N && q && a,?_,?_,λar=>?_⟩
 . simp only[Lu]
   try simp at a1
   try simp at y0
   simp[a1,y0,aaQ]
   grind
 . simp only[M9]
   try simp at t'
   simp[TY,Rr,b1,t',agP]
   grind
 . simp only[kc]at ar;exact ao4 ar.1.1
theorem aBg{N:List UInt8}{L H M K E:Int}{S:List ri}{hF:List em}{O:Bool}(h:vk (⟨7,N,L,H,M,S,hF,K,E,O⟩:cm)):∃r,Lu (⟨7,N,L,H,M,S,hF,K,E,O⟩:cm)=some r/\M9 (⟨7,N,L,H,M,S,hF,K,E,O⟩:cm)=some r/\(r=true->N=[]):=by
 obtain⟨a,a1,a2⟩:=OC (a:=(⟨0,N,L,H,0,S,hF,K,0,O⟩:cm)) ⟨h.syms,h.Nu,h.QV⟩ (⟨0,[],0,0,0,[],[],0,0,false⟩:cm);obtain⟨b,b1,b2⟩:=WE h (⟨7,[],0,0,M,[],[],0,E,false⟩:cm);have ze:a=b:=by grind
 subst ze;refine⟨(bif decide (0<=M)then decide (M<=50)else false) && a,?_,?_,λar=>?_⟩
 . simp only[Lu]
   grind
 . simp only[M9];generalize (bif decide (0<=M)then decide (M<=50)else false)=q;simp[TY,Rr,b1]
   grind
 grind
theorem aBh{N:List UInt8}{L H M K E:Int}{S:List ri}{hF:List em}{O:Bool}(h:vk (⟨8,N,L,H,M,S,hF,K,E,O⟩:cm)):∃r,Lu (⟨8,N,L,H,M,S,hF,K,E,O⟩:cm)=some r/\M9 (⟨8,N,L,H,M,S,hF,K,E,O⟩:cm)=some r/\(r=true->N=[]):=by
 obtain⟨a,a1,a2⟩:=OC (a:=(⟨0,N,L,H,0,S,hF,0,0,O⟩:cm)) ⟨h.syms,h.Nu,h.QV⟩ (⟨0,[],0,0,0,[],[],0,0,false⟩:cm);obtain⟨b,b1,b2⟩:=WE h (⟨8,[],0,0,M,[],[],K,E,false⟩:cm);have ze:a=b:=by grind
 subst ze;refine⟨(bif decide (0<=M)then decide (M<=50)else false) && a,?_,?_,λar=>?_⟩
 . simp only[Lu]
   grind
 . simp only[M9];generalize (bif decide (0<=M)then decide (M<=50)else false)=q;simp[TY,Rr,b1]
   grind
 grind
theorem aBi{N:List UInt8}{L H M K E:Int}{S:List ri}{hF:List em}{O:Bool}(h:vk (⟨9,N,L,H,M,S,hF,K,E,O⟩:cm)):∃r,Lu (⟨9,N,L,H,M,S,hF,K,E,O⟩:cm)=some r/\M9 (⟨9,N,L,H,M,S,hF,K,E,O⟩:cm)=some r/\(r=true->N=[]):=by
 obtain⟨a,a1,a2⟩:=OC (a:=(⟨0,N,L,H,M,S,hF,K,0,O⟩:cm)) ⟨h.syms,h.Nu,h.QV⟩ (⟨0,[],0,0,0,[],[],0,0,false⟩:cm);obtain⟨b,b1,b2⟩:=WE h (⟨9,[],0,0,0,[],[],0,E,false⟩:cm);have ze:a=b:=by grind
 subst ze;refine⟨a,by simp[Lu,a1],by simp[M9,TY,Rr,b1];try (cases a <;> rfl),λar=>?_⟩
 grind
end
end Go.Proofs.YtijpinendaoleaaGreat
