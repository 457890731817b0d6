/- The functions of the program as functions of Lean, that its code does what they say, and what they answer; part A. -/
import Derived.Test.YtkbmjabicjpmjaaGreatDoorProg
import Derived.KernelRfl
import Derived.Shelf.SlGeneric
import Derived.Shelf.SlLaysF0
import Derived.Shelf.SlSortCmp.WholeK
import Derived.Lib.Small
import Derived.Test.YtkbmjabicjpmjaaGreatDoorCbLD

namespace Go.Proofs.YtkbmjabicjpmjaaGreatDoor
set_option linter.all false
section
open Go Go.Proofs.YtkbmjabicjpmjaaGreatDoor.Shv
open Tryz
set_option maxRecDepth 100000
structure di where
 ID:Int
 Type_:Int
 Flag:Int
structure aQ where
 Kind:Int
 A:Int
 B:Int
 C:Int
 Parts:List di
structure aW where
 Nodes:List aQ
structure cL where
 Kind:Int
 Node:Int
 A:Int
 B:Int
structure dD where
 S:aW
 L:List cL
 T:Int
 U:Int
structure aw where
 A0:Int
 A1:Int
structure aO where
 ID:Int
 Name:List UInt8
structure aK where
 ID:Int
 Data:List UInt8
structure ab where
 Kind:Int
 Bool_:Bool
 Int_:Int
 Str:List UInt8
 ID:Int
 Keys:List ab
 Items:List ab
 Rest:List aK
structure av where
 ID:Int
 Name:List UInt8
 Type_:Int
 Critical:Bool
 HasDefault:Bool
 Default:ab
structure ae where
 Kind:Int
 Name:List UInt8
 Low:Int
 High:Int
 Max:Int
 Symbols:List aO
 Members:List av
 Key:Int
 Elem:Int
 Open:Bool
structure au where
 Types:List ae
structure aI where
 Schema:au
 Type_:Int
structure bp where
 w:aI
 r:aI
structure bP where
 id:Int
 text:List UInt8
structure jX where
 ID:Int
 Critical:Bool
 Data:List UInt8
structure jI where
 Path:List Int
 Reason:Int
structure cB where
 Compatible:Bool
 Relation:List aw
 Message:List UInt8
structure aU where
 Value:ab
 Path:List Int
 OK:Bool
structure mg where
 Value:ab
 Failure:jI
 OK:Bool
structure gW where
 S:aW
 T:Int
 C:List Int
structure kz where
 D:gW
 L:List cL
abbrev sq:Nat:=0
abbrev mh:Nat:=2
abbrev pC:Nat:=3
abbrev vX:Nat:=4
abbrev zQ:Nat:=5
def bW:di:=⟨0,0,0⟩
def az:aQ:=⟨0,0,0,0,[]⟩
def su:aW:=⟨[]⟩
def eC:cL:=⟨0,0,0,0⟩
def He:dD:=⟨su,[],0,0⟩
def aG:aw:=⟨0,0⟩
def aT:aO:=⟨0,[]⟩
def aE:aK:=⟨0,[]⟩
def aj:ab:=⟨0,false,0,[],0,[],[],[]⟩
def af:av:=⟨0,[],0,false,false,aj⟩
def ag:ae:=⟨0,[],0,0,0,[],[],0,0,false⟩
def AI:au:=⟨[]⟩
def vq:aI:=⟨AI,0⟩
def Ig:bp:=⟨vq,vq⟩
def qf:bP:=⟨0,[]⟩
def OM:jX:=⟨0,false,[]⟩
def zR:jI:=⟨[],0⟩
def MK:cB:=⟨false,[],[]⟩
def Gv:aU:=⟨aj,[],false⟩
def Gw:mg:=⟨aj,zR,false⟩
def wo:gW:=⟨su,0,[]⟩
def Hf:kz:=⟨wo,[]⟩
def uD:Nat->Type
 |0=>dD
 |1=>aW
 |2=>aQ
 |3=>di
 |4=>cL
 |5=>aw
 |6=>ae
 |7=>aO
 |8=>av
 |9=>ab
 |10=>aK
 |11=>au
 |12=>aI
 |13=>bp
 |14=>bP
 |15=>jX
 |16=>jI
 |17=>cB
 |18=>aU
 |19=>mg
 |20=>kz
 |21=>gW
 |_=>Bool
def uTys:Nat->List Ty
 |0=>[.slice (.nm 2),.slice (.nm 4),.int .u8,.int .u8]
 |1=>[.slice (.nm 2)]
 |2=>[.int .u8,.int .u8,.int .u8,.int .u8,.slice (.nm 3)]
 |3=>[.int .u8,.int .u8,.int .u8]
 |4=>[.int .u8,.int .u8,.int .u8,.int .u8]
 |5=>[.int .i64,.int .i64]
 |6=>[.int .i64,.str,.int .i64,.int .i64,.int .i64,.slice (.nm 7),.slice (.nm 8),.int .i64,.int .i64,.bool]
 |7=>[.int .i64,.str]
 |8=>[.int .i64,.str,.int .i64,.bool,.bool,.int .i64,.bool,.int .i64,.str,.int .i64,.slice (.nm 9),.slice (.nm 9),.slice (.nm 10)]
 |9=>[.int .i64,.bool,.int .i64,.str,.int .i64,.slice (.nm 9),.slice (.nm 9),.slice (.nm 10)]
 |10=>[.int .i64,.str]
 |11=>[.slice (.nm 6)]
 |12=>[.slice (.nm 6),.int .i64]
 |13=>[.slice (.nm 6),.int .i64,.slice (.nm 6),.int .i64]
 |14=>[.int .i64,.str]
 |15=>[.int .i64,.bool,.str]
 |16=>[.slice (.int .i64),.int .i64]
 |17=>[.bool,.slice (.nm 5),.str]
 |18=>[.int .i64,.bool,.int .i64,.str,.int .i64,.slice (.nm 9),.slice (.nm 9),.slice (.nm 10),.slice (.int .i64),.bool]
 |19=>[.int .i64,.bool,.int .i64,.str,.int .i64,.slice (.nm 9),.slice (.nm 9),.slice (.nm 10),.slice (.int .i64),.int .i64,.bool]
 |20=>[.slice (.nm 2),.int .u8,.slice (.int .u8),.slice (.nm 4)]
 |21=>[.slice (.nm 2),.int .u8,.slice (.int .u8)]
 |_=>[.bool]
def uFlds:(n:Nat)->uD n->List (Cell uD)
 |0,(x:dD)=>[⟨.slice (.nm 2),x.S.Nodes⟩,⟨.slice (.nm 4),x.L⟩,⟨.int .u8,x.T⟩,⟨.int .u8,x.U⟩]
 |1,(x:aW)=>[⟨.slice (.nm 2),x.Nodes⟩]
 |2,(x:aQ)=>[⟨.int .u8,x.Kind⟩,⟨.int .u8,x.A⟩,⟨.int .u8,x.B⟩,⟨.int .u8,x.C⟩,⟨.slice (.nm 3),x.Parts⟩]
 |3,(x:di)=>[⟨.int .u8,x.ID⟩,⟨.int .u8,x.Type_⟩,⟨.int .u8,x.Flag⟩]
 |4,(x:cL)=>[⟨.int .u8,x.Kind⟩,⟨.int .u8,x.Node⟩,⟨.int .u8,x.A⟩,⟨.int .u8,x.B⟩]
 |5,(x:aw)=>[⟨.int .i64,x.A0⟩,⟨.int .i64,x.A1⟩]
 |6,(x:ae)=>[⟨.int .i64,x.Kind⟩,⟨.str,x.Name⟩,⟨.int .i64,x.Low⟩,⟨.int .i64,x.High⟩,⟨.int .i64,x.Max⟩,⟨.slice (.nm 7),x.Symbols⟩,⟨.slice (.nm 8),x.Members⟩,⟨.int .i64,x.Key⟩,⟨.int .i64,x.Elem⟩,⟨.bool,x.Open⟩]
 |7,(x:aO)=>[⟨.int .i64,x.ID⟩,⟨.str,x.Name⟩]
 |8,(x:av)=>[⟨.int .i64,x.ID⟩,⟨.str,x.Name⟩,⟨.int .i64,x.Type_⟩,⟨.bool,x.Critical⟩,⟨.bool,x.HasDefault⟩,⟨.int .i64,x.Default.Kind⟩,⟨.bool,x.Default.Bool_⟩,⟨.int .i64,x.Default.Int_⟩,⟨.str,x.Default.Str⟩,⟨.int .i64,x.Default.ID⟩,⟨.slice (.nm 9),x.Default.Keys⟩,⟨.slice (.nm 9),x.Default.Items⟩,⟨.slice (.nm 10),x.Default.Rest⟩]
 |9,(x:ab)=>[⟨.int .i64,x.Kind⟩,⟨.bool,x.Bool_⟩,⟨.int .i64,x.Int_⟩,⟨.str,x.Str⟩,⟨.int .i64,x.ID⟩,⟨.slice (.nm 9),x.Keys⟩,⟨.slice (.nm 9),x.Items⟩,⟨.slice (.nm 10),x.Rest⟩]
 |10,(x:aK)=>[⟨.int .i64,x.ID⟩,⟨.str,x.Data⟩]
 |11,(x:au)=>[⟨.slice (.nm 6),x.Types⟩]
 |12,(x:aI)=>[⟨.slice (.nm 6),x.Schema.Types⟩,⟨.int .i64,x.Type_⟩]
 |13,(x:bp)=>[⟨.slice (.nm 6),x.w.Schema.Types⟩,⟨.int .i64,x.w.Type_⟩,⟨.slice (.nm 6),x.r.Schema.Types⟩,⟨.int .i64,x.r.Type_⟩]
 |14,(x:bP)=>[⟨.int .i64,x.id⟩,⟨.str,x.text⟩]
 |15,(x:jX)=>[⟨.int .i64,x.ID⟩,⟨.bool,x.Critical⟩,⟨.str,x.Data⟩]
 |16,(x:jI)=>[⟨.slice (.int .i64),x.Path⟩,⟨.int .i64,x.Reason⟩]
 |17,(x:cB)=>[⟨.bool,x.Compatible⟩,⟨.slice (.nm 5),x.Relation⟩,⟨.str,x.Message⟩]
 |18,(x:aU)=>[⟨.int .i64,x.Value.Kind⟩,⟨.bool,x.Value.Bool_⟩,⟨.int .i64,x.Value.Int_⟩,⟨.str,x.Value.Str⟩,⟨.int .i64,x.Value.ID⟩,⟨.slice (.nm 9),x.Value.Keys⟩,⟨.slice (.nm 9),x.Value.Items⟩,⟨.slice (.nm 10),x.Value.Rest⟩,⟨.slice (.int .i64),x.Path⟩,⟨.bool,x.OK⟩]
 |19,(x:mg)=>[⟨.int .i64,x.Value.Kind⟩,⟨.bool,x.Value.Bool_⟩,⟨.int .i64,x.Value.Int_⟩,⟨.str,x.Value.Str⟩,⟨.int .i64,x.Value.ID⟩,⟨.slice (.nm 9),x.Value.Keys⟩,⟨.slice (.nm 9),x.Value.Items⟩,⟨.slice (.nm 10),x.Value.Rest⟩,⟨.slice (.int .i64),x.Failure.Path⟩,⟨.int .i64,x.Failure.Reason⟩,⟨.bool,x.OK⟩]
 |20,(x:kz)=>[⟨.slice (.nm 2),x.D.S.Nodes⟩,⟨.int .u8,x.D.T⟩,⟨.slice (.int .u8),x.D.C⟩,⟨.slice (.nm 4),x.L⟩]
 |21,(x:gW)=>[⟨.slice (.nm 2),x.S.Nodes⟩,⟨.int .u8,x.T⟩,⟨.slice (.int .u8),x.C⟩]
 |_+22,(x:Bool)=>[⟨.bool,x⟩]
def uMake:(n:Nat)->List (Cell uD)->Option (uD n)
 |0,l=>match Hs.dec uD (uTys 0) l with
  |some h=>some (⟨(⟨h.1⟩:aW),h.2.1,h.2.2.1,h.2.2.2⟩:dD)
  |none=>none
 |1,l=>match Hs.dec uD (uTys 1) l with
  |some h=>some (⟨h⟩:aW)
  |none=>none
 |2,l=>match Hs.dec uD (uTys 2) l with
  |some h=>some (⟨h.1,h.2.1,h.2.2.1,h.2.2.2.1,h.2.2.2.2⟩:aQ)
  |none=>none
 |3,l=>match Hs.dec uD (uTys 3) l with
  |some h=>some (⟨h.1,h.2.1,h.2.2⟩:di)
  |none=>none
 |4,l=>match Hs.dec uD (uTys 4) l with
  |some h=>some (⟨h.1,h.2.1,h.2.2.1,h.2.2.2⟩:cL)
  |none=>none
 |5,l=>match Hs.dec uD (uTys 5) l with
  |some h=>some (⟨h.1,h.2⟩:aw)
  |none=>none
 |6,l=>match Hs.dec uD (uTys 6) l with
  |some h=>some (⟨h.1,h.2.1,h.2.2.1,h.2.2.2.1,h.2.2.2.2.1,h.2.2.2.2.2.1,h.2.2.2.2.2.2.1,h.2.2.2.2.2.2.2.1,h.2.2.2.2.2.2.2.2.1,h.2.2.2.2.2.2.2.2.2⟩:ae)
  |none=>none
 |7,l=>match Hs.dec uD (uTys 7) l with
  |some h=>some (⟨h.1,h.2⟩:aO)
  |none=>none
 |8,l=>match Hs.dec uD (uTys 8) l with
  |some h=>some (⟨h.1,h.2.1,h.2.2.1,h.2.2.2.1,h.2.2.2.2.1,(⟨h.2.2.2.2.2.1,h.2.2.2.2.2.2.1,h.2.2.2.2.2.2.2.1,h.2.2.2.2.2.2.2.2.1,h.2.2.2.2.2.2.2.2.2.1,h.2.2.2.2.2.2.2.2.2.2.1,h.2.2.2.2.2.2.2.2.2.2.2.1,h.2.2.2.2.2.2.2.2.2.2.2.2⟩:ab)⟩:av)
  |none=>none
 |9,l=>match Hs.dec uD (uTys 9) l with
  |some h=>some (⟨h.1,h.2.1,h.2.2.1,h.2.2.2.1,h.2.2.2.2.1,h.2.2.2.2.2.1,h.2.2.2.2.2.2.1,h.2.2.2.2.2.2.2⟩:ab)
  |none=>none
 |10,l=>match Hs.dec uD (uTys 10) l with
  |some h=>some (⟨h.1,h.2⟩:aK)
  |none=>none
 |11,l=>match Hs.dec uD (uTys 11) l with
  |some h=>some (⟨h⟩:au)
  |none=>none
 |12,l=>match Hs.dec uD (uTys 12) l with
  |some h=>some (⟨(⟨h.1⟩:au),h.2⟩:aI)
  |none=>none
 |13,l=>match Hs.dec uD (uTys 13) l with
  |some h=>some (⟨(⟨(⟨h.1⟩:au),h.2.1⟩:aI),(⟨(⟨h.2.2.1⟩:au),h.2.2.2⟩:aI)⟩:bp)
  |none=>none
 |14,l=>match Hs.dec uD (uTys 14) l with
  |some h=>some (⟨h.1,h.2⟩:bP)
  |none=>none
 |15,l=>match Hs.dec uD (uTys 15) l with
  |some h=>some (⟨h.1,h.2.1,h.2.2⟩:jX)
  |none=>none
 |16,l=>match Hs.dec uD (uTys 16) l with
  |some h=>some (⟨h.1,h.2⟩:jI)
  |none=>none
 |17,l=>match Hs.dec uD (uTys 17) l with
  |some h=>some (⟨h.1,h.2.1,h.2.2⟩:cB)
  |none=>none
 |18,l=>match Hs.dec uD (uTys 18) l with
  |some h=>some (⟨(⟨h.1,h.2.1,h.2.2.1,h.2.2.2.1,h.2.2.2.2.1,h.2.2.2.2.2.1,h.2.2.2.2.2.2.1,h.2.2.2.2.2.2.2.1⟩:ab),h.2.2.2.2.2.2.2.2.1,h.2.2.2.2.2.2.2.2.2⟩:aU)
  |none=>none
 |19,l=>match Hs.dec uD (uTys 19) l with
  |some h=>some (⟨(⟨h.1,h.2.1,h.2.2.1,h.2.2.2.1,h.2.2.2.2.1,h.2.2.2.2.2.1,h.2.2.2.2.2.2.1,h.2.2.2.2.2.2.2.1⟩:ab),(⟨h.2.2.2.2.2.2.2.2.1,h.2.2.2.2.2.2.2.2.2.1⟩:jI),h.2.2.2.2.2.2.2.2.2.2⟩:mg)
  |none=>none
 |20,l=>match Hs.dec uD (uTys 20) l with
  |some h=>some (⟨(⟨(⟨h.1⟩:aW),h.2.1,h.2.2.1⟩:gW),h.2.2.2⟩:kz)
  |none=>none
 |21,l=>match Hs.dec uD (uTys 21) l with
  |some h=>some (⟨(⟨h.1⟩:aW),h.2.1,h.2.2⟩:gW)
  |none=>none
 |_+22,l=>match Hs.dec uD [.bool] l with
  |some (h:Bool)=>some h
  |none=>none
def eSheaveref07Part(x:di):List T:=[.int .u8 x.ID,.int .u8 x.Type_,.int .u8 x.Flag]
def eSheaveref07Node(x:aQ):List T:=[.int .u8 x.Kind,.int .u8 x.A,.int .u8 x.B,.int .u8 x.C,.slice (x.Parts.map eSheaveref07Part)]
def eSheaveref07Draft(x:aW):List T:=[.slice (x.Nodes.map eSheaveref07Node)]
def eSheaveref07Change(x:cL):List T:=[.int .u8 x.Kind,.int .u8 x.Node,.int .u8 x.A,.int .u8 x.B]
def eSheaveref20Case(x:dD):List T:=[.slice (x.S.Nodes.map eSheaveref07Node),.slice (x.L.map eSheaveref07Change),.int .u8 x.T,.int .u8 x.U]
def eArr2Int(x:aw):List T:=[.int .i64 x.A0,.int .i64 x.A1]
def eSSymbol(x:aO):List T:=[.int .i64 x.ID,.str x.Name]
def eSRaw(x:aK):List T:=[.int .i64 x.ID,.str x.Data]
def ab.eta(x:ab):ab:=⟨x.Kind,x.Bool_,x.Int_,x.Str,x.ID,x.Keys,x.Items,x.Rest⟩
theorem ab.aD(x:ab):x.eta=x:=by cases x;rfl
mutual
def eSValue:ab->List T
 |⟨a0,a1,a2,a3,a4,a5,a6,a7⟩=>[.int .i64 a0,.bool a1,.int .i64 a2,.str a3,.int .i64 a4,.slice (eSValueL a5),.slice (eSValueL a6),.slice (a7.map eSRaw)]
def eSValueL:List ab->List (List T)
 |[]=>[]
 |v::r=>eSValue v::eSValueL r
end
theorem xC:∀l,eSValueL l=l.map eSValue
 |[]=>rfl
 |v::r=>by simp only[eSValueL,List.map];rw[xC r]
theorem Lu(x:ab):eSValue x=[.int .i64 x.Kind,.bool x.Bool_,.int .i64 x.Int_,.str x.Str,.int .i64 x.ID,.slice (x.Keys.map eSValue),.slice (x.Items.map eSValue),.slice (x.Rest.map eSRaw)]:=by cases x;simp only[eSValue,xC]
def eSMember(x:av):List T:=[.int .i64 x.ID,.str x.Name,.int .i64 x.Type_,.bool x.Critical,.bool x.HasDefault,.int .i64 x.Default.Kind,.bool x.Default.Bool_,.int .i64 x.Default.Int_,.str x.Default.Str,.int .i64 x.Default.ID,.slice (x.Default.Keys.map eSValue),.slice (x.Default.Items.map eSValue),.slice (x.Default.Rest.map eSRaw)]
def eSType(x:ae):List T:=[.int .i64 x.Kind,.str x.Name,.int .i64 x.Low,.int .i64 x.High,.int .i64 x.Max,.slice (x.Symbols.map eSSymbol),.slice (x.Members.map eSMember),.int .i64 x.Key,.int .i64 x.Elem,.bool x.Open]
def eSSchema(x:au):List T:=[.slice (x.Types.map eSType)]
def eSRoot(x:aI):List T:=[.slice (x.Schema.Types.map eSType),.int .i64 x.Type_]
def eCertifyPairs(x:bp):List T:=[.slice (x.w.Schema.Types.map eSType),.int .i64 x.w.Type_,.slice (x.r.Schema.Types.map eSType),.int .i64 x.r.Type_]
def eEncodeEntry(x:bP):List T:=[.int .i64 x.id,.str x.text]
def eSField(x:jX):List T:=[.int .i64 x.ID,.bool x.Critical,.str x.Data]
def eSFailure(x:jI):List T:=[.slice (x.Path.map (λy=>[.int .i64 y])),.int .i64 x.Reason]
def eSVerdict(x:cB):List T:=[.bool x.Compatible,.slice (x.Relation.map eArr2Int),.str x.Message]
def eSheaveref14Result(x:aU):List T:=[.int .i64 x.Value.Kind,.bool x.Value.Bool_,.int .i64 x.Value.Int_,.str x.Value.Str,.int .i64 x.Value.ID,.slice (x.Value.Keys.map eSValue),.slice (x.Value.Items.map eSValue),.slice (x.Value.Rest.map eSRaw),.slice (x.Path.map (λy=>[.int .i64 y])),.bool x.OK]
def eSheaveref10Result(x:mg):List T:=[.int .i64 x.Value.Kind,.bool x.Value.Bool_,.int .i64 x.Value.Int_,.str x.Value.Str,.int .i64 x.Value.ID,.slice (x.Value.Keys.map eSValue),.slice (x.Value.Items.map eSValue),.slice (x.Value.Rest.map eSRaw),.slice (x.Failure.Path.map (λy=>[.int .i64 y])),.int .i64 x.Failure.Reason,.bool x.OK]
def eSheaveref08Draft(x:gW):List T:=[.slice (x.S.Nodes.map eSheaveref07Node),.int .u8 x.T,.slice (x.C.map (λy=>[.int .u8 y]))]
def eSheaveref14Case(x:kz):List T:=[.slice (x.D.S.Nodes.map eSheaveref07Node),.int .u8 x.D.T,.slice (x.D.C.map (λy=>[.int .u8 y])),.slice (x.L.map eSheaveref07Change)]
def uEnc:(n:Nat)->uD n->List T
 |0,x=>eSheaveref20Case x
 |1,x=>eSheaveref07Draft x
 |2,x=>eSheaveref07Node x
 |3,x=>eSheaveref07Part x
 |4,x=>eSheaveref07Change x
 |5,x=>eArr2Int x
 |6,x=>eSType x
 |7,x=>eSSymbol x
 |8,x=>eSMember x
 |9,x=>eSValue x
 |10,x=>eSRaw x
 |11,x=>eSSchema x
 |12,x=>eSRoot x
 |13,x=>eCertifyPairs x
 |14,x=>eEncodeEntry x
 |15,x=>eSField x
 |16,x=>eSFailure x
 |17,x=>eSVerdict x
 |18,x=>eSheaveref14Result x
 |19,x=>eSheaveref10Result x
 |20,x=>eSheaveref14Case x
 |21,x=>eSheaveref08Draft x
 |_+22,(x:Bool)=>[.bool x]
def Un:Uni where
 D:=uD
 dfl:=λn=>match n with
  |0=>He
  |1=>su
  |2=>az
  |3=>bW
  |4=>eC
  |5=>aG
  |6=>ag
  |7=>aT
  |8=>af
  |9=>aj
  |10=>aE
  |11=>AI
  |12=>vq
  |13=>Ig
  |14=>qf
  |15=>OM
  |16=>zR
  |17=>MK
  |18=>Gv
  |19=>Gw
  |20=>Hf
  |21=>wo
  |_+22=>false
 flds:=uFlds
 make:=uMake
 tys:=uTys
 enc:=uEnc
 enc_eq:=λn x=>match n,x with
  |0,_=>rfl
  |1,_=>rfl
  |2,_=>rfl
  |3,_=>rfl
  |4,_=>rfl
  |5,_=>rfl
  |6,_=>rfl
  |7,_=>rfl
  |8,_=>rfl
  |9,x=>Lu x
  |10,_=>rfl
  |11,_=>rfl
  |12,_=>rfl
  |13,_=>rfl
  |14,_=>rfl
  |15,_=>rfl
  |16,_=>rfl
  |17,_=>rfl
  |18,_=>rfl
  |19,_=>rfl
  |20,_=>rfl
  |21,_=>rfl
  |_+22,_=>rfl
 mk_eq:=λn l x h=>match n,x,h with
  |0,x,h=>by
   simp only[uMake]at h;split at h
   . rename_i hh hd;cases h;exact Hs.dec_cells hd
   . cases h
  |1,x,h=>by
   simp only[uMake]at h;split at h
   . rename_i hh hd;cases h;exact Hs.dec_cells hd
   . cases h
  |2,x,h=>by
   simp only[uMake]at h;split at h
   . rename_i hh hd;cases h;exact Hs.dec_cells hd
   . cases h
  |3,x,h=>by
   simp only[uMake]at h;split at h
   . rename_i hh hd;cases h;exact Hs.dec_cells hd
   . cases h
  |4,x,h=>by
   simp only[uMake]at h;split at h
   . rename_i hh hd;cases h;exact Hs.dec_cells hd
   . cases h
  |5,x,h=>by
   simp only[uMake]at h;split at h
   . rename_i hh hd;cases h;exact Hs.dec_cells hd
   . cases h
  |6,x,h=>by
   simp only[uMake]at h;split at h
   . rename_i hh hd;cases h;exact Hs.dec_cells hd
   . cases h
  |7,x,h=>by
   simp only[uMake]at h;split at h
   . rename_i hh hd;cases h;exact Hs.dec_cells hd
   . cases h
  |8,x,h=>by
   simp only[uMake]at h;split at h
   . rename_i hh hd;cases h;exact Hs.dec_cells hd
   . cases h
  |9,x,h=>by
   simp only[uMake]at h;split at h
   . rename_i hh hd;cases h;exact Hs.dec_cells hd
   . cases h
  |10,x,h=>by
   simp only[uMake]at h;split at h
   . rename_i hh hd;cases h;exact Hs.dec_cells hd
   . cases h
  |11,x,h=>by
   simp only[uMake]at h;split at h
   . rename_i hh hd;cases h;exact Hs.dec_cells hd
   . cases h
  |12,x,h=>by
   simp only[uMake]at h;split at h
   . rename_i hh hd;cases h;exact Hs.dec_cells hd
   . cases h
  |13,x,h=>by
   simp only[uMake]at h;split at h
   . rename_i hh hd;cases h;exact Hs.dec_cells hd
   . cases h
  |14,x,h=>by
   simp only[uMake]at h;split at h
   . rename_i hh hd;cases h;exact Hs.dec_cells hd
   . cases h
  |15,x,h=>by
   simp only[uMake]at h;split at h
   . rename_i hh hd;cases h;exact Hs.dec_cells hd
   . cases h
  |16,x,h=>by
   simp only[uMake]at h;split at h
   . rename_i hh hd;cases h;exact Hs.dec_cells hd
   . cases h
  |17,x,h=>by
   simp only[uMake]at h;split at h
   . rename_i hh hd;cases h;exact Hs.dec_cells hd
   . cases h
  |18,x,h=>by
   simp only[uMake]at h;split at h
   . rename_i hh hd;cases h;exact Hs.dec_cells hd
   . cases h
  |19,x,h=>by
   simp only[uMake]at h;split at h
   . rename_i hh hd;cases h;exact Hs.dec_cells hd
   . cases h
  |20,x,h=>by
   simp only[uMake]at h;split at h
   . rename_i hh hd;cases h;exact Hs.dec_cells hd
   . cases h
  |21,x,h=>by
   simp only[uMake]at h;split at h
   . rename_i hh hd;cases h;exact Hs.dec_cells hd
   . cases h
  |_+22,x,h=>by
   simp only[uMake]at h;split at h
   . rename_i hh hd;cases h;exact Hs.dec_cells hd
   . cases h
 tys_eq:=λn x=>match n,x with
  |0,_=>rfl
  |1,_=>rfl
  |2,_=>rfl
  |3,_=>rfl
  |4,_=>rfl
  |5,_=>rfl
  |6,_=>rfl
  |7,_=>rfl
  |8,_=>rfl
  |9,_=>rfl
  |10,_=>rfl
  |11,_=>rfl
  |12,_=>rfl
  |13,_=>rfl
  |14,_=>rfl
  |15,_=>rfl
  |16,_=>rfl
  |17,_=>rfl
  |18,_=>rfl
  |19,_=>rfl
  |20,_=>rfl
  |21,_=>rfl
  |_+22,_=>rfl
 tyOf:=λe=>match e with
  |3=>some (.int .i64)
  |4=>some .bool
  |5=>some (.int .u8)
  |9=>some .str
  |39=>some (.nm 5)
  |62=>some (.nm 9)
  |112=>some (.nm 6)
  |141=>some (.nm 7)
  |148=>some (.nm 3)
  |162=>some (.nm 8)
  |188=>some (.nm 10)
  |239=>some (.nm 15)
  |276=>some (.nm 14)
  |_=>none
 frz:=some (.nm 5)
 own:=[([false,false,true,true],2,.int .i64),([false,true,true,false],1,.int .i64)]
 pos:=λn=>match n with
  |0=>by decide
  |1=>by decide
  |2=>by decide
  |3=>by decide
  |4=>by decide
  |5=>by decide
  |6=>by decide
  |7=>by decide
  |8=>by decide
  |9=>by decide
  |10=>by decide
  |11=>by decide
  |12=>by decide
  |13=>by decide
  |14=>by decide
  |15=>by decide
  |16=>by decide
  |17=>by decide
  |18=>by decide
  |19=>by decide
  |20=>by decide
  |21=>by decide
  |_+22=>Nat.zero_lt_one
theorem Qn:Un.Total:=λn l h=>match n,h with
 |0,h=>by
  obtain⟨x,hx⟩:=Hs.dec_ty (D:=uD) (ts:=uTys 0) h;exact⟨_,by show uMake 0 l=_;simp only[uMake,hx];rfl⟩
 |1,h=>by
  obtain⟨x,hx⟩:=Hs.dec_ty (D:=uD) (ts:=uTys 1) h;exact⟨_,by show uMake 1 l=_;simp only[uMake,hx];rfl⟩
 |2,h=>by
  obtain⟨x,hx⟩:=Hs.dec_ty (D:=uD) (ts:=uTys 2) h;exact⟨_,by show uMake 2 l=_;simp only[uMake,hx];rfl⟩
 |3,h=>by
  obtain⟨x,hx⟩:=Hs.dec_ty (D:=uD) (ts:=uTys 3) h;exact⟨_,by show uMake 3 l=_;simp only[uMake,hx];rfl⟩
 |4,h=>by
  obtain⟨x,hx⟩:=Hs.dec_ty (D:=uD) (ts:=uTys 4) h;exact⟨_,by show uMake 4 l=_;simp only[uMake,hx];rfl⟩
 |5,h=>by
  obtain⟨x,hx⟩:=Hs.dec_ty (D:=uD) (ts:=uTys 5) h;exact⟨_,by show uMake 5 l=_;simp only[uMake,hx];rfl⟩
 |6,h=>by
  obtain⟨x,hx⟩:=Hs.dec_ty (D:=uD) (ts:=uTys 6) h;exact⟨_,by show uMake 6 l=_;simp only[uMake,hx];rfl⟩
 |7,h=>by
  obtain⟨x,hx⟩:=Hs.dec_ty (D:=uD) (ts:=uTys 7) h;exact⟨_,by show uMake 7 l=_;simp only[uMake,hx];rfl⟩
 |8,h=>by
  obtain⟨x,hx⟩:=Hs.dec_ty (D:=uD) (ts:=uTys 8) h;exact⟨_,by show uMake 8 l=_;simp only[uMake,hx];rfl⟩
 |9,h=>by
  obtain⟨x,hx⟩:=Hs.dec_ty (D:=uD) (ts:=uTys 9) h;exact⟨_,by show uMake 9 l=_;simp only[uMake,hx];rfl⟩
 |10,h=>by
  obtain⟨x,hx⟩:=Hs.dec_ty (D:=uD) (ts:=uTys 10) h;exact⟨_,by show uMake 10 l=_;simp only[uMake,hx];rfl⟩
 |11,h=>by
  obtain⟨x,hx⟩:=Hs.dec_ty (D:=uD) (ts:=uTys 11) h;exact⟨_,by show uMake 11 l=_;simp only[uMake,hx];rfl⟩
 |12,h=>by
  obtain⟨x,hx⟩:=Hs.dec_ty (D:=uD) (ts:=uTys 12) h;exact⟨_,by show uMake 12 l=_;simp only[uMake,hx];rfl⟩
 |13,h=>by
  obtain⟨x,hx⟩:=Hs.dec_ty (D:=uD) (ts:=uTys 13) h;exact⟨_,by show uMake 13 l=_;simp only[uMake,hx];rfl⟩
 |14,h=>by
  obtain⟨x,hx⟩:=Hs.dec_ty (D:=uD) (ts:=uTys 14) h;exact⟨_,by show uMake 14 l=_;simp only[uMake,hx];rfl⟩
 |15,h=>by
  obtain⟨x,hx⟩:=Hs.dec_ty (D:=uD) (ts:=uTys 15) h;exact⟨_,by show uMake 15 l=_;simp only[uMake,hx];rfl⟩
 |16,h=>by
  obtain⟨x,hx⟩:=Hs.dec_ty (D:=uD) (ts:=uTys 16) h;exact⟨_,by show uMake 16 l=_;simp only[uMake,hx];rfl⟩
 |17,h=>by
  obtain⟨x,hx⟩:=Hs.dec_ty (D:=uD) (ts:=uTys 17) h;exact⟨_,by show uMake 17 l=_;simp only[uMake,hx];rfl⟩
 |18,h=>by
  obtain⟨x,hx⟩:=Hs.dec_ty (D:=uD) (ts:=uTys 18) h;exact⟨_,by show uMake 18 l=_;simp only[uMake,hx];rfl⟩
 |19,h=>by
  obtain⟨x,hx⟩:=Hs.dec_ty (D:=uD) (ts:=uTys 19) h;exact⟨_,by show uMake 19 l=_;simp only[uMake,hx];rfl⟩
 |20,h=>by
  obtain⟨x,hx⟩:=Hs.dec_ty (D:=uD) (ts:=uTys 20) h;exact⟨_,by show uMake 20 l=_;simp only[uMake,hx];rfl⟩
 |21,h=>by
  obtain⟨x,hx⟩:=Hs.dec_ty (D:=uD) (ts:=uTys 21) h;exact⟨_,by show uMake 21 l=_;simp only[uMake,hx];rfl⟩
 |m+22,h=>by
  obtain⟨x,hx⟩:=Hs.dec_ty (D:=uD) (ts:=[.bool]) h;exact⟨x,by show uMake (m+22) l=_;simp only[uMake,hx];rfl⟩
end
section
open Go Go.Proofs.YtkbmjabicjpmjaaGreatDoor.Shv
open Tryz
set_option maxRecDepth 100000
open Go.Proofs Go.Proofs.YtkbmjabicjpmjaaGreatDoor Go.Shelf
theorem F2:bA prog 232=true:=by kernel_rfl
def cZ:FSpec Un:=vo Un 232 (.int .i64) 8
theorem E0:FSnd prog cZ:=Lk (te:=3) (sz:=1) (bytes:=8) (z:=[.t (.int .i64 0)]) func232 (by kernel_rfl) (by kernel_rfl) (by kernel_rfl) rfl rfl
theorem da:FnC prog cZ:=⟨F2,E0⟩
theorem Gx:bA prog 291=true:=by kernel_rfl
def de:FSpec Un:=rO Un 291 (.nm 9) 120
theorem Fy:FSnd prog de:=zK (te:=62) (sz:=8) (bytes:=120) (z:=[.t (.int .i64 0),.t (.bool false),.t (.int .i64 0),.t (.str []),.t (.int .i64 0),.cap0,.cap0,.cap0]) func291 (by kernel_rfl) (by kernel_rfl) (by kernel_rfl) rfl rfl
theorem dw:FnC prog de:=⟨Gx,Fy⟩
theorem Gy:bA prog 292=true:=by kernel_rfl
def df:FSpec Un:=rO Un 292 (.nm 10) 24
theorem Fz:FSnd prog df:=zK (te:=188) (sz:=2) (bytes:=24) (z:=[.t (.int .i64 0),.t (.str [])]) func292 (by kernel_rfl) (by kernel_rfl) (by kernel_rfl) rfl rfl
theorem dz:FnC prog df:=⟨Gy,Fz⟩
instance:Inhabited bP:=⟨qf⟩
instance:Inhabited (Un.D 14):=⟨qf⟩
def sortLt(x y:bP):Bool:=decide (x.id<y.id)
def GU(l:List bP):Option (List bP):=some (pdqBy sortLt l)
section
open Go.Proofs Go.Proofs.YtkbmjabicjpmjaaGreatDoor Go.Sort Go.RowKit Go.Lib
theorem sortNaN(x:Int)(w:World):Calls prog 287 #[.int .i64 x] w λe w'=>e= .returned (.bool false)/\w'=w:=by
 go_enter func287,ntmps287
 go_wp2
 go_ret
 exact⟨by simp,rfl⟩
set_option maxHeartbeats 1000000 in
theorem sortCmp(x y:Int)(w:World):Calls prog 225 #[.int .i64 x,.int .i64 y] w λe w'=>e= .returned (.int .i64 (Lib.compareInt x y))/\w'=w:=by
 go_enter func225,ntmps225
 go_wp2_with (go_at_call 287;refine(sortNaN _ _).mono ?_;rintro e w' ⟨rfl,hw⟩;rw[hw])
 all_goals (go_ret;refine⟨?_,rfl⟩;unfold Lib.compareInt;(repeat' split)<;>first|rfl|(exfalso;omega))
def sortEnc(x:bP):List Value:=[.int .i64 x.id,.string ⟨x.text.toArray⟩]
set_option maxHeartbeats 1000000 in
theorem sortClo(x y:Int)(s t:ByteArray)(W:World):Calls prog 230 #[.agg #[.int .i64 x,.string s],.agg #[.int .i64 y,.string t]] W λe w'=>e= .returned (.int .i64 (Lib.compareInt x y))/\∃q os',w'=grow (W.drewN q) os':=by
 have hcon:=λW'=>sortCmp x y W'
 generalize Lib.compareInt x y=r at hcon⊢
 go_enter func230,ntmps230
 go_wp2_with (go_at_call 225;refine(hcon _).mono ?_;rintro e w' ⟨rfl,rfl⟩)
 go_ret
 exact⟨rfl,0,_,by rw[alloc_eq_grow,alloc_eq_grow,grow_grow];rfl⟩
def AK:Go.Shelf.Ren:=⟨λ|6=>229|15=>290|14=>289|28=>338|29=>302|20=>330|21=>331|22=>332|23=>333|24=>334|25=>335|26=>336|27=>337|46=>347|47=>348|48=>349|49=>350|50=>351|57=>354|n=>n,λ|22=>274|24=>276|25=>278|3=>3|39=>196|0=>0|53=>324|55=>185|4=>4|46=>341|45=>340|50=>159|5=>5|9=>9|66=>358|70=>362|76=>370|77=>131|n=>n,λ|n=>n⟩
theorem layS:SlLaysF0.n6 prog AK:={
 mixed:=by kernel_rfl
 f6:=⟨f229.name,by decide,func229.trans (congrArg some (by kernel_rfl))⟩
 f14:=⟨f289.name,by decide,func289.trans (congrArg some (by kernel_rfl))⟩
 f15:=func290.trans (congrArg some (by kernel_rfl))
 f20:=⟨f330.name,by decide,func330.trans (congrArg some (by kernel_rfl))⟩
 f21:=⟨f331.name,by decide,func331.trans (congrArg some (by kernel_rfl))⟩
 f22:=⟨f332.name,by decide,func332.trans (congrArg some (by kernel_rfl))⟩
 f23:=⟨f333.name,by decide,func333.trans (congrArg some (by kernel_rfl))⟩
 f24:=⟨f334.name,by decide,func334.trans (congrArg some (by kernel_rfl))⟩
 f25:=⟨f335.name,by decide,func335.trans (congrArg some (by kernel_rfl))⟩
 f26:=⟨f336.name,by decide,func336.trans (congrArg some (by kernel_rfl))⟩
 f27:=⟨f337.name,by decide,func337.trans (congrArg some (by kernel_rfl))⟩
 f28:=func338.trans (congrArg some (by kernel_rfl))
 f29:=func302.trans (congrArg some (by kernel_rfl))
 f46:=⟨f347.name,by decide,func347.trans (congrArg some (by kernel_rfl))⟩
 f47:=func348.trans (congrArg some (by kernel_rfl))
 f48:=func349.trans (congrArg some (by kernel_rfl))
 f49:=⟨f350.name,by decide,func350.trans (congrArg some (by kernel_rfl))⟩
 f50:=⟨f351.name,by decide,func351.trans (congrArg some (by kernel_rfl))⟩
 f57:=⟨f354.name,by decide,func354.trans (congrArg some (by kernel_rfl))⟩
 t0:=underlying0
 a0:=isAgg0
 z0:=sizeOf0
 v0:=zeroValue0
 t3:=underlying3
 a3:=isAgg3
 z3:=sizeOf3
 v3:=zeroValue3
 t4:=underlying4
 a4:=isAgg4
 z4:=sizeOf4
 v4:=zeroValue4
 t5:=underlying5
 a5:=isAgg5
 z5:=sizeOf5
 v5:=zeroValue5
 t9:=underlying9
 a9:=isAgg9
 z9:=sizeOf9
 v9:=zeroValue9
 t22:=underlying274
 a22:=isAgg274
 z22:=sizeOf274
 v22:=zeroValue274
 t25:=underlying278
 a25:=isAgg278
 z25:=sizeOf278
 v25:=zeroValue278
 t39:=underlying196
 a39:=isAgg196
 z39:=sizeOf196
 v39:=zeroValue196
 t45:=underlying340
 a45:=isAgg340
 z45:=sizeOf340
 v45:=zeroValue340
 t46:=underlying341
 a46:=isAgg341
 z46:=sizeOf341
 v46:=zeroValue341
 t50:=underlying159
 a50:=isAgg159
 z50:=sizeOf159
 v50:=zeroValue159
 t53:=underlying324
 a53:=isAgg324
 z53:=sizeOf324
 v53:=zeroValue324
 t55:=underlying185
 a55:=isAgg185
 z55:=sizeOf185
 v55:=zeroValue185
 t66:=underlying358
 a66:=isAgg358
 z66:=sizeOf358
 v66:=zeroValue358
 t70:=underlying362
 a70:=isAgg362
 z70:=sizeOf362
 v70:=zeroValue362
 t76:=underlying370
 a76:=isAgg370
 z76:=sizeOf370
 v76:=zeroValue370
 t77:=underlying131
 a77:=isAgg131
 z77:=sizeOf131
 v77:=zeroValue131}
theorem zS:ltOf (λx y:bP=>Lib.compareInt x.id y.id)=sortLt:=by
 funext x y
 unfold ltOf sortLt Lib.compareInt;by_cases h1:x.id<y.id
 . simp[h1]
 . by_cases h2:y.id<x.id<;>simp[h1,h2]
theorem sortSWO:SWO sortLt:=OH (λx:bP=>x.id)
set_option maxHeartbeats 2000000 in
theorem sortNoneI(p:Option Addr)(cap:Nat)(fv:Value)(w:World):Calls prog 330 #[.slice p 0 cap,.int .i64 0,.int .i64 0,fv] w λe w'=>e= .returned (.tuple #[])/\w'=w:=by
 go_enter func330,ntmps330
 go_wp2
 refine wp_loop_rounds 1 ?_;rw[rounds_succ]
 go_wp2
 go_end0
 exact⟨rfl,rfl⟩
set_option maxHeartbeats 2000000 in
theorem sortNoneP(p:Option Addr)(cap:Nat)(lim:Int)(fv:Value)(w:World):Calls prog 289 #[.slice p 0 cap,.int .i64 0,.int .i64 0,.int .i64 lim,fv] w λe w'=>e= .returned (.tuple #[])/\w'=w:=by
 have hi:=λW=>sortNoneI p cap fv W
 go_enter func289,ntmps289
 go_wp2
 refine wp_loop_rounds 1 ?_;rw[rounds_succ]
 go_wp2_with (go_at_call 330;refine(hi _).mono ?_;rintro e w' ⟨rfl,rfl⟩)
 (try simp only[Exit.inBlock,Exit.then]);refine bodyPost_ret (results_none rfl _ _ _) rfl ?_
 exact⟨rfl,rfl⟩
set_option maxHeartbeats 2000000 in
theorem sortNone(p:Option Addr)(cap:Nat)(fv:Value)(w:World):Calls prog 229 #[.slice p 0 cap,fv] w λe w'=>e= .returned (.tuple #[])/\w'=w:=by
 have hp:=λlim W=>sortNoneP p cap lim fv W
 have hl:∀W,Calls prog 290 #[.int .u64 0] W λe w'=>e= .returned (.int .i64 (Lib.bitLen 0:Nat))/\w'=W:=λW=>by
  have h:=Any.bits_Len (SlLaysF0.n15.bits (P:=prog) (ρ:=AK) {layS with}) 0 W (by omega) (by omega);exact h
 go_enter func229,ntmps229
 go_wp2_with (first|(go_at_call 290;refine(hl _).mono ?_;rintro e w' ⟨rfl,rfl⟩)|(go_at_call 289;refine(hp _ _).mono ?_;rintro e w' ⟨rfl,rfl⟩))
 go_end0
 exact⟨rfl,rfl⟩
theorem sortWhole (blk off cap:Nat) (d:Array (Un.D 14)) (w:World) (hH:HoldsK sortEnc 2 w blk off d) (hblk:blk<w.heap.size) (hsz:d.size<4611686018427387904):
 Calls prog 229 #[.slice (some ⟨blk,off,none⟩) d.size cap,.func (.func 230) #[] #[]] w λe w'=>e= .returned (.tuple #[])/\∃n os,w'=sortWorldK sortEnc 2 w blk off n (pdq sortLt d 0 d.size (Lib.bitLen d.size) true true) os:=by
 have eg:∀args w,(callFunc 230 args).run prog w= .ok (.enter 230 args) w:=enters_of func230 (by kernel_rfl) rfl
 have h:=AnyQ.slices_SortFunc_eq (α:=bP) layS 2 isAgg276 sizeOf276 sortEnc (λ_=>rfl) (λx v hv=>by simp[sortEnc]at hv;rcases hv with rfl|rfl<;>rfl) (λx y=>Lib.compareInt x.id y.id) (by rw[zS];exact sortSWO) 230 #[] blk off cap d w eg (λ_ _ _ _ x y=>sortClo x.id y.id _ _ _) hH hblk hsz;rw[zS]at h;exact h
theorem Px:bA prog 229=true:=by kernel_rfl
def sO:FSpec Un:=sortS Un 229 14 230 (pdqBy (α:=Un.D 14) sortLt)
theorem Hg:FSnd prog sO:=NL (U:=Un) (n:=14) sortEnc sortLt sortSWO (λ_=>rfl) (λw S x j t v h hr=>Lq w S x.id x.text j t v h hr) sortWhole sortNone
end
theorem sP:FnC prog sO:=⟨Px,Hg⟩
def yY:Go.Shelf.Ren:=⟨λ|240=>128|276=>185|n=>n,λ|0=>0|4=>4|9=>9|20=>20|37=>54|70=>114|72=>116|164=>250|n=>n,λn=>n⟩
theorem lay240:Lays.n240 prog yY:={
 mixed:=by kernel_rfl
 f240:=func128.trans (congrArg some (by kernel_rfl))
 f276:=func185.trans (congrArg some (by kernel_rfl))
 t0:=underlying0
 a0:=isAgg0
 z0:=sizeOf0
 v0:=zeroValue0
 t4:=underlying4
 a4:=isAgg4
 z4:=sizeOf4
 v4:=zeroValue4
 t9:=underlying9
 a9:=isAgg9
 z9:=sizeOf9
 v9:=zeroValue9
 t20:=underlying20
 a20:=isAgg20
 z20:=sizeOf20
 v20:=zeroValue20
 t70:=underlying114
 a70:=isAgg114
 z70:=sizeOf114
 v70:=zeroValue114
 t72:=underlying116
 a72:=isAgg116
 z72:=sizeOf116
 v72:=zeroValue116
 t164:=underlying250
 a164:=isAgg250
 z164:=sizeOf250
 v164:=zeroValue250}
theorem layX72:Builder.X72 prog yY:={
 sizeBuilder:=by kernel_rfl
 liesBuilder:=by kernel_rfl}
theorem Py:bA prog 128=true:=by kernel_rfl
def dj:FSpec Un:=rP Un 128 116 5
theorem GV:FSnd prog dj:=MF lay240 layX72 rfl rfl
theorem dE:FnC prog dj:=⟨Py,GV⟩
def Lv:Go.Shelf.Ren:=⟨λ|129=>302|171=>70|243=>129|246=>186|283=>259|284=>260|285=>261|286=>262|317=>301|318=>303|319=>304|320=>305|337=>339|338=>340|n=>n,λ|0=>0|2=>2|3=>3|4=>4|5=>5|9=>9|20=>20|37=>54|46=>196|51=>324|53=>185|171=>295|173=>298|212=>323|213=>325|232=>364|233=>365|n=>n,λ|17=>0|18=>6|19=>7|n=>n⟩
theorem lay171:Lays.n171 prog Lv:={
 mixed:=by kernel_rfl
 f129:=func302.trans (congrArg some (by kernel_rfl))
 f171:=func70.trans (congrArg some (by kernel_rfl))
 f243:=func129.trans (congrArg some (by kernel_rfl))
 f246:=func186.trans (congrArg some (by kernel_rfl))
 f283:=func259.trans (congrArg some (by kernel_rfl))
 f284:=func260.trans (congrArg some (by kernel_rfl))
 f285:=func261.trans (congrArg some (by kernel_rfl))
 f286:=func262.trans (congrArg some (by kernel_rfl))
 f317:=func301.trans (congrArg some (by kernel_rfl))
 f318:=func303.trans (congrArg some (by kernel_rfl))
 f319:=func304.trans (congrArg some (by kernel_rfl))
 f320:=func305.trans (congrArg some (by kernel_rfl))
 f337:=func339.trans (congrArg some (by kernel_rfl))
 f338:=func340.trans (congrArg some (by kernel_rfl))
 t0:=underlying0
 a0:=isAgg0
 z0:=sizeOf0
 v0:=zeroValue0
 t2:=underlying2
 a2:=isAgg2
 z2:=sizeOf2
 v2:=zeroValue2
 t3:=underlying3
 a3:=isAgg3
 z3:=sizeOf3
 v3:=zeroValue3
 t4:=underlying4
 a4:=isAgg4
 z4:=sizeOf4
 v4:=zeroValue4
 t5:=underlying5
 a5:=isAgg5
 z5:=sizeOf5
 v5:=zeroValue5
 t9:=underlying9
 a9:=isAgg9
 z9:=sizeOf9
 v9:=zeroValue9
 t20:=underlying20
 a20:=isAgg20
 z20:=sizeOf20
 v20:=zeroValue20
 t37:=underlying54
 a37:=isAgg54
 z37:=sizeOf54
 v37:=zeroValue54
 t46:=underlying196
 a46:=isAgg196
 z46:=sizeOf196
 v46:=zeroValue196
 t51:=underlying324
 a51:=isAgg324
 z51:=sizeOf324
 v51:=zeroValue324
 t53:=underlying185
 a53:=isAgg185
 z53:=sizeOf185
 v53:=zeroValue185
 t171:=underlying295
 a171:=isAgg295
 z171:=sizeOf295
 v171:=zeroValue295
 t173:=underlying298
 a173:=isAgg298
 z173:=sizeOf298
 v173:=zeroValue298
 t212:=underlying323
 a212:=isAgg323
 z212:=sizeOf323
 v212:=zeroValue323
 t213:=underlying325
 a213:=isAgg325
 z213:=sizeOf325
 t232:=underlying364
 a232:=isAgg364
 z232:=sizeOf364
 v232:=zeroValue364
 t233:=underlying365
 a233:=isAgg365
 z233:=sizeOf365
 v233:=zeroValue365
 g17:=by kernel_rfl
 g18:=by kernel_rfl
 g19:=by kernel_rfl}
theorem F70_b:bA prog 70=true:=by kernel_rfl
def dh:FSpec Un:=itoaS Un 70
theorem F3:FSnd prog dh:=NP lay171 rfl
theorem eF:FnC prog dh:=⟨F70_b,F3⟩
theorem Gz:bA prog 14=true:=by kernel_rfl
def wc:FSpec Un:=CH Un 14 (.nm 5) 16
theorem FA:FSnd prog wc:=Lt (te:=39) (sz:=2) (bytes:=16) (z:=[.t (.int .i64 0),.t (.int .i64 0)]) func14 (by kernel_rfl) (by kernel_rfl) (by kernel_rfl) rfl rfl
theorem GA:FnC prog wc:=⟨Gz,FA⟩
end
section
open Go Go.Proofs.YtkbmjabicjpmjaaGreatDoor.Shv
open Tryz
set_option maxRecDepth 100000
theorem pairM:PairMap prog 85:= .of (by kernel_rfl)
theorem F44 {S:Stab} {w:World} (hst:∀ b j,S b j->b<w.heap.size) (x:aw) {g gm:Nat} {E:TypeId} {es:Array MapEntry} {clk:Nat} {ks:List (Int×Int)}
 (h1:w.heap[g]?=some (.cells #[.map (some gm)] E (0,0))) (h2:w.heap[gm]?=some (.map es clk)) (hs:setP ks es.toList) (h3:∀j,¬S g j) (h4:∀j,¬S gm j):
 Calls prog 44 #[pk (x.A0,x.A1),.pointer (some ⟨g,0,none⟩)] w λe w'=>e= .returned (.bool (!hasP ks (x.A0,x.A1)))/\∃S',Kp S w S' w':=by
 refine calls_of_wp func44 rfl ?_;have T0:=TS.enter (U:=Un) (gs:=[g,gm]) (N:=2) (nt:=8) (φ:=λb=>if b=0 then(g,0)else(gm,0)) (args:=[.agg [.t ⟨.int .i64,x.A0⟩,.t ⟨.int .i64,x.A1⟩],.c (.ptr 0 0)]) (w:=w) (S:=S)
  (.cons (.agg (.cons (.t _) (.cons (.t _) .nil))) (.cons (.c (.ptr 0 0)) .nil)) (vs:=[pk (x.A0,x.A1),.pointer (some ⟨g,0,none⟩)]) (.cons (.agg (.cons (RT.int _ _) (.cons (RT.int _ _) .nil))) (.cons (.c rfl) .nil)) rfl hst (Nat.le_of_ble_eq_true rfl)
  (by
   have:=eQ h1;have:=eQ h2;intro b hb;simp at hb;rcases hb with rfl|rfl
   . exact⟨by assumption,h3⟩
   . exact⟨by assumption,h4⟩)
 refine wp_seq (T0.pc 2 [oE .normal [(1,.c (.ptr 0 0)),(2,.c (.ptr 2 0))] [.gone,.gone,.brow 5]] (o:=x) .n (by kernel_rfl) λφ1 S1 a1 w1 T1 n1=>?_);refine wp_seq (gf [0,1,2,3,4] ?_);have k1:a1.tmps[1]?=some (.pointer (some ⟨g,0,none⟩)):=(T1.ptr (k:=1) rfl).trans (by rw[n1.fix 0 (by decide)];rfl);have hh1:w1.heap[g]?=_:=(n1.hp g (by simp)).trans h1
 have hh2:w1.heap[gm]?=_:=(n1.hp gm (by simp)).trans h2;refine man1 rfl rfl rfl (ld1 rfl (by kernel_rfl) (bn k1) hh1 (off:=0) rfl) ?_;have T2:=T1.put (d:=4) (x:= .map (some gm)) (v:= .c (.mp 1)) (.c (.mp 1)) (.c (by show _=Value.map (some _);rw[n1.fix 1 (by decide)];rfl))
 refine T2.op 2 1 1 [(4,.c (.mp 1)),(5,.row 5)] [.gone,.gone] (h:=x) .n (by kernel_rfl) λφ3 S3 a3 w3 T3 n3=>?_
 have k4:a3.tmps[4]?=some (.map (some gm)):=(T3.mp (k:=4) rfl).trans (by rw[n3.fix 1 (by decide),n1.fix 1 (by decide)];rfl);have k5:a3.tmps[5]?=some (pk (x.A0,x.A1)):=T3.pair rfl;refine man1 rfl rfl rfl (lk1 rfl pairM (bn k4) (bn k5) ((n3.hp gm (by simp)).trans hh2) hs) ?_;have T4:=T3.put (d:=6) (v:= .c (.t ⟨.bool,hasP ks (x.A0,x.A1)⟩)) (.c (.t _)) (.c (RT.bool _))
 refine T4.op 2 3 2 [(3,.c (.hole .bool))] [.gone,.gone] (h:=!hasP ks (x.A0,x.A1)) .n (by kernel_rfl) λφ5 S5 a5 w5 T5 n5=>?_
 refine wp_ret (T5.ret rfl rfl λy hy=>⟨?_,S5,T5.ext,T5.st⟩);cases hy;rfl
def hasX(ks:List (Int×Int))(x:aw):Bool:=hasP ks (x.A0,x.A1)
structure Gh (S:Stab) (w:World) (g gm:Nat) (ks:List (Int×Int)):Prop where
 st:∀b j,S b j->b<w.heap.size
 g1:∃E,w.heap[g]?=some (.cells #[.map (some gm)] E (0,0))
 g2:∃es clk,w.heap[gm]?=some (.map es clk)/\setP ks es.toList
 g3:∀j,¬S g j
 g4:∀j,¬S gm j
theorem Gh.next{S S':Stab}{w w':World}{g gm:Nat}{ks:List (Int×Int)}(h:Gh S w g gm ks){nt:Nat}{Γ:Ctx}{s:XS Un}{φ φ0:Phi}{a:Act}{kk:Nat}(T:TS Γ nt [g,gm] s φ S' a w')(n:Nx [g,gm] kk φ0 w φ w'):Gh S' w' g gm ks:=by
 obtain⟨h0,⟨E,h1⟩,⟨es,clk,h2,h3⟩,h4,h5⟩:=h;exact⟨T.st,⟨E,(n.hp g (by simp)).trans h1⟩,⟨es,clk,(n.hp gm (by simp)).trans h2,h3⟩,(T.gb g (by simp)).2,(T.gb gm (by simp)).2⟩
theorem Gh.gb{S:Stab}{w:World}{g gm:Nat}{ks:List (Int×Int)}(hg:Gh S w g gm ks):∀b,b∈[g,gm]->b<w.heap.size/\∀j,¬S b j:=by
 obtain⟨h0,⟨E,h1⟩,⟨es,clk,h2,_⟩,h3,h4⟩:=hg;have:=eQ h1;have:=eQ h2;intro b hb;simp at hb;rcases hb with rfl|rfl
 . exact⟨by assumption,h3⟩
 . exact⟨by assumption,h4⟩
theorem F92 {S:Stab} {w:World} (φ:Phi) (l:List aw) {g gm:Nat} {ks:List (Int×Int)} (hg:Gh S w g gm ks) (hφ:(φ 0).1 = g) {v:Value} (hv:RT w S (Cell.enc Un ⟨.slice (.nm 5),l⟩) v):
 Calls prog 92 #[v,.func (.func 44) #[] #[.pointer (some ⟨g,0,none⟩)]] w λe w'=>∃m S',e= .returned (.int .i64 m)/\((l.any λx=>!hasX ks x)=decide (0<=m))/\Kp S w S' w':=by
 refine calls_of_wp func92 rfl ?_;have T0:=TS.enter (U:=Un) (gs:=[g,gm]) (N:=1) (nt:=19) (φ:=φ) (args:=[.c (.t ⟨.slice (.nm 5),l⟩),.c (.fn 44 [0])]) (w:=w) (S:=S)
  (.cons (.c (.t _)) (.cons (.c (.fn 44 [0])) .nil)) (vs:=[v,.func (.func 44) #[] #[.pointer (some ⟨g,0,none⟩)]]) (.cons (.c hv) (.cons (.c (by rw[<-hφ];rfl)) .nil)) rfl hg.st (Nat.le_of_ble_eq_true rfl)
  hg.gb
 refine wp_seq (T0.pc 1 [oE .normal [(0,hh (tL 5)),(1,.c (.fn 44 [0]))] [.gone]] (o:=l) .n (by kernel_rfl) λφ1 S1 a1 w1 T1 n1=>?_);refine wp_seq (wp_seq (T1.pc 1 [oE .normal [(0,hh (tL 5)),(1,.c (.fn 44 [0])),(7,hh tI),(8,hh tI)] [.gone]] (o:=(l,(l.length:Int),(0:Int))) .n (by kernel_rfl) λφ2 S2 a2 w2 T2 n2=>?_));refine wp_block (qF ?_)
 refine(show(∀(n i:Nat),i+n=l.length->(∀j,j<i->∃x,l[j]?=some x/\hasX ks x=true)->∀φ' S' a' w',TS _ 19 [g,gm] (oout (U:=Un) [oE .normal [(0,hh (tL 5)),(1,.c (.fn 44 [0])),(7,hh tI),(8,hh tI)] [.gone]] (l,(l.length:Int),(i:Int))).2 φ' S' a' w'->(φ' 0).1=g->Gh S' w' g gm ks->wpL prog _ _ a' w')from ?_) l.length 0 (by simp) (by simp) φ2 S2 a2 w2 T2 (by rw[n2.fix 0 (by decide),n1.fix 0 (by decide)];exact hφ) ((hg.next T1 n1).next T2 n2)
 intro n
 induction n with
 |zero=>
  intro i hi hj φ3 S3 a3 w3 T3 h3 hg3;refine kR (wp_seq (T3.pc 1 [oE .normal [(9,hh .bool)] [.gone]] (o:=(decide ((i:Int)<l.length))) .n (by kernel_rfl) λφ4 S4 a4 w4 T4 n4=>?_));refine wp_seq (wp_cond_false (by rw[bn (T4.bool (k:=9) rfl)];simp;omega) (wp_exit ?_))
  refine T4.pc 1 [oE .ret [(4,hh tI)] [.gone]] (o:=(-1:Int)) .n (by kernel_rfl) λφ5 S5 a5 w5 T5 n5=>T5.ret rfl rfl λy hy=>⟨-1,S5,?_,?_,T5.ext,T5.st⟩
  . cases hy;rfl
  . have:(l.any λx=>!hasX ks x)=false:=by
     rw[List.any_eq_false];intro x hx;obtain⟨j,hjl,rfl⟩:=List.mem_iff_getElem.1 hx;obtain⟨y,h1,h2⟩:=hj j (by omega);rw[List.getElem?_eq_getElem hjl]at h1;cases h1;simp[h2]
    rw[this];rfl
 |succ n ih=>
  intro i hi hj φ3 S3 a3 w3 T3 h3 hg3;have hil:i<l.length:=by omega
  refine kR (wp_seq (T3.pc 1 [oE .normal [(0,hh (tL 5)),(1,.c (.fn 44 [0])),(7,hh tI),(8,hh tI),(9,hh .bool)] [.gone]] (o:=(l,(l.length:Int),(i:Int),decide ((i:Int)<l.length))) .n (by kernel_rfl) λφ4 S4 a4 w4 T4 n4=>?_));refine wp_seq (wp_cond_true (by rw[bn (T4.bool (k:=9) rfl)];simp;omega) (wp_skip ?_))
  refine wp_seq (wp_block (wp_seq (T4.pc 1 [oE .normal [(0,hh (tL 5)),(1,.c (.fn 44 [0])),(7,hh tI),(8,hh tI),(5,hh tI)] [.gone]] (o:=(l,(l.length:Int),(i:Int),(i:Int))) .n (by kernel_rfl) λφ5 S5 a5 w5 T5 n5=>?_)));refine wp_seq (gf [0,1,2,3,4,5] ?_)
  refine T5.op 1 0 5 [(0,hh (tL 5)),(1,.c (.fn 44 [0])),(7,hh tI),(8,hh tI),(5,hh tI),(11,.c (.fn 44 [0])),(15,.row 5)] [.gone] (h:=(l,(l.length:Int),(i:Int),(i:Int),l.getD (Int.toNat i) aG)) .n ((show _=(if inR (i:Int) l.length=true then some _ else none) by kernel_rfl).trans (if_pos (by simp[inR];omega))) λφ6 S6 a6 w6 T6 n6=>?_
  have h6:(φ6 0).1=g:=by rw[n6.fix 0 (by decide),n5.fix 0 (by decide),n4.fix 0 (by decide)];exact h3
  have hg6:=((hg3.next T4 n4).next T5 n5).next T6 n6
  have hx:l[i]?=some (l.getD i aG):=by simp[List.getD,List.getElem?_eq_getElem hil]
  refine manC rfl rfl rfl (jG rfl rfl (bn (T6.fn (k:=11) rfl)) (by kernel_rfl)) (args:=#[pk ((l.getD i aG).A0,(l.getD i aG).A1),.pointer (some ⟨g,0,none⟩)]) ?_ ?_
  . simp[bn (T6.pair (k:=15) rfl),h6]
  obtain⟨h0,⟨E,g1⟩,⟨es,clk,g2,g3⟩,g4,g5⟩:=hg6;refine(F44 h0 (l.getD i aG) g1 g2 g3 g4 g5).mono ?_
  rintro e w7 ⟨rfl,S7,hk⟩
  refine⟨_,rfl,?_⟩;have T7:=(T6.extend hk.1 hk.2).put (d:=16) (v:= .c (.t ⟨.bool,!hasX ks (l.getD i aG)⟩)) (.c (.t _)) (.c (RT.bool _));have hg7:Gh S7 w7 g gm ks:=⟨T7.st,⟨E,hk.heap g1⟩,⟨es,clk,hk.heap g2,g3⟩,(T7.gb g (by simp)).2,(T7.gb gm (by simp)).2⟩
  cases hb:hasX ks (l.getD i aG)with
  |false=>
   refine wp_cond_true ((bn (T7.bool (k:=16) rfl)).trans (by rw[hb];rfl)) (wp_seq (T7.pc 1 [oE .normal [(4,hh tI)] [.gone]] (o:=(i:Int)) .n (by kernel_rfl) λφ8 S8 a8 w8 T8 n8=>wp_ret ?_));simp only[Exit.inBlock,Exit.then];refine T8.ret rfl rfl λy hy=>⟨(i:Int),S8,?_,?_,T8.ext,T8.st⟩
   . cases hy;rfl
   . have:(l.any λx=>!hasX ks x)=true:=List.any_eq_true.2 ⟨l.getD i aG,List.mem_of_getElem? hx,by rw[hb];rfl⟩;rw[this];simp
  |true=>
   refine wp_cond_false ((bn (T7.bool (k:=16) rfl)).trans (by rw[hb];rfl)) (wp_skip ?_);refine T7.pc 1 [oE .normal [(0,hh (tL 5)),(1,.c (.fn 44 [0])),(7,hh tI),(8,hh tI)] [.gone]] (o:=(l,(l.length:Int),addI .i64 (i:Int) 1)) .n (by kernel_rfl) λφ8 S8 a8 w8 T8 n8=>?_
   have ha:addI .i64 (i:Int) 1=((i+1:Nat):Int):=by
    have h9:l.length<=aS:=T8.len (k:=0) rfl;unfold aS at h9;have h10:(i:Int)<281474976710656:=by omega
    unfold addI;rw[IntKind.wrap_i64];omega
   rw[ha]at T8;refine ih (i+1) (by omega) (λj hj'=>?_) φ8 S8 a8 w8 T8 (by rw[n8.fix 0 (by decide)];exact h6) (hg7.next T8 n8);by_cases hji:j<i
   . exact hj j hji
   . have:j=i:=by omega
     subst this;exact⟨_,hx,hb⟩
theorem F42 {S:Stab} {w:World} (l:List aw) {g gm:Nat} {ks:List (Int×Int)} (hg:Gh S w g gm ks) {v:Value} (hv:RT w S (Cell.enc Un ⟨.slice (.nm 5),l⟩) v):
 Calls prog 42 #[v,.func (.func 44) #[] #[.pointer (some ⟨g,0,none⟩)]] w λe w'=>∃S',e= .returned (.bool (l.any λx=>!hasX ks x))/\Kp S w S' w':=by
 refine calls_of_wp func42 rfl ?_;have T0:=TS.enter (U:=Un) (gs:=[g,gm]) (N:=1) (nt:=9) (φ:=λ_=>(g,0)) (args:=[.c (.t ⟨.slice (.nm 5),l⟩),.c (.fn 44 [0])]) (w:=w) (S:=S)
  (.cons (.c (.t _)) (.cons (.c (.fn 44 [0])) .nil)) (vs:=[v,.func (.func 44) #[] #[.pointer (some ⟨g,0,none⟩)]]) (.cons (.c hv) (.cons (.c rfl) .nil)) rfl hg.st (Nat.le_of_ble_eq_true rfl) hg.gb
 refine wp_seq (T0.pc 1 [oE .normal [(0,hh (tL 5)),(1,.c (.fn 44 [0]))] [.gone]] (o:=l) .n (by kernel_rfl) λφ1 S1 a1 w1 T1 n1=>?_);refine wp_seq (gf [0,1,2,3,4] ?_);refine T1.op 1 0 2 [(5,hh (tL 5)),(6,.c (.fn 44 [0]))] [.gone] (h:=l) .n (by kernel_rfl) λφ2 S2 a2 w2 T2 n2=>?_
 have hg2:=(hg.next T1 n1).next T2 n2
 obtain⟨u,k5,hu⟩:=T2.cell (k:=5) rfl;have h2:(φ2 0).1=g:=by rw[n2.fix 0 (by decide),n1.fix 0 (by decide)]
 refine manC rfl rfl rfl (jG rfl rfl (f:=92) (caps:=[]) rfl (by kernel_rfl)) (args:=#[u,.func (.func 44) #[] #[.pointer (some ⟨g,0,none⟩)]]) ?_ ?_
 . simp[bn k5,bn (T2.fn (k:=6) rfl),h2]
 refine(F92 φ2 l hg2 h2 hu).mono ?_
 rintro e w3 ⟨m,S3,rfl,hm,hk⟩
 refine⟨_,rfl,?_⟩;have T3:=(T2.extend hk.1 hk.2).put (d:=7) (v:= .c (.t ⟨.int .i64,m⟩)) (.c (.t _)) (.c (RT.int _ _));refine T3.op 1 3 2 [(4,hh .bool)] [.gone] (h:=decide (0<=m)) .n (by kernel_rfl) λφ4 S4 a4 w4 T4 n4=>?_
 refine wp_ret (T4.ret rfl rfl λy hy=>⟨S4,?_,T4.ext,T4.st⟩);cases hy;rw[hm]
section
variable (Ri:aI->Option Bool) (Co:List aw×aw->Option Bool) (Ro:bp->Option aw) (Ex Fi:bp×aw->Option Bool) (Nw:bp×aw->Option (List aw))
def relG(p:bp)(l:List aw)(x:aw):Option Bool:=
 Ex (p,x)>>=λa=>if(!a)=true then some false
 else Fi (p,x)>>=λb=>if(!b)=true then some false
  else Nw (p,x)>>=λm=>some (m.all λy=>l.any λz=>(eqI y.A0 z.A0&&(eqI y.A1 z.A1&&true)))
def allG(g:aw->Option Bool):List aw->Option Bool
 |[]=>some true
 |x::r=>g x>>=λa=>allG g r>>=λb=>some (a&&b)
def relF(x_:aI×aI×List aw):Option Bool:=
 match x_ with
 |(w,r,l)=>
 Ri w>>=λa=>if(!a)=true then some false
 else Ri r>>=λb=>if(!b)=true then some false
  else Ro (⟨w,r⟩:bp)>>=λq=>Co (l,q)>>=λc=>if(!c)=true then some false
   else allG (relG Ex Fi Nw (⟨w,r⟩:bp) l) l
end
theorem zT{g:aw->Option Bool}:∀{l:List aw} {b:Bool},allG g l=some b->(∀x,x∈l->∃a,g x=some a/\(a=false->b=false))/\((∀x,x∈l->g x=some true)->b=true)
 |[],b,h=>by simp[allG]at h;simp[h]
 |x::r,b,h=>by
  simp only[allG,bind,oZ2]at h;obtain⟨a,ha,b',hb,h⟩:=h;obtain⟨h1,h2⟩:=zT hb;simp at h;subst h;refine⟨λy hy=>?_,λhall=>?_⟩
  . rcases List.mem_cons.1 hy with rfl|hy
    . exact⟨a,ha,λh=>by simp[h]⟩
    . obtain⟨a',g1,g2⟩:=h1 y hy;exact⟨a',g1,λh=>by simp[g2 h]⟩
  . have e:=hall x (by simp);rw[ha]at e;cases e;rw[h2 λy hy=>hall y (by simp[hy])];rfl
def ksOf(l:List aw):List (Int×Int):=l.foldl (λks x=>addP ks (x.A0,x.A1)) []
theorem ML{ks:List (Int×Int)}{x y:Int×Int}:hasP (addP ks x) y=(hasP ks y||decide (x=y)):=by
 unfold addP;split
 . rename_i h;by_cases hxy:x=y
   . subst hxy;simp[h]
   . simp[hxy]
 . simp[hasP]
theorem MM(l:List aw)(x:aw):ksOf (l++[x])=addP (ksOf l) (x.A0,x.A1):=by simp[ksOf]
theorem uo{y:aw}(l:List aw):hasX (ksOf l) y=l.any λz=>(eqI y.A0 z.A0&&(eqI y.A1 z.A1&&true)):=by
 have key:∀(l:List aw) (ks:List (Int×Int)),hasX (l.foldl (λks x=>addP ks (x.A0,x.A1)) ks) y=(hasX ks y||l.any λz=>(eqI y.A0 z.A0&&(eqI y.A1 z.A1&&true))):=by
  intro l
  induction l with
  |nil=>simp
  |cons x l ih=>
   intro ks;rw[List.foldl_cons,ih];unfold hasX;rw[ML,List.any_cons,Bool.or_assoc]
   congr 2
   rw[Bool.eq_iff_iff];simp[eqI,Prod.ext_iff];constructor<;>rintro ⟨h1,h2⟩<;>exact⟨h1.symm,h2.symm⟩
 have:=key l []
 simpa[hasX,hasP,ksOf]using this
theorem NQ{k:Int×Int}(l:List aw)(h:k∈ksOf l):∃x,x∈l/\k=(x.A0,x.A1):=by
 have:hasX (ksOf l) ⟨k.1,k.2⟩=true:=by
  unfold hasX hasP;rw[List.any_eq_true];exact⟨k,h,by simp⟩
 rw[uo,List.any_eq_true]at this;obtain⟨z,hz,h⟩:=this;simp[eqI]at h;exact⟨z,hz,Prod.ext h.1 h.2⟩
theorem MN{ks:List (Int×Int)}{es:List MapEntry}(h:setP ks es){k:Int×Int}(hk:k∈ks):∃e,e∈es/\e.key=pk k:=by
 obtain⟨i,hi⟩:=List.mem_iff_getElem?.1 hk;obtain⟨e,h1,h2⟩:=h.get hi;exact⟨e,List.mem_of_getElem? h1,h2.1⟩
theorem NR{ks:List (Int×Int)}{es:List MapEntry}(h:setP ks es){e:MapEntry}(he:e∈es):∃k,k∈ks/\e.key=pk k/\e.val= .bool true:=by
 induction h with
 |nil=>simp at he
 |cons h1 _ ih=>
  rcases List.mem_cons.1 he with rfl|he
  . exact⟨_,by simp,h1⟩
  . obtain⟨k,hk,h⟩:=ih he;exact⟨k,by simp[hk],h⟩
section
variable {Ri:aI->Option Bool} {Co:List aw×aw->Option Bool} {Ro:bp->Option aw} {Ex Fi:bp×aw->Option Bool} {Nw:bp×aw->Option (List aw)}
theorem PB (hRi:FnC prog ((fE 37 [.row 12] (hh .bool)).s (U:= Un) Ri)) (hCo:FnC prog ((fE 38 [hh (tL 5), .row 5] (hh .bool)).s (U:= Un) Co)) (hRo:FnC prog ((fE 39 [.row 13] (.row 5)).s (U:= Un) Ro))
 (hEx:FnC prog ((fE 40 [.row 13,.row 5] (hh .bool)).s (U:=Un) Ex)) (hFi:FnC prog ((fE 41 [.row 13,.row 5] (hh .bool)).s (U:=Un) Fi)) (hNe:FnC prog ((fE 43 [.row 13,.row 5] (hh (tL 5))).s (U:=Un) Nw)):
 FnC prog ((fE 13 [.row 12,.row 12,hh (tL 5)] (hh .bool)).s (U:=Un) (relF Ri Co Ro Ex Fi Nw)):=by
 refine .hand (by kernel_rfl) ?_
 rintro ⟨rw,rr,l0⟩ b hF φ S w args1 vs hst ha hv hbn
 obtain⟨l,rfl⟩:∃l:List aw,l=l0:=⟨l0,rfl⟩
 refine calls_of_wp func13 rfl ?_;have T0:=TS.enter (U:=Un) (gs:=[]) (N:=0) (nt:=61) ha hv hbn hst (by rw[<-ha.length];exact Nat.le_of_ble_eq_true rfl) (by simp)
 have fin:∀{gs:List Nat} {s:XS Un} {φ1:Phi} {S1:Stab} {a1:Act} {w1:World} (T:TS ⟨w,S,λ_=>False,φ,0⟩ 61 gs s φ1 S1 a1 w1),lk s.1 6=some (.c (.t ⟨.bool,b⟩))->bodyPost prog f13 (λe w'=>∃S',e= .returned (.bool b)/\Kp S w S' w') .ret a1 w1:=
  λT hk=>T.ret rfl hk λy hy=>⟨_,by cases hy;rfl,T.ext,T.st⟩
 refine wp_seq (T0.pc 0 [oE .normal [(2,hh (tL 5)),(3,hP 0 0),(4,hP 1 0)] [.brow 12,.brow 12]] (o:=(l,rw,rr)) .n (by kernel_rfl) λφ1 S1 a1 w1 T1 n1=>?_)
 obtain⟨x1,h1,hF⟩:=Option.bind_eq_some_iff.1 hF;cases x1 with
 |false=>
  cases hF
  refine wp_seq (T1.pc 0 [oE .ret [(6,hh .bool)],oE .normal [(2,hh (tL 5)),(3,hP 0 0),(4,hP 1 0)] [.brow 12,.brow 12]] (o:= .inl false) (.k hRi .n) ((show _=(Ri rw>>=λr_1=>(if(!(!r_1))=true then Ri rr else some false)>>=λr_2=>if(bif (!r_1)then true else(!r_2))=true then some (Sum.inl false)else some (Sum.inr (l,rw,rr))) by kernel_rfl).trans (by rw[h1];rfl)) λφ2 S2 a2 w2 T2 n2=>fin T2 rfl)
 |true=>
 obtain⟨x2,h2,hF⟩:=Option.bind_eq_some_iff.1 hF;cases x2 with
 |false=>
  cases hF
  refine wp_seq (T1.pc 0 [oE .ret [(6,hh .bool)],oE .normal [(2,hh (tL 5)),(3,hP 0 0),(4,hP 1 0)] [.brow 12,.brow 12]] (o:= .inl false) (.k hRi .n) ((show _=(Ri rw>>=λr_1=>(if(!(!r_1))=true then Ri rr else some false)>>=λr_2=>if(bif (!r_1)then true else(!r_2))=true then some (Sum.inl false)else some (Sum.inr (l,rw,rr))) by kernel_rfl).trans (by rw[h1];simp[h2];rfl)) λφ2 S2 a2 w2 T2 n2=>fin T2 rfl)
 |true=>
 refine wp_seq (T1.pc 0 [oE .ret [(6,hh .bool)],oE .normal [(2,hh (tL 5)),(3,hP 0 0),(4,hP 1 0)] [.brow 12,.brow 12]] (o:= .inr (l,rw,rr)) (.k hRi .n) ((show _=(Ri rw>>=λr_1=>(if(!(!r_1))=true then Ri rr else some false)>>=λr_2=>if(bif (!r_1)then true else(!r_2))=true then some (Sum.inl false)else some (Sum.inr (l,rw,rr))) by kernel_rfl).trans (by rw[h1];simp[h2];rfl)) λφ2 S2 a2 w2 T2 n2=>?_)
 refine wp_seq (T2.pc 0 [oE .normal [(2,hh (tL 5)),(7,hP 0 0)] [.brow 13]] (o:=(l,(⟨rw,rr⟩:bp))) .n (by kernel_rfl) λφ3 S3 a3 w3 T3 n3=>?_);obtain⟨q,h3,hF⟩:=Option.bind_eq_some_iff.1 hF;obtain⟨x4,h4,hF⟩:=Option.bind_eq_some_iff.1 hF;cases x4 with
 |false=>
  cases hF;refine wp_seq (T3.pc 0 [oE .ret [(6,hh .bool)],oE .normal [(2,hh (tL 5)),(7,hP 0 0)] [.brow 13]] (o:= .inl false) (.k hRo (.k hCo .n)) ((show _=(Ro ⟨rw,rr⟩>>=λq=>Co (l,q)>>=λc=>if(!c)=true then some (Sum.inl false)else some (Sum.inr (l,(⟨rw,rr⟩:bp)))) by kernel_rfl).trans (by rw[h3];simp[h4];rfl)) λφ4 S4 a4 w4 T4 n4=>fin T4 rfl)
 |true=>
 refine wp_seq (T3.pc 0 [oE .ret [(6,hh .bool)],oE .normal [(2,hh (tL 5)),(7,hP 0 0)] [.brow 13]] (o:= .inr (l,(⟨rw,rr⟩:bp))) (.k hRo (.k hCo .n)) ((show _=(Ro ⟨rw,rr⟩>>=λq=>Co (l,q)>>=λc=>if(!c)=true then some (Sum.inl false)else some (Sum.inr (l,(⟨rw,rr⟩:bp)))) by kernel_rfl).trans (by rw[h3];simp[h4];rfl)) λφ4 S4 a4 w4 T4 n4=>?_)
 obtain⟨hall,htrue⟩:=zT hF;clear hF;generalize hp:(⟨rw,rr⟩:bp)=p at*
 refine wp_seq (gf [0,1,2,3,4] ?_);refine T4.op 0 0 2 [(2,hh (tL 5)),(7,hP 0 0),(29,hh tI)] [.brow 13] (h:=(l,(l.length:Int),p)) .n (by kernel_rfl) λφ5 S5 a5 w5 T5 n5=>?_
 refine man1 rfl rfl rfl (mk1 rfl pairM (bn (T5.int (k:=29) rfl))) ?_;have T6:=(T5.new (.map #[] 0)).put (d:=30) (x:= .map (some w5.heap.size)) (v:= .c (.mp 1)) (.c (.mp 1)) (.c (by show _=Value.map (some _);simp[upd]));refine man1 rfl rfl rfl (al1 rfl (z:= .map none) (by kernel_rfl) rfl) ?_
 have T7:=(T6.new (.cells #[.map none] 85 (0,0))).put (d:=8) (x:= .pointer (some ⟨(w5.alloc (.map #[] 0)).heap.size,0,none⟩)) (v:= .c (.ptr 2 0)) (.c (.ptr 2 0)) (.c (by show _=Value.pointer _;simp[upd]));have hg:w5.heap.size+1=(w5.alloc (.map #[] 0)).heap.size:=by simp
 refine manSt rfl rfl rfl rfl (by kernel_rfl) (b:=(w5.alloc (.map #[] 0)).heap.size) (u:= .map none) (E:=85) (v:= .map (some w5.heap.size)) (bn ((T7.ptr (k:=8) rfl).trans (by simp[upd]))) (bn ((T7.mp (k:=30) rfl).trans (by simp[upd]))) rfl rfl Shv.heap_alloc_new ?_;intro w8 o1 o2 o3 o4 o5 o6;have hw5:w.heap.size<=w5.heap.size:=T5.ext.size
 have T8:=T7.write (w':=w8) (g:=(w5.alloc (.map #[] 0)).heap.size) (by simp) (by rw[<-hg];exact Nat.le_succ_of_le hw5) o1 o2 o3 o4 o6;have hm8:w8.heap[w5.heap.size]?=some (.map #[] 0):=by
  rw[o6 _ (by rw[<-hg];omega),heap_alloc_lt (by simp)];exact Shv.heap_alloc_new
 obtain⟨φ9,S9,T9,_⟩:=T8.goto 0 (sh:=⟨[(2,hh (tL 5)),(7,hP 1 0),(8,hP 0 0)],[.gone,.brow 13]⟩) (ts:=[tL 5,.nm 13]) (h:=(l,p)) (by kernel_rfl);have h9:(φ9 0).1=(w5.alloc (.map #[] 0)).heap.size:=by
  have e1:=T9.ptr (k:=8) rfl;have e2:=T8.ptr (k:=8) rfl;rw[e1]at e2
  simpa[upd]using e2
 have hw8:w.heap.size<=(w5.alloc (.map #[] 0)).heap.size:=by rw[<-hg];exact Nat.le_succ_of_le hw5
 have hne:w5.heap.size≠(w5.alloc (.map #[] 0)).heap.size:=by rw[<-hg];omega
 clear T7 T8 T6 hg o6;generalize (w5.alloc (.map #[] 0)).heap.size=g at*;generalize w5.heap.size=gm at*
 refine wp_seq (wp_seq (T9.pc 1 [oE .normal [(2,hh (tL 5)),(7,hP 1 0),(8,hP 0 0),(31,hh (tL 5)),(32,hh tI),(33,hh tI)] [.gone,.brow 13]] (o:=(l,l,(l.length:Int),(0:Int),p)) .n (by kernel_rfl) λφ10 S10 a10 w10 T10 n10=>?_));refine wp_block (qF ?_)
 refine(show(∀(n i:Nat),i+n=l.length->∀φ' S' a' w' es clk,TS ⟨w,S,λ_=>False,φ,0⟩ 61 [g,gm] (oout (U:=Un) [oE .normal [(2,hh (tL 5)),(7,hP 1 0),(8,hP 0 0),(31,hh (tL 5)),(32,hh tI),(33,hh tI)] [.gone,.brow 13]] (l,l,(l.length:Int),(i:Int),p)).2 φ' S' a' w'->(φ' 0).1=g->w'.heap[g]?=some (.cells #[.map (some gm)] 85 (0,0))->w'.heap[gm]?=some (.map es clk)->setP (ksOf (l.take i)) es.toList->fb es.toList clk->wpL prog _ _ a' w')from ?_)
  l.length 0 (by simp) φ10 S10 a10 w10 #[] 0 T10 ((n10.fix 0 (by decide)).symm▸h9) ((n10.hp g (by simp)).trans o5) ((n10.hp gm (by simp)).trans hm8) .nil ⟨by simp,by simp⟩
 clear T9 n10 T10 o5 hm8 h9;intro n
 induction n with
 |succ n ih=>
  intro i hi φ11 S11 a11 w11 es clk T11 h11 hg11 hm11 hs11 hb11;have hil:i<l.length:=by omega
  refine kR (wp_seq (T11.pc 1 [oE .normal [(2,hh (tL 5)),(7,hP 1 0),(8,hP 0 0),(31,hh (tL 5)),(32,hh tI),(33,hh tI),(34,hh .bool)] [.gone,.brow 13]] (o:=(l,l,(l.length:Int),(i:Int),decide ((i:Int)<l.length),p)) .n (by kernel_rfl) λφ12 S12 a12 w12 T12 n12=>?_));refine wp_seq (wp_cond_true ((bn (T12.bool (k:=34) rfl)).trans (by simp;omega)) (wp_skip ?_))
  refine wp_seq (wp_block (wp_seq ?_))
  refine T12.pc 1 [oE .normal [(2,hh (tL 5)),(7,hP 1 0),(8,hP 0 0),(31,hh (tL 5)),(32,hh tI),(33,hh tI),(10,hP 2 0)] [.gone,.brow 13,.brow 5]] (o:=(l,l,(l.length:Int),(i:Int),p,l.getD (Int.toNat i) aG)) .n ((show _=(if inR (i:Int) (List.length l)=true then some _ else none) by kernel_rfl).trans (if_pos (by simp[inR];omega))) λφ13 S13 a13 w13 T13 n13=>?_
  have h13:(φ13 0).1=g:=by rw[n13.fix 0 (by decide),n12.fix 0 (by decide)];exact h11
  have hg13:=(n13.hp g (by simp)).trans ((n12.hp g (by simp)).trans hg11);have hm13:=(n13.hp gm (by simp)).trans ((n12.hp gm (by simp)).trans hm11);refine gf [0,1,2] ?_;refine man1 rfl rfl rfl (ld1 rfl (by kernel_rfl) (bn ((T13.ptr (k:=8) rfl).trans (by rw[h13]))) hg13 (off:=0) rfl) ?_
  have T14:=(T13.num gm).put (d:=37) (x:= .map (some gm)) (v:= .c (.mp 3)) (.c (.mp 3)) (.c (by show _=Value.map _;simp[upd]))
  refine T14.op 4 1 1 [(2,hh (tL 5)),(7,hP 1 0),(8,hP 0 0),(31,hh (tL 5)),(32,hh tI),(33,hh tI),(37,.c (.mp 3)),(38,.row 5)] [.gone,.brow 13,.brow 5,.gone] (h:=(l,l,(l.length:Int),(i:Int),l.getD (Int.toNat i) aG,p,l.getD (Int.toNat i) aG)) .n (by kernel_rfl) λφ15 S15 a15 w15 T15 n15=>?_
  have h15:(φ15 0).1=g:=by rw[n15.fix 0 (by decide)];simpa[upd]using h13
  refine manUp rfl rfl rfl rfl pairM (bn ((T15.mp (k:=37) rfl).trans (by rw[n15.fix 3 (by decide)];simp[upd]))) (bn (T15.pair (k:=38) rfl)) rfl ((n15.hp gm (by simp)).trans hm13) hs11 hb11 λes' clk' hs' hb'=>?_
  have T16:=T15.write (w':={w15 with heap:=w15.heap.setIfInBounds gm (.map es' clk')}) (g:=gm) (by simp) hw5 rfl rfl rfl (by simp) (λb hb=>by simp[Array.getElem?_setIfInBounds,Ne.symm hb]);have hlt:gm<w15.heap.size:=(T15.gb gm (by simp)).1
  refine T16.pc 1 [oE .normal [(2,hh (tL 5)),(7,hP 1 0),(8,hP 0 0),(31,hh (tL 5)),(32,hh tI),(33,hh tI)] [.gone,.brow 13]] (o:=(l,l,(l.length:Int),addI .i64 (i:Int) 1,p)) .n (by kernel_rfl) λφ17 S17 a17 w17 T17 n17=>?_
  have ha:addI .i64 (i:Int) 1=((i+1:Nat):Int):=by
   have h9:List.length l<=aS:=T17.len (k:=2) rfl;unfold aS at h9;have h10:(i:Int)<281474976710656:=by omega
   unfold addI;rw[IntKind.wrap_i64];omega
  rw[ha]at T17;refine ih (i+1) (by omega) φ17 S17 a17 w17 es' clk' T17 (by rw[n17.fix 0 (by decide)];exact h15) ?_ ?_ ?_ hb'
  . rw[n17.hp g (by simp)];simp[Array.getElem?_setIfInBounds,hne];exact(n15.hp g (by simp)).trans hg13
  . rw[n17.hp gm (by simp)];simp[Array.getElem?_setIfInBounds,hlt]
  . rw[List.take_add_one,List.getElem?_eq_getElem hil];have e:l.getD (Int.toNat i) aG=l[i]:=by simp[List.getD,List.getElem?_eq_getElem hil]
    rw[e]at hs';exact(MM _ _).symm▸hs'
 |zero=>
  intro i hi φ11 S11 a11 w11 es clk T11 h11 hg11 hm11 hs11 hb11;have hli:l.take i=l:=List.take_of_length_le (by omega);rw[hli]at hs11;refine kR (wp_seq (T11.pc 1 [oE .normal [(2,hh (tL 5)),(7,hP 1 0),(8,hP 0 0),(34,hh .bool)] [.gone,.brow 13]] (o:=(l,decide ((i:Int)<l.length),p)) .n (by kernel_rfl) λφ12 S12 a12 w12 T12 n12=>?_))
  refine wp_seq (wp_cond_false ((bn (T12.bool (k:=34) rfl)).trans (by simp;omega)) (wp_exit ?_));have h12:(φ12 0).1=g:=by rw[n12.fix 0 (by decide)];exact h11
  have hg12:=(n12.hp g (by simp)).trans hg11;have hm12:=(n12.hp gm (by simp)).trans hm11
  refine wp_seq (wp_seq (gf [0,1] ?_));refine man1 rfl rfl rfl (ld1 rfl (by kernel_rfl) (bn ((T12.ptr (k:=8) rfl).trans (by rw[h12]))) hg12 (off:=0) rfl) ?_;have T13:=T12.put (d:=40) (x:= .map (some gm)) (v:= .c .dead) (.c (.dead .dead)) (.c rfl);refine man1 rfl rfl rfl (rg1 rfl pairM (bn (jW (by rw[T12.size];decide))) hm12) ?_
  have T14:=(T13.new (.mapIter (some gm) clk #[] clk)).put (d:=41) (x:= .pointer (some ⟨w12.heap.size,0,none⟩)) (v:= .c (.ptr 2 0)) (.c (.ptr 2 0)) (.c (by show _=Value.pointer _;simp[upd]));obtain⟨φ15,S15,T15,_⟩:=T14.goto 0 (sh:=⟨[(2,hh (tL 5)),(7,hP 2 0),(8,hP 0 0),(41,hP 1 0)],[.gone,.gone,.brow 13]⟩) (ts:=[tL 5,.nm 13]) (h:=(l,p)) (by kernel_rfl)
  have hglt:=(T12.gb g (by simp)).1;have hmlt:=(T12.gb gm (by simp)).1;have h15:(φ15 0).1=g:=by
   have e1:=T15.ptr (k:=8) rfl;rw[T14.ptr (k:=8) rfl]at e1;simp[upd]at e1;rw[<-e1];exact h12
  have i15:(φ15 1).1=w12.heap.size:=by
   have e1:=T15.ptr (k:=41) rfl;rw[T14.ptr (k:=41) rfl]at e1;simp[upd]at e1;exact e1.symm
  have hg15:(w12.alloc (.mapIter (some gm) clk #[] clk)).heap[g]?=_:=(Shv.heap_alloc_lt hglt).trans hg12;have hm15:(w12.alloc (.mapIter (some gm) clk #[] clk)).heap[gm]?=_:=(Shv.heap_alloc_lt hmlt).trans hm12;have hi15:(w12.alloc (.mapIter (some gm) clk #[] clk)).heap[w12.heap.size]?=_:=Shv.heap_alloc_new;have hw12:w.heap.size<=w12.heap.size:=T12.ext.size
  have hgi:g≠w12.heap.size:=by omega
  have hmi:gm≠w12.heap.size:=by omega
  clear T14 T13 T12 n12 hglt hmlt hg12 hm12;refine wp_block (qF ?_);have hkey:∀e,e∈es.toList->∃x,x∈l/\e.key=pk (x.A0,x.A1)/\e.val= .bool true:=λe he=>by
   obtain⟨k,h1,h2,h3⟩:=NR hs11 he;obtain⟨x,hx,rfl⟩:=NQ l h1;exact⟨x,hx,h2,h3⟩
  have pkinj:∀{x y:aw},pk (x.A0,x.A1)=pk (y.A0,y.A1)->x=y:=λ{x y} h=>by
   obtain⟨a,b⟩:=x;obtain⟨c,d⟩:=y;simp[pk]at h;rw[h.1,h.2]
  refine(λ(key:∀(n:Nat) (seen:Array Nat),(leftOf es seen).size=n->∀φ' S' a' w',TS ⟨w,S,λ_=>False,φ,0⟩ 61 [w12.heap.size,g,gm] (oout (U:=Un) [oE .normal [(2,hh (tL 5)),(7,hP 2 0),(8,hP 0 0),(41,hP 1 0)] [.gone,.gone,.brow 13]] (l,p)).2 φ' S' a' w'->(φ' 0).1=g->(φ' 1).1=w12.heap.size->w'.heap[g]?=some (.cells #[.map (some gm)] 85 (0,0))->w'.heap[gm]?=some (.map es clk)->w'.heap[w12.heap.size]?=some (.mapIter (some gm) clk seen clk)->(∀e,e∈es.toList->seen.contains e.born=true->∀x:aw,e.key=pk (x.A0,x.A1)->relG Ex Fi Nw p l x=some true)->wpL prog _ _ a' w')=>key _ #[] rfl φ15 S15 _ _ T15 h15 i15 hg15 hm15 hi15 (by simp)) ?_
  clear T15 h15 i15 hg15 hm15 hi15;intro n
  induction n using Nat.strongRecOn with
  |_ n ih=>
  intro seen hsz φ1 S1 a1 w1 T1 h1 i1 hg1 hm1 hi1 hdone;refine kR (wp_seq (gf [0,1] ?_));refine manNx rfl rfl rfl rfl (bn ((T1.ptr (k:=41) rfl).trans (by rw[i1]))) hi1 hm1 hb11 (λh0=>?_) λe he w2 hw2=>?_
  . have T2:=T1.put (d:=42) (x:= .tuple #[.bool false]) (v:= .tup [.c (.t ⟨.bool,false⟩)]) (VR.tupA (.cons (.c (.t _)) .nil)) (RV.tupA (.cons (.c (RT.bool _)) .nil));refine T2.op 2 1 1 [(2,hh (tL 5)),(7,hP 2 0),(8,hP 0 0),(41,hP 1 0),(43,hh .bool)] [.gone,.gone,.brow 13] (h:=(l,false,p)) .n (by kernel_rfl) λφ3 S3 a3 w3 T3 n3=>?_
    refine wp_seq (wp_cond_false (bn (T3.bool (k:=43) rfl)) (wp_exit ?_));have hb:b=true:=htrue λx hx=>by
     have:hasX (ksOf l) x=true:=by
      rw[uo,List.any_eq_true];exact⟨x,hx,by simp[eqI]⟩
     unfold hasX hasP at this;obtain⟨k,hk,hkx⟩:=List.any_eq_true.1 this;have hkx:=of_decide_eq_true hkx;obtain⟨e,he,h2⟩:=MN hs11 hk;exact hdone e he (all_seen es seen h0 e he) x (by rw[h2,hkx])
    subst hb;exact T3.pc 2 [oE .ret [(6,hh .bool)] [.gone,.gone]] (o:=true) .n (by kernel_rfl) λφ4 S4 a4 w4 T4 n4=>fin T4 rfl
  . obtain⟨hes,hns⟩:=mem_left he;obtain⟨x,hxl,hek,hev⟩:=hkey e hes;rw[hek,hev];have T2:=TS.set (q:=w12.heap.size) (w:=w2) (by rcases hw2 with rfl|rfl;exact T1;exact T1.drew) (.mapIter (some gm) clk (seen.push e.born) clk) (by simp) hw12;have hh2:w2.heap=w1.heap:=by rcases hw2 with rfl|rfl<;>rfl
    have hg2:(ChangeMaps.setBlock w2 w12.heap.size (.mapIter (some gm) clk (seen.push e.born) clk)).heap[g]?=some (.cells #[.map (some gm)] 85 (0,0)):=(tG hgi).trans (hh2▸hg1);have hm2:(ChangeMaps.setBlock w2 w12.heap.size (.mapIter (some gm) clk (seen.push e.born) clk)).heap[gm]?=some (.map es clk):=(tG hmi).trans (hh2▸hm1)
    have hi2:(ChangeMaps.setBlock w2 w12.heap.size (.mapIter (some gm) clk (seen.push e.born) clk)).heap[w12.heap.size]?=some (.mapIter (some gm) clk (seen.push e.born) clk):=Ko (by rw[hh2];exact(T1.gb _ (by simp)).1);generalize ChangeMaps.setBlock w2 w12.heap.size (.mapIter (some gm) clk (seen.push e.born) clk)=w3 at*
    have T3:=T2.put (d:=42) (x:= .tuple #[.bool true,pk (x.A0,x.A1),.bool true]) (v:= .tup [.c (.t ⟨.bool,true⟩),.agg [.t ⟨.int .i64,x.A0⟩,.t ⟨.int .i64,x.A1⟩],.c (.t ⟨.bool,true⟩)]) (VR.tupA (.cons (.c (.t _)) (.cons (VR.pkI (x.A0,x.A1)) (.cons (.c (.t _)) .nil)))) (RV.tupA (.cons (.c (RT.bool _)) (.cons (RV.pkI (x.A0,x.A1)) (.cons (.c (RT.bool _)) .nil))))
    refine T3.op 2 1 1 [(2,hh (tL 5)),(7,hP 2 0),(8,hP 0 0),(41,hP 1 0),(43,hh .bool)] [.gone,.gone,.brow 13] (h:=(l,true,p)) .n (by kernel_rfl) λφ4 S4 a4 w4 T4 n4=>?_
    refine wp_seq (wp_cond_true (bn (T4.bool (k:=43) rfl)) (wp_skip ?_));have h4:(φ4 0).1=g:=by rw[n4.fix 0 (by decide)];exact h1
    have i4:(φ4 1).1=w12.heap.size:=by rw[n4.fix 1 (by decide)];exact i1
    have hg4:=(n4.hp g (by simp)).trans hg2;have hm4:=(n4.hp gm (by simp)).trans hm2;have hi4:=(n4.hp w12.heap.size (by simp)).trans hi2;refine wp_block (wp_seq (gf [0,1,2,3] ?_));refine man1 rfl rfl rfl (en1 rfl (bn ((T4.ptr (k:=41) rfl).trans (by rw[i4]))) hi4 hm4 hes hb11) ?_;rw[hek,hev]
    have T5:=T4.put (d:=44) (x:= .tuple #[pk (x.A0,x.A1),.bool true]) (v:= .tup [.agg [.t ⟨.int .i64,x.A0⟩,.t ⟨.int .i64,x.A1⟩],.c (.t ⟨.bool,true⟩)]) (VR.tupA (.cons (VR.pkI (x.A0,x.A1)) (.cons (.c (.t _)) .nil))) (RV.tupA (.cons (RV.pkI (x.A0,x.A1)) (.cons (.c (RT.bool _)) .nil)))
    refine T5.op 2 1 3 [(2,hh (tL 5)),(7,hP 2 0),(8,hP 0 0),(41,hP 1 0),(11,hP 3 0)] [.gone,.gone,.brow 13,.brow 5] (h:=(l,p,x)) .n (by kernel_rfl) λφ6 S6 a6 w6 T6 n6=>?_
    obtain⟨y,hy,hyb⟩:=hall x hxl;have hy0:=hy;obtain⟨y1,e1,hy⟩:=Option.bind_eq_some_iff.1 hy;cases y1 with
    |false=>
     cases hy;cases hyb rfl
     refine wp_seq (T6.pc 2 [oE .ret [(6,hh .bool)] [.gone,.gone],oE .normal [(2,hh (tL 5)),(7,hP 2 0),(8,hP 0 0),(41,hP 1 0),(11,hP 3 0)] [.gone,.gone,.brow 13,.brow 5]] (o:= .inl false) (.k hEx (.k hFi .n)) ((show _=(Ex (p,x)>>=λr_1=>(if(!(!r_1))=true then Fi (p,x)else some false)>>=λr_2=>if(bif (!r_1)then true else(!r_2))=true then some (Sum.inl false)else some (Sum.inr (l,p,x))) by kernel_rfl).trans (by rw[e1];rfl)) λφ7 S7 a7 w7 T7 n7=>?_)
     exact fin T7 rfl
    |true=>
    obtain⟨y2,e2,hy⟩:=Option.bind_eq_some_iff.1 hy;cases y2 with
    |false=>
     cases hy;cases hyb rfl
     refine wp_seq (T6.pc 2 [oE .ret [(6,hh .bool)] [.gone,.gone],oE .normal [(2,hh (tL 5)),(7,hP 2 0),(8,hP 0 0),(41,hP 1 0),(11,hP 3 0)] [.gone,.gone,.brow 13,.brow 5]] (o:= .inl false) (.k hEx (.k hFi .n)) ((show _=(Ex (p,x)>>=λr_1=>(if(!(!r_1))=true then Fi (p,x)else some false)>>=λr_2=>if(bif (!r_1)then true else(!r_2))=true then some (Sum.inl false)else some (Sum.inr (l,p,x))) by kernel_rfl).trans (by rw[e1];simp[e2];rfl)) λφ7 S7 a7 w7 T7 n7=>?_)
     exact fin T7 rfl
    |true=>
    obtain⟨m,e3,hy⟩:=Option.bind_eq_some_iff.1 hy
    refine wp_seq (T6.pc 2 [oE .ret [(6,hh .bool)] [.gone,.gone],oE .normal [(2,hh (tL 5)),(7,hP 2 0),(8,hP 0 0),(41,hP 1 0),(11,hP 3 0)] [.gone,.gone,.brow 13,.brow 5]] (o:= .inr (l,p,x)) (.k hEx (.k hFi .n)) ((show _=(Ex (p,x)>>=λr_1=>(if(!(!r_1))=true then Fi (p,x)else some false)>>=λr_2=>if(bif (!r_1)then true else(!r_2))=true then some (Sum.inl false)else some (Sum.inr (l,p,x))) by kernel_rfl).trans (by rw[e1];simp[e2];rfl)) λφ7 S7 a7 w7 T7 n7=>?_)
    refine wp_seq (gf [0,1,2,3,4] ?_);refine T7.op 2 0 4 [(2,hh (tL 5)),(7,hP 2 0),(8,hP 0 0),(41,hP 1 0),(58,hh (tL 5)),(59,.c (.fn 44 [0]))] [.gone,.gone,.brow 13] (h:=(l,m,p)) (.k hNe .n) ((show _=(Nw (p,x)>>=λm=>some (l,m,p)) by kernel_rfl).trans (by rw[e3];rfl)) λφ8 S8 a8 w8 T8 n8=>?_
    have h8:(φ8 0).1=g:=by rw[n8.fix 0 (by decide),n7.fix 0 (by decide),n6.fix 0 (by decide)];exact h4
    have i8:(φ8 1).1=w12.heap.size:=by rw[n8.fix 1 (by decide),n7.fix 1 (by decide),n6.fix 1 (by decide)];exact i4
    have hg8:=(n8.hp g (by simp)).trans ((n7.hp g (by simp)).trans ((n6.hp g (by simp)).trans hg4));have hm8:=(n8.hp gm (by simp)).trans ((n7.hp gm (by simp)).trans ((n6.hp gm (by simp)).trans hm4));have hi8:=(n8.hp w12.heap.size (by simp)).trans ((n7.hp w12.heap.size (by simp)).trans ((n6.hp w12.heap.size (by simp)).trans hi4));obtain⟨u,k58,hu⟩:=T8.cell (k:=58) rfl
    refine manC rfl rfl rfl (jG rfl rfl (f:=42) (caps:=[]) rfl (by kernel_rfl)) (args:=#[u,.func (.func 44) #[] #[.pointer (some ⟨g,0,none⟩)]]) ?_ ?_
    . simp[bn k58,bn (T8.fn (k:=59) rfl),h8]
    refine(F42 m ⟨T8.st,⟨_,hg8⟩,⟨_,_,hm8,hs11⟩,(T8.gb g (by simp)).2,(T8.gb gm (by simp)).2⟩ hu).mono ?_
    rintro e0 w9 ⟨S9,rfl,k9⟩
    refine⟨_,rfl,?_⟩;have T9:=(T8.extend k9.1 k9.2).put (d:=60) (x:= .bool (m.any λx=>!hasX (ksOf l) x)) (v:= .c (.t ⟨.bool,m.any λx=>!hasX (ksOf l) x⟩)) (.c (.t _)) (.c (RT.bool _));have hany:(m.any λx=>!hasX (ksOf l) x)=!y:=by
     cases hy;rw[List.not_all_eq_any_not]
     congr 1
     funext y
     rw[uo]
    cases y with
    |false=>
     cases hyb rfl;refine wp_cond_true ((bn (T9.bool (k:=60) rfl)).trans (by rw[hany];rfl)) ?_;refine T9.pc 2 [oE .ret [(6,hh .bool)] [.gone,.gone]] (o:=false) .n (by kernel_rfl) λφ10 S10 a10 w10 T10 n10=>?_
     exact fin T10 rfl
    |true=>
     refine wp_cond_false ((bn (T9.bool (k:=60) rfl)).trans (by rw[hany];rfl)) (wp_skip ?_);obtain⟨φ10,S10,T10,n10⟩:=T9.goto 2 (sh:=⟨[(2,hh (tL 5)),(7,hP 2 0),(8,hP 0 0),(41,hP 1 0)],[.gone,.gone,.brow 13]⟩) (ts:=[tL 5,.nm 13]) (h:=(l,p)) (by kernel_rfl)
     refine ih _ (by rw[<-hsz];exact left_shrinks es seen e he) (seen.push e.born) rfl φ10 S10 _ w9 T10 (by rw[n10.fix 0 (by decide)];exact h8) (by rw[n10.fix 1 (by decide)];exact i8) (k9.heap hg8) (k9.heap hm8) (k9.heap hi8) λe' he' hse' x' hx'=>?_
     rw[contains_push]at hse';rcases Bool.or_eq_true _ _▸hse' with h|h
     . exact hdone e' he' h x' hx'
     . have:e'=e:=born_inj hb11.2 he' hes (beq_iff_eq.1 h);subst this;rw[hek]at hx';rw[<-pkinj hx'];exact hy0
end
abbrev FC(e:FEnt)(F:Hs Un.D e.ts->Option (Hs Un.D e.us)):Prop:=FnC prog (e.s F)
abbrev LC(f kk:Nat)(p:List Nat)(e:LEnt)(F:Hs Un.D e.ts->Option (OSum Un e.outs)):Prop:=LpC prog f kk p e F
abbrev KC(e:FEnt):Prop:=Fok prog e
abbrev FD(e:FEnt):Hs Un.D e.ts->Hs Un.D e.us->Prop:=FQ prog Un e
abbrev LD(f kk:Nat)(p:List Nat)(e:LEnt):Hs Un.D e.ts->OSum Un e.outs->Prop:=LQ prog Un f kk p e
abbrev FZ(e:FEnt)(F:Hs Un.D e.ts->Option (Hs Un.D e.us)):Prop:=∀h r,F h=some r->FD e h r
abbrev LZ(f kk:Nat)(p:List Nat)(e:LEnt)(F:Hs Un.D e.ts->Option (OSum Un e.outs)):Prop:=∀h r,F h=some r->LD f kk p e h r
theorem FB{e:FEnt}{h:Hs Un.D e.ts}{r:Hs Un.D e.us}{x:Option (Hs Un.D e.us)}(h0:x=some r){fs:List (FSpec Un)}(hf:FoC prog fs:=by exact .n){ls:List (Nat×LSpec Un)}(hl:LoC prog e.f e.st.length [] ls:=by exact .n)(k:KC e:=by exact .m (by kernel_rfl))(hx:xbody (foS fs) (loL ls) prog e h=x:=by kernel_rfl):FD e h r:= .at k hf hl (hx.trans h0)
theorem LB(e:LEnt){f kk:Nat}{p:List Nat}{F:Hs Un.D e.ts->Option (OSum Un e.outs)}(hF:LZ f kk p e F){h:Hs Un.D e.ts}{o:OSum Un e.outs}{x:Option (OSum Un e.outs)}(h0:x=some o){fs:List (FSpec Un)}(hf:FoC prog fs:=by exact .n){ls:List (Nat×LSpec Un)}(hl:LoC prog f kk p ls:=by exact .n)(hx:iQ (foS fs) (loL ls) kk (pathF prog f p) e F h=x:=by kernel_rfl):LD f kk p e h o:= .at hF hf hl (hx.trans h0)
theorem FG(e:FEnt){F:Hs Un.D e.ts->Option (Hs Un.D e.us)}(h:FZ e F)(k:KC e:=by exact .m (by kernel_rfl)):FC e F:= .of k h
theorem LG(e:LEnt){f kk:Nat}{p:List Nat}{F:Hs Un.D e.ts->Option (OSum Un e.outs)}(h:LZ f kk p e F):LC f kk p e F:= .of h
def e82:=fE 82 [.row 1,hh tI] (hh tI)
def e83:=fE 83 [hh tI] (hh .bool)
def e84:=fE 84 [.row 2] (hh tI)
def e85:=fE 85 [.row 2] (hh tI)
def e86_0:=lE 0 [(1,hP 0 0),(3,.c (.arr 1)),(4,hh tI)] [.brow 2,.arr tI] [oE (.exit 0) [(3,.c (.arr 0))] [.arr tI]] [] [(.slot 3,tI)]
def e86:=fE 86 [.row 2] (hh tLI) [e86_0]
def e196:=fE 196 [hh tI] (hh .bool)
def CI:=lE 0 [(3,hP 0 0),(7,hh tI),(9,hh tI)] [bb (tL 2)] [oR 6 tI,oX 0]
def e138:=fE 138 [.row 1,hh tI,hh (.int .u8)] (hh tI) [CI]
def e140:=fE 140 [hh tI] (hh .bool)
def e88_0:=lE 0 [(1,hh (.int .u8)),(2,hP 0 0),(5,hh tI),(6,hh tI)] [bb (tL 2)] [oR 4 tI,oX 0]
def e88:=fE 88 [.row 1,hh (.int .u8)] (hh tI) [e88_0]
def e139:=fE 139 [.row 1,hh tI,hh (.int .u8)] (.tup [.row 9,hh .bool])
def BN:=lE 0 [(1,hh tI),(2,hh .bool),(3,hP 0 0),(7,hP 1 0),(8,.c (.arr 2)),(9,hh tI),(10,hh tI)] [bb (tL 2),.brow 2,.arr (.nm 8)] [oE (.exit 2) [(1,hh tI),(2,hh .bool),(3,hP 0 0),(7,hP 1 0),(8,.c (.arr 2)),(9,hh tI)] [bb (tL 2),.brow 2,.arr (.nm 8)]]
def e87_0:=lE 0 [(1,hh tI),(2,hh .bool),(3,hP 0 0),(7,hP 1 0),(8,.c (.arr 2)),(9,hh tI)] [bb (tL 2),.brow 2,.arr (.nm 8)] [oE (.exit 0) [(8,.c (.arr 0))] [.arr (.nm 8)]] [BN] [(.slot 8,.nm 8)]
def e87:=fE 87 [.row 1,hh tI,hh .bool] (hh (tL 8)) [e87_0]
def BO:=lE 0 [(1,hP 0 0),(2,hP 1 0),(4,hh tI),(5,hP 2 0),(6,hh tI),(8,hP 3 0),(9,hh tLI),(10,hh tI)] [bb (tL 2),.box [.cap0],.box [.arr 4],.box [.hole tI,.hole .str,.hole tI,.hole tI,.hole tI,.arr 5,.cap0,.hole tI,.hole tI,.hole .bool],.arr (.nm 6),.arr (.nm 7)] [oE (.exit 3) [(1,hP 0 0),(2,hP 1 0),(4,hh tI),(5,hP 2 0),(6,hh tI),(8,hP 3 0)] [bb (tL 2),.box [.cap0],.box [.arr 4],.box [.hole tI,.hole .str,.hole tI,.hole tI,.hole tI,.arr 5,.cap0,.hole tI,.hole tI,.hole .bool],.arr (.nm 6),.arr (.nm 7)]] [] [(.via 8 5,.nm 7)]
def e34_0:=lE 0 [(1,hP 0 0),(2,hP 1 0),(4,hh tI),(5,hP 2 0),(6,hh tI)] [bb (tL 2),.box [.cap0],.box [.arr 3],.arr (.nm 6)] [oE (.exit 0) [(2,hP 0 0),(5,hP 1 0)] [.box [.cap0],.box [.arr 2],.arr (.nm 6)]] [BO] [(.via 5 0,.nm 6)]
def e34:=fE 34 [.row 1] (.tup [.row 11,hh .bool]) [e34_0]
def e35_0:=lE 0 [(1,hh (tL 4)),(4,hP 0 0),(5,hP 1 0),(6,hh tI)] [.box [.cap0],.box [.arr 2],.arr (.nm 2)] [oE (.exit 0) [(4,hP 0 0),(5,hP 1 0)] [.box [.cap0],.box [.arr 2],.arr (.nm 2)]]
def e35:=fE 35 [.row 1,hh (tL 4)] (.row 1) [e35_0]
def e11:=fE 11 [.row 0] (.tup [.row 12,.row 12,hh .bool])
def e36:=fE 36 [hh tI] (.row 12)
def CK:=lE 0 [(0,hh (tL 7)),(1,hh (tL 7)),(12,hh tI),(13,hh tI)] [] [oR 4 .bool,oX 0]
def e324:=fE 324 [hh (tL 7),hh (tL 7)] (hh .bool) [CK]
def CL:=lE 0 [(0,hh (tL 10)),(1,hh (tL 10)),(12,hh tI),(13,hh tI)] [] [oR 4 .bool,oX 0]
def e316:=fE 316 [hh (tL 10),hh (tL 10)] (hh .bool) [CL]
def nM:=lE 0 [(1,hh (tL 9)),(2,.c (.fn 327 [])),(15,hh (tL 9)),(16,hh tI),(17,hh tI)] [] [oR 6 .bool,oX 0]
def rQ:=fE 317 [hh (tL 9),hh (tL 9),.c (.fn 327 [])] (hh .bool) [nM]
def e327:=fE 327 [.row 9,.row 9] (hh .bool)
def e326:=fE 326 [.row 8,.row 8] (hh .bool)
def CM:=lE 0 [(1,hh (tL 8)),(2,.c (.fn 326 [])),(15,hh (tL 8)),(16,hh tI),(17,hh tI)] [] [oR 6 .bool,oX 0]
def e325:=fE 325 [hh (tL 8),hh (tL 8),.c (.fn 326 [])] (hh .bool) [CM]
def e278:=fE 278 [.row 6,.row 6] (hh .bool)
def e320:=fE 320 [hh (.int .u8)] (hh .bool)
def e321:=fE 321 [hh (.int .u8)] (hh .bool)
def CN:=lE 0 [(0,hh .str),(18,hh tI),(19,hh tI)] [] [oR 2 .bool,oX 0]
def e275:=fE 275 [hh .str] (hh .bool) [CN]
def CO:=lE 0 [(0,hh tLI),(1,hh tLS),(5,.c (.mp 0)),(9,hh tLI),(10,hh tI),(11,hh tI)] [.set] [oR 4 .bool,oE (.exit 0) [(0,hh tLI)]]
def e322:=fE 322 [hh tLI,hh tLS] (hh .bool) [CO]
def CP:=lE 0 [(0,hh (tL 7)),(3,.c (.arr 0)),(4,.c (.arr 1)),(7,hh (tL 7)),(8,hh tI),(9,hh tI)] [.arr tI,.arr .str] [oE (.exit 0) [(0,hh (tL 7)),(3,.c (.arr 0)),(4,.c (.arr 1))] [.arr tI,.arr .str]] [] [(.slot 3,tI),(.slot 4,.str)]
def e276:=fE 276 [hh (tL 7)] (hh .bool) [CP]
def e323:=fE 323 [.row 9] (hh .bool)
def CQ:=lE 0 [(1,hP 0 0),(3,.c (.arr 1)),(4,.c (.arr 2)),(8,hh (tL 8)),(9,hh tI),(10,hh tI)] [.brow 6,.arr tI,.arr .str] [oR 2 .bool,oE (.exit 0) [(1,hP 0 0),(3,.c (.arr 1)),(4,.c (.arr 2))] [.brow 6,.arr tI,.arr .str]] [] [(.slot 3,tI),(.slot 4,.str)]
def e277:=fE 277 [.row 6] (hh .bool) [CQ]
def e206:=fE 206 [.row 6] (hh .bool)
def CS:=lE 0 [(1,hP 0 0),(3,.c (.arr 1)),(7,hh (tL 8)),(8,hh tI),(9,hh tI)] [.brow 6,.arr tI] [oE (.exit 0) [(1,hP 0 0),(3,.c (.arr 1))] [.brow 6,.arr tI]] [] [(.slot 3,tI)]
def e207:=fE 207 [.row 6] (hh tLI) [CS]
def AL:=lE 0 [(1,hP 0 0),(3,.c (.mp 1)),(5,hP 2 0),(14,hh (tL 6)),(15,hh tI),(16,hh tI),(38,hh tLI),(39,hh tI),(40,hh tI)] [bb (tL 6),.set,.box [.hole tI,.hole .str,.hole tI,.hole tI,.hole tI,.hole (tL 7),.hole (tL 8),.hole tI,.hole tI,.hole .bool]] [oR 2 tI,oE (.exit 2) [(1,hP 0 0),(3,.c (.mp 1)),(5,hP 2 0),(14,hh (tL 6)),(15,hh tI),(16,hh tI)] [bb (tL 6),.set,.box [.hole tI,.hole .str,.hole tI,.hole tI,.hole tI,.hole (tL 7),.hole (tL 8),.hole tI,.hole tI,.hole .bool]]]
def CT:=lE 0 [(1,hP 0 0),(3,.c (.mp 1)),(14,hh (tL 6)),(15,hh tI),(16,hh tI)] [bb (tL 6),.set] [oR 2 tI,oX 0] [AL]
def e147:=fE 147 [.row 11] (hh tI) [CT]
def e216:=fE 216 [.row 9] (.row 9)
def e149:=fE 149 [.row 9] (hh .bool)
def e218:=fE 218 [.row 7,hP 0 0] (hh .bool) [] [bb tI] [bb tI]
def CU:=lE 0 [(0,hh (tL 7)),(1,.c (.fn 218 [0])),(7,hh tI),(8,hh tI)] [bb tI] [oE .ret [(4,hh tI)] [bb tI],oE (.exit 0) [] [bb tI]]
def e217:=fE 217 [hh (tL 7),.c (.fn 218 [0])] (hh tI) [CU] [bb tI] [bb tI]
def e150:=fE 150 [.row 6,hh tI] (.tup [hh tI,hh .bool])
def e151:=fE 151 [hh tI] (hh .bool)
def e220:=fE 220 [.row 8,hP 0 0] (hh .bool) [] [bb tI] [bb tI]
def CV:=lE 0 [(0,hh (tL 8)),(1,.c (.fn 220 [0])),(7,hh tI),(8,hh tI)] [bb tI] [oE .ret [(4,hh tI)] [bb tI],oE (.exit 0) [] [bb tI]]
def e219:=fE 219 [hh (tL 8),.c (.fn 220 [0])] (hh tI) [CV] [bb tI] [bb tI]
def e152:=fE 152 [.row 6,hh tI] (.tup [hh tI,hh .bool])
def e222:=fE 222 [.row 9,hP 0 0,hP 1 0,hP 2 0] (hh .bool) [] [bb (tL 6),bb tI,bb .bool] [bb (tL 6),bb tI,bb .bool]
def oy:=lE 0 [(0,hh (tL 9)),(1,.c (.fn 222 [0,1,2])),(7,hh tI),(8,hh tI)] [bb (tL 6),bb tI,bb .bool] [oE .ret [(4,hh tI)] [bb (tL 6),bb tI,bb .bool],oE (.exit 0) [] [bb (tL 6),bb tI,bb .bool]]
def e285:=fE 285 [hh (tL 9),.c (.fn 222 [0,1,2])] (hh tI) [oy] [bb (tL 6),bb tI,bb .bool] [bb (tL 6),bb tI,bb .bool]
def e221:=fE 221 [hh (tL 9),.c (.fn 222 [0,1,2])] (hh .bool) [] [bb (tL 6),bb tI,bb .bool] [bb (tL 6),bb tI,bb .bool]
def e153:=fE 153 [.row 11,hh tI,hh (tL 9),hh .bool] (hh .bool)
def e158:=fE 158 [hh tI] (hh (.int .u64))
def e286:=fE 286 [hh (.int .u64)] (hh .bool)
def e223:=fE 223 [hh (.int .u64),hh (.int .u64)] (hh tI)
def e287:=fE 287 [hh tI] (hh .bool)
def e225:=fE 225 [hh tI,hh tI] (hh tI)
def e288:=fE 288 [hh .str] (hh .bool)
def e226:=fE 226 [hh .str,hh .str] (hh tI)
def CW:=lE 0 [(3,hh tI),(6,hh tLI),(7,hh tI),(8,hh tI)] [] [oR 2 tI,oE (.exit 0) [(3,hh tI)]]
def e224:=fE 224 [hh tLI] (hh tI) [CW]
def e154:=fE 154 [.row 9,.row 9] (hh tI)
def CX:=lE 0 [(3,hh .bool),(4,hP 0 0),(6,hP 1 0),(9,hP 2 0),(111,hh (tL 10)),(112,hh tI),(113,hh tI)] [bb (tL 6),.brow 9,.box [.hole tI,.hole .str,.hole tI,.hole tI,.hole tI,.hole (tL 7),.hole (tL 8),.hole tI,.hole tI,.hole .bool]] [oR 8 .bool,oE (.exit 1) [(3,hh .bool),(4,hP 0 0),(6,hP 1 0),(9,hP 2 0)] [bb (tL 6),.box [.hole tI,.hole .bool,.hole tI,.hole .str,.hole tI,.hole (tL 9),.hole (tL 9),.hole (tL 10)],.box [.hole tI,.hole .str,.hole tI,.hole tI,.hole tI,.hole (tL 7),.hole (tL 8),.hole tI,.hole tI,.hole .bool]]]
def oz:=lE 1 [(3,hh .bool),(4,hP 0 0),(6,hP 1 0),(150,hh (tL 8)),(151,hh tI),(152,hh tI)] [bb (tL 6),.box [.hole tI,.hole .bool,.hole tI,.hole .str,.hole tI,.hole (tL 9),.hole (tL 9),.hole (tL 10)]] [oR 8 .bool,oX 3]
def CY:=lE 2 [(3,hh .bool),(4,hP 0 0),(6,hP 1 0),(9,hP 2 0),(20,hh tI)] [bb (tL 6),.brow 9,.box [.hole tI,.hole .str,.hole tI,.hole tI,.hole tI,.hole (tL 7),.hole (tL 8),.hole tI,.hole tI,.hole .bool]] [oR 8 .bool,oE (.exit 5) [(3,hh .bool),(4,hP 0 0),(6,hP 1 0),(9,hP 2 0)] [bb (tL 6),.brow 9,.box [.hole tI,.hole .str,.hole tI,.hole tI,.hole tI,.hole (tL 7),.hole (tL 8),.hole tI,.hole tI,.hole .bool]]]
def e101:=fE 101 [.row 11,hh tI,.row 9,hh .bool] (hh .bool) [CX,oz,CY]
def e54:=fE 54 [.row 11,hh tI,.row 9] (hh .bool)
def AM:=lE 0 [(1,hP 0 0),(6,hh tI),(16,hh (tL 6)),(17,hh tI),(18,hh tI),(24,hh (tL 8)),(25,hh tI),(26,hh tI)] [bb (tL 6)] [oE .ret [(2,hh tI),(3,hh tI),(4,hh tI)],oE (.exit 2) [(1,hP 0 0),(16,hh (tL 6)),(17,hh tI),(18,hh tI)] [bb (tL 6)]]
def CZ:=lE 0 [(1,hP 0 0),(16,hh (tL 6)),(17,hh tI),(18,hh tI)] [bb (tL 6)] [oE .ret [(2,hh tI),(3,hh tI),(4,hh tI)],oX 0] [AM]
def e270:=fE 270 [.row 11] (.tup [hh tI,hh tI,hh tI]) [CZ]
def e197:=fE 197 [.row 11] (hh tI)
def C0:=lE 0 [(1,.c (.arr 0)),(5,hh tI),(33,hh (tL 8)),(34,hh tI),(35,hh tI)] [.arr tI] [oE (.exit 1) [(5,hh tI)] [.arr tI]]
def C1:=lE 1 [(1,.c (.arr 0)),(8,hh tI),(52,hh (tL 8)),(53,hh tI),(54,hh tI)] [.arr tI] [oE (.exit 3) [(8,hh tI)] [.arr tI]]
def e271:=fE 271 [.row 6,.c (.arr 0)] (hh tI) [C0,C1] [.arr tI] [.arr tI]
def AN:=lE 0 [(1,hP 0 0),(3,.c (.arr 1)),(4,hh .bool),(14,hh (tL 6)),(15,hh tI),(16,hh tI)] [bb (tL 6),.arr tI] [oE (.exit 2) [(1,hP 0 0),(3,.c (.arr 1)),(4,hh .bool)] [bb (tL 6),.arr tI]]
def C2:=lE 0 [(1,hP 0 0),(3,.c (.arr 1)),(4,hh .bool)] [bb (tL 6),.arr tI] [oE (.exit 0) [(3,.c (.arr 0))] [.arr tI]] [AN]
def e198:=fE 198 [.row 11] (hh tLI) [C2]
def C3:=lE 0 [(5,.c (.arr 0)),(14,hh tLI),(15,hh tI),(16,hh tI)] [.arr .bool] [oE (.exit 0) [(5,.c (.arr 0))] [.arr .bool]] [] [(.slot 5,.bool)]
def e141:=fE 141 [.row 11] (.tup [hh (.slice .bool),hh tI]) [C3]
def e89_0:=lE 0 [(15,hh (.slice .bool)),(16,hh tI),(17,hh tI)] [] [oR 2 tI,oX 0]
def e89:=fE 89 [.row 11] (hh tI) [e89_0]
def e37:=fE 37 [.row 12] (hh .bool)
def BP:=lE 0 [(0,hh (tL 5)),(3,hP 0 0),(7,hh tI),(8,hh tI)] [.brow 5] [oR 4 tI,oX 0]
def e90_a:=fE 90 [hh (tL 5),.row 5] (hh tI) [BP]
def e38_a:=fE 38 [hh (tL 5),.row 5] (hh .bool)
def e39:=fE 39 [.row 13] (.row 5)
def e40:=fE 40 [.row 13,.row 5] (hh .bool)
def e199:=fE 199 [.row 11,hh tI] (hh tI)
def e142:=fE 142 [.row 12,.row 12] (hh tI)
def e200:=fE 200 [.row 6] (hh tI)
def C4:=lE 0 [(2,hP 0 0),(3,hP 1 0),(16,hh (tL 7)),(17,hh tI),(18,hh tI)] [.brow 6,.brow 6] [oR 4 .bool,oE (.exit 0) [(2,hP 0 0),(3,hP 1 0)] [.brow 6,.brow 6]]
def C5:=lE 1 [(3,hP 0 0),(33,hh (tL 8)),(34,hh tI),(35,hh tI)] [.brow 6] [oR 4 .bool,oX 2]
def e201:=fE 201 [.row 6,.row 6] (hh .bool) [C4,C5]
def e162:=fE 162 [.row 11,hh tI] (hh tI)
def e104:=fE 104 [.row 11,hh tI,.row 9,.row 11,hh tI] (hh tI)
def e163:=fE 163 [hP 0 0] (.tup [.row 9,hh .bool]) [] [.box [.hole (tL 6),.hole (tL 6),.arr 1,.hole tLI],.arr tI] [.box [.hole (tL 6),.hole (tL 6),.arr 2,.arr 3],.gone,.arr tI,.arr tI]
def e233:=fE 233 [hP 0 0,hh tI] (.tup [.row 9,hh .bool]) [] [.box [.hole (tL 6),.hole (tL 6),.arr 1,.hole tLI],.arr tI] [.box [.hole (tL 6),.hole (tL 6),.arr 2,.arr 3],.gone,.arr tI,.arr tI]
def oA:=lE 0 [(1,hP 0 0),(2,hP 1 0),(20,.c (.arr 2)),(21,hh tI),(22,hh tI)] [.box [.hole tI,.hole .bool,.hole tI,.hole .str,.hole tI,.arr 2,.arr 3,.arr 4],.box [.hole tI,.hole .bool,.hole tI,.hole .str,.hole tI,.cap0,.cap0,.cap0],.arr (.nm 9),.arr (.nm 9),.arr (.nm 10)] [oE (.exit 0) [(1,hP 0 0),(2,hP 1 0)] [.box [.hole tI,.hole .bool,.hole tI,.hole .str,.hole tI,.arr 2,.arr 3,.arr 4],.box [.hole tI,.hole .bool,.hole tI,.hole .str,.hole tI,.cap0,.cap0,.cap0],.arr (.nm 9),.arr (.nm 9),.arr (.nm 10)]]
def oB:=lE 1 [(1,hP 0 0),(2,hP 1 0),(35,.c (.arr 2)),(36,hh tI),(37,hh tI)] [.box [.hole tI,.hole .bool,.hole tI,.hole .str,.hole tI,.arr 3,.arr 2,.arr 4],.box [.hole tI,.hole .bool,.hole tI,.hole .str,.hole tI,.cap0,.cap0,.cap0],.arr (.nm 9),.arr (.nm 9),.arr (.nm 10)] [oE (.exit 2) [(1,hP 0 0),(2,hP 1 0)] [.box [.hole tI,.hole .bool,.hole tI,.hole .str,.hole tI,.arr 2,.arr 3,.arr 4],.box [.hole tI,.hole .bool,.hole tI,.hole .str,.hole tI,.cap0,.cap0,.cap0],.arr (.nm 9),.arr (.nm 9),.arr (.nm 10)]]
def e234:=fE 234 [.row 9] (.row 9) [oA,oB]
def e235:=fE 235 [hP 0 0,hh tI,hh tI,.row 9,hh tI] (.tup [.row 9,hh .bool]) [] [.box [.hole (tL 6),.hole (tL 6),.arr 1,.hole tLI],.arr tI] [.box [.hole (tL 6),.hole (tL 6),.arr 2,.hole tLI],.gone,.arr tI]
def nN:=lE 0 [(1,hh (tL 9)),(2,.c (.fn 272 [])),(15,hh (tL 9)),(16,hh tI),(17,hh tI)] [] [oR 6 .bool,oX 0]
def rR:=fE 317 [hh (tL 9),hh (tL 9),.c (.fn 272 [])] (hh .bool) [nN]
def e272:=fE 272 [.row 9,.row 9] (hh .bool)
def e236:=fE 236 [.row 8,.row 9] (hh .bool)
def C6:=lE 0 [(0,hh (.int .u64)),(3,hP 0 0),(4,hh tI)] [.arr (.int .u8)] [oE (.exit 0) [(0,hh (.int .u64)),(3,hP 0 0),(4,hh tI)] [.arr (.int .u8)]]
def e231:=fE 231 [hh (.int .u64)] (hh .str) [C6]
def e161:=fE 161 [hh .str] (hh .str)
def e228:=fE 228 [hh tI,hh .bool,hh .str] (hh .str)
def e293:=fE 293 [hh tI,hh .bool,hh .str] (.tup [hh .str,hh tI])
def e294:=fE 294 [hh .str] (hh .str)
def e155:=fE 155 [.row 11,hh tI] (hh tI)
def e156:=fE 156 [.row 11,hh tI,.row 9] (hh .bool)
def e102:=fE 102 [.row 11,hh tI,.row 9] (hh tI)
def C7:=lE 0 [(0,hh (.int .u64)),(3,hP 0 0),(4,hh tI)] [.arr (.int .u8)] [oE (.exit 0) [(3,hP 0 0),(4,hh tI)] [.arr (.int .u8)]]
def e157:=fE 157 [hh (.int .u64)] (hh .str) [C7]
def e227:=fE 227 [.row 8,.row 9] (hh .bool)
def e69:=fE 69 [hP 0 0,hh .str] (.tup [hh tI,.c (.dead)]) [] [.bld 116 ((.bufc 1)),.buf 5] [.bld 116 ((.bufc 2)),.gone,.buf 5]
def e71:=fE 71 [hP 0 0] (hh .str) [] [.bld 116 ((.bufc 1)),.buf 5] [.bld 116 ((.bufc 1)),.gone]
def oC:=lE 0 [(0,hP 0 0),(3,hh tI),(6,hP 1 0),(9,.c (.arr 2)),(18,hh (tL 8)),(19,hh tI),(20,hh tI)] [.box [.hole (tL 6),.hole tI],.brow 9,.arr (.nm 14)] [oE (.exit 0) [(6,hP 1 0),(9,.c (.arr 2))] [.box [.hole (tL 6),.hole tI],.brow 9,.arr (.nm 14)]] [] [(.slot 9,.nm 14)]
def C8:=lE 1 [(9,.c (.arr 1)),(57,hh (tL 10)),(58,hh tI),(59,hh tI)] [.box [.hole (tL 6),.hole tI],.arr (.nm 14)] [oE (.exit 2) [(9,.c (.arr 1))] [.box [.hole (tL 6),.hole tI],.arr (.nm 14)]]
def C9:=lE 2 [(14,hP 1 0),(77,.c (.arr 2)),(78,hh tI),(79,hh tI)] [.box [.hole (tL 6),.hole tI],.bld 116 ((.bufc 3)),.arr (.nm 14),.buf 5] [oE (.exit 4) [(14,hP 1 0)] [.box [.hole (tL 6),.hole tI],.bld 116 ((.bufc 2)),.buf 5]]
def e159:=fE 159 [hP 0 0,.row 6,.row 9,hh tI] (hh .str) [oC,C8,C9] [.box [.hole (tL 6),.hole tI]] [.box [.hole (tL 6),.hole tI]]
def e160:=fE 160 [hP 0 0,.row 6,.row 9,hh tI] (hh .str) [] [.box [.hole (tL 6),.hole tI]] [.box [.hole (tL 6),.hole tI]]
def oD:=lE 0 [(0,hP 0 0),(3,hh tI),(6,hP 1 0),(9,hP 2 0),(10,hP 3 0),(84,hh (tL 9)),(85,hh tI),(86,hh tI)] [.box [.hole (tL 6),.hole tI],.brow 9,.brow 6,.bld 116 ((.bufc 4)),.buf 5] [oE (.exit 1) [(10,hP 1 0)] [.box [.hole (tL 6),.hole tI],.bld 116 ((.bufc 2)),.buf 5]]
def e103:=fE 103 [hP 0 0,hh tI,.row 9,hh tI] (hh .str) [oD] [.box [.hole (tL 6),.hole tI]] [.box [.hole (tL 6),.hole tI]]
def e55:=fE 55 [.row 11,hh tI,.row 9] (.tup [hh .str,hh tI])
def oF:=lE 0 [(3,hP 0 0),(5,hP 1 0),(8,hh .str),(36,hh (tL 8)),(37,hh tI),(38,hh tI)] [bb (tL 6),.brow 9] [oE (.exit 1) [(8,hh .str)]]
def oG:=lE 1 [(3,hP 0 0),(7,hP 1 0),(8,hh .str),(101,hh (tL 9)),(102,hh tI),(103,hh tI)] [bb (tL 6),.brow 6] [oE (.exit 3) [(8,hh .str)]]
def oH:=lE 2 [(3,hP 0 0),(5,hP 1 0),(7,hP 2 0),(8,hh .str),(118,hh (tL 9)),(119,hh tI),(120,hh tI)] [bb (tL 6),.brow 9,.brow 6] [oE (.exit 5) [(8,hh .str)]]
def e237:=fE 237 [.row 11,hh tI,.row 9] (hh .str) [oF,oG,oH]
def oI:=lE 0 [(0,hP 0 0),(5,hP 2 0),(6,hP 3 0),(7,hP 4 0),(8,hP 5 0),(10,hP 6 0),(25,hh (tL 8)),(26,hh tI),(27,hh tI)] [.box [.hole (tL 6),.hole (tL 6),.arr 7,.hole tLI],.gone,.brow 6,.brow 9,.brow 6,.box [.hole tI,.hole .bool,.hole tI,.hole .str,.hole tI,.cap0,.cap0,.cap0],.box [.hole tI,.hole .bool,.hole tI,.hole .str,.hole tI,.cap0,.arr 8,.cap0],.arr tI,.arr (.nm 9)] [oE .ret [(8,hP 2 0),(9,hh .bool)] [.box [.hole (tL 6),.hole (tL 6),.arr 3,.hole tLI],.gone,.brow 9,.arr tI],oE (.exit 0) [(0,hP 0 0),(5,hP 2 0),(6,hP 3 0),(7,hP 4 0),(8,hP 5 0),(10,hP 6 0)] [.box [.hole (tL 6),.hole (tL 6),.arr 7,.hole tLI],.gone,.brow 6,.brow 9,.brow 6,.box [.hole tI,.hole .bool,.hole tI,.hole .str,.hole tI,.cap0,.cap0,.cap0],.box [.hole tI,.hole .bool,.hole tI,.hole .str,.hole tI,.cap0,.arr 8,.cap0],.arr tI,.arr (.nm 9)]] [] [(.via 10 6,.nm 9)]
def Da:=lE 1 [(0,hP 0 0),(6,hP 2 0),(7,hP 3 0),(8,hP 4 0),(10,hP 5 0),(115,hh (tL 8)),(116,hh tI),(117,hh tI)] [.box [.hole (tL 6),.hole (tL 6),.arr 6,.hole tLI],.gone,.brow 9,.brow 6,.box [.hole tI,.hole .bool,.hole tI,.hole .str,.hole tI,.cap0,.cap0,.cap0],.box [.hole tI,.hole .bool,.hole tI,.hole .str,.hole tI,.cap0,.arr 7,.arr 8],.arr tI,.arr (.nm 9),.arr (.nm 10)] [oE .ret [(8,hP 2 0),(9,hh .bool)] [.box [.hole (tL 6),.hole (tL 6),.arr 3,.arr 4],.gone,.brow 9,.arr tI,.arr tI],oE (.exit 2) [(8,hP 2 0),(10,hP 3 0)] [.box [.hole (tL 6),.hole (tL 6),.arr 4,.hole tLI],.gone,.box [.hole tI,.hole .bool,.hole tI,.hole .str,.hole tI,.cap0,.cap0,.cap0],.box [.hole tI,.hole .bool,.hole tI,.hole .str,.hole tI,.cap0,.arr 5,.arr 6],.arr tI,.arr (.nm 9),.arr (.nm 10)]] [] [(.via 10 7,.nm 10)]
def e164:=fE 164 [hP 0 0,.row 6,.row 9,.row 6] (.tup [.row 9,hh .bool]) [oI,Da] [.box [.hole (tL 6),.hole (tL 6),.arr 1,.hole tLI],.arr tI] [.box [.hole (tL 6),.hole (tL 6),.arr 2,.hole tLI],.gone,.arr tI]
def e165:=fE 165 [hP 0 0,.row 6,.row 9,.row 6] (.tup [.row 9,hh .bool]) [] [.box [.hole (tL 6),.hole (tL 6),.arr 1,.hole tLI],.arr tI] [.box [.hole (tL 6),.hole (tL 6),.arr 2,.hole tLI],.gone,.arr tI]
def oK:=lE 0 [(0,hP 0 0),(1,hh tI),(3,hh tI),(10,.c (.arr 2)),(15,hh (tL 9)),(16,hh tI),(17,hh tI)] [.box [.hole (tL 6),.hole (tL 6),.arr 3,.hole tLI],.gone,.arr (.nm 9),.arr tI] [oE .ret [(8,.c (.cap0)),(9,hh .bool)] [.box [.hole (tL 6),.hole (tL 6),.arr 2,.hole tLI],.gone,.arr tI],oE (.exit 0) [(10,.c (.arr 2))] [.box [.hole (tL 6),.hole (tL 6),.arr 3,.hole tLI],.gone,.arr (.nm 9),.arr tI]] [] [(.slot 10,.nm 9)]
def e166:=fE 166 [hP 0 0,hh tI,hh (tL 9),hh tI] (.tup [hh (tL 9),hh .bool]) [oK] [.box [.hole (tL 6),.hole (tL 6),.arr 1,.hole tLI],.arr tI] [.box [.hole (tL 6),.hole (tL 6),.arr 2,.hole tLI],.gone,.arr tI]
def e105:=fE 105 [hP 0 0,hh tI,.row 9,hh tI] (.tup [.row 9,hh .bool]) [] [.box [.hole (tL 6),.hole (tL 6),.arr 1,.hole tLI],.arr tI] [.box [.hole (tL 6),.hole (tL 6),.arr 2,.hole tLI],.gone,.arr tI]
def e56:=fE 56 [.row 11,hh tI,.row 9,.row 11,hh tI] (.tup [.row 9,hh tI])
def Db:=lE 0 [(4,hP 0 0),(5,hP 1 0),(6,hP 2 0),(7,hP 3 0),(21,hh (tL 8)),(22,hh tI),(23,hh tI)] [bb (tL 6),.brow 6,bb (tL 6),.brow 6] [oR 8 tI,oE (.exit 0) [(5,hP 0 0),(7,hP 1 0)] [.brow 6,.brow 6]]
def Dc:=lE 1 [(7,hP 0 0),(73,hh (tL 8)),(74,hh tI),(75,hh tI)] [.brow 6] [oR 8 tI,oX 2]
def e202:=fE 202 [.row 11,.row 6,.row 11,.row 6] (hh tI) [Db,Dc]
def e143:=fE 143 [.row 11,hh tI,.row 11,hh tI] (hh tI)
def e91:=fE 91 [.row 11,hh tI,.row 11,hh tI] (.tup [hh tI,hh tI])
def e41:=fE 41 [.row 13,.row 5] (hh .bool)
def BQ:=lE 0 [(0,.c (.arr 0)),(3,hP 1 0),(7,hh tI),(8,hh tI)] [.arr (.nm 5),.brow 5] [oE .ret [(4,hh tI)] [.arr (.nm 5)],oE (.exit 0) [] [.arr (.nm 5)]]
def e90_b:=fE 90 [.c (.arr 0),.row 5] (hh tI) [BQ] [.arr (.nm 5)] [.arr (.nm 5)]
def e38_b:=fE 38 [.c (.arr 0),.row 5] (hh .bool) [] [.arr (.nm 5)] [.arr (.nm 5)]
def e203:=fE 203 [hh tI,hh tI,hP 0 0] (.tup []) [] [.box [.arr 1],.arr (.nm 5)] [.box [.arr 2],.gone,.arr (.nm 5)]
def Dd:=lE 0 [(9,hP 0 0),(10,hP 1 0),(11,hP 2 0),(12,.c (.fn 203 [2])),(35,hh (tL 8)),(36,hh tI),(37,hh tI)] [.brow 6,.brow 6,.box [.arr 3],.arr (.nm 5)] [oE (.exit 0) [(9,hP 0 0),(10,hP 1 0),(11,hP 2 0),(12,.c (.fn 203 [2]))] [.brow 6,.brow 6,.box [.arr 3],.arr (.nm 5)]] [] [(.via 11 0,.nm 5)]
def e144:=fE 144 [.row 11,hh tI,.row 11,hh tI] (hh (tL 5)) [Dd]
def e93:=fE 93 [.row 11,hh tI,.row 11,hh tI] (.tup [hh (tL 5),hh tI])
def e43:=fE 43 [.row 13,.row 5] (hh (tL 5))
def e13:=fE 13 [.row 12,.row 12,hh (tL 5)] (hh .bool)
def e208:=fE 208 [hP 0 0,hh tI] (.tup [.row 9,hh .bool]) [] [.box [.hole (tL 6),.arr 1,.hole tLI,.hole tI],.arr tI] [.box [.hole (tL 6),.arr 2,.arr 3,.hole tI],.gone,.arr tI,.arr tI]
def PD:=lE 0 [(0,hh .str),(4,hh (.int .u64)),(17,hh tI),(18,hh tI)] [] [oE (.exit 0) [(4,hh (.int .u64))]]
def e209:=fE 209 [hh .str] (.tup [hh (.int .u64),hh tI]) [PD]
def e210:=fE 210 [hh (.int .u64)] (hh tI)
def e211:=fE 211 [hP 0 0,hh tI,hh tI,hh .str] (.tup [.row 9,hh .bool]) [] [.box [.hole (tL 6),.arr 1,.hole tLI,.hole tI],.arr tI] [.box [.hole (tL 6),.arr 2,.hole tLI,.hole tI],.gone,.arr tI]
def PE:=lE 0 [(0,hh .str),(5,hh (.int .u64)),(10,hh tI),(11,hh tI)] [] [oE .ret [(2,hh (.int .u64)),(3,hh tI),(4,hh tI)],oX 0]
def e346:=fE 346 [hh .str] (.tup [hh (.int .u64),hh tI,hh tI]) [PE]
def e328:=fE 328 [hh .str] (.tup [hh (.int .u64),hh .str,hh .bool])
def e279:=fE 279 [hh .str] (.tup [hh tI,hh .str,hh tI])
def e212:=fE 212 [hP 0 0,.row 6,hh .str] (.tup [.row 9,hh .bool]) [] [.box [.hole (tL 6),.arr 1,.hole tLI,.hole tI],.arr tI] [.box [.hole (tL 6),.arr 2,.hole tLI,.hole tI],.gone,.arr tI]
def e329:=fE 329 [hh .str] (.tup [hh .str,hh .str,hh .bool])
def PF:=lE 0 [(4,.c (.arr 0)),(5,hh .str)] [.arr .str] [oE .ret [(2,.c (.cap0)),(3,hh tI)],oE (.exit 0) [(4,.c (.arr 0))] [.arr .str]] [] [(.slot 4,.str)]
def e280:=fE 280 [hh .str] (.tup [hh tLS,hh tI]) [PF]
def PG:=lE 0 [(0,hP 0 0),(4,hP 2 0),(6,hP 3 0),(10,hP 4 0),(38,hh tLS),(39,hh tI),(40,hh tI)] [.box [.hole (tL 6),.arr 5,.hole tLI,.hole tI],.gone,.brow 6,.box [.hole tI,.hole .bool,.hole tI,.hole .str,.hole tI,.cap0,.cap0,.cap0],.box [.hole tI,.hole .bool,.hole tI,.hole .str,.hole tI,.cap0,.arr 6,.cap0],.arr tI,.arr (.nm 9)] [oE .ret [(6,hP 2 0),(7,hh .bool)] [.box [.hole (tL 6),.arr 3,.hole tLI,.hole tI],.gone,.brow 9,.arr tI],oE (.exit 0) [(6,hP 2 0),(10,hP 3 0)] [.box [.hole (tL 6),.arr 4,.hole tLI,.hole tI],.gone,.box [.hole tI,.hole .bool,.hole tI,.hole .str,.hole tI,.cap0,.cap0,.cap0],.box [.hole tI,.hole .bool,.hole tI,.hole .str,.hole tI,.cap0,.arr 5,.cap0],.arr tI,.arr (.nm 9)]] [] [(.via 10 6,.nm 9)]
def e213:=fE 213 [hP 0 0,.row 6,hh .str] (.tup [.row 9,hh .bool]) [PG] [.box [.hole (tL 6),.arr 1,.hole tLI,.hole tI],.arr tI] [.box [.hole (tL 6),.arr 2,.hole tLI,.hole tI],.gone,.arr tI]
def PH:=lE 0 [(0,hP 0 0),(4,hP 2 0),(6,hP 3 0),(8,hh tLS),(10,hP 4 0),(11,hh tI)] [.box [.hole (tL 6),.arr 5,.hole tLI,.hole tI],.gone,.brow 6,.box [.hole tI,.hole .bool,.hole tI,.hole .str,.hole tI,.cap0,.cap0,.cap0],.box [.hole tI,.hole .bool,.hole tI,.hole .str,.hole tI,.arr 6,.cap0,.cap0],.arr tI,.arr (.nm 9)] [oE .ret [(6,hP 2 0),(7,hh .bool)] [.box [.hole (tL 6),.arr 3,.hole tLI,.hole tI],.gone,.brow 9,.arr tI],oE (.exit 0) [(0,hP 0 0),(4,hP 2 0),(6,hP 3 0),(8,hh tLS),(10,hP 4 0)] [.box [.hole (tL 6),.arr 5,.hole tLI,.hole tI],.gone,.brow 6,.box [.hole tI,.hole .bool,.hole tI,.hole .str,.hole tI,.cap0,.cap0,.cap0],.box [.hole tI,.hole .bool,.hole tI,.hole .str,.hole tI,.arr 6,.cap0,.cap0],.arr tI,.arr (.nm 9)]] [] [(.via 10 5,.nm 9)]
def PN:=lE 1 [(0,hP 0 0),(4,hP 2 0),(6,hP 3 0),(8,hh tLS),(10,hP 4 0),(14,hh tI)] [.box [.hole (tL 6),.arr 5,.hole tLI,.hole tI],.gone,.brow 6,.box [.hole tI,.hole .bool,.hole tI,.hole .str,.hole tI,.cap0,.cap0,.cap0],.box [.hole tI,.hole .bool,.hole tI,.hole .str,.hole tI,.arr 6,.cap0,.cap0],.arr tI,.arr (.nm 9)] [oE .ret [(6,hP 2 0),(7,hh .bool)] [.box [.hole (tL 6),.arr 3,.arr 4,.hole tI],.gone,.brow 9,.arr tI,.arr tI],oE (.exit 2) [(0,hP 0 0),(4,hP 2 0),(6,hP 3 0),(8,hh tLS),(10,hP 4 0)] [.box [.hole (tL 6),.arr 5,.hole tLI,.hole tI],.gone,.brow 6,.box [.hole tI,.hole .bool,.hole tI,.hole .str,.hole tI,.cap0,.cap0,.cap0],.box [.hole tI,.hole .bool,.hole tI,.hole .str,.hole tI,.arr 6,.cap0,.cap0],.arr tI,.arr (.nm 9)]]
def PO:=lE 2 [(0,hP 0 0),(4,hP 2 0),(6,hP 3 0),(8,hh tLS),(10,hP 4 0),(15,hh tI)] [.box [.hole (tL 6),.arr 5,.hole tLI,.hole tI],.gone,.brow 6,.box [.hole tI,.hole .bool,.hole tI,.hole .str,.hole tI,.cap0,.cap0,.cap0],.box [.hole tI,.hole .bool,.hole tI,.hole .str,.hole tI,.arr 6,.arr 7,.cap0],.arr tI,.arr (.nm 9),.arr (.nm 9)] [oE .ret [(6,hP 2 0),(7,hh .bool)] [.box [.hole (tL 6),.arr 3,.hole tLI,.hole tI],.gone,.brow 9,.arr tI],oE (.exit 4) [(6,hP 2 0),(10,hP 3 0)] [.box [.hole (tL 6),.arr 4,.hole tLI,.hole tI],.gone,.box [.hole tI,.hole .bool,.hole tI,.hole .str,.hole tI,.cap0,.cap0,.cap0],.box [.hole tI,.hole .bool,.hole tI,.hole .str,.hole tI,.arr 5,.arr 6,.cap0],.arr tI,.arr (.nm 9),.arr (.nm 9)]] [] [(.via 10 6,.nm 9)]
def e214:=fE 214 [hP 0 0,.row 6,hh .str] (.tup [.row 9,hh .bool]) [PH,PN,PO] [.box [.hole (tL 6),.arr 1,.hole tLI,.hole tI],.arr tI] [.box [.hole (tL 6),.arr 2,.hole tLI,.hole tI],.gone,.arr tI]
def PS:=lE 0 [(4,.c (.arr 0)),(5,hh (.int .u64)),(6,hh .str)] [.arr (.nm 15)] [oE .ret [(2,.c (.cap0)),(3,hh tI)],oE (.exit 0) [(4,.c (.arr 0))] [.arr (.nm 15)]] [] [(.slot 4,.nm 15)]
def e281:=fE 281 [hh .str] (.tup [hh (tL 15),hh tI]) [PS]
def e283:=fE 283 [.row 15,hP 0 0] (hh .bool) [] [.brow 8] [.brow 8]
def PT:=lE 0 [(0,hh (tL 15)),(1,.c (.fn 283 [0])),(7,hh tI),(8,hh tI)] [.brow 8] [oE .ret [(4,hh tI)] [.brow 8],oE (.exit 0) [] [.brow 8]]
def e282:=fE 282 [hh (tL 15),.c (.fn 283 [0])] (hh tI) [PT] [.brow 8] [.brow 8]
def PU:=lE 0 [(1,hP 0 0),(2,hP 1 0),(20,.c (.arr 2)),(21,hh tI),(22,hh tI)] [.box [.hole tI,.hole .bool,.hole tI,.hole .str,.hole tI,.arr 2,.arr 3,.arr 4],.box [.hole tI,.hole .bool,.hole tI,.hole .str,.hole tI,.cap0,.cap0,.cap0],.arr (.nm 9),.arr (.nm 9),.arr (.nm 10)] [oE (.exit 0) [(1,hP 0 0),(2,hP 1 0)] [.box [.hole tI,.hole .bool,.hole tI,.hole .str,.hole tI,.arr 2,.arr 3,.arr 4],.box [.hole tI,.hole .bool,.hole tI,.hole .str,.hole tI,.cap0,.cap0,.cap0],.arr (.nm 9),.arr (.nm 9),.arr (.nm 10)]]
def PV:=lE 1 [(1,hP 0 0),(2,hP 1 0),(35,.c (.arr 2)),(36,hh tI),(37,hh tI)] [.box [.hole tI,.hole .bool,.hole tI,.hole .str,.hole tI,.arr 3,.arr 2,.arr 4],.box [.hole tI,.hole .bool,.hole tI,.hole .str,.hole tI,.cap0,.cap0,.cap0],.arr (.nm 9),.arr (.nm 9),.arr (.nm 10)] [oE (.exit 2) [(1,hP 0 0),(2,hP 1 0)] [.box [.hole tI,.hole .bool,.hole tI,.hole .str,.hole tI,.arr 2,.arr 3,.arr 4],.box [.hole tI,.hole .bool,.hole tI,.hole .str,.hole tI,.cap0,.cap0,.cap0],.arr (.nm 9),.arr (.nm 9),.arr (.nm 10)]]
def e284:=fE 284 [.row 9] (.row 9) [PU,PV]
def PW:=lE 0 [(0,hP 0 0),(4,hP 2 0),(6,hP 3 0),(8,hh (tL 15)),(10,hP 4 0),(39,hh (tL 8)),(40,hh tI),(41,hh tI)] [.box [.hole (tL 6),.arr 5,.hole tLI,.hole tI],.gone,.brow 6,.box [.hole tI,.hole .bool,.hole tI,.hole .str,.hole tI,.cap0,.cap0,.cap0],.box [.hole tI,.hole .bool,.hole tI,.hole .str,.hole tI,.cap0,.arr 6,.cap0],.arr tI,.arr (.nm 9)] [oE .ret [(6,hP 2 0),(7,hh .bool)] [.box [.hole (tL 6),.arr 3,.hole tLI,.hole tI],.gone,.brow 9,.arr tI],oE (.exit 0) [(0,hP 0 0),(4,hP 2 0),(6,hP 3 0),(8,hh (tL 15)),(10,hP 4 0)] [.box [.hole (tL 6),.arr 5,.hole tLI,.hole tI],.gone,.brow 6,.box [.hole tI,.hole .bool,.hole tI,.hole .str,.hole tI,.cap0,.cap0,.cap0],.box [.hole tI,.hole .bool,.hole tI,.hole .str,.hole tI,.cap0,.arr 6,.cap0],.arr tI,.arr (.nm 9)]] [] [(.via 10 6,.nm 9)]
def PX:=lE 1 [(0,hP 0 0),(4,hP 2 0),(6,hP 3 0),(10,hP 4 0),(117,hh (tL 15)),(118,hh tI),(119,hh tI)] [.box [.hole (tL 6),.arr 5,.hole tLI,.hole tI],.gone,.brow 6,.box [.hole tI,.hole .bool,.hole tI,.hole .str,.hole tI,.cap0,.cap0,.cap0],.box [.hole tI,.hole .bool,.hole tI,.hole .str,.hole tI,.cap0,.arr 6,.arr 7],.arr tI,.arr (.nm 9),.arr (.nm 10)] [oE .ret [(6,hP 2 0),(7,hh .bool)] [.box [.hole (tL 6),.arr 3,.arr 4,.hole tI],.gone,.brow 9,.arr tI,.arr tI],oE (.exit 3) [(6,hP 2 0),(10,hP 3 0)] [.box [.hole (tL 6),.arr 4,.hole tLI,.hole tI],.gone,.box [.hole tI,.hole .bool,.hole tI,.hole .str,.hole tI,.cap0,.cap0,.cap0],.box [.hole tI,.hole .bool,.hole tI,.hole .str,.hole tI,.cap0,.arr 5,.arr 6],.arr tI,.arr (.nm 9),.arr (.nm 10)]] [] [(.via 10 7,.nm 10)]
def e215:=fE 215 [hP 0 0,.row 6,hh .str] (.tup [.row 9,hh .bool]) [PW,PX] [.box [.hole (tL 6),.arr 1,.hole tLI,.hole tI],.arr tI] [.box [.hole (tL 6),.arr 2,.hole tLI,.hole tI],.gone,.arr tI]
def e148:=fE 148 [hP 0 0,hh tI,hh .str] (.tup [.row 9,hh .bool]) [] [.box [.hole (tL 6),.arr 1,.hole tLI,.hole tI],.arr tI] [.box [.hole (tL 6),.arr 2,.hole tLI,.hole tI],.gone,.arr tI]
def e100:=fE 100 [.row 11,hh tI,hh .str] (.tup [.row 9,.row 16,hh tI])
def e53:=fE 53 [.row 11,hh tI,hh .str] (.tup [.row 9,hh tI])
def e22:=fE 22 [.row 12,.row 12,hh .str] (hh .bool)
def e20_0:=lE 0 [(2,hh (tL 5)),(7,hP 0 0),(8,hh tI)] [.box [.hole (tL 6),.hole tI,.hole (tL 6),.hole tI]] [oR 6 .bool,oE (.exit 0) [(2,hh (tL 5)),(7,hP 0 0)] [.box [.hole (tL 6),.hole tI,.hole (tL 6),.hole tI]]]
def e20:=fE 20 [.row 12,.row 12,hh (tL 5)] (hh .bool) [e20_0]
def e99:=fE 99 [.row 5] (hh .bool)
def e92_0:=lE 0 [(0,hh (tL 5)),(1,.c (.fn 99 [])),(7,hh tI),(8,hh tI)] [] [oR 4 tI,oX 0]
def e92:=fE 92 [hh (tL 5),.c (.fn 99 [])] (hh tI) [e92_0]
def e42:=fE 42 [hh (tL 5),.c (.fn 99 [])] (hh .bool)
def e52:=fE 52 [.row 17] (hh .bool)
def e18:=fE 18 [.row 12,.row 12,.row 17] (hh .bool)
def e127:=fE 127 [hP 0 0,hh (.int .u8)] (.c (.dead)) [] [.bld 116 ((.bufc 1)),.buf 5] [.bld 116 ((.bufc 2)),.gone,.buf 5]
def e68_0:=lE 0 [(0,hh .str),(3,hP 0 0),(8,hh tI),(9,hh tI)] [.bld 116 ((.bufc 1)),.buf 5] [oE (.exit 0) [(3,hP 0 0)] [.bld 116 ((.bufc 1)),.buf 5]]
def e68:=fE 68 [hh .str] (hh .str) [e68_0]
def e29_0:=lE 0 [(3,hP 0 0),(21,hh (tL 5)),(22,hh tI),(23,hh tI)] [.bld 116 ((.bufc 1)),.buf 5] [oE (.exit 1) [(3,hP 0 0)] [.bld 116 ((.bufc 1)),.buf 5]]
def e29:=fE 29 [.row 17] (hh .str) [e29_0]
def e12:=fE 12 [] (hh .bool)
def e239:=fE 239 [.row 6] (.row 6)
def oL:=lE 0 [(0,hh (tL 9)),(1,hh (tL 9)),(5,hh tI)] [] [oR 4 .bool,oX 0]
def e183:=fE 183 [hh (tL 9),hh (tL 9)] (hh .bool) [oL]
def De:=lE 0 [(2,hP 0 0),(3,hP 1 0),(5,hh tI)] [.brow 9,.brow 9] [oR 4 .bool,oE (.exit 0) [(2,hP 0 0),(3,hP 1 0)] [.brow 9,.brow 9]]
def e118:=fE 118 [.row 9,.row 9] (hh .bool) [De]
def e295:=fE 295 [.row 8,.row 8] (hh .bool)
def Df:=lE 0 [(2,hP 0 0),(3,hP 1 0),(5,hh tI)] [.brow 6,.brow 6] [oR 4 .bool,oE (.exit 0) [(2,hP 0 0),(3,hP 1 0)] [.brow 6,.brow 6]]
def Dg:=lE 1 [(2,hP 0 0),(3,hP 1 0),(6,hh tI)] [.brow 6,.brow 6] [oR 4 .bool,oX 2]
def e238:=fE 238 [.row 6,.row 6] (hh .bool) [Df,Dg]
def e296:=fE 296 [hh (.int .u8)] (hh .bool)
def e297:=fE 297 [hh (.int .u8)] (hh .bool)
def Dh:=lE 0 [(0,hh .str),(3,hh tI)] [] [oR 2 .bool,oX 0]
def e240:=fE 240 [hh .str] (hh .bool) [Dh]
def e298:=fE 298 [hh tI,hh tI] (hh .bool)
def AP:=lE 0 [(0,hh (tL 7)),(4,hh tI),(5,hh tI)] [] [oR 2 .bool,oE (.exit 2) [(0,hh (tL 7)),(4,hh tI)]]
def Di:=lE 0 [(0,hh (tL 7)),(3,hh tI),(4,hh tI)] [] [oR 2 .bool,oE (.exit 0) [(0,hh (tL 7))]] [AP]
def e241:=fE 241 [hh (tL 7)] (hh .bool) [Di]
def AQ:=lE 0 [(0,hh (tL 8)),(1,hh .bool),(6,hh tI),(7,hP 0 0),(8,hh tI)] [.brow 8] [oR 4 .bool,oE (.exit 2) [(0,hh (tL 8)),(1,hh .bool),(6,hh tI),(7,hP 0 0)] [.brow 8]]
def Dj:=lE 0 [(0,hh (tL 8)),(1,hh .bool),(5,hh tI),(6,hh tI)] [] [oR 4 .bool,oE (.exit 0) [(0,hh (tL 8)),(1,hh .bool)]] [AQ]
def e242:=fE 242 [hh (tL 8),hh .bool] (hh .bool) [Dj]
def e167:=fE 167 [.row 6] (hh .bool)
def Dk:=lE 0 [(1,hP 0 0),(3,.c (.arr 1)),(4,hh tI)] [.brow 6,.arr tI] [oE (.exit 0) [(1,hP 0 0),(3,.c (.arr 1))] [.brow 6,.arr tI]] [] [(.slot 3,tI)]
def e168:=fE 168 [.row 6] (hh tLI) [Dk]
def AS:=lE 0 [(1,hP 0 0),(3,hh tI),(4,hP 1 0),(5,hh tI)] [bb (tL 6),.box [.hole tI,.hole .str,.hole tI,.hole tI,.hole tI,.hole (tL 7),.hole (tL 8),.hole tI,.hole tI,.hole .bool]] [oR 2 tI,oE (.exit 2) [(1,hP 0 0),(3,hh tI),(4,hP 1 0)] [bb (tL 6),.box [.hole tI,.hole .str,.hole tI,.hole tI,.hole tI,.hole (tL 7),.hole (tL 8),.hole tI,.hole tI,.hole .bool]]]
def AT:=lE 1 [(1,hP 0 0),(3,hh tI),(4,hP 1 0),(6,hh tLI),(7,hh tI)] [bb (tL 6),.box [.hole tI,.hole .str,.hole tI,.hole tI,.hole tI,.hole (tL 7),.hole (tL 8),.hole tI,.hole tI,.hole .bool]] [oR 2 tI,oE (.exit 4) [(1,hP 0 0),(3,hh tI),(4,hP 1 0)] [bb (tL 6),.box [.hole tI,.hole .str,.hole tI,.hole tI,.hole tI,.hole (tL 7),.hole (tL 8),.hole tI,.hole tI,.hole .bool]]]
def Dl:=lE 0 [(1,hP 0 0),(3,hh tI)] [bb (tL 6)] [oR 2 tI,oX 0] [AS,AT]
def e106:=fE 106 [.row 11] (hh tI) [Dl]
def e177:=fE 177 [.row 9] (hh .bool)
def Dm:=lE 0 [(1,hh tI),(2,hP 0 0),(6,hh tI)] [.brow 6] [oE .ret [(4,hh tI),(5,hh .bool)],oX 0]
def e122:=fE 122 [.row 6,hh tI] (.tup [hh tI,hh .bool]) [Dm]
def e178:=fE 178 [hh tI,hh .bool] (hh .bool)
def e98_0:=lE 0 [(1,hh tI),(2,hP 0 0),(6,hh tI)] [.brow 6] [oE .ret [(4,hh tI),(5,hh .bool)],oX 0]
def e98:=fE 98 [.row 6,hh tI] (.tup [hh tI,hh .bool]) [e98_0]
def Dn:=lE 0 [(1,hh (tL 10)),(2,hP 0 0),(5,hh tI)] [.brow 6] [oR 4 .bool,oX 0]
def e179:=fE 179 [.row 6,hh (tL 10)] (hh .bool) [Dn]
def oM:=lE 0 [(1,hh tI),(2,hh (tL 9)),(3,hh .bool),(4,hP 0 0),(9,hh tI)] [bb (tL 6)] [oR 8 .bool,oX 0]
def e180:=fE 180 [.row 11,hh tI,hh (tL 9),hh .bool] (hh .bool) [oM]
def e252:=fE 252 [hh .bool,hh .bool] (hh tI)
def e115:=fE 115 [hh tI] (hh (.int .u64))
def e181:=fE 181 [.row 9,.row 9] (hh tI)
def oN:=lE 0 [(3,hh .bool),(4,hP 0 0),(6,hP 1 0),(9,hP 2 0),(12,hh tI)] [bb (tL 6),.brow 9,.box [.hole tI,.hole .str,.hole tI,.hole tI,.hole tI,.hole (tL 7),.hole (tL 8),.hole tI,.hole tI,.hole .bool]] [oR 8 .bool,oX 1]
def Dp:=lE 1 [(6,hP 0 0),(15,hh tI)] [.brow 9] [oR 8 .bool,oX 3]
def e109:=fE 109 [.row 11,hh tI,.row 9,hh .bool] (hh .bool) [oN,Dp]
def e59:=fE 59 [.row 11,hh tI,.row 9] (hh .bool)
def AU:=lE 0 [(1,hP 0 0),(6,hh tI),(7,hh (tL 8)),(8,hh tI)] [bb (tL 6)] [oE .ret [(2,hh tI),(3,hh tI),(4,hh tI)],oE (.exit 2) [(1,hP 0 0),(6,hh tI)] [bb (tL 6)]]
def Dq:=lE 0 [(1,hP 0 0),(6,hh tI)] [bb (tL 6)] [oE .ret [(2,hh tI),(3,hh tI),(4,hh tI)],oX 0] [AU]
def e318:=fE 318 [.row 11] (.tup [hh tI,hh tI,hh tI]) [Dq]
def e273:=fE 273 [.row 11] (hh tI)
def Dr:=lE 0 [(1,.c (.arr 0)),(2,hP 1 0),(5,hh tI),(6,hh tI)] [.arr tI,.brow 6] [oE (.exit 1) [(5,hh tI)] [.arr tI]]
def Ds:=lE 1 [(1,.c (.arr 0)),(2,hP 1 0),(7,hh tI),(8,hh tI)] [.arr tI,.brow 6] [oE (.exit 3) [(7,hh tI)] [.arr tI]]
def e319:=fE 319 [.row 6,.c (.arr 0)] (hh tI) [Dr,Ds] [.arr tI] [.arr tI]
def AV:=lE 0 [(1,hP 0 0),(3,.c (.arr 1)),(4,hh tI),(5,hh tI)] [bb (tL 6),.arr tI] [oE (.exit 2) [(1,hP 0 0),(3,.c (.arr 1)),(4,hh tI)] [bb (tL 6),.arr tI]]
def Dt:=lE 0 [(1,hP 0 0),(3,.c (.arr 1)),(4,hh tI)] [bb (tL 6),.arr tI] [oE (.exit 0) [(3,.c (.arr 0))] [.arr tI]] [AV]
def e274:=fE 274 [.row 11] (hh tLI) [Dt]
def Du:=lE 0 [(5,hh tLI),(6,.c (.arr 0)),(7,hh tI)] [.arr .bool] [oE (.exit 0) [(6,.c (.arr 0))] [.arr .bool]] [] [(.slot 6,.bool)]
def e204:=fE 204 [.row 11] (.tup [hh (.slice .bool),hh tI]) [Du]
def Dv:=lE 0 [(3,hh (.slice .bool)),(5,hh tI)] [] [oR 2 tI,oX 0]
def e145:=fE 145 [.row 11] (hh tI) [Dv]
def e94:=fE 94 [.row 11,hh tI] (hh tI)
def e45:=fE 45 [.row 12,.row 12] (hh tI)
def BS:=lE 0 [(0,hh (tL 5)),(3,hP 0 0),(5,hh tI)] [.brow 5] [oR 4 .bool,oX 0]
def e47_a:=fE 47 [hh (tL 5),.row 5] (hh .bool) [BS]
def BT:=lE 0 [(0,.c (.arr 0)),(3,hP 1 0),(5,hh tI)] [.arr (.nm 5),.brow 5] [oE .ret [(4,hh .bool)] [.arr (.nm 5)],oE (.exit 0) [] [.arr (.nm 5)]]
def e47_b:=fE 47 [.c (.arr 0),.row 5] (hh .bool) [BT] [.arr (.nm 5)] [.arr (.nm 5)]
def e50_0:=lE 0 [(9,hP 0 0),(10,hP 1 0),(11,.c (.arr 2)),(12,hh tI)] [.brow 6,.brow 6,.arr (.nm 5)] [oE (.exit 0) [(9,hP 0 0),(10,hP 1 0),(11,.c (.arr 2))] [.brow 6,.brow 6,.arr (.nm 5)]] [] [(.slot 11,.nm 5)]
def e50_1:=lE 1 [(11,.c (.arr 0)),(15,.c (.arr 1)),(16,hh tI)] [.arr (.nm 5),.arr (.nm 5)] [oE (.exit 2) [(15,.c (.arr 0))] [.arr (.nm 5)]] [] [(.slot 15,.nm 5)]
def e50:=fE 50 [.row 11,hh tI,.row 11,hh tI] (hh (tL 5)) [e50_0,e50_1]
def BU:=lE 0 [(4,hP 0 0),(6,hP 1 0),(9,.c (.arr 2)),(10,hh tI),(11,hh (tL 5)),(12,hh tI)] [bb (tL 6),bb (tL 6),.arr (.nm 5)] [oE (.exit 2) [(4,hP 0 0),(6,hP 1 0),(9,.c (.arr 2)),(10,hh tI)] [bb (tL 6),bb (tL 6),.arr (.nm 5)]]
def e51_0:=lE 0 [(4,hP 0 0),(6,hP 1 0),(9,.c (.arr 2)),(10,hh tI)] [bb (tL 6),bb (tL 6),.arr (.nm 5)] [oE (.exit 0) [(9,.c (.arr 0))] [.arr (.nm 5)]] [BU]
def e51:=fE 51 [.row 11,hh tI,.row 11,hh tI] (hh (tL 5)) [e51_0]
def e95_0:=lE 0 [(1,hP 0 0),(3,hh tI),(4,hh tI)] [.brow 6] [oE (.exit 1) [(3,hh tI)]]
def e95:=fE 95 [.row 6] (hh tI) [e95_0]
def e96_0:=lE 0 [(2,hP 0 0),(3,hP 1 0),(5,hh tI)] [.brow 6,.brow 6] [oR 4 .bool,oE (.exit 0) [(2,hP 0 0),(3,hP 1 0)] [.brow 6,.brow 6]]
def e96_1:=lE 1 [(2,hP 0 0),(3,hP 1 0),(8,hh tI)] [.brow 6,.brow 6] [oR 4 .bool,oX 2]
def e96:=fE 96 [.row 6,.row 6] (hh .bool) [e96_0,e96_1]
def e120:=fE 120 [.row 11,hh tI] (hh tI)
def e65:=fE 65 [.row 11,hh tI,.row 9,.row 11,hh tI] (hh tI)
def e121:=fE 121 [hh tLI] (.row 18)
def Dw:=lE 0 [(0,hh (.int .u64)),(3,hh .str)] [] [oE (.exit 0) [(3,hh .str)]]
def e114:=fE 114 [hh (.int .u64)] (hh .str) [Dw]
def Dx:=lE 0 [(0,hh (.int .u64)),(3,.c (.arr 0))] [.arr (.int .u8)] [oE (.exit 0) [(0,hh (.int .u64)),(3,.c (.arr 0))] [.arr (.int .u8)]] [] [(.slot 3,.int .u8)]
def e116:=fE 116 [hh (.int .u64)] (hh .str) [Dx]
def e117:=fE 117 [hh .str] (hh .str)
def e119:=fE 119 [hh tI,hh .bool,hh .str] (hh .str)
def BV:=lE 0 [(3,hP 0 0),(5,hP 1 0),(7,hP 2 0),(14,hh .str),(15,hh tI),(19,hh tI)] [bb (tL 6),.brow 9,.brow 6] [oE (.exit 7) [(3,hP 0 0),(5,hP 1 0),(7,hP 2 0),(14,hh .str),(15,hh tI)] [bb (tL 6),.brow 9,.brow 6]]
def e63_0:=lE 0 [(3,hP 0 0),(5,hP 1 0),(7,hP 2 0),(10,hh .str),(11,hh tI)] [bb (tL 6),.brow 9,.brow 6] [oE (.exit 1) [(10,hh .str)]]
def e63_1:=lE 1 [(3,hP 0 0),(5,hP 1 0),(7,hP 2 0),(12,hh .str),(13,hh tI)] [bb (tL 6),.brow 9,.brow 6] [oE (.exit 3) [(12,hh .str)]]
def e63_2:=lE 2 [(3,hP 0 0),(5,hP 1 0),(7,hP 2 0),(14,hh .str),(15,hh tI)] [bb (tL 6),.brow 9,.brow 6] [oE (.exit 5) [(14,hh .str)]] [BV]
def e63:=fE 63 [.row 11,hh tI,.row 9] (hh .str) [e63_0,e63_1,e63_2]
def e126:=fE 126 [.row 9] (.row 18)
def e125:=fE 125 [hh tLI,hh tI] (hh tLI)
def e123:=fE 123 [.row 11,.row 6,.row 9,.row 11,.row 6,hh tLI] (.row 18)
def e205:=fE 205 [.row 9,.row 9] (hh .bool)
def e184:=fE 184 [.row 8,.row 9] (hh .bool)
def oO:=lE 0 [(5,hh tLI),(6,hP 0 0),(7,hP 1 0),(8,hP 2 0),(9,hP 3 0),(10,hP 4 0),(12,hP 5 0),(13,hP 6 0),(14,hh tI)] [bb (tL 6),.brow 6,.brow 9,bb (tL 6),.brow 6,.box [.hole tI,.hole .bool,.hole tI,.hole .str,.hole tI,.cap0,.cap0,.cap0,.cap0,.hole .bool],.box [.hole tI,.hole .bool,.hole tI,.hole .str,.hole tI,.cap0,.arr 7,.cap0],.arr (.nm 9)] [oE .ret [(12,hP 0 0)] [.brow 18],oE (.exit 0) [(5,hh tLI),(6,hP 0 0),(7,hP 1 0),(8,hP 2 0),(10,hP 3 0),(12,hP 4 0),(13,hP 5 0)] [bb (tL 6),.brow 6,.brow 9,.brow 6,.box [.hole tI,.hole .bool,.hole tI,.hole .str,.hole tI,.cap0,.cap0,.cap0,.cap0,.hole .bool],.box [.hole tI,.hole .bool,.hole tI,.hole .str,.hole tI,.cap0,.arr 6,.cap0],.arr (.nm 9)]] [] [(.via 13 6,.nm 9)]
def Dy:=lE 1 [(5,hh tLI),(6,hP 0 0),(7,hP 1 0),(8,hP 2 0),(10,hP 3 0),(12,hP 4 0),(13,hP 5 0),(20,hh tI)] [bb (tL 6),.brow 6,.brow 9,.brow 6,.box [.hole tI,.hole .bool,.hole tI,.hole .str,.hole tI,.cap0,.cap0,.cap0,.cap0,.hole .bool],.box [.hole tI,.hole .bool,.hole tI,.hole .str,.hole tI,.cap0,.arr 6,.arr 7],.arr (.nm 9),.arr (.nm 10)] [oE .ret [(12,hP 0 0)] [.brow 18],oE (.exit 2) [(12,hP 0 0),(13,hP 1 0)] [.box [.hole tI,.hole .bool,.hole tI,.hole .str,.hole tI,.cap0,.cap0,.cap0,.cap0,.hole .bool],.box [.hole tI,.hole .bool,.hole tI,.hole .str,.hole tI,.cap0,.arr 2,.arr 3],.arr (.nm 9),.arr (.nm 10)]] [] [(.via 13 7,.nm 10)]
def e124:=fE 124 [.row 11,.row 6,.row 9,.row 11,.row 6,hh tLI] (.row 18) [oO,Dy]
def e66_0:=lE 0 [(5,hh tLI),(6,hP 0 0),(8,hP 1 0),(9,hP 2 0),(12,hP 3 0),(13,hP 4 0),(14,hP 5 0),(17,hP 6 0),(18,hh tI)] [bb (tL 6),.brow 9,bb (tL 6),.box [.hole tI,.hole .bool,.hole tI,.hole .str,.hole tI,.cap0,.cap0,.cap0,.cap0,.hole .bool],.brow 6,.brow 6,.box [.hole tI,.hole .bool,.hole tI,.hole .str,.hole tI,.arr 7,.cap0,.hole (tL 10)],.arr (.nm 9)] [oE .ret [(12,hP 0 0)] [.brow 18],oE (.exit 0) [(5,hh tLI),(6,hP 0 0),(8,hP 1 0),(9,hP 2 0),(12,hP 3 0),(13,hP 4 0),(14,hP 5 0),(17,hP 6 0)] [bb (tL 6),.brow 9,bb (tL 6),.box [.hole tI,.hole .bool,.hole tI,.hole .str,.hole tI,.cap0,.cap0,.cap0,.cap0,.hole .bool],.brow 6,.brow 6,.box [.hole tI,.hole .bool,.hole tI,.hole .str,.hole tI,.arr 7,.cap0,.hole (tL 10)],.arr (.nm 9)]] [] [(.via 17 5,.nm 9)]
def e66_1:=lE 1 [(5,hh tLI),(6,hP 0 0),(8,hP 1 0),(9,hP 2 0),(12,hP 3 0),(13,hP 4 0),(14,hP 5 0),(17,hP 6 0),(20,hh tI)] [bb (tL 6),.brow 9,bb (tL 6),.box [.hole tI,.hole .bool,.hole tI,.hole .str,.hole tI,.cap0,.cap0,.cap0,.cap0,.hole .bool],.brow 6,.brow 6,.box [.hole tI,.hole .bool,.hole tI,.hole .str,.hole tI,.arr 7,.arr 8,.hole (tL 10)],.arr (.nm 9),.arr (.nm 9)] [oE .ret [(12,hP 0 0)] [.brow 18],oE (.exit 2) [(12,hP 0 0),(17,hP 1 0)] [.box [.hole tI,.hole .bool,.hole tI,.hole .str,.hole tI,.cap0,.cap0,.cap0,.cap0,.hole .bool],.box [.hole tI,.hole .bool,.hole tI,.hole .str,.hole tI,.arr 2,.arr 3,.hole (tL 10)],.arr (.nm 9),.arr (.nm 9)]] [] [(.via 17 6,.nm 9)]
def e66:=fE 66 [.row 11,hh tI,.row 9,.row 11,hh tI,hh tLI] (.row 18) [e66_0,e66_1]
def e26:=fE 26 [.row 11,hh tI,.row 9,.row 11,hh tI] (.tup [.row 9,hh tI])
def e146:=fE 146 [.row 11,hh tI,.row 9,.row 11,hh tI,.row 9] (hh .bool)
def e97_0:=lE 0 [(4,hP 0 0),(5,hP 1 0),(6,hP 2 0),(7,hP 3 0),(9,hh tI)] [bb (tL 6),.brow 6,bb (tL 6),.brow 6] [oR 8 tI,oE (.exit 0) [(5,hP 0 0),(7,hP 1 0)] [.brow 6,.brow 6]]
def e97_1:=lE 1 [(5,hP 0 0),(7,hP 1 0),(13,hh tI)] [.brow 6,.brow 6] [oR 8 tI,oX 2]
def e97:=fE 97 [.row 11,.row 6,.row 11,.row 6] (hh tI) [e97_0,e97_1]
def e49:=fE 49 [.row 11,hh tI,.row 11,hh tI] (hh tI)
def e46_0:=lE 0 [(4,hP 0 0),(6,hP 1 0),(9,hh (tL 5)),(10,hh tI)] [bb (tL 6),bb (tL 6)] [oR 8 .bool,oX 0]
def e46:=fE 46 [.row 11,hh tI,.row 11,hh tI] (hh .bool) [e46_0]
def e15:=fE 15 [.row 12,.row 12] (.tup [hh .bool,hh tI])
def e3:=fE 3 [.row 0,hh (tL 5)] (hh .bool)
def e21_0:=lE 0 [(2,hh (tL 5)),(3,hP 0 0),(4,hP 1 0),(7,hh tI)] [.brow 12,.brow 12] [oR 6 .bool,oE (.exit 0) [(2,hh (tL 5)),(3,hP 0 0),(4,hP 1 0)] [.brow 12,.brow 12]]
def e21:=fE 21 [.row 12,.row 12,hh (tL 5)] (hh .bool) [e21_0]
def e5:=fE 5 [.row 0,hh (tL 5)] (hh .bool)
def e6:=fE 6 [.row 0,hh .str] (hh .bool)
def e7:=fE 7 [.row 20] (hh .bool)
def e8:=fE 8 [.row 12,.row 12,.row 17] (hh .bool)
def tabE0:List FEnt:=[e90_b,e38_b,e36,e324,e316,rQ,e327,e326,e325,e278,e320,e321,e275,e322,e276,e323,e277,e206,e207,e147]
def tabE1:List FEnt:=[e216,e149,e218,e217,e150,e151,e220,e219,e152,e222,e285,e221,e153,e158,e286,e223,e287,e225,e288,e226]
def tabE2:List FEnt:=[e224,e154,e101,e54,e270,e197,e271,e198,e141,e89,e37,e90_a,e38_a,e39,e40,e199,e142,e200,e201,e162]
def tabE3:List FEnt:=[e104,e163,e233,e234,e235,rR,e272,e236,e231,e161,e228,e293,e294,e155,e156,e102,e157,e227,e69,e71]
def tabE4:List FEnt:=[e159,e160,e103,e55,e237,e164,e165,e166,e105,e56,e202,e143,e91,e41,e203,e144,e93,e43,e208,e209]
def tabE5:List FEnt:=[e210,e211,e346,e328,e279,e212,e329,e280,e213,e214,e281,e283,e282,e284,e215,e148,e100,e53,e22,e20]
def tabE6:List FEnt:=[e99,e92,e42,e52,e18,e127,e68,e29,e12]
def tabE:List FEnt:=tabE0++tabE1++tabE2++tabE3++tabE4++tabE5++tabE6
theorem fc:tabE.all (okE prog)=true:=by kernel_rfl
def dH:FSpec Un:={sO with F:=sortK (α:=Un.D 14) sortLt}
theorem eO:FnC prog dH:=⟨sP.1,λh r hr=>sP.2 h r (NM sortSWO _ r hr)⟩
noncomputable def kb:FSpec Un:=e13.s (relF (evF prog tabE [cZ,de,df,dH,dj,dh] 3000 e37) (evF prog tabE [cZ,de,df,dH,dj,dh] 3000 e38_a) (evF prog tabE [cZ,de,df,dH,dj,dh] 3000 e39) (evF prog tabE [cZ,de,df,dH,dj,dh] 3000 e40) (evF prog tabE [cZ,de,df,dH,dj,dh] 3000 e41) (evF prog tabE [cZ,de,df,dH,dj,dh] 3000 e43))
theorem l4:FnC prog kb:=PB (.run fc (.k da (.k dw (.k dz (.k eO (.k dE (.k eF .n)))))) (.m (by kernel_rfl)) 3000 λ_=>rfl) (.run fc (.k da (.k dw (.k dz (.k eO (.k dE (.k eF .n)))))) (.m (by kernel_rfl)) 3000 λ_=>rfl) (.run fc (.k da (.k dw (.k dz (.k eO (.k dE (.k eF .n)))))) (.m (by kernel_rfl)) 3000 λ_=>rfl) (.run fc (.k da (.k dw (.k dz (.k eO (.k dE (.k eF .n)))))) (.m (by kernel_rfl)) 3000 λ_=>rfl) (.run fc (.k da (.k dw (.k dz (.k eO (.k dE (.k eF .n)))))) (.m (by kernel_rfl)) 3000 λ_=>rfl) (.run fc (.k da (.k dw (.k dz (.k eO (.k dE (.k eF .n)))))) (.m (by kernel_rfl)) 3000 λ_=>rfl)
def pD(high:Int):Option (aI):=
 some (⟨(⟨[(⟨7,[],0,0,2,[],[],0,1,false⟩:ae),(⟨2,[],0,high,0,[],[],0,0,false⟩:ae)]⟩:au),0⟩:aI)
theorem F4:FC e36 pD:= .fx
noncomputable def iZ:aI×aI×List aw->Option (Bool):=kb.F
theorem FE:FC e13 iZ:=l4
noncomputable def mi:aI×aI×List UInt8->Option (Bool):=evF prog tabE [kb,cZ,de,df,dH,dj,dh] 3000 e22
theorem F5:FC e22 mi:= .run fc (.k l4 (.k da (.k dw (.k dz (.k eO (.k dE (.k eF .n))))))) (.m (by kernel_rfl)) 3000 λ_=>rfl
noncomputable def mD:aI×aI×List aw->Option (Bool):=evF prog tabE [kb,cZ,de,df,dH,dj,dh] 3000 e20
theorem Hh:FC e20 mD:= .run fc (.k l4 (.k da (.k dw (.k dz (.k eO (.k dE (.k eF .n))))))) (.m (by kernel_rfl)) 3000 λ_=>rfl
noncomputable def mz:aI×aI×cB->Option (Bool):=evF prog tabE [kb,cZ,de,df,dH,dj,dh] 3000 e18
theorem GW:FC e18 mz:= .run fc (.k l4 (.k da (.k dw (.k dz (.k eO (.k dE (.k eF .n))))))) (.m (by kernel_rfl)) 3000 λ_=>rfl
noncomputable def jk:cB->Option (List UInt8):=evF prog tabE [kb,cZ,de,df,dH,dj,dh] 3000 e29
theorem GB:FC e29 jk:= .run fc (.k l4 (.k da (.k dw (.k dz (.k eO (.k dE (.k eF .n))))))) (.m (by kernel_rfl)) 3000 λ_=>rfl
def sf(iZ:aI×aI×List aw->Option (Bool))(mi:aI×aI×List UInt8->Option (Bool))(mD:aI×aI×List aw->Option (Bool))(mz:aI×aI×cB->Option (Bool))(jk:cB->Option (List UInt8)):Option (Bool):=
 pD 9>>=λr=>pD 20>>=λr_1=>iZ (r,r_1,[(⟨0,0⟩:aw),(⟨1,1⟩:aw)])>>=λr_2=>some [(⟨0,0⟩:aw),(⟨1,1⟩:aw)]>>=λt18=>if(slR 0 1 t18.length||(!r_2))=true then (if r_2=true then iZ (r,r_1,cutL t18 0 1)else some false)>>=λr_3=>some (bif r_2 then(!r_3)else false)>>=λt22=>(if t22=true then mi (r_1,r,[1,40])else some false)>>=λr_4=>some (bif t22 then r_4 else false)>>=λt27=>(if t27=true then mD (r_1,r,[(⟨0,0⟩:aw),(⟨1,1⟩:aw)])else some false)>>=λr_5=>some (bif t27 then r_5 else false)>>=λt33=>(if t33=true then mz (r_1,r,(⟨false,[],[1,40]⟩:cB))else some false)>>=λr_6=>some (bif t33 then r_6 else false)>>=λt39=>(if t39=true then jk (⟨false,[],[1,40]⟩:cB)else some [])>>=λr_7=>some (bif t39 then decide (r_7=[109,105,115,114,101,97,100,32,34,92,120,48,49,40,34,10])else false)>>=λt44=>(if t44=true then jk (⟨true,[(⟨0,0⟩:aw),(⟨1,1⟩:aw)],[]⟩:cB)else some [])>>=λr_8=>some (bif t44 then decide (r_8=[99,111,109,112,97,116,105,98,108,101,10,48,32,48,10,49,32,49,10])else false)
 else none
noncomputable def sg (_:Unit):Option (Bool):=sf iZ mi mD mz jk
theorem FH:FC e12 sg:= .fx (.k F4 (.k FE (.k F5 (.k Hh (.k GW (.k GB .n))))))
def awS(n:Int):aI:=⟨⟨[⟨7,[],0,0,2,[],[],0,1,false⟩,⟨2,[],0,n,0,[],[],0,0,false⟩]⟩,0⟩
theorem PY(n:Int):pD n=some (awS n):=rfl
theorem ar1:iZ (awS 9,awS 20,[⟨0,0⟩,⟨1,1⟩])=some true:=by kernel_rfl
theorem ar2:iZ (awS 9,awS 20,[⟨0,0⟩])=some false:=by kernel_rfl
theorem am1:mi (awS 20,awS 9,[1,40])=some true:=by kernel_rfl
theorem ap1:mD (awS 20,awS 9,[⟨0,0⟩,⟨1,1⟩])=some true:=by kernel_rfl
theorem ac1:mz (awS 20,awS 9,⟨false,[],[1,40]⟩)=some true:=by kernel_rfl
theorem af1:jk ⟨false,[],[1,40]⟩=some [109,105,115,114,101,97,100,32,34,92,120,48,49,40,34,10]:=by kernel_rfl
theorem af2:jk ⟨true,[⟨0,0⟩,⟨1,1⟩],[]⟩=some [99,111,109,112,97,116,105,98,108,101,10,48,32,48,10,49,32,49,10]:=by kernel_rfl
theorem awB {R:aI×aI×List aw->Option Bool} {M:aI×aI×List UInt8->Option Bool} {P:aI×aI×List aw->Option Bool} {C:aI×aI×cB->Option Bool} {F:cB->Option (List UInt8)}
 (h1:R (awS 9,awS 20,[⟨0,0⟩,⟨1,1⟩])=some true) (h2:R (awS 9,awS 20,[⟨0,0⟩])=some false) (h3:M (awS 20,awS 9,[1,40])=some true) (h4:P (awS 20,awS 9,[⟨0,0⟩,⟨1,1⟩])=some true) (h5:C (awS 20,awS 9,⟨false,[],[1,40]⟩)=some true)
 (h6:F ⟨false,[],[1,40]⟩=some [109,105,115,114,101,97,100,32,34,92,120,48,49,40,34,10]) (h7:F ⟨true,[⟨0,0⟩,⟨1,1⟩],[]⟩=some [99,111,109,112,97,116,105,98,108,101,10,48,32,48,10,49,32,49,10]):sf R M P C F=some true:=by
 have hc:cutL [(⟨0,0⟩:aw),⟨1,1⟩] 0 1=[⟨0,0⟩]:=rfl;unfold sf;simp only[oZ4,oZ3,PY];rw[h1];simp only[oZ3,Bool.not_true,Bool.or_false,if_true,hc];rw[h2,h3,h4];simp only[oZ3,Bool.not_false,cond_true,if_true];rw[h5,h6,h7];rfl
theorem MO:sg ()=some true:=awB ar1 ar2 am1 ap1 ac1 af1 af2
def mj(_:Unit):Option (Bool):=some true
theorem F6:FC e12 mj:=by
 have:sg=mj:=by funext x;exact MO
 rw[<-this];exact FH
theorem vO:mj ()=some true:=rfl
def gX(x_:aW×Int):Option (Int):=
 match x_ with
 |(d,i)=>
 if inR i d.Nodes.length=true then some (addI .i64 1 (wrp .i64 (remI (d.Nodes.getD i.toNat az).Kind 9)))
 else none
theorem l5:FC e82 gX:= .fx
def cn(kind:Int):Option (Bool):=
 some (bif bif decide (kind=4)then true else decide (kind=5)then true else decide (kind=6))
theorem r8:FC e83 cn:= .fx
def fF(x0:aQ):Option (Int):=
 some (subI .i64 (wrp .i64 (remI x0.A 7)) 3)
theorem sw:FC e84 fF:= .fx
def jl(x0:aQ):Option (Int):=
 fF x0>>=λr=>some (addI .i64 r (wrp .i64 (remI x0.B 6)))
theorem we:FC e85 jl:= .fx (.k sw .n)
def fB(x_:Int×aQ×List Int):Option (List Int):=
 match x_ with
 |(i,b_1,b_2)=>
 if decide (i<6)=true then if decide (0<=i)=true then if decide (remI (shrI .u8 b_1.A i) 2=1)=true then some [addI .i64 i 1]>>=λt18=>if room 8 (b_2++t18).length=true then fB (addI .i64 i 1,b_1,b_2++t18)
 else none
 else fB (addI .i64 i 1,b_1,b_2)
 else none
 else some b_2
  partial_fixpoint
theorem FI:LC 86 0 [0] e86_0 fB:= .rx fB.partial_correctness
def eL(x0:aQ):Option (List Int):=
 fB (0,x0,[])>>=λo=>if decide ((o.length:Int)=0)=true then some [1]>>=λt24=>if room 8 (o++t24).length=true then some (o++t24)
 else none
 else some o
theorem wq:FC e86 eL:= .fx .n (.k FI .n)
def l6(kind:Int):Option (Bool):=
 some (decide (7<=kind))
theorem vS:FC e196 l6:= .fx
def ej(x_:Int×Int×List aQ):Option ((Int) ⊕ (Unit)):=
 match x_ with
 |(n,k,b)=>
 if decide (k<n)=true then gX ((⟨b⟩:aW),k)>>=λr_2=>l6 r_2>>=λr_3=>if r_3=true then some (.inl k)
 else ej (n,addI .i64 k 1,b)
 else some (.inr ())
  partial_fixpoint
theorem EC:LC 138 0 [0] CI ej:= .rx ej.partial_correctness (.k l5 (.k vS .n))
def l7(x_:aW×Int×Int):Option (Int):=
 match x_ with
 |(d,i,code)=>
 some (d.Nodes.length:Int)>>=λt12=>if(!(decide (t12=0)))=true then some (remI (wrp .i64 code) t12)>>=λt16=>gX (d,t16)>>=λr=>l6 r>>=λr_1=>if(bif r_1 then true else decide (t16<i))=true then some t16
 else if decide (0<i)=true then if(!(decide (i=0)))=true then some (remI t16 i)
 else none
 else ej (t12,0,d.Nodes)>>=λo=>match o with
 |.inl o_1=>
 some o_1
 |.inr o_2=>
 some (-1)
 else none
theorem FK:FC e138 l7:= .fx (.k l5 (.k vS .n)) (.k EC .n)
def lV(kind:Int):Option (Bool):=
 some (bif decide (1<=kind)then decide (kind<=4)else false)
theorem vP:FC e140 lV:= .fx
def eD(x_:Int×Int×Int×List aQ):Option ((Int) ⊕ (Unit)):=
 match x_ with
 |(code_1,n,k,b)=>
 if decide (k<n)=true then if(!(decide (n=0)))=true then some (remI (addI .i64 (wrp .i64 code_1) k) n)>>=λt21=>gX ((⟨b⟩:aW),t21)>>=λr=>lV r>>=λr_1=>if r_1=true then some (.inl t21)
 else eD (code_1,n,addI .i64 k 1,b)
 else none
 else some (.inr ())
  partial_fixpoint
theorem FL:LC 88 0 [0] e88_0 eD:= .rx eD.partial_correctness (.k l5 (.k vP .n))
def jo(x_:aW×Int):Option (Int):=
 match x_ with
 |(d,code)=>
 eD (code,(d.Nodes.length:Int),0,d.Nodes)>>=λo=>match o with
 |.inl o_1=>
 some o_1
 |.inr o_2=>
 some (-1)
theorem wu:FC e88 jo:= .fx .n (.k FL .n)
def lW(x_:aW×Int×Int):Option (ab×Bool):=
 match x_ with
 |(d,t,code)=>
 if inR t d.Nodes.length=true then some (d.Nodes.getD t.toNat az)>>=λx0=>gX (d,t)>>=λr=>some (decide (r=8))>>=λt21=>(if t21=true then jo (d,0)else some 0)>>=λr_1=>if(bif t21 then decide (r_1<0)else false)=true then some ((⟨7,false,0,[],0,[],[],[]⟩:ab),true)
 else if decide (r=1)=true then some ((⟨r,decide (remI code 2=1),0,[],0,[],[],[]⟩:ab),true)
 else if decide (r=2)=true then fF x0>>=λr_2=>jl x0>>=λr_3=>fF x0>>=λr_4=>some (addI .i64 (subI .i64 r_3 r_4) 1)>>=λt47=>if(!(decide (t47=0)))=true then some ((⟨r,false,addI .i64 r_2 (remI (wrp .i64 code) t47),[],0,[],[],[]⟩:ab),true)
 else none
 else if decide (r=3)=true then if(bif decide (0<remI x0.A 4)then decide (remI code 2=1)else false)=true then some ((⟨r,false,0,[97],0,[],[],[]⟩:ab),true)
 else some ((⟨r,false,0,[],0,[],[],[]⟩:ab),true)
 else if decide (r=4)=true then eL x0>>=λr_5=>eL x0>>=λr_6=>some (r_6.length:Int)>>=λt71=>if(!(decide (t71=0)))=true then some (remI (wrp .i64 code) t71)>>=λt72=>if inR t72 r_5.length=true then some ((⟨r,false,0,[],r_5.getD t72.toNat 0,[],[],[]⟩:ab),true)
 else none
 else none
 else some (decide (r=5))>>=λt77=>if t77=true then if t77=true then some ((⟨0,false,0,[],0,[],[],[]⟩:ab),false)
 else some ((⟨r,false,0,[],0,[],[],[]⟩:ab),true)
 else if decide (r=6)=true then some ((⟨0,false,0,[],0,[],[],[]⟩:ab),false)
 else some ((⟨r,false,0,[],0,[],[],[]⟩:ab),true)
 else none
theorem E2:FC e139 lW:= .fx (.k l5 (.k wu (.k sw (.k we (.k wq .n)))))
def gq(x_:Int×Bool×Int×Int×List aQ×aQ×List av):Option (Int×Bool×Int×List aQ×aQ×List av):=
 match x_ with
 |(i_3,record_3,id_2,k,b_7,b_8,b_9)=>
 if decide (k<(b_8.Parts.length:Int))=true then if inR k b_8.Parts.length=true then some (b_8.Parts.getD k.toNat bW)>>=λx0_1=>l7 ((⟨b_7⟩:aW),i_3,x0_1.Type_)>>=λr=>if(bif (!(decide (addI .i64 1 (wrp .i64 (remI x0_1.ID 12))=id_2)))then true else decide (r<0))=true then gq (i_3,record_3,id_2,addI .i64 k 1,b_7,b_8,b_9)
 else some (eV (wrp .i32 (addI .i64 97 id_2)))>>=λt55=>if decide ([109].length+t55.length<=aX)=true then some ([109]++t55)>>=λt56=>if(bif record_3 then decide (remI x0_1.Flag 4=1)else false)=true then if(bif record_3 then decide (2<=remI x0_1.Flag 4)else false)=true then lW ((⟨b_7⟩:aW),r,quoI .u8 x0_1.Flag 4)>>=λr_1=>some [(⟨id_2,t56,r,true,r_1.2,ab.eta r_1.1⟩:av)]>>=λt87=>if room 160 (b_9++t87).length=true then some (i_3,record_3,id_2,b_7,b_8,b_9++t87)
 else none
 else some [(⟨id_2,t56,r,true,false,(⟨0,false,0,[],0,[],[],[]⟩:ab)⟩:av)]>>=λt87_1=>if room 160 (b_9++t87_1).length=true then some (i_3,record_3,id_2,b_7,b_8,b_9++t87_1)
 else none
 else if(bif record_3 then decide (2<=remI x0_1.Flag 4)else false)=true then lW ((⟨b_7⟩:aW),r,quoI .u8 x0_1.Flag 4)>>=λr_4=>some [(⟨id_2,t56,r,false,r_4.2,ab.eta r_4.1⟩:av)]>>=λt87_2=>if room 160 (b_9++t87_2).length=true then some (i_3,record_3,id_2,b_7,b_8,b_9++t87_2)
 else none
 else some [(⟨id_2,t56,r,false,false,(⟨0,false,0,[],0,[],[],[]⟩:ab)⟩:av)]>>=λt87_3=>if room 160 (b_9++t87_3).length=true then some (i_3,record_3,id_2,b_7,b_8,b_9++t87_3)
 else none
 else none
 else none
 else some (i_3,record_3,id_2,b_7,b_8,b_9)
  partial_fixpoint
theorem En:LC 87 0 [0,0] BN gq:= .rx gq.partial_correctness (.k FK (.k E2 .n))
def gz(x_:Int×Bool×Int×List aQ×aQ×List av):Option (List av):=
 match x_ with
 |(i_1,record_1,id,b_1,b_2,b_3)=>
 if decide (id<=12)=true then gq (i_1,record_1,id,0,b_1,b_2,b_3)>>=λo_1=>gz (o_1.1,o_1.2.1,addI .i64 o_1.2.2.1 1,o_1.2.2.2.1,o_1.2.2.2.2.1,o_1.2.2.2.2.2)
 else some b_3
  partial_fixpoint
theorem ET:LC 87 0 [0] e87_0 gz:= .rx gz.partial_correctness .n (.k En .n)
def jd(x_:aW×Int×Bool):Option (List av):=
 match x_ with
 |(d,i,record)=>
 if inR i d.Nodes.length=true then gz (i,record,1,d.Nodes,d.Nodes.getD i.toNat az,[])>>=λo=>some o
 else none
theorem F7:FC e87 jd:= .fx .n (.k ET .n)
def fy(x_:Int×Int×List Int×Int×List aQ×Int×List UInt8×Int×Int×Int×Int×Int×Bool×List ae×List aO):Option (Int×Int×List aQ×Int×List UInt8×Int×Int×Int×Int×Int×Bool×List ae×List aO):=
 match x_ with
 |(n_3,i_3,l_22,k,b_25,b_26,b_27,b_28,b_29,b_30,b_31,b_32,b_33,b_34,b_35)=>
 if decide (k<(l_22.length:Int))=true then if inR k l_22.length=true then if inR k l_22.length=true then some (eV (wrp .i32 (addI .i64 97 (l_22.getD k.toNat 0))))>>=λt87=>if decide ([115].length+t87.length<=aX)=true then some [(⟨l_22.getD k.toNat 0,[115]++t87⟩:aO)]>>=λt90=>if room 24 (b_35++t90).length=true then fy (n_3,i_3,l_22,addI .i64 k 1,b_25,b_26,b_27,b_28,b_29,b_30,b_31,b_32,b_33,b_34,b_35++t90)
 else none
 else none
 else none
 else none
 else some (n_3,i_3,b_25,b_26,b_27,b_28,b_29,b_30,b_31,b_32,b_33,b_34,b_35)
  partial_fixpoint
theorem E3:LC 34 0 [0,0] BO fy:= .rx fy.partial_correctness
def bm(x_:Int×Int×List aQ×List ae):Option (List ae):=
 match x_ with
 |(n,i,b_1,b_2)=>
 if decide (i<n)=true then if inR i b_1.length=true then some (b_1.getD i.toNat az)>>=λx0=>gX ((⟨b_1⟩:aW),i)>>=λr=>cn r>>=λr_1=>if r_1=true then some (eV (wrp .i32 (addI .i64 65 i)))>>=λt41=>if decide (r=2)=true then fF x0>>=λr_2=>jl x0>>=λr_3=>some [(⟨r,t41,r_2,r_3,0,[],[],0,0,false⟩:ae)]>>=λt167=>if room 120 (b_2++t167).length=true then bm (n,addI .i64 i 1,b_1,b_2++t167)
 else none
 else if decide (r=3)=true then some [(⟨r,t41,0,0,wrp .i64 (remI x0.A 4),[],[],0,0,false⟩:ae)]>>=λt167_1=>if room 120 (b_2++t167_1).length=true then bm (n,addI .i64 i 1,b_1,b_2++t167_1)
 else none
 else if decide (r=4)=true then eL x0>>=λr_4=>fy (n,i,r_4,0,b_1,r,t41,0,0,0,0,0,decide (remI x0.B 2=1),b_2,[])>>=λo_1=>some [(⟨o_1.2.2.2.1,o_1.2.2.2.2.1,o_1.2.2.2.2.2.1,o_1.2.2.2.2.2.2.1,o_1.2.2.2.2.2.2.2.1,o_1.2.2.2.2.2.2.2.2.2.2.2.2,[],o_1.2.2.2.2.2.2.2.2.1,o_1.2.2.2.2.2.2.2.2.2.1,o_1.2.2.2.2.2.2.2.2.2.2.1⟩:ae)]>>=λt167_2=>if room 120 (o_1.2.2.2.2.2.2.2.2.2.2.2.1++t167_2).length=true then bm (o_1.1,addI .i64 o_1.2.1 1,o_1.2.2.1,o_1.2.2.2.2.2.2.2.2.2.2.2.1++t167_2)
 else none
 else if decide (r=5)=true then jd ((⟨b_1⟩:aW),i,true)>>=λr_5=>some [(⟨r,t41,0,0,0,[],r_5,0,0,false⟩:ae)]>>=λt167_3=>if room 120 (b_2++t167_3).length=true then bm (n,addI .i64 i 1,b_1,b_2++t167_3)
 else none
 else if decide (r=6)=true then jd ((⟨b_1⟩:aW),i,false)>>=λr_6=>if decide ((r_6.length:Int)=0)=true then some [(⟨5,t41,0,0,0,[],[],0,0,false⟩:ae)]>>=λt167_4=>if room 120 (b_2++t167_4).length=true then bm (n,addI .i64 i 1,b_1,b_2++t167_4)
 else none
 else some [(⟨r,t41,0,0,0,[],r_6,0,0,decide (remI x0.B 2=1)⟩:ae)]>>=λt167_5=>if room 120 (b_2++t167_5).length=true then bm (n,addI .i64 i 1,b_1,b_2++t167_5)
 else none
 else if decide (r=7)=true then if(!(decide (n=0)))=true then some [(⟨r,t41,0,0,wrp .i64 (remI x0.A 4),[],[],0,remI (wrp .i64 x0.C) n,false⟩:ae)]>>=λt167_6=>if room 120 (b_2++t167_6).length=true then bm (n,addI .i64 i 1,b_1,b_2++t167_6)
 else none
 else none
 else if decide (r=8)=true then some (wrp .i64 (remI x0.A 4))>>=λt135=>jo ((⟨b_1⟩:aW),x0.B)>>=λr_7=>if(!(decide (n=0)))=true then some (remI (wrp .i64 x0.C) n)>>=λt144=>if decide (r_7<0)=true then some [(⟨7,[],0,0,t135,[],[],0,t144,false⟩:ae)]>>=λt167_7=>if room 120 (b_2++t167_7).length=true then bm (n,addI .i64 i 1,b_1,b_2++t167_7)
 else none
 else some [(⟨r,t41,0,0,t135,[],[],r_7,t144,false⟩:ae)]>>=λt167_8=>if room 120 (b_2++t167_8).length=true then bm (n,addI .i64 i 1,b_1,b_2++t167_8)
 else none
 else none
 else if decide (r=9)=true then if(!(decide (n=0)))=true then some [(⟨r,t41,0,0,0,[],[],0,remI (wrp .i64 x0.C) n,false⟩:ae)]>>=λt167_9=>if room 120 (b_2++t167_9).length=true then bm (n,addI .i64 i 1,b_1,b_2++t167_9)
 else none
 else none
 else some [(⟨r,t41,0,0,0,[],[],0,0,false⟩:ae)]>>=λt167_10=>if room 120 (b_2++t167_10).length=true then bm (n,addI .i64 i 1,b_1,b_2++t167_10)
 else none
 else if decide (r=2)=true then fF x0>>=λr_8=>jl x0>>=λr_9=>some [(⟨r,[],r_8,r_9,0,[],[],0,0,false⟩:ae)]>>=λt167_11=>if room 120 (b_2++t167_11).length=true then bm (n,addI .i64 i 1,b_1,b_2++t167_11)
 else none
 else if decide (r=3)=true then some [(⟨r,[],0,0,wrp .i64 (remI x0.A 4),[],[],0,0,false⟩:ae)]>>=λt167_12=>if room 120 (b_2++t167_12).length=true then bm (n,addI .i64 i 1,b_1,b_2++t167_12)
 else none
 else if decide (r=4)=true then eL x0>>=λr_10=>fy (n,i,r_10,0,b_1,r,[],0,0,0,0,0,decide (remI x0.B 2=1),b_2,[])>>=λo_2=>some [(⟨o_2.2.2.2.1,o_2.2.2.2.2.1,o_2.2.2.2.2.2.1,o_2.2.2.2.2.2.2.1,o_2.2.2.2.2.2.2.2.1,o_2.2.2.2.2.2.2.2.2.2.2.2.2,[],o_2.2.2.2.2.2.2.2.2.1,o_2.2.2.2.2.2.2.2.2.2.1,o_2.2.2.2.2.2.2.2.2.2.2.1⟩:ae)]>>=λt167_13=>if room 120 (o_2.2.2.2.2.2.2.2.2.2.2.2.1++t167_13).length=true then bm (o_2.1,addI .i64 o_2.2.1 1,o_2.2.2.1,o_2.2.2.2.2.2.2.2.2.2.2.2.1++t167_13)
 else none
 else if decide (r=5)=true then jd ((⟨b_1⟩:aW),i,true)>>=λr_11=>some [(⟨r,[],0,0,0,[],r_11,0,0,false⟩:ae)]>>=λt167_14=>if room 120 (b_2++t167_14).length=true then bm (n,addI .i64 i 1,b_1,b_2++t167_14)
 else none
 else if decide (r=6)=true then jd ((⟨b_1⟩:aW),i,false)>>=λr_12=>if decide ((r_12.length:Int)=0)=true then some [(⟨5,[],0,0,0,[],[],0,0,false⟩:ae)]>>=λt167_15=>if room 120 (b_2++t167_15).length=true then bm (n,addI .i64 i 1,b_1,b_2++t167_15)
 else none
 else some [(⟨r,[],0,0,0,[],r_12,0,0,decide (remI x0.B 2=1)⟩:ae)]>>=λt167_16=>if room 120 (b_2++t167_16).length=true then bm (n,addI .i64 i 1,b_1,b_2++t167_16)
 else none
 else if decide (r=7)=true then if(!(decide (n=0)))=true then some [(⟨r,[],0,0,wrp .i64 (remI x0.A 4),[],[],0,remI (wrp .i64 x0.C) n,false⟩:ae)]>>=λt167_17=>if room 120 (b_2++t167_17).length=true then bm (n,addI .i64 i 1,b_1,b_2++t167_17)
 else none
 else none
 else if decide (r=8)=true then some (wrp .i64 (remI x0.A 4))>>=λt135_1=>jo ((⟨b_1⟩:aW),x0.B)>>=λr_13=>if(!(decide (n=0)))=true then some (remI (wrp .i64 x0.C) n)>>=λt144_1=>if decide (r_13<0)=true then some [(⟨7,[],0,0,t135_1,[],[],0,t144_1,false⟩:ae)]>>=λt167_18=>if room 120 (b_2++t167_18).length=true then bm (n,addI .i64 i 1,b_1,b_2++t167_18)
 else none
 else some [(⟨r,[],0,0,t135_1,[],[],r_13,t144_1,false⟩:ae)]>>=λt167_19=>if room 120 (b_2++t167_19).length=true then bm (n,addI .i64 i 1,b_1,b_2++t167_19)
 else none
 else none
 else if decide (r=9)=true then if(!(decide (n=0)))=true then some [(⟨r,[],0,0,0,[],[],0,remI (wrp .i64 x0.C) n,false⟩:ae)]>>=λt167_20=>if room 120 (b_2++t167_20).length=true then bm (n,addI .i64 i 1,b_1,b_2++t167_20)
 else none
 else none
 else some [(⟨r,[],0,0,0,[],[],0,0,false⟩:ae)]>>=λt167_21=>if room 120 (b_2++t167_21).length=true then bm (n,addI .i64 i 1,b_1,b_2++t167_21)
 else none
 else none
 else some b_2
  partial_fixpoint
theorem F8:LC 34 0 [0] e34_0 bm:= .rx bm.partial_correctness (.k l5 (.k r8 (.k sw (.k we (.k wq (.k F7 (.k wu .n))))))) (.k E3 .n)
def ie(d:aW):Option (au×Bool):=
 some (d.Nodes.length:Int)>>=λt13=>if(bif decide (t13<1)then true else decide (5<t13))=true then some ((⟨[]⟩:au),false)
 else bm (t13,0,d.Nodes,[])>>=λo=>some ((⟨o⟩:au),true)
theorem Hi:FC e34 ie:= .fx .n (.k F8 .n)
def bF(x_:List cL×Int×List aQ):Option (List aQ):=
 match x_ with
 |(l_2,i,b_1)=>
 if(bif decide (i<(l_2.length:Int))then decide (0<(b_1.length:Int))else false)=true then if inR i l_2.length=true then some (l_2.getD i.toNat eC)>>=λx0=>some (b_1.length:Int)>>=λt38=>if(!(decide (t38=0)))=true then some (remI (wrp .i64 x0.Node) t38)>>=λt39=>if inR t39 b_1.length=true then if decide (t39.toNat<b_1.length)=true then some (b_1.getD t39.toNat az).Parts>>=λt46=>if room 3 ([]++t46).length=true then some ([]++t46)>>=λl_3=>if decide (t39.toNat<b_1.length)=true then if decide (t39.toNat=t39.toNat)=true then
 let k_1:=λz1_0=>
 some (remI x0.Kind 8)>>=λt67_1=>if decide (t67_1=0)=true then if decide (t39.toNat<b_1.length)=true then some (subI .u8 (addI .u8 (b_1.getD t39.toNat az).A (remI x0.A 5)) 2)>>=λt103_1=>if decide (t39.toNat<b_1.length)=true then bF (l_2,addI .i64 i 1,(b_1.set t39.toNat (⟨(b_1.getD t39.toNat az).Kind,t103_1,(b_1.getD t39.toNat az).B,(b_1.getD t39.toNat az).C,(b_1.getD t39.toNat az).Parts⟩:aQ)).set t39.toNat (⟨((b_1.set t39.toNat (⟨(b_1.getD t39.toNat az).Kind,t103_1,(b_1.getD t39.toNat az).B,(b_1.getD t39.toNat az).C,(b_1.getD t39.toNat az).Parts⟩:aQ)).getD t39.toNat az).Kind,((b_1.set t39.toNat (⟨(b_1.getD t39.toNat az).Kind,t103_1,(b_1.getD t39.toNat az).B,(b_1.getD t39.toNat az).C,(b_1.getD t39.toNat az).Parts⟩:aQ)).getD t39.toNat az).A,((b_1.set t39.toNat (⟨(b_1.getD t39.toNat az).Kind,t103_1,(b_1.getD t39.toNat az).B,(b_1.getD t39.toNat az).C,(b_1.getD t39.toNat az).Parts⟩:aQ)).getD t39.toNat az).B,((b_1.set t39.toNat (⟨(b_1.getD t39.toNat az).Kind,t103_1,(b_1.getD t39.toNat az).B,(b_1.getD t39.toNat az).C,(b_1.getD t39.toNat az).Parts⟩:aQ)).getD t39.toNat az).C,l_3⟩:aQ))
 else none
 else none
 else if decide (t67_1=1)=true then if decide (t39.toNat<b_1.length)=true then some (subI .u8 (addI .u8 (b_1.getD t39.toNat az).B (remI x0.B 5)) 2)>>=λt117_1=>if decide (t39.toNat<b_1.length)=true then bF (l_2,addI .i64 i 1,(b_1.set t39.toNat (⟨(b_1.getD t39.toNat az).Kind,(b_1.getD t39.toNat az).A,t117_1,(b_1.getD t39.toNat az).C,(b_1.getD t39.toNat az).Parts⟩:aQ)).set t39.toNat (⟨((b_1.set t39.toNat (⟨(b_1.getD t39.toNat az).Kind,(b_1.getD t39.toNat az).A,t117_1,(b_1.getD t39.toNat az).C,(b_1.getD t39.toNat az).Parts⟩:aQ)).getD t39.toNat az).Kind,((b_1.set t39.toNat (⟨(b_1.getD t39.toNat az).Kind,(b_1.getD t39.toNat az).A,t117_1,(b_1.getD t39.toNat az).C,(b_1.getD t39.toNat az).Parts⟩:aQ)).getD t39.toNat az).A,((b_1.set t39.toNat (⟨(b_1.getD t39.toNat az).Kind,(b_1.getD t39.toNat az).A,t117_1,(b_1.getD t39.toNat az).C,(b_1.getD t39.toNat az).Parts⟩:aQ)).getD t39.toNat az).B,((b_1.set t39.toNat (⟨(b_1.getD t39.toNat az).Kind,(b_1.getD t39.toNat az).A,t117_1,(b_1.getD t39.toNat az).C,(b_1.getD t39.toNat az).Parts⟩:aQ)).getD t39.toNat az).C,l_3⟩:aQ))
 else none
 else none
 else if decide (t67_1=2)=true then if decide (t39.toNat<b_1.length)=true then some (remI x0.A 6)>>=λt129_1=>if decide (0<=t129_1)=true then some (xorI .u8 (b_1.getD t39.toNat az).A (shlI .u8 1 t129_1))>>=λt131_1=>if decide (t39.toNat<b_1.length)=true then bF (l_2,addI .i64 i 1,(b_1.set t39.toNat (⟨(b_1.getD t39.toNat az).Kind,t131_1,(b_1.getD t39.toNat az).B,(b_1.getD t39.toNat az).C,(b_1.getD t39.toNat az).Parts⟩:aQ)).set t39.toNat (⟨((b_1.set t39.toNat (⟨(b_1.getD t39.toNat az).Kind,t131_1,(b_1.getD t39.toNat az).B,(b_1.getD t39.toNat az).C,(b_1.getD t39.toNat az).Parts⟩:aQ)).getD t39.toNat az).Kind,((b_1.set t39.toNat (⟨(b_1.getD t39.toNat az).Kind,t131_1,(b_1.getD t39.toNat az).B,(b_1.getD t39.toNat az).C,(b_1.getD t39.toNat az).Parts⟩:aQ)).getD t39.toNat az).A,((b_1.set t39.toNat (⟨(b_1.getD t39.toNat az).Kind,t131_1,(b_1.getD t39.toNat az).B,(b_1.getD t39.toNat az).C,(b_1.getD t39.toNat az).Parts⟩:aQ)).getD t39.toNat az).B,((b_1.set t39.toNat (⟨(b_1.getD t39.toNat az).Kind,t131_1,(b_1.getD t39.toNat az).B,(b_1.getD t39.toNat az).C,(b_1.getD t39.toNat az).Parts⟩:aQ)).getD t39.toNat az).C,l_3⟩:aQ))
 else none
 else none
 else none
 else if decide (t67_1=3)=true then if decide (t39.toNat<b_1.length)=true then some (addI .u8 (b_1.getD t39.toNat az).C x0.A)>>=λt143_1=>if decide (t39.toNat<b_1.length)=true then bF (l_2,addI .i64 i 1,(b_1.set t39.toNat (⟨(b_1.getD t39.toNat az).Kind,(b_1.getD t39.toNat az).A,(b_1.getD t39.toNat az).B,t143_1,(b_1.getD t39.toNat az).Parts⟩:aQ)).set t39.toNat (⟨((b_1.set t39.toNat (⟨(b_1.getD t39.toNat az).Kind,(b_1.getD t39.toNat az).A,(b_1.getD t39.toNat az).B,t143_1,(b_1.getD t39.toNat az).Parts⟩:aQ)).getD t39.toNat az).Kind,((b_1.set t39.toNat (⟨(b_1.getD t39.toNat az).Kind,(b_1.getD t39.toNat az).A,(b_1.getD t39.toNat az).B,t143_1,(b_1.getD t39.toNat az).Parts⟩:aQ)).getD t39.toNat az).A,((b_1.set t39.toNat (⟨(b_1.getD t39.toNat az).Kind,(b_1.getD t39.toNat az).A,(b_1.getD t39.toNat az).B,t143_1,(b_1.getD t39.toNat az).Parts⟩:aQ)).getD t39.toNat az).B,((b_1.set t39.toNat (⟨(b_1.getD t39.toNat az).Kind,(b_1.getD t39.toNat az).A,(b_1.getD t39.toNat az).B,t143_1,(b_1.getD t39.toNat az).Parts⟩:aQ)).getD t39.toNat az).C,l_3⟩:aQ))
 else none
 else none
 else if decide (t67_1=4)=true then if decide (t39.toNat=t39.toNat)=true then if decide ((l_3.length:Int)<8)=true then if decide (t39.toNat=t39.toNat)=true then some [(⟨x0.A,x0.B,quoI .u8 x0.A 12⟩:di)]>>=λt167_1=>if room 3 (l_3++t167_1).length=true then if decide (t39.toNat=t39.toNat)=true then bF (l_2,addI .i64 i 1,b_1.set t39.toNat (⟨(b_1.getD t39.toNat az).Kind,(b_1.getD t39.toNat az).A,(b_1.getD t39.toNat az).B,(b_1.getD t39.toNat az).C,l_3++t167_1⟩:aQ))
 else none
 else none
 else none
 else bF (l_2,addI .i64 i 1,b_1.set t39.toNat (⟨(b_1.getD t39.toNat az).Kind,(b_1.getD t39.toNat az).A,(b_1.getD t39.toNat az).B,(b_1.getD t39.toNat az).C,l_3⟩:aQ))
 else none
 else if decide (t67_1=5)=true then if decide (t39.toNat=t39.toNat)=true then if decide (0<(l_3.length:Int))=true then if decide (t39.toNat=t39.toNat)=true then if slR 0 z1_0 l_3.length=true then if decide (t39.toNat=t39.toNat)=true then some (addI .i64 z1_0 1)>>=λt191_1=>if slR t191_1 (l_3.length:Int) l_3.length=true then if(decide (z1_0.toNat+((l_3.length:Int).toNat-t191_1.toNat)<=l_3.length)&&decide (t191_1.toNat+((l_3.length:Int).toNat-t191_1.toNat)<=l_3.length))=true then if decide (t39.toNat=t39.toNat)=true then bF (l_2,addI .i64 i 1,b_1.set t39.toNat (⟨(b_1.getD t39.toNat az).Kind,(b_1.getD t39.toNat az).A,(b_1.getD t39.toNat az).B,(b_1.getD t39.toNat az).C,l_3.take z1_0.toNat++(l_3.drop t191_1.toNat).take ((l_3.length:Int).toNat-t191_1.toNat)⟩:aQ))
 else none
 else none
 else none
 else none
 else none
 else none
 else bF (l_2,addI .i64 i 1,b_1.set t39.toNat (⟨(b_1.getD t39.toNat az).Kind,(b_1.getD t39.toNat az).A,(b_1.getD t39.toNat az).B,(b_1.getD t39.toNat az).C,l_3⟩:aQ))
 else none
 else if decide (t67_1=6)=true then if decide (t39.toNat=t39.toNat)=true then if decide (0<(l_3.length:Int))=true then if decide (t39.toNat=t39.toNat)=true then if inR z1_0 l_3.length=true then if decide (z1_0.toNat<l_3.length)=true then bF (l_2,addI .i64 i 1,b_1.set t39.toNat (⟨(b_1.getD t39.toNat az).Kind,(b_1.getD t39.toNat az).A,(b_1.getD t39.toNat az).B,(b_1.getD t39.toNat az).C,l_3.set z1_0.toNat (⟨(l_3.getD z1_0.toNat bW).ID,(l_3.getD z1_0.toNat bW).Type_,x0.B⟩:di)⟩:aQ))
 else none
 else none
 else none
 else bF (l_2,addI .i64 i 1,b_1.set t39.toNat (⟨(b_1.getD t39.toNat az).Kind,(b_1.getD t39.toNat az).A,(b_1.getD t39.toNat az).B,(b_1.getD t39.toNat az).C,l_3⟩:aQ))
 else none
 else if decide (t39.toNat=t39.toNat)=true then if decide (0<(l_3.length:Int))=true then if decide (t39.toNat=t39.toNat)=true then if decide (t39.toNat=t39.toNat)=true then if inR z1_0 l_3.length=true then if decide (z1_0.toNat<l_3.length)=true then if inR z1_0 l_3.length=true then if decide (z1_0.toNat<l_3.length)=true then bF (l_2,addI .i64 i 1,b_1.set t39.toNat (⟨(b_1.getD t39.toNat az).Kind,(b_1.getD t39.toNat az).A,(b_1.getD t39.toNat az).B,(b_1.getD t39.toNat az).C,l_3.set z1_0.toNat (⟨(l_3.getD z1_0.toNat bW).ID,addI .u8 (l_3.getD z1_0.toNat bW).Type_ x0.B,(l_3.getD z1_0.toNat bW).Flag⟩:di)⟩:aQ))
 else none
 else none
 else none
 else none
 else none
 else none
 else bF (l_2,addI .i64 i 1,b_1.set t39.toNat (⟨(b_1.getD t39.toNat az).Kind,(b_1.getD t39.toNat az).A,(b_1.getD t39.toNat az).B,(b_1.getD t39.toNat az).C,l_3⟩:aQ))
 else none
 if decide (0<(l_3.length:Int))=true then if decide (t39.toNat=t39.toNat)=true then some (l_3.length:Int)>>=λt63=>if(!(decide (t63=0)))=true then some (remI (wrp .i64 x0.A) t63)>>=λt64=>k_1 t64
 else none
 else none
 else k_1 0
 else none
 else none
 else none
 else none
 else none
 else none
 else none
 else some b_1
  partial_fixpoint
theorem Eo:LC 35 0 [0] e35_0 bF:= .rx bF.partial_correctness
def pg(x_:aW×List cL):Option (aW):=
 match x_ with
 |(d,l)=>
 if room 32 ([]++d.Nodes).length=true then bF (l,0,[]++d.Nodes)>>=λo=>some (⟨o⟩:aW)
 else none
theorem E4:FC e35 pg:= .fx .n (.k Eo .n)
def mE(c:dD):Option (aI×aI×Bool):=
 ie c.S>>=λr=>pg (c.S,c.L)>>=λr_3=>ie r_3>>=λr_4=>if(bif bif (!r.2)then true else(!r_4.2)then true else decide (5<(c.L.length:Int)))=true then some ((⟨(⟨[]⟩:au),0⟩:aI),(⟨(⟨[]⟩:au),0⟩:aI),false)
 else some (r.1.Types.length:Int)>>=λt45=>if(!(decide (t45=0)))=true then some (remI (wrp .i64 c.T) t45)>>=λt46=>some (r_4.1.Types.length:Int)>>=λt58=>if(!(decide (t58=0)))=true then some ((⟨r.1,t46⟩:aI),(⟨r_4.1,remI (addI .i64 t46 (wrp .i64 c.U)) t58⟩:aI),true)
 else none
 else none
theorem Hj:FC e11 mE:= .fx (.k Hi (.k E4 .n))
def iR(x_:List aO×List aO×Int×Int):Option ((Bool) ⊕ (Unit)):=
 match x_ with
 |(s1_1,s2_1,t12_1,t13)=>
 if decide (t13<t12_1)=true then if inR t13 s1_1.length=true then some (s1_1.getD t13.toNat aT)>>=λx0=>if inR t13 s2_1.length=true then some (s2_1.getD t13.toNat aT)>>=λx0_1=>if(!(eqI x0.ID x0_1.ID&&(eqS x0.Name x0_1.Name&&true)))=true then some (.inl false)
 else iR (s1_1,s2_1,t12_1,addI .i64 t13 1)
 else none
 else none
 else some (.inr ())
  partial_fixpoint
theorem D4:LC 324 0 [0] CK iR:= .rx iR.partial_correctness
def oV(x_:List aO×List aO):Option (Bool):=
 match x_ with
 |(s1,s2)=>
 if(!(decide ((s1.length:Int)=(s2.length:Int))))=true then some false
 else iR (s1,s2,(s1.length:Int),0)>>=λo=>match o with
 |.inl o_1=>
 some o_1
 |.inr o_2=>
 some true
theorem D5:FC e324 oV:= .fx .n (.k D4 .n)
def iS(x_:List aK×List aK×Int×Int):Option ((Bool) ⊕ (Unit)):=
 match x_ with
 |(s1_1,s2_1,t12_1,t13)=>
 if decide (t13<t12_1)=true then if inR t13 s1_1.length=true then some (s1_1.getD t13.toNat aE)>>=λx0=>if inR t13 s2_1.length=true then some (s2_1.getD t13.toNat aE)>>=λx0_1=>if(!(eqI x0.ID x0_1.ID&&(eqS x0.Data x0_1.Data&&true)))=true then some (.inl false)
 else iS (s1_1,s2_1,t12_1,addI .i64 t13 1)
 else none
 else none
 else some (.inr ())
  partial_fixpoint
theorem D6:LC 316 0 [0] CL iS:= .rx iS.partial_correctness
def lQ(x_:List aK×List aK):Option (Bool):=
 match x_ with
 |(s1,s2)=>
 if(!(decide ((s1.length:Int)=(s2.length:Int))))=true then some false
 else iS (s1,s2,(s1.length:Int),0)>>=λo=>match o with
 |.inl o_1=>
 some o_1
 |.inr o_2=>
 some true
theorem vH:FC e316 lQ:= .fx .n (.k D6 .n)
mutual
def dK(x_:ab×ab):Option (Bool):=
 match x_ with
 |(a,b)=>
 some (bif bif bif bif decide (a.Kind=b.Kind)then eqB a.Bool_ b.Bool_ else false then decide (a.Int_=b.Int_)else false then decide (a.Str=b.Str)else false then decide (a.ID=b.ID)else false)>>=λt37=>(if t37=true then lQ (a.Rest,b.Rest)else some false)>>=λr=>some (bif t37 then r else false)>>=λt44=>(if t44=true then lP (a.Keys,b.Keys)else some false)>>=λr_1=>some (bif t44 then r_1 else false)>>=λt51=>(if t51=true then lP (a.Items,b.Items)else some false)>>=λr_2=>some (bif t51 then r_2 else false)
  partial_fixpoint
def lP(x_:List ab×List ab):Option (Bool):=
 match x_ with
 |(s1,s2)=>
 if(!(decide ((s1.length:Int)=(s2.length:Int))))=true then some false
 else j4 (s2,s1,(s1.length:Int),0)>>=λo=>match o with
 |.inl o_1=>
 some o_1
 |.inr o_2=>
 some true
  partial_fixpoint
def j4(x_:List ab×List ab×Int×Int):Option ((Bool) ⊕ (Unit)):=
 match x_ with
 |(s2_1,t15,t16_1,t17)=>
 if decide (t17<t16_1)=true then if inR t17 t15.length=true then if inR t17 s2_1.length=true then dK (ab.eta (t15.getD t17.toNat aj),ab.eta (s2_1.getD t17.toNat aj))>>=λr=>if(!r)=true then some (.inl false)
 else j4 (s2_1,t15,t16_1,addI .i64 t17 1)
 else none
 else none
 else some (.inr ())
  partial_fixpoint
end
theorem HC:FZ e327 dK/\FZ rQ lP/\LZ 317 0 [0] nM j4:=dK.mutual_partial_correctness (FD e327) (FD rQ) (LD 317 0 [0] nM)
 (λ_ h1 _ _ h=>FB h (.k vH (.k (FG rQ h1) .n)))
 (λ_ h2 _ _ h=>FB h .n (.k (LG nM h2) .n))
 (λ_ _ h0 h2 _ _ h=>LB nM h2 h (.k (FG e327 h0) .n))
theorem xg:FC e327 dK:=FG _ HC.1
def mF(x_:av×av):Option (Bool):=
 match x_ with
 |(x0,y)=>
 some (bif bif bif bif decide (x0.ID=y.ID)then decide (x0.Name=y.Name)else false then decide (x0.Type_=y.Type_)else false then eqB x0.Critical y.Critical else false then eqB x0.HasDefault y.HasDefault else false)>>=λt37=>(if t37=true then dK ((⟨x0.Default.Kind,x0.Default.Bool_,x0.Default.Int_,x0.Default.Str,x0.Default.ID,x0.Default.Keys,x0.Default.Items,x0.Default.Rest⟩:ab),ab.eta y.Default)else some false)>>=λr=>some (bif t37 then r else false)
theorem Hk:FC e326 mF:= .fx (.k xg .n)
def fe(x_:List av×List av×Int×Int):Option ((Bool) ⊕ (Unit)):=
 match x_ with
 |(s2_1,t15,t16_1,t17)=>
 if decide (t17<t16_1)=true then if inR t17 t15.length=true then some (t15.getD t17.toNat af)>>=λx0=>if inR t17 s2_1.length=true then some (s2_1.getD t17.toNat af)>>=λx0_1=>mF ((⟨x0.ID,x0.Name,x0.Type_,x0.Critical,x0.HasDefault,ab.eta x0.Default⟩:av),(⟨x0_1.ID,x0_1.Name,x0_1.Type_,x0_1.Critical,x0_1.HasDefault,ab.eta x0_1.Default⟩:av))>>=λr=>if(!r)=true then some (.inl false)
 else fe (s2_1,t15,t16_1,addI .i64 t17 1)
 else none
 else none
 else some (.inr ())
  partial_fixpoint
theorem DW:LC 325 0 [0] CM fe:= .rx fe.partial_correctness (.k Hk .n)
def oT(x_:List av×List av):Option (Bool):=
 match x_ with
 |(s1,s2)=>
 if(!(decide ((s1.length:Int)=(s2.length:Int))))=true then some false
 else fe (s2,s1,(s1.length:Int),0)>>=λo=>match o with
 |.inl o_1=>
 some o_1
 |.inr o_2=>
 some true
theorem DX:FC e325 oT:= .fx .n (.k DW .n)
def bK(x_:ae×ae):Option (Bool):=
 match x_ with
 |(a,b)=>
 some (bif bif bif bif bif bif bif decide (a.Kind=b.Kind)then decide (a.Name=b.Name)else false then decide (a.Low=b.Low)else false then decide (a.High=b.High)else false then decide (a.Max=b.Max)else false then decide (a.Key=b.Key)else false then decide (a.Elem=b.Elem)else false then eqB a.Open b.Open else false)>>=λt58=>(if t58=true then oV (a.Symbols,b.Symbols)else some false)>>=λr=>some (bif t58 then r else false)>>=λt65=>(if t65=true then oT (a.Members,b.Members)else some false)>>=λr_1=>some (bif t65 then r_1 else false)
theorem H2:FC e278 bK:= .fx (.k D5 (.k DX .n))
def mG(c:Int):Option (Bool):=
 some (bif bif decide (c=95)then true else bif decide (97<=c)then decide (c<=122)else false then true else bif decide (65<=c)then decide (c<=90)else false)
theorem wA:FC e320 mG:= .fx
def pZ(c:Int):Option (Bool):=
 some (bif decide (48<=c)then decide (c<=57)else false)
theorem HD:FC e321 pZ:= .fx
def dk(x_:List UInt8×Int×Int):Option ((Bool) ⊕ (Unit)):=
 match x_ with
 |(s_1,t18_1,t19)=>
 if decide (t19<t18_1)=true then if inR t19 s_1.length=true then mG (dp s_1 t19)>>=λr_1=>some (!r_1)>>=λt26=>if(inR t19 s_1.length||(!t26))=true then (if t26=true then pZ (dp s_1 t19)else some false)>>=λr_2=>if(bif t26 then(!r_2)else false)=true then some (.inl false)
 else dk (s_1,t18_1,addI .i64 t19 1)
 else none
 else none
 else some (.inr ())
  partial_fixpoint
theorem GX:LC 275 0 [0] CN dk:= .rx dk.partial_correctness (.k wA (.k HD .n))
def cz(s:List UInt8):Option (Bool):=
 some (bif decide (s=[])then true else decide (24<(s.length:Int)))>>=λt10=>if(inR 0 s.length||(!(!t10)))=true then (if(!t10)=true then mG (dp s 0)else some false)>>=λr=>if(bif t10 then true else(!r))=true then some false
 else dk (s,(s.length:Int),0)>>=λo=>match o with
 |.inl o_1=>
 some o_1
 |.inr o_2=>
 some true
 else none
theorem wU:FC e275 cz:= .fx (.k wA .n) (.k GX .n)
def fG(x_:List Int×List (List UInt8)×List Int×Int×Int×List (List UInt8)):Option ((Bool) ⊕ (List Int)):=
 match x_ with
 |(l_2,names_1,t9,t10_1,t11,b)=>
 if decide (t11<t10_1)=true then if inR t11 t9.length=true then some (t9.getD t11.toNat 0)>>=λx0=>some (bif decide (x0<1)then true else decide (1000<x0))>>=λt21=>some (decide (0<t11))>>=λt24=>some (subI .i64 t11 1)>>=λt29=>if(inR t29 l_2.length||(!((!t21)&&t24)))=true then some (bif t21 then true else bif t24 then decide (x0<=l_2.getD t29.toNat 0)else false)>>=λt34=>if(inR t11 names_1.length||(!(!t34)))=true then some (bif t34 then true else hasS b (names_1.getD t11.toNat []))>>=λt42=>if(inR t11 names_1.length||(!(!t42)))=true then (if(!t42)=true then cz (names_1.getD t11.toNat [])else some false)>>=λr=>if(bif t42 then true else(!r))=true then some (.inl false)
 else if inR t11 names_1.length=true then fG (l_2,names_1,t9,t10_1,addI .i64 t11 1,addS b (names_1.getD t11.toNat []))
 else none
 else none
 else none
 else none
 else none
 else some (.inr l_2)
  partial_fixpoint
theorem HE:LC 322 0 [0] CO fG:= .rx fG.partial_correctness (.k wU .n)
def nq(x_:List Int×List (List UInt8)):Option (Bool):=
 match x_ with
 |(l,names)=>
 fG (l,names,l,(l.length:Int),0,[])>>=λo=>match o with
 |.inl o_1=>
 some o_1
 |.inr o_2=>
 some (decide ((o_2.length:Int)<=16))
theorem xD:FC e322 nq:= .fx .n (.k HE .n)
def gR(x_:List aO×List aO×Int×Int×List Int×List (List UInt8)):Option (List aO×List Int×List (List UInt8)):=
 match x_ with
 |(l_2,t7,t8_1,t9,b_2,b_3)=>
 if decide (t9<t8_1)=true then if inR t9 t7.length=true then some (t7.getD t9.toNat aT)>>=λx0=>some [x0.ID]>>=λt16=>if room 8 (b_2++t16).length=true then some [x0.Name]>>=λt21=>if room 16 (b_3++t21).length=true then gR (l_2,t7,t8_1,addI .i64 t9 1,b_2++t16,b_3++t21)
 else none
 else none
 else none
 else some (l_2,b_2,b_3)
  partial_fixpoint
theorem F9:LC 276 0 [0] CP gR:= .rx gR.partial_correctness
def kB(l:List aO):Option (Bool):=
 gR (l,l,(l.length:Int),0,[],[])>>=λo=>some (decide (0<(o.1.length:Int)))>>=λt26=>(if t26=true then nq (o.2.1,o.2.2)else some false)>>=λr=>some (bif t26 then r else false)
theorem Hl:FC e276 kB:= .fx (.k xD .n) (.k F9 .n)
def qg(v:ab):Option (Bool):=
 dK (ab.eta v,(⟨0,false,0,[],0,[],[],[]⟩:ab))>>=λr=>some r
theorem H3:FC e323 qg:= .fx (.k xg .n)
def fC(x_:List av×Int×Int×ae×List Int×List (List UInt8)):Option ((Bool) ⊕ (ae×List Int×List (List UInt8))):=
 match x_ with
 |(t8,t9_1,t10,b_3,b_4,b_5)=>
 if decide (t10<t9_1)=true then if inR t10 t8.length=true then some (t8.getD t10.toNat af)>>=λx0=>some [x0.ID]>>=λt17=>if room 8 (b_4++t17).length=true then some [x0.Name]>>=λt22=>if room 16 (b_5++t22).length=true then some (bif bif decide (b_3.Kind=6)then bif x0.Critical then true else x0.HasDefault else false then true else bif x0.Critical then x0.HasDefault else false)>>=λt42=>some (!x0.HasDefault)>>=λt46=>(if((!t42)&&t46)=true then qg (ab.eta x0.Default)else some false)>>=λr_1=>if(bif t42 then true else bif t46 then(!r_1)else false)=true then some (.inl false)
 else fC (t8,t9_1,addI .i64 t10 1,b_3,b_4++t17,b_5++t22)
 else none
 else none
 else none
 else some (.inr (b_3,b_4,b_5))
  partial_fixpoint
theorem Ga:LC 277 0 [0] CQ fC:= .rx fC.partial_correctness (.k H3 .n)
def jr(t:ae):Option (Bool):=
 fC (t.Members,(t.Members.length:Int),0,t,[],[])>>=λo=>match o with
 |.inl o_1=>
 some o_1
 |.inr o_2=>
 some (bif decide (o_2.1.Kind=5)then true else decide (0<(o_2.2.1.length:Int)))>>=λt62=>(if t62=true then nq (o_2.2.1,o_2.2.2)else some false)>>=λr=>some (bif t62 then r else false)
theorem Hm:FC e277 jr:= .fx (.k xD .n) (.k Ga .n)
def br(t:ae):Option (Bool):=
 if decide (t.Kind=1)=true then bK ((⟨0,t.Name,t.Low,t.High,t.Max,t.Symbols,t.Members,t.Key,t.Elem,t.Open⟩:ae),(⟨0,[],0,0,0,[],[],0,0,false⟩:ae))>>=λr=>some r
 else if decide (t.Kind=2)=true then some (decide (t.Low<=t.High))>>=λt17=>(if t17=true then bK ((⟨0,t.Name,0,0,t.Max,t.Symbols,t.Members,t.Key,t.Elem,t.Open⟩:ae),(⟨0,[],0,0,0,[],[],0,0,false⟩:ae))else some false)>>=λr_1=>some (bif t17 then r_1 else false)
 else if decide (t.Kind=3)=true then some (bif decide (0<=t.Max)then decide (t.Max<=200)else false)>>=λt29=>(if t29=true then bK ((⟨0,t.Name,t.Low,t.High,0,t.Symbols,t.Members,t.Key,t.Elem,t.Open⟩:ae),(⟨0,[],0,0,0,[],[],0,0,false⟩:ae))else some false)>>=λr_2=>some (bif t29 then r_2 else false)
 else if decide (t.Kind=4)=true then cz t.Name>>=λr_3=>(if r_3=true then kB t.Symbols else some false)>>=λr_4=>some (bif r_3 then r_4 else false)>>=λt40=>(if t40=true then bK ((⟨0,[],t.Low,t.High,t.Max,[],t.Members,t.Key,t.Elem,false⟩:ae),(⟨0,[],0,0,0,[],[],0,0,false⟩:ae))else some false)>>=λr_5=>some (bif t40 then r_5 else false)
 else some (decide (t.Kind=5))>>=λt45=>if t45=true then if t45=true then cz t.Name>>=λr_6=>(if r_6=true then jr t else some false)>>=λr_7=>some (bif r_6 then r_7 else false)>>=λt53=>(if t53=true then bK ((⟨0,[],t.Low,t.High,t.Max,t.Symbols,[],t.Key,t.Elem,bif t.Open then decide (t.Kind=5)else false⟩:ae),(⟨0,[],0,0,0,[],[],0,0,false⟩:ae))else some false)>>=λr_8=>some (bif t53 then r_8 else false)
 else some (decide (t.Kind=7))>>=λt65=>if t65=true then if t65=true then some (bif decide (0<=t.Max)then decide (t.Max<=50)else false)>>=λt74=>if decide (t.Kind=8)=true then (if t74=true then bK ((⟨0,t.Name,t.Low,t.High,0,t.Symbols,t.Members,0,0,t.Open⟩:ae),(⟨0,[],0,0,0,[],[],0,0,false⟩:ae))else some false)>>=λr_9=>some (bif t74 then r_9 else false)
 else (if t74=true then bK ((⟨0,t.Name,t.Low,t.High,0,t.Symbols,t.Members,t.Key,0,t.Open⟩:ae),(⟨0,[],0,0,0,[],[],0,0,false⟩:ae))else some false)>>=λr_10=>some (bif t74 then r_10 else false)
 else if decide (t.Kind=9)=true then bK ((⟨0,t.Name,t.Low,t.High,t.Max,t.Symbols,t.Members,t.Key,0,t.Open⟩:ae),(⟨0,[],0,0,0,[],[],0,0,false⟩:ae))>>=λr_11=>some r_11
 else some false
 else if decide (t.Kind=8)=true then some (bif decide (0<=t.Max)then decide (t.Max<=50)else false)>>=λt74_1=>if decide (t.Kind=8)=true then (if t74_1=true then bK ((⟨0,t.Name,t.Low,t.High,0,t.Symbols,t.Members,0,0,t.Open⟩:ae),(⟨0,[],0,0,0,[],[],0,0,false⟩:ae))else some false)>>=λr_12=>some (bif t74_1 then r_12 else false)
 else (if t74_1=true then bK ((⟨0,t.Name,t.Low,t.High,0,t.Symbols,t.Members,t.Key,0,t.Open⟩:ae),(⟨0,[],0,0,0,[],[],0,0,false⟩:ae))else some false)>>=λr_13=>some (bif t74_1 then r_13 else false)
 else if decide (t.Kind=9)=true then bK ((⟨0,t.Name,t.Low,t.High,t.Max,t.Symbols,t.Members,t.Key,0,t.Open⟩:ae),(⟨0,[],0,0,0,[],[],0,0,false⟩:ae))>>=λr_14=>some r_14
 else some false
 else if decide (t.Kind=6)=true then cz t.Name>>=λr_15=>(if r_15=true then jr t else some false)>>=λr_16=>some (bif r_15 then r_16 else false)>>=λt53_1=>(if t53_1=true then bK ((⟨0,[],t.Low,t.High,t.Max,t.Symbols,[],t.Key,t.Elem,bif t.Open then decide (t.Kind=5)else false⟩:ae),(⟨0,[],0,0,0,[],[],0,0,false⟩:ae))else some false)>>=λr_17=>some (bif t53_1 then r_17 else false)
 else some (decide (t.Kind=7))>>=λt65_1=>if t65_1=true then if t65_1=true then some (bif decide (0<=t.Max)then decide (t.Max<=50)else false)>>=λt74_2=>if decide (t.Kind=8)=true then (if t74_2=true then bK ((⟨0,t.Name,t.Low,t.High,0,t.Symbols,t.Members,0,0,t.Open⟩:ae),(⟨0,[],0,0,0,[],[],0,0,false⟩:ae))else some false)>>=λr_18=>some (bif t74_2 then r_18 else false)
 else (if t74_2=true then bK ((⟨0,t.Name,t.Low,t.High,0,t.Symbols,t.Members,t.Key,0,t.Open⟩:ae),(⟨0,[],0,0,0,[],[],0,0,false⟩:ae))else some false)>>=λr_19=>some (bif t74_2 then r_19 else false)
 else if decide (t.Kind=9)=true then bK ((⟨0,t.Name,t.Low,t.High,t.Max,t.Symbols,t.Members,t.Key,0,t.Open⟩:ae),(⟨0,[],0,0,0,[],[],0,0,false⟩:ae))>>=λr_20=>some r_20
 else some false
 else if decide (t.Kind=8)=true then some (bif decide (0<=t.Max)then decide (t.Max<=50)else false)>>=λt74_3=>if decide (t.Kind=8)=true then (if t74_3=true then bK ((⟨0,t.Name,t.Low,t.High,0,t.Symbols,t.Members,0,0,t.Open⟩:ae),(⟨0,[],0,0,0,[],[],0,0,false⟩:ae))else some false)>>=λr_21=>some (bif t74_3 then r_21 else false)
 else (if t74_3=true then bK ((⟨0,t.Name,t.Low,t.High,0,t.Symbols,t.Members,t.Key,0,t.Open⟩:ae),(⟨0,[],0,0,0,[],[],0,0,false⟩:ae))else some false)>>=λr_22=>some (bif t74_3 then r_22 else false)
 else if decide (t.Kind=9)=true then bK ((⟨0,t.Name,t.Low,t.High,t.Max,t.Symbols,t.Members,t.Key,0,t.Open⟩:ae),(⟨0,[],0,0,0,[],[],0,0,false⟩:ae))>>=λr_23=>some r_23
 else some false
theorem Ih:FC e206 br:= .fx (.k H2 (.k wU (.k Hl (.k Hm .n))))
def jt(x_:List av×Int×Int×ae×List Int):Option (ae×List Int):=
 match x_ with
 |(t7,t8_1,t9,b_2,b_3)=>
 if decide (t9<t8_1)=true then if inR t9 t7.length=true then some [(t7.getD t9.toNat af).Type_]>>=λt16=>if room 8 (b_3++t16).length=true then jt (t7,t8_1,addI .i64 t9 1,b_2,b_3++t16)
 else none
 else none
 else some (b_2,b_3)
  partial_fixpoint
theorem Hn:LC 207 0 [0] CS jt:= .rx jt.partial_correctness
def qt(t:ae):Option (List Int):=
 jt (t.Members,(t.Members.length:Int),0,t,[])>>=λo=>if decide (o.1.Kind=8)=true then some [o.1.Key]>>=λt25=>if room 8 (o.2++t25).length=true then some (o.2++t25)>>=λl=>if decide (7<=o.1.Kind)=true then some [o.1.Elem]>>=λt33=>if room 8 (l++t33).length=true then some (l++t33)
 else none
 else some l
 else none
 else if decide (7<=o.1.Kind)=true then some [o.1.Elem]>>=λt33_1=>if room 8 (o.2++t33_1).length=true then some (o.2++t33_1)
 else none
 else some o.2
theorem Ii:FC e207 qt:= .fx .n (.k Hn .n)
def fD(x_:List ae×Int×Int×List Int×Int×Int×List ae×List (List UInt8)×Int×List UInt8×Int×Int×Int×List aO×List av×Int×Int×Bool):Option ((Int) ⊕ (List ae×Int×Int×List ae×List (List UInt8)×Int×List UInt8×Int×Int×Int×List aO×List av×Int×Int×Bool)):=
 match x_ with
 |(t14_2,t15_3,t16_2,t38,t39_1,t40,b_14,b_15,b_16,b_17,b_18,b_19,b_20,b_21,b_22,b_23,b_24,b_25)=>
 if decide (t40<t39_1)=true then if inR t40 t38.length=true then some (t38.getD t40.toNat 0)>>=λx0_3=>if(bif decide (x0_3<0)then true else decide ((b_14.length:Int)<=x0_3))=true then some (.inl 4)
 else fD (t14_2,t15_3,t16_2,t38,t39_1,addI .i64 t40 1,b_14,b_15,b_16,b_17,b_18,b_19,b_20,b_21,b_22,b_23,b_24,b_25)
 else none
 else some (.inr (t14_2,t15_3,t16_2,b_14,b_15,b_16,b_17,b_18,b_19,b_20,b_21,b_22,b_23,b_24,b_25))
  partial_fixpoint
theorem Gb:LC 147 0 [0,0] AL fD:= .rx fD.partial_correctness
def ib(x_:List ae×Int×Int×List ae×List (List UInt8)):Option ((Int) ⊕ (Unit)):=
 match x_ with
 |(t14,t15_1,t16,b,b_1)=>
 if decide (t16<t15_1)=true then if inR t16 t14.length=true then some (t14.getD t16.toNat ag)>>=λx0=>br x0>>=λr=>if(bif (!r)then true else bif (!(decide (x0.Name=[])))then hasS b_1 x0.Name else false)=true then some (.inl 1)
 else qt x0>>=λr_1=>fD (t14,t15_1,t16,r_1,(r_1.length:Int),0,b,addS b_1 x0.Name,x0.Kind,x0.Name,x0.Low,x0.High,x0.Max,x0.Symbols,x0.Members,x0.Key,x0.Elem,x0.Open)>>=λo_3=>match o_3 with
 |.inl o_4=>
 some (.inl o_4)
 |.inr o_5=>
 some (decide (o_5.2.2.2.2.2.1=8))>>=λt56=>if(inR o_5.2.2.2.2.2.2.2.2.2.2.2.2.1 o_5.2.2.2.1.length||(!t56))=true then some (decide ((o_5.2.2.2.1.getD o_5.2.2.2.2.2.2.2.2.2.2.2.2.1.toNat ag).Kind<1))>>=λt65=>if(inR o_5.2.2.2.2.2.2.2.2.2.2.2.2.1 o_5.2.2.2.1.length||(!(t56&&(!t65))))=true then if(bif t56 then bif t65 then true else decide (4<(o_5.2.2.2.1.getD o_5.2.2.2.2.2.2.2.2.2.2.2.2.1.toNat ag).Kind)else false)=true then some (.inl 1)
 else ib (o_5.1,o_5.2.1,addI .i64 o_5.2.2.1 1,o_5.2.2.2.1,o_5.2.2.2.2.1)
 else none
 else none
 else none
 else some (.inr ())
  partial_fixpoint
theorem GY:LC 147 0 [0] CT ib:= .rx ib.partial_correctness (.k Ih (.k Ii .n)) (.k Gb .n)
def im(s:au):Option (Int):=
 if decide (32<(s.Types.length:Int))=true then some 3
 else ib (s.Types,(s.Types.length:Int),0,s.Types,[])>>=λo=>match o with
 |.inl o_1=>
 some o_1
 |.inr o_2=>
 some 0
theorem pS:FC e147 im:= .fx .n (.k GY .n)
def qK(v:ab):Option (ab):=
 if decide (v.Kind=1)=true then some (⟨v.Kind,v.Bool_,0,[],0,[],[],[]⟩:ab)
 else if decide (v.Kind=2)=true then some (⟨v.Kind,false,v.Int_,[],0,[],[],[]⟩:ab)
 else if decide (v.Kind=3)=true then some (⟨v.Kind,false,0,v.Str,0,[],[],[]⟩:ab)
 else if decide (v.Kind=4)=true then some (⟨v.Kind,false,0,[],v.ID,[],[],[]⟩:ab)
 else if decide (v.Kind=5)=true then some (⟨v.Kind,false,0,[],0,[],v.Items,v.Rest⟩:ab)
 else if decide (v.Kind=6)=true then some (⟨v.Kind,false,0,[],v.ID,[],v.Items,v.Rest⟩:ab)
 else if decide (v.Kind=8)=true then some (⟨v.Kind,false,0,[],0,v.Keys,v.Items,[]⟩:ab)
 else some (decide (v.Kind=7))>>=λt57=>if t57=true then if t57=true then some (⟨v.Kind,false,0,[],0,[],v.Items,[]⟩:ab)
 else some (⟨v.Kind,false,0,[],0,[],[],[]⟩:ab)
 else if decide (v.Kind=9)=true then some (⟨v.Kind,false,0,[],0,[],v.Items,[]⟩:ab)
 else some (⟨v.Kind,false,0,[],0,[],[],[]⟩:ab)
theorem IS:FC e216 qK:= .fx
def qh(v:ab):Option (Bool):=
 qK (ab.eta v)>>=λr=>some (bif bif bif bif bif bif eqB v.Bool_ r.Bool_ then decide (v.Int_=r.Int_)else false then decide (v.Str=r.Str)else false then decide (v.ID=r.ID)else false then decide ((v.Keys.length:Int)=(r.Keys.length:Int))else false then decide ((v.Items.length:Int)=(r.Items.length:Int))else false then decide ((v.Rest.length:Int)=(r.Rest.length:Int))else false)
theorem H4:FC e149 qh:= .fx (.k IS .n)
def sB(x_:aO×Int):Option (Bool×Int):=
 match x_ with
 |(x0,b)=>
 some (decide (x0.ID=b),b)
theorem GZ:FC e218 sB:= .fx
def dU(x_:List aO×Int×Int×Int):Option ((Int×Int) ⊕ (Int)):=
 match x_ with
 |(s_1,t7_1,t8,b_3)=>
 if decide (t8<t7_1)=true then if inR t8 s_1.length=true then sB (s_1.getD t8.toNat aT,b_3)>>=λr=>if r.1=true then some (.inl (t8,r.2))
 else dU (s_1,t7_1,addI .i64 t8 1,r.2)
 else none
 else some (.inr b_3)
  partial_fixpoint
theorem DZ:LC 217 1 [0] CU dU:= .rx dU.partial_correctness (.k GZ .n)
def rW(x_:List aO×Int):Option (Int×Int):=
 match x_ with
 |(s,b)=>
 dU (s,(s.length:Int),0,b)>>=λo=>match o with
 |.inl o_1=>
 some (o_1.1,o_1.2)
 |.inr o_2=>
 some ((-1),o_2)
theorem D2:FC e217 rW:= .fx .n (.k DZ .n)
def ju(x_:ae×Int):Option (Int×Bool):=
 match x_ with
 |(t,id)=>
 rW (t.Symbols,id)>>=λr=>some (maxI r.1 0,decide (0<=r.1))
theorem sC:FC e150 ju:= .fx (.k D2 .n)
def nr(id:Int):Option (Bool):=
 some (bif decide (1<=id)then decide (id<=1000)else false)
theorem xE:FC e151 nr:= .fx
def sD(x_:av×Int):Option (Bool×Int):=
 match x_ with
 |(m,b)=>
 some (decide (m.ID=b),b)
theorem G0:FC e220 sD:= .fx
def fg(x_:List av×Int×Int×Int):Option ((Int×Int) ⊕ (Int)):=
 match x_ with
 |(s_1,t7_1,t8,b_3)=>
 if decide (t8<t7_1)=true then if inR t8 s_1.length=true then some (s_1.getD t8.toNat af)>>=λx0=>sD ((⟨x0.ID,x0.Name,x0.Type_,x0.Critical,x0.HasDefault,ab.eta x0.Default⟩:av),b_3)>>=λr=>if r.1=true then some (.inl (t8,r.2))
 else fg (s_1,t7_1,addI .i64 t8 1,r.2)
 else none
 else some (.inr b_3)
  partial_fixpoint
theorem D0:LC 219 1 [0] CV fg:= .rx fg.partial_correctness (.k G0 .n)
def rX(x_:List av×Int):Option (Int×Int):=
 match x_ with
 |(s,b)=>
 fg (s,(s.length:Int),0,b)>>=λo=>match o with
 |.inl o_1=>
 some (o_1.1,o_1.2)
 |.inr o_2=>
 some ((-1),o_2)
theorem D3:FC e219 rX:= .fx .n (.k D0 .n)
def bC(x_:ae×Int):Option (Int×Bool):=
 match x_ with
 |(t,id)=>
 rX (t.Members,id)>>=λr=>some (maxI r.1 0,decide (0<=r.1))
theorem dF:FC e152 bC:= .fx (.k D3 .n)
def cN(x_:Bool×List aK×Int×Int×List ae×ab×Int×List UInt8×Int×Int×Int×List aO×List av×Int×Int×Bool):Option ((Bool) ⊕ (Bool×List ae×Int×Bool×Int×List UInt8×Int×List ab×List ab×List aK×Int×List UInt8×Int×Int×Int×List aO×List av×Int×Int×Bool)):=
 match x_ with
 |(plain_3,t111,t112_1,t113,b_31,b_32,b_33,b_34,b_35,b_36,b_37,b_38,b_39,b_40,b_41,b_42)=>
 if decide (t113<t112_1)=true then if inR t113 t111.length=true then some (t111.getD t113.toNat aE)>>=λx0_4=>bC ((⟨b_33,b_34,b_35,b_36,b_37,b_38,b_39,b_40,b_41,b_42⟩:ae),x0_4.ID)>>=λr_14=>(if(!r_14.2)=true then nr x0_4.ID else some false)>>=λr_17=>some (bif r_14.2 then true else(!r_17))>>=λt131=>some (decide (0<t113))>>=λt134=>some (subI .i64 t113 1)>>=λt141=>if(inR t141 b_32.Rest.length||(!((!t131)&&t134)))=true then if(bif t131 then true else bif t134 then decide (x0_4.ID<=(b_32.Rest.getD t141.toNat aE).ID)else false)=true then some (.inl false)
 else cN (plain_3,t111,t112_1,addI .i64 t113 1,b_31,ab.eta b_32,b_33,b_34,b_35,b_36,b_37,b_38,b_39,b_40,b_41,b_42)
 else none
 else none
 else some (.inr (plain_3,b_31,b_32.Kind,b_32.Bool_,b_32.Int_,b_32.Str,b_32.ID,b_32.Keys,b_32.Items,b_32.Rest,b_33,b_34,b_35,b_36,b_37,b_38,b_39,b_40,b_41,b_42))
  partial_fixpoint
theorem HF:LC 101 0 [0] CX cN:= .rx cN.partial_correctness (.k dF (.k xE .n))
def qU(x0:Int):Option (Bool):=
 some (!(decide (x0=x0)))
theorem Kq:FC e286 qU:= .fx
def qu(x_:Int×Int):Option (Int):=
 match x_ with
 |(x0,y)=>
 qU x0>>=λr=>qU y>>=λr_1=>if r=true then if r_1=true then some 0
 else some (-1)
 else if r_1=true then some 1
 else if decide (x0<y)=true then some (-1)
 else if decide (y<x0)=true then some 1
 else some 0
theorem Ij:FC e223 qu:= .fx (.k Kq .n)
def qv(x0:Int):Option (Bool):=
 some (!(decide (x0=x0)))
theorem Ik:FC e287 qv:= .fx
def mP(x_:Int×Int):Option (Int):=
 match x_ with
 |(x0,y)=>
 qv x0>>=λr=>qv y>>=λr_1=>if r=true then if r_1=true then some 0
 else some (-1)
 else if r_1=true then some 1
 else if decide (x0<y)=true then some (-1)
 else if decide (y<x0)=true then some 1
 else some 0
theorem HH:FC e225 mP:= .fx (.k Ik .n)
def qw(x0:List UInt8):Option (Bool):=
 some (!(decide (x0=x0)))
theorem Il:FC e288 qw:= .fx
def p5(x_:List UInt8×List UInt8):Option (Int):=
 match x_ with
 |(x0,y)=>
 qw x0>>=λr=>qw y>>=λr_1=>if r=true then if r_1=true then some 0
 else some (-1)
 else if r_1=true then some 1
 else if Op.bytesLess x0 y=true then some (-1)
 else if(!(Op.bytesLess x0 y||decide (x0=y)))=true then some 1
 else some 0
theorem HI:FC e226 p5:= .fx (.k Il .n)
def iF(x_:Int×List Int×Int×Int):Option ((Int) ⊕ (Int)):=
 match x_ with
 |(zero_1,t6,t7_1,t8)=>
 if decide (t8<t7_1)=true then if inR t8 t6.length=true then some (t6.getD t8.toNat 0)>>=λx0=>if(!(decide (x0=zero_1)))=true then some (.inl x0)
 else iF (zero_1,t6,t7_1,addI .i64 t8 1)
 else none
 else some (.inr zero_1)
  partial_fixpoint
theorem Kr:LC 224 0 [0] CW iF:= .rx iF.partial_correctness
def rS(vals:List Int):Option (Int):=
 iF (0,vals,(vals.length:Int),0)>>=λo=>match o with
 |.inl o_1=>
 some o_1
 |.inr o_2=>
 some o_2
theorem NS:FC e224 rS:= .fx .n (.k Kr .n)
def kC(n:Int):Option (Int):=
 some (xorI .u64 (shlI .u64 (wrp .u64 n) 1) (wrp .u64 (shrI .i64 n 63)))
theorem wF:FC e158 kC:= .fx
def jv(x_:ab×ab):Option (Int):=
 match x_ with
 |(a,b)=>
 if(!(decide (a.Kind=b.Kind)))=true then some 0
 else if decide (a.Kind=1)=true then if eqB a.Bool_ b.Bool_=true then some 0
 else if b.Bool_=true then some (-1)
 else some 1
 else if decide (a.Kind=2)=true then kC a.Int_>>=λr=>kC b.Int_>>=λr_1=>qu (r,r_1)>>=λr_2=>some r_2
 else if decide (a.Kind=3)=true then mP ((a.Str.length:Int),(b.Str.length:Int))>>=λr_3=>p5 (a.Str,b.Str)>>=λr_4=>rS [r_3,r_4]>>=λr_5=>some r_5
 else if decide (a.Kind=4)=true then mP (a.ID,b.ID)>>=λr_6=>some r_6
 else some 0
theorem HK:FC e154 jv:= .fx (.k wF (.k Ij (.k HH (.k HI (.k NS .n)))))
def dm(x_:Bool×Int×List ae×ab×Int×List UInt8×Int×Int×Int×List aO×List av×Int×Int×Bool):Option ((Bool) ⊕ (Bool×List ae×ab×Int×List UInt8×Int×Int×Int×List aO×List av×Int×Int×Bool)):=
 match x_ with
 |(plain_5,i,b_52,b_53,b_54,b_55,b_56,b_57,b_58,b_59,b_60,b_61,b_62,b_63)=>
 if decide (i<(b_53.Keys.length:Int))=true then some (subI .i64 i 1)>>=λt291=>if inR t291 b_53.Keys.length=true then if inR i b_53.Keys.length=true then jv (ab.eta (b_53.Keys.getD t291.toNat aj),ab.eta (b_53.Keys.getD i.toNat aj))>>=λr_19=>if decide (0<=r_19)=true then some (.inl false)
 else dm (plain_5,addI .i64 i 1,b_52,ab.eta b_53,b_54,b_55,b_56,b_57,b_58,b_59,b_60,b_61,b_62,b_63)
 else none
 else none
 else some (.inr (plain_5,b_52,ab.eta b_53,b_54,b_55,b_56,b_57,b_58,b_59,b_60,b_61,b_62,b_63))
  partial_fixpoint
theorem HL:LC 101 0 [2] CY dm:= .rx dm.partial_correctness (.k HK .n)
mutual
def oU(x_:List ab×List ae×Int×Bool):Option (Bool×List ae×Int×Bool):=
 match x_ with
 |(s,b,b_1,b_2)=>
 rY (s,b,b_1,b_2)>>=λr=>some (decide (0<=r.1),r.2.1,r.2.2.1,r.2.2.2)
  partial_fixpoint
def rY(x_:List ab×List ae×Int×Bool):Option (Int×List ae×Int×Bool):=
 match x_ with
 |(s,b,b_1,b_2)=>
 gk (s,(s.length:Int),0,b,b_1,b_2)>>=λo=>match o with
 |.inl o_1=>
 some (o_1.1,o_1.2.1,o_1.2.2.1,o_1.2.2.2)
 |.inr o_2=>
 some ((-1),o_2.1,o_2.2.1,o_2.2.2)
  partial_fixpoint
def iC(x_:au×Int×List ab×Bool):Option (Bool):=
 match x_ with
 |(s,t,l,plain)=>
 oU (l,s.Types,t,plain)>>=λr=>some (!r.1)
  partial_fixpoint
def ti(x_:ab×List ae×Int×Bool):Option (Bool×List ae×Int×Bool):=
 match x_ with
 |(v,b,b_1,b_2)=>
 cq ((⟨b⟩:au),b_1,ab.eta v,b_2)>>=λr=>some ((!r),b,b_1,b_2)
  partial_fixpoint
def cq(x_:au×Int×ab×Bool):Option (Bool):=
 match x_ with
 |(s,t,v,plain)=>
 if(bif decide (t<0)then true else decide ((s.Types.length:Int)<=t))=true then some false
 else if inR t s.Types.length=true then some (s.Types.getD t.toNat ag)>>=λx0=>some (!(decide (v.Kind=x0.Kind)))>>=λt39=>(if(!t39)=true then qh (ab.eta v)else some false)>>=λr=>if(bif t39 then true else(!r))=true then some false
 else if decide (x0.Kind=2)=true then some (bif decide (x0.Low<=v.Int_)then decide (v.Int_<=x0.High)else false)
 else if decide (x0.Kind=3)=true then some (decide ((v.Str.length:Int)<=x0.Max))
 else if decide (x0.Kind=4)=true then ju (x0,v.ID)>>=λr_1=>some (bif x0.Open then(!plain)else false)>>=λt85=>(if((!r_1.2)&&t85)=true then nr v.ID else some false)>>=λr_4=>some (bif r_1.2 then true else bif t85 then r_4 else false)
 else if decide (x0.Kind=5)=true then if(bif (!(decide ((v.Items.length:Int)=(x0.Members.length:Int))))then true else bif plain then decide (0<(v.Rest.length:Int))else false)=true then some false
 else cN (plain,v.Rest,(v.Rest.length:Int),0,s.Types,ab.eta v,x0.Kind,x0.Name,x0.Low,x0.High,x0.Max,x0.Symbols,x0.Members,x0.Key,x0.Elem,x0.Open)>>=λo=>match o with
 |.inl o_1=>
 some o_1
 |.inr o_2=>
 fH (o_2.1,o_2.2.2.2.2.2.2.2.2.2.2.2.2.2.2.2.2.1,(o_2.2.2.2.2.2.2.2.2.2.2.2.2.2.2.2.2.1.length:Int),0,o_2.2.1,o_2.2.2.1,o_2.2.2.2.1,o_2.2.2.2.2.1,o_2.2.2.2.2.2.1,o_2.2.2.2.2.2.2.1,o_2.2.2.2.2.2.2.2.1,o_2.2.2.2.2.2.2.2.2.1,o_2.2.2.2.2.2.2.2.2.2.1)>>=λo_3=>match o_3 with
 |.inl o_4=>
 some o_4
 |.inr o_5=>
 some true
 else if decide (x0.Kind=6)=true then bC (x0,v.ID)>>=λr_5=>if r_5.2=true then some (bif decide ((v.Items.length:Int)=1)then decide ((v.Rest.length:Int)=0)else false)>>=λt188=>if(inR r_5.1 x0.Members.length||(!t188))=true then if(inR 0 v.Items.length||(!t188))=true then (if t188=true then cq ((⟨s.Types⟩:au),(x0.Members.getD r_5.1.toNat af).Type_,ab.eta (v.Items.getD (0:Int).toNat aj),plain)else some false)>>=λr_8=>some (bif t188 then r_8 else false)
 else none
 else none
 else some (bif x0.Open then(!plain)else false)>>=λt209=>(if t209=true then nr v.ID else some false)>>=λr_9=>some (bif bif bif t209 then r_9 else false then decide ((v.Items.length:Int)=0)else false then decide ((v.Rest.length:Int)=1)else false)>>=λt226=>if(inR 0 v.Rest.length||(!t226))=true then some (bif t226 then decide ((v.Rest.getD (0:Int).toNat aE).ID=v.ID)else false)
 else none
 else if decide (x0.Kind=7)=true then some (decide ((v.Items.length:Int)<=x0.Max))>>=λt244=>(if t244=true then iC ((⟨s.Types⟩:au),x0.Elem,v.Items,plain)else some false)>>=λr_10=>some (bif t244 then r_10 else false)
 else if decide (x0.Kind=8)=true then some (bif decide (x0.Max<(v.Keys.length:Int))then true else(!(decide ((v.Items.length:Int)=(v.Keys.length:Int)))))>>=λt270=>(if(!t270)=true then iC ((⟨s.Types⟩:au),x0.Key,v.Keys,plain)else some false)>>=λr_11=>if(bif t270 then true else(!r_11))=true then some false
 else dm (plain,1,s.Types,ab.eta v,x0.Kind,x0.Name,x0.Low,x0.High,x0.Max,x0.Symbols,x0.Members,x0.Key,x0.Elem,x0.Open)>>=λo_6=>match o_6 with
 |.inl o_7=>
 some o_7
 |.inr o_8=>
 iC ((⟨o_8.2.1⟩:au),o_8.2.2.2.2.2.2.2.2.2.2.2.1,o_8.2.2.1.Items,o_8.1)>>=λr_12=>some r_12
 else if decide (x0.Kind=9)=true then some (decide ((v.Items.length:Int)<=1))>>=λt313=>(if t313=true then iC ((⟨s.Types⟩:au),x0.Elem,v.Items,plain)else some false)>>=λr_13=>some (bif t313 then r_13 else false)
 else some true
 else none
  partial_fixpoint
def gk(x_:List ab×Int×Int×List ae×Int×Bool):Option ((Int×List ae×Int×Bool) ⊕ (List ae×Int×Bool)):=
 match x_ with
 |(s_1,t7_1,t8,b_9,b_10,b_11)=>
 if decide (t8<t7_1)=true then if inR t8 s_1.length=true then ti (ab.eta (s_1.getD t8.toNat aj),b_9,b_10,b_11)>>=λr=>if r.1=true then some (.inl (t8,r.2.1,r.2.2.1,r.2.2.2))
 else gk (s_1,t7_1,addI .i64 t8 1,r.2.1,r.2.2.1,r.2.2.2)
 else none
 else some (.inr (b_9,b_10,b_11))
  partial_fixpoint
def fH(x_:Bool×List av×Int×Int×List ae×Int×Bool×Int×List UInt8×Int×List ab×List ab×List aK):Option ((Bool) ⊕ (Unit)):=
 match x_ with
 |(plain_4,t150,t151_1,t152,b_43,b_44,b_45,b_46,b_47,b_48,b_49,b_50,b_51)=>
 if decide (t152<t151_1)=true then if inR t152 t150.length=true then if inR t152 b_50.length=true then cq ((⟨b_43⟩:au),(t150.getD t152.toNat af).Type_,ab.eta (b_50.getD t152.toNat aj),plain_4)>>=λr_18=>if(!r_18)=true then some (.inl false)
 else fH (plain_4,t150,t151_1,addI .i64 t152 1,b_43,b_44,b_45,b_46,b_47,b_48,b_49,b_50,b_51)
 else none
 else none
 else some (.inr ())
  partial_fixpoint
end
theorem D1:FZ e221 oU/\FZ e285 rY/\LZ 285 3 [0] oy gk/\FZ e222 ti/\FZ e101 cq/\FZ e153 iC/\LZ 101 0 [1] oz fH:=oU.mutual_partial_correctness (FD e221) (FD e285) (LD 285 3 [0] oy) (FD e222) (FD e101) (FD e153) (LD 101 0 [1] oz)
 (λ_ h1 _ _ h=>FB h (.k (FG e285 h1) .n))
 (λ_ h2 _ _ h=>FB h .n (.k (LG oy h2) .n))
 (λ_ _ h2 h3 _ _ h=>LB oy h2 h (.k (FG e222 h3) .n))
 (λ_ h4 _ _ h=>FB h (.k (FG e101 h4) .n))
 (λ_ _ _ h4 h5 h6 _ _ h=>FB h (.k H4 (.k sC (.k xE (.k dF (.k (FG e101 h4) (.k (FG e153 h5) .n)))))) (.k HF (.k (LG oz h6) (.k HL .n))))
 (λ_ h0 _ _ h=>FB h (.k (FG e221 h0) .n))
 (λ_ _ h4 h6 _ _ h=>LB oz h6 h (.k (FG e101 h4) .n))
theorem xF:FC e101 cq:=FG _ D1.2.2.2.2.1
def kM(x_:au×Int×ab):Option (Bool):=
 match x_ with
 |(s,t,v)=>
 cq (s,t,ab.eta v,true)>>=λr=>some r
theorem xh:FC e54 kM:= .fx (.k xF .n)
def gG(x_:Int×List ae×Int×Int×List av×Int×Int×List ae):Option ((Int×Int×Int) ⊕ (List ae×Int×Int×List ae)):=
 match x_ with
 |(i,t16_2,t17_3,t18_2,t24,t25_1,t26,b_2)=>
 if decide (t26<t25_1)=true then if inR t26 t24.length=true then some (t24.getD t26.toNat af)>>=λx0_1=>(if x0_1.HasDefault=true then kM ((⟨b_2⟩:au),x0_1.Type_,ab.eta x0_1.Default)else some false)>>=λr_1=>if(bif x0_1.HasDefault then(!r_1)else false)=true then some (.inl (i,x0_1.ID,1))
 else gG (i,t16_2,t17_3,t18_2,t24,t25_1,addI .i64 t26 1,b_2)
 else none
 else some (.inr (t16_2,t17_3,t18_2,b_2))
  partial_fixpoint
theorem E5:LC 270 0 [0,0] AM gG:= .rx gG.partial_correctness (.k xh .n)
def gS(x_:List ae×Int×Int×List ae):Option ((Int×Int×Int) ⊕ (Unit)):=
 match x_ with
 |(t16,t17_1,t18,b)=>
 if decide (t18<t17_1)=true then if inR t18 t16.length=true then some (t16.getD t18.toNat ag)>>=λx0=>gG (t18,t16,t17_1,t18,x0.Members,(x0.Members.length:Int),0,b)>>=λo_3=>match o_3 with
 |.inl o_4=>
 some (.inl (o_4.1,o_4.2.1,o_4.2.2))
 |.inr o_5=>
 gS (o_5.1,o_5.2.1,addI .i64 o_5.2.2.1 1,o_5.2.2.2)
 else none
 else some (.inr ())
  partial_fixpoint
theorem Gc:LC 270 0 [0] CZ gS:= .rx gS.partial_correctness .n (.k E5 .n)
def sQ(s:au):Option (Int×Int×Int):=
 im s>>=λr=>if(!(decide (r=0)))=true then some (0,0,r)
 else gS (s.Types,(s.Types.length:Int),0,s.Types)>>=λo=>match o with
 |.inl o_1=>
 some (o_1.1,o_1.2.1,o_1.2.2)
 |.inr o_2=>
 some (0,0,0)
theorem Ho:FC e270 sQ:= .fx (.k pS .n) (.k Gc .n)
def p6(s:au):Option (Int):=
 im s>>=λr=>if(!(decide (r=0)))=true then some r
 else sQ s>>=λr_1=>some r_1.2.2
theorem HM:FC e197 p6:= .fx (.k pS (.k Ho .n))
def gY(x_:Int×List av×Int×Int×List Int):Option (Int×List Int):=
 match x_ with
 |(c_2,t33,t34_1,t35,b_3)=>
 if decide (t35<t34_1)=true then if inR t35 t33.length=true then some (t33.getD t35.toNat af)>>=λx0_1=>if inR x0_1.Type_ b_3.length=true then if decide (x0_1.Type_.toNat<b_3.length)=true then gY (minI 2 (mulI .i64 c_2 (b_3.getD x0_1.Type_.toNat 0)),t33,t34_1,addI .i64 t35 1,b_3)
 else none
 else none
 else none
 else some (c_2,b_3)
  partial_fixpoint
theorem GC:LC 271 1 [0] C0 gY:= .rx gY.partial_correctness
def gZ(x_:Int×List av×Int×Int×List Int):Option (Int×List Int):=
 match x_ with
 |(c_3,t52,t53_1,t54,b_4)=>
 if decide (t54<t53_1)=true then if inR t54 t52.length=true then some (t52.getD t54.toNat af)>>=λx0_2=>if inR x0_2.Type_ b_4.length=true then if decide (x0_2.Type_.toNat<b_4.length)=true then gZ (addI .i64 c_3 (b_4.getD x0_2.Type_.toNat 0),t52,t53_1,addI .i64 t54 1,b_4)
 else none
 else none
 else none
 else some (c_3,b_4)
  partial_fixpoint
theorem GD:LC 271 1 [1] C1 gZ:= .rx gZ.partial_correctness
def p7(x_:ae×List Int):Option (Int×List Int):=
 match x_ with
 |(x0,b)=>
 if decide (x0.Kind=2)=true then if decide (x0.Low=x0.High)=true then some (1,b)
 else some (2,b)
 else if decide (x0.Kind=3)=true then if decide (x0.Max=0)=true then some (1,b)
 else some (2,b)
 else if decide (x0.Kind=4)=true then some ((x0.Symbols.length:Int),b)
 else if decide (x0.Kind=5)=true then gY (1,x0.Members,(x0.Members.length:Int),0,b)>>=λo=>some (o.1,o.2)
 else if decide (x0.Kind=6)=true then gZ (0,x0.Members,(x0.Members.length:Int),0,b)>>=λo_1=>some (o_1.1,o_1.2)
 else if decide (x0.Kind=7)=true then some (decide (x0.Max=0))>>=λt71=>if(inR x0.Elem b.length||(!(!t71)))=true then if(decide (x0.Elem.toNat<b.length)||(!(!t71)))=true then if(bif t71 then true else decide (b.getD x0.Elem.toNat 0=0))=true then some (1,b)
 else some (2,b)
 else none
 else none
 else if decide (x0.Kind=8)=true then some (decide (x0.Max=0))>>=λt84=>if(inR x0.Elem b.length||(!(!t84)))=true then if(decide (x0.Elem.toNat<b.length)||(!(!t84)))=true then some (bif t84 then true else decide (b.getD x0.Elem.toNat 0=0))>>=λt92=>if(inR x0.Key b.length||(!(!t92)))=true then if(decide (x0.Key.toNat<b.length)||(!(!t92)))=true then if(bif t92 then true else decide (b.getD x0.Key.toNat 0=0))=true then some (1,b)
 else some (2,b)
 else none
 else none
 else none
 else none
 else if decide (x0.Kind=9)=true then if inR x0.Elem b.length=true then if decide (x0.Elem.toNat<b.length)=true then some (addI .i64 1 (b.getD x0.Elem.toNat 0),b)
 else none
 else none
 else some (2,b)
theorem HN:FC e271 p7:= .fx .n (.k GC (.k GD .n))
def fA(x_:Bool×List ae×Int×Int×List ae×List Int):Option (Bool×List ae×List Int):=
 match x_ with
 |(changed_2,t14,t15_1,t16,b_5,b_6)=>
 if decide (t16<t15_1)=true then if inR t16 t14.length=true then p7 (t14.getD t16.toNat ag,b_6)>>=λr=>if(decide (r.2.length=b_6.length)&&true)=true then some (minI 2 r.1)>>=λt24=>if inR t16 r.2.length=true then if decide (t16.toNat<r.2.length)=true then if(!(decide (t24=r.2.getD t16.toNat 0)))=true then if inR t16 r.2.length=true then if decide (t16.toNat<r.2.length)=true then fA (true,t14,t15_1,addI .i64 t16 1,b_5,r.2.set t16.toNat t24)
 else none
 else none
 else fA (changed_2,t14,t15_1,addI .i64 t16 1,b_5,r.2)
 else none
 else none
 else none
 else none
 else some (changed_2,b_5,b_6)
  partial_fixpoint
theorem E6:LC 198 0 [0,0] AN fA:= .rx fA.partial_correctness (.k HN .n)
def je(x_:Bool×List ae×List Int):Option (List Int):=
 match x_ with
 |(changed,b_1,b_2)=>
 if changed=true then fA (false,b_1,(b_1.length:Int),0,b_1,b_2)>>=λo_1=>je (o_1.1,o_1.2.1,o_1.2.2)
 else some b_2
  partial_fixpoint
theorem Gd:LC 198 0 [0] C2 je:= .rx je.partial_correctness .n (.k E6 .n)
def pT(s:au):Option (List Int):=
 some (s.Types.length:Int)>>=λt10=>if mkR 8 t10=true then je (true,s.Types,List.replicate t10.toNat 0)>>=λo=>some o
 else none
theorem Hp:FC e198 pT:= .fx .n (.k Gd .n)
def gT(x_:List Int×Int×Int×List Bool):Option (List Bool):=
 match x_ with
 |(t14,t15_1,t16,b_1)=>
 if decide (t16<t15_1)=true then if inR t16 t14.length=true then some [decide (0<t14.getD t16.toNat 0)]>>=λt23=>if room 1 (b_1++t23).length=true then gT (t14,t15_1,addI .i64 t16 1,b_1++t23)
 else none
 else none
 else some b_1
  partial_fixpoint
theorem Ge:LC 141 0 [0] C3 gT:= .rx gT.partial_correctness
def sR(s:au):Option (List Bool×Int):=
 p6 s>>=λr=>if(!(decide (r=0)))=true then some ([],r)
 else pT s>>=λr_1=>gT (r_1,(r_1.length:Int),0,[])>>=λo=>some (o,0)
theorem Hq:FC e141 sR:= .fx (.k HM (.k Hp .n)) (.k Ge .n)
def hU(x_:List Bool×Int×Int):Option ((Int) ⊕ (Unit)):=
 match x_ with
 |(t15,t16_1,t17)=>
 if decide (t17<t16_1)=true then if inR t17 t15.length=true then if(!(t15.getD t17.toNat false))=true then some (.inl 10)
 else hU (t15,t16_1,addI .i64 t17 1)
 else none
 else some (.inr ())
  partial_fixpoint
theorem GF:LC 89 0 [0] e89_0 hU:= .rx hU.partial_correctness
def mQ(s:au):Option (Int):=
 sR s>>=λr=>if(!(decide (r.2=0)))=true then some r.2
 else hU (r.1,(r.1.length:Int),0)>>=λo=>match o with
 |.inl o_1=>
 some o_1
 |.inr o_2=>
 some 0
theorem wG:FC e89 mQ:= .fx (.k Hq .n) (.k GF .n)
def mR(r:aI):Option (Bool):=
 mQ r.Schema>>=λr_1=>some (bif bif decide (r_1=0)then decide (0<=r.Type_)else false then decide (r.Type_<(r.Schema.Types.length:Int))else false)
theorem HO:FC e37 mR:= .fx (.k wG .n)
def ed(x_:List aw×Int×Int×aw):Option ((Int) ⊕ (Unit)):=
 match x_ with
 |(s_1,t7_1,t8,b)=>
 if decide (t8<t7_1)=true then if inR t8 s_1.length=true then some (s_1.getD t8.toNat aG)>>=λx0=>if(eqI b.A0 x0.A0&&(eqI b.A1 x0.A1&&true))=true then some (.inl t8)
 else ed (s_1,t7_1,addI .i64 t8 1,b)
 else none
 else some (.inr ())
  partial_fixpoint
theorem Ep:LC 90 0 [0] BP ed:= .rx ed.partial_correctness
def r9(x_:List aw×aw):Option (Int):=
 match x_ with
 |(s,v)=>
 ed (s,(s.length:Int),0,v)>>=λo=>match o with
 |.inl o_1=>
 some o_1
 |.inr o_2=>
 some (-1)
theorem E7:FC e90_a r9:= .fx .n (.k Ep .n)
def lS(x_:List aw×aw):Option (Bool):=
 match x_ with
 |(s,v)=>
 r9 (s,v)>>=λr=>some (decide (0<=r))
theorem Er:FC e38_a lS:= .fx (.k E7 .n)
def si(p:bp):Option (aw):=
 some (⟨p.w.Type_,p.r.Type_⟩:aw)
theorem FM:FC e39 si:= .fx
def mH(x_:au×Int):Option (Int):=
 match x_ with
 |(s,t)=>
 mQ s>>=λr=>if(!(decide (r=0)))=true then some r
 else if(bif decide (t<0)then true else decide ((s.Types.length:Int)<=t))=true then some 4
 else some 0
theorem Hr:FC e199 mH:= .fx (.k wG .n)
def mS(x_:aI×aI):Option (Int):=
 match x_ with
 |(w,r)=>
 mH (w.Schema,w.Type_)>>=λr_1=>if(!(decide (r_1=0)))=true then some r_1
 else mH (r.Schema,r.Type_)>>=λr_2=>some r_2
theorem wH:FC e142 mS:= .fx (.k Hr .n)
def mT(x0:ae):Option (Int):=
 if decide (x0.Kind=1)=true then some 2
 else if decide (x0.Kind=2)=true then some (subI .u64 (wrp .u64 x0.High) (wrp .u64 x0.Low))>>=λt16=>if decide (t16<2147483647)=true then some (addI .i64 (wrp .i64 t16) 1)
 else some 2147483647
 else if decide (x0.Kind=4)=true then some (x0.Symbols.length:Int)
 else if decide (x0.Kind=3)=true then if decide (x0.Max=0)=true then some 1
 else some 2147483647
 else some 2147483647
theorem HP:FC e200 mT:= .fx
def gH(x_:List aO×Int×Int×ae×ae):Option ((Bool) ⊕ (ae×ae)):=
 match x_ with
 |(t16,t17_1,t18,b_2,b_3)=>
 if decide (t18<t17_1)=true then if inR t18 t16.length=true then ju (b_3,(t16.getD t18.toNat aT).ID)>>=λr=>if(!r.2)=true then some (.inl false)
 else gH (t16,t17_1,addI .i64 t18 1,b_2,b_3)
 else none
 else some (.inr (b_2,b_3))
  partial_fixpoint
theorem E9:LC 201 0 [0] C4 gH:= .rx gH.partial_correctness (.k sC .n)
def gI(x_:List av×Int×Int×ae):Option ((Bool) ⊕ (Unit)):=
 match x_ with
 |(t33,t34_1,t35,b_4)=>
 if decide (t35<t34_1)=true then if inR t35 t33.length=true then bC (b_4,(t33.getD t35.toNat af).ID)>>=λr_3=>if(!r_3.2)=true then some (.inl false)
 else gI (t33,t34_1,addI .i64 t35 1,b_4)
 else none
 else some (.inr ())
  partial_fixpoint
theorem Fa:LC 201 0 [1] C5 gI:= .rx gI.partial_correctness (.k dF .n)
def mu(x_:ae×ae):Option (Bool):=
 match x_ with
 |(x0,y)=>
 if y.Open=true then some true
 else gH (x0.Symbols,(x0.Symbols.length:Int),0,x0,y)>>=λo=>match o with
 |.inl o_1=>
 some o_1
 |.inr o_2=>
 gI (o_2.1.Members,(o_2.1.Members.length:Int),0,o_2.2)>>=λo_3=>match o_3 with
 |.inl o_4=>
 some o_4
 |.inr o_5=>
 some true
theorem GG:FC e201 mu:= .fx .n (.k E9 (.k Fa .n))
def mL(x_:au×Int):Option (Int):=
 match x_ with
 |(s,t)=>
 im s>>=λr=>if(!(decide (r=0)))=true then some r
 else if(bif decide (t<0)then true else decide ((s.Types.length:Int)<=t))=true then some 4
 else some 0
theorem Ht:FC e162 mL:= .fx (.k pS .n)
def p8(x_:au×Int×ab×au×Int):Option (Int):=
 match x_ with
 |(w,wt,v,r,rt)=>
 mL (w,wt)>>=λr_1=>if(!(decide (r_1=0)))=true then some r_1
 else mL (r,rt)>>=λr_2=>if(!(decide (r_2=0)))=true then some r_2
 else kM (w,wt,ab.eta v)>>=λr_3=>if(!r_3)=true then some 1
 else some 0
theorem HQ:FC e104 p8:= .fx (.k Ht (.k xh .n))
def jf(x_:List ae×List ae×List Int×List Int):Option (ab×Bool×List ae×List ae×List Int×List Int):=
 match x_ with
 |(b,b_1,b_2,b_3)=>
 ou 8 b_3>>=λr=>if(decide (r.1.length=b_3.length)&&true)=true then some ((⟨0,false,0,[],0,[],[],[]⟩:ab),false,b,b_1,r.1,r.2)
 else none
theorem vY:FC e163 jf:= .fx (.k da .n)
def j8(x_:Int×List ae×List ae×List Int×List Int):Option (ab×Bool×List ae×List ae×List Int×List Int):=
 match x_ with
 |(id,b,b_1,b_2,b_3)=>
 ou 8 b_3>>=λr=>if(decide (r.1.length=b_3.length)&&true)=true then some [id]>>=λt13=>if room 8 (r.2++t13).length=true then some ((⟨0,false,0,[],0,[],[],[]⟩:ab),false,b,b_1,r.1,r.2++t13)
 else none
 else none
theorem vQ:FC e233 j8:= .fx (.k da .n)
mutual
def cp(v:ab):Option (ab):=
 bg 120 v.Keys>>=λr=>bg 120 v.Items>>=λr_1=>bg 24 v.Rest>>=λr_2=>jg ((r.length:Int),0,v.Kind,v.Bool_,v.Int_,v.Str,v.ID,0,false,0,[],0,r,r_1,r_2)>>=λo=>jh ((o.2.2.2.2.2.2.2.2.2.2.2.1.length:Int),0,o.1,o.2.1,o.2.2.1,o.2.2.2.1,o.2.2.2.2.1,o.2.2.2.2.2.1,o.2.2.2.2.2.2.1,o.2.2.2.2.2.2.2.1,o.2.2.2.2.2.2.2.2.1,o.2.2.2.2.2.2.2.2.2.1,o.2.2.2.2.2.2.2.2.2.2.2.1,o.2.2.2.2.2.2.2.2.2.2.1,o.2.2.2.2.2.2.2.2.2.2.2.2)>>=λo_1=>some (⟨o_1.1,o_1.2.1,o_1.2.2.1,o_1.2.2.2.1,o_1.2.2.2.2.1,o_1.2.2.2.2.2.2.2.2.2.2.1,o_1.2.2.2.2.2.2.2.2.2.2.2.1,o_1.2.2.2.2.2.2.2.2.2.2.2.2⟩:ab)
  partial_fixpoint
def jg(x_:Int×Int×Int×Bool×Int×List UInt8×Int×Int×Bool×Int×List UInt8×Int×List ab×List ab×List aK):Option (Int×Bool×Int×List UInt8×Int×Int×Bool×Int×List UInt8×Int×List ab×List ab×List aK):=
 match x_ with
 |(t21_1,t22,b_26,b_27,b_28,b_29,b_30,b_31,b_32,b_33,b_34,b_35,b_36,b_37,b_38)=>
 if decide (t22<t21_1)=true then if inR t22 b_36.length=true then if decide (t22.toNat<b_36.length)=true then cp (ab.eta (b_36.getD t22.toNat aj))>>=λr_3=>if inR t22 b_36.length=true then if decide (t22.toNat<b_36.length)=true then jg (t21_1,addI .i64 t22 1,b_26,b_27,b_28,b_29,b_30,b_31,b_32,b_33,b_34,b_35,b_36.set t22.toNat (ab.eta r_3),b_37,b_38)
 else none
 else none
 else none
 else none
 else some (b_26,b_27,b_28,b_29,b_30,b_31,b_32,b_33,b_34,b_35,b_36,b_37,b_38)
  partial_fixpoint
def jh(x_:Int×Int×Int×Bool×Int×List UInt8×Int×Int×Bool×Int×List UInt8×Int×List ab×List ab×List aK):Option (Int×Bool×Int×List UInt8×Int×Int×Bool×Int×List UInt8×Int×List ab×List ab×List aK):=
 match x_ with
 |(t36_1,t37,b_39,b_40,b_41,b_42,b_43,b_44,b_45,b_46,b_47,b_48,b_49,b_50,b_51)=>
 if decide (t37<t36_1)=true then if inR t37 b_49.length=true then if decide (t37.toNat<b_49.length)=true then cp (ab.eta (b_49.getD t37.toNat aj))>>=λr_4=>if inR t37 b_49.length=true then if decide (t37.toNat<b_49.length)=true then jh (t36_1,addI .i64 t37 1,b_39,b_40,b_41,b_42,b_43,b_44,b_45,b_46,b_47,b_48,b_49.set t37.toNat (ab.eta r_4),b_50,b_51)
 else none
 else none
 else none
 else none
 else some (b_39,b_40,b_41,b_42,b_43,b_44,b_45,b_46,b_47,b_48,b_50,b_49,b_51)
  partial_fixpoint
end
theorem GH:FZ e234 cp/\LZ 234 0 [1] oB jh/\LZ 234 0 [0] oA jg:=cp.mutual_partial_correctness (FD e234) (LD 234 0 [1] oB) (LD 234 0 [0] oA)
 (λ_ _ h1 h2 _ _ h=>FB h (.k dw (.k dz .n)) (.k (LG oA h2) (.k (LG oB h1) .n)))
 (λ_ _ h0 h1 _ _ h=>LB oB h1 h (.k (FG e234 h0) .n))
 (λ_ _ h0 h2 _ _ h=>LB oA h2 h (.k (FG e234 h0) .n))
theorem Hu:FC e234 cp:=FG _ GH.1
mutual
def j5(x_:List ab×List ab):Option (Bool):=
 match x_ with
 |(s1,s2)=>
 if(!(decide ((s1.length:Int)=(s2.length:Int))))=true then some false
 else j3 (s2,s1,(s1.length:Int),0)>>=λo=>match o with
 |.inl o_1=>
 some o_1
 |.inr o_2=>
 some true
  partial_fixpoint
def dL(x_:ab×ab):Option (Bool):=
 match x_ with
 |(a,b)=>
 some (bif bif bif bif decide (a.Kind=b.Kind)then eqB a.Bool_ b.Bool_ else false then decide (a.Int_=b.Int_)else false then decide (a.Str=b.Str)else false then decide (a.ID=b.ID)else false)>>=λt37=>(if t37=true then lQ (a.Rest,b.Rest)else some false)>>=λr=>some (bif t37 then r else false)>>=λt44=>(if t44=true then j5 (a.Keys,b.Keys)else some false)>>=λr_1=>some (bif t44 then r_1 else false)>>=λt51=>(if t51=true then j5 (a.Items,b.Items)else some false)>>=λr_2=>some (bif t51 then r_2 else false)
  partial_fixpoint
def j3(x_:List ab×List ab×Int×Int):Option ((Bool) ⊕ (Unit)):=
 match x_ with
 |(s2_1,t15,t16_1,t17)=>
 if decide (t17<t16_1)=true then if inR t17 t15.length=true then if inR t17 s2_1.length=true then dL (ab.eta (t15.getD t17.toNat aj),ab.eta (s2_1.getD t17.toNat aj))>>=λr=>if(!r)=true then some (.inl false)
 else j3 (s2_1,t15,t16_1,addI .i64 t17 1)
 else none
 else none
 else some (.inr ())
  partial_fixpoint
end
theorem DY:FZ rR j5/\LZ 317 0 [0] nN j3/\FZ e272 dL:=j5.mutual_partial_correctness (FD rR) (LD 317 0 [0] nN) (FD e272)
 (λ_ h1 _ _ h=>FB h .n (.k (LG nN h1) .n))
 (λ_ _ h1 h2 _ _ h=>LB nN h1 h (.k (FG e272 h2) .n))
 (λ_ h0 _ _ h=>FB h (.k vH (.k (FG rR h0) .n)))
theorem sX:FC e272 dL:=FG _ DY.2.2
def ji(x_:av×ab):Option (Bool):=
 match x_ with
 |(m,item)=>
 (if m.HasDefault=true then dL (ab.eta item,ab.eta m.Default)else some false)>>=λr=>some (bif m.HasDefault then r else false)
theorem sd:FC e236 ji:= .fx (.k sX .n)
def sS(x_:au×Int):Option (Int):=
 match x_ with
 |(s,t)=>
 im (⟨s.Types⟩:au)>>=λr=>if(!(decide (r=0)))=true then some r
 else if(bif decide (t<0)then true else decide ((s.Types.length:Int)<=t))=true then some 4
 else some 0
theorem Hv:FC e155 sS:= .fx (.k pS .n)
def qL(x_:au×Int×ab):Option (Bool):=
 match x_ with
 |(s,t,v)=>
 cq ((⟨s.Types⟩:au),t,ab.eta v,false)>>=λr=>some r
theorem IT:FC e156 qL:= .fx (.k xF .n)
def pU(x_:au×Int×ab):Option (Int):=
 match x_ with
 |(s,t,v)=>
 sS ((⟨s.Types⟩:au),t)>>=λr=>if(!(decide (r=0)))=true then some r
 else qL ((⟨s.Types⟩:au),t,ab.eta v)>>=λr_1=>if(!r_1)=true then some 1
 else some 0
theorem Hw:FC e102 pU:= .fx (.k Hv (.k IT .n))
def jw(x_:Int×Int×List Int):Option (Int×Int×List Int):=
 match x_ with
 |(n_2,i_1,b_1)=>
 if decide (128<=n_2)=true then if inR i_1 10=true then if decide (i_1.toNat<b_1.length)=true then jw (shrI .u64 n_2 7,addI .i64 i_1 1,b_1.set i_1.toNat (orI .u8 (wrp .u8 n_2) 128))
 else none
 else none
 else some (n_2,i_1,b_1)
  partial_fixpoint
theorem HT:LC 231 0 [0] C6 jw:= .rx jw.partial_correctness
def fP(n:Int):Option (List UInt8):=
 jw (n,0,[0,0,0,0,0,0,0,0,0,0])>>=λo=>if inR o.2.1 10=true then if decide (o.2.1.toNat<o.2.2.length)=true then some (o.2.2.set o.2.1.toNat (wrp .u8 o.1))>>=λl_1=>some (addI .i64 o.2.1 1)>>=λt21=>if slR 0 t21 10=true then if subR (0:Int).toNat t21.toNat l_1.length=true then some (strOf ((l_1.drop (0:Int).toNat).take t21.toNat))
 else none
 else none
 else none
 else none
theorem mX:FC e231 fP:= .fx .n (.k HT .n)
def iq(p:List UInt8):Option (List UInt8):=
 fP (wrp .u64 (p.length:Int))>>=λr=>if decide (r.length+p.length<=aX)=true then some (r++p)
 else none
theorem wV:FC e161 iq:= .fx (.k mX .n)
def lR(x_:List UInt8×List UInt8):Option (Int×List UInt8):=
 match x_ with
 |(s,b)=>
 some b>>=λr=>if(decide (r.length=b.length)&&true)=true then if room 1 (r.length+s.length)=true then some ((s.length:Int),catS r s)
 else none
 else none
theorem vI:FC e69 lR:= .fx (.k dE .n)
def kF(x_:Int×Bool×List UInt8):Option (List UInt8):=
 match x_ with
 |(id,critical,p)=>
 some (mulI .u64 2 (wrp .u64 id))>>=λt10=>if critical=true then fP (addI .u64 t10 1)>>=λr=>iq p>>=λr_1=>if decide (r.length+r_1.length<=aX)=true then some (r++r_1)
 else none
 else fP t10>>=λr_2=>iq p>>=λr_3=>if decide (r_2.length+r_3.length<=aX)=true then some (r_2++r_3)
 else none
theorem sT:FC e228 kF:= .fx (.k mX (.k wV .n))
def wW(x_:av×ab):Option (Bool):=
 match x_ with
 |(m,v)=>
 (if m.HasDefault=true then dL (ab.eta m.Default,ab.eta v)else some false)>>=λr=>some (bif m.HasDefault then r else false)
theorem Hx:FC e227 wW:= .fx (.k sX .n)
def oZ(x_:List aK×Int×Int×List ae×Int×List bP):Option (List ae×Int×List bP):=
 match x_ with
 |(t57,t58_1,t59,b_16,b_17,b_18)=>
 if decide (t59<t58_1)=true then if inR t59 t57.length=true then some (t57.getD t59.toNat aE)>>=λx0_4=>kF (x0_4.ID,false,x0_4.Data)>>=λr_8=>some [(⟨x0_4.ID,r_8⟩:bP)]>>=λt72=>if room 24 (b_18++t72).length=true then oZ (t57,t58_1,addI .i64 t59 1,b_16,b_17,b_18++t72)
 else none
 else none
 else some (b_16,b_17,b_18)
  partial_fixpoint
theorem Ef:LC 159 1 [1] C8 oZ:= .rx oZ.partial_correctness (.k sT .n)
def o0(x_:Int×Int×List ae×Int×List bP×List UInt8):Option (List ae×Int×List UInt8):=
 match x_ with
 |(t78_1,t79,b_19,b_20,b_21,b_22)=>
 if decide (t79<t78_1)=true then if inR t79 b_21.length=true then if decide (t79.toNat<b_21.length)=true then lR ((b_21.getD t79.toNat qf).text,b_22)>>=λr_9=>o0 (t78_1,addI .i64 t79 1,b_19,b_20,b_21,r_9.2)
 else none
 else none
 else some (b_19,b_20,b_22)
  partial_fixpoint
theorem Eg:LC 159 1 [2] C9 o0:= .rx o0.partial_correctness (.k vI .n)
def rZ(b:List UInt8):Option (List UInt8):=
 if eqI (b.length:Int) (b.length:Int)=true then some b
 else none
theorem vL:FC e71 rZ:= .fx
def jx(x_:Int×Int×List Int):Option (Int×List Int):=
 match x_ with
 |(n_1,i_1,b_1)=>
 if decide (0<n_1)=true then some (subI .i64 i_1 1)>>=λt10=>if inR t10 8=true then if decide (t10.toNat<b_1.length)=true then jx (shrI .u64 n_1 8,t10,b_1.set t10.toNat (wrp .u8 n_1))
 else none
 else none
 else some (i_1,b_1)
  partial_fixpoint
theorem HU:LC 157 0 [0] C7 jx:= .rx jx.partial_correctness
def nu(n:Int):Option (List UInt8):=
 jx (n,8,[0,0,0,0,0,0,0,0])>>=λo=>if slR o.1 8 8=true then if subR o.1.toNat ((8:Int).toNat-o.1.toNat) o.2.length=true then some (strOf ((o.2.drop o.1.toNat).take ((8:Int).toNat-o.1.toNat)))
 else none
 else none
theorem IU:FC e157 nu:= .fx .n (.k HU .n)
mutual
def cY(x_:Int×ab×Int×List ae×Int):Option (List UInt8×List ae×Int):=
 match x_ with
 |(t,v,level,b,b_1)=>
 some (maxI b_1 level)>>=λt19=>if inR t b.length=true then some (b.getD t.toNat ag)>>=λx0=>if decide (x0.Kind=1)=true then if v.Bool_=true then some ([1],b,t19)
 else some ([],b,t19)
 else if decide (x0.Kind=2)=true then kC v.Int_>>=λr=>nu r>>=λr_1=>some (r_1,b,t19)
 else if decide (x0.Kind=3)=true then some (v.Str,b,t19)
 else if decide (x0.Kind=4)=true then nu (wrp .u64 v.ID)>>=λr_2=>some (r_2,b,t19)
 else if decide (x0.Kind=5)=true then vT (x0,ab.eta v,level,b,t19)>>=λr_3=>some (r_3.1,r_3.2.1,r_3.2.2)
 else if decide (x0.Kind=6)=true then vZ (x0,ab.eta v,level,b,t19)>>=λr_7=>some (r_7.1,r_7.2.1,r_7.2.2)
 else if decide (x0.Kind=9)=true then if decide ((v.Items.length:Int)=0)=true then some ([],b,t19)
 else if inR 0 v.Items.length=true then cY (x0.Elem,ab.eta (v.Items.getD (0:Int).toNat aj),addI .i64 level 1,b,t19)>>=λr_11=>if decide ([1].length+r_11.1.length<=aX)=true then some ([1]++r_11.1,r_11.2.1,r_11.2.2)
 else none
 else none
 else oW (level,v.Items,(v.Items.length:Int),0,b,t19,ab.eta v,x0,[])>>=λo=>rZ o.2.2>>=λr_15=>some (r_15,o.1,o.2.1)
 else none
  partial_fixpoint
def vT(x_:ae×ab×Int×List ae×Int):Option (List UInt8×List ae×Int):=
 match x_ with
 |(x0,v,level,b,b_1)=>
 o7 (level,x0.Members,(x0.Members.length:Int),0,b,b_1,ab.eta v,[])>>=λo=>oZ (o.2.2.1.Rest,(o.2.2.1.Rest.length:Int),0,o.1,o.2.1,o.2.2.2)>>=λo_1=>GU o_1.2.2>>=λr=>if(decide (r.length=o_1.2.2.length)&&true)=true then o0 ((r.length:Int),0,o_1.1,o_1.2.1,r,[])>>=λo_2=>rZ o_2.2.2>>=λr_1=>some (r_1,o_2.1,o_2.2.1)
 else none
  partial_fixpoint
def vZ(x_:ae×ab×Int×List ae×Int):Option (List UInt8×List ae×Int):=
 match x_ with
 |(x0,v,level,b,b_1)=>
 fP (wrp .u64 v.ID)>>=λr=>bC (x0,v.ID)>>=λr_1=>if(!r_1.2)=true then if inR 0 v.Rest.length=true then some (v.Rest.getD (0:Int).toNat aE)>>=λx0_1=>if decide (r.length+x0_1.Data.length<=aX)=true then some (r++x0_1.Data,b,b_1)
 else none
 else none
 else if inR r_1.1 x0.Members.length=true then if inR 0 v.Items.length=true then cY ((x0.Members.getD r_1.1.toNat af).Type_,ab.eta (v.Items.getD (0:Int).toNat aj),addI .i64 level 1,b,b_1)>>=λr_4=>if decide (r.length+r_4.1.length<=aX)=true then some (r++r_4.1,r_4.2.1,r_4.2.2)
 else none
 else none
 else none
  partial_fixpoint
def oW(x_:Int×List ab×Int×Int×List ae×Int×ab×ae×List UInt8):Option (List ae×Int×List UInt8):=
 match x_ with
 |(level_1,t84,t85_1,t86,b_5,b_6,b_7,b_8,b_9)=>
 if decide (t86<t85_1)=true then if inR t86 t84.length=true then some (t84.getD t86.toNat aj)>>=λx0_2=>if decide (b_8.Kind=8)=true then if inR t86 b_7.Keys.length=true then cY (b_8.Key,ab.eta (b_7.Keys.getD t86.toNat aj),addI .i64 level_1 1,b_5,b_6)>>=λr_16=>iq r_16.1>>=λr_20=>lR (r_20,b_9)>>=λr_21=>cY (b_8.Elem,ab.eta x0_2,addI .i64 level_1 1,r_16.2.1,r_16.2.2)>>=λr_24=>iq r_24.1>>=λr_28=>lR (r_28,r_21.2)>>=λr_29=>oW (level_1,t84,t85_1,addI .i64 t86 1,r_24.2.1,r_24.2.2,ab.eta b_7,b_8,r_29.2)
 else none
 else cY (b_8.Elem,ab.eta x0_2,addI .i64 level_1 1,b_5,b_6)>>=λr_32=>iq r_32.1>>=λr_36=>lR (r_36,b_9)>>=λr_37=>oW (level_1,t84,t85_1,addI .i64 t86 1,r_32.2.1,r_32.2.2,ab.eta b_7,b_8,r_37.2)
 else none
 else some (b_5,b_6,b_9)
  partial_fixpoint
def o7(x_:Int×List av×Int×Int×List ae×Int×ab×List bP):Option (List ae×Int×ab×List bP):=
 match x_ with
 |(level_1,t18,t19_1,t20,b_12,b_13,b_14,b_15)=>
 if decide (t20<t19_1)=true then if inR t20 t18.length=true then some (t18.getD t20.toNat af)>>=λx0_1=>if inR t20 b_14.Items.length=true then wW ((⟨x0_1.ID,x0_1.Name,x0_1.Type_,x0_1.Critical,x0_1.HasDefault,ab.eta x0_1.Default⟩:av),ab.eta (b_14.Items.getD t20.toNat aj))>>=λr_2=>if(!r_2)=true then if inR t20 b_14.Items.length=true then cY (x0_1.Type_,ab.eta (b_14.Items.getD t20.toNat aj),addI .i64 level_1 1,b_12,b_13)>>=λr_3=>kF (x0_1.ID,x0_1.Critical,r_3.1)>>=λr_7=>some [(⟨x0_1.ID,r_7⟩:bP)]>>=λt53=>if room 24 (b_15++t53).length=true then o7 (level_1,t18,t19_1,addI .i64 t20 1,r_3.2.1,r_3.2.2,ab.eta b_14,b_15++t53)
 else none
 else none
 else o7 (level_1,t18,t19_1,addI .i64 t20 1,b_12,b_13,ab.eta b_14,b_15)
 else none
 else none
 else some (b_12,b_13,ab.eta b_14,b_15)
  partial_fixpoint
end
theorem Eh:FZ e103 cY/\LZ 103 1 [0] oD oW/\FZ e160 vZ/\FZ e159 vT/\LZ 159 1 [0] oC o7:=cY.mutual_partial_correctness (FD e103) (LD 103 1 [0] oD) (FD e160) (FD e159) (LD 159 1 [0] oC)
 (λ_ _ _ _ h0 h1 h2 h3 _ _ h=>FB h (.k wF (.k IU (.k (FG e159 h3) (.k (FG e160 h2) (.k (FG e103 h0) (.k vL .n)))))) (.k (LG oD h1) .n))
 (λ_ _ h0 h1 _ _ h=>LB oD h1 h (.k (FG e103 h0) (.k wV (.k vI .n))))
 (λ_ h0 _ _ h=>FB h (.k mX (.k dF (.k (FG e103 h0) .n))))
 (λ_ h4 _ _ h=>FB h (.k sP (.k vL .n)) (.k (LG oC h4) (.k Ef (.k Eg .n))))
 (λ_ _ h0 h4 _ _ h=>LB oC h4 h (.k Hx (.k (FG e103 h0) (.k sT .n))))
theorem ED:FC e103 cY:=FG _ Eh.1
def mU(x_:au×Int×ab):Option (List UInt8×Int):=
 match x_ with
 |(s,t,v)=>
 pU ((⟨s.Types⟩:au),t,ab.eta v)>>=λr=>if(!(decide (r=0)))=true then some ([],r)
 else cY (t,ab.eta v,1,s.Types,0)>>=λr_1=>if(bif decide (4096<(r_1.1.length:Int))then true else decide (200<r_1.2.2))=true then some ([],3)
 else some (r_1.1,0)
theorem HV:FC e55 mU:= .fx (.k Hw (.k ED .n))
def qk(x_:Int×Bool×List UInt8):Option (List UInt8×Int):=
 match x_ with
 |(id,critical,payload)=>
 if(bif decide (id<1)then true else decide (1000<id))=true then some ([],7)
 else if decide (4096<(payload.length:Int))=true then some ([],3)
 else kF (id,critical,payload)>>=λr=>some (r,0)
theorem H5:FC e293 qk:= .fx (.k sT .n)
def kD(p:List UInt8):Option (List UInt8):=
 fP (wrp .u64 (p.length:Int))>>=λr=>if decide (r.length+p.length<=aX)=true then some (r++p)
 else none
theorem HX:FC e294 kD:= .fx (.k mX .n)
mutual
def cM(x_:au×Int×ab):Option (List UInt8):=
 match x_ with
 |(s,t,v)=>
 if inR t s.Types.length=true then some (s.Types.getD t.toNat ag)>>=λx0=>if decide (x0.Kind=5)=true then gO ([],x0.Members,(x0.Members.length:Int),0,s.Types,ab.eta v)>>=λo=>some o
 else if decide (x0.Kind=6)=true then bC (x0,v.ID)>>=λr=>fP (wrp .u64 v.ID)>>=λr_3=>if inR r.1 x0.Members.length=true then if inR 0 v.Items.length=true then cM (s,(x0.Members.getD r.1.toNat af).Type_,ab.eta (v.Items.getD (0:Int).toNat aj))>>=λr_4=>if decide (r_3.length+r_4.length<=aX)=true then some (r_3++r_4)
 else none
 else none
 else none
 else if decide (x0.Kind=9)=true then kf ([],v.Items,(v.Items.length:Int),0,s.Types,x0)>>=λo_1=>some o_1
 else some (decide (x0.Kind=7))>>=λt115=>if t115=true then if t115=true then cI ([],v.Items,(v.Items.length:Int),0,s.Types,ab.eta v,x0)>>=λo_2=>some o_2
 else mU (s,t,ab.eta v)>>=λr_5=>some r_5.1
 else if decide (x0.Kind=8)=true then cI ([],v.Items,(v.Items.length:Int),0,s.Types,ab.eta v,x0)>>=λo_3=>some o_3
 else mU (s,t,ab.eta v)>>=λr_8=>some r_8.1
 else none
  partial_fixpoint
def gO(x_:List UInt8×List av×Int×Int×List ae×ab):Option (List UInt8):=
 match x_ with
 |(out_4,t36,t37_1,t38,b,b_1)=>
 if decide (t38<t37_1)=true then if inR t38 t36.length=true then some (t36.getD t38.toNat af)>>=λx0_3=>if inR t38 b_1.Items.length=true then ji ((⟨x0_3.ID,x0_3.Name,x0_3.Type_,x0_3.Critical,x0_3.HasDefault,ab.eta x0_3.Default⟩:av),ab.eta (b_1.Items.getD t38.toNat aj))>>=λr_11=>if(!r_11)=true then if inR t38 b_1.Items.length=true then cM ((⟨b⟩:au),x0_3.Type_,ab.eta (b_1.Items.getD t38.toNat aj))>>=λr_12=>qk (x0_3.ID,x0_3.Critical,r_12)>>=λr_13=>if decide (out_4.length+r_13.1.length<=aX)=true then gO (out_4++r_13.1,t36,t37_1,addI .i64 t38 1,b,ab.eta b_1)
 else none
 else none
 else gO (out_4,t36,t37_1,addI .i64 t38 1,b,ab.eta b_1)
 else none
 else none
 else some out_4
  partial_fixpoint
def kf(x_:List UInt8×List ab×Int×Int×List ae×ae):Option (List UInt8):=
 match x_ with
 |(out_5,t101,t102_1,t103,b_2,b_3)=>
 if decide (t103<t102_1)=true then if inR t103 t101.length=true then cM ((⟨b_2⟩:au),b_3.Elem,ab.eta (t101.getD t103.toNat aj))>>=λr_16=>if decide ([1].length+r_16.length<=aX)=true then kf ([1]++r_16,t101,t102_1,addI .i64 t103 1,b_2,b_3)
 else none
 else none
 else some out_5
  partial_fixpoint
def cI(x_:List UInt8×List ab×Int×Int×List ae×ab×ae):Option (List UInt8):=
 match x_ with
 |(out_6,t118,t119_2,t120,b_4,b_5,b_6)=>
 if decide (t120<t119_2)=true then if inR t120 t118.length=true then some (t118.getD t120.toNat aj)>>=λx0_7=>if decide (b_6.Kind=8)=true then if inR t120 b_5.Keys.length=true then cM ((⟨b_4⟩:au),b_6.Key,ab.eta (b_5.Keys.getD t120.toNat aj))>>=λr_17=>kD r_17>>=λr_18=>if decide (out_6.length+r_18.length<=aX)=true then some (out_6++r_18)>>=λt139=>cM ((⟨b_4⟩:au),b_6.Elem,ab.eta x0_7)>>=λr_19=>kD r_19>>=λr_20=>if decide (t139.length+r_20.length<=aX)=true then cI (t139++r_20,t118,t119_2,addI .i64 t120 1,b_4,ab.eta b_5,b_6)
 else none
 else none
 else none
 else cM ((⟨b_4⟩:au),b_6.Elem,ab.eta x0_7)>>=λr_21=>kD r_21>>=λr_22=>if decide (out_6.length+r_22.length<=aX)=true then cI (out_6++r_22,t118,t119_2,addI .i64 t120 1,b_4,ab.eta b_5,b_6)
 else none
 else none
 else some out_6
  partial_fixpoint
end
theorem Gf:FZ e237 cM/\LZ 237 0 [2] oH cI/\LZ 237 0 [1] oG kf/\LZ 237 0 [0] oF gO:=cM.mutual_partial_correctness (FD e237) (LD 237 0 [2] oH) (LD 237 0 [1] oG) (LD 237 0 [0] oF)
 (λ_ _ _ _ h0 h1 h2 h3 _ _ h=>FB h (.k dF (.k mX (.k (FG e237 h0) (.k HV .n)))) (.k (LG oF h3) (.k (LG oG h2) (.k (LG oH h1) .n))))
 (λ_ _ h0 h1 _ _ h=>LB oH h1 h (.k (FG e237 h0) (.k HX .n)))
 (λ_ _ h0 h2 _ _ h=>LB oG h2 h (.k (FG e237 h0) .n))
 (λ_ _ h0 h3 _ _ h=>LB oF h3 h (.k sd (.k (FG e237 h0) (.k H5 .n))))
theorem wv:FC e237 cM:=FG _ Gf.1
def ef(x_:List av×Int×Int×List ae×List ae×List Int×ab×ae×Int×Bool×Int×List UInt8×Int×Int×Bool×Int×List UInt8×Int×List Int×List ab×List aK):Option ((Bool×List ae×List ae×ab×List Int×List Int) ⊕ (List ae×List ae×List Int×Int×Bool×Int×List UInt8×Int×Int×Bool×Int×List UInt8×Int×List Int×List ab×List aK)):=
 match x_ with
 |(t115,t116_1,t117,b_66,b_67,b_68,b_69,b_70,b_71,b_72,b_73,b_74,b_75,b_76,b_77,b_78,b_79,b_80,b_81,b_82,b_83)=>
 if decide (t117<t116_1)=true then if inR t117 t115.length=true then some (t115.getD t117.toNat af)>>=λx0_6=>bC (b_70,x0_6.ID)>>=λr_27=>if r_27.2=true then ef (t115,t116_1,addI .i64 t117 1,b_66,b_67,b_68,ab.eta b_69,b_70,b_71,b_72,b_73,b_74,b_75,b_76,b_77,b_78,b_79,b_80,b_81,b_82,b_83)
 else if x0_6.Critical=true then j8 (x0_6.ID,b_66,b_67,b_68,b_81)>>=λr_30=>some (.inl (r_30.2.1,r_30.2.2.1,r_30.2.2.2.1,ab.eta r_30.1,r_30.2.2.2.2.1,r_30.2.2.2.2.2))
 else if inR t117 b_69.Items.length=true then ji ((⟨x0_6.ID,x0_6.Name,x0_6.Type_,x0_6.Critical,x0_6.HasDefault,ab.eta x0_6.Default⟩:av),ab.eta (b_69.Items.getD t117.toNat aj))>>=λr_37=>if(!r_37)=true then if inR t117 b_69.Items.length=true then cM ((⟨b_66⟩:au),x0_6.Type_,ab.eta (b_69.Items.getD t117.toNat aj))>>=λr_38=>some [(⟨x0_6.ID,r_38⟩:aK)]>>=λt163=>if room 24 (b_83++t163).length=true then ef (t115,t116_1,addI .i64 t117 1,b_66,b_67,b_68,ab.eta b_69,b_70,b_71,b_72,b_73,b_74,b_75,b_76,b_77,b_78,b_79,b_80,b_81,b_82,b_83++t163)
 else none
 else none
 else ef (t115,t116_1,addI .i64 t117 1,b_66,b_67,b_68,ab.eta b_69,b_70,b_71,b_72,b_73,b_74,b_75,b_76,b_77,b_78,b_79,b_80,b_81,b_82,b_83)
 else none
 else none
 else some (.inr (b_66,b_67,b_68,b_71,b_72,b_73,b_74,b_75,b_76,b_77,b_78,b_79,b_80,b_81,b_82,b_83))
  partial_fixpoint
theorem Es:LC 164 2 [1] Da ef:= .rx ef.partial_correctness (.k dF (.k vQ (.k sd (.k wv .n))))
mutual
def gU(x_:Int×Int×ab×Int×List ae×List ae×List Int×List Int):Option (ab×Bool×List ae×List ae×List Int×List Int):=
 match x_ with
 |(step,wt,v,rt,b,b_1,b_2,b_3)=>
 some [step]>>=λt20=>if room 8 (b_3++t20).length=true then jj (wt,ab.eta v,rt,b,b_1,b_2,b_3++t20)>>=λr=>some (subI .i64 (r.2.2.2.2.2.length:Int) 1)>>=λt42=>if slR 0 t42 r.2.2.2.2.2.length=true then if decide (t42.toNat<=r.2.2.2.2.2.length)=true then some (ab.eta r.1,r.2.1,r.2.2.1,r.2.2.2.1,r.2.2.2.2.1,r.2.2.2.2.2.take t42.toNat)
 else none
 else none
 else none
  partial_fixpoint
def eE(x_:Int×List ab×Int×List ae×List ae×List Int×List Int):Option (List ab×Bool×List ae×List ae×List Int×List Int):=
 match x_ with
 |(wt,l,rt,b,b_1,b_2,b_3)=>
 iW (wt,rt,l,(l.length:Int),0,b,b_1,b_2,[],b_3)>>=λo=>match o with
 |.inl o_1=>
 some ([],o_1.1,o_1.2.1,o_1.2.2.1,o_1.2.2.2.1,o_1.2.2.2.2)
 |.inr o_2=>
 some (o_2.2.2.2.1,true,o_2.1,o_2.2.1,o_2.2.2.1,o_2.2.2.2.2)
  partial_fixpoint
def jj(x_:Int×ab×Int×List ae×List ae×List Int×List Int):Option (ab×Bool×List ae×List ae×List Int×List Int):=
 match x_ with
 |(wt,v,rt,b,b_1,b_2,b_3)=>
 if inR wt b.length=true then some (b.getD wt.toNat ag)>>=λx0=>if inR rt b_1.length=true then some (b_1.getD rt.toNat ag)>>=λx0_1=>if(!(decide (x0.Kind=x0_1.Kind)))=true then jf (b,b_1,b_2,b_3)>>=λr=>some (ab.eta r.1,r.2.1,r.2.2.1,r.2.2.2.1,r.2.2.2.2.2,r.2.2.2.2.1)
 else
 let k_6:=λz6_0=>
 if(!z6_0)=true then jf (b,b_1,b_2,b_3)>>=λr_7=>some (ab.eta r_7.1,r_7.2.1,r_7.2.2.1,r_7.2.2.2.1,r_7.2.2.2.2.2,r_7.2.2.2.2.1)
 else if decide (x0.Kind=5)=true then lX (x0,ab.eta v,x0_1,b,b_1,b_2,b_3)>>=λr_14=>some (ab.eta r_14.1,r_14.2.1,r_14.2.2.1,r_14.2.2.2.1,r_14.2.2.2.2.1,r_14.2.2.2.2.2)
 else if decide (x0.Kind=6)=true then l8 (x0,ab.eta v,x0_1,b,b_1,b_2,b_3)>>=λr_21=>some (ab.eta r_21.1,r_21.2.1,r_21.2.2.1,r_21.2.2.2.1,r_21.2.2.2.2.1,r_21.2.2.2.2.2)
 else if decide (x0.Kind=8)=true then eE (x0.Key,v.Keys,x0_1.Key,b,b_1,b_2,b_3)>>=λr_28=>if(!r_28.2.1)=true then some ((⟨0,false,0,[],0,[],[],[]⟩:ab),false,r_28.2.2.1,r_28.2.2.2.1,r_28.2.2.2.2.1,r_28.2.2.2.2.2)
 else eE (x0.Elem,v.Items,x0_1.Elem,r_28.2.2.1,r_28.2.2.2.1,r_28.2.2.2.2.1,r_28.2.2.2.2.2)>>=λr_35=>if(!r_35.2.1)=true then some ((⟨0,false,0,[],0,[],[],[]⟩:ab),false,r_35.2.2.1,r_35.2.2.2.1,r_35.2.2.2.2.1,r_35.2.2.2.2.2)
 else some ((⟨v.Kind,v.Bool_,v.Int_,v.Str,v.ID,r_28.1,r_35.1,[]⟩:ab),true,r_35.2.2.1,r_35.2.2.2.1,r_35.2.2.2.2.1,r_35.2.2.2.2.2)
 else eE (x0.Elem,v.Items,x0_1.Elem,b,b_1,b_2,b_3)>>=λr_42=>if(!r_42.2.1)=true then some ((⟨0,false,0,[],0,[],[],[]⟩:ab),false,r_42.2.2.1,r_42.2.2.2.1,r_42.2.2.2.2.1,r_42.2.2.2.2.2)
 else some ((⟨v.Kind,v.Bool_,v.Int_,v.Str,v.ID,[],r_42.1,[]⟩:ab),true,r_42.2.2.1,r_42.2.2.2.1,r_42.2.2.2.2.1,r_42.2.2.2.2.2)
 if decide (x0.Kind=2)=true then k_6 (bif decide (x0_1.Low<=v.Int_)then decide (v.Int_<=x0_1.High)else false)
 else
 let k_5:=λz5_0=>
 k_6 z5_0
 if decide (x0.Kind=3)=true then k_5 (decide ((v.Str.length:Int)<=x0_1.Max))
 else if decide (x0.Kind=4)=true then ju (x0_1,v.ID)>>=λr_91=>k_5 (bif r_91.2 then true else x0_1.Open)
 else some (decide (x0.Kind=7))>>=λt91=>
 let k_4:=λz4_0=>
 let k_3:=λ(_:Unit)=>
 if decide (x0.Kind=5)=true then lX (x0,ab.eta v,x0_1,b,b_1,b_2,b_3)>>=λr_255=>some (ab.eta r_255.1,r_255.2.1,r_255.2.2.1,r_255.2.2.2.1,r_255.2.2.2.2.1,r_255.2.2.2.2.2)
 else if decide (x0.Kind=6)=true then l8 (x0,ab.eta v,x0_1,b,b_1,b_2,b_3)>>=λr_262=>some (ab.eta r_262.1,r_262.2.1,r_262.2.2.1,r_262.2.2.2.1,r_262.2.2.2.2.1,r_262.2.2.2.2.2)
 else if decide (x0.Kind=8)=true then eE (x0.Key,v.Keys,x0_1.Key,b,b_1,b_2,b_3)>>=λr_269=>if(!r_269.2.1)=true then some ((⟨0,false,0,[],0,[],[],[]⟩:ab),false,r_269.2.2.1,r_269.2.2.2.1,r_269.2.2.2.2.1,r_269.2.2.2.2.2)
 else eE (x0.Elem,v.Items,x0_1.Elem,r_269.2.2.1,r_269.2.2.2.1,r_269.2.2.2.2.1,r_269.2.2.2.2.2)>>=λr_276=>if(!r_276.2.1)=true then some ((⟨0,false,0,[],0,[],[],[]⟩:ab),false,r_276.2.2.1,r_276.2.2.2.1,r_276.2.2.2.2.1,r_276.2.2.2.2.2)
 else some ((⟨v.Kind,v.Bool_,v.Int_,v.Str,v.ID,r_269.1,r_276.1,[]⟩:ab),true,r_276.2.2.1,r_276.2.2.2.1,r_276.2.2.2.2.1,r_276.2.2.2.2.2)
 else eE (x0.Elem,v.Items,x0_1.Elem,b,b_1,b_2,b_3)>>=λr_283=>if(!r_283.2.1)=true then some ((⟨0,false,0,[],0,[],[],[]⟩:ab),false,r_283.2.2.1,r_283.2.2.2.1,r_283.2.2.2.2.1,r_283.2.2.2.2.2)
 else some ((⟨v.Kind,v.Bool_,v.Int_,v.Str,v.ID,[],r_283.1,[]⟩:ab),true,r_283.2.2.1,r_283.2.2.2.1,r_283.2.2.2.2.1,r_283.2.2.2.2.2)
 if z4_0=true then if(!(decide ((v.Items.length:Int)<=x0_1.Max)))=true then jf (b,b_1,b_2,b_3)>>=λr_213=>some (ab.eta r_213.1,r_213.2.1,r_213.2.2.1,r_213.2.2.2.1,r_213.2.2.2.2.2,r_213.2.2.2.2.1)
 else k_3 ()
 else k_3 ()
 if t91=true then k_4 t91
 else k_4 (decide (x0.Kind=8))
 else none
 else none
  partial_fixpoint
def lX(x_:ae×ab×ae×List ae×List ae×List Int×List Int):Option (ab×Bool×List ae×List ae×List Int×List Int):=
 match x_ with
 |(x0,v,y,b,b_1,b_2,b_3)=>
 fk (y.Members,(y.Members.length:Int),0,b,b_1,b_2,x0,ab.eta v,y,0,false,0,[],0,v.Kind,false,0,[],0,b_3,[])>>=λo=>match o with
 |.inl o_1=>
 some (ab.eta o_1.2.2.2.2.1,o_1.1,o_1.2.1,o_1.2.2.1,o_1.2.2.2.1,o_1.2.2.2.2.2)
 |.inr o_2=>
 ef (o_2.2.2.2.1.Members,(o_2.2.2.2.1.Members.length:Int),0,o_2.1,o_2.2.1,o_2.2.2.1,ab.eta o_2.2.2.2.2.1,o_2.2.2.2.2.2.1,o_2.2.2.2.2.2.2.1,o_2.2.2.2.2.2.2.2.1,o_2.2.2.2.2.2.2.2.2.1,o_2.2.2.2.2.2.2.2.2.2.1,o_2.2.2.2.2.2.2.2.2.2.2.1,o_2.2.2.2.2.2.2.2.2.2.2.2.1,o_2.2.2.2.2.2.2.2.2.2.2.2.2.1,o_2.2.2.2.2.2.2.2.2.2.2.2.2.2.1,o_2.2.2.2.2.2.2.2.2.2.2.2.2.2.2.1,o_2.2.2.2.2.2.2.2.2.2.2.2.2.2.2.2.1,o_2.2.2.2.2.2.2.2.2.2.2.2.2.2.2.2.2.1,o_2.2.2.2.2.2.2.2.2.2.2.2.2.2.2.2.2.2,[])>>=λo_3=>match o_3 with
 |.inl o_4=>
 some (ab.eta o_4.2.2.2.1,o_4.1,o_4.2.1,o_4.2.2.1,o_4.2.2.2.2.2,o_4.2.2.2.2.1)
 |.inr o_5=>
 some ((⟨o_5.2.2.2.2.2.2.2.2.1,o_5.2.2.2.2.2.2.2.2.2.1,o_5.2.2.2.2.2.2.2.2.2.2.1,o_5.2.2.2.2.2.2.2.2.2.2.2.1,o_5.2.2.2.2.2.2.2.2.2.2.2.2.1,[],o_5.2.2.2.2.2.2.2.2.2.2.2.2.2.2.1,o_5.2.2.2.2.2.2.2.2.2.2.2.2.2.2.2⟩:ab),true,o_5.1,o_5.2.1,o_5.2.2.1,o_5.2.2.2.2.2.2.2.2.2.2.2.2.2.1)
  partial_fixpoint
def l8(x_:ae×ab×ae×List ae×List ae×List Int×List Int):Option (ab×Bool×List ae×List ae×List Int×List Int):=
 match x_ with
 |(x0,v,y,b,b_1,b_2,b_3)=>
 bC (x0,v.ID)>>=λr=>bC (y,v.ID)>>=λr_3=>if r_3.2=true then if inR r.1 x0.Members.length=true then if inR 0 v.Items.length=true then if inR r_3.1 y.Members.length=true then gU (v.ID,(x0.Members.getD r.1.toNat af).Type_,ab.eta (v.Items.getD (0:Int).toNat aj),(y.Members.getD r_3.1.toNat af).Type_,b,b_1,b_2,b_3)>>=λr_6=>if(!r_6.2.1)=true then some ((⟨0,false,0,[],0,[],[],[]⟩:ab),false,r_6.2.2.1,r_6.2.2.2.1,r_6.2.2.2.2.1,r_6.2.2.2.2.2)
 else some ((⟨v.Kind,false,0,[],v.ID,[],[ab.eta r_6.1],[]⟩:ab),true,r_6.2.2.1,r_6.2.2.2.1,r_6.2.2.2.2.1,r_6.2.2.2.2.2)
 else none
 else none
 else none
 else if(!y.Open)=true then jf (b,b_1,b_2,b_3)>>=λr_13=>some (ab.eta r_13.1,r_13.2.1,r_13.2.2.1,r_13.2.2.2.1,r_13.2.2.2.2.2,r_13.2.2.2.2.1)
 else if inR r.1 x0.Members.length=true then if inR 0 v.Items.length=true then cM ((⟨b⟩:au),(x0.Members.getD r.1.toNat af).Type_,ab.eta (v.Items.getD (0:Int).toNat aj))>>=λr_20=>some ((⟨v.Kind,false,0,[],v.ID,[],[],[(⟨v.ID,r_20⟩:aK)]⟩:ab),true,b,b_1,b_2,b_3)
 else none
 else none
  partial_fixpoint
def iW(x_:Int×Int×List ab×Int×Int×List ae×List ae×List Int×List ab×List Int):Option ((Bool×List ae×List ae×List Int×List Int) ⊕ (List ae×List ae×List Int×List ab×List Int)):=
 match x_ with
 |(wt_1,rt_1,t15,t16_1,t17,b_13,b_14,b_15,b_16,b_17)=>
 if decide (t17<t16_1)=true then if inR t17 t15.length=true then gU (t17,wt_1,ab.eta (t15.getD t17.toNat aj),rt_1,b_13,b_14,b_15,b_17)>>=λr=>if(!r.2.1)=true then some (.inl (false,r.2.2.1,r.2.2.2.1,r.2.2.2.2.1,r.2.2.2.2.2))
 else some [ab.eta r.1]>>=λt35=>if room 120 (b_16++t35).length=true then iW (wt_1,rt_1,t15,t16_1,addI .i64 t17 1,r.2.2.1,r.2.2.2.1,r.2.2.2.2.1,b_16++t35,r.2.2.2.2.2)
 else none
 else none
 else some (.inr (b_13,b_14,b_15,b_16,b_17))
  partial_fixpoint
def fk(x_:List av×Int×Int×List ae×List ae×List Int×ae×ab×ae×Int×Bool×Int×List UInt8×Int×Int×Bool×Int×List UInt8×Int×List Int×List ab):Option ((Bool×List ae×List ae×List Int×ab×List Int) ⊕ (List ae×List ae×List Int×ae×ab×ae×Int×Bool×Int×List UInt8×Int×Int×Bool×Int×List UInt8×Int×List Int×List ab)):=
 match x_ with
 |(t25,t26_1,t27,b_48,b_49,b_50,b_51,b_52,b_53,b_54,b_55,b_56,b_57,b_58,b_59,b_60,b_61,b_62,b_63,b_64,b_65)=>
 if decide (t27<t26_1)=true then if inR t27 t25.length=true then some (t25.getD t27.toNat af)>>=λx0_1=>bC (b_51,x0_1.ID)>>=λr=>if(!r.2)=true then if(!x0_1.HasDefault)=true then j8 (x0_1.ID,b_48,b_49,b_50,b_64)>>=λr_3=>some (.inl (r_3.2.1,r_3.2.2.1,r_3.2.2.2.1,r_3.2.2.2.2.2,ab.eta r_3.1,r_3.2.2.2.2.1))
 else cp (ab.eta x0_1.Default)>>=λr_10=>some [ab.eta r_10]>>=λt54=>if room 120 (b_65++t54).length=true then fk (t25,t26_1,addI .i64 t27 1,b_48,b_49,b_50,b_51,ab.eta b_52,b_53,b_54,b_55,b_56,b_57,b_58,b_59,b_60,b_61,b_62,b_63,b_64,b_65++t54)
 else none
 else if inR r.1 b_51.Members.length=true then if inR r.1 b_52.Items.length=true then gU (x0_1.ID,(b_51.Members.getD r.1.toNat af).Type_,ab.eta (b_52.Items.getD r.1.toNat aj),x0_1.Type_,b_48,b_49,b_50,b_64)>>=λr_11=>if inR r.1 b_51.Members.length=true then some (b_51.Members.getD r.1.toNat af)>>=λx0_4=>if inR r.1 b_52.Items.length=true then ji ((⟨x0_4.ID,x0_4.Name,x0_4.Type_,x0_4.Critical,x0_4.HasDefault,ab.eta x0_4.Default⟩:av),ab.eta (b_52.Items.getD r.1.toNat aj))>>=λr_18=>some (!r_11.2.1)>>=λt90=>(if(r_18&&(!t90))=true then ji ((⟨x0_1.ID,x0_1.Name,x0_1.Type_,x0_1.Critical,x0_1.HasDefault,ab.eta x0_1.Default⟩:av),ab.eta r_11.1)else some false)>>=λr_19=>if(bif r_18 then bif t90 then true else(!r_19)else false)=true then j8 (x0_1.ID,r_11.2.2.1,r_11.2.2.2.1,r_11.2.2.2.2.1,r_11.2.2.2.2.2)>>=λr_20=>some (.inl (r_20.2.1,r_20.2.2.1,r_20.2.2.2.1,r_20.2.2.2.2.2,ab.eta r_20.1,r_20.2.2.2.2.1))
 else if(!r_11.2.1)=true then some (.inl (false,r_11.2.2.1,r_11.2.2.2.1,r_11.2.2.2.2.1,(⟨0,false,0,[],0,[],[],[]⟩:ab),r_11.2.2.2.2.2))
 else some [ab.eta r_11.1]>>=λt110=>if room 120 (b_65++t110).length=true then fk (t25,t26_1,addI .i64 t27 1,r_11.2.2.1,r_11.2.2.2.1,r_11.2.2.2.2.1,b_51,ab.eta b_52,b_53,b_54,b_55,b_56,b_57,b_58,b_59,b_60,b_61,b_62,b_63,r_11.2.2.2.2.2,b_65++t110)
 else none
 else none
 else none
 else none
 else none
 else none
 else some (.inr (b_48,b_49,b_50,b_51,ab.eta b_52,b_53,b_54,b_55,b_56,b_57,b_58,b_59,b_60,b_61,b_62,b_63,b_64,b_65))
  partial_fixpoint
end
theorem Fb:FZ e235 gU/\FZ e105 jj/\FZ e166 eE/\LZ 166 2 [0] oK iW/\FZ e165 l8/\FZ e164 lX/\LZ 164 2 [0] oI fk:=gU.mutual_partial_correctness (FD e235) (FD e105) (FD e166) (LD 166 2 [0] oK) (FD e165) (FD e164) (LD 164 2 [0] oI)
 (λ_ h1 _ _ h=>FB h (.k (FG e105 h1) .n))
 (λ_ _ _ h2 h4 h5 _ _ h=>FB h (.k vY (.k (FG e164 h5) (.k (FG e165 h4) (.k (FG e166 h2) (.k sC .n))))))
 (λ_ h3 _ _ h=>FB h .n (.k (LG oK h3) .n))
 (λ_ _ h0 h3 _ _ h=>LB oK h3 h (.k (FG e235 h0) .n))
 (λ_ h0 _ _ h=>FB h (.k dF (.k (FG e235 h0) (.k vY (.k wv .n)))))
 (λ_ h6 _ _ h=>FB h .n (.k (LG oI h6) (.k Es .n)))
 (λ_ _ h0 h6 _ _ h=>LB oI h6 h (.k dF (.k vQ (.k Hu (.k (FG e235 h0) (.k sd .n))))))
theorem Gg:FC e105 jj:=FG _ Fb.2.1
def mA(x_:au×Int×ab×au×Int):Option (ab×Int):=
 match x_ with
 |(w,wt,v,r,rt)=>
 p8 (w,wt,ab.eta v,r,rt)>>=λr_1=>if(!(decide (r_1=0)))=true then some ((⟨0,false,0,[],0,[],[],[]⟩:ab),r_1)
 else jj (wt,ab.eta v,rt,w.Types,r.Types,[],[])>>=λr_2=>if(!r_2.2.1)=true then some ((⟨0,false,0,[],0,[],[],[]⟩:ab),12)
 else some (ab.eta r_2.1,0)
theorem G1:FC e56 mA:= .fx (.k HQ (.k Gg .n))
def eo(x_:List av×Int×Int×List ae×ae×List ae×ae):Option ((Int) ⊕ (ae×ae)):=
 match x_ with
 |(t21,t22_1,t23,b_2,b_3,b_4,b_5)=>
 if decide (t23<t22_1)=true then if inR t23 t21.length=true then some (t21.getD t23.toNat af)>>=λx0_1=>bC (b_3,x0_1.ID)>>=λr_1=>if(!r_1.2)=true then if(!x0_1.HasDefault)=true then some (.inl 7)
 else eo (t21,t22_1,addI .i64 t23 1,b_2,b_3,b_4,b_5)
 else if inR r_1.1 b_3.Members.length=true then some (b_3.Members.getD r_1.1.toNat af)>>=λx0_2=>if(!x0_2.HasDefault)=true then eo (t21,t22_1,addI .i64 t23 1,b_2,b_3,b_4,b_5)
 else if(!x0_1.HasDefault)=true then some (.inl 7)
 else mA ((⟨b_2⟩:au),x0_2.Type_,ab.eta x0_2.Default,(⟨b_4⟩:au),x0_1.Type_)>>=λr_4=>some (!(decide (r_4.2=0)))>>=λt63=>(if(!t63)=true then dL (ab.eta r_4.1,ab.eta x0_1.Default)else some false)>>=λr_7=>if(bif t63 then true else(!r_7))=true then some (.inl 10)
 else eo (t21,t22_1,addI .i64 t23 1,b_2,b_3,b_4,b_5)
 else none
 else none
 else some (.inr (b_3,b_5))
  partial_fixpoint
theorem Fc:LC 202 0 [0] Db eo:= .rx eo.partial_correctness (.k dF (.k G1 (.k sX .n)))
def gK(x_:List av×Int×Int×ae):Option ((Int) ⊕ (Unit)):=
 match x_ with
 |(t73,t74_1,t75,b_6)=>
 if decide (t75<t74_1)=true then if inR t75 t73.length=true then some (t73.getD t75.toNat af)>>=λx0_3=>bC (b_6,x0_3.ID)>>=λr_8=>if(bif (!r_8.2)then x0_3.Critical else false)=true then some (.inl 6)
 else gK (t73,t74_1,addI .i64 t75 1,b_6)
 else none
 else some (.inr ())
  partial_fixpoint
theorem Fe:LC 202 0 [1] Dc gK:= .rx gK.partial_correctness (.k dF .n)
def pO(x_:au×ae×au×ae):Option (Int):=
 match x_ with
 |(w,x0,r,y)=>
 eo (y.Members,(y.Members.length:Int),0,w.Types,x0,r.Types,y)>>=λo=>match o with
 |.inl o_1=>
 some o_1
 |.inr o_2=>
 gK (o_2.1.Members,(o_2.1.Members.length:Int),0,o_2.2)>>=λo_3=>match o_3 with
 |.inl o_4=>
 some o_4
 |.inr o_5=>
 some 0
theorem GI:FC e202 pO:= .fx .n (.k Fc (.k Fe .n))
def pR(x_:au×Int×au×Int):Option (Int):=
 match x_ with
 |(w,wt,r,rt)=>
 if inR wt w.Types.length=true then some (w.Types.getD wt.toNat ag)>>=λx0=>if inR rt r.Types.length=true then some (r.Types.getD rt.toNat ag)>>=λx0_1=>if(!(decide (x0.Kind=x0_1.Kind)))=true then some 9
 else if(bif decide (x0.Kind=2)then bif decide (x0.Low<x0_1.Low)then true else decide (x0_1.High<x0.High)else false)=true then some 2
 else if(bif bif decide (x0.Kind=3)then true else decide (x0.Kind=7)then decide (x0_1.Max<x0.Max)else false)=true then some 3
 else some (decide (x0.Kind=8))>>=λt63=>if(inR x0.Key w.Types.length||(!t63))=true then (if t63=true then mT (w.Types.getD x0.Key.toNat ag)else some 0)>>=λr_1=>if(bif t63 then decide (x0_1.Max<minI x0.Max r_1)else false)=true then some 3
 else some (decide (x0.Kind=4))>>=λt82=>(if t82=true then mu (x0,x0_1)else some false)>>=λr_2=>if(bif t82 then(!r_2)else false)=true then some 4
 else some (decide (x0.Kind=6))>>=λt92=>(if t92=true then mu (x0,x0_1)else some false)>>=λr_3=>if(bif t92 then(!r_3)else false)=true then some 5
 else if decide (x0.Kind=5)=true then pO (w,x0,r,x0_1)>>=λr_4=>some r_4
 else some 0
 else none
 else none
 else none
theorem G3:FC e143 pR:= .fx (.k HP (.k GG (.k GI .n)))
def pV(x_:au×Int×au×Int):Option (Int×Int):=
 match x_ with
 |(w,wt,r,rt)=>
 mS ((⟨w,wt⟩:aI),(⟨r,rt⟩:aI))>>=λr_1=>if(!(decide (r_1=0)))=true then some (0,r_1)
 else pR (w,wt,r,rt)>>=λr_2=>some (r_2,0)
theorem Hy:FC e91 pV:= .fx (.k wH (.k G3 .n))
def pz(x_:bp×aw):Option (Bool):=
 match x_ with
 |(p,x0)=>
 pV (p.w.Schema,x0.A0,p.r.Schema,x0.A1)>>=λr=>some (bif decide (r.1=0)then decide (r.2=0)else false)
theorem FN:FC e41 pz:= .fx (.k Hy .n)
def dW(x_:Int×Int×List aw×aw):Option ((Int×List aw) ⊕ (List aw)):=
 match x_ with
 |(t7_1,t8,b_3,b_4)=>
 if decide (t8<t7_1)=true then if inR t8 b_3.length=true then if decide (t8.toNat<b_3.length)=true then if(eqI b_4.A0 (b_3.getD t8.toNat aG).A0&&(eqI b_4.A1 (b_3.getD t8.toNat aG).A1&&true))=true then some (.inl (t8,b_3))
 else dW (t7_1,addI .i64 t8 1,b_3,b_4)
 else none
 else none
 else some (.inr b_3)
  partial_fixpoint
theorem D8:LC 90 1 [0] BQ dW:= .rx dW.partial_correctness
def r4(x_:aw×List aw):Option (Int×List aw):=
 match x_ with
 |(v,b)=>
 dW ((b.length:Int),0,b,v)>>=λo=>match o with
 |.inl o_1=>
 some (o_1.1,o_1.2)
 |.inr o_2=>
 some ((-1),o_2)
theorem EE:FC e90_b r4:= .fx .n (.k D8 .n)
def oY(x_:aw×List aw):Option (Bool×List aw):=
 match x_ with
 |(v,b)=>
 r4 (v,b)>>=λr=>if(decide (r.2.length=b.length)&&true)=true then some (decide (0<=r.1),r.2)
 else none
theorem D9:FC e38_b oY:= .fx (.k EE .n)
def iX(x_:Int×Int×List aw):Option (List aw):=
 match x_ with
 |(a,b,b_1)=>
 oY ((⟨a,b⟩:aw),b_1)>>=λr=>if(decide (r.2.length=b_1.length)&&true)=true then if(!r.1)=true then some [(⟨a,b⟩:aw)]>>=λt15=>if room 16 (r.2++t15).length=true then some (r.2++t15)
 else none
 else some r.2
 else none
theorem vM:FC e203 iX:= .fx (.k D9 .n)
def gr(x_:List av×Int×Int×ae×ae×List aw):Option (ae×ae×List aw):=
 match x_ with
 |(t35,t36_1,t37,b_3,b_4,b_5)=>
 if decide (t37<t36_1)=true then if inR t37 t35.length=true then some (t35.getD t37.toNat af)>>=λx0_2=>bC (b_4,x0_2.ID)>>=λr_4=>if r_4.2=true then if inR r_4.1 b_4.Members.length=true then iX (x0_2.Type_,(b_4.Members.getD r_4.1.toNat af).Type_,b_5)>>=λr_7=>gr (t35,t36_1,addI .i64 t37 1,b_3,b_4,r_7)
 else none
 else gr (t35,t36_1,addI .i64 t37 1,b_3,b_4,b_5)
 else none
 else some (b_3,b_4,b_5)
  partial_fixpoint
theorem Et:LC 144 0 [0] Dd gr:= .rx gr.partial_correctness (.k dF (.k vM .n))
def pj(x_:au×Int×au×Int):Option (List aw):=
 match x_ with
 |(w,wt,r,rt)=>
 if inR wt w.Types.length=true then some (w.Types.getD wt.toNat ag)>>=λx0=>if inR rt r.Types.length=true then some (r.Types.getD rt.toNat ag)>>=λx0_1=>if(!(decide (x0.Kind=x0_1.Kind)))=true then some []
 else gr (x0.Members,(x0.Members.length:Int),0,x0,x0_1,[])>>=λo=>if(bif decide (o.1.Kind=8)then decide (0<o.1.Max)else false)=true then iX (o.1.Key,o.2.1.Key,o.2.2)>>=λr_1=>if(bif decide (o.1.Kind=9)then true else bif bif decide (o.1.Kind=7)then true else decide (o.1.Kind=8)then decide (0<o.1.Max)else false)=true then iX (o.1.Elem,o.2.1.Elem,r_1)>>=λr_2=>some r_2
 else some r_1
 else if(bif decide (o.1.Kind=9)then true else bif bif decide (o.1.Kind=7)then true else decide (o.1.Kind=8)then decide (0<o.1.Max)else false)=true then iX (o.1.Elem,o.2.1.Elem,o.2.2)>>=λr_3=>some r_3
 else some o.2.2
 else none
 else none
theorem Ff:FC e144 pj:= .fx (.k vM .n) (.k Et .n)
def pn(x_:au×Int×au×Int):Option (List aw×Int):=
 match x_ with
 |(w,wt,r,rt)=>
 mS ((⟨w,wt⟩:aI),(⟨r,rt⟩:aI))>>=λr_1=>if(!(decide (r_1=0)))=true then some ([],r_1)
 else pj (w,wt,r,rt)>>=λr_2=>some (r_2,0)
theorem Fg:FC e93 pn:= .fx (.k wH (.k Ff .n))
def pA(x_:bp×aw):Option (List aw):=
 match x_ with
 |(p,x0)=>
 pn (p.w.Schema,x0.A0,p.r.Schema,x0.A1)>>=λr=>some r.1
theorem FO:FC e43 pA:= .fx (.k Fg .n)
mutual
def fK(v:ab):Option (ab):=
 bg 120 v.Keys>>=λr=>bg 120 v.Items>>=λr_1=>bg 24 v.Rest>>=λr_2=>kq ((r.length:Int),0,v.Kind,v.Bool_,v.Int_,v.Str,v.ID,0,false,0,[],0,r,r_1,r_2)>>=λo=>kr ((o.2.2.2.2.2.2.2.2.2.2.2.1.length:Int),0,o.1,o.2.1,o.2.2.1,o.2.2.2.1,o.2.2.2.2.1,o.2.2.2.2.2.1,o.2.2.2.2.2.2.1,o.2.2.2.2.2.2.2.1,o.2.2.2.2.2.2.2.2.1,o.2.2.2.2.2.2.2.2.2.1,o.2.2.2.2.2.2.2.2.2.2.2.1,o.2.2.2.2.2.2.2.2.2.2.1,o.2.2.2.2.2.2.2.2.2.2.2.2)>>=λo_1=>some (⟨o_1.1,o_1.2.1,o_1.2.2.1,o_1.2.2.2.1,o_1.2.2.2.2.1,o_1.2.2.2.2.2.2.2.2.2.2.1,o_1.2.2.2.2.2.2.2.2.2.2.2.1,o_1.2.2.2.2.2.2.2.2.2.2.2.2⟩:ab)
  partial_fixpoint
def kq(x_:Int×Int×Int×Bool×Int×List UInt8×Int×Int×Bool×Int×List UInt8×Int×List ab×List ab×List aK):Option (Int×Bool×Int×List UInt8×Int×Int×Bool×Int×List UInt8×Int×List ab×List ab×List aK):=
 match x_ with
 |(t21_1,t22,b_26,b_27,b_28,b_29,b_30,b_31,b_32,b_33,b_34,b_35,b_36,b_37,b_38)=>
 if decide (t22<t21_1)=true then if inR t22 b_36.length=true then if decide (t22.toNat<b_36.length)=true then fK (ab.eta (b_36.getD t22.toNat aj))>>=λr_3=>if inR t22 b_36.length=true then if decide (t22.toNat<b_36.length)=true then kq (t21_1,addI .i64 t22 1,b_26,b_27,b_28,b_29,b_30,b_31,b_32,b_33,b_34,b_35,b_36.set t22.toNat (ab.eta r_3),b_37,b_38)
 else none
 else none
 else none
 else none
 else some (b_26,b_27,b_28,b_29,b_30,b_31,b_32,b_33,b_34,b_35,b_36,b_37,b_38)
  partial_fixpoint
def kr(x_:Int×Int×Int×Bool×Int×List UInt8×Int×Int×Bool×Int×List UInt8×Int×List ab×List ab×List aK):Option (Int×Bool×Int×List UInt8×Int×Int×Bool×Int×List UInt8×Int×List ab×List ab×List aK):=
 match x_ with
 |(t36_1,t37,b_39,b_40,b_41,b_42,b_43,b_44,b_45,b_46,b_47,b_48,b_49,b_50,b_51)=>
 if decide (t37<t36_1)=true then if inR t37 b_49.length=true then if decide (t37.toNat<b_49.length)=true then fK (ab.eta (b_49.getD t37.toNat aj))>>=λr_4=>if inR t37 b_49.length=true then if decide (t37.toNat<b_49.length)=true then kr (t36_1,addI .i64 t37 1,b_39,b_40,b_41,b_42,b_43,b_44,b_45,b_46,b_47,b_48,b_49.set t37.toNat (ab.eta r_4),b_50,b_51)
 else none
 else none
 else none
 else none
 else some (b_39,b_40,b_41,b_42,b_43,b_44,b_45,b_46,b_47,b_48,b_50,b_49,b_51)
  partial_fixpoint
end
end
section
open Go Go.Proofs.YtkbmjabicjpmjaaGreatDoor.Shv
open Tryz
set_option maxRecDepth 100000
def eM(x_:List aw×Int×List ae×Int×List ae×Int):Option ((Bool) ⊕ (List aw×List ae×Int×List ae×Int)):=
 match x_ with
 |(l_2,i,b_4,b_5,b_6,b_7)=>
 if decide (i<(l_2.length:Int))=true then some (subI .i64 i 1)>>=λt42=>if inR t42 l_2.length=true then pA ((⟨(⟨(⟨b_4⟩:au),b_5⟩:aI),(⟨(⟨b_6⟩:au),b_7⟩:aI)⟩:bp),l_2.getD t42.toNat aG)>>=λr_5=>if inR i l_2.length=true then lS (r_5,l_2.getD i.toNat aG)>>=λr_6=>if(!r_6)=true then some (.inl false)
 else eM (l_2,addI .i64 i 1,b_4,b_5,b_6,b_7)
 else none
 else none
 else some (.inr (l_2,b_4,b_5,b_6,b_7))
  partial_fixpoint
theorem G4:LC 20 0 [0] e20_0 eM:= .rx eM.partial_correctness (.k FO (.k Er .n))
def ql(x_:aI×aI×List aw):Option (Bool):=
 match x_ with
 |(w,r,l)=>
 mR w>>=λr_1=>some (!r_1)>>=λt14=>(if(!t14)=true then mR r else some false)>>=λr_2=>some (bif bif t14 then true else(!r_2)then true else decide ((l.length:Int)=0))>>=λt24=>if(inR 0 l.length||(!(!t24)))=true then some (l.getD (0:Int).toNat aG)>>=λx0=>(if(!t24)=true then si (⟨w,r⟩:bp)else some aG)>>=λr_3=>if(bif t24 then true else(!(eqI x0.A0 r_3.A0&&(eqI x0.A1 r_3.A1&&true))))=true then some false
 else eM (l,1,w.Schema.Types,w.Type_,r.Schema.Types,r.Type_)>>=λo=>match o with
 |.inl o_1=>
 some o_1
 |.inr o_2=>
 some (subI .i64 (o_2.1.length:Int) 1)>>=λt56=>if inR t56 o_2.1.length=true then pz ((⟨(⟨(⟨o_2.2.1⟩:au),o_2.2.2.1⟩:aI),(⟨(⟨o_2.2.2.2.1⟩:au),o_2.2.2.2.2⟩:aI)⟩:bp),o_2.1.getD t56.toNat aG)>>=λr_4=>some (!r_4)
 else none
 else none
theorem H6:FC e20 ql:= .fx (.k HO (.k FM (.k FN .n))) (.k G4 .n)
def dB(t:ae):Option (ae):=
 if decide (t.Kind=1)=true then some (⟨t.Kind,[],0,0,0,[],[],0,0,false⟩:ae)
 else if decide (t.Kind=2)=true then some (⟨t.Kind,[],t.Low,t.High,0,[],[],0,0,false⟩:ae)
 else if decide (t.Kind=3)=true then some (⟨t.Kind,[],0,0,t.Max,[],[],0,0,false⟩:ae)
 else if decide (t.Kind=4)=true then some (⟨t.Kind,t.Name,0,0,0,t.Symbols,[],0,0,t.Open⟩:ae)
 else if decide (t.Kind=5)=true then some (⟨t.Kind,t.Name,0,0,0,[],t.Members,0,0,false⟩:ae)
 else if decide (t.Kind=6)=true then some (⟨t.Kind,t.Name,0,0,0,[],t.Members,0,0,t.Open⟩:ae)
 else if decide (t.Kind=7)=true then some (⟨t.Kind,[],0,0,t.Max,[],[],0,t.Elem,false⟩:ae)
 else if decide (t.Kind=8)=true then some (⟨t.Kind,[],0,0,t.Max,[],[],t.Key,t.Elem,false⟩:ae)
 else some (⟨t.Kind,[],0,0,0,[],[],0,t.Elem,false⟩:ae)
theorem Gi:FC e239 dB:= .fx
def fh(x_:Int×ab×ab):Option ((Bool) ⊕ (ab×ab)):=
 match x_ with
 |(i,b_3,b_4)=>
 if decide (i<(b_3.Rest.length:Int))=true then if inR i b_3.Rest.length=true then some (b_3.Rest.getD i.toNat aE)>>=λx0=>if inR i b_4.Rest.length=true then some (b_4.Rest.getD i.toNat aE)>>=λx0_1=>if(!(eqI x0.ID x0_1.ID&&(eqS x0.Data x0_1.Data&&true)))=true then some (.inl false)
 else fh (addI .i64 i 1,ab.eta b_3,ab.eta b_4)
 else none
 else none
 else some (.inr (ab.eta b_3,ab.eta b_4))
  partial_fixpoint
theorem Ea:LC 118 0 [0] De fh:= .rx fh.partial_correctness
mutual
def cu(x_:ab×ab):Option (Bool):=
 match x_ with
 |(a,b)=>
 if(bif bif bif bif bif (!(decide (a.Kind=b.Kind)))then true else(!(eqB a.Bool_ b.Bool_))then true else(!(decide (a.Int_=b.Int_)))then true else(!(decide (a.Str=b.Str)))then true else(!(decide (a.ID=b.ID)))then true else(!(decide ((a.Rest.length:Int)=(b.Rest.length:Int)))))=true then some false
 else fh (0,(⟨a.Kind,a.Bool_,a.Int_,a.Str,a.ID,a.Keys,a.Items,a.Rest⟩:ab),(⟨b.Kind,b.Bool_,b.Int_,b.Str,b.ID,b.Keys,b.Items,b.Rest⟩:ab))>>=λo=>match o with
 |.inl o_1=>
 some o_1
 |.inr o_2=>
 lT (o_2.1.Keys,o_2.2.Keys)>>=λr=>(if r=true then lT (o_2.1.Items,o_2.2.Items)else some false)>>=λr_1=>some (bif r then r_1 else false)
  partial_fixpoint
def lT(x_:List ab×List ab):Option (Bool):=
 match x_ with
 |(a,b)=>
 if(!(decide ((a.length:Int)=(b.length:Int))))=true then some false
 else j6 (a,b,0)>>=λo=>match o with
 |.inl o_1=>
 some o_1
 |.inr o_2=>
 some true
  partial_fixpoint
def j6(x_:List ab×List ab×Int):Option ((Bool) ⊕ (Unit)):=
 match x_ with
 |(a_1,b_1,i)=>
 if decide (i<(a_1.length:Int))=true then if inR i a_1.length=true then if inR i b_1.length=true then cu (ab.eta (a_1.getD i.toNat aj),ab.eta (b_1.getD i.toNat aj))>>=λr=>if(!r)=true then some (.inl false)
 else j6 (a_1,b_1,addI .i64 i 1)
 else none
 else none
 else some (.inr ())
  partial_fixpoint
end
theorem Ei:FZ e118 cu/\FZ e183 lT/\LZ 183 0 [0] oL j6:=cu.mutual_partial_correctness (FD e118) (FD e183) (LD 183 0 [0] oL)
 (λ_ h1 _ _ h=>FB h (.k (FG e183 h1) .n) (.k Ea .n))
 (λ_ h2 _ _ h=>FB h .n (.k (LG oL h2) .n))
 (λ_ _ h0 h2 _ _ h=>LB oL h2 h (.k (FG e118 h0) .n))
theorem o8:FC e118 cu:=FG _ Ei.1
def lU(x_:av×av):Option (Bool):=
 match x_ with
 |(a,b)=>
 some (bif bif bif bif decide (a.ID=b.ID)then decide (a.Name=b.Name)else false then decide (a.Type_=b.Type_)else false then eqB a.Critical b.Critical else false then eqB a.HasDefault b.HasDefault else false)>>=λt37=>(if t37=true then cu ((⟨a.Default.Kind,a.Default.Bool_,a.Default.Int_,a.Default.Str,a.Default.ID,a.Default.Keys,a.Default.Items,a.Default.Rest⟩:ab),(⟨b.Default.Kind,b.Default.Bool_,b.Default.Int_,b.Default.Str,b.Default.ID,b.Default.Keys,b.Default.Items,b.Default.Rest⟩:ab))else some false)>>=λr=>some (bif t37 then r else false)
theorem Eu:FC e295 lU:= .fx (.k o8 .n)
def fi(x_:Int×ae×ae):Option ((Bool) ⊕ (ae×ae)):=
 match x_ with
 |(i,b_3,b_4)=>
 if decide (i<(b_3.Symbols.length:Int))=true then if inR i b_3.Symbols.length=true then some (b_3.Symbols.getD i.toNat aT)>>=λx0=>if inR i b_4.Symbols.length=true then some (b_4.Symbols.getD i.toNat aT)>>=λx0_1=>if(!(eqI x0.ID x0_1.ID&&(eqS x0.Name x0_1.Name&&true)))=true then some (.inl false)
 else fi (addI .i64 i 1,b_3,b_4)
 else none
 else none
 else some (.inr (b_3,b_4))
  partial_fixpoint
theorem Ej:LC 238 0 [0] Df fi:= .rx fi.partial_correctness
def fj(x_:Int×ae×ae):Option ((Bool) ⊕ (Unit)):=
 match x_ with
 |(i_1,b_5,b_6)=>
 if decide (i_1<(b_5.Members.length:Int))=true then if inR i_1 b_5.Members.length=true then some (b_5.Members.getD i_1.toNat af)>>=λx0_2=>if inR i_1 b_6.Members.length=true then some (b_6.Members.getD i_1.toNat af)>>=λx0_3=>lU ((⟨x0_2.ID,x0_2.Name,x0_2.Type_,x0_2.Critical,x0_2.HasDefault,ab.eta x0_2.Default⟩:av),(⟨x0_3.ID,x0_3.Name,x0_3.Type_,x0_3.Critical,x0_3.HasDefault,ab.eta x0_3.Default⟩:av))>>=λr=>if(!r)=true then some (.inl false)
 else fj (addI .i64 i_1 1,b_5,b_6)
 else none
 else none
 else some (.inr ())
  partial_fixpoint
theorem Ek:LC 238 0 [1] Dg fj:= .rx fj.partial_correctness (.k Eu .n)
def pe(x_:ae×ae):Option (Bool):=
 match x_ with
 |(a,b)=>
 if(bif bif bif bif bif bif bif bif bif (!(decide (a.Kind=b.Kind)))then true else(!(decide (a.Name=b.Name)))then true else(!(decide (a.Low=b.Low)))then true else(!(decide (a.High=b.High)))then true else(!(decide (a.Max=b.Max)))then true else(!(decide (a.Key=b.Key)))then true else(!(decide (a.Elem=b.Elem)))then true else(!(eqB a.Open b.Open))then true else(!(decide ((a.Symbols.length:Int)=(b.Symbols.length:Int))))then true else(!(decide ((a.Members.length:Int)=(b.Members.length:Int)))))=true then some false
 else fi (0,(⟨a.Kind,a.Name,a.Low,a.High,a.Max,a.Symbols,a.Members,a.Key,a.Elem,a.Open⟩:ae),(⟨b.Kind,b.Name,b.Low,b.High,b.Max,b.Symbols,b.Members,b.Key,b.Elem,b.Open⟩:ae))>>=λo=>match o with
 |.inl o_1=>
 some o_1
 |.inr o_2=>
 fj (0,o_2.1,o_2.2)>>=λo_3=>match o_3 with
 |.inl o_4=>
 some o_4
 |.inr o_5=>
 some true
theorem EU:FC e238 pe:= .fx .n (.k Ej (.k Ek .n))
def l9(b:Int):Option (Bool):=
 some (bif bif bif decide (97<=b)then decide (b<=122)else false then true else bif decide (65<=b)then decide (b<=90)else false then true else decide (b=95))
theorem vU:FC e296 l9:= .fx
def pE(b:Int):Option (Bool):=
 some (bif decide (48<=b)then decide (b<=57)else false)
theorem Gj:FC e297 pE:= .fx
def fq(x_:List UInt8×Int):Option ((Bool) ⊕ (Unit)):=
 match x_ with
 |(s_1,i)=>
 if decide (i<(s_1.length:Int))=true then if inR i s_1.length=true then l9 (dp s_1 i)>>=λr_1=>some (!r_1)>>=λt27=>if(inR i s_1.length||(!t27))=true then (if t27=true then pE (dp s_1 i)else some false)>>=λr_2=>if(bif t27 then(!r_2)else false)=true then some (.inl false)
 else fq (s_1,addI .i64 i 1)
 else none
 else none
 else some (.inr ())
  partial_fixpoint
theorem EF:LC 240 0 [0] Dh fq:= .rx fq.partial_correctness (.k vU (.k Gj .n))
def ja(s:List UInt8):Option (Bool):=
 some (bif decide (s=[])then true else decide (24<(s.length:Int)))>>=λt10=>if(inR 0 s.length||(!(!t10)))=true then (if(!t10)=true then l9 (dp s 0)else some false)>>=λr=>if(bif t10 then true else(!r))=true then some false
 else fq (s,0)>>=λo=>match o with
 |.inl o_1=>
 some o_1
 |.inr o_2=>
 some true
 else none
theorem r5:FC e240 ja:= .fx (.k vU .n) (.k EF .n)
end
end Go.Proofs.YtkbmjabicjpmjaaGreatDoor
