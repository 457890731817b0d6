/- The functions of the program as functions of Lean, that its code does what they say, and what they answer; part A. -/
import Derived.Test.YtandcioiaooocaaGreatProg
import Derived.KernelRfl
import Derived.Shelf.SlGeneric
import Derived.Shelf.SlLaysF0
import Derived.Shelf.SlSortCmp.WholeK
import Derived.Lib.Small
import Derived.Test.YtandcioiaooocaaGreatMdLD

namespace Go.Proofs.YtandcioiaooocaaGreat
set_option linter.all false
section
open Go Go.Proofs.YtandcioiaooocaaGreat.Shv
open Tryz
set_option maxRecDepth 100000
structure dr where
 ID:Int
 Type_:Int
 Flag:Int
structure aM where
 Kind:Int
 A:Int
 B:Int
 C:Int
 Parts:List dr
structure aT where
 Nodes:List aM
structure dq where
 S:aT
 T:Int
 C:List Int
structure aK where
 ID:Int
 Name:List UInt8
structure aG where
 ID:Int
 Data:List UInt8
structure ab where
 Kind:Int
 Bool_:Bool
 Int_:Int
 Str:List UInt8
 ID:Int
 Keys:List ab
 Items:List ab
 Rest:List aG
structure aj where
 ID:Int
 Name:List UInt8
 Type_:Int
 Critical:Bool
 HasDefault:Bool
 Default:ab
structure ae where
 Kind:Int
 Name:List UInt8
 Low:Int
 High:Int
 Max:Int
 Symbols:List aK
 Members:List aj
 Key:Int
 Elem:Int
 Open:Bool
structure az where
 Types:List ae
structure bP where
 id:Int
 text:List UInt8
structure lr where
 W:az
 R:az
 WT:Int
 RT:Int
 V:ab
structure dp where
 Kind:Int
 Node:Int
 A:Int
 B:Int
structure dI where
 D:dq
 L:List dp
structure kZ where
 Value:ab
 Path:List Int
 OK:Bool
structure aY where
 ID:Int
 Critical:Bool
 Data:List UInt8
structure dN where
 Path:List Int
 Reason:Int
abbrev Dx :Nat:=0
abbrev jx :Nat:=2
abbrev nD :Nat:=3
abbrev ql :Nat:=12
abbrev tK :Nat:=13
def bV :dr:=⟨0,0,0⟩
def aw :aM:=⟨0,0,0,0,[]⟩
def tS :aT:=⟨[]⟩
def tT :dq:=⟨tS,0,[]⟩
def aP :aK:=⟨0,[]⟩
def aC :aG:=⟨0,[]⟩
def af :ab:=⟨0,false,0,[],0,[],[],[]⟩
def ag :aj:=⟨0,[],0,false,false,af⟩
def ap :ae:=⟨0,[],0,0,0,[],[],0,0,false⟩
def sD :az:=⟨[]⟩
def n0 :bP:=⟨0,[]⟩
def Es :lr:=⟨sD,sD,0,0,af⟩
def d6 :dp:=⟨0,0,0,0⟩
def Ec :dI:=⟨tT,[]⟩
def Dy :kZ:=⟨af,[],false⟩
def dC :aY:=⟨0,false,[]⟩
def Il :dN:=⟨[],0⟩
def uD :Nat->Type
 | 0=>dq
 | 1=>aT
 | 2=>aM
 | 3=>dr
 | 4=>ae
 | 5=>aK
 | 6=>aj
 | 7=>ab
 | 8=>aG
 | 9=>az
 | 10=>bP
 | 11=>lr
 | 12=>dI
 | 13=>dp
 | 14=>kZ
 | 15=>aY
 | 16=>dN
 | _=>Bool
def uTys :Nat->List Ty
 | 0=>[.slice (.nm 2),.int .u8,.slice (.int .u8)]
 | 1=>[.slice (.nm 2)]
 | 2=>[.int .u8,.int .u8,.int .u8,.int .u8,.slice (.nm 3)]
 | 3=>[.int .u8,.int .u8,.int .u8]
 | 4=>[.int .i64,.str,.int .i64,.int .i64,.int .i64,.slice (.nm 5),.slice (.nm 6),.int .i64,.int .i64,.bool]
 | 5=>[.int .i64,.str]
 | 6=>[.int .i64,.str,.int .i64,.bool,.bool,.int .i64,.bool,.int .i64,.str,.int .i64,.slice (.nm 7),.slice (.nm 7),.slice (.nm 8)]
 | 7=>[.int .i64,.bool,.int .i64,.str,.int .i64,.slice (.nm 7),.slice (.nm 7),.slice (.nm 8)]
 | 8=>[.int .i64,.str]
 | 9=>[.slice (.nm 4)]
 | 10=>[.int .i64,.str]
 | 11=>[.slice (.nm 4),.slice (.nm 4),.int .i64,.int .i64,.int .i64,.bool,.int .i64,.str,.int .i64,.slice (.nm 7),.slice (.nm 7),.slice (.nm 8)]
 | 12=>[.slice (.nm 2),.int .u8,.slice (.int .u8),.slice (.nm 13)]
 | 13=>[.int .u8,.int .u8,.int .u8,.int .u8]
 | 14=>[.int .i64,.bool,.int .i64,.str,.int .i64,.slice (.nm 7),.slice (.nm 7),.slice (.nm 8),.slice (.int .i64),.bool]
 | 15=>[.int .i64,.bool,.str]
 | 16=>[.slice (.int .i64),.int .i64]
 | _=>[.bool]
def uFlds :(n:Nat)->uD n->List (Cell uD)
 | 0,(x:dq)=>[⟨.slice (.nm 2),x.S.Nodes⟩,⟨.int .u8,x.T⟩,⟨.slice (.int .u8),x.C⟩]
 | 1,(x:aT)=>[⟨.slice (.nm 2),x.Nodes⟩]
 | 2,(x:aM)=>[⟨.int .u8,x.Kind⟩,⟨.int .u8,x.A⟩,⟨.int .u8,x.B⟩,⟨.int .u8,x.C⟩,⟨.slice (.nm 3),x.Parts⟩]
 | 3,(x:dr)=>[⟨.int .u8,x.ID⟩,⟨.int .u8,x.Type_⟩,⟨.int .u8,x.Flag⟩]
 | 4,(x:ae)=>[⟨.int .i64,x.Kind⟩,⟨.str,x.Name⟩,⟨.int .i64,x.Low⟩,⟨.int .i64,x.High⟩,⟨.int .i64,x.Max⟩,⟨.slice (.nm 5),x.Symbols⟩,⟨.slice (.nm 6),x.Members⟩,⟨.int .i64,x.Key⟩,⟨.int .i64,x.Elem⟩,⟨.bool,x.Open⟩]
 | 5,(x:aK)=>[⟨.int .i64,x.ID⟩,⟨.str,x.Name⟩]
 | 6,(x:aj)=>[⟨.int .i64,x.ID⟩,⟨.str,x.Name⟩,⟨.int .i64,x.Type_⟩,⟨.bool,x.Critical⟩,⟨.bool,x.HasDefault⟩,⟨.int .i64,x.Default.Kind⟩,⟨.bool,x.Default.Bool_⟩,⟨.int .i64,x.Default.Int_⟩,⟨.str,x.Default.Str⟩,⟨.int .i64,x.Default.ID⟩,⟨.slice (.nm 7),x.Default.Keys⟩,⟨.slice (.nm 7),x.Default.Items⟩,⟨.slice (.nm 8),x.Default.Rest⟩]
 | 7,(x:ab)=>[⟨.int .i64,x.Kind⟩,⟨.bool,x.Bool_⟩,⟨.int .i64,x.Int_⟩,⟨.str,x.Str⟩,⟨.int .i64,x.ID⟩,⟨.slice (.nm 7),x.Keys⟩,⟨.slice (.nm 7),x.Items⟩,⟨.slice (.nm 8),x.Rest⟩]
 | 8,(x:aG)=>[⟨.int .i64,x.ID⟩,⟨.str,x.Data⟩]
 | 9,(x:az)=>[⟨.slice (.nm 4),x.Types⟩]
 | 10,(x:bP)=>[⟨.int .i64,x.id⟩,⟨.str,x.text⟩]
 | 11,(x:lr)=>[⟨.slice (.nm 4),x.W.Types⟩,⟨.slice (.nm 4),x.R.Types⟩,⟨.int .i64,x.WT⟩,⟨.int .i64,x.RT⟩,⟨.int .i64,x.V.Kind⟩,⟨.bool,x.V.Bool_⟩,⟨.int .i64,x.V.Int_⟩,⟨.str,x.V.Str⟩,⟨.int .i64,x.V.ID⟩,⟨.slice (.nm 7),x.V.Keys⟩,⟨.slice (.nm 7),x.V.Items⟩,⟨.slice (.nm 8),x.V.Rest⟩]
 | 12,(x:dI)=>[⟨.slice (.nm 2),x.D.S.Nodes⟩,⟨.int .u8,x.D.T⟩,⟨.slice (.int .u8),x.D.C⟩,⟨.slice (.nm 13),x.L⟩]
 | 13,(x:dp)=>[⟨.int .u8,x.Kind⟩,⟨.int .u8,x.Node⟩,⟨.int .u8,x.A⟩,⟨.int .u8,x.B⟩]
 | 14,(x:kZ)=>[⟨.int .i64,x.Value.Kind⟩,⟨.bool,x.Value.Bool_⟩,⟨.int .i64,x.Value.Int_⟩,⟨.str,x.Value.Str⟩,⟨.int .i64,x.Value.ID⟩,⟨.slice (.nm 7),x.Value.Keys⟩,⟨.slice (.nm 7),x.Value.Items⟩,⟨.slice (.nm 8),x.Value.Rest⟩,⟨.slice (.int .i64),x.Path⟩,⟨.bool,x.OK⟩]
 | 15,(x:aY)=>[⟨.int .i64,x.ID⟩,⟨.bool,x.Critical⟩,⟨.str,x.Data⟩]
 | 16,(x:dN)=>[⟨.slice (.int .i64),x.Path⟩,⟨.int .i64,x.Reason⟩]
 | _+17,(x:Bool)=>[⟨.bool,x⟩]
def uMake :(n:Nat)->List (Cell uD)->Option (uD n)
 | 0,l=>match Hs.dec uD (uTys 0) l with
  | some h=>some (⟨(⟨h.1⟩:aT),h.2.1,h.2.2⟩:dq)
  | none=>none
 | 1,l=>match Hs.dec uD (uTys 1) l with
  | some h=>some (⟨h⟩:aT)
  | none=>none
 | 2,l=>match Hs.dec uD (uTys 2) l with
  | some h=>some (⟨h.1,h.2.1,h.2.2.1,h.2.2.2.1,h.2.2.2.2⟩:aM)
  | none=>none
 | 3,l=>match Hs.dec uD (uTys 3) l with
  | some h=>some (⟨h.1,h.2.1,h.2.2⟩:dr)
  | none=>none
 | 4,l=>match Hs.dec uD (uTys 4) l with
  | some h=>some (⟨h.1,h.2.1,h.2.2.1,h.2.2.2.1,h.2.2.2.2.1,h.2.2.2.2.2.1,h.2.2.2.2.2.2.1,h.2.2.2.2.2.2.2.1,h.2.2.2.2.2.2.2.2.1,h.2.2.2.2.2.2.2.2.2⟩:ae)
  | none=>none
 | 5,l=>match Hs.dec uD (uTys 5) l with
  | some h=>some (⟨h.1,h.2⟩:aK)
  | none=>none
 | 6,l=>match Hs.dec uD (uTys 6) l with
  | some h=>some (⟨h.1,h.2.1,h.2.2.1,h.2.2.2.1,h.2.2.2.2.1,(⟨h.2.2.2.2.2.1,h.2.2.2.2.2.2.1,h.2.2.2.2.2.2.2.1,h.2.2.2.2.2.2.2.2.1,h.2.2.2.2.2.2.2.2.2.1,h.2.2.2.2.2.2.2.2.2.2.1,h.2.2.2.2.2.2.2.2.2.2.2.1,h.2.2.2.2.2.2.2.2.2.2.2.2⟩:ab)⟩:aj)
  | none=>none
 | 7,l=>match Hs.dec uD (uTys 7) l with
  | some h=>some (⟨h.1,h.2.1,h.2.2.1,h.2.2.2.1,h.2.2.2.2.1,h.2.2.2.2.2.1,h.2.2.2.2.2.2.1,h.2.2.2.2.2.2.2⟩:ab)
  | none=>none
 | 8,l=>match Hs.dec uD (uTys 8) l with
  | some h=>some (⟨h.1,h.2⟩:aG)
  | none=>none
 | 9,l=>match Hs.dec uD (uTys 9) l with
  | some h=>some (⟨h⟩:az)
  | none=>none
 | 10,l=>match Hs.dec uD (uTys 10) l with
  | some h=>some (⟨h.1,h.2⟩:bP)
  | none=>none
 | 11,l=>match Hs.dec uD (uTys 11) l with
  | some h=>some (⟨(⟨h.1⟩:az),(⟨h.2.1⟩:az),h.2.2.1,h.2.2.2.1,(⟨h.2.2.2.2.1,h.2.2.2.2.2.1,h.2.2.2.2.2.2.1,h.2.2.2.2.2.2.2.1,h.2.2.2.2.2.2.2.2.1,h.2.2.2.2.2.2.2.2.2.1,h.2.2.2.2.2.2.2.2.2.2.1,h.2.2.2.2.2.2.2.2.2.2.2⟩:ab)⟩:lr)
  | none=>none
 | 12,l=>match Hs.dec uD (uTys 12) l with
  | some h=>some (⟨(⟨(⟨h.1⟩:aT),h.2.1,h.2.2.1⟩:dq),h.2.2.2⟩:dI)
  | none=>none
 | 13,l=>match Hs.dec uD (uTys 13) l with
  | some h=>some (⟨h.1,h.2.1,h.2.2.1,h.2.2.2⟩:dp)
  | none=>none
 | 14,l=>match Hs.dec uD (uTys 14) l with
  | some h=>some (⟨(⟨h.1,h.2.1,h.2.2.1,h.2.2.2.1,h.2.2.2.2.1,h.2.2.2.2.2.1,h.2.2.2.2.2.2.1,h.2.2.2.2.2.2.2.1⟩:ab),h.2.2.2.2.2.2.2.2.1,h.2.2.2.2.2.2.2.2.2⟩:kZ)
  | none=>none
 | 15,l=>match Hs.dec uD (uTys 15) l with
  | some h=>some (⟨h.1,h.2.1,h.2.2⟩:aY)
  | none=>none
 | 16,l=>match Hs.dec uD (uTys 16) l with
  | some h=>some (⟨h.1,h.2⟩:dN)
  | none=>none
 | _+17,l=>match Hs.dec uD [.bool] l with
  | some (h:Bool)=>some h
  | none=>none
def eSheaveref07Part(x:dr):List T:=[.int .u8 x.ID,.int .u8 x.Type_,.int .u8 x.Flag]
def eSheaveref07Node(x:aM):List T:=[.int .u8 x.Kind,.int .u8 x.A,.int .u8 x.B,.int .u8 x.C,.slice (x.Parts.map eSheaveref07Part)]
def eSheaveref07Draft(x:aT):List T:=[.slice (x.Nodes.map eSheaveref07Node)]
def eSheaveref08Draft(x:dq):List T:=[.slice (x.S.Nodes.map eSheaveref07Node),.int .u8 x.T,.slice (x.C.map (fun y=>[.int .u8 y]))]
def eSSymbol(x:aK):List T:=[.int .i64 x.ID,.str x.Name]
def eSRaw(x:aG):List T:=[.int .i64 x.ID,.str x.Data]
def ab.eta(x:ab):ab:=⟨x.Kind,x.Bool_,x.Int_,x.Str,x.ID,x.Keys,x.Items,x.Rest⟩
theorem ab.aA(x:ab):x.eta=x:=by cases x;rfl
mutual
def eSValue :ab->List T
 | ⟨a0,a1,a2,a3,a4,a5,a6,a7⟩=>[.int .i64 a0,.bool a1,.int .i64 a2,.str a3,.int .i64 a4,.slice (eSValueL a5),.slice (eSValueL a6),.slice (a7.map eSRaw)]
def eSValueL :List ab->List (List T)
 | []=>[]
 | v::r=>eSValue v::eSValueL r
end
theorem vb :∀l,eSValueL l=l.map eSValue
 | []=>rfl
 | v::r=>by simp only[eSValueL,List.map];rw[vb r]
theorem He(x:ab):eSValue x=[.int .i64 x.Kind,.bool x.Bool_,.int .i64 x.Int_,.str x.Str,.int .i64 x.ID,.slice (x.Keys.map eSValue),.slice (x.Items.map eSValue),.slice (x.Rest.map eSRaw)]:=by cases x;simp only[eSValue,vb]
def eSMember(x:aj):List T:=[.int .i64 x.ID,.str x.Name,.int .i64 x.Type_,.bool x.Critical,.bool x.HasDefault,.int .i64 x.Default.Kind,.bool x.Default.Bool_,.int .i64 x.Default.Int_,.str x.Default.Str,.int .i64 x.Default.ID,.slice (x.Default.Keys.map eSValue),.slice (x.Default.Items.map eSValue),.slice (x.Default.Rest.map eSRaw)]
def eSType(x:ae):List T:=[.int .i64 x.Kind,.str x.Name,.int .i64 x.Low,.int .i64 x.High,.int .i64 x.Max,.slice (x.Symbols.map eSSymbol),.slice (x.Members.map eSMember),.int .i64 x.Key,.int .i64 x.Elem,.bool x.Open]
def eSSchema(x:az):List T:=[.slice (x.Types.map eSType)]
def eEncodeEntry(x:bP):List T:=[.int .i64 x.id,.str x.text]
def eSheavelaw14Job(x:lr):List T:=[.slice (x.W.Types.map eSType),.slice (x.R.Types.map eSType),.int .i64 x.WT,.int .i64 x.RT,.int .i64 x.V.Kind,.bool x.V.Bool_,.int .i64 x.V.Int_,.str x.V.Str,.int .i64 x.V.ID,.slice (x.V.Keys.map eSValue),.slice (x.V.Items.map eSValue),.slice (x.V.Rest.map eSRaw)]
def eSheaveref07Change(x:dp):List T:=[.int .u8 x.Kind,.int .u8 x.Node,.int .u8 x.A,.int .u8 x.B]
def eSheaveref14Case(x:dI):List T:=[.slice (x.D.S.Nodes.map eSheaveref07Node),.int .u8 x.D.T,.slice (x.D.C.map (fun y=>[.int .u8 y])),.slice (x.L.map eSheaveref07Change)]
def eSheaveref14Result(x:kZ):List T:=[.int .i64 x.Value.Kind,.bool x.Value.Bool_,.int .i64 x.Value.Int_,.str x.Value.Str,.int .i64 x.Value.ID,.slice (x.Value.Keys.map eSValue),.slice (x.Value.Items.map eSValue),.slice (x.Value.Rest.map eSRaw),.slice (x.Path.map (fun y=>[.int .i64 y])),.bool x.OK]
def eSField(x:aY):List T:=[.int .i64 x.ID,.bool x.Critical,.str x.Data]
def eSFailure(x:dN):List T:=[.slice (x.Path.map (fun y=>[.int .i64 y])),.int .i64 x.Reason]
def uEnc :(n:Nat)->uD n->List T
 | 0,x=>eSheaveref08Draft x
 | 1,x=>eSheaveref07Draft x
 | 2,x=>eSheaveref07Node x
 | 3,x=>eSheaveref07Part x
 | 4,x=>eSType x
 | 5,x=>eSSymbol x
 | 6,x=>eSMember x
 | 7,x=>eSValue x
 | 8,x=>eSRaw x
 | 9,x=>eSSchema x
 | 10,x=>eEncodeEntry x
 | 11,x=>eSheavelaw14Job x
 | 12,x=>eSheaveref14Case x
 | 13,x=>eSheaveref07Change x
 | 14,x=>eSheaveref14Result x
 | 15,x=>eSField x
 | 16,x=>eSFailure x
 | _+17,(x:Bool)=>[.bool x]
def Un :Uni where
 D:=uD
 dfl:=fun n=>match n with
  | 0=>tT
  | 1=>tS
  | 2=>aw
  | 3=>bV
  | 4=>ap
  | 5=>aP
  | 6=>ag
  | 7=>af
  | 8=>aC
  | 9=>sD
  | 10=>n0
  | 11=>Es
  | 12=>Ec
  | 13=>d6
  | 14=>Dy
  | 15=>dC
  | 16=>Il
  | _+17=>false
 flds:=uFlds
 make:=uMake
 tys:=uTys
 enc:=uEnc
 enc_eq:=fun n x=>match n,x with
  | 0,_=>rfl
  | 1,_=>rfl
  | 2,_=>rfl
  | 3,_=>rfl
  | 4,_=>rfl
  | 5,_=>rfl
  | 6,_=>rfl
  | 7,x=>He x
  | 8,_=>rfl
  | 9,_=>rfl
  | 10,_=>rfl
  | 11,_=>rfl
  | 12,_=>rfl
  | 13,_=>rfl
  | 14,_=>rfl
  | 15,_=>rfl
  | 16,_=>rfl
  | _+17,_=>rfl
 mk_eq:=fun n l x h=>match n,x,h with
  | 0,x,h=>by
   simp only[uMake]at h;split at h
   . rename_i hh hd;cases h;exact Hs.dec_cells hd
   . cases h
  | 1,x,h=>by
   simp only[uMake]at h;split at h
   . rename_i hh hd;cases h;exact Hs.dec_cells hd
   . cases h
  | 2,x,h=>by
   simp only[uMake]at h;split at h
   . rename_i hh hd;cases h;exact Hs.dec_cells hd
   . cases h
  | 3,x,h=>by
   simp only[uMake]at h;split at h
   . rename_i hh hd;cases h;exact Hs.dec_cells hd
   . cases h
  | 4,x,h=>by
   simp only[uMake]at h;split at h
   . rename_i hh hd;cases h;exact Hs.dec_cells hd
   . cases h
  | 5,x,h=>by
   simp only[uMake]at h;split at h
   . rename_i hh hd;cases h;exact Hs.dec_cells hd
   . cases h
  | 6,x,h=>by
   simp only[uMake]at h;split at h
   . rename_i hh hd;cases h;exact Hs.dec_cells hd
   . cases h
  | 7,x,h=>by
   simp only[uMake]at h;split at h
   . rename_i hh hd;cases h;exact Hs.dec_cells hd
   . cases h
  | 8,x,h=>by
   simp only[uMake]at h;split at h
   . rename_i hh hd;cases h;exact Hs.dec_cells hd
   . cases h
  | 9,x,h=>by
   simp only[uMake]at h;split at h
   . rename_i hh hd;cases h;exact Hs.dec_cells hd
   . cases h
  | 10,x,h=>by
   simp only[uMake]at h;split at h
   . rename_i hh hd;cases h;exact Hs.dec_cells hd
   . cases h
  | 11,x,h=>by
   simp only[uMake]at h;split at h
   . rename_i hh hd;cases h;exact Hs.dec_cells hd
   . cases h
  | 12,x,h=>by
   simp only[uMake]at h;split at h
   . rename_i hh hd;cases h;exact Hs.dec_cells hd
   . cases h
  | 13,x,h=>by
   simp only[uMake]at h;split at h
   . rename_i hh hd;cases h;exact Hs.dec_cells hd
   . cases h
  | 14,x,h=>by
   simp only[uMake]at h;split at h
   . rename_i hh hd;cases h;exact Hs.dec_cells hd
   . cases h
  | 15,x,h=>by
   simp only[uMake]at h;split at h
   . rename_i hh hd;cases h;exact Hs.dec_cells hd
   . cases h
  | 16,x,h=>by
   simp only[uMake]at h;split at h
   . rename_i hh hd;cases h;exact Hs.dec_cells hd
   . cases h
  | _+17,x,h=>by
   simp only[uMake]at h;split at h
   . rename_i hh hd;cases h;exact Hs.dec_cells hd
   . cases h
 tys_eq:=fun n x=>match n,x with
  | 0,_=>rfl
  | 1,_=>rfl
  | 2,_=>rfl
  | 3,_=>rfl
  | 4,_=>rfl
  | 5,_=>rfl
  | 6,_=>rfl
  | 7,_=>rfl
  | 8,_=>rfl
  | 9,_=>rfl
  | 10,_=>rfl
  | 11,_=>rfl
  | 12,_=>rfl
  | 13,_=>rfl
  | 14,_=>rfl
  | 15,_=>rfl
  | 16,_=>rfl
  | _+17,_=>rfl
 tyOf:=fun e=>match e with
  | 3=>some (.int .i64)
  | 5=>some (.int .u8)
  | 9=>some .str
  | 37=>some (.nm 7)
  | 74=>some (.nm 6)
  | 81=>some (.nm 8)
  | 96=>some (.nm 4)
  | 118=>some (.nm 5)
  | 125=>some (.nm 3)
  | 206=>some (.nm 15)
  | 245=>some (.nm 10)
  | _=>none
 own:=[([false,false,true,true],2,.int .i64),([false,true,true,false],1,.int .i64)]
 pos:=fun n=>match n with
  | 0=>by decide
  | 1=>by decide
  | 2=>by decide
  | 3=>by decide
  | 4=>by decide
  | 5=>by decide
  | 6=>by decide
  | 7=>by decide
  | 8=>by decide
  | 9=>by decide
  | 10=>by decide
  | 11=>by decide
  | 12=>by decide
  | 13=>by decide
  | 14=>by decide
  | 15=>by decide
  | 16=>by decide
  | _+17=>Nat.zero_lt_one
theorem N5 :Un.Total:=fun n l h=>match n,h with
 | 0,h=>by
  obtain⟨x,hx⟩:=Hs.dec_ty (D:=uD) (ts:=uTys 0) h;exact⟨_,by show uMake 0 l=_;simp only[uMake,hx];rfl⟩
 | 1,h=>by
  obtain⟨x,hx⟩:=Hs.dec_ty (D:=uD) (ts:=uTys 1) h;exact⟨_,by show uMake 1 l=_;simp only[uMake,hx];rfl⟩
 | 2,h=>by
  obtain⟨x,hx⟩:=Hs.dec_ty (D:=uD) (ts:=uTys 2) h;exact⟨_,by show uMake 2 l=_;simp only[uMake,hx];rfl⟩
 | 3,h=>by
  obtain⟨x,hx⟩:=Hs.dec_ty (D:=uD) (ts:=uTys 3) h;exact⟨_,by show uMake 3 l=_;simp only[uMake,hx];rfl⟩
 | 4,h=>by
  obtain⟨x,hx⟩:=Hs.dec_ty (D:=uD) (ts:=uTys 4) h;exact⟨_,by show uMake 4 l=_;simp only[uMake,hx];rfl⟩
 | 5,h=>by
  obtain⟨x,hx⟩:=Hs.dec_ty (D:=uD) (ts:=uTys 5) h;exact⟨_,by show uMake 5 l=_;simp only[uMake,hx];rfl⟩
 | 6,h=>by
  obtain⟨x,hx⟩:=Hs.dec_ty (D:=uD) (ts:=uTys 6) h;exact⟨_,by show uMake 6 l=_;simp only[uMake,hx];rfl⟩
 | 7,h=>by
  obtain⟨x,hx⟩:=Hs.dec_ty (D:=uD) (ts:=uTys 7) h;exact⟨_,by show uMake 7 l=_;simp only[uMake,hx];rfl⟩
 | 8,h=>by
  obtain⟨x,hx⟩:=Hs.dec_ty (D:=uD) (ts:=uTys 8) h;exact⟨_,by show uMake 8 l=_;simp only[uMake,hx];rfl⟩
 | 9,h=>by
  obtain⟨x,hx⟩:=Hs.dec_ty (D:=uD) (ts:=uTys 9) h;exact⟨_,by show uMake 9 l=_;simp only[uMake,hx];rfl⟩
 | 10,h=>by
  obtain⟨x,hx⟩:=Hs.dec_ty (D:=uD) (ts:=uTys 10) h;exact⟨_,by show uMake 10 l=_;simp only[uMake,hx];rfl⟩
 | 11,h=>by
  obtain⟨x,hx⟩:=Hs.dec_ty (D:=uD) (ts:=uTys 11) h;exact⟨_,by show uMake 11 l=_;simp only[uMake,hx];rfl⟩
 | 12,h=>by
  obtain⟨x,hx⟩:=Hs.dec_ty (D:=uD) (ts:=uTys 12) h;exact⟨_,by show uMake 12 l=_;simp only[uMake,hx];rfl⟩
 | 13,h=>by
  obtain⟨x,hx⟩:=Hs.dec_ty (D:=uD) (ts:=uTys 13) h;exact⟨_,by show uMake 13 l=_;simp only[uMake,hx];rfl⟩
 | 14,h=>by
  obtain⟨x,hx⟩:=Hs.dec_ty (D:=uD) (ts:=uTys 14) h;exact⟨_,by show uMake 14 l=_;simp only[uMake,hx];rfl⟩
 | 15,h=>by
  obtain⟨x,hx⟩:=Hs.dec_ty (D:=uD) (ts:=uTys 15) h;exact⟨_,by show uMake 15 l=_;simp only[uMake,hx];rfl⟩
 | 16,h=>by
  obtain⟨x,hx⟩:=Hs.dec_ty (D:=uD) (ts:=uTys 16) h;exact⟨_,by show uMake 16 l=_;simp only[uMake,hx];rfl⟩
 | m+17,h=>by
  obtain⟨x,hx⟩:=Hs.dec_ty (D:=uD) (ts:=[.bool]) h;exact⟨x,by show uMake (m+17) l=_;simp only[uMake,hx];rfl⟩
end
section
open Go Go.Proofs.YtandcioiaooocaaGreat.Shv
open Tryz
set_option maxRecDepth 100000
open Go.Proofs Go.Proofs.YtandcioiaooocaaGreat Go.Shelf
theorem Dz :bL prog 98=true:=by kernel_rfl
def nu :FSpec Un:=pN Un 98 (.int .i64) 8
theorem CQ :FSnd prog nu:=G7 (sz:=1) (bytes:=8) (z:=[.t (.int .i64 0)]) func98 (by kernel_rfl) (by kernel_rfl) (by kernel_rfl) rfl rfl
theorem kR :FnC prog nu:=⟨Dz,CQ⟩
theorem DC :bL prog 145=true:=by kernel_rfl
def nv :FSpec Un:=mG Un 145 (.nm 7) 120
theorem CS :FSnd prog nv:=xB (sz:=8) (bytes:=120) (z:=[.t (.int .i64 0),.t (.bool false),.t (.int .i64 0),.t (.str []),.t (.int .i64 0),.cap0,.cap0,.cap0]) func145 (by kernel_rfl) (by kernel_rfl) (by kernel_rfl) rfl rfl
theorem nw :FnC prog nv:=⟨DC,CS⟩
theorem DD :bL prog 146=true:=by kernel_rfl
def nx :FSpec Un:=mG Un 146 (.nm 8) 24
theorem CU :FSnd prog nx:=xB (sz:=2) (bytes:=24) (z:=[.t (.int .i64 0),.t (.str [])]) func146 (by kernel_rfl) (by kernel_rfl) (by kernel_rfl) rfl rfl
theorem nA :FnC prog nx:=⟨DD,CU⟩
instance:Inhabited bP:=⟨n0⟩
instance:Inhabited (Un.D 10):=⟨n0⟩
def sortLt(x y:bP):Bool:=decide (x.id < y.id)
def DW(l:List bP):Option (List bP):=some (pdqBy sortLt l)
section
open Go.Proofs Go.Proofs.YtandcioiaooocaaGreat Go.Sort Go.RowKit Go.Lib
theorem sortNaN(x:Int)(w:World):Calls prog 196 #[.int .i64 x] w fun e w'=>e= .returned (.bool false)/\w'=w:=by
 go_enter func196,ntmps196
 go_wp2
 go_ret
 exact⟨by simp,rfl⟩
set_option maxHeartbeats 1000000 in
theorem sortCmp(x y:Int)(w:World):Calls prog 177 #[.int .i64 x,.int .i64 y] w fun e w'=>e= .returned (.int .i64 (Lib.compareInt x y))/\w'=w:=by
 go_enter func177,ntmps177
 go_wp2_with (go_at_call 196;refine(sortNaN _ _).mono ?_;rintro e w' ⟨rfl,hw⟩;rw[hw])
 all_goals (go_ret;refine⟨?_,rfl⟩;unfold Lib.compareInt;(repeat' split) <;> first | rfl | (exfalso;omega))
def sortEnc(x:bP):List Value:=[.int .i64 x.id,.string ⟨x.text.toArray⟩]
set_option maxHeartbeats 1000000 in
theorem sortClo(x y:Int)(s t:ByteArray)(W:World):Calls prog 209 #[.agg #[.int .i64 x,.string s],.agg #[.int .i64 y,.string t]] W fun e w'=>e= .returned (.int .i64 (Lib.compareInt x y))/\∃q os',w'=grow (W.drewN q) os':=by
 have hcon:=fun W'=>sortCmp x y W'
 generalize Lib.compareInt x y=r at hcon ⊢
 go_enter func209,ntmps209
 go_wp2_with (go_at_call 177;refine(hcon _).mono ?_;rintro e w' ⟨rfl,rfl⟩)
 go_ret
 exact⟨rfl,0,_,by rw[alloc_eq_grow,alloc_eq_grow,grow_grow];rfl⟩
def yw :Go.Shelf.Ren:=⟨fun | 6=>208 | 15=>212 | 14=>211 | 28=>222 | 29=>223 | 20=>214 | 21=>215 | 22=>216 | 23=>217 | 24=>218 | 25=>219 | 26=>220 | 27=>221 | 46=>224 | 47=>225 | 48=>226 | 49=>227 | 50=>228 | 57=>229 | n=>n,fun | 22=>243 | 24=>245 | 25=>247 | 3=>3 | 39=>196 | 0=>0 | 53=>261 | 55=>147 | 4=>4 | 46=>255 | 45=>254 | 50=>127 | 5=>5 | 9=>9 | 66=>263 | 70=>267 | 76=>269 | 77=>270 | n=>n,fun | n=>n⟩
theorem layS :SlLaysF0.n6 prog yw:={
 mixed:=by kernel_rfl
 f6:=⟨f208.name,by decide,func208.trans (congrArg some (by kernel_rfl))⟩
 f14:=⟨f211.name,by decide,func211.trans (congrArg some (by kernel_rfl))⟩
 f15:=func212.trans (congrArg some (by kernel_rfl))
 f20:=⟨f214.name,by decide,func214.trans (congrArg some (by kernel_rfl))⟩
 f21:=⟨f215.name,by decide,func215.trans (congrArg some (by kernel_rfl))⟩
 f22:=⟨f216.name,by decide,func216.trans (congrArg some (by kernel_rfl))⟩
 f23:=⟨f217.name,by decide,func217.trans (congrArg some (by kernel_rfl))⟩
 f24:=⟨f218.name,by decide,func218.trans (congrArg some (by kernel_rfl))⟩
 f25:=⟨f219.name,by decide,func219.trans (congrArg some (by kernel_rfl))⟩
 f26:=⟨f220.name,by decide,func220.trans (congrArg some (by kernel_rfl))⟩
 f27:=⟨f221.name,by decide,func221.trans (congrArg some (by kernel_rfl))⟩
 f28:=func222.trans (congrArg some (by kernel_rfl))
 f29:=func223.trans (congrArg some (by kernel_rfl))
 f46:=⟨f224.name,by decide,func224.trans (congrArg some (by kernel_rfl))⟩
 f47:=func225.trans (congrArg some (by kernel_rfl))
 f48:=func226.trans (congrArg some (by kernel_rfl))
 f49:=⟨f227.name,by decide,func227.trans (congrArg some (by kernel_rfl))⟩
 f50:=⟨f228.name,by decide,func228.trans (congrArg some (by kernel_rfl))⟩
 f57:=⟨f229.name,by decide,func229.trans (congrArg some (by kernel_rfl))⟩
 t0:=underlying0
 a0:=isAgg0
 z0:=sizeOf0
 v0:=zeroValue0
 t3:=underlying3
 a3:=isAgg3
 z3:=sizeOf3
 v3:=zeroValue3
 t4:=underlying4
 a4:=isAgg4
 z4:=sizeOf4
 v4:=zeroValue4
 t5:=underlying5
 a5:=isAgg5
 z5:=sizeOf5
 v5:=zeroValue5
 t9:=underlying9
 a9:=isAgg9
 z9:=sizeOf9
 v9:=zeroValue9
 t22:=underlying243
 a22:=isAgg243
 z22:=sizeOf243
 v22:=zeroValue243
 t25:=underlying247
 a25:=isAgg247
 z25:=sizeOf247
 v25:=zeroValue247
 t39:=underlying196
 a39:=isAgg196
 z39:=sizeOf196
 v39:=zeroValue196
 t45:=underlying254
 a45:=isAgg254
 z45:=sizeOf254
 v45:=zeroValue254
 t46:=underlying255
 a46:=isAgg255
 z46:=sizeOf255
 v46:=zeroValue255
 t50:=underlying127
 a50:=isAgg127
 z50:=sizeOf127
 v50:=zeroValue127
 t53:=underlying261
 a53:=isAgg261
 z53:=sizeOf261
 v53:=zeroValue261
 t55:=underlying147
 a55:=isAgg147
 z55:=sizeOf147
 v55:=zeroValue147
 t66:=underlying263
 a66:=isAgg263
 z66:=sizeOf263
 v66:=zeroValue263
 t70:=underlying267
 a70:=isAgg267
 z70:=sizeOf267
 v70:=zeroValue267
 t76:=underlying269
 a76:=isAgg269
 z76:=sizeOf269
 v76:=zeroValue269
 t77:=underlying270
 a77:=isAgg270
 z77:=sizeOf270
 v77:=zeroValue270}
theorem xG :ltOf (fun x y:bP=>Lib.compareInt x.id y.id)=sortLt:=by
 funext x y
 unfold ltOf sortLt Lib.compareInt;by_cases h1:x.id < y.id
 . simp[h1]
 . by_cases h2:y.id < x.id <;> simp[h1,h2]
theorem sortSWO :SWO sortLt:=Lf (fun x:bP=>x.id)
set_option maxHeartbeats 2000000 in
theorem sortNoneI(p:Option Addr)(cap:Nat)(fv:Value)(w:World):Calls prog 214 #[.slice p 0 cap,.int .i64 0,.int .i64 0,fv] w fun e w'=>e= .returned (.tuple #[])/\w'=w:=by
 go_enter func214,ntmps214
 go_wp2
 refine wp_loop_rounds 1 ?_;rw[rounds_succ]
 go_wp2
 go_end0
 exact⟨rfl,rfl⟩
set_option maxHeartbeats 2000000 in
theorem sortNoneP(p:Option Addr)(cap:Nat)(lim:Int)(fv:Value)(w:World):Calls prog 211 #[.slice p 0 cap,.int .i64 0,.int .i64 0,.int .i64 lim,fv] w fun e w'=>e= .returned (.tuple #[])/\w'=w:=by
 have hi:=fun W=>sortNoneI p cap fv W
 go_enter func211,ntmps211
 go_wp2
 refine wp_loop_rounds 1 ?_;rw[rounds_succ]
 go_wp2_with (go_at_call 214;refine(hi _).mono ?_;rintro e w' ⟨rfl,rfl⟩)
 (try simp only[Exit.inBlock,Exit.then]);refine bodyPost_ret (results_none rfl _ _ _) rfl ?_
 exact⟨rfl,rfl⟩
set_option maxHeartbeats 2000000 in
theorem sortNone(p:Option Addr)(cap:Nat)(fv:Value)(w:World):Calls prog 208 #[.slice p 0 cap,fv] w fun e w'=>e= .returned (.tuple #[])/\w'=w:=by
 have hp:=fun lim W=>sortNoneP p cap lim fv W
 have hl:∀W,Calls prog 212 #[.int .u64 0] W fun e w'=>e= .returned (.int .i64 (Lib.bitLen 0:Nat))/\w'=W:=fun W=>by
  have h:=Any.bits_Len (SlLaysF0.n15.bits (P:=prog) (ρ:=yw) {layS with}) 0 W (by omega) (by omega);exact h
 go_enter func208,ntmps208
 go_wp2_with (first | (go_at_call 212;refine(hl _).mono ?_;rintro e w' ⟨rfl,rfl⟩) | (go_at_call 211;refine(hp _ _).mono ?_;rintro e w' ⟨rfl,rfl⟩))
 go_end0
 exact⟨rfl,rfl⟩
theorem sortWhole (blk off cap : Nat) (d : Array (Un.D 10)) (w : World) (hH : HoldsK sortEnc 2 w blk off d) (hblk : blk < w.heap.size) (hsz : d.size < 4611686018427387904):
 Calls prog 208 #[.slice (some ⟨blk,off,none⟩) d.size cap,.func (.func 209) #[] #[]] w fun e w'=>e= .returned (.tuple #[])/\∃n os,w'=sortWorldK sortEnc 2 w blk off n (pdq sortLt d 0 d.size (Lib.bitLen d.size) true true) os:=by
 have eg:∀args w,(callFunc 209 args).run prog w= .ok (.enter 209 args) w:=enters_of func209 (by kernel_rfl) rfl
 have h:=AnyQ.slices_SortFunc_eq (α:=bP) layS 2 isAgg245 sizeOf245 sortEnc (fun _=>rfl) (fun x v hv=>by simp[sortEnc]at hv;rcases hv with rfl | rfl <;> rfl) (fun x y=>Lib.compareInt x.id y.id) (by rw[xG];exact sortSWO) 209 #[] blk off cap d w eg (fun _ _ _ _ x y=>sortClo x.id y.id _ _ _) hH hblk hsz;rw[xG]at h;exact h
theorem Mg :bL prog 208=true:=by kernel_rfl
def qC :FSpec Un:=sortS Un 208 10 209 (pdqBy (α:=Un.D 10) sortLt)
theorem Ed :FSnd prog qC:=Km (U:=Un) (n:=10) sortEnc sortLt sortSWO (fun _=>rfl) (fun w S x j t v h hr=>Hd w S x.id x.text j t v h hr) sortWhole sortNone
end
theorem qD :FnC prog qC:=⟨Mg,Ed⟩
def wN :Go.Shelf.Ren:=⟨fun | 240=>210 | 276=>213 | n=>n,fun | 0=>0 | 4=>4 | 9=>9 | 20=>20 | 37=>25 | 70=>234 | 72=>236 | 164=>251 | n=>n,fun n=>n⟩
theorem lay240 :Lays.n240 prog wN:={
 mixed:=by kernel_rfl
 f240:=func210.trans (congrArg some (by kernel_rfl))
 f276:=func213.trans (congrArg some (by kernel_rfl))
 t0:=underlying0
 a0:=isAgg0
 z0:=sizeOf0
 v0:=zeroValue0
 t4:=underlying4
 a4:=isAgg4
 z4:=sizeOf4
 v4:=zeroValue4
 t9:=underlying9
 a9:=isAgg9
 z9:=sizeOf9
 v9:=zeroValue9
 t20:=underlying20
 a20:=isAgg20
 z20:=sizeOf20
 v20:=zeroValue20
 t70:=underlying234
 a70:=isAgg234
 z70:=sizeOf234
 v70:=zeroValue234
 t72:=underlying236
 a72:=isAgg236
 z72:=sizeOf236
 v72:=zeroValue236
 t164:=underlying251
 a164:=isAgg251
 z164:=sizeOf251
 v164:=zeroValue251}
theorem layX72 :Builder.X72 prog wN:={
 sizeBuilder:=by kernel_rfl
 liesBuilder:=by kernel_rfl}
theorem Mh :bL prog 210=true:=by kernel_rfl
def nK :FSpec Un:=pO Un 210 236 5
theorem DX :FSnd prog nK:=Ij lay240 layX72 rfl rfl
theorem qq :FnC prog nK:=⟨Mh,DX⟩
end
section
open Go Go.Proofs.YtandcioiaooocaaGreat.Shv
open Tryz
set_option maxRecDepth 100000
abbrev FC(e:FEnt)(F:Hs Un.D e.ts->Option (Hs Un.D e.us)):Prop:=FnC prog (e.s F)
abbrev LC(f kk:Nat)(p:List Nat)(e:LEnt)(F:Hs Un.D e.ts->Option (OSum Un e.outs)):Prop:=LpC prog f kk p e F
abbrev KC(e:FEnt):Prop:=Fok prog e
abbrev FD(e:FEnt):Hs Un.D e.ts->Hs Un.D e.us->Prop:=FQ prog Un e
abbrev LD(f kk:Nat)(p:List Nat)(e:LEnt):Hs Un.D e.ts->OSum Un e.outs->Prop:=LQ prog Un f kk p e
theorem FH(e:FEnt)(k:KC e){F:Hs Un.D e.ts->Option (Hs Un.D e.us)}(h:∀h r,F h=some r->FD e h r):FC e F:= .of k h
theorem LH(e:LEnt){f kk:Nat}{p:List Nat}{F:Hs Un.D e.ts->Option (OSum Un e.outs)}(h:∀h o,F h=some o->LD f kk p e h o):LC f kk p e F:= .of h
theorem FA(e:FEnt)(k:KC e){fs:List (FSpec Un)}(hf:FoC prog fs){ls:List (Nat×LSpec Un)}(hl:LoC prog e.f e.st.length [] ls){h:Hs Un.D e.ts}{r:Hs Un.D e.us}(hx:xbody (foS fs) (loL ls) prog e h=some r):FD e h r:= .at k hf hl hx
theorem LA(e:LEnt){f kk:Nat}{p:List Nat}{F:Hs Un.D e.ts->Option (OSum Un e.outs)}(hF:∀h o,F h=some o->LD f kk p e h o){fs:List (FSpec Un)}(hf:FoC prog fs){ls:List (Nat×LSpec Un)}(hl:LoC prog f kk p ls){h:Hs Un.D e.ts}{o:OSum Un e.outs}(hx:i7 (foS fs) (loL ls) kk (pathF prog f p) e F h=some o):LD f kk p e h o:= .at hF hf hl hx
def e54 :FEnt:=⟨54,[.row 1,hh tI],[],[.nm 1,tI],hh tI,[],[tI],[]⟩
def e55 :FEnt:=⟨55,[hh tI],[],[tI],hh .bool,[],[.bool],[]⟩
def e56 :FEnt:=⟨56,[.row 2],[],[.nm 2],hh tI,[],[tI],[]⟩
def e57 :FEnt:=⟨57,[.row 2],[],[.nm 2],hh tI,[],[tI],[]⟩
def e58_0 :LEnt:=⟨0,⟨[(1,hP 0 0),(3,.c (.arr 1)),(4,hh tI)],[.brow 2,.arr tI]⟩,[(.slot 3,tI)],[(.slot 3,tI)],[tI,.nm 2,tLI],[⟨.exit 0,⟨[(3,.c (.arr 0))],[.arr tI]⟩,[],[tLI]⟩],[]⟩
def e58 :FEnt:=⟨58,[.row 2],[],[.nm 2],hh tLI,[],[tLI],[e58_0]⟩
def e138 :FEnt:=⟨138,[hh tI],[],[tI],hh .bool,[],[.bool],[]⟩
def e95_0 :LEnt:=⟨0,⟨[(3,hP 0 0),(7,hh tI),(9,hh tI)],[bb (tL 2)]⟩,[],[],[tI,tI,tL 2],[oR 6 tI,oX 0],[]⟩
def e95 :FEnt:=⟨95,[.row 1,hh tI,hh (.int .u8)],[],[.nm 1,tI,.int .u8],hh tI,[],[tI],[e95_0]⟩
def e94 :FEnt:=⟨94,[hh tI],[],[tI],hh .bool,[],[.bool],[]⟩
def e60_0 :LEnt:=⟨0,⟨[(1,hh (.int .u8)),(2,hP 0 0),(5,hh tI),(6,hh tI)],[bb (tL 2)]⟩,[],[],[.int .u8,tI,tI,tL 2],[oR 4 tI,oX 0],[]⟩
def e60 :FEnt:=⟨60,[.row 1,hh (.int .u8)],[],[.nm 1,.int .u8],hh tI,[],[tI],[e60_0]⟩
def e96 :FEnt:=⟨96,[.row 1,hh tI,hh (.int .u8)],[],[.nm 1,tI,.int .u8],.tup [.row 7,hh .bool],[],[.nm 7,.bool],[]⟩
def zA :LEnt:=⟨0,⟨[(1,hh tI),(2,hh .bool),(3,hP 0 0),(7,hP 1 0),(8,.c (.arr 2)),(9,hh tI),(10,hh tI)],[bb (tL 2),.brow 2,.arr (.nm 6)]⟩,[],[],[tI,.bool,tI,tI,tL 2,.nm 2,tL 6],[⟨.exit 2,⟨[(1,hh tI),(2,hh .bool),(3,hP 0 0),(7,hP 1 0),(8,.c (.arr 2)),(9,hh tI)],[bb (tL 2),.brow 2,.arr (.nm 6)]⟩,[],[tI,.bool,tI,tL 2,.nm 2,tL 6]⟩],[]⟩
def e59_0 :LEnt:=⟨0,⟨[(1,hh tI),(2,hh .bool),(3,hP 0 0),(7,hP 1 0),(8,.c (.arr 2)),(9,hh tI)],[bb (tL 2),.brow 2,.arr (.nm 6)]⟩,[(.slot 8,.nm 6)],[(.slot 8,.nm 6)],[tI,.bool,tI,tL 2,.nm 2,tL 6],[⟨.exit 0,⟨[(8,.c (.arr 0))],[.arr (.nm 6)]⟩,[],[tL 6]⟩],[zA]⟩
def e59 :FEnt:=⟨59,[.row 1,hh tI,hh .bool],[],[.nm 1,tI,.bool],hh (tL 6),[],[tL 6],[e59_0]⟩
def zB :LEnt:=⟨0,⟨[(1,hP 0 0),(2,hP 1 0),(4,hh tI),(5,hP 2 0),(6,hh tI),(8,hP 3 0),(9,hh tLI),(10,hh tI)],[bb (tL 2),.box [.cap0],.box [.arr 4],.box [.hole tI,.hole .str,.hole tI,.hole tI,.hole tI,.arr 5,.cap0,.hole tI,.hole tI,.hole .bool],.arr (.nm 4),.arr (.nm 5)]⟩,[(.via 8 5,.nm 5)],[(.via 8 5,.nm 5)],[tI,tI,tLI,tI,tL 2,tI,.str,tI,tI,tI,tI,tI,.bool,tL 4,tL 5],[⟨.exit 3,⟨[(1,hP 0 0),(2,hP 1 0),(4,hh tI),(5,hP 2 0),(6,hh tI),(8,hP 3 0)],[bb (tL 2),.box [.cap0],.box [.arr 4],.box [.hole tI,.hole .str,.hole tI,.hole tI,.hole tI,.arr 5,.cap0,.hole tI,.hole tI,.hole .bool],.arr (.nm 4),.arr (.nm 5)]⟩,[],[tI,tI,tL 2,tI,.str,tI,tI,tI,tI,tI,.bool,tL 4,tL 5]⟩],[]⟩
def e30_0 :LEnt:=⟨0,⟨[(1,hP 0 0),(2,hP 1 0),(4,hh tI),(5,hP 2 0),(6,hh tI)],[bb (tL 2),.box [.cap0],.box [.arr 3],.arr (.nm 4)]⟩,[(.via 5 0,.nm 4)],[(.via 5 0,.nm 4)],[tI,tI,tL 2,tL 4],[⟨.exit 0,⟨[(2,hP 0 0),(5,hP 1 0)],[.box [.cap0],.box [.arr 2],.arr (.nm 4)]⟩,[],[tL 4]⟩],[zB]⟩
def e30 :FEnt:=⟨30,[.row 1],[],[.nm 1],.tup [.row 9,hh .bool],[],[.nm 9,.bool],[e30_0]⟩
def e109 :FEnt:=⟨109,[hP 0 0,hh tI],[.box [.hole (tL 4),.hole (.slice (.int .u8)),.hole .bool]],[tI,tL 4,.slice (.int .u8),.bool],hh tI,[.box [.hole (tL 4),.hole (.slice (.int .u8)),.hole .bool]],[tI,tL 4,.slice (.int .u8),.bool],[]⟩
def Aq :LEnt:=⟨0,⟨[(0,hP 0 0),(5,hh .str),(6,hh tI)],[.box [.hole (tL 4),.hole (.slice (.int .u8)),.hole .bool]]⟩,[],[],[.str,tI,tL 4,.slice (.int .u8),.bool],[⟨.exit 0,⟨[(5,hh .str)],[.box [.hole (tL 4),.hole (.slice (.int .u8)),.hole .bool]]⟩,[],[.str,tL 4,.slice (.int .u8),.bool]⟩],[]⟩
def e110 :FEnt:=⟨110,[hP 0 0,hh tI],[.box [.hole (tL 4),.hole (.slice (.int .u8)),.hole .bool]],[tI,tL 4,.slice (.int .u8),.bool],hh .str,[.box [.hole (tL 4),.hole (.slice (.int .u8)),.hole .bool]],[.str,tL 4,.slice (.int .u8),.bool],[Aq]⟩
def e111 :FEnt:=⟨111,[hP 0 0],[.box [.hole (tL 4),.hole (.slice (.int .u8)),.hole .bool]],[tL 4,.slice (.int .u8),.bool],hh .bool,[.box [.hole (tL 4),.hole (.slice (.int .u8)),.hole .bool]],[.bool,tL 4,.slice (.int .u8),.bool],[]⟩
def e78_0 :LEnt:=⟨0,⟨[(1,hh tI),(2,hP 0 0),(6,hh tI)],[.brow 4]⟩,[],[],[tI,tI,.nm 4],[⟨.ret,⟨[(4,hh tI),(5,hh .bool)],[]⟩,[],[tI,.bool]⟩,oX 0],[]⟩
def e78 :FEnt:=⟨78,[.row 4,hh tI],[],[.nm 4,tI],.tup [hh tI,hh .bool],[],[tI,.bool],[e78_0]⟩
def e69_0 :LEnt:=⟨0,⟨[(1,hh tI),(2,hP 0 0),(6,hh tI)],[.brow 4]⟩,[],[],[tI,tI,.nm 4],[⟨.ret,⟨[(4,hh tI),(5,hh .bool)],[]⟩,[],[tI,.bool]⟩,oX 0],[]⟩
def e69 :FEnt:=⟨69,[.row 4,hh tI],[],[.nm 4,tI],.tup [hh tI,hh .bool],[],[tI,.bool],[e69_0]⟩
def e151 :FEnt:=⟨151,[.row 4,hh tI],[],[.nm 4,tI],hh .bool,[],[.bool],[]⟩
def Ar :LEnt:=⟨0,⟨[(3,hP 1 0),(5,hh tI)],[.box [.hole (tL 4),.hole (.slice (.int .u8)),.hole .bool],.brow 4]⟩,[],[],[tI,tL 4,.slice (.int .u8),.bool,.nm 4],[⟨.exit 0,⟨[(5,hh tI)],[.box [.hole (tL 4),.hole (.slice (.int .u8)),.hole .bool]]⟩,[],[tI,tL 4,.slice (.int .u8),.bool]⟩],[]⟩
def e112 :FEnt:=⟨112,[hP 0 0,.row 4],[.box [.hole (tL 4),.hole (.slice (.int .u8)),.hole .bool]],[.nm 4,tL 4,.slice (.int .u8),.bool],hh tI,[.box [.hole (tL 4),.hole (.slice (.int .u8)),.hole .bool]],[tI,tL 4,.slice (.int .u8),.bool],[Ar]⟩
def e113 :FEnt:=⟨113,[hP 0 0,hh tI],[.box [.hole (tL 4),.hole (.slice (.int .u8)),.hole .bool]],[tI,tL 4,.slice (.int .u8),.bool],.row 8,[.box [.hole (tL 4),.hole (.slice (.int .u8)),.hole .bool]],[.nm 8,tL 4,.slice (.int .u8),.bool],[]⟩
def e108 :FEnt:=⟨108,[hh .bool,hh .bool],[],[.bool,.bool],hh tI,[],[tI],[]⟩
def e84 :FEnt:=⟨84,[hh tI],[],[tI],hh (.int .u64),[],[.int .u64],[]⟩
def e80 :FEnt:=⟨80,[.row 7,.row 7],[],[.nm 7,.nm 7],hh tI,[],[tI],[]⟩
def As :LEnt:=⟨0,⟨[(3,hP 0 0),(4,hP 1 0),(5,hP 2 0),(6,hP 3 0),(7,hh tI)],[.brow 7,.brow 7,.brow 7,.box [.hole tI,.hole .bool,.hole tI,.hole .str,.hole tI,.cap0,.cap0,.cap0]]⟩,[],[],[tI,.nm 7,.nm 7,.nm 7,tI,.bool,tI,.str,tI],[⟨.exit 0,⟨[(3,hP 0 0),(4,hP 1 0),(5,hP 2 0),(6,hP 3 0),(7,hh tI)],[.brow 7,.brow 7,.brow 7,.box [.hole tI,.hole .bool,.hole tI,.hole .str,.hole tI,.cap0,.cap0,.cap0]]⟩,[],[tI,.nm 7,.nm 7,.nm 7,tI,.bool,tI,.str,tI]⟩],[]⟩
def e114 :FEnt:=⟨114,[.row 7,.row 7,.row 7],[],[.nm 7,.nm 7,.nm 7],.row 7,[],[.nm 7],[As]⟩
def e81_0 :LEnt:=⟨0,⟨[(0,hP 0 0),(4,hP 1 0),(5,hP 2 0),(6,hP 3 0),(7,hh tI)],[.box [.hole (tL 4),.hole (.slice (.int .u8)),.hole .bool],.box [.hole tI,.hole .bool,.hole tI,.hole .str,.hole tI,.cap0,.cap0,.cap0],.box [.hole tI,.hole .str,.hole tI,.hole tI,.hole tI,.hole (tL 5),.hole (tL 6),.hole tI,.hole tI,.hole .bool],.box [.hole tI,.hole .bool,.hole tI,.hole .str,.hole tI,.cap0,.arr 4,.cap0],.arr (.nm 7)]⟩,[(.via 6 6,.nm 7)],[(.via 6 6,.nm 7)],[tI,tL 4,.slice (.int .u8),.bool,tI,.bool,tI,.str,tI,tI,.str,tI,tI,tI,tL 5,tL 6,tI,tI,.bool,tI,.bool,tI,.str,tI,tL 7],[⟨.exit 1,⟨[(0,hP 0 0),(4,hP 1 0),(5,hP 2 0),(6,hP 3 0)],[.box [.hole (tL 4),.hole (.slice (.int .u8)),.hole .bool],.box [.hole tI,.hole .bool,.hole tI,.hole .str,.hole tI,.cap0,.cap0,.cap0],.box [.hole tI,.hole .str,.hole tI,.hole tI,.hole tI,.hole (tL 5),.hole (tL 6),.hole tI,.hole tI,.hole .bool],.box [.hole tI,.hole .bool,.hole tI,.hole .str,.hole tI,.cap0,.arr 4,.cap0],.arr (.nm 7)]⟩,[],[tL 4,.slice (.int .u8),.bool,tI,.bool,tI,.str,tI,tI,.str,tI,tI,tI,tL 5,tL 6,tI,tI,.bool,tI,.bool,tI,.str,tI,tL 7]⟩],[]⟩
def e81_1 :LEnt:=⟨1,⟨[(0,hP 0 0),(4,hP 1 0),(5,hP 2 0),(6,hP 3 0),(9,hh tI)],[.box [.hole (tL 4),.hole (.slice (.int .u8)),.hole .bool],.box [.hole tI,.hole .bool,.hole tI,.hole .str,.hole tI,.cap0,.cap0,.cap0],.box [.hole tI,.hole .str,.hole tI,.hole tI,.hole tI,.hole (tL 5),.hole (tL 6),.hole tI,.hole tI,.hole .bool],.box [.hole tI,.hole .bool,.hole tI,.hole .str,.hole tI,.cap0,.arr 4,.cap0],.arr (.nm 7)]⟩,[(.via 6 6,.nm 7)],[(.via 6 6,.nm 7)],[tI,tL 4,.slice (.int .u8),.bool,tI,.bool,tI,.str,tI,tI,.str,tI,tI,tI,tL 5,tL 6,tI,tI,.bool,tI,.bool,tI,.str,tI,tL 7],[⟨.exit 3,⟨[(4,hP 1 0),(6,hP 2 0)],[.box [.hole (tL 4),.hole (.slice (.int .u8)),.hole .bool],.box [.hole tI,.hole .bool,.hole tI,.hole .str,.hole tI,.cap0,.cap0,.cap0],.box [.hole tI,.hole .bool,.hole tI,.hole .str,.hole tI,.cap0,.arr 3,.cap0],.arr (.nm 7)]⟩,[],[tL 4,.slice (.int .u8),.bool,tI,.bool,tI,.str,tI,tI,.bool,tI,.str,tI,tL 7]⟩],[]⟩
def e81_2 :LEnt:=⟨2,⟨[(0,hP 0 0),(4,hP 1 0),(5,hP 2 0),(6,hP 3 0),(10,hh tI)],[.box [.hole (tL 4),.hole (.slice (.int .u8)),.hole .bool],.box [.hole tI,.hole .bool,.hole tI,.hole .str,.hole tI,.cap0,.cap0,.cap0],.box [.hole tI,.hole .str,.hole tI,.hole tI,.hole tI,.hole (tL 5),.hole (tL 6),.hole tI,.hole tI,.hole .bool],.box [.hole tI,.hole .bool,.hole tI,.hole .str,.hole tI,.hole (tL 7),.hole (tL 7),.hole (tL 8)]]⟩,[],[],[tI,tL 4,.slice (.int .u8),.bool,tI,.bool,tI,.str,tI,tI,.str,tI,tI,tI,tL 5,tL 6,tI,tI,.bool,tI,.bool,tI,.str,tI,tL 7,tL 7,tL 8],[⟨.exit 5,⟨[(4,hP 1 0),(6,hP 2 0)],[.box [.hole (tL 4),.hole (.slice (.int .u8)),.hole .bool],.box [.hole tI,.hole .bool,.hole tI,.hole .str,.hole tI,.cap0,.cap0,.cap0],.box [.hole tI,.hole .bool,.hole tI,.hole .str,.hole tI,.hole (tL 7),.hole (tL 7),.hole (tL 8)]]⟩,[],[tL 4,.slice (.int .u8),.bool,tI,.bool,tI,.str,tI,tI,.bool,tI,.str,tI,tL 7,tL 7,tL 8]⟩],[]⟩
def e81 :FEnt:=⟨81,[hP 0 0,hh tI],[.box [.hole (tL 4),.hole (.slice (.int .u8)),.hole .bool]],[tI,tL 4,.slice (.int .u8),.bool],.row 7,[.box [.hole (tL 4),.hole (.slice (.int .u8)),.hole .bool]],[.nm 7,tL 4,.slice (.int .u8),.bool],[e81_0,e81_1,e81_2]⟩
def e42 :FEnt:=⟨42,[.row 9,hh tI,hh (.slice (.int .u8))],[],[.nm 9,tI,.slice (.int .u8)],.row 7,[],[.nm 7],[]⟩
def e43 :FEnt:=⟨43,[.row 9,hh tI,hh (.slice (.int .u8))],[],[.nm 9,tI,.slice (.int .u8)],.row 7,[],[.nm 7],[]⟩
def e20 :FEnt:=⟨20,[.row 0],[],[.nm 0],.tup [.row 9,hh tI,.row 7,.row 7,hh .bool],[],[.nm 9,tI,.nm 7,.nm 7,.bool],[]⟩
def e33 :FEnt:=⟨33,[hh tI],[],[tI],.row 7,[],[.nm 7],[]⟩
def e32 :FEnt:=⟨32,[hh tI],[],[tI],.row 6,[],[.nm 6],[]⟩
def e34 :FEnt:=⟨34,[hh (tL 6)],[],[tL 6],.row 9,[],[.nm 9],[]⟩
def e35 :FEnt:=⟨35,[hh tI,hh tI],[],[tI,tI],.row 7,[],[.nm 7],[]⟩
def Au :LEnt:=⟨0,⟨[(0,hh (tL 5)),(1,hh (tL 5)),(12,hh tI),(13,hh tI)],[]⟩,[],[],[tL 5,tL 5,tI,tI],[oR 4 .bool,oX 0],[]⟩
def e186 :FEnt:=⟨186,[hh (tL 5),hh (tL 5)],[],[tL 5,tL 5],hh .bool,[],[.bool],[Au]⟩
def e36_0 :LEnt:=⟨0,⟨[(0,hh (tL 8)),(1,hh (tL 8)),(12,hh tI),(13,hh tI)],[]⟩,[],[],[tL 8,tL 8,tI,tI],[oR 4 .bool,oX 0],[]⟩
def e36 :FEnt:=⟨36,[hh (tL 8),hh (tL 8)],[],[tL 8,tL 8],hh .bool,[],[.bool],[e36_0]⟩
def mu :LEnt:=⟨0,⟨[(1,hh (tL 7)),(2,.c (.fn 189 [])),(15,hh (tL 7)),(16,hh tI),(17,hh tI)],[]⟩,[],[],[tL 7,tL 7,tI,tI],[oR 6 .bool,oX 0],[]⟩
def e82_a :FEnt:=⟨82,[hh (tL 7),hh (tL 7),.c (.fn 189 [])],[],[tL 7,tL 7],hh .bool,[],[.bool],[mu]⟩
def e189 :FEnt:=⟨189,[.row 7,.row 7],[],[.nm 7,.nm 7],hh .bool,[],[.bool],[]⟩
def e188 :FEnt:=⟨188,[.row 6,.row 6],[],[.nm 6,.nm 6],hh .bool,[],[.bool],[]⟩
def Av :LEnt:=⟨0,⟨[(1,hh (tL 6)),(2,.c (.fn 188 [])),(15,hh (tL 6)),(16,hh tI),(17,hh tI)],[]⟩,[],[],[tL 6,tL 6,tI,tI],[oR 6 .bool,oX 0],[]⟩
def e187 :FEnt:=⟨187,[hh (tL 6),hh (tL 6),.c (.fn 188 [])],[],[tL 6,tL 6],hh .bool,[],[.bool],[Av]⟩
def e155 :FEnt:=⟨155,[.row 4,.row 4],[],[.nm 4,.nm 4],hh .bool,[],[.bool],[]⟩
def e182 :FEnt:=⟨182,[hh (.int .u8)],[],[.int .u8],hh .bool,[],[.bool],[]⟩
def e183 :FEnt:=⟨183,[hh (.int .u8)],[],[.int .u8],hh .bool,[],[.bool],[]⟩
def Ax :LEnt:=⟨0,⟨[(0,hh .str),(18,hh tI),(19,hh tI)],[]⟩,[],[],[.str,tI,tI],[oR 2 .bool,oX 0],[]⟩
def e152 :FEnt:=⟨152,[hh .str],[],[.str],hh .bool,[],[.bool],[Ax]⟩
def Ay :LEnt:=⟨0,⟨[(0,hh tLI),(1,hh tLS),(5,.c (.mp 0)),(9,hh tLI),(10,hh tI),(11,hh tI)],[.set]⟩,[],[],[tLI,tLS,tLI,tI,tI,tLS],[oR 4 .bool,⟨.exit 0,⟨[(0,hh tLI)],[]⟩,[],[tLI]⟩],[]⟩
def e184 :FEnt:=⟨184,[hh tLI,hh tLS],[],[tLI,tLS],hh .bool,[],[.bool],[Ay]⟩
def Az :LEnt:=⟨0,⟨[(0,hh (tL 5)),(3,.c (.arr 0)),(4,.c (.arr 1)),(7,hh (tL 5)),(8,hh tI),(9,hh tI)],[.arr tI,.arr .str]⟩,[(.slot 3,tI),(.slot 4,.str)],[(.slot 3,tI),(.slot 4,.str)],[tL 5,tL 5,tI,tI,tLI,tLS],[⟨.exit 0,⟨[(0,hh (tL 5)),(3,.c (.arr 0)),(4,.c (.arr 1))],[.arr tI,.arr .str]⟩,[],[tL 5,tLI,tLS]⟩],[]⟩
def e153 :FEnt:=⟨153,[hh (tL 5)],[],[tL 5],hh .bool,[],[.bool],[Az]⟩
def e185 :FEnt:=⟨185,[.row 7],[],[.nm 7],hh .bool,[],[.bool],[]⟩
def AA :LEnt:=⟨0,⟨[(1,hP 0 0),(3,.c (.arr 1)),(4,.c (.arr 2)),(8,hh (tL 6)),(9,hh tI),(10,hh tI)],[.brow 4,.arr tI,.arr .str]⟩,[(.slot 3,tI),(.slot 4,.str)],[(.slot 3,tI),(.slot 4,.str)],[tL 6,tI,tI,.nm 4,tLI,tLS],[oR 2 .bool,⟨.exit 0,⟨[(1,hP 0 0),(3,.c (.arr 1)),(4,.c (.arr 2))],[.brow 4,.arr tI,.arr .str]⟩,[],[.nm 4,tLI,tLS]⟩],[]⟩
def e154 :FEnt:=⟨154,[.row 4],[],[.nm 4],hh .bool,[],[.bool],[AA]⟩
def e115 :FEnt:=⟨115,[.row 4],[],[.nm 4],hh .bool,[],[.bool],[]⟩
def AB :LEnt:=⟨0,⟨[(1,hP 0 0),(3,.c (.arr 1)),(7,hh (tL 6)),(8,hh tI),(9,hh tI)],[.brow 4,.arr tI]⟩,[(.slot 3,tI)],[(.slot 3,tI)],[tL 6,tI,tI,.nm 4,tLI],[⟨.exit 0,⟨[(1,hP 0 0),(3,.c (.arr 1))],[.brow 4,.arr tI]⟩,[],[.nm 4,tLI]⟩],[]⟩
def e116 :FEnt:=⟨116,[.row 4],[],[.nm 4],hh tLI,[],[tLI],[AB]⟩
def zC :LEnt:=⟨0,⟨[(1,hP 0 0),(3,.c (.mp 1)),(5,hP 2 0),(14,hh (tL 4)),(15,hh tI),(16,hh tI),(38,hh tLI),(39,hh tI),(40,hh tI)],[bb (tL 4),.set,.box [.hole tI,.hole .str,.hole tI,.hole tI,.hole tI,.hole (tL 5),.hole (tL 6),.hole tI,.hole tI,.hole .bool]]⟩,[],[],[tL 4,tI,tI,tLI,tI,tI,tL 4,tLS,tI,.str,tI,tI,tI,tL 5,tL 6,tI,tI,.bool],[oR 2 tI,⟨.exit 2,⟨[(1,hP 0 0),(3,.c (.mp 1)),(5,hP 2 0),(14,hh (tL 4)),(15,hh tI),(16,hh tI)],[bb (tL 4),.set,.box [.hole tI,.hole .str,.hole tI,.hole tI,.hole tI,.hole (tL 5),.hole (tL 6),.hole tI,.hole tI,.hole .bool]]⟩,[],[tL 4,tI,tI,tL 4,tLS,tI,.str,tI,tI,tI,tL 5,tL 6,tI,tI,.bool]⟩],[]⟩
def e88_0 :LEnt:=⟨0,⟨[(1,hP 0 0),(3,.c (.mp 1)),(14,hh (tL 4)),(15,hh tI),(16,hh tI)],[bb (tL 4),.set]⟩,[],[],[tL 4,tI,tI,tL 4,tLS],[oR 2 tI,oX 0],[zC]⟩
def e88 :FEnt:=⟨88,[.row 9],[],[.nm 9],hh tI,[],[tI],[e88_0]⟩
def e61 :FEnt:=⟨61,[.row 9,hh tI],[],[.nm 9,tI],hh tI,[],[tI],[]⟩
def e171 :FEnt:=⟨171,[.row 7],[],[.nm 7],.row 7,[],[.nm 7],[]⟩
def e139 :FEnt:=⟨139,[.row 7],[],[.nm 7],hh .bool,[],[.bool],[]⟩
def e100 :FEnt:=⟨100,[.row 5,hP 0 0],[bb tI],[.nm 5,tI],hh .bool,[bb tI],[.bool,tI],[]⟩
def e99_0 :LEnt:=⟨0,⟨[(0,hh (tL 5)),(1,.c (.fn 100 [0])),(7,hh tI),(8,hh tI)],[bb tI]⟩,[],[],[tL 5,tI,tI,tI],[⟨.ret,⟨[(4,hh tI)],[bb tI]⟩,[],[tI,tI]⟩,⟨.exit 0,⟨[],[bb tI]⟩,[],[tI]⟩],[]⟩
def e99 :FEnt:=⟨99,[hh (tL 5),.c (.fn 100 [0])],[bb tI],[tL 5,tI],hh tI,[bb tI],[tI,tI],[e99_0]⟩
def e64 :FEnt:=⟨64,[.row 4,hh tI],[],[.nm 4,tI],.tup [hh tI,hh .bool],[],[tI,.bool],[]⟩
def e140 :FEnt:=⟨140,[hh tI],[],[tI],hh .bool,[],[.bool],[]⟩
def e144 :FEnt:=⟨144,[.row 6,hP 0 0],[bb tI],[.nm 6,tI],hh .bool,[bb tI],[.bool,tI],[]⟩
def AC :LEnt:=⟨0,⟨[(0,hh (tL 6)),(1,.c (.fn 144 [0])),(7,hh tI),(8,hh tI)],[bb tI]⟩,[],[],[tL 6,tI,tI,tI],[⟨.ret,⟨[(4,hh tI)],[bb tI]⟩,[],[tI,tI]⟩,⟨.exit 0,⟨[],[bb tI]⟩,[],[tI]⟩],[]⟩
def e143 :FEnt:=⟨143,[hh (tL 6),.c (.fn 144 [0])],[bb tI],[tL 6,tI],hh tI,[bb tI],[tI,tI],[AC]⟩
def e101 :FEnt:=⟨101,[.row 4,hh tI],[],[.nm 4,tI],.tup [hh tI,hh .bool],[],[tI,.bool],[]⟩
def e173 :FEnt:=⟨173,[.row 7,hP 0 0,hP 1 0,hP 2 0],[bb (tL 4),bb tI,bb .bool],[.nm 7,tL 4,tI,.bool],hh .bool,[bb (tL 4),bb tI,bb .bool],[.bool,tL 4,tI,.bool],[]⟩
def mL :LEnt:=⟨0,⟨[(0,hh (tL 7)),(1,.c (.fn 173 [0,1,2])),(7,hh tI),(8,hh tI)],[bb (tL 4),bb tI,bb .bool]⟩,[],[],[tL 7,tI,tI,tL 4,tI,.bool],[⟨.ret,⟨[(4,hh tI)],[bb (tL 4),bb tI,bb .bool]⟩,[],[tI,tL 4,tI,.bool]⟩,⟨.exit 0,⟨[],[bb (tL 4),bb tI,bb .bool]⟩,[],[tL 4,tI,.bool]⟩],[]⟩
def e194 :FEnt:=⟨194,[hh (tL 7),.c (.fn 173 [0,1,2])],[bb (tL 4),bb tI,bb .bool],[tL 7,tL 4,tI,.bool],hh tI,[bb (tL 4),bb tI,bb .bool],[tI,tL 4,tI,.bool],[mL]⟩
def e172 :FEnt:=⟨172,[hh (tL 7),.c (.fn 173 [0,1,2])],[bb (tL 4),bb tI,bb .bool],[tL 7,tL 4,tI,.bool],hh .bool,[bb (tL 4),bb tI,bb .bool],[.bool,tL 4,tI,.bool],[]⟩
def e141 :FEnt:=⟨141,[.row 9,hh tI,hh (tL 7),hh .bool],[],[.nm 9,tI,tL 7,.bool],hh .bool,[],[.bool],[]⟩
def e175 :FEnt:=⟨175,[hh tI],[],[tI],hh (.int .u64),[],[.int .u64],[]⟩
def e195 :FEnt:=⟨195,[hh (.int .u64)],[],[.int .u64],hh .bool,[],[.bool],[]⟩
def e174 :FEnt:=⟨174,[hh (.int .u64),hh (.int .u64)],[],[.int .u64,.int .u64],hh tI,[],[tI],[]⟩
def e196 :FEnt:=⟨196,[hh tI],[],[tI],hh .bool,[],[.bool],[]⟩
def e177 :FEnt:=⟨177,[hh tI,hh tI],[],[tI,tI],hh tI,[],[tI],[]⟩
def e197 :FEnt:=⟨197,[hh .str],[],[.str],hh .bool,[],[.bool],[]⟩
def e178 :FEnt:=⟨178,[hh .str,hh .str],[],[.str,.str],hh tI,[],[tI],[]⟩
def AD :LEnt:=⟨0,⟨[(3,hh tI),(6,hh tLI),(7,hh tI),(8,hh tI)],[]⟩,[],[],[tI,tLI,tI,tI],[oR 2 tI,⟨.exit 0,⟨[(3,hh tI)],[]⟩,[],[tI]⟩],[]⟩
def e176 :FEnt:=⟨176,[hh tLI],[],[tLI],hh tI,[],[tI],[AD]⟩
def e142 :FEnt:=⟨142,[.row 7,.row 7],[],[.nm 7,.nm 7],hh tI,[],[tI],[]⟩
def e97_0 :LEnt:=⟨0,⟨[(3,hh .bool),(4,hP 0 0),(6,hP 1 0),(9,hP 2 0),(111,hh (tL 8)),(112,hh tI),(113,hh tI)],[bb (tL 4),.brow 7,.box [.hole tI,.hole .str,.hole tI,.hole tI,.hole tI,.hole (tL 5),.hole (tL 6),.hole tI,.hole tI,.hole .bool]]⟩,[],[],[.bool,tL 8,tI,tI,tL 4,.nm 7,tI,.str,tI,tI,tI,tL 5,tL 6,tI,tI,.bool],[oR 8 .bool,⟨.exit 1,⟨[(3,hh .bool),(4,hP 0 0),(6,hP 1 0),(9,hP 2 0)],[bb (tL 4),.box [.hole tI,.hole .bool,.hole tI,.hole .str,.hole tI,.hole (tL 7),.hole (tL 7),.hole (tL 8)],.box [.hole tI,.hole .str,.hole tI,.hole tI,.hole tI,.hole (tL 5),.hole (tL 6),.hole tI,.hole tI,.hole .bool]]⟩,[],[.bool,tL 4,tI,.bool,tI,.str,tI,tL 7,tL 7,tL 8,tI,.str,tI,tI,tI,tL 5,tL 6,tI,tI,.bool]⟩],[]⟩
def e97_1 :LEnt:=⟨1,⟨[(3,hh .bool),(4,hP 0 0),(6,hP 1 0),(150,hh (tL 6)),(151,hh tI),(152,hh tI)],[bb (tL 4),.box [.hole tI,.hole .bool,.hole tI,.hole .str,.hole tI,.hole (tL 7),.hole (tL 7),.hole (tL 8)]]⟩,[],[],[.bool,tL 6,tI,tI,tL 4,tI,.bool,tI,.str,tI,tL 7,tL 7,tL 8],[oR 8 .bool,oX 3],[]⟩
def e97_2 :LEnt:=⟨2,⟨[(3,hh .bool),(4,hP 0 0),(6,hP 1 0),(9,hP 2 0),(20,hh tI)],[bb (tL 4),.brow 7,.box [.hole tI,.hole .str,.hole tI,.hole tI,.hole tI,.hole (tL 5),.hole (tL 6),.hole tI,.hole tI,.hole .bool]]⟩,[],[],[.bool,tI,tL 4,.nm 7,tI,.str,tI,tI,tI,tL 5,tL 6,tI,tI,.bool],[oR 8 .bool,⟨.exit 5,⟨[(3,hh .bool),(4,hP 0 0),(6,hP 1 0),(9,hP 2 0)],[bb (tL 4),.brow 7,.box [.hole tI,.hole .str,.hole tI,.hole tI,.hole tI,.hole (tL 5),.hole (tL 6),.hole tI,.hole tI,.hole .bool]]⟩,[],[.bool,tL 4,.nm 7,tI,.str,tI,tI,tI,tL 5,tL 6,tI,tI,.bool]⟩],[]⟩
def e97 :FEnt:=⟨97,[.row 9,hh tI,.row 7,hh .bool],[],[.nm 9,tI,.nm 7,.bool],hh .bool,[],[.bool],[e97_0,e97_1,e97_2]⟩
def e62 :FEnt:=⟨62,[.row 9,hh tI,.row 7],[],[.nm 9,tI,.nm 7],hh .bool,[],[.bool],[]⟩
def e37 :FEnt:=⟨37,[.row 9,hh tI,.row 7,.row 9,hh tI],[],[.nm 9,tI,.nm 7,.nm 9,tI],hh tI,[],[tI],[]⟩
def e63 :FEnt:=⟨63,[hP 0 0],[.box [.hole (tL 4),.hole (tL 4),.arr 1,.hole tLI],.arr tI],[tL 4,tL 4,tLI,tLI],.tup [.row 7,hh .bool],[.box [.hole (tL 4),.hole (tL 4),.arr 2,.arr 3],.gone,.arr tI,.arr tI],[.nm 7,.bool,tL 4,tL 4,tLI,tLI],[]⟩
def e102 :FEnt:=⟨102,[hP 0 0,hh tI],[.box [.hole (tL 4),.hole (tL 4),.arr 1,.hole tLI],.arr tI],[tI,tL 4,tL 4,tLI,tLI],.tup [.row 7,hh .bool],[.box [.hole (tL 4),.hole (tL 4),.arr 2,.arr 3],.gone,.arr tI,.arr tI],[.nm 7,.bool,tL 4,tL 4,tLI,tLI],[]⟩
def mM :LEnt:=⟨0,⟨[(1,hP 0 0),(2,hP 1 0),(20,.c (.arr 2)),(21,hh tI),(22,hh tI)],[.box [.hole tI,.hole .bool,.hole tI,.hole .str,.hole tI,.arr 2,.arr 3,.arr 4],.box [.hole tI,.hole .bool,.hole tI,.hole .str,.hole tI,.cap0,.cap0,.cap0],.arr (.nm 7),.arr (.nm 7),.arr (.nm 8)]⟩,[],[],[tI,tI,tI,.bool,tI,.str,tI,tI,.bool,tI,.str,tI,tL 7,tL 7,tL 8],[⟨.exit 0,⟨[(1,hP 0 0),(2,hP 1 0)],[.box [.hole tI,.hole .bool,.hole tI,.hole .str,.hole tI,.arr 2,.arr 3,.arr 4],.box [.hole tI,.hole .bool,.hole tI,.hole .str,.hole tI,.cap0,.cap0,.cap0],.arr (.nm 7),.arr (.nm 7),.arr (.nm 8)]⟩,[],[tI,.bool,tI,.str,tI,tI,.bool,tI,.str,tI,tL 7,tL 7,tL 8]⟩],[]⟩
def mN :LEnt:=⟨1,⟨[(1,hP 0 0),(2,hP 1 0),(35,.c (.arr 2)),(36,hh tI),(37,hh tI)],[.box [.hole tI,.hole .bool,.hole tI,.hole .str,.hole tI,.arr 3,.arr 2,.arr 4],.box [.hole tI,.hole .bool,.hole tI,.hole .str,.hole tI,.cap0,.cap0,.cap0],.arr (.nm 7),.arr (.nm 7),.arr (.nm 8)]⟩,[],[],[tI,tI,tI,.bool,tI,.str,tI,tI,.bool,tI,.str,tI,tL 7,tL 7,tL 8],[⟨.exit 2,⟨[(1,hP 0 0),(2,hP 1 0)],[.box [.hole tI,.hole .bool,.hole tI,.hole .str,.hole tI,.arr 2,.arr 3,.arr 4],.box [.hole tI,.hole .bool,.hole tI,.hole .str,.hole tI,.cap0,.cap0,.cap0],.arr (.nm 7),.arr (.nm 7),.arr (.nm 8)]⟩,[],[tI,.bool,tI,.str,tI,tI,.bool,tI,.str,tI,tL 7,tL 7,tL 8]⟩],[]⟩
def e103 :FEnt:=⟨103,[.row 7],[],[.nm 7],.row 7,[],[.nm 7],[mM,mN]⟩
def e104 :FEnt:=⟨104,[hP 0 0,hh tI,hh tI,.row 7,hh tI],[.box [.hole (tL 4),.hole (tL 4),.arr 1,.hole tLI],.arr tI],[tI,tI,.nm 7,tI,tL 4,tL 4,tLI,tLI],.tup [.row 7,hh .bool],[.box [.hole (tL 4),.hole (tL 4),.arr 2,.hole tLI],.gone,.arr tI],[.nm 7,.bool,tL 4,tL 4,tLI,tLI],[]⟩
def mw :LEnt:=⟨0,⟨[(1,hh (tL 7)),(2,.c (.fn 45 [])),(15,hh (tL 7)),(16,hh tI),(17,hh tI)],[]⟩,[],[],[tL 7,tL 7,tI,tI],[oR 6 .bool,oX 0],[]⟩
def e82_b :FEnt:=⟨82,[hh (tL 7),hh (tL 7),.c (.fn 45 [])],[],[tL 7,tL 7],hh .bool,[],[.bool],[mw]⟩
def e45 :FEnt:=⟨45,[.row 7,.row 7],[],[.nm 7,.nm 7],hh .bool,[],[.bool],[]⟩
def e105 :FEnt:=⟨105,[.row 6,.row 7],[],[.nm 6,.nm 7],hh .bool,[],[.bool],[]⟩
def AE :LEnt:=⟨0,⟨[(0,hh (.int .u64)),(3,hP 0 0),(4,hh tI)],[.arr (.int .u8)]⟩,[],[],[.int .u64,tI,.slice (.int .u8)],[⟨.exit 0,⟨[(0,hh (.int .u64)),(3,hP 0 0),(4,hh tI)],[.arr (.int .u8)]⟩,[],[.int .u64,tI,.slice (.int .u8)]⟩],[]⟩
def e148 :FEnt:=⟨148,[hh (.int .u64)],[],[.int .u64],hh .str,[],[.str],[AE]⟩
def e198 :FEnt:=⟨198,[hh .str],[],[.str],hh .str,[],[.str],[]⟩
def e179 :FEnt:=⟨179,[hh tI,hh .bool,hh .str],[],[tI,.bool,.str],hh .str,[],[.str],[]⟩
def e147 :FEnt:=⟨147,[hh tI,hh .bool,hh .str],[],[tI,.bool,.str],.tup [hh .str,hh tI],[],[.str,tI],[]⟩
def e149 :FEnt:=⟨149,[hh .str],[],[.str],hh .str,[],[.str],[]⟩
def e199 :FEnt:=⟨199,[.row 9,hh tI],[],[.nm 9,tI],hh tI,[],[tI],[]⟩
def e200 :FEnt:=⟨200,[.row 9,hh tI,.row 7],[],[.nm 9,tI,.nm 7],hh .bool,[],[.bool],[]⟩
def e180 :FEnt:=⟨180,[.row 9,hh tI,.row 7],[],[.nm 9,tI,.nm 7],hh tI,[],[tI],[]⟩
def AF :LEnt:=⟨0,⟨[(0,hh (.int .u64)),(3,hP 0 0),(4,hh tI)],[.arr (.int .u8)]⟩,[],[],[.int .u64,tI,.slice (.int .u8)],[⟨.exit 0,⟨[(3,hP 0 0),(4,hh tI)],[.arr (.int .u8)]⟩,[],[tI,.slice (.int .u8)]⟩],[]⟩
def e201 :FEnt:=⟨201,[hh (.int .u64)],[],[.int .u64],hh .str,[],[.str],[AF]⟩
def e207 :FEnt:=⟨207,[.row 6,.row 7],[],[.nm 6,.nm 7],hh .bool,[],[.bool],[]⟩
def e204 :FEnt:=⟨204,[hP 0 0,hh .str],[.bld 236 ((.bufc 1)),.buf 5],[.str,.str],.tup [hh tI,.c (.dead)],[.bld 236 ((.bufc 2)),.gone,.buf 5],[tI,.str],[]⟩
def e205 :FEnt:=⟨205,[hP 0 0],[.bld 236 ((.bufc 1)),.buf 5],[.str],hh .str,[.bld 236 ((.bufc 1)),.gone],[.str],[]⟩
def mO :LEnt:=⟨0,⟨[(0,hP 0 0),(3,hh tI),(6,hP 1 0),(9,.c (.arr 2)),(18,hh (tL 6)),(19,hh tI),(20,hh tI)],[.box [.hole (tL 4),.hole tI],.brow 7,.arr (.nm 10)]⟩,[(.slot 9,.nm 10)],[(.slot 9,.nm 10)],[tI,tL 6,tI,tI,tL 4,tI,.nm 7,tL 10],[⟨.exit 0,⟨[(6,hP 1 0),(9,.c (.arr 2))],[.box [.hole (tL 4),.hole tI],.brow 7,.arr (.nm 10)]⟩,[],[tL 4,tI,.nm 7,tL 10]⟩],[]⟩
def AG :LEnt:=⟨1,⟨[(9,.c (.arr 1)),(57,hh (tL 8)),(58,hh tI),(59,hh tI)],[.box [.hole (tL 4),.hole tI],.arr (.nm 10)]⟩,[],[],[tL 8,tI,tI,tL 4,tI,tL 10],[⟨.exit 2,⟨[(9,.c (.arr 1))],[.box [.hole (tL 4),.hole tI],.arr (.nm 10)]⟩,[],[tL 4,tI,tL 10]⟩],[]⟩
def AH :LEnt:=⟨2,⟨[(14,hP 1 0),(77,.c (.arr 2)),(78,hh tI),(79,hh tI)],[.box [.hole (tL 4),.hole tI],.bld 236 ((.bufc 3)),.arr (.nm 10),.buf 5]⟩,[],[],[tI,tI,tL 4,tI,tL 10,.str],[⟨.exit 4,⟨[(14,hP 1 0)],[.box [.hole (tL 4),.hole tI],.bld 236 ((.bufc 2)),.buf 5]⟩,[],[tL 4,tI,.str]⟩],[]⟩
def e202 :FEnt:=⟨202,[hP 0 0,.row 4,.row 7,hh tI],[.box [.hole (tL 4),.hole tI]],[.nm 4,.nm 7,tI,tL 4,tI],hh .str,[.box [.hole (tL 4),.hole tI]],[.str,tL 4,tI],[mO,AG,AH]⟩
def e203 :FEnt:=⟨203,[hP 0 0,.row 4,.row 7,hh tI],[.box [.hole (tL 4),.hole tI]],[.nm 4,.nm 7,tI,tL 4,tI],hh .str,[.box [.hole (tL 4),.hole tI]],[.str,tL 4,tI],[]⟩
def mP :LEnt:=⟨0,⟨[(0,hP 0 0),(3,hh tI),(6,hP 1 0),(9,hP 2 0),(10,hP 3 0),(84,hh (tL 7)),(85,hh tI),(86,hh tI)],[.box [.hole (tL 4),.hole tI],.brow 7,.brow 4,.bld 236 ((.bufc 4)),.buf 5]⟩,[],[],[tI,tL 7,tI,tI,tL 4,tI,.nm 7,.nm 4,.str],[⟨.exit 1,⟨[(10,hP 1 0)],[.box [.hole (tL 4),.hole tI],.bld 236 ((.bufc 2)),.buf 5]⟩,[],[tL 4,tI,.str]⟩],[]⟩
def e181 :FEnt:=⟨181,[hP 0 0,hh tI,.row 7,hh tI],[.box [.hole (tL 4),.hole tI]],[tI,.nm 7,tI,tL 4,tI],hh .str,[.box [.hole (tL 4),.hole tI]],[.str,tL 4,tI],[mP]⟩
def e150 :FEnt:=⟨150,[.row 9,hh tI,.row 7],[],[.nm 9,tI,.nm 7],.tup [hh .str,hh tI],[],[.str,tI],[]⟩
def mQ :LEnt:=⟨0,⟨[(3,hP 0 0),(5,hP 1 0),(8,hh .str),(36,hh (tL 6)),(37,hh tI),(38,hh tI)],[bb (tL 4),.brow 7]⟩,[],[],[.str,tL 6,tI,tI,tL 4,.nm 7],[⟨.exit 1,⟨[(8,hh .str)],[]⟩,[],[.str]⟩],[]⟩
def mR :LEnt:=⟨1,⟨[(3,hP 0 0),(7,hP 1 0),(8,hh .str),(101,hh (tL 7)),(102,hh tI),(103,hh tI)],[bb (tL 4),.brow 4]⟩,[],[],[.str,tL 7,tI,tI,tL 4,.nm 4],[⟨.exit 3,⟨[(8,hh .str)],[]⟩,[],[.str]⟩],[]⟩
def mS :LEnt:=⟨2,⟨[(3,hP 0 0),(5,hP 1 0),(7,hP 2 0),(8,hh .str),(118,hh (tL 7)),(119,hh tI),(120,hh tI)],[bb (tL 4),.brow 7,.brow 4]⟩,[],[],[.str,tL 7,tI,tI,tL 4,.nm 7,.nm 4],[⟨.exit 5,⟨[(8,hh .str)],[]⟩,[],[.str]⟩],[]⟩
def e106 :FEnt:=⟨106,[.row 9,hh tI,.row 7],[],[.nm 9,tI,.nm 7],hh .str,[],[.str],[mQ,mR,mS]⟩
def e65_0 :LEnt:=⟨0,⟨[(0,hP 0 0),(5,hP 2 0),(6,hP 3 0),(7,hP 4 0),(8,hP 5 0),(10,hP 6 0),(25,hh (tL 6)),(26,hh tI),(27,hh tI)],[.box [.hole (tL 4),.hole (tL 4),.arr 7,.hole tLI],.gone,.brow 4,.brow 7,.brow 4,.box [.hole tI,.hole .bool,.hole tI,.hole .str,.hole tI,.cap0,.cap0,.cap0],.box [.hole tI,.hole .bool,.hole tI,.hole .str,.hole tI,.cap0,.arr 8,.cap0],.arr tI,.arr (.nm 7)]⟩,[(.via 10 6,.nm 7)],[(.via 10 6,.nm 7)],[tL 6,tI,tI,tL 4,tL 4,tLI,.nm 4,.nm 7,.nm 4,tI,.bool,tI,.str,tI,tI,.bool,tI,.str,tI,tLI,tL 7],[⟨.ret,⟨[(8,hP 2 0),(9,hh .bool)],[.box [.hole (tL 4),.hole (tL 4),.arr 3,.hole tLI],.gone,.brow 7,.arr tI]⟩,[],[.bool,tL 4,tL 4,tLI,.nm 7,tLI]⟩,⟨.exit 0,⟨[(0,hP 0 0),(5,hP 2 0),(6,hP 3 0),(7,hP 4 0),(8,hP 5 0),(10,hP 6 0)],[.box [.hole (tL 4),.hole (tL 4),.arr 7,.hole tLI],.gone,.brow 4,.brow 7,.brow 4,.box [.hole tI,.hole .bool,.hole tI,.hole .str,.hole tI,.cap0,.cap0,.cap0],.box [.hole tI,.hole .bool,.hole tI,.hole .str,.hole tI,.cap0,.arr 8,.cap0],.arr tI,.arr (.nm 7)]⟩,[],[tL 4,tL 4,tLI,.nm 4,.nm 7,.nm 4,tI,.bool,tI,.str,tI,tI,.bool,tI,.str,tI,tLI,tL 7]⟩],[]⟩
def e65_1 :LEnt:=⟨1,⟨[(0,hP 0 0),(6,hP 2 0),(7,hP 3 0),(8,hP 4 0),(10,hP 5 0),(115,hh (tL 6)),(116,hh tI),(117,hh tI)],[.box [.hole (tL 4),.hole (tL 4),.arr 6,.hole tLI],.gone,.brow 7,.brow 4,.box [.hole tI,.hole .bool,.hole tI,.hole .str,.hole tI,.cap0,.cap0,.cap0],.box [.hole tI,.hole .bool,.hole tI,.hole .str,.hole tI,.cap0,.arr 7,.arr 8],.arr tI,.arr (.nm 7),.arr (.nm 8)]⟩,[(.via 10 7,.nm 8)],[(.via 10 7,.nm 8)],[tL 6,tI,tI,tL 4,tL 4,tLI,.nm 7,.nm 4,tI,.bool,tI,.str,tI,tI,.bool,tI,.str,tI,tLI,tL 7,tL 8],[⟨.ret,⟨[(8,hP 2 0),(9,hh .bool)],[.box [.hole (tL 4),.hole (tL 4),.arr 3,.arr 4],.gone,.brow 7,.arr tI,.arr tI]⟩,[],[.bool,tL 4,tL 4,.nm 7,tLI,tLI]⟩,⟨.exit 2,⟨[(8,hP 2 0),(10,hP 3 0)],[.box [.hole (tL 4),.hole (tL 4),.arr 4,.hole tLI],.gone,.box [.hole tI,.hole .bool,.hole tI,.hole .str,.hole tI,.cap0,.cap0,.cap0],.box [.hole tI,.hole .bool,.hole tI,.hole .str,.hole tI,.cap0,.arr 5,.arr 6],.arr tI,.arr (.nm 7),.arr (.nm 8)]⟩,[],[tL 4,tL 4,tLI,tI,.bool,tI,.str,tI,tI,.bool,tI,.str,tI,tLI,tL 7,tL 8]⟩],[]⟩
def e65 :FEnt:=⟨65,[hP 0 0,.row 4,.row 7,.row 4],[.box [.hole (tL 4),.hole (tL 4),.arr 1,.hole tLI],.arr tI],[.nm 4,.nm 7,.nm 4,tL 4,tL 4,tLI,tLI],.tup [.row 7,hh .bool],[.box [.hole (tL 4),.hole (tL 4),.arr 2,.hole tLI],.gone,.arr tI],[.nm 7,.bool,tL 4,tL 4,tLI,tLI],[e65_0,e65_1]⟩
def e66 :FEnt:=⟨66,[hP 0 0,.row 4,.row 7,.row 4],[.box [.hole (tL 4),.hole (tL 4),.arr 1,.hole tLI],.arr tI],[.nm 4,.nm 7,.nm 4,tL 4,tL 4,tLI,tLI],.tup [.row 7,hh .bool],[.box [.hole (tL 4),.hole (tL 4),.arr 2,.hole tLI],.gone,.arr tI],[.nm 7,.bool,tL 4,tL 4,tLI,tLI],[]⟩
def e67_0 :LEnt:=⟨0,⟨[(0,hP 0 0),(1,hh tI),(3,hh tI),(10,.c (.arr 2)),(15,hh (tL 7)),(16,hh tI),(17,hh tI)],[.box [.hole (tL 4),.hole (tL 4),.arr 3,.hole tLI],.gone,.arr (.nm 7),.arr tI]⟩,[(.slot 10,.nm 7)],[(.slot 10,.nm 7)],[tI,tI,tL 7,tI,tI,tL 4,tL 4,tLI,tL 7,tLI],[⟨.ret,⟨[(8,.c (.cap0)),(9,hh .bool)],[.box [.hole (tL 4),.hole (tL 4),.arr 2,.hole tLI],.gone,.arr tI]⟩,[],[.bool,tL 4,tL 4,tLI,tLI]⟩,⟨.exit 0,⟨[(10,.c (.arr 2))],[.box [.hole (tL 4),.hole (tL 4),.arr 3,.hole tLI],.gone,.arr (.nm 7),.arr tI]⟩,[],[tL 4,tL 4,tLI,tL 7,tLI]⟩],[]⟩
def e67 :FEnt:=⟨67,[hP 0 0,hh tI,hh (tL 7),hh tI],[.box [.hole (tL 4),.hole (tL 4),.arr 1,.hole tLI],.arr tI],[tI,tL 7,tI,tL 4,tL 4,tLI,tLI],.tup [hh (tL 7),hh .bool],[.box [.hole (tL 4),.hole (tL 4),.arr 2,.hole tLI],.gone,.arr tI],[tL 7,.bool,tL 4,tL 4,tLI,tLI],[e67_0]⟩
def e38 :FEnt:=⟨38,[hP 0 0,hh tI,.row 7,hh tI],[.box [.hole (tL 4),.hole (tL 4),.arr 1,.hole tLI],.arr tI],[tI,.nm 7,tI,tL 4,tL 4,tLI,tLI],.tup [.row 7,hh .bool],[.box [.hole (tL 4),.hole (tL 4),.arr 2,.hole tLI],.gone,.arr tI],[.nm 7,.bool,tL 4,tL 4,tLI,tLI],[]⟩
def e13 :FEnt:=⟨13,[.row 9,hh tI,.row 7,.row 9,hh tI],[],[.nm 9,tI,.nm 7,.nm 9,tI],.tup [.row 7,hh tI],[],[.nm 7,tI],[]⟩
def e17 :FEnt:=⟨17,[.row 9,hh tI,.row 7,.row 9,hh tI],[],[.nm 9,tI,.nm 7,.nm 9,tI],.tup [hh tLI,hh tI],[],[tLI,tI],[]⟩
def e19_0 :LEnt:=⟨0,⟨[(0,hh tLI),(1,hh tLI),(12,hh tI),(13,hh tI)],[]⟩,[],[],[tLI,tLI,tI,tI],[oR 4 .bool,oX 0],[]⟩
def e19 :FEnt:=⟨19,[hh tLI,hh tLI],[],[tLI,tLI],hh .bool,[],[.bool],[e19_0]⟩
def e12 :FEnt:=⟨12,[],[],[],hh .bool,[],[.bool],[]⟩
def e44_0 :LEnt:=⟨0,⟨[(1,hh tI),(2,hP 0 0),(5,hh tI)],[.brow 7]⟩,[],[],[tI,tI,.nm 7],[⟨.exit 0,⟨[(1,hh tI),(2,hP 0 0)],[.brow 7]⟩,[],[tI,.nm 7]⟩],[]⟩
def e44_1 :LEnt:=⟨1,⟨[(1,hh tI),(2,hP 0 0),(6,hh tI)],[.brow 7]⟩,[],[],[tI,tI,.nm 7],[⟨.exit 2,⟨[(1,hh tI),(2,hP 0 0)],[.brow 7]⟩,[],[tI,.nm 7]⟩],[]⟩
def e44_2 :LEnt:=⟨2,⟨[(1,hh tI),(2,hP 0 0),(7,hh tI)],[.brow 7]⟩,[],[],[tI,tI,.nm 7],[⟨.exit 4,⟨[(1,hh tI)],[]⟩,[],[tI]⟩],[]⟩
def e44 :FEnt:=⟨44,[.row 7,hh tI],[],[.nm 7,tI],hh tI,[],[tI],[e44_0,e44_1,e44_2]⟩
def e21 :FEnt:=⟨21,[.row 7],[],[.nm 7],hh .bool,[],[.bool],[]⟩
def e74_0 :LEnt:=⟨0,⟨[(0,hh (tL 7)),(1,hh (tL 7)),(5,hh tI)],[]⟩,[],[],[tL 7,tL 7,tI],[oR 4 .bool,oX 0],[]⟩
def e74 :FEnt:=⟨74,[hh (tL 7),hh (tL 7)],[],[tL 7,tL 7],hh .bool,[],[.bool],[e74_0]⟩
def e40_0 :LEnt:=⟨0,⟨[(2,hP 0 0),(3,hP 1 0),(5,hh tI)],[.brow 7,.brow 7]⟩,[],[],[tI,.nm 7,.nm 7],[oR 4 .bool,⟨.exit 0,⟨[(2,hP 0 0),(3,hP 1 0)],[.brow 7,.brow 7]⟩,[],[.nm 7,.nm 7]⟩],[]⟩
def e40 :FEnt:=⟨40,[.row 7,.row 7],[],[.nm 7,.nm 7],hh .bool,[],[.bool],[e40_0]⟩
def e15 :FEnt:=⟨15,[.row 7,.row 7],[],[.nm 7,.nm 7],hh .bool,[],[.bool],[]⟩
def e5 :FEnt:=⟨5,[.row 0],[],[.nm 0],hh .bool,[],[.bool],[]⟩
def e134 :FEnt:=⟨134,[.row 4],[],[.nm 4],.row 4,[],[.nm 4],[]⟩
def e167 :FEnt:=⟨167,[.row 6,.row 6],[],[.nm 6,.nm 6],hh .bool,[],[.bool],[]⟩
def AI :LEnt:=⟨0,⟨[(2,hP 0 0),(3,hP 1 0),(5,hh tI)],[.brow 4,.brow 4]⟩,[],[],[tI,.nm 4,.nm 4],[oR 4 .bool,⟨.exit 0,⟨[(2,hP 0 0),(3,hP 1 0)],[.brow 4,.brow 4]⟩,[],[.nm 4,.nm 4]⟩],[]⟩
def AK :LEnt:=⟨1,⟨[(2,hP 0 0),(3,hP 1 0),(6,hh tI)],[.brow 4,.brow 4]⟩,[],[],[tI,.nm 4,.nm 4],[oR 4 .bool,oX 2],[]⟩
def e133 :FEnt:=⟨133,[.row 4,.row 4],[],[.nm 4,.nm 4],hh .bool,[],[.bool],[AI,AK]⟩
def e168 :FEnt:=⟨168,[hh (.int .u8)],[],[.int .u8],hh .bool,[],[.bool],[]⟩
def e169 :FEnt:=⟨169,[hh (.int .u8)],[],[.int .u8],hh .bool,[],[.bool],[]⟩
def AL :LEnt:=⟨0,⟨[(0,hh .str),(3,hh tI)],[]⟩,[],[],[.str,tI],[oR 2 .bool,oX 0],[]⟩
def e135 :FEnt:=⟨135,[hh .str],[],[.str],hh .bool,[],[.bool],[AL]⟩
def e170 :FEnt:=⟨170,[hh tI,hh tI],[],[tI,tI],hh .bool,[],[.bool],[]⟩
def yx :LEnt:=⟨0,⟨[(0,hh (tL 5)),(4,hh tI),(5,hh tI)],[]⟩,[],[],[tL 5,tI,tI],[oR 2 .bool,⟨.exit 2,⟨[(0,hh (tL 5)),(4,hh tI)],[]⟩,[],[tL 5,tI]⟩],[]⟩
def AM :LEnt:=⟨0,⟨[(0,hh (tL 5)),(3,hh tI),(4,hh tI)],[]⟩,[],[],[tL 5,tI,tI],[oR 2 .bool,⟨.exit 0,⟨[(0,hh (tL 5))],[]⟩,[],[tL 5]⟩],[yx]⟩
def e136 :FEnt:=⟨136,[hh (tL 5)],[],[tL 5],hh .bool,[],[.bool],[AM]⟩
def yy :LEnt:=⟨0,⟨[(0,hh (tL 6)),(1,hh .bool),(6,hh tI),(7,hP 0 0),(8,hh tI)],[.brow 6]⟩,[],[],[tL 6,.bool,tI,tI,.nm 6],[oR 4 .bool,⟨.exit 2,⟨[(0,hh (tL 6)),(1,hh .bool),(6,hh tI),(7,hP 0 0)],[.brow 6]⟩,[],[tL 6,.bool,tI,.nm 6]⟩],[]⟩
def AN :LEnt:=⟨0,⟨[(0,hh (tL 6)),(1,hh .bool),(5,hh tI),(6,hh tI)],[]⟩,[],[],[tL 6,.bool,tI,tI],[oR 4 .bool,⟨.exit 0,⟨[(0,hh (tL 6)),(1,hh .bool)],[]⟩,[],[tL 6,.bool]⟩],[yy]⟩
def e137 :FEnt:=⟨137,[hh (tL 6),hh .bool],[],[tL 6,.bool],hh .bool,[],[.bool],[AN]⟩
def e92 :FEnt:=⟨92,[.row 4],[],[.nm 4],hh .bool,[],[.bool],[]⟩
def e93_0 :LEnt:=⟨0,⟨[(1,hP 0 0),(3,.c (.arr 1)),(4,hh tI)],[.brow 4,.arr tI]⟩,[(.slot 3,tI)],[(.slot 3,tI)],[tI,.nm 4,tLI],[⟨.exit 0,⟨[(1,hP 0 0),(3,.c (.arr 1))],[.brow 4,.arr tI]⟩,[],[.nm 4,tLI]⟩],[]⟩
def e93 :FEnt:=⟨93,[.row 4],[],[.nm 4],hh tLI,[],[tLI],[e93_0]⟩
def zD :LEnt:=⟨0,⟨[(1,hP 0 0),(3,hh tI),(4,hP 1 0),(5,hh tI)],[bb (tL 4),.box [.hole tI,.hole .str,.hole tI,.hole tI,.hole tI,.hole (tL 5),.hole (tL 6),.hole tI,.hole tI,.hole .bool]]⟩,[],[],[tI,tI,tL 4,tI,.str,tI,tI,tI,tL 5,tL 6,tI,tI,.bool],[oR 2 tI,⟨.exit 2,⟨[(1,hP 0 0),(3,hh tI),(4,hP 1 0)],[bb (tL 4),.box [.hole tI,.hole .str,.hole tI,.hole tI,.hole tI,.hole (tL 5),.hole (tL 6),.hole tI,.hole tI,.hole .bool]]⟩,[],[tI,tL 4,tI,.str,tI,tI,tI,tL 5,tL 6,tI,tI,.bool]⟩],[]⟩
def zE :LEnt:=⟨1,⟨[(1,hP 0 0),(3,hh tI),(4,hP 1 0),(6,hh tLI),(7,hh tI)],[bb (tL 4),.box [.hole tI,.hole .str,.hole tI,.hole tI,.hole tI,.hole (tL 5),.hole (tL 6),.hole tI,.hole tI,.hole .bool]]⟩,[],[],[tI,tLI,tI,tL 4,tI,.str,tI,tI,tI,tL 5,tL 6,tI,tI,.bool],[oR 2 tI,⟨.exit 4,⟨[(1,hP 0 0),(3,hh tI),(4,hP 1 0)],[bb (tL 4),.box [.hole tI,.hole .str,.hole tI,.hole tI,.hole tI,.hole (tL 5),.hole (tL 6),.hole tI,.hole tI,.hole .bool]]⟩,[],[tI,tL 4,tI,.str,tI,tI,tI,tL 5,tL 6,tI,tI,.bool]⟩],[]⟩
def e53_0 :LEnt:=⟨0,⟨[(1,hP 0 0),(3,hh tI)],[bb (tL 4)]⟩,[],[],[tI,tL 4],[oR 2 tI,oX 0],[zD,zE]⟩
def e53 :FEnt:=⟨53,[.row 9],[],[.nm 9],hh tI,[],[tI],[e53_0]⟩
def e75 :FEnt:=⟨75,[.row 7],[],[.nm 7],hh .bool,[],[.bool],[]⟩
def e76 :FEnt:=⟨76,[hh tI,hh .bool],[],[tI,.bool],hh .bool,[],[.bool],[]⟩
def e77_0 :LEnt:=⟨0,⟨[(1,hh (tL 8)),(2,hP 0 0),(5,hh tI)],[.brow 4]⟩,[],[],[tL 8,tI,.nm 4],[oR 4 .bool,oX 0],[]⟩
def e77 :FEnt:=⟨77,[.row 4,hh (tL 8)],[],[.nm 4,tL 8],hh .bool,[],[.bool],[e77_0]⟩
def e79_0 :LEnt:=⟨0,⟨[(1,hh tI),(2,hh (tL 7)),(3,hh .bool),(4,hP 0 0),(9,hh tI)],[bb (tL 4)]⟩,[],[],[tI,tL 7,.bool,tI,tL 4],[oR 8 .bool,oX 0],[]⟩
def e79 :FEnt:=⟨79,[.row 9,hh tI,hh (tL 7),hh .bool],[],[.nm 9,tI,tL 7,.bool],hh .bool,[],[.bool],[e79_0]⟩
def e41_0 :LEnt:=⟨0,⟨[(3,hh .bool),(4,hP 0 0),(6,hP 1 0),(9,hP 2 0),(12,hh tI)],[bb (tL 4),.brow 7,.box [.hole tI,.hole .str,.hole tI,.hole tI,.hole tI,.hole (tL 5),.hole (tL 6),.hole tI,.hole tI,.hole .bool]]⟩,[],[],[.bool,tI,tL 4,.nm 7,tI,.str,tI,tI,tI,tL 5,tL 6,tI,tI,.bool],[oR 8 .bool,oX 1],[]⟩
def e41_1 :LEnt:=⟨1,⟨[(6,hP 0 0),(15,hh tI)],[.brow 7]⟩,[],[],[tI,.nm 7],[oR 8 .bool,oX 3],[]⟩
def e41 :FEnt:=⟨41,[.row 9,hh tI,.row 7,hh .bool],[],[.nm 9,tI,.nm 7,.bool],hh .bool,[],[.bool],[e41_0,e41_1]⟩
def e22 :FEnt:=⟨22,[.row 9,hh tI,.row 7,.row 9,hh tI,.row 7],[],[.nm 9,tI,.nm 7,.nm 9,tI,.nm 7],hh .bool,[],[.bool],[]⟩
def e8 :FEnt:=⟨8,[.row 11],[],[.nm 11],hh .bool,[],[.bool],[]⟩
def e31_0 :LEnt:=⟨0,⟨[(1,hh (tL 13)),(4,hP 0 0),(5,hP 1 0),(6,hh tI)],[.box [.cap0],.box [.arr 2],.arr (.nm 2)]⟩,[],[],[tL 13,tI,tL 2],[⟨.exit 0,⟨[(4,hP 0 0),(5,hP 1 0)],[.box [.cap0],.box [.arr 2],.arr (.nm 2)]⟩,[],[tL 2]⟩],[]⟩
def e31 :FEnt:=⟨31,[.row 1,hh (tL 13)],[],[.nm 1,tL 13],.row 1,[],[.nm 1],[e31_0]⟩
def e11 :FEnt:=⟨11,[.row 12],[],[.nm 12],.tup [.row 9,.row 9,hh tI,.row 7,hh .bool],[],[.nm 9,.nm 9,tI,.nm 7,.bool],[]⟩
def e83_0 :LEnt:=⟨0,⟨[(0,hh (.int .u64)),(3,hh .str)],[]⟩,[],[],[.int .u64,.str],[⟨.exit 0,⟨[(3,hh .str)],[]⟩,[],[.str]⟩],[]⟩
def e83 :FEnt:=⟨83,[hh (.int .u64)],[],[.int .u64],hh .str,[],[.str],[e83_0]⟩
def e85_0 :LEnt:=⟨0,⟨[(0,hh (.int .u64)),(3,.c (.arr 0))],[.arr (.int .u8)]⟩,[(.slot 3,.int .u8)],[(.slot 3,.int .u8)],[.int .u64,.slice (.int .u8)],[⟨.exit 0,⟨[(0,hh (.int .u64)),(3,.c (.arr 0))],[.arr (.int .u8)]⟩,[],[.int .u64,.slice (.int .u8)]⟩],[]⟩
def e85 :FEnt:=⟨85,[hh (.int .u64)],[],[.int .u64],hh .str,[],[.str],[e85_0]⟩
def e86 :FEnt:=⟨86,[hh .str],[],[.str],hh .str,[],[.str],[]⟩
def e87 :FEnt:=⟨87,[hh tI,hh .bool,hh .str],[],[tI,.bool,.str],hh .str,[],[.str],[]⟩
def zF :LEnt:=⟨0,⟨[(3,hP 0 0),(5,hP 1 0),(7,hP 2 0),(14,hh .str),(15,hh tI),(19,hh tI)],[bb (tL 4),.brow 7,.brow 4]⟩,[],[],[.str,tI,tI,tL 4,.nm 7,.nm 4],[⟨.exit 7,⟨[(3,hP 0 0),(5,hP 1 0),(7,hP 2 0),(14,hh .str),(15,hh tI)],[bb (tL 4),.brow 7,.brow 4]⟩,[],[.str,tI,tL 4,.nm 7,.nm 4]⟩],[]⟩
def e49_0 :LEnt:=⟨0,⟨[(3,hP 0 0),(5,hP 1 0),(7,hP 2 0),(10,hh .str),(11,hh tI)],[bb (tL 4),.brow 7,.brow 4]⟩,[],[],[.str,tI,tL 4,.nm 7,.nm 4],[⟨.exit 1,⟨[(10,hh .str)],[]⟩,[],[.str]⟩],[]⟩
def e49_1 :LEnt:=⟨1,⟨[(3,hP 0 0),(5,hP 1 0),(7,hP 2 0),(12,hh .str),(13,hh tI)],[bb (tL 4),.brow 7,.brow 4]⟩,[],[],[.str,tI,tL 4,.nm 7,.nm 4],[⟨.exit 3,⟨[(12,hh .str)],[]⟩,[],[.str]⟩],[]⟩
def e49_2 :LEnt:=⟨2,⟨[(3,hP 0 0),(5,hP 1 0),(7,hP 2 0),(14,hh .str),(15,hh tI)],[bb (tL 4),.brow 7,.brow 4]⟩,[],[],[.str,tI,tL 4,.nm 7,.nm 4],[⟨.exit 5,⟨[(14,hh .str)],[]⟩,[],[.str]⟩],[zF]⟩
def e49 :FEnt:=⟨49,[.row 9,hh tI,.row 7],[],[.nm 9,tI,.nm 7],hh .str,[],[.str],[e49_0,e49_1,e49_2]⟩
def e16 :FEnt:=⟨16,[.row 9,hh tI,.row 7],[],[.nm 9,tI,.nm 7],hh .bool,[],[.bool],[]⟩
def e3 :FEnt:=⟨3,[.row 12],[],[.nm 12],hh .bool,[],[.bool],[]⟩
def e4 :FEnt:=⟨4,[.row 12],[],[.nm 12],hh .bool,[],[.bool],[]⟩
def e7 :FEnt:=⟨7,[.row 12,.row 7],[],[.nm 12,.nm 7],hh .bool,[],[.bool],[]⟩
def e6 :FEnt:=⟨6,[.row 12,hh (.int .u8)],[],[.nm 12,.int .u8],hh .bool,[],[.bool],[]⟩
def e48 :FEnt:=⟨48,[.row 9,hh tI,.row 7],[],[.nm 9,tI,.nm 7],hh tI,[],[tI],[]⟩
def e50_0 :LEnt:=⟨0,⟨[(3,hP 0 0),(5,hP 1 0),(7,hP 2 0),(8,hh tI),(9,hh tI)],[bb (tL 4),.brow 7,.brow 4]⟩,[],[],[tI,tI,tL 4,.nm 7,.nm 4],[⟨.exit 0,⟨[(5,hP 0 0),(8,hh tI)],[.brow 7]⟩,[],[tI,.nm 7]⟩],[]⟩
def e50 :FEnt:=⟨50,[.row 9,hh tI,.row 7],[],[.nm 9,tI,.nm 7],hh tI,[],[tI],[e50_0]⟩
def e25 :FEnt:=⟨25,[.row 9,hh tI,.row 7],[],[.nm 9,tI,.nm 7],.tup [hh .str,hh tI],[],[.str,tI],[]⟩
def e117 :FEnt:=⟨117,[hP 0 0,hh tI],[.box [.hole (tL 4),.arr 1,.hole tLI,.hole tI],.arr tI],[tI,tL 4,tLI,tI,tLI],.tup [.row 7,hh .bool],[.box [.hole (tL 4),.arr 2,.arr 3,.hole tI],.gone,.arr tI,.arr tI],[.nm 7,.bool,tL 4,tI,tLI,tLI],[]⟩
def AP :LEnt:=⟨0,⟨[(0,hh .str),(4,hh (.int .u64)),(17,hh tI),(18,hh tI)],[]⟩,[],[],[.str,.int .u64,tI,tI],[⟨.exit 0,⟨[(4,hh (.int .u64))],[]⟩,[],[.int .u64]⟩],[]⟩
def e118 :FEnt:=⟨118,[hh .str],[],[.str],.tup [hh (.int .u64),hh tI],[],[.int .u64,tI],[AP]⟩
def e119 :FEnt:=⟨119,[hh (.int .u64)],[],[.int .u64],hh tI,[],[tI],[]⟩
def e120 :FEnt:=⟨120,[hP 0 0,hh tI,hh tI,hh .str],[.box [.hole (tL 4),.arr 1,.hole tLI,.hole tI],.arr tI],[tI,tI,.str,tL 4,tLI,tI,tLI],.tup [.row 7,hh .bool],[.box [.hole (tL 4),.arr 2,.hole tLI,.hole tI],.gone,.arr tI],[.nm 7,.bool,tL 4,tLI,tI,tLI],[]⟩
def AQ :LEnt:=⟨0,⟨[(0,hh .str),(5,hh (.int .u64)),(10,hh tI),(11,hh tI)],[]⟩,[],[],[.str,.int .u64,tI,tI],[⟨.ret,⟨[(2,hh (.int .u64)),(3,hh tI),(4,hh tI)],[]⟩,[],[.int .u64,tI,tI]⟩,oX 0],[]⟩
def e206 :FEnt:=⟨206,[hh .str],[],[.str],.tup [hh (.int .u64),hh tI,hh tI],[],[.int .u64,tI,tI],[AQ]⟩
def e190 :FEnt:=⟨190,[hh .str],[],[.str],.tup [hh (.int .u64),hh .str,hh .bool],[],[.int .u64,.str,.bool],[]⟩
def e156 :FEnt:=⟨156,[hh .str],[],[.str],.tup [hh tI,hh .str,hh tI],[],[tI,.str,tI],[]⟩
def e121 :FEnt:=⟨121,[hP 0 0,.row 4,hh .str],[.box [.hole (tL 4),.arr 1,.hole tLI,.hole tI],.arr tI],[.nm 4,.str,tL 4,tLI,tI,tLI],.tup [.row 7,hh .bool],[.box [.hole (tL 4),.arr 2,.hole tLI,.hole tI],.gone,.arr tI],[.nm 7,.bool,tL 4,tLI,tI,tLI],[]⟩
def e191 :FEnt:=⟨191,[hh .str],[],[.str],.tup [hh .str,hh .str,hh .bool],[],[.str,.str,.bool],[]⟩
def AS :LEnt:=⟨0,⟨[(4,.c (.arr 0)),(5,hh .str)],[.arr .str]⟩,[(.slot 4,.str)],[(.slot 4,.str)],[.str,tLS],[⟨.ret,⟨[(2,.c (.cap0)),(3,hh tI)],[]⟩,[],[tI]⟩,⟨.exit 0,⟨[(4,.c (.arr 0))],[.arr .str]⟩,[],[tLS]⟩],[]⟩
def e157 :FEnt:=⟨157,[hh .str],[],[.str],.tup [hh tLS,hh tI],[],[tLS,tI],[AS]⟩
def mT :LEnt:=⟨0,⟨[(0,hP 0 0),(4,hP 2 0),(6,hP 3 0),(10,hP 4 0),(38,hh tLS),(39,hh tI),(40,hh tI)],[.box [.hole (tL 4),.arr 5,.hole tLI,.hole tI],.gone,.brow 4,.box [.hole tI,.hole .bool,.hole tI,.hole .str,.hole tI,.cap0,.cap0,.cap0],.box [.hole tI,.hole .bool,.hole tI,.hole .str,.hole tI,.cap0,.arr 6,.cap0],.arr tI,.arr (.nm 7)]⟩,[(.via 10 6,.nm 7)],[(.via 10 6,.nm 7)],[tLS,tI,tI,tL 4,tLI,tI,.nm 4,tI,.bool,tI,.str,tI,tI,.bool,tI,.str,tI,tLI,tL 7],[⟨.ret,⟨[(6,hP 2 0),(7,hh .bool)],[.box [.hole (tL 4),.arr 3,.hole tLI,.hole tI],.gone,.brow 7,.arr tI]⟩,[],[.bool,tL 4,tLI,tI,.nm 7,tLI]⟩,⟨.exit 0,⟨[(6,hP 2 0),(10,hP 3 0)],[.box [.hole (tL 4),.arr 4,.hole tLI,.hole tI],.gone,.box [.hole tI,.hole .bool,.hole tI,.hole .str,.hole tI,.cap0,.cap0,.cap0],.box [.hole tI,.hole .bool,.hole tI,.hole .str,.hole tI,.cap0,.arr 5,.cap0],.arr tI,.arr (.nm 7)]⟩,[],[tL 4,tLI,tI,tI,.bool,tI,.str,tI,tI,.bool,tI,.str,tI,tLI,tL 7]⟩],[]⟩
def e122 :FEnt:=⟨122,[hP 0 0,.row 4,hh .str],[.box [.hole (tL 4),.arr 1,.hole tLI,.hole tI],.arr tI],[.nm 4,.str,tL 4,tLI,tI,tLI],.tup [.row 7,hh .bool],[.box [.hole (tL 4),.arr 2,.hole tLI,.hole tI],.gone,.arr tI],[.nm 7,.bool,tL 4,tLI,tI,tLI],[mT]⟩
def mU :LEnt:=⟨0,⟨[(0,hP 0 0),(4,hP 2 0),(6,hP 3 0),(8,hh tLS),(10,hP 4 0),(11,hh tI)],[.box [.hole (tL 4),.arr 5,.hole tLI,.hole tI],.gone,.brow 4,.box [.hole tI,.hole .bool,.hole tI,.hole .str,.hole tI,.cap0,.cap0,.cap0],.box [.hole tI,.hole .bool,.hole tI,.hole .str,.hole tI,.arr 6,.cap0,.cap0],.arr tI,.arr (.nm 7)]⟩,[(.via 10 5,.nm 7)],[(.via 10 5,.nm 7)],[tLS,tI,tL 4,tLI,tI,.nm 4,tI,.bool,tI,.str,tI,tI,.bool,tI,.str,tI,tLI,tL 7],[⟨.ret,⟨[(6,hP 2 0),(7,hh .bool)],[.box [.hole (tL 4),.arr 3,.hole tLI,.hole tI],.gone,.brow 7,.arr tI]⟩,[],[.bool,tL 4,tLI,tI,.nm 7,tLI]⟩,⟨.exit 0,⟨[(0,hP 0 0),(4,hP 2 0),(6,hP 3 0),(8,hh tLS),(10,hP 4 0)],[.box [.hole (tL 4),.arr 5,.hole tLI,.hole tI],.gone,.brow 4,.box [.hole tI,.hole .bool,.hole tI,.hole .str,.hole tI,.cap0,.cap0,.cap0],.box [.hole tI,.hole .bool,.hole tI,.hole .str,.hole tI,.arr 6,.cap0,.cap0],.arr tI,.arr (.nm 7)]⟩,[],[tLS,tL 4,tLI,tI,.nm 4,tI,.bool,tI,.str,tI,tI,.bool,tI,.str,tI,tLI,tL 7]⟩],[]⟩
def AT :LEnt:=⟨1,⟨[(0,hP 0 0),(4,hP 2 0),(6,hP 3 0),(8,hh tLS),(10,hP 4 0),(14,hh tI)],[.box [.hole (tL 4),.arr 5,.hole tLI,.hole tI],.gone,.brow 4,.box [.hole tI,.hole .bool,.hole tI,.hole .str,.hole tI,.cap0,.cap0,.cap0],.box [.hole tI,.hole .bool,.hole tI,.hole .str,.hole tI,.arr 6,.cap0,.cap0],.arr tI,.arr (.nm 7)]⟩,[],[],[tLS,tI,tL 4,tLI,tI,.nm 4,tI,.bool,tI,.str,tI,tI,.bool,tI,.str,tI,tLI,tL 7],[⟨.ret,⟨[(6,hP 2 0),(7,hh .bool)],[.box [.hole (tL 4),.arr 3,.arr 4,.hole tI],.gone,.brow 7,.arr tI,.arr tI]⟩,[],[.bool,tL 4,tI,.nm 7,tLI,tLI]⟩,⟨.exit 2,⟨[(0,hP 0 0),(4,hP 2 0),(6,hP 3 0),(8,hh tLS),(10,hP 4 0)],[.box [.hole (tL 4),.arr 5,.hole tLI,.hole tI],.gone,.brow 4,.box [.hole tI,.hole .bool,.hole tI,.hole .str,.hole tI,.cap0,.cap0,.cap0],.box [.hole tI,.hole .bool,.hole tI,.hole .str,.hole tI,.arr 6,.cap0,.cap0],.arr tI,.arr (.nm 7)]⟩,[],[tLS,tL 4,tLI,tI,.nm 4,tI,.bool,tI,.str,tI,tI,.bool,tI,.str,tI,tLI,tL 7]⟩],[]⟩
def mV :LEnt:=⟨2,⟨[(0,hP 0 0),(4,hP 2 0),(6,hP 3 0),(8,hh tLS),(10,hP 4 0),(15,hh tI)],[.box [.hole (tL 4),.arr 5,.hole tLI,.hole tI],.gone,.brow 4,.box [.hole tI,.hole .bool,.hole tI,.hole .str,.hole tI,.cap0,.cap0,.cap0],.box [.hole tI,.hole .bool,.hole tI,.hole .str,.hole tI,.arr 6,.arr 7,.cap0],.arr tI,.arr (.nm 7),.arr (.nm 7)]⟩,[(.via 10 6,.nm 7)],[(.via 10 6,.nm 7)],[tLS,tI,tL 4,tLI,tI,.nm 4,tI,.bool,tI,.str,tI,tI,.bool,tI,.str,tI,tLI,tL 7,tL 7],[⟨.ret,⟨[(6,hP 2 0),(7,hh .bool)],[.box [.hole (tL 4),.arr 3,.hole tLI,.hole tI],.gone,.brow 7,.arr tI]⟩,[],[.bool,tL 4,tLI,tI,.nm 7,tLI]⟩,⟨.exit 4,⟨[(6,hP 2 0),(10,hP 3 0)],[.box [.hole (tL 4),.arr 4,.hole tLI,.hole tI],.gone,.box [.hole tI,.hole .bool,.hole tI,.hole .str,.hole tI,.cap0,.cap0,.cap0],.box [.hole tI,.hole .bool,.hole tI,.hole .str,.hole tI,.arr 5,.arr 6,.cap0],.arr tI,.arr (.nm 7),.arr (.nm 7)]⟩,[],[tL 4,tLI,tI,tI,.bool,tI,.str,tI,tI,.bool,tI,.str,tI,tLI,tL 7,tL 7]⟩],[]⟩
def e123 :FEnt:=⟨123,[hP 0 0,.row 4,hh .str],[.box [.hole (tL 4),.arr 1,.hole tLI,.hole tI],.arr tI],[.nm 4,.str,tL 4,tLI,tI,tLI],.tup [.row 7,hh .bool],[.box [.hole (tL 4),.arr 2,.hole tLI,.hole tI],.gone,.arr tI],[.nm 7,.bool,tL 4,tLI,tI,tLI],[mU,AT,mV]⟩
def AU :LEnt:=⟨0,⟨[(4,.c (.arr 0)),(5,hh (.int .u64)),(6,hh .str)],[.arr (.nm 15)]⟩,[(.slot 4,.nm 15)],[(.slot 4,.nm 15)],[.int .u64,.str,tL 15],[⟨.ret,⟨[(2,.c (.cap0)),(3,hh tI)],[]⟩,[],[tI]⟩,⟨.exit 0,⟨[(4,.c (.arr 0))],[.arr (.nm 15)]⟩,[],[tL 15]⟩],[]⟩
def e158 :FEnt:=⟨158,[hh .str],[],[.str],.tup [hh (tL 15),hh tI],[],[tL 15,tI],[AU]⟩
def e160 :FEnt:=⟨160,[.row 15,hP 0 0],[.brow 6],[.nm 15,.nm 6],hh .bool,[.brow 6],[.bool,.nm 6],[]⟩
def AV :LEnt:=⟨0,⟨[(0,hh (tL 15)),(1,.c (.fn 160 [0])),(7,hh tI),(8,hh tI)],[.brow 6]⟩,[],[],[tL 15,tI,tI,.nm 6],[⟨.ret,⟨[(4,hh tI)],[.brow 6]⟩,[],[tI,.nm 6]⟩,⟨.exit 0,⟨[],[.brow 6]⟩,[],[.nm 6]⟩],[]⟩
def e159 :FEnt:=⟨159,[hh (tL 15),.c (.fn 160 [0])],[.brow 6],[tL 15,.nm 6],hh tI,[.brow 6],[tI,.nm 6],[AV]⟩
def mW :LEnt:=⟨0,⟨[(1,hP 0 0),(2,hP 1 0),(20,.c (.arr 2)),(21,hh tI),(22,hh tI)],[.box [.hole tI,.hole .bool,.hole tI,.hole .str,.hole tI,.arr 2,.arr 3,.arr 4],.box [.hole tI,.hole .bool,.hole tI,.hole .str,.hole tI,.cap0,.cap0,.cap0],.arr (.nm 7),.arr (.nm 7),.arr (.nm 8)]⟩,[],[],[tI,tI,tI,.bool,tI,.str,tI,tI,.bool,tI,.str,tI,tL 7,tL 7,tL 8],[⟨.exit 0,⟨[(1,hP 0 0),(2,hP 1 0)],[.box [.hole tI,.hole .bool,.hole tI,.hole .str,.hole tI,.arr 2,.arr 3,.arr 4],.box [.hole tI,.hole .bool,.hole tI,.hole .str,.hole tI,.cap0,.cap0,.cap0],.arr (.nm 7),.arr (.nm 7),.arr (.nm 8)]⟩,[],[tI,.bool,tI,.str,tI,tI,.bool,tI,.str,tI,tL 7,tL 7,tL 8]⟩],[]⟩
def mX :LEnt:=⟨1,⟨[(1,hP 0 0),(2,hP 1 0),(35,.c (.arr 2)),(36,hh tI),(37,hh tI)],[.box [.hole tI,.hole .bool,.hole tI,.hole .str,.hole tI,.arr 3,.arr 2,.arr 4],.box [.hole tI,.hole .bool,.hole tI,.hole .str,.hole tI,.cap0,.cap0,.cap0],.arr (.nm 7),.arr (.nm 7),.arr (.nm 8)]⟩,[],[],[tI,tI,tI,.bool,tI,.str,tI,tI,.bool,tI,.str,tI,tL 7,tL 7,tL 8],[⟨.exit 2,⟨[(1,hP 0 0),(2,hP 1 0)],[.box [.hole tI,.hole .bool,.hole tI,.hole .str,.hole tI,.arr 2,.arr 3,.arr 4],.box [.hole tI,.hole .bool,.hole tI,.hole .str,.hole tI,.cap0,.cap0,.cap0],.arr (.nm 7),.arr (.nm 7),.arr (.nm 8)]⟩,[],[tI,.bool,tI,.str,tI,tI,.bool,tI,.str,tI,tL 7,tL 7,tL 8]⟩],[]⟩
def e161 :FEnt:=⟨161,[.row 7],[],[.nm 7],.row 7,[],[.nm 7],[mW,mX]⟩
def mY :LEnt:=⟨0,⟨[(0,hP 0 0),(4,hP 2 0),(6,hP 3 0),(8,hh (tL 15)),(10,hP 4 0),(39,hh (tL 6)),(40,hh tI),(41,hh tI)],[.box [.hole (tL 4),.arr 5,.hole tLI,.hole tI],.gone,.brow 4,.box [.hole tI,.hole .bool,.hole tI,.hole .str,.hole tI,.cap0,.cap0,.cap0],.box [.hole tI,.hole .bool,.hole tI,.hole .str,.hole tI,.cap0,.arr 6,.cap0],.arr tI,.arr (.nm 7)]⟩,[(.via 10 6,.nm 7)],[(.via 10 6,.nm 7)],[tL 15,tL 6,tI,tI,tL 4,tLI,tI,.nm 4,tI,.bool,tI,.str,tI,tI,.bool,tI,.str,tI,tLI,tL 7],[⟨.ret,⟨[(6,hP 2 0),(7,hh .bool)],[.box [.hole (tL 4),.arr 3,.hole tLI,.hole tI],.gone,.brow 7,.arr tI]⟩,[],[.bool,tL 4,tLI,tI,.nm 7,tLI]⟩,⟨.exit 0,⟨[(0,hP 0 0),(4,hP 2 0),(6,hP 3 0),(8,hh (tL 15)),(10,hP 4 0)],[.box [.hole (tL 4),.arr 5,.hole tLI,.hole tI],.gone,.brow 4,.box [.hole tI,.hole .bool,.hole tI,.hole .str,.hole tI,.cap0,.cap0,.cap0],.box [.hole tI,.hole .bool,.hole tI,.hole .str,.hole tI,.cap0,.arr 6,.cap0],.arr tI,.arr (.nm 7)]⟩,[],[tL 15,tL 4,tLI,tI,.nm 4,tI,.bool,tI,.str,tI,tI,.bool,tI,.str,tI,tLI,tL 7]⟩],[]⟩
def AX :LEnt:=⟨1,⟨[(0,hP 0 0),(4,hP 2 0),(6,hP 3 0),(10,hP 4 0),(117,hh (tL 15)),(118,hh tI),(119,hh tI)],[.box [.hole (tL 4),.arr 5,.hole tLI,.hole tI],.gone,.brow 4,.box [.hole tI,.hole .bool,.hole tI,.hole .str,.hole tI,.cap0,.cap0,.cap0],.box [.hole tI,.hole .bool,.hole tI,.hole .str,.hole tI,.cap0,.arr 6,.arr 7],.arr tI,.arr (.nm 7),.arr (.nm 8)]⟩,[(.via 10 7,.nm 8)],[(.via 10 7,.nm 8)],[tL 15,tI,tI,tL 4,tLI,tI,.nm 4,tI,.bool,tI,.str,tI,tI,.bool,tI,.str,tI,tLI,tL 7,tL 8],[⟨.ret,⟨[(6,hP 2 0),(7,hh .bool)],[.box [.hole (tL 4),.arr 3,.arr 4,.hole tI],.gone,.brow 7,.arr tI,.arr tI]⟩,[],[.bool,tL 4,tI,.nm 7,tLI,tLI]⟩,⟨.exit 3,⟨[(6,hP 2 0),(10,hP 3 0)],[.box [.hole (tL 4),.arr 4,.hole tLI,.hole tI],.gone,.box [.hole tI,.hole .bool,.hole tI,.hole .str,.hole tI,.cap0,.cap0,.cap0],.box [.hole tI,.hole .bool,.hole tI,.hole .str,.hole tI,.cap0,.arr 5,.arr 6],.arr tI,.arr (.nm 7),.arr (.nm 8)]⟩,[],[tL 4,tLI,tI,tI,.bool,tI,.str,tI,tI,.bool,tI,.str,tI,tLI,tL 7,tL 8]⟩],[]⟩
def e124 :FEnt:=⟨124,[hP 0 0,.row 4,hh .str],[.box [.hole (tL 4),.arr 1,.hole tLI,.hole tI],.arr tI],[.nm 4,.str,tL 4,tLI,tI,tLI],.tup [.row 7,hh .bool],[.box [.hole (tL 4),.arr 2,.hole tLI,.hole tI],.gone,.arr tI],[.nm 7,.bool,tL 4,tLI,tI,tLI],[mY,AX]⟩
def e89 :FEnt:=⟨89,[hP 0 0,hh tI,hh .str],[.box [.hole (tL 4),.arr 1,.hole tLI,.hole tI],.arr tI],[tI,.str,tL 4,tLI,tI,tLI],.tup [.row 7,hh .bool],[.box [.hole (tL 4),.arr 2,.hole tLI,.hole tI],.gone,.arr tI],[.nm 7,.bool,tL 4,tLI,tI,tLI],[]⟩
def e51 :FEnt:=⟨51,[.row 9,hh tI,hh .str],[],[.nm 9,tI,.str],.tup [.row 7,.row 16,hh tI],[],[.nm 7,.nm 16,tI],[]⟩
def e26 :FEnt:=⟨26,[.row 9,hh tI,hh .str],[],[.nm 9,tI,.str],.tup [.row 7,hh tI],[],[.nm 7,tI],[]⟩
def e9 :FEnt:=⟨9,[.row 12],[],[.nm 12],hh .bool,[],[.bool],[]⟩
def tabE0 :List FEnt:=[e33,e32,e34,e35,e186,e36,e82_a,e189,e188,e187,e155,e182,e183,e152,e184,e153,e185,e154,e115,e116]
def tabE1 :List FEnt:=[e88,e61,e171,e139,e100,e99,e64,e140,e144,e143,e101,e173,e194,e172,e141,e175,e195,e174,e196,e177]
def tabE2 :List FEnt:=[e197,e178,e176,e142,e97,e62,e37,e63,e102,e103,e104,e82_b,e45,e105,e148,e198,e179,e147,e149,e199]
def tabE3 :List FEnt:=[e200,e180,e201,e207,e204,e205,e202,e203,e181,e150,e106,e65,e66,e67,e38,e13,e17,e19,e12]
def tabE :List FEnt:=tabE0++tabE1++tabE2++tabE3
theorem AY :tabE.all (okE prog)=true:=by kernel_rfl
def qE :FSpec Un:={qC with F:=sortK (α:=Un.D 10) sortLt}
theorem uC :FnC prog qE:=⟨qD.1,fun h r hr=>qD.2 h r (Kn sortSWO _ r hr)⟩
def nL(n:Int):Option (ab):=
 some (⟨2,false,n,[],0,[],[],[]⟩:ab)
theorem e33_k :KC e33:= .m (by kernel_rfl)
theorem tU :FC e33 nL:= .fn e33_k .n .n fun _=>by kernel_rfl
def jn(n:Int):Option (aj):=
 nL n >>=fun r=>
 some (⟨2,[121],1,false,true,ab.eta r⟩:aj)
theorem e32_k :KC e32:= .m (by kernel_rfl)
theorem Cy :FC e32 jn:= .fn e32_k (.k tU .n) .n fun _=>by kernel_rfl
def jr(l:List aj):Option (az):=
 some (⟨[(⟨5,[82],0,0,0,[],l,0,0,false⟩:ae),(⟨2,[],0,9,0,[],[],0,0,false⟩:ae),(⟨2,[],0,5,0,[],[],0,0,false⟩:ae),(⟨1,[],0,0,0,[],[],0,0,false⟩:ae)]⟩:az)
theorem e34_k :KC e34:= .m (by kernel_rfl)
theorem CV :FC e34 jr:= .fn e34_k .n .n fun _=>by kernel_rfl
def jo(x_:Int×Int):Option (ab):=
 match x_ with
 | (a,b)=>
 nL a >>=fun r=>
 nL b >>=fun r_1=>
 some (⟨5,false,0,[],0,[],[ab.eta r,ab.eta r_1],[]⟩:ab)
theorem e35_k :KC e35:= .m (by kernel_rfl)
theorem Cz :FC e35 jo:= .fn e35_k (.k tU .n) .n fun _=>by kernel_rfl
def cS(x_:List aG×List aG×Int×Int):Option ((Bool) ⊕ (Unit)):=
 match x_ with
 | (s1_1,s2_1,t12_1,t13)=>
 if decide (t13 < t12_1)=true then
  if inR t13 s1_1.length=true then
   some (s1_1.getD t13.toNat aC) >>=fun x0=>
   if inR t13 s2_1.length=true then
    some (s2_1.getD t13.toNat aC) >>=fun x0_1=>
    if(!(eqI x0.ID x0_1.ID && (eqS x0.Data x0_1.Data && true)))=true then
     some (.inl false)
    else
     cS (s1_1,s2_1,t12_1,addI .i64 t13 1)
   else none
  else none
 else
  some (.inr ())
  partial_fixpoint
theorem BN :LC 36 0 [0] e36_0 cS:= .rc cS.partial_correctness .n .n fun _ _=>by kernel_rfl
def fV(x_:List aG×List aG):Option (Bool):=
 match x_ with
 | (s1,s2)=>
 if(!(decide ((s1.length:Int)=(s2.length:Int))))=true then
  some false
 else
  cS (s1,s2,(s1.length:Int),0) >>=fun o=>
  match o with
  | .inl o_1=>
   some o_1
  | .inr o_2=>
   some true
theorem e36_k :KC e36:= .m (by kernel_rfl)
theorem pZ :FC e36 fV:= .fn e36_k .n (.k BN .n) fun _=>by kernel_rfl
def f0(x_:List Int×List Int×Int×Int):Option ((Bool) ⊕ (Unit)):=
 match x_ with
 | (s1_1,s2_1,t12_1,t13)=>
 if decide (t13 < t12_1)=true then
  if inR t13 s1_1.length=true then
   if inR t13 s2_1.length=true then
    if(!(decide (s1_1.getD t13.toNat 0=s2_1.getD t13.toNat 0)))=true then
     some (.inl false)
    else
     f0 (s1_1,s2_1,t12_1,addI .i64 t13 1)
   else none
  else none
 else
  some (.inr ())
  partial_fixpoint
theorem B9 :LC 19 0 [0] e19_0 f0:= .rc f0.partial_correctness .n .n fun _ _=>by kernel_rfl
def kL(x_:List Int×List Int):Option (Bool):=
 match x_ with
 | (s1,s2)=>
 if(!(decide ((s1.length:Int)=(s2.length:Int))))=true then
  some false
 else
  f0 (s1,s2,(s1.length:Int),0) >>=fun o=>
  match o with
  | .inl o_1=>
   some o_1
  | .inr o_2=>
   some true
theorem e19_k :KC e19:= .m (by kernel_rfl)
theorem CB :FC e19 kL:= .fn e19_k .n (.k B9 .n) fun _=>by kernel_rfl
theorem e13_k :KC e13:= .m (by kernel_rfl)
noncomputable def g8:az×Int×ab×az×Int->Option (ab×Int):=evF prog tabE [nu,nv,nx,qE,nK] 3000 e13
theorem Dd :FC e13 g8:= .run AY (.k kR (.k nw (.k nA (.k uC (.k qq .n))))) e13_k 3000 fun _=>rfl
theorem e17_k :KC e17:= .m (by kernel_rfl)
noncomputable def g9:az×Int×ab×az×Int->Option (List Int×Int):=evF prog tabE [nu,nv,nx,qE,nK] 3000 e17
theorem De :FC e17 g9:= .run AY (.k kR (.k nw (.k nA (.k uC (.k qq .n))))) e17_k 3000 fun _=>rfl
def qg(g8:az×Int×ab×az×Int->Option (ab×Int))(g9:az×Int×ab×az×Int->Option (List Int×Int)):Option (Bool):=
 jn 3 >>=fun r=>
 jr [(⟨1,[120],1,false,false,(⟨0,false,0,[],0,[],[],[]⟩:ab)⟩:aj),(⟨r.ID,r.Name,r.Type_,r.Critical,r.HasDefault,ab.eta r.Default⟩:aj)] >>=fun r_1=>
 jn 3 >>=fun r_2=>
 jr [(⟨1,[120],2,false,false,(⟨0,false,0,[],0,[],[],[]⟩:ab)⟩:aj),(⟨r_2.ID,r_2.Name,r_2.Type_,r_2.Critical,r_2.HasDefault,ab.eta r_2.Default⟩:aj),(⟨4,[122],3,false,true,(⟨1,true,0,[],0,[],[],[]⟩:ab)⟩:aj)] >>=fun r_3=>
 jo (5,3) >>=fun r_4=>
 g8 (r_1,0,ab.eta r_4,r_3,0) >>=fun r_5=>
 jo (6,3) >>=fun r_8=>
 g9 (r_1,0,ab.eta r_8,r_3,0) >>=fun r_9=>
 jo (1,3) >>=fun r_12=>
 jn 4 >>=fun r_13=>
 jr [(⟨r_13.ID,r_13.Name,r_13.Type_,r_13.Critical,r_13.HasDefault,ab.eta r_13.Default⟩:aj)] >>=fun r_14=>
 g9 (r_1,0,ab.eta r_12,r_14,0) >>=fun r_15=>
 jo (1,4) >>=fun r_18=>
 jn 4 >>=fun r_19=>
 jr [(⟨r_19.ID,r_19.Name,r_19.Type_,r_19.Critical,r_19.HasDefault,ab.eta r_19.Default⟩:aj)] >>=fun r_20=>
 g8 (r_1,0,ab.eta r_18,r_20,0) >>=fun r_21=>
 some (bif bif bif bif decide (r_5.2=0)then decide (r_9.2=0)else false then decide (r_15.2=0)else false then decide (r_21.2=0)else false then decide ((r_5.1.Items.length:Int)=3)else false) >>=fun t83=>
 if(inR 2 r_5.1.Items.length || (!t83))=true then
  some (bif t83 then(r_5.1.Items.getD (2:Int).toNat af).Bool_ else false) >>=fun t90=>
  (if t90=true then kL (r_9.1,[1])else some false) >>=fun r_24=>
  some (bif t90 then r_24 else false) >>=fun t95=>
  (if t95=true then kL (r_15.1,[2])else some false) >>=fun r_25=>
  some (bif t95 then r_25 else false) >>=fun t100=>
  (if t100=true then fV (r_21.1.Rest,[(⟨1,[2]⟩:aG)])else some false) >>=fun r_26=>
  some (bif t100 then r_26 else false)
 else none
noncomputable def qh (_:Unit):Option (Bool):=qg g8 g9
theorem e12_k :KC e12:= .m (by kernel_rfl)
theorem CW :FC e12 qh:= .fn e12_k (.k Cy (.k CV (.k Cz (.k Dd (.k De (.k CB (.k pZ .n))))))) .n fun _=>by kernel_rfl
def awY(n:Int):aj:=⟨2,[121],1,false,true,⟨2,false,n,[],0,[],[],[]⟩⟩
def awX(t:Int):aj:=⟨1,[120],t,false,false,⟨0,false,0,[],0,[],[],[]⟩⟩
def awZ :aj:=⟨4,[122],3,false,true,⟨1,true,0,[],0,[],[],[]⟩⟩
def awS(l:List aj):az:=⟨[⟨5,[82],0,0,0,[],l,0,0,false⟩,⟨2,[],0,9,0,[],[],0,0,false⟩,⟨2,[],0,5,0,[],[],0,0,false⟩,⟨1,[],0,0,0,[],[],0,0,false⟩]⟩
def awV(a b:Int):ab:=⟨5,false,0,[],0,[],[⟨2,false,a,[],0,[],[],[]⟩,⟨2,false,b,[],0,[],[],[]⟩],[]⟩
theorem Mi(n:Int):jn n=some (awY n):=rfl
theorem Mj(l:List aj):jr l=some (awS l):=rfl
theorem Ml(a b:Int):jo (a,b)=some (awV a b):=rfl
def awC1 :Option (ab×Int)->Bool
 | some (u,e)=>decide (e=0) && (decide (u.Items.length=3) && (u.Items.getD 2 af).Bool_)
 | none=>false
def awC2(n:Int):Option (List Int×Int)->Bool
 | some (p,e)=>decide (e=0) && decide (p=[n])
 | none=>false
def awC3 :Option (ab×Int)->Bool
 | some (u,e)=>decide (e=0) && (match u.Rest with
  | [x]=>decide (x.ID=1) && decide (x.Data=[2])
  | _=>false)
 | none=>false
theorem aw1 :awC1 (g8 (awS [awX 1,awY 3],0,awV 5 3,awS [awX 2,awY 3,awZ],0))=true:=by kernel_rfl
theorem aw2 :awC2 1 (g9 (awS [awX 1,awY 3],0,awV 6 3,awS [awX 2,awY 3,awZ],0))=true:=by kernel_rfl
theorem aw3 :awC2 2 (g9 (awS [awX 1,awY 3],0,awV 1 3,awS [awY 4],0))=true:=by kernel_rfl
theorem aw4 :awC3 (g8 (awS [awX 1,awY 3],0,awV 1 4,awS [awY 4],0))=true:=by kernel_rfl
theorem awEq1(n:Int):kL ([n],[n])=some true:=by
 have h1:f0 ([n],[n],1,addI .i64 0 1)=some (.inr ()):=by rw[f0];rfl
 have h0:f0 ([n],[n],(([n]:List Int).length:Int),0)=some (.inr ()):=by
  rw[f0]
  simpa[inR]using h1
 rw[kL,h0];rfl
theorem awEq2 :fV ([⟨1,[2]⟩],[⟨1,[2]⟩])=some true:=by
 have h1:cS ([⟨1,[2]⟩],[⟨1,[2]⟩],1,addI .i64 0 1)=some (.inr ()):=by rw[cS];rfl
 have h0:cS ([⟨1,[2]⟩],[⟨1,[2]⟩],(([⟨1,[2]⟩]:List aG).length:Int),0)=some (.inr ()):=by
  rw[cS]
  simpa[inR,eqI,eqS]using h1
 rw[fV,h0];rfl
theorem awYe(n:Int):(⟨(awY n).ID,(awY n).Name,(awY n).Type_,(awY n).Critical,(awY n).HasDefault,(awY n).Default⟩:aj)=awY n:=rfl
theorem awXe(n:Int):(⟨1,[120],n,false,false,(⟨0,false,0,[],0,[],[],[]⟩:ab)⟩:aj)=awX n:=rfl
theorem awZe :(⟨4,[122],3,false,true,(⟨1,true,0,[],0,[],[],[]⟩:ab)⟩:aj)=awZ:=rfl
theorem ofC1{o:Option (ab×Int)}(h:awC1 o=true):∃u,o=some (u,0)/\u.Items.length=3/\(u.Items.getD (2:Int).toNat af).Bool_=true:=by
 match o,h with
 | some (u,e),h=>
  simp only[awC1,Bool.and_eq_true,decide_eq_true_eq]at h;obtain⟨rfl,h1,h2⟩:=h;exact⟨u,rfl,h1,h2⟩
theorem ofC2{n:Int}{o:Option (List Int×Int)}(h:awC2 n o=true):o=some ([n],0):=by
 match o,h with
 | some (u,e),h=>
  simp only[awC2,Bool.and_eq_true,decide_eq_true_eq]at h;obtain⟨rfl,rfl⟩:=h;rfl
theorem ofC3{o:Option (ab×Int)}(h:awC3 o=true):∃u,o=some (u,0)/\u.Rest=[⟨1,[2]⟩]:=by
 match o,h with
 | some (u,e),h=>
  simp only[awC3,Bool.and_eq_true,decide_eq_true_eq]at h;obtain⟨rfl,h1⟩:=h;refine⟨u,rfl,?_⟩;split at h1
  . rename_i x hx;simp only[Bool.and_eq_true,decide_eq_true_eq]at h1;rw[hx];cases x;simp_all
  . cases h1
theorem Im (g1 : az×Int×ab×az×Int -> Option (ab×Int)) (g2 : az×Int×ab×az×Int -> Option (List Int×Int))
 (h1:awC1 (g1 (awS [awX 1,awY 3],0,awV 5 3,awS [awX 2,awY 3,awZ],0))=true) (h2:awC2 1 (g2 (awS [awX 1,awY 3],0,awV 6 3,awS [awX 2,awY 3,awZ],0))=true)
 (h3:awC2 2 (g2 (awS [awX 1,awY 3],0,awV 1 3,awS [awY 4],0))=true) (h4:awC3 (g1 (awS [awX 1,awY 3],0,awV 1 4,awS [awY 4],0))=true):qg g1 g2=some true:=by
 obtain⟨u1,e1,b1,c1⟩:=ofC1 h1;have e2:=ofC2 h2;have e3:=ofC2 h3;obtain⟨u4,e4,hr⟩:=ofC3 h4;have hl:decide ((u1.Items.length:Int)=3)=true:=by rw[b1];rfl
 have hin:inR 2 u1.Items.length=true:=by rw[b1];rfl
 unfold qg;simp only[oZ4,oZ3,Mi,Mj,Ml,ab.aA,awYe,awXe,awZe];rw[e1,e2,e3,e4];simp only[oZ3,hl,hin,hr,c1,awEq1,awEq2,decide_true,cond_true,Bool.true_or,if_true]
theorem Io :qh ()=some true:=Im _ _ aw1 aw2 aw3 aw4
def lb(_:Unit):Option (Bool):=some true
theorem Df :FC e12 lb:=by
 have:qh=lb:=by funext x;exact Io
 rw[<-this];exact CW
theorem tA :lb ()=some true:=rfl
def gp(x_:aT×Int):Option (Int):=
 match x_ with
 | (d,i)=>
 if inR i d.Nodes.length=true then
 some (addI .i64 1 (wrp .i64 (remI (d.Nodes.getD i.toNat aw).Kind 9)))
 else none
theorem e54_k :KC e54:= .m (by kernel_rfl)
theorem kS :FC e54 gp:= .fn e54_k .n .n fun _=>by kernel_rfl
def cw(kind:Int):Option (Bool):=
 some (bif bif decide (kind=4)then true else decide (kind=5)then true else decide (kind=6))
theorem e55_k :KC e55:= .m (by kernel_rfl)
theorem qe :FC e55 cw:= .fn e55_k .n .n fun _=>by kernel_rfl
def fk(x0:aM):Option (Int):=
 some (subI .i64 (wrp .i64 (remI x0.A 7)) 3)
theorem e56_k :KC e56:= .m (by kernel_rfl)
theorem qm :FC e56 fk:= .fn e56_k .n .n fun _=>by kernel_rfl
def il(x0:aM):Option (Int):=
 fk x0 >>=fun r=>
 some (addI .i64 r (wrp .i64 (remI x0.B 6)))
theorem e57_k :KC e57:= .m (by kernel_rfl)
theorem tP :FC e57 il:= .fn e57_k (.k qm .n) .n fun _=>by kernel_rfl
def fg(x_:Int×aM×List Int):Option (List Int):=
 match x_ with
 | (i,b_1,b_2)=>
 if decide (i < 6)=true then
 if decide (0<=i)=true then
 if decide (remI (shrI .u8 b_1.A i) 2=1)=true then
 some [addI .i64 i 1] >>=fun t18=>
 if room 8 (b_2++t18).length=true then
 fg (addI .i64 i 1,b_1,b_2++t18)
 else none
 else
 fg (addI .i64 i 1,b_1,b_2)
 else none
 else
 some b_2
  partial_fixpoint
theorem CX :LC 58 0 [0] e58_0 fg:= .rc fg.partial_correctness .n .n fun _ _=>by kernel_rfl
def ed(x0:aM):Option (List Int):=
 fg (0,x0,[]) >>=fun o=>
 if decide ((o.length:Int)=0)=true then
 some [1] >>=fun t24=>
 if room 8 (o++t24).length=true then
 some (o++t24)
 else none
 else
 some o
theorem e58_k :KC e58:= .m (by kernel_rfl)
theorem tV :FC e58 ed:= .fn e58_k .n (.k CX .n) fun _=>by kernel_rfl
def kT(kind:Int):Option (Bool):=
 some (decide (7<=kind))
theorem Mm :KC e138:= .m (by kernel_rfl)
theorem tD :FC e138 kT:= .fn Mm .n .n fun _=>by kernel_rfl
def dY(x_:Int×Int×List aM):Option ((Int) ⊕ (Unit)):=
 match x_ with
 | (n,k,b)=>
 if decide (k < n)=true then
 gp ((⟨b⟩:aT),k) >>=fun r_2=>
 kT r_2 >>=fun r_3=>
 if r_3=true then
 some (.inl k)
 else
 dY (n,addI .i64 k 1,b)
 else
 some (.inr ())
  partial_fixpoint
theorem Ck :LC 95 0 [0] e95_0 dY:= .rc dY.partial_correctness (.k kS (.k tD .n)) .n fun _ _=>by kernel_rfl
def kU(x_:aT×Int×Int):Option (Int):=
 match x_ with
 | (d,i,code)=>
 some (d.Nodes.length:Int) >>=fun t12=>
 if(!(decide (t12=0)))=true then
 some (remI (wrp .i64 code) t12) >>=fun t16=>
 gp (d,t16) >>=fun r=>
 kT r >>=fun r_1=>
 if(bif r_1 then true else decide (t16 < i))=true then
 some t16
 else
 if decide (0 < i)=true then
 if(!(decide (i=0)))=true then
 some (remI t16 i)
 else none
 else
 dY (t12,0,d.Nodes) >>=fun o=>
 match o with
 | .inl o_1=>
 some o_1
 | .inr o_2=>
 some (-1)
 else none
theorem e95_k :KC e95:= .m (by kernel_rfl)
theorem CY :FC e95 kU:= .fn e95_k (.k kS (.k tD .n)) (.k Ck .n) fun _=>by kernel_rfl
def kM(kind:Int):Option (Bool):=
 some (bif decide (1<=kind)then decide (kind<=4)else false)
theorem e94_k :KC e94:= .m (by kernel_rfl)
theorem tB :FC e94 kM:= .fn e94_k .n .n fun _=>by kernel_rfl
def d7(x_:Int×Int×Int×List aM):Option ((Int) ⊕ (Unit)):=
 match x_ with
 | (code_1,n,k,b)=>
 if decide (k < n)=true then
 if(!(decide (n=0)))=true then
 some (remI (addI .i64 (wrp .i64 code_1) k) n) >>=fun t21=>
 gp ((⟨b⟩:aT),t21) >>=fun r=>
 kM r >>=fun r_1=>
 if r_1=true then
 some (.inl t21)
 else
 d7 (code_1,n,addI .i64 k 1,b)
 else none
 else
 some (.inr ())
  partial_fixpoint
theorem CZ :LC 60 0 [0] e60_0 d7:= .rc d7.partial_correctness (.k kS (.k tB .n)) .n fun _ _=>by kernel_rfl
def iq(x_:aT×Int):Option (Int):=
 match x_ with
 | (d,code)=>
 d7 (code,(d.Nodes.length:Int),0,d.Nodes) >>=fun o=>
 match o with
 | .inl o_1=>
 some o_1
 | .inr o_2=>
 some (-1)
theorem e60_k :KC e60:= .m (by kernel_rfl)
theorem tW :FC e60 iq:= .fn e60_k .n (.k CZ .n) fun _=>by kernel_rfl
def kN(x_:aT×Int×Int):Option (ab×Bool):=
 match x_ with
 | (d,t,code)=>
 if inR t d.Nodes.length=true then
 some (d.Nodes.getD t.toNat aw) >>=fun x0=>
 gp (d,t) >>=fun r=>
 some (decide (r=8)) >>=fun t21=>
 (if t21=true then iq (d,0)else some 0) >>=fun r_1=>
 if(bif t21 then decide (r_1 < 0)else false)=true then
 some ((⟨7,false,0,[],0,[],[],[]⟩:ab),true)
 else
 if decide (r=1)=true then
 some ((⟨r,decide (remI code 2=1),0,[],0,[],[],[]⟩:ab),true)
 else
 if decide (r=2)=true then
 fk x0 >>=fun r_2=>
 il x0 >>=fun r_3=>
 fk x0 >>=fun r_4=>
 some (addI .i64 (subI .i64 r_3 r_4) 1) >>=fun t47=>
 if(!(decide (t47=0)))=true then
 some ((⟨r,false,addI .i64 r_2 (remI (wrp .i64 code) t47),[],0,[],[],[]⟩:ab),true)
 else none
 else
 if decide (r=3)=true then
 if(bif decide (0 < remI x0.A 4)then decide (remI code 2=1)else false)=true then
 some ((⟨r,false,0,[97],0,[],[],[]⟩:ab),true)
 else
 some ((⟨r,false,0,[],0,[],[],[]⟩:ab),true)
 else
 if decide (r=4)=true then
 ed x0 >>=fun r_5=>
 ed x0 >>=fun r_6=>
 some (r_6.length:Int) >>=fun t71=>
 if(!(decide (t71=0)))=true then
 some (remI (wrp .i64 code) t71) >>=fun t72=>
 if inR t72 r_5.length=true then
 some ((⟨r,false,0,[],r_5.getD t72.toNat 0,[],[],[]⟩:ab),true)
 else none
 else none
 else
 some (decide (r=5)) >>=fun t77=>
 if t77=true then
 if t77=true then
 some ((⟨0,false,0,[],0,[],[],[]⟩:ab),false)
 else
 some ((⟨r,false,0,[],0,[],[],[]⟩:ab),true)
 else
 if decide (r=6)=true then
 some ((⟨0,false,0,[],0,[],[],[]⟩:ab),false)
 else
 some ((⟨r,false,0,[],0,[],[],[]⟩:ab),true)
 else none
theorem e96_k :KC e96:= .m (by kernel_rfl)
theorem CE :FC e96 kN:= .fn e96_k (.k kS (.k tW (.k qm (.k tP (.k tV .n))))) .n fun _=>by kernel_rfl
def f7(x_:Int×Bool×Int×Int×List aM×aM×List aj):Option (Int×Bool×Int×List aM×aM×List aj):=
 match x_ with
 | (i_3,record_3,id_2,k,b_7,b_8,b_9)=>
 if decide (k < (b_8.Parts.length:Int))=true then
 if inR k b_8.Parts.length=true then
 some (b_8.Parts.getD k.toNat bV) >>=fun x0_1=>
 kU ((⟨b_7⟩:aT),i_3,x0_1.Type_) >>=fun r=>
 if(bif (!(decide (addI .i64 1 (wrp .i64 (remI x0_1.ID 12))=id_2)))then true else decide (r < 0))=true then
 f7 (i_3,record_3,id_2,addI .i64 k 1,b_7,b_8,b_9)
 else
 some (dO (wrp .i32 (addI .i64 97 id_2))) >>=fun t55=>
 if decide ([109].length+t55.length<=aV)=true then
 some ([109]++t55) >>=fun t56=>
 if(bif record_3 then decide (remI x0_1.Flag 4=1)else false)=true then
 if(bif record_3 then decide (2<=remI x0_1.Flag 4)else false)=true then
 kN ((⟨b_7⟩:aT),r,quoI .u8 x0_1.Flag 4) >>=fun r_1=>
 some [(⟨id_2,t56,r,true,r_1.2,ab.eta r_1.1⟩:aj)] >>=fun t87=>
 if room 160 (b_9++t87).length=true then
 some (i_3,record_3,id_2,b_7,b_8,b_9++t87)
 else none
 else
 some [(⟨id_2,t56,r,true,false,(⟨0,false,0,[],0,[],[],[]⟩:ab)⟩:aj)] >>=fun t87_1=>
 if room 160 (b_9++t87_1).length=true then
 some (i_3,record_3,id_2,b_7,b_8,b_9++t87_1)
 else none
 else
 if(bif record_3 then decide (2<=remI x0_1.Flag 4)else false)=true then
 kN ((⟨b_7⟩:aT),r,quoI .u8 x0_1.Flag 4) >>=fun r_4=>
 some [(⟨id_2,t56,r,false,r_4.2,ab.eta r_4.1⟩:aj)] >>=fun t87_2=>
 if room 160 (b_9++t87_2).length=true then
 some (i_3,record_3,id_2,b_7,b_8,b_9++t87_2)
 else none
 else
 some [(⟨id_2,t56,r,false,false,(⟨0,false,0,[],0,[],[],[]⟩:ab)⟩:aj)] >>=fun t87_3=>
 if room 160 (b_9++t87_3).length=true then
 some (i_3,record_3,id_2,b_7,b_8,b_9++t87_3)
 else none
 else none
 else none
 else
 some (i_3,record_3,id_2,b_7,b_8,b_9)
  partial_fixpoint
theorem Ca :LC 59 0 [0,0] zA f7:= .rc f7.partial_correctness (.k CY (.k CE .n)) .n fun _ _=>by kernel_rfl
def gf(x_:Int×Bool×Int×List aM×aM×List aj):Option (List aj):=
 match x_ with
 | (i_1,record_1,id,b_1,b_2,b_3)=>
 if decide (id<=12)=true then
 f7 (i_1,record_1,id,0,b_1,b_2,b_3) >>=fun o_1=>
 gf (o_1.1,o_1.2.1,addI .i64 o_1.2.2.1 1,o_1.2.2.2.1,o_1.2.2.2.2.1,o_1.2.2.2.2.2)
 else
 some b_3
  partial_fixpoint
theorem Cu :LC 59 0 [0] e59_0 gf:= .rc gf.partial_correctness .n (.k Ca .n) fun _ _=>by kernel_rfl
def ia(x_:aT×Int×Bool):Option (List aj):=
 match x_ with
 | (d,i,record)=>
 if inR i d.Nodes.length=true then
 gf (i,record,1,d.Nodes,d.Nodes.getD i.toNat aw,[]) >>=fun o=>
 some o
 else none
theorem e59_k :KC e59:= .m (by kernel_rfl)
theorem Dg :FC e59 ia:= .fn e59_k .n (.k Cu .n) fun _=>by kernel_rfl
def fc(x_:Int×Int×List Int×Int×List aM×Int×List UInt8×Int×Int×Int×Int×Int×Bool×List ae×List aK):Option (Int×Int×List aM×Int×List UInt8×Int×Int×Int×Int×Int×Bool×List ae×List aK):=
 match x_ with
 | (n_3,i_3,l_22,k,b_25,b_26,b_27,b_28,b_29,b_30,b_31,b_32,b_33,b_34,b_35)=>
 if decide (k < (l_22.length:Int))=true then
 if inR k l_22.length=true then
 if inR k l_22.length=true then
 some (dO (wrp .i32 (addI .i64 97 (l_22.getD k.toNat 0)))) >>=fun t87=>
 if decide ([115].length+t87.length<=aV)=true then
 some [(⟨l_22.getD k.toNat 0,[115]++t87⟩:aK)] >>=fun t90=>
 if room 24 (b_35++t90).length=true then
 fc (n_3,i_3,l_22,addI .i64 k 1,b_25,b_26,b_27,b_28,b_29,b_30,b_31,b_32,b_33,b_34,b_35++t90)
 else none
 else none
 else none
 else none
 else
 some (n_3,i_3,b_25,b_26,b_27,b_28,b_29,b_30,b_31,b_32,b_33,b_34,b_35)
  partial_fixpoint
theorem CF :LC 30 0 [0,0] zB fc:= .rc fc.partial_correctness .n .n fun _ _=>by kernel_rfl
def bf(x_:Int×Int×List aM×List ae):Option (List ae):=
 match x_ with
 | (n,i,b_1,b_2)=>
 if decide (i < n)=true then
 if inR i b_1.length=true then
 some (b_1.getD i.toNat aw) >>=fun x0=>
 gp ((⟨b_1⟩:aT),i) >>=fun r=>
 cw r >>=fun r_1=>
 if r_1=true then
 some (dO (wrp .i32 (addI .i64 65 i))) >>=fun t41=>
 if decide (r=2)=true then
 fk x0 >>=fun r_2=>
 il x0 >>=fun r_3=>
 some [(⟨r,t41,r_2,r_3,0,[],[],0,0,false⟩:ae)] >>=fun t167=>
 if room 120 (b_2++t167).length=true then
 bf (n,addI .i64 i 1,b_1,b_2++t167)
 else none
 else
 if decide (r=3)=true then
 some [(⟨r,t41,0,0,wrp .i64 (remI x0.A 4),[],[],0,0,false⟩:ae)] >>=fun t167_1=>
 if room 120 (b_2++t167_1).length=true then
 bf (n,addI .i64 i 1,b_1,b_2++t167_1)
 else none
 else
 if decide (r=4)=true then
 ed x0 >>=fun r_4=>
 fc (n,i,r_4,0,b_1,r,t41,0,0,0,0,0,decide (remI x0.B 2=1),b_2,[]) >>=fun o_1=>
 some [(⟨o_1.2.2.2.1,o_1.2.2.2.2.1,o_1.2.2.2.2.2.1,o_1.2.2.2.2.2.2.1,o_1.2.2.2.2.2.2.2.1,o_1.2.2.2.2.2.2.2.2.2.2.2.2,[],o_1.2.2.2.2.2.2.2.2.1,o_1.2.2.2.2.2.2.2.2.2.1,o_1.2.2.2.2.2.2.2.2.2.2.1⟩:ae)] >>=fun t167_2=>
 if room 120 (o_1.2.2.2.2.2.2.2.2.2.2.2.1++t167_2).length=true then
 bf (o_1.1,addI .i64 o_1.2.1 1,o_1.2.2.1,o_1.2.2.2.2.2.2.2.2.2.2.2.1++t167_2)
 else none
 else
 if decide (r=5)=true then
 ia ((⟨b_1⟩:aT),i,true) >>=fun r_5=>
 some [(⟨r,t41,0,0,0,[],r_5,0,0,false⟩:ae)] >>=fun t167_3=>
 if room 120 (b_2++t167_3).length=true then
 bf (n,addI .i64 i 1,b_1,b_2++t167_3)
 else none
 else
 if decide (r=6)=true then
 ia ((⟨b_1⟩:aT),i,false) >>=fun r_6=>
 if decide ((r_6.length:Int)=0)=true then
 some [(⟨5,t41,0,0,0,[],[],0,0,false⟩:ae)] >>=fun t167_4=>
 if room 120 (b_2++t167_4).length=true then
 bf (n,addI .i64 i 1,b_1,b_2++t167_4)
 else none
 else
 some [(⟨r,t41,0,0,0,[],r_6,0,0,decide (remI x0.B 2=1)⟩:ae)] >>=fun t167_5=>
 if room 120 (b_2++t167_5).length=true then
 bf (n,addI .i64 i 1,b_1,b_2++t167_5)
 else none
 else
 if decide (r=7)=true then
 if(!(decide (n=0)))=true then
 some [(⟨r,t41,0,0,wrp .i64 (remI x0.A 4),[],[],0,remI (wrp .i64 x0.C) n,false⟩:ae)] >>=fun t167_6=>
 if room 120 (b_2++t167_6).length=true then
 bf (n,addI .i64 i 1,b_1,b_2++t167_6)
 else none
 else none
 else
 if decide (r=8)=true then
 some (wrp .i64 (remI x0.A 4)) >>=fun t135=>
 iq ((⟨b_1⟩:aT),x0.B) >>=fun r_7=>
 if(!(decide (n=0)))=true then
 some (remI (wrp .i64 x0.C) n) >>=fun t144=>
 if decide (r_7 < 0)=true then
 some [(⟨7,[],0,0,t135,[],[],0,t144,false⟩:ae)] >>=fun t167_7=>
 if room 120 (b_2++t167_7).length=true then
 bf (n,addI .i64 i 1,b_1,b_2++t167_7)
 else none
 else
 some [(⟨r,t41,0,0,t135,[],[],r_7,t144,false⟩:ae)] >>=fun t167_8=>
 if room 120 (b_2++t167_8).length=true then
 bf (n,addI .i64 i 1,b_1,b_2++t167_8)
 else none
 else none
 else
 if decide (r=9)=true then
 if(!(decide (n=0)))=true then
 some [(⟨r,t41,0,0,0,[],[],0,remI (wrp .i64 x0.C) n,false⟩:ae)] >>=fun t167_9=>
 if room 120 (b_2++t167_9).length=true then
 bf (n,addI .i64 i 1,b_1,b_2++t167_9)
 else none
 else none
 else
 some [(⟨r,t41,0,0,0,[],[],0,0,false⟩:ae)] >>=fun t167_10=>
 if room 120 (b_2++t167_10).length=true then
 bf (n,addI .i64 i 1,b_1,b_2++t167_10)
 else none
 else
 if decide (r=2)=true then
 fk x0 >>=fun r_8=>
 il x0 >>=fun r_9=>
 some [(⟨r,[],r_8,r_9,0,[],[],0,0,false⟩:ae)] >>=fun t167_11=>
 if room 120 (b_2++t167_11).length=true then
 bf (n,addI .i64 i 1,b_1,b_2++t167_11)
 else none
 else
 if decide (r=3)=true then
 some [(⟨r,[],0,0,wrp .i64 (remI x0.A 4),[],[],0,0,false⟩:ae)] >>=fun t167_12=>
 if room 120 (b_2++t167_12).length=true then
 bf (n,addI .i64 i 1,b_1,b_2++t167_12)
 else none
 else
 if decide (r=4)=true then
 ed x0 >>=fun r_10=>
 fc (n,i,r_10,0,b_1,r,[],0,0,0,0,0,decide (remI x0.B 2=1),b_2,[]) >>=fun o_2=>
 some [(⟨o_2.2.2.2.1,o_2.2.2.2.2.1,o_2.2.2.2.2.2.1,o_2.2.2.2.2.2.2.1,o_2.2.2.2.2.2.2.2.1,o_2.2.2.2.2.2.2.2.2.2.2.2.2,[],o_2.2.2.2.2.2.2.2.2.1,o_2.2.2.2.2.2.2.2.2.2.1,o_2.2.2.2.2.2.2.2.2.2.2.1⟩:ae)] >>=fun t167_13=>
 if room 120 (o_2.2.2.2.2.2.2.2.2.2.2.2.1++t167_13).length=true then
 bf (o_2.1,addI .i64 o_2.2.1 1,o_2.2.2.1,o_2.2.2.2.2.2.2.2.2.2.2.2.1++t167_13)
 else none
 else
 if decide (r=5)=true then
 ia ((⟨b_1⟩:aT),i,true) >>=fun r_11=>
 some [(⟨r,[],0,0,0,[],r_11,0,0,false⟩:ae)] >>=fun t167_14=>
 if room 120 (b_2++t167_14).length=true then
 bf (n,addI .i64 i 1,b_1,b_2++t167_14)
 else none
 else
 if decide (r=6)=true then
 ia ((⟨b_1⟩:aT),i,false) >>=fun r_12=>
 if decide ((r_12.length:Int)=0)=true then
 some [(⟨5,[],0,0,0,[],[],0,0,false⟩:ae)] >>=fun t167_15=>
 if room 120 (b_2++t167_15).length=true then
 bf (n,addI .i64 i 1,b_1,b_2++t167_15)
 else none
 else
 some [(⟨r,[],0,0,0,[],r_12,0,0,decide (remI x0.B 2=1)⟩:ae)] >>=fun t167_16=>
 if room 120 (b_2++t167_16).length=true then
 bf (n,addI .i64 i 1,b_1,b_2++t167_16)
 else none
 else
 if decide (r=7)=true then
 if(!(decide (n=0)))=true then
 some [(⟨r,[],0,0,wrp .i64 (remI x0.A 4),[],[],0,remI (wrp .i64 x0.C) n,false⟩:ae)] >>=fun t167_17=>
 if room 120 (b_2++t167_17).length=true then
 bf (n,addI .i64 i 1,b_1,b_2++t167_17)
 else none
 else none
 else
 if decide (r=8)=true then
 some (wrp .i64 (remI x0.A 4)) >>=fun t135_1=>
 iq ((⟨b_1⟩:aT),x0.B) >>=fun r_13=>
 if(!(decide (n=0)))=true then
 some (remI (wrp .i64 x0.C) n) >>=fun t144_1=>
 if decide (r_13 < 0)=true then
 some [(⟨7,[],0,0,t135_1,[],[],0,t144_1,false⟩:ae)] >>=fun t167_18=>
 if room 120 (b_2++t167_18).length=true then
 bf (n,addI .i64 i 1,b_1,b_2++t167_18)
 else none
 else
 some [(⟨r,[],0,0,t135_1,[],[],r_13,t144_1,false⟩:ae)] >>=fun t167_19=>
 if room 120 (b_2++t167_19).length=true then
 bf (n,addI .i64 i 1,b_1,b_2++t167_19)
 else none
 else none
 else
 if decide (r=9)=true then
 if(!(decide (n=0)))=true then
 some [(⟨r,[],0,0,0,[],[],0,remI (wrp .i64 x0.C) n,false⟩:ae)] >>=fun t167_20=>
 if room 120 (b_2++t167_20).length=true then
 bf (n,addI .i64 i 1,b_1,b_2++t167_20)
 else none
 else none
 else
 some [(⟨r,[],0,0,0,[],[],0,0,false⟩:ae)] >>=fun t167_21=>
 if room 120 (b_2++t167_21).length=true then
 bf (n,addI .i64 i 1,b_1,b_2++t167_21)
 else none
 else none
 else
 some b_2
  partial_fixpoint
theorem Dh :LC 30 0 [0] e30_0 bf:= .rc bf.partial_correctness (.k kS (.k qe (.k qm (.k tP (.k tV (.k Dg (.k tW .n))))))) (.k CF .n) fun _ _=>by kernel_rfl
def gw(d:aT):Option (az×Bool):=
 some (d.Nodes.length:Int) >>=fun t13=>
 if(bif decide (t13 < 1)then true else decide (5 < t13))=true then
 some ((⟨[]⟩:az),false)
 else
 bf (t13,0,d.Nodes,[]) >>=fun o=>
 some ((⟨o⟩:az),true)
theorem e30_k :KC e30:= .m (by kernel_rfl)
theorem ud :FC e30 gw:= .fn e30_k .n (.k Dh .n) fun _=>by kernel_rfl
def bS(x_:Int×List ae×List Int×Bool):Option (Int×List ae×List Int×Bool):=
 match x_ with
 | (n,b,b_1,b_2)=>
 if decide ((b_1.length:Int)=0)=true then
 some (0,b,b_1,b_2)
 else
 if inR 0 b_1.length=true then
 if(!(decide (n=0)))=true then
 if slR 1 (b_1.length:Int) b_1.length=true then
 some (remI (wrp .i64 (b_1.getD (0:Int).toNat 0)) n,b,cutL b_1 1 (b_1.length:Int),b_2)
 else none
 else none
 else none
theorem Mn :KC e109:= .m (by kernel_rfl)
theorem gS :FC e109 bS:= .fn Mn .n .n fun _=>by kernel_rfl
def gR(x_:List UInt8×Int×List ae×List Int×Bool):Option (List UInt8×List ae×List Int×Bool):=
 match x_ with
 | (s_1,n,b_6,b_7,b_8)=>
 if decide (0 < n)=true then
 bS (3,b_6,b_7,b_8) >>=fun r_5=>
 some (dO (wrp .i32 (addI .i64 97 r_5.1))) >>=fun t21=>
 if decide (s_1.length+t21.length<=aV)=true then
 gR (s_1++t21,subI .i64 n 1,r_5.2.1,r_5.2.2.1,r_5.2.2.2)
 else none
 else
 some (s_1,b_6,b_7,b_8)
  partial_fixpoint
theorem BP :LC 110 1 [0] Aq gR:= .rc gR.partial_correctness (.k gS .n) .n fun _ _=>by kernel_rfl
def nn(x_:Int×List ae×List Int×Bool):Option (List UInt8×List ae×List Int×Bool):=
 match x_ with
 | (most,b,b_1,b_2)=>
 bS (addI .i64 (minI most 3) 1,b,b_1,b_2) >>=fun r=>
 gR ([],r.1,r.2.1,r.2.2.1,r.2.2.2) >>=fun o=>
 some (o.1,o.2.1,o.2.2.1,o.2.2.2)
theorem Mo :KC e110:= .m (by kernel_rfl)
theorem Cb :FC e110 nn:= .fn Mo (.k gS .n) (.k BP .n) fun _=>by kernel_rfl
def jk(x_:List ae×List Int×Bool):Option (Bool×List ae×List Int×Bool):=
 match x_ with
 | (b,b_1,b_2)=>
 if b_2=true then
 bS (4,b,b_1,b_2) >>=fun r=>
 some (bif b_2 then decide (r.1=3)else false,r.2.1,r.2.2.1,r.2.2.2)
 else
 some (bif b_2 then false else false,b,b_1,b_2)
theorem Mq :KC e111:= .m (by kernel_rfl)
theorem Cl :FC e111 jk:= .fn Mq (.k gS .n) .n fun _=>by kernel_rfl
def eX(x_:Int×Int×ae):Option ((Int×Bool) ⊕ (Unit)):=
 match x_ with
 | (id_1,i,b)=>
 if decide (i < (b.Members.length:Int))=true then
 if inR i b.Members.length=true then
 if decide ((b.Members.getD i.toNat ag).ID=id_1)=true then
 some (.inl (i,true))
 else
 eX (id_1,addI .i64 i 1,b)
 else none
 else
 some (.inr ())
  partial_fixpoint
theorem Cm :LC 78 0 [0] e78_0 eX:= .rc eX.partial_correctness .n .n fun _ _=>by kernel_rfl
def cD(x_:ae×Int):Option (Int×Bool):=
 match x_ with
 | (t,id)=>
 eX (id,0,t) >>=fun o=>
 match o with
 | .inl o_1=>
 some (o_1.1,o_1.2)
 | .inr o_2=>
 some (0,false)
theorem e78_k :KC e78:= .m (by kernel_rfl)
theorem jm :FC e78 cD:= .fn e78_k .n (.k Cm .n) fun _=>by kernel_rfl
def dZ(x_:Int×Int×ae):Option ((Int×Bool) ⊕ (Unit)):=
 match x_ with
 | (id_1,i,b)=>
 if decide (i < (b.Symbols.length:Int))=true then
 if inR i b.Symbols.length=true then
 if decide ((b.Symbols.getD i.toNat aP).ID=id_1)=true then
 some (.inl (i,true))
 else
 dZ (id_1,addI .i64 i 1,b)
 else none
 else
 some (.inr ())
  partial_fixpoint
theorem Cn :LC 69 0 [0] e69_0 dZ:= .rc dZ.partial_correctness .n .n fun _ _=>by kernel_rfl
def kV(x_:ae×Int):Option (Int×Bool):=
 match x_ with
 | (t,id)=>
 dZ (id,0,t) >>=fun o=>
 match o with
 | .inl o_1=>
 some (o_1.1,o_1.2)
 | .inr o_2=>
 some (0,false)
theorem e69_k :KC e69:= .m (by kernel_rfl)
theorem tE :FC e69 kV:= .fn e69_k .n (.k Cn .n) fun _=>by kernel_rfl
def nH(x_:ae×Int):Option (Bool):=
 match x_ with
 | (t,n)=>
 cD (t,n) >>=fun r=>
 kV (t,n) >>=fun r_3=>
 some (bif r.2 then true else r_3.2)
theorem Mr :KC e151:= .m (by kernel_rfl)
theorem DF :FC e151 nH:= .fn Mr (.k jm (.k tE .n)) .n fun _=>by kernel_rfl
def ji(x_:Int×List ae×List Int×Bool×ae):Option (Int×List ae×List Int×Bool):=
 match x_ with
 | (n_1,b_6,b_7,b_8,b_9)=>
 nH (b_9,n_1) >>=fun r_5=>
 if r_5=true then
 ji (addI .i64 n_1 1,b_6,b_7,b_8,b_9)
 else
 some (n_1,b_6,b_7,b_8)
  partial_fixpoint
theorem BO :LC 112 1 [0] Ar ji:= .rc ji.partial_correctness (.k DF .n) .n fun _ _=>by kernel_rfl
def fY(x_:ae×List ae×List Int×Bool):Option (Int×List ae×List Int×Bool):=
 match x_ with
 | (t,b,b_1,b_2)=>
 bS (14,b,b_1,b_2) >>=fun r=>
 ji (addI .i64 1 r.1,r.2.1,r.2.2.1,r.2.2.2,t) >>=fun o=>
 some (o.1,o.2.1,o.2.2.1,o.2.2.2)
theorem Mt :KC e112:= .m (by kernel_rfl)
theorem BQ :FC e112 fY:= .fn Mt (.k gS .n) (.k BO .n) fun _=>by kernel_rfl
def jl(x_:Int×List ae×List Int×Bool):Option (aG×List ae×List Int×Bool):=
 match x_ with
 | (n,b,b_1,b_2)=>
 some [[],[1],[97],[3,1,2]] >>=fun t6=>
 bS (4,b,b_1,b_2) >>=fun r=>
 if inR r.1 t6.length=true then
 some ((⟨n,t6.getD r.1.toNat []⟩:aG),r.2.1,r.2.2.1,r.2.2.2)
 else none
theorem Mu :KC e113:= .m (by kernel_rfl)
theorem Co :FC e113 jl:= .fn Mu (.k gS .n) .n fun _=>by kernel_rfl
def cF(x_:Bool×Bool):Option (Int):=
 match x_ with
 | (less,equal)=>
 if equal=true then
 some 0
 else
 if less=true then
 some (-1)
 else
 some 1
theorem Mv :KC e108:= .m (by kernel_rfl)
theorem Di :FC e108 cF:= .fn Mv .n .n fun _=>by kernel_rfl
def jt(n:Int):Option (Int):=
 if decide (0<=n)=true then
 some (mulI .u64 2 (wrp .u64 n))
 else
 some (addI .u64 (mulI .u64 2 (wrp .u64 (subI .i64 0 (addI .i64 n 1)))) 1)
theorem e84_k :KC e84:= .m (by kernel_rfl)
theorem tF :FC e84 jt:= .fn e84_k .n .n fun _=>by kernel_rfl
def fe(x_:ab×ab):Option (Int):=
 match x_ with
 | (a,b)=>
 if(!(decide (a.Kind=b.Kind)))=true then
 some 0
 else
 if decide (a.Kind=1)=true then
 cF (b.Bool_,eqB a.Bool_ b.Bool_) >>=fun r=>
 some r
 else
 if decide (a.Kind=2)=true then
 jt a.Int_ >>=fun r_1=>
 jt b.Int_ >>=fun r_2=>
 cF (decide (r_1 < r_2),decide (a.Int_=b.Int_)) >>=fun r_3=>
 some r_3
 else
 if decide (a.Kind=3)=true then
 if(!(decide ((a.Str.length:Int)=(b.Str.length:Int))))=true then
 cF (decide ((a.Str.length:Int) < (b.Str.length:Int)),false) >>=fun r_4=>
 some r_4
 else
 cF (Op.bytesLess a.Str b.Str,decide (a.Str=b.Str)) >>=fun r_5=>
 some r_5
 else
 if decide (a.Kind=4)=true then
 cF (decide (a.ID < b.ID),decide (a.ID=b.ID)) >>=fun r_6=>
 some r_6
 else
 some 0
theorem e80_k :KC e80:= .m (by kernel_rfl)
theorem qc :FC e80 fe:= .fn e80_k (.k Di (.k tF .n)) .n fun _=>by kernel_rfl
def gj(x_:Int×ab×ab×ab×Int×Bool×Int×List UInt8×Int):Option (Int×ab×ab×ab×Int×Bool×Int×List UInt8×Int):=
 match x_ with
 | (i_1,b_8,b_9,b_10,b_11,b_12,b_13,b_14,b_15)=>
 some (decide (i_1 < (b_8.Keys.length:Int))) >>=fun t12=>
 if(inR i_1 b_8.Keys.length || (!t12))=true then
 (if t12=true then fe (ab.eta (b_8.Keys.getD i_1.toNat af),ab.eta b_9)else some 0) >>=fun r_1=>
 if(bif t12 then decide (r_1 < 0)else false)=true then
 gj (addI .i64 i_1 1,ab.eta b_8,ab.eta b_9,ab.eta b_10,b_11,b_12,b_13,b_14,b_15)
 else
 some (i_1,ab.eta b_8,ab.eta b_9,ab.eta b_10,b_11,b_12,b_13,b_14,b_15)
 else none
  partial_fixpoint
theorem C5 :LC 114 0 [0] As gj:= .rc gj.partial_correctness (.k qc .n) .n fun _ _=>by kernel_rfl
def nM(x_:ab×ab×ab):Option (ab):=
 match x_ with
 | (v,key,item)=>
 gj (0,ab.eta v,ab.eta key,ab.eta item,0,false,0,[],0) >>=fun o=>
 some (decide (o.1 < (o.2.1.Keys.length:Int))) >>=fun t29=>
 if(inR o.1 o.2.1.Keys.length || (!t29))=true then
 (if t29=true then fe (ab.eta (o.2.1.Keys.getD o.1.toNat af),ab.eta o.2.2.1)else some 0) >>=fun r=>
 if(bif t29 then decide (r=0)else false)=true then
 some (ab.eta o.2.1)
 else
 if slR 0 o.1 o.2.1.Keys.length=true then
 some (cutL o.2.1.Keys 0 o.1) >>=fun t45=>
 if room 120 ([]++t45).length=true then
 some ([]++t45) >>=fun l=>
 some [ab.eta o.2.2.1] >>=fun t48=>
 if room 120 (l++t48).length=true then
 some (l++t48) >>=fun l_1=>
 if slR o.1 (o.2.1.Keys.length:Int) o.2.1.Keys.length=true then
 some (cutL o.2.1.Keys o.1 (o.2.1.Keys.length:Int)) >>=fun t53=>
 if room 120 (l_1++t53).length=true then
 if slR 0 o.1 o.2.1.Items.length=true then
 some (cutL o.2.1.Items 0 o.1) >>=fun t60=>
 if room 120 ([]++t60).length=true then
 some ([]++t60) >>=fun l_3=>
 some [ab.eta o.2.2.2.1] >>=fun t63=>
 if room 120 (l_3++t63).length=true then
 some (l_3++t63) >>=fun l_4=>
 if slR o.1 (o.2.1.Items.length:Int) o.2.1.Items.length=true then
 some (cutL o.2.1.Items o.1 (o.2.1.Items.length:Int)) >>=fun t68=>
 if room 120 (l_4++t68).length=true then
 some (⟨o.2.1.Kind,o.2.1.Bool_,o.2.1.Int_,o.2.1.Str,o.2.1.ID,l_1++t53,l_4++t68,o.2.1.Rest⟩:ab)
 else none
 else none
 else none
 else none
 else none
 else none
 else none
 else none
 else none
 else none
 else none
theorem Mw :KC e114:= .m (by kernel_rfl)
theorem DY :FC e114 nM:= .fn Mw (.k qc .n) (.k C5 .n) fun _=>by kernel_rfl
mutual
def co(x_:Int×List ae×List Int×Bool):Option (ab×List ae×List Int×Bool):=
 match x_ with
 | (t,b,b_1,b_2)=>
 if inR t b.length=true then
 some (b.getD t.toNat ap) >>=fun x0=>
 if decide (x0.Kind=1)=true then
 bS (2,b,b_1,b_2) >>=fun r=>
 some ((⟨x0.Kind,decide (r.1=1),0,[],0,[],[],[]⟩:ab),r.2.1,r.2.2.1,r.2.2.2)
 else
 if decide (x0.Kind=2)=true then
 bS (256,b,b_1,b_2) >>=fun r_5=>
 some (addI .i64 (subI .i64 x0.High x0.Low) 1) >>=fun t51=>
 if(!(decide (t51=0)))=true then
 some ((⟨x0.Kind,false,addI .i64 x0.Low (remI r_5.1 t51),[],0,[],[],[]⟩:ab),r_5.2.1,r_5.2.2.1,r_5.2.2.2)
 else none
 else
 if decide (x0.Kind=3)=true then
 nn (x0.Max,b,b_1,b_2) >>=fun r_10=>
 some ((⟨x0.Kind,false,0,r_10.1,0,[],[],[]⟩:ab),r_10.2.1,r_10.2.2.1,r_10.2.2.2)
 else
 if decide (x0.Kind=4)=true then
 bS ((x0.Symbols.length:Int),b,b_1,b_2) >>=fun r_15=>
 if inR r_15.1 x0.Symbols.length=true then
 some (x0.Symbols.getD r_15.1.toNat aP) >>=fun x0_1=>
 if x0.Open=true then
 jk (r_15.2.1,r_15.2.2.1,r_15.2.2.2) >>=fun r_20=>
 if(bif x0.Open then r_20.1 else false)=true then
 fY (x0,r_20.2.1,r_20.2.2.1,r_20.2.2.2) >>=fun r_25=>
 some ((⟨x0.Kind,false,0,[],r_25.1,[],[],[]⟩:ab),r_25.2.1,r_25.2.2.1,r_25.2.2.2)
 else
 some ((⟨x0.Kind,false,0,[],x0_1.ID,[],[],[]⟩:ab),r_20.2.1,r_20.2.2.1,r_20.2.2.2)
 else
 if(bif x0.Open then false else false)=true then
 fY (x0,r_15.2.1,r_15.2.2.1,r_15.2.2.2) >>=fun r_30=>
 some ((⟨x0.Kind,false,0,[],r_30.1,[],[],[]⟩:ab),r_30.2.1,r_30.2.2.1,r_30.2.2.2)
 else
 some ((⟨x0.Kind,false,0,[],x0_1.ID,[],[],[]⟩:ab),r_15.2.1,r_15.2.2.1,r_15.2.2.2)
 else none
 else
 if decide (x0.Kind=5)=true then
 dD (0,b,b_1,b_2,0,false,0,[],0,x0.Kind,x0.Name,x0.Low,x0.High,x0.Max,x0.Symbols,x0.Members,x0.Key,x0.Elem,x0.Open,x0.Kind,false,0,[],0,[]) >>=fun o=>
 jk (o.1,o.2.1,o.2.2.1) >>=fun r_35=>
 if r_35.1=true then
 fY ((⟨o.2.2.2.2.2.2.2.2.1,o.2.2.2.2.2.2.2.2.2.1,o.2.2.2.2.2.2.2.2.2.2.1,o.2.2.2.2.2.2.2.2.2.2.2.1,o.2.2.2.2.2.2.2.2.2.2.2.2.1,o.2.2.2.2.2.2.2.2.2.2.2.2.2.1,o.2.2.2.2.2.2.2.2.2.2.2.2.2.2.1,o.2.2.2.2.2.2.2.2.2.2.2.2.2.2.2.1,o.2.2.2.2.2.2.2.2.2.2.2.2.2.2.2.2.1,o.2.2.2.2.2.2.2.2.2.2.2.2.2.2.2.2.2.1⟩:ae),r_35.2.1,r_35.2.2.1,r_35.2.2.2) >>=fun r_40=>
 jl (r_40.1,r_40.2.1,r_40.2.2.1,r_40.2.2.2) >>=fun r_45=>
 some ((⟨o.2.2.2.2.2.2.2.2.2.2.2.2.2.2.2.2.2.2.1,o.2.2.2.2.2.2.2.2.2.2.2.2.2.2.2.2.2.2.2.1,o.2.2.2.2.2.2.2.2.2.2.2.2.2.2.2.2.2.2.2.2.1,o.2.2.2.2.2.2.2.2.2.2.2.2.2.2.2.2.2.2.2.2.2.1,o.2.2.2.2.2.2.2.2.2.2.2.2.2.2.2.2.2.2.2.2.2.2.1,[],o.2.2.2.2.2.2.2.2.2.2.2.2.2.2.2.2.2.2.2.2.2.2.2,[r_45.1]⟩:ab),r_45.2.1,r_45.2.2.1,r_45.2.2.2)
 else
 some ((⟨o.2.2.2.2.2.2.2.2.2.2.2.2.2.2.2.2.2.2.1,o.2.2.2.2.2.2.2.2.2.2.2.2.2.2.2.2.2.2.2.1,o.2.2.2.2.2.2.2.2.2.2.2.2.2.2.2.2.2.2.2.2.1,o.2.2.2.2.2.2.2.2.2.2.2.2.2.2.2.2.2.2.2.2.2.1,o.2.2.2.2.2.2.2.2.2.2.2.2.2.2.2.2.2.2.2.2.2.2.1,[],o.2.2.2.2.2.2.2.2.2.2.2.2.2.2.2.2.2.2.2.2.2.2.2,[]⟩:ab),r_35.2.1,r_35.2.2.1,r_35.2.2.2)
 else
 if decide (x0.Kind=6)=true then
 if x0.Open=true then
 jk (b,b_1,b_2) >>=fun r_50=>
 if(bif x0.Open then r_50.1 else false)=true then
 fY (x0,r_50.2.1,r_50.2.2.1,r_50.2.2.2) >>=fun r_55=>
 jl (r_55.1,r_55.2.1,r_55.2.2.1,r_55.2.2.2) >>=fun r_60=>
 some ((⟨x0.Kind,false,0,[],r_55.1,[],[],[r_60.1]⟩:ab),r_60.2.1,r_60.2.2.1,r_60.2.2.2)
 else
 bS ((x0.Members.length:Int),r_50.2.1,r_50.2.2.1,r_50.2.2.2) >>=fun r_65=>
 if inR r_65.1 x0.Members.length=true then
 some (x0.Members.getD r_65.1.toNat ag) >>=fun x0_2=>
 co (x0_2.Type_,r_65.2.1,r_65.2.2.1,r_65.2.2.2) >>=fun r_70=>
 some ((⟨x0.Kind,false,0,[],x0_2.ID,[],[ab.eta r_70.1],[]⟩:ab),r_70.2.1,r_70.2.2.1,r_70.2.2.2)
 else none
 else
 if(bif x0.Open then false else false)=true then
 fY (x0,b,b_1,b_2) >>=fun r_75=>
 jl (r_75.1,r_75.2.1,r_75.2.2.1,r_75.2.2.2) >>=fun r_80=>
 some ((⟨x0.Kind,false,0,[],r_75.1,[],[],[r_80.1]⟩:ab),r_80.2.1,r_80.2.2.1,r_80.2.2.2)
 else
 bS ((x0.Members.length:Int),b,b_1,b_2) >>=fun r_85=>
 if inR r_85.1 x0.Members.length=true then
 some (x0.Members.getD r_85.1.toNat ag) >>=fun x0_3=>
 co (x0_3.Type_,r_85.2.1,r_85.2.2.1,r_85.2.2.2) >>=fun r_90=>
 some ((⟨x0.Kind,false,0,[],x0_3.ID,[],[ab.eta r_90.1],[]⟩:ab),r_90.2.1,r_90.2.2.1,r_90.2.2.2)
 else none
 else
 if decide (x0.Kind=7)=true then
 bS (addI .i64 (minI x0.Max 3) 1,b,b_1,b_2) >>=fun r_95=>
 fW (r_95.1,r_95.2.1,r_95.2.2.1,r_95.2.2.2,0,false,0,[],0,x0.Kind,x0.Name,x0.Low,x0.High,x0.Max,x0.Symbols,x0.Members,x0.Key,x0.Elem,x0.Open,x0.Kind,false,0,[],0,[]) >>=fun o_1=>
 some ((⟨o_1.2.2.2.2.2.2.2.2.1,o_1.2.2.2.2.2.2.2.2.2.1,o_1.2.2.2.2.2.2.2.2.2.2.1,o_1.2.2.2.2.2.2.2.2.2.2.2.1,o_1.2.2.2.2.2.2.2.2.2.2.2.2.1,[],o_1.2.2.2.2.2.2.2.2.2.2.2.2.2,[]⟩:ab),o_1.1,o_1.2.1,o_1.2.2.1)
 else
 if decide (x0.Kind=8)=true then
 bS (addI .i64 (minI x0.Max 3) 1,b,b_1,b_2) >>=fun r_100=>
 fX (r_100.1,r_100.2.1,r_100.2.2.1,r_100.2.2.2,0,false,0,[],0,x0.Kind,x0.Name,x0.Low,x0.High,x0.Max,x0.Symbols,x0.Members,x0.Key,x0.Elem,x0.Open,x0.Kind,false,0,[],0,[],[],[]) >>=fun o_2=>
 some ((⟨o_2.2.2.2.2.2.2.2.2.1,o_2.2.2.2.2.2.2.2.2.2.1,o_2.2.2.2.2.2.2.2.2.2.2.1,o_2.2.2.2.2.2.2.2.2.2.2.2.1,o_2.2.2.2.2.2.2.2.2.2.2.2.2.1,o_2.2.2.2.2.2.2.2.2.2.2.2.2.2.1,o_2.2.2.2.2.2.2.2.2.2.2.2.2.2.2.1,o_2.2.2.2.2.2.2.2.2.2.2.2.2.2.2.2⟩:ab),o_2.1,o_2.2.1,o_2.2.2.1)
 else
 bS (2,b,b_1,b_2) >>=fun r_105=>
 if decide (r_105.1=1)=true then
 co (x0.Elem,r_105.2.1,r_105.2.2.1,r_105.2.2.2) >>=fun r_110=>
 some ((⟨x0.Kind,false,0,[],0,[],[ab.eta r_110.1],[]⟩:ab),r_110.2.1,r_110.2.2.1,r_110.2.2.2)
 else
 some ((⟨x0.Kind,false,0,[],0,[],[],[]⟩:ab),r_105.2.1,r_105.2.2.1,r_105.2.2.2)
 else none
  partial_fixpoint
def dD(x_:Int×List ae×List Int×Bool×Int×Bool×Int×List UInt8×Int×Int×List UInt8×Int×Int×Int×List aK×List aj×Int×Int×Bool×Int×Bool×Int×List UInt8×Int×List ab):Option (List ae×List Int×Bool×Int×Bool×Int×List UInt8×Int×Int×List UInt8×Int×Int×Int×List aK×List aj×Int×Int×Bool×Int×Bool×Int×List UInt8×Int×List ab):=
 match x_ with
 | (i,b_57,b_58,b_59,b_60,b_61,b_62,b_63,b_64,b_65,b_66,b_67,b_68,b_69,b_70,b_71,b_72,b_73,b_74,b_75,b_76,b_77,b_78,b_79,b_80)=>
 if decide (i < (b_71.length:Int))=true then
 if inR i b_71.length=true then
 some (b_71.getD i.toNat ag) >>=fun x0_4=>
 if x0_4.HasDefault=true then
 bS (3,b_57,b_58,b_59) >>=fun r_115=>
 if(bif x0_4.HasDefault then decide (r_115.1=0)else false)=true then
 if inR i b_71.length=true then
 some [ab.eta (b_71.getD i.toNat ag).Default] >>=fun t113=>
 if room 120 (b_80++t113).length=true then
 dD (addI .i64 i 1,r_115.2.1,r_115.2.2.1,r_115.2.2.2,b_60,b_61,b_62,b_63,b_64,b_65,b_66,b_67,b_68,b_69,b_70,b_71,b_72,b_73,b_74,b_75,b_76,b_77,b_78,b_79,b_80++t113)
 else none
 else none
 else
 if inR i b_71.length=true then
 co ((b_71.getD i.toNat ag).Type_,r_115.2.1,r_115.2.2.1,r_115.2.2.2) >>=fun r_120=>
 some [ab.eta r_120.1] >>=fun t126=>
 if room 120 (b_80++t126).length=true then
 dD (addI .i64 i 1,r_120.2.1,r_120.2.2.1,r_120.2.2.2,b_60,b_61,b_62,b_63,b_64,b_65,b_66,b_67,b_68,b_69,b_70,b_71,b_72,b_73,b_74,b_75,b_76,b_77,b_78,b_79,b_80++t126)
 else none
 else none
 else
 if(bif x0_4.HasDefault then false else false)=true then
 if inR i b_71.length=true then
 some [ab.eta (b_71.getD i.toNat ag).Default] >>=fun t113_1=>
 if room 120 (b_80++t113_1).length=true then
 dD (addI .i64 i 1,b_57,b_58,b_59,b_60,b_61,b_62,b_63,b_64,b_65,b_66,b_67,b_68,b_69,b_70,b_71,b_72,b_73,b_74,b_75,b_76,b_77,b_78,b_79,b_80++t113_1)
 else none
 else none
 else
 if inR i b_71.length=true then
 co ((b_71.getD i.toNat ag).Type_,b_57,b_58,b_59) >>=fun r_125=>
 some [ab.eta r_125.1] >>=fun t126_1=>
 if room 120 (b_80++t126_1).length=true then
 dD (addI .i64 i 1,r_125.2.1,r_125.2.2.1,r_125.2.2.2,b_60,b_61,b_62,b_63,b_64,b_65,b_66,b_67,b_68,b_69,b_70,b_71,b_72,b_73,b_74,b_75,b_76,b_77,b_78,b_79,b_80++t126_1)
 else none
 else none
 else none
 else
 some (b_57,b_58,b_59,b_60,b_61,b_62,b_63,b_64,b_65,b_66,b_67,b_68,b_69,b_70,b_71,b_72,b_73,b_74,b_75,b_76,b_77,b_78,b_79,b_80)
  partial_fixpoint
def fW(x_:Int×List ae×List Int×Bool×Int×Bool×Int×List UInt8×Int×Int×List UInt8×Int×Int×Int×List aK×List aj×Int×Int×Bool×Int×Bool×Int×List UInt8×Int×List ab):Option (List ae×List Int×Bool×Int×Bool×Int×List UInt8×Int×Int×Bool×Int×List UInt8×Int×List ab):=
 match x_ with
 | (n,b_81,b_82,b_83,b_84,b_85,b_86,b_87,b_88,b_89,b_90,b_91,b_92,b_93,b_94,b_95,b_96,b_97,b_98,b_99,b_100,b_101,b_102,b_103,b_104)=>
 if decide (0 < n)=true then
 co (b_97,b_81,b_82,b_83) >>=fun r_130=>
 some [ab.eta r_130.1] >>=fun t193=>
 if room 120 (b_104++t193).length=true then
 fW (subI .i64 n 1,r_130.2.1,r_130.2.2.1,r_130.2.2.2,b_84,b_85,b_86,b_87,b_88,b_89,b_90,b_91,b_92,b_93,b_94,b_95,b_96,b_97,b_98,b_99,b_100,b_101,b_102,b_103,b_104++t193)
 else none
 else
 some (b_81,b_82,b_83,b_84,b_85,b_86,b_87,b_88,b_99,b_100,b_101,b_102,b_103,b_104)
  partial_fixpoint
def fX(x_:Int×List ae×List Int×Bool×Int×Bool×Int×List UInt8×Int×Int×List UInt8×Int×Int×Int×List aK×List aj×Int×Int×Bool×Int×Bool×Int×List UInt8×Int×List ab×List ab×List aG):Option (List ae×List Int×Bool×Int×Bool×Int×List UInt8×Int×Int×Bool×Int×List UInt8×Int×List ab×List ab×List aG):=
 match x_ with
 | (n_1,b_105,b_106,b_107,b_108,b_109,b_110,b_111,b_112,b_113,b_114,b_115,b_116,b_117,b_118,b_119,b_120,b_121,b_122,b_123,b_124,b_125,b_126,b_127,b_128,b_129,b_130)=>
 if decide (0 < n_1)=true then
 co (b_120,b_105,b_106,b_107) >>=fun r_135=>
 co (b_121,r_135.2.1,r_135.2.2.1,r_135.2.2.2) >>=fun r_140=>
 nM ((⟨b_123,b_124,b_125,b_126,b_127,b_128,b_129,b_130⟩:ab),ab.eta r_135.1,ab.eta r_140.1) >>=fun r_145=>
 fX (subI .i64 n_1 1,r_140.2.1,r_140.2.2.1,r_140.2.2.2,b_108,b_109,b_110,b_111,b_112,b_113,b_114,b_115,b_116,b_117,b_118,b_119,b_120,b_121,b_122,r_145.Kind,r_145.Bool_,r_145.Int_,r_145.Str,r_145.ID,r_145.Keys,r_145.Items,r_145.Rest)
 else
 some (b_105,b_106,b_107,b_108,b_109,b_110,b_111,b_112,b_123,b_124,b_125,b_126,b_127,b_128,b_129,b_130)
  partial_fixpoint
end
theorem e81_k :KC e81:= .m (by kernel_rfl)
theorem BS :(∀h r,co h=some r->FD e81 h r)/\(∀h r,fX h=some r->LD 81 1 [2] e81_2 h r)/\(∀h r,fW h=some r->LD 81 1 [1] e81_1 h r)/\(∀h r,dD h=some r->LD 81 1 [0] e81_0 h r):=co.mutual_partial_correctness (FD e81) (LD 81 1 [2] e81_2) (LD 81 1 [1] e81_1) (LD 81 1 [0] e81_0)
 (fun _ _ _ _ h0 h1 h2 h3 _ _ h=>FA e81 e81_k (.k gS (.k Cb (.k Cl (.k BQ (.k Co (.k (FH e81 e81_k h0) .n)))))) (.k (LH e81_0 h3) (.k (LH e81_1 h2) (.k (LH e81_2 h1) .n))) (.trans (by kernel_rfl) h))
 (fun _ _ h0 h1 _ _ h=>LA e81_2 h1 (.k (FH e81 e81_k h0) (.k DY .n)) .n (.trans (by kernel_rfl) h))
 (fun _ _ h0 h2 _ _ h=>LA e81_1 h2 (.k (FH e81 e81_k h0) .n) .n (.trans (by kernel_rfl) h))
 (fun _ _ h0 h3 _ _ h=>LA e81_0 h3 (.k gS (.k (FH e81 e81_k h0) .n)) .n (.trans (by kernel_rfl) h))
theorem tv :FC e81 co:= .of e81_k BS.1
def lj(x_:az×Int×List Int):Option (ab):=
 match x_ with
 | (s,t,choices)=>
 some (minI 60 (choices.length:Int)) >>=fun t12=>
 if slR 0 t12 choices.length=true then
 co (t,s.Types,cutL choices 0 t12,false) >>=fun r=>
 some (ab.eta r.1)
 else none
theorem e42_k :KC e42:= .m (by kernel_rfl)
theorem DG :FC e42 lj:= .fn e42_k (.k tv .n) .n fun _=>by kernel_rfl
def kO(x_:az×Int×List Int):Option (ab):=
 match x_ with
 | (s,t,choices)=>
 some (minI 60 (choices.length:Int)) >>=fun t12=>
 if slR 0 t12 choices.length=true then
 co (t,s.Types,cutL choices 0 t12,true) >>=fun r=>
 some (ab.eta r.1)
 else none
theorem e43_k :KC e43:= .m (by kernel_rfl)
theorem CG :FC e43 kO:= .fn e43_k (.k tv .n) .n fun _=>by kernel_rfl
def ir(d:dq):Option (az×Int×ab×ab×Bool):=
 gw d.S >>=fun r=>
 if(!r.2)=true then
 some (r.1,0,(⟨0,false,0,[],0,[],[],[]⟩:ab),(⟨0,false,0,[],0,[],[],[]⟩:ab),false)
 else
 some (r.1.Types.length:Int) >>=fun t26=>
 if(!(decide (t26=0)))=true then
 some (remI (wrp .i64 d.T) t26) >>=fun t27=>
 lj (r.1,t27,d.C) >>=fun r_3=>
 kO (r.1,t27,d.C) >>=fun r_4=>
 some (r.1,t27,ab.eta r_3,ab.eta r_4,true)
 else none
theorem e20_k :KC e20:= .m (by kernel_rfl)
theorem Ee :FC e20 ir:= .fn e20_k (.k ud (.k DG (.k CG .n))) .n fun _=>by kernel_rfl
def eO(x_:List aK×List aK×Int×Int):Option ((Bool) ⊕ (Unit)):=
 match x_ with
 | (s1_1,s2_1,t12_1,t13)=>
 if decide (t13 < t12_1)=true then
 if inR t13 s1_1.length=true then
 some (s1_1.getD t13.toNat aP) >>=fun x0=>
 if inR t13 s2_1.length=true then
 some (s2_1.getD t13.toNat aP) >>=fun x0_1=>
 if(!(eqI x0.ID x0_1.ID && (eqS x0.Name x0_1.Name && true)))=true then
 some (.inl false)
 else
 eO (s1_1,s2_1,t12_1,addI .i64 t13 1)
 else none
 else none
 else
 some (.inr ())
  partial_fixpoint
theorem BK :LC 186 0 [0] Au eO:= .rc eO.partial_correctness .n .n fun _ _=>by kernel_rfl
def na(x_:List aK×List aK):Option (Bool):=
 match x_ with
 | (s1,s2)=>
 if(!(decide ((s1.length:Int)=(s2.length:Int))))=true then
 some false
 else
 eO (s1,s2,(s1.length:Int),0) >>=fun o=>
 match o with
 | .inl o_1=>
 some o_1
 | .inr o_2=>
 some true
theorem Mx :KC e186:= .m (by kernel_rfl)
theorem BM :FC e186 na:= .fn Mx .n (.k BK .n) fun _=>by kernel_rfl
mutual
def du(x_:ab×ab):Option (Bool):=
 match x_ with
 | (a,b)=>
 some (bif bif bif bif decide (a.Kind=b.Kind)then eqB a.Bool_ b.Bool_ else false then decide (a.Int_=b.Int_)else false then decide (a.Str=b.Str)else false then decide (a.ID=b.ID)else false) >>=fun t37=>
 (if t37=true then fV (a.Rest,b.Rest)else some false) >>=fun r=>
 some (bif t37 then r else false) >>=fun t44=>
 (if t44=true then kC (a.Keys,b.Keys)else some false) >>=fun r_1=>
 some (bif t44 then r_1 else false) >>=fun t51=>
 (if t51=true then kC (a.Items,b.Items)else some false) >>=fun r_2=>
 some (bif t51 then r_2 else false)
  partial_fixpoint
def kC(x_:List ab×List ab):Option (Bool):=
 match x_ with
 | (s1,s2)=>
 if(!(decide ((s1.length:Int)=(s2.length:Int))))=true then
 some false
 else
 jg (s2,s1,(s1.length:Int),0) >>=fun o=>
 match o with
 | .inl o_1=>
 some o_1
 | .inr o_2=>
 some true
  partial_fixpoint
def jg(x_:List ab×List ab×Int×Int):Option ((Bool) ⊕ (Unit)):=
 match x_ with
 | (s2_1,t15,t16_1,t17)=>
 if decide (t17 < t16_1)=true then
 if inR t17 t15.length=true then
 if inR t17 s2_1.length=true then
 du (ab.eta (t15.getD t17.toNat af),ab.eta (s2_1.getD t17.toNat af)) >>=fun r=>
 if(!r)=true then
 some (.inl false)
 else
 jg (s2_1,t15,t16_1,addI .i64 t17 1)
 else none
 else none
 else
 some (.inr ())
  partial_fixpoint
end
theorem tg :KC e189:= .m (by kernel_rfl)
theorem zG :KC e82_a:= .m (by kernel_rfl)
theorem Et :(∀h r,du h=some r->FD e189 h r)/\(∀h r,kC h=some r->FD e82_a h r)/\(∀h r,jg h=some r->LD 82 0 [0] mu h r):=du.mutual_partial_correctness (FD e189) (FD e82_a) (LD 82 0 [0] mu)
 (fun _ h1 _ _ h=>FA e189 tg (.k pZ (.k (FH e82_a zG h1) .n)) .n (.trans (by kernel_rfl) h))
 (fun _ h2 _ _ h=>FA e82_a zG .n (.k (LH mu h2) .n) (.trans (by kernel_rfl) h))
 (fun _ _ h0 h2 _ _ h=>LA mu h2 (.k (FH e189 tg h0) .n) .n (.trans (by kernel_rfl) h))
theorem uO :FC e189 du:= .of tg Et.1
def lu(x_:aj×aj):Option (Bool):=
 match x_ with
 | (x0,y)=>
 some (bif bif bif bif decide (x0.ID=y.ID)then decide (x0.Name=y.Name)else false then decide (x0.Type_=y.Type_)else false then eqB x0.Critical y.Critical else false then eqB x0.HasDefault y.HasDefault else false) >>=fun t37=>
 (if t37=true then du ((⟨x0.Default.Kind,x0.Default.Bool_,x0.Default.Int_,x0.Default.Str,x0.Default.ID,x0.Default.Keys,x0.Default.Items,x0.Default.Rest⟩:ab),ab.eta y.Default)else some false) >>=fun r=>
 some (bif t37 then r else false)
theorem My :KC e188:= .m (by kernel_rfl)
theorem Ef :FC e188 lu:= .fn My (.k uO .n) .n fun _=>by kernel_rfl
def eL(x_:List aj×List aj×Int×Int):Option ((Bool) ⊕ (Unit)):=
 match x_ with
 | (s2_1,t15,t16_1,t17)=>
 if decide (t17 < t16_1)=true then
 if inR t17 t15.length=true then
 some (t15.getD t17.toNat ag) >>=fun x0=>
 if inR t17 s2_1.length=true then
 some (s2_1.getD t17.toNat ag) >>=fun x0_1=>
 lu ((⟨x0.ID,x0.Name,x0.Type_,x0.Critical,x0.HasDefault,ab.eta x0.Default⟩:aj),(⟨x0_1.ID,x0_1.Name,x0_1.Type_,x0_1.Critical,x0_1.HasDefault,ab.eta x0_1.Default⟩:aj)) >>=fun r=>
 if(!r)=true then
 some (.inl false)
 else
 eL (s2_1,t15,t16_1,addI .i64 t17 1)
 else none
 else none
 else
 some (.inr ())
  partial_fixpoint
theorem BA :LC 187 0 [0] Av eL:= .rc eL.partial_correctness (.k Ef .n) .n fun _ _=>by kernel_rfl
def m8(x_:List aj×List aj):Option (Bool):=
 match x_ with
 | (s1,s2)=>
 if(!(decide ((s1.length:Int)=(s2.length:Int))))=true then
 some false
 else
 eL (s2,s1,(s1.length:Int),0) >>=fun o=>
 match o with
 | .inl o_1=>
 some o_1
 | .inr o_2=>
 some true
theorem Mz :KC e187:= .m (by kernel_rfl)
theorem BB :FC e187 m8:= .fn Mz .n (.k BA .n) fun _=>by kernel_rfl
def bH(x_:ae×ae):Option (Bool):=
 match x_ with
 | (a,b)=>
 some (bif bif bif bif bif bif bif decide (a.Kind=b.Kind)then decide (a.Name=b.Name)else false then decide (a.Low=b.Low)else false then decide (a.High=b.High)else false then decide (a.Max=b.Max)else false then decide (a.Key=b.Key)else false then decide (a.Elem=b.Elem)else false then eqB a.Open b.Open else false) >>=fun t58=>
 (if t58=true then na (a.Symbols,b.Symbols)else some false) >>=fun r=>
 some (bif t58 then r else false) >>=fun t65=>
 (if t65=true then m8 (a.Members,b.Members)else some false) >>=fun r_1=>
 some (bif t65 then r_1 else false)
theorem MA :KC e155:= .m (by kernel_rfl)
theorem EP :FC e155 bH:= .fn MA (.k BM (.k BB .n)) .n fun _=>by kernel_rfl
def lv(c:Int):Option (Bool):=
 some (bif bif decide (c=95)then true else bif decide (97<=c)then decide (c<=122)else false then true else bif decide (65<=c)then decide (c<=90)else false)
theorem MB :KC e182:= .m (by kernel_rfl)
theorem ue :FC e182 lv:= .fn MB .n .n fun _=>by kernel_rfl
def nS(c:Int):Option (Bool):=
 some (bif decide (48<=c)then decide (c<=57)else false)
theorem MC :KC e183:= .m (by kernel_rfl)
theorem Eu :FC e183 nS:= .fn MC .n .n fun _=>by kernel_rfl
def cV(x_:List UInt8×Int×Int):Option ((Bool) ⊕ (Unit)):=
 match x_ with
 | (s_1,t18_1,t19)=>
 if decide (t19 < t18_1)=true then
 if inR t19 s_1.length=true then
 lv (bu s_1 t19) >>=fun r_1=>
 some (!r_1) >>=fun t26=>
 if(inR t19 s_1.length || (!t26))=true then
 (if t26=true then nS (bu s_1 t19)else some false) >>=fun r_2=>
 if(bif t26 then(!r_2)else false)=true then
 some (.inl false)
 else
 cV (s_1,t18_1,addI .i64 t19 1)
 else none
 else none
 else
 some (.inr ())
  partial_fixpoint
theorem DZ :LC 152 0 [0] Ax cV:= .rc cV.partial_correctness (.k ue (.k Eu .n)) .n fun _ _=>by kernel_rfl
def cK(s:List UInt8):Option (Bool):=
 some (bif decide (s=[])then true else decide (24 < (s.length:Int))) >>=fun t10=>
 if(inR 0 s.length || (!(!t10)))=true then
 (if(!t10)=true then lv (bu s 0)else some false) >>=fun r=>
 if(bif t10 then true else(!r))=true then
 some false
 else
 cV (s,(s.length:Int),0) >>=fun o=>
 match o with
 | .inl o_1=>
 some o_1
 | .inr o_2=>
 some true
 else none
theorem MD :KC e152:= .m (by kernel_rfl)
theorem uE :FC e152 cK:= .fn MD (.k ue .n) (.k DZ .n) fun _=>by kernel_rfl
def fp(x_:List Int×List (List UInt8)×List Int×Int×Int×List (List UInt8)):Option ((Bool) ⊕ (List Int)):=
 match x_ with
 | (l_2,names_1,t9,t10_1,t11,b)=>
 if decide (t11 < t10_1)=true then
 if inR t11 t9.length=true then
 some (t9.getD t11.toNat 0) >>=fun x0=>
 some (bif decide (x0 < 1)then true else decide (1000 < x0)) >>=fun t21=>
 some (decide (0 < t11)) >>=fun t24=>
 some (subI .i64 t11 1) >>=fun t29=>
 if(inR t29 l_2.length || (!((!t21) && t24)))=true then
 some (bif t21 then true else bif t24 then decide (x0<=l_2.getD t29.toNat 0)else false) >>=fun t34=>
 if(inR t11 names_1.length || (!(!t34)))=true then
 some (bif t34 then true else hasS b (names_1.getD t11.toNat [])) >>=fun t42=>
 if(inR t11 names_1.length || (!(!t42)))=true then
 (if(!t42)=true then cK (names_1.getD t11.toNat [])else some false) >>=fun r=>
 if(bif t42 then true else(!r))=true then
 some (.inl false)
 else
 if inR t11 names_1.length=true then
 fp (l_2,names_1,t9,t10_1,addI .i64 t11 1,addS b (names_1.getD t11.toNat []))
 else none
 else none
 else none
 else none
 else none
 else
 some (.inr l_2)
  partial_fixpoint
theorem Ev :LC 184 0 [0] Ay fp:= .rc fp.partial_correctness (.k uE .n) .n fun _ _=>by kernel_rfl
def lT(x_:List Int×List (List UInt8)):Option (Bool):=
 match x_ with
 | (l,names)=>
 fp (l,names,l,(l.length:Int),0,[]) >>=fun o=>
 match o with
 | .inl o_1=>
 some o_1
 | .inr o_2=>
 some (decide ((o_2.length:Int)<=16))
theorem ME :KC e184:= .m (by kernel_rfl)
theorem vd :FC e184 lT:= .fn ME .n (.k Ev .n) fun _=>by kernel_rfl
def gm(x_:List aK×List aK×Int×Int×List Int×List (List UInt8)):Option (List aK×List Int×List (List UInt8)):=
 match x_ with
 | (l_2,t7,t8_1,t9,b_2,b_3)=>
 if decide (t9 < t8_1)=true then
 if inR t9 t7.length=true then
 some (t7.getD t9.toNat aP) >>=fun x0=>
 some [x0.ID] >>=fun t16=>
 if room 8 (b_2++t16).length=true then
 some [x0.Name] >>=fun t21=>
 if room 16 (b_3++t21).length=true then
 gm (l_2,t7,t8_1,addI .i64 t9 1,b_2++t16,b_3++t21)
 else none
 else none
 else none
 else
 some (l_2,b_2,b_3)
  partial_fixpoint
theorem Dj :LC 153 0 [0] Az gm:= .rc gm.partial_correctness .n .n fun _ _=>by kernel_rfl
def jy(l:List aK):Option (Bool):=
 gm (l,l,(l.length:Int),0,[],[]) >>=fun o=>
 some (decide (0 < (o.1.length:Int))) >>=fun t26=>
 (if t26=true then lT (o.2.1,o.2.2)else some false) >>=fun r=>
 some (bif t26 then r else false)
theorem MF :KC e153:= .m (by kernel_rfl)
theorem Eg :FC e153 jy:= .fn MF (.k vd .n) (.k Dj .n) fun _=>by kernel_rfl
def oa(v:ab):Option (Bool):=
 du (ab.eta v,(⟨0,false,0,[],0,[],[],[]⟩:ab)) >>=fun r=>
 some r
theorem MG :KC e185:= .m (by kernel_rfl)
theorem EQ :FC e185 oa:= .fn MG (.k uO .n) .n fun _=>by kernel_rfl
def fh(x_:List aj×Int×Int×ae×List Int×List (List UInt8)):Option ((Bool) ⊕ (ae×List Int×List (List UInt8))):=
 match x_ with
 | (t8,t9_1,t10,b_3,b_4,b_5)=>
 if decide (t10 < t9_1)=true then
 if inR t10 t8.length=true then
 some (t8.getD t10.toNat ag) >>=fun x0=>
 some [x0.ID] >>=fun t17=>
 if room 8 (b_4++t17).length=true then
 some [x0.Name] >>=fun t22=>
 if room 16 (b_5++t22).length=true then
 some (bif bif decide (b_3.Kind=6)then bif x0.Critical then true else x0.HasDefault else false then true else bif x0.Critical then x0.HasDefault else false) >>=fun t42=>
 some (!x0.HasDefault) >>=fun t46=>
 (if((!t42) && t46)=true then oa (ab.eta x0.Default)else some false) >>=fun r_1=>
 if(bif t42 then true else bif t46 then(!r_1)else false)=true then
 some (.inl false)
 else
 fh (t8,t9_1,addI .i64 t10 1,b_3,b_4++t17,b_5++t22)
 else none
 else none
 else none
 else
 some (.inr (b_3,b_4,b_5))
  partial_fixpoint
theorem Dk :LC 154 0 [0] AA fh:= .rc fh.partial_correctness (.k EQ .n) .n fun _ _=>by kernel_rfl
def iu(t:ae):Option (Bool):=
 fh (t.Members,(t.Members.length:Int),0,t,[],[]) >>=fun o=>
 match o with
 | .inl o_1=>
 some o_1
 | .inr o_2=>
 some (bif decide (o_2.1.Kind=5)then true else decide (0 < (o_2.2.1.length:Int))) >>=fun t62=>
 (if t62=true then lT (o_2.2.1,o_2.2.2)else some false) >>=fun r=>
 some (bif t62 then r else false)
theorem MH :KC e154:= .m (by kernel_rfl)
theorem Eh :FC e154 iu:= .fn MH (.k vd .n) (.k Dk .n) fun _=>by kernel_rfl
def bl(t:ae):Option (Bool):=
 if decide (t.Kind=1)=true then
 bH ((⟨0,t.Name,t.Low,t.High,t.Max,t.Symbols,t.Members,t.Key,t.Elem,t.Open⟩:ae),(⟨0,[],0,0,0,[],[],0,0,false⟩:ae)) >>=fun r=>
 some r
 else
 if decide (t.Kind=2)=true then
 some (decide (t.Low<=t.High)) >>=fun t17=>
 (if t17=true then bH ((⟨0,t.Name,0,0,t.Max,t.Symbols,t.Members,t.Key,t.Elem,t.Open⟩:ae),(⟨0,[],0,0,0,[],[],0,0,false⟩:ae))else some false) >>=fun r_1=>
 some (bif t17 then r_1 else false)
 else
 if decide (t.Kind=3)=true then
 some (bif decide (0<=t.Max)then decide (t.Max<=200)else false) >>=fun t29=>
 (if t29=true then bH ((⟨0,t.Name,t.Low,t.High,0,t.Symbols,t.Members,t.Key,t.Elem,t.Open⟩:ae),(⟨0,[],0,0,0,[],[],0,0,false⟩:ae))else some false) >>=fun r_2=>
 some (bif t29 then r_2 else false)
 else
 if decide (t.Kind=4)=true then
 cK t.Name >>=fun r_3=>
 (if r_3=true then jy t.Symbols else some false) >>=fun r_4=>
 some (bif r_3 then r_4 else false) >>=fun t40=>
 (if t40=true then bH ((⟨0,[],t.Low,t.High,t.Max,[],t.Members,t.Key,t.Elem,false⟩:ae),(⟨0,[],0,0,0,[],[],0,0,false⟩:ae))else some false) >>=fun r_5=>
 some (bif t40 then r_5 else false)
 else
 some (decide (t.Kind=5)) >>=fun t45=>
 if t45=true then
 if t45=true then
 cK t.Name >>=fun r_6=>
 (if r_6=true then iu t else some false) >>=fun r_7=>
 some (bif r_6 then r_7 else false) >>=fun t53=>
 (if t53=true then bH ((⟨0,[],t.Low,t.High,t.Max,t.Symbols,[],t.Key,t.Elem,bif t.Open then decide (t.Kind=5)else false⟩:ae),(⟨0,[],0,0,0,[],[],0,0,false⟩:ae))else some false) >>=fun r_8=>
 some (bif t53 then r_8 else false)
 else
 some (decide (t.Kind=7)) >>=fun t65=>
 if t65=true then
 if t65=true then
 some (bif decide (0<=t.Max)then decide (t.Max<=50)else false) >>=fun t74=>
 if decide (t.Kind=8)=true then
 (if t74=true then bH ((⟨0,t.Name,t.Low,t.High,0,t.Symbols,t.Members,0,0,t.Open⟩:ae),(⟨0,[],0,0,0,[],[],0,0,false⟩:ae))else some false) >>=fun r_9=>
 some (bif t74 then r_9 else false)
 else
 (if t74=true then bH ((⟨0,t.Name,t.Low,t.High,0,t.Symbols,t.Members,t.Key,0,t.Open⟩:ae),(⟨0,[],0,0,0,[],[],0,0,false⟩:ae))else some false) >>=fun r_10=>
 some (bif t74 then r_10 else false)
 else
 if decide (t.Kind=9)=true then
 bH ((⟨0,t.Name,t.Low,t.High,t.Max,t.Symbols,t.Members,t.Key,0,t.Open⟩:ae),(⟨0,[],0,0,0,[],[],0,0,false⟩:ae)) >>=fun r_11=>
 some r_11
 else
 some false
 else
 if decide (t.Kind=8)=true then
 some (bif decide (0<=t.Max)then decide (t.Max<=50)else false) >>=fun t74_1=>
 if decide (t.Kind=8)=true then
 (if t74_1=true then bH ((⟨0,t.Name,t.Low,t.High,0,t.Symbols,t.Members,0,0,t.Open⟩:ae),(⟨0,[],0,0,0,[],[],0,0,false⟩:ae))else some false) >>=fun r_12=>
 some (bif t74_1 then r_12 else false)
 else
 (if t74_1=true then bH ((⟨0,t.Name,t.Low,t.High,0,t.Symbols,t.Members,t.Key,0,t.Open⟩:ae),(⟨0,[],0,0,0,[],[],0,0,false⟩:ae))else some false) >>=fun r_13=>
 some (bif t74_1 then r_13 else false)
 else
 if decide (t.Kind=9)=true then
 bH ((⟨0,t.Name,t.Low,t.High,t.Max,t.Symbols,t.Members,t.Key,0,t.Open⟩:ae),(⟨0,[],0,0,0,[],[],0,0,false⟩:ae)) >>=fun r_14=>
 some r_14
 else
 some false
 else
 if decide (t.Kind=6)=true then
 cK t.Name >>=fun r_15=>
 (if r_15=true then iu t else some false) >>=fun r_16=>
 some (bif r_15 then r_16 else false) >>=fun t53_1=>
 (if t53_1=true then bH ((⟨0,[],t.Low,t.High,t.Max,t.Symbols,[],t.Key,t.Elem,bif t.Open then decide (t.Kind=5)else false⟩:ae),(⟨0,[],0,0,0,[],[],0,0,false⟩:ae))else some false) >>=fun r_17=>
 some (bif t53_1 then r_17 else false)
 else
 some (decide (t.Kind=7)) >>=fun t65_1=>
 if t65_1=true then
 if t65_1=true then
 some (bif decide (0<=t.Max)then decide (t.Max<=50)else false) >>=fun t74_2=>
 if decide (t.Kind=8)=true then
 (if t74_2=true then bH ((⟨0,t.Name,t.Low,t.High,0,t.Symbols,t.Members,0,0,t.Open⟩:ae),(⟨0,[],0,0,0,[],[],0,0,false⟩:ae))else some false) >>=fun r_18=>
 some (bif t74_2 then r_18 else false)
 else
 (if t74_2=true then bH ((⟨0,t.Name,t.Low,t.High,0,t.Symbols,t.Members,t.Key,0,t.Open⟩:ae),(⟨0,[],0,0,0,[],[],0,0,false⟩:ae))else some false) >>=fun r_19=>
 some (bif t74_2 then r_19 else false)
 else
 if decide (t.Kind=9)=true then
 bH ((⟨0,t.Name,t.Low,t.High,t.Max,t.Symbols,t.Members,t.Key,0,t.Open⟩:ae),(⟨0,[],0,0,0,[],[],0,0,false⟩:ae)) >>=fun r_20=>
 some r_20
 else
 some false
 else
 if decide (t.Kind=8)=true then
 some (bif decide (0<=t.Max)then decide (t.Max<=50)else false) >>=fun t74_3=>
 if decide (t.Kind=8)=true then
 (if t74_3=true then bH ((⟨0,t.Name,t.Low,t.High,0,t.Symbols,t.Members,0,0,t.Open⟩:ae),(⟨0,[],0,0,0,[],[],0,0,false⟩:ae))else some false) >>=fun r_21=>
 some (bif t74_3 then r_21 else false)
 else
 (if t74_3=true then bH ((⟨0,t.Name,t.Low,t.High,0,t.Symbols,t.Members,t.Key,0,t.Open⟩:ae),(⟨0,[],0,0,0,[],[],0,0,false⟩:ae))else some false) >>=fun r_22=>
 some (bif t74_3 then r_22 else false)
 else
 if decide (t.Kind=9)=true then
 bH ((⟨0,t.Name,t.Low,t.High,t.Max,t.Symbols,t.Members,t.Key,0,t.Open⟩:ae),(⟨0,[],0,0,0,[],[],0,0,false⟩:ae)) >>=fun r_23=>
 some r_23
 else
 some false
theorem MI :KC e115:= .m (by kernel_rfl)
theorem E3 :FC e115 bl:= .fn MI (.k EP (.k uE (.k Eg (.k Eh .n)))) .n fun _=>by kernel_rfl
def gx(x_:List aj×Int×Int×ae×List Int):Option (ae×List Int):=
 match x_ with
 | (t7,t8_1,t9,b_2,b_3)=>
 if decide (t9 < t8_1)=true then
 if inR t9 t7.length=true then
 some [(t7.getD t9.toNat ag).Type_] >>=fun t16=>
 if room 8 (b_3++t16).length=true then
 gx (t7,t8_1,addI .i64 t9 1,b_2,b_3++t16)
 else none
 else none
 else
 some (b_2,b_3)
  partial_fixpoint
theorem Ei :LC 116 0 [0] AB gx:= .rc gx.partial_correctness .n .n fun _ _=>by kernel_rfl
def ov(t:ae):Option (List Int):=
 gx (t.Members,(t.Members.length:Int),0,t,[]) >>=fun o=>
 if decide (o.1.Kind=8)=true then
 some [o.1.Key] >>=fun t25=>
 if room 8 (o.2++t25).length=true then
 some (o.2++t25) >>=fun l=>
 if decide (7<=o.1.Kind)=true then
 some [o.1.Elem] >>=fun t33=>
 if room 8 (l++t33).length=true then
 some (l++t33)
 else none
 else
 some l
 else none
 else
 if decide (7<=o.1.Kind)=true then
 some [o.1.Elem] >>=fun t33_1=>
 if room 8 (o.2++t33_1).length=true then
 some (o.2++t33_1)
 else none
 else
 some o.2
theorem MK :KC e116:= .m (by kernel_rfl)
theorem E4 :FC e116 ov:= .fn MK .n (.k Ei .n) fun _=>by kernel_rfl
def fi(x_:List ae×Int×Int×List Int×Int×Int×List ae×List (List UInt8)×Int×List UInt8×Int×Int×Int×List aK×List aj×Int×Int×Bool):Option ((Int) ⊕ (List ae×Int×Int×List ae×List (List UInt8)×Int×List UInt8×Int×Int×Int×List aK×List aj×Int×Int×Bool)):=
 match x_ with
 | (t14_2,t15_3,t16_2,t38,t39_1,t40,b_14,b_15,b_16,b_17,b_18,b_19,b_20,b_21,b_22,b_23,b_24,b_25)=>
 if decide (t40 < t39_1)=true then
 if inR t40 t38.length=true then
 some (t38.getD t40.toNat 0) >>=fun x0_3=>
 if(bif decide (x0_3 < 0)then true else decide ((b_14.length:Int)<=x0_3))=true then
 some (.inl 4)
 else
 fi (t14_2,t15_3,t16_2,t38,t39_1,addI .i64 t40 1,b_14,b_15,b_16,b_17,b_18,b_19,b_20,b_21,b_22,b_23,b_24,b_25)
 else none
 else
 some (.inr (t14_2,t15_3,t16_2,b_14,b_15,b_16,b_17,b_18,b_19,b_20,b_21,b_22,b_23,b_24,b_25))
  partial_fixpoint
theorem Dl :LC 88 0 [0,0] zC fi:= .rc fi.partial_correctness .n .n fun _ _=>by kernel_rfl
def gu(x_:List ae×Int×Int×List ae×List (List UInt8)):Option ((Int) ⊕ (Unit)):=
 match x_ with
 | (t14,t15_1,t16,b,b_1)=>
 if decide (t16 < t15_1)=true then
 if inR t16 t14.length=true then
 some (t14.getD t16.toNat ap) >>=fun x0=>
 bl x0 >>=fun r=>
 if(bif (!r)then true else bif (!(decide (x0.Name=[])))then hasS b_1 x0.Name else false)=true then
 some (.inl 1)
 else
 ov x0 >>=fun r_1=>
 fi (t14,t15_1,t16,r_1,(r_1.length:Int),0,b,addS b_1 x0.Name,x0.Kind,x0.Name,x0.Low,x0.High,x0.Max,x0.Symbols,x0.Members,x0.Key,x0.Elem,x0.Open) >>=fun o_3=>
 match o_3 with
 | .inl o_4=>
 some (.inl o_4)
 | .inr o_5=>
 some (decide (o_5.2.2.2.2.2.1=8)) >>=fun t56=>
 if(inR o_5.2.2.2.2.2.2.2.2.2.2.2.2.1 o_5.2.2.2.1.length || (!t56))=true then
 some (decide ((o_5.2.2.2.1.getD o_5.2.2.2.2.2.2.2.2.2.2.2.2.1.toNat ap).Kind < 1)) >>=fun t65=>
 if(inR o_5.2.2.2.2.2.2.2.2.2.2.2.2.1 o_5.2.2.2.1.length || (!(t56 && (!t65))))=true then
 if(bif t56 then bif t65 then true else decide (4 < (o_5.2.2.2.1.getD o_5.2.2.2.2.2.2.2.2.2.2.2.2.1.toNat ap).Kind)else false)=true then
 some (.inl 1)
 else
 gu (o_5.1,o_5.2.1,addI .i64 o_5.2.2.1 1,o_5.2.2.2.1,o_5.2.2.2.2.1)
 else none
 else none
 else none
 else
 some (.inr ())
  partial_fixpoint
theorem D1 :LC 88 0 [0] e88_0 gu:= .rc gu.partial_correctness (.k E3 (.k E4 .n)) (.k Dl .n) fun _ _=>by kernel_rfl
def iB(s:az):Option (Int):=
 if decide (32 < (s.Types.length:Int))=true then
 some 3
 else
 gu (s.Types,(s.Types.length:Int),0,s.Types,[]) >>=fun o=>
 match o with
 | .inl o_1=>
 some o_1
 | .inr o_2=>
 some 0
theorem e88_k :KC e88:= .m (by kernel_rfl)
theorem qF :FC e88 iB:= .fn e88_k .n (.k D1 .n) fun _=>by kernel_rfl
def lw(x_:az×Int):Option (Int):=
 match x_ with
 | (s,t)=>
 iB s >>=fun r=>
 if(!(decide (r=0)))=true then
 some r
 else
 if(bif decide (t < 0)then true else decide ((s.Types.length:Int)<=t))=true then
 some 4
 else
 some 0
theorem e61_k :KC e61:= .m (by kernel_rfl)
theorem Ej :FC e61 lw:= .fn e61_k (.k qF .n) .n fun _=>by kernel_rfl
def oH(v:ab):Option (ab):=
 if decide (v.Kind=1)=true then
 some (⟨v.Kind,v.Bool_,0,[],0,[],[],[]⟩:ab)
 else
 if decide (v.Kind=2)=true then
 some (⟨v.Kind,false,v.Int_,[],0,[],[],[]⟩:ab)
 else
 if decide (v.Kind=3)=true then
 some (⟨v.Kind,false,0,v.Str,0,[],[],[]⟩:ab)
 else
 if decide (v.Kind=4)=true then
 some (⟨v.Kind,false,0,[],v.ID,[],[],[]⟩:ab)
 else
 if decide (v.Kind=5)=true then
 some (⟨v.Kind,false,0,[],0,[],v.Items,v.Rest⟩:ab)
 else
 if decide (v.Kind=6)=true then
 some (⟨v.Kind,false,0,[],v.ID,[],v.Items,v.Rest⟩:ab)
 else
 if decide (v.Kind=8)=true then
 some (⟨v.Kind,false,0,[],0,v.Keys,v.Items,[]⟩:ab)
 else
 some (decide (v.Kind=7)) >>=fun t57=>
 if t57=true then
 if t57=true then
 some (⟨v.Kind,false,0,[],0,[],v.Items,[]⟩:ab)
 else
 some (⟨v.Kind,false,0,[],0,[],[],[]⟩:ab)
 else
 if decide (v.Kind=9)=true then
 some (⟨v.Kind,false,0,[],0,[],v.Items,[]⟩:ab)
 else
 some (⟨v.Kind,false,0,[],0,[],[],[]⟩:ab)
theorem ML :KC e171:= .m (by kernel_rfl)
theorem FK :FC e171 oH:= .fn ML .n .n fun _=>by kernel_rfl
def oc(v:ab):Option (Bool):=
 oH (ab.eta v) >>=fun r=>
 some (bif bif bif bif bif bif eqB v.Bool_ r.Bool_ then decide (v.Int_=r.Int_)else false then decide (v.Str=r.Str)else false then decide (v.ID=r.ID)else false then decide ((v.Keys.length:Int)=(r.Keys.length:Int))else false then decide ((v.Items.length:Int)=(r.Items.length:Int))else false then decide ((v.Rest.length:Int)=(r.Rest.length:Int))else false)
theorem MM :KC e139:= .m (by kernel_rfl)
theorem ET :FC e139 oc:= .fn MM (.k FK .n) .n fun _=>by kernel_rfl
def qt(x_:aK×Int):Option (Bool×Int):=
 match x_ with
 | (x0,b)=>
 some (decide (x0.ID=b),b)
theorem MN :KC e100:= .m (by kernel_rfl)
theorem D2 :FC e100 qt:= .fn MN .n .n fun _=>by kernel_rfl
def dT(x_:List aK×Int×Int×Int):Option ((Int×Int) ⊕ (Int)):=
 match x_ with
 | (s_1,t7_1,t8,b_3)=>
 if decide (t8 < t7_1)=true then
 if inR t8 s_1.length=true then
 qt (s_1.getD t8.toNat aP,b_3) >>=fun r=>
 if r.1=true then
 some (.inl (t8,r.2))
 else
 dT (s_1,t7_1,addI .i64 t8 1,r.2)
 else none
 else
 some (.inr b_3)
  partial_fixpoint
theorem BD :LC 99 1 [0] e99_0 dT:= .rc dT.partial_correctness (.k D2 .n) .n fun _ _=>by kernel_rfl
def pW(x_:List aK×Int):Option (Int×Int):=
 match x_ with
 | (s,b)=>
 dT (s,(s.length:Int),0,b) >>=fun o=>
 match o with
 | .inl o_1=>
 some (o_1.1,o_1.2)
 | .inr o_2=>
 some ((-1),o_2)
theorem e99_k :KC e99:= .m (by kernel_rfl)
theorem BH :FC e99 pW:= .fn e99_k .n (.k BD .n) fun _=>by kernel_rfl
def jz(x_:ae×Int):Option (Int×Bool):=
 match x_ with
 | (t,id)=>
 pW (t.Symbols,id) >>=fun r=>
 some (maxI r.1 0,decide (0<=r.1))
theorem e64_k :KC e64:= .m (by kernel_rfl)
theorem qu :FC e64 jz:= .fn e64_k (.k BH .n) .n fun _=>by kernel_rfl
def lU(id:Int):Option (Bool):=
 some (bif decide (1<=id)then decide (id<=1000)else false)
theorem MO :KC e140:= .m (by kernel_rfl)
theorem ve :FC e140 lU:= .fn MO .n .n fun _=>by kernel_rfl
def qv(x_:aj×Int):Option (Bool×Int):=
 match x_ with
 | (m,b)=>
 some (decide (m.ID=b),b)
theorem MP :KC e144:= .m (by kernel_rfl)
theorem D3 :FC e144 qv:= .fn MP .n .n fun _=>by kernel_rfl
def eM(x_:List aj×Int×Int×Int):Option ((Int×Int) ⊕ (Int)):=
 match x_ with
 | (s_1,t7_1,t8,b_3)=>
 if decide (t8 < t7_1)=true then
 if inR t8 s_1.length=true then
 some (s_1.getD t8.toNat ag) >>=fun x0=>
 qv ((⟨x0.ID,x0.Name,x0.Type_,x0.Critical,x0.HasDefault,ab.eta x0.Default⟩:aj),b_3) >>=fun r=>
 if r.1=true then
 some (.inl (t8,r.2))
 else
 eM (s_1,t7_1,addI .i64 t8 1,r.2)
 else none
 else
 some (.inr b_3)
  partial_fixpoint
theorem BE :LC 143 1 [0] AC eM:= .rc eM.partial_correctness (.k D3 .n) .n fun _ _=>by kernel_rfl
def pX(x_:List aj×Int):Option (Int×Int):=
 match x_ with
 | (s,b)=>
 eM (s,(s.length:Int),0,b) >>=fun o=>
 match o with
 | .inl o_1=>
 some (o_1.1,o_1.2)
 | .inr o_2=>
 some ((-1),o_2)
theorem MQ :KC e143:= .m (by kernel_rfl)
theorem BI :FC e143 pX:= .fn MQ .n (.k BE .n) fun _=>by kernel_rfl
def bG(x_:ae×Int):Option (Int×Bool):=
 match x_ with
 | (t,id)=>
 pX (t.Members,id) >>=fun r=>
 some (maxI r.1 0,decide (0<=r.1))
theorem MR :KC e101:= .m (by kernel_rfl)
theorem fl :FC e101 bG:= .fn MR (.k BI .n) .n fun _=>by kernel_rfl
def cX(x_:Bool×List aG×Int×Int×List ae×ab×Int×List UInt8×Int×Int×Int×List aK×List aj×Int×Int×Bool):Option ((Bool) ⊕ (Bool×List ae×Int×Bool×Int×List UInt8×Int×List ab×List ab×List aG×Int×List UInt8×Int×Int×Int×List aK×List aj×Int×Int×Bool)):=
 match x_ with
 | (plain_3,t111,t112_1,t113,b_31,b_32,b_33,b_34,b_35,b_36,b_37,b_38,b_39,b_40,b_41,b_42)=>
 if decide (t113 < t112_1)=true then
 if inR t113 t111.length=true then
 some (t111.getD t113.toNat aC) >>=fun x0_4=>
 bG ((⟨b_33,b_34,b_35,b_36,b_37,b_38,b_39,b_40,b_41,b_42⟩:ae),x0_4.ID) >>=fun r_14=>
 (if(!r_14.2)=true then lU x0_4.ID else some false) >>=fun r_17=>
 some (bif r_14.2 then true else(!r_17)) >>=fun t131=>
 some (decide (0 < t113)) >>=fun t134=>
 some (subI .i64 t113 1) >>=fun t141=>
 if(inR t141 b_32.Rest.length || (!((!t131) && t134)))=true then
 if(bif t131 then true else bif t134 then decide (x0_4.ID<=(b_32.Rest.getD t141.toNat aC).ID)else false)=true then
 some (.inl false)
 else
 cX (plain_3,t111,t112_1,addI .i64 t113 1,b_31,ab.eta b_32,b_33,b_34,b_35,b_36,b_37,b_38,b_39,b_40,b_41,b_42)
 else none
 else none
 else
 some (.inr (plain_3,b_31,b_32.Kind,b_32.Bool_,b_32.Int_,b_32.Str,b_32.ID,b_32.Keys,b_32.Items,b_32.Rest,b_33,b_34,b_35,b_36,b_37,b_38,b_39,b_40,b_41,b_42))
  partial_fixpoint
theorem Ew :LC 97 0 [0] e97_0 cX:= .rc cX.partial_correctness (.k fl (.k ve .n)) .n fun _ _=>by kernel_rfl
def oU(x0:Int):Option (Bool):=
 some (!(decide (x0=x0)))
theorem MS :KC e195:= .m (by kernel_rfl)
theorem Ge :FC e195 oU:= .fn MS .n .n fun _=>by kernel_rfl
def ow(x_:Int×Int):Option (Int):=
 match x_ with
 | (x0,y)=>
 oU x0 >>=fun r=>
 oU y >>=fun r_1=>
 if r=true then
 if r_1=true then
 some 0
 else
 some (-1)
 else
 if r_1=true then
 some 1
 else
 if decide (x0 < y)=true then
 some (-1)
 else
 if decide (y < x0)=true then
 some 1
 else
 some 0
theorem MU :KC e174:= .m (by kernel_rfl)
theorem E5 :FC e174 ow:= .fn MU (.k Ge .n) .n fun _=>by kernel_rfl
def ox(x0:Int):Option (Bool):=
 some (!(decide (x0=x0)))
theorem MV :KC e196:= .m (by kernel_rfl)
theorem E6 :FC e196 ox:= .fn MV .n .n fun _=>by kernel_rfl
def lC(x_:Int×Int):Option (Int):=
 match x_ with
 | (x0,y)=>
 ox x0 >>=fun r=>
 ox y >>=fun r_1=>
 if r=true then
 if r_1=true then
 some 0
 else
 some (-1)
 else
 if r_1=true then
 some 1
 else
 if decide (x0 < y)=true then
 some (-1)
 else
 if decide (y < x0)=true then
 some 1
 else
 some 0
theorem MW :KC e177:= .m (by kernel_rfl)
theorem Ex :FC e177 lC:= .fn MW (.k E6 .n) .n fun _=>by kernel_rfl
def oy(x0:List UInt8):Option (Bool):=
 some (!(decide (x0=x0)))
theorem MX :KC e197:= .m (by kernel_rfl)
theorem E7 :FC e197 oy:= .fn MX .n .n fun _=>by kernel_rfl
def nT(x_:List UInt8×List UInt8):Option (Int):=
 match x_ with
 | (x0,y)=>
 oy x0 >>=fun r=>
 oy y >>=fun r_1=>
 if r=true then
 if r_1=true then
 some 0
 else
 some (-1)
 else
 if r_1=true then
 some 1
 else
 if Op.bytesLess x0 y=true then
 some (-1)
 else
 if(!(Op.bytesLess x0 y || decide (x0=y)))=true then
 some 1
 else
 some 0
theorem MY :KC e178:= .m (by kernel_rfl)
theorem Ey :FC e178 nT:= .fn MY (.k E7 .n) .n fun _=>by kernel_rfl
def gL(x_:Int×List Int×Int×Int):Option ((Int) ⊕ (Int)):=
 match x_ with
 | (zero_1,t6,t7_1,t8)=>
 if decide (t8 < t7_1)=true then
 if inR t8 t6.length=true then
 some (t6.getD t8.toNat 0) >>=fun x0=>
 if(!(decide (x0=zero_1)))=true then
 some (.inl x0)
 else
 gL (zero_1,t6,t7_1,addI .i64 t8 1)
 else none
 else
 some (.inr zero_1)
  partial_fixpoint
theorem Gf :LC 176 0 [0] AD gL:= .rc gL.partial_correctness .n .n fun _ _=>by kernel_rfl
def pP(vals:List Int):Option (Int):=
 gL (0,vals,(vals.length:Int),0) >>=fun o=>
 match o with
 | .inl o_1=>
 some o_1
 | .inr o_2=>
 some o_2
theorem MZ :KC e176:= .m (by kernel_rfl)
theorem Ko :FC e176 pP:= .fn MZ .n (.k Gf .n) fun _=>by kernel_rfl
def jA(n:Int):Option (Int):=
 some (xorI .u64 (shlI .u64 (wrp .u64 n) 1) (wrp .u64 (shrI .i64 n 63)))
theorem M0 :KC e175:= .m (by kernel_rfl)
theorem uk :FC e175 jA:= .fn M0 .n .n fun _=>by kernel_rfl
def fq(x_:ab×ab):Option (Int):=
 match x_ with
 | (a,b)=>
 if(!(decide (a.Kind=b.Kind)))=true then
 some 0
 else
 if decide (a.Kind=1)=true then
 if eqB a.Bool_ b.Bool_=true then
 some 0
 else
 if b.Bool_=true then
 some (-1)
 else
 some 1
 else
 if decide (a.Kind=2)=true then
 jA a.Int_ >>=fun r=>
 jA b.Int_ >>=fun r_1=>
 ow (r,r_1) >>=fun r_2=>
 some r_2
 else
 if decide (a.Kind=3)=true then
 lC ((a.Str.length:Int),(b.Str.length:Int)) >>=fun r_3=>
 nT (a.Str,b.Str) >>=fun r_4=>
 pP [r_3,r_4] >>=fun r_5=>
 some r_5
 else
 if decide (a.Kind=4)=true then
 lC (a.ID,b.ID) >>=fun r_6=>
 some r_6
 else
 some 0
theorem M1 :KC e142:= .m (by kernel_rfl)
theorem ul :FC e142 fq:= .fn M1 (.k uk (.k E5 (.k Ex (.k Ey (.k Ko .n))))) .n fun _=>by kernel_rfl
def cH(x_:Bool×Int×List ae×ab×Int×List UInt8×Int×Int×Int×List aK×List aj×Int×Int×Bool):Option ((Bool) ⊕ (Bool×List ae×ab×Int×List UInt8×Int×Int×Int×List aK×List aj×Int×Int×Bool)):=
 match x_ with
 | (plain_5,i,b_52,b_53,b_54,b_55,b_56,b_57,b_58,b_59,b_60,b_61,b_62,b_63)=>
 if decide (i < (b_53.Keys.length:Int))=true then
 some (subI .i64 i 1) >>=fun t291=>
 if inR t291 b_53.Keys.length=true then
 if inR i b_53.Keys.length=true then
 fq (ab.eta (b_53.Keys.getD t291.toNat af),ab.eta (b_53.Keys.getD i.toNat af)) >>=fun r_19=>
 if decide (0<=r_19)=true then
 some (.inl false)
 else
 cH (plain_5,addI .i64 i 1,b_52,ab.eta b_53,b_54,b_55,b_56,b_57,b_58,b_59,b_60,b_61,b_62,b_63)
 else none
 else none
 else
 some (.inr (plain_5,b_52,ab.eta b_53,b_54,b_55,b_56,b_57,b_58,b_59,b_60,b_61,b_62,b_63))
  partial_fixpoint
theorem Ez :LC 97 0 [2] e97_2 cH:= .rc cH.partial_correctness (.k ul .n) .n fun _ _=>by kernel_rfl
mutual
def m9(x_:List ab×List ae×Int×Bool):Option (Bool×List ae×Int×Bool):=
 match x_ with
 | (s,b,b_1,b_2)=>
 pY (s,b,b_1,b_2) >>=fun r=>
 some (decide (0<=r.1),r.2.1,r.2.2.1,r.2.2.2)
  partial_fixpoint
def pY(x_:List ab×List ae×Int×Bool):Option (Int×List ae×Int×Bool):=
 match x_ with
 | (s,b,b_1,b_2)=>
 fU (s,(s.length:Int),0,b,b_1,b_2) >>=fun o=>
 match o with
 | .inl o_1=>
 some (o_1.1,o_1.2.1,o_1.2.2.1,o_1.2.2.2)
 | .inr o_2=>
 some ((-1),o_2.1,o_2.2.1,o_2.2.2)
  partial_fixpoint
def gH(x_:az×Int×List ab×Bool):Option (Bool):=
 match x_ with
 | (s,t,l,plain)=>
 m9 (l,s.Types,t,plain) >>=fun r=>
 some (!r.1)
  partial_fixpoint
def qX(x_:ab×List ae×Int×Bool):Option (Bool×List ae×Int×Bool):=
 match x_ with
 | (v,b,b_1,b_2)=>
 cA ((⟨b⟩:az),b_1,ab.eta v,b_2) >>=fun r=>
 some ((!r),b,b_1,b_2)
  partial_fixpoint
def cA(x_:az×Int×ab×Bool):Option (Bool):=
 match x_ with
 | (s,t,v,plain)=>
 if(bif decide (t < 0)then true else decide ((s.Types.length:Int)<=t))=true then
 some false
 else
 if inR t s.Types.length=true then
 some (s.Types.getD t.toNat ap) >>=fun x0=>
 some (!(decide (v.Kind=x0.Kind))) >>=fun t39=>
 (if(!t39)=true then oc (ab.eta v)else some false) >>=fun r=>
 if(bif t39 then true else(!r))=true then
 some false
 else
 if decide (x0.Kind=2)=true then
 some (bif decide (x0.Low<=v.Int_)then decide (v.Int_<=x0.High)else false)
 else
 if decide (x0.Kind=3)=true then
 some (decide ((v.Str.length:Int)<=x0.Max))
 else
 if decide (x0.Kind=4)=true then
 jz (x0,v.ID) >>=fun r_1=>
 some (bif x0.Open then(!plain)else false) >>=fun t85=>
 (if((!r_1.2) && t85)=true then lU v.ID else some false) >>=fun r_4=>
 some (bif r_1.2 then true else bif t85 then r_4 else false)
 else
 if decide (x0.Kind=5)=true then
 if(bif (!(decide ((v.Items.length:Int)=(x0.Members.length:Int))))then true else bif plain then decide (0 < (v.Rest.length:Int))else false)=true then
 some false
 else
 cX (plain,v.Rest,(v.Rest.length:Int),0,s.Types,ab.eta v,x0.Kind,x0.Name,x0.Low,x0.High,x0.Max,x0.Symbols,x0.Members,x0.Key,x0.Elem,x0.Open) >>=fun o=>
 match o with
 | .inl o_1=>
 some o_1
 | .inr o_2=>
 dK (o_2.1,o_2.2.2.2.2.2.2.2.2.2.2.2.2.2.2.2.2.1,(o_2.2.2.2.2.2.2.2.2.2.2.2.2.2.2.2.2.1.length:Int),0,o_2.2.1,o_2.2.2.1,o_2.2.2.2.1,o_2.2.2.2.2.1,o_2.2.2.2.2.2.1,o_2.2.2.2.2.2.2.1,o_2.2.2.2.2.2.2.2.1,o_2.2.2.2.2.2.2.2.2.1,o_2.2.2.2.2.2.2.2.2.2.1) >>=fun o_3=>
 match o_3 with
 | .inl o_4=>
 some o_4
 | .inr o_5=>
 some true
 else
 if decide (x0.Kind=6)=true then
 bG (x0,v.ID) >>=fun r_5=>
 if r_5.2=true then
 some (bif decide ((v.Items.length:Int)=1)then decide ((v.Rest.length:Int)=0)else false) >>=fun t188=>
 if(inR r_5.1 x0.Members.length || (!t188))=true then
 if(inR 0 v.Items.length || (!t188))=true then
 (if t188=true then cA ((⟨s.Types⟩:az),(x0.Members.getD r_5.1.toNat ag).Type_,ab.eta (v.Items.getD (0:Int).toNat af),plain)else some false) >>=fun r_8=>
 some (bif t188 then r_8 else false)
 else none
 else none
 else
 some (bif x0.Open then(!plain)else false) >>=fun t209=>
 (if t209=true then lU v.ID else some false) >>=fun r_9=>
 some (bif bif bif t209 then r_9 else false then decide ((v.Items.length:Int)=0)else false then decide ((v.Rest.length:Int)=1)else false) >>=fun t226=>
 if(inR 0 v.Rest.length || (!t226))=true then
 some (bif t226 then decide ((v.Rest.getD (0:Int).toNat aC).ID=v.ID)else false)
 else none
 else
 if decide (x0.Kind=7)=true then
 some (decide ((v.Items.length:Int)<=x0.Max)) >>=fun t244=>
 (if t244=true then gH ((⟨s.Types⟩:az),x0.Elem,v.Items,plain)else some false) >>=fun r_10=>
 some (bif t244 then r_10 else false)
 else
 if decide (x0.Kind=8)=true then
 some (bif decide (x0.Max < (v.Keys.length:Int))then true else(!(decide ((v.Items.length:Int)=(v.Keys.length:Int))))) >>=fun t270=>
 (if(!t270)=true then gH ((⟨s.Types⟩:az),x0.Key,v.Keys,plain)else some false) >>=fun r_11=>
 if(bif t270 then true else(!r_11))=true then
 some false
 else
 cH (plain,1,s.Types,ab.eta v,x0.Kind,x0.Name,x0.Low,x0.High,x0.Max,x0.Symbols,x0.Members,x0.Key,x0.Elem,x0.Open) >>=fun o_6=>
 match o_6 with
 | .inl o_7=>
 some o_7
 | .inr o_8=>
 gH ((⟨o_8.2.1⟩:az),o_8.2.2.2.2.2.2.2.2.2.2.2.1,o_8.2.2.1.Items,o_8.1) >>=fun r_12=>
 some r_12
 else
 if decide (x0.Kind=9)=true then
 some (decide ((v.Items.length:Int)<=1)) >>=fun t313=>
 (if t313=true then gH ((⟨s.Types⟩:az),x0.Elem,v.Items,plain)else some false) >>=fun r_13=>
 some (bif t313 then r_13 else false)
 else
 some true
 else none
  partial_fixpoint
def fU(x_:List ab×Int×Int×List ae×Int×Bool):Option ((Int×List ae×Int×Bool) ⊕ (List ae×Int×Bool)):=
 match x_ with
 | (s_1,t7_1,t8,b_9,b_10,b_11)=>
 if decide (t8 < t7_1)=true then
 if inR t8 s_1.length=true then
 qX (ab.eta (s_1.getD t8.toNat af),b_9,b_10,b_11) >>=fun r=>
 if r.1=true then
 some (.inl (t8,r.2.1,r.2.2.1,r.2.2.2))
 else
 fU (s_1,t7_1,addI .i64 t8 1,r.2.1,r.2.2.1,r.2.2.2)
 else none
 else
 some (.inr (b_9,b_10,b_11))
  partial_fixpoint
def dK(x_:Bool×List aj×Int×Int×List ae×Int×Bool×Int×List UInt8×Int×List ab×List ab×List aG):Option ((Bool) ⊕ (Unit)):=
 match x_ with
 | (plain_4,t150,t151_1,t152,b_43,b_44,b_45,b_46,b_47,b_48,b_49,b_50,b_51)=>
 if decide (t152 < t151_1)=true then
 if inR t152 t150.length=true then
 if inR t152 b_50.length=true then
 cA ((⟨b_43⟩:az),(t150.getD t152.toNat ag).Type_,ab.eta (b_50.getD t152.toNat af),plain_4) >>=fun r_18=>
 if(!r_18)=true then
 some (.inl false)
 else
 dK (plain_4,t150,t151_1,addI .i64 t152 1,b_43,b_44,b_45,b_46,b_47,b_48,b_49,b_50,b_51)
 else none
 else none
 else
 some (.inr ())
  partial_fixpoint
end
theorem AZ :KC e172:= .m (by kernel_rfl)
theorem A0 :KC e194:= .m (by kernel_rfl)
theorem A3 :KC e173:= .m (by kernel_rfl)
theorem e97_k :KC e97:= .m (by kernel_rfl)
theorem A4 :KC e141:= .m (by kernel_rfl)
theorem BF :(∀h r,m9 h=some r->FD e172 h r)/\(∀h r,pY h=some r->FD e194 h r)/\(∀h r,fU h=some r->LD 194 3 [0] mL h r)/\(∀h r,qX h=some r->FD e173 h r)/\(∀h r,cA h=some r->FD e97 h r)/\(∀h r,gH h=some r->FD e141 h r)/\(∀h r,dK h=some r->LD 97 0 [1] e97_1 h r):=m9.mutual_partial_correctness (FD e172) (FD e194) (LD 194 3 [0] mL) (FD e173) (FD e97) (FD e141) (LD 97 0 [1] e97_1)
 (fun _ h1 _ _ h=>FA e172 AZ (.k (FH e194 A0 h1) .n) .n (.trans (by kernel_rfl) h))
 (fun _ h2 _ _ h=>FA e194 A0 .n (.k (LH mL h2) .n) (.trans (by kernel_rfl) h))
 (fun _ _ h2 h3 _ _ h=>LA mL h2 (.k (FH e173 A3 h3) .n) .n (.trans (by kernel_rfl) h))
 (fun _ h4 _ _ h=>FA e173 A3 (.k (FH e97 e97_k h4) .n) .n (.trans (by kernel_rfl) h))
 (fun _ _ _ h4 h5 h6 _ _ h=>FA e97 e97_k (.k ET (.k qu (.k ve (.k fl (.k (FH e97 e97_k h4) (.k (FH e141 A4 h5) .n)))))) (.k Ew (.k (LH e97_1 h6) (.k Ez .n))) (.trans (by kernel_rfl) h))
 (fun _ h0 _ _ h=>FA e141 A4 (.k (FH e172 AZ h0) .n) .n (.trans (by kernel_rfl) h))
 (fun _ _ h4 h6 _ _ h=>LA e97_1 h6 (.k (FH e97 e97_k h4) .n) .n (.trans (by kernel_rfl) h))
theorem vf :FC e97 cA:= .of e97_k BF.2.2.2.2.1
def rq(x_:az×Int×ab):Option (Bool):=
 match x_ with
 | (s,t,v)=>
 cA (s,t,ab.eta v,true) >>=fun r=>
 some r
theorem e62_k :KC e62:= .m (by kernel_rfl)
theorem E9 :FC e62 rq:= .fn e62_k (.k vf .n) .n fun _=>by kernel_rfl
def nU(x_:az×Int×ab×az×Int):Option (Int):=
 match x_ with
 | (w,wt,v,r,rt)=>
 lw (w,wt) >>=fun r_1=>
 if(!(decide (r_1=0)))=true then
 some r_1
 else
 lw (r,rt) >>=fun r_2=>
 if(!(decide (r_2=0)))=true then
 some r_2
 else
 rq (w,wt,ab.eta v) >>=fun r_3=>
 if(!r_3)=true then
 some 1
 else
 some 0
theorem e37_k :KC e37:= .m (by kernel_rfl)
theorem EA :FC e37 nU:= .fn e37_k (.k Ej (.k E9 .n)) .n fun _=>by kernel_rfl
def ib(x_:List ae×List ae×List Int×List Int):Option (ab×Bool×List ae×List ae×List Int×List Int):=
 match x_ with
 | (b,b_1,b_2,b_3)=>
 i8 8 b_3 >>=fun r=>
 if(decide (r.1.length=b_3.length) && true)=true then
 some ((⟨0,false,0,[],0,[],[],[]⟩:ab),false,b,b_1,r.1,r.2)
 else none
theorem e63_k :KC e63:= .m (by kernel_rfl)
theorem tM :FC e63 ib:= .fn e63_k (.k kR .n) .n fun _=>by kernel_rfl
def jp(x_:Int×List ae×List ae×List Int×List Int):Option (ab×Bool×List ae×List ae×List Int×List Int):=
 match x_ with
 | (id,b,b_1,b_2,b_3)=>
 i8 8 b_3 >>=fun r=>
 if(decide (r.1.length=b_3.length) && true)=true then
 some [id] >>=fun t13=>
 if room 8 (r.2++t13).length=true then
 some ((⟨0,false,0,[],0,[],[],[]⟩:ab),false,b,b_1,r.1,r.2++t13)
 else none
 else none
theorem M2 :KC e102:= .m (by kernel_rfl)
theorem tC :FC e102 jp:= .fn M2 (.k kR .n) .n fun _=>by kernel_rfl
mutual
def cz(v:ab):Option (ab):=
 bk 120 v.Keys >>=fun r=>
 bk 120 v.Items >>=fun r_1=>
 bk 24 v.Rest >>=fun r_2=>
 ic ((r.length:Int),0,v.Kind,v.Bool_,v.Int_,v.Str,v.ID,0,false,0,[],0,r,r_1,r_2) >>=fun o=>
 ie ((o.2.2.2.2.2.2.2.2.2.2.2.1.length:Int),0,o.1,o.2.1,o.2.2.1,o.2.2.2.1,o.2.2.2.2.1,o.2.2.2.2.2.1,o.2.2.2.2.2.2.1,o.2.2.2.2.2.2.2.1,o.2.2.2.2.2.2.2.2.1,o.2.2.2.2.2.2.2.2.2.1,o.2.2.2.2.2.2.2.2.2.2.2.1,o.2.2.2.2.2.2.2.2.2.2.1,o.2.2.2.2.2.2.2.2.2.2.2.2) >>=fun o_1=>
 some (⟨o_1.1,o_1.2.1,o_1.2.2.1,o_1.2.2.2.1,o_1.2.2.2.2.1,o_1.2.2.2.2.2.2.2.2.2.2.1,o_1.2.2.2.2.2.2.2.2.2.2.2.1,o_1.2.2.2.2.2.2.2.2.2.2.2.2⟩:ab)
  partial_fixpoint
def ic(x_:Int×Int×Int×Bool×Int×List UInt8×Int×Int×Bool×Int×List UInt8×Int×List ab×List ab×List aG):Option (Int×Bool×Int×List UInt8×Int×Int×Bool×Int×List UInt8×Int×List ab×List ab×List aG):=
 match x_ with
 | (t21_1,t22,b_26,b_27,b_28,b_29,b_30,b_31,b_32,b_33,b_34,b_35,b_36,b_37,b_38)=>
 if decide (t22 < t21_1)=true then
 if inR t22 b_36.length=true then
 if decide (t22.toNat < b_36.length)=true then
 cz (ab.eta (b_36.getD t22.toNat af)) >>=fun r_3=>
 if inR t22 b_36.length=true then
 if decide (t22.toNat < b_36.length)=true then
 ic (t21_1,addI .i64 t22 1,b_26,b_27,b_28,b_29,b_30,b_31,b_32,b_33,b_34,b_35,b_36.set t22.toNat (ab.eta r_3),b_37,b_38)
 else none
 else none
 else none
 else none
 else
 some (b_26,b_27,b_28,b_29,b_30,b_31,b_32,b_33,b_34,b_35,b_36,b_37,b_38)
  partial_fixpoint
def ie(x_:Int×Int×Int×Bool×Int×List UInt8×Int×Int×Bool×Int×List UInt8×Int×List ab×List ab×List aG):Option (Int×Bool×Int×List UInt8×Int×Int×Bool×Int×List UInt8×Int×List ab×List ab×List aG):=
 match x_ with
 | (t36_1,t37,b_39,b_40,b_41,b_42,b_43,b_44,b_45,b_46,b_47,b_48,b_49,b_50,b_51)=>
 if decide (t37 < t36_1)=true then
 if inR t37 b_49.length=true then
 if decide (t37.toNat < b_49.length)=true then
 cz (ab.eta (b_49.getD t37.toNat af)) >>=fun r_4=>
 if inR t37 b_49.length=true then
 if decide (t37.toNat < b_49.length)=true then
 ie (t36_1,addI .i64 t37 1,b_39,b_40,b_41,b_42,b_43,b_44,b_45,b_46,b_47,b_48,b_49.set t37.toNat (ab.eta r_4),b_50,b_51)
 else none
 else none
 else none
 else none
 else
 some (b_39,b_40,b_41,b_42,b_43,b_44,b_45,b_46,b_47,b_48,b_50,b_49,b_51)
  partial_fixpoint
end
theorem pQ :KC e103:= .m (by kernel_rfl)
theorem DK :(∀h r,cz h=some r->FD e103 h r)/\(∀h r,ie h=some r->LD 103 0 [1] mN h r)/\(∀h r,ic h=some r->LD 103 0 [0] mM h r):=cz.mutual_partial_correctness (FD e103) (LD 103 0 [1] mN) (LD 103 0 [0] mM)
 (fun _ _ h1 h2 _ _ h=>FA e103 pQ (.k nw (.k nA .n)) (.k (LH mM h2) (.k (LH mN h1) .n)) (.trans (by kernel_rfl) h))
 (fun _ _ h0 h1 _ _ h=>LA mN h1 (.k (FH e103 pQ h0) .n) .n (.trans (by kernel_rfl) h))
 (fun _ _ h0 h2 _ _ h=>LA mM h2 (.k (FH e103 pQ h0) .n) .n (.trans (by kernel_rfl) h))
theorem Ek :FC e103 cz:= .of pQ DK.1
mutual
def jh(x_:List ab×List ab):Option (Bool):=
 match x_ with
 | (s1,s2)=>
 if(!(decide ((s1.length:Int)=(s2.length:Int))))=true then
 some false
 else
 jf (s2,s1,(s1.length:Int),0) >>=fun o=>
 match o with
 | .inl o_1=>
 some o_1
 | .inr o_2=>
 some true
  partial_fixpoint
def eo(x_:ab×ab):Option (Bool):=
 match x_ with
 | (a,b)=>
 some (bif bif bif bif decide (a.Kind=b.Kind)then eqB a.Bool_ b.Bool_ else false then decide (a.Int_=b.Int_)else false then decide (a.Str=b.Str)else false then decide (a.ID=b.ID)else false) >>=fun t37=>
 (if t37=true then fV (a.Rest,b.Rest)else some false) >>=fun r=>
 some (bif t37 then r else false) >>=fun t44=>
 (if t44=true then jh (a.Keys,b.Keys)else some false) >>=fun r_1=>
 some (bif t44 then r_1 else false) >>=fun t51=>
 (if t51=true then jh (a.Items,b.Items)else some false) >>=fun r_2=>
 some (bif t51 then r_2 else false)
  partial_fixpoint
def jf(x_:List ab×List ab×Int×Int):Option ((Bool) ⊕ (Unit)):=
 match x_ with
 | (s2_1,t15,t16_1,t17)=>
 if decide (t17 < t16_1)=true then
 if inR t17 t15.length=true then
 if inR t17 s2_1.length=true then
 eo (ab.eta (t15.getD t17.toNat af),ab.eta (s2_1.getD t17.toNat af)) >>=fun r=>
 if(!r)=true then
 some (.inl false)
 else
 jf (s2_1,t15,t16_1,addI .i64 t17 1)
 else none
 else none
 else
 some (.inr ())
  partial_fixpoint
end
theorem zH :KC e82_b:= .m (by kernel_rfl)
theorem e45_k :KC e45:= .m (by kernel_rfl)
theorem BC :(∀h r,jh h=some r->FD e82_b h r)/\(∀h r,jf h=some r->LD 82 0 [0] mw h r)/\(∀h r,eo h=some r->FD e45 h r):=jh.mutual_partial_correctness (FD e82_b) (LD 82 0 [0] mw) (FD e45)
 (fun _ h1 _ _ h=>FA e82_b zH .n (.k (LH mw h1) .n) (.trans (by kernel_rfl) h))
 (fun _ _ h1 h2 _ _ h=>LA mw h1 (.k (FH e45 e45_k h2) .n) .n (.trans (by kernel_rfl) h))
 (fun _ h0 _ _ h=>FA e45 e45_k (.k pZ (.k (FH e82_b zH h0) .n)) .n (.trans (by kernel_rfl) h))
theorem qL :FC e45 eo:= .of e45_k BC.2.2
def ig(x_:aj×ab):Option (Bool):=
 match x_ with
 | (m,item)=>
 (if m.HasDefault=true then eo (ab.eta item,ab.eta m.Default)else some false) >>=fun r=>
 some (bif m.HasDefault then r else false)
theorem M3 :KC e105:= .m (by kernel_rfl)
theorem qf :FC e105 ig:= .fn M3 (.k qL .n) .n fun _=>by kernel_rfl
def qG(x_:az×Int):Option (Int):=
 match x_ with
 | (s,t)=>
 iB (⟨s.Types⟩:az) >>=fun r=>
 if(!(decide (r=0)))=true then
 some r
 else
 if(bif decide (t < 0)then true else decide ((s.Types.length:Int)<=t))=true then
 some 4
 else
 some 0
theorem M4 :KC e199:= .m (by kernel_rfl)
theorem El :FC e199 qG:= .fn M4 (.k qF .n) .n fun _=>by kernel_rfl
def oI(x_:az×Int×ab):Option (Bool):=
 match x_ with
 | (s,t,v)=>
 cA ((⟨s.Types⟩:az),t,ab.eta v,false) >>=fun r=>
 some r
theorem M5 :KC e200:= .m (by kernel_rfl)
theorem FL :FC e200 oI:= .fn M5 (.k vf .n) .n fun _=>by kernel_rfl
def nO(x_:az×Int×ab):Option (Int):=
 match x_ with
 | (s,t,v)=>
 qG ((⟨s.Types⟩:az),t) >>=fun r=>
 if(!(decide (r=0)))=true then
 some r
 else
 oI ((⟨s.Types⟩:az),t,ab.eta v) >>=fun r_1=>
 if(!r_1)=true then
 some 1
 else
 some 0
theorem M6 :KC e180:= .m (by kernel_rfl)
theorem Em :FC e180 nO:= .fn M6 (.k El (.k FL .n)) .n fun _=>by kernel_rfl
def iv(x_:Int×Int×List Int):Option (Int×Int×List Int):=
 match x_ with
 | (n_2,i_1,b_1)=>
 if decide (128<=n_2)=true then
 if inR i_1 10=true then
 if decide (i_1.toNat < b_1.length)=true then
 iv (shrI .u64 n_2 7,addI .i64 i_1 1,b_1.set i_1.toNat (orI .u8 (wrp .u8 n_2) 128))
 else none
 else none
 else
 some (n_2,i_1,b_1)
  partial_fixpoint
theorem EB :LC 148 0 [0] AE iv:= .rc iv.partial_correctness .n .n fun _ _=>by kernel_rfl
def fD(n:Int):Option (List UInt8):=
 iv (n,0,[0,0,0,0,0,0,0,0,0,0]) >>=fun o=>
 if inR o.2.1 10=true then
 if decide (o.2.1.toNat < o.2.2.length)=true then
 some (o.2.2.set o.2.1.toNat (wrp .u8 o.1)) >>=fun l_1=>
 some (addI .i64 o.2.1 1) >>=fun t21=>
 if slR 0 t21 10=true then
 if subR (0:Int).toNat t21.toNat l_1.length=true then
 some (strOf ((l_1.drop (0:Int).toNat).take t21.toNat))
 else none
 else none
 else none
 else none
theorem M7 :KC e148:= .m (by kernel_rfl)
theorem lH :FC e148 fD:= .fn M7 .n (.k EB .n) fun _=>by kernel_rfl
def gB(p:List UInt8):Option (List UInt8):=
 fD (wrp .u64 (p.length:Int)) >>=fun r=>
 if decide (r.length+p.length<=aV)=true then
 some (r++p)
 else none
theorem M8 :KC e198:= .m (by kernel_rfl)
theorem uF :FC e198 gB:= .fn M8 (.k lH .n) .n fun _=>by kernel_rfl
def kE(x_:List UInt8×List UInt8):Option (Int×List UInt8):=
 match x_ with
 | (s,b)=>
 some b >>=fun r=>
 if(decide (r.length=b.length) && true)=true then
 if room 1 (r.length+s.length)=true then
 some ((s.length:Int),catS r s)
 else none
 else none
theorem M9 :KC e204:= .m (by kernel_rfl)
theorem tu :FC e204 kE:= .fn M9 (.k qq .n) .n fun _=>by kernel_rfl
def jD(x_:Int×Bool×List UInt8):Option (List UInt8):=
 match x_ with
 | (id,critical,p)=>
 some (mulI .u64 2 (wrp .u64 id)) >>=fun t10=>
 if critical=true then
 fD (addI .u64 t10 1) >>=fun r=>
 gB p >>=fun r_1=>
 if decide (r.length+r_1.length<=aV)=true then
 some (r++r_1)
 else none
 else
 fD t10 >>=fun r_2=>
 gB p >>=fun r_3=>
 if decide (r_2.length+r_3.length<=aV)=true then
 some (r_2++r_3)
 else none
theorem Na :KC e179:= .m (by kernel_rfl)
theorem qH :FC e179 jD:= .fn Na (.k lH (.k uF .n)) .n fun _=>by kernel_rfl
def uG(x_:aj×ab):Option (Bool):=
 match x_ with
 | (m,v)=>
 (if m.HasDefault=true then eo (ab.eta m.Default,ab.eta v)else some false) >>=fun r=>
 some (bif m.HasDefault then r else false)
theorem Nb :KC e207:= .m (by kernel_rfl)
theorem En :FC e207 uG:= .fn Nb (.k qL .n) .n fun _=>by kernel_rfl
def nh(x_:List aG×Int×Int×List ae×Int×List bP):Option (List ae×Int×List bP):=
 match x_ with
 | (t57,t58_1,t59,b_16,b_17,b_18)=>
 if decide (t59 < t58_1)=true then
 if inR t59 t57.length=true then
 some (t57.getD t59.toNat aC) >>=fun x0_4=>
 jD (x0_4.ID,false,x0_4.Data) >>=fun r_8=>
 some [(⟨x0_4.ID,r_8⟩:bP)] >>=fun t72=>
 if room 24 (b_18++t72).length=true then
 nh (t57,t58_1,addI .i64 t59 1,b_16,b_17,b_18++t72)
 else none
 else none
 else
 some (b_16,b_17,b_18)
  partial_fixpoint
theorem BZ :LC 202 1 [1] AG nh:= .rc nh.partial_correctness (.k qH .n) .n fun _ _=>by kernel_rfl
def nj(x_:Int×Int×List ae×Int×List bP×List UInt8):Option (List ae×Int×List UInt8):=
 match x_ with
 | (t78_1,t79,b_19,b_20,b_21,b_22)=>
 if decide (t79 < t78_1)=true then
 if inR t79 b_21.length=true then
 if decide (t79.toNat < b_21.length)=true then
 kE ((b_21.getD t79.toNat n0).text,b_22) >>=fun r_9=>
 nj (t78_1,addI .i64 t79 1,b_19,b_20,b_21,r_9.2)
 else none
 else none
 else
 some (b_19,b_20,b_22)
  partial_fixpoint
theorem B0 :LC 202 1 [2] AH nj:= .rc nj.partial_correctness (.k tu .n) .n fun _ _=>by kernel_rfl
def p8(b:List UInt8):Option (List UInt8):=
 if eqI (b.length:Int) (b.length:Int)=true then
 some b
 else none
theorem Nc :KC e205:= .m (by kernel_rfl)
theorem tz :FC e205 p8:= .fn Nc .n .n fun _=>by kernel_rfl
def iw(x_:Int×Int×List Int):Option (Int×List Int):=
 match x_ with
 | (n_1,i_1,b_1)=>
 if decide (0 < n_1)=true then
 some (subI .i64 i_1 1) >>=fun t10=>
 if inR t10 8=true then
 if decide (t10.toNat < b_1.length)=true then
 iw (shrI .u64 n_1 8,t10,b_1.set t10.toNat (wrp .u8 n_1))
 else none
 else none
 else
 some (i_1,b_1)
  partial_fixpoint
theorem EC :LC 201 0 [0] AF iw:= .rc iw.partial_correctness .n .n fun _ _=>by kernel_rfl
def lV(n:Int):Option (List UInt8):=
 iw (n,8,[0,0,0,0,0,0,0,0]) >>=fun o=>
 if slR o.1 8 8=true then
 if subR o.1.toNat ((8:Int).toNat - o.1.toNat) o.2.length=true then
 some (strOf ((o.2.drop o.1.toNat).take ((8:Int).toNat - o.1.toNat)))
 else none
 else none
theorem Nf :KC e201:= .m (by kernel_rfl)
theorem FM :FC e201 lV:= .fn Nf .n (.k EC .n) fun _=>by kernel_rfl
mutual
def dn(x_:Int×ab×Int×List ae×Int):Option (List UInt8×List ae×Int):=
 match x_ with
 | (t,v,level,b,b_1)=>
 some (maxI b_1 level) >>=fun t19=>
 if inR t b.length=true then
 some (b.getD t.toNat ap) >>=fun x0=>
 if decide (x0.Kind=1)=true then
 if v.Bool_=true then
 some ([1],b,t19)
 else
 some ([],b,t19)
 else
 if decide (x0.Kind=2)=true then
 jA v.Int_ >>=fun r=>
 lV r >>=fun r_1=>
 some (r_1,b,t19)
 else
 if decide (x0.Kind=3)=true then
 some (v.Str,b,t19)
 else
 if decide (x0.Kind=4)=true then
 lV (wrp .u64 v.ID) >>=fun r_2=>
 some (r_2,b,t19)
 else
 if decide (x0.Kind=5)=true then
 tG (x0,ab.eta v,level,b,t19) >>=fun r_3=>
 some (r_3.1,r_3.2.1,r_3.2.2)
 else
 if decide (x0.Kind=6)=true then
 tN (x0,ab.eta v,level,b,t19) >>=fun r_7=>
 some (r_7.1,r_7.2.1,r_7.2.2)
 else
 if decide (x0.Kind=9)=true then
 if decide ((v.Items.length:Int)=0)=true then
 some ([],b,t19)
 else
 if inR 0 v.Items.length=true then
 dn (x0.Elem,ab.eta (v.Items.getD (0:Int).toNat af),addI .i64 level 1,b,t19) >>=fun r_11=>
 if decide ([1].length+r_11.1.length<=aV)=true then
 some ([1]++r_11.1,r_11.2.1,r_11.2.2)
 else none
 else none
 else
 ng (level,v.Items,(v.Items.length:Int),0,b,t19,ab.eta v,x0,[]) >>=fun o=>
 p8 o.2.2 >>=fun r_15=>
 some (r_15,o.1,o.2.1)
 else none
  partial_fixpoint
def tG(x_:ae×ab×Int×List ae×Int):Option (List UInt8×List ae×Int):=
 match x_ with
 | (x0,v,level,b,b_1)=>
 nl (level,x0.Members,(x0.Members.length:Int),0,b,b_1,ab.eta v,[]) >>=fun o=>
 nh (o.2.2.1.Rest,(o.2.2.1.Rest.length:Int),0,o.1,o.2.1,o.2.2.2) >>=fun o_1=>
 DW o_1.2.2 >>=fun r=>
 if(decide (r.length=o_1.2.2.length) && true)=true then
 nj ((r.length:Int),0,o_1.1,o_1.2.1,r,[]) >>=fun o_2=>
 p8 o_2.2.2 >>=fun r_1=>
 some (r_1,o_2.1,o_2.2.1)
 else none
  partial_fixpoint
def tN(x_:ae×ab×Int×List ae×Int):Option (List UInt8×List ae×Int):=
 match x_ with
 | (x0,v,level,b,b_1)=>
 fD (wrp .u64 v.ID) >>=fun r=>
 bG (x0,v.ID) >>=fun r_1=>
 if(!r_1.2)=true then
 if inR 0 v.Rest.length=true then
 some (v.Rest.getD (0:Int).toNat aC) >>=fun x0_1=>
 if decide (r.length+x0_1.Data.length<=aV)=true then
 some (r++x0_1.Data,b,b_1)
 else none
 else none
 else
 if inR r_1.1 x0.Members.length=true then
 if inR 0 v.Items.length=true then
 dn ((x0.Members.getD r_1.1.toNat ag).Type_,ab.eta (v.Items.getD (0:Int).toNat af),addI .i64 level 1,b,b_1) >>=fun r_4=>
 if decide (r.length+r_4.1.length<=aV)=true then
 some (r++r_4.1,r_4.2.1,r_4.2.2)
 else none
 else none
 else none
  partial_fixpoint
def ng(x_:Int×List ab×Int×Int×List ae×Int×ab×ae×List UInt8):Option (List ae×Int×List UInt8):=
 match x_ with
 | (level_1,t84,t85_1,t86,b_5,b_6,b_7,b_8,b_9)=>
 if decide (t86 < t85_1)=true then
 if inR t86 t84.length=true then
 some (t84.getD t86.toNat af) >>=fun x0_2=>
 if decide (b_8.Kind=8)=true then
 if inR t86 b_7.Keys.length=true then
 dn (b_8.Key,ab.eta (b_7.Keys.getD t86.toNat af),addI .i64 level_1 1,b_5,b_6) >>=fun r_16=>
 gB r_16.1 >>=fun r_20=>
 kE (r_20,b_9) >>=fun r_21=>
 dn (b_8.Elem,ab.eta x0_2,addI .i64 level_1 1,r_16.2.1,r_16.2.2) >>=fun r_24=>
 gB r_24.1 >>=fun r_28=>
 kE (r_28,r_21.2) >>=fun r_29=>
 ng (level_1,t84,t85_1,addI .i64 t86 1,r_24.2.1,r_24.2.2,ab.eta b_7,b_8,r_29.2)
 else none
 else
 dn (b_8.Elem,ab.eta x0_2,addI .i64 level_1 1,b_5,b_6) >>=fun r_32=>
 gB r_32.1 >>=fun r_36=>
 kE (r_36,b_9) >>=fun r_37=>
 ng (level_1,t84,t85_1,addI .i64 t86 1,r_32.2.1,r_32.2.2,ab.eta b_7,b_8,r_37.2)
 else none
 else
 some (b_5,b_6,b_9)
  partial_fixpoint
def nl(x_:Int×List aj×Int×Int×List ae×Int×ab×List bP):Option (List ae×Int×ab×List bP):=
 match x_ with
 | (level_1,t18,t19_1,t20,b_12,b_13,b_14,b_15)=>
 if decide (t20 < t19_1)=true then
 if inR t20 t18.length=true then
 some (t18.getD t20.toNat ag) >>=fun x0_1=>
 if inR t20 b_14.Items.length=true then
 uG ((⟨x0_1.ID,x0_1.Name,x0_1.Type_,x0_1.Critical,x0_1.HasDefault,ab.eta x0_1.Default⟩:aj),ab.eta (b_14.Items.getD t20.toNat af)) >>=fun r_2=>
 if(!r_2)=true then
 if inR t20 b_14.Items.length=true then
 dn (x0_1.Type_,ab.eta (b_14.Items.getD t20.toNat af),addI .i64 level_1 1,b_12,b_13) >>=fun r_3=>
 jD (x0_1.ID,x0_1.Critical,r_3.1) >>=fun r_7=>
 some [(⟨x0_1.ID,r_7⟩:bP)] >>=fun t53=>
 if room 24 (b_15++t53).length=true then
 nl (level_1,t18,t19_1,addI .i64 t20 1,r_3.2.1,r_3.2.2,ab.eta b_14,b_15++t53)
 else none
 else none
 else
 nl (level_1,t18,t19_1,addI .i64 t20 1,b_12,b_13,ab.eta b_14,b_15)
 else none
 else none
 else
 some (b_12,b_13,ab.eta b_14,b_15)
  partial_fixpoint
end
theorem kw :KC e181:= .m (by kernel_rfl)
theorem A5 :KC e203:= .m (by kernel_rfl)
theorem A6 :KC e202:= .m (by kernel_rfl)
theorem B3 :(∀h r,dn h=some r->FD e181 h r)/\(∀h r,ng h=some r->LD 181 1 [0] mP h r)/\(∀h r,tN h=some r->FD e203 h r)/\(∀h r,tG h=some r->FD e202 h r)/\(∀h r,nl h=some r->LD 202 1 [0] mO h r):=dn.mutual_partial_correctness (FD e181) (LD 181 1 [0] mP) (FD e203) (FD e202) (LD 202 1 [0] mO)
 (fun _ _ _ _ h0 h1 h2 h3 _ _ h=>FA e181 kw (.k uk (.k FM (.k (FH e202 A6 h3) (.k (FH e203 A5 h2) (.k (FH e181 kw h0) (.k tz .n)))))) (.k (LH mP h1) .n) (.trans (by kernel_rfl) h))
 (fun _ _ h0 h1 _ _ h=>LA mP h1 (.k (FH e181 kw h0) (.k uF (.k tu .n))) .n (.trans (by kernel_rfl) h))
 (fun _ h0 _ _ h=>FA e203 A5 (.k lH (.k fl (.k (FH e181 kw h0) .n))) .n (.trans (by kernel_rfl) h))
 (fun _ h4 _ _ h=>FA e202 A6 (.k qD (.k tz .n)) (.k (LH mO h4) (.k BZ (.k B0 .n))) (.trans (by kernel_rfl) h))
 (fun _ _ h0 h4 _ _ h=>LA mO h4 (.k En (.k (FH e181 kw h0) (.k qH .n))) .n (.trans (by kernel_rfl) h))
theorem Cp :FC e181 dn:= .of kw B3.1
def lD(x_:az×Int×ab):Option (List UInt8×Int):=
 match x_ with
 | (s,t,v)=>
 nO ((⟨s.Types⟩:az),t,ab.eta v) >>=fun r=>
 if(!(decide (r=0)))=true then
 some ([],r)
 else
 dn (t,ab.eta v,1,s.Types,0) >>=fun r_1=>
 if(bif decide (4096 < (r_1.1.length:Int))then true else decide (200 < r_1.2.2))=true then
 some ([],3)
 else
 some (r_1.1,0)
theorem Ng :KC e150:= .m (by kernel_rfl)
theorem ED :FC e150 lD:= .fn Ng (.k Em (.k Cp .n)) .n fun _=>by kernel_rfl
def od(x_:Int×Bool×List UInt8):Option (List UInt8×Int):=
 match x_ with
 | (id,critical,payload)=>
 if(bif decide (id < 1)then true else decide (1000 < id))=true then
 some ([],7)
 else
 if decide (4096 < (payload.length:Int))=true then
 some ([],3)
 else
 jD (id,critical,payload) >>=fun r=>
 some (r,0)
theorem Nh :KC e147:= .m (by kernel_rfl)
theorem EU :FC e147 od:= .fn Nh (.k qH .n) .n fun _=>by kernel_rfl
def jB(p:List UInt8):Option (List UInt8):=
 fD (wrp .u64 (p.length:Int)) >>=fun r=>
 if decide (r.length+p.length<=aV)=true then
 some (r++p)
 else none
theorem Ni :KC e149:= .m (by kernel_rfl)
theorem EE :FC e149 jB:= .fn Ni (.k lH .n) .n fun _=>by kernel_rfl
mutual
def cW(x_:az×Int×ab):Option (List UInt8):=
 match x_ with
 | (s,t,v)=>
 if inR t s.Types.length=true then
 some (s.Types.getD t.toNat ap) >>=fun x0=>
 if decide (x0.Kind=5)=true then
 gk ([],x0.Members,(x0.Members.length:Int),0,s.Types,ab.eta v) >>=fun o=>
 some o
 else
 if decide (x0.Kind=6)=true then
 bG (x0,v.ID) >>=fun r=>
 fD (wrp .u64 v.ID) >>=fun r_3=>
 if inR r.1 x0.Members.length=true then
 if inR 0 v.Items.length=true then
 cW (s,(x0.Members.getD r.1.toNat ag).Type_,ab.eta (v.Items.getD (0:Int).toNat af)) >>=fun r_4=>
 if decide (r_3.length+r_4.length<=aV)=true then
 some (r_3++r_4)
 else none
 else none
 else none
 else
 if decide (x0.Kind=9)=true then
 ju ([],v.Items,(v.Items.length:Int),0,s.Types,x0) >>=fun o_1=>
 some o_1
 else
 some (decide (x0.Kind=7)) >>=fun t115=>
 if t115=true then
 if t115=true then
 cU ([],v.Items,(v.Items.length:Int),0,s.Types,ab.eta v,x0) >>=fun o_2=>
 some o_2
 else
 lD (s,t,ab.eta v) >>=fun r_5=>
 some r_5.1
 else
 if decide (x0.Kind=8)=true then
 cU ([],v.Items,(v.Items.length:Int),0,s.Types,ab.eta v,x0) >>=fun o_3=>
 some o_3
 else
 lD (s,t,ab.eta v) >>=fun r_8=>
 some r_8.1
 else none
  partial_fixpoint
def gk(x_:List UInt8×List aj×Int×Int×List ae×ab):Option (List UInt8):=
 match x_ with
 | (out_4,t36,t37_1,t38,b,b_1)=>
 if decide (t38 < t37_1)=true then
 if inR t38 t36.length=true then
 some (t36.getD t38.toNat ag) >>=fun x0_3=>
 if inR t38 b_1.Items.length=true then
 ig ((⟨x0_3.ID,x0_3.Name,x0_3.Type_,x0_3.Critical,x0_3.HasDefault,ab.eta x0_3.Default⟩:aj),ab.eta (b_1.Items.getD t38.toNat af)) >>=fun r_11=>
 if(!r_11)=true then
 if inR t38 b_1.Items.length=true then
 cW ((⟨b⟩:az),x0_3.Type_,ab.eta (b_1.Items.getD t38.toNat af)) >>=fun r_12=>
 od (x0_3.ID,x0_3.Critical,r_12) >>=fun r_13=>
 if decide (out_4.length+r_13.1.length<=aV)=true then
 gk (out_4++r_13.1,t36,t37_1,addI .i64 t38 1,b,ab.eta b_1)
 else none
 else none
 else
 gk (out_4,t36,t37_1,addI .i64 t38 1,b,ab.eta b_1)
 else none
 else none
 else
 some out_4
  partial_fixpoint
def ju(x_:List UInt8×List ab×Int×Int×List ae×ae):Option (List UInt8):=
 match x_ with
 | (out_5,t101,t102_1,t103,b_2,b_3)=>
 if decide (t103 < t102_1)=true then
 if inR t103 t101.length=true then
 cW ((⟨b_2⟩:az),b_3.Elem,ab.eta (t101.getD t103.toNat af)) >>=fun r_16=>
 if decide ([1].length+r_16.length<=aV)=true then
 ju ([1]++r_16,t101,t102_1,addI .i64 t103 1,b_2,b_3)
 else none
 else none
 else
 some out_5
  partial_fixpoint
def cU(x_:List UInt8×List ab×Int×Int×List ae×ab×ae):Option (List UInt8):=
 match x_ with
 | (out_6,t118,t119_2,t120,b_4,b_5,b_6)=>
 if decide (t120 < t119_2)=true then
 if inR t120 t118.length=true then
 some (t118.getD t120.toNat af) >>=fun x0_7=>
 if decide (b_6.Kind=8)=true then
 if inR t120 b_5.Keys.length=true then
 cW ((⟨b_4⟩:az),b_6.Key,ab.eta (b_5.Keys.getD t120.toNat af)) >>=fun r_17=>
 jB r_17 >>=fun r_18=>
 if decide (out_6.length+r_18.length<=aV)=true then
 some (out_6++r_18) >>=fun t139=>
 cW ((⟨b_4⟩:az),b_6.Elem,ab.eta x0_7) >>=fun r_19=>
 jB r_19 >>=fun r_20=>
 if decide (t139.length+r_20.length<=aV)=true then
 cU (t139++r_20,t118,t119_2,addI .i64 t120 1,b_4,ab.eta b_5,b_6)
 else none
 else none
 else none
 else
 cW ((⟨b_4⟩:az),b_6.Elem,ab.eta x0_7) >>=fun r_21=>
 jB r_21 >>=fun r_22=>
 if decide (out_6.length+r_22.length<=aV)=true then
 cU (out_6++r_22,t118,t119_2,addI .i64 t120 1,b_4,ab.eta b_5,b_6)
 else none
 else none
 else
 some out_6
  partial_fixpoint
end
theorem ky :KC e106:= .m (by kernel_rfl)
theorem Dm :(∀h r,cW h=some r->FD e106 h r)/\(∀h r,cU h=some r->LD 106 0 [2] mS h r)/\(∀h r,ju h=some r->LD 106 0 [1] mR h r)/\(∀h r,gk h=some r->LD 106 0 [0] mQ h r):=cW.mutual_partial_correctness (FD e106) (LD 106 0 [2] mS) (LD 106 0 [1] mR) (LD 106 0 [0] mQ)
 (fun _ _ _ _ h0 h1 h2 h3 _ _ h=>FA e106 ky (.k fl (.k lH (.k (FH e106 ky h0) (.k ED .n)))) (.k (LH mQ h3) (.k (LH mR h2) (.k (LH mS h1) .n))) (.trans (by kernel_rfl) h))
 (fun _ _ h0 h1 _ _ h=>LA mS h1 (.k (FH e106 ky h0) (.k EE .n)) .n (.trans (by kernel_rfl) h))
 (fun _ _ h0 h2 _ _ h=>LA mR h2 (.k (FH e106 ky h0) .n) .n (.trans (by kernel_rfl) h))
 (fun _ _ h0 h3 _ _ h=>LA mQ h3 (.k qf (.k (FH e106 ky h0) (.k EU .n))) .n (.trans (by kernel_rfl) h))
theorem tX :FC e106 cW:= .of ky Dm.1
def dW(x_:List aj×Int×Int×List ae×List ae×List Int×ab×ae×Int×Bool×Int×List UInt8×Int×Int×Bool×Int×List UInt8×Int×List Int×List ab×List aG):Option ((Bool×List ae×List ae×ab×List Int×List Int) ⊕ (List ae×List ae×List Int×Int×Bool×Int×List UInt8×Int×Int×Bool×Int×List UInt8×Int×List Int×List ab×List aG)):=
 match x_ with
 | (t115,t116_1,t117,b_66,b_67,b_68,b_69,b_70,b_71,b_72,b_73,b_74,b_75,b_76,b_77,b_78,b_79,b_80,b_81,b_82,b_83)=>
 if decide (t117 < t116_1)=true then
 if inR t117 t115.length=true then
 some (t115.getD t117.toNat ag) >>=fun x0_6=>
 bG (b_70,x0_6.ID) >>=fun r_27=>
 if r_27.2=true then
 dW (t115,t116_1,addI .i64 t117 1,b_66,b_67,b_68,ab.eta b_69,b_70,b_71,b_72,b_73,b_74,b_75,b_76,b_77,b_78,b_79,b_80,b_81,b_82,b_83)
 else
 if x0_6.Critical=true then
 jp (x0_6.ID,b_66,b_67,b_68,b_81) >>=fun r_30=>
 some (.inl (r_30.2.1,r_30.2.2.1,r_30.2.2.2.1,ab.eta r_30.1,r_30.2.2.2.2.1,r_30.2.2.2.2.2))
 else
 if inR t117 b_69.Items.length=true then
 ig ((⟨x0_6.ID,x0_6.Name,x0_6.Type_,x0_6.Critical,x0_6.HasDefault,ab.eta x0_6.Default⟩:aj),ab.eta (b_69.Items.getD t117.toNat af)) >>=fun r_37=>
 if(!r_37)=true then
 if inR t117 b_69.Items.length=true then
 cW ((⟨b_66⟩:az),x0_6.Type_,ab.eta (b_69.Items.getD t117.toNat af)) >>=fun r_38=>
 some [(⟨x0_6.ID,r_38⟩:aG)] >>=fun t163=>
 if room 24 (b_83++t163).length=true then
 dW (t115,t116_1,addI .i64 t117 1,b_66,b_67,b_68,ab.eta b_69,b_70,b_71,b_72,b_73,b_74,b_75,b_76,b_77,b_78,b_79,b_80,b_81,b_82,b_83++t163)
 else none
 else none
 else
 dW (t115,t116_1,addI .i64 t117 1,b_66,b_67,b_68,ab.eta b_69,b_70,b_71,b_72,b_73,b_74,b_75,b_76,b_77,b_78,b_79,b_80,b_81,b_82,b_83)
 else none
 else none
 else
 some (.inr (b_66,b_67,b_68,b_71,b_72,b_73,b_74,b_75,b_76,b_77,b_78,b_79,b_80,b_81,b_82,b_83))
  partial_fixpoint
theorem Cc :LC 65 2 [1] e65_1 dW:= .rc dW.partial_correctness (.k fl (.k tC (.k qf (.k tX .n)))) .n fun _ _=>by kernel_rfl
mutual
def gn(x_:Int×Int×ab×Int×List ae×List ae×List Int×List Int):Option (ab×Bool×List ae×List ae×List Int×List Int):=
 match x_ with
 | (step,wt,v,rt,b,b_1,b_2,b_3)=>
 some [step] >>=fun t20=>
 if room 8 (b_3++t20).length=true then
 ij (wt,ab.eta v,rt,b,b_1,b_2,b_3++t20) >>=fun r=>
 some (subI .i64 (r.2.2.2.2.2.length:Int) 1) >>=fun t42=>
 if slR 0 t42 r.2.2.2.2.2.length=true then
 if decide (t42.toNat<=r.2.2.2.2.2.length)=true then
 some (ab.eta r.1,r.2.1,r.2.2.1,r.2.2.2.1,r.2.2.2.2.1,r.2.2.2.2.2.take t42.toNat)
 else none
 else none
 else none
  partial_fixpoint
def d8(x_:Int×List ab×Int×List ae×List ae×List Int×List Int):Option (List ab×Bool×List ae×List ae×List Int×List Int):=
 match x_ with
 | (wt,l,rt,b,b_1,b_2,b_3)=>
 gX (wt,rt,l,(l.length:Int),0,b,b_1,b_2,[],b_3) >>=fun o=>
 match o with
 | .inl o_1=>
 some ([],o_1.1,o_1.2.1,o_1.2.2.1,o_1.2.2.2.1,o_1.2.2.2.2)
 | .inr o_2=>
 some (o_2.2.2.2.1,true,o_2.1,o_2.2.1,o_2.2.2.1,o_2.2.2.2.2)
  partial_fixpoint
def ij(x_:Int×ab×Int×List ae×List ae×List Int×List Int):Option (ab×Bool×List ae×List ae×List Int×List Int):=
 match x_ with
 | (wt,v,rt,b,b_1,b_2,b_3)=>
 if inR wt b.length=true then
 some (b.getD wt.toNat ap) >>=fun x0=>
 if inR rt b_1.length=true then
 some (b_1.getD rt.toNat ap) >>=fun x0_1=>
 if(!(decide (x0.Kind=x0_1.Kind)))=true then
 ib (b,b_1,b_2,b_3) >>=fun r=>
 some (ab.eta r.1,r.2.1,r.2.2.1,r.2.2.2.1,r.2.2.2.2.2,r.2.2.2.2.1)
 else
 let k_5:=fun z5_0=>
 if(!z5_0)=true then
 ib (b,b_1,b_2,b_3) >>=fun r_7=>
 some (ab.eta r_7.1,r_7.2.1,r_7.2.2.1,r_7.2.2.2.1,r_7.2.2.2.2.2,r_7.2.2.2.2.1)
 else
 if decide (x0.Kind=5)=true then
 kP (x0,ab.eta v,x0_1,b,b_1,b_2,b_3) >>=fun r_14=>
 some (ab.eta r_14.1,r_14.2.1,r_14.2.2.1,r_14.2.2.2.1,r_14.2.2.2.2.1,r_14.2.2.2.2.2)
 else
 if decide (x0.Kind=6)=true then
 kW (x0,ab.eta v,x0_1,b,b_1,b_2,b_3) >>=fun r_21=>
 some (ab.eta r_21.1,r_21.2.1,r_21.2.2.1,r_21.2.2.2.1,r_21.2.2.2.2.1,r_21.2.2.2.2.2)
 else
 if decide (x0.Kind=8)=true then
 d8 (x0.Key,v.Keys,x0_1.Key,b,b_1,b_2,b_3) >>=fun r_28=>
 if(!r_28.2.1)=true then
 some ((⟨0,false,0,[],0,[],[],[]⟩:ab),false,r_28.2.2.1,r_28.2.2.2.1,r_28.2.2.2.2.1,r_28.2.2.2.2.2)
 else
 d8 (x0.Elem,v.Items,x0_1.Elem,r_28.2.2.1,r_28.2.2.2.1,r_28.2.2.2.2.1,r_28.2.2.2.2.2) >>=fun r_35=>
 if(!r_35.2.1)=true then
 some ((⟨0,false,0,[],0,[],[],[]⟩:ab),false,r_35.2.2.1,r_35.2.2.2.1,r_35.2.2.2.2.1,r_35.2.2.2.2.2)
 else
 some ((⟨v.Kind,v.Bool_,v.Int_,v.Str,v.ID,r_28.1,r_35.1,[]⟩:ab),true,r_35.2.2.1,r_35.2.2.2.1,r_35.2.2.2.2.1,r_35.2.2.2.2.2)
 else
 d8 (x0.Elem,v.Items,x0_1.Elem,b,b_1,b_2,b_3) >>=fun r_42=>
 if(!r_42.2.1)=true then
 some ((⟨0,false,0,[],0,[],[],[]⟩:ab),false,r_42.2.2.1,r_42.2.2.2.1,r_42.2.2.2.2.1,r_42.2.2.2.2.2)
 else
 some ((⟨v.Kind,v.Bool_,v.Int_,v.Str,v.ID,[],r_42.1,[]⟩:ab),true,r_42.2.2.1,r_42.2.2.2.1,r_42.2.2.2.2.1,r_42.2.2.2.2.2)
 if decide (x0.Kind=2)=true then
 k_5 (bif decide (x0_1.Low<=v.Int_)then decide (v.Int_<=x0_1.High)else false)
 else
 let k_4:=fun z4_0=>
 k_5 z4_0
 if decide (x0.Kind=3)=true then
 k_4 (decide ((v.Str.length:Int)<=x0_1.Max))
 else
 if decide (x0.Kind=4)=true then
 jz (x0_1,v.ID) >>=fun r_91=>
 k_4 (bif r_91.2 then true else x0_1.Open)
 else
 some (decide (x0.Kind=7)) >>=fun t91=>
 let k_3:=fun z3_0=>
 let k_2:=fun(_:Unit)=>
 if decide (x0.Kind=5)=true then
 kP (x0,ab.eta v,x0_1,b,b_1,b_2,b_3) >>=fun r_255=>
 some (ab.eta r_255.1,r_255.2.1,r_255.2.2.1,r_255.2.2.2.1,r_255.2.2.2.2.1,r_255.2.2.2.2.2)
 else
 if decide (x0.Kind=6)=true then
 kW (x0,ab.eta v,x0_1,b,b_1,b_2,b_3) >>=fun r_262=>
 some (ab.eta r_262.1,r_262.2.1,r_262.2.2.1,r_262.2.2.2.1,r_262.2.2.2.2.1,r_262.2.2.2.2.2)
 else
 if decide (x0.Kind=8)=true then
 d8 (x0.Key,v.Keys,x0_1.Key,b,b_1,b_2,b_3) >>=fun r_269=>
 if(!r_269.2.1)=true then
 some ((⟨0,false,0,[],0,[],[],[]⟩:ab),false,r_269.2.2.1,r_269.2.2.2.1,r_269.2.2.2.2.1,r_269.2.2.2.2.2)
 else
 d8 (x0.Elem,v.Items,x0_1.Elem,r_269.2.2.1,r_269.2.2.2.1,r_269.2.2.2.2.1,r_269.2.2.2.2.2) >>=fun r_276=>
 if(!r_276.2.1)=true then
 some ((⟨0,false,0,[],0,[],[],[]⟩:ab),false,r_276.2.2.1,r_276.2.2.2.1,r_276.2.2.2.2.1,r_276.2.2.2.2.2)
 else
 some ((⟨v.Kind,v.Bool_,v.Int_,v.Str,v.ID,r_269.1,r_276.1,[]⟩:ab),true,r_276.2.2.1,r_276.2.2.2.1,r_276.2.2.2.2.1,r_276.2.2.2.2.2)
 else
 d8 (x0.Elem,v.Items,x0_1.Elem,b,b_1,b_2,b_3) >>=fun r_283=>
 if(!r_283.2.1)=true then
 some ((⟨0,false,0,[],0,[],[],[]⟩:ab),false,r_283.2.2.1,r_283.2.2.2.1,r_283.2.2.2.2.1,r_283.2.2.2.2.2)
 else
 some ((⟨v.Kind,v.Bool_,v.Int_,v.Str,v.ID,[],r_283.1,[]⟩:ab),true,r_283.2.2.1,r_283.2.2.2.1,r_283.2.2.2.2.1,r_283.2.2.2.2.2)
 if z3_0=true then
 if(!(decide ((v.Items.length:Int)<=x0_1.Max)))=true then
 ib (b,b_1,b_2,b_3) >>=fun r_213=>
 some (ab.eta r_213.1,r_213.2.1,r_213.2.2.1,r_213.2.2.2.1,r_213.2.2.2.2.2,r_213.2.2.2.2.1)
 else
 k_2 ()
 else
 k_2 ()
 if t91=true then
 k_3 t91
 else
 k_3 (decide (x0.Kind=8))
 else none
 else none
  partial_fixpoint
def kP(x_:ae×ab×ae×List ae×List ae×List Int×List Int):Option (ab×Bool×List ae×List ae×List Int×List Int):=
 match x_ with
 | (x0,v,y,b,b_1,b_2,b_3)=>
 eT (y.Members,(y.Members.length:Int),0,b,b_1,b_2,x0,ab.eta v,y,0,false,0,[],0,v.Kind,false,0,[],0,b_3,[]) >>=fun o=>
 match o with
 | .inl o_1=>
 some (ab.eta o_1.2.2.2.2.1,o_1.1,o_1.2.1,o_1.2.2.1,o_1.2.2.2.1,o_1.2.2.2.2.2)
 | .inr o_2=>
 dW (o_2.2.2.2.1.Members,(o_2.2.2.2.1.Members.length:Int),0,o_2.1,o_2.2.1,o_2.2.2.1,ab.eta o_2.2.2.2.2.1,o_2.2.2.2.2.2.1,o_2.2.2.2.2.2.2.1,o_2.2.2.2.2.2.2.2.1,o_2.2.2.2.2.2.2.2.2.1,o_2.2.2.2.2.2.2.2.2.2.1,o_2.2.2.2.2.2.2.2.2.2.2.1,o_2.2.2.2.2.2.2.2.2.2.2.2.1,o_2.2.2.2.2.2.2.2.2.2.2.2.2.1,o_2.2.2.2.2.2.2.2.2.2.2.2.2.2.1,o_2.2.2.2.2.2.2.2.2.2.2.2.2.2.2.1,o_2.2.2.2.2.2.2.2.2.2.2.2.2.2.2.2.1,o_2.2.2.2.2.2.2.2.2.2.2.2.2.2.2.2.2.1,o_2.2.2.2.2.2.2.2.2.2.2.2.2.2.2.2.2.2,[]) >>=fun o_3=>
 match o_3 with
 | .inl o_4=>
 some (ab.eta o_4.2.2.2.1,o_4.1,o_4.2.1,o_4.2.2.1,o_4.2.2.2.2.2,o_4.2.2.2.2.1)
 | .inr o_5=>
 some ((⟨o_5.2.2.2.2.2.2.2.2.1,o_5.2.2.2.2.2.2.2.2.2.1,o_5.2.2.2.2.2.2.2.2.2.2.1,o_5.2.2.2.2.2.2.2.2.2.2.2.1,o_5.2.2.2.2.2.2.2.2.2.2.2.2.1,[],o_5.2.2.2.2.2.2.2.2.2.2.2.2.2.2.1,o_5.2.2.2.2.2.2.2.2.2.2.2.2.2.2.2⟩:ab),true,o_5.1,o_5.2.1,o_5.2.2.1,o_5.2.2.2.2.2.2.2.2.2.2.2.2.2.1)
  partial_fixpoint
def kW(x_:ae×ab×ae×List ae×List ae×List Int×List Int):Option (ab×Bool×List ae×List ae×List Int×List Int):=
 match x_ with
 | (x0,v,y,b,b_1,b_2,b_3)=>
 bG (x0,v.ID) >>=fun r=>
 bG (y,v.ID) >>=fun r_3=>
 if r_3.2=true then
 if inR r.1 x0.Members.length=true then
 if inR 0 v.Items.length=true then
 if inR r_3.1 y.Members.length=true then
 gn (v.ID,(x0.Members.getD r.1.toNat ag).Type_,ab.eta (v.Items.getD (0:Int).toNat af),(y.Members.getD r_3.1.toNat ag).Type_,b,b_1,b_2,b_3) >>=fun r_6=>
 if(!r_6.2.1)=true then
 some ((⟨0,false,0,[],0,[],[],[]⟩:ab),false,r_6.2.2.1,r_6.2.2.2.1,r_6.2.2.2.2.1,r_6.2.2.2.2.2)
 else
 some ((⟨v.Kind,false,0,[],v.ID,[],[ab.eta r_6.1],[]⟩:ab),true,r_6.2.2.1,r_6.2.2.2.1,r_6.2.2.2.2.1,r_6.2.2.2.2.2)
 else none
 else none
 else none
 else
 if(!y.Open)=true then
 ib (b,b_1,b_2,b_3) >>=fun r_13=>
 some (ab.eta r_13.1,r_13.2.1,r_13.2.2.1,r_13.2.2.2.1,r_13.2.2.2.2.2,r_13.2.2.2.2.1)
 else
 if inR r.1 x0.Members.length=true then
 if inR 0 v.Items.length=true then
 cW ((⟨b⟩:az),(x0.Members.getD r.1.toNat ag).Type_,ab.eta (v.Items.getD (0:Int).toNat af)) >>=fun r_20=>
 some ((⟨v.Kind,false,0,[],v.ID,[],[],[(⟨v.ID,r_20⟩:aG)]⟩:ab),true,b,b_1,b_2,b_3)
 else none
 else none
  partial_fixpoint
def gX(x_:Int×Int×List ab×Int×Int×List ae×List ae×List Int×List ab×List Int):Option ((Bool×List ae×List ae×List Int×List Int) ⊕ (List ae×List ae×List Int×List ab×List Int)):=
 match x_ with
 | (wt_1,rt_1,t15,t16_1,t17,b_13,b_14,b_15,b_16,b_17)=>
 if decide (t17 < t16_1)=true then
 if inR t17 t15.length=true then
 gn (t17,wt_1,ab.eta (t15.getD t17.toNat af),rt_1,b_13,b_14,b_15,b_17) >>=fun r=>
 if(!r.2.1)=true then
 some (.inl (false,r.2.2.1,r.2.2.2.1,r.2.2.2.2.1,r.2.2.2.2.2))
 else
 some [ab.eta r.1] >>=fun t35=>
 if room 120 (b_16++t35).length=true then
 gX (wt_1,rt_1,t15,t16_1,addI .i64 t17 1,r.2.2.1,r.2.2.2.1,r.2.2.2.2.1,b_16++t35,r.2.2.2.2.2)
 else none
 else none
 else
 some (.inr (b_13,b_14,b_15,b_16,b_17))
  partial_fixpoint
def eT(x_:List aj×Int×Int×List ae×List ae×List Int×ae×ab×ae×Int×Bool×Int×List UInt8×Int×Int×Bool×Int×List UInt8×Int×List Int×List ab):Option ((Bool×List ae×List ae×List Int×ab×List Int) ⊕ (List ae×List ae×List Int×ae×ab×ae×Int×Bool×Int×List UInt8×Int×Int×Bool×Int×List UInt8×Int×List Int×List ab)):=
 match x_ with
 | (t25,t26_1,t27,b_48,b_49,b_50,b_51,b_52,b_53,b_54,b_55,b_56,b_57,b_58,b_59,b_60,b_61,b_62,b_63,b_64,b_65)=>
 if decide (t27 < t26_1)=true then
 if inR t27 t25.length=true then
 some (t25.getD t27.toNat ag) >>=fun x0_1=>
 bG (b_51,x0_1.ID) >>=fun r=>
 if(!r.2)=true then
 if(!x0_1.HasDefault)=true then
 jp (x0_1.ID,b_48,b_49,b_50,b_64) >>=fun r_3=>
 some (.inl (r_3.2.1,r_3.2.2.1,r_3.2.2.2.1,r_3.2.2.2.2.2,ab.eta r_3.1,r_3.2.2.2.2.1))
 else
 cz (ab.eta x0_1.Default) >>=fun r_10=>
 some [ab.eta r_10] >>=fun t54=>
 if room 120 (b_65++t54).length=true then
 eT (t25,t26_1,addI .i64 t27 1,b_48,b_49,b_50,b_51,ab.eta b_52,b_53,b_54,b_55,b_56,b_57,b_58,b_59,b_60,b_61,b_62,b_63,b_64,b_65++t54)
 else none
 else
 if inR r.1 b_51.Members.length=true then
 if inR r.1 b_52.Items.length=true then
 gn (x0_1.ID,(b_51.Members.getD r.1.toNat ag).Type_,ab.eta (b_52.Items.getD r.1.toNat af),x0_1.Type_,b_48,b_49,b_50,b_64) >>=fun r_11=>
 if inR r.1 b_51.Members.length=true then
 some (b_51.Members.getD r.1.toNat ag) >>=fun x0_4=>
 if inR r.1 b_52.Items.length=true then
 ig ((⟨x0_4.ID,x0_4.Name,x0_4.Type_,x0_4.Critical,x0_4.HasDefault,ab.eta x0_4.Default⟩:aj),ab.eta (b_52.Items.getD r.1.toNat af)) >>=fun r_18=>
 some (!r_11.2.1) >>=fun t90=>
 (if(r_18 && (!t90))=true then ig ((⟨x0_1.ID,x0_1.Name,x0_1.Type_,x0_1.Critical,x0_1.HasDefault,ab.eta x0_1.Default⟩:aj),ab.eta r_11.1)else some false) >>=fun r_19=>
 if(bif r_18 then bif t90 then true else(!r_19)else false)=true then
 jp (x0_1.ID,r_11.2.2.1,r_11.2.2.2.1,r_11.2.2.2.2.1,r_11.2.2.2.2.2) >>=fun r_20=>
 some (.inl (r_20.2.1,r_20.2.2.1,r_20.2.2.2.1,r_20.2.2.2.2.2,ab.eta r_20.1,r_20.2.2.2.2.1))
 else
 if(!r_11.2.1)=true then
 some (.inl (false,r_11.2.2.1,r_11.2.2.2.1,r_11.2.2.2.2.1,(⟨0,false,0,[],0,[],[],[]⟩:ab),r_11.2.2.2.2.2))
 else
 some [ab.eta r_11.1] >>=fun t110=>
 if room 120 (b_65++t110).length=true then
 eT (t25,t26_1,addI .i64 t27 1,r_11.2.2.1,r_11.2.2.2.1,r_11.2.2.2.2.1,b_51,ab.eta b_52,b_53,b_54,b_55,b_56,b_57,b_58,b_59,b_60,b_61,b_62,b_63,r_11.2.2.2.2.2,b_65++t110)
 else none
 else none
 else none
 else none
 else none
 else none
 else
 some (.inr (b_48,b_49,b_50,b_51,ab.eta b_52,b_53,b_54,b_55,b_56,b_57,b_58,b_59,b_60,b_61,b_62,b_63,b_64,b_65))
  partial_fixpoint
end
theorem pR :KC e104:= .m (by kernel_rfl)
theorem e38_k :KC e38:= .m (by kernel_rfl)
theorem e67_k :KC e67:= .m (by kernel_rfl)
theorem e66_k :KC e66:= .m (by kernel_rfl)
theorem e65_k :KC e65:= .m (by kernel_rfl)
theorem CH :(∀h r,gn h=some r->FD e104 h r)/\(∀h r,ij h=some r->FD e38 h r)/\(∀h r,d8 h=some r->FD e67 h r)/\(∀h r,gX h=some r->LD 67 2 [0] e67_0 h r)/\(∀h r,kW h=some r->FD e66 h r)/\(∀h r,kP h=some r->FD e65 h r)/\(∀h r,eT h=some r->LD 65 2 [0] e65_0 h r):=gn.mutual_partial_correctness (FD e104) (FD e38) (FD e67) (LD 67 2 [0] e67_0) (FD e66) (FD e65) (LD 65 2 [0] e65_0)
 (fun _ h1 _ _ h=>FA e104 pR (.k (FH e38 e38_k h1) .n) .n (.trans (by kernel_rfl) h))
 (fun _ _ _ h2 h4 h5 _ _ h=>FA e38 e38_k (.k tM (.k (FH e65 e65_k h5) (.k (FH e66 e66_k h4) (.k (FH e67 e67_k h2) (.k qu .n))))) .n (.trans (by kernel_rfl) h))
 (fun _ h3 _ _ h=>FA e67 e67_k .n (.k (LH e67_0 h3) .n) (.trans (by kernel_rfl) h))
 (fun _ _ h0 h3 _ _ h=>LA e67_0 h3 (.k (FH e104 pR h0) .n) .n (.trans (by kernel_rfl) h))
 (fun _ h0 _ _ h=>FA e66 e66_k (.k fl (.k (FH e104 pR h0) (.k tM (.k tX .n)))) .n (.trans (by kernel_rfl) h))
 (fun _ h6 _ _ h=>FA e65 e65_k .n (.k (LH e65_0 h6) (.k Cc .n)) (.trans (by kernel_rfl) h))
 (fun _ _ h0 h6 _ _ h=>LA e65_0 h6 (.k fl (.k tC (.k Ek (.k (FH e104 pR h0) (.k qf .n))))) .n (.trans (by kernel_rfl) h))
theorem Dn :FC e38 ij:= .of e38_k CH.2.1
def lm(x_:az×Int×ab×az×Int):Option (ab×Int):=
 match x_ with
 | (w,wt,v,r,rt)=>
 nU (w,wt,ab.eta v,r,rt) >>=fun r_1=>
 if(!(decide (r_1=0)))=true then
 some ((⟨0,false,0,[],0,[],[],[]⟩:ab),r_1)
 else
 ij (wt,ab.eta v,rt,w.Types,r.Types,[],[]) >>=fun r_2=>
 if(!r_2.2.1)=true then
 some ((⟨0,false,0,[],0,[],[],[]⟩:ab),12)
 else
 some (ab.eta r_2.1,0)
theorem tY :FC e13 lm:= .fn e13_k (.k EA (.k Dn .n)) .n fun _=>by kernel_rfl
def gh(x_:Int×Int×ab):Option (Int×ab):=
 match x_ with
 | (n_4,i,b_2)=>
 if(bif decide (i < (b_2.Rest.length:Int))then decide (0<=n_4)else false)=true then
 if inR i b_2.Rest.length=true then
 gh (subI .i64 n_4 ((b_2.Rest.getD i.toNat aC).Data.length:Int),addI .i64 i 1,ab.eta b_2)
 else none
 else
 some (n_4,ab.eta b_2)
  partial_fixpoint
theorem CI :LC 44 0 [0] e44_0 gh:= .rc gh.partial_correctness .n .n fun _ _=>by kernel_rfl
mutual
def d9(x_:ab×Int):Option (Int):=
 match x_ with
 | (v,n)=>
 gh (subI .i64 n (addI .i64 (addI .i64 10 (v.Str.length:Int)) (v.Rest.length:Int)),0,ab.eta v) >>=fun o=>
 gZ (o.1,0,ab.eta o.2) >>=fun o_1=>
 g6 (o_1.1,0,ab.eta o_1.2) >>=fun o_2=>
 some o_2
  partial_fixpoint
def gZ(x_:Int×Int×ab):Option (Int×ab):=
 match x_ with
 | (n_5,i_1,b_3)=>
 if(bif decide (i_1 < (b_3.Keys.length:Int))then decide (0<=n_5)else false)=true then
 if inR i_1 b_3.Keys.length=true then
 d9 (ab.eta (b_3.Keys.getD i_1.toNat af),n_5) >>=fun r=>
 gZ (r,addI .i64 i_1 1,ab.eta b_3)
 else none
 else
 some (n_5,ab.eta b_3)
  partial_fixpoint
def g6(x_:Int×Int×ab):Option (Int):=
 match x_ with
 | (n_6,i_2,b_4)=>
 if(bif decide (i_2 < (b_4.Items.length:Int))then decide (0<=n_6)else false)=true then
 if inR i_2 b_4.Items.length=true then
 d9 (ab.eta (b_4.Items.getD i_2.toNat af),n_6) >>=fun r_1=>
 g6 (r_1,addI .i64 i_2 1,ab.eta b_4)
 else none
 else
 some n_6
  partial_fixpoint
end
theorem e44_k :KC e44:= .m (by kernel_rfl)
theorem C6 :(∀h r,d9 h=some r->FD e44 h r)/\(∀h r,g6 h=some r->LD 44 0 [2] e44_2 h r)/\(∀h r,gZ h=some r->LD 44 0 [1] e44_1 h r):=d9.mutual_partial_correctness (FD e44) (LD 44 0 [2] e44_2) (LD 44 0 [1] e44_1)
 (fun _ _ h1 h2 _ _ h=>FA e44 e44_k .n (.k CI (.k (LH e44_1 h2) (.k (LH e44_2 h1) .n))) (.trans (by kernel_rfl) h))
 (fun _ _ h0 h1 _ _ h=>LA e44_2 h1 (.k (FH e44 e44_k h0) .n) .n (.trans (by kernel_rfl) h))
 (fun _ _ h0 h2 _ _ h=>LA e44_1 h2 (.k (FH e44 e44_k h0) .n) .n (.trans (by kernel_rfl) h))
theorem DL :FC e44 d9:= .of e44_k C6.1
def nE(v:ab):Option (Bool):=
 d9 (ab.eta v,3000) >>=fun r=>
 some (decide (0<=r))
theorem e21_k :KC e21:= .m (by kernel_rfl)
theorem Do :FC e21 nE:= .fn e21_k (.k DL .n) .n fun _=>by kernel_rfl
def eP(x_:Int×ab×ab):Option ((Bool) ⊕ (ab×ab)):=
 match x_ with
 | (i,b_3,b_4)=>
 if decide (i < (b_3.Rest.length:Int))=true then
 if inR i b_3.Rest.length=true then
 some (b_3.Rest.getD i.toNat aC) >>=fun x0=>
 if inR i b_4.Rest.length=true then
 some (b_4.Rest.getD i.toNat aC) >>=fun x0_1=>
 if(!(eqI x0.ID x0_1.ID && (eqS x0.Data x0_1.Data && true)))=true then
 some (.inl false)
 else
 eP (addI .i64 i 1,ab.eta b_3,ab.eta b_4)
 else none
 else none
 else
 some (.inr (ab.eta b_3,ab.eta b_4))
  partial_fixpoint
theorem BU :LC 40 0 [0] e40_0 eP:= .rc eP.partial_correctness .n .n fun _ _=>by kernel_rfl
mutual
def cp(x_:ab×ab):Option (Bool):=
 match x_ with
 | (a,b)=>
 if(bif bif bif bif bif (!(decide (a.Kind=b.Kind)))then true else(!(eqB a.Bool_ b.Bool_))then true else(!(decide (a.Int_=b.Int_)))then true else(!(decide (a.Str=b.Str)))then true else(!(decide (a.ID=b.ID)))then true else(!(decide ((a.Rest.length:Int)=(b.Rest.length:Int)))))=true then
 some false
 else
 eP (0,(⟨a.Kind,a.Bool_,a.Int_,a.Str,a.ID,a.Keys,a.Items,a.Rest⟩:ab),(⟨b.Kind,b.Bool_,b.Int_,b.Str,b.ID,b.Keys,b.Items,b.Rest⟩:ab)) >>=fun o=>
 match o with
 | .inl o_1=>
 some o_1
 | .inr o_2=>
 kG (o_2.1.Keys,o_2.2.Keys) >>=fun r=>
 (if r=true then kG (o_2.1.Items,o_2.2.Items)else some false) >>=fun r_1=>
 some (bif r then r_1 else false)
  partial_fixpoint
def kG(x_:List ab×List ab):Option (Bool):=
 match x_ with
 | (a,b)=>
 if(!(decide ((a.length:Int)=(b.length:Int))))=true then
 some false
 else
 jj (a,b,0) >>=fun o=>
 match o with
 | .inl o_1=>
 some o_1
 | .inr o_2=>
 some true
  partial_fixpoint
def jj(x_:List ab×List ab×Int):Option ((Bool) ⊕ (Unit)):=
 match x_ with
 | (a_1,b_1,i)=>
 if decide (i < (a_1.length:Int))=true then
 if inR i a_1.length=true then
 if inR i b_1.length=true then
 cp (ab.eta (a_1.getD i.toNat af),ab.eta (b_1.getD i.toNat af)) >>=fun r=>
 if(!r)=true then
 some (.inl false)
 else
 jj (a_1,b_1,addI .i64 i 1)
 else none
 else none
 else
 some (.inr ())
  partial_fixpoint
end
theorem e40_k :KC e40:= .m (by kernel_rfl)
theorem e74_k :KC e74:= .m (by kernel_rfl)
theorem B4 :(∀h r,cp h=some r->FD e40 h r)/\(∀h r,kG h=some r->FD e74 h r)/\(∀h r,jj h=some r->LD 74 0 [0] e74_0 h r):=cp.mutual_partial_correctness (FD e40) (FD e74) (LD 74 0 [0] e74_0)
 (fun _ h1 _ _ h=>FA e40 e40_k (.k (FH e74 e74_k h1) .n) (.k BU .n) (.trans (by kernel_rfl) h))
 (fun _ h2 _ _ h=>FA e74 e74_k .n (.k (LH e74_0 h2) .n) (.trans (by kernel_rfl) h))
 (fun _ _ h0 h2 _ _ h=>LA e74_0 h2 (.k (FH e40 e40_k h0) .n) .n (.trans (by kernel_rfl) h))
theorem kF :FC e40 cp:= .of e40_k B4.1
def nF(x_:ab×ab):Option (Bool):=
 match x_ with
 | (a,b)=>
 cp (ab.eta a,ab.eta b) >>=fun r=>
 some r
theorem e15_k :KC e15:= .m (by kernel_rfl)
theorem Dp :FC e15 nF:= .fn e15_k (.k kF .n) .n fun _=>by kernel_rfl
def dH(t:ae):Option (ae):=
 if decide (t.Kind=1)=true then
 some (⟨t.Kind,[],0,0,0,[],[],0,0,false⟩:ae)
 else
 if decide (t.Kind=2)=true then
 some (⟨t.Kind,[],t.Low,t.High,0,[],[],0,0,false⟩:ae)
 else
 if decide (t.Kind=3)=true then
 some (⟨t.Kind,[],0,0,t.Max,[],[],0,0,false⟩:ae)
 else
 if decide (t.Kind=4)=true then
 some (⟨t.Kind,t.Name,0,0,0,t.Symbols,[],0,0,t.Open⟩:ae)
 else
 if decide (t.Kind=5)=true then
 some (⟨t.Kind,t.Name,0,0,0,[],t.Members,0,0,false⟩:ae)
 else
 if decide (t.Kind=6)=true then
 some (⟨t.Kind,t.Name,0,0,0,[],t.Members,0,0,t.Open⟩:ae)
 else
 if decide (t.Kind=7)=true then
 some (⟨t.Kind,[],0,0,t.Max,[],[],0,t.Elem,false⟩:ae)
 else
 if decide (t.Kind=8)=true then
 some (⟨t.Kind,[],0,0,t.Max,[],[],t.Key,t.Elem,false⟩:ae)
 else
 some (⟨t.Kind,[],0,0,0,[],[],0,t.Elem,false⟩:ae)
theorem Nj :KC e134:= .m (by kernel_rfl)
theorem Dq :FC e134 dH:= .fn Nj .n .n fun _=>by kernel_rfl
def kH(x_:aj×aj):Option (Bool):=
 match x_ with
 | (a,b)=>
 some (bif bif bif bif decide (a.ID=b.ID)then decide (a.Name=b.Name)else false then decide (a.Type_=b.Type_)else false then eqB a.Critical b.Critical else false then eqB a.HasDefault b.HasDefault else false) >>=fun t37=>
 (if t37=true then cp ((⟨a.Default.Kind,a.Default.Bool_,a.Default.Int_,a.Default.Str,a.Default.ID,a.Default.Keys,a.Default.Items,a.Default.Rest⟩:ab),(⟨b.Default.Kind,b.Default.Bool_,b.Default.Int_,b.Default.Str,b.Default.ID,b.Default.Keys,b.Default.Items,b.Default.Rest⟩:ab))else some false) >>=fun r=>
 some (bif t37 then r else false)
theorem Nk :KC e167:= .m (by kernel_rfl)
theorem Cd :FC e167 kH:= .fn Nk (.k kF .n) .n fun _=>by kernel_rfl
def eQ(x_:Int×ae×ae):Option ((Bool) ⊕ (ae×ae)):=
 match x_ with
 | (i,b_3,b_4)=>
 if decide (i < (b_3.Symbols.length:Int))=true then
 if inR i b_3.Symbols.length=true then
 some (b_3.Symbols.getD i.toNat aP) >>=fun x0=>
 if inR i b_4.Symbols.length=true then
 some (b_4.Symbols.getD i.toNat aP) >>=fun x0_1=>
 if(!(eqI x0.ID x0_1.ID && (eqS x0.Name x0_1.Name && true)))=true then
 some (.inl false)
 else
 eQ (addI .i64 i 1,b_3,b_4)
 else none
 else none
 else
 some (.inr (b_3,b_4))
  partial_fixpoint
theorem B5 :LC 133 0 [0] AI eQ:= .rc eQ.partial_correctness .n .n fun _ _=>by kernel_rfl
def eR(x_:Int×ae×ae):Option ((Bool) ⊕ (Unit)):=
 match x_ with
 | (i_1,b_5,b_6)=>
 if decide (i_1 < (b_5.Members.length:Int))=true then
 if inR i_1 b_5.Members.length=true then
 some (b_5.Members.getD i_1.toNat ag) >>=fun x0_2=>
 if inR i_1 b_6.Members.length=true then
 some (b_6.Members.getD i_1.toNat ag) >>=fun x0_3=>
 kH ((⟨x0_2.ID,x0_2.Name,x0_2.Type_,x0_2.Critical,x0_2.HasDefault,ab.eta x0_2.Default⟩:aj),(⟨x0_3.ID,x0_3.Name,x0_3.Type_,x0_3.Critical,x0_3.HasDefault,ab.eta x0_3.Default⟩:aj)) >>=fun r=>
 if(!r)=true then
 some (.inl false)
 else
 eR (addI .i64 i_1 1,b_5,b_6)
 else none
 else none
 else
 some (.inr ())
  partial_fixpoint
theorem B6 :LC 133 0 [1] AK eR:= .rc eR.partial_correctness (.k Cd .n) .n fun _ _=>by kernel_rfl
def np(x_:ae×ae):Option (Bool):=
 match x_ with
 | (a,b)=>
 if(bif bif bif bif bif bif bif bif bif (!(decide (a.Kind=b.Kind)))then true else(!(decide (a.Name=b.Name)))then true else(!(decide (a.Low=b.Low)))then true else(!(decide (a.High=b.High)))then true else(!(decide (a.Max=b.Max)))then true else(!(decide (a.Key=b.Key)))then true else(!(decide (a.Elem=b.Elem)))then true else(!(eqB a.Open b.Open))then true else(!(decide ((a.Symbols.length:Int)=(b.Symbols.length:Int))))then true else(!(decide ((a.Members.length:Int)=(b.Members.length:Int)))))=true then
 some false
 else
 eQ (0,(⟨a.Kind,a.Name,a.Low,a.High,a.Max,a.Symbols,a.Members,a.Key,a.Elem,a.Open⟩:ae),(⟨b.Kind,b.Name,b.Low,b.High,b.Max,b.Symbols,b.Members,b.Key,b.Elem,b.Open⟩:ae)) >>=fun o=>
 match o with
 | .inl o_1=>
 some o_1
 | .inr o_2=>
 eR (0,o_2.1,o_2.2) >>=fun o_3=>
 match o_3 with
 | .inl o_4=>
 some o_4
 | .inr o_5=>
 some true
theorem Nl :KC e133:= .m (by kernel_rfl)
theorem Cv :FC e133 np:= .fn Nl .n (.k B5 (.k B6 .n)) fun _=>by kernel_rfl
def kX(b:Int):Option (Bool):=
 some (bif bif bif decide (97<=b)then decide (b<=122)else false then true else bif decide (65<=b)then decide (b<=90)else false then true else decide (b=95))
theorem Nn :KC e168:= .m (by kernel_rfl)
theorem tH :FC e168 kX:= .fn Nn .n .n fun _=>by kernel_rfl
def nG(b:Int):Option (Bool):=
 some (bif decide (48<=b)then decide (b<=57)else false)
theorem No :KC e169:= .m (by kernel_rfl)
theorem Dr :FC e169 nG:= .fn No .n .n fun _=>by kernel_rfl
def eY(x_:List UInt8×Int):Option ((Bool) ⊕ (Unit)):=
 match x_ with
 | (s_1,i)=>
 if decide (i < (s_1.length:Int))=true then
 if inR i s_1.length=true then
 kX (bu s_1 i) >>=fun r_1=>
 some (!r_1) >>=fun t27=>
 if(inR i s_1.length || (!t27))=true then
 (if t27=true then nG (bu s_1 i)else some false) >>=fun r_2=>
 if(bif t27 then(!r_2)else false)=true then
 some (.inl false)
 else
 eY (s_1,addI .i64 i 1)
 else none
 else none
 else
 some (.inr ())
  partial_fixpoint
theorem Cq :LC 135 0 [0] AL eY:= .rc eY.partial_correctness (.k tH (.k Dr .n)) .n fun _ _=>by kernel_rfl
def g7(s:List UInt8):Option (Bool):=
 some (bif decide (s=[])then true else decide (24 < (s.length:Int))) >>=fun t10=>
 if(inR 0 s.length || (!(!t10)))=true then
 (if(!t10)=true then kX (bu s 0)else some false) >>=fun r=>
 if(bif t10 then true else(!r))=true then
 some false
 else
 eY (s,0) >>=fun o=>
 match o with
 | .inl o_1=>
 some o_1
 | .inr o_2=>
 some true
 else none
theorem Np :KC e135:= .m (by kernel_rfl)
theorem qd :FC e135 g7:= .fn Np (.k tH .n) (.k Cq .n) fun _=>by kernel_rfl
def lx(x_:Int×Int):Option (Bool):=
 match x_ with
 | (before,n)=>
 some (bif bif decide (before < n)then decide (1<=n)else false then decide (n<=1000)else false)
theorem Nq :KC e170:= .m (by kernel_rfl)
theorem uf :FC e170 lx:= .fn Nq .n .n fun _=>by kernel_rfl
def dU(x_:List aK×Int×Int):Option ((Bool) ⊕ (List aK×Int)):=
 match x_ with
 | (l_4,i_2,k)=>
 if decide (k < i_2)=true then
 if inR k l_4.length=true then
 if inR i_2 l_4.length=true then
 if decide ((l_4.getD k.toNat aP).Name=(l_4.getD i_2.toNat aP).Name)=true then
 some (.inl false)
 else
 dU (l_4,i_2,addI .i64 k 1)
 else none
 else none
 else
 some (.inr (l_4,i_2))
  partial_fixpoint
theorem BV :LC 136 0 [0,0] yx dU:= .rc dU.partial_correctness .n .n fun _ _=>by kernel_rfl
def eU(x_:List aK×Int×Int):Option ((Bool) ⊕ (List aK)):=
 match x_ with
 | (l_2,before,i)=>
 if decide (i < (l_2.length:Int))=true then
 if inR i l_2.length=true then
 lx (before,(l_2.getD i.toNat aP).ID) >>=fun r=>
 some (!r) >>=fun t19=>
 if(inR i l_2.length || (!(!t19)))=true then
 (if(!t19)=true then g7 (l_2.getD i.toNat aP).Name else some false) >>=fun r_1=>
 if(bif t19 then true else(!r_1))=true then
 some (.inl false)
 else
 dU (l_2,i,0) >>=fun o_3=>
 match o_3 with
 | .inl o_4=>
 some (.inl o_4)
 | .inr o_5=>
 if inR o_5.2 o_5.1.length=true then
 eU (o_5.1,(o_5.1.getD o_5.2.toNat aP).ID,addI .i64 o_5.2 1)
 else none
 else none
 else none
 else
 some (.inr l_2)
  partial_fixpoint
theorem Ce :LC 136 0 [0] AM eU:= .rc eU.partial_correctness (.k uf (.k qd .n)) (.k BV .n) fun _ _=>by kernel_rfl
def kQ(l:List aK):Option (Bool):=
 eU (l,0,0) >>=fun o=>
 match o with
 | .inl o_1=>
 some o_1
 | .inr o_2=>
 some (bif decide (1<=(o_2.length:Int))then decide ((o_2.length:Int)<=16)else false)
theorem Nr :KC e136:= .m (by kernel_rfl)
theorem CK :FC e136 kQ:= .fn Nr .n (.k Ce .n) fun _=>by kernel_rfl
def dV(x_:List aj×Bool×Int×Int×aj):Option ((Bool) ⊕ (List aj×Bool×Int×aj)):=
 match x_ with
 | (l_4,record_4,i_2,k,b_1)=>
 if decide (k < i_2)=true then
 if inR k l_4.length=true then
 if decide ((l_4.getD k.toNat ag).Name=b_1.Name)=true then
 some (.inl false)
 else
 dV (l_4,record_4,i_2,addI .i64 k 1,(⟨b_1.ID,b_1.Name,b_1.Type_,b_1.Critical,b_1.HasDefault,ab.eta b_1.Default⟩:aj))
 else none
 else
 some (.inr (l_4,record_4,i_2,(⟨b_1.ID,b_1.Name,b_1.Type_,b_1.Critical,b_1.HasDefault,ab.eta b_1.Default⟩:aj)))
  partial_fixpoint
theorem BW :LC 137 0 [0,0] yy dV:= .rc dV.partial_correctness .n .n fun _ _=>by kernel_rfl
def eV(x_:List aj×Bool×Int×Int):Option ((Bool) ⊕ (List aj×Bool)):=
 match x_ with
 | (l_2,record_2,before,i)=>
 if decide (i < (l_2.length:Int))=true then
 if inR i l_2.length=true then
 some (l_2.getD i.toNat ag) >>=fun x0=>
 lx (before,x0.ID) >>=fun r=>
 some (!r) >>=fun t23=>
 (if(!t23)=true then g7 x0.Name else some false) >>=fun r_1=>
 if(bif bif bif t23 then true else(!r_1)then true else bif x0.Critical then x0.HasDefault else false then true else bif (!record_2)then bif x0.Critical then true else x0.HasDefault else false)=true then
 some (.inl false)
 else
 some (!x0.HasDefault) >>=fun t52=>
 (if t52=true then cp (ab.eta x0.Default,(⟨0,false,0,[],0,[],[],[]⟩:ab))else some false) >>=fun r_2=>
 if(bif t52 then(!r_2)else false)=true then
 some (.inl false)
 else
 dV (l_2,record_2,i,0,(⟨x0.ID,x0.Name,x0.Type_,x0.Critical,x0.HasDefault,ab.eta x0.Default⟩:aj)) >>=fun o_3=>
 match o_3 with
 | .inl o_4=>
 some (.inl o_4)
 | .inr o_5=>
 eV (o_5.1,o_5.2.1,o_5.2.2.2.ID,addI .i64 o_5.2.2.1 1)
 else none
 else
 some (.inr (l_2,record_2))
  partial_fixpoint
theorem Cf :LC 137 0 [0] AN eV:= .rc eV.partial_correctness (.k uf (.k qd (.k kF .n))) (.k BW .n) fun _ _=>by kernel_rfl
def jq(x_:List aj×Bool):Option (Bool):=
 match x_ with
 | (l,record)=>
 eV (l,record,0,0) >>=fun o=>
 match o with
 | .inl o_1=>
 some o_1
 | .inr o_2=>
 some (bif decide ((o_2.1.length:Int)<=16)then bif o_2.2 then true else decide (1<=(o_2.1.length:Int))else false)
theorem Ns :KC e137:= .m (by kernel_rfl)
theorem CL :FC e137 jq:= .fn Ns .n (.k Cf .n) fun _=>by kernel_rfl
def bC(t:ae):Option (Bool):=
 some (bif decide (t.Kind < 1)then true else decide (9 < t.Kind)) >>=fun t10=>
 (if(!t10)=true then dH t else some ap) >>=fun r=>
 (if(!t10)=true then np (t,r)else some false) >>=fun r_1=>
 some (bif t10 then true else(!r_1)) >>=fun t17=>
 (if(!t17)=true then cw t.Kind else some false) >>=fun r_2=>
 (if((!t17) && r_2)=true then g7 t.Name else some false) >>=fun r_3=>
 if(bif t17 then true else bif r_2 then(!r_3)else false)=true then
 some false
 else
 if decide (t.Kind=2)=true then
 some (decide (t.Low<=t.High))
 else
 if decide (t.Kind=3)=true then
 some (bif decide (0<=t.Max)then decide (t.Max<=200)else false)
 else
 if decide (t.Kind=4)=true then
 kQ t.Symbols >>=fun r_4=>
 some r_4
 else
 some (decide (t.Kind=5)) >>=fun t54=>
 if t54=true then
 if t54=true then
 jq (t.Members,decide (t.Kind=5)) >>=fun r_5=>
 some r_5
 else
 some (decide (t.Kind=7)) >>=fun t63=>
 if t63=true then
 if t63=true then
 some (bif decide (0<=t.Max)then decide (t.Max<=50)else false)
 else
 some true
 else
 if decide (t.Kind=8)=true then
 some (bif decide (0<=t.Max)then decide (t.Max<=50)else false)
 else
 some true
 else
 if decide (t.Kind=6)=true then
 jq (t.Members,decide (t.Kind=5)) >>=fun r_6=>
 some r_6
 else
 some (decide (t.Kind=7)) >>=fun t63_1=>
 if t63_1=true then
 if t63_1=true then
 some (bif decide (0<=t.Max)then decide (t.Max<=50)else false)
 else
 some true
 else
 if decide (t.Kind=8)=true then
 some (bif decide (0<=t.Max)then decide (t.Max<=50)else false)
 else
 some true
theorem e92_k :KC e92:= .m (by kernel_rfl)
theorem D4 :FC e92 bC:= .fn e92_k (.k Dq (.k Cv (.k qe (.k qd (.k CK (.k CL .n)))))) .n fun _=>by kernel_rfl
def gi(x_:Int×ae×List Int):Option (ae×List Int):=
 match x_ with
 | (i,b_2,b_3)=>
 if decide (i < (b_2.Members.length:Int))=true then
 if inR i b_2.Members.length=true then
 some [(b_2.Members.getD i.toNat ag).Type_] >>=fun t19=>
 if room 8 (b_3++t19).length=true then
 gi (addI .i64 i 1,b_2,b_3++t19)
 else none
 else none
 else
 some (b_2,b_3)
  partial_fixpoint
theorem CM :LC 93 0 [0] e93_0 gi:= .rc gi.partial_correctness .n .n fun _ _=>by kernel_rfl
def nI(t:ae):Option (List Int):=
 gi (0,t,[]) >>=fun o=>
 if decide (o.1.Kind=8)=true then
 some [o.1.Key] >>=fun t27=>
 if room 8 (o.2++t27).length=true then
 some (o.2++t27) >>=fun l=>
 if(bif bif decide (o.1.Kind=7)then true else decide (o.1.Kind=8)then true else decide (o.1.Kind=9))=true then
 some [o.1.Elem] >>=fun t45=>
 if room 8 (l++t45).length=true then
 some (l++t45)
 else none
 else
 some l
 else none
 else
 if(bif bif decide (o.1.Kind=7)then true else decide (o.1.Kind=8)then true else decide (o.1.Kind=9))=true then
 some [o.1.Elem] >>=fun t45_1=>
 if room 8 (o.2++t45_1).length=true then
 some (o.2++t45_1)
 else none
 else
 some o.2
theorem e93_k :KC e93:= .m (by kernel_rfl)
theorem DN :FC e93 nI:= .fn e93_k .n (.k CM .n) fun _=>by kernel_rfl
def dX(x_:Int×Int×List ae×Int×List UInt8×Int×Int×Int×List aK×List aj×Int×Int×Bool):Option ((Int) ⊕ (Int×List ae×Int×List UInt8×Int×Int×Int×List aK×List aj×Int×Int×Bool)):=
 match x_ with
 | (i_3,k,b_23,b_24,b_25,b_26,b_27,b_28,b_29,b_30,b_31,b_32,b_33)=>
 if decide (k < i_3)=true then
 cw b_24 >>=fun r_3=>
 if(inR k b_23.length || (!r_3))=true then
 if(bif r_3 then decide ((b_23.getD k.toNat ap).Name=b_25)else false)=true then
 some (.inl 1)
 else
 dX (i_3,addI .i64 k 1,b_23,b_24,b_25,b_26,b_27,b_28,b_29,b_30,b_31,b_32,b_33)
 else none
 else
 some (.inr (i_3,b_23,b_24,b_25,b_26,b_27,b_28,b_29,b_30,b_31,b_32,b_33))
  partial_fixpoint
theorem Cg :LC 53 0 [0,0] zD dX:= .rc dX.partial_correctness (.k qe .n) .n fun _ _=>by kernel_rfl
def f8(x_:Int×List Int×Int×List ae×Int×List UInt8×Int×Int×Int×List aK×List aj×Int×Int×Bool):Option ((Int) ⊕ (Int×List ae×Int×List UInt8×Int×Int×Int×List aK×List aj×Int×Int×Bool)):=
 match x_ with
 | (i_4,l,k_1,b_34,b_35,b_36,b_37,b_38,b_39,b_40,b_41,b_42,b_43,b_44)=>
 if decide (k_1 < (l.length:Int))=true then
 if inR k_1 l.length=true then
 some (decide (l.getD k_1.toNat 0 < 0)) >>=fun t58=>
 if(inR k_1 l.length || (!(!t58)))=true then
 if(bif t58 then true else decide ((b_34.length:Int)<=l.getD k_1.toNat 0))=true then
 some (.inl 4)
 else
 f8 (i_4,l,addI .i64 k_1 1,b_34,b_35,b_36,b_37,b_38,b_39,b_40,b_41,b_42,b_43,b_44)
 else none
 else none
 else
 some (.inr (i_4,b_34,b_35,b_36,b_37,b_38,b_39,b_40,b_41,b_42,b_43,b_44))
  partial_fixpoint
theorem Ch :LC 53 0 [1,0] zE f8:= .rc f8.partial_correctness .n .n fun _ _=>by kernel_rfl
def fa(x_:Int×List ae):Option ((Int) ⊕ (Unit)):=
 match x_ with
 | (i,b)=>
 if decide (i < (b.length:Int))=true then
 if inR i b.length=true then
 some (b.getD i.toNat ap) >>=fun x0=>
 bC x0 >>=fun r=>
 if(!r)=true then
 some (.inl 1)
 else
 dX (i,0,b,x0.Kind,x0.Name,x0.Low,x0.High,x0.Max,x0.Symbols,x0.Members,x0.Key,x0.Elem,x0.Open) >>=fun o_3=>
 match o_3 with
 | .inl o_4=>
 some (.inl o_4)
 | .inr o_5=>
 nI (⟨o_5.2.2.1,o_5.2.2.2.1,o_5.2.2.2.2.1,o_5.2.2.2.2.2.1,o_5.2.2.2.2.2.2.1,o_5.2.2.2.2.2.2.2.1,o_5.2.2.2.2.2.2.2.2.1,o_5.2.2.2.2.2.2.2.2.2.1,o_5.2.2.2.2.2.2.2.2.2.2.1,o_5.2.2.2.2.2.2.2.2.2.2.2⟩:ae) >>=fun r_1=>
 f8 (o_5.1,r_1,0,o_5.2.1,o_5.2.2.1,o_5.2.2.2.1,o_5.2.2.2.2.1,o_5.2.2.2.2.2.1,o_5.2.2.2.2.2.2.1,o_5.2.2.2.2.2.2.2.1,o_5.2.2.2.2.2.2.2.2.1,o_5.2.2.2.2.2.2.2.2.2.1,o_5.2.2.2.2.2.2.2.2.2.2.1,o_5.2.2.2.2.2.2.2.2.2.2.2) >>=fun o_6=>
 match o_6 with
 | .inl o_7=>
 some (.inl o_7)
 | .inr o_8=>
 some (decide (o_8.2.2.1=8)) >>=fun t71=>
 if(inR o_8.2.2.2.2.2.2.2.2.2.1 o_8.2.1.length || (!t71))=true then
 (if t71=true then kM (o_8.2.1.getD o_8.2.2.2.2.2.2.2.2.2.1.toNat ap).Kind else some false) >>=fun r_2=>
 if(bif t71 then(!r_2)else false)=true then
 some (.inl 1)
 else
 fa (addI .i64 o_8.1 1,o_8.2.1)
 else none
 else none
 else
 some (.inr ())
  partial_fixpoint
theorem Cw :LC 53 0 [0] e53_0 fa:= .rc fa.partial_correctness (.k D4 (.k DN (.k tB .n))) (.k Cg (.k Ch .n)) fun _ _=>by kernel_rfl
def lc(s:az):Option (Int):=
 if decide (32 < (s.Types.length:Int))=true then
 some 3
 else
 fa (0,s.Types) >>=fun o=>
 match o with
 | .inl o_1=>
 some o_1
 | .inr o_2=>
 some 0
theorem e53_k :KC e53:= .m (by kernel_rfl)
theorem Ds :FC e53 lc:= .fn e53_k .n (.k Cw .n) fun _=>by kernel_rfl
def im(v:ab):Option (Bool):=
 some (bif bif bif bif bif bif bif decide (v.Kind=1)then true else(!v.Bool_)then bif decide (v.Kind=2)then true else decide (v.Int_=0)else false then bif decide (v.Kind=3)then true else decide (v.Str=[])else false then bif bif decide (v.Kind=4)then true else decide (v.Kind=6)then true else decide (v.ID=0)else false then bif decide (v.Kind=8)then true else decide ((v.Keys.length:Int)=0)else false then bif decide (5<=v.Kind)then true else decide ((v.Items.length:Int)=0)else false then bif bif decide (v.Kind=5)then true else decide (v.Kind=6)then true else decide ((v.Rest.length:Int)=0)else false)
theorem e75_k :KC e75:= .m (by kernel_rfl)
theorem DO :FC e75 im:= .fn e75_k .n .n fun _=>by kernel_rfl
def ce(x_:Int×Bool):Option (Bool):=
 match x_ with
 | (n,known)=>
 some (bif bif (!known)then decide (1<=n)else false then decide (n<=1000)else false)
theorem e76_k :KC e76:= .m (by kernel_rfl)
theorem ug :FC e76 ce:= .fn e76_k .n .n fun _=>by kernel_rfl
def cu(x_:List aG×Int×ae):Option ((Bool) ⊕ (Unit)):=
 match x_ with
 | (l_1,i,b)=>
 if decide (i < (l_1.length:Int))=true then
 if inR i l_1.length=true then
 cD (b,(l_1.getD i.toNat aC).ID) >>=fun r=>
 if inR i l_1.length=true then
 ce ((l_1.getD i.toNat aC).ID,r.2) >>=fun r_3=>
 some (!r_3) >>=fun t31=>
 some (decide (0 < i)) >>=fun t34=>
 if(inR i l_1.length || (!((!t31) && t34)))=true then
 some (subI .i64 i 1) >>=fun t43=>
 if(inR t43 l_1.length || (!((!t31) && t34)))=true then
 if(bif t31 then true else bif t34 then decide ((l_1.getD i.toNat aC).ID<=(l_1.getD t43.toNat aC).ID)else false)=true then
 some (.inl false)
 else
 cu (l_1,addI .i64 i 1,b)
 else none
 else none
 else none
 else none
 else
 some (.inr ())
  partial_fixpoint
theorem CN :LC 77 0 [0] e77_0 cu:= .rc cu.partial_correctness (.k jm (.k ug .n)) .n fun _ _=>by kernel_rfl
def gq(x_:ae×List aG):Option (Bool):=
 match x_ with
 | (t,l)=>
 cu (l,0,t) >>=fun o=>
 match o with
 | .inl o_1=>
 some o_1
 | .inr o_2=>
 some true
theorem e77_k :KC e77:= .m (by kernel_rfl)
theorem DR :FC e77 gq:= .fn e77_k .n (.k CN .n) fun _=>by kernel_rfl
def bF(x_:Int×ab):Option ((Bool) ⊕ (Unit)):=
 match x_ with
 | (i_1,b_12)=>
 if decide (i_1 < (b_12.Keys.length:Int))=true then
 some (subI .i64 i_1 1) >>=fun t270=>
 if inR t270 b_12.Keys.length=true then
 if inR i_1 b_12.Keys.length=true then
 fe (ab.eta (b_12.Keys.getD t270.toNat af),ab.eta (b_12.Keys.getD i_1.toNat af)) >>=fun r_16=>
 if decide (0<=r_16)=true then
 some (.inl false)
 else
 bF (addI .i64 i_1 1,ab.eta b_12)
 else none
 else none
 else
 some (.inr ())
  partial_fixpoint
theorem C7 :LC 41 0 [1] e41_1 bF:= .rc bF.partial_correctness (.k qc .n) .n fun _ _=>by kernel_rfl
mutual
def ef(x_:az×Int×List ab×Bool):Option (Bool):=
 match x_ with
 | (s,t,l,plain)=>
 cE (t,l,plain,0,s.Types) >>=fun o=>
 match o with
 | .inl o_1=>
 some o_1
 | .inr o_2=>
 some true
  partial_fixpoint
def bW(x_:az×Int×ab×Bool):Option (Bool):=
 match x_ with
 | (s,t,v,plain)=>
 if(bif decide (t < 0)then true else decide ((s.Types.length:Int)<=t))=true then
 some false
 else
 if inR t s.Types.length=true then
 some (s.Types.getD t.toNat ap) >>=fun x0=>
 some (!(decide (v.Kind=x0.Kind))) >>=fun t34=>
 (if(!t34)=true then im (ab.eta v)else some false) >>=fun r=>
 if(bif bif t34 then true else(!r)then true else bif plain then decide (0 < (v.Rest.length:Int))else false)=true then
 some false
 else
 if decide (x0.Kind=1)=true then
 some true
 else
 if decide (x0.Kind=2)=true then
 some (bif decide (x0.Low<=v.Int_)then decide (v.Int_<=x0.High)else false)
 else
 if decide (x0.Kind=3)=true then
 some (decide ((v.Str.length:Int)<=x0.Max))
 else
 if decide (x0.Kind=4)=true then
 kV (x0,v.ID) >>=fun r_1=>
 some (bif x0.Open then(!plain)else false) >>=fun t91=>
 (if((!r_1.2) && t91)=true then ce (v.ID,r_1.2)else some false) >>=fun r_4=>
 some (bif r_1.2 then true else bif t91 then r_4 else false)
 else
 if decide (x0.Kind=5)=true then
 some (!(decide ((v.Items.length:Int)=(x0.Members.length:Int)))) >>=fun t107=>
 (if(!t107)=true then gq (x0,v.Rest)else some false) >>=fun r_5=>
 if(bif t107 then true else(!r_5))=true then
 some false
 else
 bT (plain,0,s.Types,ab.eta v,x0.Kind,x0.Name,x0.Low,x0.High,x0.Max,x0.Symbols,x0.Members,x0.Key,x0.Elem,x0.Open) >>=fun o=>
 match o with
 | .inl o_1=>
 some o_1
 | .inr o_2=>
 some true
 else
 if decide (x0.Kind=6)=true then
 cD (x0,v.ID) >>=fun r_6=>
 if r_6.2=true then
 some (bif decide ((v.Items.length:Int)=1)then decide ((v.Rest.length:Int)=0)else false) >>=fun t156=>
 if(inR r_6.1 x0.Members.length || (!t156))=true then
 if(inR 0 v.Items.length || (!t156))=true then
 (if t156=true then bW (s,(x0.Members.getD r_6.1.toNat ag).Type_,ab.eta (v.Items.getD (0:Int).toNat af),plain)else some false) >>=fun r_9=>
 some (bif t156 then r_9 else false)
 else none
 else none
 else
 some (bif x0.Open then(!plain)else false) >>=fun t177=>
 (if t177=true then ce (v.ID,r_6.2)else some false) >>=fun r_10=>
 some (bif bif bif t177 then r_10 else false then decide ((v.Items.length:Int)=0)else false then decide ((v.Rest.length:Int)=1)else false) >>=fun t195=>
 if(inR 0 v.Rest.length || (!t195))=true then
 some (bif t195 then decide ((v.Rest.getD (0:Int).toNat aC).ID=v.ID)else false)
 else none
 else
 if decide (x0.Kind=7)=true then
 some (decide ((v.Items.length:Int)<=x0.Max)) >>=fun t213=>
 (if t213=true then ef (s,x0.Elem,v.Items,plain)else some false) >>=fun r_11=>
 some (bif t213 then r_11 else false)
 else
 if decide (x0.Kind=8)=true then
 some (bif decide (x0.Max < (v.Keys.length:Int))then true else(!(decide ((v.Items.length:Int)=(v.Keys.length:Int))))) >>=fun t239=>
 (if(!t239)=true then ef (s,x0.Key,v.Keys,plain)else some false) >>=fun r_12=>
 some (bif t239 then true else(!r_12)) >>=fun t249=>
 (if(!t249)=true then ef (s,x0.Elem,v.Items,plain)else some false) >>=fun r_13=>
 if(bif t249 then true else(!r_13))=true then
 some false
 else
 bF (1,ab.eta v) >>=fun o_3=>
 match o_3 with
 | .inl o_4=>
 some o_4
 | .inr o_5=>
 some true
 else
 some (decide ((v.Items.length:Int)<=1)) >>=fun t283=>
 (if t283=true then ef (s,x0.Elem,v.Items,plain)else some false) >>=fun r_14=>
 some (bif t283 then r_14 else false)
 else none
  partial_fixpoint
def cE(x_:Int×List ab×Bool×Int×List ae):Option ((Bool) ⊕ (Unit)):=
 match x_ with
 | (t_1,l_1,plain_1,i,b)=>
 if decide (i < (l_1.length:Int))=true then
 if inR i l_1.length=true then
 bW ((⟨b⟩:az),t_1,ab.eta (l_1.getD i.toNat af),plain_1) >>=fun r=>
 if(!r)=true then
 some (.inl false)
 else
 cE (t_1,l_1,plain_1,addI .i64 i 1,b)
 else none
 else
 some (.inr ())
  partial_fixpoint
def bT(x_:Bool×Int×List ae×ab×Int×List UInt8×Int×Int×Int×List aK×List aj×Int×Int×Bool):Option ((Bool) ⊕ (Unit)):=
 match x_ with
 | (plain_1,i,b,b_1,b_2,b_3,b_4,b_5,b_6,b_7,b_8,b_9,b_10,b_11)=>
 if decide (i < (b_1.Items.length:Int))=true then
 if inR i b_8.length=true then
 if inR i b_1.Items.length=true then
 bW ((⟨b⟩:az),(b_8.getD i.toNat ag).Type_,ab.eta (b_1.Items.getD i.toNat af),plain_1) >>=fun r_15=>
 if(!r_15)=true then
 some (.inl false)
 else
 bT (plain_1,addI .i64 i 1,b,ab.eta b_1,b_2,b_3,b_4,b_5,b_6,b_7,b_8,b_9,b_10,b_11)
 else none
 else none
 else
 some (.inr ())
  partial_fixpoint
end
theorem e79_k :KC e79:= .m (by kernel_rfl)
theorem e41_k :KC e41:= .m (by kernel_rfl)
theorem Dt :(∀h r,ef h=some r->FD e79 h r)/\(∀h r,cE h=some r->LD 79 0 [0] e79_0 h r)/\(∀h r,bW h=some r->FD e41 h r)/\(∀h r,bT h=some r->LD 41 0 [0] e41_0 h r):=ef.mutual_partial_correctness (FD e79) (LD 79 0 [0] e79_0) (FD e41) (LD 41 0 [0] e41_0)
 (fun _ h1 _ _ h=>FA e79 e79_k .n (.k (LH e79_0 h1) .n) (.trans (by kernel_rfl) h))
 (fun _ _ h1 h2 _ _ h=>LA e79_0 h1 (.k (FH e41 e41_k h2) .n) .n (.trans (by kernel_rfl) h))
 (fun _ _ _ h0 h2 h3 _ _ h=>FA e41 e41_k (.k DO (.k tE (.k ug (.k DR (.k jm (.k (FH e41 e41_k h2) (.k (FH e79 e79_k h0) .n))))))) (.k (LH e41_0 h3) (.k C7 .n)) (.trans (by kernel_rfl) h))
 (fun _ _ h2 h3 _ _ h=>LA e41_0 h3 (.k (FH e41 e41_k h2) .n) .n (.trans (by kernel_rfl) h))
theorem D5 :FC e41 bW:= .of e41_k Dt.2.2.1
def nV(x_:az×Int×ab×az×Int×ab):Option (Bool):=
 match x_ with
 | (w,wt,v,r,rt,u)=>
 lm (w,wt,ab.eta v,r,rt) >>=fun r_1=>
 some (decide (r_1.2=0)) >>=fun t25=>
 (if t25=true then eo (ab.eta r_1.1,ab.eta u)else some false) >>=fun r_4=>
 some (bif t25 then r_4 else false)
theorem e22_k :KC e22:= .m (by kernel_rfl)
theorem EF :FC e22 nV:= .fn e22_k (.k tY (.k qL .n)) .n fun _=>by kernel_rfl
end
end Go.Proofs.YtandcioiaooocaaGreat
