/- The functions of the program as functions of Lean, that its code does what they say, and what they answer; part A. -/
import Derived.Test.YtijpinendaoleaaGreatProg
import Derived.KernelRfl
import Derived.Shelf.SlGeneric
import Derived.Shelf.SlLaysF0
import Derived.Shelf.SlSortCmp.WholeK
import Derived.Lib.Small
import Derived.Test.YtijpinendaoleaaGreatRtLD

namespace Go.Proofs.YtijpinendaoleaaGreat
set_option linter.all false
section
open Go Go.Proofs.YtijpinendaoleaaGreat.Shv
open Tryz
set_option maxRecDepth 100000
structure jv where
 ID:Int
 Type_:Int
 Flag:Int
structure bE where
 Kind:Int
 A:Int
 B:Int
 C:Int
 Parts:List jv
structure aU where
 Nodes:List bE
structure aC where
 ID:Int
 Name:List UInt8
structure aH where
 ID:Int
 Data:List UInt8
structure ab where
 Kind:Int
 Bool_:Bool
 Int_:Int
 Str:List UInt8
 ID:Int
 Keys:List ab
 Items:List ab
 Rest:List aH
structure aj where
 ID:Int
 Name:List UInt8
 Type_:Int
 Critical:Bool
 HasDefault:Bool
 Default:ab
structure ae where
 Kind:Int
 Name:List UInt8
 Low:Int
 High:Int
 Max:Int
 Symbols:List aC
 Members:List aj
 Key:Int
 Elem:Int
 Open:Bool
structure av where
 Types:List ae
structure aF where
 ID:Int
 Critical:Bool
 Data:List UInt8
structure cz where
 Path:List Int
 Reason:Int
structure bn where
 id:Int
 text:List UInt8
structure mj where
 t:Int
 number:Int
structure aK where
 Value:ab
 Failure:cz
 OK:Bool
structure bj where
 s:av
structure gu where
 S:aU
 T:Int
 C:List Int
structure lA where
 D:gu
 C:List Int
abbrev tM :Nat:=0
abbrev qo :Nat:=1
abbrev tR :Nat:=2
def lr :jv:=⟨0,0,0⟩
def cf :bE:=⟨0,0,0,0,[]⟩
def tS :aU:=⟨[]⟩
def aR :aC:=⟨0,[]⟩
def az :aH:=⟨0,[]⟩
def ag :ab:=⟨0,false,0,[],0,[],[],[]⟩
def ap :aj:=⟨0,[],0,false,false,ag⟩
def af :ae:=⟨0,[],0,0,0,[],[],0,0,false⟩
def sC :av:=⟨[]⟩
def aN :aF:=⟨0,false,[]⟩
def xE :cz:=⟨[],0⟩
def jI :bn:=⟨0,[]⟩
def Hz :mj:=⟨0,0⟩
def D2 :aK:=⟨ag,xE,false⟩
def Fj :bj:=⟨sC⟩
def tT :gu:=⟨tS,0,[]⟩
def ED :lA:=⟨tT,[]⟩
def uD :Nat->Type
 | 0=>aU
 | 1=>bE
 | 2=>jv
 | 3=>ae
 | 4=>aC
 | 5=>aj
 | 6=>ab
 | 7=>aH
 | 8=>av
 | 9=>aF
 | 10=>cz
 | 11=>bn
 | 12=>mj
 | 13=>aK
 | 14=>bj
 | 15=>gu
 | 16=>lA
 | _=>Bool
def uTys :Nat->List Ty
 | 0=>[.slice (.nm 1)]
 | 1=>[.int .u8,.int .u8,.int .u8,.int .u8,.slice (.nm 2)]
 | 2=>[.int .u8,.int .u8,.int .u8]
 | 3=>[.int .i64,.str,.int .i64,.int .i64,.int .i64,.slice (.nm 4),.slice (.nm 5),.int .i64,.int .i64,.bool]
 | 4=>[.int .i64,.str]
 | 5=>[.int .i64,.str,.int .i64,.bool,.bool,.int .i64,.bool,.int .i64,.str,.int .i64,.slice (.nm 6),.slice (.nm 6),.slice (.nm 7)]
 | 6=>[.int .i64,.bool,.int .i64,.str,.int .i64,.slice (.nm 6),.slice (.nm 6),.slice (.nm 7)]
 | 7=>[.int .i64,.str]
 | 8=>[.slice (.nm 3)]
 | 9=>[.int .i64,.bool,.str]
 | 10=>[.slice (.int .i64),.int .i64]
 | 11=>[.int .i64,.str]
 | 12=>[.int .i64,.int .i64]
 | 13=>[.int .i64,.bool,.int .i64,.str,.int .i64,.slice (.nm 6),.slice (.nm 6),.slice (.nm 7),.slice (.int .i64),.int .i64,.bool]
 | 14=>[.slice (.nm 3)]
 | 15=>[.slice (.nm 1),.int .u8,.slice (.int .u8)]
 | 16=>[.slice (.nm 1),.int .u8,.slice (.int .u8),.slice (.int .u8)]
 | _=>[.bool]
def uFlds :(n:Nat)->uD n->List (Cell uD)
 | 0,(x:aU)=>[⟨.slice (.nm 1),x.Nodes⟩]
 | 1,(x:bE)=>[⟨.int .u8,x.Kind⟩,⟨.int .u8,x.A⟩,⟨.int .u8,x.B⟩,⟨.int .u8,x.C⟩,⟨.slice (.nm 2),x.Parts⟩]
 | 2,(x:jv)=>[⟨.int .u8,x.ID⟩,⟨.int .u8,x.Type_⟩,⟨.int .u8,x.Flag⟩]
 | 3,(x:ae)=>[⟨.int .i64,x.Kind⟩,⟨.str,x.Name⟩,⟨.int .i64,x.Low⟩,⟨.int .i64,x.High⟩,⟨.int .i64,x.Max⟩,⟨.slice (.nm 4),x.Symbols⟩,⟨.slice (.nm 5),x.Members⟩,⟨.int .i64,x.Key⟩,⟨.int .i64,x.Elem⟩,⟨.bool,x.Open⟩]
 | 4,(x:aC)=>[⟨.int .i64,x.ID⟩,⟨.str,x.Name⟩]
 | 5,(x:aj)=>[⟨.int .i64,x.ID⟩,⟨.str,x.Name⟩,⟨.int .i64,x.Type_⟩,⟨.bool,x.Critical⟩,⟨.bool,x.HasDefault⟩,⟨.int .i64,x.Default.Kind⟩,⟨.bool,x.Default.Bool_⟩,⟨.int .i64,x.Default.Int_⟩,⟨.str,x.Default.Str⟩,⟨.int .i64,x.Default.ID⟩,⟨.slice (.nm 6),x.Default.Keys⟩,⟨.slice (.nm 6),x.Default.Items⟩,⟨.slice (.nm 7),x.Default.Rest⟩]
 | 6,(x:ab)=>[⟨.int .i64,x.Kind⟩,⟨.bool,x.Bool_⟩,⟨.int .i64,x.Int_⟩,⟨.str,x.Str⟩,⟨.int .i64,x.ID⟩,⟨.slice (.nm 6),x.Keys⟩,⟨.slice (.nm 6),x.Items⟩,⟨.slice (.nm 7),x.Rest⟩]
 | 7,(x:aH)=>[⟨.int .i64,x.ID⟩,⟨.str,x.Data⟩]
 | 8,(x:av)=>[⟨.slice (.nm 3),x.Types⟩]
 | 9,(x:aF)=>[⟨.int .i64,x.ID⟩,⟨.bool,x.Critical⟩,⟨.str,x.Data⟩]
 | 10,(x:cz)=>[⟨.slice (.int .i64),x.Path⟩,⟨.int .i64,x.Reason⟩]
 | 11,(x:bn)=>[⟨.int .i64,x.id⟩,⟨.str,x.text⟩]
 | 12,(x:mj)=>[⟨.int .i64,x.t⟩,⟨.int .i64,x.number⟩]
 | 13,(x:aK)=>[⟨.int .i64,x.Value.Kind⟩,⟨.bool,x.Value.Bool_⟩,⟨.int .i64,x.Value.Int_⟩,⟨.str,x.Value.Str⟩,⟨.int .i64,x.Value.ID⟩,⟨.slice (.nm 6),x.Value.Keys⟩,⟨.slice (.nm 6),x.Value.Items⟩,⟨.slice (.nm 7),x.Value.Rest⟩,⟨.slice (.int .i64),x.Failure.Path⟩,⟨.int .i64,x.Failure.Reason⟩,⟨.bool,x.OK⟩]
 | 14,(x:bj)=>[⟨.slice (.nm 3),x.s.Types⟩]
 | 15,(x:gu)=>[⟨.slice (.nm 1),x.S.Nodes⟩,⟨.int .u8,x.T⟩,⟨.slice (.int .u8),x.C⟩]
 | 16,(x:lA)=>[⟨.slice (.nm 1),x.D.S.Nodes⟩,⟨.int .u8,x.D.T⟩,⟨.slice (.int .u8),x.D.C⟩,⟨.slice (.int .u8),x.C⟩]
 | _+17,(x:Bool)=>[⟨.bool,x⟩]
def uMake :(n:Nat)->List (Cell uD)->Option (uD n)
 | 0,l=>match Hs.dec uD (uTys 0) l with
  | some h=>some (⟨h⟩:aU)
  | none=>none
 | 1,l=>match Hs.dec uD (uTys 1) l with
  | some h=>some (⟨h.1,h.2.1,h.2.2.1,h.2.2.2.1,h.2.2.2.2⟩:bE)
  | none=>none
 | 2,l=>match Hs.dec uD (uTys 2) l with
  | some h=>some (⟨h.1,h.2.1,h.2.2⟩:jv)
  | none=>none
 | 3,l=>match Hs.dec uD (uTys 3) l with
  | some h=>some (⟨h.1,h.2.1,h.2.2.1,h.2.2.2.1,h.2.2.2.2.1,h.2.2.2.2.2.1,h.2.2.2.2.2.2.1,h.2.2.2.2.2.2.2.1,h.2.2.2.2.2.2.2.2.1,h.2.2.2.2.2.2.2.2.2⟩:ae)
  | none=>none
 | 4,l=>match Hs.dec uD (uTys 4) l with
  | some h=>some (⟨h.1,h.2⟩:aC)
  | none=>none
 | 5,l=>match Hs.dec uD (uTys 5) l with
  | some h=>some (⟨h.1,h.2.1,h.2.2.1,h.2.2.2.1,h.2.2.2.2.1,(⟨h.2.2.2.2.2.1,h.2.2.2.2.2.2.1,h.2.2.2.2.2.2.2.1,h.2.2.2.2.2.2.2.2.1,h.2.2.2.2.2.2.2.2.2.1,h.2.2.2.2.2.2.2.2.2.2.1,h.2.2.2.2.2.2.2.2.2.2.2.1,h.2.2.2.2.2.2.2.2.2.2.2.2⟩:ab)⟩:aj)
  | none=>none
 | 6,l=>match Hs.dec uD (uTys 6) l with
  | some h=>some (⟨h.1,h.2.1,h.2.2.1,h.2.2.2.1,h.2.2.2.2.1,h.2.2.2.2.2.1,h.2.2.2.2.2.2.1,h.2.2.2.2.2.2.2⟩:ab)
  | none=>none
 | 7,l=>match Hs.dec uD (uTys 7) l with
  | some h=>some (⟨h.1,h.2⟩:aH)
  | none=>none
 | 8,l=>match Hs.dec uD (uTys 8) l with
  | some h=>some (⟨h⟩:av)
  | none=>none
 | 9,l=>match Hs.dec uD (uTys 9) l with
  | some h=>some (⟨h.1,h.2.1,h.2.2⟩:aF)
  | none=>none
 | 10,l=>match Hs.dec uD (uTys 10) l with
  | some h=>some (⟨h.1,h.2⟩:cz)
  | none=>none
 | 11,l=>match Hs.dec uD (uTys 11) l with
  | some h=>some (⟨h.1,h.2⟩:bn)
  | none=>none
 | 12,l=>match Hs.dec uD (uTys 12) l with
  | some h=>some (⟨h.1,h.2⟩:mj)
  | none=>none
 | 13,l=>match Hs.dec uD (uTys 13) l with
  | some h=>some (⟨(⟨h.1,h.2.1,h.2.2.1,h.2.2.2.1,h.2.2.2.2.1,h.2.2.2.2.2.1,h.2.2.2.2.2.2.1,h.2.2.2.2.2.2.2.1⟩:ab),(⟨h.2.2.2.2.2.2.2.2.1,h.2.2.2.2.2.2.2.2.2.1⟩:cz),h.2.2.2.2.2.2.2.2.2.2⟩:aK)
  | none=>none
 | 14,l=>match Hs.dec uD (uTys 14) l with
  | some h=>some (⟨(⟨h⟩:av)⟩:bj)
  | none=>none
 | 15,l=>match Hs.dec uD (uTys 15) l with
  | some h=>some (⟨(⟨h.1⟩:aU),h.2.1,h.2.2⟩:gu)
  | none=>none
 | 16,l=>match Hs.dec uD (uTys 16) l with
  | some h=>some (⟨(⟨(⟨h.1⟩:aU),h.2.1,h.2.2.1⟩:gu),h.2.2.2⟩:lA)
  | none=>none
 | _+17,l=>match Hs.dec uD [.bool] l with
  | some (h:Bool)=>some h
  | none=>none
def eSheaveref07Part(x:jv):List T:=[.int .u8 x.ID,.int .u8 x.Type_,.int .u8 x.Flag]
def eSheaveref07Node(x:bE):List T:=[.int .u8 x.Kind,.int .u8 x.A,.int .u8 x.B,.int .u8 x.C,.slice (x.Parts.map eSheaveref07Part)]
def eSheaveref07Draft(x:aU):List T:=[.slice (x.Nodes.map eSheaveref07Node)]
def eSSymbol(x:aC):List T:=[.int .i64 x.ID,.str x.Name]
def eSRaw(x:aH):List T:=[.int .i64 x.ID,.str x.Data]
def ab.eta(x:ab):ab:=⟨x.Kind,x.Bool_,x.Int_,x.Str,x.ID,x.Keys,x.Items,x.Rest⟩
theorem ab.aD(x:ab):x.eta=x:=by cases x;rfl
mutual
def eSValue :ab->List T
 | ⟨a0,a1,a2,a3,a4,a5,a6,a7⟩=>[.int .i64 a0,.bool a1,.int .i64 a2,.str a3,.int .i64 a4,.slice (eSValueL a5),.slice (eSValueL a6),.slice (a7.map eSRaw)]
def eSValueL :List ab->List (List T)
 | []=>[]
 | v::r=>eSValue v::eSValueL r
end
theorem u7 :∀l,eSValueL l=l.map eSValue
 | []=>rfl
 | v::r=>by simp only[eSValueL,List.map];rw[u7 r]
theorem HA(x:ab):eSValue x=[.int .i64 x.Kind,.bool x.Bool_,.int .i64 x.Int_,.str x.Str,.int .i64 x.ID,.slice (x.Keys.map eSValue),.slice (x.Items.map eSValue),.slice (x.Rest.map eSRaw)]:=by cases x;simp only[eSValue,u7]
def eSMember(x:aj):List T:=[.int .i64 x.ID,.str x.Name,.int .i64 x.Type_,.bool x.Critical,.bool x.HasDefault,.int .i64 x.Default.Kind,.bool x.Default.Bool_,.int .i64 x.Default.Int_,.str x.Default.Str,.int .i64 x.Default.ID,.slice (x.Default.Keys.map eSValue),.slice (x.Default.Items.map eSValue),.slice (x.Default.Rest.map eSRaw)]
def eSType(x:ae):List T:=[.int .i64 x.Kind,.str x.Name,.int .i64 x.Low,.int .i64 x.High,.int .i64 x.Max,.slice (x.Symbols.map eSSymbol),.slice (x.Members.map eSMember),.int .i64 x.Key,.int .i64 x.Elem,.bool x.Open]
def eSSchema(x:av):List T:=[.slice (x.Types.map eSType)]
def eSField(x:aF):List T:=[.int .i64 x.ID,.bool x.Critical,.str x.Data]
def eSFailure(x:cz):List T:=[.slice (x.Path.map (fun y=>[.int .i64 y])),.int .i64 x.Reason]
def eEncodeEntry(x:bn):List T:=[.int .i64 x.id,.str x.text]
def eRelayStep(x:mj):List T:=[.int .i64 x.t,.int .i64 x.number]
def eSheaveref10Result(x:aK):List T:=[.int .i64 x.Value.Kind,.bool x.Value.Bool_,.int .i64 x.Value.Int_,.str x.Value.Str,.int .i64 x.Value.ID,.slice (x.Value.Keys.map eSValue),.slice (x.Value.Items.map eSValue),.slice (x.Value.Rest.map eSRaw),.slice (x.Failure.Path.map (fun y=>[.int .i64 y])),.int .i64 x.Failure.Reason,.bool x.OK]
def eEncodeReader(x:bj):List T:=[.slice (x.s.Types.map eSType)]
def eSheaveref08Draft(x:gu):List T:=[.slice (x.S.Nodes.map eSheaveref07Node),.int .u8 x.T,.slice (x.C.map (fun y=>[.int .u8 y]))]
def eSheavelaw13Two(x:lA):List T:=[.slice (x.D.S.Nodes.map eSheaveref07Node),.int .u8 x.D.T,.slice (x.D.C.map (fun y=>[.int .u8 y])),.slice (x.C.map (fun y=>[.int .u8 y]))]
def uEnc :(n:Nat)->uD n->List T
 | 0,x=>eSheaveref07Draft x
 | 1,x=>eSheaveref07Node x
 | 2,x=>eSheaveref07Part x
 | 3,x=>eSType x
 | 4,x=>eSSymbol x
 | 5,x=>eSMember x
 | 6,x=>eSValue x
 | 7,x=>eSRaw x
 | 8,x=>eSSchema x
 | 9,x=>eSField x
 | 10,x=>eSFailure x
 | 11,x=>eEncodeEntry x
 | 12,x=>eRelayStep x
 | 13,x=>eSheaveref10Result x
 | 14,x=>eEncodeReader x
 | 15,x=>eSheaveref08Draft x
 | 16,x=>eSheavelaw13Two x
 | _+17,(x:Bool)=>[.bool x]
def Un :Uni where
 D:=uD
 dfl:=fun n=>match n with
  | 0=>tS
  | 1=>cf
  | 2=>lr
  | 3=>af
  | 4=>aR
  | 5=>ap
  | 6=>ag
  | 7=>az
  | 8=>sC
  | 9=>aN
  | 10=>xE
  | 11=>jI
  | 12=>Hz
  | 13=>D2
  | 14=>Fj
  | 15=>tT
  | 16=>ED
  | _+17=>false
 flds:=uFlds
 make:=uMake
 tys:=uTys
 enc:=uEnc
 enc_eq:=fun n x=>match n,x with
  | 0,_=>rfl
  | 1,_=>rfl
  | 2,_=>rfl
  | 3,_=>rfl
  | 4,_=>rfl
  | 5,_=>rfl
  | 6,x=>HA x
  | 7,_=>rfl
  | 8,_=>rfl
  | 9,_=>rfl
  | 10,_=>rfl
  | 11,_=>rfl
  | 12,_=>rfl
  | 13,_=>rfl
  | 14,_=>rfl
  | 15,_=>rfl
  | 16,_=>rfl
  | _+17,_=>rfl
 mk_eq:=fun n l x h=>match n,x,h with
  | 0,x,h=>by
   simp only[uMake]at h;split at h
   . rename_i hh hd;cases h;exact Hs.dec_cells hd
   . cases h
  | 1,x,h=>by
   simp only[uMake]at h;split at h
   . rename_i hh hd;cases h;exact Hs.dec_cells hd
   . cases h
  | 2,x,h=>by
   simp only[uMake]at h;split at h
   . rename_i hh hd;cases h;exact Hs.dec_cells hd
   . cases h
  | 3,x,h=>by
   simp only[uMake]at h;split at h
   . rename_i hh hd;cases h;exact Hs.dec_cells hd
   . cases h
  | 4,x,h=>by
   simp only[uMake]at h;split at h
   . rename_i hh hd;cases h;exact Hs.dec_cells hd
   . cases h
  | 5,x,h=>by
   simp only[uMake]at h;split at h
   . rename_i hh hd;cases h;exact Hs.dec_cells hd
   . cases h
  | 6,x,h=>by
   simp only[uMake]at h;split at h
   . rename_i hh hd;cases h;exact Hs.dec_cells hd
   . cases h
  | 7,x,h=>by
   simp only[uMake]at h;split at h
   . rename_i hh hd;cases h;exact Hs.dec_cells hd
   . cases h
  | 8,x,h=>by
   simp only[uMake]at h;split at h
   . rename_i hh hd;cases h;exact Hs.dec_cells hd
   . cases h
  | 9,x,h=>by
   simp only[uMake]at h;split at h
   . rename_i hh hd;cases h;exact Hs.dec_cells hd
   . cases h
  | 10,x,h=>by
   simp only[uMake]at h;split at h
   . rename_i hh hd;cases h;exact Hs.dec_cells hd
   . cases h
  | 11,x,h=>by
   simp only[uMake]at h;split at h
   . rename_i hh hd;cases h;exact Hs.dec_cells hd
   . cases h
  | 12,x,h=>by
   simp only[uMake]at h;split at h
   . rename_i hh hd;cases h;exact Hs.dec_cells hd
   . cases h
  | 13,x,h=>by
   simp only[uMake]at h;split at h
   . rename_i hh hd;cases h;exact Hs.dec_cells hd
   . cases h
  | 14,x,h=>by
   simp only[uMake]at h;split at h
   . rename_i hh hd;cases h;exact Hs.dec_cells hd
   . cases h
  | 15,x,h=>by
   simp only[uMake]at h;split at h
   . rename_i hh hd;cases h;exact Hs.dec_cells hd
   . cases h
  | 16,x,h=>by
   simp only[uMake]at h;split at h
   . rename_i hh hd;cases h;exact Hs.dec_cells hd
   . cases h
  | _+17,x,h=>by
   simp only[uMake]at h;split at h
   . rename_i hh hd;cases h;exact Hs.dec_cells hd
   . cases h
 tys_eq:=fun n x=>match n,x with
  | 0,_=>rfl
  | 1,_=>rfl
  | 2,_=>rfl
  | 3,_=>rfl
  | 4,_=>rfl
  | 5,_=>rfl
  | 6,_=>rfl
  | 7,_=>rfl
  | 8,_=>rfl
  | 9,_=>rfl
  | 10,_=>rfl
  | 11,_=>rfl
  | 12,_=>rfl
  | 13,_=>rfl
  | 14,_=>rfl
  | 15,_=>rfl
  | 16,_=>rfl
  | _+17,_=>rfl
 tyOf:=fun e=>match e with
  | 3=>some (.int .i64)
  | 5=>some (.int .u8)
  | 9=>some .str
  | 41=>some (.nm 6)
  | 69=>some (.slice (.int .i64))
  | 89=>some (.nm 3)
  | 94=>some (.nm 4)
  | 100=>some (.nm 7)
  | 127=>some (.nm 5)
  | 155=>some (.nm 12)
  | 194=>some (.nm 9)
  | 233=>some (.nm 11)
  | _=>none
 own:=[([false,true,true,false],1,.int .i64)]
 pos:=fun n=>match n with
  | 0=>by decide
  | 1=>by decide
  | 2=>by decide
  | 3=>by decide
  | 4=>by decide
  | 5=>by decide
  | 6=>by decide
  | 7=>by decide
  | 8=>by decide
  | 9=>by decide
  | 10=>by decide
  | 11=>by decide
  | 12=>by decide
  | 13=>by decide
  | 14=>by decide
  | 15=>by decide
  | 16=>by decide
  | _+17=>Nat.zero_lt_one
theorem N6 :Un.Total:=fun n l h=>match n,h with
 | 0,h=>by
  obtain⟨x,hx⟩:=Hs.dec_ty (D:=uD) (ts:=uTys 0) h;exact⟨_,by show uMake 0 l=_;simp only[uMake,hx];rfl⟩
 | 1,h=>by
  obtain⟨x,hx⟩:=Hs.dec_ty (D:=uD) (ts:=uTys 1) h;exact⟨_,by show uMake 1 l=_;simp only[uMake,hx];rfl⟩
 | 2,h=>by
  obtain⟨x,hx⟩:=Hs.dec_ty (D:=uD) (ts:=uTys 2) h;exact⟨_,by show uMake 2 l=_;simp only[uMake,hx];rfl⟩
 | 3,h=>by
  obtain⟨x,hx⟩:=Hs.dec_ty (D:=uD) (ts:=uTys 3) h;exact⟨_,by show uMake 3 l=_;simp only[uMake,hx];rfl⟩
 | 4,h=>by
  obtain⟨x,hx⟩:=Hs.dec_ty (D:=uD) (ts:=uTys 4) h;exact⟨_,by show uMake 4 l=_;simp only[uMake,hx];rfl⟩
 | 5,h=>by
  obtain⟨x,hx⟩:=Hs.dec_ty (D:=uD) (ts:=uTys 5) h;exact⟨_,by show uMake 5 l=_;simp only[uMake,hx];rfl⟩
 | 6,h=>by
  obtain⟨x,hx⟩:=Hs.dec_ty (D:=uD) (ts:=uTys 6) h;exact⟨_,by show uMake 6 l=_;simp only[uMake,hx];rfl⟩
 | 7,h=>by
  obtain⟨x,hx⟩:=Hs.dec_ty (D:=uD) (ts:=uTys 7) h;exact⟨_,by show uMake 7 l=_;simp only[uMake,hx];rfl⟩
 | 8,h=>by
  obtain⟨x,hx⟩:=Hs.dec_ty (D:=uD) (ts:=uTys 8) h;exact⟨_,by show uMake 8 l=_;simp only[uMake,hx];rfl⟩
 | 9,h=>by
  obtain⟨x,hx⟩:=Hs.dec_ty (D:=uD) (ts:=uTys 9) h;exact⟨_,by show uMake 9 l=_;simp only[uMake,hx];rfl⟩
 | 10,h=>by
  obtain⟨x,hx⟩:=Hs.dec_ty (D:=uD) (ts:=uTys 10) h;exact⟨_,by show uMake 10 l=_;simp only[uMake,hx];rfl⟩
 | 11,h=>by
  obtain⟨x,hx⟩:=Hs.dec_ty (D:=uD) (ts:=uTys 11) h;exact⟨_,by show uMake 11 l=_;simp only[uMake,hx];rfl⟩
 | 12,h=>by
  obtain⟨x,hx⟩:=Hs.dec_ty (D:=uD) (ts:=uTys 12) h;exact⟨_,by show uMake 12 l=_;simp only[uMake,hx];rfl⟩
 | 13,h=>by
  obtain⟨x,hx⟩:=Hs.dec_ty (D:=uD) (ts:=uTys 13) h;exact⟨_,by show uMake 13 l=_;simp only[uMake,hx];rfl⟩
 | 14,h=>by
  obtain⟨x,hx⟩:=Hs.dec_ty (D:=uD) (ts:=uTys 14) h;exact⟨_,by show uMake 14 l=_;simp only[uMake,hx];rfl⟩
 | 15,h=>by
  obtain⟨x,hx⟩:=Hs.dec_ty (D:=uD) (ts:=uTys 15) h;exact⟨_,by show uMake 15 l=_;simp only[uMake,hx];rfl⟩
 | 16,h=>by
  obtain⟨x,hx⟩:=Hs.dec_ty (D:=uD) (ts:=uTys 16) h;exact⟨_,by show uMake 16 l=_;simp only[uMake,hx];rfl⟩
 | m+17,h=>by
  obtain⟨x,hx⟩:=Hs.dec_ty (D:=uD) (ts:=[.bool]) h;exact⟨x,by show uMake (m+17) l=_;simp only[uMake,hx];rfl⟩
end
section
open Go Go.Proofs.YtijpinendaoleaaGreat.Shv
open Tryz
set_option maxRecDepth 100000
open Go.Proofs Go.Proofs.YtijpinendaoleaaGreat Go.Shelf
theorem D3 :bG prog 90=true:=by kernel_rfl
def ic :FSpec Un:=pT Un 90 (.int .i64) 8
theorem Dn :FSnd prog ic:=Hr (sz:=1) (bytes:=8) (z:=[.t (.int .i64 0)]) func90 (by kernel_rfl) (by kernel_rfl) (by kernel_rfl) rfl rfl
theorem jl :FnC prog ic:=⟨D3,Dn⟩
theorem D4 :bG prog 103=true:=by kernel_rfl
def ie :FSpec Un:=kA Un 103 (.nm 6) 120
theorem Do :FSnd prog ie:=rZ (sz:=8) (bytes:=120) (z:=[.t (.int .i64 0),.t (.bool false),.t (.int .i64 0),.t (.str []),.t (.int .i64 0),.cap0,.cap0,.cap0]) func103 (by kernel_rfl) (by kernel_rfl) (by kernel_rfl) rfl rfl
theorem jm :FnC prog ie:=⟨D4,Do⟩
theorem D5 :bG prog 113=true:=by kernel_rfl
def ig :FSpec Un:=kA Un 113 (.nm 7) 24
theorem Dp :FSnd prog ig:=rZ (sz:=2) (bytes:=24) (z:=[.t (.int .i64 0),.t (.str [])]) func113 (by kernel_rfl) (by kernel_rfl) (by kernel_rfl) rfl rfl
theorem jn :FnC prog ig:=⟨D5,Dp⟩
instance:Inhabited bn:=⟨jI⟩
instance:Inhabited (Un.D 11):=⟨jI⟩
def sortLt(x y:bn):Bool:=decide (x.id < y.id)
def qp(l:List bn):Option (List bn):=some (pdqBy sortLt l)
section
open Go.Proofs Go.Proofs.YtijpinendaoleaaGreat Go.Sort Go.RowKit Go.Lib
theorem sortNaN(x:Int)(w:World):Calls prog 208 #[.int .i64 x] w fun e w'=>e= .returned (.bool false)/\w'=w:=by
 go_enter func208,ntmps208
 go_wp2
 go_ret
 exact⟨by simp,rfl⟩
set_option maxHeartbeats 1000000 in
theorem sortCmp(x y:Int)(w:World):Calls prog 174 #[.int .i64 x,.int .i64 y] w fun e w'=>e= .returned (.int .i64 (Lib.compareInt x y))/\w'=w:=by
 go_enter func174,ntmps174
 go_wp2_with (go_at_call 208;refine(sortNaN _ _).mono ?_;rintro e w' ⟨rfl,hw⟩;rw[hw])
 all_goals (go_ret;refine⟨?_,rfl⟩;unfold Lib.compareInt;(repeat' split) <;> first | rfl | (exfalso;omega))
def sortEnc(x:bn):List Value:=[.int .i64 x.id,.string ⟨x.text.toArray⟩]
set_option maxHeartbeats 1000000 in
theorem sortClo(x y:Int)(s t:ByteArray)(W:World):Calls prog 173 #[.agg #[.int .i64 x,.string s],.agg #[.int .i64 y,.string t]] W fun e w'=>e= .returned (.int .i64 (Lib.compareInt x y))/\∃q os',w'=grow (W.drewN q) os':=by
 have hcon:=fun W'=>sortCmp x y W'
 generalize Lib.compareInt x y=r at hcon ⊢
 go_enter func173,ntmps173
 go_wp2_with (go_at_call 174;refine(hcon _).mono ?_;rintro e w' ⟨rfl,rfl⟩)
 go_ret
 exact⟨rfl,0,_,by rw[alloc_eq_grow,alloc_eq_grow,grow_grow];rfl⟩
def yD :Go.Shelf.Ren:=⟨fun | 6=>172 | 15=>207 | 14=>206 | 28=>234 | 29=>235 | 20=>226 | 21=>227 | 22=>228 | 23=>229 | 24=>230 | 25=>231 | 26=>232 | 27=>233 | 46=>236 | 47=>237 | 48=>238 | 49=>239 | 50=>240 | 57=>241 | n=>n,fun | 22=>230 | 24=>233 | 25=>236 | 3=>3 | 39=>229 | 0=>0 | 53=>275 | 55=>164 | 4=>4 | 46=>269 | 45=>268 | 50=>157 | 5=>5 | 9=>9 | 66=>277 | 70=>281 | 76=>283 | 77=>284 | n=>n,fun | n=>n⟩
theorem layS :SlLaysF0.n6 prog yD:={
 mixed:=by kernel_rfl
 f6:=⟨f172.name,by decide,func172.trans (congrArg some (by kernel_rfl))⟩
 f14:=⟨f206.name,by decide,func206.trans (congrArg some (by kernel_rfl))⟩
 f15:=func207.trans (congrArg some (by kernel_rfl))
 f20:=⟨f226.name,by decide,func226.trans (congrArg some (by kernel_rfl))⟩
 f21:=⟨f227.name,by decide,func227.trans (congrArg some (by kernel_rfl))⟩
 f22:=⟨f228.name,by decide,func228.trans (congrArg some (by kernel_rfl))⟩
 f23:=⟨f229.name,by decide,func229.trans (congrArg some (by kernel_rfl))⟩
 f24:=⟨f230.name,by decide,func230.trans (congrArg some (by kernel_rfl))⟩
 f25:=⟨f231.name,by decide,func231.trans (congrArg some (by kernel_rfl))⟩
 f26:=⟨f232.name,by decide,func232.trans (congrArg some (by kernel_rfl))⟩
 f27:=⟨f233.name,by decide,func233.trans (congrArg some (by kernel_rfl))⟩
 f28:=func234.trans (congrArg some (by kernel_rfl))
 f29:=func235.trans (congrArg some (by kernel_rfl))
 f46:=⟨f236.name,by decide,func236.trans (congrArg some (by kernel_rfl))⟩
 f47:=func237.trans (congrArg some (by kernel_rfl))
 f48:=func238.trans (congrArg some (by kernel_rfl))
 f49:=⟨f239.name,by decide,func239.trans (congrArg some (by kernel_rfl))⟩
 f50:=⟨f240.name,by decide,func240.trans (congrArg some (by kernel_rfl))⟩
 f57:=⟨f241.name,by decide,func241.trans (congrArg some (by kernel_rfl))⟩
 t0:=underlying0
 a0:=isAgg0
 z0:=sizeOf0
 v0:=zeroValue0
 t3:=underlying3
 a3:=isAgg3
 z3:=sizeOf3
 v3:=zeroValue3
 t4:=underlying4
 a4:=isAgg4
 z4:=sizeOf4
 v4:=zeroValue4
 t5:=underlying5
 a5:=isAgg5
 z5:=sizeOf5
 v5:=zeroValue5
 t9:=underlying9
 a9:=isAgg9
 z9:=sizeOf9
 v9:=zeroValue9
 t22:=underlying230
 a22:=isAgg230
 z22:=sizeOf230
 v22:=zeroValue230
 t25:=underlying236
 a25:=isAgg236
 z25:=sizeOf236
 v25:=zeroValue236
 t39:=underlying229
 a39:=isAgg229
 z39:=sizeOf229
 v39:=zeroValue229
 t45:=underlying268
 a45:=isAgg268
 z45:=sizeOf268
 v45:=zeroValue268
 t46:=underlying269
 a46:=isAgg269
 z46:=sizeOf269
 v46:=zeroValue269
 t50:=underlying157
 a50:=isAgg157
 z50:=sizeOf157
 v50:=zeroValue157
 t53:=underlying275
 a53:=isAgg275
 z53:=sizeOf275
 v53:=zeroValue275
 t55:=underlying164
 a55:=isAgg164
 z55:=sizeOf164
 v55:=zeroValue164
 t66:=underlying277
 a66:=isAgg277
 z66:=sizeOf277
 v66:=zeroValue277
 t70:=underlying281
 a70:=isAgg281
 z70:=sizeOf281
 v70:=zeroValue281
 t76:=underlying283
 a76:=isAgg283
 z76:=sizeOf283
 v76:=zeroValue283
 t77:=underlying284
 a77:=isAgg284
 z77:=sizeOf284
 v77:=zeroValue284}
theorem xF :ltOf (fun x y:bn=>Lib.compareInt x.id y.id)=sortLt:=by
 funext x y
 unfold ltOf sortLt Lib.compareInt;by_cases h1:x.id < y.id
 . simp[h1]
 . by_cases h2:y.id < x.id <;> simp[h1,h2]
theorem sortSWO :SWO sortLt:=Lj (fun x:bn=>x.id)
set_option maxHeartbeats 2000000 in
theorem sortNoneI(p:Option Addr)(cap:Nat)(fv:Value)(w:World):Calls prog 226 #[.slice p 0 cap,.int .i64 0,.int .i64 0,fv] w fun e w'=>e= .returned (.tuple #[])/\w'=w:=by
 go_enter func226,ntmps226
 go_wp2
 refine wp_loop_rounds 1 ?_;rw[rounds_succ]
 go_wp2
 go_end0
 exact⟨rfl,rfl⟩
set_option maxHeartbeats 2000000 in
theorem sortNoneP(p:Option Addr)(cap:Nat)(lim:Int)(fv:Value)(w:World):Calls prog 206 #[.slice p 0 cap,.int .i64 0,.int .i64 0,.int .i64 lim,fv] w fun e w'=>e= .returned (.tuple #[])/\w'=w:=by
 have hi:=fun W=>sortNoneI p cap fv W
 go_enter func206,ntmps206
 go_wp2
 refine wp_loop_rounds 1 ?_;rw[rounds_succ]
 go_wp2_with (go_at_call 226;refine(hi _).mono ?_;rintro e w' ⟨rfl,rfl⟩)
 (try simp only[Exit.inBlock,Exit.then]);refine bodyPost_ret (results_none rfl _ _ _) rfl ?_
 exact⟨rfl,rfl⟩
set_option maxHeartbeats 2000000 in
theorem sortNone(p:Option Addr)(cap:Nat)(fv:Value)(w:World):Calls prog 172 #[.slice p 0 cap,fv] w fun e w'=>e= .returned (.tuple #[])/\w'=w:=by
 have hp:=fun lim W=>sortNoneP p cap lim fv W
 have hl:∀W,Calls prog 207 #[.int .u64 0] W fun e w'=>e= .returned (.int .i64 (Lib.bitLen 0:Nat))/\w'=W:=fun W=>by
  have h:=Any.bits_Len (SlLaysF0.n15.bits (P:=prog) (ρ:=yD) {layS with}) 0 W (by omega) (by omega);exact h
 go_enter func172,ntmps172
 go_wp2_with (first | (go_at_call 207;refine(hl _).mono ?_;rintro e w' ⟨rfl,rfl⟩) | (go_at_call 206;refine(hp _ _).mono ?_;rintro e w' ⟨rfl,rfl⟩))
 go_end0
 exact⟨rfl,rfl⟩
theorem sortWhole (blk off cap : Nat) (d : Array (Un.D 11)) (w : World) (hH : HoldsK sortEnc 2 w blk off d) (hblk : blk < w.heap.size) (hsz : d.size < 4611686018427387904):
 Calls prog 172 #[.slice (some ⟨blk,off,none⟩) d.size cap,.func (.func 173) #[] #[]] w fun e w'=>e= .returned (.tuple #[])/\∃n os,w'=sortWorldK sortEnc 2 w blk off n (pdq sortLt d 0 d.size (Lib.bitLen d.size) true true) os:=by
 have eg:∀args w,(callFunc 173 args).run prog w= .ok (.enter 173 args) w:=enters_of func173 (by kernel_rfl) rfl
 have h:=AnyQ.slices_SortFunc_eq (α:=bn) layS 2 isAgg233 sizeOf233 sortEnc (fun _=>rfl) (fun x v hv=>by simp[sortEnc]at hv;rcases hv with rfl | rfl <;> rfl) (fun x y=>Lib.compareInt x.id y.id) (by rw[xF];exact sortSWO) 173 #[] blk off cap d w eg (fun _ _ _ _ x y=>sortClo x.id y.id _ _ _) hH hblk hsz;rw[xF]at h;exact h
theorem Ml :bG prog 172=true:=by kernel_rfl
def qI :FSpec Un:=sortS Un 172 11 173 (pdqBy (α:=Un.D 11) sortLt)
theorem Et :FSnd prog qI:=Kr (U:=Un) (n:=11) sortEnc sortLt sortSWO (fun _=>rfl) (fun w S x j t v h hr=>Hy w S x.id x.text j t v h hr) sortWhole sortNone
end
theorem qK :FnC prog qI:=⟨Ml,Et⟩
def wL :Go.Shelf.Ren:=⟨fun | 240=>176 | 276=>209 | n=>n,fun | 0=>0 | 4=>4 | 9=>9 | 20=>20 | 37=>35 | 70=>198 | 72=>200 | 164=>256 | n=>n,fun n=>n⟩
theorem lay240 :Lays.n240 prog wL:={
 mixed:=by kernel_rfl
 f240:=func176.trans (congrArg some (by kernel_rfl))
 f276:=func209.trans (congrArg some (by kernel_rfl))
 t0:=underlying0
 a0:=isAgg0
 z0:=sizeOf0
 v0:=zeroValue0
 t4:=underlying4
 a4:=isAgg4
 z4:=sizeOf4
 v4:=zeroValue4
 t9:=underlying9
 a9:=isAgg9
 z9:=sizeOf9
 v9:=zeroValue9
 t20:=underlying20
 a20:=isAgg20
 z20:=sizeOf20
 v20:=zeroValue20
 t70:=underlying198
 a70:=isAgg198
 z70:=sizeOf198
 v70:=zeroValue198
 t72:=underlying200
 a72:=isAgg200
 z72:=sizeOf200
 v72:=zeroValue200
 t164:=underlying256
 a164:=isAgg256
 z164:=sizeOf256
 v164:=zeroValue256}
theorem layX72 :Builder.X72 prog wL:={
 sizeBuilder:=by kernel_rfl
 liesBuilder:=by kernel_rfl}
theorem Mm :bG prog 176=true:=by kernel_rfl
def iu :FSpec Un:=pU Un 176 200 5
theorem Eb :FSnd prog iu:=Iw lay240 layX72 rfl rfl
theorem jw :FnC prog iu:=⟨Mm,Eb⟩
theorem Ec :bG prog 90=true:=by kernel_rfl
def ik :FSpec Un:=kA Un 90 (.int .i64) 8
theorem DD :FSnd prog ik:=rZ (sz:=1) (bytes:=8) (z:=[.t (.int .i64 0)]) func90 (by kernel_rfl) (by kernel_rfl) (by kernel_rfl) rfl rfl
theorem lj :FnC prog ik:=⟨Ec,DD⟩
end
section
open Go Go.Proofs.YtijpinendaoleaaGreat.Shv
open Tryz
set_option maxRecDepth 100000
abbrev FC(e:FEnt)(F:Hs Un.D e.ts->Option (Hs Un.D e.us)):Prop:=FnC prog (e.s F)
abbrev LC(f kk:Nat)(p:List Nat)(e:LEnt)(F:Hs Un.D e.ts->Option (OSum Un e.outs)):Prop:=LpC prog f kk p e F
abbrev KC(e:FEnt):Prop:=Fok prog e
abbrev FD(e:FEnt):Hs Un.D e.ts->Hs Un.D e.us->Prop:=FQ prog Un e
abbrev LD(f kk:Nat)(p:List Nat)(e:LEnt):Hs Un.D e.ts->OSum Un e.outs->Prop:=LQ prog Un f kk p e
theorem FH(e:FEnt)(k:KC e){F:Hs Un.D e.ts->Option (Hs Un.D e.us)}(h:∀h r,F h=some r->FD e h r):FC e F:= .of k h
theorem LH(e:LEnt){f kk:Nat}{p:List Nat}{F:Hs Un.D e.ts->Option (OSum Un e.outs)}(h:∀h o,F h=some o->LD f kk p e h o):LC f kk p e F:= .of h
theorem FA(e:FEnt)(k:KC e){fs:List (FSpec Un)}(hf:FoC prog fs){ls:List (Nat×LSpec Un)}(hl:LoC prog e.f e.st.length [] ls){h:Hs Un.D e.ts}{r:Hs Un.D e.us}(hx:xbody (foS fs) (loL ls) prog e h=some r):FD e h r:= .at k hf hl hx
theorem LA(e:LEnt){f kk:Nat}{p:List Nat}{F:Hs Un.D e.ts->Option (OSum Un e.outs)}(hF:∀h o,F h=some o->LD f kk p e h o){fs:List (FSpec Un)}(hf:FoC prog fs){ls:List (Nat×LSpec Un)}(hl:LoC prog f kk p ls){h:Hs Un.D e.ts}{o:OSum Un e.outs}(hx:jc (foS fs) (loL ls) kk (pathF prog f p) e F h=some o):LD f kk p e h o:= .at hF hf hl hx
def e40 :FEnt:=⟨40,[.row 0,hh tI],[],[.nm 0,tI],hh tI,[],[tI],[]⟩
def e41 :FEnt:=⟨41,[hh tI],[],[tI],hh .bool,[],[.bool],[]⟩
def e42 :FEnt:=⟨42,[.row 1],[],[.nm 1],hh tI,[],[tI],[]⟩
def e43 :FEnt:=⟨43,[.row 1],[],[.nm 1],hh tI,[],[tI],[]⟩
def e44_0 :LEnt:=⟨0,⟨[(1,hP 0 0),(3,.c (.arr 1)),(4,hh tI)],[.brow 1,.arr tI]⟩,[(.slot 3,tI)],[(.slot 3,tI)],[tI,.nm 1,tLI],[⟨.exit 0,⟨[(3,.c (.arr 0))],[.arr tI]⟩,[],[tLI]⟩],[]⟩
def e44 :FEnt:=⟨44,[.row 1],[],[.nm 1],hh tLI,[],[tLI],[e44_0]⟩
def e131 :FEnt:=⟨131,[hh tI],[],[tI],hh .bool,[],[.bool],[]⟩
def e79_0 :LEnt:=⟨0,⟨[(3,hP 0 0),(7,hh tI),(9,hh tI)],[bb (tL 1)]⟩,[],[],[tI,tI,tL 1],[oR 6 tI,oX 0],[]⟩
def e79 :FEnt:=⟨79,[.row 0,hh tI,hh (.int .u8)],[],[.nm 0,tI,.int .u8],hh tI,[],[tI],[e79_0]⟩
def e75 :FEnt:=⟨75,[hh tI],[],[tI],hh .bool,[],[.bool],[]⟩
def e46_0 :LEnt:=⟨0,⟨[(1,hh (.int .u8)),(2,hP 0 0),(5,hh tI),(6,hh tI)],[bb (tL 1)]⟩,[],[],[.int .u8,tI,tI,tL 1],[oR 4 tI,oX 0],[]⟩
def e46 :FEnt:=⟨46,[.row 0,hh (.int .u8)],[],[.nm 0,.int .u8],hh tI,[],[tI],[e46_0]⟩
def e80 :FEnt:=⟨80,[.row 0,hh tI,hh (.int .u8)],[],[.nm 0,tI,.int .u8],.tup [.row 6,hh .bool],[],[.nm 6,.bool],[]⟩
def zS :LEnt:=⟨0,⟨[(1,hh tI),(2,hh .bool),(3,hP 0 0),(7,hP 1 0),(8,.c (.arr 2)),(9,hh tI),(10,hh tI)],[bb (tL 1),.brow 1,.arr (.nm 5)]⟩,[],[],[tI,.bool,tI,tI,tL 1,.nm 1,tL 5],[⟨.exit 2,⟨[(1,hh tI),(2,hh .bool),(3,hP 0 0),(7,hP 1 0),(8,.c (.arr 2)),(9,hh tI)],[bb (tL 1),.brow 1,.arr (.nm 5)]⟩,[],[tI,.bool,tI,tL 1,.nm 1,tL 5]⟩],[]⟩
def e45_0 :LEnt:=⟨0,⟨[(1,hh tI),(2,hh .bool),(3,hP 0 0),(7,hP 1 0),(8,.c (.arr 2)),(9,hh tI)],[bb (tL 1),.brow 1,.arr (.nm 5)]⟩,[(.slot 8,.nm 5)],[(.slot 8,.nm 5)],[tI,.bool,tI,tL 1,.nm 1,tL 5],[⟨.exit 0,⟨[(8,.c (.arr 0))],[.arr (.nm 5)]⟩,[],[tL 5]⟩],[zS]⟩
def e45 :FEnt:=⟨45,[.row 0,hh tI,hh .bool],[],[.nm 0,tI,.bool],hh (tL 5),[],[tL 5],[e45_0]⟩
def zT :LEnt:=⟨0,⟨[(1,hP 0 0),(2,hP 1 0),(4,hh tI),(5,hP 2 0),(6,hh tI),(8,hP 3 0),(9,hh tLI),(10,hh tI)],[bb (tL 1),.box [.cap0],.box [.arr 4],.box [.hole tI,.hole .str,.hole tI,.hole tI,.hole tI,.arr 5,.cap0,.hole tI,.hole tI,.hole .bool],.arr (.nm 3),.arr (.nm 4)]⟩,[(.via 8 5,.nm 4)],[(.via 8 5,.nm 4)],[tI,tI,tLI,tI,tL 1,tI,.str,tI,tI,tI,tI,tI,.bool,tL 3,tL 4],[⟨.exit 3,⟨[(1,hP 0 0),(2,hP 1 0),(4,hh tI),(5,hP 2 0),(6,hh tI),(8,hP 3 0)],[bb (tL 1),.box [.cap0],.box [.arr 4],.box [.hole tI,.hole .str,.hole tI,.hole tI,.hole tI,.arr 5,.cap0,.hole tI,.hole tI,.hole .bool],.arr (.nm 3),.arr (.nm 4)]⟩,[],[tI,tI,tL 1,tI,.str,tI,tI,tI,tI,tI,.bool,tL 3,tL 4]⟩],[]⟩
def e10_0 :LEnt:=⟨0,⟨[(1,hP 0 0),(2,hP 1 0),(4,hh tI),(5,hP 2 0),(6,hh tI)],[bb (tL 1),.box [.cap0],.box [.arr 3],.arr (.nm 3)]⟩,[(.via 5 0,.nm 3)],[(.via 5 0,.nm 3)],[tI,tI,tL 1,tL 3],[⟨.exit 0,⟨[(2,hP 0 0),(5,hP 1 0)],[.box [.cap0],.box [.arr 2],.arr (.nm 3)]⟩,[],[tL 3]⟩],[zT]⟩
def e10 :FEnt:=⟨10,[.row 0],[],[.nm 0],.tup [.row 8,hh .bool],[],[.nm 8,.bool],[e10_0]⟩
def e47 :FEnt:=⟨47,[],[],[],.row 8,[],[.nm 8],[]⟩
def AK :LEnt:=⟨0,⟨[(0,hh (tL 4)),(1,hh (tL 4)),(12,hh tI),(13,hh tI)],[]⟩,[],[],[tL 4,tL 4,tI,tI],[oR 4 .bool,oX 0],[]⟩
def e220 :FEnt:=⟨220,[hh (tL 4),hh (tL 4)],[],[tL 4,tL 4],hh .bool,[],[.bool],[AK]⟩
def AL :LEnt:=⟨0,⟨[(0,hh (tL 7)),(1,hh (tL 7)),(12,hh tI),(13,hh tI)],[]⟩,[],[],[tL 7,tL 7,tI,tI],[oR 4 .bool,oX 0],[]⟩
def e224 :FEnt:=⟨224,[hh (tL 7),hh (tL 7)],[],[tL 7,tL 7],hh .bool,[],[.bool],[AL]⟩
def mq :LEnt:=⟨0,⟨[(1,hh (tL 6)),(2,.c (.fn 223 [])),(15,hh (tL 6)),(16,hh tI),(17,hh tI)],[]⟩,[],[],[tL 6,tL 6,tI,tI],[oR 6 .bool,oX 0],[]⟩
def kB :FEnt:=⟨225,[hh (tL 6),hh (tL 6),.c (.fn 223 [])],[],[tL 6,tL 6],hh .bool,[],[.bool],[mq]⟩
def e223 :FEnt:=⟨223,[.row 6,.row 6],[],[.nm 6,.nm 6],hh .bool,[],[.bool],[]⟩
def e222 :FEnt:=⟨222,[.row 5,.row 5],[],[.nm 5,.nm 5],hh .bool,[],[.bool],[]⟩
def AM :LEnt:=⟨0,⟨[(1,hh (tL 5)),(2,.c (.fn 222 [])),(15,hh (tL 5)),(16,hh tI),(17,hh tI)],[]⟩,[],[],[tL 5,tL 5,tI,tI],[oR 6 .bool,oX 0],[]⟩
def e221 :FEnt:=⟨221,[hh (tL 5),hh (tL 5),.c (.fn 222 [])],[],[tL 5,tL 5],hh .bool,[],[.bool],[AM]⟩
def e201 :FEnt:=⟨201,[.row 3,.row 3],[],[.nm 3,.nm 3],hh .bool,[],[.bool],[]⟩
def e216 :FEnt:=⟨216,[hh (.int .u8)],[],[.int .u8],hh .bool,[],[.bool],[]⟩
def e217 :FEnt:=⟨217,[hh (.int .u8)],[],[.int .u8],hh .bool,[],[.bool],[]⟩
def AN :LEnt:=⟨0,⟨[(0,hh .str),(18,hh tI),(19,hh tI)],[]⟩,[],[],[.str,tI,tI],[oR 2 .bool,oX 0],[]⟩
def e198 :FEnt:=⟨198,[hh .str],[],[.str],hh .bool,[],[.bool],[AN]⟩
def AP :LEnt:=⟨0,⟨[(0,hh tLI),(1,hh tLS),(5,.c (.mp 0)),(9,hh tLI),(10,hh tI),(11,hh tI)],[.set]⟩,[],[],[tLI,tLS,tLI,tI,tI,tLS],[oR 4 .bool,⟨.exit 0,⟨[(0,hh tLI)],[]⟩,[],[tLI]⟩],[]⟩
def e218 :FEnt:=⟨218,[hh tLI,hh tLS],[],[tLI,tLS],hh .bool,[],[.bool],[AP]⟩
def AQ :LEnt:=⟨0,⟨[(0,hh (tL 4)),(3,.c (.arr 0)),(4,.c (.arr 1)),(7,hh (tL 4)),(8,hh tI),(9,hh tI)],[.arr tI,.arr .str]⟩,[(.slot 3,tI),(.slot 4,.str)],[(.slot 3,tI),(.slot 4,.str)],[tL 4,tL 4,tI,tI,tLI,tLS],[⟨.exit 0,⟨[(0,hh (tL 4)),(3,.c (.arr 0)),(4,.c (.arr 1))],[.arr tI,.arr .str]⟩,[],[tL 4,tLI,tLS]⟩],[]⟩
def e199 :FEnt:=⟨199,[hh (tL 4)],[],[tL 4],hh .bool,[],[.bool],[AQ]⟩
def e219 :FEnt:=⟨219,[.row 6],[],[.nm 6],hh .bool,[],[.bool],[]⟩
def AS :LEnt:=⟨0,⟨[(1,hP 0 0),(3,.c (.arr 1)),(4,.c (.arr 2)),(8,hh (tL 5)),(9,hh tI),(10,hh tI)],[.brow 3,.arr tI,.arr .str]⟩,[(.slot 3,tI),(.slot 4,.str)],[(.slot 3,tI),(.slot 4,.str)],[tL 5,tI,tI,.nm 3,tLI,tLS],[oR 2 .bool,⟨.exit 0,⟨[(1,hP 0 0),(3,.c (.arr 1)),(4,.c (.arr 2))],[.brow 3,.arr tI,.arr .str]⟩,[],[.nm 3,tLI,tLS]⟩],[]⟩
def e200 :FEnt:=⟨200,[.row 3],[],[.nm 3],hh .bool,[],[.bool],[AS]⟩
def e158 :FEnt:=⟨158,[.row 3],[],[.nm 3],hh .bool,[],[.bool],[]⟩
def AT :LEnt:=⟨0,⟨[(1,hP 0 0),(3,.c (.arr 1)),(7,hh (tL 5)),(8,hh tI),(9,hh tI)],[.brow 3,.arr tI]⟩,[(.slot 3,tI)],[(.slot 3,tI)],[tL 5,tI,tI,.nm 3,tLI],[⟨.exit 0,⟨[(1,hP 0 0),(3,.c (.arr 1))],[.brow 3,.arr tI]⟩,[],[.nm 3,tLI]⟩],[]⟩
def e159 :FEnt:=⟨159,[.row 3],[],[.nm 3],hh tLI,[],[tLI],[AT]⟩
def yE :LEnt:=⟨0,⟨[(1,hP 0 0),(3,.c (.mp 1)),(5,hP 2 0),(14,hh (tL 3)),(15,hh tI),(16,hh tI),(38,hh tLI),(39,hh tI),(40,hh tI)],[bb (tL 3),.set,.box [.hole tI,.hole .str,.hole tI,.hole tI,.hole tI,.hole (tL 4),.hole (tL 5),.hole tI,.hole tI,.hole .bool]]⟩,[],[],[tL 3,tI,tI,tLI,tI,tI,tL 3,tLS,tI,.str,tI,tI,tI,tL 4,tL 5,tI,tI,.bool],[oR 2 tI,⟨.exit 2,⟨[(1,hP 0 0),(3,.c (.mp 1)),(5,hP 2 0),(14,hh (tL 3)),(15,hh tI),(16,hh tI)],[bb (tL 3),.set,.box [.hole tI,.hole .str,.hole tI,.hole tI,.hole tI,.hole (tL 4),.hole (tL 5),.hole tI,.hole tI,.hole .bool]]⟩,[],[tL 3,tI,tI,tL 3,tLS,tI,.str,tI,tI,tI,tL 4,tL 5,tI,tI,.bool]⟩],[]⟩
def AU :LEnt:=⟨0,⟨[(1,hP 0 0),(3,.c (.mp 1)),(14,hh (tL 3)),(15,hh tI),(16,hh tI)],[bb (tL 3),.set]⟩,[],[],[tL 3,tI,tI,tL 3,tLS],[oR 2 tI,oX 0],[yE]⟩
def e125 :FEnt:=⟨125,[.row 8],[],[.nm 8],hh tI,[],[tI],[AU]⟩
def e177 :FEnt:=⟨177,[hP 0 0,hh tI],[.box [.hole (tL 3),.arr 1,.hole tLI,.hole tI],.arr tI],[tI,tL 3,tLI,tI,tLI],.tup [.row 6,hh .bool],[.box [.hole (tL 3),.arr 2,.arr 3,.hole tI],.gone,.arr tI,.arr tI],[.nm 6,.bool,tL 3,tI,tLI,tLI],[]⟩
def AV :LEnt:=⟨0,⟨[(0,hh .str),(4,hh (.int .u64)),(17,hh tI),(18,hh tI)],[]⟩,[],[],[.str,.int .u64,tI,tI],[⟨.exit 0,⟨[(4,hh (.int .u64))],[]⟩,[],[.int .u64]⟩],[]⟩
def e168 :FEnt:=⟨168,[hh .str],[],[.str],.tup [hh (.int .u64),hh tI],[],[.int .u64,tI],[AV]⟩
def e169 :FEnt:=⟨169,[hh (.int .u64)],[],[.int .u64],hh tI,[],[tI],[]⟩
def e191 :FEnt:=⟨191,[.row 4,hP 0 0],[bb tI],[.nm 4,tI],hh .bool,[bb tI],[.bool,tI],[]⟩
def AX :LEnt:=⟨0,⟨[(0,hh (tL 4)),(1,.c (.fn 191 [0])),(7,hh tI),(8,hh tI)],[bb tI]⟩,[],[],[tL 4,tI,tI,tI],[⟨.ret,⟨[(4,hh tI)],[bb tI]⟩,[],[tI,tI]⟩,⟨.exit 0,⟨[],[bb tI]⟩,[],[tI]⟩],[]⟩
def e190 :FEnt:=⟨190,[hh (tL 4),.c (.fn 191 [0])],[bb tI],[tL 4,tI],hh tI,[bb tI],[tI,tI],[AX]⟩
def e143 :FEnt:=⟨143,[.row 3,hh tI],[],[.nm 3,tI],.tup [hh tI,hh .bool],[],[tI,.bool],[]⟩
def e178 :FEnt:=⟨178,[hP 0 0,hh tI,hh tI,hh .str],[.box [.hole (tL 3),.arr 1,.hole tLI,.hole tI],.arr tI],[tI,tI,.str,tL 3,tLI,tI,tLI],.tup [.row 6,hh .bool],[.box [.hole (tL 3),.arr 2,.hole tLI,.hole tI],.gone,.arr tI],[.nm 6,.bool,tL 3,tLI,tI,tLI],[]⟩
def AY :LEnt:=⟨0,⟨[(0,hh .str),(5,hh (.int .u64)),(10,hh tI),(11,hh tI)],[]⟩,[],[],[.str,.int .u64,tI,tI],[⟨.ret,⟨[(2,hh (.int .u64)),(3,hh tI),(4,hh tI)],[]⟩,[],[.int .u64,tI,tI]⟩,oX 0],[]⟩
def e204 :FEnt:=⟨204,[hh .str],[],[.str],.tup [hh (.int .u64),hh tI,hh tI],[],[.int .u64,tI,tI],[AY]⟩
def e165 :FEnt:=⟨165,[hh .str],[],[.str],.tup [hh (.int .u64),hh .str,hh .bool],[],[.int .u64,.str,.bool],[]⟩
def e128 :FEnt:=⟨128,[hh .str],[],[.str],.tup [hh tI,hh .str,hh tI],[],[tI,.str,tI],[]⟩
def e167 :FEnt:=⟨167,[.row 5,hP 0 0],[bb tI],[.nm 5,tI],hh .bool,[bb tI],[.bool,tI],[]⟩
def AZ :LEnt:=⟨0,⟨[(0,hh (tL 5)),(1,.c (.fn 167 [0])),(7,hh tI),(8,hh tI)],[bb tI]⟩,[],[],[tL 5,tI,tI,tI],[⟨.ret,⟨[(4,hh tI)],[bb tI]⟩,[],[tI,tI]⟩,⟨.exit 0,⟨[],[bb tI]⟩,[],[tI]⟩],[]⟩
def e166 :FEnt:=⟨166,[hh (tL 5),.c (.fn 167 [0])],[bb tI],[tL 5,tI],hh tI,[bb tI],[tI,tI],[AZ]⟩
def e129 :FEnt:=⟨129,[.row 3,hh tI],[],[.nm 3,tI],.tup [hh tI,hh .bool],[],[tI,.bool],[]⟩
def e179 :FEnt:=⟨179,[hP 0 0,.row 3,hh .str],[.box [.hole (tL 3),.arr 1,.hole tLI,.hole tI],.arr tI],[.nm 3,.str,tL 3,tLI,tI,tLI],.tup [.row 6,hh .bool],[.box [.hole (tL 3),.arr 2,.hole tLI,.hole tI],.gone,.arr tI],[.nm 6,.bool,tL 3,tLI,tI,tLI],[]⟩
def e202 :FEnt:=⟨202,[hh .str],[],[.str],.tup [hh .str,hh .str,hh .bool],[],[.str,.str,.bool],[]⟩
def A0 :LEnt:=⟨0,⟨[(4,.c (.arr 0)),(5,hh .str)],[.arr .str]⟩,[(.slot 4,.str)],[(.slot 4,.str)],[.str,tLS],[⟨.ret,⟨[(2,.c (.cap0)),(3,hh tI)],[]⟩,[],[tI]⟩,⟨.exit 0,⟨[(4,.c (.arr 0))],[.arr .str]⟩,[],[tLS]⟩],[]⟩
def e161 :FEnt:=⟨161,[hh .str],[],[.str],.tup [hh tLS,hh tI],[],[tLS,tI],[A0]⟩
def mR :LEnt:=⟨0,⟨[(0,hP 0 0),(4,hP 2 0),(6,hP 3 0),(10,hP 4 0),(38,hh tLS),(39,hh tI),(40,hh tI)],[.box [.hole (tL 3),.arr 5,.hole tLI,.hole tI],.gone,.brow 3,.box [.hole tI,.hole .bool,.hole tI,.hole .str,.hole tI,.cap0,.cap0,.cap0],.box [.hole tI,.hole .bool,.hole tI,.hole .str,.hole tI,.cap0,.arr 6,.cap0],.arr tI,.arr (.nm 6)]⟩,[(.via 10 6,.nm 6)],[(.via 10 6,.nm 6)],[tLS,tI,tI,tL 3,tLI,tI,.nm 3,tI,.bool,tI,.str,tI,tI,.bool,tI,.str,tI,tLI,tL 6],[⟨.ret,⟨[(6,hP 2 0),(7,hh .bool)],[.box [.hole (tL 3),.arr 3,.hole tLI,.hole tI],.gone,.brow 6,.arr tI]⟩,[],[.bool,tL 3,tLI,tI,.nm 6,tLI]⟩,⟨.exit 0,⟨[(6,hP 2 0),(10,hP 3 0)],[.box [.hole (tL 3),.arr 4,.hole tLI,.hole tI],.gone,.box [.hole tI,.hole .bool,.hole tI,.hole .str,.hole tI,.cap0,.cap0,.cap0],.box [.hole tI,.hole .bool,.hole tI,.hole .str,.hole tI,.cap0,.arr 5,.cap0],.arr tI,.arr (.nm 6)]⟩,[],[tL 3,tLI,tI,tI,.bool,tI,.str,tI,tI,.bool,tI,.str,tI,tLI,tL 6]⟩],[]⟩
def e180 :FEnt:=⟨180,[hP 0 0,.row 3,hh .str],[.box [.hole (tL 3),.arr 1,.hole tLI,.hole tI],.arr tI],[.nm 3,.str,tL 3,tLI,tI,tLI],.tup [.row 6,hh .bool],[.box [.hole (tL 3),.arr 2,.hole tLI,.hole tI],.gone,.arr tI],[.nm 6,.bool,tL 3,tLI,tI,tLI],[mR]⟩
def e133 :FEnt:=⟨133,[hh tI],[],[tI],hh (.int .u64),[],[.int .u64],[]⟩
def e214 :FEnt:=⟨214,[hh (.int .u64)],[],[.int .u64],hh .bool,[],[.bool],[]⟩
def e195 :FEnt:=⟨195,[hh (.int .u64),hh (.int .u64)],[],[.int .u64,.int .u64],hh tI,[],[tI],[]⟩
def e208 :FEnt:=⟨208,[hh tI],[],[tI],hh .bool,[],[.bool],[]⟩
def e174 :FEnt:=⟨174,[hh tI,hh tI],[],[tI,tI],hh tI,[],[tI],[]⟩
def e215 :FEnt:=⟨215,[hh .str],[],[.str],hh .bool,[],[.bool],[]⟩
def e197 :FEnt:=⟨197,[hh .str,hh .str],[],[.str,.str],hh tI,[],[tI],[]⟩
def A3 :LEnt:=⟨0,⟨[(3,hh tI),(6,hh tLI),(7,hh tI),(8,hh tI)],[]⟩,[],[],[tI,tLI,tI,tI],[oR 2 tI,⟨.exit 0,⟨[(3,hh tI)],[]⟩,[],[tI]⟩],[]⟩
def e196 :FEnt:=⟨196,[hh tLI],[],[tLI],hh tI,[],[tI],[A3]⟩
def e151 :FEnt:=⟨151,[.row 6,.row 6],[],[.nm 6,.nm 6],hh tI,[],[tI],[]⟩
def mS :LEnt:=⟨0,⟨[(0,hP 0 0),(4,hP 2 0),(6,hP 3 0),(8,hh tLS),(10,hP 4 0),(11,hh tI)],[.box [.hole (tL 3),.arr 5,.hole tLI,.hole tI],.gone,.brow 3,.box [.hole tI,.hole .bool,.hole tI,.hole .str,.hole tI,.cap0,.cap0,.cap0],.box [.hole tI,.hole .bool,.hole tI,.hole .str,.hole tI,.arr 6,.cap0,.cap0],.arr tI,.arr (.nm 6)]⟩,[(.via 10 5,.nm 6)],[(.via 10 5,.nm 6)],[tLS,tI,tL 3,tLI,tI,.nm 3,tI,.bool,tI,.str,tI,tI,.bool,tI,.str,tI,tLI,tL 6],[⟨.ret,⟨[(6,hP 2 0),(7,hh .bool)],[.box [.hole (tL 3),.arr 3,.hole tLI,.hole tI],.gone,.brow 6,.arr tI]⟩,[],[.bool,tL 3,tLI,tI,.nm 6,tLI]⟩,⟨.exit 0,⟨[(0,hP 0 0),(4,hP 2 0),(6,hP 3 0),(8,hh tLS),(10,hP 4 0)],[.box [.hole (tL 3),.arr 5,.hole tLI,.hole tI],.gone,.brow 3,.box [.hole tI,.hole .bool,.hole tI,.hole .str,.hole tI,.cap0,.cap0,.cap0],.box [.hole tI,.hole .bool,.hole tI,.hole .str,.hole tI,.arr 6,.cap0,.cap0],.arr tI,.arr (.nm 6)]⟩,[],[tLS,tL 3,tLI,tI,.nm 3,tI,.bool,tI,.str,tI,tI,.bool,tI,.str,tI,tLI,tL 6]⟩],[]⟩
def A4 :LEnt:=⟨1,⟨[(0,hP 0 0),(4,hP 2 0),(6,hP 3 0),(8,hh tLS),(10,hP 4 0),(14,hh tI)],[.box [.hole (tL 3),.arr 5,.hole tLI,.hole tI],.gone,.brow 3,.box [.hole tI,.hole .bool,.hole tI,.hole .str,.hole tI,.cap0,.cap0,.cap0],.box [.hole tI,.hole .bool,.hole tI,.hole .str,.hole tI,.arr 6,.cap0,.cap0],.arr tI,.arr (.nm 6)]⟩,[],[],[tLS,tI,tL 3,tLI,tI,.nm 3,tI,.bool,tI,.str,tI,tI,.bool,tI,.str,tI,tLI,tL 6],[⟨.ret,⟨[(6,hP 2 0),(7,hh .bool)],[.box [.hole (tL 3),.arr 3,.arr 4,.hole tI],.gone,.brow 6,.arr tI,.arr tI]⟩,[],[.bool,tL 3,tI,.nm 6,tLI,tLI]⟩,⟨.exit 2,⟨[(0,hP 0 0),(4,hP 2 0),(6,hP 3 0),(8,hh tLS),(10,hP 4 0)],[.box [.hole (tL 3),.arr 5,.hole tLI,.hole tI],.gone,.brow 3,.box [.hole tI,.hole .bool,.hole tI,.hole .str,.hole tI,.cap0,.cap0,.cap0],.box [.hole tI,.hole .bool,.hole tI,.hole .str,.hole tI,.arr 6,.cap0,.cap0],.arr tI,.arr (.nm 6)]⟩,[],[tLS,tL 3,tLI,tI,.nm 3,tI,.bool,tI,.str,tI,tI,.bool,tI,.str,tI,tLI,tL 6]⟩],[]⟩
def mT :LEnt:=⟨2,⟨[(0,hP 0 0),(4,hP 2 0),(6,hP 3 0),(8,hh tLS),(10,hP 4 0),(15,hh tI)],[.box [.hole (tL 3),.arr 5,.hole tLI,.hole tI],.gone,.brow 3,.box [.hole tI,.hole .bool,.hole tI,.hole .str,.hole tI,.cap0,.cap0,.cap0],.box [.hole tI,.hole .bool,.hole tI,.hole .str,.hole tI,.arr 6,.arr 7,.cap0],.arr tI,.arr (.nm 6),.arr (.nm 6)]⟩,[(.via 10 6,.nm 6)],[(.via 10 6,.nm 6)],[tLS,tI,tL 3,tLI,tI,.nm 3,tI,.bool,tI,.str,tI,tI,.bool,tI,.str,tI,tLI,tL 6,tL 6],[⟨.ret,⟨[(6,hP 2 0),(7,hh .bool)],[.box [.hole (tL 3),.arr 3,.hole tLI,.hole tI],.gone,.brow 6,.arr tI]⟩,[],[.bool,tL 3,tLI,tI,.nm 6,tLI]⟩,⟨.exit 4,⟨[(6,hP 2 0),(10,hP 3 0)],[.box [.hole (tL 3),.arr 4,.hole tLI,.hole tI],.gone,.box [.hole tI,.hole .bool,.hole tI,.hole .str,.hole tI,.cap0,.cap0,.cap0],.box [.hole tI,.hole .bool,.hole tI,.hole .str,.hole tI,.arr 5,.arr 6,.cap0],.arr tI,.arr (.nm 6),.arr (.nm 6)]⟩,[],[tL 3,tLI,tI,tI,.bool,tI,.str,tI,tI,.bool,tI,.str,tI,tLI,tL 6,tL 6]⟩],[]⟩
def e181 :FEnt:=⟨181,[hP 0 0,.row 3,hh .str],[.box [.hole (tL 3),.arr 1,.hole tLI,.hole tI],.arr tI],[.nm 3,.str,tL 3,tLI,tI,tLI],.tup [.row 6,hh .bool],[.box [.hole (tL 3),.arr 2,.hole tLI,.hole tI],.gone,.arr tI],[.nm 6,.bool,tL 3,tLI,tI,tLI],[mS,A4,mT]⟩
def A5 :LEnt:=⟨0,⟨[(4,.c (.arr 0)),(5,hh (.int .u64)),(6,hh .str)],[.arr (.nm 9)]⟩,[(.slot 4,.nm 9)],[(.slot 4,.nm 9)],[.int .u64,.str,tL 9],[⟨.ret,⟨[(2,.c (.cap0)),(3,hh tI)],[]⟩,[],[tI]⟩,⟨.exit 0,⟨[(4,.c (.arr 0))],[.arr (.nm 9)]⟩,[],[tL 9]⟩],[]⟩
def e160 :FEnt:=⟨160,[hh .str],[],[.str],.tup [hh (tL 9),hh tI],[],[tL 9,tI],[A5]⟩
def e211 :FEnt:=⟨211,[.row 9,hP 0 0],[.brow 5],[.nm 9,.nm 5],hh .bool,[.brow 5],[.bool,.nm 5],[]⟩
def A6 :LEnt:=⟨0,⟨[(0,hh (tL 9)),(1,.c (.fn 211 [0])),(7,hh tI),(8,hh tI)],[.brow 5]⟩,[],[],[tL 9,tI,tI,.nm 5],[⟨.ret,⟨[(4,hh tI)],[.brow 5]⟩,[],[tI,.nm 5]⟩,⟨.exit 0,⟨[],[.brow 5]⟩,[],[.nm 5]⟩],[]⟩
def e210 :FEnt:=⟨210,[hh (tL 9),.c (.fn 211 [0])],[.brow 5],[tL 9,.nm 5],hh tI,[.brow 5],[tI,.nm 5],[A6]⟩
def mU :LEnt:=⟨0,⟨[(1,hP 0 0),(2,hP 1 0),(20,.c (.arr 2)),(21,hh tI),(22,hh tI)],[.box [.hole tI,.hole .bool,.hole tI,.hole .str,.hole tI,.arr 2,.arr 3,.arr 4],.box [.hole tI,.hole .bool,.hole tI,.hole .str,.hole tI,.cap0,.cap0,.cap0],.arr (.nm 6),.arr (.nm 6),.arr (.nm 7)]⟩,[],[],[tI,tI,tI,.bool,tI,.str,tI,tI,.bool,tI,.str,tI,tL 6,tL 6,tL 7],[⟨.exit 0,⟨[(1,hP 0 0),(2,hP 1 0)],[.box [.hole tI,.hole .bool,.hole tI,.hole .str,.hole tI,.arr 2,.arr 3,.arr 4],.box [.hole tI,.hole .bool,.hole tI,.hole .str,.hole tI,.cap0,.cap0,.cap0],.arr (.nm 6),.arr (.nm 6),.arr (.nm 7)]⟩,[],[tI,.bool,tI,.str,tI,tI,.bool,tI,.str,tI,tL 6,tL 6,tL 7]⟩],[]⟩
def mV :LEnt:=⟨1,⟨[(1,hP 0 0),(2,hP 1 0),(35,.c (.arr 2)),(36,hh tI),(37,hh tI)],[.box [.hole tI,.hole .bool,.hole tI,.hole .str,.hole tI,.arr 3,.arr 2,.arr 4],.box [.hole tI,.hole .bool,.hole tI,.hole .str,.hole tI,.cap0,.cap0,.cap0],.arr (.nm 6),.arr (.nm 6),.arr (.nm 7)]⟩,[],[],[tI,tI,tI,.bool,tI,.str,tI,tI,.bool,tI,.str,tI,tL 6,tL 6,tL 7],[⟨.exit 2,⟨[(1,hP 0 0),(2,hP 1 0)],[.box [.hole tI,.hole .bool,.hole tI,.hole .str,.hole tI,.arr 2,.arr 3,.arr 4],.box [.hole tI,.hole .bool,.hole tI,.hole .str,.hole tI,.cap0,.cap0,.cap0],.arr (.nm 6),.arr (.nm 6),.arr (.nm 7)]⟩,[],[tI,.bool,tI,.str,tI,tI,.bool,tI,.str,tI,tL 6,tL 6,tL 7]⟩],[]⟩
def e212 :FEnt:=⟨212,[.row 6],[],[.nm 6],.row 6,[],[.nm 6],[mU,mV]⟩
def mW :LEnt:=⟨0,⟨[(0,hP 0 0),(4,hP 2 0),(6,hP 3 0),(8,hh (tL 9)),(10,hP 4 0),(39,hh (tL 5)),(40,hh tI),(41,hh tI)],[.box [.hole (tL 3),.arr 5,.hole tLI,.hole tI],.gone,.brow 3,.box [.hole tI,.hole .bool,.hole tI,.hole .str,.hole tI,.cap0,.cap0,.cap0],.box [.hole tI,.hole .bool,.hole tI,.hole .str,.hole tI,.cap0,.arr 6,.cap0],.arr tI,.arr (.nm 6)]⟩,[(.via 10 6,.nm 6)],[(.via 10 6,.nm 6)],[tL 9,tL 5,tI,tI,tL 3,tLI,tI,.nm 3,tI,.bool,tI,.str,tI,tI,.bool,tI,.str,tI,tLI,tL 6],[⟨.ret,⟨[(6,hP 2 0),(7,hh .bool)],[.box [.hole (tL 3),.arr 3,.hole tLI,.hole tI],.gone,.brow 6,.arr tI]⟩,[],[.bool,tL 3,tLI,tI,.nm 6,tLI]⟩,⟨.exit 0,⟨[(0,hP 0 0),(4,hP 2 0),(6,hP 3 0),(8,hh (tL 9)),(10,hP 4 0)],[.box [.hole (tL 3),.arr 5,.hole tLI,.hole tI],.gone,.brow 3,.box [.hole tI,.hole .bool,.hole tI,.hole .str,.hole tI,.cap0,.cap0,.cap0],.box [.hole tI,.hole .bool,.hole tI,.hole .str,.hole tI,.cap0,.arr 6,.cap0],.arr tI,.arr (.nm 6)]⟩,[],[tL 9,tL 3,tLI,tI,.nm 3,tI,.bool,tI,.str,tI,tI,.bool,tI,.str,tI,tLI,tL 6]⟩],[]⟩
def A7 :LEnt:=⟨1,⟨[(0,hP 0 0),(4,hP 2 0),(6,hP 3 0),(10,hP 4 0),(117,hh (tL 9)),(118,hh tI),(119,hh tI)],[.box [.hole (tL 3),.arr 5,.hole tLI,.hole tI],.gone,.brow 3,.box [.hole tI,.hole .bool,.hole tI,.hole .str,.hole tI,.cap0,.cap0,.cap0],.box [.hole tI,.hole .bool,.hole tI,.hole .str,.hole tI,.cap0,.arr 6,.arr 7],.arr tI,.arr (.nm 6),.arr (.nm 7)]⟩,[(.via 10 7,.nm 7)],[(.via 10 7,.nm 7)],[tL 9,tI,tI,tL 3,tLI,tI,.nm 3,tI,.bool,tI,.str,tI,tI,.bool,tI,.str,tI,tLI,tL 6,tL 7],[⟨.ret,⟨[(6,hP 2 0),(7,hh .bool)],[.box [.hole (tL 3),.arr 3,.arr 4,.hole tI],.gone,.brow 6,.arr tI,.arr tI]⟩,[],[.bool,tL 3,tI,.nm 6,tLI,tLI]⟩,⟨.exit 3,⟨[(6,hP 2 0),(10,hP 3 0)],[.box [.hole (tL 3),.arr 4,.hole tLI,.hole tI],.gone,.box [.hole tI,.hole .bool,.hole tI,.hole .str,.hole tI,.cap0,.cap0,.cap0],.box [.hole tI,.hole .bool,.hole tI,.hole .str,.hole tI,.cap0,.arr 5,.arr 6],.arr tI,.arr (.nm 6),.arr (.nm 7)]⟩,[],[tL 3,tLI,tI,tI,.bool,tI,.str,tI,tI,.bool,tI,.str,tI,tLI,tL 6,tL 7]⟩],[]⟩
def e182 :FEnt:=⟨182,[hP 0 0,.row 3,hh .str],[.box [.hole (tL 3),.arr 1,.hole tLI,.hole tI],.arr tI],[.nm 3,.str,tL 3,tLI,tI,tLI],.tup [.row 6,hh .bool],[.box [.hole (tL 3),.arr 2,.hole tLI,.hole tI],.gone,.arr tI],[.nm 6,.bool,tL 3,tLI,tI,tLI],[mW,A7]⟩
def e139 :FEnt:=⟨139,[hP 0 0,hh tI,hh .str],[.box [.hole (tL 3),.arr 1,.hole tLI,.hole tI],.arr tI],[tI,.str,tL 3,tLI,tI,tLI],.tup [.row 6,hh .bool],[.box [.hole (tL 3),.arr 2,.hole tLI,.hole tI],.gone,.arr tI],[.nm 6,.bool,tL 3,tLI,tI,tLI],[]⟩
def e83 :FEnt:=⟨83,[.row 8,hh tI,hh .str],[],[.nm 8,tI,.str],.tup [.row 6,.row 10,hh tI],[],[.nm 6,.nm 10,tI],[]⟩
def e50 :FEnt:=⟨50,[.row 8,hh tI,hh .str],[],[.nm 8,tI,.str],.tup [.row 6,hh tI],[],[.nm 6,tI],[]⟩
def e77 :FEnt:=⟨77,[.row 8,hh tI],[],[.nm 8,tI],hh tI,[],[tI],[]⟩
def e193 :FEnt:=⟨193,[.row 6],[],[.nm 6],.row 6,[],[.nm 6],[]⟩
def e148 :FEnt:=⟨148,[.row 6],[],[.nm 6],hh .bool,[],[.bool],[]⟩
def e149 :FEnt:=⟨149,[hh tI],[],[tI],hh .bool,[],[.bool],[]⟩
def e194 :FEnt:=⟨194,[.row 6,hP 0 0,hP 1 0,hP 2 0],[bb (tL 3),bb tI,bb .bool],[.nm 6,tL 3,tI,.bool],hh .bool,[bb (tL 3),bb tI,bb .bool],[.bool,tL 3,tI,.bool],[]⟩
def mr :LEnt:=⟨0,⟨[(0,hh (tL 6)),(1,.c (.fn 194 [0,1,2])),(7,hh tI),(8,hh tI)],[bb (tL 3),bb tI,bb .bool]⟩,[],[],[tL 6,tI,tI,tL 3,tI,.bool],[⟨.ret,⟨[(4,hh tI)],[bb (tL 3),bb tI,bb .bool]⟩,[],[tI,tL 3,tI,.bool]⟩,⟨.exit 0,⟨[],[bb (tL 3),bb tI,bb .bool]⟩,[],[tL 3,tI,.bool]⟩],[]⟩
def kC :FEnt:=⟨192,[hh (tL 6),.c (.fn 194 [0,1,2])],[bb (tL 3),bb tI,bb .bool],[tL 6,tL 3,tI,.bool],hh tI,[bb (tL 3),bb tI,bb .bool],[tI,tL 3,tI,.bool],[mr]⟩
def kD :FEnt:=⟨144,[hh (tL 6),.c (.fn 194 [0,1,2])],[bb (tL 3),bb tI,bb .bool],[tL 6,tL 3,tI,.bool],hh .bool,[bb (tL 3),bb tI,bb .bool],[.bool,tL 3,tI,.bool],[]⟩
def e150 :FEnt:=⟨150,[.row 8,hh tI,hh (tL 6),hh .bool],[],[.nm 8,tI,tL 6,.bool],hh .bool,[],[.bool],[]⟩
def A8 :LEnt:=⟨0,⟨[(3,hh .bool),(4,hP 0 0),(6,hP 1 0),(9,hP 2 0),(111,hh (tL 7)),(112,hh tI),(113,hh tI)],[bb (tL 3),.brow 6,.box [.hole tI,.hole .str,.hole tI,.hole tI,.hole tI,.hole (tL 4),.hole (tL 5),.hole tI,.hole tI,.hole .bool]]⟩,[],[],[.bool,tL 7,tI,tI,tL 3,.nm 6,tI,.str,tI,tI,tI,tL 4,tL 5,tI,tI,.bool],[oR 8 .bool,⟨.exit 1,⟨[(3,hh .bool),(4,hP 0 0),(6,hP 1 0),(9,hP 2 0)],[bb (tL 3),.box [.hole tI,.hole .bool,.hole tI,.hole .str,.hole tI,.hole (tL 6),.hole (tL 6),.hole (tL 7)],.box [.hole tI,.hole .str,.hole tI,.hole tI,.hole tI,.hole (tL 4),.hole (tL 5),.hole tI,.hole tI,.hole .bool]]⟩,[],[.bool,tL 3,tI,.bool,tI,.str,tI,tL 6,tL 6,tL 7,tI,.str,tI,tI,tI,tL 4,tL 5,tI,tI,.bool]⟩],[]⟩
def mX :LEnt:=⟨1,⟨[(3,hh .bool),(4,hP 0 0),(6,hP 1 0),(150,hh (tL 5)),(151,hh tI),(152,hh tI)],[bb (tL 3),.box [.hole tI,.hole .bool,.hole tI,.hole .str,.hole tI,.hole (tL 6),.hole (tL 6),.hole (tL 7)]]⟩,[],[],[.bool,tL 5,tI,tI,tL 3,tI,.bool,tI,.str,tI,tL 6,tL 6,tL 7],[oR 8 .bool,oX 3],[]⟩
def A9 :LEnt:=⟨2,⟨[(3,hh .bool),(4,hP 0 0),(6,hP 1 0),(9,hP 2 0),(20,hh tI)],[bb (tL 3),.brow 6,.box [.hole tI,.hole .str,.hole tI,.hole tI,.hole tI,.hole (tL 4),.hole (tL 5),.hole tI,.hole tI,.hole .bool]]⟩,[],[],[.bool,tI,tL 3,.nm 6,tI,.str,tI,tI,tI,tL 4,tL 5,tI,tI,.bool],[oR 8 .bool,⟨.exit 5,⟨[(3,hh .bool),(4,hP 0 0),(6,hP 1 0),(9,hP 2 0)],[bb (tL 3),.brow 6,.box [.hole tI,.hole .str,.hole tI,.hole tI,.hole tI,.hole (tL 4),.hole (tL 5),.hole tI,.hole tI,.hole .bool]]⟩,[],[.bool,tL 3,.nm 6,tI,.str,tI,tI,tI,tL 4,tL 5,tI,tI,.bool]⟩],[]⟩
def e112 :FEnt:=⟨112,[.row 8,hh tI,.row 6,hh .bool],[],[.nm 8,tI,.nm 6,.bool],hh .bool,[],[.bool],[A8,mX,A9]⟩
def e86 :FEnt:=⟨86,[.row 8,hh tI,.row 6],[],[.nm 8,tI,.nm 6],hh .bool,[],[.bool],[]⟩
def e81 :FEnt:=⟨81,[.row 8,hh tI,.row 6],[],[.nm 8,tI,.nm 6],hh tI,[],[tI],[]⟩
def Ba :LEnt:=⟨0,⟨[(0,hh (.int .u64)),(3,hP 0 0),(4,hh tI)],[.arr (.int .u8)]⟩,[],[],[.int .u64,tI,.slice (.int .u8)],[⟨.exit 0,⟨[(3,hP 0 0),(4,hh tI)],[.arr (.int .u8)]⟩,[],[tI,.slice (.int .u8)]⟩],[]⟩
def e132 :FEnt:=⟨132,[hh (.int .u64)],[],[.int .u64],hh .str,[],[.str],[Ba]⟩
def mt :LEnt:=⟨0,⟨[(1,hh (tL 6)),(2,.c (.fn 205 [])),(15,hh (tL 6)),(16,hh tI),(17,hh tI)],[]⟩,[],[],[tL 6,tL 6,tI,tI],[oR 6 .bool,oX 0],[]⟩
def kE :FEnt:=⟨225,[hh (tL 6),hh (tL 6),.c (.fn 205 [])],[],[tL 6,tL 6],hh .bool,[],[.bool],[mt]⟩
def e205 :FEnt:=⟨205,[.row 6,.row 6],[],[.nm 6,.nm 6],hh .bool,[],[.bool],[]⟩
def e170 :FEnt:=⟨170,[.row 5,.row 6],[],[.nm 5,.nm 6],hh .bool,[],[.bool],[]⟩
def Bb :LEnt:=⟨0,⟨[(0,hh (.int .u64)),(3,hP 0 0),(4,hh tI)],[.arr (.int .u8)]⟩,[],[],[.int .u64,tI,.slice (.int .u8)],[⟨.exit 0,⟨[(0,hh (.int .u64)),(3,hP 0 0),(4,hh tI)],[.arr (.int .u8)]⟩,[],[.int .u64,tI,.slice (.int .u8)]⟩],[]⟩
def e175 :FEnt:=⟨175,[hh (.int .u64)],[],[.int .u64],hh .str,[],[.str],[Bb]⟩
def e137 :FEnt:=⟨137,[hh .str],[],[.str],hh .str,[],[.str],[]⟩
def e171 :FEnt:=⟨171,[hh tI,hh .bool,hh .str],[],[tI,.bool,.str],hh .str,[],[.str],[]⟩
def e136 :FEnt:=⟨136,[hP 0 0,hh .str],[.bld 200 ((.bufc 1)),.buf 5],[.str,.str],.tup [hh tI,.c (.dead)],[.bld 200 ((.bufc 2)),.gone,.buf 5],[tI,.str],[]⟩
def e138 :FEnt:=⟨138,[hP 0 0],[.bld 200 ((.bufc 1)),.buf 5],[.str],hh .str,[.bld 200 ((.bufc 1)),.gone],[.str],[]⟩
def mY :LEnt:=⟨0,⟨[(0,hP 0 0),(3,hh tI),(6,hP 1 0),(9,.c (.arr 2)),(18,hh (tL 5)),(19,hh tI),(20,hh tI)],[.box [.hole (tL 3),.hole tI],.brow 6,.arr (.nm 11)]⟩,[(.slot 9,.nm 11)],[(.slot 9,.nm 11)],[tI,tL 5,tI,tI,tL 3,tI,.nm 6,tL 11],[⟨.exit 0,⟨[(6,hP 1 0),(9,.c (.arr 2))],[.box [.hole (tL 3),.hole tI],.brow 6,.arr (.nm 11)]⟩,[],[tL 3,tI,.nm 6,tL 11]⟩],[]⟩
def Bc :LEnt:=⟨1,⟨[(9,.c (.arr 1)),(57,hh (tL 7)),(58,hh tI),(59,hh tI)],[.box [.hole (tL 3),.hole tI],.arr (.nm 11)]⟩,[],[],[tL 7,tI,tI,tL 3,tI,tL 11],[⟨.exit 2,⟨[(9,.c (.arr 1))],[.box [.hole (tL 3),.hole tI],.arr (.nm 11)]⟩,[],[tL 3,tI,tL 11]⟩],[]⟩
def Bd :LEnt:=⟨2,⟨[(14,hP 1 0),(77,.c (.arr 2)),(78,hh tI),(79,hh tI)],[.box [.hole (tL 3),.hole tI],.bld 200 ((.bufc 3)),.arr (.nm 11),.buf 5]⟩,[],[],[tI,tI,tL 3,tI,tL 11,.str],[⟨.exit 4,⟨[(14,hP 1 0)],[.box [.hole (tL 3),.hole tI],.bld 200 ((.bufc 2)),.buf 5]⟩,[],[tL 3,tI,.str]⟩],[]⟩
def e134 :FEnt:=⟨134,[hP 0 0,.row 3,.row 6,hh tI],[.box [.hole (tL 3),.hole tI]],[.nm 3,.nm 6,tI,tL 3,tI],hh .str,[.box [.hole (tL 3),.hole tI]],[.str,tL 3,tI],[mY,Bc,Bd]⟩
def e135 :FEnt:=⟨135,[hP 0 0,.row 3,.row 6,hh tI],[.box [.hole (tL 3),.hole tI]],[.nm 3,.nm 6,tI,tL 3,tI],hh .str,[.box [.hole (tL 3),.hole tI]],[.str,tL 3,tI],[]⟩
def e82_0 :LEnt:=⟨0,⟨[(0,hP 0 0),(3,hh tI),(6,hP 1 0),(9,hP 2 0),(10,hP 3 0),(84,hh (tL 6)),(85,hh tI),(86,hh tI)],[.box [.hole (tL 3),.hole tI],.brow 6,.brow 3,.bld 200 ((.bufc 4)),.buf 5]⟩,[],[],[tI,tL 6,tI,tI,tL 3,tI,.nm 6,.nm 3,.str],[⟨.exit 1,⟨[(10,hP 1 0)],[.box [.hole (tL 3),.hole tI],.bld 200 ((.bufc 2)),.buf 5]⟩,[],[tL 3,tI,.str]⟩],[]⟩
def e82 :FEnt:=⟨82,[hP 0 0,hh tI,.row 6,hh tI],[.box [.hole (tL 3),.hole tI]],[tI,.nm 6,tI,tL 3,tI],hh .str,[.box [.hole (tL 3),.hole tI]],[.str,tL 3,tI],[e82_0]⟩
def e49 :FEnt:=⟨49,[.row 8,hh tI,.row 6],[],[.nm 8,tI,.nm 6],.tup [hh .str,hh tI],[],[.str,tI],[]⟩
def e12 :FEnt:=⟨12,[.row 8,hh tI,hh .str],[],[.nm 8,tI,.str],.tup [hh .str,hh tI],[],[.str,tI],[]⟩
def e48 :FEnt:=⟨48,[hh tI,hh tI,hh (tL 7)],[],[tI,tI,tL 7],.row 6,[],[.nm 6],[]⟩
def e85 :FEnt:=⟨85,[.row 8,hh tI],[],[.nm 8,tI],hh tI,[],[tI],[]⟩
def e53 :FEnt:=⟨53,[.row 8,hh tI,.row 6],[],[.nm 8,tI,.nm 6],hh tI,[],[tI],[]⟩
def e87 :FEnt:=⟨87,[.row 3,.row 6],[],[.nm 3,.nm 6],hh .bool,[],[.bool],[]⟩
def e145 :FEnt:=⟨145,[.row 6,hP 0 0,hP 1 0],[bb (tL 3),.brow 3],[.nm 6,tL 3,.nm 3],hh .bool,[bb (tL 3),.brow 3],[.bool,tL 3,.nm 3],[]⟩
def Ku :LEnt:=⟨0,⟨[(0,hh (tL 6)),(1,.c (.fn 145 [0,1])),(7,hh tI),(8,hh tI)],[bb (tL 3),.brow 3]⟩,[],[],[tL 6,tI,tI,tL 3,.nm 3],[⟨.ret,⟨[(4,hh tI)],[bb (tL 3),.brow 3]⟩,[],[tI,tL 3,.nm 3]⟩,⟨.exit 0,⟨[],[bb (tL 3),.brow 3]⟩,[],[tL 3,.nm 3]⟩],[]⟩
def Mn :FEnt:=⟨192,[hh (tL 6),.c (.fn 145 [0,1])],[bb (tL 3),.brow 3],[tL 6,tL 3,.nm 3],hh tI,[bb (tL 3),.brow 3],[tI,tL 3,.nm 3],[Ku]⟩
def Mo :FEnt:=⟨144,[hh (tL 6),.c (.fn 145 [0,1])],[bb (tL 3),.brow 3],[tL 6,tL 3,.nm 3],hh .bool,[bb (tL 3),.brow 3],[.bool,tL 3,.nm 3],[]⟩
def e88 :FEnt:=⟨88,[.row 8,.row 3,.row 6],[],[.nm 8,.nm 3,.nm 6],hh .bool,[],[.bool],[]⟩
def e89_0 :LEnt:=⟨0,⟨[(2,hP 0 0),(3,hP 1 0),(5,.c (.arr 2)),(11,hh tI),(12,hh tI)],[.brow 3,.brow 6,.arr (.nm 12)]⟩,[(.slot 5,.nm 12)],[(.slot 5,.nm 12)],[tI,tI,.nm 3,.nm 6,tL 12],[⟨.exit 0,⟨[(5,.c (.arr 0))],[.arr (.nm 12)]⟩,[],[tL 12]⟩],[]⟩
def e89 :FEnt:=⟨89,[.row 3,.row 6],[],[.nm 3,.nm 6],hh (tL 12),[],[tL 12],[e89_0]⟩
def Lk :LEnt:=⟨0,⟨[(3,hh tLI),(4,hP 1 0),(6,hP 2 0),(10,.c (.arr 3)),(39,hh (tL 12)),(40,hh tI),(41,hh tI)],[.gone,bb (tL 3),.brow 6,.arr tLI]⟩,[(.slot 10,tLI)],[(.slot 10,tLI)],[tLI,tL 12,tI,tI,tL 3,.nm 6,.slice tLI],[⟨.exit 0,⟨[(10,.c (.arr 1))],[.gone,.arr tLI]⟩,[],[.slice tLI]⟩],[]⟩
def e54_a :FEnt:=⟨54,[.row 8,hh tI,.row 6,.c (.arr 0)],[.arr tI],[.nm 8,tI,.nm 6,tLI],hh (.slice tLI),[.gone],[.slice tLI],[Lk]⟩
def Ll :LEnt:=⟨0,⟨[(3,hh tLI),(4,hP 0 0),(6,hP 1 0),(10,.c (.arr 2)),(39,hh (tL 12)),(40,hh tI),(41,hh tI)],[bb (tL 3),.brow 6,.arr tLI]⟩,[(.slot 10,tLI)],[(.slot 10,tLI)],[tLI,tL 12,tI,tI,tL 3,.nm 6,.slice tLI],[⟨.exit 0,⟨[(10,.c (.arr 0))],[.arr tLI]⟩,[],[.slice tLI]⟩],[]⟩
def e54_b :FEnt:=⟨54,[.row 8,hh tI,.row 6,hh tLI],[],[.nm 8,tI,.nm 6,tLI],hh (.slice tLI),[],[.slice tLI],[Ll]⟩
def e15 :FEnt:=⟨15,[.row 8,hh tI,.row 6],[],[.nm 8,tI,.nm 6],.tup [hh (.slice tLI),hh tI],[],[.slice tLI,tI],[]⟩
def e67 :FEnt:=⟨67,[.row 8,hh tI,.row 6],[],[.nm 8,tI,.nm 6],hh .bool,[],[.bool],[]⟩
def e68_0 :LEnt:=⟨0,⟨[(4,hP 0 0),(6,hP 1 0),(7,hP 2 0),(8,hP 3 0),(10,hP 4 0),(55,hh (tL 12)),(56,hh tI),(57,hh tI)],[bb (tL 3),.brow 6,.brow 6,.box [.hole tI,.hole .bool,.hole tI,.hole .str,.hole tI,.cap0,.cap0,.cap0],.box [.hole tI,.hole .bool,.hole tI,.hole .str,.hole tI,.hole (tL 6),.arr 5,.hole (tL 7)],.arr (.nm 6)]⟩,[],[],[tL 12,tI,tI,tL 3,.nm 6,.nm 6,tI,.bool,tI,.str,tI,tI,.bool,tI,.str,tI,tL 6,tL 7,tL 6],[⟨.exit 1,⟨[(8,hP 0 0),(10,hP 1 0)],[.box [.hole tI,.hole .bool,.hole tI,.hole .str,.hole tI,.cap0,.cap0,.cap0],.box [.hole tI,.hole .bool,.hole tI,.hole .str,.hole tI,.hole (tL 6),.arr 2,.hole (tL 7)],.arr (.nm 6)]⟩,[],[tI,.bool,tI,.str,tI,tI,.bool,tI,.str,tI,tL 6,tL 7,tL 6]⟩],[]⟩
def e68 :FEnt:=⟨68,[.row 8,hh tI,.row 6,.row 6],[],[.nm 8,tI,.nm 6,.nm 6],.row 6,[],[.nm 6],[e68_0]⟩
def e27 :FEnt:=⟨27,[.row 8,hh tI,.row 6,.row 6],[],[.nm 8,tI,.nm 6,.nm 6],.tup [.row 6,hh tI],[],[.nm 6,tI],[]⟩
def e37 :FEnt:=⟨37,[.row 8,hh tI,hh .str],[],[.nm 8,tI,.str],hh .bool,[],[.bool],[]⟩
def e11 :FEnt:=⟨11,[],[],[],hh .bool,[],[.bool],[]⟩
def e115 :FEnt:=⟨115,[.row 3],[],[.nm 3],.row 3,[],[.nm 3],[]⟩
def mZ :LEnt:=⟨0,⟨[(0,hh (tL 6)),(1,hh (tL 6)),(5,hh tI)],[]⟩,[],[],[tL 6,tL 6,tI],[oR 4 .bool,oX 0],[]⟩
def e105 :FEnt:=⟨105,[hh (tL 6),hh (tL 6)],[],[tL 6,tL 6],hh .bool,[],[.bool],[mZ]⟩
def e65_0 :LEnt:=⟨0,⟨[(2,hP 0 0),(3,hP 1 0),(5,hh tI)],[.brow 6,.brow 6]⟩,[],[],[tI,.nm 6,.nm 6],[oR 4 .bool,⟨.exit 0,⟨[(2,hP 0 0),(3,hP 1 0)],[.brow 6,.brow 6]⟩,[],[.nm 6,.nm 6]⟩],[]⟩
def e65 :FEnt:=⟨65,[.row 6,.row 6],[],[.nm 6,.nm 6],hh .bool,[],[.bool],[e65_0]⟩
def e152 :FEnt:=⟨152,[.row 5,.row 5],[],[.nm 5,.nm 5],hh .bool,[],[.bool],[]⟩
def Be :LEnt:=⟨0,⟨[(2,hP 0 0),(3,hP 1 0),(5,hh tI)],[.brow 3,.brow 3]⟩,[],[],[tI,.nm 3,.nm 3],[oR 4 .bool,⟨.exit 0,⟨[(2,hP 0 0),(3,hP 1 0)],[.brow 3,.brow 3]⟩,[],[.nm 3,.nm 3]⟩],[]⟩
def Bf :LEnt:=⟨1,⟨[(2,hP 0 0),(3,hP 1 0),(6,hh tI)],[.brow 3,.brow 3]⟩,[],[],[tI,.nm 3,.nm 3],[oR 4 .bool,oX 2],[]⟩
def e114 :FEnt:=⟨114,[.row 3,.row 3],[],[.nm 3,.nm 3],hh .bool,[],[.bool],[Be,Bf]⟩
def e153 :FEnt:=⟨153,[hh (.int .u8)],[],[.int .u8],hh .bool,[],[.bool],[]⟩
def e154 :FEnt:=⟨154,[hh (.int .u8)],[],[.int .u8],hh .bool,[],[.bool],[]⟩
def Bg :LEnt:=⟨0,⟨[(0,hh .str),(3,hh tI)],[]⟩,[],[],[.str,tI],[oR 2 .bool,oX 0],[]⟩
def e116 :FEnt:=⟨116,[hh .str],[],[.str],hh .bool,[],[.bool],[Bg]⟩
def e155 :FEnt:=⟨155,[hh tI,hh tI],[],[tI,tI],hh .bool,[],[.bool],[]⟩
def yF :LEnt:=⟨0,⟨[(0,hh (tL 4)),(4,hh tI),(5,hh tI)],[]⟩,[],[],[tL 4,tI,tI],[oR 2 .bool,⟨.exit 2,⟨[(0,hh (tL 4)),(4,hh tI)],[]⟩,[],[tL 4,tI]⟩],[]⟩
def Bh :LEnt:=⟨0,⟨[(0,hh (tL 4)),(3,hh tI),(4,hh tI)],[]⟩,[],[],[tL 4,tI,tI],[oR 2 .bool,⟨.exit 0,⟨[(0,hh (tL 4))],[]⟩,[],[tL 4]⟩],[yF]⟩
def e117 :FEnt:=⟨117,[hh (tL 4)],[],[tL 4],hh .bool,[],[.bool],[Bh]⟩
def yG :LEnt:=⟨0,⟨[(0,hh (tL 5)),(1,hh .bool),(6,hh tI),(7,hP 0 0),(8,hh tI)],[.brow 5]⟩,[],[],[tL 5,.bool,tI,tI,.nm 5],[oR 4 .bool,⟨.exit 2,⟨[(0,hh (tL 5)),(1,hh .bool),(6,hh tI),(7,hP 0 0)],[.brow 5]⟩,[],[tL 5,.bool,tI,.nm 5]⟩],[]⟩
def Bi :LEnt:=⟨0,⟨[(0,hh (tL 5)),(1,hh .bool),(5,hh tI),(6,hh tI)],[]⟩,[],[],[tL 5,.bool,tI,tI],[oR 4 .bool,⟨.exit 0,⟨[(0,hh (tL 5)),(1,hh .bool)],[]⟩,[],[tL 5,.bool]⟩],[yG]⟩
def e118 :FEnt:=⟨118,[hh (tL 5),hh .bool],[],[tL 5,.bool],hh .bool,[],[.bool],[Bi]⟩
def e73 :FEnt:=⟨73,[.row 3],[],[.nm 3],hh .bool,[],[.bool],[]⟩
def e74_0 :LEnt:=⟨0,⟨[(1,hP 0 0),(3,.c (.arr 1)),(4,hh tI)],[.brow 3,.arr tI]⟩,[(.slot 3,tI)],[(.slot 3,tI)],[tI,.nm 3,tLI],[⟨.exit 0,⟨[(1,hP 0 0),(3,.c (.arr 1))],[.brow 3,.arr tI]⟩,[],[.nm 3,tLI]⟩],[]⟩
def e74 :FEnt:=⟨74,[.row 3],[],[.nm 3],hh tLI,[],[tLI],[e74_0]⟩
def zU :LEnt:=⟨0,⟨[(1,hP 0 0),(3,hh tI),(4,hP 1 0),(5,hh tI)],[bb (tL 3),.box [.hole tI,.hole .str,.hole tI,.hole tI,.hole tI,.hole (tL 4),.hole (tL 5),.hole tI,.hole tI,.hole .bool]]⟩,[],[],[tI,tI,tL 3,tI,.str,tI,tI,tI,tL 4,tL 5,tI,tI,.bool],[oR 2 tI,⟨.exit 2,⟨[(1,hP 0 0),(3,hh tI),(4,hP 1 0)],[bb (tL 3),.box [.hole tI,.hole .str,.hole tI,.hole tI,.hole tI,.hole (tL 4),.hole (tL 5),.hole tI,.hole tI,.hole .bool]]⟩,[],[tI,tL 3,tI,.str,tI,tI,tI,tL 4,tL 5,tI,tI,.bool]⟩],[]⟩
def zV :LEnt:=⟨1,⟨[(1,hP 0 0),(3,hh tI),(4,hP 1 0),(6,hh tLI),(7,hh tI)],[bb (tL 3),.box [.hole tI,.hole .str,.hole tI,.hole tI,.hole tI,.hole (tL 4),.hole (tL 5),.hole tI,.hole tI,.hole .bool]]⟩,[],[],[tI,tLI,tI,tL 3,tI,.str,tI,tI,tI,tL 4,tL 5,tI,tI,.bool],[oR 2 tI,⟨.exit 4,⟨[(1,hP 0 0),(3,hh tI),(4,hP 1 0)],[bb (tL 3),.box [.hole tI,.hole .str,.hole tI,.hole tI,.hole tI,.hole (tL 4),.hole (tL 5),.hole tI,.hole tI,.hole .bool]]⟩,[],[tI,tL 3,tI,.str,tI,tI,tI,tL 4,tL 5,tI,tI,.bool]⟩],[]⟩
def e36_0 :LEnt:=⟨0,⟨[(1,hP 0 0),(3,hh tI)],[bb (tL 3)]⟩,[],[],[tI,tL 3],[oR 2 tI,oX 0],[zU,zV]⟩
def e36 :FEnt:=⟨36,[.row 8],[],[.nm 8],hh tI,[],[tI],[e36_0]⟩
def Bj :LEnt:=⟨0,⟨[(0,hh .str),(4,hh (.int .u64)),(5,hh tI)],[]⟩,[],[],[.str,.int .u64,tI],[⟨.exit 0,⟨[(4,hh (.int .u64))],[]⟩,[],[.int .u64]⟩],[]⟩
def e119 :FEnt:=⟨119,[hh .str],[],[.str],.tup [hh (.int .u64),hh tI],[],[.int .u64,tI],[Bj]⟩
def e120 :FEnt:=⟨120,[hh (.int .u64)],[],[.int .u64],hh tI,[],[tI],[]⟩
def e92_0 :LEnt:=⟨0,⟨[(1,hh tI),(2,hP 0 0),(6,hh tI)],[.brow 3]⟩,[],[],[tI,tI,.nm 3],[⟨.ret,⟨[(4,hh tI),(5,hh .bool)],[]⟩,[],[tI,.bool]⟩,oX 0],[]⟩
def e92 :FEnt:=⟨92,[.row 3,hh tI],[],[.nm 3,tI],.tup [hh tI,hh .bool],[],[tI,.bool],[e92_0]⟩
def Bl :LEnt:=⟨0,⟨[(0,hh .str),(5,hh (.int .u64)),(6,hh (.int .u64)),(7,hh tI)],[]⟩,[],[],[.str,.int .u64,.int .u64,tI],[⟨.ret,⟨[(2,hh (.int .u64)),(3,hh tI),(4,hh tI)],[]⟩,[],[.int .u64,tI,tI]⟩,oX 0],[]⟩
def e156 :FEnt:=⟨156,[hh .str],[],[.str],.tup [hh (.int .u64),hh tI,hh tI],[],[.int .u64,tI,tI],[Bl]⟩
def e121 :FEnt:=⟨121,[hh .str],[],[.str],.tup [hh tI,hh .str,hh tI],[],[tI,.str,tI],[]⟩
def e91_0 :LEnt:=⟨0,⟨[(1,hh tI),(2,hP 0 0),(6,hh tI)],[.brow 3]⟩,[],[],[tI,tI,.nm 3],[⟨.ret,⟨[(4,hh tI),(5,hh .bool)],[]⟩,[],[tI,.bool]⟩,oX 0],[]⟩
def e91 :FEnt:=⟨91,[.row 3,hh tI],[],[.nm 3,tI],.tup [hh tI,hh .bool],[],[tI,.bool],[e91_0]⟩
def e157 :FEnt:=⟨157,[hh .str],[],[.str],.tup [hh .str,hh .str,hh .bool],[],[.str,.str,.bool],[]⟩
def Bm :LEnt:=⟨0,⟨[(0,hh .str),(4,.c (.arr 0))],[.arr .str]⟩,[(.slot 4,.str)],[(.slot 4,.str)],[.str,tLS],[⟨.ret,⟨[(2,.c (.cap0)),(3,hh tI)],[]⟩,[],[tI]⟩,⟨.exit 0,⟨[(4,.c (.arr 0))],[.arr .str]⟩,[],[tLS]⟩],[]⟩
def e122 :FEnt:=⟨122,[hh .str],[],[.str],.tup [hh tLS,hh tI],[],[tLS,tI],[Bm]⟩
def e99 :FEnt:=⟨99,[hh tI],[],[tI],hh (.int .u64),[],[.int .u64],[]⟩
def Bn :LEnt:=⟨0,⟨[(0,hh .str),(4,.c (.arr 0)),(5,hh tI)],[.arr (.nm 9)]⟩,[(.slot 4,.nm 9)],[(.slot 4,.nm 9)],[.str,tI,tL 9],[⟨.ret,⟨[(2,.c (.cap0)),(3,hh tI)],[]⟩,[],[tI]⟩,⟨.exit 0,⟨[(4,.c (.arr 0))],[.arr (.nm 9)]⟩,[],[tL 9]⟩],[]⟩
def e124 :FEnt:=⟨124,[hh .str],[],[.str],.tup [hh (tL 9),hh tI],[],[tL 9,tI],[Bn]⟩
def e98_0 :LEnt:=⟨0,⟨[(0,hh (.int .u64)),(3,hh .str)],[]⟩,[],[],[.int .u64,.str],[⟨.exit 0,⟨[(3,hh .str)],[]⟩,[],[.str]⟩],[]⟩
def e98 :FEnt:=⟨98,[hh (.int .u64)],[],[.int .u64],hh .str,[],[.str],[e98_0]⟩
def Bo :LEnt:=⟨0,⟨[(0,hh (.int .u64)),(3,.c (.arr 0))],[.arr (.int .u8)]⟩,[(.slot 3,.int .u8)],[(.slot 3,.int .u8)],[.int .u64,.slice (.int .u8)],[⟨.exit 0,⟨[(0,hh (.int .u64)),(3,.c (.arr 0))],[.arr (.int .u8)]⟩,[],[.int .u64,.slice (.int .u8)]⟩],[]⟩
def e100 :FEnt:=⟨100,[hh (.int .u64)],[],[.int .u64],hh .str,[],[.str],[Bo]⟩
def e101 :FEnt:=⟨101,[hh .str],[],[.str],hh .str,[],[.str],[]⟩
def e102 :FEnt:=⟨102,[hh tI,hh .bool,hh .str],[],[tI,.bool,.str],hh .str,[],[.str],[]⟩
def zW :LEnt:=⟨0,⟨[(3,hP 0 0),(5,hP 1 0),(7,hP 2 0),(14,hh .str),(15,hh tI),(19,hh tI)],[bb (tL 3),.brow 6,.brow 3]⟩,[],[],[.str,tI,tI,tL 3,.nm 6,.nm 3],[⟨.exit 7,⟨[(3,hP 0 0),(5,hP 1 0),(7,hP 2 0),(14,hh .str),(15,hh tI)],[bb (tL 3),.brow 6,.brow 3]⟩,[],[.str,tI,tL 3,.nm 6,.nm 3]⟩],[]⟩
def e61_0 :LEnt:=⟨0,⟨[(3,hP 0 0),(5,hP 1 0),(7,hP 2 0),(10,hh .str),(11,hh tI)],[bb (tL 3),.brow 6,.brow 3]⟩,[],[],[.str,tI,tL 3,.nm 6,.nm 3],[⟨.exit 1,⟨[(10,hh .str)],[]⟩,[],[.str]⟩],[]⟩
def e61_1 :LEnt:=⟨1,⟨[(3,hP 0 0),(5,hP 1 0),(7,hP 2 0),(12,hh .str),(13,hh tI)],[bb (tL 3),.brow 6,.brow 3]⟩,[],[],[.str,tI,tL 3,.nm 6,.nm 3],[⟨.exit 3,⟨[(12,hh .str)],[]⟩,[],[.str]⟩],[]⟩
def e61_2 :LEnt:=⟨2,⟨[(3,hP 0 0),(5,hP 1 0),(7,hP 2 0),(14,hh .str),(15,hh tI)],[bb (tL 3),.brow 6,.brow 3]⟩,[],[],[.str,tI,tL 3,.nm 6,.nm 3],[⟨.exit 5,⟨[(14,hh .str)],[]⟩,[],[.str]⟩],[zW]⟩
def e61 :FEnt:=⟨61,[.row 8,hh tI,.row 6],[],[.nm 8,tI,.nm 6],hh .str,[],[.str],[e61_0,e61_1,e61_2]⟩
def e3 :FEnt:=⟨3,[.row 0,hh tI,hh .str],[],[.nm 0,tI,.str],hh .bool,[],[.bool],[]⟩
def e123 :FEnt:=⟨123,[hh .str,hh .str],[],[.str,.str],hh .bool,[],[.bool],[]⟩
def zX :LEnt:=⟨0,⟨[(3,hh tI),(4,hP 0 0),(9,hP 1 0),(27,hh (tL 9)),(29,hh tI),(30,hP 2 0),(31,hh tI),(32,hh tI)],[bb (tL 3),.box [.hole tI,.hole .str,.hole tI,.hole tI,.hole tI,.hole (tL 4),.hole (tL 5),.hole tI,.hole tI,.hole .bool],.brow 5]⟩,[],[],[tI,tL 9,tI,tI,tI,tL 3,tI,.str,tI,tI,tI,tL 4,tL 5,tI,tI,.bool,.nm 5],[⟨.exit 7,⟨[(3,hh tI),(4,hP 0 0),(9,hP 1 0),(27,hh (tL 9)),(29,hh tI),(30,hP 2 0),(31,hh tI)],[bb (tL 3),.box [.hole tI,.hole .str,.hole tI,.hole tI,.hole tI,.hole (tL 4),.hole (tL 5),.hole tI,.hole tI,.hole .bool],.brow 5]⟩,[],[tI,tL 9,tI,tI,tL 3,tI,.str,tI,tI,tI,tL 4,tL 5,tI,tI,.bool,.nm 5]⟩],[]⟩
def e76_0 :LEnt:=⟨0,⟨[(3,hh tI),(4,hP 0 0),(9,hP 1 0),(21,hh tLS),(22,hh tI),(23,hh tI)],[bb (tL 3),.box [.hole tI,.hole .str,.hole tI,.hole tI,.hole tI,.hole (tL 4),.hole (tL 5),.hole tI,.hole tI,.hole .bool]]⟩,[],[],[tI,tLS,tI,tI,tL 3,tI,.str,tI,tI,tI,tL 4,tL 5,tI,tI,.bool],[oR 8 .bool,⟨.exit 1,⟨[(9,hP 0 0),(21,hh tLS),(22,hh tI)],[.box [.hole tI,.hole .str,.hole tI,.hole tI,.hole tI,.hole (tL 4),.hole (tL 5),.hole tI,.hole tI,.hole .bool]]⟩,[],[tLS,tI,tI,.str,tI,tI,tI,tL 4,tL 5,tI,tI,.bool]⟩],[]⟩
def e76_1 :LEnt:=⟨1,⟨[(3,hh tI),(4,hP 0 0),(9,hP 1 0),(24,hh tLS),(26,hh tI)],[bb (tL 3),.box [.hole tI,.hole .str,.hole tI,.hole tI,.hole tI,.hole (tL 4),.hole (tL 5),.hole tI,.hole tI,.hole .bool]]⟩,[],[],[tI,tLS,tI,tL 3,tI,.str,tI,tI,tI,tL 4,tL 5,tI,tI,.bool],[oR 8 .bool,oX 3],[]⟩
def e76_2 :LEnt:=⟨2,⟨[(3,hh tI),(4,hP 0 0),(9,hP 1 0),(27,hh (tL 9)),(29,hh tI)],[bb (tL 3),.box [.hole tI,.hole .str,.hole tI,.hole tI,.hole tI,.hole (tL 4),.hole (tL 5),.hole tI,.hole tI,.hole .bool]]⟩,[],[],[tI,tL 9,tI,tL 3,tI,.str,tI,tI,tI,tL 4,tL 5,tI,tI,.bool],[oR 8 .bool,⟨.exit 5,⟨[(9,hP 0 0),(27,hh (tL 9))],[.box [.hole tI,.hole .str,.hole tI,.hole tI,.hole tI,.hole (tL 4),.hole (tL 5),.hole tI,.hole tI,.hole .bool]]⟩,[],[tL 9,tI,.str,tI,tI,tI,tL 4,tL 5,tI,tI,.bool]⟩],[zX]⟩
def e76_4 :LEnt:=⟨4,⟨[(9,hP 0 0),(27,hh (tL 9)),(33,hh tI)],[.box [.hole tI,.hole .str,.hole tI,.hole tI,.hole tI,.hole (tL 4),.hole (tL 5),.hole tI,.hole tI,.hole .bool]]⟩,[],[],[tL 9,tI,tI,.str,tI,tI,tI,tL 4,tL 5,tI,tI,.bool],[oR 8 .bool,oX 9],[]⟩
def e76 :FEnt:=⟨76,[.row 8,hh tI,hh .str,hh tI],[],[.nm 8,tI,.str,tI],hh .bool,[],[.bool],[e76_0,e76_1,e76_2,e76_4]⟩
def e38 :FEnt:=⟨38,[.row 8,hh tI,hh .str],[],[.nm 8,tI,.str],hh .bool,[],[.bool],[]⟩
def m5 :LEnt:=⟨0,⟨[(3,hh tI),(4,hP 0 0),(5,hP 1 0),(11,hh tI),(27,hh (tL 9)),(28,hh tI),(29,hh tI)],[bb (tL 3),.brow 3]⟩,[],[],[tI,tI,tL 9,tI,tI,tL 3,.nm 3],[oR 8 .bool,⟨.exit 0,⟨[(5,hP 0 0),(11,hh tI)],[.brow 3]⟩,[],[tI,.nm 3]⟩],[]⟩
def Bp :LEnt:=⟨1,⟨[(11,hh tI),(93,hh (tL 5)),(94,hh tI),(95,hh tI)],[]⟩,[],[],[tI,tL 5,tI,tI],[⟨.exit 2,⟨[(11,hh tI)],[]⟩,[],[tI]⟩],[]⟩
def e126 :FEnt:=⟨126,[.row 14,.row 3,hh .str,hh tI],[],[.nm 14,.nm 3,.str,tI],hh .bool,[],[.bool],[m5,Bp]⟩
def m6 :FEnt:=⟨163,[hh .str,hP 0 0,hP 1 0,hP 2 0],[bb (tL 3),.box [.hole tI,.hole .str,.hole tI,.hole tI,.hole tI,.hole (tL 4),.hole (tL 5),.hole tI,.hole tI,.hole .bool],bb tI],[.str,tL 3,tI,.str,tI,tI,tI,tL 4,tL 5,tI,tI,.bool,tI],hh .bool,[bb (tL 3),.box [.hole tI,.hole .str,.hole tI,.hole tI,.hole tI,.hole (tL 4),.hole (tL 5),.hole tI,.hole tI,.hole .bool],bb tI],[.bool,tL 3,tI,.str,tI,tI,tI,tL 4,tL 5,tI,tI,.bool,tI],[]⟩
def mu :LEnt:=⟨0,⟨[(0,hh tLS),(1,.c (.fn 163 [0,1,2])),(7,hh tI),(8,hh tI)],[bb (tL 3),.box [.hole tI,.hole .str,.hole tI,.hole tI,.hole tI,.hole (tL 4),.hole (tL 5),.hole tI,.hole tI,.hole .bool],bb tI]⟩,[],[],[tLS,tI,tI,tL 3,tI,.str,tI,tI,tI,tL 4,tL 5,tI,tI,.bool,tI],[⟨.ret,⟨[(4,hh tI)],[bb (tL 3),.box [.hole tI,.hole .str,.hole tI,.hole tI,.hole tI,.hole (tL 4),.hole (tL 5),.hole tI,.hole tI,.hole .bool],bb tI]⟩,[],[tI,tL 3,tI,.str,tI,tI,tI,tL 4,tL 5,tI,tI,.bool,tI]⟩,⟨.exit 0,⟨[],[bb (tL 3),.box [.hole tI,.hole .str,.hole tI,.hole tI,.hole tI,.hole (tL 4),.hole (tL 5),.hole tI,.hole tI,.hole .bool],bb tI]⟩,[],[tL 3,tI,.str,tI,tI,tI,tL 4,tL 5,tI,tI,.bool,tI]⟩],[]⟩
def m7 :FEnt:=⟨203,[hh tLS,.c (.fn 163 [0,1,2])],[bb (tL 3),.box [.hole tI,.hole .str,.hole tI,.hole tI,.hole tI,.hole (tL 4),.hole (tL 5),.hole tI,.hole tI,.hole .bool],bb tI],[tLS,tL 3,tI,.str,tI,tI,tI,tL 4,tL 5,tI,tI,.bool,tI],hh tI,[bb (tL 3),.box [.hole tI,.hole .str,.hole tI,.hole tI,.hole tI,.hole (tL 4),.hole (tL 5),.hole tI,.hole tI,.hole .bool],bb tI],[tI,tL 3,tI,.str,tI,tI,tI,tL 4,tL 5,tI,tI,.bool,tI],[mu]⟩
def m8 :FEnt:=⟨162,[hh tLS,.c (.fn 163 [0,1,2])],[bb (tL 3),.box [.hole tI,.hole .str,.hole tI,.hole tI,.hole tI,.hole (tL 4),.hole (tL 5),.hole tI,.hole tI,.hole .bool],bb tI],[tLS,tL 3,tI,.str,tI,tI,tI,tL 4,tL 5,tI,tI,.bool,tI],hh .bool,[bb (tL 3),.box [.hole tI,.hole .str,.hole tI,.hole tI,.hole tI,.hole (tL 4),.hole (tL 5),.hole tI,.hole tI,.hole .bool],bb tI],[.bool,tL 3,tI,.str,tI,tI,tI,tL 4,tL 5,tI,tI,.bool,tI],[]⟩
def e164 :FEnt:=⟨164,[hh .str,hh .str],[],[.str,.str],hh .bool,[],[.bool],[]⟩
def m9 :LEnt:=⟨0,⟨[(4,hP 0 0),(5,hP 1 0),(7,hP 2 0),(9,hh tLS),(11,hh tI)],[bb (tL 3),.box [.hole tI,.hole .str,.hole tI,.hole tI,.hole tI,.hole (tL 4),.hole (tL 5),.hole tI,.hole tI,.hole .bool],bb tI]⟩,[],[],[tLS,tI,tL 3,tI,.str,tI,tI,tI,tL 4,tL 5,tI,tI,.bool,tI],[oR 8 .bool,oX 0],[]⟩
def e127 :FEnt:=⟨127,[.row 14,.row 3,hh .str,hh tI],[],[.nm 14,.nm 3,.str,tI],hh .bool,[],[.bool],[m9]⟩
def e130 :FEnt:=⟨130,[.row 3,hh .str],[],[.nm 3,.str],hh .bool,[],[.bool],[]⟩
def e78 :FEnt:=⟨78,[.row 14,hh tI,hh .str,hh tI],[],[.nm 14,tI,.str,tI],hh .bool,[],[.bool],[]⟩
def e39 :FEnt:=⟨39,[.row 8,hh tI,hh .str],[],[.nm 8,tI,.str],hh .bool,[],[.bool],[]⟩
def e9 :FEnt:=⟨9,[.row 0,hh tI,hh .str],[],[.nm 0,tI,.str],hh .bool,[],[.bool],[]⟩
def e6 :FEnt:=⟨6,[.row 15],[],[.nm 15],hh .bool,[],[.bool],[]⟩
def e4 :FEnt:=⟨4,[.row 15],[],[.nm 15],hh .bool,[],[.bool],[]⟩
def e7_0 :LEnt:=⟨0,⟨[(17,hh (.slice tLI)),(114,hh (.slice tLI)),(115,hh tI),(116,hh tI)],[]⟩,[],[],[.slice tLI,.slice tLI,tI,tI],[oR 2 .bool,oX 0],[]⟩
def e7 :FEnt:=⟨7,[.row 16],[],[.nm 16],hh .bool,[],[.bool],[e7_0]⟩
def tabE0 :List FEnt:=[e47,e220,e224,kB,e223,e222,e221,e201,e216,e217,e198,e218,e199,e219,e200,e158,e159,e125,e177,e168]
def tabE1 :List FEnt:=[e169,e191,e190,e143,e178,e204,e165,e128,e167,e166,e129,e179,e202,e161,e180,e133,e214,e195,e208,e174]
def tabE2 :List FEnt:=[e215,e197,e196,e151,e181,e160,e211,e210,e212,e182,e139,e83,e50,e77,e193,e148,e149,e194,kC,kD]
def tabE3 :List FEnt:=[e150,e112,e86,e81,e132,kE,e205,e170,e175,e137,e171,e136,e138,e134,e135,e82,e49,e12,e48,e85]
def tabE4 :List FEnt:=[e53,e87,e145,Mn,Mo,e88,e89,e54_a,e54_b,e15,e67,e68,e27,e37,e11]
def tabE :List FEnt:=tabE0++tabE1++tabE2++tabE3++tabE4
theorem ng :tabE.all (okE prog)=true:=by kernel_rfl
def jA :FSpec Un:={qI with F:=sortK (α:=Un.D 11) sortLt}
theorem lB :FnC prog jA:=⟨qK.1,fun h r hr=>qK.2 h r (Kt sortSWO _ r hr)⟩
def g9(_:Unit):Option (av):=
 some (⟨[(⟨2,[],(-10),10,0,[],[],0,0,false⟩:ae),(⟨2,[],0,5,0,[],[],0,0,false⟩:ae),(⟨5,[80,111,105,110,116],0,0,0,[],[(⟨1,[120],0,false,false,(⟨0,false,0,[],0,[],[],[]⟩:ab)⟩:aj),(⟨2,[121],1,false,true,(⟨2,false,3,[],0,[],[],[]⟩:ab)⟩:aj)],0,0,false⟩:ae)]⟩:av)
theorem e47_k :KC e47:= .m (by kernel_rfl)
theorem De :FC e47 g9:= .fn e47_k .n .n fun _=>by kernel_rfl
def nE(x_:Int×Int×List aH):Option (ab):=
 match x_ with
 | (x0,y,rest)=>
 some (⟨5,false,0,[],0,[],[(⟨2,false,x0,[],0,[],[],[]⟩:ab),(⟨2,false,y,[],0,[],[],[]⟩:ab)],rest⟩:ab)
theorem e48_k :KC e48:= .m (by kernel_rfl)
theorem DF :FC e48 nE:= .fn e48_k .n .n fun _=>by kernel_rfl
theorem e12_k :KC e12:= .m (by kernel_rfl)
noncomputable def lu:av×Int×List UInt8->Option (List UInt8×Int):=evF prog tabE [ic,ie,ig,jA,iu,ik] 3000 e12
theorem Ed :FC e12 lu:= .run ng (.k jl (.k jm (.k jn (.k lB (.k jw (.k lj .n)))))) e12_k 3000 fun _=>rfl
theorem e15_k :KC e15:= .m (by kernel_rfl)
noncomputable def lG:av×Int×ab->Option (List (List Int)×Int):=evF prog tabE [ic,ie,ig,jA,iu,ik] 3000 e15
theorem EE :FC e15 lG:= .run ng (.k jl (.k jm (.k jn (.k lB (.k jw (.k lj .n)))))) e15_k 3000 fun _=>rfl
theorem e27_k :KC e27:= .m (by kernel_rfl)
noncomputable def lH:av×Int×ab×ab->Option (ab×Int):=evF prog tabE [ic,ie,ig,jA,iu,ik] 3000 e27
theorem EF :FC e27 lH:= .run ng (.k jl (.k jm (.k jn (.k lB (.k jw (.k lj .n)))))) e27_k 3000 fun _=>rfl
theorem e49_k :KC e49:= .m (by kernel_rfl)
noncomputable def lw:av×Int×ab->Option (List UInt8×Int):=evF prog tabE [ic,ie,ig,jA,iu,ik] 3000 e49
theorem Ee :FC e49 lw:= .run ng (.k jl (.k jm (.k jn (.k lB (.k jw (.k lj .n)))))) e49_k 3000 fun _=>rfl
theorem e37_k :KC e37:= .m (by kernel_rfl)
noncomputable def kW:av×Int×List UInt8->Option (Bool):=evF prog tabE [ic,ie,ig,jA,iu,ik] 3000 e37
theorem Df :FC e37 kW:= .run ng (.k jl (.k jm (.k jn (.k lB (.k jw (.k lj .n)))))) e37_k 3000 fun _=>rfl
def ql(lu:av×Int×List UInt8->Option (List UInt8×Int))(lG:av×Int×ab->Option (List (List Int)×Int))(lH:av×Int×ab×ab->Option (ab×Int))(lw:av×Int×ab->Option (List UInt8×Int))(kW:av×Int×List UInt8->Option (Bool)):Option (Bool):=
 g9 () >>=fun r=>
 lu (r,2,[2,1,3,4,1,6,8,1,9]) >>=fun r_1=>
 nE ((-2),3,[(⟨4,[9]⟩:aH)]) >>=fun r_4=>
 g9 () >>=fun r_5=>
 lG (r_5,2,ab.eta r_4) >>=fun r_6=>
 g9 () >>=fun r_9=>
 nE (0,3,[]) >>=fun r_10=>
 lH (r_9,2,ab.eta r_4,ab.eta r_10) >>=fun r_11=>
 g9 () >>=fun r_14=>
 lw (r_14,2,ab.eta r_11.1) >>=fun r_15=>
 some (bif bif bif bif bif decide (r_1.2=0)then decide (r_6.2=0)else false then decide (r_11.2=0)else false then decide (r_15.2=0)else false then decide (r_1.1=[2,1,3,8,1,9])else false then decide ((r_6.1.length:Int)=1)else false) >>=fun t59=>
 if(inR 0 r_6.1.length || (!t59))=true then
  some (bif bif t59 then decide (((r_6.1.getD (0:Int).toNat []).length:Int)=0)else false then decide (r_15.1=[2,0,8,1,9])else false) >>=fun t70=>
  (if t70=true then g9 ()else some sC) >>=fun r_18=>
  (if t70=true then kW (r_18,2,r_1.1)else some false) >>=fun r_19=>
  some (bif t70 then r_19 else false)
 else none
noncomputable def qm (_:Unit):Option (Bool):=ql lu lG lH lw kW
theorem e11_k :KC e11:= .m (by kernel_rfl)
theorem Dq :FC e11 qm:= .fn e11_k (.k De (.k Ed (.k DF (.k EE (.k EF (.k Ee (.k Df .n))))))) .n fun _=>by kernel_rfl
def awN(n:Int):ab:=⟨2,false,n,[],0,[],[],[]⟩
def awE :av:=⟨[⟨2,[],-10,10,0,[],[],0,0,false⟩,⟨2,[],0,5,0,[],[],0,0,false⟩,⟨5,[80,111,105,110,116],0,0,0,[],[⟨1,[120],0,false,false,⟨0,false,0,[],0,[],[],[]⟩⟩,⟨2,[121],1,false,true,awN 3⟩],0,0,false⟩]⟩
def awP(x y:Int)(r:List aH):ab:=⟨5,false,0,[],0,[],[awN x,awN y],r⟩
theorem Mp :g9 ()=some awE:=rfl
theorem Mq(x y:Int)(r:List aH):nE (x,y,r)=some (awP x y r):=rfl
theorem aw1 :lu (awE,2,[2,1,3,4,1,6,8,1,9])=some ([2,1,3,8,1,9],0):=by kernel_rfl
theorem aw2 :lG (awE,2,awP (-2) 3 [⟨4,[9]⟩])=some ([[]],0):=by kernel_rfl
theorem aw3 :lH (awE,2,awP (-2) 3 [⟨4,[9]⟩],awP 0 3 [])=some (awP 0 3 [⟨4,[9]⟩],0):=by kernel_rfl
theorem aw4 :lw (awE,2,awP 0 3 [⟨4,[9]⟩])=some ([2,0,8,1,9],0):=by kernel_rfl
theorem aw5 :kW (awE,2,[2,1,3,8,1,9])=some true:=by kernel_rfl
theorem Iy (g1 : av×Int×List UInt8 -> Option (List UInt8×Int)) (g2 : av×Int×ab -> Option (List (List Int)×Int)) (g3 : av×Int×ab×ab -> Option (ab×Int)) (g4 : av×Int×ab -> Option (List UInt8×Int)) (g5 : av×Int×List UInt8 -> Option Bool)
 (h1:g1 (awE,2,[2,1,3,4,1,6,8,1,9])=some ([2,1,3,8,1,9],0)) (h2:g2 (awE,2,awP (-2) 3 [⟨4,[9]⟩])=some ([[]],0)) (h3:g3 (awE,2,awP (-2) 3 [⟨4,[9]⟩],awP 0 3 [])=some (awP 0 3 [⟨4,[9]⟩],0))
 (h4:g4 (awE,2,awP 0 3 [⟨4,[9]⟩])=some ([2,0,8,1,9],0)) (h5:g5 (awE,2,[2,1,3,8,1,9])=some true):ql g1 g2 g3 g4 g5=some true:=by
 unfold ql;simp only[oZ4,oZ3,Mp,Mq,ab.aD];rw[h1,h2];simp only[oZ3];rw[h3];simp only[oZ3,ab.aD];rw[h4];simp[inR,h5]
theorem Iz :qm ()=some true:=Iy _ _ _ _ _ aw1 aw2 aw3 aw4 aw5
def ll(_:Unit):Option (Bool):=some true
theorem DG :FC e11 ll:=by
 have:qm=ll:=by funext x;exact Iz
 rw[<-this];exact Dq
theorem tC :ll ()=some true:=rfl
def gv(x_:aU×Int):Option (Int):=
 match x_ with
 | (d,i)=>
 if inR i d.Nodes.length=true then
 some (addI .i64 1 (wrp .i64 (remI (d.Nodes.getD i.toNat cf).Kind 9)))
 else none
theorem e40_k :KC e40:= .m (by kernel_rfl)
theorem lc :FC e40 gv:= .fn e40_k .n .n fun _=>by kernel_rfl
def ct(kind:Int):Option (Bool):=
 some (bif bif decide (kind=4)then true else decide (kind=5)then true else decide (kind=6))
theorem e41_k :KC e41:= .m (by kernel_rfl)
theorem qk :FC e41 ct:= .fn e41_k .n .n fun _=>by kernel_rfl
def fp(x0:bE):Option (Int):=
 some (subI .i64 (wrp .i64 (remI x0.A 7)) 3)
theorem e42_k :KC e42:= .m (by kernel_rfl)
theorem qq :FC e42 fp:= .fn e42_k .n .n fun _=>by kernel_rfl
def io(x0:bE):Option (Int):=
 fp x0 >>=fun r=>
 some (addI .i64 r (wrp .i64 (remI x0.B 6)))
theorem e43_k :KC e43:= .m (by kernel_rfl)
theorem tN :FC e43 io:= .fn e43_k (.k qq .n) .n fun _=>by kernel_rfl
def fg(x_:Int×bE×List Int):Option (List Int):=
 match x_ with
 | (i,b_1,b_2)=>
 if decide (i < 6)=true then
 if decide (0<=i)=true then
 if decide (remI (shrI .u8 b_1.A i) 2=1)=true then
 some [addI .i64 i 1] >>=fun t18=>
 if room 8 (b_2++t18).length=true then
 fg (addI .i64 i 1,b_1,b_2++t18)
 else none
 else
 fg (addI .i64 i 1,b_1,b_2)
 else none
 else
 some b_2
  partial_fixpoint
theorem Dr :LC 44 0 [0] e44_0 fg:= .rc fg.partial_correctness .n .n fun _ _=>by kernel_rfl
def dR(x0:bE):Option (List Int):=
 fg (0,x0,[]) >>=fun o=>
 if decide ((o.length:Int)=0)=true then
 some [1] >>=fun t24=>
 if room 8 (o++t24).length=true then
 some (o++t24)
 else none
 else
 some o
theorem e44_k :KC e44:= .m (by kernel_rfl)
theorem tU :FC e44 dR:= .fn e44_k .n (.k Dr .n) fun _=>by kernel_rfl
def lf(kind:Int):Option (Bool):=
 some (decide (7<=kind))
theorem Mr :KC e131:= .m (by kernel_rfl)
theorem tE :FC e131 lf:= .fn Mr .n .n fun _=>by kernel_rfl
def dO(x_:Int×Int×List bE):Option ((Int) ⊕ (Unit)):=
 match x_ with
 | (n,k,b)=>
 if decide (k < n)=true then
 gv ((⟨b⟩:aU),k) >>=fun r_2=>
 lf r_2 >>=fun r_3=>
 if r_3=true then
 some (.inl k)
 else
 dO (n,addI .i64 k 1,b)
 else
 some (.inr ())
  partial_fixpoint
theorem CX :LC 79 0 [0] e79_0 dO:= .rc dO.partial_correctness (.k lc (.k tE .n)) .n fun _ _=>by kernel_rfl
def lg(x_:aU×Int×Int):Option (Int):=
 match x_ with
 | (d,i,code)=>
 some (d.Nodes.length:Int) >>=fun t12=>
 if(!(decide (t12=0)))=true then
 some (remI (wrp .i64 code) t12) >>=fun t16=>
 gv (d,t16) >>=fun r=>
 lf r >>=fun r_1=>
 if(bif r_1 then true else decide (t16 < i))=true then
 some t16
 else
 if decide (0 < i)=true then
 if(!(decide (i=0)))=true then
 some (remI t16 i)
 else none
 else
 dO (t12,0,d.Nodes) >>=fun o=>
 match o with
 | .inl o_1=>
 some o_1
 | .inr o_2=>
 some (-1)
 else none
theorem e79_k :KC e79:= .m (by kernel_rfl)
theorem Ds :FC e79 lg:= .fn e79_k (.k lc (.k tE .n)) (.k CX .n) fun _=>by kernel_rfl
def kX(kind:Int):Option (Bool):=
 some (bif decide (1<=kind)then decide (kind<=4)else false)
theorem e75_k :KC e75:= .m (by kernel_rfl)
theorem tD :FC e75 kX:= .fn e75_k .n .n fun _=>by kernel_rfl
def dQ(x_:Int×Int×Int×List bE):Option ((Int) ⊕ (Unit)):=
 match x_ with
 | (code_1,n,k,b)=>
 if decide (k < n)=true then
 if(!(decide (n=0)))=true then
 some (remI (addI .i64 (wrp .i64 code_1) k) n) >>=fun t21=>
 gv ((⟨b⟩:aU),t21) >>=fun r=>
 kX r >>=fun r_1=>
 if r_1=true then
 some (.inl t21)
 else
 dQ (code_1,n,addI .i64 k 1,b)
 else none
 else
 some (.inr ())
  partial_fixpoint
theorem Dt :LC 46 0 [0] e46_0 dQ:= .rc dQ.partial_correctness (.k lc (.k tD .n)) .n fun _ _=>by kernel_rfl
def iv(x_:aU×Int):Option (Int):=
 match x_ with
 | (d,code)=>
 dQ (code,(d.Nodes.length:Int),0,d.Nodes) >>=fun o=>
 match o with
 | .inl o_1=>
 some o_1
 | .inr o_2=>
 some (-1)
theorem e46_k :KC e46:= .m (by kernel_rfl)
theorem tV :FC e46 iv:= .fn e46_k .n (.k Dt .n) fun _=>by kernel_rfl
def kY(x_:aU×Int×Int):Option (ab×Bool):=
 match x_ with
 | (d,t,code)=>
 if inR t d.Nodes.length=true then
 some (d.Nodes.getD t.toNat cf) >>=fun x0=>
 gv (d,t) >>=fun r=>
 some (decide (r=8)) >>=fun t21=>
 (if t21=true then iv (d,0)else some 0) >>=fun r_1=>
 if(bif t21 then decide (r_1 < 0)else false)=true then
 some ((⟨7,false,0,[],0,[],[],[]⟩:ab),true)
 else
 if decide (r=1)=true then
 some ((⟨r,decide (remI code 2=1),0,[],0,[],[],[]⟩:ab),true)
 else
 if decide (r=2)=true then
 fp x0 >>=fun r_2=>
 io x0 >>=fun r_3=>
 fp x0 >>=fun r_4=>
 some (addI .i64 (subI .i64 r_3 r_4) 1) >>=fun t47=>
 if(!(decide (t47=0)))=true then
 some ((⟨r,false,addI .i64 r_2 (remI (wrp .i64 code) t47),[],0,[],[],[]⟩:ab),true)
 else none
 else
 if decide (r=3)=true then
 if(bif decide (0 < remI x0.A 4)then decide (remI code 2=1)else false)=true then
 some ((⟨r,false,0,[97],0,[],[],[]⟩:ab),true)
 else
 some ((⟨r,false,0,[],0,[],[],[]⟩:ab),true)
 else
 if decide (r=4)=true then
 dR x0 >>=fun r_5=>
 dR x0 >>=fun r_6=>
 some (r_6.length:Int) >>=fun t71=>
 if(!(decide (t71=0)))=true then
 some (remI (wrp .i64 code) t71) >>=fun t72=>
 if inR t72 r_5.length=true then
 some ((⟨r,false,0,[],r_5.getD t72.toNat 0,[],[],[]⟩:ab),true)
 else none
 else none
 else
 some (decide (r=5)) >>=fun t77=>
 if t77=true then
 if t77=true then
 some ((⟨0,false,0,[],0,[],[],[]⟩:ab),false)
 else
 some ((⟨r,false,0,[],0,[],[],[]⟩:ab),true)
 else
 if decide (r=6)=true then
 some ((⟨0,false,0,[],0,[],[],[]⟩:ab),false)
 else
 some ((⟨r,false,0,[],0,[],[],[]⟩:ab),true)
 else none
theorem e80_k :KC e80:= .m (by kernel_rfl)
theorem Dg :FC e80 kY:= .fn e80_k (.k lc (.k tV (.k qq (.k tN (.k tU .n))))) .n fun _=>by kernel_rfl
def gf(x_:Int×Bool×Int×Int×List bE×bE×List aj):Option (Int×Bool×Int×List bE×bE×List aj):=
 match x_ with
 | (i_3,record_3,id_2,k,b_7,b_8,b_9)=>
 if decide (k < (b_8.Parts.length:Int))=true then
 if inR k b_8.Parts.length=true then
 some (b_8.Parts.getD k.toNat lr) >>=fun x0_1=>
 lg ((⟨b_7⟩:aU),i_3,x0_1.Type_) >>=fun r=>
 if(bif (!(decide (addI .i64 1 (wrp .i64 (remI x0_1.ID 12))=id_2)))then true else decide (r < 0))=true then
 gf (i_3,record_3,id_2,addI .i64 k 1,b_7,b_8,b_9)
 else
 some (ei (wrp .i32 (addI .i64 97 id_2))) >>=fun t55=>
 if decide ([109].length+t55.length<=aX)=true then
 some ([109]++t55) >>=fun t56=>
 if(bif record_3 then decide (remI x0_1.Flag 4=1)else false)=true then
 if(bif record_3 then decide (2<=remI x0_1.Flag 4)else false)=true then
 kY ((⟨b_7⟩:aU),r,quoI .u8 x0_1.Flag 4) >>=fun r_1=>
 some [(⟨id_2,t56,r,true,r_1.2,ab.eta r_1.1⟩:aj)] >>=fun t87=>
 if room 160 (b_9++t87).length=true then
 some (i_3,record_3,id_2,b_7,b_8,b_9++t87)
 else none
 else
 some [(⟨id_2,t56,r,true,false,(⟨0,false,0,[],0,[],[],[]⟩:ab)⟩:aj)] >>=fun t87_1=>
 if room 160 (b_9++t87_1).length=true then
 some (i_3,record_3,id_2,b_7,b_8,b_9++t87_1)
 else none
 else
 if(bif record_3 then decide (2<=remI x0_1.Flag 4)else false)=true then
 kY ((⟨b_7⟩:aU),r,quoI .u8 x0_1.Flag 4) >>=fun r_4=>
 some [(⟨id_2,t56,r,false,r_4.2,ab.eta r_4.1⟩:aj)] >>=fun t87_2=>
 if room 160 (b_9++t87_2).length=true then
 some (i_3,record_3,id_2,b_7,b_8,b_9++t87_2)
 else none
 else
 some [(⟨id_2,t56,r,false,false,(⟨0,false,0,[],0,[],[],[]⟩:ab)⟩:aj)] >>=fun t87_3=>
 if room 160 (b_9++t87_3).length=true then
 some (i_3,record_3,id_2,b_7,b_8,b_9++t87_3)
 else none
 else none
 else none
 else
 some (i_3,record_3,id_2,b_7,b_8,b_9)
  partial_fixpoint
theorem CN :LC 45 0 [0,0] zS gf:= .rc gf.partial_correctness (.k Ds (.k Dg .n)) .n fun _ _=>by kernel_rfl
def gj(x_:Int×Bool×Int×List bE×bE×List aj):Option (List aj):=
 match x_ with
 | (i_1,record_1,id,b_1,b_2,b_3)=>
 if decide (id<=12)=true then
 gf (i_1,record_1,id,0,b_1,b_2,b_3) >>=fun o_1=>
 gj (o_1.1,o_1.2.1,addI .i64 o_1.2.2.1 1,o_1.2.2.2.1,o_1.2.2.2.2.1,o_1.2.2.2.2.2)
 else
 some b_3
  partial_fixpoint
theorem C8 :LC 45 0 [0] e45_0 gj:= .rc gj.partial_correctness .n (.k CN .n) fun _ _=>by kernel_rfl
def il(x_:aU×Int×Bool):Option (List aj):=
 match x_ with
 | (d,i,record)=>
 if inR i d.Nodes.length=true then
 gj (i,record,1,d.Nodes,d.Nodes.getD i.toNat cf,[]) >>=fun o=>
 some o
 else none
theorem e45_k :KC e45:= .m (by kernel_rfl)
theorem DK :FC e45 il:= .fn e45_k .n (.k C8 .n) fun _=>by kernel_rfl
def fc(x_:Int×Int×List Int×Int×List bE×Int×List UInt8×Int×Int×Int×Int×Int×Bool×List ae×List aC):Option (Int×Int×List bE×Int×List UInt8×Int×Int×Int×Int×Int×Bool×List ae×List aC):=
 match x_ with
 | (n_3,i_3,l_22,k,b_25,b_26,b_27,b_28,b_29,b_30,b_31,b_32,b_33,b_34,b_35)=>
 if decide (k < (l_22.length:Int))=true then
 if inR k l_22.length=true then
 if inR k l_22.length=true then
 some (ei (wrp .i32 (addI .i64 97 (l_22.getD k.toNat 0)))) >>=fun t87=>
 if decide ([115].length+t87.length<=aX)=true then
 some [(⟨l_22.getD k.toNat 0,[115]++t87⟩:aC)] >>=fun t90=>
 if room 24 (b_35++t90).length=true then
 fc (n_3,i_3,l_22,addI .i64 k 1,b_25,b_26,b_27,b_28,b_29,b_30,b_31,b_32,b_33,b_34,b_35++t90)
 else none
 else none
 else none
 else none
 else
 some (n_3,i_3,b_25,b_26,b_27,b_28,b_29,b_30,b_31,b_32,b_33,b_34,b_35)
  partial_fixpoint
theorem Dh :LC 10 0 [0,0] zT fc:= .rc fc.partial_correctness .n .n fun _ _=>by kernel_rfl
def bh(x_:Int×Int×List bE×List ae):Option (List ae):=
 match x_ with
 | (n,i,b_1,b_2)=>
 if decide (i < n)=true then
 if inR i b_1.length=true then
 some (b_1.getD i.toNat cf) >>=fun x0=>
 gv ((⟨b_1⟩:aU),i) >>=fun r=>
 ct r >>=fun r_1=>
 if r_1=true then
 some (ei (wrp .i32 (addI .i64 65 i))) >>=fun t41=>
 if decide (r=2)=true then
 fp x0 >>=fun r_2=>
 io x0 >>=fun r_3=>
 some [(⟨r,t41,r_2,r_3,0,[],[],0,0,false⟩:ae)] >>=fun t167=>
 if room 120 (b_2++t167).length=true then
 bh (n,addI .i64 i 1,b_1,b_2++t167)
 else none
 else
 if decide (r=3)=true then
 some [(⟨r,t41,0,0,wrp .i64 (remI x0.A 4),[],[],0,0,false⟩:ae)] >>=fun t167_1=>
 if room 120 (b_2++t167_1).length=true then
 bh (n,addI .i64 i 1,b_1,b_2++t167_1)
 else none
 else
 if decide (r=4)=true then
 dR x0 >>=fun r_4=>
 fc (n,i,r_4,0,b_1,r,t41,0,0,0,0,0,decide (remI x0.B 2=1),b_2,[]) >>=fun o_1=>
 some [(⟨o_1.2.2.2.1,o_1.2.2.2.2.1,o_1.2.2.2.2.2.1,o_1.2.2.2.2.2.2.1,o_1.2.2.2.2.2.2.2.1,o_1.2.2.2.2.2.2.2.2.2.2.2.2,[],o_1.2.2.2.2.2.2.2.2.1,o_1.2.2.2.2.2.2.2.2.2.1,o_1.2.2.2.2.2.2.2.2.2.2.1⟩:ae)] >>=fun t167_2=>
 if room 120 (o_1.2.2.2.2.2.2.2.2.2.2.2.1++t167_2).length=true then
 bh (o_1.1,addI .i64 o_1.2.1 1,o_1.2.2.1,o_1.2.2.2.2.2.2.2.2.2.2.2.1++t167_2)
 else none
 else
 if decide (r=5)=true then
 il ((⟨b_1⟩:aU),i,true) >>=fun r_5=>
 some [(⟨r,t41,0,0,0,[],r_5,0,0,false⟩:ae)] >>=fun t167_3=>
 if room 120 (b_2++t167_3).length=true then
 bh (n,addI .i64 i 1,b_1,b_2++t167_3)
 else none
 else
 if decide (r=6)=true then
 il ((⟨b_1⟩:aU),i,false) >>=fun r_6=>
 if decide ((r_6.length:Int)=0)=true then
 some [(⟨5,t41,0,0,0,[],[],0,0,false⟩:ae)] >>=fun t167_4=>
 if room 120 (b_2++t167_4).length=true then
 bh (n,addI .i64 i 1,b_1,b_2++t167_4)
 else none
 else
 some [(⟨r,t41,0,0,0,[],r_6,0,0,decide (remI x0.B 2=1)⟩:ae)] >>=fun t167_5=>
 if room 120 (b_2++t167_5).length=true then
 bh (n,addI .i64 i 1,b_1,b_2++t167_5)
 else none
 else
 if decide (r=7)=true then
 if(!(decide (n=0)))=true then
 some [(⟨r,t41,0,0,wrp .i64 (remI x0.A 4),[],[],0,remI (wrp .i64 x0.C) n,false⟩:ae)] >>=fun t167_6=>
 if room 120 (b_2++t167_6).length=true then
 bh (n,addI .i64 i 1,b_1,b_2++t167_6)
 else none
 else none
 else
 if decide (r=8)=true then
 some (wrp .i64 (remI x0.A 4)) >>=fun t135=>
 iv ((⟨b_1⟩:aU),x0.B) >>=fun r_7=>
 if(!(decide (n=0)))=true then
 some (remI (wrp .i64 x0.C) n) >>=fun t144=>
 if decide (r_7 < 0)=true then
 some [(⟨7,[],0,0,t135,[],[],0,t144,false⟩:ae)] >>=fun t167_7=>
 if room 120 (b_2++t167_7).length=true then
 bh (n,addI .i64 i 1,b_1,b_2++t167_7)
 else none
 else
 some [(⟨r,t41,0,0,t135,[],[],r_7,t144,false⟩:ae)] >>=fun t167_8=>
 if room 120 (b_2++t167_8).length=true then
 bh (n,addI .i64 i 1,b_1,b_2++t167_8)
 else none
 else none
 else
 if decide (r=9)=true then
 if(!(decide (n=0)))=true then
 some [(⟨r,t41,0,0,0,[],[],0,remI (wrp .i64 x0.C) n,false⟩:ae)] >>=fun t167_9=>
 if room 120 (b_2++t167_9).length=true then
 bh (n,addI .i64 i 1,b_1,b_2++t167_9)
 else none
 else none
 else
 some [(⟨r,t41,0,0,0,[],[],0,0,false⟩:ae)] >>=fun t167_10=>
 if room 120 (b_2++t167_10).length=true then
 bh (n,addI .i64 i 1,b_1,b_2++t167_10)
 else none
 else
 if decide (r=2)=true then
 fp x0 >>=fun r_8=>
 io x0 >>=fun r_9=>
 some [(⟨r,[],r_8,r_9,0,[],[],0,0,false⟩:ae)] >>=fun t167_11=>
 if room 120 (b_2++t167_11).length=true then
 bh (n,addI .i64 i 1,b_1,b_2++t167_11)
 else none
 else
 if decide (r=3)=true then
 some [(⟨r,[],0,0,wrp .i64 (remI x0.A 4),[],[],0,0,false⟩:ae)] >>=fun t167_12=>
 if room 120 (b_2++t167_12).length=true then
 bh (n,addI .i64 i 1,b_1,b_2++t167_12)
 else none
 else
 if decide (r=4)=true then
 dR x0 >>=fun r_10=>
 fc (n,i,r_10,0,b_1,r,[],0,0,0,0,0,decide (remI x0.B 2=1),b_2,[]) >>=fun o_2=>
 some [(⟨o_2.2.2.2.1,o_2.2.2.2.2.1,o_2.2.2.2.2.2.1,o_2.2.2.2.2.2.2.1,o_2.2.2.2.2.2.2.2.1,o_2.2.2.2.2.2.2.2.2.2.2.2.2,[],o_2.2.2.2.2.2.2.2.2.1,o_2.2.2.2.2.2.2.2.2.2.1,o_2.2.2.2.2.2.2.2.2.2.2.1⟩:ae)] >>=fun t167_13=>
 if room 120 (o_2.2.2.2.2.2.2.2.2.2.2.2.1++t167_13).length=true then
 bh (o_2.1,addI .i64 o_2.2.1 1,o_2.2.2.1,o_2.2.2.2.2.2.2.2.2.2.2.2.1++t167_13)
 else none
 else
 if decide (r=5)=true then
 il ((⟨b_1⟩:aU),i,true) >>=fun r_11=>
 some [(⟨r,[],0,0,0,[],r_11,0,0,false⟩:ae)] >>=fun t167_14=>
 if room 120 (b_2++t167_14).length=true then
 bh (n,addI .i64 i 1,b_1,b_2++t167_14)
 else none
 else
 if decide (r=6)=true then
 il ((⟨b_1⟩:aU),i,false) >>=fun r_12=>
 if decide ((r_12.length:Int)=0)=true then
 some [(⟨5,[],0,0,0,[],[],0,0,false⟩:ae)] >>=fun t167_15=>
 if room 120 (b_2++t167_15).length=true then
 bh (n,addI .i64 i 1,b_1,b_2++t167_15)
 else none
 else
 some [(⟨r,[],0,0,0,[],r_12,0,0,decide (remI x0.B 2=1)⟩:ae)] >>=fun t167_16=>
 if room 120 (b_2++t167_16).length=true then
 bh (n,addI .i64 i 1,b_1,b_2++t167_16)
 else none
 else
 if decide (r=7)=true then
 if(!(decide (n=0)))=true then
 some [(⟨r,[],0,0,wrp .i64 (remI x0.A 4),[],[],0,remI (wrp .i64 x0.C) n,false⟩:ae)] >>=fun t167_17=>
 if room 120 (b_2++t167_17).length=true then
 bh (n,addI .i64 i 1,b_1,b_2++t167_17)
 else none
 else none
 else
 if decide (r=8)=true then
 some (wrp .i64 (remI x0.A 4)) >>=fun t135_1=>
 iv ((⟨b_1⟩:aU),x0.B) >>=fun r_13=>
 if(!(decide (n=0)))=true then
 some (remI (wrp .i64 x0.C) n) >>=fun t144_1=>
 if decide (r_13 < 0)=true then
 some [(⟨7,[],0,0,t135_1,[],[],0,t144_1,false⟩:ae)] >>=fun t167_18=>
 if room 120 (b_2++t167_18).length=true then
 bh (n,addI .i64 i 1,b_1,b_2++t167_18)
 else none
 else
 some [(⟨r,[],0,0,t135_1,[],[],r_13,t144_1,false⟩:ae)] >>=fun t167_19=>
 if room 120 (b_2++t167_19).length=true then
 bh (n,addI .i64 i 1,b_1,b_2++t167_19)
 else none
 else none
 else
 if decide (r=9)=true then
 if(!(decide (n=0)))=true then
 some [(⟨r,[],0,0,0,[],[],0,remI (wrp .i64 x0.C) n,false⟩:ae)] >>=fun t167_20=>
 if room 120 (b_2++t167_20).length=true then
 bh (n,addI .i64 i 1,b_1,b_2++t167_20)
 else none
 else none
 else
 some [(⟨r,[],0,0,0,[],[],0,0,false⟩:ae)] >>=fun t167_21=>
 if room 120 (b_2++t167_21).length=true then
 bh (n,addI .i64 i 1,b_1,b_2++t167_21)
 else none
 else none
 else
 some b_2
  partial_fixpoint
theorem DL :LC 10 0 [0] e10_0 bh:= .rc bh.partial_correctness (.k lc (.k qk (.k qq (.k tN (.k tU (.k DK (.k tV .n))))))) (.k Dh .n) fun _ _=>by kernel_rfl
def iz(d:aU):Option (av×Bool):=
 some (d.Nodes.length:Int) >>=fun t13=>
 if(bif decide (t13 < 1)then true else decide (5 < t13))=true then
 some ((⟨[]⟩:av),false)
 else
 bh (t13,0,d.Nodes,[]) >>=fun o=>
 some ((⟨o⟩:av),true)
theorem e10_k :KC e10:= .m (by kernel_rfl)
theorem Eu :FC e10 iz:= .fn e10_k .n (.k DL .n) fun _=>by kernel_rfl
def eH(x_:List aC×List aC×Int×Int):Option ((Bool) ⊕ (Unit)):=
 match x_ with
 | (s1_1,s2_1,t12_1,t13)=>
 if decide (t13 < t12_1)=true then
 if inR t13 s1_1.length=true then
 some (s1_1.getD t13.toNat aR) >>=fun x0=>
 if inR t13 s2_1.length=true then
 some (s2_1.getD t13.toNat aR) >>=fun x0_1=>
 if(!(eqI x0.ID x0_1.ID && (eqS x0.Name x0_1.Name && true)))=true then
 some (.inl false)
 else
 eH (s1_1,s2_1,t12_1,addI .i64 t13 1)
 else none
 else none
 else
 some (.inr ())
  partial_fixpoint
theorem Ck :LC 220 0 [0] AK eH:= .rc eH.partial_correctness .n .n fun _ _=>by kernel_rfl
def nu(x_:List aC×List aC):Option (Bool):=
 match x_ with
 | (s1,s2)=>
 if(!(decide ((s1.length:Int)=(s2.length:Int))))=true then
 some false
 else
 eH (s1,s2,(s1.length:Int),0) >>=fun o=>
 match o with
 | .inl o_1=>
 some o_1
 | .inr o_2=>
 some true
theorem Mt :KC e220:= .m (by kernel_rfl)
theorem Cm :FC e220 nu:= .fn Mt .n (.k Ck .n) fun _=>by kernel_rfl
def eK(x_:List aH×List aH×Int×Int):Option ((Bool) ⊕ (Unit)):=
 match x_ with
 | (s1_1,s2_1,t12_1,t13)=>
 if decide (t13 < t12_1)=true then
 if inR t13 s1_1.length=true then
 some (s1_1.getD t13.toNat az) >>=fun x0=>
 if inR t13 s2_1.length=true then
 some (s2_1.getD t13.toNat az) >>=fun x0_1=>
 if(!(eqI x0.ID x0_1.ID && (eqS x0.Data x0_1.Data && true)))=true then
 some (.inl false)
 else
 eK (s1_1,s2_1,t12_1,addI .i64 t13 1)
 else none
 else none
 else
 some (.inr ())
  partial_fixpoint
theorem Cn :LC 224 0 [0] AL eK:= .rc eK.partial_correctness .n .n fun _ _=>by kernel_rfl
def kP(x_:List aH×List aH):Option (Bool):=
 match x_ with
 | (s1,s2)=>
 if(!(decide ((s1.length:Int)=(s2.length:Int))))=true then
 some false
 else
 eK (s1,s2,(s1.length:Int),0) >>=fun o=>
 match o with
 | .inl o_1=>
 some o_1
 | .inr o_2=>
 some true
theorem Mu :KC e224:= .m (by kernel_rfl)
theorem tu :FC e224 kP:= .fn Mu .n (.k Cn .n) fun _=>by kernel_rfl
mutual
def di(x_:ab×ab):Option (Bool):=
 match x_ with
 | (a,b)=>
 some (bif bif bif bif decide (a.Kind=b.Kind)then eqB a.Bool_ b.Bool_ else false then decide (a.Int_=b.Int_)else false then decide (a.Str=b.Str)else false then decide (a.ID=b.ID)else false) >>=fun t37=>
 (if t37=true then kP (a.Rest,b.Rest)else some false) >>=fun r=>
 some (bif t37 then r else false) >>=fun t44=>
 (if t44=true then kM (a.Keys,b.Keys)else some false) >>=fun r_1=>
 some (bif t44 then r_1 else false) >>=fun t51=>
 (if t51=true then kM (a.Items,b.Items)else some false) >>=fun r_2=>
 some (bif t51 then r_2 else false)
  partial_fixpoint
def kM(x_:List ab×List ab):Option (Bool):=
 match x_ with
 | (s1,s2)=>
 if(!(decide ((s1.length:Int)=(s2.length:Int))))=true then
 some false
 else
 jf (s2,s1,(s1.length:Int),0) >>=fun o=>
 match o with
 | .inl o_1=>
 some o_1
 | .inr o_2=>
 some true
  partial_fixpoint
def jf(x_:List ab×List ab×Int×Int):Option ((Bool) ⊕ (Unit)):=
 match x_ with
 | (s2_1,t15,t16_1,t17)=>
 if decide (t17 < t16_1)=true then
 if inR t17 t15.length=true then
 if inR t17 s2_1.length=true then
 di (ab.eta (t15.getD t17.toNat ag),ab.eta (s2_1.getD t17.toNat ag)) >>=fun r=>
 if(!r)=true then
 some (.inl false)
 else
 jf (s2_1,t15,t16_1,addI .i64 t17 1)
 else none
 else none
 else
 some (.inr ())
  partial_fixpoint
end
theorem ti :KC e223:= .m (by kernel_rfl)
theorem yH :KC kB:= .m (by kernel_rfl)
theorem EG :(∀h r,di h=some r->FD e223 h r)/\(∀h r,kM h=some r->FD kB h r)/\(∀h r,jf h=some r->LD 225 0 [0] mq h r):=di.mutual_partial_correctness (FD e223) (FD kB) (LD 225 0 [0] mq)
 (fun _ h1 _ _ h=>FA e223 ti (.k tu (.k (FH kB yH h1) .n)) .n (.trans (by kernel_rfl) h))
 (fun _ h2 _ _ h=>FA kB yH .n (.k (LH mq h2) .n) (.trans (by kernel_rfl) h))
 (fun _ _ h0 h2 _ _ h=>LA mq h2 (.k (FH e223 ti h0) .n) .n (.trans (by kernel_rfl) h))
theorem uM :FC e223 di:= .of ti EG.1
def lC(x_:aj×aj):Option (Bool):=
 match x_ with
 | (x0,y)=>
 some (bif bif bif bif decide (x0.ID=y.ID)then decide (x0.Name=y.Name)else false then decide (x0.Type_=y.Type_)else false then eqB x0.Critical y.Critical else false then eqB x0.HasDefault y.HasDefault else false) >>=fun t37=>
 (if t37=true then di ((⟨x0.Default.Kind,x0.Default.Bool_,x0.Default.Int_,x0.Default.Str,x0.Default.ID,x0.Default.Keys,x0.Default.Items,x0.Default.Rest⟩:ab),ab.eta y.Default)else some false) >>=fun r=>
 some (bif t37 then r else false)
theorem Mv :KC e222:= .m (by kernel_rfl)
theorem Ev :FC e222 lC:= .fn Mv (.k uM .n) .n fun _=>by kernel_rfl
def eE(x_:List aj×List aj×Int×Int):Option ((Bool) ⊕ (Unit)):=
 match x_ with
 | (s2_1,t15,t16_1,t17)=>
 if decide (t17 < t16_1)=true then
 if inR t17 t15.length=true then
 some (t15.getD t17.toNat ap) >>=fun x0=>
 if inR t17 s2_1.length=true then
 some (s2_1.getD t17.toNat ap) >>=fun x0_1=>
 lC ((⟨x0.ID,x0.Name,x0.Type_,x0.Critical,x0.HasDefault,ab.eta x0.Default⟩:aj),(⟨x0_1.ID,x0_1.Name,x0_1.Type_,x0_1.Critical,x0_1.HasDefault,ab.eta x0_1.Default⟩:aj)) >>=fun r=>
 if(!r)=true then
 some (.inl false)
 else
 eE (s2_1,t15,t16_1,addI .i64 t17 1)
 else none
 else none
 else
 some (.inr ())
  partial_fixpoint
theorem Ca :LC 221 0 [0] AM eE:= .rc eE.partial_correctness (.k Ev .n) .n fun _ _=>by kernel_rfl
def nq(x_:List aj×List aj):Option (Bool):=
 match x_ with
 | (s1,s2)=>
 if(!(decide ((s1.length:Int)=(s2.length:Int))))=true then
 some false
 else
 eE (s2,s1,(s1.length:Int),0) >>=fun o=>
 match o with
 | .inl o_1=>
 some o_1
 | .inr o_2=>
 some true
theorem Mw :KC e221:= .m (by kernel_rfl)
theorem Cb :FC e221 nq:= .fn Mw .n (.k Ca .n) fun _=>by kernel_rfl
def bI(x_:ae×ae):Option (Bool):=
 match x_ with
 | (a,b)=>
 some (bif bif bif bif bif bif bif decide (a.Kind=b.Kind)then decide (a.Name=b.Name)else false then decide (a.Low=b.Low)else false then decide (a.High=b.High)else false then decide (a.Max=b.Max)else false then decide (a.Key=b.Key)else false then decide (a.Elem=b.Elem)else false then eqB a.Open b.Open else false) >>=fun t58=>
 (if t58=true then nu (a.Symbols,b.Symbols)else some false) >>=fun r=>
 some (bif t58 then r else false) >>=fun t65=>
 (if t65=true then nq (a.Members,b.Members)else some false) >>=fun r_1=>
 some (bif t65 then r_1 else false)
theorem Mx :KC e201:= .m (by kernel_rfl)
theorem E5 :FC e201 bI:= .fn Mx (.k Cm (.k Cb .n)) .n fun _=>by kernel_rfl
def lD(c:Int):Option (Bool):=
 some (bif bif decide (c=95)then true else bif decide (97<=c)then decide (c<=122)else false then true else bif decide (65<=c)then decide (c<=90)else false)
theorem My :KC e216:= .m (by kernel_rfl)
theorem uc :FC e216 lD:= .fn My .n .n fun _=>by kernel_rfl
def nQ(c:Int):Option (Bool):=
 some (bif decide (48<=c)then decide (c<=57)else false)
theorem Mz :KC e217:= .m (by kernel_rfl)
theorem EH :FC e217 nQ:= .fn Mz .n .n fun _=>by kernel_rfl
def cT(x_:List UInt8×Int×Int):Option ((Bool) ⊕ (Unit)):=
 match x_ with
 | (s_1,t18_1,t19)=>
 if decide (t19 < t18_1)=true then
 if inR t19 s_1.length=true then
 lD (aY s_1 t19) >>=fun r_1=>
 some (!r_1) >>=fun t26=>
 if(inR t19 s_1.length || (!t26))=true then
 (if t26=true then nQ (aY s_1 t19)else some false) >>=fun r_2=>
 if(bif t26 then(!r_2)else false)=true then
 some (.inl false)
 else
 cT (s_1,t18_1,addI .i64 t19 1)
 else none
 else none
 else
 some (.inr ())
  partial_fixpoint
theorem Ef :LC 198 0 [0] AN cT:= .rc cT.partial_correctness (.k uc (.k EH .n)) .n fun _ _=>by kernel_rfl
def cH(s:List UInt8):Option (Bool):=
 some (bif decide (s=[])then true else decide (24 < (s.length:Int))) >>=fun t10=>
 if(inR 0 s.length || (!(!t10)))=true then
 (if(!t10)=true then lD (aY s 0)else some false) >>=fun r=>
 if(bif t10 then true else(!r))=true then
 some false
 else
 cT (s,(s.length:Int),0) >>=fun o=>
 match o with
 | .inl o_1=>
 some o_1
 | .inr o_2=>
 some true
 else none
theorem MA :KC e198:= .m (by kernel_rfl)
theorem uC :FC e198 cH:= .fn MA (.k uc .n) (.k Ef .n) fun _=>by kernel_rfl
def fw(x_:List Int×List (List UInt8)×List Int×Int×Int×List (List UInt8)):Option ((Bool) ⊕ (List Int)):=
 match x_ with
 | (l_2,names_1,t9,t10_1,t11,b)=>
 if decide (t11 < t10_1)=true then
 if inR t11 t9.length=true then
 some (t9.getD t11.toNat 0) >>=fun x0=>
 some (bif decide (x0 < 1)then true else decide (1000 < x0)) >>=fun t21=>
 some (decide (0 < t11)) >>=fun t24=>
 some (subI .i64 t11 1) >>=fun t29=>
 if(inR t29 l_2.length || (!((!t21) && t24)))=true then
 some (bif t21 then true else bif t24 then decide (x0<=l_2.getD t29.toNat 0)else false) >>=fun t34=>
 if(inR t11 names_1.length || (!(!t34)))=true then
 some (bif t34 then true else hasS b (names_1.getD t11.toNat [])) >>=fun t42=>
 if(inR t11 names_1.length || (!(!t42)))=true then
 (if(!t42)=true then cH (names_1.getD t11.toNat [])else some false) >>=fun r=>
 if(bif t42 then true else(!r))=true then
 some (.inl false)
 else
 if inR t11 names_1.length=true then
 fw (l_2,names_1,t9,t10_1,addI .i64 t11 1,addS b (names_1.getD t11.toNat []))
 else none
 else none
 else none
 else none
 else none
 else
 some (.inr l_2)
  partial_fixpoint
theorem EK :LC 218 0 [0] AP fw:= .rc fw.partial_correctness (.k uC .n) .n fun _ _=>by kernel_rfl
def l9(x_:List Int×List (List UInt8)):Option (Bool):=
 match x_ with
 | (l,names)=>
 fw (l,names,l,(l.length:Int),0,[]) >>=fun o=>
 match o with
 | .inl o_1=>
 some o_1
 | .inr o_2=>
 some (decide ((o_2.length:Int)<=16))
theorem MB :KC e218:= .m (by kernel_rfl)
theorem u9 :FC e218 l9:= .fn MB .n (.k EK .n) fun _=>by kernel_rfl
def gq(x_:List aC×List aC×Int×Int×List Int×List (List UInt8)):Option (List aC×List Int×List (List UInt8)):=
 match x_ with
 | (l_2,t7,t8_1,t9,b_2,b_3)=>
 if decide (t9 < t8_1)=true then
 if inR t9 t7.length=true then
 some (t7.getD t9.toNat aR) >>=fun x0=>
 some [x0.ID] >>=fun t16=>
 if room 8 (b_2++t16).length=true then
 some [x0.Name] >>=fun t21=>
 if room 16 (b_3++t21).length=true then
 gq (l_2,t7,t8_1,addI .i64 t9 1,b_2++t16,b_3++t21)
 else none
 else none
 else none
 else
 some (l_2,b_2,b_3)
  partial_fixpoint
theorem DN :LC 199 0 [0] AQ gq:= .rc gq.partial_correctness .n .n fun _ _=>by kernel_rfl
def jB(l:List aC):Option (Bool):=
 gq (l,l,(l.length:Int),0,[],[]) >>=fun o=>
 some (decide (0 < (o.1.length:Int))) >>=fun t26=>
 (if t26=true then l9 (o.2.1,o.2.2)else some false) >>=fun r=>
 some (bif t26 then r else false)
theorem MC :KC e199:= .m (by kernel_rfl)
theorem Ew :FC e199 jB:= .fn MC (.k u9 .n) (.k DN .n) fun _=>by kernel_rfl
def nZ(v:ab):Option (Bool):=
 di (ab.eta v,(⟨0,false,0,[],0,[],[],[]⟩:ab)) >>=fun r=>
 some r
theorem MD :KC e219:= .m (by kernel_rfl)
theorem E6 :FC e219 nZ:= .fn MD (.k uM .n) .n fun _=>by kernel_rfl
def fh(x_:List aj×Int×Int×ae×List Int×List (List UInt8)):Option ((Bool) ⊕ (ae×List Int×List (List UInt8))):=
 match x_ with
 | (t8,t9_1,t10,b_3,b_4,b_5)=>
 if decide (t10 < t9_1)=true then
 if inR t10 t8.length=true then
 some (t8.getD t10.toNat ap) >>=fun x0=>
 some [x0.ID] >>=fun t17=>
 if room 8 (b_4++t17).length=true then
 some [x0.Name] >>=fun t22=>
 if room 16 (b_5++t22).length=true then
 some (bif bif decide (b_3.Kind=6)then bif x0.Critical then true else x0.HasDefault else false then true else bif x0.Critical then x0.HasDefault else false) >>=fun t42=>
 some (!x0.HasDefault) >>=fun t46=>
 (if((!t42) && t46)=true then nZ (ab.eta x0.Default)else some false) >>=fun r_1=>
 if(bif t42 then true else bif t46 then(!r_1)else false)=true then
 some (.inl false)
 else
 fh (t8,t9_1,addI .i64 t10 1,b_3,b_4++t17,b_5++t22)
 else none
 else none
 else none
 else
 some (.inr (b_3,b_4,b_5))
  partial_fixpoint
theorem DO :LC 200 0 [0] AS fh:= .rc fh.partial_correctness (.k E6 .n) .n fun _ _=>by kernel_rfl
def iA(t:ae):Option (Bool):=
 fh (t.Members,(t.Members.length:Int),0,t,[],[]) >>=fun o=>
 match o with
 | .inl o_1=>
 some o_1
 | .inr o_2=>
 some (bif decide (o_2.1.Kind=5)then true else decide (0 < (o_2.2.1.length:Int))) >>=fun t62=>
 (if t62=true then l9 (o_2.2.1,o_2.2.2)else some false) >>=fun r=>
 some (bif t62 then r else false)
theorem ME :KC e200:= .m (by kernel_rfl)
theorem Ex :FC e200 iA:= .fn ME (.k u9 .n) (.k DO .n) fun _=>by kernel_rfl
def bp(t:ae):Option (Bool):=
 if decide (t.Kind=1)=true then
 bI ((⟨0,t.Name,t.Low,t.High,t.Max,t.Symbols,t.Members,t.Key,t.Elem,t.Open⟩:ae),(⟨0,[],0,0,0,[],[],0,0,false⟩:ae)) >>=fun r=>
 some r
 else
 if decide (t.Kind=2)=true then
 some (decide (t.Low<=t.High)) >>=fun t17=>
 (if t17=true then bI ((⟨0,t.Name,0,0,t.Max,t.Symbols,t.Members,t.Key,t.Elem,t.Open⟩:ae),(⟨0,[],0,0,0,[],[],0,0,false⟩:ae))else some false) >>=fun r_1=>
 some (bif t17 then r_1 else false)
 else
 if decide (t.Kind=3)=true then
 some (bif decide (0<=t.Max)then decide (t.Max<=200)else false) >>=fun t29=>
 (if t29=true then bI ((⟨0,t.Name,t.Low,t.High,0,t.Symbols,t.Members,t.Key,t.Elem,t.Open⟩:ae),(⟨0,[],0,0,0,[],[],0,0,false⟩:ae))else some false) >>=fun r_2=>
 some (bif t29 then r_2 else false)
 else
 if decide (t.Kind=4)=true then
 cH t.Name >>=fun r_3=>
 (if r_3=true then jB t.Symbols else some false) >>=fun r_4=>
 some (bif r_3 then r_4 else false) >>=fun t40=>
 (if t40=true then bI ((⟨0,[],t.Low,t.High,t.Max,[],t.Members,t.Key,t.Elem,false⟩:ae),(⟨0,[],0,0,0,[],[],0,0,false⟩:ae))else some false) >>=fun r_5=>
 some (bif t40 then r_5 else false)
 else
 some (decide (t.Kind=5)) >>=fun t45=>
 if t45=true then
 if t45=true then
 cH t.Name >>=fun r_6=>
 (if r_6=true then iA t else some false) >>=fun r_7=>
 some (bif r_6 then r_7 else false) >>=fun t53=>
 (if t53=true then bI ((⟨0,[],t.Low,t.High,t.Max,t.Symbols,[],t.Key,t.Elem,bif t.Open then decide (t.Kind=5)else false⟩:ae),(⟨0,[],0,0,0,[],[],0,0,false⟩:ae))else some false) >>=fun r_8=>
 some (bif t53 then r_8 else false)
 else
 some (decide (t.Kind=7)) >>=fun t65=>
 if t65=true then
 if t65=true then
 some (bif decide (0<=t.Max)then decide (t.Max<=50)else false) >>=fun t74=>
 if decide (t.Kind=8)=true then
 (if t74=true then bI ((⟨0,t.Name,t.Low,t.High,0,t.Symbols,t.Members,0,0,t.Open⟩:ae),(⟨0,[],0,0,0,[],[],0,0,false⟩:ae))else some false) >>=fun r_9=>
 some (bif t74 then r_9 else false)
 else
 (if t74=true then bI ((⟨0,t.Name,t.Low,t.High,0,t.Symbols,t.Members,t.Key,0,t.Open⟩:ae),(⟨0,[],0,0,0,[],[],0,0,false⟩:ae))else some false) >>=fun r_10=>
 some (bif t74 then r_10 else false)
 else
 if decide (t.Kind=9)=true then
 bI ((⟨0,t.Name,t.Low,t.High,t.Max,t.Symbols,t.Members,t.Key,0,t.Open⟩:ae),(⟨0,[],0,0,0,[],[],0,0,false⟩:ae)) >>=fun r_11=>
 some r_11
 else
 some false
 else
 if decide (t.Kind=8)=true then
 some (bif decide (0<=t.Max)then decide (t.Max<=50)else false) >>=fun t74_1=>
 if decide (t.Kind=8)=true then
 (if t74_1=true then bI ((⟨0,t.Name,t.Low,t.High,0,t.Symbols,t.Members,0,0,t.Open⟩:ae),(⟨0,[],0,0,0,[],[],0,0,false⟩:ae))else some false) >>=fun r_12=>
 some (bif t74_1 then r_12 else false)
 else
 (if t74_1=true then bI ((⟨0,t.Name,t.Low,t.High,0,t.Symbols,t.Members,t.Key,0,t.Open⟩:ae),(⟨0,[],0,0,0,[],[],0,0,false⟩:ae))else some false) >>=fun r_13=>
 some (bif t74_1 then r_13 else false)
 else
 if decide (t.Kind=9)=true then
 bI ((⟨0,t.Name,t.Low,t.High,t.Max,t.Symbols,t.Members,t.Key,0,t.Open⟩:ae),(⟨0,[],0,0,0,[],[],0,0,false⟩:ae)) >>=fun r_14=>
 some r_14
 else
 some false
 else
 if decide (t.Kind=6)=true then
 cH t.Name >>=fun r_15=>
 (if r_15=true then iA t else some false) >>=fun r_16=>
 some (bif r_15 then r_16 else false) >>=fun t53_1=>
 (if t53_1=true then bI ((⟨0,[],t.Low,t.High,t.Max,t.Symbols,[],t.Key,t.Elem,bif t.Open then decide (t.Kind=5)else false⟩:ae),(⟨0,[],0,0,0,[],[],0,0,false⟩:ae))else some false) >>=fun r_17=>
 some (bif t53_1 then r_17 else false)
 else
 some (decide (t.Kind=7)) >>=fun t65_1=>
 if t65_1=true then
 if t65_1=true then
 some (bif decide (0<=t.Max)then decide (t.Max<=50)else false) >>=fun t74_2=>
 if decide (t.Kind=8)=true then
 (if t74_2=true then bI ((⟨0,t.Name,t.Low,t.High,0,t.Symbols,t.Members,0,0,t.Open⟩:ae),(⟨0,[],0,0,0,[],[],0,0,false⟩:ae))else some false) >>=fun r_18=>
 some (bif t74_2 then r_18 else false)
 else
 (if t74_2=true then bI ((⟨0,t.Name,t.Low,t.High,0,t.Symbols,t.Members,t.Key,0,t.Open⟩:ae),(⟨0,[],0,0,0,[],[],0,0,false⟩:ae))else some false) >>=fun r_19=>
 some (bif t74_2 then r_19 else false)
 else
 if decide (t.Kind=9)=true then
 bI ((⟨0,t.Name,t.Low,t.High,t.Max,t.Symbols,t.Members,t.Key,0,t.Open⟩:ae),(⟨0,[],0,0,0,[],[],0,0,false⟩:ae)) >>=fun r_20=>
 some r_20
 else
 some false
 else
 if decide (t.Kind=8)=true then
 some (bif decide (0<=t.Max)then decide (t.Max<=50)else false) >>=fun t74_3=>
 if decide (t.Kind=8)=true then
 (if t74_3=true then bI ((⟨0,t.Name,t.Low,t.High,0,t.Symbols,t.Members,0,0,t.Open⟩:ae),(⟨0,[],0,0,0,[],[],0,0,false⟩:ae))else some false) >>=fun r_21=>
 some (bif t74_3 then r_21 else false)
 else
 (if t74_3=true then bI ((⟨0,t.Name,t.Low,t.High,0,t.Symbols,t.Members,t.Key,0,t.Open⟩:ae),(⟨0,[],0,0,0,[],[],0,0,false⟩:ae))else some false) >>=fun r_22=>
 some (bif t74_3 then r_22 else false)
 else
 if decide (t.Kind=9)=true then
 bI ((⟨0,t.Name,t.Low,t.High,t.Max,t.Symbols,t.Members,t.Key,0,t.Open⟩:ae),(⟨0,[],0,0,0,[],[],0,0,false⟩:ae)) >>=fun r_23=>
 some r_23
 else
 some false
theorem MF :KC e158:= .m (by kernel_rfl)
theorem Fl :FC e158 bp:= .fn MF (.k E5 (.k uC (.k Ew (.k Ex .n)))) .n fun _=>by kernel_rfl
def gB(x_:List aj×Int×Int×ae×List Int):Option (ae×List Int):=
 match x_ with
 | (t7,t8_1,t9,b_2,b_3)=>
 if decide (t9 < t8_1)=true then
 if inR t9 t7.length=true then
 some [(t7.getD t9.toNat ap).Type_] >>=fun t16=>
 if room 8 (b_3++t16).length=true then
 gB (t7,t8_1,addI .i64 t9 1,b_2,b_3++t16)
 else none
 else none
 else
 some (b_2,b_3)
  partial_fixpoint
theorem Ey :LC 159 0 [0] AT gB:= .rc gB.partial_correctness .n .n fun _ _=>by kernel_rfl
def ou(t:ae):Option (List Int):=
 gB (t.Members,(t.Members.length:Int),0,t,[]) >>=fun o=>
 if decide (o.1.Kind=8)=true then
 some [o.1.Key] >>=fun t25=>
 if room 8 (o.2++t25).length=true then
 some (o.2++t25) >>=fun l=>
 if decide (7<=o.1.Kind)=true then
 some [o.1.Elem] >>=fun t33=>
 if room 8 (l++t33).length=true then
 some (l++t33)
 else none
 else
 some l
 else none
 else
 if decide (7<=o.1.Kind)=true then
 some [o.1.Elem] >>=fun t33_1=>
 if room 8 (o.2++t33_1).length=true then
 some (o.2++t33_1)
 else none
 else
 some o.2
theorem MG :KC e159:= .m (by kernel_rfl)
theorem Fp :FC e159 ou:= .fn MG .n (.k Ey .n) fun _=>by kernel_rfl
def fj(x_:List ae×Int×Int×List Int×Int×Int×List ae×List (List UInt8)×Int×List UInt8×Int×Int×Int×List aC×List aj×Int×Int×Bool):Option ((Int) ⊕ (List ae×Int×Int×List ae×List (List UInt8)×Int×List UInt8×Int×Int×Int×List aC×List aj×Int×Int×Bool)):=
 match x_ with
 | (t14_2,t15_3,t16_2,t38,t39_1,t40,b_14,b_15,b_16,b_17,b_18,b_19,b_20,b_21,b_22,b_23,b_24,b_25)=>
 if decide (t40 < t39_1)=true then
 if inR t40 t38.length=true then
 some (t38.getD t40.toNat 0) >>=fun x0_3=>
 if(bif decide (x0_3 < 0)then true else decide ((b_14.length:Int)<=x0_3))=true then
 some (.inl 4)
 else
 fj (t14_2,t15_3,t16_2,t38,t39_1,addI .i64 t40 1,b_14,b_15,b_16,b_17,b_18,b_19,b_20,b_21,b_22,b_23,b_24,b_25)
 else none
 else
 some (.inr (t14_2,t15_3,t16_2,b_14,b_15,b_16,b_17,b_18,b_19,b_20,b_21,b_22,b_23,b_24,b_25))
  partial_fixpoint
theorem DR :LC 125 0 [0,0] yE fj:= .rc fj.partial_correctness .n .n fun _ _=>by kernel_rfl
def gx(x_:List ae×Int×Int×List ae×List (List UInt8)):Option ((Int) ⊕ (Unit)):=
 match x_ with
 | (t14,t15_1,t16,b,b_1)=>
 if decide (t16 < t15_1)=true then
 if inR t16 t14.length=true then
 some (t14.getD t16.toNat af) >>=fun x0=>
 bp x0 >>=fun r=>
 if(bif (!r)then true else bif (!(decide (x0.Name=[])))then hasS b_1 x0.Name else false)=true then
 some (.inl 1)
 else
 ou x0 >>=fun r_1=>
 fj (t14,t15_1,t16,r_1,(r_1.length:Int),0,b,addS b_1 x0.Name,x0.Kind,x0.Name,x0.Low,x0.High,x0.Max,x0.Symbols,x0.Members,x0.Key,x0.Elem,x0.Open) >>=fun o_3=>
 match o_3 with
 | .inl o_4=>
 some (.inl o_4)
 | .inr o_5=>
 some (decide (o_5.2.2.2.2.2.1=8)) >>=fun t56=>
 if(inR o_5.2.2.2.2.2.2.2.2.2.2.2.2.1 o_5.2.2.2.1.length || (!t56))=true then
 some (decide ((o_5.2.2.2.1.getD o_5.2.2.2.2.2.2.2.2.2.2.2.2.1.toNat af).Kind < 1)) >>=fun t65=>
 if(inR o_5.2.2.2.2.2.2.2.2.2.2.2.2.1 o_5.2.2.2.1.length || (!(t56 && (!t65))))=true then
 if(bif t56 then bif t65 then true else decide (4 < (o_5.2.2.2.1.getD o_5.2.2.2.2.2.2.2.2.2.2.2.2.1.toNat af).Kind)else false)=true then
 some (.inl 1)
 else
 gx (o_5.1,o_5.2.1,addI .i64 o_5.2.2.1 1,o_5.2.2.2.1,o_5.2.2.2.2.1)
 else none
 else none
 else none
 else
 some (.inr ())
  partial_fixpoint
theorem Eg :LC 125 0 [0] AU gx:= .rc gx.partial_correctness (.k Fl (.k Fp .n)) (.k DR .n) fun _ _=>by kernel_rfl
def iK(s:av):Option (Int):=
 if decide (32 < (s.Types.length:Int))=true then
 some 3
 else
 gx (s.Types,(s.Types.length:Int),0,s.Types,[]) >>=fun o=>
 match o with
 | .inl o_1=>
 some o_1
 | .inr o_2=>
 some 0
theorem MH :KC e125:= .m (by kernel_rfl)
theorem uE :FC e125 iK:= .fn MH .n (.k Eg .n) fun _=>by kernel_rfl
def bD(x_:Int×List ae×List Int×Int×List Int):Option (ab×Bool×List ae×Int×List Int×List Int):=
 match x_ with
 | (reason,b,b_1,b_2,b_3)=>
 tg 8 b_3 >>=fun r=>
 if(decide (r.1.length=b_3.length) && true)=true then
 some ((⟨0,false,0,[],0,[],[],[]⟩:ab),false,b,reason,r.1,r.2)
 else none
theorem MI :KC e177:= .m (by kernel_rfl)
theorem gm :FC e177 bD:= .fn MI (.k jl .n) .n fun _=>by kernel_rfl
def fk(x_:List UInt8×Int×Int×Int):Option (Int):=
 match x_ with
 | (s_1,n_1,t17_1,t18)=>
 if decide (t18 < t17_1)=true then
 if inR t18 s_1.length=true then
 fk (s_1,orI .u64 (shlI .u64 n_1 8) (wrp .u64 (aY s_1 t18)),t17_1,addI .i64 t18 1)
 else none
 else
 some n_1
  partial_fixpoint
theorem DT :LC 168 0 [0] AV fk:= .rc fk.partial_correctness .n .n fun _ _=>by kernel_rfl
def jC(s:List UInt8):Option (Int×Int):=
 some (!(decide (s=[]))) >>=fun t7=>
 if(inR 0 s.length || (!t7))=true then
 if(bif t7 then decide (aY s 0=0)else false)=true then
 some (0,2)
 else
 if decide (8 < (s.length:Int))=true then
 some (0,7)
 else
 fk (s,0,(s.length:Int),0) >>=fun o=>
 some (o,0)
 else none
theorem MK :KC e168:= .m (by kernel_rfl)
theorem ud :FC e168 jC:= .fn MK .n (.k DT .n) fun _=>by kernel_rfl
def lx(n:Int):Option (Int):=
 some (xorI .i64 (wrp .i64 (shrI .u64 n 1)) (subI .i64 0 (wrp .i64 (andI .u64 n 1))))
theorem ML :KC e169:= .m (by kernel_rfl)
theorem tW :FC e169 lx:= .fn ML .n .n fun _=>by kernel_rfl
def qB(x_:aC×Int):Option (Bool×Int):=
 match x_ with
 | (x0,b)=>
 some (decide (x0.ID=b),b)
theorem MM :KC e191:= .m (by kernel_rfl)
theorem Eh :FC e191 qB:= .fn MM .n .n fun _=>by kernel_rfl
def dG(x_:List aC×Int×Int×Int):Option ((Int×Int) ⊕ (Int)):=
 match x_ with
 | (s_1,t7_1,t8,b_3)=>
 if decide (t8 < t7_1)=true then
 if inR t8 s_1.length=true then
 qB (s_1.getD t8.toNat aR,b_3) >>=fun r=>
 if r.1=true then
 some (.inl (t8,r.2))
 else
 dG (s_1,t7_1,addI .i64 t8 1,r.2)
 else none
 else
 some (.inr b_3)
  partial_fixpoint
theorem Cd :LC 190 1 [0] AX dG:= .rc dG.partial_correctness (.k Eh .n) .n fun _ _=>by kernel_rfl
def p5(x_:List aC×Int):Option (Int×Int):=
 match x_ with
 | (s,b)=>
 dG (s,(s.length:Int),0,b) >>=fun o=>
 match o with
 | .inl o_1=>
 some (o_1.1,o_1.2)
 | .inr o_2=>
 some ((-1),o_2)
theorem MN :KC e190:= .m (by kernel_rfl)
theorem Ci :FC e190 p5:= .fn MN .n (.k Cd .n) fun _=>by kernel_rfl
def jE(x_:ae×Int):Option (Int×Bool):=
 match x_ with
 | (t,id)=>
 p5 (t.Symbols,id) >>=fun r=>
 some (maxI r.1 0,decide (0<=r.1))
theorem MO :KC e143:= .m (by kernel_rfl)
theorem qC :FC e143 jE:= .fn MO (.k Ci .n) .n fun _=>by kernel_rfl
def oY(x0:Int):Option (Bool):=
 some (!(decide (x0=x0)))
theorem MP :KC e214:= .m (by kernel_rfl)
theorem Gt :FC e214 oY:= .fn MP .n .n fun _=>by kernel_rfl
def ov(x_:Int×Int):Option (Int):=
 match x_ with
 | (x0,y)=>
 oY x0 >>=fun r=>
 oY y >>=fun r_1=>
 if r=true then
 if r_1=true then
 some 0
 else
 some (-1)
 else
 if r_1=true then
 some 1
 else
 if decide (x0 < y)=true then
 some (-1)
 else
 if decide (y < x0)=true then
 some 1
 else
 some 0
theorem MQ :KC e195:= .m (by kernel_rfl)
theorem Fq :FC e195 ov:= .fn MQ (.k Gt .n) .n fun _=>by kernel_rfl
def ow(x0:Int):Option (Bool):=
 some (!(decide (x0=x0)))
theorem MR :KC e208:= .m (by kernel_rfl)
theorem Fs :FC e208 ow:= .fn MR .n .n fun _=>by kernel_rfl
def lL(x_:Int×Int):Option (Int):=
 match x_ with
 | (x0,y)=>
 ow x0 >>=fun r=>
 ow y >>=fun r_1=>
 if r=true then
 if r_1=true then
 some 0
 else
 some (-1)
 else
 if r_1=true then
 some 1
 else
 if decide (x0 < y)=true then
 some (-1)
 else
 if decide (y < x0)=true then
 some 1
 else
 some 0
theorem MS :KC e174:= .m (by kernel_rfl)
theorem EL :FC e174 lL:= .fn MS (.k Fs .n) .n fun _=>by kernel_rfl
def ox(x0:List UInt8):Option (Bool):=
 some (!(decide (x0=x0)))
theorem MU :KC e215:= .m (by kernel_rfl)
theorem Ft :FC e215 ox:= .fn MU .n .n fun _=>by kernel_rfl
def nR(x_:List UInt8×List UInt8):Option (Int):=
 match x_ with
 | (x0,y)=>
 ox x0 >>=fun r=>
 ox y >>=fun r_1=>
 if r=true then
 if r_1=true then
 some 0
 else
 some (-1)
 else
 if r_1=true then
 some 1
 else
 if Op.bytesLess x0 y=true then
 some (-1)
 else
 if(!(Op.bytesLess x0 y || decide (x0=y)))=true then
 some 1
 else
 some 0
theorem MV :KC e197:= .m (by kernel_rfl)
theorem EM :FC e197 nR:= .fn MV (.k Ft .n) .n fun _=>by kernel_rfl
def gK(x_:Int×List Int×Int×Int):Option ((Int) ⊕ (Int)):=
 match x_ with
 | (zero_1,t6,t7_1,t8)=>
 if decide (t8 < t7_1)=true then
 if inR t8 t6.length=true then
 some (t6.getD t8.toNat 0) >>=fun x0=>
 if(!(decide (x0=zero_1)))=true then
 some (.inl x0)
 else
 gK (zero_1,t6,t7_1,addI .i64 t8 1)
 else none
 else
 some (.inr zero_1)
  partial_fixpoint
theorem Gu :LC 196 0 [0] A3 gK:= .rc gK.partial_correctness .n .n fun _ _=>by kernel_rfl
def pV(vals:List Int):Option (Int):=
 gK (0,vals,(vals.length:Int),0) >>=fun o=>
 match o with
 | .inl o_1=>
 some o_1
 | .inr o_2=>
 some o_2
theorem MW :KC e196:= .m (by kernel_rfl)
theorem Kv :FC e196 pV:= .fn MW .n (.k Gu .n) fun _=>by kernel_rfl
def jF(n:Int):Option (Int):=
 some (xorI .u64 (shlI .u64 (wrp .u64 n) 1) (wrp .u64 (shrI .i64 n 63)))
theorem MX :KC e133:= .m (by kernel_rfl)
theorem uj :FC e133 jF:= .fn MX .n .n fun _=>by kernel_rfl
def dS(x_:ab×ab):Option (Int):=
 match x_ with
 | (a,b)=>
 if(!(decide (a.Kind=b.Kind)))=true then
 some 0
 else
 if decide (a.Kind=1)=true then
 if eqB a.Bool_ b.Bool_=true then
 some 0
 else
 if b.Bool_=true then
 some (-1)
 else
 some 1
 else
 if decide (a.Kind=2)=true then
 jF a.Int_ >>=fun r=>
 jF b.Int_ >>=fun r_1=>
 ov (r,r_1) >>=fun r_2=>
 some r_2
 else
 if decide (a.Kind=3)=true then
 lL ((a.Str.length:Int),(b.Str.length:Int)) >>=fun r_3=>
 nR (a.Str,b.Str) >>=fun r_4=>
 pV [r_3,r_4] >>=fun r_5=>
 some r_5
 else
 if decide (a.Kind=4)=true then
 lL (a.ID,b.ID) >>=fun r_6=>
 some r_6
 else
 some 0
theorem MY :KC e151:= .m (by kernel_rfl)
theorem uk :FC e151 dS:= .fn MY (.k uj (.k Fq (.k EL (.k EM (.k Kv .n))))) .n fun _=>by kernel_rfl
def f0(x_:List (List UInt8)×Int×List ae×List Int×Int×ae×Int×Bool×Int×List UInt8×Int×Int×Bool×Int×List UInt8×Int×List Int×List ab):Option ((Bool×List ae×Int×ab×List Int×List Int) ⊕ (List (List UInt8)×List ae×List Int×Int×ae×Int×Bool×Int×List UInt8×Int×Int×Bool×Int×List UInt8×Int×List Int×List ab)):=
 match x_ with
 | (l_4,i_1,b_83,b_84,b_85,b_86,b_87,b_88,b_89,b_90,b_91,b_92,b_93,b_94,b_95,b_96,b_97,b_98)=>
 if decide (i_1 < (b_98.length:Int))=true then
 some (subI .i64 i_1 1) >>=fun t86=>
 if inR t86 b_98.length=true then
 if decide (t86.toNat < b_98.length)=true then
 if inR i_1 b_98.length=true then
 if decide (i_1.toNat < b_98.length)=true then
 dS (ab.eta (b_98.getD t86.toNat ag),ab.eta (b_98.getD i_1.toNat ag)) >>=fun r_24=>
 if decide (0<=r_24)=true then
 bD (1,b_83,b_84,b_85,b_97) >>=fun r_25=>
 some (.inl (r_25.2.1,r_25.2.2.1,r_25.2.2.2.1,ab.eta r_25.1,r_25.2.2.2.2.1,r_25.2.2.2.2.2))
 else
 f0 (l_4,addI .i64 i_1 1,b_83,b_84,b_85,b_86,b_87,b_88,b_89,b_90,b_91,b_92,b_93,b_94,b_95,b_96,b_97,b_98)
 else none
 else none
 else none
 else none
 else
 some (.inr (l_4,b_83,b_84,b_85,b_86,b_87,b_88,b_89,b_90,b_91,b_92,b_93,b_94,b_95,b_96,b_97,b_98))
  partial_fixpoint
theorem Cq :LC 181 2 [1] A4 f0:= .rc f0.partial_correctness (.k uk (.k gm .n)) .n fun _ _=>by kernel_rfl
def iC(x_:List UInt8×Int×Int×Int):Option ((Int×Int×Int) ⊕ (Unit)):=
 match x_ with
 | (s_1,n,t10_1,t11)=>
 if decide (t11 < t10_1)=true then
 if inR t11 s_1.length=true then
 some (aY s_1 t11) >>=fun t16=>
 if(bif decide (t11=9)then decide (1 < t16)else false)=true then
 some (.inl (0,0,7))
 else
 if decide (128<=t16)=true then
 some (mulI .i64 7 t11) >>=fun t41=>
 if decide (0<=t41)=true then
 iC (s_1,orI .u64 n (shlI .u64 (wrp .u64 (andI .u8 t16 127)) t41),t10_1,addI .i64 t11 1)
 else none
 else
 if(bif decide (t16=0)then decide (0 < t11)else false)=true then
 some (.inl (0,0,2))
 else
 some (mulI .i64 7 t11) >>=fun t21=>
 if decide (0<=t21)=true then
 some (.inl (orI .u64 n (shlI .u64 (wrp .u64 t16) t21),addI .i64 t11 1,0))
 else none
 else none
 else
 some (.inr ())
  partial_fixpoint
theorem EN :LC 204 0 [0] AY iC:= .rc iC.partial_correctness .n .n fun _ _=>by kernel_rfl
def oG(s:List UInt8):Option (Int×Int×Int):=
 iC (s,0,minI 10 (s.length:Int),0) >>=fun o=>
 match o with
 | .inl o_1=>
 some (o_1.1,o_1.2.1,o_1.2.2)
 | .inr o_2=>
 some (0,0,10)
theorem MZ :KC e204:= .m (by kernel_rfl)
theorem F0 :FC e204 oG:= .fn MZ .n (.k EN .n) fun _=>by kernel_rfl
def gE(s:List UInt8):Option (Int×List UInt8×Bool):=
 oG s >>=fun r=>
 if(!(decide (r.2.2=0)))=true then
 some (0,[],false)
 else
 if slR r.2.1 (s.length:Int) s.length=true then
 some (r.1,cutL s r.2.1 (s.length:Int),true)
 else none
theorem M0 :KC e165:= .m (by kernel_rfl)
theorem qO :FC e165 gE:= .fn M0 (.k F0 .n) .n fun _=>by kernel_rfl
def lW(s:List UInt8):Option (List UInt8×List UInt8×Bool):=
 gE s >>=fun r=>
 if(bif (!r.2.2)then true else decide (wrp .u64 (r.2.1.length:Int) < r.1))=true then
 some ([],[],false)
 else
 if slR 0 r.1 r.2.1.length=true then
 if slR r.1 (r.2.1.length:Int) r.2.1.length=true then
 some (cutL r.2.1 0 r.1,cutL r.2.1 r.1 (r.2.1.length:Int),true)
 else none
 else none
theorem M1 :KC e202:= .m (by kernel_rfl)
theorem uN :FC e202 lW:= .fn M1 (.k qO .n) .n fun _=>by kernel_rfl
def bT(x_:List UInt8×List (List UInt8)):Option ((Int) ⊕ (List (List UInt8))):=
 match x_ with
 | (s,b_1)=>
 if(!(decide (s=[])))=true then
 lW s >>=fun r=>
 if(!r.2.2)=true then
 some (.inl 12)
 else
 some [r.1] >>=fun t22=>
 if room 16 (b_1++t22).length=true then
 bT (r.2.1,b_1++t22)
 else none
 else
 some (.inr b_1)
  partial_fixpoint
theorem Ei :LC 161 0 [0] A0 bT:= .rc bT.partial_correctness (.k uN .n) .n fun _ _=>by kernel_rfl
def cV(payload:List UInt8):Option (List (List UInt8)×Int):=
 bT (payload,[]) >>=fun o=>
 match o with
 | .inl o_1=>
 some ([],o_1)
 | .inr o_2=>
 some (o_2,0)
theorem M2 :KC e161:= .m (by kernel_rfl)
theorem qL :FC e161 cV:= .fn M2 .n (.k Ei .n) fun _=>by kernel_rfl
mutual
def cE(v:ab):Option (ab):=
 cr 120 v.Keys >>=fun r=>
 cr 120 v.Items >>=fun r_1=>
 cr 24 v.Rest >>=fun r_2=>
 ip ((r.length:Int),0,v.Kind,v.Bool_,v.Int_,v.Str,v.ID,0,false,0,[],0,r,r_1,r_2) >>=fun o=>
 iq ((o.2.2.2.2.2.2.2.2.2.2.2.1.length:Int),0,o.1,o.2.1,o.2.2.1,o.2.2.2.1,o.2.2.2.2.1,o.2.2.2.2.2.1,o.2.2.2.2.2.2.1,o.2.2.2.2.2.2.2.1,o.2.2.2.2.2.2.2.2.1,o.2.2.2.2.2.2.2.2.2.1,o.2.2.2.2.2.2.2.2.2.2.2.1,o.2.2.2.2.2.2.2.2.2.2.1,o.2.2.2.2.2.2.2.2.2.2.2.2) >>=fun o_1=>
 some (⟨o_1.1,o_1.2.1,o_1.2.2.1,o_1.2.2.2.1,o_1.2.2.2.2.1,o_1.2.2.2.2.2.2.2.2.2.2.1,o_1.2.2.2.2.2.2.2.2.2.2.2.1,o_1.2.2.2.2.2.2.2.2.2.2.2.2⟩:ab)
  partial_fixpoint
def ip(x_:Int×Int×Int×Bool×Int×List UInt8×Int×Int×Bool×Int×List UInt8×Int×List ab×List ab×List aH):Option (Int×Bool×Int×List UInt8×Int×Int×Bool×Int×List UInt8×Int×List ab×List ab×List aH):=
 match x_ with
 | (t21_1,t22,b_26,b_27,b_28,b_29,b_30,b_31,b_32,b_33,b_34,b_35,b_36,b_37,b_38)=>
 if decide (t22 < t21_1)=true then
 if inR t22 b_36.length=true then
 if decide (t22.toNat < b_36.length)=true then
 cE (ab.eta (b_36.getD t22.toNat ag)) >>=fun r_3=>
 if inR t22 b_36.length=true then
 if decide (t22.toNat < b_36.length)=true then
 ip (t21_1,addI .i64 t22 1,b_26,b_27,b_28,b_29,b_30,b_31,b_32,b_33,b_34,b_35,b_36.set t22.toNat (ab.eta r_3),b_37,b_38)
 else none
 else none
 else none
 else none
 else
 some (b_26,b_27,b_28,b_29,b_30,b_31,b_32,b_33,b_34,b_35,b_36,b_37,b_38)
  partial_fixpoint
def iq(x_:Int×Int×Int×Bool×Int×List UInt8×Int×Int×Bool×Int×List UInt8×Int×List ab×List ab×List aH):Option (Int×Bool×Int×List UInt8×Int×Int×Bool×Int×List UInt8×Int×List ab×List ab×List aH):=
 match x_ with
 | (t36_1,t37,b_39,b_40,b_41,b_42,b_43,b_44,b_45,b_46,b_47,b_48,b_49,b_50,b_51)=>
 if decide (t37 < t36_1)=true then
 if inR t37 b_49.length=true then
 if decide (t37.toNat < b_49.length)=true then
 cE (ab.eta (b_49.getD t37.toNat ag)) >>=fun r_4=>
 if inR t37 b_49.length=true then
 if decide (t37.toNat < b_49.length)=true then
 iq (t36_1,addI .i64 t37 1,b_39,b_40,b_41,b_42,b_43,b_44,b_45,b_46,b_47,b_48,b_49.set t37.toNat (ab.eta r_4),b_50,b_51)
 else none
 else none
 else none
 else none
 else
 some (b_39,b_40,b_41,b_42,b_43,b_44,b_45,b_46,b_47,b_48,b_50,b_49,b_51)
  partial_fixpoint
end
theorem pW :KC e212:= .m (by kernel_rfl)
theorem Ej :(∀h r,cE h=some r->FD e212 h r)/\(∀h r,iq h=some r->LD 212 0 [1] mV h r)/\(∀h r,ip h=some r->LD 212 0 [0] mU h r):=cE.mutual_partial_correctness (FD e212) (LD 212 0 [1] mV) (LD 212 0 [0] mU)
 (fun _ _ h1 h2 _ _ h=>FA e212 pW (.k jm (.k jn .n)) (.k (LH mU h2) (.k (LH mV h1) .n)) (.trans (by kernel_rfl) h))
 (fun _ _ h0 h1 _ _ h=>LA mV h1 (.k (FH e212 pW h0) .n) .n (.trans (by kernel_rfl) h))
 (fun _ _ h0 h2 _ _ h=>LA mU h2 (.k (FH e212 pW h0) .n) .n (.trans (by kernel_rfl) h))
theorem EO :FC e212 cE:= .of pW Ej.1
def qd(x_:aF×aj):Option (Bool×aj):=
 match x_ with
 | (f,b)=>
 some (decide (f.ID=b.ID),(⟨b.ID,b.Name,b.Type_,b.Critical,b.HasDefault,ab.eta b.Default⟩:aj))
theorem M3 :KC e211:= .m (by kernel_rfl)
theorem CO :FC e211 qd:= .fn M3 .n .n fun _=>by kernel_rfl
def eG(x_:List aF×Int×Int×aj):Option ((Int×aj) ⊕ (aj)):=
 match x_ with
 | (s_1,t7_1,t8,b_3)=>
 if decide (t8 < t7_1)=true then
 if inR t8 s_1.length=true then
 qd (s_1.getD t8.toNat aN,(⟨b_3.ID,b_3.Name,b_3.Type_,b_3.Critical,b_3.HasDefault,ab.eta b_3.Default⟩:aj)) >>=fun r=>
 if r.1=true then
 some (.inl (t8,(⟨r.2.ID,r.2.Name,r.2.Type_,r.2.Critical,r.2.HasDefault,ab.eta r.2.Default⟩:aj)))
 else
 eG (s_1,t7_1,addI .i64 t8 1,(⟨r.2.ID,r.2.Name,r.2.Type_,r.2.Critical,r.2.HasDefault,ab.eta r.2.Default⟩:aj))
 else none
 else
 some (.inr (⟨b_3.ID,b_3.Name,b_3.Type_,b_3.Critical,b_3.HasDefault,ab.eta b_3.Default⟩:aj))
  partial_fixpoint
theorem Ch :LC 210 1 [0] A6 eG:= .rc eG.partial_correctness (.k CO .n) .n fun _ _=>by kernel_rfl
def kN(x_:List aF×aj):Option (Int×aj):=
 match x_ with
 | (s,b)=>
 eG (s,(s.length:Int),0,(⟨b.ID,b.Name,b.Type_,b.Critical,b.HasDefault,ab.eta b.Default⟩:aj)) >>=fun o=>
 match o with
 | .inl o_1=>
 some (o_1.1,(⟨o_1.2.ID,o_1.2.Name,o_1.2.Type_,o_1.2.Critical,o_1.2.HasDefault,ab.eta o_1.2.Default⟩:aj))
 | .inr o_2=>
 some ((-1),(⟨o_2.ID,o_2.Name,o_2.Type_,o_2.Critical,o_2.HasDefault,ab.eta o_2.Default⟩:aj))
theorem M4 :KC e210:= .m (by kernel_rfl)
theorem Cl :FC e210 kN:= .fn M4 .n (.k Ch .n) fun _=>by kernel_rfl
def qD(x_:aj×Int):Option (Bool×Int):=
 match x_ with
 | (m,b)=>
 some (decide (m.ID=b),b)
theorem M5 :KC e167:= .m (by kernel_rfl)
theorem Ek :FC e167 qD:= .fn M5 .n .n fun _=>by kernel_rfl
def eF(x_:List aj×Int×Int×Int):Option ((Int×Int) ⊕ (Int)):=
 match x_ with
 | (s_1,t7_1,t8,b_3)=>
 if decide (t8 < t7_1)=true then
 if inR t8 s_1.length=true then
 some (s_1.getD t8.toNat ap) >>=fun x0=>
 qD ((⟨x0.ID,x0.Name,x0.Type_,x0.Critical,x0.HasDefault,ab.eta x0.Default⟩:aj),b_3) >>=fun r=>
 if r.1=true then
 some (.inl (t8,r.2))
 else
 eF (s_1,t7_1,addI .i64 t8 1,r.2)
 else none
 else
 some (.inr b_3)
  partial_fixpoint
theorem Cf :LC 166 1 [0] AZ eF:= .rc eF.partial_correctness (.k Ek .n) .n fun _ _=>by kernel_rfl
def p6(x_:List aj×Int):Option (Int×Int):=
 match x_ with
 | (s,b)=>
 eF (s,(s.length:Int),0,b) >>=fun o=>
 match o with
 | .inl o_1=>
 some (o_1.1,o_1.2)
 | .inr o_2=>
 some ((-1),o_2)
theorem M6 :KC e166:= .m (by kernel_rfl)
theorem Cj :FC e166 p6:= .fn M6 .n (.k Cf .n) fun _=>by kernel_rfl
def bY(x_:ae×Int):Option (Int×Bool):=
 match x_ with
 | (t,id)=>
 p6 (t.Members,id) >>=fun r=>
 some (maxI r.1 0,decide (0<=r.1))
theorem M7 :KC e129:= .m (by kernel_rfl)
theorem iw :FC e129 bY:= .fn M7 (.k Cj .n) .n fun _=>by kernel_rfl
def eO(x_:List aF×Int×Int×List ae×List Int×Int×ae×Int×Bool×Int×List UInt8×Int×Int×Bool×Int×List UInt8×Int×List Int×List ab×List aH):Option ((Bool×List ae×Int×ab×List Int×List Int) ⊕ (List ae×List Int×Int×Int×Bool×Int×List UInt8×Int×Int×Bool×Int×List UInt8×Int×List Int×List ab×List aH)):=
 match x_ with
 | (t117,t118_1,t119,b_62,b_63,b_64,b_65,b_66,b_67,b_68,b_69,b_70,b_71,b_72,b_73,b_74,b_75,b_76,b_77,b_78)=>
 if decide (t119 < t118_1)=true then
 if inR t119 t117.length=true then
 some (t117.getD t119.toNat aN) >>=fun x0_3=>
 bY (b_65,x0_3.ID) >>=fun r_28=>
 if r_28.2=true then
 eO (t117,t118_1,addI .i64 t119 1,b_62,b_63,b_64,b_65,b_66,b_67,b_68,b_69,b_70,b_71,b_72,b_73,b_74,b_75,b_76,b_77,b_78)
 else
 if x0_3.Critical=true then
 some [x0_3.ID] >>=fun t140=>
 if room 8 (b_76++t140).length=true then
 bD (6,b_62,b_63,b_64,b_76++t140) >>=fun r_31=>
 some (subI .i64 (r_31.2.2.2.2.1.length:Int) 1) >>=fun t159=>
 if slR 0 t159 r_31.2.2.2.2.1.length=true then
 if decide (t159.toNat<=r_31.2.2.2.2.1.length)=true then
 some (.inl (false,r_31.2.2.1,r_31.2.2.2.1,ab.eta r_31.1,r_31.2.2.2.2.1.take t159.toNat,r_31.2.2.2.2.2))
 else none
 else none
 else none
 else
 some [(⟨x0_3.ID,x0_3.Data⟩:aH)] >>=fun t171=>
 if room 24 (b_78++t171).length=true then
 eO (t117,t118_1,addI .i64 t119 1,b_62,b_63,b_64,b_65,b_66,b_67,b_68,b_69,b_70,b_71,b_72,b_73,b_74,b_75,b_76,b_77,b_78++t171)
 else none
 else none
 else
 some (.inr (b_62,b_63,b_64,b_66,b_67,b_68,b_69,b_70,b_71,b_72,b_73,b_74,b_75,b_76,b_77,b_78))
  partial_fixpoint
theorem Cy :LC 182 2 [1] A7 eO:= .rc eO.partial_correctness (.k iw (.k gm .n)) .n fun _ _=>by kernel_rfl
def bw(x_:Int×List UInt8×List aF):Option ((Int) ⊕ (List aF)):=
 match x_ with
 | (last,s,b_1)=>
 if(!(decide (s=[])))=true then
 gE s >>=fun r=>
 if(bif bif (!r.2.2)then true else decide (quoI .u64 r.1 2<=last)then true else decide (1000 < quoI .u64 r.1 2))=true then
 some (.inl 12)
 else
 lW r.2.1 >>=fun r_4=>
 if(!r_4.2.2)=true then
 some (.inl 12)
 else
 some [(⟨wrp .i64 (quoI .u64 r.1 2),decide (remI r.1 2=1),r_4.1⟩:aF)] >>=fun t50=>
 if room 32 (b_1++t50).length=true then
 bw (quoI .u64 r.1 2,r_4.2.1,b_1++t50)
 else none
 else
 some (.inr b_1)
  partial_fixpoint
theorem D6 :LC 160 0 [0] A5 bw:= .rc bw.partial_correctness (.k qO (.k uN .n)) .n fun _ _=>by kernel_rfl
def dT(payload:List UInt8):Option (List aF×Int):=
 bw (0,payload,[]) >>=fun o=>
 match o with
 | .inl o_1=>
 some ([],o_1)
 | .inr o_2=>
 some (o_2,0)
theorem M8 :KC e160:= .m (by kernel_rfl)
theorem ul :FC e160 dT:= .fn M8 .n (.k D6 .n) fun _=>by kernel_rfl
def dy(payload:List UInt8):Option (Int×List UInt8×Int):=
 gE payload >>=fun r=>
 if(bif bif (!r.2.2)then true else decide (r.1 < 1)then true else decide (1000 < r.1))=true then
 some (0,[],12)
 else
 some (wrp .i64 r.1,r.2.1,0)
theorem M9 :KC e128:= .m (by kernel_rfl)
theorem va :FC e128 dy:= .fn M9 (.k qO .n) .n fun _=>by kernel_rfl
mutual
def kT(x_:ae×List UInt8×List ae×List Int×Int×List Int):Option (ab×Bool×List ae×List Int×Int×List Int):=
 match x_ with
 | (x0,p,b,b_1,b_2,b_3)=>
 cV p >>=fun r=>
 if(bif (!(decide (r.2=0)))then true else(!(decide (remI (r.1.length:Int) 2=0))))=true then
 bD (1,b,b_1,b_2,b_3) >>=fun r_3=>
 some (ab.eta r_3.1,r_3.2.1,r_3.2.2.1,r_3.2.2.2.2.2,r_3.2.2.2.1,r_3.2.2.2.2.1)
 else
 if decide (x0.Max < quoI .i64 (r.1.length:Int) 2)=true then
 bD (3,b,b_1,b_2,b_3) >>=fun r_10=>
 some (ab.eta r_10.1,r_10.2.1,r_10.2.2.1,r_10.2.2.2.2.2,r_10.2.2.2.1,r_10.2.2.2.2.1)
 else
 gX (r.1,0,b,b_1,b_2,x0,0,false,0,[],0,x0.Kind,false,0,[],0,b_3,[]) >>=fun o=>
 match o with
 | .inl o_1=>
 some (ab.eta o_1.2.2.2.2.1,o_1.1,o_1.2.1,o_1.2.2.1,o_1.2.2.2.1,o_1.2.2.2.2.2)
 | .inr o_2=>
 f0 (o_2.1,1,o_2.2.1,o_2.2.2.1,o_2.2.2.2.1,o_2.2.2.2.2.1,o_2.2.2.2.2.2.1,o_2.2.2.2.2.2.2.1,o_2.2.2.2.2.2.2.2.1,o_2.2.2.2.2.2.2.2.2.1,o_2.2.2.2.2.2.2.2.2.2.1,o_2.2.2.2.2.2.2.2.2.2.2.1,o_2.2.2.2.2.2.2.2.2.2.2.2.1,o_2.2.2.2.2.2.2.2.2.2.2.2.2.1,o_2.2.2.2.2.2.2.2.2.2.2.2.2.2.1,o_2.2.2.2.2.2.2.2.2.2.2.2.2.2.2.1,o_2.2.2.2.2.2.2.2.2.2.2.2.2.2.2.2.1,o_2.2.2.2.2.2.2.2.2.2.2.2.2.2.2.2.2) >>=fun o_3=>
 match o_3 with
 | .inl o_4=>
 some (ab.eta o_4.2.2.2.1,o_4.1,o_4.2.1,o_4.2.2.2.2.2,o_4.2.2.1,o_4.2.2.2.2.1)
 | .inr o_5=>
 gY (o_5.1,1,o_5.2.1,o_5.2.2.1,o_5.2.2.2.1,o_5.2.2.2.2.1,o_5.2.2.2.2.2.1,o_5.2.2.2.2.2.2.1,o_5.2.2.2.2.2.2.2.1,o_5.2.2.2.2.2.2.2.2.1,o_5.2.2.2.2.2.2.2.2.2.1,o_5.2.2.2.2.2.2.2.2.2.2.1,o_5.2.2.2.2.2.2.2.2.2.2.2.1,o_5.2.2.2.2.2.2.2.2.2.2.2.2.1,o_5.2.2.2.2.2.2.2.2.2.2.2.2.2.1,o_5.2.2.2.2.2.2.2.2.2.2.2.2.2.2.1,o_5.2.2.2.2.2.2.2.2.2.2.2.2.2.2.2.1,o_5.2.2.2.2.2.2.2.2.2.2.2.2.2.2.2.2,[]) >>=fun o_6=>
 match o_6 with
 | .inl o_7=>
 some (ab.eta o_7.2.2.2.2.1,o_7.1,o_7.2.1,o_7.2.2.1,o_7.2.2.2.1,o_7.2.2.2.2.2)
 | .inr o_8=>
 some ((⟨o_8.2.2.2.2.2.2.2.2.1,o_8.2.2.2.2.2.2.2.2.2.1,o_8.2.2.2.2.2.2.2.2.2.2.1,o_8.2.2.2.2.2.2.2.2.2.2.2.1,o_8.2.2.2.2.2.2.2.2.2.2.2.2.1,o_8.2.2.2.2.2.2.2.2.2.2.2.2.2.2.1,o_8.2.2.2.2.2.2.2.2.2.2.2.2.2.2.2,[]⟩:ab),true,o_8.1,o_8.2.1,o_8.2.2.1,o_8.2.2.2.2.2.2.2.2.2.2.2.2.2.1)
  partial_fixpoint
def nD(x_:ae×List UInt8×List ae×List Int×Int×List Int):Option (ab×Bool×List ae×List Int×Int×List Int):=
 match x_ with
 | (x0,p,b,b_1,b_2,b_3)=>
 cV p >>=fun r=>
 if(!(decide (r.2=0)))=true then
 bD (1,b,b_1,b_2,b_3) >>=fun r_3=>
 some (ab.eta r_3.1,r_3.2.1,r_3.2.2.1,r_3.2.2.2.2.2,r_3.2.2.2.1,r_3.2.2.2.2.1)
 else
 if decide (x0.Max < (r.1.length:Int))=true then
 bD (3,b,b_1,b_2,b_3) >>=fun r_10=>
 some (ab.eta r_10.1,r_10.2.1,r_10.2.2.1,r_10.2.2.2.2.2,r_10.2.2.2.1,r_10.2.2.2.2.1)
 else
 g7 (r.1,(r.1.length:Int),0,b,b_1,b_2,x0,0,false,0,[],0,x0.Kind,false,0,[],0,b_3,[]) >>=fun o=>
 match o with
 | .inl o_1=>
 some (ab.eta o_1.2.2.2.2.1,o_1.1,o_1.2.1,o_1.2.2.1,o_1.2.2.2.1,o_1.2.2.2.2.2)
 | .inr o_2=>
 some ((⟨o_2.2.2.2.2.2.2.2.2.1,o_2.2.2.2.2.2.2.2.2.2.1,o_2.2.2.2.2.2.2.2.2.2.2.1,o_2.2.2.2.2.2.2.2.2.2.2.2.1,o_2.2.2.2.2.2.2.2.2.2.2.2.2.1,[],o_2.2.2.2.2.2.2.2.2.2.2.2.2.2.2,[]⟩:ab),true,o_2.1,o_2.2.1,o_2.2.2.1,o_2.2.2.2.2.2.2.2.2.2.2.2.2.2.1)
  partial_fixpoint
def bW(x_:Int×Int×List UInt8×List ae×List Int×Int×List Int):Option (ab×Bool×List ae×List Int×Int×List Int):=
 match x_ with
 | (step,t,p,b,b_1,b_2,b_3)=>
 some [step] >>=fun t18=>
 if room 8 (b_3++t18).length=true then
 eW (t,p,b,b_1,b_2,b_3++t18) >>=fun r=>
 some (subI .i64 (r.2.2.2.2.2.length:Int) 1) >>=fun t39=>
 if slR 0 t39 r.2.2.2.2.2.length=true then
 if decide (t39.toNat<=r.2.2.2.2.2.length)=true then
 some (ab.eta r.1,r.2.1,r.2.2.1,r.2.2.2.1,r.2.2.2.2.1,r.2.2.2.2.2.take t39.toNat)
 else none
 else none
 else none
  partial_fixpoint
def eW(x_:Int×List UInt8×List ae×List Int×Int×List Int):Option (ab×Bool×List ae×List Int×Int×List Int):=
 match x_ with
 | (t,p,b,b_1,b_2,b_3)=>
 if decide (200<=(b_3.length:Int))=true then
 bD (8,b,b_1,b_2,b_3) >>=fun r=>
 some (ab.eta r.1,r.2.1,r.2.2.1,r.2.2.2.2.2,r.2.2.2.1,r.2.2.2.2.1)
 else
 if inR t b.length=true then
 some (b.getD t.toNat af) >>=fun x0=>
 if decide (x0.Kind=1)=true then
 some (decide (p=[1])) >>=fun t50=>
 if(bif (!(decide (p=[])))then(!t50)else false)=true then
 bD (1,b,b_1,b_2,b_3) >>=fun r_7=>
 some (ab.eta r_7.1,r_7.2.1,r_7.2.2.1,r_7.2.2.2.2.2,r_7.2.2.2.1,r_7.2.2.2.2.1)
 else
 some ((⟨x0.Kind,t50,0,[],0,[],[],[]⟩:ab),true,b,b_1,b_2,b_3)
 else
 if decide (x0.Kind=2)=true then
 jC p >>=fun r_14=>
 if(!(decide (r_14.2=0)))=true then
 bD (1,b,b_1,b_2,b_3) >>=fun r_17=>
 some (ab.eta r_17.1,r_17.2.1,r_17.2.2.1,r_17.2.2.2.2.2,r_17.2.2.2.1,r_17.2.2.2.2.1)
 else
 lx r_14.1 >>=fun r_24=>
 if(bif decide (r_24 < x0.Low)then true else decide (x0.High < r_24))=true then
 bD (2,b,b_1,b_2,b_3) >>=fun r_25=>
 some (ab.eta r_25.1,r_25.2.1,r_25.2.2.1,r_25.2.2.2.2.2,r_25.2.2.2.1,r_25.2.2.2.2.1)
 else
 some ((⟨x0.Kind,false,r_24,[],0,[],[],[]⟩:ab),true,b,b_1,b_2,b_3)
 else
 if decide (x0.Kind=3)=true then
 if decide (x0.Max < (p.length:Int))=true then
 bD (3,b,b_1,b_2,b_3) >>=fun r_32=>
 some (ab.eta r_32.1,r_32.2.1,r_32.2.2.1,r_32.2.2.2.2.2,r_32.2.2.2.1,r_32.2.2.2.2.1)
 else
 some ((⟨x0.Kind,false,0,p,0,[],[],[]⟩:ab),true,b,b_1,b_2,b_3)
 else
 if decide (x0.Kind=4)=true then
 jC p >>=fun r_39=>
 if(bif bif (!(decide (r_39.2=0)))then true else decide (r_39.1 < 1)then true else decide (1000 < r_39.1))=true then
 bD (1,b,b_1,b_2,b_3) >>=fun r_42=>
 some (ab.eta r_42.1,r_42.2.1,r_42.2.2.1,r_42.2.2.2.2.2,r_42.2.2.2.1,r_42.2.2.2.2.1)
 else
 some (wrp .i64 r_39.1) >>=fun t130=>
 jE (x0,t130) >>=fun r_49=>
 if(bif (!r_49.2)then(!x0.Open)else false)=true then
 bD (4,b,b_1,b_2,b_3) >>=fun r_52=>
 some (ab.eta r_52.1,r_52.2.1,r_52.2.2.1,r_52.2.2.2.2.2,r_52.2.2.2.1,r_52.2.2.2.2.1)
 else
 some ((⟨x0.Kind,false,0,[],t130,[],[],[]⟩:ab),true,b,b_1,b_2,b_3)
 else
 if decide (x0.Kind=9)=true then
 if decide (p=[])=true then
 some ((⟨x0.Kind,false,0,[],0,[],[],[]⟩:ab),true,b,b_1,b_2,b_3)
 else
 if inR 0 p.length=true then
 if(!(decide (aY p 0=1)))=true then
 bD (1,b,b_1,b_2,b_3) >>=fun r_59=>
 some (ab.eta r_59.1,r_59.2.1,r_59.2.2.1,r_59.2.2.2.2.2,r_59.2.2.2.1,r_59.2.2.2.2.1)
 else
 if slR 1 (p.length:Int) p.length=true then
 bW (0,x0.Elem,cutL p 1 (p.length:Int),b,b_1,b_2,b_3) >>=fun r_66=>
 some ((⟨x0.Kind,false,0,[],0,[],[ab.eta r_66.1],[]⟩:ab),r_66.2.1,r_66.2.2.1,r_66.2.2.2.1,r_66.2.2.2.2.1,r_66.2.2.2.2.2)
 else none
 else none
 else
 if decide (x0.Kind=6)=true then
 nC (x0,p,b,b_1,b_2,b_3) >>=fun r_73=>
 some (ab.eta r_73.1,r_73.2.1,r_73.2.2.1,r_73.2.2.2.1,r_73.2.2.2.2.1,r_73.2.2.2.2.2)
 else
 if decide (x0.Kind=7)=true then
 nD (x0,p,b,b_1,b_2,b_3) >>=fun r_80=>
 some (ab.eta r_80.1,r_80.2.1,r_80.2.2.1,r_80.2.2.2.1,r_80.2.2.2.2.1,r_80.2.2.2.2.2)
 else
 if decide (x0.Kind=8)=true then
 kT (x0,p,b,b_1,b_2,b_3) >>=fun r_87=>
 some (ab.eta r_87.1,r_87.2.1,r_87.2.2.1,r_87.2.2.2.1,r_87.2.2.2.2.1,r_87.2.2.2.2.2)
 else
 kV (x0,p,b,b_1,b_2,b_3) >>=fun r_94=>
 some (ab.eta r_94.1,r_94.2.1,r_94.2.2.1,r_94.2.2.2.1,r_94.2.2.2.2.1,r_94.2.2.2.2.2)
 else none
  partial_fixpoint
def kV(x_:ae×List UInt8×List ae×List Int×Int×List Int):Option (ab×Bool×List ae×List Int×Int×List Int):=
 match x_ with
 | (x0,p,b,b_1,b_2,b_3)=>
 dT p >>=fun r=>
 if(!(decide (r.2=0)))=true then
 bD (1,b,b_1,b_2,b_3) >>=fun r_3=>
 some (ab.eta r_3.1,r_3.2.1,r_3.2.2.1,r_3.2.2.2.2.2,r_3.2.2.2.1,r_3.2.2.2.2.1)
 else
 dp (r.1,x0.Members,(x0.Members.length:Int),0,b,b_1,b_2,x0,0,false,0,[],0,x0.Kind,false,0,[],0,b_3,[]) >>=fun o=>
 match o with
 | .inl o_1=>
 some (ab.eta o_1.2.2.2.2.1,o_1.1,o_1.2.1,o_1.2.2.1,o_1.2.2.2.1,o_1.2.2.2.2.2)
 | .inr o_2=>
 eO (o_2.1,(o_2.1.length:Int),0,o_2.2.1,o_2.2.2.1,o_2.2.2.2.1,o_2.2.2.2.2.1,o_2.2.2.2.2.2.1,o_2.2.2.2.2.2.2.1,o_2.2.2.2.2.2.2.2.1,o_2.2.2.2.2.2.2.2.2.1,o_2.2.2.2.2.2.2.2.2.2.1,o_2.2.2.2.2.2.2.2.2.2.2.1,o_2.2.2.2.2.2.2.2.2.2.2.2.1,o_2.2.2.2.2.2.2.2.2.2.2.2.2.1,o_2.2.2.2.2.2.2.2.2.2.2.2.2.2.1,o_2.2.2.2.2.2.2.2.2.2.2.2.2.2.2.1,o_2.2.2.2.2.2.2.2.2.2.2.2.2.2.2.2.1,o_2.2.2.2.2.2.2.2.2.2.2.2.2.2.2.2.2,[]) >>=fun o_3=>
 match o_3 with
 | .inl o_4=>
 some (ab.eta o_4.2.2.2.1,o_4.1,o_4.2.1,o_4.2.2.2.2.2,o_4.2.2.1,o_4.2.2.2.2.1)
 | .inr o_5=>
 some ((⟨o_5.2.2.2.2.2.2.2.2.1,o_5.2.2.2.2.2.2.2.2.2.1,o_5.2.2.2.2.2.2.2.2.2.2.1,o_5.2.2.2.2.2.2.2.2.2.2.2.1,o_5.2.2.2.2.2.2.2.2.2.2.2.2.1,[],o_5.2.2.2.2.2.2.2.2.2.2.2.2.2.2.1,o_5.2.2.2.2.2.2.2.2.2.2.2.2.2.2.2⟩:ab),true,o_5.1,o_5.2.1,o_5.2.2.1,o_5.2.2.2.2.2.2.2.2.2.2.2.2.2.1)
  partial_fixpoint
def nC(x_:ae×List UInt8×List ae×List Int×Int×List Int):Option (ab×Bool×List ae×List Int×Int×List Int):=
 match x_ with
 | (x0,p,b,b_1,b_2,b_3)=>
 dy p >>=fun r=>
 if(!(decide (r.2.2=0)))=true then
 bD (1,b,b_1,b_2,b_3) >>=fun r_4=>
 some (ab.eta r_4.1,r_4.2.1,r_4.2.2.1,r_4.2.2.2.2.2,r_4.2.2.2.1,r_4.2.2.2.2.1)
 else
 bY (x0,r.1) >>=fun r_11=>
 if r_11.2=true then
 if inR r_11.1 x0.Members.length=true then
 bW (r.1,(x0.Members.getD r_11.1.toNat ap).Type_,r.2.1,b,b_1,b_2,b_3) >>=fun r_14=>
 some ((⟨x0.Kind,false,0,[],r.1,[],[ab.eta r_14.1],[]⟩:ab),r_14.2.1,r_14.2.2.1,r_14.2.2.2.1,r_14.2.2.2.2.1,r_14.2.2.2.2.2)
 else none
 else
 if(!x0.Open)=true then
 bD (5,b,b_1,b_2,b_3) >>=fun r_21=>
 some (ab.eta r_21.1,r_21.2.1,r_21.2.2.1,r_21.2.2.2.2.2,r_21.2.2.2.1,r_21.2.2.2.2.1)
 else
 some ((⟨x0.Kind,false,0,[],r.1,[],[],[(⟨r.1,r.2.1⟩:aH)]⟩:ab),true,b,b_1,b_2,b_3)
  partial_fixpoint
def gX(x_:List (List UInt8)×Int×List ae×List Int×Int×ae×Int×Bool×Int×List UInt8×Int×Int×Bool×Int×List UInt8×Int×List Int×List ab):Option ((Bool×List ae×List Int×Int×ab×List Int) ⊕ (List (List UInt8)×List ae×List Int×Int×ae×Int×Bool×Int×List UInt8×Int×Int×Bool×Int×List UInt8×Int×List Int×List ab)):=
 match x_ with
 | (l_2,i,b_67,b_68,b_69,b_70,b_71,b_72,b_73,b_74,b_75,b_76,b_77,b_78,b_79,b_80,b_81,b_82)=>
 if decide (i < (l_2.length:Int))=true then
 if inR i l_2.length=true then
 bW (quoI .i64 i 2,b_70.Key,l_2.getD i.toNat [],b_67,b_68,b_69,b_81) >>=fun r_17=>
 if(!r_17.2.1)=true then
 some (.inl (false,r_17.2.2.1,r_17.2.2.2.1,r_17.2.2.2.2.1,ab.eta r_17.1,r_17.2.2.2.2.2))
 else
 some [ab.eta r_17.1] >>=fun t73=>
 if room 120 (b_82++t73).length=true then
 gX (l_2,addI .i64 i 2,r_17.2.2.1,r_17.2.2.2.1,r_17.2.2.2.2.1,b_70,b_71,b_72,b_73,b_74,b_75,b_76,b_77,b_78,b_79,b_80,r_17.2.2.2.2.2,b_82++t73)
 else none
 else none
 else
 some (.inr (l_2,b_67,b_68,b_69,b_70,b_71,b_72,b_73,b_74,b_75,b_76,b_77,b_78,b_79,b_80,b_81,b_82))
  partial_fixpoint
def gY(x_:List (List UInt8)×Int×List ae×List Int×Int×ae×Int×Bool×Int×List UInt8×Int×Int×Bool×Int×List UInt8×Int×List Int×List ab×List ab):Option ((Bool×List ae×List Int×Int×ab×List Int) ⊕ (List ae×List Int×Int×Int×Bool×Int×List UInt8×Int×Int×Bool×Int×List UInt8×Int×List Int×List ab×List ab)):=
 match x_ with
 | (l_5,i_2,b_99,b_100,b_101,b_102,b_103,b_104,b_105,b_106,b_107,b_108,b_109,b_110,b_111,b_112,b_113,b_114,b_115)=>
 if decide (i_2 < (l_5.length:Int))=true then
 if inR i_2 l_5.length=true then
 bW (quoI .i64 i_2 2,b_102.Elem,l_5.getD i_2.toNat [],b_99,b_100,b_101,b_113) >>=fun r_32=>
 if(!r_32.2.1)=true then
 some (.inl (false,r_32.2.2.1,r_32.2.2.2.1,r_32.2.2.2.2.1,ab.eta r_32.1,r_32.2.2.2.2.2))
 else
 some [ab.eta r_32.1] >>=fun t125=>
 if room 120 (b_115++t125).length=true then
 gY (l_5,addI .i64 i_2 2,r_32.2.2.1,r_32.2.2.2.1,r_32.2.2.2.2.1,b_102,b_103,b_104,b_105,b_106,b_107,b_108,b_109,b_110,b_111,b_112,r_32.2.2.2.2.2,b_114,b_115++t125)
 else none
 else none
 else
 some (.inr (b_99,b_100,b_101,b_103,b_104,b_105,b_106,b_107,b_108,b_109,b_110,b_111,b_112,b_113,b_114,b_115))
  partial_fixpoint
def g7(x_:List (List UInt8)×Int×Int×List ae×List Int×Int×ae×Int×Bool×Int×List UInt8×Int×Int×Bool×Int×List UInt8×Int×List Int×List ab):Option ((Bool×List ae×List Int×Int×ab×List Int) ⊕ (List ae×List Int×Int×Int×Bool×Int×List UInt8×Int×Int×Bool×Int×List UInt8×Int×List Int×List ab)):=
 match x_ with
 | (t38,t39_1,t40,b_24,b_25,b_26,b_27,b_28,b_29,b_30,b_31,b_32,b_33,b_34,b_35,b_36,b_37,b_38,b_39)=>
 if decide (t40 < t39_1)=true then
 if inR t40 t38.length=true then
 bW (t40,b_27.Elem,t38.getD t40.toNat [],b_24,b_25,b_26,b_38) >>=fun r_17=>
 if(!r_17.2.1)=true then
 some (.inl (false,r_17.2.2.1,r_17.2.2.2.1,r_17.2.2.2.2.1,ab.eta r_17.1,r_17.2.2.2.2.2))
 else
 some [ab.eta r_17.1] >>=fun t60=>
 if room 120 (b_39++t60).length=true then
 g7 (t38,t39_1,addI .i64 t40 1,r_17.2.2.1,r_17.2.2.2.1,r_17.2.2.2.2.1,b_27,b_28,b_29,b_30,b_31,b_32,b_33,b_34,b_35,b_36,b_37,r_17.2.2.2.2.2,b_39++t60)
 else none
 else none
 else
 some (.inr (b_24,b_25,b_26,b_28,b_29,b_30,b_31,b_32,b_33,b_34,b_35,b_36,b_37,b_38,b_39))
  partial_fixpoint
def dp(x_:List aF×List aj×Int×Int×List ae×List Int×Int×ae×Int×Bool×Int×List UInt8×Int×Int×Bool×Int×List UInt8×Int×List Int×List ab):Option ((Bool×List ae×List Int×Int×ab×List Int) ⊕ (List aF×List ae×List Int×Int×ae×Int×Bool×Int×List UInt8×Int×Int×Bool×Int×List UInt8×Int×List Int×List ab)):=
 match x_ with
 | (l_1,t39,t40_1,t41,b_46,b_47,b_48,b_49,b_50,b_51,b_52,b_53,b_54,b_55,b_56,b_57,b_58,b_59,b_60,b_61)=>
 if decide (t41 < t40_1)=true then
 if inR t41 t39.length=true then
 some (t39.getD t41.toNat ap) >>=fun x0_1=>
 kN (l_1,(⟨x0_1.ID,x0_1.Name,x0_1.Type_,x0_1.Critical,x0_1.HasDefault,ab.eta x0_1.Default⟩:aj)) >>=fun r_10=>
 if decide (0<=r_10.1)=true then
 if inR r_10.1 l_1.length=true then
 bW (r_10.2.ID,r_10.2.Type_,(l_1.getD r_10.1.toNat aN).Data,b_46,b_47,b_48,b_60) >>=fun r_13=>
 if(!r_13.2.1)=true then
 some (.inl (false,r_13.2.2.1,r_13.2.2.2.1,r_13.2.2.2.2.1,ab.eta r_13.1,r_13.2.2.2.2.2))
 else
 some [ab.eta r_13.1] >>=fun t102=>
 if room 120 (b_61++t102).length=true then
 dp (l_1,t39,t40_1,addI .i64 t41 1,r_13.2.2.1,r_13.2.2.2.1,r_13.2.2.2.2.1,b_49,b_50,b_51,b_52,b_53,b_54,b_55,b_56,b_57,b_58,b_59,r_13.2.2.2.2.2,b_61++t102)
 else none
 else none
 else
 if r_10.2.HasDefault=true then
 cE (ab.eta r_10.2.Default) >>=fun r_20=>
 some [ab.eta r_20] >>=fun t113=>
 if room 120 (b_61++t113).length=true then
 dp (l_1,t39,t40_1,addI .i64 t41 1,b_46,b_47,b_48,b_49,b_50,b_51,b_52,b_53,b_54,b_55,b_56,b_57,b_58,b_59,b_60,b_61++t113)
 else none
 else
 some [r_10.2.ID] >>=fun t55=>
 if room 8 (b_60++t55).length=true then
 bD (7,b_46,b_47,b_48,b_60++t55) >>=fun r_21=>
 some (subI .i64 (r_21.2.2.2.2.1.length:Int) 1) >>=fun t74=>
 if slR 0 t74 r_21.2.2.2.2.1.length=true then
 if decide (t74.toNat<=r_21.2.2.2.2.1.length)=true then
 some (.inl (false,r_21.2.2.1,r_21.2.2.2.2.2,r_21.2.2.2.1,ab.eta r_21.1,r_21.2.2.2.2.1.take t74.toNat))
 else none
 else none
 else none
 else none
 else
 some (.inr (l_1,b_46,b_47,b_48,b_49,b_50,b_51,b_52,b_53,b_54,b_55,b_56,b_57,b_58,b_59,b_60,b_61))
  partial_fixpoint
end
theorem Bq :KC e181:= .m (by kernel_rfl)
theorem jd :KC e178:= .m (by kernel_rfl)
theorem tj :KC e139:= .m (by kernel_rfl)
theorem Br :KC e182:= .m (by kernel_rfl)
theorem Bs :KC e180:= .m (by kernel_rfl)
theorem Bt :KC e179:= .m (by kernel_rfl)
theorem Cz :(∀h r,kT h=some r->FD e181 h r)/\(∀h r,gY h=some r->LD 181 2 [2] mT h r)/\(∀h r,bW h=some r->FD e178 h r)/\(∀h r,eW h=some r->FD e139 h r)/\(∀h r,kV h=some r->FD e182 h r)/\(∀h r,dp h=some r->LD 182 2 [0] mW h r)/\(∀h r,nD h=some r->FD e180 h r)/\(∀h r,g7 h=some r->LD 180 2 [0] mR h r)/\(∀h r,nC h=some r->FD e179 h r)/\(∀h r,gX h=some r->LD 181 2 [0] mS h r):=kT.mutual_partial_correctness (FD e181) (LD 181 2 [2] mT) (FD e178) (FD e139) (FD e182) (LD 182 2 [0] mW) (FD e180) (LD 180 2 [0] mR) (FD e179) (LD 181 2 [0] mS)
 (fun _ _ h1 h9 _ _ h=>FA e181 Bq (.k qL (.k gm .n)) (.k (LH mS h9) (.k Cq (.k (LH mT h1) .n))) (.trans (by kernel_rfl) h))
 (fun _ _ h1 h2 _ _ h=>LA mT h1 (.k (FH e178 jd h2) .n) .n (.trans (by kernel_rfl) h))
 (fun _ h3 _ _ h=>FA e178 jd (.k (FH e139 tj h3) .n) .n (.trans (by kernel_rfl) h))
 (fun _ _ _ _ _ h0 h2 h4 h6 h8 _ _ h=>FA e139 tj (.k gm (.k ud (.k tW (.k qC (.k (FH e178 jd h2) (.k (FH e179 Bt h8) (.k (FH e180 Bs h6) (.k (FH e181 Bq h0) (.k (FH e182 Br h4) .n))))))))) .n (.trans (by kernel_rfl) h))
 (fun _ h5 _ _ h=>FA e182 Br (.k ul (.k gm .n)) (.k (LH mW h5) (.k Cy .n)) (.trans (by kernel_rfl) h))
 (fun _ _ h2 h5 _ _ h=>LA mW h5 (.k Cl (.k (FH e178 jd h2) (.k EO (.k gm .n)))) .n (.trans (by kernel_rfl) h))
 (fun _ h7 _ _ h=>FA e180 Bs (.k qL (.k gm .n)) (.k (LH mR h7) .n) (.trans (by kernel_rfl) h))
 (fun _ _ h2 h7 _ _ h=>LA mR h7 (.k (FH e178 jd h2) .n) .n (.trans (by kernel_rfl) h))
 (fun _ h2 _ _ h=>FA e179 Bt (.k va (.k gm (.k iw (.k (FH e178 jd h2) .n)))) .n (.trans (by kernel_rfl) h))
 (fun _ _ h2 h9 _ _ h=>LA mS h9 (.k (FH e178 jd h2) .n) .n (.trans (by kernel_rfl) h))
theorem CY :FC e139 eW:= .of tj Cz.2.2.2.1
def rA(x_:av×Int×List UInt8):Option (ab×cz×Int):=
 match x_ with
 | (s,t,m)=>
 iK s >>=fun r=>
 if(!(decide (r=0)))=true then
 some ((⟨0,false,0,[],0,[],[],[]⟩:ab),(⟨[],0⟩:cz),r)
 else
 if(bif decide (t < 0)then true else decide ((s.Types.length:Int)<=t))=true then
 some ((⟨0,false,0,[],0,[],[],[]⟩:ab),(⟨[],0⟩:cz),4)
 else
 if decide (4096 < (m.length:Int))=true then
 some ((⟨0,false,0,[],0,[],[],[]⟩:ab),(⟨[],3⟩:cz),12)
 else
 eW (t,m,s.Types,[],0,[]) >>=fun r_1=>
 if(!r_1.2.1)=true then
 some ((⟨0,false,0,[],0,[],[],[]⟩:ab),(⟨r_1.2.2.2.1,r_1.2.2.2.2.1⟩:cz),12)
 else
 some (ab.eta r_1.1,(⟨[],0⟩:cz),0)
theorem e83_k :KC e83:= .m (by kernel_rfl)
theorem Fu :FC e83 rA:= .fn e83_k (.k uE (.k CY .n)) .n fun _=>by kernel_rfl
def nS(x_:av×Int×List UInt8):Option (ab×Int):=
 match x_ with
 | (s,t,m)=>
 rA (s,t,m) >>=fun r=>
 some (ab.eta r.1,r.2.2)
theorem e50_k :KC e50:= .m (by kernel_rfl)
theorem EP :FC e50 nS:= .fn e50_k (.k Fu .n) .n fun _=>by kernel_rfl
def jD(x_:av×Int):Option (Int):=
 match x_ with
 | (s,t)=>
 iK (⟨s.Types⟩:av) >>=fun r=>
 if(!(decide (r=0)))=true then
 some r
 else
 if(bif decide (t < 0)then true else decide ((s.Types.length:Int)<=t))=true then
 some 4
 else
 some 0
theorem e77_k :KC e77:= .m (by kernel_rfl)
theorem ue :FC e77 jD:= .fn e77_k (.k uE .n) .n fun _=>by kernel_rfl
def oH(v:ab):Option (ab):=
 if decide (v.Kind=1)=true then
 some (⟨v.Kind,v.Bool_,0,[],0,[],[],[]⟩:ab)
 else
 if decide (v.Kind=2)=true then
 some (⟨v.Kind,false,v.Int_,[],0,[],[],[]⟩:ab)
 else
 if decide (v.Kind=3)=true then
 some (⟨v.Kind,false,0,v.Str,0,[],[],[]⟩:ab)
 else
 if decide (v.Kind=4)=true then
 some (⟨v.Kind,false,0,[],v.ID,[],[],[]⟩:ab)
 else
 if decide (v.Kind=5)=true then
 some (⟨v.Kind,false,0,[],0,[],v.Items,v.Rest⟩:ab)
 else
 if decide (v.Kind=6)=true then
 some (⟨v.Kind,false,0,[],v.ID,[],v.Items,v.Rest⟩:ab)
 else
 if decide (v.Kind=8)=true then
 some (⟨v.Kind,false,0,[],0,v.Keys,v.Items,[]⟩:ab)
 else
 some (decide (v.Kind=7)) >>=fun t57=>
 if t57=true then
 if t57=true then
 some (⟨v.Kind,false,0,[],0,[],v.Items,[]⟩:ab)
 else
 some (⟨v.Kind,false,0,[],0,[],[],[]⟩:ab)
 else
 if decide (v.Kind=9)=true then
 some (⟨v.Kind,false,0,[],0,[],v.Items,[]⟩:ab)
 else
 some (⟨v.Kind,false,0,[],0,[],[],[]⟩:ab)
theorem Na :KC e193:= .m (by kernel_rfl)
theorem F2 :FC e193 oH:= .fn Na .n .n fun _=>by kernel_rfl
def n0(v:ab):Option (Bool):=
 oH (ab.eta v) >>=fun r=>
 some (bif bif bif bif bif bif eqB v.Bool_ r.Bool_ then decide (v.Int_=r.Int_)else false then decide (v.Str=r.Str)else false then decide (v.ID=r.ID)else false then decide ((v.Keys.length:Int)=(r.Keys.length:Int))else false then decide ((v.Items.length:Int)=(r.Items.length:Int))else false then decide ((v.Rest.length:Int)=(r.Rest.length:Int))else false)
theorem Nb :KC e148:= .m (by kernel_rfl)
theorem E7 :FC e148 n0:= .fn Nb (.k F2 .n) .n fun _=>by kernel_rfl
def ma(id:Int):Option (Bool):=
 some (bif decide (1<=id)then decide (id<=1000)else false)
theorem Nc :KC e149:= .m (by kernel_rfl)
theorem vb :FC e149 ma:= .fn Nc .n .n fun _=>by kernel_rfl
def cU(x_:Bool×List aH×Int×Int×List ae×ab×Int×List UInt8×Int×Int×Int×List aC×List aj×Int×Int×Bool):Option ((Bool) ⊕ (Bool×List ae×Int×Bool×Int×List UInt8×Int×List ab×List ab×List aH×Int×List UInt8×Int×Int×Int×List aC×List aj×Int×Int×Bool)):=
 match x_ with
 | (plain_3,t111,t112_1,t113,b_31,b_32,b_33,b_34,b_35,b_36,b_37,b_38,b_39,b_40,b_41,b_42)=>
 if decide (t113 < t112_1)=true then
 if inR t113 t111.length=true then
 some (t111.getD t113.toNat az) >>=fun x0_4=>
 bY ((⟨b_33,b_34,b_35,b_36,b_37,b_38,b_39,b_40,b_41,b_42⟩:ae),x0_4.ID) >>=fun r_14=>
 (if(!r_14.2)=true then ma x0_4.ID else some false) >>=fun r_17=>
 some (bif r_14.2 then true else(!r_17)) >>=fun t131=>
 some (decide (0 < t113)) >>=fun t134=>
 some (subI .i64 t113 1) >>=fun t141=>
 if(inR t141 b_32.Rest.length || (!((!t131) && t134)))=true then
 if(bif t131 then true else bif t134 then decide (x0_4.ID<=(b_32.Rest.getD t141.toNat az).ID)else false)=true then
 some (.inl false)
 else
 cU (plain_3,t111,t112_1,addI .i64 t113 1,b_31,ab.eta b_32,b_33,b_34,b_35,b_36,b_37,b_38,b_39,b_40,b_41,b_42)
 else none
 else none
 else
 some (.inr (plain_3,b_31,b_32.Kind,b_32.Bool_,b_32.Int_,b_32.Str,b_32.ID,b_32.Keys,b_32.Items,b_32.Rest,b_33,b_34,b_35,b_36,b_37,b_38,b_39,b_40,b_41,b_42))
  partial_fixpoint
theorem EQ :LC 112 0 [0] A8 cU:= .rc cU.partial_correctness (.k iw (.k vb .n)) .n fun _ _=>by kernel_rfl
def cF(x_:Bool×Int×List ae×ab×Int×List UInt8×Int×Int×Int×List aC×List aj×Int×Int×Bool):Option ((Bool) ⊕ (Bool×List ae×ab×Int×List UInt8×Int×Int×Int×List aC×List aj×Int×Int×Bool)):=
 match x_ with
 | (plain_5,i,b_52,b_53,b_54,b_55,b_56,b_57,b_58,b_59,b_60,b_61,b_62,b_63)=>
 if decide (i < (b_53.Keys.length:Int))=true then
 some (subI .i64 i 1) >>=fun t291=>
 if inR t291 b_53.Keys.length=true then
 if inR i b_53.Keys.length=true then
 dS (ab.eta (b_53.Keys.getD t291.toNat ag),ab.eta (b_53.Keys.getD i.toNat ag)) >>=fun r_19=>
 if decide (0<=r_19)=true then
 some (.inl false)
 else
 cF (plain_5,addI .i64 i 1,b_52,ab.eta b_53,b_54,b_55,b_56,b_57,b_58,b_59,b_60,b_61,b_62,b_63)
 else none
 else none
 else
 some (.inr (plain_5,b_52,ab.eta b_53,b_54,b_55,b_56,b_57,b_58,b_59,b_60,b_61,b_62,b_63))
  partial_fixpoint
theorem ET :LC 112 0 [2] A9 cF:= .rc cF.partial_correctness (.k uk .n) .n fun _ _=>by kernel_rfl
mutual
def nr(x_:List ab×List ae×Int×Bool):Option (Bool×List ae×Int×Bool):=
 match x_ with
 | (s,b,b_1,b_2)=>
 p7 (s,b,b_1,b_2) >>=fun r=>
 some (decide (0<=r.1),r.2.1,r.2.2.1,r.2.2.2)
  partial_fixpoint
def p7(x_:List ab×List ae×Int×Bool):Option (Int×List ae×Int×Bool):=
 match x_ with
 | (s,b,b_1,b_2)=>
 fY (s,(s.length:Int),0,b,b_1,b_2) >>=fun o=>
 match o with
 | .inl o_1=>
 some (o_1.1,o_1.2.1,o_1.2.2.1,o_1.2.2.2)
 | .inr o_2=>
 some ((-1),o_2.1,o_2.2.1,o_2.2.2)
  partial_fixpoint
def gH(x_:av×Int×List ab×Bool):Option (Bool):=
 match x_ with
 | (s,t,l,plain)=>
 nr (l,s.Types,t,plain) >>=fun r=>
 some (!r.1)
  partial_fixpoint
def qY(x_:ab×List ae×Int×Bool):Option (Bool×List ae×Int×Bool):=
 match x_ with
 | (v,b,b_1,b_2)=>
 cv ((⟨b⟩:av),b_1,ab.eta v,b_2) >>=fun r=>
 some ((!r),b,b_1,b_2)
  partial_fixpoint
def cv(x_:av×Int×ab×Bool):Option (Bool):=
 match x_ with
 | (s,t,v,plain)=>
 if(bif decide (t < 0)then true else decide ((s.Types.length:Int)<=t))=true then
 some false
 else
 if inR t s.Types.length=true then
 some (s.Types.getD t.toNat af) >>=fun x0=>
 some (!(decide (v.Kind=x0.Kind))) >>=fun t39=>
 (if(!t39)=true then n0 (ab.eta v)else some false) >>=fun r=>
 if(bif t39 then true else(!r))=true then
 some false
 else
 if decide (x0.Kind=2)=true then
 some (bif decide (x0.Low<=v.Int_)then decide (v.Int_<=x0.High)else false)
 else
 if decide (x0.Kind=3)=true then
 some (decide ((v.Str.length:Int)<=x0.Max))
 else
 if decide (x0.Kind=4)=true then
 jE (x0,v.ID) >>=fun r_1=>
 some (bif x0.Open then(!plain)else false) >>=fun t85=>
 (if((!r_1.2) && t85)=true then ma v.ID else some false) >>=fun r_4=>
 some (bif r_1.2 then true else bif t85 then r_4 else false)
 else
 if decide (x0.Kind=5)=true then
 if(bif (!(decide ((v.Items.length:Int)=(x0.Members.length:Int))))then true else bif plain then decide (0 < (v.Rest.length:Int))else false)=true then
 some false
 else
 cU (plain,v.Rest,(v.Rest.length:Int),0,s.Types,ab.eta v,x0.Kind,x0.Name,x0.Low,x0.High,x0.Max,x0.Symbols,x0.Members,x0.Key,x0.Elem,x0.Open) >>=fun o=>
 match o with
 | .inl o_1=>
 some o_1
 | .inr o_2=>
 du (o_2.1,o_2.2.2.2.2.2.2.2.2.2.2.2.2.2.2.2.2.1,(o_2.2.2.2.2.2.2.2.2.2.2.2.2.2.2.2.2.1.length:Int),0,o_2.2.1,o_2.2.2.1,o_2.2.2.2.1,o_2.2.2.2.2.1,o_2.2.2.2.2.2.1,o_2.2.2.2.2.2.2.1,o_2.2.2.2.2.2.2.2.1,o_2.2.2.2.2.2.2.2.2.1,o_2.2.2.2.2.2.2.2.2.2.1) >>=fun o_3=>
 match o_3 with
 | .inl o_4=>
 some o_4
 | .inr o_5=>
 some true
 else
 if decide (x0.Kind=6)=true then
 bY (x0,v.ID) >>=fun r_5=>
 if r_5.2=true then
 some (bif decide ((v.Items.length:Int)=1)then decide ((v.Rest.length:Int)=0)else false) >>=fun t188=>
 if(inR r_5.1 x0.Members.length || (!t188))=true then
 if(inR 0 v.Items.length || (!t188))=true then
 (if t188=true then cv ((⟨s.Types⟩:av),(x0.Members.getD r_5.1.toNat ap).Type_,ab.eta (v.Items.getD (0:Int).toNat ag),plain)else some false) >>=fun r_8=>
 some (bif t188 then r_8 else false)
 else none
 else none
 else
 some (bif x0.Open then(!plain)else false) >>=fun t209=>
 (if t209=true then ma v.ID else some false) >>=fun r_9=>
 some (bif bif bif t209 then r_9 else false then decide ((v.Items.length:Int)=0)else false then decide ((v.Rest.length:Int)=1)else false) >>=fun t226=>
 if(inR 0 v.Rest.length || (!t226))=true then
 some (bif t226 then decide ((v.Rest.getD (0:Int).toNat az).ID=v.ID)else false)
 else none
 else
 if decide (x0.Kind=7)=true then
 some (decide ((v.Items.length:Int)<=x0.Max)) >>=fun t244=>
 (if t244=true then gH ((⟨s.Types⟩:av),x0.Elem,v.Items,plain)else some false) >>=fun r_10=>
 some (bif t244 then r_10 else false)
 else
 if decide (x0.Kind=8)=true then
 some (bif decide (x0.Max < (v.Keys.length:Int))then true else(!(decide ((v.Items.length:Int)=(v.Keys.length:Int))))) >>=fun t270=>
 (if(!t270)=true then gH ((⟨s.Types⟩:av),x0.Key,v.Keys,plain)else some false) >>=fun r_11=>
 if(bif t270 then true else(!r_11))=true then
 some false
 else
 cF (plain,1,s.Types,ab.eta v,x0.Kind,x0.Name,x0.Low,x0.High,x0.Max,x0.Symbols,x0.Members,x0.Key,x0.Elem,x0.Open) >>=fun o_6=>
 match o_6 with
 | .inl o_7=>
 some o_7
 | .inr o_8=>
 gH ((⟨o_8.2.1⟩:av),o_8.2.2.2.2.2.2.2.2.2.2.2.1,o_8.2.2.1.Items,o_8.1) >>=fun r_12=>
 some r_12
 else
 if decide (x0.Kind=9)=true then
 some (decide ((v.Items.length:Int)<=1)) >>=fun t313=>
 (if t313=true then gH ((⟨s.Types⟩:av),x0.Elem,v.Items,plain)else some false) >>=fun r_13=>
 some (bif t313 then r_13 else false)
 else
 some true
 else none
  partial_fixpoint
def fY(x_:List ab×Int×Int×List ae×Int×Bool):Option ((Int×List ae×Int×Bool) ⊕ (List ae×Int×Bool)):=
 match x_ with
 | (s_1,t7_1,t8,b_9,b_10,b_11)=>
 if decide (t8 < t7_1)=true then
 if inR t8 s_1.length=true then
 qY (ab.eta (s_1.getD t8.toNat ag),b_9,b_10,b_11) >>=fun r=>
 if r.1=true then
 some (.inl (t8,r.2.1,r.2.2.1,r.2.2.2))
 else
 fY (s_1,t7_1,addI .i64 t8 1,r.2.1,r.2.2.1,r.2.2.2)
 else none
 else
 some (.inr (b_9,b_10,b_11))
  partial_fixpoint
def du(x_:Bool×List aj×Int×Int×List ae×Int×Bool×Int×List UInt8×Int×List ab×List ab×List aH):Option ((Bool) ⊕ (Unit)):=
 match x_ with
 | (plain_4,t150,t151_1,t152,b_43,b_44,b_45,b_46,b_47,b_48,b_49,b_50,b_51)=>
 if decide (t152 < t151_1)=true then
 if inR t152 t150.length=true then
 if inR t152 b_50.length=true then
 cv ((⟨b_43⟩:av),(t150.getD t152.toNat ap).Type_,ab.eta (b_50.getD t152.toNat ag),plain_4) >>=fun r_18=>
 if(!r_18)=true then
 some (.inl false)
 else
 du (plain_4,t150,t151_1,addI .i64 t152 1,b_43,b_44,b_45,b_46,b_47,b_48,b_49,b_50,b_51)
 else none
 else none
 else
 some (.inr ())
  partial_fixpoint
end
theorem yI :KC kD:= .m (by kernel_rfl)
theorem yK :KC kC:= .m (by kernel_rfl)
theorem Bu :KC e194:= .m (by kernel_rfl)
theorem nh :KC e112:= .m (by kernel_rfl)
theorem Bv :KC e150:= .m (by kernel_rfl)
theorem Cg :(∀h r,nr h=some r->FD kD h r)/\(∀h r,p7 h=some r->FD kC h r)/\(∀h r,fY h=some r->LD 192 3 [0] mr h r)/\(∀h r,qY h=some r->FD e194 h r)/\(∀h r,cv h=some r->FD e112 h r)/\(∀h r,gH h=some r->FD e150 h r)/\(∀h r,du h=some r->LD 112 0 [1] mX h r):=nr.mutual_partial_correctness (FD kD) (FD kC) (LD 192 3 [0] mr) (FD e194) (FD e112) (FD e150) (LD 112 0 [1] mX)
 (fun _ h1 _ _ h=>FA kD yI (.k (FH kC yK h1) .n) .n (.trans (by kernel_rfl) h))
 (fun _ h2 _ _ h=>FA kC yK .n (.k (LH mr h2) .n) (.trans (by kernel_rfl) h))
 (fun _ _ h2 h3 _ _ h=>LA mr h2 (.k (FH e194 Bu h3) .n) .n (.trans (by kernel_rfl) h))
 (fun _ h4 _ _ h=>FA e194 Bu (.k (FH e112 nh h4) .n) .n (.trans (by kernel_rfl) h))
 (fun _ _ _ h4 h5 h6 _ _ h=>FA e112 nh (.k E7 (.k qC (.k vb (.k iw (.k (FH e112 nh h4) (.k (FH e150 Bv h5) .n)))))) (.k EQ (.k (LH mX h6) (.k ET .n))) (.trans (by kernel_rfl) h))
 (fun _ h0 _ _ h=>FA e150 Bv (.k (FH kD yI h0) .n) .n (.trans (by kernel_rfl) h))
 (fun _ _ h4 h6 _ _ h=>LA mX h6 (.k (FH e112 nh h4) .n) .n (.trans (by kernel_rfl) h))
theorem F3 :FC e112 cv:= .of nh Cg.2.2.2.2.1
def fC(x_:av×Int×ab):Option (Bool):=
 match x_ with
 | (s,t,v)=>
 cv ((⟨s.Types⟩:av),t,ab.eta v,false) >>=fun r=>
 some r
theorem e86_k :KC e86:= .m (by kernel_rfl)
theorem vd :FC e86 fC:= .fn e86_k (.k F3 .n) .n fun _=>by kernel_rfl
def ft(x_:av×Int×ab):Option (Int):=
 match x_ with
 | (s,t,v)=>
 jD ((⟨s.Types⟩:av),t) >>=fun r=>
 if(!(decide (r=0)))=true then
 some r
 else
 fC ((⟨s.Types⟩:av),t,ab.eta v) >>=fun r_1=>
 if(!r_1)=true then
 some 1
 else
 some 0
theorem e81_k :KC e81:= .m (by kernel_rfl)
theorem Ez :FC e81 ft:= .fn e81_k (.k ue (.k vd .n)) .n fun _=>by kernel_rfl
def iD(x_:Int×Int×List Int):Option (Int×List Int):=
 match x_ with
 | (n_1,i_1,b_1)=>
 if decide (0 < n_1)=true then
 some (subI .i64 i_1 1) >>=fun t10=>
 if inR t10 8=true then
 if decide (t10.toNat < b_1.length)=true then
 iD (shrI .u64 n_1 8,t10,b_1.set t10.toNat (wrp .u8 n_1))
 else none
 else none
 else
 some (i_1,b_1)
  partial_fixpoint
theorem EU :LC 132 0 [0] Ba iD:= .rc iD.partial_correctness .n .n fun _ _=>by kernel_rfl
def mc(n:Int):Option (List UInt8):=
 iD (n,8,[0,0,0,0,0,0,0,0]) >>=fun o=>
 if slR o.1 8 8=true then
 if subR o.1.toNat ((8:Int).toNat - o.1.toNat) o.2.length=true then
 some (strOf ((o.2.drop o.1.toNat).take ((8:Int).toNat - o.1.toNat)))
 else none
 else none
theorem Nf :KC e132:= .m (by kernel_rfl)
theorem F4 :FC e132 mc:= .fn Nf .n (.k EU .n) fun _=>by kernel_rfl
mutual
def jg(x_:List ab×List ab):Option (Bool):=
 match x_ with
 | (s1,s2)=>
 if(!(decide ((s1.length:Int)=(s2.length:Int))))=true then
 some false
 else
 je (s2,s1,(s1.length:Int),0) >>=fun o=>
 match o with
 | .inl o_1=>
 some o_1
 | .inr o_2=>
 some true
  partial_fixpoint
def iO(x_:ab×ab):Option (Bool):=
 match x_ with
 | (a,b)=>
 some (bif bif bif bif decide (a.Kind=b.Kind)then eqB a.Bool_ b.Bool_ else false then decide (a.Int_=b.Int_)else false then decide (a.Str=b.Str)else false then decide (a.ID=b.ID)else false) >>=fun t37=>
 (if t37=true then kP (a.Rest,b.Rest)else some false) >>=fun r=>
 some (bif t37 then r else false) >>=fun t44=>
 (if t44=true then jg (a.Keys,b.Keys)else some false) >>=fun r_1=>
 some (bif t44 then r_1 else false) >>=fun t51=>
 (if t51=true then jg (a.Items,b.Items)else some false) >>=fun r_2=>
 some (bif t51 then r_2 else false)
  partial_fixpoint
def je(x_:List ab×List ab×Int×Int):Option ((Bool) ⊕ (Unit)):=
 match x_ with
 | (s2_1,t15,t16_1,t17)=>
 if decide (t17 < t16_1)=true then
 if inR t17 t15.length=true then
 if inR t17 s2_1.length=true then
 iO (ab.eta (t15.getD t17.toNat ag),ab.eta (s2_1.getD t17.toNat ag)) >>=fun r=>
 if(!r)=true then
 some (.inl false)
 else
 je (s2_1,t15,t16_1,addI .i64 t17 1)
 else none
 else none
 else
 some (.inr ())
  partial_fixpoint
end
theorem yL :KC kE:= .m (by kernel_rfl)
theorem tk :KC e205:= .m (by kernel_rfl)
theorem Cc :(∀h r,jg h=some r->FD kE h r)/\(∀h r,je h=some r->LD 225 0 [0] mt h r)/\(∀h r,iO h=some r->FD e205 h r):=jg.mutual_partial_correctness (FD kE) (LD 225 0 [0] mt) (FD e205)
 (fun _ h1 _ _ h=>FA kE yL .n (.k (LH mt h1) .n) (.trans (by kernel_rfl) h))
 (fun _ _ h1 h2 _ _ h=>LA mt h1 (.k (FH e205 tk h2) .n) .n (.trans (by kernel_rfl) h))
 (fun _ h0 _ _ h=>FA e205 tk (.k tu (.k (FH kE yL h0) .n)) .n (.trans (by kernel_rfl) h))
theorem Fv :FC e205 iO:= .of tk Cc.2.2
def nL(x_:aj×ab):Option (Bool):=
 match x_ with
 | (m,v)=>
 (if m.HasDefault=true then iO (ab.eta m.Default,ab.eta v)else some false) >>=fun r=>
 some (bif m.HasDefault then r else false)
theorem Ng :KC e170:= .m (by kernel_rfl)
theorem EA :FC e170 nL:= .fn Ng (.k Fv .n) .n fun _=>by kernel_rfl
def iE(x_:Int×Int×List Int):Option (Int×Int×List Int):=
 match x_ with
 | (n_2,i_1,b_1)=>
 if decide (128<=n_2)=true then
 if inR i_1 10=true then
 if decide (i_1.toNat < b_1.length)=true then
 iE (shrI .u64 n_2 7,addI .i64 i_1 1,b_1.set i_1.toNat (orI .u8 (wrp .u8 n_2) 128))
 else none
 else none
 else
 some (n_2,i_1,b_1)
  partial_fixpoint
theorem EV :LC 175 0 [0] Bb iE:= .rc iE.partial_correctness .n .n fun _ _=>by kernel_rfl
def iQ(n:Int):Option (List UInt8):=
 iE (n,0,[0,0,0,0,0,0,0,0,0,0]) >>=fun o=>
 if inR o.2.1 10=true then
 if decide (o.2.1.toNat < o.2.2.length)=true then
 some (o.2.2.set o.2.1.toNat (wrp .u8 o.1)) >>=fun l_1=>
 some (addI .i64 o.2.1 1) >>=fun t21=>
 if slR 0 t21 10=true then
 if subR (0:Int).toNat t21.toNat l_1.length=true then
 some (strOf ((l_1.drop (0:Int).toNat).take t21.toNat))
 else none
 else none
 else none
 else none
theorem Nh :KC e175:= .m (by kernel_rfl)
theorem qZ :FC e175 iQ:= .fn Nh .n (.k EV .n) fun _=>by kernel_rfl
def gD(p:List UInt8):Option (List UInt8):=
 iQ (wrp .u64 (p.length:Int)) >>=fun r=>
 if decide (r.length+p.length<=aX)=true then
 some (r++p)
 else none
theorem Ni :KC e137:= .m (by kernel_rfl)
theorem uF :FC e137 gD:= .fn Ni (.k qZ .n) .n fun _=>by kernel_rfl
def lS(x_:Int×Bool×List UInt8):Option (List UInt8):=
 match x_ with
 | (id,critical,p)=>
 some (mulI .u64 2 (wrp .u64 id)) >>=fun t10=>
 if critical=true then
 iQ (addI .u64 t10 1) >>=fun r=>
 gD p >>=fun r_1=>
 if decide (r.length+r_1.length<=aX)=true then
 some (r++r_1)
 else none
 else
 iQ t10 >>=fun r_2=>
 gD p >>=fun r_3=>
 if decide (r_2.length+r_3.length<=aX)=true then
 some (r_2++r_3)
 else none
theorem Nj :KC e171:= .m (by kernel_rfl)
theorem uG :FC e171 lS:= .fn Nj (.k qZ (.k uF .n)) .n fun _=>by kernel_rfl
def gW(x_:List UInt8×List UInt8):Option (Int×List UInt8):=
 match x_ with
 | (s,b)=>
 some b >>=fun r=>
 if(decide (r.length=b.length) && true)=true then
 if room 1 (r.length+s.length)=true then
 some ((s.length:Int),catS r s)
 else none
 else none
theorem Nk :KC e136:= .m (by kernel_rfl)
theorem tv :FC e136 gW:= .fn Nk (.k jw .n) .n fun _=>by kernel_rfl
def kQ(b:List UInt8):Option (List UInt8):=
 if eqI (b.length:Int) (b.length:Int)=true then
 some b
 else none
theorem Nl :KC e138:= .m (by kernel_rfl)
theorem tA :FC e138 kQ:= .fn Nl .n .n fun _=>by kernel_rfl
def f5(x_:List aH×Int×Int×List ae×Int×List bn):Option (List ae×Int×List bn):=
 match x_ with
 | (t57,t58_1,t59,b_16,b_17,b_18)=>
 if decide (t59 < t58_1)=true then
 if inR t59 t57.length=true then
 some (t57.getD t59.toNat az) >>=fun x0_4=>
 lS (x0_4.ID,false,x0_4.Data) >>=fun r_8=>
 some [(⟨x0_4.ID,r_8⟩:bn)] >>=fun t72=>
 if room 24 (b_18++t72).length=true then
 f5 (t57,t58_1,addI .i64 t59 1,b_16,b_17,b_18++t72)
 else none
 else none
 else
 some (b_16,b_17,b_18)
  partial_fixpoint
theorem CB :LC 134 1 [1] Bc f5:= .rc f5.partial_correctness (.k uG .n) .n fun _ _=>by kernel_rfl
def f7(x_:Int×Int×List ae×Int×List bn×List UInt8):Option (List ae×Int×List UInt8):=
 match x_ with
 | (t78_1,t79,b_19,b_20,b_21,b_22)=>
 if decide (t79 < t78_1)=true then
 if inR t79 b_21.length=true then
 if decide (t79.toNat < b_21.length)=true then
 gW ((b_21.getD t79.toNat jI).text,b_22) >>=fun r_9=>
 f7 (t78_1,addI .i64 t79 1,b_19,b_20,b_21,r_9.2)
 else none
 else none
 else
 some (b_19,b_20,b_22)
  partial_fixpoint
theorem CE :LC 134 1 [2] Bd f7:= .rc f7.partial_correctness (.k tv .n) .n fun _ _=>by kernel_rfl
mutual
def cD(x_:Int×ab×Int×List ae×Int):Option (List UInt8×List ae×Int):=
 match x_ with
 | (t,v,level,b,b_1)=>
 some (maxI b_1 level) >>=fun t19=>
 if inR t b.length=true then
 some (b.getD t.toNat af) >>=fun x0=>
 if decide (x0.Kind=1)=true then
 if v.Bool_=true then
 some ([1],b,t19)
 else
 some ([],b,t19)
 else
 if decide (x0.Kind=2)=true then
 jF v.Int_ >>=fun r=>
 mc r >>=fun r_1=>
 some (r_1,b,t19)
 else
 if decide (x0.Kind=3)=true then
 some (v.Str,b,t19)
 else
 if decide (x0.Kind=4)=true then
 mc (wrp .u64 v.ID) >>=fun r_2=>
 some (r_2,b,t19)
 else
 if decide (x0.Kind=5)=true then
 nw (x0,ab.eta v,level,b,t19) >>=fun r_3=>
 some (r_3.1,r_3.2.1,r_3.2.2)
 else
 if decide (x0.Kind=6)=true then
 kZ (x0,ab.eta v,level,b,t19) >>=fun r_7=>
 some (r_7.1,r_7.2.1,r_7.2.2)
 else
 if decide (x0.Kind=9)=true then
 if decide ((v.Items.length:Int)=0)=true then
 some ([],b,t19)
 else
 if inR 0 v.Items.length=true then
 cD (x0.Elem,ab.eta (v.Items.getD (0:Int).toNat ag),addI .i64 level 1,b,t19) >>=fun r_11=>
 if decide ([1].length+r_11.1.length<=aX)=true then
 some ([1]++r_11.1,r_11.2.1,r_11.2.2)
 else none
 else none
 else
 dh (level,v.Items,(v.Items.length:Int),0,b,t19,ab.eta v,x0,[]) >>=fun o=>
 kQ o.2.2 >>=fun r_15=>
 some (r_15,o.1,o.2.1)
 else none
  partial_fixpoint
def nw(x_:ae×ab×Int×List ae×Int):Option (List UInt8×List ae×Int):=
 match x_ with
 | (x0,v,level,b,b_1)=>
 f8 (level,x0.Members,(x0.Members.length:Int),0,b,b_1,ab.eta v,[]) >>=fun o=>
 f5 (o.2.2.1.Rest,(o.2.2.1.Rest.length:Int),0,o.1,o.2.1,o.2.2.2) >>=fun o_1=>
 qp o_1.2.2 >>=fun r=>
 if(decide (r.length=o_1.2.2.length) && true)=true then
 f7 ((r.length:Int),0,o_1.1,o_1.2.1,r,[]) >>=fun o_2=>
 kQ o_2.2.2 >>=fun r_1=>
 some (r_1,o_2.1,o_2.2.1)
 else none
  partial_fixpoint
def kZ(x_:ae×ab×Int×List ae×Int):Option (List UInt8×List ae×Int):=
 match x_ with
 | (x0,v,level,b,b_1)=>
 iQ (wrp .u64 v.ID) >>=fun r=>
 bY (x0,v.ID) >>=fun r_1=>
 if(!r_1.2)=true then
 if inR 0 v.Rest.length=true then
 some (v.Rest.getD (0:Int).toNat az) >>=fun x0_1=>
 if decide (r.length+x0_1.Data.length<=aX)=true then
 some (r++x0_1.Data,b,b_1)
 else none
 else none
 else
 if inR r_1.1 x0.Members.length=true then
 if inR 0 v.Items.length=true then
 cD ((x0.Members.getD r_1.1.toNat ap).Type_,ab.eta (v.Items.getD (0:Int).toNat ag),addI .i64 level 1,b,b_1) >>=fun r_4=>
 if decide (r.length+r_4.1.length<=aX)=true then
 some (r++r_4.1,r_4.2.1,r_4.2.2)
 else none
 else none
 else none
  partial_fixpoint
def dh(x_:Int×List ab×Int×Int×List ae×Int×ab×ae×List UInt8):Option (List ae×Int×List UInt8):=
 match x_ with
 | (level_1,t84,t85_1,t86,b_5,b_6,b_7,b_8,b_9)=>
 if decide (t86 < t85_1)=true then
 if inR t86 t84.length=true then
 some (t84.getD t86.toNat ag) >>=fun x0_2=>
 if decide (b_8.Kind=8)=true then
 if inR t86 b_7.Keys.length=true then
 cD (b_8.Key,ab.eta (b_7.Keys.getD t86.toNat ag),addI .i64 level_1 1,b_5,b_6) >>=fun r_16=>
 gD r_16.1 >>=fun r_20=>
 gW (r_20,b_9) >>=fun r_21=>
 cD (b_8.Elem,ab.eta x0_2,addI .i64 level_1 1,r_16.2.1,r_16.2.2) >>=fun r_24=>
 gD r_24.1 >>=fun r_28=>
 gW (r_28,r_21.2) >>=fun r_29=>
 dh (level_1,t84,t85_1,addI .i64 t86 1,r_24.2.1,r_24.2.2,ab.eta b_7,b_8,r_29.2)
 else none
 else
 cD (b_8.Elem,ab.eta x0_2,addI .i64 level_1 1,b_5,b_6) >>=fun r_32=>
 gD r_32.1 >>=fun r_36=>
 gW (r_36,b_9) >>=fun r_37=>
 dh (level_1,t84,t85_1,addI .i64 t86 1,r_32.2.1,r_32.2.2,ab.eta b_7,b_8,r_37.2)
 else none
 else
 some (b_5,b_6,b_9)
  partial_fixpoint
def f8(x_:Int×List aj×Int×Int×List ae×Int×ab×List bn):Option (List ae×Int×ab×List bn):=
 match x_ with
 | (level_1,t18,t19_1,t20,b_12,b_13,b_14,b_15)=>
 if decide (t20 < t19_1)=true then
 if inR t20 t18.length=true then
 some (t18.getD t20.toNat ap) >>=fun x0_1=>
 if inR t20 b_14.Items.length=true then
 nL ((⟨x0_1.ID,x0_1.Name,x0_1.Type_,x0_1.Critical,x0_1.HasDefault,ab.eta x0_1.Default⟩:aj),ab.eta (b_14.Items.getD t20.toNat ag)) >>=fun r_2=>
 if(!r_2)=true then
 if inR t20 b_14.Items.length=true then
 cD (x0_1.Type_,ab.eta (b_14.Items.getD t20.toNat ag),addI .i64 level_1 1,b_12,b_13) >>=fun r_3=>
 lS (x0_1.ID,x0_1.Critical,r_3.1) >>=fun r_7=>
 some [(⟨x0_1.ID,r_7⟩:bn)] >>=fun t53=>
 if room 24 (b_15++t53).length=true then
 f8 (level_1,t18,t19_1,addI .i64 t20 1,r_3.2.1,r_3.2.2,ab.eta b_14,b_15++t53)
 else none
 else none
 else
 f8 (level_1,t18,t19_1,addI .i64 t20 1,b_12,b_13,ab.eta b_14,b_15)
 else none
 else none
 else
 some (b_12,b_13,ab.eta b_14,b_15)
  partial_fixpoint
end
theorem e82_k :KC e82:= .m (by kernel_rfl)
theorem Bw :KC e135:= .m (by kernel_rfl)
theorem By :KC e134:= .m (by kernel_rfl)
theorem CF :(∀h r,cD h=some r->FD e82 h r)/\(∀h r,dh h=some r->LD 82 1 [0] e82_0 h r)/\(∀h r,kZ h=some r->FD e135 h r)/\(∀h r,nw h=some r->FD e134 h r)/\(∀h r,f8 h=some r->LD 134 1 [0] mY h r):=cD.mutual_partial_correctness (FD e82) (LD 82 1 [0] e82_0) (FD e135) (FD e134) (LD 134 1 [0] mY)
 (fun _ _ _ _ h0 h1 h2 h3 _ _ h=>FA e82 e82_k (.k uj (.k F4 (.k (FH e134 By h3) (.k (FH e135 Bw h2) (.k (FH e82 e82_k h0) (.k tA .n)))))) (.k (LH e82_0 h1) .n) (.trans (by kernel_rfl) h))
 (fun _ _ h0 h1 _ _ h=>LA e82_0 h1 (.k (FH e82 e82_k h0) (.k uF (.k tv .n))) .n (.trans (by kernel_rfl) h))
 (fun _ h0 _ _ h=>FA e135 Bw (.k qZ (.k iw (.k (FH e82 e82_k h0) .n))) .n (.trans (by kernel_rfl) h))
 (fun _ h4 _ _ h=>FA e134 By (.k qK (.k tA .n)) (.k (LH mY h4) (.k CB (.k CE .n))) (.trans (by kernel_rfl) h))
 (fun _ _ h0 h4 _ _ h=>LA mY h4 (.k EA (.k (FH e82 e82_k h0) (.k uG .n))) .n (.trans (by kernel_rfl) h))
theorem tB :FC e82 cD:= .of e82_k CF.1
def lM(x_:av×Int×ab):Option (List UInt8×Int):=
 match x_ with
 | (s,t,v)=>
 ft ((⟨s.Types⟩:av),t,ab.eta v) >>=fun r=>
 if(!(decide (r=0)))=true then
 some ([],r)
 else
 cD (t,ab.eta v,1,s.Types,0) >>=fun r_1=>
 if(bif decide (4096 < (r_1.1.length:Int))then true else decide (200 < r_1.2.2))=true then
 some ([],3)
 else
 some (r_1.1,0)
theorem EW :FC e49 lM:= .fn e49_k (.k Ez (.k tB .n)) .n fun _=>by kernel_rfl
def nT(x_:av×Int×List UInt8):Option (List UInt8×Int):=
 match x_ with
 | (s,t,m)=>
 nS (s,t,m) >>=fun r=>
 if(!(decide (r.2=0)))=true then
 some ([],r.2)
 else
 lM (s,t,ab.eta r.1) >>=fun r_3=>
 some (r_3.1,r_3.2)
theorem EX :FC e12 nT:= .fn e12_k (.k EP (.k EW .n)) .n fun _=>by kernel_rfl
def nF(x_:av×Int×List UInt8):Option (Bool):=
 match x_ with
 | (s,t,m)=>
 nT (s,t,m) >>=fun r=>
 some (bif decide (r.2=0)then decide (r.1=m)else false)
theorem DU :FC e37 nF:= .fn e37_k (.k EX .n) .n fun _=>by kernel_rfl
def dq(t:ae):Option (ae):=
 if decide (t.Kind=1)=true then
 some (⟨t.Kind,[],0,0,0,[],[],0,0,false⟩:ae)
 else
 if decide (t.Kind=2)=true then
 some (⟨t.Kind,[],t.Low,t.High,0,[],[],0,0,false⟩:ae)
 else
 if decide (t.Kind=3)=true then
 some (⟨t.Kind,[],0,0,t.Max,[],[],0,0,false⟩:ae)
 else
 if decide (t.Kind=4)=true then
 some (⟨t.Kind,t.Name,0,0,0,t.Symbols,[],0,0,t.Open⟩:ae)
 else
 if decide (t.Kind=5)=true then
 some (⟨t.Kind,t.Name,0,0,0,[],t.Members,0,0,false⟩:ae)
 else
 if decide (t.Kind=6)=true then
 some (⟨t.Kind,t.Name,0,0,0,[],t.Members,0,0,t.Open⟩:ae)
 else
 if decide (t.Kind=7)=true then
 some (⟨t.Kind,[],0,0,t.Max,[],[],0,t.Elem,false⟩:ae)
 else
 if decide (t.Kind=8)=true then
 some (⟨t.Kind,[],0,0,t.Max,[],[],t.Key,t.Elem,false⟩:ae)
 else
 some (⟨t.Kind,[],0,0,0,[],[],0,t.Elem,false⟩:ae)
theorem Nn :KC e115:= .m (by kernel_rfl)
theorem DV :FC e115 dq:= .fn Nn .n .n fun _=>by kernel_rfl
def eM(x_:Int×ab×ab):Option ((Bool) ⊕ (ab×ab)):=
 match x_ with
 | (i,b_3,b_4)=>
 if decide (i < (b_3.Rest.length:Int))=true then
 if inR i b_3.Rest.length=true then
 some (b_3.Rest.getD i.toNat az) >>=fun x0=>
 if inR i b_4.Rest.length=true then
 some (b_4.Rest.getD i.toNat az) >>=fun x0_1=>
 if(!(eqI x0.ID x0_1.ID && (eqS x0.Data x0_1.Data && true)))=true then
 some (.inl false)
 else
 eM (addI .i64 i 1,ab.eta b_3,ab.eta b_4)
 else none
 else none
 else
 some (.inr (ab.eta b_3,ab.eta b_4))
  partial_fixpoint
theorem Ct :LC 65 0 [0] e65_0 eM:= .rc eM.partial_correctness .n .n fun _ _=>by kernel_rfl
mutual
def cP(x_:ab×ab):Option (Bool):=
 match x_ with
 | (a,b)=>
 if(bif bif bif bif bif (!(decide (a.Kind=b.Kind)))then true else(!(eqB a.Bool_ b.Bool_))then true else(!(decide (a.Int_=b.Int_)))then true else(!(decide (a.Str=b.Str)))then true else(!(decide (a.ID=b.ID)))then true else(!(decide ((a.Rest.length:Int)=(b.Rest.length:Int)))))=true then
 some false
 else
 eM (0,(⟨a.Kind,a.Bool_,a.Int_,a.Str,a.ID,a.Keys,a.Items,a.Rest⟩:ab),(⟨b.Kind,b.Bool_,b.Int_,b.Str,b.ID,b.Keys,b.Items,b.Rest⟩:ab)) >>=fun o=>
 match o with
 | .inl o_1=>
 some o_1
 | .inr o_2=>
 kR (o_2.1.Keys,o_2.2.Keys) >>=fun r=>
 (if r=true then kR (o_2.1.Items,o_2.2.Items)else some false) >>=fun r_1=>
 some (bif r then r_1 else false)
  partial_fixpoint
def kR(x_:List ab×List ab):Option (Bool):=
 match x_ with
 | (a,b)=>
 if(!(decide ((a.length:Int)=(b.length:Int))))=true then
 some false
 else
 jh (a,b,0) >>=fun o=>
 match o with
 | .inl o_1=>
 some o_1
 | .inr o_2=>
 some true
  partial_fixpoint
def jh(x_:List ab×List ab×Int):Option ((Bool) ⊕ (Unit)):=
 match x_ with
 | (a_1,b_1,i)=>
 if decide (i < (a_1.length:Int))=true then
 if inR i a_1.length=true then
 if inR i b_1.length=true then
 cP (ab.eta (a_1.getD i.toNat ag),ab.eta (b_1.getD i.toNat ag)) >>=fun r=>
 if(!r)=true then
 some (.inl false)
 else
 jh (a_1,b_1,addI .i64 i 1)
 else none
 else none
 else
 some (.inr ())
  partial_fixpoint
end
theorem e65_k :KC e65:= .m (by kernel_rfl)
theorem Bz :KC e105:= .m (by kernel_rfl)
theorem CG :(∀h r,cP h=some r->FD e65 h r)/\(∀h r,kR h=some r->FD e105 h r)/\(∀h r,jh h=some r->LD 105 0 [0] mZ h r):=cP.mutual_partial_correctness (FD e65) (FD e105) (LD 105 0 [0] mZ)
 (fun _ h1 _ _ h=>FA e65 e65_k (.k (FH e105 Bz h1) .n) (.k Ct .n) (.trans (by kernel_rfl) h))
 (fun _ h2 _ _ h=>FA e105 Bz .n (.k (LH mZ h2) .n) (.trans (by kernel_rfl) h))
 (fun _ _ h0 h2 _ _ h=>LA mZ h2 (.k (FH e65 e65_k h0) .n) .n (.trans (by kernel_rfl) h))
theorem p9 :FC e65 cP:= .of e65_k CG.1
def kS(x_:aj×aj):Option (Bool):=
 match x_ with
 | (a,b)=>
 some (bif bif bif bif decide (a.ID=b.ID)then decide (a.Name=b.Name)else false then decide (a.Type_=b.Type_)else false then eqB a.Critical b.Critical else false then eqB a.HasDefault b.HasDefault else false) >>=fun t37=>
 (if t37=true then cP ((⟨a.Default.Kind,a.Default.Bool_,a.Default.Int_,a.Default.Str,a.Default.ID,a.Default.Keys,a.Default.Items,a.Default.Rest⟩:ab),(⟨b.Default.Kind,b.Default.Bool_,b.Default.Int_,b.Default.Str,b.Default.ID,b.Default.Keys,b.Default.Items,b.Default.Rest⟩:ab))else some false) >>=fun r=>
 some (bif t37 then r else false)
theorem No :KC e152:= .m (by kernel_rfl)
theorem CP :FC e152 kS:= .fn No (.k p9 .n) .n fun _=>by kernel_rfl
def eP(x_:Int×ae×ae):Option ((Bool) ⊕ (ae×ae)):=
 match x_ with
 | (i,b_3,b_4)=>
 if decide (i < (b_3.Symbols.length:Int))=true then
 if inR i b_3.Symbols.length=true then
 some (b_3.Symbols.getD i.toNat aR) >>=fun x0=>
 if inR i b_4.Symbols.length=true then
 some (b_4.Symbols.getD i.toNat aR) >>=fun x0_1=>
 if(!(eqI x0.ID x0_1.ID && (eqS x0.Name x0_1.Name && true)))=true then
 some (.inl false)
 else
 eP (addI .i64 i 1,b_3,b_4)
 else none
 else none
 else
 some (.inr (b_3,b_4))
  partial_fixpoint
theorem CH :LC 114 0 [0] Be eP:= .rc eP.partial_correctness .n .n fun _ _=>by kernel_rfl
def eQ(x_:Int×ae×ae):Option ((Bool) ⊕ (Unit)):=
 match x_ with
 | (i_1,b_5,b_6)=>
 if decide (i_1 < (b_5.Members.length:Int))=true then
 if inR i_1 b_5.Members.length=true then
 some (b_5.Members.getD i_1.toNat ap) >>=fun x0_2=>
 if inR i_1 b_6.Members.length=true then
 some (b_6.Members.getD i_1.toNat ap) >>=fun x0_3=>
 kS ((⟨x0_2.ID,x0_2.Name,x0_2.Type_,x0_2.Critical,x0_2.HasDefault,ab.eta x0_2.Default⟩:aj),(⟨x0_3.ID,x0_3.Name,x0_3.Type_,x0_3.Critical,x0_3.HasDefault,ab.eta x0_3.Default⟩:aj)) >>=fun r=>
 if(!r)=true then
 some (.inl false)
 else
 eQ (addI .i64 i_1 1,b_5,b_6)
 else none
 else none
 else
 some (.inr ())
  partial_fixpoint
theorem CI :LC 114 0 [1] Bf eQ:= .rc eQ.partial_correctness (.k CP .n) .n fun _ _=>by kernel_rfl
def nx(x_:ae×ae):Option (Bool):=
 match x_ with
 | (a,b)=>
 if(bif bif bif bif bif bif bif bif bif (!(decide (a.Kind=b.Kind)))then true else(!(decide (a.Name=b.Name)))then true else(!(decide (a.Low=b.Low)))then true else(!(decide (a.High=b.High)))then true else(!(decide (a.Max=b.Max)))then true else(!(decide (a.Key=b.Key)))then true else(!(decide (a.Elem=b.Elem)))then true else(!(eqB a.Open b.Open))then true else(!(decide ((a.Symbols.length:Int)=(b.Symbols.length:Int))))then true else(!(decide ((a.Members.length:Int)=(b.Members.length:Int)))))=true then
 some false
 else
 eP (0,(⟨a.Kind,a.Name,a.Low,a.High,a.Max,a.Symbols,a.Members,a.Key,a.Elem,a.Open⟩:ae),(⟨b.Kind,b.Name,b.Low,b.High,b.Max,b.Symbols,b.Members,b.Key,b.Elem,b.Open⟩:ae)) >>=fun o=>
 match o with
 | .inl o_1=>
 some o_1
 | .inr o_2=>
 eQ (0,o_2.1,o_2.2) >>=fun o_3=>
 match o_3 with
 | .inl o_4=>
 some o_4
 | .inr o_5=>
 some true
theorem Np :KC e114:= .m (by kernel_rfl)
theorem C9 :FC e114 nx:= .fn Np .n (.k CH (.k CI .n)) fun _=>by kernel_rfl
def lh(b:Int):Option (Bool):=
 some (bif bif bif decide (97<=b)then decide (b<=122)else false then true else bif decide (65<=b)then decide (b<=90)else false then true else decide (b=95))
theorem Nq :KC e153:= .m (by kernel_rfl)
theorem tF :FC e153 lh:= .fn Nq .n .n fun _=>by kernel_rfl
def nG(b:Int):Option (Bool):=
 some (bif decide (48<=b)then decide (b<=57)else false)
theorem Nr :KC e154:= .m (by kernel_rfl)
theorem DW :FC e154 nG:= .fn Nr .n .n fun _=>by kernel_rfl
def eX(x_:List UInt8×Int):Option ((Bool) ⊕ (Unit)):=
 match x_ with
 | (s_1,i)=>
 if decide (i < (s_1.length:Int))=true then
 if inR i s_1.length=true then
 lh (aY s_1 i) >>=fun r_1=>
 some (!r_1) >>=fun t27=>
 if(inR i s_1.length || (!t27))=true then
 (if t27=true then nG (aY s_1 i)else some false) >>=fun r_2=>
 if(bif t27 then(!r_2)else false)=true then
 some (.inl false)
 else
 eX (s_1,addI .i64 i 1)
 else none
 else none
 else
 some (.inr ())
  partial_fixpoint
theorem CZ :LC 116 0 [0] Bg eX:= .rc eX.partial_correctness (.k tF (.k DW .n)) .n fun _ _=>by kernel_rfl
def ii(s:List UInt8):Option (Bool):=
 some (bif decide (s=[])then true else decide (24 < (s.length:Int))) >>=fun t10=>
 if(inR 0 s.length || (!(!t10)))=true then
 (if(!t10)=true then lh (aY s 0)else some false) >>=fun r=>
 if(bif t10 then true else(!r))=true then
 some false
 else
 eX (s,0) >>=fun o=>
 match o with
 | .inl o_1=>
 some o_1
 | .inr o_2=>
 some true
 else none
theorem Ns :KC e116:= .m (by kernel_rfl)
theorem qh :FC e116 ii:= .fn Ns (.k tF .n) (.k CZ .n) fun _=>by kernel_rfl
def lE(x_:Int×Int):Option (Bool):=
 match x_ with
 | (before,n)=>
 some (bif bif decide (before < n)then decide (1<=n)else false then decide (n<=1000)else false)
theorem Nt :KC e155:= .m (by kernel_rfl)
theorem uf :FC e155 lE:= .fn Nt .n .n fun _=>by kernel_rfl
def dH(x_:List aC×Int×Int):Option ((Bool) ⊕ (List aC×Int)):=
 match x_ with
 | (l_4,i_2,k)=>
 if decide (k < i_2)=true then
 if inR k l_4.length=true then
 if inR i_2 l_4.length=true then
 if decide ((l_4.getD k.toNat aR).Name=(l_4.getD i_2.toNat aR).Name)=true then
 some (.inl false)
 else
 dH (l_4,i_2,addI .i64 k 1)
 else none
 else none
 else
 some (.inr (l_4,i_2))
  partial_fixpoint
theorem Cu :LC 117 0 [0,0] yF dH:= .rc dH.partial_correctness .n .n fun _ _=>by kernel_rfl
def eS(x_:List aC×Int×Int):Option ((Bool) ⊕ (List aC)):=
 match x_ with
 | (l_2,before,i)=>
 if decide (i < (l_2.length:Int))=true then
 if inR i l_2.length=true then
 lE (before,(l_2.getD i.toNat aR).ID) >>=fun r=>
 some (!r) >>=fun t19=>
 if(inR i l_2.length || (!(!t19)))=true then
 (if(!t19)=true then ii (l_2.getD i.toNat aR).Name else some false) >>=fun r_1=>
 if(bif t19 then true else(!r_1))=true then
 some (.inl false)
 else
 dH (l_2,i,0) >>=fun o_3=>
 match o_3 with
 | .inl o_4=>
 some (.inl o_4)
 | .inr o_5=>
 if inR o_5.2 o_5.1.length=true then
 eS (o_5.1,(o_5.1.getD o_5.2.toNat aR).ID,addI .i64 o_5.2 1)
 else none
 else none
 else none
 else
 some (.inr l_2)
  partial_fixpoint
theorem CQ :LC 117 0 [0] Bh eS:= .rc eS.partial_correctness (.k uf (.k qh .n)) (.k Cu .n) fun _ _=>by kernel_rfl
def lb(l:List aC):Option (Bool):=
 eS (l,0,0) >>=fun o=>
 match o with
 | .inl o_1=>
 some o_1
 | .inr o_2=>
 some (bif decide (1<=(o_2.length:Int))then decide ((o_2.length:Int)<=16)else false)
theorem Nu :KC e117:= .m (by kernel_rfl)
theorem Di :FC e117 lb:= .fn Nu .n (.k CQ .n) fun _=>by kernel_rfl
def dI(x_:List aj×Bool×Int×Int×aj):Option ((Bool) ⊕ (List aj×Bool×Int×aj)):=
 match x_ with
 | (l_4,record_4,i_2,k,b_1)=>
 if decide (k < i_2)=true then
 if inR k l_4.length=true then
 if decide ((l_4.getD k.toNat ap).Name=b_1.Name)=true then
 some (.inl false)
 else
 dI (l_4,record_4,i_2,addI .i64 k 1,(⟨b_1.ID,b_1.Name,b_1.Type_,b_1.Critical,b_1.HasDefault,ab.eta b_1.Default⟩:aj))
 else none
 else
 some (.inr (l_4,record_4,i_2,(⟨b_1.ID,b_1.Name,b_1.Type_,b_1.Critical,b_1.HasDefault,ab.eta b_1.Default⟩:aj)))
  partial_fixpoint
theorem Cv :LC 118 0 [0,0] yG dI:= .rc dI.partial_correctness .n .n fun _ _=>by kernel_rfl
def eT(x_:List aj×Bool×Int×Int):Option ((Bool) ⊕ (List aj×Bool)):=
 match x_ with
 | (l_2,record_2,before,i)=>
 if decide (i < (l_2.length:Int))=true then
 if inR i l_2.length=true then
 some (l_2.getD i.toNat ap) >>=fun x0=>
 lE (before,x0.ID) >>=fun r=>
 some (!r) >>=fun t23=>
 (if(!t23)=true then ii x0.Name else some false) >>=fun r_1=>
 if(bif bif bif t23 then true else(!r_1)then true else bif x0.Critical then x0.HasDefault else false then true else bif (!record_2)then bif x0.Critical then true else x0.HasDefault else false)=true then
 some (.inl false)
 else
 some (!x0.HasDefault) >>=fun t52=>
 (if t52=true then cP (ab.eta x0.Default,(⟨0,false,0,[],0,[],[],[]⟩:ab))else some false) >>=fun r_2=>
 if(bif t52 then(!r_2)else false)=true then
 some (.inl false)
 else
 dI (l_2,record_2,i,0,(⟨x0.ID,x0.Name,x0.Type_,x0.Critical,x0.HasDefault,ab.eta x0.Default⟩:aj)) >>=fun o_3=>
 match o_3 with
 | .inl o_4=>
 some (.inl o_4)
 | .inr o_5=>
 eT (o_5.1,o_5.2.1,o_5.2.2.2.ID,addI .i64 o_5.2.2.1 1)
 else none
 else
 some (.inr (l_2,record_2))
  partial_fixpoint
theorem CS :LC 118 0 [0] Bi eT:= .rc eT.partial_correctness (.k uf (.k qh (.k p9 .n))) (.k Cv .n) fun _ _=>by kernel_rfl
def jj(x_:List aj×Bool):Option (Bool):=
 match x_ with
 | (l,record)=>
 eT (l,record,0,0) >>=fun o=>
 match o with
 | .inl o_1=>
 some o_1
 | .inr o_2=>
 some (bif decide ((o_2.1.length:Int)<=16)then bif o_2.2 then true else decide (1<=(o_2.1.length:Int))else false)
theorem Nv :KC e118:= .m (by kernel_rfl)
theorem Dj :FC e118 jj:= .fn Nv .n (.k CS .n) fun _=>by kernel_rfl
def bF(t:ae):Option (Bool):=
 some (bif decide (t.Kind < 1)then true else decide (9 < t.Kind)) >>=fun t10=>
 (if(!t10)=true then dq t else some af) >>=fun r=>
 (if(!t10)=true then nx (t,r)else some false) >>=fun r_1=>
 some (bif t10 then true else(!r_1)) >>=fun t17=>
 (if(!t17)=true then ct t.Kind else some false) >>=fun r_2=>
 (if((!t17) && r_2)=true then ii t.Name else some false) >>=fun r_3=>
 if(bif t17 then true else bif r_2 then(!r_3)else false)=true then
 some false
 else
 if decide (t.Kind=2)=true then
 some (decide (t.Low<=t.High))
 else
 if decide (t.Kind=3)=true then
 some (bif decide (0<=t.Max)then decide (t.Max<=200)else false)
 else
 if decide (t.Kind=4)=true then
 lb t.Symbols >>=fun r_4=>
 some r_4
 else
 some (decide (t.Kind=5)) >>=fun t54=>
 if t54=true then
 if t54=true then
 jj (t.Members,decide (t.Kind=5)) >>=fun r_5=>
 some r_5
 else
 some (decide (t.Kind=7)) >>=fun t63=>
 if t63=true then
 if t63=true then
 some (bif decide (0<=t.Max)then decide (t.Max<=50)else false)
 else
 some true
 else
 if decide (t.Kind=8)=true then
 some (bif decide (0<=t.Max)then decide (t.Max<=50)else false)
 else
 some true
 else
 if decide (t.Kind=6)=true then
 jj (t.Members,decide (t.Kind=5)) >>=fun r_6=>
 some r_6
 else
 some (decide (t.Kind=7)) >>=fun t63_1=>
 if t63_1=true then
 if t63_1=true then
 some (bif decide (0<=t.Max)then decide (t.Max<=50)else false)
 else
 some true
 else
 if decide (t.Kind=8)=true then
 some (bif decide (0<=t.Max)then decide (t.Max<=50)else false)
 else
 some true
theorem e73_k :KC e73:= .m (by kernel_rfl)
theorem El :FC e73 bF:= .fn e73_k (.k DV (.k C9 (.k qk (.k qh (.k Di (.k Dj .n)))))) .n fun _=>by kernel_rfl
def gn(x_:Int×ae×List Int):Option (ae×List Int):=
 match x_ with
 | (i,b_2,b_3)=>
 if decide (i < (b_2.Members.length:Int))=true then
 if inR i b_2.Members.length=true then
 some [(b_2.Members.getD i.toNat ap).Type_] >>=fun t19=>
 if room 8 (b_3++t19).length=true then
 gn (addI .i64 i 1,b_2,b_3++t19)
 else none
 else none
 else
 some (b_2,b_3)
  partial_fixpoint
theorem Dk :LC 74 0 [0] e74_0 gn:= .rc gn.partial_correctness .n .n fun _ _=>by kernel_rfl
def nI(t:ae):Option (List Int):=
 gn (0,t,[]) >>=fun o=>
 if decide (o.1.Kind=8)=true then
 some [o.1.Key] >>=fun t27=>
 if room 8 (o.2++t27).length=true then
 some (o.2++t27) >>=fun l=>
 if(bif bif decide (o.1.Kind=7)then true else decide (o.1.Kind=8)then true else decide (o.1.Kind=9))=true then
 some [o.1.Elem] >>=fun t45=>
 if room 8 (l++t45).length=true then
 some (l++t45)
 else none
 else
 some l
 else none
 else
 if(bif bif decide (o.1.Kind=7)then true else decide (o.1.Kind=8)then true else decide (o.1.Kind=9))=true then
 some [o.1.Elem] >>=fun t45_1=>
 if room 8 (o.2++t45_1).length=true then
 some (o.2++t45_1)
 else none
 else
 some o.2
theorem e74_k :KC e74:= .m (by kernel_rfl)
theorem D7 :FC e74 nI:= .fn e74_k .n (.k Dk .n) fun _=>by kernel_rfl
def dM(x_:Int×Int×List ae×Int×List UInt8×Int×Int×Int×List aC×List aj×Int×Int×Bool):Option ((Int) ⊕ (Int×List ae×Int×List UInt8×Int×Int×Int×List aC×List aj×Int×Int×Bool)):=
 match x_ with
 | (i_3,k,b_23,b_24,b_25,b_26,b_27,b_28,b_29,b_30,b_31,b_32,b_33)=>
 if decide (k < i_3)=true then
 ct b_24 >>=fun r_3=>
 if(inR k b_23.length || (!r_3))=true then
 if(bif r_3 then decide ((b_23.getD k.toNat af).Name=b_25)else false)=true then
 some (.inl 1)
 else
 dM (i_3,addI .i64 k 1,b_23,b_24,b_25,b_26,b_27,b_28,b_29,b_30,b_31,b_32,b_33)
 else none
 else
 some (.inr (i_3,b_23,b_24,b_25,b_26,b_27,b_28,b_29,b_30,b_31,b_32,b_33))
  partial_fixpoint
theorem CU :LC 36 0 [0,0] zU dM:= .rc dM.partial_correctness (.k qk .n) .n fun _ _=>by kernel_rfl
def gg(x_:Int×List Int×Int×List ae×Int×List UInt8×Int×Int×Int×List aC×List aj×Int×Int×Bool):Option ((Int) ⊕ (Int×List ae×Int×List UInt8×Int×Int×Int×List aC×List aj×Int×Int×Bool)):=
 match x_ with
 | (i_4,l,k_1,b_34,b_35,b_36,b_37,b_38,b_39,b_40,b_41,b_42,b_43,b_44)=>
 if decide (k_1 < (l.length:Int))=true then
 if inR k_1 l.length=true then
 some (decide (l.getD k_1.toNat 0 < 0)) >>=fun t58=>
 if(inR k_1 l.length || (!(!t58)))=true then
 if(bif t58 then true else decide ((b_34.length:Int)<=l.getD k_1.toNat 0))=true then
 some (.inl 4)
 else
 gg (i_4,l,addI .i64 k_1 1,b_34,b_35,b_36,b_37,b_38,b_39,b_40,b_41,b_42,b_43,b_44)
 else none
 else none
 else
 some (.inr (i_4,b_34,b_35,b_36,b_37,b_38,b_39,b_40,b_41,b_42,b_43,b_44))
  partial_fixpoint
theorem CV :LC 36 0 [1,0] zV gg:= .rc gg.partial_correctness .n .n fun _ _=>by kernel_rfl
def eZ(x_:Int×List ae):Option ((Int) ⊕ (Unit)):=
 match x_ with
 | (i,b)=>
 if decide (i < (b.length:Int))=true then
 if inR i b.length=true then
 some (b.getD i.toNat af) >>=fun x0=>
 bF x0 >>=fun r=>
 if(!r)=true then
 some (.inl 1)
 else
 dM (i,0,b,x0.Kind,x0.Name,x0.Low,x0.High,x0.Max,x0.Symbols,x0.Members,x0.Key,x0.Elem,x0.Open) >>=fun o_3=>
 match o_3 with
 | .inl o_4=>
 some (.inl o_4)
 | .inr o_5=>
 nI (⟨o_5.2.2.1,o_5.2.2.2.1,o_5.2.2.2.2.1,o_5.2.2.2.2.2.1,o_5.2.2.2.2.2.2.1,o_5.2.2.2.2.2.2.2.1,o_5.2.2.2.2.2.2.2.2.1,o_5.2.2.2.2.2.2.2.2.2.1,o_5.2.2.2.2.2.2.2.2.2.2.1,o_5.2.2.2.2.2.2.2.2.2.2.2⟩:ae) >>=fun r_1=>
 gg (o_5.1,r_1,0,o_5.2.1,o_5.2.2.1,o_5.2.2.2.1,o_5.2.2.2.2.1,o_5.2.2.2.2.2.1,o_5.2.2.2.2.2.2.1,o_5.2.2.2.2.2.2.2.1,o_5.2.2.2.2.2.2.2.2.1,o_5.2.2.2.2.2.2.2.2.2.1,o_5.2.2.2.2.2.2.2.2.2.2.1,o_5.2.2.2.2.2.2.2.2.2.2.2) >>=fun o_6=>
 match o_6 with
 | .inl o_7=>
 some (.inl o_7)
 | .inr o_8=>
 some (decide (o_8.2.2.1=8)) >>=fun t71=>
 if(inR o_8.2.2.2.2.2.2.2.2.2.1 o_8.2.1.length || (!t71))=true then
 (if t71=true then kX (o_8.2.1.getD o_8.2.2.2.2.2.2.2.2.2.1.toNat af).Kind else some false) >>=fun r_2=>
 if(bif t71 then(!r_2)else false)=true then
 some (.inl 1)
 else
 eZ (addI .i64 o_8.1 1,o_8.2.1)
 else none
 else none
 else
 some (.inr ())
  partial_fixpoint
theorem Da :LC 36 0 [0] e36_0 eZ:= .rc eZ.partial_correctness (.k El (.k D7 (.k tD .n))) (.k CU (.k CV .n)) fun _ _=>by kernel_rfl
def im(s:av):Option (Int):=
 if decide (32 < (s.Types.length:Int))=true then
 some 3
 else
 eZ (0,s.Types) >>=fun o=>
 match o with
 | .inl o_1=>
 some o_1
 | .inr o_2=>
 some 0
theorem e36_k :KC e36:= .m (by kernel_rfl)
theorem DX :FC e36 im:= .fn e36_k .n (.k Da .n) fun _=>by kernel_rfl
def bX(x_:List Int×Int):Option (aK):=
 match x_ with
 | (path,reason)=>
 if room 8 ([]++path).length=true then
 some (⟨(⟨0,false,0,[],0,[],[],[]⟩:ab),(⟨[]++path,reason⟩:cz),false⟩:aK)
 else none
def eU(x_:List UInt8×Int×Int):Option (Int):=
 match x_ with
 | (s_1,n_1,i)=>
 if decide (i < (s_1.length:Int))=true then
 if inR i s_1.length=true then
 eU (s_1,addI .u64 (mulI .u64 n_1 256) (wrp .u64 (aY s_1 i)),addI .i64 i 1)
 else none
 else
 some n_1
  partial_fixpoint
theorem CW :LC 119 0 [0] Bj eU:= .rc eU.partial_correctness .n .n fun _ _=>by kernel_rfl
def jk(s:List UInt8):Option (Int×Int):=
 some (decide (0 < (s.length:Int))) >>=fun t8=>
 if(inR 0 s.length || (!t8))=true then
 if(bif t8 then decide (aY s 0=0)else false)=true then
 some (0,2)
 else
 if decide (8 < (s.length:Int))=true then
 some (0,7)
 else
 eU (s,0,0) >>=fun o=>
 some (o,0)
 else none
theorem Nw :KC e119:= .m (by kernel_rfl)
theorem Dl :FC e119 jk:= .fn Nw .n (.k CW .n) fun _=>by kernel_rfl
def tO(p:List UInt8):Option (Int×Bool):=
 jk p >>=fun r=>
 some (r.1,decide (r.2=0))
def ji(n:Int):Option (Int):=
 if decide (remI n 2=0)=true then
 some (wrp .i64 (quoI .u64 n 2))
 else
 some (subI .i64 (subI .i64 0 (wrp .i64 (quoI .u64 n 2))) 1)
theorem Nx :KC e120:= .m (by kernel_rfl)
theorem Db :FC e120 ji:= .fn Nx .n .n fun _=>by kernel_rfl
def dP(x_:Int×Int×ae):Option ((Int×Bool) ⊕ (Unit)):=
 match x_ with
 | (id_1,i,b)=>
 if decide (i < (b.Symbols.length:Int))=true then
 if inR i b.Symbols.length=true then
 if decide ((b.Symbols.getD i.toNat aR).ID=id_1)=true then
 some (.inl (i,true))
 else
 dP (id_1,addI .i64 i 1,b)
 else none
 else
 some (.inr ())
  partial_fixpoint
theorem C0 :LC 92 0 [0] e92_0 dP:= .rc dP.partial_correctness .n .n fun _ _=>by kernel_rfl
def jo(x_:ae×Int):Option (Int×Bool):=
 match x_ with
 | (t,id)=>
 dP (id,0,t) >>=fun o=>
 match o with
 | .inl o_1=>
 some (o_1.1,o_1.2)
 | .inr o_2=>
 some (0,false)
theorem e92_k :KC e92:= .m (by kernel_rfl)
theorem Du :FC e92 jo:= .fn e92_k .n (.k C0 .n) fun _=>by kernel_rfl
def dr(x_:List Int×Int):Option (List Int):=
 match x_ with
 | (path,step)=>
 if room 8 ([]++path).length=true then
 some ([]++path) >>=fun l=>
 some [step] >>=fun t9=>
 if room 8 (l++t9).length=true then
 some (l++t9)
 else none
 else none
def ij(x_:List UInt8×Int×Int×Int):Option ((Int×Int×Int) ⊕ (Unit)):=
 match x_ with
 | (s_1,n,unit,i)=>
 if decide (i < 10)=true then
 if decide (i=(s_1.length:Int))=true then
 some (.inl (0,0,10))
 else
 if inR i s_1.length=true then
 some (wrp .u64 (aY s_1 i)) >>=fun t20=>
 if(bif decide (i=9)then decide (1 < t20)else false)=true then
 some (.inl (0,0,7))
 else
 some (addI .u64 n (mulI .u64 (remI t20 128) unit)) >>=fun t32=>
 if decide (t20 < 128)=true then
 if(bif decide (t20=0)then decide (0 < i)else false)=true then
 some (.inl (0,0,2))
 else
 some (.inl (t32,addI .i64 i 1,0))
 else
 ij (s_1,t32,mulI .u64 unit 128,addI .i64 i 1)
 else none
 else
 some (.inr ())
  partial_fixpoint
theorem Dv :LC 156 0 [0] Bl ij:= .rc ij.partial_correctness .n .n fun _ _=>by kernel_rfl
def jx(s:List UInt8):Option (Int×Int×Int):=
 ij (s,0,1,0) >>=fun o=>
 match o with
 | .inl o_1=>
 some (o_1.1,o_1.2.1,o_1.2.2)
 | .inr o_2=>
 some (0,0,7)
theorem Ny :KC e156:= .m (by kernel_rfl)
theorem qt :FC e156 jx:= .fn Ny .n (.k Dv .n) fun _=>by kernel_rfl
def jy(payload:List UInt8):Option (Int×List UInt8×Int):=
 jx payload >>=fun r=>
 if(bif bif (!(decide (r.2.2=0)))then true else decide (r.1 < 1)then true else decide (1000 < r.1))=true then
 some (0,[],12)
 else
 if slR r.2.1 (payload.length:Int) payload.length=true then
 some (wrp .i64 r.1,cutL payload r.2.1 (payload.length:Int),0)
 else none
theorem Nz :KC e121:= .m (by kernel_rfl)
theorem Em :FC e121 jy:= .fn Nz (.k qt .n) .n fun _=>by kernel_rfl
def eY(x_:Int×Int×ae):Option ((Int×Bool) ⊕ (Unit)):=
 match x_ with
 | (id_1,i,b)=>
 if decide (i < (b.Members.length:Int))=true then
 if inR i b.Members.length=true then
 if decide ((b.Members.getD i.toNat ap).ID=id_1)=true then
 some (.inl (i,true))
 else
 eY (id_1,addI .i64 i 1,b)
 else none
 else
 some (.inr ())
  partial_fixpoint
theorem C3 :LC 91 0 [0] e91_0 eY:= .rc eY.partial_correctness .n .n fun _ _=>by kernel_rfl
def cj(x_:ae×Int):Option (Int×Bool):=
 match x_ with
 | (t,id)=>
 eY (id,0,t) >>=fun o=>
 match o with
 | .inl o_1=>
 some (o_1.1,o_1.2)
 | .inr o_2=>
 some (0,false)
theorem e91_k :KC e91:= .m (by kernel_rfl)
theorem nA :FC e91 cj:= .fn e91_k .n (.k C3 .n) fun _=>by kernel_rfl
def fl(v:ab):Option (aK):=
 some (⟨ab.eta v,(⟨[],0⟩:cz),true⟩:aK)
def ly(s:List UInt8):Option (List UInt8×List UInt8×Bool):=
 jx s >>=fun r=>
 if(bif (!(decide (r.2.2=0)))then true else decide (wrp .u64 (subI .i64 (s.length:Int) r.2.1) < r.1))=true then
 some ([],[],false)
 else
 some (addI .i64 r.2.1 (wrp .i64 r.1)) >>=fun t30=>
 if slR r.2.1 t30 s.length=true then
 some (addI .i64 r.2.1 (wrp .i64 r.1)) >>=fun t36=>
 if slR t36 (s.length:Int) s.length=true then
 some (cutL s r.2.1 t30,cutL s t36 (s.length:Int),true)
 else none
 else none
theorem NA :KC e157:= .m (by kernel_rfl)
theorem tX :FC e157 ly:= .fn NA (.k qt .n) .n fun _=>by kernel_rfl
def g8(x_:List UInt8×List (List UInt8)):Option ((Int) ⊕ (List (List UInt8))):=
 match x_ with
 | (payload_1,b_1)=>
 if(!(decide (payload_1=[])))=true then
 ly payload_1 >>=fun r=>
 if(!r.2.2)=true then
 some (.inl 12)
 else
 some [r.1] >>=fun t20=>
 if room 16 (b_1++t20).length=true then
 g8 (r.2.1,b_1++t20)
 else none
 else
 some (.inr b_1)
  partial_fixpoint
theorem Dc :LC 122 0 [0] Bm g8:= .rc g8.partial_correctness (.k tX .n) .n fun _ _=>by kernel_rfl
def gr(payload:List UInt8):Option (List (List UInt8)×Int):=
 g8 (payload,[]) >>=fun o=>
 match o with
 | .inl o_1=>
 some ([],o_1)
 | .inr o_2=>
 some (o_2,0)
theorem NB :KC e122:= .m (by kernel_rfl)
theorem DY :FC e122 gr:= .fn NB .n (.k Dc .n) fun _=>by kernel_rfl
def jp(n:Int):Option (Int):=
 if decide (0<=n)=true then
 some (mulI .u64 2 (wrp .u64 n))
 else
 some (addI .u64 (mulI .u64 2 (wrp .u64 (subI .i64 0 (addI .i64 n 1)))) 1)
theorem e99_k :KC e99:= .m (by kernel_rfl)
theorem Dw :FC e99 jp:= .fn e99_k .n .n fun _=>by kernel_rfl
def ce(x_:Bool×Bool):Option (Int):=
 match x_ with
 | (less,equal)=>
 if equal=true then
 some 0
 else
 if less=true then
 some (-1)
 else
 some 1
def gp(x_:ab×ab):Option (Int):=
 match x_ with
 | (a,b)=>
 if(!(decide (a.Kind=b.Kind)))=true then
 some 0
 else
 if decide (a.Kind=1)=true then
 ce (b.Bool_,eqB a.Bool_ b.Bool_) >>=fun r=>
 some r
 else
 if decide (a.Kind=2)=true then
 jp a.Int_ >>=fun r_1=>
 jp b.Int_ >>=fun r_2=>
 ce (decide (r_1 < r_2),decide (a.Int_=b.Int_)) >>=fun r_3=>
 some r_3
 else
 if decide (a.Kind=3)=true then
 if(!(decide ((a.Str.length:Int)=(b.Str.length:Int))))=true then
 ce (decide ((a.Str.length:Int) < (b.Str.length:Int)),false) >>=fun r_4=>
 some r_4
 else
 ce (Op.bytesLess a.Str b.Str,decide (a.Str=b.Str)) >>=fun r_5=>
 some r_5
 else
 if decide (a.Kind=4)=true then
 ce (decide (a.ID < b.ID),decide (a.ID=b.ID)) >>=fun r_6=>
 some r_6
 else
 some 0
def tw(x_:Int×List Int×List (List UInt8)×Int×List ae×ae×Int×Bool×Int×List UInt8×Int×Int×Bool×Int×Bool×Int×List UInt8×Int×List ab):Option ((aK) ⊕ (Int×List Int×List (List UInt8)×List ae×ae×Int×Bool×Int×List UInt8×Int×Int×Bool×Int×Bool×Int×List UInt8×Int×List ab)):=
 match x_ with
 | (level_4,path_4,l_4,i_1,b_62,b_63,b_64,b_65,b_66,b_67,b_68,b_69,b_70,b_71,b_72,b_73,b_74,b_75,b_76)=>
 if decide (i_1 < (b_76.length:Int))=true then
 some (subI .i64 i_1 1) >>=fun t87=>
 if inR t87 b_76.length=true then
 if decide (t87.toNat < b_76.length)=true then
 if inR i_1 b_76.length=true then
 if decide (i_1.toNat < b_76.length)=true then
 gp (ab.eta (b_76.getD t87.toNat ag),ab.eta (b_76.getD i_1.toNat ag)) >>=fun r_8=>
 if decide (0<=r_8)=true then
 bX (path_4,1) >>=fun r_9=>
 some (.inl (⟨ab.eta r_9.Value,r_9.Failure,r_9.OK⟩:aK))
 else
 tw (level_4,path_4,l_4,addI .i64 i_1 1,b_62,b_63,b_64,b_65,b_66,b_67,b_68,b_69,b_70,b_71,b_72,b_73,b_74,b_75,b_76)
 else none
 else none
 else none
 else none
 else
 some (.inr (level_4,path_4,l_4,b_62,b_63,b_64,b_65,b_66,b_67,b_68,b_69,b_70,b_71,b_72,b_73,b_74,b_75,b_76))
  partial_fixpoint
def gh(x_:List UInt8×Int×List aF):Option ((Int) ⊕ (List aF)):=
 match x_ with
 | (payload_1,before,b_1)=>
 if(!(decide (payload_1=[])))=true then
 jx payload_1 >>=fun r=>
 if(bif bif (!(decide (r.2.2=0)))then true else decide (2001 < r.1)then true else decide (wrp .i64 (quoI .u64 r.1 2)<=before))=true then
 some (.inl 12)
 else
 if slR r.2.1 (payload_1.length:Int) payload_1.length=true then
 ly (cutL payload_1 r.2.1 (payload_1.length:Int)) >>=fun r_4=>
 if(!r_4.2.2)=true then
 some (.inl 12)
 else
 some (wrp .i64 (quoI .u64 r.1 2)) >>=fun t45=>
 some [(⟨t45,decide (remI r.1 2=1),r_4.1⟩:aF)] >>=fun t54=>
 if room 32 (b_1++t54).length=true then
 gh (r_4.2.1,t45,b_1++t54)
 else none
 else none
 else
 some (.inr b_1)
  partial_fixpoint
theorem C4 :LC 124 0 [0] Bn gh:= .rc gh.partial_correctness (.k qt (.k tX .n)) .n fun _ _=>by kernel_rfl
def jq(payload:List UInt8):Option (List aF×Int):=
 gh (payload,0,[]) >>=fun o=>
 match o with
 | .inl o_1=>
 some ([],o_1)
 | .inr o_2=>
 some (o_2,0)
theorem NC :KC e124:= .m (by kernel_rfl)
theorem Dx :FC e124 jq:= .fn NC .n (.k C4 .n) fun _=>by kernel_rfl
def tG(x_:List aF×Int×Int):Option ((Int) ⊕ (Unit)):=
 match x_ with
 | (l_1,id_1,i)=>
 if decide (i < (l_1.length:Int))=true then
 if inR i l_1.length=true then
 if decide ((l_1.getD i.toNat aN).ID=id_1)=true then
 some (.inl i)
 else
 tG (l_1,id_1,addI .i64 i 1)
 else none
 else
 some (.inr ())
  partial_fixpoint
def En(x_:List aF×Int):Option (Int):=
 match x_ with
 | (l,id)=>
 tG (l,id,0) >>=fun o=>
 match o with
 | .inl o_1=>
 some o_1
 | .inr o_2=>
 some (-1)
def qe(x_:List Int×List aF×Int×ae×Int×Bool×Int×List UInt8×Int×Int×Bool×Int×Bool×Int×List UInt8×Int×List ab×List aH):Option ((aK) ⊕ (Int×Bool×Int×List UInt8×Int×Int×Bool×Int×Bool×Int×List UInt8×Int×List ab×List aH)):=
 match x_ with
 | (path_3,l_4,k,b_45,b_46,b_47,b_48,b_49,b_50,b_51,b_52,b_53,b_54,b_55,b_56,b_57,b_58,b_59)=>
 if decide (k < (l_4.length:Int))=true then
 if inR k l_4.length=true then
 cj (b_45,(l_4.getD k.toNat aN).ID) >>=fun r_10=>
 if r_10.2=true then
 qe (path_3,l_4,addI .i64 k 1,b_45,b_46,b_47,b_48,b_49,b_50,b_51,b_52,b_53,b_54,b_55,b_56,b_57,b_58,b_59)
 else
 if inR k l_4.length=true then
 if(l_4.getD k.toNat aN).Critical=true then
 if inR k l_4.length=true then
 dr (path_3,(l_4.getD k.toNat aN).ID) >>=fun r_13=>
 bX (r_13,6) >>=fun r_14=>
 some (.inl (⟨ab.eta r_14.Value,r_14.Failure,r_14.OK⟩:aK))
 else none
 else
 if inR k l_4.length=true then
 if inR k l_4.length=true then
 some [(⟨(l_4.getD k.toNat aN).ID,(l_4.getD k.toNat aN).Data⟩:aH)] >>=fun t135=>
 if room 24 (b_59++t135).length=true then
 qe (path_3,l_4,addI .i64 k 1,b_45,b_46,b_47,b_48,b_49,b_50,b_51,b_52,b_53,b_54,b_55,b_56,b_57,b_58,b_59++t135)
 else none
 else none
 else none
 else none
 else none
 else
 some (.inr (b_46,b_47,b_48,b_49,b_50,b_51,b_52,b_53,b_54,b_55,b_56,b_57,b_58,b_59))
  partial_fixpoint
mutual
def fe(x_:av×Int×List UInt8×Int×List Int):Option (aK):=
 match x_ with
 | (s,t,p,level,path)=>
 if inR t s.Types.length=true then
 some (s.Types.getD t.toNat af) >>=fun x0=>
 if decide (200 < level)=true then
 bX (path,8) >>=fun r=>
 some (⟨ab.eta r.Value,r.Failure,r.OK⟩:aK)
 else
 let k_31:=fun z31_0=>
 let k_30:=fun z30_0=>
 let k_29:=fun z29_0=>
 let k_28:=fun z28_0=>
 let k_27:=fun z27_0=>
 if decide (x0.Kind=6)=true then
 Eo (s,x0,p,level,path) >>=fun r_285=>
 some (⟨ab.eta r_285.Value,r_285.Failure,r_285.OK⟩:aK)
 else
 if decide (x0.Kind=7)=true then
 EB (s,x0,p,level,path) >>=fun r_286=>
 some (⟨ab.eta r_286.Value,r_286.Failure,r_286.OK⟩:aK)
 else
 if decide (x0.Kind=8)=true then
 Dd (s,x0,p,level,path) >>=fun r_287=>
 some (⟨ab.eta r_287.Value,r_287.Failure,r_287.OK⟩:aK)
 else
 if decide (x0.Kind=5)=true then
 D8 (s,x0,p,level,path) >>=fun r_288=>
 some (⟨ab.eta r_288.Value,r_288.Failure,r_288.OK⟩:aK)
 else
 fl (⟨x0.Kind,z31_0,z30_0,z29_0,z28_0,[],z27_0,[]⟩:ab) >>=fun r_289=>
 some (⟨ab.eta r_289.Value,r_289.Failure,r_289.OK⟩:aK)
 if(bif decide (x0.Kind=9)then(!(decide (p=[])))else false)=true then
 if inR 0 p.length=true then
 if(!(decide (aY p 0=1)))=true then
 bX (path,1) >>=fun r_277=>
 some (⟨ab.eta r_277.Value,r_277.Failure,r_277.OK⟩:aK)
 else
 if slR 1 (p.length:Int) p.length=true then
 dr (path,0) >>=fun r_278=>
 fe (s,x0.Elem,cutL p 1 (p.length:Int),addI .i64 level 1,r_278) >>=fun r_279=>
 if(!r_279.OK)=true then
 some (⟨ab.eta r_279.Value,r_279.Failure,r_279.OK⟩:aK)
 else
 k_27 [ab.eta r_279.Value]
 else none
 else none
 else
 k_27 []
 if decide (x0.Kind=4)=true then
 tO p >>=fun r_256=>
 if(bif bif (!r_256.2)then true else decide (r_256.1 < 1)then true else decide (1000 < r_256.1))=true then
 bX (path,1) >>=fun r_259=>
 some (⟨ab.eta r_259.Value,r_259.Failure,r_259.OK⟩:aK)
 else
 some (wrp .i64 r_256.1) >>=fun t108_7=>
 jo (x0,t108_7) >>=fun r_260=>
 if(bif (!r_260.2)then(!x0.Open)else false)=true then
 bX (path,4) >>=fun r_263=>
 some (⟨ab.eta r_263.Value,r_263.Failure,r_263.OK⟩:aK)
 else
 k_28 t108_7
 else
 k_28 0
 if decide (x0.Kind=3)=true then
 if decide (x0.Max < (p.length:Int))=true then
 bX (path,3) >>=fun r_221=>
 some (⟨ab.eta r_221.Value,r_221.Failure,r_221.OK⟩:aK)
 else
 k_29 p
 else
 k_29 []
 if decide (x0.Kind=2)=true then
 tO p >>=fun r_146=>
 if(!r_146.2)=true then
 bX (path,1) >>=fun r_149=>
 some (⟨ab.eta r_149.Value,r_149.Failure,r_149.OK⟩:aK)
 else
 ji r_146.1 >>=fun r_150=>
 if(bif decide (r_150 < x0.Low)then true else decide (x0.High < r_150))=true then
 bX (path,2) >>=fun r_151=>
 some (⟨ab.eta r_151.Value,r_151.Failure,r_151.OK⟩:aK)
 else
 k_30 r_150
 else
 k_30 0
 if decide (x0.Kind=1)=true then
 if(bif (!(decide (p=[])))then(!(decide (p=[1])))else false)=true then
 bX (path,1) >>=fun r_1=>
 some (⟨ab.eta r_1.Value,r_1.Failure,r_1.OK⟩:aK)
 else
 some (!(decide (p=[]))) >>=fun t44=>
 k_31 t44
 else
 k_31 false
 else none
  partial_fixpoint
def Dd(x_:av×ae×List UInt8×Int×List Int):Option (aK):=
 match x_ with
 | (s,x0,p,level,path)=>
 gr p >>=fun r=>
 if(bif (!(decide (r.2=0)))then true else decide (remI (r.1.length:Int) 2=1))=true then
 bX (path,1) >>=fun r_3=>
 some (⟨ab.eta r_3.Value,r_3.Failure,r_3.OK⟩:aK)
 else
 if decide (x0.Max < quoI .i64 (r.1.length:Int) 2)=true then
 bX (path,3) >>=fun r_4=>
 some (⟨ab.eta r_4.Value,r_4.Failure,r_4.OK⟩:aK)
 else
 tx (level,path,r.1,0,s.Types,x0,0,false,0,[],0,0,false,x0.Kind,false,0,[],0,[]) >>=fun o=>
 match o with
 | .inl o_1=>
 some (⟨ab.eta o_1.Value,o_1.Failure,o_1.OK⟩:aK)
 | .inr o_2=>
 tw (o_2.1,o_2.2.1,o_2.2.2.1,1,o_2.2.2.2.1,o_2.2.2.2.2.1,o_2.2.2.2.2.2.1,o_2.2.2.2.2.2.2.1,o_2.2.2.2.2.2.2.2.1,o_2.2.2.2.2.2.2.2.2.1,o_2.2.2.2.2.2.2.2.2.2.1,o_2.2.2.2.2.2.2.2.2.2.2.1,o_2.2.2.2.2.2.2.2.2.2.2.2.1,o_2.2.2.2.2.2.2.2.2.2.2.2.2.1,o_2.2.2.2.2.2.2.2.2.2.2.2.2.2.1,o_2.2.2.2.2.2.2.2.2.2.2.2.2.2.2.1,o_2.2.2.2.2.2.2.2.2.2.2.2.2.2.2.2.1,o_2.2.2.2.2.2.2.2.2.2.2.2.2.2.2.2.2.1,o_2.2.2.2.2.2.2.2.2.2.2.2.2.2.2.2.2.2) >>=fun o_3=>
 match o_3 with
 | .inl o_4=>
 some (⟨ab.eta o_4.Value,o_4.Failure,o_4.OK⟩:aK)
 | .inr o_5=>
 tz (o_5.1,o_5.2.1,o_5.2.2.1,0,o_5.2.2.2.1,o_5.2.2.2.2.1,o_5.2.2.2.2.2.1,o_5.2.2.2.2.2.2.1,o_5.2.2.2.2.2.2.2.1,o_5.2.2.2.2.2.2.2.2.1,o_5.2.2.2.2.2.2.2.2.2.1,o_5.2.2.2.2.2.2.2.2.2.2.1,o_5.2.2.2.2.2.2.2.2.2.2.2.1,o_5.2.2.2.2.2.2.2.2.2.2.2.2.1,o_5.2.2.2.2.2.2.2.2.2.2.2.2.2.1,o_5.2.2.2.2.2.2.2.2.2.2.2.2.2.2.1,o_5.2.2.2.2.2.2.2.2.2.2.2.2.2.2.2.1,o_5.2.2.2.2.2.2.2.2.2.2.2.2.2.2.2.2.1,o_5.2.2.2.2.2.2.2.2.2.2.2.2.2.2.2.2.2,[]) >>=fun o_6=>
 match o_6 with
 | .inl o_7=>
 some (⟨ab.eta o_7.Value,o_7.Failure,o_7.OK⟩:aK)
 | .inr o_8=>
 fl (⟨o_8.2.2.2.2.2.2.2.1,o_8.2.2.2.2.2.2.2.2.1,o_8.2.2.2.2.2.2.2.2.2.1,o_8.2.2.2.2.2.2.2.2.2.2.1,o_8.2.2.2.2.2.2.2.2.2.2.2.1,o_8.2.2.2.2.2.2.2.2.2.2.2.2.1,o_8.2.2.2.2.2.2.2.2.2.2.2.2.2,[]⟩:ab) >>=fun r_5=>
 some (⟨ab.eta r_5.Value,r_5.Failure,r_5.OK⟩:aK)
  partial_fixpoint
def EB(x_:av×ae×List UInt8×Int×List Int):Option (aK):=
 match x_ with
 | (s,x0,p,level,path)=>
 gr p >>=fun r=>
 if(!(decide (r.2=0)))=true then
 bX (path,1) >>=fun r_3=>
 some (⟨ab.eta r_3.Value,r_3.Failure,r_3.OK⟩:aK)
 else
 if decide (x0.Max < (r.1.length:Int))=true then
 bX (path,3) >>=fun r_4=>
 some (⟨ab.eta r_4.Value,r_4.Failure,r_4.OK⟩:aK)
 else
 tH (level,path,r.1,0,s.Types,x0,0,false,0,[],0,0,false,x0.Kind,false,0,[],0,[]) >>=fun o=>
 match o with
 | .inl o_1=>
 some (⟨ab.eta o_1.Value,o_1.Failure,o_1.OK⟩:aK)
 | .inr o_2=>
 fl (⟨o_2.2.2.2.2.2.2.2.1,o_2.2.2.2.2.2.2.2.2.1,o_2.2.2.2.2.2.2.2.2.2.1,o_2.2.2.2.2.2.2.2.2.2.2.1,o_2.2.2.2.2.2.2.2.2.2.2.2.1,[],o_2.2.2.2.2.2.2.2.2.2.2.2.2,[]⟩:ab) >>=fun r_5=>
 some (⟨ab.eta r_5.Value,r_5.Failure,r_5.OK⟩:aK)
  partial_fixpoint
def D8(x_:av×ae×List UInt8×Int×List Int):Option (aK):=
 match x_ with
 | (s,x0,p,level,path)=>
 jq p >>=fun r=>
 if(!(decide (r.2=0)))=true then
 bX (path,1) >>=fun r_3=>
 some (⟨ab.eta r_3.Value,r_3.Failure,r_3.OK⟩:aK)
 else
 qg (level,path,r.1,0,s.Types,x0,0,false,0,[],0,0,false,x0.Kind,false,0,[],0,[]) >>=fun o=>
 match o with
 | .inl o_1=>
 some (⟨ab.eta o_1.Value,o_1.Failure,o_1.OK⟩:aK)
 | .inr o_2=>
 qe (o_2.1,o_2.2.1,0,o_2.2.2.1,o_2.2.2.2.1,o_2.2.2.2.2.1,o_2.2.2.2.2.2.1,o_2.2.2.2.2.2.2.1,o_2.2.2.2.2.2.2.2.1,o_2.2.2.2.2.2.2.2.2.1,o_2.2.2.2.2.2.2.2.2.2.1,o_2.2.2.2.2.2.2.2.2.2.2.1,o_2.2.2.2.2.2.2.2.2.2.2.2.1,o_2.2.2.2.2.2.2.2.2.2.2.2.2.1,o_2.2.2.2.2.2.2.2.2.2.2.2.2.2.1,o_2.2.2.2.2.2.2.2.2.2.2.2.2.2.2.1,o_2.2.2.2.2.2.2.2.2.2.2.2.2.2.2.2,[]) >>=fun o_3=>
 match o_3 with
 | .inl o_4=>
 some (⟨ab.eta o_4.Value,o_4.Failure,o_4.OK⟩:aK)
 | .inr o_5=>
 fl (⟨o_5.2.2.2.2.2.2.2.1,o_5.2.2.2.2.2.2.2.2.1,o_5.2.2.2.2.2.2.2.2.2.1,o_5.2.2.2.2.2.2.2.2.2.2.1,o_5.2.2.2.2.2.2.2.2.2.2.2.1,[],o_5.2.2.2.2.2.2.2.2.2.2.2.2.1,o_5.2.2.2.2.2.2.2.2.2.2.2.2.2⟩:ab) >>=fun r_4=>
 some (⟨ab.eta r_4.Value,r_4.Failure,r_4.OK⟩:aK)
  partial_fixpoint
def Eo(x_:av×ae×List UInt8×Int×List Int):Option (aK):=
 match x_ with
 | (s,x0,p,level,path)=>
 jy p >>=fun r=>
 if(!(decide (r.2.2=0)))=true then
 bX (path,1) >>=fun r_4=>
 some (⟨ab.eta r_4.Value,r_4.Failure,r_4.OK⟩:aK)
 else
 cj (x0,r.1) >>=fun r_5=>
 if(bif (!r_5.2)then(!x0.Open)else false)=true then
 bX (path,5) >>=fun r_8=>
 some (⟨ab.eta r_8.Value,r_8.Failure,r_8.OK⟩:aK)
 else
 if(!r_5.2)=true then
 fl (⟨x0.Kind,false,0,[],r.1,[],[],[(⟨r.1,r.2.1⟩:aH)]⟩:ab) >>=fun r_9=>
 some (⟨ab.eta r_9.Value,r_9.Failure,r_9.OK⟩:aK)
 else
 if inR r_5.1 x0.Members.length=true then
 dr (path,r.1) >>=fun r_10=>
 fe (s,(x0.Members.getD r_5.1.toNat ap).Type_,r.2.1,addI .i64 level 1,r_10) >>=fun r_11=>
 if(!r_11.OK)=true then
 some (⟨ab.eta r_11.Value,r_11.Failure,r_11.OK⟩:aK)
 else
 fl (⟨x0.Kind,false,0,[],r.1,[],[ab.eta r_11.Value],[]⟩:ab) >>=fun r_12=>
 some (⟨ab.eta r_12.Value,r_12.Failure,r_12.OK⟩:aK)
 else none
  partial_fixpoint
def tx(x_:Int×List Int×List (List UInt8)×Int×List ae×ae×Int×Bool×Int×List UInt8×Int×Int×Bool×Int×Bool×Int×List UInt8×Int×List ab):Option ((aK) ⊕ (Int×List Int×List (List UInt8)×List ae×ae×Int×Bool×Int×List UInt8×Int×Int×Bool×Int×Bool×Int×List UInt8×Int×List ab)):=
 match x_ with
 | (level_3,path_3,l_2,i,b_47,b_48,b_49,b_50,b_51,b_52,b_53,b_54,b_55,b_56,b_57,b_58,b_59,b_60,b_61)=>
 if decide (mulI .i64 2 i < (l_2.length:Int))=true then
 some (mulI .i64 2 i) >>=fun t57=>
 if inR t57 l_2.length=true then
 dr (path_3,i) >>=fun r_6=>
 fe ((⟨b_47⟩:av),b_48.Key,l_2.getD t57.toNat [],addI .i64 level_3 1,r_6) >>=fun r_7=>
 if(!r_7.OK)=true then
 some (.inl (⟨ab.eta r_7.Value,r_7.Failure,r_7.OK⟩:aK))
 else
 some [ab.eta r_7.Value] >>=fun t74=>
 if room 120 (b_61++t74).length=true then
 tx (level_3,path_3,l_2,addI .i64 i 1,b_47,b_48,b_49,b_50,b_51,b_52,b_53,b_54,b_55,b_56,b_57,b_58,b_59,b_60,b_61++t74)
 else none
 else none
 else
 some (.inr (level_3,path_3,l_2,b_47,b_48,b_49,b_50,b_51,b_52,b_53,b_54,b_55,b_56,b_57,b_58,b_59,b_60,b_61))
  partial_fixpoint
def tz(x_:Int×List Int×List (List UInt8)×Int×List ae×ae×Int×Bool×Int×List UInt8×Int×Int×Bool×Int×Bool×Int×List UInt8×Int×List ab×List ab):Option ((aK) ⊕ (Int×Bool×Int×List UInt8×Int×Int×Bool×Int×Bool×Int×List UInt8×Int×List ab×List ab)):=
 match x_ with
 | (level_5,path_5,l_5,i_2,b_77,b_78,b_79,b_80,b_81,b_82,b_83,b_84,b_85,b_86,b_87,b_88,b_89,b_90,b_91,b_92)=>
 if decide (mulI .i64 2 i_2 < (l_5.length:Int))=true then
 some (addI .i64 (mulI .i64 2 i_2) 1) >>=fun t112=>
 if inR t112 l_5.length=true then
 dr (path_5,i_2) >>=fun r_10=>
 fe ((⟨b_77⟩:av),b_78.Elem,l_5.getD t112.toNat [],addI .i64 level_5 1,r_10) >>=fun r_11=>
 if(!r_11.OK)=true then
 some (.inl (⟨ab.eta r_11.Value,r_11.Failure,r_11.OK⟩:aK))
 else
 some [ab.eta r_11.Value] >>=fun t129=>
 if room 120 (b_92++t129).length=true then
 tz (level_5,path_5,l_5,addI .i64 i_2 1,b_77,b_78,b_79,b_80,b_81,b_82,b_83,b_84,b_85,b_86,b_87,b_88,b_89,b_90,b_91,b_92++t129)
 else none
 else none
 else
 some (.inr (b_79,b_80,b_81,b_82,b_83,b_84,b_85,b_86,b_87,b_88,b_89,b_90,b_91,b_92))
  partial_fixpoint
def tH(x_:Int×List Int×List (List UInt8)×Int×List ae×ae×Int×Bool×Int×List UInt8×Int×Int×Bool×Int×Bool×Int×List UInt8×Int×List ab):Option ((aK) ⊕ (Int×Bool×Int×List UInt8×Int×Int×Bool×Int×Bool×Int×List UInt8×Int×List ab)):=
 match x_ with
 | (level_1,path_1,l,i,b_14,b_15,b_16,b_17,b_18,b_19,b_20,b_21,b_22,b_23,b_24,b_25,b_26,b_27,b_28)=>
 if decide (i < (l.length:Int))=true then
 if inR i l.length=true then
 dr (path_1,i) >>=fun r_6=>
 fe ((⟨b_14⟩:av),b_15.Elem,l.getD i.toNat [],addI .i64 level_1 1,r_6) >>=fun r_7=>
 if(!r_7.OK)=true then
 some (.inl (⟨ab.eta r_7.Value,r_7.Failure,r_7.OK⟩:aK))
 else
 some [ab.eta r_7.Value] >>=fun t62=>
 if room 120 (b_28++t62).length=true then
 tH (level_1,path_1,l,addI .i64 i 1,b_14,b_15,b_16,b_17,b_18,b_19,b_20,b_21,b_22,b_23,b_24,b_25,b_26,b_27,b_28++t62)
 else none
 else none
 else
 some (.inr (b_16,b_17,b_18,b_19,b_20,b_21,b_22,b_23,b_24,b_25,b_26,b_27,b_28))
  partial_fixpoint
def qg(x_:Int×List Int×List aF×Int×List ae×ae×Int×Bool×Int×List UInt8×Int×Int×Bool×Int×Bool×Int×List UInt8×Int×List ab):Option ((aK) ⊕ (List Int×List aF×ae×Int×Bool×Int×List UInt8×Int×Int×Bool×Int×Bool×Int×List UInt8×Int×List ab)):=
 match x_ with
 | (level_1,path_2,l_1,i,b_30,b_31,b_32,b_33,b_34,b_35,b_36,b_37,b_38,b_39,b_40,b_41,b_42,b_43,b_44)=>
 if decide (i < (b_31.Members.length:Int))=true then
 if inR i b_31.Members.length=true then
 some (b_31.Members.getD i.toNat ap) >>=fun x0_1=>
 En (l_1,x0_1.ID) >>=fun r_5=>
 if decide (r_5 < 0)=true then
 if(!x0_1.HasDefault)=true then
 dr (path_2,x0_1.ID) >>=fun r_6=>
 bX (r_6,7) >>=fun r_7=>
 some (.inl (⟨ab.eta r_7.Value,r_7.Failure,r_7.OK⟩:aK))
 else
 some [ab.eta x0_1.Default] >>=fun t63=>
 if room 120 (b_44++t63).length=true then
 qg (level_1,path_2,l_1,addI .i64 i 1,b_30,b_31,b_32,b_33,b_34,b_35,b_36,b_37,b_38,b_39,b_40,b_41,b_42,b_43,b_44++t63)
 else none
 else
 if inR r_5 l_1.length=true then
 dr (path_2,x0_1.ID) >>=fun r_8=>
 fe ((⟨b_30⟩:av),x0_1.Type_,(l_1.getD r_5.toNat aN).Data,addI .i64 level_1 1,r_8) >>=fun r_9=>
 if(!r_9.OK)=true then
 some (.inl (⟨ab.eta r_9.Value,r_9.Failure,r_9.OK⟩:aK))
 else
 some [ab.eta r_9.Value] >>=fun t89=>
 if room 120 (b_44++t89).length=true then
 qg (level_1,path_2,l_1,addI .i64 i 1,b_30,b_31,b_32,b_33,b_34,b_35,b_36,b_37,b_38,b_39,b_40,b_41,b_42,b_43,b_44++t89)
 else none
 else none
 else none
 else
 some (.inr (path_2,l_1,b_31,b_32,b_33,b_34,b_35,b_36,b_37,b_38,b_39,b_40,b_41,b_42,b_43,b_44))
  partial_fixpoint
end
def ju(v:ab):Option (Bool):=
 some (bif bif bif bif bif bif bif decide (v.Kind=1)then true else(!v.Bool_)then bif decide (v.Kind=2)then true else decide (v.Int_=0)else false then bif decide (v.Kind=3)then true else decide (v.Str=[])else false then bif bif decide (v.Kind=4)then true else decide (v.Kind=6)then true else decide (v.ID=0)else false then bif decide (v.Kind=8)then true else decide ((v.Keys.length:Int)=0)else false then bif decide (5<=v.Kind)then true else decide ((v.Items.length:Int)=0)else false then bif bif decide (v.Kind=5)then true else decide (v.Kind=6)then true else decide ((v.Rest.length:Int)=0)else false)
def cn(x_:Int×Bool):Option (Bool):=
 match x_ with
 | (n,known)=>
 some (bif bif (!known)then decide (1<=n)else false then decide (n<=1000)else false)
def cQ(x_:List aH×Int×ae):Option ((Bool) ⊕ (Unit)):=
 match x_ with
 | (l_1,i,b)=>
 if decide (i < (l_1.length:Int))=true then
 if inR i l_1.length=true then
 cj (b,(l_1.getD i.toNat az).ID) >>=fun r=>
 if inR i l_1.length=true then
 cn ((l_1.getD i.toNat az).ID,r.2) >>=fun r_3=>
 some (!r_3) >>=fun t31=>
 some (decide (0 < i)) >>=fun t34=>
 if(inR i l_1.length || (!((!t31) && t34)))=true then
 some (subI .i64 i 1) >>=fun t43=>
 if(inR t43 l_1.length || (!((!t31) && t34)))=true then
 if(bif t31 then true else bif t34 then decide ((l_1.getD i.toNat az).ID<=(l_1.getD t43.toNat az).ID)else false)=true then
 some (.inl false)
 else
 cQ (l_1,addI .i64 i 1,b)
 else none
 else none
 else none
 else none
 else
 some (.inr ())
  partial_fixpoint
def ir(x_:ae×List aH):Option (Bool):=
 match x_ with
 | (t,l)=>
 cQ (l,0,t) >>=fun o=>
 match o with
 | .inl o_1=>
 some o_1
 | .inr o_2=>
 some true
def bS(x_:Int×ab):Option ((Bool) ⊕ (Unit)):=
 match x_ with
 | (i_1,b_12)=>
 if decide (i_1 < (b_12.Keys.length:Int))=true then
 some (subI .i64 i_1 1) >>=fun t270=>
 if inR t270 b_12.Keys.length=true then
 if inR i_1 b_12.Keys.length=true then
 gp (ab.eta (b_12.Keys.getD t270.toNat ag),ab.eta (b_12.Keys.getD i_1.toNat ag)) >>=fun r_16=>
 if decide (0<=r_16)=true then
 some (.inl false)
 else
 bS (addI .i64 i_1 1,ab.eta b_12)
 else none
 else none
 else
 some (.inr ())
  partial_fixpoint
mutual
def gy(x_:av×Int×List ab×Bool):Option (Bool):=
 match x_ with
 | (s,t,l,plain)=>
 cS (t,l,plain,0,s.Types) >>=fun o=>
 match o with
 | .inl o_1=>
 some o_1
 | .inr o_2=>
 some true
  partial_fixpoint
def ck(x_:av×Int×ab×Bool):Option (Bool):=
 match x_ with
 | (s,t,v,plain)=>
 if(bif decide (t < 0)then true else decide ((s.Types.length:Int)<=t))=true then
 some false
 else
 if inR t s.Types.length=true then
 some (s.Types.getD t.toNat af) >>=fun x0=>
 some (!(decide (v.Kind=x0.Kind))) >>=fun t34=>
 (if(!t34)=true then ju (ab.eta v)else some false) >>=fun r=>
 if(bif bif t34 then true else(!r)then true else bif plain then decide (0 < (v.Rest.length:Int))else false)=true then
 some false
 else
 if decide (x0.Kind=1)=true then
 some true
 else
 if decide (x0.Kind=2)=true then
 some (bif decide (x0.Low<=v.Int_)then decide (v.Int_<=x0.High)else false)
 else
 if decide (x0.Kind=3)=true then
 some (decide ((v.Str.length:Int)<=x0.Max))
 else
 if decide (x0.Kind=4)=true then
 jo (x0,v.ID) >>=fun r_1=>
 some (bif x0.Open then(!plain)else false) >>=fun t91=>
 (if((!r_1.2) && t91)=true then cn (v.ID,r_1.2)else some false) >>=fun r_4=>
 some (bif r_1.2 then true else bif t91 then r_4 else false)
 else
 if decide (x0.Kind=5)=true then
 some (!(decide ((v.Items.length:Int)=(x0.Members.length:Int)))) >>=fun t107=>
 (if(!t107)=true then ir (x0,v.Rest)else some false) >>=fun r_5=>
 if(bif t107 then true else(!r_5))=true then
 some false
 else
 cd (plain,0,s.Types,ab.eta v,x0.Kind,x0.Name,x0.Low,x0.High,x0.Max,x0.Symbols,x0.Members,x0.Key,x0.Elem,x0.Open) >>=fun o=>
 match o with
 | .inl o_1=>
 some o_1
 | .inr o_2=>
 some true
 else
 if decide (x0.Kind=6)=true then
 cj (x0,v.ID) >>=fun r_6=>
 if r_6.2=true then
 some (bif decide ((v.Items.length:Int)=1)then decide ((v.Rest.length:Int)=0)else false) >>=fun t156=>
 if(inR r_6.1 x0.Members.length || (!t156))=true then
 if(inR 0 v.Items.length || (!t156))=true then
 (if t156=true then ck (s,(x0.Members.getD r_6.1.toNat ap).Type_,ab.eta (v.Items.getD (0:Int).toNat ag),plain)else some false) >>=fun r_9=>
 some (bif t156 then r_9 else false)
 else none
 else none
 else
 some (bif x0.Open then(!plain)else false) >>=fun t177=>
 (if t177=true then cn (v.ID,r_6.2)else some false) >>=fun r_10=>
 some (bif bif bif t177 then r_10 else false then decide ((v.Items.length:Int)=0)else false then decide ((v.Rest.length:Int)=1)else false) >>=fun t195=>
 if(inR 0 v.Rest.length || (!t195))=true then
 some (bif t195 then decide ((v.Rest.getD (0:Int).toNat az).ID=v.ID)else false)
 else none
 else
 if decide (x0.Kind=7)=true then
 some (decide ((v.Items.length:Int)<=x0.Max)) >>=fun t213=>
 (if t213=true then gy (s,x0.Elem,v.Items,plain)else some false) >>=fun r_11=>
 some (bif t213 then r_11 else false)
 else
 if decide (x0.Kind=8)=true then
 some (bif decide (x0.Max < (v.Keys.length:Int))then true else(!(decide ((v.Items.length:Int)=(v.Keys.length:Int))))) >>=fun t239=>
 (if(!t239)=true then gy (s,x0.Key,v.Keys,plain)else some false) >>=fun r_12=>
 some (bif t239 then true else(!r_12)) >>=fun t249=>
 (if(!t249)=true then gy (s,x0.Elem,v.Items,plain)else some false) >>=fun r_13=>
 if(bif t249 then true else(!r_13))=true then
 some false
 else
 bS (1,ab.eta v) >>=fun o_3=>
 match o_3 with
 | .inl o_4=>
 some o_4
 | .inr o_5=>
 some true
 else
 some (decide ((v.Items.length:Int)<=1)) >>=fun t283=>
 (if t283=true then gy (s,x0.Elem,v.Items,plain)else some false) >>=fun r_14=>
 some (bif t283 then r_14 else false)
 else none
  partial_fixpoint
def cS(x_:Int×List ab×Bool×Int×List ae):Option ((Bool) ⊕ (Unit)):=
 match x_ with
 | (t_1,l_1,plain_1,i,b)=>
 if decide (i < (l_1.length:Int))=true then
 if inR i l_1.length=true then
 ck ((⟨b⟩:av),t_1,ab.eta (l_1.getD i.toNat ag),plain_1) >>=fun r=>
 if(!r)=true then
 some (.inl false)
 else
 cS (t_1,l_1,plain_1,addI .i64 i 1,b)
 else none
 else
 some (.inr ())
  partial_fixpoint
def cd(x_:Bool×Int×List ae×ab×Int×List UInt8×Int×Int×Int×List aC×List aj×Int×Int×Bool):Option ((Bool) ⊕ (Unit)):=
 match x_ with
 | (plain_1,i,b,b_1,b_2,b_3,b_4,b_5,b_6,b_7,b_8,b_9,b_10,b_11)=>
 if decide (i < (b_1.Items.length:Int))=true then
 if inR i b_8.length=true then
 if inR i b_1.Items.length=true then
 ck ((⟨b⟩:av),(b_8.getD i.toNat ap).Type_,ab.eta (b_1.Items.getD i.toNat ag),plain_1) >>=fun r_15=>
 if(!r_15)=true then
 some (.inl false)
 else
 cd (plain_1,addI .i64 i 1,b,ab.eta b_1,b_2,b_3,b_4,b_5,b_6,b_7,b_8,b_9,b_10,b_11)
 else none
 else none
 else
 some (.inr ())
  partial_fixpoint
end
def qz(x_:av×Int×ab):Option (Bool):=
 match x_ with
 | (s,t,v)=>
 ck (s,t,ab.eta v,false) >>=fun r=>
 some r
def qu(x_:av×Int×ab):Option (Int):=
 match x_ with
 | (s,t,v)=>
 im s >>=fun r=>
 if(!(decide (r=0)))=true then
 some r
 else
 if(bif decide (t < 0)then true else decide ((s.Types.length:Int)<=t))=true then
 some 4
 else
 qz (s,t,ab.eta v) >>=fun r_1=>
 if(!r_1)=true then
 some 1
 else
 some 0
def jr(x_:Int×List UInt8):Option (List UInt8):=
 match x_ with
 | (n_1,out_1)=>
 if decide (0 < n_1)=true then
 some (strOf [wrp .u8 (remI n_1 256)]) >>=fun t10=>
 if decide (t10.length+out_1.length<=aX)=true then
 jr (quoI .u64 n_1 256,t10++out_1)
 else none
 else
 some out_1
  partial_fixpoint
theorem Dy :LC 98 0 [0] e98_0 jr:= .rc jr.partial_correctness .n .n fun _ _=>by kernel_rfl
def lz(n:Int):Option (List UInt8):=
 jr (n,[]) >>=fun o=>
 some o
theorem e98_k :KC e98:= .m (by kernel_rfl)
theorem Ep :FC e98 lz:= .fn e98_k .n (.k Dy .n) fun _=>by kernel_rfl
def jt(x_:Int×List Int):Option (Int×List Int):=
 match x_ with
 | (n_2,b_1)=>
 if decide (128<=n_2)=true then
 some [wrp .u8 (addI .u64 (remI n_2 128) 128)] >>=fun t11=>
 if room 1 (b_1++t11).length=true then
 jt (quoI .u64 n_2 128,b_1++t11)
 else none
 else
 some (n_2,b_1)
  partial_fixpoint
theorem Dz :LC 100 0 [0] Bo jt:= .rc jt.partial_correctness .n .n fun _ _=>by kernel_rfl
def gz(n:Int):Option (List UInt8):=
 jt (n,[]) >>=fun o=>
 some [wrp .u8 o.1] >>=fun t18=>
 if room 1 (o.2++t18).length=true then
 some (strOf (o.2++t18))
 else none
theorem ND :KC e100:= .m (by kernel_rfl)
theorem qv :FC e100 gz:= .fn ND .n (.k Dz .n) fun _=>by kernel_rfl
def gw(p:List UInt8):Option (List UInt8):=
 gz (wrp .u64 (p.length:Int)) >>=fun r=>
 if decide (r.length+p.length<=aX)=true then
 some (r++p)
 else none
theorem NE :KC e101:= .m (by kernel_rfl)
theorem qn :FC e101 gw:= .fn NE (.k qv .n) .n fun _=>by kernel_rfl
def lm(x_:Int×Bool×List UInt8):Option (List UInt8):=
 match x_ with
 | (id,critical,p)=>
 some (wrp .u64 (mulI .i64 2 id)) >>=fun t10=>
 if critical=true then
 gz (addI .u64 t10 1) >>=fun r=>
 gw p >>=fun r_1=>
 if decide (r.length+r_1.length<=aX)=true then
 some (r++r_1)
 else none
 else
 gz t10 >>=fun r_2=>
 gw p >>=fun r_3=>
 if decide (r_2.length+r_3.length<=aX)=true then
 some (r_2++r_3)
 else none
theorem NG :KC e102:= .m (by kernel_rfl)
theorem tK :FC e102 lm:= .fn NG (.k qv (.k qn .n)) .n fun _=>by kernel_rfl
def dm(x_:List UInt8×Int×Int×List ae×ab×ae):Option (List UInt8×Int×List ae×ab×ae):=
 match x_ with
 | (out_9,id_4,k,b_18,b_19,b_20)=>
 if decide (k < (b_19.Rest.length:Int))=true then
 if inR k b_19.Rest.length=true then
 if decide ((b_19.Rest.getD k.toNat az).ID=id_4)=true then
 if inR k b_19.Rest.length=true then
 lm (id_4,false,(b_19.Rest.getD k.toNat az).Data) >>=fun r_22=>
 if decide (out_9.length+r_22.length<=aX)=true then
 dm (out_9++r_22,id_4,addI .i64 k 1,b_18,ab.eta b_19,b_20)
 else none
 else none
 else
 dm (out_9,id_4,addI .i64 k 1,b_18,ab.eta b_19,b_20)
 else none
 else
 some (out_9,id_4,b_18,ab.eta b_19,b_20)
  partial_fixpoint
theorem Cw :LC 61 0 [0,2] zW dm:= .rc dm.partial_correctness (.k tK .n) .n fun _ _=>by kernel_rfl
mutual
def cR(x_:av×Int×ab):Option (List UInt8):=
 match x_ with
 | (s,t,v)=>
 if inR t s.Types.length=true then
 some (s.Types.getD t.toNat af) >>=fun x0=>
 if decide (x0.Kind=1)=true then
 if v.Bool_=true then
 some [1]
 else
 some []
 else
 if decide (x0.Kind=2)=true then
 jp v.Int_ >>=fun r=>
 lz r >>=fun r_1=>
 some r_1
 else
 if decide (x0.Kind=3)=true then
 some v.Str
 else
 if decide (x0.Kind=4)=true then
 lz (wrp .u64 v.ID) >>=fun r_2=>
 some r_2
 else
 if decide (x0.Kind=9)=true then
 if decide ((v.Items.length:Int)=0)=true then
 some []
 else
 if inR 0 v.Items.length=true then
 cR (s,x0.Elem,ab.eta (v.Items.getD (0:Int).toNat ag)) >>=fun r_3=>
 if decide ([1].length+r_3.length<=aX)=true then
 some ([1]++r_3)
 else none
 else none
 else
 if decide (x0.Kind=6)=true then
 if decide (0 < (v.Rest.length:Int))=true then
 gz (wrp .u64 v.ID) >>=fun r_4=>
 if inR 0 v.Rest.length=true then
 some (v.Rest.getD (0:Int).toNat az) >>=fun x0_2=>
 if decide (r_4.length+x0_2.Data.length<=aX)=true then
 some (r_4++x0_2.Data)
 else none
 else none
 else
 cj (x0,v.ID) >>=fun r_5=>
 gz (wrp .u64 v.ID) >>=fun r_8=>
 if inR r_5.1 x0.Members.length=true then
 if inR 0 v.Items.length=true then
 cR (s,(x0.Members.getD r_5.1.toNat ap).Type_,ab.eta (v.Items.getD (0:Int).toNat ag)) >>=fun r_9=>
 if decide (r_8.length+r_9.length<=aX)=true then
 some (r_8++r_9)
 else none
 else none
 else none
 else
 if decide (x0.Kind=7)=true then
 gZ ([],0,s.Types,ab.eta v,x0) >>=fun o=>
 some o
 else
 if decide (x0.Kind=8)=true then
 g6 ([],0,s.Types,ab.eta v,x0) >>=fun o_1=>
 some o_1
 else
 eV ([],1,s.Types,ab.eta v,x0) >>=fun o_2=>
 some o_2
 else none
  partial_fixpoint
def gZ(x_:List UInt8×Int×List ae×ab×ae):Option (List UInt8):=
 match x_ with
 | (out_3,i,b,b_1,b_2)=>
 if decide (i < (b_1.Items.length:Int))=true then
 if inR i b_1.Items.length=true then
 cR ((⟨b⟩:av),b_2.Elem,ab.eta (b_1.Items.getD i.toNat ag)) >>=fun r_10=>
 gw r_10 >>=fun r_11=>
 if decide (out_3.length+r_11.length<=aX)=true then
 gZ (out_3++r_11,addI .i64 i 1,b,ab.eta b_1,b_2)
 else none
 else none
 else
 some out_3
  partial_fixpoint
def g6(x_:List UInt8×Int×List ae×ab×ae):Option (List UInt8):=
 match x_ with
 | (out_4,i_1,b_3,b_4,b_5)=>
 if decide (i_1 < (b_4.Items.length:Int))=true then
 if inR i_1 b_4.Keys.length=true then
 cR ((⟨b_3⟩:av),b_5.Key,ab.eta (b_4.Keys.getD i_1.toNat ag)) >>=fun r_12=>
 gw r_12 >>=fun r_13=>
 if decide (out_4.length+r_13.length<=aX)=true then
 some (out_4++r_13) >>=fun t144=>
 if inR i_1 b_4.Items.length=true then
 cR ((⟨b_3⟩:av),b_5.Elem,ab.eta (b_4.Items.getD i_1.toNat ag)) >>=fun r_14=>
 gw r_14 >>=fun r_15=>
 if decide (t144.length+r_15.length<=aX)=true then
 g6 (t144++r_15,addI .i64 i_1 1,b_3,ab.eta b_4,b_5)
 else none
 else none
 else none
 else none
 else
 some out_4
  partial_fixpoint
def eV(x_:List UInt8×Int×List ae×ab×ae):Option (List UInt8):=
 match x_ with
 | (out_5,id,b_6,b_7,b_8)=>
 if decide (id<=1000)=true then
 cj (b_8,id) >>=fun r_16=>
 if r_16.2=true then
 if inR r_16.1 b_8.Members.length=true then
 some (b_8.Members.getD r_16.1.toNat ap) >>=fun x0_8=>
 some (!x0_8.HasDefault) >>=fun t175=>
 if(inR r_16.1 b_7.Items.length || (!(!t175)))=true then
 (if(!t175)=true then cP (ab.eta (b_7.Items.getD r_16.1.toNat ag),ab.eta x0_8.Default)else some false) >>=fun r_19=>
 if(bif t175 then true else(!r_19))=true then
 if inR r_16.1 b_7.Items.length=true then
 cR ((⟨b_6⟩:av),x0_8.Type_,ab.eta (b_7.Items.getD r_16.1.toNat ag)) >>=fun r_20=>
 lm (id,x0_8.Critical,r_20) >>=fun r_21=>
 if decide (out_5.length+r_21.length<=aX)=true then
 dm (out_5++r_21,id,0,b_6,ab.eta b_7,b_8) >>=fun o_3=>
 eV (o_3.1,addI .i64 o_3.2.1 1,o_3.2.2.1,ab.eta o_3.2.2.2.1,o_3.2.2.2.2)
 else none
 else none
 else
 dm (out_5,id,0,b_6,ab.eta b_7,b_8) >>=fun o_4=>
 eV (o_4.1,addI .i64 o_4.2.1 1,o_4.2.2.1,ab.eta o_4.2.2.2.1,o_4.2.2.2.2)
 else none
 else none
 else
 dm (out_5,id,0,b_6,ab.eta b_7,b_8) >>=fun o_5=>
 eV (o_5.1,addI .i64 o_5.2.1 1,o_5.2.2.1,ab.eta o_5.2.2.2.1,o_5.2.2.2.2)
 else
 some out_5
  partial_fixpoint
end
theorem e61_k :KC e61:= .m (by kernel_rfl)
theorem C5 :(∀h r,cR h=some r->FD e61 h r)/\(∀h r,eV h=some r->LD 61 0 [2] e61_2 h r)/\(∀h r,g6 h=some r->LD 61 0 [1] e61_1 h r)/\(∀h r,gZ h=some r->LD 61 0 [0] e61_0 h r):=cR.mutual_partial_correctness (FD e61) (LD 61 0 [2] e61_2) (LD 61 0 [1] e61_1) (LD 61 0 [0] e61_0)
 (fun _ _ _ _ h0 h1 h2 h3 _ _ h=>FA e61 e61_k (.k Dw (.k Ep (.k (FH e61 e61_k h0) (.k qv (.k nA .n))))) (.k (LH e61_0 h3) (.k (LH e61_1 h2) (.k (LH e61_2 h1) .n))) (.trans (by kernel_rfl) h))
 (fun _ _ h0 h1 _ _ h=>LA e61_2 h1 (.k nA (.k p9 (.k (FH e61 e61_k h0) (.k tK .n)))) (.k Cw .n) (.trans (by kernel_rfl) h))
 (fun _ _ h0 h2 _ _ h=>LA e61_1 h2 (.k (FH e61 e61_k h0) (.k qn .n)) .n (.trans (by kernel_rfl) h))
 (fun _ _ h0 h3 _ _ h=>LA e61_0 h3 (.k (FH e61 e61_k h0) (.k qn .n)) .n (.trans (by kernel_rfl) h))
theorem Dm :FC e61 cR:= .of e61_k C5.1
end
end Go.Proofs.YtijpinendaoleaaGreat
