/- The functions of the program as functions of Lean, that its code does what they say, and what they answer; part A. -/
import Derived.Test.YthnmepafpikaiaaGreatProg
import Derived.KernelRfl
import Derived.Shelf.SlGeneric
import Derived.Shelf.SlLaysF0
import Derived.Shelf.SlSortCmp.WholeK
import Derived.Lib.Small
import Derived.Test.YthnmepafpikaiaaGreatEmLD

namespace Go.Proofs.YthnmepafpikaiaaGreat
set_option linter.all false
section
open Go Go.Proofs.YthnmepafpikaiaaGreat.Shv
open Tryz
set_option maxRecDepth 100000
structure SRaw where
 ID:Int
 Data:List UInt8
structure SValue where
 Kind:Int
 Bool_:Bool
 Int_:Int
 Str:List UInt8
 ID:Int
 Keys:List SValue
 Items:List SValue
 Rest:List SRaw
structure SMember where
 ID:Int
 Name:List UInt8
 Type_:Int
 Critical:Bool
 HasDefault:Bool
 Default:SValue
structure SSymbol where
 ID:Int
 Name:List UInt8
structure SType where
 Kind:Int
 Name:List UInt8
 Low:Int
 High:Int
 Max:Int
 Symbols:List SSymbol
 Members:List SMember
 Key:Int
 Elem:Int
 Open:Bool
structure SSchema where
 Types:List SType
structure EncodeEntry where
 id:Int
 text:List UInt8
structure EncodeReader where
 s:SSchema
structure SField where
 ID:Int
 Critical:Bool
 Data:List UInt8
structure Sheaveref07Part where
 ID:Int
 Type_:Int
 Flag:Int
structure Sheaveref07Node where
 Kind:Int
 A:Int
 B:Int
 C:Int
 Parts:List Sheaveref07Part
structure Sheaveref07Draft where
 Nodes:List Sheaveref07Node
structure Sheaveref08Draft where
 S:Sheaveref07Draft
 T:Int
 C:List Int
structure Sheavelaw09Two where
 D:Sheaveref08Draft
 C:List Int
abbrev ixSheaveref07Node :Nat:=10
abbrev ixSheaveref07Part :Nat:=11
abbrev ixSheaveref08Draft :Nat:=13
def dSRaw :SRaw:=⟨0,[]⟩
def dSValue :SValue:=⟨0,false,0,[],0,[],[],[]⟩
def dSMember :SMember:=⟨0,[],0,false,false,dSValue⟩
def dSSymbol :SSymbol:=⟨0,[]⟩
def dSType :SType:=⟨0,[],0,0,0,[],[],0,0,false⟩
def dSSchema :SSchema:=⟨[]⟩
def dEncodeEntry :EncodeEntry:=⟨0,[]⟩
def dEncodeReader :EncodeReader:=⟨dSSchema⟩
def dSField :SField:=⟨0,false,[]⟩
def dSheaveref07Part :Sheaveref07Part:=⟨0,0,0⟩
def dSheaveref07Node :Sheaveref07Node:=⟨0,0,0,0,[]⟩
def dSheaveref07Draft :Sheaveref07Draft:=⟨[]⟩
def dSheaveref08Draft :Sheaveref08Draft:=⟨dSheaveref07Draft,0,[]⟩
def dSheavelaw09Two :Sheavelaw09Two:=⟨dSheaveref08Draft,[]⟩
def uD :Nat→Type
 | 0=>SMember
 | 1=>SValue
 | 2=>SRaw
 | 3=>SType
 | 4=>SSymbol
 | 5=>SSchema
 | 6=>EncodeEntry
 | 7=>EncodeReader
 | 8=>SField
 | 9=>Sheaveref07Draft
 | 10=>Sheaveref07Node
 | 11=>Sheaveref07Part
 | 12=>Sheavelaw09Two
 | 13=>Sheaveref08Draft
 | _=>Bool
def uTys :Nat→List Ty
 | 0=>[.int .i64,.str,.int .i64,.bool,.bool,.int .i64,.bool,.int .i64,.str,.int .i64,.slice (.nm 1),.slice (.nm 1),.slice (.nm 2)]
 | 1=>[.int .i64,.bool,.int .i64,.str,.int .i64,.slice (.nm 1),.slice (.nm 1),.slice (.nm 2)]
 | 2=>[.int .i64,.str]
 | 3=>[.int .i64,.str,.int .i64,.int .i64,.int .i64,.slice (.nm 4),.slice (.nm 0),.int .i64,.int .i64,.bool]
 | 4=>[.int .i64,.str]
 | 5=>[.slice (.nm 3)]
 | 6=>[.int .i64,.str]
 | 7=>[.slice (.nm 3)]
 | 8=>[.int .i64,.bool,.str]
 | 9=>[.slice (.nm 10)]
 | 10=>[.int .u8,.int .u8,.int .u8,.int .u8,.slice (.nm 11)]
 | 11=>[.int .u8,.int .u8,.int .u8]
 | 12=>[.slice (.nm 10),.int .u8,.slice (.int .u8),.slice (.int .u8)]
 | 13=>[.slice (.nm 10),.int .u8,.slice (.int .u8)]
 | _=>[.bool]
def uFlds :(n:Nat)→uD n→List (Cell uD)
 | 0,(x:SMember)=>[⟨.int .i64,x.ID⟩,⟨.str,x.Name⟩,⟨.int .i64,x.Type_⟩,⟨.bool,x.Critical⟩,⟨.bool,x.HasDefault⟩,⟨.int .i64,x.Default.Kind⟩,⟨.bool,x.Default.Bool_⟩,⟨.int .i64,x.Default.Int_⟩,⟨.str,x.Default.Str⟩,⟨.int .i64,x.Default.ID⟩,⟨.slice (.nm 1),x.Default.Keys⟩,⟨.slice (.nm 1),x.Default.Items⟩,⟨.slice (.nm 2),x.Default.Rest⟩]
 | 1,(x:SValue)=>[⟨.int .i64,x.Kind⟩,⟨.bool,x.Bool_⟩,⟨.int .i64,x.Int_⟩,⟨.str,x.Str⟩,⟨.int .i64,x.ID⟩,⟨.slice (.nm 1),x.Keys⟩,⟨.slice (.nm 1),x.Items⟩,⟨.slice (.nm 2),x.Rest⟩]
 | 2,(x:SRaw)=>[⟨.int .i64,x.ID⟩,⟨.str,x.Data⟩]
 | 3,(x:SType)=>[⟨.int .i64,x.Kind⟩,⟨.str,x.Name⟩,⟨.int .i64,x.Low⟩,⟨.int .i64,x.High⟩,⟨.int .i64,x.Max⟩,⟨.slice (.nm 4),x.Symbols⟩,⟨.slice (.nm 0),x.Members⟩,⟨.int .i64,x.Key⟩,⟨.int .i64,x.Elem⟩,⟨.bool,x.Open⟩]
 | 4,(x:SSymbol)=>[⟨.int .i64,x.ID⟩,⟨.str,x.Name⟩]
 | 5,(x:SSchema)=>[⟨.slice (.nm 3),x.Types⟩]
 | 6,(x:EncodeEntry)=>[⟨.int .i64,x.id⟩,⟨.str,x.text⟩]
 | 7,(x:EncodeReader)=>[⟨.slice (.nm 3),x.s.Types⟩]
 | 8,(x:SField)=>[⟨.int .i64,x.ID⟩,⟨.bool,x.Critical⟩,⟨.str,x.Data⟩]
 | 9,(x:Sheaveref07Draft)=>[⟨.slice (.nm 10),x.Nodes⟩]
 | 10,(x:Sheaveref07Node)=>[⟨.int .u8,x.Kind⟩,⟨.int .u8,x.A⟩,⟨.int .u8,x.B⟩,⟨.int .u8,x.C⟩,⟨.slice (.nm 11),x.Parts⟩]
 | 11,(x:Sheaveref07Part)=>[⟨.int .u8,x.ID⟩,⟨.int .u8,x.Type_⟩,⟨.int .u8,x.Flag⟩]
 | 12,(x:Sheavelaw09Two)=>[⟨.slice (.nm 10),x.D.S.Nodes⟩,⟨.int .u8,x.D.T⟩,⟨.slice (.int .u8),x.D.C⟩,⟨.slice (.int .u8),x.C⟩]
 | 13,(x:Sheaveref08Draft)=>[⟨.slice (.nm 10),x.S.Nodes⟩,⟨.int .u8,x.T⟩,⟨.slice (.int .u8),x.C⟩]
 | _+14,(x:Bool)=>[⟨.bool,x⟩]
def uMake :(n:Nat)→List (Cell uD)→Option (uD n)
 | 0,l=>match Hs.dec uD (uTys 0) l with
   | some h=>some (⟨h.1,h.2.1,h.2.2.1,h.2.2.2.1,h.2.2.2.2.1,(⟨h.2.2.2.2.2.1,h.2.2.2.2.2.2.1,h.2.2.2.2.2.2.2.1,h.2.2.2.2.2.2.2.2.1,h.2.2.2.2.2.2.2.2.2.1,h.2.2.2.2.2.2.2.2.2.2.1,h.2.2.2.2.2.2.2.2.2.2.2.1,h.2.2.2.2.2.2.2.2.2.2.2.2⟩:SValue)⟩:SMember)
   | none=>none
 | 1,l=>match Hs.dec uD (uTys 1) l with
   | some h=>some (⟨h.1,h.2.1,h.2.2.1,h.2.2.2.1,h.2.2.2.2.1,h.2.2.2.2.2.1,h.2.2.2.2.2.2.1,h.2.2.2.2.2.2.2⟩:SValue)
   | none=>none
 | 2,l=>match Hs.dec uD (uTys 2) l with
   | some h=>some (⟨h.1,h.2⟩:SRaw)
   | none=>none
 | 3,l=>match Hs.dec uD (uTys 3) l with
   | some h=>some (⟨h.1,h.2.1,h.2.2.1,h.2.2.2.1,h.2.2.2.2.1,h.2.2.2.2.2.1,h.2.2.2.2.2.2.1,h.2.2.2.2.2.2.2.1,h.2.2.2.2.2.2.2.2.1,h.2.2.2.2.2.2.2.2.2⟩:SType)
   | none=>none
 | 4,l=>match Hs.dec uD (uTys 4) l with
   | some h=>some (⟨h.1,h.2⟩:SSymbol)
   | none=>none
 | 5,l=>match Hs.dec uD (uTys 5) l with
   | some h=>some (⟨h⟩:SSchema)
   | none=>none
 | 6,l=>match Hs.dec uD (uTys 6) l with
   | some h=>some (⟨h.1,h.2⟩:EncodeEntry)
   | none=>none
 | 7,l=>match Hs.dec uD (uTys 7) l with
   | some h=>some (⟨(⟨h⟩:SSchema)⟩:EncodeReader)
   | none=>none
 | 8,l=>match Hs.dec uD (uTys 8) l with
   | some h=>some (⟨h.1,h.2.1,h.2.2⟩:SField)
   | none=>none
 | 9,l=>match Hs.dec uD (uTys 9) l with
   | some h=>some (⟨h⟩:Sheaveref07Draft)
   | none=>none
 | 10,l=>match Hs.dec uD (uTys 10) l with
   | some h=>some (⟨h.1,h.2.1,h.2.2.1,h.2.2.2.1,h.2.2.2.2⟩:Sheaveref07Node)
   | none=>none
 | 11,l=>match Hs.dec uD (uTys 11) l with
   | some h=>some (⟨h.1,h.2.1,h.2.2⟩:Sheaveref07Part)
   | none=>none
 | 12,l=>match Hs.dec uD (uTys 12) l with
   | some h=>some (⟨(⟨(⟨h.1⟩:Sheaveref07Draft),h.2.1,h.2.2.1⟩:Sheaveref08Draft),h.2.2.2⟩:Sheavelaw09Two)
   | none=>none
 | 13,l=>match Hs.dec uD (uTys 13) l with
   | some h=>some (⟨(⟨h.1⟩:Sheaveref07Draft),h.2.1,h.2.2⟩:Sheaveref08Draft)
   | none=>none
 | _+14,l=>match Hs.dec uD [.bool] l with
   | some (h:Bool)=>some h
   | none=>none
def eSRaw(x:SRaw) :List T:=[.int .i64 x.ID,.str x.Data]
def SValue.eta(x:SValue) :SValue:=⟨x.Kind,x.Bool_,x.Int_,x.Str,x.ID,x.Keys,x.Items,x.Rest⟩
theorem SValue.gr(x:SValue) :x.eta=x:=by cases x;rfl
mutual
def eSValue :SValue→List T
 | ⟨a0,a1,a2,a3,a4,a5,a6,a7⟩=>[.int .i64 a0,.bool a1,.int .i64 a2,.str a3,.int .i64 a4,.slice (eSValueL a5),.slice (eSValueL a6),.slice (a7.map eSRaw)]
def eSValueL :List SValue→List (List T)
 | []=>[]
 | v::r=>eSValue v::eSValueL r
end
theorem gl3 :∀l,eSValueL l=l.map eSValue
 | []=>rfl
 | v::r=>by simp only[eSValueL,List.map];rw[gl3 r]
theorem gz1(x:SValue) :eSValue x=[.int .i64 x.Kind,.bool x.Bool_,.int .i64 x.Int_,.str x.Str,.int .i64 x.ID,.slice (x.Keys.map eSValue),.slice (x.Items.map eSValue),.slice (x.Rest.map eSRaw)]:=by cases x;simp only[eSValue,gl3]
def eSMember(x:SMember) :List T:=[.int .i64 x.ID,.str x.Name,.int .i64 x.Type_,.bool x.Critical,.bool x.HasDefault,.int .i64 x.Default.Kind,.bool x.Default.Bool_,.int .i64 x.Default.Int_,.str x.Default.Str,.int .i64 x.Default.ID,.slice (x.Default.Keys.map eSValue),.slice (x.Default.Items.map eSValue),.slice (x.Default.Rest.map eSRaw)]
def eSSymbol(x:SSymbol) :List T:=[.int .i64 x.ID,.str x.Name]
def eSType(x:SType) :List T:=[.int .i64 x.Kind,.str x.Name,.int .i64 x.Low,.int .i64 x.High,.int .i64 x.Max,.slice (x.Symbols.map eSSymbol),.slice (x.Members.map eSMember),.int .i64 x.Key,.int .i64 x.Elem,.bool x.Open]
def eSSchema(x:SSchema) :List T:=[.slice (x.Types.map eSType)]
def eEncodeEntry(x:EncodeEntry) :List T:=[.int .i64 x.id,.str x.text]
def eEncodeReader(x:EncodeReader) :List T:=[.slice (x.s.Types.map eSType)]
def eSField(x:SField) :List T:=[.int .i64 x.ID,.bool x.Critical,.str x.Data]
def eSheaveref07Part(x:Sheaveref07Part) :List T:=[.int .u8 x.ID,.int .u8 x.Type_,.int .u8 x.Flag]
def eSheaveref07Node(x:Sheaveref07Node) :List T:=[.int .u8 x.Kind,.int .u8 x.A,.int .u8 x.B,.int .u8 x.C,.slice (x.Parts.map eSheaveref07Part)]
def eSheaveref07Draft(x:Sheaveref07Draft) :List T:=[.slice (x.Nodes.map eSheaveref07Node)]
def eSheaveref08Draft(x:Sheaveref08Draft) :List T:=[.slice (x.S.Nodes.map eSheaveref07Node),.int .u8 x.T,.slice (x.C.map (fun y=>[.int .u8 y]))]
def eSheavelaw09Two(x:Sheavelaw09Two) :List T:=[.slice (x.D.S.Nodes.map eSheaveref07Node),.int .u8 x.D.T,.slice (x.D.C.map (fun y=>[.int .u8 y])),.slice (x.C.map (fun y=>[.int .u8 y]))]
def uEnc :(n:Nat)→uD n→List T
 | 0,x=>eSMember x
 | 1,x=>eSValue x
 | 2,x=>eSRaw x
 | 3,x=>eSType x
 | 4,x=>eSSymbol x
 | 5,x=>eSSchema x
 | 6,x=>eEncodeEntry x
 | 7,x=>eEncodeReader x
 | 8,x=>eSField x
 | 9,x=>eSheaveref07Draft x
 | 10,x=>eSheaveref07Node x
 | 11,x=>eSheaveref07Part x
 | 12,x=>eSheavelaw09Two x
 | 13,x=>eSheaveref08Draft x
 | _+14,(x:Bool)=>[.bool x]
def Un :Uni where
 D:=uD
 dfl:=fun n=>match n with
   | 0=>dSMember
   | 1=>dSValue
   | 2=>dSRaw
   | 3=>dSType
   | 4=>dSSymbol
   | 5=>dSSchema
   | 6=>dEncodeEntry
   | 7=>dEncodeReader
   | 8=>dSField
   | 9=>dSheaveref07Draft
   | 10=>dSheaveref07Node
   | 11=>dSheaveref07Part
   | 12=>dSheavelaw09Two
   | 13=>dSheaveref08Draft
   | _+14=>false
 flds:=uFlds
 make:=uMake
 tys:=uTys
 enc:=uEnc
 enc_eq:=fun n x=>match n,x with
   | 0,_=>rfl
   | 1,x=>gz1 x
   | 2,_=>rfl
   | 3,_=>rfl
   | 4,_=>rfl
   | 5,_=>rfl
   | 6,_=>rfl
   | 7,_=>rfl
   | 8,_=>rfl
   | 9,_=>rfl
   | 10,_=>rfl
   | 11,_=>rfl
   | 12,_=>rfl
   | 13,_=>rfl
   | _+14,_=>rfl
 mk_eq:=fun n l x h=>match n,x,h with
   | 0,x,h=>by
     simp only[uMake]at h;split at h
     · rename_i hh hd;cases h;exact Hs.dec_cells hd
     · cases h
   | 1,x,h=>by
     simp only[uMake]at h;split at h
     · rename_i hh hd;cases h;exact Hs.dec_cells hd
     · cases h
   | 2,x,h=>by
     simp only[uMake]at h;split at h
     · rename_i hh hd;cases h;exact Hs.dec_cells hd
     · cases h
   | 3,x,h=>by
     simp only[uMake]at h;split at h
     · rename_i hh hd;cases h;exact Hs.dec_cells hd
     · cases h
   | 4,x,h=>by
     simp only[uMake]at h;split at h
     · rename_i hh hd;cases h;exact Hs.dec_cells hd
     · cases h
   | 5,x,h=>by
     simp only[uMake]at h;split at h
     · rename_i hh hd;cases h;exact Hs.dec_cells hd
     · cases h
   | 6,x,h=>by
     simp only[uMake]at h;split at h
     · rename_i hh hd;cases h;exact Hs.dec_cells hd
     · cases h
   | 7,x,h=>by
     simp only[uMake]at h;split at h
     · rename_i hh hd;cases h;exact Hs.dec_cells hd
     · cases h
   | 8,x,h=>by
     simp only[uMake]at h;split at h
     · rename_i hh hd;cases h;exact Hs.dec_cells hd
     · cases h
   | 9,x,h=>by
     simp only[uMake]at h;split at h
     · rename_i hh hd;cases h;exact Hs.dec_cells hd
     · cases h
   | 10,x,h=>by
     simp only[uMake]at h;split at h
     · rename_i hh hd;cases h;exact Hs.dec_cells hd
     · cases h
   | 11,x,h=>by
     simp only[uMake]at h;split at h
     · rename_i hh hd;cases h;exact Hs.dec_cells hd
     · cases h
   | 12,x,h=>by
     simp only[uMake]at h;split at h
     · rename_i hh hd;cases h;exact Hs.dec_cells hd
     · cases h
   | 13,x,h=>by
     simp only[uMake]at h;split at h
     · rename_i hh hd;cases h;exact Hs.dec_cells hd
     · cases h
   | _+14,x,h=>by
     simp only[uMake]at h;split at h
     · rename_i hh hd;cases h;exact Hs.dec_cells hd
     · cases h
 tys_eq:=fun n x=>match n,x with
   | 0,_=>rfl
   | 1,_=>rfl
   | 2,_=>rfl
   | 3,_=>rfl
   | 4,_=>rfl
   | 5,_=>rfl
   | 6,_=>rfl
   | 7,_=>rfl
   | 8,_=>rfl
   | 9,_=>rfl
   | 10,_=>rfl
   | 11,_=>rfl
   | 12,_=>rfl
   | 13,_=>rfl
   | _+14,_=>rfl
 tyOf:=fun e=>match e with
   | 3=>some (.int .i64)
   | 5=>some (.int .u8)
   | 9=>some .str
   | 53=>some (.nm 1)
   | 72=>some (.nm 8)
   | 77=>some (.nm 3)
   | 98=>some (.nm 4)
   | 119=>some (.nm 0)
   | 183=>some (.nm 6)
   | _=>none
 pos:=fun n=>match n with
   | 0=>by decide
   | 1=>by decide
   | 2=>by decide
   | 3=>by decide
   | 4=>by decide
   | 5=>by decide
   | 6=>by decide
   | 7=>by decide
   | 8=>by decide
   | 9=>by decide
   | 10=>by decide
   | 11=>by decide
   | 12=>by decide
   | 13=>by decide
   | _+14=>Nat.zero_lt_one
theorem g17t :Un.Total:=fun n l h=>match n,h with
 | 0,h=>by
   obtain⟨x,hx⟩:=Hs.dec_ty (D:=uD) (ts:=uTys 0) h;exact⟨_,by show uMake 0 l=_;simp only[uMake,hx];rfl⟩
 | 1,h=>by
   obtain⟨x,hx⟩:=Hs.dec_ty (D:=uD) (ts:=uTys 1) h;exact⟨_,by show uMake 1 l=_;simp only[uMake,hx];rfl⟩
 | 2,h=>by
   obtain⟨x,hx⟩:=Hs.dec_ty (D:=uD) (ts:=uTys 2) h;exact⟨_,by show uMake 2 l=_;simp only[uMake,hx];rfl⟩
 | 3,h=>by
   obtain⟨x,hx⟩:=Hs.dec_ty (D:=uD) (ts:=uTys 3) h;exact⟨_,by show uMake 3 l=_;simp only[uMake,hx];rfl⟩
 | 4,h=>by
   obtain⟨x,hx⟩:=Hs.dec_ty (D:=uD) (ts:=uTys 4) h;exact⟨_,by show uMake 4 l=_;simp only[uMake,hx];rfl⟩
 | 5,h=>by
   obtain⟨x,hx⟩:=Hs.dec_ty (D:=uD) (ts:=uTys 5) h;exact⟨_,by show uMake 5 l=_;simp only[uMake,hx];rfl⟩
 | 6,h=>by
   obtain⟨x,hx⟩:=Hs.dec_ty (D:=uD) (ts:=uTys 6) h;exact⟨_,by show uMake 6 l=_;simp only[uMake,hx];rfl⟩
 | 7,h=>by
   obtain⟨x,hx⟩:=Hs.dec_ty (D:=uD) (ts:=uTys 7) h;exact⟨_,by show uMake 7 l=_;simp only[uMake,hx];rfl⟩
 | 8,h=>by
   obtain⟨x,hx⟩:=Hs.dec_ty (D:=uD) (ts:=uTys 8) h;exact⟨_,by show uMake 8 l=_;simp only[uMake,hx];rfl⟩
 | 9,h=>by
   obtain⟨x,hx⟩:=Hs.dec_ty (D:=uD) (ts:=uTys 9) h;exact⟨_,by show uMake 9 l=_;simp only[uMake,hx];rfl⟩
 | 10,h=>by
   obtain⟨x,hx⟩:=Hs.dec_ty (D:=uD) (ts:=uTys 10) h;exact⟨_,by show uMake 10 l=_;simp only[uMake,hx];rfl⟩
 | 11,h=>by
   obtain⟨x,hx⟩:=Hs.dec_ty (D:=uD) (ts:=uTys 11) h;exact⟨_,by show uMake 11 l=_;simp only[uMake,hx];rfl⟩
 | 12,h=>by
   obtain⟨x,hx⟩:=Hs.dec_ty (D:=uD) (ts:=uTys 12) h;exact⟨_,by show uMake 12 l=_;simp only[uMake,hx];rfl⟩
 | 13,h=>by
   obtain⟨x,hx⟩:=Hs.dec_ty (D:=uD) (ts:=uTys 13) h;exact⟨_,by show uMake 13 l=_;simp only[uMake,hx];rfl⟩
 | m+14,h=>by
   obtain⟨x,hx⟩:=Hs.dec_ty (D:=uD) (ts:=[.bool]) h;exact⟨x,by show uMake (m+14) l=_;simp only[uMake,hx];rfl⟩
end
section
open Go Go.Proofs.YthnmepafpikaiaaGreat.Shv
open Tryz
set_option maxRecDepth 100000
open Go.Proofs Go.Proofs.YthnmepafpikaiaaGreat Go.Shelf
instance:Inhabited EncodeEntry:=⟨dEncodeEntry⟩
instance:Inhabited (Un.D 6):=⟨dEncodeEntry⟩
def sortLt(x y:EncodeEntry) :Bool:=decide (x.id < y.id)
def gl4(l:List EncodeEntry) :Option (List EncodeEntry):=some (pdqBy sortLt l)
section
open Go.Proofs Go.Proofs.YthnmepafpikaiaaGreat Go.Sort Go.RowKit Go.Lib
theorem sortNaN(x:Int)(w:World) :Calls prog 162 #[.int .i64 x] w fun e w'=>e= .returned (.bool false)∧w'=w:=by
 go_enter func162,ntmps162
 go_wp2
 go_ret
 exact⟨by simp,rfl⟩
set_option maxHeartbeats 1000000 in
theorem sortCmp(x y:Int)(w:World) :Calls prog 136 #[.int .i64 x,.int .i64 y] w fun e w'=>e= .returned (.int .i64 (Lib.compareInt x y))∧w'=w:=by
 go_enter func136,ntmps136
 go_wp2_with (go_at_call 162;refine(sortNaN _ _).mono ?_;rintro e w' ⟨rfl,hw⟩;rw[hw])
 all_goals (go_ret;refine⟨?_,rfl⟩;unfold Lib.compareInt;(repeat' split) <;> first | rfl | (exfalso;omega))
def sortEnc(x:EncodeEntry) :List Value:=[.int .i64 x.id,.string ⟨x.text.toArray⟩]
set_option maxHeartbeats 1000000 in
theorem sortClo(x y:Int)(s t:ByteArray)(W:World) :Calls prog 135 #[.agg #[.int .i64 x,.string s],.agg #[.int .i64 y,.string t]] W fun e w'=>e= .returned (.int .i64 (Lib.compareInt x y))∧∃q os',w'=grow (W.drewN q) os':=by
 have hcon:=fun W'=>sortCmp x y W'
 generalize Lib.compareInt x y=r at hcon ⊢
 go_enter func135,ntmps135
 go_wp2_with (go_at_call 136;refine(hcon _).mono ?_;rintro e w' ⟨rfl,rfl⟩)
 go_ret
 exact⟨rfl,0,_,by rw[alloc_eq_grow,alloc_eq_grow,grow_grow];rfl⟩
def gtw :Go.Shelf.Ren:=⟨fun | 6=>134 | 15=>161 | 14=>160 | 28=>187 | 29=>188 | 20=>179 | 21=>180 | 22=>181 | 23=>182 | 24=>183 | 25=>184 | 26=>185 | 27=>186 | 46=>192 | 47=>193 | 48=>194 | 49=>195 | 50=>196 | 57=>197 | n=>n,fun | 22=>180 | 24=>183 | 25=>186 | 3=>3 | 39=>124 | 0=>0 | 53=>167 | 55=>82 | 4=>4 | 46=>215 | 45=>214 | 50=>144 | 5=>5 | 9=>9 | 66=>224 | 70=>228 | 76=>230 | 77=>231 | n=>n,fun | n=>n⟩
theorem layS :SlLaysF0.n6 prog gtw:={
 mixed:=by kernel_rfl
 f6:=⟨f134.name,by decide,func134.trans (congrArg some (by kernel_rfl))⟩
 f14:=⟨f160.name,by decide,func160.trans (congrArg some (by kernel_rfl))⟩
 f15:=func161.trans (congrArg some (by kernel_rfl))
 f20:=⟨f179.name,by decide,func179.trans (congrArg some (by kernel_rfl))⟩
 f21:=⟨f180.name,by decide,func180.trans (congrArg some (by kernel_rfl))⟩
 f22:=⟨f181.name,by decide,func181.trans (congrArg some (by kernel_rfl))⟩
 f23:=⟨f182.name,by decide,func182.trans (congrArg some (by kernel_rfl))⟩
 f24:=⟨f183.name,by decide,func183.trans (congrArg some (by kernel_rfl))⟩
 f25:=⟨f184.name,by decide,func184.trans (congrArg some (by kernel_rfl))⟩
 f26:=⟨f185.name,by decide,func185.trans (congrArg some (by kernel_rfl))⟩
 f27:=⟨f186.name,by decide,func186.trans (congrArg some (by kernel_rfl))⟩
 f28:=func187.trans (congrArg some (by kernel_rfl))
 f29:=func188.trans (congrArg some (by kernel_rfl))
 f46:=⟨f192.name,by decide,func192.trans (congrArg some (by kernel_rfl))⟩
 f47:=func193.trans (congrArg some (by kernel_rfl))
 f48:=func194.trans (congrArg some (by kernel_rfl))
 f49:=⟨f195.name,by decide,func195.trans (congrArg some (by kernel_rfl))⟩
 f50:=⟨f196.name,by decide,func196.trans (congrArg some (by kernel_rfl))⟩
 f57:=⟨f197.name,by decide,func197.trans (congrArg some (by kernel_rfl))⟩
 t0:=underlying0
 a0:=isAgg0
 z0:=sizeOf0
 v0:=zeroValue0
 t3:=underlying3
 a3:=isAgg3
 z3:=sizeOf3
 v3:=zeroValue3
 t4:=underlying4
 a4:=isAgg4
 z4:=sizeOf4
 v4:=zeroValue4
 t5:=underlying5
 a5:=isAgg5
 z5:=sizeOf5
 v5:=zeroValue5
 t9:=underlying9
 a9:=isAgg9
 z9:=sizeOf9
 v9:=zeroValue9
 t22:=underlying180
 a22:=isAgg180
 z22:=sizeOf180
 v22:=zeroValue180
 t25:=underlying186
 a25:=isAgg186
 z25:=sizeOf186
 v25:=zeroValue186
 t39:=underlying124
 a39:=isAgg124
 z39:=sizeOf124
 v39:=zeroValue124
 t45:=underlying214
 a45:=isAgg214
 z45:=sizeOf214
 v45:=zeroValue214
 t46:=underlying215
 a46:=isAgg215
 z46:=sizeOf215
 v46:=zeroValue215
 t50:=underlying144
 a50:=isAgg144
 z50:=sizeOf144
 v50:=zeroValue144
 t53:=underlying167
 a53:=isAgg167
 z53:=sizeOf167
 v53:=zeroValue167
 t55:=underlying82
 a55:=isAgg82
 z55:=sizeOf82
 v55:=zeroValue82
 t66:=underlying224
 a66:=isAgg224
 z66:=sizeOf224
 v66:=zeroValue224
 t70:=underlying228
 a70:=isAgg228
 z70:=sizeOf228
 v70:=zeroValue228
 t76:=underlying230
 a76:=isAgg230
 z76:=sizeOf230
 v76:=zeroValue230
 t77:=underlying231
 a77:=isAgg231
 z77:=sizeOf231
 v77:=zeroValue231}
theorem grf :ltOf (fun x y:EncodeEntry=>Lib.compareInt x.id y.id)=sortLt:=by
 funext x y
 unfold ltOf sortLt Lib.compareInt;by_cases h1:x.id < y.id
 · simp[h1]
 · by_cases h2:y.id < x.id <;> simp[h1,h2]
theorem sortSWO :SWO sortLt:=g14h (fun x:EncodeEntry=>x.id)
set_option maxHeartbeats 2000000 in
theorem sortNoneI(p:Option Addr)(cap:Nat)(fv:Value)(w:World) :Calls prog 179 #[.slice p 0 cap,.int .i64 0,.int .i64 0,fv] w fun e w'=>e= .returned (.tuple #[])∧w'=w:=by
 go_enter func179,ntmps179
 go_wp2
 refine wp_loop_rounds 1 ?_;rw[rounds_succ]
 go_wp2
 go_end0
 exact⟨rfl,rfl⟩
set_option maxHeartbeats 2000000 in
theorem sortNoneP(p:Option Addr)(cap:Nat)(lim:Int)(fv:Value)(w:World) :Calls prog 160 #[.slice p 0 cap,.int .i64 0,.int .i64 0,.int .i64 lim,fv] w fun e w'=>e= .returned (.tuple #[])∧w'=w:=by
 have hi:=fun W=>sortNoneI p cap fv W
 go_enter func160,ntmps160
 go_wp2
 refine wp_loop_rounds 1 ?_;rw[rounds_succ]
 go_wp2_with (go_at_call 179;refine(hi _).mono ?_;rintro e w' ⟨rfl,rfl⟩)
 (try simp only[Exit.inBlock,Exit.then]);refine bodyPost_ret (results_none rfl _ _ _) rfl ?_
 exact⟨rfl,rfl⟩
set_option maxHeartbeats 2000000 in
theorem sortNone(p:Option Addr)(cap:Nat)(fv:Value)(w:World) :Calls prog 134 #[.slice p 0 cap,fv] w fun e w'=>e= .returned (.tuple #[])∧w'=w:=by
 have hp:=fun lim W=>sortNoneP p cap lim fv W
 have hl:∀W,Calls prog 161 #[.int .u64 0] W fun e w'=>e= .returned (.int .i64 (Lib.bitLen 0:Nat))∧w'=W:=fun W=>by
   have h:=Any.bits_Len (SlLaysF0.n15.bits (P:=prog) (ρ:=gtw) {layS with}) 0 W (by omega) (by omega);exact h
 go_enter func134,ntmps134
 go_wp2_with (first | (go_at_call 161;refine(hl _).mono ?_;rintro e w' ⟨rfl,rfl⟩) | (go_at_call 160;refine(hp _ _).mono ?_;rintro e w' ⟨rfl,rfl⟩))
 go_end0
 exact⟨rfl,rfl⟩
theorem sortWhole (blk off cap : Nat) (d : Array (Un.D 6)) (w : World) (hH : HoldsK sortEnc 2 w blk off d) (hblk : blk < w.heap.size) (hsz : d.size < 4611686018427387904) :
   Calls prog 134 #[.slice (some ⟨blk,off,none⟩) d.size cap,.func (.func 135) #[] #[]] w fun e w'=>e= .returned (.tuple #[])∧∃n os,w'=sortWorldK sortEnc 2 w blk off n (pdq sortLt d 0 d.size (Lib.bitLen d.size) true true) os:=by
 have eg:∀args w,(callFunc 135 args).run prog w= .ok (.enter 135 args) w:=enters_of func135 (by kernel_rfl) rfl
 have h:=AnyQ.slices_SortFunc_eq (α:=EncodeEntry) layS 2 isAgg183 sizeOf183 sortEnc (fun _=>rfl) (fun x v hv=>by simp[sortEnc]at hv;rcases hv with rfl | rfl <;> rfl) (fun x y=>Lib.compareInt x.id y.id) (by rw[grf];exact sortSWO) 135 #[] blk off cap d w eg (fun _ _ _ _ x y=>sortClo x.id y.id _ _ _) hH hblk hsz;rw[grf]at h;exact h
theorem g15n :g5n prog 134=true:=by kernel_rfl
def gcj :FSpec Un:=sortS Un 134 6 135 (pdqBy (α:=Un.D 6) sortLt)
theorem gno :FSnd prog gcj:=g13b (U:=Un) (n:=6) sortEnc sortLt sortSWO (fun _=>rfl) (fun w S x j t v h hr=>gz0 w S x.id x.text j t v h hr) sortWhole sortNone
end
theorem gck :FnC prog gcj:=⟨g15n,gno⟩
def gp3 :Go.Shelf.Ren:=⟨fun | 240=>117 | 276=>145 | n=>n,fun | 0=>0 | 4=>4 | 9=>9 | 20=>20 | 37=>45 | 70=>128 | 72=>130 | 164=>194 | n=>n,fun n=>n⟩
theorem lay240 :Lays.n240 prog gp3:={
 mixed:=by kernel_rfl
 f240:=func117.trans (congrArg some (by kernel_rfl))
 f276:=func145.trans (congrArg some (by kernel_rfl))
 t0:=underlying0
 a0:=isAgg0
 z0:=sizeOf0
 v0:=zeroValue0
 t4:=underlying4
 a4:=isAgg4
 z4:=sizeOf4
 v4:=zeroValue4
 t9:=underlying9
 a9:=isAgg9
 z9:=sizeOf9
 v9:=zeroValue9
 t20:=underlying20
 a20:=isAgg20
 z20:=sizeOf20
 v20:=zeroValue20
 t70:=underlying128
 a70:=isAgg128
 z70:=sizeOf128
 v70:=zeroValue128
 t72:=underlying130
 a72:=isAgg130
 z72:=sizeOf130
 v72:=zeroValue130
 t164:=underlying194
 a164:=isAgg194
 z164:=sizeOf194
 v164:=zeroValue194}
theorem layX72 :Builder.X72 prog gp3:={
 sizeBuilder:=by kernel_rfl
 liesBuilder:=by kernel_rfl}
theorem g15o :g5n prog 117=true:=by kernel_rfl
def ggc :FSpec Un:=gp0 Un 117 130 5
theorem gm7 :FSnd prog ggc:=g10i lay240 layX72 rfl rfl
theorem ggd :FnC prog ggc:=⟨g15o,gm7⟩
end
section
open Go Go.Proofs.YthnmepafpikaiaaGreat.Shv
open Tryz
set_option maxRecDepth 100000
abbrev FC(e:FEnt)(F:Hs Un.D e.ts→Option (Hs Un.D e.us)) :Prop:=FnC prog (e.s F)
abbrev LC(f kk:Nat)(p:List Nat)(e:LEnt)(F:Hs Un.D e.ts→Option (OSum Un e.outs)) :Prop:=LpC prog f kk p e F
abbrev KC(e:FEnt) :Prop:=Fok prog e
abbrev FD(e:FEnt) :Hs Un.D e.ts→Hs Un.D e.us→Prop:=FQ prog Un e
abbrev LD(f kk:Nat)(p:List Nat)(e:LEnt) :Hs Un.D e.ts→OSum Un e.outs→Prop:=LQ prog Un f kk p e
theorem FH(e:FEnt)(k:KC e){F:Hs Un.D e.ts→Option (Hs Un.D e.us)}(h:∀h r,F h=some r→FD e h r) :FC e F:= .of k h
theorem LH(e:LEnt){f kk:Nat}{p:List Nat}{F:Hs Un.D e.ts→Option (OSum Un e.outs)}(h:∀h o,F h=some o→LD f kk p e h o) :LC f kk p e F:= .of h
theorem FA(e:FEnt)(k:KC e){fs:List (FSpec Un)}(hf:FoC prog fs){ls:List (Nat × LSpec Un)}(hl:LoC prog e.f e.st.length [] ls){h:Hs Un.D e.ts}{r:Hs Un.D e.us}(hx:xbody (foS fs) (loL ls) prog e h=some r) :FD e h r:= .at k hf hl hx
theorem LA(e:LEnt){f kk:Nat}{p:List Nat}{F:Hs Un.D e.ts→Option (OSum Un e.outs)}(hF:∀h o,F h=some o→LD f kk p e h o){fs:List (FSpec Un)}(hf:FoC prog fs){ls:List (Nat × LSpec Un)}(hl:LoC prog f kk p ls){h:Hs Un.D e.ts}{o:OSum Un e.outs}(hx:gf5 (foS fs) (loL ls) kk (pathF prog f p) e F h=some o) :LD f kk p e h o:= .at hF hf hl hx
def e38 :FEnt:=⟨38,[],[],[],.row 5,[],[.nm 5],[]⟩
def e39 :FEnt:=⟨39,[hh tI,hh tI],[],[tI,tI],.row 1,[],[.nm 1],[]⟩
def g10m :LEnt:=⟨0,⟨[(0,hh (tL 4)),(1,hh (tL 4)),(12,hh tI),(13,hh tI)],[]⟩,[],[],[tL 4,tL 4,tI,tI],[oR 4 .bool,oX 0],[]⟩
def e167 :FEnt:=⟨167,[hh (tL 4),hh (tL 4)],[],[tL 4,tL 4],hh .bool,[],[.bool],[g10m]⟩
def g10n :LEnt:=⟨0,⟨[(0,hh (tL 2)),(1,hh (tL 2)),(12,hh tI),(13,hh tI)],[]⟩,[],[],[tL 2,tL 2,tI,tI],[oR 4 .bool,oX 0],[]⟩
def e177 :FEnt:=⟨177,[hh (tL 2),hh (tL 2)],[],[tL 2,tL 2],hh .bool,[],[.bool],[g10n]⟩
def gf6 :LEnt:=⟨0,⟨[(1,hh (tL 1)),(2,.c (.fn 170 [])),(15,hh (tL 1)),(16,hh tI),(17,hh tI)],[]⟩,[],[],[tL 1,tL 1,tI,tI],[oR 6 .bool,oX 0],[]⟩
def ghs :FEnt:=⟨178,[hh (tL 1),hh (tL 1),.c (.fn 170 [])],[],[tL 1,tL 1],hh .bool,[],[.bool],[gf6]⟩
def e170 :FEnt:=⟨170,[.row 1,.row 1],[],[.nm 1,.nm 1],hh .bool,[],[.bool],[]⟩
def e169 :FEnt:=⟨169,[.row 0,.row 0],[],[.nm 0,.nm 0],hh .bool,[],[.bool],[]⟩
def g10o :LEnt:=⟨0,⟨[(1,hh (tL 0)),(2,.c (.fn 169 [])),(15,hh (tL 0)),(16,hh tI),(17,hh tI)],[]⟩,[],[],[tL 0,tL 0,tI,tI],[oR 6 .bool,oX 0],[]⟩
def e168 :FEnt:=⟨168,[hh (tL 0),hh (tL 0),.c (.fn 169 [])],[],[tL 0,tL 0],hh .bool,[],[.bool],[g10o]⟩
def e150 :FEnt:=⟨150,[.row 3,.row 3],[],[.nm 3,.nm 3],hh .bool,[],[.bool],[]⟩
def e163 :FEnt:=⟨163,[hh (.int .u8)],[],[.int .u8],hh .bool,[],[.bool],[]⟩
def e164 :FEnt:=⟨164,[hh (.int .u8)],[],[.int .u8],hh .bool,[],[.bool],[]⟩
def g10p :LEnt:=⟨0,⟨[(0,hh .str),(18,hh tI),(19,hh tI)],[]⟩,[],[],[.str,tI,tI],[oR 2 .bool,oX 0],[]⟩
def e147 :FEnt:=⟨147,[hh .str],[],[.str],hh .bool,[],[.bool],[g10p]⟩
def g10q :LEnt:=⟨0,⟨[(0,hh tLI),(1,hh tLS),(5,.c (.mp 0)),(9,hh tLI),(10,hh tI),(11,hh tI)],[.set]⟩,[],[],[tLI,tLS,tLI,tI,tI,tLS],[oR 4 .bool,⟨.exit 0,⟨[(0,hh tLI)],[]⟩,[],[tLI]⟩],[]⟩
def e165 :FEnt:=⟨165,[hh tLI,hh tLS],[],[tLI,tLS],hh .bool,[],[.bool],[g10q]⟩
def g10r :LEnt:=⟨0,⟨[(0,hh (tL 4)),(3,.c (.arr 0)),(4,.c (.arr 1)),(7,hh (tL 4)),(8,hh tI),(9,hh tI)],[.arr tI,.arr .str]⟩,[(.slot 3,tI),(.slot 4,.str)],[(.slot 3,tI),(.slot 4,.str)],[tL 4,tL 4,tI,tI,tLI,tLS],[⟨.exit 0,⟨[(0,hh (tL 4)),(3,.c (.arr 0)),(4,.c (.arr 1))],[.arr tI,.arr .str]⟩,[],[tL 4,tLI,tLS]⟩],[]⟩
def e148 :FEnt:=⟨148,[hh (tL 4)],[],[tL 4],hh .bool,[],[.bool],[g10r]⟩
def e166 :FEnt:=⟨166,[.row 1],[],[.nm 1],hh .bool,[],[.bool],[]⟩
def g10s :LEnt:=⟨0,⟨[(1,hP 0 0),(3,.c (.arr 1)),(4,.c (.arr 2)),(8,hh (tL 0)),(9,hh tI),(10,hh tI)],[.brow 3,.arr tI,.arr .str]⟩,[(.slot 3,tI),(.slot 4,.str)],[(.slot 3,tI),(.slot 4,.str)],[tL 0,tI,tI,.nm 3,tLI,tLS],[oR 2 .bool,⟨.exit 0,⟨[(1,hP 0 0),(3,.c (.arr 1)),(4,.c (.arr 2))],[.brow 3,.arr tI,.arr .str]⟩,[],[.nm 3,tLI,tLS]⟩],[]⟩
def e149 :FEnt:=⟨149,[.row 3],[],[.nm 3],hh .bool,[],[.bool],[g10s]⟩
def e120 :FEnt:=⟨120,[.row 3],[],[.nm 3],hh .bool,[],[.bool],[]⟩
def g10t :LEnt:=⟨0,⟨[(1,hP 0 0),(3,.c (.arr 1)),(7,hh (tL 0)),(8,hh tI),(9,hh tI)],[.brow 3,.arr tI]⟩,[(.slot 3,tI)],[(.slot 3,tI)],[tL 0,tI,tI,.nm 3,tLI],[⟨.exit 0,⟨[(1,hP 0 0),(3,.c (.arr 1))],[.brow 3,.arr tI]⟩,[],[.nm 3,tLI]⟩],[]⟩
def e121 :FEnt:=⟨121,[.row 3],[],[.nm 3],hh tLI,[],[tLI],[g10t]⟩
def gwp :LEnt:=⟨0,⟨[(1,hP 0 0),(3,.c (.mp 1)),(5,hP 2 0),(14,hh (tL 3)),(15,hh tI),(16,hh tI),(38,hh tLI),(39,hh tI),(40,hh tI)],[bb (tL 3),.set,.box [.hole tI,.hole .str,.hole tI,.hole tI,.hole tI,.hole (tL 4),.hole (tL 0),.hole tI,.hole tI,.hole .bool]]⟩,[],[],[tL 3,tI,tI,tLI,tI,tI,tL 3,tLS,tI,.str,tI,tI,tI,tL 4,tL 0,tI,tI,.bool],[oR 2 tI,⟨.exit 2,⟨[(1,hP 0 0),(3,.c (.mp 1)),(5,hP 2 0),(14,hh (tL 3)),(15,hh tI),(16,hh tI)],[bb (tL 3),.set,.box [.hole tI,.hole .str,.hole tI,.hole tI,.hole tI,.hole (tL 4),.hole (tL 0),.hole tI,.hole tI,.hole .bool]]⟩,[],[tL 3,tI,tI,tL 3,tLS,tI,.str,tI,tI,tI,tL 4,tL 0,tI,tI,.bool]⟩],[]⟩
def e79_0 :LEnt:=⟨0,⟨[(1,hP 0 0),(3,.c (.mp 1)),(14,hh (tL 3)),(15,hh tI),(16,hh tI)],[bb (tL 3),.set]⟩,[],[],[tL 3,tI,tI,tL 3,tLS],[oR 2 tI,oX 0],[gwp]⟩
def e79 :FEnt:=⟨79,[.row 5],[],[.nm 5],hh tI,[],[tI],[e79_0]⟩
def e52 :FEnt:=⟨52,[.row 5,hh tI],[],[.nm 5,tI],hh tI,[],[tI],[]⟩
def e171 :FEnt:=⟨171,[.row 1],[],[.nm 1],.row 1,[],[.nm 1],[]⟩
def e155 :FEnt:=⟨155,[.row 1],[],[.nm 1],hh .bool,[],[.bool],[]⟩
def e153 :FEnt:=⟨153,[.row 4,hP 0 0],[bb tI],[.nm 4,tI],hh .bool,[bb tI],[.bool,tI],[]⟩
def g10u :LEnt:=⟨0,⟨[(0,hh (tL 4)),(1,.c (.fn 153 [0])),(7,hh tI),(8,hh tI)],[bb tI]⟩,[],[],[tL 4,tI,tI,tI],[⟨.ret,⟨[(4,hh tI)],[bb tI]⟩,[],[tI,tI]⟩,⟨.exit 0,⟨[],[bb tI]⟩,[],[tI]⟩],[]⟩
def e152 :FEnt:=⟨152,[hh (tL 4),.c (.fn 153 [0])],[bb tI],[tL 4,tI],hh tI,[bb tI],[tI,tI],[g10u]⟩
def e129 :FEnt:=⟨129,[.row 3,hh tI],[],[.nm 3,tI],.tup [hh tI,hh .bool],[],[tI,.bool],[]⟩
def e156 :FEnt:=⟨156,[hh tI],[],[tI],hh .bool,[],[.bool],[]⟩
def e126 :FEnt:=⟨126,[.row 0,hP 0 0],[bb tI],[.nm 0,tI],hh .bool,[bb tI],[.bool,tI],[]⟩
def g10v :LEnt:=⟨0,⟨[(0,hh (tL 0)),(1,.c (.fn 126 [0])),(7,hh tI),(8,hh tI)],[bb tI]⟩,[],[],[tL 0,tI,tI,tI],[⟨.ret,⟨[(4,hh tI)],[bb tI]⟩,[],[tI,tI]⟩,⟨.exit 0,⟨[],[bb tI]⟩,[],[tI]⟩],[]⟩
def e125 :FEnt:=⟨125,[hh (tL 0),.c (.fn 126 [0])],[bb tI],[tL 0,tI],hh tI,[bb tI],[tI,tI],[g10v]⟩
def e82 :FEnt:=⟨82,[.row 3,hh tI],[],[.nm 3,tI],.tup [hh tI,hh .bool],[],[tI,.bool],[]⟩
def e173 :FEnt:=⟨173,[.row 1,hP 0 0,hP 1 0,hP 2 0],[bb (tL 3),bb tI,bb .bool],[.nm 1,tL 3,tI,.bool],hh .bool,[bb (tL 3),bb tI,bb .bool],[.bool,tL 3,tI,.bool],[]⟩
def gl5 :LEnt:=⟨0,⟨[(0,hh (tL 1)),(1,.c (.fn 173 [0,1,2])),(7,hh tI),(8,hh tI)],[bb (tL 3),bb tI,bb .bool]⟩,[],[],[tL 1,tI,tI,tL 3,tI,.bool],[⟨.ret,⟨[(4,hh tI)],[bb (tL 3),bb tI,bb .bool]⟩,[],[tI,tL 3,tI,.bool]⟩,⟨.exit 0,⟨[],[bb (tL 3),bb tI,bb .bool]⟩,[],[tL 3,tI,.bool]⟩],[]⟩
def e189 :FEnt:=⟨189,[hh (tL 1),.c (.fn 173 [0,1,2])],[bb (tL 3),bb tI,bb .bool],[tL 1,tL 3,tI,.bool],hh tI,[bb (tL 3),bb tI,bb .bool],[tI,tL 3,tI,.bool],[gl5]⟩
def e172 :FEnt:=⟨172,[hh (tL 1),.c (.fn 173 [0,1,2])],[bb (tL 3),bb tI,bb .bool],[tL 1,tL 3,tI,.bool],hh .bool,[bb (tL 3),bb tI,bb .bool],[.bool,tL 3,tI,.bool],[]⟩
def e157 :FEnt:=⟨157,[.row 5,hh tI,hh (tL 1),hh .bool],[],[.nm 5,tI,tL 1,.bool],hh .bool,[],[.bool],[]⟩
def e97 :FEnt:=⟨97,[hh tI],[],[tI],hh (.int .u64),[],[.int .u64],[]⟩
def e190 :FEnt:=⟨190,[hh (.int .u64)],[],[.int .u64],hh .bool,[],[.bool],[]⟩
def e174 :FEnt:=⟨174,[hh (.int .u64),hh (.int .u64)],[],[.int .u64,.int .u64],hh tI,[],[tI],[]⟩
def e162 :FEnt:=⟨162,[hh tI],[],[tI],hh .bool,[],[.bool],[]⟩
def e136 :FEnt:=⟨136,[hh tI,hh tI],[],[tI,tI],hh tI,[],[tI],[]⟩
def e191 :FEnt:=⟨191,[hh .str],[],[.str],hh .bool,[],[.bool],[]⟩
def e176 :FEnt:=⟨176,[hh .str,hh .str],[],[.str,.str],hh tI,[],[tI],[]⟩
def g10w :LEnt:=⟨0,⟨[(3,hh tI),(6,hh tLI),(7,hh tI),(8,hh tI)],[]⟩,[],[],[tI,tLI,tI,tI],[oR 2 tI,⟨.exit 0,⟨[(3,hh tI)],[]⟩,[],[tI]⟩],[]⟩
def e175 :FEnt:=⟨175,[hh tLI],[],[tLI],hh tI,[],[tI],[g10w]⟩
def e158 :FEnt:=⟨158,[.row 1,.row 1],[],[.nm 1,.nm 1],hh tI,[],[tI],[]⟩
def g10x :LEnt:=⟨0,⟨[(3,hh .bool),(4,hP 0 0),(6,hP 1 0),(9,hP 2 0),(111,hh (tL 2)),(112,hh tI),(113,hh tI)],[bb (tL 3),.brow 1,.box [.hole tI,.hole .str,.hole tI,.hole tI,.hole tI,.hole (tL 4),.hole (tL 0),.hole tI,.hole tI,.hole .bool]]⟩,[],[],[.bool,tL 2,tI,tI,tL 3,.nm 1,tI,.str,tI,tI,tI,tL 4,tL 0,tI,tI,.bool],[oR 8 .bool,⟨.exit 1,⟨[(3,hh .bool),(4,hP 0 0),(6,hP 1 0),(9,hP 2 0)],[bb (tL 3),.box [.hole tI,.hole .bool,.hole tI,.hole .str,.hole tI,.hole (tL 1),.hole (tL 1),.hole (tL 2)],.box [.hole tI,.hole .str,.hole tI,.hole tI,.hole tI,.hole (tL 4),.hole (tL 0),.hole tI,.hole tI,.hole .bool]]⟩,[],[.bool,tL 3,tI,.bool,tI,.str,tI,tL 1,tL 1,tL 2,tI,.str,tI,tI,tI,tL 4,tL 0,tI,tI,.bool]⟩],[]⟩
def gl6 :LEnt:=⟨1,⟨[(3,hh .bool),(4,hP 0 0),(6,hP 1 0),(150,hh (tL 0)),(151,hh tI),(152,hh tI)],[bb (tL 3),.box [.hole tI,.hole .bool,.hole tI,.hole .str,.hole tI,.hole (tL 1),.hole (tL 1),.hole (tL 2)]]⟩,[],[],[.bool,tL 0,tI,tI,tL 3,tI,.bool,tI,.str,tI,tL 1,tL 1,tL 2],[oR 8 .bool,oX 3],[]⟩
def g10y :LEnt:=⟨2,⟨[(3,hh .bool),(4,hP 0 0),(6,hP 1 0),(9,hP 2 0),(20,hh tI)],[bb (tL 3),.brow 1,.box [.hole tI,.hole .str,.hole tI,.hole tI,.hole tI,.hole (tL 4),.hole (tL 0),.hole tI,.hole tI,.hole .bool]]⟩,[],[],[.bool,tI,tL 3,.nm 1,tI,.str,tI,tI,tI,tL 4,tL 0,tI,tI,.bool],[oR 8 .bool,⟨.exit 5,⟨[(3,hh .bool),(4,hP 0 0),(6,hP 1 0),(9,hP 2 0)],[bb (tL 3),.brow 1,.box [.hole tI,.hole .str,.hole tI,.hole tI,.hole tI,.hole (tL 4),.hole (tL 0),.hole tI,.hole tI,.hole .bool]]⟩,[],[.bool,tL 3,.nm 1,tI,.str,tI,tI,tI,tL 4,tL 0,tI,tI,.bool]⟩],[]⟩
def e132 :FEnt:=⟨132,[.row 5,hh tI,.row 1,hh .bool],[],[.nm 5,tI,.nm 1,.bool],hh .bool,[],[.bool],[g10x,gl6,g10y]⟩
def e95 :FEnt:=⟨95,[.row 5,hh tI,.row 1],[],[.nm 5,tI,.nm 1],hh .bool,[],[.bool],[]⟩
def e56 :FEnt:=⟨56,[.row 5,hh tI,.row 1],[],[.nm 5,tI,.nm 1],hh tI,[],[tI],[]⟩
def e96_0 :LEnt:=⟨0,⟨[(0,hh (.int .u64)),(3,hP 0 0),(4,hh tI)],[.arr (.int .u8)]⟩,[],[],[.int .u64,tI,.slice (.int .u8)],[⟨.exit 0,⟨[(3,hP 0 0),(4,hh tI)],[.arr (.int .u8)]⟩,[],[tI,.slice (.int .u8)]⟩],[]⟩
def e96 :FEnt:=⟨96,[hh (.int .u64)],[],[.int .u64],hh .str,[],[.str],[e96_0]⟩
def gf7 :LEnt:=⟨0,⟨[(1,hh (tL 1)),(2,.c (.fn 159 [])),(15,hh (tL 1)),(16,hh tI),(17,hh tI)],[]⟩,[],[],[tL 1,tL 1,tI,tI],[oR 6 .bool,oX 0],[]⟩
def ght :FEnt:=⟨178,[hh (tL 1),hh (tL 1),.c (.fn 159 [])],[],[tL 1,tL 1],hh .bool,[],[.bool],[gf7]⟩
def e159 :FEnt:=⟨159,[.row 1,.row 1],[],[.nm 1,.nm 1],hh .bool,[],[.bool],[]⟩
def e133 :FEnt:=⟨133,[.row 0,.row 1],[],[.nm 0,.nm 1],hh .bool,[],[.bool],[]⟩
def g10z :LEnt:=⟨0,⟨[(0,hh (.int .u64)),(3,hP 0 0),(4,hh tI)],[.arr (.int .u8)]⟩,[],[],[.int .u64,tI,.slice (.int .u8)],[⟨.exit 0,⟨[(0,hh (.int .u64)),(3,hP 0 0),(4,hh tI)],[.arr (.int .u8)]⟩,[],[.int .u64,tI,.slice (.int .u8)]⟩],[]⟩
def e113 :FEnt:=⟨113,[hh (.int .u64)],[],[.int .u64],hh .str,[],[.str],[g10z]⟩
def e100 :FEnt:=⟨100,[hh .str],[],[.str],hh .str,[],[.str],[]⟩
def e68 :FEnt:=⟨68,[hh tI,hh .bool,hh .str],[],[tI,.bool,.str],hh .str,[],[.str],[]⟩
def e73 :FEnt:=⟨73,[hP 0 0,hh .str],[.bld 130 ((.bufc 1)),.buf 5],[.str,.str],.tup [hh tI,.c (.dead)],[.bld 130 ((.bufc 2)),.gone,.buf 5],[tI,.str],[]⟩
def e75 :FEnt:=⟨75,[hP 0 0],[.bld 130 ((.bufc 1)),.buf 5],[.str],hh .str,[.bld 130 ((.bufc 1)),.gone],[.str],[]⟩
def e98_0 :LEnt:=⟨0,⟨[(0,hP 0 0),(3,hh tI),(6,hP 1 0),(9,.c (.arr 2)),(18,hh (tL 0)),(19,hh tI),(20,hh tI)],[.box [.hole (tL 3),.hole tI],.brow 1,.arr (.nm 6)]⟩,[(.slot 9,.nm 6)],[(.slot 9,.nm 6)],[tI,tL 0,tI,tI,tL 3,tI,.nm 1,tL 6],[⟨.exit 0,⟨[(6,hP 1 0),(9,.c (.arr 2))],[.box [.hole (tL 3),.hole tI],.brow 1,.arr (.nm 6)]⟩,[],[tL 3,tI,.nm 1,tL 6]⟩],[]⟩
def e98_1 :LEnt:=⟨1,⟨[(9,.c (.arr 1)),(57,hh (tL 2)),(58,hh tI),(59,hh tI)],[.box [.hole (tL 3),.hole tI],.arr (.nm 6)]⟩,[],[],[tL 2,tI,tI,tL 3,tI,tL 6],[⟨.exit 2,⟨[(9,.c (.arr 1))],[.box [.hole (tL 3),.hole tI],.arr (.nm 6)]⟩,[],[tL 3,tI,tL 6]⟩],[]⟩
def e98_2 :LEnt:=⟨2,⟨[(14,hP 1 0),(77,.c (.arr 2)),(78,hh tI),(79,hh tI)],[.box [.hole (tL 3),.hole tI],.bld 130 ((.bufc 3)),.arr (.nm 6),.buf 5]⟩,[],[],[tI,tI,tL 3,tI,tL 6,.str],[⟨.exit 4,⟨[(14,hP 1 0)],[.box [.hole (tL 3),.hole tI],.bld 130 ((.bufc 2)),.buf 5]⟩,[],[tL 3,tI,.str]⟩],[]⟩
def e98 :FEnt:=⟨98,[hP 0 0,.row 3,.row 1,hh tI],[.box [.hole (tL 3),.hole tI]],[.nm 3,.nm 1,tI,tL 3,tI],hh .str,[.box [.hole (tL 3),.hole tI]],[.str,tL 3,tI],[e98_0,e98_1,e98_2]⟩
def e99 :FEnt:=⟨99,[hP 0 0,.row 3,.row 1,hh tI],[.box [.hole (tL 3),.hole tI]],[.nm 3,.nm 1,tI,tL 3,tI],hh .str,[.box [.hole (tL 3),.hole tI]],[.str,tL 3,tI],[]⟩
def e57_0 :LEnt:=⟨0,⟨[(0,hP 0 0),(3,hh tI),(6,hP 1 0),(9,hP 2 0),(10,hP 3 0),(84,hh (tL 1)),(85,hh tI),(86,hh tI)],[.box [.hole (tL 3),.hole tI],.brow 1,.brow 3,.bld 130 ((.bufc 4)),.buf 5]⟩,[],[],[tI,tL 1,tI,tI,tL 3,tI,.nm 1,.nm 3,.str],[⟨.exit 1,⟨[(10,hP 1 0)],[.box [.hole (tL 3),.hole tI],.bld 130 ((.bufc 2)),.buf 5]⟩,[],[tL 3,tI,.str]⟩],[]⟩
def e57 :FEnt:=⟨57,[hP 0 0,hh tI,.row 1,hh tI],[.box [.hole (tL 3),.hole tI]],[tI,.nm 1,tI,tL 3,tI],hh .str,[.box [.hole (tL 3),.hole tI]],[.str,tL 3,tI],[e57_0]⟩
def e26 :FEnt:=⟨26,[.row 5,hh tI,.row 1],[],[.nm 5,tI,.nm 1],.tup [hh .str,hh tI],[],[.str,tI],[]⟩
def e76_0 :LEnt:=⟨0,⟨[(0,hh .str),(5,hh (.int .u64)),(10,hh tI),(11,hh tI)],[]⟩,[],[],[.str,.int .u64,tI,tI],[⟨.ret,⟨[(2,hh (.int .u64)),(3,hh tI),(4,hh tI)],[]⟩,[],[.int .u64,tI,tI]⟩,oX 0],[]⟩
def e76 :FEnt:=⟨76,[hh .str],[],[.str],.tup [hh (.int .u64),hh tI,hh tI],[],[.int .u64,tI,tI],[e76_0]⟩
def e41 :FEnt:=⟨41,[hh .str],[],[.str],.tup [hh (.int .u64),hh .str,hh .bool],[],[.int .u64,.str,.bool],[]⟩
def e42 :FEnt:=⟨42,[hh .str],[],[.str],.tup [hh .str,hh .str,hh .bool],[],[.str,.str,.bool],[]⟩
def e14_0 :LEnt:=⟨0,⟨[(4,.c (.arr 0)),(5,hh .str)],[.arr .str]⟩,[(.slot 4,.str)],[(.slot 4,.str)],[.str,tLS],[⟨.ret,⟨[(2,.c (.cap0)),(3,hh tI)],[]⟩,[],[tI]⟩,⟨.exit 0,⟨[(4,.c (.arr 0))],[.arr .str]⟩,[],[tLS]⟩],[]⟩
def e14 :FEnt:=⟨14,[hh .str],[],[.str],.tup [hh tLS,hh tI],[],[tLS,tI],[e14_0]⟩
def e40_0 :LEnt:=⟨0,⟨[(0,hh tLS),(1,hh tLS),(12,hh tI),(13,hh tI)],[]⟩,[],[],[tLS,tLS,tI,tI],[oR 4 .bool,oX 0],[]⟩
def e40 :FEnt:=⟨40,[hh tLS,hh tLS],[],[tLS,tLS],hh .bool,[],[.bool],[e40_0]⟩
def e12_0 :LEnt:=⟨0,⟨[(4,.c (.arr 0)),(5,hh (.int .u64)),(6,hh .str)],[.arr (.nm 8)]⟩,[(.slot 4,.nm 8)],[(.slot 4,.nm 8)],[.int .u64,.str,tL 8],[⟨.ret,⟨[(2,.c (.cap0)),(3,hh tI)],[]⟩,[],[tI]⟩,⟨.exit 0,⟨[(4,.c (.arr 0))],[.arr (.nm 8)]⟩,[],[tL 8]⟩],[]⟩
def e12 :FEnt:=⟨12,[hh .str],[],[.str],.tup [hh (tL 8),hh tI],[],[tL 8,tI],[e12_0]⟩
def e80_0 :LEnt:=⟨0,⟨[(3,hh tI),(4,hP 0 0),(5,hP 1 0),(11,hh tI),(27,hh (tL 8)),(28,hh tI),(29,hh tI)],[bb (tL 3),.brow 3]⟩,[],[],[tI,tI,tL 8,tI,tI,tL 3,.nm 3],[oR 8 .bool,⟨.exit 0,⟨[(5,hP 0 0),(11,hh tI)],[.brow 3]⟩,[],[tI,.nm 3]⟩],[]⟩
def e80_1 :LEnt:=⟨1,⟨[(11,hh tI),(93,hh (tL 0)),(94,hh tI),(95,hh tI)],[]⟩,[],[],[tI,tL 0,tI,tI],[⟨.exit 2,⟨[(11,hh tI)],[]⟩,[],[tI]⟩],[]⟩
def e80 :FEnt:=⟨80,[.row 7,.row 3,hh .str,hh tI],[],[.nm 7,.nm 3,.str,tI],hh .bool,[],[.bool],[e80_0,e80_1]⟩
def ghu :FEnt:=⟨123,[hh .str,hP 0 0,hP 1 0,hP 2 0],[bb (tL 3),.box [.hole tI,.hole .str,.hole tI,.hole tI,.hole tI,.hole (tL 4),.hole (tL 0),.hole tI,.hole tI,.hole .bool],bb tI],[.str,tL 3,tI,.str,tI,tI,tI,tL 4,tL 0,tI,tI,.bool,tI],hh .bool,[bb (tL 3),.box [.hole tI,.hole .str,.hole tI,.hole tI,.hole tI,.hole (tL 4),.hole (tL 0),.hole tI,.hole tI,.hole .bool],bb tI],[.bool,tL 3,tI,.str,tI,tI,tI,tL 4,tL 0,tI,tI,.bool,tI],[]⟩
def gf8 :LEnt:=⟨0,⟨[(0,hh tLS),(1,.c (.fn 123 [0,1,2])),(7,hh tI),(8,hh tI)],[bb (tL 3),.box [.hole tI,.hole .str,.hole tI,.hole tI,.hole tI,.hole (tL 4),.hole (tL 0),.hole tI,.hole tI,.hole .bool],bb tI]⟩,[],[],[tLS,tI,tI,tL 3,tI,.str,tI,tI,tI,tL 4,tL 0,tI,tI,.bool,tI],[⟨.ret,⟨[(4,hh tI)],[bb (tL 3),.box [.hole tI,.hole .str,.hole tI,.hole tI,.hole tI,.hole (tL 4),.hole (tL 0),.hole tI,.hole tI,.hole .bool],bb tI]⟩,[],[tI,tL 3,tI,.str,tI,tI,tI,tL 4,tL 0,tI,tI,.bool,tI]⟩,⟨.exit 0,⟨[],[bb (tL 3),.box [.hole tI,.hole .str,.hole tI,.hole tI,.hole tI,.hole (tL 4),.hole (tL 0),.hole tI,.hole tI,.hole .bool],bb tI]⟩,[],[tL 3,tI,.str,tI,tI,tI,tL 4,tL 0,tI,tI,.bool,tI]⟩],[]⟩
def ghv :FEnt:=⟨151,[hh tLS,.c (.fn 123 [0,1,2])],[bb (tL 3),.box [.hole tI,.hole .str,.hole tI,.hole tI,.hole tI,.hole (tL 4),.hole (tL 0),.hole tI,.hole tI,.hole .bool],bb tI],[tLS,tL 3,tI,.str,tI,tI,tI,tL 4,tL 0,tI,tI,.bool,tI],hh tI,[bb (tL 3),.box [.hole tI,.hole .str,.hole tI,.hole tI,.hole tI,.hole (tL 4),.hole (tL 0),.hole tI,.hole tI,.hole .bool],bb tI],[tI,tL 3,tI,.str,tI,tI,tI,tL 4,tL 0,tI,tI,.bool,tI],[gf8]⟩
def ghw :FEnt:=⟨122,[hh tLS,.c (.fn 123 [0,1,2])],[bb (tL 3),.box [.hole tI,.hole .str,.hole tI,.hole tI,.hole tI,.hole (tL 4),.hole (tL 0),.hole tI,.hole tI,.hole .bool],bb tI],[tLS,tL 3,tI,.str,tI,tI,tI,tL 4,tL 0,tI,tI,.bool,tI],hh .bool,[bb (tL 3),.box [.hole tI,.hole .str,.hole tI,.hole tI,.hole tI,.hole (tL 4),.hole (tL 0),.hole tI,.hole tI,.hole .bool],bb tI],[.bool,tL 3,tI,.str,tI,tI,tI,tL 4,tL 0,tI,tI,.bool,tI],[]⟩
def e124 :FEnt:=⟨124,[hh .str,hh .str],[],[.str,.str],hh .bool,[],[.bool],[]⟩
def e81_0 :LEnt:=⟨0,⟨[(4,hP 0 0),(5,hP 1 0),(7,hP 2 0),(9,hh tLS),(11,hh tI)],[bb (tL 3),.box [.hole tI,.hole .str,.hole tI,.hole tI,.hole tI,.hole (tL 4),.hole (tL 0),.hole tI,.hole tI,.hole .bool],bb tI]⟩,[],[],[tLS,tI,tL 3,tI,.str,tI,tI,tI,tL 4,tL 0,tI,tI,.bool,tI],[oR 8 .bool,oX 0],[]⟩
def e81 :FEnt:=⟨81,[.row 7,.row 3,hh .str,hh tI],[],[.nm 7,.nm 3,.str,tI],hh .bool,[],[.bool],[e81_0]⟩
def e16 :FEnt:=⟨16,[hh .str],[],[.str],.tup [hh tI,hh .str,hh tI],[],[tI,.str,tI],[]⟩
def g110 :LEnt:=⟨0,⟨[(0,hh .str),(4,hh (.int .u64)),(17,hh tI),(18,hh tI)],[]⟩,[],[],[.str,.int .u64,tI,tI],[⟨.exit 0,⟨[(4,hh (.int .u64))],[]⟩,[],[.int .u64]⟩],[]⟩
def e127 :FEnt:=⟨127,[hh .str],[],[.str],.tup [hh (.int .u64),hh tI],[],[.int .u64,tI],[g110]⟩
def e128 :FEnt:=⟨128,[hh (.int .u64)],[],[.int .u64],hh tI,[],[tI],[]⟩
def e83 :FEnt:=⟨83,[.row 3,hh .str],[],[.nm 3,.str],hh .bool,[],[.bool],[]⟩
def e53 :FEnt:=⟨53,[.row 7,hh tI,hh .str,hh tI],[],[.nm 7,tI,.str,tI],hh .bool,[],[.bool],[]⟩
def e21 :FEnt:=⟨21,[.row 5,hh tI,hh .str],[],[.nm 5,tI,.str],hh .bool,[],[.bool],[]⟩
def e11 :FEnt:=⟨11,[],[],[],hh .bool,[],[.bool],[]⟩
def e3 :FEnt:=⟨3,[hh .str],[],[.str],hh .bool,[],[.bool],[]⟩
def e45 :FEnt:=⟨45,[.row 9,hh tI],[],[.nm 9,tI],hh tI,[],[tI],[]⟩
def e46 :FEnt:=⟨46,[hh tI],[],[tI],hh .bool,[],[.bool],[]⟩
def e47 :FEnt:=⟨47,[.row 10],[],[.nm 10],hh tI,[],[tI],[]⟩
def e48 :FEnt:=⟨48,[.row 10],[],[.nm 10],hh tI,[],[tI],[]⟩
def e49_0 :LEnt:=⟨0,⟨[(1,hP 0 0),(3,.c (.arr 1)),(4,hh tI)],[.brow 10,.arr tI]⟩,[(.slot 3,tI)],[(.slot 3,tI)],[tI,.nm 10,tLI],[⟨.exit 0,⟨[(3,.c (.arr 0))],[.arr tI]⟩,[],[tLI]⟩],[]⟩
def e49 :FEnt:=⟨49,[.row 10],[],[.nm 10],hh tLI,[],[tLI],[e49_0]⟩
def e119 :FEnt:=⟨119,[hh tI],[],[tI],hh .bool,[],[.bool],[]⟩
def e77_0 :LEnt:=⟨0,⟨[(3,hP 0 0),(7,hh tI),(9,hh tI)],[bb (tL 10)]⟩,[],[],[tI,tI,tL 10],[oR 6 tI,oX 0],[]⟩
def e77 :FEnt:=⟨77,[.row 9,hh tI,hh (.int .u8)],[],[.nm 9,tI,.int .u8],hh tI,[],[tI],[e77_0]⟩
def e67 :FEnt:=⟨67,[hh tI],[],[tI],hh .bool,[],[.bool],[]⟩
def e51_0 :LEnt:=⟨0,⟨[(1,hh (.int .u8)),(2,hP 0 0),(5,hh tI),(6,hh tI)],[bb (tL 10)]⟩,[],[],[.int .u8,tI,tI,tL 10],[oR 4 tI,oX 0],[]⟩
def e51 :FEnt:=⟨51,[.row 9,hh (.int .u8)],[],[.nm 9,.int .u8],hh tI,[],[tI],[e51_0]⟩
def e78 :FEnt:=⟨78,[.row 9,hh tI,hh (.int .u8)],[],[.nm 9,tI,.int .u8],.tup [.row 1,hh .bool],[],[.nm 1,.bool],[]⟩
def gwq :LEnt:=⟨0,⟨[(1,hh tI),(2,hh .bool),(3,hP 0 0),(7,hP 1 0),(8,.c (.arr 2)),(9,hh tI),(10,hh tI)],[bb (tL 10),.brow 10,.arr (.nm 0)]⟩,[],[],[tI,.bool,tI,tI,tL 10,.nm 10,tL 0],[⟨.exit 2,⟨[(1,hh tI),(2,hh .bool),(3,hP 0 0),(7,hP 1 0),(8,.c (.arr 2)),(9,hh tI)],[bb (tL 10),.brow 10,.arr (.nm 0)]⟩,[],[tI,.bool,tI,tL 10,.nm 10,tL 0]⟩],[]⟩
def e50_0 :LEnt:=⟨0,⟨[(1,hh tI),(2,hh .bool),(3,hP 0 0),(7,hP 1 0),(8,.c (.arr 2)),(9,hh tI)],[bb (tL 10),.brow 10,.arr (.nm 0)]⟩,[(.slot 8,.nm 0)],[(.slot 8,.nm 0)],[tI,.bool,tI,tL 10,.nm 10,tL 0],[⟨.exit 0,⟨[(8,.c (.arr 0))],[.arr (.nm 0)]⟩,[],[tL 0]⟩],[gwq]⟩
def e50 :FEnt:=⟨50,[.row 9,hh tI,hh .bool],[],[.nm 9,tI,.bool],hh (tL 0),[],[tL 0],[e50_0]⟩
def gwr :LEnt:=⟨0,⟨[(1,hP 0 0),(2,hP 1 0),(4,hh tI),(5,hP 2 0),(6,hh tI),(8,hP 3 0),(9,hh tLI),(10,hh tI)],[bb (tL 10),.box [.cap0],.box [.arr 4],.box [.hole tI,.hole .str,.hole tI,.hole tI,.hole tI,.arr 5,.cap0,.hole tI,.hole tI,.hole .bool],.arr (.nm 3),.arr (.nm 4)]⟩,[(.cell 228 5,.nm 4)],[(.cell 3 5,.nm 4)],[tI,tI,tLI,tI,tL 10,tI,.str,tI,tI,tI,tI,tI,.bool,tL 3,tL 4],[⟨.exit 3,⟨[(1,hP 0 0),(2,hP 1 0),(4,hh tI),(5,hP 2 0),(6,hh tI),(8,hP 3 0)],[bb (tL 10),.box [.cap0],.box [.arr 4],.box [.hole tI,.hole .str,.hole tI,.hole tI,.hole tI,.arr 5,.cap0,.hole tI,.hole tI,.hole .bool],.arr (.nm 3),.arr (.nm 4)]⟩,[],[tI,tI,tL 10,tI,.str,tI,tI,tI,tI,tI,.bool,tL 3,tL 4]⟩],[]⟩
def e20_0 :LEnt:=⟨0,⟨[(1,hP 0 0),(2,hP 1 0),(4,hh tI),(5,hP 2 0),(6,hh tI)],[bb (tL 10),.box [.cap0],.box [.arr 3],.arr (.nm 3)]⟩,[(.cell 208 0,.nm 3)],[(.cell 2 0,.nm 3)],[tI,tI,tL 10,tL 3],[⟨.exit 0,⟨[(2,hP 0 0),(5,hP 1 0)],[.box [.cap0],.box [.arr 2],.arr (.nm 3)]⟩,[],[tL 3]⟩],[gwr]⟩
def e20 :FEnt:=⟨20,[.row 9],[],[.nm 9],.tup [.row 5,hh .bool],[],[.nm 5,.bool],[e20_0]⟩
def e109 :FEnt:=⟨109,[.row 3],[],[.nm 3],.row 3,[],[.nm 3],[]⟩
def gl7 :LEnt:=⟨0,⟨[(0,hh (tL 1)),(1,hh (tL 1)),(5,hh tI)],[]⟩,[],[],[tL 1,tL 1,tI],[oR 4 .bool,oX 0],[]⟩
def e101 :FEnt:=⟨101,[hh (tL 1),hh (tL 1)],[],[tL 1,tL 1],hh .bool,[],[.bool],[gl7]⟩
def e58_0 :LEnt:=⟨0,⟨[(2,hP 0 0),(3,hP 1 0),(5,hh tI)],[.brow 1,.brow 1]⟩,[],[],[tI,.nm 1,.nm 1],[oR 4 .bool,⟨.exit 0,⟨[(2,hP 0 0),(3,hP 1 0)],[.brow 1,.brow 1]⟩,[],[.nm 1,.nm 1]⟩],[]⟩
def e58 :FEnt:=⟨58,[.row 1,.row 1],[],[.nm 1,.nm 1],hh .bool,[],[.bool],[e58_0]⟩
def e141 :FEnt:=⟨141,[.row 0,.row 0],[],[.nm 0,.nm 0],hh .bool,[],[.bool],[]⟩
def g111 :LEnt:=⟨0,⟨[(2,hP 0 0),(3,hP 1 0),(5,hh tI)],[.brow 3,.brow 3]⟩,[],[],[tI,.nm 3,.nm 3],[oR 4 .bool,⟨.exit 0,⟨[(2,hP 0 0),(3,hP 1 0)],[.brow 3,.brow 3]⟩,[],[.nm 3,.nm 3]⟩],[]⟩
def g112 :LEnt:=⟨1,⟨[(2,hP 0 0),(3,hP 1 0),(6,hh tI)],[.brow 3,.brow 3]⟩,[],[],[tI,.nm 3,.nm 3],[oR 4 .bool,oX 2],[]⟩
def e108 :FEnt:=⟨108,[.row 3,.row 3],[],[.nm 3,.nm 3],hh .bool,[],[.bool],[g111,g112]⟩
def e142 :FEnt:=⟨142,[hh (.int .u8)],[],[.int .u8],hh .bool,[],[.bool],[]⟩
def e143 :FEnt:=⟨143,[hh (.int .u8)],[],[.int .u8],hh .bool,[],[.bool],[]⟩
def g113 :LEnt:=⟨0,⟨[(0,hh .str),(3,hh tI)],[]⟩,[],[],[.str,tI],[oR 2 .bool,oX 0],[]⟩
def e110 :FEnt:=⟨110,[hh .str],[],[.str],hh .bool,[],[.bool],[g113]⟩
def e144 :FEnt:=⟨144,[hh tI,hh tI],[],[tI,tI],hh .bool,[],[.bool],[]⟩
def gtx :LEnt:=⟨0,⟨[(0,hh (tL 4)),(4,hh tI),(5,hh tI)],[]⟩,[],[],[tL 4,tI,tI],[oR 2 .bool,⟨.exit 2,⟨[(0,hh (tL 4)),(4,hh tI)],[]⟩,[],[tL 4,tI]⟩],[]⟩
def g114 :LEnt:=⟨0,⟨[(0,hh (tL 4)),(3,hh tI),(4,hh tI)],[]⟩,[],[],[tL 4,tI,tI],[oR 2 .bool,⟨.exit 0,⟨[(0,hh (tL 4))],[]⟩,[],[tL 4]⟩],[gtx]⟩
def e111 :FEnt:=⟨111,[hh (tL 4)],[],[tL 4],hh .bool,[],[.bool],[g114]⟩
def gty :LEnt:=⟨0,⟨[(0,hh (tL 0)),(1,hh .bool),(6,hh tI),(7,hP 0 0),(8,hh tI)],[.brow 0]⟩,[],[],[tL 0,.bool,tI,tI,.nm 0],[oR 4 .bool,⟨.exit 2,⟨[(0,hh (tL 0)),(1,hh .bool),(6,hh tI),(7,hP 0 0)],[.brow 0]⟩,[],[tL 0,.bool,tI,.nm 0]⟩],[]⟩
def g115 :LEnt:=⟨0,⟨[(0,hh (tL 0)),(1,hh .bool),(5,hh tI),(6,hh tI)],[]⟩,[],[],[tL 0,.bool,tI,tI],[oR 4 .bool,⟨.exit 0,⟨[(0,hh (tL 0)),(1,hh .bool)],[]⟩,[],[tL 0,.bool]⟩],[gty]⟩
def e112 :FEnt:=⟨112,[hh (tL 0),hh .bool],[],[tL 0,.bool],hh .bool,[],[.bool],[g115]⟩
def e65 :FEnt:=⟨65,[.row 3],[],[.nm 3],hh .bool,[],[.bool],[]⟩
def e66_0 :LEnt:=⟨0,⟨[(1,hP 0 0),(3,.c (.arr 1)),(4,hh tI)],[.brow 3,.arr tI]⟩,[(.slot 3,tI)],[(.slot 3,tI)],[tI,.nm 3,tLI],[⟨.exit 0,⟨[(1,hP 0 0),(3,.c (.arr 1))],[.brow 3,.arr tI]⟩,[],[.nm 3,tLI]⟩],[]⟩
def e66 :FEnt:=⟨66,[.row 3],[],[.nm 3],hh tLI,[],[tLI],[e66_0]⟩
def gws :LEnt:=⟨0,⟨[(1,hP 0 0),(3,hh tI),(4,hP 1 0),(5,hh tI)],[bb (tL 3),.box [.hole tI,.hole .str,.hole tI,.hole tI,.hole tI,.hole (tL 4),.hole (tL 0),.hole tI,.hole tI,.hole .bool]]⟩,[],[],[tI,tI,tL 3,tI,.str,tI,tI,tI,tL 4,tL 0,tI,tI,.bool],[oR 2 tI,⟨.exit 2,⟨[(1,hP 0 0),(3,hh tI),(4,hP 1 0)],[bb (tL 3),.box [.hole tI,.hole .str,.hole tI,.hole tI,.hole tI,.hole (tL 4),.hole (tL 0),.hole tI,.hole tI,.hole .bool]]⟩,[],[tI,tL 3,tI,.str,tI,tI,tI,tL 4,tL 0,tI,tI,.bool]⟩],[]⟩
def gwt :LEnt:=⟨1,⟨[(1,hP 0 0),(3,hh tI),(4,hP 1 0),(6,hh tLI),(7,hh tI)],[bb (tL 3),.box [.hole tI,.hole .str,.hole tI,.hole tI,.hole tI,.hole (tL 4),.hole (tL 0),.hole tI,.hole tI,.hole .bool]]⟩,[],[],[tI,tLI,tI,tL 3,tI,.str,tI,tI,tI,tL 4,tL 0,tI,tI,.bool],[oR 2 tI,⟨.exit 4,⟨[(1,hP 0 0),(3,hh tI),(4,hP 1 0)],[bb (tL 3),.box [.hole tI,.hole .str,.hole tI,.hole tI,.hole tI,.hole (tL 4),.hole (tL 0),.hole tI,.hole tI,.hole .bool]]⟩,[],[tI,tL 3,tI,.str,tI,tI,tI,tL 4,tL 0,tI,tI,.bool]⟩],[]⟩
def e33_0 :LEnt:=⟨0,⟨[(1,hP 0 0),(3,hh tI)],[bb (tL 3)]⟩,[],[],[tI,tL 3],[oR 2 tI,oX 0],[gws,gwt]⟩
def e33 :FEnt:=⟨33,[.row 5],[],[.nm 5],hh tI,[],[tI],[e33_0]⟩
def e86_0 :LEnt:=⟨0,⟨[(1,hh tI),(2,hP 0 0),(6,hh tI)],[.brow 3]⟩,[],[],[tI,tI,.nm 3],[⟨.ret,⟨[(4,hh tI),(5,hh .bool)],[]⟩,[],[tI,.bool]⟩,oX 0],[]⟩
def e86 :FEnt:=⟨86,[.row 3,hh tI],[],[.nm 3,tI],.tup [hh tI,hh .bool],[],[tI,.bool],[e86_0]⟩
def e87_0 :LEnt:=⟨0,⟨[(1,hh tI),(2,hP 0 0),(6,hh tI)],[.brow 3]⟩,[],[],[tI,tI,.nm 3],[⟨.ret,⟨[(4,hh tI),(5,hh .bool)],[]⟩,[],[tI,.bool]⟩,oX 0],[]⟩
def e87 :FEnt:=⟨87,[.row 3,hh tI],[],[.nm 3,tI],.tup [hh tI,hh .bool],[],[tI,.bool],[e87_0]⟩
def e104 :FEnt:=⟨104,[hh tI],[],[tI],hh (.int .u64),[],[.int .u64],[]⟩
def g116 :LEnt:=⟨0,⟨[(0,hh (.int .u64)),(3,hh .str)],[]⟩,[],[],[.int .u64,.str],[⟨.exit 0,⟨[(3,hh .str)],[]⟩,[],[.str]⟩],[]⟩
def e103 :FEnt:=⟨103,[hh (.int .u64)],[],[.int .u64],hh .str,[],[.str],[g116]⟩
def g117 :LEnt:=⟨0,⟨[(0,hh (.int .u64)),(3,.c (.arr 0))],[.arr (.int .u8)]⟩,[(.slot 3,.int .u8)],[(.slot 3,.int .u8)],[.int .u64,.slice (.int .u8)],[⟨.exit 0,⟨[(0,hh (.int .u64)),(3,.c (.arr 0))],[.arr (.int .u8)]⟩,[],[.int .u64,.slice (.int .u8)]⟩],[]⟩
def e105 :FEnt:=⟨105,[hh (.int .u64)],[],[.int .u64],hh .str,[],[.str],[g117]⟩
def e106 :FEnt:=⟨106,[hh .str],[],[.str],hh .str,[],[.str],[]⟩
def e69 :FEnt:=⟨69,[hh tI,hh .bool,hh .str],[],[tI,.bool,.str],hh .str,[],[.str],[]⟩
def gwu :LEnt:=⟨0,⟨[(3,hP 0 0),(5,hP 1 0),(7,hP 2 0),(14,hh .str),(15,hh tI),(19,hh tI)],[bb (tL 3),.brow 1,.brow 3]⟩,[],[],[.str,tI,tI,tL 3,.nm 1,.nm 3],[⟨.exit 7,⟨[(3,hP 0 0),(5,hP 1 0),(7,hP 2 0),(14,hh .str),(15,hh tI)],[bb (tL 3),.brow 1,.brow 3]⟩,[],[.str,tI,tL 3,.nm 1,.nm 3]⟩],[]⟩
def e60_0 :LEnt:=⟨0,⟨[(3,hP 0 0),(5,hP 1 0),(7,hP 2 0),(10,hh .str),(11,hh tI)],[bb (tL 3),.brow 1,.brow 3]⟩,[],[],[.str,tI,tL 3,.nm 1,.nm 3],[⟨.exit 1,⟨[(10,hh .str)],[]⟩,[],[.str]⟩],[]⟩
def e60_1 :LEnt:=⟨1,⟨[(3,hP 0 0),(5,hP 1 0),(7,hP 2 0),(12,hh .str),(13,hh tI)],[bb (tL 3),.brow 1,.brow 3]⟩,[],[],[.str,tI,tL 3,.nm 1,.nm 3],[⟨.exit 3,⟨[(12,hh .str)],[]⟩,[],[.str]⟩],[]⟩
def e60_2 :LEnt:=⟨2,⟨[(3,hP 0 0),(5,hP 1 0),(7,hP 2 0),(14,hh .str),(15,hh tI)],[bb (tL 3),.brow 1,.brow 3]⟩,[],[],[.str,tI,tL 3,.nm 1,.nm 3],[⟨.exit 5,⟨[(14,hh .str)],[]⟩,[],[.str]⟩],[gwu]⟩
def e60 :FEnt:=⟨60,[.row 5,hh tI,.row 1],[],[.nm 5,tI,.nm 1],hh .str,[],[.str],[e60_0,e60_1,e60_2]⟩
def e4 :FEnt:=⟨4,[.row 9,hh tI,hh .str],[],[.nm 9,tI,.str],hh .bool,[],[.bool],[]⟩
def e89 :FEnt:=⟨89,[hP 0 0,hh tI],[.box [.hole (tL 3),.hole (.slice (.int .u8)),.hole .bool]],[tI,tL 3,.slice (.int .u8),.bool],hh tI,[.box [.hole (tL 3),.hole (.slice (.int .u8)),.hole .bool]],[tI,tL 3,.slice (.int .u8),.bool],[]⟩
def e90_0 :LEnt:=⟨0,⟨[(0,hP 0 0),(5,hh .str),(6,hh tI)],[.box [.hole (tL 3),.hole (.slice (.int .u8)),.hole .bool]]⟩,[],[],[.str,tI,tL 3,.slice (.int .u8),.bool],[⟨.exit 0,⟨[(5,hh .str)],[.box [.hole (tL 3),.hole (.slice (.int .u8)),.hole .bool]]⟩,[],[.str,tL 3,.slice (.int .u8),.bool]⟩],[]⟩
def e90 :FEnt:=⟨90,[hP 0 0,hh tI],[.box [.hole (tL 3),.hole (.slice (.int .u8)),.hole .bool]],[tI,tL 3,.slice (.int .u8),.bool],hh .str,[.box [.hole (tL 3),.hole (.slice (.int .u8)),.hole .bool]],[.str,tL 3,.slice (.int .u8),.bool],[e90_0]⟩
def e91 :FEnt:=⟨91,[hP 0 0],[.box [.hole (tL 3),.hole (.slice (.int .u8)),.hole .bool]],[tL 3,.slice (.int .u8),.bool],hh .bool,[.box [.hole (tL 3),.hole (.slice (.int .u8)),.hole .bool]],[.bool,tL 3,.slice (.int .u8),.bool],[]⟩
def e130 :FEnt:=⟨130,[.row 3,hh tI],[],[.nm 3,tI],hh .bool,[],[.bool],[]⟩
def e92_0 :LEnt:=⟨0,⟨[(3,hP 1 0),(5,hh tI)],[.box [.hole (tL 3),.hole (.slice (.int .u8)),.hole .bool],.brow 3]⟩,[],[],[tI,tL 3,.slice (.int .u8),.bool,.nm 3],[⟨.exit 0,⟨[(5,hh tI)],[.box [.hole (tL 3),.hole (.slice (.int .u8)),.hole .bool]]⟩,[],[tI,tL 3,.slice (.int .u8),.bool]⟩],[]⟩
def e92 :FEnt:=⟨92,[hP 0 0,.row 3],[.box [.hole (tL 3),.hole (.slice (.int .u8)),.hole .bool]],[.nm 3,tL 3,.slice (.int .u8),.bool],hh tI,[.box [.hole (tL 3),.hole (.slice (.int .u8)),.hole .bool]],[tI,tL 3,.slice (.int .u8),.bool],[e92_0]⟩
def e93 :FEnt:=⟨93,[hP 0 0,hh tI],[.box [.hole (tL 3),.hole (.slice (.int .u8)),.hole .bool]],[tI,tL 3,.slice (.int .u8),.bool],.row 2,[.box [.hole (tL 3),.hole (.slice (.int .u8)),.hole .bool]],[.nm 2,tL 3,.slice (.int .u8),.bool],[]⟩
def e154 :FEnt:=⟨154,[hh .bool,hh .bool],[],[.bool,.bool],hh tI,[],[tI],[]⟩
def e131 :FEnt:=⟨131,[.row 1,.row 1],[],[.nm 1,.nm 1],hh tI,[],[tI],[]⟩
def e94_0 :LEnt:=⟨0,⟨[(3,hP 0 0),(4,hP 1 0),(5,hP 2 0),(6,hP 3 0),(7,hh tI)],[.brow 1,.brow 1,.brow 1,.box [.hole tI,.hole .bool,.hole tI,.hole .str,.hole tI,.cap0,.cap0,.cap0]]⟩,[],[],[tI,.nm 1,.nm 1,.nm 1,tI,.bool,tI,.str,tI],[⟨.exit 0,⟨[(3,hP 0 0),(4,hP 1 0),(5,hP 2 0),(6,hP 3 0),(7,hh tI)],[.brow 1,.brow 1,.brow 1,.box [.hole tI,.hole .bool,.hole tI,.hole .str,.hole tI,.cap0,.cap0,.cap0]]⟩,[],[tI,.nm 1,.nm 1,.nm 1,tI,.bool,tI,.str,tI]⟩],[]⟩
def e94 :FEnt:=⟨94,[.row 1,.row 1,.row 1],[],[.nm 1,.nm 1,.nm 1],.row 1,[],[.nm 1],[e94_0]⟩
def e55_0 :LEnt:=⟨0,⟨[(0,hP 0 0),(4,hP 1 0),(5,hP 2 0),(6,hP 3 0),(7,hh tI)],[.box [.hole (tL 3),.hole (.slice (.int .u8)),.hole .bool],.box [.hole tI,.hole .bool,.hole tI,.hole .str,.hole tI,.cap0,.cap0,.cap0],.box [.hole tI,.hole .str,.hole tI,.hole tI,.hole tI,.hole (tL 4),.hole (tL 0),.hole tI,.hole tI,.hole .bool],.box [.hole tI,.hole .bool,.hole tI,.hole .str,.hole tI,.cap0,.arr 4,.cap0],.arr (.nm 1)]⟩,[(.cell 225 6,.nm 1)],[(.cell 3 6,.nm 1)],[tI,tL 3,.slice (.int .u8),.bool,tI,.bool,tI,.str,tI,tI,.str,tI,tI,tI,tL 4,tL 0,tI,tI,.bool,tI,.bool,tI,.str,tI,tL 1],[⟨.exit 1,⟨[(0,hP 0 0),(4,hP 1 0),(5,hP 2 0),(6,hP 3 0)],[.box [.hole (tL 3),.hole (.slice (.int .u8)),.hole .bool],.box [.hole tI,.hole .bool,.hole tI,.hole .str,.hole tI,.cap0,.cap0,.cap0],.box [.hole tI,.hole .str,.hole tI,.hole tI,.hole tI,.hole (tL 4),.hole (tL 0),.hole tI,.hole tI,.hole .bool],.box [.hole tI,.hole .bool,.hole tI,.hole .str,.hole tI,.cap0,.arr 4,.cap0],.arr (.nm 1)]⟩,[],[tL 3,.slice (.int .u8),.bool,tI,.bool,tI,.str,tI,tI,.str,tI,tI,tI,tL 4,tL 0,tI,tI,.bool,tI,.bool,tI,.str,tI,tL 1]⟩],[]⟩
def e55_1 :LEnt:=⟨1,⟨[(0,hP 0 0),(4,hP 1 0),(5,hP 2 0),(6,hP 3 0),(9,hh tI)],[.box [.hole (tL 3),.hole (.slice (.int .u8)),.hole .bool],.box [.hole tI,.hole .bool,.hole tI,.hole .str,.hole tI,.cap0,.cap0,.cap0],.box [.hole tI,.hole .str,.hole tI,.hole tI,.hole tI,.hole (tL 4),.hole (tL 0),.hole tI,.hole tI,.hole .bool],.box [.hole tI,.hole .bool,.hole tI,.hole .str,.hole tI,.cap0,.arr 4,.cap0],.arr (.nm 1)]⟩,[(.cell 225 6,.nm 1)],[(.cell 3 6,.nm 1)],[tI,tL 3,.slice (.int .u8),.bool,tI,.bool,tI,.str,tI,tI,.str,tI,tI,tI,tL 4,tL 0,tI,tI,.bool,tI,.bool,tI,.str,tI,tL 1],[⟨.exit 3,⟨[(4,hP 1 0),(6,hP 2 0)],[.box [.hole (tL 3),.hole (.slice (.int .u8)),.hole .bool],.box [.hole tI,.hole .bool,.hole tI,.hole .str,.hole tI,.cap0,.cap0,.cap0],.box [.hole tI,.hole .bool,.hole tI,.hole .str,.hole tI,.cap0,.arr 3,.cap0],.arr (.nm 1)]⟩,[],[tL 3,.slice (.int .u8),.bool,tI,.bool,tI,.str,tI,tI,.bool,tI,.str,tI,tL 1]⟩],[]⟩
def e55_2 :LEnt:=⟨2,⟨[(0,hP 0 0),(4,hP 1 0),(5,hP 2 0),(6,hP 3 0),(10,hh tI)],[.box [.hole (tL 3),.hole (.slice (.int .u8)),.hole .bool],.box [.hole tI,.hole .bool,.hole tI,.hole .str,.hole tI,.cap0,.cap0,.cap0],.box [.hole tI,.hole .str,.hole tI,.hole tI,.hole tI,.hole (tL 4),.hole (tL 0),.hole tI,.hole tI,.hole .bool],.box [.hole tI,.hole .bool,.hole tI,.hole .str,.hole tI,.hole (tL 1),.hole (tL 1),.hole (tL 2)]]⟩,[],[],[tI,tL 3,.slice (.int .u8),.bool,tI,.bool,tI,.str,tI,tI,.str,tI,tI,tI,tL 4,tL 0,tI,tI,.bool,tI,.bool,tI,.str,tI,tL 1,tL 1,tL 2],[⟨.exit 5,⟨[(4,hP 1 0),(6,hP 2 0)],[.box [.hole (tL 3),.hole (.slice (.int .u8)),.hole .bool],.box [.hole tI,.hole .bool,.hole tI,.hole .str,.hole tI,.cap0,.cap0,.cap0],.box [.hole tI,.hole .bool,.hole tI,.hole .str,.hole tI,.hole (tL 1),.hole (tL 1),.hole (tL 2)]]⟩,[],[tL 3,.slice (.int .u8),.bool,tI,.bool,tI,.str,tI,tI,.bool,tI,.str,tI,tL 1,tL 1,tL 2]⟩],[]⟩
def e55 :FEnt:=⟨55,[hP 0 0,hh tI],[.box [.hole (tL 3),.hole (.slice (.int .u8)),.hole .bool]],[tI,tL 3,.slice (.int .u8),.bool],.row 1,[.box [.hole (tL 3),.hole (.slice (.int .u8)),.hole .bool]],[.nm 1,tL 3,.slice (.int .u8),.bool],[e55_0,e55_1,e55_2]⟩
def e24 :FEnt:=⟨24,[.row 5,hh tI,hh (.slice (.int .u8))],[],[.nm 5,tI,.slice (.int .u8)],.row 1,[],[.nm 1],[]⟩
def e25 :FEnt:=⟨25,[.row 5,hh tI,hh (.slice (.int .u8))],[],[.nm 5,tI,.slice (.int .u8)],.row 1,[],[.nm 1],[]⟩
def e23 :FEnt:=⟨23,[.row 13],[],[.nm 13],.tup [.row 5,hh tI,.row 1,.row 1,hh .bool],[],[.nm 5,tI,.nm 1,.nm 1,.bool],[]⟩
def g15p :LEnt:=⟨0,⟨[(3,hP 0 0),(4,hh tI),(8,.c (.arr 1)),(9,hh tI),(45,hh tI),(46,hh tI),(49,hh tI),(50,hh tI)],[bb (tL 3),.arr (.nm 1)]⟩,[],[],[tI,tI,tI,tI,tI,tI,tL 3,tL 1],[oR 2 .bool,⟨.exit 2,⟨[(3,hP 0 0),(4,hh tI),(8,.c (.arr 1)),(45,hh tI),(46,hh tI)],[bb (tL 3),.arr (.nm 1)]⟩,[],[tI,tI,tI,tL 3,tL 1]⟩],[]⟩
def e5_0 :LEnt:=⟨0,⟨[(3,hP 0 0),(4,hh tI),(8,.c (.arr 1)),(45,hh tI),(46,hh tI)],[bb (tL 3),.arr (.nm 1)]⟩,[],[],[tI,tI,tI,tL 3,tL 1],[oR 2 .bool,oX 0],[g15p]⟩
def e5 :FEnt:=⟨5,[.row 12],[],[.nm 12],hh .bool,[],[.bool],[e5_0]⟩
def e137 :FEnt:=⟨137,[.row 1],[],[.nm 1],hh .bool,[],[.bool],[]⟩
def e138 :FEnt:=⟨138,[hh tI,hh .bool],[],[tI,.bool],hh .bool,[],[.bool],[]⟩
def g118 :LEnt:=⟨0,⟨[(1,hh (tL 2)),(2,hP 0 0),(5,hh tI)],[.brow 3]⟩,[],[],[tL 2,tI,.nm 3],[oR 4 .bool,oX 0],[]⟩
def e139 :FEnt:=⟨139,[.row 3,hh (tL 2)],[],[.nm 3,tL 2],hh .bool,[],[.bool],[g118]⟩
def gl8 :LEnt:=⟨0,⟨[(1,hh tI),(2,hh (tL 1)),(3,hh .bool),(4,hP 0 0),(9,hh tI)],[bb (tL 3)]⟩,[],[],[tI,tL 1,.bool,tI,tL 3],[oR 8 .bool,oX 0],[]⟩
def e140 :FEnt:=⟨140,[.row 5,hh tI,hh (tL 1),hh .bool],[],[.nm 5,tI,tL 1,.bool],hh .bool,[],[.bool],[gl8]⟩
def gl9 :LEnt:=⟨0,⟨[(3,hh .bool),(4,hP 0 0),(6,hP 1 0),(9,hP 2 0),(12,hh tI)],[bb (tL 3),.brow 1,.box [.hole tI,.hole .str,.hole tI,.hole tI,.hole tI,.hole (tL 4),.hole (tL 0),.hole tI,.hole tI,.hole .bool]]⟩,[],[],[.bool,tI,tL 3,.nm 1,tI,.str,tI,tI,tI,tL 4,tL 0,tI,tI,.bool],[oR 8 .bool,oX 1],[]⟩
def g119 :LEnt:=⟨1,⟨[(6,hP 0 0),(15,hh tI)],[.brow 1]⟩,[],[],[tI,.nm 1],[oR 8 .bool,oX 3],[]⟩
def e107 :FEnt:=⟨107,[.row 5,hh tI,.row 1,hh .bool],[],[.nm 5,tI,.nm 1,.bool],hh .bool,[],[.bool],[gl9,g119]⟩
def e102 :FEnt:=⟨102,[.row 5,hh tI,.row 1],[],[.nm 5,tI,.nm 1],hh .bool,[],[.bool],[]⟩
def e59 :FEnt:=⟨59,[.row 5,hh tI,.row 1],[],[.nm 5,tI,.nm 1],hh tI,[],[tI],[]⟩
def e61_0 :LEnt:=⟨0,⟨[(3,hP 0 0),(5,hP 1 0),(7,hP 2 0),(8,hh tI),(9,hh tI)],[bb (tL 3),.brow 1,.brow 3]⟩,[],[],[tI,tI,tL 3,.nm 1,.nm 3],[⟨.exit 0,⟨[(5,hP 0 0),(8,hh tI)],[.brow 1]⟩,[],[tI,.nm 1]⟩],[]⟩
def e61 :FEnt:=⟨61,[.row 5,hh tI,.row 1],[],[.nm 5,tI,.nm 1],hh tI,[],[tI],[e61_0]⟩
def e28 :FEnt:=⟨28,[.row 5,hh tI,.row 1],[],[.nm 5,tI,.nm 1],.tup [hh .str,hh tI],[],[.str,tI],[]⟩
def e29 :FEnt:=⟨29,[.row 5,hh tI,.row 1],[],[.nm 5,tI,.nm 1],.tup [hh tI,hh tI],[],[tI,tI],[]⟩
def e6_0 :LEnt:=⟨0,⟨[(3,hP 0 0),(4,hh tI),(33,.c (.arr 1)),(34,hh tI),(35,hh tI)],[bb (tL 3),.arr (.nm 1)]⟩,[],[],[tI,tI,tI,tL 3,tL 1],[oR 2 .bool,oX 0],[]⟩
def e6 :FEnt:=⟨6,[.row 13],[],[.nm 13],hh .bool,[],[.bool],[e6_0]⟩
def e7 :FEnt:=⟨7,[.row 5,hh tI,.row 1],[],[.nm 5,tI,.nm 1],hh .bool,[],[.bool],[]⟩
def e8 :FEnt:=⟨8,[hh tI,hh .bool,hh .str],[],[tI,.bool,.str],hh .bool,[],[.bool],[]⟩
def e9_0 :LEnt:=⟨0,⟨[(8,hh .str),(11,hh tI),(12,hh .str),(57,hh (tL 8)),(58,hh tI),(59,hh tI)],[]⟩,[],[],[.str,tI,.str,tL 8,tI,tI],[oR 2 .bool,⟨.exit 1,⟨[(8,hh .str),(11,hh tI),(12,hh .str)],[]⟩,[],[.str,tI,.str]⟩],[]⟩
def e9 :FEnt:=⟨9,[.row 13],[],[.nm 13],hh .bool,[],[.bool],[e9_0]⟩
def e10_0 :LEnt:=⟨0,⟨[(0,hh (.int .u8)),(1,hh (.int .u8)),(2,hh (.int .u8)),(7,hP 0 0),(8,hP 1 0),(24,hh (.int .u8)),(25,hh (.int .u8))],[bb (tL 3),.box [.hole tI,.hole .bool,.hole tI,.hole .str,.hole tI,.cap0,.arr 2,.cap0],.arr (.nm 1)]⟩,[(.cell 176 6,.nm 1)],[(.cell 1 6,.nm 1)],[.int .u8,.int .u8,.int .u8,.int .u8,.int .u8,tL 3,tI,.bool,tI,.str,tI,tL 1],[⟨.exit 0,⟨[(0,hh (.int .u8)),(1,hh (.int .u8)),(2,hh (.int .u8)),(7,hP 0 0),(8,hP 1 0)],[bb (tL 3),.box [.hole tI,.hole .bool,.hole tI,.hole .str,.hole tI,.cap0,.arr 2,.cap0],.arr (.nm 1)]⟩,[],[.int .u8,.int .u8,.int .u8,tL 3,tI,.bool,tI,.str,tI,tL 1]⟩],[]⟩
def e10_1 :LEnt:=⟨1,⟨[(0,hh (.int .u8)),(1,hh (.int .u8)),(2,hh (.int .u8)),(7,hP 0 0),(8,hP 1 0),(9,hP 2 0),(39,hh (.int .u8)),(40,hh (.int .u8))],[bb (tL 3),.box [.hole tI,.hole .bool,.hole tI,.hole .str,.hole tI,.cap0,.arr 3,.cap0],.box [.hole tI,.hole .bool,.hole tI,.hole .str,.hole tI,.cap0,.hole (tL 1),.cap0],.arr (.nm 1)]⟩,[],[],[.int .u8,.int .u8,.int .u8,.int .u8,.int .u8,tL 3,tI,.bool,tI,.str,tI,tI,.bool,tI,.str,tI,tL 1,tL 1],[⟨.exit 2,⟨[(0,hh (.int .u8)),(1,hh (.int .u8)),(2,hh (.int .u8)),(7,hP 0 0),(8,hP 1 0),(9,hP 2 0)],[bb (tL 3),.box [.hole tI,.hole .bool,.hole tI,.hole .str,.hole tI,.cap0,.arr 3,.cap0],.box [.hole tI,.hole .bool,.hole tI,.hole .str,.hole tI,.cap0,.hole (tL 1),.cap0],.arr (.nm 1)]⟩,[],[.int .u8,.int .u8,.int .u8,tL 3,tI,.bool,tI,.str,tI,tI,.bool,tI,.str,tI,tL 1,tL 1]⟩],[]⟩
def e10 :FEnt:=⟨10,[hh (.int .u8),hh (.int .u8),hh (.int .u8)],[],[.int .u8,.int .u8,.int .u8],hh .bool,[],[.bool],[e10_0,e10_1]⟩
def tabE0 :List FEnt:=[e38,e39,e167,e177,ghs,e170,e169,e168,e150,e163,e164,e147,e165,e148,e166,e149,e120,e121,e79,e52]
def tabE1 :List FEnt:=[e171,e155,e153,e152,e129,e156,e126,e125,e82,e173,e189,e172,e157,e97,e190,e174,e162,e136,e191,e176]
def tabE2 :List FEnt:=[e175,e158,e132,e95,e56,e96,ght,e159,e133,e113,e100,e68,e73,e75,e98,e99,e57,e26,e76,e41]
def tabE3 :List FEnt:=[e42,e14,e40,e12,e80,ghu,ghv,ghw,e124,e81,e16,e127,e128,e83,e53,e21,e11]
def tabE :List FEnt:=tabE0++tabE1++tabE2++tabE3
theorem g15q :tabE.all (okE prog)=true:=by kernel_rfl
def gqd :FSpec Un:={gcj with F:=sortK (α:=Un.D 6) sortLt}
theorem gqe :FnC prog gqd:=⟨gck.1,fun h r hr=>gck.2 h r (g13c sortSWO _ r hr)⟩
def g8i(_:Unit) :Option (Bool):=some true
theorem gjt :FC e11 g8i:= .run g15q (.k gqe (.k ggd .n)) (.m (by kernel_rfl)) 3000 fun _=>by kernel_rfl
theorem gba :g8i ()=some true:=rfl
end
section
open Go Go.Proofs.YthnmepafpikaiaaGreat.Shv
open Tryz
set_option maxRecDepth 100000
def g14(x_:List SSymbol × List SSymbol × Int × Int) :Option ((Bool) ⊕ (Unit)):=
 match x_ with
 | (s1_1,s2_1,t12_1,t13)=>
 if decide (t13 < t12_1)=true then
 if inR t13 s1_1.length=true then
 some (s1_1.getD t13.toNat dSSymbol) >>=fun x0=>
 if inR t13 s2_1.length=true then
 some (s2_1.getD t13.toNat dSSymbol) >>=fun x0_1=>
 if(!(eqI x0.ID x0_1.ID && (eqS x0.Name x0_1.Name && true)))=true then
 some (.inl false)
 else
 g14 (s1_1,s2_1,t12_1,addI .i64 t13 1)
 else none
 else none
 else
 some (.inr ())
  partial_fixpoint
theorem g9o :LC 167 0 [0] g10m g14:= .rc g14.partial_correctness .n .n fun _ _=>by kernel_rfl
def g46(x_:List SSymbol × List SSymbol) :Option (Bool):=
 match x_ with
 | (s1,s2)=>
 if(!(decide ((s1.length:Int)=(s2.length:Int))))=true then
 some false
 else
 g14 (s1,s2,(s1.length:Int),0) >>=fun o=>
 match o with
 | .inl o_1=>
 some o_1
 | .inr o_2=>
 some true
theorem g15r :KC e167:= .m (by kernel_rfl)
theorem gaf :FC e167 g46:= .fn g15r .n (.k g9o .n) fun _=>by kernel_rfl
def g1l(x_:List SRaw × List SRaw × Int × Int) :Option ((Bool) ⊕ (Unit)):=
 match x_ with
 | (s1_1,s2_1,t12_1,t13)=>
 if decide (t13 < t12_1)=true then
 if inR t13 s1_1.length=true then
 some (s1_1.getD t13.toNat dSRaw) >>=fun x0=>
 if inR t13 s2_1.length=true then
 some (s2_1.getD t13.toNat dSRaw) >>=fun x0_1=>
 if(!(eqI x0.ID x0_1.ID && (eqS x0.Data x0_1.Data && true)))=true then
 some (.inl false)
 else
 g1l (s1_1,s2_1,t12_1,addI .i64 t13 1)
 else none
 else none
 else
 some (.inr ())
  partial_fixpoint
theorem gb7 :LC 177 0 [0] g10n g1l:= .rc g1l.partial_correctness .n .n fun _ _=>by kernel_rfl
def g49(x_:List SRaw × List SRaw) :Option (Bool):=
 match x_ with
 | (s1,s2)=>
 if(!(decide ((s1.length:Int)=(s2.length:Int))))=true then
 some false
 else
 g1l (s1,s2,(s1.length:Int),0) >>=fun o=>
 match o with
 | .inl o_1=>
 some o_1
 | .inr o_2=>
 some true
theorem g15s :KC e177:= .m (by kernel_rfl)
theorem g8g :FC e177 g49:= .fn g15s .n (.k gb7 .n) fun _=>by kernel_rfl
mutual
def g4w(x_:SValue × SValue) :Option (Bool):=
 match x_ with
 | (a,b)=>
 some (bif bif bif bif decide (a.Kind=b.Kind)then eqB a.Bool_ b.Bool_ else false then decide (a.Int_=b.Int_)else false then decide (a.Str=b.Str)else false then decide (a.ID=b.ID)else false) >>=fun t37=>
 (if t37=true then g49 (a.Rest,b.Rest)else some false) >>=fun r=>
 some (bif t37 then r else false) >>=fun t44=>
 (if t44=true then g1f (a.Keys,b.Keys)else some false) >>=fun r_1=>
 some (bif t44 then r_1 else false) >>=fun t51=>
 (if t51=true then g1f (a.Items,b.Items)else some false) >>=fun r_2=>
 some (bif t51 then r_2 else false)
  partial_fixpoint
def g1f(x_:List SValue × List SValue) :Option (Bool):=
 match x_ with
 | (s1,s2)=>
 if(!(decide ((s1.length:Int)=(s2.length:Int))))=true then
 some false
 else
 gy (s2,s1,(s1.length:Int),0) >>=fun o=>
 match o with
 | .inl o_1=>
 some o_1
 | .inr o_2=>
 some true
  partial_fixpoint
def gy(x_:List SValue × List SValue × Int × Int) :Option ((Bool) ⊕ (Unit)):=
 match x_ with
 | (s2_1,t15,t16_1,t17)=>
 if decide (t17 < t16_1)=true then
 if inR t17 t15.length=true then
 if inR t17 s2_1.length=true then
 g4w (SValue.eta (t15.getD t17.toNat dSValue),SValue.eta (s2_1.getD t17.toNat dSValue)) >>=fun r=>
 if(!r)=true then
 some (.inl false)
 else
 gy (s2_1,t15,t16_1,addI .i64 t17 1)
 else none
 else none
 else
 some (.inr ())
  partial_fixpoint
end
theorem gtz :KC e170:= .m (by kernel_rfl)
theorem gu0 :KC ghs:= .m (by kernel_rfl)
theorem gp4 :(∀h r,g4w h=some r→FD e170 h r)∧(∀h r,g1f h=some r→FD ghs h r)∧(∀h r,gy h=some r→LD 178 0 [0] gf6 h r):=g4w.mutual_partial_correctness (FD e170) (FD ghs) (LD 178 0 [0] gf6)
 (fun _ h1 _ _ h=>FA e170 gtz (.k g8g (.k (FH ghs gu0 h1) .n)) .n (.trans (by kernel_rfl) h))
 (fun _ h2 _ _ h=>FA ghs gu0 .n (.k (LH gf6 h2) .n) (.trans (by kernel_rfl) h))
 (fun _ _ h0 h2 _ _ h=>LA gf6 h2 (.k (FH e170 gtz h0) .n) .n (.trans (by kernel_rfl) h))
theorem gjp :FC e170 g4w:= .of gtz gp4.1
def g8p(x_:SMember × SMember) :Option (Bool):=
 match x_ with
 | (x0,y)=>
 some (bif bif bif bif decide (x0.ID=y.ID)then decide (x0.Name=y.Name)else false then decide (x0.Type_=y.Type_)else false then eqB x0.Critical y.Critical else false then eqB x0.HasDefault y.HasDefault else false) >>=fun t37=>
 (if t37=true then g4w ((⟨x0.Default.Kind,x0.Default.Bool_,x0.Default.Int_,x0.Default.Str,x0.Default.ID,x0.Default.Keys,x0.Default.Items,x0.Default.Rest⟩:SValue),SValue.eta y.Default)else some false) >>=fun r=>
 some (bif t37 then r else false)
theorem g15t :KC e169:= .m (by kernel_rfl)
theorem gnp :FC e169 g8p:= .fn g15t (.k gjp .n) .n fun _=>by kernel_rfl
def gj(x_:List SMember × List SMember × Int × Int) :Option ((Bool) ⊕ (Unit)):=
 match x_ with
 | (s2_1,t15,t16_1,t17)=>
 if decide (t17 < t16_1)=true then
 if inR t17 t15.length=true then
 some (t15.getD t17.toNat dSMember) >>=fun x0=>
 if inR t17 s2_1.length=true then
 some (s2_1.getD t17.toNat dSMember) >>=fun x0_1=>
 g8p ((⟨x0.ID,x0.Name,x0.Type_,x0.Critical,x0.HasDefault,SValue.eta x0.Default⟩:SMember),(⟨x0_1.ID,x0_1.Name,x0_1.Type_,x0_1.Critical,x0_1.HasDefault,SValue.eta x0_1.Default⟩:SMember)) >>=fun r=>
 if(!r)=true then
 some (.inl false)
 else
 gj (s2_1,t15,t16_1,addI .i64 t17 1)
 else none
 else none
 else
 some (.inr ())
  partial_fixpoint
theorem g5k :LC 168 0 [0] g10o gj:= .rc gj.partial_correctness (.k gnp .n) .n fun _ _=>by kernel_rfl
def g1n(x_:List SMember × List SMember) :Option (Bool):=
 match x_ with
 | (s1,s2)=>
 if(!(decide ((s1.length:Int)=(s2.length:Int))))=true then
 some false
 else
 gj (s2,s1,(s1.length:Int),0) >>=fun o=>
 match o with
 | .inl o_1=>
 some o_1
 | .inr o_2=>
 some true
theorem g15u :KC e168:= .m (by kernel_rfl)
theorem g5z :FC e168 g1n:= .fn g15u .n (.k g5k .n) fun _=>by kernel_rfl
def g1y(x_:SType × SType) :Option (Bool):=
 match x_ with
 | (a,b)=>
 some (bif bif bif bif bif bif bif decide (a.Kind=b.Kind)then decide (a.Name=b.Name)else false then decide (a.Low=b.Low)else false then decide (a.High=b.High)else false then decide (a.Max=b.Max)else false then decide (a.Key=b.Key)else false then decide (a.Elem=b.Elem)else false then eqB a.Open b.Open else false) >>=fun t58=>
 (if t58=true then g46 (a.Symbols,b.Symbols)else some false) >>=fun r=>
 some (bif t58 then r else false) >>=fun t65=>
 (if t65=true then g1n (a.Members,b.Members)else some false) >>=fun r_1=>
 some (bif t65 then r_1 else false)
theorem g15v :KC e150:= .m (by kernel_rfl)
theorem gqf :FC e150 g1y:= .fn g15v (.k gaf (.k g5z .n)) .n fun _=>by kernel_rfl
def g8q(c:Int) :Option (Bool):=
 some (bif bif decide (c=95)then true else bif decide (97≤c)then decide (c≤122)else false then true else bif decide (65≤c)then decide (c≤90)else false)
theorem g15w :KC e163:= .m (by kernel_rfl)
theorem gf9 :FC e163 g8q:= .fn g15w .n .n fun _=>by kernel_rfl
end
section
open Go Go.Proofs.YthnmepafpikaiaaGreat.Shv
open Tryz
set_option maxRecDepth 100000
def gb1(c:Int) :Option (Bool):=
 some (bif decide (48≤c)then decide (c≤57)else false)
theorem g15x :KC e164:= .m (by kernel_rfl)
theorem gp5 :FC e164 gb1:= .fn g15x .n .n fun _=>by kernel_rfl
def g2s(x_:List UInt8 × Int × Int) :Option ((Bool) ⊕ (Unit)):=
 match x_ with
 | (s_1,t18_1,t19)=>
 if decide (t19 < t18_1)=true then
 if inR t19 s_1.length=true then
 g8q (g3e s_1 t19) >>=fun r_1=>
 some (!r_1) >>=fun t26=>
 if(inR t19 s_1.length || (!t26))=true then
 (if t26=true then gb1 (g3e s_1 t19)else some false) >>=fun r_2=>
 if(bif t26 then(!r_2)else false)=true then
 some (.inl false)
 else
 g2s (s_1,t18_1,addI .i64 t19 1)
 else none
 else none
 else
 some (.inr ())
  partial_fixpoint
theorem gm8 :LC 147 0 [0] g10p g2s:= .rc g2s.partial_correctness (.k gf9 (.k gp5 .n)) .n fun _ _=>by kernel_rfl
def g3t(s:List UInt8) :Option (Bool):=
 some (bif decide (s=[])then true else decide (24 < (s.length:Int))) >>=fun t10=>
 if(inR 0 s.length || (!(!t10)))=true then
 (if(!t10)=true then g8q (g3e s 0)else some false) >>=fun r=>
 if(bif t10 then true else(!r))=true then
 some false
 else
 g2s (s,(s.length:Int),0) >>=fun o=>
 match o with
 | .inl o_1=>
 some o_1
 | .inr o_2=>
 some true
 else none
theorem g15y :KC e147:= .m (by kernel_rfl)
theorem ghx :FC e147 g3t:= .fn g15y (.k gf9 .n) (.k gm8 .n) fun _=>by kernel_rfl
def g5i(x_:List Int × List (List UInt8) × List Int × Int × Int × List (List UInt8)) :Option ((Bool) ⊕ (List Int)):=
 match x_ with
 | (l_2,names_1,t9,t10_1,t11,b)=>
 if decide (t11 < t10_1)=true then
 if inR t11 t9.length=true then
 some (t9.getD t11.toNat 0) >>=fun x0=>
 some (bif decide (x0 < 1)then true else decide (1000 < x0)) >>=fun t21=>
 some (decide (0 < t11)) >>=fun t24=>
 some (subI .i64 t11 1) >>=fun t29=>
 if(inR t29 l_2.length || (!((!t21) && t24)))=true then
 some (bif t21 then true else bif t24 then decide (x0≤l_2.getD t29.toNat 0)else false) >>=fun t34=>
 if(inR t11 names_1.length || (!(!t34)))=true then
 some (bif t34 then true else hasS b (names_1.getD t11.toNat [])) >>=fun t42=>
 if(inR t11 names_1.length || (!(!t42)))=true then
 (if(!t42)=true then g3t (names_1.getD t11.toNat [])else some false) >>=fun r=>
 if(bif t42 then true else(!r))=true then
 some (.inl false)
 else
 if inR t11 names_1.length=true then
 g5i (l_2,names_1,t9,t10_1,addI .i64 t11 1,addS b (names_1.getD t11.toNat []))
 else none
 else none
 else none
 else none
 else none
 else
 some (.inr l_2)
  partial_fixpoint
theorem gp6 :LC 165 0 [0] g10q g5i:= .rc g5i.partial_correctness (.k ghx .n) .n fun _ _=>by kernel_rfl
def gbp(x_:List Int × List (List UInt8)) :Option (Bool):=
 match x_ with
 | (l,names)=>
 g5i (l,names,l,(l.length:Int),0,[]) >>=fun o=>
 match o with
 | .inl o_1=>
 some o_1
 | .inr o_2=>
 some (decide ((o_2.length:Int)≤16))
theorem g15z :KC e165:= .m (by kernel_rfl)
theorem gla :FC e165 gbp:= .fn g15z .n (.k gp6 .n) fun _=>by kernel_rfl
def g4f(x_:List SSymbol × List SSymbol × Int × Int × List Int × List (List UInt8)) :Option (List SSymbol × List Int × List (List UInt8)):=
 match x_ with
 | (l_2,t7,t8_1,t9,b_2,b_3)=>
 if decide (t9 < t8_1)=true then
 if inR t9 t7.length=true then
 some (t7.getD t9.toNat dSSymbol) >>=fun x0=>
 some [x0.ID] >>=fun t16=>
 if room 8 (b_2++t16).length=true then
 some [x0.Name] >>=fun t21=>
 if room 16 (b_3++t21).length=true then
 g4f (l_2,t7,t8_1,addI .i64 t9 1,b_2++t16,b_3++t21)
 else none
 else none
 else none
 else
 some (l_2,b_2,b_3)
  partial_fixpoint
theorem gju :LC 148 0 [0] g10r g4f:= .rc g4f.partial_correctness .n .n fun _ _=>by kernel_rfl
def g7h(l:List SSymbol) :Option (Bool):=
 g4f (l,l,(l.length:Int),0,[],[]) >>=fun o=>
 some (decide (0 < (o.1.length:Int))) >>=fun t26=>
 (if t26=true then gbp (o.2.1,o.2.2)else some false) >>=fun r=>
 some (bif t26 then r else false)
theorem g160 :KC e148:= .m (by kernel_rfl)
theorem gnq :FC e148 g7h:= .fn g160 (.k gla .n) (.k gju .n) fun _=>by kernel_rfl
def gbq(v:SValue) :Option (Bool):=
 g4w (SValue.eta v,(⟨0,false,0,[],0,[],[],[]⟩:SValue)) >>=fun r=>
 some r
theorem g161 :KC e166:= .m (by kernel_rfl)
theorem gqg :FC e166 gbq:= .fn g161 (.k gjp .n) .n fun _=>by kernel_rfl
def g40(x_:List SMember × Int × Int × SType × List Int × List (List UInt8)) :Option ((Bool) ⊕ (SType × List Int × List (List UInt8))):=
 match x_ with
 | (t8,t9_1,t10,b_3,b_4,b_5)=>
 if decide (t10 < t9_1)=true then
 if inR t10 t8.length=true then
 some (t8.getD t10.toNat dSMember) >>=fun x0=>
 some [x0.ID] >>=fun t17=>
 if room 8 (b_4++t17).length=true then
 some [x0.Name] >>=fun t22=>
 if room 16 (b_5++t22).length=true then
 some (bif bif decide (b_3.Kind=6)then bif x0.Critical then true else x0.HasDefault else false then true else bif x0.Critical then x0.HasDefault else false) >>=fun t42=>
 some (!x0.HasDefault) >>=fun t46=>
 (if((!t42) && t46)=true then gbq (SValue.eta x0.Default)else some false) >>=fun r_1=>
 if(bif t42 then true else bif t46 then(!r_1)else false)=true then
 some (.inl false)
 else
 g40 (t8,t9_1,addI .i64 t10 1,b_3,b_4++t17,b_5++t22)
 else none
 else none
 else none
 else
 some (.inr (b_3,b_4,b_5))
  partial_fixpoint
theorem gjv :LC 149 0 [0] g10s g40:= .rc g40.partial_correctness (.k gqg .n) .n fun _ _=>by kernel_rfl
def g6h(t:SType) :Option (Bool):=
 g40 (t.Members,(t.Members.length:Int),0,t,[],[]) >>=fun o=>
 match o with
 | .inl o_1=>
 some o_1
 | .inr o_2=>
 some (bif decide (o_2.1.Kind=5)then true else decide (0 < (o_2.2.1.length:Int))) >>=fun t62=>
 (if t62=true then gbp (o_2.2.1,o_2.2.2)else some false) >>=fun r=>
 some (bif t62 then r else false)
theorem g162 :KC e149:= .m (by kernel_rfl)
theorem gnr :FC e149 g6h:= .fn g162 (.k gla .n) (.k gjv .n) fun _=>by kernel_rfl
def g1m(t:SType) :Option (Bool):=
 if decide (t.Kind=1)=true then
 g1y ((⟨0,t.Name,t.Low,t.High,t.Max,t.Symbols,t.Members,t.Key,t.Elem,t.Open⟩:SType),(⟨0,[],0,0,0,[],[],0,0,false⟩:SType)) >>=fun r=>
 some r
 else
 if decide (t.Kind=2)=true then
 some (decide (t.Low≤t.High)) >>=fun t17=>
 (if t17=true then g1y ((⟨0,t.Name,0,0,t.Max,t.Symbols,t.Members,t.Key,t.Elem,t.Open⟩:SType),(⟨0,[],0,0,0,[],[],0,0,false⟩:SType))else some false) >>=fun r_1=>
 some (bif t17 then r_1 else false)
 else
 if decide (t.Kind=3)=true then
 some (bif decide (0≤t.Max)then decide (t.Max≤200)else false) >>=fun t29=>
 (if t29=true then g1y ((⟨0,t.Name,t.Low,t.High,0,t.Symbols,t.Members,t.Key,t.Elem,t.Open⟩:SType),(⟨0,[],0,0,0,[],[],0,0,false⟩:SType))else some false) >>=fun r_2=>
 some (bif t29 then r_2 else false)
 else
 if decide (t.Kind=4)=true then
 g3t t.Name >>=fun r_3=>
 (if r_3=true then g7h t.Symbols else some false) >>=fun r_4=>
 some (bif r_3 then r_4 else false) >>=fun t40=>
 (if t40=true then g1y ((⟨0,[],t.Low,t.High,t.Max,[],t.Members,t.Key,t.Elem,false⟩:SType),(⟨0,[],0,0,0,[],[],0,0,false⟩:SType))else some false) >>=fun r_5=>
 some (bif t40 then r_5 else false)
 else
 some (decide (t.Kind=5)) >>=fun t45=>
 if t45=true then
 if t45=true then
 g3t t.Name >>=fun r_6=>
 (if r_6=true then g6h t else some false) >>=fun r_7=>
 some (bif r_6 then r_7 else false) >>=fun t53=>
 (if t53=true then g1y ((⟨0,[],t.Low,t.High,t.Max,t.Symbols,[],t.Key,t.Elem,bif t.Open then decide (t.Kind=5)else false⟩:SType),(⟨0,[],0,0,0,[],[],0,0,false⟩:SType))else some false) >>=fun r_8=>
 some (bif t53 then r_8 else false)
 else
 some (decide (t.Kind=7)) >>=fun t65=>
 if t65=true then
 if t65=true then
 some (bif decide (0≤t.Max)then decide (t.Max≤50)else false) >>=fun t74=>
 if decide (t.Kind=8)=true then
 (if t74=true then g1y ((⟨0,t.Name,t.Low,t.High,0,t.Symbols,t.Members,0,0,t.Open⟩:SType),(⟨0,[],0,0,0,[],[],0,0,false⟩:SType))else some false) >>=fun r_9=>
 some (bif t74 then r_9 else false)
 else
 (if t74=true then g1y ((⟨0,t.Name,t.Low,t.High,0,t.Symbols,t.Members,t.Key,0,t.Open⟩:SType),(⟨0,[],0,0,0,[],[],0,0,false⟩:SType))else some false) >>=fun r_10=>
 some (bif t74 then r_10 else false)
 else
 if decide (t.Kind=9)=true then
 g1y ((⟨0,t.Name,t.Low,t.High,t.Max,t.Symbols,t.Members,t.Key,0,t.Open⟩:SType),(⟨0,[],0,0,0,[],[],0,0,false⟩:SType)) >>=fun r_11=>
 some r_11
 else
 some false
 else
 if decide (t.Kind=8)=true then
 some (bif decide (0≤t.Max)then decide (t.Max≤50)else false) >>=fun t74_1=>
 if decide (t.Kind=8)=true then
 (if t74_1=true then g1y ((⟨0,t.Name,t.Low,t.High,0,t.Symbols,t.Members,0,0,t.Open⟩:SType),(⟨0,[],0,0,0,[],[],0,0,false⟩:SType))else some false) >>=fun r_12=>
 some (bif t74_1 then r_12 else false)
 else
 (if t74_1=true then g1y ((⟨0,t.Name,t.Low,t.High,0,t.Symbols,t.Members,t.Key,0,t.Open⟩:SType),(⟨0,[],0,0,0,[],[],0,0,false⟩:SType))else some false) >>=fun r_13=>
 some (bif t74_1 then r_13 else false)
 else
 if decide (t.Kind=9)=true then
 g1y ((⟨0,t.Name,t.Low,t.High,t.Max,t.Symbols,t.Members,t.Key,0,t.Open⟩:SType),(⟨0,[],0,0,0,[],[],0,0,false⟩:SType)) >>=fun r_14=>
 some r_14
 else
 some false
 else
 if decide (t.Kind=6)=true then
 g3t t.Name >>=fun r_15=>
 (if r_15=true then g6h t else some false) >>=fun r_16=>
 some (bif r_15 then r_16 else false) >>=fun t53_1=>
 (if t53_1=true then g1y ((⟨0,[],t.Low,t.High,t.Max,t.Symbols,[],t.Key,t.Elem,bif t.Open then decide (t.Kind=5)else false⟩:SType),(⟨0,[],0,0,0,[],[],0,0,false⟩:SType))else some false) >>=fun r_17=>
 some (bif t53_1 then r_17 else false)
 else
 some (decide (t.Kind=7)) >>=fun t65_1=>
 if t65_1=true then
 if t65_1=true then
 some (bif decide (0≤t.Max)then decide (t.Max≤50)else false) >>=fun t74_2=>
 if decide (t.Kind=8)=true then
 (if t74_2=true then g1y ((⟨0,t.Name,t.Low,t.High,0,t.Symbols,t.Members,0,0,t.Open⟩:SType),(⟨0,[],0,0,0,[],[],0,0,false⟩:SType))else some false) >>=fun r_18=>
 some (bif t74_2 then r_18 else false)
 else
 (if t74_2=true then g1y ((⟨0,t.Name,t.Low,t.High,0,t.Symbols,t.Members,t.Key,0,t.Open⟩:SType),(⟨0,[],0,0,0,[],[],0,0,false⟩:SType))else some false) >>=fun r_19=>
 some (bif t74_2 then r_19 else false)
 else
 if decide (t.Kind=9)=true then
 g1y ((⟨0,t.Name,t.Low,t.High,t.Max,t.Symbols,t.Members,t.Key,0,t.Open⟩:SType),(⟨0,[],0,0,0,[],[],0,0,false⟩:SType)) >>=fun r_20=>
 some r_20
 else
 some false
 else
 if decide (t.Kind=8)=true then
 some (bif decide (0≤t.Max)then decide (t.Max≤50)else false) >>=fun t74_3=>
 if decide (t.Kind=8)=true then
 (if t74_3=true then g1y ((⟨0,t.Name,t.Low,t.High,0,t.Symbols,t.Members,0,0,t.Open⟩:SType),(⟨0,[],0,0,0,[],[],0,0,false⟩:SType))else some false) >>=fun r_21=>
 some (bif t74_3 then r_21 else false)
 else
 (if t74_3=true then g1y ((⟨0,t.Name,t.Low,t.High,0,t.Symbols,t.Members,t.Key,0,t.Open⟩:SType),(⟨0,[],0,0,0,[],[],0,0,false⟩:SType))else some false) >>=fun r_22=>
 some (bif t74_3 then r_22 else false)
 else
 if decide (t.Kind=9)=true then
 g1y ((⟨0,t.Name,t.Low,t.High,t.Max,t.Symbols,t.Members,t.Key,0,t.Open⟩:SType),(⟨0,[],0,0,0,[],[],0,0,false⟩:SType)) >>=fun r_23=>
 some r_23
 else
 some false
theorem g163 :KC e120:= .m (by kernel_rfl)
theorem gsg :FC e120 g1m:= .fn g163 (.k gqf (.k ghx (.k gnq (.k gnr .n)))) .n fun _=>by kernel_rfl
def g5r(x_:List SMember × Int × Int × SType × List Int) :Option (SType × List Int):=
 match x_ with
 | (t7,t8_1,t9,b_2,b_3)=>
 if decide (t9 < t8_1)=true then
 if inR t9 t7.length=true then
 some [(t7.getD t9.toNat dSMember).Type_] >>=fun t16=>
 if room 8 (b_3++t16).length=true then
 g5r (t7,t8_1,addI .i64 t9 1,b_2,b_3++t16)
 else none
 else none
 else
 some (b_2,b_3)
  partial_fixpoint
theorem gns :LC 121 0 [0] g10t g5r:= .rc g5r.partial_correctness .n .n fun _ _=>by kernel_rfl
def gct(t:SType) :Option (List Int):=
 g5r (t.Members,(t.Members.length:Int),0,t,[]) >>=fun o=>
 if decide (o.1.Kind=8)=true then
 some [o.1.Key] >>=fun t25=>
 if room 8 (o.2++t25).length=true then
 some (o.2++t25) >>=fun l=>
 if decide (7≤o.1.Kind)=true then
 some [o.1.Elem] >>=fun t33=>
 if room 8 (l++t33).length=true then
 some (l++t33)
 else none
 else
 some l
 else none
 else
 if decide (7≤o.1.Kind)=true then
 some [o.1.Elem] >>=fun t33_1=>
 if room 8 (o.2++t33_1).length=true then
 some (o.2++t33_1)
 else none
 else
 some o.2
theorem g164 :KC e121:= .m (by kernel_rfl)
theorem gsh :FC e121 gct:= .fn g164 .n (.k gns .n) fun _=>by kernel_rfl
def g41(x_:List SType × Int × Int × List Int × Int × Int × List SType × List (List UInt8) × Int × List UInt8 × Int × Int × Int × List SSymbol × List SMember × Int × Int × Bool) :Option ((Int) ⊕ (List SType × Int × Int × List SType × List (List UInt8) × Int × List UInt8 × Int × Int × Int × List SSymbol × List SMember × Int × Int × Bool)):=
 match x_ with
 | (t14_2,t15_3,t16_2,t38,t39_1,t40,b_14,b_15,b_16,b_17,b_18,b_19,b_20,b_21,b_22,b_23,b_24,b_25)=>
 if decide (t40 < t39_1)=true then
 if inR t40 t38.length=true then
 some (t38.getD t40.toNat 0) >>=fun x0_3=>
 if(bif decide (x0_3 < 0)then true else decide ((b_14.length:Int)≤x0_3))=true then
 some (.inl 4)
 else
 g41 (t14_2,t15_3,t16_2,t38,t39_1,addI .i64 t40 1,b_14,b_15,b_16,b_17,b_18,b_19,b_20,b_21,b_22,b_23,b_24,b_25)
 else none
 else
 some (.inr (t14_2,t15_3,t16_2,b_14,b_15,b_16,b_17,b_18,b_19,b_20,b_21,b_22,b_23,b_24,b_25))
  partial_fixpoint
theorem gjw :LC 79 0 [0,0] gwp g41:= .rc g41.partial_correctness .n .n fun _ _=>by kernel_rfl
end
section
open Go Go.Proofs.YthnmepafpikaiaaGreat.Shv
open Tryz
set_option maxRecDepth 100000
def g55(x_:List SType × Int × Int × List SType × List (List UInt8)) :Option ((Int) ⊕ (Unit)):=
 match x_ with
 | (t14,t15_1,t16,b,b_1)=>
 if decide (t16 < t15_1)=true then
 if inR t16 t14.length=true then
 some (t14.getD t16.toNat dSType) >>=fun x0=>
 g1m x0 >>=fun r=>
 if(bif (!r)then true else bif (!(decide (x0.Name=[])))then hasS b_1 x0.Name else false)=true then
 some (.inl 1)
 else
 gct x0 >>=fun r_1=>
 g41 (t14,t15_1,t16,r_1,(r_1.length:Int),0,b,addS b_1 x0.Name,x0.Kind,x0.Name,x0.Low,x0.High,x0.Max,x0.Symbols,x0.Members,x0.Key,x0.Elem,x0.Open) >>=fun o_3=>
 match o_3 with
 | .inl o_4=>
 some (.inl o_4)
 | .inr o_5=>
 some (decide (o_5.2.2.2.2.2.1=8)) >>=fun t56=>
 if(inR o_5.2.2.2.2.2.2.2.2.2.2.2.2.1 o_5.2.2.2.1.length || (!t56))=true then
 some (decide ((o_5.2.2.2.1.getD o_5.2.2.2.2.2.2.2.2.2.2.2.2.1.toNat dSType).Kind < 1)) >>=fun t65=>
 if(inR o_5.2.2.2.2.2.2.2.2.2.2.2.2.1 o_5.2.2.2.1.length || (!(t56 && (!t65))))=true then
 if(bif t56 then bif t65 then true else decide (4 < (o_5.2.2.2.1.getD o_5.2.2.2.2.2.2.2.2.2.2.2.2.1.toNat dSType).Kind)else false)=true then
 some (.inl 1)
 else
 g55 (o_5.1,o_5.2.1,addI .i64 o_5.2.2.1 1,o_5.2.2.2.1,o_5.2.2.2.2.1)
 else none
 else none
 else none
 else
 some (.inr ())
  partial_fixpoint
theorem gm9 :LC 79 0 [0] e79_0 g55:= .rc g55.partial_correctness (.k gsg (.k gsh .n)) (.k gjw .n) fun _ _=>by kernel_rfl
def g8r(s:SSchema) :Option (Int):=
 if decide (32 < (s.Types.length:Int))=true then
 some 3
 else
 g55 (s.Types,(s.Types.length:Int),0,s.Types,[]) >>=fun o=>
 match o with
 | .inl o_1=>
 some o_1
 | .inr o_2=>
 some 0
theorem e79_k :KC e79:= .m (by kernel_rfl)
theorem gqh :FC e79 g8r:= .fn e79_k .n (.k gm9 .n) fun _=>by kernel_rfl
def g7i(x_:SSchema × Int) :Option (Int):=
 match x_ with
 | (s,t)=>
 g8r (⟨s.Types⟩:SSchema) >>=fun r=>
 if(!(decide (r=0)))=true then
 some r
 else
 if(bif decide (t < 0)then true else decide ((s.Types.length:Int)≤t))=true then
 some 4
 else
 some 0
theorem e52_k :KC e52:= .m (by kernel_rfl)
theorem gfa :FC e52 g7i:= .fn e52_k (.k gqh .n) .n fun _=>by kernel_rfl
def gdu(v:SValue) :Option (SValue):=
 if decide (v.Kind=1)=true then
 some (⟨v.Kind,v.Bool_,0,[],0,[],[],[]⟩:SValue)
 else
 if decide (v.Kind=2)=true then
 some (⟨v.Kind,false,v.Int_,[],0,[],[],[]⟩:SValue)
 else
 if decide (v.Kind=3)=true then
 some (⟨v.Kind,false,0,v.Str,0,[],[],[]⟩:SValue)
 else
 if decide (v.Kind=4)=true then
 some (⟨v.Kind,false,0,[],v.ID,[],[],[]⟩:SValue)
 else
 if decide (v.Kind=5)=true then
 some (⟨v.Kind,false,0,[],0,[],v.Items,v.Rest⟩:SValue)
 else
 if decide (v.Kind=6)=true then
 some (⟨v.Kind,false,0,[],v.ID,[],v.Items,v.Rest⟩:SValue)
 else
 if decide (v.Kind=8)=true then
 some (⟨v.Kind,false,0,[],0,v.Keys,v.Items,[]⟩:SValue)
 else
 some (decide (v.Kind=7)) >>=fun t57=>
 if t57=true then
 if t57=true then
 some (⟨v.Kind,false,0,[],0,[],v.Items,[]⟩:SValue)
 else
 some (⟨v.Kind,false,0,[],0,[],[],[]⟩:SValue)
 else
 if decide (v.Kind=9)=true then
 some (⟨v.Kind,false,0,[],0,[],v.Items,[]⟩:SValue)
 else
 some (⟨v.Kind,false,0,[],0,[],[],[]⟩:SValue)
theorem g165 :KC e171:= .m (by kernel_rfl)
theorem gu1 :FC e171 gdu:= .fn g165 .n .n fun _=>by kernel_rfl
def gbr(v:SValue) :Option (Bool):=
 gdu (SValue.eta v) >>=fun r=>
 some (bif bif bif bif bif bif eqB v.Bool_ r.Bool_ then decide (v.Int_=r.Int_)else false then decide (v.Str=r.Str)else false then decide (v.ID=r.ID)else false then decide ((v.Keys.length:Int)=(r.Keys.length:Int))else false then decide ((v.Items.length:Int)=(r.Items.length:Int))else false then decide ((v.Rest.length:Int)=(r.Rest.length:Int))else false)
theorem g166 :KC e155:= .m (by kernel_rfl)
theorem gqi :FC e155 gbr:= .fn g166 (.k gu1 .n) .n fun _=>by kernel_rfl
def gbs(x_:SSymbol × Int) :Option (Bool × Int):=
 match x_ with
 | (x0,b)=>
 some (decide (x0.ID=b),b)
theorem g167 :KC e153:= .m (by kernel_rfl)
theorem gma :FC e153 gbs:= .fn g167 .n .n fun _=>by kernel_rfl
def gv(x_:List SSymbol × Int × Int × Int) :Option ((Int × Int) ⊕ (Int)):=
 match x_ with
 | (s_1,t7_1,t8,b_3)=>
 if decide (t8 < t7_1)=true then
 if inR t8 s_1.length=true then
 gbs (s_1.getD t8.toNat dSSymbol,b_3) >>=fun r=>
 if r.1=true then
 some (.inl (t8,r.2))
 else
 gv (s_1,t7_1,addI .i64 t8 1,r.2)
 else none
 else
 some (.inr b_3)
  partial_fixpoint
theorem g8s :LC 152 1 [0] g10u gv:= .rc gv.partial_correctness (.k gma .n) .n fun _ _=>by kernel_rfl
def g4k(x_:List SSymbol × Int) :Option (Int × Int):=
 match x_ with
 | (s,b)=>
 gv (s,(s.length:Int),0,b) >>=fun o=>
 match o with
 | .inl o_1=>
 some (o_1.1,o_1.2)
 | .inr o_2=>
 some ((-1),o_2)
theorem g168 :KC e152:= .m (by kernel_rfl)
theorem g9e :FC e152 g4k:= .fn g168 .n (.k g8s .n) fun _=>by kernel_rfl
def g9f(x_:SType × Int) :Option (Int × Bool):=
 match x_ with
 | (t,id)=>
 g4k (t.Symbols,id) >>=fun r=>
 some (maxI r.1 0,decide (0≤r.1))
theorem g169 :KC e129:= .m (by kernel_rfl)
theorem gge :FC e129 g9f:= .fn g169 (.k g9e .n) .n fun _=>by kernel_rfl
def gbt(id:Int) :Option (Bool):=
 some (bif decide (1≤id)then decide (id≤1000)else false)
theorem g16a :KC e156:= .m (by kernel_rfl)
theorem glb :FC e156 gbt:= .fn g16a .n .n fun _=>by kernel_rfl
def gbu(x_:SMember × Int) :Option (Bool × Int):=
 match x_ with
 | (m,b)=>
 some (decide (m.ID=b),b)
theorem g16b :KC e126:= .m (by kernel_rfl)
theorem gmb :FC e126 gbu:= .fn g16b .n .n fun _=>by kernel_rfl
def gz(x_:List SMember × Int × Int × Int) :Option ((Int × Int) ⊕ (Int)):=
 match x_ with
 | (s_1,t7_1,t8,b_3)=>
 if decide (t8 < t7_1)=true then
 if inR t8 s_1.length=true then
 some (s_1.getD t8.toNat dSMember) >>=fun x0=>
 gbu ((⟨x0.ID,x0.Name,x0.Type_,x0.Critical,x0.HasDefault,SValue.eta x0.Default⟩:SMember),b_3) >>=fun r=>
 if r.1=true then
 some (.inl (t8,r.2))
 else
 gz (s_1,t7_1,addI .i64 t8 1,r.2)
 else none
 else
 some (.inr b_3)
  partial_fixpoint
theorem g8t :LC 125 1 [0] g10v gz:= .rc gz.partial_correctness (.k gmb .n) .n fun _ _=>by kernel_rfl
def g4l(x_:List SMember × Int) :Option (Int × Int):=
 match x_ with
 | (s,b)=>
 gz (s,(s.length:Int),0,b) >>=fun o=>
 match o with
 | .inl o_1=>
 some (o_1.1,o_1.2)
 | .inr o_2=>
 some ((-1),o_2)
theorem g16c :KC e125:= .m (by kernel_rfl)
theorem g9g :FC e125 g4l:= .fn g16c .n (.k g8t .n) fun _=>by kernel_rfl
def g3c(x_:SType × Int) :Option (Int × Bool):=
 match x_ with
 | (t,id)=>
 g4l (t.Members,id) >>=fun r=>
 some (maxI r.1 0,decide (0≤r.1))
theorem e82_k :KC e82:= .m (by kernel_rfl)
theorem g86 :FC e82 g3c:= .fn e82_k (.k g9g .n) .n fun _=>by kernel_rfl
end
section
open Go Go.Proofs.YthnmepafpikaiaaGreat.Shv
open Tryz
set_option maxRecDepth 100000
def g3o(x_:Bool × List SRaw × Int × Int × List SType × SValue × Int × List UInt8 × Int × Int × Int × List SSymbol × List SMember × Int × Int × Bool) :Option ((Bool) ⊕ (Bool × List SType × Int × Bool × Int × List UInt8 × Int × List SValue × List SValue × List SRaw × Int × List UInt8 × Int × Int × Int × List SSymbol × List SMember × Int × Int × Bool)):=
 match x_ with
 | (plain_3,t111,t112_1,t113,b_31,b_32,b_33,b_34,b_35,b_36,b_37,b_38,b_39,b_40,b_41,b_42)=>
 if decide (t113 < t112_1)=true then
 if inR t113 t111.length=true then
 some (t111.getD t113.toNat dSRaw) >>=fun x0_4=>
 g3c ((⟨b_33,b_34,b_35,b_36,b_37,b_38,b_39,b_40,b_41,b_42⟩:SType),x0_4.ID) >>=fun r_14=>
 (if(!r_14.2)=true then gbt x0_4.ID else some false) >>=fun r_17=>
 some (bif r_14.2 then true else(!r_17)) >>=fun t131=>
 some (decide (0 < t113)) >>=fun t134=>
 some (subI .i64 t113 1) >>=fun t141=>
 if(inR t141 b_32.Rest.length || (!((!t131) && t134)))=true then
 if(bif t131 then true else bif t134 then decide (x0_4.ID≤(b_32.Rest.getD t141.toNat dSRaw).ID)else false)=true then
 some (.inl false)
 else
 g3o (plain_3,t111,t112_1,addI .i64 t113 1,b_31,SValue.eta b_32,b_33,b_34,b_35,b_36,b_37,b_38,b_39,b_40,b_41,b_42)
 else none
 else none
 else
 some (.inr (plain_3,b_31,b_32.Kind,b_32.Bool_,b_32.Int_,b_32.Str,b_32.ID,b_32.Keys,b_32.Items,b_32.Rest,b_33,b_34,b_35,b_36,b_37,b_38,b_39,b_40,b_41,b_42))
  partial_fixpoint
theorem gp7 :LC 132 0 [0] g10x g3o:= .rc g3o.partial_correctness (.k g86 (.k glb .n)) .n fun _ _=>by kernel_rfl
def ggf(x0:Int) :Option (Bool):=
 some (!(decide (x0=x0)))
theorem g16d :KC e190:= .m (by kernel_rfl)
theorem gvy :FC e190 ggf:= .fn g16d .n .n fun _=>by kernel_rfl
def gcu(x_:Int × Int) :Option (Int):=
 match x_ with
 | (x0,y)=>
 ggf x0 >>=fun r=>
 ggf y >>=fun r_1=>
 if r=true then
 if r_1=true then
 some 0
 else
 some (-1)
 else
 if r_1=true then
 some 1
 else
 if decide (x0 < y)=true then
 some (-1)
 else
 if decide (y < x0)=true then
 some 1
 else
 some 0
theorem g16e :KC e174:= .m (by kernel_rfl)
theorem gsi :FC e174 gcu:= .fn g16e (.k gvy .n) .n fun _=>by kernel_rfl
def gcv(x0:Int) :Option (Bool):=
 some (!(decide (x0=x0)))
theorem g16f :KC e162:= .m (by kernel_rfl)
theorem gsj :FC e162 gcv:= .fn g16f .n .n fun _=>by kernel_rfl
def g9h(x_:Int × Int) :Option (Int):=
 match x_ with
 | (x0,y)=>
 gcv x0 >>=fun r=>
 gcv y >>=fun r_1=>
 if r=true then
 if r_1=true then
 some 0
 else
 some (-1)
 else
 if r_1=true then
 some 1
 else
 if decide (x0 < y)=true then
 some (-1)
 else
 if decide (y < x0)=true then
 some 1
 else
 some 0
theorem g16g :KC e136:= .m (by kernel_rfl)
theorem gp8 :FC e136 g9h:= .fn g16g (.k gsj .n) .n fun _=>by kernel_rfl
def gcw(x0:List UInt8) :Option (Bool):=
 some (!(decide (x0=x0)))
theorem g16h :KC e191:= .m (by kernel_rfl)
theorem gsk :FC e191 gcw:= .fn g16h .n .n fun _=>by kernel_rfl
def gb2(x_:List UInt8 × List UInt8) :Option (Int):=
 match x_ with
 | (x0,y)=>
 gcw x0 >>=fun r=>
 gcw y >>=fun r_1=>
 if r=true then
 if r_1=true then
 some 0
 else
 some (-1)
 else
 if r_1=true then
 some 1
 else
 if Op.bytesLess x0 y=true then
 some (-1)
 else
 if(!(Op.bytesLess x0 y || decide (x0=y)))=true then
 some 1
 else
 some 0
theorem g16i :KC e176:= .m (by kernel_rfl)
theorem gp9 :FC e176 gb2:= .fn g16i (.k gsk .n) .n fun _=>by kernel_rfl
def g7c(x_:Int × List Int × Int × Int) :Option ((Int) ⊕ (Int)):=
 match x_ with
 | (zero_1,t6,t7_1,t8)=>
 if decide (t8 < t7_1)=true then
 if inR t8 t6.length=true then
 some (t6.getD t8.toNat 0) >>=fun x0=>
 if(!(decide (x0=zero_1)))=true then
 some (.inl x0)
 else
 g7c (zero_1,t6,t7_1,addI .i64 t8 1)
 else none
 else
 some (.inr zero_1)
  partial_fixpoint
theorem gvz :LC 175 0 [0] g10w g7c:= .rc g7c.partial_correctness .n .n fun _ _=>by kernel_rfl
def gpa(vals:List Int) :Option (Int):=
 g7c (0,vals,(vals.length:Int),0) >>=fun o=>
 match o with
 | .inl o_1=>
 some o_1
 | .inr o_2=>
 some o_2
theorem g16j :KC e175:= .m (by kernel_rfl)
theorem g13d :FC e175 gpa:= .fn g16j .n (.k gvz .n) fun _=>by kernel_rfl
def g7x(n:Int) :Option (Int):=
 some (xorI .u64 (shlI .u64 (wrp .u64 n) 1) (wrp .u64 (shrI .i64 n 63)))
theorem e97_k :KC e97:= .m (by kernel_rfl)
theorem ggg :FC e97 g7x:= .fn e97_k .n .n fun _=>by kernel_rfl
def g67(x_:SValue × SValue) :Option (Int):=
 match x_ with
 | (a,b)=>
 if(!(decide (a.Kind=b.Kind)))=true then
 some 0
 else
 if decide (a.Kind=1)=true then
 if eqB a.Bool_ b.Bool_=true then
 some 0
 else
 if b.Bool_=true then
 some (-1)
 else
 some 1
 else
 if decide (a.Kind=2)=true then
 g7x a.Int_ >>=fun r=>
 g7x b.Int_ >>=fun r_1=>
 gcu (r,r_1) >>=fun r_2=>
 some r_2
 else
 if decide (a.Kind=3)=true then
 g9h ((a.Str.length:Int),(b.Str.length:Int)) >>=fun r_3=>
 gb2 (a.Str,b.Str) >>=fun r_4=>
 gpa [r_3,r_4] >>=fun r_5=>
 some r_5
 else
 if decide (a.Kind=4)=true then
 g9h (a.ID,b.ID) >>=fun r_6=>
 some r_6
 else
 some 0
theorem g16k :KC e158:= .m (by kernel_rfl)
theorem gpb :FC e158 g67:= .fn g16k (.k ggg (.k gsi (.k gp8 (.k gp9 (.k g13d .n))))) .n fun _=>by kernel_rfl
def g3d(x_:Bool × Int × List SType × SValue × Int × List UInt8 × Int × Int × Int × List SSymbol × List SMember × Int × Int × Bool) :Option ((Bool) ⊕ (Bool × List SType × SValue × Int × List UInt8 × Int × Int × Int × List SSymbol × List SMember × Int × Int × Bool)):=
 match x_ with
 | (plain_5,i,b_52,b_53,b_54,b_55,b_56,b_57,b_58,b_59,b_60,b_61,b_62,b_63)=>
 if decide (i < (b_53.Keys.length:Int))=true then
 some (subI .i64 i 1) >>=fun t291=>
 if inR t291 b_53.Keys.length=true then
 if inR i b_53.Keys.length=true then
 g67 (SValue.eta (b_53.Keys.getD t291.toNat dSValue),SValue.eta (b_53.Keys.getD i.toNat dSValue)) >>=fun r_19=>
 if decide (0≤r_19)=true then
 some (.inl false)
 else
 g3d (plain_5,addI .i64 i 1,b_52,SValue.eta b_53,b_54,b_55,b_56,b_57,b_58,b_59,b_60,b_61,b_62,b_63)
 else none
 else none
 else
 some (.inr (plain_5,b_52,SValue.eta b_53,b_54,b_55,b_56,b_57,b_58,b_59,b_60,b_61,b_62,b_63))
  partial_fixpoint
theorem gpc :LC 132 0 [2] g10y g3d:= .rc g3d.partial_correctness (.k gpb .n) .n fun _ _=>by kernel_rfl
mutual
def g3i(x_:List SValue × List SType × Int × Bool) :Option (Bool × List SType × Int × Bool):=
 match x_ with
 | (s,b,b_1,b_2)=>
 g4y (s,b,b_1,b_2) >>=fun r=>
 some (decide (0≤r.1),r.2.1,r.2.2.1,r.2.2.2)
  partial_fixpoint
def g4y(x_:List SValue × List SType × Int × Bool) :Option (Int × List SType × Int × Bool):=
 match x_ with
 | (s,b,b_1,b_2)=>
 g19 (s,(s.length:Int),0,b,b_1,b_2) >>=fun o=>
 match o with
 | .inl o_1=>
 some (o_1.1,o_1.2.1,o_1.2.2.1,o_1.2.2.2)
 | .inr o_2=>
 some ((-1),o_2.1,o_2.2.1,o_2.2.2)
  partial_fixpoint
def g75(x_:SSchema × Int × List SValue × Bool) :Option (Bool):=
 match x_ with
 | (s,t,l,plain)=>
 g3i (l,s.Types,t,plain) >>=fun r=>
 some (!r.1)
  partial_fixpoint
def gfb(x_:SValue × List SType × Int × Bool) :Option (Bool × List SType × Int × Bool):=
 match x_ with
 | (v,b,b_1,b_2)=>
 g4d ((⟨b⟩:SSchema),b_1,SValue.eta v,b_2) >>=fun r=>
 some ((!r),b,b_1,b_2)
  partial_fixpoint
def g4d(x_:SSchema × Int × SValue × Bool) :Option (Bool):=
 match x_ with
 | (s,t,v,plain)=>
 if(bif decide (t < 0)then true else decide ((s.Types.length:Int)≤t))=true then
 some false
 else
 if inR t s.Types.length=true then
 some (s.Types.getD t.toNat dSType) >>=fun x0=>
 some (!(decide (v.Kind=x0.Kind))) >>=fun t39=>
 (if(!t39)=true then gbr (SValue.eta v)else some false) >>=fun r=>
 if(bif t39 then true else(!r))=true then
 some false
 else
 if decide (x0.Kind=2)=true then
 some (bif decide (x0.Low≤v.Int_)then decide (v.Int_≤x0.High)else false)
 else
 if decide (x0.Kind=3)=true then
 some (decide ((v.Str.length:Int)≤x0.Max))
 else
 if decide (x0.Kind=4)=true then
 g9f (x0,v.ID) >>=fun r_1=>
 some (bif x0.Open then(!plain)else false) >>=fun t85=>
 (if((!r_1.2) && t85)=true then gbt v.ID else some false) >>=fun r_4=>
 some (bif r_1.2 then true else bif t85 then r_4 else false)
 else
 if decide (x0.Kind=5)=true then
 if(bif (!(decide ((v.Items.length:Int)=(x0.Members.length:Int))))then true else bif plain then decide (0 < (v.Rest.length:Int))else false)=true then
 some false
 else
 g3o (plain,v.Rest,(v.Rest.length:Int),0,s.Types,SValue.eta v,x0.Kind,x0.Name,x0.Low,x0.High,x0.Max,x0.Symbols,x0.Members,x0.Key,x0.Elem,x0.Open) >>=fun o=>
 match o with
 | .inl o_1=>
 some o_1
 | .inr o_2=>
 g42 (o_2.1,o_2.2.2.2.2.2.2.2.2.2.2.2.2.2.2.2.2.1,(o_2.2.2.2.2.2.2.2.2.2.2.2.2.2.2.2.2.1.length:Int),0,o_2.2.1,o_2.2.2.1,o_2.2.2.2.1,o_2.2.2.2.2.1,o_2.2.2.2.2.2.1,o_2.2.2.2.2.2.2.1,o_2.2.2.2.2.2.2.2.1,o_2.2.2.2.2.2.2.2.2.1,o_2.2.2.2.2.2.2.2.2.2.1) >>=fun o_3=>
 match o_3 with
 | .inl o_4=>
 some o_4
 | .inr o_5=>
 some true
 else
 if decide (x0.Kind=6)=true then
 g3c (x0,v.ID) >>=fun r_5=>
 if r_5.2=true then
 some (bif decide ((v.Items.length:Int)=1)then decide ((v.Rest.length:Int)=0)else false) >>=fun t188=>
 if(inR r_5.1 x0.Members.length || (!t188))=true then
 if(inR 0 v.Items.length || (!t188))=true then
 (if t188=true then g4d ((⟨s.Types⟩:SSchema),(x0.Members.getD r_5.1.toNat dSMember).Type_,SValue.eta (v.Items.getD (0:Int).toNat dSValue),plain)else some false) >>=fun r_8=>
 some (bif t188 then r_8 else false)
 else none
 else none
 else
 some (bif x0.Open then(!plain)else false) >>=fun t209=>
 (if t209=true then gbt v.ID else some false) >>=fun r_9=>
 some (bif bif bif t209 then r_9 else false then decide ((v.Items.length:Int)=0)else false then decide ((v.Rest.length:Int)=1)else false) >>=fun t226=>
 if(inR 0 v.Rest.length || (!t226))=true then
 some (bif t226 then decide ((v.Rest.getD (0:Int).toNat dSRaw).ID=v.ID)else false)
 else none
 else
 if decide (x0.Kind=7)=true then
 some (decide ((v.Items.length:Int)≤x0.Max)) >>=fun t244=>
 (if t244=true then g75 ((⟨s.Types⟩:SSchema),x0.Elem,v.Items,plain)else some false) >>=fun r_10=>
 some (bif t244 then r_10 else false)
 else
 if decide (x0.Kind=8)=true then
 some (bif decide (x0.Max < (v.Keys.length:Int))then true else(!(decide ((v.Items.length:Int)=(v.Keys.length:Int))))) >>=fun t270=>
 (if(!t270)=true then g75 ((⟨s.Types⟩:SSchema),x0.Key,v.Keys,plain)else some false) >>=fun r_11=>
 if(bif t270 then true else(!r_11))=true then
 some false
 else
 g3d (plain,1,s.Types,SValue.eta v,x0.Kind,x0.Name,x0.Low,x0.High,x0.Max,x0.Symbols,x0.Members,x0.Key,x0.Elem,x0.Open) >>=fun o_6=>
 match o_6 with
 | .inl o_7=>
 some o_7
 | .inr o_8=>
 g75 ((⟨o_8.2.1⟩:SSchema),o_8.2.2.2.2.2.2.2.2.2.2.2.1,o_8.2.2.1.Items,o_8.1) >>=fun r_12=>
 some r_12
 else
 if decide (x0.Kind=9)=true then
 some (decide ((v.Items.length:Int)≤1)) >>=fun t313=>
 (if t313=true then g75 ((⟨s.Types⟩:SSchema),x0.Elem,v.Items,plain)else some false) >>=fun r_13=>
 some (bif t313 then r_13 else false)
 else
 some true
 else none
  partial_fixpoint
def g19(x_:List SValue × Int × Int × List SType × Int × Bool) :Option ((Int × List SType × Int × Bool) ⊕ (List SType × Int × Bool)):=
 match x_ with
 | (s_1,t7_1,t8,b_9,b_10,b_11)=>
 if decide (t8 < t7_1)=true then
 if inR t8 s_1.length=true then
 gfb (SValue.eta (s_1.getD t8.toNat dSValue),b_9,b_10,b_11) >>=fun r=>
 if r.1=true then
 some (.inl (t8,r.2.1,r.2.2.1,r.2.2.2))
 else
 g19 (s_1,t7_1,addI .i64 t8 1,r.2.1,r.2.2.1,r.2.2.2)
 else none
 else
 some (.inr (b_9,b_10,b_11))
  partial_fixpoint
def g42(x_:Bool × List SMember × Int × Int × List SType × Int × Bool × Int × List UInt8 × Int × List SValue × List SValue × List SRaw) :Option ((Bool) ⊕ (Unit)):=
 match x_ with
 | (plain_4,t150,t151_1,t152,b_43,b_44,b_45,b_46,b_47,b_48,b_49,b_50,b_51)=>
 if decide (t152 < t151_1)=true then
 if inR t152 t150.length=true then
 if inR t152 b_50.length=true then
 g4d ((⟨b_43⟩:SSchema),(t150.getD t152.toNat dSMember).Type_,SValue.eta (b_50.getD t152.toNat dSValue),plain_4) >>=fun r_18=>
 if(!r_18)=true then
 some (.inl false)
 else
 g42 (plain_4,t150,t151_1,addI .i64 t152 1,b_43,b_44,b_45,b_46,b_47,b_48,b_49,b_50,b_51)
 else none
 else none
 else
 some (.inr ())
  partial_fixpoint
end
theorem g11a :KC e172:= .m (by kernel_rfl)
theorem g11b :KC e189:= .m (by kernel_rfl)
theorem g11c :KC e173:= .m (by kernel_rfl)
theorem glc :KC e132:= .m (by kernel_rfl)
theorem g11d :KC e157:= .m (by kernel_rfl)
theorem g8u :(∀h r,g3i h=some r→FD e172 h r)∧(∀h r,g4y h=some r→FD e189 h r)∧(∀h r,g19 h=some r→LD 189 3 [0] gl5 h r)∧(∀h r,gfb h=some r→FD e173 h r)∧(∀h r,g4d h=some r→FD e132 h r)∧(∀h r,g75 h=some r→FD e157 h r)∧(∀h r,g42 h=some r→LD 132 0 [1] gl6 h r):=g3i.mutual_partial_correctness (FD e172) (FD e189) (LD 189 3 [0] gl5) (FD e173) (FD e132) (FD e157) (LD 132 0 [1] gl6)
 (fun _ h1 _ _ h=>FA e172 g11a (.k (FH e189 g11b h1) .n) .n (.trans (by kernel_rfl) h))
 (fun _ h2 _ _ h=>FA e189 g11b .n (.k (LH gl5 h2) .n) (.trans (by kernel_rfl) h))
 (fun _ _ h2 h3 _ _ h=>LA gl5 h2 (.k (FH e173 g11c h3) .n) .n (.trans (by kernel_rfl) h))
 (fun _ h4 _ _ h=>FA e173 g11c (.k (FH e132 glc h4) .n) .n (.trans (by kernel_rfl) h))
 (fun _ _ _ h4 h5 h6 _ _ h=>FA e132 glc (.k gqi (.k gge (.k glb (.k g86 (.k (FH e132 glc h4) (.k (FH e157 g11d h5) .n)))))) (.k gp7 (.k (LH gl6 h6) (.k gpc .n))) (.trans (by kernel_rfl) h))
 (fun _ h0 _ _ h=>FA e157 g11d (.k (FH e172 g11a h0) .n) .n (.trans (by kernel_rfl) h))
 (fun _ _ h4 h6 _ _ h=>LA gl6 h6 (.k (FH e132 glc h4) .n) .n (.trans (by kernel_rfl) h))
theorem gu2 :FC e132 g4d:= .of glc g8u.2.2.2.2.1
end
section
open Go Go.Proofs.YthnmepafpikaiaaGreat.Shv
open Tryz
set_option maxRecDepth 100000
def g76(x_:SSchema × Int × SValue) :Option (Bool):=
 match x_ with
 | (s,t,v)=>
 g4d ((⟨s.Types⟩:SSchema),t,SValue.eta v,false) >>=fun r=>
 some r
theorem e95_k :KC e95:= .m (by kernel_rfl)
theorem gld :FC e95 g76:= .fn e95_k (.k gu2 .n) .n fun _=>by kernel_rfl
def g4e(x_:SSchema × Int × SValue) :Option (Int):=
 match x_ with
 | (s,t,v)=>
 g7i ((⟨s.Types⟩:SSchema),t) >>=fun r=>
 if(!(decide (r=0)))=true then
 some r
 else
 g76 ((⟨s.Types⟩:SSchema),t,SValue.eta v) >>=fun r_1=>
 if(!r_1)=true then
 some 1
 else
 some 0
theorem e56_k :KC e56:= .m (by kernel_rfl)
theorem gfc :FC e56 g4e:= .fn e56_k (.k gfa (.k gld .n)) .n fun _=>by kernel_rfl
def g6x(x_:Int × Int × List Int) :Option (Int × List Int):=
 match x_ with
 | (n_1,i_1,b_1)=>
 if decide (0 < n_1)=true then
 some (subI .i64 i_1 1) >>=fun t10=>
 if inR t10 8=true then
 if decide (t10.toNat < b_1.length)=true then
 g6x (shrI .u64 n_1 8,t10,b_1.set t10.toNat (wrp .u8 n_1))
 else none
 else none
 else
 some (i_1,b_1)
  partial_fixpoint
theorem gpd :LC 96 0 [0] e96_0 g6x:= .rc g6x.partial_correctness .n .n fun _ _=>by kernel_rfl
def gbv(n:Int) :Option (List UInt8):=
 g6x (n,8,[0,0,0,0,0,0,0,0]) >>=fun o=>
 if slR o.1 8 8=true then
 if subR o.1.toNat ((8:Int).toNat - o.1.toNat) o.2.length=true then
 some (strOf ((o.2.drop o.1.toNat).take ((8:Int).toNat - o.1.toNat)))
 else none
 else none
theorem e96_k :KC e96:= .m (by kernel_rfl)
theorem gu3 :FC e96 gbv:= .fn e96_k .n (.k gpd .n) fun _=>by kernel_rfl
mutual
def g10(x_:List SValue × List SValue) :Option (Bool):=
 match x_ with
 | (s1,s2)=>
 if(!(decide ((s1.length:Int)=(s2.length:Int))))=true then
 some false
 else
 gw (s2,s1,(s1.length:Int),0) >>=fun o=>
 match o with
 | .inl o_1=>
 some o_1
 | .inr o_2=>
 some true
  partial_fixpoint
def g8f(x_:SValue × SValue) :Option (Bool):=
 match x_ with
 | (a,b)=>
 some (bif bif bif bif decide (a.Kind=b.Kind)then eqB a.Bool_ b.Bool_ else false then decide (a.Int_=b.Int_)else false then decide (a.Str=b.Str)else false then decide (a.ID=b.ID)else false) >>=fun t37=>
 (if t37=true then g49 (a.Rest,b.Rest)else some false) >>=fun r=>
 some (bif t37 then r else false) >>=fun t44=>
 (if t44=true then g10 (a.Keys,b.Keys)else some false) >>=fun r_1=>
 some (bif t44 then r_1 else false) >>=fun t51=>
 (if t51=true then g10 (a.Items,b.Items)else some false) >>=fun r_2=>
 some (bif t51 then r_2 else false)
  partial_fixpoint
def gw(x_:List SValue × List SValue × Int × Int) :Option ((Bool) ⊕ (Unit)):=
 match x_ with
 | (s2_1,t15,t16_1,t17)=>
 if decide (t17 < t16_1)=true then
 if inR t17 t15.length=true then
 if inR t17 s2_1.length=true then
 g8f (SValue.eta (t15.getD t17.toNat dSValue),SValue.eta (s2_1.getD t17.toNat dSValue)) >>=fun r=>
 if(!r)=true then
 some (.inl false)
 else
 gw (s2_1,t15,t16_1,addI .i64 t17 1)
 else none
 else none
 else
 some (.inr ())
  partial_fixpoint
end
theorem gu4 :KC ght:= .m (by kernel_rfl)
theorem gu5 :KC e159:= .m (by kernel_rfl)
theorem g60 :(∀h r,g10 h=some r→FD ght h r)∧(∀h r,gw h=some r→LD 178 0 [0] gf7 h r)∧(∀h r,g8f h=some r→FD e159 h r):=g10.mutual_partial_correctness (FD ght) (LD 178 0 [0] gf7) (FD e159)
 (fun _ h1 _ _ h=>FA ght gu4 .n (.k (LH gf7 h1) .n) (.trans (by kernel_rfl) h))
 (fun _ _ h1 h2 _ _ h=>LA gf7 h1 (.k (FH e159 gu5 h2) .n) .n (.trans (by kernel_rfl) h))
 (fun _ h0 _ _ h=>FA e159 gu5 (.k g8g (.k (FH ght gu4 h0) .n)) .n (.trans (by kernel_rfl) h))
theorem gsl :FC e159 g8f:= .of gu5 g60.2.2
def gag(x_:SMember × SValue) :Option (Bool):=
 match x_ with
 | (m,v)=>
 (if m.HasDefault=true then g8f (SValue.eta m.Default,SValue.eta v)else some false) >>=fun r=>
 some (bif m.HasDefault then r else false)
theorem g16l :KC e133:= .m (by kernel_rfl)
theorem gnt :FC e133 gag:= .fn g16l (.k gsl .n) .n fun _=>by kernel_rfl
def g6y(x_:Int × Int × List Int) :Option (Int × Int × List Int):=
 match x_ with
 | (n_2,i_1,b_1)=>
 if decide (128≤n_2)=true then
 if inR i_1 10=true then
 if decide (i_1.toNat < b_1.length)=true then
 g6y (shrI .u64 n_2 7,addI .i64 i_1 1,b_1.set i_1.toNat (orI .u8 (wrp .u8 n_2) 128))
 else none
 else none
 else
 some (n_2,i_1,b_1)
  partial_fixpoint
theorem gpe :LC 113 0 [0] g10z g6y:= .rc g6y.partial_correctness .n .n fun _ _=>by kernel_rfl
def g95(n:Int) :Option (List UInt8):=
 g6y (n,0,[0,0,0,0,0,0,0,0,0,0]) >>=fun o=>
 if inR o.2.1 10=true then
 if decide (o.2.1.toNat < o.2.2.length)=true then
 some (o.2.2.set o.2.1.toNat (wrp .u8 o.1)) >>=fun l_1=>
 some (addI .i64 o.2.1 1) >>=fun t21=>
 if slR 0 t21 10=true then
 if subR (0:Int).toNat t21.toNat l_1.length=true then
 some (strOf ((l_1.drop (0:Int).toNat).take t21.toNat))
 else none
 else none
 else none
 else none
theorem g16m :KC e113:= .m (by kernel_rfl)
theorem gfd :FC e113 g95:= .fn g16m .n (.k gpe .n) fun _=>by kernel_rfl
def g6n(p:List UInt8) :Option (List UInt8):=
 g95 (wrp .u64 (p.length:Int)) >>=fun r=>
 if decide (r.length+p.length≤g2p)=true then
 some (r++p)
 else none
theorem g16n :KC e100:= .m (by kernel_rfl)
theorem ghy :FC e100 g6n:= .fn g16n (.k gfd .n) .n fun _=>by kernel_rfl
def ga2(x_:Int × Bool × List UInt8) :Option (List UInt8):=
 match x_ with
 | (id,critical,p)=>
 some (mulI .u64 2 (wrp .u64 id)) >>=fun t10=>
 if critical=true then
 g95 (addI .u64 t10 1) >>=fun r=>
 g6n p >>=fun r_1=>
 if decide (r.length+r_1.length≤g2p)=true then
 some (r++r_1)
 else none
 else
 g95 t10 >>=fun r_2=>
 g6n p >>=fun r_3=>
 if decide (r_2.length+r_3.length≤g2p)=true then
 some (r_2++r_3)
 else none
theorem e68_k :KC e68:= .m (by kernel_rfl)
theorem ghz :FC e68 ga2:= .fn e68_k (.k gfd (.k ghy .n)) .n fun _=>by kernel_rfl
def g2q(x_:List UInt8 × List UInt8) :Option (Int × List UInt8):=
 match x_ with
 | (s,b)=>
 some b >>=fun r=>
 if(decide (r.length=b.length) && true)=true then
 if room 1 (r.length+s.length)=true then
 some ((s.length:Int),catS r s)
 else none
 else none
theorem e73_k :KC e73:= .m (by kernel_rfl)
theorem g8h :FC e73 g2q:= .fn e73_k (.k ggd .n) .n fun _=>by kernel_rfl
def g5d(b:List UInt8) :Option (List UInt8):=
 if eqI (b.length:Int) (b.length:Int)=true then
 some b
 else none
theorem e75_k :KC e75:= .m (by kernel_rfl)
theorem ga3 :FC e75 g5d:= .fn e75_k .n .n fun _=>by kernel_rfl
end
section
open Go Go.Proofs.YthnmepafpikaiaaGreat.Shv
open Tryz
set_option maxRecDepth 100000
def g2w(x_:List SRaw × Int × Int × List SType × Int × List EncodeEntry) :Option (List SType × Int × List EncodeEntry):=
 match x_ with
 | (t57,t58_1,t59,b_16,b_17,b_18)=>
 if decide (t59 < t58_1)=true then
 if inR t59 t57.length=true then
 some (t57.getD t59.toNat dSRaw) >>=fun x0_4=>
 ga2 (x0_4.ID,false,x0_4.Data) >>=fun r_8=>
 some [(⟨x0_4.ID,r_8⟩:EncodeEntry)] >>=fun t72=>
 if room 24 (b_18++t72).length=true then
 g2w (t57,t58_1,addI .i64 t59 1,b_16,b_17,b_18++t72)
 else none
 else none
 else
 some (b_16,b_17,b_18)
  partial_fixpoint
theorem gdv :LC 98 1 [1] e98_1 g2w:= .rc g2w.partial_correctness (.k ghz .n) .n fun _ _=>by kernel_rfl
def g2x(x_:Int × Int × List SType × Int × List EncodeEntry × List UInt8) :Option (List SType × Int × List UInt8):=
 match x_ with
 | (t78_1,t79,b_19,b_20,b_21,b_22)=>
 if decide (t79 < t78_1)=true then
 if inR t79 b_21.length=true then
 if decide (t79.toNat < b_21.length)=true then
 g2q ((b_21.getD t79.toNat dEncodeEntry).text,b_22) >>=fun r_9=>
 g2x (t78_1,addI .i64 t79 1,b_19,b_20,b_21,r_9.2)
 else none
 else none
 else
 some (b_19,b_20,b_22)
  partial_fixpoint
theorem gdw :LC 98 1 [2] e98_2 g2x:= .rc g2x.partial_correctness (.k g8h .n) .n fun _ _=>by kernel_rfl
mutual
def g1d(x_:Int × SValue × Int × List SType × Int) :Option (List UInt8 × List SType × Int):=
 match x_ with
 | (t,v,level,b,b_1)=>
 some (maxI b_1 level) >>=fun t19=>
 if inR t b.length=true then
 some (b.getD t.toNat dSType) >>=fun x0=>
 if decide (x0.Kind=1)=true then
 if v.Bool_=true then
 some ([1],b,t19)
 else
 some ([],b,t19)
 else
 if decide (x0.Kind=2)=true then
 g7x v.Int_ >>=fun r=>
 gbv r >>=fun r_1=>
 some (r_1,b,t19)
 else
 if decide (x0.Kind=3)=true then
 some (v.Str,b,t19)
 else
 if decide (x0.Kind=4)=true then
 gbv (wrp .u64 v.ID) >>=fun r_2=>
 some (r_2,b,t19)
 else
 if decide (x0.Kind=5)=true then
 g77 (x0,SValue.eta v,level,b,t19) >>=fun r_3=>
 some (r_3.1,r_3.2.1,r_3.2.2)
 else
 if decide (x0.Kind=6)=true then
 g6b (x0,SValue.eta v,level,b,t19) >>=fun r_7=>
 some (r_7.1,r_7.2.1,r_7.2.2)
 else
 if decide (x0.Kind=9)=true then
 if decide ((v.Items.length:Int)=0)=true then
 some ([],b,t19)
 else
 if inR 0 v.Items.length=true then
 g1d (x0.Elem,SValue.eta (v.Items.getD (0:Int).toNat dSValue),addI .i64 level 1,b,t19) >>=fun r_11=>
 if decide ([1].length+r_11.1.length≤g2p)=true then
 some ([1]++r_11.1,r_11.2.1,r_11.2.2)
 else none
 else none
 else
 g1g (level,v.Items,(v.Items.length:Int),0,b,t19,SValue.eta v,x0,[]) >>=fun o=>
 g5d o.2.2 >>=fun r_15=>
 some (r_15,o.1,o.2.1)
 else none
  partial_fixpoint
def g77(x_:SType × SValue × Int × List SType × Int) :Option (List UInt8 × List SType × Int):=
 match x_ with
 | (x0,v,level,b,b_1)=>
 g2y (level,x0.Members,(x0.Members.length:Int),0,b,b_1,SValue.eta v,[]) >>=fun o=>
 g2w (o.2.2.1.Rest,(o.2.2.1.Rest.length:Int),0,o.1,o.2.1,o.2.2.2) >>=fun o_1=>
 gl4 o_1.2.2 >>=fun r=>
 if(decide (r.length=o_1.2.2.length) && true)=true then
 g2x ((r.length:Int),0,o_1.1,o_1.2.1,r,[]) >>=fun o_2=>
 g5d o_2.2.2 >>=fun r_1=>
 some (r_1,o_2.1,o_2.2.1)
 else none
  partial_fixpoint
def g6b(x_:SType × SValue × Int × List SType × Int) :Option (List UInt8 × List SType × Int):=
 match x_ with
 | (x0,v,level,b,b_1)=>
 g95 (wrp .u64 v.ID) >>=fun r=>
 g3c (x0,v.ID) >>=fun r_1=>
 if(!r_1.2)=true then
 if inR 0 v.Rest.length=true then
 some (v.Rest.getD (0:Int).toNat dSRaw) >>=fun x0_1=>
 if decide (r.length+x0_1.Data.length≤g2p)=true then
 some (r++x0_1.Data,b,b_1)
 else none
 else none
 else
 if inR r_1.1 x0.Members.length=true then
 if inR 0 v.Items.length=true then
 g1d ((x0.Members.getD r_1.1.toNat dSMember).Type_,SValue.eta (v.Items.getD (0:Int).toNat dSValue),addI .i64 level 1,b,b_1) >>=fun r_4=>
 if decide (r.length+r_4.1.length≤g2p)=true then
 some (r++r_4.1,r_4.2.1,r_4.2.2)
 else none
 else none
 else none
  partial_fixpoint
def g1g(x_:Int × List SValue × Int × Int × List SType × Int × SValue × SType × List UInt8) :Option (List SType × Int × List UInt8):=
 match x_ with
 | (level_1,t84,t85_1,t86,b_5,b_6,b_7,b_8,b_9)=>
 if decide (t86 < t85_1)=true then
 if inR t86 t84.length=true then
 some (t84.getD t86.toNat dSValue) >>=fun x0_2=>
 if decide (b_8.Kind=8)=true then
 if inR t86 b_7.Keys.length=true then
 g1d (b_8.Key,SValue.eta (b_7.Keys.getD t86.toNat dSValue),addI .i64 level_1 1,b_5,b_6) >>=fun r_16=>
 g6n r_16.1 >>=fun r_20=>
 g2q (r_20,b_9) >>=fun r_21=>
 g1d (b_8.Elem,SValue.eta x0_2,addI .i64 level_1 1,r_16.2.1,r_16.2.2) >>=fun r_24=>
 g6n r_24.1 >>=fun r_28=>
 g2q (r_28,r_21.2) >>=fun r_29=>
 g1g (level_1,t84,t85_1,addI .i64 t86 1,r_24.2.1,r_24.2.2,SValue.eta b_7,b_8,r_29.2)
 else none
 else
 g1d (b_8.Elem,SValue.eta x0_2,addI .i64 level_1 1,b_5,b_6) >>=fun r_32=>
 g6n r_32.1 >>=fun r_36=>
 g2q (r_36,b_9) >>=fun r_37=>
 g1g (level_1,t84,t85_1,addI .i64 t86 1,r_32.2.1,r_32.2.2,SValue.eta b_7,b_8,r_37.2)
 else none
 else
 some (b_5,b_6,b_9)
  partial_fixpoint
def g2y(x_:Int × List SMember × Int × Int × List SType × Int × SValue × List EncodeEntry) :Option (List SType × Int × SValue × List EncodeEntry):=
 match x_ with
 | (level_1,t18,t19_1,t20,b_12,b_13,b_14,b_15)=>
 if decide (t20 < t19_1)=true then
 if inR t20 t18.length=true then
 some (t18.getD t20.toNat dSMember) >>=fun x0_1=>
 if inR t20 b_14.Items.length=true then
 gag ((⟨x0_1.ID,x0_1.Name,x0_1.Type_,x0_1.Critical,x0_1.HasDefault,SValue.eta x0_1.Default⟩:SMember),SValue.eta (b_14.Items.getD t20.toNat dSValue)) >>=fun r_2=>
 if(!r_2)=true then
 if inR t20 b_14.Items.length=true then
 g1d (x0_1.Type_,SValue.eta (b_14.Items.getD t20.toNat dSValue),addI .i64 level_1 1,b_12,b_13) >>=fun r_3=>
 ga2 (x0_1.ID,x0_1.Critical,r_3.1) >>=fun r_7=>
 some [(⟨x0_1.ID,r_7⟩:EncodeEntry)] >>=fun t53=>
 if room 24 (b_15++t53).length=true then
 g2y (level_1,t18,t19_1,addI .i64 t20 1,r_3.2.1,r_3.2.2,SValue.eta b_14,b_15++t53)
 else none
 else none
 else
 g2y (level_1,t18,t19_1,addI .i64 t20 1,b_12,b_13,SValue.eta b_14,b_15)
 else none
 else none
 else
 some (b_12,b_13,SValue.eta b_14,b_15)
  partial_fixpoint
end
theorem e57_k :KC e57:= .m (by kernel_rfl)
theorem e99_k :KC e99:= .m (by kernel_rfl)
theorem e98_k :KC e98:= .m (by kernel_rfl)
theorem gdx :(∀h r,g1d h=some r→FD e57 h r)∧(∀h r,g1g h=some r→LD 57 1 [0] e57_0 h r)∧(∀h r,g6b h=some r→FD e99 h r)∧(∀h r,g77 h=some r→FD e98 h r)∧(∀h r,g2y h=some r→LD 98 1 [0] e98_0 h r):=g1d.mutual_partial_correctness (FD e57) (LD 57 1 [0] e57_0) (FD e99) (FD e98) (LD 98 1 [0] e98_0)
 (fun _ _ _ _ h0 h1 h2 h3 _ _ h=>FA e57 e57_k (.k ggg (.k gu3 (.k (FH e98 e98_k h3) (.k (FH e99 e99_k h2) (.k (FH e57 e57_k h0) (.k ga3 .n)))))) (.k (LH e57_0 h1) .n) (.trans (by kernel_rfl) h))
 (fun _ _ h0 h1 _ _ h=>LA e57_0 h1 (.k (FH e57 e57_k h0) (.k ghy (.k g8h .n))) .n (.trans (by kernel_rfl) h))
 (fun _ h0 _ _ h=>FA e99 e99_k (.k gfd (.k g86 (.k (FH e57 e57_k h0) .n))) .n (.trans (by kernel_rfl) h))
 (fun _ h4 _ _ h=>FA e98 e98_k (.k gck (.k ga3 .n)) (.k (LH e98_0 h4) (.k gdv (.k gdw .n))) (.trans (by kernel_rfl) h))
 (fun _ _ h0 h4 _ _ h=>LA e98_0 h4 (.k gnt (.k (FH e57 e57_k h0) (.k ghz .n))) .n (.trans (by kernel_rfl) h))
theorem g7u :FC e57 g1d:= .of e57_k gdx.1
def g9i(x_:SSchema × Int × SValue) :Option (List UInt8 × Int):=
 match x_ with
 | (s,t,v)=>
 g4e ((⟨s.Types⟩:SSchema),t,SValue.eta v) >>=fun r=>
 if(!(decide (r=0)))=true then
 some ([],r)
 else
 g1d (t,SValue.eta v,1,s.Types,0) >>=fun r_1=>
 if(bif decide (4096 < (r_1.1.length:Int))then true else decide (200 < r_1.2.2))=true then
 some ([],3)
 else
 some (r_1.1,0)
theorem e26_k :KC e26:= .m (by kernel_rfl)
theorem gpf :FC e26 g9i:= .fn e26_k (.k gfc (.k g7u .n)) .n fun _=>by kernel_rfl
def g68(x_:List UInt8 × Int × Int × Int) :Option ((Int × Int × Int) ⊕ (Unit)):=
 match x_ with
 | (s_1,n,t10_1,t11)=>
 if decide (t11 < t10_1)=true then
 if inR t11 s_1.length=true then
 some (g3e s_1 t11) >>=fun t16=>
 if(bif decide (t11=9)then decide (1 < t16)else false)=true then
 some (.inl (0,0,7))
 else
 if decide (128≤t16)=true then
 some (mulI .i64 7 t11) >>=fun t41=>
 if decide (0≤t41)=true then
 g68 (s_1,orI .u64 n (shlI .u64 (wrp .u64 (andI .u8 t16 127)) t41),t10_1,addI .i64 t11 1)
 else none
 else
 if(bif decide (t16=0)then decide (0 < t11)else false)=true then
 some (.inl (0,0,2))
 else
 some (mulI .i64 7 t11) >>=fun t21=>
 if decide (0≤t21)=true then
 some (.inl (orI .u64 n (shlI .u64 (wrp .u64 t16) t21),addI .i64 t11 1,0))
 else none
 else none
 else
 some (.inr ())
  partial_fixpoint
theorem gpg :LC 76 0 [0] e76_0 g68:= .rc g68.partial_correctness .n .n fun _ _=>by kernel_rfl
def gdy(s:List UInt8) :Option (Int × Int × Int):=
 g68 (s,0,minI 10 (s.length:Int),0) >>=fun o=>
 match o with
 | .inl o_1=>
 some (o_1.1,o_1.2.1,o_1.2.2)
 | .inr o_2=>
 some (0,0,10)
theorem e76_k :KC e76:= .m (by kernel_rfl)
theorem gu6 :FC e76 gdy:= .fn e76_k .n (.k gpg .n) fun _=>by kernel_rfl
def g7d(s:List UInt8) :Option (Int × List UInt8 × Bool):=
 gdy s >>=fun r=>
 if(!(decide (r.2.2=0)))=true then
 some (0,[],false)
 else
 if slR r.2.1 (s.length:Int) s.length=true then
 some (r.1,cutL s r.2.1 (s.length:Int),true)
 else none
theorem e41_k :KC e41:= .m (by kernel_rfl)
theorem gdd :FC e41 g7d:= .fn e41_k (.k gu6 .n) .n fun _=>by kernel_rfl
def gat(s:List UInt8) :Option (List UInt8 × List UInt8 × Bool):=
 g7d s >>=fun r=>
 if(bif (!r.2.2)then true else decide (wrp .u64 (r.2.1.length:Int) < r.1))=true then
 some ([],[],false)
 else
 if slR 0 r.1 r.2.1.length=true then
 if slR r.1 (r.2.1.length:Int) r.2.1.length=true then
 some (cutL r.2.1 0 r.1,cutL r.2.1 r.1 (r.2.1.length:Int),true)
 else none
 else none
theorem e42_k :KC e42:= .m (by kernel_rfl)
theorem gjq :FC e42 gat:= .fn e42_k (.k gdd .n) .n fun _=>by kernel_rfl
def g2i(x_:List UInt8 × List (List UInt8)) :Option ((Int) ⊕ (List (List UInt8))):=
 match x_ with
 | (s,b_1)=>
 if(!(decide (s=[])))=true then
 gat s >>=fun r=>
 if(!r.2.2)=true then
 some (.inl 12)
 else
 some [r.1] >>=fun t22=>
 if room 16 (b_1++t22).length=true then
 g2i (r.2.1,b_1++t22)
 else none
 else
 some (.inr b_1)
  partial_fixpoint
theorem gmc :LC 14 0 [0] e14_0 g2i:= .rc g2i.partial_correctness (.k gjq .n) .n fun _ _=>by kernel_rfl
def g5e(payload:List UInt8) :Option (List (List UInt8) × Int):=
 g2i (payload,[]) >>=fun o=>
 match o with
 | .inl o_1=>
 some ([],o_1)
 | .inr o_2=>
 some (o_2,0)
theorem e14_k :KC e14:= .m (by kernel_rfl)
theorem gqj :FC e14 g5e:= .fn e14_k .n (.k gmc .n) fun _=>by kernel_rfl
end
section
open Go Go.Proofs.YthnmepafpikaiaaGreat.Shv
open Tryz
set_option maxRecDepth 100000
def g1o(x_:Int × List UInt8 × List SField) :Option ((Int) ⊕ (List SField)):=
 match x_ with
 | (last,s,b_1)=>
 if(!(decide (s=[])))=true then
 g7d s >>=fun r=>
 if(bif bif (!r.2.2)then true else decide (quoI .u64 r.1 2≤last)then true else decide (1000 < quoI .u64 r.1 2))=true then
 some (.inl 12)
 else
 gat r.2.1 >>=fun r_4=>
 if(!r_4.2.2)=true then
 some (.inl 12)
 else
 some [(⟨wrp .i64 (quoI .u64 r.1 2),decide (remI r.1 2=1),r_4.1⟩:SField)] >>=fun t50=>
 if room 32 (b_1++t50).length=true then
 g1o (quoI .u64 r.1 2,r_4.2.1,b_1++t50)
 else none
 else
 some (.inr b_1)
  partial_fixpoint
theorem gle :LC 12 0 [0] e12_0 g1o:= .rc g1o.partial_correctness (.k gdd (.k gjq .n)) .n fun _ _=>by kernel_rfl
def g69(payload:List UInt8) :Option (List SField × Int):=
 g1o (0,payload,[]) >>=fun o=>
 match o with
 | .inl o_1=>
 some ([],o_1)
 | .inr o_2=>
 some (o_2,0)
theorem e12_k :KC e12:= .m (by kernel_rfl)
theorem gph :FC e12 g69:= .fn e12_k .n (.k gle .n) fun _=>by kernel_rfl
def g78(payload:List UInt8) :Option (Int × List UInt8 × Int):=
 g7d payload >>=fun r=>
 if(bif bif (!r.2.2)then true else decide (r.1 < 1)then true else decide (1000 < r.1))=true then
 some (0,[],12)
 else
 some (wrp .i64 r.1,r.2.1,0)
theorem e16_k :KC e16:= .m (by kernel_rfl)
theorem gu7 :FC e16 g78:= .fn e16_k (.k gdd .n) .n fun _=>by kernel_rfl
def gb3(x_:List UInt8 × List UInt8) :Option (Bool):=
 match x_ with
 | (a,b)=>
 some (bif decide ((a.length:Int) < (b.length:Int))then true else bif decide ((a.length:Int)=(b.length:Int))then Op.bytesLess a b else false)
theorem g16o :KC e124:= .m (by kernel_rfl)
theorem gpi :FC e124 gb3:= .fn g16o .n .n fun _=>by kernel_rfl
def g3m(x_:List UInt8 × Int × Int × Int) :Option (Int):=
 match x_ with
 | (s_1,n_1,t17_1,t18)=>
 if decide (t18 < t17_1)=true then
 if inR t18 s_1.length=true then
 g3m (s_1,orI .u64 (shlI .u64 n_1 8) (wrp .u64 (g3e s_1 t18)),t17_1,addI .i64 t18 1)
 else none
 else
 some n_1
  partial_fixpoint
theorem gjx :LC 127 0 [0] g110 g3m:= .rc g3m.partial_correctness .n .n fun _ _=>by kernel_rfl
def gah(s:List UInt8) :Option (Int × Int):=
 some (!(decide (s=[]))) >>=fun t7=>
 if(inR 0 s.length || (!t7))=true then
 if(bif t7 then decide (g3e s 0=0)else false)=true then
 some (0,2)
 else
 if decide (8 < (s.length:Int))=true then
 some (0,7)
 else
 g3m (s,0,(s.length:Int),0) >>=fun o=>
 some (o,0)
 else none
theorem g16p :KC e127:= .m (by kernel_rfl)
theorem gnu :FC e127 gah:= .fn g16p .n (.k gjx .n) fun _=>by kernel_rfl
def g9q(n:Int) :Option (Int):=
 some (xorI .i64 (wrp .i64 (shrI .u64 n 1)) (subI .i64 0 (wrp .i64 (andI .u64 n 1))))
theorem g16q :KC e128:= .m (by kernel_rfl)
theorem gmd :FC e128 g9q:= .fn g16q .n .n fun _=>by kernel_rfl
def g7y(x_:SType × List UInt8) :Option (Bool):=
 match x_ with
 | (x0,p)=>
 if decide (x0.Kind=1)=true then
 some (bif decide (p=[])then true else decide (p=[1]))
 else
 if decide (x0.Kind=3)=true then
 some (decide ((p.length:Int)≤x0.Max))
 else
 gah p >>=fun r=>
 if(!(decide (r.2=0)))=true then
 some false
 else
 if decide (x0.Kind=2)=true then
 g9q r.1 >>=fun r_3=>
 some (bif decide (x0.Low≤r_3)then decide (r_3≤x0.High)else false)
 else
 if(bif decide (r.1 < 1)then true else decide (1000 < r.1))=true then
 some false
 else
 g9f (x0,wrp .i64 r.1) >>=fun r_4=>
 some (bif r_4.2 then true else x0.Open)
theorem e83_k :KC e83:= .m (by kernel_rfl)
theorem gpj :FC e83 g7y:= .fn e83_k (.k gnu (.k gmd (.k gge .n))) .n fun _=>by kernel_rfl
def g2f(x_:Int × List SMember × Int × Int) :Option (Int):=
 match x_ with
 | (seen_3,t93,t94_1,t95)=>
 if decide (t95 < t94_1)=true then
 if inR t95 t93.length=true then
 if(!(t93.getD t95.toNat dSMember).HasDefault)=true then
 g2f (subI .i64 seen_3 1,t93,t94_1,addI .i64 t95 1)
 else
 g2f (seen_3,t93,t94_1,addI .i64 t95 1)
 else none
 else
 some seen_3
  partial_fixpoint
theorem gdz :LC 80 0 [1] e80_1 g2f:= .rc g2f.partial_correctness .n .n fun _ _=>by kernel_rfl
mutual
def g9(x_:EncodeReader × Int × List UInt8 × Int) :Option (Bool):=
 match x_ with
 | (r,t,p,level)=>
 if inR t r.s.Types.length=true then
 some (r.s.Types.getD t.toNat dSType) >>=fun x0=>
 if decide (200 < level)=true then
 some false
 else
 if decide (x0.Kind=5)=true then
 g79 ((⟨(⟨r.s.Types⟩:SSchema)⟩:EncodeReader),x0,p,level) >>=fun r_1=>
 some r_1
 else
 some (decide (x0.Kind=7)) >>=fun t33=>
 if t33=true then
 if t33=true then
 g4g ((⟨(⟨r.s.Types⟩:SSchema)⟩:EncodeReader),x0,p,level) >>=fun r_2=>
 some r_2
 else
 if decide (x0.Kind=9)=true then
 some (decide (p=[])) >>=fun t43=>
 if(inR 0 p.length || (!(!t43)))=true then
 some (decide (g3e p 0=1)) >>=fun t47=>
 if(slR 1 (p.length:Int) p.length || (!((!t43) && t47)))=true then
 (if((!t43) && t47)=true then g9 ((⟨(⟨r.s.Types⟩:SSchema)⟩:EncodeReader),x0.Elem,cutL p 1 (p.length:Int),addI .i64 level 1)else some false) >>=fun r_3=>
 some (bif t43 then true else bif t47 then r_3 else false)
 else none
 else none
 else
 if decide (x0.Kind=6)=true then
 g78 p >>=fun r_4=>
 if(!(decide (r_4.2.2=0)))=true then
 some false
 else
 g3c (x0,r_4.1) >>=fun r_8=>
 some (bif (!r_8.2)then x0.Open else false) >>=fun t80=>
 if(inR r_8.1 x0.Members.length || (!((!t80) && r_8.2)))=true then
 (if((!t80) && r_8.2)=true then g9 ((⟨(⟨r.s.Types⟩:SSchema)⟩:EncodeReader),(x0.Members.getD r_8.1.toNat dSMember).Type_,r_4.2.1,addI .i64 level 1)else some false) >>=fun r_11=>
 some (bif t80 then true else bif r_8.2 then r_11 else false)
 else none
 else
 g7y (x0,p) >>=fun r_12=>
 some r_12
 else
 if decide (x0.Kind=8)=true then
 g4g ((⟨(⟨r.s.Types⟩:SSchema)⟩:EncodeReader),x0,p,level) >>=fun r_13=>
 some r_13
 else
 if decide (x0.Kind=9)=true then
 some (decide (p=[])) >>=fun t43_1=>
 if(inR 0 p.length || (!(!t43_1)))=true then
 some (decide (g3e p 0=1)) >>=fun t47_1=>
 if(slR 1 (p.length:Int) p.length || (!((!t43_1) && t47_1)))=true then
 (if((!t43_1) && t47_1)=true then g9 ((⟨(⟨r.s.Types⟩:SSchema)⟩:EncodeReader),x0.Elem,cutL p 1 (p.length:Int),addI .i64 level 1)else some false) >>=fun r_14=>
 some (bif t43_1 then true else bif t47_1 then r_14 else false)
 else none
 else none
 else
 if decide (x0.Kind=6)=true then
 g78 p >>=fun r_15=>
 if(!(decide (r_15.2.2=0)))=true then
 some false
 else
 g3c (x0,r_15.1) >>=fun r_19=>
 some (bif (!r_19.2)then x0.Open else false) >>=fun t80_1=>
 if(inR r_19.1 x0.Members.length || (!((!t80_1) && r_19.2)))=true then
 (if((!t80_1) && r_19.2)=true then g9 ((⟨(⟨r.s.Types⟩:SSchema)⟩:EncodeReader),(x0.Members.getD r_19.1.toNat dSMember).Type_,r_15.2.1,addI .i64 level 1)else some false) >>=fun r_22=>
 some (bif t80_1 then true else bif r_19.2 then r_22 else false)
 else none
 else
 g7y (x0,p) >>=fun r_23=>
 some r_23
 else none
  partial_fixpoint
def g4g(x_:EncodeReader × SType × List UInt8 × Int) :Option (Bool):=
 match x_ with
 | (r,x0,p,level)=>
 g5e p >>=fun r_1=>
 if(!(decide (r_1.2=0)))=true then
 some false
 else
 if decide (x0.Kind=7)=true then
 some (decide ((r_1.1.length:Int)≤x0.Max)) >>=fun t26=>
 if t26=true then
 g2z (r_1.1,r.s.Types,x0.Kind,x0.Name,x0.Low,x0.High,x0.Max,x0.Symbols,x0.Members,x0.Key,x0.Elem,x0.Open,level) >>=fun r_4=>
 some (bif t26 then(!r_4.1)else false)
 else
 some (bif t26 then false else false)
 else
 if(bif decide (remI (r_1.1.length:Int) 2=1)then true else decide (x0.Max < quoI .i64 (r_1.1.length:Int) 2))=true then
 some false
 else
 g23 (r_1.1,0,r.s.Types,x0.Kind,x0.Name,x0.Low,x0.High,x0.Max,x0.Symbols,x0.Members,x0.Key,x0.Elem,x0.Open,level) >>=fun o=>
 match o with
 | .inl o_1=>
 some o_1
 | .inr o_2=>
 some true
  partial_fixpoint
def g7v(x_:List UInt8 × List SType × Int × List UInt8 × Int × Int × Int × List SSymbol × List SMember × Int × Int × Bool × Int) :Option (Bool × List SType × Int × List UInt8 × Int × Int × Int × List SSymbol × List SMember × Int × Int × Bool × Int):=
 match x_ with
 | (p,b,b_1,b_2,b_3,b_4,b_5,b_6,b_7,b_8,b_9,b_10,b_11)=>
 g9 ((⟨(⟨b⟩:SSchema)⟩:EncodeReader),b_9,p,addI .i64 b_11 1) >>=fun r=>
 some ((!r),b,b_1,b_2,b_3,b_4,b_5,b_6,b_7,b_8,b_9,b_10,b_11)
  partial_fixpoint
def g79(x_:EncodeReader × SType × List UInt8 × Int) :Option (Bool):=
 match x_ with
 | (r,x0,p,level)=>
 g69 p >>=fun r_1=>
 if(!(decide (r_1.2=0)))=true then
 some false
 else
 g17 (level,0,r_1.1,(r_1.1.length:Int),0,r.s.Types,x0) >>=fun o=>
 match o with
 | .inl o_1=>
 some o_1
 | .inr o_2=>
 g2f (o_2.1,o_2.2.Members,(o_2.2.Members.length:Int),0) >>=fun o_3=>
 some (decide (o_3=0))
  partial_fixpoint
def g2z(x_:List (List UInt8) × List SType × Int × List UInt8 × Int × Int × Int × List SSymbol × List SMember × Int × Int × Bool × Int) :Option (Bool × List SType × Int × List UInt8 × Int × Int × Int × List SSymbol × List SMember × Int × Int × Bool × Int):=
 match x_ with
 | (s,b,b_1,b_2,b_3,b_4,b_5,b_6,b_7,b_8,b_9,b_10,b_11)=>
 g5y (s,b,b_1,b_2,b_3,b_4,b_5,b_6,b_7,b_8,b_9,b_10,b_11) >>=fun r=>
 some (decide (0≤r.1),r.2.1,r.2.2.1,r.2.2.2.1,r.2.2.2.2.1,r.2.2.2.2.2.1,r.2.2.2.2.2.2.1,r.2.2.2.2.2.2.2.1,r.2.2.2.2.2.2.2.2.1,r.2.2.2.2.2.2.2.2.2.1,r.2.2.2.2.2.2.2.2.2.2.1,r.2.2.2.2.2.2.2.2.2.2.2.1,r.2.2.2.2.2.2.2.2.2.2.2.2)
  partial_fixpoint
def g5y(x_:List (List UInt8) × List SType × Int × List UInt8 × Int × Int × Int × List SSymbol × List SMember × Int × Int × Bool × Int) :Option (Int × List SType × Int × List UInt8 × Int × Int × Int × List SSymbol × List SMember × Int × Int × Bool × Int):=
 match x_ with
 | (s,b,b_1,b_2,b_3,b_4,b_5,b_6,b_7,b_8,b_9,b_10,b_11)=>
 g1j (s,(s.length:Int),0,b,b_1,b_2,b_3,b_4,b_5,b_6,b_7,b_8,b_9,b_10,b_11) >>=fun o=>
 match o with
 | .inl o_1=>
 some (o_1.1,o_1.2.1,o_1.2.2.1,o_1.2.2.2.1,o_1.2.2.2.2.1,o_1.2.2.2.2.2.1,o_1.2.2.2.2.2.2.1,o_1.2.2.2.2.2.2.2.1,o_1.2.2.2.2.2.2.2.2.1,o_1.2.2.2.2.2.2.2.2.2.1,o_1.2.2.2.2.2.2.2.2.2.2.1,o_1.2.2.2.2.2.2.2.2.2.2.2.1,o_1.2.2.2.2.2.2.2.2.2.2.2.2)
 | .inr o_2=>
 some ((-1),o_2.1,o_2.2.1,o_2.2.2.1,o_2.2.2.2.1,o_2.2.2.2.2.1,o_2.2.2.2.2.2.1,o_2.2.2.2.2.2.2.1,o_2.2.2.2.2.2.2.2.1,o_2.2.2.2.2.2.2.2.2.1,o_2.2.2.2.2.2.2.2.2.2.1,o_2.2.2.2.2.2.2.2.2.2.2.1,o_2.2.2.2.2.2.2.2.2.2.2.2)
  partial_fixpoint
def g23(x_:List (List UInt8) × Int × List SType × Int × List UInt8 × Int × Int × Int × List SSymbol × List SMember × Int × Int × Bool × Int) :Option ((Bool) ⊕ (Unit)):=
 match x_ with
 | (l,i,b,b_1,b_2,b_3,b_4,b_5,b_6,b_7,b_8,b_9,b_10,b_11)=>
 if decide (i < (l.length:Int))=true then
 if inR i l.length=true then
 g9 ((⟨(⟨b⟩:SSchema)⟩:EncodeReader),b_8,l.getD i.toNat [],addI .i64 b_11 1) >>=fun r_18=>
 some (!r_18) >>=fun t61=>
 some (addI .i64 i 1) >>=fun t68=>
 if(inR t68 l.length || (!(!t61)))=true then
 (if(!t61)=true then g9 ((⟨(⟨b⟩:SSchema)⟩:EncodeReader),b_9,l.getD t68.toNat [],addI .i64 b_11 1)else some false) >>=fun r_19=>
 some (bif t61 then true else(!r_19)) >>=fun t75=>
 some (decide (0 < i)) >>=fun t78=>
 some (subI .i64 i 2) >>=fun t82=>
 if(inR t82 l.length || (!((!t75) && t78)))=true then
 if(inR i l.length || (!((!t75) && t78)))=true then
 (if((!t75) && t78)=true then gb3 (l.getD t82.toNat [],l.getD i.toNat [])else some false) >>=fun r_20=>
 if(bif t75 then true else bif t78 then(!r_20)else false)=true then
 some (.inl false)
 else
 g23 (l,addI .i64 i 2,b,b_1,b_2,b_3,b_4,b_5,b_6,b_7,b_8,b_9,b_10,b_11)
 else none
 else none
 else none
 else none
 else
 some (.inr ())
  partial_fixpoint
def g17(x_:Int × Int × List SField × Int × Int × List SType × SType) :Option ((Bool) ⊕ (Int × SType)):=
 match x_ with
 | (level_1,seen_2,t27,t28_1,t29,b_1,b_2)=>
 if decide (t29 < t28_1)=true then
 if inR t29 t27.length=true then
 some (t27.getD t29.toNat dSField) >>=fun x0_1=>
 g3c (b_2,x0_1.ID) >>=fun r_4=>
 if(!r_4.2)=true then
 if x0_1.Critical=true then
 some (.inl false)
 else
 g17 (level_1,seen_2,t27,t28_1,addI .i64 t29 1,b_1,b_2)
 else
 if inR r_4.1 b_2.Members.length=true then
 some (b_2.Members.getD r_4.1.toNat dSMember) >>=fun x0_2=>
 some (!(eqB x0_1.Critical x0_2.Critical)) >>=fun t53=>
 (if(!t53)=true then g9 ((⟨(⟨b_1⟩:SSchema)⟩:EncodeReader),x0_2.Type_,x0_1.Data,addI .i64 level_1 1)else some false) >>=fun r_7=>
 if(bif t53 then true else(!r_7))=true then
 some (.inl false)
 else
 if x0_2.HasDefault=true then
 g76 ((⟨b_1⟩:SSchema),x0_2.Type_,SValue.eta x0_2.Default) >>=fun r_8=>
 if r_8=true then
 g1d (x0_2.Type_,SValue.eta x0_2.Default,1,b_1,0) >>=fun r_9=>
 if(bif r_8 then decide (r_9.1=x0_1.Data)else false)=true then
 some (.inl false)
 else
 g17 (level_1,seen_2,t27,t28_1,addI .i64 t29 1,b_1,b_2)
 else
 if(bif r_8 then false else false)=true then
 some (.inl false)
 else
 g17 (level_1,seen_2,t27,t28_1,addI .i64 t29 1,b_1,b_2)
 else
 g17 (level_1,addI .i64 seen_2 1,t27,t28_1,addI .i64 t29 1,b_1,b_2)
 else none
 else none
 else
 some (.inr (seen_2,b_2))
  partial_fixpoint
def g1j(x_:List (List UInt8) × Int × Int × List SType × Int × List UInt8 × Int × Int × Int × List SSymbol × List SMember × Int × Int × Bool × Int) :Option ((Int × List SType × Int × List UInt8 × Int × Int × Int × List SSymbol × List SMember × Int × Int × Bool × Int) ⊕ (List SType × Int × List UInt8 × Int × Int × Int × List SSymbol × List SMember × Int × Int × Bool × Int)):=
 match x_ with
 | (s_1,t7_1,t8,b_36,b_37,b_38,b_39,b_40,b_41,b_42,b_43,b_44,b_45,b_46,b_47)=>
 if decide (t8 < t7_1)=true then
 if inR t8 s_1.length=true then
 g7v (s_1.getD t8.toNat [],b_36,b_37,b_38,b_39,b_40,b_41,b_42,b_43,b_44,b_45,b_46,b_47) >>=fun r=>
 if r.1=true then
 some (.inl (t8,r.2.1,r.2.2.1,r.2.2.2.1,r.2.2.2.2.1,r.2.2.2.2.2.1,r.2.2.2.2.2.2.1,r.2.2.2.2.2.2.2.1,r.2.2.2.2.2.2.2.2.1,r.2.2.2.2.2.2.2.2.2.1,r.2.2.2.2.2.2.2.2.2.2.1,r.2.2.2.2.2.2.2.2.2.2.2.1,r.2.2.2.2.2.2.2.2.2.2.2.2))
 else
 g1j (s_1,t7_1,addI .i64 t8 1,r.2.1,r.2.2.1,r.2.2.2.1,r.2.2.2.2.1,r.2.2.2.2.2.1,r.2.2.2.2.2.2.1,r.2.2.2.2.2.2.2.1,r.2.2.2.2.2.2.2.2.1,r.2.2.2.2.2.2.2.2.2.1,r.2.2.2.2.2.2.2.2.2.2.1,r.2.2.2.2.2.2.2.2.2.2.2.1,r.2.2.2.2.2.2.2.2.2.2.2.2)
 else none
 else
 some (.inr (b_36,b_37,b_38,b_39,b_40,b_41,b_42,b_43,b_44,b_45,b_46,b_47))
  partial_fixpoint
end
theorem e53_k :KC e53:= .m (by kernel_rfl)
theorem e81_k :KC e81:= .m (by kernel_rfl)
theorem gu8 :KC ghw:= .m (by kernel_rfl)
theorem gu9 :KC ghv:= .m (by kernel_rfl)
theorem gua :KC ghu:= .m (by kernel_rfl)
theorem e80_k :KC e80:= .m (by kernel_rfl)
theorem gd4 :(∀h r,g9 h=some r→FD e53 h r)∧(∀h r,g4g h=some r→FD e81 h r)∧(∀h r,g23 h=some r→LD 81 0 [0] e81_0 h r)∧(∀h r,g2z h=some r→FD ghw h r)∧(∀h r,g5y h=some r→FD ghv h r)∧(∀h r,g1j h=some r→LD 151 3 [0] gf8 h r)∧(∀h r,g7v h=some r→FD ghu h r)∧(∀h r,g79 h=some r→FD e80 h r)∧(∀h r,g17 h=some r→LD 80 0 [0] e80_0 h r):=g9.mutual_partial_correctness (FD e53) (FD e81) (LD 81 0 [0] e81_0) (FD ghw) (FD ghv) (LD 151 3 [0] gf8) (FD ghu) (FD e80) (LD 80 0 [0] e80_0)
 (fun _ _ _ h0 h1 h7 _ _ h=>FA e53 e53_k (.k (FH e80 e80_k h7) (.k (FH e81 e81_k h1) (.k (FH e53 e53_k h0) (.k gu7 (.k g86 (.k gpj .n)))))) .n (.trans (by kernel_rfl) h))
 (fun _ _ h2 h3 _ _ h=>FA e81 e81_k (.k gqj (.k (FH ghw gu8 h3) .n)) (.k (LH e81_0 h2) .n) (.trans (by kernel_rfl) h))
 (fun _ _ h0 h2 _ _ h=>LA e81_0 h2 (.k (FH e53 e53_k h0) (.k gpi .n)) .n (.trans (by kernel_rfl) h))
 (fun _ h4 _ _ h=>FA ghw gu8 (.k (FH ghv gu9 h4) .n) .n (.trans (by kernel_rfl) h))
 (fun _ h5 _ _ h=>FA ghv gu9 .n (.k (LH gf8 h5) .n) (.trans (by kernel_rfl) h))
 (fun _ _ h5 h6 _ _ h=>LA gf8 h5 (.k (FH ghu gua h6) .n) .n (.trans (by kernel_rfl) h))
 (fun _ h0 _ _ h=>FA ghu gua (.k (FH e53 e53_k h0) .n) .n (.trans (by kernel_rfl) h))
 (fun _ h8 _ _ h=>FA e80 e80_k (.k gph .n) (.k (LH e80_0 h8) (.k gdz .n)) (.trans (by kernel_rfl) h))
 (fun _ _ h0 h8 _ _ h=>LA e80_0 h8 (.k g86 (.k (FH e53 e53_k h0) (.k gld (.k g7u .n)))) .n (.trans (by kernel_rfl) h))
theorem ge0 :FC e53 g9:= .of e53_k gd4.1
end
section
open Go Go.Proofs.YthnmepafpikaiaaGreat.Shv
open Tryz
set_option maxRecDepth 100000
def g7p(x_:SSchema × Int × List UInt8) :Option (Bool):=
 match x_ with
 | (s,t,m)=>
 g7i ((⟨s.Types⟩:SSchema),t) >>=fun r=>
 some (bif decide (r=0)then decide ((m.length:Int)≤4096)else false) >>=fun t15=>
 (if t15=true then g9 ((⟨(⟨s.Types⟩:SSchema)⟩:EncodeReader),t,m,1)else some false) >>=fun r_1=>
 some (bif t15 then r_1 else false)
theorem e21_k :KC e21:= .m (by kernel_rfl)
theorem glf :FC e21 g7p:= .fn e21_k (.k gfa (.k ge0 .n)) .n fun _=>by kernel_rfl
def g5s(x_:List UInt8 × Int × Int × Int) :Option ((Int × Int × Int) ⊕ (Unit)):=
 match x_ with
 | (s_1,n,unit,i)=>
 if decide (i < 10)=true then
 if decide (i=(s_1.length:Int))=true then
 some (.inl (0,0,10))
 else
 if inR i s_1.length=true then
 some (wrp .u64 (g3e s_1 i)) >>=fun t20=>
 if(bif decide (i=9)then decide (1 < t20)else false)=true then
 some (.inl (0,0,7))
 else
 some (addI .u64 n (mulI .u64 (remI t20 128) unit)) >>=fun t32=>
 if decide (t20 < 128)=true then
 if(bif decide (t20=0)then decide (0 < i)else false)=true then
 some (.inl (0,0,2))
 else
 some (.inl (t32,addI .i64 i 1,0))
 else
 g5s (s_1,t32,mulI .u64 unit 128,addI .i64 i 1)
 else none
 else
 some (.inr ())
  partial_fixpoint
def g87(s:List UInt8) :Option (Int × Int × Int):=
 g5s (s,0,1,0) >>=fun o=>
 match o with
 | .inl o_1=>
 some (o_1.1,o_1.2.1,o_1.2.2)
 | .inr o_2=>
 some (0,0,7)
def g9r(s:List UInt8) :Option (List UInt8 × List UInt8 × Bool):=
 g87 s >>=fun r=>
 if(bif (!(decide (r.2.2=0)))then true else decide (wrp .u64 (subI .i64 (s.length:Int) r.2.1) < r.1))=true then
 some ([],[],false)
 else
 some (addI .i64 r.2.1 (wrp .i64 r.1)) >>=fun t30=>
 if slR r.2.1 t30 s.length=true then
 some (addI .i64 r.2.1 (wrp .i64 r.1)) >>=fun t36=>
 if slR t36 (s.length:Int) s.length=true then
 some (cutL s r.2.1 t30,cutL s t36 (s.length:Int),true)
 else none
 else none
def g4m(x_:List UInt8 × Int × List SField) :Option ((Int) ⊕ (List SField)):=
 match x_ with
 | (payload_1,before,b_1)=>
 if(!(decide (payload_1=[])))=true then
 g87 payload_1 >>=fun r=>
 if(bif bif (!(decide (r.2.2=0)))then true else decide (2001 < r.1)then true else decide (wrp .i64 (quoI .u64 r.1 2)≤before))=true then
 some (.inl 12)
 else
 if slR r.2.1 (payload_1.length:Int) payload_1.length=true then
 g9r (cutL payload_1 r.2.1 (payload_1.length:Int)) >>=fun r_4=>
 if(!r_4.2.2)=true then
 some (.inl 12)
 else
 some (wrp .i64 (quoI .u64 r.1 2)) >>=fun t45=>
 some [(⟨t45,decide (remI r.1 2=1),r_4.1⟩:SField)] >>=fun t54=>
 if room 32 (b_1++t54).length=true then
 g4m (r_4.2.1,t45,b_1++t54)
 else none
 else none
 else
 some (.inr b_1)
  partial_fixpoint
def g88(payload:List UInt8) :Option (List SField × Int):=
 g4m (payload,0,[]) >>=fun o=>
 match o with
 | .inl o_1=>
 some ([],o_1)
 | .inr o_2=>
 some (o_2,0)
def g62(x_:List UInt8 × List (List UInt8)) :Option ((Int) ⊕ (List (List UInt8))):=
 match x_ with
 | (payload_1,b_1)=>
 if(!(decide (payload_1=[])))=true then
 g9r payload_1 >>=fun r=>
 if(!r.2.2)=true then
 some (.inl 12)
 else
 some [r.1] >>=fun t20=>
 if room 16 (b_1++t20).length=true then
 g62 (r.2.1,b_1++t20)
 else none
 else
 some (.inr b_1)
  partial_fixpoint
def g70(payload:List UInt8) :Option (List (List UInt8) × Int):=
 g62 (payload,[]) >>=fun o=>
 match o with
 | .inl o_1=>
 some ([],o_1)
 | .inr o_2=>
 some (o_2,0)
def g9s(payload:List UInt8) :Option (Int × List UInt8 × Int):=
 g87 payload >>=fun r=>
 if(bif bif (!(decide (r.2.2=0)))then true else decide (r.1 < 1)then true else decide (1000 < r.1))=true then
 some (0,[],12)
 else
 if slR r.2.1 (payload.length:Int) payload.length=true then
 some (wrp .i64 r.1,cutL payload r.2.1 (payload.length:Int),0)
 else none
end
section
open Go Go.Proofs.YthnmepafpikaiaaGreat.Shv
open Tryz
set_option maxRecDepth 100000
def g4s(x_:Sheaveref07Draft × Int) :Option (Int):=
 match x_ with
 | (d,i)=>
 if inR i d.Nodes.length=true then
 some (addI .i64 1 (wrp .i64 (remI (d.Nodes.getD i.toNat dSheaveref07Node).Kind 9)))
 else none
theorem e45_k :KC e45:= .m (by kernel_rfl)
theorem g6o :FC e45 g4s:= .fn e45_k .n .n fun _=>by kernel_rfl
def g1v(kind:Int) :Option (Bool):=
 some (bif bif decide (kind=4)then true else decide (kind=5)then true else decide (kind=6))
theorem e46_k :KC e46:= .m (by kernel_rfl)
theorem g9p :FC e46 g1v:= .fn e46_k .n .n fun _=>by kernel_rfl
def g4h(x0:Sheaveref07Node) :Option (Int):=
 some (subI .i64 (wrp .i64 (remI x0.A 7)) 3)
theorem e47_k :KC e47:= .m (by kernel_rfl)
theorem gak :FC e47 g4h:= .fn e47_k .n .n fun _=>by kernel_rfl
def g5l(x0:Sheaveref07Node) :Option (Int):=
 g4h x0 >>=fun r=>
 some (addI .i64 r (wrp .i64 (remI x0.B 6)))
theorem e48_k :KC e48:= .m (by kernel_rfl)
theorem gd5 :FC e48 g5l:= .fn e48_k (.k gak .n) .n fun _=>by kernel_rfl
def g3u(x_:Int × Sheaveref07Node × List Int) :Option (List Int):=
 match x_ with
 | (i,b_1,b_2)=>
 if decide (i < 6)=true then
 if decide (0≤i)=true then
 if decide (remI (shrI .u8 b_1.A i) 2=1)=true then
 some [addI .i64 i 1] >>=fun t18=>
 if room 8 (b_2++t18).length=true then
 g3u (addI .i64 i 1,b_1,b_2++t18)
 else none
 else
 g3u (addI .i64 i 1,b_1,b_2)
 else none
 else
 some b_2
  partial_fixpoint
theorem giz :LC 49 0 [0] e49_0 g3u:= .rc g3u.partial_correctness .n .n fun _ _=>by kernel_rfl
def g47(x0:Sheaveref07Node) :Option (List Int):=
 g3u (0,x0,[]) >>=fun o=>
 if decide ((o.length:Int)=0)=true then
 some [1] >>=fun t24=>
 if room 8 (o++t24).length=true then
 some (o++t24)
 else none
 else
 some o
theorem e49_k :KC e49:= .m (by kernel_rfl)
theorem gdl :FC e49 g47:= .fn e49_k .n (.k giz .n) fun _=>by kernel_rfl
def g6p(kind:Int) :Option (Bool):=
 some (decide (7≤kind))
theorem g16r :KC e119:= .m (by kernel_rfl)
theorem gbw :FC e119 g6p:= .fn g16r .n .n fun _=>by kernel_rfl
def g2d(x_:Int × Int × List Sheaveref07Node) :Option ((Int) ⊕ (Unit)):=
 match x_ with
 | (n,k,b)=>
 if decide (k < n)=true then
 g4s ((⟨b⟩:Sheaveref07Draft),k) >>=fun r_2=>
 g6p r_2 >>=fun r_3=>
 if r_3=true then
 some (.inl k)
 else
 g2d (n,addI .i64 k 1,b)
 else
 some (.inr ())
  partial_fixpoint
theorem gfv :LC 77 0 [0] e77_0 g2d:= .rc g2d.partial_correctness (.k g6o (.k gbw .n)) .n fun _ _=>by kernel_rfl
def g6q(x_:Sheaveref07Draft × Int × Int) :Option (Int):=
 match x_ with
 | (d,i,code)=>
 some (d.Nodes.length:Int) >>=fun t12=>
 if(!(decide (t12=0)))=true then
 some (remI (wrp .i64 code) t12) >>=fun t16=>
 g4s (d,t16) >>=fun r=>
 g6p r >>=fun r_1=>
 if(bif r_1 then true else decide (t16 < i))=true then
 some t16
 else
 if decide (0 < i)=true then
 if(!(decide (i=0)))=true then
 some (remI t16 i)
 else none
 else
 g2d (t12,0,d.Nodes) >>=fun o=>
 match o with
 | .inl o_1=>
 some o_1
 | .inr o_2=>
 some (-1)
 else none
theorem e77_k :KC e77:= .m (by kernel_rfl)
theorem gj0 :FC e77 g6q:= .fn e77_k (.k g6o (.k gbw .n)) (.k gfv .n) fun _=>by kernel_rfl
def g6c(kind:Int) :Option (Bool):=
 some (bif decide (1≤kind)then decide (kind≤4)else false)
theorem e67_k :KC e67:= .m (by kernel_rfl)
theorem gbb :FC e67 g6c:= .fn e67_k .n .n fun _=>by kernel_rfl
end
section
open Go Go.Proofs.YthnmepafpikaiaaGreat.Shv
open Tryz
set_option maxRecDepth 100000
def g35(x_:Int × Int × Int × List Sheaveref07Node) :Option ((Int) ⊕ (Unit)):=
 match x_ with
 | (code_1,n,k,b)=>
 if decide (k < n)=true then
 if(!(decide (n=0)))=true then
 some (remI (addI .i64 (wrp .i64 code_1) k) n) >>=fun t21=>
 g4s ((⟨b⟩:Sheaveref07Draft),t21) >>=fun r=>
 g6c r >>=fun r_1=>
 if r_1=true then
 some (.inl t21)
 else
 g35 (code_1,n,addI .i64 k 1,b)
 else none
 else
 some (.inr ())
  partial_fixpoint
theorem gj1 :LC 51 0 [0] e51_0 g35:= .rc g35.partial_correctness (.k g6o (.k gbb .n)) .n fun _ _=>by kernel_rfl
def g63(x_:Sheaveref07Draft × Int) :Option (Int):=
 match x_ with
 | (d,code)=>
 g35 (code,(d.Nodes.length:Int),0,d.Nodes) >>=fun o=>
 match o with
 | .inl o_1=>
 some o_1
 | .inr o_2=>
 some (-1)
theorem e51_k :KC e51:= .m (by kernel_rfl)
theorem gdm :FC e51 g63:= .fn e51_k .n (.k gj1 .n) fun _=>by kernel_rfl
def g6d(x_:Sheaveref07Draft × Int × Int) :Option (SValue × Bool):=
 match x_ with
 | (d,t,code)=>
 if inR t d.Nodes.length=true then
 some (d.Nodes.getD t.toNat dSheaveref07Node) >>=fun x0=>
 g4s (d,t) >>=fun r=>
 some (decide (r=8)) >>=fun t21=>
 (if t21=true then g63 (d,0)else some 0) >>=fun r_1=>
 if(bif t21 then decide (r_1 < 0)else false)=true then
 some ((⟨7,false,0,[],0,[],[],[]⟩:SValue),true)
 else
 if decide (r=1)=true then
 some ((⟨r,decide (remI code 2=1),0,[],0,[],[],[]⟩:SValue),true)
 else
 if decide (r=2)=true then
 g4h x0 >>=fun r_2=>
 g5l x0 >>=fun r_3=>
 g4h x0 >>=fun r_4=>
 some (addI .i64 (subI .i64 r_3 r_4) 1) >>=fun t47=>
 if(!(decide (t47=0)))=true then
 some ((⟨r,false,addI .i64 r_2 (remI (wrp .i64 code) t47),[],0,[],[],[]⟩:SValue),true)
 else none
 else
 if decide (r=3)=true then
 if(bif decide (0 < remI x0.A 4)then decide (remI code 2=1)else false)=true then
 some ((⟨r,false,0,[97],0,[],[],[]⟩:SValue),true)
 else
 some ((⟨r,false,0,[],0,[],[],[]⟩:SValue),true)
 else
 if decide (r=4)=true then
 g47 x0 >>=fun r_5=>
 g47 x0 >>=fun r_6=>
 some (r_6.length:Int) >>=fun t71=>
 if(!(decide (t71=0)))=true then
 some (remI (wrp .i64 code) t71) >>=fun t72=>
 if inR t72 r_5.length=true then
 some ((⟨r,false,0,[],r_5.getD t72.toNat 0,[],[],[]⟩:SValue),true)
 else none
 else none
 else
 some (decide (r=5)) >>=fun t77=>
 if t77=true then
 if t77=true then
 some ((⟨0,false,0,[],0,[],[],[]⟩:SValue),false)
 else
 some ((⟨r,false,0,[],0,[],[],[]⟩:SValue),true)
 else
 if decide (r=6)=true then
 some ((⟨0,false,0,[],0,[],[],[]⟩:SValue),false)
 else
 some ((⟨r,false,0,[],0,[],[],[]⟩:SValue),true)
 else none
theorem e78_k :KC e78:= .m (by kernel_rfl)
theorem gi0 :FC e78 g6d:= .fn e78_k (.k g6o (.k gdm (.k gak (.k gd5 (.k gdl .n))))) .n fun _=>by kernel_rfl
def g36(x_:Int × Bool × Int × Int × List Sheaveref07Node × Sheaveref07Node × List SMember) :Option (Int × Bool × Int × List Sheaveref07Node × Sheaveref07Node × List SMember):=
 match x_ with
 | (i_3,record_3,id_2,k,b_7,b_8,b_9)=>
 if decide (k < (b_8.Parts.length:Int))=true then
 if inR k b_8.Parts.length=true then
 some (b_8.Parts.getD k.toNat dSheaveref07Part) >>=fun x0_1=>
 g6q ((⟨b_7⟩:Sheaveref07Draft),i_3,x0_1.Type_) >>=fun r=>
 if(bif (!(decide (addI .i64 1 (wrp .i64 (remI x0_1.ID 12))=id_2)))then true else decide (r < 0))=true then
 g36 (i_3,record_3,id_2,addI .i64 k 1,b_7,b_8,b_9)
 else
 some (g8m (wrp .i32 (addI .i64 97 id_2))) >>=fun t55=>
 if decide ([109].length+t55.length≤g2p)=true then
 some ([109]++t55) >>=fun t56=>
 if(bif record_3 then decide (remI x0_1.Flag 4=1)else false)=true then
 if(bif record_3 then decide (2≤remI x0_1.Flag 4)else false)=true then
 g6d ((⟨b_7⟩:Sheaveref07Draft),r,quoI .u8 x0_1.Flag 4) >>=fun r_1=>
 some [(⟨id_2,t56,r,true,r_1.2,SValue.eta r_1.1⟩:SMember)] >>=fun t87=>
 if room 160 (b_9++t87).length=true then
 some (i_3,record_3,id_2,b_7,b_8,b_9++t87)
 else none
 else
 some [(⟨id_2,t56,r,true,false,(⟨0,false,0,[],0,[],[],[]⟩:SValue)⟩:SMember)] >>=fun t87_1=>
 if room 160 (b_9++t87_1).length=true then
 some (i_3,record_3,id_2,b_7,b_8,b_9++t87_1)
 else none
 else
 if(bif record_3 then decide (2≤remI x0_1.Flag 4)else false)=true then
 g6d ((⟨b_7⟩:Sheaveref07Draft),r,quoI .u8 x0_1.Flag 4) >>=fun r_4=>
 some [(⟨id_2,t56,r,false,r_4.2,SValue.eta r_4.1⟩:SMember)] >>=fun t87_2=>
 if room 160 (b_9++t87_2).length=true then
 some (i_3,record_3,id_2,b_7,b_8,b_9++t87_2)
 else none
 else
 some [(⟨id_2,t56,r,false,false,(⟨0,false,0,[],0,[],[],[]⟩:SValue)⟩:SMember)] >>=fun t87_3=>
 if room 160 (b_9++t87_3).length=true then
 some (i_3,record_3,id_2,b_7,b_8,b_9++t87_3)
 else none
 else none
 else none
 else
 some (i_3,record_3,id_2,b_7,b_8,b_9)
  partial_fixpoint
theorem gfe :LC 50 0 [0,0] gwq g36:= .rc g36.partial_correctness (.k gj0 (.k gi0 .n)) .n fun _ _=>by kernel_rfl
def g31(x_:Int × Bool × Int × List Sheaveref07Node × Sheaveref07Node × List SMember) :Option (List SMember):=
 match x_ with
 | (i_1,record_1,id,b_1,b_2,b_3)=>
 if decide (id≤12)=true then
 g36 (i_1,record_1,id,0,b_1,b_2,b_3) >>=fun o_1=>
 g31 (o_1.1,o_1.2.1,addI .i64 o_1.2.2.1 1,o_1.2.2.2.1,o_1.2.2.2.2.1,o_1.2.2.2.2.2)
 else
 some b_3
  partial_fixpoint
theorem gh0 :LC 50 0 [0] e50_0 g31:= .rc g31.partial_correctness .n (.k gfe .n) fun _ _=>by kernel_rfl
def g52(x_:Sheaveref07Draft × Int × Bool) :Option (List SMember):=
 match x_ with
 | (d,i,record)=>
 if inR i d.Nodes.length=true then
 g31 (i,record,1,d.Nodes,d.Nodes.getD i.toNat dSheaveref07Node,[]) >>=fun o=>
 some o
 else none
theorem e50_k :KC e50:= .m (by kernel_rfl)
theorem gjy :FC e50 g52:= .fn e50_k .n (.k gh0 .n) fun _=>by kernel_rfl
def g3j(x_:Int × Int × List Int × Int × List Sheaveref07Node × Int × List UInt8 × Int × Int × Int × Int × Int × Bool × List SType × List SSymbol) :Option (Int × Int × List Sheaveref07Node × Int × List UInt8 × Int × Int × Int × Int × Int × Bool × List SType × List SSymbol):=
 match x_ with
 | (n_3,i_3,l_22,k,b_25,b_26,b_27,b_28,b_29,b_30,b_31,b_32,b_33,b_34,b_35)=>
 if decide (k < (l_22.length:Int))=true then
 if inR k l_22.length=true then
 if inR k l_22.length=true then
 some (g8m (wrp .i32 (addI .i64 97 (l_22.getD k.toNat 0)))) >>=fun t87=>
 if decide ([115].length+t87.length≤g2p)=true then
 some [(⟨l_22.getD k.toNat 0,[115]++t87⟩:SSymbol)] >>=fun t90=>
 if room 24 (b_35++t90).length=true then
 g3j (n_3,i_3,l_22,addI .i64 k 1,b_25,b_26,b_27,b_28,b_29,b_30,b_31,b_32,b_33,b_34,b_35++t90)
 else none
 else none
 else none
 else none
 else
 some (n_3,i_3,b_25,b_26,b_27,b_28,b_29,b_30,b_31,b_32,b_33,b_34,b_35)
  partial_fixpoint
theorem gi1 :LC 20 0 [0,0] gwr g3j:= .rc g3j.partial_correctness .n .n fun _ _=>by kernel_rfl
def gn(x_:Int × Int × List Sheaveref07Node × List SType) :Option (List SType):=
 match x_ with
 | (n,i,b_1,b_2)=>
 if decide (i < n)=true then
 if inR i b_1.length=true then
 some (b_1.getD i.toNat dSheaveref07Node) >>=fun x0=>
 g4s ((⟨b_1⟩:Sheaveref07Draft),i) >>=fun r=>
 g1v r >>=fun r_1=>
 if r_1=true then
 some (g8m (wrp .i32 (addI .i64 65 i))) >>=fun t41=>
 if decide (r=2)=true then
 g4h x0 >>=fun r_2=>
 g5l x0 >>=fun r_3=>
 some [(⟨r,t41,r_2,r_3,0,[],[],0,0,false⟩:SType)] >>=fun t167=>
 if room 120 (b_2++t167).length=true then
 gn (n,addI .i64 i 1,b_1,b_2++t167)
 else none
 else
 if decide (r=3)=true then
 some [(⟨r,t41,0,0,wrp .i64 (remI x0.A 4),[],[],0,0,false⟩:SType)] >>=fun t167_1=>
 if room 120 (b_2++t167_1).length=true then
 gn (n,addI .i64 i 1,b_1,b_2++t167_1)
 else none
 else
 if decide (r=4)=true then
 g47 x0 >>=fun r_4=>
 g3j (n,i,r_4,0,b_1,r,t41,0,0,0,0,0,decide (remI x0.B 2=1),b_2,[]) >>=fun o_1=>
 some [(⟨o_1.2.2.2.1,o_1.2.2.2.2.1,o_1.2.2.2.2.2.1,o_1.2.2.2.2.2.2.1,o_1.2.2.2.2.2.2.2.1,o_1.2.2.2.2.2.2.2.2.2.2.2.2,[],o_1.2.2.2.2.2.2.2.2.1,o_1.2.2.2.2.2.2.2.2.2.1,o_1.2.2.2.2.2.2.2.2.2.2.1⟩:SType)] >>=fun t167_2=>
 if room 120 (o_1.2.2.2.2.2.2.2.2.2.2.2.1++t167_2).length=true then
 gn (o_1.1,addI .i64 o_1.2.1 1,o_1.2.2.1,o_1.2.2.2.2.2.2.2.2.2.2.2.1++t167_2)
 else none
 else
 if decide (r=5)=true then
 g52 ((⟨b_1⟩:Sheaveref07Draft),i,true) >>=fun r_5=>
 some [(⟨r,t41,0,0,0,[],r_5,0,0,false⟩:SType)] >>=fun t167_3=>
 if room 120 (b_2++t167_3).length=true then
 gn (n,addI .i64 i 1,b_1,b_2++t167_3)
 else none
 else
 if decide (r=6)=true then
 g52 ((⟨b_1⟩:Sheaveref07Draft),i,false) >>=fun r_6=>
 if decide ((r_6.length:Int)=0)=true then
 some [(⟨5,t41,0,0,0,[],[],0,0,false⟩:SType)] >>=fun t167_4=>
 if room 120 (b_2++t167_4).length=true then
 gn (n,addI .i64 i 1,b_1,b_2++t167_4)
 else none
 else
 some [(⟨r,t41,0,0,0,[],r_6,0,0,decide (remI x0.B 2=1)⟩:SType)] >>=fun t167_5=>
 if room 120 (b_2++t167_5).length=true then
 gn (n,addI .i64 i 1,b_1,b_2++t167_5)
 else none
 else
 if decide (r=7)=true then
 if(!(decide (n=0)))=true then
 some [(⟨r,t41,0,0,wrp .i64 (remI x0.A 4),[],[],0,remI (wrp .i64 x0.C) n,false⟩:SType)] >>=fun t167_6=>
 if room 120 (b_2++t167_6).length=true then
 gn (n,addI .i64 i 1,b_1,b_2++t167_6)
 else none
 else none
 else
 if decide (r=8)=true then
 some (wrp .i64 (remI x0.A 4)) >>=fun t135=>
 g63 ((⟨b_1⟩:Sheaveref07Draft),x0.B) >>=fun r_7=>
 if(!(decide (n=0)))=true then
 some (remI (wrp .i64 x0.C) n) >>=fun t144=>
 if decide (r_7 < 0)=true then
 some [(⟨7,[],0,0,t135,[],[],0,t144,false⟩:SType)] >>=fun t167_7=>
 if room 120 (b_2++t167_7).length=true then
 gn (n,addI .i64 i 1,b_1,b_2++t167_7)
 else none
 else
 some [(⟨r,t41,0,0,t135,[],[],r_7,t144,false⟩:SType)] >>=fun t167_8=>
 if room 120 (b_2++t167_8).length=true then
 gn (n,addI .i64 i 1,b_1,b_2++t167_8)
 else none
 else none
 else
 if decide (r=9)=true then
 if(!(decide (n=0)))=true then
 some [(⟨r,t41,0,0,0,[],[],0,remI (wrp .i64 x0.C) n,false⟩:SType)] >>=fun t167_9=>
 if room 120 (b_2++t167_9).length=true then
 gn (n,addI .i64 i 1,b_1,b_2++t167_9)
 else none
 else none
 else
 some [(⟨r,t41,0,0,0,[],[],0,0,false⟩:SType)] >>=fun t167_10=>
 if room 120 (b_2++t167_10).length=true then
 gn (n,addI .i64 i 1,b_1,b_2++t167_10)
 else none
 else
 if decide (r=2)=true then
 g4h x0 >>=fun r_8=>
 g5l x0 >>=fun r_9=>
 some [(⟨r,[],r_8,r_9,0,[],[],0,0,false⟩:SType)] >>=fun t167_11=>
 if room 120 (b_2++t167_11).length=true then
 gn (n,addI .i64 i 1,b_1,b_2++t167_11)
 else none
 else
 if decide (r=3)=true then
 some [(⟨r,[],0,0,wrp .i64 (remI x0.A 4),[],[],0,0,false⟩:SType)] >>=fun t167_12=>
 if room 120 (b_2++t167_12).length=true then
 gn (n,addI .i64 i 1,b_1,b_2++t167_12)
 else none
 else
 if decide (r=4)=true then
 g47 x0 >>=fun r_10=>
 g3j (n,i,r_10,0,b_1,r,[],0,0,0,0,0,decide (remI x0.B 2=1),b_2,[]) >>=fun o_2=>
 some [(⟨o_2.2.2.2.1,o_2.2.2.2.2.1,o_2.2.2.2.2.2.1,o_2.2.2.2.2.2.2.1,o_2.2.2.2.2.2.2.2.1,o_2.2.2.2.2.2.2.2.2.2.2.2.2,[],o_2.2.2.2.2.2.2.2.2.1,o_2.2.2.2.2.2.2.2.2.2.1,o_2.2.2.2.2.2.2.2.2.2.2.1⟩:SType)] >>=fun t167_13=>
 if room 120 (o_2.2.2.2.2.2.2.2.2.2.2.2.1++t167_13).length=true then
 gn (o_2.1,addI .i64 o_2.2.1 1,o_2.2.2.1,o_2.2.2.2.2.2.2.2.2.2.2.2.1++t167_13)
 else none
 else
 if decide (r=5)=true then
 g52 ((⟨b_1⟩:Sheaveref07Draft),i,true) >>=fun r_11=>
 some [(⟨r,[],0,0,0,[],r_11,0,0,false⟩:SType)] >>=fun t167_14=>
 if room 120 (b_2++t167_14).length=true then
 gn (n,addI .i64 i 1,b_1,b_2++t167_14)
 else none
 else
 if decide (r=6)=true then
 g52 ((⟨b_1⟩:Sheaveref07Draft),i,false) >>=fun r_12=>
 if decide ((r_12.length:Int)=0)=true then
 some [(⟨5,[],0,0,0,[],[],0,0,false⟩:SType)] >>=fun t167_15=>
 if room 120 (b_2++t167_15).length=true then
 gn (n,addI .i64 i 1,b_1,b_2++t167_15)
 else none
 else
 some [(⟨r,[],0,0,0,[],r_12,0,0,decide (remI x0.B 2=1)⟩:SType)] >>=fun t167_16=>
 if room 120 (b_2++t167_16).length=true then
 gn (n,addI .i64 i 1,b_1,b_2++t167_16)
 else none
 else
 if decide (r=7)=true then
 if(!(decide (n=0)))=true then
 some [(⟨r,[],0,0,wrp .i64 (remI x0.A 4),[],[],0,remI (wrp .i64 x0.C) n,false⟩:SType)] >>=fun t167_17=>
 if room 120 (b_2++t167_17).length=true then
 gn (n,addI .i64 i 1,b_1,b_2++t167_17)
 else none
 else none
 else
 if decide (r=8)=true then
 some (wrp .i64 (remI x0.A 4)) >>=fun t135_1=>
 g63 ((⟨b_1⟩:Sheaveref07Draft),x0.B) >>=fun r_13=>
 if(!(decide (n=0)))=true then
 some (remI (wrp .i64 x0.C) n) >>=fun t144_1=>
 if decide (r_13 < 0)=true then
 some [(⟨7,[],0,0,t135_1,[],[],0,t144_1,false⟩:SType)] >>=fun t167_18=>
 if room 120 (b_2++t167_18).length=true then
 gn (n,addI .i64 i 1,b_1,b_2++t167_18)
 else none
 else
 some [(⟨r,[],0,0,t135_1,[],[],r_13,t144_1,false⟩:SType)] >>=fun t167_19=>
 if room 120 (b_2++t167_19).length=true then
 gn (n,addI .i64 i 1,b_1,b_2++t167_19)
 else none
 else none
 else
 if decide (r=9)=true then
 if(!(decide (n=0)))=true then
 some [(⟨r,[],0,0,0,[],[],0,remI (wrp .i64 x0.C) n,false⟩:SType)] >>=fun t167_20=>
 if room 120 (b_2++t167_20).length=true then
 gn (n,addI .i64 i 1,b_1,b_2++t167_20)
 else none
 else none
 else
 some [(⟨r,[],0,0,0,[],[],0,0,false⟩:SType)] >>=fun t167_21=>
 if room 120 (b_2++t167_21).length=true then
 gn (n,addI .i64 i 1,b_1,b_2++t167_21)
 else none
 else none
 else
 some b_2
  partial_fixpoint
theorem gjz :LC 20 0 [0] e20_0 gn:= .rc gn.partial_correctness (.k g6o (.k g9p (.k gak (.k gd5 (.k gdl (.k gjy (.k gdm .n))))))) (.k gi1 .n) fun _ _=>by kernel_rfl
def g6i(d:Sheaveref07Draft) :Option (SSchema × Bool):=
 some (d.Nodes.length:Int) >>=fun t13=>
 if(bif decide (t13 < 1)then true else decide (5 < t13))=true then
 some ((⟨[]⟩:SSchema),false)
 else
 gn (t13,0,d.Nodes,[]) >>=fun o=>
 some ((⟨o⟩:SSchema),true)
theorem e20_k :KC e20:= .m (by kernel_rfl)
theorem gnv :FC e20 g6i:= .fn e20_k .n (.k gjz .n) fun _=>by kernel_rfl
def g30(t:SType) :Option (SType):=
 if decide (t.Kind=1)=true then
 some (⟨t.Kind,[],0,0,0,[],[],0,0,false⟩:SType)
 else
 if decide (t.Kind=2)=true then
 some (⟨t.Kind,[],t.Low,t.High,0,[],[],0,0,false⟩:SType)
 else
 if decide (t.Kind=3)=true then
 some (⟨t.Kind,[],0,0,t.Max,[],[],0,0,false⟩:SType)
 else
 if decide (t.Kind=4)=true then
 some (⟨t.Kind,t.Name,0,0,0,t.Symbols,[],0,0,t.Open⟩:SType)
 else
 if decide (t.Kind=5)=true then
 some (⟨t.Kind,t.Name,0,0,0,[],t.Members,0,0,false⟩:SType)
 else
 if decide (t.Kind=6)=true then
 some (⟨t.Kind,t.Name,0,0,0,[],t.Members,0,0,t.Open⟩:SType)
 else
 if decide (t.Kind=7)=true then
 some (⟨t.Kind,[],0,0,t.Max,[],[],0,t.Elem,false⟩:SType)
 else
 if decide (t.Kind=8)=true then
 some (⟨t.Kind,[],0,0,t.Max,[],[],t.Key,t.Elem,false⟩:SType)
 else
 some (⟨t.Kind,[],0,0,0,[],[],0,t.Elem,false⟩:SType)
theorem g16s :KC e109:= .m (by kernel_rfl)
theorem gk0 :FC e109 g30:= .fn g16s .n .n fun _=>by kernel_rfl
def g26(x_:Int × SValue × SValue) :Option ((Bool) ⊕ (SValue × SValue)):=
 match x_ with
 | (i,b_3,b_4)=>
 if decide (i < (b_3.Rest.length:Int))=true then
 if inR i b_3.Rest.length=true then
 some (b_3.Rest.getD i.toNat dSRaw) >>=fun x0=>
 if inR i b_4.Rest.length=true then
 some (b_4.Rest.getD i.toNat dSRaw) >>=fun x0_1=>
 if(!(eqI x0.ID x0_1.ID && (eqS x0.Data x0_1.Data && true)))=true then
 some (.inl false)
 else
 g26 (addI .i64 i 1,SValue.eta b_3,SValue.eta b_4)
 else none
 else none
 else
 some (.inr (SValue.eta b_3,SValue.eta b_4))
  partial_fixpoint
theorem gde :LC 58 0 [0] e58_0 g26:= .rc g26.partial_correctness .n .n fun _ _=>by kernel_rfl
mutual
def g1e(x_:SValue × SValue) :Option (Bool):=
 match x_ with
 | (a,b)=>
 if(bif bif bif bif bif (!(decide (a.Kind=b.Kind)))then true else(!(eqB a.Bool_ b.Bool_))then true else(!(decide (a.Int_=b.Int_)))then true else(!(decide (a.Str=b.Str)))then true else(!(decide (a.ID=b.ID)))then true else(!(decide ((a.Rest.length:Int)=(b.Rest.length:Int)))))=true then
 some false
 else
 g26 (0,(⟨a.Kind,a.Bool_,a.Int_,a.Str,a.ID,a.Keys,a.Items,a.Rest⟩:SValue),(⟨b.Kind,b.Bool_,b.Int_,b.Str,b.ID,b.Keys,b.Items,b.Rest⟩:SValue)) >>=fun o=>
 match o with
 | .inl o_1=>
 some o_1
 | .inr o_2=>
 g5f (o_2.1.Keys,o_2.2.Keys) >>=fun r=>
 (if r=true then g5f (o_2.1.Items,o_2.2.Items)else some false) >>=fun r_1=>
 some (bif r then r_1 else false)
  partial_fixpoint
def g5f(x_:List SValue × List SValue) :Option (Bool):=
 match x_ with
 | (a,b)=>
 if(!(decide ((a.length:Int)=(b.length:Int))))=true then
 some false
 else
 g3y (a,b,0) >>=fun o=>
 match o with
 | .inl o_1=>
 some o_1
 | .inr o_2=>
 some true
  partial_fixpoint
def g3y(x_:List SValue × List SValue × Int) :Option ((Bool) ⊕ (Unit)):=
 match x_ with
 | (a_1,b_1,i)=>
 if decide (i < (a_1.length:Int))=true then
 if inR i a_1.length=true then
 if inR i b_1.length=true then
 g1e (SValue.eta (a_1.getD i.toNat dSValue),SValue.eta (b_1.getD i.toNat dSValue)) >>=fun r=>
 if(!r)=true then
 some (.inl false)
 else
 g3y (a_1,b_1,addI .i64 i 1)
 else none
 else none
 else
 some (.inr ())
  partial_fixpoint
end
theorem e58_k :KC e58:= .m (by kernel_rfl)
theorem g11e :KC e101:= .m (by kernel_rfl)
theorem ge1 :(∀h r,g1e h=some r→FD e58 h r)∧(∀h r,g5f h=some r→FD e101 h r)∧(∀h r,g3y h=some r→LD 101 0 [0] gl7 h r):=g1e.mutual_partial_correctness (FD e58) (FD e101) (LD 101 0 [0] gl7)
 (fun _ h1 _ _ h=>FA e58 e58_k (.k (FH e101 g11e h1) .n) (.k gde .n) (.trans (by kernel_rfl) h))
 (fun _ h2 _ _ h=>FA e101 g11e .n (.k (LH gl7 h2) .n) (.trans (by kernel_rfl) h))
 (fun _ _ h0 h2 _ _ h=>LA gl7 h2 (.k (FH e58 e58_k h0) .n) .n (.trans (by kernel_rfl) h))
theorem g6a :FC e58 g1e:= .of e58_k ge1.1
end
section
open Go Go.Proofs.YthnmepafpikaiaaGreat.Shv
open Tryz
set_option maxRecDepth 100000
def g5g(x_:SMember × SMember) :Option (Bool):=
 match x_ with
 | (a,b)=>
 some (bif bif bif bif decide (a.ID=b.ID)then decide (a.Name=b.Name)else false then decide (a.Type_=b.Type_)else false then eqB a.Critical b.Critical else false then eqB a.HasDefault b.HasDefault else false) >>=fun t37=>
 (if t37=true then g1e ((⟨a.Default.Kind,a.Default.Bool_,a.Default.Int_,a.Default.Str,a.Default.ID,a.Default.Keys,a.Default.Items,a.Default.Rest⟩:SValue),(⟨b.Default.Kind,b.Default.Bool_,b.Default.Int_,b.Default.Str,b.Default.ID,b.Default.Keys,b.Default.Items,b.Default.Rest⟩:SValue))else some false) >>=fun r=>
 some (bif t37 then r else false)
theorem g16t :KC e141:= .m (by kernel_rfl)
theorem gff :FC e141 g5g:= .fn g16t (.k g6a .n) .n fun _=>by kernel_rfl
def g2g(x_:Int × SType × SType) :Option ((Bool) ⊕ (SType × SType)):=
 match x_ with
 | (i,b_3,b_4)=>
 if decide (i < (b_3.Symbols.length:Int))=true then
 if inR i b_3.Symbols.length=true then
 some (b_3.Symbols.getD i.toNat dSSymbol) >>=fun x0=>
 if inR i b_4.Symbols.length=true then
 some (b_4.Symbols.getD i.toNat dSSymbol) >>=fun x0_1=>
 if(!(eqI x0.ID x0_1.ID && (eqS x0.Name x0_1.Name && true)))=true then
 some (.inl false)
 else
 g2g (addI .i64 i 1,b_3,b_4)
 else none
 else none
 else
 some (.inr (b_3,b_4))
  partial_fixpoint
theorem ge2 :LC 108 0 [0] g111 g2g:= .rc g2g.partial_correctness .n .n fun _ _=>by kernel_rfl
def g2h(x_:Int × SType × SType) :Option ((Bool) ⊕ (Unit)):=
 match x_ with
 | (i_1,b_5,b_6)=>
 if decide (i_1 < (b_5.Members.length:Int))=true then
 if inR i_1 b_5.Members.length=true then
 some (b_5.Members.getD i_1.toNat dSMember) >>=fun x0_2=>
 if inR i_1 b_6.Members.length=true then
 some (b_6.Members.getD i_1.toNat dSMember) >>=fun x0_3=>
 g5g ((⟨x0_2.ID,x0_2.Name,x0_2.Type_,x0_2.Critical,x0_2.HasDefault,SValue.eta x0_2.Default⟩:SMember),(⟨x0_3.ID,x0_3.Name,x0_3.Type_,x0_3.Critical,x0_3.HasDefault,SValue.eta x0_3.Default⟩:SMember)) >>=fun r=>
 if(!r)=true then
 some (.inl false)
 else
 g2h (addI .i64 i_1 1,b_5,b_6)
 else none
 else none
 else
 some (.inr ())
  partial_fixpoint
theorem ge3 :LC 108 0 [1] g112 g2h:= .rc g2h.partial_correctness (.k gff .n) .n fun _ _=>by kernel_rfl
def g7a(x_:SType × SType) :Option (Bool):=
 match x_ with
 | (a,b)=>
 if(bif bif bif bif bif bif bif bif bif (!(decide (a.Kind=b.Kind)))then true else(!(decide (a.Name=b.Name)))then true else(!(decide (a.Low=b.Low)))then true else(!(decide (a.High=b.High)))then true else(!(decide (a.Max=b.Max)))then true else(!(decide (a.Key=b.Key)))then true else(!(decide (a.Elem=b.Elem)))then true else(!(eqB a.Open b.Open))then true else(!(decide ((a.Symbols.length:Int)=(b.Symbols.length:Int))))then true else(!(decide ((a.Members.length:Int)=(b.Members.length:Int)))))=true then
 some false
 else
 g2g (0,(⟨a.Kind,a.Name,a.Low,a.High,a.Max,a.Symbols,a.Members,a.Key,a.Elem,a.Open⟩:SType),(⟨b.Kind,b.Name,b.Low,b.High,b.Max,b.Symbols,b.Members,b.Key,b.Elem,b.Open⟩:SType)) >>=fun o=>
 match o with
 | .inl o_1=>
 some o_1
 | .inr o_2=>
 g2h (0,o_2.1,o_2.2) >>=fun o_3=>
 match o_3 with
 | .inl o_4=>
 some o_4
 | .inr o_5=>
 some true
theorem g16u :KC e108:= .m (by kernel_rfl)
theorem gh1 :FC e108 g7a:= .fn g16u .n (.k ge2 (.k ge3 .n)) fun _=>by kernel_rfl
def g6r(b:Int) :Option (Bool):=
 some (bif bif bif decide (97≤b)then decide (b≤122)else false then true else bif decide (65≤b)then decide (b≤90)else false then true else decide (b=95))
theorem g16v :KC e142:= .m (by kernel_rfl)
theorem gbx :FC e142 g6r:= .fn g16v .n .n fun _=>by kernel_rfl
def g8j(b:Int) :Option (Bool):=
 some (bif decide (48≤b)then decide (b≤57)else false)
theorem g16w :KC e143:= .m (by kernel_rfl)
theorem gk1 :FC e143 g8j:= .fn g16w .n .n fun _=>by kernel_rfl
def g2t(x_:List UInt8 × Int) :Option ((Bool) ⊕ (Unit)):=
 match x_ with
 | (s_1,i)=>
 if decide (i < (s_1.length:Int))=true then
 if inR i s_1.length=true then
 g6r (g3e s_1 i) >>=fun r_1=>
 some (!r_1) >>=fun t27=>
 if(inR i s_1.length || (!t27))=true then
 (if t27=true then g8j (g3e s_1 i)else some false) >>=fun r_2=>
 if(bif t27 then(!r_2)else false)=true then
 some (.inl false)
 else
 g2t (s_1,addI .i64 i 1)
 else none
 else none
 else
 some (.inr ())
  partial_fixpoint
theorem gfw :LC 110 0 [0] g113 g2t:= .rc g2t.partial_correctness (.k gbx (.k gk1 .n)) .n fun _ _=>by kernel_rfl
def g4t(s:List UInt8) :Option (Bool):=
 some (bif decide (s=[])then true else decide (24 < (s.length:Int))) >>=fun t10=>
 if(inR 0 s.length || (!(!t10)))=true then
 (if(!t10)=true then g6r (g3e s 0)else some false) >>=fun r=>
 if(bif t10 then true else(!r))=true then
 some false
 else
 g2t (s,0) >>=fun o=>
 match o with
 | .inl o_1=>
 some o_1
 | .inr o_2=>
 some true
 else none
theorem g16x :KC e110:= .m (by kernel_rfl)
theorem g96 :FC e110 g4t:= .fn g16x (.k gbx .n) (.k gfw .n) fun _=>by kernel_rfl
def g8v(x_:Int × Int) :Option (Bool):=
 match x_ with
 | (before,n)=>
 some (bif bif decide (before < n)then decide (1≤n)else false then decide (n≤1000)else false)
theorem g16y :KC e144:= .m (by kernel_rfl)
theorem gfg :FC e144 g8v:= .fn g16y .n .n fun _=>by kernel_rfl
def g1z(x_:List SSymbol × Int × Int) :Option ((Bool) ⊕ (List SSymbol × Int)):=
 match x_ with
 | (l_4,i_2,k)=>
 if decide (k < i_2)=true then
 if inR k l_4.length=true then
 if inR i_2 l_4.length=true then
 if decide ((l_4.getD k.toNat dSSymbol).Name=(l_4.getD i_2.toNat dSSymbol).Name)=true then
 some (.inl false)
 else
 g1z (l_4,i_2,addI .i64 k 1)
 else none
 else none
 else
 some (.inr (l_4,i_2))
  partial_fixpoint
theorem gdf :LC 111 0 [0,0] gtx g1z:= .rc g1z.partial_correctness .n .n fun _ _=>by kernel_rfl
def g2l(x_:List SSymbol × Int × Int) :Option ((Bool) ⊕ (List SSymbol)):=
 match x_ with
 | (l_2,before,i)=>
 if decide (i < (l_2.length:Int))=true then
 if inR i l_2.length=true then
 g8v (before,(l_2.getD i.toNat dSSymbol).ID) >>=fun r=>
 some (!r) >>=fun t19=>
 if(inR i l_2.length || (!(!t19)))=true then
 (if(!t19)=true then g4t (l_2.getD i.toNat dSSymbol).Name else some false) >>=fun r_1=>
 if(bif t19 then true else(!r_1))=true then
 some (.inl false)
 else
 g1z (l_2,i,0) >>=fun o_3=>
 match o_3 with
 | .inl o_4=>
 some (.inl o_4)
 | .inr o_5=>
 if inR o_5.2 o_5.1.length=true then
 g2l (o_5.1,(o_5.1.getD o_5.2.toNat dSSymbol).ID,addI .i64 o_5.2 1)
 else none
 else none
 else none
 else
 some (.inr l_2)
  partial_fixpoint
theorem gfh :LC 111 0 [0] g114 g2l:= .rc g2l.partial_correctness (.k gfg (.k g96 .n)) (.k gdf .n) fun _ _=>by kernel_rfl
def g6e(l:List SSymbol) :Option (Bool):=
 g2l (l,0,0) >>=fun o=>
 match o with
 | .inl o_1=>
 some o_1
 | .inr o_2=>
 some (bif decide (1≤(o_2.length:Int))then decide ((o_2.length:Int)≤16)else false)
theorem g16z :KC e111:= .m (by kernel_rfl)
theorem gi2 :FC e111 g6e:= .fn g16z .n (.k gfh .n) fun _=>by kernel_rfl
def g20(x_:List SMember × Bool × Int × Int × SMember) :Option ((Bool) ⊕ (List SMember × Bool × Int × SMember)):=
 match x_ with
 | (l_4,record_4,i_2,k,b_1)=>
 if decide (k < i_2)=true then
 if inR k l_4.length=true then
 if decide ((l_4.getD k.toNat dSMember).Name=b_1.Name)=true then
 some (.inl false)
 else
 g20 (l_4,record_4,i_2,addI .i64 k 1,(⟨b_1.ID,b_1.Name,b_1.Type_,b_1.Critical,b_1.HasDefault,SValue.eta b_1.Default⟩:SMember))
 else none
 else
 some (.inr (l_4,record_4,i_2,(⟨b_1.ID,b_1.Name,b_1.Type_,b_1.Critical,b_1.HasDefault,SValue.eta b_1.Default⟩:SMember)))
  partial_fixpoint
theorem gdg :LC 112 0 [0,0] gty g20:= .rc g20.partial_correctness .n .n fun _ _=>by kernel_rfl
def g2m(x_:List SMember × Bool × Int × Int) :Option ((Bool) ⊕ (List SMember × Bool)):=
 match x_ with
 | (l_2,record_2,before,i)=>
 if decide (i < (l_2.length:Int))=true then
 if inR i l_2.length=true then
 some (l_2.getD i.toNat dSMember) >>=fun x0=>
 g8v (before,x0.ID) >>=fun r=>
 some (!r) >>=fun t23=>
 (if(!t23)=true then g4t x0.Name else some false) >>=fun r_1=>
 if(bif bif bif t23 then true else(!r_1)then true else bif x0.Critical then x0.HasDefault else false then true else bif (!record_2)then bif x0.Critical then true else x0.HasDefault else false)=true then
 some (.inl false)
 else
 some (!x0.HasDefault) >>=fun t52=>
 (if t52=true then g1e (SValue.eta x0.Default,(⟨0,false,0,[],0,[],[],[]⟩:SValue))else some false) >>=fun r_2=>
 if(bif t52 then(!r_2)else false)=true then
 some (.inl false)
 else
 g20 (l_2,record_2,i,0,(⟨x0.ID,x0.Name,x0.Type_,x0.Critical,x0.HasDefault,SValue.eta x0.Default⟩:SMember)) >>=fun o_3=>
 match o_3 with
 | .inl o_4=>
 some (.inl o_4)
 | .inr o_5=>
 g2m (o_5.1,o_5.2.1,o_5.2.2.2.ID,addI .i64 o_5.2.2.1 1)
 else none
 else
 some (.inr (l_2,record_2))
  partial_fixpoint
theorem gfi :LC 112 0 [0] g115 g2m:= .rc g2m.partial_correctness (.k gfg (.k g96 (.k g6a .n))) (.k gdg .n) fun _ _=>by kernel_rfl
end
section
open Go Go.Proofs.YthnmepafpikaiaaGreat.Shv
open Tryz
set_option maxRecDepth 100000
def g58(x_:List SMember × Bool) :Option (Bool):=
 match x_ with
 | (l,record)=>
 g2m (l,record,0,0) >>=fun o=>
 match o with
 | .inl o_1=>
 some o_1
 | .inr o_2=>
 some (bif decide ((o_2.1.length:Int)≤16)then bif o_2.2 then true else decide (1≤(o_2.1.length:Int))else false)
theorem g170 :KC e112:= .m (by kernel_rfl)
theorem gi3 :FC e112 g58:= .fn g170 .n (.k gfi .n) fun _=>by kernel_rfl
def g18(t:SType) :Option (Bool):=
 some (bif decide (t.Kind < 1)then true else decide (9 < t.Kind)) >>=fun t10=>
 (if(!t10)=true then g30 t else some dSType) >>=fun r=>
 (if(!t10)=true then g7a (t,r)else some false) >>=fun r_1=>
 some (bif t10 then true else(!r_1)) >>=fun t17=>
 (if(!t17)=true then g1v t.Kind else some false) >>=fun r_2=>
 (if((!t17) && r_2)=true then g4t t.Name else some false) >>=fun r_3=>
 if(bif t17 then true else bif r_2 then(!r_3)else false)=true then
 some false
 else
 if decide (t.Kind=2)=true then
 some (decide (t.Low≤t.High))
 else
 if decide (t.Kind=3)=true then
 some (bif decide (0≤t.Max)then decide (t.Max≤200)else false)
 else
 if decide (t.Kind=4)=true then
 g6e t.Symbols >>=fun r_4=>
 some r_4
 else
 some (decide (t.Kind=5)) >>=fun t54=>
 if t54=true then
 if t54=true then
 g58 (t.Members,decide (t.Kind=5)) >>=fun r_5=>
 some r_5
 else
 some (decide (t.Kind=7)) >>=fun t63=>
 if t63=true then
 if t63=true then
 some (bif decide (0≤t.Max)then decide (t.Max≤50)else false)
 else
 some true
 else
 if decide (t.Kind=8)=true then
 some (bif decide (0≤t.Max)then decide (t.Max≤50)else false)
 else
 some true
 else
 if decide (t.Kind=6)=true then
 g58 (t.Members,decide (t.Kind=5)) >>=fun r_6=>
 some r_6
 else
 some (decide (t.Kind=7)) >>=fun t63_1=>
 if t63_1=true then
 if t63_1=true then
 some (bif decide (0≤t.Max)then decide (t.Max≤50)else false)
 else
 some true
 else
 if decide (t.Kind=8)=true then
 some (bif decide (0≤t.Max)then decide (t.Max≤50)else false)
 else
 some true
theorem e65_k :KC e65:= .m (by kernel_rfl)
theorem gme :FC e65 g18:= .fn e65_k (.k gk0 (.k gh1 (.k g9p (.k g96 (.k gi2 (.k gi3 .n)))))) .n fun _=>by kernel_rfl
def g3z(x_:Int × SType × List Int) :Option (SType × List Int):=
 match x_ with
 | (i,b_2,b_3)=>
 if decide (i < (b_2.Members.length:Int))=true then
 if inR i b_2.Members.length=true then
 some [(b_2.Members.getD i.toNat dSMember).Type_] >>=fun t19=>
 if room 8 (b_3++t19).length=true then
 g3z (addI .i64 i 1,b_2,b_3++t19)
 else none
 else none
 else
 some (b_2,b_3)
  partial_fixpoint
theorem gi4 :LC 66 0 [0] e66_0 g3z:= .rc g3z.partial_correctness .n .n fun _ _=>by kernel_rfl
def g97(t:SType) :Option (List Int):=
 g3z (0,t,[]) >>=fun o=>
 if decide (o.1.Kind=8)=true then
 some [o.1.Key] >>=fun t27=>
 if room 8 (o.2++t27).length=true then
 some (o.2++t27) >>=fun l=>
 if(bif bif decide (o.1.Kind=7)then true else decide (o.1.Kind=8)then true else decide (o.1.Kind=9))=true then
 some [o.1.Elem] >>=fun t45=>
 if room 8 (l++t45).length=true then
 some (l++t45)
 else none
 else
 some l
 else none
 else
 if(bif bif decide (o.1.Kind=7)then true else decide (o.1.Kind=8)then true else decide (o.1.Kind=9))=true then
 some [o.1.Elem] >>=fun t45_1=>
 if room 8 (o.2++t45_1).length=true then
 some (o.2++t45_1)
 else none
 else
 some o.2
theorem e66_k :KC e66:= .m (by kernel_rfl)
theorem glg :FC e66 g97:= .fn e66_k .n (.k gi4 .n) fun _=>by kernel_rfl
def g24(x_:Int × Int × List SType × Int × List UInt8 × Int × Int × Int × List SSymbol × List SMember × Int × Int × Bool) :Option ((Int) ⊕ (Int × List SType × Int × List UInt8 × Int × Int × Int × List SSymbol × List SMember × Int × Int × Bool)):=
 match x_ with
 | (i_3,k,b_23,b_24,b_25,b_26,b_27,b_28,b_29,b_30,b_31,b_32,b_33)=>
 if decide (k < i_3)=true then
 g1v b_24 >>=fun r_3=>
 if(inR k b_23.length || (!r_3))=true then
 if(bif r_3 then decide ((b_23.getD k.toNat dSType).Name=b_25)else false)=true then
 some (.inl 1)
 else
 g24 (i_3,addI .i64 k 1,b_23,b_24,b_25,b_26,b_27,b_28,b_29,b_30,b_31,b_32,b_33)
 else none
 else
 some (.inr (i_3,b_23,b_24,b_25,b_26,b_27,b_28,b_29,b_30,b_31,b_32,b_33))
  partial_fixpoint
theorem gfj :LC 33 0 [0,0] gws g24:= .rc g24.partial_correctness (.k g9p .n) .n fun _ _=>by kernel_rfl
def g37(x_:Int × List Int × Int × List SType × Int × List UInt8 × Int × Int × Int × List SSymbol × List SMember × Int × Int × Bool) :Option ((Int) ⊕ (Int × List SType × Int × List UInt8 × Int × Int × Int × List SSymbol × List SMember × Int × Int × Bool)):=
 match x_ with
 | (i_4,l,k_1,b_34,b_35,b_36,b_37,b_38,b_39,b_40,b_41,b_42,b_43,b_44)=>
 if decide (k_1 < (l.length:Int))=true then
 if inR k_1 l.length=true then
 some (decide (l.getD k_1.toNat 0 < 0)) >>=fun t58=>
 if(inR k_1 l.length || (!(!t58)))=true then
 if(bif t58 then true else decide ((b_34.length:Int)≤l.getD k_1.toNat 0))=true then
 some (.inl 4)
 else
 g37 (i_4,l,addI .i64 k_1 1,b_34,b_35,b_36,b_37,b_38,b_39,b_40,b_41,b_42,b_43,b_44)
 else none
 else none
 else
 some (.inr (i_4,b_34,b_35,b_36,b_37,b_38,b_39,b_40,b_41,b_42,b_43,b_44))
  partial_fixpoint
theorem gfk :LC 33 0 [1,0] gwt g37:= .rc g37.partial_correctness .n .n fun _ _=>by kernel_rfl
def g32(x_:Int × List SType) :Option ((Int) ⊕ (Unit)):=
 match x_ with
 | (i,b)=>
 if decide (i < (b.length:Int))=true then
 if inR i b.length=true then
 some (b.getD i.toNat dSType) >>=fun x0=>
 g18 x0 >>=fun r=>
 if(!r)=true then
 some (.inl 1)
 else
 g24 (i,0,b,x0.Kind,x0.Name,x0.Low,x0.High,x0.Max,x0.Symbols,x0.Members,x0.Key,x0.Elem,x0.Open) >>=fun o_3=>
 match o_3 with
 | .inl o_4=>
 some (.inl o_4)
 | .inr o_5=>
 g97 (⟨o_5.2.2.1,o_5.2.2.2.1,o_5.2.2.2.2.1,o_5.2.2.2.2.2.1,o_5.2.2.2.2.2.2.1,o_5.2.2.2.2.2.2.2.1,o_5.2.2.2.2.2.2.2.2.1,o_5.2.2.2.2.2.2.2.2.2.1,o_5.2.2.2.2.2.2.2.2.2.2.1,o_5.2.2.2.2.2.2.2.2.2.2.2⟩:SType) >>=fun r_1=>
 g37 (o_5.1,r_1,0,o_5.2.1,o_5.2.2.1,o_5.2.2.2.1,o_5.2.2.2.2.1,o_5.2.2.2.2.2.1,o_5.2.2.2.2.2.2.1,o_5.2.2.2.2.2.2.2.1,o_5.2.2.2.2.2.2.2.2.1,o_5.2.2.2.2.2.2.2.2.2.1,o_5.2.2.2.2.2.2.2.2.2.2.1,o_5.2.2.2.2.2.2.2.2.2.2.2) >>=fun o_6=>
 match o_6 with
 | .inl o_7=>
 some (.inl o_7)
 | .inr o_8=>
 some (decide (o_8.2.2.1=8)) >>=fun t71=>
 if(inR o_8.2.2.2.2.2.2.2.2.2.1 o_8.2.1.length || (!t71))=true then
 (if t71=true then g6c (o_8.2.1.getD o_8.2.2.2.2.2.2.2.2.2.1.toNat dSType).Kind else some false) >>=fun r_2=>
 if(bif t71 then(!r_2)else false)=true then
 some (.inl 1)
 else
 g32 (addI .i64 o_8.1 1,o_8.2.1)
 else none
 else none
 else
 some (.inr ())
  partial_fixpoint
theorem gh2 :LC 33 0 [0] e33_0 g32:= .rc g32.partial_correctness (.k gme (.k glg (.k gbb .n))) (.k gfj (.k gfk .n)) fun _ _=>by kernel_rfl
def g53(s:SSchema) :Option (Int):=
 if decide (32 < (s.Types.length:Int))=true then
 some 3
 else
 g32 (0,s.Types) >>=fun o=>
 match o with
 | .inl o_1=>
 some o_1
 | .inr o_2=>
 some 0
theorem e33_k :KC e33:= .m (by kernel_rfl)
theorem gk2 :FC e33 g53:= .fn e33_k .n (.k gh2 .n) fun _=>by kernel_rfl
def g38(x_:List UInt8 × Int × Int) :Option (Int):=
 match x_ with
 | (s_1,n_1,i)=>
 if decide (i < (s_1.length:Int))=true then
 if inR i s_1.length=true then
 g38 (s_1,addI .u64 (mulI .u64 n_1 256) (wrp .u64 (g3e s_1 i)),addI .i64 i 1)
 else none
 else
 some n_1
  partial_fixpoint
def g7s(s:List UInt8) :Option (Int × Int):=
 some (decide (0 < (s.length:Int))) >>=fun t8=>
 if(inR 0 s.length || (!t8))=true then
 if(bif t8 then decide (g3e s 0=0)else false)=true then
 some (0,2)
 else
 if decide (8 < (s.length:Int))=true then
 some (0,7)
 else
 g38 (s,0,0) >>=fun o=>
 some (o,0)
 else none
def g7b(n:Int) :Option (Int):=
 if decide (remI n 2=0)=true then
 some (wrp .i64 (quoI .u64 n 2))
 else
 some (subI .i64 (subI .i64 0 (wrp .i64 (quoI .u64 n 2))) 1)
def g2e(x_:Int × Int × SType) :Option ((Int × Bool) ⊕ (Unit)):=
 match x_ with
 | (id_1,i,b)=>
 if decide (i < (b.Symbols.length:Int))=true then
 if inR i b.Symbols.length=true then
 if decide ((b.Symbols.getD i.toNat dSSymbol).ID=id_1)=true then
 some (.inl (i,true))
 else
 g2e (id_1,addI .i64 i 1,b)
 else none
 else
 some (.inr ())
  partial_fixpoint
theorem gfx :LC 86 0 [0] e86_0 g2e:= .rc g2e.partial_correctness .n .n fun _ _=>by kernel_rfl
def g5t(x_:SType × Int) :Option (Int × Bool):=
 match x_ with
 | (t,id)=>
 g2e (id,0,t) >>=fun o=>
 match o with
 | .inl o_1=>
 some (o_1.1,o_1.2)
 | .inr o_2=>
 some (0,false)
theorem e86_k :KC e86:= .m (by kernel_rfl)
theorem gby :FC e86 g5t:= .fn e86_k .n (.k gfx .n) fun _=>by kernel_rfl
def g2u(x_:Int × Int × SType) :Option ((Int × Bool) ⊕ (Unit)):=
 match x_ with
 | (id_1,i,b)=>
 if decide (i < (b.Members.length:Int))=true then
 if inR i b.Members.length=true then
 if decide ((b.Members.getD i.toNat dSMember).ID=id_1)=true then
 some (.inl (i,true))
 else
 g2u (id_1,addI .i64 i 1,b)
 else none
 else
 some (.inr ())
  partial_fixpoint
theorem gfy :LC 87 0 [0] e87_0 g2u:= .rc g2u.partial_correctness .n .n fun _ _=>by kernel_rfl
end
section
open Go Go.Proofs.YthnmepafpikaiaaGreat.Shv
open Tryz
set_option maxRecDepth 100000
def g1a(x_:SType × Int) :Option (Int × Bool):=
 match x_ with
 | (t,id)=>
 g2u (id,0,t) >>=fun o=>
 match o with
 | .inl o_1=>
 some (o_1.1,o_1.2)
 | .inr o_2=>
 some (0,false)
theorem e87_k :KC e87:= .m (by kernel_rfl)
theorem g4z :FC e87 g1a:= .fn e87_k .n (.k gfy .n) fun _=>by kernel_rfl
def gal(x_:List UInt8 × List UInt8) :Option (Bool):=
 match x_ with
 | (a,b)=>
 some (bif decide ((a.length:Int) < (b.length:Int))then true else bif decide ((a.length:Int)=(b.length:Int))then Op.bytesLess a b else false)
def g5u(n:Int) :Option (Int):=
 if decide (0≤n)=true then
 some (mulI .u64 2 (wrp .u64 n))
 else
 some (addI .u64 (mulI .u64 2 (wrp .u64 (subI .i64 0 (addI .i64 n 1)))) 1)
theorem g171 :KC e104:= .m (by kernel_rfl)
theorem gbz :FC e104 g5u:= .fn g171 .n .n fun _=>by kernel_rfl
def g5v(x_:Int × List UInt8) :Option (List UInt8):=
 match x_ with
 | (n_1,out_1)=>
 if decide (0 < n_1)=true then
 some (strOf [wrp .u8 (remI n_1 256)]) >>=fun t10=>
 if decide (t10.length+out_1.length≤g2p)=true then
 g5v (quoI .u64 n_1 256,t10++out_1)
 else none
 else
 some out_1
  partial_fixpoint
theorem gj2 :LC 103 0 [0] g116 g5v:= .rc g5v.partial_correctness .n .n fun _ _=>by kernel_rfl
def g89(n:Int) :Option (List UInt8):=
 g5v (n,[]) >>=fun o=>
 some o
theorem g172 :KC e103:= .m (by kernel_rfl)
theorem gmf :FC e103 g89:= .fn g172 .n (.k gj2 .n) fun _=>by kernel_rfl
def g5w(x_:Int × List Int) :Option (Int × List Int):=
 match x_ with
 | (n_2,b_1)=>
 if decide (128≤n_2)=true then
 some [wrp .u8 (addI .u64 (remI n_2 128) 128)] >>=fun t11=>
 if room 1 (b_1++t11).length=true then
 g5w (quoI .u64 n_2 128,b_1++t11)
 else none
 else
 some (n_2,b_1)
  partial_fixpoint
theorem gj3 :LC 105 0 [0] g117 g5w:= .rc g5w.partial_correctness .n .n fun _ _=>by kernel_rfl
def g56(n:Int) :Option (List UInt8):=
 g5w (n,[]) >>=fun o=>
 some [wrp .u8 o.1] >>=fun t18=>
 if room 1 (o.2++t18).length=true then
 some (strOf (o.2++t18))
 else none
theorem g173 :KC e105:= .m (by kernel_rfl)
theorem gam :FC e105 g56:= .fn g173 .n (.k gj3 .n) fun _=>by kernel_rfl
def g4u(p:List UInt8) :Option (List UInt8):=
 g56 (wrp .u64 (p.length:Int)) >>=fun r=>
 if decide (r.length+p.length≤g2p)=true then
 some (r++p)
 else none
theorem g174 :KC e106:= .m (by kernel_rfl)
theorem ga4 :FC e106 g4u:= .fn g174 (.k gam .n) .n fun _=>by kernel_rfl
def g71(x_:Int × Bool × List UInt8) :Option (List UInt8):=
 match x_ with
 | (id,critical,p)=>
 some (wrp .u64 (mulI .i64 2 id)) >>=fun t10=>
 if critical=true then
 g56 (addI .u64 t10 1) >>=fun r=>
 g4u p >>=fun r_1=>
 if decide (r.length+r_1.length≤g2p)=true then
 some (r++r_1)
 else none
 else
 g56 t10 >>=fun r_2=>
 g4u p >>=fun r_3=>
 if decide (r_2.length+r_3.length≤g2p)=true then
 some (r_2++r_3)
 else none
theorem e69_k :KC e69:= .m (by kernel_rfl)
theorem gc9 :FC e69 g71:= .fn e69_k (.k gam (.k ga4 .n)) .n fun _=>by kernel_rfl
def g1p(x_:List UInt8 × Int × Int × List SType × SValue × SType) :Option (List UInt8 × Int × List SType × SValue × SType):=
 match x_ with
 | (out_9,id_4,k,b_18,b_19,b_20)=>
 if decide (k < (b_19.Rest.length:Int))=true then
 if inR k b_19.Rest.length=true then
 if decide ((b_19.Rest.getD k.toNat dSRaw).ID=id_4)=true then
 if inR k b_19.Rest.length=true then
 g71 (id_4,false,(b_19.Rest.getD k.toNat dSRaw).Data) >>=fun r_22=>
 if decide (out_9.length+r_22.length≤g2p)=true then
 g1p (out_9++r_22,id_4,addI .i64 k 1,b_18,SValue.eta b_19,b_20)
 else none
 else none
 else
 g1p (out_9,id_4,addI .i64 k 1,b_18,SValue.eta b_19,b_20)
 else none
 else
 some (out_9,id_4,b_18,SValue.eta b_19,b_20)
  partial_fixpoint
theorem gdh :LC 60 0 [0,2] gwu g1p:= .rc g1p.partial_correctness (.k gc9 .n) .n fun _ _=>by kernel_rfl
mutual
def g1b(x_:SSchema × Int × SValue) :Option (List UInt8):=
 match x_ with
 | (s,t,v)=>
 if inR t s.Types.length=true then
 some (s.Types.getD t.toNat dSType) >>=fun x0=>
 if decide (x0.Kind=1)=true then
 if v.Bool_=true then
 some [1]
 else
 some []
 else
 if decide (x0.Kind=2)=true then
 g5u v.Int_ >>=fun r=>
 g89 r >>=fun r_1=>
 some r_1
 else
 if decide (x0.Kind=3)=true then
 some v.Str
 else
 if decide (x0.Kind=4)=true then
 g89 (wrp .u64 v.ID) >>=fun r_2=>
 some r_2
 else
 if decide (x0.Kind=9)=true then
 if decide ((v.Items.length:Int)=0)=true then
 some []
 else
 if inR 0 v.Items.length=true then
 g1b (s,x0.Elem,SValue.eta (v.Items.getD (0:Int).toNat dSValue)) >>=fun r_3=>
 if decide ([1].length+r_3.length≤g2p)=true then
 some ([1]++r_3)
 else none
 else none
 else
 if decide (x0.Kind=6)=true then
 if decide (0 < (v.Rest.length:Int))=true then
 g56 (wrp .u64 v.ID) >>=fun r_4=>
 if inR 0 v.Rest.length=true then
 some (v.Rest.getD (0:Int).toNat dSRaw) >>=fun x0_2=>
 if decide (r_4.length+x0_2.Data.length≤g2p)=true then
 some (r_4++x0_2.Data)
 else none
 else none
 else
 g1a (x0,v.ID) >>=fun r_5=>
 g56 (wrp .u64 v.ID) >>=fun r_8=>
 if inR r_5.1 x0.Members.length=true then
 if inR 0 v.Items.length=true then
 g1b (s,(x0.Members.getD r_5.1.toNat dSMember).Type_,SValue.eta (v.Items.getD (0:Int).toNat dSValue)) >>=fun r_9=>
 if decide (r_8.length+r_9.length≤g2p)=true then
 some (r_8++r_9)
 else none
 else none
 else none
 else
 if decide (x0.Kind=7)=true then
 g3v ([],0,s.Types,SValue.eta v,x0) >>=fun o=>
 some o
 else
 if decide (x0.Kind=8)=true then
 g3w ([],0,s.Types,SValue.eta v,x0) >>=fun o_1=>
 some o_1
 else
 g2n ([],1,s.Types,SValue.eta v,x0) >>=fun o_2=>
 some o_2
 else none
  partial_fixpoint
def g3v(x_:List UInt8 × Int × List SType × SValue × SType) :Option (List UInt8):=
 match x_ with
 | (out_3,i,b,b_1,b_2)=>
 if decide (i < (b_1.Items.length:Int))=true then
 if inR i b_1.Items.length=true then
 g1b ((⟨b⟩:SSchema),b_2.Elem,SValue.eta (b_1.Items.getD i.toNat dSValue)) >>=fun r_10=>
 g4u r_10 >>=fun r_11=>
 if decide (out_3.length+r_11.length≤g2p)=true then
 g3v (out_3++r_11,addI .i64 i 1,b,SValue.eta b_1,b_2)
 else none
 else none
 else
 some out_3
  partial_fixpoint
def g3w(x_:List UInt8 × Int × List SType × SValue × SType) :Option (List UInt8):=
 match x_ with
 | (out_4,i_1,b_3,b_4,b_5)=>
 if decide (i_1 < (b_4.Items.length:Int))=true then
 if inR i_1 b_4.Keys.length=true then
 g1b ((⟨b_3⟩:SSchema),b_5.Key,SValue.eta (b_4.Keys.getD i_1.toNat dSValue)) >>=fun r_12=>
 g4u r_12 >>=fun r_13=>
 if decide (out_4.length+r_13.length≤g2p)=true then
 some (out_4++r_13) >>=fun t144=>
 if inR i_1 b_4.Items.length=true then
 g1b ((⟨b_3⟩:SSchema),b_5.Elem,SValue.eta (b_4.Items.getD i_1.toNat dSValue)) >>=fun r_14=>
 g4u r_14 >>=fun r_15=>
 if decide (t144.length+r_15.length≤g2p)=true then
 g3w (t144++r_15,addI .i64 i_1 1,b_3,SValue.eta b_4,b_5)
 else none
 else none
 else none
 else none
 else
 some out_4
  partial_fixpoint
def g2n(x_:List UInt8 × Int × List SType × SValue × SType) :Option (List UInt8):=
 match x_ with
 | (out_5,id,b_6,b_7,b_8)=>
 if decide (id≤1000)=true then
 g1a (b_8,id) >>=fun r_16=>
 if r_16.2=true then
 if inR r_16.1 b_8.Members.length=true then
 some (b_8.Members.getD r_16.1.toNat dSMember) >>=fun x0_8=>
 some (!x0_8.HasDefault) >>=fun t175=>
 if(inR r_16.1 b_7.Items.length || (!(!t175)))=true then
 (if(!t175)=true then g1e (SValue.eta (b_7.Items.getD r_16.1.toNat dSValue),SValue.eta x0_8.Default)else some false) >>=fun r_19=>
 if(bif t175 then true else(!r_19))=true then
 if inR r_16.1 b_7.Items.length=true then
 g1b ((⟨b_6⟩:SSchema),x0_8.Type_,SValue.eta (b_7.Items.getD r_16.1.toNat dSValue)) >>=fun r_20=>
 g71 (id,x0_8.Critical,r_20) >>=fun r_21=>
 if decide (out_5.length+r_21.length≤g2p)=true then
 g1p (out_5++r_21,id,0,b_6,SValue.eta b_7,b_8) >>=fun o_3=>
 g2n (o_3.1,addI .i64 o_3.2.1 1,o_3.2.2.1,SValue.eta o_3.2.2.2.1,o_3.2.2.2.2)
 else none
 else none
 else
 g1p (out_5,id,0,b_6,SValue.eta b_7,b_8) >>=fun o_4=>
 g2n (o_4.1,addI .i64 o_4.2.1 1,o_4.2.2.1,SValue.eta o_4.2.2.2.1,o_4.2.2.2.2)
 else none
 else none
 else
 g1p (out_5,id,0,b_6,SValue.eta b_7,b_8) >>=fun o_5=>
 g2n (o_5.1,addI .i64 o_5.2.1 1,o_5.2.2.1,SValue.eta o_5.2.2.2.1,o_5.2.2.2.2)
 else
 some out_5
  partial_fixpoint
end
theorem e60_k :KC e60:= .m (by kernel_rfl)
theorem gfz :(∀h r,g1b h=some r→FD e60 h r)∧(∀h r,g2n h=some r→LD 60 0 [2] e60_2 h r)∧(∀h r,g3w h=some r→LD 60 0 [1] e60_1 h r)∧(∀h r,g3v h=some r→LD 60 0 [0] e60_0 h r):=g1b.mutual_partial_correctness (FD e60) (LD 60 0 [2] e60_2) (LD 60 0 [1] e60_1) (LD 60 0 [0] e60_0)
 (fun _ _ _ _ h0 h1 h2 h3 _ _ h=>FA e60 e60_k (.k gbz (.k gmf (.k (FH e60 e60_k h0) (.k gam (.k g4z .n))))) (.k (LH e60_0 h3) (.k (LH e60_1 h2) (.k (LH e60_2 h1) .n))) (.trans (by kernel_rfl) h))
 (fun _ _ h0 h1 _ _ h=>LA e60_2 h1 (.k g4z (.k g6a (.k (FH e60 e60_k h0) (.k gc9 .n)))) (.k gdh .n) (.trans (by kernel_rfl) h))
 (fun _ _ h0 h2 _ _ h=>LA e60_1 h2 (.k (FH e60 e60_k h0) (.k ga4 .n)) .n (.trans (by kernel_rfl) h))
 (fun _ _ h0 h3 _ _ h=>LA e60_0 h3 (.k (FH e60 e60_k h0) (.k ga4 .n)) .n (.trans (by kernel_rfl) h))
theorem gi5 :FC e60 g1b:= .of e60_k gfz.1
end
section
open Go Go.Proofs.YthnmepafpikaiaaGreat.Shv
open Tryz
set_option maxRecDepth 100000
def g2v(x_:Int × List SField × Int × Int × Int × List SType × Int × List UInt8 × Int × Int × Int × List SSymbol × List SMember × Int × Int × Bool × SMember) :Option (Int × List SField × Int × Int × List SType × Int × List UInt8 × Int × Int × Int × List SSymbol × List SMember × Int × Int × Bool × SMember):=
 match x_ with
 | (levels_5,l_6,i_4,at0_1,k,b_65,b_66,b_67,b_68,b_69,b_70,b_71,b_72,b_73,b_74,b_75,b_76)=>
 if decide (k < (l_6.length:Int))=true then
 if inR k l_6.length=true then
 if decide ((l_6.getD k.toNat dSField).ID=b_76.ID)=true then
 g2v (levels_5,l_6,i_4,k,addI .i64 k 1,b_65,b_66,b_67,b_68,b_69,b_70,b_71,b_72,b_73,b_74,b_75,(⟨b_76.ID,b_76.Name,b_76.Type_,b_76.Critical,b_76.HasDefault,SValue.eta b_76.Default⟩:SMember))
 else
 g2v (levels_5,l_6,i_4,at0_1,addI .i64 k 1,b_65,b_66,b_67,b_68,b_69,b_70,b_71,b_72,b_73,b_74,b_75,(⟨b_76.ID,b_76.Name,b_76.Type_,b_76.Critical,b_76.HasDefault,SValue.eta b_76.Default⟩:SMember))
 else none
 else
 some (levels_5,l_6,i_4,at0_1,b_65,b_66,b_67,b_68,b_69,b_70,b_71,b_72,b_73,b_74,b_75,(⟨b_76.ID,b_76.Name,b_76.Type_,b_76.Critical,b_76.HasDefault,SValue.eta b_76.Default⟩:SMember))
  partial_fixpoint
def g27(x_:List SField × Int × Int × List UInt8 × Int × Int × Int × List SSymbol × List SMember × Int × Int × Bool) :Option ((Bool) ⊕ (Unit)):=
 match x_ with
 | (l_7,k_1,b_77,b_78,b_79,b_80,b_81,b_82,b_83,b_84,b_85,b_86)=>
 if decide (k_1 < (l_7.length:Int))=true then
 if inR k_1 l_7.length=true then
 g1a ((⟨b_77,b_78,b_79,b_80,b_81,b_82,b_83,b_84,b_85,b_86⟩:SType),(l_7.getD k_1.toNat dSField).ID) >>=fun r_35=>
 some (!r_35.2) >>=fun t367=>
 if(inR k_1 l_7.length || (!t367))=true then
 if(bif t367 then(l_7.getD k_1.toNat dSField).Critical else false)=true then
 some (.inl false)
 else
 g27 (l_7,addI .i64 k_1 1,b_77,b_78,b_79,b_80,b_81,b_82,b_83,b_84,b_85,b_86)
 else none
 else none
 else
 some (.inr ())
  partial_fixpoint
mutual
def gt(x_:SSchema × Int × List UInt8 × Int) :Option (Bool):=
 match x_ with
 | (s,t,p,levels)=>
 if inR t s.Types.length=true then
 some (s.Types.getD t.toNat dSType) >>=fun x0=>
 if decide (levels < 1)=true then
 some false
 else
 if decide (x0.Kind=1)=true then
 some (bif decide (p=[])then true else decide (p=[1]))
 else
 if decide (x0.Kind=2)=true then
 g7s p >>=fun r=>
 some (decide (r.2=0)) >>=fun t61=>
 (if t61=true then g7b r.1 else some 0) >>=fun r_3=>
 some (bif t61 then decide (x0.Low≤r_3)else false) >>=fun t68=>
 (if t68=true then g7b r.1 else some 0) >>=fun r_4=>
 some (bif t68 then decide (r_4≤x0.High)else false)
 else
 if decide (x0.Kind=3)=true then
 some (decide ((p.length:Int)≤x0.Max))
 else
 if decide (x0.Kind=4)=true then
 g7s p >>=fun r_5=>
 if(bif bif (!(decide (r_5.2=0)))then true else decide (r_5.1 < 1)then true else decide (1000 < r_5.1))=true then
 some false
 else
 g5t (x0,wrp .i64 r_5.1) >>=fun r_8=>
 some (bif r_8.2 then true else x0.Open)
 else
 if decide (x0.Kind=9)=true then
 some (decide (p=[])) >>=fun t115=>
 if(inR 0 p.length || (!(!t115)))=true then
 some (decide (g3e p 0=1)) >>=fun t119=>
 if(slR 1 (p.length:Int) p.length || (!((!t115) && t119)))=true then
 (if((!t115) && t119)=true then gt (s,x0.Elem,cutL p 1 (p.length:Int),subI .i64 levels 1)else some false) >>=fun r_11=>
 some (bif t115 then true else bif t119 then r_11 else false)
 else none
 else none
 else
 if decide (x0.Kind=6)=true then
 g9s p >>=fun r_12=>
 if(!(decide (r_12.2.2=0)))=true then
 some false
 else
 g1a (x0,r_12.1) >>=fun r_16=>
 if r_16.2=true then
 if inR r_16.1 x0.Members.length=true then
 gt (s,(x0.Members.getD r_16.1.toNat dSMember).Type_,r_12.2.1,subI .i64 levels 1) >>=fun r_19=>
 some r_19
 else none
 else
 some x0.Open
 else
 if decide (x0.Kind=7)=true then
 g70 p >>=fun r_20=>
 g2r (levels,r_20.1,r_20.2,0,s.Types,x0.Kind,x0.Name,x0.Low,x0.High,x0.Max,x0.Symbols,x0.Members,x0.Key,x0.Elem,x0.Open) >>=fun o=>
 match o with
 | .inl o_1=>
 some o_1
 | .inr o_2=>
 some (bif decide (o_2.2.1=0)then decide ((o_2.1.length:Int)≤o_2.2.2.2.2.2.2.1)else false)
 else
 if decide (x0.Kind=8)=true then
 g70 p >>=fun r_23=>
 if(bif bif (!(decide (r_23.2=0)))then true else(!(decide (remI (r_23.1.length:Int) 2=0)))then true else decide (x0.Max < quoI .i64 (r_23.1.length:Int) 2))=true then
 some false
 else
 g28 (levels,r_23.1,0,s.Types,x0.Kind,x0.Name,x0.Low,x0.High,x0.Max,x0.Symbols,x0.Members,x0.Key,x0.Elem,x0.Open) >>=fun o_3=>
 match o_3 with
 | .inl o_4=>
 some o_4
 | .inr o_5=>
 some true
 else
 g88 p >>=fun r_26=>
 if(!(decide (r_26.2=0)))=true then
 some false
 else
 g29 (levels,r_26.1,0,s.Types,x0.Kind,x0.Name,x0.Low,x0.High,x0.Max,x0.Symbols,x0.Members,x0.Key,x0.Elem,x0.Open) >>=fun o_6=>
 match o_6 with
 | .inl o_7=>
 some o_7
 | .inr o_8=>
 g27 (o_8.1,0,o_8.2.1,o_8.2.2.1,o_8.2.2.2.1,o_8.2.2.2.2.1,o_8.2.2.2.2.2.1,o_8.2.2.2.2.2.2.1,o_8.2.2.2.2.2.2.2.1,o_8.2.2.2.2.2.2.2.2.1,o_8.2.2.2.2.2.2.2.2.2.1,o_8.2.2.2.2.2.2.2.2.2.2) >>=fun o_9=>
 match o_9 with
 | .inl o_10=>
 some o_10
 | .inr o_11=>
 some true
 else none
  partial_fixpoint
def g2r(x_:Int × List (List UInt8) × Int × Int × List SType × Int × List UInt8 × Int × Int × Int × List SSymbol × List SMember × Int × Int × Bool) :Option ((Bool) ⊕ (List (List UInt8) × Int × Int × List UInt8 × Int × Int × Int × List SSymbol × List SMember × Int × Int × Bool)):=
 match x_ with
 | (levels_1,l_2,e0_1,i,b_20,b_21,b_22,b_23,b_24,b_25,b_26,b_27,b_28,b_29,b_30)=>
 if decide (i < (l_2.length:Int))=true then
 if inR i l_2.length=true then
 gt ((⟨b_20⟩:SSchema),b_29,l_2.getD i.toNat [],subI .i64 levels_1 1) >>=fun r_29=>
 if(!r_29)=true then
 some (.inl false)
 else
 g2r (levels_1,l_2,e0_1,addI .i64 i 1,b_20,b_21,b_22,b_23,b_24,b_25,b_26,b_27,b_28,b_29,b_30)
 else none
 else
 some (.inr (l_2,e0_1,b_21,b_22,b_23,b_24,b_25,b_26,b_27,b_28,b_29,b_30))
  partial_fixpoint
def g28(x_:Int × List (List UInt8) × Int × List SType × Int × List UInt8 × Int × Int × Int × List SSymbol × List SMember × Int × Int × Bool) :Option ((Bool) ⊕ (Unit)):=
 match x_ with
 | (levels_2,l_3,i_1,b_31,b_32,b_33,b_34,b_35,b_36,b_37,b_38,b_39,b_40,b_41)=>
 if decide (i_1 < (l_3.length:Int))=true then
 if inR i_1 l_3.length=true then
 gt ((⟨b_31⟩:SSchema),b_39,l_3.getD i_1.toNat [],subI .i64 levels_2 1) >>=fun r_30=>
 some (!r_30) >>=fun t233=>
 some (addI .i64 i_1 1) >>=fun t240=>
 if(inR t240 l_3.length || (!(!t233)))=true then
 (if(!t233)=true then gt ((⟨b_31⟩:SSchema),b_40,l_3.getD t240.toNat [],subI .i64 levels_2 1)else some false) >>=fun r_31=>
 some (bif t233 then true else(!r_31)) >>=fun t247=>
 some (decide (0 < i_1)) >>=fun t250=>
 some (subI .i64 i_1 2) >>=fun t254=>
 if(inR t254 l_3.length || (!((!t247) && t250)))=true then
 if(inR i_1 l_3.length || (!((!t247) && t250)))=true then
 (if((!t247) && t250)=true then gal (l_3.getD t254.toNat [],l_3.getD i_1.toNat [])else some false) >>=fun r_32=>
 if(bif t247 then true else bif t250 then(!r_32)else false)=true then
 some (.inl false)
 else
 g28 (levels_2,l_3,addI .i64 i_1 2,b_31,b_32,b_33,b_34,b_35,b_36,b_37,b_38,b_39,b_40,b_41)
 else none
 else none
 else none
 else none
 else
 some (.inr ())
  partial_fixpoint
def g29(x_:Int × List SField × Int × List SType × Int × List UInt8 × Int × Int × Int × List SSymbol × List SMember × Int × Int × Bool) :Option ((Bool) ⊕ (List SField × Int × List UInt8 × Int × Int × Int × List SSymbol × List SMember × Int × Int × Bool)):=
 match x_ with
 | (levels_3,l_4,i_2,b_42,b_43,b_44,b_45,b_46,b_47,b_48,b_49,b_50,b_51,b_52)=>
 if decide (i_2 < (b_49.length:Int))=true then
 if inR i_2 b_49.length=true then
 some (b_49.getD i_2.toNat dSMember) >>=fun x0_7=>
 g2v (levels_3,l_4,i_2,(-1),0,b_42,b_43,b_44,b_45,b_46,b_47,b_48,b_49,b_50,b_51,b_52,(⟨x0_7.ID,x0_7.Name,x0_7.Type_,x0_7.Critical,x0_7.HasDefault,SValue.eta x0_7.Default⟩:SMember)) >>=fun o_12=>
 if(bif decide (o_12.2.2.2.1 < 0)then(!o_12.2.2.2.2.2.2.2.2.2.2.2.2.2.2.2.HasDefault)else false)=true then
 some (.inl false)
 else
 some (decide (0≤o_12.2.2.2.1)) >>=fun t307=>
 if(inR o_12.2.2.2.1 o_12.2.1.length || (!t307))=true then
 some (!(eqB (o_12.2.1.getD o_12.2.2.2.1.toNat dSField).Critical o_12.2.2.2.2.2.2.2.2.2.2.2.2.2.2.2.Critical)) >>=fun t316=>
 if(inR o_12.2.2.2.1 o_12.2.1.length || (!(t307 && (!t316))))=true then
 (if(t307 && (!t316))=true then gt ((⟨o_12.2.2.2.2.1⟩:SSchema),o_12.2.2.2.2.2.2.2.2.2.2.2.2.2.2.2.Type_,(o_12.2.1.getD o_12.2.2.2.1.toNat dSField).Data,subI .i64 o_12.1 1)else some false) >>=fun r_33=>
 some (bif t316 then true else(!r_33)) >>=fun t330=>
 if(inR o_12.2.2.2.1 o_12.2.1.length || (!(t307 && (!t330) && o_12.2.2.2.2.2.2.2.2.2.2.2.2.2.2.2.HasDefault)))=true then
 (if(t307 && (!t330) && o_12.2.2.2.2.2.2.2.2.2.2.2.2.2.2.2.HasDefault)=true then g1b ((⟨o_12.2.2.2.2.1⟩:SSchema),o_12.2.2.2.2.2.2.2.2.2.2.2.2.2.2.2.Type_,SValue.eta o_12.2.2.2.2.2.2.2.2.2.2.2.2.2.2.2.Default)else some []) >>=fun r_34=>
 if(bif t307 then bif t330 then true else bif o_12.2.2.2.2.2.2.2.2.2.2.2.2.2.2.2.HasDefault then decide ((o_12.2.1.getD o_12.2.2.2.1.toNat dSField).Data=r_34)else false else false)=true then
 some (.inl false)
 else
 g29 (o_12.1,o_12.2.1,addI .i64 o_12.2.2.1 1,o_12.2.2.2.2.1,o_12.2.2.2.2.2.1,o_12.2.2.2.2.2.2.1,o_12.2.2.2.2.2.2.2.1,o_12.2.2.2.2.2.2.2.2.1,o_12.2.2.2.2.2.2.2.2.2.1,o_12.2.2.2.2.2.2.2.2.2.2.1,o_12.2.2.2.2.2.2.2.2.2.2.2.1,o_12.2.2.2.2.2.2.2.2.2.2.2.2.1,o_12.2.2.2.2.2.2.2.2.2.2.2.2.2.1,o_12.2.2.2.2.2.2.2.2.2.2.2.2.2.2.1)
 else none
 else none
 else none
 else none
 else
 some (.inr (l_4,b_43,b_44,b_45,b_46,b_47,b_48,b_49,b_50,b_51,b_52))
  partial_fixpoint
end
def gbc(x_:SSchema × Int × List UInt8) :Option (Bool):=
 match x_ with
 | (s,t,m)=>
 g53 s >>=fun r=>
 some (bif bif bif decide (r=0)then decide (0≤t)else false then decide (t < (s.Types.length:Int))else false then decide ((m.length:Int)≤4096)else false) >>=fun t25=>
 (if t25=true then gt (s,t,m,200)else some false) >>=fun r_1=>
 some (bif t25 then r_1 else false)
def gx(x_:Int × List SType × List Int × Bool) :Option (Int × List SType × List Int × Bool):=
 match x_ with
 | (n,b,b_1,b_2)=>
 if decide ((b_1.length:Int)=0)=true then
 some (0,b,b_1,b_2)
 else
 if inR 0 b_1.length=true then
 if(!(decide (n=0)))=true then
 if slR 1 (b_1.length:Int) b_1.length=true then
 some (remI (wrp .i64 (b_1.getD (0:Int).toNat 0)) n,b,cutL b_1 1 (b_1.length:Int),b_2)
 else none
 else none
 else none
theorem e89_k :KC e89:= .m (by kernel_rfl)
theorem g3f :FC e89 gx:= .fn e89_k .n .n fun _=>by kernel_rfl
def g33(x_:List UInt8 × Int × List SType × List Int × Bool) :Option (List UInt8 × List SType × List Int × Bool):=
 match x_ with
 | (s_1,n,b_6,b_7,b_8)=>
 if decide (0 < n)=true then
 gx (3,b_6,b_7,b_8) >>=fun r_5=>
 some (g8m (wrp .i32 (addI .i64 97 r_5.1))) >>=fun t21=>
 if decide (s_1.length+t21.length≤g2p)=true then
 g33 (s_1++t21,subI .i64 n 1,r_5.2.1,r_5.2.2.1,r_5.2.2.2)
 else none
 else
 some (s_1,b_6,b_7,b_8)
  partial_fixpoint
theorem gd6 :LC 90 1 [0] e90_0 g33:= .rc g33.partial_correctness (.k g3f .n) .n fun _ _=>by kernel_rfl
def g6l(x_:Int × List SType × List Int × Bool) :Option (List UInt8 × List SType × List Int × Bool):=
 match x_ with
 | (most,b,b_1,b_2)=>
 gx (addI .i64 (minI most 3) 1,b,b_1,b_2) >>=fun r=>
 g33 ([],r.1,r.2.1,r.2.2.1,r.2.2.2) >>=fun o=>
 some (o.1,o.2.1,o.2.2.1,o.2.2.2)
theorem e90_k :KC e90:= .m (by kernel_rfl)
theorem gfl :FC e90 g6l:= .fn e90_k (.k g3f .n) (.k gd6 .n) fun _=>by kernel_rfl
def g4n(x_:List SType × List Int × Bool) :Option (Bool × List SType × List Int × Bool):=
 match x_ with
 | (b,b_1,b_2)=>
 if b_2=true then
 gx (4,b,b_1,b_2) >>=fun r=>
 some (bif b_2 then decide (r.1=3)else false,r.2.1,r.2.2.1,r.2.2.2)
 else
 some (bif b_2 then false else false,b,b_1,b_2)
theorem e91_k :KC e91:= .m (by kernel_rfl)
theorem gg0 :FC e91 g4n:= .fn e91_k (.k g3f .n) .n fun _=>by kernel_rfl
def g98(x_:SType × Int) :Option (Bool):=
 match x_ with
 | (t,n)=>
 g1a (t,n) >>=fun r=>
 g5t (t,n) >>=fun r_3=>
 some (bif r.2 then true else r_3.2)
theorem g175 :KC e130:= .m (by kernel_rfl)
theorem glh :FC e130 g98:= .fn g175 (.k g4z (.k gby .n)) .n fun _=>by kernel_rfl
def g3b(x_:Int × List SType × List Int × Bool × SType) :Option (Int × List SType × List Int × Bool):=
 match x_ with
 | (n_1,b_6,b_7,b_8,b_9)=>
 g98 (b_9,n_1) >>=fun r_5=>
 if r_5=true then
 g3b (addI .i64 n_1 1,b_6,b_7,b_8,b_9)
 else
 some (n_1,b_6,b_7,b_8)
  partial_fixpoint
theorem gc0 :LC 92 1 [0] e92_0 g3b:= .rc g3b.partial_correctness (.k glh .n) .n fun _ _=>by kernel_rfl
end
section
open Go Go.Proofs.YthnmepafpikaiaaGreat.Shv
open Tryz
set_option maxRecDepth 100000
def g2j(x_:SType × List SType × List Int × Bool) :Option (Int × List SType × List Int × Bool):=
 match x_ with
 | (t,b,b_1,b_2)=>
 gx (14,b,b_1,b_2) >>=fun r=>
 g3b (addI .i64 1 r.1,r.2.1,r.2.2.1,r.2.2.2,t) >>=fun o=>
 some (o.1,o.2.1,o.2.2.1,o.2.2.2)
theorem e92_k :KC e92:= .m (by kernel_rfl)
theorem gd7 :FC e92 g2j:= .fn e92_k (.k g3f .n) (.k gc0 .n) fun _=>by kernel_rfl
def g4o(x_:Int × List SType × List Int × Bool) :Option (SRaw × List SType × List Int × Bool):=
 match x_ with
 | (n,b,b_1,b_2)=>
 some [[],[1],[97],[3,1,2]] >>=fun t6=>
 gx (4,b,b_1,b_2) >>=fun r=>
 if inR r.1 t6.length=true then
 some ((⟨n,t6.getD r.1.toNat []⟩:SRaw),r.2.1,r.2.2.1,r.2.2.2)
 else none
theorem e93_k :KC e93:= .m (by kernel_rfl)
theorem gg1 :FC e93 g4o:= .fn e93_k (.k g3f .n) .n fun _=>by kernel_rfl
def g21(x_:Bool × Bool) :Option (Int):=
 match x_ with
 | (less,equal)=>
 if equal=true then
 some 0
 else
 if less=true then
 some (-1)
 else
 some 1
theorem g176 :KC e154:= .m (by kernel_rfl)
theorem gk3 :FC e154 g21:= .fn g176 .n .n fun _=>by kernel_rfl
def g3k(x_:SValue × SValue) :Option (Int):=
 match x_ with
 | (a,b)=>
 if(!(decide (a.Kind=b.Kind)))=true then
 some 0
 else
 if decide (a.Kind=1)=true then
 g21 (b.Bool_,eqB a.Bool_ b.Bool_) >>=fun r=>
 some r
 else
 if decide (a.Kind=2)=true then
 g5u a.Int_ >>=fun r_1=>
 g5u b.Int_ >>=fun r_2=>
 g21 (decide (r_1 < r_2),decide (a.Int_=b.Int_)) >>=fun r_3=>
 some r_3
 else
 if decide (a.Kind=3)=true then
 if(!(decide ((a.Str.length:Int)=(b.Str.length:Int))))=true then
 g21 (decide ((a.Str.length:Int) < (b.Str.length:Int)),false) >>=fun r_4=>
 some r_4
 else
 g21 (Op.bytesLess a.Str b.Str,decide (a.Str=b.Str)) >>=fun r_5=>
 some r_5
 else
 if decide (a.Kind=4)=true then
 g21 (decide (a.ID < b.ID),decide (a.ID=b.ID)) >>=fun r_6=>
 some r_6
 else
 some 0
theorem g177 :KC e131:= .m (by kernel_rfl)
theorem g8w :FC e131 g3k:= .fn g177 (.k gk3 (.k gbz .n)) .n fun _=>by kernel_rfl
def g4a(x_:Int × SValue × SValue × SValue × Int × Bool × Int × List UInt8 × Int) :Option (Int × SValue × SValue × SValue × Int × Bool × Int × List UInt8 × Int):=
 match x_ with
 | (i_1,b_8,b_9,b_10,b_11,b_12,b_13,b_14,b_15)=>
 some (decide (i_1 < (b_8.Keys.length:Int))) >>=fun t12=>
 if(inR i_1 b_8.Keys.length || (!t12))=true then
 (if t12=true then g3k (SValue.eta (b_8.Keys.getD i_1.toNat dSValue),SValue.eta b_9)else some 0) >>=fun r_1=>
 if(bif t12 then decide (r_1 < 0)else false)=true then
 g4a (addI .i64 i_1 1,SValue.eta b_8,SValue.eta b_9,SValue.eta b_10,b_11,b_12,b_13,b_14,b_15)
 else
 some (i_1,SValue.eta b_8,SValue.eta b_9,SValue.eta b_10,b_11,b_12,b_13,b_14,b_15)
 else none
  partial_fixpoint
theorem gj4 :LC 94 0 [0] e94_0 g4a:= .rc g4a.partial_correctness (.k g8w .n) .n fun _ _=>by kernel_rfl
def g9t(x_:SValue × SValue × SValue) :Option (SValue):=
 match x_ with
 | (v,key,item)=>
 g4a (0,SValue.eta v,SValue.eta key,SValue.eta item,0,false,0,[],0) >>=fun o=>
 some (decide (o.1 < (o.2.1.Keys.length:Int))) >>=fun t29=>
 if(inR o.1 o.2.1.Keys.length || (!t29))=true then
 (if t29=true then g3k (SValue.eta (o.2.1.Keys.getD o.1.toNat dSValue),SValue.eta o.2.2.1)else some 0) >>=fun r=>
 if(bif t29 then decide (r=0)else false)=true then
 some (SValue.eta o.2.1)
 else
 if slR 0 o.1 o.2.1.Keys.length=true then
 some (cutL o.2.1.Keys 0 o.1) >>=fun t45=>
 if room 120 ([]++t45).length=true then
 some ([]++t45) >>=fun l=>
 some [SValue.eta o.2.2.1] >>=fun t48=>
 if room 120 (l++t48).length=true then
 some (l++t48) >>=fun l_1=>
 if slR o.1 (o.2.1.Keys.length:Int) o.2.1.Keys.length=true then
 some (cutL o.2.1.Keys o.1 (o.2.1.Keys.length:Int)) >>=fun t53=>
 if room 120 (l_1++t53).length=true then
 if slR 0 o.1 o.2.1.Items.length=true then
 some (cutL o.2.1.Items 0 o.1) >>=fun t60=>
 if room 120 ([]++t60).length=true then
 some ([]++t60) >>=fun l_3=>
 some [SValue.eta o.2.2.2.1] >>=fun t63=>
 if room 120 (l_3++t63).length=true then
 some (l_3++t63) >>=fun l_4=>
 if slR o.1 (o.2.1.Items.length:Int) o.2.1.Items.length=true then
 some (cutL o.2.1.Items o.1 (o.2.1.Items.length:Int)) >>=fun t68=>
 if room 120 (l_4++t68).length=true then
 some (⟨o.2.1.Kind,o.2.1.Bool_,o.2.1.Int_,o.2.1.Str,o.2.1.ID,l_1++t53,l_4++t68,o.2.1.Rest⟩:SValue)
 else none
 else none
 else none
 else none
 else none
 else none
 else none
 else none
 else none
 else none
 else none
theorem e94_k :KC e94:= .m (by kernel_rfl)
theorem gmg :FC e94 g9t:= .fn e94_k (.k g8w .n) (.k gj4 .n) fun _=>by kernel_rfl
mutual
def g13(x_:Int × List SType × List Int × Bool) :Option (SValue × List SType × List Int × Bool):=
 match x_ with
 | (t,b,b_1,b_2)=>
 if inR t b.length=true then
 some (b.getD t.toNat dSType) >>=fun x0=>
 if decide (x0.Kind=1)=true then
 gx (2,b,b_1,b_2) >>=fun r=>
 some ((⟨x0.Kind,decide (r.1=1),0,[],0,[],[],[]⟩:SValue),r.2.1,r.2.2.1,r.2.2.2)
 else
 if decide (x0.Kind=2)=true then
 gx (256,b,b_1,b_2) >>=fun r_5=>
 some (addI .i64 (subI .i64 x0.High x0.Low) 1) >>=fun t51=>
 if(!(decide (t51=0)))=true then
 some ((⟨x0.Kind,false,addI .i64 x0.Low (remI r_5.1 t51),[],0,[],[],[]⟩:SValue),r_5.2.1,r_5.2.2.1,r_5.2.2.2)
 else none
 else
 if decide (x0.Kind=3)=true then
 g6l (x0.Max,b,b_1,b_2) >>=fun r_10=>
 some ((⟨x0.Kind,false,0,r_10.1,0,[],[],[]⟩:SValue),r_10.2.1,r_10.2.2.1,r_10.2.2.2)
 else
 if decide (x0.Kind=4)=true then
 gx ((x0.Symbols.length:Int),b,b_1,b_2) >>=fun r_15=>
 if inR r_15.1 x0.Symbols.length=true then
 some (x0.Symbols.getD r_15.1.toNat dSSymbol) >>=fun x0_1=>
 if x0.Open=true then
 g4n (r_15.2.1,r_15.2.2.1,r_15.2.2.2) >>=fun r_20=>
 if(bif x0.Open then r_20.1 else false)=true then
 g2j (x0,r_20.2.1,r_20.2.2.1,r_20.2.2.2) >>=fun r_25=>
 some ((⟨x0.Kind,false,0,[],r_25.1,[],[],[]⟩:SValue),r_25.2.1,r_25.2.2.1,r_25.2.2.2)
 else
 some ((⟨x0.Kind,false,0,[],x0_1.ID,[],[],[]⟩:SValue),r_20.2.1,r_20.2.2.1,r_20.2.2.2)
 else
 if(bif x0.Open then false else false)=true then
 g2j (x0,r_15.2.1,r_15.2.2.1,r_15.2.2.2) >>=fun r_30=>
 some ((⟨x0.Kind,false,0,[],r_30.1,[],[],[]⟩:SValue),r_30.2.1,r_30.2.2.1,r_30.2.2.2)
 else
 some ((⟨x0.Kind,false,0,[],x0_1.ID,[],[],[]⟩:SValue),r_15.2.1,r_15.2.2.1,r_15.2.2.2)
 else none
 else
 if decide (x0.Kind=5)=true then
 g1h (0,b,b_1,b_2,0,false,0,[],0,x0.Kind,x0.Name,x0.Low,x0.High,x0.Max,x0.Symbols,x0.Members,x0.Key,x0.Elem,x0.Open,x0.Kind,false,0,[],0,[]) >>=fun o=>
 g4n (o.1,o.2.1,o.2.2.1) >>=fun r_35=>
 if r_35.1=true then
 g2j ((⟨o.2.2.2.2.2.2.2.2.1,o.2.2.2.2.2.2.2.2.2.1,o.2.2.2.2.2.2.2.2.2.2.1,o.2.2.2.2.2.2.2.2.2.2.2.1,o.2.2.2.2.2.2.2.2.2.2.2.2.1,o.2.2.2.2.2.2.2.2.2.2.2.2.2.1,o.2.2.2.2.2.2.2.2.2.2.2.2.2.2.1,o.2.2.2.2.2.2.2.2.2.2.2.2.2.2.2.1,o.2.2.2.2.2.2.2.2.2.2.2.2.2.2.2.2.1,o.2.2.2.2.2.2.2.2.2.2.2.2.2.2.2.2.2.1⟩:SType),r_35.2.1,r_35.2.2.1,r_35.2.2.2) >>=fun r_40=>
 g4o (r_40.1,r_40.2.1,r_40.2.2.1,r_40.2.2.2) >>=fun r_45=>
 some ((⟨o.2.2.2.2.2.2.2.2.2.2.2.2.2.2.2.2.2.2.1,o.2.2.2.2.2.2.2.2.2.2.2.2.2.2.2.2.2.2.2.1,o.2.2.2.2.2.2.2.2.2.2.2.2.2.2.2.2.2.2.2.2.1,o.2.2.2.2.2.2.2.2.2.2.2.2.2.2.2.2.2.2.2.2.2.1,o.2.2.2.2.2.2.2.2.2.2.2.2.2.2.2.2.2.2.2.2.2.2.1,[],o.2.2.2.2.2.2.2.2.2.2.2.2.2.2.2.2.2.2.2.2.2.2.2,[r_45.1]⟩:SValue),r_45.2.1,r_45.2.2.1,r_45.2.2.2)
 else
 some ((⟨o.2.2.2.2.2.2.2.2.2.2.2.2.2.2.2.2.2.2.1,o.2.2.2.2.2.2.2.2.2.2.2.2.2.2.2.2.2.2.2.1,o.2.2.2.2.2.2.2.2.2.2.2.2.2.2.2.2.2.2.2.2.1,o.2.2.2.2.2.2.2.2.2.2.2.2.2.2.2.2.2.2.2.2.2.1,o.2.2.2.2.2.2.2.2.2.2.2.2.2.2.2.2.2.2.2.2.2.2.1,[],o.2.2.2.2.2.2.2.2.2.2.2.2.2.2.2.2.2.2.2.2.2.2.2,[]⟩:SValue),r_35.2.1,r_35.2.2.1,r_35.2.2.2)
 else
 if decide (x0.Kind=6)=true then
 if x0.Open=true then
 g4n (b,b_1,b_2) >>=fun r_50=>
 if(bif x0.Open then r_50.1 else false)=true then
 g2j (x0,r_50.2.1,r_50.2.2.1,r_50.2.2.2) >>=fun r_55=>
 g4o (r_55.1,r_55.2.1,r_55.2.2.1,r_55.2.2.2) >>=fun r_60=>
 some ((⟨x0.Kind,false,0,[],r_55.1,[],[],[r_60.1]⟩:SValue),r_60.2.1,r_60.2.2.1,r_60.2.2.2)
 else
 gx ((x0.Members.length:Int),r_50.2.1,r_50.2.2.1,r_50.2.2.2) >>=fun r_65=>
 if inR r_65.1 x0.Members.length=true then
 some (x0.Members.getD r_65.1.toNat dSMember) >>=fun x0_2=>
 g13 (x0_2.Type_,r_65.2.1,r_65.2.2.1,r_65.2.2.2) >>=fun r_70=>
 some ((⟨x0.Kind,false,0,[],x0_2.ID,[],[SValue.eta r_70.1],[]⟩:SValue),r_70.2.1,r_70.2.2.1,r_70.2.2.2)
 else none
 else
 if(bif x0.Open then false else false)=true then
 g2j (x0,b,b_1,b_2) >>=fun r_75=>
 g4o (r_75.1,r_75.2.1,r_75.2.2.1,r_75.2.2.2) >>=fun r_80=>
 some ((⟨x0.Kind,false,0,[],r_75.1,[],[],[r_80.1]⟩:SValue),r_80.2.1,r_80.2.2.1,r_80.2.2.2)
 else
 gx ((x0.Members.length:Int),b,b_1,b_2) >>=fun r_85=>
 if inR r_85.1 x0.Members.length=true then
 some (x0.Members.getD r_85.1.toNat dSMember) >>=fun x0_3=>
 g13 (x0_3.Type_,r_85.2.1,r_85.2.2.1,r_85.2.2.2) >>=fun r_90=>
 some ((⟨x0.Kind,false,0,[],x0_3.ID,[],[SValue.eta r_90.1],[]⟩:SValue),r_90.2.1,r_90.2.2.1,r_90.2.2.2)
 else none
 else
 if decide (x0.Kind=7)=true then
 gx (addI .i64 (minI x0.Max 3) 1,b,b_1,b_2) >>=fun r_95=>
 g2a (r_95.1,r_95.2.1,r_95.2.2.1,r_95.2.2.2,0,false,0,[],0,x0.Kind,x0.Name,x0.Low,x0.High,x0.Max,x0.Symbols,x0.Members,x0.Key,x0.Elem,x0.Open,x0.Kind,false,0,[],0,[]) >>=fun o_1=>
 some ((⟨o_1.2.2.2.2.2.2.2.2.1,o_1.2.2.2.2.2.2.2.2.2.1,o_1.2.2.2.2.2.2.2.2.2.2.1,o_1.2.2.2.2.2.2.2.2.2.2.2.1,o_1.2.2.2.2.2.2.2.2.2.2.2.2.1,[],o_1.2.2.2.2.2.2.2.2.2.2.2.2.2,[]⟩:SValue),o_1.1,o_1.2.1,o_1.2.2.1)
 else
 if decide (x0.Kind=8)=true then
 gx (addI .i64 (minI x0.Max 3) 1,b,b_1,b_2) >>=fun r_100=>
 g2b (r_100.1,r_100.2.1,r_100.2.2.1,r_100.2.2.2,0,false,0,[],0,x0.Kind,x0.Name,x0.Low,x0.High,x0.Max,x0.Symbols,x0.Members,x0.Key,x0.Elem,x0.Open,x0.Kind,false,0,[],0,[],[],[]) >>=fun o_2=>
 some ((⟨o_2.2.2.2.2.2.2.2.2.1,o_2.2.2.2.2.2.2.2.2.2.1,o_2.2.2.2.2.2.2.2.2.2.2.1,o_2.2.2.2.2.2.2.2.2.2.2.2.1,o_2.2.2.2.2.2.2.2.2.2.2.2.2.1,o_2.2.2.2.2.2.2.2.2.2.2.2.2.2.1,o_2.2.2.2.2.2.2.2.2.2.2.2.2.2.2.1,o_2.2.2.2.2.2.2.2.2.2.2.2.2.2.2.2⟩:SValue),o_2.1,o_2.2.1,o_2.2.2.1)
 else
 gx (2,b,b_1,b_2) >>=fun r_105=>
 if decide (r_105.1=1)=true then
 g13 (x0.Elem,r_105.2.1,r_105.2.2.1,r_105.2.2.2) >>=fun r_110=>
 some ((⟨x0.Kind,false,0,[],0,[],[SValue.eta r_110.1],[]⟩:SValue),r_110.2.1,r_110.2.2.1,r_110.2.2.2)
 else
 some ((⟨x0.Kind,false,0,[],0,[],[],[]⟩:SValue),r_105.2.1,r_105.2.2.1,r_105.2.2.2)
 else none
  partial_fixpoint
def g1h(x_:Int × List SType × List Int × Bool × Int × Bool × Int × List UInt8 × Int × Int × List UInt8 × Int × Int × Int × List SSymbol × List SMember × Int × Int × Bool × Int × Bool × Int × List UInt8 × Int × List SValue) :Option (List SType × List Int × Bool × Int × Bool × Int × List UInt8 × Int × Int × List UInt8 × Int × Int × Int × List SSymbol × List SMember × Int × Int × Bool × Int × Bool × Int × List UInt8 × Int × List SValue):=
 match x_ with
 | (i,b_57,b_58,b_59,b_60,b_61,b_62,b_63,b_64,b_65,b_66,b_67,b_68,b_69,b_70,b_71,b_72,b_73,b_74,b_75,b_76,b_77,b_78,b_79,b_80)=>
 if decide (i < (b_71.length:Int))=true then
 if inR i b_71.length=true then
 some (b_71.getD i.toNat dSMember) >>=fun x0_4=>
 if x0_4.HasDefault=true then
 gx (3,b_57,b_58,b_59) >>=fun r_115=>
 if(bif x0_4.HasDefault then decide (r_115.1=0)else false)=true then
 if inR i b_71.length=true then
 some [SValue.eta (b_71.getD i.toNat dSMember).Default] >>=fun t113=>
 if room 120 (b_80++t113).length=true then
 g1h (addI .i64 i 1,r_115.2.1,r_115.2.2.1,r_115.2.2.2,b_60,b_61,b_62,b_63,b_64,b_65,b_66,b_67,b_68,b_69,b_70,b_71,b_72,b_73,b_74,b_75,b_76,b_77,b_78,b_79,b_80++t113)
 else none
 else none
 else
 if inR i b_71.length=true then
 g13 ((b_71.getD i.toNat dSMember).Type_,r_115.2.1,r_115.2.2.1,r_115.2.2.2) >>=fun r_120=>
 some [SValue.eta r_120.1] >>=fun t126=>
 if room 120 (b_80++t126).length=true then
 g1h (addI .i64 i 1,r_120.2.1,r_120.2.2.1,r_120.2.2.2,b_60,b_61,b_62,b_63,b_64,b_65,b_66,b_67,b_68,b_69,b_70,b_71,b_72,b_73,b_74,b_75,b_76,b_77,b_78,b_79,b_80++t126)
 else none
 else none
 else
 if(bif x0_4.HasDefault then false else false)=true then
 if inR i b_71.length=true then
 some [SValue.eta (b_71.getD i.toNat dSMember).Default] >>=fun t113_1=>
 if room 120 (b_80++t113_1).length=true then
 g1h (addI .i64 i 1,b_57,b_58,b_59,b_60,b_61,b_62,b_63,b_64,b_65,b_66,b_67,b_68,b_69,b_70,b_71,b_72,b_73,b_74,b_75,b_76,b_77,b_78,b_79,b_80++t113_1)
 else none
 else none
 else
 if inR i b_71.length=true then
 g13 ((b_71.getD i.toNat dSMember).Type_,b_57,b_58,b_59) >>=fun r_125=>
 some [SValue.eta r_125.1] >>=fun t126_1=>
 if room 120 (b_80++t126_1).length=true then
 g1h (addI .i64 i 1,r_125.2.1,r_125.2.2.1,r_125.2.2.2,b_60,b_61,b_62,b_63,b_64,b_65,b_66,b_67,b_68,b_69,b_70,b_71,b_72,b_73,b_74,b_75,b_76,b_77,b_78,b_79,b_80++t126_1)
 else none
 else none
 else none
 else
 some (b_57,b_58,b_59,b_60,b_61,b_62,b_63,b_64,b_65,b_66,b_67,b_68,b_69,b_70,b_71,b_72,b_73,b_74,b_75,b_76,b_77,b_78,b_79,b_80)
  partial_fixpoint
def g2a(x_:Int × List SType × List Int × Bool × Int × Bool × Int × List UInt8 × Int × Int × List UInt8 × Int × Int × Int × List SSymbol × List SMember × Int × Int × Bool × Int × Bool × Int × List UInt8 × Int × List SValue) :Option (List SType × List Int × Bool × Int × Bool × Int × List UInt8 × Int × Int × Bool × Int × List UInt8 × Int × List SValue):=
 match x_ with
 | (n,b_81,b_82,b_83,b_84,b_85,b_86,b_87,b_88,b_89,b_90,b_91,b_92,b_93,b_94,b_95,b_96,b_97,b_98,b_99,b_100,b_101,b_102,b_103,b_104)=>
 if decide (0 < n)=true then
 g13 (b_97,b_81,b_82,b_83) >>=fun r_130=>
 some [SValue.eta r_130.1] >>=fun t193=>
 if room 120 (b_104++t193).length=true then
 g2a (subI .i64 n 1,r_130.2.1,r_130.2.2.1,r_130.2.2.2,b_84,b_85,b_86,b_87,b_88,b_89,b_90,b_91,b_92,b_93,b_94,b_95,b_96,b_97,b_98,b_99,b_100,b_101,b_102,b_103,b_104++t193)
 else none
 else
 some (b_81,b_82,b_83,b_84,b_85,b_86,b_87,b_88,b_99,b_100,b_101,b_102,b_103,b_104)
  partial_fixpoint
def g2b(x_:Int × List SType × List Int × Bool × Int × Bool × Int × List UInt8 × Int × Int × List UInt8 × Int × Int × Int × List SSymbol × List SMember × Int × Int × Bool × Int × Bool × Int × List UInt8 × Int × List SValue × List SValue × List SRaw) :Option (List SType × List Int × Bool × Int × Bool × Int × List UInt8 × Int × Int × Bool × Int × List UInt8 × Int × List SValue × List SValue × List SRaw):=
 match x_ with
 | (n_1,b_105,b_106,b_107,b_108,b_109,b_110,b_111,b_112,b_113,b_114,b_115,b_116,b_117,b_118,b_119,b_120,b_121,b_122,b_123,b_124,b_125,b_126,b_127,b_128,b_129,b_130)=>
 if decide (0 < n_1)=true then
 g13 (b_120,b_105,b_106,b_107) >>=fun r_135=>
 g13 (b_121,r_135.2.1,r_135.2.2.1,r_135.2.2.2) >>=fun r_140=>
 g9t ((⟨b_123,b_124,b_125,b_126,b_127,b_128,b_129,b_130⟩:SValue),SValue.eta r_135.1,SValue.eta r_140.1) >>=fun r_145=>
 g2b (subI .i64 n_1 1,r_140.2.1,r_140.2.2.1,r_140.2.2.2,b_108,b_109,b_110,b_111,b_112,b_113,b_114,b_115,b_116,b_117,b_118,b_119,b_120,b_121,b_122,r_145.Kind,r_145.Bool_,r_145.Int_,r_145.Str,r_145.ID,r_145.Keys,r_145.Items,r_145.Rest)
 else
 some (b_105,b_106,b_107,b_108,b_109,b_110,b_111,b_112,b_123,b_124,b_125,b_126,b_127,b_128,b_129,b_130)
  partial_fixpoint
end
theorem e55_k :KC e55:= .m (by kernel_rfl)
theorem gd8 :(∀h r,g13 h=some r→FD e55 h r)∧(∀h r,g2b h=some r→LD 55 1 [2] e55_2 h r)∧(∀h r,g2a h=some r→LD 55 1 [1] e55_1 h r)∧(∀h r,g1h h=some r→LD 55 1 [0] e55_0 h r):=g13.mutual_partial_correctness (FD e55) (LD 55 1 [2] e55_2) (LD 55 1 [1] e55_1) (LD 55 1 [0] e55_0)
 (fun _ _ _ _ h0 h1 h2 h3 _ _ h=>FA e55 e55_k (.k g3f (.k gfl (.k gg0 (.k gd7 (.k gg1 (.k (FH e55 e55_k h0) .n)))))) (.k (LH e55_0 h3) (.k (LH e55_1 h2) (.k (LH e55_2 h1) .n))) (.trans (by kernel_rfl) h))
 (fun _ _ h0 h1 _ _ h=>LA e55_2 h1 (.k (FH e55 e55_k h0) (.k gmg .n)) .n (.trans (by kernel_rfl) h))
 (fun _ _ h0 h2 _ _ h=>LA e55_1 h2 (.k (FH e55 e55_k h0) .n) .n (.trans (by kernel_rfl) h))
 (fun _ _ h0 h3 _ _ h=>LA e55_0 h3 (.k g3f (.k (FH e55 e55_k h0) .n)) .n (.trans (by kernel_rfl) h))
theorem g9u :FC e55 g13:= .of e55_k gd8.1
def g99(x_:SSchema × Int × List Int) :Option (SValue):=
 match x_ with
 | (s,t,choices)=>
 some (minI 60 (choices.length:Int)) >>=fun t12=>
 if slR 0 t12 choices.length=true then
 g13 (t,s.Types,cutL choices 0 t12,false) >>=fun r=>
 some (SValue.eta r.1)
 else none
theorem e24_k :KC e24:= .m (by kernel_rfl)
theorem gli :FC e24 g99:= .fn e24_k (.k g9u .n) .n fun _=>by kernel_rfl
def g7t(x_:SSchema × Int × List Int) :Option (SValue):=
 match x_ with
 | (s,t,choices)=>
 some (minI 60 (choices.length:Int)) >>=fun t12=>
 if slR 0 t12 choices.length=true then
 g13 (t,s.Types,cutL choices 0 t12,true) >>=fun r=>
 some (SValue.eta r.1)
 else none
theorem e25_k :KC e25:= .m (by kernel_rfl)
theorem gi6 :FC e25 g7t:= .fn e25_k (.k g9u .n) .n fun _=>by kernel_rfl
def g8x(d:Sheaveref08Draft) :Option (SSchema × Int × SValue × SValue × Bool):=
 g6i d.S >>=fun r=>
 if(!r.2)=true then
 some (r.1,0,(⟨0,false,0,[],0,[],[],[]⟩:SValue),(⟨0,false,0,[],0,[],[],[]⟩:SValue),false)
 else
 some (r.1.Types.length:Int) >>=fun t26=>
 if(!(decide (t26=0)))=true then
 some (remI (wrp .i64 d.T) t26) >>=fun t27=>
 g99 (r.1,t27,d.C) >>=fun r_3=>
 g7t (r.1,t27,d.C) >>=fun r_4=>
 some (r.1,t27,SValue.eta r_3,SValue.eta r_4,true)
 else none
theorem e23_k :KC e23:= .m (by kernel_rfl)
theorem gnw :FC e23 g8x:= .fn e23_k (.k gnv (.k gli (.k gi6 .n))) .n fun _=>by kernel_rfl
end
section
open Go Go.Proofs.YthnmepafpikaiaaGreat.Shv
open Tryz
set_option maxRecDepth 100000
def g5m(v:SValue) :Option (Bool):=
 some (bif bif bif bif bif bif bif decide (v.Kind=1)then true else(!v.Bool_)then bif decide (v.Kind=2)then true else decide (v.Int_=0)else false then bif decide (v.Kind=3)then true else decide (v.Str=[])else false then bif bif decide (v.Kind=4)then true else decide (v.Kind=6)then true else decide (v.ID=0)else false then bif decide (v.Kind=8)then true else decide ((v.Keys.length:Int)=0)else false then bif decide (5≤v.Kind)then true else decide ((v.Items.length:Int)=0)else false then bif bif decide (v.Kind=5)then true else decide (v.Kind=6)then true else decide ((v.Rest.length:Int)=0)else false)
theorem g178 :KC e137:= .m (by kernel_rfl)
theorem glj :FC e137 g5m:= .fn g178 .n .n fun _=>by kernel_rfl
def g1i(x_:Int × Bool) :Option (Bool):=
 match x_ with
 | (n,known)=>
 some (bif bif (!known)then decide (1≤n)else false then decide (n≤1000)else false)
theorem g179 :KC e138:= .m (by kernel_rfl)
theorem gfm :FC e138 g1i:= .fn g179 .n .n fun _=>by kernel_rfl
def g1k(x_:List SRaw × Int × SType) :Option ((Bool) ⊕ (Unit)):=
 match x_ with
 | (l_1,i,b)=>
 if decide (i < (l_1.length:Int))=true then
 if inR i l_1.length=true then
 g1a (b,(l_1.getD i.toNat dSRaw).ID) >>=fun r=>
 if inR i l_1.length=true then
 g1i ((l_1.getD i.toNat dSRaw).ID,r.2) >>=fun r_3=>
 some (!r_3) >>=fun t31=>
 some (decide (0 < i)) >>=fun t34=>
 if(inR i l_1.length || (!((!t31) && t34)))=true then
 some (subI .i64 i 1) >>=fun t43=>
 if(inR t43 l_1.length || (!((!t31) && t34)))=true then
 if(bif t31 then true else bif t34 then decide ((l_1.getD i.toNat dSRaw).ID≤(l_1.getD t43.toNat dSRaw).ID)else false)=true then
 some (.inl false)
 else
 g1k (l_1,addI .i64 i 1,b)
 else none
 else none
 else none
 else none
 else
 some (.inr ())
  partial_fixpoint
theorem gi7 :LC 139 0 [0] g118 g1k:= .rc g1k.partial_correctness (.k g4z (.k gfm .n)) .n fun _ _=>by kernel_rfl
def g4v(x_:SType × List SRaw) :Option (Bool):=
 match x_ with
 | (t,l)=>
 g1k (l,0,t) >>=fun o=>
 match o with
 | .inl o_1=>
 some o_1
 | .inr o_2=>
 some true
theorem g17a :KC e139:= .m (by kernel_rfl)
theorem glk :FC e139 g4v:= .fn g17a .n (.k gi7 .n) fun _=>by kernel_rfl
def g11(x_:Int × SValue) :Option ((Bool) ⊕ (Unit)):=
 match x_ with
 | (i_1,b_12)=>
 if decide (i_1 < (b_12.Keys.length:Int))=true then
 some (subI .i64 i_1 1) >>=fun t270=>
 if inR t270 b_12.Keys.length=true then
 if inR i_1 b_12.Keys.length=true then
 g3k (SValue.eta (b_12.Keys.getD t270.toNat dSValue),SValue.eta (b_12.Keys.getD i_1.toNat dSValue)) >>=fun r_16=>
 if decide (0≤r_16)=true then
 some (.inl false)
 else
 g11 (addI .i64 i_1 1,SValue.eta b_12)
 else none
 else none
 else
 some (.inr ())
  partial_fixpoint
theorem gj5 :LC 107 0 [1] g119 g11:= .rc g11.partial_correctness (.k g8w .n) .n fun _ _=>by kernel_rfl
mutual
def g48(x_:SSchema × Int × List SValue × Bool) :Option (Bool):=
 match x_ with
 | (s,t,l,plain)=>
 g1w (t,l,plain,0,s.Types) >>=fun o=>
 match o with
 | .inl o_1=>
 some o_1
 | .inr o_2=>
 some true
  partial_fixpoint
def g1q(x_:SSchema × Int × SValue × Bool) :Option (Bool):=
 match x_ with
 | (s,t,v,plain)=>
 if(bif decide (t < 0)then true else decide ((s.Types.length:Int)≤t))=true then
 some false
 else
 if inR t s.Types.length=true then
 some (s.Types.getD t.toNat dSType) >>=fun x0=>
 some (!(decide (v.Kind=x0.Kind))) >>=fun t34=>
 (if(!t34)=true then g5m (SValue.eta v)else some false) >>=fun r=>
 if(bif bif t34 then true else(!r)then true else bif plain then decide (0 < (v.Rest.length:Int))else false)=true then
 some false
 else
 if decide (x0.Kind=1)=true then
 some true
 else
 if decide (x0.Kind=2)=true then
 some (bif decide (x0.Low≤v.Int_)then decide (v.Int_≤x0.High)else false)
 else
 if decide (x0.Kind=3)=true then
 some (decide ((v.Str.length:Int)≤x0.Max))
 else
 if decide (x0.Kind=4)=true then
 g5t (x0,v.ID) >>=fun r_1=>
 some (bif x0.Open then(!plain)else false) >>=fun t91=>
 (if((!r_1.2) && t91)=true then g1i (v.ID,r_1.2)else some false) >>=fun r_4=>
 some (bif r_1.2 then true else bif t91 then r_4 else false)
 else
 if decide (x0.Kind=5)=true then
 some (!(decide ((v.Items.length:Int)=(x0.Members.length:Int)))) >>=fun t107=>
 (if(!t107)=true then g4v (x0,v.Rest)else some false) >>=fun r_5=>
 if(bif t107 then true else(!r_5))=true then
 some false
 else
 g1c (plain,0,s.Types,SValue.eta v,x0.Kind,x0.Name,x0.Low,x0.High,x0.Max,x0.Symbols,x0.Members,x0.Key,x0.Elem,x0.Open) >>=fun o=>
 match o with
 | .inl o_1=>
 some o_1
 | .inr o_2=>
 some true
 else
 if decide (x0.Kind=6)=true then
 g1a (x0,v.ID) >>=fun r_6=>
 if r_6.2=true then
 some (bif decide ((v.Items.length:Int)=1)then decide ((v.Rest.length:Int)=0)else false) >>=fun t156=>
 if(inR r_6.1 x0.Members.length || (!t156))=true then
 if(inR 0 v.Items.length || (!t156))=true then
 (if t156=true then g1q (s,(x0.Members.getD r_6.1.toNat dSMember).Type_,SValue.eta (v.Items.getD (0:Int).toNat dSValue),plain)else some false) >>=fun r_9=>
 some (bif t156 then r_9 else false)
 else none
 else none
 else
 some (bif x0.Open then(!plain)else false) >>=fun t177=>
 (if t177=true then g1i (v.ID,r_6.2)else some false) >>=fun r_10=>
 some (bif bif bif t177 then r_10 else false then decide ((v.Items.length:Int)=0)else false then decide ((v.Rest.length:Int)=1)else false) >>=fun t195=>
 if(inR 0 v.Rest.length || (!t195))=true then
 some (bif t195 then decide ((v.Rest.getD (0:Int).toNat dSRaw).ID=v.ID)else false)
 else none
 else
 if decide (x0.Kind=7)=true then
 some (decide ((v.Items.length:Int)≤x0.Max)) >>=fun t213=>
 (if t213=true then g48 (s,x0.Elem,v.Items,plain)else some false) >>=fun r_11=>
 some (bif t213 then r_11 else false)
 else
 if decide (x0.Kind=8)=true then
 some (bif decide (x0.Max < (v.Keys.length:Int))then true else(!(decide ((v.Items.length:Int)=(v.Keys.length:Int))))) >>=fun t239=>
 (if(!t239)=true then g48 (s,x0.Key,v.Keys,plain)else some false) >>=fun r_12=>
 some (bif t239 then true else(!r_12)) >>=fun t249=>
 (if(!t249)=true then g48 (s,x0.Elem,v.Items,plain)else some false) >>=fun r_13=>
 if(bif t249 then true else(!r_13))=true then
 some false
 else
 g11 (1,SValue.eta v) >>=fun o_3=>
 match o_3 with
 | .inl o_4=>
 some o_4
 | .inr o_5=>
 some true
 else
 some (decide ((v.Items.length:Int)≤1)) >>=fun t283=>
 (if t283=true then g48 (s,x0.Elem,v.Items,plain)else some false) >>=fun r_14=>
 some (bif t283 then r_14 else false)
 else none
  partial_fixpoint
def g1w(x_:Int × List SValue × Bool × Int × List SType) :Option ((Bool) ⊕ (Unit)):=
 match x_ with
 | (t_1,l_1,plain_1,i,b)=>
 if decide (i < (l_1.length:Int))=true then
 if inR i l_1.length=true then
 g1q ((⟨b⟩:SSchema),t_1,SValue.eta (l_1.getD i.toNat dSValue),plain_1) >>=fun r=>
 if(!r)=true then
 some (.inl false)
 else
 g1w (t_1,l_1,plain_1,addI .i64 i 1,b)
 else none
 else
 some (.inr ())
  partial_fixpoint
def g1c(x_:Bool × Int × List SType × SValue × Int × List UInt8 × Int × Int × Int × List SSymbol × List SMember × Int × Int × Bool) :Option ((Bool) ⊕ (Unit)):=
 match x_ with
 | (plain_1,i,b,b_1,b_2,b_3,b_4,b_5,b_6,b_7,b_8,b_9,b_10,b_11)=>
 if decide (i < (b_1.Items.length:Int))=true then
 if inR i b_8.length=true then
 if inR i b_1.Items.length=true then
 g1q ((⟨b⟩:SSchema),(b_8.getD i.toNat dSMember).Type_,SValue.eta (b_1.Items.getD i.toNat dSValue),plain_1) >>=fun r_15=>
 if(!r_15)=true then
 some (.inl false)
 else
 g1c (plain_1,addI .i64 i 1,b,SValue.eta b_1,b_2,b_3,b_4,b_5,b_6,b_7,b_8,b_9,b_10,b_11)
 else none
 else none
 else
 some (.inr ())
  partial_fixpoint
end
theorem g11f :KC e140:= .m (by kernel_rfl)
theorem gll :KC e107:= .m (by kernel_rfl)
theorem gk4 :(∀h r,g48 h=some r→FD e140 h r)∧(∀h r,g1w h=some r→LD 140 0 [0] gl8 h r)∧(∀h r,g1q h=some r→FD e107 h r)∧(∀h r,g1c h=some r→LD 107 0 [0] gl9 h r):=g48.mutual_partial_correctness (FD e140) (LD 140 0 [0] gl8) (FD e107) (LD 107 0 [0] gl9)
 (fun _ h1 _ _ h=>FA e140 g11f .n (.k (LH gl8 h1) .n) (.trans (by kernel_rfl) h))
 (fun _ _ h1 h2 _ _ h=>LA gl8 h1 (.k (FH e107 gll h2) .n) .n (.trans (by kernel_rfl) h))
 (fun _ _ _ h0 h2 h3 _ _ h=>FA e107 gll (.k glj (.k gby (.k gfm (.k glk (.k g4z (.k (FH e107 gll h2) (.k (FH e140 g11f h0) .n))))))) (.k (LH gl9 h3) (.k gj5 .n)) (.trans (by kernel_rfl) h))
 (fun _ _ h2 h3 _ _ h=>LA gl9 h3 (.k (FH e107 gll h2) .n) .n (.trans (by kernel_rfl) h))
theorem gmh :FC e107 g1q:= .of gll gk4.2.2.1
def g9a(x_:SSchema × Int × SValue) :Option (Bool):=
 match x_ with
 | (s,t,v)=>
 g1q (s,t,SValue.eta v,false) >>=fun r=>
 some r
theorem g17b :KC e102:= .m (by kernel_rfl)
theorem glm :FC e102 g9a:= .fn g17b (.k gmh .n) .n fun _=>by kernel_rfl
def g54(x_:SSchema × Int × SValue) :Option (Int):=
 match x_ with
 | (s,t,v)=>
 g53 s >>=fun r=>
 if(!(decide (r=0)))=true then
 some r
 else
 if(bif decide (t < 0)then true else decide ((s.Types.length:Int)≤t))=true then
 some 4
 else
 g9a (s,t,SValue.eta v) >>=fun r_1=>
 if(!r_1)=true then
 some 1
 else
 some 0
theorem e59_k :KC e59:= .m (by kernel_rfl)
theorem gk5 :FC e59 g54:= .fn e59_k (.k gk2 (.k glm .n)) .n fun _=>by kernel_rfl
end
section
open Go Go.Proofs.YthnmepafpikaiaaGreat.Shv
open Tryz
set_option maxRecDepth 100000
mutual
def g2c(x_:SSchema × Int × SValue) :Option (Int):=
 match x_ with
 | (s,t,v)=>
 if inR t s.Types.length=true then
 gu (0,0,s.Types,SValue.eta v,s.Types.getD t.toNat dSType) >>=fun o=>
 if decide (0 < (o.2.Keys.length:Int))=true then
 some (addI .i64 1 (maxI o.1 1))
 else
 some (addI .i64 1 o.1)
 else none
  partial_fixpoint
def gu(x_:Int × Int × List SType × SValue × SType) :Option (Int × SValue):=
 match x_ with
 | (below_1,i,b_1,b_2,b_3)=>
 if decide (i < (b_2.Items.length:Int))=true then
 if decide (b_3.Kind=5)=true then
 if inR i b_3.Members.length=true then
 some (b_3.Members.getD i.toNat dSMember) >>=fun x0_1=>
 if(inR i b_2.Items.length || (!x0_1.HasDefault))=true then
 (if x0_1.HasDefault=true then g1e (SValue.eta (b_2.Items.getD i.toNat dSValue),SValue.eta x0_1.Default)else some false) >>=fun r=>
 if(bif x0_1.HasDefault then r else false)=true then
 gu (below_1,addI .i64 i 1,b_1,SValue.eta b_2,b_3)
 else
 if decide (b_3.Kind=6)=true then
 g1a (b_3,b_2.ID) >>=fun r_1=>
 if inR r_1.1 b_3.Members.length=true then
 if inR i b_2.Items.length=true then
 g2c ((⟨b_1⟩:SSchema),(b_3.Members.getD r_1.1.toNat dSMember).Type_,SValue.eta (b_2.Items.getD i.toNat dSValue)) >>=fun r_4=>
 gu (maxI below_1 r_4,addI .i64 i 1,b_1,SValue.eta b_2,b_3)
 else none
 else none
 else
 if inR i b_2.Items.length=true then
 g2c ((⟨b_1⟩:SSchema),x0_1.Type_,SValue.eta (b_2.Items.getD i.toNat dSValue)) >>=fun r_5=>
 gu (maxI below_1 r_5,addI .i64 i 1,b_1,SValue.eta b_2,b_3)
 else none
 else none
 else none
 else
 if decide (b_3.Kind=6)=true then
 g1a (b_3,b_2.ID) >>=fun r_6=>
 if inR r_6.1 b_3.Members.length=true then
 if inR i b_2.Items.length=true then
 g2c ((⟨b_1⟩:SSchema),(b_3.Members.getD r_6.1.toNat dSMember).Type_,SValue.eta (b_2.Items.getD i.toNat dSValue)) >>=fun r_9=>
 gu (maxI below_1 r_9,addI .i64 i 1,b_1,SValue.eta b_2,b_3)
 else none
 else none
 else
 if inR i b_2.Items.length=true then
 g2c ((⟨b_1⟩:SSchema),b_3.Elem,SValue.eta (b_2.Items.getD i.toNat dSValue)) >>=fun r_10=>
 gu (maxI below_1 r_10,addI .i64 i 1,b_1,SValue.eta b_2,b_3)
 else none
 else
 some (below_1,SValue.eta b_2)
  partial_fixpoint
end
theorem e61_k :KC e61:= .m (by kernel_rfl)
theorem gh3 :(∀h r,g2c h=some r→FD e61 h r)∧(∀h r,gu h=some r→LD 61 0 [0] e61_0 h r):=g2c.mutual_partial_correctness (FD e61) (LD 61 0 [0] e61_0)
 (fun _ h1 _ _ h=>FA e61 e61_k .n (.k (LH e61_0 h1) .n) (.trans (by kernel_rfl) h))
 (fun _ _ h0 h1 _ _ h=>LA e61_0 h1 (.k g6a (.k g4z (.k (FH e61 e61_k h0) .n))) .n (.trans (by kernel_rfl) h))
theorem gj6 :FC e61 g2c:= .of e61_k gh3.1
def g6s(x_:SSchema × Int × SValue) :Option (List UInt8 × Int):=
 match x_ with
 | (s,t,v)=>
 g54 (s,t,SValue.eta v) >>=fun r=>
 if(!(decide (r=0)))=true then
 some ([],r)
 else
 g1b (s,t,SValue.eta v) >>=fun r_1=>
 some (decide (4096 < (r_1.length:Int))) >>=fun t23=>
 (if(!t23)=true then g2c (s,t,SValue.eta v)else some 0) >>=fun r_2=>
 if(bif t23 then true else decide (200 < r_2))=true then
 some ([],3)
 else
 some (r_1,0)
theorem e28_k :KC e28:= .m (by kernel_rfl)
theorem gj7 :FC e28 g6s:= .fn e28_k (.k gk5 (.k gi5 (.k gj6 .n))) .n fun _=>by kernel_rfl
def gau(x_:SSchema × Int × SValue) :Option (Int × Int):=
 match x_ with
 | (s,t,v)=>
 g4e (s,t,SValue.eta v) >>=fun r=>
 if(!(decide (r=0)))=true then
 some (0,r)
 else
 g1d (t,SValue.eta v,1,s.Types,0) >>=fun r_1=>
 some ((r_1.1.length:Int),0)
theorem e29_k :KC e29:= .m (by kernel_rfl)
theorem gsm :FC e29 gau:= .fn e29_k (.k gfc (.k g7u .n)) .n fun _=>by kernel_rfl
def g1u(x_:Int × Int × Int × List SType × List SValue) :Option ((Bool) ⊕ (Unit)):=
 match x_ with
 | (t,t34,t35,b,b_1)=>
 if decide (t35 < t34)=true then
 if inR t35 b_1.length=true then
 if decide (t35.toNat < b_1.length)=true then
 g9i ((⟨b⟩:SSchema),t,SValue.eta (b_1.getD t35.toNat dSValue)) >>=fun r_8=>
 g6s ((⟨b⟩:SSchema),t,SValue.eta (b_1.getD t35.toNat dSValue)) >>=fun r_11=>
 gau ((⟨b⟩:SSchema),t,SValue.eta (b_1.getD t35.toNat dSValue)) >>=fun r_14=>
 some (bif bif (!(decide (r_8.1=r_11.1)))then true else(!(decide (r_8.2=r_11.2)))then true else(!(decide (r_14.2=0)))) >>=fun t71=>
 some (decide (r_8.2=0)) >>=fun t74=>
 some (!(decide (r_14.1=(r_8.1.length:Int)))) >>=fun t79=>
 (if((!t71) && t74 && (!t79))=true then g7p ((⟨b⟩:SSchema),t,r_8.1)else some false) >>=fun r_17=>
 if(bif t71 then true else bif t74 then bif t79 then true else(!r_17)else false)=true then
 some (.inl false)
 else
 g1u (t,t34,addI .i64 t35 1,b,b_1)
 else none
 else none
 else
 some (.inr ())
  partial_fixpoint
theorem gc1 :LC 6 0 [0] e6_0 g1u:= .rc g1u.partial_correctness (.k gpf (.k gj7 (.k gsm (.k glf .n)))) .n fun _ _=>by kernel_rfl
def g5x(d:Sheaveref08Draft) :Option (Bool):=
 g8x d >>=fun r=>
 g8i () >>=fun r_6=>
 if(bif (!r_6)then true else(!r.2.2.2.2))=true then
 g8i () >>=fun r_7=>
 some r_7
 else
 g1u (r.2.1,2,0,r.1.Types,[SValue.eta r.2.2.1,SValue.eta r.2.2.2.1]) >>=fun o=>
 match o with
 | .inl o_1=>
 some o_1
 | .inr o_2=>
 some true
theorem e6_k :KC e6:= .m (by kernel_rfl)
theorem grg :FC e6 g5x:= .fn e6_k (.k gnw (.k gjt .n)) (.k gc1 .n) fun _=>by kernel_rfl
end
section
open Go Go.Proofs.YthnmepafpikaiaaGreat.Shv
open Tryz
set_option maxRecDepth 100000
def gfn(x_:SSchema × Int × SValue) :Option (Int × Int):=
 match x_ with
 | (s,t,v)=>
 g54 (s,t,SValue.eta v) >>=fun r=>
 if(!(decide (r=0)))=true then
 some (0,r)
 else
 g1b (s,t,SValue.eta v) >>=fun r_1=>
 some ((r_1.length:Int),0)
end
section
open Go Go.Proofs.YthnmepafpikaiaaGreat.Shv
open Tryz
set_option maxRecDepth 100000
set_option linter.all false
end
section
open Go Go.Proofs.YthnmepafpikaiaaGreat.Shv
set_option maxRecDepth 100000
def vg(s:List UInt8) :Nat→Nat→Nat→Int × Int × Int
 | 0,_,_=>(0,0,10)
 | f+1,i,n=>
   if i < s.length then
     if i=9∧1 < (s.getD i 0).toNat then(0,0,7)
     else if 128≤(s.getD i 0).toNat then vg s f (i+1) (n+((s.getD i 0).toNat % 128)*2 ^ (7*i))
     else if(s.getD i 0).toNat=0∧0 < i then(0,0,2)
     else(((n+(s.getD i 0).toNat*2 ^ (7*i):Nat):Int),((i+1:Nat):Int),0)
   else(0,0,10)
theorem pow7{i:Nat}(h:i≤9) :2 ^ (7*i)≤9223372036854775808:=by
 have:2 ^ (7*i)≤2 ^ 63:=Nat.pow_le_pow_right (by omega) (by omega);have e:(2:Nat) ^ 63=9223372036854775808:=by decide
 omega
theorem pow7s(i:Nat) :2 ^ (7*(i+1))=2 ^ (7*i)*128:=by rw[Nat.mul_add,Nat.pow_add]
theorem step7{n i b:Nat}(hn:n < 2 ^ (7*i)) :n+(b % 128)*2 ^ (7*i) < 2 ^ (7*(i+1)):=by
 rw[pow7s];have:b % 128*2 ^ (7*i)≤127*2 ^ (7*i):=Nat.mul_le_mul_right _ (by omega);omega
theorem fit7{n i b:Nat}(hi:i≤9)(hn:n < 2 ^ (7*i))(hb:b < 128)(h9:i=9→b≤1) :b*2 ^ (7*i) < 18446744073709551616∧n+b*2 ^ (7*i) < 18446744073709551616:=by
 rcases Nat.lt_or_ge i 9 with h | h
 · have:2 ^ (7*i)≤2 ^ 56:=Nat.pow_le_pow_right (by omega) (by omega);have e:(2:Nat) ^ 56=72057594037927936:=by decide
   have:b*2 ^ (7*i)≤127*2 ^ (7*i):=Nat.mul_le_mul_right _ (by omega);omega
 · have:i=9:=by omega
   subst this;have e:(2:Nat) ^ (7*9)=9223372036854775808:=by decide
   rw[e]at hn ⊢;have:=h9 rfl;omega
theorem g11g(s:List UInt8) :∀(f i n:Nat),i+f=10→n < 2 ^ (7*i)→∃o,g68 (s,(n:Int),((min 10 s.length:Nat):Int),(i:Int))=some o∧(match o with | .inl x=>x | .inr _=>(0,0,10))=vg s f i n
 | 0,i,n,h,hn=>by
   refine⟨.inr (),?_,rfl⟩;rw[g68];rw[if_neg (by simp;omega)]
 | f+1,i,n,h,hn=>by
   rw[g68];simp only[vg,oZ4,oZ3,g6k];by_cases hi:i < s.length
   · have hb:=gd3 s i;generalize (s.getD i 0).toNat=b at hb ⊢;rw[if_pos (by simp;omega),if_pos (g6 hi),if_pos hi];have hm:mulI .i64 7 (i:Int)=((7*i:Nat):Int):=by rw[g10l (by omega) (by omega)];norm_cast
     rw[hm];have hz:decide ((0:Int)≤((7*i:Nat):Int))=true:=by simp;omega
     by_cases h9:i=9∧1 < b
     · rw[if_pos h9,if_pos (by obtain⟨h1,h2⟩:=h9;subst h1;simp;omega)];exact⟨_,rfl,rfl⟩
     · rw[if_neg h9,if_neg (by
         intro hc;apply h9;simp only[Bool.cond_eq_ite,Bool.ite_eq_true_distrib,decide_eq_true_eq]at hc;split at hc
         · rename_i h1;exact⟨by omega,by omega⟩
         · cases hc)]
       by_cases hbig:128≤b
       · rw[if_pos hbig,if_pos (by simp;omega),if_pos hz];have h9':i=9→False:=fun h1=>h9 ⟨h1,by omega⟩
         have hlt:b % 128 < 128:=Nat.mod_lt _ (by omega);have hf:=fit7 (i:=i) (n:=n) (b:=b % 128) (by omega) hn hlt (fun h1=>(h9' h1).elim);rw[g139 hb,wrpn (by omega),gtt (by omega) hf.1,gwn (by have:=pow7 (i:=i) (by omega);omega) hf.1,g10k hn,ge (by omega)];exact g11g s f (i+1) (n+b % 128*2 ^ (7*i)) (by omega) (step7 hn)
       · rw[if_neg hbig,if_neg (by simp;omega)];by_cases h0:b=0∧0 < i
         · rw[if_pos h0,if_pos (by obtain⟨h1,h2⟩:=h0;subst h1;simp;omega)];exact⟨_,rfl,rfl⟩
         · rw[if_neg h0,if_neg (by
             intro hc;apply h0;simp only[Bool.cond_eq_ite,Bool.ite_eq_true_distrib,decide_eq_true_eq]at hc;split at hc
             · rename_i h1;exact⟨by omega,by omega⟩
             · cases hc),if_pos hz]
           have hf:=fit7 (i:=i) (n:=n) (b:=b) (by omega) hn (by omega) (fun h1=>by omega);rw[wrpn (by omega),gtt (by omega) hf.1,gwn (by have:=pow7 (i:=i) (by omega);omega) hf.1,g10k hn,ge (by omega)];exact⟨_,rfl,rfl⟩
   · rw[if_neg (by simp;omega),if_neg hi];exact⟨_,rfl,rfl⟩
theorem g11h(s:List UInt8) :gdy s=some (vg s 10 0 0):=by
 obtain⟨o,h1,h2⟩:=g11g s 10 0 0 rfl (by decide);rw[gdy];have:minI 10 (s.length:Int)=((min 10 s.length:Nat):Int):=gnn 10 s.length;rw[this];have h1':g68 (s,0,((min 10 s.length:Nat):Int),0)=some o:=h1;rw[h1',←h2];cases o <;> rfl
theorem grh(s:List UInt8) :∀(f i n:Nat),i≤s.length→i+f=10→n < 2 ^ (7*i)→∃o,g5s (s,(n:Int),(if i < 10 then((2 ^ (7*i):Nat):Int)else mulI .u64 ((2 ^ (7*9):Nat):Int) 128),(i:Int))=some o∧(i < 10→(match o with | .inl x=>x | .inr _=>(0,0,7))=vg s f i n)
 | 0,i,n,hil,h,hn=>by
   refine⟨.inr (),?_,fun h'=>by omega⟩;rw[g5s];rw[if_neg (by simp;omega)]
 | f+1,i,n,hil,h,hn=>by
   rw[g5s];simp only[vg,oZ4,oZ3,g6k];rw[if_pos (show decide ((i:Int) < 10)=true by simp;omega),if_pos (show i < 10 by omega)];by_cases hi:i < s.length
   · have hb:=gd3 s i;generalize (s.getD i 0).toNat=b at hb ⊢;rw[if_neg (by simp;omega),if_pos (g6 hi),if_pos hi,wrpn (by omega)];by_cases h9:i=9∧1 < b
     · rw[if_pos h9,if_pos (by obtain⟨h1,h2⟩:=h9;subst h1;simp;omega)];exact⟨_,rfl,fun _=>rfl⟩
     · rw[if_neg h9,if_neg (by
         intro hc;apply h9;simp only[Bool.cond_eq_ite,Bool.ite_eq_true_distrib,decide_eq_true_eq]at hc;split at hc
         · rename_i h1;exact⟨by omega,by omega⟩
         · cases hc)]
       have hrem:remI (b:Int) 128=((b % 128:Nat):Int):=remIn (b:=128);have hlt:b % 128 < 128:=Nat.mod_lt _ (by omega);by_cases hbig:128≤b
       · rw[if_pos hbig,if_neg (by simp;omega)];have h9':i=9→False:=fun h1=>h9 ⟨h1,by omega⟩
         have hf:=fit7 (i:=i) (n:=n) (b:=b % 128) (by omega) hn hlt (fun h1=>(h9' h1).elim);rw[hrem,mulIn hf.1,addIn hf.2,ge (by omega)];obtain⟨o,h1,h2⟩:=grh s f (i+1) (n+b % 128*2 ^ (7*i)) (by omega) (by omega) (step7 hn);have hu:mulI .u64 ((2 ^ (7*i):Nat):Int) 128=((2 ^ (7*(i+1)):Nat):Int):=by
           have:=mulIn (a:=2 ^ (7*i)) (b:=128) (by
             have:2 ^ (7*i)≤2 ^ 56:=Nat.pow_le_pow_right (by omega) (by omega);have e:(2:Nat) ^ 56=72057594037927936:=by decide
             omega)
           rw[pow7s];exact this
         rw[if_pos (show i+1 < 10 by omega)]at h1;rw[hu];exact⟨o,h1,fun _=>h2 (by omega)⟩
       · rw[if_neg hbig,if_pos (by simp;omega)];have hmod:b % 128=b:=Nat.mod_eq_of_lt (by omega);have hf:=fit7 (i:=i) (n:=n) (b:=b) (by omega) hn (by omega) (fun h1=>by omega);by_cases h0:b=0∧0 < i
         · rw[if_pos h0,if_pos (by obtain⟨h1,h2⟩:=h0;subst h1;simp;omega)];exact⟨_,rfl,fun _=>rfl⟩
         · rw[if_neg h0,if_neg (by
             intro hc;apply h0;simp only[Bool.cond_eq_ite,Bool.ite_eq_true_distrib,decide_eq_true_eq]at hc;split at hc
             · rename_i h1;exact⟨by omega,by omega⟩
             · cases hc)]
           rw[hrem,hmod,mulIn hf.1,addIn hf.2,ge (by omega)];exact⟨_,rfl,fun _=>rfl⟩
   · rw[if_pos (by simp;omega),if_neg hi];exact⟨_,rfl,fun _=>rfl⟩
theorem gln(s:List UInt8) :g87 s=some (vg s 10 0 0):=by
 obtain⟨o,h1,h2⟩:=grh s 10 0 0 (by omega) rfl (by decide);rw[g87];have h1':g5s (s,0,1,0)=some o:=h1;rw[h1',←h2 (by decide)];cases o <;> rfl
end
section
open Go Go.Proofs.YthnmepafpikaiaaGreat.Shv
set_option maxRecDepth 100000
theorem gub(s:List UInt8) :∀(f i n:Nat),i≤s.length→i+f=10→n < 2 ^ (7*i)→(∃e:Int,e≠0∧vg s f i n=(0,0,e))∨∃m k:Nat,vg s f i n=((m:Int),(k:Int),0)∧i < k∧k≤s.length∧m < 18446744073709551616
 | 0,i,n,hil,h,hn=>.inl ⟨10,by decide,rfl⟩
 | f+1,i,n,hil,h,hn=>by
   simp only[vg];have hb:=gd3 s i;generalize (s.getD i 0).toNat=b at hb ⊢;by_cases hi:i < s.length
   · rw[if_pos hi];by_cases h9:i=9∧1 < b
     · rw[if_pos h9];exact .inl ⟨7,by decide,rfl⟩
     · rw[if_neg h9];by_cases hbig:128≤b
       · rw[if_pos hbig];rcases gub s f (i+1) (n+b % 128*2 ^ (7*i)) (by omega) (by omega) (step7 hn)with h | ⟨m,k,h1,h2,h3,h4⟩
         · exact .inl h
         · exact .inr ⟨m,k,h1,by omega,h3,h4⟩
       · rw[if_neg hbig];by_cases h0:b=0∧0 < i
         · rw[if_pos h0];exact .inl ⟨2,by decide,rfl⟩
         · rw[if_neg h0];have hf:=fit7 (i:=i) (n:=n) (b:=b) (by omega) hn (by omega) (fun h1=>by omega);exact .inr ⟨_,i+1,rfl,by omega,by omega,hf.2⟩
   · rw[if_neg hi];exact .inl ⟨10,by decide,rfl⟩
theorem vg0(s:List UInt8) :(∃e:Int,e≠0∧vg s 10 0 0=(0,0,e))∨∃m k:Nat,vg s 10 0 0=((m:Int),(k:Int),0)∧0 < k∧k≤s.length∧m < 18446744073709551616:=
 gub s 10 0 0 (by omega) rfl (by decide)
theorem gfo{s:List UInt8}{e:Int}(he:e≠0)(h:vg s 10 0 0=(0,0,e)) :g7d s=some (0,[],false):=by
 rw[g7d,g11h,h];simp only[oZ4,oZ3];rw[if_pos (by simp[he])]
theorem gcl{s:List UInt8}{m k:Nat}(h:vg s 10 0 0=((m:Int),(k:Int),0))(hk:k≤s.length) :g7d s=some ((m:Int),s.drop k,true):=by
 rw[g7d,g11h,h];simp only[oZ4,oZ3];rw[if_neg (by simp),if_pos (g57 hk (Nat.le_refl _)),g6w]
def encP :Option (List UInt8 × List UInt8)→List UInt8 × List UInt8 × Bool
 | none=>([],[],false)
 | some (a,b)=>(a,b,true)
def vpart(s:List UInt8) :Option (List UInt8 × List UInt8):=
 match vg s 10 0 0 with
 | (m,k,e)=>if e=0∧m.toNat+k.toNat≤s.length then some ((s.drop k.toNat).take m.toNat,(s.drop k.toNat).drop m.toNat)else none
theorem ggh{s a b:List UInt8}(h:vpart s=some (a,b)) :a.length+b.length < s.length:=by
 unfold vpart at h;rcases vg0 s with⟨e,he,hv⟩ | ⟨m,k,hv,hk0,hk,hm⟩
 · rw[hv]at h;simp[he]at h
 · rw[hv]at h;simp only[Int.toNat_natCast,true_and]at h;split at h
   · cases h;simp;omega
   · cases h
theorem gef{s:List UInt8}(hs:s.length≤1000000) :gat s=some (encP (vpart s)):=by
 rw[gat];unfold vpart;rcases vg0 s with⟨e,he,hv⟩ | ⟨m,k,hv,hk0,hk,hm⟩
 · rw[gfo he hv,hv];simp[he,encP]
 · rw[gcl hv hk,hv];simp only[oZ4,oZ3,Int.toNat_natCast,true_and,List.length_drop];rw[wrpn (by omega)];by_cases hle:m+k≤s.length
   · rw[if_neg (by simp;omega),if_pos (show slR 0 (m:Int) (s.length - k)=true from g57 (a:=0) (by omega) (by omega)),if_pos (g57 (by omega) (Nat.le_refl _)),if_pos hle];have:((s.length - k:Nat):Int)=((s.drop k).length:Int):=by simp
     rw[this,g6w,g94];rfl
   · rw[if_pos (by simp;omega),if_neg hle];rfl
theorem g11i{s:List UInt8}(hs:s.length≤1000000) :g9r s=some (encP (vpart s)):=by
 rw[g9r,gln];unfold vpart;rcases vg0 s with⟨e,he,hv⟩ | ⟨m,k,hv,hk0,hk,hm⟩
 · rw[hv];simp[he,encP]
 · rw[hv];simp only[oZ4,oZ3,Int.toNat_natCast,true_and];have hsub:subI .i64 (s.length:Int) (k:Int)=((s.length - k:Nat):Int):=by rw[g5c (by omega) (by omega)];omega
   rw[hsub,wrpn (by omega)];by_cases hle:m+k≤s.length
   · rw[if_neg (by simp;omega),if_pos hle];have hw:wrp .i64 (m:Int)=(m:Int):=wrp64 (by omega) (by omega);rw[hw,ghr (by omega),if_pos (g57 (by omega) (by omega)),if_pos (g57 (by omega) (Nat.le_refl _)),g6w];have:cutL s (k:Int) ((k+m:Nat):Int)=(s.drop k).take m:=by
       unfold cutL;rw[Int.toNat_natCast,Int.toNat_natCast,List.drop_take]
       congr 1;omega
     rw[this,List.drop_drop];rfl
   · rw[if_pos (by simp;omega),if_neg hle];rfl
theorem gnx :∀(n:Nat) (s:List UInt8) (b:List (List UInt8)),s.length≤n→s.length+b.length≤100000→∃o,g2i (s,b)=some o∧g62 (s,b)=some o∧∀l,o= .inr l→l.length≤s.length+b.length:=by
 intro n
 induction n with
 | zero=>
   intro s b h1 h2;have:s=[]:=List.eq_nil_of_length_eq_zero (by omega);subst this;refine⟨.inr b,?_,?_,fun l hl=>by cases hl;omega⟩
   · rw[g2i];rw[if_neg (by simp)]
   · rw[g62];rw[if_neg (by simp)]
 | succ n ih=>
   intro s b h1 h2;rw[g2i,g62,gef (by omega),g11i (by omega)];simp only[oZ4,oZ3];by_cases hs:s=[]
   · subst hs;exact⟨.inr b,by rw[if_neg (by simp)],by rw[if_neg (by simp)],fun l hl=>by cases hl;omega⟩
   · have hc:(!(decide (s=[])))=true:=by simp[hs]
     rw[if_pos hc,if_pos hc];cases hv:vpart s with
     | none=>exact⟨.inl 12,rfl,rfl,fun l hl=>by cases hl⟩
     | some p=>
       obtain⟨x,y⟩:=p;have hl:=ggh hv;have hr:room 16 (b++[(encP (some (x,y))).1]).length=true:=g44 (by omega) (by simp;omega);have hn:¬((!(encP (some (x,y))).2.2)=true):=by simp[encP]
       rw[if_neg hn,if_pos hr,if_neg hn,if_pos hr];obtain⟨o,h3,h4,h5⟩:=ih y (b++[x]) (by omega) (by simp;omega);exact⟨o,h3,h4,fun l hl'=>by have:=h5 l hl';simp at this;omega⟩
theorem g13e{s:List UInt8}(h:s.length≤90000) :∃o,g5e s=some o∧g70 s=some o∧o.1.length≤s.length:=by
 obtain⟨o,h1,h2,h3⟩:=gnx s.length s [] (Nat.le_refl _) (by simp;omega);rw[g5e,g70,h1,h2];cases o with
 | inl e=>exact⟨_,rfl,rfl,by simp⟩
 | inr l=>exact⟨_,rfl,rfl,by have:=h3 l rfl;simpa using this⟩
theorem gri :∀(n:Nat) (s:List UInt8) (last:Nat) (b:List SField),s.length≤n→s.length+b.length≤100000→∃o,g1o ((last:Int),s,b)=some o∧g4m (s,(last:Int),b)=some o∧∀l,o= .inr l→l.length≤s.length+b.length:=by
 intro n
 induction n with
 | zero=>
   intro s last b h1 h2;have:s=[]:=List.eq_nil_of_length_eq_zero (by omega);subst this;refine⟨.inr b,?_,?_,fun l hl=>by cases hl;omega⟩
   · rw[g1o];rw[if_neg (by simp)]
   · rw[g4m];rw[if_neg (by simp)]
 | succ n ih=>
   intro s last b h1 h2;rw[g1o,g4m,gln];by_cases hs:s=[]
   · subst hs;exact⟨.inr b,by rw[if_neg (by simp)],by rw[if_neg (by simp)],fun l hl=>by cases hl;omega⟩
   · have hc:(!(decide (s=[])))=true:=by simp[hs]
     rw[if_pos hc,if_pos hc];rcases vg0 s with⟨e,he,hv⟩ | ⟨m,k,hv,hk0,hk,hm⟩
     · rw[gfo he hv,hv];exact⟨.inl 12,rfl,by simp[he],fun l hl=>by cases hl⟩
     · rw[gcl hv hk,hv];simp only[oZ4,oZ3];rw[quoI2 hm];by_cases hbad:m / 2≤last∨1000 < m / 2
       · refine⟨.inl 12,by rw[if_pos (by simp;omega)],?_,fun l hl=>by cases hl⟩;rw[if_pos];by_cases h2001:2001 < m
         · simp;omega
         · have hw:wrp .i64 ((m / 2:Nat):Int)=((m / 2:Nat):Int):=wrp64 (by omega) (by omega);rw[hw];simp;omega
       · have hw:wrp .i64 ((m / 2:Nat):Int)=((m / 2:Nat):Int):=wrp64 (by omega) (by omega);rw[hw,if_neg (by simp;omega),if_neg (by simp;omega),if_pos (g57 hk (Nat.le_refl _)),g6w,gef (by simp;omega),g11i (by simp;omega)];simp only[oZ3];cases hp:vpart (s.drop k)with
         | none=>exact⟨.inl 12,rfl,rfl,fun l hl=>by cases hl⟩
         | some p=>
           obtain⟨x,y⟩:=p;have hl:=ggh hp;rw[List.length_drop]at hl;have hr:room 32 (b++[(⟨((m / 2:Nat):Int),decide (remI (m:Int) 2=1),(encP (some (x,y))).1⟩:SField)]).length=true:=g44 (by omega) (by simp;omega);have hn:¬((!(encP (some (x,y))).2.2)=true):=by simp[encP]
           rw[if_neg hn,if_pos hr,if_neg hn,if_pos hr];obtain⟨o,h3,h4,h5⟩:=ih y (m / 2) (b++[(⟨((m / 2:Nat):Int),decide (remI (m:Int) 2=1),x⟩:SField)]) (by omega) (by simp;omega);exact⟨o,h3,h4,fun l hl'=>by have:=h5 l hl';simp at this;omega⟩
theorem g11j{s:List UInt8}(h:s.length≤90000) :∃o,g69 s=some o∧g88 s=some o∧o.1.length≤s.length:=by
 obtain⟨o,h1,h2,h3⟩:=gri s.length s 0 [] (Nat.le_refl _) (by simp;omega);have h1':g1o (0,s,[])=some o:=h1;have h2':g4m (s,0,[])=some o:=h2;rw[g69,g88,h1',h2'];cases o with
 | inl e=>exact⟨_,rfl,rfl,by simp⟩
 | inr l=>exact⟨_,rfl,rfl,by have:=h3 l rfl;simpa using this⟩
theorem g17c(s:List UInt8) :∃o,g78 s=some o∧g9s s=some o:=by
 rw[g78,g9s,gln];rcases vg0 s with⟨e,he,hv⟩ | ⟨m,k,hv,hk0,hk,hm⟩
 · rw[gfo he hv,hv];exact⟨(0,[],12),rfl,by simp[he]⟩
 · rw[gcl hv hk,hv];simp only[oZ4,oZ3];by_cases hbad:m < 1∨1000 < m
   · exact⟨(0,[],12),by rw[if_pos (by simp;omega)],by rw[if_pos (by simp;omega)]⟩
   · rw[if_neg (by simp;omega),if_neg (by simp;omega),if_pos (g57 hk (Nat.le_refl _)),g6w];exact⟨_,rfl,rfl⟩
end
end Go.Proofs.YthnmepafpikaiaaGreat
