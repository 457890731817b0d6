/- The functions of the program as functions of Lean, that its code does what they say, and what they answer; part A. -/
import Derived.Test.YthnmepafpikaiaaGreatProg
import Derived.KernelRfl
import Derived.Shelf.SlGeneric
import Derived.Shelf.SlLaysF0
import Derived.Shelf.SlSortCmp.WholeK
import Derived.Lib.Small
import Derived.Test.YthnmepafpikaiaaGreatEdLD

namespace Go.Proofs.YthnmepafpikaiaaGreat
set_option linter.all false
section
open Go Go.Proofs.YthnmepafpikaiaaGreat.Shv
open Tryz
set_option maxRecDepth 100000
structure SRaw where
 ID:Int
 Data:List UInt8
structure SValue where
 Kind:Int
 Bool_:Bool
 Int_:Int
 Str:List UInt8
 ID:Int
 Keys:List SValue
 Items:List SValue
 Rest:List SRaw
structure SMember where
 ID:Int
 Name:List UInt8
 Type_:Int
 Critical:Bool
 HasDefault:Bool
 Default:SValue
structure SSymbol where
 ID:Int
 Name:List UInt8
structure SType where
 Kind:Int
 Name:List UInt8
 Low:Int
 High:Int
 Max:Int
 Symbols:List SSymbol
 Members:List SMember
 Key:Int
 Elem:Int
 Open:Bool
structure SSchema where
 Types:List SType
structure EncodeEntry where
 id:Int
 text:List UInt8
structure EncodeReader where
 s:SSchema
structure SField where
 ID:Int
 Critical:Bool
 Data:List UInt8
structure Sheaveref07Part where
 ID:Int
 Type_:Int
 Flag:Int
structure Sheaveref07Node where
 Kind:Int
 A:Int
 B:Int
 C:Int
 Parts:List Sheaveref07Part
structure Sheaveref07Draft where
 Nodes:List Sheaveref07Node
structure Sheaveref08Draft where
 S:Sheaveref07Draft
 T:Int
 C:List Int
structure Sheavelaw09Two where
 D:Sheaveref08Draft
 C:List Int
abbrev ixSheaveref07Node :Nat:=10
abbrev ixSheaveref07Part :Nat:=11
abbrev ixSheaveref08Draft :Nat:=13
def dSRaw :SRaw:=⟨0,[]⟩
def dSValue :SValue:=⟨0,false,0,[],0,[],[],[]⟩
def dSMember :SMember:=⟨0,[],0,false,false,dSValue⟩
def dSSymbol :SSymbol:=⟨0,[]⟩
def dSType :SType:=⟨0,[],0,0,0,[],[],0,0,false⟩
def dSSchema :SSchema:=⟨[]⟩
def dEncodeEntry :EncodeEntry:=⟨0,[]⟩
def dEncodeReader :EncodeReader:=⟨dSSchema⟩
def dSField :SField:=⟨0,false,[]⟩
def dSheaveref07Part :Sheaveref07Part:=⟨0,0,0⟩
def dSheaveref07Node :Sheaveref07Node:=⟨0,0,0,0,[]⟩
def dSheaveref07Draft :Sheaveref07Draft:=⟨[]⟩
def dSheaveref08Draft :Sheaveref08Draft:=⟨dSheaveref07Draft,0,[]⟩
def dSheavelaw09Two :Sheavelaw09Two:=⟨dSheaveref08Draft,[]⟩
def uD :Nat→Type
 | 0=>SMember
 | 1=>SValue
 | 2=>SRaw
 | 3=>SType
 | 4=>SSymbol
 | 5=>SSchema
 | 6=>EncodeEntry
 | 7=>EncodeReader
 | 8=>SField
 | 9=>Sheaveref07Draft
 | 10=>Sheaveref07Node
 | 11=>Sheaveref07Part
 | 12=>Sheavelaw09Two
 | 13=>Sheaveref08Draft
 | _=>Bool
def uTys :Nat→List Ty
 | 0=>[.int .i64,.str,.int .i64,.bool,.bool,.int .i64,.bool,.int .i64,.str,.int .i64,.slice (.nm 1),.slice (.nm 1),.slice (.nm 2)]
 | 1=>[.int .i64,.bool,.int .i64,.str,.int .i64,.slice (.nm 1),.slice (.nm 1),.slice (.nm 2)]
 | 2=>[.int .i64,.str]
 | 3=>[.int .i64,.str,.int .i64,.int .i64,.int .i64,.slice (.nm 4),.slice (.nm 0),.int .i64,.int .i64,.bool]
 | 4=>[.int .i64,.str]
 | 5=>[.slice (.nm 3)]
 | 6=>[.int .i64,.str]
 | 7=>[.slice (.nm 3)]
 | 8=>[.int .i64,.bool,.str]
 | 9=>[.slice (.nm 10)]
 | 10=>[.int .u8,.int .u8,.int .u8,.int .u8,.slice (.nm 11)]
 | 11=>[.int .u8,.int .u8,.int .u8]
 | 12=>[.slice (.nm 10),.int .u8,.slice (.int .u8),.slice (.int .u8)]
 | 13=>[.slice (.nm 10),.int .u8,.slice (.int .u8)]
 | _=>[.bool]
def uFlds :(n:Nat)→uD n→List (Cell uD)
 | 0,(x:SMember)=>[⟨.int .i64,x.ID⟩,⟨.str,x.Name⟩,⟨.int .i64,x.Type_⟩,⟨.bool,x.Critical⟩,⟨.bool,x.HasDefault⟩,⟨.int .i64,x.Default.Kind⟩,⟨.bool,x.Default.Bool_⟩,⟨.int .i64,x.Default.Int_⟩,⟨.str,x.Default.Str⟩,⟨.int .i64,x.Default.ID⟩,⟨.slice (.nm 1),x.Default.Keys⟩,⟨.slice (.nm 1),x.Default.Items⟩,⟨.slice (.nm 2),x.Default.Rest⟩]
 | 1,(x:SValue)=>[⟨.int .i64,x.Kind⟩,⟨.bool,x.Bool_⟩,⟨.int .i64,x.Int_⟩,⟨.str,x.Str⟩,⟨.int .i64,x.ID⟩,⟨.slice (.nm 1),x.Keys⟩,⟨.slice (.nm 1),x.Items⟩,⟨.slice (.nm 2),x.Rest⟩]
 | 2,(x:SRaw)=>[⟨.int .i64,x.ID⟩,⟨.str,x.Data⟩]
 | 3,(x:SType)=>[⟨.int .i64,x.Kind⟩,⟨.str,x.Name⟩,⟨.int .i64,x.Low⟩,⟨.int .i64,x.High⟩,⟨.int .i64,x.Max⟩,⟨.slice (.nm 4),x.Symbols⟩,⟨.slice (.nm 0),x.Members⟩,⟨.int .i64,x.Key⟩,⟨.int .i64,x.Elem⟩,⟨.bool,x.Open⟩]
 | 4,(x:SSymbol)=>[⟨.int .i64,x.ID⟩,⟨.str,x.Name⟩]
 | 5,(x:SSchema)=>[⟨.slice (.nm 3),x.Types⟩]
 | 6,(x:EncodeEntry)=>[⟨.int .i64,x.id⟩,⟨.str,x.text⟩]
 | 7,(x:EncodeReader)=>[⟨.slice (.nm 3),x.s.Types⟩]
 | 8,(x:SField)=>[⟨.int .i64,x.ID⟩,⟨.bool,x.Critical⟩,⟨.str,x.Data⟩]
 | 9,(x:Sheaveref07Draft)=>[⟨.slice (.nm 10),x.Nodes⟩]
 | 10,(x:Sheaveref07Node)=>[⟨.int .u8,x.Kind⟩,⟨.int .u8,x.A⟩,⟨.int .u8,x.B⟩,⟨.int .u8,x.C⟩,⟨.slice (.nm 11),x.Parts⟩]
 | 11,(x:Sheaveref07Part)=>[⟨.int .u8,x.ID⟩,⟨.int .u8,x.Type_⟩,⟨.int .u8,x.Flag⟩]
 | 12,(x:Sheavelaw09Two)=>[⟨.slice (.nm 10),x.D.S.Nodes⟩,⟨.int .u8,x.D.T⟩,⟨.slice (.int .u8),x.D.C⟩,⟨.slice (.int .u8),x.C⟩]
 | 13,(x:Sheaveref08Draft)=>[⟨.slice (.nm 10),x.S.Nodes⟩,⟨.int .u8,x.T⟩,⟨.slice (.int .u8),x.C⟩]
 | _+14,(x:Bool)=>[⟨.bool,x⟩]
def uMake :(n:Nat)→List (Cell uD)→Option (uD n)
 | 0,l=>match Hs.dec uD (uTys 0) l with
   | some h=>some (⟨h.1,h.2.1,h.2.2.1,h.2.2.2.1,h.2.2.2.2.1,(⟨h.2.2.2.2.2.1,h.2.2.2.2.2.2.1,h.2.2.2.2.2.2.2.1,h.2.2.2.2.2.2.2.2.1,h.2.2.2.2.2.2.2.2.2.1,h.2.2.2.2.2.2.2.2.2.2.1,h.2.2.2.2.2.2.2.2.2.2.2.1,h.2.2.2.2.2.2.2.2.2.2.2.2⟩:SValue)⟩:SMember)
   | none=>none
 | 1,l=>match Hs.dec uD (uTys 1) l with
   | some h=>some (⟨h.1,h.2.1,h.2.2.1,h.2.2.2.1,h.2.2.2.2.1,h.2.2.2.2.2.1,h.2.2.2.2.2.2.1,h.2.2.2.2.2.2.2⟩:SValue)
   | none=>none
 | 2,l=>match Hs.dec uD (uTys 2) l with
   | some h=>some (⟨h.1,h.2⟩:SRaw)
   | none=>none
 | 3,l=>match Hs.dec uD (uTys 3) l with
   | some h=>some (⟨h.1,h.2.1,h.2.2.1,h.2.2.2.1,h.2.2.2.2.1,h.2.2.2.2.2.1,h.2.2.2.2.2.2.1,h.2.2.2.2.2.2.2.1,h.2.2.2.2.2.2.2.2.1,h.2.2.2.2.2.2.2.2.2⟩:SType)
   | none=>none
 | 4,l=>match Hs.dec uD (uTys 4) l with
   | some h=>some (⟨h.1,h.2⟩:SSymbol)
   | none=>none
 | 5,l=>match Hs.dec uD (uTys 5) l with
   | some h=>some (⟨h⟩:SSchema)
   | none=>none
 | 6,l=>match Hs.dec uD (uTys 6) l with
   | some h=>some (⟨h.1,h.2⟩:EncodeEntry)
   | none=>none
 | 7,l=>match Hs.dec uD (uTys 7) l with
   | some h=>some (⟨(⟨h⟩:SSchema)⟩:EncodeReader)
   | none=>none
 | 8,l=>match Hs.dec uD (uTys 8) l with
   | some h=>some (⟨h.1,h.2.1,h.2.2⟩:SField)
   | none=>none
 | 9,l=>match Hs.dec uD (uTys 9) l with
   | some h=>some (⟨h⟩:Sheaveref07Draft)
   | none=>none
 | 10,l=>match Hs.dec uD (uTys 10) l with
   | some h=>some (⟨h.1,h.2.1,h.2.2.1,h.2.2.2.1,h.2.2.2.2⟩:Sheaveref07Node)
   | none=>none
 | 11,l=>match Hs.dec uD (uTys 11) l with
   | some h=>some (⟨h.1,h.2.1,h.2.2⟩:Sheaveref07Part)
   | none=>none
 | 12,l=>match Hs.dec uD (uTys 12) l with
   | some h=>some (⟨(⟨(⟨h.1⟩:Sheaveref07Draft),h.2.1,h.2.2.1⟩:Sheaveref08Draft),h.2.2.2⟩:Sheavelaw09Two)
   | none=>none
 | 13,l=>match Hs.dec uD (uTys 13) l with
   | some h=>some (⟨(⟨h.1⟩:Sheaveref07Draft),h.2.1,h.2.2⟩:Sheaveref08Draft)
   | none=>none
 | _+14,l=>match Hs.dec uD [.bool] l with
   | some (h:Bool)=>some h
   | none=>none
def eSRaw(x:SRaw) :List T:=[.int .i64 x.ID,.str x.Data]
def SValue.eta(x:SValue) :SValue:=⟨x.Kind,x.Bool_,x.Int_,x.Str,x.ID,x.Keys,x.Items,x.Rest⟩
theorem SValue.g14(x:SValue) :x.eta=x:=by cases x;rfl
mutual
def eSValue :SValue→List T
 | ⟨a0,a1,a2,a3,a4,a5,a6,a7⟩=>[.int .i64 a0,.bool a1,.int .i64 a2,.str a3,.int .i64 a4,.slice (eSValueL a5),.slice (eSValueL a6),.slice (a7.map eSRaw)]
def eSValueL :List SValue→List (List T)
 | []=>[]
 | v::r=>eSValue v::eSValueL r
end
theorem gze :∀l,eSValueL l=l.map eSValue
 | []=>rfl
 | v::r=>by simp only[eSValueL,List.map];rw[gze r]
theorem g1dy(x:SValue) :eSValue x=[.int .i64 x.Kind,.bool x.Bool_,.int .i64 x.Int_,.str x.Str,.int .i64 x.ID,.slice (x.Keys.map eSValue),.slice (x.Items.map eSValue),.slice (x.Rest.map eSRaw)]:=by cases x;simp only[eSValue,gze]
def eSMember(x:SMember) :List T:=[.int .i64 x.ID,.str x.Name,.int .i64 x.Type_,.bool x.Critical,.bool x.HasDefault,.int .i64 x.Default.Kind,.bool x.Default.Bool_,.int .i64 x.Default.Int_,.str x.Default.Str,.int .i64 x.Default.ID,.slice (x.Default.Keys.map eSValue),.slice (x.Default.Items.map eSValue),.slice (x.Default.Rest.map eSRaw)]
def eSSymbol(x:SSymbol) :List T:=[.int .i64 x.ID,.str x.Name]
def eSType(x:SType) :List T:=[.int .i64 x.Kind,.str x.Name,.int .i64 x.Low,.int .i64 x.High,.int .i64 x.Max,.slice (x.Symbols.map eSSymbol),.slice (x.Members.map eSMember),.int .i64 x.Key,.int .i64 x.Elem,.bool x.Open]
def eSSchema(x:SSchema) :List T:=[.slice (x.Types.map eSType)]
def eEncodeEntry(x:EncodeEntry) :List T:=[.int .i64 x.id,.str x.text]
def eEncodeReader(x:EncodeReader) :List T:=[.slice (x.s.Types.map eSType)]
def eSField(x:SField) :List T:=[.int .i64 x.ID,.bool x.Critical,.str x.Data]
def eSheaveref07Part(x:Sheaveref07Part) :List T:=[.int .u8 x.ID,.int .u8 x.Type_,.int .u8 x.Flag]
def eSheaveref07Node(x:Sheaveref07Node) :List T:=[.int .u8 x.Kind,.int .u8 x.A,.int .u8 x.B,.int .u8 x.C,.slice (x.Parts.map eSheaveref07Part)]
def eSheaveref07Draft(x:Sheaveref07Draft) :List T:=[.slice (x.Nodes.map eSheaveref07Node)]
def eSheaveref08Draft(x:Sheaveref08Draft) :List T:=[.slice (x.S.Nodes.map eSheaveref07Node),.int .u8 x.T,.slice (x.C.map (fun y=>[.int .u8 y]))]
def eSheavelaw09Two(x:Sheavelaw09Two) :List T:=[.slice (x.D.S.Nodes.map eSheaveref07Node),.int .u8 x.D.T,.slice (x.D.C.map (fun y=>[.int .u8 y])),.slice (x.C.map (fun y=>[.int .u8 y]))]
def uEnc :(n:Nat)→uD n→List T
 | 0,x=>eSMember x
 | 1,x=>eSValue x
 | 2,x=>eSRaw x
 | 3,x=>eSType x
 | 4,x=>eSSymbol x
 | 5,x=>eSSchema x
 | 6,x=>eEncodeEntry x
 | 7,x=>eEncodeReader x
 | 8,x=>eSField x
 | 9,x=>eSheaveref07Draft x
 | 10,x=>eSheaveref07Node x
 | 11,x=>eSheaveref07Part x
 | 12,x=>eSheavelaw09Two x
 | 13,x=>eSheaveref08Draft x
 | _+14,(x:Bool)=>[.bool x]
def Un :Uni where
 D:=uD
 dfl:=fun n=>match n with
   | 0=>dSMember
   | 1=>dSValue
   | 2=>dSRaw
   | 3=>dSType
   | 4=>dSSymbol
   | 5=>dSSchema
   | 6=>dEncodeEntry
   | 7=>dEncodeReader
   | 8=>dSField
   | 9=>dSheaveref07Draft
   | 10=>dSheaveref07Node
   | 11=>dSheaveref07Part
   | 12=>dSheavelaw09Two
   | 13=>dSheaveref08Draft
   | _+14=>false
 flds:=uFlds
 make:=uMake
 tys:=uTys
 enc:=uEnc
 enc_eq:=fun n x=>match n,x with
   | 0,_=>rfl
   | 1,x=>g1dy x
   | 2,_=>rfl
   | 3,_=>rfl
   | 4,_=>rfl
   | 5,_=>rfl
   | 6,_=>rfl
   | 7,_=>rfl
   | 8,_=>rfl
   | 9,_=>rfl
   | 10,_=>rfl
   | 11,_=>rfl
   | 12,_=>rfl
   | 13,_=>rfl
   | _+14,_=>rfl
 mk_eq:=fun n l x h=>match n,x,h with
   | 0,x,h=>by
     simp only[uMake]at h;split at h
     · rename_i hh hd;cases h;exact Hs.dec_cells hd
     · cases h
   | 1,x,h=>by
     simp only[uMake]at h;split at h
     · rename_i hh hd;cases h;exact Hs.dec_cells hd
     · cases h
   | 2,x,h=>by
     simp only[uMake]at h;split at h
     · rename_i hh hd;cases h;exact Hs.dec_cells hd
     · cases h
   | 3,x,h=>by
     simp only[uMake]at h;split at h
     · rename_i hh hd;cases h;exact Hs.dec_cells hd
     · cases h
   | 4,x,h=>by
     simp only[uMake]at h;split at h
     · rename_i hh hd;cases h;exact Hs.dec_cells hd
     · cases h
   | 5,x,h=>by
     simp only[uMake]at h;split at h
     · rename_i hh hd;cases h;exact Hs.dec_cells hd
     · cases h
   | 6,x,h=>by
     simp only[uMake]at h;split at h
     · rename_i hh hd;cases h;exact Hs.dec_cells hd
     · cases h
   | 7,x,h=>by
     simp only[uMake]at h;split at h
     · rename_i hh hd;cases h;exact Hs.dec_cells hd
     · cases h
   | 8,x,h=>by
     simp only[uMake]at h;split at h
     · rename_i hh hd;cases h;exact Hs.dec_cells hd
     · cases h
   | 9,x,h=>by
     simp only[uMake]at h;split at h
     · rename_i hh hd;cases h;exact Hs.dec_cells hd
     · cases h
   | 10,x,h=>by
     simp only[uMake]at h;split at h
     · rename_i hh hd;cases h;exact Hs.dec_cells hd
     · cases h
   | 11,x,h=>by
     simp only[uMake]at h;split at h
     · rename_i hh hd;cases h;exact Hs.dec_cells hd
     · cases h
   | 12,x,h=>by
     simp only[uMake]at h;split at h
     · rename_i hh hd;cases h;exact Hs.dec_cells hd
     · cases h
   | 13,x,h=>by
     simp only[uMake]at h;split at h
     · rename_i hh hd;cases h;exact Hs.dec_cells hd
     · cases h
   | _+14,x,h=>by
     simp only[uMake]at h;split at h
     · rename_i hh hd;cases h;exact Hs.dec_cells hd
     · cases h
 tys_eq:=fun n x=>match n,x with
   | 0,_=>rfl
   | 1,_=>rfl
   | 2,_=>rfl
   | 3,_=>rfl
   | 4,_=>rfl
   | 5,_=>rfl
   | 6,_=>rfl
   | 7,_=>rfl
   | 8,_=>rfl
   | 9,_=>rfl
   | 10,_=>rfl
   | 11,_=>rfl
   | 12,_=>rfl
   | 13,_=>rfl
   | _+14,_=>rfl
 tyOf:=fun e=>match e with
   | 3=>some (.int .i64)
   | 5=>some (.int .u8)
   | 9=>some .str
   | 53=>some (.nm 1)
   | 72=>some (.nm 8)
   | 77=>some (.nm 3)
   | 98=>some (.nm 4)
   | 119=>some (.nm 0)
   | 183=>some (.nm 6)
   | _=>none
 pos:=fun n=>match n with
   | 0=>by decide
   | 1=>by decide
   | 2=>by decide
   | 3=>by decide
   | 4=>by decide
   | 5=>by decide
   | 6=>by decide
   | 7=>by decide
   | 8=>by decide
   | 9=>by decide
   | 10=>by decide
   | 11=>by decide
   | 12=>by decide
   | 13=>by decide
   | _+14=>Nat.zero_lt_one
theorem g1qs :Un.Total:=fun n l h=>match n,h with
 | 0,h=>by
   obtain⟨x,hx⟩:=Hs.dec_ty (D:=uD) (ts:=uTys 0) h;exact⟨_,by show uMake 0 l=_;simp only[uMake,hx];rfl⟩
 | 1,h=>by
   obtain⟨x,hx⟩:=Hs.dec_ty (D:=uD) (ts:=uTys 1) h;exact⟨_,by show uMake 1 l=_;simp only[uMake,hx];rfl⟩
 | 2,h=>by
   obtain⟨x,hx⟩:=Hs.dec_ty (D:=uD) (ts:=uTys 2) h;exact⟨_,by show uMake 2 l=_;simp only[uMake,hx];rfl⟩
 | 3,h=>by
   obtain⟨x,hx⟩:=Hs.dec_ty (D:=uD) (ts:=uTys 3) h;exact⟨_,by show uMake 3 l=_;simp only[uMake,hx];rfl⟩
 | 4,h=>by
   obtain⟨x,hx⟩:=Hs.dec_ty (D:=uD) (ts:=uTys 4) h;exact⟨_,by show uMake 4 l=_;simp only[uMake,hx];rfl⟩
 | 5,h=>by
   obtain⟨x,hx⟩:=Hs.dec_ty (D:=uD) (ts:=uTys 5) h;exact⟨_,by show uMake 5 l=_;simp only[uMake,hx];rfl⟩
 | 6,h=>by
   obtain⟨x,hx⟩:=Hs.dec_ty (D:=uD) (ts:=uTys 6) h;exact⟨_,by show uMake 6 l=_;simp only[uMake,hx];rfl⟩
 | 7,h=>by
   obtain⟨x,hx⟩:=Hs.dec_ty (D:=uD) (ts:=uTys 7) h;exact⟨_,by show uMake 7 l=_;simp only[uMake,hx];rfl⟩
 | 8,h=>by
   obtain⟨x,hx⟩:=Hs.dec_ty (D:=uD) (ts:=uTys 8) h;exact⟨_,by show uMake 8 l=_;simp only[uMake,hx];rfl⟩
 | 9,h=>by
   obtain⟨x,hx⟩:=Hs.dec_ty (D:=uD) (ts:=uTys 9) h;exact⟨_,by show uMake 9 l=_;simp only[uMake,hx];rfl⟩
 | 10,h=>by
   obtain⟨x,hx⟩:=Hs.dec_ty (D:=uD) (ts:=uTys 10) h;exact⟨_,by show uMake 10 l=_;simp only[uMake,hx];rfl⟩
 | 11,h=>by
   obtain⟨x,hx⟩:=Hs.dec_ty (D:=uD) (ts:=uTys 11) h;exact⟨_,by show uMake 11 l=_;simp only[uMake,hx];rfl⟩
 | 12,h=>by
   obtain⟨x,hx⟩:=Hs.dec_ty (D:=uD) (ts:=uTys 12) h;exact⟨_,by show uMake 12 l=_;simp only[uMake,hx];rfl⟩
 | 13,h=>by
   obtain⟨x,hx⟩:=Hs.dec_ty (D:=uD) (ts:=uTys 13) h;exact⟨_,by show uMake 13 l=_;simp only[uMake,hx];rfl⟩
 | m+14,h=>by
   obtain⟨x,hx⟩:=Hs.dec_ty (D:=uD) (ts:=[.bool]) h;exact⟨x,by show uMake (m+14) l=_;simp only[uMake,hx];rfl⟩
end
section
open Go Go.Proofs.YthnmepafpikaiaaGreat.Shv
open Tryz
set_option maxRecDepth 100000
open Go.Proofs Go.Proofs.YthnmepafpikaiaaGreat Go.Shelf
instance:Inhabited EncodeEntry:=⟨dEncodeEntry⟩
instance:Inhabited (Un.D 6):=⟨dEncodeEntry⟩
def sortLt(x y:EncodeEntry) :Bool:=decide (x.id < y.id)
def gzf(l:List EncodeEntry) :Option (List EncodeEntry):=some (pdqBy sortLt l)
section
open Go.Proofs Go.Proofs.YthnmepafpikaiaaGreat Go.Sort Go.RowKit Go.Lib
theorem sortNaN(x:Int)(w:World) :Calls prog 162 #[.int .i64 x] w fun e w'=>e= .returned (.bool false)∧w'=w:=by
 go_enter func162,ntmps162
 go_wp2
 go_ret
 exact⟨by simp,rfl⟩
set_option maxHeartbeats 1000000 in
theorem sortCmp(x y:Int)(w:World) :Calls prog 136 #[.int .i64 x,.int .i64 y] w fun e w'=>e= .returned (.int .i64 (Lib.compareInt x y))∧w'=w:=by
 go_enter func136,ntmps136
 go_wp2_with (go_at_call 162;refine(sortNaN _ _).mono ?_;rintro e w' ⟨rfl,hw⟩;rw[hw])
 all_goals (go_ret;refine⟨?_,rfl⟩;unfold Lib.compareInt;(repeat' split) <;> first | rfl | (exfalso;omega))
def sortEnc(x:EncodeEntry) :List Value:=[.int .i64 x.id,.string ⟨x.text.toArray⟩]
set_option maxHeartbeats 1000000 in
theorem sortClo(x y:Int)(s t:ByteArray)(W:World) :Calls prog 135 #[.agg #[.int .i64 x,.string s],.agg #[.int .i64 y,.string t]] W fun e w'=>e= .returned (.int .i64 (Lib.compareInt x y))∧∃q os',w'=grow (W.drewN q) os':=by
 have hcon:=fun W'=>sortCmp x y W'
 generalize Lib.compareInt x y=r at hcon ⊢
 go_enter func135,ntmps135
 go_wp2_with (go_at_call 136;refine(hcon _).mono ?_;rintro e w' ⟨rfl,rfl⟩)
 go_ret
 exact⟨rfl,0,_,by rw[alloc_eq_grow,alloc_eq_grow,grow_grow];rfl⟩
def g19o :Go.Shelf.Ren:=⟨fun | 6=>134 | 15=>161 | 14=>160 | 28=>187 | 29=>188 | 20=>179 | 21=>180 | 22=>181 | 23=>182 | 24=>183 | 25=>184 | 26=>185 | 27=>186 | 46=>192 | 47=>193 | 48=>194 | 49=>195 | 50=>196 | 57=>197 | n=>n,fun | 22=>180 | 24=>183 | 25=>186 | 3=>3 | 39=>124 | 0=>0 | 53=>167 | 55=>82 | 4=>4 | 46=>215 | 45=>214 | 50=>144 | 5=>5 | 9=>9 | 66=>224 | 70=>228 | 76=>230 | 77=>231 | n=>n,fun | n=>n⟩
theorem layS :SlLaysF0.n6 prog g19o:={
 mixed:=by kernel_rfl
 f6:=⟨f134.name,by decide,func134.trans (congrArg some (by kernel_rfl))⟩
 f14:=⟨f160.name,by decide,func160.trans (congrArg some (by kernel_rfl))⟩
 f15:=func161.trans (congrArg some (by kernel_rfl))
 f20:=⟨f179.name,by decide,func179.trans (congrArg some (by kernel_rfl))⟩
 f21:=⟨f180.name,by decide,func180.trans (congrArg some (by kernel_rfl))⟩
 f22:=⟨f181.name,by decide,func181.trans (congrArg some (by kernel_rfl))⟩
 f23:=⟨f182.name,by decide,func182.trans (congrArg some (by kernel_rfl))⟩
 f24:=⟨f183.name,by decide,func183.trans (congrArg some (by kernel_rfl))⟩
 f25:=⟨f184.name,by decide,func184.trans (congrArg some (by kernel_rfl))⟩
 f26:=⟨f185.name,by decide,func185.trans (congrArg some (by kernel_rfl))⟩
 f27:=⟨f186.name,by decide,func186.trans (congrArg some (by kernel_rfl))⟩
 f28:=func187.trans (congrArg some (by kernel_rfl))
 f29:=func188.trans (congrArg some (by kernel_rfl))
 f46:=⟨f192.name,by decide,func192.trans (congrArg some (by kernel_rfl))⟩
 f47:=func193.trans (congrArg some (by kernel_rfl))
 f48:=func194.trans (congrArg some (by kernel_rfl))
 f49:=⟨f195.name,by decide,func195.trans (congrArg some (by kernel_rfl))⟩
 f50:=⟨f196.name,by decide,func196.trans (congrArg some (by kernel_rfl))⟩
 f57:=⟨f197.name,by decide,func197.trans (congrArg some (by kernel_rfl))⟩
 t0:=underlying0
 a0:=isAgg0
 z0:=sizeOf0
 v0:=zeroValue0
 t3:=underlying3
 a3:=isAgg3
 z3:=sizeOf3
 v3:=zeroValue3
 t4:=underlying4
 a4:=isAgg4
 z4:=sizeOf4
 v4:=zeroValue4
 t5:=underlying5
 a5:=isAgg5
 z5:=sizeOf5
 v5:=zeroValue5
 t9:=underlying9
 a9:=isAgg9
 z9:=sizeOf9
 v9:=zeroValue9
 t22:=underlying180
 a22:=isAgg180
 z22:=sizeOf180
 v22:=zeroValue180
 t25:=underlying186
 a25:=isAgg186
 z25:=sizeOf186
 v25:=zeroValue186
 t39:=underlying124
 a39:=isAgg124
 z39:=sizeOf124
 v39:=zeroValue124
 t45:=underlying214
 a45:=isAgg214
 z45:=sizeOf214
 v45:=zeroValue214
 t46:=underlying215
 a46:=isAgg215
 z46:=sizeOf215
 v46:=zeroValue215
 t50:=underlying144
 a50:=isAgg144
 z50:=sizeOf144
 v50:=zeroValue144
 t53:=underlying167
 a53:=isAgg167
 z53:=sizeOf167
 v53:=zeroValue167
 t55:=underlying82
 a55:=isAgg82
 z55:=sizeOf82
 v55:=zeroValue82
 t66:=underlying224
 a66:=isAgg224
 z66:=sizeOf224
 v66:=zeroValue224
 t70:=underlying228
 a70:=isAgg228
 z70:=sizeOf228
 v70:=zeroValue228
 t76:=underlying230
 a76:=isAgg230
 z76:=sizeOf230
 v76:=zeroValue230
 t77:=underlying231
 a77:=isAgg231
 z77:=sizeOf231
 v77:=zeroValue231}
theorem g17e :ltOf (fun x y:EncodeEntry=>Lib.compareInt x.id y.id)=sortLt:=by
 funext x y
 unfold ltOf sortLt Lib.compareInt;by_cases h1:x.id < y.id
 · simp[h1]
 · by_cases h2:y.id < x.id <;> simp[h1,h2]
theorem sortSWO :SWO sortLt:=g1ju (fun x:EncodeEntry=>x.id)
set_option maxHeartbeats 2000000 in
theorem sortNoneI(p:Option Addr)(cap:Nat)(fv:Value)(w:World) :Calls prog 179 #[.slice p 0 cap,.int .i64 0,.int .i64 0,fv] w fun e w'=>e= .returned (.tuple #[])∧w'=w:=by
 go_enter func179,ntmps179
 go_wp2
 refine wp_loop_rounds 1 ?_;rw[rounds_succ]
 go_wp2
 go_end0
 exact⟨rfl,rfl⟩
set_option maxHeartbeats 2000000 in
theorem sortNoneP(p:Option Addr)(cap:Nat)(lim:Int)(fv:Value)(w:World) :Calls prog 160 #[.slice p 0 cap,.int .i64 0,.int .i64 0,.int .i64 lim,fv] w fun e w'=>e= .returned (.tuple #[])∧w'=w:=by
 have hi:=fun W=>sortNoneI p cap fv W
 go_enter func160,ntmps160
 go_wp2
 refine wp_loop_rounds 1 ?_;rw[rounds_succ]
 go_wp2_with (go_at_call 179;refine(hi _).mono ?_;rintro e w' ⟨rfl,rfl⟩)
 (try simp only[Exit.inBlock,Exit.then]);refine bodyPost_ret (results_none rfl _ _ _) rfl ?_
 exact⟨rfl,rfl⟩
set_option maxHeartbeats 2000000 in
theorem sortNone(p:Option Addr)(cap:Nat)(fv:Value)(w:World) :Calls prog 134 #[.slice p 0 cap,fv] w fun e w'=>e= .returned (.tuple #[])∧w'=w:=by
 have hp:=fun lim W=>sortNoneP p cap lim fv W
 have hl:∀W,Calls prog 161 #[.int .u64 0] W fun e w'=>e= .returned (.int .i64 (Lib.bitLen 0:Nat))∧w'=W:=fun W=>by
   have h:=Any.bits_Len (SlLaysF0.n15.bits (P:=prog) (ρ:=g19o) {layS with}) 0 W (by omega) (by omega);exact h
 go_enter func134,ntmps134
 go_wp2_with (first | (go_at_call 161;refine(hl _).mono ?_;rintro e w' ⟨rfl,rfl⟩) | (go_at_call 160;refine(hp _ _).mono ?_;rintro e w' ⟨rfl,rfl⟩))
 go_end0
 exact⟨rfl,rfl⟩
theorem sortWhole (blk off cap : Nat) (d : Array (Un.D 6)) (w : World) (hH : HoldsK sortEnc 2 w blk off d) (hblk : blk < w.heap.size) (hsz : d.size < 4611686018427387904) :
   Calls prog 134 #[.slice (some ⟨blk,off,none⟩) d.size cap,.func (.func 135) #[] #[]] w fun e w'=>e= .returned (.tuple #[])∧∃n os,w'=sortWorldK sortEnc 2 w blk off n (pdq sortLt d 0 d.size (Lib.bitLen d.size) true true) os:=by
 have eg:∀args w,(callFunc 135 args).run prog w= .ok (.enter 135 args) w:=enters_of func135 (by kernel_rfl) rfl
 have h:=AnyQ.slices_SortFunc_eq (α:=EncodeEntry) layS 2 isAgg183 sizeOf183 sortEnc (fun _=>rfl) (fun x v hv=>by simp[sortEnc]at hv;rcases hv with rfl | rfl <;> rfl) (fun x y=>Lib.compareInt x.id y.id) (by rw[g17e];exact sortSWO) 135 #[] blk off cap d w eg (fun _ _ _ _ x y=>sortClo x.id y.id _ _ _) hH hblk hsz;rw[g17e]at h;exact h
theorem g1nt :gg prog 134=true:=by kernel_rfl
def gva :FSpec Un:=sortS Un 134 6 135 (pdqBy (α:=Un.D 6) sortLt)
theorem g12n :FSnd prog gva:=g1hf (U:=Un) (n:=6) sortEnc sortLt sortSWO (fun _=>rfl) (fun w S x j t v h hr=>g1dx w S x.id x.text j t v h hr) sortWhole sortNone
end
def g14i :Go.Shelf.Ren:=⟨fun | 240=>117 | 276=>145 | n=>n,fun | 0=>0 | 4=>4 | 9=>9 | 20=>20 | 37=>45 | 70=>128 | 72=>130 | 164=>194 | n=>n,fun n=>n⟩
theorem lay240 :Lays.n240 prog g14i:={
 mixed:=by kernel_rfl
 f240:=func117.trans (congrArg some (by kernel_rfl))
 f276:=func145.trans (congrArg some (by kernel_rfl))
 t0:=underlying0
 a0:=isAgg0
 z0:=sizeOf0
 v0:=zeroValue0
 t4:=underlying4
 a4:=isAgg4
 z4:=sizeOf4
 v4:=zeroValue4
 t9:=underlying9
 a9:=isAgg9
 z9:=sizeOf9
 v9:=zeroValue9
 t20:=underlying20
 a20:=isAgg20
 z20:=sizeOf20
 v20:=zeroValue20
 t70:=underlying128
 a70:=isAgg128
 z70:=sizeOf128
 v70:=zeroValue128
 t72:=underlying130
 a72:=isAgg130
 z72:=sizeOf130
 v72:=zeroValue130
 t164:=underlying194
 a164:=isAgg194
 z164:=sizeOf194
 v164:=zeroValue194}
theorem layX72 :Builder.X72 prog g14i:={
 sizeBuilder:=by kernel_rfl
 liesBuilder:=by kernel_rfl}
theorem g1nu :gg prog 117=true:=by kernel_rfl
def gt7 :FSpec Un:=g14f Un 117 130 5
theorem g10n :FSnd prog gt7:=g1ff lay240 layX72 rfl rfl
end
section
open Go Go.Proofs.YthnmepafpikaiaaGreat.Shv
open Tryz
set_option maxRecDepth 100000
def g6r(_:Unit) :Option (SSchema):=
 some (⟨[(⟨2,[],(-10),10,0,[],[],0,0,false⟩:SType),(⟨2,[],0,5,0,[],[],0,0,false⟩:SType),(⟨3,[],0,0,8,[],[],0,0,false⟩:SType),(⟨5,[80,111,105,110,116],0,0,0,[],[(⟨1,[120],0,false,false,(⟨0,false,0,[],0,[],[],[]⟩:SValue)⟩:SMember),(⟨2,[121],1,false,true,(⟨2,false,3,[],0,[],[],[]⟩:SValue)⟩:SMember),(⟨3,[116,97,103],2,true,false,(⟨0,false,0,[],0,[],[],[]⟩:SValue)⟩:SMember)],0,0,false⟩:SType)]⟩:SSchema)
theorem F38_b :gg prog 38=true:=by kernel_rfl
theorem g1nv :f38.body.bind (Shv.resolve prog f38.ntmps)=some (g6 prog f38):=by kernel_rfl
theorem g1jv :g7 prog f38.results.toList=some [.cell 0 true 1]:=by kernel_rfl
def gvb(F:Hs Un.D []→Option (Hs Un.D [.nm 5])) :FSpec Un:=⟨38,[],[],[],.row 5,[],[.nm 5],F⟩
def gdi :FSpec Un:=gvb g6r
theorem gsn :FSnd prog gdi:=FSnd.of fun h r hr=>FAt.of_body (s:=gdi) (fo:=foS []) (lo:=loL []) func38 g1nv g1jv (by kernel_rfl) FoSnd.nil (LoOk.snd LoOk.nil) (Eq.trans (by kernel_rfl) hr)
def gd9(x_:Int × Int) :Option (SValue):=
 match x_ with
 | (x0,y)=>
 some (⟨5,false,0,[],0,[],[(⟨2,false,x0,[],0,[],[],[]⟩:SValue),(⟨2,false,y,[],0,[],[],[]⟩:SValue),(⟨3,false,0,[97,98],0,[],[],[]⟩:SValue)],[]⟩:SValue)
theorem F39_b :gg prog 39=true:=by kernel_rfl
theorem g1nw :f39.body.bind (Shv.resolve prog f39.ntmps)=some (g6 prog f39):=by kernel_rfl
theorem g1jw :g7 prog f39.results.toList=some [.cell 4 true 8]:=by kernel_rfl
def gxz(F:Hs Un.D [.int .i64,.int .i64]→Option (Hs Un.D [.nm 1])) :FSpec Un:=⟨39,[.c (.hole (.int .i64)),.c (.hole (.int .i64))],[],[.int .i64,.int .i64],.row 1,[],[.nm 1],F⟩
def gfx :FSpec Un:=gxz gd9
theorem gvc :FSnd prog gfx:=FSnd.of fun h r hr=>FAt.of_body (s:=gfx) (fo:=foS []) (lo:=loL []) func39 g1nw g1jw (by kernel_rfl) FoSnd.nil (LoOk.snd LoOk.nil) (Eq.trans (by kernel_rfl) hr)
def g15(x_:List SSymbol × List SSymbol × Int × Int) :Option ((Bool) ⊕ (Unit)):=
 match x_ with
 | (s1_1,s2_1,t12_1,t13)=>
 if decide (t13 < t12_1)=true then
 if inR t13 s1_1.length=true then
 some (s1_1.getD t13.toNat dSSymbol) >>=fun x0=>
 if inR t13 s2_1.length=true then
 some (s2_1.getD t13.toNat dSSymbol) >>=fun x0_1=>
 if(!(eqI x0.ID x0_1.ID && (eqS x0.Name x0_1.Name && true)))=true then
 some (.inl false)
 else
 g15 (s1_1,s2_1,t12_1,addI .i64 t13 1)
 else none
 else none
 else
 some (.inr ())
  partial_fixpoint
theorem g1nx :gg prog 167=true:=by kernel_rfl
theorem g1jx :f167.body.bind (Shv.resolve prog f167.ntmps)=some (g6 prog f167):=by kernel_rfl
theorem g1hh :g7 prog f167.results.toList=some [.tmp 4]:=by kernel_rfl
def g8n :Shape:=⟨[(0,.c (.hole (.slice (.nm 4)))),(1,.c (.hole (.slice (.nm 4)))),(12,.c (.hole (.int .i64))),(13,.c (.hole (.int .i64)))],[]⟩
def g5e :List Ty:=[.slice (.nm 4),.slice (.nm 4),.int .i64,.int .i64]
def g56 :List OSpec:=[⟨.ret,⟨[(4,.c (.hole .bool))],[]⟩,[],[.bool]⟩,⟨.exit 0,⟨[],[]⟩,[],[]⟩]
def gfy(F:Hs Un.D g5e→Option (OSum Un g56)) :LSpec Un:=⟨g8n,[],g5e,g56,F⟩
def g8x :LSpec Un:=gfy g15
theorem gek :LSnd prog f167.ntmps 0 (gn (g6 prog f167) 0) g8x:=fun h o ho=>g15.partial_correctness (fun h o=>LAt (U:=Un) prog f167.ntmps 0 (gn (g6 prog f167) 0) g8n g5e g56 h o) (fun F1 HF1 h o ho=>LAt.of_round (fo:=foS []) (lo:=loL []) (own:=[]) (F':=F1) FoSnd.nil (LoOk.snd LoOk.nil) HF1 (Eq.trans (by kernel_rfl) ho)) h o ho
def g3j(x_:List SSymbol × List SSymbol) :Option (Bool):=
 match x_ with
 | (s1,s2)=>
 if(!(decide ((s1.length:Int)=(s2.length:Int))))=true then
 some false
 else
 g15 (s1,s2,(s1.length:Int),0) >>=fun o=>
 match o with
 | .inl o_1=>
 some o_1
 | .inr o_2=>
 some true
def gib(F:Hs Un.D [.slice (.nm 4),.slice (.nm 4)]→Option (Hs Un.D [.bool])) :FSpec Un:=⟨167,[.c (.hole (.slice (.nm 4))),.c (.hole (.slice (.nm 4)))],[],[.slice (.nm 4),.slice (.nm 4)],.c (.hole .bool),[],[.bool],F⟩
def g6f :FSpec Un:=gib g3j
theorem ggz :FSnd prog g6f:=FSnd.of fun h r hr=>FAt.of_body (s:=g6f) (fo:=foS []) (lo:=loL [(0,g8x)]) func167 g1jx g1hh (by kernel_rfl) FoSnd.nil (LoOk.snd (LoOk.cons gek LoOk.nil)) (Eq.trans (by kernel_rfl) hr)
def g1c(x_:List SRaw × List SRaw × Int × Int) :Option ((Bool) ⊕ (Unit)):=
 match x_ with
 | (s1_1,s2_1,t12_1,t13)=>
 if decide (t13 < t12_1)=true then
 if inR t13 s1_1.length=true then
 some (s1_1.getD t13.toNat dSRaw) >>=fun x0=>
 if inR t13 s2_1.length=true then
 some (s2_1.getD t13.toNat dSRaw) >>=fun x0_1=>
 if(!(eqI x0.ID x0_1.ID && (eqS x0.Data x0_1.Data && true)))=true then
 some (.inl false)
 else
 g1c (s1_1,s2_1,t12_1,addI .i64 t13 1)
 else none
 else none
 else
 some (.inr ())
  partial_fixpoint
theorem g1fj :gg prog 177=true:=by kernel_rfl
theorem g1jy :f177.body.bind (Shv.resolve prog f177.ntmps)=some (g6 prog f177):=by kernel_rfl
theorem g1hi :g7 prog f177.results.toList=some [.tmp 4]:=by kernel_rfl
def gau :Shape:=⟨[(0,.c (.hole (.slice (.nm 2)))),(1,.c (.hole (.slice (.nm 2)))),(12,.c (.hole (.int .i64))),(13,.c (.hole (.int .i64)))],[]⟩
def g6w :List Ty:=[.slice (.nm 2),.slice (.nm 2),.int .i64,.int .i64]
def g6g :List OSpec:=[⟨.ret,⟨[(4,.c (.hole .bool))],[]⟩,[],[.bool]⟩,⟨.exit 0,⟨[],[]⟩,[],[]⟩]
def gjv(F:Hs Un.D g6w→Option (OSum Un g6g)) :LSpec Un:=⟨gau,[],g6w,g6g,F⟩
def gb9 :LSpec Un:=gjv g1c
theorem gio :LSnd prog f177.ntmps 0 (gn (g6 prog f177) 0) gb9:=fun h o ho=>g1c.partial_correctness (fun h o=>LAt (U:=Un) prog f177.ntmps 0 (gn (g6 prog f177) 0) gau g6w g6g h o) (fun F1 HF1 h o ho=>LAt.of_round (fo:=foS []) (lo:=loL []) (own:=[]) (F':=F1) FoSnd.nil (LoOk.snd LoOk.nil) HF1 (Eq.trans (by kernel_rfl) ho)) h o ho
def g3z(x_:List SRaw × List SRaw) :Option (Bool):=
 match x_ with
 | (s1,s2)=>
 if(!(decide ((s1.length:Int)=(s2.length:Int))))=true then
 some false
 else
 g1c (s1,s2,(s1.length:Int),0) >>=fun o=>
 match o with
 | .inl o_1=>
 some o_1
 | .inr o_2=>
 some true
def gml(F:Hs Un.D [.slice (.nm 2),.slice (.nm 2)]→Option (Hs Un.D [.bool])) :FSpec Un:=⟨177,[.c (.hole (.slice (.nm 2))),.c (.hole (.slice (.nm 2)))],[],[.slice (.nm 2),.slice (.nm 2)],.c (.hole .bool),[],[.bool],F⟩
def g61 :FSpec Un:=gml g3z
theorem gbn :FSnd prog g61:=FSnd.of fun h r hr=>FAt.of_body (s:=g61) (fo:=foS []) (lo:=loL [(0,gb9)]) func177 g1jy g1hi (by kernel_rfl) FoSnd.nil (LoOk.snd (LoOk.cons gio LoOk.nil)) (Eq.trans (by kernel_rfl) hr)
mutual
def g54(x_:SValue × SValue) :Option (Bool):=
 match x_ with
 | (a,b)=>
 some (bif bif bif bif decide (a.Kind=b.Kind)then eqB a.Bool_ b.Bool_ else false then decide (a.Int_=b.Int_)else false then decide (a.Str=b.Str)else false then decide (a.ID=b.ID)else false) >>=fun t37=>
 (if t37=true then g3z (a.Rest,b.Rest)else some false) >>=fun r=>
 some (bif t37 then r else false) >>=fun t44=>
 (if t44=true then g17 (a.Keys,b.Keys)else some false) >>=fun r_1=>
 some (bif t44 then r_1 else false) >>=fun t51=>
 (if t51=true then g17 (a.Items,b.Items)else some false) >>=fun r_2=>
 some (bif t51 then r_2 else false)
  partial_fixpoint
def g17(x_:List SValue × List SValue) :Option (Bool):=
 match x_ with
 | (s1,s2)=>
 if(!(decide ((s1.length:Int)=(s2.length:Int))))=true then
 some false
 else
 gy (s2,s1,(s1.length:Int),0) >>=fun o=>
 match o with
 | .inl o_1=>
 some o_1
 | .inr o_2=>
 some true
  partial_fixpoint
def gy(x_:List SValue × List SValue × Int × Int) :Option ((Bool) ⊕ (Unit)):=
 match x_ with
 | (s2_1,t15,t16_1,t17)=>
 if decide (t17 < t16_1)=true then
 if inR t17 t15.length=true then
 if inR t17 s2_1.length=true then
 g54 (SValue.eta (t15.getD t17.toNat dSValue),SValue.eta (s2_1.getD t17.toNat dSValue)) >>=fun r=>
 if(!r)=true then
 some (.inl false)
 else
 gy (s2_1,t15,t16_1,addI .i64 t17 1)
 else none
 else none
 else
 some (.inr ())
  partial_fixpoint
end
theorem g19p :gg prog 170=true:=by kernel_rfl
theorem g1jz :f170.body.bind (Shv.resolve prog f170.ntmps)=some (g6 prog f170):=by kernel_rfl
theorem g1hj :g7 prog f170.results.toList=some [.tmp 4]:=by kernel_rfl
def gxn(F:Hs Un.D [.nm 1,.nm 1]→Option (Hs Un.D [.bool])) :FSpec Un:=⟨170,[.row 1,.row 1],[],[.nm 1,.nm 1],.c (.hole .bool),[],[.bool],F⟩
def gc1 :FSpec Un:=gxn g54
theorem g1fk :gg prog 178=true:=by kernel_rfl
theorem g1bz :f178.body.bind (Shv.resolve prog f178.ntmps)=some (g6 prog f178):=by kernel_rfl
theorem g19q :g7 prog f178.results.toList=some [.tmp 6]:=by kernel_rfl
def g4u(F:Hs Un.D [.slice (.nm 1),.slice (.nm 1)]→Option (Hs Un.D [.bool])) :FSpec Un:=⟨178,[.c (.hole (.slice (.nm 1))),.c (.hole (.slice (.nm 1))),.c (.fn 170 [])],[],[.slice (.nm 1),.slice (.nm 1)],.c (.hole .bool),[],[.bool],F⟩
def g2u :FSpec Un:=g4u g17
def g48 :Shape:=⟨[(1,.c (.hole (.slice (.nm 1)))),(2,.c (.fn 170 [])),(15,.c (.hole (.slice (.nm 1)))),(16,.c (.hole (.int .i64))),(17,.c (.hole (.int .i64)))],[]⟩
def g2h :List Ty:=[.slice (.nm 1),.slice (.nm 1),.int .i64,.int .i64]
def g2d :List OSpec:=[⟨.ret,⟨[(6,.c (.hole .bool))],[]⟩,[],[.bool]⟩,⟨.exit 0,⟨[],[]⟩,[],[]⟩]
def g4d(F:Hs Un.D g2h→Option (OSum Un g2d)) :LSpec Un:=⟨g48,[],g2h,g2d,F⟩
def g88 :LSpec Un:=g4d gy
theorem g14j :(FSnd prog gc1)∧(FSnd prog g2u)∧(LSnd prog f178.ntmps 0 (gn (g6 prog f178) 0) g88):=g54.mutual_partial_correctness (fun h r=>FAt prog gc1 h r) (fun h r=>FAt prog g2u h r) (fun h o=>LAt (U:=Un) prog f178.ntmps 0 (gn (g6 prog f178) 0) g48 g2h g2d h o)
 (fun F2 HF2 h o ho=>FAt.of_body (s:=gc1) (fo:=foS [g61,g4u F2]) (lo:=loL []) func170 g1jz g1hj (by kernel_rfl) (FoSnd.cons g1fj gbn (FoSnd.cons g1fk HF2 FoSnd.nil)) (LoOk.snd LoOk.nil) (Eq.trans (by kernel_rfl) ho))
 (fun F3 HF3 h o ho=>FAt.of_body (s:=g2u) (fo:=foS []) (lo:=loL [(0,g4d F3)]) func178 g1bz g19q (by kernel_rfl) FoSnd.nil (LoOk.snd (LoOk.cons HF3 LoOk.nil)) (Eq.trans (by kernel_rfl) ho))
 (fun F1 F3 HF1 HF3 h o ho=>LAt.of_round (fo:=foS [gxn F1]) (lo:=loL []) (own:=[]) (F':=F3) (FoSnd.cons g19p HF1 FoSnd.nil) (LoOk.snd LoOk.nil) HF3 (Eq.trans (by kernel_rfl) ho))
theorem gt8 :FSnd prog gc1:=g14j.1
def gaz(x_:SMember × SMember) :Option (Bool):=
 match x_ with
 | (x0,y)=>
 some (bif bif bif bif decide (x0.ID=y.ID)then decide (x0.Name=y.Name)else false then decide (x0.Type_=y.Type_)else false then eqB x0.Critical y.Critical else false then eqB x0.HasDefault y.HasDefault else false) >>=fun t37=>
 (if t37=true then g54 ((⟨x0.Default.Kind,x0.Default.Bool_,x0.Default.Int_,x0.Default.Str,x0.Default.ID,x0.Default.Keys,x0.Default.Items,x0.Default.Rest⟩:SValue),SValue.eta y.Default)else some false) >>=fun r=>
 some (bif t37 then r else false)
theorem g1ny :gg prog 169=true:=by kernel_rfl
theorem g1k0 :f169.body.bind (Shv.resolve prog f169.ntmps)=some (g6 prog f169):=by kernel_rfl
theorem g1hk :g7 prog f169.results.toList=some [.tmp 4]:=by kernel_rfl
def g12o(F:Hs Un.D [.nm 0,.nm 0]→Option (Hs Un.D [.bool])) :FSpec Un:=⟨169,[.row 0,.row 0],[],[.nm 0,.nm 0],.c (.hole .bool),[],[.bool],F⟩
def gjw :FSpec Un:=g12o gaz
theorem gzg :FSnd prog gjw:=FSnd.of fun h r hr=>FAt.of_body (s:=gjw) (fo:=foS [gc1]) (lo:=loL []) func169 g1k0 g1hk (by kernel_rfl) (FoSnd.cons g19p gt8 FoSnd.nil) (LoOk.snd LoOk.nil) (Eq.trans (by kernel_rfl) hr)
def gh(x_:List SMember × List SMember × Int × Int) :Option ((Bool) ⊕ (Unit)):=
 match x_ with
 | (s2_1,t15,t16_1,t17)=>
 if decide (t17 < t16_1)=true then
 if inR t17 t15.length=true then
 some (t15.getD t17.toNat dSMember) >>=fun x0=>
 if inR t17 s2_1.length=true then
 some (s2_1.getD t17.toNat dSMember) >>=fun x0_1=>
 gaz ((⟨x0.ID,x0.Name,x0.Type_,x0.Critical,x0.HasDefault,SValue.eta x0.Default⟩:SMember),(⟨x0_1.ID,x0_1.Name,x0_1.Type_,x0_1.Critical,x0_1.HasDefault,SValue.eta x0_1.Default⟩:SMember)) >>=fun r=>
 if(!r)=true then
 some (.inl false)
 else
 gh (s2_1,t15,t16_1,addI .i64 t17 1)
 else none
 else none
 else
 some (.inr ())
  partial_fixpoint
theorem g1nz :gg prog 168=true:=by kernel_rfl
theorem g1k1 :f168.body.bind (Shv.resolve prog f168.ntmps)=some (g6 prog f168):=by kernel_rfl
theorem g1hl :g7 prog f168.results.toList=some [.tmp 6]:=by kernel_rfl
def g3p :Shape:=⟨[(1,.c (.hole (.slice (.nm 0)))),(2,.c (.fn 169 [])),(15,.c (.hole (.slice (.nm 0)))),(16,.c (.hole (.int .i64))),(17,.c (.hole (.int .i64)))],[]⟩
def g24 :List Ty:=[.slice (.nm 0),.slice (.nm 0),.int .i64,.int .i64]
def g21 :List OSpec:=[⟨.ret,⟨[(6,.c (.hole .bool))],[]⟩,[],[.bool]⟩,⟨.exit 0,⟨[],[]⟩,[],[]⟩]
def g7a(F:Hs Un.D g24→Option (OSum Un g21)) :LSpec Un:=⟨g3p,[],g24,g21,F⟩
def g3s :LSpec Un:=g7a gh
theorem g6x :LSnd prog f168.ntmps 0 (gn (g6 prog f168) 0) g3s:=fun h o ho=>gh.partial_correctness (fun h o=>LAt (U:=Un) prog f168.ntmps 0 (gn (g6 prog f168) 0) g3p g24 g21 h o) (fun F1 HF1 h o ho=>LAt.of_round (fo:=foS [gjw]) (lo:=loL []) (own:=[]) (F':=F1) (FoSnd.cons g1ny gzg FoSnd.nil) (LoOk.snd LoOk.nil) HF1 (Eq.trans (by kernel_rfl) ho)) h o ho
def g1h(x_:List SMember × List SMember) :Option (Bool):=
 match x_ with
 | (s1,s2)=>
 if(!(decide ((s1.length:Int)=(s2.length:Int))))=true then
 some false
 else
 gh (s2,s1,(s1.length:Int),0) >>=fun o=>
 match o with
 | .inl o_1=>
 some o_1
 | .inr o_2=>
 some true
def g85(F:Hs Un.D [.slice (.nm 0),.slice (.nm 0)]→Option (Hs Un.D [.bool])) :FSpec Un:=⟨168,[.c (.hole (.slice (.nm 0))),.c (.hole (.slice (.nm 0))),.c (.fn 169 [])],[],[.slice (.nm 0),.slice (.nm 0)],.c (.hole .bool),[],[.bool],F⟩
def g2i :FSpec Un:=g85 g1h
theorem g7i :FSnd prog g2i:=FSnd.of fun h r hr=>FAt.of_body (s:=g2i) (fo:=foS []) (lo:=loL [(0,g3s)]) func168 g1k1 g1hl (by kernel_rfl) FoSnd.nil (LoOk.snd (LoOk.cons g6x LoOk.nil)) (Eq.trans (by kernel_rfl) hr)
def g1v(x_:SType × SType) :Option (Bool):=
 match x_ with
 | (a,b)=>
 some (bif bif bif bif bif bif bif decide (a.Kind=b.Kind)then decide (a.Name=b.Name)else false then decide (a.Low=b.Low)else false then decide (a.High=b.High)else false then decide (a.Max=b.Max)else false then decide (a.Key=b.Key)else false then decide (a.Elem=b.Elem)else false then eqB a.Open b.Open else false) >>=fun t58=>
 (if t58=true then g3j (a.Symbols,b.Symbols)else some false) >>=fun r=>
 some (bif t58 then r else false) >>=fun t65=>
 (if t65=true then g1h (a.Members,b.Members)else some false) >>=fun r_1=>
 some (bif t65 then r_1 else false)
theorem g1o0 :gg prog 150=true:=by kernel_rfl
theorem g1k2 :f150.body.bind (Shv.resolve prog f150.ntmps)=some (g6 prog f150):=by kernel_rfl
theorem g1hm :g7 prog f150.results.toList=some [.tmp 4]:=by kernel_rfl
def g164(F:Hs Un.D [.nm 3,.nm 3]→Option (Hs Un.D [.bool])) :FSpec Un:=⟨150,[.row 3,.row 3],[],[.nm 3,.nm 3],.c (.hole .bool),[],[.bool],F⟩
def gnd :FSpec Un:=g164 g1v
theorem g12p :FSnd prog gnd:=FSnd.of fun h r hr=>FAt.of_body (s:=gnd) (fo:=foS [g6f,g2i]) (lo:=loL []) func150 g1k2 g1hm (by kernel_rfl) (FoSnd.cons g1nx ggz (FoSnd.cons g1nz g7i FoSnd.nil)) (LoOk.snd LoOk.nil) (Eq.trans (by kernel_rfl) hr)
def gb0(c:Int) :Option (Bool):=
 some (bif bif decide (c=95)then true else bif decide (97≤c)then decide (c≤122)else false then true else bif decide (65≤c)then decide (c≤90)else false)
theorem g1fl :gg prog 163=true:=by kernel_rfl
theorem g1k3 :f163.body.bind (Shv.resolve prog f163.ntmps)=some (g6 prog f163):=by kernel_rfl
theorem g1hn :g7 prog f163.results.toList=some [.tmp 2]:=by kernel_rfl
def g12q(F:Hs Un.D [.int .u8]→Option (Hs Un.D [.bool])) :FSpec Un:=⟨163,[.c (.hole (.int .u8))],[],[.int .u8],.c (.hole .bool),[],[.bool],F⟩
def gel :FSpec Un:=g12q gb0
theorem go7 :FSnd prog gel:=FSnd.of fun h r hr=>FAt.of_body (s:=gel) (fo:=foS []) (lo:=loL []) func163 g1k3 g1hn (by kernel_rfl) FoSnd.nil (LoOk.snd LoOk.nil) (Eq.trans (by kernel_rfl) hr)
end
section
open Go Go.Proofs.YthnmepafpikaiaaGreat.Shv
open Tryz
set_option maxRecDepth 100000
def gfd(c:Int) :Option (Bool):=
 some (bif decide (48≤c)then decide (c≤57)else false)
theorem g1o1 :gg prog 164=true:=by kernel_rfl
theorem g1k4 :f164.body.bind (Shv.resolve prog f164.ntmps)=some (g6 prog f164):=by kernel_rfl
theorem g1ho :g7 prog f164.results.toList=some [.tmp 2]:=by kernel_rfl
def g14k(F:Hs Un.D [.int .u8]→Option (Hs Un.D [.bool])) :FSpec Un:=⟨164,[.c (.hole (.int .u8))],[],[.int .u8],.c (.hole .bool),[],[.bool],F⟩
def gla :FSpec Un:=g14k gfd
theorem g10o :FSnd prog gla:=FSnd.of fun h r hr=>FAt.of_body (s:=gla) (fo:=foS []) (lo:=loL []) func164 g1k4 g1ho (by kernel_rfl) FoSnd.nil (LoOk.snd LoOk.nil) (Eq.trans (by kernel_rfl) hr)
def g28(x_:List UInt8 × Int × Int) :Option ((Bool) ⊕ (Unit)):=
 match x_ with
 | (s_1,t18_1,t19)=>
 if decide (t19 < t18_1)=true then
 if inR t19 s_1.length=true then
 gb0 (g4p s_1 t19) >>=fun r_1=>
 some (!r_1) >>=fun t26=>
 if(inR t19 s_1.length || (!t26))=true then
 (if t26=true then gfd (g4p s_1 t19)else some false) >>=fun r_2=>
 if(bif t26 then(!r_2)else false)=true then
 some (.inl false)
 else
 g28 (s_1,t18_1,addI .i64 t19 1)
 else none
 else none
 else
 some (.inr ())
  partial_fixpoint
theorem g1fm :gg prog 147=true:=by kernel_rfl
theorem g1k5 :f147.body.bind (Shv.resolve prog f147.ntmps)=some (g6 prog f147):=by kernel_rfl
theorem g1hp :g7 prog f147.results.toList=some [.tmp 2]:=by kernel_rfl
def go8 :Shape:=⟨[(0,.c (.hole .str)),(18,.c (.hole (.int .i64))),(19,.c (.hole (.int .i64)))],[]⟩
def gh8 :List Ty:=[.str,.int .i64,.int .i64]
def gem :List OSpec:=[⟨.ret,⟨[(2,.c (.hole .bool))],[]⟩,[],[.bool]⟩,⟨.exit 0,⟨[],[]⟩,[],[]⟩]
def g10p(F:Hs Un.D gh8→Option (OSum Un gem)) :LSpec Un:=⟨go8,[],gh8,gem,F⟩
def gpm :LSpec Un:=g10p g28
theorem gy0 :LSnd prog f147.ntmps 0 (gn (g6 prog f147) 0) gpm:=fun h o ho=>g28.partial_correctness (fun h o=>LAt (U:=Un) prog f147.ntmps 0 (gn (g6 prog f147) 0) go8 gh8 gem h o) (fun F1 HF1 h o ho=>LAt.of_round (fo:=foS [gel,gla]) (lo:=loL []) (own:=[]) (F':=F1) (FoSnd.cons g1fl go7 (FoSnd.cons g1o1 g10o FoSnd.nil)) (LoOk.snd LoOk.nil) HF1 (Eq.trans (by kernel_rfl) ho)) h o ho
def g3t(s:List UInt8) :Option (Bool):=
 some (bif decide (s=[])then true else decide (24 < (s.length:Int))) >>=fun t10=>
 if(inR 0 s.length || (!(!t10)))=true then
 (if(!t10)=true then gb0 (g4p s 0)else some false) >>=fun r=>
 if(bif t10 then true else(!r))=true then
 some false
 else
 g28 (s,(s.length:Int),0) >>=fun o=>
 match o with
 | .inl o_1=>
 some o_1
 | .inr o_2=>
 some true
 else none
def g165(F:Hs Un.D [.str]→Option (Hs Un.D [.bool])) :FSpec Un:=⟨147,[.c (.hole .str)],[],[.str],.c (.hole .bool),[],[.bool],F⟩
def gic :FSpec Un:=g165 g3t
theorem gri :FSnd prog gic:=FSnd.of fun h r hr=>FAt.of_body (s:=gic) (fo:=foS [gel]) (lo:=loL [(0,gpm)]) func147 g1k5 g1hp (by kernel_rfl) (FoSnd.cons g1fl go7 FoSnd.nil) (LoOk.snd (LoOk.cons gy0 LoOk.nil)) (Eq.trans (by kernel_rfl) hr)
def g4w(x_:List Int × List (List UInt8) × List Int × Int × Int × List (List UInt8)) :Option ((Bool) ⊕ (List Int)):=
 match x_ with
 | (l_2,names_1,t9,t10_1,t11,b)=>
 if decide (t11 < t10_1)=true then
 if inR t11 t9.length=true then
 some (t9.getD t11.toNat 0) >>=fun x0=>
 some (bif decide (x0 < 1)then true else decide (1000 < x0)) >>=fun t21=>
 some (decide (0 < t11)) >>=fun t24=>
 some (subI .i64 t11 1) >>=fun t29=>
 if(inR t29 l_2.length || (!((!t21) && t24)))=true then
 some (bif t21 then true else bif t24 then decide (x0≤l_2.getD t29.toNat 0)else false) >>=fun t34=>
 if(inR t11 names_1.length || (!(!t34)))=true then
 some (bif t34 then true else hasS b (names_1.getD t11.toNat [])) >>=fun t42=>
 if(inR t11 names_1.length || (!(!t42)))=true then
 (if(!t42)=true then g3t (names_1.getD t11.toNat [])else some false) >>=fun r=>
 if(bif t42 then true else(!r))=true then
 some (.inl false)
 else
 if inR t11 names_1.length=true then
 g4w (l_2,names_1,t9,t10_1,addI .i64 t11 1,addS b (names_1.getD t11.toNat []))
 else none
 else none
 else none
 else none
 else none
 else
 some (.inr l_2)
  partial_fixpoint
theorem g1fn :gg prog 165=true:=by kernel_rfl
theorem g1k6 :f165.body.bind (Shv.resolve prog f165.ntmps)=some (g6 prog f165):=by kernel_rfl
theorem g1hq :g7 prog f165.results.toList=some [.tmp 4]:=by kernel_rfl
def grj :Shape:=⟨[(0,.c (.hole (.slice (.int .i64)))),(1,.c (.hole (.slice .str))),(5,.c (.mp 0)),(9,.c (.hole (.slice (.int .i64)))),(10,.c (.hole (.int .i64))),(11,.c (.hole (.int .i64)))],[.set]⟩
def gjx :List Ty:=[.slice (.int .i64),.slice .str,.slice (.int .i64),.int .i64,.int .i64,.slice .str]
def gh9 :List OSpec:=[⟨.ret,⟨[(4,.c (.hole .bool))],[]⟩,[],[.bool]⟩,⟨.exit 0,⟨[(0,.c (.hole (.slice (.int .i64))))],[]⟩,[],[.slice (.int .i64)]⟩]
def g14l(F:Hs Un.D gjx→Option (OSum Un gh9)) :LSpec Un:=⟨grj,[],gjx,gh9,F⟩
def gt9 :LSpec Un:=g14l g4w
theorem g10q :LSnd prog f165.ntmps 0 (gn (g6 prog f165) 0) gt9:=fun h o ho=>g4w.partial_correctness (fun h o=>LAt (U:=Un) prog f165.ntmps 0 (gn (g6 prog f165) 0) grj gjx gh9 h o) (fun F1 HF1 h o ho=>LAt.of_round (fo:=foS [gic]) (lo:=loL []) (own:=[]) (F':=F1) (FoSnd.cons g1fm gri FoSnd.nil) (LoOk.snd LoOk.nil) HF1 (Eq.trans (by kernel_rfl) ho)) h o ho
def gid(x_:List Int × List (List UInt8)) :Option (Bool):=
 match x_ with
 | (l,names)=>
 g4w (l,names,l,(l.length:Int),0,[]) >>=fun o=>
 match o with
 | .inl o_1=>
 some o_1
 | .inr o_2=>
 some (decide ((o_2.length:Int)≤16))
def g19r(F:Hs Un.D [.slice (.int .i64),.slice .str]→Option (Hs Un.D [.bool])) :FSpec Un:=⟨165,[.c (.hole (.slice (.int .i64))),.c (.hole (.slice .str))],[],[.slice (.int .i64),.slice .str],.c (.hole .bool),[],[.bool],F⟩
def glb :FSpec Un:=g19r gid
theorem gvd :FSnd prog glb:=FSnd.of fun h r hr=>FAt.of_body (s:=glb) (fo:=foS []) (lo:=loL [(0,gt9)]) func165 g1k6 g1hq (by kernel_rfl) FoSnd.nil (LoOk.snd (LoOk.cons g10q LoOk.nil)) (Eq.trans (by kernel_rfl) hr)
def g3d(x_:List SSymbol × List SSymbol × Int × Int × List Int × List (List UInt8)) :Option (List SSymbol × List Int × List (List UInt8)):=
 match x_ with
 | (l_2,t7,t8_1,t9,b_2,b_3)=>
 if decide (t9 < t8_1)=true then
 if inR t9 t7.length=true then
 some (t7.getD t9.toNat dSSymbol) >>=fun x0=>
 some [x0.ID] >>=fun t16=>
 if room 8 (b_2++t16).length=true then
 some [x0.Name] >>=fun t21=>
 if room 16 (b_3++t21).length=true then
 g3d (l_2,t7,t8_1,addI .i64 t9 1,b_2++t16,b_3++t21)
 else none
 else none
 else none
 else
 some (l_2,b_2,b_3)
  partial_fixpoint
theorem g1o2 :gg prog 148=true:=by kernel_rfl
theorem g1k7 :f148.body.bind (Shv.resolve prog f148.ntmps)=some (g6 prog f148):=by kernel_rfl
theorem g1hr :g7 prog f148.results.toList=some [.tmp 2]:=by kernel_rfl
def glc :Shape:=⟨[(0,.c (.hole (.slice (.nm 4)))),(3,.c (.arr 0)),(4,.c (.arr 1)),(7,.c (.hole (.slice (.nm 4)))),(8,.c (.hole (.int .i64))),(9,.c (.hole (.int .i64)))],[.arr (.int .i64),.arr .str]⟩
def gen :List Ty:=[.slice (.nm 4),.slice (.nm 4),.int .i64,.int .i64,.slice (.int .i64),.slice .str]
def gct :List OSpec:=[⟨.exit 0,⟨[(0,.c (.hole (.slice (.nm 4)))),(3,.c (.arr 0)),(4,.c (.arr 1))],[.arr (.int .i64),.arr .str]⟩,[],[.slice (.nm 4),.slice (.int .i64),.slice .str]⟩]
def gy1(F:Hs Un.D gen→Option (OSum Un gct)) :LSpec Un:=⟨glc,[(.slot 3,.int .i64),(.slot 4,.str)],gen,gct,F⟩
def gmq :LSpec Un:=gy1 g3d
theorem gve :LSnd prog f148.ntmps 0 (gn (g6 prog f148) 0) gmq:=fun h o ho=>g3d.partial_correctness (fun h o=>LAt (U:=Un) prog f148.ntmps 0 (gn (g6 prog f148) 0) glc gen gct h o) (fun F1 HF1 h o ho=>LAt.of_round (fo:=foS []) (lo:=loL []) (own:=[(.slot 3,.int .i64),(.slot 4,.str)]) (F':=F1) FoSnd.nil (LoOk.snd LoOk.nil) HF1 (Eq.trans (by kernel_rfl) ho)) h o ho
def g94(l:List SSymbol) :Option (Bool):=
 g3d (l,l,(l.length:Int),0,[],[]) >>=fun o=>
 some (decide (0 < (o.1.length:Int))) >>=fun t26=>
 (if t26=true then gid (o.2.1,o.2.2)else some false) >>=fun r=>
 some (bif t26 then r else false)
def g12r(F:Hs Un.D [.slice (.nm 4)]→Option (Hs Un.D [.bool])) :FSpec Un:=⟨148,[.c (.hole (.slice (.nm 4)))],[],[.slice (.nm 4)],.c (.hole .bool),[],[.bool],F⟩
def gjy :FSpec Un:=g12r g94
theorem gzh :FSnd prog gjy:=FSnd.of fun h r hr=>FAt.of_body (s:=gjy) (fo:=foS [glb]) (lo:=loL [(0,gmq)]) func148 g1k7 g1hr (by kernel_rfl) (FoSnd.cons g1fn gvd FoSnd.nil) (LoOk.snd (LoOk.cons gve LoOk.nil)) (Eq.trans (by kernel_rfl) hr)
def gha(v:SValue) :Option (Bool):=
 g54 (SValue.eta v,(⟨0,false,0,[],0,[],[],[]⟩:SValue)) >>=fun r=>
 some r
theorem g1o3 :gg prog 166=true:=by kernel_rfl
theorem g1k8 :f166.body.bind (Shv.resolve prog f166.ntmps)=some (g6 prog f166):=by kernel_rfl
theorem g1hs :g7 prog f166.results.toList=some [.tmp 2]:=by kernel_rfl
def g166(F:Hs Un.D [.nm 1]→Option (Hs Un.D [.bool])) :FSpec Un:=⟨166,[.row 1],[],[.nm 1],.c (.hole .bool),[],[.bool],F⟩
def gne :FSpec Un:=g166 gha
theorem g12s :FSnd prog gne:=FSnd.of fun h r hr=>FAt.of_body (s:=gne) (fo:=foS [gc1]) (lo:=loL []) func166 g1k8 g1hs (by kernel_rfl) (FoSnd.cons g19p gt8 FoSnd.nil) (LoOk.snd LoOk.nil) (Eq.trans (by kernel_rfl) hr)
def g30(x_:List SMember × Int × Int × SType × List Int × List (List UInt8)) :Option ((Bool) ⊕ (SType × List Int × List (List UInt8))):=
 match x_ with
 | (t8,t9_1,t10,b_3,b_4,b_5)=>
 if decide (t10 < t9_1)=true then
 if inR t10 t8.length=true then
 some (t8.getD t10.toNat dSMember) >>=fun x0=>
 some [x0.ID] >>=fun t17=>
 if room 8 (b_4++t17).length=true then
 some [x0.Name] >>=fun t22=>
 if room 16 (b_5++t22).length=true then
 some (bif bif decide (b_3.Kind=6)then bif x0.Critical then true else x0.HasDefault else false then true else bif x0.Critical then x0.HasDefault else false) >>=fun t42=>
 some (!x0.HasDefault) >>=fun t46=>
 (if((!t42) && t46)=true then gha (SValue.eta x0.Default)else some false) >>=fun r_1=>
 if(bif t42 then true else bif t46 then(!r_1)else false)=true then
 some (.inl false)
 else
 g30 (t8,t9_1,addI .i64 t10 1,b_3,b_4++t17,b_5++t22)
 else none
 else none
 else none
 else
 some (.inr (b_3,b_4,b_5))
  partial_fixpoint
theorem g1o4 :gg prog 149=true:=by kernel_rfl
theorem g1k9 :f149.body.bind (Shv.resolve prog f149.ntmps)=some (g6 prog f149):=by kernel_rfl
theorem g1ht :g7 prog f149.results.toList=some [.tmp 2]:=by kernel_rfl
def gld :Shape:=⟨[(1,.c (.ptr 0 0)),(3,.c (.arr 1)),(4,.c (.arr 2)),(8,.c (.hole (.slice (.nm 0)))),(9,.c (.hole (.int .i64))),(10,.c (.hole (.int .i64)))],[.brow 3,.arr (.int .i64),.arr .str]⟩
def geo :List Ty:=[.slice (.nm 0),.int .i64,.int .i64,.nm 3,.slice (.int .i64),.slice .str]
def gcu :List OSpec:=[⟨.ret,⟨[(2,.c (.hole .bool))],[]⟩,[],[.bool]⟩,⟨.exit 0,⟨[(1,.c (.ptr 0 0)),(3,.c (.arr 1)),(4,.c (.arr 2))],[.brow 3,.arr (.int .i64),.arr .str]⟩,[],[.nm 3,.slice (.int .i64),.slice .str]⟩]
def gy2(F:Hs Un.D geo→Option (OSum Un gcu)) :LSpec Un:=⟨gld,[(.slot 3,.int .i64),(.slot 4,.str)],geo,gcu,F⟩
def gmr :LSpec Un:=gy2 g30
theorem gvf :LSnd prog f149.ntmps 0 (gn (g6 prog f149) 0) gmr:=fun h o ho=>g30.partial_correctness (fun h o=>LAt (U:=Un) prog f149.ntmps 0 (gn (g6 prog f149) 0) gld geo gcu h o) (fun F1 HF1 h o ho=>LAt.of_round (fo:=foS [gne]) (lo:=loL []) (own:=[(.slot 3,.int .i64),(.slot 4,.str)]) (F':=F1) (FoSnd.cons g1o3 g12s FoSnd.nil) (LoOk.snd LoOk.nil) HF1 (Eq.trans (by kernel_rfl) ho)) h o ho
def g7j(t:SType) :Option (Bool):=
 g30 (t.Members,(t.Members.length:Int),0,t,[],[]) >>=fun o=>
 match o with
 | .inl o_1=>
 some o_1
 | .inr o_2=>
 some (bif decide (o_2.1.Kind=5)then true else decide (0 < (o_2.2.1.length:Int))) >>=fun t62=>
 (if t62=true then gid (o_2.2.1,o_2.2.2)else some false) >>=fun r=>
 some (bif t62 then r else false)
def g12t(F:Hs Un.D [.nm 3]→Option (Hs Un.D [.bool])) :FSpec Un:=⟨149,[.row 3],[],[.nm 3],.c (.hole .bool),[],[.bool],F⟩
def gjz :FSpec Un:=g12t g7j
theorem gzi :FSnd prog gjz:=FSnd.of fun h r hr=>FAt.of_body (s:=gjz) (fo:=foS [glb]) (lo:=loL [(0,gmr)]) func149 g1k9 g1ht (by kernel_rfl) (FoSnd.cons g1fn gvd FoSnd.nil) (LoOk.snd (LoOk.cons gvf LoOk.nil)) (Eq.trans (by kernel_rfl) hr)
def g1o(t:SType) :Option (Bool):=
 if decide (t.Kind=1)=true then
 g1v ((⟨0,t.Name,t.Low,t.High,t.Max,t.Symbols,t.Members,t.Key,t.Elem,t.Open⟩:SType),(⟨0,[],0,0,0,[],[],0,0,false⟩:SType)) >>=fun r=>
 some r
 else
 if decide (t.Kind=2)=true then
 some (decide (t.Low≤t.High)) >>=fun t17=>
 (if t17=true then g1v ((⟨0,t.Name,0,0,t.Max,t.Symbols,t.Members,t.Key,t.Elem,t.Open⟩:SType),(⟨0,[],0,0,0,[],[],0,0,false⟩:SType))else some false) >>=fun r_1=>
 some (bif t17 then r_1 else false)
 else
 if decide (t.Kind=3)=true then
 some (bif decide (0≤t.Max)then decide (t.Max≤200)else false) >>=fun t29=>
 (if t29=true then g1v ((⟨0,t.Name,t.Low,t.High,0,t.Symbols,t.Members,t.Key,t.Elem,t.Open⟩:SType),(⟨0,[],0,0,0,[],[],0,0,false⟩:SType))else some false) >>=fun r_2=>
 some (bif t29 then r_2 else false)
 else
 if decide (t.Kind=4)=true then
 g3t t.Name >>=fun r_3=>
 (if r_3=true then g94 t.Symbols else some false) >>=fun r_4=>
 some (bif r_3 then r_4 else false) >>=fun t40=>
 (if t40=true then g1v ((⟨0,[],t.Low,t.High,t.Max,[],t.Members,t.Key,t.Elem,false⟩:SType),(⟨0,[],0,0,0,[],[],0,0,false⟩:SType))else some false) >>=fun r_5=>
 some (bif t40 then r_5 else false)
 else
 some (decide (t.Kind=5)) >>=fun t45=>
 if t45=true then
 if t45=true then
 g3t t.Name >>=fun r_6=>
 (if r_6=true then g7j t else some false) >>=fun r_7=>
 some (bif r_6 then r_7 else false) >>=fun t53=>
 (if t53=true then g1v ((⟨0,[],t.Low,t.High,t.Max,t.Symbols,[],t.Key,t.Elem,bif t.Open then decide (t.Kind=5)else false⟩:SType),(⟨0,[],0,0,0,[],[],0,0,false⟩:SType))else some false) >>=fun r_8=>
 some (bif t53 then r_8 else false)
 else
 some (decide (t.Kind=7)) >>=fun t65=>
 if t65=true then
 if t65=true then
 some (bif decide (0≤t.Max)then decide (t.Max≤50)else false) >>=fun t74=>
 if decide (t.Kind=8)=true then
 (if t74=true then g1v ((⟨0,t.Name,t.Low,t.High,0,t.Symbols,t.Members,0,0,t.Open⟩:SType),(⟨0,[],0,0,0,[],[],0,0,false⟩:SType))else some false) >>=fun r_9=>
 some (bif t74 then r_9 else false)
 else
 (if t74=true then g1v ((⟨0,t.Name,t.Low,t.High,0,t.Symbols,t.Members,t.Key,0,t.Open⟩:SType),(⟨0,[],0,0,0,[],[],0,0,false⟩:SType))else some false) >>=fun r_10=>
 some (bif t74 then r_10 else false)
 else
 if decide (t.Kind=9)=true then
 g1v ((⟨0,t.Name,t.Low,t.High,t.Max,t.Symbols,t.Members,t.Key,0,t.Open⟩:SType),(⟨0,[],0,0,0,[],[],0,0,false⟩:SType)) >>=fun r_11=>
 some r_11
 else
 some false
 else
 if decide (t.Kind=8)=true then
 some (bif decide (0≤t.Max)then decide (t.Max≤50)else false) >>=fun t74_1=>
 if decide (t.Kind=8)=true then
 (if t74_1=true then g1v ((⟨0,t.Name,t.Low,t.High,0,t.Symbols,t.Members,0,0,t.Open⟩:SType),(⟨0,[],0,0,0,[],[],0,0,false⟩:SType))else some false) >>=fun r_12=>
 some (bif t74_1 then r_12 else false)
 else
 (if t74_1=true then g1v ((⟨0,t.Name,t.Low,t.High,0,t.Symbols,t.Members,t.Key,0,t.Open⟩:SType),(⟨0,[],0,0,0,[],[],0,0,false⟩:SType))else some false) >>=fun r_13=>
 some (bif t74_1 then r_13 else false)
 else
 if decide (t.Kind=9)=true then
 g1v ((⟨0,t.Name,t.Low,t.High,t.Max,t.Symbols,t.Members,t.Key,0,t.Open⟩:SType),(⟨0,[],0,0,0,[],[],0,0,false⟩:SType)) >>=fun r_14=>
 some r_14
 else
 some false
 else
 if decide (t.Kind=6)=true then
 g3t t.Name >>=fun r_15=>
 (if r_15=true then g7j t else some false) >>=fun r_16=>
 some (bif r_15 then r_16 else false) >>=fun t53_1=>
 (if t53_1=true then g1v ((⟨0,[],t.Low,t.High,t.Max,t.Symbols,[],t.Key,t.Elem,bif t.Open then decide (t.Kind=5)else false⟩:SType),(⟨0,[],0,0,0,[],[],0,0,false⟩:SType))else some false) >>=fun r_17=>
 some (bif t53_1 then r_17 else false)
 else
 some (decide (t.Kind=7)) >>=fun t65_1=>
 if t65_1=true then
 if t65_1=true then
 some (bif decide (0≤t.Max)then decide (t.Max≤50)else false) >>=fun t74_2=>
 if decide (t.Kind=8)=true then
 (if t74_2=true then g1v ((⟨0,t.Name,t.Low,t.High,0,t.Symbols,t.Members,0,0,t.Open⟩:SType),(⟨0,[],0,0,0,[],[],0,0,false⟩:SType))else some false) >>=fun r_18=>
 some (bif t74_2 then r_18 else false)
 else
 (if t74_2=true then g1v ((⟨0,t.Name,t.Low,t.High,0,t.Symbols,t.Members,t.Key,0,t.Open⟩:SType),(⟨0,[],0,0,0,[],[],0,0,false⟩:SType))else some false) >>=fun r_19=>
 some (bif t74_2 then r_19 else false)
 else
 if decide (t.Kind=9)=true then
 g1v ((⟨0,t.Name,t.Low,t.High,t.Max,t.Symbols,t.Members,t.Key,0,t.Open⟩:SType),(⟨0,[],0,0,0,[],[],0,0,false⟩:SType)) >>=fun r_20=>
 some r_20
 else
 some false
 else
 if decide (t.Kind=8)=true then
 some (bif decide (0≤t.Max)then decide (t.Max≤50)else false) >>=fun t74_3=>
 if decide (t.Kind=8)=true then
 (if t74_3=true then g1v ((⟨0,t.Name,t.Low,t.High,0,t.Symbols,t.Members,0,0,t.Open⟩:SType),(⟨0,[],0,0,0,[],[],0,0,false⟩:SType))else some false) >>=fun r_21=>
 some (bif t74_3 then r_21 else false)
 else
 (if t74_3=true then g1v ((⟨0,t.Name,t.Low,t.High,0,t.Symbols,t.Members,t.Key,0,t.Open⟩:SType),(⟨0,[],0,0,0,[],[],0,0,false⟩:SType))else some false) >>=fun r_22=>
 some (bif t74_3 then r_22 else false)
 else
 if decide (t.Kind=9)=true then
 g1v ((⟨0,t.Name,t.Low,t.High,t.Max,t.Symbols,t.Members,t.Key,0,t.Open⟩:SType),(⟨0,[],0,0,0,[],[],0,0,false⟩:SType)) >>=fun r_23=>
 some r_23
 else
 some false
theorem g1o5 :gg prog 120=true:=by kernel_rfl
theorem g1ka :f120.body.bind (Shv.resolve prog f120.ntmps)=some (g6 prog f120):=by kernel_rfl
theorem g1hu :g7 prog f120.results.toList=some [.tmp 2]:=by kernel_rfl
def g186(F:Hs Un.D [.nm 3]→Option (Hs Un.D [.bool])) :FSpec Un:=⟨120,[.row 3],[],[.nm 3],.c (.hole .bool),[],[.bool],F⟩
def gp1 :FSpec Un:=g186 g1o
theorem g14m :FSnd prog gp1:=FSnd.of fun h r hr=>FAt.of_body (s:=gp1) (fo:=foS [gnd,gic,gjy,gjz]) (lo:=loL []) func120 g1ka g1hu (by kernel_rfl) (FoSnd.cons g1o0 g12p (FoSnd.cons g1fm gri (FoSnd.cons g1o2 gzh (FoSnd.cons g1o4 gzi FoSnd.nil)))) (LoOk.snd LoOk.nil) (Eq.trans (by kernel_rfl) hr)
def g4y(x_:List SMember × Int × Int × SType × List Int) :Option (SType × List Int):=
 match x_ with
 | (t7,t8_1,t9,b_2,b_3)=>
 if decide (t9 < t8_1)=true then
 if inR t9 t7.length=true then
 some [(t7.getD t9.toNat dSMember).Type_] >>=fun t16=>
 if room 8 (b_3++t16).length=true then
 g4y (t7,t8_1,addI .i64 t9 1,b_2,b_3++t16)
 else none
 else none
 else
 some (b_2,b_3)
  partial_fixpoint
theorem g1o6 :gg prog 121=true:=by kernel_rfl
theorem g1kb :f121.body.bind (Shv.resolve prog f121.ntmps)=some (g6 prog f121):=by kernel_rfl
theorem g1hv :g7 prog f121.results.toList=some [.tmp 2]:=by kernel_rfl
def gpn :Shape:=⟨[(1,.c (.ptr 0 0)),(3,.c (.arr 1)),(7,.c (.hole (.slice (.nm 0)))),(8,.c (.hole (.int .i64))),(9,.c (.hole (.int .i64)))],[.brow 3,.arr (.int .i64)]⟩
def gip :List Ty:=[.slice (.nm 0),.int .i64,.int .i64,.nm 3,.slice (.int .i64)]
def gfz :List OSpec:=[⟨.exit 0,⟨[(1,.c (.ptr 0 0)),(3,.c (.arr 1))],[.brow 3,.arr (.int .i64)]⟩,[],[.nm 3,.slice (.int .i64)]⟩]
def g12u(F:Hs Un.D gip→Option (OSum Un gfz)) :LSpec Un:=⟨gpn,[(.slot 3,.int .i64)],gip,gfz,F⟩
def grk :LSpec Un:=g12u g4y
theorem gzj :LSnd prog f121.ntmps 0 (gn (g6 prog f121) 0) grk:=fun h o ho=>g4y.partial_correctness (fun h o=>LAt (U:=Un) prog f121.ntmps 0 (gn (g6 prog f121) 0) gpn gip gfz h o) (fun F1 HF1 h o ho=>LAt.of_round (fo:=foS []) (lo:=loL []) (own:=[(.slot 3,.int .i64)]) (F':=F1) FoSnd.nil (LoOk.snd LoOk.nil) HF1 (Eq.trans (by kernel_rfl) ho)) h o ho
def gj5(t:SType) :Option (List Int):=
 g4y (t.Members,(t.Members.length:Int),0,t,[]) >>=fun o=>
 if decide (o.1.Kind=8)=true then
 some [o.1.Key] >>=fun t25=>
 if room 8 (o.2++t25).length=true then
 some (o.2++t25) >>=fun l=>
 if decide (7≤o.1.Kind)=true then
 some [o.1.Elem] >>=fun t33=>
 if room 8 (l++t33).length=true then
 some (l++t33)
 else none
 else
 some l
 else none
 else
 if decide (7≤o.1.Kind)=true then
 some [o.1.Elem] >>=fun t33_1=>
 if room 8 (o.2++t33_1).length=true then
 some (o.2++t33_1)
 else none
 else
 some o.2
def g187(F:Hs Un.D [.nm 3]→Option (Hs Un.D [.slice (.int .i64)])) :FSpec Un:=⟨121,[.row 3],[],[.nm 3],.c (.hole (.slice (.int .i64))),[],[.slice (.int .i64)],F⟩
def gp2 :FSpec Un:=g187 gj5
theorem g14n :FSnd prog gp2:=FSnd.of fun h r hr=>FAt.of_body (s:=gp2) (fo:=foS []) (lo:=loL [(0,grk)]) func121 g1kb g1hv (by kernel_rfl) FoSnd.nil (LoOk.snd (LoOk.cons gzj LoOk.nil)) (Eq.trans (by kernel_rfl) hr)
def g31(x_:List SType × Int × Int × List Int × Int × Int × List SType × List (List UInt8) × Int × List UInt8 × Int × Int × Int × List SSymbol × List SMember × Int × Int × Bool) :Option ((Int) ⊕ (List SType × Int × Int × List SType × List (List UInt8) × Int × List UInt8 × Int × Int × Int × List SSymbol × List SMember × Int × Int × Bool)):=
 match x_ with
 | (t14_2,t15_3,t16_2,t38,t39_1,t40,b_14,b_15,b_16,b_17,b_18,b_19,b_20,b_21,b_22,b_23,b_24,b_25)=>
 if decide (t40 < t39_1)=true then
 if inR t40 t38.length=true then
 some (t38.getD t40.toNat 0) >>=fun x0_3=>
 if(bif decide (x0_3 < 0)then true else decide ((b_14.length:Int)≤x0_3))=true then
 some (.inl 4)
 else
 g31 (t14_2,t15_3,t16_2,t38,t39_1,addI .i64 t40 1,b_14,b_15,b_16,b_17,b_18,b_19,b_20,b_21,b_22,b_23,b_24,b_25)
 else none
 else
 some (.inr (t14_2,t15_3,t16_2,b_14,b_15,b_16,b_17,b_18,b_19,b_20,b_21,b_22,b_23,b_24,b_25))
  partial_fixpoint
theorem F79_b :gg prog 79=true:=by kernel_rfl
theorem g1o7 :f79.body.bind (Shv.resolve prog f79.ntmps)=some (g6 prog f79):=by kernel_rfl
theorem g1kc :g7 prog f79.results.toList=some [.tmp 2]:=by kernel_rfl
def gle :Shape:=⟨[(1,.c (.ptr 0 0)),(3,.c (.mp 1)),(5,.c (.ptr 2 0)),(14,.c (.hole (.slice (.nm 3)))),(15,.c (.hole (.int .i64))),(16,.c (.hole (.int .i64))),(38,.c (.hole (.slice (.int .i64)))),(39,.c (.hole (.int .i64))),(40,.c (.hole (.int .i64)))],[.box [.hole (.slice (.nm 3))],.set,.box [.hole (.int .i64),.hole .str,.hole (.int .i64),.hole (.int .i64),.hole (.int .i64),.hole (.slice (.nm 4)),.hole (.slice (.nm 0)),.hole (.int .i64),.hole (.int .i64),.hole .bool]]⟩
def gep :List Ty:=[.slice (.nm 3),.int .i64,.int .i64,.slice (.int .i64),.int .i64,.int .i64,.slice (.nm 3),.slice .str,.int .i64,.str,.int .i64,.int .i64,.int .i64,.slice (.nm 4),.slice (.nm 0),.int .i64,.int .i64,.bool]
def gcv :List OSpec:=[⟨.ret,⟨[(2,.c (.hole (.int .i64)))],[]⟩,[],[.int .i64]⟩,⟨.exit 2,⟨[(1,.c (.ptr 0 0)),(3,.c (.mp 1)),(5,.c (.ptr 2 0)),(14,.c (.hole (.slice (.nm 3)))),(15,.c (.hole (.int .i64))),(16,.c (.hole (.int .i64)))],[.box [.hole (.slice (.nm 3))],.set,.box [.hole (.int .i64),.hole .str,.hole (.int .i64),.hole (.int .i64),.hole (.int .i64),.hole (.slice (.nm 4)),.hole (.slice (.nm 0)),.hole (.int .i64),.hole (.int .i64),.hole .bool]]⟩,[],[.slice (.nm 3),.int .i64,.int .i64,.slice (.nm 3),.slice .str,.int .i64,.str,.int .i64,.int .i64,.int .i64,.slice (.nm 4),.slice (.nm 0),.int .i64,.int .i64,.bool]⟩]
def gy3(F:Hs Un.D gep→Option (OSum Un gcv)) :LSpec Un:=⟨gle,[],gep,gcv,F⟩
def gms :LSpec Un:=gy3 g31
theorem gvg :LSnd prog f79.ntmps 0 (gn (gn (g6 prog f79) 0) 0) gms:=fun h o ho=>g31.partial_correctness (fun h o=>LAt (U:=Un) prog f79.ntmps 0 (gn (gn (g6 prog f79) 0) 0) gle gep gcv h o) (fun F1 HF1 h o ho=>LAt.of_round (fo:=foS []) (lo:=loL []) (own:=[]) (F':=F1) FoSnd.nil (LoOk.snd LoOk.nil) HF1 (Eq.trans (by kernel_rfl) ho)) h o ho
end
section
open Go Go.Proofs.YthnmepafpikaiaaGreat.Shv
open Tryz
set_option maxRecDepth 100000
def g4e(x_:List SType × Int × Int × List SType × List (List UInt8)) :Option ((Int) ⊕ (Unit)):=
 match x_ with
 | (t14,t15_1,t16,b,b_1)=>
 if decide (t16 < t15_1)=true then
 if inR t16 t14.length=true then
 some (t14.getD t16.toNat dSType) >>=fun x0=>
 g1o x0 >>=fun r=>
 if(bif (!r)then true else bif (!(decide (x0.Name=[])))then hasS b_1 x0.Name else false)=true then
 some (.inl 1)
 else
 gj5 x0 >>=fun r_1=>
 g31 (t14,t15_1,t16,r_1,(r_1.length:Int),0,b,addS b_1 x0.Name,x0.Kind,x0.Name,x0.Low,x0.High,x0.Max,x0.Symbols,x0.Members,x0.Key,x0.Elem,x0.Open) >>=fun o_3=>
 match o_3 with
 | .inl o_4=>
 some (.inl o_4)
 | .inr o_5=>
 some (decide (o_5.2.2.2.2.2.1=8)) >>=fun t56=>
 if(inR o_5.2.2.2.2.2.2.2.2.2.2.2.2.1 o_5.2.2.2.1.length || (!t56))=true then
 some (decide ((o_5.2.2.2.1.getD o_5.2.2.2.2.2.2.2.2.2.2.2.2.1.toNat dSType).Kind < 1)) >>=fun t65=>
 if(inR o_5.2.2.2.2.2.2.2.2.2.2.2.2.1 o_5.2.2.2.1.length || (!(t56 && (!t65))))=true then
 if(bif t56 then bif t65 then true else decide (4 < (o_5.2.2.2.1.getD o_5.2.2.2.2.2.2.2.2.2.2.2.2.1.toNat dSType).Kind)else false)=true then
 some (.inl 1)
 else
 g4e (o_5.1,o_5.2.1,addI .i64 o_5.2.2.1 1,o_5.2.2.2.1,o_5.2.2.2.2.1)
 else none
 else none
 else none
 else
 some (.inr ())
  partial_fixpoint
def go9 :Shape:=⟨[(1,.c (.ptr 0 0)),(3,.c (.mp 1)),(14,.c (.hole (.slice (.nm 3)))),(15,.c (.hole (.int .i64))),(16,.c (.hole (.int .i64)))],[.box [.hole (.slice (.nm 3))],.set]⟩
def ghb :List Ty:=[.slice (.nm 3),.int .i64,.int .i64,.slice (.nm 3),.slice .str]
def ger :List OSpec:=[⟨.ret,⟨[(2,.c (.hole (.int .i64)))],[]⟩,[],[.int .i64]⟩,⟨.exit 0,⟨[],[]⟩,[],[]⟩]
def g10r(F:Hs Un.D ghb→Option (OSum Un ger)) :LSpec Un:=⟨go9,[],ghb,ger,F⟩
def gpo :LSpec Un:=g10r g4e
theorem gy4 :LSnd prog f79.ntmps 0 (gn (g6 prog f79) 0) gpo:=fun h o ho=>g4e.partial_correctness (fun h o=>LAt (U:=Un) prog f79.ntmps 0 (gn (g6 prog f79) 0) go9 ghb ger h o) (fun F1 HF1 h o ho=>LAt.of_round (fo:=foS [gp1,gp2]) (lo:=loL [(0,gms)]) (own:=[]) (F':=F1) (FoSnd.cons g1o5 g14m (FoSnd.cons g1o6 g14n FoSnd.nil)) (LoOk.snd (LoOk.cons gvg LoOk.nil)) HF1 (Eq.trans (by kernel_rfl) ho)) h o ho
def gba(s:SSchema) :Option (Int):=
 if decide (32 < (s.Types.length:Int))=true then
 some 3
 else
 g4e (s.Types,(s.Types.length:Int),0,s.Types,[]) >>=fun o=>
 match o with
 | .inl o_1=>
 some o_1
 | .inr o_2=>
 some 0
def g167(F:Hs Un.D [.nm 5]→Option (Hs Un.D [.int .i64])) :FSpec Un:=⟨79,[.row 5],[],[.nm 5],.c (.hole (.int .i64)),[],[.int .i64],F⟩
def gnf :FSpec Un:=g167 gba
theorem g12v :FSnd prog gnf:=FSnd.of fun h r hr=>FAt.of_body (s:=gnf) (fo:=foS []) (lo:=loL [(0,gpo)]) func79 g1o7 g1kc (by kernel_rfl) FoSnd.nil (LoOk.snd (LoOk.cons gy4 LoOk.nil)) (Eq.trans (by kernel_rfl) hr)
def gb1(x_:SSchema × Int) :Option (Int):=
 match x_ with
 | (s,t)=>
 gba (⟨s.Types⟩:SSchema) >>=fun r=>
 if(!(decide (r=0)))=true then
 some r
 else
 if(bif decide (t < 0)then true else decide ((s.Types.length:Int)≤t))=true then
 some 4
 else
 some 0
theorem F52_b :gg prog 52=true:=by kernel_rfl
theorem g1o8 :f52.body.bind (Shv.resolve prog f52.ntmps)=some (g6 prog f52):=by kernel_rfl
theorem g1kd :g7 prog f52.results.toList=some [.tmp 4]:=by kernel_rfl
def g12w(F:Hs Un.D [.nm 5,.int .i64]→Option (Hs Un.D [.int .i64])) :FSpec Un:=⟨52,[.row 5,.c (.hole (.int .i64))],[],[.nm 5,.int .i64],.c (.hole (.int .i64)),[],[.int .i64],F⟩
def ges :FSpec Un:=g12w gb1
theorem goa :FSnd prog ges:=FSnd.of fun h r hr=>FAt.of_body (s:=ges) (fo:=foS [gnf]) (lo:=loL []) func52 g1o8 g1kd (by kernel_rfl) (FoSnd.cons F79_b g12v FoSnd.nil) (LoOk.snd LoOk.nil) (Eq.trans (by kernel_rfl) hr)
def glf(v:SValue) :Option (SValue):=
 if decide (v.Kind=1)=true then
 some (⟨v.Kind,v.Bool_,0,[],0,[],[],[]⟩:SValue)
 else
 if decide (v.Kind=2)=true then
 some (⟨v.Kind,false,v.Int_,[],0,[],[],[]⟩:SValue)
 else
 if decide (v.Kind=3)=true then
 some (⟨v.Kind,false,0,v.Str,0,[],[],[]⟩:SValue)
 else
 if decide (v.Kind=4)=true then
 some (⟨v.Kind,false,0,[],v.ID,[],[],[]⟩:SValue)
 else
 if decide (v.Kind=5)=true then
 some (⟨v.Kind,false,0,[],0,[],v.Items,v.Rest⟩:SValue)
 else
 if decide (v.Kind=6)=true then
 some (⟨v.Kind,false,0,[],v.ID,[],v.Items,v.Rest⟩:SValue)
 else
 if decide (v.Kind=8)=true then
 some (⟨v.Kind,false,0,[],0,v.Keys,v.Items,[]⟩:SValue)
 else
 some (decide (v.Kind=7)) >>=fun t57=>
 if t57=true then
 if t57=true then
 some (⟨v.Kind,false,0,[],0,[],v.Items,[]⟩:SValue)
 else
 some (⟨v.Kind,false,0,[],0,[],[],[]⟩:SValue)
 else
 if decide (v.Kind=9)=true then
 some (⟨v.Kind,false,0,[],0,[],v.Items,[]⟩:SValue)
 else
 some (⟨v.Kind,false,0,[],0,[],[],[]⟩:SValue)
theorem g1o9 :gg prog 171=true:=by kernel_rfl
theorem g1ke :f171.body.bind (Shv.resolve prog f171.ntmps)=some (g6 prog f171):=by kernel_rfl
theorem g1hw :g7 prog f171.results.toList=some [.cell 2 true 8]:=by kernel_rfl
def g19s(F:Hs Un.D [.nm 1]→Option (Hs Un.D [.nm 1])) :FSpec Un:=⟨171,[.row 1],[],[.nm 1],.row 1,[],[.nm 1],F⟩
def grl :FSpec Un:=g19s glf
theorem g168 :FSnd prog grl:=FSnd.of fun h r hr=>FAt.of_body (s:=grl) (fo:=foS []) (lo:=loL []) func171 g1ke g1hw (by kernel_rfl) FoSnd.nil (LoOk.snd LoOk.nil) (Eq.trans (by kernel_rfl) hr)
def ghc(v:SValue) :Option (Bool):=
 glf (SValue.eta v) >>=fun r=>
 some (bif bif bif bif bif bif eqB v.Bool_ r.Bool_ then decide (v.Int_=r.Int_)else false then decide (v.Str=r.Str)else false then decide (v.ID=r.ID)else false then decide ((v.Keys.length:Int)=(r.Keys.length:Int))else false then decide ((v.Items.length:Int)=(r.Items.length:Int))else false then decide ((v.Rest.length:Int)=(r.Rest.length:Int))else false)
theorem g1oa :gg prog 155=true:=by kernel_rfl
theorem g1kf :f155.body.bind (Shv.resolve prog f155.ntmps)=some (g6 prog f155):=by kernel_rfl
theorem g1hx :g7 prog f155.results.toList=some [.tmp 2]:=by kernel_rfl
def g169(F:Hs Un.D [.nm 1]→Option (Hs Un.D [.bool])) :FSpec Un:=⟨155,[.row 1],[],[.nm 1],.c (.hole .bool),[],[.bool],F⟩
def gng :FSpec Un:=g169 ghc
theorem g12x :FSnd prog gng:=FSnd.of fun h r hr=>FAt.of_body (s:=gng) (fo:=foS [grl]) (lo:=loL []) func155 g1kf g1hx (by kernel_rfl) (FoSnd.cons g1o9 g168 FoSnd.nil) (LoOk.snd LoOk.nil) (Eq.trans (by kernel_rfl) hr)
def ggb(x_:SSymbol × Int) :Option (Bool × Int):=
 match x_ with
 | (x0,b)=>
 some (decide (x0.ID=b),b)
theorem g1ob :gg prog 153=true:=by kernel_rfl
theorem g1kg :f153.body.bind (Shv.resolve prog f153.ntmps)=some (g6 prog f153):=by kernel_rfl
theorem g1hy :g7 prog f153.results.toList=some [.tmp 3]:=by kernel_rfl
def g10s(F:Hs Un.D [.nm 4,.int .i64]→Option (Hs Un.D [.bool,.int .i64])) :FSpec Un:=⟨153,[.row 4,.c (.ptr 0 0)],[.box [.hole (.int .i64)]],[.nm 4,.int .i64],.c (.hole .bool),[.box [.hole (.int .i64)]],[.bool,.int .i64],F⟩
def giq :FSpec Un:=g10s ggb
theorem gy5 :FSnd prog giq:=FSnd.of fun h r hr=>FAt.of_body (s:=giq) (fo:=foS []) (lo:=loL []) func153 g1kg g1hy (by kernel_rfl) FoSnd.nil (LoOk.snd LoOk.nil) (Eq.trans (by kernel_rfl) hr)
def gv(x_:List SSymbol × Int × Int × Int) :Option ((Int × Int) ⊕ (Int)):=
 match x_ with
 | (s_1,t7_1,t8,b_3)=>
 if decide (t8 < t7_1)=true then
 if inR t8 s_1.length=true then
 ggb (s_1.getD t8.toNat dSSymbol,b_3) >>=fun r=>
 if r.1=true then
 some (.inl (t8,r.2))
 else
 gv (s_1,t7_1,addI .i64 t8 1,r.2)
 else none
 else
 some (.inr b_3)
  partial_fixpoint
theorem g1oc :gg prog 152=true:=by kernel_rfl
theorem g1kh :f152.body.bind (Shv.resolve prog f152.ntmps)=some (g6 prog f152):=by kernel_rfl
theorem g1hz :g7 prog f152.results.toList=some [.tmp 4]:=by kernel_rfl
def g78 :Shape:=⟨[(0,.c (.hole (.slice (.nm 4)))),(1,.c (.fn 153 [0])),(7,.c (.hole (.int .i64))),(8,.c (.hole (.int .i64)))],[.box [.hole (.int .i64)]]⟩
def g4r :List Ty:=[.slice (.nm 4),.int .i64,.int .i64,.int .i64]
def g4f :List OSpec:=[⟨.ret,⟨[(4,.c (.hole (.int .i64)))],[.box [.hole (.int .i64)]]⟩,[],[.int .i64,.int .i64]⟩,⟨.exit 0,⟨[],[.box [.hole (.int .i64)]]⟩,[],[.int .i64]⟩]
def gdj(F:Hs Un.D g4r→Option (OSum Un g4f)) :LSpec Un:=⟨g78,[],g4r,g4f,F⟩
def g7k :LSpec Un:=gdj gv
theorem gcw :LSnd prog f152.ntmps 1 (gn (g6 prog f152) 0) g7k:=fun h o ho=>gv.partial_correctness (fun h o=>LAt (U:=Un) prog f152.ntmps 1 (gn (g6 prog f152) 0) g78 g4r g4f h o) (fun F1 HF1 h o ho=>LAt.of_round (fo:=foS [giq]) (lo:=loL []) (own:=[]) (F':=F1) (FoSnd.cons g1ob gy5 FoSnd.nil) (LoOk.snd LoOk.nil) HF1 (Eq.trans (by kernel_rfl) ho)) h o ho
def g44(x_:List SSymbol × Int) :Option (Int × Int):=
 match x_ with
 | (s,b)=>
 gv (s,(s.length:Int),0,b) >>=fun o=>
 match o with
 | .inl o_1=>
 some (o_1.1,o_1.2)
 | .inr o_2=>
 some ((-1),o_2)
def gfe(F:Hs Un.D [.slice (.nm 4),.int .i64]→Option (Hs Un.D [.int .i64,.int .i64])) :FSpec Un:=⟨152,[.c (.hole (.slice (.nm 4))),.c (.fn 153 [0])],[.box [.hole (.int .i64)]],[.slice (.nm 4),.int .i64],.c (.hole (.int .i64)),[.box [.hole (.int .i64)]],[.int .i64,.int .i64],F⟩
def g5f :FSpec Un:=gfe g44
theorem ge8 :FSnd prog g5f:=FSnd.of fun h r hr=>FAt.of_body (s:=g5f) (fo:=foS []) (lo:=loL [(0,g7k)]) func152 g1kh g1hz (by kernel_rfl) FoSnd.nil (LoOk.snd (LoOk.cons gcw LoOk.nil)) (Eq.trans (by kernel_rfl) hr)
def gc2(x_:SType × Int) :Option (Int × Bool):=
 match x_ with
 | (t,id)=>
 g44 (t.Symbols,id) >>=fun r=>
 some (maxI r.1 0,decide (0≤r.1))
theorem g1fo :gg prog 129=true:=by kernel_rfl
theorem g1ki :f129.body.bind (Shv.resolve prog f129.ntmps)=some (g6 prog f129):=by kernel_rfl
theorem g1i0 :g7 prog f129.results.toList=some [.tmp 4,.tmp 5]:=by kernel_rfl
def g14o(F:Hs Un.D [.nm 3,.int .i64]→Option (Hs Un.D [.int .i64,.bool])) :FSpec Un:=⟨129,[.row 3,.c (.hole (.int .i64))],[],[.nm 3,.int .i64],.tup [.c (.hole (.int .i64)),.c (.hole .bool)],[],[.int .i64,.bool],F⟩
def ggc :FSpec Un:=g14o gc2
theorem gpp :FSnd prog ggc:=FSnd.of fun h r hr=>FAt.of_body (s:=ggc) (fo:=foS [g5f]) (lo:=loL []) func129 g1ki g1i0 (by kernel_rfl) (FoSnd.cons g1oc ge8 FoSnd.nil) (LoOk.snd LoOk.nil) (Eq.trans (by kernel_rfl) hr)
def gie(id:Int) :Option (Bool):=
 some (bif decide (1≤id)then decide (id≤1000)else false)
theorem g1fp :gg prog 156=true:=by kernel_rfl
theorem g1kj :f156.body.bind (Shv.resolve prog f156.ntmps)=some (g6 prog f156):=by kernel_rfl
theorem g1i1 :g7 prog f156.results.toList=some [.tmp 2]:=by kernel_rfl
def g19t(F:Hs Un.D [.int .i64]→Option (Hs Un.D [.bool])) :FSpec Un:=⟨156,[.c (.hole (.int .i64))],[],[.int .i64],.c (.hole .bool),[],[.bool],F⟩
def glg :FSpec Un:=g19t gie
theorem gvh :FSnd prog glg:=FSnd.of fun h r hr=>FAt.of_body (s:=glg) (fo:=foS []) (lo:=loL []) func156 g1kj g1i1 (by kernel_rfl) FoSnd.nil (LoOk.snd LoOk.nil) (Eq.trans (by kernel_rfl) hr)
def ggd(x_:SMember × Int) :Option (Bool × Int):=
 match x_ with
 | (m,b)=>
 some (decide (m.ID=b),b)
theorem g1od :gg prog 126=true:=by kernel_rfl
theorem g1kk :f126.body.bind (Shv.resolve prog f126.ntmps)=some (g6 prog f126):=by kernel_rfl
theorem g1i2 :g7 prog f126.results.toList=some [.tmp 3]:=by kernel_rfl
def g10t(F:Hs Un.D [.nm 0,.int .i64]→Option (Hs Un.D [.bool,.int .i64])) :FSpec Un:=⟨126,[.row 0,.c (.ptr 0 0)],[.box [.hole (.int .i64)]],[.nm 0,.int .i64],.c (.hole .bool),[.box [.hole (.int .i64)]],[.bool,.int .i64],F⟩
def gir :FSpec Un:=g10t ggd
theorem gy6 :FSnd prog gir:=FSnd.of fun h r hr=>FAt.of_body (s:=gir) (fo:=foS []) (lo:=loL []) func126 g1kk g1i2 (by kernel_rfl) FoSnd.nil (LoOk.snd LoOk.nil) (Eq.trans (by kernel_rfl) hr)
def gz(x_:List SMember × Int × Int × Int) :Option ((Int × Int) ⊕ (Int)):=
 match x_ with
 | (s_1,t7_1,t8,b_3)=>
 if decide (t8 < t7_1)=true then
 if inR t8 s_1.length=true then
 some (s_1.getD t8.toNat dSMember) >>=fun x0=>
 ggd ((⟨x0.ID,x0.Name,x0.Type_,x0.Critical,x0.HasDefault,SValue.eta x0.Default⟩:SMember),b_3) >>=fun r=>
 if r.1=true then
 some (.inl (t8,r.2))
 else
 gz (s_1,t7_1,addI .i64 t8 1,r.2)
 else none
 else
 some (.inr b_3)
  partial_fixpoint
theorem g1oe :gg prog 125=true:=by kernel_rfl
theorem g1kl :f125.body.bind (Shv.resolve prog f125.ntmps)=some (g6 prog f125):=by kernel_rfl
theorem g1i3 :g7 prog f125.results.toList=some [.tmp 4]:=by kernel_rfl
def g79 :Shape:=⟨[(0,.c (.hole (.slice (.nm 0)))),(1,.c (.fn 126 [0])),(7,.c (.hole (.int .i64))),(8,.c (.hole (.int .i64)))],[.box [.hole (.int .i64)]]⟩
def g4s :List Ty:=[.slice (.nm 0),.int .i64,.int .i64,.int .i64]
def g4g :List OSpec:=[⟨.ret,⟨[(4,.c (.hole (.int .i64)))],[.box [.hole (.int .i64)]]⟩,[],[.int .i64,.int .i64]⟩,⟨.exit 0,⟨[],[.box [.hole (.int .i64)]]⟩,[],[.int .i64]⟩]
def gdk(F:Hs Un.D g4s→Option (OSum Un g4g)) :LSpec Un:=⟨g79,[],g4s,g4g,F⟩
def g7l :LSpec Un:=gdk gz
theorem gcx :LSnd prog f125.ntmps 1 (gn (g6 prog f125) 0) g7l:=fun h o ho=>gz.partial_correctness (fun h o=>LAt (U:=Un) prog f125.ntmps 1 (gn (g6 prog f125) 0) g79 g4s g4g h o) (fun F1 HF1 h o ho=>LAt.of_round (fo:=foS [gir]) (lo:=loL []) (own:=[]) (F':=F1) (FoSnd.cons g1od gy6 FoSnd.nil) (LoOk.snd LoOk.nil) HF1 (Eq.trans (by kernel_rfl) ho)) h o ho
def g45(x_:List SMember × Int) :Option (Int × Int):=
 match x_ with
 | (s,b)=>
 gz (s,(s.length:Int),0,b) >>=fun o=>
 match o with
 | .inl o_1=>
 some (o_1.1,o_1.2)
 | .inr o_2=>
 some ((-1),o_2)
def gff(F:Hs Un.D [.slice (.nm 0),.int .i64]→Option (Hs Un.D [.int .i64,.int .i64])) :FSpec Un:=⟨125,[.c (.hole (.slice (.nm 0))),.c (.fn 126 [0])],[.box [.hole (.int .i64)]],[.slice (.nm 0),.int .i64],.c (.hole (.int .i64)),[.box [.hole (.int .i64)]],[.int .i64,.int .i64],F⟩
def g5g :FSpec Un:=gff g45
theorem ge9 :FSnd prog g5g:=FSnd.of fun h r hr=>FAt.of_body (s:=g5g) (fo:=foS []) (lo:=loL [(0,g7l)]) func125 g1kl g1i3 (by kernel_rfl) FoSnd.nil (LoOk.snd (LoOk.cons gcx LoOk.nil)) (Eq.trans (by kernel_rfl) hr)
def g38(x_:SType × Int) :Option (Int × Bool):=
 match x_ with
 | (t,id)=>
 g45 (t.Members,id) >>=fun r=>
 some (maxI r.1 0,decide (0≤r.1))
theorem F82_b :gg prog 82=true:=by kernel_rfl
theorem g1of :f82.body.bind (Shv.resolve prog f82.ntmps)=some (g6 prog f82):=by kernel_rfl
theorem g1km :g7 prog f82.results.toList=some [.tmp 4,.tmp 5]:=by kernel_rfl
def g14p(F:Hs Un.D [.nm 3,.int .i64]→Option (Hs Un.D [.int .i64,.bool])) :FSpec Un:=⟨82,[.row 3,.c (.hole (.int .i64))],[],[.nm 3,.int .i64],.tup [.c (.hole (.int .i64)),.c (.hole .bool)],[],[.int .i64,.bool],F⟩
def g89 :FSpec Un:=g14p g38
theorem gaf :FSnd prog g89:=FSnd.of fun h r hr=>FAt.of_body (s:=g89) (fo:=foS [g5g]) (lo:=loL []) func82 g1of g1km (by kernel_rfl) (FoSnd.cons g1oe ge9 FoSnd.nil) (LoOk.snd LoOk.nil) (Eq.trans (by kernel_rfl) hr)
end
section
open Go Go.Proofs.YthnmepafpikaiaaGreat.Shv
open Tryz
set_option maxRecDepth 100000
def g32(x_:Bool × List SRaw × Int × Int × List SType × SValue × Int × List UInt8 × Int × Int × Int × List SSymbol × List SMember × Int × Int × Bool) :Option ((Bool) ⊕ (Bool × List SType × Int × Bool × Int × List UInt8 × Int × List SValue × List SValue × List SRaw × Int × List UInt8 × Int × Int × Int × List SSymbol × List SMember × Int × Int × Bool)):=
 match x_ with
 | (plain_3,t111,t112_1,t113,b_31,b_32,b_33,b_34,b_35,b_36,b_37,b_38,b_39,b_40,b_41,b_42)=>
 if decide (t113 < t112_1)=true then
 if inR t113 t111.length=true then
 some (t111.getD t113.toNat dSRaw) >>=fun x0_4=>
 g38 ((⟨b_33,b_34,b_35,b_36,b_37,b_38,b_39,b_40,b_41,b_42⟩:SType),x0_4.ID) >>=fun r_14=>
 (if(!r_14.2)=true then gie x0_4.ID else some false) >>=fun r_17=>
 some (bif r_14.2 then true else(!r_17)) >>=fun t131=>
 some (decide (0 < t113)) >>=fun t134=>
 some (subI .i64 t113 1) >>=fun t141=>
 if(inR t141 b_32.Rest.length || (!((!t131) && t134)))=true then
 if(bif t131 then true else bif t134 then decide (x0_4.ID≤(b_32.Rest.getD t141.toNat dSRaw).ID)else false)=true then
 some (.inl false)
 else
 g32 (plain_3,t111,t112_1,addI .i64 t113 1,b_31,SValue.eta b_32,b_33,b_34,b_35,b_36,b_37,b_38,b_39,b_40,b_41,b_42)
 else none
 else none
 else
 some (.inr (plain_3,b_31,b_32.Kind,b_32.Bool_,b_32.Int_,b_32.Str,b_32.ID,b_32.Keys,b_32.Items,b_32.Rest,b_33,b_34,b_35,b_36,b_37,b_38,b_39,b_40,b_41,b_42))
  partial_fixpoint
theorem g14q :gg prog 132=true:=by kernel_rfl
theorem g1kn :f132.body.bind (Shv.resolve prog f132.ntmps)=some (g6 prog f132):=by kernel_rfl
theorem g1i4 :g7 prog f132.results.toList=some [.tmp 8]:=by kernel_rfl
def grm :Shape:=⟨[(3,.c (.hole .bool)),(4,.c (.ptr 0 0)),(6,.c (.ptr 1 0)),(9,.c (.ptr 2 0)),(111,.c (.hole (.slice (.nm 2)))),(112,.c (.hole (.int .i64))),(113,.c (.hole (.int .i64)))],[.box [.hole (.slice (.nm 3))],.brow 1,.box [.hole (.int .i64),.hole .str,.hole (.int .i64),.hole (.int .i64),.hole (.int .i64),.hole (.slice (.nm 4)),.hole (.slice (.nm 0)),.hole (.int .i64),.hole (.int .i64),.hole .bool]]⟩
def gk0 :List Ty:=[.bool,.slice (.nm 2),.int .i64,.int .i64,.slice (.nm 3),.nm 1,.int .i64,.str,.int .i64,.int .i64,.int .i64,.slice (.nm 4),.slice (.nm 0),.int .i64,.int .i64,.bool]
def ghd :List OSpec:=[⟨.ret,⟨[(8,.c (.hole .bool))],[]⟩,[],[.bool]⟩,⟨.exit 1,⟨[(3,.c (.hole .bool)),(4,.c (.ptr 0 0)),(6,.c (.ptr 1 0)),(9,.c (.ptr 2 0))],[.box [.hole (.slice (.nm 3))],.box [.hole (.int .i64),.hole .bool,.hole (.int .i64),.hole .str,.hole (.int .i64),.hole (.slice (.nm 1)),.hole (.slice (.nm 1)),.hole (.slice (.nm 2))],.box [.hole (.int .i64),.hole .str,.hole (.int .i64),.hole (.int .i64),.hole (.int .i64),.hole (.slice (.nm 4)),.hole (.slice (.nm 0)),.hole (.int .i64),.hole (.int .i64),.hole .bool]]⟩,[],[.bool,.slice (.nm 3),.int .i64,.bool,.int .i64,.str,.int .i64,.slice (.nm 1),.slice (.nm 1),.slice (.nm 2),.int .i64,.str,.int .i64,.int .i64,.int .i64,.slice (.nm 4),.slice (.nm 0),.int .i64,.int .i64,.bool]⟩]
def g14r(F:Hs Un.D gk0→Option (OSum Un ghd)) :LSpec Un:=⟨grm,[],gk0,ghd,F⟩
def gta :LSpec Un:=g14r g32
theorem g10u :LSnd prog f132.ntmps 0 (gn (g6 prog f132) 0) gta:=fun h o ho=>g32.partial_correctness (fun h o=>LAt (U:=Un) prog f132.ntmps 0 (gn (g6 prog f132) 0) grm gk0 ghd h o) (fun F1 HF1 h o ho=>LAt.of_round (fo:=foS [g89,glg]) (lo:=loL []) (own:=[]) (F':=F1) (FoSnd.cons F82_b gaf (FoSnd.cons g1fp gvh FoSnd.nil)) (LoOk.snd LoOk.nil) HF1 (Eq.trans (by kernel_rfl) ho)) h o ho
def gob(x0:Int) :Option (Bool):=
 some (!(decide (x0=x0)))
theorem g1og :gg prog 190=true:=by kernel_rfl
theorem g1ko :f190.body.bind (Shv.resolve prog f190.ntmps)=some (g6 prog f190):=by kernel_rfl
theorem g1i5 :g7 prog f190.results.toList=some [.tmp 2]:=by kernel_rfl
def g1bf(F:Hs Un.D [.int .u64]→Option (Hs Un.D [.bool])) :FSpec Un:=⟨190,[.c (.hole (.int .u64))],[],[.int .u64],.c (.hole .bool),[],[.bool],F⟩
def gub :FSpec Un:=g1bf gob
theorem g188 :FSnd prog gub:=FSnd.of fun h r hr=>FAt.of_body (s:=gub) (fo:=foS []) (lo:=loL []) func190 g1ko g1i5 (by kernel_rfl) FoSnd.nil (LoOk.snd LoOk.nil) (Eq.trans (by kernel_rfl) hr)
def gj6(x_:Int × Int) :Option (Int):=
 match x_ with
 | (x0,y)=>
 gob x0 >>=fun r=>
 gob y >>=fun r_1=>
 if r=true then
 if r_1=true then
 some 0
 else
 some (-1)
 else
 if r_1=true then
 some 1
 else
 if decide (x0 < y)=true then
 some (-1)
 else
 if decide (y < x0)=true then
 some 1
 else
 some 0
theorem g1oh :gg prog 174=true:=by kernel_rfl
theorem g1kp :f174.body.bind (Shv.resolve prog f174.ntmps)=some (g6 prog f174):=by kernel_rfl
theorem g1i6 :g7 prog f174.results.toList=some [.tmp 4]:=by kernel_rfl
def g189(F:Hs Un.D [.int .u64,.int .u64]→Option (Hs Un.D [.int .i64])) :FSpec Un:=⟨174,[.c (.hole (.int .u64)),.c (.hole (.int .u64))],[],[.int .u64,.int .u64],.c (.hole (.int .i64)),[],[.int .i64],F⟩
def gp3 :FSpec Un:=g189 gj6
theorem g14s :FSnd prog gp3:=FSnd.of fun h r hr=>FAt.of_body (s:=gp3) (fo:=foS [gub]) (lo:=loL []) func174 g1kp g1i6 (by kernel_rfl) (FoSnd.cons g1og g188 FoSnd.nil) (LoOk.snd LoOk.nil) (Eq.trans (by kernel_rfl) hr)
def gj7(x0:Int) :Option (Bool):=
 some (!(decide (x0=x0)))
theorem g1oi :gg prog 162=true:=by kernel_rfl
theorem g1kq :f162.body.bind (Shv.resolve prog f162.ntmps)=some (g6 prog f162):=by kernel_rfl
theorem g1i7 :g7 prog f162.results.toList=some [.tmp 2]:=by kernel_rfl
def g18a(F:Hs Un.D [.int .i64]→Option (Hs Un.D [.bool])) :FSpec Un:=⟨162,[.c (.hole (.int .i64))],[],[.int .i64],.c (.hole .bool),[],[.bool],F⟩
def gp4 :FSpec Un:=g18a gj7
theorem g14t :FSnd prog gp4:=FSnd.of fun h r hr=>FAt.of_body (s:=gp4) (fo:=foS []) (lo:=loL []) func162 g1kq g1i7 (by kernel_rfl) FoSnd.nil (LoOk.snd LoOk.nil) (Eq.trans (by kernel_rfl) hr)
def gc3(x_:Int × Int) :Option (Int):=
 match x_ with
 | (x0,y)=>
 gj7 x0 >>=fun r=>
 gj7 y >>=fun r_1=>
 if r=true then
 if r_1=true then
 some 0
 else
 some (-1)
 else
 if r_1=true then
 some 1
 else
 if decide (x0 < y)=true then
 some (-1)
 else
 if decide (y < x0)=true then
 some 1
 else
 some 0
theorem g1oj :gg prog 136=true:=by kernel_rfl
theorem g1kr :f136.body.bind (Shv.resolve prog f136.ntmps)=some (g6 prog f136):=by kernel_rfl
theorem g1i8 :g7 prog f136.results.toList=some [.tmp 4]:=by kernel_rfl
def g14u(F:Hs Un.D [.int .i64,.int .i64]→Option (Hs Un.D [.int .i64])) :FSpec Un:=⟨136,[.c (.hole (.int .i64)),.c (.hole (.int .i64))],[],[.int .i64,.int .i64],.c (.hole (.int .i64)),[],[.int .i64],F⟩
def glh :FSpec Un:=g14u gc3
theorem g10v :FSnd prog glh:=FSnd.of fun h r hr=>FAt.of_body (s:=glh) (fo:=foS [gp4]) (lo:=loL []) func136 g1kr g1i8 (by kernel_rfl) (FoSnd.cons g1oi g14t FoSnd.nil) (LoOk.snd LoOk.nil) (Eq.trans (by kernel_rfl) hr)
def gj8(x0:List UInt8) :Option (Bool):=
 some (!(decide (x0=x0)))
theorem g1ok :gg prog 191=true:=by kernel_rfl
theorem g1ks :f191.body.bind (Shv.resolve prog f191.ntmps)=some (g6 prog f191):=by kernel_rfl
theorem g1i9 :g7 prog f191.results.toList=some [.tmp 2]:=by kernel_rfl
def g18b(F:Hs Un.D [.str]→Option (Hs Un.D [.bool])) :FSpec Un:=⟨191,[.c (.hole .str)],[],[.str],.c (.hole .bool),[],[.bool],F⟩
def gp5 :FSpec Un:=g18b gj8
theorem g14v :FSnd prog gp5:=FSnd.of fun h r hr=>FAt.of_body (s:=gp5) (fo:=foS []) (lo:=loL []) func191 g1ks g1i9 (by kernel_rfl) FoSnd.nil (LoOk.snd LoOk.nil) (Eq.trans (by kernel_rfl) hr)
def gfg(x_:List UInt8 × List UInt8) :Option (Int):=
 match x_ with
 | (x0,y)=>
 gj8 x0 >>=fun r=>
 gj8 y >>=fun r_1=>
 if r=true then
 if r_1=true then
 some 0
 else
 some (-1)
 else
 if r_1=true then
 some 1
 else
 if Op.bytesLess x0 y=true then
 some (-1)
 else
 if(!(Op.bytesLess x0 y || decide (x0=y)))=true then
 some 1
 else
 some 0
theorem g1ol :gg prog 176=true:=by kernel_rfl
theorem g1kt :f176.body.bind (Shv.resolve prog f176.ntmps)=some (g6 prog f176):=by kernel_rfl
theorem g1ia :g7 prog f176.results.toList=some [.tmp 4]:=by kernel_rfl
def g14w(F:Hs Un.D [.str,.str]→Option (Hs Un.D [.int .i64])) :FSpec Un:=⟨176,[.c (.hole .str),.c (.hole .str)],[],[.str,.str],.c (.hole (.int .i64)),[],[.int .i64],F⟩
def gli :FSpec Un:=g14w gfg
theorem g10w :FSnd prog gli:=FSnd.of fun h r hr=>FAt.of_body (s:=gli) (fo:=foS [gp5]) (lo:=loL []) func176 g1kt g1ia (by kernel_rfl) (FoSnd.cons g1ok g14v FoSnd.nil) (LoOk.snd LoOk.nil) (Eq.trans (by kernel_rfl) hr)
def g7m(x_:Int × List Int × Int × Int) :Option ((Int) ⊕ (Int)):=
 match x_ with
 | (zero_1,t6,t7_1,t8)=>
 if decide (t8 < t7_1)=true then
 if inR t8 t6.length=true then
 some (t6.getD t8.toNat 0) >>=fun x0=>
 if(!(decide (x0=zero_1)))=true then
 some (.inl x0)
 else
 g7m (zero_1,t6,t7_1,addI .i64 t8 1)
 else none
 else
 some (.inr zero_1)
  partial_fixpoint
theorem g1om :gg prog 175=true:=by kernel_rfl
theorem g1ku :f175.body.bind (Shv.resolve prog f175.ntmps)=some (g6 prog f175):=by kernel_rfl
theorem g1ib :g7 prog f175.results.toList=some [.tmp 2]:=by kernel_rfl
def gzk :Shape:=⟨[(3,.c (.hole (.int .i64))),(6,.c (.hole (.slice (.int .i64)))),(7,.c (.hole (.int .i64))),(8,.c (.hole (.int .i64)))],[]⟩
def grn :List Ty:=[.int .i64,.slice (.int .i64),.int .i64,.int .i64]
def gnh :List OSpec:=[⟨.ret,⟨[(2,.c (.hole (.int .i64)))],[]⟩,[],[.int .i64]⟩,⟨.exit 0,⟨[(3,.c (.hole (.int .i64)))],[]⟩,[],[.int .i64]⟩]
def g1bg(F:Hs Un.D grn→Option (OSum Un gnh)) :LSpec Un:=⟨gzk,[],grn,gnh,F⟩
def g121 :LSpec Un:=g1bg g7m
theorem g18c :LSnd prog f175.ntmps 0 (gn (g6 prog f175) 0) g121:=fun h o ho=>g7m.partial_correctness (fun h o=>LAt (U:=Un) prog f175.ntmps 0 (gn (g6 prog f175) 0) gzk grn gnh h o) (fun F1 HF1 h o ho=>LAt.of_round (fo:=foS []) (lo:=loL []) (own:=[]) (F':=F1) FoSnd.nil (LoOk.snd LoOk.nil) HF1 (Eq.trans (by kernel_rfl) ho)) h o ho
def gzl(vals:List Int) :Option (Int):=
 g7m (0,vals,(vals.length:Int),0) >>=fun o=>
 match o with
 | .inl o_1=>
 some o_1
 | .inr o_2=>
 some o_2
def g1ic(F:Hs Un.D [.slice (.int .i64)]→Option (Hs Un.D [.int .i64])) :FSpec Un:=⟨175,[.c (.hole (.slice (.int .i64)))],[],[.slice (.int .i64)],.c (.hole (.int .i64)),[],[.int .i64],F⟩
def g12y :FSpec Un:=g1ic gzl
theorem g1dz :FSnd prog g12y:=FSnd.of fun h r hr=>FAt.of_body (s:=g12y) (fo:=foS []) (lo:=loL [(0,g121)]) func175 g1ku g1ib (by kernel_rfl) FoSnd.nil (LoOk.snd (LoOk.cons g18c LoOk.nil)) (Eq.trans (by kernel_rfl) hr)
def ga4(n:Int) :Option (Int):=
 some (xorI .u64 (shlI .u64 (wrp .u64 n) 1) (wrp .u64 (shrI .i64 n 63)))
theorem F97_b :gg prog 97=true:=by kernel_rfl
theorem g1on :f97.body.bind (Shv.resolve prog f97.ntmps)=some (g6 prog f97):=by kernel_rfl
theorem g1kv :g7 prog f97.results.toList=some [.tmp 2]:=by kernel_rfl
def g14x(F:Hs Un.D [.int .i64]→Option (Hs Un.D [.int .u64])) :FSpec Un:=⟨97,[.c (.hole (.int .i64))],[],[.int .i64],.c (.hole (.int .u64)),[],[.int .u64],F⟩
def gge :FSpec Un:=g14x ga4
theorem gpq :FSnd prog gge:=FSnd.of fun h r hr=>FAt.of_body (s:=gge) (fo:=foS []) (lo:=loL []) func97 g1on g1kv (by kernel_rfl) FoSnd.nil (LoOk.snd LoOk.nil) (Eq.trans (by kernel_rfl) hr)
def g8o(x_:SValue × SValue) :Option (Int):=
 match x_ with
 | (a,b)=>
 if(!(decide (a.Kind=b.Kind)))=true then
 some 0
 else
 if decide (a.Kind=1)=true then
 if eqB a.Bool_ b.Bool_=true then
 some 0
 else
 if b.Bool_=true then
 some (-1)
 else
 some 1
 else
 if decide (a.Kind=2)=true then
 ga4 a.Int_ >>=fun r=>
 ga4 b.Int_ >>=fun r_1=>
 gj6 (r,r_1) >>=fun r_2=>
 some r_2
 else
 if decide (a.Kind=3)=true then
 gc3 ((a.Str.length:Int),(b.Str.length:Int)) >>=fun r_3=>
 gfg (a.Str,b.Str) >>=fun r_4=>
 gzl [r_3,r_4] >>=fun r_5=>
 some r_5
 else
 if decide (a.Kind=4)=true then
 gc3 (a.ID,b.ID) >>=fun r_6=>
 some r_6
 else
 some 0
theorem g1oo :gg prog 158=true:=by kernel_rfl
theorem g1kw :f158.body.bind (Shv.resolve prog f158.ntmps)=some (g6 prog f158):=by kernel_rfl
theorem g1id :g7 prog f158.results.toList=some [.tmp 4]:=by kernel_rfl
def g14y(F:Hs Un.D [.nm 1,.nm 1]→Option (Hs Un.D [.int .i64])) :FSpec Un:=⟨158,[.row 1,.row 1],[],[.nm 1,.nm 1],.c (.hole (.int .i64)),[],[.int .i64],F⟩
def glj :FSpec Un:=g14y g8o
theorem g10x :FSnd prog glj:=FSnd.of fun h r hr=>FAt.of_body (s:=glj) (fo:=foS [gge,gp3,glh,gli,g12y]) (lo:=loL []) func158 g1kw g1id (by kernel_rfl) (FoSnd.cons F97_b gpq (FoSnd.cons g1oh g14s (FoSnd.cons g1oj g10v (FoSnd.cons g1ol g10w (FoSnd.cons g1om g1dz FoSnd.nil))))) (LoOk.snd LoOk.nil) (Eq.trans (by kernel_rfl) hr)
def g2o(x_:Bool × Int × List SType × SValue × Int × List UInt8 × Int × Int × Int × List SSymbol × List SMember × Int × Int × Bool) :Option ((Bool) ⊕ (Bool × List SType × SValue × Int × List UInt8 × Int × Int × Int × List SSymbol × List SMember × Int × Int × Bool)):=
 match x_ with
 | (plain_5,i,b_52,b_53,b_54,b_55,b_56,b_57,b_58,b_59,b_60,b_61,b_62,b_63)=>
 if decide (i < (b_53.Keys.length:Int))=true then
 some (subI .i64 i 1) >>=fun t291=>
 if inR t291 b_53.Keys.length=true then
 if inR i b_53.Keys.length=true then
 g8o (SValue.eta (b_53.Keys.getD t291.toNat dSValue),SValue.eta (b_53.Keys.getD i.toNat dSValue)) >>=fun r_19=>
 if decide (0≤r_19)=true then
 some (.inl false)
 else
 g2o (plain_5,addI .i64 i 1,b_52,SValue.eta b_53,b_54,b_55,b_56,b_57,b_58,b_59,b_60,b_61,b_62,b_63)
 else none
 else none
 else
 some (.inr (plain_5,b_52,SValue.eta b_53,b_54,b_55,b_56,b_57,b_58,b_59,b_60,b_61,b_62,b_63))
  partial_fixpoint
def gro :Shape:=⟨[(3,.c (.hole .bool)),(4,.c (.ptr 0 0)),(6,.c (.ptr 1 0)),(9,.c (.ptr 2 0)),(20,.c (.hole (.int .i64)))],[.box [.hole (.slice (.nm 3))],.brow 1,.box [.hole (.int .i64),.hole .str,.hole (.int .i64),.hole (.int .i64),.hole (.int .i64),.hole (.slice (.nm 4)),.hole (.slice (.nm 0)),.hole (.int .i64),.hole (.int .i64),.hole .bool]]⟩
def gk1 :List Ty:=[.bool,.int .i64,.slice (.nm 3),.nm 1,.int .i64,.str,.int .i64,.int .i64,.int .i64,.slice (.nm 4),.slice (.nm 0),.int .i64,.int .i64,.bool]
def ghe :List OSpec:=[⟨.ret,⟨[(8,.c (.hole .bool))],[]⟩,[],[.bool]⟩,⟨.exit 5,⟨[(3,.c (.hole .bool)),(4,.c (.ptr 0 0)),(6,.c (.ptr 1 0)),(9,.c (.ptr 2 0))],[.box [.hole (.slice (.nm 3))],.brow 1,.box [.hole (.int .i64),.hole .str,.hole (.int .i64),.hole (.int .i64),.hole (.int .i64),.hole (.slice (.nm 4)),.hole (.slice (.nm 0)),.hole (.int .i64),.hole (.int .i64),.hole .bool]]⟩,[],[.bool,.slice (.nm 3),.nm 1,.int .i64,.str,.int .i64,.int .i64,.int .i64,.slice (.nm 4),.slice (.nm 0),.int .i64,.int .i64,.bool]⟩]
def g14z(F:Hs Un.D gk1→Option (OSum Un ghe)) :LSpec Un:=⟨gro,[],gk1,ghe,F⟩
def gtb :LSpec Un:=g14z g2o
theorem g10y :LSnd prog f132.ntmps 0 (gn (g6 prog f132) 2) gtb:=fun h o ho=>g2o.partial_correctness (fun h o=>LAt (U:=Un) prog f132.ntmps 0 (gn (g6 prog f132) 2) gro gk1 ghe h o) (fun F1 HF1 h o ho=>LAt.of_round (fo:=foS [glj]) (lo:=loL []) (own:=[]) (F':=F1) (FoSnd.cons g1oo g10x FoSnd.nil) (LoOk.snd LoOk.nil) HF1 (Eq.trans (by kernel_rfl) ho)) h o ho
mutual
def g22(x_:List SValue × List SType × Int × Bool) :Option (Bool × List SType × Int × Bool):=
 match x_ with
 | (s,b,b_1,b_2)=>
 g36 (s,b,b_1,b_2) >>=fun r=>
 some (decide (0≤r.1),r.2.1,r.2.2.1,r.2.2.2)
  partial_fixpoint
def g36(x_:List SValue × List SType × Int × Bool) :Option (Int × List SType × Int × Bool):=
 match x_ with
 | (s,b,b_1,b_2)=>
 g19 (s,(s.length:Int),0,b,b_1,b_2) >>=fun o=>
 match o with
 | .inl o_1=>
 some (o_1.1,o_1.2.1,o_1.2.2.1,o_1.2.2.2)
 | .inr o_2=>
 some ((-1),o_2.1,o_2.2.1,o_2.2.2)
  partial_fixpoint
def g8a(x_:SSchema × Int × List SValue × Bool) :Option (Bool):=
 match x_ with
 | (s,t,l,plain)=>
 g22 (l,s.Types,t,plain) >>=fun r=>
 some (!r.1)
  partial_fixpoint
def ghf(x_:SValue × List SType × Int × Bool) :Option (Bool × List SType × Int × Bool):=
 match x_ with
 | (v,b,b_1,b_2)=>
 g4h ((⟨b⟩:SSchema),b_1,SValue.eta v,b_2) >>=fun r=>
 some ((!r),b,b_1,b_2)
  partial_fixpoint
def g4h(x_:SSchema × Int × SValue × Bool) :Option (Bool):=
 match x_ with
 | (s,t,v,plain)=>
 if(bif decide (t < 0)then true else decide ((s.Types.length:Int)≤t))=true then
 some false
 else
 if inR t s.Types.length=true then
 some (s.Types.getD t.toNat dSType) >>=fun x0=>
 some (!(decide (v.Kind=x0.Kind))) >>=fun t39=>
 (if(!t39)=true then ghc (SValue.eta v)else some false) >>=fun r=>
 if(bif t39 then true else(!r))=true then
 some false
 else
 if decide (x0.Kind=2)=true then
 some (bif decide (x0.Low≤v.Int_)then decide (v.Int_≤x0.High)else false)
 else
 if decide (x0.Kind=3)=true then
 some (decide ((v.Str.length:Int)≤x0.Max))
 else
 if decide (x0.Kind=4)=true then
 gc2 (x0,v.ID) >>=fun r_1=>
 some (bif x0.Open then(!plain)else false) >>=fun t85=>
 (if((!r_1.2) && t85)=true then gie v.ID else some false) >>=fun r_4=>
 some (bif r_1.2 then true else bif t85 then r_4 else false)
 else
 if decide (x0.Kind=5)=true then
 if(bif (!(decide ((v.Items.length:Int)=(x0.Members.length:Int))))then true else bif plain then decide (0 < (v.Rest.length:Int))else false)=true then
 some false
 else
 g32 (plain,v.Rest,(v.Rest.length:Int),0,s.Types,SValue.eta v,x0.Kind,x0.Name,x0.Low,x0.High,x0.Max,x0.Symbols,x0.Members,x0.Key,x0.Elem,x0.Open) >>=fun o=>
 match o with
 | .inl o_1=>
 some o_1
 | .inr o_2=>
 g3q (o_2.1,o_2.2.2.2.2.2.2.2.2.2.2.2.2.2.2.2.2.1,(o_2.2.2.2.2.2.2.2.2.2.2.2.2.2.2.2.2.1.length:Int),0,o_2.2.1,o_2.2.2.1,o_2.2.2.2.1,o_2.2.2.2.2.1,o_2.2.2.2.2.2.1,o_2.2.2.2.2.2.2.1,o_2.2.2.2.2.2.2.2.1,o_2.2.2.2.2.2.2.2.2.1,o_2.2.2.2.2.2.2.2.2.2.1) >>=fun o_3=>
 match o_3 with
 | .inl o_4=>
 some o_4
 | .inr o_5=>
 some true
 else
 if decide (x0.Kind=6)=true then
 g38 (x0,v.ID) >>=fun r_5=>
 if r_5.2=true then
 some (bif decide ((v.Items.length:Int)=1)then decide ((v.Rest.length:Int)=0)else false) >>=fun t188=>
 if(inR r_5.1 x0.Members.length || (!t188))=true then
 if(inR 0 v.Items.length || (!t188))=true then
 (if t188=true then g4h ((⟨s.Types⟩:SSchema),(x0.Members.getD r_5.1.toNat dSMember).Type_,SValue.eta (v.Items.getD (0:Int).toNat dSValue),plain)else some false) >>=fun r_8=>
 some (bif t188 then r_8 else false)
 else none
 else none
 else
 some (bif x0.Open then(!plain)else false) >>=fun t209=>
 (if t209=true then gie v.ID else some false) >>=fun r_9=>
 some (bif bif bif t209 then r_9 else false then decide ((v.Items.length:Int)=0)else false then decide ((v.Rest.length:Int)=1)else false) >>=fun t226=>
 if(inR 0 v.Rest.length || (!t226))=true then
 some (bif t226 then decide ((v.Rest.getD (0:Int).toNat dSRaw).ID=v.ID)else false)
 else none
 else
 if decide (x0.Kind=7)=true then
 some (decide ((v.Items.length:Int)≤x0.Max)) >>=fun t244=>
 (if t244=true then g8a ((⟨s.Types⟩:SSchema),x0.Elem,v.Items,plain)else some false) >>=fun r_10=>
 some (bif t244 then r_10 else false)
 else
 if decide (x0.Kind=8)=true then
 some (bif decide (x0.Max < (v.Keys.length:Int))then true else(!(decide ((v.Items.length:Int)=(v.Keys.length:Int))))) >>=fun t270=>
 (if(!t270)=true then g8a ((⟨s.Types⟩:SSchema),x0.Key,v.Keys,plain)else some false) >>=fun r_11=>
 if(bif t270 then true else(!r_11))=true then
 some false
 else
 g2o (plain,1,s.Types,SValue.eta v,x0.Kind,x0.Name,x0.Low,x0.High,x0.Max,x0.Symbols,x0.Members,x0.Key,x0.Elem,x0.Open) >>=fun o_6=>
 match o_6 with
 | .inl o_7=>
 some o_7
 | .inr o_8=>
 g8a ((⟨o_8.2.1⟩:SSchema),o_8.2.2.2.2.2.2.2.2.2.2.2.1,o_8.2.2.1.Items,o_8.1) >>=fun r_12=>
 some r_12
 else
 if decide (x0.Kind=9)=true then
 some (decide ((v.Items.length:Int)≤1)) >>=fun t313=>
 (if t313=true then g8a ((⟨s.Types⟩:SSchema),x0.Elem,v.Items,plain)else some false) >>=fun r_13=>
 some (bif t313 then r_13 else false)
 else
 some true
 else none
  partial_fixpoint
def g19(x_:List SValue × Int × Int × List SType × Int × Bool) :Option ((Int × List SType × Int × Bool) ⊕ (List SType × Int × Bool)):=
 match x_ with
 | (s_1,t7_1,t8,b_9,b_10,b_11)=>
 if decide (t8 < t7_1)=true then
 if inR t8 s_1.length=true then
 ghf (SValue.eta (s_1.getD t8.toNat dSValue),b_9,b_10,b_11) >>=fun r=>
 if r.1=true then
 some (.inl (t8,r.2.1,r.2.2.1,r.2.2.2))
 else
 g19 (s_1,t7_1,addI .i64 t8 1,r.2.1,r.2.2.1,r.2.2.2)
 else none
 else
 some (.inr (b_9,b_10,b_11))
  partial_fixpoint
def g3q(x_:Bool × List SMember × Int × Int × List SType × Int × Bool × Int × List UInt8 × Int × List SValue × List SValue × List SRaw) :Option ((Bool) ⊕ (Unit)):=
 match x_ with
 | (plain_4,t150,t151_1,t152,b_43,b_44,b_45,b_46,b_47,b_48,b_49,b_50,b_51)=>
 if decide (t152 < t151_1)=true then
 if inR t152 t150.length=true then
 if inR t152 b_50.length=true then
 g4h ((⟨b_43⟩:SSchema),(t150.getD t152.toNat dSMember).Type_,SValue.eta (b_50.getD t152.toNat dSValue),plain_4) >>=fun r_18=>
 if(!r_18)=true then
 some (.inl false)
 else
 g3q (plain_4,t150,t151_1,addI .i64 t152 1,b_43,b_44,b_45,b_46,b_47,b_48,b_49,b_50,b_51)
 else none
 else none
 else
 some (.inr ())
  partial_fixpoint
end
theorem g1op :gg prog 172=true:=by kernel_rfl
theorem g1kx :f172.body.bind (Shv.resolve prog f172.ntmps)=some (g6 prog f172):=by kernel_rfl
theorem g1ie :g7 prog f172.results.toList=some [.tmp 4]:=by kernel_rfl
def g8b(F:Hs Un.D [.slice (.nm 1),.slice (.nm 3),.int .i64,.bool]→Option (Hs Un.D [.bool,.slice (.nm 3),.int .i64,.bool])) :FSpec Un:=⟨172,[.c (.hole (.slice (.nm 1))),.c (.fn 173 [0,1,2])],[.box [.hole (.slice (.nm 3))],.box [.hole (.int .i64)],.box [.hole .bool]],[.slice (.nm 1),.slice (.nm 3),.int .i64,.bool],.c (.hole .bool),[.box [.hole (.slice (.nm 3))],.box [.hole (.int .i64)],.box [.hole .bool]],[.bool,.slice (.nm 3),.int .i64,.bool],F⟩
def g5c :FSpec Un:=g8b g22
theorem g1oq :gg prog 189=true:=by kernel_rfl
theorem g1ky :f189.body.bind (Shv.resolve prog f189.ntmps)=some (g6 prog f189):=by kernel_rfl
theorem g1if :g7 prog f189.results.toList=some [.tmp 4]:=by kernel_rfl
def g9h(F:Hs Un.D [.slice (.nm 1),.slice (.nm 3),.int .i64,.bool]→Option (Hs Un.D [.int .i64,.slice (.nm 3),.int .i64,.bool])) :FSpec Un:=⟨189,[.c (.hole (.slice (.nm 1))),.c (.fn 173 [0,1,2])],[.box [.hole (.slice (.nm 3))],.box [.hole (.int .i64)],.box [.hole .bool]],[.slice (.nm 1),.slice (.nm 3),.int .i64,.bool],.c (.hole (.int .i64)),[.box [.hole (.slice (.nm 3))],.box [.hole (.int .i64)],.box [.hole .bool]],[.int .i64,.slice (.nm 3),.int .i64,.bool],F⟩
def g5x :FSpec Un:=g9h g36
def g83 :Shape:=⟨[(0,.c (.hole (.slice (.nm 1)))),(1,.c (.fn 173 [0,1,2])),(7,.c (.hole (.int .i64))),(8,.c (.hole (.int .i64)))],[.box [.hole (.slice (.nm 3))],.box [.hole (.int .i64)],.box [.hole .bool]]⟩
def g57 :List Ty:=[.slice (.nm 1),.int .i64,.int .i64,.slice (.nm 3),.int .i64,.bool]
def g4t :List OSpec:=[⟨.ret,⟨[(4,.c (.hole (.int .i64)))],[.box [.hole (.slice (.nm 3))],.box [.hole (.int .i64)],.box [.hole .bool]]⟩,[],[.int .i64,.slice (.nm 3),.int .i64,.bool]⟩,⟨.exit 0,⟨[],[.box [.hole (.slice (.nm 3))],.box [.hole (.int .i64)],.box [.hole .bool]]⟩,[],[.slice (.nm 3),.int .i64,.bool]⟩]
def g8c(F:Hs Un.D g57→Option (OSum Un g4t)) :LSpec Un:=⟨g83,[],g57,g4t,F⟩
def geu :LSpec Un:=g8c g19
theorem g1or :gg prog 173=true:=by kernel_rfl
theorem g1kz :f173.body.bind (Shv.resolve prog f173.ntmps)=some (g6 prog f173):=by kernel_rfl
theorem g1ig :g7 prog f173.results.toList=some [.tmp 5]:=by kernel_rfl
def gvi(F:Hs Un.D [.nm 1,.slice (.nm 3),.int .i64,.bool]→Option (Hs Un.D [.bool,.slice (.nm 3),.int .i64,.bool])) :FSpec Un:=⟨173,[.row 1,.c (.ptr 0 0),.c (.ptr 1 0),.c (.ptr 2 0)],[.box [.hole (.slice (.nm 3))],.box [.hole (.int .i64)],.box [.hole .bool]],[.nm 1,.slice (.nm 3),.int .i64,.bool],.c (.hole .bool),[.box [.hole (.slice (.nm 3))],.box [.hole (.int .i64)],.box [.hole .bool]],[.bool,.slice (.nm 3),.int .i64,.bool],F⟩
def gni :FSpec Un:=gvi ghf
def ghg(F:Hs Un.D [.nm 5,.int .i64,.nm 1,.bool]→Option (Hs Un.D [.bool])) :FSpec Un:=⟨132,[.row 5,.c (.hole (.int .i64)),.row 1,.c (.hole .bool)],[],[.nm 5,.int .i64,.nm 1,.bool],.c (.hole .bool),[],[.bool],F⟩
def glk :FSpec Un:=ghg g4h
theorem g1os :gg prog 157=true:=by kernel_rfl
theorem g1l0 :f157.body.bind (Shv.resolve prog f157.ntmps)=some (g6 prog f157):=by kernel_rfl
theorem g1ih :g7 prog f157.results.toList=some [.tmp 8]:=by kernel_rfl
def gzm(F:Hs Un.D [.nm 5,.int .i64,.slice (.nm 1),.bool]→Option (Hs Un.D [.bool])) :FSpec Un:=⟨157,[.row 5,.c (.hole (.int .i64)),.c (.hole (.slice (.nm 1))),.c (.hole .bool)],[],[.nm 5,.int .i64,.slice (.nm 1),.bool],.c (.hole .bool),[],[.bool],F⟩
def grq :FSpec Un:=gzm g8a
def grr :Shape:=⟨[(3,.c (.hole .bool)),(4,.c (.ptr 0 0)),(6,.c (.ptr 1 0)),(150,.c (.hole (.slice (.nm 0)))),(151,.c (.hole (.int .i64))),(152,.c (.hole (.int .i64)))],[.box [.hole (.slice (.nm 3))],.box [.hole (.int .i64),.hole .bool,.hole (.int .i64),.hole .str,.hole (.int .i64),.hole (.slice (.nm 1)),.hole (.slice (.nm 1)),.hole (.slice (.nm 2))]]⟩
def gk2 :List Ty:=[.bool,.slice (.nm 0),.int .i64,.int .i64,.slice (.nm 3),.int .i64,.bool,.int .i64,.str,.int .i64,.slice (.nm 1),.slice (.nm 1),.slice (.nm 2)]
def ghh :List OSpec:=[⟨.ret,⟨[(8,.c (.hole .bool))],[]⟩,[],[.bool]⟩,⟨.exit 3,⟨[],[]⟩,[],[]⟩]
def gtc(F:Hs Un.D gk2→Option (OSum Un ghh)) :LSpec Un:=⟨grr,[],gk2,ghh,F⟩
def g150 :LSpec Un:=gtc g3q
theorem gdl :(FSnd prog g5c)∧(FSnd prog g5x)∧(LSnd prog f189.ntmps 3 (gn (g6 prog f189) 0) geu)∧(FSnd prog gni)∧(FSnd prog glk)∧(FSnd prog grq)∧(LSnd prog f132.ntmps 0 (gn (g6 prog f132) 1) g150):=g22.mutual_partial_correctness (fun h r=>FAt prog g5c h r) (fun h r=>FAt prog g5x h r) (fun h o=>LAt (U:=Un) prog f189.ntmps 3 (gn (g6 prog f189) 0) g83 g57 g4t h o) (fun h r=>FAt prog gni h r) (fun h r=>FAt prog glk h r) (fun h r=>FAt prog grq h r) (fun h o=>LAt (U:=Un) prog f132.ntmps 0 (gn (g6 prog f132) 1) grr gk2 ghh h o)
 (fun F2 HF2 h o ho=>FAt.of_body (s:=g5c) (fo:=foS [g9h F2]) (lo:=loL []) func172 g1kx g1ie (by kernel_rfl) (FoSnd.cons g1oq HF2 FoSnd.nil) (LoOk.snd LoOk.nil) (Eq.trans (by kernel_rfl) ho))
 (fun F3 HF3 h o ho=>FAt.of_body (s:=g5x) (fo:=foS []) (lo:=loL [(0,g8c F3)]) func189 g1ky g1if (by kernel_rfl) FoSnd.nil (LoOk.snd (LoOk.cons HF3 LoOk.nil)) (Eq.trans (by kernel_rfl) ho))
 (fun F3 F4 HF3 HF4 h o ho=>LAt.of_round (fo:=foS [gvi F4]) (lo:=loL []) (own:=[]) (F':=F3) (FoSnd.cons g1or HF4 FoSnd.nil) (LoOk.snd LoOk.nil) HF3 (Eq.trans (by kernel_rfl) ho))
 (fun F5 HF5 h o ho=>FAt.of_body (s:=gni) (fo:=foS [ghg F5]) (lo:=loL []) func173 g1kz g1ig (by kernel_rfl) (FoSnd.cons g14q HF5 FoSnd.nil) (LoOk.snd LoOk.nil) (Eq.trans (by kernel_rfl) ho))
 (fun F5 F6 F7 HF5 HF6 HF7 h o ho=>FAt.of_body (s:=(ghg F5)) (fo:=foS [gng,ggc,glg,g89,ghg F5,gzm F6]) (lo:=loL [(0,gta),(1,gtc F7),(2,gtb)]) func132 g1kn g1i4 (by kernel_rfl) (FoSnd.cons g1oa g12x (FoSnd.cons g1fo gpp (FoSnd.cons g1fp gvh (FoSnd.cons F82_b gaf (FoSnd.cons g14q HF5 (FoSnd.cons g1os HF6 FoSnd.nil)))))) (LoOk.snd (LoOk.cons g10u (LoOk.cons HF7 (LoOk.cons g10y LoOk.nil)))) (Eq.trans (by kernel_rfl) ho))
 (fun F1 HF1 h o ho=>FAt.of_body (s:=grq) (fo:=foS [g8b F1]) (lo:=loL []) func157 g1l0 g1ih (by kernel_rfl) (FoSnd.cons g1op HF1 FoSnd.nil) (LoOk.snd LoOk.nil) (Eq.trans (by kernel_rfl) ho))
 (fun F5 F7 HF5 HF7 h o ho=>LAt.of_round (fo:=foS [ghg F5]) (lo:=loL []) (own:=[]) (F':=F7) (FoSnd.cons g14q HF5 FoSnd.nil) (LoOk.snd LoOk.nil) HF7 (Eq.trans (by kernel_rfl) ho))
theorem g16a :FSnd prog glk:=gdl.2.2.2.2.1
end
section
open Go Go.Proofs.YthnmepafpikaiaaGreat.Shv
open Tryz
set_option maxRecDepth 100000
def gcc(x_:SSchema × Int × SValue) :Option (Bool):=
 match x_ with
 | (s,t,v)=>
 g4h ((⟨s.Types⟩:SSchema),t,SValue.eta v,false) >>=fun r=>
 some r
theorem F95_b :gg prog 95=true:=by kernel_rfl
theorem g1ot :f95.body.bind (Shv.resolve prog f95.ntmps)=some (g6 prog f95):=by kernel_rfl
theorem g1l1 :g7 prog f95.results.toList=some [.tmp 6]:=by kernel_rfl
def g19u(F:Hs Un.D [.nm 5,.int .i64,.nm 1]→Option (Hs Un.D [.bool])) :FSpec Un:=⟨95,[.row 5,.c (.hole (.int .i64)),.row 1],[],[.nm 5,.int .i64,.nm 1],.c (.hole .bool),[],[.bool],F⟩
def gll :FSpec Un:=g19u gcc
theorem gvj :FSnd prog gll:=FSnd.of fun h r hr=>FAt.of_body (s:=gll) (fo:=foS [glk]) (lo:=loL []) func95 g1ot g1l1 (by kernel_rfl) (FoSnd.cons g14q g16a FoSnd.nil) (LoOk.snd LoOk.nil) (Eq.trans (by kernel_rfl) hr)
def g4z(x_:SSchema × Int × SValue) :Option (Int):=
 match x_ with
 | (s,t,v)=>
 gb1 ((⟨s.Types⟩:SSchema),t) >>=fun r=>
 if(!(decide (r=0)))=true then
 some r
 else
 gcc ((⟨s.Types⟩:SSchema),t,SValue.eta v) >>=fun r_1=>
 if(!r_1)=true then
 some 1
 else
 some 0
theorem F56_b :gg prog 56=true:=by kernel_rfl
theorem g1ou :f56.body.bind (Shv.resolve prog f56.ntmps)=some (g6 prog f56):=by kernel_rfl
theorem g1l2 :g7 prog f56.results.toList=some [.tmp 6]:=by kernel_rfl
def g12z(F:Hs Un.D [.nm 5,.int .i64,.nm 1]→Option (Hs Un.D [.int .i64])) :FSpec Un:=⟨56,[.row 5,.c (.hole (.int .i64)),.row 1],[],[.nm 5,.int .i64,.nm 1],.c (.hole (.int .i64)),[],[.int .i64],F⟩
def gk3 :FSpec Un:=g12z g4z
theorem gzn :FSnd prog gk3:=FSnd.of fun h r hr=>FAt.of_body (s:=gk3) (fo:=foS [ges,gll]) (lo:=loL []) func56 g1ou g1l2 (by kernel_rfl) (FoSnd.cons F52_b goa (FoSnd.cons F95_b gvj FoSnd.nil)) (LoOk.snd LoOk.nil) (Eq.trans (by kernel_rfl) hr)
def g6c(x_:Int × Int × List Int) :Option (Int × List Int):=
 match x_ with
 | (n_1,i_1,b_1)=>
 if decide (0 < n_1)=true then
 some (subI .i64 i_1 1) >>=fun t10=>
 if inR t10 8=true then
 if decide (t10.toNat < b_1.length)=true then
 g6c (shrI .u64 n_1 8,t10,b_1.set t10.toNat (wrp .u8 n_1))
 else none
 else none
 else
 some (i_1,b_1)
  partial_fixpoint
theorem F96_b :gg prog 96=true:=by kernel_rfl
theorem g1ov :f96.body.bind (Shv.resolve prog f96.ntmps)=some (g6 prog f96):=by kernel_rfl
theorem g1l3 :g7 prog f96.results.toList=some [.tmp 2]:=by kernel_rfl
def grs :Shape:=⟨[(0,.c (.hole (.int .u64))),(3,.c (.ptr 0 0)),(4,.c (.hole (.int .i64)))],[.arr (.int .u8)]⟩
def gk4 :List Ty:=[.int .u64,.int .i64,.slice (.int .u8)]
def ghi :List OSpec:=[⟨.exit 0,⟨[(3,.c (.ptr 0 0)),(4,.c (.hole (.int .i64)))],[.arr (.int .u8)]⟩,[],[.int .i64,.slice (.int .u8)]⟩]
def g151(F:Hs Un.D gk4→Option (OSum Un ghi)) :LSpec Un:=⟨grs,[],gk4,ghi,F⟩
def gtd :LSpec Un:=g151 g6c
theorem g10z :LSnd prog f96.ntmps 0 (gn (g6 prog f96) 0) gtd:=fun h o ho=>g6c.partial_correctness (fun h o=>LAt (U:=Un) prog f96.ntmps 0 (gn (g6 prog f96) 0) grs gk4 ghi h o) (fun F1 HF1 h o ho=>LAt.of_round (fo:=foS []) (lo:=loL []) (own:=[]) (F':=F1) FoSnd.nil (LoOk.snd LoOk.nil) HF1 (Eq.trans (by kernel_rfl) ho)) h o ho
def gif(n:Int) :Option (List UInt8):=
 g6c (n,8,[0,0,0,0,0,0,0,0]) >>=fun o=>
 if slR o.1 8 8=true then
 if subR o.1.toNat ((8:Int).toNat - o.1.toNat) o.2.length=true then
 some (strOf ((o.2.drop o.1.toNat).take ((8:Int).toNat - o.1.toNat)))
 else none
 else none
def g19v(F:Hs Un.D [.int .u64]→Option (Hs Un.D [.str])) :FSpec Un:=⟨96,[.c (.hole (.int .u64))],[],[.int .u64],.c (.hole .str),[],[.str],F⟩
def grt :FSpec Un:=g19v gif
theorem g16b :FSnd prog grt:=FSnd.of fun h r hr=>FAt.of_body (s:=grt) (fo:=foS []) (lo:=loL [(0,gtd)]) func96 g1ov g1l3 (by kernel_rfl) FoSnd.nil (LoOk.snd (LoOk.cons g10z LoOk.nil)) (Eq.trans (by kernel_rfl) hr)
mutual
def g11(x_:List SValue × List SValue) :Option (Bool):=
 match x_ with
 | (s1,s2)=>
 if(!(decide ((s1.length:Int)=(s2.length:Int))))=true then
 some false
 else
 gw (s2,s1,(s1.length:Int),0) >>=fun o=>
 match o with
 | .inl o_1=>
 some o_1
 | .inr o_2=>
 some true
  partial_fixpoint
def g9j(x_:SValue × SValue) :Option (Bool):=
 match x_ with
 | (a,b)=>
 some (bif bif bif bif decide (a.Kind=b.Kind)then eqB a.Bool_ b.Bool_ else false then decide (a.Int_=b.Int_)else false then decide (a.Str=b.Str)else false then decide (a.ID=b.ID)else false) >>=fun t37=>
 (if t37=true then g3z (a.Rest,b.Rest)else some false) >>=fun r=>
 some (bif t37 then r else false) >>=fun t44=>
 (if t44=true then g11 (a.Keys,b.Keys)else some false) >>=fun r_1=>
 some (bif t44 then r_1 else false) >>=fun t51=>
 (if t51=true then g11 (a.Items,b.Items)else some false) >>=fun r_2=>
 some (bif t51 then r_2 else false)
  partial_fixpoint
def gw(x_:List SValue × List SValue × Int × Int) :Option ((Bool) ⊕ (Unit)):=
 match x_ with
 | (s2_1,t15,t16_1,t17)=>
 if decide (t17 < t16_1)=true then
 if inR t17 t15.length=true then
 if inR t17 s2_1.length=true then
 g9j (SValue.eta (t15.getD t17.toNat dSValue),SValue.eta (s2_1.getD t17.toNat dSValue)) >>=fun r=>
 if(!r)=true then
 some (.inl false)
 else
 gw (s2_1,t15,t16_1,addI .i64 t17 1)
 else none
 else none
 else
 some (.inr ())
  partial_fixpoint
end
def g4k(F:Hs Un.D [.slice (.nm 1),.slice (.nm 1)]→Option (Hs Un.D [.bool])) :FSpec Un:=⟨178,[.c (.hole (.slice (.nm 1))),.c (.hole (.slice (.nm 1))),.c (.fn 159 [])],[],[.slice (.nm 1),.slice (.nm 1)],.c (.hole .bool),[],[.bool],F⟩
def g2n :FSpec Un:=g4k g11
def g40 :Shape:=⟨[(1,.c (.hole (.slice (.nm 1)))),(2,.c (.fn 159 [])),(15,.c (.hole (.slice (.nm 1)))),(16,.c (.hole (.int .i64))),(17,.c (.hole (.int .i64)))],[]⟩
def g2e :List Ty:=[.slice (.nm 1),.slice (.nm 1),.int .i64,.int .i64]
def g25 :List OSpec:=[⟨.ret,⟨[(6,.c (.hole .bool))],[]⟩,[],[.bool]⟩,⟨.exit 0,⟨[],[]⟩,[],[]⟩]
def g43(F:Hs Un.D g2e→Option (OSum Un g25)) :LSpec Un:=⟨g40,[],g2e,g25,F⟩
def g7v :LSpec Un:=g43 gw
theorem g1fq :gg prog 159=true:=by kernel_rfl
theorem g1l4 :f159.body.bind (Shv.resolve prog f159.ntmps)=some (g6 prog f159):=by kernel_rfl
theorem g1ii :g7 prog f159.results.toList=some [.tmp 4]:=by kernel_rfl
def gxo(F:Hs Un.D [.nm 1,.nm 1]→Option (Hs Un.D [.bool])) :FSpec Un:=⟨159,[.row 1,.row 1],[],[.nm 1,.nm 1],.c (.hole .bool),[],[.bool],F⟩
def gfh :FSpec Un:=gxo g9j
theorem g86 :(FSnd prog g2n)∧(LSnd prog f178.ntmps 0 (gn (g6 prog f178) 0) g7v)∧(FSnd prog gfh):=g11.mutual_partial_correctness (fun h r=>FAt prog g2n h r) (fun h o=>LAt (U:=Un) prog f178.ntmps 0 (gn (g6 prog f178) 0) g40 g2e g25 h o) (fun h r=>FAt prog gfh h r)
 (fun F2 HF2 h o ho=>FAt.of_body (s:=g2n) (fo:=foS []) (lo:=loL [(0,g43 F2)]) func178 g1bz g19q (by kernel_rfl) FoSnd.nil (LoOk.snd (LoOk.cons HF2 LoOk.nil)) (Eq.trans (by kernel_rfl) ho))
 (fun F2 F3 HF2 HF3 h o ho=>LAt.of_round (fo:=foS [gxo F3]) (lo:=loL []) (own:=[]) (F':=F2) (FoSnd.cons g1fq HF3 FoSnd.nil) (LoOk.snd LoOk.nil) HF2 (Eq.trans (by kernel_rfl) ho))
 (fun F1 HF1 h o ho=>FAt.of_body (s:=gfh) (fo:=foS [g61,g4k F1]) (lo:=loL []) func159 g1l4 g1ii (by kernel_rfl) (FoSnd.cons g1fj gbn (FoSnd.cons g1fk HF1 FoSnd.nil)) (LoOk.snd LoOk.nil) (Eq.trans (by kernel_rfl) ho))
theorem g152 :FSnd prog gfh:=g86.2.2
def gdm(x_:SMember × SValue) :Option (Bool):=
 match x_ with
 | (m,v)=>
 (if m.HasDefault=true then g9j (SValue.eta m.Default,SValue.eta v)else some false) >>=fun r=>
 some (bif m.HasDefault then r else false)
theorem g1ow :gg prog 133=true:=by kernel_rfl
theorem g1l5 :f133.body.bind (Shv.resolve prog f133.ntmps)=some (g6 prog f133):=by kernel_rfl
theorem g1ij :g7 prog f133.results.toList=some [.tmp 4]:=by kernel_rfl
def g130(F:Hs Un.D [.nm 0,.nm 1]→Option (Hs Un.D [.bool])) :FSpec Un:=⟨133,[.row 0,.row 1],[],[.nm 0,.nm 1],.c (.hole .bool),[],[.bool],F⟩
def gk5 :FSpec Un:=g130 gdm
theorem gzo :FSnd prog gk5:=FSnd.of fun h r hr=>FAt.of_body (s:=gk5) (fo:=foS [gfh]) (lo:=loL []) func133 g1l5 g1ij (by kernel_rfl) (FoSnd.cons g1fq g152 FoSnd.nil) (LoOk.snd LoOk.nil) (Eq.trans (by kernel_rfl) hr)
def g6d(x_:Int × Int × List Int) :Option (Int × Int × List Int):=
 match x_ with
 | (n_2,i_1,b_1)=>
 if decide (128≤n_2)=true then
 if inR i_1 10=true then
 if decide (i_1.toNat < b_1.length)=true then
 g6d (shrI .u64 n_2 7,addI .i64 i_1 1,b_1.set i_1.toNat (orI .u8 (wrp .u8 n_2) 128))
 else none
 else none
 else
 some (n_2,i_1,b_1)
  partial_fixpoint
theorem g19w :gg prog 113=true:=by kernel_rfl
theorem g1l6 :f113.body.bind (Shv.resolve prog f113.ntmps)=some (g6 prog f113):=by kernel_rfl
theorem g1ik :g7 prog f113.results.toList=some [.tmp 2]:=by kernel_rfl
def gru :Shape:=⟨[(0,.c (.hole (.int .u64))),(3,.c (.ptr 0 0)),(4,.c (.hole (.int .i64)))],[.arr (.int .u8)]⟩
def gk6 :List Ty:=[.int .u64,.int .i64,.slice (.int .u8)]
def ghj :List OSpec:=[⟨.exit 0,⟨[(0,.c (.hole (.int .u64))),(3,.c (.ptr 0 0)),(4,.c (.hole (.int .i64)))],[.arr (.int .u8)]⟩,[],[.int .u64,.int .i64,.slice (.int .u8)]⟩]
def g153(F:Hs Un.D gk6→Option (OSum Un ghj)) :LSpec Un:=⟨gru,[],gk6,ghj,F⟩
def gte :LSpec Un:=g153 g6d
theorem g110 :LSnd prog f113.ntmps 0 (gn (g6 prog f113) 0) gte:=fun h o ho=>g6d.partial_correctness (fun h o=>LAt (U:=Un) prog f113.ntmps 0 (gn (g6 prog f113) 0) gru gk6 ghj h o) (fun F1 HF1 h o ho=>LAt.of_round (fo:=foS []) (lo:=loL []) (own:=[]) (F':=F1) FoSnd.nil (LoOk.snd LoOk.nil) HF1 (Eq.trans (by kernel_rfl) ho)) h o ho
def gcd(n:Int) :Option (List UInt8):=
 g6d (n,0,[0,0,0,0,0,0,0,0,0,0]) >>=fun o=>
 if inR o.2.1 10=true then
 if decide (o.2.1.toNat < o.2.2.length)=true then
 some (o.2.2.set o.2.1.toNat (wrp .u8 o.1)) >>=fun l_1=>
 some (addI .i64 o.2.1 1) >>=fun t21=>
 if slR 0 t21 10=true then
 if subR (0:Int).toNat t21.toNat l_1.length=true then
 some (strOf ((l_1.drop (0:Int).toNat).take t21.toNat))
 else none
 else none
 else none
 else none
def g19x(F:Hs Un.D [.int .u64]→Option (Hs Un.D [.str])) :FSpec Un:=⟨113,[.c (.hole (.int .u64))],[],[.int .u64],.c (.hole .str),[],[.str],F⟩
def ghk :FSpec Un:=g19x gcd
theorem gnj :FSnd prog ghk:=FSnd.of fun h r hr=>FAt.of_body (s:=ghk) (fo:=foS []) (lo:=loL [(0,gte)]) func113 g1l6 g1ik (by kernel_rfl) FoSnd.nil (LoOk.snd (LoOk.cons g110 LoOk.nil)) (Eq.trans (by kernel_rfl) hr)
def g8d(p:List UInt8) :Option (List UInt8):=
 gcd (wrp .u64 (p.length:Int)) >>=fun r=>
 if decide (r.length+p.length≤g26)=true then
 some (r++p)
 else none
theorem g1fr :gg prog 100=true:=by kernel_rfl
theorem g1l7 :f100.body.bind (Shv.resolve prog f100.ntmps)=some (g6 prog f100):=by kernel_rfl
theorem g1il :g7 prog f100.results.toList=some [.tmp 2]:=by kernel_rfl
def g16c(F:Hs Un.D [.str]→Option (Hs Un.D [.str])) :FSpec Un:=⟨100,[.c (.hole .str)],[],[.str],.c (.hole .str),[],[.str],F⟩
def gig :FSpec Un:=g16c g8d
theorem grv :FSnd prog gig:=FSnd.of fun h r hr=>FAt.of_body (s:=gig) (fo:=foS [ghk]) (lo:=loL []) func100 g1l7 g1il (by kernel_rfl) (FoSnd.cons g19w gnj FoSnd.nil) (LoOk.snd LoOk.nil) (Eq.trans (by kernel_rfl) hr)
def gbb(x_:Int × Bool × List UInt8) :Option (List UInt8):=
 match x_ with
 | (id,critical,p)=>
 some (mulI .u64 2 (wrp .u64 id)) >>=fun t10=>
 if critical=true then
 gcd (addI .u64 t10 1) >>=fun r=>
 g8d p >>=fun r_1=>
 if decide (r.length+r_1.length≤g26)=true then
 some (r++r_1)
 else none
 else
 gcd t10 >>=fun r_2=>
 g8d p >>=fun r_3=>
 if decide (r_2.length+r_3.length≤g26)=true then
 some (r_2++r_3)
 else none
theorem F68_b :gg prog 68=true:=by kernel_rfl
theorem g1ox :f68.body.bind (Shv.resolve prog f68.ntmps)=some (g6 prog f68):=by kernel_rfl
theorem g1l8 :g7 prog f68.results.toList=some [.tmp 6]:=by kernel_rfl
def g16d(F:Hs Un.D [.int .i64,.bool,.str]→Option (Hs Un.D [.str])) :FSpec Un:=⟨68,[.c (.hole (.int .i64)),.c (.hole .bool),.c (.hole .str)],[],[.int .i64,.bool,.str],.c (.hole .str),[],[.str],F⟩
def gdn :FSpec Un:=g16d gbb
theorem gk7 :FSnd prog gdn:=FSnd.of fun h r hr=>FAt.of_body (s:=gdn) (fo:=foS [ghk,gig]) (lo:=loL []) func68 g1ox g1l8 (by kernel_rfl) (FoSnd.cons g19w gnj (FoSnd.cons g1fr grv FoSnd.nil)) (LoOk.snd LoOk.nil) (Eq.trans (by kernel_rfl) hr)
def g2j(x_:List UInt8 × List UInt8) :Option (Int × List UInt8):=
 match x_ with
 | (s,b)=>
 some b >>=fun r=>
 if(decide (r.length=b.length) && true)=true then
 if room 1 (r.length+s.length)=true then
 some ((s.length:Int),catS r s)
 else none
 else none
theorem F73_b :gg prog 73=true:=by kernel_rfl
theorem g1oy :f73.body.bind (Shv.resolve prog f73.ntmps)=some (g6 prog f73):=by kernel_rfl
theorem g1l9 :g7 prog f73.results.toList=some [.tmp 4,.tmp 5]:=by kernel_rfl
def gmm(F:Hs Un.D [.str,.str]→Option (Hs Un.D [.int .i64,.str])) :FSpec Un:=⟨73,[.c (.ptr 0 0),.c (.hole .str)],[.bld 130 ((.bufc 1)),.buf 5],[.str,.str],.tup [.c (.hole (.int .i64)),.c (.dead)],[.bld 130 ((.bufc 2)),.gone,.buf 5],[.int .i64,.str],F⟩
def g62 :FSpec Un:=gmm g2j
theorem gbo :FSnd prog g62:=FSnd.of fun h r hr=>FAt.of_body (s:=g62) (fo:=foS [gt7]) (lo:=loL []) func73 g1oy g1l9 (by kernel_rfl) (FoSnd.cons g1nu g10n FoSnd.nil) (LoOk.snd LoOk.nil) (Eq.trans (by kernel_rfl) hr)
def g5l(b:List UInt8) :Option (List UInt8):=
 if eqI (b.length:Int) (b.length:Int)=true then
 some b
 else none
theorem F75_b :gg prog 75=true:=by kernel_rfl
theorem g1oz :f75.body.bind (Shv.resolve prog f75.ntmps)=some (g6 prog f75):=by kernel_rfl
theorem g1la :g7 prog f75.results.toList=some [.tmp 2]:=by kernel_rfl
def grw(F:Hs Un.D [.str]→Option (Hs Un.D [.str])) :FSpec Un:=⟨75,[.c (.ptr 0 0)],[.bld 130 ((.bufc 1)),.buf 5],[.str],.c (.hole .str),[.bld 130 ((.bufc 1)),.gone],[.str],F⟩
def g8e :FSpec Un:=grw g5l
theorem gfi :FSnd prog g8e:=FSnd.of fun h r hr=>FAt.of_body (s:=g8e) (fo:=foS []) (lo:=loL []) func75 g1oz g1la (by kernel_rfl) FoSnd.nil (LoOk.snd LoOk.nil) (Eq.trans (by kernel_rfl) hr)
end
section
open Go Go.Proofs.YthnmepafpikaiaaGreat.Shv
open Tryz
set_option maxRecDepth 100000
def g1w(x_:List SRaw × Int × Int × List SType × Int × List EncodeEntry) :Option (List SType × Int × List EncodeEntry):=
 match x_ with
 | (t57,t58_1,t59,b_16,b_17,b_18)=>
 if decide (t59 < t58_1)=true then
 if inR t59 t57.length=true then
 some (t57.getD t59.toNat dSRaw) >>=fun x0_4=>
 gbb (x0_4.ID,false,x0_4.Data) >>=fun r_8=>
 some [(⟨x0_4.ID,r_8⟩:EncodeEntry)] >>=fun t72=>
 if room 24 (b_18++t72).length=true then
 g1w (t57,t58_1,addI .i64 t59 1,b_16,b_17,b_18++t72)
 else none
 else none
 else
 some (b_16,b_17,b_18)
  partial_fixpoint
theorem F98_b :gg prog 98=true:=by kernel_rfl
theorem g1p0 :f98.body.bind (Shv.resolve prog f98.ntmps)=some (g6 prog f98):=by kernel_rfl
theorem g1lb :g7 prog f98.results.toList=some [.tmp 8]:=by kernel_rfl
def gfj :Shape:=⟨[(9,.c (.arr 1)),(57,.c (.hole (.slice (.nm 2)))),(58,.c (.hole (.int .i64))),(59,.c (.hole (.int .i64)))],[.box [.hole (.slice (.nm 3)),.hole (.int .i64)],.arr (.nm 6)]⟩
def ga5 :List Ty:=[.slice (.nm 2),.int .i64,.int .i64,.slice (.nm 3),.int .i64,.slice (.nm 6)]
def g95 :List OSpec:=[⟨.exit 2,⟨[(9,.c (.arr 1))],[.box [.hole (.slice (.nm 3)),.hole (.int .i64)],.arr (.nm 6)]⟩,[],[.slice (.nm 3),.int .i64,.slice (.nm 6)]⟩]
def gqb(F:Hs Un.D ga5→Option (OSum Un g95)) :LSpec Un:=⟨gfj,[],ga5,g95,F⟩
def ggf :LSpec Un:=gqb g1w
theorem goc :LSnd prog f98.ntmps 1 (gn (g6 prog f98) 1) ggf:=fun h o ho=>g1w.partial_correctness (fun h o=>LAt (U:=Un) prog f98.ntmps 1 (gn (g6 prog f98) 1) gfj ga5 g95 h o) (fun F1 HF1 h o ho=>LAt.of_round (fo:=foS [gdn]) (lo:=loL []) (own:=[]) (F':=F1) (FoSnd.cons F68_b gk7 FoSnd.nil) (LoOk.snd LoOk.nil) HF1 (Eq.trans (by kernel_rfl) ho)) h o ho
def g1x(x_:Int × Int × List SType × Int × List EncodeEntry × List UInt8) :Option (List SType × Int × List UInt8):=
 match x_ with
 | (t78_1,t79,b_19,b_20,b_21,b_22)=>
 if decide (t79 < t78_1)=true then
 if inR t79 b_21.length=true then
 if decide (t79.toNat < b_21.length)=true then
 g2j ((b_21.getD t79.toNat dEncodeEntry).text,b_22) >>=fun r_9=>
 g1x (t78_1,addI .i64 t79 1,b_19,b_20,b_21,r_9.2)
 else none
 else none
 else
 some (b_19,b_20,b_22)
  partial_fixpoint
def gfk :Shape:=⟨[(14,.c (.ptr 1 0)),(77,.c (.arr 2)),(78,.c (.hole (.int .i64))),(79,.c (.hole (.int .i64)))],[.box [.hole (.slice (.nm 3)),.hole (.int .i64)],.bld 130 ((.bufc 3)),.arr (.nm 6),.buf 5]⟩
def ga6 :List Ty:=[.int .i64,.int .i64,.slice (.nm 3),.int .i64,.slice (.nm 6),.str]
def g96 :List OSpec:=[⟨.exit 4,⟨[(14,.c (.ptr 1 0))],[.box [.hole (.slice (.nm 3)),.hole (.int .i64)],.bld 130 ((.bufc 2)),.buf 5]⟩,[],[.slice (.nm 3),.int .i64,.str]⟩]
def gqc(F:Hs Un.D ga6→Option (OSum Un g96)) :LSpec Un:=⟨gfk,[],ga6,g96,F⟩
def ggg :LSpec Un:=gqc g1x
theorem god :LSnd prog f98.ntmps 1 (gn (g6 prog f98) 2) ggg:=fun h o ho=>g1x.partial_correctness (fun h o=>LAt (U:=Un) prog f98.ntmps 1 (gn (g6 prog f98) 2) gfk ga6 g96 h o) (fun F1 HF1 h o ho=>LAt.of_round (fo:=foS [g62]) (lo:=loL []) (own:=[]) (F':=F1) (FoSnd.cons F73_b gbo FoSnd.nil) (LoOk.snd LoOk.nil) HF1 (Eq.trans (by kernel_rfl) ho)) h o ho
mutual
def g1d(x_:Int × SValue × Int × List SType × Int) :Option (List UInt8 × List SType × Int):=
 match x_ with
 | (t,v,level,b,b_1)=>
 some (maxI b_1 level) >>=fun t19=>
 if inR t b.length=true then
 some (b.getD t.toNat dSType) >>=fun x0=>
 if decide (x0.Kind=1)=true then
 if v.Bool_=true then
 some ([1],b,t19)
 else
 some ([],b,t19)
 else
 if decide (x0.Kind=2)=true then
 ga4 v.Int_ >>=fun r=>
 gif r >>=fun r_1=>
 some (r_1,b,t19)
 else
 if decide (x0.Kind=3)=true then
 some (v.Str,b,t19)
 else
 if decide (x0.Kind=4)=true then
 gif (wrp .u64 v.ID) >>=fun r_2=>
 some (r_2,b,t19)
 else
 if decide (x0.Kind=5)=true then
 g6h (x0,SValue.eta v,level,b,t19) >>=fun r_3=>
 some (r_3.1,r_3.2.1,r_3.2.2)
 else
 if decide (x0.Kind=6)=true then
 g5p (x0,SValue.eta v,level,b,t19) >>=fun r_7=>
 some (r_7.1,r_7.2.1,r_7.2.2)
 else
 if decide (x0.Kind=9)=true then
 if decide ((v.Items.length:Int)=0)=true then
 some ([],b,t19)
 else
 if inR 0 v.Items.length=true then
 g1d (x0.Elem,SValue.eta (v.Items.getD (0:Int).toNat dSValue),addI .i64 level 1,b,t19) >>=fun r_11=>
 if decide ([1].length+r_11.1.length≤g26)=true then
 some ([1]++r_11.1,r_11.2.1,r_11.2.2)
 else none
 else none
 else
 g1f (level,v.Items,(v.Items.length:Int),0,b,t19,SValue.eta v,x0,[]) >>=fun o=>
 g5l o.2.2 >>=fun r_15=>
 some (r_15,o.1,o.2.1)
 else none
  partial_fixpoint
def g6h(x_:SType × SValue × Int × List SType × Int) :Option (List UInt8 × List SType × Int):=
 match x_ with
 | (x0,v,level,b,b_1)=>
 g2b (level,x0.Members,(x0.Members.length:Int),0,b,b_1,SValue.eta v,[]) >>=fun o=>
 g1w (o.2.2.1.Rest,(o.2.2.1.Rest.length:Int),0,o.1,o.2.1,o.2.2.2) >>=fun o_1=>
 gzf o_1.2.2 >>=fun r=>
 if(decide (r.length=o_1.2.2.length) && true)=true then
 g1x ((r.length:Int),0,o_1.1,o_1.2.1,r,[]) >>=fun o_2=>
 g5l o_2.2.2 >>=fun r_1=>
 some (r_1,o_2.1,o_2.2.1)
 else none
  partial_fixpoint
def g5p(x_:SType × SValue × Int × List SType × Int) :Option (List UInt8 × List SType × Int):=
 match x_ with
 | (x0,v,level,b,b_1)=>
 gcd (wrp .u64 v.ID) >>=fun r=>
 g38 (x0,v.ID) >>=fun r_1=>
 if(!r_1.2)=true then
 if inR 0 v.Rest.length=true then
 some (v.Rest.getD (0:Int).toNat dSRaw) >>=fun x0_1=>
 if decide (r.length+x0_1.Data.length≤g26)=true then
 some (r++x0_1.Data,b,b_1)
 else none
 else none
 else
 if inR r_1.1 x0.Members.length=true then
 if inR 0 v.Items.length=true then
 g1d ((x0.Members.getD r_1.1.toNat dSMember).Type_,SValue.eta (v.Items.getD (0:Int).toNat dSValue),addI .i64 level 1,b,b_1) >>=fun r_4=>
 if decide (r.length+r_4.1.length≤g26)=true then
 some (r++r_4.1,r_4.2.1,r_4.2.2)
 else none
 else none
 else none
  partial_fixpoint
def g1f(x_:Int × List SValue × Int × Int × List SType × Int × SValue × SType × List UInt8) :Option (List SType × Int × List UInt8):=
 match x_ with
 | (level_1,t84,t85_1,t86,b_5,b_6,b_7,b_8,b_9)=>
 if decide (t86 < t85_1)=true then
 if inR t86 t84.length=true then
 some (t84.getD t86.toNat dSValue) >>=fun x0_2=>
 if decide (b_8.Kind=8)=true then
 if inR t86 b_7.Keys.length=true then
 g1d (b_8.Key,SValue.eta (b_7.Keys.getD t86.toNat dSValue),addI .i64 level_1 1,b_5,b_6) >>=fun r_16=>
 g8d r_16.1 >>=fun r_20=>
 g2j (r_20,b_9) >>=fun r_21=>
 g1d (b_8.Elem,SValue.eta x0_2,addI .i64 level_1 1,r_16.2.1,r_16.2.2) >>=fun r_24=>
 g8d r_24.1 >>=fun r_28=>
 g2j (r_28,r_21.2) >>=fun r_29=>
 g1f (level_1,t84,t85_1,addI .i64 t86 1,r_24.2.1,r_24.2.2,SValue.eta b_7,b_8,r_29.2)
 else none
 else
 g1d (b_8.Elem,SValue.eta x0_2,addI .i64 level_1 1,b_5,b_6) >>=fun r_32=>
 g8d r_32.1 >>=fun r_36=>
 g2j (r_36,b_9) >>=fun r_37=>
 g1f (level_1,t84,t85_1,addI .i64 t86 1,r_32.2.1,r_32.2.2,SValue.eta b_7,b_8,r_37.2)
 else none
 else
 some (b_5,b_6,b_9)
  partial_fixpoint
def g2b(x_:Int × List SMember × Int × Int × List SType × Int × SValue × List EncodeEntry) :Option (List SType × Int × SValue × List EncodeEntry):=
 match x_ with
 | (level_1,t18,t19_1,t20,b_12,b_13,b_14,b_15)=>
 if decide (t20 < t19_1)=true then
 if inR t20 t18.length=true then
 some (t18.getD t20.toNat dSMember) >>=fun x0_1=>
 if inR t20 b_14.Items.length=true then
 gdm ((⟨x0_1.ID,x0_1.Name,x0_1.Type_,x0_1.Critical,x0_1.HasDefault,SValue.eta x0_1.Default⟩:SMember),SValue.eta (b_14.Items.getD t20.toNat dSValue)) >>=fun r_2=>
 if(!r_2)=true then
 if inR t20 b_14.Items.length=true then
 g1d (x0_1.Type_,SValue.eta (b_14.Items.getD t20.toNat dSValue),addI .i64 level_1 1,b_12,b_13) >>=fun r_3=>
 gbb (x0_1.ID,x0_1.Critical,r_3.1) >>=fun r_7=>
 some [(⟨x0_1.ID,r_7⟩:EncodeEntry)] >>=fun t53=>
 if room 24 (b_15++t53).length=true then
 g2b (level_1,t18,t19_1,addI .i64 t20 1,r_3.2.1,r_3.2.2,SValue.eta b_14,b_15++t53)
 else none
 else none
 else
 g2b (level_1,t18,t19_1,addI .i64 t20 1,b_12,b_13,SValue.eta b_14,b_15)
 else none
 else none
 else
 some (b_12,b_13,SValue.eta b_14,b_15)
  partial_fixpoint
end
theorem F57_b :gg prog 57=true:=by kernel_rfl
theorem g1p1 :f57.body.bind (Shv.resolve prog f57.ntmps)=some (g6 prog f57):=by kernel_rfl
theorem g1lc :g7 prog f57.results.toList=some [.tmp 8]:=by kernel_rfl
def g59(F:Hs Un.D [.int .i64,.nm 1,.int .i64,.slice (.nm 3),.int .i64]→Option (Hs Un.D [.str,.slice (.nm 3),.int .i64])) :FSpec Un:=⟨57,[.c (.ptr 0 0),.c (.hole (.int .i64)),.row 1,.c (.hole (.int .i64))],[.box [.hole (.slice (.nm 3)),.hole (.int .i64)]],[.int .i64,.nm 1,.int .i64,.slice (.nm 3),.int .i64],.c (.hole .str),[.box [.hole (.slice (.nm 3)),.hole (.int .i64)]],[.str,.slice (.nm 3),.int .i64],F⟩
def g6l :FSpec Un:=g59 g1d
def geb :Shape:=⟨[(0,.c (.ptr 0 0)),(3,.c (.hole (.int .i64))),(6,.c (.ptr 1 0)),(9,.c (.ptr 2 0)),(10,.c (.ptr 3 0)),(84,.c (.hole (.slice (.nm 1)))),(85,.c (.hole (.int .i64))),(86,.c (.hole (.int .i64)))],[.box [.hole (.slice (.nm 3)),.hole (.int .i64)],.brow 1,.brow 3,.bld 130 ((.bufc 4)),.buf 5]⟩
def g9p :List Ty:=[.int .i64,.slice (.nm 1),.int .i64,.int .i64,.slice (.nm 3),.int .i64,.nm 1,.nm 3,.str]
def g8r :List OSpec:=[⟨.exit 1,⟨[(10,.c (.ptr 1 0))],[.box [.hole (.slice (.nm 3)),.hole (.int .i64)],.bld 130 ((.bufc 2)),.buf 5]⟩,[],[.slice (.nm 3),.int .i64,.str]⟩]
def gfl(F:Hs Un.D g9p→Option (OSum Un g8r)) :LSpec Un:=⟨geb,[],g9p,g8r,F⟩
def gp6 :LSpec Un:=gfl g1f
theorem F99_b :gg prog 99=true:=by kernel_rfl
theorem g1p2 :f99.body.bind (Shv.resolve prog f99.ntmps)=some (g6 prog f99):=by kernel_rfl
theorem g1ld :g7 prog f99.results.toList=some [.tmp 8]:=by kernel_rfl
def gko(F:Hs Un.D [.nm 3,.nm 1,.int .i64,.slice (.nm 3),.int .i64]→Option (Hs Un.D [.str,.slice (.nm 3),.int .i64])) :FSpec Un:=⟨99,[.c (.ptr 0 0),.row 3,.row 1,.c (.hole (.int .i64))],[.box [.hole (.slice (.nm 3)),.hole (.int .i64)]],[.nm 3,.nm 1,.int .i64,.slice (.nm 3),.int .i64],.c (.hole .str),[.box [.hole (.slice (.nm 3)),.hole (.int .i64)]],[.str,.slice (.nm 3),.int .i64],F⟩
def gdo :FSpec Un:=gko g5p
def gj9(F:Hs Un.D [.nm 3,.nm 1,.int .i64,.slice (.nm 3),.int .i64]→Option (Hs Un.D [.str,.slice (.nm 3),.int .i64])) :FSpec Un:=⟨98,[.c (.ptr 0 0),.row 3,.row 1,.c (.hole (.int .i64))],[.box [.hole (.slice (.nm 3)),.hole (.int .i64)]],[.nm 3,.nm 1,.int .i64,.slice (.nm 3),.int .i64],.c (.hole .str),[.box [.hole (.slice (.nm 3)),.hole (.int .i64)]],[.str,.slice (.nm 3),.int .i64],F⟩
def gcy :FSpec Un:=gj9 g6h
def gfm :Shape:=⟨[(0,.c (.ptr 0 0)),(3,.c (.hole (.int .i64))),(6,.c (.ptr 1 0)),(9,.c (.arr 2)),(18,.c (.hole (.slice (.nm 0)))),(19,.c (.hole (.int .i64))),(20,.c (.hole (.int .i64)))],[.box [.hole (.slice (.nm 3)),.hole (.int .i64)],.brow 1,.arr (.nm 6)]⟩
def ga7 :List Ty:=[.int .i64,.slice (.nm 0),.int .i64,.int .i64,.slice (.nm 3),.int .i64,.nm 1,.slice (.nm 6)]
def g97 :List OSpec:=[⟨.exit 0,⟨[(6,.c (.ptr 1 0)),(9,.c (.arr 2))],[.box [.hole (.slice (.nm 3)),.hole (.int .i64)],.brow 1,.arr (.nm 6)]⟩,[],[.slice (.nm 3),.int .i64,.nm 1,.slice (.nm 6)]⟩]
def ggh(F:Hs Un.D ga7→Option (OSum Un g97)) :LSpec Un:=⟨gfm,[(.slot 9,.nm 6)],ga7,g97,F⟩
def gqd :LSpec Un:=ggh g2b
theorem gqe :(FSnd prog g6l)∧(LSnd prog f57.ntmps 1 (gn (g6 prog f57) 0) gp6)∧(FSnd prog gdo)∧(FSnd prog gcy)∧(LSnd prog f98.ntmps 1 (gn (g6 prog f98) 0) gqd):=g1d.mutual_partial_correctness (fun h r=>FAt prog g6l h r) (fun h o=>LAt (U:=Un) prog f57.ntmps 1 (gn (g6 prog f57) 0) geb g9p g8r h o) (fun h r=>FAt prog gdo h r) (fun h r=>FAt prog gcy h r) (fun h o=>LAt (U:=Un) prog f98.ntmps 1 (gn (g6 prog f98) 0) gfm ga7 g97 h o)
 (fun F1 F2 F3 F4 HF1 HF2 HF3 HF4 h o ho=>FAt.of_body (s:=(g59 F1)) (fo:=foS [gge,grt,gj9 F4,gko F3,g59 F1,g8e]) (lo:=loL [(0,gfl F2)]) func57 g1p1 g1lc (by kernel_rfl) (FoSnd.cons F97_b gpq (FoSnd.cons F96_b g16b (FoSnd.cons F98_b HF4 (FoSnd.cons F99_b HF3 (FoSnd.cons F57_b HF1 (FoSnd.cons F75_b gfi FoSnd.nil)))))) (LoOk.snd (LoOk.cons HF2 LoOk.nil)) (Eq.trans (by kernel_rfl) ho))
 (fun F1 F2 HF1 HF2 h o ho=>LAt.of_round (fo:=foS [g59 F1,gig,g62]) (lo:=loL []) (own:=[]) (F':=F2) (FoSnd.cons F57_b HF1 (FoSnd.cons g1fr grv (FoSnd.cons F73_b gbo FoSnd.nil))) (LoOk.snd LoOk.nil) HF2 (Eq.trans (by kernel_rfl) ho))
 (fun F1 HF1 h o ho=>FAt.of_body (s:=gdo) (fo:=foS [ghk,g89,g59 F1]) (lo:=loL []) func99 g1p2 g1ld (by kernel_rfl) (FoSnd.cons g19w gnj (FoSnd.cons F82_b gaf (FoSnd.cons F57_b HF1 FoSnd.nil))) (LoOk.snd LoOk.nil) (Eq.trans (by kernel_rfl) ho))
 (fun F5 HF5 h o ho=>FAt.of_body (s:=gcy) (fo:=foS [gva,g8e]) (lo:=loL [(0,ggh F5),(1,ggf),(2,ggg)]) func98 g1p0 g1lb (by kernel_rfl) (FoSnd.cons g1nt g12n (FoSnd.cons F75_b gfi FoSnd.nil)) (LoOk.snd (LoOk.cons HF5 (LoOk.cons goc (LoOk.cons god LoOk.nil)))) (Eq.trans (by kernel_rfl) ho))
 (fun F1 F5 HF1 HF5 h o ho=>LAt.of_round (fo:=foS [gk5,g59 F1,gdn]) (lo:=loL []) (own:=[(.slot 9,.nm 6)]) (F':=F5) (FoSnd.cons g1ow gzo (FoSnd.cons F57_b HF1 (FoSnd.cons F68_b gk7 FoSnd.nil))) (LoOk.snd LoOk.nil) HF5 (Eq.trans (by kernel_rfl) ho))
theorem ggi :FSnd prog g6l:=gqe.1
def ga8(x_:SSchema × Int × SValue) :Option (List UInt8 × Int):=
 match x_ with
 | (s,t,v)=>
 g4z ((⟨s.Types⟩:SSchema),t,SValue.eta v) >>=fun r=>
 if(!(decide (r=0)))=true then
 some ([],r)
 else
 g1d (t,SValue.eta v,1,s.Types,0) >>=fun r_1=>
 if(bif decide (4096 < (r_1.1.length:Int))then true else decide (200 < r_1.2.2))=true then
 some ([],3)
 else
 some (r_1.1,0)
theorem F26_b :gg prog 26=true:=by kernel_rfl
theorem g1p3 :f26.body.bind (Shv.resolve prog f26.ntmps)=some (g6 prog f26):=by kernel_rfl
theorem g1le :g7 prog f26.results.toList=some [.tmp 6,.tmp 7]:=by kernel_rfl
def g154(F:Hs Un.D [.nm 5,.int .i64,.nm 1]→Option (Hs Un.D [.str,.int .i64])) :FSpec Un:=⟨26,[.row 5,.c (.hole (.int .i64)),.row 1],[],[.nm 5,.int .i64,.nm 1],.tup [.c (.hole .str),.c (.hole (.int .i64))],[],[.str,.int .i64],F⟩
def ggj :FSpec Un:=g154 ga8
theorem gpr :FSnd prog ggj:=FSnd.of fun h r hr=>FAt.of_body (s:=ggj) (fo:=foS [gk3,g6l]) (lo:=loL []) func26 g1p3 g1le (by kernel_rfl) (FoSnd.cons F56_b gzn (FoSnd.cons F57_b ggi FoSnd.nil)) (LoOk.snd LoOk.nil) (Eq.trans (by kernel_rfl) hr)
def g5h(x_:List UInt8 × Int × Int × Int) :Option ((Int × Int × Int) ⊕ (Unit)):=
 match x_ with
 | (s_1,n,t10_1,t11)=>
 if decide (t11 < t10_1)=true then
 if inR t11 s_1.length=true then
 some (g4p s_1 t11) >>=fun t16=>
 if(bif decide (t11=9)then decide (1 < t16)else false)=true then
 some (.inl (0,0,7))
 else
 if decide (128≤t16)=true then
 some (mulI .i64 7 t11) >>=fun t41=>
 if decide (0≤t41)=true then
 g5h (s_1,orI .u64 n (shlI .u64 (wrp .u64 (andI .u8 t16 127)) t41),t10_1,addI .i64 t11 1)
 else none
 else
 if(bif decide (t16=0)then decide (0 < t11)else false)=true then
 some (.inl (0,0,2))
 else
 some (mulI .i64 7 t11) >>=fun t21=>
 if decide (0≤t21)=true then
 some (.inl (orI .u64 n (shlI .u64 (wrp .u64 t16) t21),addI .i64 t11 1,0))
 else none
 else none
 else
 some (.inr ())
  partial_fixpoint
theorem F76_b :gg prog 76=true:=by kernel_rfl
theorem g1p4 :f76.body.bind (Shv.resolve prog f76.ntmps)=some (g6 prog f76):=by kernel_rfl
theorem g1lf :g7 prog f76.results.toList=some [.tmp 2,.tmp 3,.tmp 4]:=by kernel_rfl
def grx :Shape:=⟨[(0,.c (.hole .str)),(5,.c (.hole (.int .u64))),(10,.c (.hole (.int .i64))),(11,.c (.hole (.int .i64)))],[]⟩
def gk8 :List Ty:=[.str,.int .u64,.int .i64,.int .i64]
def ghl :List OSpec:=[⟨.ret,⟨[(2,.c (.hole (.int .u64))),(3,.c (.hole (.int .i64))),(4,.c (.hole (.int .i64)))],[]⟩,[],[.int .u64,.int .i64,.int .i64]⟩,⟨.exit 0,⟨[],[]⟩,[],[]⟩]
def g155(F:Hs Un.D gk8→Option (OSum Un ghl)) :LSpec Un:=⟨grx,[],gk8,ghl,F⟩
def gtf :LSpec Un:=g155 g5h
theorem g111 :LSnd prog f76.ntmps 0 (gn (g6 prog f76) 0) gtf:=fun h o ho=>g5h.partial_correctness (fun h o=>LAt (U:=Un) prog f76.ntmps 0 (gn (g6 prog f76) 0) grx gk8 ghl h o) (fun F1 HF1 h o ho=>LAt.of_round (fo:=foS []) (lo:=loL []) (own:=[]) (F':=F1) FoSnd.nil (LoOk.snd LoOk.nil) HF1 (Eq.trans (by kernel_rfl) ho)) h o ho
def glm(s:List UInt8) :Option (Int × Int × Int):=
 g5h (s,0,minI 10 (s.length:Int),0) >>=fun o=>
 match o with
 | .inl o_1=>
 some (o_1.1,o_1.2.1,o_1.2.2)
 | .inr o_2=>
 some (0,0,10)
def g19y(F:Hs Un.D [.str]→Option (Hs Un.D [.int .u64,.int .i64,.int .i64])) :FSpec Un:=⟨76,[.c (.hole .str)],[],[.str],.tup [.c (.hole (.int .u64)),.c (.hole (.int .i64)),.c (.hole (.int .i64))],[],[.int .u64,.int .i64,.int .i64],F⟩
def gry :FSpec Un:=g19y glm
theorem g16e :FSnd prog gry:=FSnd.of fun h r hr=>FAt.of_body (s:=gry) (fo:=foS []) (lo:=loL [(0,gtf)]) func76 g1p4 g1lf (by kernel_rfl) FoSnd.nil (LoOk.snd (LoOk.cons g111 LoOk.nil)) (Eq.trans (by kernel_rfl) hr)
def g9k(s:List UInt8) :Option (Int × List UInt8 × Bool):=
 glm s >>=fun r=>
 if(!(decide (r.2.2=0)))=true then
 some (0,[],false)
 else
 if slR r.2.1 (s.length:Int) s.length=true then
 some (r.1,cutL s r.2.1 (s.length:Int),true)
 else none
theorem F41_b :gg prog 41=true:=by kernel_rfl
theorem g1p5 :f41.body.bind (Shv.resolve prog f41.ntmps)=some (g6 prog f41):=by kernel_rfl
theorem g1lg :g7 prog f41.results.toList=some [.tmp 2,.tmp 3,.tmp 4]:=by kernel_rfl
def g18d(F:Hs Un.D [.str]→Option (Hs Un.D [.int .u64,.str,.bool])) :FSpec Un:=⟨41,[.c (.hole .str)],[],[.str],.tup [.c (.hole (.int .u64)),.c (.hole .str),.c (.hole .bool)],[],[.int .u64,.str,.bool],F⟩
def gfn :FSpec Un:=g18d g9k
theorem gln :FSnd prog gfn:=FSnd.of fun h r hr=>FAt.of_body (s:=gfn) (fo:=foS [gry]) (lo:=loL []) func41 g1p5 g1lg (by kernel_rfl) (FoSnd.cons F76_b g16e FoSnd.nil) (LoOk.snd LoOk.nil) (Eq.trans (by kernel_rfl) hr)
def gfv(s:List UInt8) :Option (List UInt8 × List UInt8 × Bool):=
 g9k s >>=fun r=>
 if(bif (!r.2.2)then true else decide (wrp .u64 (r.2.1.length:Int) < r.1))=true then
 some ([],[],false)
 else
 if slR 0 r.1 r.2.1.length=true then
 if slR r.1 (r.2.1.length:Int) r.2.1.length=true then
 some (cutL r.2.1 0 r.1,cutL r.2.1 r.1 (r.2.1.length:Int),true)
 else none
 else none
theorem F42_b :gg prog 42=true:=by kernel_rfl
theorem g1p6 :f42.body.bind (Shv.resolve prog f42.ntmps)=some (g6 prog f42):=by kernel_rfl
theorem g1lh :g7 prog f42.results.toList=some [.tmp 2,.tmp 3,.tmp 4]:=by kernel_rfl
def g18e(F:Hs Un.D [.str]→Option (Hs Un.D [.str,.str,.bool])) :FSpec Un:=⟨42,[.c (.hole .str)],[],[.str],.tup [.c (.hole .str),.c (.hole .str),.c (.hole .bool)],[],[.str,.str,.bool],F⟩
def gjn :FSpec Un:=g18e gfv
theorem gtg :FSnd prog gjn:=FSnd.of fun h r hr=>FAt.of_body (s:=gjn) (fo:=foS [gfn]) (lo:=loL []) func42 g1p6 g1lh (by kernel_rfl) (FoSnd.cons F41_b gln FoSnd.nil) (LoOk.snd LoOk.nil) (Eq.trans (by kernel_rfl) hr)
def g3r(x_:List UInt8 × List (List UInt8)) :Option ((Int) ⊕ (List (List UInt8))):=
 match x_ with
 | (s,b_1)=>
 if(!(decide (s=[])))=true then
 gfv s >>=fun r=>
 if(!r.2.2)=true then
 some (.inl 12)
 else
 some [r.1] >>=fun t22=>
 if room 16 (b_1++t22).length=true then
 g3r (r.2.1,b_1++t22)
 else none
 else
 some (.inr b_1)
  partial_fixpoint
theorem F14_b :gg prog 14=true:=by kernel_rfl
theorem g1p7 :f14.body.bind (Shv.resolve prog f14.ntmps)=some (g6 prog f14):=by kernel_rfl
theorem g1li :g7 prog f14.results.toList=some [.tmp 2,.tmp 3]:=by kernel_rfl
def goe :Shape:=⟨[(4,.c (.arr 0)),(5,.c (.hole .str))],[.arr .str]⟩
def ghm :List Ty:=[.str,.slice .str]
def gev :List OSpec:=[⟨.ret,⟨[(2,.c (.cap0)),(3,.c (.hole (.int .i64)))],[]⟩,[],[.int .i64]⟩,⟨.exit 0,⟨[(4,.c (.arr 0))],[.arr .str]⟩,[],[.slice .str]⟩]
def g112(F:Hs Un.D ghm→Option (OSum Un gev)) :LSpec Un:=⟨goe,[(.slot 4,.str)],ghm,gev,F⟩
def gps :LSpec Un:=g112 g3r
theorem gy7 :LSnd prog f14.ntmps 0 (gn (g6 prog f14) 0) gps:=fun h o ho=>g3r.partial_correctness (fun h o=>LAt (U:=Un) prog f14.ntmps 0 (gn (g6 prog f14) 0) goe ghm gev h o) (fun F1 HF1 h o ho=>LAt.of_round (fo:=foS [gjn]) (lo:=loL []) (own:=[(.slot 4,.str)]) (F':=F1) (FoSnd.cons F42_b gtg FoSnd.nil) (LoOk.snd LoOk.nil) HF1 (Eq.trans (by kernel_rfl) ho)) h o ho
def g5i(payload:List UInt8) :Option (List (List UInt8) × Int):=
 g3r (payload,[]) >>=fun o=>
 match o with
 | .inl o_1=>
 some ([],o_1)
 | .inr o_2=>
 some (o_2,0)
def g16f(F:Hs Un.D [.str]→Option (Hs Un.D [.slice .str,.int .i64])) :FSpec Un:=⟨14,[.c (.hole .str)],[],[.str],.tup [.c (.hole (.slice .str)),.c (.hole (.int .i64))],[],[.slice .str,.int .i64],F⟩
def gdp :FSpec Un:=g16f g5i
theorem gk9 :FSnd prog gdp:=FSnd.of fun h r hr=>FAt.of_body (s:=gdp) (fo:=foS []) (lo:=loL [(0,gps)]) func14 g1p7 g1li (by kernel_rfl) FoSnd.nil (LoOk.snd (LoOk.cons gy7 LoOk.nil)) (Eq.trans (by kernel_rfl) hr)
end
section
open Go Go.Proofs.YthnmepafpikaiaaGreat.Shv
open Tryz
set_option maxRecDepth 100000
def g2w(x_:List (List UInt8) × List (List UInt8) × Int × Int) :Option ((Bool) ⊕ (Unit)):=
 match x_ with
 | (s1_1,s2_1,t12_1,t13)=>
 if decide (t13 < t12_1)=true then
 if inR t13 s1_1.length=true then
 if inR t13 s2_1.length=true then
 if(!(decide (s1_1.getD t13.toNat []=s2_1.getD t13.toNat [])))=true then
 some (.inl false)
 else
 g2w (s1_1,s2_1,t12_1,addI .i64 t13 1)
 else none
 else none
 else
 some (.inr ())
  partial_fixpoint
theorem F40_b :gg prog 40=true:=by kernel_rfl
theorem g1p8 :f40.body.bind (Shv.resolve prog f40.ntmps)=some (g6 prog f40):=by kernel_rfl
theorem g1lj :g7 prog f40.results.toList=some [.tmp 4]:=by kernel_rfl
def gbp :Shape:=⟨[(0,.c (.hole (.slice .str))),(1,.c (.hole (.slice .str))),(12,.c (.hole (.int .i64))),(13,.c (.hole (.int .i64)))],[]⟩
def g7w :List Ty:=[.slice .str,.slice .str,.int .i64,.int .i64]
def g6y :List OSpec:=[⟨.ret,⟨[(4,.c (.hole .bool))],[]⟩,[],[.bool]⟩,⟨.exit 0,⟨[],[]⟩,[],[]⟩]
def glo(F:Hs Un.D g7w→Option (OSum Un g6y)) :LSpec Un:=⟨gbp,[],g7w,g6y,F⟩
def gce :LSpec Un:=glo g2w
theorem gka :LSnd prog f40.ntmps 0 (gn (g6 prog f40) 0) gce:=fun h o ho=>g2w.partial_correctness (fun h o=>LAt (U:=Un) prog f40.ntmps 0 (gn (g6 prog f40) 0) gbp g7w g6y h o) (fun F1 HF1 h o ho=>LAt.of_round (fo:=foS []) (lo:=loL []) (own:=[]) (F':=F1) FoSnd.nil (LoOk.snd LoOk.nil) HF1 (Eq.trans (by kernel_rfl) ho)) h o ho
def gal(x_:List (List UInt8) × List (List UInt8)) :Option (Bool):=
 match x_ with
 | (s1,s2)=>
 if(!(decide ((s1.length:Int)=(s2.length:Int))))=true then
 some false
 else
 g2w (s1,s2,(s1.length:Int),0) >>=fun o=>
 match o with
 | .inl o_1=>
 some o_1
 | .inr o_2=>
 some true
def gof(F:Hs Un.D [.slice .str,.slice .str]→Option (Hs Un.D [.bool])) :FSpec Un:=⟨40,[.c (.hole (.slice .str)),.c (.hole (.slice .str))],[],[.slice .str,.slice .str],.c (.hole .bool),[],[.bool],F⟩
def g9q :FSpec Un:=gof gal
theorem gmn :FSnd prog g9q:=FSnd.of fun h r hr=>FAt.of_body (s:=g9q) (fo:=foS []) (lo:=loL [(0,gce)]) func40 g1p8 g1lj (by kernel_rfl) FoSnd.nil (LoOk.snd (LoOk.cons gka LoOk.nil)) (Eq.trans (by kernel_rfl) hr)
def g2x(x_:Int × List UInt8 × List SField) :Option ((Int) ⊕ (List SField)):=
 match x_ with
 | (last,s,b_1)=>
 if(!(decide (s=[])))=true then
 g9k s >>=fun r=>
 if(bif bif (!r.2.2)then true else decide (quoI .u64 r.1 2≤last)then true else decide (1000 < quoI .u64 r.1 2))=true then
 some (.inl 12)
 else
 gfv r.2.1 >>=fun r_4=>
 if(!r_4.2.2)=true then
 some (.inl 12)
 else
 some [(⟨wrp .i64 (quoI .u64 r.1 2),decide (remI r.1 2=1),r_4.1⟩:SField)] >>=fun t50=>
 if room 32 (b_1++t50).length=true then
 g2x (quoI .u64 r.1 2,r_4.2.1,b_1++t50)
 else none
 else
 some (.inr b_1)
  partial_fixpoint
theorem F12_b :gg prog 12=true:=by kernel_rfl
theorem g1p9 :f12.body.bind (Shv.resolve prog f12.ntmps)=some (g6 prog f12):=by kernel_rfl
theorem g1lk :g7 prog f12.results.toList=some [.tmp 2,.tmp 3]:=by kernel_rfl
def gmt :Shape:=⟨[(4,.c (.arr 0)),(5,.c (.hole (.int .u64))),(6,.c (.hole .str))],[.arr (.nm 8)]⟩
def gg0 :List Ty:=[.int .u64,.str,.slice (.nm 8)]
def gdq :List OSpec:=[⟨.ret,⟨[(2,.c (.cap0)),(3,.c (.hole (.int .i64)))],[]⟩,[],[.int .i64]⟩,⟨.exit 0,⟨[(4,.c (.arr 0))],[.arr (.nm 8)]⟩,[],[.slice (.nm 8)]⟩]
def gzp(F:Hs Un.D gg0→Option (OSum Un gdq)) :LSpec Un:=⟨gmt,[(.slot 4,.nm 8)],gg0,gdq,F⟩
def gog :LSpec Un:=gzp g2x
theorem gws :LSnd prog f12.ntmps 0 (gn (g6 prog f12) 0) gog:=fun h o ho=>g2x.partial_correctness (fun h o=>LAt (U:=Un) prog f12.ntmps 0 (gn (g6 prog f12) 0) gmt gg0 gdq h o) (fun F1 HF1 h o ho=>LAt.of_round (fo:=foS [gfn,gjn]) (lo:=loL []) (own:=[(.slot 4,.nm 8)]) (F':=F1) (FoSnd.cons F41_b gln (FoSnd.cons F42_b gtg FoSnd.nil)) (LoOk.snd LoOk.nil) HF1 (Eq.trans (by kernel_rfl) ho)) h o ho
def gc4(payload:List UInt8) :Option (List SField × Int):=
 g2x (0,payload,[]) >>=fun o=>
 match o with
 | .inl o_1=>
 some ([],o_1)
 | .inr o_2=>
 some (o_2,0)
def g156(F:Hs Un.D [.str]→Option (Hs Un.D [.slice (.nm 8),.int .i64])) :FSpec Un:=⟨12,[.c (.hole .str)],[],[.str],.tup [.c (.hole (.slice (.nm 8))),.c (.hole (.int .i64))],[],[.slice (.nm 8),.int .i64],F⟩
def ggk :FSpec Un:=g156 gc4
theorem gpt :FSnd prog ggk:=FSnd.of fun h r hr=>FAt.of_body (s:=ggk) (fo:=foS []) (lo:=loL [(0,gog)]) func12 g1p9 g1lk (by kernel_rfl) FoSnd.nil (LoOk.snd (LoOk.cons gws LoOk.nil)) (Eq.trans (by kernel_rfl) hr)
def gew(payload:List UInt8) :Option (Int × List UInt8 × Int):=
 g9k payload >>=fun r=>
 if(bif bif (!r.2.2)then true else decide (r.1 < 1)then true else decide (1000 < r.1))=true then
 some (0,[],12)
 else
 some (wrp .i64 r.1,r.2.1,0)
theorem F16_b :gg prog 16=true:=by kernel_rfl
theorem g1pa :f16.body.bind (Shv.resolve prog f16.ntmps)=some (g6 prog f16):=by kernel_rfl
theorem g1ll :g7 prog f16.results.toList=some [.tmp 2,.tmp 3,.tmp 4]:=by kernel_rfl
def g19z(F:Hs Un.D [.str]→Option (Hs Un.D [.int .i64,.str,.int .i64])) :FSpec Un:=⟨16,[.c (.hole .str)],[],[.str],.tup [.c (.hole (.int .i64)),.c (.hole .str),.c (.hole (.int .i64))],[],[.int .i64,.str,.int .i64],F⟩
def glp :FSpec Un:=g19z gew
theorem gvk :FSnd prog glp:=FSnd.of fun h r hr=>FAt.of_body (s:=glp) (fo:=foS [gfn]) (lo:=loL []) func16 g1pa g1ll (by kernel_rfl) (FoSnd.cons F41_b gln FoSnd.nil) (LoOk.snd LoOk.nil) (Eq.trans (by kernel_rfl) hr)
def gp7(x_:List UInt8 × List UInt8) :Option (Bool):=
 match x_ with
 | (a,b)=>
 some (bif decide ((a.length:Int) < (b.length:Int))then true else bif decide ((a.length:Int)=(b.length:Int))then Op.bytesLess a b else false)
theorem g1pb :gg prog 124=true:=by kernel_rfl
theorem g1lm :f124.body.bind (Shv.resolve prog f124.ntmps)=some (g6 prog f124):=by kernel_rfl
theorem g1im :g7 prog f124.results.toList=some [.tmp 4]:=by kernel_rfl
def g157(F:Hs Un.D [.str,.str]→Option (Hs Un.D [.bool])) :FSpec Un:=⟨124,[.c (.hole .str),.c (.hole .str)],[],[.str,.str],.c (.hole .bool),[],[.bool],F⟩
def glq :FSpec Un:=g157 gp7
theorem g113 :FSnd prog glq:=FSnd.of fun h r hr=>FAt.of_body (s:=glq) (fo:=foS []) (lo:=loL []) func124 g1lm g1im (by kernel_rfl) FoSnd.nil (LoOk.snd LoOk.nil) (Eq.trans (by kernel_rfl) hr)
def g6m(x_:List UInt8 × Int × Int × Int) :Option (Int):=
 match x_ with
 | (s_1,n_1,t17_1,t18)=>
 if decide (t18 < t17_1)=true then
 if inR t18 s_1.length=true then
 g6m (s_1,orI .u64 (shlI .u64 n_1 8) (wrp .u64 (g4p s_1 t18)),t17_1,addI .i64 t18 1)
 else none
 else
 some n_1
  partial_fixpoint
theorem g1pc :gg prog 127=true:=by kernel_rfl
theorem g1ln :f127.body.bind (Shv.resolve prog f127.ntmps)=some (g6 prog f127):=by kernel_rfl
theorem g1in :g7 prog f127.results.toList=some [.tmp 2,.tmp 3]:=by kernel_rfl
def glr :Shape:=⟨[(0,.c (.hole .str)),(4,.c (.hole (.int .u64))),(17,.c (.hole (.int .i64))),(18,.c (.hole (.int .i64)))],[]⟩
def gex :List Ty:=[.str,.int .u64,.int .i64,.int .i64]
def gcz :List OSpec:=[⟨.exit 0,⟨[(4,.c (.hole (.int .u64)))],[]⟩,[],[.int .u64]⟩]
def gy8(F:Hs Un.D gex→Option (OSum Un gcz)) :LSpec Un:=⟨glr,[],gex,gcz,F⟩
def gmu :LSpec Un:=gy8 g6m
theorem gvl :LSnd prog f127.ntmps 0 (gn (g6 prog f127) 0) gmu:=fun h o ho=>g6m.partial_correctness (fun h o=>LAt (U:=Un) prog f127.ntmps 0 (gn (g6 prog f127) 0) glr gex gcz h o) (fun F1 HF1 h o ho=>LAt.of_round (fo:=foS []) (lo:=loL []) (own:=[]) (F':=F1) FoSnd.nil (LoOk.snd LoOk.nil) HF1 (Eq.trans (by kernel_rfl) ho)) h o ho
def gnk(s:List UInt8) :Option (Int × Int):=
 some (!(decide (s=[]))) >>=fun t7=>
 if(inR 0 s.length || (!t7))=true then
 if(bif t7 then decide (g4p s 0=0)else false)=true then
 some (0,2)
 else
 if decide (8 < (s.length:Int))=true then
 some (0,7)
 else
 g6m (s,0,(s.length:Int),0) >>=fun o=>
 some (o,0)
 else none
def g131(F:Hs Un.D [.str]→Option (Hs Un.D [.int .u64,.int .i64])) :FSpec Un:=⟨127,[.c (.hole .str)],[],[.str],.tup [.c (.hole (.int .u64)),.c (.hole (.int .i64))],[],[.int .u64,.int .i64],F⟩
def gkb :FSpec Un:=g131 gnk
theorem gzq :FSnd prog gkb:=FSnd.of fun h r hr=>FAt.of_body (s:=gkb) (fo:=foS []) (lo:=loL [(0,gmu)]) func127 g1ln g1in (by kernel_rfl) FoSnd.nil (LoOk.snd (LoOk.cons gvl LoOk.nil)) (Eq.trans (by kernel_rfl) hr)
def gls(n:Int) :Option (Int):=
 some (xorI .i64 (wrp .i64 (shrI .u64 n 1)) (subI .i64 0 (wrp .i64 (andI .u64 n 1))))
theorem g1pd :gg prog 128=true:=by kernel_rfl
theorem g1lo :f128.body.bind (Shv.resolve prog f128.ntmps)=some (g6 prog f128):=by kernel_rfl
theorem g1io :g7 prog f128.results.toList=some [.tmp 2]:=by kernel_rfl
def g114(F:Hs Un.D [.int .u64]→Option (Hs Un.D [.int .i64])) :FSpec Un:=⟨128,[.c (.hole (.int .u64))],[],[.int .u64],.c (.hole (.int .i64)),[],[.int .i64],F⟩
def gis :FSpec Un:=g114 gls
theorem gy9 :FSnd prog gis:=FSnd.of fun h r hr=>FAt.of_body (s:=gis) (fo:=foS []) (lo:=loL []) func128 g1lo g1io (by kernel_rfl) FoSnd.nil (LoOk.snd LoOk.nil) (Eq.trans (by kernel_rfl) hr)
def gjo(x_:SType × List UInt8) :Option (Bool):=
 match x_ with
 | (x0,p)=>
 if decide (x0.Kind=1)=true then
 some (bif decide (p=[])then true else decide (p=[1]))
 else
 if decide (x0.Kind=3)=true then
 some (decide ((p.length:Int)≤x0.Max))
 else
 gnk p >>=fun r=>
 if(!(decide (r.2=0)))=true then
 some false
 else
 if decide (x0.Kind=2)=true then
 gls r.1 >>=fun r_3=>
 some (bif decide (x0.Low≤r_3)then decide (r_3≤x0.High)else false)
 else
 if(bif decide (r.1 < 1)then true else decide (1000 < r.1))=true then
 some false
 else
 gc2 (x0,wrp .i64 r.1) >>=fun r_4=>
 some (bif r_4.2 then true else x0.Open)
theorem F83_b :gg prog 83=true:=by kernel_rfl
theorem g1pe :f83.body.bind (Shv.resolve prog f83.ntmps)=some (g6 prog f83):=by kernel_rfl
theorem g1lp :g7 prog f83.results.toList=some [.tmp 4]:=by kernel_rfl
def g158(F:Hs Un.D [.nm 3,.str]→Option (Hs Un.D [.bool])) :FSpec Un:=⟨83,[.row 3,.c (.hole .str)],[],[.nm 3,.str],.c (.hole .bool),[],[.bool],F⟩
def glt :FSpec Un:=g158 gjo
theorem g115 :FSnd prog glt:=FSnd.of fun h r hr=>FAt.of_body (s:=glt) (fo:=foS [gkb,gis,ggc]) (lo:=loL []) func83 g1pe g1lp (by kernel_rfl) (FoSnd.cons g1pc gzq (FoSnd.cons g1pd gy9 (FoSnd.cons g1fo gpp FoSnd.nil))) (LoOk.snd LoOk.nil) (Eq.trans (by kernel_rfl) hr)
def g3a(x_:Int × List SMember × Int × Int) :Option (Int):=
 match x_ with
 | (seen_3,t93,t94_1,t95)=>
 if decide (t95 < t94_1)=true then
 if inR t95 t93.length=true then
 if(!(t93.getD t95.toNat dSMember).HasDefault)=true then
 g3a (subI .i64 seen_3 1,t93,t94_1,addI .i64 t95 1)
 else
 g3a (seen_3,t93,t94_1,addI .i64 t95 1)
 else none
 else
 some seen_3
  partial_fixpoint
theorem F80_b :gg prog 80=true:=by kernel_rfl
theorem g1pf :f80.body.bind (Shv.resolve prog f80.ntmps)=some (g6 prog f80):=by kernel_rfl
theorem g1lq :g7 prog f80.results.toList=some [.tmp 8]:=by kernel_rfl
def gfo :Shape:=⟨[(11,.c (.hole (.int .i64))),(93,.c (.hole (.slice (.nm 0)))),(94,.c (.hole (.int .i64))),(95,.c (.hole (.int .i64)))],[]⟩
def ga9 :List Ty:=[.int .i64,.slice (.nm 0),.int .i64,.int .i64]
def g98 :List OSpec:=[⟨.exit 2,⟨[(11,.c (.hole (.int .i64)))],[]⟩,[],[.int .i64]⟩]
def gqf(F:Hs Un.D ga9→Option (OSum Un g98)) :LSpec Un:=⟨gfo,[],ga9,g98,F⟩
def ggl :LSpec Un:=gqf g3a
theorem goh :LSnd prog f80.ntmps 0 (gn (g6 prog f80) 1) ggl:=fun h o ho=>g3a.partial_correctness (fun h o=>LAt (U:=Un) prog f80.ntmps 0 (gn (g6 prog f80) 1) gfo ga9 g98 h o) (fun F1 HF1 h o ho=>LAt.of_round (fo:=foS []) (lo:=loL []) (own:=[]) (F':=F1) FoSnd.nil (LoOk.snd LoOk.nil) HF1 (Eq.trans (by kernel_rfl) ho)) h o ho
mutual
def g1j(x_:EncodeReader × Int × List UInt8 × Int) :Option (Bool):=
 match x_ with
 | (r,t,p,level)=>
 if inR t r.s.Types.length=true then
 some (r.s.Types.getD t.toNat dSType) >>=fun x0=>
 if decide (200 < level)=true then
 some false
 else
 if decide (x0.Kind=5)=true then
 gam ((⟨(⟨r.s.Types⟩:SSchema)⟩:EncodeReader),x0,p,level) >>=fun r_1=>
 some r_1
 else
 some (decide (x0.Kind=7)) >>=fun t33=>
 if t33=true then
 if t33=true then
 g8y ((⟨(⟨r.s.Types⟩:SSchema)⟩:EncodeReader),x0,p,level) >>=fun r_2=>
 some r_2
 else
 if decide (x0.Kind=9)=true then
 some (decide (p=[])) >>=fun t43=>
 if(inR 0 p.length || (!(!t43)))=true then
 some (decide (g4p p 0=1)) >>=fun t47=>
 if(slR 1 (p.length:Int) p.length || (!((!t43) && t47)))=true then
 (if((!t43) && t47)=true then g1j ((⟨(⟨r.s.Types⟩:SSchema)⟩:EncodeReader),x0.Elem,cutL p 1 (p.length:Int),addI .i64 level 1)else some false) >>=fun r_3=>
 some (bif t43 then true else bif t47 then r_3 else false)
 else none
 else none
 else
 if decide (x0.Kind=6)=true then
 gew p >>=fun r_4=>
 if(!(decide (r_4.2.2=0)))=true then
 some false
 else
 g38 (x0,r_4.1) >>=fun r_8=>
 some (bif (!r_8.2)then x0.Open else false) >>=fun t80=>
 if(inR r_8.1 x0.Members.length || (!((!t80) && r_8.2)))=true then
 (if((!t80) && r_8.2)=true then g1j ((⟨(⟨r.s.Types⟩:SSchema)⟩:EncodeReader),(x0.Members.getD r_8.1.toNat dSMember).Type_,r_4.2.1,addI .i64 level 1)else some false) >>=fun r_11=>
 some (bif t80 then true else bif r_8.2 then r_11 else false)
 else none
 else
 gjo (x0,p) >>=fun r_12=>
 some r_12
 else
 if decide (x0.Kind=8)=true then
 g8y ((⟨(⟨r.s.Types⟩:SSchema)⟩:EncodeReader),x0,p,level) >>=fun r_13=>
 some r_13
 else
 if decide (x0.Kind=9)=true then
 some (decide (p=[])) >>=fun t43_1=>
 if(inR 0 p.length || (!(!t43_1)))=true then
 some (decide (g4p p 0=1)) >>=fun t47_1=>
 if(slR 1 (p.length:Int) p.length || (!((!t43_1) && t47_1)))=true then
 (if((!t43_1) && t47_1)=true then g1j ((⟨(⟨r.s.Types⟩:SSchema)⟩:EncodeReader),x0.Elem,cutL p 1 (p.length:Int),addI .i64 level 1)else some false) >>=fun r_14=>
 some (bif t43_1 then true else bif t47_1 then r_14 else false)
 else none
 else none
 else
 if decide (x0.Kind=6)=true then
 gew p >>=fun r_15=>
 if(!(decide (r_15.2.2=0)))=true then
 some false
 else
 g38 (x0,r_15.1) >>=fun r_19=>
 some (bif (!r_19.2)then x0.Open else false) >>=fun t80_1=>
 if(inR r_19.1 x0.Members.length || (!((!t80_1) && r_19.2)))=true then
 (if((!t80_1) && r_19.2)=true then g1j ((⟨(⟨r.s.Types⟩:SSchema)⟩:EncodeReader),(x0.Members.getD r_19.1.toNat dSMember).Type_,r_15.2.1,addI .i64 level 1)else some false) >>=fun r_22=>
 some (bif t80_1 then true else bif r_19.2 then r_22 else false)
 else none
 else
 gjo (x0,p) >>=fun r_23=>
 some r_23
 else none
  partial_fixpoint
def g8y(x_:EncodeReader × SType × List UInt8 × Int) :Option (Bool):=
 match x_ with
 | (r,x0,p,level)=>
 g5i p >>=fun r_1=>
 if(!(decide (r_1.2=0)))=true then
 some false
 else
 if decide (x0.Kind=7)=true then
 some (decide ((r_1.1.length:Int)≤x0.Max)) >>=fun t26=>
 if t26=true then
 g4v (r_1.1,r.s.Types,x0.Kind,x0.Name,x0.Low,x0.High,x0.Max,x0.Symbols,x0.Members,x0.Key,x0.Elem,x0.Open,level) >>=fun r_4=>
 some (bif t26 then(!r_4.1)else false)
 else
 some (bif t26 then false else false)
 else
 if(bif decide (remI (r_1.1.length:Int) 2=1)then true else decide (x0.Max < quoI .i64 (r_1.1.length:Int) 2))=true then
 some false
 else
 g6z (r_1.1,0,r.s.Types,x0.Kind,x0.Name,x0.Low,x0.High,x0.Max,x0.Symbols,x0.Members,x0.Key,x0.Elem,x0.Open,level) >>=fun o=>
 match o with
 | .inl o_1=>
 some o_1
 | .inr o_2=>
 some true
  partial_fixpoint
def g8w(x_:List UInt8 × List SType × Int × List UInt8 × Int × Int × Int × List SSymbol × List SMember × Int × Int × Bool × Int) :Option (Bool × List SType × Int × List UInt8 × Int × Int × Int × List SSymbol × List SMember × Int × Int × Bool × Int):=
 match x_ with
 | (p,b,b_1,b_2,b_3,b_4,b_5,b_6,b_7,b_8,b_9,b_10,b_11)=>
 g1j ((⟨(⟨b⟩:SSchema)⟩:EncodeReader),b_9,p,addI .i64 b_11 1) >>=fun r=>
 some ((!r),b,b_1,b_2,b_3,b_4,b_5,b_6,b_7,b_8,b_9,b_10,b_11)
  partial_fixpoint
def gam(x_:EncodeReader × SType × List UInt8 × Int) :Option (Bool):=
 match x_ with
 | (r,x0,p,level)=>
 gc4 p >>=fun r_1=>
 if(!(decide (r_1.2=0)))=true then
 some false
 else
 g3b (level,0,r_1.1,(r_1.1.length:Int),0,r.s.Types,x0) >>=fun o=>
 match o with
 | .inl o_1=>
 some o_1
 | .inr o_2=>
 g3a (o_2.1,o_2.2.Members,(o_2.2.Members.length:Int),0) >>=fun o_3=>
 some (decide (o_3=0))
  partial_fixpoint
def g4v(x_:List (List UInt8) × List SType × Int × List UInt8 × Int × Int × Int × List SSymbol × List SMember × Int × Int × Bool × Int) :Option (Bool × List SType × Int × List UInt8 × Int × Int × Int × List SSymbol × List SMember × Int × Int × Bool × Int):=
 match x_ with
 | (s,b,b_1,b_2,b_3,b_4,b_5,b_6,b_7,b_8,b_9,b_10,b_11)=>
 g5k (s,b,b_1,b_2,b_3,b_4,b_5,b_6,b_7,b_8,b_9,b_10,b_11) >>=fun r=>
 some (decide (0≤r.1),r.2.1,r.2.2.1,r.2.2.2.1,r.2.2.2.2.1,r.2.2.2.2.2.1,r.2.2.2.2.2.2.1,r.2.2.2.2.2.2.2.1,r.2.2.2.2.2.2.2.2.1,r.2.2.2.2.2.2.2.2.2.1,r.2.2.2.2.2.2.2.2.2.2.1,r.2.2.2.2.2.2.2.2.2.2.2.1,r.2.2.2.2.2.2.2.2.2.2.2.2)
  partial_fixpoint
def g5k(x_:List (List UInt8) × List SType × Int × List UInt8 × Int × Int × Int × List SSymbol × List SMember × Int × Int × Bool × Int) :Option (Int × List SType × Int × List UInt8 × Int × Int × Int × List SSymbol × List SMember × Int × Int × Bool × Int):=
 match x_ with
 | (s,b,b_1,b_2,b_3,b_4,b_5,b_6,b_7,b_8,b_9,b_10,b_11)=>
 g3e (s,(s.length:Int),0,b,b_1,b_2,b_3,b_4,b_5,b_6,b_7,b_8,b_9,b_10,b_11) >>=fun o=>
 match o with
 | .inl o_1=>
 some (o_1.1,o_1.2.1,o_1.2.2.1,o_1.2.2.2.1,o_1.2.2.2.2.1,o_1.2.2.2.2.2.1,o_1.2.2.2.2.2.2.1,o_1.2.2.2.2.2.2.2.1,o_1.2.2.2.2.2.2.2.2.1,o_1.2.2.2.2.2.2.2.2.2.1,o_1.2.2.2.2.2.2.2.2.2.2.1,o_1.2.2.2.2.2.2.2.2.2.2.2.1,o_1.2.2.2.2.2.2.2.2.2.2.2.2)
 | .inr o_2=>
 some ((-1),o_2.1,o_2.2.1,o_2.2.2.1,o_2.2.2.2.1,o_2.2.2.2.2.1,o_2.2.2.2.2.2.1,o_2.2.2.2.2.2.2.1,o_2.2.2.2.2.2.2.2.1,o_2.2.2.2.2.2.2.2.2.1,o_2.2.2.2.2.2.2.2.2.2.1,o_2.2.2.2.2.2.2.2.2.2.2.1,o_2.2.2.2.2.2.2.2.2.2.2.2)
  partial_fixpoint
def g6z(x_:List (List UInt8) × Int × List SType × Int × List UInt8 × Int × Int × Int × List SSymbol × List SMember × Int × Int × Bool × Int) :Option ((Bool) ⊕ (Unit)):=
 match x_ with
 | (l,i,b,b_1,b_2,b_3,b_4,b_5,b_6,b_7,b_8,b_9,b_10,b_11)=>
 if decide (i < (l.length:Int))=true then
 if inR i l.length=true then
 g1j ((⟨(⟨b⟩:SSchema)⟩:EncodeReader),b_8,l.getD i.toNat [],addI .i64 b_11 1) >>=fun r_18=>
 some (!r_18) >>=fun t61=>
 some (addI .i64 i 1) >>=fun t68=>
 if(inR t68 l.length || (!(!t61)))=true then
 (if(!t61)=true then g1j ((⟨(⟨b⟩:SSchema)⟩:EncodeReader),b_9,l.getD t68.toNat [],addI .i64 b_11 1)else some false) >>=fun r_19=>
 some (bif t61 then true else(!r_19)) >>=fun t75=>
 some (decide (0 < i)) >>=fun t78=>
 some (subI .i64 i 2) >>=fun t82=>
 if(inR t82 l.length || (!((!t75) && t78)))=true then
 if(inR i l.length || (!((!t75) && t78)))=true then
 (if((!t75) && t78)=true then gp7 (l.getD t82.toNat [],l.getD i.toNat [])else some false) >>=fun r_20=>
 if(bif t75 then true else bif t78 then(!r_20)else false)=true then
 some (.inl false)
 else
 g6z (l,addI .i64 i 2,b,b_1,b_2,b_3,b_4,b_5,b_6,b_7,b_8,b_9,b_10,b_11)
 else none
 else none
 else none
 else none
 else
 some (.inr ())
  partial_fixpoint
def g3b(x_:Int × Int × List SField × Int × Int × List SType × SType) :Option ((Bool) ⊕ (Int × SType)):=
 match x_ with
 | (level_1,seen_2,t27,t28_1,t29,b_1,b_2)=>
 if decide (t29 < t28_1)=true then
 if inR t29 t27.length=true then
 some (t27.getD t29.toNat dSField) >>=fun x0_1=>
 g38 (b_2,x0_1.ID) >>=fun r_4=>
 if(!r_4.2)=true then
 if x0_1.Critical=true then
 some (.inl false)
 else
 g3b (level_1,seen_2,t27,t28_1,addI .i64 t29 1,b_1,b_2)
 else
 if inR r_4.1 b_2.Members.length=true then
 some (b_2.Members.getD r_4.1.toNat dSMember) >>=fun x0_2=>
 some (!(eqB x0_1.Critical x0_2.Critical)) >>=fun t53=>
 (if(!t53)=true then g1j ((⟨(⟨b_1⟩:SSchema)⟩:EncodeReader),x0_2.Type_,x0_1.Data,addI .i64 level_1 1)else some false) >>=fun r_7=>
 if(bif t53 then true else(!r_7))=true then
 some (.inl false)
 else
 if x0_2.HasDefault=true then
 gcc ((⟨b_1⟩:SSchema),x0_2.Type_,SValue.eta x0_2.Default) >>=fun r_8=>
 if r_8=true then
 g1d (x0_2.Type_,SValue.eta x0_2.Default,1,b_1,0) >>=fun r_9=>
 if(bif r_8 then decide (r_9.1=x0_1.Data)else false)=true then
 some (.inl false)
 else
 g3b (level_1,seen_2,t27,t28_1,addI .i64 t29 1,b_1,b_2)
 else
 if(bif r_8 then false else false)=true then
 some (.inl false)
 else
 g3b (level_1,seen_2,t27,t28_1,addI .i64 t29 1,b_1,b_2)
 else
 g3b (level_1,addI .i64 seen_2 1,t27,t28_1,addI .i64 t29 1,b_1,b_2)
 else none
 else none
 else
 some (.inr (seen_2,b_2))
  partial_fixpoint
def g3e(x_:List (List UInt8) × Int × Int × List SType × Int × List UInt8 × Int × Int × Int × List SSymbol × List SMember × Int × Int × Bool × Int) :Option ((Int × List SType × Int × List UInt8 × Int × Int × Int × List SSymbol × List SMember × Int × Int × Bool × Int) ⊕ (List SType × Int × List UInt8 × Int × Int × Int × List SSymbol × List SMember × Int × Int × Bool × Int)):=
 match x_ with
 | (s_1,t7_1,t8,b_36,b_37,b_38,b_39,b_40,b_41,b_42,b_43,b_44,b_45,b_46,b_47)=>
 if decide (t8 < t7_1)=true then
 if inR t8 s_1.length=true then
 g8w (s_1.getD t8.toNat [],b_36,b_37,b_38,b_39,b_40,b_41,b_42,b_43,b_44,b_45,b_46,b_47) >>=fun r=>
 if r.1=true then
 some (.inl (t8,r.2.1,r.2.2.1,r.2.2.2.1,r.2.2.2.2.1,r.2.2.2.2.2.1,r.2.2.2.2.2.2.1,r.2.2.2.2.2.2.2.1,r.2.2.2.2.2.2.2.2.1,r.2.2.2.2.2.2.2.2.2.1,r.2.2.2.2.2.2.2.2.2.2.1,r.2.2.2.2.2.2.2.2.2.2.2.1,r.2.2.2.2.2.2.2.2.2.2.2.2))
 else
 g3e (s_1,t7_1,addI .i64 t8 1,r.2.1,r.2.2.1,r.2.2.2.1,r.2.2.2.2.1,r.2.2.2.2.2.1,r.2.2.2.2.2.2.1,r.2.2.2.2.2.2.2.1,r.2.2.2.2.2.2.2.2.1,r.2.2.2.2.2.2.2.2.2.1,r.2.2.2.2.2.2.2.2.2.2.1,r.2.2.2.2.2.2.2.2.2.2.2.1,r.2.2.2.2.2.2.2.2.2.2.2.2)
 else none
 else
 some (.inr (b_36,b_37,b_38,b_39,b_40,b_41,b_42,b_43,b_44,b_45,b_46,b_47))
  partial_fixpoint
end
theorem F53_b :gg prog 53=true:=by kernel_rfl
theorem g1pg :f53.body.bind (Shv.resolve prog f53.ntmps)=some (g6 prog f53):=by kernel_rfl
theorem g1lr :g7 prog f53.results.toList=some [.tmp 8]:=by kernel_rfl
def g4n(F:Hs Un.D [.nm 7,.int .i64,.str,.int .i64]→Option (Hs Un.D [.bool])) :FSpec Un:=⟨53,[.row 7,.c (.hole (.int .i64)),.c (.hole .str),.c (.hole (.int .i64))],[],[.nm 7,.int .i64,.str,.int .i64],.c (.hole .bool),[],[.bool],F⟩
def g7s :FSpec Un:=g4n g1j
theorem F81_b :gg prog 81=true:=by kernel_rfl
theorem g1ph :f81.body.bind (Shv.resolve prog f81.ntmps)=some (g6 prog f81):=by kernel_rfl
theorem g1ls :g7 prog f81.results.toList=some [.tmp 8]:=by kernel_rfl
def gkp(F:Hs Un.D [.nm 7,.nm 3,.str,.int .i64]→Option (Hs Un.D [.bool])) :FSpec Un:=⟨81,[.row 7,.row 3,.c (.hole .str),.c (.hole (.int .i64))],[],[.nm 7,.nm 3,.str,.int .i64],.c (.hole .bool),[],[.bool],F⟩
def gdr :FSpec Un:=gkp g8y
def ggm :Shape:=⟨[(4,.c (.ptr 0 0)),(5,.c (.ptr 1 0)),(7,.c (.ptr 2 0)),(9,.c (.hole (.slice .str))),(11,.c (.hole (.int .i64)))],[.box [.hole (.slice (.nm 3))],.box [.hole (.int .i64),.hole .str,.hole (.int .i64),.hole (.int .i64),.hole (.int .i64),.hole (.slice (.nm 4)),.hole (.slice (.nm 0)),.hole (.int .i64),.hole (.int .i64),.hole .bool],.box [.hole (.int .i64)]]⟩
def gan :List Ty:=[.slice .str,.int .i64,.slice (.nm 3),.int .i64,.str,.int .i64,.int .i64,.int .i64,.slice (.nm 4),.slice (.nm 0),.int .i64,.int .i64,.bool,.int .i64]
def g9r :List OSpec:=[⟨.ret,⟨[(8,.c (.hole .bool))],[]⟩,[],[.bool]⟩,⟨.exit 0,⟨[],[]⟩,[],[]⟩]
def ghn(F:Hs Un.D gan→Option (OSum Un g9r)) :LSpec Un:=⟨ggm,[],gan,g9r,F⟩
def grz :LSpec Un:=ghn g6z
theorem g1pi :gg prog 122=true:=by kernel_rfl
theorem g1lt :f122.body.bind (Shv.resolve prog f122.ntmps)=some (g6 prog f122):=by kernel_rfl
theorem g1ip :g7 prog f122.results.toList=some [.tmp 4]:=by kernel_rfl
def g9s(F:Hs Un.D [.slice .str,.slice (.nm 3),.int .i64,.str,.int .i64,.int .i64,.int .i64,.slice (.nm 4),.slice (.nm 0),.int .i64,.int .i64,.bool,.int .i64]→Option (Hs Un.D [.bool,.slice (.nm 3),.int .i64,.str,.int .i64,.int .i64,.int .i64,.slice (.nm 4),.slice (.nm 0),.int .i64,.int .i64,.bool,.int .i64])) :FSpec Un:=⟨122,[.c (.hole (.slice .str)),.c (.fn 123 [0,1,2])],[.box [.hole (.slice (.nm 3))],.box [.hole (.int .i64),.hole .str,.hole (.int .i64),.hole (.int .i64),.hole (.int .i64),.hole (.slice (.nm 4)),.hole (.slice (.nm 0)),.hole (.int .i64),.hole (.int .i64),.hole .bool],.box [.hole (.int .i64)]],[.slice .str,.slice (.nm 3),.int .i64,.str,.int .i64,.int .i64,.int .i64,.slice (.nm 4),.slice (.nm 0),.int .i64,.int .i64,.bool,.int .i64],.c (.hole .bool),[.box [.hole (.slice (.nm 3))],.box [.hole (.int .i64),.hole .str,.hole (.int .i64),.hole (.int .i64),.hole (.int .i64),.hole (.slice (.nm 4)),.hole (.slice (.nm 0)),.hole (.int .i64),.hole (.int .i64),.hole .bool],.box [.hole (.int .i64)]],[.bool,.slice (.nm 3),.int .i64,.str,.int .i64,.int .i64,.int .i64,.slice (.nm 4),.slice (.nm 0),.int .i64,.int .i64,.bool,.int .i64],F⟩
def g67 :FSpec Un:=g9s g4v
theorem g1pj :gg prog 151=true:=by kernel_rfl
theorem g1lu :f151.body.bind (Shv.resolve prog f151.ntmps)=some (g6 prog f151):=by kernel_rfl
theorem g1iq :g7 prog f151.results.toList=some [.tmp 4]:=by kernel_rfl
def gav(F:Hs Un.D [.slice .str,.slice (.nm 3),.int .i64,.str,.int .i64,.int .i64,.int .i64,.slice (.nm 4),.slice (.nm 0),.int .i64,.int .i64,.bool,.int .i64]→Option (Hs Un.D [.int .i64,.slice (.nm 3),.int .i64,.str,.int .i64,.int .i64,.int .i64,.slice (.nm 4),.slice (.nm 0),.int .i64,.int .i64,.bool,.int .i64])) :FSpec Un:=⟨151,[.c (.hole (.slice .str)),.c (.fn 123 [0,1,2])],[.box [.hole (.slice (.nm 3))],.box [.hole (.int .i64),.hole .str,.hole (.int .i64),.hole (.int .i64),.hole (.int .i64),.hole (.slice (.nm 4)),.hole (.slice (.nm 0)),.hole (.int .i64),.hole (.int .i64),.hole .bool],.box [.hole (.int .i64)]],[.slice .str,.slice (.nm 3),.int .i64,.str,.int .i64,.int .i64,.int .i64,.slice (.nm 4),.slice (.nm 0),.int .i64,.int .i64,.bool,.int .i64],.c (.hole (.int .i64)),[.box [.hole (.slice (.nm 3))],.box [.hole (.int .i64),.hole .str,.hole (.int .i64),.hole (.int .i64),.hole (.int .i64),.hole (.slice (.nm 4)),.hole (.slice (.nm 0)),.hole (.int .i64),.hole (.int .i64),.hole .bool],.box [.hole (.int .i64)]],[.int .i64,.slice (.nm 3),.int .i64,.str,.int .i64,.int .i64,.int .i64,.slice (.nm 4),.slice (.nm 0),.int .i64,.int .i64,.bool,.int .i64],F⟩
def g70 :FSpec Un:=gav g5k
def g9i :Shape:=⟨[(0,.c (.hole (.slice .str))),(1,.c (.fn 123 [0,1,2])),(7,.c (.hole (.int .i64))),(8,.c (.hole (.int .i64)))],[.box [.hole (.slice (.nm 3))],.box [.hole (.int .i64),.hole .str,.hole (.int .i64),.hole (.int .i64),.hole (.int .i64),.hole (.slice (.nm 4)),.hole (.slice (.nm 0)),.hole (.int .i64),.hole (.int .i64),.hole .bool],.box [.hole (.int .i64)]]⟩
def g5y :List Ty:=[.slice .str,.int .i64,.int .i64,.slice (.nm 3),.int .i64,.str,.int .i64,.int .i64,.int .i64,.slice (.nm 4),.slice (.nm 0),.int .i64,.int .i64,.bool,.int .i64]
def g5j :List OSpec:=[⟨.ret,⟨[(4,.c (.hole (.int .i64)))],[.box [.hole (.slice (.nm 3))],.box [.hole (.int .i64),.hole .str,.hole (.int .i64),.hole (.int .i64),.hole (.int .i64),.hole (.slice (.nm 4)),.hole (.slice (.nm 0)),.hole (.int .i64),.hole (.int .i64),.hole .bool],.box [.hole (.int .i64)]]⟩,[],[.int .i64,.slice (.nm 3),.int .i64,.str,.int .i64,.int .i64,.int .i64,.slice (.nm 4),.slice (.nm 0),.int .i64,.int .i64,.bool,.int .i64]⟩,⟨.exit 0,⟨[],[.box [.hole (.slice (.nm 3))],.box [.hole (.int .i64),.hole .str,.hole (.int .i64),.hole (.int .i64),.hole (.int .i64),.hole (.slice (.nm 4)),.hole (.slice (.nm 0)),.hole (.int .i64),.hole (.int .i64),.hole .bool],.box [.hole (.int .i64)]]⟩,[],[.slice (.nm 3),.int .i64,.str,.int .i64,.int .i64,.int .i64,.slice (.nm 4),.slice (.nm 0),.int .i64,.int .i64,.bool,.int .i64]⟩]
def g9t(F:Hs Un.D g5y→Option (OSum Un g5j)) :LSpec Un:=⟨g9i,[],g5y,g5j,F⟩
def gho :LSpec Un:=g9t g3e
theorem g1pk :gg prog 123=true:=by kernel_rfl
theorem g1lv :f123.body.bind (Shv.resolve prog f123.ntmps)=some (g6 prog f123):=by kernel_rfl
theorem g1ir :g7 prog f123.results.toList=some [.tmp 5]:=by kernel_rfl
def ggn(F:Hs Un.D [.str,.slice (.nm 3),.int .i64,.str,.int .i64,.int .i64,.int .i64,.slice (.nm 4),.slice (.nm 0),.int .i64,.int .i64,.bool,.int .i64]→Option (Hs Un.D [.bool,.slice (.nm 3),.int .i64,.str,.int .i64,.int .i64,.int .i64,.slice (.nm 4),.slice (.nm 0),.int .i64,.int .i64,.bool,.int .i64])) :FSpec Un:=⟨123,[.c (.hole .str),.c (.ptr 0 0),.c (.ptr 1 0),.c (.ptr 2 0)],[.box [.hole (.slice (.nm 3))],.box [.hole (.int .i64),.hole .str,.hole (.int .i64),.hole (.int .i64),.hole (.int .i64),.hole (.slice (.nm 4)),.hole (.slice (.nm 0)),.hole (.int .i64),.hole (.int .i64),.hole .bool],.box [.hole (.int .i64)]],[.str,.slice (.nm 3),.int .i64,.str,.int .i64,.int .i64,.int .i64,.slice (.nm 4),.slice (.nm 0),.int .i64,.int .i64,.bool,.int .i64],.c (.hole .bool),[.box [.hole (.slice (.nm 3))],.box [.hole (.int .i64),.hole .str,.hole (.int .i64),.hole (.int .i64),.hole (.int .i64),.hole (.slice (.nm 4)),.hole (.slice (.nm 0)),.hole (.int .i64),.hole (.int .i64),.hole .bool],.box [.hole (.int .i64)]],[.bool,.slice (.nm 3),.int .i64,.str,.int .i64,.int .i64,.int .i64,.slice (.nm 4),.slice (.nm 0),.int .i64,.int .i64,.bool,.int .i64],F⟩
def gao :FSpec Un:=ggn g8w
def gja(F:Hs Un.D [.nm 7,.nm 3,.str,.int .i64]→Option (Hs Un.D [.bool])) :FSpec Un:=⟨80,[.row 7,.row 3,.c (.hole .str),.c (.hole (.int .i64))],[],[.nm 7,.nm 3,.str,.int .i64],.c (.hole .bool),[],[.bool],F⟩
def gd0 :FSpec Un:=gja gam
def gfp :Shape:=⟨[(3,.c (.hole (.int .i64))),(4,.c (.ptr 0 0)),(5,.c (.ptr 1 0)),(11,.c (.hole (.int .i64))),(27,.c (.hole (.slice (.nm 8)))),(28,.c (.hole (.int .i64))),(29,.c (.hole (.int .i64)))],[.box [.hole (.slice (.nm 3))],.brow 3]⟩
def gaa :List Ty:=[.int .i64,.int .i64,.slice (.nm 8),.int .i64,.int .i64,.slice (.nm 3),.nm 3]
def g99 :List OSpec:=[⟨.ret,⟨[(8,.c (.hole .bool))],[]⟩,[],[.bool]⟩,⟨.exit 0,⟨[(5,.c (.ptr 0 0)),(11,.c (.hole (.int .i64)))],[.brow 3]⟩,[],[.int .i64,.nm 3]⟩]
def ggo(F:Hs Un.D gaa→Option (OSum Un g99)) :LSpec Un:=⟨gfp,[],gaa,g99,F⟩
def gqg :LSpec Un:=ggo g3b
theorem goi :(FSnd prog g7s)∧(FSnd prog gdr)∧(LSnd prog f81.ntmps 0 (gn (g6 prog f81) 0) grz)∧(FSnd prog g67)∧(FSnd prog g70)∧(LSnd prog f151.ntmps 3 (gn (g6 prog f151) 0) gho)∧(FSnd prog gao)∧(FSnd prog gd0)∧(LSnd prog f80.ntmps 0 (gn (g6 prog f80) 0) gqg):=g1j.mutual_partial_correctness (fun h r=>FAt prog g7s h r) (fun h r=>FAt prog gdr h r) (fun h o=>LAt (U:=Un) prog f81.ntmps 0 (gn (g6 prog f81) 0) ggm gan g9r h o) (fun h r=>FAt prog g67 h r) (fun h r=>FAt prog g70 h r) (fun h o=>LAt (U:=Un) prog f151.ntmps 3 (gn (g6 prog f151) 0) g9i g5y g5j h o) (fun h r=>FAt prog gao h r) (fun h r=>FAt prog gd0 h r) (fun h o=>LAt (U:=Un) prog f80.ntmps 0 (gn (g6 prog f80) 0) gfp gaa g99 h o)
 (fun F1 F2 F8 HF1 HF2 HF8 h o ho=>FAt.of_body (s:=(g4n F1)) (fo:=foS [gja F8,gkp F2,g4n F1,glp,g89,glt]) (lo:=loL []) func53 g1pg g1lr (by kernel_rfl) (FoSnd.cons F80_b HF8 (FoSnd.cons F81_b HF2 (FoSnd.cons F53_b HF1 (FoSnd.cons F16_b gvk (FoSnd.cons F82_b gaf (FoSnd.cons F83_b g115 FoSnd.nil)))))) (LoOk.snd LoOk.nil) (Eq.trans (by kernel_rfl) ho))
 (fun F3 F4 HF3 HF4 h o ho=>FAt.of_body (s:=gdr) (fo:=foS [gdp,g9s F4]) (lo:=loL [(0,ghn F3)]) func81 g1ph g1ls (by kernel_rfl) (FoSnd.cons F14_b gk9 (FoSnd.cons g1pi HF4 FoSnd.nil)) (LoOk.snd (LoOk.cons HF3 LoOk.nil)) (Eq.trans (by kernel_rfl) ho))
 (fun F1 F3 HF1 HF3 h o ho=>LAt.of_round (fo:=foS [g4n F1,glq]) (lo:=loL []) (own:=[]) (F':=F3) (FoSnd.cons F53_b HF1 (FoSnd.cons g1pb g113 FoSnd.nil)) (LoOk.snd LoOk.nil) HF3 (Eq.trans (by kernel_rfl) ho))
 (fun F5 HF5 h o ho=>FAt.of_body (s:=g67) (fo:=foS [gav F5]) (lo:=loL []) func122 g1lt g1ip (by kernel_rfl) (FoSnd.cons g1pj HF5 FoSnd.nil) (LoOk.snd LoOk.nil) (Eq.trans (by kernel_rfl) ho))
 (fun F6 HF6 h o ho=>FAt.of_body (s:=g70) (fo:=foS []) (lo:=loL [(0,g9t F6)]) func151 g1lu g1iq (by kernel_rfl) FoSnd.nil (LoOk.snd (LoOk.cons HF6 LoOk.nil)) (Eq.trans (by kernel_rfl) ho))
 (fun F6 F7 HF6 HF7 h o ho=>LAt.of_round (fo:=foS [ggn F7]) (lo:=loL []) (own:=[]) (F':=F6) (FoSnd.cons g1pk HF7 FoSnd.nil) (LoOk.snd LoOk.nil) HF6 (Eq.trans (by kernel_rfl) ho))
 (fun F1 HF1 h o ho=>FAt.of_body (s:=gao) (fo:=foS [g4n F1]) (lo:=loL []) func123 g1lv g1ir (by kernel_rfl) (FoSnd.cons F53_b HF1 FoSnd.nil) (LoOk.snd LoOk.nil) (Eq.trans (by kernel_rfl) ho))
 (fun F9 HF9 h o ho=>FAt.of_body (s:=gd0) (fo:=foS [ggk]) (lo:=loL [(0,ggo F9),(1,ggl)]) func80 g1pf g1lq (by kernel_rfl) (FoSnd.cons F12_b gpt FoSnd.nil) (LoOk.snd (LoOk.cons HF9 (LoOk.cons goh LoOk.nil))) (Eq.trans (by kernel_rfl) ho))
 (fun F1 F9 HF1 HF9 h o ho=>LAt.of_round (fo:=foS [g89,g4n F1,gll,g6l]) (lo:=loL []) (own:=[]) (F':=F9) (FoSnd.cons F82_b gaf (FoSnd.cons F53_b HF1 (FoSnd.cons F95_b gvj (FoSnd.cons F57_b ggi FoSnd.nil)))) (LoOk.snd LoOk.nil) HF9 (Eq.trans (by kernel_rfl) ho))
theorem goj :FSnd prog g7s:=goi.1
end
section
open Go Go.Proofs.YthnmepafpikaiaaGreat.Shv
open Tryz
set_option maxRecDepth 100000
def gey(x_:SSchema × Int × List UInt8) :Option (Bool):=
 match x_ with
 | (s,t,m)=>
 gb1 ((⟨s.Types⟩:SSchema),t) >>=fun r=>
 some (bif decide (r=0)then decide ((m.length:Int)≤4096)else false) >>=fun t15=>
 (if t15=true then g1j ((⟨(⟨s.Types⟩:SSchema)⟩:EncodeReader),t,m,1)else some false) >>=fun r_1=>
 some (bif t15 then r_1 else false)
theorem F21_b :gg prog 21=true:=by kernel_rfl
theorem g1pl :f21.body.bind (Shv.resolve prog f21.ntmps)=some (g6 prog f21):=by kernel_rfl
theorem g1lw :g7 prog f21.results.toList=some [.tmp 6]:=by kernel_rfl
def gzr(F:Hs Un.D [.nm 5,.int .i64,.str]→Option (Hs Un.D [.bool])) :FSpec Un:=⟨21,[.row 5,.c (.hole (.int .i64)),.c (.hole .str)],[],[.nm 5,.int .i64,.str],.c (.hole .bool),[],[.bool],F⟩
def ghp :FSpec Un:=gzr gey
theorem gwt :FSnd prog ghp:=FSnd.of fun h r hr=>FAt.of_body (s:=ghp) (fo:=foS [ges,g7s]) (lo:=loL []) func21 g1pl g1lw (by kernel_rfl) (FoSnd.cons F52_b goa (FoSnd.cons F53_b goj FoSnd.nil)) (LoOk.snd LoOk.nil) (Eq.trans (by kernel_rfl) hr)
def gag(_:Unit) :Option (Bool):=
 g6r () >>=fun r=>
 gd9 ((-2),3) >>=fun r_1=>
 ga8 (r,3,SValue.eta r_1) >>=fun r_2=>
 g6r () >>=fun r_5=>
 gd9 ((-2),0) >>=fun r_6=>
 ga8 (r_5,3,SValue.eta r_6) >>=fun r_7=>
 g5i [1,97,0] >>=fun r_10=>
 some (bif bif bif bif decide (r_2.2=0)then decide (r_7.2=0)else false then decide (r_10.2=0)else false then decide (r_2.1=[2,1,3,7,2,97,98])else false then decide (r_7.1=[2,1,3,4,0,7,2,97,98])else false) >>=fun t40=>
 (if t40=true then gal (r_10.1,[[97],[]])else some false) >>=fun r_13=>
 some (bif t40 then r_13 else false) >>=fun t45=>
 (if t45=true then g6r ()else some dSSchema) >>=fun r_14=>
 (if t45=true then gey (r_14,3,r_2.1)else some false) >>=fun r_15=>
 some (bif t45 then r_15 else false) >>=fun t50=>
 (if t50=true then g6r ()else some dSSchema) >>=fun r_16=>
 (if t50=true then gey (r_16,3,[2,1,3,4,1,6,7,2,97,98])else some false) >>=fun r_17=>
 some (bif t50 then(!r_17)else false)
theorem F11_b :gg prog 11=true:=by kernel_rfl
theorem g1pm :f11.body.bind (Shv.resolve prog f11.ntmps)=some (g6 prog f11):=by kernel_rfl
theorem g1lx :g7 prog f11.results.toList=some [.tmp 0]:=by kernel_rfl
def gya(F:Hs Un.D []→Option (Hs Un.D [.bool])) :FSpec Un:=⟨11,[],[],[],.c (.hole .bool),[],[.bool],F⟩
def gg1 :FSpec Un:=gya gag
theorem gvm :FSnd prog gg1:=FSnd.of fun h r hr=>FAt.of_body (s:=gg1) (fo:=foS [gdi,gfx,ggj,gdp,g9q,ghp]) (lo:=loL []) func11 g1pm g1lx (by kernel_rfl) (FoSnd.cons F38_b gsn (FoSnd.cons F39_b gvc (FoSnd.cons F26_b gpr (FoSnd.cons F14_b gk9 (FoSnd.cons F40_b gmn (FoSnd.cons F21_b gwt FoSnd.nil)))))) (LoOk.snd LoOk.nil) (Eq.trans (by kernel_rfl) hr)
end
section
open Go Go.Proofs.YthnmepafpikaiaaGreat.Shv
open Tryz
set_option maxRecDepth 100000
def g68(x_:Sheaveref07Draft × Int) :Option (Int):=
 match x_ with
 | (d,i)=>
 if inR i d.Nodes.length=true then
 some (addI .i64 1 (wrp .i64 (remI (d.Nodes.getD i.toNat dSheaveref07Node).Kind 9)))
 else none
theorem F45_b :gg prog 45=true:=by kernel_rfl
theorem g1pn :f45.body.bind (Shv.resolve prog f45.ntmps)=some (g6 prog f45):=by kernel_rfl
theorem g1ly :g7 prog f45.results.toList=some [.tmp 4]:=by kernel_rfl
def gzs(F:Hs Un.D [.nm 9,.int .i64]→Option (Hs Un.D [.int .i64])) :FSpec Un:=⟨45,[.row 9,.c (.hole (.int .i64))],[],[.nm 9,.int .i64],.c (.hole (.int .i64)),[],[.int .i64],F⟩
def g69 :FSpec Un:=gzs g68
theorem g8f :FSnd prog g69:=FSnd.of fun h r hr=>FAt.of_body (s:=g69) (fo:=foS []) (lo:=loL []) func45 g1pn g1ly (by kernel_rfl) FoSnd.nil (LoOk.snd LoOk.nil) (Eq.trans (by kernel_rfl) hr)
def g1z(kind:Int) :Option (Bool):=
 some (bif bif decide (kind=4)then true else decide (kind=5)then true else decide (kind=6))
theorem F46_b :gg prog 46=true:=by kernel_rfl
theorem g1po :f46.body.bind (Shv.resolve prog f46.ntmps)=some (g6 prog f46):=by kernel_rfl
theorem g1lz :g7 prog f46.results.toList=some [.tmp 2]:=by kernel_rfl
def gyb(F:Hs Un.D [.int .i64]→Option (Hs Un.D [.bool])) :FSpec Un:=⟨46,[.c (.hole (.int .i64))],[],[.int .i64],.c (.hole .bool),[],[.bool],F⟩
def gg2 :FSpec Un:=gyb g1z
theorem gvn :FSnd prog gg2:=FSnd.of fun h r hr=>FAt.of_body (s:=gg2) (fo:=foS []) (lo:=loL []) func46 g1po g1lz (by kernel_rfl) FoSnd.nil (LoOk.snd LoOk.nil) (Eq.trans (by kernel_rfl) hr)
def g5s(x0:Sheaveref07Node) :Option (Int):=
 some (subI .i64 (wrp .i64 (remI x0.A 7)) 3)
theorem F47_b :gg prog 47=true:=by kernel_rfl
theorem g1pp :f47.body.bind (Shv.resolve prog f47.ntmps)=some (g6 prog f47):=by kernel_rfl
theorem g1m0 :g7 prog f47.results.toList=some [.tmp 2]:=by kernel_rfl
def g116(F:Hs Un.D [.nm 10]→Option (Hs Un.D [.int .i64])) :FSpec Un:=⟨47,[.row 10],[],[.nm 10],.c (.hole (.int .i64)),[],[.int .i64],F⟩
def gah :FSpec Un:=g116 g5s
theorem gg3 :FSnd prog gah:=FSnd.of fun h r hr=>FAt.of_body (s:=gah) (fo:=foS []) (lo:=loL []) func47 g1pp g1m0 (by kernel_rfl) FoSnd.nil (LoOk.snd LoOk.nil) (Eq.trans (by kernel_rfl) hr)
def g7b(x0:Sheaveref07Node) :Option (Int):=
 g5s x0 >>=fun r=>
 some (addI .i64 r (wrp .i64 (remI x0.B 6)))
theorem F48_b :gg prog 48=true:=by kernel_rfl
theorem g1pq :f48.body.bind (Shv.resolve prog f48.ntmps)=some (g6 prog f48):=by kernel_rfl
theorem g1m1 :g7 prog f48.results.toList=some [.tmp 2]:=by kernel_rfl
def gzt(F:Hs Un.D [.nm 10]→Option (Hs Un.D [.int .i64])) :FSpec Un:=⟨48,[.row 10],[],[.nm 10],.c (.hole (.int .i64)),[],[.int .i64],F⟩
def gcf :FSpec Un:=gzt g7b
theorem glu :FSnd prog gcf:=FSnd.of fun h r hr=>FAt.of_body (s:=gcf) (fo:=foS [gah]) (lo:=loL []) func48 g1pq g1m1 (by kernel_rfl) (FoSnd.cons F47_b gg3 FoSnd.nil) (LoOk.snd LoOk.nil) (Eq.trans (by kernel_rfl) hr)
def g4i(x_:Int × Sheaveref07Node × List Int) :Option (List Int):=
 match x_ with
 | (i,b_1,b_2)=>
 if decide (i < 6)=true then
 if decide (0≤i)=true then
 if decide (remI (shrI .u8 b_1.A i) 2=1)=true then
 some [addI .i64 i 1] >>=fun t18=>
 if room 8 (b_2++t18).length=true then
 g4i (addI .i64 i 1,b_1,b_2++t18)
 else none
 else
 g4i (addI .i64 i 1,b_1,b_2)
 else none
 else
 some b_2
  partial_fixpoint
theorem F49_b :gg prog 49=true:=by kernel_rfl
theorem g1pr :f49.body.bind (Shv.resolve prog f49.ntmps)=some (g6 prog f49):=by kernel_rfl
theorem g1m2 :g7 prog f49.results.toList=some [.tmp 2]:=by kernel_rfl
def gkq :Shape:=⟨[(1,.c (.ptr 0 0)),(3,.c (.arr 1)),(4,.c (.hole (.int .i64)))],[.brow 10,.arr (.int .i64)]⟩
def gds :List Ty:=[.int .i64,.nm 10,.slice (.int .i64)]
def gbs :List OSpec:=[⟨.exit 0,⟨[(3,.c (.arr 0))],[.arr (.int .i64)]⟩,[],[.slice (.int .i64)]⟩]
def gwu(F:Hs Un.D gds→Option (OSum Un gbs)) :LSpec Un:=⟨gkq,[(.slot 3,.int .i64)],gds,gbs,F⟩
def glv :LSpec Un:=gwu g4i
theorem guc :LSnd prog f49.ntmps 0 (gn (g6 prog f49) 0) glv:=fun h o ho=>g4i.partial_correctness (fun h o=>LAt (U:=Un) prog f49.ntmps 0 (gn (g6 prog f49) 0) gkq gds gbs h o) (fun F1 HF1 h o ho=>LAt.of_round (fo:=foS []) (lo:=loL []) (own:=[(.slot 3,.int .i64)]) (F':=F1) FoSnd.nil (LoOk.snd LoOk.nil) HF1 (Eq.trans (by kernel_rfl) ho)) h o ho
def g55(x0:Sheaveref07Node) :Option (List Int):=
 g4i (0,x0,[]) >>=fun o=>
 if decide ((o.length:Int)=0)=true then
 some [1] >>=fun t24=>
 if room 8 (o++t24).length=true then
 some (o++t24)
 else none
 else
 some o
def g117(F:Hs Un.D [.nm 10]→Option (Hs Un.D [.slice (.int .i64)])) :FSpec Un:=⟨49,[.row 10],[],[.nm 10],.c (.hole (.slice (.int .i64))),[],[.slice (.int .i64)],F⟩
def gda :FSpec Un:=g117 g55
theorem gmv :FSnd prog gda:=FSnd.of fun h r hr=>FAt.of_body (s:=gda) (fo:=foS []) (lo:=loL [(0,glv)]) func49 g1pr g1m2 (by kernel_rfl) FoSnd.nil (LoOk.snd (LoOk.cons guc LoOk.nil)) (Eq.trans (by kernel_rfl) hr)
def g9u(kind:Int) :Option (Bool):=
 some (decide (7≤kind))
theorem g1fs :gg prog 119=true:=by kernel_rfl
theorem g1m3 :f119.body.bind (Shv.resolve prog f119.ntmps)=some (g6 prog f119):=by kernel_rfl
theorem g1is :g7 prog f119.results.toList=some [.tmp 2]:=by kernel_rfl
def gwv(F:Hs Un.D [.int .i64]→Option (Hs Un.D [.bool])) :FSpec Un:=⟨119,[.c (.hole (.int .i64))],[],[.int .i64],.c (.hole .bool),[],[.bool],F⟩
def gap :FSpec Un:=gwv g9u
theorem gjb :FSnd prog gap:=FSnd.of fun h r hr=>FAt.of_body (s:=gap) (fo:=foS []) (lo:=loL []) func119 g1m3 g1is (by kernel_rfl) FoSnd.nil (LoOk.snd LoOk.nil) (Eq.trans (by kernel_rfl) hr)
def g2s(x_:Int × Int × List Sheaveref07Node) :Option ((Int) ⊕ (Unit)):=
 match x_ with
 | (n,k,b)=>
 if decide (k < n)=true then
 g68 ((⟨b⟩:Sheaveref07Draft),k) >>=fun r_2=>
 g9u r_2 >>=fun r_3=>
 if r_3=true then
 some (.inl k)
 else
 g2s (n,addI .i64 k 1,b)
 else
 some (.inr ())
  partial_fixpoint
theorem F77_b :gg prog 77=true:=by kernel_rfl
theorem g1ps :f77.body.bind (Shv.resolve prog f77.ntmps)=some (g6 prog f77):=by kernel_rfl
theorem g1m4 :g7 prog f77.results.toList=some [.tmp 6]:=by kernel_rfl
def ghq :Shape:=⟨[(3,.c (.ptr 0 0)),(7,.c (.hole (.int .i64))),(9,.c (.hole (.int .i64)))],[.box [.hole (.slice (.nm 10))]]⟩
def gbc :List Ty:=[.int .i64,.int .i64,.slice (.nm 10)]
def gab :List OSpec:=[⟨.ret,⟨[(6,.c (.hole (.int .i64)))],[]⟩,[],[.int .i64]⟩,⟨.exit 0,⟨[],[]⟩,[],[]⟩]
def gso(F:Hs Un.D gbc→Option (OSum Un gab)) :LSpec Un:=⟨ghq,[],gbc,gab,F⟩
def gij :LSpec Un:=gso g2s
theorem gqh :LSnd prog f77.ntmps 0 (gn (g6 prog f77) 0) gij:=fun h o ho=>g2s.partial_correctness (fun h o=>LAt (U:=Un) prog f77.ntmps 0 (gn (g6 prog f77) 0) ghq gbc gab h o) (fun F1 HF1 h o ho=>LAt.of_round (fo:=foS [g69,gap]) (lo:=loL []) (own:=[]) (F':=F1) (FoSnd.cons F45_b g8f (FoSnd.cons g1fs gjb FoSnd.nil)) (LoOk.snd LoOk.nil) HF1 (Eq.trans (by kernel_rfl) ho)) h o ho
def g9v(x_:Sheaveref07Draft × Int × Int) :Option (Int):=
 match x_ with
 | (d,i,code)=>
 some (d.Nodes.length:Int) >>=fun t12=>
 if(!(decide (t12=0)))=true then
 some (remI (wrp .i64 code) t12) >>=fun t16=>
 g68 (d,t16) >>=fun r=>
 g9u r >>=fun r_1=>
 if(bif r_1 then true else decide (t16 < i))=true then
 some t16
 else
 if decide (0 < i)=true then
 if(!(decide (i=0)))=true then
 some (remI t16 i)
 else none
 else
 g2s (t12,0,d.Nodes) >>=fun o=>
 match o with
 | .inl o_1=>
 some o_1
 | .inr o_2=>
 some (-1)
 else none
def gww(F:Hs Un.D [.nm 9,.int .i64,.int .u8]→Option (Hs Un.D [.int .i64])) :FSpec Un:=⟨77,[.row 9,.c (.hole (.int .i64)),.c (.hole (.int .u8))],[],[.nm 9,.int .i64,.int .u8],.c (.hole (.int .i64)),[],[.int .i64],F⟩
def gez :FSpec Un:=gww g9v
theorem gud :FSnd prog gez:=FSnd.of fun h r hr=>FAt.of_body (s:=gez) (fo:=foS [g69,gap]) (lo:=loL [(0,gij)]) func77 g1ps g1m4 (by kernel_rfl) (FoSnd.cons F45_b g8f (FoSnd.cons g1fs gjb FoSnd.nil)) (LoOk.snd (LoOk.cons gqh LoOk.nil)) (Eq.trans (by kernel_rfl) hr)
end
section
open Go Go.Proofs.YthnmepafpikaiaaGreat.Shv
open Tryz
set_option maxRecDepth 100000
def g8z(kind:Int) :Option (Bool):=
 some (bif decide (1≤kind)then decide (kind≤4)else false)
theorem F67_b :gg prog 67=true:=by kernel_rfl
theorem g1pt :f67.body.bind (Shv.resolve prog f67.ntmps)=some (g6 prog f67):=by kernel_rfl
theorem g1m5 :g7 prog f67.results.toList=some [.tmp 2]:=by kernel_rfl
def gvo(F:Hs Un.D [.int .i64]→Option (Hs Un.D [.bool])) :FSpec Un:=⟨67,[.c (.hole (.int .i64))],[],[.int .i64],.c (.hole .bool),[],[.bool],F⟩
def gdt :FSpec Un:=gvo g8z
theorem gsp :FSnd prog gdt:=FSnd.of fun h r hr=>FAt.of_body (s:=gdt) (fo:=foS []) (lo:=loL []) func67 g1pt g1m5 (by kernel_rfl) FoSnd.nil (LoOk.snd LoOk.nil) (Eq.trans (by kernel_rfl) hr)
def g3k(x_:Int × Int × Int × List Sheaveref07Node) :Option ((Int) ⊕ (Unit)):=
 match x_ with
 | (code_1,n,k,b)=>
 if decide (k < n)=true then
 if(!(decide (n=0)))=true then
 some (remI (addI .i64 (wrp .i64 code_1) k) n) >>=fun t21=>
 g68 ((⟨b⟩:Sheaveref07Draft),t21) >>=fun r=>
 g8z r >>=fun r_1=>
 if r_1=true then
 some (.inl t21)
 else
 g3k (code_1,n,addI .i64 k 1,b)
 else none
 else
 some (.inr ())
  partial_fixpoint
theorem F51_b :gg prog 51=true:=by kernel_rfl
theorem g1pu :f51.body.bind (Shv.resolve prog f51.ntmps)=some (g6 prog f51):=by kernel_rfl
theorem g1m6 :g7 prog f51.results.toList=some [.tmp 4]:=by kernel_rfl
def gkr :Shape:=⟨[(1,.c (.hole (.int .u8))),(2,.c (.ptr 0 0)),(5,.c (.hole (.int .i64))),(6,.c (.hole (.int .i64)))],[.box [.hole (.slice (.nm 10))]]⟩
def gdu :List Ty:=[.int .u8,.int .i64,.int .i64,.slice (.nm 10)]
def gbt :List OSpec:=[⟨.ret,⟨[(4,.c (.hole (.int .i64)))],[]⟩,[],[.int .i64]⟩,⟨.exit 0,⟨[],[]⟩,[],[]⟩]
def gwx(F:Hs Un.D gdu→Option (OSum Un gbt)) :LSpec Un:=⟨gkr,[],gdu,gbt,F⟩
def glw :LSpec Un:=gwx g3k
theorem gue :LSnd prog f51.ntmps 0 (gn (g6 prog f51) 0) glw:=fun h o ho=>g3k.partial_correctness (fun h o=>LAt (U:=Un) prog f51.ntmps 0 (gn (g6 prog f51) 0) gkr gdu gbt h o) (fun F1 HF1 h o ho=>LAt.of_round (fo:=foS [g69,gdt]) (lo:=loL []) (own:=[]) (F':=F1) (FoSnd.cons F45_b g8f (FoSnd.cons F67_b gsp FoSnd.nil)) (LoOk.snd LoOk.nil) HF1 (Eq.trans (by kernel_rfl) ho)) h o ho
def g8g(x_:Sheaveref07Draft × Int) :Option (Int):=
 match x_ with
 | (d,code)=>
 g3k (code,(d.Nodes.length:Int),0,d.Nodes) >>=fun o=>
 match o with
 | .inl o_1=>
 some o_1
 | .inr o_2=>
 some (-1)
def g118(F:Hs Un.D [.nm 9,.int .u8]→Option (Hs Un.D [.int .i64])) :FSpec Un:=⟨51,[.row 9,.c (.hole (.int .u8))],[],[.nm 9,.int .u8],.c (.hole (.int .i64)),[],[.int .i64],F⟩
def gdb :FSpec Un:=g118 g8g
theorem gmw :FSnd prog gdb:=FSnd.of fun h r hr=>FAt.of_body (s:=gdb) (fo:=foS []) (lo:=loL [(0,glw)]) func51 g1pu g1m6 (by kernel_rfl) FoSnd.nil (LoOk.snd (LoOk.cons gue LoOk.nil)) (Eq.trans (by kernel_rfl) hr)
def g90(x_:Sheaveref07Draft × Int × Int) :Option (SValue × Bool):=
 match x_ with
 | (d,t,code)=>
 if inR t d.Nodes.length=true then
 some (d.Nodes.getD t.toNat dSheaveref07Node) >>=fun x0=>
 g68 (d,t) >>=fun r=>
 some (decide (r=8)) >>=fun t21=>
 (if t21=true then g8g (d,0)else some 0) >>=fun r_1=>
 if(bif t21 then decide (r_1 < 0)else false)=true then
 some ((⟨7,false,0,[],0,[],[],[]⟩:SValue),true)
 else
 if decide (r=1)=true then
 some ((⟨r,decide (remI code 2=1),0,[],0,[],[],[]⟩:SValue),true)
 else
 if decide (r=2)=true then
 g5s x0 >>=fun r_2=>
 g7b x0 >>=fun r_3=>
 g5s x0 >>=fun r_4=>
 some (addI .i64 (subI .i64 r_3 r_4) 1) >>=fun t47=>
 if(!(decide (t47=0)))=true then
 some ((⟨r,false,addI .i64 r_2 (remI (wrp .i64 code) t47),[],0,[],[],[]⟩:SValue),true)
 else none
 else
 if decide (r=3)=true then
 if(bif decide (0 < remI x0.A 4)then decide (remI code 2=1)else false)=true then
 some ((⟨r,false,0,[97],0,[],[],[]⟩:SValue),true)
 else
 some ((⟨r,false,0,[],0,[],[],[]⟩:SValue),true)
 else
 if decide (r=4)=true then
 g55 x0 >>=fun r_5=>
 g55 x0 >>=fun r_6=>
 some (r_6.length:Int) >>=fun t71=>
 if(!(decide (t71=0)))=true then
 some (remI (wrp .i64 code) t71) >>=fun t72=>
 if inR t72 r_5.length=true then
 some ((⟨r,false,0,[],r_5.getD t72.toNat 0,[],[],[]⟩:SValue),true)
 else none
 else none
 else
 some (decide (r=5)) >>=fun t77=>
 if t77=true then
 if t77=true then
 some ((⟨0,false,0,[],0,[],[],[]⟩:SValue),false)
 else
 some ((⟨r,false,0,[],0,[],[],[]⟩:SValue),true)
 else
 if decide (r=6)=true then
 some ((⟨0,false,0,[],0,[],[],[]⟩:SValue),false)
 else
 some ((⟨r,false,0,[],0,[],[],[]⟩:SValue),true)
 else none
theorem F78_b :gg prog 78=true:=by kernel_rfl
theorem g1pv :f78.body.bind (Shv.resolve prog f78.ntmps)=some (g6 prog f78):=by kernel_rfl
theorem g1m7 :g7 prog f78.results.toList=some [.cell 6 true 8,.tmp 7]:=by kernel_rfl
def gvp(F:Hs Un.D [.nm 9,.int .i64,.int .u8]→Option (Hs Un.D [.nm 1,.bool])) :FSpec Un:=⟨78,[.row 9,.c (.hole (.int .i64)),.c (.hole (.int .u8))],[],[.nm 9,.int .i64,.int .u8],.tup [.row 1,.c (.hole .bool)],[],[.nm 1,.bool],F⟩
def gdv :FSpec Un:=gvp g90
theorem gsq :FSnd prog gdv:=FSnd.of fun h r hr=>FAt.of_body (s:=gdv) (fo:=foS [g69,gdb,gah,gcf,gda]) (lo:=loL []) func78 g1pv g1m7 (by kernel_rfl) (FoSnd.cons F45_b g8f (FoSnd.cons F51_b gmw (FoSnd.cons F47_b gg3 (FoSnd.cons F48_b glu (FoSnd.cons F49_b gmv FoSnd.nil))))) (LoOk.snd LoOk.nil) (Eq.trans (by kernel_rfl) hr)
def g3l(x_:Int × Bool × Int × Int × List Sheaveref07Node × Sheaveref07Node × List SMember) :Option (Int × Bool × Int × List Sheaveref07Node × Sheaveref07Node × List SMember):=
 match x_ with
 | (i_3,record_3,id_2,k,b_7,b_8,b_9)=>
 if decide (k < (b_8.Parts.length:Int))=true then
 if inR k b_8.Parts.length=true then
 some (b_8.Parts.getD k.toNat dSheaveref07Part) >>=fun x0_1=>
 g9v ((⟨b_7⟩:Sheaveref07Draft),i_3,x0_1.Type_) >>=fun r=>
 if(bif (!(decide (addI .i64 1 (wrp .i64 (remI x0_1.ID 12))=id_2)))then true else decide (r < 0))=true then
 g3l (i_3,record_3,id_2,addI .i64 k 1,b_7,b_8,b_9)
 else
 some (gdf (wrp .i32 (addI .i64 97 id_2))) >>=fun t55=>
 if decide ([109].length+t55.length≤g26)=true then
 some ([109]++t55) >>=fun t56=>
 if(bif record_3 then decide (remI x0_1.Flag 4=1)else false)=true then
 if(bif record_3 then decide (2≤remI x0_1.Flag 4)else false)=true then
 g90 ((⟨b_7⟩:Sheaveref07Draft),r,quoI .u8 x0_1.Flag 4) >>=fun r_1=>
 some [(⟨id_2,t56,r,true,r_1.2,SValue.eta r_1.1⟩:SMember)] >>=fun t87=>
 if room 160 (b_9++t87).length=true then
 some (i_3,record_3,id_2,b_7,b_8,b_9++t87)
 else none
 else
 some [(⟨id_2,t56,r,true,false,(⟨0,false,0,[],0,[],[],[]⟩:SValue)⟩:SMember)] >>=fun t87_1=>
 if room 160 (b_9++t87_1).length=true then
 some (i_3,record_3,id_2,b_7,b_8,b_9++t87_1)
 else none
 else
 if(bif record_3 then decide (2≤remI x0_1.Flag 4)else false)=true then
 g90 ((⟨b_7⟩:Sheaveref07Draft),r,quoI .u8 x0_1.Flag 4) >>=fun r_4=>
 some [(⟨id_2,t56,r,false,r_4.2,SValue.eta r_4.1⟩:SMember)] >>=fun t87_2=>
 if room 160 (b_9++t87_2).length=true then
 some (i_3,record_3,id_2,b_7,b_8,b_9++t87_2)
 else none
 else
 some [(⟨id_2,t56,r,false,false,(⟨0,false,0,[],0,[],[],[]⟩:SValue)⟩:SMember)] >>=fun t87_3=>
 if room 160 (b_9++t87_3).length=true then
 some (i_3,record_3,id_2,b_7,b_8,b_9++t87_3)
 else none
 else none
 else none
 else
 some (i_3,record_3,id_2,b_7,b_8,b_9)
  partial_fixpoint
theorem F50_b :gg prog 50=true:=by kernel_rfl
theorem g1pw :f50.body.bind (Shv.resolve prog f50.ntmps)=some (g6 prog f50):=by kernel_rfl
theorem g1m8 :g7 prog f50.results.toList=some [.tmp 6]:=by kernel_rfl
def ggp :Shape:=⟨[(1,.c (.hole (.int .i64))),(2,.c (.hole .bool)),(3,.c (.ptr 0 0)),(7,.c (.ptr 1 0)),(8,.c (.arr 2)),(9,.c (.hole (.int .i64))),(10,.c (.hole (.int .i64)))],[.box [.hole (.slice (.nm 10))],.brow 10,.arr (.nm 0)]⟩
def gaq :List Ty:=[.int .i64,.bool,.int .i64,.int .i64,.slice (.nm 10),.nm 10,.slice (.nm 0)]
def g9w :List OSpec:=[⟨.exit 2,⟨[(1,.c (.hole (.int .i64))),(2,.c (.hole .bool)),(3,.c (.ptr 0 0)),(7,.c (.ptr 1 0)),(8,.c (.arr 2)),(9,.c (.hole (.int .i64)))],[.box [.hole (.slice (.nm 10))],.brow 10,.arr (.nm 0)]⟩,[],[.int .i64,.bool,.int .i64,.slice (.nm 10),.nm 10,.slice (.nm 0)]⟩]
def gs0(F:Hs Un.D gaq→Option (OSum Un g9w)) :LSpec Un:=⟨ggp,[],gaq,g9w,F⟩
def ghr :LSpec Un:=gs0 g3l
theorem gp8 :LSnd prog f50.ntmps 0 (gn (gn (g6 prog f50) 0) 0) ghr:=fun h o ho=>g3l.partial_correctness (fun h o=>LAt (U:=Un) prog f50.ntmps 0 (gn (gn (g6 prog f50) 0) 0) ggp gaq g9w h o) (fun F1 HF1 h o ho=>LAt.of_round (fo:=foS [gez,gdv]) (lo:=loL []) (own:=[]) (F':=F1) (FoSnd.cons F77_b gud (FoSnd.cons F78_b gsq FoSnd.nil)) (LoOk.snd LoOk.nil) HF1 (Eq.trans (by kernel_rfl) ho)) h o ho
def g3g(x_:Int × Bool × Int × List Sheaveref07Node × Sheaveref07Node × List SMember) :Option (List SMember):=
 match x_ with
 | (i_1,record_1,id,b_1,b_2,b_3)=>
 if decide (id≤12)=true then
 g3l (i_1,record_1,id,0,b_1,b_2,b_3) >>=fun o_1=>
 g3g (o_1.1,o_1.2.1,addI .i64 o_1.2.2.1 1,o_1.2.2.2.1,o_1.2.2.2.2.1,o_1.2.2.2.2.2)
 else
 some b_3
  partial_fixpoint
def gik :Shape:=⟨[(1,.c (.hole (.int .i64))),(2,.c (.hole .bool)),(3,.c (.ptr 0 0)),(7,.c (.ptr 1 0)),(8,.c (.arr 2)),(9,.c (.hole (.int .i64)))],[.box [.hole (.slice (.nm 10))],.brow 10,.arr (.nm 0)]⟩
def gbu :List Ty:=[.int .i64,.bool,.int .i64,.slice (.nm 10),.nm 10,.slice (.nm 0)]
def gar :List OSpec:=[⟨.exit 0,⟨[(8,.c (.arr 0))],[.arr (.nm 0)]⟩,[],[.slice (.nm 0)]⟩]
def guf(F:Hs Un.D gbu→Option (OSum Un gar)) :LSpec Un:=⟨gik,[(.slot 8,.nm 0)],gbu,gar,F⟩
def gjc :LSpec Un:=guf g3g
theorem gs1 :LSnd prog f50.ntmps 0 (gn (g6 prog f50) 0) gjc:=fun h o ho=>g3g.partial_correctness (fun h o=>LAt (U:=Un) prog f50.ntmps 0 (gn (g6 prog f50) 0) gik gbu gar h o) (fun F1 HF1 h o ho=>LAt.of_round (fo:=foS []) (lo:=loL [(0,ghr)]) (own:=[(.slot 8,.nm 0)]) (F':=F1) FoSnd.nil (LoOk.snd (LoOk.cons gp8 LoOk.nil)) HF1 (Eq.trans (by kernel_rfl) ho)) h o ho
def g6n(x_:Sheaveref07Draft × Int × Bool) :Option (List SMember):=
 match x_ with
 | (d,i,record)=>
 if inR i d.Nodes.length=true then
 g3g (i,record,1,d.Nodes,d.Nodes.getD i.toNat dSheaveref07Node,[]) >>=fun o=>
 some o
 else none
def gyc(F:Hs Un.D [.nm 9,.int .i64,.bool]→Option (Hs Un.D [.slice (.nm 0)])) :FSpec Un:=⟨50,[.row 9,.c (.hole (.int .i64)),.c (.hole .bool)],[],[.nm 9,.int .i64,.bool],.c (.hole (.slice (.nm 0))),[],[.slice (.nm 0)],F⟩
def gg4 :FSpec Un:=gyc g6n
theorem gvq :FSnd prog gg4:=FSnd.of fun h r hr=>FAt.of_body (s:=gg4) (fo:=foS []) (lo:=loL [(0,gjc)]) func50 g1pw g1m8 (by kernel_rfl) FoSnd.nil (LoOk.snd (LoOk.cons gs1 LoOk.nil)) (Eq.trans (by kernel_rfl) hr)
def g3w(x_:Int × Int × List Int × Int × List Sheaveref07Node × Int × List UInt8 × Int × Int × Int × Int × Int × Bool × List SType × List SSymbol) :Option (Int × Int × List Sheaveref07Node × Int × List UInt8 × Int × Int × Int × Int × Int × Bool × List SType × List SSymbol):=
 match x_ with
 | (n_3,i_3,l_22,k,b_25,b_26,b_27,b_28,b_29,b_30,b_31,b_32,b_33,b_34,b_35)=>
 if decide (k < (l_22.length:Int))=true then
 if inR k l_22.length=true then
 if inR k l_22.length=true then
 some (gdf (wrp .i32 (addI .i64 97 (l_22.getD k.toNat 0)))) >>=fun t87=>
 if decide ([115].length+t87.length≤g26)=true then
 some [(⟨l_22.getD k.toNat 0,[115]++t87⟩:SSymbol)] >>=fun t90=>
 if room 24 (b_35++t90).length=true then
 g3w (n_3,i_3,l_22,addI .i64 k 1,b_25,b_26,b_27,b_28,b_29,b_30,b_31,b_32,b_33,b_34,b_35++t90)
 else none
 else none
 else none
 else none
 else
 some (n_3,i_3,b_25,b_26,b_27,b_28,b_29,b_30,b_31,b_32,b_33,b_34,b_35)
  partial_fixpoint
theorem F20_b :gg prog 20=true:=by kernel_rfl
theorem g1px :f20.body.bind (Shv.resolve prog f20.ntmps)=some (g6 prog f20):=by kernel_rfl
theorem g1m9 :g7 prog f20.results.toList=some [.cell 2 true 1,.tmp 3]:=by kernel_rfl
def gjd :Shape:=⟨[(1,.c (.ptr 0 0)),(2,.c (.ptr 1 0)),(4,.c (.hole (.int .i64))),(5,.c (.ptr 2 0)),(6,.c (.hole (.int .i64))),(8,.c (.ptr 3 0)),(9,.c (.hole (.slice (.int .i64)))),(10,.c (.hole (.int .i64)))],[.box [.hole (.slice (.nm 10))],.box [.cap0],.box [.arr 4],.box [.hole (.int .i64),.hole .str,.hole (.int .i64),.hole (.int .i64),.hole (.int .i64),.arr 5,.cap0,.hole (.int .i64),.hole (.int .i64),.hole .bool],.arr (.nm 3),.arr (.nm 4)]⟩
def gd1 :List Ty:=[.int .i64,.int .i64,.slice (.int .i64),.int .i64,.slice (.nm 10),.int .i64,.str,.int .i64,.int .i64,.int .i64,.int .i64,.int .i64,.bool,.slice (.nm 3),.slice (.nm 4)]
def gbd :List OSpec:=[⟨.exit 3,⟨[(1,.c (.ptr 0 0)),(2,.c (.ptr 1 0)),(4,.c (.hole (.int .i64))),(5,.c (.ptr 2 0)),(6,.c (.hole (.int .i64))),(8,.c (.ptr 3 0))],[.box [.hole (.slice (.nm 10))],.box [.cap0],.box [.arr 4],.box [.hole (.int .i64),.hole .str,.hole (.int .i64),.hole (.int .i64),.hole (.int .i64),.arr 5,.cap0,.hole (.int .i64),.hole (.int .i64),.hole .bool],.arr (.nm 3),.arr (.nm 4)]⟩,[],[.int .i64,.int .i64,.slice (.nm 10),.int .i64,.str,.int .i64,.int .i64,.int .i64,.int .i64,.int .i64,.bool,.slice (.nm 3),.slice (.nm 4)]⟩]
def gvr(F:Hs Un.D gd1→Option (OSum Un gbd)) :LSpec Un:=⟨gjd,[(.cell 228 5,.nm 4)],gd1,gbd,F⟩
def gks :LSpec Un:=gvr g3w
theorem gsr :LSnd prog f20.ntmps 0 (gn (gn (g6 prog f20) 0) 0) gks:=fun h o ho=>g3w.partial_correctness (fun h o=>LAt (U:=Un) prog f20.ntmps 0 (gn (gn (g6 prog f20) 0) 0) gjd gd1 gbd h o) (fun F1 HF1 h o ho=>LAt.of_round (fo:=foS []) (lo:=loL []) (own:=[(.cell 3 5,.nm 4)]) (F':=F1) FoSnd.nil (LoOk.snd LoOk.nil) HF1 (Eq.trans (by kernel_rfl) ho)) h o ho
def gx(x_:Int × Int × List Sheaveref07Node × List SType) :Option (List SType):=
 match x_ with
 | (n,i,b_1,b_2)=>
 if decide (i < n)=true then
 if inR i b_1.length=true then
 some (b_1.getD i.toNat dSheaveref07Node) >>=fun x0=>
 g68 ((⟨b_1⟩:Sheaveref07Draft),i) >>=fun r=>
 g1z r >>=fun r_1=>
 if r_1=true then
 some (gdf (wrp .i32 (addI .i64 65 i))) >>=fun t41=>
 if decide (r=2)=true then
 g5s x0 >>=fun r_2=>
 g7b x0 >>=fun r_3=>
 some [(⟨r,t41,r_2,r_3,0,[],[],0,0,false⟩:SType)] >>=fun t167=>
 if room 120 (b_2++t167).length=true then
 gx (n,addI .i64 i 1,b_1,b_2++t167)
 else none
 else
 if decide (r=3)=true then
 some [(⟨r,t41,0,0,wrp .i64 (remI x0.A 4),[],[],0,0,false⟩:SType)] >>=fun t167_1=>
 if room 120 (b_2++t167_1).length=true then
 gx (n,addI .i64 i 1,b_1,b_2++t167_1)
 else none
 else
 if decide (r=4)=true then
 g55 x0 >>=fun r_4=>
 g3w (n,i,r_4,0,b_1,r,t41,0,0,0,0,0,decide (remI x0.B 2=1),b_2,[]) >>=fun o_1=>
 some [(⟨o_1.2.2.2.1,o_1.2.2.2.2.1,o_1.2.2.2.2.2.1,o_1.2.2.2.2.2.2.1,o_1.2.2.2.2.2.2.2.1,o_1.2.2.2.2.2.2.2.2.2.2.2.2,[],o_1.2.2.2.2.2.2.2.2.1,o_1.2.2.2.2.2.2.2.2.2.1,o_1.2.2.2.2.2.2.2.2.2.2.1⟩:SType)] >>=fun t167_2=>
 if room 120 (o_1.2.2.2.2.2.2.2.2.2.2.2.1++t167_2).length=true then
 gx (o_1.1,addI .i64 o_1.2.1 1,o_1.2.2.1,o_1.2.2.2.2.2.2.2.2.2.2.2.1++t167_2)
 else none
 else
 if decide (r=5)=true then
 g6n ((⟨b_1⟩:Sheaveref07Draft),i,true) >>=fun r_5=>
 some [(⟨r,t41,0,0,0,[],r_5,0,0,false⟩:SType)] >>=fun t167_3=>
 if room 120 (b_2++t167_3).length=true then
 gx (n,addI .i64 i 1,b_1,b_2++t167_3)
 else none
 else
 if decide (r=6)=true then
 g6n ((⟨b_1⟩:Sheaveref07Draft),i,false) >>=fun r_6=>
 if decide ((r_6.length:Int)=0)=true then
 some [(⟨5,t41,0,0,0,[],[],0,0,false⟩:SType)] >>=fun t167_4=>
 if room 120 (b_2++t167_4).length=true then
 gx (n,addI .i64 i 1,b_1,b_2++t167_4)
 else none
 else
 some [(⟨r,t41,0,0,0,[],r_6,0,0,decide (remI x0.B 2=1)⟩:SType)] >>=fun t167_5=>
 if room 120 (b_2++t167_5).length=true then
 gx (n,addI .i64 i 1,b_1,b_2++t167_5)
 else none
 else
 if decide (r=7)=true then
 if(!(decide (n=0)))=true then
 some [(⟨r,t41,0,0,wrp .i64 (remI x0.A 4),[],[],0,remI (wrp .i64 x0.C) n,false⟩:SType)] >>=fun t167_6=>
 if room 120 (b_2++t167_6).length=true then
 gx (n,addI .i64 i 1,b_1,b_2++t167_6)
 else none
 else none
 else
 if decide (r=8)=true then
 some (wrp .i64 (remI x0.A 4)) >>=fun t135=>
 g8g ((⟨b_1⟩:Sheaveref07Draft),x0.B) >>=fun r_7=>
 if(!(decide (n=0)))=true then
 some (remI (wrp .i64 x0.C) n) >>=fun t144=>
 if decide (r_7 < 0)=true then
 some [(⟨7,[],0,0,t135,[],[],0,t144,false⟩:SType)] >>=fun t167_7=>
 if room 120 (b_2++t167_7).length=true then
 gx (n,addI .i64 i 1,b_1,b_2++t167_7)
 else none
 else
 some [(⟨r,t41,0,0,t135,[],[],r_7,t144,false⟩:SType)] >>=fun t167_8=>
 if room 120 (b_2++t167_8).length=true then
 gx (n,addI .i64 i 1,b_1,b_2++t167_8)
 else none
 else none
 else
 if decide (r=9)=true then
 if(!(decide (n=0)))=true then
 some [(⟨r,t41,0,0,0,[],[],0,remI (wrp .i64 x0.C) n,false⟩:SType)] >>=fun t167_9=>
 if room 120 (b_2++t167_9).length=true then
 gx (n,addI .i64 i 1,b_1,b_2++t167_9)
 else none
 else none
 else
 some [(⟨r,t41,0,0,0,[],[],0,0,false⟩:SType)] >>=fun t167_10=>
 if room 120 (b_2++t167_10).length=true then
 gx (n,addI .i64 i 1,b_1,b_2++t167_10)
 else none
 else
 if decide (r=2)=true then
 g5s x0 >>=fun r_8=>
 g7b x0 >>=fun r_9=>
 some [(⟨r,[],r_8,r_9,0,[],[],0,0,false⟩:SType)] >>=fun t167_11=>
 if room 120 (b_2++t167_11).length=true then
 gx (n,addI .i64 i 1,b_1,b_2++t167_11)
 else none
 else
 if decide (r=3)=true then
 some [(⟨r,[],0,0,wrp .i64 (remI x0.A 4),[],[],0,0,false⟩:SType)] >>=fun t167_12=>
 if room 120 (b_2++t167_12).length=true then
 gx (n,addI .i64 i 1,b_1,b_2++t167_12)
 else none
 else
 if decide (r=4)=true then
 g55 x0 >>=fun r_10=>
 g3w (n,i,r_10,0,b_1,r,[],0,0,0,0,0,decide (remI x0.B 2=1),b_2,[]) >>=fun o_2=>
 some [(⟨o_2.2.2.2.1,o_2.2.2.2.2.1,o_2.2.2.2.2.2.1,o_2.2.2.2.2.2.2.1,o_2.2.2.2.2.2.2.2.1,o_2.2.2.2.2.2.2.2.2.2.2.2.2,[],o_2.2.2.2.2.2.2.2.2.1,o_2.2.2.2.2.2.2.2.2.2.1,o_2.2.2.2.2.2.2.2.2.2.2.1⟩:SType)] >>=fun t167_13=>
 if room 120 (o_2.2.2.2.2.2.2.2.2.2.2.2.1++t167_13).length=true then
 gx (o_2.1,addI .i64 o_2.2.1 1,o_2.2.2.1,o_2.2.2.2.2.2.2.2.2.2.2.2.1++t167_13)
 else none
 else
 if decide (r=5)=true then
 g6n ((⟨b_1⟩:Sheaveref07Draft),i,true) >>=fun r_11=>
 some [(⟨r,[],0,0,0,[],r_11,0,0,false⟩:SType)] >>=fun t167_14=>
 if room 120 (b_2++t167_14).length=true then
 gx (n,addI .i64 i 1,b_1,b_2++t167_14)
 else none
 else
 if decide (r=6)=true then
 g6n ((⟨b_1⟩:Sheaveref07Draft),i,false) >>=fun r_12=>
 if decide ((r_12.length:Int)=0)=true then
 some [(⟨5,[],0,0,0,[],[],0,0,false⟩:SType)] >>=fun t167_15=>
 if room 120 (b_2++t167_15).length=true then
 gx (n,addI .i64 i 1,b_1,b_2++t167_15)
 else none
 else
 some [(⟨r,[],0,0,0,[],r_12,0,0,decide (remI x0.B 2=1)⟩:SType)] >>=fun t167_16=>
 if room 120 (b_2++t167_16).length=true then
 gx (n,addI .i64 i 1,b_1,b_2++t167_16)
 else none
 else
 if decide (r=7)=true then
 if(!(decide (n=0)))=true then
 some [(⟨r,[],0,0,wrp .i64 (remI x0.A 4),[],[],0,remI (wrp .i64 x0.C) n,false⟩:SType)] >>=fun t167_17=>
 if room 120 (b_2++t167_17).length=true then
 gx (n,addI .i64 i 1,b_1,b_2++t167_17)
 else none
 else none
 else
 if decide (r=8)=true then
 some (wrp .i64 (remI x0.A 4)) >>=fun t135_1=>
 g8g ((⟨b_1⟩:Sheaveref07Draft),x0.B) >>=fun r_13=>
 if(!(decide (n=0)))=true then
 some (remI (wrp .i64 x0.C) n) >>=fun t144_1=>
 if decide (r_13 < 0)=true then
 some [(⟨7,[],0,0,t135_1,[],[],0,t144_1,false⟩:SType)] >>=fun t167_18=>
 if room 120 (b_2++t167_18).length=true then
 gx (n,addI .i64 i 1,b_1,b_2++t167_18)
 else none
 else
 some [(⟨r,[],0,0,t135_1,[],[],r_13,t144_1,false⟩:SType)] >>=fun t167_19=>
 if room 120 (b_2++t167_19).length=true then
 gx (n,addI .i64 i 1,b_1,b_2++t167_19)
 else none
 else none
 else
 if decide (r=9)=true then
 if(!(decide (n=0)))=true then
 some [(⟨r,[],0,0,0,[],[],0,remI (wrp .i64 x0.C) n,false⟩:SType)] >>=fun t167_20=>
 if room 120 (b_2++t167_20).length=true then
 gx (n,addI .i64 i 1,b_1,b_2++t167_20)
 else none
 else none
 else
 some [(⟨r,[],0,0,0,[],[],0,0,false⟩:SType)] >>=fun t167_21=>
 if room 120 (b_2++t167_21).length=true then
 gx (n,addI .i64 i 1,b_1,b_2++t167_21)
 else none
 else none
 else
 some b_2
  partial_fixpoint
def glx :Shape:=⟨[(1,.c (.ptr 0 0)),(2,.c (.ptr 1 0)),(4,.c (.hole (.int .i64))),(5,.c (.ptr 2 0)),(6,.c (.hole (.int .i64)))],[.box [.hole (.slice (.nm 10))],.box [.cap0],.box [.arr 3],.arr (.nm 3)]⟩
def gf0 :List Ty:=[.int .i64,.int .i64,.slice (.nm 10),.slice (.nm 3)]
def gd2 :List OSpec:=[⟨.exit 0,⟨[(2,.c (.ptr 0 0)),(5,.c (.ptr 1 0))],[.box [.cap0],.box [.arr 2],.arr (.nm 3)]⟩,[],[.slice (.nm 3)]⟩]
def gyd(F:Hs Un.D gf0→Option (OSum Un gd2)) :LSpec Un:=⟨glx,[(.cell 208 0,.nm 3)],gf0,gd2,F⟩
def gmx :LSpec Un:=gyd gx
theorem gvs :LSnd prog f20.ntmps 0 (gn (g6 prog f20) 0) gmx:=fun h o ho=>gx.partial_correctness (fun h o=>LAt (U:=Un) prog f20.ntmps 0 (gn (g6 prog f20) 0) glx gf0 gd2 h o) (fun F1 HF1 h o ho=>LAt.of_round (fo:=foS [g69,gg2,gah,gcf,gda,gg4,gdb]) (lo:=loL [(0,gks)]) (own:=[(.cell 2 0,.nm 3)]) (F':=F1) (FoSnd.cons F45_b g8f (FoSnd.cons F46_b gvn (FoSnd.cons F47_b gg3 (FoSnd.cons F48_b glu (FoSnd.cons F49_b gmv (FoSnd.cons F50_b gvq (FoSnd.cons F51_b gmw FoSnd.nil))))))) (LoOk.snd (LoOk.cons gsr LoOk.nil)) HF1 (Eq.trans (by kernel_rfl) ho)) h o ho
def g9a(d:Sheaveref07Draft) :Option (SSchema × Bool):=
 some (d.Nodes.length:Int) >>=fun t13=>
 if(bif decide (t13 < 1)then true else decide (5 < t13))=true then
 some ((⟨[]⟩:SSchema),false)
 else
 gx (t13,0,d.Nodes,[]) >>=fun o=>
 some ((⟨o⟩:SSchema),true)
def g132(F:Hs Un.D [.nm 9]→Option (Hs Un.D [.nm 5,.bool])) :FSpec Un:=⟨20,[.row 9],[],[.nm 9],.tup [.row 5,.c (.hole .bool)],[],[.nm 5,.bool],F⟩
def gkc :FSpec Un:=g132 g9a
theorem gzu :FSnd prog gkc:=FSnd.of fun h r hr=>FAt.of_body (s:=gkc) (fo:=foS []) (lo:=loL [(0,gmx)]) func20 g1px g1m9 (by kernel_rfl) FoSnd.nil (LoOk.snd (LoOk.cons gvs LoOk.nil)) (Eq.trans (by kernel_rfl) hr)
def g41(t:SType) :Option (SType):=
 if decide (t.Kind=1)=true then
 some (⟨t.Kind,[],0,0,0,[],[],0,0,false⟩:SType)
 else
 if decide (t.Kind=2)=true then
 some (⟨t.Kind,[],t.Low,t.High,0,[],[],0,0,false⟩:SType)
 else
 if decide (t.Kind=3)=true then
 some (⟨t.Kind,[],0,0,t.Max,[],[],0,0,false⟩:SType)
 else
 if decide (t.Kind=4)=true then
 some (⟨t.Kind,t.Name,0,0,0,t.Symbols,[],0,0,t.Open⟩:SType)
 else
 if decide (t.Kind=5)=true then
 some (⟨t.Kind,t.Name,0,0,0,[],t.Members,0,0,false⟩:SType)
 else
 if decide (t.Kind=6)=true then
 some (⟨t.Kind,t.Name,0,0,0,[],t.Members,0,0,t.Open⟩:SType)
 else
 if decide (t.Kind=7)=true then
 some (⟨t.Kind,[],0,0,t.Max,[],[],0,t.Elem,false⟩:SType)
 else
 if decide (t.Kind=8)=true then
 some (⟨t.Kind,[],0,0,t.Max,[],[],t.Key,t.Elem,false⟩:SType)
 else
 some (⟨t.Kind,[],0,0,0,[],[],0,t.Elem,false⟩:SType)
def g3u(x_:Int × SValue × SValue) :Option ((Bool) ⊕ (SValue × SValue)):=
 match x_ with
 | (i,b_3,b_4)=>
 if decide (i < (b_3.Rest.length:Int))=true then
 if inR i b_3.Rest.length=true then
 some (b_3.Rest.getD i.toNat dSRaw) >>=fun x0=>
 if inR i b_4.Rest.length=true then
 some (b_4.Rest.getD i.toNat dSRaw) >>=fun x0_1=>
 if(!(eqI x0.ID x0_1.ID && (eqS x0.Data x0_1.Data && true)))=true then
 some (.inl false)
 else
 g3u (addI .i64 i 1,SValue.eta b_3,SValue.eta b_4)
 else none
 else none
 else
 some (.inr (SValue.eta b_3,SValue.eta b_4))
  partial_fixpoint
mutual
def g1y(x_:SValue × SValue) :Option (Bool):=
 match x_ with
 | (a,b)=>
 if(bif bif bif bif bif (!(decide (a.Kind=b.Kind)))then true else(!(eqB a.Bool_ b.Bool_))then true else(!(decide (a.Int_=b.Int_)))then true else(!(decide (a.Str=b.Str)))then true else(!(decide (a.ID=b.ID)))then true else(!(decide ((a.Rest.length:Int)=(b.Rest.length:Int)))))=true then
 some false
 else
 g3u (0,(⟨a.Kind,a.Bool_,a.Int_,a.Str,a.ID,a.Keys,a.Items,a.Rest⟩:SValue),(⟨b.Kind,b.Bool_,b.Int_,b.Str,b.ID,b.Keys,b.Items,b.Rest⟩:SValue)) >>=fun o=>
 match o with
 | .inl o_1=>
 some o_1
 | .inr o_2=>
 g9l (o_2.1.Keys,o_2.2.Keys) >>=fun r=>
 (if r=true then g9l (o_2.1.Items,o_2.2.Items)else some false) >>=fun r_1=>
 some (bif r then r_1 else false)
  partial_fixpoint
def g9l(x_:List SValue × List SValue) :Option (Bool):=
 match x_ with
 | (a,b)=>
 if(!(decide ((a.length:Int)=(b.length:Int))))=true then
 some false
 else
 g5t (a,b,0) >>=fun o=>
 match o with
 | .inl o_1=>
 some o_1
 | .inr o_2=>
 some true
  partial_fixpoint
def g5t(x_:List SValue × List SValue × Int) :Option ((Bool) ⊕ (Unit)):=
 match x_ with
 | (a_1,b_1,i)=>
 if decide (i < (a_1.length:Int))=true then
 if inR i a_1.length=true then
 if inR i b_1.length=true then
 g1y (SValue.eta (a_1.getD i.toNat dSValue),SValue.eta (b_1.getD i.toNat dSValue)) >>=fun r=>
 if(!r)=true then
 some (.inl false)
 else
 g5t (a_1,b_1,addI .i64 i 1)
 else none
 else none
 else
 some (.inr ())
  partial_fixpoint
end
end
section
open Go Go.Proofs.YthnmepafpikaiaaGreat.Shv
open Tryz
set_option maxRecDepth 100000
def g9m(x_:SMember × SMember) :Option (Bool):=
 match x_ with
 | (a,b)=>
 some (bif bif bif bif decide (a.ID=b.ID)then decide (a.Name=b.Name)else false then decide (a.Type_=b.Type_)else false then eqB a.Critical b.Critical else false then eqB a.HasDefault b.HasDefault else false) >>=fun t37=>
 (if t37=true then g1y ((⟨a.Default.Kind,a.Default.Bool_,a.Default.Int_,a.Default.Str,a.Default.ID,a.Default.Keys,a.Default.Items,a.Default.Rest⟩:SValue),(⟨b.Default.Kind,b.Default.Bool_,b.Default.Int_,b.Default.Str,b.Default.ID,b.Default.Keys,b.Default.Items,b.Default.Rest⟩:SValue))else some false) >>=fun r=>
 some (bif t37 then r else false)
def g46(x_:Int × SType × SType) :Option ((Bool) ⊕ (SType × SType)):=
 match x_ with
 | (i,b_3,b_4)=>
 if decide (i < (b_3.Symbols.length:Int))=true then
 if inR i b_3.Symbols.length=true then
 some (b_3.Symbols.getD i.toNat dSSymbol) >>=fun x0=>
 if inR i b_4.Symbols.length=true then
 some (b_4.Symbols.getD i.toNat dSSymbol) >>=fun x0_1=>
 if(!(eqI x0.ID x0_1.ID && (eqS x0.Name x0_1.Name && true)))=true then
 some (.inl false)
 else
 g46 (addI .i64 i 1,b_3,b_4)
 else none
 else none
 else
 some (.inr (b_3,b_4))
  partial_fixpoint
def g47(x_:Int × SType × SType) :Option ((Bool) ⊕ (Unit)):=
 match x_ with
 | (i_1,b_5,b_6)=>
 if decide (i_1 < (b_5.Members.length:Int))=true then
 if inR i_1 b_5.Members.length=true then
 some (b_5.Members.getD i_1.toNat dSMember) >>=fun x0_2=>
 if inR i_1 b_6.Members.length=true then
 some (b_6.Members.getD i_1.toNat dSMember) >>=fun x0_3=>
 g9m ((⟨x0_2.ID,x0_2.Name,x0_2.Type_,x0_2.Critical,x0_2.HasDefault,SValue.eta x0_2.Default⟩:SMember),(⟨x0_3.ID,x0_3.Name,x0_3.Type_,x0_3.Critical,x0_3.HasDefault,SValue.eta x0_3.Default⟩:SMember)) >>=fun r=>
 if(!r)=true then
 some (.inl false)
 else
 g47 (addI .i64 i_1 1,b_5,b_6)
 else none
 else none
 else
 some (.inr ())
  partial_fixpoint
def gf1(x_:SType × SType) :Option (Bool):=
 match x_ with
 | (a,b)=>
 if(bif bif bif bif bif bif bif bif bif (!(decide (a.Kind=b.Kind)))then true else(!(decide (a.Name=b.Name)))then true else(!(decide (a.Low=b.Low)))then true else(!(decide (a.High=b.High)))then true else(!(decide (a.Max=b.Max)))then true else(!(decide (a.Key=b.Key)))then true else(!(decide (a.Elem=b.Elem)))then true else(!(eqB a.Open b.Open))then true else(!(decide ((a.Symbols.length:Int)=(b.Symbols.length:Int))))then true else(!(decide ((a.Members.length:Int)=(b.Members.length:Int)))))=true then
 some false
 else
 g46 (0,(⟨a.Kind,a.Name,a.Low,a.High,a.Max,a.Symbols,a.Members,a.Key,a.Elem,a.Open⟩:SType),(⟨b.Kind,b.Name,b.Low,b.High,b.Max,b.Symbols,b.Members,b.Key,b.Elem,b.Open⟩:SType)) >>=fun o=>
 match o with
 | .inl o_1=>
 some o_1
 | .inr o_2=>
 g47 (0,o_2.1,o_2.2) >>=fun o_3=>
 match o_3 with
 | .inl o_4=>
 some o_4
 | .inr o_5=>
 some true
def gcg(b:Int) :Option (Bool):=
 some (bif bif bif decide (97≤b)then decide (b≤122)else false then true else bif decide (65≤b)then decide (b≤90)else false then true else decide (b=95))
def git(b:Int) :Option (Bool):=
 some (bif decide (48≤b)then decide (b≤57)else false)
def g50(x_:List UInt8 × Int) :Option ((Bool) ⊕ (Unit)):=
 match x_ with
 | (s_1,i)=>
 if decide (i < (s_1.length:Int))=true then
 if inR i s_1.length=true then
 gcg (g4p s_1 i) >>=fun r_1=>
 some (!r_1) >>=fun t27=>
 if(inR i s_1.length || (!t27))=true then
 (if t27=true then git (g4p s_1 i)else some false) >>=fun r_2=>
 if(bif t27 then(!r_2)else false)=true then
 some (.inl false)
 else
 g50 (s_1,addI .i64 i 1)
 else none
 else none
 else
 some (.inr ())
  partial_fixpoint
def g7n(s:List UInt8) :Option (Bool):=
 some (bif decide (s=[])then true else decide (24 < (s.length:Int))) >>=fun t10=>
 if(inR 0 s.length || (!(!t10)))=true then
 (if(!t10)=true then gcg (g4p s 0)else some false) >>=fun r=>
 if(bif t10 then true else(!r))=true then
 some false
 else
 g50 (s,0) >>=fun o=>
 match o with
 | .inl o_1=>
 some o_1
 | .inr o_2=>
 some true
 else none
def gih(x_:Int × Int) :Option (Bool):=
 match x_ with
 | (before,n)=>
 some (bif bif decide (before < n)then decide (1≤n)else false then decide (n≤1000)else false)
def g33(x_:List SSymbol × Int × Int) :Option ((Bool) ⊕ (List SSymbol × Int)):=
 match x_ with
 | (l_4,i_2,k)=>
 if decide (k < i_2)=true then
 if inR k l_4.length=true then
 if inR i_2 l_4.length=true then
 if decide ((l_4.getD k.toNat dSSymbol).Name=(l_4.getD i_2.toNat dSSymbol).Name)=true then
 some (.inl false)
 else
 g33 (l_4,i_2,addI .i64 k 1)
 else none
 else none
 else
 some (.inr (l_4,i_2))
  partial_fixpoint
def g4l(x_:List SSymbol × Int × Int) :Option ((Bool) ⊕ (List SSymbol)):=
 match x_ with
 | (l_2,before,i)=>
 if decide (i < (l_2.length:Int))=true then
 if inR i l_2.length=true then
 gih (before,(l_2.getD i.toNat dSSymbol).ID) >>=fun r=>
 some (!r) >>=fun t19=>
 if(inR i l_2.length || (!(!t19)))=true then
 (if(!t19)=true then g7n (l_2.getD i.toNat dSSymbol).Name else some false) >>=fun r_1=>
 if(bif t19 then true else(!r_1))=true then
 some (.inl false)
 else
 g33 (l_2,i,0) >>=fun o_3=>
 match o_3 with
 | .inl o_4=>
 some (.inl o_4)
 | .inr o_5=>
 if inR o_5.2 o_5.1.length=true then
 g4l (o_5.1,(o_5.1.getD o_5.2.toNat dSSymbol).ID,addI .i64 o_5.2 1)
 else none
 else none
 else none
 else
 some (.inr l_2)
  partial_fixpoint
def gbl(l:List SSymbol) :Option (Bool):=
 g4l (l,0,0) >>=fun o=>
 match o with
 | .inl o_1=>
 some o_1
 | .inr o_2=>
 some (bif decide (1≤(o_2.length:Int))then decide ((o_2.length:Int)≤16)else false)
def g34(x_:List SMember × Bool × Int × Int × SMember) :Option ((Bool) ⊕ (List SMember × Bool × Int × SMember)):=
 match x_ with
 | (l_4,record_4,i_2,k,b_1)=>
 if decide (k < i_2)=true then
 if inR k l_4.length=true then
 if decide ((l_4.getD k.toNat dSMember).Name=b_1.Name)=true then
 some (.inl false)
 else
 g34 (l_4,record_4,i_2,addI .i64 k 1,(⟨b_1.ID,b_1.Name,b_1.Type_,b_1.Critical,b_1.HasDefault,SValue.eta b_1.Default⟩:SMember))
 else none
 else
 some (.inr (l_4,record_4,i_2,(⟨b_1.ID,b_1.Name,b_1.Type_,b_1.Critical,b_1.HasDefault,SValue.eta b_1.Default⟩:SMember)))
  partial_fixpoint
def g4m(x_:List SMember × Bool × Int × Int) :Option ((Bool) ⊕ (List SMember × Bool)):=
 match x_ with
 | (l_2,record_2,before,i)=>
 if decide (i < (l_2.length:Int))=true then
 if inR i l_2.length=true then
 some (l_2.getD i.toNat dSMember) >>=fun x0=>
 gih (before,x0.ID) >>=fun r=>
 some (!r) >>=fun t23=>
 (if(!t23)=true then g7n x0.Name else some false) >>=fun r_1=>
 if(bif bif bif t23 then true else(!r_1)then true else bif x0.Critical then x0.HasDefault else false then true else bif (!record_2)then bif x0.Critical then true else x0.HasDefault else false)=true then
 some (.inl false)
 else
 some (!x0.HasDefault) >>=fun t52=>
 (if t52=true then g1y (SValue.eta x0.Default,(⟨0,false,0,[],0,[],[],[]⟩:SValue))else some false) >>=fun r_2=>
 if(bif t52 then(!r_2)else false)=true then
 some (.inl false)
 else
 g34 (l_2,record_2,i,0,(⟨x0.ID,x0.Name,x0.Type_,x0.Critical,x0.HasDefault,SValue.eta x0.Default⟩:SMember)) >>=fun o_3=>
 match o_3 with
 | .inl o_4=>
 some (.inl o_4)
 | .inr o_5=>
 g4m (o_5.1,o_5.2.1,o_5.2.2.2.ID,addI .i64 o_5.2.2.1 1)
 else none
 else
 some (.inr (l_2,record_2))
  partial_fixpoint
end
section
open Go Go.Proofs.YthnmepafpikaiaaGreat.Shv
open Tryz
set_option maxRecDepth 100000
def g91(x_:List SMember × Bool) :Option (Bool):=
 match x_ with
 | (l,record)=>
 g4m (l,record,0,0) >>=fun o=>
 match o with
 | .inl o_1=>
 some o_1
 | .inr o_2=>
 some (bif decide ((o_2.1.length:Int)≤16)then bif o_2.2 then true else decide (1≤(o_2.1.length:Int))else false)
def g1k(t:SType) :Option (Bool):=
 some (bif decide (t.Kind < 1)then true else decide (9 < t.Kind)) >>=fun t10=>
 (if(!t10)=true then g41 t else some dSType) >>=fun r=>
 (if(!t10)=true then gf1 (t,r)else some false) >>=fun r_1=>
 some (bif t10 then true else(!r_1)) >>=fun t17=>
 (if(!t17)=true then g1z t.Kind else some false) >>=fun r_2=>
 (if((!t17) && r_2)=true then g7n t.Name else some false) >>=fun r_3=>
 if(bif t17 then true else bif r_2 then(!r_3)else false)=true then
 some false
 else
 if decide (t.Kind=2)=true then
 some (decide (t.Low≤t.High))
 else
 if decide (t.Kind=3)=true then
 some (bif decide (0≤t.Max)then decide (t.Max≤200)else false)
 else
 if decide (t.Kind=4)=true then
 gbl t.Symbols >>=fun r_4=>
 some r_4
 else
 some (decide (t.Kind=5)) >>=fun t54=>
 if t54=true then
 if t54=true then
 g91 (t.Members,decide (t.Kind=5)) >>=fun r_5=>
 some r_5
 else
 some (decide (t.Kind=7)) >>=fun t63=>
 if t63=true then
 if t63=true then
 some (bif decide (0≤t.Max)then decide (t.Max≤50)else false)
 else
 some true
 else
 if decide (t.Kind=8)=true then
 some (bif decide (0≤t.Max)then decide (t.Max≤50)else false)
 else
 some true
 else
 if decide (t.Kind=6)=true then
 g91 (t.Members,decide (t.Kind=5)) >>=fun r_6=>
 some r_6
 else
 some (decide (t.Kind=7)) >>=fun t63_1=>
 if t63_1=true then
 if t63_1=true then
 some (bif decide (0≤t.Max)then decide (t.Max≤50)else false)
 else
 some true
 else
 if decide (t.Kind=8)=true then
 some (bif decide (0≤t.Max)then decide (t.Max≤50)else false)
 else
 some true
def g6s(x_:Int × SType × List Int) :Option (SType × List Int):=
 match x_ with
 | (i,b_2,b_3)=>
 if decide (i < (b_2.Members.length:Int))=true then
 if inR i b_2.Members.length=true then
 some [(b_2.Members.getD i.toNat dSMember).Type_] >>=fun t19=>
 if room 8 (b_3++t19).length=true then
 g6s (addI .i64 i 1,b_2,b_3++t19)
 else none
 else none
 else
 some (b_2,b_3)
  partial_fixpoint
def gkd(t:SType) :Option (List Int):=
 g6s (0,t,[]) >>=fun o=>
 if decide (o.1.Kind=8)=true then
 some [o.1.Key] >>=fun t27=>
 if room 8 (o.2++t27).length=true then
 some (o.2++t27) >>=fun l=>
 if(bif bif decide (o.1.Kind=7)then true else decide (o.1.Kind=8)then true else decide (o.1.Kind=9))=true then
 some [o.1.Elem] >>=fun t45=>
 if room 8 (l++t45).length=true then
 some (l++t45)
 else none
 else
 some l
 else none
 else
 if(bif bif decide (o.1.Kind=7)then true else decide (o.1.Kind=8)then true else decide (o.1.Kind=9))=true then
 some [o.1.Elem] >>=fun t45_1=>
 if room 8 (o.2++t45_1).length=true then
 some (o.2++t45_1)
 else none
 else
 some o.2
def g3m(x_:Int × Int × List SType × Int × List UInt8 × Int × Int × Int × List SSymbol × List SMember × Int × Int × Bool) :Option ((Int) ⊕ (Int × List SType × Int × List UInt8 × Int × Int × Int × List SSymbol × List SMember × Int × Int × Bool)):=
 match x_ with
 | (i_3,k,b_23,b_24,b_25,b_26,b_27,b_28,b_29,b_30,b_31,b_32,b_33)=>
 if decide (k < i_3)=true then
 g1z b_24 >>=fun r_3=>
 if(inR k b_23.length || (!r_3))=true then
 if(bif r_3 then decide ((b_23.getD k.toNat dSType).Name=b_25)else false)=true then
 some (.inl 1)
 else
 g3m (i_3,addI .i64 k 1,b_23,b_24,b_25,b_26,b_27,b_28,b_29,b_30,b_31,b_32,b_33)
 else none
 else
 some (.inr (i_3,b_23,b_24,b_25,b_26,b_27,b_28,b_29,b_30,b_31,b_32,b_33))
  partial_fixpoint
def g5m(x_:Int × List Int × Int × List SType × Int × List UInt8 × Int × Int × Int × List SSymbol × List SMember × Int × Int × Bool) :Option ((Int) ⊕ (Int × List SType × Int × List UInt8 × Int × Int × Int × List SSymbol × List SMember × Int × Int × Bool)):=
 match x_ with
 | (i_4,l,k_1,b_34,b_35,b_36,b_37,b_38,b_39,b_40,b_41,b_42,b_43,b_44)=>
 if decide (k_1 < (l.length:Int))=true then
 if inR k_1 l.length=true then
 some (decide (l.getD k_1.toNat 0 < 0)) >>=fun t58=>
 if(inR k_1 l.length || (!(!t58)))=true then
 if(bif t58 then true else decide ((b_34.length:Int)≤l.getD k_1.toNat 0))=true then
 some (.inl 4)
 else
 g5m (i_4,l,addI .i64 k_1 1,b_34,b_35,b_36,b_37,b_38,b_39,b_40,b_41,b_42,b_43,b_44)
 else none
 else none
 else
 some (.inr (i_4,b_34,b_35,b_36,b_37,b_38,b_39,b_40,b_41,b_42,b_43,b_44))
  partial_fixpoint
def g5d(x_:Int × List SType) :Option ((Int) ⊕ (Unit)):=
 match x_ with
 | (i,b)=>
 if decide (i < (b.length:Int))=true then
 if inR i b.length=true then
 some (b.getD i.toNat dSType) >>=fun x0=>
 g1k x0 >>=fun r=>
 if(!r)=true then
 some (.inl 1)
 else
 g3m (i,0,b,x0.Kind,x0.Name,x0.Low,x0.High,x0.Max,x0.Symbols,x0.Members,x0.Key,x0.Elem,x0.Open) >>=fun o_3=>
 match o_3 with
 | .inl o_4=>
 some (.inl o_4)
 | .inr o_5=>
 gkd (⟨o_5.2.2.1,o_5.2.2.2.1,o_5.2.2.2.2.1,o_5.2.2.2.2.2.1,o_5.2.2.2.2.2.2.1,o_5.2.2.2.2.2.2.2.1,o_5.2.2.2.2.2.2.2.2.1,o_5.2.2.2.2.2.2.2.2.2.1,o_5.2.2.2.2.2.2.2.2.2.2.1,o_5.2.2.2.2.2.2.2.2.2.2.2⟩:SType) >>=fun r_1=>
 g5m (o_5.1,r_1,0,o_5.2.1,o_5.2.2.1,o_5.2.2.2.1,o_5.2.2.2.2.1,o_5.2.2.2.2.2.1,o_5.2.2.2.2.2.2.1,o_5.2.2.2.2.2.2.2.1,o_5.2.2.2.2.2.2.2.2.1,o_5.2.2.2.2.2.2.2.2.2.1,o_5.2.2.2.2.2.2.2.2.2.2.1,o_5.2.2.2.2.2.2.2.2.2.2.2) >>=fun o_6=>
 match o_6 with
 | .inl o_7=>
 some (.inl o_7)
 | .inr o_8=>
 some (decide (o_8.2.2.1=8)) >>=fun t71=>
 if(inR o_8.2.2.2.2.2.2.2.2.2.1 o_8.2.1.length || (!t71))=true then
 (if t71=true then g8z (o_8.2.1.getD o_8.2.2.2.2.2.2.2.2.2.1.toNat dSType).Kind else some false) >>=fun r_2=>
 if(bif t71 then(!r_2)else false)=true then
 some (.inl 1)
 else
 g5d (addI .i64 o_8.1 1,o_8.2.1)
 else none
 else none
 else
 some (.inr ())
  partial_fixpoint
def gai(s:SSchema) :Option (Int):=
 if decide (32 < (s.Types.length:Int))=true then
 some 3
 else
 g5d (0,s.Types) >>=fun o=>
 match o with
 | .inl o_1=>
 some o_1
 | .inr o_2=>
 some 0
def g2t(x_:Int × Int × SType) :Option ((Int × Bool) ⊕ (Unit)):=
 match x_ with
 | (id_1,i,b)=>
 if decide (i < (b.Symbols.length:Int))=true then
 if inR i b.Symbols.length=true then
 if decide ((b.Symbols.getD i.toNat dSSymbol).ID=id_1)=true then
 some (.inl (i,true))
 else
 g2t (id_1,addI .i64 i 1,b)
 else none
 else
 some (.inr ())
  partial_fixpoint
theorem F86_b :gg prog 86=true:=by kernel_rfl
theorem g1py :f86.body.bind (Shv.resolve prog f86.ntmps)=some (g6 prog f86):=by kernel_rfl
theorem g1ma :g7 prog f86.results.toList=some [.tmp 4,.tmp 5]:=by kernel_rfl
def ghs :Shape:=⟨[(1,.c (.hole (.int .i64))),(2,.c (.ptr 0 0)),(6,.c (.hole (.int .i64)))],[.brow 3]⟩
def gbe :List Ty:=[.int .i64,.int .i64,.nm 3]
def gac :List OSpec:=[⟨.ret,⟨[(4,.c (.hole (.int .i64))),(5,.c (.hole .bool))],[]⟩,[],[.int .i64,.bool]⟩,⟨.exit 0,⟨[],[]⟩,[],[]⟩]
def gss(F:Hs Un.D gbe→Option (OSum Un gac)) :LSpec Un:=⟨ghs,[],gbe,gac,F⟩
def gil :LSpec Un:=gss g2t
theorem gqi :LSnd prog f86.ntmps 0 (gn (g6 prog f86) 0) gil:=fun h o ho=>g2t.partial_correctness (fun h o=>LAt (U:=Un) prog f86.ntmps 0 (gn (g6 prog f86) 0) ghs gbe gac h o) (fun F1 HF1 h o ho=>LAt.of_round (fo:=foS []) (lo:=loL []) (own:=[]) (F':=F1) FoSnd.nil (LoOk.snd LoOk.nil) HF1 (Eq.trans (by kernel_rfl) ho)) h o ho
def g9x(x_:SType × Int) :Option (Int × Bool):=
 match x_ with
 | (t,id)=>
 g2t (id,0,t) >>=fun o=>
 match o with
 | .inl o_1=>
 some (o_1.1,o_1.2)
 | .inr o_2=>
 some (0,false)
def gwy(F:Hs Un.D [.nm 3,.int .i64]→Option (Hs Un.D [.int .i64,.bool])) :FSpec Un:=⟨86,[.row 3,.c (.hole (.int .i64))],[],[.nm 3,.int .i64],.tup [.c (.hole (.int .i64)),.c (.hole .bool)],[],[.int .i64,.bool],F⟩
def gf2 :FSpec Un:=gwy g9x
theorem gug :FSnd prog gf2:=FSnd.of fun h r hr=>FAt.of_body (s:=gf2) (fo:=foS []) (lo:=loL [(0,gil)]) func86 g1py g1ma (by kernel_rfl) FoSnd.nil (LoOk.snd (LoOk.cons gqi LoOk.nil)) (Eq.trans (by kernel_rfl) hr)
def g37(x_:Int × Int × SType) :Option ((Int × Bool) ⊕ (Unit)):=
 match x_ with
 | (id_1,i,b)=>
 if decide (i < (b.Members.length:Int))=true then
 if inR i b.Members.length=true then
 if decide ((b.Members.getD i.toNat dSMember).ID=id_1)=true then
 some (.inl (i,true))
 else
 g37 (id_1,addI .i64 i 1,b)
 else none
 else
 some (.inr ())
  partial_fixpoint
theorem F87_b :gg prog 87=true:=by kernel_rfl
theorem g1pz :f87.body.bind (Shv.resolve prog f87.ntmps)=some (g6 prog f87):=by kernel_rfl
theorem g1mb :g7 prog f87.results.toList=some [.tmp 4,.tmp 5]:=by kernel_rfl
def ght :Shape:=⟨[(1,.c (.hole (.int .i64))),(2,.c (.ptr 0 0)),(6,.c (.hole (.int .i64)))],[.brow 3]⟩
def gbf :List Ty:=[.int .i64,.int .i64,.nm 3]
def gad :List OSpec:=[⟨.ret,⟨[(4,.c (.hole (.int .i64))),(5,.c (.hole .bool))],[]⟩,[],[.int .i64,.bool]⟩,⟨.exit 0,⟨[],[]⟩,[],[]⟩]
def gst(F:Hs Un.D gbf→Option (OSum Un gad)) :LSpec Un:=⟨ght,[],gbf,gad,F⟩
def gim :LSpec Un:=gst g37
theorem gqj :LSnd prog f87.ntmps 0 (gn (g6 prog f87) 0) gim:=fun h o ho=>g37.partial_correctness (fun h o=>LAt (U:=Un) prog f87.ntmps 0 (gn (g6 prog f87) 0) ght gbf gad h o) (fun F1 HF1 h o ho=>LAt.of_round (fo:=foS []) (lo:=loL []) (own:=[]) (F':=F1) FoSnd.nil (LoOk.snd LoOk.nil) HF1 (Eq.trans (by kernel_rfl) ho)) h o ho
end
section
open Go Go.Proofs.YthnmepafpikaiaaGreat.Shv
open Tryz
set_option maxRecDepth 100000
def g20(x_:SType × Int) :Option (Int × Bool):=
 match x_ with
 | (t,id)=>
 g37 (id,0,t) >>=fun o=>
 match o with
 | .inl o_1=>
 some (o_1.1,o_1.2)
 | .inr o_2=>
 some (0,false)
def gwz(F:Hs Un.D [.nm 3,.int .i64]→Option (Hs Un.D [.int .i64,.bool])) :FSpec Un:=⟨87,[.row 3,.c (.hole (.int .i64))],[],[.nm 3,.int .i64],.tup [.c (.hole (.int .i64)),.c (.hole .bool)],[],[.int .i64,.bool],F⟩
def gf3 :FSpec Un:=gwz g20
theorem guh :FSnd prog gf3:=FSnd.of fun h r hr=>FAt.of_body (s:=gf3) (fo:=foS []) (lo:=loL [(0,gim)]) func87 g1pz g1mb (by kernel_rfl) FoSnd.nil (LoOk.snd (LoOk.cons gqj LoOk.nil)) (Eq.trans (by kernel_rfl) hr)
def g7o(n:Int) :Option (Int):=
 if decide (0≤n)=true then
 some (mulI .u64 2 (wrp .u64 n))
 else
 some (addI .u64 (mulI .u64 2 (wrp .u64 (subI .i64 0 (addI .i64 n 1)))) 1)
theorem g1q0 :gg prog 104=true:=by kernel_rfl
theorem g1mc :f104.body.bind (Shv.resolve prog f104.ntmps)=some (g6 prog f104):=by kernel_rfl
theorem g1it :g7 prog f104.results.toList=some [.tmp 2]:=by kernel_rfl
def gx0(F:Hs Un.D [.int .i64]→Option (Hs Un.D [.int .u64])) :FSpec Un:=⟨104,[.c (.hole (.int .i64))],[],[.int .i64],.c (.hole (.int .u64)),[],[.int .u64],F⟩
def gf4 :FSpec Un:=gx0 g7o
theorem gui :FSnd prog gf4:=FSnd.of fun h r hr=>FAt.of_body (s:=gf4) (fo:=foS []) (lo:=loL []) func104 g1mc g1it (by kernel_rfl) FoSnd.nil (LoOk.snd LoOk.nil) (Eq.trans (by kernel_rfl) hr)
def gch(x_:Int × List UInt8) :Option (List UInt8):=
 match x_ with
 | (n_1,out_1)=>
 if decide (0 < n_1)=true then
 some (strOf [wrp .u8 (remI n_1 256)]) >>=fun t10=>
 if decide (t10.length+out_1.length≤g26)=true then
 gch (quoI .u64 n_1 256,t10++out_1)
 else none
 else
 some out_1
  partial_fixpoint
def ggq(n:Int) :Option (List UInt8):=
 gch (n,[]) >>=fun o=>
 some o
def gci(x_:Int × List Int) :Option (Int × List Int):=
 match x_ with
 | (n_2,b_1)=>
 if decide (128≤n_2)=true then
 some [wrp .u8 (addI .u64 (remI n_2 128) 128)] >>=fun t11=>
 if room 1 (b_1++t11).length=true then
 gci (quoI .u64 n_2 128,b_1++t11)
 else none
 else
 some (n_2,b_1)
  partial_fixpoint
def g8h(n:Int) :Option (List UInt8):=
 gci (n,[]) >>=fun o=>
 some [wrp .u8 o.1] >>=fun t18=>
 if room 1 (o.2++t18).length=true then
 some (strOf (o.2++t18))
 else none
def g7c(p:List UInt8) :Option (List UInt8):=
 g8h (wrp .u64 (p.length:Int)) >>=fun r=>
 if decide (r.length+p.length≤g26)=true then
 some (r++p)
 else none
def gdc(x_:Int × Bool × List UInt8) :Option (List UInt8):=
 match x_ with
 | (id,critical,p)=>
 some (wrp .u64 (mulI .i64 2 id)) >>=fun t10=>
 if critical=true then
 g8h (addI .u64 t10 1) >>=fun r=>
 g7c p >>=fun r_1=>
 if decide (r.length+r_1.length≤g26)=true then
 some (r++r_1)
 else none
 else
 g8h t10 >>=fun r_2=>
 g7c p >>=fun r_3=>
 if decide (r_2.length+r_3.length≤g26)=true then
 some (r_2++r_3)
 else none
def g2l(x_:List UInt8 × Int × Int × List SType × SValue × SType) :Option (List UInt8 × Int × List SType × SValue × SType):=
 match x_ with
 | (out_9,id_4,k,b_18,b_19,b_20)=>
 if decide (k < (b_19.Rest.length:Int))=true then
 if inR k b_19.Rest.length=true then
 if decide ((b_19.Rest.getD k.toNat dSRaw).ID=id_4)=true then
 if inR k b_19.Rest.length=true then
 gdc (id_4,false,(b_19.Rest.getD k.toNat dSRaw).Data) >>=fun r_22=>
 if decide (out_9.length+r_22.length≤g26)=true then
 g2l (out_9++r_22,id_4,addI .i64 k 1,b_18,SValue.eta b_19,b_20)
 else none
 else none
 else
 g2l (out_9,id_4,addI .i64 k 1,b_18,SValue.eta b_19,b_20)
 else none
 else
 some (out_9,id_4,b_18,SValue.eta b_19,b_20)
  partial_fixpoint
mutual
def g2g(x_:SSchema × Int × SValue) :Option (List UInt8):=
 match x_ with
 | (s,t,v)=>
 if inR t s.Types.length=true then
 some (s.Types.getD t.toNat dSType) >>=fun x0=>
 if decide (x0.Kind=1)=true then
 if v.Bool_=true then
 some [1]
 else
 some []
 else
 if decide (x0.Kind=2)=true then
 g7o v.Int_ >>=fun r=>
 ggq r >>=fun r_1=>
 some r_1
 else
 if decide (x0.Kind=3)=true then
 some v.Str
 else
 if decide (x0.Kind=4)=true then
 ggq (wrp .u64 v.ID) >>=fun r_2=>
 some r_2
 else
 if decide (x0.Kind=9)=true then
 if decide ((v.Items.length:Int)=0)=true then
 some []
 else
 if inR 0 v.Items.length=true then
 g2g (s,x0.Elem,SValue.eta (v.Items.getD (0:Int).toNat dSValue)) >>=fun r_3=>
 if decide ([1].length+r_3.length≤g26)=true then
 some ([1]++r_3)
 else none
 else none
 else
 if decide (x0.Kind=6)=true then
 if decide (0 < (v.Rest.length:Int))=true then
 g8h (wrp .u64 v.ID) >>=fun r_4=>
 if inR 0 v.Rest.length=true then
 some (v.Rest.getD (0:Int).toNat dSRaw) >>=fun x0_2=>
 if decide (r_4.length+x0_2.Data.length≤g26)=true then
 some (r_4++x0_2.Data)
 else none
 else none
 else
 g20 (x0,v.ID) >>=fun r_5=>
 g8h (wrp .u64 v.ID) >>=fun r_8=>
 if inR r_5.1 x0.Members.length=true then
 if inR 0 v.Items.length=true then
 g2g (s,(x0.Members.getD r_5.1.toNat dSMember).Type_,SValue.eta (v.Items.getD (0:Int).toNat dSValue)) >>=fun r_9=>
 if decide (r_8.length+r_9.length≤g26)=true then
 some (r_8++r_9)
 else none
 else none
 else none
 else
 if decide (x0.Kind=7)=true then
 g5n ([],0,s.Types,SValue.eta v,x0) >>=fun o=>
 some o
 else
 if decide (x0.Kind=8)=true then
 g5o ([],0,s.Types,SValue.eta v,x0) >>=fun o_1=>
 some o_1
 else
 g3n ([],1,s.Types,SValue.eta v,x0) >>=fun o_2=>
 some o_2
 else none
  partial_fixpoint
def g5n(x_:List UInt8 × Int × List SType × SValue × SType) :Option (List UInt8):=
 match x_ with
 | (out_3,i,b,b_1,b_2)=>
 if decide (i < (b_1.Items.length:Int))=true then
 if inR i b_1.Items.length=true then
 g2g ((⟨b⟩:SSchema),b_2.Elem,SValue.eta (b_1.Items.getD i.toNat dSValue)) >>=fun r_10=>
 g7c r_10 >>=fun r_11=>
 if decide (out_3.length+r_11.length≤g26)=true then
 g5n (out_3++r_11,addI .i64 i 1,b,SValue.eta b_1,b_2)
 else none
 else none
 else
 some out_3
  partial_fixpoint
def g5o(x_:List UInt8 × Int × List SType × SValue × SType) :Option (List UInt8):=
 match x_ with
 | (out_4,i_1,b_3,b_4,b_5)=>
 if decide (i_1 < (b_4.Items.length:Int))=true then
 if inR i_1 b_4.Keys.length=true then
 g2g ((⟨b_3⟩:SSchema),b_5.Key,SValue.eta (b_4.Keys.getD i_1.toNat dSValue)) >>=fun r_12=>
 g7c r_12 >>=fun r_13=>
 if decide (out_4.length+r_13.length≤g26)=true then
 some (out_4++r_13) >>=fun t144=>
 if inR i_1 b_4.Items.length=true then
 g2g ((⟨b_3⟩:SSchema),b_5.Elem,SValue.eta (b_4.Items.getD i_1.toNat dSValue)) >>=fun r_14=>
 g7c r_14 >>=fun r_15=>
 if decide (t144.length+r_15.length≤g26)=true then
 g5o (t144++r_15,addI .i64 i_1 1,b_3,SValue.eta b_4,b_5)
 else none
 else none
 else none
 else none
 else
 some out_4
  partial_fixpoint
def g3n(x_:List UInt8 × Int × List SType × SValue × SType) :Option (List UInt8):=
 match x_ with
 | (out_5,id,b_6,b_7,b_8)=>
 if decide (id≤1000)=true then
 g20 (b_8,id) >>=fun r_16=>
 if r_16.2=true then
 if inR r_16.1 b_8.Members.length=true then
 some (b_8.Members.getD r_16.1.toNat dSMember) >>=fun x0_8=>
 some (!x0_8.HasDefault) >>=fun t175=>
 if(inR r_16.1 b_7.Items.length || (!(!t175)))=true then
 (if(!t175)=true then g1y (SValue.eta (b_7.Items.getD r_16.1.toNat dSValue),SValue.eta x0_8.Default)else some false) >>=fun r_19=>
 if(bif t175 then true else(!r_19))=true then
 if inR r_16.1 b_7.Items.length=true then
 g2g ((⟨b_6⟩:SSchema),x0_8.Type_,SValue.eta (b_7.Items.getD r_16.1.toNat dSValue)) >>=fun r_20=>
 gdc (id,x0_8.Critical,r_20) >>=fun r_21=>
 if decide (out_5.length+r_21.length≤g26)=true then
 g2l (out_5++r_21,id,0,b_6,SValue.eta b_7,b_8) >>=fun o_3=>
 g3n (o_3.1,addI .i64 o_3.2.1 1,o_3.2.2.1,SValue.eta o_3.2.2.2.1,o_3.2.2.2.2)
 else none
 else none
 else
 g2l (out_5,id,0,b_6,SValue.eta b_7,b_8) >>=fun o_4=>
 g3n (o_4.1,addI .i64 o_4.2.1 1,o_4.2.2.1,SValue.eta o_4.2.2.2.1,o_4.2.2.2.2)
 else none
 else none
 else
 g2l (out_5,id,0,b_6,SValue.eta b_7,b_8) >>=fun o_5=>
 g3n (o_5.1,addI .i64 o_5.2.1 1,o_5.2.2.1,SValue.eta o_5.2.2.2.1,o_5.2.2.2.2)
 else
 some out_5
  partial_fixpoint
end
end
section
open Go Go.Proofs.YthnmepafpikaiaaGreat.Shv
open Tryz
set_option maxRecDepth 100000
def g1a(x_:Int × List SType × List Int × Bool) :Option (Int × List SType × List Int × Bool):=
 match x_ with
 | (n,b,b_1,b_2)=>
 if decide ((b_1.length:Int)=0)=true then
 some (0,b,b_1,b_2)
 else
 if inR 0 b_1.length=true then
 if(!(decide (n=0)))=true then
 if slR 1 (b_1.length:Int) b_1.length=true then
 some (remI (wrp .i64 (b_1.getD (0:Int).toNat 0)) n,b,cutL b_1 1 (b_1.length:Int),b_2)
 else none
 else none
 else none
theorem F89_b :gg prog 89=true:=by kernel_rfl
theorem g1q1 :f89.body.bind (Shv.resolve prog f89.ntmps)=some (g6 prog f89):=by kernel_rfl
theorem g1md :g7 prog f89.results.toList=some [.tmp 4]:=by kernel_rfl
def gs2(F:Hs Un.D [.int .i64,.slice (.nm 3),.slice (.int .u8),.bool]→Option (Hs Un.D [.int .i64,.slice (.nm 3),.slice (.int .u8),.bool])) :FSpec Un:=⟨89,[.c (.ptr 0 0),.c (.hole (.int .i64))],[.box [.hole (.slice (.nm 3)),.hole (.slice (.int .u8)),.hole .bool]],[.int .i64,.slice (.nm 3),.slice (.int .u8),.bool],.c (.hole (.int .i64)),[.box [.hole (.slice (.nm 3)),.hole (.slice (.int .u8)),.hole .bool]],[.int .i64,.slice (.nm 3),.slice (.int .u8),.bool],F⟩
def g2m :FSpec Un:=gs2 g1a
theorem g39 :FSnd prog g2m:=FSnd.of fun h r hr=>FAt.of_body (s:=g2m) (fo:=foS []) (lo:=loL []) func89 g1q1 g1md (by kernel_rfl) FoSnd.nil (LoOk.snd LoOk.nil) (Eq.trans (by kernel_rfl) hr)
def g3h(x_:List UInt8 × Int × List SType × List Int × Bool) :Option (List UInt8 × List SType × List Int × Bool):=
 match x_ with
 | (s_1,n,b_6,b_7,b_8)=>
 if decide (0 < n)=true then
 g1a (3,b_6,b_7,b_8) >>=fun r_5=>
 some (gdf (wrp .i32 (addI .i64 97 r_5.1))) >>=fun t21=>
 if decide (s_1.length+t21.length≤g26)=true then
 g3h (s_1++t21,subI .i64 n 1,r_5.2.1,r_5.2.2.1,r_5.2.2.2)
 else none
 else
 some (s_1,b_6,b_7,b_8)
  partial_fixpoint
theorem F90_b :gg prog 90=true:=by kernel_rfl
theorem g1q2 :f90.body.bind (Shv.resolve prog f90.ntmps)=some (g6 prog f90):=by kernel_rfl
theorem g1me :g7 prog f90.results.toList=some [.tmp 4]:=by kernel_rfl
def gdw :Shape:=⟨[(0,.c (.ptr 0 0)),(5,.c (.hole .str)),(6,.c (.hole (.int .i64)))],[.box [.hole (.slice (.nm 3)),.hole (.slice (.int .u8)),.hole .bool]]⟩
def g9b :List Ty:=[.str,.int .i64,.slice (.nm 3),.slice (.int .u8),.bool]
def g8i :List OSpec:=[⟨.exit 0,⟨[(5,.c (.hole .str))],[.box [.hole (.slice (.nm 3)),.hole (.slice (.int .u8)),.hole .bool]]⟩,[],[.str,.slice (.nm 3),.slice (.int .u8),.bool]⟩]
def gok(F:Hs Un.D g9b→Option (OSum Un g8i)) :LSpec Un:=⟨gdw,[],g9b,g8i,F⟩
def gec :LSpec Un:=gok g3h
theorem gmo :LSnd prog f90.ntmps 1 (gn (g6 prog f90) 0) gec:=fun h o ho=>g3h.partial_correctness (fun h o=>LAt (U:=Un) prog f90.ntmps 1 (gn (g6 prog f90) 0) gdw g9b g8i h o) (fun F1 HF1 h o ho=>LAt.of_round (fo:=foS [g2m]) (lo:=loL []) (own:=[]) (F':=F1) (FoSnd.cons F89_b g39 FoSnd.nil) (LoOk.snd LoOk.nil) HF1 (Eq.trans (by kernel_rfl) ho)) h o ho
def g9n(x_:Int × List SType × List Int × Bool) :Option (List UInt8 × List SType × List Int × Bool):=
 match x_ with
 | (most,b,b_1,b_2)=>
 g1a (addI .i64 (minI most 3) 1,b,b_1,b_2) >>=fun r=>
 g3h ([],r.1,r.2.1,r.2.2.1,r.2.2.2) >>=fun o=>
 some (o.1,o.2.1,o.2.2.1,o.2.2.2)
def gs3(F:Hs Un.D [.int .i64,.slice (.nm 3),.slice (.int .u8),.bool]→Option (Hs Un.D [.str,.slice (.nm 3),.slice (.int .u8),.bool])) :FSpec Un:=⟨90,[.c (.ptr 0 0),.c (.hole (.int .i64))],[.box [.hole (.slice (.nm 3)),.hole (.slice (.int .u8)),.hole .bool]],[.int .i64,.slice (.nm 3),.slice (.int .u8),.bool],.c (.hole .str),[.box [.hole (.slice (.nm 3)),.hole (.slice (.int .u8)),.hole .bool]],[.str,.slice (.nm 3),.slice (.int .u8),.bool],F⟩
def gbg :FSpec Un:=gs3 g9n
theorem gp9 :FSnd prog gbg:=FSnd.of fun h r hr=>FAt.of_body (s:=gbg) (fo:=foS [g2m]) (lo:=loL [(0,gec)]) func90 g1q2 g1me (by kernel_rfl) (FoSnd.cons F89_b g39 FoSnd.nil) (LoOk.snd (LoOk.cons gmo LoOk.nil)) (Eq.trans (by kernel_rfl) hr)
def g5z(x_:List SType × List Int × Bool) :Option (Bool × List SType × List Int × Bool):=
 match x_ with
 | (b,b_1,b_2)=>
 if b_2=true then
 g1a (4,b,b_1,b_2) >>=fun r=>
 some (bif b_2 then decide (r.1=3)else false,r.2.1,r.2.2.1,r.2.2.2)
 else
 some (bif b_2 then false else false,b,b_1,b_2)
theorem F91_b :gg prog 91=true:=by kernel_rfl
theorem g1q3 :f91.body.bind (Shv.resolve prog f91.ntmps)=some (g6 prog f91):=by kernel_rfl
theorem g1mf :g7 prog f91.results.toList=some [.tmp 2]:=by kernel_rfl
def gsu(F:Hs Un.D [.slice (.nm 3),.slice (.int .u8),.bool]→Option (Hs Un.D [.bool,.slice (.nm 3),.slice (.int .u8),.bool])) :FSpec Un:=⟨91,[.c (.ptr 0 0)],[.box [.hole (.slice (.nm 3)),.hole (.slice (.int .u8)),.hole .bool]],[.slice (.nm 3),.slice (.int .u8),.bool],.c (.hole .bool),[.box [.hole (.slice (.nm 3)),.hole (.slice (.int .u8)),.hole .bool]],[.bool,.slice (.nm 3),.slice (.int .u8),.bool],F⟩
def gbv :FSpec Un:=gsu g5z
theorem gqk :FSnd prog gbv:=FSnd.of fun h r hr=>FAt.of_body (s:=gbv) (fo:=foS [g2m]) (lo:=loL []) func91 g1q3 g1mf (by kernel_rfl) (FoSnd.cons F89_b g39 FoSnd.nil) (LoOk.snd LoOk.nil) (Eq.trans (by kernel_rfl) hr)
def gf5(x_:SType × Int) :Option (Bool):=
 match x_ with
 | (t,n)=>
 g20 (t,n) >>=fun r=>
 g9x (t,n) >>=fun r_3=>
 some (bif r.2 then true else r_3.2)
theorem g1q4 :gg prog 130=true:=by kernel_rfl
theorem g1mg :f130.body.bind (Shv.resolve prog f130.ntmps)=some (g6 prog f130):=by kernel_rfl
theorem g1iu :g7 prog f130.results.toList=some [.tmp 4]:=by kernel_rfl
def gzv(F:Hs Un.D [.nm 3,.int .i64]→Option (Hs Un.D [.bool])) :FSpec Un:=⟨130,[.row 3,.c (.hole (.int .i64))],[],[.nm 3,.int .i64],.c (.hole .bool),[],[.bool],F⟩
def ghu :FSpec Un:=gzv gf5
theorem gx1 :FSnd prog ghu:=FSnd.of fun h r hr=>FAt.of_body (s:=ghu) (fo:=foS [gf3,gf2]) (lo:=loL []) func130 g1mg g1iu (by kernel_rfl) (FoSnd.cons F87_b guh (FoSnd.cons F86_b gug FoSnd.nil)) (LoOk.snd LoOk.nil) (Eq.trans (by kernel_rfl) hr)
def g3o(x_:Int × List SType × List Int × Bool × SType) :Option (Int × List SType × List Int × Bool):=
 match x_ with
 | (n_1,b_6,b_7,b_8,b_9)=>
 gf5 (b_9,n_1) >>=fun r_5=>
 if r_5=true then
 g3o (addI .i64 n_1 1,b_6,b_7,b_8,b_9)
 else
 some (n_1,b_6,b_7,b_8)
  partial_fixpoint
theorem F92_b :gg prog 92=true:=by kernel_rfl
theorem g1q5 :f92.body.bind (Shv.resolve prog f92.ntmps)=some (g6 prog f92):=by kernel_rfl
theorem g1mh :g7 prog f92.results.toList=some [.tmp 4]:=by kernel_rfl
def gbq :Shape:=⟨[(3,.c (.ptr 1 0)),(5,.c (.hole (.int .i64)))],[.box [.hole (.slice (.nm 3)),.hole (.slice (.int .u8)),.hole .bool],.brow 3]⟩
def g7x :List Ty:=[.int .i64,.slice (.nm 3),.slice (.int .u8),.bool,.nm 3]
def g71 :List OSpec:=[⟨.exit 0,⟨[(5,.c (.hole (.int .i64)))],[.box [.hole (.slice (.nm 3)),.hole (.slice (.int .u8)),.hole .bool]]⟩,[],[.int .i64,.slice (.nm 3),.slice (.int .u8),.bool]⟩]
def gly(F:Hs Un.D g7x→Option (OSum Un g71)) :LSpec Un:=⟨gbq,[],g7x,g71,F⟩
def gcj :LSpec Un:=gly g3o
theorem gke :LSnd prog f92.ntmps 1 (gn (g6 prog f92) 0) gcj:=fun h o ho=>g3o.partial_correctness (fun h o=>LAt (U:=Un) prog f92.ntmps 1 (gn (g6 prog f92) 0) gbq g7x g71 h o) (fun F1 HF1 h o ho=>LAt.of_round (fo:=foS [ghu]) (lo:=loL []) (own:=[]) (F':=F1) (FoSnd.cons g1q4 gx1 FoSnd.nil) (LoOk.snd LoOk.nil) HF1 (Eq.trans (by kernel_rfl) ho)) h o ho
end
end Go.Proofs.YthnmepafpikaiaaGreat
