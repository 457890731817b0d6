/- The functions of the program as functions of Lean, that its code does what they say, and what they answer; part A. -/
import Derived.Test.YthnmepafpikaiaaGreatProg
import Derived.KernelRfl
import Derived.Shelf.SlGeneric
import Derived.Shelf.SlLaysF0
import Derived.Shelf.SlSortCmp.WholeK
import Derived.Lib.Small
import Derived.Test.YthnmepafpikaiaaGreatExLD

namespace Go.Proofs.YthnmepafpikaiaaGreat
set_option linter.all false
section
open Go Go.Proofs.YthnmepafpikaiaaGreat.Shv
open Tryz
set_option maxRecDepth 100000
structure SRaw where
 ID:Int
 Data:List UInt8
structure SValue where
 Kind:Int
 Bool_:Bool
 Int_:Int
 Str:List UInt8
 ID:Int
 Keys:List SValue
 Items:List SValue
 Rest:List SRaw
structure SMember where
 ID:Int
 Name:List UInt8
 Type_:Int
 Critical:Bool
 HasDefault:Bool
 Default:SValue
structure SSymbol where
 ID:Int
 Name:List UInt8
structure SType where
 Kind:Int
 Name:List UInt8
 Low:Int
 High:Int
 Max:Int
 Symbols:List SSymbol
 Members:List SMember
 Key:Int
 Elem:Int
 Open:Bool
structure SSchema where
 Types:List SType
structure EncodeEntry where
 id:Int
 text:List UInt8
structure EncodeReader where
 s:SSchema
structure SField where
 ID:Int
 Critical:Bool
 Data:List UInt8
structure Sheaveref07Part where
 ID:Int
 Type_:Int
 Flag:Int
structure Sheaveref07Node where
 Kind:Int
 A:Int
 B:Int
 C:Int
 Parts:List Sheaveref07Part
structure Sheaveref07Draft where
 Nodes:List Sheaveref07Node
structure Sheaveref08Draft where
 S:Sheaveref07Draft
 T:Int
 C:List Int
structure Sheavelaw09Two where
 D:Sheaveref08Draft
 C:List Int
abbrev ixSheaveref07Node :Nat:=10
abbrev ixSheaveref07Part :Nat:=11
abbrev ixSheavelaw09Two :Nat:=12
def dSRaw :SRaw:=⟨0,[]⟩
def dSValue :SValue:=⟨0,false,0,[],0,[],[],[]⟩
def dSMember :SMember:=⟨0,[],0,false,false,dSValue⟩
def dSSymbol :SSymbol:=⟨0,[]⟩
def dSType :SType:=⟨0,[],0,0,0,[],[],0,0,false⟩
def dSSchema :SSchema:=⟨[]⟩
def dEncodeEntry :EncodeEntry:=⟨0,[]⟩
def dEncodeReader :EncodeReader:=⟨dSSchema⟩
def dSField :SField:=⟨0,false,[]⟩
def dSheaveref07Part :Sheaveref07Part:=⟨0,0,0⟩
def dSheaveref07Node :Sheaveref07Node:=⟨0,0,0,0,[]⟩
def dSheaveref07Draft :Sheaveref07Draft:=⟨[]⟩
def dSheaveref08Draft :Sheaveref08Draft:=⟨dSheaveref07Draft,0,[]⟩
def dSheavelaw09Two :Sheavelaw09Two:=⟨dSheaveref08Draft,[]⟩
def uD :Nat→Type
 | 0=>SMember
 | 1=>SValue
 | 2=>SRaw
 | 3=>SType
 | 4=>SSymbol
 | 5=>SSchema
 | 6=>EncodeEntry
 | 7=>EncodeReader
 | 8=>SField
 | 9=>Sheaveref07Draft
 | 10=>Sheaveref07Node
 | 11=>Sheaveref07Part
 | 12=>Sheavelaw09Two
 | 13=>Sheaveref08Draft
 | _=>Bool
def uTys :Nat→List Ty
 | 0=>[.int .i64,.str,.int .i64,.bool,.bool,.int .i64,.bool,.int .i64,.str,.int .i64,.slice (.nm 1),.slice (.nm 1),.slice (.nm 2)]
 | 1=>[.int .i64,.bool,.int .i64,.str,.int .i64,.slice (.nm 1),.slice (.nm 1),.slice (.nm 2)]
 | 2=>[.int .i64,.str]
 | 3=>[.int .i64,.str,.int .i64,.int .i64,.int .i64,.slice (.nm 4),.slice (.nm 0),.int .i64,.int .i64,.bool]
 | 4=>[.int .i64,.str]
 | 5=>[.slice (.nm 3)]
 | 6=>[.int .i64,.str]
 | 7=>[.slice (.nm 3)]
 | 8=>[.int .i64,.bool,.str]
 | 9=>[.slice (.nm 10)]
 | 10=>[.int .u8,.int .u8,.int .u8,.int .u8,.slice (.nm 11)]
 | 11=>[.int .u8,.int .u8,.int .u8]
 | 12=>[.slice (.nm 10),.int .u8,.slice (.int .u8),.slice (.int .u8)]
 | 13=>[.slice (.nm 10),.int .u8,.slice (.int .u8)]
 | _=>[.bool]
def uFlds :(n:Nat)→uD n→List (Cell uD)
 | 0,(x:SMember)=>[⟨.int .i64,x.ID⟩,⟨.str,x.Name⟩,⟨.int .i64,x.Type_⟩,⟨.bool,x.Critical⟩,⟨.bool,x.HasDefault⟩,⟨.int .i64,x.Default.Kind⟩,⟨.bool,x.Default.Bool_⟩,⟨.int .i64,x.Default.Int_⟩,⟨.str,x.Default.Str⟩,⟨.int .i64,x.Default.ID⟩,⟨.slice (.nm 1),x.Default.Keys⟩,⟨.slice (.nm 1),x.Default.Items⟩,⟨.slice (.nm 2),x.Default.Rest⟩]
 | 1,(x:SValue)=>[⟨.int .i64,x.Kind⟩,⟨.bool,x.Bool_⟩,⟨.int .i64,x.Int_⟩,⟨.str,x.Str⟩,⟨.int .i64,x.ID⟩,⟨.slice (.nm 1),x.Keys⟩,⟨.slice (.nm 1),x.Items⟩,⟨.slice (.nm 2),x.Rest⟩]
 | 2,(x:SRaw)=>[⟨.int .i64,x.ID⟩,⟨.str,x.Data⟩]
 | 3,(x:SType)=>[⟨.int .i64,x.Kind⟩,⟨.str,x.Name⟩,⟨.int .i64,x.Low⟩,⟨.int .i64,x.High⟩,⟨.int .i64,x.Max⟩,⟨.slice (.nm 4),x.Symbols⟩,⟨.slice (.nm 0),x.Members⟩,⟨.int .i64,x.Key⟩,⟨.int .i64,x.Elem⟩,⟨.bool,x.Open⟩]
 | 4,(x:SSymbol)=>[⟨.int .i64,x.ID⟩,⟨.str,x.Name⟩]
 | 5,(x:SSchema)=>[⟨.slice (.nm 3),x.Types⟩]
 | 6,(x:EncodeEntry)=>[⟨.int .i64,x.id⟩,⟨.str,x.text⟩]
 | 7,(x:EncodeReader)=>[⟨.slice (.nm 3),x.s.Types⟩]
 | 8,(x:SField)=>[⟨.int .i64,x.ID⟩,⟨.bool,x.Critical⟩,⟨.str,x.Data⟩]
 | 9,(x:Sheaveref07Draft)=>[⟨.slice (.nm 10),x.Nodes⟩]
 | 10,(x:Sheaveref07Node)=>[⟨.int .u8,x.Kind⟩,⟨.int .u8,x.A⟩,⟨.int .u8,x.B⟩,⟨.int .u8,x.C⟩,⟨.slice (.nm 11),x.Parts⟩]
 | 11,(x:Sheaveref07Part)=>[⟨.int .u8,x.ID⟩,⟨.int .u8,x.Type_⟩,⟨.int .u8,x.Flag⟩]
 | 12,(x:Sheavelaw09Two)=>[⟨.slice (.nm 10),x.D.S.Nodes⟩,⟨.int .u8,x.D.T⟩,⟨.slice (.int .u8),x.D.C⟩,⟨.slice (.int .u8),x.C⟩]
 | 13,(x:Sheaveref08Draft)=>[⟨.slice (.nm 10),x.S.Nodes⟩,⟨.int .u8,x.T⟩,⟨.slice (.int .u8),x.C⟩]
 | _+14,(x:Bool)=>[⟨.bool,x⟩]
def uMake :(n:Nat)→List (Cell uD)→Option (uD n)
 | 0,l=>match Hs.dec uD (uTys 0) l with
   | some h=>some (⟨h.1,h.2.1,h.2.2.1,h.2.2.2.1,h.2.2.2.2.1,(⟨h.2.2.2.2.2.1,h.2.2.2.2.2.2.1,h.2.2.2.2.2.2.2.1,h.2.2.2.2.2.2.2.2.1,h.2.2.2.2.2.2.2.2.2.1,h.2.2.2.2.2.2.2.2.2.2.1,h.2.2.2.2.2.2.2.2.2.2.2.1,h.2.2.2.2.2.2.2.2.2.2.2.2⟩:SValue)⟩:SMember)
   | none=>none
 | 1,l=>match Hs.dec uD (uTys 1) l with
   | some h=>some (⟨h.1,h.2.1,h.2.2.1,h.2.2.2.1,h.2.2.2.2.1,h.2.2.2.2.2.1,h.2.2.2.2.2.2.1,h.2.2.2.2.2.2.2⟩:SValue)
   | none=>none
 | 2,l=>match Hs.dec uD (uTys 2) l with
   | some h=>some (⟨h.1,h.2⟩:SRaw)
   | none=>none
 | 3,l=>match Hs.dec uD (uTys 3) l with
   | some h=>some (⟨h.1,h.2.1,h.2.2.1,h.2.2.2.1,h.2.2.2.2.1,h.2.2.2.2.2.1,h.2.2.2.2.2.2.1,h.2.2.2.2.2.2.2.1,h.2.2.2.2.2.2.2.2.1,h.2.2.2.2.2.2.2.2.2⟩:SType)
   | none=>none
 | 4,l=>match Hs.dec uD (uTys 4) l with
   | some h=>some (⟨h.1,h.2⟩:SSymbol)
   | none=>none
 | 5,l=>match Hs.dec uD (uTys 5) l with
   | some h=>some (⟨h⟩:SSchema)
   | none=>none
 | 6,l=>match Hs.dec uD (uTys 6) l with
   | some h=>some (⟨h.1,h.2⟩:EncodeEntry)
   | none=>none
 | 7,l=>match Hs.dec uD (uTys 7) l with
   | some h=>some (⟨(⟨h⟩:SSchema)⟩:EncodeReader)
   | none=>none
 | 8,l=>match Hs.dec uD (uTys 8) l with
   | some h=>some (⟨h.1,h.2.1,h.2.2⟩:SField)
   | none=>none
 | 9,l=>match Hs.dec uD (uTys 9) l with
   | some h=>some (⟨h⟩:Sheaveref07Draft)
   | none=>none
 | 10,l=>match Hs.dec uD (uTys 10) l with
   | some h=>some (⟨h.1,h.2.1,h.2.2.1,h.2.2.2.1,h.2.2.2.2⟩:Sheaveref07Node)
   | none=>none
 | 11,l=>match Hs.dec uD (uTys 11) l with
   | some h=>some (⟨h.1,h.2.1,h.2.2⟩:Sheaveref07Part)
   | none=>none
 | 12,l=>match Hs.dec uD (uTys 12) l with
   | some h=>some (⟨(⟨(⟨h.1⟩:Sheaveref07Draft),h.2.1,h.2.2.1⟩:Sheaveref08Draft),h.2.2.2⟩:Sheavelaw09Two)
   | none=>none
 | 13,l=>match Hs.dec uD (uTys 13) l with
   | some h=>some (⟨(⟨h.1⟩:Sheaveref07Draft),h.2.1,h.2.2⟩:Sheaveref08Draft)
   | none=>none
 | _+14,l=>match Hs.dec uD [.bool] l with
   | some (h:Bool)=>some h
   | none=>none
def eSRaw(x:SRaw) :List T:=[.int .i64 x.ID,.str x.Data]
def SValue.eta(x:SValue) :SValue:=⟨x.Kind,x.Bool_,x.Int_,x.Str,x.ID,x.Keys,x.Items,x.Rest⟩
theorem SValue.gq(x:SValue) :x.eta=x:=by cases x;rfl
mutual
def eSValue :SValue→List T
 | ⟨a0,a1,a2,a3,a4,a5,a6,a7⟩=>[.int .i64 a0,.bool a1,.int .i64 a2,.str a3,.int .i64 a4,.slice (eSValueL a5),.slice (eSValueL a6),.slice (a7.map eSRaw)]
def eSValueL :List SValue→List (List T)
 | []=>[]
 | v::r=>eSValue v::eSValueL r
end
theorem gi0 :∀l,eSValueL l=l.map eSValue
 | []=>rfl
 | v::r=>by simp only[eSValueL,List.map];rw[gi0 r]
theorem gtv(x:SValue) :eSValue x=[.int .i64 x.Kind,.bool x.Bool_,.int .i64 x.Int_,.str x.Str,.int .i64 x.ID,.slice (x.Keys.map eSValue),.slice (x.Items.map eSValue),.slice (x.Rest.map eSRaw)]:=by cases x;simp only[eSValue,gi0]
def eSMember(x:SMember) :List T:=[.int .i64 x.ID,.str x.Name,.int .i64 x.Type_,.bool x.Critical,.bool x.HasDefault,.int .i64 x.Default.Kind,.bool x.Default.Bool_,.int .i64 x.Default.Int_,.str x.Default.Str,.int .i64 x.Default.ID,.slice (x.Default.Keys.map eSValue),.slice (x.Default.Items.map eSValue),.slice (x.Default.Rest.map eSRaw)]
def eSSymbol(x:SSymbol) :List T:=[.int .i64 x.ID,.str x.Name]
def eSType(x:SType) :List T:=[.int .i64 x.Kind,.str x.Name,.int .i64 x.Low,.int .i64 x.High,.int .i64 x.Max,.slice (x.Symbols.map eSSymbol),.slice (x.Members.map eSMember),.int .i64 x.Key,.int .i64 x.Elem,.bool x.Open]
def eSSchema(x:SSchema) :List T:=[.slice (x.Types.map eSType)]
def eEncodeEntry(x:EncodeEntry) :List T:=[.int .i64 x.id,.str x.text]
def eEncodeReader(x:EncodeReader) :List T:=[.slice (x.s.Types.map eSType)]
def eSField(x:SField) :List T:=[.int .i64 x.ID,.bool x.Critical,.str x.Data]
def eSheaveref07Part(x:Sheaveref07Part) :List T:=[.int .u8 x.ID,.int .u8 x.Type_,.int .u8 x.Flag]
def eSheaveref07Node(x:Sheaveref07Node) :List T:=[.int .u8 x.Kind,.int .u8 x.A,.int .u8 x.B,.int .u8 x.C,.slice (x.Parts.map eSheaveref07Part)]
def eSheaveref07Draft(x:Sheaveref07Draft) :List T:=[.slice (x.Nodes.map eSheaveref07Node)]
def eSheaveref08Draft(x:Sheaveref08Draft) :List T:=[.slice (x.S.Nodes.map eSheaveref07Node),.int .u8 x.T,.slice (x.C.map (fun y=>[.int .u8 y]))]
def eSheavelaw09Two(x:Sheavelaw09Two) :List T:=[.slice (x.D.S.Nodes.map eSheaveref07Node),.int .u8 x.D.T,.slice (x.D.C.map (fun y=>[.int .u8 y])),.slice (x.C.map (fun y=>[.int .u8 y]))]
def uEnc :(n:Nat)→uD n→List T
 | 0,x=>eSMember x
 | 1,x=>eSValue x
 | 2,x=>eSRaw x
 | 3,x=>eSType x
 | 4,x=>eSSymbol x
 | 5,x=>eSSchema x
 | 6,x=>eEncodeEntry x
 | 7,x=>eEncodeReader x
 | 8,x=>eSField x
 | 9,x=>eSheaveref07Draft x
 | 10,x=>eSheaveref07Node x
 | 11,x=>eSheaveref07Part x
 | 12,x=>eSheavelaw09Two x
 | 13,x=>eSheaveref08Draft x
 | _+14,(x:Bool)=>[.bool x]
def Un :Uni where
 D:=uD
 dfl:=fun n=>match n with
   | 0=>dSMember
   | 1=>dSValue
   | 2=>dSRaw
   | 3=>dSType
   | 4=>dSSymbol
   | 5=>dSSchema
   | 6=>dEncodeEntry
   | 7=>dEncodeReader
   | 8=>dSField
   | 9=>dSheaveref07Draft
   | 10=>dSheaveref07Node
   | 11=>dSheaveref07Part
   | 12=>dSheavelaw09Two
   | 13=>dSheaveref08Draft
   | _+14=>false
 flds:=uFlds
 make:=uMake
 tys:=uTys
 enc:=uEnc
 enc_eq:=fun n x=>match n,x with
   | 0,_=>rfl
   | 1,x=>gtv x
   | 2,_=>rfl
   | 3,_=>rfl
   | 4,_=>rfl
   | 5,_=>rfl
   | 6,_=>rfl
   | 7,_=>rfl
   | 8,_=>rfl
   | 9,_=>rfl
   | 10,_=>rfl
   | 11,_=>rfl
   | 12,_=>rfl
   | 13,_=>rfl
   | _+14,_=>rfl
 mk_eq:=fun n l x h=>match n,x,h with
   | 0,x,h=>by
     simp only[uMake]at h;split at h
     · rename_i hh hd;cases h;exact Hs.dec_cells hd
     · cases h
   | 1,x,h=>by
     simp only[uMake]at h;split at h
     · rename_i hh hd;cases h;exact Hs.dec_cells hd
     · cases h
   | 2,x,h=>by
     simp only[uMake]at h;split at h
     · rename_i hh hd;cases h;exact Hs.dec_cells hd
     · cases h
   | 3,x,h=>by
     simp only[uMake]at h;split at h
     · rename_i hh hd;cases h;exact Hs.dec_cells hd
     · cases h
   | 4,x,h=>by
     simp only[uMake]at h;split at h
     · rename_i hh hd;cases h;exact Hs.dec_cells hd
     · cases h
   | 5,x,h=>by
     simp only[uMake]at h;split at h
     · rename_i hh hd;cases h;exact Hs.dec_cells hd
     · cases h
   | 6,x,h=>by
     simp only[uMake]at h;split at h
     · rename_i hh hd;cases h;exact Hs.dec_cells hd
     · cases h
   | 7,x,h=>by
     simp only[uMake]at h;split at h
     · rename_i hh hd;cases h;exact Hs.dec_cells hd
     · cases h
   | 8,x,h=>by
     simp only[uMake]at h;split at h
     · rename_i hh hd;cases h;exact Hs.dec_cells hd
     · cases h
   | 9,x,h=>by
     simp only[uMake]at h;split at h
     · rename_i hh hd;cases h;exact Hs.dec_cells hd
     · cases h
   | 10,x,h=>by
     simp only[uMake]at h;split at h
     · rename_i hh hd;cases h;exact Hs.dec_cells hd
     · cases h
   | 11,x,h=>by
     simp only[uMake]at h;split at h
     · rename_i hh hd;cases h;exact Hs.dec_cells hd
     · cases h
   | 12,x,h=>by
     simp only[uMake]at h;split at h
     · rename_i hh hd;cases h;exact Hs.dec_cells hd
     · cases h
   | 13,x,h=>by
     simp only[uMake]at h;split at h
     · rename_i hh hd;cases h;exact Hs.dec_cells hd
     · cases h
   | _+14,x,h=>by
     simp only[uMake]at h;split at h
     · rename_i hh hd;cases h;exact Hs.dec_cells hd
     · cases h
 tys_eq:=fun n x=>match n,x with
   | 0,_=>rfl
   | 1,_=>rfl
   | 2,_=>rfl
   | 3,_=>rfl
   | 4,_=>rfl
   | 5,_=>rfl
   | 6,_=>rfl
   | 7,_=>rfl
   | 8,_=>rfl
   | 9,_=>rfl
   | 10,_=>rfl
   | 11,_=>rfl
   | 12,_=>rfl
   | 13,_=>rfl
   | _+14,_=>rfl
 tyOf:=fun e=>match e with
   | 3=>some (.int .i64)
   | 5=>some (.int .u8)
   | 9=>some .str
   | 53=>some (.nm 1)
   | 72=>some (.nm 8)
   | 77=>some (.nm 3)
   | 98=>some (.nm 4)
   | 119=>some (.nm 0)
   | 183=>some (.nm 6)
   | _=>none
 pos:=fun n=>match n with
   | 0=>by decide
   | 1=>by decide
   | 2=>by decide
   | 3=>by decide
   | 4=>by decide
   | 5=>by decide
   | 6=>by decide
   | 7=>by decide
   | 8=>by decide
   | 9=>by decide
   | 10=>by decide
   | 11=>by decide
   | 12=>by decide
   | 13=>by decide
   | _+14=>Nat.zero_lt_one
theorem g113 :Un.Total:=fun n l h=>match n,h with
 | 0,h=>by
   obtain⟨x,hx⟩:=Hs.dec_ty (D:=uD) (ts:=uTys 0) h;exact⟨_,by show uMake 0 l=_;simp only[uMake,hx];rfl⟩
 | 1,h=>by
   obtain⟨x,hx⟩:=Hs.dec_ty (D:=uD) (ts:=uTys 1) h;exact⟨_,by show uMake 1 l=_;simp only[uMake,hx];rfl⟩
 | 2,h=>by
   obtain⟨x,hx⟩:=Hs.dec_ty (D:=uD) (ts:=uTys 2) h;exact⟨_,by show uMake 2 l=_;simp only[uMake,hx];rfl⟩
 | 3,h=>by
   obtain⟨x,hx⟩:=Hs.dec_ty (D:=uD) (ts:=uTys 3) h;exact⟨_,by show uMake 3 l=_;simp only[uMake,hx];rfl⟩
 | 4,h=>by
   obtain⟨x,hx⟩:=Hs.dec_ty (D:=uD) (ts:=uTys 4) h;exact⟨_,by show uMake 4 l=_;simp only[uMake,hx];rfl⟩
 | 5,h=>by
   obtain⟨x,hx⟩:=Hs.dec_ty (D:=uD) (ts:=uTys 5) h;exact⟨_,by show uMake 5 l=_;simp only[uMake,hx];rfl⟩
 | 6,h=>by
   obtain⟨x,hx⟩:=Hs.dec_ty (D:=uD) (ts:=uTys 6) h;exact⟨_,by show uMake 6 l=_;simp only[uMake,hx];rfl⟩
 | 7,h=>by
   obtain⟨x,hx⟩:=Hs.dec_ty (D:=uD) (ts:=uTys 7) h;exact⟨_,by show uMake 7 l=_;simp only[uMake,hx];rfl⟩
 | 8,h=>by
   obtain⟨x,hx⟩:=Hs.dec_ty (D:=uD) (ts:=uTys 8) h;exact⟨_,by show uMake 8 l=_;simp only[uMake,hx];rfl⟩
 | 9,h=>by
   obtain⟨x,hx⟩:=Hs.dec_ty (D:=uD) (ts:=uTys 9) h;exact⟨_,by show uMake 9 l=_;simp only[uMake,hx];rfl⟩
 | 10,h=>by
   obtain⟨x,hx⟩:=Hs.dec_ty (D:=uD) (ts:=uTys 10) h;exact⟨_,by show uMake 10 l=_;simp only[uMake,hx];rfl⟩
 | 11,h=>by
   obtain⟨x,hx⟩:=Hs.dec_ty (D:=uD) (ts:=uTys 11) h;exact⟨_,by show uMake 11 l=_;simp only[uMake,hx];rfl⟩
 | 12,h=>by
   obtain⟨x,hx⟩:=Hs.dec_ty (D:=uD) (ts:=uTys 12) h;exact⟨_,by show uMake 12 l=_;simp only[uMake,hx];rfl⟩
 | 13,h=>by
   obtain⟨x,hx⟩:=Hs.dec_ty (D:=uD) (ts:=uTys 13) h;exact⟨_,by show uMake 13 l=_;simp only[uMake,hx];rfl⟩
 | m+14,h=>by
   obtain⟨x,hx⟩:=Hs.dec_ty (D:=uD) (ts:=[.bool]) h;exact⟨x,by show uMake (m+14) l=_;simp only[uMake,hx];rfl⟩
end
section
open Go Go.Proofs.YthnmepafpikaiaaGreat.Shv
open Tryz
set_option maxRecDepth 100000
open Go.Proofs Go.Proofs.YthnmepafpikaiaaGreat Go.Shelf
instance:Inhabited EncodeEntry:=⟨dEncodeEntry⟩
instance:Inhabited (Un.D 6):=⟨dEncodeEntry⟩
def sortLt(x y:EncodeEntry) :Bool:=decide (x.id < y.id)
def gi1(l:List EncodeEntry) :Option (List EncodeEntry):=some (pdqBy sortLt l)
section
open Go.Proofs Go.Proofs.YthnmepafpikaiaaGreat Go.Sort Go.RowKit Go.Lib
theorem sortNaN(x:Int)(w:World) :Calls prog 162 #[.int .i64 x] w fun e w'=>e= .returned (.bool false)∧w'=w:=by
 go_enter func162,ntmps162
 go_wp2
 go_ret
 exact⟨by simp,rfl⟩
set_option maxHeartbeats 1000000 in
theorem sortCmp(x y:Int)(w:World) :Calls prog 136 #[.int .i64 x,.int .i64 y] w fun e w'=>e= .returned (.int .i64 (Lib.compareInt x y))∧w'=w:=by
 go_enter func136,ntmps136
 go_wp2_with (go_at_call 162;refine(sortNaN _ _).mono ?_;rintro e w' ⟨rfl,hw⟩;rw[hw])
 all_goals (go_ret;refine⟨?_,rfl⟩;unfold Lib.compareInt;(repeat' split) <;> first | rfl | (exfalso;omega))
def sortEnc(x:EncodeEntry) :List Value:=[.int .i64 x.id,.string ⟨x.text.toArray⟩]
set_option maxHeartbeats 1000000 in
theorem sortClo(x y:Int)(s t:ByteArray)(W:World) :Calls prog 135 #[.agg #[.int .i64 x,.string s],.agg #[.int .i64 y,.string t]] W fun e w'=>e= .returned (.int .i64 (Lib.compareInt x y))∧∃q os',w'=grow (W.drewN q) os':=by
 have hcon:=fun W'=>sortCmp x y W'
 generalize Lib.compareInt x y=r at hcon ⊢
 go_enter func135,ntmps135
 go_wp2_with (go_at_call 136;refine(hcon _).mono ?_;rintro e w' ⟨rfl,rfl⟩)
 go_ret
 exact⟨rfl,0,_,by rw[alloc_eq_grow,alloc_eq_grow,grow_grow];rfl⟩
def gpg :Go.Shelf.Ren:=⟨fun | 6=>134 | 15=>161 | 14=>160 | 28=>187 | 29=>188 | 20=>179 | 21=>180 | 22=>181 | 23=>182 | 24=>183 | 25=>184 | 26=>185 | 27=>186 | 46=>192 | 47=>193 | 48=>194 | 49=>195 | 50=>196 | 57=>197 | n=>n,fun | 22=>180 | 24=>183 | 25=>186 | 3=>3 | 39=>124 | 0=>0 | 53=>167 | 55=>82 | 4=>4 | 46=>215 | 45=>214 | 50=>144 | 5=>5 | 9=>9 | 66=>224 | 70=>228 | 76=>230 | 77=>231 | n=>n,fun | n=>n⟩
theorem layS :SlLaysF0.n6 prog gpg:={
 mixed:=by kernel_rfl
 f6:=⟨f134.name,by decide,func134.trans (congrArg some (by kernel_rfl))⟩
 f14:=⟨f160.name,by decide,func160.trans (congrArg some (by kernel_rfl))⟩
 f15:=func161.trans (congrArg some (by kernel_rfl))
 f20:=⟨f179.name,by decide,func179.trans (congrArg some (by kernel_rfl))⟩
 f21:=⟨f180.name,by decide,func180.trans (congrArg some (by kernel_rfl))⟩
 f22:=⟨f181.name,by decide,func181.trans (congrArg some (by kernel_rfl))⟩
 f23:=⟨f182.name,by decide,func182.trans (congrArg some (by kernel_rfl))⟩
 f24:=⟨f183.name,by decide,func183.trans (congrArg some (by kernel_rfl))⟩
 f25:=⟨f184.name,by decide,func184.trans (congrArg some (by kernel_rfl))⟩
 f26:=⟨f185.name,by decide,func185.trans (congrArg some (by kernel_rfl))⟩
 f27:=⟨f186.name,by decide,func186.trans (congrArg some (by kernel_rfl))⟩
 f28:=func187.trans (congrArg some (by kernel_rfl))
 f29:=func188.trans (congrArg some (by kernel_rfl))
 f46:=⟨f192.name,by decide,func192.trans (congrArg some (by kernel_rfl))⟩
 f47:=func193.trans (congrArg some (by kernel_rfl))
 f48:=func194.trans (congrArg some (by kernel_rfl))
 f49:=⟨f195.name,by decide,func195.trans (congrArg some (by kernel_rfl))⟩
 f50:=⟨f196.name,by decide,func196.trans (congrArg some (by kernel_rfl))⟩
 f57:=⟨f197.name,by decide,func197.trans (congrArg some (by kernel_rfl))⟩
 t0:=underlying0
 a0:=isAgg0
 z0:=sizeOf0
 v0:=zeroValue0
 t3:=underlying3
 a3:=isAgg3
 z3:=sizeOf3
 v3:=zeroValue3
 t4:=underlying4
 a4:=isAgg4
 z4:=sizeOf4
 v4:=zeroValue4
 t5:=underlying5
 a5:=isAgg5
 z5:=sizeOf5
 v5:=zeroValue5
 t9:=underlying9
 a9:=isAgg9
 z9:=sizeOf9
 v9:=zeroValue9
 t22:=underlying180
 a22:=isAgg180
 z22:=sizeOf180
 v22:=zeroValue180
 t25:=underlying186
 a25:=isAgg186
 z25:=sizeOf186
 v25:=zeroValue186
 t39:=underlying124
 a39:=isAgg124
 z39:=sizeOf124
 v39:=zeroValue124
 t45:=underlying214
 a45:=isAgg214
 z45:=sizeOf214
 v45:=zeroValue214
 t46:=underlying215
 a46:=isAgg215
 z46:=sizeOf215
 v46:=zeroValue215
 t50:=underlying144
 a50:=isAgg144
 z50:=sizeOf144
 v50:=zeroValue144
 t53:=underlying167
 a53:=isAgg167
 z53:=sizeOf167
 v53:=zeroValue167
 t55:=underlying82
 a55:=isAgg82
 z55:=sizeOf82
 v55:=zeroValue82
 t66:=underlying224
 a66:=isAgg224
 z66:=sizeOf224
 v66:=zeroValue224
 t70:=underlying228
 a70:=isAgg228
 z70:=sizeOf228
 v70:=zeroValue228
 t76:=underlying230
 a76:=isAgg230
 z76:=sizeOf230
 v76:=zeroValue230
 t77:=underlying231
 a77:=isAgg231
 z77:=sizeOf231
 v77:=zeroValue231}
theorem gnf :ltOf (fun x y:EncodeEntry=>Lib.compareInt x.id y.id)=sortLt:=by
 funext x y
 unfold ltOf sortLt Lib.compareInt;by_cases h1:x.id < y.id
 · simp[h1]
 · by_cases h2:y.id < x.id <;> simp[h1,h2]
theorem sortSWO :SWO sortLt:=gyb (fun x:EncodeEntry=>x.id)
set_option maxHeartbeats 2000000 in
theorem sortNoneI(p:Option Addr)(cap:Nat)(fv:Value)(w:World) :Calls prog 179 #[.slice p 0 cap,.int .i64 0,.int .i64 0,fv] w fun e w'=>e= .returned (.tuple #[])∧w'=w:=by
 go_enter func179,ntmps179
 go_wp2
 refine wp_loop_rounds 1 ?_;rw[rounds_succ]
 go_wp2
 go_end0
 exact⟨rfl,rfl⟩
set_option maxHeartbeats 2000000 in
theorem sortNoneP(p:Option Addr)(cap:Nat)(lim:Int)(fv:Value)(w:World) :Calls prog 160 #[.slice p 0 cap,.int .i64 0,.int .i64 0,.int .i64 lim,fv] w fun e w'=>e= .returned (.tuple #[])∧w'=w:=by
 have hi:=fun W=>sortNoneI p cap fv W
 go_enter func160,ntmps160
 go_wp2
 refine wp_loop_rounds 1 ?_;rw[rounds_succ]
 go_wp2_with (go_at_call 179;refine(hi _).mono ?_;rintro e w' ⟨rfl,rfl⟩)
 (try simp only[Exit.inBlock,Exit.then]);refine bodyPost_ret (results_none rfl _ _ _) rfl ?_
 exact⟨rfl,rfl⟩
set_option maxHeartbeats 2000000 in
theorem sortNone(p:Option Addr)(cap:Nat)(fv:Value)(w:World) :Calls prog 134 #[.slice p 0 cap,fv] w fun e w'=>e= .returned (.tuple #[])∧w'=w:=by
 have hp:=fun lim W=>sortNoneP p cap lim fv W
 have hl:∀W,Calls prog 161 #[.int .u64 0] W fun e w'=>e= .returned (.int .i64 (Lib.bitLen 0:Nat))∧w'=W:=fun W=>by
   have h:=Any.bits_Len (SlLaysF0.n15.bits (P:=prog) (ρ:=gpg) {layS with}) 0 W (by omega) (by omega);exact h
 go_enter func134,ntmps134
 go_wp2_with (first | (go_at_call 161;refine(hl _).mono ?_;rintro e w' ⟨rfl,rfl⟩) | (go_at_call 160;refine(hp _ _).mono ?_;rintro e w' ⟨rfl,rfl⟩))
 go_end0
 exact⟨rfl,rfl⟩
theorem sortWhole (blk off cap : Nat) (d : Array (Un.D 6)) (w : World) (hH : HoldsK sortEnc 2 w blk off d) (hblk : blk < w.heap.size) (hsz : d.size < 4611686018427387904) :
   Calls prog 134 #[.slice (some ⟨blk,off,none⟩) d.size cap,.func (.func 135) #[] #[]] w fun e w'=>e= .returned (.tuple #[])∧∃n os,w'=sortWorldK sortEnc 2 w blk off n (pdq sortLt d 0 d.size (Lib.bitLen d.size) true true) os:=by
 have eg:∀args w,(callFunc 135 args).run prog w= .ok (.enter 135 args) w:=enters_of func135 (by kernel_rfl) rfl
 have h:=AnyQ.slices_SortFunc_eq (α:=EncodeEntry) layS 2 isAgg183 sizeOf183 sortEnc (fun _=>rfl) (fun x v hv=>by simp[sortEnc]at hv;rcases hv with rfl | rfl <;> rfl) (fun x y=>Lib.compareInt x.id y.id) (by rw[gnf];exact sortSWO) 135 #[] blk off cap d w eg (fun _ _ _ _ x y=>sortClo x.id y.id _ _ _) hH hblk hsz;rw[gnf]at h;exact h
theorem gzh :g4t prog 134=true:=by kernel_rfl
def gaq :FSpec Un:=sortS Un 134 6 135 (pdqBy (α:=Un.D 6) sortLt)
theorem gjv :FSnd prog gaq:=gxc (U:=Un) (n:=6) sortEnc sortLt sortSWO (fun _=>rfl) (fun w S x j t v h hr=>gtu w S x.id x.text j t v h hr) sortWhole sortNone
end
theorem gar :FnC prog gaq:=⟨gzh,gjv⟩
def gl9 :Go.Shelf.Ren:=⟨fun | 240=>117 | 276=>145 | n=>n,fun | 0=>0 | 4=>4 | 9=>9 | 20=>20 | 37=>45 | 70=>128 | 72=>130 | 164=>194 | n=>n,fun n=>n⟩
theorem lay240 :Lays.n240 prog gl9:={
 mixed:=by kernel_rfl
 f240:=func117.trans (congrArg some (by kernel_rfl))
 f276:=func145.trans (congrArg some (by kernel_rfl))
 t0:=underlying0
 a0:=isAgg0
 z0:=sizeOf0
 v0:=zeroValue0
 t4:=underlying4
 a4:=isAgg4
 z4:=sizeOf4
 v4:=zeroValue4
 t9:=underlying9
 a9:=isAgg9
 z9:=sizeOf9
 v9:=zeroValue9
 t20:=underlying20
 a20:=isAgg20
 z20:=sizeOf20
 v20:=zeroValue20
 t70:=underlying128
 a70:=isAgg128
 z70:=sizeOf128
 v70:=zeroValue128
 t72:=underlying130
 a72:=isAgg130
 z72:=sizeOf130
 v72:=zeroValue130
 t164:=underlying194
 a164:=isAgg194
 z164:=sizeOf194
 v164:=zeroValue194}
theorem layX72 :Builder.X72 prog gl9:={
 sizeBuilder:=by kernel_rfl
 liesBuilder:=by kernel_rfl}
theorem gzi :g4t prog 117=true:=by kernel_rfl
def gdu :FSpec Un:=gl6 Un 117 130 5
theorem gip :FSnd prog gdu:=gv9 lay240 layX72 rfl rfl
theorem gdv :FnC prog gdu:=⟨gzi,gip⟩
end
section
open Go Go.Proofs.YthnmepafpikaiaaGreat.Shv
open Tryz
set_option maxRecDepth 100000
abbrev FC(e:FEnt)(F:Hs Un.D e.ts→Option (Hs Un.D e.us)) :Prop:=FnC prog (e.s F)
abbrev LC(f kk:Nat)(p:List Nat)(e:LEnt)(F:Hs Un.D e.ts→Option (OSum Un e.outs)) :Prop:=LpC prog f kk p e F
abbrev KC(e:FEnt) :Prop:=Fok prog e
abbrev FD(e:FEnt) :Hs Un.D e.ts→Hs Un.D e.us→Prop:=FQ prog Un e
abbrev LD(f kk:Nat)(p:List Nat)(e:LEnt) :Hs Un.D e.ts→OSum Un e.outs→Prop:=LQ prog Un f kk p e
theorem FH(e:FEnt)(k:KC e){F:Hs Un.D e.ts→Option (Hs Un.D e.us)}(h:∀h r,F h=some r→FD e h r) :FC e F:= .of k h
theorem LH(e:LEnt){f kk:Nat}{p:List Nat}{F:Hs Un.D e.ts→Option (OSum Un e.outs)}(h:∀h o,F h=some o→LD f kk p e h o) :LC f kk p e F:= .of h
theorem FA(e:FEnt)(k:KC e){fs:List (FSpec Un)}(hf:FoC prog fs){ls:List (Nat × LSpec Un)}(hl:LoC prog e.f e.st.length [] ls){h:Hs Un.D e.ts}{r:Hs Un.D e.us}(hx:xbody (foS fs) (loL ls) prog e h=some r) :FD e h r:= .at k hf hl hx
theorem LA(e:LEnt){f kk:Nat}{p:List Nat}{F:Hs Un.D e.ts→Option (OSum Un e.outs)}(hF:∀h o,F h=some o→LD f kk p e h o){fs:List (FSpec Un)}(hf:FoC prog fs){ls:List (Nat × LSpec Un)}(hl:LoC prog f kk p ls){h:Hs Un.D e.ts}{o:OSum Un e.outs}(hx:gd0 (foS fs) (loL ls) kk (pathF prog f p) e F h=some o) :LD f kk p e h o:= .at hF hf hl hx
def e38 :FEnt:=⟨38,[],[],[],.row 5,[],[.nm 5],[]⟩
def e39 :FEnt:=⟨39,[hh tI,hh tI],[],[tI,tI],.row 1,[],[.nm 1],[]⟩
def gvb :LEnt:=⟨0,⟨[(0,hh (tL 4)),(1,hh (tL 4)),(12,hh tI),(13,hh tI)],[]⟩,[],[],[tL 4,tL 4,tI,tI],[oR 4 .bool,oX 0],[]⟩
def e167 :FEnt:=⟨167,[hh (tL 4),hh (tL 4)],[],[tL 4,tL 4],hh .bool,[],[.bool],[gvb]⟩
def gvc :LEnt:=⟨0,⟨[(0,hh (tL 2)),(1,hh (tL 2)),(12,hh tI),(13,hh tI)],[]⟩,[],[],[tL 2,tL 2,tI,tI],[oR 4 .bool,oX 0],[]⟩
def e177 :FEnt:=⟨177,[hh (tL 2),hh (tL 2)],[],[tL 2,tL 2],hh .bool,[],[.bool],[gvc]⟩
def gd2 :LEnt:=⟨0,⟨[(1,hh (tL 1)),(2,.c (.fn 170 [])),(15,hh (tL 1)),(16,hh tI),(17,hh tI)],[]⟩,[],[],[tL 1,tL 1,tI,tI],[oR 6 .bool,oX 0],[]⟩
def gf8 :FEnt:=⟨178,[hh (tL 1),hh (tL 1),.c (.fn 170 [])],[],[tL 1,tL 1],hh .bool,[],[.bool],[gd2]⟩
def e170 :FEnt:=⟨170,[.row 1,.row 1],[],[.nm 1,.nm 1],hh .bool,[],[.bool],[]⟩
def e169 :FEnt:=⟨169,[.row 0,.row 0],[],[.nm 0,.nm 0],hh .bool,[],[.bool],[]⟩
def gvd :LEnt:=⟨0,⟨[(1,hh (tL 0)),(2,.c (.fn 169 [])),(15,hh (tL 0)),(16,hh tI),(17,hh tI)],[]⟩,[],[],[tL 0,tL 0,tI,tI],[oR 6 .bool,oX 0],[]⟩
def e168 :FEnt:=⟨168,[hh (tL 0),hh (tL 0),.c (.fn 169 [])],[],[tL 0,tL 0],hh .bool,[],[.bool],[gvd]⟩
def e150 :FEnt:=⟨150,[.row 3,.row 3],[],[.nm 3,.nm 3],hh .bool,[],[.bool],[]⟩
def e163 :FEnt:=⟨163,[hh (.int .u8)],[],[.int .u8],hh .bool,[],[.bool],[]⟩
def e164 :FEnt:=⟨164,[hh (.int .u8)],[],[.int .u8],hh .bool,[],[.bool],[]⟩
def gve :LEnt:=⟨0,⟨[(0,hh .str),(18,hh tI),(19,hh tI)],[]⟩,[],[],[.str,tI,tI],[oR 2 .bool,oX 0],[]⟩
def e147 :FEnt:=⟨147,[hh .str],[],[.str],hh .bool,[],[.bool],[gve]⟩
def gvf :LEnt:=⟨0,⟨[(0,hh tLI),(1,hh tLS),(5,.c (.mp 0)),(9,hh tLI),(10,hh tI),(11,hh tI)],[.set]⟩,[],[],[tLI,tLS,tLI,tI,tI,tLS],[oR 4 .bool,⟨.exit 0,⟨[(0,hh tLI)],[]⟩,[],[tLI]⟩],[]⟩
def e165 :FEnt:=⟨165,[hh tLI,hh tLS],[],[tLI,tLS],hh .bool,[],[.bool],[gvf]⟩
def gvg :LEnt:=⟨0,⟨[(0,hh (tL 4)),(3,.c (.arr 0)),(4,.c (.arr 1)),(7,hh (tL 4)),(8,hh tI),(9,hh tI)],[.arr tI,.arr .str]⟩,[(.slot 3,tI),(.slot 4,.str)],[(.slot 3,tI),(.slot 4,.str)],[tL 4,tL 4,tI,tI,tLI,tLS],[⟨.exit 0,⟨[(0,hh (tL 4)),(3,.c (.arr 0)),(4,.c (.arr 1))],[.arr tI,.arr .str]⟩,[],[tL 4,tLI,tLS]⟩],[]⟩
def e148 :FEnt:=⟨148,[hh (tL 4)],[],[tL 4],hh .bool,[],[.bool],[gvg]⟩
def e166 :FEnt:=⟨166,[.row 1],[],[.nm 1],hh .bool,[],[.bool],[]⟩
def gvh :LEnt:=⟨0,⟨[(1,hP 0 0),(3,.c (.arr 1)),(4,.c (.arr 2)),(8,hh (tL 0)),(9,hh tI),(10,hh tI)],[.brow 3,.arr tI,.arr .str]⟩,[(.slot 3,tI),(.slot 4,.str)],[(.slot 3,tI),(.slot 4,.str)],[tL 0,tI,tI,.nm 3,tLI,tLS],[oR 2 .bool,⟨.exit 0,⟨[(1,hP 0 0),(3,.c (.arr 1)),(4,.c (.arr 2))],[.brow 3,.arr tI,.arr .str]⟩,[],[.nm 3,tLI,tLS]⟩],[]⟩
def e149 :FEnt:=⟨149,[.row 3],[],[.nm 3],hh .bool,[],[.bool],[gvh]⟩
def e120 :FEnt:=⟨120,[.row 3],[],[.nm 3],hh .bool,[],[.bool],[]⟩
def gvi :LEnt:=⟨0,⟨[(1,hP 0 0),(3,.c (.arr 1)),(7,hh (tL 0)),(8,hh tI),(9,hh tI)],[.brow 3,.arr tI]⟩,[(.slot 3,tI)],[(.slot 3,tI)],[tL 0,tI,tI,.nm 3,tLI],[⟨.exit 0,⟨[(1,hP 0 0),(3,.c (.arr 1))],[.brow 3,.arr tI]⟩,[],[.nm 3,tLI]⟩],[]⟩
def e121 :FEnt:=⟨121,[.row 3],[],[.nm 3],hh tLI,[],[tLI],[gvi]⟩
def grs :LEnt:=⟨0,⟨[(1,hP 0 0),(3,.c (.mp 1)),(5,hP 2 0),(14,hh (tL 3)),(15,hh tI),(16,hh tI),(38,hh tLI),(39,hh tI),(40,hh tI)],[bb (tL 3),.set,.box [.hole tI,.hole .str,.hole tI,.hole tI,.hole tI,.hole (tL 4),.hole (tL 0),.hole tI,.hole tI,.hole .bool]]⟩,[],[],[tL 3,tI,tI,tLI,tI,tI,tL 3,tLS,tI,.str,tI,tI,tI,tL 4,tL 0,tI,tI,.bool],[oR 2 tI,⟨.exit 2,⟨[(1,hP 0 0),(3,.c (.mp 1)),(5,hP 2 0),(14,hh (tL 3)),(15,hh tI),(16,hh tI)],[bb (tL 3),.set,.box [.hole tI,.hole .str,.hole tI,.hole tI,.hole tI,.hole (tL 4),.hole (tL 0),.hole tI,.hole tI,.hole .bool]]⟩,[],[tL 3,tI,tI,tL 3,tLS,tI,.str,tI,tI,tI,tL 4,tL 0,tI,tI,.bool]⟩],[]⟩
def e79_0 :LEnt:=⟨0,⟨[(1,hP 0 0),(3,.c (.mp 1)),(14,hh (tL 3)),(15,hh tI),(16,hh tI)],[bb (tL 3),.set]⟩,[],[],[tL 3,tI,tI,tL 3,tLS],[oR 2 tI,oX 0],[grs]⟩
def e79 :FEnt:=⟨79,[.row 5],[],[.nm 5],hh tI,[],[tI],[e79_0]⟩
def e52 :FEnt:=⟨52,[.row 5,hh tI],[],[.nm 5,tI],hh tI,[],[tI],[]⟩
def e171 :FEnt:=⟨171,[.row 1],[],[.nm 1],.row 1,[],[.nm 1],[]⟩
def e155 :FEnt:=⟨155,[.row 1],[],[.nm 1],hh .bool,[],[.bool],[]⟩
def e153 :FEnt:=⟨153,[.row 4,hP 0 0],[bb tI],[.nm 4,tI],hh .bool,[bb tI],[.bool,tI],[]⟩
def gvj :LEnt:=⟨0,⟨[(0,hh (tL 4)),(1,.c (.fn 153 [0])),(7,hh tI),(8,hh tI)],[bb tI]⟩,[],[],[tL 4,tI,tI,tI],[⟨.ret,⟨[(4,hh tI)],[bb tI]⟩,[],[tI,tI]⟩,⟨.exit 0,⟨[],[bb tI]⟩,[],[tI]⟩],[]⟩
def e152 :FEnt:=⟨152,[hh (tL 4),.c (.fn 153 [0])],[bb tI],[tL 4,tI],hh tI,[bb tI],[tI,tI],[gvj]⟩
def e129 :FEnt:=⟨129,[.row 3,hh tI],[],[.nm 3,tI],.tup [hh tI,hh .bool],[],[tI,.bool],[]⟩
def e156 :FEnt:=⟨156,[hh tI],[],[tI],hh .bool,[],[.bool],[]⟩
def e126 :FEnt:=⟨126,[.row 0,hP 0 0],[bb tI],[.nm 0,tI],hh .bool,[bb tI],[.bool,tI],[]⟩
def gvk :LEnt:=⟨0,⟨[(0,hh (tL 0)),(1,.c (.fn 126 [0])),(7,hh tI),(8,hh tI)],[bb tI]⟩,[],[],[tL 0,tI,tI,tI],[⟨.ret,⟨[(4,hh tI)],[bb tI]⟩,[],[tI,tI]⟩,⟨.exit 0,⟨[],[bb tI]⟩,[],[tI]⟩],[]⟩
def e125 :FEnt:=⟨125,[hh (tL 0),.c (.fn 126 [0])],[bb tI],[tL 0,tI],hh tI,[bb tI],[tI,tI],[gvk]⟩
def e82 :FEnt:=⟨82,[.row 3,hh tI],[],[.nm 3,tI],.tup [hh tI,hh .bool],[],[tI,.bool],[]⟩
def e173 :FEnt:=⟨173,[.row 1,hP 0 0,hP 1 0,hP 2 0],[bb (tL 3),bb tI,bb .bool],[.nm 1,tL 3,tI,.bool],hh .bool,[bb (tL 3),bb tI,bb .bool],[.bool,tL 3,tI,.bool],[]⟩
def gi2 :LEnt:=⟨0,⟨[(0,hh (tL 1)),(1,.c (.fn 173 [0,1,2])),(7,hh tI),(8,hh tI)],[bb (tL 3),bb tI,bb .bool]⟩,[],[],[tL 1,tI,tI,tL 3,tI,.bool],[⟨.ret,⟨[(4,hh tI)],[bb (tL 3),bb tI,bb .bool]⟩,[],[tI,tL 3,tI,.bool]⟩,⟨.exit 0,⟨[],[bb (tL 3),bb tI,bb .bool]⟩,[],[tL 3,tI,.bool]⟩],[]⟩
def e189 :FEnt:=⟨189,[hh (tL 1),.c (.fn 173 [0,1,2])],[bb (tL 3),bb tI,bb .bool],[tL 1,tL 3,tI,.bool],hh tI,[bb (tL 3),bb tI,bb .bool],[tI,tL 3,tI,.bool],[gi2]⟩
def e172 :FEnt:=⟨172,[hh (tL 1),.c (.fn 173 [0,1,2])],[bb (tL 3),bb tI,bb .bool],[tL 1,tL 3,tI,.bool],hh .bool,[bb (tL 3),bb tI,bb .bool],[.bool,tL 3,tI,.bool],[]⟩
def e157 :FEnt:=⟨157,[.row 5,hh tI,hh (tL 1),hh .bool],[],[.nm 5,tI,tL 1,.bool],hh .bool,[],[.bool],[]⟩
def e97 :FEnt:=⟨97,[hh tI],[],[tI],hh (.int .u64),[],[.int .u64],[]⟩
def e190 :FEnt:=⟨190,[hh (.int .u64)],[],[.int .u64],hh .bool,[],[.bool],[]⟩
def e174 :FEnt:=⟨174,[hh (.int .u64),hh (.int .u64)],[],[.int .u64,.int .u64],hh tI,[],[tI],[]⟩
def e162 :FEnt:=⟨162,[hh tI],[],[tI],hh .bool,[],[.bool],[]⟩
def e136 :FEnt:=⟨136,[hh tI,hh tI],[],[tI,tI],hh tI,[],[tI],[]⟩
def e191 :FEnt:=⟨191,[hh .str],[],[.str],hh .bool,[],[.bool],[]⟩
def e176 :FEnt:=⟨176,[hh .str,hh .str],[],[.str,.str],hh tI,[],[tI],[]⟩
def gvl :LEnt:=⟨0,⟨[(3,hh tI),(6,hh tLI),(7,hh tI),(8,hh tI)],[]⟩,[],[],[tI,tLI,tI,tI],[oR 2 tI,⟨.exit 0,⟨[(3,hh tI)],[]⟩,[],[tI]⟩],[]⟩
def e175 :FEnt:=⟨175,[hh tLI],[],[tLI],hh tI,[],[tI],[gvl]⟩
def e158 :FEnt:=⟨158,[.row 1,.row 1],[],[.nm 1,.nm 1],hh tI,[],[tI],[]⟩
def gvm :LEnt:=⟨0,⟨[(3,hh .bool),(4,hP 0 0),(6,hP 1 0),(9,hP 2 0),(111,hh (tL 2)),(112,hh tI),(113,hh tI)],[bb (tL 3),.brow 1,.box [.hole tI,.hole .str,.hole tI,.hole tI,.hole tI,.hole (tL 4),.hole (tL 0),.hole tI,.hole tI,.hole .bool]]⟩,[],[],[.bool,tL 2,tI,tI,tL 3,.nm 1,tI,.str,tI,tI,tI,tL 4,tL 0,tI,tI,.bool],[oR 8 .bool,⟨.exit 1,⟨[(3,hh .bool),(4,hP 0 0),(6,hP 1 0),(9,hP 2 0)],[bb (tL 3),.box [.hole tI,.hole .bool,.hole tI,.hole .str,.hole tI,.hole (tL 1),.hole (tL 1),.hole (tL 2)],.box [.hole tI,.hole .str,.hole tI,.hole tI,.hole tI,.hole (tL 4),.hole (tL 0),.hole tI,.hole tI,.hole .bool]]⟩,[],[.bool,tL 3,tI,.bool,tI,.str,tI,tL 1,tL 1,tL 2,tI,.str,tI,tI,tI,tL 4,tL 0,tI,tI,.bool]⟩],[]⟩
def gi3 :LEnt:=⟨1,⟨[(3,hh .bool),(4,hP 0 0),(6,hP 1 0),(150,hh (tL 0)),(151,hh tI),(152,hh tI)],[bb (tL 3),.box [.hole tI,.hole .bool,.hole tI,.hole .str,.hole tI,.hole (tL 1),.hole (tL 1),.hole (tL 2)]]⟩,[],[],[.bool,tL 0,tI,tI,tL 3,tI,.bool,tI,.str,tI,tL 1,tL 1,tL 2],[oR 8 .bool,oX 3],[]⟩
def gvn :LEnt:=⟨2,⟨[(3,hh .bool),(4,hP 0 0),(6,hP 1 0),(9,hP 2 0),(20,hh tI)],[bb (tL 3),.brow 1,.box [.hole tI,.hole .str,.hole tI,.hole tI,.hole tI,.hole (tL 4),.hole (tL 0),.hole tI,.hole tI,.hole .bool]]⟩,[],[],[.bool,tI,tL 3,.nm 1,tI,.str,tI,tI,tI,tL 4,tL 0,tI,tI,.bool],[oR 8 .bool,⟨.exit 5,⟨[(3,hh .bool),(4,hP 0 0),(6,hP 1 0),(9,hP 2 0)],[bb (tL 3),.brow 1,.box [.hole tI,.hole .str,.hole tI,.hole tI,.hole tI,.hole (tL 4),.hole (tL 0),.hole tI,.hole tI,.hole .bool]]⟩,[],[.bool,tL 3,.nm 1,tI,.str,tI,tI,tI,tL 4,tL 0,tI,tI,.bool]⟩],[]⟩
def e132 :FEnt:=⟨132,[.row 5,hh tI,.row 1,hh .bool],[],[.nm 5,tI,.nm 1,.bool],hh .bool,[],[.bool],[gvm,gi3,gvn]⟩
def e95 :FEnt:=⟨95,[.row 5,hh tI,.row 1],[],[.nm 5,tI,.nm 1],hh .bool,[],[.bool],[]⟩
def e56 :FEnt:=⟨56,[.row 5,hh tI,.row 1],[],[.nm 5,tI,.nm 1],hh tI,[],[tI],[]⟩
def e96_0 :LEnt:=⟨0,⟨[(0,hh (.int .u64)),(3,hP 0 0),(4,hh tI)],[.arr (.int .u8)]⟩,[],[],[.int .u64,tI,.slice (.int .u8)],[⟨.exit 0,⟨[(3,hP 0 0),(4,hh tI)],[.arr (.int .u8)]⟩,[],[tI,.slice (.int .u8)]⟩],[]⟩
def e96 :FEnt:=⟨96,[hh (.int .u64)],[],[.int .u64],hh .str,[],[.str],[e96_0]⟩
def gd3 :LEnt:=⟨0,⟨[(1,hh (tL 1)),(2,.c (.fn 159 [])),(15,hh (tL 1)),(16,hh tI),(17,hh tI)],[]⟩,[],[],[tL 1,tL 1,tI,tI],[oR 6 .bool,oX 0],[]⟩
def gf9 :FEnt:=⟨178,[hh (tL 1),hh (tL 1),.c (.fn 159 [])],[],[tL 1,tL 1],hh .bool,[],[.bool],[gd3]⟩
def e159 :FEnt:=⟨159,[.row 1,.row 1],[],[.nm 1,.nm 1],hh .bool,[],[.bool],[]⟩
def e133 :FEnt:=⟨133,[.row 0,.row 1],[],[.nm 0,.nm 1],hh .bool,[],[.bool],[]⟩
def gvo :LEnt:=⟨0,⟨[(0,hh (.int .u64)),(3,hP 0 0),(4,hh tI)],[.arr (.int .u8)]⟩,[],[],[.int .u64,tI,.slice (.int .u8)],[⟨.exit 0,⟨[(0,hh (.int .u64)),(3,hP 0 0),(4,hh tI)],[.arr (.int .u8)]⟩,[],[.int .u64,tI,.slice (.int .u8)]⟩],[]⟩
def e113 :FEnt:=⟨113,[hh (.int .u64)],[],[.int .u64],hh .str,[],[.str],[gvo]⟩
def e100 :FEnt:=⟨100,[hh .str],[],[.str],hh .str,[],[.str],[]⟩
def e68 :FEnt:=⟨68,[hh tI,hh .bool,hh .str],[],[tI,.bool,.str],hh .str,[],[.str],[]⟩
def e73 :FEnt:=⟨73,[hP 0 0,hh .str],[.bld 130 ((.bufc 1)),.buf 5],[.str,.str],.tup [hh tI,.c (.dead)],[.bld 130 ((.bufc 2)),.gone,.buf 5],[tI,.str],[]⟩
def e75 :FEnt:=⟨75,[hP 0 0],[.bld 130 ((.bufc 1)),.buf 5],[.str],hh .str,[.bld 130 ((.bufc 1)),.gone],[.str],[]⟩
def e98_0 :LEnt:=⟨0,⟨[(0,hP 0 0),(3,hh tI),(6,hP 1 0),(9,.c (.arr 2)),(18,hh (tL 0)),(19,hh tI),(20,hh tI)],[.box [.hole (tL 3),.hole tI],.brow 1,.arr (.nm 6)]⟩,[(.slot 9,.nm 6)],[(.slot 9,.nm 6)],[tI,tL 0,tI,tI,tL 3,tI,.nm 1,tL 6],[⟨.exit 0,⟨[(6,hP 1 0),(9,.c (.arr 2))],[.box [.hole (tL 3),.hole tI],.brow 1,.arr (.nm 6)]⟩,[],[tL 3,tI,.nm 1,tL 6]⟩],[]⟩
def e98_1 :LEnt:=⟨1,⟨[(9,.c (.arr 1)),(57,hh (tL 2)),(58,hh tI),(59,hh tI)],[.box [.hole (tL 3),.hole tI],.arr (.nm 6)]⟩,[],[],[tL 2,tI,tI,tL 3,tI,tL 6],[⟨.exit 2,⟨[(9,.c (.arr 1))],[.box [.hole (tL 3),.hole tI],.arr (.nm 6)]⟩,[],[tL 3,tI,tL 6]⟩],[]⟩
def e98_2 :LEnt:=⟨2,⟨[(14,hP 1 0),(77,.c (.arr 2)),(78,hh tI),(79,hh tI)],[.box [.hole (tL 3),.hole tI],.bld 130 ((.bufc 3)),.arr (.nm 6),.buf 5]⟩,[],[],[tI,tI,tL 3,tI,tL 6,.str],[⟨.exit 4,⟨[(14,hP 1 0)],[.box [.hole (tL 3),.hole tI],.bld 130 ((.bufc 2)),.buf 5]⟩,[],[tL 3,tI,.str]⟩],[]⟩
def e98 :FEnt:=⟨98,[hP 0 0,.row 3,.row 1,hh tI],[.box [.hole (tL 3),.hole tI]],[.nm 3,.nm 1,tI,tL 3,tI],hh .str,[.box [.hole (tL 3),.hole tI]],[.str,tL 3,tI],[e98_0,e98_1,e98_2]⟩
def e99 :FEnt:=⟨99,[hP 0 0,.row 3,.row 1,hh tI],[.box [.hole (tL 3),.hole tI]],[.nm 3,.nm 1,tI,tL 3,tI],hh .str,[.box [.hole (tL 3),.hole tI]],[.str,tL 3,tI],[]⟩
def e57_0 :LEnt:=⟨0,⟨[(0,hP 0 0),(3,hh tI),(6,hP 1 0),(9,hP 2 0),(10,hP 3 0),(84,hh (tL 1)),(85,hh tI),(86,hh tI)],[.box [.hole (tL 3),.hole tI],.brow 1,.brow 3,.bld 130 ((.bufc 4)),.buf 5]⟩,[],[],[tI,tL 1,tI,tI,tL 3,tI,.nm 1,.nm 3,.str],[⟨.exit 1,⟨[(10,hP 1 0)],[.box [.hole (tL 3),.hole tI],.bld 130 ((.bufc 2)),.buf 5]⟩,[],[tL 3,tI,.str]⟩],[]⟩
def e57 :FEnt:=⟨57,[hP 0 0,hh tI,.row 1,hh tI],[.box [.hole (tL 3),.hole tI]],[tI,.nm 1,tI,tL 3,tI],hh .str,[.box [.hole (tL 3),.hole tI]],[.str,tL 3,tI],[e57_0]⟩
def e26 :FEnt:=⟨26,[.row 5,hh tI,.row 1],[],[.nm 5,tI,.nm 1],.tup [hh .str,hh tI],[],[.str,tI],[]⟩
def e76_0 :LEnt:=⟨0,⟨[(0,hh .str),(5,hh (.int .u64)),(10,hh tI),(11,hh tI)],[]⟩,[],[],[.str,.int .u64,tI,tI],[⟨.ret,⟨[(2,hh (.int .u64)),(3,hh tI),(4,hh tI)],[]⟩,[],[.int .u64,tI,tI]⟩,oX 0],[]⟩
def e76 :FEnt:=⟨76,[hh .str],[],[.str],.tup [hh (.int .u64),hh tI,hh tI],[],[.int .u64,tI,tI],[e76_0]⟩
def e41 :FEnt:=⟨41,[hh .str],[],[.str],.tup [hh (.int .u64),hh .str,hh .bool],[],[.int .u64,.str,.bool],[]⟩
def e42 :FEnt:=⟨42,[hh .str],[],[.str],.tup [hh .str,hh .str,hh .bool],[],[.str,.str,.bool],[]⟩
def e14_0 :LEnt:=⟨0,⟨[(4,.c (.arr 0)),(5,hh .str)],[.arr .str]⟩,[(.slot 4,.str)],[(.slot 4,.str)],[.str,tLS],[⟨.ret,⟨[(2,.c (.cap0)),(3,hh tI)],[]⟩,[],[tI]⟩,⟨.exit 0,⟨[(4,.c (.arr 0))],[.arr .str]⟩,[],[tLS]⟩],[]⟩
def e14 :FEnt:=⟨14,[hh .str],[],[.str],.tup [hh tLS,hh tI],[],[tLS,tI],[e14_0]⟩
def e40_0 :LEnt:=⟨0,⟨[(0,hh tLS),(1,hh tLS),(12,hh tI),(13,hh tI)],[]⟩,[],[],[tLS,tLS,tI,tI],[oR 4 .bool,oX 0],[]⟩
def e40 :FEnt:=⟨40,[hh tLS,hh tLS],[],[tLS,tLS],hh .bool,[],[.bool],[e40_0]⟩
def e12_0 :LEnt:=⟨0,⟨[(4,.c (.arr 0)),(5,hh (.int .u64)),(6,hh .str)],[.arr (.nm 8)]⟩,[(.slot 4,.nm 8)],[(.slot 4,.nm 8)],[.int .u64,.str,tL 8],[⟨.ret,⟨[(2,.c (.cap0)),(3,hh tI)],[]⟩,[],[tI]⟩,⟨.exit 0,⟨[(4,.c (.arr 0))],[.arr (.nm 8)]⟩,[],[tL 8]⟩],[]⟩
def e12 :FEnt:=⟨12,[hh .str],[],[.str],.tup [hh (tL 8),hh tI],[],[tL 8,tI],[e12_0]⟩
def e80_0 :LEnt:=⟨0,⟨[(3,hh tI),(4,hP 0 0),(5,hP 1 0),(11,hh tI),(27,hh (tL 8)),(28,hh tI),(29,hh tI)],[bb (tL 3),.brow 3]⟩,[],[],[tI,tI,tL 8,tI,tI,tL 3,.nm 3],[oR 8 .bool,⟨.exit 0,⟨[(5,hP 0 0),(11,hh tI)],[.brow 3]⟩,[],[tI,.nm 3]⟩],[]⟩
def e80_1 :LEnt:=⟨1,⟨[(11,hh tI),(93,hh (tL 0)),(94,hh tI),(95,hh tI)],[]⟩,[],[],[tI,tL 0,tI,tI],[⟨.exit 2,⟨[(11,hh tI)],[]⟩,[],[tI]⟩],[]⟩
def e80 :FEnt:=⟨80,[.row 7,.row 3,hh .str,hh tI],[],[.nm 7,.nm 3,.str,tI],hh .bool,[],[.bool],[e80_0,e80_1]⟩
def gzj :FEnt:=⟨123,[hh .str,hP 0 0,hP 1 0,hP 2 0],[bb (tL 3),.box [.hole tI,.hole .str,.hole tI,.hole tI,.hole tI,.hole (tL 4),.hole (tL 0),.hole tI,.hole tI,.hole .bool],bb tI],[.str,tL 3,tI,.str,tI,tI,tI,tL 4,tL 0,tI,tI,.bool,tI],hh .bool,[bb (tL 3),.box [.hole tI,.hole .str,.hole tI,.hole tI,.hole tI,.hole (tL 4),.hole (tL 0),.hole tI,.hole tI,.hole .bool],bb tI],[.bool,tL 3,tI,.str,tI,tI,tI,tL 4,tL 0,tI,tI,.bool,tI],[]⟩
def gxe :LEnt:=⟨0,⟨[(0,hh tLS),(1,.c (.fn 123 [0,1,2])),(7,hh tI),(8,hh tI)],[bb (tL 3),.box [.hole tI,.hole .str,.hole tI,.hole tI,.hole tI,.hole (tL 4),.hole (tL 0),.hole tI,.hole tI,.hole .bool],bb tI]⟩,[],[],[tLS,tI,tI,tL 3,tI,.str,tI,tI,tI,tL 4,tL 0,tI,tI,.bool,tI],[⟨.ret,⟨[(4,hh tI)],[bb (tL 3),.box [.hole tI,.hole .str,.hole tI,.hole tI,.hole tI,.hole (tL 4),.hole (tL 0),.hole tI,.hole tI,.hole .bool],bb tI]⟩,[],[tI,tL 3,tI,.str,tI,tI,tI,tL 4,tL 0,tI,tI,.bool,tI]⟩,⟨.exit 0,⟨[],[bb (tL 3),.box [.hole tI,.hole .str,.hole tI,.hole tI,.hole tI,.hole (tL 4),.hole (tL 0),.hole tI,.hole tI,.hole .bool],bb tI]⟩,[],[tL 3,tI,.str,tI,tI,tI,tL 4,tL 0,tI,tI,.bool,tI]⟩],[]⟩
def gzk :FEnt:=⟨151,[hh tLS,.c (.fn 123 [0,1,2])],[bb (tL 3),.box [.hole tI,.hole .str,.hole tI,.hole tI,.hole tI,.hole (tL 4),.hole (tL 0),.hole tI,.hole tI,.hole .bool],bb tI],[tLS,tL 3,tI,.str,tI,tI,tI,tL 4,tL 0,tI,tI,.bool,tI],hh tI,[bb (tL 3),.box [.hole tI,.hole .str,.hole tI,.hole tI,.hole tI,.hole (tL 4),.hole (tL 0),.hole tI,.hole tI,.hole .bool],bb tI],[tI,tL 3,tI,.str,tI,tI,tI,tL 4,tL 0,tI,tI,.bool,tI],[gxe]⟩
def gzl :FEnt:=⟨122,[hh tLS,.c (.fn 123 [0,1,2])],[bb (tL 3),.box [.hole tI,.hole .str,.hole tI,.hole tI,.hole tI,.hole (tL 4),.hole (tL 0),.hole tI,.hole tI,.hole .bool],bb tI],[tLS,tL 3,tI,.str,tI,tI,tI,tL 4,tL 0,tI,tI,.bool,tI],hh .bool,[bb (tL 3),.box [.hole tI,.hole .str,.hole tI,.hole tI,.hole tI,.hole (tL 4),.hole (tL 0),.hole tI,.hole tI,.hole .bool],bb tI],[.bool,tL 3,tI,.str,tI,tI,tI,tL 4,tL 0,tI,tI,.bool,tI],[]⟩
def e124 :FEnt:=⟨124,[hh .str,hh .str],[],[.str,.str],hh .bool,[],[.bool],[]⟩
def e81_0 :LEnt:=⟨0,⟨[(4,hP 0 0),(5,hP 1 0),(7,hP 2 0),(9,hh tLS),(11,hh tI)],[bb (tL 3),.box [.hole tI,.hole .str,.hole tI,.hole tI,.hole tI,.hole (tL 4),.hole (tL 0),.hole tI,.hole tI,.hole .bool],bb tI]⟩,[],[],[tLS,tI,tL 3,tI,.str,tI,tI,tI,tL 4,tL 0,tI,tI,.bool,tI],[oR 8 .bool,oX 0],[]⟩
def e81 :FEnt:=⟨81,[.row 7,.row 3,hh .str,hh tI],[],[.nm 7,.nm 3,.str,tI],hh .bool,[],[.bool],[e81_0]⟩
def e16 :FEnt:=⟨16,[hh .str],[],[.str],.tup [hh tI,hh .str,hh tI],[],[tI,.str,tI],[]⟩
def gzm :LEnt:=⟨0,⟨[(0,hh .str),(4,hh (.int .u64)),(17,hh tI),(18,hh tI)],[]⟩,[],[],[.str,.int .u64,tI,tI],[⟨.exit 0,⟨[(4,hh (.int .u64))],[]⟩,[],[.int .u64]⟩],[]⟩
def e127 :FEnt:=⟨127,[hh .str],[],[.str],.tup [hh (.int .u64),hh tI],[],[.int .u64,tI],[gzm]⟩
def e128 :FEnt:=⟨128,[hh (.int .u64)],[],[.int .u64],hh tI,[],[tI],[]⟩
def e83 :FEnt:=⟨83,[.row 3,hh .str],[],[.nm 3,.str],hh .bool,[],[.bool],[]⟩
def e53 :FEnt:=⟨53,[.row 7,hh tI,hh .str,hh tI],[],[.nm 7,tI,.str,tI],hh .bool,[],[.bool],[]⟩
def e21 :FEnt:=⟨21,[.row 5,hh tI,hh .str],[],[.nm 5,tI,.str],hh .bool,[],[.bool],[]⟩
def e11 :FEnt:=⟨11,[],[],[],hh .bool,[],[.bool],[]⟩
def e3 :FEnt:=⟨3,[hh .str],[],[.str],hh .bool,[],[.bool],[]⟩
def e45 :FEnt:=⟨45,[.row 9,hh tI],[],[.nm 9,tI],hh tI,[],[tI],[]⟩
def e46 :FEnt:=⟨46,[hh tI],[],[tI],hh .bool,[],[.bool],[]⟩
def e47 :FEnt:=⟨47,[.row 10],[],[.nm 10],hh tI,[],[tI],[]⟩
def e48 :FEnt:=⟨48,[.row 10],[],[.nm 10],hh tI,[],[tI],[]⟩
def e49_0 :LEnt:=⟨0,⟨[(1,hP 0 0),(3,.c (.arr 1)),(4,hh tI)],[.brow 10,.arr tI]⟩,[(.slot 3,tI)],[(.slot 3,tI)],[tI,.nm 10,tLI],[⟨.exit 0,⟨[(3,.c (.arr 0))],[.arr tI]⟩,[],[tLI]⟩],[]⟩
def e49 :FEnt:=⟨49,[.row 10],[],[.nm 10],hh tLI,[],[tLI],[e49_0]⟩
def e119 :FEnt:=⟨119,[hh tI],[],[tI],hh .bool,[],[.bool],[]⟩
def e77_0 :LEnt:=⟨0,⟨[(3,hP 0 0),(7,hh tI),(9,hh tI)],[bb (tL 10)]⟩,[],[],[tI,tI,tL 10],[oR 6 tI,oX 0],[]⟩
def e77 :FEnt:=⟨77,[.row 9,hh tI,hh (.int .u8)],[],[.nm 9,tI,.int .u8],hh tI,[],[tI],[e77_0]⟩
def e67 :FEnt:=⟨67,[hh tI],[],[tI],hh .bool,[],[.bool],[]⟩
def e51_0 :LEnt:=⟨0,⟨[(1,hh (.int .u8)),(2,hP 0 0),(5,hh tI),(6,hh tI)],[bb (tL 10)]⟩,[],[],[.int .u8,tI,tI,tL 10],[oR 4 tI,oX 0],[]⟩
def e51 :FEnt:=⟨51,[.row 9,hh (.int .u8)],[],[.nm 9,.int .u8],hh tI,[],[tI],[e51_0]⟩
def e78 :FEnt:=⟨78,[.row 9,hh tI,hh (.int .u8)],[],[.nm 9,tI,.int .u8],.tup [.row 1,hh .bool],[],[.nm 1,.bool],[]⟩
def grt :LEnt:=⟨0,⟨[(1,hh tI),(2,hh .bool),(3,hP 0 0),(7,hP 1 0),(8,.c (.arr 2)),(9,hh tI),(10,hh tI)],[bb (tL 10),.brow 10,.arr (.nm 0)]⟩,[],[],[tI,.bool,tI,tI,tL 10,.nm 10,tL 0],[⟨.exit 2,⟨[(1,hh tI),(2,hh .bool),(3,hP 0 0),(7,hP 1 0),(8,.c (.arr 2)),(9,hh tI)],[bb (tL 10),.brow 10,.arr (.nm 0)]⟩,[],[tI,.bool,tI,tL 10,.nm 10,tL 0]⟩],[]⟩
def e50_0 :LEnt:=⟨0,⟨[(1,hh tI),(2,hh .bool),(3,hP 0 0),(7,hP 1 0),(8,.c (.arr 2)),(9,hh tI)],[bb (tL 10),.brow 10,.arr (.nm 0)]⟩,[(.slot 8,.nm 0)],[(.slot 8,.nm 0)],[tI,.bool,tI,tL 10,.nm 10,tL 0],[⟨.exit 0,⟨[(8,.c (.arr 0))],[.arr (.nm 0)]⟩,[],[tL 0]⟩],[grt]⟩
def e50 :FEnt:=⟨50,[.row 9,hh tI,hh .bool],[],[.nm 9,tI,.bool],hh (tL 0),[],[tL 0],[e50_0]⟩
def gru :LEnt:=⟨0,⟨[(1,hP 0 0),(2,hP 1 0),(4,hh tI),(5,hP 2 0),(6,hh tI),(8,hP 3 0),(9,hh tLI),(10,hh tI)],[bb (tL 10),.box [.cap0],.box [.arr 4],.box [.hole tI,.hole .str,.hole tI,.hole tI,.hole tI,.arr 5,.cap0,.hole tI,.hole tI,.hole .bool],.arr (.nm 3),.arr (.nm 4)]⟩,[(.cell 228 5,.nm 4)],[(.cell 3 5,.nm 4)],[tI,tI,tLI,tI,tL 10,tI,.str,tI,tI,tI,tI,tI,.bool,tL 3,tL 4],[⟨.exit 3,⟨[(1,hP 0 0),(2,hP 1 0),(4,hh tI),(5,hP 2 0),(6,hh tI),(8,hP 3 0)],[bb (tL 10),.box [.cap0],.box [.arr 4],.box [.hole tI,.hole .str,.hole tI,.hole tI,.hole tI,.arr 5,.cap0,.hole tI,.hole tI,.hole .bool],.arr (.nm 3),.arr (.nm 4)]⟩,[],[tI,tI,tL 10,tI,.str,tI,tI,tI,tI,tI,.bool,tL 3,tL 4]⟩],[]⟩
def e20_0 :LEnt:=⟨0,⟨[(1,hP 0 0),(2,hP 1 0),(4,hh tI),(5,hP 2 0),(6,hh tI)],[bb (tL 10),.box [.cap0],.box [.arr 3],.arr (.nm 3)]⟩,[(.cell 208 0,.nm 3)],[(.cell 2 0,.nm 3)],[tI,tI,tL 10,tL 3],[⟨.exit 0,⟨[(2,hP 0 0),(5,hP 1 0)],[.box [.cap0],.box [.arr 2],.arr (.nm 3)]⟩,[],[tL 3]⟩],[gru]⟩
def e20 :FEnt:=⟨20,[.row 9],[],[.nm 9],.tup [.row 5,hh .bool],[],[.nm 5,.bool],[e20_0]⟩
def gi4 :LEnt:=⟨0,⟨[(0,hh (tL 1)),(1,hh (tL 1)),(5,hh tI)],[]⟩,[],[],[tL 1,tL 1,tI],[oR 4 .bool,oX 0],[]⟩
def e101 :FEnt:=⟨101,[hh (tL 1),hh (tL 1)],[],[tL 1,tL 1],hh .bool,[],[.bool],[gi4]⟩
def e58_0 :LEnt:=⟨0,⟨[(2,hP 0 0),(3,hP 1 0),(5,hh tI)],[.brow 1,.brow 1]⟩,[],[],[tI,.nm 1,.nm 1],[oR 4 .bool,⟨.exit 0,⟨[(2,hP 0 0),(3,hP 1 0)],[.brow 1,.brow 1]⟩,[],[.nm 1,.nm 1]⟩],[]⟩
def e58 :FEnt:=⟨58,[.row 1,.row 1],[],[.nm 1,.nm 1],hh .bool,[],[.bool],[e58_0]⟩
def e86_0 :LEnt:=⟨0,⟨[(1,hh tI),(2,hP 0 0),(6,hh tI)],[.brow 3]⟩,[],[],[tI,tI,.nm 3],[⟨.ret,⟨[(4,hh tI),(5,hh .bool)],[]⟩,[],[tI,.bool]⟩,oX 0],[]⟩
def e86 :FEnt:=⟨86,[.row 3,hh tI],[],[.nm 3,tI],.tup [hh tI,hh .bool],[],[tI,.bool],[e86_0]⟩
def e87_0 :LEnt:=⟨0,⟨[(1,hh tI),(2,hP 0 0),(6,hh tI)],[.brow 3]⟩,[],[],[tI,tI,.nm 3],[⟨.ret,⟨[(4,hh tI),(5,hh .bool)],[]⟩,[],[tI,.bool]⟩,oX 0],[]⟩
def e87 :FEnt:=⟨87,[.row 3,hh tI],[],[.nm 3,tI],.tup [hh tI,hh .bool],[],[tI,.bool],[e87_0]⟩
def e104 :FEnt:=⟨104,[hh tI],[],[tI],hh (.int .u64),[],[.int .u64],[]⟩
def e4 :FEnt:=⟨4,[.row 9,hh tI,hh .str],[],[.nm 9,tI,.str],hh .bool,[],[.bool],[]⟩
def e89 :FEnt:=⟨89,[hP 0 0,hh tI],[.box [.hole (tL 3),.hole (.slice (.int .u8)),.hole .bool]],[tI,tL 3,.slice (.int .u8),.bool],hh tI,[.box [.hole (tL 3),.hole (.slice (.int .u8)),.hole .bool]],[tI,tL 3,.slice (.int .u8),.bool],[]⟩
def e90_0 :LEnt:=⟨0,⟨[(0,hP 0 0),(5,hh .str),(6,hh tI)],[.box [.hole (tL 3),.hole (.slice (.int .u8)),.hole .bool]]⟩,[],[],[.str,tI,tL 3,.slice (.int .u8),.bool],[⟨.exit 0,⟨[(5,hh .str)],[.box [.hole (tL 3),.hole (.slice (.int .u8)),.hole .bool]]⟩,[],[.str,tL 3,.slice (.int .u8),.bool]⟩],[]⟩
def e90 :FEnt:=⟨90,[hP 0 0,hh tI],[.box [.hole (tL 3),.hole (.slice (.int .u8)),.hole .bool]],[tI,tL 3,.slice (.int .u8),.bool],hh .str,[.box [.hole (tL 3),.hole (.slice (.int .u8)),.hole .bool]],[.str,tL 3,.slice (.int .u8),.bool],[e90_0]⟩
def e91 :FEnt:=⟨91,[hP 0 0],[.box [.hole (tL 3),.hole (.slice (.int .u8)),.hole .bool]],[tL 3,.slice (.int .u8),.bool],hh .bool,[.box [.hole (tL 3),.hole (.slice (.int .u8)),.hole .bool]],[.bool,tL 3,.slice (.int .u8),.bool],[]⟩
def e130 :FEnt:=⟨130,[.row 3,hh tI],[],[.nm 3,tI],hh .bool,[],[.bool],[]⟩
def e92_0 :LEnt:=⟨0,⟨[(3,hP 1 0),(5,hh tI)],[.box [.hole (tL 3),.hole (.slice (.int .u8)),.hole .bool],.brow 3]⟩,[],[],[tI,tL 3,.slice (.int .u8),.bool,.nm 3],[⟨.exit 0,⟨[(5,hh tI)],[.box [.hole (tL 3),.hole (.slice (.int .u8)),.hole .bool]]⟩,[],[tI,tL 3,.slice (.int .u8),.bool]⟩],[]⟩
def e92 :FEnt:=⟨92,[hP 0 0,.row 3],[.box [.hole (tL 3),.hole (.slice (.int .u8)),.hole .bool]],[.nm 3,tL 3,.slice (.int .u8),.bool],hh tI,[.box [.hole (tL 3),.hole (.slice (.int .u8)),.hole .bool]],[tI,tL 3,.slice (.int .u8),.bool],[e92_0]⟩
def e93 :FEnt:=⟨93,[hP 0 0,hh tI],[.box [.hole (tL 3),.hole (.slice (.int .u8)),.hole .bool]],[tI,tL 3,.slice (.int .u8),.bool],.row 2,[.box [.hole (tL 3),.hole (.slice (.int .u8)),.hole .bool]],[.nm 2,tL 3,.slice (.int .u8),.bool],[]⟩
def e154 :FEnt:=⟨154,[hh .bool,hh .bool],[],[.bool,.bool],hh tI,[],[tI],[]⟩
def e131 :FEnt:=⟨131,[.row 1,.row 1],[],[.nm 1,.nm 1],hh tI,[],[tI],[]⟩
def e94_0 :LEnt:=⟨0,⟨[(3,hP 0 0),(4,hP 1 0),(5,hP 2 0),(6,hP 3 0),(7,hh tI)],[.brow 1,.brow 1,.brow 1,.box [.hole tI,.hole .bool,.hole tI,.hole .str,.hole tI,.cap0,.cap0,.cap0]]⟩,[],[],[tI,.nm 1,.nm 1,.nm 1,tI,.bool,tI,.str,tI],[⟨.exit 0,⟨[(3,hP 0 0),(4,hP 1 0),(5,hP 2 0),(6,hP 3 0),(7,hh tI)],[.brow 1,.brow 1,.brow 1,.box [.hole tI,.hole .bool,.hole tI,.hole .str,.hole tI,.cap0,.cap0,.cap0]]⟩,[],[tI,.nm 1,.nm 1,.nm 1,tI,.bool,tI,.str,tI]⟩],[]⟩
def e94 :FEnt:=⟨94,[.row 1,.row 1,.row 1],[],[.nm 1,.nm 1,.nm 1],.row 1,[],[.nm 1],[e94_0]⟩
def e55_0 :LEnt:=⟨0,⟨[(0,hP 0 0),(4,hP 1 0),(5,hP 2 0),(6,hP 3 0),(7,hh tI)],[.box [.hole (tL 3),.hole (.slice (.int .u8)),.hole .bool],.box [.hole tI,.hole .bool,.hole tI,.hole .str,.hole tI,.cap0,.cap0,.cap0],.box [.hole tI,.hole .str,.hole tI,.hole tI,.hole tI,.hole (tL 4),.hole (tL 0),.hole tI,.hole tI,.hole .bool],.box [.hole tI,.hole .bool,.hole tI,.hole .str,.hole tI,.cap0,.arr 4,.cap0],.arr (.nm 1)]⟩,[(.cell 225 6,.nm 1)],[(.cell 3 6,.nm 1)],[tI,tL 3,.slice (.int .u8),.bool,tI,.bool,tI,.str,tI,tI,.str,tI,tI,tI,tL 4,tL 0,tI,tI,.bool,tI,.bool,tI,.str,tI,tL 1],[⟨.exit 1,⟨[(0,hP 0 0),(4,hP 1 0),(5,hP 2 0),(6,hP 3 0)],[.box [.hole (tL 3),.hole (.slice (.int .u8)),.hole .bool],.box [.hole tI,.hole .bool,.hole tI,.hole .str,.hole tI,.cap0,.cap0,.cap0],.box [.hole tI,.hole .str,.hole tI,.hole tI,.hole tI,.hole (tL 4),.hole (tL 0),.hole tI,.hole tI,.hole .bool],.box [.hole tI,.hole .bool,.hole tI,.hole .str,.hole tI,.cap0,.arr 4,.cap0],.arr (.nm 1)]⟩,[],[tL 3,.slice (.int .u8),.bool,tI,.bool,tI,.str,tI,tI,.str,tI,tI,tI,tL 4,tL 0,tI,tI,.bool,tI,.bool,tI,.str,tI,tL 1]⟩],[]⟩
def e55_1 :LEnt:=⟨1,⟨[(0,hP 0 0),(4,hP 1 0),(5,hP 2 0),(6,hP 3 0),(9,hh tI)],[.box [.hole (tL 3),.hole (.slice (.int .u8)),.hole .bool],.box [.hole tI,.hole .bool,.hole tI,.hole .str,.hole tI,.cap0,.cap0,.cap0],.box [.hole tI,.hole .str,.hole tI,.hole tI,.hole tI,.hole (tL 4),.hole (tL 0),.hole tI,.hole tI,.hole .bool],.box [.hole tI,.hole .bool,.hole tI,.hole .str,.hole tI,.cap0,.arr 4,.cap0],.arr (.nm 1)]⟩,[(.cell 225 6,.nm 1)],[(.cell 3 6,.nm 1)],[tI,tL 3,.slice (.int .u8),.bool,tI,.bool,tI,.str,tI,tI,.str,tI,tI,tI,tL 4,tL 0,tI,tI,.bool,tI,.bool,tI,.str,tI,tL 1],[⟨.exit 3,⟨[(4,hP 1 0),(6,hP 2 0)],[.box [.hole (tL 3),.hole (.slice (.int .u8)),.hole .bool],.box [.hole tI,.hole .bool,.hole tI,.hole .str,.hole tI,.cap0,.cap0,.cap0],.box [.hole tI,.hole .bool,.hole tI,.hole .str,.hole tI,.cap0,.arr 3,.cap0],.arr (.nm 1)]⟩,[],[tL 3,.slice (.int .u8),.bool,tI,.bool,tI,.str,tI,tI,.bool,tI,.str,tI,tL 1]⟩],[]⟩
def e55_2 :LEnt:=⟨2,⟨[(0,hP 0 0),(4,hP 1 0),(5,hP 2 0),(6,hP 3 0),(10,hh tI)],[.box [.hole (tL 3),.hole (.slice (.int .u8)),.hole .bool],.box [.hole tI,.hole .bool,.hole tI,.hole .str,.hole tI,.cap0,.cap0,.cap0],.box [.hole tI,.hole .str,.hole tI,.hole tI,.hole tI,.hole (tL 4),.hole (tL 0),.hole tI,.hole tI,.hole .bool],.box [.hole tI,.hole .bool,.hole tI,.hole .str,.hole tI,.hole (tL 1),.hole (tL 1),.hole (tL 2)]]⟩,[],[],[tI,tL 3,.slice (.int .u8),.bool,tI,.bool,tI,.str,tI,tI,.str,tI,tI,tI,tL 4,tL 0,tI,tI,.bool,tI,.bool,tI,.str,tI,tL 1,tL 1,tL 2],[⟨.exit 5,⟨[(4,hP 1 0),(6,hP 2 0)],[.box [.hole (tL 3),.hole (.slice (.int .u8)),.hole .bool],.box [.hole tI,.hole .bool,.hole tI,.hole .str,.hole tI,.cap0,.cap0,.cap0],.box [.hole tI,.hole .bool,.hole tI,.hole .str,.hole tI,.hole (tL 1),.hole (tL 1),.hole (tL 2)]]⟩,[],[tL 3,.slice (.int .u8),.bool,tI,.bool,tI,.str,tI,tI,.bool,tI,.str,tI,tL 1,tL 1,tL 2]⟩],[]⟩
def e55 :FEnt:=⟨55,[hP 0 0,hh tI],[.box [.hole (tL 3),.hole (.slice (.int .u8)),.hole .bool]],[tI,tL 3,.slice (.int .u8),.bool],.row 1,[.box [.hole (tL 3),.hole (.slice (.int .u8)),.hole .bool]],[.nm 1,tL 3,.slice (.int .u8),.bool],[e55_0,e55_1,e55_2]⟩
def e24 :FEnt:=⟨24,[.row 5,hh tI,hh (.slice (.int .u8))],[],[.nm 5,tI,.slice (.int .u8)],.row 1,[],[.nm 1],[]⟩
def e25 :FEnt:=⟨25,[.row 5,hh tI,hh (.slice (.int .u8))],[],[.nm 5,tI,.slice (.int .u8)],.row 1,[],[.nm 1],[]⟩
def e23 :FEnt:=⟨23,[.row 13],[],[.nm 13],.tup [.row 5,hh tI,.row 1,.row 1,hh .bool],[],[.nm 5,tI,.nm 1,.nm 1,.bool],[]⟩
def e27 :FEnt:=⟨27,[.row 1,.row 1],[],[.nm 1,.nm 1],hh .bool,[],[.bool],[]⟩
def gvp :LEnt:=⟨0,⟨[(3,hP 0 0),(4,hh tI),(8,.c (.arr 1)),(9,hh tI),(45,hh tI),(46,hh tI),(49,hh tI),(50,hh tI)],[bb (tL 3),.arr (.nm 1)]⟩,[],[],[tI,tI,tI,tI,tI,tI,tL 3,tL 1],[oR 2 .bool,⟨.exit 2,⟨[(3,hP 0 0),(4,hh tI),(8,.c (.arr 1)),(45,hh tI),(46,hh tI)],[bb (tL 3),.arr (.nm 1)]⟩,[],[tI,tI,tI,tL 3,tL 1]⟩],[]⟩
def e5_0 :LEnt:=⟨0,⟨[(3,hP 0 0),(4,hh tI),(8,.c (.arr 1)),(45,hh tI),(46,hh tI)],[bb (tL 3),.arr (.nm 1)]⟩,[],[],[tI,tI,tI,tL 3,tL 1],[oR 2 .bool,oX 0],[gvp]⟩
def e5 :FEnt:=⟨5,[.row 12],[],[.nm 12],hh .bool,[],[.bool],[e5_0]⟩
def e6_0 :LEnt:=⟨0,⟨[(3,hP 0 0),(4,hh tI),(33,.c (.arr 1)),(34,hh tI),(35,hh tI)],[bb (tL 3),.arr (.nm 1)]⟩,[],[],[tI,tI,tI,tL 3,tL 1],[oR 2 .bool,oX 0],[]⟩
def e6 :FEnt:=⟨6,[.row 13],[],[.nm 13],hh .bool,[],[.bool],[e6_0]⟩
def e7 :FEnt:=⟨7,[.row 5,hh tI,.row 1],[],[.nm 5,tI,.nm 1],hh .bool,[],[.bool],[]⟩
def e8 :FEnt:=⟨8,[hh tI,hh .bool,hh .str],[],[tI,.bool,.str],hh .bool,[],[.bool],[]⟩
def e9_0 :LEnt:=⟨0,⟨[(8,hh .str),(11,hh tI),(12,hh .str),(57,hh (tL 8)),(58,hh tI),(59,hh tI)],[]⟩,[],[],[.str,tI,.str,tL 8,tI,tI],[oR 2 .bool,⟨.exit 1,⟨[(8,hh .str),(11,hh tI),(12,hh .str)],[]⟩,[],[.str,tI,.str]⟩],[]⟩
def e9 :FEnt:=⟨9,[.row 13],[],[.nm 13],hh .bool,[],[.bool],[e9_0]⟩
def e10_0 :LEnt:=⟨0,⟨[(0,hh (.int .u8)),(1,hh (.int .u8)),(2,hh (.int .u8)),(7,hP 0 0),(8,hP 1 0),(24,hh (.int .u8)),(25,hh (.int .u8))],[bb (tL 3),.box [.hole tI,.hole .bool,.hole tI,.hole .str,.hole tI,.cap0,.arr 2,.cap0],.arr (.nm 1)]⟩,[(.cell 176 6,.nm 1)],[(.cell 1 6,.nm 1)],[.int .u8,.int .u8,.int .u8,.int .u8,.int .u8,tL 3,tI,.bool,tI,.str,tI,tL 1],[⟨.exit 0,⟨[(0,hh (.int .u8)),(1,hh (.int .u8)),(2,hh (.int .u8)),(7,hP 0 0),(8,hP 1 0)],[bb (tL 3),.box [.hole tI,.hole .bool,.hole tI,.hole .str,.hole tI,.cap0,.arr 2,.cap0],.arr (.nm 1)]⟩,[],[.int .u8,.int .u8,.int .u8,tL 3,tI,.bool,tI,.str,tI,tL 1]⟩],[]⟩
def e10_1 :LEnt:=⟨1,⟨[(0,hh (.int .u8)),(1,hh (.int .u8)),(2,hh (.int .u8)),(7,hP 0 0),(8,hP 1 0),(9,hP 2 0),(39,hh (.int .u8)),(40,hh (.int .u8))],[bb (tL 3),.box [.hole tI,.hole .bool,.hole tI,.hole .str,.hole tI,.cap0,.arr 3,.cap0],.box [.hole tI,.hole .bool,.hole tI,.hole .str,.hole tI,.cap0,.hole (tL 1),.cap0],.arr (.nm 1)]⟩,[],[],[.int .u8,.int .u8,.int .u8,.int .u8,.int .u8,tL 3,tI,.bool,tI,.str,tI,tI,.bool,tI,.str,tI,tL 1,tL 1],[⟨.exit 2,⟨[(0,hh (.int .u8)),(1,hh (.int .u8)),(2,hh (.int .u8)),(7,hP 0 0),(8,hP 1 0),(9,hP 2 0)],[bb (tL 3),.box [.hole tI,.hole .bool,.hole tI,.hole .str,.hole tI,.cap0,.arr 3,.cap0],.box [.hole tI,.hole .bool,.hole tI,.hole .str,.hole tI,.cap0,.hole (tL 1),.cap0],.arr (.nm 1)]⟩,[],[.int .u8,.int .u8,.int .u8,tL 3,tI,.bool,tI,.str,tI,tI,.bool,tI,.str,tI,tL 1,tL 1]⟩],[]⟩
def e10 :FEnt:=⟨10,[hh (.int .u8),hh (.int .u8),hh (.int .u8)],[],[.int .u8,.int .u8,.int .u8],hh .bool,[],[.bool],[e10_0,e10_1]⟩
def tabE0 :List FEnt:=[e38,e39,e167,e177,gf8,e170,e169,e168,e150,e163,e164,e147,e165,e148,e166,e149,e120,e121,e79,e52]
def tabE1 :List FEnt:=[e171,e155,e153,e152,e129,e156,e126,e125,e82,e173,e189,e172,e157,e97,e190,e174,e162,e136,e191,e176]
def tabE2 :List FEnt:=[e175,e158,e132,e95,e56,e96,gf9,e159,e133,e113,e100,e68,e73,e75,e98,e99,e57,e26,e76,e41]
def tabE3 :List FEnt:=[e42,e14,e40,e12,e80,gzj,gzk,gzl,e124,e81,e16,e127,e128,e83,e53,e21,e11]
def tabE :List FEnt:=tabE0++tabE1++tabE2++tabE3
theorem gzn :tabE.all (okE prog)=true:=by kernel_rfl
def gmi :FSpec Un:={gaq with F:=sortK (α:=Un.D 6) sortLt}
theorem gmj :FnC prog gmi:=⟨gar.1,fun h r hr=>gar.2 h r (gxd sortSWO _ r hr)⟩
def g73(_:Unit) :Option (Bool):=some true
theorem ggv :FC e11 g73:= .run gzn (.k gmj (.k gdv .n)) (.m (by kernel_rfl)) 3000 fun _=>by kernel_rfl
theorem g9o :g73 ()=some true:=rfl
end
section
open Go Go.Proofs.YthnmepafpikaiaaGreat.Shv
open Tryz
set_option maxRecDepth 100000
def g10(x_:List SSymbol × List SSymbol × Int × Int) :Option ((Bool) ⊕ (Unit)):=
 match x_ with
 | (s1_1,s2_1,t12_1,t13)=>
 if decide (t13 < t12_1)=true then
 if inR t13 s1_1.length=true then
 some (s1_1.getD t13.toNat dSSymbol) >>=fun x0=>
 if inR t13 s2_1.length=true then
 some (s2_1.getD t13.toNat dSSymbol) >>=fun x0_1=>
 if(!(eqI x0.ID x0_1.ID && (eqS x0.Name x0_1.Name && true)))=true then
 some (.inl false)
 else
 g10 (s1_1,s2_1,t12_1,addI .i64 t13 1)
 else none
 else none
 else
 some (.inr ())
  partial_fixpoint
theorem g84 :LC 167 0 [0] gvb g10:= .rc g10.partial_correctness .n .n fun _ _=>by kernel_rfl
def g3f(x_:List SSymbol × List SSymbol) :Option (Bool):=
 match x_ with
 | (s1,s2)=>
 if(!(decide ((s1.length:Int)=(s2.length:Int))))=true then
 some false
 else
 g10 (s1,s2,(s1.length:Int),0) >>=fun o=>
 match o with
 | .inl o_1=>
 some o_1
 | .inr o_2=>
 some true
theorem gzo :KC e167:= .m (by kernel_rfl)
theorem g8u :FC e167 g3f:= .fn gzo .n (.k g84 .n) fun _=>by kernel_rfl
def g1e(x_:List SRaw × List SRaw × Int × Int) :Option ((Bool) ⊕ (Unit)):=
 match x_ with
 | (s1_1,s2_1,t12_1,t13)=>
 if decide (t13 < t12_1)=true then
 if inR t13 s1_1.length=true then
 some (s1_1.getD t13.toNat dSRaw) >>=fun x0=>
 if inR t13 s2_1.length=true then
 some (s2_1.getD t13.toNat dSRaw) >>=fun x0_1=>
 if(!(eqI x0.ID x0_1.ID && (eqS x0.Data x0_1.Data && true)))=true then
 some (.inl false)
 else
 g1e (s1_1,s2_1,t12_1,addI .i64 t13 1)
 else none
 else none
 else
 some (.inr ())
  partial_fixpoint
theorem g9j :LC 177 0 [0] gvc g1e:= .rc g1e.partial_correctness .n .n fun _ _=>by kernel_rfl
def g3h(x_:List SRaw × List SRaw) :Option (Bool):=
 match x_ with
 | (s1,s2)=>
 if(!(decide ((s1.length:Int)=(s2.length:Int))))=true then
 some false
 else
 g1e (s1,s2,(s1.length:Int),0) >>=fun o=>
 match o with
 | .inl o_1=>
 some o_1
 | .inr o_2=>
 some true
theorem gzp :KC e177:= .m (by kernel_rfl)
theorem g71 :FC e177 g3h:= .fn gzp .n (.k g9j .n) fun _=>by kernel_rfl
mutual
def g46(x_:SValue × SValue) :Option (Bool):=
 match x_ with
 | (a,b)=>
 some (bif bif bif bif decide (a.Kind=b.Kind)then eqB a.Bool_ b.Bool_ else false then decide (a.Int_=b.Int_)else false then decide (a.Str=b.Str)else false then decide (a.ID=b.ID)else false) >>=fun t37=>
 (if t37=true then g3h (a.Rest,b.Rest)else some false) >>=fun r=>
 some (bif t37 then r else false) >>=fun t44=>
 (if t44=true then g15 (a.Keys,b.Keys)else some false) >>=fun r_1=>
 some (bif t44 then r_1 else false) >>=fun t51=>
 (if t51=true then g15 (a.Items,b.Items)else some false) >>=fun r_2=>
 some (bif t51 then r_2 else false)
  partial_fixpoint
def g15(x_:List SValue × List SValue) :Option (Bool):=
 match x_ with
 | (s1,s2)=>
 if(!(decide ((s1.length:Int)=(s2.length:Int))))=true then
 some false
 else
 gw (s2,s1,(s1.length:Int),0) >>=fun o=>
 match o with
 | .inl o_1=>
 some o_1
 | .inr o_2=>
 some true
  partial_fixpoint
def gw(x_:List SValue × List SValue × Int × Int) :Option ((Bool) ⊕ (Unit)):=
 match x_ with
 | (s2_1,t15,t16_1,t17)=>
 if decide (t17 < t16_1)=true then
 if inR t17 t15.length=true then
 if inR t17 s2_1.length=true then
 g46 (SValue.eta (t15.getD t17.toNat dSValue),SValue.eta (s2_1.getD t17.toNat dSValue)) >>=fun r=>
 if(!r)=true then
 some (.inl false)
 else
 gw (s2_1,t15,t16_1,addI .i64 t17 1)
 else none
 else none
 else
 some (.inr ())
  partial_fixpoint
end
theorem gph :KC e170:= .m (by kernel_rfl)
theorem gpi :KC gf8:= .m (by kernel_rfl)
theorem gla :(∀h r,g46 h=some r→FD e170 h r)∧(∀h r,g15 h=some r→FD gf8 h r)∧(∀h r,gw h=some r→LD 178 0 [0] gd2 h r):=g46.mutual_partial_correctness (FD e170) (FD gf8) (LD 178 0 [0] gd2)
 (fun _ h1 _ _ h=>FA e170 gph (.k g71 (.k (FH gf8 gpi h1) .n)) .n (.trans (by kernel_rfl) h))
 (fun _ h2 _ _ h=>FA gf8 gpi .n (.k (LH gd2 h2) .n) (.trans (by kernel_rfl) h))
 (fun _ _ h0 h2 _ _ h=>LA gd2 h2 (.k (FH e170 gph h0) .n) .n (.trans (by kernel_rfl) h))
theorem ggr :FC e170 g46:= .of gph gla.1
def g7b(x_:SMember × SMember) :Option (Bool):=
 match x_ with
 | (x0,y)=>
 some (bif bif bif bif decide (x0.ID=y.ID)then decide (x0.Name=y.Name)else false then decide (x0.Type_=y.Type_)else false then eqB x0.Critical y.Critical else false then eqB x0.HasDefault y.HasDefault else false) >>=fun t37=>
 (if t37=true then g46 ((⟨x0.Default.Kind,x0.Default.Bool_,x0.Default.Int_,x0.Default.Str,x0.Default.ID,x0.Default.Keys,x0.Default.Items,x0.Default.Rest⟩:SValue),SValue.eta y.Default)else some false) >>=fun r=>
 some (bif t37 then r else false)
theorem gzq :KC e169:= .m (by kernel_rfl)
theorem gjw :FC e169 g7b:= .fn gzq (.k ggr .n) .n fun _=>by kernel_rfl
def gf(x_:List SMember × List SMember × Int × Int) :Option ((Bool) ⊕ (Unit)):=
 match x_ with
 | (s2_1,t15,t16_1,t17)=>
 if decide (t17 < t16_1)=true then
 if inR t17 t15.length=true then
 some (t15.getD t17.toNat dSMember) >>=fun x0=>
 if inR t17 s2_1.length=true then
 some (s2_1.getD t17.toNat dSMember) >>=fun x0_1=>
 g7b ((⟨x0.ID,x0.Name,x0.Type_,x0.Critical,x0.HasDefault,SValue.eta x0.Default⟩:SMember),(⟨x0_1.ID,x0_1.Name,x0_1.Type_,x0_1.Critical,x0_1.HasDefault,SValue.eta x0_1.Default⟩:SMember)) >>=fun r=>
 if(!r)=true then
 some (.inl false)
 else
 gf (s2_1,t15,t16_1,addI .i64 t17 1)
 else none
 else none
 else
 some (.inr ())
  partial_fixpoint
theorem g4p :LC 168 0 [0] gvd gf:= .rc gf.partial_correctness (.k gjw .n) .n fun _ _=>by kernel_rfl
def g1g(x_:List SMember × List SMember) :Option (Bool):=
 match x_ with
 | (s1,s2)=>
 if(!(decide ((s1.length:Int)=(s2.length:Int))))=true then
 some false
 else
 gf (s2,s1,(s1.length:Int),0) >>=fun o=>
 match o with
 | .inl o_1=>
 some o_1
 | .inr o_2=>
 some true
theorem gzr :KC e168:= .m (by kernel_rfl)
theorem g50 :FC e168 g1g:= .fn gzr .n (.k g4p .n) fun _=>by kernel_rfl
def g1o(x_:SType × SType) :Option (Bool):=
 match x_ with
 | (a,b)=>
 some (bif bif bif bif bif bif bif decide (a.Kind=b.Kind)then decide (a.Name=b.Name)else false then decide (a.Low=b.Low)else false then decide (a.High=b.High)else false then decide (a.Max=b.Max)else false then decide (a.Key=b.Key)else false then decide (a.Elem=b.Elem)else false then eqB a.Open b.Open else false) >>=fun t58=>
 (if t58=true then g3f (a.Symbols,b.Symbols)else some false) >>=fun r=>
 some (bif t58 then r else false) >>=fun t65=>
 (if t65=true then g1g (a.Members,b.Members)else some false) >>=fun r_1=>
 some (bif t65 then r_1 else false)
theorem gzs :KC e150:= .m (by kernel_rfl)
theorem gmk :FC e150 g1o:= .fn gzs (.k g8u (.k g50 .n)) .n fun _=>by kernel_rfl
def g7c(c:Int) :Option (Bool):=
 some (bif bif decide (c=95)then true else bif decide (97≤c)then decide (c≤122)else false then true else bif decide (65≤c)then decide (c≤90)else false)
theorem gzt :KC e163:= .m (by kernel_rfl)
theorem gd4 :FC e163 g7c:= .fn gzt .n .n fun _=>by kernel_rfl
end
section
open Go Go.Proofs.YthnmepafpikaiaaGreat.Shv
open Tryz
set_option maxRecDepth 100000
def g9e(c:Int) :Option (Bool):=
 some (bif decide (48≤c)then decide (c≤57)else false)
theorem gzu :KC e164:= .m (by kernel_rfl)
theorem glb :FC e164 g9e:= .fn gzu .n .n fun _=>by kernel_rfl
def g28(x_:List UInt8 × Int × Int) :Option ((Bool) ⊕ (Unit)):=
 match x_ with
 | (s_1,t18_1,t19)=>
 if decide (t19 < t18_1)=true then
 if inR t19 s_1.length=true then
 g7c (g68 s_1 t19) >>=fun r_1=>
 some (!r_1) >>=fun t26=>
 if(inR t19 s_1.length || (!t26))=true then
 (if t26=true then g9e (g68 s_1 t19)else some false) >>=fun r_2=>
 if(bif t26 then(!r_2)else false)=true then
 some (.inl false)
 else
 g28 (s_1,t18_1,addI .i64 t19 1)
 else none
 else none
 else
 some (.inr ())
  partial_fixpoint
theorem giq :LC 147 0 [0] gve g28:= .rc g28.partial_correctness (.k gd4 (.k glb .n)) .n fun _ _=>by kernel_rfl
def g32(s:List UInt8) :Option (Bool):=
 some (bif decide (s=[])then true else decide (24 < (s.length:Int))) >>=fun t10=>
 if(inR 0 s.length || (!(!t10)))=true then
 (if(!t10)=true then g7c (g68 s 0)else some false) >>=fun r=>
 if(bif t10 then true else(!r))=true then
 some false
 else
 g28 (s,(s.length:Int),0) >>=fun o=>
 match o with
 | .inl o_1=>
 some o_1
 | .inr o_2=>
 some true
 else none
theorem gzv :KC e147:= .m (by kernel_rfl)
theorem gfa :FC e147 g32:= .fn gzv (.k gd4 .n) (.k giq .n) fun _=>by kernel_rfl
def g4n(x_:List Int × List (List UInt8) × List Int × Int × Int × List (List UInt8)) :Option ((Bool) ⊕ (List Int)):=
 match x_ with
 | (l_2,names_1,t9,t10_1,t11,b)=>
 if decide (t11 < t10_1)=true then
 if inR t11 t9.length=true then
 some (t9.getD t11.toNat 0) >>=fun x0=>
 some (bif decide (x0 < 1)then true else decide (1000 < x0)) >>=fun t21=>
 some (decide (0 < t11)) >>=fun t24=>
 some (subI .i64 t11 1) >>=fun t29=>
 if(inR t29 l_2.length || (!((!t21) && t24)))=true then
 some (bif t21 then true else bif t24 then decide (x0≤l_2.getD t29.toNat 0)else false) >>=fun t34=>
 if(inR t11 names_1.length || (!(!t34)))=true then
 some (bif t34 then true else hasS b (names_1.getD t11.toNat [])) >>=fun t42=>
 if(inR t11 names_1.length || (!(!t42)))=true then
 (if(!t42)=true then g32 (names_1.getD t11.toNat [])else some false) >>=fun r=>
 if(bif t42 then true else(!r))=true then
 some (.inl false)
 else
 if inR t11 names_1.length=true then
 g4n (l_2,names_1,t9,t10_1,addI .i64 t11 1,addS b (names_1.getD t11.toNat []))
 else none
 else none
 else none
 else none
 else none
 else
 some (.inr l_2)
  partial_fixpoint
theorem glc :LC 165 0 [0] gvf g4n:= .rc g4n.partial_correctness (.k gfa .n) .n fun _ _=>by kernel_rfl
def ga2(x_:List Int × List (List UInt8)) :Option (Bool):=
 match x_ with
 | (l,names)=>
 g4n (l,names,l,(l.length:Int),0,[]) >>=fun o=>
 match o with
 | .inl o_1=>
 some o_1
 | .inr o_2=>
 some (decide ((o_2.length:Int)≤16))
theorem gzw :KC e165:= .m (by kernel_rfl)
theorem gi5 :FC e165 ga2:= .fn gzw .n (.k glc .n) fun _=>by kernel_rfl
def g3u(x_:List SSymbol × List SSymbol × Int × Int × List Int × List (List UInt8)) :Option (List SSymbol × List Int × List (List UInt8)):=
 match x_ with
 | (l_2,t7,t8_1,t9,b_2,b_3)=>
 if decide (t9 < t8_1)=true then
 if inR t9 t7.length=true then
 some (t7.getD t9.toNat dSSymbol) >>=fun x0=>
 some [x0.ID] >>=fun t16=>
 if room 8 (b_2++t16).length=true then
 some [x0.Name] >>=fun t21=>
 if room 16 (b_3++t21).length=true then
 g3u (l_2,t7,t8_1,addI .i64 t9 1,b_2++t16,b_3++t21)
 else none
 else none
 else none
 else
 some (l_2,b_2,b_3)
  partial_fixpoint
theorem ggw :LC 148 0 [0] gvg g3u:= .rc g3u.partial_correctness .n .n fun _ _=>by kernel_rfl
def g62(l:List SSymbol) :Option (Bool):=
 g3u (l,l,(l.length:Int),0,[],[]) >>=fun o=>
 some (decide (0 < (o.1.length:Int))) >>=fun t26=>
 (if t26=true then ga2 (o.2.1,o.2.2)else some false) >>=fun r=>
 some (bif t26 then r else false)
theorem gzx :KC e148:= .m (by kernel_rfl)
theorem gjx :FC e148 g62:= .fn gzx (.k gi5 .n) (.k ggw .n) fun _=>by kernel_rfl
def ga3(v:SValue) :Option (Bool):=
 g46 (SValue.eta v,(⟨0,false,0,[],0,[],[],[]⟩:SValue)) >>=fun r=>
 some r
theorem gzy :KC e166:= .m (by kernel_rfl)
theorem gml :FC e166 ga3:= .fn gzy (.k ggr .n) .n fun _=>by kernel_rfl
def g38(x_:List SMember × Int × Int × SType × List Int × List (List UInt8)) :Option ((Bool) ⊕ (SType × List Int × List (List UInt8))):=
 match x_ with
 | (t8,t9_1,t10,b_3,b_4,b_5)=>
 if decide (t10 < t9_1)=true then
 if inR t10 t8.length=true then
 some (t8.getD t10.toNat dSMember) >>=fun x0=>
 some [x0.ID] >>=fun t17=>
 if room 8 (b_4++t17).length=true then
 some [x0.Name] >>=fun t22=>
 if room 16 (b_5++t22).length=true then
 some (bif bif decide (b_3.Kind=6)then bif x0.Critical then true else x0.HasDefault else false then true else bif x0.Critical then x0.HasDefault else false) >>=fun t42=>
 some (!x0.HasDefault) >>=fun t46=>
 (if((!t42) && t46)=true then ga3 (SValue.eta x0.Default)else some false) >>=fun r_1=>
 if(bif t42 then true else bif t46 then(!r_1)else false)=true then
 some (.inl false)
 else
 g38 (t8,t9_1,addI .i64 t10 1,b_3,b_4++t17,b_5++t22)
 else none
 else none
 else none
 else
 some (.inr (b_3,b_4,b_5))
  partial_fixpoint
theorem ggx :LC 149 0 [0] gvh g38:= .rc g38.partial_correctness (.k gml .n) .n fun _ _=>by kernel_rfl
def g5d(t:SType) :Option (Bool):=
 g38 (t.Members,(t.Members.length:Int),0,t,[],[]) >>=fun o=>
 match o with
 | .inl o_1=>
 some o_1
 | .inr o_2=>
 some (bif decide (o_2.1.Kind=5)then true else decide (0 < (o_2.2.1.length:Int))) >>=fun t62=>
 (if t62=true then ga2 (o_2.2.1,o_2.2.2)else some false) >>=fun r=>
 some (bif t62 then r else false)
theorem gzz :KC e149:= .m (by kernel_rfl)
theorem gjy :FC e149 g5d:= .fn gzz (.k gi5 .n) (.k ggx .n) fun _=>by kernel_rfl
def g1f(t:SType) :Option (Bool):=
 if decide (t.Kind=1)=true then
 g1o ((⟨0,t.Name,t.Low,t.High,t.Max,t.Symbols,t.Members,t.Key,t.Elem,t.Open⟩:SType),(⟨0,[],0,0,0,[],[],0,0,false⟩:SType)) >>=fun r=>
 some r
 else
 if decide (t.Kind=2)=true then
 some (decide (t.Low≤t.High)) >>=fun t17=>
 (if t17=true then g1o ((⟨0,t.Name,0,0,t.Max,t.Symbols,t.Members,t.Key,t.Elem,t.Open⟩:SType),(⟨0,[],0,0,0,[],[],0,0,false⟩:SType))else some false) >>=fun r_1=>
 some (bif t17 then r_1 else false)
 else
 if decide (t.Kind=3)=true then
 some (bif decide (0≤t.Max)then decide (t.Max≤200)else false) >>=fun t29=>
 (if t29=true then g1o ((⟨0,t.Name,t.Low,t.High,0,t.Symbols,t.Members,t.Key,t.Elem,t.Open⟩:SType),(⟨0,[],0,0,0,[],[],0,0,false⟩:SType))else some false) >>=fun r_2=>
 some (bif t29 then r_2 else false)
 else
 if decide (t.Kind=4)=true then
 g32 t.Name >>=fun r_3=>
 (if r_3=true then g62 t.Symbols else some false) >>=fun r_4=>
 some (bif r_3 then r_4 else false) >>=fun t40=>
 (if t40=true then g1o ((⟨0,[],t.Low,t.High,t.Max,[],t.Members,t.Key,t.Elem,false⟩:SType),(⟨0,[],0,0,0,[],[],0,0,false⟩:SType))else some false) >>=fun r_5=>
 some (bif t40 then r_5 else false)
 else
 some (decide (t.Kind=5)) >>=fun t45=>
 if t45=true then
 if t45=true then
 g32 t.Name >>=fun r_6=>
 (if r_6=true then g5d t else some false) >>=fun r_7=>
 some (bif r_6 then r_7 else false) >>=fun t53=>
 (if t53=true then g1o ((⟨0,[],t.Low,t.High,t.Max,t.Symbols,[],t.Key,t.Elem,bif t.Open then decide (t.Kind=5)else false⟩:SType),(⟨0,[],0,0,0,[],[],0,0,false⟩:SType))else some false) >>=fun r_8=>
 some (bif t53 then r_8 else false)
 else
 some (decide (t.Kind=7)) >>=fun t65=>
 if t65=true then
 if t65=true then
 some (bif decide (0≤t.Max)then decide (t.Max≤50)else false) >>=fun t74=>
 if decide (t.Kind=8)=true then
 (if t74=true then g1o ((⟨0,t.Name,t.Low,t.High,0,t.Symbols,t.Members,0,0,t.Open⟩:SType),(⟨0,[],0,0,0,[],[],0,0,false⟩:SType))else some false) >>=fun r_9=>
 some (bif t74 then r_9 else false)
 else
 (if t74=true then g1o ((⟨0,t.Name,t.Low,t.High,0,t.Symbols,t.Members,t.Key,0,t.Open⟩:SType),(⟨0,[],0,0,0,[],[],0,0,false⟩:SType))else some false) >>=fun r_10=>
 some (bif t74 then r_10 else false)
 else
 if decide (t.Kind=9)=true then
 g1o ((⟨0,t.Name,t.Low,t.High,t.Max,t.Symbols,t.Members,t.Key,0,t.Open⟩:SType),(⟨0,[],0,0,0,[],[],0,0,false⟩:SType)) >>=fun r_11=>
 some r_11
 else
 some false
 else
 if decide (t.Kind=8)=true then
 some (bif decide (0≤t.Max)then decide (t.Max≤50)else false) >>=fun t74_1=>
 if decide (t.Kind=8)=true then
 (if t74_1=true then g1o ((⟨0,t.Name,t.Low,t.High,0,t.Symbols,t.Members,0,0,t.Open⟩:SType),(⟨0,[],0,0,0,[],[],0,0,false⟩:SType))else some false) >>=fun r_12=>
 some (bif t74_1 then r_12 else false)
 else
 (if t74_1=true then g1o ((⟨0,t.Name,t.Low,t.High,0,t.Symbols,t.Members,t.Key,0,t.Open⟩:SType),(⟨0,[],0,0,0,[],[],0,0,false⟩:SType))else some false) >>=fun r_13=>
 some (bif t74_1 then r_13 else false)
 else
 if decide (t.Kind=9)=true then
 g1o ((⟨0,t.Name,t.Low,t.High,t.Max,t.Symbols,t.Members,t.Key,0,t.Open⟩:SType),(⟨0,[],0,0,0,[],[],0,0,false⟩:SType)) >>=fun r_14=>
 some r_14
 else
 some false
 else
 if decide (t.Kind=6)=true then
 g32 t.Name >>=fun r_15=>
 (if r_15=true then g5d t else some false) >>=fun r_16=>
 some (bif r_15 then r_16 else false) >>=fun t53_1=>
 (if t53_1=true then g1o ((⟨0,[],t.Low,t.High,t.Max,t.Symbols,[],t.Key,t.Elem,bif t.Open then decide (t.Kind=5)else false⟩:SType),(⟨0,[],0,0,0,[],[],0,0,false⟩:SType))else some false) >>=fun r_17=>
 some (bif t53_1 then r_17 else false)
 else
 some (decide (t.Kind=7)) >>=fun t65_1=>
 if t65_1=true then
 if t65_1=true then
 some (bif decide (0≤t.Max)then decide (t.Max≤50)else false) >>=fun t74_2=>
 if decide (t.Kind=8)=true then
 (if t74_2=true then g1o ((⟨0,t.Name,t.Low,t.High,0,t.Symbols,t.Members,0,0,t.Open⟩:SType),(⟨0,[],0,0,0,[],[],0,0,false⟩:SType))else some false) >>=fun r_18=>
 some (bif t74_2 then r_18 else false)
 else
 (if t74_2=true then g1o ((⟨0,t.Name,t.Low,t.High,0,t.Symbols,t.Members,t.Key,0,t.Open⟩:SType),(⟨0,[],0,0,0,[],[],0,0,false⟩:SType))else some false) >>=fun r_19=>
 some (bif t74_2 then r_19 else false)
 else
 if decide (t.Kind=9)=true then
 g1o ((⟨0,t.Name,t.Low,t.High,t.Max,t.Symbols,t.Members,t.Key,0,t.Open⟩:SType),(⟨0,[],0,0,0,[],[],0,0,false⟩:SType)) >>=fun r_20=>
 some r_20
 else
 some false
 else
 if decide (t.Kind=8)=true then
 some (bif decide (0≤t.Max)then decide (t.Max≤50)else false) >>=fun t74_3=>
 if decide (t.Kind=8)=true then
 (if t74_3=true then g1o ((⟨0,t.Name,t.Low,t.High,0,t.Symbols,t.Members,0,0,t.Open⟩:SType),(⟨0,[],0,0,0,[],[],0,0,false⟩:SType))else some false) >>=fun r_21=>
 some (bif t74_3 then r_21 else false)
 else
 (if t74_3=true then g1o ((⟨0,t.Name,t.Low,t.High,0,t.Symbols,t.Members,t.Key,0,t.Open⟩:SType),(⟨0,[],0,0,0,[],[],0,0,false⟩:SType))else some false) >>=fun r_22=>
 some (bif t74_3 then r_22 else false)
 else
 if decide (t.Kind=9)=true then
 g1o ((⟨0,t.Name,t.Low,t.High,t.Max,t.Symbols,t.Members,t.Key,0,t.Open⟩:SType),(⟨0,[],0,0,0,[],[],0,0,false⟩:SType)) >>=fun r_23=>
 some r_23
 else
 some false
theorem g100 :KC e120:= .m (by kernel_rfl)
theorem go2 :FC e120 g1f:= .fn g100 (.k gmk (.k gfa (.k gjx (.k gjy .n)))) .n fun _=>by kernel_rfl
def g4x(x_:List SMember × Int × Int × SType × List Int) :Option (SType × List Int):=
 match x_ with
 | (t7,t8_1,t9,b_2,b_3)=>
 if decide (t9 < t8_1)=true then
 if inR t9 t7.length=true then
 some [(t7.getD t9.toNat dSMember).Type_] >>=fun t16=>
 if room 8 (b_3++t16).length=true then
 g4x (t7,t8_1,addI .i64 t9 1,b_2,b_3++t16)
 else none
 else none
 else
 some (b_2,b_3)
  partial_fixpoint
theorem gjz :LC 121 0 [0] gvi g4x:= .rc g4x.partial_correctness .n .n fun _ _=>by kernel_rfl
def gaz(t:SType) :Option (List Int):=
 g4x (t.Members,(t.Members.length:Int),0,t,[]) >>=fun o=>
 if decide (o.1.Kind=8)=true then
 some [o.1.Key] >>=fun t25=>
 if room 8 (o.2++t25).length=true then
 some (o.2++t25) >>=fun l=>
 if decide (7≤o.1.Kind)=true then
 some [o.1.Elem] >>=fun t33=>
 if room 8 (l++t33).length=true then
 some (l++t33)
 else none
 else
 some l
 else none
 else
 if decide (7≤o.1.Kind)=true then
 some [o.1.Elem] >>=fun t33_1=>
 if room 8 (o.2++t33_1).length=true then
 some (o.2++t33_1)
 else none
 else
 some o.2
theorem g101 :KC e121:= .m (by kernel_rfl)
theorem go3 :FC e121 gaz:= .fn g101 .n (.k gjz .n) fun _=>by kernel_rfl
def g39(x_:List SType × Int × Int × List Int × Int × Int × List SType × List (List UInt8) × Int × List UInt8 × Int × Int × Int × List SSymbol × List SMember × Int × Int × Bool) :Option ((Int) ⊕ (List SType × Int × Int × List SType × List (List UInt8) × Int × List UInt8 × Int × Int × Int × List SSymbol × List SMember × Int × Int × Bool)):=
 match x_ with
 | (t14_2,t15_3,t16_2,t38,t39_1,t40,b_14,b_15,b_16,b_17,b_18,b_19,b_20,b_21,b_22,b_23,b_24,b_25)=>
 if decide (t40 < t39_1)=true then
 if inR t40 t38.length=true then
 some (t38.getD t40.toNat 0) >>=fun x0_3=>
 if(bif decide (x0_3 < 0)then true else decide ((b_14.length:Int)≤x0_3))=true then
 some (.inl 4)
 else
 g39 (t14_2,t15_3,t16_2,t38,t39_1,addI .i64 t40 1,b_14,b_15,b_16,b_17,b_18,b_19,b_20,b_21,b_22,b_23,b_24,b_25)
 else none
 else
 some (.inr (t14_2,t15_3,t16_2,b_14,b_15,b_16,b_17,b_18,b_19,b_20,b_21,b_22,b_23,b_24,b_25))
  partial_fixpoint
theorem ggy :LC 79 0 [0,0] grs g39:= .rc g39.partial_correctness .n .n fun _ _=>by kernel_rfl
end
section
open Go Go.Proofs.YthnmepafpikaiaaGreat.Shv
open Tryz
set_option maxRecDepth 100000
def g4c(x_:List SType × Int × Int × List SType × List (List UInt8)) :Option ((Int) ⊕ (Unit)):=
 match x_ with
 | (t14,t15_1,t16,b,b_1)=>
 if decide (t16 < t15_1)=true then
 if inR t16 t14.length=true then
 some (t14.getD t16.toNat dSType) >>=fun x0=>
 g1f x0 >>=fun r=>
 if(bif (!r)then true else bif (!(decide (x0.Name=[])))then hasS b_1 x0.Name else false)=true then
 some (.inl 1)
 else
 gaz x0 >>=fun r_1=>
 g39 (t14,t15_1,t16,r_1,(r_1.length:Int),0,b,addS b_1 x0.Name,x0.Kind,x0.Name,x0.Low,x0.High,x0.Max,x0.Symbols,x0.Members,x0.Key,x0.Elem,x0.Open) >>=fun o_3=>
 match o_3 with
 | .inl o_4=>
 some (.inl o_4)
 | .inr o_5=>
 some (decide (o_5.2.2.2.2.2.1=8)) >>=fun t56=>
 if(inR o_5.2.2.2.2.2.2.2.2.2.2.2.2.1 o_5.2.2.2.1.length || (!t56))=true then
 some (decide ((o_5.2.2.2.1.getD o_5.2.2.2.2.2.2.2.2.2.2.2.2.1.toNat dSType).Kind < 1)) >>=fun t65=>
 if(inR o_5.2.2.2.2.2.2.2.2.2.2.2.2.1 o_5.2.2.2.1.length || (!(t56 && (!t65))))=true then
 if(bif t56 then bif t65 then true else decide (4 < (o_5.2.2.2.1.getD o_5.2.2.2.2.2.2.2.2.2.2.2.2.1.toNat dSType).Kind)else false)=true then
 some (.inl 1)
 else
 g4c (o_5.1,o_5.2.1,addI .i64 o_5.2.2.1 1,o_5.2.2.2.1,o_5.2.2.2.2.1)
 else none
 else none
 else none
 else
 some (.inr ())
  partial_fixpoint
theorem gir :LC 79 0 [0] e79_0 g4c:= .rc g4c.partial_correctness (.k go2 (.k go3 .n)) (.k ggy .n) fun _ _=>by kernel_rfl
def g7d(s:SSchema) :Option (Int):=
 if decide (32 < (s.Types.length:Int))=true then
 some 3
 else
 g4c (s.Types,(s.Types.length:Int),0,s.Types,[]) >>=fun o=>
 match o with
 | .inl o_1=>
 some o_1
 | .inr o_2=>
 some 0
theorem e79_k :KC e79:= .m (by kernel_rfl)
theorem gmm :FC e79 g7d:= .fn e79_k .n (.k gir .n) fun _=>by kernel_rfl
def g8v(x_:SSchema × Int) :Option (Int):=
 match x_ with
 | (s,t)=>
 g7d (⟨s.Types⟩:SSchema) >>=fun r=>
 if(!(decide (r=0)))=true then
 some r
 else
 if(bif decide (t < 0)then true else decide ((s.Types.length:Int)≤t))=true then
 some 4
 else
 some 0
theorem e52_k :KC e52:= .m (by kernel_rfl)
theorem gk0 :FC e52 g8v:= .fn e52_k (.k gmm .n) .n fun _=>by kernel_rfl
def gby(v:SValue) :Option (SValue):=
 if decide (v.Kind=1)=true then
 some (⟨v.Kind,v.Bool_,0,[],0,[],[],[]⟩:SValue)
 else
 if decide (v.Kind=2)=true then
 some (⟨v.Kind,false,v.Int_,[],0,[],[],[]⟩:SValue)
 else
 if decide (v.Kind=3)=true then
 some (⟨v.Kind,false,0,v.Str,0,[],[],[]⟩:SValue)
 else
 if decide (v.Kind=4)=true then
 some (⟨v.Kind,false,0,[],v.ID,[],[],[]⟩:SValue)
 else
 if decide (v.Kind=5)=true then
 some (⟨v.Kind,false,0,[],0,[],v.Items,v.Rest⟩:SValue)
 else
 if decide (v.Kind=6)=true then
 some (⟨v.Kind,false,0,[],v.ID,[],v.Items,v.Rest⟩:SValue)
 else
 if decide (v.Kind=8)=true then
 some (⟨v.Kind,false,0,[],0,v.Keys,v.Items,[]⟩:SValue)
 else
 some (decide (v.Kind=7)) >>=fun t57=>
 if t57=true then
 if t57=true then
 some (⟨v.Kind,false,0,[],0,[],v.Items,[]⟩:SValue)
 else
 some (⟨v.Kind,false,0,[],0,[],[],[]⟩:SValue)
 else
 if decide (v.Kind=9)=true then
 some (⟨v.Kind,false,0,[],0,[],v.Items,[]⟩:SValue)
 else
 some (⟨v.Kind,false,0,[],0,[],[],[]⟩:SValue)
theorem g102 :KC e171:= .m (by kernel_rfl)
theorem gpj :FC e171 gby:= .fn g102 .n .n fun _=>by kernel_rfl
def ga4(v:SValue) :Option (Bool):=
 gby (SValue.eta v) >>=fun r=>
 some (bif bif bif bif bif bif eqB v.Bool_ r.Bool_ then decide (v.Int_=r.Int_)else false then decide (v.Str=r.Str)else false then decide (v.ID=r.ID)else false then decide ((v.Keys.length:Int)=(r.Keys.length:Int))else false then decide ((v.Items.length:Int)=(r.Items.length:Int))else false then decide ((v.Rest.length:Int)=(r.Rest.length:Int))else false)
theorem g103 :KC e155:= .m (by kernel_rfl)
theorem gmn :FC e155 ga4:= .fn g103 (.k gpj .n) .n fun _=>by kernel_rfl
def ga5(x_:SSymbol × Int) :Option (Bool × Int):=
 match x_ with
 | (x0,b)=>
 some (decide (x0.ID=b),b)
theorem g104 :KC e153:= .m (by kernel_rfl)
theorem gis :FC e153 ga5:= .fn g104 .n .n fun _=>by kernel_rfl
def gt(x_:List SSymbol × Int × Int × Int) :Option ((Int × Int) ⊕ (Int)):=
 match x_ with
 | (s_1,t7_1,t8,b_3)=>
 if decide (t8 < t7_1)=true then
 if inR t8 s_1.length=true then
 ga5 (s_1.getD t8.toNat dSSymbol,b_3) >>=fun r=>
 if r.1=true then
 some (.inl (t8,r.2))
 else
 gt (s_1,t7_1,addI .i64 t8 1,r.2)
 else none
 else
 some (.inr b_3)
  partial_fixpoint
theorem g7e :LC 152 1 [0] gvj gt:= .rc gt.partial_correctness (.k gis .n) .n fun _ _=>by kernel_rfl
def g3y(x_:List SSymbol × Int) :Option (Int × Int):=
 match x_ with
 | (s,b)=>
 gt (s,(s.length:Int),0,b) >>=fun o=>
 match o with
 | .inl o_1=>
 some (o_1.1,o_1.2)
 | .inr o_2=>
 some ((-1),o_2)
theorem g105 :KC e152:= .m (by kernel_rfl)
theorem g7w :FC e152 g3y:= .fn g105 .n (.k g7e .n) fun _=>by kernel_rfl
def g9f(x_:SType × Int) :Option (Int × Bool):=
 match x_ with
 | (t,id)=>
 g3y (t.Symbols,id) >>=fun r=>
 some (maxI r.1 0,decide (0≤r.1))
theorem g106 :KC e129:= .m (by kernel_rfl)
theorem gld :FC e129 g9f:= .fn g106 (.k g7w .n) .n fun _=>by kernel_rfl
def ga6(id:Int) :Option (Bool):=
 some (bif decide (1≤id)then decide (id≤1000)else false)
theorem g107 :KC e156:= .m (by kernel_rfl)
theorem gi6 :FC e156 ga6:= .fn g107 .n .n fun _=>by kernel_rfl
def ga7(x_:SMember × Int) :Option (Bool × Int):=
 match x_ with
 | (m,b)=>
 some (decide (m.ID=b),b)
theorem g108 :KC e126:= .m (by kernel_rfl)
theorem git :FC e126 ga7:= .fn g108 .n .n fun _=>by kernel_rfl
def gx(x_:List SMember × Int × Int × Int) :Option ((Int × Int) ⊕ (Int)):=
 match x_ with
 | (s_1,t7_1,t8,b_3)=>
 if decide (t8 < t7_1)=true then
 if inR t8 s_1.length=true then
 some (s_1.getD t8.toNat dSMember) >>=fun x0=>
 ga7 ((⟨x0.ID,x0.Name,x0.Type_,x0.Critical,x0.HasDefault,SValue.eta x0.Default⟩:SMember),b_3) >>=fun r=>
 if r.1=true then
 some (.inl (t8,r.2))
 else
 gx (s_1,t7_1,addI .i64 t8 1,r.2)
 else none
 else
 some (.inr b_3)
  partial_fixpoint
theorem g7f :LC 125 1 [0] gvk gx:= .rc gx.partial_correctness (.k git .n) .n fun _ _=>by kernel_rfl
def g3z(x_:List SMember × Int) :Option (Int × Int):=
 match x_ with
 | (s,b)=>
 gx (s,(s.length:Int),0,b) >>=fun o=>
 match o with
 | .inl o_1=>
 some (o_1.1,o_1.2)
 | .inr o_2=>
 some ((-1),o_2)
theorem g109 :KC e125:= .m (by kernel_rfl)
theorem g7x :FC e125 g3z:= .fn g109 .n (.k g7f .n) fun _=>by kernel_rfl
def g3n(x_:SType × Int) :Option (Int × Bool):=
 match x_ with
 | (t,id)=>
 g3z (t.Members,id) >>=fun r=>
 some (maxI r.1 0,decide (0≤r.1))
theorem e82_k :KC e82:= .m (by kernel_rfl)
theorem ga8 :FC e82 g3n:= .fn e82_k (.k g7x .n) .n fun _=>by kernel_rfl
end
section
open Go Go.Proofs.YthnmepafpikaiaaGreat.Shv
open Tryz
set_option maxRecDepth 100000
def g2x(x_:Bool × List SRaw × Int × Int × List SType × SValue × Int × List UInt8 × Int × Int × Int × List SSymbol × List SMember × Int × Int × Bool) :Option ((Bool) ⊕ (Bool × List SType × Int × Bool × Int × List UInt8 × Int × List SValue × List SValue × List SRaw × Int × List UInt8 × Int × Int × Int × List SSymbol × List SMember × Int × Int × Bool)):=
 match x_ with
 | (plain_3,t111,t112_1,t113,b_31,b_32,b_33,b_34,b_35,b_36,b_37,b_38,b_39,b_40,b_41,b_42)=>
 if decide (t113 < t112_1)=true then
 if inR t113 t111.length=true then
 some (t111.getD t113.toNat dSRaw) >>=fun x0_4=>
 g3n ((⟨b_33,b_34,b_35,b_36,b_37,b_38,b_39,b_40,b_41,b_42⟩:SType),x0_4.ID) >>=fun r_14=>
 (if(!r_14.2)=true then ga6 x0_4.ID else some false) >>=fun r_17=>
 some (bif r_14.2 then true else(!r_17)) >>=fun t131=>
 some (decide (0 < t113)) >>=fun t134=>
 some (subI .i64 t113 1) >>=fun t141=>
 if(inR t141 b_32.Rest.length || (!((!t131) && t134)))=true then
 if(bif t131 then true else bif t134 then decide (x0_4.ID≤(b_32.Rest.getD t141.toNat dSRaw).ID)else false)=true then
 some (.inl false)
 else
 g2x (plain_3,t111,t112_1,addI .i64 t113 1,b_31,SValue.eta b_32,b_33,b_34,b_35,b_36,b_37,b_38,b_39,b_40,b_41,b_42)
 else none
 else none
 else
 some (.inr (plain_3,b_31,b_32.Kind,b_32.Bool_,b_32.Int_,b_32.Str,b_32.ID,b_32.Keys,b_32.Items,b_32.Rest,b_33,b_34,b_35,b_36,b_37,b_38,b_39,b_40,b_41,b_42))
  partial_fixpoint
theorem gle :LC 132 0 [0] gvm g2x:= .rc g2x.partial_correctness (.k ga8 (.k gi6 .n)) .n fun _ _=>by kernel_rfl
def gdw(x0:Int) :Option (Bool):=
 some (!(decide (x0=x0)))
theorem g10a :KC e190:= .m (by kernel_rfl)
theorem gr6 :FC e190 gdw:= .fn g10a .n .n fun _=>by kernel_rfl
def gb0(x_:Int × Int) :Option (Int):=
 match x_ with
 | (x0,y)=>
 gdw x0 >>=fun r=>
 gdw y >>=fun r_1=>
 if r=true then
 if r_1=true then
 some 0
 else
 some (-1)
 else
 if r_1=true then
 some 1
 else
 if decide (x0 < y)=true then
 some (-1)
 else
 if decide (y < x0)=true then
 some 1
 else
 some 0
theorem g10b :KC e174:= .m (by kernel_rfl)
theorem go4 :FC e174 gb0:= .fn g10b (.k gr6 .n) .n fun _=>by kernel_rfl
def gb1(x0:Int) :Option (Bool):=
 some (!(decide (x0=x0)))
theorem g10c :KC e162:= .m (by kernel_rfl)
theorem go5 :FC e162 gb1:= .fn g10c .n .n fun _=>by kernel_rfl
def g7y(x_:Int × Int) :Option (Int):=
 match x_ with
 | (x0,y)=>
 gb1 x0 >>=fun r=>
 gb1 y >>=fun r_1=>
 if r=true then
 if r_1=true then
 some 0
 else
 some (-1)
 else
 if r_1=true then
 some 1
 else
 if decide (x0 < y)=true then
 some (-1)
 else
 if decide (y < x0)=true then
 some 1
 else
 some 0
theorem g10d :KC e136:= .m (by kernel_rfl)
theorem glf :FC e136 g7y:= .fn g10d (.k go5 .n) .n fun _=>by kernel_rfl
def gb2(x0:List UInt8) :Option (Bool):=
 some (!(decide (x0=x0)))
theorem g10e :KC e191:= .m (by kernel_rfl)
theorem go6 :FC e191 gb2:= .fn g10e .n .n fun _=>by kernel_rfl
def g9g(x_:List UInt8 × List UInt8) :Option (Int):=
 match x_ with
 | (x0,y)=>
 gb2 x0 >>=fun r=>
 gb2 y >>=fun r_1=>
 if r=true then
 if r_1=true then
 some 0
 else
 some (-1)
 else
 if r_1=true then
 some 1
 else
 if Op.bytesLess x0 y=true then
 some (-1)
 else
 if(!(Op.bytesLess x0 y || decide (x0=y)))=true then
 some 1
 else
 some 0
theorem g10f :KC e176:= .m (by kernel_rfl)
theorem glg :FC e176 g9g:= .fn g10f (.k go6 .n) .n fun _=>by kernel_rfl
def g5z(x_:Int × List Int × Int × Int) :Option ((Int) ⊕ (Int)):=
 match x_ with
 | (zero_1,t6,t7_1,t8)=>
 if decide (t8 < t7_1)=true then
 if inR t8 t6.length=true then
 some (t6.getD t8.toNat 0) >>=fun x0=>
 if(!(decide (x0=zero_1)))=true then
 some (.inl x0)
 else
 g5z (zero_1,t6,t7_1,addI .i64 t8 1)
 else none
 else
 some (.inr zero_1)
  partial_fixpoint
theorem gr7 :LC 175 0 [0] gvl g5z:= .rc g5z.partial_correctness .n .n fun _ _=>by kernel_rfl
def glh(vals:List Int) :Option (Int):=
 g5z (0,vals,(vals.length:Int),0) >>=fun o=>
 match o with
 | .inl o_1=>
 some o_1
 | .inr o_2=>
 some o_2
theorem g10g :KC e175:= .m (by kernel_rfl)
theorem gxf :FC e175 glh:= .fn g10g .n (.k gr7 .n) fun _=>by kernel_rfl
def g6g(n:Int) :Option (Int):=
 some (xorI .u64 (shlI .u64 (wrp .u64 n) 1) (wrp .u64 (shrI .i64 n 63)))
theorem e97_k :KC e97:= .m (by kernel_rfl)
theorem gdx :FC e97 g6g:= .fn e97_k .n .n fun _=>by kernel_rfl
def g5q(x_:SValue × SValue) :Option (Int):=
 match x_ with
 | (a,b)=>
 if(!(decide (a.Kind=b.Kind)))=true then
 some 0
 else
 if decide (a.Kind=1)=true then
 if eqB a.Bool_ b.Bool_=true then
 some 0
 else
 if b.Bool_=true then
 some (-1)
 else
 some 1
 else
 if decide (a.Kind=2)=true then
 g6g a.Int_ >>=fun r=>
 g6g b.Int_ >>=fun r_1=>
 gb0 (r,r_1) >>=fun r_2=>
 some r_2
 else
 if decide (a.Kind=3)=true then
 g7y ((a.Str.length:Int),(b.Str.length:Int)) >>=fun r_3=>
 g9g (a.Str,b.Str) >>=fun r_4=>
 glh [r_3,r_4] >>=fun r_5=>
 some r_5
 else
 if decide (a.Kind=4)=true then
 g7y (a.ID,b.ID) >>=fun r_6=>
 some r_6
 else
 some 0
theorem g10h :KC e158:= .m (by kernel_rfl)
theorem gli :FC e158 g5q:= .fn g10h (.k gdx (.k go4 (.k glf (.k glg (.k gxf .n))))) .n fun _=>by kernel_rfl
def g2n(x_:Bool × Int × List SType × SValue × Int × List UInt8 × Int × Int × Int × List SSymbol × List SMember × Int × Int × Bool) :Option ((Bool) ⊕ (Bool × List SType × SValue × Int × List UInt8 × Int × Int × Int × List SSymbol × List SMember × Int × Int × Bool)):=
 match x_ with
 | (plain_5,i,b_52,b_53,b_54,b_55,b_56,b_57,b_58,b_59,b_60,b_61,b_62,b_63)=>
 if decide (i < (b_53.Keys.length:Int))=true then
 some (subI .i64 i 1) >>=fun t291=>
 if inR t291 b_53.Keys.length=true then
 if inR i b_53.Keys.length=true then
 g5q (SValue.eta (b_53.Keys.getD t291.toNat dSValue),SValue.eta (b_53.Keys.getD i.toNat dSValue)) >>=fun r_19=>
 if decide (0≤r_19)=true then
 some (.inl false)
 else
 g2n (plain_5,addI .i64 i 1,b_52,SValue.eta b_53,b_54,b_55,b_56,b_57,b_58,b_59,b_60,b_61,b_62,b_63)
 else none
 else none
 else
 some (.inr (plain_5,b_52,SValue.eta b_53,b_54,b_55,b_56,b_57,b_58,b_59,b_60,b_61,b_62,b_63))
  partial_fixpoint
theorem glj :LC 132 0 [2] gvn g2n:= .rc g2n.partial_correctness (.k gli .n) .n fun _ _=>by kernel_rfl
mutual
def g2p(x_:List SValue × List SType × Int × Bool) :Option (Bool × List SType × Int × Bool):=
 match x_ with
 | (s,b,b_1,b_2)=>
 g48 (s,b,b_1,b_2) >>=fun r=>
 some (decide (0≤r.1),r.2.1,r.2.2.1,r.2.2.2)
  partial_fixpoint
def g48(x_:List SValue × List SType × Int × Bool) :Option (Int × List SType × Int × Bool):=
 match x_ with
 | (s,b,b_1,b_2)=>
 g14 (s,(s.length:Int),0,b,b_1,b_2) >>=fun o=>
 match o with
 | .inl o_1=>
 some (o_1.1,o_1.2.1,o_1.2.2.1,o_1.2.2.2)
 | .inr o_2=>
 some ((-1),o_2.1,o_2.2.1,o_2.2.2)
  partial_fixpoint
def g5x(x_:SSchema × Int × List SValue × Bool) :Option (Bool):=
 match x_ with
 | (s,t,l,plain)=>
 g2p (l,s.Types,t,plain) >>=fun r=>
 some (!r.1)
  partial_fixpoint
def gd5(x_:SValue × List SType × Int × Bool) :Option (Bool × List SType × Int × Bool):=
 match x_ with
 | (v,b,b_1,b_2)=>
 g3l ((⟨b⟩:SSchema),b_1,SValue.eta v,b_2) >>=fun r=>
 some ((!r),b,b_1,b_2)
  partial_fixpoint
def g3l(x_:SSchema × Int × SValue × Bool) :Option (Bool):=
 match x_ with
 | (s,t,v,plain)=>
 if(bif decide (t < 0)then true else decide ((s.Types.length:Int)≤t))=true then
 some false
 else
 if inR t s.Types.length=true then
 some (s.Types.getD t.toNat dSType) >>=fun x0=>
 some (!(decide (v.Kind=x0.Kind))) >>=fun t39=>
 (if(!t39)=true then ga4 (SValue.eta v)else some false) >>=fun r=>
 if(bif t39 then true else(!r))=true then
 some false
 else
 if decide (x0.Kind=2)=true then
 some (bif decide (x0.Low≤v.Int_)then decide (v.Int_≤x0.High)else false)
 else
 if decide (x0.Kind=3)=true then
 some (decide ((v.Str.length:Int)≤x0.Max))
 else
 if decide (x0.Kind=4)=true then
 g9f (x0,v.ID) >>=fun r_1=>
 some (bif x0.Open then(!plain)else false) >>=fun t85=>
 (if((!r_1.2) && t85)=true then ga6 v.ID else some false) >>=fun r_4=>
 some (bif r_1.2 then true else bif t85 then r_4 else false)
 else
 if decide (x0.Kind=5)=true then
 if(bif (!(decide ((v.Items.length:Int)=(x0.Members.length:Int))))then true else bif plain then decide (0 < (v.Rest.length:Int))else false)=true then
 some false
 else
 g2x (plain,v.Rest,(v.Rest.length:Int),0,s.Types,SValue.eta v,x0.Kind,x0.Name,x0.Low,x0.High,x0.Max,x0.Symbols,x0.Members,x0.Key,x0.Elem,x0.Open) >>=fun o=>
 match o with
 | .inl o_1=>
 some o_1
 | .inr o_2=>
 g3a (o_2.1,o_2.2.2.2.2.2.2.2.2.2.2.2.2.2.2.2.2.1,(o_2.2.2.2.2.2.2.2.2.2.2.2.2.2.2.2.2.1.length:Int),0,o_2.2.1,o_2.2.2.1,o_2.2.2.2.1,o_2.2.2.2.2.1,o_2.2.2.2.2.2.1,o_2.2.2.2.2.2.2.1,o_2.2.2.2.2.2.2.2.1,o_2.2.2.2.2.2.2.2.2.1,o_2.2.2.2.2.2.2.2.2.2.1) >>=fun o_3=>
 match o_3 with
 | .inl o_4=>
 some o_4
 | .inr o_5=>
 some true
 else
 if decide (x0.Kind=6)=true then
 g3n (x0,v.ID) >>=fun r_5=>
 if r_5.2=true then
 some (bif decide ((v.Items.length:Int)=1)then decide ((v.Rest.length:Int)=0)else false) >>=fun t188=>
 if(inR r_5.1 x0.Members.length || (!t188))=true then
 if(inR 0 v.Items.length || (!t188))=true then
 (if t188=true then g3l ((⟨s.Types⟩:SSchema),(x0.Members.getD r_5.1.toNat dSMember).Type_,SValue.eta (v.Items.getD (0:Int).toNat dSValue),plain)else some false) >>=fun r_8=>
 some (bif t188 then r_8 else false)
 else none
 else none
 else
 some (bif x0.Open then(!plain)else false) >>=fun t209=>
 (if t209=true then ga6 v.ID else some false) >>=fun r_9=>
 some (bif bif bif t209 then r_9 else false then decide ((v.Items.length:Int)=0)else false then decide ((v.Rest.length:Int)=1)else false) >>=fun t226=>
 if(inR 0 v.Rest.length || (!t226))=true then
 some (bif t226 then decide ((v.Rest.getD (0:Int).toNat dSRaw).ID=v.ID)else false)
 else none
 else
 if decide (x0.Kind=7)=true then
 some (decide ((v.Items.length:Int)≤x0.Max)) >>=fun t244=>
 (if t244=true then g5x ((⟨s.Types⟩:SSchema),x0.Elem,v.Items,plain)else some false) >>=fun r_10=>
 some (bif t244 then r_10 else false)
 else
 if decide (x0.Kind=8)=true then
 some (bif decide (x0.Max < (v.Keys.length:Int))then true else(!(decide ((v.Items.length:Int)=(v.Keys.length:Int))))) >>=fun t270=>
 (if(!t270)=true then g5x ((⟨s.Types⟩:SSchema),x0.Key,v.Keys,plain)else some false) >>=fun r_11=>
 if(bif t270 then true else(!r_11))=true then
 some false
 else
 g2n (plain,1,s.Types,SValue.eta v,x0.Kind,x0.Name,x0.Low,x0.High,x0.Max,x0.Symbols,x0.Members,x0.Key,x0.Elem,x0.Open) >>=fun o_6=>
 match o_6 with
 | .inl o_7=>
 some o_7
 | .inr o_8=>
 g5x ((⟨o_8.2.1⟩:SSchema),o_8.2.2.2.2.2.2.2.2.2.2.2.1,o_8.2.2.1.Items,o_8.1) >>=fun r_12=>
 some r_12
 else
 if decide (x0.Kind=9)=true then
 some (decide ((v.Items.length:Int)≤1)) >>=fun t313=>
 (if t313=true then g5x ((⟨s.Types⟩:SSchema),x0.Elem,v.Items,plain)else some false) >>=fun r_13=>
 some (bif t313 then r_13 else false)
 else
 some true
 else none
  partial_fixpoint
def g14(x_:List SValue × Int × Int × List SType × Int × Bool) :Option ((Int × List SType × Int × Bool) ⊕ (List SType × Int × Bool)):=
 match x_ with
 | (s_1,t7_1,t8,b_9,b_10,b_11)=>
 if decide (t8 < t7_1)=true then
 if inR t8 s_1.length=true then
 gd5 (SValue.eta (s_1.getD t8.toNat dSValue),b_9,b_10,b_11) >>=fun r=>
 if r.1=true then
 some (.inl (t8,r.2.1,r.2.2.1,r.2.2.2))
 else
 g14 (s_1,t7_1,addI .i64 t8 1,r.2.1,r.2.2.1,r.2.2.2)
 else none
 else
 some (.inr (b_9,b_10,b_11))
  partial_fixpoint
def g3a(x_:Bool × List SMember × Int × Int × List SType × Int × Bool × Int × List UInt8 × Int × List SValue × List SValue × List SRaw) :Option ((Bool) ⊕ (Unit)):=
 match x_ with
 | (plain_4,t150,t151_1,t152,b_43,b_44,b_45,b_46,b_47,b_48,b_49,b_50,b_51)=>
 if decide (t152 < t151_1)=true then
 if inR t152 t150.length=true then
 if inR t152 b_50.length=true then
 g3l ((⟨b_43⟩:SSchema),(t150.getD t152.toNat dSMember).Type_,SValue.eta (b_50.getD t152.toNat dSValue),plain_4) >>=fun r_18=>
 if(!r_18)=true then
 some (.inl false)
 else
 g3a (plain_4,t150,t151_1,addI .i64 t152 1,b_43,b_44,b_45,b_46,b_47,b_48,b_49,b_50,b_51)
 else none
 else none
 else
 some (.inr ())
  partial_fixpoint
end
theorem gvq :KC e172:= .m (by kernel_rfl)
theorem gvr :KC e189:= .m (by kernel_rfl)
theorem gvs :KC e173:= .m (by kernel_rfl)
theorem gi7 :KC e132:= .m (by kernel_rfl)
theorem gvt :KC e157:= .m (by kernel_rfl)
theorem g7g :(∀h r,g2p h=some r→FD e172 h r)∧(∀h r,g48 h=some r→FD e189 h r)∧(∀h r,g14 h=some r→LD 189 3 [0] gi2 h r)∧(∀h r,gd5 h=some r→FD e173 h r)∧(∀h r,g3l h=some r→FD e132 h r)∧(∀h r,g5x h=some r→FD e157 h r)∧(∀h r,g3a h=some r→LD 132 0 [1] gi3 h r):=g2p.mutual_partial_correctness (FD e172) (FD e189) (LD 189 3 [0] gi2) (FD e173) (FD e132) (FD e157) (LD 132 0 [1] gi3)
 (fun _ h1 _ _ h=>FA e172 gvq (.k (FH e189 gvr h1) .n) .n (.trans (by kernel_rfl) h))
 (fun _ h2 _ _ h=>FA e189 gvr .n (.k (LH gi2 h2) .n) (.trans (by kernel_rfl) h))
 (fun _ _ h2 h3 _ _ h=>LA gi2 h2 (.k (FH e173 gvs h3) .n) .n (.trans (by kernel_rfl) h))
 (fun _ h4 _ _ h=>FA e173 gvs (.k (FH e132 gi7 h4) .n) .n (.trans (by kernel_rfl) h))
 (fun _ _ _ h4 h5 h6 _ _ h=>FA e132 gi7 (.k gmn (.k gld (.k gi6 (.k ga8 (.k (FH e132 gi7 h4) (.k (FH e157 gvt h5) .n)))))) (.k gle (.k (LH gi3 h6) (.k glj .n))) (.trans (by kernel_rfl) h))
 (fun _ h0 _ _ h=>FA e157 gvt (.k (FH e172 gvq h0) .n) .n (.trans (by kernel_rfl) h))
 (fun _ _ h4 h6 _ _ h=>LA gi3 h6 (.k (FH e132 gi7 h4) .n) .n (.trans (by kernel_rfl) h))
theorem gpk :FC e132 g3l:= .of gi7 g7g.2.2.2.2.1
end
section
open Go Go.Proofs.YthnmepafpikaiaaGreat.Shv
open Tryz
set_option maxRecDepth 100000
def g8w(x_:SSchema × Int × SValue) :Option (Bool):=
 match x_ with
 | (s,t,v)=>
 g3l ((⟨s.Types⟩:SSchema),t,SValue.eta v,false) >>=fun r=>
 some r
theorem e95_k :KC e95:= .m (by kernel_rfl)
theorem gpl :FC e95 g8w:= .fn e95_k (.k gpk .n) .n fun _=>by kernel_rfl
def g3q(x_:SSchema × Int × SValue) :Option (Int):=
 match x_ with
 | (s,t,v)=>
 g8v ((⟨s.Types⟩:SSchema),t) >>=fun r=>
 if(!(decide (r=0)))=true then
 some r
 else
 g8w ((⟨s.Types⟩:SSchema),t,SValue.eta v) >>=fun r_1=>
 if(!r_1)=true then
 some 1
 else
 some 0
theorem e56_k :KC e56:= .m (by kernel_rfl)
theorem gk1 :FC e56 g3q:= .fn e56_k (.k gk0 (.k gpl .n)) .n fun _=>by kernel_rfl
def g5r(x_:Int × Int × List Int) :Option (Int × List Int):=
 match x_ with
 | (n_1,i_1,b_1)=>
 if decide (0 < n_1)=true then
 some (subI .i64 i_1 1) >>=fun t10=>
 if inR t10 8=true then
 if decide (t10.toNat < b_1.length)=true then
 g5r (shrI .u64 n_1 8,t10,b_1.set t10.toNat (wrp .u8 n_1))
 else none
 else none
 else
 some (i_1,b_1)
  partial_fixpoint
theorem glk :LC 96 0 [0] e96_0 g5r:= .rc g5r.partial_correctness .n .n fun _ _=>by kernel_rfl
def ga9(n:Int) :Option (List UInt8):=
 g5r (n,8,[0,0,0,0,0,0,0,0]) >>=fun o=>
 if slR o.1 8 8=true then
 if subR o.1.toNat ((8:Int).toNat - o.1.toNat) o.2.length=true then
 some (strOf ((o.2.drop o.1.toNat).take ((8:Int).toNat - o.1.toNat)))
 else none
 else none
theorem e96_k :KC e96:= .m (by kernel_rfl)
theorem gpm :FC e96 ga9:= .fn e96_k .n (.k glk .n) fun _=>by kernel_rfl
mutual
def gy(x_:List SValue × List SValue) :Option (Bool):=
 match x_ with
 | (s1,s2)=>
 if(!(decide ((s1.length:Int)=(s2.length:Int))))=true then
 some false
 else
 gu (s2,s1,(s1.length:Int),0) >>=fun o=>
 match o with
 | .inl o_1=>
 some o_1
 | .inr o_2=>
 some true
  partial_fixpoint
def g6z(x_:SValue × SValue) :Option (Bool):=
 match x_ with
 | (a,b)=>
 some (bif bif bif bif decide (a.Kind=b.Kind)then eqB a.Bool_ b.Bool_ else false then decide (a.Int_=b.Int_)else false then decide (a.Str=b.Str)else false then decide (a.ID=b.ID)else false) >>=fun t37=>
 (if t37=true then g3h (a.Rest,b.Rest)else some false) >>=fun r=>
 some (bif t37 then r else false) >>=fun t44=>
 (if t44=true then gy (a.Keys,b.Keys)else some false) >>=fun r_1=>
 some (bif t44 then r_1 else false) >>=fun t51=>
 (if t51=true then gy (a.Items,b.Items)else some false) >>=fun r_2=>
 some (bif t51 then r_2 else false)
  partial_fixpoint
def gu(x_:List SValue × List SValue × Int × Int) :Option ((Bool) ⊕ (Unit)):=
 match x_ with
 | (s2_1,t15,t16_1,t17)=>
 if decide (t17 < t16_1)=true then
 if inR t17 t15.length=true then
 if inR t17 s2_1.length=true then
 g6z (SValue.eta (t15.getD t17.toNat dSValue),SValue.eta (s2_1.getD t17.toNat dSValue)) >>=fun r=>
 if(!r)=true then
 some (.inl false)
 else
 gu (s2_1,t15,t16_1,addI .i64 t17 1)
 else none
 else none
 else
 some (.inr ())
  partial_fixpoint
end
theorem gpn :KC gf9:= .m (by kernel_rfl)
theorem gpo :KC e159:= .m (by kernel_rfl)
theorem g51 :(∀h r,gy h=some r→FD gf9 h r)∧(∀h r,gu h=some r→LD 178 0 [0] gd3 h r)∧(∀h r,g6z h=some r→FD e159 h r):=gy.mutual_partial_correctness (FD gf9) (LD 178 0 [0] gd3) (FD e159)
 (fun _ h1 _ _ h=>FA gf9 gpn .n (.k (LH gd3 h1) .n) (.trans (by kernel_rfl) h))
 (fun _ _ h1 h2 _ _ h=>LA gd3 h1 (.k (FH e159 gpo h2) .n) .n (.trans (by kernel_rfl) h))
 (fun _ h0 _ _ h=>FA e159 gpo (.k g71 (.k (FH gf9 gpn h0) .n)) .n (.trans (by kernel_rfl) h))
theorem go7 :FC e159 g6z:= .of gpo g51.2.2
def g8x(x_:SMember × SValue) :Option (Bool):=
 match x_ with
 | (m,v)=>
 (if m.HasDefault=true then g6z (SValue.eta m.Default,SValue.eta v)else some false) >>=fun r=>
 some (bif m.HasDefault then r else false)
theorem g10i :KC e133:= .m (by kernel_rfl)
theorem gk2 :FC e133 g8x:= .fn g10i (.k go7 .n) .n fun _=>by kernel_rfl
def g5s(x_:Int × Int × List Int) :Option (Int × Int × List Int):=
 match x_ with
 | (n_2,i_1,b_1)=>
 if decide (128≤n_2)=true then
 if inR i_1 10=true then
 if decide (i_1.toNat < b_1.length)=true then
 g5s (shrI .u64 n_2 7,addI .i64 i_1 1,b_1.set i_1.toNat (orI .u8 (wrp .u8 n_2) 128))
 else none
 else none
 else
 some (n_2,i_1,b_1)
  partial_fixpoint
theorem gll :LC 113 0 [0] gvo g5s:= .rc g5s.partial_correctness .n .n fun _ _=>by kernel_rfl
def g7o(n:Int) :Option (List UInt8):=
 g5s (n,0,[0,0,0,0,0,0,0,0,0,0]) >>=fun o=>
 if inR o.2.1 10=true then
 if decide (o.2.1.toNat < o.2.2.length)=true then
 some (o.2.2.set o.2.1.toNat (wrp .u8 o.1)) >>=fun l_1=>
 some (addI .i64 o.2.1 1) >>=fun t21=>
 if slR 0 t21 10=true then
 if subR (0:Int).toNat t21.toNat l_1.length=true then
 some (strOf ((l_1.drop (0:Int).toNat).take t21.toNat))
 else none
 else none
 else none
 else none
theorem g10j :KC e113:= .m (by kernel_rfl)
theorem gd6 :FC e113 g7o:= .fn g10j .n (.k gll .n) fun _=>by kernel_rfl
def g5j(p:List UInt8) :Option (List UInt8):=
 g7o (wrp .u64 (p.length:Int)) >>=fun r=>
 if decide (r.length+p.length≤g22)=true then
 some (r++p)
 else none
theorem g10k :KC e100:= .m (by kernel_rfl)
theorem gfb :FC e100 g5j:= .fn g10k (.k gd6 .n) .n fun _=>by kernel_rfl
def g8f(x_:Int × Bool × List UInt8) :Option (List UInt8):=
 match x_ with
 | (id,critical,p)=>
 some (mulI .u64 2 (wrp .u64 id)) >>=fun t10=>
 if critical=true then
 g7o (addI .u64 t10 1) >>=fun r=>
 g5j p >>=fun r_1=>
 if decide (r.length+r_1.length≤g22)=true then
 some (r++r_1)
 else none
 else
 g7o t10 >>=fun r_2=>
 g5j p >>=fun r_3=>
 if decide (r_2.length+r_3.length≤g22)=true then
 some (r_2++r_3)
 else none
theorem e68_k :KC e68:= .m (by kernel_rfl)
theorem gfc :FC e68 g8f:= .fn e68_k (.k gd6 (.k gfb .n)) .n fun _=>by kernel_rfl
def g23(x_:List UInt8 × List UInt8) :Option (Int × List UInt8):=
 match x_ with
 | (s,b)=>
 some b >>=fun r=>
 if(decide (r.length=b.length) && true)=true then
 if room 1 (r.length+s.length)=true then
 some ((s.length:Int),catS r s)
 else none
 else none
theorem e73_k :KC e73:= .m (by kernel_rfl)
theorem g72 :FC e73 g23:= .fn e73_k (.k gdv .n) .n fun _=>by kernel_rfl
def g4k(b:List UInt8) :Option (List UInt8):=
 if eqI (b.length:Int) (b.length:Int)=true then
 some b
 else none
theorem e75_k :KC e75:= .m (by kernel_rfl)
theorem g8g :FC e75 g4k:= .fn e75_k .n .n fun _=>by kernel_rfl
end
section
open Go Go.Proofs.YthnmepafpikaiaaGreat.Shv
open Tryz
set_option maxRecDepth 100000
def g2a(x_:List SRaw × Int × Int × List SType × Int × List EncodeEntry) :Option (List SType × Int × List EncodeEntry):=
 match x_ with
 | (t57,t58_1,t59,b_16,b_17,b_18)=>
 if decide (t59 < t58_1)=true then
 if inR t59 t57.length=true then
 some (t57.getD t59.toNat dSRaw) >>=fun x0_4=>
 g8f (x0_4.ID,false,x0_4.Data) >>=fun r_8=>
 some [(⟨x0_4.ID,r_8⟩:EncodeEntry)] >>=fun t72=>
 if room 24 (b_18++t72).length=true then
 g2a (t57,t58_1,addI .i64 t59 1,b_16,b_17,b_18++t72)
 else none
 else none
 else
 some (b_16,b_17,b_18)
  partial_fixpoint
theorem gbz :LC 98 1 [1] e98_1 g2a:= .rc g2a.partial_correctness (.k gfc .n) .n fun _ _=>by kernel_rfl
def g2b(x_:Int × Int × List SType × Int × List EncodeEntry × List UInt8) :Option (List SType × Int × List UInt8):=
 match x_ with
 | (t78_1,t79,b_19,b_20,b_21,b_22)=>
 if decide (t79 < t78_1)=true then
 if inR t79 b_21.length=true then
 if decide (t79.toNat < b_21.length)=true then
 g23 ((b_21.getD t79.toNat dEncodeEntry).text,b_22) >>=fun r_9=>
 g2b (t78_1,addI .i64 t79 1,b_19,b_20,b_21,r_9.2)
 else none
 else none
 else
 some (b_19,b_20,b_22)
  partial_fixpoint
theorem gc0 :LC 98 1 [2] e98_2 g2b:= .rc g2b.partial_correctness (.k g72 .n) .n fun _ _=>by kernel_rfl
mutual
def g19(x_:Int × SValue × Int × List SType × Int) :Option (List UInt8 × List SType × Int):=
 match x_ with
 | (t,v,level,b,b_1)=>
 some (maxI b_1 level) >>=fun t19=>
 if inR t b.length=true then
 some (b.getD t.toNat dSType) >>=fun x0=>
 if decide (x0.Kind=1)=true then
 if v.Bool_=true then
 some ([1],b,t19)
 else
 some ([],b,t19)
 else
 if decide (x0.Kind=2)=true then
 g6g v.Int_ >>=fun r=>
 ga9 r >>=fun r_1=>
 some (r_1,b,t19)
 else
 if decide (x0.Kind=3)=true then
 some (v.Str,b,t19)
 else
 if decide (x0.Kind=4)=true then
 ga9 (wrp .u64 v.ID) >>=fun r_2=>
 some (r_2,b,t19)
 else
 if decide (x0.Kind=5)=true then
 g5y (x0,SValue.eta v,level,b,t19) >>=fun r_3=>
 some (r_3.1,r_3.2.1,r_3.2.2)
 else
 if decide (x0.Kind=6)=true then
 g57 (x0,SValue.eta v,level,b,t19) >>=fun r_7=>
 some (r_7.1,r_7.2.1,r_7.2.2)
 else
 if decide (x0.Kind=9)=true then
 if decide ((v.Items.length:Int)=0)=true then
 some ([],b,t19)
 else
 if inR 0 v.Items.length=true then
 g19 (x0.Elem,SValue.eta (v.Items.getD (0:Int).toNat dSValue),addI .i64 level 1,b,t19) >>=fun r_11=>
 if decide ([1].length+r_11.1.length≤g22)=true then
 some ([1]++r_11.1,r_11.2.1,r_11.2.2)
 else none
 else none
 else
 g1a (level,v.Items,(v.Items.length:Int),0,b,t19,SValue.eta v,x0,[]) >>=fun o=>
 g4k o.2.2 >>=fun r_15=>
 some (r_15,o.1,o.2.1)
 else none
  partial_fixpoint
def g5y(x_:SType × SValue × Int × List SType × Int) :Option (List UInt8 × List SType × Int):=
 match x_ with
 | (x0,v,level,b,b_1)=>
 g2c (level,x0.Members,(x0.Members.length:Int),0,b,b_1,SValue.eta v,[]) >>=fun o=>
 g2a (o.2.2.1.Rest,(o.2.2.1.Rest.length:Int),0,o.1,o.2.1,o.2.2.2) >>=fun o_1=>
 gi1 o_1.2.2 >>=fun r=>
 if(decide (r.length=o_1.2.2.length) && true)=true then
 g2b ((r.length:Int),0,o_1.1,o_1.2.1,r,[]) >>=fun o_2=>
 g4k o_2.2.2 >>=fun r_1=>
 some (r_1,o_2.1,o_2.2.1)
 else none
  partial_fixpoint
def g57(x_:SType × SValue × Int × List SType × Int) :Option (List UInt8 × List SType × Int):=
 match x_ with
 | (x0,v,level,b,b_1)=>
 g7o (wrp .u64 v.ID) >>=fun r=>
 g3n (x0,v.ID) >>=fun r_1=>
 if(!r_1.2)=true then
 if inR 0 v.Rest.length=true then
 some (v.Rest.getD (0:Int).toNat dSRaw) >>=fun x0_1=>
 if decide (r.length+x0_1.Data.length≤g22)=true then
 some (r++x0_1.Data,b,b_1)
 else none
 else none
 else
 if inR r_1.1 x0.Members.length=true then
 if inR 0 v.Items.length=true then
 g19 ((x0.Members.getD r_1.1.toNat dSMember).Type_,SValue.eta (v.Items.getD (0:Int).toNat dSValue),addI .i64 level 1,b,b_1) >>=fun r_4=>
 if decide (r.length+r_4.1.length≤g22)=true then
 some (r++r_4.1,r_4.2.1,r_4.2.2)
 else none
 else none
 else none
  partial_fixpoint
def g1a(x_:Int × List SValue × Int × Int × List SType × Int × SValue × SType × List UInt8) :Option (List SType × Int × List UInt8):=
 match x_ with
 | (level_1,t84,t85_1,t86,b_5,b_6,b_7,b_8,b_9)=>
 if decide (t86 < t85_1)=true then
 if inR t86 t84.length=true then
 some (t84.getD t86.toNat dSValue) >>=fun x0_2=>
 if decide (b_8.Kind=8)=true then
 if inR t86 b_7.Keys.length=true then
 g19 (b_8.Key,SValue.eta (b_7.Keys.getD t86.toNat dSValue),addI .i64 level_1 1,b_5,b_6) >>=fun r_16=>
 g5j r_16.1 >>=fun r_20=>
 g23 (r_20,b_9) >>=fun r_21=>
 g19 (b_8.Elem,SValue.eta x0_2,addI .i64 level_1 1,r_16.2.1,r_16.2.2) >>=fun r_24=>
 g5j r_24.1 >>=fun r_28=>
 g23 (r_28,r_21.2) >>=fun r_29=>
 g1a (level_1,t84,t85_1,addI .i64 t86 1,r_24.2.1,r_24.2.2,SValue.eta b_7,b_8,r_29.2)
 else none
 else
 g19 (b_8.Elem,SValue.eta x0_2,addI .i64 level_1 1,b_5,b_6) >>=fun r_32=>
 g5j r_32.1 >>=fun r_36=>
 g23 (r_36,b_9) >>=fun r_37=>
 g1a (level_1,t84,t85_1,addI .i64 t86 1,r_32.2.1,r_32.2.2,SValue.eta b_7,b_8,r_37.2)
 else none
 else
 some (b_5,b_6,b_9)
  partial_fixpoint
def g2c(x_:Int × List SMember × Int × Int × List SType × Int × SValue × List EncodeEntry) :Option (List SType × Int × SValue × List EncodeEntry):=
 match x_ with
 | (level_1,t18,t19_1,t20,b_12,b_13,b_14,b_15)=>
 if decide (t20 < t19_1)=true then
 if inR t20 t18.length=true then
 some (t18.getD t20.toNat dSMember) >>=fun x0_1=>
 if inR t20 b_14.Items.length=true then
 g8x ((⟨x0_1.ID,x0_1.Name,x0_1.Type_,x0_1.Critical,x0_1.HasDefault,SValue.eta x0_1.Default⟩:SMember),SValue.eta (b_14.Items.getD t20.toNat dSValue)) >>=fun r_2=>
 if(!r_2)=true then
 if inR t20 b_14.Items.length=true then
 g19 (x0_1.Type_,SValue.eta (b_14.Items.getD t20.toNat dSValue),addI .i64 level_1 1,b_12,b_13) >>=fun r_3=>
 g8f (x0_1.ID,x0_1.Critical,r_3.1) >>=fun r_7=>
 some [(⟨x0_1.ID,r_7⟩:EncodeEntry)] >>=fun t53=>
 if room 24 (b_15++t53).length=true then
 g2c (level_1,t18,t19_1,addI .i64 t20 1,r_3.2.1,r_3.2.2,SValue.eta b_14,b_15++t53)
 else none
 else none
 else
 g2c (level_1,t18,t19_1,addI .i64 t20 1,b_12,b_13,SValue.eta b_14,b_15)
 else none
 else none
 else
 some (b_12,b_13,SValue.eta b_14,b_15)
  partial_fixpoint
end
theorem e57_k :KC e57:= .m (by kernel_rfl)
theorem e99_k :KC e99:= .m (by kernel_rfl)
theorem e98_k :KC e98:= .m (by kernel_rfl)
theorem gc1 :(∀h r,g19 h=some r→FD e57 h r)∧(∀h r,g1a h=some r→LD 57 1 [0] e57_0 h r)∧(∀h r,g57 h=some r→FD e99 h r)∧(∀h r,g5y h=some r→FD e98 h r)∧(∀h r,g2c h=some r→LD 98 1 [0] e98_0 h r):=g19.mutual_partial_correctness (FD e57) (LD 57 1 [0] e57_0) (FD e99) (FD e98) (LD 98 1 [0] e98_0)
 (fun _ _ _ _ h0 h1 h2 h3 _ _ h=>FA e57 e57_k (.k gdx (.k gpm (.k (FH e98 e98_k h3) (.k (FH e99 e99_k h2) (.k (FH e57 e57_k h0) (.k g8g .n)))))) (.k (LH e57_0 h1) .n) (.trans (by kernel_rfl) h))
 (fun _ _ h0 h1 _ _ h=>LA e57_0 h1 (.k (FH e57 e57_k h0) (.k gfb (.k g72 .n))) .n (.trans (by kernel_rfl) h))
 (fun _ h0 _ _ h=>FA e99 e99_k (.k gd6 (.k ga8 (.k (FH e57 e57_k h0) .n))) .n (.trans (by kernel_rfl) h))
 (fun _ h4 _ _ h=>FA e98 e98_k (.k gar (.k g8g .n)) (.k (LH e98_0 h4) (.k gbz (.k gc0 .n))) (.trans (by kernel_rfl) h))
 (fun _ _ h0 h4 _ _ h=>LA e98_0 h4 (.k gk2 (.k (FH e57 e57_k h0) (.k gfc .n))) .n (.trans (by kernel_rfl) h))
theorem gdd :FC e57 g19:= .of e57_k gc1.1
def g6h(x_:SSchema × Int × SValue) :Option (List UInt8 × Int):=
 match x_ with
 | (s,t,v)=>
 g3q ((⟨s.Types⟩:SSchema),t,SValue.eta v) >>=fun r=>
 if(!(decide (r=0)))=true then
 some ([],r)
 else
 g19 (t,SValue.eta v,1,s.Types,0) >>=fun r_1=>
 if(bif decide (4096 < (r_1.1.length:Int))then true else decide (200 < r_1.2.2))=true then
 some ([],3)
 else
 some (r_1.1,0)
theorem e26_k :KC e26:= .m (by kernel_rfl)
theorem glm :FC e26 g6h:= .fn e26_k (.k gk1 (.k gdd .n)) .n fun _=>by kernel_rfl
end
section
open Go Go.Proofs.YthnmepafpikaiaaGreat.Shv
open Tryz
set_option maxRecDepth 100000
set_option linter.all false
end
section
open Go Go.Proofs.YthnmepafpikaiaaGreat.Shv
open Tryz
set_option maxRecDepth 100000
set_option linter.all false
end
section
open Go Go.Proofs.YthnmepafpikaiaaGreat.Shv
open Tryz
set_option maxRecDepth 100000
def g45(x_:Sheaveref07Draft × Int) :Option (Int):=
 match x_ with
 | (d,i)=>
 if inR i d.Nodes.length=true then
 some (addI .i64 1 (wrp .i64 (remI (d.Nodes.getD i.toNat dSheaveref07Node).Kind 9)))
 else none
theorem e45_k :KC e45:= .m (by kernel_rfl)
theorem g5k :FC e45 g45:= .fn e45_k .n .n fun _=>by kernel_rfl
def g1k(kind:Int) :Option (Bool):=
 some (bif bif decide (kind=4)then true else decide (kind=5)then true else decide (kind=6))
theorem e46_k :KC e46:= .m (by kernel_rfl)
theorem ggz :FC e46 g1k:= .fn e46_k .n .n fun _=>by kernel_rfl
def g3w(x0:Sheaveref07Node) :Option (Int):=
 some (subI .i64 (wrp .i64 (remI x0.A 7)) 3)
theorem e47_k :KC e47:= .m (by kernel_rfl)
theorem g90 :FC e47 g3w:= .fn e47_k .n .n fun _=>by kernel_rfl
def g4q(x0:Sheaveref07Node) :Option (Int):=
 g3w x0 >>=fun r=>
 some (addI .i64 r (wrp .i64 (remI x0.B 6)))
theorem e48_k :KC e48:= .m (by kernel_rfl)
theorem gba :FC e48 g4q:= .fn e48_k (.k g90 .n) .n fun _=>by kernel_rfl
def g33(x_:Int × Sheaveref07Node × List Int) :Option (List Int):=
 match x_ with
 | (i,b_1,b_2)=>
 if decide (i < 6)=true then
 if decide (0≤i)=true then
 if decide (remI (shrI .u8 b_1.A i) 2=1)=true then
 some [addI .i64 i 1] >>=fun t18=>
 if room 8 (b_2++t18).length=true then
 g33 (addI .i64 i 1,b_1,b_2++t18)
 else none
 else
 g33 (addI .i64 i 1,b_1,b_2)
 else none
 else
 some b_2
  partial_fixpoint
theorem gg5 :LC 49 0 [0] e49_0 g33:= .rc g33.partial_correctness .n .n fun _ _=>by kernel_rfl
def g3g(x0:Sheaveref07Node) :Option (List Int):=
 g33 (0,x0,[]) >>=fun o=>
 if decide ((o.length:Int)=0)=true then
 some [1] >>=fun t24=>
 if room 8 (o++t24).length=true then
 some (o++t24)
 else none
 else
 some o
theorem e49_k :KC e49:= .m (by kernel_rfl)
theorem gbp :FC e49 g3g:= .fn e49_k .n (.k gg5 .n) fun _=>by kernel_rfl
def g5l(kind:Int) :Option (Bool):=
 some (decide (7≤kind))
theorem g10l :KC e119:= .m (by kernel_rfl)
theorem gaa :FC e119 g5l:= .fn g10l .n .n fun _=>by kernel_rfl
def g1z(x_:Int × Int × List Sheaveref07Node) :Option ((Int) ⊕ (Unit)):=
 match x_ with
 | (n,k,b)=>
 if decide (k < n)=true then
 g45 ((⟨b⟩:Sheaveref07Draft),k) >>=fun r_2=>
 g5l r_2 >>=fun r_3=>
 if r_3=true then
 some (.inl k)
 else
 g1z (n,addI .i64 k 1,b)
 else
 some (.inr ())
  partial_fixpoint
theorem gde :LC 77 0 [0] e77_0 g1z:= .rc g1z.partial_correctness (.k g5k (.k gaa .n)) .n fun _ _=>by kernel_rfl
def g5m(x_:Sheaveref07Draft × Int × Int) :Option (Int):=
 match x_ with
 | (d,i,code)=>
 some (d.Nodes.length:Int) >>=fun t12=>
 if(!(decide (t12=0)))=true then
 some (remI (wrp .i64 code) t12) >>=fun t16=>
 g45 (d,t16) >>=fun r=>
 g5l r >>=fun r_1=>
 if(bif r_1 then true else decide (t16 < i))=true then
 some t16
 else
 if decide (0 < i)=true then
 if(!(decide (i=0)))=true then
 some (remI t16 i)
 else none
 else
 g1z (t12,0,d.Nodes) >>=fun o=>
 match o with
 | .inl o_1=>
 some o_1
 | .inr o_2=>
 some (-1)
 else none
theorem e77_k :KC e77:= .m (by kernel_rfl)
theorem gg6 :FC e77 g5m:= .fn e77_k (.k g5k (.k gaa .n)) (.k gde .n) fun _=>by kernel_rfl
def g58(kind:Int) :Option (Bool):=
 some (bif decide (1≤kind)then decide (kind≤4)else false)
theorem e67_k :KC e67:= .m (by kernel_rfl)
theorem gfd :FC e67 g58:= .fn e67_k .n .n fun _=>by kernel_rfl
end
section
open Go Go.Proofs.YthnmepafpikaiaaGreat.Shv
open Tryz
set_option maxRecDepth 100000
def g2g(x_:Int × Int × Int × List Sheaveref07Node) :Option ((Int) ⊕ (Unit)):=
 match x_ with
 | (code_1,n,k,b)=>
 if decide (k < n)=true then
 if(!(decide (n=0)))=true then
 some (remI (addI .i64 (wrp .i64 code_1) k) n) >>=fun t21=>
 g45 ((⟨b⟩:Sheaveref07Draft),t21) >>=fun r=>
 g58 r >>=fun r_1=>
 if r_1=true then
 some (.inl t21)
 else
 g2g (code_1,n,addI .i64 k 1,b)
 else none
 else
 some (.inr ())
  partial_fixpoint
theorem gg7 :LC 51 0 [0] e51_0 g2g:= .rc g2g.partial_correctness (.k g5k (.k gfd .n)) .n fun _ _=>by kernel_rfl
def g53(x_:Sheaveref07Draft × Int) :Option (Int):=
 match x_ with
 | (d,code)=>
 g2g (code,(d.Nodes.length:Int),0,d.Nodes) >>=fun o=>
 match o with
 | .inl o_1=>
 some o_1
 | .inr o_2=>
 some (-1)
theorem e51_k :KC e51:= .m (by kernel_rfl)
theorem gbq :FC e51 g53:= .fn e51_k .n (.k gg7 .n) fun _=>by kernel_rfl
def g59(x_:Sheaveref07Draft × Int × Int) :Option (SValue × Bool):=
 match x_ with
 | (d,t,code)=>
 if inR t d.Nodes.length=true then
 some (d.Nodes.getD t.toNat dSheaveref07Node) >>=fun x0=>
 g45 (d,t) >>=fun r=>
 some (decide (r=8)) >>=fun t21=>
 (if t21=true then g53 (d,0)else some 0) >>=fun r_1=>
 if(bif t21 then decide (r_1 < 0)else false)=true then
 some ((⟨7,false,0,[],0,[],[],[]⟩:SValue),true)
 else
 if decide (r=1)=true then
 some ((⟨r,decide (remI code 2=1),0,[],0,[],[],[]⟩:SValue),true)
 else
 if decide (r=2)=true then
 g3w x0 >>=fun r_2=>
 g4q x0 >>=fun r_3=>
 g3w x0 >>=fun r_4=>
 some (addI .i64 (subI .i64 r_3 r_4) 1) >>=fun t47=>
 if(!(decide (t47=0)))=true then
 some ((⟨r,false,addI .i64 r_2 (remI (wrp .i64 code) t47),[],0,[],[],[]⟩:SValue),true)
 else none
 else
 if decide (r=3)=true then
 if(bif decide (0 < remI x0.A 4)then decide (remI code 2=1)else false)=true then
 some ((⟨r,false,0,[97],0,[],[],[]⟩:SValue),true)
 else
 some ((⟨r,false,0,[],0,[],[],[]⟩:SValue),true)
 else
 if decide (r=4)=true then
 g3g x0 >>=fun r_5=>
 g3g x0 >>=fun r_6=>
 some (r_6.length:Int) >>=fun t71=>
 if(!(decide (t71=0)))=true then
 some (remI (wrp .i64 code) t71) >>=fun t72=>
 if inR t72 r_5.length=true then
 some ((⟨r,false,0,[],r_5.getD t72.toNat 0,[],[],[]⟩:SValue),true)
 else none
 else none
 else
 some (decide (r=5)) >>=fun t77=>
 if t77=true then
 if t77=true then
 some ((⟨0,false,0,[],0,[],[],[]⟩:SValue),false)
 else
 some ((⟨r,false,0,[],0,[],[],[]⟩:SValue),true)
 else
 if decide (r=6)=true then
 some ((⟨0,false,0,[],0,[],[],[]⟩:SValue),false)
 else
 some ((⟨r,false,0,[],0,[],[],[]⟩:SValue),true)
 else none
theorem e78_k :KC e78:= .m (by kernel_rfl)
theorem gfe :FC e78 g59:= .fn e78_k (.k g5k (.k gbq (.k g90 (.k gba (.k gbp .n))))) .n fun _=>by kernel_rfl
def g2h(x_:Int × Bool × Int × Int × List Sheaveref07Node × Sheaveref07Node × List SMember) :Option (Int × Bool × Int × List Sheaveref07Node × Sheaveref07Node × List SMember):=
 match x_ with
 | (i_3,record_3,id_2,k,b_7,b_8,b_9)=>
 if decide (k < (b_8.Parts.length:Int))=true then
 if inR k b_8.Parts.length=true then
 some (b_8.Parts.getD k.toNat dSheaveref07Part) >>=fun x0_1=>
 g5m ((⟨b_7⟩:Sheaveref07Draft),i_3,x0_1.Type_) >>=fun r=>
 if(bif (!(decide (addI .i64 1 (wrp .i64 (remI x0_1.ID 12))=id_2)))then true else decide (r < 0))=true then
 g2h (i_3,record_3,id_2,addI .i64 k 1,b_7,b_8,b_9)
 else
 some (g78 (wrp .i32 (addI .i64 97 id_2))) >>=fun t55=>
 if decide ([109].length+t55.length≤g22)=true then
 some ([109]++t55) >>=fun t56=>
 if(bif record_3 then decide (remI x0_1.Flag 4=1)else false)=true then
 if(bif record_3 then decide (2≤remI x0_1.Flag 4)else false)=true then
 g59 ((⟨b_7⟩:Sheaveref07Draft),r,quoI .u8 x0_1.Flag 4) >>=fun r_1=>
 some [(⟨id_2,t56,r,true,r_1.2,SValue.eta r_1.1⟩:SMember)] >>=fun t87=>
 if room 160 (b_9++t87).length=true then
 some (i_3,record_3,id_2,b_7,b_8,b_9++t87)
 else none
 else
 some [(⟨id_2,t56,r,true,false,(⟨0,false,0,[],0,[],[],[]⟩:SValue)⟩:SMember)] >>=fun t87_1=>
 if room 160 (b_9++t87_1).length=true then
 some (i_3,record_3,id_2,b_7,b_8,b_9++t87_1)
 else none
 else
 if(bif record_3 then decide (2≤remI x0_1.Flag 4)else false)=true then
 g59 ((⟨b_7⟩:Sheaveref07Draft),r,quoI .u8 x0_1.Flag 4) >>=fun r_4=>
 some [(⟨id_2,t56,r,false,r_4.2,SValue.eta r_4.1⟩:SMember)] >>=fun t87_2=>
 if room 160 (b_9++t87_2).length=true then
 some (i_3,record_3,id_2,b_7,b_8,b_9++t87_2)
 else none
 else
 some [(⟨id_2,t56,r,false,false,(⟨0,false,0,[],0,[],[],[]⟩:SValue)⟩:SMember)] >>=fun t87_3=>
 if room 160 (b_9++t87_3).length=true then
 some (i_3,record_3,id_2,b_7,b_8,b_9++t87_3)
 else none
 else none
 else none
 else
 some (i_3,record_3,id_2,b_7,b_8,b_9)
  partial_fixpoint
theorem gd7 :LC 50 0 [0,0] grt g2h:= .rc g2h.partial_correctness (.k gg6 (.k gfe .n)) .n fun _ _=>by kernel_rfl
def g2d(x_:Int × Bool × Int × List Sheaveref07Node × Sheaveref07Node × List SMember) :Option (List SMember):=
 match x_ with
 | (i_1,record_1,id,b_1,b_2,b_3)=>
 if decide (id≤12)=true then
 g2h (i_1,record_1,id,0,b_1,b_2,b_3) >>=fun o_1=>
 g2d (o_1.1,o_1.2.1,addI .i64 o_1.2.2.1 1,o_1.2.2.2.1,o_1.2.2.2.2.1,o_1.2.2.2.2.2)
 else
 some b_3
  partial_fixpoint
theorem geg :LC 50 0 [0] e50_0 g2d:= .rc g2d.partial_correctness .n (.k gd7 .n) fun _ _=>by kernel_rfl
def g4b(x_:Sheaveref07Draft × Int × Bool) :Option (List SMember):=
 match x_ with
 | (d,i,record)=>
 if inR i d.Nodes.length=true then
 g2d (i,record,1,d.Nodes,d.Nodes.getD i.toNat dSheaveref07Node,[]) >>=fun o=>
 some o
 else none
theorem e50_k :KC e50:= .m (by kernel_rfl)
theorem gh0 :FC e50 g4b:= .fn e50_k .n (.k geg .n) fun _=>by kernel_rfl
def g2q(x_:Int × Int × List Int × Int × List Sheaveref07Node × Int × List UInt8 × Int × Int × Int × Int × Int × Bool × List SType × List SSymbol) :Option (Int × Int × List Sheaveref07Node × Int × List UInt8 × Int × Int × Int × Int × Int × Bool × List SType × List SSymbol):=
 match x_ with
 | (n_3,i_3,l_22,k,b_25,b_26,b_27,b_28,b_29,b_30,b_31,b_32,b_33,b_34,b_35)=>
 if decide (k < (l_22.length:Int))=true then
 if inR k l_22.length=true then
 if inR k l_22.length=true then
 some (g78 (wrp .i32 (addI .i64 97 (l_22.getD k.toNat 0)))) >>=fun t87=>
 if decide ([115].length+t87.length≤g22)=true then
 some [(⟨l_22.getD k.toNat 0,[115]++t87⟩:SSymbol)] >>=fun t90=>
 if room 24 (b_35++t90).length=true then
 g2q (n_3,i_3,l_22,addI .i64 k 1,b_25,b_26,b_27,b_28,b_29,b_30,b_31,b_32,b_33,b_34,b_35++t90)
 else none
 else none
 else none
 else none
 else
 some (n_3,i_3,b_25,b_26,b_27,b_28,b_29,b_30,b_31,b_32,b_33,b_34,b_35)
  partial_fixpoint
theorem gff :LC 20 0 [0,0] gru g2q:= .rc g2q.partial_correctness .n .n fun _ _=>by kernel_rfl
def gm(x_:Int × Int × List Sheaveref07Node × List SType) :Option (List SType):=
 match x_ with
 | (n,i,b_1,b_2)=>
 if decide (i < n)=true then
 if inR i b_1.length=true then
 some (b_1.getD i.toNat dSheaveref07Node) >>=fun x0=>
 g45 ((⟨b_1⟩:Sheaveref07Draft),i) >>=fun r=>
 g1k r >>=fun r_1=>
 if r_1=true then
 some (g78 (wrp .i32 (addI .i64 65 i))) >>=fun t41=>
 if decide (r=2)=true then
 g3w x0 >>=fun r_2=>
 g4q x0 >>=fun r_3=>
 some [(⟨r,t41,r_2,r_3,0,[],[],0,0,false⟩:SType)] >>=fun t167=>
 if room 120 (b_2++t167).length=true then
 gm (n,addI .i64 i 1,b_1,b_2++t167)
 else none
 else
 if decide (r=3)=true then
 some [(⟨r,t41,0,0,wrp .i64 (remI x0.A 4),[],[],0,0,false⟩:SType)] >>=fun t167_1=>
 if room 120 (b_2++t167_1).length=true then
 gm (n,addI .i64 i 1,b_1,b_2++t167_1)
 else none
 else
 if decide (r=4)=true then
 g3g x0 >>=fun r_4=>
 g2q (n,i,r_4,0,b_1,r,t41,0,0,0,0,0,decide (remI x0.B 2=1),b_2,[]) >>=fun o_1=>
 some [(⟨o_1.2.2.2.1,o_1.2.2.2.2.1,o_1.2.2.2.2.2.1,o_1.2.2.2.2.2.2.1,o_1.2.2.2.2.2.2.2.1,o_1.2.2.2.2.2.2.2.2.2.2.2.2,[],o_1.2.2.2.2.2.2.2.2.1,o_1.2.2.2.2.2.2.2.2.2.1,o_1.2.2.2.2.2.2.2.2.2.2.1⟩:SType)] >>=fun t167_2=>
 if room 120 (o_1.2.2.2.2.2.2.2.2.2.2.2.1++t167_2).length=true then
 gm (o_1.1,addI .i64 o_1.2.1 1,o_1.2.2.1,o_1.2.2.2.2.2.2.2.2.2.2.2.1++t167_2)
 else none
 else
 if decide (r=5)=true then
 g4b ((⟨b_1⟩:Sheaveref07Draft),i,true) >>=fun r_5=>
 some [(⟨r,t41,0,0,0,[],r_5,0,0,false⟩:SType)] >>=fun t167_3=>
 if room 120 (b_2++t167_3).length=true then
 gm (n,addI .i64 i 1,b_1,b_2++t167_3)
 else none
 else
 if decide (r=6)=true then
 g4b ((⟨b_1⟩:Sheaveref07Draft),i,false) >>=fun r_6=>
 if decide ((r_6.length:Int)=0)=true then
 some [(⟨5,t41,0,0,0,[],[],0,0,false⟩:SType)] >>=fun t167_4=>
 if room 120 (b_2++t167_4).length=true then
 gm (n,addI .i64 i 1,b_1,b_2++t167_4)
 else none
 else
 some [(⟨r,t41,0,0,0,[],r_6,0,0,decide (remI x0.B 2=1)⟩:SType)] >>=fun t167_5=>
 if room 120 (b_2++t167_5).length=true then
 gm (n,addI .i64 i 1,b_1,b_2++t167_5)
 else none
 else
 if decide (r=7)=true then
 if(!(decide (n=0)))=true then
 some [(⟨r,t41,0,0,wrp .i64 (remI x0.A 4),[],[],0,remI (wrp .i64 x0.C) n,false⟩:SType)] >>=fun t167_6=>
 if room 120 (b_2++t167_6).length=true then
 gm (n,addI .i64 i 1,b_1,b_2++t167_6)
 else none
 else none
 else
 if decide (r=8)=true then
 some (wrp .i64 (remI x0.A 4)) >>=fun t135=>
 g53 ((⟨b_1⟩:Sheaveref07Draft),x0.B) >>=fun r_7=>
 if(!(decide (n=0)))=true then
 some (remI (wrp .i64 x0.C) n) >>=fun t144=>
 if decide (r_7 < 0)=true then
 some [(⟨7,[],0,0,t135,[],[],0,t144,false⟩:SType)] >>=fun t167_7=>
 if room 120 (b_2++t167_7).length=true then
 gm (n,addI .i64 i 1,b_1,b_2++t167_7)
 else none
 else
 some [(⟨r,t41,0,0,t135,[],[],r_7,t144,false⟩:SType)] >>=fun t167_8=>
 if room 120 (b_2++t167_8).length=true then
 gm (n,addI .i64 i 1,b_1,b_2++t167_8)
 else none
 else none
 else
 if decide (r=9)=true then
 if(!(decide (n=0)))=true then
 some [(⟨r,t41,0,0,0,[],[],0,remI (wrp .i64 x0.C) n,false⟩:SType)] >>=fun t167_9=>
 if room 120 (b_2++t167_9).length=true then
 gm (n,addI .i64 i 1,b_1,b_2++t167_9)
 else none
 else none
 else
 some [(⟨r,t41,0,0,0,[],[],0,0,false⟩:SType)] >>=fun t167_10=>
 if room 120 (b_2++t167_10).length=true then
 gm (n,addI .i64 i 1,b_1,b_2++t167_10)
 else none
 else
 if decide (r=2)=true then
 g3w x0 >>=fun r_8=>
 g4q x0 >>=fun r_9=>
 some [(⟨r,[],r_8,r_9,0,[],[],0,0,false⟩:SType)] >>=fun t167_11=>
 if room 120 (b_2++t167_11).length=true then
 gm (n,addI .i64 i 1,b_1,b_2++t167_11)
 else none
 else
 if decide (r=3)=true then
 some [(⟨r,[],0,0,wrp .i64 (remI x0.A 4),[],[],0,0,false⟩:SType)] >>=fun t167_12=>
 if room 120 (b_2++t167_12).length=true then
 gm (n,addI .i64 i 1,b_1,b_2++t167_12)
 else none
 else
 if decide (r=4)=true then
 g3g x0 >>=fun r_10=>
 g2q (n,i,r_10,0,b_1,r,[],0,0,0,0,0,decide (remI x0.B 2=1),b_2,[]) >>=fun o_2=>
 some [(⟨o_2.2.2.2.1,o_2.2.2.2.2.1,o_2.2.2.2.2.2.1,o_2.2.2.2.2.2.2.1,o_2.2.2.2.2.2.2.2.1,o_2.2.2.2.2.2.2.2.2.2.2.2.2,[],o_2.2.2.2.2.2.2.2.2.1,o_2.2.2.2.2.2.2.2.2.2.1,o_2.2.2.2.2.2.2.2.2.2.2.1⟩:SType)] >>=fun t167_13=>
 if room 120 (o_2.2.2.2.2.2.2.2.2.2.2.2.1++t167_13).length=true then
 gm (o_2.1,addI .i64 o_2.2.1 1,o_2.2.2.1,o_2.2.2.2.2.2.2.2.2.2.2.2.1++t167_13)
 else none
 else
 if decide (r=5)=true then
 g4b ((⟨b_1⟩:Sheaveref07Draft),i,true) >>=fun r_11=>
 some [(⟨r,[],0,0,0,[],r_11,0,0,false⟩:SType)] >>=fun t167_14=>
 if room 120 (b_2++t167_14).length=true then
 gm (n,addI .i64 i 1,b_1,b_2++t167_14)
 else none
 else
 if decide (r=6)=true then
 g4b ((⟨b_1⟩:Sheaveref07Draft),i,false) >>=fun r_12=>
 if decide ((r_12.length:Int)=0)=true then
 some [(⟨5,[],0,0,0,[],[],0,0,false⟩:SType)] >>=fun t167_15=>
 if room 120 (b_2++t167_15).length=true then
 gm (n,addI .i64 i 1,b_1,b_2++t167_15)
 else none
 else
 some [(⟨r,[],0,0,0,[],r_12,0,0,decide (remI x0.B 2=1)⟩:SType)] >>=fun t167_16=>
 if room 120 (b_2++t167_16).length=true then
 gm (n,addI .i64 i 1,b_1,b_2++t167_16)
 else none
 else
 if decide (r=7)=true then
 if(!(decide (n=0)))=true then
 some [(⟨r,[],0,0,wrp .i64 (remI x0.A 4),[],[],0,remI (wrp .i64 x0.C) n,false⟩:SType)] >>=fun t167_17=>
 if room 120 (b_2++t167_17).length=true then
 gm (n,addI .i64 i 1,b_1,b_2++t167_17)
 else none
 else none
 else
 if decide (r=8)=true then
 some (wrp .i64 (remI x0.A 4)) >>=fun t135_1=>
 g53 ((⟨b_1⟩:Sheaveref07Draft),x0.B) >>=fun r_13=>
 if(!(decide (n=0)))=true then
 some (remI (wrp .i64 x0.C) n) >>=fun t144_1=>
 if decide (r_13 < 0)=true then
 some [(⟨7,[],0,0,t135_1,[],[],0,t144_1,false⟩:SType)] >>=fun t167_18=>
 if room 120 (b_2++t167_18).length=true then
 gm (n,addI .i64 i 1,b_1,b_2++t167_18)
 else none
 else
 some [(⟨r,[],0,0,t135_1,[],[],r_13,t144_1,false⟩:SType)] >>=fun t167_19=>
 if room 120 (b_2++t167_19).length=true then
 gm (n,addI .i64 i 1,b_1,b_2++t167_19)
 else none
 else none
 else
 if decide (r=9)=true then
 if(!(decide (n=0)))=true then
 some [(⟨r,[],0,0,0,[],[],0,remI (wrp .i64 x0.C) n,false⟩:SType)] >>=fun t167_20=>
 if room 120 (b_2++t167_20).length=true then
 gm (n,addI .i64 i 1,b_1,b_2++t167_20)
 else none
 else none
 else
 some [(⟨r,[],0,0,0,[],[],0,0,false⟩:SType)] >>=fun t167_21=>
 if room 120 (b_2++t167_21).length=true then
 gm (n,addI .i64 i 1,b_1,b_2++t167_21)
 else none
 else none
 else
 some b_2
  partial_fixpoint
theorem gh1 :LC 20 0 [0] e20_0 gm:= .rc gm.partial_correctness (.k g5k (.k ggz (.k g90 (.k gba (.k gbp (.k gh0 (.k gbq .n))))))) (.k gff .n) fun _ _=>by kernel_rfl
def g5e(d:Sheaveref07Draft) :Option (SSchema × Bool):=
 some (d.Nodes.length:Int) >>=fun t13=>
 if(bif decide (t13 < 1)then true else decide (5 < t13))=true then
 some ((⟨[]⟩:SSchema),false)
 else
 gm (t13,0,d.Nodes,[]) >>=fun o=>
 some ((⟨o⟩:SSchema),true)
theorem e20_k :KC e20:= .m (by kernel_rfl)
theorem gk3 :FC e20 g5e:= .fn e20_k .n (.k gh1 .n) fun _=>by kernel_rfl
def g2t(t:SType) :Option (SType):=
 if decide (t.Kind=1)=true then
 some (⟨t.Kind,[],0,0,0,[],[],0,0,false⟩:SType)
 else
 if decide (t.Kind=2)=true then
 some (⟨t.Kind,[],t.Low,t.High,0,[],[],0,0,false⟩:SType)
 else
 if decide (t.Kind=3)=true then
 some (⟨t.Kind,[],0,0,t.Max,[],[],0,0,false⟩:SType)
 else
 if decide (t.Kind=4)=true then
 some (⟨t.Kind,t.Name,0,0,0,t.Symbols,[],0,0,t.Open⟩:SType)
 else
 if decide (t.Kind=5)=true then
 some (⟨t.Kind,t.Name,0,0,0,[],t.Members,0,0,false⟩:SType)
 else
 if decide (t.Kind=6)=true then
 some (⟨t.Kind,t.Name,0,0,0,[],t.Members,0,0,t.Open⟩:SType)
 else
 if decide (t.Kind=7)=true then
 some (⟨t.Kind,[],0,0,t.Max,[],[],0,t.Elem,false⟩:SType)
 else
 if decide (t.Kind=8)=true then
 some (⟨t.Kind,[],0,0,t.Max,[],[],t.Key,t.Elem,false⟩:SType)
 else
 some (⟨t.Kind,[],0,0,0,[],[],0,t.Elem,false⟩:SType)
def g1v(x_:Int × SValue × SValue) :Option ((Bool) ⊕ (SValue × SValue)):=
 match x_ with
 | (i,b_3,b_4)=>
 if decide (i < (b_3.Rest.length:Int))=true then
 if inR i b_3.Rest.length=true then
 some (b_3.Rest.getD i.toNat dSRaw) >>=fun x0=>
 if inR i b_4.Rest.length=true then
 some (b_4.Rest.getD i.toNat dSRaw) >>=fun x0_1=>
 if(!(eqI x0.ID x0_1.ID && (eqS x0.Data x0_1.Data && true)))=true then
 some (.inl false)
 else
 g1v (addI .i64 i 1,SValue.eta b_3,SValue.eta b_4)
 else none
 else none
 else
 some (.inr (SValue.eta b_3,SValue.eta b_4))
  partial_fixpoint
theorem gbl :LC 58 0 [0] e58_0 g1v:= .rc g1v.partial_correctness .n .n fun _ _=>by kernel_rfl
mutual
def g12(x_:SValue × SValue) :Option (Bool):=
 match x_ with
 | (a,b)=>
 if(bif bif bif bif bif (!(decide (a.Kind=b.Kind)))then true else(!(eqB a.Bool_ b.Bool_))then true else(!(decide (a.Int_=b.Int_)))then true else(!(decide (a.Str=b.Str)))then true else(!(decide (a.ID=b.ID)))then true else(!(decide ((a.Rest.length:Int)=(b.Rest.length:Int)))))=true then
 some false
 else
 g1v (0,(⟨a.Kind,a.Bool_,a.Int_,a.Str,a.ID,a.Keys,a.Items,a.Rest⟩:SValue),(⟨b.Kind,b.Bool_,b.Int_,b.Str,b.ID,b.Keys,b.Items,b.Rest⟩:SValue)) >>=fun o=>
 match o with
 | .inl o_1=>
 some o_1
 | .inr o_2=>
 g4l (o_2.1.Keys,o_2.2.Keys) >>=fun r=>
 (if r=true then g4l (o_2.1.Items,o_2.2.Items)else some false) >>=fun r_1=>
 some (bif r then r_1 else false)
  partial_fixpoint
def g4l(x_:List SValue × List SValue) :Option (Bool):=
 match x_ with
 | (a,b)=>
 if(!(decide ((a.length:Int)=(b.length:Int))))=true then
 some false
 else
 g37 (a,b,0) >>=fun o=>
 match o with
 | .inl o_1=>
 some o_1
 | .inr o_2=>
 some true
  partial_fixpoint
def g37(x_:List SValue × List SValue × Int) :Option ((Bool) ⊕ (Unit)):=
 match x_ with
 | (a_1,b_1,i)=>
 if decide (i < (a_1.length:Int))=true then
 if inR i a_1.length=true then
 if inR i b_1.length=true then
 g12 (SValue.eta (a_1.getD i.toNat dSValue),SValue.eta (b_1.getD i.toNat dSValue)) >>=fun r=>
 if(!r)=true then
 some (.inl false)
 else
 g37 (a_1,b_1,addI .i64 i 1)
 else none
 else none
 else
 some (.inr ())
  partial_fixpoint
end
theorem e58_k :KC e58:= .m (by kernel_rfl)
theorem gvu :KC e101:= .m (by kernel_rfl)
theorem gc2 :(∀h r,g12 h=some r→FD e58 h r)∧(∀h r,g4l h=some r→FD e101 h r)∧(∀h r,g37 h=some r→LD 101 0 [0] gi4 h r):=g12.mutual_partial_correctness (FD e58) (FD e101) (LD 101 0 [0] gi4)
 (fun _ h1 _ _ h=>FA e58 e58_k (.k (FH e101 gvu h1) .n) (.k gbl .n) (.trans (by kernel_rfl) h))
 (fun _ h2 _ _ h=>FA e101 gvu .n (.k (LH gi4 h2) .n) (.trans (by kernel_rfl) h))
 (fun _ _ h0 h2 _ _ h=>LA gi4 h2 (.k (FH e58 e58_k h0) .n) .n (.trans (by kernel_rfl) h))
theorem gdf :FC e58 g12:= .of e58_k gc2.1
end
section
open Go Go.Proofs.YthnmepafpikaiaaGreat.Shv
open Tryz
set_option maxRecDepth 100000
def g5h(x_:SMember × SMember) :Option (Bool):=
 match x_ with
 | (a,b)=>
 some (bif bif bif bif decide (a.ID=b.ID)then decide (a.Name=b.Name)else false then decide (a.Type_=b.Type_)else false then eqB a.Critical b.Critical else false then eqB a.HasDefault b.HasDefault else false) >>=fun t37=>
 (if t37=true then g12 ((⟨a.Default.Kind,a.Default.Bool_,a.Default.Int_,a.Default.Str,a.Default.ID,a.Default.Keys,a.Default.Items,a.Default.Rest⟩:SValue),(⟨b.Default.Kind,b.Default.Bool_,b.Default.Int_,b.Default.Str,b.Default.ID,b.Default.Keys,b.Default.Items,b.Default.Rest⟩:SValue))else some false) >>=fun r=>
 some (bif t37 then r else false)
def g2v(x_:Int × SType × SType) :Option ((Bool) ⊕ (SType × SType)):=
 match x_ with
 | (i,b_3,b_4)=>
 if decide (i < (b_3.Symbols.length:Int))=true then
 if inR i b_3.Symbols.length=true then
 some (b_3.Symbols.getD i.toNat dSSymbol) >>=fun x0=>
 if inR i b_4.Symbols.length=true then
 some (b_4.Symbols.getD i.toNat dSSymbol) >>=fun x0_1=>
 if(!(eqI x0.ID x0_1.ID && (eqS x0.Name x0_1.Name && true)))=true then
 some (.inl false)
 else
 g2v (addI .i64 i 1,b_3,b_4)
 else none
 else none
 else
 some (.inr (b_3,b_4))
  partial_fixpoint
def g2w(x_:Int × SType × SType) :Option ((Bool) ⊕ (Unit)):=
 match x_ with
 | (i_1,b_5,b_6)=>
 if decide (i_1 < (b_5.Members.length:Int))=true then
 if inR i_1 b_5.Members.length=true then
 some (b_5.Members.getD i_1.toNat dSMember) >>=fun x0_2=>
 if inR i_1 b_6.Members.length=true then
 some (b_6.Members.getD i_1.toNat dSMember) >>=fun x0_3=>
 g5h ((⟨x0_2.ID,x0_2.Name,x0_2.Type_,x0_2.Critical,x0_2.HasDefault,SValue.eta x0_2.Default⟩:SMember),(⟨x0_3.ID,x0_3.Name,x0_3.Type_,x0_3.Critical,x0_3.HasDefault,SValue.eta x0_3.Default⟩:SMember)) >>=fun r=>
 if(!r)=true then
 some (.inl false)
 else
 g2w (addI .i64 i_1 1,b_5,b_6)
 else none
 else none
 else
 some (.inr ())
  partial_fixpoint
def g7p(x_:SType × SType) :Option (Bool):=
 match x_ with
 | (a,b)=>
 if(bif bif bif bif bif bif bif bif bif (!(decide (a.Kind=b.Kind)))then true else(!(decide (a.Name=b.Name)))then true else(!(decide (a.Low=b.Low)))then true else(!(decide (a.High=b.High)))then true else(!(decide (a.Max=b.Max)))then true else(!(decide (a.Key=b.Key)))then true else(!(decide (a.Elem=b.Elem)))then true else(!(eqB a.Open b.Open))then true else(!(decide ((a.Symbols.length:Int)=(b.Symbols.length:Int))))then true else(!(decide ((a.Members.length:Int)=(b.Members.length:Int)))))=true then
 some false
 else
 g2v (0,(⟨a.Kind,a.Name,a.Low,a.High,a.Max,a.Symbols,a.Members,a.Key,a.Elem,a.Open⟩:SType),(⟨b.Kind,b.Name,b.Low,b.High,b.Max,b.Symbols,b.Members,b.Key,b.Elem,b.Open⟩:SType)) >>=fun o=>
 match o with
 | .inl o_1=>
 some o_1
 | .inr o_2=>
 g2w (0,o_2.1,o_2.2) >>=fun o_3=>
 match o_3 with
 | .inl o_4=>
 some o_4
 | .inr o_5=>
 some true
def g6q(b:Int) :Option (Bool):=
 some (bif bif bif decide (97≤b)then decide (b≤122)else false then true else bif decide (65≤b)then decide (b≤90)else false then true else decide (b=95))
def g91(b:Int) :Option (Bool):=
 some (bif decide (48≤b)then decide (b≤57)else false)
def g3c(x_:List UInt8 × Int) :Option ((Bool) ⊕ (Unit)):=
 match x_ with
 | (s_1,i)=>
 if decide (i < (s_1.length:Int))=true then
 if inR i s_1.length=true then
 g6q (g68 s_1 i) >>=fun r_1=>
 some (!r_1) >>=fun t27=>
 if(inR i s_1.length || (!t27))=true then
 (if t27=true then g91 (g68 s_1 i)else some false) >>=fun r_2=>
 if(bif t27 then(!r_2)else false)=true then
 some (.inl false)
 else
 g3c (s_1,addI .i64 i 1)
 else none
 else none
 else
 some (.inr ())
  partial_fixpoint
def g4y(s:List UInt8) :Option (Bool):=
 some (bif decide (s=[])then true else decide (24 < (s.length:Int))) >>=fun t10=>
 if(inR 0 s.length || (!(!t10)))=true then
 (if(!t10)=true then g6q (g68 s 0)else some false) >>=fun r=>
 if(bif t10 then true else(!r))=true then
 some false
 else
 g3c (s,0) >>=fun o=>
 match o with
 | .inl o_1=>
 some o_1
 | .inr o_2=>
 some true
 else none
def g8y(x_:Int × Int) :Option (Bool):=
 match x_ with
 | (before,n)=>
 some (bif bif decide (before < n)then decide (1≤n)else false then decide (n≤1000)else false)
def g24(x_:List SSymbol × Int × Int) :Option ((Bool) ⊕ (List SSymbol × Int)):=
 match x_ with
 | (l_4,i_2,k)=>
 if decide (k < i_2)=true then
 if inR k l_4.length=true then
 if inR i_2 l_4.length=true then
 if decide ((l_4.getD k.toNat dSSymbol).Name=(l_4.getD i_2.toNat dSSymbol).Name)=true then
 some (.inl false)
 else
 g24 (l_4,i_2,addI .i64 k 1)
 else none
 else none
 else
 some (.inr (l_4,i_2))
  partial_fixpoint
def g35(x_:List SSymbol × Int × Int) :Option ((Bool) ⊕ (List SSymbol)):=
 match x_ with
 | (l_2,before,i)=>
 if decide (i < (l_2.length:Int))=true then
 if inR i l_2.length=true then
 g8y (before,(l_2.getD i.toNat dSSymbol).ID) >>=fun r=>
 some (!r) >>=fun t19=>
 if(inR i l_2.length || (!(!t19)))=true then
 (if(!t19)=true then g4y (l_2.getD i.toNat dSSymbol).Name else some false) >>=fun r_1=>
 if(bif t19 then true else(!r_1))=true then
 some (.inl false)
 else
 g24 (l_2,i,0) >>=fun o_3=>
 match o_3 with
 | .inl o_4=>
 some (.inl o_4)
 | .inr o_5=>
 if inR o_5.2 o_5.1.length=true then
 g35 (o_5.1,(o_5.1.getD o_5.2.toNat dSSymbol).ID,addI .i64 o_5.2 1)
 else none
 else none
 else none
 else
 some (.inr l_2)
  partial_fixpoint
def g6e(l:List SSymbol) :Option (Bool):=
 g35 (l,0,0) >>=fun o=>
 match o with
 | .inl o_1=>
 some o_1
 | .inr o_2=>
 some (bif decide (1≤(o_2.length:Int))then decide ((o_2.length:Int)≤16)else false)
def g25(x_:List SMember × Bool × Int × Int × SMember) :Option ((Bool) ⊕ (List SMember × Bool × Int × SMember)):=
 match x_ with
 | (l_4,record_4,i_2,k,b_1)=>
 if decide (k < i_2)=true then
 if inR k l_4.length=true then
 if decide ((l_4.getD k.toNat dSMember).Name=b_1.Name)=true then
 some (.inl false)
 else
 g25 (l_4,record_4,i_2,addI .i64 k 1,(⟨b_1.ID,b_1.Name,b_1.Type_,b_1.Critical,b_1.HasDefault,SValue.eta b_1.Default⟩:SMember))
 else none
 else
 some (.inr (l_4,record_4,i_2,(⟨b_1.ID,b_1.Name,b_1.Type_,b_1.Critical,b_1.HasDefault,SValue.eta b_1.Default⟩:SMember)))
  partial_fixpoint
def g36(x_:List SMember × Bool × Int × Int) :Option ((Bool) ⊕ (List SMember × Bool)):=
 match x_ with
 | (l_2,record_2,before,i)=>
 if decide (i < (l_2.length:Int))=true then
 if inR i l_2.length=true then
 some (l_2.getD i.toNat dSMember) >>=fun x0=>
 g8y (before,x0.ID) >>=fun r=>
 some (!r) >>=fun t23=>
 (if(!t23)=true then g4y x0.Name else some false) >>=fun r_1=>
 if(bif bif bif t23 then true else(!r_1)then true else bif x0.Critical then x0.HasDefault else false then true else bif (!record_2)then bif x0.Critical then true else x0.HasDefault else false)=true then
 some (.inl false)
 else
 some (!x0.HasDefault) >>=fun t52=>
 (if t52=true then g12 (SValue.eta x0.Default,(⟨0,false,0,[],0,[],[],[]⟩:SValue))else some false) >>=fun r_2=>
 if(bif t52 then(!r_2)else false)=true then
 some (.inl false)
 else
 g25 (l_2,record_2,i,0,(⟨x0.ID,x0.Name,x0.Type_,x0.Critical,x0.HasDefault,SValue.eta x0.Default⟩:SMember)) >>=fun o_3=>
 match o_3 with
 | .inl o_4=>
 some (.inl o_4)
 | .inr o_5=>
 g36 (o_5.1,o_5.2.1,o_5.2.2.2.ID,addI .i64 o_5.2.2.1 1)
 else none
 else
 some (.inr (l_2,record_2))
  partial_fixpoint
end
section
open Go Go.Proofs.YthnmepafpikaiaaGreat.Shv
open Tryz
set_option maxRecDepth 100000
def g5a(x_:List SMember × Bool) :Option (Bool):=
 match x_ with
 | (l,record)=>
 g36 (l,record,0,0) >>=fun o=>
 match o with
 | .inl o_1=>
 some o_1
 | .inr o_2=>
 some (bif decide ((o_2.1.length:Int)≤16)then bif o_2.2 then true else decide (1≤(o_2.1.length:Int))else false)
def g16(t:SType) :Option (Bool):=
 some (bif decide (t.Kind < 1)then true else decide (9 < t.Kind)) >>=fun t10=>
 (if(!t10)=true then g2t t else some dSType) >>=fun r=>
 (if(!t10)=true then g7p (t,r)else some false) >>=fun r_1=>
 some (bif t10 then true else(!r_1)) >>=fun t17=>
 (if(!t17)=true then g1k t.Kind else some false) >>=fun r_2=>
 (if((!t17) && r_2)=true then g4y t.Name else some false) >>=fun r_3=>
 if(bif t17 then true else bif r_2 then(!r_3)else false)=true then
 some false
 else
 if decide (t.Kind=2)=true then
 some (decide (t.Low≤t.High))
 else
 if decide (t.Kind=3)=true then
 some (bif decide (0≤t.Max)then decide (t.Max≤200)else false)
 else
 if decide (t.Kind=4)=true then
 g6e t.Symbols >>=fun r_4=>
 some r_4
 else
 some (decide (t.Kind=5)) >>=fun t54=>
 if t54=true then
 if t54=true then
 g5a (t.Members,decide (t.Kind=5)) >>=fun r_5=>
 some r_5
 else
 some (decide (t.Kind=7)) >>=fun t63=>
 if t63=true then
 if t63=true then
 some (bif decide (0≤t.Max)then decide (t.Max≤50)else false)
 else
 some true
 else
 if decide (t.Kind=8)=true then
 some (bif decide (0≤t.Max)then decide (t.Max≤50)else false)
 else
 some true
 else
 if decide (t.Kind=6)=true then
 g5a (t.Members,decide (t.Kind=5)) >>=fun r_6=>
 some r_6
 else
 some (decide (t.Kind=7)) >>=fun t63_1=>
 if t63_1=true then
 if t63_1=true then
 some (bif decide (0≤t.Max)then decide (t.Max≤50)else false)
 else
 some true
 else
 if decide (t.Kind=8)=true then
 some (bif decide (0≤t.Max)then decide (t.Max≤50)else false)
 else
 some true
def g4f(x_:Int × SType × List Int) :Option (SType × List Int):=
 match x_ with
 | (i,b_2,b_3)=>
 if decide (i < (b_2.Members.length:Int))=true then
 if inR i b_2.Members.length=true then
 some [(b_2.Members.getD i.toNat dSMember).Type_] >>=fun t19=>
 if room 8 (b_3++t19).length=true then
 g4f (addI .i64 i 1,b_2,b_3++t19)
 else none
 else none
 else
 some (b_2,b_3)
  partial_fixpoint
def g9k(t:SType) :Option (List Int):=
 g4f (0,t,[]) >>=fun o=>
 if decide (o.1.Kind=8)=true then
 some [o.1.Key] >>=fun t27=>
 if room 8 (o.2++t27).length=true then
 some (o.2++t27) >>=fun l=>
 if(bif bif decide (o.1.Kind=7)then true else decide (o.1.Kind=8)then true else decide (o.1.Kind=9))=true then
 some [o.1.Elem] >>=fun t45=>
 if room 8 (l++t45).length=true then
 some (l++t45)
 else none
 else
 some l
 else none
 else
 if(bif bif decide (o.1.Kind=7)then true else decide (o.1.Kind=8)then true else decide (o.1.Kind=9))=true then
 some [o.1.Elem] >>=fun t45_1=>
 if room 8 (o.2++t45_1).length=true then
 some (o.2++t45_1)
 else none
 else
 some o.2
def g2i(x_:Int × Int × List SType × Int × List UInt8 × Int × Int × Int × List SSymbol × List SMember × Int × Int × Bool) :Option ((Int) ⊕ (Int × List SType × Int × List UInt8 × Int × Int × Int × List SSymbol × List SMember × Int × Int × Bool)):=
 match x_ with
 | (i_3,k,b_23,b_24,b_25,b_26,b_27,b_28,b_29,b_30,b_31,b_32,b_33)=>
 if decide (k < i_3)=true then
 g1k b_24 >>=fun r_3=>
 if(inR k b_23.length || (!r_3))=true then
 if(bif r_3 then decide ((b_23.getD k.toNat dSType).Name=b_25)else false)=true then
 some (.inl 1)
 else
 g2i (i_3,addI .i64 k 1,b_23,b_24,b_25,b_26,b_27,b_28,b_29,b_30,b_31,b_32,b_33)
 else none
 else
 some (.inr (i_3,b_23,b_24,b_25,b_26,b_27,b_28,b_29,b_30,b_31,b_32,b_33))
  partial_fixpoint
def g3r(x_:Int × List Int × Int × List SType × Int × List UInt8 × Int × Int × Int × List SSymbol × List SMember × Int × Int × Bool) :Option ((Int) ⊕ (Int × List SType × Int × List UInt8 × Int × Int × Int × List SSymbol × List SMember × Int × Int × Bool)):=
 match x_ with
 | (i_4,l,k_1,b_34,b_35,b_36,b_37,b_38,b_39,b_40,b_41,b_42,b_43,b_44)=>
 if decide (k_1 < (l.length:Int))=true then
 if inR k_1 l.length=true then
 some (decide (l.getD k_1.toNat 0 < 0)) >>=fun t58=>
 if(inR k_1 l.length || (!(!t58)))=true then
 if(bif t58 then true else decide ((b_34.length:Int)≤l.getD k_1.toNat 0))=true then
 some (.inl 4)
 else
 g3r (i_4,l,addI .i64 k_1 1,b_34,b_35,b_36,b_37,b_38,b_39,b_40,b_41,b_42,b_43,b_44)
 else none
 else none
 else
 some (.inr (i_4,b_34,b_35,b_36,b_37,b_38,b_39,b_40,b_41,b_42,b_43,b_44))
  partial_fixpoint
def g3m(x_:Int × List SType) :Option ((Int) ⊕ (Unit)):=
 match x_ with
 | (i,b)=>
 if decide (i < (b.length:Int))=true then
 if inR i b.length=true then
 some (b.getD i.toNat dSType) >>=fun x0=>
 g16 x0 >>=fun r=>
 if(!r)=true then
 some (.inl 1)
 else
 g2i (i,0,b,x0.Kind,x0.Name,x0.Low,x0.High,x0.Max,x0.Symbols,x0.Members,x0.Key,x0.Elem,x0.Open) >>=fun o_3=>
 match o_3 with
 | .inl o_4=>
 some (.inl o_4)
 | .inr o_5=>
 g9k (⟨o_5.2.2.1,o_5.2.2.2.1,o_5.2.2.2.2.1,o_5.2.2.2.2.2.1,o_5.2.2.2.2.2.2.1,o_5.2.2.2.2.2.2.2.1,o_5.2.2.2.2.2.2.2.2.1,o_5.2.2.2.2.2.2.2.2.2.1,o_5.2.2.2.2.2.2.2.2.2.2.1,o_5.2.2.2.2.2.2.2.2.2.2.2⟩:SType) >>=fun r_1=>
 g3r (o_5.1,r_1,0,o_5.2.1,o_5.2.2.1,o_5.2.2.2.1,o_5.2.2.2.2.1,o_5.2.2.2.2.2.1,o_5.2.2.2.2.2.2.1,o_5.2.2.2.2.2.2.2.1,o_5.2.2.2.2.2.2.2.2.1,o_5.2.2.2.2.2.2.2.2.2.1,o_5.2.2.2.2.2.2.2.2.2.2.1,o_5.2.2.2.2.2.2.2.2.2.2.2) >>=fun o_6=>
 match o_6 with
 | .inl o_7=>
 some (.inl o_7)
 | .inr o_8=>
 some (decide (o_8.2.2.1=8)) >>=fun t71=>
 if(inR o_8.2.2.2.2.2.2.2.2.2.1 o_8.2.1.length || (!t71))=true then
 (if t71=true then g58 (o_8.2.1.getD o_8.2.2.2.2.2.2.2.2.2.1.toNat dSType).Kind else some false) >>=fun r_2=>
 if(bif t71 then(!r_2)else false)=true then
 some (.inl 1)
 else
 g3m (addI .i64 o_8.1 1,o_8.2.1)
 else none
 else none
 else
 some (.inr ())
  partial_fixpoint
def g5u(s:SSchema) :Option (Int):=
 if decide (32 < (s.Types.length:Int))=true then
 some 3
 else
 g3m (0,s.Types) >>=fun o=>
 match o with
 | .inl o_1=>
 some o_1
 | .inr o_2=>
 some 0
def g20(x_:Int × Int × SType) :Option ((Int × Bool) ⊕ (Unit)):=
 match x_ with
 | (id_1,i,b)=>
 if decide (i < (b.Symbols.length:Int))=true then
 if inR i b.Symbols.length=true then
 if decide ((b.Symbols.getD i.toNat dSSymbol).ID=id_1)=true then
 some (.inl (i,true))
 else
 g20 (id_1,addI .i64 i 1,b)
 else none
 else
 some (.inr ())
  partial_fixpoint
theorem gdg :LC 86 0 [0] e86_0 g20:= .rc g20.partial_correctness .n .n fun _ _=>by kernel_rfl
def g5n(x_:SType × Int) :Option (Int × Bool):=
 match x_ with
 | (t,id)=>
 g20 (id,0,t) >>=fun o=>
 match o with
 | .inl o_1=>
 some (o_1.1,o_1.2)
 | .inr o_2=>
 some (0,false)
theorem e86_k :KC e86:= .m (by kernel_rfl)
theorem gg8 :FC e86 g5n:= .fn e86_k .n (.k gdg .n) fun _=>by kernel_rfl
def g29(x_:Int × Int × SType) :Option ((Int × Bool) ⊕ (Unit)):=
 match x_ with
 | (id_1,i,b)=>
 if decide (i < (b.Members.length:Int))=true then
 if inR i b.Members.length=true then
 if decide ((b.Members.getD i.toNat dSMember).ID=id_1)=true then
 some (.inl (i,true))
 else
 g29 (id_1,addI .i64 i 1,b)
 else none
 else
 some (.inr ())
  partial_fixpoint
theorem gdh :LC 87 0 [0] e87_0 g29:= .rc g29.partial_correctness .n .n fun _ _=>by kernel_rfl
end
section
open Go Go.Proofs.YthnmepafpikaiaaGreat.Shv
open Tryz
set_option maxRecDepth 100000
def g1l(x_:SType × Int) :Option (Int × Bool):=
 match x_ with
 | (t,id)=>
 g29 (id,0,t) >>=fun o=>
 match o with
 | .inl o_1=>
 some (o_1.1,o_1.2)
 | .inr o_2=>
 some (0,false)
theorem e87_k :KC e87:= .m (by kernel_rfl)
theorem gg9 :FC e87 g1l:= .fn e87_k .n (.k gdh .n) fun _=>by kernel_rfl
def g4z(n:Int) :Option (Int):=
 if decide (0≤n)=true then
 some (mulI .u64 2 (wrp .u64 n))
 else
 some (addI .u64 (mulI .u64 2 (wrp .u64 (subI .i64 0 (addI .i64 n 1)))) 1)
theorem g10m :KC e104:= .m (by kernel_rfl)
theorem gga :FC e104 g4z:= .fn g10m .n .n fun _=>by kernel_rfl
def g6r(x_:Int × List UInt8) :Option (List UInt8):=
 match x_ with
 | (n_1,out_1)=>
 if decide (0 < n_1)=true then
 some (strOf [wrp .u8 (remI n_1 256)]) >>=fun t10=>
 if decide (t10.length+out_1.length≤g22)=true then
 g6r (quoI .u64 n_1 256,t10++out_1)
 else none
 else
 some out_1
  partial_fixpoint
def g85(n:Int) :Option (List UInt8):=
 g6r (n,[]) >>=fun o=>
 some o
def g6s(x_:Int × List Int) :Option (Int × List Int):=
 match x_ with
 | (n_2,b_1)=>
 if decide (128≤n_2)=true then
 some [wrp .u8 (addI .u64 (remI n_2 128) 128)] >>=fun t11=>
 if room 1 (b_1++t11).length=true then
 g6s (quoI .u64 n_2 128,b_1++t11)
 else none
 else
 some (n_2,b_1)
  partial_fixpoint
def g54(n:Int) :Option (List UInt8):=
 g6s (n,[]) >>=fun o=>
 some [wrp .u8 o.1] >>=fun t18=>
 if room 1 (o.2++t18).length=true then
 some (strOf (o.2++t18))
 else none
def g4r(p:List UInt8) :Option (List UInt8):=
 g54 (wrp .u64 (p.length:Int)) >>=fun r=>
 if decide (r.length+p.length≤g22)=true then
 some (r++p)
 else none
def g74(x_:Int × Bool × List UInt8) :Option (List UInt8):=
 match x_ with
 | (id,critical,p)=>
 some (wrp .u64 (mulI .i64 2 id)) >>=fun t10=>
 if critical=true then
 g54 (addI .u64 t10 1) >>=fun r=>
 g4r p >>=fun r_1=>
 if decide (r.length+r_1.length≤g22)=true then
 some (r++r_1)
 else none
 else
 g54 t10 >>=fun r_2=>
 g4r p >>=fun r_3=>
 if decide (r_2.length+r_3.length≤g22)=true then
 some (r_2++r_3)
 else none
def g1w(x_:List UInt8 × Int × Int × List SType × SValue × SType) :Option (List UInt8 × Int × List SType × SValue × SType):=
 match x_ with
 | (out_9,id_4,k,b_18,b_19,b_20)=>
 if decide (k < (b_19.Rest.length:Int))=true then
 if inR k b_19.Rest.length=true then
 if decide ((b_19.Rest.getD k.toNat dSRaw).ID=id_4)=true then
 if inR k b_19.Rest.length=true then
 g74 (id_4,false,(b_19.Rest.getD k.toNat dSRaw).Data) >>=fun r_22=>
 if decide (out_9.length+r_22.length≤g22)=true then
 g1w (out_9++r_22,id_4,addI .i64 k 1,b_18,SValue.eta b_19,b_20)
 else none
 else none
 else
 g1w (out_9,id_4,addI .i64 k 1,b_18,SValue.eta b_19,b_20)
 else none
 else
 some (out_9,id_4,b_18,SValue.eta b_19,b_20)
  partial_fixpoint
mutual
def g1t(x_:SSchema × Int × SValue) :Option (List UInt8):=
 match x_ with
 | (s,t,v)=>
 if inR t s.Types.length=true then
 some (s.Types.getD t.toNat dSType) >>=fun x0=>
 if decide (x0.Kind=1)=true then
 if v.Bool_=true then
 some [1]
 else
 some []
 else
 if decide (x0.Kind=2)=true then
 g4z v.Int_ >>=fun r=>
 g85 r >>=fun r_1=>
 some r_1
 else
 if decide (x0.Kind=3)=true then
 some v.Str
 else
 if decide (x0.Kind=4)=true then
 g85 (wrp .u64 v.ID) >>=fun r_2=>
 some r_2
 else
 if decide (x0.Kind=9)=true then
 if decide ((v.Items.length:Int)=0)=true then
 some []
 else
 if inR 0 v.Items.length=true then
 g1t (s,x0.Elem,SValue.eta (v.Items.getD (0:Int).toNat dSValue)) >>=fun r_3=>
 if decide ([1].length+r_3.length≤g22)=true then
 some ([1]++r_3)
 else none
 else none
 else
 if decide (x0.Kind=6)=true then
 if decide (0 < (v.Rest.length:Int))=true then
 g54 (wrp .u64 v.ID) >>=fun r_4=>
 if inR 0 v.Rest.length=true then
 some (v.Rest.getD (0:Int).toNat dSRaw) >>=fun x0_2=>
 if decide (r_4.length+x0_2.Data.length≤g22)=true then
 some (r_4++x0_2.Data)
 else none
 else none
 else
 g1l (x0,v.ID) >>=fun r_5=>
 g54 (wrp .u64 v.ID) >>=fun r_8=>
 if inR r_5.1 x0.Members.length=true then
 if inR 0 v.Items.length=true then
 g1t (s,(x0.Members.getD r_5.1.toNat dSMember).Type_,SValue.eta (v.Items.getD (0:Int).toNat dSValue)) >>=fun r_9=>
 if decide (r_8.length+r_9.length≤g22)=true then
 some (r_8++r_9)
 else none
 else none
 else none
 else
 if decide (x0.Kind=7)=true then
 g3s ([],0,s.Types,SValue.eta v,x0) >>=fun o=>
 some o
 else
 if decide (x0.Kind=8)=true then
 g3t ([],0,s.Types,SValue.eta v,x0) >>=fun o_1=>
 some o_1
 else
 g2j ([],1,s.Types,SValue.eta v,x0) >>=fun o_2=>
 some o_2
 else none
  partial_fixpoint
def g3s(x_:List UInt8 × Int × List SType × SValue × SType) :Option (List UInt8):=
 match x_ with
 | (out_3,i,b,b_1,b_2)=>
 if decide (i < (b_1.Items.length:Int))=true then
 if inR i b_1.Items.length=true then
 g1t ((⟨b⟩:SSchema),b_2.Elem,SValue.eta (b_1.Items.getD i.toNat dSValue)) >>=fun r_10=>
 g4r r_10 >>=fun r_11=>
 if decide (out_3.length+r_11.length≤g22)=true then
 g3s (out_3++r_11,addI .i64 i 1,b,SValue.eta b_1,b_2)
 else none
 else none
 else
 some out_3
  partial_fixpoint
def g3t(x_:List UInt8 × Int × List SType × SValue × SType) :Option (List UInt8):=
 match x_ with
 | (out_4,i_1,b_3,b_4,b_5)=>
 if decide (i_1 < (b_4.Items.length:Int))=true then
 if inR i_1 b_4.Keys.length=true then
 g1t ((⟨b_3⟩:SSchema),b_5.Key,SValue.eta (b_4.Keys.getD i_1.toNat dSValue)) >>=fun r_12=>
 g4r r_12 >>=fun r_13=>
 if decide (out_4.length+r_13.length≤g22)=true then
 some (out_4++r_13) >>=fun t144=>
 if inR i_1 b_4.Items.length=true then
 g1t ((⟨b_3⟩:SSchema),b_5.Elem,SValue.eta (b_4.Items.getD i_1.toNat dSValue)) >>=fun r_14=>
 g4r r_14 >>=fun r_15=>
 if decide (t144.length+r_15.length≤g22)=true then
 g3t (t144++r_15,addI .i64 i_1 1,b_3,SValue.eta b_4,b_5)
 else none
 else none
 else none
 else none
 else
 some out_4
  partial_fixpoint
def g2j(x_:List UInt8 × Int × List SType × SValue × SType) :Option (List UInt8):=
 match x_ with
 | (out_5,id,b_6,b_7,b_8)=>
 if decide (id≤1000)=true then
 g1l (b_8,id) >>=fun r_16=>
 if r_16.2=true then
 if inR r_16.1 b_8.Members.length=true then
 some (b_8.Members.getD r_16.1.toNat dSMember) >>=fun x0_8=>
 some (!x0_8.HasDefault) >>=fun t175=>
 if(inR r_16.1 b_7.Items.length || (!(!t175)))=true then
 (if(!t175)=true then g12 (SValue.eta (b_7.Items.getD r_16.1.toNat dSValue),SValue.eta x0_8.Default)else some false) >>=fun r_19=>
 if(bif t175 then true else(!r_19))=true then
 if inR r_16.1 b_7.Items.length=true then
 g1t ((⟨b_6⟩:SSchema),x0_8.Type_,SValue.eta (b_7.Items.getD r_16.1.toNat dSValue)) >>=fun r_20=>
 g74 (id,x0_8.Critical,r_20) >>=fun r_21=>
 if decide (out_5.length+r_21.length≤g22)=true then
 g1w (out_5++r_21,id,0,b_6,SValue.eta b_7,b_8) >>=fun o_3=>
 g2j (o_3.1,addI .i64 o_3.2.1 1,o_3.2.2.1,SValue.eta o_3.2.2.2.1,o_3.2.2.2.2)
 else none
 else none
 else
 g1w (out_5,id,0,b_6,SValue.eta b_7,b_8) >>=fun o_4=>
 g2j (o_4.1,addI .i64 o_4.2.1 1,o_4.2.2.1,SValue.eta o_4.2.2.2.1,o_4.2.2.2.2)
 else none
 else none
 else
 g1w (out_5,id,0,b_6,SValue.eta b_7,b_8) >>=fun o_5=>
 g2j (o_5.1,addI .i64 o_5.2.1 1,o_5.2.2.1,SValue.eta o_5.2.2.2.1,o_5.2.2.2.2)
 else
 some out_5
  partial_fixpoint
end
end
section
open Go Go.Proofs.YthnmepafpikaiaaGreat.Shv
open Tryz
set_option maxRecDepth 100000
def gv(x_:Int × List SType × List Int × Bool) :Option (Int × List SType × List Int × Bool):=
 match x_ with
 | (n,b,b_1,b_2)=>
 if decide ((b_1.length:Int)=0)=true then
 some (0,b,b_1,b_2)
 else
 if inR 0 b_1.length=true then
 if(!(decide (n=0)))=true then
 if slR 1 (b_1.length:Int) b_1.length=true then
 some (remI (wrp .i64 (b_1.getD (0:Int).toNat 0)) n,b,cutL b_1 1 (b_1.length:Int),b_2)
 else none
 else none
 else none
theorem e89_k :KC e89:= .m (by kernel_rfl)
theorem g2o :FC e89 gv:= .fn e89_k .n .n fun _=>by kernel_rfl
def g2e(x_:List UInt8 × Int × List SType × List Int × Bool) :Option (List UInt8 × List SType × List Int × Bool):=
 match x_ with
 | (s_1,n,b_6,b_7,b_8)=>
 if decide (0 < n)=true then
 gv (3,b_6,b_7,b_8) >>=fun r_5=>
 some (g78 (wrp .i32 (addI .i64 97 r_5.1))) >>=fun t21=>
 if decide (s_1.length+t21.length≤g22)=true then
 g2e (s_1++t21,subI .i64 n 1,r_5.2.1,r_5.2.2.1,r_5.2.2.2)
 else none
 else
 some (s_1,b_6,b_7,b_8)
  partial_fixpoint
theorem gbb :LC 90 1 [0] e90_0 g2e:= .rc g2e.partial_correctness (.k g2o .n) .n fun _ _=>by kernel_rfl
def g5i(x_:Int × List SType × List Int × Bool) :Option (List UInt8 × List SType × List Int × Bool):=
 match x_ with
 | (most,b,b_1,b_2)=>
 gv (addI .i64 (minI most 3) 1,b,b_1,b_2) >>=fun r=>
 g2e ([],r.1,r.2.1,r.2.2.1,r.2.2.2) >>=fun o=>
 some (o.1,o.2.1,o.2.2.1,o.2.2.2)
theorem e90_k :KC e90:= .m (by kernel_rfl)
theorem gd8 :FC e90 g5i:= .fn e90_k (.k g2o .n) (.k gbb .n) fun _=>by kernel_rfl
def g40(x_:List SType × List Int × Bool) :Option (Bool × List SType × List Int × Bool):=
 match x_ with
 | (b,b_1,b_2)=>
 if b_2=true then
 gv (4,b,b_1,b_2) >>=fun r=>
 some (bif b_2 then decide (r.1=3)else false,r.2.1,r.2.2.1,r.2.2.2)
 else
 some (bif b_2 then false else false,b,b_1,b_2)
theorem e91_k :KC e91:= .m (by kernel_rfl)
theorem gdi :FC e91 g40:= .fn e91_k (.k g2o .n) .n fun _=>by kernel_rfl
def g7q(x_:SType × Int) :Option (Bool):=
 match x_ with
 | (t,n)=>
 g1l (t,n) >>=fun r=>
 g5n (t,n) >>=fun r_3=>
 some (bif r.2 then true else r_3.2)
theorem g10n :KC e130:= .m (by kernel_rfl)
theorem gi8 :FC e130 g7q:= .fn g10n (.k gg9 (.k gg8 .n)) .n fun _=>by kernel_rfl
def g2l(x_:Int × List SType × List Int × Bool × SType) :Option (Int × List SType × List Int × Bool):=
 match x_ with
 | (n_1,b_6,b_7,b_8,b_9)=>
 g7q (b_9,n_1) >>=fun r_5=>
 if r_5=true then
 g2l (addI .i64 n_1 1,b_6,b_7,b_8,b_9)
 else
 some (n_1,b_6,b_7,b_8)
  partial_fixpoint
theorem gab :LC 92 1 [0] e92_0 g2l:= .rc g2l.partial_correctness (.k gi8 .n) .n fun _ _=>by kernel_rfl
end
section
open Go Go.Proofs.YthnmepafpikaiaaGreat.Shv
open Tryz
set_option maxRecDepth 100000
def g21(x_:SType × List SType × List Int × Bool) :Option (Int × List SType × List Int × Bool):=
 match x_ with
 | (t,b,b_1,b_2)=>
 gv (14,b,b_1,b_2) >>=fun r=>
 g2l (addI .i64 1 r.1,r.2.1,r.2.2.1,r.2.2.2,t) >>=fun o=>
 some (o.1,o.2.1,o.2.2.1,o.2.2.2)
theorem e92_k :KC e92:= .m (by kernel_rfl)
theorem gbc :FC e92 g21:= .fn e92_k (.k g2o .n) (.k gab .n) fun _=>by kernel_rfl
def g41(x_:Int × List SType × List Int × Bool) :Option (SRaw × List SType × List Int × Bool):=
 match x_ with
 | (n,b,b_1,b_2)=>
 some [[],[1],[97],[3,1,2]] >>=fun t6=>
 gv (4,b,b_1,b_2) >>=fun r=>
 if inR r.1 t6.length=true then
 some ((⟨n,t6.getD r.1.toNat []⟩:SRaw),r.2.1,r.2.2.1,r.2.2.2)
 else none
theorem e93_k :KC e93:= .m (by kernel_rfl)
theorem gdj :FC e93 g41:= .fn e93_k (.k g2o .n) .n fun _=>by kernel_rfl
def g1p(x_:Bool × Bool) :Option (Int):=
 match x_ with
 | (less,equal)=>
 if equal=true then
 some 0
 else
 if less=true then
 some (-1)
 else
 some 1
theorem g10o :KC e154:= .m (by kernel_rfl)
theorem gh2 :FC e154 g1p:= .fn g10o .n .n fun _=>by kernel_rfl
def g2r(x_:SValue × SValue) :Option (Int):=
 match x_ with
 | (a,b)=>
 if(!(decide (a.Kind=b.Kind)))=true then
 some 0
 else
 if decide (a.Kind=1)=true then
 g1p (b.Bool_,eqB a.Bool_ b.Bool_) >>=fun r=>
 some r
 else
 if decide (a.Kind=2)=true then
 g4z a.Int_ >>=fun r_1=>
 g4z b.Int_ >>=fun r_2=>
 g1p (decide (r_1 < r_2),decide (a.Int_=b.Int_)) >>=fun r_3=>
 some r_3
 else
 if decide (a.Kind=3)=true then
 if(!(decide ((a.Str.length:Int)=(b.Str.length:Int))))=true then
 g1p (decide ((a.Str.length:Int) < (b.Str.length:Int)),false) >>=fun r_4=>
 some r_4
 else
 g1p (Op.bytesLess a.Str b.Str,decide (a.Str=b.Str)) >>=fun r_5=>
 some r_5
 else
 if decide (a.Kind=4)=true then
 g1p (decide (a.ID < b.ID),decide (a.ID=b.ID)) >>=fun r_6=>
 some r_6
 else
 some 0
theorem g10p :KC e131:= .m (by kernel_rfl)
theorem g9p :FC e131 g2r:= .fn g10p (.k gh2 (.k gga .n)) .n fun _=>by kernel_rfl
def g3i(x_:Int × SValue × SValue × SValue × Int × Bool × Int × List UInt8 × Int) :Option (Int × SValue × SValue × SValue × Int × Bool × Int × List UInt8 × Int):=
 match x_ with
 | (i_1,b_8,b_9,b_10,b_11,b_12,b_13,b_14,b_15)=>
 some (decide (i_1 < (b_8.Keys.length:Int))) >>=fun t12=>
 if(inR i_1 b_8.Keys.length || (!t12))=true then
 (if t12=true then g2r (SValue.eta (b_8.Keys.getD i_1.toNat dSValue),SValue.eta b_9)else some 0) >>=fun r_1=>
 if(bif t12 then decide (r_1 < 0)else false)=true then
 g3i (addI .i64 i_1 1,SValue.eta b_8,SValue.eta b_9,SValue.eta b_10,b_11,b_12,b_13,b_14,b_15)
 else
 some (i_1,SValue.eta b_8,SValue.eta b_9,SValue.eta b_10,b_11,b_12,b_13,b_14,b_15)
 else none
  partial_fixpoint
theorem ggb :LC 94 0 [0] e94_0 g3i:= .rc g3i.partial_correctness (.k g9p .n) .n fun _ _=>by kernel_rfl
def g86(x_:SValue × SValue × SValue) :Option (SValue):=
 match x_ with
 | (v,key,item)=>
 g3i (0,SValue.eta v,SValue.eta key,SValue.eta item,0,false,0,[],0) >>=fun o=>
 some (decide (o.1 < (o.2.1.Keys.length:Int))) >>=fun t29=>
 if(inR o.1 o.2.1.Keys.length || (!t29))=true then
 (if t29=true then g2r (SValue.eta (o.2.1.Keys.getD o.1.toNat dSValue),SValue.eta o.2.2.1)else some 0) >>=fun r=>
 if(bif t29 then decide (r=0)else false)=true then
 some (SValue.eta o.2.1)
 else
 if slR 0 o.1 o.2.1.Keys.length=true then
 some (cutL o.2.1.Keys 0 o.1) >>=fun t45=>
 if room 120 ([]++t45).length=true then
 some ([]++t45) >>=fun l=>
 some [SValue.eta o.2.2.1] >>=fun t48=>
 if room 120 (l++t48).length=true then
 some (l++t48) >>=fun l_1=>
 if slR o.1 (o.2.1.Keys.length:Int) o.2.1.Keys.length=true then
 some (cutL o.2.1.Keys o.1 (o.2.1.Keys.length:Int)) >>=fun t53=>
 if room 120 (l_1++t53).length=true then
 if slR 0 o.1 o.2.1.Items.length=true then
 some (cutL o.2.1.Items 0 o.1) >>=fun t60=>
 if room 120 ([]++t60).length=true then
 some ([]++t60) >>=fun l_3=>
 some [SValue.eta o.2.2.2.1] >>=fun t63=>
 if room 120 (l_3++t63).length=true then
 some (l_3++t63) >>=fun l_4=>
 if slR o.1 (o.2.1.Items.length:Int) o.2.1.Items.length=true then
 some (cutL o.2.1.Items o.1 (o.2.1.Items.length:Int)) >>=fun t68=>
 if room 120 (l_4++t68).length=true then
 some (⟨o.2.1.Kind,o.2.1.Bool_,o.2.1.Int_,o.2.1.Str,o.2.1.ID,l_1++t53,l_4++t68,o.2.1.Rest⟩:SValue)
 else none
 else none
 else none
 else none
 else none
 else none
 else none
 else none
 else none
 else none
 else none
theorem e94_k :KC e94:= .m (by kernel_rfl)
theorem giu :FC e94 g86:= .fn e94_k (.k g9p .n) (.k ggb .n) fun _=>by kernel_rfl
mutual
def gz(x_:Int × List SType × List Int × Bool) :Option (SValue × List SType × List Int × Bool):=
 match x_ with
 | (t,b,b_1,b_2)=>
 if inR t b.length=true then
 some (b.getD t.toNat dSType) >>=fun x0=>
 if decide (x0.Kind=1)=true then
 gv (2,b,b_1,b_2) >>=fun r=>
 some ((⟨x0.Kind,decide (r.1=1),0,[],0,[],[],[]⟩:SValue),r.2.1,r.2.2.1,r.2.2.2)
 else
 if decide (x0.Kind=2)=true then
 gv (256,b,b_1,b_2) >>=fun r_5=>
 some (addI .i64 (subI .i64 x0.High x0.Low) 1) >>=fun t51=>
 if(!(decide (t51=0)))=true then
 some ((⟨x0.Kind,false,addI .i64 x0.Low (remI r_5.1 t51),[],0,[],[],[]⟩:SValue),r_5.2.1,r_5.2.2.1,r_5.2.2.2)
 else none
 else
 if decide (x0.Kind=3)=true then
 g5i (x0.Max,b,b_1,b_2) >>=fun r_10=>
 some ((⟨x0.Kind,false,0,r_10.1,0,[],[],[]⟩:SValue),r_10.2.1,r_10.2.2.1,r_10.2.2.2)
 else
 if decide (x0.Kind=4)=true then
 gv ((x0.Symbols.length:Int),b,b_1,b_2) >>=fun r_15=>
 if inR r_15.1 x0.Symbols.length=true then
 some (x0.Symbols.getD r_15.1.toNat dSSymbol) >>=fun x0_1=>
 if x0.Open=true then
 g40 (r_15.2.1,r_15.2.2.1,r_15.2.2.2) >>=fun r_20=>
 if(bif x0.Open then r_20.1 else false)=true then
 g21 (x0,r_20.2.1,r_20.2.2.1,r_20.2.2.2) >>=fun r_25=>
 some ((⟨x0.Kind,false,0,[],r_25.1,[],[],[]⟩:SValue),r_25.2.1,r_25.2.2.1,r_25.2.2.2)
 else
 some ((⟨x0.Kind,false,0,[],x0_1.ID,[],[],[]⟩:SValue),r_20.2.1,r_20.2.2.1,r_20.2.2.2)
 else
 if(bif x0.Open then false else false)=true then
 g21 (x0,r_15.2.1,r_15.2.2.1,r_15.2.2.2) >>=fun r_30=>
 some ((⟨x0.Kind,false,0,[],r_30.1,[],[],[]⟩:SValue),r_30.2.1,r_30.2.2.1,r_30.2.2.2)
 else
 some ((⟨x0.Kind,false,0,[],x0_1.ID,[],[],[]⟩:SValue),r_15.2.1,r_15.2.2.1,r_15.2.2.2)
 else none
 else
 if decide (x0.Kind=5)=true then
 g1b (0,b,b_1,b_2,0,false,0,[],0,x0.Kind,x0.Name,x0.Low,x0.High,x0.Max,x0.Symbols,x0.Members,x0.Key,x0.Elem,x0.Open,x0.Kind,false,0,[],0,[]) >>=fun o=>
 g40 (o.1,o.2.1,o.2.2.1) >>=fun r_35=>
 if r_35.1=true then
 g21 ((⟨o.2.2.2.2.2.2.2.2.1,o.2.2.2.2.2.2.2.2.2.1,o.2.2.2.2.2.2.2.2.2.2.1,o.2.2.2.2.2.2.2.2.2.2.2.1,o.2.2.2.2.2.2.2.2.2.2.2.2.1,o.2.2.2.2.2.2.2.2.2.2.2.2.2.1,o.2.2.2.2.2.2.2.2.2.2.2.2.2.2.1,o.2.2.2.2.2.2.2.2.2.2.2.2.2.2.2.1,o.2.2.2.2.2.2.2.2.2.2.2.2.2.2.2.2.1,o.2.2.2.2.2.2.2.2.2.2.2.2.2.2.2.2.2.1⟩:SType),r_35.2.1,r_35.2.2.1,r_35.2.2.2) >>=fun r_40=>
 g41 (r_40.1,r_40.2.1,r_40.2.2.1,r_40.2.2.2) >>=fun r_45=>
 some ((⟨o.2.2.2.2.2.2.2.2.2.2.2.2.2.2.2.2.2.2.1,o.2.2.2.2.2.2.2.2.2.2.2.2.2.2.2.2.2.2.2.1,o.2.2.2.2.2.2.2.2.2.2.2.2.2.2.2.2.2.2.2.2.1,o.2.2.2.2.2.2.2.2.2.2.2.2.2.2.2.2.2.2.2.2.2.1,o.2.2.2.2.2.2.2.2.2.2.2.2.2.2.2.2.2.2.2.2.2.2.1,[],o.2.2.2.2.2.2.2.2.2.2.2.2.2.2.2.2.2.2.2.2.2.2.2,[r_45.1]⟩:SValue),r_45.2.1,r_45.2.2.1,r_45.2.2.2)
 else
 some ((⟨o.2.2.2.2.2.2.2.2.2.2.2.2.2.2.2.2.2.2.1,o.2.2.2.2.2.2.2.2.2.2.2.2.2.2.2.2.2.2.2.1,o.2.2.2.2.2.2.2.2.2.2.2.2.2.2.2.2.2.2.2.2.1,o.2.2.2.2.2.2.2.2.2.2.2.2.2.2.2.2.2.2.2.2.2.1,o.2.2.2.2.2.2.2.2.2.2.2.2.2.2.2.2.2.2.2.2.2.2.1,[],o.2.2.2.2.2.2.2.2.2.2.2.2.2.2.2.2.2.2.2.2.2.2.2,[]⟩:SValue),r_35.2.1,r_35.2.2.1,r_35.2.2.2)
 else
 if decide (x0.Kind=6)=true then
 if x0.Open=true then
 g40 (b,b_1,b_2) >>=fun r_50=>
 if(bif x0.Open then r_50.1 else false)=true then
 g21 (x0,r_50.2.1,r_50.2.2.1,r_50.2.2.2) >>=fun r_55=>
 g41 (r_55.1,r_55.2.1,r_55.2.2.1,r_55.2.2.2) >>=fun r_60=>
 some ((⟨x0.Kind,false,0,[],r_55.1,[],[],[r_60.1]⟩:SValue),r_60.2.1,r_60.2.2.1,r_60.2.2.2)
 else
 gv ((x0.Members.length:Int),r_50.2.1,r_50.2.2.1,r_50.2.2.2) >>=fun r_65=>
 if inR r_65.1 x0.Members.length=true then
 some (x0.Members.getD r_65.1.toNat dSMember) >>=fun x0_2=>
 gz (x0_2.Type_,r_65.2.1,r_65.2.2.1,r_65.2.2.2) >>=fun r_70=>
 some ((⟨x0.Kind,false,0,[],x0_2.ID,[],[SValue.eta r_70.1],[]⟩:SValue),r_70.2.1,r_70.2.2.1,r_70.2.2.2)
 else none
 else
 if(bif x0.Open then false else false)=true then
 g21 (x0,b,b_1,b_2) >>=fun r_75=>
 g41 (r_75.1,r_75.2.1,r_75.2.2.1,r_75.2.2.2) >>=fun r_80=>
 some ((⟨x0.Kind,false,0,[],r_75.1,[],[],[r_80.1]⟩:SValue),r_80.2.1,r_80.2.2.1,r_80.2.2.2)
 else
 gv ((x0.Members.length:Int),b,b_1,b_2) >>=fun r_85=>
 if inR r_85.1 x0.Members.length=true then
 some (x0.Members.getD r_85.1.toNat dSMember) >>=fun x0_3=>
 gz (x0_3.Type_,r_85.2.1,r_85.2.2.1,r_85.2.2.2) >>=fun r_90=>
 some ((⟨x0.Kind,false,0,[],x0_3.ID,[],[SValue.eta r_90.1],[]⟩:SValue),r_90.2.1,r_90.2.2.1,r_90.2.2.2)
 else none
 else
 if decide (x0.Kind=7)=true then
 gv (addI .i64 (minI x0.Max 3) 1,b,b_1,b_2) >>=fun r_95=>
 g1x (r_95.1,r_95.2.1,r_95.2.2.1,r_95.2.2.2,0,false,0,[],0,x0.Kind,x0.Name,x0.Low,x0.High,x0.Max,x0.Symbols,x0.Members,x0.Key,x0.Elem,x0.Open,x0.Kind,false,0,[],0,[]) >>=fun o_1=>
 some ((⟨o_1.2.2.2.2.2.2.2.2.1,o_1.2.2.2.2.2.2.2.2.2.1,o_1.2.2.2.2.2.2.2.2.2.2.1,o_1.2.2.2.2.2.2.2.2.2.2.2.1,o_1.2.2.2.2.2.2.2.2.2.2.2.2.1,[],o_1.2.2.2.2.2.2.2.2.2.2.2.2.2,[]⟩:SValue),o_1.1,o_1.2.1,o_1.2.2.1)
 else
 if decide (x0.Kind=8)=true then
 gv (addI .i64 (minI x0.Max 3) 1,b,b_1,b_2) >>=fun r_100=>
 g1y (r_100.1,r_100.2.1,r_100.2.2.1,r_100.2.2.2,0,false,0,[],0,x0.Kind,x0.Name,x0.Low,x0.High,x0.Max,x0.Symbols,x0.Members,x0.Key,x0.Elem,x0.Open,x0.Kind,false,0,[],0,[],[],[]) >>=fun o_2=>
 some ((⟨o_2.2.2.2.2.2.2.2.2.1,o_2.2.2.2.2.2.2.2.2.2.1,o_2.2.2.2.2.2.2.2.2.2.2.1,o_2.2.2.2.2.2.2.2.2.2.2.2.1,o_2.2.2.2.2.2.2.2.2.2.2.2.2.1,o_2.2.2.2.2.2.2.2.2.2.2.2.2.2.1,o_2.2.2.2.2.2.2.2.2.2.2.2.2.2.2.1,o_2.2.2.2.2.2.2.2.2.2.2.2.2.2.2.2⟩:SValue),o_2.1,o_2.2.1,o_2.2.2.1)
 else
 gv (2,b,b_1,b_2) >>=fun r_105=>
 if decide (r_105.1=1)=true then
 gz (x0.Elem,r_105.2.1,r_105.2.2.1,r_105.2.2.2) >>=fun r_110=>
 some ((⟨x0.Kind,false,0,[],0,[],[SValue.eta r_110.1],[]⟩:SValue),r_110.2.1,r_110.2.2.1,r_110.2.2.2)
 else
 some ((⟨x0.Kind,false,0,[],0,[],[],[]⟩:SValue),r_105.2.1,r_105.2.2.1,r_105.2.2.2)
 else none
  partial_fixpoint
def g1b(x_:Int × List SType × List Int × Bool × Int × Bool × Int × List UInt8 × Int × Int × List UInt8 × Int × Int × Int × List SSymbol × List SMember × Int × Int × Bool × Int × Bool × Int × List UInt8 × Int × List SValue) :Option (List SType × List Int × Bool × Int × Bool × Int × List UInt8 × Int × Int × List UInt8 × Int × Int × Int × List SSymbol × List SMember × Int × Int × Bool × Int × Bool × Int × List UInt8 × Int × List SValue):=
 match x_ with
 | (i,b_57,b_58,b_59,b_60,b_61,b_62,b_63,b_64,b_65,b_66,b_67,b_68,b_69,b_70,b_71,b_72,b_73,b_74,b_75,b_76,b_77,b_78,b_79,b_80)=>
 if decide (i < (b_71.length:Int))=true then
 if inR i b_71.length=true then
 some (b_71.getD i.toNat dSMember) >>=fun x0_4=>
 if x0_4.HasDefault=true then
 gv (3,b_57,b_58,b_59) >>=fun r_115=>
 if(bif x0_4.HasDefault then decide (r_115.1=0)else false)=true then
 if inR i b_71.length=true then
 some [SValue.eta (b_71.getD i.toNat dSMember).Default] >>=fun t113=>
 if room 120 (b_80++t113).length=true then
 g1b (addI .i64 i 1,r_115.2.1,r_115.2.2.1,r_115.2.2.2,b_60,b_61,b_62,b_63,b_64,b_65,b_66,b_67,b_68,b_69,b_70,b_71,b_72,b_73,b_74,b_75,b_76,b_77,b_78,b_79,b_80++t113)
 else none
 else none
 else
 if inR i b_71.length=true then
 gz ((b_71.getD i.toNat dSMember).Type_,r_115.2.1,r_115.2.2.1,r_115.2.2.2) >>=fun r_120=>
 some [SValue.eta r_120.1] >>=fun t126=>
 if room 120 (b_80++t126).length=true then
 g1b (addI .i64 i 1,r_120.2.1,r_120.2.2.1,r_120.2.2.2,b_60,b_61,b_62,b_63,b_64,b_65,b_66,b_67,b_68,b_69,b_70,b_71,b_72,b_73,b_74,b_75,b_76,b_77,b_78,b_79,b_80++t126)
 else none
 else none
 else
 if(bif x0_4.HasDefault then false else false)=true then
 if inR i b_71.length=true then
 some [SValue.eta (b_71.getD i.toNat dSMember).Default] >>=fun t113_1=>
 if room 120 (b_80++t113_1).length=true then
 g1b (addI .i64 i 1,b_57,b_58,b_59,b_60,b_61,b_62,b_63,b_64,b_65,b_66,b_67,b_68,b_69,b_70,b_71,b_72,b_73,b_74,b_75,b_76,b_77,b_78,b_79,b_80++t113_1)
 else none
 else none
 else
 if inR i b_71.length=true then
 gz ((b_71.getD i.toNat dSMember).Type_,b_57,b_58,b_59) >>=fun r_125=>
 some [SValue.eta r_125.1] >>=fun t126_1=>
 if room 120 (b_80++t126_1).length=true then
 g1b (addI .i64 i 1,r_125.2.1,r_125.2.2.1,r_125.2.2.2,b_60,b_61,b_62,b_63,b_64,b_65,b_66,b_67,b_68,b_69,b_70,b_71,b_72,b_73,b_74,b_75,b_76,b_77,b_78,b_79,b_80++t126_1)
 else none
 else none
 else none
 else
 some (b_57,b_58,b_59,b_60,b_61,b_62,b_63,b_64,b_65,b_66,b_67,b_68,b_69,b_70,b_71,b_72,b_73,b_74,b_75,b_76,b_77,b_78,b_79,b_80)
  partial_fixpoint
def g1x(x_:Int × List SType × List Int × Bool × Int × Bool × Int × List UInt8 × Int × Int × List UInt8 × Int × Int × Int × List SSymbol × List SMember × Int × Int × Bool × Int × Bool × Int × List UInt8 × Int × List SValue) :Option (List SType × List Int × Bool × Int × Bool × Int × List UInt8 × Int × Int × Bool × Int × List UInt8 × Int × List SValue):=
 match x_ with
 | (n,b_81,b_82,b_83,b_84,b_85,b_86,b_87,b_88,b_89,b_90,b_91,b_92,b_93,b_94,b_95,b_96,b_97,b_98,b_99,b_100,b_101,b_102,b_103,b_104)=>
 if decide (0 < n)=true then
 gz (b_97,b_81,b_82,b_83) >>=fun r_130=>
 some [SValue.eta r_130.1] >>=fun t193=>
 if room 120 (b_104++t193).length=true then
 g1x (subI .i64 n 1,r_130.2.1,r_130.2.2.1,r_130.2.2.2,b_84,b_85,b_86,b_87,b_88,b_89,b_90,b_91,b_92,b_93,b_94,b_95,b_96,b_97,b_98,b_99,b_100,b_101,b_102,b_103,b_104++t193)
 else none
 else
 some (b_81,b_82,b_83,b_84,b_85,b_86,b_87,b_88,b_99,b_100,b_101,b_102,b_103,b_104)
  partial_fixpoint
def g1y(x_:Int × List SType × List Int × Bool × Int × Bool × Int × List UInt8 × Int × Int × List UInt8 × Int × Int × Int × List SSymbol × List SMember × Int × Int × Bool × Int × Bool × Int × List UInt8 × Int × List SValue × List SValue × List SRaw) :Option (List SType × List Int × Bool × Int × Bool × Int × List UInt8 × Int × Int × Bool × Int × List UInt8 × Int × List SValue × List SValue × List SRaw):=
 match x_ with
 | (n_1,b_105,b_106,b_107,b_108,b_109,b_110,b_111,b_112,b_113,b_114,b_115,b_116,b_117,b_118,b_119,b_120,b_121,b_122,b_123,b_124,b_125,b_126,b_127,b_128,b_129,b_130)=>
 if decide (0 < n_1)=true then
 gz (b_120,b_105,b_106,b_107) >>=fun r_135=>
 gz (b_121,r_135.2.1,r_135.2.2.1,r_135.2.2.2) >>=fun r_140=>
 g86 ((⟨b_123,b_124,b_125,b_126,b_127,b_128,b_129,b_130⟩:SValue),SValue.eta r_135.1,SValue.eta r_140.1) >>=fun r_145=>
 g1y (subI .i64 n_1 1,r_140.2.1,r_140.2.2.1,r_140.2.2.2,b_108,b_109,b_110,b_111,b_112,b_113,b_114,b_115,b_116,b_117,b_118,b_119,b_120,b_121,b_122,r_145.Kind,r_145.Bool_,r_145.Int_,r_145.Str,r_145.ID,r_145.Keys,r_145.Items,r_145.Rest)
 else
 some (b_105,b_106,b_107,b_108,b_109,b_110,b_111,b_112,b_123,b_124,b_125,b_126,b_127,b_128,b_129,b_130)
  partial_fixpoint
end
theorem e55_k :KC e55:= .m (by kernel_rfl)
theorem gbd :(∀h r,gz h=some r→FD e55 h r)∧(∀h r,g1y h=some r→LD 55 1 [2] e55_2 h r)∧(∀h r,g1x h=some r→LD 55 1 [1] e55_1 h r)∧(∀h r,g1b h=some r→LD 55 1 [0] e55_0 h r):=gz.mutual_partial_correctness (FD e55) (LD 55 1 [2] e55_2) (LD 55 1 [1] e55_1) (LD 55 1 [0] e55_0)
 (fun _ _ _ _ h0 h1 h2 h3 _ _ h=>FA e55 e55_k (.k g2o (.k gd8 (.k gdi (.k gbc (.k gdj (.k (FH e55 e55_k h0) .n)))))) (.k (LH e55_0 h3) (.k (LH e55_1 h2) (.k (LH e55_2 h1) .n))) (.trans (by kernel_rfl) h))
 (fun _ _ h0 h1 _ _ h=>LA e55_2 h1 (.k (FH e55 e55_k h0) (.k giu .n)) .n (.trans (by kernel_rfl) h))
 (fun _ _ h0 h2 _ _ h=>LA e55_1 h2 (.k (FH e55 e55_k h0) .n) .n (.trans (by kernel_rfl) h))
 (fun _ _ h0 h3 _ _ h=>LA e55_0 h3 (.k g2o (.k (FH e55 e55_k h0) .n)) .n (.trans (by kernel_rfl) h))
theorem g87 :FC e55 gz:= .of e55_k gbd.1
def g6a(x_:SSchema × Int × List Int) :Option (SValue):=
 match x_ with
 | (s,t,choices)=>
 some (minI 60 (choices.length:Int)) >>=fun t12=>
 if slR 0 t12 choices.length=true then
 gz (t,s.Types,cutL choices 0 t12,false) >>=fun r=>
 some (SValue.eta r.1)
 else none
theorem e24_k :KC e24:= .m (by kernel_rfl)
theorem gbe :FC e24 g6a:= .fn e24_k (.k g87 .n) .n fun _=>by kernel_rfl
def g5b(x_:SSchema × Int × List Int) :Option (SValue):=
 match x_ with
 | (s,t,choices)=>
 some (minI 60 (choices.length:Int)) >>=fun t12=>
 if slR 0 t12 choices.length=true then
 gz (t,s.Types,cutL choices 0 t12,true) >>=fun r=>
 some (SValue.eta r.1)
 else none
theorem e25_k :KC e25:= .m (by kernel_rfl)
theorem g9q :FC e25 g5b:= .fn e25_k (.k g87 .n) .n fun _=>by kernel_rfl
def g63(d:Sheaveref08Draft) :Option (SSchema × Int × SValue × SValue × Bool):=
 g5e d.S >>=fun r=>
 if(!r.2)=true then
 some (r.1,0,(⟨0,false,0,[],0,[],[],[]⟩:SValue),(⟨0,false,0,[],0,[],[],[]⟩:SValue),false)
 else
 some (r.1.Types.length:Int) >>=fun t26=>
 if(!(decide (t26=0)))=true then
 some (remI (wrp .i64 d.T) t26) >>=fun t27=>
 g6a (r.1,t27,d.C) >>=fun r_3=>
 g5b (r.1,t27,d.C) >>=fun r_4=>
 some (r.1,t27,SValue.eta r_3,SValue.eta r_4,true)
 else none
theorem e23_k :KC e23:= .m (by kernel_rfl)
theorem gk4 :FC e23 g63:= .fn e23_k (.k gk3 (.k gbe (.k g9q .n))) .n fun _=>by kernel_rfl
def g75(x_:SValue × SValue) :Option (Bool):=
 match x_ with
 | (a,b)=>
 g12 (SValue.eta a,SValue.eta b) >>=fun r=>
 some r
theorem e27_k :KC e27:= .m (by kernel_rfl)
theorem gh3 :FC e27 g75:= .fn e27_k (.k gdf .n) .n fun _=>by kernel_rfl
end
section
open Go Go.Proofs.YthnmepafpikaiaaGreat.Shv
open Tryz
set_option maxRecDepth 100000
def g18(x_:Int × Int × Int × Int × Int × Int × List SType × List SValue) :Option ((Bool) ⊕ (Int × Int × Int × List SType × List SValue)):=
 match x_ with
 | (t_2,i,t45_2,t46_2,t49,t50,b_4,b_5)=>
 if decide (t50 < t49)=true then
 if inR i b_5.length=true then
 if decide (i.toNat < b_5.length)=true then
 g6h ((⟨b_4⟩:SSchema),t_2,SValue.eta (b_5.getD i.toNat dSValue)) >>=fun r_10=>
 if inR t50 b_5.length=true then
 if decide (t50.toNat < b_5.length)=true then
 g6h ((⟨b_4⟩:SSchema),t_2,SValue.eta (b_5.getD t50.toNat dSValue)) >>=fun r_13=>
 some (bif decide (r_10.2=0)then decide (r_13.2=0)else false) >>=fun t78=>
 if(inR i b_5.length || (!t78))=true then
 if(decide (i.toNat < b_5.length) || (!t78))=true then
 if(inR t50 b_5.length || (!t78))=true then
 if(decide (t50.toNat < b_5.length) || (!t78))=true then
 (if t78=true then g75 (SValue.eta (b_5.getD i.toNat dSValue),SValue.eta (b_5.getD t50.toNat dSValue))else some false) >>=fun r_16=>
 if(bif t78 then(!(eqB (decide (r_10.1=r_13.1)) r_16))else false)=true then
 some (.inl false)
 else
 g18 (t_2,i,t45_2,t46_2,t49,addI .i64 t50 1,b_4,b_5)
 else none
 else none
 else none
 else none
 else none
 else none
 else none
 else none
 else
 some (.inr (t_2,t45_2,t46_2,b_4,b_5))
  partial_fixpoint
theorem g92 :LC 5 0 [0,0] gvp g18:= .rc g18.partial_correctness (.k glm (.k gh3 .n)) .n fun _ _=>by kernel_rfl
def g1m(x_:Int × Int × Int × List SType × List SValue) :Option ((Bool) ⊕ (Unit)):=
 match x_ with
 | (t,t45,t46,b,b_1)=>
 if decide (t46 < t45)=true then
 g18 (t,t46,t45,t46,t46,0,b,b_1) >>=fun o_3=>
 match o_3 with
 | .inl o_4=>
 some (.inl o_4)
 | .inr o_5=>
 g1m (o_5.1,o_5.2.1,addI .i64 o_5.2.2.1 1,o_5.2.2.2.1,o_5.2.2.2.2)
 else
 some (.inr ())
  partial_fixpoint
theorem g9l :LC 5 0 [0] e5_0 g1m:= .rc g1m.partial_correctness .n (.k g92 .n) fun _ _=>by kernel_rfl
def g4d(x0:Sheavelaw09Two) :Option (Bool):=
 g63 (⟨(⟨x0.D.S.Nodes⟩:Sheaveref07Draft),x0.D.T,x0.D.C⟩:Sheaveref08Draft) >>=fun r=>
 g73 () >>=fun r_6=>
 if(bif (!r_6)then true else(!r.2.2.2.2))=true then
 g73 () >>=fun r_7=>
 some r_7
 else
 g6a (r.1,r.2.1,x0.C) >>=fun r_8=>
 g5b (r.1,r.2.1,x0.C) >>=fun r_9=>
 g1m (r.2.1,4,0,r.1.Types,[SValue.eta r.2.2.1,SValue.eta r.2.2.2.1,SValue.eta r_8,SValue.eta r_9]) >>=fun o=>
 match o with
 | .inl o_1=>
 some o_1
 | .inr o_2=>
 some true
theorem e5_k :KC e5:= .m (by kernel_rfl)
theorem gm7 :FC e5 g4d:= .fn e5_k (.k gk4 (.k ggv (.k gbe (.k g9q .n)))) (.k g9l .n) fun _=>by kernel_rfl
def g5f(v:SValue) :Option (Bool):=
 some (bif bif bif bif bif bif bif decide (v.Kind=1)then true else(!v.Bool_)then bif decide (v.Kind=2)then true else decide (v.Int_=0)else false then bif decide (v.Kind=3)then true else decide (v.Str=[])else false then bif bif decide (v.Kind=4)then true else decide (v.Kind=6)then true else decide (v.ID=0)else false then bif decide (v.Kind=8)then true else decide ((v.Keys.length:Int)=0)else false then bif decide (5≤v.Kind)then true else decide ((v.Items.length:Int)=0)else false then bif bif decide (v.Kind=5)then true else decide (v.Kind=6)then true else decide ((v.Rest.length:Int)=0)else false)
def g1h(x_:Int × Bool) :Option (Bool):=
 match x_ with
 | (n,known)=>
 some (bif bif (!known)then decide (1≤n)else false then decide (n≤1000)else false)
def g1n(x_:List SRaw × Int × SType) :Option ((Bool) ⊕ (Unit)):=
 match x_ with
 | (l_1,i,b)=>
 if decide (i < (l_1.length:Int))=true then
 if inR i l_1.length=true then
 g1l (b,(l_1.getD i.toNat dSRaw).ID) >>=fun r=>
 if inR i l_1.length=true then
 g1h ((l_1.getD i.toNat dSRaw).ID,r.2) >>=fun r_3=>
 some (!r_3) >>=fun t31=>
 some (decide (0 < i)) >>=fun t34=>
 if(inR i l_1.length || (!((!t31) && t34)))=true then
 some (subI .i64 i 1) >>=fun t43=>
 if(inR t43 l_1.length || (!((!t31) && t34)))=true then
 if(bif t31 then true else bif t34 then decide ((l_1.getD i.toNat dSRaw).ID≤(l_1.getD t43.toNat dSRaw).ID)else false)=true then
 some (.inl false)
 else
 g1n (l_1,addI .i64 i 1,b)
 else none
 else none
 else none
 else none
 else
 some (.inr ())
  partial_fixpoint
def g4s(x_:SType × List SRaw) :Option (Bool):=
 match x_ with
 | (t,l)=>
 g1n (l,0,t) >>=fun o=>
 match o with
 | .inl o_1=>
 some o_1
 | .inr o_2=>
 some true
def g11(x_:Int × SValue) :Option ((Bool) ⊕ (Unit)):=
 match x_ with
 | (i_1,b_12)=>
 if decide (i_1 < (b_12.Keys.length:Int))=true then
 some (subI .i64 i_1 1) >>=fun t270=>
 if inR t270 b_12.Keys.length=true then
 if inR i_1 b_12.Keys.length=true then
 g2r (SValue.eta (b_12.Keys.getD t270.toNat dSValue),SValue.eta (b_12.Keys.getD i_1.toNat dSValue)) >>=fun r_16=>
 if decide (0≤r_16)=true then
 some (.inl false)
 else
 g11 (addI .i64 i_1 1,SValue.eta b_12)
 else none
 else none
 else
 some (.inr ())
  partial_fixpoint
mutual
def g4e(x_:SSchema × Int × List SValue × Bool) :Option (Bool):=
 match x_ with
 | (s,t,l,plain)=>
 g1s (t,l,plain,0,s.Types) >>=fun o=>
 match o with
 | .inl o_1=>
 some o_1
 | .inr o_2=>
 some true
  partial_fixpoint
def g1q(x_:SSchema × Int × SValue × Bool) :Option (Bool):=
 match x_ with
 | (s,t,v,plain)=>
 if(bif decide (t < 0)then true else decide ((s.Types.length:Int)≤t))=true then
 some false
 else
 if inR t s.Types.length=true then
 some (s.Types.getD t.toNat dSType) >>=fun x0=>
 some (!(decide (v.Kind=x0.Kind))) >>=fun t34=>
 (if(!t34)=true then g5f (SValue.eta v)else some false) >>=fun r=>
 if(bif bif t34 then true else(!r)then true else bif plain then decide (0 < (v.Rest.length:Int))else false)=true then
 some false
 else
 if decide (x0.Kind=1)=true then
 some true
 else
 if decide (x0.Kind=2)=true then
 some (bif decide (x0.Low≤v.Int_)then decide (v.Int_≤x0.High)else false)
 else
 if decide (x0.Kind=3)=true then
 some (decide ((v.Str.length:Int)≤x0.Max))
 else
 if decide (x0.Kind=4)=true then
 g5n (x0,v.ID) >>=fun r_1=>
 some (bif x0.Open then(!plain)else false) >>=fun t91=>
 (if((!r_1.2) && t91)=true then g1h (v.ID,r_1.2)else some false) >>=fun r_4=>
 some (bif r_1.2 then true else bif t91 then r_4 else false)
 else
 if decide (x0.Kind=5)=true then
 some (!(decide ((v.Items.length:Int)=(x0.Members.length:Int)))) >>=fun t107=>
 (if(!t107)=true then g4s (x0,v.Rest)else some false) >>=fun r_5=>
 if(bif t107 then true else(!r_5))=true then
 some false
 else
 g17 (plain,0,s.Types,SValue.eta v,x0.Kind,x0.Name,x0.Low,x0.High,x0.Max,x0.Symbols,x0.Members,x0.Key,x0.Elem,x0.Open) >>=fun o=>
 match o with
 | .inl o_1=>
 some o_1
 | .inr o_2=>
 some true
 else
 if decide (x0.Kind=6)=true then
 g1l (x0,v.ID) >>=fun r_6=>
 if r_6.2=true then
 some (bif decide ((v.Items.length:Int)=1)then decide ((v.Rest.length:Int)=0)else false) >>=fun t156=>
 if(inR r_6.1 x0.Members.length || (!t156))=true then
 if(inR 0 v.Items.length || (!t156))=true then
 (if t156=true then g1q (s,(x0.Members.getD r_6.1.toNat dSMember).Type_,SValue.eta (v.Items.getD (0:Int).toNat dSValue),plain)else some false) >>=fun r_9=>
 some (bif t156 then r_9 else false)
 else none
 else none
 else
 some (bif x0.Open then(!plain)else false) >>=fun t177=>
 (if t177=true then g1h (v.ID,r_6.2)else some false) >>=fun r_10=>
 some (bif bif bif t177 then r_10 else false then decide ((v.Items.length:Int)=0)else false then decide ((v.Rest.length:Int)=1)else false) >>=fun t195=>
 if(inR 0 v.Rest.length || (!t195))=true then
 some (bif t195 then decide ((v.Rest.getD (0:Int).toNat dSRaw).ID=v.ID)else false)
 else none
 else
 if decide (x0.Kind=7)=true then
 some (decide ((v.Items.length:Int)≤x0.Max)) >>=fun t213=>
 (if t213=true then g4e (s,x0.Elem,v.Items,plain)else some false) >>=fun r_11=>
 some (bif t213 then r_11 else false)
 else
 if decide (x0.Kind=8)=true then
 some (bif decide (x0.Max < (v.Keys.length:Int))then true else(!(decide ((v.Items.length:Int)=(v.Keys.length:Int))))) >>=fun t239=>
 (if(!t239)=true then g4e (s,x0.Key,v.Keys,plain)else some false) >>=fun r_12=>
 some (bif t239 then true else(!r_12)) >>=fun t249=>
 (if(!t249)=true then g4e (s,x0.Elem,v.Items,plain)else some false) >>=fun r_13=>
 if(bif t249 then true else(!r_13))=true then
 some false
 else
 g11 (1,SValue.eta v) >>=fun o_3=>
 match o_3 with
 | .inl o_4=>
 some o_4
 | .inr o_5=>
 some true
 else
 some (decide ((v.Items.length:Int)≤1)) >>=fun t283=>
 (if t283=true then g4e (s,x0.Elem,v.Items,plain)else some false) >>=fun r_14=>
 some (bif t283 then r_14 else false)
 else none
  partial_fixpoint
def g1s(x_:Int × List SValue × Bool × Int × List SType) :Option ((Bool) ⊕ (Unit)):=
 match x_ with
 | (t_1,l_1,plain_1,i,b)=>
 if decide (i < (l_1.length:Int))=true then
 if inR i l_1.length=true then
 g1q ((⟨b⟩:SSchema),t_1,SValue.eta (l_1.getD i.toNat dSValue),plain_1) >>=fun r=>
 if(!r)=true then
 some (.inl false)
 else
 g1s (t_1,l_1,plain_1,addI .i64 i 1,b)
 else none
 else
 some (.inr ())
  partial_fixpoint
def g17(x_:Bool × Int × List SType × SValue × Int × List UInt8 × Int × Int × Int × List SSymbol × List SMember × Int × Int × Bool) :Option ((Bool) ⊕ (Unit)):=
 match x_ with
 | (plain_1,i,b,b_1,b_2,b_3,b_4,b_5,b_6,b_7,b_8,b_9,b_10,b_11)=>
 if decide (i < (b_1.Items.length:Int))=true then
 if inR i b_8.length=true then
 if inR i b_1.Items.length=true then
 g1q ((⟨b⟩:SSchema),(b_8.getD i.toNat dSMember).Type_,SValue.eta (b_1.Items.getD i.toNat dSValue),plain_1) >>=fun r_15=>
 if(!r_15)=true then
 some (.inl false)
 else
 g17 (plain_1,addI .i64 i 1,b,SValue.eta b_1,b_2,b_3,b_4,b_5,b_6,b_7,b_8,b_9,b_10,b_11)
 else none
 else none
 else
 some (.inr ())
  partial_fixpoint
end
def g9m(x_:SSchema × Int × SValue) :Option (Bool):=
 match x_ with
 | (s,t,v)=>
 g1q (s,t,SValue.eta v,false) >>=fun r=>
 some r
def g55(x_:SSchema × Int × SValue) :Option (Int):=
 match x_ with
 | (s,t,v)=>
 g5u s >>=fun r=>
 if(!(decide (r=0)))=true then
 some r
 else
 if(bif decide (t < 0)then true else decide ((s.Types.length:Int)≤t))=true then
 some 4
 else
 g9m (s,t,SValue.eta v) >>=fun r_1=>
 if(!r_1)=true then
 some 1
 else
 some 0
end
section
open Go Go.Proofs.YthnmepafpikaiaaGreat.Shv
open Tryz
set_option maxRecDepth 100000
mutual
def g34(x_:SSchema × Int × SValue) :Option (Int):=
 match x_ with
 | (s,t,v)=>
 if inR t s.Types.length=true then
 gr (0,0,s.Types,SValue.eta v,s.Types.getD t.toNat dSType) >>=fun o=>
 if decide (0 < (o.2.Keys.length:Int))=true then
 some (addI .i64 1 (maxI o.1 1))
 else
 some (addI .i64 1 o.1)
 else none
  partial_fixpoint
def gr(x_:Int × Int × List SType × SValue × SType) :Option (Int × SValue):=
 match x_ with
 | (below_1,i,b_1,b_2,b_3)=>
 if decide (i < (b_2.Items.length:Int))=true then
 if decide (b_3.Kind=5)=true then
 if inR i b_3.Members.length=true then
 some (b_3.Members.getD i.toNat dSMember) >>=fun x0_1=>
 if(inR i b_2.Items.length || (!x0_1.HasDefault))=true then
 (if x0_1.HasDefault=true then g12 (SValue.eta (b_2.Items.getD i.toNat dSValue),SValue.eta x0_1.Default)else some false) >>=fun r=>
 if(bif x0_1.HasDefault then r else false)=true then
 gr (below_1,addI .i64 i 1,b_1,SValue.eta b_2,b_3)
 else
 if decide (b_3.Kind=6)=true then
 g1l (b_3,b_2.ID) >>=fun r_1=>
 if inR r_1.1 b_3.Members.length=true then
 if inR i b_2.Items.length=true then
 g34 ((⟨b_1⟩:SSchema),(b_3.Members.getD r_1.1.toNat dSMember).Type_,SValue.eta (b_2.Items.getD i.toNat dSValue)) >>=fun r_4=>
 gr (maxI below_1 r_4,addI .i64 i 1,b_1,SValue.eta b_2,b_3)
 else none
 else none
 else
 if inR i b_2.Items.length=true then
 g34 ((⟨b_1⟩:SSchema),x0_1.Type_,SValue.eta (b_2.Items.getD i.toNat dSValue)) >>=fun r_5=>
 gr (maxI below_1 r_5,addI .i64 i 1,b_1,SValue.eta b_2,b_3)
 else none
 else none
 else none
 else
 if decide (b_3.Kind=6)=true then
 g1l (b_3,b_2.ID) >>=fun r_6=>
 if inR r_6.1 b_3.Members.length=true then
 if inR i b_2.Items.length=true then
 g34 ((⟨b_1⟩:SSchema),(b_3.Members.getD r_6.1.toNat dSMember).Type_,SValue.eta (b_2.Items.getD i.toNat dSValue)) >>=fun r_9=>
 gr (maxI below_1 r_9,addI .i64 i 1,b_1,SValue.eta b_2,b_3)
 else none
 else none
 else
 if inR i b_2.Items.length=true then
 g34 ((⟨b_1⟩:SSchema),b_3.Elem,SValue.eta (b_2.Items.getD i.toNat dSValue)) >>=fun r_10=>
 gr (maxI below_1 r_10,addI .i64 i 1,b_1,SValue.eta b_2,b_3)
 else none
 else
 some (below_1,SValue.eta b_2)
  partial_fixpoint
end
def g8h(x_:SSchema × Int × SValue) :Option (List UInt8 × Int):=
 match x_ with
 | (s,t,v)=>
 g55 (s,t,SValue.eta v) >>=fun r=>
 if(!(decide (r=0)))=true then
 some ([],r)
 else
 g1t (s,t,SValue.eta v) >>=fun r_1=>
 some (decide (4096 < (r_1.length:Int))) >>=fun t23=>
 (if(!t23)=true then g34 (s,t,SValue.eta v)else some 0) >>=fun r_2=>
 if(bif t23 then true else decide (200 < r_2))=true then
 some ([],3)
 else
 some (r_1,0)
def geh(x_:SSchema × Int × SValue) :Option (Int × Int):=
 match x_ with
 | (s,t,v)=>
 g3q (s,t,SValue.eta v) >>=fun r=>
 if(!(decide (r=0)))=true then
 some (0,r)
 else
 g19 (t,SValue.eta v,1,s.Types,0) >>=fun r_1=>
 some ((r_1.1.length:Int),0)
end
section
open Go Go.Proofs.YthnmepafpikaiaaGreat.Shv
open Tryz
set_option maxRecDepth 100000
def gd9(x_:SSchema × Int × SValue) :Option (Int × Int):=
 match x_ with
 | (s,t,v)=>
 g55 (s,t,SValue.eta v) >>=fun r=>
 if(!(decide (r=0)))=true then
 some (0,r)
 else
 g1t (s,t,SValue.eta v) >>=fun r_1=>
 some ((r_1.length:Int),0)
end
section
open Go Go.Proofs.YthnmepafpikaiaaGreat.Shv
open Tryz
set_option maxRecDepth 100000
set_option linter.all false
end
section
open Go Go.Proofs.YthnmepafpikaiaaGreat.Shv
set_option maxRecDepth 100000
def vg(s:List UInt8) :Nat→Nat→Nat→Int × Int × Int
 | 0,_,_=>(0,0,10)
 | f+1,i,n=>
   if i < s.length then
     if i=9∧1 < (s.getD i 0).toNat then(0,0,7)
     else if 128≤(s.getD i 0).toNat then vg s f (i+1) (n+((s.getD i 0).toNat % 128)*2 ^ (7*i))
     else if(s.getD i 0).toNat=0∧0 < i then(0,0,2)
     else(((n+(s.getD i 0).toNat*2 ^ (7*i):Nat):Int),((i+1:Nat):Int),0)
   else(0,0,10)
theorem pow7s(i:Nat) :2 ^ (7*(i+1))=2 ^ (7*i)*128:=by rw[Nat.mul_add,Nat.pow_add]
end
section
open Go Go.Proofs.YthnmepafpikaiaaGreat.Shv
set_option maxRecDepth 100000
set_option linter.all false
end
section
open Go Go.Proofs.YthnmepafpikaiaaGreat.Shv
set_option maxRecDepth 100000
def vput(n:Nat) :List UInt8:=if n < 128 then[UInt8.ofNat n]else UInt8.ofNat (n % 128+128)::vput (n / 128)
termination_by n
decreasing_by omega
theorem gac{n:Nat}(h:n < 128) :vput n=[UInt8.ofNat n]:=by rw[vput,if_pos h]
theorem gas{n:Nat}(h:¬n < 128) :vput n=UInt8.ofNat (n % 128+128)::vput (n / 128):=by rw[vput,if_neg h]
theorem gyc{a:Nat}(h:a < 256) :orI .u8 (a:Int) 128=((a % 128+128:Nat):Int):=by
 have key:∀a:Nat,a < 256→orI .u8 (a:Int) 128=((a % 128+128:Nat):Int):=by decide+kernel
 exact key a h
theorem wrp8(n:Nat) :wrp .u8 (n:Int)=((n % 256:Nat):Int):=by
 unfold wrp;rw[IntKind.wrap_u8];omega
theorem shrI7(n:Nat) :shrI .u64 (n:Int) 7=((n / 128:Nat):Int):=by
 unfold shrI;have:((2:Int) ^ min (7:Int).toNat IntKind.u64.bits)=128:=by decide
 rw[this,Int.fdiv_eq_ediv_of_nonneg _ (by omega)];omega
theorem gtw(m:Nat)(l:List Int) :strOf ((m:Int)::l)=UInt8.ofNat m::strOf l:=rfl
theorem gad(a b:List Int) :strOf (a++b)=strOf a++strOf b:=List.map_append
theorem gbm{α:Type} :∀(l:List α) (i:Nat) (x:α),i < l.length→(l.set i x).take (i+1)=l.take i++[x]
 | [],i,x,h=>by simp at h
 | a::l,0,x,h=>by simp
 | a::l,i+1,x,h=>by simp[gbm l i x (by simpa using h)]
theorem gvv :∀(f n i:Nat) (b:List Int),i+f=9→n < 128*128 ^ f→b.length=10→∃(n' i':Nat) (b':List Int),g5s ((n:Int),(i:Int),b)=some ((n':Int),(i':Int),b')∧n' < 128∧i'≤9∧b'.length=10∧strOf (b'.take i')++[UInt8.ofNat n']=strOf (b.take i)++vput n
 | f,n,i,b,hi,hn,hb=>by
   rw[g5s];by_cases hs:n < 128
   · rw[if_neg (by simp;omega)];exact⟨n,i,b,rfl,hs,by omega,hb,by rw[gac hs]⟩
   · rw[if_pos (by simp;omega),if_pos (g6 (by
       cases f with
       | zero=>simp at hn;omega
       | succ f=>omega)),if_pos (by
       cases f with
       | zero=>simp at hn;omega
       | succ f=>simp[hb];omega)]
     match f,hi,hn with
     | 0,hi,hn=>simp at hn;omega
     | f+1,hi,hn=>
       rw[shrI7,gj (by omega),wrp8,gyc (Nat.mod_lt _ (by omega)),g7];have hlt:n / 128 < 128*128 ^ f:=by
         rw[Nat.div_lt_iff_lt_mul (by omega)];rw[Nat.pow_succ]at hn;rw[Nat.mul_assoc];exact hn
       obtain⟨n',i',b',h1,h2,h3,h4,h5⟩:=gvv f (n / 128) (i+1) (b.set i ((n % 256 % 128+128:Nat):Int)) (by omega) hlt (by simp[hb]);refine⟨n',i',b',h1,h2,h3,h4,?_⟩;rw[h5,gbm _ _ _ (by omega),gad,gas hs];have:n % 256 % 128=n % 128:=by omega
       rw[this];have hone:strOf [((n % 128+128:Nat):Int)]=[UInt8.ofNat (n % 128+128)]:=rfl;rw[hone,List.append_assoc];rfl
theorem gpp :(128:Nat)*128 ^ 9=1180591620717411303424:=by decide
theorem gi9{n:Nat}(hn:n < 18446744073709551616) :g7o (n:Int)=some (vput n):=by
 obtain⟨n',i',b',h1,h2,h3,h4,h5⟩:=gvv 9 n 0 [0,0,0,0,0,0,0,0,0,0] rfl (by rw[gpp];omega) rfl;rw[g7o];have h1':g5s ((n:Int),0,[0,0,0,0,0,0,0,0,0,0])=some ((n':Int),(i':Int),b'):=h1;rw[h1'];simp only[oZ4,oZ3];have hsl:slR 0 ((i'+1:Nat):Int) 10=true:=g8t (a:=0) (by omega) (by omega)
 rw[if_pos (g6 (by omega)),if_pos (by simp[h4];omega),gj (by omega),if_pos hsl,if_pos (by simp[subR,h4];omega),g7,g7,wrp8];have:n' % 256=n':=Nat.mod_eq_of_lt (by omega);rw[this];simp only[Int.toNat_zero,List.drop_zero];rw[gbm _ _ _ (by omega),gad];have h6:strOf [(n':Int)]=[UInt8.ofNat n']:=rfl;rw[h6,h5];simp[strOf]
theorem gng :∀(f n:Nat) (b:List Int),n < 128 ^ f→n < 18446744073709551616→b.length+f≤1000→∃(n':Nat) (b':List Int),g6s ((n:Int),b)=some ((n':Int),b')∧n' < 128∧b'.length≤1000∧strOf b'++[UInt8.ofNat n']=strOf b++vput n
 | f,n,b,hn,h64,hb=>by
   rw[g6s];by_cases hs:n < 128
   · rw[if_neg (by simp;omega)];exact⟨n,b,rfl,hs,by omega,by rw[gac hs]⟩
   · rw[if_pos (by simp;omega)]
     match f,hn with
     | 0,hn=>simp at hn;omega
     | f+1,hn=>
       have hrem:remI (n:Int) 128=((n % 128:Nat):Int):=remIn (b:=128);have hadd:addI .u64 ((n % 128:Nat):Int) 128=((n % 128+128:Nat):Int):=addIn (b:=128) (by omega);have hq:quoI .u64 (n:Int) 128=((n / 128:Nat):Int):=by
         unfold quoI;have e:(n:Int).tdiv 128=((n / 128:Nat):Int):=by rw[Int.tdiv_eq_ediv_of_nonneg (by omega)];omega
         rw[e];exact wrapu (by omega) (by omega)
       simp only[oZ4,oZ3];rw[hrem,hadd,hq,wrp8,if_pos (g4j (by omega) (by simp;omega))];have hlt:n / 128 < 128 ^ f:=by
         rw[Nat.div_lt_iff_lt_mul (by omega)];rw[Nat.pow_succ]at hn;exact hn
       obtain⟨n',b',h1,h2,h3,h4⟩:=gng f (n / 128) (b++[(((n % 128+128) % 256:Nat):Int)]) hlt (by omega) (by simp;omega);refine⟨n',b',h1,h2,h3,?_⟩;rw[h4,gad,gas hs];have:(n % 128+128) % 256=n % 128+128:=by omega
       rw[this];have hone:strOf [((n % 128+128:Nat):Int)]=[UInt8.ofNat (n % 128+128)]:=rfl;rw[hone,List.append_assoc];rfl
theorem gbf{n:Nat}(hn:n < 18446744073709551616) :g54 (n:Int)=some (vput n):=by
 obtain⟨n',b',h1,h2,h3,h4⟩:=gng 10 n [] (by have:=gpp;rw[Nat.pow_succ,Nat.mul_comm];omega) hn (by simp);rw[g54,h1];simp only[oZ4,oZ3];rw[if_pos (g4j (by omega) (by simp;omega)),wrp8,gad];have:n' % 256=n':=Nat.mod_eq_of_lt (by omega);rw[this];have h6:strOf [(n':Int)]=[UInt8.ofNat n']:=rfl;rw[h6,h4];simp[strOf]
theorem gpq :∀(f n:Nat),n < 128 ^ (f+1)→(vput n).length≤f+1
 | f,n,hn=>by
   by_cases hs:n < 128
   · rw[gac hs];simp
   · rw[gas hs]
     match f,hn with
     | 0,hn=>simp at hn;omega
     | f+1,hn=>
       have:=gpq f (n / 128) (by
         rw[Nat.div_lt_iff_lt_mul (by omega)]
         rw[Nat.pow_succ]at hn;exact hn)
       simp;omega
theorem g3x{n:Nat}(hn:n < 18446744073709551616) :(vput n).length≤10:=gpq 9 n (by have:=gpp;rw[Nat.pow_succ,Nat.mul_comm];omega)
theorem gk5(n:Nat) :0 < (vput n).length:=by
 rw[vput];split <;> simp
theorem g3o{n:Nat}(h:n < 256) :(UInt8.ofNat n).toNat=n:=by
 rw[UInt8.toNat_ofNat'];exact Nat.mod_eq_of_lt h
theorem gvw :∀(f i acc n:Nat) (pre rest:List UInt8),i+f=10→pre.length=i→n*2 ^ (7*i) < 18446744073709551616→(n=0→i=0)→vg (pre++(vput n++rest)) f i acc=(((acc+n*2 ^ (7*i):Nat):Int),((i+(vput n).length:Nat):Int),0)
 | 0,i,acc,n,pre,rest,hi,hp,hn,h0=>by
   have:i=10:=by omega
   subst this;have e:(2:Nat) ^ (7*10)=1180591620717411303424:=by decide
   rw[e]at hn;have:n=0:=by omega
   have:=h0 this;omega
 | f+1,i,acc,n,pre,rest,hi,hp,hn,h0=>by
   have hlen:i < (pre++(vput n++rest)).length:=by
     have:=gk5 n;simp;omega
   have hget:∀(x:UInt8) (r:List UInt8),vput n=x::r→(pre++(vput n++rest)).getD i 0=x:=by
     intro x r hx;rw[hx,List.getD_eq_getElem?_getD,List.getElem?_append_right (by omega),hp];simp
   simp only[vg];rw[if_pos hlen];by_cases hs:n < 128
   · rw[hget _ _ (gac hs),g3o (by omega),if_neg (by
       rintro ⟨h1,h2⟩
       subst h1;have e:(2:Nat) ^ (7*9)=9223372036854775808:=by decide
       rw[e]at hn;omega),if_neg (by omega),if_neg (by
       rintro ⟨h1,h2⟩
       have:=h0 h1;omega),gac hs]
     simp
   · have hi9:i < 9:=by
       apply Classical.byContradiction;intro h9;have:i=9:=by omega
       rw[this]at hn;have e:(2:Nat) ^ (7*9)=9223372036854775808:=by decide
       rw[e]at hn;omega
     rw[hget _ _ (gas hs),g3o (by omega),if_neg (by omega),if_pos (by omega)];have hmod:(n % 128+128) % 128=n % 128:=by omega
     have hsum:n % 128*2 ^ (7*i)+n / 128*2 ^ (7*(i+1))=n*2 ^ (7*i):=by
       rw[pow7s];have h1:n / 128*(2 ^ (7*i)*128)=(n / 128*128)*2 ^ (7*i):=by
         rw[Nat.mul_comm (2 ^ (7*i)) 128,Nat.mul_assoc]
       rw[h1,←Nat.add_mul]
       congr 1;omega
     have hbound:n / 128*2 ^ (7*(i+1)) < 18446744073709551616:=by omega
     have:=gvw f (i+1) (acc+n % 128*2 ^ (7*i)) (n / 128) (pre++[UInt8.ofNat (n % 128+128)]) rest (by omega) (by simp[hp]) hbound (by omega);rw[hmod];have es:pre++(vput n++rest)=pre++[UInt8.ofNat (n % 128+128)]++(vput (n / 128)++rest):=by
       rw[gas hs];simp
     rw[es,this,Nat.add_assoc,hsum,gas hs,List.length_cons];have:i+1+(vput (n / 128)).length=i+((vput (n / 128)).length+1):=by omega
     rw[this]
theorem grv{n:Nat}(hn:n < 18446744073709551616)(rest:List UInt8) :vg (vput n++rest) 10 0 0=((n:Int),((vput n).length:Int),0):=by
 have:=gvw 10 0 0 n [] rest rfl rfl (by simpa using hn) (fun _=>rfl)
 simpa using this
def g3p(p:List UInt8) :List UInt8:=vput p.length++p
theorem g2k{n:Nat}(h:n≤9223372036854775807) :decide (n≤g22)=true:=by
 unfold g22;simp;omega
theorem ggc{p:List UInt8}(h:p.length≤1152921504606846976) :g5j p=some (g3p p):=by
 rw[g5j,wrpn (by omega),gi9 (by omega)];simp only[oZ4,oZ3];have:=g3x (n:=p.length) (by omega);rw[if_pos (g2k (by omega))];rfl
theorem gb3{p:List UInt8}(h:p.length≤1152921504606846976) :g4r p=some (g3p p):=by
 rw[g4r,wrpn (by omega),gbf (by omega)];simp only[oZ4,oZ3];have:=g3x (n:=p.length) (by omega);rw[if_pos (g2k (by omega))];rfl
def g8i(id:Nat)(c:Bool)(p:List UInt8) :List UInt8:=vput (2*id+(if c then 1 else 0))++g3p p
theorem gln{p:List UInt8}(h:p.length≤1152921504606846976) :(g3p p).length≤p.length+10:=by
 have:=g3x (n:=p.length) (by omega);unfold g3p;simp;omega
theorem gpr{id:Nat}{c:Bool}{p:List UInt8}(hid:id≤4611686018427387903)(h:p.length≤1152921504606846900) :g8f ((id:Int),c,p)=some (g8i id c p):=by
 rw[g8f];have hm:mulI .u64 2 (wrp .u64 (id:Int))=((2*id:Nat):Int):=by
   rw[wrpn (by omega)];exact mulIn (a:=2) (by omega)
 simp only[oZ4,oZ3];rw[hm,ggc (by omega)];have hl:=gln (p:=p) (by omega);cases c with
 | true=>
   have ha:addI .u64 ((2*id:Nat):Int) 1=((2*id+1:Nat):Int):=addIn (b:=1) (by omega);rw[if_pos rfl,ha,gi9 (by omega)];have:=g3x (n:=2*id+1) (by omega);simp only[oZ3];rw[if_pos (g2k (by omega))];rfl
 | false=>
   rw[if_neg (by simp),gi9 (by omega)];have:=g3x (n:=2*id) (by omega);simp only[oZ3];rw[if_pos (g2k (by omega))];rfl
theorem gjg{id:Nat}{c:Bool}{p:List UInt8}(hid:id≤4611686018427387903)(h:p.length≤1152921504606846900) :g74 ((id:Int),c,p)=some (g8i id c p):=by
 rw[g74];have hm:wrp .u64 (mulI .i64 2 (id:Int))=((2*id:Nat):Int):=by
   rw[gzg (by omega) (by omega)];have:(2:Int)*(id:Int)=((2*id:Nat):Int):=by omega
   rw[this];exact wrpn (by omega)
 simp only[oZ4,oZ3];rw[hm,gb3 (by omega)];have hl:=gln (p:=p) (by omega);cases c with
 | true=>
   have ha:addI .u64 ((2*id:Nat):Int) 1=((2*id+1:Nat):Int):=addIn (b:=1) (by omega);rw[if_pos rfl,ha,gbf (by omega)];have:=g3x (n:=2*id+1) (by omega);simp only[oZ3];rw[if_pos (g2k (by omega))];rfl
 | false=>
   rw[if_neg (by simp),gbf (by omega)];have:=g3x (n:=2*id) (by omega);simp only[oZ3];rw[if_pos (g2k (by omega))];rfl
end
section
open Go Go.Proofs.YthnmepafpikaiaaGreat.Shv
set_option maxRecDepth 100000
inductive OkV:SValue→Prop
 | mk (v : SValue) (hs : v.Str.length ≤ reachBytes) (h1 : v.Keys.length ≤ reachBytes) (h2 : v.Items.length ≤ reachBytes) (h3 : v.Rest.length ≤ reachBytes)
     (hk:∀x,x∈v.Keys→OkV x) (hi:∀x,x∈v.Items→OkV x) (hr:∀x,x∈v.Rest→x.Data.length≤reachBytes)
     (n1: -9223372036854775808≤v.Kind∧v.Kind≤9223372036854775807) (n2: -9223372036854775808≤v.Int_∧v.Int_≤9223372036854775807) (n3: -9223372036854775808≤v.ID∧v.ID≤9223372036854775807)
     (n4:∀x,x∈v.Rest→-9223372036854775808≤x.ID∧x.ID≤9223372036854775807):OkV v
theorem g13{n:Nat}(h:n≤reachBytes) :n < 9223372036854775807:=Nat.lt_of_le_of_lt h (by decide)
theorem scan {γ : Type} (L : Nat → Option γ) (n : Nat) (p : Nat → Bool) (bad good : γ) (hstep : ∀ i, i < n → L i = if p i = true then L (i + 1) else some bad) (hend : L n = some good) :
   (L 0=some good∧∀j,j < n→p j=true)∨(L 0=some bad∧∃j,j < n∧p j=false):=by
 have key:∀k i,i+k=n→(L i=some good∧∀j,i≤j→j < n→p j=true)∨(L i=some bad∧∃j,j < n∧p j=false):=by
   intro k
   induction k with
   | zero => intro i hi; have : i = n := by omega
             subst this;exact .inl ⟨hend,fun j h1 h2=>by omega⟩
   | succ k ih=>
     intro i hi;rw[hstep i (by omega)];cases hp:p i with
     | true=>
       rw[if_pos rfl];rcases ih (i+1) (by omega)with⟨h1,h2⟩ | h
       · refine .inl ⟨h1,fun j hj1 hj2=>?_⟩;rcases Nat.lt_or_ge i j with h | h
         · exact h2 j h hj2
         · have:j=i:=by omega
           subst this;exact hp
       · exact .inr h
     | false=>exact .inr ⟨by rw[if_neg (by simp)],i,by omega,hp⟩
 rcases key n 0 (by omega)with⟨h1,h2⟩ | h
 · exact .inl ⟨h1,fun j hj=>h2 j (Nat.zero_le _) hj⟩
 · exact .inr h
theorem g1c{α:Type}{l:List α}{i:Nat}(h:i < l.length)(d:α) :l.getD i d=l[i]:=by
 rw[List.getD_eq_getElem?_getD,List.getElem?_eq_getElem h];rfl
theorem g60 {α : Type} {a b : List α} {p : Nat → Bool} (hl : a.length = b.length) (hp : ∀ (i : Nat) (h1 : i < a.length) (h2 : i < b.length), p i = true ↔ a[i] = b[i]) :
   (∀j,j < a.length→p j=true)↔a=b:=by
 constructor
 · intro h;exact List.ext_getElem hl fun i h1 h2=>(hp i h1 h2).1 (h i h1)
 · rintro rfl j hj
   exact(hp j hj hj).2 rfl
def Says{α:Type}(o:Option Bool)(a b:α) :Prop:=∃r,o=some r∧(r=true↔a=b)
theorem Says.of_scan {α : Type} {a b : List α} {p : Nat → Bool} (hl : a.length = b.length) (hp : ∀ (i : Nat) (h1 : i < a.length) (h2 : i < b.length), p i = true ↔ a[i] = b[i]) {o : Option Bool}
   (h:(o=some true∧∀j,j < a.length→p j=true)∨(o=some false∧∃j,j < a.length∧p j=false)):Says o a b:=by
 rcases h with⟨h1,h2⟩ | ⟨h1,j,h2,h3⟩
 · exact⟨true,h1,by simp[(g60 hl hp).1 h2]⟩
 · refine⟨false,h1,?_⟩;constructor
   · intro h;cases h
   · intro h;have:=(g60 hl hp).2 h j h2;rw[h3]at this;cases this
theorem gvx{a b:SRaw} :(eqI a.ID b.ID && (eqS a.Data b.Data && true))=true↔a=b:=by
 cases a;cases b;simp[eqI,eqS]
theorem gvy{a b:SSymbol} :(eqI a.ID b.ID && (eqS a.Name b.Name && true))=true↔a=b:=by
 cases a;cases b;simp[eqI,eqS]
theorem g10q{α:Type}{a b:List α}(h:¬a.length=b.length) :a≠b:=fun e=>h (congrArg List.length e)
theorem gat{α:Type}{a b:List α}(h:¬a.length=b.length) :Says (some false) a b:=⟨false,rfl,by simp[g10q h]⟩
theorem gvz{a b:List SRaw}(ha:a.length≤reachBytes) :Says (g3h (a,b)) a b:=by
 rw[g3h];by_cases hl:a.length=b.length
 · rw[if_neg (by simp;omega)];have hr:=g13 ha;have:=scan (fun i=>g1e (a,b,(a.length:Int),(i:Int))) a.length (fun i=>eqI (a.getD i dSRaw).ID (b.getD i dSRaw).ID && (eqS (a.getD i dSRaw).Data (b.getD i dSRaw).Data && true)) (.inl false) (.inr ())
     (fun i hi=>by
       rw[g1e,if_pos (by simp;omega),if_pos (g6 hi)];simp only[oZ4,oZ3,g7];rw[if_pos (g6 (by omega)),gj (by omega)];generalize (eqI (a.getD i dSRaw).ID (b.getD i dSRaw).ID && (eqS (a.getD i dSRaw).Data (b.getD i dSRaw).Data && true))=c
       cases c <;> rfl)
     (by rw[g1e,if_neg (by simp)])
   have h0:g1e (a,b,(a.length:Int),((0:Nat):Int))=g1e (a,b,(a.length:Int),0):=rfl;simp only[h0]at this;refine Says.of_scan (p:=fun i=>eqI (a.getD i dSRaw).ID (b.getD i dSRaw).ID && (eqS (a.getD i dSRaw).Data (b.getD i dSRaw).Data && true)) hl (fun i h1 h2=>by simp only[g1c h1,g1c h2];exact gvx) ?_;rcases this with⟨h1,h2⟩ | ⟨h1,h2⟩
   · exact .inl ⟨by rw[h1];rfl,h2⟩
   · exact .inr ⟨by rw[h1];rfl,h2⟩
 · rw[if_pos (by simp;omega)];exact gat hl
theorem g10r{a b:List SSymbol}(ha:a.length≤reachBytes) :Says (g3f (a,b)) a b:=by
 rw[g3f];by_cases hl:a.length=b.length
 · rw[if_neg (by simp;omega)];have hr:=g13 ha;have:=scan (fun i=>g10 (a,b,(a.length:Int),(i:Int))) a.length (fun i=>eqI (a.getD i dSSymbol).ID (b.getD i dSSymbol).ID && (eqS (a.getD i dSSymbol).Name (b.getD i dSSymbol).Name && true)) (.inl false) (.inr ())
     (fun i hi=>by
       rw[g10,if_pos (by simp;omega),if_pos (g6 hi)];simp only[oZ4,oZ3,g7];rw[if_pos (g6 (by omega)),gj (by omega)];generalize (eqI (a.getD i dSSymbol).ID (b.getD i dSSymbol).ID && (eqS (a.getD i dSSymbol).Name (b.getD i dSSymbol).Name && true))=c
       cases c <;> rfl)
     (by rw[g10,if_neg (by simp)])
   have h0:g10 (a,b,(a.length:Int),((0:Nat):Int))=g10 (a,b,(a.length:Int),0):=rfl;simp only[h0]at this;refine Says.of_scan (p:=fun i=>eqI (a.getD i dSSymbol).ID (b.getD i dSSymbol).ID && (eqS (a.getD i dSSymbol).Name (b.getD i dSSymbol).Name && true)) hl (fun i h1 h2=>by simp only[g1c h1,g1c h2];exact gvy) ?_;rcases this with⟨h1,h2⟩ | ⟨h1,h2⟩
   · exact .inl ⟨by rw[h1];rfl,h2⟩
   · exact .inr ⟨by rw[h1];rfl,h2⟩
 · rw[if_pos (by simp;omega)];exact gat hl
theorem gdy(v:SValue) :(⟨v.Kind,v.Bool_,v.Int_,v.Str,v.ID,v.Keys,v.Items,v.Rest⟩:SValue)=v:=by cases v;rfl
theorem gdz{a b:SValue} :a=b↔a.Kind=b.Kind∧a.Bool_=b.Bool_∧a.Int_=b.Int_∧a.Str=b.Str∧a.ID=b.ID∧a.Rest=b.Rest∧a.Keys=b.Keys∧a.Items=b.Items:=by
 constructor
 · rintro rfl;exact⟨rfl,rfl,rfl,rfl,rfl,rfl,rfl,rfl⟩
 · cases a;cases b
   rintro ⟨h1,h2,h3,h4,h5,h6,h7,h8⟩
   simp only at*;subst h1;subst h2;subst h3;subst h4;subst h5;subst h6;subst h7;subst h8;rfl
section
variable {f:SValue × SValue→Option Bool}
theorem ggd {a b : List SValue} (hl : a.length = b.length) (ih : ∀ x, x ∈ a → ∀ y, Says (f (x, y)) x y) (L : Nat → Option (Bool ⊕ Unit))
   (hstep:∀i,i < a.length→L i=(f (SValue.eta (a.getD i dSValue),SValue.eta (b.getD i dSValue)) >>=fun r=>if(!r)=true then some (.inl false)else L (i+1)))
   (hend:L a.length=some (.inr ())):Says (L 0 >>=fun o=>match o with | .inl x=>some x | .inr _=>some true) a b:=by
 have hget:∀(i:Nat) (h1:i < a.length) (h2:i < b.length),Says (f (SValue.eta (a.getD i dSValue),SValue.eta (b.getD i dSValue))) a[i] b[i]:=by
   intro i h1 h2;rw[g1c h1,g1c h2,SValue.gq,SValue.gq];exact ih _ (List.getElem_mem h1) _
 have:=scan L a.length (fun i=>(f (SValue.eta (a.getD i dSValue),SValue.eta (b.getD i dSValue))).getD false) (.inl false) (.inr ())
   (fun i hi=>by
     obtain⟨r,h1,h2⟩:=hget i hi (by omega);rw[hstep i hi,h1]
     cases r <;> rfl) hend
 refine Says.of_scan hl (fun i h1 h2=>?_) ?_ (p:=fun i=>(f (SValue.eta (a.getD i dSValue),SValue.eta (b.getD i dSValue))).getD false)
 · obtain⟨r,h3,h4⟩:=hget i h1 h2;rw[h3];exact h4
 · rcases this with⟨h1,h2⟩ | ⟨h1,h2⟩
   · exact .inl ⟨by rw[h1];rfl,h2⟩
   · exact .inr ⟨by rw[h1];rfl,h2⟩
end
theorem grw{a b:List SValue}(ha:a.length≤reachBytes)(ih:∀x,x∈a→∀y,Says (g6z (x,y)) x y) :Says (gy (a,b)) a b:=by
 rw[gy];by_cases hl:a.length=b.length
 · rw[if_neg (by simp;omega)];have hr:=g13 ha;exact ggd hl ih (fun i=>gu (b,a,(a.length:Int),(i:Int)))
     (fun i hi=>by
       rw[gu,if_pos (by simp;omega),if_pos (g6 hi),if_pos (g6 (by omega)),gj (by omega)]
       rfl)
     (by rw[gu,if_neg (by simp)])
 · rw[if_pos (by simp;omega)];exact gat hl
theorem grx{a b:List SValue}(ha:a.length≤reachBytes)(ih:∀x,x∈a→∀y,Says (g46 (x,y)) x y) :Says (g15 (a,b)) a b:=by
 rw[g15];by_cases hl:a.length=b.length
 · rw[if_neg (by simp;omega)];have hr:=g13 ha;exact ggd hl ih (fun i=>gw (b,a,(a.length:Int),(i:Int)))
     (fun i hi=>by
       rw[gw,if_pos (by simp;omega),if_pos (g6 hi),if_pos (g6 (by omega)),gj (by omega)]
       rfl)
     (by rw[gw,if_neg (by simp)])
 · rw[if_pos (by simp;omega)];exact gat hl
theorem gry{a b:List SValue}(ha:a.length≤reachBytes)(ih:∀x,x∈a→∀y,Says (g12 (x,y)) x y) :Says (g4l (a,b)) a b:=by
 rw[g4l];by_cases hl:a.length=b.length
 · rw[if_neg (by simp;omega)];have hr:=g13 ha;exact ggd hl ih (fun i=>g37 (a,b,(i:Int)))
     (fun i hi=>by
       rw[g37,if_pos (by simp;omega),if_pos (g6 hi),if_pos (g6 (by omega)),gj (by omega)]
       rfl)
     (by rw[g37,if_neg (by simp)])
 · rw[if_pos (by simp;omega)];exact gat hl
theorem three {a b : SValue} {h5 : Bool} (e5 : h5 = true ↔ a.Kind = b.Kind ∧ a.Bool_ = b.Bool_ ∧ a.Int_ = b.Int_ ∧ a.Str = b.Str ∧ a.ID = b.ID) {x y z : Option Bool} (hx : Says x a.Rest b.Rest) (hy : Says y a.Keys b.Keys) (hz : Says z a.Items b.Items) :
   Says (some h5 >>=fun t37=>(if t37=true then x else some false) >>=fun r=>some (bif t37 then r else false) >>=fun t44=>(if t44=true then y else some false) >>=fun r_1=>some (bif t44 then r_1 else false) >>=fun t51=>(if t51=true then z else some false) >>=fun r_2=>some (bif t51 then r_2 else false)) a b:=by
 obtain⟨rx,hx1,hx2⟩:=hx;obtain⟨ry,hy1,hy2⟩:=hy;obtain⟨rz,hz1,hz2⟩:=hz;subst hx1;subst hy1;subst hz1;refine⟨h5 && rx && ry && rz,?_,?_⟩
 · cases h5 <;> cases rx <;> cases ry <;> rfl
 · rw[gdz];simp only[Bool.and_eq_true];rw[e5,hx2,hy2,hz2];constructor
   · rintro ⟨⟨⟨⟨h1,h2,h3,h4,h5⟩,h6⟩,h7⟩,h8⟩;exact⟨h1,h2,h3,h4,h5,h6,h7,h8⟩
   · rintro ⟨h1,h2,h3,h4,h5,h6,h7,h8⟩;exact⟨⟨⟨⟨h1,h2,h3,h4,h5⟩,h6⟩,h7⟩,h8⟩
theorem five{a b:SValue} :(bif bif bif bif decide (a.Kind=b.Kind)then eqB a.Bool_ b.Bool_ else false then decide (a.Int_=b.Int_)else false then decide (a.Str=b.Str)else false then decide (a.ID=b.ID)else false)=true↔a.Kind=b.Kind∧a.Bool_=b.Bool_∧a.Int_=b.Int_∧a.Str=b.Str∧a.ID=b.ID:=by
 simp only[Bool.cond_eq_ite,eqB];by_cases h1:a.Kind=b.Kind <;> by_cases h2:a.Bool_=b.Bool_ <;> by_cases h3:a.Int_=b.Int_ <;> by_cases h4:a.Str=b.Str <;> simp[h1,h2,h3,h4]
theorem gtx{a:SValue}(h:OkV a) :∀b,Says (g6z (a,b)) a b:=by
 induction h with
 | mk a hs h1 h2 h3 hk hi hr n1 n2 n3 n4 ihk ihi=>
   intro b;rw[g6z];exact three five (gvz h3) (grw h1 ihk) (grw h2 ihi)
theorem gc3{a:SValue}(h:OkV a) :∀b,Says (g46 (a,b)) a b:=by
 induction h with
 | mk a hs h1 h2 h3 hk hi hr n1 n2 n3 n4 ihk ihi=>
   intro b;rw[g46];exact three five (gvz h3) (grx h1 ihk) (grx h2 ihi)
theorem gik{a:SValue}(h:OkV a) :∀b,Says (g12 (a,b)) a b:=by
 induction h with
 | mk a hs h1 h2 h3 hk hi hr n1 n2 n3 n4 ihk ihi=>
   intro b;rw[g12];by_cases h5:a.Kind=b.Kind∧a.Bool_=b.Bool_∧a.Int_=b.Int_∧a.Str=b.Str∧a.ID=b.ID∧a.Rest.length=b.Rest.length
   · obtain⟨e1,e2,e3,e4,e5,e6⟩:=h5;rw[if_neg (by simp[e1,e2,e3,e4,e5,e6,eqB])];have hr3:=g13 h3;have hsc:=scan (fun i=>g1v ((i:Int),a,b)) a.Rest.length (fun i=>eqI (a.Rest.getD i dSRaw).ID (b.Rest.getD i dSRaw).ID && (eqS (a.Rest.getD i dSRaw).Data (b.Rest.getD i dSRaw).Data && true)) (.inl false) (.inr (a,b))
       (fun i hi'=>by
         rw[g1v,if_pos (by simp;omega),if_pos (g6 hi')];simp only[oZ4,oZ3,g7,SValue.gq];rw[if_pos (g6 (by omega)),gj (by omega)];generalize (eqI (a.Rest.getD i dSRaw).ID (b.Rest.getD i dSRaw).ID && (eqS (a.Rest.getD i dSRaw).Data (b.Rest.getD i dSRaw).Data && true))=c
         cases c <;> rfl)
       (by rw[g1v,if_neg (by simp),SValue.gq,SValue.gq])
     have h0:g1v (((0:Nat):Int),a,b)=g1v (0,a,b):=rfl;simp only[h0]at hsc;rw[gdy,gdy];have hp:∀(i:Nat) (h1:i < a.Rest.length) (h2:i < b.Rest.length),(eqI (a.Rest.getD i dSRaw).ID (b.Rest.getD i dSRaw).ID && (eqS (a.Rest.getD i dSRaw).Data (b.Rest.getD i dSRaw).Data && true))=true↔a.Rest[i]=b.Rest[i]:=fun i h1 h2=>by
       rw[g1c h1,g1c h2];exact gvx
     rcases hsc with⟨g1,g2⟩ | ⟨g1,j,g2,g3⟩
     · have hrest:=(g60 e6 hp).1 g2;rw[g1];obtain⟨rk,k1,k2⟩:=gry (a:=a.Keys) (b:=b.Keys) h1 ihk;obtain⟨ri,i1,i2⟩:=gry (a:=a.Items) (b:=b.Items) h2 ihi;simp only[oZ4,oZ3];rw[k1,i1];refine⟨rk && ri,by cases rk <;> rfl,?_⟩;rw[gdz,Bool.and_eq_true,k2,i2];constructor
       · rintro ⟨q1,q2⟩;exact⟨e1,e2,e3,e4,e5,hrest,q1,q2⟩
       · rintro ⟨_,_,_,_,_,_,q1,q2⟩;exact⟨q1,q2⟩
     · rw[g1];refine⟨false,rfl,?_⟩;constructor
       · intro h;cases h
       · intro h;have:=(g60 e6 hp).2 (gdz.1 h).2.2.2.2.2.1 j g2;rw[g3]at this;cases this
   · rw[if_pos]
     · refine⟨false,rfl,?_⟩;constructor
       · intro h;cases h
       · intro h
         exfalso;apply h5
         obtain⟨q1,q2,q3,q4,q5,q6,_⟩:=gdz.1 h;exact⟨q1,q2,q3,q4,q5,by rw[q6]⟩
     · simp only[Bool.cond_eq_ite,eqB];by_cases q1:a.Kind=b.Kind <;> by_cases q2:a.Bool_=b.Bool_ <;> by_cases q3:a.Int_=b.Int_ <;> by_cases q4:a.Str=b.Str <;> by_cases q5:a.ID=b.ID <;> simp[q1,q2,q3,q4,q5]
       intro q6;exact h5 ⟨q1,q2,q3,q4,q5,by omega⟩
end
section
open Go Go.Proofs.YthnmepafpikaiaaGreat.Shv
set_option maxRecDepth 100000
def g7h(c:Int) :Bool:=decide (c=95∨(97≤c∧c≤122)∨(65≤c∧c≤90))
def gia(c:Int) :Bool:=decide (48≤c∧c≤57)
theorem ge0(c:Int) :g7c c=some (g7h c):=by
 rw[g7c];unfold g7h
 congr 1
 by_cases h1:c=95 <;> by_cases h2:97≤c <;> by_cases h3:c≤122 <;> by_cases h4:65≤c <;> by_cases h5:c≤90 <;> simp[h1,h2,h3,h4,h5] <;> omega
theorem gnh(c:Int) :g6q c=some (g7h c):=by
 rw[g6q];unfold g7h
 congr 1
 by_cases h1:c=95 <;> by_cases h2:97≤c <;> by_cases h3:c≤122 <;> by_cases h4:65≤c <;> by_cases h5:c≤90 <;> simp[h1,h2,h3,h4,h5] <;> omega
theorem gxg(c:Int) :g9e c=some (gia c):=by
 rw[g9e];unfold gia;by_cases h2:48≤c <;> by_cases h3:c≤57 <;> simp[h2,h3]
theorem gxh(c:Int) :g91 c=some (gia c):=by
 rw[g91];unfold gia;by_cases h2:48≤c <;> by_cases h3:c≤57 <;> simp[h2,h3]
theorem gps {γ : Type} (A B I : Bool) (X Y : Option γ) (hI : I = true) :
   (some A >>=fun r_1=>some (!r_1) >>=fun t26=>if(I || (!t26))=true then(if t26=true then some B else some false) >>=fun r_2=>if(bif t26 then(!r_2)else false)=true then X else Y else none)=if(A || B)=true then Y else X:=by
 subst hI;cases A <;> cases B <;> rfl
theorem grz(s:List UInt8) :∃r,g32 s=some r∧g4y s=some r:=by
 rw[g32,g4y];simp only[oZ4,oZ3];by_cases hb:s=[]∨24 < s.length
 · have ht:(bif decide (s=[])then true else decide (24 < (s.length:Int)))=true:=by
     rcases hb with h | h
     · simp[h]
     · simp;omega
   rw[ht];exact⟨false,by simp,by simp⟩
 · have hne:s≠[]:=fun h=>hb (.inl h)
   have hlen:s.length≤24:=by omega
   have ht:(bif decide (s=[])then true else decide (24 < (s.length:Int)))=false:=by
     simp[hne];omega
   have hpos:0 < s.length:=List.length_pos_iff.2 hne;have hin:inR 0 s.length=true:=g6 (k:=0) hpos;simp only[ht,hin,Bool.true_or,if_true,Bool.not_false,oZ3,ge0,gnh,cond_false];cases hl:g7h (g68 s 0)with
   | false=>exact⟨false,rfl,rfl⟩
   | true=>
     rw[if_neg (by simp),if_neg (by simp)]
     let p:Nat→Bool:=fun i=>g7h (g68 s i) || gia (g68 s i)
     have s1:=scan (fun i=>g28 (s,(s.length:Int),(i:Int))) s.length p (.inl false) (.inr ())
       (fun i hi=>by
         rw[g28,if_pos (by simp;omega),if_pos (g6 hi),ge0,gxg,gj (by omega)]
         exact gps _ _ _ _ _ (g6 hi))
       (by rw[g28,if_neg (by simp)])
     have s2:=scan (fun i=>g3c (s,(i:Int))) s.length p (.inl false) (.inr ())
       (fun i hi=>by
         rw[g3c,if_pos (by simp;omega),if_pos (g6 hi),gnh,gxh,gj (by omega)]
         exact gps _ _ _ _ _ (g6 hi))
       (by rw[g3c,if_neg (by simp)])
     have e1:g28 (s,(s.length:Int),((0:Nat):Int))=g28 (s,(s.length:Int),0):=rfl;have e2:g3c (s,((0:Nat):Int))=g3c (s,0):=rfl;simp only[e1,e2]at s1 s2;rcases s1 with⟨a1,a2⟩ | ⟨a1,j,a2,a3⟩ <;> rcases s2 with⟨b1,b2⟩ | ⟨b1,k,b2,b3⟩
     · exact⟨true,by rw[a1];rfl,by rw[b1];rfl⟩
     · have:=a2 k b2;rw[b3]at this;cases this
     · have:=b2 j a2;rw[a3]at this;cases this
     · exact⟨false,by rw[a1];rfl,by rw[b1];rfl⟩
def nm(s:List UInt8) :Bool:=(g32 s).getD false
theorem lexNm(s:List UInt8) :g32 s=some (nm s):=by
 obtain⟨r,h1,_⟩:=grz s;unfold nm;rw[h1];rfl
theorem refNm(s:List UInt8) :g4y s=some (nm s):=by
 obtain⟨r,h1,h2⟩:=grz s;unfold nm;rw[h1,h2];rfl
theorem nm_ne{s:List UInt8}(h:nm s=true) :s≠[]:=by
 rintro rfl
 unfold nm at h;rw[g32]at h;simp at h
def idp(l:List Int)(names:List (List UInt8))(i:Nat) :Bool:=
 decide (1≤l.getD i 0) && decide (l.getD i 0≤1000) && (decide (i=0) || decide (l.getD (i - 1) 0 < l.getD i 0)) && nm (names.getD i []) && !((names.take i).contains (names.getD i []))
def setOf(l:List (List UInt8)) :List (List UInt8):=l.foldl addS []
theorem gxi(ks:List (List UInt8))(a s:List UInt8) :hasS (addS ks a) s=(hasS ks s || decide (a=s)):=by
 unfold addS;split
 · rename_i h;by_cases e:a=s
   · subst e;simp[h]
   · simp[e]
 · simp[hasS,List.any_append]
theorem glo(l:List (List UInt8))(s:List UInt8) :hasS (setOf l) s=l.contains s:=by
 have key:∀(l:List (List UInt8)) (ks:List (List UInt8)),hasS (l.foldl addS ks) s=(hasS ks s || l.contains s):=by
   intro l
   induction l with
   | nil=>intro ks;simp
   | cons a r ih=>
     intro ks;rw[List.foldl_cons,ih,gxi,Bool.or_assoc]
     congr 1
     rw[List.contains_cons]
     congr 1
     by_cases e:a=s
     · subst e;simp
     · have:¬s=a:=fun h=>e h.symm
       simp[e,this]
 have:=key l []
 simpa[setOf,hasS]using this
theorem glp{l:List (List UInt8)}{i:Nat}(h:i < l.length) :addS (setOf (l.take i)) (l.getD i [])=setOf (l.take (i+1)):=by
 unfold setOf;rw[List.take_add_one,List.foldl_append,List.getElem?_eq_getElem h,g1c h];rfl
theorem gyd {γ : Type} (A Z I1 C I H N : Bool) (X Y : Option γ) (hI : I = true) (hI1 : Z = true → I1 = true) :
   (if(I1 || (!((!A) && Z)))=true then
     some (bif A then true else bif Z then C else false) >>=fun t34=>
     if(I || (!(!t34)))=true then
       some (bif t34 then true else H) >>=fun t42=>
       if(I || (!(!t42)))=true then
         (if(!t42)=true then some N else some false) >>=fun r=>
         if(bif t42 then true else(!r))=true then X else(if I=true then Y else none)
       else none
     else none
   else none)=if(!A && (!Z || !C) && N && !H)=true then Y else X:=by
 subst hI;cases Z with
 | true=>have:=hI1 rfl;subst this;cases A <;> cases C <;> cases H <;> cases N <;> rfl
 | false=>cases A <;> cases I1 <;> cases C <;> cases H <;> cases N <;> rfl
theorem gw0{l:List Int}{names:List (List UInt8)}(hl:l.length≤reachBytes)(hn:names.length=l.length) :∃r,ga2 (l,names)=some r∧(r=true↔(∀i,i < l.length→idp l names i=true)∧l.length≤16):=by
 rw[ga2];have hr:=g13 hl;have hsc:=scan (fun i=>g4n (l,names,l,(l.length:Int),(i:Int),setOf (names.take i))) l.length (idp l names) (.inl false) (.inr l)
   (fun i hi=>by
     have hin:i < names.length:=by omega
     rw[g4n,if_pos (by simp;omega),if_pos (g6 hi)];simp only[g7];rw[lexNm,gj (by omega),glp hin,glo];have hsub:0 < i→subI .i64 (i:Int) 1=((i - 1:Nat):Int):=by
       intro h;rw[g99 (by omega) (by omega)];omega
     refine(gyd (bif decide (l.getD i 0 < 1)then true else decide (1000 < l.getD i 0)) (decide ((0:Int) < (i:Int))) (inR (subI .i64 (i:Int) 1) l.length) (decide (l.getD i 0≤l.getD (subI .i64 (i:Int) 1).toNat 0)) (inR (i:Int) names.length) ((names.take i).contains (names.getD i [])) (nm (names.getD i [])) _ _ (g6 hin) (fun hz=>?_)).trans ?_
     · have hpos:0 < i:=by simp at hz;omega
       rw[hsub hpos];exact g6 (by omega)
     · have:(!(bif decide (l.getD i 0 < 1)then true else decide (1000 < l.getD i 0)) && (!(decide ((0:Int) < (i:Int))) || !(decide (l.getD i 0≤l.getD (subI .i64 (i:Int) 1).toNat 0))) && nm (names.getD i []) && !((names.take i).contains (names.getD i [])))=idp l names i:=by
         unfold idp;generalize nm (names.getD i [])=N;generalize (names.take i).contains (names.getD i [])=H;generalize l.getD i 0=x;by_cases h0:i=0
         · subst h0;cases N <;> cases H <;> by_cases h1:1≤x <;> by_cases h2:x≤1000 <;> simp[h1,h2] <;> omega
         · have hz:decide ((0:Int) < (i:Int))=true:=by simp;omega
           rw[hz,hsub (by omega),g7];generalize l.getD (i - 1) 0=y;cases N <;> cases H <;> by_cases h1:1≤x <;> by_cases h2:x≤1000 <;> by_cases h3:y < x <;> simp[h0,h1,h2,h3] <;> omega
       rw[this])
   (by rw[g4n,if_neg (by simp)])
 have e0:g4n (l,names,l,(l.length:Int),((0:Nat):Int),setOf (names.take 0))=g4n (l,names,l,(l.length:Int),0,[]):=rfl;simp only[e0]at hsc;rcases hsc with⟨h1,h2⟩ | ⟨h1,j,h2,h3⟩
 · rw[h1];refine⟨decide ((l.length:Int)≤16),rfl,?_⟩;simp only[decide_eq_true_eq];constructor
   · intro h;exact⟨h2,by omega⟩
   · intro h;omega
 · rw[h1];refine⟨false,rfl,?_⟩;constructor
   · intro h;cases h
   · rintro ⟨h,_⟩
     have:=h j h2;rw[h3]at this;cases this
end
section
open Go Go.Proofs.YthnmepafpikaiaaGreat.Shv
set_option maxRecDepth 100000
theorem room8{k n:Nat}(hk:k≤16)(h:n*24≤reachBytes) :room k n=true:=by
 unfold room g42 g1j;unfold reachBytes at h;simp only[Bool.and_eq_true,decide_eq_true_eq];have:(2*n+192)*k≤(2*n+192)*16:=Nat.mul_le_mul_left _ hk;omega
theorem g9r{α:Type}(l:List α)(i:Nat)(d:α)(h:i < l.length) :l.take i++[l.getD i d]=l.take (i+1):=by
 rw[List.take_add_one,List.getElem?_eq_getElem h,g1c h];rfl
theorem g26{α β:Type}(f:α→β)(l:List α)(i:Nat)(d:α)(e:β)(h:i < l.length) :(l.map f).getD i e=f (l.getD i d):=by
 rw[g1c h,g1c (by simpa using h)];simp
theorem g4o{l:List (List UInt8)}{i:Nat}{s:List UInt8}(hi:i≤l.length) :(l.take i).contains s=true↔∃k,k < i∧l.getD k []=s:=by
 rw[List.contains_iff_mem];constructor
 · intro h;obtain⟨k,hk,he⟩:=List.getElem_of_mem h;rw[List.length_take]at hk;refine⟨k,by omega,?_⟩;rw[g1c (by omega),←he,List.getElem_take]
 · rintro ⟨k,hk,he⟩
   rw[←he,g1c (by omega)];have:(l.take i)[k]'(by rw[List.length_take];omega)=l[k]:=List.getElem_take;rw[←this];exact List.getElem_mem _
def bef(l:List Int)(i:Nat) :Int:=if i=0 then 0 else l.getD (i - 1) 0
theorem gs0 {l : List Int} {names : List (List UInt8)} {i : Nat} (hi : i < l.length) (hn : names.length = l.length) :
   idp l names i=(decide (bef l i < l.getD i 0) && decide (1≤l.getD i 0) && decide (l.getD i 0≤1000) && nm (names.getD i []) && !((names.take i).contains (names.getD i []))):=by
 unfold idp bef;generalize l.getD i 0=x;generalize l.getD (i - 1) 0=y;generalize nm (names.getD i [])=a;generalize (names.take i).contains (names.getD i [])=b;by_cases h0:i=0
 · subst h0;by_cases h1:1≤x
   · have:decide ((0:Int) < x)=true:=by simp;omega
     simp[h1,this]
   · simp[h1]
 · simp only[h0,if_false,decide_false,Bool.false_or];by_cases h1:1≤x <;> by_cases h2:x≤1000 <;> by_cases h3:y < x <;> simp[h1,h2,h3]
theorem glq(l:List SSymbol)(hl:l.length*24≤reachBytes) :∀(k i:Nat),i+k=l.length→g3u (l,l,(l.length:Int),(i:Int),(l.map (·.ID)).take i,(l.map (·.Name)).take i)=some (l,l.map (·.ID),l.map (·.Name))
 | 0,i,h=>by
   have:i=l.length:=by omega
   subst this;rw[g3u,if_neg (by simp)];rw[List.take_of_length_le (by simp),List.take_of_length_le (by simp)]
 | k+1,i,h=>by
   have hr:l.length < 9223372036854775807:=by unfold reachBytes at hl;omega
   have hi:i < l.length:=by omega
   rw[g3u,if_pos (by simp;omega),if_pos (g6 hi)];simp only[oZ4,oZ3,g7];rw[←g26 (·.ID) l i dSSymbol 0 hi,←g26 (·.Name) l i dSSymbol [] hi,g9r _ _ _ (by simpa using hi),g9r _ _ _ (by simpa using hi)];rw[if_pos (room8 (by omega) (by simp;omega)),if_pos (room8 (by omega) (by simp;omega)),gj (by omega)];exact glq l hl k (i+1) (by omega)
theorem gs1{l:List SSymbol}(hl:l.length*24≤reachBytes) :∃r,g62 l=some r∧(r=true↔0 < l.length∧(∀i,i < l.length→idp (l.map (·.ID)) (l.map (·.Name)) i=true)∧l.length≤16):=by
 have h:=glq l hl l.length 0 (by omega);have h':g3u (l,l,(l.length:Int),0,[],[])=some (l,l.map (·.ID),l.map (·.Name)):=h;rw[g62,h'];simp only[oZ4,oZ3];obtain⟨r,h1,h2⟩:=gw0 (l:=l.map (·.ID)) (names:=l.map (·.Name)) (by simp;unfold reachBytes at*;omega) (by simp);rw[List.length_map]at h2;rw[h1]
 refine⟨decide (0 < (l.length:Int)) && r,?_,?_⟩
 · cases decide (0 < (l.length:Int)) <;> rfl
 · rw[Bool.and_eq_true,h2,decide_eq_true_eq];constructor
   · rintro ⟨a,b⟩;exact⟨by omega,b⟩
   · rintro ⟨a,b⟩;exact⟨by omega,b⟩
theorem refId(a b:Int) :g8y (a,b)=some (decide (a < b) && decide (1≤b) && decide (b≤1000)):=by
 rw[g8y];cases decide (a < b) <;> cases decide (1≤b) <;> rfl
theorem gty (l : List SSymbol) (hl : l.length ≤ reachBytes) (i : Nat) (hi : i < l.length) :
   g24 (l,(i:Int),0)=some (if((l.map (·.Name)).take i).contains ((l.map (·.Name)).getD i [])=true then .inl false else .inr (l,(i:Int))):=by
 have hr:=g13 hl;have hsc:=scan (fun k=>g24 (l,(i:Int),(k:Int))) i (fun k=>!(decide ((l.getD k dSSymbol).Name=(l.getD i dSSymbol).Name))) (.inl false) (.inr (l,(i:Int)))
   (fun k hk=>by
     rw[g24,if_pos (by simp;omega),if_pos (g6 (by omega)),if_pos (g6 hi),gj (by omega)];simp only[g7]
     cases decide ((l.getD k dSSymbol).Name=(l.getD i dSSymbol).Name) <;> rfl)
   (by rw[g24,if_neg (by simp)])
 have e0:g24 (l,(i:Int),((0:Nat):Int))=g24 (l,(i:Int),0):=rfl;simp only[e0]at hsc;rw[g26 (·.Name) l i dSSymbol [] hi];rcases hsc with⟨h1,h2⟩ | ⟨h1,j,h2,h3⟩
 · rw[h1,if_neg];rw[g4o (by simp;omega)]
   rintro ⟨k,hk,he⟩
   rw[g26 (·.Name) l k dSSymbol [] (by omega)]at he;have:=h2 k hk;rw[he]at this;simp at this
 · rw[h1,if_pos];rw[g4o (by simp;omega)];refine⟨j,h2,?_⟩;rw[g26 (·.Name) l j dSSymbol [] (by omega)]
   simpa using h3
theorem gye{l:List SSymbol}(hl:l.length≤reachBytes) :∃r,g6e l=some r∧(r=true↔0 < l.length∧(∀i,i < l.length→idp (l.map (·.ID)) (l.map (·.Name)) i=true)∧l.length≤16):=by
 have hr:=g13 hl;have hsc:=scan (fun i=>g35 (l,bef (l.map (·.ID)) i,(i:Int))) l.length (idp (l.map (·.ID)) (l.map (·.Name))) (.inl false) (.inr l)
   (fun i hi=>by
     rw[g35,if_pos (by simp;omega),if_pos (g6 hi),refId,gty l hl i hi,gs0 (by simpa using hi) (by simp)];simp only[oZ4,oZ3,g7];rw[←g26 (·.ID) l i dSSymbol 0 hi,←g26 (·.Name) l i dSSymbol [] hi,refNm]
     generalize (decide (bef (l.map (·.ID)) i < (l.map (·.ID)).getD i 0) && decide (1≤(l.map (·.ID)).getD i 0) && decide ((l.map (·.ID)).getD i 0≤1000))=q;rw[if_pos (by rw[g6 hi];rfl)];cases q with
     | false=>rfl
     | true=>
       simp only[Bool.not_true,Bool.not_false,if_true,oZ3,Bool.true_and];cases nm ((l.map (·.Name)).getD i [])with
       | false=>rfl
       | true=>
         simp only[Bool.not_true,cond_false,Bool.false_eq_true,if_false,Bool.true_and];cases hc:((l.map (·.Name)).take i).contains ((l.map (·.Name)).getD i [])with
         | true=>simp
         | false=>
           simp only[Bool.false_eq_true,if_false,Bool.not_false,if_true];rw[if_pos (g6 hi),gj (by omega)];have:bef (l.map (·.ID)) (i+1)=(l.getD i dSSymbol).ID:=by
             unfold bef;rw[if_neg (by omega)];exact g26 (·.ID) l i dSSymbol 0 hi
           rw[this]
           rfl)
   (by rw[g35,if_neg (by simp)])
 have e0:g35 (l,bef (l.map (·.ID)) 0,((0:Nat):Int))=g35 (l,0,0):=rfl;simp only[e0]at hsc;rw[g6e];rcases hsc with⟨h1,h2⟩ | ⟨h1,j,h2,h3⟩
 · rw[h1];refine⟨_,rfl,?_⟩;simp only[Bool.cond_eq_ite];constructor
   · intro h;split at h
     · rename_i h4;simp at h h4;exact⟨by omega,h2,by omega⟩
     · cases h
   · rintro ⟨a,_,b⟩
     rw[if_pos (by simp;omega)];simp;omega
 · rw[h1];refine⟨false,rfl,?_⟩;constructor
   · intro h;cases h
   · rintro ⟨_,h,_⟩
     have:=h j h2;rw[h3]at this;cases this
theorem gw1{l:List SSymbol}(hl:l.length*24≤reachBytes) :∃r,g62 l=some r∧g6e l=some r:=by
 obtain⟨r,h1,h2⟩:=gs1 hl;obtain⟨q,h3,h4⟩:=gye (l:=l) (by unfold reachBytes at*;omega);have:r=q:=Bool.eq_iff_iff.2 (h2.trans h4.symm);exact⟨r,h1,by rw[this];exact h3⟩
end
section
open Go Go.Proofs.YthnmepafpikaiaaGreat.Shv
set_option maxRecDepth 100000
structure OkT (t:SType):Prop where
 syms:t.Symbols.length*24≤reachBytes
 mems:t.Members.length*24≤reachBytes
 dv:∀m,m∈t.Members→OkV m.Default
theorem g3v{n:Nat}(h:n*24≤reachBytes) :n≤reachBytes:=by unfold reachBytes at*;omega
theorem gtz{a b:SMember} :a=b↔a.ID=b.ID∧a.Name=b.Name∧a.Type_=b.Type_∧a.Critical=b.Critical∧a.HasDefault=b.HasDefault∧a.Default=b.Default:=by
 cases a;cases b;simp
theorem g7r(x:SMember) :(⟨x.ID,x.Name,x.Type_,x.Critical,x.HasDefault,SValue.eta x.Default⟩:SMember)=x:=by cases x;simp[SValue.gq]
theorem fiveM{a b:SMember} :(bif bif bif bif decide (a.ID=b.ID)then decide (a.Name=b.Name)else false then decide (a.Type_=b.Type_)else false then eqB a.Critical b.Critical else false then eqB a.HasDefault b.HasDefault else false)=true↔a.ID=b.ID∧a.Name=b.Name∧a.Type_=b.Type_∧a.Critical=b.Critical∧a.HasDefault=b.HasDefault:=by
 simp only[Bool.cond_eq_ite,eqB];by_cases h1:a.ID=b.ID <;> by_cases h2:a.Name=b.Name <;> by_cases h3:a.Type_=b.Type_ <;> by_cases h4:a.Critical=b.Critical <;> simp[h1,h2,h3,h4]
theorem twoM {a b : SMember} {q : Bool} (hq : q = true ↔ a.ID = b.ID ∧ a.Name = b.Name ∧ a.Type_ = b.Type_ ∧ a.Critical = b.Critical ∧ a.HasDefault = b.HasDefault) {x : Option Bool} (hx : Says x a.Default b.Default) :
   Says (some q >>=fun t37=>(if t37=true then x else some false) >>=fun r=>some (bif t37 then r else false)) a b:=by
 obtain⟨rx,h1,h2⟩:=hx;subst h1;refine⟨q && rx,by cases q <;> cases rx <;> rfl,?_⟩;rw[gtz,Bool.and_eq_true,hq,h2];constructor
 · rintro ⟨⟨a1,a2,a3,a4,a5⟩,a6⟩;exact⟨a1,a2,a3,a4,a5,a6⟩
 · rintro ⟨a1,a2,a3,a4,a5,a6⟩;exact⟨⟨a1,a2,a3,a4,a5⟩,a6⟩
theorem gw2{a:SMember}(h:OkV a.Default)(b:SMember) :Says (g7b (a,b)) a b:=by
 rw[g7b];simp only[gdy,SValue.gq];exact twoM fiveM (gc3 h _)
theorem gw3{a:SMember}(h:OkV a.Default)(b:SMember) :Says (g5h (a,b)) a b:=by
 rw[g5h];simp only[gdy];exact twoM fiveM (gik h _)
theorem gjh {f : SMember × SMember → Option Bool} {γ : Type} {g : γ} {a b : List SMember} (hl : a.length = b.length) (ih : ∀ x, x ∈ a → ∀ y, Says (f (x, y)) x y) (L : Nat → Option (Bool ⊕ γ))
   (hstep:∀i,i < a.length→L i=(f (a.getD i dSMember,b.getD i dSMember) >>=fun r=>if(!r)=true then some (.inl false)else L (i+1)))
   (hend:L a.length=some (.inr g)):(L 0=some (.inr g)∧a=b)∨(L 0=some (.inl false)∧a≠b):=by
 have hget:∀(i:Nat) (h1:i < a.length) (h2:i < b.length),Says (f (a.getD i dSMember,b.getD i dSMember)) a[i] b[i]:=by
   intro i h1 h2;rw[g1c h1,g1c h2];exact ih _ (List.getElem_mem h1) _
 have hp:∀(i:Nat) (h1:i < a.length) (h2:i < b.length),(f (a.getD i dSMember,b.getD i dSMember)).getD false=true↔a[i]=b[i]:=by
   intro i h1 h2;obtain⟨r,h3,h4⟩:=hget i h1 h2;rw[h3];exact h4
 have:=scan L a.length (fun i=>(f (a.getD i dSMember,b.getD i dSMember)).getD false) (.inl false) (.inr g)
   (fun i hi=>by
     obtain⟨r,h1,h2⟩:=hget i hi (by omega);rw[hstep i hi,h1]
     cases r <;> rfl) hend
 rcases this with⟨h1,h2⟩ | ⟨h1,j,h2,h3⟩
 · exact .inl ⟨h1,(g60 hl hp).1 h2⟩
 · refine .inr ⟨h1,fun e=>?_⟩;have:=(g60 hl hp).2 e j h2;rw[h3]at this;cases this
theorem gpt{a b:List SMember}(ha:a.length≤reachBytes)(hd:∀m,m∈a→OkV m.Default) :Says (g1g (a,b)) a b:=by
 rw[g1g];by_cases hl:a.length=b.length
 · rw[if_neg (by simp;omega)];have hr:=g13 ha;have hs:=gjh (g:=()) hl (f:=g7b) (fun x hx y=>gw2 (hd x hx) y) (fun i=>gf (b,a,(a.length:Int),(i:Int)))
     (fun i hi=>by
       rw[gf,if_pos (by simp;omega),if_pos (g6 hi)];simp only[oZ4,oZ3,g7,g7r]
       rw[if_pos (g6 (by omega)),gj (by omega)])
     (by rw[gf,if_neg (by simp)])
   have e0:gf (b,a,(a.length:Int),((0:Nat):Int))=gf (b,a,(a.length:Int),0):=rfl;simp only[e0]at hs;rcases hs with⟨h1,h2⟩ | ⟨h1,h2⟩
   · rw[h1];exact⟨true,rfl,by simp[h2]⟩
   · rw[h1];exact⟨false,rfl,by simp[h2]⟩
 · rw[if_pos (by simp;omega)];exact gat hl
theorem gge{a b:SType} :a=b↔a.Kind=b.Kind∧a.Name=b.Name∧a.Low=b.Low∧a.High=b.High∧a.Max=b.Max∧a.Key=b.Key∧a.Elem=b.Elem∧a.Open=b.Open∧a.Symbols=b.Symbols∧a.Members=b.Members:=by
 cases a;cases b;simp only[SType.mk.injEq];constructor
 · rintro ⟨h1,h2,h3,h4,h5,h6,h7,h8,h9,h10⟩;exact⟨h1,h2,h3,h4,h5,h8,h9,h10,h6,h7⟩
 · rintro ⟨h1,h2,h3,h4,h5,h6,h7,h8,h9,h10⟩;exact⟨h1,h2,h3,h4,h5,h9,h10,h6,h7,h8⟩
theorem g10s {a b : SType} : (bif bif bif bif bif bif bif decide (a.Kind = b.Kind) then decide (a.Name = b.Name) else false then decide (a.Low = b.Low) else false then decide (a.High = b.High) else false then decide (a.Max = b.Max) else false then decide (a.Key = b.Key) else false then decide (a.Elem = b.Elem) else false then eqB a.Open b.Open else false) = true ↔
   a.Kind=b.Kind∧a.Name=b.Name∧a.Low=b.Low∧a.High=b.High∧a.Max=b.Max∧a.Key=b.Key∧a.Elem=b.Elem∧a.Open=b.Open:=by
 simp only[Bool.cond_eq_ite,eqB];by_cases h1:a.Kind=b.Kind <;> by_cases h2:a.Name=b.Name <;> by_cases h3:a.Low=b.Low <;> by_cases h4:a.High=b.High <;> simp[h1,h2,h3,h4]
 by_cases h5:a.Max=b.Max <;> by_cases h6:a.Key=b.Key <;> by_cases h7:a.Elem=b.Elem <;> simp[h5,h6,h7]
theorem g4g{a:SType}(h:OkT a)(b:SType) :Says (g1o (a,b)) a b:=by
 rw[g1o];obtain⟨rs,s1,s2⟩:=g10r (a:=a.Symbols) (b:=b.Symbols) (g3v h.syms);obtain⟨rm,m1,m2⟩:=gpt (a:=a.Members) (b:=b.Members) (g3v h.mems) h.dv;have e8:=g10s (a:=a) (b:=b)
 generalize (bif bif bif bif bif bif bif decide (a.Kind=b.Kind)then decide (a.Name=b.Name)else false then decide (a.Low=b.Low)else false then decide (a.High=b.High)else false then decide (a.Max=b.Max)else false then decide (a.Key=b.Key)else false then decide (a.Elem=b.Elem)else false then eqB a.Open b.Open else false)=q at e8 ⊢
 simp only[oZ4,oZ3];rw[s1,m1];refine⟨q && rs && rm,by cases q <;> cases rs <;> cases rm <;> rfl,?_⟩;rw[gge,Bool.and_eq_true,Bool.and_eq_true,e8,s2,m2];constructor
 · rintro ⟨⟨⟨a1,a2,a3,a4,a5,a6,a7,a8⟩,a9⟩,a10⟩;exact⟨a1,a2,a3,a4,a5,a6,a7,a8,a9,a10⟩
 · rintro ⟨a1,a2,a3,a4,a5,a6,a7,a8,a9,a10⟩;exact⟨⟨⟨a1,a2,a3,a4,a5,a6,a7,a8⟩,a9⟩,a10⟩
theorem ggf(a:SType) :(⟨a.Kind,a.Name,a.Low,a.High,a.Max,a.Symbols,a.Members,a.Key,a.Elem,a.Open⟩:SType)=a:=by cases a;rfl
theorem g8z{a:SType}(h:OkT a)(b:SType) :Says (g7p (a,b)) a b:=by
 rw[g7p];simp only[ggf];by_cases h5:(a.Kind=b.Kind∧a.Name=b.Name∧a.Low=b.Low∧a.High=b.High∧a.Max=b.Max∧a.Key=b.Key∧a.Elem=b.Elem∧a.Open=b.Open)∧a.Symbols.length=b.Symbols.length∧a.Members.length=b.Members.length
 · obtain⟨⟨e1,e2,e3,e4,e5,e6,e7,e8⟩,e9,e10⟩:=h5;rw[if_neg (by simp[e1,e2,e3,e4,e5,e6,e7,e8,e9,e10,eqB])];have hr:=g13 (g3v h.syms);have hr2:=g13 (g3v h.mems)
   have hsc:=scan (fun i=>g2v ((i:Int),a,b)) a.Symbols.length (fun i=>eqI (a.Symbols.getD i dSSymbol).ID (b.Symbols.getD i dSSymbol).ID && (eqS (a.Symbols.getD i dSSymbol).Name (b.Symbols.getD i dSSymbol).Name && true)) (.inl false) (.inr (a,b))
     (fun i hi'=>by
       rw[g2v,if_pos (by simp;omega),if_pos (g6 hi')];simp only[oZ4,oZ3,g7];rw[if_pos (g6 (by omega)),gj (by omega)];generalize (eqI (a.Symbols.getD i dSSymbol).ID (b.Symbols.getD i dSSymbol).ID && (eqS (a.Symbols.getD i dSSymbol).Name (b.Symbols.getD i dSSymbol).Name && true))=c
       cases c <;> rfl)
     (by rw[g2v,if_neg (by simp)])
   have h0:g2v (((0:Nat):Int),a,b)=g2v (0,a,b):=rfl;simp only[h0]at hsc;have hp:∀(i:Nat) (h1:i < a.Symbols.length) (h2:i < b.Symbols.length),(eqI (a.Symbols.getD i dSSymbol).ID (b.Symbols.getD i dSSymbol).ID && (eqS (a.Symbols.getD i dSSymbol).Name (b.Symbols.getD i dSSymbol).Name && true))=true↔a.Symbols[i]=b.Symbols[i]:=fun i h1 h2=>by
     rw[g1c h1,g1c h2];exact gvy
   rcases hsc with⟨g1,g2⟩ | ⟨g1,j,g2,g3⟩
   · have hsy:=(g60 e9 hp).1 g2;rw[g1];simp only[oZ4,oZ3];have hs:=gjh (g:=()) e10 (f:=g5h) (fun x hx y=>gw3 (h.dv x hx) y) (fun i=>g2w ((i:Int),a,b))
       (fun i hi=>by
         rw[g2w,if_pos (by simp;omega),if_pos (g6 hi)];simp only[oZ4,oZ3,g7,g7r]
         rw[if_pos (g6 (by omega)),gj (by omega)])
       (by rw[g2w,if_neg (by simp)])
     have e0:g2w (((0:Nat):Int),a,b)=g2w (0,a,b):=rfl;simp only[e0]at hs;rcases hs with⟨k1,k2⟩ | ⟨k1,k2⟩
     · rw[k1];refine⟨true,rfl,?_⟩;rw[gge];simp[e1,e2,e3,e4,e5,e6,e7,e8,hsy,k2]
     · rw[k1];refine⟨false,rfl,?_⟩;rw[gge];simp[k2]
   · rw[g1];refine⟨false,rfl,?_⟩;constructor
     · intro h;cases h
     · intro h;have:=(g60 e9 hp).2 (gge.1 h).2.2.2.2.2.2.2.2.1 j g2;rw[g3]at this;cases this
 · rw[if_pos]
   · refine⟨false,rfl,?_⟩;constructor
     · intro h;cases h
     · intro h
       exfalso;apply h5
       subst h;simp
   · simp only[Bool.cond_eq_ite,eqB];by_cases q1:a.Kind=b.Kind <;> by_cases q2:a.Name=b.Name <;> by_cases q3:a.Low=b.Low <;> by_cases q4:a.High=b.High <;> simp[q1,q2,q3,q4]
     by_cases q5:a.Max=b.Max <;> by_cases q6:a.Key=b.Key <;> by_cases q7:a.Elem=b.Elem <;> by_cases q8:a.Open=b.Open <;> simp[q5,q6,q7,q8]
     by_cases q9:a.Symbols.length=b.Symbols.length
     · by_cases q10:a.Members.length=b.Members.length
       · exact absurd ⟨⟨q1,q2,q3,q4,q5,q6,q7,q8⟩,q9,q10⟩ h5
       · right;omega
     · left;omega
end
section
open Go Go.Proofs.YthnmepafpikaiaaGreat.Shv
set_option maxRecDepth 100000
def g9a(v:SValue) :Bool:=(g46 (v,dSValue)).getD false
theorem gyf{v:SValue}(h:OkV v) :g46 (v,dSValue)=some (g9a v):=by
 obtain⟨r,h1,h2⟩:=gc3 h dSValue;unfold g9a;rw[h1];rfl
theorem gyg{v:SValue}(h:OkV v) :g12 (v,dSValue)=some (g9a v):=by
 obtain⟨r,h1,h2⟩:=gc3 h dSValue;obtain⟨q,h3,h4⟩:=gik h dSValue;unfold g9a;rw[h1,h3];have:q=r:=Bool.eq_iff_iff.2 (h4.trans h2.symm);rw[this];rfl
theorem gxj{v:SValue}(h:OkV v) :ga3 v=some (g9a v):=by
 rw[ga3,SValue.gq];have:=gyf h;unfold dSValue at this;rw[this];rfl
def badM(union:Bool)(m:SMember) :Bool:=(union && (m.Critical || m.HasDefault)) || (m.Critical && m.HasDefault) || (!m.HasDefault && !g9a m.Default)
theorem gg{α:Type}{l:List α}{i:Nat}(h:i < l.length)(d:α) :l.getD i d∈l:=by
 rw[g1c h];exact List.getElem_mem h
theorem glr{t:SType}(h:OkT t) :∃r,g5d t=some r∧(r=true↔(∀i,i < t.Members.length→badM (decide (t.Kind=6)) (t.Members.getD i dSMember)=false)∧(t.Kind=5∨0 < t.Members.length)∧(∀i,i < t.Members.length→idp (t.Members.map (·.ID)) (t.Members.map (·.Name)) i=true)∧t.Members.length≤16):=by
 have hr:t.Members.length < 9223372036854775807:=g13 (g3v h.mems);have hsc:=scan (fun i=>g38 (t.Members,(t.Members.length:Int),(i:Int),t,(t.Members.map (·.ID)).take i,(t.Members.map (·.Name)).take i)) t.Members.length (fun i=>!(badM (decide (t.Kind=6)) (t.Members.getD i dSMember))) (.inl false) (.inr (t,t.Members.map (·.ID),t.Members.map (·.Name)))
   (fun i hi=>by
     have hz:=gxj (h.dv _ (gg hi dSMember));rw[g38,if_pos (by simp;omega),if_pos (g6 hi)];simp only[oZ4,oZ3,g7,SValue.gq];rw[←g26 (·.ID) t.Members i dSMember 0 hi,←g26 (·.Name) t.Members i dSMember [] hi,g9r _ _ _ (by simpa using hi),g9r _ _ _ (by simpa using hi)];have hb:((t.Members.map (·.ID)).take (i+1)).length*24≤reachBytes:=by
       refine Nat.le_trans (Nat.mul_le_mul_right _ ?_) h.mems;simp;omega
     have hb2:((t.Members.map (·.Name)).take (i+1)).length*24≤reachBytes:=by
       refine Nat.le_trans (Nat.mul_le_mul_right _ ?_) h.mems;simp;omega
     rw[if_pos (room8 (by omega) hb),if_pos (room8 (by omega) hb2),gj (by omega),hz];unfold badM
     cases decide (t.Kind=6) <;> cases (t.Members.getD i dSMember).Critical <;> cases (t.Members.getD i dSMember).HasDefault <;> cases g9a (t.Members.getD i dSMember).Default <;> rfl)
   (by
     rw[g38,if_neg (by simp)]
     rw[List.take_of_length_le (by simp),List.take_of_length_le (by simp)])
 have e0:g38 (t.Members,(t.Members.length:Int),((0:Nat):Int),t,(t.Members.map (·.ID)).take 0,(t.Members.map (·.Name)).take 0)=g38 (t.Members,(t.Members.length:Int),0,t,[],[]):=rfl;simp only[e0]at hsc;rw[g5d];obtain⟨r,h1,h2⟩:=gw0 (l:=t.Members.map (·.ID)) (names:=t.Members.map (·.Name)) (by simpa using g3v h.mems) (by simp);rw[List.length_map]at h2
 rcases hsc with⟨g1,g2⟩ | ⟨g1,j,g2,g3⟩
 · rw[g1];simp only[oZ4,oZ3];rw[h1];refine⟨(bif decide (t.Kind=5)then true else decide (0 < ((t.Members.map (·.ID)).length:Int))) && r,?_,?_⟩
   · cases (bif decide (t.Kind=5)then true else decide (0 < ((t.Members.map (·.ID)).length:Int))) <;> rfl
   · rw[Bool.and_eq_true,h2];have e5:(bif decide (t.Kind=5)then true else decide (0 < ((t.Members.map (·.ID)).length:Int)))=true↔(t.Kind=5∨0 < t.Members.length):=by
       by_cases h5:t.Kind=5 <;> simp[h5]
     rw[e5];constructor
     · rintro ⟨a,b,c⟩
       exact⟨fun i hi=>by simpa using g2 i hi,a,b,c⟩
     · rintro ⟨_,a,b,c⟩;exact⟨a,b,c⟩
 · rw[g1];refine⟨false,rfl,?_⟩;constructor
   · intro h;cases h
   · rintro ⟨a,_⟩
     have h5:=a j g2;have g3':(!(badM (decide (t.Kind=6)) (t.Members.getD j dSMember)))=false:=g3;rw[h5]at g3';cases g3'
theorem gu0 (l : List SMember) (record : Bool) (hl : l.length ≤ reachBytes) (i : Nat) (hi : i < l.length) :
   g25 (l,record,(i:Int),0,l.getD i dSMember)=some (if((l.map (·.Name)).take i).contains ((l.map (·.Name)).getD i [])=true then .inl false else .inr (l,record,(i:Int),l.getD i dSMember)):=by
 have hr:=g13 hl;have hsc:=scan (fun k=>g25 (l,record,(i:Int),(k:Int),l.getD i dSMember)) i (fun k=>!(decide ((l.getD k dSMember).Name=(l.getD i dSMember).Name))) (.inl false) (.inr (l,record,(i:Int),l.getD i dSMember))
   (fun k hk=>by
     rw[g25,if_pos (by simp;omega),if_pos (g6 (by omega)),gj (by omega)];simp only[g7,g7r]
     cases decide ((l.getD k dSMember).Name=(l.getD i dSMember).Name) <;> rfl)
   (by rw[g25,if_neg (by simp),g7r])
 have e0:g25 (l,record,(i:Int),((0:Nat):Int),l.getD i dSMember)=g25 (l,record,(i:Int),0,l.getD i dSMember):=rfl;simp only[e0]at hsc;rw[g26 (·.Name) l i dSMember [] hi];rcases hsc with⟨h1,h2⟩ | ⟨h1,j,h2,h3⟩
 · rw[h1,if_neg];rw[g4o (by simp;omega)]
   rintro ⟨k,hk,he⟩
   rw[g26 (·.Name) l k dSMember [] (by omega)]at he;have:=h2 k hk;rw[he]at this;simp at this
 · rw[h1,if_pos];rw[g4o (by simp;omega)];refine⟨j,h2,?_⟩;rw[g26 (·.Name) l j dSMember [] (by omega)]
   simpa using h3
theorem gu1{l:List SMember}{record:Bool}(hl:l.length≤reachBytes)(hd:∀m,m∈l→OkV m.Default) :∃r,g5a (l,record)=some r∧(r=true↔(∀i,i < l.length→badM (!record) (l.getD i dSMember)=false)∧(record=true∨0 < l.length)∧(∀i,i < l.length→idp (l.map (·.ID)) (l.map (·.Name)) i=true)∧l.length≤16):=by
 have hr:=g13 hl;have hsc:=scan (fun i=>g36 (l,record,bef (l.map (·.ID)) i,(i:Int))) l.length (fun i=>idp (l.map (·.ID)) (l.map (·.Name)) i && !(badM (!record) (l.getD i dSMember))) (.inl false) (.inr (l,record))
   (fun i hi=>by
     have hz:=gyg (hd _ (gg hi dSMember));unfold dSValue at hz;rw[g36,if_pos (by simp;omega),if_pos (g6 hi)];simp only[oZ4,oZ3,g7,SValue.gq,g7r,gs0 (l:=l.map (·.ID)) (names:=l.map (·.Name)) (i:=i) (by simpa using hi) (by simp)];rw[gu0 l record hl i hi,hz];have hbef:bef (l.map (·.ID)) (i+1)=(l.getD i dSMember).ID:=by
       unfold bef;rw[if_neg (by omega)];exact g26 (·.ID) l i dSMember 0 hi
     rw[←g26 (·.ID) l i dSMember 0 hi,←g26 (·.Name) l i dSMember [] hi,refId,refNm];simp only[oZ3];generalize (decide (bef (l.map (·.ID)) i < (l.map (·.ID)).getD i 0) && decide (1≤(l.map (·.ID)).getD i 0) && decide ((l.map (·.ID)).getD i 0≤1000))=q;cases q with
     | false=>simp
     | true=>
       simp only[Bool.not_true,Bool.not_false,if_true,oZ3,Bool.true_and];cases nm ((l.map (·.Name)).getD i [])with
       | false=>simp
       | true=>
         simp only[Bool.not_true,Bool.true_and,Bool.or_false,cond_false];unfold badM;cases record <;> cases (l.getD i dSMember).Critical <;> cases (l.getD i dSMember).HasDefault <;> cases g9a (l.getD i dSMember).Default <;>
           simp only[Bool.not_true,Bool.not_false,Bool.or_self,Bool.and_self,Bool.or_true,Bool.true_or,Bool.and_true,Bool.and_false,Bool.false_and,Bool.true_and,Bool.false_or,Bool.or_false,cond_true,cond_false,if_true,if_false,Bool.false_eq_true,oZ3] <;>
           first
             | rfl
             | (cases hc:((l.map (·.Name)).take i).contains ((l.map (·.Name)).getD i [])with
               | true=>simp
               | false=>
                 simp only[Bool.false_eq_true,if_false,Bool.not_false,if_true];rw[gj (by omega),hbef]
                 try rfl))
   (by rw[g36,if_neg (by simp)])
 have e0:g36 (l,record,bef (l.map (·.ID)) 0,((0:Nat):Int))=g36 (l,record,0,0):=rfl;simp only[e0]at hsc;rw[g5a];rcases hsc with⟨h1,h2⟩ | ⟨h1,j,h2,h3⟩
 · rw[h1];refine⟨_,rfl,?_⟩;have h2':∀i,i < l.length→idp (l.map (·.ID)) (l.map (·.Name)) i=true∧badM (!record) (l.getD i dSMember)=false:=fun i hi=>by
     have:=h2 i hi
     simpa using this
   simp only[Bool.cond_eq_ite];constructor
   · intro h;split at h
     · rename_i h4;refine⟨fun i hi=>(h2' i hi).2,?_,fun i hi=>(h2' i hi).1,by simp at h4;omega⟩;cases record with
       | true=>exact .inl rfl
       | false=>right;simp at h;omega
     · cases h
   · rintro ⟨_,a,_,b⟩
     rw[if_pos (by simp;omega)];cases record with
     | true=>rfl
     | false=>simp at a ⊢;omega
 · rw[h1];refine⟨false,rfl,?_⟩;constructor
   · intro h;cases h
   · rintro ⟨a,_,b,_⟩
     have h5:=b j h2;have h6:=a j h2;rw[h5,h6]at h3;cases h3
theorem gni{t:SType}(h:OkT t)(hk:t.Kind=5∨t.Kind=6) :∃r,g5d t=some r∧g5a (t.Members,decide (t.Kind=5))=some r:=by
 obtain⟨r,h1,h2⟩:=glr h;obtain⟨q,h3,h4⟩:=gu1 (l:=t.Members) (record:=decide (t.Kind=5)) (g3v h.mems) h.dv;have hu:(!(decide (t.Kind=5)))=decide (t.Kind=6):=by
   rcases hk with e | e <;> rw[e] <;> rfl
 rw[hu]at h4;have e5:decide (t.Kind=5)=true↔t.Kind=5:=decide_eq_true_iff;rw[e5]at h4;have:r=q:=Bool.eq_iff_iff.2 (h2.trans h4.symm);exact⟨r,h1,by rw[this];exact h3⟩
end
end Go.Proofs.YthnmepafpikaiaaGreat
