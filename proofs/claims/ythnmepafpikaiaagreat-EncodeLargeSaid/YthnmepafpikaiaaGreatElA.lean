/- The functions of the program as functions of Lean, that its code does what they say, and what they answer; part A. -/
import Derived.Test.YthnmepafpikaiaaGreatProg
import Derived.KernelRfl
import Derived.Shelf.SlGeneric
import Derived.Shelf.SlLaysF0
import Derived.Shelf.SlSortCmp.WholeK
import Derived.Lib.Small
import Derived.Test.YthnmepafpikaiaaGreatElLD

namespace Go.Proofs.YthnmepafpikaiaaGreat
set_option linter.all false
section
open Go Go.Proofs.YthnmepafpikaiaaGreat.Shv
open Tryz
set_option maxRecDepth 100000
structure SRaw where
 ID:Int
 Data:List UInt8
structure SValue where
 Kind:Int
 Bool_:Bool
 Int_:Int
 Str:List UInt8
 ID:Int
 Keys:List SValue
 Items:List SValue
 Rest:List SRaw
structure SMember where
 ID:Int
 Name:List UInt8
 Type_:Int
 Critical:Bool
 HasDefault:Bool
 Default:SValue
structure SSymbol where
 ID:Int
 Name:List UInt8
structure SType where
 Kind:Int
 Name:List UInt8
 Low:Int
 High:Int
 Max:Int
 Symbols:List SSymbol
 Members:List SMember
 Key:Int
 Elem:Int
 Open:Bool
structure SSchema where
 Types:List SType
structure EncodeEntry where
 id:Int
 text:List UInt8
structure EncodeReader where
 s:SSchema
structure SField where
 ID:Int
 Critical:Bool
 Data:List UInt8
structure Sheaveref07Part where
 ID:Int
 Type_:Int
 Flag:Int
structure Sheaveref07Node where
 Kind:Int
 A:Int
 B:Int
 C:Int
 Parts:List Sheaveref07Part
structure Sheaveref07Draft where
 Nodes:List Sheaveref07Node
structure Sheaveref08Draft where
 S:Sheaveref07Draft
 T:Int
 C:List Int
structure Sheavelaw09Two where
 D:Sheaveref08Draft
 C:List Int
def dSRaw :SRaw:=⟨0,[]⟩
def dSValue :SValue:=⟨0,false,0,[],0,[],[],[]⟩
def dSMember :SMember:=⟨0,[],0,false,false,dSValue⟩
def dSSymbol :SSymbol:=⟨0,[]⟩
def dSType :SType:=⟨0,[],0,0,0,[],[],0,0,false⟩
def dSSchema :SSchema:=⟨[]⟩
def dEncodeEntry :EncodeEntry:=⟨0,[]⟩
def dEncodeReader :EncodeReader:=⟨dSSchema⟩
def dSField :SField:=⟨0,false,[]⟩
def dSheaveref07Part :Sheaveref07Part:=⟨0,0,0⟩
def dSheaveref07Node :Sheaveref07Node:=⟨0,0,0,0,[]⟩
def dSheaveref07Draft :Sheaveref07Draft:=⟨[]⟩
def dSheaveref08Draft :Sheaveref08Draft:=⟨dSheaveref07Draft,0,[]⟩
def dSheavelaw09Two :Sheavelaw09Two:=⟨dSheaveref08Draft,[]⟩
def uD :Nat→Type
 | 0=>SMember
 | 1=>SValue
 | 2=>SRaw
 | 3=>SType
 | 4=>SSymbol
 | 5=>SSchema
 | 6=>EncodeEntry
 | 7=>EncodeReader
 | 8=>SField
 | 9=>Sheaveref07Draft
 | 10=>Sheaveref07Node
 | 11=>Sheaveref07Part
 | 12=>Sheavelaw09Two
 | 13=>Sheaveref08Draft
 | _=>Bool
def uTys :Nat→List Ty
 | 0=>[.int .i64,.str,.int .i64,.bool,.bool,.int .i64,.bool,.int .i64,.str,.int .i64,.slice (.nm 1),.slice (.nm 1),.slice (.nm 2)]
 | 1=>[.int .i64,.bool,.int .i64,.str,.int .i64,.slice (.nm 1),.slice (.nm 1),.slice (.nm 2)]
 | 2=>[.int .i64,.str]
 | 3=>[.int .i64,.str,.int .i64,.int .i64,.int .i64,.slice (.nm 4),.slice (.nm 0),.int .i64,.int .i64,.bool]
 | 4=>[.int .i64,.str]
 | 5=>[.slice (.nm 3)]
 | 6=>[.int .i64,.str]
 | 7=>[.slice (.nm 3)]
 | 8=>[.int .i64,.bool,.str]
 | 9=>[.slice (.nm 10)]
 | 10=>[.int .u8,.int .u8,.int .u8,.int .u8,.slice (.nm 11)]
 | 11=>[.int .u8,.int .u8,.int .u8]
 | 12=>[.slice (.nm 10),.int .u8,.slice (.int .u8),.slice (.int .u8)]
 | 13=>[.slice (.nm 10),.int .u8,.slice (.int .u8)]
 | _=>[.bool]
def uFlds :(n:Nat)→uD n→List (Cell uD)
 | 0,(x:SMember)=>[⟨.int .i64,x.ID⟩,⟨.str,x.Name⟩,⟨.int .i64,x.Type_⟩,⟨.bool,x.Critical⟩,⟨.bool,x.HasDefault⟩,⟨.int .i64,x.Default.Kind⟩,⟨.bool,x.Default.Bool_⟩,⟨.int .i64,x.Default.Int_⟩,⟨.str,x.Default.Str⟩,⟨.int .i64,x.Default.ID⟩,⟨.slice (.nm 1),x.Default.Keys⟩,⟨.slice (.nm 1),x.Default.Items⟩,⟨.slice (.nm 2),x.Default.Rest⟩]
 | 1,(x:SValue)=>[⟨.int .i64,x.Kind⟩,⟨.bool,x.Bool_⟩,⟨.int .i64,x.Int_⟩,⟨.str,x.Str⟩,⟨.int .i64,x.ID⟩,⟨.slice (.nm 1),x.Keys⟩,⟨.slice (.nm 1),x.Items⟩,⟨.slice (.nm 2),x.Rest⟩]
 | 2,(x:SRaw)=>[⟨.int .i64,x.ID⟩,⟨.str,x.Data⟩]
 | 3,(x:SType)=>[⟨.int .i64,x.Kind⟩,⟨.str,x.Name⟩,⟨.int .i64,x.Low⟩,⟨.int .i64,x.High⟩,⟨.int .i64,x.Max⟩,⟨.slice (.nm 4),x.Symbols⟩,⟨.slice (.nm 0),x.Members⟩,⟨.int .i64,x.Key⟩,⟨.int .i64,x.Elem⟩,⟨.bool,x.Open⟩]
 | 4,(x:SSymbol)=>[⟨.int .i64,x.ID⟩,⟨.str,x.Name⟩]
 | 5,(x:SSchema)=>[⟨.slice (.nm 3),x.Types⟩]
 | 6,(x:EncodeEntry)=>[⟨.int .i64,x.id⟩,⟨.str,x.text⟩]
 | 7,(x:EncodeReader)=>[⟨.slice (.nm 3),x.s.Types⟩]
 | 8,(x:SField)=>[⟨.int .i64,x.ID⟩,⟨.bool,x.Critical⟩,⟨.str,x.Data⟩]
 | 9,(x:Sheaveref07Draft)=>[⟨.slice (.nm 10),x.Nodes⟩]
 | 10,(x:Sheaveref07Node)=>[⟨.int .u8,x.Kind⟩,⟨.int .u8,x.A⟩,⟨.int .u8,x.B⟩,⟨.int .u8,x.C⟩,⟨.slice (.nm 11),x.Parts⟩]
 | 11,(x:Sheaveref07Part)=>[⟨.int .u8,x.ID⟩,⟨.int .u8,x.Type_⟩,⟨.int .u8,x.Flag⟩]
 | 12,(x:Sheavelaw09Two)=>[⟨.slice (.nm 10),x.D.S.Nodes⟩,⟨.int .u8,x.D.T⟩,⟨.slice (.int .u8),x.D.C⟩,⟨.slice (.int .u8),x.C⟩]
 | 13,(x:Sheaveref08Draft)=>[⟨.slice (.nm 10),x.S.Nodes⟩,⟨.int .u8,x.T⟩,⟨.slice (.int .u8),x.C⟩]
 | _+14,(x:Bool)=>[⟨.bool,x⟩]
def uMake :(n:Nat)→List (Cell uD)→Option (uD n)
 | 0,l=>match Hs.dec uD (uTys 0) l with
   | some h=>some (⟨h.1,h.2.1,h.2.2.1,h.2.2.2.1,h.2.2.2.2.1,(⟨h.2.2.2.2.2.1,h.2.2.2.2.2.2.1,h.2.2.2.2.2.2.2.1,h.2.2.2.2.2.2.2.2.1,h.2.2.2.2.2.2.2.2.2.1,h.2.2.2.2.2.2.2.2.2.2.1,h.2.2.2.2.2.2.2.2.2.2.2.1,h.2.2.2.2.2.2.2.2.2.2.2.2⟩:SValue)⟩:SMember)
   | none=>none
 | 1,l=>match Hs.dec uD (uTys 1) l with
   | some h=>some (⟨h.1,h.2.1,h.2.2.1,h.2.2.2.1,h.2.2.2.2.1,h.2.2.2.2.2.1,h.2.2.2.2.2.2.1,h.2.2.2.2.2.2.2⟩:SValue)
   | none=>none
 | 2,l=>match Hs.dec uD (uTys 2) l with
   | some h=>some (⟨h.1,h.2⟩:SRaw)
   | none=>none
 | 3,l=>match Hs.dec uD (uTys 3) l with
   | some h=>some (⟨h.1,h.2.1,h.2.2.1,h.2.2.2.1,h.2.2.2.2.1,h.2.2.2.2.2.1,h.2.2.2.2.2.2.1,h.2.2.2.2.2.2.2.1,h.2.2.2.2.2.2.2.2.1,h.2.2.2.2.2.2.2.2.2⟩:SType)
   | none=>none
 | 4,l=>match Hs.dec uD (uTys 4) l with
   | some h=>some (⟨h.1,h.2⟩:SSymbol)
   | none=>none
 | 5,l=>match Hs.dec uD (uTys 5) l with
   | some h=>some (⟨h⟩:SSchema)
   | none=>none
 | 6,l=>match Hs.dec uD (uTys 6) l with
   | some h=>some (⟨h.1,h.2⟩:EncodeEntry)
   | none=>none
 | 7,l=>match Hs.dec uD (uTys 7) l with
   | some h=>some (⟨(⟨h⟩:SSchema)⟩:EncodeReader)
   | none=>none
 | 8,l=>match Hs.dec uD (uTys 8) l with
   | some h=>some (⟨h.1,h.2.1,h.2.2⟩:SField)
   | none=>none
 | 9,l=>match Hs.dec uD (uTys 9) l with
   | some h=>some (⟨h⟩:Sheaveref07Draft)
   | none=>none
 | 10,l=>match Hs.dec uD (uTys 10) l with
   | some h=>some (⟨h.1,h.2.1,h.2.2.1,h.2.2.2.1,h.2.2.2.2⟩:Sheaveref07Node)
   | none=>none
 | 11,l=>match Hs.dec uD (uTys 11) l with
   | some h=>some (⟨h.1,h.2.1,h.2.2⟩:Sheaveref07Part)
   | none=>none
 | 12,l=>match Hs.dec uD (uTys 12) l with
   | some h=>some (⟨(⟨(⟨h.1⟩:Sheaveref07Draft),h.2.1,h.2.2.1⟩:Sheaveref08Draft),h.2.2.2⟩:Sheavelaw09Two)
   | none=>none
 | 13,l=>match Hs.dec uD (uTys 13) l with
   | some h=>some (⟨(⟨h.1⟩:Sheaveref07Draft),h.2.1,h.2.2⟩:Sheaveref08Draft)
   | none=>none
 | _+14,l=>match Hs.dec uD [.bool] l with
   | some (h:Bool)=>some h
   | none=>none
def eSRaw(x:SRaw) :List T:=[.int .i64 x.ID,.str x.Data]
def SValue.eta(x:SValue) :SValue:=⟨x.Kind,x.Bool_,x.Int_,x.Str,x.ID,x.Keys,x.Items,x.Rest⟩
theorem SValue.gq(x:SValue) :x.eta=x:=by cases x;rfl
mutual
def eSValue :SValue→List T
 | ⟨a0,a1,a2,a3,a4,a5,a6,a7⟩=>[.int .i64 a0,.bool a1,.int .i64 a2,.str a3,.int .i64 a4,.slice (eSValueL a5),.slice (eSValueL a6),.slice (a7.map eSRaw)]
def eSValueL :List SValue→List (List T)
 | []=>[]
 | v::r=>eSValue v::eSValueL r
end
theorem gga :∀l,eSValueL l=l.map eSValue
 | []=>rfl
 | v::r=>by simp only[eSValueL,List.map];rw[gga r]
theorem gs7(x:SValue) :eSValue x=[.int .i64 x.Kind,.bool x.Bool_,.int .i64 x.Int_,.str x.Str,.int .i64 x.ID,.slice (x.Keys.map eSValue),.slice (x.Items.map eSValue),.slice (x.Rest.map eSRaw)]:=by cases x;simp only[eSValue,gga]
def eSMember(x:SMember) :List T:=[.int .i64 x.ID,.str x.Name,.int .i64 x.Type_,.bool x.Critical,.bool x.HasDefault,.int .i64 x.Default.Kind,.bool x.Default.Bool_,.int .i64 x.Default.Int_,.str x.Default.Str,.int .i64 x.Default.ID,.slice (x.Default.Keys.map eSValue),.slice (x.Default.Items.map eSValue),.slice (x.Default.Rest.map eSRaw)]
def eSSymbol(x:SSymbol) :List T:=[.int .i64 x.ID,.str x.Name]
def eSType(x:SType) :List T:=[.int .i64 x.Kind,.str x.Name,.int .i64 x.Low,.int .i64 x.High,.int .i64 x.Max,.slice (x.Symbols.map eSSymbol),.slice (x.Members.map eSMember),.int .i64 x.Key,.int .i64 x.Elem,.bool x.Open]
def eSSchema(x:SSchema) :List T:=[.slice (x.Types.map eSType)]
def eEncodeEntry(x:EncodeEntry) :List T:=[.int .i64 x.id,.str x.text]
def eEncodeReader(x:EncodeReader) :List T:=[.slice (x.s.Types.map eSType)]
def eSField(x:SField) :List T:=[.int .i64 x.ID,.bool x.Critical,.str x.Data]
def eSheaveref07Part(x:Sheaveref07Part) :List T:=[.int .u8 x.ID,.int .u8 x.Type_,.int .u8 x.Flag]
def eSheaveref07Node(x:Sheaveref07Node) :List T:=[.int .u8 x.Kind,.int .u8 x.A,.int .u8 x.B,.int .u8 x.C,.slice (x.Parts.map eSheaveref07Part)]
def eSheaveref07Draft(x:Sheaveref07Draft) :List T:=[.slice (x.Nodes.map eSheaveref07Node)]
def eSheaveref08Draft(x:Sheaveref08Draft) :List T:=[.slice (x.S.Nodes.map eSheaveref07Node),.int .u8 x.T,.slice (x.C.map (fun y=>[.int .u8 y]))]
def eSheavelaw09Two(x:Sheavelaw09Two) :List T:=[.slice (x.D.S.Nodes.map eSheaveref07Node),.int .u8 x.D.T,.slice (x.D.C.map (fun y=>[.int .u8 y])),.slice (x.C.map (fun y=>[.int .u8 y]))]
def uEnc :(n:Nat)→uD n→List T
 | 0,x=>eSMember x
 | 1,x=>eSValue x
 | 2,x=>eSRaw x
 | 3,x=>eSType x
 | 4,x=>eSSymbol x
 | 5,x=>eSSchema x
 | 6,x=>eEncodeEntry x
 | 7,x=>eEncodeReader x
 | 8,x=>eSField x
 | 9,x=>eSheaveref07Draft x
 | 10,x=>eSheaveref07Node x
 | 11,x=>eSheaveref07Part x
 | 12,x=>eSheavelaw09Two x
 | 13,x=>eSheaveref08Draft x
 | _+14,(x:Bool)=>[.bool x]
def Un :Uni where
 D:=uD
 dfl:=fun n=>match n with
   | 0=>dSMember
   | 1=>dSValue
   | 2=>dSRaw
   | 3=>dSType
   | 4=>dSSymbol
   | 5=>dSSchema
   | 6=>dEncodeEntry
   | 7=>dEncodeReader
   | 8=>dSField
   | 9=>dSheaveref07Draft
   | 10=>dSheaveref07Node
   | 11=>dSheaveref07Part
   | 12=>dSheavelaw09Two
   | 13=>dSheaveref08Draft
   | _+14=>false
 flds:=uFlds
 make:=uMake
 tys:=uTys
 enc:=uEnc
 enc_eq:=fun n x=>match n,x with
   | 0,_=>rfl
   | 1,x=>gs7 x
   | 2,_=>rfl
   | 3,_=>rfl
   | 4,_=>rfl
   | 5,_=>rfl
   | 6,_=>rfl
   | 7,_=>rfl
   | 8,_=>rfl
   | 9,_=>rfl
   | 10,_=>rfl
   | 11,_=>rfl
   | 12,_=>rfl
   | 13,_=>rfl
   | _+14,_=>rfl
 mk_eq:=fun n l x h=>match n,x,h with
   | 0,x,h=>by
     simp only[uMake]at h;split at h
     · rename_i hh hd;cases h;exact Hs.dec_cells hd
     · cases h
   | 1,x,h=>by
     simp only[uMake]at h;split at h
     · rename_i hh hd;cases h;exact Hs.dec_cells hd
     · cases h
   | 2,x,h=>by
     simp only[uMake]at h;split at h
     · rename_i hh hd;cases h;exact Hs.dec_cells hd
     · cases h
   | 3,x,h=>by
     simp only[uMake]at h;split at h
     · rename_i hh hd;cases h;exact Hs.dec_cells hd
     · cases h
   | 4,x,h=>by
     simp only[uMake]at h;split at h
     · rename_i hh hd;cases h;exact Hs.dec_cells hd
     · cases h
   | 5,x,h=>by
     simp only[uMake]at h;split at h
     · rename_i hh hd;cases h;exact Hs.dec_cells hd
     · cases h
   | 6,x,h=>by
     simp only[uMake]at h;split at h
     · rename_i hh hd;cases h;exact Hs.dec_cells hd
     · cases h
   | 7,x,h=>by
     simp only[uMake]at h;split at h
     · rename_i hh hd;cases h;exact Hs.dec_cells hd
     · cases h
   | 8,x,h=>by
     simp only[uMake]at h;split at h
     · rename_i hh hd;cases h;exact Hs.dec_cells hd
     · cases h
   | 9,x,h=>by
     simp only[uMake]at h;split at h
     · rename_i hh hd;cases h;exact Hs.dec_cells hd
     · cases h
   | 10,x,h=>by
     simp only[uMake]at h;split at h
     · rename_i hh hd;cases h;exact Hs.dec_cells hd
     · cases h
   | 11,x,h=>by
     simp only[uMake]at h;split at h
     · rename_i hh hd;cases h;exact Hs.dec_cells hd
     · cases h
   | 12,x,h=>by
     simp only[uMake]at h;split at h
     · rename_i hh hd;cases h;exact Hs.dec_cells hd
     · cases h
   | 13,x,h=>by
     simp only[uMake]at h;split at h
     · rename_i hh hd;cases h;exact Hs.dec_cells hd
     · cases h
   | _+14,x,h=>by
     simp only[uMake]at h;split at h
     · rename_i hh hd;cases h;exact Hs.dec_cells hd
     · cases h
 tys_eq:=fun n x=>match n,x with
   | 0,_=>rfl
   | 1,_=>rfl
   | 2,_=>rfl
   | 3,_=>rfl
   | 4,_=>rfl
   | 5,_=>rfl
   | 6,_=>rfl
   | 7,_=>rfl
   | 8,_=>rfl
   | 9,_=>rfl
   | 10,_=>rfl
   | 11,_=>rfl
   | 12,_=>rfl
   | 13,_=>rfl
   | _+14,_=>rfl
 tyOf:=fun e=>match e with
   | 3=>some (.int .i64)
   | 5=>some (.int .u8)
   | 9=>some .str
   | 53=>some (.nm 1)
   | 72=>some (.nm 8)
   | 77=>some (.nm 3)
   | 98=>some (.nm 4)
   | 119=>some (.nm 0)
   | 183=>some (.nm 6)
   | _=>none
 own:=[]
 pos:=fun n=>match n with
   | 0=>by decide
   | 1=>by decide
   | 2=>by decide
   | 3=>by decide
   | 4=>by decide
   | 5=>by decide
   | 6=>by decide
   | 7=>by decide
   | 8=>by decide
   | 9=>by decide
   | 10=>by decide
   | 11=>by decide
   | 12=>by decide
   | 13=>by decide
   | _+14=>Nat.zero_lt_one
theorem gyz :Un.Total:=fun n l h=>match n,h with
 | 0,h=>by
   obtain⟨x,hx⟩:=Hs.dec_ty (D:=uD) (ts:=uTys 0) h;exact⟨_,by show uMake 0 l=_;simp only[uMake,hx];rfl⟩
 | 1,h=>by
   obtain⟨x,hx⟩:=Hs.dec_ty (D:=uD) (ts:=uTys 1) h;exact⟨_,by show uMake 1 l=_;simp only[uMake,hx];rfl⟩
 | 2,h=>by
   obtain⟨x,hx⟩:=Hs.dec_ty (D:=uD) (ts:=uTys 2) h;exact⟨_,by show uMake 2 l=_;simp only[uMake,hx];rfl⟩
 | 3,h=>by
   obtain⟨x,hx⟩:=Hs.dec_ty (D:=uD) (ts:=uTys 3) h;exact⟨_,by show uMake 3 l=_;simp only[uMake,hx];rfl⟩
 | 4,h=>by
   obtain⟨x,hx⟩:=Hs.dec_ty (D:=uD) (ts:=uTys 4) h;exact⟨_,by show uMake 4 l=_;simp only[uMake,hx];rfl⟩
 | 5,h=>by
   obtain⟨x,hx⟩:=Hs.dec_ty (D:=uD) (ts:=uTys 5) h;exact⟨_,by show uMake 5 l=_;simp only[uMake,hx];rfl⟩
 | 6,h=>by
   obtain⟨x,hx⟩:=Hs.dec_ty (D:=uD) (ts:=uTys 6) h;exact⟨_,by show uMake 6 l=_;simp only[uMake,hx];rfl⟩
 | 7,h=>by
   obtain⟨x,hx⟩:=Hs.dec_ty (D:=uD) (ts:=uTys 7) h;exact⟨_,by show uMake 7 l=_;simp only[uMake,hx];rfl⟩
 | 8,h=>by
   obtain⟨x,hx⟩:=Hs.dec_ty (D:=uD) (ts:=uTys 8) h;exact⟨_,by show uMake 8 l=_;simp only[uMake,hx];rfl⟩
 | 9,h=>by
   obtain⟨x,hx⟩:=Hs.dec_ty (D:=uD) (ts:=uTys 9) h;exact⟨_,by show uMake 9 l=_;simp only[uMake,hx];rfl⟩
 | 10,h=>by
   obtain⟨x,hx⟩:=Hs.dec_ty (D:=uD) (ts:=uTys 10) h;exact⟨_,by show uMake 10 l=_;simp only[uMake,hx];rfl⟩
 | 11,h=>by
   obtain⟨x,hx⟩:=Hs.dec_ty (D:=uD) (ts:=uTys 11) h;exact⟨_,by show uMake 11 l=_;simp only[uMake,hx];rfl⟩
 | 12,h=>by
   obtain⟨x,hx⟩:=Hs.dec_ty (D:=uD) (ts:=uTys 12) h;exact⟨_,by show uMake 12 l=_;simp only[uMake,hx];rfl⟩
 | 13,h=>by
   obtain⟨x,hx⟩:=Hs.dec_ty (D:=uD) (ts:=uTys 13) h;exact⟨_,by show uMake 13 l=_;simp only[uMake,hx];rfl⟩
 | m+14,h=>by
   obtain⟨x,hx⟩:=Hs.dec_ty (D:=uD) (ts:=[.bool]) h;exact⟨x,by show uMake (m+14) l=_;simp only[uMake,hx];rfl⟩
end
section
open Go Go.Proofs.YthnmepafpikaiaaGreat.Shv
open Tryz
set_option maxRecDepth 100000
open Go.Proofs Go.Proofs.YthnmepafpikaiaaGreat Go.Shelf
instance:Inhabited EncodeEntry:=⟨dEncodeEntry⟩
instance:Inhabited (Un.D 6):=⟨dEncodeEntry⟩
def sortLt(x y:EncodeEntry) :Bool:=decide (x.id < y.id)
def g7q(l:List EncodeEntry) :Option (List EncodeEntry):=some (pdqBy sortLt l)
section
open Go.Proofs Go.Proofs.YthnmepafpikaiaaGreat Go.Sort Go.RowKit Go.Lib
theorem sortNaN(x:Int)(w:World) :Calls prog 162 #[.int .i64 x] w fun e w'=>e= .returned (.bool false)∧w'=w:=by
 go_enter func162,ntmps162
 go_wp2
 go_ret
 exact⟨by simp,rfl⟩
set_option maxHeartbeats 1000000 in
theorem sortCmp(x y:Int)(w:World) :Calls prog 136 #[.int .i64 x,.int .i64 y] w fun e w'=>e= .returned (.int .i64 (Lib.compareInt x y))∧w'=w:=by
 go_enter func136,ntmps136
 go_wp2_with (go_at_call 162;refine(sortNaN _ _).mono ?_;rintro e w' ⟨rfl,hw⟩;rw[hw])
 all_goals (go_ret;refine⟨?_,rfl⟩;unfold Lib.compareInt;(repeat' split) <;> first | rfl | (exfalso;omega))
def sortEnc(x:EncodeEntry) :List Value:=[.int .i64 x.id,.string ⟨x.text.toArray⟩]
set_option maxHeartbeats 1000000 in
theorem sortClo(x y:Int)(s t:ByteArray)(W:World) :Calls prog 135 #[.agg #[.int .i64 x,.string s],.agg #[.int .i64 y,.string t]] W fun e w'=>e= .returned (.int .i64 (Lib.compareInt x y))∧∃q os',w'=grow (W.drewN q) os':=by
 have hcon:=fun W'=>sortCmp x y W'
 generalize Lib.compareInt x y=r at hcon ⊢
 go_enter func135,ntmps135
 go_wp2_with (go_at_call 136;refine(hcon _).mono ?_;rintro e w' ⟨rfl,rfl⟩)
 go_ret
 exact⟨rfl,0,_,by rw[alloc_eq_grow,alloc_eq_grow,grow_grow];rfl⟩
def go3 :Go.Shelf.Ren:=⟨fun | 6=>134 | 15=>161 | 14=>160 | 28=>187 | 29=>188 | 20=>179 | 21=>180 | 22=>181 | 23=>182 | 24=>183 | 25=>184 | 26=>185 | 27=>186 | 46=>192 | 47=>193 | 48=>194 | 49=>195 | 50=>196 | 57=>197 | n=>n,fun | 22=>180 | 24=>183 | 25=>186 | 3=>3 | 39=>124 | 0=>0 | 53=>167 | 55=>82 | 4=>4 | 46=>215 | 45=>214 | 50=>144 | 5=>5 | 9=>9 | 66=>224 | 70=>228 | 76=>230 | 77=>231 | n=>n,fun | n=>n⟩
theorem layS :SlLaysF0.n6 prog go3:={
 mixed:=by kernel_rfl
 f6:=⟨f134.name,by decide,func134.trans (congrArg some (by kernel_rfl))⟩
 f14:=⟨f160.name,by decide,func160.trans (congrArg some (by kernel_rfl))⟩
 f15:=func161.trans (congrArg some (by kernel_rfl))
 f20:=⟨f179.name,by decide,func179.trans (congrArg some (by kernel_rfl))⟩
 f21:=⟨f180.name,by decide,func180.trans (congrArg some (by kernel_rfl))⟩
 f22:=⟨f181.name,by decide,func181.trans (congrArg some (by kernel_rfl))⟩
 f23:=⟨f182.name,by decide,func182.trans (congrArg some (by kernel_rfl))⟩
 f24:=⟨f183.name,by decide,func183.trans (congrArg some (by kernel_rfl))⟩
 f25:=⟨f184.name,by decide,func184.trans (congrArg some (by kernel_rfl))⟩
 f26:=⟨f185.name,by decide,func185.trans (congrArg some (by kernel_rfl))⟩
 f27:=⟨f186.name,by decide,func186.trans (congrArg some (by kernel_rfl))⟩
 f28:=func187.trans (congrArg some (by kernel_rfl))
 f29:=func188.trans (congrArg some (by kernel_rfl))
 f46:=⟨f192.name,by decide,func192.trans (congrArg some (by kernel_rfl))⟩
 f47:=func193.trans (congrArg some (by kernel_rfl))
 f48:=func194.trans (congrArg some (by kernel_rfl))
 f49:=⟨f195.name,by decide,func195.trans (congrArg some (by kernel_rfl))⟩
 f50:=⟨f196.name,by decide,func196.trans (congrArg some (by kernel_rfl))⟩
 f57:=⟨f197.name,by decide,func197.trans (congrArg some (by kernel_rfl))⟩
 t0:=underlying0
 a0:=isAgg0
 z0:=sizeOf0
 v0:=zeroValue0
 t3:=underlying3
 a3:=isAgg3
 z3:=sizeOf3
 v3:=zeroValue3
 t4:=underlying4
 a4:=isAgg4
 z4:=sizeOf4
 v4:=zeroValue4
 t5:=underlying5
 a5:=isAgg5
 z5:=sizeOf5
 v5:=zeroValue5
 t9:=underlying9
 a9:=isAgg9
 z9:=sizeOf9
 v9:=zeroValue9
 t22:=underlying180
 a22:=isAgg180
 z22:=sizeOf180
 v22:=zeroValue180
 t25:=underlying186
 a25:=isAgg186
 z25:=sizeOf186
 v25:=zeroValue186
 t39:=underlying124
 a39:=isAgg124
 z39:=sizeOf124
 v39:=zeroValue124
 t45:=underlying214
 a45:=isAgg214
 z45:=sizeOf214
 v45:=zeroValue214
 t46:=underlying215
 a46:=isAgg215
 z46:=sizeOf215
 v46:=zeroValue215
 t50:=underlying144
 a50:=isAgg144
 z50:=sizeOf144
 v50:=zeroValue144
 t53:=underlying167
 a53:=isAgg167
 z53:=sizeOf167
 v53:=zeroValue167
 t55:=underlying82
 a55:=isAgg82
 z55:=sizeOf82
 v55:=zeroValue82
 t66:=underlying224
 a66:=isAgg224
 z66:=sizeOf224
 v66:=zeroValue224
 t70:=underlying228
 a70:=isAgg228
 z70:=sizeOf228
 v70:=zeroValue228
 t76:=underlying230
 a76:=isAgg230
 z76:=sizeOf230
 v76:=zeroValue230
 t77:=underlying231
 a77:=isAgg231
 z77:=sizeOf231
 v77:=zeroValue231}
theorem glv :ltOf (fun x y:EncodeEntry=>Lib.compareInt x.id y.id)=sortLt:=by
 funext x y
 unfold ltOf sortLt Lib.compareInt;by_cases h1:x.id < y.id
 · simp[h1]
 · by_cases h2:y.id < x.id <;> simp[h1,h2]
theorem sortSWO :SWO sortLt:=gwh (fun x:EncodeEntry=>x.id)
set_option maxHeartbeats 2000000 in
theorem sortNoneI(p:Option Addr)(cap:Nat)(fv:Value)(w:World) :Calls prog 179 #[.slice p 0 cap,.int .i64 0,.int .i64 0,fv] w fun e w'=>e= .returned (.tuple #[])∧w'=w:=by
 go_enter func179,ntmps179
 go_wp2
 refine wp_loop_rounds 1 ?_;rw[rounds_succ]
 go_wp2
 go_end0
 exact⟨rfl,rfl⟩
set_option maxHeartbeats 2000000 in
theorem sortNoneP(p:Option Addr)(cap:Nat)(lim:Int)(fv:Value)(w:World) :Calls prog 160 #[.slice p 0 cap,.int .i64 0,.int .i64 0,.int .i64 lim,fv] w fun e w'=>e= .returned (.tuple #[])∧w'=w:=by
 have hi:=fun W=>sortNoneI p cap fv W
 go_enter func160,ntmps160
 go_wp2
 refine wp_loop_rounds 1 ?_;rw[rounds_succ]
 go_wp2_with (go_at_call 179;refine(hi _).mono ?_;rintro e w' ⟨rfl,rfl⟩)
 (try simp only[Exit.inBlock,Exit.then]);refine bodyPost_ret (results_none rfl _ _ _) rfl ?_
 exact⟨rfl,rfl⟩
set_option maxHeartbeats 2000000 in
theorem sortNone(p:Option Addr)(cap:Nat)(fv:Value)(w:World) :Calls prog 134 #[.slice p 0 cap,fv] w fun e w'=>e= .returned (.tuple #[])∧w'=w:=by
 have hp:=fun lim W=>sortNoneP p cap lim fv W
 have hl:∀W,Calls prog 161 #[.int .u64 0] W fun e w'=>e= .returned (.int .i64 (Lib.bitLen 0:Nat))∧w'=W:=fun W=>by
   have h:=Any.bits_Len (SlLaysF0.n15.bits (P:=prog) (ρ:=go3) {layS with}) 0 W (by omega) (by omega);exact h
 go_enter func134,ntmps134
 go_wp2_with (first | (go_at_call 161;refine(hl _).mono ?_;rintro e w' ⟨rfl,rfl⟩) | (go_at_call 160;refine(hp _ _).mono ?_;rintro e w' ⟨rfl,rfl⟩))
 go_end0
 exact⟨rfl,rfl⟩
theorem sortWhole (blk off cap : Nat) (d : Array (Un.D 6)) (w : World) (hH : HoldsK sortEnc 2 w blk off d) (hblk : blk < w.heap.size) (hsz : d.size < 4611686018427387904) :
   Calls prog 134 #[.slice (some ⟨blk,off,none⟩) d.size cap,.func (.func 135) #[] #[]] w fun e w'=>e= .returned (.tuple #[])∧∃n os,w'=sortWorldK sortEnc 2 w blk off n (pdq sortLt d 0 d.size (Lib.bitLen d.size) true true) os:=by
 have eg:∀args w,(callFunc 135 args).run prog w= .ok (.enter 135 args) w:=enters_of func135 (by kernel_rfl) rfl
 have h:=AnyQ.slices_SortFunc_eq (α:=EncodeEntry) layS 2 isAgg183 sizeOf183 sortEnc (fun _=>rfl) (fun x v hv=>by simp[sortEnc]at hv;rcases hv with rfl | rfl <;> rfl) (fun x y=>Lib.compareInt x.id y.id) (by rw[glv];exact sortSWO) 135 #[] blk off cap d w eg (fun _ _ _ _ x y=>sortClo x.id y.id _ _ _) hH hblk hsz;rw[glv]at h;exact h
theorem gxl :g3c prog 134=true:=by kernel_rfl
def g9l :FSpec Un:=sortS Un 134 6 135 (pdqBy (α:=Un.D 6) sortLt)
theorem gib :FSnd prog g9l:=gvi (U:=Un) (n:=6) sortEnc sortLt sortSWO (fun _=>rfl) (fun w S x j t v h hr=>gs4 w S x.id x.text j t v h hr) sortWhole sortNone
end
theorem g9m :FnC prog g9l:=⟨gxl,gib⟩
def gjk :Go.Shelf.Ren:=⟨fun | 240=>117 | 276=>145 | n=>n,fun | 0=>0 | 4=>4 | 9=>9 | 20=>20 | 37=>45 | 70=>128 | 72=>130 | 164=>194 | n=>n,fun n=>n⟩
theorem lay240 :Lays.n240 prog gjk:={
 mixed:=by kernel_rfl
 f240:=func117.trans (congrArg some (by kernel_rfl))
 f276:=func145.trans (congrArg some (by kernel_rfl))
 t0:=underlying0
 a0:=isAgg0
 z0:=sizeOf0
 v0:=zeroValue0
 t4:=underlying4
 a4:=isAgg4
 z4:=sizeOf4
 v4:=zeroValue4
 t9:=underlying9
 a9:=isAgg9
 z9:=sizeOf9
 v9:=zeroValue9
 t20:=underlying20
 a20:=isAgg20
 z20:=sizeOf20
 v20:=zeroValue20
 t70:=underlying128
 a70:=isAgg128
 z70:=sizeOf128
 v70:=zeroValue128
 t72:=underlying130
 a72:=isAgg130
 z72:=sizeOf130
 v72:=zeroValue130
 t164:=underlying194
 a164:=isAgg194
 z164:=sizeOf194
 v164:=zeroValue194}
theorem layX72 :Builder.X72 prog gjk:={
 sizeBuilder:=by kernel_rfl
 liesBuilder:=by kernel_rfl}
theorem gxm :g3c prog 117=true:=by kernel_rfl
def gce :FSpec Un:=gjg Un 117 130 5
theorem ggy :FSnd prog gce:=gtk lay240 layX72 rfl rfl
theorem gcf :FnC prog gce:=⟨gxm,ggy⟩
def gjl :Go.Shelf.Ren:=⟨fun | 99=>71 | 105=>37 | 165=>72 | 166=>73 | 169=>75 | 170=>74 | 206=>116 | 212=>70 | 240=>117 | 241=>118 | 263=>114 | 264=>115 | 276=>145 | 277=>146 | n=>n,fun | 0=>0 | 3=>3 | 4=>4 | 5=>5 | 9=>9 | 20=>20 | 37=>45 | 46=>124 | 51=>167 | 53=>82 | 70=>128 | 72=>130 | 75=>133 | 76=>134 | 80=>137 | 109=>125 | 127=>172 | 146=>168 | 148=>170 | 164=>194 | n=>n,fun n=>n⟩
theorem lay105 :Lays.n105 prog gjl:={
 mixed:=by kernel_rfl
 f99:=func71.trans (congrArg some (by kernel_rfl))
 f105:=func37.trans (congrArg some (by kernel_rfl))
 f165:=func72.trans (congrArg some (by kernel_rfl))
 f166:=func73.trans (congrArg some (by kernel_rfl))
 f169:=func75.trans (congrArg some (by kernel_rfl))
 f170:=func74.trans (congrArg some (by kernel_rfl))
 f206:=func116.trans (congrArg some (by kernel_rfl))
 f212:=func70.trans (congrArg some (by kernel_rfl))
 f240:=func117.trans (congrArg some (by kernel_rfl))
 f241:=func118.trans (congrArg some (by kernel_rfl))
 f263:=func114.trans (congrArg some (by kernel_rfl))
 f264:=func115.trans (congrArg some (by kernel_rfl))
 f276:=func145.trans (congrArg some (by kernel_rfl))
 f277:=func146.trans (congrArg some (by kernel_rfl))
 t0:=underlying0
 a0:=isAgg0
 z0:=sizeOf0
 v0:=zeroValue0
 t3:=underlying3
 a3:=isAgg3
 z3:=sizeOf3
 v3:=zeroValue3
 t4:=underlying4
 a4:=isAgg4
 z4:=sizeOf4
 v4:=zeroValue4
 t5:=underlying5
 a5:=isAgg5
 z5:=sizeOf5
 v5:=zeroValue5
 t9:=underlying9
 a9:=isAgg9
 z9:=sizeOf9
 v9:=zeroValue9
 t20:=underlying20
 a20:=isAgg20
 z20:=sizeOf20
 v20:=zeroValue20
 t37:=underlying45
 a37:=isAgg45
 z37:=sizeOf45
 v37:=zeroValue45
 t46:=underlying124
 a46:=isAgg124
 z46:=sizeOf124
 v46:=zeroValue124
 t51:=underlying167
 a51:=isAgg167
 z51:=sizeOf167
 v51:=zeroValue167
 t53:=underlying82
 a53:=isAgg82
 z53:=sizeOf82
 v53:=zeroValue82
 t70:=underlying128
 a70:=isAgg128
 z70:=sizeOf128
 v70:=zeroValue128
 t72:=underlying130
 a72:=isAgg130
 z72:=sizeOf130
 v72:=zeroValue130
 t75:=underlying133
 a75:=isAgg133
 z75:=sizeOf133
 v75:=zeroValue133
 t76:=underlying134
 a76:=isAgg134
 z76:=sizeOf134
 v76:=zeroValue134
 t109:=underlying125
 a109:=isAgg125
 z109:=sizeOf125
 v109:=zeroValue125
 t127:=underlying172
 a127:=isAgg172
 z127:=sizeOf172
 v127:=zeroValue172
 t146:=underlying168
 a146:=isAgg168
 z146:=sizeOf168
 v146:=zeroValue168
 t148:=underlying170
 a148:=isAgg170
 z148:=sizeOf170
 v148:=zeroValue170
 t164:=underlying194
 a164:=isAgg194
 z164:=sizeOf194
 v164:=zeroValue194}
theorem layExtra :Builder.Extra prog gjl:={
 sizeBuilder:=by kernel_rfl
 liesBuilder:=by kernel_rfl
 t5:=underlying5
 a5:=isAgg5
 z5:=sizeOf5
 v5:=zeroValue5
 infoByte:=by kernel_rfl
 cellsByte:=by kernel_rfl
 sizeByte:=by kernel_rfl
 neB5:=by decide}
theorem F37_b :g3c prog 37=true:=by kernel_rfl
def g96 :FSpec Un:=gq8 Un 37
theorem gdo :FSnd prog g96:=gs6 lay105 layExtra rfl
theorem g97 :FnC prog g96:=⟨F37_b,gdo⟩
end
section
open Go Go.Proofs.YthnmepafpikaiaaGreat.Shv
open Tryz
set_option maxRecDepth 100000
abbrev FC(e:FEnt)(F:Hs Un.D e.ts→Option (Hs Un.D e.us)) :Prop:=FnC prog (e.s F)
abbrev LC(f kk:Nat)(p:List Nat)(e:LEnt)(F:Hs Un.D e.ts→Option (OSum Un e.outs)) :Prop:=LpC prog f kk p e F
abbrev KC(e:FEnt) :Prop:=Fok prog e
abbrev FD(e:FEnt) :Hs Un.D e.ts→Hs Un.D e.us→Prop:=FQ prog Un e
abbrev LD(f kk:Nat)(p:List Nat)(e:LEnt) :Hs Un.D e.ts→OSum Un e.outs→Prop:=LQ prog Un f kk p e
theorem FH(e:FEnt)(k:KC e){F:Hs Un.D e.ts→Option (Hs Un.D e.us)}(h:∀h r,F h=some r→FD e h r) :FC e F:= .of k h
theorem LH(e:LEnt){f kk:Nat}{p:List Nat}{F:Hs Un.D e.ts→Option (OSum Un e.outs)}(h:∀h o,F h=some o→LD f kk p e h o) :LC f kk p e F:= .of h
theorem FA(e:FEnt)(k:KC e){fs:List (FSpec Un)}(hf:FoC prog fs){ls:List (Nat × LSpec Un)}(hl:LoC prog e.f e.st.length [] ls){h:Hs Un.D e.ts}{r:Hs Un.D e.us}(hx:xbody (foS fs) (loL ls) prog e h=some r) :FD e h r:= .at k hf hl hx
theorem LA(e:LEnt){f kk:Nat}{p:List Nat}{F:Hs Un.D e.ts→Option (OSum Un e.outs)}(hF:∀h o,F h=some o→LD f kk p e h o){fs:List (FSpec Un)}(hf:FoC prog fs){ls:List (Nat × LSpec Un)}(hl:LoC prog f kk p ls){h:Hs Un.D e.ts}{o:OSum Un e.outs}(hx:gdm (foS fs) (loL ls) kk (pathF prog f p) e F h=some o) :LD f kk p e h o:= .at hF hf hl hx
def e38 :FEnt:=⟨38,[],[],[],.row 5,[],[.nm 5],[]⟩
def e39 :FEnt:=⟨39,[hh tI,hh tI],[],[tI,tI],.row 1,[],[.nm 1],[]⟩
def gtn :LEnt:=⟨0,⟨[(0,hh (tL 4)),(1,hh (tL 4)),(12,hh tI),(13,hh tI)],[]⟩,[],[],[tL 4,tL 4,tI,tI],[oR 4 .bool,oX 0],[]⟩
def e167 :FEnt:=⟨167,[hh (tL 4),hh (tL 4)],[],[tL 4,tL 4],hh .bool,[],[.bool],[gtn]⟩
def gto :LEnt:=⟨0,⟨[(0,hh (tL 2)),(1,hh (tL 2)),(12,hh tI),(13,hh tI)],[]⟩,[],[],[tL 2,tL 2,tI,tI],[oR 4 .bool,oX 0],[]⟩
def e177 :FEnt:=⟨177,[hh (tL 2),hh (tL 2)],[],[tL 2,tL 2],hh .bool,[],[.bool],[gto]⟩
def gbu :LEnt:=⟨0,⟨[(1,hh (tL 1)),(2,.c (.fn 170 [])),(15,hh (tL 1)),(16,hh tI),(17,hh tI)],[]⟩,[],[],[tL 1,tL 1,tI,tI],[oR 6 .bool,oX 0],[]⟩
def gdp :FEnt:=⟨178,[hh (tL 1),hh (tL 1),.c (.fn 170 [])],[],[tL 1,tL 1],hh .bool,[],[.bool],[gbu]⟩
def e170 :FEnt:=⟨170,[.row 1,.row 1],[],[.nm 1,.nm 1],hh .bool,[],[.bool],[]⟩
def e169 :FEnt:=⟨169,[.row 0,.row 0],[],[.nm 0,.nm 0],hh .bool,[],[.bool],[]⟩
def gtp :LEnt:=⟨0,⟨[(1,hh (tL 0)),(2,.c (.fn 169 [])),(15,hh (tL 0)),(16,hh tI),(17,hh tI)],[]⟩,[],[],[tL 0,tL 0,tI,tI],[oR 6 .bool,oX 0],[]⟩
def e168 :FEnt:=⟨168,[hh (tL 0),hh (tL 0),.c (.fn 169 [])],[],[tL 0,tL 0],hh .bool,[],[.bool],[gtp]⟩
def e150 :FEnt:=⟨150,[.row 3,.row 3],[],[.nm 3,.nm 3],hh .bool,[],[.bool],[]⟩
def e163 :FEnt:=⟨163,[hh (.int .u8)],[],[.int .u8],hh .bool,[],[.bool],[]⟩
def e164 :FEnt:=⟨164,[hh (.int .u8)],[],[.int .u8],hh .bool,[],[.bool],[]⟩
def gtq :LEnt:=⟨0,⟨[(0,hh .str),(18,hh tI),(19,hh tI)],[]⟩,[],[],[.str,tI,tI],[oR 2 .bool,oX 0],[]⟩
def e147 :FEnt:=⟨147,[hh .str],[],[.str],hh .bool,[],[.bool],[gtq]⟩
def gts :LEnt:=⟨0,⟨[(0,hh tLI),(1,hh tLS),(5,.c (.mp 0)),(9,hh tLI),(10,hh tI),(11,hh tI)],[.set]⟩,[],[],[tLI,tLS,tLI,tI,tI,tLS],[oR 4 .bool,⟨.exit 0,⟨[(0,hh tLI)],[]⟩,[],[tLI]⟩],[]⟩
def e165 :FEnt:=⟨165,[hh tLI,hh tLS],[],[tLI,tLS],hh .bool,[],[.bool],[gts]⟩
def gtt :LEnt:=⟨0,⟨[(0,hh (tL 4)),(3,.c (.arr 0)),(4,.c (.arr 1)),(7,hh (tL 4)),(8,hh tI),(9,hh tI)],[.arr tI,.arr .str]⟩,[(.slot 3,tI),(.slot 4,.str)],[(.slot 3,tI),(.slot 4,.str)],[tL 4,tL 4,tI,tI,tLI,tLS],[⟨.exit 0,⟨[(0,hh (tL 4)),(3,.c (.arr 0)),(4,.c (.arr 1))],[.arr tI,.arr .str]⟩,[],[tL 4,tLI,tLS]⟩],[]⟩
def e148 :FEnt:=⟨148,[hh (tL 4)],[],[tL 4],hh .bool,[],[.bool],[gtt]⟩
def e166 :FEnt:=⟨166,[.row 1],[],[.nm 1],hh .bool,[],[.bool],[]⟩
def gtu :LEnt:=⟨0,⟨[(1,hP 0 0),(3,.c (.arr 1)),(4,.c (.arr 2)),(8,hh (tL 0)),(9,hh tI),(10,hh tI)],[.brow 3,.arr tI,.arr .str]⟩,[(.slot 3,tI),(.slot 4,.str)],[(.slot 3,tI),(.slot 4,.str)],[tL 0,tI,tI,.nm 3,tLI,tLS],[oR 2 .bool,⟨.exit 0,⟨[(1,hP 0 0),(3,.c (.arr 1)),(4,.c (.arr 2))],[.brow 3,.arr tI,.arr .str]⟩,[],[.nm 3,tLI,tLS]⟩],[]⟩
def e149 :FEnt:=⟨149,[.row 3],[],[.nm 3],hh .bool,[],[.bool],[gtu]⟩
def e120 :FEnt:=⟨120,[.row 3],[],[.nm 3],hh .bool,[],[.bool],[]⟩
def gtv :LEnt:=⟨0,⟨[(1,hP 0 0),(3,.c (.arr 1)),(7,hh (tL 0)),(8,hh tI),(9,hh tI)],[.brow 3,.arr tI]⟩,[(.slot 3,tI)],[(.slot 3,tI)],[tL 0,tI,tI,.nm 3,tLI],[⟨.exit 0,⟨[(1,hP 0 0),(3,.c (.arr 1))],[.brow 3,.arr tI]⟩,[],[.nm 3,tLI]⟩],[]⟩
def e121 :FEnt:=⟨121,[.row 3],[],[.nm 3],hh tLI,[],[tLI],[gtv]⟩
def gq9 :LEnt:=⟨0,⟨[(1,hP 0 0),(3,.c (.mp 1)),(5,hP 2 0),(14,hh (tL 3)),(15,hh tI),(16,hh tI),(38,hh tLI),(39,hh tI),(40,hh tI)],[bb (tL 3),.set,.box [.hole tI,.hole .str,.hole tI,.hole tI,.hole tI,.hole (tL 4),.hole (tL 0),.hole tI,.hole tI,.hole .bool]]⟩,[],[],[tL 3,tI,tI,tLI,tI,tI,tL 3,tLS,tI,.str,tI,tI,tI,tL 4,tL 0,tI,tI,.bool],[oR 2 tI,⟨.exit 2,⟨[(1,hP 0 0),(3,.c (.mp 1)),(5,hP 2 0),(14,hh (tL 3)),(15,hh tI),(16,hh tI)],[bb (tL 3),.set,.box [.hole tI,.hole .str,.hole tI,.hole tI,.hole tI,.hole (tL 4),.hole (tL 0),.hole tI,.hole tI,.hole .bool]]⟩,[],[tL 3,tI,tI,tL 3,tLS,tI,.str,tI,tI,tI,tL 4,tL 0,tI,tI,.bool]⟩],[]⟩
def e79_0 :LEnt:=⟨0,⟨[(1,hP 0 0),(3,.c (.mp 1)),(14,hh (tL 3)),(15,hh tI),(16,hh tI)],[bb (tL 3),.set]⟩,[],[],[tL 3,tI,tI,tL 3,tLS],[oR 2 tI,oX 0],[gq9]⟩
def e79 :FEnt:=⟨79,[.row 5],[],[.nm 5],hh tI,[],[tI],[e79_0]⟩
def e52 :FEnt:=⟨52,[.row 5,hh tI],[],[.nm 5,tI],hh tI,[],[tI],[]⟩
def e171 :FEnt:=⟨171,[.row 1],[],[.nm 1],.row 1,[],[.nm 1],[]⟩
def e155 :FEnt:=⟨155,[.row 1],[],[.nm 1],hh .bool,[],[.bool],[]⟩
def e153 :FEnt:=⟨153,[.row 4,hP 0 0],[bb tI],[.nm 4,tI],hh .bool,[bb tI],[.bool,tI],[]⟩
def gtw :LEnt:=⟨0,⟨[(0,hh (tL 4)),(1,.c (.fn 153 [0])),(7,hh tI),(8,hh tI)],[bb tI]⟩,[],[],[tL 4,tI,tI,tI],[⟨.ret,⟨[(4,hh tI)],[bb tI]⟩,[],[tI,tI]⟩,⟨.exit 0,⟨[],[bb tI]⟩,[],[tI]⟩],[]⟩
def e152 :FEnt:=⟨152,[hh (tL 4),.c (.fn 153 [0])],[bb tI],[tL 4,tI],hh tI,[bb tI],[tI,tI],[gtw]⟩
def e129 :FEnt:=⟨129,[.row 3,hh tI],[],[.nm 3,tI],.tup [hh tI,hh .bool],[],[tI,.bool],[]⟩
def e156 :FEnt:=⟨156,[hh tI],[],[tI],hh .bool,[],[.bool],[]⟩
def e126 :FEnt:=⟨126,[.row 0,hP 0 0],[bb tI],[.nm 0,tI],hh .bool,[bb tI],[.bool,tI],[]⟩
def gtx :LEnt:=⟨0,⟨[(0,hh (tL 0)),(1,.c (.fn 126 [0])),(7,hh tI),(8,hh tI)],[bb tI]⟩,[],[],[tL 0,tI,tI,tI],[⟨.ret,⟨[(4,hh tI)],[bb tI]⟩,[],[tI,tI]⟩,⟨.exit 0,⟨[],[bb tI]⟩,[],[tI]⟩],[]⟩
def e125 :FEnt:=⟨125,[hh (tL 0),.c (.fn 126 [0])],[bb tI],[tL 0,tI],hh tI,[bb tI],[tI,tI],[gtx]⟩
def e82 :FEnt:=⟨82,[.row 3,hh tI],[],[.nm 3,tI],.tup [hh tI,hh .bool],[],[tI,.bool],[]⟩
def e173 :FEnt:=⟨173,[.row 1,hP 0 0,hP 1 0,hP 2 0],[bb (tL 3),bb tI,bb .bool],[.nm 1,tL 3,tI,.bool],hh .bool,[bb (tL 3),bb tI,bb .bool],[.bool,tL 3,tI,.bool],[]⟩
def ggb :LEnt:=⟨0,⟨[(0,hh (tL 1)),(1,.c (.fn 173 [0,1,2])),(7,hh tI),(8,hh tI)],[bb (tL 3),bb tI,bb .bool]⟩,[],[],[tL 1,tI,tI,tL 3,tI,.bool],[⟨.ret,⟨[(4,hh tI)],[bb (tL 3),bb tI,bb .bool]⟩,[],[tI,tL 3,tI,.bool]⟩,⟨.exit 0,⟨[],[bb (tL 3),bb tI,bb .bool]⟩,[],[tL 3,tI,.bool]⟩],[]⟩
def e189 :FEnt:=⟨189,[hh (tL 1),.c (.fn 173 [0,1,2])],[bb (tL 3),bb tI,bb .bool],[tL 1,tL 3,tI,.bool],hh tI,[bb (tL 3),bb tI,bb .bool],[tI,tL 3,tI,.bool],[ggb]⟩
def e172 :FEnt:=⟨172,[hh (tL 1),.c (.fn 173 [0,1,2])],[bb (tL 3),bb tI,bb .bool],[tL 1,tL 3,tI,.bool],hh .bool,[bb (tL 3),bb tI,bb .bool],[.bool,tL 3,tI,.bool],[]⟩
def e157 :FEnt:=⟨157,[.row 5,hh tI,hh (tL 1),hh .bool],[],[.nm 5,tI,tL 1,.bool],hh .bool,[],[.bool],[]⟩
def e97 :FEnt:=⟨97,[hh tI],[],[tI],hh (.int .u64),[],[.int .u64],[]⟩
def e190 :FEnt:=⟨190,[hh (.int .u64)],[],[.int .u64],hh .bool,[],[.bool],[]⟩
def e174 :FEnt:=⟨174,[hh (.int .u64),hh (.int .u64)],[],[.int .u64,.int .u64],hh tI,[],[tI],[]⟩
def e162 :FEnt:=⟨162,[hh tI],[],[tI],hh .bool,[],[.bool],[]⟩
def e136 :FEnt:=⟨136,[hh tI,hh tI],[],[tI,tI],hh tI,[],[tI],[]⟩
def e191 :FEnt:=⟨191,[hh .str],[],[.str],hh .bool,[],[.bool],[]⟩
def e176 :FEnt:=⟨176,[hh .str,hh .str],[],[.str,.str],hh tI,[],[tI],[]⟩
def gty :LEnt:=⟨0,⟨[(3,hh tI),(6,hh tLI),(7,hh tI),(8,hh tI)],[]⟩,[],[],[tI,tLI,tI,tI],[oR 2 tI,⟨.exit 0,⟨[(3,hh tI)],[]⟩,[],[tI]⟩],[]⟩
def e175 :FEnt:=⟨175,[hh tLI],[],[tLI],hh tI,[],[tI],[gty]⟩
def e158 :FEnt:=⟨158,[.row 1,.row 1],[],[.nm 1,.nm 1],hh tI,[],[tI],[]⟩
def gtz :LEnt:=⟨0,⟨[(3,hh .bool),(4,hP 0 0),(6,hP 1 0),(9,hP 2 0),(111,hh (tL 2)),(112,hh tI),(113,hh tI)],[bb (tL 3),.brow 1,.box [.hole tI,.hole .str,.hole tI,.hole tI,.hole tI,.hole (tL 4),.hole (tL 0),.hole tI,.hole tI,.hole .bool]]⟩,[],[],[.bool,tL 2,tI,tI,tL 3,.nm 1,tI,.str,tI,tI,tI,tL 4,tL 0,tI,tI,.bool],[oR 8 .bool,⟨.exit 1,⟨[(3,hh .bool),(4,hP 0 0),(6,hP 1 0),(9,hP 2 0)],[bb (tL 3),.box [.hole tI,.hole .bool,.hole tI,.hole .str,.hole tI,.hole (tL 1),.hole (tL 1),.hole (tL 2)],.box [.hole tI,.hole .str,.hole tI,.hole tI,.hole tI,.hole (tL 4),.hole (tL 0),.hole tI,.hole tI,.hole .bool]]⟩,[],[.bool,tL 3,tI,.bool,tI,.str,tI,tL 1,tL 1,tL 2,tI,.str,tI,tI,tI,tL 4,tL 0,tI,tI,.bool]⟩],[]⟩
def ggc :LEnt:=⟨1,⟨[(3,hh .bool),(4,hP 0 0),(6,hP 1 0),(150,hh (tL 0)),(151,hh tI),(152,hh tI)],[bb (tL 3),.box [.hole tI,.hole .bool,.hole tI,.hole .str,.hole tI,.hole (tL 1),.hole (tL 1),.hole (tL 2)]]⟩,[],[],[.bool,tL 0,tI,tI,tL 3,tI,.bool,tI,.str,tI,tL 1,tL 1,tL 2],[oR 8 .bool,oX 3],[]⟩
def gu0 :LEnt:=⟨2,⟨[(3,hh .bool),(4,hP 0 0),(6,hP 1 0),(9,hP 2 0),(20,hh tI)],[bb (tL 3),.brow 1,.box [.hole tI,.hole .str,.hole tI,.hole tI,.hole tI,.hole (tL 4),.hole (tL 0),.hole tI,.hole tI,.hole .bool]]⟩,[],[],[.bool,tI,tL 3,.nm 1,tI,.str,tI,tI,tI,tL 4,tL 0,tI,tI,.bool],[oR 8 .bool,⟨.exit 5,⟨[(3,hh .bool),(4,hP 0 0),(6,hP 1 0),(9,hP 2 0)],[bb (tL 3),.brow 1,.box [.hole tI,.hole .str,.hole tI,.hole tI,.hole tI,.hole (tL 4),.hole (tL 0),.hole tI,.hole tI,.hole .bool]]⟩,[],[.bool,tL 3,.nm 1,tI,.str,tI,tI,tI,tL 4,tL 0,tI,tI,.bool]⟩],[]⟩
def e132 :FEnt:=⟨132,[.row 5,hh tI,.row 1,hh .bool],[],[.nm 5,tI,.nm 1,.bool],hh .bool,[],[.bool],[gtz,ggc,gu0]⟩
def e95 :FEnt:=⟨95,[.row 5,hh tI,.row 1],[],[.nm 5,tI,.nm 1],hh .bool,[],[.bool],[]⟩
def e56 :FEnt:=⟨56,[.row 5,hh tI,.row 1],[],[.nm 5,tI,.nm 1],hh tI,[],[tI],[]⟩
def e96_0 :LEnt:=⟨0,⟨[(0,hh (.int .u64)),(3,hP 0 0),(4,hh tI)],[.arr (.int .u8)]⟩,[],[],[.int .u64,tI,.slice (.int .u8)],[⟨.exit 0,⟨[(3,hP 0 0),(4,hh tI)],[.arr (.int .u8)]⟩,[],[tI,.slice (.int .u8)]⟩],[]⟩
def e96 :FEnt:=⟨96,[hh (.int .u64)],[],[.int .u64],hh .str,[],[.str],[e96_0]⟩
def gbv :LEnt:=⟨0,⟨[(1,hh (tL 1)),(2,.c (.fn 159 [])),(15,hh (tL 1)),(16,hh tI),(17,hh tI)],[]⟩,[],[],[tL 1,tL 1,tI,tI],[oR 6 .bool,oX 0],[]⟩
def gdq :FEnt:=⟨178,[hh (tL 1),hh (tL 1),.c (.fn 159 [])],[],[tL 1,tL 1],hh .bool,[],[.bool],[gbv]⟩
def e159 :FEnt:=⟨159,[.row 1,.row 1],[],[.nm 1,.nm 1],hh .bool,[],[.bool],[]⟩
def e133 :FEnt:=⟨133,[.row 0,.row 1],[],[.nm 0,.nm 1],hh .bool,[],[.bool],[]⟩
def gu1 :LEnt:=⟨0,⟨[(0,hh (.int .u64)),(3,hP 0 0),(4,hh tI)],[.arr (.int .u8)]⟩,[],[],[.int .u64,tI,.slice (.int .u8)],[⟨.exit 0,⟨[(0,hh (.int .u64)),(3,hP 0 0),(4,hh tI)],[.arr (.int .u8)]⟩,[],[.int .u64,tI,.slice (.int .u8)]⟩],[]⟩
def e113 :FEnt:=⟨113,[hh (.int .u64)],[],[.int .u64],hh .str,[],[.str],[gu1]⟩
def e100 :FEnt:=⟨100,[hh .str],[],[.str],hh .str,[],[.str],[]⟩
def e68 :FEnt:=⟨68,[hh tI,hh .bool,hh .str],[],[tI,.bool,.str],hh .str,[],[.str],[]⟩
def e73 :FEnt:=⟨73,[hP 0 0,hh .str],[.bld 130 ((.bufc 1)),.buf 5],[.str,.str],.tup [hh tI,.c (.dead)],[.bld 130 ((.bufc 2)),.gone,.buf 5],[tI,.str],[]⟩
def e75 :FEnt:=⟨75,[hP 0 0],[.bld 130 ((.bufc 1)),.buf 5],[.str],hh .str,[.bld 130 ((.bufc 1)),.gone],[.str],[]⟩
def e98_0 :LEnt:=⟨0,⟨[(0,hP 0 0),(3,hh tI),(6,hP 1 0),(9,.c (.arr 2)),(18,hh (tL 0)),(19,hh tI),(20,hh tI)],[.box [.hole (tL 3),.hole tI],.brow 1,.arr (.nm 6)]⟩,[(.slot 9,.nm 6)],[(.slot 9,.nm 6)],[tI,tL 0,tI,tI,tL 3,tI,.nm 1,tL 6],[⟨.exit 0,⟨[(6,hP 1 0),(9,.c (.arr 2))],[.box [.hole (tL 3),.hole tI],.brow 1,.arr (.nm 6)]⟩,[],[tL 3,tI,.nm 1,tL 6]⟩],[]⟩
def e98_1 :LEnt:=⟨1,⟨[(9,.c (.arr 1)),(57,hh (tL 2)),(58,hh tI),(59,hh tI)],[.box [.hole (tL 3),.hole tI],.arr (.nm 6)]⟩,[],[],[tL 2,tI,tI,tL 3,tI,tL 6],[⟨.exit 2,⟨[(9,.c (.arr 1))],[.box [.hole (tL 3),.hole tI],.arr (.nm 6)]⟩,[],[tL 3,tI,tL 6]⟩],[]⟩
def e98_2 :LEnt:=⟨2,⟨[(14,hP 1 0),(77,.c (.arr 2)),(78,hh tI),(79,hh tI)],[.box [.hole (tL 3),.hole tI],.bld 130 ((.bufc 3)),.arr (.nm 6),.buf 5]⟩,[],[],[tI,tI,tL 3,tI,tL 6,.str],[⟨.exit 4,⟨[(14,hP 1 0)],[.box [.hole (tL 3),.hole tI],.bld 130 ((.bufc 2)),.buf 5]⟩,[],[tL 3,tI,.str]⟩],[]⟩
def e98 :FEnt:=⟨98,[hP 0 0,.row 3,.row 1,hh tI],[.box [.hole (tL 3),.hole tI]],[.nm 3,.nm 1,tI,tL 3,tI],hh .str,[.box [.hole (tL 3),.hole tI]],[.str,tL 3,tI],[e98_0,e98_1,e98_2]⟩
def e99 :FEnt:=⟨99,[hP 0 0,.row 3,.row 1,hh tI],[.box [.hole (tL 3),.hole tI]],[.nm 3,.nm 1,tI,tL 3,tI],hh .str,[.box [.hole (tL 3),.hole tI]],[.str,tL 3,tI],[]⟩
def e57_0 :LEnt:=⟨0,⟨[(0,hP 0 0),(3,hh tI),(6,hP 1 0),(9,hP 2 0),(10,hP 3 0),(84,hh (tL 1)),(85,hh tI),(86,hh tI)],[.box [.hole (tL 3),.hole tI],.brow 1,.brow 3,.bld 130 ((.bufc 4)),.buf 5]⟩,[],[],[tI,tL 1,tI,tI,tL 3,tI,.nm 1,.nm 3,.str],[⟨.exit 1,⟨[(10,hP 1 0)],[.box [.hole (tL 3),.hole tI],.bld 130 ((.bufc 2)),.buf 5]⟩,[],[tL 3,tI,.str]⟩],[]⟩
def e57 :FEnt:=⟨57,[hP 0 0,hh tI,.row 1,hh tI],[.box [.hole (tL 3),.hole tI]],[tI,.nm 1,tI,tL 3,tI],hh .str,[.box [.hole (tL 3),.hole tI]],[.str,tL 3,tI],[e57_0]⟩
def e26 :FEnt:=⟨26,[.row 5,hh tI,.row 1],[],[.nm 5,tI,.nm 1],.tup [hh .str,hh tI],[],[.str,tI],[]⟩
def e76_0 :LEnt:=⟨0,⟨[(0,hh .str),(5,hh (.int .u64)),(10,hh tI),(11,hh tI)],[]⟩,[],[],[.str,.int .u64,tI,tI],[⟨.ret,⟨[(2,hh (.int .u64)),(3,hh tI),(4,hh tI)],[]⟩,[],[.int .u64,tI,tI]⟩,oX 0],[]⟩
def e76 :FEnt:=⟨76,[hh .str],[],[.str],.tup [hh (.int .u64),hh tI,hh tI],[],[.int .u64,tI,tI],[e76_0]⟩
def e41 :FEnt:=⟨41,[hh .str],[],[.str],.tup [hh (.int .u64),hh .str,hh .bool],[],[.int .u64,.str,.bool],[]⟩
def e42 :FEnt:=⟨42,[hh .str],[],[.str],.tup [hh .str,hh .str,hh .bool],[],[.str,.str,.bool],[]⟩
def e14_0 :LEnt:=⟨0,⟨[(4,.c (.arr 0)),(5,hh .str)],[.arr .str]⟩,[(.slot 4,.str)],[(.slot 4,.str)],[.str,tLS],[⟨.ret,⟨[(2,.c (.cap0)),(3,hh tI)],[]⟩,[],[tI]⟩,⟨.exit 0,⟨[(4,.c (.arr 0))],[.arr .str]⟩,[],[tLS]⟩],[]⟩
def e14 :FEnt:=⟨14,[hh .str],[],[.str],.tup [hh tLS,hh tI],[],[tLS,tI],[e14_0]⟩
def e40_0 :LEnt:=⟨0,⟨[(0,hh tLS),(1,hh tLS),(12,hh tI),(13,hh tI)],[]⟩,[],[],[tLS,tLS,tI,tI],[oR 4 .bool,oX 0],[]⟩
def e40 :FEnt:=⟨40,[hh tLS,hh tLS],[],[tLS,tLS],hh .bool,[],[.bool],[e40_0]⟩
def e12_0 :LEnt:=⟨0,⟨[(4,.c (.arr 0)),(5,hh (.int .u64)),(6,hh .str)],[.arr (.nm 8)]⟩,[(.slot 4,.nm 8)],[(.slot 4,.nm 8)],[.int .u64,.str,tL 8],[⟨.ret,⟨[(2,.c (.cap0)),(3,hh tI)],[]⟩,[],[tI]⟩,⟨.exit 0,⟨[(4,.c (.arr 0))],[.arr (.nm 8)]⟩,[],[tL 8]⟩],[]⟩
def e12 :FEnt:=⟨12,[hh .str],[],[.str],.tup [hh (tL 8),hh tI],[],[tL 8,tI],[e12_0]⟩
def e80_0 :LEnt:=⟨0,⟨[(3,hh tI),(4,hP 0 0),(5,hP 1 0),(11,hh tI),(27,hh (tL 8)),(28,hh tI),(29,hh tI)],[bb (tL 3),.brow 3]⟩,[],[],[tI,tI,tL 8,tI,tI,tL 3,.nm 3],[oR 8 .bool,⟨.exit 0,⟨[(5,hP 0 0),(11,hh tI)],[.brow 3]⟩,[],[tI,.nm 3]⟩],[]⟩
def e80_1 :LEnt:=⟨1,⟨[(11,hh tI),(93,hh (tL 0)),(94,hh tI),(95,hh tI)],[]⟩,[],[],[tI,tL 0,tI,tI],[⟨.exit 2,⟨[(11,hh tI)],[]⟩,[],[tI]⟩],[]⟩
def e80 :FEnt:=⟨80,[.row 7,.row 3,hh .str,hh tI],[],[.nm 7,.nm 3,.str,tI],hh .bool,[],[.bool],[e80_0,e80_1]⟩
def gdr :FEnt:=⟨123,[hh .str,hP 0 0,hP 1 0,hP 2 0],[bb (tL 3),.box [.hole tI,.hole .str,.hole tI,.hole tI,.hole tI,.hole (tL 4),.hole (tL 0),.hole tI,.hole tI,.hole .bool],bb tI],[.str,tL 3,tI,.str,tI,tI,tI,tL 4,tL 0,tI,tI,.bool,tI],hh .bool,[bb (tL 3),.box [.hole tI,.hole .str,.hole tI,.hole tI,.hole tI,.hole (tL 4),.hole (tL 0),.hole tI,.hole tI,.hole .bool],bb tI],[.bool,tL 3,tI,.str,tI,tI,tI,tL 4,tL 0,tI,tI,.bool,tI],[]⟩
def gbw :LEnt:=⟨0,⟨[(0,hh tLS),(1,.c (.fn 123 [0,1,2])),(7,hh tI),(8,hh tI)],[bb (tL 3),.box [.hole tI,.hole .str,.hole tI,.hole tI,.hole tI,.hole (tL 4),.hole (tL 0),.hole tI,.hole tI,.hole .bool],bb tI]⟩,[],[],[tLS,tI,tI,tL 3,tI,.str,tI,tI,tI,tL 4,tL 0,tI,tI,.bool,tI],[⟨.ret,⟨[(4,hh tI)],[bb (tL 3),.box [.hole tI,.hole .str,.hole tI,.hole tI,.hole tI,.hole (tL 4),.hole (tL 0),.hole tI,.hole tI,.hole .bool],bb tI]⟩,[],[tI,tL 3,tI,.str,tI,tI,tI,tL 4,tL 0,tI,tI,.bool,tI]⟩,⟨.exit 0,⟨[],[bb (tL 3),.box [.hole tI,.hole .str,.hole tI,.hole tI,.hole tI,.hole (tL 4),.hole (tL 0),.hole tI,.hole tI,.hole .bool],bb tI]⟩,[],[tL 3,tI,.str,tI,tI,tI,tL 4,tL 0,tI,tI,.bool,tI]⟩],[]⟩
def gds :FEnt:=⟨151,[hh tLS,.c (.fn 123 [0,1,2])],[bb (tL 3),.box [.hole tI,.hole .str,.hole tI,.hole tI,.hole tI,.hole (tL 4),.hole (tL 0),.hole tI,.hole tI,.hole .bool],bb tI],[tLS,tL 3,tI,.str,tI,tI,tI,tL 4,tL 0,tI,tI,.bool,tI],hh tI,[bb (tL 3),.box [.hole tI,.hole .str,.hole tI,.hole tI,.hole tI,.hole (tL 4),.hole (tL 0),.hole tI,.hole tI,.hole .bool],bb tI],[tI,tL 3,tI,.str,tI,tI,tI,tL 4,tL 0,tI,tI,.bool,tI],[gbw]⟩
def gdt :FEnt:=⟨122,[hh tLS,.c (.fn 123 [0,1,2])],[bb (tL 3),.box [.hole tI,.hole .str,.hole tI,.hole tI,.hole tI,.hole (tL 4),.hole (tL 0),.hole tI,.hole tI,.hole .bool],bb tI],[tLS,tL 3,tI,.str,tI,tI,tI,tL 4,tL 0,tI,tI,.bool,tI],hh .bool,[bb (tL 3),.box [.hole tI,.hole .str,.hole tI,.hole tI,.hole tI,.hole (tL 4),.hole (tL 0),.hole tI,.hole tI,.hole .bool],bb tI],[.bool,tL 3,tI,.str,tI,tI,tI,tL 4,tL 0,tI,tI,.bool,tI],[]⟩
def e124 :FEnt:=⟨124,[hh .str,hh .str],[],[.str,.str],hh .bool,[],[.bool],[]⟩
def e81_0 :LEnt:=⟨0,⟨[(4,hP 0 0),(5,hP 1 0),(7,hP 2 0),(9,hh tLS),(11,hh tI)],[bb (tL 3),.box [.hole tI,.hole .str,.hole tI,.hole tI,.hole tI,.hole (tL 4),.hole (tL 0),.hole tI,.hole tI,.hole .bool],bb tI]⟩,[],[],[tLS,tI,tL 3,tI,.str,tI,tI,tI,tL 4,tL 0,tI,tI,.bool,tI],[oR 8 .bool,oX 0],[]⟩
def e81 :FEnt:=⟨81,[.row 7,.row 3,hh .str,hh tI],[],[.nm 7,.nm 3,.str,tI],hh .bool,[],[.bool],[e81_0]⟩
def e16 :FEnt:=⟨16,[hh .str],[],[.str],.tup [hh tI,hh .str,hh tI],[],[tI,.str,tI],[]⟩
def gu2 :LEnt:=⟨0,⟨[(0,hh .str),(4,hh (.int .u64)),(17,hh tI),(18,hh tI)],[]⟩,[],[],[.str,.int .u64,tI,tI],[⟨.exit 0,⟨[(4,hh (.int .u64))],[]⟩,[],[.int .u64]⟩],[]⟩
def e127 :FEnt:=⟨127,[hh .str],[],[.str],.tup [hh (.int .u64),hh tI],[],[.int .u64,tI],[gu2]⟩
def e128 :FEnt:=⟨128,[hh (.int .u64)],[],[.int .u64],hh tI,[],[tI],[]⟩
def e83 :FEnt:=⟨83,[.row 3,hh .str],[],[.nm 3,.str],hh .bool,[],[.bool],[]⟩
def e53 :FEnt:=⟨53,[.row 7,hh tI,hh .str,hh tI],[],[.nm 7,tI,.str,tI],hh .bool,[],[.bool],[]⟩
def e21 :FEnt:=⟨21,[.row 5,hh tI,hh .str],[],[.nm 5,tI,.str],hh .bool,[],[.bool],[]⟩
def e11 :FEnt:=⟨11,[],[],[],hh .bool,[],[.bool],[]⟩
def e3 :FEnt:=⟨3,[hh .str],[],[.str],hh .bool,[],[.bool],[]⟩
def e4 :FEnt:=⟨4,[.row 9,hh tI,hh .str],[],[.nm 9,tI,.str],hh .bool,[],[.bool],[]⟩
def gxn :LEnt:=⟨0,⟨[(3,hP 0 0),(4,hh tI),(8,.c (.arr 1)),(9,hh tI),(45,hh tI),(46,hh tI),(49,hh tI),(50,hh tI)],[bb (tL 3),.arr (.nm 1)]⟩,[],[],[tI,tI,tI,tI,tI,tI,tL 3,tL 1],[oR 2 .bool,⟨.exit 2,⟨[(3,hP 0 0),(4,hh tI),(8,.c (.arr 1)),(45,hh tI),(46,hh tI)],[bb (tL 3),.arr (.nm 1)]⟩,[],[tI,tI,tI,tL 3,tL 1]⟩],[]⟩
def e5_0 :LEnt:=⟨0,⟨[(3,hP 0 0),(4,hh tI),(8,.c (.arr 1)),(45,hh tI),(46,hh tI)],[bb (tL 3),.arr (.nm 1)]⟩,[],[],[tI,tI,tI,tL 3,tL 1],[oR 2 .bool,oX 0],[gxn]⟩
def e5 :FEnt:=⟨5,[.row 12],[],[.nm 12],hh .bool,[],[.bool],[e5_0]⟩
def e29 :FEnt:=⟨29,[.row 5,hh tI,.row 1],[],[.nm 5,tI,.nm 1],.tup [hh tI,hh tI],[],[tI,tI],[]⟩
def e6_0 :LEnt:=⟨0,⟨[(3,hP 0 0),(4,hh tI),(33,.c (.arr 1)),(34,hh tI),(35,hh tI)],[bb (tL 3),.arr (.nm 1)]⟩,[],[],[tI,tI,tI,tL 3,tL 1],[oR 2 .bool,oX 0],[]⟩
def e6 :FEnt:=⟨6,[.row 13],[],[.nm 13],hh .bool,[],[.bool],[e6_0]⟩
def e7 :FEnt:=⟨7,[.row 5,hh tI,.row 1],[],[.nm 5,tI,.nm 1],hh .bool,[],[.bool],[]⟩
def e8 :FEnt:=⟨8,[hh tI,hh .bool,hh .str],[],[tI,.bool,.str],hh .bool,[],[.bool],[]⟩
def e9_0 :LEnt:=⟨0,⟨[(8,hh .str),(11,hh tI),(12,hh .str),(57,hh (tL 8)),(58,hh tI),(59,hh tI)],[]⟩,[],[],[.str,tI,.str,tL 8,tI,tI],[oR 2 .bool,⟨.exit 1,⟨[(8,hh .str),(11,hh tI),(12,hh .str)],[]⟩,[],[.str,tI,.str]⟩],[]⟩
def e9 :FEnt:=⟨9,[.row 13],[],[.nm 13],hh .bool,[],[.bool],[e9_0]⟩
def e10_0 :LEnt:=⟨0,⟨[(0,hh (.int .u8)),(1,hh (.int .u8)),(2,hh (.int .u8)),(7,hP 0 0),(8,hP 1 0),(24,hh (.int .u8)),(25,hh (.int .u8))],[bb (tL 3),.box [.hole tI,.hole .bool,.hole tI,.hole .str,.hole tI,.cap0,.arr 2,.cap0],.arr (.nm 1)]⟩,[(.via 8 6,.nm 1)],[(.via 8 6,.nm 1)],[.int .u8,.int .u8,.int .u8,.int .u8,.int .u8,tL 3,tI,.bool,tI,.str,tI,tL 1],[⟨.exit 0,⟨[(0,hh (.int .u8)),(1,hh (.int .u8)),(2,hh (.int .u8)),(7,hP 0 0),(8,hP 1 0)],[bb (tL 3),.box [.hole tI,.hole .bool,.hole tI,.hole .str,.hole tI,.cap0,.arr 2,.cap0],.arr (.nm 1)]⟩,[],[.int .u8,.int .u8,.int .u8,tL 3,tI,.bool,tI,.str,tI,tL 1]⟩],[]⟩
def e10_1 :LEnt:=⟨1,⟨[(0,hh (.int .u8)),(1,hh (.int .u8)),(2,hh (.int .u8)),(7,hP 0 0),(8,hP 1 0),(9,hP 2 0),(39,hh (.int .u8)),(40,hh (.int .u8))],[bb (tL 3),.box [.hole tI,.hole .bool,.hole tI,.hole .str,.hole tI,.cap0,.arr 3,.cap0],.box [.hole tI,.hole .bool,.hole tI,.hole .str,.hole tI,.cap0,.hole (tL 1),.cap0],.arr (.nm 1)]⟩,[],[],[.int .u8,.int .u8,.int .u8,.int .u8,.int .u8,tL 3,tI,.bool,tI,.str,tI,tI,.bool,tI,.str,tI,tL 1,tL 1],[⟨.exit 2,⟨[(0,hh (.int .u8)),(1,hh (.int .u8)),(2,hh (.int .u8)),(7,hP 0 0),(8,hP 1 0),(9,hP 2 0)],[bb (tL 3),.box [.hole tI,.hole .bool,.hole tI,.hole .str,.hole tI,.cap0,.arr 3,.cap0],.box [.hole tI,.hole .bool,.hole tI,.hole .str,.hole tI,.cap0,.hole (tL 1),.cap0],.arr (.nm 1)]⟩,[],[.int .u8,.int .u8,.int .u8,tL 3,tI,.bool,tI,.str,tI,tI,.bool,tI,.str,tI,tL 1,tL 1]⟩],[]⟩
def e10 :FEnt:=⟨10,[hh (.int .u8),hh (.int .u8),hh (.int .u8)],[],[.int .u8,.int .u8,.int .u8],hh .bool,[],[.bool],[e10_0,e10_1]⟩
def tabE0 :List FEnt:=[e38,e39,e167,e177,gdp,e170,e169,e168,e150,e163,e164,e147,e165,e148,e166,e149,e120,e121,e79,e52]
def tabE1 :List FEnt:=[e171,e155,e153,e152,e129,e156,e126,e125,e82,e173,e189,e172,e157,e97,e190,e174,e162,e136,e191,e176]
def tabE2 :List FEnt:=[e175,e158,e132,e95,e56,e96,gdq,e159,e133,e113,e100,e68,e73,e75,e98,e99,e57,e26,e76,e41]
def tabE3 :List FEnt:=[e42,e14,e40,e12,e80,gdr,gds,gdt,e124,e81,e16,e127,e128,e83,e53,e21,e11]
def tabE :List FEnt:=tabE0++tabE1++tabE2++tabE3
theorem gxo :tabE.all (okE prog)=true:=by kernel_rfl
def gkw :FSpec Un:={g9l with F:=sortK (α:=Un.D 6) sortLt}
theorem gkx :FnC prog gkw:=⟨g9m.1,fun h r hr=>g9m.2 h r (gvj sortSWO _ r hr)⟩
def g7r(_:Unit) :Option (Bool):=some true
theorem gf9 :FC e11 g7r:= .run gxo (.k gkx (.k gcf .n)) (.m (by kernel_rfl)) 3000 fun _=>by kernel_rfl
theorem gdu :g7r ()=some true:=rfl
end
section
open Go Go.Proofs.YthnmepafpikaiaaGreat.Shv
open Tryz
set_option maxRecDepth 100000
def gt(x_:List SSymbol × List SSymbol × Int × Int) :Option ((Bool) ⊕ (Unit)):=
 match x_ with
 | (s1_1,s2_1,t12_1,t13)=>
 if decide (t13 < t12_1)=true then
 if inR t13 s1_1.length=true then
 some (s1_1.getD t13.toNat dSSymbol) >>=fun x0=>
 if inR t13 s2_1.length=true then
 some (s2_1.getD t13.toNat dSSymbol) >>=fun x0_1=>
 if(!(eqI x0.ID x0_1.ID && (eqS x0.Name x0_1.Name && true)))=true then
 some (.inl false)
 else
 gt (s1_1,s2_1,t12_1,addI .i64 t13 1)
 else none
 else none
 else
 some (.inr ())
  partial_fixpoint
theorem g6x :LC 167 0 [0] gtn gt:= .rc gt.partial_correctness .n .n fun _ _=>by kernel_rfl
def g2r(x_:List SSymbol × List SSymbol) :Option (Bool):=
 match x_ with
 | (s1,s2)=>
 if(!(decide ((s1.length:Int)=(s2.length:Int))))=true then
 some false
 else
 gt (s1,s2,(s1.length:Int),0) >>=fun o=>
 match o with
 | .inl o_1=>
 some o_1
 | .inr o_2=>
 some true
theorem gxp :KC e167:= .m (by kernel_rfl)
theorem g7k :FC e167 g2r:= .fn gxp .n (.k g6x .n) fun _=>by kernel_rfl
def g12(x_:List SRaw × List SRaw × Int × Int) :Option ((Bool) ⊕ (Unit)):=
 match x_ with
 | (s1_1,s2_1,t12_1,t13)=>
 if decide (t13 < t12_1)=true then
 if inR t13 s1_1.length=true then
 some (s1_1.getD t13.toNat dSRaw) >>=fun x0=>
 if inR t13 s2_1.length=true then
 some (s2_1.getD t13.toNat dSRaw) >>=fun x0_1=>
 if(!(eqI x0.ID x0_1.ID && (eqS x0.Data x0_1.Data && true)))=true then
 some (.inl false)
 else
 g12 (s1_1,s2_1,t12_1,addI .i64 t13 1)
 else none
 else none
 else
 some (.inr ())
  partial_fixpoint
theorem g89 :LC 177 0 [0] gto g12:= .rc g12.partial_correctness .n .n fun _ _=>by kernel_rfl
def g2s(x_:List SRaw × List SRaw) :Option (Bool):=
 match x_ with
 | (s1,s2)=>
 if(!(decide ((s1.length:Int)=(s2.length:Int))))=true then
 some false
 else
 g12 (s1,s2,(s1.length:Int),0) >>=fun o=>
 match o with
 | .inl o_1=>
 some o_1
 | .inr o_2=>
 some true
theorem gxq :KC e177:= .m (by kernel_rfl)
theorem g5y :FC e177 g2s:= .fn gxq .n (.k g89 .n) fun _=>by kernel_rfl
mutual
def g3s(x_:SValue × SValue) :Option (Bool):=
 match x_ with
 | (a,b)=>
 some (bif bif bif bif decide (a.Kind=b.Kind)then eqB a.Bool_ b.Bool_ else false then decide (a.Int_=b.Int_)else false then decide (a.Str=b.Str)else false then decide (a.ID=b.ID)else false) >>=fun t37=>
 (if t37=true then g2s (a.Rest,b.Rest)else some false) >>=fun r=>
 some (bif t37 then r else false) >>=fun t44=>
 (if t44=true then gx (a.Keys,b.Keys)else some false) >>=fun r_1=>
 some (bif t44 then r_1 else false) >>=fun t51=>
 (if t51=true then gx (a.Items,b.Items)else some false) >>=fun r_2=>
 some (bif t51 then r_2 else false)
  partial_fixpoint
def gx(x_:List SValue × List SValue) :Option (Bool):=
 match x_ with
 | (s1,s2)=>
 if(!(decide ((s1.length:Int)=(s2.length:Int))))=true then
 some false
 else
 gm (s2,s1,(s1.length:Int),0) >>=fun o=>
 match o with
 | .inl o_1=>
 some o_1
 | .inr o_2=>
 some true
  partial_fixpoint
def gm(x_:List SValue × List SValue × Int × Int) :Option ((Bool) ⊕ (Unit)):=
 match x_ with
 | (s2_1,t15,t16_1,t17)=>
 if decide (t17 < t16_1)=true then
 if inR t17 t15.length=true then
 if inR t17 s2_1.length=true then
 g3s (SValue.eta (t15.getD t17.toNat dSValue),SValue.eta (s2_1.getD t17.toNat dSValue)) >>=fun r=>
 if(!r)=true then
 some (.inl false)
 else
 gm (s2_1,t15,t16_1,addI .i64 t17 1)
 else none
 else none
 else
 some (.inr ())
  partial_fixpoint
end
theorem go4 :KC e170:= .m (by kernel_rfl)
theorem go5 :KC gdp:= .m (by kernel_rfl)
theorem gjm :(∀h r,g3s h=some r→FD e170 h r)∧(∀h r,gx h=some r→FD gdp h r)∧(∀h r,gm h=some r→LD 178 0 [0] gbu h r):=g3s.mutual_partial_correctness (FD e170) (FD gdp) (LD 178 0 [0] gbu)
 (fun _ h1 _ _ h=>FA e170 go4 (.k g5y (.k (FH gdp go5 h1) .n)) .n (.trans (by kernel_rfl) h))
 (fun _ h2 _ _ h=>FA gdp go5 .n (.k (LH gbu h2) .n) (.trans (by kernel_rfl) h))
 (fun _ _ h0 h2 _ _ h=>LA gbu h2 (.k (FH e170 go4 h0) .n) .n (.trans (by kernel_rfl) h))
theorem gf2 :FC e170 g3s:= .of go4 gjm.1
def g65(x_:SMember × SMember) :Option (Bool):=
 match x_ with
 | (x0,y)=>
 some (bif bif bif bif decide (x0.ID=y.ID)then decide (x0.Name=y.Name)else false then decide (x0.Type_=y.Type_)else false then eqB x0.Critical y.Critical else false then eqB x0.HasDefault y.HasDefault else false) >>=fun t37=>
 (if t37=true then g3s ((⟨x0.Default.Kind,x0.Default.Bool_,x0.Default.Int_,x0.Default.Str,x0.Default.ID,x0.Default.Keys,x0.Default.Items,x0.Default.Rest⟩:SValue),SValue.eta y.Default)else some false) >>=fun r=>
 some (bif t37 then r else false)
theorem gxr :KC e169:= .m (by kernel_rfl)
theorem gic :FC e169 g65:= .fn gxr (.k gf2 .n) .n fun _=>by kernel_rfl
def ga(x_:List SMember × List SMember × Int × Int) :Option ((Bool) ⊕ (Unit)):=
 match x_ with
 | (s2_1,t15,t16_1,t17)=>
 if decide (t17 < t16_1)=true then
 if inR t17 t15.length=true then
 some (t15.getD t17.toNat dSMember) >>=fun x0=>
 if inR t17 s2_1.length=true then
 some (s2_1.getD t17.toNat dSMember) >>=fun x0_1=>
 g65 ((⟨x0.ID,x0.Name,x0.Type_,x0.Critical,x0.HasDefault,SValue.eta x0.Default⟩:SMember),(⟨x0_1.ID,x0_1.Name,x0_1.Type_,x0_1.Critical,x0_1.HasDefault,SValue.eta x0_1.Default⟩:SMember)) >>=fun r=>
 if(!r)=true then
 some (.inl false)
 else
 ga (s2_1,t15,t16_1,addI .i64 t17 1)
 else none
 else none
 else
 some (.inr ())
  partial_fixpoint
theorem g3w :LC 168 0 [0] gtp ga:= .rc ga.partial_correctness (.k gic .n) .n fun _ _=>by kernel_rfl
def g14(x_:List SMember × List SMember) :Option (Bool):=
 match x_ with
 | (s1,s2)=>
 if(!(decide ((s1.length:Int)=(s2.length:Int))))=true then
 some false
 else
 ga (s2,s1,(s1.length:Int),0) >>=fun o=>
 match o with
 | .inl o_1=>
 some o_1
 | .inr o_2=>
 some true
theorem gxs :KC e168:= .m (by kernel_rfl)
theorem g43 :FC e168 g14:= .fn gxs .n (.k g3w .n) fun _=>by kernel_rfl
def g1d(x_:SType × SType) :Option (Bool):=
 match x_ with
 | (a,b)=>
 some (bif bif bif bif bif bif bif decide (a.Kind=b.Kind)then decide (a.Name=b.Name)else false then decide (a.Low=b.Low)else false then decide (a.High=b.High)else false then decide (a.Max=b.Max)else false then decide (a.Key=b.Key)else false then decide (a.Elem=b.Elem)else false then eqB a.Open b.Open else false) >>=fun t58=>
 (if t58=true then g2r (a.Symbols,b.Symbols)else some false) >>=fun r=>
 some (bif t58 then r else false) >>=fun t65=>
 (if t65=true then g14 (a.Members,b.Members)else some false) >>=fun r_1=>
 some (bif t65 then r_1 else false)
theorem gxt :KC e150:= .m (by kernel_rfl)
theorem gky :FC e150 g1d:= .fn gxt (.k g7k (.k g43 .n)) .n fun _=>by kernel_rfl
def g66(c:Int) :Option (Bool):=
 some (bif bif decide (c=95)then true else bif decide (97≤c)then decide (c≤122)else false then true else bif decide (65≤c)then decide (c≤90)else false)
theorem gxu :KC e163:= .m (by kernel_rfl)
theorem gbx :FC e163 g66:= .fn gxu .n .n fun _=>by kernel_rfl
end
section
open Go Go.Proofs.YthnmepafpikaiaaGreat.Shv
open Tryz
set_option maxRecDepth 100000
def g84(c:Int) :Option (Bool):=
 some (bif decide (48≤c)then decide (c≤57)else false)
theorem gxv :KC e164:= .m (by kernel_rfl)
theorem gjn :FC e164 g84:= .fn gxv .n .n fun _=>by kernel_rfl
def g33(x_:List UInt8 × Int × Int) :Option ((Bool) ⊕ (Unit)):=
 match x_ with
 | (s_1,t18_1,t19)=>
 if decide (t19 < t18_1)=true then
 if inR t19 s_1.length=true then
 g66 (g4n s_1 t19) >>=fun r_1=>
 some (!r_1) >>=fun t26=>
 if(inR t19 s_1.length || (!t26))=true then
 (if t26=true then g84 (g4n s_1 t19)else some false) >>=fun r_2=>
 if(bif t26 then(!r_2)else false)=true then
 some (.inl false)
 else
 g33 (s_1,t18_1,addI .i64 t19 1)
 else none
 else none
 else
 some (.inr ())
  partial_fixpoint
theorem ggz :LC 147 0 [0] gtq g33:= .rc g33.partial_correctness (.k gbx (.k gjn .n)) .n fun _ _=>by kernel_rfl
def g2n(s:List UInt8) :Option (Bool):=
 some (bif decide (s=[])then true else decide (24 < (s.length:Int))) >>=fun t10=>
 if(inR 0 s.length || (!(!t10)))=true then
 (if(!t10)=true then g66 (g4n s 0)else some false) >>=fun r=>
 if(bif t10 then true else(!r))=true then
 some false
 else
 g33 (s,(s.length:Int),0) >>=fun o=>
 match o with
 | .inl o_1=>
 some o_1
 | .inr o_2=>
 some true
 else none
theorem gxw :KC e147:= .m (by kernel_rfl)
theorem gdv :FC e147 g2n:= .fn gxw (.k gbx .n) (.k ggz .n) fun _=>by kernel_rfl
def g3u(x_:List Int × List (List UInt8) × List Int × Int × Int × List (List UInt8)) :Option ((Bool) ⊕ (List Int)):=
 match x_ with
 | (l_2,names_1,t9,t10_1,t11,b)=>
 if decide (t11 < t10_1)=true then
 if inR t11 t9.length=true then
 some (t9.getD t11.toNat 0) >>=fun x0=>
 some (bif decide (x0 < 1)then true else decide (1000 < x0)) >>=fun t21=>
 some (decide (0 < t11)) >>=fun t24=>
 some (subI .i64 t11 1) >>=fun t29=>
 if(inR t29 l_2.length || (!((!t21) && t24)))=true then
 some (bif t21 then true else bif t24 then decide (x0≤l_2.getD t29.toNat 0)else false) >>=fun t34=>
 if(inR t11 names_1.length || (!(!t34)))=true then
 some (bif t34 then true else hasS b (names_1.getD t11.toNat [])) >>=fun t42=>
 if(inR t11 names_1.length || (!(!t42)))=true then
 (if(!t42)=true then g2n (names_1.getD t11.toNat [])else some false) >>=fun r=>
 if(bif t42 then true else(!r))=true then
 some (.inl false)
 else
 if inR t11 names_1.length=true then
 g3u (l_2,names_1,t9,t10_1,addI .i64 t11 1,addS b (names_1.getD t11.toNat []))
 else none
 else none
 else none
 else none
 else none
 else
 some (.inr l_2)
  partial_fixpoint
theorem gjo :LC 165 0 [0] gts g3u:= .rc g3u.partial_correctness (.k gdv .n) .n fun _ _=>by kernel_rfl
def g8u(x_:List Int × List (List UInt8)) :Option (Bool):=
 match x_ with
 | (l,names)=>
 g3u (l,names,l,(l.length:Int),0,[]) >>=fun o=>
 match o with
 | .inl o_1=>
 some o_1
 | .inr o_2=>
 some (decide ((o_2.length:Int)≤16))
theorem gxx :KC e165:= .m (by kernel_rfl)
theorem ggd :FC e165 g8u:= .fn gxx .n (.k gjo .n) fun _=>by kernel_rfl
def g32(x_:List SSymbol × List SSymbol × Int × Int × List Int × List (List UInt8)) :Option (List SSymbol × List Int × List (List UInt8)):=
 match x_ with
 | (l_2,t7,t8_1,t9,b_2,b_3)=>
 if decide (t9 < t8_1)=true then
 if inR t9 t7.length=true then
 some (t7.getD t9.toNat dSSymbol) >>=fun x0=>
 some [x0.ID] >>=fun t16=>
 if room 8 (b_2++t16).length=true then
 some [x0.Name] >>=fun t21=>
 if room 16 (b_3++t21).length=true then
 g32 (l_2,t7,t8_1,addI .i64 t9 1,b_2++t16,b_3++t21)
 else none
 else none
 else none
 else
 some (l_2,b_2,b_3)
  partial_fixpoint
theorem gfa :LC 148 0 [0] gtt g32:= .rc g32.partial_correctness .n .n fun _ _=>by kernel_rfl
def g53(l:List SSymbol) :Option (Bool):=
 g32 (l,l,(l.length:Int),0,[],[]) >>=fun o=>
 some (decide (0 < (o.1.length:Int))) >>=fun t26=>
 (if t26=true then g8u (o.2.1,o.2.2)else some false) >>=fun r=>
 some (bif t26 then r else false)
theorem gxy :KC e148:= .m (by kernel_rfl)
theorem gid :FC e148 g53:= .fn gxy (.k ggd .n) (.k gfa .n) fun _=>by kernel_rfl
def g8v(v:SValue) :Option (Bool):=
 g3s (SValue.eta v,(⟨0,false,0,[],0,[],[],[]⟩:SValue)) >>=fun r=>
 some r
theorem gxz :KC e166:= .m (by kernel_rfl)
theorem gkz :FC e166 g8v:= .fn gxz (.k gf2 .n) .n fun _=>by kernel_rfl
def g2i(x_:List SMember × Int × Int × SType × List Int × List (List UInt8)) :Option ((Bool) ⊕ (SType × List Int × List (List UInt8))):=
 match x_ with
 | (t8,t9_1,t10,b_3,b_4,b_5)=>
 if decide (t10 < t9_1)=true then
 if inR t10 t8.length=true then
 some (t8.getD t10.toNat dSMember) >>=fun x0=>
 some [x0.ID] >>=fun t17=>
 if room 8 (b_4++t17).length=true then
 some [x0.Name] >>=fun t22=>
 if room 16 (b_5++t22).length=true then
 some (bif bif decide (b_3.Kind=6)then bif x0.Critical then true else x0.HasDefault else false then true else bif x0.Critical then x0.HasDefault else false) >>=fun t42=>
 some (!x0.HasDefault) >>=fun t46=>
 (if((!t42) && t46)=true then g8v (SValue.eta x0.Default)else some false) >>=fun r_1=>
 if(bif t42 then true else bif t46 then(!r_1)else false)=true then
 some (.inl false)
 else
 g2i (t8,t9_1,addI .i64 t10 1,b_3,b_4++t17,b_5++t22)
 else none
 else none
 else none
 else
 some (.inr (b_3,b_4,b_5))
  partial_fixpoint
theorem gfb :LC 149 0 [0] gtu g2i:= .rc g2i.partial_correctness (.k gkz .n) .n fun _ _=>by kernel_rfl
def g4g(t:SType) :Option (Bool):=
 g2i (t.Members,(t.Members.length:Int),0,t,[],[]) >>=fun o=>
 match o with
 | .inl o_1=>
 some o_1
 | .inr o_2=>
 some (bif decide (o_2.1.Kind=5)then true else decide (0 < (o_2.2.1.length:Int))) >>=fun t62=>
 (if t62=true then g8u (o_2.2.1,o_2.2.2)else some false) >>=fun r=>
 some (bif t62 then r else false)
theorem gy0 :KC e149:= .m (by kernel_rfl)
theorem gie :FC e149 g4g:= .fn gy0 (.k ggd .n) (.k gfb .n) fun _=>by kernel_rfl
def g13(t:SType) :Option (Bool):=
 if decide (t.Kind=1)=true then
 g1d ((⟨0,t.Name,t.Low,t.High,t.Max,t.Symbols,t.Members,t.Key,t.Elem,t.Open⟩:SType),(⟨0,[],0,0,0,[],[],0,0,false⟩:SType)) >>=fun r=>
 some r
 else
 if decide (t.Kind=2)=true then
 some (decide (t.Low≤t.High)) >>=fun t17=>
 (if t17=true then g1d ((⟨0,t.Name,0,0,t.Max,t.Symbols,t.Members,t.Key,t.Elem,t.Open⟩:SType),(⟨0,[],0,0,0,[],[],0,0,false⟩:SType))else some false) >>=fun r_1=>
 some (bif t17 then r_1 else false)
 else
 if decide (t.Kind=3)=true then
 some (bif decide (0≤t.Max)then decide (t.Max≤200)else false) >>=fun t29=>
 (if t29=true then g1d ((⟨0,t.Name,t.Low,t.High,0,t.Symbols,t.Members,t.Key,t.Elem,t.Open⟩:SType),(⟨0,[],0,0,0,[],[],0,0,false⟩:SType))else some false) >>=fun r_2=>
 some (bif t29 then r_2 else false)
 else
 if decide (t.Kind=4)=true then
 g2n t.Name >>=fun r_3=>
 (if r_3=true then g53 t.Symbols else some false) >>=fun r_4=>
 some (bif r_3 then r_4 else false) >>=fun t40=>
 (if t40=true then g1d ((⟨0,[],t.Low,t.High,t.Max,[],t.Members,t.Key,t.Elem,false⟩:SType),(⟨0,[],0,0,0,[],[],0,0,false⟩:SType))else some false) >>=fun r_5=>
 some (bif t40 then r_5 else false)
 else
 some (decide (t.Kind=5)) >>=fun t45=>
 if t45=true then
 if t45=true then
 g2n t.Name >>=fun r_6=>
 (if r_6=true then g4g t else some false) >>=fun r_7=>
 some (bif r_6 then r_7 else false) >>=fun t53=>
 (if t53=true then g1d ((⟨0,[],t.Low,t.High,t.Max,t.Symbols,[],t.Key,t.Elem,bif t.Open then decide (t.Kind=5)else false⟩:SType),(⟨0,[],0,0,0,[],[],0,0,false⟩:SType))else some false) >>=fun r_8=>
 some (bif t53 then r_8 else false)
 else
 some (decide (t.Kind=7)) >>=fun t65=>
 if t65=true then
 if t65=true then
 some (bif decide (0≤t.Max)then decide (t.Max≤50)else false) >>=fun t74=>
 if decide (t.Kind=8)=true then
 (if t74=true then g1d ((⟨0,t.Name,t.Low,t.High,0,t.Symbols,t.Members,0,0,t.Open⟩:SType),(⟨0,[],0,0,0,[],[],0,0,false⟩:SType))else some false) >>=fun r_9=>
 some (bif t74 then r_9 else false)
 else
 (if t74=true then g1d ((⟨0,t.Name,t.Low,t.High,0,t.Symbols,t.Members,t.Key,0,t.Open⟩:SType),(⟨0,[],0,0,0,[],[],0,0,false⟩:SType))else some false) >>=fun r_10=>
 some (bif t74 then r_10 else false)
 else
 if decide (t.Kind=9)=true then
 g1d ((⟨0,t.Name,t.Low,t.High,t.Max,t.Symbols,t.Members,t.Key,0,t.Open⟩:SType),(⟨0,[],0,0,0,[],[],0,0,false⟩:SType)) >>=fun r_11=>
 some r_11
 else
 some false
 else
 if decide (t.Kind=8)=true then
 some (bif decide (0≤t.Max)then decide (t.Max≤50)else false) >>=fun t74_1=>
 if decide (t.Kind=8)=true then
 (if t74_1=true then g1d ((⟨0,t.Name,t.Low,t.High,0,t.Symbols,t.Members,0,0,t.Open⟩:SType),(⟨0,[],0,0,0,[],[],0,0,false⟩:SType))else some false) >>=fun r_12=>
 some (bif t74_1 then r_12 else false)
 else
 (if t74_1=true then g1d ((⟨0,t.Name,t.Low,t.High,0,t.Symbols,t.Members,t.Key,0,t.Open⟩:SType),(⟨0,[],0,0,0,[],[],0,0,false⟩:SType))else some false) >>=fun r_13=>
 some (bif t74_1 then r_13 else false)
 else
 if decide (t.Kind=9)=true then
 g1d ((⟨0,t.Name,t.Low,t.High,t.Max,t.Symbols,t.Members,t.Key,0,t.Open⟩:SType),(⟨0,[],0,0,0,[],[],0,0,false⟩:SType)) >>=fun r_14=>
 some r_14
 else
 some false
 else
 if decide (t.Kind=6)=true then
 g2n t.Name >>=fun r_15=>
 (if r_15=true then g4g t else some false) >>=fun r_16=>
 some (bif r_15 then r_16 else false) >>=fun t53_1=>
 (if t53_1=true then g1d ((⟨0,[],t.Low,t.High,t.Max,t.Symbols,[],t.Key,t.Elem,bif t.Open then decide (t.Kind=5)else false⟩:SType),(⟨0,[],0,0,0,[],[],0,0,false⟩:SType))else some false) >>=fun r_17=>
 some (bif t53_1 then r_17 else false)
 else
 some (decide (t.Kind=7)) >>=fun t65_1=>
 if t65_1=true then
 if t65_1=true then
 some (bif decide (0≤t.Max)then decide (t.Max≤50)else false) >>=fun t74_2=>
 if decide (t.Kind=8)=true then
 (if t74_2=true then g1d ((⟨0,t.Name,t.Low,t.High,0,t.Symbols,t.Members,0,0,t.Open⟩:SType),(⟨0,[],0,0,0,[],[],0,0,false⟩:SType))else some false) >>=fun r_18=>
 some (bif t74_2 then r_18 else false)
 else
 (if t74_2=true then g1d ((⟨0,t.Name,t.Low,t.High,0,t.Symbols,t.Members,t.Key,0,t.Open⟩:SType),(⟨0,[],0,0,0,[],[],0,0,false⟩:SType))else some false) >>=fun r_19=>
 some (bif t74_2 then r_19 else false)
 else
 if decide (t.Kind=9)=true then
 g1d ((⟨0,t.Name,t.Low,t.High,t.Max,t.Symbols,t.Members,t.Key,0,t.Open⟩:SType),(⟨0,[],0,0,0,[],[],0,0,false⟩:SType)) >>=fun r_20=>
 some r_20
 else
 some false
 else
 if decide (t.Kind=8)=true then
 some (bif decide (0≤t.Max)then decide (t.Max≤50)else false) >>=fun t74_3=>
 if decide (t.Kind=8)=true then
 (if t74_3=true then g1d ((⟨0,t.Name,t.Low,t.High,0,t.Symbols,t.Members,0,0,t.Open⟩:SType),(⟨0,[],0,0,0,[],[],0,0,false⟩:SType))else some false) >>=fun r_21=>
 some (bif t74_3 then r_21 else false)
 else
 (if t74_3=true then g1d ((⟨0,t.Name,t.Low,t.High,0,t.Symbols,t.Members,t.Key,0,t.Open⟩:SType),(⟨0,[],0,0,0,[],[],0,0,false⟩:SType))else some false) >>=fun r_22=>
 some (bif t74_3 then r_22 else false)
 else
 if decide (t.Kind=9)=true then
 g1d ((⟨0,t.Name,t.Low,t.High,t.Max,t.Symbols,t.Members,t.Key,0,t.Open⟩:SType),(⟨0,[],0,0,0,[],[],0,0,false⟩:SType)) >>=fun r_23=>
 some r_23
 else
 some false
theorem gy1 :KC e120:= .m (by kernel_rfl)
theorem gml :FC e120 g13:= .fn gy1 (.k gky (.k gdv (.k gid (.k gie .n)))) .n fun _=>by kernel_rfl
def g40(x_:List SMember × Int × Int × SType × List Int) :Option (SType × List Int):=
 match x_ with
 | (t7,t8_1,t9,b_2,b_3)=>
 if decide (t9 < t8_1)=true then
 if inR t9 t7.length=true then
 some [(t7.getD t9.toNat dSMember).Type_] >>=fun t16=>
 if room 8 (b_3++t16).length=true then
 g40 (t7,t8_1,addI .i64 t9 1,b_2,b_3++t16)
 else none
 else none
 else
 some (b_2,b_3)
  partial_fixpoint
theorem gif :LC 121 0 [0] gtv g40:= .rc g40.partial_correctness .n .n fun _ _=>by kernel_rfl
def g9v(t:SType) :Option (List Int):=
 g40 (t.Members,(t.Members.length:Int),0,t,[]) >>=fun o=>
 if decide (o.1.Kind=8)=true then
 some [o.1.Key] >>=fun t25=>
 if room 8 (o.2++t25).length=true then
 some (o.2++t25) >>=fun l=>
 if decide (7≤o.1.Kind)=true then
 some [o.1.Elem] >>=fun t33=>
 if room 8 (l++t33).length=true then
 some (l++t33)
 else none
 else
 some l
 else none
 else
 if decide (7≤o.1.Kind)=true then
 some [o.1.Elem] >>=fun t33_1=>
 if room 8 (o.2++t33_1).length=true then
 some (o.2++t33_1)
 else none
 else
 some o.2
theorem gy2 :KC e121:= .m (by kernel_rfl)
theorem gmm :FC e121 g9v:= .fn gy2 .n (.k gif .n) fun _=>by kernel_rfl
def g2j(x_:List SType × Int × Int × List Int × Int × Int × List SType × List (List UInt8) × Int × List UInt8 × Int × Int × Int × List SSymbol × List SMember × Int × Int × Bool) :Option ((Int) ⊕ (List SType × Int × Int × List SType × List (List UInt8) × Int × List UInt8 × Int × Int × Int × List SSymbol × List SMember × Int × Int × Bool)):=
 match x_ with
 | (t14_2,t15_3,t16_2,t38,t39_1,t40,b_14,b_15,b_16,b_17,b_18,b_19,b_20,b_21,b_22,b_23,b_24,b_25)=>
 if decide (t40 < t39_1)=true then
 if inR t40 t38.length=true then
 some (t38.getD t40.toNat 0) >>=fun x0_3=>
 if(bif decide (x0_3 < 0)then true else decide ((b_14.length:Int)≤x0_3))=true then
 some (.inl 4)
 else
 g2j (t14_2,t15_3,t16_2,t38,t39_1,addI .i64 t40 1,b_14,b_15,b_16,b_17,b_18,b_19,b_20,b_21,b_22,b_23,b_24,b_25)
 else none
 else
 some (.inr (t14_2,t15_3,t16_2,b_14,b_15,b_16,b_17,b_18,b_19,b_20,b_21,b_22,b_23,b_24,b_25))
  partial_fixpoint
theorem gfc :LC 79 0 [0,0] gq9 g2j:= .rc g2j.partial_correctness .n .n fun _ _=>by kernel_rfl
end
section
open Go Go.Proofs.YthnmepafpikaiaaGreat.Shv
open Tryz
set_option maxRecDepth 100000
def g3l(x_:List SType × Int × Int × List SType × List (List UInt8)) :Option ((Int) ⊕ (Unit)):=
 match x_ with
 | (t14,t15_1,t16,b,b_1)=>
 if decide (t16 < t15_1)=true then
 if inR t16 t14.length=true then
 some (t14.getD t16.toNat dSType) >>=fun x0=>
 g13 x0 >>=fun r=>
 if(bif (!r)then true else bif (!(decide (x0.Name=[])))then hasS b_1 x0.Name else false)=true then
 some (.inl 1)
 else
 g9v x0 >>=fun r_1=>
 g2j (t14,t15_1,t16,r_1,(r_1.length:Int),0,b,addS b_1 x0.Name,x0.Kind,x0.Name,x0.Low,x0.High,x0.Max,x0.Symbols,x0.Members,x0.Key,x0.Elem,x0.Open) >>=fun o_3=>
 match o_3 with
 | .inl o_4=>
 some (.inl o_4)
 | .inr o_5=>
 some (decide (o_5.2.2.2.2.2.1=8)) >>=fun t56=>
 if(inR o_5.2.2.2.2.2.2.2.2.2.2.2.2.1 o_5.2.2.2.1.length || (!t56))=true then
 some (decide ((o_5.2.2.2.1.getD o_5.2.2.2.2.2.2.2.2.2.2.2.2.1.toNat dSType).Kind < 1)) >>=fun t65=>
 if(inR o_5.2.2.2.2.2.2.2.2.2.2.2.2.1 o_5.2.2.2.1.length || (!(t56 && (!t65))))=true then
 if(bif t56 then bif t65 then true else decide (4 < (o_5.2.2.2.1.getD o_5.2.2.2.2.2.2.2.2.2.2.2.2.1.toNat dSType).Kind)else false)=true then
 some (.inl 1)
 else
 g3l (o_5.1,o_5.2.1,addI .i64 o_5.2.2.1 1,o_5.2.2.2.1,o_5.2.2.2.2.1)
 else none
 else none
 else none
 else
 some (.inr ())
  partial_fixpoint
theorem gh0 :LC 79 0 [0] e79_0 g3l:= .rc g3l.partial_correctness (.k gml (.k gmm .n)) (.k gfc .n) fun _ _=>by kernel_rfl
def g67(s:SSchema) :Option (Int):=
 if decide (32 < (s.Types.length:Int))=true then
 some 3
 else
 g3l (s.Types,(s.Types.length:Int),0,s.Types,[]) >>=fun o=>
 match o with
 | .inl o_1=>
 some o_1
 | .inr o_2=>
 some 0
theorem e79_k :KC e79:= .m (by kernel_rfl)
theorem gl0 :FC e79 g67:= .fn e79_k .n (.k gh0 .n) fun _=>by kernel_rfl
def g4h(x_:SSchema × Int) :Option (Int):=
 match x_ with
 | (s,t)=>
 g67 (⟨s.Types⟩:SSchema) >>=fun r=>
 if(!(decide (r=0)))=true then
 some r
 else
 if(bif decide (t < 0)then true else decide ((s.Types.length:Int)≤t))=true then
 some 4
 else
 some 0
theorem e52_k :KC e52:= .m (by kernel_rfl)
theorem gby :FC e52 g4h:= .fn e52_k (.k gl0 .n) .n fun _=>by kernel_rfl
def gar(v:SValue) :Option (SValue):=
 if decide (v.Kind=1)=true then
 some (⟨v.Kind,v.Bool_,0,[],0,[],[],[]⟩:SValue)
 else
 if decide (v.Kind=2)=true then
 some (⟨v.Kind,false,v.Int_,[],0,[],[],[]⟩:SValue)
 else
 if decide (v.Kind=3)=true then
 some (⟨v.Kind,false,0,v.Str,0,[],[],[]⟩:SValue)
 else
 if decide (v.Kind=4)=true then
 some (⟨v.Kind,false,0,[],v.ID,[],[],[]⟩:SValue)
 else
 if decide (v.Kind=5)=true then
 some (⟨v.Kind,false,0,[],0,[],v.Items,v.Rest⟩:SValue)
 else
 if decide (v.Kind=6)=true then
 some (⟨v.Kind,false,0,[],v.ID,[],v.Items,v.Rest⟩:SValue)
 else
 if decide (v.Kind=8)=true then
 some (⟨v.Kind,false,0,[],0,v.Keys,v.Items,[]⟩:SValue)
 else
 some (decide (v.Kind=7)) >>=fun t57=>
 if t57=true then
 if t57=true then
 some (⟨v.Kind,false,0,[],0,[],v.Items,[]⟩:SValue)
 else
 some (⟨v.Kind,false,0,[],0,[],[],[]⟩:SValue)
 else
 if decide (v.Kind=9)=true then
 some (⟨v.Kind,false,0,[],0,[],v.Items,[]⟩:SValue)
 else
 some (⟨v.Kind,false,0,[],0,[],[],[]⟩:SValue)
theorem gy3 :KC e171:= .m (by kernel_rfl)
theorem go6 :FC e171 gar:= .fn gy3 .n .n fun _=>by kernel_rfl
def g8w(v:SValue) :Option (Bool):=
 gar (SValue.eta v) >>=fun r=>
 some (bif bif bif bif bif bif eqB v.Bool_ r.Bool_ then decide (v.Int_=r.Int_)else false then decide (v.Str=r.Str)else false then decide (v.ID=r.ID)else false then decide ((v.Keys.length:Int)=(r.Keys.length:Int))else false then decide ((v.Items.length:Int)=(r.Items.length:Int))else false then decide ((v.Rest.length:Int)=(r.Rest.length:Int))else false)
theorem gy4 :KC e155:= .m (by kernel_rfl)
theorem gl1 :FC e155 g8w:= .fn gy4 (.k go6 .n) .n fun _=>by kernel_rfl
def g8x(x_:SSymbol × Int) :Option (Bool × Int):=
 match x_ with
 | (x0,b)=>
 some (decide (x0.ID=b),b)
theorem gy5 :KC e153:= .m (by kernel_rfl)
theorem gh1 :FC e153 g8x:= .fn gy5 .n .n fun _=>by kernel_rfl
def gi(x_:List SSymbol × Int × Int × Int) :Option ((Int × Int) ⊕ (Int)):=
 match x_ with
 | (s_1,t7_1,t8,b_3)=>
 if decide (t8 < t7_1)=true then
 if inR t8 s_1.length=true then
 g8x (s_1.getD t8.toNat dSSymbol,b_3) >>=fun r=>
 if r.1=true then
 some (.inl (t8,r.2))
 else
 gi (s_1,t7_1,addI .i64 t8 1,r.2)
 else none
 else
 some (.inr b_3)
  partial_fixpoint
theorem g68 :LC 152 1 [0] gtw gi:= .rc gi.partial_correctness (.k gh1 .n) .n fun _ _=>by kernel_rfl
def g36(x_:List SSymbol × Int) :Option (Int × Int):=
 match x_ with
 | (s,b)=>
 gi (s,(s.length:Int),0,b) >>=fun o=>
 match o with
 | .inl o_1=>
 some (o_1.1,o_1.2)
 | .inr o_2=>
 some ((-1),o_2)
theorem gy6 :KC e152:= .m (by kernel_rfl)
theorem g6o :FC e152 g36:= .fn gy6 .n (.k g68 .n) fun _=>by kernel_rfl
def g6p(x_:SType × Int) :Option (Int × Bool):=
 match x_ with
 | (t,id)=>
 g36 (t.Symbols,id) >>=fun r=>
 some (maxI r.1 0,decide (0≤r.1))
theorem gy7 :KC e129:= .m (by kernel_rfl)
theorem gcg :FC e129 g6p:= .fn gy7 (.k g6o .n) .n fun _=>by kernel_rfl
def g8y(id:Int) :Option (Bool):=
 some (bif decide (1≤id)then decide (id≤1000)else false)
theorem gy8 :KC e156:= .m (by kernel_rfl)
theorem gge :FC e156 g8y:= .fn gy8 .n .n fun _=>by kernel_rfl
def g8z(x_:SMember × Int) :Option (Bool × Int):=
 match x_ with
 | (m,b)=>
 some (decide (m.ID=b),b)
theorem gy9 :KC e126:= .m (by kernel_rfl)
theorem gh2 :FC e126 g8z:= .fn gy9 .n .n fun _=>by kernel_rfl
def gn(x_:List SMember × Int × Int × Int) :Option ((Int × Int) ⊕ (Int)):=
 match x_ with
 | (s_1,t7_1,t8,b_3)=>
 if decide (t8 < t7_1)=true then
 if inR t8 s_1.length=true then
 some (s_1.getD t8.toNat dSMember) >>=fun x0=>
 g8z ((⟨x0.ID,x0.Name,x0.Type_,x0.Critical,x0.HasDefault,SValue.eta x0.Default⟩:SMember),b_3) >>=fun r=>
 if r.1=true then
 some (.inl (t8,r.2))
 else
 gn (s_1,t7_1,addI .i64 t8 1,r.2)
 else none
 else
 some (.inr b_3)
  partial_fixpoint
theorem g69 :LC 125 1 [0] gtx gn:= .rc gn.partial_correctness (.k gh2 .n) .n fun _ _=>by kernel_rfl
def g37(x_:List SMember × Int) :Option (Int × Int):=
 match x_ with
 | (s,b)=>
 gn (s,(s.length:Int),0,b) >>=fun o=>
 match o with
 | .inl o_1=>
 some (o_1.1,o_1.2)
 | .inr o_2=>
 some ((-1),o_2)
theorem gya :KC e125:= .m (by kernel_rfl)
theorem g6q :FC e125 g37:= .fn gya .n (.k g69 .n) fun _=>by kernel_rfl
def g1z(x_:SType × Int) :Option (Int × Bool):=
 match x_ with
 | (t,id)=>
 g37 (t.Members,id) >>=fun r=>
 some (maxI r.1 0,decide (0≤r.1))
theorem e82_k :KC e82:= .m (by kernel_rfl)
theorem g5o :FC e82 g1z:= .fn e82_k (.k g6q .n) .n fun _=>by kernel_rfl
end
section
open Go Go.Proofs.YthnmepafpikaiaaGreat.Shv
open Tryz
set_option maxRecDepth 100000
def g29(x_:Bool × List SRaw × Int × Int × List SType × SValue × Int × List UInt8 × Int × Int × Int × List SSymbol × List SMember × Int × Int × Bool) :Option ((Bool) ⊕ (Bool × List SType × Int × Bool × Int × List UInt8 × Int × List SValue × List SValue × List SRaw × Int × List UInt8 × Int × Int × Int × List SSymbol × List SMember × Int × Int × Bool)):=
 match x_ with
 | (plain_3,t111,t112_1,t113,b_31,b_32,b_33,b_34,b_35,b_36,b_37,b_38,b_39,b_40,b_41,b_42)=>
 if decide (t113 < t112_1)=true then
 if inR t113 t111.length=true then
 some (t111.getD t113.toNat dSRaw) >>=fun x0_4=>
 g1z ((⟨b_33,b_34,b_35,b_36,b_37,b_38,b_39,b_40,b_41,b_42⟩:SType),x0_4.ID) >>=fun r_14=>
 (if(!r_14.2)=true then g8y x0_4.ID else some false) >>=fun r_17=>
 some (bif r_14.2 then true else(!r_17)) >>=fun t131=>
 some (decide (0 < t113)) >>=fun t134=>
 some (subI .i64 t113 1) >>=fun t141=>
 if(inR t141 b_32.Rest.length || (!((!t131) && t134)))=true then
 if(bif t131 then true else bif t134 then decide (x0_4.ID≤(b_32.Rest.getD t141.toNat dSRaw).ID)else false)=true then
 some (.inl false)
 else
 g29 (plain_3,t111,t112_1,addI .i64 t113 1,b_31,SValue.eta b_32,b_33,b_34,b_35,b_36,b_37,b_38,b_39,b_40,b_41,b_42)
 else none
 else none
 else
 some (.inr (plain_3,b_31,b_32.Kind,b_32.Bool_,b_32.Int_,b_32.Str,b_32.ID,b_32.Keys,b_32.Items,b_32.Rest,b_33,b_34,b_35,b_36,b_37,b_38,b_39,b_40,b_41,b_42))
  partial_fixpoint
theorem gjp :LC 132 0 [0] gtz g29:= .rc g29.partial_correctness (.k g5o (.k gge .n)) .n fun _ _=>by kernel_rfl
def gch(x0:Int) :Option (Bool):=
 some (!(decide (x0=x0)))
theorem gyb :KC e190:= .m (by kernel_rfl)
theorem gpn :FC e190 gch:= .fn gyb .n .n fun _=>by kernel_rfl
def g9w(x_:Int × Int) :Option (Int):=
 match x_ with
 | (x0,y)=>
 gch x0 >>=fun r=>
 gch y >>=fun r_1=>
 if r=true then
 if r_1=true then
 some 0
 else
 some (-1)
 else
 if r_1=true then
 some 1
 else
 if decide (x0 < y)=true then
 some (-1)
 else
 if decide (y < x0)=true then
 some 1
 else
 some 0
theorem gyc :KC e174:= .m (by kernel_rfl)
theorem gmn :FC e174 g9w:= .fn gyc (.k gpn .n) .n fun _=>by kernel_rfl
def g9x(x0:Int) :Option (Bool):=
 some (!(decide (x0=x0)))
theorem gyd :KC e162:= .m (by kernel_rfl)
theorem gmo :FC e162 g9x:= .fn gyd .n .n fun _=>by kernel_rfl
def g6r(x_:Int × Int) :Option (Int):=
 match x_ with
 | (x0,y)=>
 g9x x0 >>=fun r=>
 g9x y >>=fun r_1=>
 if r=true then
 if r_1=true then
 some 0
 else
 some (-1)
 else
 if r_1=true then
 some 1
 else
 if decide (x0 < y)=true then
 some (-1)
 else
 if decide (y < x0)=true then
 some 1
 else
 some 0
theorem gye :KC e136:= .m (by kernel_rfl)
theorem gjq :FC e136 g6r:= .fn gye (.k gmo .n) .n fun _=>by kernel_rfl
def g9y(x0:List UInt8) :Option (Bool):=
 some (!(decide (x0=x0)))
theorem gyf :KC e191:= .m (by kernel_rfl)
theorem gmp :FC e191 g9y:= .fn gyf .n .n fun _=>by kernel_rfl
def g85(x_:List UInt8 × List UInt8) :Option (Int):=
 match x_ with
 | (x0,y)=>
 g9y x0 >>=fun r=>
 g9y y >>=fun r_1=>
 if r=true then
 if r_1=true then
 some 0
 else
 some (-1)
 else
 if r_1=true then
 some 1
 else
 if Op.bytesLess x0 y=true then
 some (-1)
 else
 if(!(Op.bytesLess x0 y || decide (x0=y)))=true then
 some 1
 else
 some 0
theorem gyg :KC e176:= .m (by kernel_rfl)
theorem gjr :FC e176 g85:= .fn gyg (.k gmp .n) .n fun _=>by kernel_rfl
def g50(x_:Int × List Int × Int × Int) :Option ((Int) ⊕ (Int)):=
 match x_ with
 | (zero_1,t6,t7_1,t8)=>
 if decide (t8 < t7_1)=true then
 if inR t8 t6.length=true then
 some (t6.getD t8.toNat 0) >>=fun x0=>
 if(!(decide (x0=zero_1)))=true then
 some (.inl x0)
 else
 g50 (zero_1,t6,t7_1,addI .i64 t8 1)
 else none
 else
 some (.inr zero_1)
  partial_fixpoint
theorem gpo :LC 175 0 [0] gty g50:= .rc g50.partial_correctness .n .n fun _ _=>by kernel_rfl
def gjs(vals:List Int) :Option (Int):=
 g50 (0,vals,(vals.length:Int),0) >>=fun o=>
 match o with
 | .inl o_1=>
 some o_1
 | .inr o_2=>
 some o_2
theorem gyh :KC e175:= .m (by kernel_rfl)
theorem gvk :FC e175 gjs:= .fn gyh .n (.k gpo .n) fun _=>by kernel_rfl
def g5f(n:Int) :Option (Int):=
 some (xorI .u64 (shlI .u64 (wrp .u64 n) 1) (wrp .u64 (shrI .i64 n 63)))
theorem e97_k :KC e97:= .m (by kernel_rfl)
theorem gci :FC e97 g5f:= .fn e97_k .n .n fun _=>by kernel_rfl
def g4q(x_:SValue × SValue) :Option (Int):=
 match x_ with
 | (a,b)=>
 if(!(decide (a.Kind=b.Kind)))=true then
 some 0
 else
 if decide (a.Kind=1)=true then
 if eqB a.Bool_ b.Bool_=true then
 some 0
 else
 if b.Bool_=true then
 some (-1)
 else
 some 1
 else
 if decide (a.Kind=2)=true then
 g5f a.Int_ >>=fun r=>
 g5f b.Int_ >>=fun r_1=>
 g9w (r,r_1) >>=fun r_2=>
 some r_2
 else
 if decide (a.Kind=3)=true then
 g6r ((a.Str.length:Int),(b.Str.length:Int)) >>=fun r_3=>
 g85 (a.Str,b.Str) >>=fun r_4=>
 gjs [r_3,r_4] >>=fun r_5=>
 some r_5
 else
 if decide (a.Kind=4)=true then
 g6r (a.ID,b.ID) >>=fun r_6=>
 some r_6
 else
 some 0
theorem gyi :KC e158:= .m (by kernel_rfl)
theorem gjt :FC e158 g4q:= .fn gyi (.k gci (.k gmn (.k gjq (.k gjr (.k gvk .n))))) .n fun _=>by kernel_rfl
def g20(x_:Bool × Int × List SType × SValue × Int × List UInt8 × Int × Int × Int × List SSymbol × List SMember × Int × Int × Bool) :Option ((Bool) ⊕ (Bool × List SType × SValue × Int × List UInt8 × Int × Int × Int × List SSymbol × List SMember × Int × Int × Bool)):=
 match x_ with
 | (plain_5,i,b_52,b_53,b_54,b_55,b_56,b_57,b_58,b_59,b_60,b_61,b_62,b_63)=>
 if decide (i < (b_53.Keys.length:Int))=true then
 some (subI .i64 i 1) >>=fun t291=>
 if inR t291 b_53.Keys.length=true then
 if inR i b_53.Keys.length=true then
 g4q (SValue.eta (b_53.Keys.getD t291.toNat dSValue),SValue.eta (b_53.Keys.getD i.toNat dSValue)) >>=fun r_19=>
 if decide (0≤r_19)=true then
 some (.inl false)
 else
 g20 (plain_5,addI .i64 i 1,b_52,SValue.eta b_53,b_54,b_55,b_56,b_57,b_58,b_59,b_60,b_61,b_62,b_63)
 else none
 else none
 else
 some (.inr (plain_5,b_52,SValue.eta b_53,b_54,b_55,b_56,b_57,b_58,b_59,b_60,b_61,b_62,b_63))
  partial_fixpoint
theorem gju :LC 132 0 [2] gu0 g20:= .rc g20.partial_correctness (.k gjt .n) .n fun _ _=>by kernel_rfl
mutual
def g22(x_:List SValue × List SType × Int × Bool) :Option (Bool × List SType × Int × Bool):=
 match x_ with
 | (s,b,b_1,b_2)=>
 g3e (s,b,b_1,b_2) >>=fun r=>
 some (decide (0≤r.1),r.2.1,r.2.2.1,r.2.2.2)
  partial_fixpoint
def g3e(x_:List SValue × List SType × Int × Bool) :Option (Int × List SType × Int × Bool):=
 match x_ with
 | (s,b,b_1,b_2)=>
 gv (s,(s.length:Int),0,b,b_1,b_2) >>=fun o=>
 match o with
 | .inl o_1=>
 some (o_1.1,o_1.2.1,o_1.2.2.1,o_1.2.2.2)
 | .inr o_2=>
 some ((-1),o_2.1,o_2.2.1,o_2.2.2)
  partial_fixpoint
def g4y(x_:SSchema × Int × List SValue × Bool) :Option (Bool):=
 match x_ with
 | (s,t,l,plain)=>
 g22 (l,s.Types,t,plain) >>=fun r=>
 some (!r.1)
  partial_fixpoint
def gbz(x_:SValue × List SType × Int × Bool) :Option (Bool × List SType × Int × Bool):=
 match x_ with
 | (v,b,b_1,b_2)=>
 g2w ((⟨b⟩:SSchema),b_1,SValue.eta v,b_2) >>=fun r=>
 some ((!r),b,b_1,b_2)
  partial_fixpoint
def g2w(x_:SSchema × Int × SValue × Bool) :Option (Bool):=
 match x_ with
 | (s,t,v,plain)=>
 if(bif decide (t < 0)then true else decide ((s.Types.length:Int)≤t))=true then
 some false
 else
 if inR t s.Types.length=true then
 some (s.Types.getD t.toNat dSType) >>=fun x0=>
 some (!(decide (v.Kind=x0.Kind))) >>=fun t39=>
 (if(!t39)=true then g8w (SValue.eta v)else some false) >>=fun r=>
 if(bif t39 then true else(!r))=true then
 some false
 else
 if decide (x0.Kind=2)=true then
 some (bif decide (x0.Low≤v.Int_)then decide (v.Int_≤x0.High)else false)
 else
 if decide (x0.Kind=3)=true then
 some (decide ((v.Str.length:Int)≤x0.Max))
 else
 if decide (x0.Kind=4)=true then
 g6p (x0,v.ID) >>=fun r_1=>
 some (bif x0.Open then(!plain)else false) >>=fun t85=>
 (if((!r_1.2) && t85)=true then g8y v.ID else some false) >>=fun r_4=>
 some (bif r_1.2 then true else bif t85 then r_4 else false)
 else
 if decide (x0.Kind=5)=true then
 if(bif (!(decide ((v.Items.length:Int)=(x0.Members.length:Int))))then true else bif plain then decide (0 < (v.Rest.length:Int))else false)=true then
 some false
 else
 g29 (plain,v.Rest,(v.Rest.length:Int),0,s.Types,SValue.eta v,x0.Kind,x0.Name,x0.Low,x0.High,x0.Max,x0.Symbols,x0.Members,x0.Key,x0.Elem,x0.Open) >>=fun o=>
 match o with
 | .inl o_1=>
 some o_1
 | .inr o_2=>
 g2l (o_2.1,o_2.2.2.2.2.2.2.2.2.2.2.2.2.2.2.2.2.1,(o_2.2.2.2.2.2.2.2.2.2.2.2.2.2.2.2.2.1.length:Int),0,o_2.2.1,o_2.2.2.1,o_2.2.2.2.1,o_2.2.2.2.2.1,o_2.2.2.2.2.2.1,o_2.2.2.2.2.2.2.1,o_2.2.2.2.2.2.2.2.1,o_2.2.2.2.2.2.2.2.2.1,o_2.2.2.2.2.2.2.2.2.2.1) >>=fun o_3=>
 match o_3 with
 | .inl o_4=>
 some o_4
 | .inr o_5=>
 some true
 else
 if decide (x0.Kind=6)=true then
 g1z (x0,v.ID) >>=fun r_5=>
 if r_5.2=true then
 some (bif decide ((v.Items.length:Int)=1)then decide ((v.Rest.length:Int)=0)else false) >>=fun t188=>
 if(inR r_5.1 x0.Members.length || (!t188))=true then
 if(inR 0 v.Items.length || (!t188))=true then
 (if t188=true then g2w ((⟨s.Types⟩:SSchema),(x0.Members.getD r_5.1.toNat dSMember).Type_,SValue.eta (v.Items.getD (0:Int).toNat dSValue),plain)else some false) >>=fun r_8=>
 some (bif t188 then r_8 else false)
 else none
 else none
 else
 some (bif x0.Open then(!plain)else false) >>=fun t209=>
 (if t209=true then g8y v.ID else some false) >>=fun r_9=>
 some (bif bif bif t209 then r_9 else false then decide ((v.Items.length:Int)=0)else false then decide ((v.Rest.length:Int)=1)else false) >>=fun t226=>
 if(inR 0 v.Rest.length || (!t226))=true then
 some (bif t226 then decide ((v.Rest.getD (0:Int).toNat dSRaw).ID=v.ID)else false)
 else none
 else
 if decide (x0.Kind=7)=true then
 some (decide ((v.Items.length:Int)≤x0.Max)) >>=fun t244=>
 (if t244=true then g4y ((⟨s.Types⟩:SSchema),x0.Elem,v.Items,plain)else some false) >>=fun r_10=>
 some (bif t244 then r_10 else false)
 else
 if decide (x0.Kind=8)=true then
 some (bif decide (x0.Max < (v.Keys.length:Int))then true else(!(decide ((v.Items.length:Int)=(v.Keys.length:Int))))) >>=fun t270=>
 (if(!t270)=true then g4y ((⟨s.Types⟩:SSchema),x0.Key,v.Keys,plain)else some false) >>=fun r_11=>
 if(bif t270 then true else(!r_11))=true then
 some false
 else
 g20 (plain,1,s.Types,SValue.eta v,x0.Kind,x0.Name,x0.Low,x0.High,x0.Max,x0.Symbols,x0.Members,x0.Key,x0.Elem,x0.Open) >>=fun o_6=>
 match o_6 with
 | .inl o_7=>
 some o_7
 | .inr o_8=>
 g4y ((⟨o_8.2.1⟩:SSchema),o_8.2.2.2.2.2.2.2.2.2.2.2.1,o_8.2.2.1.Items,o_8.1) >>=fun r_12=>
 some r_12
 else
 if decide (x0.Kind=9)=true then
 some (decide ((v.Items.length:Int)≤1)) >>=fun t313=>
 (if t313=true then g4y ((⟨s.Types⟩:SSchema),x0.Elem,v.Items,plain)else some false) >>=fun r_13=>
 some (bif t313 then r_13 else false)
 else
 some true
 else none
  partial_fixpoint
def gv(x_:List SValue × Int × Int × List SType × Int × Bool) :Option ((Int × List SType × Int × Bool) ⊕ (List SType × Int × Bool)):=
 match x_ with
 | (s_1,t7_1,t8,b_9,b_10,b_11)=>
 if decide (t8 < t7_1)=true then
 if inR t8 s_1.length=true then
 gbz (SValue.eta (s_1.getD t8.toNat dSValue),b_9,b_10,b_11) >>=fun r=>
 if r.1=true then
 some (.inl (t8,r.2.1,r.2.2.1,r.2.2.2))
 else
 gv (s_1,t7_1,addI .i64 t8 1,r.2.1,r.2.2.1,r.2.2.2)
 else none
 else
 some (.inr (b_9,b_10,b_11))
  partial_fixpoint
def g2l(x_:Bool × List SMember × Int × Int × List SType × Int × Bool × Int × List UInt8 × Int × List SValue × List SValue × List SRaw) :Option ((Bool) ⊕ (Unit)):=
 match x_ with
 | (plain_4,t150,t151_1,t152,b_43,b_44,b_45,b_46,b_47,b_48,b_49,b_50,b_51)=>
 if decide (t152 < t151_1)=true then
 if inR t152 t150.length=true then
 if inR t152 b_50.length=true then
 g2w ((⟨b_43⟩:SSchema),(t150.getD t152.toNat dSMember).Type_,SValue.eta (b_50.getD t152.toNat dSValue),plain_4) >>=fun r_18=>
 if(!r_18)=true then
 some (.inl false)
 else
 g2l (plain_4,t150,t151_1,addI .i64 t152 1,b_43,b_44,b_45,b_46,b_47,b_48,b_49,b_50,b_51)
 else none
 else none
 else
 some (.inr ())
  partial_fixpoint
end
theorem gu3 :KC e172:= .m (by kernel_rfl)
theorem gu4 :KC e189:= .m (by kernel_rfl)
theorem gu5 :KC e173:= .m (by kernel_rfl)
theorem ggf :KC e132:= .m (by kernel_rfl)
theorem gu6 :KC e157:= .m (by kernel_rfl)
theorem g6a :(∀h r,g22 h=some r→FD e172 h r)∧(∀h r,g3e h=some r→FD e189 h r)∧(∀h r,gv h=some r→LD 189 3 [0] ggb h r)∧(∀h r,gbz h=some r→FD e173 h r)∧(∀h r,g2w h=some r→FD e132 h r)∧(∀h r,g4y h=some r→FD e157 h r)∧(∀h r,g2l h=some r→LD 132 0 [1] ggc h r):=g22.mutual_partial_correctness (FD e172) (FD e189) (LD 189 3 [0] ggb) (FD e173) (FD e132) (FD e157) (LD 132 0 [1] ggc)
 (fun _ h1 _ _ h=>FA e172 gu3 (.k (FH e189 gu4 h1) .n) .n (.trans (by kernel_rfl) h))
 (fun _ h2 _ _ h=>FA e189 gu4 .n (.k (LH ggb h2) .n) (.trans (by kernel_rfl) h))
 (fun _ _ h2 h3 _ _ h=>LA ggb h2 (.k (FH e173 gu5 h3) .n) .n (.trans (by kernel_rfl) h))
 (fun _ h4 _ _ h=>FA e173 gu5 (.k (FH e132 ggf h4) .n) .n (.trans (by kernel_rfl) h))
 (fun _ _ _ h4 h5 h6 _ _ h=>FA e132 ggf (.k gl1 (.k gcg (.k gge (.k g5o (.k (FH e132 ggf h4) (.k (FH e157 gu6 h5) .n)))))) (.k gjp (.k (LH ggc h6) (.k gju .n))) (.trans (by kernel_rfl) h))
 (fun _ h0 _ _ h=>FA e157 gu6 (.k (FH e172 gu3 h0) .n) .n (.trans (by kernel_rfl) h))
 (fun _ _ h4 h6 _ _ h=>LA ggc h6 (.k (FH e132 ggf h4) .n) .n (.trans (by kernel_rfl) h))
theorem go7 :FC e132 g2w:= .of ggf g6a.2.2.2.2.1
end
section
open Go Go.Proofs.YthnmepafpikaiaaGreat.Shv
open Tryz
set_option maxRecDepth 100000
def g6h(x_:SSchema × Int × SValue) :Option (Bool):=
 match x_ with
 | (s,t,v)=>
 g2w ((⟨s.Types⟩:SSchema),t,SValue.eta v,false) >>=fun r=>
 some r
theorem e95_k :KC e95:= .m (by kernel_rfl)
theorem ggg :FC e95 g6h:= .fn e95_k (.k go7 .n) .n fun _=>by kernel_rfl
def g2y(x_:SSchema × Int × SValue) :Option (Int):=
 match x_ with
 | (s,t,v)=>
 g4h ((⟨s.Types⟩:SSchema),t) >>=fun r=>
 if(!(decide (r=0)))=true then
 some r
 else
 g6h ((⟨s.Types⟩:SSchema),t,SValue.eta v) >>=fun r_1=>
 if(!r_1)=true then
 some 1
 else
 some 0
theorem e56_k :KC e56:= .m (by kernel_rfl)
theorem gc0 :FC e56 g2y:= .fn e56_k (.k gby (.k ggg .n)) .n fun _=>by kernel_rfl
def g4r(x_:Int × Int × List Int) :Option (Int × List Int):=
 match x_ with
 | (n_1,i_1,b_1)=>
 if decide (0 < n_1)=true then
 some (subI .i64 i_1 1) >>=fun t10=>
 if inR t10 8=true then
 if decide (t10.toNat < b_1.length)=true then
 g4r (shrI .u64 n_1 8,t10,b_1.set t10.toNat (wrp .u8 n_1))
 else none
 else none
 else
 some (i_1,b_1)
  partial_fixpoint
theorem gjv :LC 96 0 [0] e96_0 g4r:= .rc g4r.partial_correctness .n .n fun _ _=>by kernel_rfl
def g90(n:Int) :Option (List UInt8):=
 g4r (n,8,[0,0,0,0,0,0,0,0]) >>=fun o=>
 if slR o.1 8 8=true then
 if subR o.1.toNat ((8:Int).toNat - o.1.toNat) o.2.length=true then
 some (strOf ((o.2.drop o.1.toNat).take ((8:Int).toNat - o.1.toNat)))
 else none
 else none
theorem e96_k :KC e96:= .m (by kernel_rfl)
theorem go8 :FC e96 g90:= .fn e96_k .n (.k gjv .n) fun _=>by kernel_rfl
mutual
def gp(x_:List SValue × List SValue) :Option (Bool):=
 match x_ with
 | (s1,s2)=>
 if(!(decide ((s1.length:Int)=(s2.length:Int))))=true then
 some false
 else
 gk (s2,s1,(s1.length:Int),0) >>=fun o=>
 match o with
 | .inl o_1=>
 some o_1
 | .inr o_2=>
 some true
  partial_fixpoint
def g5w(x_:SValue × SValue) :Option (Bool):=
 match x_ with
 | (a,b)=>
 some (bif bif bif bif decide (a.Kind=b.Kind)then eqB a.Bool_ b.Bool_ else false then decide (a.Int_=b.Int_)else false then decide (a.Str=b.Str)else false then decide (a.ID=b.ID)else false) >>=fun t37=>
 (if t37=true then g2s (a.Rest,b.Rest)else some false) >>=fun r=>
 some (bif t37 then r else false) >>=fun t44=>
 (if t44=true then gp (a.Keys,b.Keys)else some false) >>=fun r_1=>
 some (bif t44 then r_1 else false) >>=fun t51=>
 (if t51=true then gp (a.Items,b.Items)else some false) >>=fun r_2=>
 some (bif t51 then r_2 else false)
  partial_fixpoint
def gk(x_:List SValue × List SValue × Int × Int) :Option ((Bool) ⊕ (Unit)):=
 match x_ with
 | (s2_1,t15,t16_1,t17)=>
 if decide (t17 < t16_1)=true then
 if inR t17 t15.length=true then
 if inR t17 s2_1.length=true then
 g5w (SValue.eta (t15.getD t17.toNat dSValue),SValue.eta (s2_1.getD t17.toNat dSValue)) >>=fun r=>
 if(!r)=true then
 some (.inl false)
 else
 gk (s2_1,t15,t16_1,addI .i64 t17 1)
 else none
 else none
 else
 some (.inr ())
  partial_fixpoint
end
theorem go9 :KC gdq:= .m (by kernel_rfl)
theorem goa :KC e159:= .m (by kernel_rfl)
theorem g44 :(∀h r,gp h=some r→FD gdq h r)∧(∀h r,gk h=some r→LD 178 0 [0] gbv h r)∧(∀h r,g5w h=some r→FD e159 h r):=gp.mutual_partial_correctness (FD gdq) (LD 178 0 [0] gbv) (FD e159)
 (fun _ h1 _ _ h=>FA gdq go9 .n (.k (LH gbv h1) .n) (.trans (by kernel_rfl) h))
 (fun _ _ h1 h2 _ _ h=>LA gbv h1 (.k (FH e159 goa h2) .n) .n (.trans (by kernel_rfl) h))
 (fun _ h0 _ _ h=>FA e159 goa (.k g5y (.k (FH gdq go9 h0) .n)) .n (.trans (by kernel_rfl) h))
theorem gmq :FC e159 g5w:= .of goa g44.2.2
def g7l(x_:SMember × SValue) :Option (Bool):=
 match x_ with
 | (m,v)=>
 (if m.HasDefault=true then g5w (SValue.eta m.Default,SValue.eta v)else some false) >>=fun r=>
 some (bif m.HasDefault then r else false)
theorem gyj :KC e133:= .m (by kernel_rfl)
theorem gig :FC e133 g7l:= .fn gyj (.k gmq .n) .n fun _=>by kernel_rfl
def g4s(x_:Int × Int × List Int) :Option (Int × Int × List Int):=
 match x_ with
 | (n_2,i_1,b_1)=>
 if decide (128≤n_2)=true then
 if inR i_1 10=true then
 if decide (i_1.toNat < b_1.length)=true then
 g4s (shrI .u64 n_2 7,addI .i64 i_1 1,b_1.set i_1.toNat (orI .u8 (wrp .u8 n_2) 128))
 else none
 else none
 else
 some (n_2,i_1,b_1)
  partial_fixpoint
theorem gjw :LC 113 0 [0] gu1 g4s:= .rc g4s.partial_correctness .n .n fun _ _=>by kernel_rfl
def g6i(n:Int) :Option (List UInt8):=
 g4s (n,0,[0,0,0,0,0,0,0,0,0,0]) >>=fun o=>
 if inR o.2.1 10=true then
 if decide (o.2.1.toNat < o.2.2.length)=true then
 some (o.2.2.set o.2.1.toNat (wrp .u8 o.1)) >>=fun l_1=>
 some (addI .i64 o.2.1 1) >>=fun t21=>
 if slR 0 t21 10=true then
 if subR (0:Int).toNat t21.toNat l_1.length=true then
 some (strOf ((l_1.drop (0:Int).toNat).take t21.toNat))
 else none
 else none
 else none
 else none
theorem gyk :KC e113:= .m (by kernel_rfl)
theorem gc1 :FC e113 g6i:= .fn gyk .n (.k gjw .n) fun _=>by kernel_rfl
def g4o(p:List UInt8) :Option (List UInt8):=
 g6i (wrp .u64 (p.length:Int)) >>=fun r=>
 if decide (r.length+p.length≤g1m)=true then
 some (r++p)
 else none
theorem gyl :KC e100:= .m (by kernel_rfl)
theorem gdw :FC e100 g4o:= .fn gyl (.k gc1 .n) .n fun _=>by kernel_rfl
def g7a(x_:Int × Bool × List UInt8) :Option (List UInt8):=
 match x_ with
 | (id,critical,p)=>
 some (mulI .u64 2 (wrp .u64 id)) >>=fun t10=>
 if critical=true then
 g6i (addI .u64 t10 1) >>=fun r=>
 g4o p >>=fun r_1=>
 if decide (r.length+r_1.length≤g1m)=true then
 some (r++r_1)
 else none
 else
 g6i t10 >>=fun r_2=>
 g4o p >>=fun r_3=>
 if decide (r_2.length+r_3.length≤g1m)=true then
 some (r_2++r_3)
 else none
theorem e68_k :KC e68:= .m (by kernel_rfl)
theorem gdx :FC e68 g7a:= .fn e68_k (.k gc1 (.k gdw .n)) .n fun _=>by kernel_rfl
def g1o(x_:List UInt8 × List UInt8) :Option (Int × List UInt8):=
 match x_ with
 | (s,b)=>
 some b >>=fun r=>
 if(decide (r.length=b.length) && true)=true then
 if room 1 (r.length+s.length)=true then
 some ((s.length:Int),catS r s)
 else none
 else none
theorem e73_k :KC e73:= .m (by kernel_rfl)
theorem g5z :FC e73 g1o:= .fn e73_k (.k gcf .n) .n fun _=>by kernel_rfl
def g3t(b:List UInt8) :Option (List UInt8):=
 if eqI (b.length:Int) (b.length:Int)=true then
 some b
 else none
theorem e75_k :KC e75:= .m (by kernel_rfl)
theorem g7b :FC e75 g3t:= .fn e75_k .n .n fun _=>by kernel_rfl
end
section
open Go Go.Proofs.YthnmepafpikaiaaGreat.Shv
open Tryz
set_option maxRecDepth 100000
def g1t(x_:List SRaw × Int × Int × List SType × Int × List EncodeEntry) :Option (List SType × Int × List EncodeEntry):=
 match x_ with
 | (t57,t58_1,t59,b_16,b_17,b_18)=>
 if decide (t59 < t58_1)=true then
 if inR t59 t57.length=true then
 some (t57.getD t59.toNat dSRaw) >>=fun x0_4=>
 g7a (x0_4.ID,false,x0_4.Data) >>=fun r_8=>
 some [(⟨x0_4.ID,r_8⟩:EncodeEntry)] >>=fun t72=>
 if room 24 (b_18++t72).length=true then
 g1t (t57,t58_1,addI .i64 t59 1,b_16,b_17,b_18++t72)
 else none
 else none
 else
 some (b_16,b_17,b_18)
  partial_fixpoint
theorem gas :LC 98 1 [1] e98_1 g1t:= .rc g1t.partial_correctness (.k gdx .n) .n fun _ _=>by kernel_rfl
def g1u(x_:Int × Int × List SType × Int × List EncodeEntry × List UInt8) :Option (List SType × Int × List UInt8):=
 match x_ with
 | (t78_1,t79,b_19,b_20,b_21,b_22)=>
 if decide (t79 < t78_1)=true then
 if inR t79 b_21.length=true then
 if decide (t79.toNat < b_21.length)=true then
 g1o ((b_21.getD t79.toNat dEncodeEntry).text,b_22) >>=fun r_9=>
 g1u (t78_1,addI .i64 t79 1,b_19,b_20,b_21,r_9.2)
 else none
 else none
 else
 some (b_19,b_20,b_22)
  partial_fixpoint
theorem gat :LC 98 1 [2] e98_2 g1u:= .rc g1u.partial_correctness (.k g5z .n) .n fun _ _=>by kernel_rfl
mutual
def gw(x_:Int × SValue × Int × List SType × Int) :Option (List UInt8 × List SType × Int):=
 match x_ with
 | (t,v,level,b,b_1)=>
 some (maxI b_1 level) >>=fun t19=>
 if inR t b.length=true then
 some (b.getD t.toNat dSType) >>=fun x0=>
 if decide (x0.Kind=1)=true then
 if v.Bool_=true then
 some ([1],b,t19)
 else
 some ([],b,t19)
 else
 if decide (x0.Kind=2)=true then
 g5f v.Int_ >>=fun r=>
 g90 r >>=fun r_1=>
 some (r_1,b,t19)
 else
 if decide (x0.Kind=3)=true then
 some (v.Str,b,t19)
 else
 if decide (x0.Kind=4)=true then
 g90 (wrp .u64 v.ID) >>=fun r_2=>
 some (r_2,b,t19)
 else
 if decide (x0.Kind=5)=true then
 g4z (x0,SValue.eta v,level,b,t19) >>=fun r_3=>
 some (r_3.1,r_3.2.1,r_3.2.2)
 else
 if decide (x0.Kind=6)=true then
 g4c (x0,SValue.eta v,level,b,t19) >>=fun r_7=>
 some (r_7.1,r_7.2.1,r_7.2.2)
 else
 if decide (x0.Kind=9)=true then
 if decide ((v.Items.length:Int)=0)=true then
 some ([],b,t19)
 else
 if inR 0 v.Items.length=true then
 gw (x0.Elem,SValue.eta (v.Items.getD (0:Int).toNat dSValue),addI .i64 level 1,b,t19) >>=fun r_11=>
 if decide ([1].length+r_11.1.length≤g1m)=true then
 some ([1]++r_11.1,r_11.2.1,r_11.2.2)
 else none
 else none
 else
 g10 (level,v.Items,(v.Items.length:Int),0,b,t19,SValue.eta v,x0,[]) >>=fun o=>
 g3t o.2.2 >>=fun r_15=>
 some (r_15,o.1,o.2.1)
 else none
  partial_fixpoint
def g4z(x_:SType × SValue × Int × List SType × Int) :Option (List UInt8 × List SType × Int):=
 match x_ with
 | (x0,v,level,b,b_1)=>
 g1v (level,x0.Members,(x0.Members.length:Int),0,b,b_1,SValue.eta v,[]) >>=fun o=>
 g1t (o.2.2.1.Rest,(o.2.2.1.Rest.length:Int),0,o.1,o.2.1,o.2.2.2) >>=fun o_1=>
 g7q o_1.2.2 >>=fun r=>
 if(decide (r.length=o_1.2.2.length) && true)=true then
 g1u ((r.length:Int),0,o_1.1,o_1.2.1,r,[]) >>=fun o_2=>
 g3t o_2.2.2 >>=fun r_1=>
 some (r_1,o_2.1,o_2.2.1)
 else none
  partial_fixpoint
def g4c(x_:SType × SValue × Int × List SType × Int) :Option (List UInt8 × List SType × Int):=
 match x_ with
 | (x0,v,level,b,b_1)=>
 g6i (wrp .u64 v.ID) >>=fun r=>
 g1z (x0,v.ID) >>=fun r_1=>
 if(!r_1.2)=true then
 if inR 0 v.Rest.length=true then
 some (v.Rest.getD (0:Int).toNat dSRaw) >>=fun x0_1=>
 if decide (r.length+x0_1.Data.length≤g1m)=true then
 some (r++x0_1.Data,b,b_1)
 else none
 else none
 else
 if inR r_1.1 x0.Members.length=true then
 if inR 0 v.Items.length=true then
 gw ((x0.Members.getD r_1.1.toNat dSMember).Type_,SValue.eta (v.Items.getD (0:Int).toNat dSValue),addI .i64 level 1,b,b_1) >>=fun r_4=>
 if decide (r.length+r_4.1.length≤g1m)=true then
 some (r++r_4.1,r_4.2.1,r_4.2.2)
 else none
 else none
 else none
  partial_fixpoint
def g10(x_:Int × List SValue × Int × Int × List SType × Int × SValue × SType × List UInt8) :Option (List SType × Int × List UInt8):=
 match x_ with
 | (level_1,t84,t85_1,t86,b_5,b_6,b_7,b_8,b_9)=>
 if decide (t86 < t85_1)=true then
 if inR t86 t84.length=true then
 some (t84.getD t86.toNat dSValue) >>=fun x0_2=>
 if decide (b_8.Kind=8)=true then
 if inR t86 b_7.Keys.length=true then
 gw (b_8.Key,SValue.eta (b_7.Keys.getD t86.toNat dSValue),addI .i64 level_1 1,b_5,b_6) >>=fun r_16=>
 g4o r_16.1 >>=fun r_20=>
 g1o (r_20,b_9) >>=fun r_21=>
 gw (b_8.Elem,SValue.eta x0_2,addI .i64 level_1 1,r_16.2.1,r_16.2.2) >>=fun r_24=>
 g4o r_24.1 >>=fun r_28=>
 g1o (r_28,r_21.2) >>=fun r_29=>
 g10 (level_1,t84,t85_1,addI .i64 t86 1,r_24.2.1,r_24.2.2,SValue.eta b_7,b_8,r_29.2)
 else none
 else
 gw (b_8.Elem,SValue.eta x0_2,addI .i64 level_1 1,b_5,b_6) >>=fun r_32=>
 g4o r_32.1 >>=fun r_36=>
 g1o (r_36,b_9) >>=fun r_37=>
 g10 (level_1,t84,t85_1,addI .i64 t86 1,r_32.2.1,r_32.2.2,SValue.eta b_7,b_8,r_37.2)
 else none
 else
 some (b_5,b_6,b_9)
  partial_fixpoint
def g1v(x_:Int × List SMember × Int × Int × List SType × Int × SValue × List EncodeEntry) :Option (List SType × Int × SValue × List EncodeEntry):=
 match x_ with
 | (level_1,t18,t19_1,t20,b_12,b_13,b_14,b_15)=>
 if decide (t20 < t19_1)=true then
 if inR t20 t18.length=true then
 some (t18.getD t20.toNat dSMember) >>=fun x0_1=>
 if inR t20 b_14.Items.length=true then
 g7l ((⟨x0_1.ID,x0_1.Name,x0_1.Type_,x0_1.Critical,x0_1.HasDefault,SValue.eta x0_1.Default⟩:SMember),SValue.eta (b_14.Items.getD t20.toNat dSValue)) >>=fun r_2=>
 if(!r_2)=true then
 if inR t20 b_14.Items.length=true then
 gw (x0_1.Type_,SValue.eta (b_14.Items.getD t20.toNat dSValue),addI .i64 level_1 1,b_12,b_13) >>=fun r_3=>
 g7a (x0_1.ID,x0_1.Critical,r_3.1) >>=fun r_7=>
 some [(⟨x0_1.ID,r_7⟩:EncodeEntry)] >>=fun t53=>
 if room 24 (b_15++t53).length=true then
 g1v (level_1,t18,t19_1,addI .i64 t20 1,r_3.2.1,r_3.2.2,SValue.eta b_14,b_15++t53)
 else none
 else none
 else
 g1v (level_1,t18,t19_1,addI .i64 t20 1,b_12,b_13,SValue.eta b_14,b_15)
 else none
 else none
 else
 some (b_12,b_13,SValue.eta b_14,b_15)
  partial_fixpoint
end
theorem e57_k :KC e57:= .m (by kernel_rfl)
theorem e99_k :KC e99:= .m (by kernel_rfl)
theorem e98_k :KC e98:= .m (by kernel_rfl)
theorem gau :(∀h r,gw h=some r→FD e57 h r)∧(∀h r,g10 h=some r→LD 57 1 [0] e57_0 h r)∧(∀h r,g4c h=some r→FD e99 h r)∧(∀h r,g4z h=some r→FD e98 h r)∧(∀h r,g1v h=some r→LD 98 1 [0] e98_0 h r):=gw.mutual_partial_correctness (FD e57) (LD 57 1 [0] e57_0) (FD e99) (FD e98) (LD 98 1 [0] e98_0)
 (fun _ _ _ _ h0 h1 h2 h3 _ _ h=>FA e57 e57_k (.k gci (.k go8 (.k (FH e98 e98_k h3) (.k (FH e99 e99_k h2) (.k (FH e57 e57_k h0) (.k g7b .n)))))) (.k (LH e57_0 h1) .n) (.trans (by kernel_rfl) h))
 (fun _ _ h0 h1 _ _ h=>LA e57_0 h1 (.k (FH e57 e57_k h0) (.k gdw (.k g5z .n))) .n (.trans (by kernel_rfl) h))
 (fun _ h0 _ _ h=>FA e99 e99_k (.k gc1 (.k g5o (.k (FH e57 e57_k h0) .n))) .n (.trans (by kernel_rfl) h))
 (fun _ h4 _ _ h=>FA e98 e98_k (.k g9m (.k g7b .n)) (.k (LH e98_0 h4) (.k gas (.k gat .n))) (.trans (by kernel_rfl) h))
 (fun _ _ h0 h4 _ _ h=>LA e98_0 h4 (.k gig (.k (FH e57 e57_k h0) (.k gdx .n))) .n (.trans (by kernel_rfl) h))
theorem g5d :FC e57 gw:= .of e57_k gau.1
def g3v(x_:SSchema × Int × SValue) :Option (List UInt8 × Int):=
 match x_ with
 | (s,t,v)=>
 g2y ((⟨s.Types⟩:SSchema),t,SValue.eta v) >>=fun r=>
 if(!(decide (r=0)))=true then
 some ([],r)
 else
 gw (t,SValue.eta v,1,s.Types,0) >>=fun r_1=>
 if(bif decide (4096 < (r_1.1.length:Int))then true else decide (200 < r_1.2.2))=true then
 some ([],3)
 else
 some (r_1.1,0)
theorem e26_k :KC e26:= .m (by kernel_rfl)
theorem gjx :FC e26 g3v:= .fn e26_k (.k gc0 (.k g5d .n)) .n fun _=>by kernel_rfl
def g86(x_:List UInt8 × Int × Int × Int) :Option ((Int × Int × Int) ⊕ (Unit)):=
 match x_ with
 | (s_1,n,t10_1,t11)=>
 if decide (t11 < t10_1)=true then
 if inR t11 s_1.length=true then
 some (g4n s_1 t11) >>=fun t16=>
 if(bif decide (t11=9)then decide (1 < t16)else false)=true then
 some (.inl (0,0,7))
 else
 if decide (128≤t16)=true then
 some (mulI .i64 7 t11) >>=fun t41=>
 if decide (0≤t41)=true then
 g86 (s_1,orI .u64 n (shlI .u64 (wrp .u64 (andI .u8 t16 127)) t41),t10_1,addI .i64 t11 1)
 else none
 else
 if(bif decide (t16=0)then decide (0 < t11)else false)=true then
 some (.inl (0,0,2))
 else
 some (mulI .i64 7 t11) >>=fun t21=>
 if decide (0≤t21)=true then
 some (.inl (orI .u64 n (shlI .u64 (wrp .u64 t16) t21),addI .i64 t11 1,0))
 else none
 else none
 else
 some (.inr ())
  partial_fixpoint
theorem gjy :LC 76 0 [0] e76_0 g86:= .rc g86.partial_correctness .n .n fun _ _=>by kernel_rfl
def gjz(s:List UInt8) :Option (Int × Int × Int):=
 g86 (s,0,minI 10 (s.length:Int),0) >>=fun o=>
 match o with
 | .inl o_1=>
 some (o_1.1,o_1.2.1,o_1.2.2)
 | .inr o_2=>
 some (0,0,10)
theorem e76_k :KC e76:= .m (by kernel_rfl)
theorem gob :FC e76 gjz:= .fn e76_k .n (.k gjy .n) fun _=>by kernel_rfl
def g9z(s:List UInt8) :Option (Int × List UInt8 × Bool):=
 gjz s >>=fun r=>
 if(!(decide (r.2.2=0)))=true then
 some (0,[],false)
 else
 if slR r.2.1 (s.length:Int) s.length=true then
 some (r.1,cutL s r.2.1 (s.length:Int),true)
 else none
theorem e41_k :KC e41:= .m (by kernel_rfl)
theorem gaf :FC e41 g9z:= .fn e41_k (.k gob .n) .n fun _=>by kernel_rfl
def gd1(s:List UInt8) :Option (List UInt8 × List UInt8 × Bool):=
 g9z s >>=fun r=>
 if(bif (!r.2.2)then true else decide (wrp .u64 (r.2.1.length:Int) < r.1))=true then
 some ([],[],false)
 else
 if slR 0 r.1 r.2.1.length=true then
 if slR r.1 (r.2.1.length:Int) r.2.1.length=true then
 some (cutL r.2.1 0 r.1,cutL r.2.1 r.1 (r.2.1.length:Int),true)
 else none
 else none
theorem e42_k :KC e42:= .m (by kernel_rfl)
theorem gf3 :FC e42 gd1:= .fn e42_k (.k gaf .n) .n fun _=>by kernel_rfl
def g6z(x_:List UInt8 × List (List UInt8)) :Option ((Int) ⊕ (List (List UInt8))):=
 match x_ with
 | (s,b_1)=>
 if(!(decide (s=[])))=true then
 gd1 s >>=fun r=>
 if(!r.2.2)=true then
 some (.inl 12)
 else
 some [r.1] >>=fun t22=>
 if room 16 (b_1++t22).length=true then
 g6z (r.2.1,b_1++t22)
 else none
 else
 some (.inr b_1)
  partial_fixpoint
theorem gh3 :LC 14 0 [0] e14_0 g6z:= .rc g6z.partial_correctness (.k gf3 .n) .n fun _ _=>by kernel_rfl
def ggh(payload:List UInt8) :Option (List (List UInt8) × Int):=
 g6z (payload,[]) >>=fun o=>
 match o with
 | .inl o_1=>
 some ([],o_1)
 | .inr o_2=>
 some (o_2,0)
theorem e14_k :KC e14:= .m (by kernel_rfl)
theorem gl3 :FC e14 ggh:= .fn e14_k .n (.k gh3 .n) fun _=>by kernel_rfl
end
section
open Go Go.Proofs.YthnmepafpikaiaaGreat.Shv
open Tryz
set_option maxRecDepth 100000
def g6j(x_:Int × List UInt8 × List SField) :Option ((Int) ⊕ (List SField)):=
 match x_ with
 | (last,s,b_1)=>
 if(!(decide (s=[])))=true then
 g9z s >>=fun r=>
 if(bif bif (!r.2.2)then true else decide (quoI .u64 r.1 2≤last)then true else decide (1000 < quoI .u64 r.1 2))=true then
 some (.inl 12)
 else
 gd1 r.2.1 >>=fun r_4=>
 if(!r_4.2.2)=true then
 some (.inl 12)
 else
 some [(⟨wrp .i64 (quoI .u64 r.1 2),decide (remI r.1 2=1),r_4.1⟩:SField)] >>=fun t50=>
 if room 32 (b_1++t50).length=true then
 g6j (quoI .u64 r.1 2,r_4.2.1,b_1++t50)
 else none
 else
 some (.inr b_1)
  partial_fixpoint
theorem ggi :LC 12 0 [0] e12_0 g6j:= .rc g6j.partial_correctness (.k gaf (.k gf3 .n)) .n fun _ _=>by kernel_rfl
def gf4(payload:List UInt8) :Option (List SField × Int):=
 g6j (0,payload,[]) >>=fun o=>
 match o with
 | .inl o_1=>
 some ([],o_1)
 | .inr o_2=>
 some (o_2,0)
theorem e12_k :KC e12:= .m (by kernel_rfl)
theorem gk0 :FC e12 gf4:= .fn e12_k .n (.k ggi .n) fun _=>by kernel_rfl
def geo(payload:List UInt8) :Option (Int × List UInt8 × Int):=
 g9z payload >>=fun r=>
 if(bif bif (!r.2.2)then true else decide (r.1 < 1)then true else decide (1000 < r.1))=true then
 some (0,[],12)
 else
 some (wrp .i64 r.1,r.2.1,0)
theorem e16_k :KC e16:= .m (by kernel_rfl)
theorem goc :FC e16 geo:= .fn e16_k (.k gaf .n) .n fun _=>by kernel_rfl
def gf5(x_:List UInt8 × List UInt8) :Option (Bool):=
 match x_ with
 | (a,b)=>
 some (bif decide ((a.length:Int) < (b.length:Int))then true else bif decide ((a.length:Int)=(b.length:Int))then Op.bytesLess a b else false)
theorem gym :KC e124:= .m (by kernel_rfl)
theorem gk1 :FC e124 gf5:= .fn gym .n .n fun _=>by kernel_rfl
def g60(x_:List UInt8 × Int × Int × Int) :Option (Int):=
 match x_ with
 | (s_1,n_1,t17_1,t18)=>
 if decide (t18 < t17_1)=true then
 if inR t18 s_1.length=true then
 g60 (s_1,orI .u64 (shlI .u64 n_1 8) (wrp .u64 (g4n s_1 t18)),t17_1,addI .i64 t18 1)
 else none
 else
 some n_1
  partial_fixpoint
theorem gfd :LC 127 0 [0] gu2 g60:= .rc g60.partial_correctness .n .n fun _ _=>by kernel_rfl
def gdy(s:List UInt8) :Option (Int × Int):=
 some (!(decide (s=[]))) >>=fun t7=>
 if(inR 0 s.length || (!t7))=true then
 if(bif t7 then decide (g4n s 0=0)else false)=true then
 some (0,2)
 else
 if decide (8 < (s.length:Int))=true then
 some (0,7)
 else
 g60 (s,0,(s.length:Int),0) >>=fun o=>
 some (o,0)
 else none
theorem gyn :KC e127:= .m (by kernel_rfl)
theorem gih :FC e127 gdy:= .fn gyn .n (.k gfd .n) fun _=>by kernel_rfl
def gcj(n:Int) :Option (Int):=
 some (xorI .i64 (wrp .i64 (shrI .u64 n 1)) (subI .i64 0 (wrp .i64 (andI .u64 n 1))))
theorem gyo :KC e128:= .m (by kernel_rfl)
theorem gh4 :FC e128 gcj:= .fn gyo .n .n fun _=>by kernel_rfl
def gag(x_:SType × List UInt8) :Option (Bool):=
 match x_ with
 | (x0,p)=>
 if decide (x0.Kind=1)=true then
 some (bif decide (p=[])then true else decide (p=[1]))
 else
 if decide (x0.Kind=3)=true then
 some (decide ((p.length:Int)≤x0.Max))
 else
 gdy p >>=fun r=>
 if(!(decide (r.2=0)))=true then
 some false
 else
 if decide (x0.Kind=2)=true then
 gcj r.1 >>=fun r_3=>
 some (bif decide (x0.Low≤r_3)then decide (r_3≤x0.High)else false)
 else
 if(bif decide (r.1 < 1)then true else decide (1000 < r.1))=true then
 some false
 else
 g6p (x0,wrp .i64 r.1) >>=fun r_4=>
 some (bif r_4.2 then true else x0.Open)
theorem e83_k :KC e83:= .m (by kernel_rfl)
theorem gk2 :FC e83 gag:= .fn e83_k (.k gih (.k gh4 (.k gcg .n))) .n fun _=>by kernel_rfl
def g3h(x_:Int × List SMember × Int × Int) :Option (Int):=
 match x_ with
 | (seen_3,t93,t94_1,t95)=>
 if decide (t95 < t94_1)=true then
 if inR t95 t93.length=true then
 if(!(t93.getD t95.toNat dSMember).HasDefault)=true then
 g3h (subI .i64 seen_3 1,t93,t94_1,addI .i64 t95 1)
 else
 g3h (seen_3,t93,t94_1,addI .i64 t95 1)
 else none
 else
 some seen_3
  partial_fixpoint
theorem gav :LC 80 0 [1] e80_1 g3h:= .rc g3h.partial_correctness .n .n fun _ _=>by kernel_rfl
mutual
def gr(x_:EncodeReader × Int × List UInt8 × Int) :Option (Bool):=
 match x_ with
 | (r,t,p,level)=>
 if inR t r.s.Types.length=true then
 some (r.s.Types.getD t.toNat dSType) >>=fun x0=>
 if decide (200 < level)=true then
 some false
 else
 if decide (x0.Kind=5)=true then
 g91 ((⟨(⟨r.s.Types⟩:SSchema)⟩:EncodeReader),x0,p,level) >>=fun r_1=>
 some r_1
 else
 some (decide (x0.Kind=7)) >>=fun t33=>
 if t33=true then
 if t33=true then
 g6y ((⟨(⟨r.s.Types⟩:SSchema)⟩:EncodeReader),x0,p,level) >>=fun r_2=>
 some r_2
 else
 if decide (x0.Kind=9)=true then
 some (decide (p=[])) >>=fun t43=>
 if(inR 0 p.length || (!(!t43)))=true then
 some (decide (g4n p 0=1)) >>=fun t47=>
 if(slR 1 (p.length:Int) p.length || (!((!t43) && t47)))=true then
 (if((!t43) && t47)=true then gr ((⟨(⟨r.s.Types⟩:SSchema)⟩:EncodeReader),x0.Elem,cutL p 1 (p.length:Int),addI .i64 level 1)else some false) >>=fun r_3=>
 some (bif t43 then true else bif t47 then r_3 else false)
 else none
 else none
 else
 if decide (x0.Kind=6)=true then
 geo p >>=fun r_4=>
 if(!(decide (r_4.2.2=0)))=true then
 some false
 else
 g1z (x0,r_4.1) >>=fun r_8=>
 some (bif (!r_8.2)then x0.Open else false) >>=fun t80=>
 if(inR r_8.1 x0.Members.length || (!((!t80) && r_8.2)))=true then
 (if((!t80) && r_8.2)=true then gr ((⟨(⟨r.s.Types⟩:SSchema)⟩:EncodeReader),(x0.Members.getD r_8.1.toNat dSMember).Type_,r_4.2.1,addI .i64 level 1)else some false) >>=fun r_11=>
 some (bif t80 then true else bif r_8.2 then r_11 else false)
 else none
 else
 gag (x0,p) >>=fun r_12=>
 some r_12
 else
 if decide (x0.Kind=8)=true then
 g6y ((⟨(⟨r.s.Types⟩:SSchema)⟩:EncodeReader),x0,p,level) >>=fun r_13=>
 some r_13
 else
 if decide (x0.Kind=9)=true then
 some (decide (p=[])) >>=fun t43_1=>
 if(inR 0 p.length || (!(!t43_1)))=true then
 some (decide (g4n p 0=1)) >>=fun t47_1=>
 if(slR 1 (p.length:Int) p.length || (!((!t43_1) && t47_1)))=true then
 (if((!t43_1) && t47_1)=true then gr ((⟨(⟨r.s.Types⟩:SSchema)⟩:EncodeReader),x0.Elem,cutL p 1 (p.length:Int),addI .i64 level 1)else some false) >>=fun r_14=>
 some (bif t43_1 then true else bif t47_1 then r_14 else false)
 else none
 else none
 else
 if decide (x0.Kind=6)=true then
 geo p >>=fun r_15=>
 if(!(decide (r_15.2.2=0)))=true then
 some false
 else
 g1z (x0,r_15.1) >>=fun r_19=>
 some (bif (!r_19.2)then x0.Open else false) >>=fun t80_1=>
 if(inR r_19.1 x0.Members.length || (!((!t80_1) && r_19.2)))=true then
 (if((!t80_1) && r_19.2)=true then gr ((⟨(⟨r.s.Types⟩:SSchema)⟩:EncodeReader),(x0.Members.getD r_19.1.toNat dSMember).Type_,r_15.2.1,addI .i64 level 1)else some false) >>=fun r_22=>
 some (bif t80_1 then true else bif r_19.2 then r_22 else false)
 else none
 else
 gag (x0,p) >>=fun r_23=>
 some r_23
 else none
  partial_fixpoint
def g6y(x_:EncodeReader × SType × List UInt8 × Int) :Option (Bool):=
 match x_ with
 | (r,x0,p,level)=>
 ggh p >>=fun r_1=>
 if(!(decide (r_1.2=0)))=true then
 some false
 else
 if decide (x0.Kind=7)=true then
 some (decide ((r_1.1.length:Int)≤x0.Max)) >>=fun t26=>
 if t26=true then
 g4u (r_1.1,r.s.Types,x0.Kind,x0.Name,x0.Low,x0.High,x0.Max,x0.Symbols,x0.Members,x0.Key,x0.Elem,x0.Open,level) >>=fun r_4=>
 some (bif t26 then(!r_4.1)else false)
 else
 some (bif t26 then false else false)
 else
 if(bif decide (remI (r_1.1.length:Int) 2=1)then true else decide (x0.Max < quoI .i64 (r_1.1.length:Int) 2))=true then
 some false
 else
 g5x (r_1.1,0,r.s.Types,x0.Kind,x0.Name,x0.Low,x0.High,x0.Max,x0.Symbols,x0.Members,x0.Key,x0.Elem,x0.Open,level) >>=fun o=>
 match o with
 | .inl o_1=>
 some o_1
 | .inr o_2=>
 some true
  partial_fixpoint
def g7p(x_:List UInt8 × List SType × Int × List UInt8 × Int × Int × Int × List SSymbol × List SMember × Int × Int × Bool × Int) :Option (Bool × List SType × Int × List UInt8 × Int × Int × Int × List SSymbol × List SMember × Int × Int × Bool × Int):=
 match x_ with
 | (p,b,b_1,b_2,b_3,b_4,b_5,b_6,b_7,b_8,b_9,b_10,b_11)=>
 gr ((⟨(⟨b⟩:SSchema)⟩:EncodeReader),b_9,p,addI .i64 b_11 1) >>=fun r=>
 some ((!r),b,b_1,b_2,b_3,b_4,b_5,b_6,b_7,b_8,b_9,b_10,b_11)
  partial_fixpoint
def g91(x_:EncodeReader × SType × List UInt8 × Int) :Option (Bool):=
 match x_ with
 | (r,x0,p,level)=>
 gf4 p >>=fun r_1=>
 if(!(decide (r_1.2=0)))=true then
 some false
 else
 g2t (level,0,r_1.1,(r_1.1.length:Int),0,r.s.Types,x0) >>=fun o=>
 match o with
 | .inl o_1=>
 some o_1
 | .inr o_2=>
 g3h (o_2.1,o_2.2.Members,(o_2.2.Members.length:Int),0) >>=fun o_3=>
 some (decide (o_3=0))
  partial_fixpoint
def g4u(x_:List (List UInt8) × List SType × Int × List UInt8 × Int × Int × Int × List SSymbol × List SMember × Int × Int × Bool × Int) :Option (Bool × List SType × Int × List UInt8 × Int × Int × Int × List SSymbol × List SMember × Int × Int × Bool × Int):=
 match x_ with
 | (s,b,b_1,b_2,b_3,b_4,b_5,b_6,b_7,b_8,b_9,b_10,b_11)=>
 g5c (s,b,b_1,b_2,b_3,b_4,b_5,b_6,b_7,b_8,b_9,b_10,b_11) >>=fun r=>
 some (decide (0≤r.1),r.2.1,r.2.2.1,r.2.2.2.1,r.2.2.2.2.1,r.2.2.2.2.2.1,r.2.2.2.2.2.2.1,r.2.2.2.2.2.2.2.1,r.2.2.2.2.2.2.2.2.1,r.2.2.2.2.2.2.2.2.2.1,r.2.2.2.2.2.2.2.2.2.2.1,r.2.2.2.2.2.2.2.2.2.2.2.1,r.2.2.2.2.2.2.2.2.2.2.2.2)
  partial_fixpoint
def g5c(x_:List (List UInt8) × List SType × Int × List UInt8 × Int × Int × Int × List SSymbol × List SMember × Int × Int × Bool × Int) :Option (Int × List SType × Int × List UInt8 × Int × Int × Int × List SSymbol × List SMember × Int × Int × Bool × Int):=
 match x_ with
 | (s,b,b_1,b_2,b_3,b_4,b_5,b_6,b_7,b_8,b_9,b_10,b_11)=>
 g3i (s,(s.length:Int),0,b,b_1,b_2,b_3,b_4,b_5,b_6,b_7,b_8,b_9,b_10,b_11) >>=fun o=>
 match o with
 | .inl o_1=>
 some (o_1.1,o_1.2.1,o_1.2.2.1,o_1.2.2.2.1,o_1.2.2.2.2.1,o_1.2.2.2.2.2.1,o_1.2.2.2.2.2.2.1,o_1.2.2.2.2.2.2.2.1,o_1.2.2.2.2.2.2.2.2.1,o_1.2.2.2.2.2.2.2.2.2.1,o_1.2.2.2.2.2.2.2.2.2.2.1,o_1.2.2.2.2.2.2.2.2.2.2.2.1,o_1.2.2.2.2.2.2.2.2.2.2.2.2)
 | .inr o_2=>
 some ((-1),o_2.1,o_2.2.1,o_2.2.2.1,o_2.2.2.2.1,o_2.2.2.2.2.1,o_2.2.2.2.2.2.1,o_2.2.2.2.2.2.2.1,o_2.2.2.2.2.2.2.2.1,o_2.2.2.2.2.2.2.2.2.1,o_2.2.2.2.2.2.2.2.2.2.1,o_2.2.2.2.2.2.2.2.2.2.2.1,o_2.2.2.2.2.2.2.2.2.2.2.2)
  partial_fixpoint
def g5x(x_:List (List UInt8) × Int × List SType × Int × List UInt8 × Int × Int × Int × List SSymbol × List SMember × Int × Int × Bool × Int) :Option ((Bool) ⊕ (Unit)):=
 match x_ with
 | (l,i,b,b_1,b_2,b_3,b_4,b_5,b_6,b_7,b_8,b_9,b_10,b_11)=>
 if decide (i < (l.length:Int))=true then
 if inR i l.length=true then
 gr ((⟨(⟨b⟩:SSchema)⟩:EncodeReader),b_8,l.getD i.toNat [],addI .i64 b_11 1) >>=fun r_18=>
 some (!r_18) >>=fun t61=>
 some (addI .i64 i 1) >>=fun t68=>
 if(inR t68 l.length || (!(!t61)))=true then
 (if(!t61)=true then gr ((⟨(⟨b⟩:SSchema)⟩:EncodeReader),b_9,l.getD t68.toNat [],addI .i64 b_11 1)else some false) >>=fun r_19=>
 some (bif t61 then true else(!r_19)) >>=fun t75=>
 some (decide (0 < i)) >>=fun t78=>
 some (subI .i64 i 2) >>=fun t82=>
 if(inR t82 l.length || (!((!t75) && t78)))=true then
 if(inR i l.length || (!((!t75) && t78)))=true then
 (if((!t75) && t78)=true then gf5 (l.getD t82.toNat [],l.getD i.toNat [])else some false) >>=fun r_20=>
 if(bif t75 then true else bif t78 then(!r_20)else false)=true then
 some (.inl false)
 else
 g5x (l,addI .i64 i 2,b,b_1,b_2,b_3,b_4,b_5,b_6,b_7,b_8,b_9,b_10,b_11)
 else none
 else none
 else none
 else none
 else
 some (.inr ())
  partial_fixpoint
def g2t(x_:Int × Int × List SField × Int × Int × List SType × SType) :Option ((Bool) ⊕ (Int × SType)):=
 match x_ with
 | (level_1,seen_2,t27,t28_1,t29,b_1,b_2)=>
 if decide (t29 < t28_1)=true then
 if inR t29 t27.length=true then
 some (t27.getD t29.toNat dSField) >>=fun x0_1=>
 g1z (b_2,x0_1.ID) >>=fun r_4=>
 if(!r_4.2)=true then
 if x0_1.Critical=true then
 some (.inl false)
 else
 g2t (level_1,seen_2,t27,t28_1,addI .i64 t29 1,b_1,b_2)
 else
 if inR r_4.1 b_2.Members.length=true then
 some (b_2.Members.getD r_4.1.toNat dSMember) >>=fun x0_2=>
 some (!(eqB x0_1.Critical x0_2.Critical)) >>=fun t53=>
 (if(!t53)=true then gr ((⟨(⟨b_1⟩:SSchema)⟩:EncodeReader),x0_2.Type_,x0_1.Data,addI .i64 level_1 1)else some false) >>=fun r_7=>
 if(bif t53 then true else(!r_7))=true then
 some (.inl false)
 else
 if x0_2.HasDefault=true then
 g6h ((⟨b_1⟩:SSchema),x0_2.Type_,SValue.eta x0_2.Default) >>=fun r_8=>
 if r_8=true then
 gw (x0_2.Type_,SValue.eta x0_2.Default,1,b_1,0) >>=fun r_9=>
 if(bif r_8 then decide (r_9.1=x0_1.Data)else false)=true then
 some (.inl false)
 else
 g2t (level_1,seen_2,t27,t28_1,addI .i64 t29 1,b_1,b_2)
 else
 if(bif r_8 then false else false)=true then
 some (.inl false)
 else
 g2t (level_1,seen_2,t27,t28_1,addI .i64 t29 1,b_1,b_2)
 else
 g2t (level_1,addI .i64 seen_2 1,t27,t28_1,addI .i64 t29 1,b_1,b_2)
 else none
 else none
 else
 some (.inr (seen_2,b_2))
  partial_fixpoint
def g3i(x_:List (List UInt8) × Int × Int × List SType × Int × List UInt8 × Int × Int × Int × List SSymbol × List SMember × Int × Int × Bool × Int) :Option ((Int × List SType × Int × List UInt8 × Int × Int × Int × List SSymbol × List SMember × Int × Int × Bool × Int) ⊕ (List SType × Int × List UInt8 × Int × Int × Int × List SSymbol × List SMember × Int × Int × Bool × Int)):=
 match x_ with
 | (s_1,t7_1,t8,b_36,b_37,b_38,b_39,b_40,b_41,b_42,b_43,b_44,b_45,b_46,b_47)=>
 if decide (t8 < t7_1)=true then
 if inR t8 s_1.length=true then
 g7p (s_1.getD t8.toNat [],b_36,b_37,b_38,b_39,b_40,b_41,b_42,b_43,b_44,b_45,b_46,b_47) >>=fun r=>
 if r.1=true then
 some (.inl (t8,r.2.1,r.2.2.1,r.2.2.2.1,r.2.2.2.2.1,r.2.2.2.2.2.1,r.2.2.2.2.2.2.1,r.2.2.2.2.2.2.2.1,r.2.2.2.2.2.2.2.2.1,r.2.2.2.2.2.2.2.2.2.1,r.2.2.2.2.2.2.2.2.2.2.1,r.2.2.2.2.2.2.2.2.2.2.2.1,r.2.2.2.2.2.2.2.2.2.2.2.2))
 else
 g3i (s_1,t7_1,addI .i64 t8 1,r.2.1,r.2.2.1,r.2.2.2.1,r.2.2.2.2.1,r.2.2.2.2.2.1,r.2.2.2.2.2.2.1,r.2.2.2.2.2.2.2.1,r.2.2.2.2.2.2.2.2.1,r.2.2.2.2.2.2.2.2.2.1,r.2.2.2.2.2.2.2.2.2.2.1,r.2.2.2.2.2.2.2.2.2.2.2.1,r.2.2.2.2.2.2.2.2.2.2.2.2)
 else none
 else
 some (.inr (b_36,b_37,b_38,b_39,b_40,b_41,b_42,b_43,b_44,b_45,b_46,b_47))
  partial_fixpoint
end
theorem e53_k :KC e53:= .m (by kernel_rfl)
theorem e81_k :KC e81:= .m (by kernel_rfl)
theorem god :KC gdt:= .m (by kernel_rfl)
theorem goe :KC gds:= .m (by kernel_rfl)
theorem gof :KC gdr:= .m (by kernel_rfl)
theorem e80_k :KC e80:= .m (by kernel_rfl)
theorem ga6 :(∀h r,gr h=some r→FD e53 h r)∧(∀h r,g6y h=some r→FD e81 h r)∧(∀h r,g5x h=some r→LD 81 0 [0] e81_0 h r)∧(∀h r,g4u h=some r→FD gdt h r)∧(∀h r,g5c h=some r→FD gds h r)∧(∀h r,g3i h=some r→LD 151 3 [0] gbw h r)∧(∀h r,g7p h=some r→FD gdr h r)∧(∀h r,g91 h=some r→FD e80 h r)∧(∀h r,g2t h=some r→LD 80 0 [0] e80_0 h r):=gr.mutual_partial_correctness (FD e53) (FD e81) (LD 81 0 [0] e81_0) (FD gdt) (FD gds) (LD 151 3 [0] gbw) (FD gdr) (FD e80) (LD 80 0 [0] e80_0)
 (fun _ _ _ h0 h1 h7 _ _ h=>FA e53 e53_k (.k (FH e80 e80_k h7) (.k (FH e81 e81_k h1) (.k (FH e53 e53_k h0) (.k goc (.k g5o (.k gk2 .n)))))) .n (.trans (by kernel_rfl) h))
 (fun _ _ h2 h3 _ _ h=>FA e81 e81_k (.k gl3 (.k (FH gdt god h3) .n)) (.k (LH e81_0 h2) .n) (.trans (by kernel_rfl) h))
 (fun _ _ h0 h2 _ _ h=>LA e81_0 h2 (.k (FH e53 e53_k h0) (.k gk1 .n)) .n (.trans (by kernel_rfl) h))
 (fun _ h4 _ _ h=>FA gdt god (.k (FH gds goe h4) .n) .n (.trans (by kernel_rfl) h))
 (fun _ h5 _ _ h=>FA gds goe .n (.k (LH gbw h5) .n) (.trans (by kernel_rfl) h))
 (fun _ _ h5 h6 _ _ h=>LA gbw h5 (.k (FH gdr gof h6) .n) .n (.trans (by kernel_rfl) h))
 (fun _ h0 _ _ h=>FA gdr gof (.k (FH e53 e53_k h0) .n) .n (.trans (by kernel_rfl) h))
 (fun _ h8 _ _ h=>FA e80 e80_k (.k gk0 .n) (.k (LH e80_0 h8) (.k gav .n)) (.trans (by kernel_rfl) h))
 (fun _ _ h0 h8 _ _ h=>LA e80_0 h8 (.k g5o (.k (FH e53 e53_k h0) (.k ggg (.k g5d .n)))) .n (.trans (by kernel_rfl) h))
theorem gaw :FC e53 gr:= .of e53_k ga6.1
end
section
open Go Go.Proofs.YthnmepafpikaiaaGreat.Shv
open Tryz
set_option maxRecDepth 100000
def g4i(x_:SSchema × Int × List UInt8) :Option (Bool):=
 match x_ with
 | (s,t,m)=>
 g4h ((⟨s.Types⟩:SSchema),t) >>=fun r=>
 some (bif decide (r=0)then decide ((m.length:Int)≤4096)else false) >>=fun t15=>
 (if t15=true then gr ((⟨(⟨s.Types⟩:SSchema)⟩:EncodeReader),t,m,1)else some false) >>=fun r_1=>
 some (bif t15 then r_1 else false)
theorem e21_k :KC e21:= .m (by kernel_rfl)
theorem ggj :FC e21 g4i:= .fn e21_k (.k gby (.k gaw .n)) .n fun _=>by kernel_rfl
end
section
open Go Go.Proofs.YthnmepafpikaiaaGreat.Shv
open Tryz
set_option maxRecDepth 100000
def g1l(kind:Int) :Option (Bool):=
 some (bif bif decide (kind=4)then true else decide (kind=5)then true else decide (kind=6))
def g7c(x_:Int × Sheaveref07Node × List Int) :Option (List Int):=
 match x_ with
 | (i,b_1,b_2)=>
 if decide (i < 6)=true then
 if decide (0≤i)=true then
 if decide (remI (shrI .u8 b_1.A i) 2=1)=true then
 some [addI .i64 i 1] >>=fun t18=>
 if room 8 (b_2++t18).length=true then
 g7c (addI .i64 i 1,b_1,b_2++t18)
 else none
 else
 g7c (addI .i64 i 1,b_1,b_2)
 else none
 else
 some b_2
  partial_fixpoint
def gk3(x0:Sheaveref07Node) :Option (List Int):=
 g7c (0,x0,[]) >>=fun o=>
 if decide ((o.length:Int)=0)=true then
 some [1] >>=fun t24=>
 if room 8 (o++t24).length=true then
 some (o++t24)
 else none
 else
 some o
def g98(kind:Int) :Option (Bool):=
 some (bif decide (1≤kind)then decide (kind≤4)else false)
end
section
open Go Go.Proofs.YthnmepafpikaiaaGreat.Shv
open Tryz
set_option maxRecDepth 100000
def g25(t:SType) :Option (SType):=
 if decide (t.Kind=1)=true then
 some (⟨t.Kind,[],0,0,0,[],[],0,0,false⟩:SType)
 else
 if decide (t.Kind=2)=true then
 some (⟨t.Kind,[],t.Low,t.High,0,[],[],0,0,false⟩:SType)
 else
 if decide (t.Kind=3)=true then
 some (⟨t.Kind,[],0,0,t.Max,[],[],0,0,false⟩:SType)
 else
 if decide (t.Kind=4)=true then
 some (⟨t.Kind,t.Name,0,0,0,t.Symbols,[],0,0,t.Open⟩:SType)
 else
 if decide (t.Kind=5)=true then
 some (⟨t.Kind,t.Name,0,0,0,[],t.Members,0,0,false⟩:SType)
 else
 if decide (t.Kind=6)=true then
 some (⟨t.Kind,t.Name,0,0,0,[],t.Members,0,0,t.Open⟩:SType)
 else
 if decide (t.Kind=7)=true then
 some (⟨t.Kind,[],0,0,t.Max,[],[],0,t.Elem,false⟩:SType)
 else
 if decide (t.Kind=8)=true then
 some (⟨t.Kind,[],0,0,t.Max,[],[],t.Key,t.Elem,false⟩:SType)
 else
 some (⟨t.Kind,[],0,0,0,[],[],0,t.Elem,false⟩:SType)
def g21(x_:Int × SValue × SValue) :Option ((Bool) ⊕ (SValue × SValue)):=
 match x_ with
 | (i,b_3,b_4)=>
 if decide (i < (b_3.Rest.length:Int))=true then
 if inR i b_3.Rest.length=true then
 some (b_3.Rest.getD i.toNat dSRaw) >>=fun x0=>
 if inR i b_4.Rest.length=true then
 some (b_4.Rest.getD i.toNat dSRaw) >>=fun x0_1=>
 if(!(eqI x0.ID x0_1.ID && (eqS x0.Data x0_1.Data && true)))=true then
 some (.inl false)
 else
 g21 (addI .i64 i 1,SValue.eta b_3,SValue.eta b_4)
 else none
 else none
 else
 some (.inr (SValue.eta b_3,SValue.eta b_4))
  partial_fixpoint
mutual
def g1a(x_:SValue × SValue) :Option (Bool):=
 match x_ with
 | (a,b)=>
 if(bif bif bif bif bif (!(decide (a.Kind=b.Kind)))then true else(!(eqB a.Bool_ b.Bool_))then true else(!(decide (a.Int_=b.Int_)))then true else(!(decide (a.Str=b.Str)))then true else(!(decide (a.ID=b.ID)))then true else(!(decide ((a.Rest.length:Int)=(b.Rest.length:Int)))))=true then
 some false
 else
 g21 (0,(⟨a.Kind,a.Bool_,a.Int_,a.Str,a.ID,a.Keys,a.Items,a.Rest⟩:SValue),(⟨b.Kind,b.Bool_,b.Int_,b.Str,b.ID,b.Keys,b.Items,b.Rest⟩:SValue)) >>=fun o=>
 match o with
 | .inl o_1=>
 some o_1
 | .inr o_2=>
 g4k (o_2.1.Keys,o_2.2.Keys) >>=fun r=>
 (if r=true then g4k (o_2.1.Items,o_2.2.Items)else some false) >>=fun r_1=>
 some (bif r then r_1 else false)
  partial_fixpoint
def g4k(x_:List SValue × List SValue) :Option (Bool):=
 match x_ with
 | (a,b)=>
 if(!(decide ((a.length:Int)=(b.length:Int))))=true then
 some false
 else
 g34 (a,b,0) >>=fun o=>
 match o with
 | .inl o_1=>
 some o_1
 | .inr o_2=>
 some true
  partial_fixpoint
def g34(x_:List SValue × List SValue × Int) :Option ((Bool) ⊕ (Unit)):=
 match x_ with
 | (a_1,b_1,i)=>
 if decide (i < (a_1.length:Int))=true then
 if inR i a_1.length=true then
 if inR i b_1.length=true then
 g1a (SValue.eta (a_1.getD i.toNat dSValue),SValue.eta (b_1.getD i.toNat dSValue)) >>=fun r=>
 if(!r)=true then
 some (.inl false)
 else
 g34 (a_1,b_1,addI .i64 i 1)
 else none
 else none
 else
 some (.inr ())
  partial_fixpoint
end
end
section
open Go Go.Proofs.YthnmepafpikaiaaGreat.Shv
open Tryz
set_option maxRecDepth 100000
def g4l(x_:SMember × SMember) :Option (Bool):=
 match x_ with
 | (a,b)=>
 some (bif bif bif bif decide (a.ID=b.ID)then decide (a.Name=b.Name)else false then decide (a.Type_=b.Type_)else false then eqB a.Critical b.Critical else false then eqB a.HasDefault b.HasDefault else false) >>=fun t37=>
 (if t37=true then g1a ((⟨a.Default.Kind,a.Default.Bool_,a.Default.Int_,a.Default.Str,a.Default.ID,a.Default.Keys,a.Default.Items,a.Default.Rest⟩:SValue),(⟨b.Default.Kind,b.Default.Bool_,b.Default.Int_,b.Default.Str,b.Default.ID,b.Default.Keys,b.Default.Items,b.Default.Rest⟩:SValue))else some false) >>=fun r=>
 some (bif t37 then r else false)
def g27(x_:Int × SType × SType) :Option ((Bool) ⊕ (SType × SType)):=
 match x_ with
 | (i,b_3,b_4)=>
 if decide (i < (b_3.Symbols.length:Int))=true then
 if inR i b_3.Symbols.length=true then
 some (b_3.Symbols.getD i.toNat dSSymbol) >>=fun x0=>
 if inR i b_4.Symbols.length=true then
 some (b_4.Symbols.getD i.toNat dSSymbol) >>=fun x0_1=>
 if(!(eqI x0.ID x0_1.ID && (eqS x0.Name x0_1.Name && true)))=true then
 some (.inl false)
 else
 g27 (addI .i64 i 1,b_3,b_4)
 else none
 else none
 else
 some (.inr (b_3,b_4))
  partial_fixpoint
def g28(x_:Int × SType × SType) :Option ((Bool) ⊕ (Unit)):=
 match x_ with
 | (i_1,b_5,b_6)=>
 if decide (i_1 < (b_5.Members.length:Int))=true then
 if inR i_1 b_5.Members.length=true then
 some (b_5.Members.getD i_1.toNat dSMember) >>=fun x0_2=>
 if inR i_1 b_6.Members.length=true then
 some (b_6.Members.getD i_1.toNat dSMember) >>=fun x0_3=>
 g4l ((⟨x0_2.ID,x0_2.Name,x0_2.Type_,x0_2.Critical,x0_2.HasDefault,SValue.eta x0_2.Default⟩:SMember),(⟨x0_3.ID,x0_3.Name,x0_3.Type_,x0_3.Critical,x0_3.HasDefault,SValue.eta x0_3.Default⟩:SMember)) >>=fun r=>
 if(!r)=true then
 some (.inl false)
 else
 g28 (addI .i64 i_1 1,b_5,b_6)
 else none
 else none
 else
 some (.inr ())
  partial_fixpoint
def g6k(x_:SType × SType) :Option (Bool):=
 match x_ with
 | (a,b)=>
 if(bif bif bif bif bif bif bif bif bif (!(decide (a.Kind=b.Kind)))then true else(!(decide (a.Name=b.Name)))then true else(!(decide (a.Low=b.Low)))then true else(!(decide (a.High=b.High)))then true else(!(decide (a.Max=b.Max)))then true else(!(decide (a.Key=b.Key)))then true else(!(decide (a.Elem=b.Elem)))then true else(!(eqB a.Open b.Open))then true else(!(decide ((a.Symbols.length:Int)=(b.Symbols.length:Int))))then true else(!(decide ((a.Members.length:Int)=(b.Members.length:Int)))))=true then
 some false
 else
 g27 (0,(⟨a.Kind,a.Name,a.Low,a.High,a.Max,a.Symbols,a.Members,a.Key,a.Elem,a.Open⟩:SType),(⟨b.Kind,b.Name,b.Low,b.High,b.Max,b.Symbols,b.Members,b.Key,b.Elem,b.Open⟩:SType)) >>=fun o=>
 match o with
 | .inl o_1=>
 some o_1
 | .inr o_2=>
 g28 (0,o_2.1,o_2.2) >>=fun o_3=>
 match o_3 with
 | .inl o_4=>
 some o_4
 | .inr o_5=>
 some true
def g5p(b:Int) :Option (Bool):=
 some (bif bif bif decide (97≤b)then decide (b≤122)else false then true else bif decide (65≤b)then decide (b≤90)else false then true else decide (b=95))
def g7s(b:Int) :Option (Bool):=
 some (bif decide (48≤b)then decide (b≤57)else false)
def g2o(x_:List UInt8 × Int) :Option ((Bool) ⊕ (Unit)):=
 match x_ with
 | (s_1,i)=>
 if decide (i < (s_1.length:Int))=true then
 if inR i s_1.length=true then
 g5p (g4n s_1 i) >>=fun r_1=>
 some (!r_1) >>=fun t27=>
 if(inR i s_1.length || (!t27))=true then
 (if t27=true then g7s (g4n s_1 i)else some false) >>=fun r_2=>
 if(bif t27 then(!r_2)else false)=true then
 some (.inl false)
 else
 g2o (s_1,addI .i64 i 1)
 else none
 else none
 else
 some (.inr ())
  partial_fixpoint
def g41(s:List UInt8) :Option (Bool):=
 some (bif decide (s=[])then true else decide (24 < (s.length:Int))) >>=fun t10=>
 if(inR 0 s.length || (!(!t10)))=true then
 (if(!t10)=true then g5p (g4n s 0)else some false) >>=fun r=>
 if(bif t10 then true else(!r))=true then
 some false
 else
 g2o (s,0) >>=fun o=>
 match o with
 | .inl o_1=>
 some o_1
 | .inr o_2=>
 some true
 else none
def g7m(x_:Int × Int) :Option (Bool):=
 match x_ with
 | (before,n)=>
 some (bif bif decide (before < n)then decide (1≤n)else false then decide (n≤1000)else false)
def g1p(x_:List SSymbol × Int × Int) :Option ((Bool) ⊕ (List SSymbol × Int)):=
 match x_ with
 | (l_4,i_2,k)=>
 if decide (k < i_2)=true then
 if inR k l_4.length=true then
 if inR i_2 l_4.length=true then
 if decide ((l_4.getD k.toNat dSSymbol).Name=(l_4.getD i_2.toNat dSSymbol).Name)=true then
 some (.inl false)
 else
 g1p (l_4,i_2,addI .i64 k 1)
 else none
 else none
 else
 some (.inr (l_4,i_2))
  partial_fixpoint
def g2f(x_:List SSymbol × Int × Int) :Option ((Bool) ⊕ (List SSymbol)):=
 match x_ with
 | (l_2,before,i)=>
 if decide (i < (l_2.length:Int))=true then
 if inR i l_2.length=true then
 g7m (before,(l_2.getD i.toNat dSSymbol).ID) >>=fun r=>
 some (!r) >>=fun t19=>
 if(inR i l_2.length || (!(!t19)))=true then
 (if(!t19)=true then g41 (l_2.getD i.toNat dSSymbol).Name else some false) >>=fun r_1=>
 if(bif t19 then true else(!r_1))=true then
 some (.inl false)
 else
 g1p (l_2,i,0) >>=fun o_3=>
 match o_3 with
 | .inl o_4=>
 some (.inl o_4)
 | .inr o_5=>
 if inR o_5.2 o_5.1.length=true then
 g2f (o_5.1,(o_5.1.getD o_5.2.toNat dSSymbol).ID,addI .i64 o_5.2 1)
 else none
 else none
 else none
 else
 some (.inr l_2)
  partial_fixpoint
def g5a(l:List SSymbol) :Option (Bool):=
 g2f (l,0,0) >>=fun o=>
 match o with
 | .inl o_1=>
 some o_1
 | .inr o_2=>
 some (bif decide (1≤(o_2.length:Int))then decide ((o_2.length:Int)≤16)else false)
def g1q(x_:List SMember × Bool × Int × Int × SMember) :Option ((Bool) ⊕ (List SMember × Bool × Int × SMember)):=
 match x_ with
 | (l_4,record_4,i_2,k,b_1)=>
 if decide (k < i_2)=true then
 if inR k l_4.length=true then
 if decide ((l_4.getD k.toNat dSMember).Name=b_1.Name)=true then
 some (.inl false)
 else
 g1q (l_4,record_4,i_2,addI .i64 k 1,(⟨b_1.ID,b_1.Name,b_1.Type_,b_1.Critical,b_1.HasDefault,SValue.eta b_1.Default⟩:SMember))
 else none
 else
 some (.inr (l_4,record_4,i_2,(⟨b_1.ID,b_1.Name,b_1.Type_,b_1.Critical,b_1.HasDefault,SValue.eta b_1.Default⟩:SMember)))
  partial_fixpoint
def g2g(x_:List SMember × Bool × Int × Int) :Option ((Bool) ⊕ (List SMember × Bool)):=
 match x_ with
 | (l_2,record_2,before,i)=>
 if decide (i < (l_2.length:Int))=true then
 if inR i l_2.length=true then
 some (l_2.getD i.toNat dSMember) >>=fun x0=>
 g7m (before,x0.ID) >>=fun r=>
 some (!r) >>=fun t23=>
 (if(!t23)=true then g41 x0.Name else some false) >>=fun r_1=>
 if(bif bif bif t23 then true else(!r_1)then true else bif x0.Critical then x0.HasDefault else false then true else bif (!record_2)then bif x0.Critical then true else x0.HasDefault else false)=true then
 some (.inl false)
 else
 some (!x0.HasDefault) >>=fun t52=>
 (if t52=true then g1a (SValue.eta x0.Default,(⟨0,false,0,[],0,[],[],[]⟩:SValue))else some false) >>=fun r_2=>
 if(bif t52 then(!r_2)else false)=true then
 some (.inl false)
 else
 g1q (l_2,record_2,i,0,(⟨x0.ID,x0.Name,x0.Type_,x0.Critical,x0.HasDefault,SValue.eta x0.Default⟩:SMember)) >>=fun o_3=>
 match o_3 with
 | .inl o_4=>
 some (.inl o_4)
 | .inr o_5=>
 g2g (o_5.1,o_5.2.1,o_5.2.2.2.ID,addI .i64 o_5.2.2.1 1)
 else none
 else
 some (.inr (l_2,record_2))
  partial_fixpoint
end
section
open Go Go.Proofs.YthnmepafpikaiaaGreat.Shv
open Tryz
set_option maxRecDepth 100000
def g4d(x_:List SMember × Bool) :Option (Bool):=
 match x_ with
 | (l,record)=>
 g2g (l,record,0,0) >>=fun o=>
 match o with
 | .inl o_1=>
 some o_1
 | .inr o_2=>
 some (bif decide ((o_2.1.length:Int)≤16)then bif o_2.2 then true else decide (1≤(o_2.1.length:Int))else false)
def gy(t:SType) :Option (Bool):=
 some (bif decide (t.Kind < 1)then true else decide (9 < t.Kind)) >>=fun t10=>
 (if(!t10)=true then g25 t else some dSType) >>=fun r=>
 (if(!t10)=true then g6k (t,r)else some false) >>=fun r_1=>
 some (bif t10 then true else(!r_1)) >>=fun t17=>
 (if(!t17)=true then g1l t.Kind else some false) >>=fun r_2=>
 (if((!t17) && r_2)=true then g41 t.Name else some false) >>=fun r_3=>
 if(bif t17 then true else bif r_2 then(!r_3)else false)=true then
 some false
 else
 if decide (t.Kind=2)=true then
 some (decide (t.Low≤t.High))
 else
 if decide (t.Kind=3)=true then
 some (bif decide (0≤t.Max)then decide (t.Max≤200)else false)
 else
 if decide (t.Kind=4)=true then
 g5a t.Symbols >>=fun r_4=>
 some r_4
 else
 some (decide (t.Kind=5)) >>=fun t54=>
 if t54=true then
 if t54=true then
 g4d (t.Members,decide (t.Kind=5)) >>=fun r_5=>
 some r_5
 else
 some (decide (t.Kind=7)) >>=fun t63=>
 if t63=true then
 if t63=true then
 some (bif decide (0≤t.Max)then decide (t.Max≤50)else false)
 else
 some true
 else
 if decide (t.Kind=8)=true then
 some (bif decide (0≤t.Max)then decide (t.Max≤50)else false)
 else
 some true
 else
 if decide (t.Kind=6)=true then
 g4d (t.Members,decide (t.Kind=5)) >>=fun r_6=>
 some r_6
 else
 some (decide (t.Kind=7)) >>=fun t63_1=>
 if t63_1=true then
 if t63_1=true then
 some (bif decide (0≤t.Max)then decide (t.Max≤50)else false)
 else
 some true
 else
 if decide (t.Kind=8)=true then
 some (bif decide (0≤t.Max)then decide (t.Max≤50)else false)
 else
 some true
def g3n(x_:Int × SType × List Int) :Option (SType × List Int):=
 match x_ with
 | (i,b_2,b_3)=>
 if decide (i < (b_2.Members.length:Int))=true then
 if inR i b_2.Members.length=true then
 some [(b_2.Members.getD i.toNat dSMember).Type_] >>=fun t19=>
 if room 8 (b_3++t19).length=true then
 g3n (addI .i64 i 1,b_2,b_3++t19)
 else none
 else none
 else
 some (b_2,b_3)
  partial_fixpoint
def g8a(t:SType) :Option (List Int):=
 g3n (0,t,[]) >>=fun o=>
 if decide (o.1.Kind=8)=true then
 some [o.1.Key] >>=fun t27=>
 if room 8 (o.2++t27).length=true then
 some (o.2++t27) >>=fun l=>
 if(bif bif decide (o.1.Kind=7)then true else decide (o.1.Kind=8)then true else decide (o.1.Kind=9))=true then
 some [o.1.Elem] >>=fun t45=>
 if room 8 (l++t45).length=true then
 some (l++t45)
 else none
 else
 some l
 else none
 else
 if(bif bif decide (o.1.Kind=7)then true else decide (o.1.Kind=8)then true else decide (o.1.Kind=9))=true then
 some [o.1.Elem] >>=fun t45_1=>
 if room 8 (o.2++t45_1).length=true then
 some (o.2++t45_1)
 else none
 else
 some o.2
def g1x(x_:Int × Int × List SType × Int × List UInt8 × Int × Int × Int × List SSymbol × List SMember × Int × Int × Bool) :Option ((Int) ⊕ (Int × List SType × Int × List UInt8 × Int × Int × Int × List SSymbol × List SMember × Int × Int × Bool)):=
 match x_ with
 | (i_3,k,b_23,b_24,b_25,b_26,b_27,b_28,b_29,b_30,b_31,b_32,b_33)=>
 if decide (k < i_3)=true then
 g1l b_24 >>=fun r_3=>
 if(inR k b_23.length || (!r_3))=true then
 if(bif r_3 then decide ((b_23.getD k.toNat dSType).Name=b_25)else false)=true then
 some (.inl 1)
 else
 g1x (i_3,addI .i64 k 1,b_23,b_24,b_25,b_26,b_27,b_28,b_29,b_30,b_31,b_32,b_33)
 else none
 else
 some (.inr (i_3,b_23,b_24,b_25,b_26,b_27,b_28,b_29,b_30,b_31,b_32,b_33))
  partial_fixpoint
def g2z(x_:Int × List Int × Int × List SType × Int × List UInt8 × Int × Int × Int × List SSymbol × List SMember × Int × Int × Bool) :Option ((Int) ⊕ (Int × List SType × Int × List UInt8 × Int × Int × Int × List SSymbol × List SMember × Int × Int × Bool)):=
 match x_ with
 | (i_4,l,k_1,b_34,b_35,b_36,b_37,b_38,b_39,b_40,b_41,b_42,b_43,b_44)=>
 if decide (k_1 < (l.length:Int))=true then
 if inR k_1 l.length=true then
 some (decide (l.getD k_1.toNat 0 < 0)) >>=fun t58=>
 if(inR k_1 l.length || (!(!t58)))=true then
 if(bif t58 then true else decide ((b_34.length:Int)≤l.getD k_1.toNat 0))=true then
 some (.inl 4)
 else
 g2z (i_4,l,addI .i64 k_1 1,b_34,b_35,b_36,b_37,b_38,b_39,b_40,b_41,b_42,b_43,b_44)
 else none
 else none
 else
 some (.inr (i_4,b_34,b_35,b_36,b_37,b_38,b_39,b_40,b_41,b_42,b_43,b_44))
  partial_fixpoint
def g2x(x_:Int × List SType) :Option ((Int) ⊕ (Unit)):=
 match x_ with
 | (i,b)=>
 if decide (i < (b.length:Int))=true then
 if inR i b.length=true then
 some (b.getD i.toNat dSType) >>=fun x0=>
 gy x0 >>=fun r=>
 if(!r)=true then
 some (.inl 1)
 else
 g1x (i,0,b,x0.Kind,x0.Name,x0.Low,x0.High,x0.Max,x0.Symbols,x0.Members,x0.Key,x0.Elem,x0.Open) >>=fun o_3=>
 match o_3 with
 | .inl o_4=>
 some (.inl o_4)
 | .inr o_5=>
 g8a (⟨o_5.2.2.1,o_5.2.2.2.1,o_5.2.2.2.2.1,o_5.2.2.2.2.2.1,o_5.2.2.2.2.2.2.1,o_5.2.2.2.2.2.2.2.1,o_5.2.2.2.2.2.2.2.2.1,o_5.2.2.2.2.2.2.2.2.2.1,o_5.2.2.2.2.2.2.2.2.2.2.1,o_5.2.2.2.2.2.2.2.2.2.2.2⟩:SType) >>=fun r_1=>
 g2z (o_5.1,r_1,0,o_5.2.1,o_5.2.2.1,o_5.2.2.2.1,o_5.2.2.2.2.1,o_5.2.2.2.2.2.1,o_5.2.2.2.2.2.2.1,o_5.2.2.2.2.2.2.2.1,o_5.2.2.2.2.2.2.2.2.1,o_5.2.2.2.2.2.2.2.2.2.1,o_5.2.2.2.2.2.2.2.2.2.2.1,o_5.2.2.2.2.2.2.2.2.2.2.2) >>=fun o_6=>
 match o_6 with
 | .inl o_7=>
 some (.inl o_7)
 | .inr o_8=>
 some (decide (o_8.2.2.1=8)) >>=fun t71=>
 if(inR o_8.2.2.2.2.2.2.2.2.2.1 o_8.2.1.length || (!t71))=true then
 (if t71=true then g98 (o_8.2.1.getD o_8.2.2.2.2.2.2.2.2.2.1.toNat dSType).Kind else some false) >>=fun r_2=>
 if(bif t71 then(!r_2)else false)=true then
 some (.inl 1)
 else
 g2x (addI .i64 o_8.1 1,o_8.2.1)
 else none
 else none
 else
 some (.inr ())
  partial_fixpoint
def g4v(s:SSchema) :Option (Int):=
 if decide (32 < (s.Types.length:Int))=true then
 some 3
 else
 g2x (0,s.Types) >>=fun o=>
 match o with
 | .inl o_1=>
 some o_1
 | .inr o_2=>
 some 0
def g23(x_:Int × Int × SType) :Option ((Int × Bool) ⊕ (Unit)):=
 match x_ with
 | (id_1,i,b)=>
 if decide (i < (b.Symbols.length:Int))=true then
 if inR i b.Symbols.length=true then
 if decide ((b.Symbols.getD i.toNat dSSymbol).ID=id_1)=true then
 some (.inl (i,true))
 else
 g23 (id_1,addI .i64 i 1,b)
 else none
 else
 some (.inr ())
  partial_fixpoint
def g7d(x_:SType × Int) :Option (Int × Bool):=
 match x_ with
 | (t,id)=>
 g23 (id,0,t) >>=fun o=>
 match o with
 | .inl o_1=>
 some (o_1.1,o_1.2)
 | .inr o_2=>
 some (0,false)
def g2p(x_:Int × Int × SType) :Option ((Int × Bool) ⊕ (Unit)):=
 match x_ with
 | (id_1,i,b)=>
 if decide (i < (b.Members.length:Int))=true then
 if inR i b.Members.length=true then
 if decide ((b.Members.getD i.toNat dSMember).ID=id_1)=true then
 some (.inl (i,true))
 else
 g2p (id_1,addI .i64 i 1,b)
 else none
 else
 some (.inr ())
  partial_fixpoint
end
section
open Go Go.Proofs.YthnmepafpikaiaaGreat.Shv
open Tryz
set_option maxRecDepth 100000
def g1j(x_:SType × Int) :Option (Int × Bool):=
 match x_ with
 | (t,id)=>
 g2p (id,0,t) >>=fun o=>
 match o with
 | .inl o_1=>
 some (o_1.1,o_1.2)
 | .inr o_2=>
 some (0,false)
def g4p(n:Int) :Option (Int):=
 if decide (0≤n)=true then
 some (mulI .u64 2 (wrp .u64 n))
 else
 some (addI .u64 (mulI .u64 2 (wrp .u64 (subI .i64 0 (addI .i64 n 1)))) 1)
def g5q(x_:Int × List UInt8) :Option (List UInt8):=
 match x_ with
 | (n_1,out_1)=>
 if decide (0 < n_1)=true then
 some (strOf [wrp .u8 (remI n_1 256)]) >>=fun t10=>
 if decide (t10.length+out_1.length≤g1m)=true then
 g5q (quoI .u64 n_1 256,t10++out_1)
 else none
 else
 some out_1
  partial_fixpoint
def g70(n:Int) :Option (List UInt8):=
 g5q (n,[]) >>=fun o=>
 some o
def g5r(x_:Int × List Int) :Option (Int × List Int):=
 match x_ with
 | (n_2,b_1)=>
 if decide (128≤n_2)=true then
 some [wrp .u8 (addI .u64 (remI n_2 128) 128)] >>=fun t11=>
 if room 1 (b_1++t11).length=true then
 g5r (quoI .u64 n_2 128,b_1++t11)
 else none
 else
 some (n_2,b_1)
  partial_fixpoint
def g47(n:Int) :Option (List UInt8):=
 g5r (n,[]) >>=fun o=>
 some [wrp .u8 o.1] >>=fun t18=>
 if room 1 (o.2++t18).length=true then
 some (strOf (o.2++t18))
 else none
def g3x(p:List UInt8) :Option (List UInt8):=
 g47 (wrp .u64 (p.length:Int)) >>=fun r=>
 if decide (r.length+p.length≤g1m)=true then
 some (r++p)
 else none
def g61(x_:Int × Bool × List UInt8) :Option (List UInt8):=
 match x_ with
 | (id,critical,p)=>
 some (wrp .u64 (mulI .i64 2 id)) >>=fun t10=>
 if critical=true then
 g47 (addI .u64 t10 1) >>=fun r=>
 g3x p >>=fun r_1=>
 if decide (r.length+r_1.length≤g1m)=true then
 some (r++r_1)
 else none
 else
 g47 t10 >>=fun r_2=>
 g3x p >>=fun r_3=>
 if decide (r_2.length+r_3.length≤g1m)=true then
 some (r_2++r_3)
 else none
def g1i(x_:List UInt8 × Int × Int × List SType × SValue × SType) :Option (List UInt8 × Int × List SType × SValue × SType):=
 match x_ with
 | (out_9,id_4,k,b_18,b_19,b_20)=>
 if decide (k < (b_19.Rest.length:Int))=true then
 if inR k b_19.Rest.length=true then
 if decide ((b_19.Rest.getD k.toNat dSRaw).ID=id_4)=true then
 if inR k b_19.Rest.length=true then
 g61 (id_4,false,(b_19.Rest.getD k.toNat dSRaw).Data) >>=fun r_22=>
 if decide (out_9.length+r_22.length≤g1m)=true then
 g1i (out_9++r_22,id_4,addI .i64 k 1,b_18,SValue.eta b_19,b_20)
 else none
 else none
 else
 g1i (out_9,id_4,addI .i64 k 1,b_18,SValue.eta b_19,b_20)
 else none
 else
 some (out_9,id_4,b_18,SValue.eta b_19,b_20)
  partial_fixpoint
mutual
def g1h(x_:SSchema × Int × SValue) :Option (List UInt8):=
 match x_ with
 | (s,t,v)=>
 if inR t s.Types.length=true then
 some (s.Types.getD t.toNat dSType) >>=fun x0=>
 if decide (x0.Kind=1)=true then
 if v.Bool_=true then
 some [1]
 else
 some []
 else
 if decide (x0.Kind=2)=true then
 g4p v.Int_ >>=fun r=>
 g70 r >>=fun r_1=>
 some r_1
 else
 if decide (x0.Kind=3)=true then
 some v.Str
 else
 if decide (x0.Kind=4)=true then
 g70 (wrp .u64 v.ID) >>=fun r_2=>
 some r_2
 else
 if decide (x0.Kind=9)=true then
 if decide ((v.Items.length:Int)=0)=true then
 some []
 else
 if inR 0 v.Items.length=true then
 g1h (s,x0.Elem,SValue.eta (v.Items.getD (0:Int).toNat dSValue)) >>=fun r_3=>
 if decide ([1].length+r_3.length≤g1m)=true then
 some ([1]++r_3)
 else none
 else none
 else
 if decide (x0.Kind=6)=true then
 if decide (0 < (v.Rest.length:Int))=true then
 g47 (wrp .u64 v.ID) >>=fun r_4=>
 if inR 0 v.Rest.length=true then
 some (v.Rest.getD (0:Int).toNat dSRaw) >>=fun x0_2=>
 if decide (r_4.length+x0_2.Data.length≤g1m)=true then
 some (r_4++x0_2.Data)
 else none
 else none
 else
 g1j (x0,v.ID) >>=fun r_5=>
 g47 (wrp .u64 v.ID) >>=fun r_8=>
 if inR r_5.1 x0.Members.length=true then
 if inR 0 v.Items.length=true then
 g1h (s,(x0.Members.getD r_5.1.toNat dSMember).Type_,SValue.eta (v.Items.getD (0:Int).toNat dSValue)) >>=fun r_9=>
 if decide (r_8.length+r_9.length≤g1m)=true then
 some (r_8++r_9)
 else none
 else none
 else none
 else
 if decide (x0.Kind=7)=true then
 g30 ([],0,s.Types,SValue.eta v,x0) >>=fun o=>
 some o
 else
 if decide (x0.Kind=8)=true then
 g31 ([],0,s.Types,SValue.eta v,x0) >>=fun o_1=>
 some o_1
 else
 g1y ([],1,s.Types,SValue.eta v,x0) >>=fun o_2=>
 some o_2
 else none
  partial_fixpoint
def g30(x_:List UInt8 × Int × List SType × SValue × SType) :Option (List UInt8):=
 match x_ with
 | (out_3,i,b,b_1,b_2)=>
 if decide (i < (b_1.Items.length:Int))=true then
 if inR i b_1.Items.length=true then
 g1h ((⟨b⟩:SSchema),b_2.Elem,SValue.eta (b_1.Items.getD i.toNat dSValue)) >>=fun r_10=>
 g3x r_10 >>=fun r_11=>
 if decide (out_3.length+r_11.length≤g1m)=true then
 g30 (out_3++r_11,addI .i64 i 1,b,SValue.eta b_1,b_2)
 else none
 else none
 else
 some out_3
  partial_fixpoint
def g31(x_:List UInt8 × Int × List SType × SValue × SType) :Option (List UInt8):=
 match x_ with
 | (out_4,i_1,b_3,b_4,b_5)=>
 if decide (i_1 < (b_4.Items.length:Int))=true then
 if inR i_1 b_4.Keys.length=true then
 g1h ((⟨b_3⟩:SSchema),b_5.Key,SValue.eta (b_4.Keys.getD i_1.toNat dSValue)) >>=fun r_12=>
 g3x r_12 >>=fun r_13=>
 if decide (out_4.length+r_13.length≤g1m)=true then
 some (out_4++r_13) >>=fun t144=>
 if inR i_1 b_4.Items.length=true then
 g1h ((⟨b_3⟩:SSchema),b_5.Elem,SValue.eta (b_4.Items.getD i_1.toNat dSValue)) >>=fun r_14=>
 g3x r_14 >>=fun r_15=>
 if decide (t144.length+r_15.length≤g1m)=true then
 g31 (t144++r_15,addI .i64 i_1 1,b_3,SValue.eta b_4,b_5)
 else none
 else none
 else none
 else none
 else
 some out_4
  partial_fixpoint
def g1y(x_:List UInt8 × Int × List SType × SValue × SType) :Option (List UInt8):=
 match x_ with
 | (out_5,id,b_6,b_7,b_8)=>
 if decide (id≤1000)=true then
 g1j (b_8,id) >>=fun r_16=>
 if r_16.2=true then
 if inR r_16.1 b_8.Members.length=true then
 some (b_8.Members.getD r_16.1.toNat dSMember) >>=fun x0_8=>
 some (!x0_8.HasDefault) >>=fun t175=>
 if(inR r_16.1 b_7.Items.length || (!(!t175)))=true then
 (if(!t175)=true then g1a (SValue.eta (b_7.Items.getD r_16.1.toNat dSValue),SValue.eta x0_8.Default)else some false) >>=fun r_19=>
 if(bif t175 then true else(!r_19))=true then
 if inR r_16.1 b_7.Items.length=true then
 g1h ((⟨b_6⟩:SSchema),x0_8.Type_,SValue.eta (b_7.Items.getD r_16.1.toNat dSValue)) >>=fun r_20=>
 g61 (id,x0_8.Critical,r_20) >>=fun r_21=>
 if decide (out_5.length+r_21.length≤g1m)=true then
 g1i (out_5++r_21,id,0,b_6,SValue.eta b_7,b_8) >>=fun o_3=>
 g1y (o_3.1,addI .i64 o_3.2.1 1,o_3.2.2.1,SValue.eta o_3.2.2.2.1,o_3.2.2.2.2)
 else none
 else none
 else
 g1i (out_5,id,0,b_6,SValue.eta b_7,b_8) >>=fun o_4=>
 g1y (o_4.1,addI .i64 o_4.2.1 1,o_4.2.2.1,SValue.eta o_4.2.2.2.1,o_4.2.2.2.2)
 else none
 else none
 else
 g1i (out_5,id,0,b_6,SValue.eta b_7,b_8) >>=fun o_5=>
 g1y (o_5.1,addI .i64 o_5.2.1 1,o_5.2.2.1,SValue.eta o_5.2.2.2.1,o_5.2.2.2.2)
 else
 some out_5
  partial_fixpoint
end
end
section
open Go Go.Proofs.YthnmepafpikaiaaGreat.Shv
open Tryz
set_option maxRecDepth 100000
set_option linter.all false
end
section
open Go Go.Proofs.YthnmepafpikaiaaGreat.Shv
open Tryz
set_option maxRecDepth 100000
def g2k(x_:Bool × Bool) :Option (Int):=
 match x_ with
 | (less,equal)=>
 if equal=true then
 some 0
 else
 if less=true then
 some (-1)
 else
 some 1
def g5b(x_:SValue × SValue) :Option (Int):=
 match x_ with
 | (a,b)=>
 if(!(decide (a.Kind=b.Kind)))=true then
 some 0
 else
 if decide (a.Kind=1)=true then
 g2k (b.Bool_,eqB a.Bool_ b.Bool_) >>=fun r=>
 some r
 else
 if decide (a.Kind=2)=true then
 g4p a.Int_ >>=fun r_1=>
 g4p b.Int_ >>=fun r_2=>
 g2k (decide (r_1 < r_2),decide (a.Int_=b.Int_)) >>=fun r_3=>
 some r_3
 else
 if decide (a.Kind=3)=true then
 if(!(decide ((a.Str.length:Int)=(b.Str.length:Int))))=true then
 g2k (decide ((a.Str.length:Int) < (b.Str.length:Int)),false) >>=fun r_4=>
 some r_4
 else
 g2k (Op.bytesLess a.Str b.Str,decide (a.Str=b.Str)) >>=fun r_5=>
 some r_5
 else
 if decide (a.Kind=4)=true then
 g2k (decide (a.ID < b.ID),decide (a.ID=b.ID)) >>=fun r_6=>
 some r_6
 else
 some 0
end
section
open Go Go.Proofs.YthnmepafpikaiaaGreat.Shv
open Tryz
set_option maxRecDepth 100000
def g4j(v:SValue) :Option (Bool):=
 some (bif bif bif bif bif bif bif decide (v.Kind=1)then true else(!v.Bool_)then bif decide (v.Kind=2)then true else decide (v.Int_=0)else false then bif decide (v.Kind=3)then true else decide (v.Str=[])else false then bif bif decide (v.Kind=4)then true else decide (v.Kind=6)then true else decide (v.ID=0)else false then bif decide (v.Kind=8)then true else decide ((v.Keys.length:Int)=0)else false then bif decide (5≤v.Kind)then true else decide ((v.Items.length:Int)=0)else false then bif bif decide (v.Kind=5)then true else decide (v.Kind=6)then true else decide ((v.Rest.length:Int)=0)else false)
def g15(x_:Int × Bool) :Option (Bool):=
 match x_ with
 | (n,known)=>
 some (bif bif (!known)then decide (1≤n)else false then decide (n≤1000)else false)
def g1b(x_:List SRaw × Int × SType) :Option ((Bool) ⊕ (Unit)):=
 match x_ with
 | (l_1,i,b)=>
 if decide (i < (l_1.length:Int))=true then
 if inR i l_1.length=true then
 g1j (b,(l_1.getD i.toNat dSRaw).ID) >>=fun r=>
 if inR i l_1.length=true then
 g15 ((l_1.getD i.toNat dSRaw).ID,r.2) >>=fun r_3=>
 some (!r_3) >>=fun t31=>
 some (decide (0 < i)) >>=fun t34=>
 if(inR i l_1.length || (!((!t31) && t34)))=true then
 some (subI .i64 i 1) >>=fun t43=>
 if(inR t43 l_1.length || (!((!t31) && t34)))=true then
 if(bif t31 then true else bif t34 then decide ((l_1.getD i.toNat dSRaw).ID≤(l_1.getD t43.toNat dSRaw).ID)else false)=true then
 some (.inl false)
 else
 g1b (l_1,addI .i64 i 1,b)
 else none
 else none
 else none
 else none
 else
 some (.inr ())
  partial_fixpoint
def g3y(x_:SType × List SRaw) :Option (Bool):=
 match x_ with
 | (t,l)=>
 g1b (l,0,t) >>=fun o=>
 match o with
 | .inl o_1=>
 some o_1
 | .inr o_2=>
 some true
def gu(x_:Int × SValue) :Option ((Bool) ⊕ (Unit)):=
 match x_ with
 | (i_1,b_12)=>
 if decide (i_1 < (b_12.Keys.length:Int))=true then
 some (subI .i64 i_1 1) >>=fun t270=>
 if inR t270 b_12.Keys.length=true then
 if inR i_1 b_12.Keys.length=true then
 g5b (SValue.eta (b_12.Keys.getD t270.toNat dSValue),SValue.eta (b_12.Keys.getD i_1.toNat dSValue)) >>=fun r_16=>
 if decide (0≤r_16)=true then
 some (.inl false)
 else
 gu (addI .i64 i_1 1,SValue.eta b_12)
 else none
 else none
 else
 some (.inr ())
  partial_fixpoint
mutual
def g3m(x_:SSchema × Int × List SValue × Bool) :Option (Bool):=
 match x_ with
 | (s,t,l,plain)=>
 g1g (t,l,plain,0,s.Types) >>=fun o=>
 match o with
 | .inl o_1=>
 some o_1
 | .inr o_2=>
 some true
  partial_fixpoint
def g1e(x_:SSchema × Int × SValue × Bool) :Option (Bool):=
 match x_ with
 | (s,t,v,plain)=>
 if(bif decide (t < 0)then true else decide ((s.Types.length:Int)≤t))=true then
 some false
 else
 if inR t s.Types.length=true then
 some (s.Types.getD t.toNat dSType) >>=fun x0=>
 some (!(decide (v.Kind=x0.Kind))) >>=fun t34=>
 (if(!t34)=true then g4j (SValue.eta v)else some false) >>=fun r=>
 if(bif bif t34 then true else(!r)then true else bif plain then decide (0 < (v.Rest.length:Int))else false)=true then
 some false
 else
 if decide (x0.Kind=1)=true then
 some true
 else
 if decide (x0.Kind=2)=true then
 some (bif decide (x0.Low≤v.Int_)then decide (v.Int_≤x0.High)else false)
 else
 if decide (x0.Kind=3)=true then
 some (decide ((v.Str.length:Int)≤x0.Max))
 else
 if decide (x0.Kind=4)=true then
 g7d (x0,v.ID) >>=fun r_1=>
 some (bif x0.Open then(!plain)else false) >>=fun t91=>
 (if((!r_1.2) && t91)=true then g15 (v.ID,r_1.2)else some false) >>=fun r_4=>
 some (bif r_1.2 then true else bif t91 then r_4 else false)
 else
 if decide (x0.Kind=5)=true then
 some (!(decide ((v.Items.length:Int)=(x0.Members.length:Int)))) >>=fun t107=>
 (if(!t107)=true then g3y (x0,v.Rest)else some false) >>=fun r_5=>
 if(bif t107 then true else(!r_5))=true then
 some false
 else
 gz (plain,0,s.Types,SValue.eta v,x0.Kind,x0.Name,x0.Low,x0.High,x0.Max,x0.Symbols,x0.Members,x0.Key,x0.Elem,x0.Open) >>=fun o=>
 match o with
 | .inl o_1=>
 some o_1
 | .inr o_2=>
 some true
 else
 if decide (x0.Kind=6)=true then
 g1j (x0,v.ID) >>=fun r_6=>
 if r_6.2=true then
 some (bif decide ((v.Items.length:Int)=1)then decide ((v.Rest.length:Int)=0)else false) >>=fun t156=>
 if(inR r_6.1 x0.Members.length || (!t156))=true then
 if(inR 0 v.Items.length || (!t156))=true then
 (if t156=true then g1e (s,(x0.Members.getD r_6.1.toNat dSMember).Type_,SValue.eta (v.Items.getD (0:Int).toNat dSValue),plain)else some false) >>=fun r_9=>
 some (bif t156 then r_9 else false)
 else none
 else none
 else
 some (bif x0.Open then(!plain)else false) >>=fun t177=>
 (if t177=true then g15 (v.ID,r_6.2)else some false) >>=fun r_10=>
 some (bif bif bif t177 then r_10 else false then decide ((v.Items.length:Int)=0)else false then decide ((v.Rest.length:Int)=1)else false) >>=fun t195=>
 if(inR 0 v.Rest.length || (!t195))=true then
 some (bif t195 then decide ((v.Rest.getD (0:Int).toNat dSRaw).ID=v.ID)else false)
 else none
 else
 if decide (x0.Kind=7)=true then
 some (decide ((v.Items.length:Int)≤x0.Max)) >>=fun t213=>
 (if t213=true then g3m (s,x0.Elem,v.Items,plain)else some false) >>=fun r_11=>
 some (bif t213 then r_11 else false)
 else
 if decide (x0.Kind=8)=true then
 some (bif decide (x0.Max < (v.Keys.length:Int))then true else(!(decide ((v.Items.length:Int)=(v.Keys.length:Int))))) >>=fun t239=>
 (if(!t239)=true then g3m (s,x0.Key,v.Keys,plain)else some false) >>=fun r_12=>
 some (bif t239 then true else(!r_12)) >>=fun t249=>
 (if(!t249)=true then g3m (s,x0.Elem,v.Items,plain)else some false) >>=fun r_13=>
 if(bif t249 then true else(!r_13))=true then
 some false
 else
 gu (1,SValue.eta v) >>=fun o_3=>
 match o_3 with
 | .inl o_4=>
 some o_4
 | .inr o_5=>
 some true
 else
 some (decide ((v.Items.length:Int)≤1)) >>=fun t283=>
 (if t283=true then g3m (s,x0.Elem,v.Items,plain)else some false) >>=fun r_14=>
 some (bif t283 then r_14 else false)
 else none
  partial_fixpoint
def g1g(x_:Int × List SValue × Bool × Int × List SType) :Option ((Bool) ⊕ (Unit)):=
 match x_ with
 | (t_1,l_1,plain_1,i,b)=>
 if decide (i < (l_1.length:Int))=true then
 if inR i l_1.length=true then
 g1e ((⟨b⟩:SSchema),t_1,SValue.eta (l_1.getD i.toNat dSValue),plain_1) >>=fun r=>
 if(!r)=true then
 some (.inl false)
 else
 g1g (t_1,l_1,plain_1,addI .i64 i 1,b)
 else none
 else
 some (.inr ())
  partial_fixpoint
def gz(x_:Bool × Int × List SType × SValue × Int × List UInt8 × Int × Int × Int × List SSymbol × List SMember × Int × Int × Bool) :Option ((Bool) ⊕ (Unit)):=
 match x_ with
 | (plain_1,i,b,b_1,b_2,b_3,b_4,b_5,b_6,b_7,b_8,b_9,b_10,b_11)=>
 if decide (i < (b_1.Items.length:Int))=true then
 if inR i b_8.length=true then
 if inR i b_1.Items.length=true then
 g1e ((⟨b⟩:SSchema),(b_8.getD i.toNat dSMember).Type_,SValue.eta (b_1.Items.getD i.toNat dSValue),plain_1) >>=fun r_15=>
 if(!r_15)=true then
 some (.inl false)
 else
 gz (plain_1,addI .i64 i 1,b,SValue.eta b_1,b_2,b_3,b_4,b_5,b_6,b_7,b_8,b_9,b_10,b_11)
 else none
 else none
 else
 some (.inr ())
  partial_fixpoint
end
def g8b(x_:SSchema × Int × SValue) :Option (Bool):=
 match x_ with
 | (s,t,v)=>
 g1e (s,t,SValue.eta v,false) >>=fun r=>
 some r
def g48(x_:SSchema × Int × SValue) :Option (Int):=
 match x_ with
 | (s,t,v)=>
 g4v s >>=fun r=>
 if(!(decide (r=0)))=true then
 some r
 else
 if(bif decide (t < 0)then true else decide ((s.Types.length:Int)≤t))=true then
 some 4
 else
 g8b (s,t,SValue.eta v) >>=fun r_1=>
 if(!r_1)=true then
 some 1
 else
 some 0
end
section
open Go Go.Proofs.YthnmepafpikaiaaGreat.Shv
open Tryz
set_option maxRecDepth 100000
mutual
def g2e(x_:SSchema × Int × SValue) :Option (Int):=
 match x_ with
 | (s,t,v)=>
 if inR t s.Types.length=true then
 gh (0,0,s.Types,SValue.eta v,s.Types.getD t.toNat dSType) >>=fun o=>
 if decide (0 < (o.2.Keys.length:Int))=true then
 some (addI .i64 1 (maxI o.1 1))
 else
 some (addI .i64 1 o.1)
 else none
  partial_fixpoint
def gh(x_:Int × Int × List SType × SValue × SType) :Option (Int × SValue):=
 match x_ with
 | (below_1,i,b_1,b_2,b_3)=>
 if decide (i < (b_2.Items.length:Int))=true then
 if decide (b_3.Kind=5)=true then
 if inR i b_3.Members.length=true then
 some (b_3.Members.getD i.toNat dSMember) >>=fun x0_1=>
 if(inR i b_2.Items.length || (!x0_1.HasDefault))=true then
 (if x0_1.HasDefault=true then g1a (SValue.eta (b_2.Items.getD i.toNat dSValue),SValue.eta x0_1.Default)else some false) >>=fun r=>
 if(bif x0_1.HasDefault then r else false)=true then
 gh (below_1,addI .i64 i 1,b_1,SValue.eta b_2,b_3)
 else
 if decide (b_3.Kind=6)=true then
 g1j (b_3,b_2.ID) >>=fun r_1=>
 if inR r_1.1 b_3.Members.length=true then
 if inR i b_2.Items.length=true then
 g2e ((⟨b_1⟩:SSchema),(b_3.Members.getD r_1.1.toNat dSMember).Type_,SValue.eta (b_2.Items.getD i.toNat dSValue)) >>=fun r_4=>
 gh (maxI below_1 r_4,addI .i64 i 1,b_1,SValue.eta b_2,b_3)
 else none
 else none
 else
 if inR i b_2.Items.length=true then
 g2e ((⟨b_1⟩:SSchema),x0_1.Type_,SValue.eta (b_2.Items.getD i.toNat dSValue)) >>=fun r_5=>
 gh (maxI below_1 r_5,addI .i64 i 1,b_1,SValue.eta b_2,b_3)
 else none
 else none
 else none
 else
 if decide (b_3.Kind=6)=true then
 g1j (b_3,b_2.ID) >>=fun r_6=>
 if inR r_6.1 b_3.Members.length=true then
 if inR i b_2.Items.length=true then
 g2e ((⟨b_1⟩:SSchema),(b_3.Members.getD r_6.1.toNat dSMember).Type_,SValue.eta (b_2.Items.getD i.toNat dSValue)) >>=fun r_9=>
 gh (maxI below_1 r_9,addI .i64 i 1,b_1,SValue.eta b_2,b_3)
 else none
 else none
 else
 if inR i b_2.Items.length=true then
 g2e ((⟨b_1⟩:SSchema),b_3.Elem,SValue.eta (b_2.Items.getD i.toNat dSValue)) >>=fun r_10=>
 gh (maxI below_1 r_10,addI .i64 i 1,b_1,SValue.eta b_2,b_3)
 else none
 else
 some (below_1,SValue.eta b_2)
  partial_fixpoint
end
def ga7(x_:SSchema × Int × SValue) :Option (List UInt8 × Int):=
 match x_ with
 | (s,t,v)=>
 g48 (s,t,SValue.eta v) >>=fun r=>
 if(!(decide (r=0)))=true then
 some ([],r)
 else
 g1h (s,t,SValue.eta v) >>=fun r_1=>
 some (decide (4096 < (r_1.length:Int))) >>=fun t23=>
 (if(!t23)=true then g2e (s,t,SValue.eta v)else some 0) >>=fun r_2=>
 if(bif t23 then true else decide (200 < r_2))=true then
 some ([],3)
 else
 some (r_1,0)
def g4m(x_:SSchema × Int × SValue) :Option (Int × Int):=
 match x_ with
 | (s,t,v)=>
 g2y (s,t,SValue.eta v) >>=fun r=>
 if(!(decide (r=0)))=true then
 some (0,r)
 else
 gw (t,SValue.eta v,1,s.Types,0) >>=fun r_1=>
 some ((r_1.1.length:Int),0)
theorem e29_k :KC e29:= .m (by kernel_rfl)
theorem gmr :FC e29 g4m:= .fn e29_k (.k gc0 (.k g5d .n)) .n fun _=>by kernel_rfl
end
section
open Go Go.Proofs.YthnmepafpikaiaaGreat.Shv
open Tryz
set_option maxRecDepth 100000
def gc2(x_:SSchema × Int × SValue) :Option (Int × Int):=
 match x_ with
 | (s,t,v)=>
 g48 (s,t,SValue.eta v) >>=fun r=>
 if(!(decide (r=0)))=true then
 some (0,r)
 else
 g1h (s,t,SValue.eta v) >>=fun r_1=>
 some ((r_1.length:Int),0)
end
section
open Go Go.Proofs.YthnmepafpikaiaaGreat.Shv
open Tryz
set_option maxRecDepth 100000
def g17(x_:Int × Int × Int × Int × Int × List SType × Int × Bool × Int × List UInt8 × Int × List SValue) :Option (Int × Int × Int × List SType × Int × Bool × Int × List UInt8 × Int × List SValue):=
 match x_ with
 | (items_3,length_3,deep_3,t24_1,t25,b_20,b_21,b_22,b_23,b_24,b_25,b_26)=>
 if decide (t25 < t24_1)=true then
 g7j ([120],wrp .i64 (remI length_3 201)) >>=fun r_23=>
 some [(⟨3,false,0,r_23,0,[],[],[]⟩:SValue)] >>=fun t34=>
 if room 120 (b_26++t34).length=true then
 g17 (items_3,length_3,deep_3,t24_1,addI .u8 t25 1,b_20,b_21,b_22,b_23,b_24,b_25,b_26++t34)
 else none
 else
 some (items_3,length_3,deep_3,b_20,b_21,b_22,b_23,b_24,b_25,b_26)
  partial_fixpoint
theorem g9n :LC 10 0 [0] e10_0 g17:= .rc g17.partial_correctness (.k g97 .n) .n fun _ _=>by kernel_rfl
def g1k(x_:Int × Int × Int × Int × Int × List SType × Int × Bool × Int × List UInt8 × Int × Int × Bool × Int × List UInt8 × Int × List SValue × List SValue) :Option (Int × Int × Int × List SType × Int × Bool × Int × List UInt8 × Int × Int × Bool × Int × List UInt8 × Int × List SValue × List SValue):=
 match x_ with
 | (items_4,length_4,deep_4,t39,t40,b_27,b_28,b_29,b_30,b_31,b_32,b_33,b_34,b_35,b_36,b_37,b_38,b_39)=>
 if decide (t40 < t39)=true then
 g1k (items_4,length_4,deep_4,t39,addI .u8 t40 1,b_27,b_28,b_29,b_30,b_31,b_32,9,false,0,[],0,[(⟨b_33,b_34,b_35,b_36,b_37,[],b_38,[]⟩:SValue)],b_39)
 else
 some (items_4,length_4,deep_4,b_27,b_28,b_29,b_30,b_31,b_32,b_33,b_34,b_35,b_36,b_37,b_38,b_39)
  partial_fixpoint
theorem g9o :LC 10 0 [1] e10_1 g1k:= .rc g1k.partial_correctness .n .n fun _ _=>by kernel_rfl
def g4b(x_:Int × Int × Int) :Option (Bool):=
 match x_ with
 | (items,length,deep)=>
 g7r () >>=fun r=>
 if(!r)=true then
 some false
 else
 g17 (items,length,deep,remI items 51,0,[(⟨3,[],0,0,200,[],[],0,0,false⟩:SType),(⟨7,[],0,0,50,[],[],0,0,false⟩:SType),(⟨9,[],0,0,0,[],[],0,2,false⟩:SType)],7,false,0,[],0,[]) >>=fun o=>
 g1k (o.1,o.2.1,o.2.2.1,o.2.2.1,0,o.2.2.2.1,o.2.2.2.2.1,o.2.2.2.2.2.1,o.2.2.2.2.2.2.1,o.2.2.2.2.2.2.2.1,o.2.2.2.2.2.2.2.2.1,9,false,0,[],0,[],o.2.2.2.2.2.2.2.2.2) >>=fun o_1=>
 g3v ((⟨o_1.2.2.2.1⟩:SSchema),1,(⟨o_1.2.2.2.2.1,o_1.2.2.2.2.2.1,o_1.2.2.2.2.2.2.1,o_1.2.2.2.2.2.2.2.1,o_1.2.2.2.2.2.2.2.2.1,[],o_1.2.2.2.2.2.2.2.2.2.2.2.2.2.2.2,[]⟩:SValue)) >>=fun r_1=>
 g4m ((⟨o_1.2.2.2.1⟩:SSchema),1,(⟨o_1.2.2.2.2.1,o_1.2.2.2.2.2.1,o_1.2.2.2.2.2.2.1,o_1.2.2.2.2.2.2.2.1,o_1.2.2.2.2.2.2.2.2.1,[],o_1.2.2.2.2.2.2.2.2.2.2.2.2.2.2.2,[]⟩:SValue)) >>=fun r_4=>
 some (mulI .i64 (wrp .i64 (remI o_1.1 51)) (addI .i64 (wrp .i64 (remI o_1.2.1 201)) 1)) >>=fun t65=>
 if decide (127 < remI o_1.2.1 201)=true then
 some (addI .i64 t65 (wrp .i64 (remI o_1.1 51))) >>=fun t73=>
 if(bif bif bif (!(decide (r_4.2=0)))then true else(!(decide (r_4.1=t73)))then true else(!(eqB (decide (r_1.2=3)) (decide (4096 < t73))))then true else bif decide (r_1.2=0)then(!(decide ((r_1.1.length:Int)=t73)))else false)=true then
 some false
 else
 g3v ((⟨o_1.2.2.2.1⟩:SSchema),2,(⟨o_1.2.2.2.2.2.2.2.2.2.1,o_1.2.2.2.2.2.2.2.2.2.2.1,o_1.2.2.2.2.2.2.2.2.2.2.2.1,o_1.2.2.2.2.2.2.2.2.2.2.2.2.1,o_1.2.2.2.2.2.2.2.2.2.2.2.2.2.1,[],o_1.2.2.2.2.2.2.2.2.2.2.2.2.2.2.1,[]⟩:SValue)) >>=fun r_7=>
 g4m ((⟨o_1.2.2.2.1⟩:SSchema),2,(⟨o_1.2.2.2.2.2.2.2.2.2.1,o_1.2.2.2.2.2.2.2.2.2.2.1,o_1.2.2.2.2.2.2.2.2.2.2.2.1,o_1.2.2.2.2.2.2.2.2.2.2.2.2.1,o_1.2.2.2.2.2.2.2.2.2.2.2.2.2.1,[],o_1.2.2.2.2.2.2.2.2.2.2.2.2.2.2.1,[]⟩:SValue)) >>=fun r_10=>
 if decide (200 < addI .i64 (wrp .i64 o_1.2.2.1) 1)=true then
 some (bif bif bif decide (r_7.2=3)then decide (r_7.1=[])else false then decide (r_10.2=0)else false then decide (r_10.1=wrp .i64 o_1.2.2.1)else false)
 else
 some (decide (r_7.2=0)) >>=fun t131=>
 (if t131=true then g7j ([1],wrp .i64 o_1.2.2.1)else some []) >>=fun r_13=>
 some (bif bif bif t131 then decide (r_7.1=r_13)else false then decide (r_10.2=0)else false then decide (r_10.1=wrp .i64 o_1.2.2.1)else false) >>=fun t148=>
 (if t148=true then g4i ((⟨o_1.2.2.2.1⟩:SSchema),2,r_7.1)else some false) >>=fun r_14=>
 some (bif t148 then r_14 else false)
 else
 if(bif bif bif (!(decide (r_4.2=0)))then true else(!(decide (r_4.1=t65)))then true else(!(eqB (decide (r_1.2=3)) (decide (4096 < t65))))then true else bif decide (r_1.2=0)then(!(decide ((r_1.1.length:Int)=t65)))else false)=true then
 some false
 else
 g3v ((⟨o_1.2.2.2.1⟩:SSchema),2,(⟨o_1.2.2.2.2.2.2.2.2.2.1,o_1.2.2.2.2.2.2.2.2.2.2.1,o_1.2.2.2.2.2.2.2.2.2.2.2.1,o_1.2.2.2.2.2.2.2.2.2.2.2.2.1,o_1.2.2.2.2.2.2.2.2.2.2.2.2.2.1,[],o_1.2.2.2.2.2.2.2.2.2.2.2.2.2.2.1,[]⟩:SValue)) >>=fun r_15=>
 g4m ((⟨o_1.2.2.2.1⟩:SSchema),2,(⟨o_1.2.2.2.2.2.2.2.2.2.1,o_1.2.2.2.2.2.2.2.2.2.2.1,o_1.2.2.2.2.2.2.2.2.2.2.2.1,o_1.2.2.2.2.2.2.2.2.2.2.2.2.1,o_1.2.2.2.2.2.2.2.2.2.2.2.2.2.1,[],o_1.2.2.2.2.2.2.2.2.2.2.2.2.2.2.1,[]⟩:SValue)) >>=fun r_18=>
 if decide (200 < addI .i64 (wrp .i64 o_1.2.2.1) 1)=true then
 some (bif bif bif decide (r_15.2=3)then decide (r_15.1=[])else false then decide (r_18.2=0)else false then decide (r_18.1=wrp .i64 o_1.2.2.1)else false)
 else
 some (decide (r_15.2=0)) >>=fun t131_1=>
 (if t131_1=true then g7j ([1],wrp .i64 o_1.2.2.1)else some []) >>=fun r_21=>
 some (bif bif bif t131_1 then decide (r_15.1=r_21)else false then decide (r_18.2=0)else false then decide (r_18.1=wrp .i64 o_1.2.2.1)else false) >>=fun t148_1=>
 (if t148_1=true then g4i ((⟨o_1.2.2.2.1⟩:SSchema),2,r_15.1)else some false) >>=fun r_22=>
 some (bif t148_1 then r_22 else false)
theorem e10_k :KC e10:= .m (by kernel_rfl)
theorem gmu :FC e10 g4b:= .fn e10_k (.k gf9 (.k gjx (.k gmr (.k g97 (.k ggj .n))))) (.k g9n (.k g9o .n)) fun _=>by kernel_rfl
end
section
open Go Go.Proofs.YthnmepafpikaiaaGreat.Shv
set_option maxRecDepth 100000
set_option linter.all false
end
section
open Go Go.Proofs.YthnmepafpikaiaaGreat.Shv
set_option maxRecDepth 100000
set_option linter.all false
end
section
open Go Go.Proofs.YthnmepafpikaiaaGreat.Shv
set_option maxRecDepth 100000
def vput(n:Nat) :List UInt8:=if n < 128 then[UInt8.ofNat n]else UInt8.ofNat (n % 128+128)::vput (n / 128)
termination_by n
decreasing_by omega
theorem g92{n:Nat}(h:n < 128) :vput n=[UInt8.ofNat n]:=by rw[vput,if_pos h]
theorem gep{n:Nat}(h:¬n < 128) :vput n=UInt8.ofNat (n % 128+128)::vput (n / 128):=by rw[vput,if_neg h]
theorem gwi{a:Nat}(h:a < 256) :orI .u8 (a:Int) 128=((a % 128+128:Nat):Int):=by
 have key:∀a:Nat,a < 256→orI .u8 (a:Int) 128=((a % 128+128:Nat):Int):=by decide+kernel
 exact key a h
theorem wrp8(n:Nat) :wrp .u8 (n:Int)=((n % 256:Nat):Int):=by
 unfold wrp;rw[IntKind.wrap_u8];omega
theorem shrI7(n:Nat) :shrI .u64 (n:Int) 7=((n / 128:Nat):Int):=by
 unfold shrI;have:((2:Int) ^ min (7:Int).toNat IntKind.u64.bits)=128:=by decide
 rw[this,Int.fdiv_eq_ediv_of_nonneg _ (by omega)];omega
theorem gs8(m:Nat)(l:List Int) :strOf ((m:Int)::l)=UInt8.ofNat m::strOf l:=rfl
theorem g93(a b:List Int) :strOf (a++b)=strOf a++strOf b:=List.map_append
theorem gah{α:Type} :∀(l:List α) (i:Nat) (x:α),i < l.length→(l.set i x).take (i+1)=l.take i++[x]
 | [],i,x,h=>by simp at h
 | a::l,0,x,h=>by simp
 | a::l,i+1,x,h=>by simp[gah l i x (by simpa using h)]
theorem gu7 :∀(f n i:Nat) (b:List Int),i+f=9→n < 128*128 ^ f→b.length=10→∃(n' i':Nat) (b':List Int),g4s ((n:Int),(i:Int),b)=some ((n':Int),(i':Int),b')∧n' < 128∧i'≤9∧b'.length=10∧strOf (b'.take i')++[UInt8.ofNat n']=strOf (b.take i)++vput n
 | f,n,i,b,hi,hn,hb=>by
   rw[g4s];by_cases hs:n < 128
   · rw[if_neg (by simp;omega)];exact⟨n,i,b,rfl,hs,by omega,hb,by rw[g92 hs]⟩
   · rw[if_pos (by simp;omega),if_pos (g6 (by
       cases f with
       | zero=>simp at hn;omega
       | succ f=>omega)),if_pos (by
       cases f with
       | zero=>simp at hn;omega
       | succ f=>simp[hb];omega)]
     match f,hi,hn with
     | 0,hi,hn=>simp at hn;omega
     | f+1,hi,hn=>
       rw[shrI7,gg (by omega),wrp8,gwi (Nat.mod_lt _ (by omega)),gb];have hlt:n / 128 < 128*128 ^ f:=by
         rw[Nat.div_lt_iff_lt_mul (by omega)];rw[Nat.pow_succ]at hn;rw[Nat.mul_assoc];exact hn
       obtain⟨n',i',b',h1,h2,h3,h4,h5⟩:=gu7 f (n / 128) (i+1) (b.set i ((n % 256 % 128+128:Nat):Int)) (by omega) hlt (by simp[hb]);refine⟨n',i',b',h1,h2,h3,h4,?_⟩;rw[h5,gah _ _ _ (by omega),g93,gep hs];have:n % 256 % 128=n % 128:=by omega
       rw[this];have hone:strOf [((n % 128+128:Nat):Int)]=[UInt8.ofNat (n % 128+128)]:=rfl;rw[hone,List.append_assoc];rfl
theorem gog :(128:Nat)*128 ^ 9=1180591620717411303424:=by decide
theorem ggk{n:Nat}(hn:n < 18446744073709551616) :g6i (n:Int)=some (vput n):=by
 obtain⟨n',i',b',h1,h2,h3,h4,h5⟩:=gu7 9 n 0 [0,0,0,0,0,0,0,0,0,0] rfl (by rw[gog];omega) rfl;rw[g6i];have h1':g4s ((n:Int),0,[0,0,0,0,0,0,0,0,0,0])=some ((n':Int),(i':Int),b'):=h1;rw[h1'];simp only[oZ4,oZ3];have hsl:slR 0 ((i'+1:Nat):Int) 10=true:=gq6 (a:=0) (by omega) (by omega)
 rw[if_pos (g6 (by omega)),if_pos (by simp[h4];omega),gg (by omega),if_pos hsl,if_pos (by simp[subR,h4];omega),gb,gb,wrp8];have:n' % 256=n':=Nat.mod_eq_of_lt (by omega);rw[this];simp only[Int.toNat_zero,List.drop_zero];rw[gah _ _ _ (by omega),g93];have h6:strOf [(n':Int)]=[UInt8.ofNat n']:=rfl;rw[h6,h5];simp[strOf]
theorem glw :∀(f n:Nat) (b:List Int),n < 128 ^ f→n < 18446744073709551616→b.length+f≤1000→∃(n':Nat) (b':List Int),g5r ((n:Int),b)=some ((n':Int),b')∧n' < 128∧b'.length≤1000∧strOf b'++[UInt8.ofNat n']=strOf b++vput n
 | f,n,b,hn,h64,hb=>by
   rw[g5r];by_cases hs:n < 128
   · rw[if_neg (by simp;omega)];exact⟨n,b,rfl,hs,by omega,by rw[g92 hs]⟩
   · rw[if_pos (by simp;omega)]
     match f,hn with
     | 0,hn=>simp at hn;omega
     | f+1,hn=>
       have hrem:remI (n:Int) 128=((n % 128:Nat):Int):=remIn (b:=128);have hadd:addI .u64 ((n % 128:Nat):Int) 128=((n % 128+128:Nat):Int):=addIn (b:=128) (by omega);have hq:quoI .u64 (n:Int) 128=((n / 128:Nat):Int):=by
         unfold quoI;have e:(n:Int).tdiv 128=((n / 128:Nat):Int):=by rw[Int.tdiv_eq_ediv_of_nonneg (by omega)];omega
         rw[e];exact wrapu (by omega) (by omega)
       simp only[oZ4,oZ3];rw[hrem,hadd,hq,wrp8,if_pos (go0 (by omega) (by simp;omega))];have hlt:n / 128 < 128 ^ f:=by
         rw[Nat.div_lt_iff_lt_mul (by omega)];rw[Nat.pow_succ]at hn;exact hn
       obtain⟨n',b',h1,h2,h3,h4⟩:=glw f (n / 128) (b++[(((n % 128+128) % 256:Nat):Int)]) hlt (by omega) (by simp;omega);refine⟨n',b',h1,h2,h3,?_⟩;rw[h4,g93,gep hs];have:(n % 128+128) % 256=n % 128+128:=by omega
       rw[this];have hone:strOf [((n % 128+128:Nat):Int)]=[UInt8.ofNat (n % 128+128)]:=rfl;rw[hone,List.append_assoc];rfl
theorem ga8{n:Nat}(hn:n < 18446744073709551616) :g47 (n:Int)=some (vput n):=by
 obtain⟨n',b',h1,h2,h3,h4⟩:=glw 10 n [] (by have:=gog;rw[Nat.pow_succ,Nat.mul_comm];omega) hn (by simp);rw[g47,h1];simp only[oZ4,oZ3];rw[if_pos (go0 (by omega) (by simp;omega)),wrp8,g93];have:n' % 256=n':=Nat.mod_eq_of_lt (by omega);rw[this];have h6:strOf [(n':Int)]=[UInt8.ofNat n']:=rfl;rw[h6,h4];simp[strOf]
theorem goh :∀(f n:Nat),n < 128 ^ (f+1)→(vput n).length≤f+1
 | f,n,hn=>by
   by_cases hs:n < 128
   · rw[g92 hs];simp
   · rw[gep hs]
     match f,hn with
     | 0,hn=>simp at hn;omega
     | f+1,hn=>
       have:=goh f (n / 128) (by
         rw[Nat.div_lt_iff_lt_mul (by omega)]
         rw[Nat.pow_succ]at hn;exact hn)
       simp;omega
theorem g35{n:Nat}(hn:n < 18446744073709551616) :(vput n).length≤10:=goh 9 n (by have:=gog;rw[Nat.pow_succ,Nat.mul_comm];omega)
def g42(p:List UInt8) :List UInt8:=vput p.length++p
theorem g2h{n:Nat}(h:n≤9223372036854775807) :decide (n≤g1m)=true:=by
 unfold g1m;simp;omega
theorem ger{p:List UInt8}(h:p.length≤1152921504606846976) :g4o p=some (g42 p):=by
 rw[g4o,wrpn (by omega),ggk (by omega)];simp only[oZ4,oZ3];have:=g35 (n:=p.length) (by omega);rw[if_pos (g2h (by omega))];rfl
theorem ga0{p:List UInt8}(h:p.length≤1152921504606846976) :g3x p=some (g42 p):=by
 rw[g3x,wrpn (by omega),ga8 (by omega)];simp only[oZ4,oZ3];have:=g35 (n:=p.length) (by omega);rw[if_pos (g2h (by omega))];rfl
def g94(id:Nat)(c:Bool)(p:List UInt8) :List UInt8:=vput (2*id+(if c then 1 else 0))++g42 p
theorem gk4{p:List UInt8}(h:p.length≤1152921504606846976) :(g42 p).length≤p.length+10:=by
 have:=g35 (n:=p.length) (by omega);unfold g42;simp;omega
theorem goi{id:Nat}{c:Bool}{p:List UInt8}(hid:id≤4611686018427387903)(h:p.length≤1152921504606846900) :g7a ((id:Int),c,p)=some (g94 id c p):=by
 rw[g7a];have hm:mulI .u64 2 (wrp .u64 (id:Int))=((2*id:Nat):Int):=by
   rw[wrpn (by omega)];exact mulIn (a:=2) (by omega)
 simp only[oZ4,oZ3];rw[hm,ger (by omega)];have hl:=gk4 (p:=p) (by omega);cases c with
 | true=>
   have ha:addI .u64 ((2*id:Nat):Int) 1=((2*id+1:Nat):Int):=addIn (b:=1) (by omega);rw[if_pos rfl,ha,ggk (by omega)];have:=g35 (n:=2*id+1) (by omega);simp only[oZ3];rw[if_pos (g2h (by omega))];rfl
 | false=>
   rw[if_neg (by simp),ggk (by omega)];have:=g35 (n:=2*id) (by omega);simp only[oZ3];rw[if_pos (g2h (by omega))];rfl
theorem ghv{id:Nat}{c:Bool}{p:List UInt8}(hid:id≤4611686018427387903)(h:p.length≤1152921504606846900) :g61 ((id:Int),c,p)=some (g94 id c p):=by
 rw[g61];have hm:wrp .u64 (mulI .i64 2 (id:Int))=((2*id:Nat):Int):=by
   rw[gtm (by omega) (by omega)];have:(2:Int)*(id:Int)=((2*id:Nat):Int):=by omega
   rw[this];exact wrpn (by omega)
 simp only[oZ4,oZ3];rw[hm,ga0 (by omega)];have hl:=gk4 (p:=p) (by omega);cases c with
 | true=>
   have ha:addI .u64 ((2*id:Nat):Int) 1=((2*id+1:Nat):Int):=addIn (b:=1) (by omega);rw[if_pos rfl,ha,ga8 (by omega)];have:=g35 (n:=2*id+1) (by omega);simp only[oZ3];rw[if_pos (g2h (by omega))];rfl
 | false=>
   rw[if_neg (by simp),ga8 (by omega)];have:=g35 (n:=2*id) (by omega);simp only[oZ3];rw[if_pos (g2h (by omega))];rfl
end
section
open Go Go.Proofs.YthnmepafpikaiaaGreat.Shv
set_option maxRecDepth 100000
inductive OkV:SValue→Prop
 | mk (v : SValue) (hs : v.Str.length ≤ reachBytes) (h1 : v.Keys.length ≤ reachBytes) (h2 : v.Items.length ≤ reachBytes) (h3 : v.Rest.length ≤ reachBytes)
     (hk:∀x,x∈v.Keys→OkV x) (hi:∀x,x∈v.Items→OkV x) (hr:∀x,x∈v.Rest→x.Data.length≤reachBytes)
     (n1: -9223372036854775808≤v.Kind∧v.Kind≤9223372036854775807) (n2: -9223372036854775808≤v.Int_∧v.Int_≤9223372036854775807) (n3: -9223372036854775808≤v.ID∧v.ID≤9223372036854775807)
     (n4:∀x,x∈v.Rest→-9223372036854775808≤x.ID∧x.ID≤9223372036854775807):OkV v
theorem g11{n:Nat}(h:n≤reachBytes) :n < 9223372036854775807:=Nat.lt_of_le_of_lt h (by decide)
theorem scan {γ : Type} (L : Nat → Option γ) (n : Nat) (p : Nat → Bool) (bad good : γ) (hstep : ∀ i, i < n → L i = if p i = true then L (i + 1) else some bad) (hend : L n = some good) :
   (L 0=some good∧∀j,j < n→p j=true)∨(L 0=some bad∧∃j,j < n∧p j=false):=by
 have key:∀k i,i+k=n→(L i=some good∧∀j,i≤j→j < n→p j=true)∨(L i=some bad∧∃j,j < n∧p j=false):=by
   intro k
   induction k with
   | zero => intro i hi; have : i = n := by omega
             subst this;exact .inl ⟨hend,fun j h1 h2=>by omega⟩
   | succ k ih=>
     intro i hi;rw[hstep i (by omega)];cases hp:p i with
     | true=>
       rw[if_pos rfl];rcases ih (i+1) (by omega)with⟨h1,h2⟩ | h
       · refine .inl ⟨h1,fun j hj1 hj2=>?_⟩;rcases Nat.lt_or_ge i j with h | h
         · exact h2 j h hj2
         · have:j=i:=by omega
           subst this;exact hp
       · exact .inr h
     | false=>exact .inr ⟨by rw[if_neg (by simp)],i,by omega,hp⟩
 rcases key n 0 (by omega)with⟨h1,h2⟩ | h
 · exact .inl ⟨h1,fun j hj=>h2 j (Nat.zero_le _) hj⟩
 · exact .inr h
theorem g16{α:Type}{l:List α}{i:Nat}(h:i < l.length)(d:α) :l.getD i d=l[i]:=by
 rw[List.getD_eq_getElem?_getD,List.getElem?_eq_getElem h];rfl
theorem g51 {α : Type} {a b : List α} {p : Nat → Bool} (hl : a.length = b.length) (hp : ∀ (i : Nat) (h1 : i < a.length) (h2 : i < b.length), p i = true ↔ a[i] = b[i]) :
   (∀j,j < a.length→p j=true)↔a=b:=by
 constructor
 · intro h;exact List.ext_getElem hl fun i h1 h2=>(hp i h1 h2).1 (h i h1)
 · rintro rfl j hj
   exact(hp j hj hj).2 rfl
def Says{α:Type}(o:Option Bool)(a b:α) :Prop:=∃r,o=some r∧(r=true↔a=b)
theorem Says.of_scan {α : Type} {a b : List α} {p : Nat → Bool} (hl : a.length = b.length) (hp : ∀ (i : Nat) (h1 : i < a.length) (h2 : i < b.length), p i = true ↔ a[i] = b[i]) {o : Option Bool}
   (h:(o=some true∧∀j,j < a.length→p j=true)∨(o=some false∧∃j,j < a.length∧p j=false)):Says o a b:=by
 rcases h with⟨h1,h2⟩ | ⟨h1,j,h2,h3⟩
 · exact⟨true,h1,by simp[(g51 hl hp).1 h2]⟩
 · refine⟨false,h1,?_⟩;constructor
   · intro h;cases h
   · intro h;have:=(g51 hl hp).2 h j h2;rw[h3]at this;cases this
theorem gu8{a b:SRaw} :(eqI a.ID b.ID && (eqS a.Data b.Data && true))=true↔a=b:=by
 cases a;cases b;simp[eqI,eqS]
theorem gu9{a b:SSymbol} :(eqI a.ID b.ID && (eqS a.Name b.Name && true))=true↔a=b:=by
 cases a;cases b;simp[eqI,eqS]
theorem gyp{α:Type}{a b:List α}(h:¬a.length=b.length) :a≠b:=fun e=>h (congrArg List.length e)
theorem g9p{α:Type}{a b:List α}(h:¬a.length=b.length) :Says (some false) a b:=⟨false,rfl,by simp[gyp h]⟩
theorem gua{a b:List SRaw}(ha:a.length≤reachBytes) :Says (g2s (a,b)) a b:=by
 rw[g2s];by_cases hl:a.length=b.length
 · rw[if_neg (by simp;omega)];have hr:=g11 ha;have:=scan (fun i=>g12 (a,b,(a.length:Int),(i:Int))) a.length (fun i=>eqI (a.getD i dSRaw).ID (b.getD i dSRaw).ID && (eqS (a.getD i dSRaw).Data (b.getD i dSRaw).Data && true)) (.inl false) (.inr ())
     (fun i hi=>by
       rw[g12,if_pos (by simp;omega),if_pos (g6 hi)];simp only[oZ4,oZ3,gb];rw[if_pos (g6 (by omega)),gg (by omega)];generalize (eqI (a.getD i dSRaw).ID (b.getD i dSRaw).ID && (eqS (a.getD i dSRaw).Data (b.getD i dSRaw).Data && true))=c
       cases c <;> rfl)
     (by rw[g12,if_neg (by simp)])
   have h0:g12 (a,b,(a.length:Int),((0:Nat):Int))=g12 (a,b,(a.length:Int),0):=rfl;simp only[h0]at this;refine Says.of_scan (p:=fun i=>eqI (a.getD i dSRaw).ID (b.getD i dSRaw).ID && (eqS (a.getD i dSRaw).Data (b.getD i dSRaw).Data && true)) hl (fun i h1 h2=>by simp only[g16 h1,g16 h2];exact gu8) ?_;rcases this with⟨h1,h2⟩ | ⟨h1,h2⟩
   · exact .inl ⟨by rw[h1];rfl,h2⟩
   · exact .inr ⟨by rw[h1];rfl,h2⟩
 · rw[if_pos (by simp;omega)];exact g9p hl
theorem gyq{a b:List SSymbol}(ha:a.length≤reachBytes) :Says (g2r (a,b)) a b:=by
 rw[g2r];by_cases hl:a.length=b.length
 · rw[if_neg (by simp;omega)];have hr:=g11 ha;have:=scan (fun i=>gt (a,b,(a.length:Int),(i:Int))) a.length (fun i=>eqI (a.getD i dSSymbol).ID (b.getD i dSSymbol).ID && (eqS (a.getD i dSSymbol).Name (b.getD i dSSymbol).Name && true)) (.inl false) (.inr ())
     (fun i hi=>by
       rw[gt,if_pos (by simp;omega),if_pos (g6 hi)];simp only[oZ4,oZ3,gb];rw[if_pos (g6 (by omega)),gg (by omega)];generalize (eqI (a.getD i dSSymbol).ID (b.getD i dSSymbol).ID && (eqS (a.getD i dSSymbol).Name (b.getD i dSSymbol).Name && true))=c
       cases c <;> rfl)
     (by rw[gt,if_neg (by simp)])
   have h0:gt (a,b,(a.length:Int),((0:Nat):Int))=gt (a,b,(a.length:Int),0):=rfl;simp only[h0]at this;refine Says.of_scan (p:=fun i=>eqI (a.getD i dSSymbol).ID (b.getD i dSSymbol).ID && (eqS (a.getD i dSSymbol).Name (b.getD i dSSymbol).Name && true)) hl (fun i h1 h2=>by simp only[g16 h1,g16 h2];exact gu9) ?_;rcases this with⟨h1,h2⟩ | ⟨h1,h2⟩
   · exact .inl ⟨by rw[h1];rfl,h2⟩
   · exact .inr ⟨by rw[h1];rfl,h2⟩
 · rw[if_pos (by simp;omega)];exact g9p hl
theorem gck(v:SValue) :(⟨v.Kind,v.Bool_,v.Int_,v.Str,v.ID,v.Keys,v.Items,v.Rest⟩:SValue)=v:=by cases v;rfl
theorem gcl{a b:SValue} :a=b↔a.Kind=b.Kind∧a.Bool_=b.Bool_∧a.Int_=b.Int_∧a.Str=b.Str∧a.ID=b.ID∧a.Rest=b.Rest∧a.Keys=b.Keys∧a.Items=b.Items:=by
 constructor
 · rintro rfl;exact⟨rfl,rfl,rfl,rfl,rfl,rfl,rfl,rfl⟩
 · cases a;cases b
   rintro ⟨h1,h2,h3,h4,h5,h6,h7,h8⟩
   simp only at*;subst h1;subst h2;subst h3;subst h4;subst h5;subst h6;subst h7;subst h8;rfl
section
variable {f:SValue × SValue→Option Bool}
theorem ges {a b : List SValue} (hl : a.length = b.length) (ih : ∀ x, x ∈ a → ∀ y, Says (f (x, y)) x y) (L : Nat → Option (Bool ⊕ Unit))
   (hstep:∀i,i < a.length→L i=(f (SValue.eta (a.getD i dSValue),SValue.eta (b.getD i dSValue)) >>=fun r=>if(!r)=true then some (.inl false)else L (i+1)))
   (hend:L a.length=some (.inr ())):Says (L 0 >>=fun o=>match o with | .inl x=>some x | .inr _=>some true) a b:=by
 have hget:∀(i:Nat) (h1:i < a.length) (h2:i < b.length),Says (f (SValue.eta (a.getD i dSValue),SValue.eta (b.getD i dSValue))) a[i] b[i]:=by
   intro i h1 h2;rw[g16 h1,g16 h2,SValue.gq,SValue.gq];exact ih _ (List.getElem_mem h1) _
 have:=scan L a.length (fun i=>(f (SValue.eta (a.getD i dSValue),SValue.eta (b.getD i dSValue))).getD false) (.inl false) (.inr ())
   (fun i hi=>by
     obtain⟨r,h1,h2⟩:=hget i hi (by omega);rw[hstep i hi,h1]
     cases r <;> rfl) hend
 refine Says.of_scan hl (fun i h1 h2=>?_) ?_ (p:=fun i=>(f (SValue.eta (a.getD i dSValue),SValue.eta (b.getD i dSValue))).getD false)
 · obtain⟨r,h3,h4⟩:=hget i h1 h2;rw[h3];exact h4
 · rcases this with⟨h1,h2⟩ | ⟨h1,h2⟩
   · exact .inl ⟨by rw[h1];rfl,h2⟩
   · exact .inr ⟨by rw[h1];rfl,h2⟩
end
theorem gqa{a b:List SValue}(ha:a.length≤reachBytes)(ih:∀x,x∈a→∀y,Says (g5w (x,y)) x y) :Says (gp (a,b)) a b:=by
 rw[gp];by_cases hl:a.length=b.length
 · rw[if_neg (by simp;omega)];have hr:=g11 ha;exact ges hl ih (fun i=>gk (b,a,(a.length:Int),(i:Int)))
     (fun i hi=>by
       rw[gk,if_pos (by simp;omega),if_pos (g6 hi),if_pos (g6 (by omega)),gg (by omega)]
       rfl)
     (by rw[gk,if_neg (by simp)])
 · rw[if_pos (by simp;omega)];exact g9p hl
theorem gqb{a b:List SValue}(ha:a.length≤reachBytes)(ih:∀x,x∈a→∀y,Says (g3s (x,y)) x y) :Says (gx (a,b)) a b:=by
 rw[gx];by_cases hl:a.length=b.length
 · rw[if_neg (by simp;omega)];have hr:=g11 ha;exact ges hl ih (fun i=>gm (b,a,(a.length:Int),(i:Int)))
     (fun i hi=>by
       rw[gm,if_pos (by simp;omega),if_pos (g6 hi),if_pos (g6 (by omega)),gg (by omega)]
       rfl)
     (by rw[gm,if_neg (by simp)])
 · rw[if_pos (by simp;omega)];exact g9p hl
theorem gqc{a b:List SValue}(ha:a.length≤reachBytes)(ih:∀x,x∈a→∀y,Says (g1a (x,y)) x y) :Says (g4k (a,b)) a b:=by
 rw[g4k];by_cases hl:a.length=b.length
 · rw[if_neg (by simp;omega)];have hr:=g11 ha;exact ges hl ih (fun i=>g34 (a,b,(i:Int)))
     (fun i hi=>by
       rw[g34,if_pos (by simp;omega),if_pos (g6 hi),if_pos (g6 (by omega)),gg (by omega)]
       rfl)
     (by rw[g34,if_neg (by simp)])
 · rw[if_pos (by simp;omega)];exact g9p hl
theorem three {a b : SValue} {h5 : Bool} (e5 : h5 = true ↔ a.Kind = b.Kind ∧ a.Bool_ = b.Bool_ ∧ a.Int_ = b.Int_ ∧ a.Str = b.Str ∧ a.ID = b.ID) {x y z : Option Bool} (hx : Says x a.Rest b.Rest) (hy : Says y a.Keys b.Keys) (hz : Says z a.Items b.Items) :
   Says (some h5 >>=fun t37=>(if t37=true then x else some false) >>=fun r=>some (bif t37 then r else false) >>=fun t44=>(if t44=true then y else some false) >>=fun r_1=>some (bif t44 then r_1 else false) >>=fun t51=>(if t51=true then z else some false) >>=fun r_2=>some (bif t51 then r_2 else false)) a b:=by
 obtain⟨rx,hx1,hx2⟩:=hx;obtain⟨ry,hy1,hy2⟩:=hy;obtain⟨rz,hz1,hz2⟩:=hz;subst hx1;subst hy1;subst hz1;refine⟨h5 && rx && ry && rz,?_,?_⟩
 · cases h5 <;> cases rx <;> cases ry <;> rfl
 · rw[gcl];simp only[Bool.and_eq_true];rw[e5,hx2,hy2,hz2];constructor
   · rintro ⟨⟨⟨⟨h1,h2,h3,h4,h5⟩,h6⟩,h7⟩,h8⟩;exact⟨h1,h2,h3,h4,h5,h6,h7,h8⟩
   · rintro ⟨h1,h2,h3,h4,h5,h6,h7,h8⟩;exact⟨⟨⟨⟨h1,h2,h3,h4,h5⟩,h6⟩,h7⟩,h8⟩
theorem five{a b:SValue} :(bif bif bif bif decide (a.Kind=b.Kind)then eqB a.Bool_ b.Bool_ else false then decide (a.Int_=b.Int_)else false then decide (a.Str=b.Str)else false then decide (a.ID=b.ID)else false)=true↔a.Kind=b.Kind∧a.Bool_=b.Bool_∧a.Int_=b.Int_∧a.Str=b.Str∧a.ID=b.ID:=by
 simp only[Bool.cond_eq_ite,eqB];by_cases h1:a.Kind=b.Kind <;> by_cases h2:a.Bool_=b.Bool_ <;> by_cases h3:a.Int_=b.Int_ <;> by_cases h4:a.Str=b.Str <;> simp[h1,h2,h3,h4]
theorem gs9{a:SValue}(h:OkV a) :∀b,Says (g5w (a,b)) a b:=by
 induction h with
 | mk a hs h1 h2 h3 hk hi hr n1 n2 n3 n4 ihk ihi=>
   intro b;rw[g5w];exact three five (gua h3) (gqa h1 ihk) (gqa h2 ihi)
theorem geu{a:SValue}(h:OkV a) :∀b,Says (g3s (a,b)) a b:=by
 induction h with
 | mk a hs h1 h2 h3 hk hi hr n1 n2 n3 n4 ihk ihi=>
   intro b;rw[g3s];exact three five (gua h3) (gqb h1 ihk) (gqb h2 ihi)
theorem gl4{a:SValue}(h:OkV a) :∀b,Says (g1a (a,b)) a b:=by
 induction h with
 | mk a hs h1 h2 h3 hk hi hr n1 n2 n3 n4 ihk ihi=>
   intro b;rw[g1a];by_cases h5:a.Kind=b.Kind∧a.Bool_=b.Bool_∧a.Int_=b.Int_∧a.Str=b.Str∧a.ID=b.ID∧a.Rest.length=b.Rest.length
   · obtain⟨e1,e2,e3,e4,e5,e6⟩:=h5;rw[if_neg (by simp[e1,e2,e3,e4,e5,e6,eqB])];have hr3:=g11 h3;have hsc:=scan (fun i=>g21 ((i:Int),a,b)) a.Rest.length (fun i=>eqI (a.Rest.getD i dSRaw).ID (b.Rest.getD i dSRaw).ID && (eqS (a.Rest.getD i dSRaw).Data (b.Rest.getD i dSRaw).Data && true)) (.inl false) (.inr (a,b))
       (fun i hi'=>by
         rw[g21,if_pos (by simp;omega),if_pos (g6 hi')];simp only[oZ4,oZ3,gb,SValue.gq];rw[if_pos (g6 (by omega)),gg (by omega)];generalize (eqI (a.Rest.getD i dSRaw).ID (b.Rest.getD i dSRaw).ID && (eqS (a.Rest.getD i dSRaw).Data (b.Rest.getD i dSRaw).Data && true))=c
         cases c <;> rfl)
       (by rw[g21,if_neg (by simp),SValue.gq,SValue.gq])
     have h0:g21 (((0:Nat):Int),a,b)=g21 (0,a,b):=rfl;simp only[h0]at hsc;rw[gck,gck];have hp:∀(i:Nat) (h1:i < a.Rest.length) (h2:i < b.Rest.length),(eqI (a.Rest.getD i dSRaw).ID (b.Rest.getD i dSRaw).ID && (eqS (a.Rest.getD i dSRaw).Data (b.Rest.getD i dSRaw).Data && true))=true↔a.Rest[i]=b.Rest[i]:=fun i h1 h2=>by
       rw[g16 h1,g16 h2];exact gu8
     rcases hsc with⟨g1,g2⟩ | ⟨g1,j,g2,g3⟩
     · have hrest:=(g51 e6 hp).1 g2;rw[g1];obtain⟨rk,k1,k2⟩:=gqc (a:=a.Keys) (b:=b.Keys) h1 ihk;obtain⟨ri,i1,i2⟩:=gqc (a:=a.Items) (b:=b.Items) h2 ihi;simp only[oZ4,oZ3];rw[k1,i1];refine⟨rk && ri,by cases rk <;> rfl,?_⟩;rw[gcl,Bool.and_eq_true,k2,i2];constructor
       · rintro ⟨q1,q2⟩;exact⟨e1,e2,e3,e4,e5,hrest,q1,q2⟩
       · rintro ⟨_,_,_,_,_,_,q1,q2⟩;exact⟨q1,q2⟩
     · rw[g1];refine⟨false,rfl,?_⟩;constructor
       · intro h;cases h
       · intro h;have:=(g51 e6 hp).2 (gcl.1 h).2.2.2.2.2.1 j g2;rw[g3]at this;cases this
   · rw[if_pos]
     · refine⟨false,rfl,?_⟩;constructor
       · intro h;cases h
       · intro h
         exfalso;apply h5
         obtain⟨q1,q2,q3,q4,q5,q6,_⟩:=gcl.1 h;exact⟨q1,q2,q3,q4,q5,by rw[q6]⟩
     · simp only[Bool.cond_eq_ite,eqB];by_cases q1:a.Kind=b.Kind <;> by_cases q2:a.Bool_=b.Bool_ <;> by_cases q3:a.Int_=b.Int_ <;> by_cases q4:a.Str=b.Str <;> by_cases q5:a.ID=b.ID <;> simp[q1,q2,q3,q4,q5]
       intro q6;exact h5 ⟨q1,q2,q3,q4,q5,by omega⟩
end
section
open Go Go.Proofs.YthnmepafpikaiaaGreat.Shv
set_option maxRecDepth 100000
def gb5(c:Int) :Bool:=decide (c=95∨(97≤c∧c≤122)∨(65≤c∧c≤90))
def ggl(c:Int) :Bool:=decide (48≤c∧c≤57)
theorem glx(c:Int) :g66 c=some (gb5 c):=by
 rw[g66];unfold gb5
 congr 1
 by_cases h1:c=95 <;> by_cases h2:97≤c <;> by_cases h3:c≤122 <;> by_cases h4:65≤c <;> by_cases h5:c≤90 <;> simp[h1,h2,h3,h4,h5] <;> omega
theorem gly(c:Int) :g5p c=some (gb5 c):=by
 rw[g5p];unfold gb5
 congr 1
 by_cases h1:c=95 <;> by_cases h2:97≤c <;> by_cases h3:c≤122 <;> by_cases h4:65≤c <;> by_cases h5:c≤90 <;> simp[h1,h2,h3,h4,h5] <;> omega
theorem gvl(c:Int) :g84 c=some (ggl c):=by
 rw[g84];unfold ggl;by_cases h2:48≤c <;> by_cases h3:c≤57 <;> simp[h2,h3]
theorem gvm(c:Int) :g7s c=some (ggl c):=by
 rw[g7s];unfold ggl;by_cases h2:48≤c <;> by_cases h3:c≤57 <;> simp[h2,h3]
theorem goj {γ : Type} (A B I : Bool) (X Y : Option γ) (hI : I = true) :
   (some A >>=fun r_1=>some (!r_1) >>=fun t26=>if(I || (!t26))=true then(if t26=true then some B else some false) >>=fun r_2=>if(bif t26 then(!r_2)else false)=true then X else Y else none)=if(A || B)=true then Y else X:=by
 subst hI;cases A <;> cases B <;> rfl
theorem gqd(s:List UInt8) :∃r,g2n s=some r∧g41 s=some r:=by
 rw[g2n,g41];simp only[oZ4,oZ3];by_cases hb:s=[]∨24 < s.length
 · have ht:(bif decide (s=[])then true else decide (24 < (s.length:Int)))=true:=by
     rcases hb with h | h
     · simp[h]
     · simp;omega
   rw[ht];exact⟨false,by simp,by simp⟩
 · have hne:s≠[]:=fun h=>hb (.inl h)
   have hlen:s.length≤24:=by omega
   have ht:(bif decide (s=[])then true else decide (24 < (s.length:Int)))=false:=by
     simp[hne];omega
   have hpos:0 < s.length:=List.length_pos_iff.2 hne;have hin:inR 0 s.length=true:=g6 (k:=0) hpos;simp only[ht,hin,Bool.true_or,if_true,Bool.not_false,oZ3,glx,gly,cond_false];cases hl:gb5 (g4n s 0)with
   | false=>exact⟨false,rfl,rfl⟩
   | true=>
     rw[if_neg (by simp),if_neg (by simp)]
     let p:Nat→Bool:=fun i=>gb5 (g4n s i) || ggl (g4n s i)
     have s1:=scan (fun i=>g33 (s,(s.length:Int),(i:Int))) s.length p (.inl false) (.inr ())
       (fun i hi=>by
         rw[g33,if_pos (by simp;omega),if_pos (g6 hi),glx,gvl,gg (by omega)]
         exact goj _ _ _ _ _ (g6 hi))
       (by rw[g33,if_neg (by simp)])
     have s2:=scan (fun i=>g2o (s,(i:Int))) s.length p (.inl false) (.inr ())
       (fun i hi=>by
         rw[g2o,if_pos (by simp;omega),if_pos (g6 hi),gly,gvm,gg (by omega)]
         exact goj _ _ _ _ _ (g6 hi))
       (by rw[g2o,if_neg (by simp)])
     have e1:g33 (s,(s.length:Int),((0:Nat):Int))=g33 (s,(s.length:Int),0):=rfl;have e2:g2o (s,((0:Nat):Int))=g2o (s,0):=rfl;simp only[e1,e2]at s1 s2;rcases s1 with⟨a1,a2⟩ | ⟨a1,j,a2,a3⟩ <;> rcases s2 with⟨b1,b2⟩ | ⟨b1,k,b2,b3⟩
     · exact⟨true,by rw[a1];rfl,by rw[b1];rfl⟩
     · have:=a2 k b2;rw[b3]at this;cases this
     · have:=b2 j a2;rw[a3]at this;cases this
     · exact⟨false,by rw[a1];rfl,by rw[b1];rfl⟩
def nm(s:List UInt8) :Bool:=(g2n s).getD false
theorem lexNm(s:List UInt8) :g2n s=some (nm s):=by
 obtain⟨r,h1,_⟩:=gqd s;unfold nm;rw[h1];rfl
theorem refNm(s:List UInt8) :g41 s=some (nm s):=by
 obtain⟨r,h1,h2⟩:=gqd s;unfold nm;rw[h1,h2];rfl
theorem nm_ne{s:List UInt8}(h:nm s=true) :s≠[]:=by
 rintro rfl
 unfold nm at h;rw[g2n]at h;simp at h
def idp(l:List Int)(names:List (List UInt8))(i:Nat) :Bool:=
 decide (1≤l.getD i 0) && decide (l.getD i 0≤1000) && (decide (i=0) || decide (l.getD (i - 1) 0 < l.getD i 0)) && nm (names.getD i []) && !((names.take i).contains (names.getD i []))
def setOf(l:List (List UInt8)) :List (List UInt8):=l.foldl addS []
theorem gvn(ks:List (List UInt8))(a s:List UInt8) :hasS (addS ks a) s=(hasS ks s || decide (a=s)):=by
 unfold addS;split
 · rename_i h;by_cases e:a=s
   · subst e;simp[h]
   · simp[e]
 · simp[hasS,List.any_append]
theorem gk5(l:List (List UInt8))(s:List UInt8) :hasS (setOf l) s=l.contains s:=by
 have key:∀(l:List (List UInt8)) (ks:List (List UInt8)),hasS (l.foldl addS ks) s=(hasS ks s || l.contains s):=by
   intro l
   induction l with
   | nil=>intro ks;simp
   | cons a r ih=>
     intro ks;rw[List.foldl_cons,ih,gvn,Bool.or_assoc]
     congr 1
     rw[List.contains_cons]
     congr 1
     by_cases e:a=s
     · subst e;simp
     · have:¬s=a:=fun h=>e h.symm
       simp[e,this]
 have:=key l []
 simpa[setOf,hasS]using this
theorem gk6{l:List (List UInt8)}{i:Nat}(h:i < l.length) :addS (setOf (l.take i)) (l.getD i [])=setOf (l.take (i+1)):=by
 unfold setOf;rw[List.take_add_one,List.foldl_append,List.getElem?_eq_getElem h,g16 h];rfl
theorem gwj {γ : Type} (A Z I1 C I H N : Bool) (X Y : Option γ) (hI : I = true) (hI1 : Z = true → I1 = true) :
   (if(I1 || (!((!A) && Z)))=true then
     some (bif A then true else bif Z then C else false) >>=fun t34=>
     if(I || (!(!t34)))=true then
       some (bif t34 then true else H) >>=fun t42=>
       if(I || (!(!t42)))=true then
         (if(!t42)=true then some N else some false) >>=fun r=>
         if(bif t42 then true else(!r))=true then X else(if I=true then Y else none)
       else none
     else none
   else none)=if(!A && (!Z || !C) && N && !H)=true then Y else X:=by
 subst hI;cases Z with
 | true=>have:=hI1 rfl;subst this;cases A <;> cases C <;> cases H <;> cases N <;> rfl
 | false=>cases A <;> cases I1 <;> cases C <;> cases H <;> cases N <;> rfl
theorem gub{l:List Int}{names:List (List UInt8)}(hl:l.length≤reachBytes)(hn:names.length=l.length) :∃r,g8u (l,names)=some r∧(r=true↔(∀i,i < l.length→idp l names i=true)∧l.length≤16):=by
 rw[g8u];have hr:=g11 hl;have hsc:=scan (fun i=>g3u (l,names,l,(l.length:Int),(i:Int),setOf (names.take i))) l.length (idp l names) (.inl false) (.inr l)
   (fun i hi=>by
     have hin:i < names.length:=by omega
     rw[g3u,if_pos (by simp;omega),if_pos (g6 hi)];simp only[gb];rw[lexNm,gg (by omega),gk6 hin,gk5];have hsub:0 < i→subI .i64 (i:Int) 1=((i - 1:Nat):Int):=by
       intro h;rw[gji (by omega) (by omega)];omega
     refine(gwj (bif decide (l.getD i 0 < 1)then true else decide (1000 < l.getD i 0)) (decide ((0:Int) < (i:Int))) (inR (subI .i64 (i:Int) 1) l.length) (decide (l.getD i 0≤l.getD (subI .i64 (i:Int) 1).toNat 0)) (inR (i:Int) names.length) ((names.take i).contains (names.getD i [])) (nm (names.getD i [])) _ _ (g6 hin) (fun hz=>?_)).trans ?_
     · have hpos:0 < i:=by simp at hz;omega
       rw[hsub hpos];exact g6 (by omega)
     · have:(!(bif decide (l.getD i 0 < 1)then true else decide (1000 < l.getD i 0)) && (!(decide ((0:Int) < (i:Int))) || !(decide (l.getD i 0≤l.getD (subI .i64 (i:Int) 1).toNat 0))) && nm (names.getD i []) && !((names.take i).contains (names.getD i [])))=idp l names i:=by
         unfold idp;generalize nm (names.getD i [])=N;generalize (names.take i).contains (names.getD i [])=H;generalize l.getD i 0=x;by_cases h0:i=0
         · subst h0;cases N <;> cases H <;> by_cases h1:1≤x <;> by_cases h2:x≤1000 <;> simp[h1,h2] <;> omega
         · have hz:decide ((0:Int) < (i:Int))=true:=by simp;omega
           rw[hz,hsub (by omega),gb];generalize l.getD (i - 1) 0=y;cases N <;> cases H <;> by_cases h1:1≤x <;> by_cases h2:x≤1000 <;> by_cases h3:y < x <;> simp[h0,h1,h2,h3] <;> omega
       rw[this])
   (by rw[g3u,if_neg (by simp)])
 have e0:g3u (l,names,l,(l.length:Int),((0:Nat):Int),setOf (names.take 0))=g3u (l,names,l,(l.length:Int),0,[]):=rfl;simp only[e0]at hsc;rcases hsc with⟨h1,h2⟩ | ⟨h1,j,h2,h3⟩
 · rw[h1];refine⟨decide ((l.length:Int)≤16),rfl,?_⟩;simp only[decide_eq_true_eq];constructor
   · intro h;exact⟨h2,by omega⟩
   · intro h;omega
 · rw[h1];refine⟨false,rfl,?_⟩;constructor
   · intro h;cases h
   · rintro ⟨h,_⟩
     have:=h j h2;rw[h3]at this;cases this
end
section
open Go Go.Proofs.YthnmepafpikaiaaGreat.Shv
set_option maxRecDepth 100000
theorem room8{k n:Nat}(hk:k≤16)(h:n*24≤reachBytes) :room k n=true:=by
 unfold room g39 g19;unfold reachBytes at h;simp only[Bool.and_eq_true,decide_eq_true_eq];have:(2*n+192)*k≤(2*n+192)*16:=Nat.mul_le_mul_left _ hk;omega
theorem g8d{α:Type}(l:List α)(i:Nat)(d:α)(h:i < l.length) :l.take i++[l.getD i d]=l.take (i+1):=by
 rw[List.take_add_one,List.getElem?_eq_getElem h,g16 h];rfl
theorem g1r{α β:Type}(f:α→β)(l:List α)(i:Nat)(d:α)(e:β)(h:i < l.length) :(l.map f).getD i e=f (l.getD i d):=by
 rw[g16 h,g16 (by simpa using h)];simp
theorem g4a{l:List (List UInt8)}{i:Nat}{s:List UInt8}(hi:i≤l.length) :(l.take i).contains s=true↔∃k,k < i∧l.getD k []=s:=by
 rw[List.contains_iff_mem];constructor
 · intro h;obtain⟨k,hk,he⟩:=List.getElem_of_mem h;rw[List.length_take]at hk;refine⟨k,by omega,?_⟩;rw[g16 (by omega),←he,List.getElem_take]
 · rintro ⟨k,hk,he⟩
   rw[←he,g16 (by omega)];have:(l.take i)[k]'(by rw[List.length_take];omega)=l[k]:=List.getElem_take;rw[←this];exact List.getElem_mem _
def bef(l:List Int)(i:Nat) :Int:=if i=0 then 0 else l.getD (i - 1) 0
theorem gqe {l : List Int} {names : List (List UInt8)} {i : Nat} (hi : i < l.length) (hn : names.length = l.length) :
   idp l names i=(decide (bef l i < l.getD i 0) && decide (1≤l.getD i 0) && decide (l.getD i 0≤1000) && nm (names.getD i []) && !((names.take i).contains (names.getD i []))):=by
 unfold idp bef;generalize l.getD i 0=x;generalize l.getD (i - 1) 0=y;generalize nm (names.getD i [])=a;generalize (names.take i).contains (names.getD i [])=b;by_cases h0:i=0
 · subst h0;by_cases h1:1≤x
   · have:decide ((0:Int) < x)=true:=by simp;omega
     simp[h1,this]
   · simp[h1]
 · simp only[h0,if_false,decide_false,Bool.false_or];by_cases h1:1≤x <;> by_cases h2:x≤1000 <;> by_cases h3:y < x <;> simp[h1,h2,h3]
theorem gk7(l:List SSymbol)(hl:l.length*24≤reachBytes) :∀(k i:Nat),i+k=l.length→g32 (l,l,(l.length:Int),(i:Int),(l.map (·.ID)).take i,(l.map (·.Name)).take i)=some (l,l.map (·.ID),l.map (·.Name))
 | 0,i,h=>by
   have:i=l.length:=by omega
   subst this;rw[g32,if_neg (by simp)];rw[List.take_of_length_le (by simp),List.take_of_length_le (by simp)]
 | k+1,i,h=>by
   have hr:l.length < 9223372036854775807:=by unfold reachBytes at hl;omega
   have hi:i < l.length:=by omega
   rw[g32,if_pos (by simp;omega),if_pos (g6 hi)];simp only[oZ4,oZ3,gb];rw[←g1r (·.ID) l i dSSymbol 0 hi,←g1r (·.Name) l i dSSymbol [] hi,g8d _ _ _ (by simpa using hi),g8d _ _ _ (by simpa using hi)];rw[if_pos (room8 (by omega) (by simp;omega)),if_pos (room8 (by omega) (by simp;omega)),gg (by omega)];exact gk7 l hl k (i+1) (by omega)
theorem gqf{l:List SSymbol}(hl:l.length*24≤reachBytes) :∃r,g53 l=some r∧(r=true↔0 < l.length∧(∀i,i < l.length→idp (l.map (·.ID)) (l.map (·.Name)) i=true)∧l.length≤16):=by
 have h:=gk7 l hl l.length 0 (by omega);have h':g32 (l,l,(l.length:Int),0,[],[])=some (l,l.map (·.ID),l.map (·.Name)):=h;rw[g53,h'];simp only[oZ4,oZ3];obtain⟨r,h1,h2⟩:=gub (l:=l.map (·.ID)) (names:=l.map (·.Name)) (by simp;unfold reachBytes at*;omega) (by simp);rw[List.length_map]at h2;rw[h1]
 refine⟨decide (0 < (l.length:Int)) && r,?_,?_⟩
 · cases decide (0 < (l.length:Int)) <;> rfl
 · rw[Bool.and_eq_true,h2,decide_eq_true_eq];constructor
   · rintro ⟨a,b⟩;exact⟨by omega,b⟩
   · rintro ⟨a,b⟩;exact⟨by omega,b⟩
theorem refId(a b:Int) :g7m (a,b)=some (decide (a < b) && decide (1≤b) && decide (b≤1000)):=by
 rw[g7m];cases decide (a < b) <;> cases decide (1≤b) <;> rfl
theorem gsa (l : List SSymbol) (hl : l.length ≤ reachBytes) (i : Nat) (hi : i < l.length) :
   g1p (l,(i:Int),0)=some (if((l.map (·.Name)).take i).contains ((l.map (·.Name)).getD i [])=true then .inl false else .inr (l,(i:Int))):=by
 have hr:=g11 hl;have hsc:=scan (fun k=>g1p (l,(i:Int),(k:Int))) i (fun k=>!(decide ((l.getD k dSSymbol).Name=(l.getD i dSSymbol).Name))) (.inl false) (.inr (l,(i:Int)))
   (fun k hk=>by
     rw[g1p,if_pos (by simp;omega),if_pos (g6 (by omega)),if_pos (g6 hi),gg (by omega)];simp only[gb]
     cases decide ((l.getD k dSSymbol).Name=(l.getD i dSSymbol).Name) <;> rfl)
   (by rw[g1p,if_neg (by simp)])
 have e0:g1p (l,(i:Int),((0:Nat):Int))=g1p (l,(i:Int),0):=rfl;simp only[e0]at hsc;rw[g1r (·.Name) l i dSSymbol [] hi];rcases hsc with⟨h1,h2⟩ | ⟨h1,j,h2,h3⟩
 · rw[h1,if_neg];rw[g4a (by simp;omega)]
   rintro ⟨k,hk,he⟩
   rw[g1r (·.Name) l k dSSymbol [] (by omega)]at he;have:=h2 k hk;rw[he]at this;simp at this
 · rw[h1,if_pos];rw[g4a (by simp;omega)];refine⟨j,h2,?_⟩;rw[g1r (·.Name) l j dSSymbol [] (by omega)]
   simpa using h3
theorem gwk{l:List SSymbol}(hl:l.length≤reachBytes) :∃r,g5a l=some r∧(r=true↔0 < l.length∧(∀i,i < l.length→idp (l.map (·.ID)) (l.map (·.Name)) i=true)∧l.length≤16):=by
 have hr:=g11 hl;have hsc:=scan (fun i=>g2f (l,bef (l.map (·.ID)) i,(i:Int))) l.length (idp (l.map (·.ID)) (l.map (·.Name))) (.inl false) (.inr l)
   (fun i hi=>by
     rw[g2f,if_pos (by simp;omega),if_pos (g6 hi),refId,gsa l hl i hi,gqe (by simpa using hi) (by simp)];simp only[oZ4,oZ3,gb];rw[←g1r (·.ID) l i dSSymbol 0 hi,←g1r (·.Name) l i dSSymbol [] hi,refNm]
     generalize (decide (bef (l.map (·.ID)) i < (l.map (·.ID)).getD i 0) && decide (1≤(l.map (·.ID)).getD i 0) && decide ((l.map (·.ID)).getD i 0≤1000))=q;rw[if_pos (by rw[g6 hi];rfl)];cases q with
     | false=>rfl
     | true=>
       simp only[Bool.not_true,Bool.not_false,if_true,oZ3,Bool.true_and];cases nm ((l.map (·.Name)).getD i [])with
       | false=>rfl
       | true=>
         simp only[Bool.not_true,cond_false,Bool.false_eq_true,if_false,Bool.true_and];cases hc:((l.map (·.Name)).take i).contains ((l.map (·.Name)).getD i [])with
         | true=>simp
         | false=>
           simp only[Bool.false_eq_true,if_false,Bool.not_false,if_true];rw[if_pos (g6 hi),gg (by omega)];have:bef (l.map (·.ID)) (i+1)=(l.getD i dSSymbol).ID:=by
             unfold bef;rw[if_neg (by omega)];exact g1r (·.ID) l i dSSymbol 0 hi
           rw[this]
           rfl)
   (by rw[g2f,if_neg (by simp)])
 have e0:g2f (l,bef (l.map (·.ID)) 0,((0:Nat):Int))=g2f (l,0,0):=rfl;simp only[e0]at hsc;rw[g5a];rcases hsc with⟨h1,h2⟩ | ⟨h1,j,h2,h3⟩
 · rw[h1];refine⟨_,rfl,?_⟩;simp only[Bool.cond_eq_ite];constructor
   · intro h;split at h
     · rename_i h4;simp at h h4;exact⟨by omega,h2,by omega⟩
     · cases h
   · rintro ⟨a,_,b⟩
     rw[if_pos (by simp;omega)];simp;omega
 · rw[h1];refine⟨false,rfl,?_⟩;constructor
   · intro h;cases h
   · rintro ⟨_,h,_⟩
     have:=h j h2;rw[h3]at this;cases this
theorem guc{l:List SSymbol}(hl:l.length*24≤reachBytes) :∃r,g53 l=some r∧g5a l=some r:=by
 obtain⟨r,h1,h2⟩:=gqf hl;obtain⟨q,h3,h4⟩:=gwk (l:=l) (by unfold reachBytes at*;omega);have:r=q:=Bool.eq_iff_iff.2 (h2.trans h4.symm);exact⟨r,h1,by rw[this];exact h3⟩
end
section
open Go Go.Proofs.YthnmepafpikaiaaGreat.Shv
set_option maxRecDepth 100000
structure OkT (t:SType):Prop where
 syms:t.Symbols.length*24≤reachBytes
 mems:t.Members.length*24≤reachBytes
 dv:∀m,m∈t.Members→OkV m.Default
theorem g3j{n:Nat}(h:n*24≤reachBytes) :n≤reachBytes:=by unfold reachBytes at*;omega
theorem gsb{a b:SMember} :a=b↔a.ID=b.ID∧a.Name=b.Name∧a.Type_=b.Type_∧a.Critical=b.Critical∧a.HasDefault=b.HasDefault∧a.Default=b.Default:=by
 cases a;cases b;simp
theorem g6l(x:SMember) :(⟨x.ID,x.Name,x.Type_,x.Critical,x.HasDefault,SValue.eta x.Default⟩:SMember)=x:=by cases x;simp[SValue.gq]
theorem fiveM{a b:SMember} :(bif bif bif bif decide (a.ID=b.ID)then decide (a.Name=b.Name)else false then decide (a.Type_=b.Type_)else false then eqB a.Critical b.Critical else false then eqB a.HasDefault b.HasDefault else false)=true↔a.ID=b.ID∧a.Name=b.Name∧a.Type_=b.Type_∧a.Critical=b.Critical∧a.HasDefault=b.HasDefault:=by
 simp only[Bool.cond_eq_ite,eqB];by_cases h1:a.ID=b.ID <;> by_cases h2:a.Name=b.Name <;> by_cases h3:a.Type_=b.Type_ <;> by_cases h4:a.Critical=b.Critical <;> simp[h1,h2,h3,h4]
theorem twoM {a b : SMember} {q : Bool} (hq : q = true ↔ a.ID = b.ID ∧ a.Name = b.Name ∧ a.Type_ = b.Type_ ∧ a.Critical = b.Critical ∧ a.HasDefault = b.HasDefault) {x : Option Bool} (hx : Says x a.Default b.Default) :
   Says (some q >>=fun t37=>(if t37=true then x else some false) >>=fun r=>some (bif t37 then r else false)) a b:=by
 obtain⟨rx,h1,h2⟩:=hx;subst h1;refine⟨q && rx,by cases q <;> cases rx <;> rfl,?_⟩;rw[gsb,Bool.and_eq_true,hq,h2];constructor
 · rintro ⟨⟨a1,a2,a3,a4,a5⟩,a6⟩;exact⟨a1,a2,a3,a4,a5,a6⟩
 · rintro ⟨a1,a2,a3,a4,a5,a6⟩;exact⟨⟨a1,a2,a3,a4,a5⟩,a6⟩
theorem gud{a:SMember}(h:OkV a.Default)(b:SMember) :Says (g65 (a,b)) a b:=by
 rw[g65];simp only[gck,SValue.gq];exact twoM fiveM (geu h _)
theorem gue{a:SMember}(h:OkV a.Default)(b:SMember) :Says (g4l (a,b)) a b:=by
 rw[g4l];simp only[gck,SValue.gq];exact twoM fiveM (gl4 h _)
theorem ghw {f : SMember × SMember → Option Bool} {γ : Type} {g : γ} {a b : List SMember} (hl : a.length = b.length) (ih : ∀ x, x ∈ a → ∀ y, Says (f (x, y)) x y) (L : Nat → Option (Bool ⊕ γ))
   (hstep:∀i,i < a.length→L i=(f (a.getD i dSMember,b.getD i dSMember) >>=fun r=>if(!r)=true then some (.inl false)else L (i+1)))
   (hend:L a.length=some (.inr g)):(L 0=some (.inr g)∧a=b)∨(L 0=some (.inl false)∧a≠b):=by
 have hget:∀(i:Nat) (h1:i < a.length) (h2:i < b.length),Says (f (a.getD i dSMember,b.getD i dSMember)) a[i] b[i]:=by
   intro i h1 h2;rw[g16 h1,g16 h2];exact ih _ (List.getElem_mem h1) _
 have hp:∀(i:Nat) (h1:i < a.length) (h2:i < b.length),(f (a.getD i dSMember,b.getD i dSMember)).getD false=true↔a[i]=b[i]:=by
   intro i h1 h2;obtain⟨r,h3,h4⟩:=hget i h1 h2;rw[h3];exact h4
 have:=scan L a.length (fun i=>(f (a.getD i dSMember,b.getD i dSMember)).getD false) (.inl false) (.inr g)
   (fun i hi=>by
     obtain⟨r,h1,h2⟩:=hget i hi (by omega);rw[hstep i hi,h1]
     cases r <;> rfl) hend
 rcases this with⟨h1,h2⟩ | ⟨h1,j,h2,h3⟩
 · exact .inl ⟨h1,(g51 hl hp).1 h2⟩
 · refine .inr ⟨h1,fun e=>?_⟩;have:=(g51 hl hp).2 e j h2;rw[h3]at this;cases this
theorem gok{a b:List SMember}(ha:a.length≤reachBytes)(hd:∀m,m∈a→OkV m.Default) :Says (g14 (a,b)) a b:=by
 rw[g14];by_cases hl:a.length=b.length
 · rw[if_neg (by simp;omega)];have hr:=g11 ha;have hs:=ghw (g:=()) hl (f:=g65) (fun x hx y=>gud (hd x hx) y) (fun i=>ga (b,a,(a.length:Int),(i:Int)))
     (fun i hi=>by
       rw[ga,if_pos (by simp;omega),if_pos (g6 hi)];simp only[oZ4,oZ3,gb,g6l]
       rw[if_pos (g6 (by omega)),gg (by omega)])
     (by rw[ga,if_neg (by simp)])
   have e0:ga (b,a,(a.length:Int),((0:Nat):Int))=ga (b,a,(a.length:Int),0):=rfl;simp only[e0]at hs;rcases hs with⟨h1,h2⟩ | ⟨h1,h2⟩
   · rw[h1];exact⟨true,rfl,by simp[h2]⟩
   · rw[h1];exact⟨false,rfl,by simp[h2]⟩
 · rw[if_pos (by simp;omega)];exact g9p hl
theorem gev{a b:SType} :a=b↔a.Kind=b.Kind∧a.Name=b.Name∧a.Low=b.Low∧a.High=b.High∧a.Max=b.Max∧a.Key=b.Key∧a.Elem=b.Elem∧a.Open=b.Open∧a.Symbols=b.Symbols∧a.Members=b.Members:=by
 cases a;cases b;simp only[SType.mk.injEq];constructor
 · rintro ⟨h1,h2,h3,h4,h5,h6,h7,h8,h9,h10⟩;exact⟨h1,h2,h3,h4,h5,h8,h9,h10,h6,h7⟩
 · rintro ⟨h1,h2,h3,h4,h5,h6,h7,h8,h9,h10⟩;exact⟨h1,h2,h3,h4,h5,h9,h10,h6,h7,h8⟩
theorem gyr {a b : SType} : (bif bif bif bif bif bif bif decide (a.Kind = b.Kind) then decide (a.Name = b.Name) else false then decide (a.Low = b.Low) else false then decide (a.High = b.High) else false then decide (a.Max = b.Max) else false then decide (a.Key = b.Key) else false then decide (a.Elem = b.Elem) else false then eqB a.Open b.Open else false) = true ↔
   a.Kind=b.Kind∧a.Name=b.Name∧a.Low=b.Low∧a.High=b.High∧a.Max=b.Max∧a.Key=b.Key∧a.Elem=b.Elem∧a.Open=b.Open:=by
 simp only[Bool.cond_eq_ite,eqB];by_cases h1:a.Kind=b.Kind <;> by_cases h2:a.Name=b.Name <;> by_cases h3:a.Low=b.Low <;> by_cases h4:a.High=b.High <;> simp[h1,h2,h3,h4]
 by_cases h5:a.Max=b.Max <;> by_cases h6:a.Key=b.Key <;> by_cases h7:a.Elem=b.Elem <;> simp[h5,h6,h7]
theorem g3o{a:SType}(h:OkT a)(b:SType) :Says (g1d (a,b)) a b:=by
 rw[g1d];obtain⟨rs,s1,s2⟩:=gyq (a:=a.Symbols) (b:=b.Symbols) (g3j h.syms);obtain⟨rm,m1,m2⟩:=gok (a:=a.Members) (b:=b.Members) (g3j h.mems) h.dv;have e8:=gyr (a:=a) (b:=b)
 generalize (bif bif bif bif bif bif bif decide (a.Kind=b.Kind)then decide (a.Name=b.Name)else false then decide (a.Low=b.Low)else false then decide (a.High=b.High)else false then decide (a.Max=b.Max)else false then decide (a.Key=b.Key)else false then decide (a.Elem=b.Elem)else false then eqB a.Open b.Open else false)=q at e8 ⊢
 simp only[oZ4,oZ3];rw[s1,m1];refine⟨q && rs && rm,by cases q <;> cases rs <;> cases rm <;> rfl,?_⟩;rw[gev,Bool.and_eq_true,Bool.and_eq_true,e8,s2,m2];constructor
 · rintro ⟨⟨⟨a1,a2,a3,a4,a5,a6,a7,a8⟩,a9⟩,a10⟩;exact⟨a1,a2,a3,a4,a5,a6,a7,a8,a9,a10⟩
 · rintro ⟨a1,a2,a3,a4,a5,a6,a7,a8,a9,a10⟩;exact⟨⟨⟨a1,a2,a3,a4,a5,a6,a7,a8⟩,a9⟩,a10⟩
theorem gii(a:SType) :(⟨a.Kind,a.Name,a.Low,a.High,a.Max,a.Symbols,a.Members,a.Key,a.Elem,a.Open⟩:SType)=a:=by cases a;rfl
theorem g7n{a:SType}(h:OkT a)(b:SType) :Says (g6k (a,b)) a b:=by
 rw[g6k];simp only[gii];by_cases h5:(a.Kind=b.Kind∧a.Name=b.Name∧a.Low=b.Low∧a.High=b.High∧a.Max=b.Max∧a.Key=b.Key∧a.Elem=b.Elem∧a.Open=b.Open)∧a.Symbols.length=b.Symbols.length∧a.Members.length=b.Members.length
 · obtain⟨⟨e1,e2,e3,e4,e5,e6,e7,e8⟩,e9,e10⟩:=h5;rw[if_neg (by simp[e1,e2,e3,e4,e5,e6,e7,e8,e9,e10,eqB])];have hr:=g11 (g3j h.syms);have hr2:=g11 (g3j h.mems)
   have hsc:=scan (fun i=>g27 ((i:Int),a,b)) a.Symbols.length (fun i=>eqI (a.Symbols.getD i dSSymbol).ID (b.Symbols.getD i dSSymbol).ID && (eqS (a.Symbols.getD i dSSymbol).Name (b.Symbols.getD i dSSymbol).Name && true)) (.inl false) (.inr (a,b))
     (fun i hi'=>by
       rw[g27,if_pos (by simp;omega),if_pos (g6 hi')];simp only[oZ4,oZ3,gb];rw[if_pos (g6 (by omega)),gg (by omega)];generalize (eqI (a.Symbols.getD i dSSymbol).ID (b.Symbols.getD i dSSymbol).ID && (eqS (a.Symbols.getD i dSSymbol).Name (b.Symbols.getD i dSSymbol).Name && true))=c
       cases c <;> rfl)
     (by rw[g27,if_neg (by simp)])
   have h0:g27 (((0:Nat):Int),a,b)=g27 (0,a,b):=rfl;simp only[h0]at hsc;have hp:∀(i:Nat) (h1:i < a.Symbols.length) (h2:i < b.Symbols.length),(eqI (a.Symbols.getD i dSSymbol).ID (b.Symbols.getD i dSSymbol).ID && (eqS (a.Symbols.getD i dSSymbol).Name (b.Symbols.getD i dSSymbol).Name && true))=true↔a.Symbols[i]=b.Symbols[i]:=fun i h1 h2=>by
     rw[g16 h1,g16 h2];exact gu9
   rcases hsc with⟨g1,g2⟩ | ⟨g1,j,g2,g3⟩
   · have hsy:=(g51 e9 hp).1 g2;rw[g1];simp only[oZ4,oZ3];have hs:=ghw (g:=()) e10 (f:=g4l) (fun x hx y=>gue (h.dv x hx) y) (fun i=>g28 ((i:Int),a,b))
       (fun i hi=>by
         rw[g28,if_pos (by simp;omega),if_pos (g6 hi)];simp only[oZ4,oZ3,gb,g6l]
         rw[if_pos (g6 (by omega)),gg (by omega)])
       (by rw[g28,if_neg (by simp)])
     have e0:g28 (((0:Nat):Int),a,b)=g28 (0,a,b):=rfl;simp only[e0]at hs;rcases hs with⟨k1,k2⟩ | ⟨k1,k2⟩
     · rw[k1];refine⟨true,rfl,?_⟩;rw[gev];simp[e1,e2,e3,e4,e5,e6,e7,e8,hsy,k2]
     · rw[k1];refine⟨false,rfl,?_⟩;rw[gev];simp[k2]
   · rw[g1];refine⟨false,rfl,?_⟩;constructor
     · intro h;cases h
     · intro h;have:=(g51 e9 hp).2 (gev.1 h).2.2.2.2.2.2.2.2.1 j g2;rw[g3]at this;cases this
 · rw[if_pos]
   · refine⟨false,rfl,?_⟩;constructor
     · intro h;cases h
     · intro h
       exfalso;apply h5
       subst h;simp
   · simp only[Bool.cond_eq_ite,eqB];by_cases q1:a.Kind=b.Kind <;> by_cases q2:a.Name=b.Name <;> by_cases q3:a.Low=b.Low <;> by_cases q4:a.High=b.High <;> simp[q1,q2,q3,q4]
     by_cases q5:a.Max=b.Max <;> by_cases q6:a.Key=b.Key <;> by_cases q7:a.Elem=b.Elem <;> by_cases q8:a.Open=b.Open <;> simp[q5,q6,q7,q8]
     by_cases q9:a.Symbols.length=b.Symbols.length
     · by_cases q10:a.Members.length=b.Members.length
       · exact absurd ⟨⟨q1,q2,q3,q4,q5,q6,q7,q8⟩,q9,q10⟩ h5
       · right;omega
     · left;omega
end
section
open Go Go.Proofs.YthnmepafpikaiaaGreat.Shv
set_option maxRecDepth 100000
def ga9(v:SValue) :Bool:=(g3s (v,dSValue)).getD false
theorem gwl{v:SValue}(h:OkV v) :g3s (v,dSValue)=some (ga9 v):=by
 obtain⟨r,h1,h2⟩:=geu h dSValue;unfold ga9;rw[h1];rfl
theorem gwm{v:SValue}(h:OkV v) :g1a (v,dSValue)=some (ga9 v):=by
 obtain⟨r,h1,h2⟩:=geu h dSValue;obtain⟨q,h3,h4⟩:=gl4 h dSValue;unfold ga9;rw[h1,h3];have:q=r:=Bool.eq_iff_iff.2 (h4.trans h2.symm);rw[this];rfl
theorem gvo{v:SValue}(h:OkV v) :g8v v=some (ga9 v):=by
 rw[g8v,SValue.gq];have:=gwl h;unfold dSValue at this;rw[this];rfl
def badM(union:Bool)(m:SMember) :Bool:=(union && (m.Critical || m.HasDefault)) || (m.Critical && m.HasDefault) || (!m.HasDefault && !ga9 m.Default)
theorem gj{α:Type}{l:List α}{i:Nat}(h:i < l.length)(d:α) :l.getD i d∈l:=by
 rw[g16 h];exact List.getElem_mem h
theorem gk8{t:SType}(h:OkT t) :∃r,g4g t=some r∧(r=true↔(∀i,i < t.Members.length→badM (decide (t.Kind=6)) (t.Members.getD i dSMember)=false)∧(t.Kind=5∨0 < t.Members.length)∧(∀i,i < t.Members.length→idp (t.Members.map (·.ID)) (t.Members.map (·.Name)) i=true)∧t.Members.length≤16):=by
 have hr:t.Members.length < 9223372036854775807:=g11 (g3j h.mems);have hsc:=scan (fun i=>g2i (t.Members,(t.Members.length:Int),(i:Int),t,(t.Members.map (·.ID)).take i,(t.Members.map (·.Name)).take i)) t.Members.length (fun i=>!(badM (decide (t.Kind=6)) (t.Members.getD i dSMember))) (.inl false) (.inr (t,t.Members.map (·.ID),t.Members.map (·.Name)))
   (fun i hi=>by
     have hz:=gvo (h.dv _ (gj hi dSMember));rw[g2i,if_pos (by simp;omega),if_pos (g6 hi)];simp only[oZ4,oZ3,gb,SValue.gq];rw[←g1r (·.ID) t.Members i dSMember 0 hi,←g1r (·.Name) t.Members i dSMember [] hi,g8d _ _ _ (by simpa using hi),g8d _ _ _ (by simpa using hi)];have hb:((t.Members.map (·.ID)).take (i+1)).length*24≤reachBytes:=by
       refine Nat.le_trans (Nat.mul_le_mul_right _ ?_) h.mems;simp;omega
     have hb2:((t.Members.map (·.Name)).take (i+1)).length*24≤reachBytes:=by
       refine Nat.le_trans (Nat.mul_le_mul_right _ ?_) h.mems;simp;omega
     rw[if_pos (room8 (by omega) hb),if_pos (room8 (by omega) hb2),gg (by omega),hz];unfold badM
     cases decide (t.Kind=6) <;> cases (t.Members.getD i dSMember).Critical <;> cases (t.Members.getD i dSMember).HasDefault <;> cases ga9 (t.Members.getD i dSMember).Default <;> rfl)
   (by
     rw[g2i,if_neg (by simp)]
     rw[List.take_of_length_le (by simp),List.take_of_length_le (by simp)])
 have e0:g2i (t.Members,(t.Members.length:Int),((0:Nat):Int),t,(t.Members.map (·.ID)).take 0,(t.Members.map (·.Name)).take 0)=g2i (t.Members,(t.Members.length:Int),0,t,[],[]):=rfl;simp only[e0]at hsc;rw[g4g];obtain⟨r,h1,h2⟩:=gub (l:=t.Members.map (·.ID)) (names:=t.Members.map (·.Name)) (by simpa using g3j h.mems) (by simp);rw[List.length_map]at h2
 rcases hsc with⟨g1,g2⟩ | ⟨g1,j,g2,g3⟩
 · rw[g1];simp only[oZ4,oZ3];rw[h1];refine⟨(bif decide (t.Kind=5)then true else decide (0 < ((t.Members.map (·.ID)).length:Int))) && r,?_,?_⟩
   · cases (bif decide (t.Kind=5)then true else decide (0 < ((t.Members.map (·.ID)).length:Int))) <;> rfl
   · rw[Bool.and_eq_true,h2];have e5:(bif decide (t.Kind=5)then true else decide (0 < ((t.Members.map (·.ID)).length:Int)))=true↔(t.Kind=5∨0 < t.Members.length):=by
       by_cases h5:t.Kind=5 <;> simp[h5]
     rw[e5];constructor
     · rintro ⟨a,b,c⟩
       exact⟨fun i hi=>by simpa using g2 i hi,a,b,c⟩
     · rintro ⟨_,a,b,c⟩;exact⟨a,b,c⟩
 · rw[g1];refine⟨false,rfl,?_⟩;constructor
   · intro h;cases h
   · rintro ⟨a,_⟩
     have h5:=a j g2;have g3':(!(badM (decide (t.Kind=6)) (t.Members.getD j dSMember)))=false:=g3;rw[h5]at g3';cases g3'
theorem gsc (l : List SMember) (record : Bool) (hl : l.length ≤ reachBytes) (i : Nat) (hi : i < l.length) :
   g1q (l,record,(i:Int),0,l.getD i dSMember)=some (if((l.map (·.Name)).take i).contains ((l.map (·.Name)).getD i [])=true then .inl false else .inr (l,record,(i:Int),l.getD i dSMember)):=by
 have hr:=g11 hl;have hsc:=scan (fun k=>g1q (l,record,(i:Int),(k:Int),l.getD i dSMember)) i (fun k=>!(decide ((l.getD k dSMember).Name=(l.getD i dSMember).Name))) (.inl false) (.inr (l,record,(i:Int),l.getD i dSMember))
   (fun k hk=>by
     rw[g1q,if_pos (by simp;omega),if_pos (g6 (by omega)),gg (by omega)];simp only[gb,g6l]
     cases decide ((l.getD k dSMember).Name=(l.getD i dSMember).Name) <;> rfl)
   (by rw[g1q,if_neg (by simp),g6l])
 have e0:g1q (l,record,(i:Int),((0:Nat):Int),l.getD i dSMember)=g1q (l,record,(i:Int),0,l.getD i dSMember):=rfl;simp only[e0]at hsc;rw[g1r (·.Name) l i dSMember [] hi];rcases hsc with⟨h1,h2⟩ | ⟨h1,j,h2,h3⟩
 · rw[h1,if_neg];rw[g4a (by simp;omega)]
   rintro ⟨k,hk,he⟩
   rw[g1r (·.Name) l k dSMember [] (by omega)]at he;have:=h2 k hk;rw[he]at this;simp at this
 · rw[h1,if_pos];rw[g4a (by simp;omega)];refine⟨j,h2,?_⟩;rw[g1r (·.Name) l j dSMember [] (by omega)]
   simpa using h3
theorem gsd{l:List SMember}{record:Bool}(hl:l.length≤reachBytes)(hd:∀m,m∈l→OkV m.Default) :∃r,g4d (l,record)=some r∧(r=true↔(∀i,i < l.length→badM (!record) (l.getD i dSMember)=false)∧(record=true∨0 < l.length)∧(∀i,i < l.length→idp (l.map (·.ID)) (l.map (·.Name)) i=true)∧l.length≤16):=by
 have hr:=g11 hl;have hsc:=scan (fun i=>g2g (l,record,bef (l.map (·.ID)) i,(i:Int))) l.length (fun i=>idp (l.map (·.ID)) (l.map (·.Name)) i && !(badM (!record) (l.getD i dSMember))) (.inl false) (.inr (l,record))
   (fun i hi=>by
     have hz:=gwm (hd _ (gj hi dSMember));unfold dSValue at hz;rw[g2g,if_pos (by simp;omega),if_pos (g6 hi)];simp only[oZ4,oZ3,gb,SValue.gq,g6l,gqe (l:=l.map (·.ID)) (names:=l.map (·.Name)) (i:=i) (by simpa using hi) (by simp)];rw[gsc l record hl i hi,hz];have hbef:bef (l.map (·.ID)) (i+1)=(l.getD i dSMember).ID:=by
       unfold bef;rw[if_neg (by omega)];exact g1r (·.ID) l i dSMember 0 hi
     rw[←g1r (·.ID) l i dSMember 0 hi,←g1r (·.Name) l i dSMember [] hi,refId,refNm];simp only[oZ3];generalize (decide (bef (l.map (·.ID)) i < (l.map (·.ID)).getD i 0) && decide (1≤(l.map (·.ID)).getD i 0) && decide ((l.map (·.ID)).getD i 0≤1000))=q;cases q with
     | false=>simp
     | true=>
       simp only[Bool.not_true,Bool.not_false,if_true,oZ3,Bool.true_and];cases nm ((l.map (·.Name)).getD i [])with
       | false=>simp
       | true=>
         simp only[Bool.not_true,Bool.true_and,Bool.or_false,cond_false];unfold badM;cases record <;> cases (l.getD i dSMember).Critical <;> cases (l.getD i dSMember).HasDefault <;> cases ga9 (l.getD i dSMember).Default <;>
           simp only[Bool.not_true,Bool.not_false,Bool.or_self,Bool.and_self,Bool.or_true,Bool.true_or,Bool.and_true,Bool.and_false,Bool.false_and,Bool.true_and,Bool.false_or,Bool.or_false,cond_true,cond_false,if_true,if_false,Bool.false_eq_true,oZ3] <;>
           first
             | rfl
             | (cases hc:((l.map (·.Name)).take i).contains ((l.map (·.Name)).getD i [])with
               | true=>simp
               | false=>
                 simp only[Bool.false_eq_true,if_false,Bool.not_false,if_true];rw[gg (by omega),hbef]
                 try rfl))
   (by rw[g2g,if_neg (by simp)])
 have e0:g2g (l,record,bef (l.map (·.ID)) 0,((0:Nat):Int))=g2g (l,record,0,0):=rfl;simp only[e0]at hsc;rw[g4d];rcases hsc with⟨h1,h2⟩ | ⟨h1,j,h2,h3⟩
 · rw[h1];refine⟨_,rfl,?_⟩;have h2':∀i,i < l.length→idp (l.map (·.ID)) (l.map (·.Name)) i=true∧badM (!record) (l.getD i dSMember)=false:=fun i hi=>by
     have:=h2 i hi
     simpa using this
   simp only[Bool.cond_eq_ite];constructor
   · intro h;split at h
     · rename_i h4;refine⟨fun i hi=>(h2' i hi).2,?_,fun i hi=>(h2' i hi).1,by simp at h4;omega⟩;cases record with
       | true=>exact .inl rfl
       | false=>right;simp at h;omega
     · cases h
   · rintro ⟨_,a,_,b⟩
     rw[if_pos (by simp;omega)];cases record with
     | true=>rfl
     | false=>simp at a ⊢;omega
 · rw[h1];refine⟨false,rfl,?_⟩;constructor
   · intro h;cases h
   · rintro ⟨a,_,b,_⟩
     have h5:=b j h2;have h6:=a j h2;rw[h5,h6]at h3;cases h3
theorem glz{t:SType}(h:OkT t)(hk:t.Kind=5∨t.Kind=6) :∃r,g4g t=some r∧g4d (t.Members,decide (t.Kind=5))=some r:=by
 obtain⟨r,h1,h2⟩:=gk8 h;obtain⟨q,h3,h4⟩:=gsd (l:=t.Members) (record:=decide (t.Kind=5)) (g3j h.mems) h.dv;have hu:(!(decide (t.Kind=5)))=decide (t.Kind=6):=by
   rcases hk with e | e <;> rw[e] <;> rfl
 rw[hu]at h4;have e5:decide (t.Kind=5)=true↔t.Kind=5:=decide_eq_true_iff;rw[e5]at h4;have:r=q:=Bool.eq_iff_iff.2 (h2.trans h4.symm);exact⟨r,h1,by rw[this];exact h3⟩
end
section
open Go Go.Proofs.YthnmepafpikaiaaGreat.Shv
set_option maxRecDepth 100000
theorem OkT.plain{k l h m kk e:Int}{n:List UInt8}{S:List SSymbol}{Ms:List SMember}{o:Bool}(hS:S.length*24≤reachBytes)(hM:Ms.length*24≤reachBytes)(hd:∀x,x∈Ms→OkV x.Default) :OkT ⟨k,n,l,h,m,S,Ms,kk,e,o⟩:=⟨hS,hM,hd⟩
theorem form1{N:List UInt8}{L H M K E:Int}{S:List SSymbol}{Ms:List SMember}{O:Bool}(h:OkT (⟨1,N,L,H,M,S,Ms,K,E,O⟩:SType)) :∃r,g13 (⟨1,N,L,H,M,S,Ms,K,E,O⟩:SType)=some r∧gy (⟨1,N,L,H,M,S,Ms,K,E,O⟩:SType)=some r∧(r=true→N=[]):=by
 obtain⟨a,a1,a2⟩:=g3o (a:=(⟨0,N,L,H,M,S,Ms,K,E,O⟩:SType)) ⟨h.syms,h.mems,h.dv⟩ (⟨0,[],0,0,0,[],[],0,0,false⟩:SType);obtain⟨b,b1,b2⟩:=g7n h (⟨1,[],0,0,0,[],[],0,0,false⟩:SType);have hab:a=b:=by
   refine Bool.eq_iff_iff.2 (a2.trans (Iff.trans ?_ b2.symm));simp only[SType.mk.injEq]
   try (simp)
 subst hab;refine⟨a,by simp[g13,a1],by simp[gy,g25,g1l,b1];try (cases a <;> rfl),fun hr=>?_⟩;have:=b2.1 hr;simp only[SType.mk.injEq]at this;exact this.2.1
theorem form2{N:List UInt8}{L H M K E:Int}{S:List SSymbol}{Ms:List SMember}{O:Bool}(h:OkT (⟨2,N,L,H,M,S,Ms,K,E,O⟩:SType)) :∃r,g13 (⟨2,N,L,H,M,S,Ms,K,E,O⟩:SType)=some r∧gy (⟨2,N,L,H,M,S,Ms,K,E,O⟩:SType)=some r∧(r=true→N=[]):=by
 obtain⟨a,a1,a2⟩:=g3o (a:=(⟨0,N,0,0,M,S,Ms,K,E,O⟩:SType)) ⟨h.syms,h.mems,h.dv⟩ (⟨0,[],0,0,0,[],[],0,0,false⟩:SType);obtain⟨b,b1,b2⟩:=g7n h (⟨2,[],L,H,0,[],[],0,0,false⟩:SType);have hab:a=b:=by
   refine Bool.eq_iff_iff.2 (a2.trans (Iff.trans ?_ b2.symm));simp only[SType.mk.injEq]
   try (simp)
 subst hab;refine⟨decide (L≤H) && a,?_,?_,fun hr=>?_⟩
 · simp only[g13];generalize decide (L≤H)=q;simp[a1]
   try (cases q <;> rfl)
 · simp only[gy];generalize decide (L≤H)=q;simp[g25,g1l,b1]
   try (cases a <;> cases q <;> rfl)
 · rw[Bool.and_eq_true]at hr;have:=b2.1 hr.2;simp only[SType.mk.injEq]at this;exact this.2.1
theorem form3{N:List UInt8}{L H M K E:Int}{S:List SSymbol}{Ms:List SMember}{O:Bool}(h:OkT (⟨3,N,L,H,M,S,Ms,K,E,O⟩:SType)) :∃r,g13 (⟨3,N,L,H,M,S,Ms,K,E,O⟩:SType)=some r∧gy (⟨3,N,L,H,M,S,Ms,K,E,O⟩:SType)=some r∧(r=true→N=[]):=by
 obtain⟨a,a1,a2⟩:=g3o (a:=(⟨0,N,L,H,0,S,Ms,K,E,O⟩:SType)) ⟨h.syms,h.mems,h.dv⟩ (⟨0,[],0,0,0,[],[],0,0,false⟩:SType);obtain⟨b,b1,b2⟩:=g7n h (⟨3,[],0,0,M,[],[],0,0,false⟩:SType);have hab:a=b:=by
   refine Bool.eq_iff_iff.2 (a2.trans (Iff.trans ?_ b2.symm));simp only[SType.mk.injEq]
   try (simp)
 subst hab;refine⟨(bif decide (0≤M)then decide (M≤200)else false) && a,?_,?_,fun hr=>?_⟩
 · simp only[g13];generalize (bif decide (0≤M)then decide (M≤200)else false)=q;simp[a1]
   try (cases q <;> rfl)
 · simp only[gy];generalize (bif decide (0≤M)then decide (M≤200)else false)=q;simp[g25,g1l,b1]
   try (cases a <;> cases q <;> rfl)
 · rw[Bool.and_eq_true]at hr;have:=b2.1 hr.2;simp only[SType.mk.injEq]at this;exact this.2.1
theorem form4{N:List UInt8}{L H M K E:Int}{S:List SSymbol}{Ms:List SMember}{O:Bool}(h:OkT (⟨4,N,L,H,M,S,Ms,K,E,O⟩:SType)) :∃r,g13 (⟨4,N,L,H,M,S,Ms,K,E,O⟩:SType)=some r∧gy (⟨4,N,L,H,M,S,Ms,K,E,O⟩:SType)=some r∧(r=true→N≠[]):=by
 obtain⟨a,a1,a2⟩:=g3o (a:=(⟨0,[],L,H,M,[],Ms,K,E,false⟩:SType)) ⟨(by simp),h.mems,h.dv⟩ (⟨0,[],0,0,0,[],[],0,0,false⟩:SType);obtain⟨b,b1,b2⟩:=g7n h (⟨4,N,0,0,0,S,[],0,0,O⟩:SType);have hab:a=b:=by
   refine Bool.eq_iff_iff.2 (a2.trans (Iff.trans ?_ b2.symm));simp only[SType.mk.injEq]
   try (cases O <;> simp)
 subst hab;obtain⟨q,q1,q2⟩:=guc (l:=S) h.syms;refine⟨nm N && q && a,?_,?_,fun hr=>?_⟩
 · simp only[g13];simp[a1,q1,lexNm]
   try (cases nm N <;> cases q <;> rfl)
 · simp only[gy]
   try simp at q2
   simp[g25,g1l,b1,q2,refNm]
   try (cases a <;> cases nm N <;> cases q <;> rfl)
 · simp only[Bool.and_eq_true]at hr;exact nm_ne hr.1.1
theorem form5{N:List UInt8}{L H M K E:Int}{S:List SSymbol}{Ms:List SMember}{O:Bool}(h:OkT (⟨5,N,L,H,M,S,Ms,K,E,O⟩:SType)) :∃r,g13 (⟨5,N,L,H,M,S,Ms,K,E,O⟩:SType)=some r∧gy (⟨5,N,L,H,M,S,Ms,K,E,O⟩:SType)=some r∧(r=true→N≠[]):=by
 obtain⟨a,a1,a2⟩:=g3o (a:=(⟨0,[],L,H,M,S,[],K,E,(bif O then decide ((5:Int)=5)else false)⟩:SType)) ⟨h.syms,(by simp),(by simp)⟩ (⟨0,[],0,0,0,[],[],0,0,false⟩:SType);obtain⟨b,b1,b2⟩:=g7n h (⟨5,N,0,0,0,[],Ms,0,0,false⟩:SType);have hab:a=b:=by
   refine Bool.eq_iff_iff.2 (a2.trans (Iff.trans ?_ b2.symm));simp only[SType.mk.injEq]
   try (cases O <;> simp)
 subst hab;obtain⟨q,q1,q2⟩:=glz h (by simp);refine⟨nm N && q && a,?_,?_,fun hr=>?_⟩
 · simp only[g13]
   try simp at a1
   try simp at q1
   simp[a1,q1,lexNm]
   try (cases nm N <;> cases q <;> rfl)
 · simp only[gy]
   try simp at q2
   simp[g25,g1l,b1,q2,refNm]
   try (cases a <;> cases nm N <;> cases q <;> rfl)
 · simp only[Bool.and_eq_true]at hr;exact nm_ne hr.1.1
theorem form6{N:List UInt8}{L H M K E:Int}{S:List SSymbol}{Ms:List SMember}{O:Bool}(h:OkT (⟨6,N,L,H,M,S,Ms,K,E,O⟩:SType)) :∃r,g13 (⟨6,N,L,H,M,S,Ms,K,E,O⟩:SType)=some r∧gy (⟨6,N,L,H,M,S,Ms,K,E,O⟩:SType)=some r∧(r=true→N≠[]):=by
 obtain⟨a,a1,a2⟩:=g3o (a:=(⟨0,[],L,H,M,S,[],K,E,(bif O then decide ((6:Int)=5)else false)⟩:SType)) ⟨h.syms,(by simp),(by simp)⟩ (⟨0,[],0,0,0,[],[],0,0,false⟩:SType);obtain⟨b,b1,b2⟩:=g7n h (⟨6,N,0,0,0,[],Ms,0,0,O⟩:SType);have hab:a=b:=by
   refine Bool.eq_iff_iff.2 (a2.trans (Iff.trans ?_ b2.symm));simp only[SType.mk.injEq]
   try (cases O <;> simp)
 subst hab;obtain⟨q,q1,q2⟩:=glz h (by simp);refine⟨nm N && q && a,?_,?_,fun hr=>?_⟩
 · simp only[g13]
   try simp at a1
   try simp at q1
   simp[a1,q1,lexNm]
   try (cases nm N <;> cases q <;> rfl)
 · simp only[gy]
   try simp at q2
   simp[g25,g1l,b1,q2,refNm]
   try (cases a <;> cases nm N <;> cases q <;> rfl)
 · simp only[Bool.and_eq_true]at hr;exact nm_ne hr.1.1
theorem form7{N:List UInt8}{L H M K E:Int}{S:List SSymbol}{Ms:List SMember}{O:Bool}(h:OkT (⟨7,N,L,H,M,S,Ms,K,E,O⟩:SType)) :∃r,g13 (⟨7,N,L,H,M,S,Ms,K,E,O⟩:SType)=some r∧gy (⟨7,N,L,H,M,S,Ms,K,E,O⟩:SType)=some r∧(r=true→N=[]):=by
 obtain⟨a,a1,a2⟩:=g3o (a:=(⟨0,N,L,H,0,S,Ms,K,0,O⟩:SType)) ⟨h.syms,h.mems,h.dv⟩ (⟨0,[],0,0,0,[],[],0,0,false⟩:SType);obtain⟨b,b1,b2⟩:=g7n h (⟨7,[],0,0,M,[],[],0,E,false⟩:SType);have hab:a=b:=by
   refine Bool.eq_iff_iff.2 (a2.trans (Iff.trans ?_ b2.symm));simp only[SType.mk.injEq]
   try (simp)
 subst hab;refine⟨(bif decide (0≤M)then decide (M≤50)else false) && a,?_,?_,fun hr=>?_⟩
 · simp only[g13];generalize (bif decide (0≤M)then decide (M≤50)else false)=q;simp[a1]
   try (cases q <;> rfl)
 · simp only[gy];generalize (bif decide (0≤M)then decide (M≤50)else false)=q;simp[g25,g1l,b1]
   try (cases a <;> cases q <;> rfl)
 · rw[Bool.and_eq_true]at hr;have:=b2.1 hr.2;simp only[SType.mk.injEq]at this;exact this.2.1
theorem form8{N:List UInt8}{L H M K E:Int}{S:List SSymbol}{Ms:List SMember}{O:Bool}(h:OkT (⟨8,N,L,H,M,S,Ms,K,E,O⟩:SType)) :∃r,g13 (⟨8,N,L,H,M,S,Ms,K,E,O⟩:SType)=some r∧gy (⟨8,N,L,H,M,S,Ms,K,E,O⟩:SType)=some r∧(r=true→N=[]):=by
 obtain⟨a,a1,a2⟩:=g3o (a:=(⟨0,N,L,H,0,S,Ms,0,0,O⟩:SType)) ⟨h.syms,h.mems,h.dv⟩ (⟨0,[],0,0,0,[],[],0,0,false⟩:SType);obtain⟨b,b1,b2⟩:=g7n h (⟨8,[],0,0,M,[],[],K,E,false⟩:SType);have hab:a=b:=by
   refine Bool.eq_iff_iff.2 (a2.trans (Iff.trans ?_ b2.symm));simp only[SType.mk.injEq]
   try (simp)
 subst hab;refine⟨(bif decide (0≤M)then decide (M≤50)else false) && a,?_,?_,fun hr=>?_⟩
 · simp only[g13];generalize (bif decide (0≤M)then decide (M≤50)else false)=q;simp[a1]
   try (cases q <;> rfl)
 · simp only[gy];generalize (bif decide (0≤M)then decide (M≤50)else false)=q;simp[g25,g1l,b1]
   try (cases a <;> cases q <;> rfl)
 · rw[Bool.and_eq_true]at hr;have:=b2.1 hr.2;simp only[SType.mk.injEq]at this;exact this.2.1
theorem form9{N:List UInt8}{L H M K E:Int}{S:List SSymbol}{Ms:List SMember}{O:Bool}(h:OkT (⟨9,N,L,H,M,S,Ms,K,E,O⟩:SType)) :∃r,g13 (⟨9,N,L,H,M,S,Ms,K,E,O⟩:SType)=some r∧gy (⟨9,N,L,H,M,S,Ms,K,E,O⟩:SType)=some r∧(r=true→N=[]):=by
 obtain⟨a,a1,a2⟩:=g3o (a:=(⟨0,N,L,H,M,S,Ms,K,0,O⟩:SType)) ⟨h.syms,h.mems,h.dv⟩ (⟨0,[],0,0,0,[],[],0,0,false⟩:SType);obtain⟨b,b1,b2⟩:=g7n h (⟨9,[],0,0,0,[],[],0,E,false⟩:SType);have hab:a=b:=by
   refine Bool.eq_iff_iff.2 (a2.trans (Iff.trans ?_ b2.symm));simp only[SType.mk.injEq]
   try (simp)
 subst hab;refine⟨a,by simp[g13,a1],by simp[gy,g25,g1l,b1];try (cases a <;> rfl),fun hr=>?_⟩;have:=b2.1 hr;simp only[SType.mk.injEq]at this;exact this.2.1
end
section
open Go Go.Proofs.YthnmepafpikaiaaGreat.Shv
set_option maxRecDepth 100000
def g59(k:Int) :Bool:=bif bif decide (k=4)then true else decide (k=5)then true else decide (k=6)
theorem ggm{t:SType}(h:OkT t) :∃r,g13 t=some r∧gy t=some r∧(r=true→1≤t.Kind∧t.Kind≤9∧g59 t.Kind=!(decide (t.Name=[]))):=by
 by_cases hk:1≤t.Kind∧t.Kind≤9
 · obtain⟨Kd,N,L,H,M,S,Ms,K,E,O⟩:=t;simp only at hk;have:Kd=1∨Kd=2∨Kd=3∨Kd=4∨Kd=5∨Kd=6∨Kd=7∨Kd=8∨Kd=9:=by omega
   rcases this with rfl | rfl | rfl | rfl | rfl | rfl | rfl | rfl | rfl
   · obtain⟨r,h1,h2,h3⟩:=form1 h;exact⟨r,h1,h2,fun hr=>⟨hk.1,hk.2,by simp[g59,h3 hr]⟩⟩
   · obtain⟨r,h1,h2,h3⟩:=form2 h;exact⟨r,h1,h2,fun hr=>⟨hk.1,hk.2,by simp[g59,h3 hr]⟩⟩
   · obtain⟨r,h1,h2,h3⟩:=form3 h;exact⟨r,h1,h2,fun hr=>⟨hk.1,hk.2,by simp[g59,h3 hr]⟩⟩
   · obtain⟨r,h1,h2,h3⟩:=form4 h;exact⟨r,h1,h2,fun hr=>⟨hk.1,hk.2,by simp[g59,h3 hr]⟩⟩
   · obtain⟨r,h1,h2,h3⟩:=form5 h;exact⟨r,h1,h2,fun hr=>⟨hk.1,hk.2,by simp[g59,h3 hr]⟩⟩
   · obtain⟨r,h1,h2,h3⟩:=form6 h;exact⟨r,h1,h2,fun hr=>⟨hk.1,hk.2,by simp[g59,h3 hr]⟩⟩
   · obtain⟨r,h1,h2,h3⟩:=form7 h;exact⟨r,h1,h2,fun hr=>⟨hk.1,hk.2,by simp[g59,h3 hr]⟩⟩
   · obtain⟨r,h1,h2,h3⟩:=form8 h;exact⟨r,h1,h2,fun hr=>⟨hk.1,hk.2,by simp[g59,h3 hr]⟩⟩
   · obtain⟨r,h1,h2,h3⟩:=form9 h;exact⟨r,h1,h2,fun hr=>⟨hk.1,hk.2,by simp[g59,h3 hr]⟩⟩
 · refine⟨false,?_,?_,fun h=>by cases h⟩
   · have e:∀k:Int,1≤k→k≤9→¬t.Kind=k:=fun k h1 h2 e=>hk (by omega)
     simp[g13,e 1,e 2,e 3,e 4,e 5,e 6,e 7,e 8,e 9]
   · have e:(bif decide (t.Kind < 1)then true else decide (9 < t.Kind))=true:=by
       by_cases h1:t.Kind < 1
       · simp[h1]
       · simp[h1];omega
     rw[gy,e];rfl
def usesL(t:SType) :List Int:=t.Members.map (·.Type_)++(if t.Kind=8 then[t.Key]else[])++(if 7≤t.Kind then[t.Elem]else[])
theorem gaa{k n:Nat}(hk:k≤16){m:Nat}(h:m*24≤reachBytes)(hn:n≤m+2) :room k n=true:=by
 unfold room g39 g19;unfold reachBytes at h;simp only[Bool.and_eq_true,decide_eq_true_eq];have:(2*n+192)*k≤(2*n+192)*16:=Nat.mul_le_mul_left _ hk;omega
theorem gk9(t:SType)(h:t.Members.length*24≤reachBytes) :∀(k i:Nat),i+k=t.Members.length→g40 (t.Members,(t.Members.length:Int),(i:Int),t,(t.Members.map (·.Type_)).take i)=some (t,t.Members.map (·.Type_))
 | 0,i,hi=>by
   rw[g40,if_neg (by simp;omega),List.take_of_length_le (by simp;omega)]
 | k+1,i,hi=>by
   have hr:=g11 (g3j h);have hlt:i < t.Members.length:=by omega
   rw[g40,if_pos (by simp;omega),if_pos (g6 hlt)];simp only[oZ4,oZ3,gb];rw[←g1r (·.Type_) t.Members i dSMember 0 hlt,g8d _ _ _ (by simpa using hlt),gg (by omega),if_pos (gaa (m:=t.Members.length) (by omega) h (by simp;omega))];exact gk9 t h k (i+1) (by omega)
theorem gwn{t:SType}(h:t.Members.length*24≤reachBytes) :g9v t=some (usesL t):=by
 have h0:=gk9 t h t.Members.length 0 (by omega);have h0':g40 (t.Members,(t.Members.length:Int),0,t,[])=some (t,t.Members.map (·.Type_)):=h0;rw[g9v,h0'];unfold usesL;simp only[oZ4,oZ3];have r1:room 8 (t.Members.map (·.Type_)++[t.Key]).length=true:=gaa (m:=t.Members.length) (by omega) h (by simp)
 have r2:room 8 (t.Members.map (·.Type_)++[t.Key]++[t.Elem]).length=true:=gaa (m:=t.Members.length) (by omega) h (by simp);have r3:room 8 (t.Members.map (·.Type_)++[t.Elem]).length=true:=gaa (m:=t.Members.length) (by omega) h (by simp);by_cases h8:t.Kind=8
 · have h7:7≤t.Kind:=by omega
   rw[if_pos (by simp[h8]),if_pos r1,if_pos (by simp[h7]),if_pos r2,if_pos h8,if_pos h7]
 · rw[if_neg (by simp[h8]),if_neg h8];by_cases h7:7≤t.Kind
   · rw[if_pos (by simp[h7]),if_pos r3,if_pos h7];simp
   · rw[if_neg (by simp[h7]),if_neg h7];simp
theorem gka(t:SType)(h:t.Members.length*24≤reachBytes) :∀(k i:Nat),i+k=t.Members.length→g3n ((i:Int),t,(t.Members.map (·.Type_)).take i)=some (t,t.Members.map (·.Type_))
 | 0,i,hi=>by
   rw[g3n,if_neg (by simp;omega),List.take_of_length_le (by simp;omega)]
 | k+1,i,hi=>by
   have hr:=g11 (g3j h);have hlt:i < t.Members.length:=by omega
   rw[g3n,if_pos (by simp;omega),if_pos (g6 hlt)];simp only[oZ4,oZ3,gb];rw[←g1r (·.Type_) t.Members i dSMember 0 hlt,g8d _ _ _ (by simpa using hlt),gg (by omega),if_pos (gaa (m:=t.Members.length) (by omega) h (by simp;omega))];exact gka t h k (i+1) (by omega)
theorem gwo{t:SType}(h:t.Members.length*24≤reachBytes)(hk:t.Kind≤9) :g8a t=some (usesL t):=by
 have h0:=gka t h t.Members.length 0 (by omega);have h0':g3n (0,t,[])=some (t,t.Members.map (·.Type_)):=h0;rw[g8a,h0'];unfold usesL;simp only[oZ4,oZ3];have r1:room 8 (t.Members.map (·.Type_)++[t.Key]).length=true:=gaa (m:=t.Members.length) (by omega) h (by simp)
 have r2:room 8 (t.Members.map (·.Type_)++[t.Key]++[t.Elem]).length=true:=gaa (m:=t.Members.length) (by omega) h (by simp);have r3:room 8 (t.Members.map (·.Type_)++[t.Elem]).length=true:=gaa (m:=t.Members.length) (by omega) h (by simp);by_cases h8:t.Kind=8
 · have h7:7≤t.Kind:=by omega
   rw[if_pos (by simp[h8]),if_pos r1,if_pos (by simp[h8]),if_pos r2,if_pos h8,if_pos h7]
 · rw[if_neg (by simp[h8]),if_neg h8];by_cases h7:7≤t.Kind
   · have:t.Kind=7∨t.Kind=9:=by omega
     rw[if_pos (by rcases this with e | e <;> simp[e]),if_pos r3,if_pos h7];simp
   · have e7:¬t.Kind=7:=by omega
     have e9:¬t.Kind=9:=by omega
     rw[if_neg (by simp[h8,e7,e9]),if_neg h7];simp
theorem gwp(k:Int) :g1l k=some (g59 k):=rfl
def keyB(k:Int) :Bool:=bif decide (1≤k)then decide (k≤4)else false
def outB(n:Nat)(u:Int) :Bool:=bif decide (u < 0)then true else decide ((n:Int)≤u)
def stepV(ts:List SType)(i:Nat) :Option Int:=
 let t:=ts.getD i dSType
 if !((g13 t).getD false)then some 1
 else if !(decide (t.Name=[])) && ((ts.map (·.Name)).take i).contains t.Name then some 1
 else if(usesL t).any (outB ts.length)then some 4
 else if decide (t.Kind=8) && !(keyB (ts.getD t.Key.toNat dSType).Kind)then some 1
 else none
theorem gew {ts : List SType} {i : Nat} {t : SType} {r : Bool} (hT : ts.getD i dSType = t) (f1 : g13 t = some r) :
   stepV ts i=if(!r)=true then some 1 else if(!(decide (t.Name=[])) && ((ts.map (·.Name)).take i).contains t.Name)=true then some 1 else if(usesL t).any (outB ts.length)=true then some 4 else if(decide (t.Kind=8) && !(keyB (ts.getD t.Key.toNat dSType).Kind))=true then some 1 else none:=by
 subst hT;unfold stepV;simp only[f1,Option.getD_some]
theorem gol {γ : Type} (L : Nat → Option γ) (l : List Int) (q : Int → Bool) (bad good : γ) (hstep : ∀ i, i < l.length → L i = if q (l.getD i 0) = true then some bad else L (i + 1)) (hend : L l.length = some good) :
   L 0=some (if l.any q=true then bad else good):=by
 have:=scan L l.length (fun i=>!(q (l.getD i 0))) bad good (fun i hi=>by
   rw[hstep i hi];cases q (l.getD i 0) <;> rfl) hend
 rcases this with⟨h1,h2⟩ | ⟨h1,j,h2,h3⟩
 · rw[h1,if_neg];intro h;rw[List.any_eq_true]at h;obtain⟨x,hx,hq⟩:=h;obtain⟨j,hj,he⟩:=List.getElem_of_mem hx;have:=h2 j hj;rw[g16 hj,he,hq]at this;cases this
 · rw[h1,if_pos];rw[List.any_eq_true];refine⟨l.getD j 0,gj h2 0,by simpa using h3⟩
theorem gm0{t:SType}(h:t.Members.length*24≤reachBytes) :(usesL t).length < 9223372036854775807:=by
 unfold usesL reachBytes at*;simp only[List.length_append,List.length_map];split <;> split <;> simp <;> omega
theorem gys {L : Nat → Option (Int ⊕ Unit)} {L' : Nat → Option (Int ⊕ Unit)} {n : Nat} {step : Nat → Option Int}
   (h:∀i,i < n→L i=match step i with | some e=>some (.inl e) | none=>L (i+1)) (he:L n=some (.inr ()))
   (h':∀i,i < n→L' i=match step i with | some e=>some (.inl e) | none=>L' (i+1)) (he':L' n=some (.inr ())):∃o,L 0=some o∧L' 0=some o∧((o= .inr ()∧∀i,i < n→step i=none)∨∃i e,i < n∧step i=some e∧o= .inl e):=by
 have key:∀k i,i+k=n→∃o,L i=some o∧L' i=some o∧((o= .inr ()∧∀m,i≤m→m < n→step m=none)∨∃m e,m < n∧step m=some e∧o= .inl e):=by
   intro k
   induction k with
   | zero => intro i hi; have : i = n := by omega
             subst this;exact⟨_,he,he',.inl ⟨rfl,fun m h1 h2=>by omega⟩⟩
   | succ k ih=>
     intro i hi;rw[h i (by omega),h' i (by omega)];cases hst:step i with
     | some e=>exact⟨_,rfl,rfl,.inr ⟨i,e,by omega,hst,rfl⟩⟩
     | none=>
       obtain⟨o,o1,o2,o3⟩:=ih (i+1) (by omega);refine⟨o,o1,o2,?_⟩;rcases o3 with⟨a,b⟩ | h
       · refine .inl ⟨a,fun m h1 h2=>?_⟩;rcases Nat.lt_or_ge i m with h | h
         · exact b m h h2
         · have:m=i:=by omega
           subst this;exact hst
       · exact .inr h
 obtain⟨o,o1,o2,o3⟩:=key n 0 (by omega);refine⟨o,o1,o2,?_⟩;rcases o3 with⟨a,b⟩ | h
 · exact .inl ⟨a,fun i hi=>b i (Nat.zero_le _) hi⟩
 · exact .inr h
theorem guf{ts:List SType}{t:SType}(hu:(usesL t).any (outB ts.length)=false)(h8:t.Kind=8) :inR t.Key ts.length=true:=by
 have hm:t.Key∈usesL t:=by unfold usesL;simp[h8]
 rw[List.any_eq_false]at hu;have:=hu _ hm;unfold outB at this;unfold inR;simp only[Bool.and_eq_true,decide_eq_true_eq];by_cases h1:t.Key < 0
 · simp[h1]at this
 · simp[h1]at this;omega
theorem gyt (ts : List SType) (t : SType) (i : Nat) (hi : i < ts.length) (hr : ts.length < 9223372036854775807) :
   g1x ((i:Int),0,ts,t.Kind,t.Name,t.Low,t.High,t.Max,t.Symbols,t.Members,t.Key,t.Elem,t.Open)=some (if(g59 t.Kind && ((ts.map (·.Name)).take i).contains t.Name)=true then .inl 1 else .inr ((i:Int),ts,t.Kind,t.Name,t.Low,t.High,t.Max,t.Symbols,t.Members,t.Key,t.Elem,t.Open)):=by
 have hsc:=scan (fun k=>g1x ((i:Int),(k:Int),ts,t.Kind,t.Name,t.Low,t.High,t.Max,t.Symbols,t.Members,t.Key,t.Elem,t.Open)) i (fun k=>!(bif g59 t.Kind then decide ((ts.getD k dSType).Name=t.Name)else false)) (.inl 1) (.inr ((i:Int),ts,t.Kind,t.Name,t.Low,t.High,t.Max,t.Symbols,t.Members,t.Key,t.Elem,t.Open))
   (fun k hk=>by
     rw[g1x,if_pos (by simp;omega),gwp];simp only[oZ4,oZ3];rw[if_pos (by rw[g6 (show k < ts.length by omega)];rfl),gg (by omega),gb]
     cases (bif g59 t.Kind then decide ((ts.getD k dSType).Name=t.Name)else false) <;> rfl)
   (by rw[g1x,if_neg (by simp)])
 have e0:g1x ((i:Int),((0:Nat):Int),ts,t.Kind,t.Name,t.Low,t.High,t.Max,t.Symbols,t.Members,t.Key,t.Elem,t.Open)=g1x ((i:Int),0,ts,t.Kind,t.Name,t.Low,t.High,t.Max,t.Symbols,t.Members,t.Key,t.Elem,t.Open):=rfl;simp only[e0]at hsc;rcases hsc with⟨h1,h2⟩ | ⟨h1,j,h2,h3⟩
 · rw[h1,if_neg];rw[Bool.and_eq_true,g4a (by simp;omega)]
   rintro ⟨hn,k,hk,he⟩
   rw[g1r (·.Name) ts k dSType [] (by omega)]at he;have:=h2 k hk;rw[hn,he]at this;simp at this
 · rw[h1,if_pos];rw[Bool.and_eq_true,g4a (by simp;omega)];cases hn:g59 t.Kind with
   | false=>rw[hn]at h3;cases h3
   | true=>
     refine⟨rfl,j,h2,?_⟩;rw[g1r (·.Name) ts j dSType [] (by omega)];rw[hn]at h3
     simpa using h3
theorem gyu (ts : List SType) (t : SType) (i : Nat) (l : List Int) (hl : l.length < 9223372036854775807) :
   g2z ((i:Int),l,0,ts,t.Kind,t.Name,t.Low,t.High,t.Max,t.Symbols,t.Members,t.Key,t.Elem,t.Open)=some (if l.any (outB ts.length)=true then .inl 4 else .inr ((i:Int),ts,t.Kind,t.Name,t.Low,t.High,t.Max,t.Symbols,t.Members,t.Key,t.Elem,t.Open)):=
 gol (fun j=>g2z ((i:Int),l,(j:Int),ts,t.Kind,t.Name,t.Low,t.High,t.Max,t.Symbols,t.Members,t.Key,t.Elem,t.Open)) l (outB ts.length) (.inl 4) (.inr ((i:Int),ts,t.Kind,t.Name,t.Low,t.High,t.Max,t.Symbols,t.Members,t.Key,t.Elem,t.Open))
   (fun j hj=>by
     rw[g2z,if_pos (by simp;omega),if_pos (g6 hj)];simp only[oZ4,oZ3];rw[if_pos (by rw[g6 hj];rfl),gg (by omega)]
     rfl)
   (by rw[g2z,if_neg (by simp)])
theorem gkb{s:SSchema}(hs:s.Types.length≤reachBytes)(ht:∀t,t∈s.Types→OkT t) :∃e,g67 s=some e∧g4v s=some e∧(e=0→s.Types.length≤32∧∀i,i < s.Types.length→stepV s.Types i=none)∧((s.Types.length≤32∧∀i,i < s.Types.length→stepV s.Types i=none)→e=0):=by
 rw[g67,g4v];by_cases h32:32 < s.Types.length
 · exact⟨3,by rw[if_pos (by simp;omega)],by rw[if_pos (by simp;omega)],fun h=>(by cases h),fun h=>absurd h.1 (by omega)⟩
 · rw[if_neg (by simp;omega),if_neg (by simp;omega)];have hr:s.Types.length < 9223372036854775807:=by omega
   have:=gys (L:=fun i=>g3l (s.Types,(s.Types.length:Int),(i:Int),s.Types,setOf ((s.Types.map (·.Name)).take i))) (L':=fun i=>g2x ((i:Int),s.Types)) (n:=s.Types.length) (step:=stepV s.Types)
     (fun i hi=>by
       have hok:=ht _ (gj hi dSType);obtain⟨r,f1,f2,f3⟩:=ggm hok;rw[g3l,if_pos (by simp;omega),if_pos (g6 hi)];simp only[oZ4,oZ3,gb];generalize hT:s.Types.getD i dSType=t at*;rw[gew hT f1,f1];simp only[oZ3,gk5];cases r with
       | false=>rw[if_pos (show(bif (!false)then true else bif (!(decide (t.Name=[])))then((s.Types.map (·.Name)).take i).contains t.Name else false)=true from rfl),if_pos (show(!false)=true from rfl)]
       | true=>
         rw[if_neg (show ¬((!true)=true) by simp)];by_cases hd:(!(decide (t.Name=[])) && ((s.Types.map (·.Name)).take i).contains t.Name)=true
         · have hd':(bif (!(decide (t.Name=[])))then((s.Types.map (·.Name)).take i).contains t.Name else false)=true:=by
             simp only[Bool.and_eq_true]at hd;rw[hd.1,hd.2];rfl
           rw[if_pos (show(bif (!true)then true else bif (!(decide (t.Name=[])))then((s.Types.map (·.Name)).take i).contains t.Name else false)=true from hd'),if_pos hd]
         · have hd':¬((bif (!(decide (t.Name=[])))then((s.Types.map (·.Name)).take i).contains t.Name else false)=true):=by
             intro hc;apply hd;cases h1:(!(decide (t.Name=[])))with
             | true=>rw[h1]at hc;simpa using hc
             | false=>rw[h1]at hc;cases hc
           rw[if_neg (show ¬((bif (!true)then true else bif (!(decide (t.Name=[])))then((s.Types.map (·.Name)).take i).contains t.Name else false)=true)from hd'),if_neg hd,gwn hok.mems];simp only[oZ3];have hul:=gm0 hok.mems
           have hin:=gol (fun j=>g2j (s.Types,(s.Types.length:Int),(i:Int),usesL t,((usesL t).length:Int),(j:Int),s.Types,addS (setOf ((s.Types.map (·.Name)).take i)) t.Name,t.Kind,t.Name,t.Low,t.High,t.Max,t.Symbols,t.Members,t.Key,t.Elem,t.Open)) (usesL t) (outB s.Types.length) (.inl 4)
             (.inr (s.Types,(s.Types.length:Int),(i:Int),s.Types,addS (setOf ((s.Types.map (·.Name)).take i)) t.Name,t.Kind,t.Name,t.Low,t.High,t.Max,t.Symbols,t.Members,t.Key,t.Elem,t.Open))
             (fun j hj=>by
               rw[g2j,if_pos (by simp;omega),if_pos (g6 hj),gg (by omega)]
               rfl)
             (by rw[g2j,if_neg (by simp)])
           have e0:g2j (s.Types,(s.Types.length:Int),(i:Int),usesL t,((usesL t).length:Int),((0:Nat):Int),s.Types,addS (setOf ((s.Types.map (·.Name)).take i)) t.Name,t.Kind,t.Name,t.Low,t.High,t.Max,t.Symbols,t.Members,t.Key,t.Elem,t.Open)=g2j (s.Types,(s.Types.length:Int),(i:Int),usesL t,((usesL t).length:Int),0,s.Types,addS (setOf ((s.Types.map (·.Name)).take i)) t.Name,t.Kind,t.Name,t.Low,t.High,t.Max,t.Symbols,t.Members,t.Key,t.Elem,t.Open):=rfl
           rw[←e0,hin];cases hu:(usesL t).any (outB s.Types.length)with
           | true=>rfl
           | false=>
             simp only[Bool.false_eq_true,if_false,oZ3];have hsucc:addS (setOf ((s.Types.map (·.Name)).take i)) t.Name=setOf ((s.Types.map (·.Name)).take (i+1)):=by
               have h1:=gk6 (l:=s.Types.map (·.Name)) (i:=i) (by simpa using hi);rw[g1r (·.Name) s.Types i dSType [] hi,hT]at h1;exact h1
             rw[hsucc,gg (by omega)];by_cases h8:t.Kind=8
             · have hk:=guf hu h8;rw[if_pos (by rw[hk];rfl),if_pos (by rw[hk];rfl)];simp only[h8,decide_true,cond_true,Bool.true_and,keyB];generalize (s.Types.getD t.Key.toNat dSType).Kind=k;by_cases q1:k < 1
               · rw[if_pos (by simp[q1]),if_pos (by simp;omega)]
               · by_cases q2:4 < k
                 · rw[if_pos (by simp[q1,q2]),if_pos (by simp;omega)]
                 · rw[if_neg (by simp[q1,q2]),if_neg (by simp;omega)]
             · have e8:decide (t.Kind=8)=false:=by simp[h8]
               simp only[e8,Bool.not_false,Bool.or_true,if_true,Bool.false_and,cond_false,Bool.false_eq_true,if_false])
     (by rw[g3l,if_neg (by simp)])
     (fun i hi=>by
       have hok:=ht _ (gj hi dSType);obtain⟨r,f1,f2,f3⟩:=ggm hok;rw[g2x,if_pos (by simp;omega),if_pos (g6 hi)];simp only[oZ4,oZ3,gb];generalize hT:s.Types.getD i dSType=t at*;rw[gew hT f1,f2,gyt s.Types t i hi hr];simp only[oZ3];cases r with
       | false=>rfl
       | true=>
         obtain⟨k1,k2,k3⟩:=f3 rfl;rw[if_neg (show ¬((!true)=true) by simp),if_neg (show ¬((!true)=true) by simp),k3];cases hd:(!(decide (t.Name=[])) && ((s.Types.map (·.Name)).take i).contains t.Name)with
         | true=>rfl
         | false=>
           simp only[Bool.false_eq_true,if_false,gii];rw[gwo hok.mems k2];simp only[oZ3];rw[gyu s.Types t i (usesL t) (gm0 hok.mems)];cases hu:(usesL t).any (outB s.Types.length)with
           | true=>rfl
           | false=>
             simp only[Bool.false_eq_true,if_false,oZ3];rw[gg (by omega)];by_cases h8:t.Kind=8
             · have hk:=guf hu h8;rw[if_pos (by rw[hk];rfl)];simp only[h8,decide_true,if_true,g98,oZ3,cond_true,Bool.true_and];show(if(!(keyB (s.Types.getD t.Key.toNat dSType).Kind))=true then some (.inl 1)else g2x (((i+1:Nat):Int),s.Types))=_;cases keyB (s.Types.getD t.Key.toNat dSType).Kind <;> rfl
             · have e8:decide (t.Kind=8)=false:=by simp[h8]
               rw[e8]
               simp only[Bool.not_false,Bool.or_true,if_true,Bool.false_and,cond_false,Bool.false_eq_true,if_false,oZ3])
     (by rw[g2x,if_neg (by simp)])
   obtain⟨o,h1,h2,h3⟩:=this;have h1':g3l (s.Types,(s.Types.length:Int),0,s.Types,[])=some o:=h1;have h2':g2x (0,s.Types)=some o:=h2;rw[h1',h2'];rcases h3 with⟨rfl,h4⟩ | ⟨i,e,h4,h5,rfl⟩
   · exact⟨_,rfl,rfl,fun _=>⟨by omega,h4⟩,fun _=>rfl⟩
   · refine⟨_,rfl,rfl,fun h0=>?_,fun h=>by have:=h.2 i h4;rw[h5]at this;cases this⟩
     exfalso
     subst h0;unfold stepV at h5;simp only at h5;split at h5
     · cases h5
     · split at h5
       · cases h5
       · split at h5
         · cases h5
         · split at h5 <;> cases h5
theorem gse{s:SSchema}(hs:s.Types.length≤reachBytes)(ht:∀t,t∈s.Types→OkT t) :∃e,g67 s=some e∧g4v s=some e∧(e=0→s.Types.length≤32∧∀i,i < s.Types.length→stepV s.Types i=none):=by
 obtain⟨e,h1,h2,h3,_⟩:=gkb hs ht;exact⟨e,h1,h2,h3⟩
theorem gsf{ts:List SType}(hT:∀t,t∈ts→OkT t)(hv:∀i,i < ts.length→stepV ts i=none) :∀t,t∈ts→1≤t.Kind∧t.Kind≤9:=by
 intro t ht;obtain⟨i,hi,he⟩:=List.getElem_of_mem ht;have hg:ts.getD i dSType=t:=by rw[g16 hi];exact he
 obtain⟨r,f1,_,f3⟩:=ggm (hT t ht);have h:=hv i hi;rw[gew hg f1]at h;cases r with
 | false=>rw[if_pos (show(!false)=true from rfl)]at h;cases h
 | true=>exact⟨(f3 rfl).1,(f3 rfl).2.1⟩
end
end Go.Proofs.YthnmepafpikaiaaGreat
