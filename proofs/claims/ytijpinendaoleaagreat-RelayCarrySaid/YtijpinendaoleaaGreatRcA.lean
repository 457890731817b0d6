/- The functions of the program as functions of Lean, that its code does what they say, and what they answer; part A. -/
import Derived.Test.YtijpinendaoleaaGreatProg
import Derived.KernelRfl
import Derived.Shelf.SlGeneric
import Derived.Shelf.SlLaysF0
import Derived.Shelf.SlSortCmp.WholeK
import Derived.Lib.Small
import Derived.Test.YtijpinendaoleaaGreatRcLD

namespace Go.Proofs.YtijpinendaoleaaGreat
set_option linter.all false
section
open Go Go.Proofs.YtijpinendaoleaaGreat.Shv
open Tryz
set_option maxRecDepth 100000
structure Sheaveref07Part where
 ID:Int
 Type_:Int
 Flag:Int
structure Sheaveref07Node where
 Kind:Int
 A:Int
 B:Int
 C:Int
 Parts:List Sheaveref07Part
structure Sheaveref07Draft where
 Nodes:List Sheaveref07Node
structure SSymbol where
 ID:Int
 Name:List UInt8
structure SRaw where
 ID:Int
 Data:List UInt8
structure SValue where
 Kind:Int
 Bool_:Bool
 Int_:Int
 Str:List UInt8
 ID:Int
 Keys:List SValue
 Items:List SValue
 Rest:List SRaw
structure SMember where
 ID:Int
 Name:List UInt8
 Type_:Int
 Critical:Bool
 HasDefault:Bool
 Default:SValue
structure SType where
 Kind:Int
 Name:List UInt8
 Low:Int
 High:Int
 Max:Int
 Symbols:List SSymbol
 Members:List SMember
 Key:Int
 Elem:Int
 Open:Bool
structure SSchema where
 Types:List SType
structure SField where
 ID:Int
 Critical:Bool
 Data:List UInt8
structure SFailure where
 Path:List Int
 Reason:Int
structure EncodeEntry where
 id:Int
 text:List UInt8
structure RelayStep where
 t:Int
 number:Int
structure Sheaveref10Result where
 Value:SValue
 Failure:SFailure
 OK:Bool
structure EncodeReader where
 s:SSchema
structure Sheaveref08Draft where
 S:Sheaveref07Draft
 T:Int
 C:List Int
structure Sheavelaw13Two where
 D:Sheaveref08Draft
 C:List Int
abbrev ixSheaveref07Node :Nat:=1
abbrev ixSheaveref07Part :Nat:=2
abbrev ixSheaveref08Draft :Nat:=15
abbrev ixSheavelaw13Two :Nat:=16
def dSheaveref07Part :Sheaveref07Part:=⟨0,0,0⟩
def dSheaveref07Node :Sheaveref07Node:=⟨0,0,0,0,[]⟩
def dSheaveref07Draft :Sheaveref07Draft:=⟨[]⟩
def dSSymbol :SSymbol:=⟨0,[]⟩
def dSRaw :SRaw:=⟨0,[]⟩
def dSValue :SValue:=⟨0,false,0,[],0,[],[],[]⟩
def dSMember :SMember:=⟨0,[],0,false,false,dSValue⟩
def dSType :SType:=⟨0,[],0,0,0,[],[],0,0,false⟩
def dSSchema :SSchema:=⟨[]⟩
def dSField :SField:=⟨0,false,[]⟩
def dSFailure :SFailure:=⟨[],0⟩
def dEncodeEntry :EncodeEntry:=⟨0,[]⟩
def dRelayStep :RelayStep:=⟨0,0⟩
def dSheaveref10Result :Sheaveref10Result:=⟨dSValue,dSFailure,false⟩
def dEncodeReader :EncodeReader:=⟨dSSchema⟩
def dSheaveref08Draft :Sheaveref08Draft:=⟨dSheaveref07Draft,0,[]⟩
def dSheavelaw13Two :Sheavelaw13Two:=⟨dSheaveref08Draft,[]⟩
def uD :Nat→Type
 | 0=>Sheaveref07Draft
 | 1=>Sheaveref07Node
 | 2=>Sheaveref07Part
 | 3=>SType
 | 4=>SSymbol
 | 5=>SMember
 | 6=>SValue
 | 7=>SRaw
 | 8=>SSchema
 | 9=>SField
 | 10=>SFailure
 | 11=>EncodeEntry
 | 12=>RelayStep
 | 13=>Sheaveref10Result
 | 14=>EncodeReader
 | 15=>Sheaveref08Draft
 | 16=>Sheavelaw13Two
 | _=>Bool
def uTys :Nat→List Ty
 | 0=>[.slice (.nm 1)]
 | 1=>[.int .u8,.int .u8,.int .u8,.int .u8,.slice (.nm 2)]
 | 2=>[.int .u8,.int .u8,.int .u8]
 | 3=>[.int .i64,.str,.int .i64,.int .i64,.int .i64,.slice (.nm 4),.slice (.nm 5),.int .i64,.int .i64,.bool]
 | 4=>[.int .i64,.str]
 | 5=>[.int .i64,.str,.int .i64,.bool,.bool,.int .i64,.bool,.int .i64,.str,.int .i64,.slice (.nm 6),.slice (.nm 6),.slice (.nm 7)]
 | 6=>[.int .i64,.bool,.int .i64,.str,.int .i64,.slice (.nm 6),.slice (.nm 6),.slice (.nm 7)]
 | 7=>[.int .i64,.str]
 | 8=>[.slice (.nm 3)]
 | 9=>[.int .i64,.bool,.str]
 | 10=>[.slice (.int .i64),.int .i64]
 | 11=>[.int .i64,.str]
 | 12=>[.int .i64,.int .i64]
 | 13=>[.int .i64,.bool,.int .i64,.str,.int .i64,.slice (.nm 6),.slice (.nm 6),.slice (.nm 7),.slice (.int .i64),.int .i64,.bool]
 | 14=>[.slice (.nm 3)]
 | 15=>[.slice (.nm 1),.int .u8,.slice (.int .u8)]
 | 16=>[.slice (.nm 1),.int .u8,.slice (.int .u8),.slice (.int .u8)]
 | _=>[.bool]
def uFlds :(n:Nat)→uD n→List (Cell uD)
 | 0,(x:Sheaveref07Draft)=>[⟨.slice (.nm 1),x.Nodes⟩]
 | 1,(x:Sheaveref07Node)=>[⟨.int .u8,x.Kind⟩,⟨.int .u8,x.A⟩,⟨.int .u8,x.B⟩,⟨.int .u8,x.C⟩,⟨.slice (.nm 2),x.Parts⟩]
 | 2,(x:Sheaveref07Part)=>[⟨.int .u8,x.ID⟩,⟨.int .u8,x.Type_⟩,⟨.int .u8,x.Flag⟩]
 | 3,(x:SType)=>[⟨.int .i64,x.Kind⟩,⟨.str,x.Name⟩,⟨.int .i64,x.Low⟩,⟨.int .i64,x.High⟩,⟨.int .i64,x.Max⟩,⟨.slice (.nm 4),x.Symbols⟩,⟨.slice (.nm 5),x.Members⟩,⟨.int .i64,x.Key⟩,⟨.int .i64,x.Elem⟩,⟨.bool,x.Open⟩]
 | 4,(x:SSymbol)=>[⟨.int .i64,x.ID⟩,⟨.str,x.Name⟩]
 | 5,(x:SMember)=>[⟨.int .i64,x.ID⟩,⟨.str,x.Name⟩,⟨.int .i64,x.Type_⟩,⟨.bool,x.Critical⟩,⟨.bool,x.HasDefault⟩,⟨.int .i64,x.Default.Kind⟩,⟨.bool,x.Default.Bool_⟩,⟨.int .i64,x.Default.Int_⟩,⟨.str,x.Default.Str⟩,⟨.int .i64,x.Default.ID⟩,⟨.slice (.nm 6),x.Default.Keys⟩,⟨.slice (.nm 6),x.Default.Items⟩,⟨.slice (.nm 7),x.Default.Rest⟩]
 | 6,(x:SValue)=>[⟨.int .i64,x.Kind⟩,⟨.bool,x.Bool_⟩,⟨.int .i64,x.Int_⟩,⟨.str,x.Str⟩,⟨.int .i64,x.ID⟩,⟨.slice (.nm 6),x.Keys⟩,⟨.slice (.nm 6),x.Items⟩,⟨.slice (.nm 7),x.Rest⟩]
 | 7,(x:SRaw)=>[⟨.int .i64,x.ID⟩,⟨.str,x.Data⟩]
 | 8,(x:SSchema)=>[⟨.slice (.nm 3),x.Types⟩]
 | 9,(x:SField)=>[⟨.int .i64,x.ID⟩,⟨.bool,x.Critical⟩,⟨.str,x.Data⟩]
 | 10,(x:SFailure)=>[⟨.slice (.int .i64),x.Path⟩,⟨.int .i64,x.Reason⟩]
 | 11,(x:EncodeEntry)=>[⟨.int .i64,x.id⟩,⟨.str,x.text⟩]
 | 12,(x:RelayStep)=>[⟨.int .i64,x.t⟩,⟨.int .i64,x.number⟩]
 | 13,(x:Sheaveref10Result)=>[⟨.int .i64,x.Value.Kind⟩,⟨.bool,x.Value.Bool_⟩,⟨.int .i64,x.Value.Int_⟩,⟨.str,x.Value.Str⟩,⟨.int .i64,x.Value.ID⟩,⟨.slice (.nm 6),x.Value.Keys⟩,⟨.slice (.nm 6),x.Value.Items⟩,⟨.slice (.nm 7),x.Value.Rest⟩,⟨.slice (.int .i64),x.Failure.Path⟩,⟨.int .i64,x.Failure.Reason⟩,⟨.bool,x.OK⟩]
 | 14,(x:EncodeReader)=>[⟨.slice (.nm 3),x.s.Types⟩]
 | 15,(x:Sheaveref08Draft)=>[⟨.slice (.nm 1),x.S.Nodes⟩,⟨.int .u8,x.T⟩,⟨.slice (.int .u8),x.C⟩]
 | 16,(x:Sheavelaw13Two)=>[⟨.slice (.nm 1),x.D.S.Nodes⟩,⟨.int .u8,x.D.T⟩,⟨.slice (.int .u8),x.D.C⟩,⟨.slice (.int .u8),x.C⟩]
 | _+17,(x:Bool)=>[⟨.bool,x⟩]
def uMake :(n:Nat)→List (Cell uD)→Option (uD n)
 | 0,l=>match Hs.dec uD (uTys 0) l with
   | some h=>some (⟨h⟩:Sheaveref07Draft)
   | none=>none
 | 1,l=>match Hs.dec uD (uTys 1) l with
   | some h=>some (⟨h.1,h.2.1,h.2.2.1,h.2.2.2.1,h.2.2.2.2⟩:Sheaveref07Node)
   | none=>none
 | 2,l=>match Hs.dec uD (uTys 2) l with
   | some h=>some (⟨h.1,h.2.1,h.2.2⟩:Sheaveref07Part)
   | none=>none
 | 3,l=>match Hs.dec uD (uTys 3) l with
   | some h=>some (⟨h.1,h.2.1,h.2.2.1,h.2.2.2.1,h.2.2.2.2.1,h.2.2.2.2.2.1,h.2.2.2.2.2.2.1,h.2.2.2.2.2.2.2.1,h.2.2.2.2.2.2.2.2.1,h.2.2.2.2.2.2.2.2.2⟩:SType)
   | none=>none
 | 4,l=>match Hs.dec uD (uTys 4) l with
   | some h=>some (⟨h.1,h.2⟩:SSymbol)
   | none=>none
 | 5,l=>match Hs.dec uD (uTys 5) l with
   | some h=>some (⟨h.1,h.2.1,h.2.2.1,h.2.2.2.1,h.2.2.2.2.1,(⟨h.2.2.2.2.2.1,h.2.2.2.2.2.2.1,h.2.2.2.2.2.2.2.1,h.2.2.2.2.2.2.2.2.1,h.2.2.2.2.2.2.2.2.2.1,h.2.2.2.2.2.2.2.2.2.2.1,h.2.2.2.2.2.2.2.2.2.2.2.1,h.2.2.2.2.2.2.2.2.2.2.2.2⟩:SValue)⟩:SMember)
   | none=>none
 | 6,l=>match Hs.dec uD (uTys 6) l with
   | some h=>some (⟨h.1,h.2.1,h.2.2.1,h.2.2.2.1,h.2.2.2.2.1,h.2.2.2.2.2.1,h.2.2.2.2.2.2.1,h.2.2.2.2.2.2.2⟩:SValue)
   | none=>none
 | 7,l=>match Hs.dec uD (uTys 7) l with
   | some h=>some (⟨h.1,h.2⟩:SRaw)
   | none=>none
 | 8,l=>match Hs.dec uD (uTys 8) l with
   | some h=>some (⟨h⟩:SSchema)
   | none=>none
 | 9,l=>match Hs.dec uD (uTys 9) l with
   | some h=>some (⟨h.1,h.2.1,h.2.2⟩:SField)
   | none=>none
 | 10,l=>match Hs.dec uD (uTys 10) l with
   | some h=>some (⟨h.1,h.2⟩:SFailure)
   | none=>none
 | 11,l=>match Hs.dec uD (uTys 11) l with
   | some h=>some (⟨h.1,h.2⟩:EncodeEntry)
   | none=>none
 | 12,l=>match Hs.dec uD (uTys 12) l with
   | some h=>some (⟨h.1,h.2⟩:RelayStep)
   | none=>none
 | 13,l=>match Hs.dec uD (uTys 13) l with
   | some h=>some (⟨(⟨h.1,h.2.1,h.2.2.1,h.2.2.2.1,h.2.2.2.2.1,h.2.2.2.2.2.1,h.2.2.2.2.2.2.1,h.2.2.2.2.2.2.2.1⟩:SValue),(⟨h.2.2.2.2.2.2.2.2.1,h.2.2.2.2.2.2.2.2.2.1⟩:SFailure),h.2.2.2.2.2.2.2.2.2.2⟩:Sheaveref10Result)
   | none=>none
 | 14,l=>match Hs.dec uD (uTys 14) l with
   | some h=>some (⟨(⟨h⟩:SSchema)⟩:EncodeReader)
   | none=>none
 | 15,l=>match Hs.dec uD (uTys 15) l with
   | some h=>some (⟨(⟨h.1⟩:Sheaveref07Draft),h.2.1,h.2.2⟩:Sheaveref08Draft)
   | none=>none
 | 16,l=>match Hs.dec uD (uTys 16) l with
   | some h=>some (⟨(⟨(⟨h.1⟩:Sheaveref07Draft),h.2.1,h.2.2.1⟩:Sheaveref08Draft),h.2.2.2⟩:Sheavelaw13Two)
   | none=>none
 | _+17,l=>match Hs.dec uD [.bool] l with
   | some (h:Bool)=>some h
   | none=>none
def eSheaveref07Part(x:Sheaveref07Part) :List T:=[.int .u8 x.ID,.int .u8 x.Type_,.int .u8 x.Flag]
def eSheaveref07Node(x:Sheaveref07Node) :List T:=[.int .u8 x.Kind,.int .u8 x.A,.int .u8 x.B,.int .u8 x.C,.slice (x.Parts.map eSheaveref07Part)]
def eSheaveref07Draft(x:Sheaveref07Draft) :List T:=[.slice (x.Nodes.map eSheaveref07Node)]
def eSSymbol(x:SSymbol) :List T:=[.int .i64 x.ID,.str x.Name]
def eSRaw(x:SRaw) :List T:=[.int .i64 x.ID,.str x.Data]
def SValue.eta(x:SValue) :SValue:=⟨x.Kind,x.Bool_,x.Int_,x.Str,x.ID,x.Keys,x.Items,x.Rest⟩
theorem SValue.ge(x:SValue) :x.eta=x:=by cases x;rfl
mutual
def eSValue :SValue→List T
 | ⟨a0,a1,a2,a3,a4,a5,a6,a7⟩=>[.int .i64 a0,.bool a1,.int .i64 a2,.str a3,.int .i64 a4,.slice (eSValueL a5),.slice (eSValueL a6),.slice (a7.map eSRaw)]
def eSValueL :List SValue→List (List T)
 | []=>[]
 | v::r=>eSValue v::eSValueL r
end
theorem gk9 :∀l,eSValueL l=l.map eSValue
 | []=>rfl
 | v::r=>by simp only[eSValueL,List.map];rw[gk9 r]
theorem gwd(x:SValue) :eSValue x=[.int .i64 x.Kind,.bool x.Bool_,.int .i64 x.Int_,.str x.Str,.int .i64 x.ID,.slice (x.Keys.map eSValue),.slice (x.Items.map eSValue),.slice (x.Rest.map eSRaw)]:=by cases x;simp only[eSValue,gk9]
def eSMember(x:SMember) :List T:=[.int .i64 x.ID,.str x.Name,.int .i64 x.Type_,.bool x.Critical,.bool x.HasDefault,.int .i64 x.Default.Kind,.bool x.Default.Bool_,.int .i64 x.Default.Int_,.str x.Default.Str,.int .i64 x.Default.ID,.slice (x.Default.Keys.map eSValue),.slice (x.Default.Items.map eSValue),.slice (x.Default.Rest.map eSRaw)]
def eSType(x:SType) :List T:=[.int .i64 x.Kind,.str x.Name,.int .i64 x.Low,.int .i64 x.High,.int .i64 x.Max,.slice (x.Symbols.map eSSymbol),.slice (x.Members.map eSMember),.int .i64 x.Key,.int .i64 x.Elem,.bool x.Open]
def eSSchema(x:SSchema) :List T:=[.slice (x.Types.map eSType)]
def eSField(x:SField) :List T:=[.int .i64 x.ID,.bool x.Critical,.str x.Data]
def eSFailure(x:SFailure) :List T:=[.slice (x.Path.map (fun y=>[.int .i64 y])),.int .i64 x.Reason]
def eEncodeEntry(x:EncodeEntry) :List T:=[.int .i64 x.id,.str x.text]
def eRelayStep(x:RelayStep) :List T:=[.int .i64 x.t,.int .i64 x.number]
def eSheaveref10Result(x:Sheaveref10Result) :List T:=[.int .i64 x.Value.Kind,.bool x.Value.Bool_,.int .i64 x.Value.Int_,.str x.Value.Str,.int .i64 x.Value.ID,.slice (x.Value.Keys.map eSValue),.slice (x.Value.Items.map eSValue),.slice (x.Value.Rest.map eSRaw),.slice (x.Failure.Path.map (fun y=>[.int .i64 y])),.int .i64 x.Failure.Reason,.bool x.OK]
def eEncodeReader(x:EncodeReader) :List T:=[.slice (x.s.Types.map eSType)]
def eSheaveref08Draft(x:Sheaveref08Draft) :List T:=[.slice (x.S.Nodes.map eSheaveref07Node),.int .u8 x.T,.slice (x.C.map (fun y=>[.int .u8 y]))]
def eSheavelaw13Two(x:Sheavelaw13Two) :List T:=[.slice (x.D.S.Nodes.map eSheaveref07Node),.int .u8 x.D.T,.slice (x.D.C.map (fun y=>[.int .u8 y])),.slice (x.C.map (fun y=>[.int .u8 y]))]
def uEnc :(n:Nat)→uD n→List T
 | 0,x=>eSheaveref07Draft x
 | 1,x=>eSheaveref07Node x
 | 2,x=>eSheaveref07Part x
 | 3,x=>eSType x
 | 4,x=>eSSymbol x
 | 5,x=>eSMember x
 | 6,x=>eSValue x
 | 7,x=>eSRaw x
 | 8,x=>eSSchema x
 | 9,x=>eSField x
 | 10,x=>eSFailure x
 | 11,x=>eEncodeEntry x
 | 12,x=>eRelayStep x
 | 13,x=>eSheaveref10Result x
 | 14,x=>eEncodeReader x
 | 15,x=>eSheaveref08Draft x
 | 16,x=>eSheavelaw13Two x
 | _+17,(x:Bool)=>[.bool x]
def Un :Uni where
 D:=uD
 dfl:=fun n=>match n with
   | 0=>dSheaveref07Draft
   | 1=>dSheaveref07Node
   | 2=>dSheaveref07Part
   | 3=>dSType
   | 4=>dSSymbol
   | 5=>dSMember
   | 6=>dSValue
   | 7=>dSRaw
   | 8=>dSSchema
   | 9=>dSField
   | 10=>dSFailure
   | 11=>dEncodeEntry
   | 12=>dRelayStep
   | 13=>dSheaveref10Result
   | 14=>dEncodeReader
   | 15=>dSheaveref08Draft
   | 16=>dSheavelaw13Two
   | _+17=>false
 flds:=uFlds
 make:=uMake
 tys:=uTys
 enc:=uEnc
 enc_eq:=fun n x=>match n,x with
   | 0,_=>rfl
   | 1,_=>rfl
   | 2,_=>rfl
   | 3,_=>rfl
   | 4,_=>rfl
   | 5,_=>rfl
   | 6,x=>gwd x
   | 7,_=>rfl
   | 8,_=>rfl
   | 9,_=>rfl
   | 10,_=>rfl
   | 11,_=>rfl
   | 12,_=>rfl
   | 13,_=>rfl
   | 14,_=>rfl
   | 15,_=>rfl
   | 16,_=>rfl
   | _+17,_=>rfl
 mk_eq:=fun n l x h=>match n,x,h with
   | 0,x,h=>by
     simp only[uMake]at h;split at h
     · rename_i hh hd;cases h;exact Hs.dec_cells hd
     · cases h
   | 1,x,h=>by
     simp only[uMake]at h;split at h
     · rename_i hh hd;cases h;exact Hs.dec_cells hd
     · cases h
   | 2,x,h=>by
     simp only[uMake]at h;split at h
     · rename_i hh hd;cases h;exact Hs.dec_cells hd
     · cases h
   | 3,x,h=>by
     simp only[uMake]at h;split at h
     · rename_i hh hd;cases h;exact Hs.dec_cells hd
     · cases h
   | 4,x,h=>by
     simp only[uMake]at h;split at h
     · rename_i hh hd;cases h;exact Hs.dec_cells hd
     · cases h
   | 5,x,h=>by
     simp only[uMake]at h;split at h
     · rename_i hh hd;cases h;exact Hs.dec_cells hd
     · cases h
   | 6,x,h=>by
     simp only[uMake]at h;split at h
     · rename_i hh hd;cases h;exact Hs.dec_cells hd
     · cases h
   | 7,x,h=>by
     simp only[uMake]at h;split at h
     · rename_i hh hd;cases h;exact Hs.dec_cells hd
     · cases h
   | 8,x,h=>by
     simp only[uMake]at h;split at h
     · rename_i hh hd;cases h;exact Hs.dec_cells hd
     · cases h
   | 9,x,h=>by
     simp only[uMake]at h;split at h
     · rename_i hh hd;cases h;exact Hs.dec_cells hd
     · cases h
   | 10,x,h=>by
     simp only[uMake]at h;split at h
     · rename_i hh hd;cases h;exact Hs.dec_cells hd
     · cases h
   | 11,x,h=>by
     simp only[uMake]at h;split at h
     · rename_i hh hd;cases h;exact Hs.dec_cells hd
     · cases h
   | 12,x,h=>by
     simp only[uMake]at h;split at h
     · rename_i hh hd;cases h;exact Hs.dec_cells hd
     · cases h
   | 13,x,h=>by
     simp only[uMake]at h;split at h
     · rename_i hh hd;cases h;exact Hs.dec_cells hd
     · cases h
   | 14,x,h=>by
     simp only[uMake]at h;split at h
     · rename_i hh hd;cases h;exact Hs.dec_cells hd
     · cases h
   | 15,x,h=>by
     simp only[uMake]at h;split at h
     · rename_i hh hd;cases h;exact Hs.dec_cells hd
     · cases h
   | 16,x,h=>by
     simp only[uMake]at h;split at h
     · rename_i hh hd;cases h;exact Hs.dec_cells hd
     · cases h
   | _+17,x,h=>by
     simp only[uMake]at h;split at h
     · rename_i hh hd;cases h;exact Hs.dec_cells hd
     · cases h
 tys_eq:=fun n x=>match n,x with
   | 0,_=>rfl
   | 1,_=>rfl
   | 2,_=>rfl
   | 3,_=>rfl
   | 4,_=>rfl
   | 5,_=>rfl
   | 6,_=>rfl
   | 7,_=>rfl
   | 8,_=>rfl
   | 9,_=>rfl
   | 10,_=>rfl
   | 11,_=>rfl
   | 12,_=>rfl
   | 13,_=>rfl
   | 14,_=>rfl
   | 15,_=>rfl
   | 16,_=>rfl
   | _+17,_=>rfl
 tyOf:=fun e=>match e with
   | 3=>some (.int .i64)
   | 5=>some (.int .u8)
   | 9=>some .str
   | 41=>some (.nm 6)
   | 69=>some (.slice (.int .i64))
   | 89=>some (.nm 3)
   | 94=>some (.nm 4)
   | 100=>some (.nm 7)
   | 127=>some (.nm 5)
   | 155=>some (.nm 12)
   | 194=>some (.nm 9)
   | 233=>some (.nm 11)
   | _=>none
 own:=[([false,true,true,false],1,.int .i64)]
 pos:=fun n=>match n with
   | 0=>by decide
   | 1=>by decide
   | 2=>by decide
   | 3=>by decide
   | 4=>by decide
   | 5=>by decide
   | 6=>by decide
   | 7=>by decide
   | 8=>by decide
   | 9=>by decide
   | 10=>by decide
   | 11=>by decide
   | 12=>by decide
   | 13=>by decide
   | 14=>by decide
   | 15=>by decide
   | 16=>by decide
   | _+17=>Nat.zero_lt_one
theorem g14v :Un.Total:=fun n l h=>match n,h with
 | 0,h=>by
   obtain⟨x,hx⟩:=Hs.dec_ty (D:=uD) (ts:=uTys 0) h;exact⟨_,by show uMake 0 l=_;simp only[uMake,hx];rfl⟩
 | 1,h=>by
   obtain⟨x,hx⟩:=Hs.dec_ty (D:=uD) (ts:=uTys 1) h;exact⟨_,by show uMake 1 l=_;simp only[uMake,hx];rfl⟩
 | 2,h=>by
   obtain⟨x,hx⟩:=Hs.dec_ty (D:=uD) (ts:=uTys 2) h;exact⟨_,by show uMake 2 l=_;simp only[uMake,hx];rfl⟩
 | 3,h=>by
   obtain⟨x,hx⟩:=Hs.dec_ty (D:=uD) (ts:=uTys 3) h;exact⟨_,by show uMake 3 l=_;simp only[uMake,hx];rfl⟩
 | 4,h=>by
   obtain⟨x,hx⟩:=Hs.dec_ty (D:=uD) (ts:=uTys 4) h;exact⟨_,by show uMake 4 l=_;simp only[uMake,hx];rfl⟩
 | 5,h=>by
   obtain⟨x,hx⟩:=Hs.dec_ty (D:=uD) (ts:=uTys 5) h;exact⟨_,by show uMake 5 l=_;simp only[uMake,hx];rfl⟩
 | 6,h=>by
   obtain⟨x,hx⟩:=Hs.dec_ty (D:=uD) (ts:=uTys 6) h;exact⟨_,by show uMake 6 l=_;simp only[uMake,hx];rfl⟩
 | 7,h=>by
   obtain⟨x,hx⟩:=Hs.dec_ty (D:=uD) (ts:=uTys 7) h;exact⟨_,by show uMake 7 l=_;simp only[uMake,hx];rfl⟩
 | 8,h=>by
   obtain⟨x,hx⟩:=Hs.dec_ty (D:=uD) (ts:=uTys 8) h;exact⟨_,by show uMake 8 l=_;simp only[uMake,hx];rfl⟩
 | 9,h=>by
   obtain⟨x,hx⟩:=Hs.dec_ty (D:=uD) (ts:=uTys 9) h;exact⟨_,by show uMake 9 l=_;simp only[uMake,hx];rfl⟩
 | 10,h=>by
   obtain⟨x,hx⟩:=Hs.dec_ty (D:=uD) (ts:=uTys 10) h;exact⟨_,by show uMake 10 l=_;simp only[uMake,hx];rfl⟩
 | 11,h=>by
   obtain⟨x,hx⟩:=Hs.dec_ty (D:=uD) (ts:=uTys 11) h;exact⟨_,by show uMake 11 l=_;simp only[uMake,hx];rfl⟩
 | 12,h=>by
   obtain⟨x,hx⟩:=Hs.dec_ty (D:=uD) (ts:=uTys 12) h;exact⟨_,by show uMake 12 l=_;simp only[uMake,hx];rfl⟩
 | 13,h=>by
   obtain⟨x,hx⟩:=Hs.dec_ty (D:=uD) (ts:=uTys 13) h;exact⟨_,by show uMake 13 l=_;simp only[uMake,hx];rfl⟩
 | 14,h=>by
   obtain⟨x,hx⟩:=Hs.dec_ty (D:=uD) (ts:=uTys 14) h;exact⟨_,by show uMake 14 l=_;simp only[uMake,hx];rfl⟩
 | 15,h=>by
   obtain⟨x,hx⟩:=Hs.dec_ty (D:=uD) (ts:=uTys 15) h;exact⟨_,by show uMake 15 l=_;simp only[uMake,hx];rfl⟩
 | 16,h=>by
   obtain⟨x,hx⟩:=Hs.dec_ty (D:=uD) (ts:=uTys 16) h;exact⟨_,by show uMake 16 l=_;simp only[uMake,hx];rfl⟩
 | m+17,h=>by
   obtain⟨x,hx⟩:=Hs.dec_ty (D:=uD) (ts:=[.bool]) h;exact⟨x,by show uMake (m+17) l=_;simp only[uMake,hx];rfl⟩
end
section
open Go Go.Proofs.YtijpinendaoleaaGreat.Shv
open Tryz
set_option maxRecDepth 100000
open Go.Proofs Go.Proofs.YtijpinendaoleaaGreat Go.Shelf
theorem gka :g3l prog 90=true:=by kernel_rfl
def g44 :FSpec Un:=gnu Un 90 (.int .i64) 8
theorem gi4 :FSnd prog g44:=gw7 (sz:=1) (bytes:=8) (z:=[.t (.int .i64 0)]) func90 (by kernel_rfl) (by kernel_rfl) (by kernel_rfl) rfl rfl
theorem g62 :FnC prog g44:=⟨gka,gi4⟩
theorem gkb :g3l prog 103=true:=by kernel_rfl
def g45 :FSpec Un:=ggq Un 103 (.nm 6) 120
theorem gi5 :FSnd prog g45:=gk2 (sz:=8) (bytes:=120) (z:=[.t (.int .i64 0),.t (.bool false),.t (.int .i64 0),.t (.str []),.t (.int .i64 0),.cap0,.cap0,.cap0]) func103 (by kernel_rfl) (by kernel_rfl) (by kernel_rfl) rfl rfl
theorem g46 :FnC prog g45:=⟨gkb,gi5⟩
theorem gkc :g3l prog 113=true:=by kernel_rfl
def g47 :FSpec Un:=ggq Un 113 (.nm 7) 24
theorem gi6 :FSnd prog g47:=gk2 (sz:=2) (bytes:=24) (z:=[.t (.int .i64 0),.t (.str [])]) func113 (by kernel_rfl) (by kernel_rfl) (by kernel_rfl) rfl rfl
theorem g5a :FnC prog g47:=⟨gkc,gi6⟩
instance:Inhabited EncodeEntry:=⟨dEncodeEntry⟩
instance:Inhabited (Un.D 11):=⟨dEncodeEntry⟩
def sortLt(x y:EncodeEntry) :Bool:=decide (x.id < y.id)
section
open Go.Proofs Go.Proofs.YtijpinendaoleaaGreat Go.Sort Go.RowKit Go.Lib
theorem sortNaN(x:Int)(w:World) :Calls prog 208 #[.int .i64 x] w fun e w'=>e= .returned (.bool false)∧w'=w:=by
 go_enter func208,ntmps208
 go_wp2
 go_ret
 exact⟨by simp,rfl⟩
set_option maxHeartbeats 1000000 in
theorem sortCmp(x y:Int)(w:World) :Calls prog 174 #[.int .i64 x,.int .i64 y] w fun e w'=>e= .returned (.int .i64 (Lib.compareInt x y))∧w'=w:=by
 go_enter func174,ntmps174
 go_wp2_with (go_at_call 208;refine(sortNaN _ _).mono ?_;rintro e w' ⟨rfl,hw⟩;rw[hw])
 all_goals (go_ret;refine⟨?_,rfl⟩;unfold Lib.compareInt;(repeat' split) <;> first | rfl | (exfalso;omega))
def sortEnc(x:EncodeEntry) :List Value:=[.int .i64 x.id,.string ⟨x.text.toArray⟩]
set_option maxHeartbeats 1000000 in
theorem sortClo(x y:Int)(s t:ByteArray)(W:World) :Calls prog 173 #[.agg #[.int .i64 x,.string s],.agg #[.int .i64 y,.string t]] W fun e w'=>e= .returned (.int .i64 (Lib.compareInt x y))∧∃q os',w'=grow (W.drewN q) os':=by
 have hcon:=fun W'=>sortCmp x y W'
 generalize Lib.compareInt x y=r at hcon ⊢
 go_enter func173,ntmps173
 go_wp2_with (go_at_call 174;refine(hcon _).mono ?_;rintro e w' ⟨rfl,rfl⟩)
 go_ret
 exact⟨rfl,0,_,by rw[alloc_eq_grow,alloc_eq_grow,grow_grow];rfl⟩
def gs6 :Go.Shelf.Ren:=⟨fun | 6=>172 | 15=>207 | 14=>206 | 28=>234 | 29=>235 | 20=>226 | 21=>227 | 22=>228 | 23=>229 | 24=>230 | 25=>231 | 26=>232 | 27=>233 | 46=>236 | 47=>237 | 48=>238 | 49=>239 | 50=>240 | 57=>241 | n=>n,fun | 22=>230 | 24=>233 | 25=>236 | 3=>3 | 39=>229 | 0=>0 | 53=>275 | 55=>164 | 4=>4 | 46=>269 | 45=>268 | 50=>157 | 5=>5 | 9=>9 | 66=>277 | 70=>281 | 76=>283 | 77=>284 | n=>n,fun | n=>n⟩
theorem layS :SlLaysF0.n6 prog gs6:={
 mixed:=by kernel_rfl
 f6:=⟨f172.name,by decide,func172.trans (congrArg some (by kernel_rfl))⟩
 f14:=⟨f206.name,by decide,func206.trans (congrArg some (by kernel_rfl))⟩
 f15:=func207.trans (congrArg some (by kernel_rfl))
 f20:=⟨f226.name,by decide,func226.trans (congrArg some (by kernel_rfl))⟩
 f21:=⟨f227.name,by decide,func227.trans (congrArg some (by kernel_rfl))⟩
 f22:=⟨f228.name,by decide,func228.trans (congrArg some (by kernel_rfl))⟩
 f23:=⟨f229.name,by decide,func229.trans (congrArg some (by kernel_rfl))⟩
 f24:=⟨f230.name,by decide,func230.trans (congrArg some (by kernel_rfl))⟩
 f25:=⟨f231.name,by decide,func231.trans (congrArg some (by kernel_rfl))⟩
 f26:=⟨f232.name,by decide,func232.trans (congrArg some (by kernel_rfl))⟩
 f27:=⟨f233.name,by decide,func233.trans (congrArg some (by kernel_rfl))⟩
 f28:=func234.trans (congrArg some (by kernel_rfl))
 f29:=func235.trans (congrArg some (by kernel_rfl))
 f46:=⟨f236.name,by decide,func236.trans (congrArg some (by kernel_rfl))⟩
 f47:=func237.trans (congrArg some (by kernel_rfl))
 f48:=func238.trans (congrArg some (by kernel_rfl))
 f49:=⟨f239.name,by decide,func239.trans (congrArg some (by kernel_rfl))⟩
 f50:=⟨f240.name,by decide,func240.trans (congrArg some (by kernel_rfl))⟩
 f57:=⟨f241.name,by decide,func241.trans (congrArg some (by kernel_rfl))⟩
 t0:=underlying0
 a0:=isAgg0
 z0:=sizeOf0
 v0:=zeroValue0
 t3:=underlying3
 a3:=isAgg3
 z3:=sizeOf3
 v3:=zeroValue3
 t4:=underlying4
 a4:=isAgg4
 z4:=sizeOf4
 v4:=zeroValue4
 t5:=underlying5
 a5:=isAgg5
 z5:=sizeOf5
 v5:=zeroValue5
 t9:=underlying9
 a9:=isAgg9
 z9:=sizeOf9
 v9:=zeroValue9
 t22:=underlying230
 a22:=isAgg230
 z22:=sizeOf230
 v22:=zeroValue230
 t25:=underlying236
 a25:=isAgg236
 z25:=sizeOf236
 v25:=zeroValue236
 t39:=underlying229
 a39:=isAgg229
 z39:=sizeOf229
 v39:=zeroValue229
 t45:=underlying268
 a45:=isAgg268
 z45:=sizeOf268
 v45:=zeroValue268
 t46:=underlying269
 a46:=isAgg269
 z46:=sizeOf269
 v46:=zeroValue269
 t50:=underlying157
 a50:=isAgg157
 z50:=sizeOf157
 v50:=zeroValue157
 t53:=underlying275
 a53:=isAgg275
 z53:=sizeOf275
 v53:=zeroValue275
 t55:=underlying164
 a55:=isAgg164
 z55:=sizeOf164
 v55:=zeroValue164
 t66:=underlying277
 a66:=isAgg277
 z66:=sizeOf277
 v66:=zeroValue277
 t70:=underlying281
 a70:=isAgg281
 z70:=sizeOf281
 v70:=zeroValue281
 t76:=underlying283
 a76:=isAgg283
 z76:=sizeOf283
 v76:=zeroValue283
 t77:=underlying284
 a77:=isAgg284
 z77:=sizeOf284
 v77:=zeroValue284}
theorem gq7 :ltOf (fun x y:EncodeEntry=>Lib.compareInt x.id y.id)=sortLt:=by
 funext x y
 unfold ltOf sortLt Lib.compareInt;by_cases h1:x.id < y.id
 · simp[h1]
 · by_cases h2:y.id < x.id <;> simp[h1,h2]
theorem sortSWO :SWO sortLt:=g11a (fun x:EncodeEntry=>x.id)
set_option maxHeartbeats 2000000 in
theorem sortNoneI(p:Option Addr)(cap:Nat)(fv:Value)(w:World) :Calls prog 226 #[.slice p 0 cap,.int .i64 0,.int .i64 0,fv] w fun e w'=>e= .returned (.tuple #[])∧w'=w:=by
 go_enter func226,ntmps226
 go_wp2
 refine wp_loop_rounds 1 ?_;rw[rounds_succ]
 go_wp2
 go_end0
 exact⟨rfl,rfl⟩
set_option maxHeartbeats 2000000 in
theorem sortNoneP(p:Option Addr)(cap:Nat)(lim:Int)(fv:Value)(w:World) :Calls prog 206 #[.slice p 0 cap,.int .i64 0,.int .i64 0,.int .i64 lim,fv] w fun e w'=>e= .returned (.tuple #[])∧w'=w:=by
 have hi:=fun W=>sortNoneI p cap fv W
 go_enter func206,ntmps206
 go_wp2
 refine wp_loop_rounds 1 ?_;rw[rounds_succ]
 go_wp2_with (go_at_call 226;refine(hi _).mono ?_;rintro e w' ⟨rfl,rfl⟩)
 (try simp only[Exit.inBlock,Exit.then]);refine bodyPost_ret (results_none rfl _ _ _) rfl ?_
 exact⟨rfl,rfl⟩
set_option maxHeartbeats 2000000 in
theorem sortNone(p:Option Addr)(cap:Nat)(fv:Value)(w:World) :Calls prog 172 #[.slice p 0 cap,fv] w fun e w'=>e= .returned (.tuple #[])∧w'=w:=by
 have hp:=fun lim W=>sortNoneP p cap lim fv W
 have hl:∀W,Calls prog 207 #[.int .u64 0] W fun e w'=>e= .returned (.int .i64 (Lib.bitLen 0:Nat))∧w'=W:=fun W=>by
   have h:=Any.bits_Len (SlLaysF0.n15.bits (P:=prog) (ρ:=gs6) {layS with}) 0 W (by omega) (by omega);exact h
 go_enter func172,ntmps172
 go_wp2_with (first | (go_at_call 207;refine(hl _).mono ?_;rintro e w' ⟨rfl,rfl⟩) | (go_at_call 206;refine(hp _ _).mono ?_;rintro e w' ⟨rfl,rfl⟩))
 go_end0
 exact⟨rfl,rfl⟩
theorem sortWhole (blk off cap : Nat) (d : Array (Un.D 11)) (w : World) (hH : HoldsK sortEnc 2 w blk off d) (hblk : blk < w.heap.size) (hsz : d.size < 4611686018427387904) :
   Calls prog 172 #[.slice (some ⟨blk,off,none⟩) d.size cap,.func (.func 173) #[] #[]] w fun e w'=>e= .returned (.tuple #[])∧∃n os,w'=sortWorldK sortEnc 2 w blk off n (pdq sortLt d 0 d.size (Lib.bitLen d.size) true true) os:=by
 have eg:∀args w,(callFunc 173 args).run prog w= .ok (.enter 173 args) w:=enters_of func173 (by kernel_rfl) rfl
 have h:=AnyQ.slices_SortFunc_eq (α:=EncodeEntry) layS 2 isAgg233 sizeOf233 sortEnc (fun _=>rfl) (fun x v hv=>by simp[sortEnc]at hv;rcases hv with rfl | rfl <;> rfl) (fun x y=>Lib.compareInt x.id y.id) (by rw[gq7];exact sortSWO) 173 #[] blk off cap d w eg (fun _ _ _ _ x y=>sortClo x.id y.id _ _ _) hH hblk hsz;rw[gq7]at h;exact h
theorem g12b :g3l prog 172=true:=by kernel_rfl
def gbt :FSpec Un:=sortS Un 172 11 173 (pdqBy (α:=Un.D 11) sortLt)
theorem gmo :FSnd prog gbt:=g105 (U:=Un) (n:=11) sortEnc sortLt sortSWO (fun _=>rfl) (fun w S x j t v h hr=>gwc w S x.id x.text j t v h hr) sortWhole sortNone
end
theorem ggt :FnC prog gbt:=⟨g12b,gmo⟩
def gny :Go.Shelf.Ren:=⟨fun | 240=>176 | 276=>209 | n=>n,fun | 0=>0 | 4=>4 | 9=>9 | 20=>20 | 37=>35 | 70=>198 | 72=>200 | 164=>256 | n=>n,fun n=>n⟩
theorem lay240 :Lays.n240 prog gny:={
 mixed:=by kernel_rfl
 f240:=func176.trans (congrArg some (by kernel_rfl))
 f276:=func209.trans (congrArg some (by kernel_rfl))
 t0:=underlying0
 a0:=isAgg0
 z0:=sizeOf0
 v0:=zeroValue0
 t4:=underlying4
 a4:=isAgg4
 z4:=sizeOf4
 v4:=zeroValue4
 t9:=underlying9
 a9:=isAgg9
 z9:=sizeOf9
 v9:=zeroValue9
 t20:=underlying20
 a20:=isAgg20
 z20:=sizeOf20
 v20:=zeroValue20
 t70:=underlying198
 a70:=isAgg198
 z70:=sizeOf198
 v70:=zeroValue198
 t72:=underlying200
 a72:=isAgg200
 z72:=sizeOf200
 v72:=zeroValue200
 t164:=underlying256
 a164:=isAgg256
 z164:=sizeOf256
 v164:=zeroValue256}
theorem layX72 :Builder.X72 prog gny:={
 sizeBuilder:=by kernel_rfl
 liesBuilder:=by kernel_rfl}
theorem g12c :g3l prog 176=true:=by kernel_rfl
def g5g :FSpec Un:=gnv Un 176 200 5
theorem gl7 :FSnd prog g5g:=gxs lay240 layX72 rfl rfl
theorem g7g :FnC prog g5g:=⟨g12c,gl7⟩
theorem gl8 :g3l prog 90=true:=by kernel_rfl
def g4m :FSpec Un:=ggq Un 90 (.int .i64) 8
theorem giv :FSnd prog g4m:=gk2 (sz:=1) (bytes:=8) (z:=[.t (.int .i64 0)]) func90 (by kernel_rfl) (by kernel_rfl) (by kernel_rfl) rfl rfl
theorem g4n :FnC prog g4m:=⟨gl8,giv⟩
end
section
open Go Go.Proofs.YtijpinendaoleaaGreat.Shv
open Tryz
set_option maxRecDepth 100000
abbrev FC(e:FEnt)(F:Hs Un.D e.ts→Option (Hs Un.D e.us)) :Prop:=FnC prog (e.s F)
abbrev LC(f kk:Nat)(p:List Nat)(e:LEnt)(F:Hs Un.D e.ts→Option (OSum Un e.outs)) :Prop:=LpC prog f kk p e F
abbrev KC(e:FEnt) :Prop:=Fok prog e
abbrev FD(e:FEnt) :Hs Un.D e.ts→Hs Un.D e.us→Prop:=FQ prog Un e
abbrev LD(f kk:Nat)(p:List Nat)(e:LEnt) :Hs Un.D e.ts→OSum Un e.outs→Prop:=LQ prog Un f kk p e
theorem FH(e:FEnt)(k:KC e){F:Hs Un.D e.ts→Option (Hs Un.D e.us)}(h:∀h r,F h=some r→FD e h r) :FC e F:= .of k h
theorem LH(e:LEnt){f kk:Nat}{p:List Nat}{F:Hs Un.D e.ts→Option (OSum Un e.outs)}(h:∀h o,F h=some o→LD f kk p e h o) :LC f kk p e F:= .of h
theorem FA(e:FEnt)(k:KC e){fs:List (FSpec Un)}(hf:FoC prog fs){ls:List (Nat × LSpec Un)}(hl:LoC prog e.f e.st.length [] ls){h:Hs Un.D e.ts}{r:Hs Un.D e.us}(hx:xbody (foS fs) (loL ls) prog e h=some r) :FD e h r:= .at k hf hl hx
theorem LA(e:LEnt){f kk:Nat}{p:List Nat}{F:Hs Un.D e.ts→Option (OSum Un e.outs)}(hF:∀h o,F h=some o→LD f kk p e h o){fs:List (FSpec Un)}(hf:FoC prog fs){ls:List (Nat × LSpec Un)}(hl:LoC prog f kk p ls){h:Hs Un.D e.ts}{o:OSum Un e.outs}(hx:ggp (foS fs) (loL ls) kk (pathF prog f p) e F h=some o) :LD f kk p e h o:= .at hF hf hl hx
def e40 :FEnt:=⟨40,[.row 0,hh tI],[],[.nm 0,tI],hh tI,[],[tI],[]⟩
def e41 :FEnt:=⟨41,[hh tI],[],[tI],hh .bool,[],[.bool],[]⟩
def e42 :FEnt:=⟨42,[.row 1],[],[.nm 1],hh tI,[],[tI],[]⟩
def e43 :FEnt:=⟨43,[.row 1],[],[.nm 1],hh tI,[],[tI],[]⟩
def e44_0 :LEnt:=⟨0,⟨[(1,hP 0 0),(3,.c (.arr 1)),(4,hh tI)],[.brow 1,.arr tI]⟩,[(.slot 3,tI)],[(.slot 3,tI)],[tI,.nm 1,tLI],[⟨.exit 0,⟨[(3,.c (.arr 0))],[.arr tI]⟩,[],[tLI]⟩],[]⟩
def e44 :FEnt:=⟨44,[.row 1],[],[.nm 1],hh tLI,[],[tLI],[e44_0]⟩
def e131 :FEnt:=⟨131,[hh tI],[],[tI],hh .bool,[],[.bool],[]⟩
def e79_0 :LEnt:=⟨0,⟨[(3,hP 0 0),(7,hh tI),(9,hh tI)],[bb (tL 1)]⟩,[],[],[tI,tI,tL 1],[oR 6 tI,oX 0],[]⟩
def e79 :FEnt:=⟨79,[.row 0,hh tI,hh (.int .u8)],[],[.nm 0,tI,.int .u8],hh tI,[],[tI],[e79_0]⟩
def e75 :FEnt:=⟨75,[hh tI],[],[tI],hh .bool,[],[.bool],[]⟩
def e46_0 :LEnt:=⟨0,⟨[(1,hh (.int .u8)),(2,hP 0 0),(5,hh tI),(6,hh tI)],[bb (tL 1)]⟩,[],[],[.int .u8,tI,tI,tL 1],[oR 4 tI,oX 0],[]⟩
def e46 :FEnt:=⟨46,[.row 0,hh (.int .u8)],[],[.nm 0,.int .u8],hh tI,[],[tI],[e46_0]⟩
def e80 :FEnt:=⟨80,[.row 0,hh tI,hh (.int .u8)],[],[.nm 0,tI,.int .u8],.tup [.row 6,hh .bool],[],[.nm 6,.bool],[]⟩
def guc :LEnt:=⟨0,⟨[(1,hh tI),(2,hh .bool),(3,hP 0 0),(7,hP 1 0),(8,.c (.arr 2)),(9,hh tI),(10,hh tI)],[bb (tL 1),.brow 1,.arr (.nm 5)]⟩,[],[],[tI,.bool,tI,tI,tL 1,.nm 1,tL 5],[⟨.exit 2,⟨[(1,hh tI),(2,hh .bool),(3,hP 0 0),(7,hP 1 0),(8,.c (.arr 2)),(9,hh tI)],[bb (tL 1),.brow 1,.arr (.nm 5)]⟩,[],[tI,.bool,tI,tL 1,.nm 1,tL 5]⟩],[]⟩
def e45_0 :LEnt:=⟨0,⟨[(1,hh tI),(2,hh .bool),(3,hP 0 0),(7,hP 1 0),(8,.c (.arr 2)),(9,hh tI)],[bb (tL 1),.brow 1,.arr (.nm 5)]⟩,[(.slot 8,.nm 5)],[(.slot 8,.nm 5)],[tI,.bool,tI,tL 1,.nm 1,tL 5],[⟨.exit 0,⟨[(8,.c (.arr 0))],[.arr (.nm 5)]⟩,[],[tL 5]⟩],[guc]⟩
def e45 :FEnt:=⟨45,[.row 0,hh tI,hh .bool],[],[.nm 0,tI,.bool],hh (tL 5),[],[tL 5],[e45_0]⟩
def gud :LEnt:=⟨0,⟨[(1,hP 0 0),(2,hP 1 0),(4,hh tI),(5,hP 2 0),(6,hh tI),(8,hP 3 0),(9,hh tLI),(10,hh tI)],[bb (tL 1),.box [.cap0],.box [.arr 4],.box [.hole tI,.hole .str,.hole tI,.hole tI,.hole tI,.arr 5,.cap0,.hole tI,.hole tI,.hole .bool],.arr (.nm 3),.arr (.nm 4)]⟩,[(.via 8 5,.nm 4)],[(.via 8 5,.nm 4)],[tI,tI,tLI,tI,tL 1,tI,.str,tI,tI,tI,tI,tI,.bool,tL 3,tL 4],[⟨.exit 3,⟨[(1,hP 0 0),(2,hP 1 0),(4,hh tI),(5,hP 2 0),(6,hh tI),(8,hP 3 0)],[bb (tL 1),.box [.cap0],.box [.arr 4],.box [.hole tI,.hole .str,.hole tI,.hole tI,.hole tI,.arr 5,.cap0,.hole tI,.hole tI,.hole .bool],.arr (.nm 3),.arr (.nm 4)]⟩,[],[tI,tI,tL 1,tI,.str,tI,tI,tI,tI,tI,.bool,tL 3,tL 4]⟩],[]⟩
def e10_0 :LEnt:=⟨0,⟨[(1,hP 0 0),(2,hP 1 0),(4,hh tI),(5,hP 2 0),(6,hh tI)],[bb (tL 1),.box [.cap0],.box [.arr 3],.arr (.nm 3)]⟩,[(.via 5 0,.nm 3)],[(.via 5 0,.nm 3)],[tI,tI,tL 1,tL 3],[⟨.exit 0,⟨[(2,hP 0 0),(5,hP 1 0)],[.box [.cap0],.box [.arr 2],.arr (.nm 3)]⟩,[],[tL 3]⟩],[gud]⟩
def e10 :FEnt:=⟨10,[.row 0],[],[.nm 0],.tup [.row 8,hh .bool],[],[.nm 8,.bool],[e10_0]⟩
def e47 :FEnt:=⟨47,[],[],[],.row 8,[],[.nm 8],[]⟩
def gxu :LEnt:=⟨0,⟨[(0,hh (tL 4)),(1,hh (tL 4)),(12,hh tI),(13,hh tI)],[]⟩,[],[],[tL 4,tL 4,tI,tI],[oR 4 .bool,oX 0],[]⟩
def e220 :FEnt:=⟨220,[hh (tL 4),hh (tL 4)],[],[tL 4,tL 4],hh .bool,[],[.bool],[gxu]⟩
def gxv :LEnt:=⟨0,⟨[(0,hh (tL 7)),(1,hh (tL 7)),(12,hh tI),(13,hh tI)],[]⟩,[],[],[tL 7,tL 7,tI,tI],[oR 4 .bool,oX 0],[]⟩
def e224 :FEnt:=⟨224,[hh (tL 7),hh (tL 7)],[],[tL 7,tL 7],hh .bool,[],[.bool],[gxv]⟩
def gec :LEnt:=⟨0,⟨[(1,hh (tL 6)),(2,.c (.fn 223 [])),(15,hh (tL 6)),(16,hh tI),(17,hh tI)],[]⟩,[],[],[tL 6,tL 6,tI,tI],[oR 6 .bool,oX 0],[]⟩
def ggu :FEnt:=⟨225,[hh (tL 6),hh (tL 6),.c (.fn 223 [])],[],[tL 6,tL 6],hh .bool,[],[.bool],[gec]⟩
def e223 :FEnt:=⟨223,[.row 6,.row 6],[],[.nm 6,.nm 6],hh .bool,[],[.bool],[]⟩
def e222 :FEnt:=⟨222,[.row 5,.row 5],[],[.nm 5,.nm 5],hh .bool,[],[.bool],[]⟩
def gxw :LEnt:=⟨0,⟨[(1,hh (tL 5)),(2,.c (.fn 222 [])),(15,hh (tL 5)),(16,hh tI),(17,hh tI)],[]⟩,[],[],[tL 5,tL 5,tI,tI],[oR 6 .bool,oX 0],[]⟩
def e221 :FEnt:=⟨221,[hh (tL 5),hh (tL 5),.c (.fn 222 [])],[],[tL 5,tL 5],hh .bool,[],[.bool],[gxw]⟩
def e201 :FEnt:=⟨201,[.row 3,.row 3],[],[.nm 3,.nm 3],hh .bool,[],[.bool],[]⟩
def e216 :FEnt:=⟨216,[hh (.int .u8)],[],[.int .u8],hh .bool,[],[.bool],[]⟩
def e217 :FEnt:=⟨217,[hh (.int .u8)],[],[.int .u8],hh .bool,[],[.bool],[]⟩
def gxx :LEnt:=⟨0,⟨[(0,hh .str),(18,hh tI),(19,hh tI)],[]⟩,[],[],[.str,tI,tI],[oR 2 .bool,oX 0],[]⟩
def e198 :FEnt:=⟨198,[hh .str],[],[.str],hh .bool,[],[.bool],[gxx]⟩
def gxy :LEnt:=⟨0,⟨[(0,hh tLI),(1,hh tLS),(5,.c (.mp 0)),(9,hh tLI),(10,hh tI),(11,hh tI)],[.set]⟩,[],[],[tLI,tLS,tLI,tI,tI,tLS],[oR 4 .bool,⟨.exit 0,⟨[(0,hh tLI)],[]⟩,[],[tLI]⟩],[]⟩
def e218 :FEnt:=⟨218,[hh tLI,hh tLS],[],[tLI,tLS],hh .bool,[],[.bool],[gxy]⟩
def gxz :LEnt:=⟨0,⟨[(0,hh (tL 4)),(3,.c (.arr 0)),(4,.c (.arr 1)),(7,hh (tL 4)),(8,hh tI),(9,hh tI)],[.arr tI,.arr .str]⟩,[(.slot 3,tI),(.slot 4,.str)],[(.slot 3,tI),(.slot 4,.str)],[tL 4,tL 4,tI,tI,tLI,tLS],[⟨.exit 0,⟨[(0,hh (tL 4)),(3,.c (.arr 0)),(4,.c (.arr 1))],[.arr tI,.arr .str]⟩,[],[tL 4,tLI,tLS]⟩],[]⟩
def e199 :FEnt:=⟨199,[hh (tL 4)],[],[tL 4],hh .bool,[],[.bool],[gxz]⟩
def e219 :FEnt:=⟨219,[.row 6],[],[.nm 6],hh .bool,[],[.bool],[]⟩
def gy0 :LEnt:=⟨0,⟨[(1,hP 0 0),(3,.c (.arr 1)),(4,.c (.arr 2)),(8,hh (tL 5)),(9,hh tI),(10,hh tI)],[.brow 3,.arr tI,.arr .str]⟩,[(.slot 3,tI),(.slot 4,.str)],[(.slot 3,tI),(.slot 4,.str)],[tL 5,tI,tI,.nm 3,tLI,tLS],[oR 2 .bool,⟨.exit 0,⟨[(1,hP 0 0),(3,.c (.arr 1)),(4,.c (.arr 2))],[.brow 3,.arr tI,.arr .str]⟩,[],[.nm 3,tLI,tLS]⟩],[]⟩
def e200 :FEnt:=⟨200,[.row 3],[],[.nm 3],hh .bool,[],[.bool],[gy0]⟩
def e158 :FEnt:=⟨158,[.row 3],[],[.nm 3],hh .bool,[],[.bool],[]⟩
def gy1 :LEnt:=⟨0,⟨[(1,hP 0 0),(3,.c (.arr 1)),(7,hh (tL 5)),(8,hh tI),(9,hh tI)],[.brow 3,.arr tI]⟩,[(.slot 3,tI)],[(.slot 3,tI)],[tL 5,tI,tI,.nm 3,tLI],[⟨.exit 0,⟨[(1,hP 0 0),(3,.c (.arr 1))],[.brow 3,.arr tI]⟩,[],[.nm 3,tLI]⟩],[]⟩
def e159 :FEnt:=⟨159,[.row 3],[],[.nm 3],hh tLI,[],[tLI],[gy1]⟩
def gs7 :LEnt:=⟨0,⟨[(1,hP 0 0),(3,.c (.mp 1)),(5,hP 2 0),(14,hh (tL 3)),(15,hh tI),(16,hh tI),(38,hh tLI),(39,hh tI),(40,hh tI)],[bb (tL 3),.set,.box [.hole tI,.hole .str,.hole tI,.hole tI,.hole tI,.hole (tL 4),.hole (tL 5),.hole tI,.hole tI,.hole .bool]]⟩,[],[],[tL 3,tI,tI,tLI,tI,tI,tL 3,tLS,tI,.str,tI,tI,tI,tL 4,tL 5,tI,tI,.bool],[oR 2 tI,⟨.exit 2,⟨[(1,hP 0 0),(3,.c (.mp 1)),(5,hP 2 0),(14,hh (tL 3)),(15,hh tI),(16,hh tI)],[bb (tL 3),.set,.box [.hole tI,.hole .str,.hole tI,.hole tI,.hole tI,.hole (tL 4),.hole (tL 5),.hole tI,.hole tI,.hole .bool]]⟩,[],[tL 3,tI,tI,tL 3,tLS,tI,.str,tI,tI,tI,tL 4,tL 5,tI,tI,.bool]⟩],[]⟩
def gy2 :LEnt:=⟨0,⟨[(1,hP 0 0),(3,.c (.mp 1)),(14,hh (tL 3)),(15,hh tI),(16,hh tI)],[bb (tL 3),.set]⟩,[],[],[tL 3,tI,tI,tL 3,tLS],[oR 2 tI,oX 0],[gs7]⟩
def e125 :FEnt:=⟨125,[.row 8],[],[.nm 8],hh tI,[],[tI],[gy2]⟩
def e177 :FEnt:=⟨177,[hP 0 0,hh tI],[.box [.hole (tL 3),.arr 1,.hole tLI,.hole tI],.arr tI],[tI,tL 3,tLI,tI,tLI],.tup [.row 6,hh .bool],[.box [.hole (tL 3),.arr 2,.arr 3,.hole tI],.gone,.arr tI,.arr tI],[.nm 6,.bool,tL 3,tI,tLI,tLI],[]⟩
def g12d :LEnt:=⟨0,⟨[(0,hh .str),(4,hh (.int .u64)),(17,hh tI),(18,hh tI)],[]⟩,[],[],[.str,.int .u64,tI,tI],[⟨.exit 0,⟨[(4,hh (.int .u64))],[]⟩,[],[.int .u64]⟩],[]⟩
def e168 :FEnt:=⟨168,[hh .str],[],[.str],.tup [hh (.int .u64),hh tI],[],[.int .u64,tI],[g12d]⟩
def e169 :FEnt:=⟨169,[hh (.int .u64)],[],[.int .u64],hh tI,[],[tI],[]⟩
def e191 :FEnt:=⟨191,[.row 4,hP 0 0],[bb tI],[.nm 4,tI],hh .bool,[bb tI],[.bool,tI],[]⟩
def gy3 :LEnt:=⟨0,⟨[(0,hh (tL 4)),(1,.c (.fn 191 [0])),(7,hh tI),(8,hh tI)],[bb tI]⟩,[],[],[tL 4,tI,tI,tI],[⟨.ret,⟨[(4,hh tI)],[bb tI]⟩,[],[tI,tI]⟩,⟨.exit 0,⟨[],[bb tI]⟩,[],[tI]⟩],[]⟩
def e190 :FEnt:=⟨190,[hh (tL 4),.c (.fn 191 [0])],[bb tI],[tL 4,tI],hh tI,[bb tI],[tI,tI],[gy3]⟩
def e143 :FEnt:=⟨143,[.row 3,hh tI],[],[.nm 3,tI],.tup [hh tI,hh .bool],[],[tI,.bool],[]⟩
def e178 :FEnt:=⟨178,[hP 0 0,hh tI,hh tI,hh .str],[.box [.hole (tL 3),.arr 1,.hole tLI,.hole tI],.arr tI],[tI,tI,.str,tL 3,tLI,tI,tLI],.tup [.row 6,hh .bool],[.box [.hole (tL 3),.arr 2,.hole tLI,.hole tI],.gone,.arr tI],[.nm 6,.bool,tL 3,tLI,tI,tLI],[]⟩
def g12e :LEnt:=⟨0,⟨[(0,hh .str),(5,hh (.int .u64)),(10,hh tI),(11,hh tI)],[]⟩,[],[],[.str,.int .u64,tI,tI],[⟨.ret,⟨[(2,hh (.int .u64)),(3,hh tI),(4,hh tI)],[]⟩,[],[.int .u64,tI,tI]⟩,oX 0],[]⟩
def e204 :FEnt:=⟨204,[hh .str],[],[.str],.tup [hh (.int .u64),hh tI,hh tI],[],[.int .u64,tI,tI],[g12e]⟩
def e165 :FEnt:=⟨165,[hh .str],[],[.str],.tup [hh (.int .u64),hh .str,hh .bool],[],[.int .u64,.str,.bool],[]⟩
def e128 :FEnt:=⟨128,[hh .str],[],[.str],.tup [hh tI,hh .str,hh tI],[],[tI,.str,tI],[]⟩
def e167 :FEnt:=⟨167,[.row 5,hP 0 0],[bb tI],[.nm 5,tI],hh .bool,[bb tI],[.bool,tI],[]⟩
def gy4 :LEnt:=⟨0,⟨[(0,hh (tL 5)),(1,.c (.fn 167 [0])),(7,hh tI),(8,hh tI)],[bb tI]⟩,[],[],[tL 5,tI,tI,tI],[⟨.ret,⟨[(4,hh tI)],[bb tI]⟩,[],[tI,tI]⟩,⟨.exit 0,⟨[],[bb tI]⟩,[],[tI]⟩],[]⟩
def e166 :FEnt:=⟨166,[hh (tL 5),.c (.fn 167 [0])],[bb tI],[tL 5,tI],hh tI,[bb tI],[tI,tI],[gy4]⟩
def e129 :FEnt:=⟨129,[.row 3,hh tI],[],[.nm 3,tI],.tup [hh tI,hh .bool],[],[tI,.bool],[]⟩
def e179 :FEnt:=⟨179,[hP 0 0,.row 3,hh .str],[.box [.hole (tL 3),.arr 1,.hole tLI,.hole tI],.arr tI],[.nm 3,.str,tL 3,tLI,tI,tLI],.tup [.row 6,hh .bool],[.box [.hole (tL 3),.arr 2,.hole tLI,.hole tI],.gone,.arr tI],[.nm 6,.bool,tL 3,tLI,tI,tLI],[]⟩
def e202 :FEnt:=⟨202,[hh .str],[],[.str],.tup [hh .str,hh .str,hh .bool],[],[.str,.str,.bool],[]⟩
def g12f :LEnt:=⟨0,⟨[(4,.c (.arr 0)),(5,hh .str)],[.arr .str]⟩,[(.slot 4,.str)],[(.slot 4,.str)],[.str,tLS],[⟨.ret,⟨[(2,.c (.cap0)),(3,hh tI)],[]⟩,[],[tI]⟩,⟨.exit 0,⟨[(4,.c (.arr 0))],[.arr .str]⟩,[],[tLS]⟩],[]⟩
def e161 :FEnt:=⟨161,[hh .str],[],[.str],.tup [hh tLS,hh tI],[],[tLS,tI],[g12f]⟩
def g12g :LEnt:=⟨0,⟨[(0,hP 0 0),(4,hP 2 0),(6,hP 3 0),(10,hP 4 0),(38,hh tLS),(39,hh tI),(40,hh tI)],[.box [.hole (tL 3),.arr 5,.hole tLI,.hole tI],.gone,.brow 3,.box [.hole tI,.hole .bool,.hole tI,.hole .str,.hole tI,.cap0,.cap0,.cap0],.box [.hole tI,.hole .bool,.hole tI,.hole .str,.hole tI,.cap0,.arr 6,.cap0],.arr tI,.arr (.nm 6)]⟩,[(.via 10 6,.nm 6)],[(.via 10 6,.nm 6)],[tLS,tI,tI,tL 3,tLI,tI,.nm 3,tI,.bool,tI,.str,tI,tI,.bool,tI,.str,tI,tLI,tL 6],[⟨.ret,⟨[(6,hP 2 0),(7,hh .bool)],[.box [.hole (tL 3),.arr 3,.hole tLI,.hole tI],.gone,.brow 6,.arr tI]⟩,[],[.bool,tL 3,tLI,tI,.nm 6,tLI]⟩,⟨.exit 0,⟨[(6,hP 2 0),(10,hP 3 0)],[.box [.hole (tL 3),.arr 4,.hole tLI,.hole tI],.gone,.box [.hole tI,.hole .bool,.hole tI,.hole .str,.hole tI,.cap0,.cap0,.cap0],.box [.hole tI,.hole .bool,.hole tI,.hole .str,.hole tI,.cap0,.arr 5,.cap0],.arr tI,.arr (.nm 6)]⟩,[],[tL 3,tLI,tI,tI,.bool,tI,.str,tI,tI,.bool,tI,.str,tI,tLI,tL 6]⟩],[]⟩
def e180 :FEnt:=⟨180,[hP 0 0,.row 3,hh .str],[.box [.hole (tL 3),.arr 1,.hole tLI,.hole tI],.arr tI],[.nm 3,.str,tL 3,tLI,tI,tLI],.tup [.row 6,hh .bool],[.box [.hole (tL 3),.arr 2,.hole tLI,.hole tI],.gone,.arr tI],[.nm 6,.bool,tL 3,tLI,tI,tLI],[g12g]⟩
def e133 :FEnt:=⟨133,[hh tI],[],[tI],hh (.int .u64),[],[.int .u64],[]⟩
def e214 :FEnt:=⟨214,[hh (.int .u64)],[],[.int .u64],hh .bool,[],[.bool],[]⟩
def e195 :FEnt:=⟨195,[hh (.int .u64),hh (.int .u64)],[],[.int .u64,.int .u64],hh tI,[],[tI],[]⟩
def e208 :FEnt:=⟨208,[hh tI],[],[tI],hh .bool,[],[.bool],[]⟩
def e174 :FEnt:=⟨174,[hh tI,hh tI],[],[tI,tI],hh tI,[],[tI],[]⟩
def e215 :FEnt:=⟨215,[hh .str],[],[.str],hh .bool,[],[.bool],[]⟩
def e197 :FEnt:=⟨197,[hh .str,hh .str],[],[.str,.str],hh tI,[],[tI],[]⟩
def gy5 :LEnt:=⟨0,⟨[(3,hh tI),(6,hh tLI),(7,hh tI),(8,hh tI)],[]⟩,[],[],[tI,tLI,tI,tI],[oR 2 tI,⟨.exit 0,⟨[(3,hh tI)],[]⟩,[],[tI]⟩],[]⟩
def e196 :FEnt:=⟨196,[hh tLI],[],[tLI],hh tI,[],[tI],[gy5]⟩
def e151 :FEnt:=⟨151,[.row 6,.row 6],[],[.nm 6,.nm 6],hh tI,[],[tI],[]⟩
def g12h :LEnt:=⟨0,⟨[(0,hP 0 0),(4,hP 2 0),(6,hP 3 0),(8,hh tLS),(10,hP 4 0),(11,hh tI)],[.box [.hole (tL 3),.arr 5,.hole tLI,.hole tI],.gone,.brow 3,.box [.hole tI,.hole .bool,.hole tI,.hole .str,.hole tI,.cap0,.cap0,.cap0],.box [.hole tI,.hole .bool,.hole tI,.hole .str,.hole tI,.arr 6,.cap0,.cap0],.arr tI,.arr (.nm 6)]⟩,[(.via 10 5,.nm 6)],[(.via 10 5,.nm 6)],[tLS,tI,tL 3,tLI,tI,.nm 3,tI,.bool,tI,.str,tI,tI,.bool,tI,.str,tI,tLI,tL 6],[⟨.ret,⟨[(6,hP 2 0),(7,hh .bool)],[.box [.hole (tL 3),.arr 3,.hole tLI,.hole tI],.gone,.brow 6,.arr tI]⟩,[],[.bool,tL 3,tLI,tI,.nm 6,tLI]⟩,⟨.exit 0,⟨[(0,hP 0 0),(4,hP 2 0),(6,hP 3 0),(8,hh tLS),(10,hP 4 0)],[.box [.hole (tL 3),.arr 5,.hole tLI,.hole tI],.gone,.brow 3,.box [.hole tI,.hole .bool,.hole tI,.hole .str,.hole tI,.cap0,.cap0,.cap0],.box [.hole tI,.hole .bool,.hole tI,.hole .str,.hole tI,.arr 6,.cap0,.cap0],.arr tI,.arr (.nm 6)]⟩,[],[tLS,tL 3,tLI,tI,.nm 3,tI,.bool,tI,.str,tI,tI,.bool,tI,.str,tI,tLI,tL 6]⟩],[]⟩
def g12i :LEnt:=⟨1,⟨[(0,hP 0 0),(4,hP 2 0),(6,hP 3 0),(8,hh tLS),(10,hP 4 0),(14,hh tI)],[.box [.hole (tL 3),.arr 5,.hole tLI,.hole tI],.gone,.brow 3,.box [.hole tI,.hole .bool,.hole tI,.hole .str,.hole tI,.cap0,.cap0,.cap0],.box [.hole tI,.hole .bool,.hole tI,.hole .str,.hole tI,.arr 6,.cap0,.cap0],.arr tI,.arr (.nm 6)]⟩,[],[],[tLS,tI,tL 3,tLI,tI,.nm 3,tI,.bool,tI,.str,tI,tI,.bool,tI,.str,tI,tLI,tL 6],[⟨.ret,⟨[(6,hP 2 0),(7,hh .bool)],[.box [.hole (tL 3),.arr 3,.arr 4,.hole tI],.gone,.brow 6,.arr tI,.arr tI]⟩,[],[.bool,tL 3,tI,.nm 6,tLI,tLI]⟩,⟨.exit 2,⟨[(0,hP 0 0),(4,hP 2 0),(6,hP 3 0),(8,hh tLS),(10,hP 4 0)],[.box [.hole (tL 3),.arr 5,.hole tLI,.hole tI],.gone,.brow 3,.box [.hole tI,.hole .bool,.hole tI,.hole .str,.hole tI,.cap0,.cap0,.cap0],.box [.hole tI,.hole .bool,.hole tI,.hole .str,.hole tI,.arr 6,.cap0,.cap0],.arr tI,.arr (.nm 6)]⟩,[],[tLS,tL 3,tLI,tI,.nm 3,tI,.bool,tI,.str,tI,tI,.bool,tI,.str,tI,tLI,tL 6]⟩],[]⟩
def g12j :LEnt:=⟨2,⟨[(0,hP 0 0),(4,hP 2 0),(6,hP 3 0),(8,hh tLS),(10,hP 4 0),(15,hh tI)],[.box [.hole (tL 3),.arr 5,.hole tLI,.hole tI],.gone,.brow 3,.box [.hole tI,.hole .bool,.hole tI,.hole .str,.hole tI,.cap0,.cap0,.cap0],.box [.hole tI,.hole .bool,.hole tI,.hole .str,.hole tI,.arr 6,.arr 7,.cap0],.arr tI,.arr (.nm 6),.arr (.nm 6)]⟩,[(.via 10 6,.nm 6)],[(.via 10 6,.nm 6)],[tLS,tI,tL 3,tLI,tI,.nm 3,tI,.bool,tI,.str,tI,tI,.bool,tI,.str,tI,tLI,tL 6,tL 6],[⟨.ret,⟨[(6,hP 2 0),(7,hh .bool)],[.box [.hole (tL 3),.arr 3,.hole tLI,.hole tI],.gone,.brow 6,.arr tI]⟩,[],[.bool,tL 3,tLI,tI,.nm 6,tLI]⟩,⟨.exit 4,⟨[(6,hP 2 0),(10,hP 3 0)],[.box [.hole (tL 3),.arr 4,.hole tLI,.hole tI],.gone,.box [.hole tI,.hole .bool,.hole tI,.hole .str,.hole tI,.cap0,.cap0,.cap0],.box [.hole tI,.hole .bool,.hole tI,.hole .str,.hole tI,.arr 5,.arr 6,.cap0],.arr tI,.arr (.nm 6),.arr (.nm 6)]⟩,[],[tL 3,tLI,tI,tI,.bool,tI,.str,tI,tI,.bool,tI,.str,tI,tLI,tL 6,tL 6]⟩],[]⟩
def e181 :FEnt:=⟨181,[hP 0 0,.row 3,hh .str],[.box [.hole (tL 3),.arr 1,.hole tLI,.hole tI],.arr tI],[.nm 3,.str,tL 3,tLI,tI,tLI],.tup [.row 6,hh .bool],[.box [.hole (tL 3),.arr 2,.hole tLI,.hole tI],.gone,.arr tI],[.nm 6,.bool,tL 3,tLI,tI,tLI],[g12h,g12i,g12j]⟩
def g12k :LEnt:=⟨0,⟨[(4,.c (.arr 0)),(5,hh (.int .u64)),(6,hh .str)],[.arr (.nm 9)]⟩,[(.slot 4,.nm 9)],[(.slot 4,.nm 9)],[.int .u64,.str,tL 9],[⟨.ret,⟨[(2,.c (.cap0)),(3,hh tI)],[]⟩,[],[tI]⟩,⟨.exit 0,⟨[(4,.c (.arr 0))],[.arr (.nm 9)]⟩,[],[tL 9]⟩],[]⟩
def e160 :FEnt:=⟨160,[hh .str],[],[.str],.tup [hh (tL 9),hh tI],[],[tL 9,tI],[g12k]⟩
def e211 :FEnt:=⟨211,[.row 9,hP 0 0],[.brow 5],[.nm 9,.nm 5],hh .bool,[.brow 5],[.bool,.nm 5],[]⟩
def g12l :LEnt:=⟨0,⟨[(0,hh (tL 9)),(1,.c (.fn 211 [0])),(7,hh tI),(8,hh tI)],[.brow 5]⟩,[],[],[tL 9,tI,tI,.nm 5],[⟨.ret,⟨[(4,hh tI)],[.brow 5]⟩,[],[tI,.nm 5]⟩,⟨.exit 0,⟨[],[.brow 5]⟩,[],[.nm 5]⟩],[]⟩
def e210 :FEnt:=⟨210,[hh (tL 9),.c (.fn 211 [0])],[.brow 5],[tL 9,.nm 5],hh tI,[.brow 5],[tI,.nm 5],[g12l]⟩
def g12m :LEnt:=⟨0,⟨[(1,hP 0 0),(2,hP 1 0),(20,.c (.arr 2)),(21,hh tI),(22,hh tI)],[.box [.hole tI,.hole .bool,.hole tI,.hole .str,.hole tI,.arr 2,.arr 3,.arr 4],.box [.hole tI,.hole .bool,.hole tI,.hole .str,.hole tI,.cap0,.cap0,.cap0],.arr (.nm 6),.arr (.nm 6),.arr (.nm 7)]⟩,[],[],[tI,tI,tI,.bool,tI,.str,tI,tI,.bool,tI,.str,tI,tL 6,tL 6,tL 7],[⟨.exit 0,⟨[(1,hP 0 0),(2,hP 1 0)],[.box [.hole tI,.hole .bool,.hole tI,.hole .str,.hole tI,.arr 2,.arr 3,.arr 4],.box [.hole tI,.hole .bool,.hole tI,.hole .str,.hole tI,.cap0,.cap0,.cap0],.arr (.nm 6),.arr (.nm 6),.arr (.nm 7)]⟩,[],[tI,.bool,tI,.str,tI,tI,.bool,tI,.str,tI,tL 6,tL 6,tL 7]⟩],[]⟩
def g12n :LEnt:=⟨1,⟨[(1,hP 0 0),(2,hP 1 0),(35,.c (.arr 2)),(36,hh tI),(37,hh tI)],[.box [.hole tI,.hole .bool,.hole tI,.hole .str,.hole tI,.arr 3,.arr 2,.arr 4],.box [.hole tI,.hole .bool,.hole tI,.hole .str,.hole tI,.cap0,.cap0,.cap0],.arr (.nm 6),.arr (.nm 6),.arr (.nm 7)]⟩,[],[],[tI,tI,tI,.bool,tI,.str,tI,tI,.bool,tI,.str,tI,tL 6,tL 6,tL 7],[⟨.exit 2,⟨[(1,hP 0 0),(2,hP 1 0)],[.box [.hole tI,.hole .bool,.hole tI,.hole .str,.hole tI,.arr 2,.arr 3,.arr 4],.box [.hole tI,.hole .bool,.hole tI,.hole .str,.hole tI,.cap0,.cap0,.cap0],.arr (.nm 6),.arr (.nm 6),.arr (.nm 7)]⟩,[],[tI,.bool,tI,.str,tI,tI,.bool,tI,.str,tI,tL 6,tL 6,tL 7]⟩],[]⟩
def e212 :FEnt:=⟨212,[.row 6],[],[.nm 6],.row 6,[],[.nm 6],[g12m,g12n]⟩
def g12o :LEnt:=⟨0,⟨[(0,hP 0 0),(4,hP 2 0),(6,hP 3 0),(8,hh (tL 9)),(10,hP 4 0),(39,hh (tL 5)),(40,hh tI),(41,hh tI)],[.box [.hole (tL 3),.arr 5,.hole tLI,.hole tI],.gone,.brow 3,.box [.hole tI,.hole .bool,.hole tI,.hole .str,.hole tI,.cap0,.cap0,.cap0],.box [.hole tI,.hole .bool,.hole tI,.hole .str,.hole tI,.cap0,.arr 6,.cap0],.arr tI,.arr (.nm 6)]⟩,[(.via 10 6,.nm 6)],[(.via 10 6,.nm 6)],[tL 9,tL 5,tI,tI,tL 3,tLI,tI,.nm 3,tI,.bool,tI,.str,tI,tI,.bool,tI,.str,tI,tLI,tL 6],[⟨.ret,⟨[(6,hP 2 0),(7,hh .bool)],[.box [.hole (tL 3),.arr 3,.hole tLI,.hole tI],.gone,.brow 6,.arr tI]⟩,[],[.bool,tL 3,tLI,tI,.nm 6,tLI]⟩,⟨.exit 0,⟨[(0,hP 0 0),(4,hP 2 0),(6,hP 3 0),(8,hh (tL 9)),(10,hP 4 0)],[.box [.hole (tL 3),.arr 5,.hole tLI,.hole tI],.gone,.brow 3,.box [.hole tI,.hole .bool,.hole tI,.hole .str,.hole tI,.cap0,.cap0,.cap0],.box [.hole tI,.hole .bool,.hole tI,.hole .str,.hole tI,.cap0,.arr 6,.cap0],.arr tI,.arr (.nm 6)]⟩,[],[tL 9,tL 3,tLI,tI,.nm 3,tI,.bool,tI,.str,tI,tI,.bool,tI,.str,tI,tLI,tL 6]⟩],[]⟩
def g12p :LEnt:=⟨1,⟨[(0,hP 0 0),(4,hP 2 0),(6,hP 3 0),(10,hP 4 0),(117,hh (tL 9)),(118,hh tI),(119,hh tI)],[.box [.hole (tL 3),.arr 5,.hole tLI,.hole tI],.gone,.brow 3,.box [.hole tI,.hole .bool,.hole tI,.hole .str,.hole tI,.cap0,.cap0,.cap0],.box [.hole tI,.hole .bool,.hole tI,.hole .str,.hole tI,.cap0,.arr 6,.arr 7],.arr tI,.arr (.nm 6),.arr (.nm 7)]⟩,[(.via 10 7,.nm 7)],[(.via 10 7,.nm 7)],[tL 9,tI,tI,tL 3,tLI,tI,.nm 3,tI,.bool,tI,.str,tI,tI,.bool,tI,.str,tI,tLI,tL 6,tL 7],[⟨.ret,⟨[(6,hP 2 0),(7,hh .bool)],[.box [.hole (tL 3),.arr 3,.arr 4,.hole tI],.gone,.brow 6,.arr tI,.arr tI]⟩,[],[.bool,tL 3,tI,.nm 6,tLI,tLI]⟩,⟨.exit 3,⟨[(6,hP 2 0),(10,hP 3 0)],[.box [.hole (tL 3),.arr 4,.hole tLI,.hole tI],.gone,.box [.hole tI,.hole .bool,.hole tI,.hole .str,.hole tI,.cap0,.cap0,.cap0],.box [.hole tI,.hole .bool,.hole tI,.hole .str,.hole tI,.cap0,.arr 5,.arr 6],.arr tI,.arr (.nm 6),.arr (.nm 7)]⟩,[],[tL 3,tLI,tI,tI,.bool,tI,.str,tI,tI,.bool,tI,.str,tI,tLI,tL 6,tL 7]⟩],[]⟩
def e182 :FEnt:=⟨182,[hP 0 0,.row 3,hh .str],[.box [.hole (tL 3),.arr 1,.hole tLI,.hole tI],.arr tI],[.nm 3,.str,tL 3,tLI,tI,tLI],.tup [.row 6,hh .bool],[.box [.hole (tL 3),.arr 2,.hole tLI,.hole tI],.gone,.arr tI],[.nm 6,.bool,tL 3,tLI,tI,tLI],[g12o,g12p]⟩
def e139 :FEnt:=⟨139,[hP 0 0,hh tI,hh .str],[.box [.hole (tL 3),.arr 1,.hole tLI,.hole tI],.arr tI],[tI,.str,tL 3,tLI,tI,tLI],.tup [.row 6,hh .bool],[.box [.hole (tL 3),.arr 2,.hole tLI,.hole tI],.gone,.arr tI],[.nm 6,.bool,tL 3,tLI,tI,tLI],[]⟩
def e83 :FEnt:=⟨83,[.row 8,hh tI,hh .str],[],[.nm 8,tI,.str],.tup [.row 6,.row 10,hh tI],[],[.nm 6,.nm 10,tI],[]⟩
def e50 :FEnt:=⟨50,[.row 8,hh tI,hh .str],[],[.nm 8,tI,.str],.tup [.row 6,hh tI],[],[.nm 6,tI],[]⟩
def e77 :FEnt:=⟨77,[.row 8,hh tI],[],[.nm 8,tI],hh tI,[],[tI],[]⟩
def e193 :FEnt:=⟨193,[.row 6],[],[.nm 6],.row 6,[],[.nm 6],[]⟩
def e148 :FEnt:=⟨148,[.row 6],[],[.nm 6],hh .bool,[],[.bool],[]⟩
def e149 :FEnt:=⟨149,[hh tI],[],[tI],hh .bool,[],[.bool],[]⟩
def e194 :FEnt:=⟨194,[.row 6,hP 0 0,hP 1 0,hP 2 0],[bb (tL 3),bb tI,bb .bool],[.nm 6,tL 3,tI,.bool],hh .bool,[bb (tL 3),bb tI,bb .bool],[.bool,tL 3,tI,.bool],[]⟩
def ged :LEnt:=⟨0,⟨[(0,hh (tL 6)),(1,.c (.fn 194 [0,1,2])),(7,hh tI),(8,hh tI)],[bb (tL 3),bb tI,bb .bool]⟩,[],[],[tL 6,tI,tI,tL 3,tI,.bool],[⟨.ret,⟨[(4,hh tI)],[bb (tL 3),bb tI,bb .bool]⟩,[],[tI,tL 3,tI,.bool]⟩,⟨.exit 0,⟨[],[bb (tL 3),bb tI,bb .bool]⟩,[],[tL 3,tI,.bool]⟩],[]⟩
def ggv :FEnt:=⟨192,[hh (tL 6),.c (.fn 194 [0,1,2])],[bb (tL 3),bb tI,bb .bool],[tL 6,tL 3,tI,.bool],hh tI,[bb (tL 3),bb tI,bb .bool],[tI,tL 3,tI,.bool],[ged]⟩
def ggw :FEnt:=⟨144,[hh (tL 6),.c (.fn 194 [0,1,2])],[bb (tL 3),bb tI,bb .bool],[tL 6,tL 3,tI,.bool],hh .bool,[bb (tL 3),bb tI,bb .bool],[.bool,tL 3,tI,.bool],[]⟩
def e150 :FEnt:=⟨150,[.row 8,hh tI,hh (tL 6),hh .bool],[],[.nm 8,tI,tL 6,.bool],hh .bool,[],[.bool],[]⟩
def gy6 :LEnt:=⟨0,⟨[(3,hh .bool),(4,hP 0 0),(6,hP 1 0),(9,hP 2 0),(111,hh (tL 7)),(112,hh tI),(113,hh tI)],[bb (tL 3),.brow 6,.box [.hole tI,.hole .str,.hole tI,.hole tI,.hole tI,.hole (tL 4),.hole (tL 5),.hole tI,.hole tI,.hole .bool]]⟩,[],[],[.bool,tL 7,tI,tI,tL 3,.nm 6,tI,.str,tI,tI,tI,tL 4,tL 5,tI,tI,.bool],[oR 8 .bool,⟨.exit 1,⟨[(3,hh .bool),(4,hP 0 0),(6,hP 1 0),(9,hP 2 0)],[bb (tL 3),.box [.hole tI,.hole .bool,.hole tI,.hole .str,.hole tI,.hole (tL 6),.hole (tL 6),.hole (tL 7)],.box [.hole tI,.hole .str,.hole tI,.hole tI,.hole tI,.hole (tL 4),.hole (tL 5),.hole tI,.hole tI,.hole .bool]]⟩,[],[.bool,tL 3,tI,.bool,tI,.str,tI,tL 6,tL 6,tL 7,tI,.str,tI,tI,tI,tL 4,tL 5,tI,tI,.bool]⟩],[]⟩
def gkd :LEnt:=⟨1,⟨[(3,hh .bool),(4,hP 0 0),(6,hP 1 0),(150,hh (tL 5)),(151,hh tI),(152,hh tI)],[bb (tL 3),.box [.hole tI,.hole .bool,.hole tI,.hole .str,.hole tI,.hole (tL 6),.hole (tL 6),.hole (tL 7)]]⟩,[],[],[.bool,tL 5,tI,tI,tL 3,tI,.bool,tI,.str,tI,tL 6,tL 6,tL 7],[oR 8 .bool,oX 3],[]⟩
def gy7 :LEnt:=⟨2,⟨[(3,hh .bool),(4,hP 0 0),(6,hP 1 0),(9,hP 2 0),(20,hh tI)],[bb (tL 3),.brow 6,.box [.hole tI,.hole .str,.hole tI,.hole tI,.hole tI,.hole (tL 4),.hole (tL 5),.hole tI,.hole tI,.hole .bool]]⟩,[],[],[.bool,tI,tL 3,.nm 6,tI,.str,tI,tI,tI,tL 4,tL 5,tI,tI,.bool],[oR 8 .bool,⟨.exit 5,⟨[(3,hh .bool),(4,hP 0 0),(6,hP 1 0),(9,hP 2 0)],[bb (tL 3),.brow 6,.box [.hole tI,.hole .str,.hole tI,.hole tI,.hole tI,.hole (tL 4),.hole (tL 5),.hole tI,.hole tI,.hole .bool]]⟩,[],[.bool,tL 3,.nm 6,tI,.str,tI,tI,tI,tL 4,tL 5,tI,tI,.bool]⟩],[]⟩
def e112 :FEnt:=⟨112,[.row 8,hh tI,.row 6,hh .bool],[],[.nm 8,tI,.nm 6,.bool],hh .bool,[],[.bool],[gy6,gkd,gy7]⟩
def e86 :FEnt:=⟨86,[.row 8,hh tI,.row 6],[],[.nm 8,tI,.nm 6],hh .bool,[],[.bool],[]⟩
def e81 :FEnt:=⟨81,[.row 8,hh tI,.row 6],[],[.nm 8,tI,.nm 6],hh tI,[],[tI],[]⟩
def g12q :LEnt:=⟨0,⟨[(0,hh (.int .u64)),(3,hP 0 0),(4,hh tI)],[.arr (.int .u8)]⟩,[],[],[.int .u64,tI,.slice (.int .u8)],[⟨.exit 0,⟨[(3,hP 0 0),(4,hh tI)],[.arr (.int .u8)]⟩,[],[tI,.slice (.int .u8)]⟩],[]⟩
def e132 :FEnt:=⟨132,[hh (.int .u64)],[],[.int .u64],hh .str,[],[.str],[g12q]⟩
def g107 :LEnt:=⟨0,⟨[(1,hh (tL 6)),(2,.c (.fn 205 [])),(15,hh (tL 6)),(16,hh tI),(17,hh tI)],[]⟩,[],[],[tL 6,tL 6,tI,tI],[oR 6 .bool,oX 0],[]⟩
def g12r :FEnt:=⟨225,[hh (tL 6),hh (tL 6),.c (.fn 205 [])],[],[tL 6,tL 6],hh .bool,[],[.bool],[g107]⟩
def e205 :FEnt:=⟨205,[.row 6,.row 6],[],[.nm 6,.nm 6],hh .bool,[],[.bool],[]⟩
def e170 :FEnt:=⟨170,[.row 5,.row 6],[],[.nm 5,.nm 6],hh .bool,[],[.bool],[]⟩
def g12s :LEnt:=⟨0,⟨[(0,hh (.int .u64)),(3,hP 0 0),(4,hh tI)],[.arr (.int .u8)]⟩,[],[],[.int .u64,tI,.slice (.int .u8)],[⟨.exit 0,⟨[(0,hh (.int .u64)),(3,hP 0 0),(4,hh tI)],[.arr (.int .u8)]⟩,[],[.int .u64,tI,.slice (.int .u8)]⟩],[]⟩
def e175 :FEnt:=⟨175,[hh (.int .u64)],[],[.int .u64],hh .str,[],[.str],[g12s]⟩
def e137 :FEnt:=⟨137,[hh .str],[],[.str],hh .str,[],[.str],[]⟩
def e171 :FEnt:=⟨171,[hh tI,hh .bool,hh .str],[],[tI,.bool,.str],hh .str,[],[.str],[]⟩
def e136 :FEnt:=⟨136,[hP 0 0,hh .str],[.bld 200 ((.bufc 1)),.buf 5],[.str,.str],.tup [hh tI,.c (.dead)],[.bld 200 ((.bufc 2)),.gone,.buf 5],[tI,.str],[]⟩
def e138 :FEnt:=⟨138,[hP 0 0],[.bld 200 ((.bufc 1)),.buf 5],[.str],hh .str,[.bld 200 ((.bufc 1)),.gone],[.str],[]⟩
def g12t :LEnt:=⟨0,⟨[(0,hP 0 0),(3,hh tI),(6,hP 1 0),(9,.c (.arr 2)),(18,hh (tL 5)),(19,hh tI),(20,hh tI)],[.box [.hole (tL 3),.hole tI],.brow 6,.arr (.nm 11)]⟩,[(.slot 9,.nm 11)],[(.slot 9,.nm 11)],[tI,tL 5,tI,tI,tL 3,tI,.nm 6,tL 11],[⟨.exit 0,⟨[(6,hP 1 0),(9,.c (.arr 2))],[.box [.hole (tL 3),.hole tI],.brow 6,.arr (.nm 11)]⟩,[],[tL 3,tI,.nm 6,tL 11]⟩],[]⟩
def g12u :LEnt:=⟨1,⟨[(9,.c (.arr 1)),(57,hh (tL 7)),(58,hh tI),(59,hh tI)],[.box [.hole (tL 3),.hole tI],.arr (.nm 11)]⟩,[],[],[tL 7,tI,tI,tL 3,tI,tL 11],[⟨.exit 2,⟨[(9,.c (.arr 1))],[.box [.hole (tL 3),.hole tI],.arr (.nm 11)]⟩,[],[tL 3,tI,tL 11]⟩],[]⟩
def g12v :LEnt:=⟨2,⟨[(14,hP 1 0),(77,.c (.arr 2)),(78,hh tI),(79,hh tI)],[.box [.hole (tL 3),.hole tI],.bld 200 ((.bufc 3)),.arr (.nm 11),.buf 5]⟩,[],[],[tI,tI,tL 3,tI,tL 11,.str],[⟨.exit 4,⟨[(14,hP 1 0)],[.box [.hole (tL 3),.hole tI],.bld 200 ((.bufc 2)),.buf 5]⟩,[],[tL 3,tI,.str]⟩],[]⟩
def e134 :FEnt:=⟨134,[hP 0 0,.row 3,.row 6,hh tI],[.box [.hole (tL 3),.hole tI]],[.nm 3,.nm 6,tI,tL 3,tI],hh .str,[.box [.hole (tL 3),.hole tI]],[.str,tL 3,tI],[g12t,g12u,g12v]⟩
def e135 :FEnt:=⟨135,[hP 0 0,.row 3,.row 6,hh tI],[.box [.hole (tL 3),.hole tI]],[.nm 3,.nm 6,tI,tL 3,tI],hh .str,[.box [.hole (tL 3),.hole tI]],[.str,tL 3,tI],[]⟩
def e82_0 :LEnt:=⟨0,⟨[(0,hP 0 0),(3,hh tI),(6,hP 1 0),(9,hP 2 0),(10,hP 3 0),(84,hh (tL 6)),(85,hh tI),(86,hh tI)],[.box [.hole (tL 3),.hole tI],.brow 6,.brow 3,.bld 200 ((.bufc 4)),.buf 5]⟩,[],[],[tI,tL 6,tI,tI,tL 3,tI,.nm 6,.nm 3,.str],[⟨.exit 1,⟨[(10,hP 1 0)],[.box [.hole (tL 3),.hole tI],.bld 200 ((.bufc 2)),.buf 5]⟩,[],[tL 3,tI,.str]⟩],[]⟩
def e82 :FEnt:=⟨82,[hP 0 0,hh tI,.row 6,hh tI],[.box [.hole (tL 3),.hole tI]],[tI,.nm 6,tI,tL 3,tI],hh .str,[.box [.hole (tL 3),.hole tI]],[.str,tL 3,tI],[e82_0]⟩
def e49 :FEnt:=⟨49,[.row 8,hh tI,.row 6],[],[.nm 8,tI,.nm 6],.tup [hh .str,hh tI],[],[.str,tI],[]⟩
def e12 :FEnt:=⟨12,[.row 8,hh tI,hh .str],[],[.nm 8,tI,.str],.tup [hh .str,hh tI],[],[.str,tI],[]⟩
def e48 :FEnt:=⟨48,[hh tI,hh tI,hh (tL 7)],[],[tI,tI,tL 7],.row 6,[],[.nm 6],[]⟩
def e85 :FEnt:=⟨85,[.row 8,hh tI],[],[.nm 8,tI],hh tI,[],[tI],[]⟩
def e53 :FEnt:=⟨53,[.row 8,hh tI,.row 6],[],[.nm 8,tI,.nm 6],hh tI,[],[tI],[]⟩
def e87 :FEnt:=⟨87,[.row 3,.row 6],[],[.nm 3,.nm 6],hh .bool,[],[.bool],[]⟩
def e145 :FEnt:=⟨145,[.row 6,hP 0 0,hP 1 0],[bb (tL 3),.brow 3],[.nm 6,tL 3,.nm 3],hh .bool,[bb (tL 3),.brow 3],[.bool,tL 3,.nm 3],[]⟩
def gs8 :LEnt:=⟨0,⟨[(0,hh (tL 6)),(1,.c (.fn 145 [0,1])),(7,hh tI),(8,hh tI)],[bb (tL 3),.brow 3]⟩,[],[],[tL 6,tI,tI,tL 3,.nm 3],[⟨.ret,⟨[(4,hh tI)],[bb (tL 3),.brow 3]⟩,[],[tI,tL 3,.nm 3]⟩,⟨.exit 0,⟨[],[bb (tL 3),.brow 3]⟩,[],[tL 3,.nm 3]⟩],[]⟩
def gs9 :FEnt:=⟨192,[hh (tL 6),.c (.fn 145 [0,1])],[bb (tL 3),.brow 3],[tL 6,tL 3,.nm 3],hh tI,[bb (tL 3),.brow 3],[tI,tL 3,.nm 3],[gs8]⟩
def gsa :FEnt:=⟨144,[hh (tL 6),.c (.fn 145 [0,1])],[bb (tL 3),.brow 3],[tL 6,tL 3,.nm 3],hh .bool,[bb (tL 3),.brow 3],[.bool,tL 3,.nm 3],[]⟩
def e88 :FEnt:=⟨88,[.row 8,.row 3,.row 6],[],[.nm 8,.nm 3,.nm 6],hh .bool,[],[.bool],[]⟩
def e89_0 :LEnt:=⟨0,⟨[(2,hP 0 0),(3,hP 1 0),(5,.c (.arr 2)),(11,hh tI),(12,hh tI)],[.brow 3,.brow 6,.arr (.nm 12)]⟩,[(.slot 5,.nm 12)],[(.slot 5,.nm 12)],[tI,tI,.nm 3,.nm 6,tL 12],[⟨.exit 0,⟨[(5,.c (.arr 0))],[.arr (.nm 12)]⟩,[],[tL 12]⟩],[]⟩
def e89 :FEnt:=⟨89,[.row 3,.row 6],[],[.nm 3,.nm 6],hh (tL 12),[],[tL 12],[e89_0]⟩
def ggx :LEnt:=⟨0,⟨[(3,hh tLI),(4,hP 1 0),(6,hP 2 0),(10,.c (.arr 3)),(39,hh (tL 12)),(40,hh tI),(41,hh tI)],[.gone,bb (tL 3),.brow 6,.arr tLI]⟩,[(.slot 10,tLI)],[(.slot 10,tLI)],[tLI,tL 12,tI,tI,tL 3,.nm 6,.slice tLI],[⟨.exit 0,⟨[(10,.c (.arr 1))],[.gone,.arr tLI]⟩,[],[.slice tLI]⟩],[]⟩
def e54_a :FEnt:=⟨54,[.row 8,hh tI,.row 6,.c (.arr 0)],[.arr tI],[.nm 8,tI,.nm 6,tLI],hh (.slice tLI),[.gone],[.slice tLI],[ggx]⟩
def gue :LEnt:=⟨0,⟨[(3,hh tLI),(4,hP 0 0),(6,hP 1 0),(10,.c (.arr 2)),(39,hh (tL 12)),(40,hh tI),(41,hh tI)],[bb (tL 3),.brow 6,.arr tLI]⟩,[(.slot 10,tLI)],[(.slot 10,tLI)],[tLI,tL 12,tI,tI,tL 3,.nm 6,.slice tLI],[⟨.exit 0,⟨[(10,.c (.arr 0))],[.arr tLI]⟩,[],[.slice tLI]⟩],[]⟩
def e54_b :FEnt:=⟨54,[.row 8,hh tI,.row 6,hh tLI],[],[.nm 8,tI,.nm 6,tLI],hh (.slice tLI),[],[.slice tLI],[gue]⟩
def e15 :FEnt:=⟨15,[.row 8,hh tI,.row 6],[],[.nm 8,tI,.nm 6],.tup [hh (.slice tLI),hh tI],[],[.slice tLI,tI],[]⟩
def e67 :FEnt:=⟨67,[.row 8,hh tI,.row 6],[],[.nm 8,tI,.nm 6],hh .bool,[],[.bool],[]⟩
def e68_0 :LEnt:=⟨0,⟨[(4,hP 0 0),(6,hP 1 0),(7,hP 2 0),(8,hP 3 0),(10,hP 4 0),(55,hh (tL 12)),(56,hh tI),(57,hh tI)],[bb (tL 3),.brow 6,.brow 6,.box [.hole tI,.hole .bool,.hole tI,.hole .str,.hole tI,.cap0,.cap0,.cap0],.box [.hole tI,.hole .bool,.hole tI,.hole .str,.hole tI,.hole (tL 6),.arr 5,.hole (tL 7)],.arr (.nm 6)]⟩,[],[],[tL 12,tI,tI,tL 3,.nm 6,.nm 6,tI,.bool,tI,.str,tI,tI,.bool,tI,.str,tI,tL 6,tL 7,tL 6],[⟨.exit 1,⟨[(8,hP 0 0),(10,hP 1 0)],[.box [.hole tI,.hole .bool,.hole tI,.hole .str,.hole tI,.cap0,.cap0,.cap0],.box [.hole tI,.hole .bool,.hole tI,.hole .str,.hole tI,.hole (tL 6),.arr 2,.hole (tL 7)],.arr (.nm 6)]⟩,[],[tI,.bool,tI,.str,tI,tI,.bool,tI,.str,tI,tL 6,tL 7,tL 6]⟩],[]⟩
def e68 :FEnt:=⟨68,[.row 8,hh tI,.row 6,.row 6],[],[.nm 8,tI,.nm 6,.nm 6],.row 6,[],[.nm 6],[e68_0]⟩
def e27 :FEnt:=⟨27,[.row 8,hh tI,.row 6,.row 6],[],[.nm 8,tI,.nm 6,.nm 6],.tup [.row 6,hh tI],[],[.nm 6,tI],[]⟩
def e37 :FEnt:=⟨37,[.row 8,hh tI,hh .str],[],[.nm 8,tI,.str],hh .bool,[],[.bool],[]⟩
def e11 :FEnt:=⟨11,[],[],[],hh .bool,[],[.bool],[]⟩
def e115 :FEnt:=⟨115,[.row 3],[],[.nm 3],.row 3,[],[.nm 3],[]⟩
def gke :LEnt:=⟨0,⟨[(0,hh (tL 6)),(1,hh (tL 6)),(5,hh tI)],[]⟩,[],[],[tL 6,tL 6,tI],[oR 4 .bool,oX 0],[]⟩
def e105 :FEnt:=⟨105,[hh (tL 6),hh (tL 6)],[],[tL 6,tL 6],hh .bool,[],[.bool],[gke]⟩
def e65_0 :LEnt:=⟨0,⟨[(2,hP 0 0),(3,hP 1 0),(5,hh tI)],[.brow 6,.brow 6]⟩,[],[],[tI,.nm 6,.nm 6],[oR 4 .bool,⟨.exit 0,⟨[(2,hP 0 0),(3,hP 1 0)],[.brow 6,.brow 6]⟩,[],[.nm 6,.nm 6]⟩],[]⟩
def e65 :FEnt:=⟨65,[.row 6,.row 6],[],[.nm 6,.nm 6],hh .bool,[],[.bool],[e65_0]⟩
def e152 :FEnt:=⟨152,[.row 5,.row 5],[],[.nm 5,.nm 5],hh .bool,[],[.bool],[]⟩
def gy8 :LEnt:=⟨0,⟨[(2,hP 0 0),(3,hP 1 0),(5,hh tI)],[.brow 3,.brow 3]⟩,[],[],[tI,.nm 3,.nm 3],[oR 4 .bool,⟨.exit 0,⟨[(2,hP 0 0),(3,hP 1 0)],[.brow 3,.brow 3]⟩,[],[.nm 3,.nm 3]⟩],[]⟩
def gy9 :LEnt:=⟨1,⟨[(2,hP 0 0),(3,hP 1 0),(6,hh tI)],[.brow 3,.brow 3]⟩,[],[],[tI,.nm 3,.nm 3],[oR 4 .bool,oX 2],[]⟩
def e114 :FEnt:=⟨114,[.row 3,.row 3],[],[.nm 3,.nm 3],hh .bool,[],[.bool],[gy8,gy9]⟩
def e153 :FEnt:=⟨153,[hh (.int .u8)],[],[.int .u8],hh .bool,[],[.bool],[]⟩
def e154 :FEnt:=⟨154,[hh (.int .u8)],[],[.int .u8],hh .bool,[],[.bool],[]⟩
def gya :LEnt:=⟨0,⟨[(0,hh .str),(3,hh tI)],[]⟩,[],[],[.str,tI],[oR 2 .bool,oX 0],[]⟩
def e116 :FEnt:=⟨116,[hh .str],[],[.str],hh .bool,[],[.bool],[gya]⟩
def e155 :FEnt:=⟨155,[hh tI,hh tI],[],[tI,tI],hh .bool,[],[.bool],[]⟩
def gsb :LEnt:=⟨0,⟨[(0,hh (tL 4)),(4,hh tI),(5,hh tI)],[]⟩,[],[],[tL 4,tI,tI],[oR 2 .bool,⟨.exit 2,⟨[(0,hh (tL 4)),(4,hh tI)],[]⟩,[],[tL 4,tI]⟩],[]⟩
def gyb :LEnt:=⟨0,⟨[(0,hh (tL 4)),(3,hh tI),(4,hh tI)],[]⟩,[],[],[tL 4,tI,tI],[oR 2 .bool,⟨.exit 0,⟨[(0,hh (tL 4))],[]⟩,[],[tL 4]⟩],[gsb]⟩
def e117 :FEnt:=⟨117,[hh (tL 4)],[],[tL 4],hh .bool,[],[.bool],[gyb]⟩
def gsc :LEnt:=⟨0,⟨[(0,hh (tL 5)),(1,hh .bool),(6,hh tI),(7,hP 0 0),(8,hh tI)],[.brow 5]⟩,[],[],[tL 5,.bool,tI,tI,.nm 5],[oR 4 .bool,⟨.exit 2,⟨[(0,hh (tL 5)),(1,hh .bool),(6,hh tI),(7,hP 0 0)],[.brow 5]⟩,[],[tL 5,.bool,tI,.nm 5]⟩],[]⟩
def gyc :LEnt:=⟨0,⟨[(0,hh (tL 5)),(1,hh .bool),(5,hh tI),(6,hh tI)],[]⟩,[],[],[tL 5,.bool,tI,tI],[oR 4 .bool,⟨.exit 0,⟨[(0,hh (tL 5)),(1,hh .bool)],[]⟩,[],[tL 5,.bool]⟩],[gsc]⟩
def e118 :FEnt:=⟨118,[hh (tL 5),hh .bool],[],[tL 5,.bool],hh .bool,[],[.bool],[gyc]⟩
def e73 :FEnt:=⟨73,[.row 3],[],[.nm 3],hh .bool,[],[.bool],[]⟩
def e74_0 :LEnt:=⟨0,⟨[(1,hP 0 0),(3,.c (.arr 1)),(4,hh tI)],[.brow 3,.arr tI]⟩,[(.slot 3,tI)],[(.slot 3,tI)],[tI,.nm 3,tLI],[⟨.exit 0,⟨[(1,hP 0 0),(3,.c (.arr 1))],[.brow 3,.arr tI]⟩,[],[.nm 3,tLI]⟩],[]⟩
def e74 :FEnt:=⟨74,[.row 3],[],[.nm 3],hh tLI,[],[tLI],[e74_0]⟩
def guf :LEnt:=⟨0,⟨[(1,hP 0 0),(3,hh tI),(4,hP 1 0),(5,hh tI)],[bb (tL 3),.box [.hole tI,.hole .str,.hole tI,.hole tI,.hole tI,.hole (tL 4),.hole (tL 5),.hole tI,.hole tI,.hole .bool]]⟩,[],[],[tI,tI,tL 3,tI,.str,tI,tI,tI,tL 4,tL 5,tI,tI,.bool],[oR 2 tI,⟨.exit 2,⟨[(1,hP 0 0),(3,hh tI),(4,hP 1 0)],[bb (tL 3),.box [.hole tI,.hole .str,.hole tI,.hole tI,.hole tI,.hole (tL 4),.hole (tL 5),.hole tI,.hole tI,.hole .bool]]⟩,[],[tI,tL 3,tI,.str,tI,tI,tI,tL 4,tL 5,tI,tI,.bool]⟩],[]⟩
def gug :LEnt:=⟨1,⟨[(1,hP 0 0),(3,hh tI),(4,hP 1 0),(6,hh tLI),(7,hh tI)],[bb (tL 3),.box [.hole tI,.hole .str,.hole tI,.hole tI,.hole tI,.hole (tL 4),.hole (tL 5),.hole tI,.hole tI,.hole .bool]]⟩,[],[],[tI,tLI,tI,tL 3,tI,.str,tI,tI,tI,tL 4,tL 5,tI,tI,.bool],[oR 2 tI,⟨.exit 4,⟨[(1,hP 0 0),(3,hh tI),(4,hP 1 0)],[bb (tL 3),.box [.hole tI,.hole .str,.hole tI,.hole tI,.hole tI,.hole (tL 4),.hole (tL 5),.hole tI,.hole tI,.hole .bool]]⟩,[],[tI,tL 3,tI,.str,tI,tI,tI,tL 4,tL 5,tI,tI,.bool]⟩],[]⟩
def e36_0 :LEnt:=⟨0,⟨[(1,hP 0 0),(3,hh tI)],[bb (tL 3)]⟩,[],[],[tI,tL 3],[oR 2 tI,oX 0],[guf,gug]⟩
def e36 :FEnt:=⟨36,[.row 8],[],[.nm 8],hh tI,[],[tI],[e36_0]⟩
def e92_0 :LEnt:=⟨0,⟨[(1,hh tI),(2,hP 0 0),(6,hh tI)],[.brow 3]⟩,[],[],[tI,tI,.nm 3],[⟨.ret,⟨[(4,hh tI),(5,hh .bool)],[]⟩,[],[tI,.bool]⟩,oX 0],[]⟩
def e92 :FEnt:=⟨92,[.row 3,hh tI],[],[.nm 3,tI],.tup [hh tI,hh .bool],[],[tI,.bool],[e92_0]⟩
def e91_0 :LEnt:=⟨0,⟨[(1,hh tI),(2,hP 0 0),(6,hh tI)],[.brow 3]⟩,[],[],[tI,tI,.nm 3],[⟨.ret,⟨[(4,hh tI),(5,hh .bool)],[]⟩,[],[tI,.bool]⟩,oX 0],[]⟩
def e91 :FEnt:=⟨91,[.row 3,hh tI],[],[.nm 3,tI],.tup [hh tI,hh .bool],[],[tI,.bool],[e91_0]⟩
def e146 :FEnt:=⟨146,[hh .bool,hh .bool],[],[.bool,.bool],hh tI,[],[tI],[]⟩
def e99 :FEnt:=⟨99,[hh tI],[],[tI],hh (.int .u64),[],[.int .u64],[]⟩
def e97 :FEnt:=⟨97,[.row 6,.row 6],[],[.nm 6,.nm 6],hh tI,[],[tI],[]⟩
def e93 :FEnt:=⟨93,[.row 6],[],[.nm 6],hh .bool,[],[.bool],[]⟩
def e94 :FEnt:=⟨94,[hh tI,hh .bool],[],[tI,.bool],hh .bool,[],[.bool],[]⟩
def e95_0 :LEnt:=⟨0,⟨[(1,hh (tL 7)),(2,hP 0 0),(5,hh tI)],[.brow 3]⟩,[],[],[tL 7,tI,.nm 3],[oR 4 .bool,oX 0],[]⟩
def e95 :FEnt:=⟨95,[.row 3,hh (tL 7)],[],[.nm 3,tL 7],hh .bool,[],[.bool],[e95_0]⟩
def e96_0 :LEnt:=⟨0,⟨[(1,hh tI),(2,hh (tL 6)),(3,hh .bool),(4,hP 0 0),(9,hh tI)],[bb (tL 3)]⟩,[],[],[tI,tL 6,.bool,tI,tL 3],[oR 8 .bool,oX 0],[]⟩
def e96 :FEnt:=⟨96,[.row 8,hh tI,hh (tL 6),hh .bool],[],[.nm 8,tI,tL 6,.bool],hh .bool,[],[.bool],[e96_0]⟩
def e60_0 :LEnt:=⟨0,⟨[(3,hh .bool),(4,hP 0 0),(6,hP 1 0),(9,hP 2 0),(12,hh tI)],[bb (tL 3),.brow 6,.box [.hole tI,.hole .str,.hole tI,.hole tI,.hole tI,.hole (tL 4),.hole (tL 5),.hole tI,.hole tI,.hole .bool]]⟩,[],[],[.bool,tI,tL 3,.nm 6,tI,.str,tI,tI,tI,tL 4,tL 5,tI,tI,.bool],[oR 8 .bool,oX 1],[]⟩
def e60_1 :LEnt:=⟨1,⟨[(6,hP 0 0),(15,hh tI)],[.brow 6]⟩,[],[],[tI,.nm 6],[oR 8 .bool,oX 3],[]⟩
def e60 :FEnt:=⟨60,[.row 8,hh tI,.row 6,hh .bool],[],[.nm 8,tI,.nm 6,.bool],hh .bool,[],[.bool],[e60_0,e60_1]⟩
def e29 :FEnt:=⟨29,[.row 8,hh tI,.row 6],[],[.nm 8,tI,.nm 6],hh .bool,[],[.bool],[]⟩
def e55 :FEnt:=⟨55,[.row 8,hh tI,.row 6],[],[.nm 8,tI,.nm 6],hh tI,[],[tI],[]⟩
def e3 :FEnt:=⟨3,[.row 0,hh tI,hh .str],[],[.nm 0,tI,.str],hh .bool,[],[.bool],[]⟩
def e9 :FEnt:=⟨9,[.row 0,hh tI,hh .str],[],[.nm 0,tI,.str],hh .bool,[],[.bool],[]⟩
def e106 :FEnt:=⟨106,[hP 0 0,hh tI],[.box [.hole (tL 3),.hole (.slice (.int .u8)),.hole .bool]],[tI,tL 3,.slice (.int .u8),.bool],hh tI,[.box [.hole (tL 3),.hole (.slice (.int .u8)),.hole .bool]],[tI,tL 3,.slice (.int .u8),.bool],[]⟩
def gyd :LEnt:=⟨0,⟨[(0,hP 0 0),(5,hh .str),(6,hh tI)],[.box [.hole (tL 3),.hole (.slice (.int .u8)),.hole .bool]]⟩,[],[],[.str,tI,tL 3,.slice (.int .u8),.bool],[⟨.exit 0,⟨[(5,hh .str)],[.box [.hole (tL 3),.hole (.slice (.int .u8)),.hole .bool]]⟩,[],[.str,tL 3,.slice (.int .u8),.bool]⟩],[]⟩
def e107 :FEnt:=⟨107,[hP 0 0,hh tI],[.box [.hole (tL 3),.hole (.slice (.int .u8)),.hole .bool]],[tI,tL 3,.slice (.int .u8),.bool],hh .str,[.box [.hole (tL 3),.hole (.slice (.int .u8)),.hole .bool]],[.str,tL 3,.slice (.int .u8),.bool],[gyd]⟩
def e108 :FEnt:=⟨108,[hP 0 0],[.box [.hole (tL 3),.hole (.slice (.int .u8)),.hole .bool]],[tL 3,.slice (.int .u8),.bool],hh .bool,[.box [.hole (tL 3),.hole (.slice (.int .u8)),.hole .bool]],[.bool,tL 3,.slice (.int .u8),.bool],[]⟩
def e147 :FEnt:=⟨147,[.row 3,hh tI],[],[.nm 3,tI],hh .bool,[],[.bool],[]⟩
def gye :LEnt:=⟨0,⟨[(3,hP 1 0),(5,hh tI)],[.box [.hole (tL 3),.hole (.slice (.int .u8)),.hole .bool],.brow 3]⟩,[],[],[tI,tL 3,.slice (.int .u8),.bool,.nm 3],[⟨.exit 0,⟨[(5,hh tI)],[.box [.hole (tL 3),.hole (.slice (.int .u8)),.hole .bool]]⟩,[],[tI,tL 3,.slice (.int .u8),.bool]⟩],[]⟩
def e109 :FEnt:=⟨109,[hP 0 0,.row 3],[.box [.hole (tL 3),.hole (.slice (.int .u8)),.hole .bool]],[.nm 3,tL 3,.slice (.int .u8),.bool],hh tI,[.box [.hole (tL 3),.hole (.slice (.int .u8)),.hole .bool]],[tI,tL 3,.slice (.int .u8),.bool],[gye]⟩
def e110 :FEnt:=⟨110,[hP 0 0,hh tI],[.box [.hole (tL 3),.hole (.slice (.int .u8)),.hole .bool]],[tI,tL 3,.slice (.int .u8),.bool],.row 7,[.box [.hole (tL 3),.hole (.slice (.int .u8)),.hole .bool]],[.nm 7,tL 3,.slice (.int .u8),.bool],[]⟩
def gyf :LEnt:=⟨0,⟨[(3,hP 0 0),(4,hP 1 0),(5,hP 2 0),(6,hP 3 0),(7,hh tI)],[.brow 6,.brow 6,.brow 6,.box [.hole tI,.hole .bool,.hole tI,.hole .str,.hole tI,.cap0,.cap0,.cap0]]⟩,[],[],[tI,.nm 6,.nm 6,.nm 6,tI,.bool,tI,.str,tI],[⟨.exit 0,⟨[(3,hP 0 0),(4,hP 1 0),(5,hP 2 0),(6,hP 3 0),(7,hh tI)],[.brow 6,.brow 6,.brow 6,.box [.hole tI,.hole .bool,.hole tI,.hole .str,.hole tI,.cap0,.cap0,.cap0]]⟩,[],[tI,.nm 6,.nm 6,.nm 6,tI,.bool,tI,.str,tI]⟩],[]⟩
def e111 :FEnt:=⟨111,[.row 6,.row 6,.row 6],[],[.nm 6,.nm 6,.nm 6],.row 6,[],[.nm 6],[gyf]⟩
def e66_0 :LEnt:=⟨0,⟨[(0,hP 0 0),(4,hP 1 0),(5,hP 2 0),(6,hP 3 0),(7,hh tI)],[.box [.hole (tL 3),.hole (.slice (.int .u8)),.hole .bool],.box [.hole tI,.hole .bool,.hole tI,.hole .str,.hole tI,.cap0,.cap0,.cap0],.box [.hole tI,.hole .str,.hole tI,.hole tI,.hole tI,.hole (tL 4),.hole (tL 5),.hole tI,.hole tI,.hole .bool],.box [.hole tI,.hole .bool,.hole tI,.hole .str,.hole tI,.cap0,.arr 4,.cap0],.arr (.nm 6)]⟩,[(.via 6 6,.nm 6)],[(.via 6 6,.nm 6)],[tI,tL 3,.slice (.int .u8),.bool,tI,.bool,tI,.str,tI,tI,.str,tI,tI,tI,tL 4,tL 5,tI,tI,.bool,tI,.bool,tI,.str,tI,tL 6],[⟨.exit 1,⟨[(0,hP 0 0),(4,hP 1 0),(5,hP 2 0),(6,hP 3 0)],[.box [.hole (tL 3),.hole (.slice (.int .u8)),.hole .bool],.box [.hole tI,.hole .bool,.hole tI,.hole .str,.hole tI,.cap0,.cap0,.cap0],.box [.hole tI,.hole .str,.hole tI,.hole tI,.hole tI,.hole (tL 4),.hole (tL 5),.hole tI,.hole tI,.hole .bool],.box [.hole tI,.hole .bool,.hole tI,.hole .str,.hole tI,.cap0,.arr 4,.cap0],.arr (.nm 6)]⟩,[],[tL 3,.slice (.int .u8),.bool,tI,.bool,tI,.str,tI,tI,.str,tI,tI,tI,tL 4,tL 5,tI,tI,.bool,tI,.bool,tI,.str,tI,tL 6]⟩],[]⟩
def e66_1 :LEnt:=⟨1,⟨[(0,hP 0 0),(4,hP 1 0),(5,hP 2 0),(6,hP 3 0),(9,hh tI)],[.box [.hole (tL 3),.hole (.slice (.int .u8)),.hole .bool],.box [.hole tI,.hole .bool,.hole tI,.hole .str,.hole tI,.cap0,.cap0,.cap0],.box [.hole tI,.hole .str,.hole tI,.hole tI,.hole tI,.hole (tL 4),.hole (tL 5),.hole tI,.hole tI,.hole .bool],.box [.hole tI,.hole .bool,.hole tI,.hole .str,.hole tI,.cap0,.arr 4,.cap0],.arr (.nm 6)]⟩,[(.via 6 6,.nm 6)],[(.via 6 6,.nm 6)],[tI,tL 3,.slice (.int .u8),.bool,tI,.bool,tI,.str,tI,tI,.str,tI,tI,tI,tL 4,tL 5,tI,tI,.bool,tI,.bool,tI,.str,tI,tL 6],[⟨.exit 3,⟨[(4,hP 1 0),(6,hP 2 0)],[.box [.hole (tL 3),.hole (.slice (.int .u8)),.hole .bool],.box [.hole tI,.hole .bool,.hole tI,.hole .str,.hole tI,.cap0,.cap0,.cap0],.box [.hole tI,.hole .bool,.hole tI,.hole .str,.hole tI,.cap0,.arr 3,.cap0],.arr (.nm 6)]⟩,[],[tL 3,.slice (.int .u8),.bool,tI,.bool,tI,.str,tI,tI,.bool,tI,.str,tI,tL 6]⟩],[]⟩
def e66_2 :LEnt:=⟨2,⟨[(0,hP 0 0),(4,hP 1 0),(5,hP 2 0),(6,hP 3 0),(10,hh tI)],[.box [.hole (tL 3),.hole (.slice (.int .u8)),.hole .bool],.box [.hole tI,.hole .bool,.hole tI,.hole .str,.hole tI,.cap0,.cap0,.cap0],.box [.hole tI,.hole .str,.hole tI,.hole tI,.hole tI,.hole (tL 4),.hole (tL 5),.hole tI,.hole tI,.hole .bool],.box [.hole tI,.hole .bool,.hole tI,.hole .str,.hole tI,.hole (tL 6),.hole (tL 6),.hole (tL 7)]]⟩,[],[],[tI,tL 3,.slice (.int .u8),.bool,tI,.bool,tI,.str,tI,tI,.str,tI,tI,tI,tL 4,tL 5,tI,tI,.bool,tI,.bool,tI,.str,tI,tL 6,tL 6,tL 7],[⟨.exit 5,⟨[(4,hP 1 0),(6,hP 2 0)],[.box [.hole (tL 3),.hole (.slice (.int .u8)),.hole .bool],.box [.hole tI,.hole .bool,.hole tI,.hole .str,.hole tI,.cap0,.cap0,.cap0],.box [.hole tI,.hole .bool,.hole tI,.hole .str,.hole tI,.hole (tL 6),.hole (tL 6),.hole (tL 7)]]⟩,[],[tL 3,.slice (.int .u8),.bool,tI,.bool,tI,.str,tI,tI,.bool,tI,.str,tI,tL 6,tL 6,tL 7]⟩],[]⟩
def e66 :FEnt:=⟨66,[hP 0 0,hh tI],[.box [.hole (tL 3),.hole (.slice (.int .u8)),.hole .bool]],[tI,tL 3,.slice (.int .u8),.bool],.row 6,[.box [.hole (tL 3),.hole (.slice (.int .u8)),.hole .bool]],[.nm 6,tL 3,.slice (.int .u8),.bool],[e66_0,e66_1,e66_2]⟩
def e26 :FEnt:=⟨26,[.row 8,hh tI,hh (.slice (.int .u8))],[],[.nm 8,tI,.slice (.int .u8)],.row 6,[],[.nm 6],[]⟩
def e52 :FEnt:=⟨52,[.row 8,hh tI,hh (.slice (.int .u8))],[],[.nm 8,tI,.slice (.int .u8)],.row 6,[],[.nm 6],[]⟩
def e14 :FEnt:=⟨14,[.row 15],[],[.nm 15],.tup [.row 8,hh tI,.row 6,.row 6,hh .bool],[],[.nm 8,tI,.nm 6,.nm 6,.bool],[]⟩
def e63_0 :LEnt:=⟨0,⟨[(3,hP 0 0),(5,hP 1 0),(6,hP 2 0),(9,hP 3 0),(49,hh (tL 12)),(50,hh tI),(51,hh tI)],[bb (tL 3),.brow 6,.box [.hole tI,.hole .bool,.hole tI,.hole .str,.hole tI,.cap0,.cap0,.cap0],.box [.hole tI,.hole .bool,.hole tI,.hole .str,.hole tI,.arr 4,.arr 5,.cap0],.arr (.nm 6),.arr (.nm 6)]⟩,[(.via 9 6,.nm 6)],[(.via 9 6,.nm 6)],[tL 12,tI,tI,tL 3,.nm 6,tI,.bool,tI,.str,tI,tI,.bool,tI,.str,tI,tL 6,tL 6],[⟨.ret,⟨[(6,hP 0 0),(7,hh .bool)],[.box [.hole tI,.hole .bool,.hole tI,.hole .str,.hole tI,.cap0,.cap0,.cap0]]⟩,[],[.bool,tI,.bool,tI,.str,tI]⟩,⟨.exit 0,⟨[(6,hP 0 0),(9,hP 1 0)],[.box [.hole tI,.hole .bool,.hole tI,.hole .str,.hole tI,.cap0,.cap0,.cap0],.box [.hole tI,.hole .bool,.hole tI,.hole .str,.hole tI,.arr 2,.arr 3,.cap0],.arr (.nm 6),.arr (.nm 6)]⟩,[],[tI,.bool,tI,.str,tI,tI,.bool,tI,.str,tI,tL 6,tL 6]⟩],[]⟩
def e63 :FEnt:=⟨63,[.row 8,hh tI,.row 6],[],[.nm 8,tI,.nm 6],.tup [.row 6,hh .bool],[],[.nm 6,.bool],[e63_0]⟩
def e23 :FEnt:=⟨23,[.row 8,hh tI,.row 6],[],[.nm 8,tI,.nm 6],.tup [.row 6,hh tI],[],[.nm 6,tI],[]⟩
def e104 :FEnt:=⟨104,[.row 6],[],[.nm 6],.agg [.hole tI,.hole .bool,.hole tI,.hole .str,.hole tI,.arr 0,.arr 1,.arr 2],[.arr (.nm 6),.arr (.nm 6),.arr (.nm 7)],[tI,.bool,tI,.str,tI,tL 6,tL 6,tL 7],[]⟩
def e18 :FEnt:=⟨18,[.row 8,hh tI,.row 6],[],[.nm 8,tI,.nm 6],hh .bool,[],[.bool],[]⟩
def e25 :FEnt:=⟨25,[.row 6,.row 6],[],[.nm 6,.nm 6],hh .bool,[],[.bool],[]⟩
def e6 :FEnt:=⟨6,[.row 15],[],[.nm 15],hh .bool,[],[.bool],[]⟩
def e4 :FEnt:=⟨4,[.row 15],[],[.nm 15],hh .bool,[],[.bool],[]⟩
def e69_0 :LEnt:=⟨0,⟨[(2,hP 0 0),(3,hP 1 0),(4,hP 2 0),(5,hP 3 0),(6,hh tI)],[.brow 6,.brow 6,.box [.hole tI,.hole .bool,.hole tI,.hole .str,.hole tI,.cap0,.cap0,.cap0],.box [.hole tI,.hole .bool,.hole tI,.hole .str,.hole tI,.arr 4,.arr 5,.arr 6],.arr (.nm 6),.arr (.nm 6),.arr (.nm 7)]⟩,[],[],[tI,.nm 6,.nm 6,tI,.bool,tI,.str,tI,tI,.bool,tI,.str,tI,tL 6,tL 6,tL 7],[⟨.exit 1,⟨[(4,hP 0 0),(5,hP 1 0)],[.box [.hole tI,.hole .bool,.hole tI,.hole .str,.hole tI,.cap0,.cap0,.cap0],.box [.hole tI,.hole .bool,.hole tI,.hole .str,.hole tI,.arr 2,.arr 3,.arr 4],.arr (.nm 6),.arr (.nm 6),.arr (.nm 7)]⟩,[],[tI,.bool,tI,.str,tI,tI,.bool,tI,.str,tI,tL 6,tL 6,tL 7]⟩],[]⟩
def e69 :FEnt:=⟨69,[.row 6,.row 6],[],[.nm 6,.nm 6],.row 6,[],[.nm 6],[e69_0]⟩
def e28 :FEnt:=⟨28,[.row 8,hh tI,.row 6,.row 6],[],[.nm 8,tI,.nm 6,.nm 6],.tup [.row 6,hh tI],[],[.nm 6,tI],[]⟩
def e32_0 :LEnt:=⟨0,⟨[(0,hh tLI),(1,hh tLI),(12,hh tI),(13,hh tI)],[]⟩,[],[],[tLI,tLI,tI,tI],[oR 4 .bool,oX 0],[]⟩
def e32 :FEnt:=⟨32,[hh tLI,hh tLI],[],[tLI,tLI],hh .bool,[],[.bool],[e32_0]⟩
def e31 :FEnt:=⟨31,[hh tLI,hP 0 0],[bb tLI],[tLI,tLI],hh .bool,[bb tLI],[.bool,tLI],[]⟩
def e70_0 :LEnt:=⟨0,⟨[(0,hh (.slice tLI)),(1,.c (.fn 31 [0])),(7,hh tI),(8,hh tI)],[bb tLI]⟩,[],[],[.slice tLI,tI,tI,tLI],[⟨.ret,⟨[(4,hh tI)],[bb tLI]⟩,[],[tI,tLI]⟩,⟨.exit 0,⟨[],[bb tLI]⟩,[],[tLI]⟩],[]⟩
def e70 :FEnt:=⟨70,[hh (.slice tLI),.c (.fn 31 [0])],[bb tLI],[.slice tLI,tLI],hh tI,[bb tLI],[tI,tLI],[e70_0]⟩
def e30 :FEnt:=⟨30,[hh (.slice tLI),.c (.fn 31 [0])],[bb tLI],[.slice tLI,tLI],hh .bool,[bb tLI],[.bool,tLI],[]⟩
def e7_0 :LEnt:=⟨0,⟨[(17,hh (.slice tLI)),(114,hh (.slice tLI)),(115,hh tI),(116,hh tI)],[]⟩,[],[],[.slice tLI,.slice tLI,tI,tI],[oR 2 .bool,oX 0],[]⟩
def e7 :FEnt:=⟨7,[.row 16],[],[.nm 16],hh .bool,[],[.bool],[e7_0]⟩
def tabE0 :List FEnt:=[e47,e220,e224,ggu,e223,e222,e221,e201,e216,e217,e198,e218,e199,e219,e200,e158,e159,e125,e177,e168]
def tabE1 :List FEnt:=[e169,e191,e190,e143,e178,e204,e165,e128,e167,e166,e129,e179,e202,e161,e180,e133,e214,e195,e208,e174]
def tabE2 :List FEnt:=[e215,e197,e196,e151,e181,e160,e211,e210,e212,e182,e139,e83,e50,e77,e193,e148,e149,e194,ggv,ggw]
def tabE3 :List FEnt:=[e150,e112,e86,e81,e132,g12r,e205,e170,e175,e137,e171,e136,e138,e134,e135,e82,e49,e12,e48,e85]
def tabE4 :List FEnt:=[e53,e87,e145,gs9,gsa,e88,e89,e54_a,e54_b,e15,e67,e68,e27,e37,e11]
def tabE :List FEnt:=tabE0++tabE1++tabE2++tabE3++tabE4
theorem gkf :tabE.all (okE prog)=true:=by kernel_rfl
def g6p :FSpec Un:={gbt with F:=sortK (α:=Un.D 11) sortLt}
theorem g7u :FnC prog g6p:=⟨ggt.1,fun h r hr=>ggt.2 h r (g106 sortSWO _ r hr)⟩
end
section
open Go Go.Proofs.YtijpinendaoleaaGreat.Shv
open Tryz
set_option maxRecDepth 100000
def g3t(_:Unit) :Option (SSchema):=
 some (⟨[(⟨2,[],(-10),10,0,[],[],0,0,false⟩:SType),(⟨2,[],0,5,0,[],[],0,0,false⟩:SType),(⟨5,[80,111,105,110,116],0,0,0,[],[(⟨1,[120],0,false,false,(⟨0,false,0,[],0,[],[],[]⟩:SValue)⟩:SMember),(⟨2,[121],1,false,true,(⟨2,false,3,[],0,[],[],[]⟩:SValue)⟩:SMember)],0,0,false⟩:SType)]⟩:SSchema)
theorem e47_k :KC e47:= .m (by kernel_rfl)
theorem ggy :FC e47 g3t:= .fn e47_k .n .n fun _=>by kernel_rfl
def g7n(x_:Int × Int × List SRaw) :Option (SValue):=
 match x_ with
 | (x0,y,rest)=>
 some (⟨5,false,0,[],0,[],[(⟨2,false,x0,[],0,[],[],[]⟩:SValue),(⟨2,false,y,[],0,[],[],[]⟩:SValue)],rest⟩:SValue)
theorem e48_k :KC e48:= .m (by kernel_rfl)
theorem giw :FC e48 g7n:= .fn e48_k .n .n fun _=>by kernel_rfl
theorem e12_k :KC e12:= .m (by kernel_rfl)
noncomputable def g7h:SSchema × Int × List UInt8→Option (List UInt8 × Int):=evF prog tabE [g44,g45,g47,g6p,g5g,g4m] 3000 e12
theorem gl9 :FC e12 g7h:= .run gkf (.k g62 (.k g46 (.k g5a (.k g7u (.k g7g (.k g4n .n)))))) e12_k 3000 fun _=>rfl
theorem e15_k :KC e15:= .m (by kernel_rfl)
noncomputable def g8k:SSchema × Int × SValue→Option (List (List Int) × Int):=evF prog tabE [g44,g45,g47,g6p,g5g,g4m] 3000 e15
theorem gnz :FC e15 g8k:= .run gkf (.k g62 (.k g46 (.k g5a (.k g7u (.k g7g (.k g4n .n)))))) e15_k 3000 fun _=>rfl
theorem e27_k :KC e27:= .m (by kernel_rfl)
noncomputable def g8l:SSchema × Int × SValue × SValue→Option (SValue × Int):=evF prog tabE [g44,g45,g47,g6p,g5g,g4m] 3000 e27
theorem go0 :FC e27 g8l:= .run gkf (.k g62 (.k g46 (.k g5a (.k g7u (.k g7g (.k g4n .n)))))) e27_k 3000 fun _=>rfl
theorem e49_k :KC e49:= .m (by kernel_rfl)
noncomputable def g7i:SSchema × Int × SValue→Option (List UInt8 × Int):=evF prog tabE [g44,g45,g47,g6p,g5g,g4m] 3000 e49
theorem gla :FC e49 g7i:= .run gkf (.k g62 (.k g46 (.k g5a (.k g7u (.k g7g (.k g4n .n)))))) e49_k 3000 fun _=>rfl
theorem e37_k :KC e37:= .m (by kernel_rfl)
noncomputable def g5q:SSchema × Int × List UInt8→Option (Bool):=evF prog tabE [g44,g45,g47,g6p,g5g,g4m] 3000 e37
theorem ggz :FC e37 g5q:= .run gkf (.k g62 (.k g46 (.k g5a (.k g7u (.k g7g (.k g4n .n)))))) e37_k 3000 fun _=>rfl
def g99(g7h:SSchema × Int × List UInt8→Option (List UInt8 × Int))(g8k:SSchema × Int × SValue→Option (List (List Int) × Int))(g8l:SSchema × Int × SValue × SValue→Option (SValue × Int))(g7i:SSchema × Int × SValue→Option (List UInt8 × Int))(g5q:SSchema × Int × List UInt8→Option (Bool)) :Option (Bool):=
 g3t () >>=fun r=>
 g7h (r,2,[2,1,3,4,1,6,8,1,9]) >>=fun r_1=>
 g7n ((-2),3,[(⟨4,[9]⟩:SRaw)]) >>=fun r_4=>
 g3t () >>=fun r_5=>
 g8k (r_5,2,SValue.eta r_4) >>=fun r_6=>
 g3t () >>=fun r_9=>
 g7n (0,3,[]) >>=fun r_10=>
 g8l (r_9,2,SValue.eta r_4,SValue.eta r_10) >>=fun r_11=>
 g3t () >>=fun r_14=>
 g7i (r_14,2,SValue.eta r_11.1) >>=fun r_15=>
 some (bif bif bif bif bif decide (r_1.2=0)then decide (r_6.2=0)else false then decide (r_11.2=0)else false then decide (r_15.2=0)else false then decide (r_1.1=[2,1,3,8,1,9])else false then decide ((r_6.1.length:Int)=1)else false) >>=fun t59=>
 if(inR 0 r_6.1.length || (!t59))=true then
   some (bif bif t59 then decide (((r_6.1.getD (0:Int).toNat []).length:Int)=0)else false then decide (r_15.1=[2,0,8,1,9])else false) >>=fun t70=>
   (if t70=true then g3t ()else some dSSchema) >>=fun r_18=>
   (if t70=true then g5q (r_18,2,r_1.1)else some false) >>=fun r_19=>
   some (bif t70 then r_19 else false)
 else none
noncomputable def g9a (_:Unit):Option (Bool):=g99 g7h g8k g8l g7i g5q
theorem e11_k :KC e11:= .m (by kernel_rfl)
theorem gi7 :FC e11 g9a:= .fn e11_k (.k ggy (.k gl9 (.k giw (.k gnz (.k go0 (.k gla (.k ggz .n))))))) .n fun _=>by kernel_rfl
end
section
open Go Go.Proofs.YtijpinendaoleaaGreat.Shv
open Tryz
set_option maxRecDepth 100000
def awN(n:Int) :SValue:=⟨2,false,n,[],0,[],[],[]⟩
def awE :SSchema:=⟨[⟨2,[],-10,10,0,[],[],0,0,false⟩,⟨2,[],0,5,0,[],[],0,0,false⟩,⟨5,[80,111,105,110,116],0,0,0,[],[⟨1,[120],0,false,false,⟨0,false,0,[],0,[],[],[]⟩⟩,⟨2,[121],1,false,true,awN 3⟩],0,0,false⟩]⟩
def awP(x y:Int)(r:List SRaw) :SValue:=⟨5,false,0,[],0,[],[awN x,awN y],r⟩
theorem g12w :g3t ()=some awE:=rfl
theorem g12x(x y:Int)(r:List SRaw) :g7n (x,y,r)=some (awP x y r):=rfl
theorem aw1 :g7h (awE,2,[2,1,3,4,1,6,8,1,9])=some ([2,1,3,8,1,9],0):=by kernel_rfl
theorem aw2 :g8k (awE,2,awP (-2) 3 [⟨4,[9]⟩])=some ([[]],0):=by kernel_rfl
theorem aw3 :g8l (awE,2,awP (-2) 3 [⟨4,[9]⟩],awP 0 3 [])=some (awP 0 3 [⟨4,[9]⟩],0):=by kernel_rfl
theorem aw4 :g7i (awE,2,awP 0 3 [⟨4,[9]⟩])=some ([2,0,8,1,9],0):=by kernel_rfl
theorem aw5 :g5q (awE,2,[2,1,3,8,1,9])=some true:=by kernel_rfl
theorem gyg (g1 : SSchema × Int × List UInt8 → Option (List UInt8 × Int)) (g2 : SSchema × Int × SValue → Option (List (List Int) × Int)) (g3 : SSchema × Int × SValue × SValue → Option (SValue × Int)) (g4 : SSchema × Int × SValue → Option (List UInt8 × Int)) (g5 : SSchema × Int × List UInt8 → Option Bool)
   (h1:g1 (awE,2,[2,1,3,4,1,6,8,1,9])=some ([2,1,3,8,1,9],0)) (h2:g2 (awE,2,awP (-2) 3 [⟨4,[9]⟩])=some ([[]],0)) (h3:g3 (awE,2,awP (-2) 3 [⟨4,[9]⟩],awP 0 3 [])=some (awP 0 3 [⟨4,[9]⟩],0))
   (h4:g4 (awE,2,awP 0 3 [⟨4,[9]⟩])=some ([2,0,8,1,9],0)) (h5:g5 (awE,2,[2,1,3,8,1,9])=some true):g99 g1 g2 g3 g4 g5=some true:=by
 unfold g99;simp only[oZ4,oZ3,g12w,g12x,SValue.ge];rw[h1,h2];simp only[oZ3];rw[h3];simp only[oZ3,SValue.ge];rw[h4];simp[inR,h5]
theorem gyh :g9a ()=some true:=gyg _ _ _ _ _ aw1 aw2 aw3 aw4 aw5
def g6d(_:Unit) :Option (Bool):=some true
theorem gix :FC e11 g6d:=by
 have:g9a=g6d:=by funext x;exact gyh
 rw[←this];exact gi7
theorem gh0 :g6d ()=some true:=rfl
end
section
open Go Go.Proofs.YtijpinendaoleaaGreat.Shv
open Tryz
set_option maxRecDepth 100000
def g48(x_:Sheaveref07Draft × Int) :Option (Int):=
 match x_ with
 | (d,i)=>
 if inR i d.Nodes.length=true then
 some (addI .i64 1 (wrp .i64 (remI (d.Nodes.getD i.toNat dSheaveref07Node).Kind 9)))
 else none
theorem e40_k :KC e40:= .m (by kernel_rfl)
theorem g63 :FC e40 g48:= .fn e40_k .n .n fun _=>by kernel_rfl
def g1g(kind:Int) :Option (Bool):=
 some (bif bif decide (kind=4)then true else decide (kind=5)then true else decide (kind=6))
theorem e41_k :KC e41:= .m (by kernel_rfl)
theorem g8w :FC e41 g1g:= .fn e41_k .n .n fun _=>by kernel_rfl
def g3u(x0:Sheaveref07Node) :Option (Int):=
 some (subI .i64 (wrp .i64 (remI x0.A 7)) 3)
theorem e42_k :KC e42:= .m (by kernel_rfl)
theorem g9r :FC e42 g3u:= .fn e42_k .n .n fun _=>by kernel_rfl
def g55(x0:Sheaveref07Node) :Option (Int):=
 g3u x0 >>=fun r=>
 some (addI .i64 r (wrp .i64 (remI x0.B 6)))
theorem e43_k :KC e43:= .m (by kernel_rfl)
theorem gcg :FC e43 g55:= .fn e43_k (.k g9r .n) .n fun _=>by kernel_rfl
def g30(x_:Int × Sheaveref07Node × List Int) :Option (List Int):=
 match x_ with
 | (i,b_1,b_2)=>
 if decide (i < 6)=true then
 if decide (0≤i)=true then
 if decide (remI (shrI .u8 b_1.A i) 2=1)=true then
 some [addI .i64 i 1] >>=fun t18=>
 if room 8 (b_2++t18).length=true then
 g30 (addI .i64 i 1,b_1,b_2++t18)
 else none
 else
 g30 (addI .i64 i 1,b_1,b_2)
 else none
 else
 some b_2
  partial_fixpoint
theorem gi8 :LC 44 0 [0] e44_0 g30:= .rc g30.partial_correctness .n .n fun _ _=>by kernel_rfl
def g3g(x0:Sheaveref07Node) :Option (List Int):=
 g30 (0,x0,[]) >>=fun o=>
 if decide ((o.length:Int)=0)=true then
 some [1] >>=fun t24=>
 if room 8 (o++t24).length=true then
 some (o++t24)
 else none
 else
 some o
theorem e44_k :KC e44:= .m (by kernel_rfl)
theorem gcy :FC e44 g3g:= .fn e44_k .n (.k gi8 .n) fun _=>by kernel_rfl
def g64(kind:Int) :Option (Bool):=
 some (decide (7≤kind))
theorem g12y :KC e131:= .m (by kernel_rfl)
theorem gb0 :FC e131 g64:= .fn g12y .n .n fun _=>by kernel_rfl
def g1w(x_:Int × Int × List Sheaveref07Node) :Option ((Int) ⊕ (Unit)):=
 match x_ with
 | (n,k,b)=>
 if decide (k < n)=true then
 g48 ((⟨b⟩:Sheaveref07Draft),k) >>=fun r_2=>
 g64 r_2 >>=fun r_3=>
 if r_3=true then
 some (.inl k)
 else
 g1w (n,addI .i64 k 1,b)
 else
 some (.inr ())
  partial_fixpoint
theorem gey :LC 79 0 [0] e79_0 g1w:= .rc g1w.partial_correctness (.k g63 (.k gb0 .n)) .n fun _ _=>by kernel_rfl
def g65(x_:Sheaveref07Draft × Int × Int) :Option (Int):=
 match x_ with
 | (d,i,code)=>
 some (d.Nodes.length:Int) >>=fun t12=>
 if(!(decide (t12=0)))=true then
 some (remI (wrp .i64 code) t12) >>=fun t16=>
 g48 (d,t16) >>=fun r=>
 g64 r >>=fun r_1=>
 if(bif r_1 then true else decide (t16 < i))=true then
 some t16
 else
 if decide (0 < i)=true then
 if(!(decide (i=0)))=true then
 some (remI t16 i)
 else none
 else
 g1w (t12,0,d.Nodes) >>=fun o=>
 match o with
 | .inl o_1=>
 some o_1
 | .inr o_2=>
 some (-1)
 else none
theorem e79_k :KC e79:= .m (by kernel_rfl)
theorem gi9 :FC e79 g65:= .fn e79_k (.k g63 (.k gb0 .n)) (.k gey .n) fun _=>by kernel_rfl
def g5r(kind:Int) :Option (Bool):=
 some (bif decide (1≤kind)then decide (kind≤4)else false)
theorem e75_k :KC e75:= .m (by kernel_rfl)
theorem gai :FC e75 g5r:= .fn e75_k .n .n fun _=>by kernel_rfl
def g2i(x_:Int × Int × Int × List Sheaveref07Node) :Option ((Int) ⊕ (Unit)):=
 match x_ with
 | (code_1,n,k,b)=>
 if decide (k < n)=true then
 if(!(decide (n=0)))=true then
 some (remI (addI .i64 (wrp .i64 code_1) k) n) >>=fun t21=>
 g48 ((⟨b⟩:Sheaveref07Draft),t21) >>=fun r=>
 g5r r >>=fun r_1=>
 if r_1=true then
 some (.inl t21)
 else
 g2i (code_1,n,addI .i64 k 1,b)
 else none
 else
 some (.inr ())
  partial_fixpoint
theorem gia :LC 46 0 [0] e46_0 g2i:= .rc g2i.partial_correctness (.k g63 (.k gai .n)) .n fun _ _=>by kernel_rfl
def g5h(x_:Sheaveref07Draft × Int) :Option (Int):=
 match x_ with
 | (d,code)=>
 g2i (code,(d.Nodes.length:Int),0,d.Nodes) >>=fun o=>
 match o with
 | .inl o_1=>
 some o_1
 | .inr o_2=>
 some (-1)
theorem e46_k :KC e46:= .m (by kernel_rfl)
theorem gcz :FC e46 g5h:= .fn e46_k .n (.k gia .n) fun _=>by kernel_rfl
def g5s(x_:Sheaveref07Draft × Int × Int) :Option (SValue × Bool):=
 match x_ with
 | (d,t,code)=>
 if inR t d.Nodes.length=true then
 some (d.Nodes.getD t.toNat dSheaveref07Node) >>=fun x0=>
 g48 (d,t) >>=fun r=>
 some (decide (r=8)) >>=fun t21=>
 (if t21=true then g5h (d,0)else some 0) >>=fun r_1=>
 if(bif t21 then decide (r_1 < 0)else false)=true then
 some ((⟨7,false,0,[],0,[],[],[]⟩:SValue),true)
 else
 if decide (r=1)=true then
 some ((⟨r,decide (remI code 2=1),0,[],0,[],[],[]⟩:SValue),true)
 else
 if decide (r=2)=true then
 g3u x0 >>=fun r_2=>
 g55 x0 >>=fun r_3=>
 g3u x0 >>=fun r_4=>
 some (addI .i64 (subI .i64 r_3 r_4) 1) >>=fun t47=>
 if(!(decide (t47=0)))=true then
 some ((⟨r,false,addI .i64 r_2 (remI (wrp .i64 code) t47),[],0,[],[],[]⟩:SValue),true)
 else none
 else
 if decide (r=3)=true then
 if(bif decide (0 < remI x0.A 4)then decide (remI code 2=1)else false)=true then
 some ((⟨r,false,0,[97],0,[],[],[]⟩:SValue),true)
 else
 some ((⟨r,false,0,[],0,[],[],[]⟩:SValue),true)
 else
 if decide (r=4)=true then
 g3g x0 >>=fun r_5=>
 g3g x0 >>=fun r_6=>
 some (r_6.length:Int) >>=fun t71=>
 if(!(decide (t71=0)))=true then
 some (remI (wrp .i64 code) t71) >>=fun t72=>
 if inR t72 r_5.length=true then
 some ((⟨r,false,0,[],r_5.getD t72.toNat 0,[],[],[]⟩:SValue),true)
 else none
 else none
 else
 some (decide (r=5)) >>=fun t77=>
 if t77=true then
 if t77=true then
 some ((⟨0,false,0,[],0,[],[],[]⟩:SValue),false)
 else
 some ((⟨r,false,0,[],0,[],[],[]⟩:SValue),true)
 else
 if decide (r=6)=true then
 some ((⟨0,false,0,[],0,[],[],[]⟩:SValue),false)
 else
 some ((⟨r,false,0,[],0,[],[],[]⟩:SValue),true)
 else none
theorem e80_k :KC e80:= .m (by kernel_rfl)
theorem gh1 :FC e80 g5s:= .fn e80_k (.k g63 (.k gcz (.k g9r (.k gcg (.k gcy .n))))) .n fun _=>by kernel_rfl
def g2j(x_:Int × Bool × Int × Int × List Sheaveref07Node × Sheaveref07Node × List SMember) :Option (Int × Bool × Int × List Sheaveref07Node × Sheaveref07Node × List SMember):=
 match x_ with
 | (i_3,record_3,id_2,k,b_7,b_8,b_9)=>
 if decide (k < (b_8.Parts.length:Int))=true then
 if inR k b_8.Parts.length=true then
 some (b_8.Parts.getD k.toNat dSheaveref07Part) >>=fun x0_1=>
 g65 ((⟨b_7⟩:Sheaveref07Draft),i_3,x0_1.Type_) >>=fun r=>
 if(bif (!(decide (addI .i64 1 (wrp .i64 (remI x0_1.ID 12))=id_2)))then true else decide (r < 0))=true then
 g2j (i_3,record_3,id_2,addI .i64 k 1,b_7,b_8,b_9)
 else
 some (g7s (wrp .i32 (addI .i64 97 id_2))) >>=fun t55=>
 if decide ([109].length+t55.length≤g61)=true then
 some ([109]++t55) >>=fun t56=>
 if(bif record_3 then decide (remI x0_1.Flag 4=1)else false)=true then
 if(bif record_3 then decide (2≤remI x0_1.Flag 4)else false)=true then
 g5s ((⟨b_7⟩:Sheaveref07Draft),r,quoI .u8 x0_1.Flag 4) >>=fun r_1=>
 some [(⟨id_2,t56,r,true,r_1.2,SValue.eta r_1.1⟩:SMember)] >>=fun t87=>
 if room 160 (b_9++t87).length=true then
 some (i_3,record_3,id_2,b_7,b_8,b_9++t87)
 else none
 else
 some [(⟨id_2,t56,r,true,false,(⟨0,false,0,[],0,[],[],[]⟩:SValue)⟩:SMember)] >>=fun t87_1=>
 if room 160 (b_9++t87_1).length=true then
 some (i_3,record_3,id_2,b_7,b_8,b_9++t87_1)
 else none
 else
 if(bif record_3 then decide (2≤remI x0_1.Flag 4)else false)=true then
 g5s ((⟨b_7⟩:Sheaveref07Draft),r,quoI .u8 x0_1.Flag 4) >>=fun r_4=>
 some [(⟨id_2,t56,r,false,r_4.2,SValue.eta r_4.1⟩:SMember)] >>=fun t87_2=>
 if room 160 (b_9++t87_2).length=true then
 some (i_3,record_3,id_2,b_7,b_8,b_9++t87_2)
 else none
 else
 some [(⟨id_2,t56,r,false,false,(⟨0,false,0,[],0,[],[],[]⟩:SValue)⟩:SMember)] >>=fun t87_3=>
 if room 160 (b_9++t87_3).length=true then
 some (i_3,record_3,id_2,b_7,b_8,b_9++t87_3)
 else none
 else none
 else none
 else
 some (i_3,record_3,id_2,b_7,b_8,b_9)
  partial_fixpoint
theorem gee :LC 45 0 [0,0] guc g2j:= .rc g2j.partial_correctness (.k gi9 (.k gh1 .n)) .n fun _ _=>by kernel_rfl
end
section
open Go Go.Proofs.YtijpinendaoleaaGreat.Shv
open Tryz
set_option maxRecDepth 100000
def g2e(x_:Int × Bool × Int × List Sheaveref07Node × Sheaveref07Node × List SMember) :Option (List SMember):=
 match x_ with
 | (i_1,record_1,id,b_1,b_2,b_3)=>
 if decide (id≤12)=true then
 g2j (i_1,record_1,id,0,b_1,b_2,b_3) >>=fun o_1=>
 g2e (o_1.1,o_1.2.1,addI .i64 o_1.2.2.1 1,o_1.2.2.2.1,o_1.2.2.2.2.1,o_1.2.2.2.2.2)
 else
 some b_3
  partial_fixpoint
theorem gg0 :LC 45 0 [0] e45_0 g2e:= .rc g2e.partial_correctness .n (.k gee .n) fun _ _=>by kernel_rfl
def g4o(x_:Sheaveref07Draft × Int × Bool) :Option (List SMember):=
 match x_ with
 | (d,i,record)=>
 if inR i d.Nodes.length=true then
 g2e (i,record,1,d.Nodes,d.Nodes.getD i.toNat dSheaveref07Node,[]) >>=fun o=>
 some o
 else none
theorem e45_k :KC e45:= .m (by kernel_rfl)
theorem giy :FC e45 g4o:= .fn e45_k .n (.k gg0 .n) fun _=>by kernel_rfl
def g2q(x_:Int × Int × List Int × Int × List Sheaveref07Node × Int × List UInt8 × Int × Int × Int × Int × Int × Bool × List SType × List SSymbol) :Option (Int × Int × List Sheaveref07Node × Int × List UInt8 × Int × Int × Int × Int × Int × Bool × List SType × List SSymbol):=
 match x_ with
 | (n_3,i_3,l_22,k,b_25,b_26,b_27,b_28,b_29,b_30,b_31,b_32,b_33,b_34,b_35)=>
 if decide (k < (l_22.length:Int))=true then
 if inR k l_22.length=true then
 if inR k l_22.length=true then
 some (g7s (wrp .i32 (addI .i64 97 (l_22.getD k.toNat 0)))) >>=fun t87=>
 if decide ([115].length+t87.length≤g61)=true then
 some [(⟨l_22.getD k.toNat 0,[115]++t87⟩:SSymbol)] >>=fun t90=>
 if room 24 (b_35++t90).length=true then
 g2q (n_3,i_3,l_22,addI .i64 k 1,b_25,b_26,b_27,b_28,b_29,b_30,b_31,b_32,b_33,b_34,b_35++t90)
 else none
 else none
 else none
 else none
 else
 some (n_3,i_3,b_25,b_26,b_27,b_28,b_29,b_30,b_31,b_32,b_33,b_34,b_35)
  partial_fixpoint
theorem gh2 :LC 10 0 [0,0] gud g2q:= .rc g2q.partial_correctness .n .n fun _ _=>by kernel_rfl
def gm(x_:Int × Int × List Sheaveref07Node × List SType) :Option (List SType):=
 match x_ with
 | (n,i,b_1,b_2)=>
 if decide (i < n)=true then
 if inR i b_1.length=true then
 some (b_1.getD i.toNat dSheaveref07Node) >>=fun x0=>
 g48 ((⟨b_1⟩:Sheaveref07Draft),i) >>=fun r=>
 g1g r >>=fun r_1=>
 if r_1=true then
 some (g7s (wrp .i32 (addI .i64 65 i))) >>=fun t41=>
 if decide (r=2)=true then
 g3u x0 >>=fun r_2=>
 g55 x0 >>=fun r_3=>
 some [(⟨r,t41,r_2,r_3,0,[],[],0,0,false⟩:SType)] >>=fun t167=>
 if room 120 (b_2++t167).length=true then
 gm (n,addI .i64 i 1,b_1,b_2++t167)
 else none
 else
 if decide (r=3)=true then
 some [(⟨r,t41,0,0,wrp .i64 (remI x0.A 4),[],[],0,0,false⟩:SType)] >>=fun t167_1=>
 if room 120 (b_2++t167_1).length=true then
 gm (n,addI .i64 i 1,b_1,b_2++t167_1)
 else none
 else
 if decide (r=4)=true then
 g3g x0 >>=fun r_4=>
 g2q (n,i,r_4,0,b_1,r,t41,0,0,0,0,0,decide (remI x0.B 2=1),b_2,[]) >>=fun o_1=>
 some [(⟨o_1.2.2.2.1,o_1.2.2.2.2.1,o_1.2.2.2.2.2.1,o_1.2.2.2.2.2.2.1,o_1.2.2.2.2.2.2.2.1,o_1.2.2.2.2.2.2.2.2.2.2.2.2,[],o_1.2.2.2.2.2.2.2.2.1,o_1.2.2.2.2.2.2.2.2.2.1,o_1.2.2.2.2.2.2.2.2.2.2.1⟩:SType)] >>=fun t167_2=>
 if room 120 (o_1.2.2.2.2.2.2.2.2.2.2.2.1++t167_2).length=true then
 gm (o_1.1,addI .i64 o_1.2.1 1,o_1.2.2.1,o_1.2.2.2.2.2.2.2.2.2.2.2.1++t167_2)
 else none
 else
 if decide (r=5)=true then
 g4o ((⟨b_1⟩:Sheaveref07Draft),i,true) >>=fun r_5=>
 some [(⟨r,t41,0,0,0,[],r_5,0,0,false⟩:SType)] >>=fun t167_3=>
 if room 120 (b_2++t167_3).length=true then
 gm (n,addI .i64 i 1,b_1,b_2++t167_3)
 else none
 else
 if decide (r=6)=true then
 g4o ((⟨b_1⟩:Sheaveref07Draft),i,false) >>=fun r_6=>
 if decide ((r_6.length:Int)=0)=true then
 some [(⟨5,t41,0,0,0,[],[],0,0,false⟩:SType)] >>=fun t167_4=>
 if room 120 (b_2++t167_4).length=true then
 gm (n,addI .i64 i 1,b_1,b_2++t167_4)
 else none
 else
 some [(⟨r,t41,0,0,0,[],r_6,0,0,decide (remI x0.B 2=1)⟩:SType)] >>=fun t167_5=>
 if room 120 (b_2++t167_5).length=true then
 gm (n,addI .i64 i 1,b_1,b_2++t167_5)
 else none
 else
 if decide (r=7)=true then
 if(!(decide (n=0)))=true then
 some [(⟨r,t41,0,0,wrp .i64 (remI x0.A 4),[],[],0,remI (wrp .i64 x0.C) n,false⟩:SType)] >>=fun t167_6=>
 if room 120 (b_2++t167_6).length=true then
 gm (n,addI .i64 i 1,b_1,b_2++t167_6)
 else none
 else none
 else
 if decide (r=8)=true then
 some (wrp .i64 (remI x0.A 4)) >>=fun t135=>
 g5h ((⟨b_1⟩:Sheaveref07Draft),x0.B) >>=fun r_7=>
 if(!(decide (n=0)))=true then
 some (remI (wrp .i64 x0.C) n) >>=fun t144=>
 if decide (r_7 < 0)=true then
 some [(⟨7,[],0,0,t135,[],[],0,t144,false⟩:SType)] >>=fun t167_7=>
 if room 120 (b_2++t167_7).length=true then
 gm (n,addI .i64 i 1,b_1,b_2++t167_7)
 else none
 else
 some [(⟨r,t41,0,0,t135,[],[],r_7,t144,false⟩:SType)] >>=fun t167_8=>
 if room 120 (b_2++t167_8).length=true then
 gm (n,addI .i64 i 1,b_1,b_2++t167_8)
 else none
 else none
 else
 if decide (r=9)=true then
 if(!(decide (n=0)))=true then
 some [(⟨r,t41,0,0,0,[],[],0,remI (wrp .i64 x0.C) n,false⟩:SType)] >>=fun t167_9=>
 if room 120 (b_2++t167_9).length=true then
 gm (n,addI .i64 i 1,b_1,b_2++t167_9)
 else none
 else none
 else
 some [(⟨r,t41,0,0,0,[],[],0,0,false⟩:SType)] >>=fun t167_10=>
 if room 120 (b_2++t167_10).length=true then
 gm (n,addI .i64 i 1,b_1,b_2++t167_10)
 else none
 else
 if decide (r=2)=true then
 g3u x0 >>=fun r_8=>
 g55 x0 >>=fun r_9=>
 some [(⟨r,[],r_8,r_9,0,[],[],0,0,false⟩:SType)] >>=fun t167_11=>
 if room 120 (b_2++t167_11).length=true then
 gm (n,addI .i64 i 1,b_1,b_2++t167_11)
 else none
 else
 if decide (r=3)=true then
 some [(⟨r,[],0,0,wrp .i64 (remI x0.A 4),[],[],0,0,false⟩:SType)] >>=fun t167_12=>
 if room 120 (b_2++t167_12).length=true then
 gm (n,addI .i64 i 1,b_1,b_2++t167_12)
 else none
 else
 if decide (r=4)=true then
 g3g x0 >>=fun r_10=>
 g2q (n,i,r_10,0,b_1,r,[],0,0,0,0,0,decide (remI x0.B 2=1),b_2,[]) >>=fun o_2=>
 some [(⟨o_2.2.2.2.1,o_2.2.2.2.2.1,o_2.2.2.2.2.2.1,o_2.2.2.2.2.2.2.1,o_2.2.2.2.2.2.2.2.1,o_2.2.2.2.2.2.2.2.2.2.2.2.2,[],o_2.2.2.2.2.2.2.2.2.1,o_2.2.2.2.2.2.2.2.2.2.1,o_2.2.2.2.2.2.2.2.2.2.2.1⟩:SType)] >>=fun t167_13=>
 if room 120 (o_2.2.2.2.2.2.2.2.2.2.2.2.1++t167_13).length=true then
 gm (o_2.1,addI .i64 o_2.2.1 1,o_2.2.2.1,o_2.2.2.2.2.2.2.2.2.2.2.2.1++t167_13)
 else none
 else
 if decide (r=5)=true then
 g4o ((⟨b_1⟩:Sheaveref07Draft),i,true) >>=fun r_11=>
 some [(⟨r,[],0,0,0,[],r_11,0,0,false⟩:SType)] >>=fun t167_14=>
 if room 120 (b_2++t167_14).length=true then
 gm (n,addI .i64 i 1,b_1,b_2++t167_14)
 else none
 else
 if decide (r=6)=true then
 g4o ((⟨b_1⟩:Sheaveref07Draft),i,false) >>=fun r_12=>
 if decide ((r_12.length:Int)=0)=true then
 some [(⟨5,[],0,0,0,[],[],0,0,false⟩:SType)] >>=fun t167_15=>
 if room 120 (b_2++t167_15).length=true then
 gm (n,addI .i64 i 1,b_1,b_2++t167_15)
 else none
 else
 some [(⟨r,[],0,0,0,[],r_12,0,0,decide (remI x0.B 2=1)⟩:SType)] >>=fun t167_16=>
 if room 120 (b_2++t167_16).length=true then
 gm (n,addI .i64 i 1,b_1,b_2++t167_16)
 else none
 else
 if decide (r=7)=true then
 if(!(decide (n=0)))=true then
 some [(⟨r,[],0,0,wrp .i64 (remI x0.A 4),[],[],0,remI (wrp .i64 x0.C) n,false⟩:SType)] >>=fun t167_17=>
 if room 120 (b_2++t167_17).length=true then
 gm (n,addI .i64 i 1,b_1,b_2++t167_17)
 else none
 else none
 else
 if decide (r=8)=true then
 some (wrp .i64 (remI x0.A 4)) >>=fun t135_1=>
 g5h ((⟨b_1⟩:Sheaveref07Draft),x0.B) >>=fun r_13=>
 if(!(decide (n=0)))=true then
 some (remI (wrp .i64 x0.C) n) >>=fun t144_1=>
 if decide (r_13 < 0)=true then
 some [(⟨7,[],0,0,t135_1,[],[],0,t144_1,false⟩:SType)] >>=fun t167_18=>
 if room 120 (b_2++t167_18).length=true then
 gm (n,addI .i64 i 1,b_1,b_2++t167_18)
 else none
 else
 some [(⟨r,[],0,0,t135_1,[],[],r_13,t144_1,false⟩:SType)] >>=fun t167_19=>
 if room 120 (b_2++t167_19).length=true then
 gm (n,addI .i64 i 1,b_1,b_2++t167_19)
 else none
 else none
 else
 if decide (r=9)=true then
 if(!(decide (n=0)))=true then
 some [(⟨r,[],0,0,0,[],[],0,remI (wrp .i64 x0.C) n,false⟩:SType)] >>=fun t167_20=>
 if room 120 (b_2++t167_20).length=true then
 gm (n,addI .i64 i 1,b_1,b_2++t167_20)
 else none
 else none
 else
 some [(⟨r,[],0,0,0,[],[],0,0,false⟩:SType)] >>=fun t167_21=>
 if room 120 (b_2++t167_21).length=true then
 gm (n,addI .i64 i 1,b_1,b_2++t167_21)
 else none
 else none
 else
 some b_2
  partial_fixpoint
theorem giz :LC 10 0 [0] e10_0 gm:= .rc gm.partial_correctness (.k g63 (.k g8w (.k g9r (.k gcg (.k gcy (.k giy (.k gcz .n))))))) (.k gh2 .n) fun _ _=>by kernel_rfl
def g5w(d:Sheaveref07Draft) :Option (SSchema × Bool):=
 some (d.Nodes.length:Int) >>=fun t13=>
 if(bif decide (t13 < 1)then true else decide (5 < t13))=true then
 some ((⟨[]⟩:SSchema),false)
 else
 gm (t13,0,d.Nodes,[]) >>=fun o=>
 some ((⟨o⟩:SSchema),true)
theorem e10_k :KC e10:= .m (by kernel_rfl)
theorem gmp :FC e10 g5w:= .fn e10_k .n (.k giz .n) fun _=>by kernel_rfl
def gy(x_:List SSymbol × List SSymbol × Int × Int) :Option ((Bool) ⊕ (Unit)):=
 match x_ with
 | (s1_1,s2_1,t12_1,t13)=>
 if decide (t13 < t12_1)=true then
 if inR t13 s1_1.length=true then
 some (s1_1.getD t13.toNat dSSymbol) >>=fun x0=>
 if inR t13 s2_1.length=true then
 some (s2_1.getD t13.toNat dSSymbol) >>=fun x0_1=>
 if(!(eqI x0.ID x0_1.ID && (eqS x0.Name x0_1.Name && true)))=true then
 some (.inl false)
 else
 gy (s1_1,s2_1,t12_1,addI .i64 t13 1)
 else none
 else none
 else
 some (.inr ())
  partial_fixpoint
theorem g8x :LC 220 0 [0] gxu gy:= .rc gy.partial_correctness .n .n fun _ _=>by kernel_rfl
def g3h(x_:List SSymbol × List SSymbol) :Option (Bool):=
 match x_ with
 | (s1,s2)=>
 if(!(decide ((s1.length:Int)=(s2.length:Int))))=true then
 some false
 else
 gy (s1,s2,(s1.length:Int),0) >>=fun o=>
 match o with
 | .inl o_1=>
 some o_1
 | .inr o_2=>
 some true
theorem g12z :KC e220:= .m (by kernel_rfl)
theorem g9l :FC e220 g3h:= .fn g12z .n (.k g8x .n) fun _=>by kernel_rfl
def g18(x_:List SRaw × List SRaw × Int × Int) :Option ((Bool) ⊕ (Unit)):=
 match x_ with
 | (s1_1,s2_1,t12_1,t13)=>
 if decide (t13 < t12_1)=true then
 if inR t13 s1_1.length=true then
 some (s1_1.getD t13.toNat dSRaw) >>=fun x0=>
 if inR t13 s2_1.length=true then
 some (s2_1.getD t13.toNat dSRaw) >>=fun x0_1=>
 if(!(eqI x0.ID x0_1.ID && (eqS x0.Data x0_1.Data && true)))=true then
 some (.inl false)
 else
 g18 (s1_1,s2_1,t12_1,addI .i64 t13 1)
 else none
 else none
 else
 some (.inr ())
  partial_fixpoint
theorem gac :LC 224 0 [0] gxv g18:= .rc g18.partial_correctness .n .n fun _ _=>by kernel_rfl
def g4s(x_:List SRaw × List SRaw) :Option (Bool):=
 match x_ with
 | (s1,s2)=>
 if(!(decide ((s1.length:Int)=(s2.length:Int))))=true then
 some false
 else
 g18 (s1,s2,(s1.length:Int),0) >>=fun o=>
 match o with
 | .inl o_1=>
 some o_1
 | .inr o_2=>
 some true
theorem g130 :KC e224:= .m (by kernel_rfl)
theorem gbe :FC e224 g4s:= .fn g130 .n (.k gac .n) fun _=>by kernel_rfl
mutual
def g4e(x_:SValue × SValue) :Option (Bool):=
 match x_ with
 | (a,b)=>
 some (bif bif bif bif decide (a.Kind=b.Kind)then eqB a.Bool_ b.Bool_ else false then decide (a.Int_=b.Int_)else false then decide (a.Str=b.Str)else false then decide (a.ID=b.ID)else false) >>=fun t37=>
 (if t37=true then g4s (a.Rest,b.Rest)else some false) >>=fun r=>
 some (bif t37 then r else false) >>=fun t44=>
 (if t44=true then g13 (a.Keys,b.Keys)else some false) >>=fun r_1=>
 some (bif t44 then r_1 else false) >>=fun t51=>
 (if t51=true then g13 (a.Items,b.Items)else some false) >>=fun r_2=>
 some (bif t51 then r_2 else false)
  partial_fixpoint
def g13(x_:List SValue × List SValue) :Option (Bool):=
 match x_ with
 | (s1,s2)=>
 if(!(decide ((s1.length:Int)=(s2.length:Int))))=true then
 some false
 else
 gt (s2,s1,(s1.length:Int),0) >>=fun o=>
 match o with
 | .inl o_1=>
 some o_1
 | .inr o_2=>
 some true
  partial_fixpoint
def gt(x_:List SValue × List SValue × Int × Int) :Option ((Bool) ⊕ (Unit)):=
 match x_ with
 | (s2_1,t15,t16_1,t17)=>
 if decide (t17 < t16_1)=true then
 if inR t17 t15.length=true then
 if inR t17 s2_1.length=true then
 g4e (SValue.eta (t15.getD t17.toNat dSValue),SValue.eta (s2_1.getD t17.toNat dSValue)) >>=fun r=>
 if(!r)=true then
 some (.inl false)
 else
 gt (s2_1,t15,t16_1,addI .i64 t17 1)
 else none
 else none
 else
 some (.inr ())
  partial_fixpoint
end
theorem gsd :KC e223:= .m (by kernel_rfl)
theorem gse :KC ggu:= .m (by kernel_rfl)
theorem go1 :(∀h r,g4e h=some r→FD e223 h r)∧(∀h r,g13 h=some r→FD ggu h r)∧(∀h r,gt h=some r→LD 225 0 [0] gec h r):=g4e.mutual_partial_correctness (FD e223) (FD ggu) (LD 225 0 [0] gec)
 (fun _ h1 _ _ h=>FA e223 gsd (.k gbe (.k (FH ggu gse h1) .n)) .n (.trans (by kernel_rfl) h))
 (fun _ h2 _ _ h=>FA ggu gse .n (.k (LH gec h2) .n) (.trans (by kernel_rfl) h))
 (fun _ _ h0 h2 _ _ h=>LA gec h2 (.k (FH e223 gsd h0) .n) .n (.trans (by kernel_rfl) h))
theorem gis :FC e223 g4e:= .of gsd go1.1
def g7v(x_:SMember × SMember) :Option (Bool):=
 match x_ with
 | (x0,y)=>
 some (bif bif bif bif decide (x0.ID=y.ID)then decide (x0.Name=y.Name)else false then decide (x0.Type_=y.Type_)else false then eqB x0.Critical y.Critical else false then eqB x0.HasDefault y.HasDefault else false) >>=fun t37=>
 (if t37=true then g4e ((⟨x0.Default.Kind,x0.Default.Bool_,x0.Default.Int_,x0.Default.Str,x0.Default.ID,x0.Default.Keys,x0.Default.Items,x0.Default.Rest⟩:SValue),SValue.eta y.Default)else some false) >>=fun r=>
 some (bif t37 then r else false)
theorem g131 :KC e222:= .m (by kernel_rfl)
theorem gmq :FC e222 g7v:= .fn g131 (.k gis .n) .n fun _=>by kernel_rfl
def gi(x_:List SMember × List SMember × Int × Int) :Option ((Bool) ⊕ (Unit)):=
 match x_ with
 | (s2_1,t15,t16_1,t17)=>
 if decide (t17 < t16_1)=true then
 if inR t17 t15.length=true then
 some (t15.getD t17.toNat dSMember) >>=fun x0=>
 if inR t17 s2_1.length=true then
 some (s2_1.getD t17.toNat dSMember) >>=fun x0_1=>
 g7v ((⟨x0.ID,x0.Name,x0.Type_,x0.Critical,x0.HasDefault,SValue.eta x0.Default⟩:SMember),(⟨x0_1.ID,x0_1.Name,x0_1.Type_,x0_1.Critical,x0_1.HasDefault,SValue.eta x0_1.Default⟩:SMember)) >>=fun r=>
 if(!r)=true then
 some (.inl false)
 else
 gi (s2_1,t15,t16_1,addI .i64 t17 1)
 else none
 else none
 else
 some (.inr ())
  partial_fixpoint
theorem g56 :LC 221 0 [0] gxw gi:= .rc gi.partial_correctness (.k gmq .n) .n fun _ _=>by kernel_rfl
end
section
open Go Go.Proofs.YtijpinendaoleaaGreat.Shv
open Tryz
set_option maxRecDepth 100000
def g1b(x_:List SMember × List SMember) :Option (Bool):=
 match x_ with
 | (s1,s2)=>
 if(!(decide ((s1.length:Int)=(s2.length:Int))))=true then
 some false
 else
 gi (s2,s1,(s1.length:Int),0) >>=fun o=>
 match o with
 | .inl o_1=>
 some o_1
 | .inr o_2=>
 some true
theorem g132 :KC e221:= .m (by kernel_rfl)
theorem g5d :FC e221 g1b:= .fn g132 .n (.k g56 .n) fun _=>by kernel_rfl
def g1j(x_:SType × SType) :Option (Bool):=
 match x_ with
 | (a,b)=>
 some (bif bif bif bif bif bif bif decide (a.Kind=b.Kind)then decide (a.Name=b.Name)else false then decide (a.Low=b.Low)else false then decide (a.High=b.High)else false then decide (a.Max=b.Max)else false then decide (a.Key=b.Key)else false then decide (a.Elem=b.Elem)else false then eqB a.Open b.Open else false) >>=fun t58=>
 (if t58=true then g3h (a.Symbols,b.Symbols)else some false) >>=fun r=>
 some (bif t58 then r else false) >>=fun t65=>
 (if t65=true then g1b (a.Members,b.Members)else some false) >>=fun r_1=>
 some (bif t65 then r_1 else false)
theorem g133 :KC e201:= .m (by kernel_rfl)
theorem gpa :FC e201 g1j:= .fn g133 (.k g9l (.k g5d .n)) .n fun _=>by kernel_rfl
def g7w(c:Int) :Option (Bool):=
 some (bif bif decide (c=95)then true else bif decide (97≤c)then decide (c≤122)else false then true else bif decide (65≤c)then decide (c≤90)else false)
theorem g134 :KC e216:= .m (by kernel_rfl)
theorem gef :FC e216 g7w:= .fn g134 .n .n fun _=>by kernel_rfl
def ga7(c:Int) :Option (Bool):=
 some (bif decide (48≤c)then decide (c≤57)else false)
theorem g135 :KC e217:= .m (by kernel_rfl)
theorem go2 :FC e217 ga7:= .fn g135 .n .n fun _=>by kernel_rfl
def g28(x_:List UInt8 × Int × Int) :Option ((Bool) ⊕ (Unit)):=
 match x_ with
 | (s_1,t18_1,t19)=>
 if decide (t19 < t18_1)=true then
 if inR t19 s_1.length=true then
 g7w (g6v s_1 t19) >>=fun r_1=>
 some (!r_1) >>=fun t26=>
 if(inR t19 s_1.length || (!t26))=true then
 (if t26=true then ga7 (g6v s_1 t19)else some false) >>=fun r_2=>
 if(bif t26 then(!r_2)else false)=true then
 some (.inl false)
 else
 g28 (s_1,t18_1,addI .i64 t19 1)
 else none
 else none
 else
 some (.inr ())
  partial_fixpoint
theorem glb :LC 198 0 [0] gxx g28:= .rc g28.partial_correctness (.k gef (.k go2 .n)) .n fun _ _=>by kernel_rfl
def g31(s:List UInt8) :Option (Bool):=
 some (bif decide (s=[])then true else decide (24 < (s.length:Int))) >>=fun t10=>
 if(inR 0 s.length || (!(!t10)))=true then
 (if(!t10)=true then g7w (g6v s 0)else some false) >>=fun r=>
 if(bif t10 then true else(!r))=true then
 some false
 else
 g28 (s,(s.length:Int),0) >>=fun o=>
 match o with
 | .inl o_1=>
 some o_1
 | .inr o_2=>
 some true
 else none
theorem g136 :KC e198:= .m (by kernel_rfl)
theorem gh3 :FC e198 g31:= .fn g136 (.k gef .n) (.k glb .n) fun _=>by kernel_rfl
def g52(x_:List Int × List (List UInt8) × List Int × Int × Int × List (List UInt8)) :Option ((Bool) ⊕ (List Int)):=
 match x_ with
 | (l_2,names_1,t9,t10_1,t11,b)=>
 if decide (t11 < t10_1)=true then
 if inR t11 t9.length=true then
 some (t9.getD t11.toNat 0) >>=fun x0=>
 some (bif decide (x0 < 1)then true else decide (1000 < x0)) >>=fun t21=>
 some (decide (0 < t11)) >>=fun t24=>
 some (subI .i64 t11 1) >>=fun t29=>
 if(inR t29 l_2.length || (!((!t21) && t24)))=true then
 some (bif t21 then true else bif t24 then decide (x0≤l_2.getD t29.toNat 0)else false) >>=fun t34=>
 if(inR t11 names_1.length || (!(!t34)))=true then
 some (bif t34 then true else hasS b (names_1.getD t11.toNat [])) >>=fun t42=>
 if(inR t11 names_1.length || (!(!t42)))=true then
 (if(!t42)=true then g31 (names_1.getD t11.toNat [])else some false) >>=fun r=>
 if(bif t42 then true else(!r))=true then
 some (.inl false)
 else
 if inR t11 names_1.length=true then
 g52 (l_2,names_1,t9,t10_1,addI .i64 t11 1,addS b (names_1.getD t11.toNat []))
 else none
 else none
 else none
 else none
 else none
 else
 some (.inr l_2)
  partial_fixpoint
theorem go3 :LC 218 0 [0] gxy g52:= .rc g52.partial_correctness (.k gh3 .n) .n fun _ _=>by kernel_rfl
def gb1(x_:List Int × List (List UInt8)) :Option (Bool):=
 match x_ with
 | (l,names)=>
 g52 (l,names,l,(l.length:Int),0,[]) >>=fun o=>
 match o with
 | .inl o_1=>
 some o_1
 | .inr o_2=>
 some (decide ((o_2.length:Int)≤16))
theorem g137 :KC e218:= .m (by kernel_rfl)
theorem gkg :FC e218 gb1:= .fn g137 .n (.k go3 .n) fun _=>by kernel_rfl
def g3r(x_:List SSymbol × List SSymbol × Int × Int × List Int × List (List UInt8)) :Option (List SSymbol × List Int × List (List UInt8)):=
 match x_ with
 | (l_2,t7,t8_1,t9,b_2,b_3)=>
 if decide (t9 < t8_1)=true then
 if inR t9 t7.length=true then
 some (t7.getD t9.toNat dSSymbol) >>=fun x0=>
 some [x0.ID] >>=fun t16=>
 if room 8 (b_2++t16).length=true then
 some [x0.Name] >>=fun t21=>
 if room 16 (b_3++t21).length=true then
 g3r (l_2,t7,t8_1,addI .i64 t9 1,b_2++t16,b_3++t21)
 else none
 else none
 else none
 else
 some (l_2,b_2,b_3)
  partial_fixpoint
theorem gj0 :LC 199 0 [0] gxz g3r:= .rc g3r.partial_correctness .n .n fun _ _=>by kernel_rfl
def g6q(l:List SSymbol) :Option (Bool):=
 g3r (l,l,(l.length:Int),0,[],[]) >>=fun o=>
 some (decide (0 < (o.1.length:Int))) >>=fun t26=>
 (if t26=true then gb1 (o.2.1,o.2.2)else some false) >>=fun r=>
 some (bif t26 then r else false)
theorem g138 :KC e199:= .m (by kernel_rfl)
theorem gmr :FC e199 g6q:= .fn g138 (.k gkg .n) (.k gj0 .n) fun _=>by kernel_rfl
def gb2(v:SValue) :Option (Bool):=
 g4e (SValue.eta v,(⟨0,false,0,[],0,[],[],[]⟩:SValue)) >>=fun r=>
 some r
theorem g139 :KC e219:= .m (by kernel_rfl)
theorem gpb :FC e219 gb2:= .fn g139 (.k gis .n) .n fun _=>by kernel_rfl
def g37(x_:List SMember × Int × Int × SType × List Int × List (List UInt8)) :Option ((Bool) ⊕ (SType × List Int × List (List UInt8))):=
 match x_ with
 | (t8,t9_1,t10,b_3,b_4,b_5)=>
 if decide (t10 < t9_1)=true then
 if inR t10 t8.length=true then
 some (t8.getD t10.toNat dSMember) >>=fun x0=>
 some [x0.ID] >>=fun t17=>
 if room 8 (b_4++t17).length=true then
 some [x0.Name] >>=fun t22=>
 if room 16 (b_5++t22).length=true then
 some (bif bif decide (b_3.Kind=6)then bif x0.Critical then true else x0.HasDefault else false then true else bif x0.Critical then x0.HasDefault else false) >>=fun t42=>
 some (!x0.HasDefault) >>=fun t46=>
 (if((!t42) && t46)=true then gb2 (SValue.eta x0.Default)else some false) >>=fun r_1=>
 if(bif t42 then true else bif t46 then(!r_1)else false)=true then
 some (.inl false)
 else
 g37 (t8,t9_1,addI .i64 t10 1,b_3,b_4++t17,b_5++t22)
 else none
 else none
 else none
 else
 some (.inr (b_3,b_4,b_5))
  partial_fixpoint
theorem gj1 :LC 200 0 [0] gy0 g37:= .rc g37.partial_correctness (.k gpb .n) .n fun _ _=>by kernel_rfl
def g5x(t:SType) :Option (Bool):=
 g37 (t.Members,(t.Members.length:Int),0,t,[],[]) >>=fun o=>
 match o with
 | .inl o_1=>
 some o_1
 | .inr o_2=>
 some (bif decide (o_2.1.Kind=5)then true else decide (0 < (o_2.2.1.length:Int))) >>=fun t62=>
 (if t62=true then gb1 (o_2.2.1,o_2.2.2)else some false) >>=fun r=>
 some (bif t62 then r else false)
theorem g13a :KC e200:= .m (by kernel_rfl)
theorem gms :FC e200 g5x:= .fn g13a (.k gkg .n) (.k gj1 .n) fun _=>by kernel_rfl
def g1a(t:SType) :Option (Bool):=
 if decide (t.Kind=1)=true then
 g1j ((⟨0,t.Name,t.Low,t.High,t.Max,t.Symbols,t.Members,t.Key,t.Elem,t.Open⟩:SType),(⟨0,[],0,0,0,[],[],0,0,false⟩:SType)) >>=fun r=>
 some r
 else
 if decide (t.Kind=2)=true then
 some (decide (t.Low≤t.High)) >>=fun t17=>
 (if t17=true then g1j ((⟨0,t.Name,0,0,t.Max,t.Symbols,t.Members,t.Key,t.Elem,t.Open⟩:SType),(⟨0,[],0,0,0,[],[],0,0,false⟩:SType))else some false) >>=fun r_1=>
 some (bif t17 then r_1 else false)
 else
 if decide (t.Kind=3)=true then
 some (bif decide (0≤t.Max)then decide (t.Max≤200)else false) >>=fun t29=>
 (if t29=true then g1j ((⟨0,t.Name,t.Low,t.High,0,t.Symbols,t.Members,t.Key,t.Elem,t.Open⟩:SType),(⟨0,[],0,0,0,[],[],0,0,false⟩:SType))else some false) >>=fun r_2=>
 some (bif t29 then r_2 else false)
 else
 if decide (t.Kind=4)=true then
 g31 t.Name >>=fun r_3=>
 (if r_3=true then g6q t.Symbols else some false) >>=fun r_4=>
 some (bif r_3 then r_4 else false) >>=fun t40=>
 (if t40=true then g1j ((⟨0,[],t.Low,t.High,t.Max,[],t.Members,t.Key,t.Elem,false⟩:SType),(⟨0,[],0,0,0,[],[],0,0,false⟩:SType))else some false) >>=fun r_5=>
 some (bif t40 then r_5 else false)
 else
 some (decide (t.Kind=5)) >>=fun t45=>
 if t45=true then
 if t45=true then
 g31 t.Name >>=fun r_6=>
 (if r_6=true then g5x t else some false) >>=fun r_7=>
 some (bif r_6 then r_7 else false) >>=fun t53=>
 (if t53=true then g1j ((⟨0,[],t.Low,t.High,t.Max,t.Symbols,[],t.Key,t.Elem,bif t.Open then decide (t.Kind=5)else false⟩:SType),(⟨0,[],0,0,0,[],[],0,0,false⟩:SType))else some false) >>=fun r_8=>
 some (bif t53 then r_8 else false)
 else
 some (decide (t.Kind=7)) >>=fun t65=>
 if t65=true then
 if t65=true then
 some (bif decide (0≤t.Max)then decide (t.Max≤50)else false) >>=fun t74=>
 if decide (t.Kind=8)=true then
 (if t74=true then g1j ((⟨0,t.Name,t.Low,t.High,0,t.Symbols,t.Members,0,0,t.Open⟩:SType),(⟨0,[],0,0,0,[],[],0,0,false⟩:SType))else some false) >>=fun r_9=>
 some (bif t74 then r_9 else false)
 else
 (if t74=true then g1j ((⟨0,t.Name,t.Low,t.High,0,t.Symbols,t.Members,t.Key,0,t.Open⟩:SType),(⟨0,[],0,0,0,[],[],0,0,false⟩:SType))else some false) >>=fun r_10=>
 some (bif t74 then r_10 else false)
 else
 if decide (t.Kind=9)=true then
 g1j ((⟨0,t.Name,t.Low,t.High,t.Max,t.Symbols,t.Members,t.Key,0,t.Open⟩:SType),(⟨0,[],0,0,0,[],[],0,0,false⟩:SType)) >>=fun r_11=>
 some r_11
 else
 some false
 else
 if decide (t.Kind=8)=true then
 some (bif decide (0≤t.Max)then decide (t.Max≤50)else false) >>=fun t74_1=>
 if decide (t.Kind=8)=true then
 (if t74_1=true then g1j ((⟨0,t.Name,t.Low,t.High,0,t.Symbols,t.Members,0,0,t.Open⟩:SType),(⟨0,[],0,0,0,[],[],0,0,false⟩:SType))else some false) >>=fun r_12=>
 some (bif t74_1 then r_12 else false)
 else
 (if t74_1=true then g1j ((⟨0,t.Name,t.Low,t.High,0,t.Symbols,t.Members,t.Key,0,t.Open⟩:SType),(⟨0,[],0,0,0,[],[],0,0,false⟩:SType))else some false) >>=fun r_13=>
 some (bif t74_1 then r_13 else false)
 else
 if decide (t.Kind=9)=true then
 g1j ((⟨0,t.Name,t.Low,t.High,t.Max,t.Symbols,t.Members,t.Key,0,t.Open⟩:SType),(⟨0,[],0,0,0,[],[],0,0,false⟩:SType)) >>=fun r_14=>
 some r_14
 else
 some false
 else
 if decide (t.Kind=6)=true then
 g31 t.Name >>=fun r_15=>
 (if r_15=true then g5x t else some false) >>=fun r_16=>
 some (bif r_15 then r_16 else false) >>=fun t53_1=>
 (if t53_1=true then g1j ((⟨0,[],t.Low,t.High,t.Max,t.Symbols,[],t.Key,t.Elem,bif t.Open then decide (t.Kind=5)else false⟩:SType),(⟨0,[],0,0,0,[],[],0,0,false⟩:SType))else some false) >>=fun r_17=>
 some (bif t53_1 then r_17 else false)
 else
 some (decide (t.Kind=7)) >>=fun t65_1=>
 if t65_1=true then
 if t65_1=true then
 some (bif decide (0≤t.Max)then decide (t.Max≤50)else false) >>=fun t74_2=>
 if decide (t.Kind=8)=true then
 (if t74_2=true then g1j ((⟨0,t.Name,t.Low,t.High,0,t.Symbols,t.Members,0,0,t.Open⟩:SType),(⟨0,[],0,0,0,[],[],0,0,false⟩:SType))else some false) >>=fun r_18=>
 some (bif t74_2 then r_18 else false)
 else
 (if t74_2=true then g1j ((⟨0,t.Name,t.Low,t.High,0,t.Symbols,t.Members,t.Key,0,t.Open⟩:SType),(⟨0,[],0,0,0,[],[],0,0,false⟩:SType))else some false) >>=fun r_19=>
 some (bif t74_2 then r_19 else false)
 else
 if decide (t.Kind=9)=true then
 g1j ((⟨0,t.Name,t.Low,t.High,t.Max,t.Symbols,t.Members,t.Key,0,t.Open⟩:SType),(⟨0,[],0,0,0,[],[],0,0,false⟩:SType)) >>=fun r_20=>
 some r_20
 else
 some false
 else
 if decide (t.Kind=8)=true then
 some (bif decide (0≤t.Max)then decide (t.Max≤50)else false) >>=fun t74_3=>
 if decide (t.Kind=8)=true then
 (if t74_3=true then g1j ((⟨0,t.Name,t.Low,t.High,0,t.Symbols,t.Members,0,0,t.Open⟩:SType),(⟨0,[],0,0,0,[],[],0,0,false⟩:SType))else some false) >>=fun r_21=>
 some (bif t74_3 then r_21 else false)
 else
 (if t74_3=true then g1j ((⟨0,t.Name,t.Low,t.High,0,t.Symbols,t.Members,t.Key,0,t.Open⟩:SType),(⟨0,[],0,0,0,[],[],0,0,false⟩:SType))else some false) >>=fun r_22=>
 some (bif t74_3 then r_22 else false)
 else
 if decide (t.Kind=9)=true then
 g1j ((⟨0,t.Name,t.Low,t.High,t.Max,t.Symbols,t.Members,t.Key,0,t.Open⟩:SType),(⟨0,[],0,0,0,[],[],0,0,false⟩:SType)) >>=fun r_23=>
 some r_23
 else
 some false
theorem g13b :KC e158:= .m (by kernel_rfl)
theorem gqn :FC e158 g1a:= .fn g13b (.k gpa (.k gh3 (.k gmr (.k gms .n)))) .n fun _=>by kernel_rfl
end
section
open Go Go.Proofs.YtijpinendaoleaaGreat.Shv
open Tryz
set_option maxRecDepth 100000
def g5b(x_:List SMember × Int × Int × SType × List Int) :Option (SType × List Int):=
 match x_ with
 | (t7,t8_1,t9,b_2,b_3)=>
 if decide (t9 < t8_1)=true then
 if inR t9 t7.length=true then
 some [(t7.getD t9.toNat dSMember).Type_] >>=fun t16=>
 if room 8 (b_3++t16).length=true then
 g5b (t7,t8_1,addI .i64 t9 1,b_2,b_3++t16)
 else none
 else none
 else
 some (b_2,b_3)
  partial_fixpoint
theorem gmt :LC 159 0 [0] gy1 g5b:= .rc g5b.partial_correctness .n .n fun _ _=>by kernel_rfl
def gc4(t:SType) :Option (List Int):=
 g5b (t.Members,(t.Members.length:Int),0,t,[]) >>=fun o=>
 if decide (o.1.Kind=8)=true then
 some [o.1.Key] >>=fun t25=>
 if room 8 (o.2++t25).length=true then
 some (o.2++t25) >>=fun l=>
 if decide (7≤o.1.Kind)=true then
 some [o.1.Elem] >>=fun t33=>
 if room 8 (l++t33).length=true then
 some (l++t33)
 else none
 else
 some l
 else none
 else
 if decide (7≤o.1.Kind)=true then
 some [o.1.Elem] >>=fun t33_1=>
 if room 8 (o.2++t33_1).length=true then
 some (o.2++t33_1)
 else none
 else
 some o.2
theorem g13c :KC e159:= .m (by kernel_rfl)
theorem gqo :FC e159 gc4:= .fn g13c .n (.k gmt .n) fun _=>by kernel_rfl
def g38(x_:List SType × Int × Int × List Int × Int × Int × List SType × List (List UInt8) × Int × List UInt8 × Int × Int × Int × List SSymbol × List SMember × Int × Int × Bool) :Option ((Int) ⊕ (List SType × Int × Int × List SType × List (List UInt8) × Int × List UInt8 × Int × Int × Int × List SSymbol × List SMember × Int × Int × Bool)):=
 match x_ with
 | (t14_2,t15_3,t16_2,t38,t39_1,t40,b_14,b_15,b_16,b_17,b_18,b_19,b_20,b_21,b_22,b_23,b_24,b_25)=>
 if decide (t40 < t39_1)=true then
 if inR t40 t38.length=true then
 some (t38.getD t40.toNat 0) >>=fun x0_3=>
 if(bif decide (x0_3 < 0)then true else decide ((b_14.length:Int)≤x0_3))=true then
 some (.inl 4)
 else
 g38 (t14_2,t15_3,t16_2,t38,t39_1,addI .i64 t40 1,b_14,b_15,b_16,b_17,b_18,b_19,b_20,b_21,b_22,b_23,b_24,b_25)
 else none
 else
 some (.inr (t14_2,t15_3,t16_2,b_14,b_15,b_16,b_17,b_18,b_19,b_20,b_21,b_22,b_23,b_24,b_25))
  partial_fixpoint
theorem gj2 :LC 125 0 [0,0] gs7 g38:= .rc g38.partial_correctness .n .n fun _ _=>by kernel_rfl
def g4t(x_:List SType × Int × Int × List SType × List (List UInt8)) :Option ((Int) ⊕ (Unit)):=
 match x_ with
 | (t14,t15_1,t16,b,b_1)=>
 if decide (t16 < t15_1)=true then
 if inR t16 t14.length=true then
 some (t14.getD t16.toNat dSType) >>=fun x0=>
 g1a x0 >>=fun r=>
 if(bif (!r)then true else bif (!(decide (x0.Name=[])))then hasS b_1 x0.Name else false)=true then
 some (.inl 1)
 else
 gc4 x0 >>=fun r_1=>
 g38 (t14,t15_1,t16,r_1,(r_1.length:Int),0,b,addS b_1 x0.Name,x0.Kind,x0.Name,x0.Low,x0.High,x0.Max,x0.Symbols,x0.Members,x0.Key,x0.Elem,x0.Open) >>=fun o_3=>
 match o_3 with
 | .inl o_4=>
 some (.inl o_4)
 | .inr o_5=>
 some (decide (o_5.2.2.2.2.2.1=8)) >>=fun t56=>
 if(inR o_5.2.2.2.2.2.2.2.2.2.2.2.2.1 o_5.2.2.2.1.length || (!t56))=true then
 some (decide ((o_5.2.2.2.1.getD o_5.2.2.2.2.2.2.2.2.2.2.2.2.1.toNat dSType).Kind < 1)) >>=fun t65=>
 if(inR o_5.2.2.2.2.2.2.2.2.2.2.2.2.1 o_5.2.2.2.1.length || (!(t56 && (!t65))))=true then
 if(bif t56 then bif t65 then true else decide (4 < (o_5.2.2.2.1.getD o_5.2.2.2.2.2.2.2.2.2.2.2.2.1.toNat dSType).Kind)else false)=true then
 some (.inl 1)
 else
 g4t (o_5.1,o_5.2.1,addI .i64 o_5.2.2.1 1,o_5.2.2.2.1,o_5.2.2.2.2.1)
 else none
 else none
 else none
 else
 some (.inr ())
  partial_fixpoint
theorem glc :LC 125 0 [0] gy2 g4t:= .rc g4t.partial_correctness (.k gqn (.k gqo .n)) (.k gj2 .n) fun _ _=>by kernel_rfl
def g6y(s:SSchema) :Option (Int):=
 if decide (32 < (s.Types.length:Int))=true then
 some 3
 else
 g4t (s.Types,(s.Types.length:Int),0,s.Types,[]) >>=fun o=>
 match o with
 | .inl o_1=>
 some o_1
 | .inr o_2=>
 some 0
theorem g13d :KC e125:= .m (by kernel_rfl)
theorem gpc :FC e125 g6y:= .fn g13d .n (.k glc .n) fun _=>by kernel_rfl
def gb3(x_:SSymbol × Int) :Option (Bool × Int):=
 match x_ with
 | (x0,b)=>
 some (decide (x0.ID=b),b)
theorem g13e :KC e191:= .m (by kernel_rfl)
theorem gld :FC e191 gb3:= .fn g13e .n .n fun _=>by kernel_rfl
def gq(x_:List SSymbol × Int × Int × Int) :Option ((Int × Int) ⊕ (Int)):=
 match x_ with
 | (s_1,t7_1,t8,b_3)=>
 if decide (t8 < t7_1)=true then
 if inR t8 s_1.length=true then
 gb3 (s_1.getD t8.toNat dSSymbol,b_3) >>=fun r=>
 if r.1=true then
 some (.inl (t8,r.2))
 else
 gq (s_1,t7_1,addI .i64 t8 1,r.2)
 else none
 else
 some (.inr b_3)
  partial_fixpoint
theorem g7x :LC 190 1 [0] gy3 gq:= .rc gq.partial_correctness (.k gld .n) .n fun _ _=>by kernel_rfl
def g3v(x_:List SSymbol × Int) :Option (Int × Int):=
 match x_ with
 | (s,b)=>
 gq (s,(s.length:Int),0,b) >>=fun o=>
 match o with
 | .inl o_1=>
 some (o_1.1,o_1.2)
 | .inr o_2=>
 some ((-1),o_2)
theorem g13f :KC e190:= .m (by kernel_rfl)
theorem g8m :FC e190 g3v:= .fn g13f .n (.k g7x .n) fun _=>by kernel_rfl
def g8n(x_:SType × Int) :Option (Int × Bool):=
 match x_ with
 | (t,id)=>
 g3v (t.Symbols,id) >>=fun r=>
 some (maxI r.1 0,decide (0≤r.1))
theorem g13g :KC e143:= .m (by kernel_rfl)
theorem gff :FC e143 g8n:= .fn g13g (.k g8m .n) .n fun _=>by kernel_rfl
def gfg(x0:Int) :Option (Bool):=
 some (!(decide (x0=x0)))
theorem g13h :KC e214:= .m (by kernel_rfl)
theorem gts :FC e214 gfg:= .fn g13h .n .n fun _=>by kernel_rfl
end
section
open Go Go.Proofs.YtijpinendaoleaaGreat.Shv
open Tryz
set_option maxRecDepth 100000
def gc5(x_:Int × Int) :Option (Int):=
 match x_ with
 | (x0,y)=>
 gfg x0 >>=fun r=>
 gfg y >>=fun r_1=>
 if r=true then
 if r_1=true then
 some 0
 else
 some (-1)
 else
 if r_1=true then
 some 1
 else
 if decide (x0 < y)=true then
 some (-1)
 else
 if decide (y < x0)=true then
 some 1
 else
 some 0
theorem g13i :KC e195:= .m (by kernel_rfl)
theorem gqp :FC e195 gc5:= .fn g13i (.k gts .n) .n fun _=>by kernel_rfl
def gc6(x0:Int) :Option (Bool):=
 some (!(decide (x0=x0)))
theorem g13j :KC e208:= .m (by kernel_rfl)
theorem gqq :FC e208 gc6:= .fn g13j .n .n fun _=>by kernel_rfl
def g8o(x_:Int × Int) :Option (Int):=
 match x_ with
 | (x0,y)=>
 gc6 x0 >>=fun r=>
 gc6 y >>=fun r_1=>
 if r=true then
 if r_1=true then
 some 0
 else
 some (-1)
 else
 if r_1=true then
 some 1
 else
 if decide (x0 < y)=true then
 some (-1)
 else
 if decide (y < x0)=true then
 some 1
 else
 some 0
theorem g13k :KC e174:= .m (by kernel_rfl)
theorem go4 :FC e174 g8o:= .fn g13k (.k gqq .n) .n fun _=>by kernel_rfl
def gc7(x0:List UInt8) :Option (Bool):=
 some (!(decide (x0=x0)))
theorem g13l :KC e215:= .m (by kernel_rfl)
theorem gqr :FC e215 gc7:= .fn g13l .n .n fun _=>by kernel_rfl
def ga8(x_:List UInt8 × List UInt8) :Option (Int):=
 match x_ with
 | (x0,y)=>
 gc7 x0 >>=fun r=>
 gc7 y >>=fun r_1=>
 if r=true then
 if r_1=true then
 some 0
 else
 some (-1)
 else
 if r_1=true then
 some 1
 else
 if Op.bytesLess x0 y=true then
 some (-1)
 else
 if(!(Op.bytesLess x0 y || decide (x0=y)))=true then
 some 1
 else
 some 0
theorem g13m :KC e197:= .m (by kernel_rfl)
theorem go5 :FC e197 ga8:= .fn g13m (.k gqr .n) .n fun _=>by kernel_rfl
def g6k(x_:Int × List Int × Int × Int) :Option ((Int) ⊕ (Int)):=
 match x_ with
 | (zero_1,t6,t7_1,t8)=>
 if decide (t8 < t7_1)=true then
 if inR t8 t6.length=true then
 some (t6.getD t8.toNat 0) >>=fun x0=>
 if(!(decide (x0=zero_1)))=true then
 some (.inl x0)
 else
 g6k (zero_1,t6,t7_1,addI .i64 t8 1)
 else none
 else
 some (.inr zero_1)
  partial_fixpoint
theorem gtt :LC 196 0 [0] gy5 g6k:= .rc g6k.partial_correctness .n .n fun _ _=>by kernel_rfl
def go6(vals:List Int) :Option (Int):=
 g6k (0,vals,(vals.length:Int),0) >>=fun o=>
 match o with
 | .inl o_1=>
 some o_1
 | .inr o_2=>
 some o_2
theorem g13n :KC e196:= .m (by kernel_rfl)
theorem g108 :FC e196 go6:= .fn g13n .n (.k gtt .n) fun _=>by kernel_rfl
def g8p(n:Int) :Option (Int):=
 some (xorI .u64 (shlI .u64 (wrp .u64 n) 1) (wrp .u64 (shrI .i64 n 63)))
theorem g13o :KC e133:= .m (by kernel_rfl)
theorem go7 :FC e133 g8p:= .fn g13o .n .n fun _=>by kernel_rfl
def g6a(x_:SValue × SValue) :Option (Int):=
 match x_ with
 | (a,b)=>
 if(!(decide (a.Kind=b.Kind)))=true then
 some 0
 else
 if decide (a.Kind=1)=true then
 if eqB a.Bool_ b.Bool_=true then
 some 0
 else
 if b.Bool_=true then
 some (-1)
 else
 some 1
 else
 if decide (a.Kind=2)=true then
 g8p a.Int_ >>=fun r=>
 g8p b.Int_ >>=fun r_1=>
 gc5 (r,r_1) >>=fun r_2=>
 some r_2
 else
 if decide (a.Kind=3)=true then
 g8o ((a.Str.length:Int),(b.Str.length:Int)) >>=fun r_3=>
 ga8 (a.Str,b.Str) >>=fun r_4=>
 go6 [r_3,r_4] >>=fun r_5=>
 some r_5
 else
 if decide (a.Kind=4)=true then
 g8o (a.ID,b.ID) >>=fun r_6=>
 some r_6
 else
 some 0
theorem g13p :KC e151:= .m (by kernel_rfl)
theorem go8 :FC e151 g6a:= .fn g13p (.k go7 (.k gqp (.k go4 (.k go5 (.k g108 .n))))) .n fun _=>by kernel_rfl
end
section
open Go Go.Proofs.YtijpinendaoleaaGreat.Shv
open Tryz
set_option maxRecDepth 100000
def gb4(x_:SMember × Int) :Option (Bool × Int):=
 match x_ with
 | (m,b)=>
 some (decide (m.ID=b),b)
theorem g13q :KC e167:= .m (by kernel_rfl)
theorem gle :FC e167 gb4:= .fn g13q .n .n fun _=>by kernel_rfl
def gu(x_:List SMember × Int × Int × Int) :Option ((Int × Int) ⊕ (Int)):=
 match x_ with
 | (s_1,t7_1,t8,b_3)=>
 if decide (t8 < t7_1)=true then
 if inR t8 s_1.length=true then
 some (s_1.getD t8.toNat dSMember) >>=fun x0=>
 gb4 ((⟨x0.ID,x0.Name,x0.Type_,x0.Critical,x0.HasDefault,SValue.eta x0.Default⟩:SMember),b_3) >>=fun r=>
 if r.1=true then
 some (.inl (t8,r.2))
 else
 gu (s_1,t7_1,addI .i64 t8 1,r.2)
 else none
 else
 some (.inr b_3)
  partial_fixpoint
theorem g7y :LC 166 1 [0] gy4 gu:= .rc gu.partial_correctness (.k gle .n) .n fun _ _=>by kernel_rfl
def g3w(x_:List SMember × Int) :Option (Int × Int):=
 match x_ with
 | (s,b)=>
 gu (s,(s.length:Int),0,b) >>=fun o=>
 match o with
 | .inl o_1=>
 some (o_1.1,o_1.2)
 | .inr o_2=>
 some ((-1),o_2)
theorem g13r :KC e166:= .m (by kernel_rfl)
theorem g8q :FC e166 g3w:= .fn g13r .n (.k g7y .n) fun _=>by kernel_rfl
def g3b(x_:SType × Int) :Option (Int × Bool):=
 match x_ with
 | (t,id)=>
 g3w (t.Members,id) >>=fun r=>
 some (maxI r.1 0,decide (0≤r.1))
theorem g13s :KC e129:= .m (by kernel_rfl)
theorem gb5 :FC e129 g3b:= .fn g13s (.k g8q .n) .n fun _=>by kernel_rfl
end
section
open Go Go.Proofs.YtijpinendaoleaaGreat.Shv
open Tryz
set_option maxRecDepth 100000
set_option linter.all false
end
section
open Go Go.Proofs.YtijpinendaoleaaGreat.Shv
open Tryz
set_option maxRecDepth 100000
def gbu(x_:SSchema × Int) :Option (Int):=
 match x_ with
 | (s,t)=>
 g6y (⟨s.Types⟩:SSchema) >>=fun r=>
 if(!(decide (r=0)))=true then
 some r
 else
 if(bif decide (t < 0)then true else decide ((s.Types.length:Int)≤t))=true then
 some 4
 else
 some 0
def gda(v:SValue) :Option (SValue):=
 if decide (v.Kind=1)=true then
 some (⟨v.Kind,v.Bool_,0,[],0,[],[],[]⟩:SValue)
 else
 if decide (v.Kind=2)=true then
 some (⟨v.Kind,false,v.Int_,[],0,[],[],[]⟩:SValue)
 else
 if decide (v.Kind=3)=true then
 some (⟨v.Kind,false,0,v.Str,0,[],[],[]⟩:SValue)
 else
 if decide (v.Kind=4)=true then
 some (⟨v.Kind,false,0,[],v.ID,[],[],[]⟩:SValue)
 else
 if decide (v.Kind=5)=true then
 some (⟨v.Kind,false,0,[],0,[],v.Items,v.Rest⟩:SValue)
 else
 if decide (v.Kind=6)=true then
 some (⟨v.Kind,false,0,[],v.ID,[],v.Items,v.Rest⟩:SValue)
 else
 if decide (v.Kind=8)=true then
 some (⟨v.Kind,false,0,[],0,v.Keys,v.Items,[]⟩:SValue)
 else
 some (decide (v.Kind=7)) >>=fun t57=>
 if t57=true then
 if t57=true then
 some (⟨v.Kind,false,0,[],0,[],v.Items,[]⟩:SValue)
 else
 some (⟨v.Kind,false,0,[],0,[],[],[]⟩:SValue)
 else
 if decide (v.Kind=9)=true then
 some (⟨v.Kind,false,0,[],0,[],v.Items,[]⟩:SValue)
 else
 some (⟨v.Kind,false,0,[],0,[],[],[]⟩:SValue)
theorem g13t :KC e193:= .m (by kernel_rfl)
theorem gsf :FC e193 gda:= .fn g13t .n .n fun _=>by kernel_rfl
def gb6(v:SValue) :Option (Bool):=
 gda (SValue.eta v) >>=fun r=>
 some (bif bif bif bif bif bif eqB v.Bool_ r.Bool_ then decide (v.Int_=r.Int_)else false then decide (v.Str=r.Str)else false then decide (v.ID=r.ID)else false then decide ((v.Keys.length:Int)=(r.Keys.length:Int))else false then decide ((v.Items.length:Int)=(r.Items.length:Int))else false then decide ((v.Rest.length:Int)=(r.Rest.length:Int))else false)
theorem g13u :KC e148:= .m (by kernel_rfl)
theorem gpd :FC e148 gb6:= .fn g13u (.k gsf .n) .n fun _=>by kernel_rfl
def gb7(id:Int) :Option (Bool):=
 some (bif decide (1≤id)then decide (id≤1000)else false)
theorem g13v :KC e149:= .m (by kernel_rfl)
theorem gkh :FC e149 gb7:= .fn g13v .n .n fun _=>by kernel_rfl
def g2w(x_:Bool × List SRaw × Int × Int × List SType × SValue × Int × List UInt8 × Int × Int × Int × List SSymbol × List SMember × Int × Int × Bool) :Option ((Bool) ⊕ (Bool × List SType × Int × Bool × Int × List UInt8 × Int × List SValue × List SValue × List SRaw × Int × List UInt8 × Int × Int × Int × List SSymbol × List SMember × Int × Int × Bool)):=
 match x_ with
 | (plain_3,t111,t112_1,t113,b_31,b_32,b_33,b_34,b_35,b_36,b_37,b_38,b_39,b_40,b_41,b_42)=>
 if decide (t113 < t112_1)=true then
 if inR t113 t111.length=true then
 some (t111.getD t113.toNat dSRaw) >>=fun x0_4=>
 g3b ((⟨b_33,b_34,b_35,b_36,b_37,b_38,b_39,b_40,b_41,b_42⟩:SType),x0_4.ID) >>=fun r_14=>
 (if(!r_14.2)=true then gb7 x0_4.ID else some false) >>=fun r_17=>
 some (bif r_14.2 then true else(!r_17)) >>=fun t131=>
 some (decide (0 < t113)) >>=fun t134=>
 some (subI .i64 t113 1) >>=fun t141=>
 if(inR t141 b_32.Rest.length || (!((!t131) && t134)))=true then
 if(bif t131 then true else bif t134 then decide (x0_4.ID≤(b_32.Rest.getD t141.toNat dSRaw).ID)else false)=true then
 some (.inl false)
 else
 g2w (plain_3,t111,t112_1,addI .i64 t113 1,b_31,SValue.eta b_32,b_33,b_34,b_35,b_36,b_37,b_38,b_39,b_40,b_41,b_42)
 else none
 else none
 else
 some (.inr (plain_3,b_31,b_32.Kind,b_32.Bool_,b_32.Int_,b_32.Str,b_32.ID,b_32.Keys,b_32.Items,b_32.Rest,b_33,b_34,b_35,b_36,b_37,b_38,b_39,b_40,b_41,b_42))
  partial_fixpoint
theorem go9 :LC 112 0 [0] gy6 g2w:= .rc g2w.partial_correctness (.k gb5 (.k gkh .n)) .n fun _ _=>by kernel_rfl
def g2n(x_:Bool × Int × List SType × SValue × Int × List UInt8 × Int × Int × Int × List SSymbol × List SMember × Int × Int × Bool) :Option ((Bool) ⊕ (Bool × List SType × SValue × Int × List UInt8 × Int × Int × Int × List SSymbol × List SMember × Int × Int × Bool)):=
 match x_ with
 | (plain_5,i,b_52,b_53,b_54,b_55,b_56,b_57,b_58,b_59,b_60,b_61,b_62,b_63)=>
 if decide (i < (b_53.Keys.length:Int))=true then
 some (subI .i64 i 1) >>=fun t291=>
 if inR t291 b_53.Keys.length=true then
 if inR i b_53.Keys.length=true then
 g6a (SValue.eta (b_53.Keys.getD t291.toNat dSValue),SValue.eta (b_53.Keys.getD i.toNat dSValue)) >>=fun r_19=>
 if decide (0≤r_19)=true then
 some (.inl false)
 else
 g2n (plain_5,addI .i64 i 1,b_52,SValue.eta b_53,b_54,b_55,b_56,b_57,b_58,b_59,b_60,b_61,b_62,b_63)
 else none
 else none
 else
 some (.inr (plain_5,b_52,SValue.eta b_53,b_54,b_55,b_56,b_57,b_58,b_59,b_60,b_61,b_62,b_63))
  partial_fixpoint
theorem goa :LC 112 0 [2] gy7 g2n:= .rc g2n.partial_correctness (.k go8 .n) .n fun _ _=>by kernel_rfl
mutual
def g2r(x_:List SValue × List SType × Int × Bool) :Option (Bool × List SType × Int × Bool):=
 match x_ with
 | (s,b,b_1,b_2)=>
 g4h (s,b,b_1,b_2) >>=fun r=>
 some (decide (0≤r.1),r.2.1,r.2.2.1,r.2.2.2)
  partial_fixpoint
def g4h(x_:List SValue × List SType × Int × Bool) :Option (Int × List SType × Int × Bool):=
 match x_ with
 | (s,b,b_1,b_2)=>
 g11 (s,(s.length:Int),0,b,b_1,b_2) >>=fun o=>
 match o with
 | .inl o_1=>
 some (o_1.1,o_1.2.1,o_1.2.2.1,o_1.2.2.2)
 | .inr o_2=>
 some ((-1),o_2.1,o_2.2.1,o_2.2.2)
  partial_fixpoint
def g6h(x_:SSchema × Int × List SValue × Bool) :Option (Bool):=
 match x_ with
 | (s,t,l,plain)=>
 g2r (l,s.Types,t,plain) >>=fun r=>
 some (!r.1)
  partial_fixpoint
def geg(x_:SValue × List SType × Int × Bool) :Option (Bool × List SType × Int × Bool):=
 match x_ with
 | (v,b,b_1,b_2)=>
 g39 ((⟨b⟩:SSchema),b_1,SValue.eta v,b_2) >>=fun r=>
 some ((!r),b,b_1,b_2)
  partial_fixpoint
def g39(x_:SSchema × Int × SValue × Bool) :Option (Bool):=
 match x_ with
 | (s,t,v,plain)=>
 if(bif decide (t < 0)then true else decide ((s.Types.length:Int)≤t))=true then
 some false
 else
 if inR t s.Types.length=true then
 some (s.Types.getD t.toNat dSType) >>=fun x0=>
 some (!(decide (v.Kind=x0.Kind))) >>=fun t39=>
 (if(!t39)=true then gb6 (SValue.eta v)else some false) >>=fun r=>
 if(bif t39 then true else(!r))=true then
 some false
 else
 if decide (x0.Kind=2)=true then
 some (bif decide (x0.Low≤v.Int_)then decide (v.Int_≤x0.High)else false)
 else
 if decide (x0.Kind=3)=true then
 some (decide ((v.Str.length:Int)≤x0.Max))
 else
 if decide (x0.Kind=4)=true then
 g8n (x0,v.ID) >>=fun r_1=>
 some (bif x0.Open then(!plain)else false) >>=fun t85=>
 (if((!r_1.2) && t85)=true then gb7 v.ID else some false) >>=fun r_4=>
 some (bif r_1.2 then true else bif t85 then r_4 else false)
 else
 if decide (x0.Kind=5)=true then
 if(bif (!(decide ((v.Items.length:Int)=(x0.Members.length:Int))))then true else bif plain then decide (0 < (v.Rest.length:Int))else false)=true then
 some false
 else
 g2w (plain,v.Rest,(v.Rest.length:Int),0,s.Types,SValue.eta v,x0.Kind,x0.Name,x0.Low,x0.High,x0.Max,x0.Symbols,x0.Members,x0.Key,x0.Elem,x0.Open) >>=fun o=>
 match o with
 | .inl o_1=>
 some o_1
 | .inr o_2=>
 g3c (o_2.1,o_2.2.2.2.2.2.2.2.2.2.2.2.2.2.2.2.2.1,(o_2.2.2.2.2.2.2.2.2.2.2.2.2.2.2.2.2.1.length:Int),0,o_2.2.1,o_2.2.2.1,o_2.2.2.2.1,o_2.2.2.2.2.1,o_2.2.2.2.2.2.1,o_2.2.2.2.2.2.2.1,o_2.2.2.2.2.2.2.2.1,o_2.2.2.2.2.2.2.2.2.1,o_2.2.2.2.2.2.2.2.2.2.1) >>=fun o_3=>
 match o_3 with
 | .inl o_4=>
 some o_4
 | .inr o_5=>
 some true
 else
 if decide (x0.Kind=6)=true then
 g3b (x0,v.ID) >>=fun r_5=>
 if r_5.2=true then
 some (bif decide ((v.Items.length:Int)=1)then decide ((v.Rest.length:Int)=0)else false) >>=fun t188=>
 if(inR r_5.1 x0.Members.length || (!t188))=true then
 if(inR 0 v.Items.length || (!t188))=true then
 (if t188=true then g39 ((⟨s.Types⟩:SSchema),(x0.Members.getD r_5.1.toNat dSMember).Type_,SValue.eta (v.Items.getD (0:Int).toNat dSValue),plain)else some false) >>=fun r_8=>
 some (bif t188 then r_8 else false)
 else none
 else none
 else
 some (bif x0.Open then(!plain)else false) >>=fun t209=>
 (if t209=true then gb7 v.ID else some false) >>=fun r_9=>
 some (bif bif bif t209 then r_9 else false then decide ((v.Items.length:Int)=0)else false then decide ((v.Rest.length:Int)=1)else false) >>=fun t226=>
 if(inR 0 v.Rest.length || (!t226))=true then
 some (bif t226 then decide ((v.Rest.getD (0:Int).toNat dSRaw).ID=v.ID)else false)
 else none
 else
 if decide (x0.Kind=7)=true then
 some (decide ((v.Items.length:Int)≤x0.Max)) >>=fun t244=>
 (if t244=true then g6h ((⟨s.Types⟩:SSchema),x0.Elem,v.Items,plain)else some false) >>=fun r_10=>
 some (bif t244 then r_10 else false)
 else
 if decide (x0.Kind=8)=true then
 some (bif decide (x0.Max < (v.Keys.length:Int))then true else(!(decide ((v.Items.length:Int)=(v.Keys.length:Int))))) >>=fun t270=>
 (if(!t270)=true then g6h ((⟨s.Types⟩:SSchema),x0.Key,v.Keys,plain)else some false) >>=fun r_11=>
 if(bif t270 then true else(!r_11))=true then
 some false
 else
 g2n (plain,1,s.Types,SValue.eta v,x0.Kind,x0.Name,x0.Low,x0.High,x0.Max,x0.Symbols,x0.Members,x0.Key,x0.Elem,x0.Open) >>=fun o_6=>
 match o_6 with
 | .inl o_7=>
 some o_7
 | .inr o_8=>
 g6h ((⟨o_8.2.1⟩:SSchema),o_8.2.2.2.2.2.2.2.2.2.2.2.1,o_8.2.2.1.Items,o_8.1) >>=fun r_12=>
 some r_12
 else
 if decide (x0.Kind=9)=true then
 some (decide ((v.Items.length:Int)≤1)) >>=fun t313=>
 (if t313=true then g6h ((⟨s.Types⟩:SSchema),x0.Elem,v.Items,plain)else some false) >>=fun r_13=>
 some (bif t313 then r_13 else false)
 else
 some true
 else none
  partial_fixpoint
def g11(x_:List SValue × Int × Int × List SType × Int × Bool) :Option ((Int × List SType × Int × Bool) ⊕ (List SType × Int × Bool)):=
 match x_ with
 | (s_1,t7_1,t8,b_9,b_10,b_11)=>
 if decide (t8 < t7_1)=true then
 if inR t8 s_1.length=true then
 geg (SValue.eta (s_1.getD t8.toNat dSValue),b_9,b_10,b_11) >>=fun r=>
 if r.1=true then
 some (.inl (t8,r.2.1,r.2.2.1,r.2.2.2))
 else
 g11 (s_1,t7_1,addI .i64 t8 1,r.2.1,r.2.2.1,r.2.2.2)
 else none
 else
 some (.inr (b_9,b_10,b_11))
  partial_fixpoint
def g3c(x_:Bool × List SMember × Int × Int × List SType × Int × Bool × Int × List UInt8 × Int × List SValue × List SValue × List SRaw) :Option ((Bool) ⊕ (Unit)):=
 match x_ with
 | (plain_4,t150,t151_1,t152,b_43,b_44,b_45,b_46,b_47,b_48,b_49,b_50,b_51)=>
 if decide (t152 < t151_1)=true then
 if inR t152 t150.length=true then
 if inR t152 b_50.length=true then
 g39 ((⟨b_43⟩:SSchema),(t150.getD t152.toNat dSMember).Type_,SValue.eta (b_50.getD t152.toNat dSValue),plain_4) >>=fun r_18=>
 if(!r_18)=true then
 some (.inl false)
 else
 g3c (plain_4,t150,t151_1,addI .i64 t152 1,b_43,b_44,b_45,b_46,b_47,b_48,b_49,b_50,b_51)
 else none
 else none
 else
 some (.inr ())
  partial_fixpoint
end
theorem gsg :KC ggw:= .m (by kernel_rfl)
theorem gsh :KC ggv:= .m (by kernel_rfl)
theorem gyi :KC e194:= .m (by kernel_rfl)
theorem gki :KC e112:= .m (by kernel_rfl)
theorem gyj :KC e150:= .m (by kernel_rfl)
theorem g7z :(∀h r,g2r h=some r→FD ggw h r)∧(∀h r,g4h h=some r→FD ggv h r)∧(∀h r,g11 h=some r→LD 192 3 [0] ged h r)∧(∀h r,geg h=some r→FD e194 h r)∧(∀h r,g39 h=some r→FD e112 h r)∧(∀h r,g6h h=some r→FD e150 h r)∧(∀h r,g3c h=some r→LD 112 0 [1] gkd h r):=g2r.mutual_partial_correctness (FD ggw) (FD ggv) (LD 192 3 [0] ged) (FD e194) (FD e112) (FD e150) (LD 112 0 [1] gkd)
 (fun _ h1 _ _ h=>FA ggw gsg (.k (FH ggv gsh h1) .n) .n (.trans (by kernel_rfl) h))
 (fun _ h2 _ _ h=>FA ggv gsh .n (.k (LH ged h2) .n) (.trans (by kernel_rfl) h))
 (fun _ _ h2 h3 _ _ h=>LA ged h2 (.k (FH e194 gyi h3) .n) .n (.trans (by kernel_rfl) h))
 (fun _ h4 _ _ h=>FA e194 gyi (.k (FH e112 gki h4) .n) .n (.trans (by kernel_rfl) h))
 (fun _ _ _ h4 h5 h6 _ _ h=>FA e112 gki (.k gpd (.k gff (.k gkh (.k gb5 (.k (FH e112 gki h4) (.k (FH e150 gyj h5) .n)))))) (.k go9 (.k (LH gkd h6) (.k goa .n))) (.trans (by kernel_rfl) h))
 (fun _ h0 _ _ h=>FA e150 gyj (.k (FH ggw gsg h0) .n) .n (.trans (by kernel_rfl) h))
 (fun _ _ h4 h6 _ _ h=>LA gkd h6 (.k (FH e112 gki h4) .n) .n (.trans (by kernel_rfl) h))
theorem gkj :FC e112 g39:= .of gki g7z.2.2.2.2.1
def g5i(x_:SSchema × Int × SValue) :Option (Bool):=
 match x_ with
 | (s,t,v)=>
 g39 ((⟨s.Types⟩:SSchema),t,SValue.eta v,false) >>=fun r=>
 some r
theorem e86_k :KC e86:= .m (by kernel_rfl)
theorem gsi :FC e86 g5i:= .fn e86_k (.k gkj .n) .n fun _=>by kernel_rfl
end
section
open Go Go.Proofs.YtijpinendaoleaaGreat.Shv
open Tryz
set_option maxRecDepth 100000
def g80(x_:SSchema × Int × SValue) :Option (Int):=
 match x_ with
 | (s,t,v)=>
 gbu ((⟨s.Types⟩:SSchema),t) >>=fun r=>
 if(!(decide (r=0)))=true then
 some r
 else
 g5i ((⟨s.Types⟩:SSchema),t,SValue.eta v) >>=fun r_1=>
 if(!r_1)=true then
 some 1
 else
 some 0
end
section
open Go Go.Proofs.YtijpinendaoleaaGreat.Shv
open Tryz
set_option maxRecDepth 100000
def g77(x_:SSchema × Int) :Option (Int):=
 match x_ with
 | (s,t)=>
 g6y s >>=fun r=>
 if(!(decide (r=0)))=true then
 some r
 else
 if(bif decide (t < 0)then true else decide ((s.Types.length:Int)≤t))=true then
 some 4
 else
 some 0
theorem e85_k :KC e85:= .m (by kernel_rfl)
theorem gob :FC e85 g77:= .fn e85_k (.k gpc .n) .n fun _=>by kernel_rfl
def g5o(x_:SSchema × Int × SValue) :Option (Int):=
 match x_ with
 | (s,t,v)=>
 g77 (s,t) >>=fun r=>
 if(!(decide (r=0)))=true then
 some r
 else
 g5i (s,t,SValue.eta v) >>=fun r_1=>
 if(!r_1)=true then
 some 1
 else
 some 0
theorem e53_k :KC e53:= .m (by kernel_rfl)
theorem gb8 :FC e53 g5o:= .fn e53_k (.k gob (.k gsi .n)) .n fun _=>by kernel_rfl
def g3e(x_:SType × SValue) :Option (Bool):=
 match x_ with
 | (x0,v)=>
 if(!(decide (x0.Kind=4)))=true then
 some false
 else
 g8n (x0,v.ID) >>=fun r=>
 some (!r.2)
theorem e87_k :KC e87:= .m (by kernel_rfl)
theorem g9m :FC e87 g3e:= .fn e87_k (.k gff .n) .n fun _=>by kernel_rfl
def gb9(x_:SValue × List SType × SType) :Option (Bool × List SType × SType):=
 match x_ with
 | (k,b,b_1)=>
 if inR b_1.Key b.length=true then
 g3e (b.getD b_1.Key.toNat dSType,SValue.eta k) >>=fun r=>
 some (r,b,b_1)
 else none
theorem g13w :KC e145:= .m (by kernel_rfl)
theorem gpe :FC e145 gb9:= .fn g13w (.k g9m .n) .n fun _=>by kernel_rfl
def gv(x_:List SValue × Int × Int × List SType × SType) :Option ((Int × List SType × SType) ⊕ (List SType × SType)):=
 match x_ with
 | (s_1,t7_1,t8,b_6,b_7)=>
 if decide (t8 < t7_1)=true then
 if inR t8 s_1.length=true then
 gb9 (SValue.eta (s_1.getD t8.toNat dSValue),b_6,b_7) >>=fun r=>
 if r.1=true then
 some (.inl (t8,r.2.1,r.2.2))
 else
 gv (s_1,t7_1,addI .i64 t8 1,r.2.1,r.2.2)
 else none
 else
 some (.inr (b_6,b_7))
  partial_fixpoint
theorem g81 :LC 192 2 [0] gs8 gv:= .rc gv.partial_correctness (.k gpe .n) .n fun _ _=>by kernel_rfl
def g3x(x_:List SValue × List SType × SType) :Option (Int × List SType × SType):=
 match x_ with
 | (s,b,b_1)=>
 gv (s,(s.length:Int),0,b,b_1) >>=fun o=>
 match o with
 | .inl o_1=>
 some (o_1.1,o_1.2.1,o_1.2.2)
 | .inr o_2=>
 some ((-1),o_2.1,o_2.2)
theorem g109 :KC gs9:= .m (by kernel_rfl)
theorem g8r :FC gs9 g3x:= .fn g109 .n (.k g81 .n) fun _=>by kernel_rfl
end
section
open Go Go.Proofs.YtijpinendaoleaaGreat.Shv
open Tryz
set_option maxRecDepth 100000
def g3n(x_:List SValue × List SType × SType) :Option (Bool × List SType × SType):=
 match x_ with
 | (s,b,b_1)=>
 g3x (s,b,b_1) >>=fun r=>
 some (decide (0≤r.1),r.2.1,r.2.2)
theorem g10a :KC gsa:= .m (by kernel_rfl)
theorem g82 :FC gsa g3n:= .fn g10a (.k g8r .n) .n fun _=>by kernel_rfl
def g9n(x_:SSchema × SType × SValue) :Option (Bool):=
 match x_ with
 | (s,x0,v)=>
 g3n (v.Keys,s.Types,x0) >>=fun r=>
 some r.1
theorem e88_k :KC e88:= .m (by kernel_rfl)
theorem geh :FC e88 g9n:= .fn e88_k (.k g82 .n) .n fun _=>by kernel_rfl
def g3p(x_:Int × Int × SType × SValue × List RelayStep) :Option (List RelayStep):=
 match x_ with
 | (t11_1,t12,b_1,b_2,b_3)=>
 if decide (t12 < t11_1)=true then
 if decide (b_1.Kind=5)=true then
 if inR t12 b_1.Members.length=true then
 if inR t12 b_1.Members.length=true then
 some [(⟨(b_1.Members.getD t12.toNat dSMember).Type_,(b_1.Members.getD t12.toNat dSMember).ID⟩:RelayStep)] >>=fun t40=>
 if room 16 (b_3++t40).length=true then
 g3p (t11_1,addI .i64 t12 1,b_1,SValue.eta b_2,b_3++t40)
 else none
 else none
 else none
 else
 if decide (b_1.Kind=6)=true then
 g3b (b_1,b_2.ID) >>=fun r=>
 if inR r.1 b_1.Members.length=true then
 some [(⟨(b_1.Members.getD r.1.toNat dSMember).Type_,b_2.ID⟩:RelayStep)] >>=fun t61=>
 if room 16 (b_3++t61).length=true then
 g3p (t11_1,addI .i64 t12 1,b_1,SValue.eta b_2,b_3++t61)
 else none
 else none
 else
 some [(⟨b_1.Elem,t12⟩:RelayStep)] >>=fun t22=>
 if room 16 (b_3++t22).length=true then
 g3p (t11_1,addI .i64 t12 1,b_1,SValue.eta b_2,b_3++t22)
 else none
 else
 some b_3
  partial_fixpoint
theorem gmu :LC 89 0 [0] e89_0 g3p:= .rc g3p.partial_correctness (.k gb5 .n) .n fun _ _=>by kernel_rfl
def g4z(x_:SType × SValue) :Option (List RelayStep):=
 match x_ with
 | (x0,v)=>
 g3p ((v.Items.length:Int),0,x0,SValue.eta v,[]) >>=fun o=>
 some o
theorem e89_k :KC e89:= .m (by kernel_rfl)
theorem ga9 :FC e89 g4z:= .fn e89_k .n (.k gmu .n) fun _=>by kernel_rfl
mutual
def g5p(x_:SSchema × Int × SValue × List Int) :Option (List (List Int)):=
 match x_ with
 | (s,t,v,b)=>
 if inR t s.Types.length=true then
 some (s.Types.getD t.toNat dSType) >>=fun x0=>
 some (decide (0 < (v.Rest.length:Int))) >>=fun t21=>
 (if(!t21)=true then g3e (x0,SValue.eta v)else some false) >>=fun r=>
 some (bif t21 then true else r) >>=fun t26=>
 (if(!t26)=true then g9n (s,x0,SValue.eta v)else some false) >>=fun r_1=>
 if(bif t26 then true else r_1)=true then
 some [b] >>=fun t35=>
 if room 24 t35.length=true then
 g4z (x0,SValue.eta v) >>=fun r_2=>
 g49 (b,r_2,(r_2.length:Int),0,s.Types,SValue.eta v,t35) >>=fun o=>
 some o
 else none
 else
 g4z (x0,SValue.eta v) >>=fun r_3=>
 g49 (b,r_3,(r_3.length:Int),0,s.Types,SValue.eta v,[]) >>=fun o_1=>
 some o_1
 else none
  partial_fixpoint
def g49(x_:List Int × List RelayStep × Int × Int × List SType × SValue × List (List Int)) :Option (List (List Int)):=
 match x_ with
 | (path,t39,t40_2,t41,b_3,b_4,b_5)=>
 if decide (t41 < t40_2)=true then
 if inR t41 t39.length=true then
 some (t39.getD t41.toNat dRelayStep) >>=fun x0_1=>
 if inR t41 b_4.Items.length=true then
 g43 8 path >>=fun r_4=>
 some [x0_1.number] >>=fun t59=>
 if room 8 (r_4++t59).length=true then
 g5p ((⟨b_3⟩:SSchema),x0_1.t,SValue.eta (b_4.Items.getD t41.toNat dSValue),r_4++t59) >>=fun r_5=>
 if room 24 (b_5++r_5).length=true then
 g49 (path,t39,t40_2,addI .i64 t41 1,b_3,SValue.eta b_4,b_5++r_5)
 else none
 else none
 else none
 else none
 else
 some b_5
  partial_fixpoint
end
theorem gpf :KC e54_a:= .m (by kernel_rfl)
theorem glf :(∀h r,g5p h=some r→FD e54_a h r)∧(∀h r,g49 h=some r→LD 54 1 [0] ggx h r):=g5p.mutual_partial_correctness (FD e54_a) (LD 54 1 [0] ggx)
 (fun _ h1 _ _ h=>FA e54_a gpf (.k g9m (.k geh (.k ga9 .n))) (.k (LH ggx h1) .n) (.trans (by kernel_rfl) h))
 (fun _ _ h0 h1 _ _ h=>LA ggx h1 (.k g4n (.k (FH e54_a gpf h0) .n)) .n (.trans (by kernel_rfl) h))
theorem goc :FC e54_a g5p:= .of gpf glf.1
def g4i(x_:List Int × List RelayStep × Int × Int × List SType × SValue × List (List Int)) :Option (List (List Int)):=
 match x_ with
 | (path_1,t39,t40_2,t41,b_2,b_3,b_4)=>
 if decide (t41 < t40_2)=true then
 if inR t41 t39.length=true then
 some (t39.getD t41.toNat dRelayStep) >>=fun x0_1=>
 if inR t41 b_3.Items.length=true then
 g43 8 path_1 >>=fun r_4=>
 some [x0_1.number] >>=fun t59=>
 if room 8 (r_4++t59).length=true then
 g5p ((⟨b_2⟩:SSchema),x0_1.t,SValue.eta (b_3.Items.getD t41.toNat dSValue),r_4++t59) >>=fun r_5=>
 if room 24 (b_4++r_5).length=true then
 g4i (path_1,t39,t40_2,addI .i64 t41 1,b_2,SValue.eta b_3,b_4++r_5)
 else none
 else none
 else none
 else none
 else
 some b_4
  partial_fixpoint
theorem gmv :LC 54 0 [0] gue g4i:= .rc g4i.partial_correctness (.k g4n (.k goc .n)) .n fun _ _=>by kernel_rfl
def g9z(x_:SSchema × Int × SValue × List Int) :Option (List (List Int)):=
 match x_ with
 | (s,t,v,path)=>
 if inR t s.Types.length=true then
 some (s.Types.getD t.toNat dSType) >>=fun x0=>
 some (decide (0 < (v.Rest.length:Int))) >>=fun t21=>
 (if(!t21)=true then g3e (x0,SValue.eta v)else some false) >>=fun r=>
 some (bif t21 then true else r) >>=fun t26=>
 (if(!t26)=true then g9n (s,x0,SValue.eta v)else some false) >>=fun r_1=>
 if(bif t26 then true else r_1)=true then
 some [path] >>=fun t35=>
 if room 24 t35.length=true then
 g4z (x0,SValue.eta v) >>=fun r_2=>
 g4i (path,r_2,(r_2.length:Int),0,s.Types,SValue.eta v,t35) >>=fun o=>
 some o
 else none
 else
 g4z (x0,SValue.eta v) >>=fun r_3=>
 g4i (path,r_3,(r_3.length:Int),0,s.Types,SValue.eta v,[]) >>=fun o_1=>
 some o_1
 else none
theorem g11c :KC e54_b:= .m (by kernel_rfl)
theorem gqs :FC e54_b g9z:= .fn g11c (.k g9m (.k geh (.k ga9 .n))) (.k gmv .n) fun _=>by kernel_rfl
def ga0(x_:SSchema × Int × SValue) :Option (List (List Int) × Int):=
 match x_ with
 | (s,t,v)=>
 g5o (s,t,SValue.eta v) >>=fun r=>
 if(!(decide (r=0)))=true then
 some ([],r)
 else
 g9z (s,t,SValue.eta v,[]) >>=fun r_1=>
 some (r_1,0)
theorem gqt :FC e15 ga0:= .fn e15_k (.k gb8 (.k gqs .n)) .n fun _=>by kernel_rfl
def gc8(x_:SSchema × Int × SValue) :Option (Bool):=
 match x_ with
 | (s,t,v)=>
 g39 (s,t,SValue.eta v,true) >>=fun r=>
 some r
theorem e67_k :KC e67:= .m (by kernel_rfl)
theorem gqu :FC e67 gc8:= .fn e67_k (.k gkj .n) .n fun _=>by kernel_rfl
mutual
def g5e(x_:SSchema × Int × SValue × SValue) :Option (SValue):=
 match x_ with
 | (s,t,old,fresh)=>
 if inR t s.Types.length=true then
 some (s.Types.getD t.toNat dSType) >>=fun x0=>
 g43 120 fresh.Items >>=fun r=>
 if decide (x0.Kind=5)=true then
 g43 24 old.Rest >>=fun r_1=>
 g4z (x0,SValue.eta fresh) >>=fun r_2=>
 g3q (r_2,(r_2.length:Int),0,s.Types,SValue.eta old,SValue.eta fresh,0,false,0,[],0,fresh.Kind,fresh.Bool_,fresh.Int_,fresh.Str,fresh.ID,fresh.Keys,r_1,r) >>=fun o=>
 some (⟨o.2.2.2.2.2.1,o.2.2.2.2.2.2.1,o.2.2.2.2.2.2.2.1,o.2.2.2.2.2.2.2.2.1,o.2.2.2.2.2.2.2.2.2.1,o.2.2.2.2.2.2.2.2.2.2.1,o.2.2.2.2.2.2.2.2.2.2.2.2,o.2.2.2.2.2.2.2.2.2.2.2.1⟩:SValue)
 else
 if decide (x0.Kind=6)=true then
 if(bif (!(decide (old.ID=fresh.ID)))then true else decide ((old.Items.length:Int)=0))=true then
 some (⟨fresh.Kind,fresh.Bool_,fresh.Int_,fresh.Str,fresh.ID,fresh.Keys,r,fresh.Rest⟩:SValue)
 else
 g4z (x0,SValue.eta fresh) >>=fun r_3=>
 g3q (r_3,(r_3.length:Int),0,s.Types,SValue.eta old,SValue.eta fresh,0,false,0,[],0,fresh.Kind,fresh.Bool_,fresh.Int_,fresh.Str,fresh.ID,fresh.Keys,fresh.Rest,r) >>=fun o_1=>
 some (⟨o_1.2.2.2.2.2.1,o_1.2.2.2.2.2.2.1,o_1.2.2.2.2.2.2.2.1,o_1.2.2.2.2.2.2.2.2.1,o_1.2.2.2.2.2.2.2.2.2.1,o_1.2.2.2.2.2.2.2.2.2.2.1,o_1.2.2.2.2.2.2.2.2.2.2.2.2,o_1.2.2.2.2.2.2.2.2.2.2.2.1⟩:SValue)
 else
 if decide (x0.Kind=9)=true then
 if decide ((old.Items.length:Int)=0)=true then
 some (⟨fresh.Kind,fresh.Bool_,fresh.Int_,fresh.Str,fresh.ID,fresh.Keys,r,fresh.Rest⟩:SValue)
 else
 g4z (x0,SValue.eta fresh) >>=fun r_4=>
 g3q (r_4,(r_4.length:Int),0,s.Types,SValue.eta old,SValue.eta fresh,0,false,0,[],0,fresh.Kind,fresh.Bool_,fresh.Int_,fresh.Str,fresh.ID,fresh.Keys,fresh.Rest,r) >>=fun o_2=>
 some (⟨o_2.2.2.2.2.2.1,o_2.2.2.2.2.2.2.1,o_2.2.2.2.2.2.2.2.1,o_2.2.2.2.2.2.2.2.2.1,o_2.2.2.2.2.2.2.2.2.2.1,o_2.2.2.2.2.2.2.2.2.2.2.1,o_2.2.2.2.2.2.2.2.2.2.2.2.2,o_2.2.2.2.2.2.2.2.2.2.2.2.1⟩:SValue)
 else
 some (⟨fresh.Kind,fresh.Bool_,fresh.Int_,fresh.Str,fresh.ID,fresh.Keys,r,fresh.Rest⟩:SValue)
 else none
  partial_fixpoint
def g3q(x_:List RelayStep × Int × Int × List SType × SValue × SValue × Int × Bool × Int × List UInt8 × Int × Int × Bool × Int × List UInt8 × Int × List SValue × List SRaw × List SValue) :Option (Int × Bool × Int × List UInt8 × Int × Int × Bool × Int × List UInt8 × Int × List SValue × List SRaw × List SValue):=
 match x_ with
 | (t55,t56_3,t57,b_39,b_40,b_41,b_42,b_43,b_44,b_45,b_46,b_47,b_48,b_49,b_50,b_51,b_52,b_53,b_54)=>
 if decide (t57 < t56_3)=true then
 if inR t57 t55.length=true then
 if inR t57 b_40.Items.length=true then
 if inR t57 b_41.Items.length=true then
 g5e ((⟨b_39⟩:SSchema),(t55.getD t57.toNat dRelayStep).t,SValue.eta (b_40.Items.getD t57.toNat dSValue),SValue.eta (b_41.Items.getD t57.toNat dSValue)) >>=fun r_5=>
 if inR t57 b_54.length=true then
 if decide (t57.toNat < b_54.length)=true then
 g3q (t55,t56_3,addI .i64 t57 1,b_39,SValue.eta b_40,SValue.eta b_41,b_42,b_43,b_44,b_45,b_46,b_47,b_48,b_49,b_50,b_51,b_52,b_53,b_54.set t57.toNat (SValue.eta r_5))
 else none
 else none
 else none
 else none
 else none
 else
 some (b_42,b_43,b_44,b_45,b_46,b_47,b_48,b_49,b_50,b_51,b_52,b_53,b_54)
  partial_fixpoint
end
theorem e68_k :KC e68:= .m (by kernel_rfl)
theorem god :(∀h r,g5e h=some r→FD e68 h r)∧(∀h r,g3q h=some r→LD 68 0 [0] e68_0 h r):=g5e.mutual_partial_correctness (FD e68) (LD 68 0 [0] e68_0)
 (fun _ h1 _ _ h=>FA e68 e68_k (.k g46 (.k g5a (.k ga9 .n))) (.k (LH e68_0 h1) .n) (.trans (by kernel_rfl) h))
 (fun _ _ h0 h1 _ _ h=>LA e68_0 h1 (.k (FH e68 e68_k h0) .n) .n (.trans (by kernel_rfl) h))
theorem gqv :FC e68 g5e:= .of e68_k god.1
def gc9(x_:SSchema × Int × SValue × SValue) :Option (SValue × Int):=
 match x_ with
 | (s,t,old,new)=>
 g5o (s,t,SValue.eta old) >>=fun r=>
 if(!(decide (r=0)))=true then
 some ((⟨0,false,0,[],0,[],[],[]⟩:SValue),r)
 else
 gc8 (s,t,SValue.eta new) >>=fun r_1=>
 if(!r_1)=true then
 some ((⟨0,false,0,[],0,[],[],[]⟩:SValue),1)
 else
 g5e (s,t,SValue.eta old,SValue.eta new) >>=fun r_2=>
 some (SValue.eta r_2,0)
theorem gqw :FC e27 gc9:= .fn e27_k (.k gb8 (.k gqu (.k gqv .n))) .n fun _=>by kernel_rfl
end
section
open Go Go.Proofs.YtijpinendaoleaaGreat.Shv
open Tryz
set_option maxRecDepth 100000
def g2d(t:SType) :Option (SType):=
 if decide (t.Kind=1)=true then
 some (⟨t.Kind,[],0,0,0,[],[],0,0,false⟩:SType)
 else
 if decide (t.Kind=2)=true then
 some (⟨t.Kind,[],t.Low,t.High,0,[],[],0,0,false⟩:SType)
 else
 if decide (t.Kind=3)=true then
 some (⟨t.Kind,[],0,0,t.Max,[],[],0,0,false⟩:SType)
 else
 if decide (t.Kind=4)=true then
 some (⟨t.Kind,t.Name,0,0,0,t.Symbols,[],0,0,t.Open⟩:SType)
 else
 if decide (t.Kind=5)=true then
 some (⟨t.Kind,t.Name,0,0,0,[],t.Members,0,0,false⟩:SType)
 else
 if decide (t.Kind=6)=true then
 some (⟨t.Kind,t.Name,0,0,0,[],t.Members,0,0,t.Open⟩:SType)
 else
 if decide (t.Kind=7)=true then
 some (⟨t.Kind,[],0,0,t.Max,[],[],0,t.Elem,false⟩:SType)
 else
 if decide (t.Kind=8)=true then
 some (⟨t.Kind,[],0,0,t.Max,[],[],t.Key,t.Elem,false⟩:SType)
 else
 some (⟨t.Kind,[],0,0,0,[],[],0,t.Elem,false⟩:SType)
theorem g13x :KC e115:= .m (by kernel_rfl)
theorem gj3 :FC e115 g2d:= .fn g13x .n .n fun _=>by kernel_rfl
def g1t(x_:Int × SValue × SValue) :Option ((Bool) ⊕ (SValue × SValue)):=
 match x_ with
 | (i,b_3,b_4)=>
 if decide (i < (b_3.Rest.length:Int))=true then
 if inR i b_3.Rest.length=true then
 some (b_3.Rest.getD i.toNat dSRaw) >>=fun x0=>
 if inR i b_4.Rest.length=true then
 some (b_4.Rest.getD i.toNat dSRaw) >>=fun x0_1=>
 if(!(eqI x0.ID x0_1.ID && (eqS x0.Data x0_1.Data && true)))=true then
 some (.inl false)
 else
 g1t (addI .i64 i 1,SValue.eta b_3,SValue.eta b_4)
 else none
 else none
 else
 some (.inr (SValue.eta b_3,SValue.eta b_4))
  partial_fixpoint
theorem gcs :LC 65 0 [0] e65_0 g1t:= .rc g1t.partial_correctness .n .n fun _ _=>by kernel_rfl
mutual
def g1o(x_:SValue × SValue) :Option (Bool):=
 match x_ with
 | (a,b)=>
 if(bif bif bif bif bif (!(decide (a.Kind=b.Kind)))then true else(!(eqB a.Bool_ b.Bool_))then true else(!(decide (a.Int_=b.Int_)))then true else(!(decide (a.Str=b.Str)))then true else(!(decide (a.ID=b.ID)))then true else(!(decide ((a.Rest.length:Int)=(b.Rest.length:Int)))))=true then
 some false
 else
 g1t (0,(⟨a.Kind,a.Bool_,a.Int_,a.Str,a.ID,a.Keys,a.Items,a.Rest⟩:SValue),(⟨b.Kind,b.Bool_,b.Int_,b.Str,b.ID,b.Keys,b.Items,b.Rest⟩:SValue)) >>=fun o=>
 match o with
 | .inl o_1=>
 some o_1
 | .inr o_2=>
 g50 (o_2.1.Keys,o_2.2.Keys) >>=fun r=>
 (if r=true then g50 (o_2.1.Items,o_2.2.Items)else some false) >>=fun r_1=>
 some (bif r then r_1 else false)
  partial_fixpoint
def g50(x_:List SValue × List SValue) :Option (Bool):=
 match x_ with
 | (a,b)=>
 if(!(decide ((a.length:Int)=(b.length:Int))))=true then
 some false
 else
 g35 (a,b,0) >>=fun o=>
 match o with
 | .inl o_1=>
 some o_1
 | .inr o_2=>
 some true
  partial_fixpoint
def g35(x_:List SValue × List SValue × Int) :Option ((Bool) ⊕ (Unit)):=
 match x_ with
 | (a_1,b_1,i)=>
 if decide (i < (a_1.length:Int))=true then
 if inR i a_1.length=true then
 if inR i b_1.length=true then
 g1o (SValue.eta (a_1.getD i.toNat dSValue),SValue.eta (b_1.getD i.toNat dSValue)) >>=fun r=>
 if(!r)=true then
 some (.inl false)
 else
 g35 (a_1,b_1,addI .i64 i 1)
 else none
 else none
 else
 some (.inr ())
  partial_fixpoint
end
theorem e65_k :KC e65:= .m (by kernel_rfl)
theorem gyk :KC e105:= .m (by kernel_rfl)
theorem gdb :(∀h r,g1o h=some r→FD e65 h r)∧(∀h r,g50 h=some r→FD e105 h r)∧(∀h r,g35 h=some r→LD 105 0 [0] gke h r):=g1o.mutual_partial_correctness (FD e65) (FD e105) (LD 105 0 [0] gke)
 (fun _ h1 _ _ h=>FA e65 e65_k (.k (FH e105 gyk h1) .n) (.k gcs .n) (.trans (by kernel_rfl) h))
 (fun _ h2 _ _ h=>FA e105 gyk .n (.k (LH gke h2) .n) (.trans (by kernel_rfl) h))
 (fun _ _ h0 h2 _ _ h=>LA gke h2 (.k (FH e65 e65_k h0) .n) .n (.trans (by kernel_rfl) h))
theorem g74 :FC e65 g1o:= .of e65_k gdb.1
def g51(x_:SMember × SMember) :Option (Bool):=
 match x_ with
 | (a,b)=>
 some (bif bif bif bif decide (a.ID=b.ID)then decide (a.Name=b.Name)else false then decide (a.Type_=b.Type_)else false then eqB a.Critical b.Critical else false then eqB a.HasDefault b.HasDefault else false) >>=fun t37=>
 (if t37=true then g1o ((⟨a.Default.Kind,a.Default.Bool_,a.Default.Int_,a.Default.Str,a.Default.ID,a.Default.Keys,a.Default.Items,a.Default.Rest⟩:SValue),(⟨b.Default.Kind,b.Default.Bool_,b.Default.Int_,b.Default.Str,b.Default.ID,b.Default.Keys,b.Default.Items,b.Default.Rest⟩:SValue))else some false) >>=fun r=>
 some (bif t37 then r else false)
theorem g13y :KC e152:= .m (by kernel_rfl)
theorem gei :FC e152 g51:= .fn g13y (.k g74 .n) .n fun _=>by kernel_rfl
def g1y(x_:Int × SType × SType) :Option ((Bool) ⊕ (SType × SType)):=
 match x_ with
 | (i,b_3,b_4)=>
 if decide (i < (b_3.Symbols.length:Int))=true then
 if inR i b_3.Symbols.length=true then
 some (b_3.Symbols.getD i.toNat dSSymbol) >>=fun x0=>
 if inR i b_4.Symbols.length=true then
 some (b_4.Symbols.getD i.toNat dSSymbol) >>=fun x0_1=>
 if(!(eqI x0.ID x0_1.ID && (eqS x0.Name x0_1.Name && true)))=true then
 some (.inl false)
 else
 g1y (addI .i64 i 1,b_3,b_4)
 else none
 else none
 else
 some (.inr (b_3,b_4))
  partial_fixpoint
theorem gdc :LC 114 0 [0] gy8 g1y:= .rc g1y.partial_correctness .n .n fun _ _=>by kernel_rfl
def g1z(x_:Int × SType × SType) :Option ((Bool) ⊕ (Unit)):=
 match x_ with
 | (i_1,b_5,b_6)=>
 if decide (i_1 < (b_5.Members.length:Int))=true then
 if inR i_1 b_5.Members.length=true then
 some (b_5.Members.getD i_1.toNat dSMember) >>=fun x0_2=>
 if inR i_1 b_6.Members.length=true then
 some (b_6.Members.getD i_1.toNat dSMember) >>=fun x0_3=>
 g51 ((⟨x0_2.ID,x0_2.Name,x0_2.Type_,x0_2.Critical,x0_2.HasDefault,SValue.eta x0_2.Default⟩:SMember),(⟨x0_3.ID,x0_3.Name,x0_3.Type_,x0_3.Critical,x0_3.HasDefault,SValue.eta x0_3.Default⟩:SMember)) >>=fun r=>
 if(!r)=true then
 some (.inl false)
 else
 g1z (addI .i64 i_1 1,b_5,b_6)
 else none
 else none
 else
 some (.inr ())
  partial_fixpoint
theorem gdd :LC 114 0 [1] gy9 g1z:= .rc g1z.partial_correctness (.k gei .n) .n fun _ _=>by kernel_rfl
def g6i(x_:SType × SType) :Option (Bool):=
 match x_ with
 | (a,b)=>
 if(bif bif bif bif bif bif bif bif bif (!(decide (a.Kind=b.Kind)))then true else(!(decide (a.Name=b.Name)))then true else(!(decide (a.Low=b.Low)))then true else(!(decide (a.High=b.High)))then true else(!(decide (a.Max=b.Max)))then true else(!(decide (a.Key=b.Key)))then true else(!(decide (a.Elem=b.Elem)))then true else(!(eqB a.Open b.Open))then true else(!(decide ((a.Symbols.length:Int)=(b.Symbols.length:Int))))then true else(!(decide ((a.Members.length:Int)=(b.Members.length:Int)))))=true then
 some false
 else
 g1y (0,(⟨a.Kind,a.Name,a.Low,a.High,a.Max,a.Symbols,a.Members,a.Key,a.Elem,a.Open⟩:SType),(⟨b.Kind,b.Name,b.Low,b.High,b.Max,b.Symbols,b.Members,b.Key,b.Elem,b.Open⟩:SType)) >>=fun o=>
 match o with
 | .inl o_1=>
 some o_1
 | .inr o_2=>
 g1z (0,o_2.1,o_2.2) >>=fun o_3=>
 match o_3 with
 | .inl o_4=>
 some o_4
 | .inr o_5=>
 some true
theorem g13z :KC e114:= .m (by kernel_rfl)
theorem gg1 :FC e114 g6i:= .fn g13z .n (.k gdc (.k gdd .n)) fun _=>by kernel_rfl
def g66(b:Int) :Option (Bool):=
 some (bif bif bif decide (97≤b)then decide (b≤122)else false then true else bif decide (65≤b)then decide (b≤90)else false then true else decide (b=95))
theorem g140 :KC e153:= .m (by kernel_rfl)
theorem gba :FC e153 g66:= .fn g140 .n .n fun _=>by kernel_rfl
def g7o(b:Int) :Option (Bool):=
 some (bif decide (48≤b)then decide (b≤57)else false)
theorem g141 :KC e154:= .m (by kernel_rfl)
theorem gj4 :FC e154 g7o:= .fn g141 .n .n fun _=>by kernel_rfl
def g29(x_:List UInt8 × Int) :Option ((Bool) ⊕ (Unit)):=
 match x_ with
 | (s_1,i)=>
 if decide (i < (s_1.length:Int))=true then
 if inR i s_1.length=true then
 g66 (g6v s_1 i) >>=fun r_1=>
 some (!r_1) >>=fun t27=>
 if(inR i s_1.length || (!t27))=true then
 (if t27=true then g7o (g6v s_1 i)else some false) >>=fun r_2=>
 if(bif t27 then(!r_2)else false)=true then
 some (.inl false)
 else
 g29 (s_1,addI .i64 i 1)
 else none
 else none
 else
 some (.inr ())
  partial_fixpoint
theorem gez :LC 116 0 [0] gya g29:= .rc g29.partial_correctness (.k gba (.k gj4 .n)) .n fun _ _=>by kernel_rfl
def g4a(s:List UInt8) :Option (Bool):=
 some (bif decide (s=[])then true else decide (24 < (s.length:Int))) >>=fun t10=>
 if(inR 0 s.length || (!(!t10)))=true then
 (if(!t10)=true then g66 (g6v s 0)else some false) >>=fun r=>
 if(bif t10 then true else(!r))=true then
 some false
 else
 g29 (s,0) >>=fun o=>
 match o with
 | .inl o_1=>
 some o_1
 | .inr o_2=>
 some true
 else none
theorem g142 :KC e116:= .m (by kernel_rfl)
theorem g8d :FC e116 g4a:= .fn g142 (.k gba .n) (.k gez .n) fun _=>by kernel_rfl
def g83(x_:Int × Int) :Option (Bool):=
 match x_ with
 | (before,n)=>
 some (bif bif decide (before < n)then decide (1≤n)else false then decide (n≤1000)else false)
theorem g143 :KC e155:= .m (by kernel_rfl)
theorem gej :FC e155 g83:= .fn g143 .n .n fun _=>by kernel_rfl
end
section
open Go Go.Proofs.YtijpinendaoleaaGreat.Shv
open Tryz
set_option maxRecDepth 100000
def g1k(x_:List SSymbol × Int × Int) :Option ((Bool) ⊕ (List SSymbol × Int)):=
 match x_ with
 | (l_4,i_2,k)=>
 if decide (k < i_2)=true then
 if inR k l_4.length=true then
 if inR i_2 l_4.length=true then
 if decide ((l_4.getD k.toNat dSSymbol).Name=(l_4.getD i_2.toNat dSSymbol).Name)=true then
 some (.inl false)
 else
 g1k (l_4,i_2,addI .i64 k 1)
 else none
 else none
 else
 some (.inr (l_4,i_2))
  partial_fixpoint
theorem gct :LC 117 0 [0,0] gsb g1k:= .rc g1k.partial_correctness .n .n fun _ _=>by kernel_rfl
def g24(x_:List SSymbol × Int × Int) :Option ((Bool) ⊕ (List SSymbol)):=
 match x_ with
 | (l_2,before,i)=>
 if decide (i < (l_2.length:Int))=true then
 if inR i l_2.length=true then
 g83 (before,(l_2.getD i.toNat dSSymbol).ID) >>=fun r=>
 some (!r) >>=fun t19=>
 if(inR i l_2.length || (!(!t19)))=true then
 (if(!t19)=true then g4a (l_2.getD i.toNat dSSymbol).Name else some false) >>=fun r_1=>
 if(bif t19 then true else(!r_1))=true then
 some (.inl false)
 else
 g1k (l_2,i,0) >>=fun o_3=>
 match o_3 with
 | .inl o_4=>
 some (.inl o_4)
 | .inr o_5=>
 if inR o_5.2 o_5.1.length=true then
 g24 (o_5.1,(o_5.1.getD o_5.2.toNat dSSymbol).ID,addI .i64 o_5.2 1)
 else none
 else none
 else none
 else
 some (.inr l_2)
  partial_fixpoint
theorem gek :LC 117 0 [0] gyb g24:= .rc g24.partial_correctness (.k gej (.k g8d .n)) (.k gct .n) fun _ _=>by kernel_rfl
def g5t(l:List SSymbol) :Option (Bool):=
 g24 (l,0,0) >>=fun o=>
 match o with
 | .inl o_1=>
 some o_1
 | .inr o_2=>
 some (bif decide (1≤(o_2.length:Int))then decide ((o_2.length:Int)≤16)else false)
theorem g144 :KC e117:= .m (by kernel_rfl)
theorem gh4 :FC e117 g5t:= .fn g144 .n (.k gek .n) fun _=>by kernel_rfl
def g1l(x_:List SMember × Bool × Int × Int × SMember) :Option ((Bool) ⊕ (List SMember × Bool × Int × SMember)):=
 match x_ with
 | (l_4,record_4,i_2,k,b_1)=>
 if decide (k < i_2)=true then
 if inR k l_4.length=true then
 if decide ((l_4.getD k.toNat dSMember).Name=b_1.Name)=true then
 some (.inl false)
 else
 g1l (l_4,record_4,i_2,addI .i64 k 1,(⟨b_1.ID,b_1.Name,b_1.Type_,b_1.Critical,b_1.HasDefault,SValue.eta b_1.Default⟩:SMember))
 else none
 else
 some (.inr (l_4,record_4,i_2,(⟨b_1.ID,b_1.Name,b_1.Type_,b_1.Critical,b_1.HasDefault,SValue.eta b_1.Default⟩:SMember)))
  partial_fixpoint
theorem gcu :LC 118 0 [0,0] gsc g1l:= .rc g1l.partial_correctness .n .n fun _ _=>by kernel_rfl
def g25(x_:List SMember × Bool × Int × Int) :Option ((Bool) ⊕ (List SMember × Bool)):=
 match x_ with
 | (l_2,record_2,before,i)=>
 if decide (i < (l_2.length:Int))=true then
 if inR i l_2.length=true then
 some (l_2.getD i.toNat dSMember) >>=fun x0=>
 g83 (before,x0.ID) >>=fun r=>
 some (!r) >>=fun t23=>
 (if(!t23)=true then g4a x0.Name else some false) >>=fun r_1=>
 if(bif bif bif t23 then true else(!r_1)then true else bif x0.Critical then x0.HasDefault else false then true else bif (!record_2)then bif x0.Critical then true else x0.HasDefault else false)=true then
 some (.inl false)
 else
 some (!x0.HasDefault) >>=fun t52=>
 (if t52=true then g1o (SValue.eta x0.Default,(⟨0,false,0,[],0,[],[],[]⟩:SValue))else some false) >>=fun r_2=>
 if(bif t52 then(!r_2)else false)=true then
 some (.inl false)
 else
 g1l (l_2,record_2,i,0,(⟨x0.ID,x0.Name,x0.Type_,x0.Critical,x0.HasDefault,SValue.eta x0.Default⟩:SMember)) >>=fun o_3=>
 match o_3 with
 | .inl o_4=>
 some (.inl o_4)
 | .inr o_5=>
 g25 (o_5.1,o_5.2.1,o_5.2.2.2.ID,addI .i64 o_5.2.2.1 1)
 else none
 else
 some (.inr (l_2,record_2))
  partial_fixpoint
theorem gel :LC 118 0 [0] gyc g25:= .rc g25.partial_correctness (.k gej (.k g8d (.k g74 .n))) (.k gcu .n) fun _ _=>by kernel_rfl
def g4u(x_:List SMember × Bool) :Option (Bool):=
 match x_ with
 | (l,record)=>
 g25 (l,record,0,0) >>=fun o=>
 match o with
 | .inl o_1=>
 some o_1
 | .inr o_2=>
 some (bif decide ((o_2.1.length:Int)≤16)then bif o_2.2 then true else decide (1≤(o_2.1.length:Int))else false)
theorem g145 :KC e118:= .m (by kernel_rfl)
theorem gh5 :FC e118 g4u:= .fn g145 .n (.k gel .n) fun _=>by kernel_rfl
def gz(t:SType) :Option (Bool):=
 some (bif decide (t.Kind < 1)then true else decide (9 < t.Kind)) >>=fun t10=>
 (if(!t10)=true then g2d t else some dSType) >>=fun r=>
 (if(!t10)=true then g6i (t,r)else some false) >>=fun r_1=>
 some (bif t10 then true else(!r_1)) >>=fun t17=>
 (if(!t17)=true then g1g t.Kind else some false) >>=fun r_2=>
 (if((!t17) && r_2)=true then g4a t.Name else some false) >>=fun r_3=>
 if(bif t17 then true else bif r_2 then(!r_3)else false)=true then
 some false
 else
 if decide (t.Kind=2)=true then
 some (decide (t.Low≤t.High))
 else
 if decide (t.Kind=3)=true then
 some (bif decide (0≤t.Max)then decide (t.Max≤200)else false)
 else
 if decide (t.Kind=4)=true then
 g5t t.Symbols >>=fun r_4=>
 some r_4
 else
 some (decide (t.Kind=5)) >>=fun t54=>
 if t54=true then
 if t54=true then
 g4u (t.Members,decide (t.Kind=5)) >>=fun r_5=>
 some r_5
 else
 some (decide (t.Kind=7)) >>=fun t63=>
 if t63=true then
 if t63=true then
 some (bif decide (0≤t.Max)then decide (t.Max≤50)else false)
 else
 some true
 else
 if decide (t.Kind=8)=true then
 some (bif decide (0≤t.Max)then decide (t.Max≤50)else false)
 else
 some true
 else
 if decide (t.Kind=6)=true then
 g4u (t.Members,decide (t.Kind=5)) >>=fun r_6=>
 some r_6
 else
 some (decide (t.Kind=7)) >>=fun t63_1=>
 if t63_1=true then
 if t63_1=true then
 some (bif decide (0≤t.Max)then decide (t.Max≤50)else false)
 else
 some true
 else
 if decide (t.Kind=8)=true then
 some (bif decide (0≤t.Max)then decide (t.Max≤50)else false)
 else
 some true
theorem e73_k :KC e73:= .m (by kernel_rfl)
theorem glg :FC e73 gz:= .fn e73_k (.k gj3 (.k gg1 (.k g8w (.k g8d (.k gh4 (.k gh5 .n)))))) .n fun _=>by kernel_rfl
def g36(x_:Int × SType × List Int) :Option (SType × List Int):=
 match x_ with
 | (i,b_2,b_3)=>
 if decide (i < (b_2.Members.length:Int))=true then
 if inR i b_2.Members.length=true then
 some [(b_2.Members.getD i.toNat dSMember).Type_] >>=fun t19=>
 if room 8 (b_3++t19).length=true then
 g36 (addI .i64 i 1,b_2,b_3++t19)
 else none
 else none
 else
 some (b_2,b_3)
  partial_fixpoint
theorem gh6 :LC 74 0 [0] e74_0 g36:= .rc g36.partial_correctness .n .n fun _ _=>by kernel_rfl
def g8e(t:SType) :Option (List Int):=
 g36 (0,t,[]) >>=fun o=>
 if decide (o.1.Kind=8)=true then
 some [o.1.Key] >>=fun t27=>
 if room 8 (o.2++t27).length=true then
 some (o.2++t27) >>=fun l=>
 if(bif bif decide (o.1.Kind=7)then true else decide (o.1.Kind=8)then true else decide (o.1.Kind=9))=true then
 some [o.1.Elem] >>=fun t45=>
 if room 8 (l++t45).length=true then
 some (l++t45)
 else none
 else
 some l
 else none
 else
 if(bif bif decide (o.1.Kind=7)then true else decide (o.1.Kind=8)then true else decide (o.1.Kind=9))=true then
 some [o.1.Elem] >>=fun t45_1=>
 if room 8 (o.2++t45_1).length=true then
 some (o.2++t45_1)
 else none
 else
 some o.2
theorem e74_k :KC e74:= .m (by kernel_rfl)
theorem gkk :FC e74 g8e:= .fn e74_k .n (.k gh6 .n) fun _=>by kernel_rfl
def g1r(x_:Int × Int × List SType × Int × List UInt8 × Int × Int × Int × List SSymbol × List SMember × Int × Int × Bool) :Option ((Int) ⊕ (Int × List SType × Int × List UInt8 × Int × Int × Int × List SSymbol × List SMember × Int × Int × Bool)):=
 match x_ with
 | (i_3,k,b_23,b_24,b_25,b_26,b_27,b_28,b_29,b_30,b_31,b_32,b_33)=>
 if decide (k < i_3)=true then
 g1g b_24 >>=fun r_3=>
 if(inR k b_23.length || (!r_3))=true then
 if(bif r_3 then decide ((b_23.getD k.toNat dSType).Name=b_25)else false)=true then
 some (.inl 1)
 else
 g1r (i_3,addI .i64 k 1,b_23,b_24,b_25,b_26,b_27,b_28,b_29,b_30,b_31,b_32,b_33)
 else none
 else
 some (.inr (i_3,b_23,b_24,b_25,b_26,b_27,b_28,b_29,b_30,b_31,b_32,b_33))
  partial_fixpoint
theorem gem :LC 36 0 [0,0] guf g1r:= .rc g1r.partial_correctness (.k g8w .n) .n fun _ _=>by kernel_rfl
def g2k(x_:Int × List Int × Int × List SType × Int × List UInt8 × Int × Int × Int × List SSymbol × List SMember × Int × Int × Bool) :Option ((Int) ⊕ (Int × List SType × Int × List UInt8 × Int × Int × Int × List SSymbol × List SMember × Int × Int × Bool)):=
 match x_ with
 | (i_4,l,k_1,b_34,b_35,b_36,b_37,b_38,b_39,b_40,b_41,b_42,b_43,b_44)=>
 if decide (k_1 < (l.length:Int))=true then
 if inR k_1 l.length=true then
 some (decide (l.getD k_1.toNat 0 < 0)) >>=fun t58=>
 if(inR k_1 l.length || (!(!t58)))=true then
 if(bif t58 then true else decide ((b_34.length:Int)≤l.getD k_1.toNat 0))=true then
 some (.inl 4)
 else
 g2k (i_4,l,addI .i64 k_1 1,b_34,b_35,b_36,b_37,b_38,b_39,b_40,b_41,b_42,b_43,b_44)
 else none
 else none
 else
 some (.inr (i_4,b_34,b_35,b_36,b_37,b_38,b_39,b_40,b_41,b_42,b_43,b_44))
  partial_fixpoint
theorem gen :LC 36 0 [1,0] gug g2k:= .rc g2k.partial_correctness .n .n fun _ _=>by kernel_rfl
def g2f(x_:Int × List SType) :Option ((Int) ⊕ (Unit)):=
 match x_ with
 | (i,b)=>
 if decide (i < (b.length:Int))=true then
 if inR i b.length=true then
 some (b.getD i.toNat dSType) >>=fun x0=>
 gz x0 >>=fun r=>
 if(!r)=true then
 some (.inl 1)
 else
 g1r (i,0,b,x0.Kind,x0.Name,x0.Low,x0.High,x0.Max,x0.Symbols,x0.Members,x0.Key,x0.Elem,x0.Open) >>=fun o_3=>
 match o_3 with
 | .inl o_4=>
 some (.inl o_4)
 | .inr o_5=>
 g8e (⟨o_5.2.2.1,o_5.2.2.2.1,o_5.2.2.2.2.1,o_5.2.2.2.2.2.1,o_5.2.2.2.2.2.2.1,o_5.2.2.2.2.2.2.2.1,o_5.2.2.2.2.2.2.2.2.1,o_5.2.2.2.2.2.2.2.2.2.1,o_5.2.2.2.2.2.2.2.2.2.2.1,o_5.2.2.2.2.2.2.2.2.2.2.2⟩:SType) >>=fun r_1=>
 g2k (o_5.1,r_1,0,o_5.2.1,o_5.2.2.1,o_5.2.2.2.1,o_5.2.2.2.2.1,o_5.2.2.2.2.2.1,o_5.2.2.2.2.2.2.1,o_5.2.2.2.2.2.2.2.1,o_5.2.2.2.2.2.2.2.2.1,o_5.2.2.2.2.2.2.2.2.2.1,o_5.2.2.2.2.2.2.2.2.2.2.1,o_5.2.2.2.2.2.2.2.2.2.2.2) >>=fun o_6=>
 match o_6 with
 | .inl o_7=>
 some (.inl o_7)
 | .inr o_8=>
 some (decide (o_8.2.2.1=8)) >>=fun t71=>
 if(inR o_8.2.2.2.2.2.2.2.2.2.1 o_8.2.1.length || (!t71))=true then
 (if t71=true then g5r (o_8.2.1.getD o_8.2.2.2.2.2.2.2.2.2.1.toNat dSType).Kind else some false) >>=fun r_2=>
 if(bif t71 then(!r_2)else false)=true then
 some (.inl 1)
 else
 g2f (addI .i64 o_8.1 1,o_8.2.1)
 else none
 else none
 else
 some (.inr ())
  partial_fixpoint
theorem gg2 :LC 36 0 [0] e36_0 g2f:= .rc g2f.partial_correctness (.k glg (.k gkk (.k gai .n))) (.k gem (.k gen .n)) fun _ _=>by kernel_rfl
def g5l(s:SSchema) :Option (Int):=
 if decide (32 < (s.Types.length:Int))=true then
 some 3
 else
 g2f (0,s.Types) >>=fun o=>
 match o with
 | .inl o_1=>
 some o_1
 | .inr o_2=>
 some 0
theorem e36_k :KC e36:= .m (by kernel_rfl)
theorem gj5 :FC e36 g5l:= .fn e36_k .n (.k gg2 .n) fun _=>by kernel_rfl
end
section
open Go Go.Proofs.YtijpinendaoleaaGreat.Shv
open Tryz
set_option maxRecDepth 100000
def g1x(x_:Int × Int × SType) :Option ((Int × Bool) ⊕ (Unit)):=
 match x_ with
 | (id_1,i,b)=>
 if decide (i < (b.Symbols.length:Int))=true then
 if inR i b.Symbols.length=true then
 if decide ((b.Symbols.getD i.toNat dSSymbol).ID=id_1)=true then
 some (.inl (i,true))
 else
 g1x (id_1,addI .i64 i 1,b)
 else none
 else
 some (.inr ())
  partial_fixpoint
theorem gf0 :LC 92 0 [0] e92_0 g1x:= .rc g1x.partial_correctness .n .n fun _ _=>by kernel_rfl
def g3j(x_:SType × Int) :Option (Int × Bool):=
 match x_ with
 | (t,id)=>
 g1x (id,0,t) >>=fun o=>
 match o with
 | .inl o_1=>
 some (o_1.1,o_1.2)
 | .inr o_2=>
 some (0,false)
theorem e92_k :KC e92:= .m (by kernel_rfl)
theorem gbb :FC e92 g3j:= .fn e92_k .n (.k gf0 .n) fun _=>by kernel_rfl
def g2a(x_:Int × Int × SType) :Option ((Int × Bool) ⊕ (Unit)):=
 match x_ with
 | (id_1,i,b)=>
 if decide (i < (b.Members.length:Int))=true then
 if inR i b.Members.length=true then
 if decide ((b.Members.getD i.toNat dSMember).ID=id_1)=true then
 some (.inl (i,true))
 else
 g2a (id_1,addI .i64 i 1,b)
 else none
 else
 some (.inr ())
  partial_fixpoint
theorem gf1 :LC 91 0 [0] e91_0 g2a:= .rc g2a.partial_correctness .n .n fun _ _=>by kernel_rfl
def g1c(x_:SType × Int) :Option (Int × Bool):=
 match x_ with
 | (t,id)=>
 g2a (id,0,t) >>=fun o=>
 match o with
 | .inl o_1=>
 some (o_1.1,o_1.2)
 | .inr o_2=>
 some (0,false)
theorem e91_k :KC e91:= .m (by kernel_rfl)
theorem g8f :FC e91 g1c:= .fn e91_k .n (.k gf1 .n) fun _=>by kernel_rfl
end
section
open Go Go.Proofs.YtijpinendaoleaaGreat.Shv
open Tryz
set_option maxRecDepth 100000
def g67(n:Int) :Option (Int):=
 if decide (0≤n)=true then
 some (mulI .u64 2 (wrp .u64 n))
 else
 some (addI .u64 (mulI .u64 2 (wrp .u64 (subI .i64 0 (addI .i64 n 1)))) 1)
theorem e99_k :KC e99:= .m (by kernel_rfl)
theorem gib :FC e99 g67:= .fn e99_k .n .n fun _=>by kernel_rfl
def g1n(x_:Bool × Bool) :Option (Int):=
 match x_ with
 | (less,equal)=>
 if equal=true then
 some 0
 else
 if less=true then
 some (-1)
 else
 some 1
theorem g146 :KC e146:= .m (by kernel_rfl)
theorem gj6 :FC e146 g1n:= .fn g146 .n .n fun _=>by kernel_rfl
def g2s(x_:SValue × SValue) :Option (Int):=
 match x_ with
 | (a,b)=>
 if(!(decide (a.Kind=b.Kind)))=true then
 some 0
 else
 if decide (a.Kind=1)=true then
 g1n (b.Bool_,eqB a.Bool_ b.Bool_) >>=fun r=>
 some r
 else
 if decide (a.Kind=2)=true then
 g67 a.Int_ >>=fun r_1=>
 g67 b.Int_ >>=fun r_2=>
 g1n (decide (r_1 < r_2),decide (a.Int_=b.Int_)) >>=fun r_3=>
 some r_3
 else
 if decide (a.Kind=3)=true then
 if(!(decide ((a.Str.length:Int)=(b.Str.length:Int))))=true then
 g1n (decide ((a.Str.length:Int) < (b.Str.length:Int)),false) >>=fun r_4=>
 some r_4
 else
 g1n (Op.bytesLess a.Str b.Str,decide (a.Str=b.Str)) >>=fun r_5=>
 some r_5
 else
 if decide (a.Kind=4)=true then
 g1n (decide (a.ID < b.ID),decide (a.ID=b.ID)) >>=fun r_6=>
 some r_6
 else
 some 0
theorem e97_k :KC e97:= .m (by kernel_rfl)
theorem g84 :FC e97 g2s:= .fn e97_k (.k gj6 (.k gib .n)) .n fun _=>by kernel_rfl
end
section
open Go Go.Proofs.YtijpinendaoleaaGreat.Shv
open Tryz
set_option maxRecDepth 100000
def g57(v:SValue) :Option (Bool):=
 some (bif bif bif bif bif bif bif decide (v.Kind=1)then true else(!v.Bool_)then bif decide (v.Kind=2)then true else decide (v.Int_=0)else false then bif decide (v.Kind=3)then true else decide (v.Str=[])else false then bif bif decide (v.Kind=4)then true else decide (v.Kind=6)then true else decide (v.ID=0)else false then bif decide (v.Kind=8)then true else decide ((v.Keys.length:Int)=0)else false then bif decide (5≤v.Kind)then true else decide ((v.Items.length:Int)=0)else false then bif bif decide (v.Kind=5)then true else decide (v.Kind=6)then true else decide ((v.Rest.length:Int)=0)else false)
theorem e93_k :KC e93:= .m (by kernel_rfl)
theorem gkl :FC e93 g57:= .fn e93_k .n .n fun _=>by kernel_rfl
def g16(x_:Int × Bool) :Option (Bool):=
 match x_ with
 | (n,known)=>
 some (bif bif (!known)then decide (1≤n)else false then decide (n≤1000)else false)
theorem e94_k :KC e94:= .m (by kernel_rfl)
theorem geo :FC e94 g16:= .fn e94_k .n .n fun _=>by kernel_rfl
def g17(x_:List SRaw × Int × SType) :Option ((Bool) ⊕ (Unit)):=
 match x_ with
 | (l_1,i,b)=>
 if decide (i < (l_1.length:Int))=true then
 if inR i l_1.length=true then
 g1c (b,(l_1.getD i.toNat dSRaw).ID) >>=fun r=>
 if inR i l_1.length=true then
 g16 ((l_1.getD i.toNat dSRaw).ID,r.2) >>=fun r_3=>
 some (!r_3) >>=fun t31=>
 some (decide (0 < i)) >>=fun t34=>
 if(inR i l_1.length || (!((!t31) && t34)))=true then
 some (subI .i64 i 1) >>=fun t43=>
 if(inR t43 l_1.length || (!((!t31) && t34)))=true then
 if(bif t31 then true else bif t34 then decide ((l_1.getD i.toNat dSRaw).ID≤(l_1.getD t43.toNat dSRaw).ID)else false)=true then
 some (.inl false)
 else
 g17 (l_1,addI .i64 i 1,b)
 else none
 else none
 else none
 else none
 else
 some (.inr ())
  partial_fixpoint
theorem gh7 :LC 95 0 [0] e95_0 g17:= .rc g17.partial_correctness (.k g8f (.k geo .n)) .n fun _ _=>by kernel_rfl
def g4b(x_:SType × List SRaw) :Option (Bool):=
 match x_ with
 | (t,l)=>
 g17 (l,0,t) >>=fun o=>
 match o with
 | .inl o_1=>
 some o_1
 | .inr o_2=>
 some true
theorem e95_k :KC e95:= .m (by kernel_rfl)
theorem gkm :FC e95 g4b:= .fn e95_k .n (.k gh7 .n) fun _=>by kernel_rfl
def gw(x_:Int × SValue) :Option ((Bool) ⊕ (Unit)):=
 match x_ with
 | (i_1,b_12)=>
 if decide (i_1 < (b_12.Keys.length:Int))=true then
 some (subI .i64 i_1 1) >>=fun t270=>
 if inR t270 b_12.Keys.length=true then
 if inR i_1 b_12.Keys.length=true then
 g2s (SValue.eta (b_12.Keys.getD t270.toNat dSValue),SValue.eta (b_12.Keys.getD i_1.toNat dSValue)) >>=fun r_16=>
 if decide (0≤r_16)=true then
 some (.inl false)
 else
 gw (addI .i64 i_1 1,SValue.eta b_12)
 else none
 else none
 else
 some (.inr ())
  partial_fixpoint
theorem gic :LC 60 0 [1] e60_1 gw:= .rc gw.partial_correctness (.k g84 .n) .n fun _ _=>by kernel_rfl
mutual
def g3i(x_:SSchema × Int × List SValue × Bool) :Option (Bool):=
 match x_ with
 | (s,t,l,plain)=>
 g1h (t,l,plain,0,s.Types) >>=fun o=>
 match o with
 | .inl o_1=>
 some o_1
 | .inr o_2=>
 some true
  partial_fixpoint
def g19(x_:SSchema × Int × SValue × Bool) :Option (Bool):=
 match x_ with
 | (s,t,v,plain)=>
 if(bif decide (t < 0)then true else decide ((s.Types.length:Int)≤t))=true then
 some false
 else
 if inR t s.Types.length=true then
 some (s.Types.getD t.toNat dSType) >>=fun x0=>
 some (!(decide (v.Kind=x0.Kind))) >>=fun t34=>
 (if(!t34)=true then g57 (SValue.eta v)else some false) >>=fun r=>
 if(bif bif t34 then true else(!r)then true else bif plain then decide (0 < (v.Rest.length:Int))else false)=true then
 some false
 else
 if decide (x0.Kind=1)=true then
 some true
 else
 if decide (x0.Kind=2)=true then
 some (bif decide (x0.Low≤v.Int_)then decide (v.Int_≤x0.High)else false)
 else
 if decide (x0.Kind=3)=true then
 some (decide ((v.Str.length:Int)≤x0.Max))
 else
 if decide (x0.Kind=4)=true then
 g3j (x0,v.ID) >>=fun r_1=>
 some (bif x0.Open then(!plain)else false) >>=fun t91=>
 (if((!r_1.2) && t91)=true then g16 (v.ID,r_1.2)else some false) >>=fun r_4=>
 some (bif r_1.2 then true else bif t91 then r_4 else false)
 else
 if decide (x0.Kind=5)=true then
 some (!(decide ((v.Items.length:Int)=(x0.Members.length:Int)))) >>=fun t107=>
 (if(!t107)=true then g4b (x0,v.Rest)else some false) >>=fun r_5=>
 if(bif t107 then true else(!r_5))=true then
 some false
 else
 g12 (plain,0,s.Types,SValue.eta v,x0.Kind,x0.Name,x0.Low,x0.High,x0.Max,x0.Symbols,x0.Members,x0.Key,x0.Elem,x0.Open) >>=fun o=>
 match o with
 | .inl o_1=>
 some o_1
 | .inr o_2=>
 some true
 else
 if decide (x0.Kind=6)=true then
 g1c (x0,v.ID) >>=fun r_6=>
 if r_6.2=true then
 some (bif decide ((v.Items.length:Int)=1)then decide ((v.Rest.length:Int)=0)else false) >>=fun t156=>
 if(inR r_6.1 x0.Members.length || (!t156))=true then
 if(inR 0 v.Items.length || (!t156))=true then
 (if t156=true then g19 (s,(x0.Members.getD r_6.1.toNat dSMember).Type_,SValue.eta (v.Items.getD (0:Int).toNat dSValue),plain)else some false) >>=fun r_9=>
 some (bif t156 then r_9 else false)
 else none
 else none
 else
 some (bif x0.Open then(!plain)else false) >>=fun t177=>
 (if t177=true then g16 (v.ID,r_6.2)else some false) >>=fun r_10=>
 some (bif bif bif t177 then r_10 else false then decide ((v.Items.length:Int)=0)else false then decide ((v.Rest.length:Int)=1)else false) >>=fun t195=>
 if(inR 0 v.Rest.length || (!t195))=true then
 some (bif t195 then decide ((v.Rest.getD (0:Int).toNat dSRaw).ID=v.ID)else false)
 else none
 else
 if decide (x0.Kind=7)=true then
 some (decide ((v.Items.length:Int)≤x0.Max)) >>=fun t213=>
 (if t213=true then g3i (s,x0.Elem,v.Items,plain)else some false) >>=fun r_11=>
 some (bif t213 then r_11 else false)
 else
 if decide (x0.Kind=8)=true then
 some (bif decide (x0.Max < (v.Keys.length:Int))then true else(!(decide ((v.Items.length:Int)=(v.Keys.length:Int))))) >>=fun t239=>
 (if(!t239)=true then g3i (s,x0.Key,v.Keys,plain)else some false) >>=fun r_12=>
 some (bif t239 then true else(!r_12)) >>=fun t249=>
 (if(!t249)=true then g3i (s,x0.Elem,v.Items,plain)else some false) >>=fun r_13=>
 if(bif t249 then true else(!r_13))=true then
 some false
 else
 gw (1,SValue.eta v) >>=fun o_3=>
 match o_3 with
 | .inl o_4=>
 some o_4
 | .inr o_5=>
 some true
 else
 some (decide ((v.Items.length:Int)≤1)) >>=fun t283=>
 (if t283=true then g3i (s,x0.Elem,v.Items,plain)else some false) >>=fun r_14=>
 some (bif t283 then r_14 else false)
 else none
  partial_fixpoint
def g1h(x_:Int × List SValue × Bool × Int × List SType) :Option ((Bool) ⊕ (Unit)):=
 match x_ with
 | (t_1,l_1,plain_1,i,b)=>
 if decide (i < (l_1.length:Int))=true then
 if inR i l_1.length=true then
 g19 ((⟨b⟩:SSchema),t_1,SValue.eta (l_1.getD i.toNat dSValue),plain_1) >>=fun r=>
 if(!r)=true then
 some (.inl false)
 else
 g1h (t_1,l_1,plain_1,addI .i64 i 1,b)
 else none
 else
 some (.inr ())
  partial_fixpoint
def g12(x_:Bool × Int × List SType × SValue × Int × List UInt8 × Int × Int × Int × List SSymbol × List SMember × Int × Int × Bool) :Option ((Bool) ⊕ (Unit)):=
 match x_ with
 | (plain_1,i,b,b_1,b_2,b_3,b_4,b_5,b_6,b_7,b_8,b_9,b_10,b_11)=>
 if decide (i < (b_1.Items.length:Int))=true then
 if inR i b_8.length=true then
 if inR i b_1.Items.length=true then
 g19 ((⟨b⟩:SSchema),(b_8.getD i.toNat dSMember).Type_,SValue.eta (b_1.Items.getD i.toNat dSValue),plain_1) >>=fun r_15=>
 if(!r_15)=true then
 some (.inl false)
 else
 g12 (plain_1,addI .i64 i 1,b,SValue.eta b_1,b_2,b_3,b_4,b_5,b_6,b_7,b_8,b_9,b_10,b_11)
 else none
 else none
 else
 some (.inr ())
  partial_fixpoint
end
theorem e96_k :KC e96:= .m (by kernel_rfl)
theorem e60_k :KC e60:= .m (by kernel_rfl)
theorem gj7 :(∀h r,g3i h=some r→FD e96 h r)∧(∀h r,g1h h=some r→LD 96 0 [0] e96_0 h r)∧(∀h r,g19 h=some r→FD e60 h r)∧(∀h r,g12 h=some r→LD 60 0 [0] e60_0 h r):=g3i.mutual_partial_correctness (FD e96) (LD 96 0 [0] e96_0) (FD e60) (LD 60 0 [0] e60_0)
 (fun _ h1 _ _ h=>FA e96 e96_k .n (.k (LH e96_0 h1) .n) (.trans (by kernel_rfl) h))
 (fun _ _ h1 h2 _ _ h=>LA e96_0 h1 (.k (FH e60 e60_k h2) .n) .n (.trans (by kernel_rfl) h))
 (fun _ _ _ h0 h2 h3 _ _ h=>FA e60 e60_k (.k gkl (.k gbb (.k geo (.k gkm (.k g8f (.k (FH e60 e60_k h2) (.k (FH e96 e96_k h0) .n))))))) (.k (LH e60_0 h3) (.k gic .n)) (.trans (by kernel_rfl) h))
 (fun _ _ h2 h3 _ _ h=>LA e60_0 h3 (.k (FH e60 e60_k h2) .n) .n (.trans (by kernel_rfl) h))
theorem gd0 :FC e60 g19:= .of e60_k gj7.2.2.1
def g33(x_:SSchema × Int × SValue) :Option (Bool):=
 match x_ with
 | (s,t,v)=>
 g19 (s,t,SValue.eta v,false) >>=fun r=>
 some r
theorem e29_k :KC e29:= .m (by kernel_rfl)
theorem gch :FC e29 g33:= .fn e29_k (.k gd0 .n) .n fun _=>by kernel_rfl
def g4p(x_:SSchema × Int × SValue) :Option (Int):=
 match x_ with
 | (s,t,v)=>
 g5l s >>=fun r=>
 if(!(decide (r=0)))=true then
 some r
 else
 if(bif decide (t < 0)then true else decide ((s.Types.length:Int)≤t))=true then
 some 4
 else
 g33 (s,t,SValue.eta v) >>=fun r_1=>
 if(!r_1)=true then
 some 1
 else
 some 0
theorem e55_k :KC e55:= .m (by kernel_rfl)
theorem gj8 :FC e55 g4p:= .fn e55_k (.k gj5 (.k gch .n)) .n fun _=>by kernel_rfl
end
section
open Go Go.Proofs.YtijpinendaoleaaGreat.Shv
open Tryz
set_option maxRecDepth 100000
set_option linter.all false
end
section
open Go Go.Proofs.YtijpinendaoleaaGreat.Shv
open Tryz
set_option maxRecDepth 100000
set_option linter.all false
end
section
open Go Go.Proofs.YtijpinendaoleaaGreat.Shv
open Tryz
set_option maxRecDepth 100000
def gr(x_:Int × List SType × List Int × Bool) :Option (Int × List SType × List Int × Bool):=
 match x_ with
 | (n,b,b_1,b_2)=>
 if decide ((b_1.length:Int)=0)=true then
 some (0,b,b_1,b_2)
 else
 if inR 0 b_1.length=true then
 if(!(decide (n=0)))=true then
 if slR 1 (b_1.length:Int) b_1.length=true then
 some (remI (wrp .i64 (b_1.getD (0:Int).toNat 0)) n,b,cutL b_1 1 (b_1.length:Int),b_2)
 else none
 else none
 else none
theorem g147 :KC e106:= .m (by kernel_rfl)
theorem g2p :FC e106 gr:= .fn g147 .n .n fun _=>by kernel_rfl
def g2g(x_:List UInt8 × Int × List SType × List Int × Bool) :Option (List UInt8 × List SType × List Int × Bool):=
 match x_ with
 | (s_1,n,b_6,b_7,b_8)=>
 if decide (0 < n)=true then
 gr (3,b_6,b_7,b_8) >>=fun r_5=>
 some (g7s (wrp .i32 (addI .i64 97 r_5.1))) >>=fun t21=>
 if decide (s_1.length+t21.length≤g61)=true then
 g2g (s_1++t21,subI .i64 n 1,r_5.2.1,r_5.2.2.1,r_5.2.2.2)
 else none
 else
 some (s_1,b_6,b_7,b_8)
  partial_fixpoint
theorem gci :LC 107 1 [0] gyd g2g:= .rc g2g.partial_correctness (.k g2p .n) .n fun _ _=>by kernel_rfl
def g5z(x_:Int × List SType × List Int × Bool) :Option (List UInt8 × List SType × List Int × Bool):=
 match x_ with
 | (most,b,b_1,b_2)=>
 gr (addI .i64 (minI most 3) 1,b,b_1,b_2) >>=fun r=>
 g2g ([],r.1,r.2.1,r.2.2.1,r.2.2.2) >>=fun o=>
 some (o.1,o.2.1,o.2.2.1,o.2.2.2)
theorem g148 :KC e107:= .m (by kernel_rfl)
theorem gep :FC e107 g5z:= .fn g148 (.k g2p .n) (.k gci .n) fun _=>by kernel_rfl
def g3y(x_:List SType × List Int × Bool) :Option (Bool × List SType × List Int × Bool):=
 match x_ with
 | (b,b_1,b_2)=>
 if b_2=true then
 gr (4,b,b_1,b_2) >>=fun r=>
 some (bif b_2 then decide (r.1=3)else false,r.2.1,r.2.2.1,r.2.2.2)
 else
 some (bif b_2 then false else false,b,b_1,b_2)
theorem g149 :KC e108:= .m (by kernel_rfl)
theorem gf2 :FC e108 g3y:= .fn g149 (.k g2p .n) .n fun _=>by kernel_rfl
def g8g(x_:SType × Int) :Option (Bool):=
 match x_ with
 | (t,n)=>
 g1c (t,n) >>=fun r=>
 g3j (t,n) >>=fun r_3=>
 some (bif r.2 then true else r_3.2)
theorem g14a :KC e147:= .m (by kernel_rfl)
theorem gkn :FC e147 g8g:= .fn g14a (.k g8f (.k gbb .n)) .n fun _=>by kernel_rfl
def g2m(x_:Int × List SType × List Int × Bool × SType) :Option (Int × List SType × List Int × Bool):=
 match x_ with
 | (n_1,b_6,b_7,b_8,b_9)=>
 g8g (b_9,n_1) >>=fun r_5=>
 if r_5=true then
 g2m (addI .i64 n_1 1,b_6,b_7,b_8,b_9)
 else
 some (n_1,b_6,b_7,b_8)
  partial_fixpoint
theorem gbc :LC 109 1 [0] gye g2m:= .rc g2m.partial_correctness (.k gkn .n) .n fun _ _=>by kernel_rfl
def g21(x_:SType × List SType × List Int × Bool) :Option (Int × List SType × List Int × Bool):=
 match x_ with
 | (t,b,b_1,b_2)=>
 gr (14,b,b_1,b_2) >>=fun r=>
 g2m (addI .i64 1 r.1,r.2.1,r.2.2.1,r.2.2.2,t) >>=fun o=>
 some (o.1,o.2.1,o.2.2.1,o.2.2.2)
theorem g14b :KC e109:= .m (by kernel_rfl)
theorem gcj :FC e109 g21:= .fn g14b (.k g2p .n) (.k gbc .n) fun _=>by kernel_rfl
def g3z(x_:Int × List SType × List Int × Bool) :Option (SRaw × List SType × List Int × Bool):=
 match x_ with
 | (n,b,b_1,b_2)=>
 some [[],[1],[97],[3,1,2]] >>=fun t6=>
 gr (4,b,b_1,b_2) >>=fun r=>
 if inR r.1 t6.length=true then
 some ((⟨n,t6.getD r.1.toNat []⟩:SRaw),r.2.1,r.2.2.1,r.2.2.2)
 else none
theorem g14c :KC e110:= .m (by kernel_rfl)
theorem gf3 :FC e110 g3z:= .fn g14c (.k g2p .n) .n fun _=>by kernel_rfl
end
section
open Go Go.Proofs.YtijpinendaoleaaGreat.Shv
open Tryz
set_option maxRecDepth 100000
def g3k(x_:Int × SValue × SValue × SValue × Int × Bool × Int × List UInt8 × Int) :Option (Int × SValue × SValue × SValue × Int × Bool × Int × List UInt8 × Int):=
 match x_ with
 | (i_1,b_8,b_9,b_10,b_11,b_12,b_13,b_14,b_15)=>
 some (decide (i_1 < (b_8.Keys.length:Int))) >>=fun t12=>
 if(inR i_1 b_8.Keys.length || (!t12))=true then
 (if t12=true then g2s (SValue.eta (b_8.Keys.getD i_1.toNat dSValue),SValue.eta b_9)else some 0) >>=fun r_1=>
 if(bif t12 then decide (r_1 < 0)else false)=true then
 g3k (addI .i64 i_1 1,SValue.eta b_8,SValue.eta b_9,SValue.eta b_10,b_11,b_12,b_13,b_14,b_15)
 else
 some (i_1,SValue.eta b_8,SValue.eta b_9,SValue.eta b_10,b_11,b_12,b_13,b_14,b_15)
 else none
  partial_fixpoint
theorem gid :LC 111 0 [0] gyf g3k:= .rc g3k.partial_correctness (.k g84 .n) .n fun _ _=>by kernel_rfl
def g8y(x_:SValue × SValue × SValue) :Option (SValue):=
 match x_ with
 | (v,key,item)=>
 g3k (0,SValue.eta v,SValue.eta key,SValue.eta item,0,false,0,[],0) >>=fun o=>
 some (decide (o.1 < (o.2.1.Keys.length:Int))) >>=fun t29=>
 if(inR o.1 o.2.1.Keys.length || (!t29))=true then
 (if t29=true then g2s (SValue.eta (o.2.1.Keys.getD o.1.toNat dSValue),SValue.eta o.2.2.1)else some 0) >>=fun r=>
 if(bif t29 then decide (r=0)else false)=true then
 some (SValue.eta o.2.1)
 else
 if slR 0 o.1 o.2.1.Keys.length=true then
 some (cutL o.2.1.Keys 0 o.1) >>=fun t45=>
 if room 120 ([]++t45).length=true then
 some ([]++t45) >>=fun l=>
 some [SValue.eta o.2.2.1] >>=fun t48=>
 if room 120 (l++t48).length=true then
 some (l++t48) >>=fun l_1=>
 if slR o.1 (o.2.1.Keys.length:Int) o.2.1.Keys.length=true then
 some (cutL o.2.1.Keys o.1 (o.2.1.Keys.length:Int)) >>=fun t53=>
 if room 120 (l_1++t53).length=true then
 if slR 0 o.1 o.2.1.Items.length=true then
 some (cutL o.2.1.Items 0 o.1) >>=fun t60=>
 if room 120 ([]++t60).length=true then
 some ([]++t60) >>=fun l_3=>
 some [SValue.eta o.2.2.2.1] >>=fun t63=>
 if room 120 (l_3++t63).length=true then
 some (l_3++t63) >>=fun l_4=>
 if slR o.1 (o.2.1.Items.length:Int) o.2.1.Items.length=true then
 some (cutL o.2.1.Items o.1 (o.2.1.Items.length:Int)) >>=fun t68=>
 if room 120 (l_4++t68).length=true then
 some (⟨o.2.1.Kind,o.2.1.Bool_,o.2.1.Int_,o.2.1.Str,o.2.1.ID,l_1++t53,l_4++t68,o.2.1.Rest⟩:SValue)
 else none
 else none
 else none
 else none
 else none
 else none
 else none
 else none
 else none
 else none
 else none
theorem g14d :KC e111:= .m (by kernel_rfl)
theorem glh :FC e111 g8y:= .fn g14d (.k g84 .n) (.k gid .n) fun _=>by kernel_rfl
mutual
def gx(x_:Int × List SType × List Int × Bool) :Option (SValue × List SType × List Int × Bool):=
 match x_ with
 | (t,b,b_1,b_2)=>
 if inR t b.length=true then
 some (b.getD t.toNat dSType) >>=fun x0=>
 if decide (x0.Kind=1)=true then
 gr (2,b,b_1,b_2) >>=fun r=>
 some ((⟨x0.Kind,decide (r.1=1),0,[],0,[],[],[]⟩:SValue),r.2.1,r.2.2.1,r.2.2.2)
 else
 if decide (x0.Kind=2)=true then
 gr (256,b,b_1,b_2) >>=fun r_5=>
 some (addI .i64 (subI .i64 x0.High x0.Low) 1) >>=fun t51=>
 if(!(decide (t51=0)))=true then
 some ((⟨x0.Kind,false,addI .i64 x0.Low (remI r_5.1 t51),[],0,[],[],[]⟩:SValue),r_5.2.1,r_5.2.2.1,r_5.2.2.2)
 else none
 else
 if decide (x0.Kind=3)=true then
 g5z (x0.Max,b,b_1,b_2) >>=fun r_10=>
 some ((⟨x0.Kind,false,0,r_10.1,0,[],[],[]⟩:SValue),r_10.2.1,r_10.2.2.1,r_10.2.2.2)
 else
 if decide (x0.Kind=4)=true then
 gr ((x0.Symbols.length:Int),b,b_1,b_2) >>=fun r_15=>
 if inR r_15.1 x0.Symbols.length=true then
 some (x0.Symbols.getD r_15.1.toNat dSSymbol) >>=fun x0_1=>
 if x0.Open=true then
 g3y (r_15.2.1,r_15.2.2.1,r_15.2.2.2) >>=fun r_20=>
 if(bif x0.Open then r_20.1 else false)=true then
 g21 (x0,r_20.2.1,r_20.2.2.1,r_20.2.2.2) >>=fun r_25=>
 some ((⟨x0.Kind,false,0,[],r_25.1,[],[],[]⟩:SValue),r_25.2.1,r_25.2.2.1,r_25.2.2.2)
 else
 some ((⟨x0.Kind,false,0,[],x0_1.ID,[],[],[]⟩:SValue),r_20.2.1,r_20.2.2.1,r_20.2.2.2)
 else
 if(bif x0.Open then false else false)=true then
 g21 (x0,r_15.2.1,r_15.2.2.1,r_15.2.2.2) >>=fun r_30=>
 some ((⟨x0.Kind,false,0,[],r_30.1,[],[],[]⟩:SValue),r_30.2.1,r_30.2.2.1,r_30.2.2.2)
 else
 some ((⟨x0.Kind,false,0,[],x0_1.ID,[],[],[]⟩:SValue),r_15.2.1,r_15.2.2.1,r_15.2.2.2)
 else none
 else
 if decide (x0.Kind=5)=true then
 g14 (0,b,b_1,b_2,0,false,0,[],0,x0.Kind,x0.Name,x0.Low,x0.High,x0.Max,x0.Symbols,x0.Members,x0.Key,x0.Elem,x0.Open,x0.Kind,false,0,[],0,[]) >>=fun o=>
 g3y (o.1,o.2.1,o.2.2.1) >>=fun r_35=>
 if r_35.1=true then
 g21 ((⟨o.2.2.2.2.2.2.2.2.1,o.2.2.2.2.2.2.2.2.2.1,o.2.2.2.2.2.2.2.2.2.2.1,o.2.2.2.2.2.2.2.2.2.2.2.1,o.2.2.2.2.2.2.2.2.2.2.2.2.1,o.2.2.2.2.2.2.2.2.2.2.2.2.2.1,o.2.2.2.2.2.2.2.2.2.2.2.2.2.2.1,o.2.2.2.2.2.2.2.2.2.2.2.2.2.2.2.1,o.2.2.2.2.2.2.2.2.2.2.2.2.2.2.2.2.1,o.2.2.2.2.2.2.2.2.2.2.2.2.2.2.2.2.2.1⟩:SType),r_35.2.1,r_35.2.2.1,r_35.2.2.2) >>=fun r_40=>
 g3z (r_40.1,r_40.2.1,r_40.2.2.1,r_40.2.2.2) >>=fun r_45=>
 some ((⟨o.2.2.2.2.2.2.2.2.2.2.2.2.2.2.2.2.2.2.1,o.2.2.2.2.2.2.2.2.2.2.2.2.2.2.2.2.2.2.2.1,o.2.2.2.2.2.2.2.2.2.2.2.2.2.2.2.2.2.2.2.2.1,o.2.2.2.2.2.2.2.2.2.2.2.2.2.2.2.2.2.2.2.2.2.1,o.2.2.2.2.2.2.2.2.2.2.2.2.2.2.2.2.2.2.2.2.2.2.1,[],o.2.2.2.2.2.2.2.2.2.2.2.2.2.2.2.2.2.2.2.2.2.2.2,[r_45.1]⟩:SValue),r_45.2.1,r_45.2.2.1,r_45.2.2.2)
 else
 some ((⟨o.2.2.2.2.2.2.2.2.2.2.2.2.2.2.2.2.2.2.1,o.2.2.2.2.2.2.2.2.2.2.2.2.2.2.2.2.2.2.2.1,o.2.2.2.2.2.2.2.2.2.2.2.2.2.2.2.2.2.2.2.2.1,o.2.2.2.2.2.2.2.2.2.2.2.2.2.2.2.2.2.2.2.2.2.1,o.2.2.2.2.2.2.2.2.2.2.2.2.2.2.2.2.2.2.2.2.2.2.1,[],o.2.2.2.2.2.2.2.2.2.2.2.2.2.2.2.2.2.2.2.2.2.2.2,[]⟩:SValue),r_35.2.1,r_35.2.2.1,r_35.2.2.2)
 else
 if decide (x0.Kind=6)=true then
 if x0.Open=true then
 g3y (b,b_1,b_2) >>=fun r_50=>
 if(bif x0.Open then r_50.1 else false)=true then
 g21 (x0,r_50.2.1,r_50.2.2.1,r_50.2.2.2) >>=fun r_55=>
 g3z (r_55.1,r_55.2.1,r_55.2.2.1,r_55.2.2.2) >>=fun r_60=>
 some ((⟨x0.Kind,false,0,[],r_55.1,[],[],[r_60.1]⟩:SValue),r_60.2.1,r_60.2.2.1,r_60.2.2.2)
 else
 gr ((x0.Members.length:Int),r_50.2.1,r_50.2.2.1,r_50.2.2.2) >>=fun r_65=>
 if inR r_65.1 x0.Members.length=true then
 some (x0.Members.getD r_65.1.toNat dSMember) >>=fun x0_2=>
 gx (x0_2.Type_,r_65.2.1,r_65.2.2.1,r_65.2.2.2) >>=fun r_70=>
 some ((⟨x0.Kind,false,0,[],x0_2.ID,[],[SValue.eta r_70.1],[]⟩:SValue),r_70.2.1,r_70.2.2.1,r_70.2.2.2)
 else none
 else
 if(bif x0.Open then false else false)=true then
 g21 (x0,b,b_1,b_2) >>=fun r_75=>
 g3z (r_75.1,r_75.2.1,r_75.2.2.1,r_75.2.2.2) >>=fun r_80=>
 some ((⟨x0.Kind,false,0,[],r_75.1,[],[],[r_80.1]⟩:SValue),r_80.2.1,r_80.2.2.1,r_80.2.2.2)
 else
 gr ((x0.Members.length:Int),b,b_1,b_2) >>=fun r_85=>
 if inR r_85.1 x0.Members.length=true then
 some (x0.Members.getD r_85.1.toNat dSMember) >>=fun x0_3=>
 gx (x0_3.Type_,r_85.2.1,r_85.2.2.1,r_85.2.2.2) >>=fun r_90=>
 some ((⟨x0.Kind,false,0,[],x0_3.ID,[],[SValue.eta r_90.1],[]⟩:SValue),r_90.2.1,r_90.2.2.1,r_90.2.2.2)
 else none
 else
 if decide (x0.Kind=7)=true then
 gr (addI .i64 (minI x0.Max 3) 1,b,b_1,b_2) >>=fun r_95=>
 g1u (r_95.1,r_95.2.1,r_95.2.2.1,r_95.2.2.2,0,false,0,[],0,x0.Kind,x0.Name,x0.Low,x0.High,x0.Max,x0.Symbols,x0.Members,x0.Key,x0.Elem,x0.Open,x0.Kind,false,0,[],0,[]) >>=fun o_1=>
 some ((⟨o_1.2.2.2.2.2.2.2.2.1,o_1.2.2.2.2.2.2.2.2.2.1,o_1.2.2.2.2.2.2.2.2.2.2.1,o_1.2.2.2.2.2.2.2.2.2.2.2.1,o_1.2.2.2.2.2.2.2.2.2.2.2.2.1,[],o_1.2.2.2.2.2.2.2.2.2.2.2.2.2,[]⟩:SValue),o_1.1,o_1.2.1,o_1.2.2.1)
 else
 if decide (x0.Kind=8)=true then
 gr (addI .i64 (minI x0.Max 3) 1,b,b_1,b_2) >>=fun r_100=>
 g1v (r_100.1,r_100.2.1,r_100.2.2.1,r_100.2.2.2,0,false,0,[],0,x0.Kind,x0.Name,x0.Low,x0.High,x0.Max,x0.Symbols,x0.Members,x0.Key,x0.Elem,x0.Open,x0.Kind,false,0,[],0,[],[],[]) >>=fun o_2=>
 some ((⟨o_2.2.2.2.2.2.2.2.2.1,o_2.2.2.2.2.2.2.2.2.2.1,o_2.2.2.2.2.2.2.2.2.2.2.1,o_2.2.2.2.2.2.2.2.2.2.2.2.1,o_2.2.2.2.2.2.2.2.2.2.2.2.2.1,o_2.2.2.2.2.2.2.2.2.2.2.2.2.2.1,o_2.2.2.2.2.2.2.2.2.2.2.2.2.2.2.1,o_2.2.2.2.2.2.2.2.2.2.2.2.2.2.2.2⟩:SValue),o_2.1,o_2.2.1,o_2.2.2.1)
 else
 gr (2,b,b_1,b_2) >>=fun r_105=>
 if decide (r_105.1=1)=true then
 gx (x0.Elem,r_105.2.1,r_105.2.2.1,r_105.2.2.2) >>=fun r_110=>
 some ((⟨x0.Kind,false,0,[],0,[],[SValue.eta r_110.1],[]⟩:SValue),r_110.2.1,r_110.2.2.1,r_110.2.2.2)
 else
 some ((⟨x0.Kind,false,0,[],0,[],[],[]⟩:SValue),r_105.2.1,r_105.2.2.1,r_105.2.2.2)
 else none
  partial_fixpoint
def g14(x_:Int × List SType × List Int × Bool × Int × Bool × Int × List UInt8 × Int × Int × List UInt8 × Int × Int × Int × List SSymbol × List SMember × Int × Int × Bool × Int × Bool × Int × List UInt8 × Int × List SValue) :Option (List SType × List Int × Bool × Int × Bool × Int × List UInt8 × Int × Int × List UInt8 × Int × Int × Int × List SSymbol × List SMember × Int × Int × Bool × Int × Bool × Int × List UInt8 × Int × List SValue):=
 match x_ with
 | (i,b_57,b_58,b_59,b_60,b_61,b_62,b_63,b_64,b_65,b_66,b_67,b_68,b_69,b_70,b_71,b_72,b_73,b_74,b_75,b_76,b_77,b_78,b_79,b_80)=>
 if decide (i < (b_71.length:Int))=true then
 if inR i b_71.length=true then
 some (b_71.getD i.toNat dSMember) >>=fun x0_4=>
 if x0_4.HasDefault=true then
 gr (3,b_57,b_58,b_59) >>=fun r_115=>
 if(bif x0_4.HasDefault then decide (r_115.1=0)else false)=true then
 if inR i b_71.length=true then
 some [SValue.eta (b_71.getD i.toNat dSMember).Default] >>=fun t113=>
 if room 120 (b_80++t113).length=true then
 g14 (addI .i64 i 1,r_115.2.1,r_115.2.2.1,r_115.2.2.2,b_60,b_61,b_62,b_63,b_64,b_65,b_66,b_67,b_68,b_69,b_70,b_71,b_72,b_73,b_74,b_75,b_76,b_77,b_78,b_79,b_80++t113)
 else none
 else none
 else
 if inR i b_71.length=true then
 gx ((b_71.getD i.toNat dSMember).Type_,r_115.2.1,r_115.2.2.1,r_115.2.2.2) >>=fun r_120=>
 some [SValue.eta r_120.1] >>=fun t126=>
 if room 120 (b_80++t126).length=true then
 g14 (addI .i64 i 1,r_120.2.1,r_120.2.2.1,r_120.2.2.2,b_60,b_61,b_62,b_63,b_64,b_65,b_66,b_67,b_68,b_69,b_70,b_71,b_72,b_73,b_74,b_75,b_76,b_77,b_78,b_79,b_80++t126)
 else none
 else none
 else
 if(bif x0_4.HasDefault then false else false)=true then
 if inR i b_71.length=true then
 some [SValue.eta (b_71.getD i.toNat dSMember).Default] >>=fun t113_1=>
 if room 120 (b_80++t113_1).length=true then
 g14 (addI .i64 i 1,b_57,b_58,b_59,b_60,b_61,b_62,b_63,b_64,b_65,b_66,b_67,b_68,b_69,b_70,b_71,b_72,b_73,b_74,b_75,b_76,b_77,b_78,b_79,b_80++t113_1)
 else none
 else none
 else
 if inR i b_71.length=true then
 gx ((b_71.getD i.toNat dSMember).Type_,b_57,b_58,b_59) >>=fun r_125=>
 some [SValue.eta r_125.1] >>=fun t126_1=>
 if room 120 (b_80++t126_1).length=true then
 g14 (addI .i64 i 1,r_125.2.1,r_125.2.2.1,r_125.2.2.2,b_60,b_61,b_62,b_63,b_64,b_65,b_66,b_67,b_68,b_69,b_70,b_71,b_72,b_73,b_74,b_75,b_76,b_77,b_78,b_79,b_80++t126_1)
 else none
 else none
 else none
 else
 some (b_57,b_58,b_59,b_60,b_61,b_62,b_63,b_64,b_65,b_66,b_67,b_68,b_69,b_70,b_71,b_72,b_73,b_74,b_75,b_76,b_77,b_78,b_79,b_80)
  partial_fixpoint
def g1u(x_:Int × List SType × List Int × Bool × Int × Bool × Int × List UInt8 × Int × Int × List UInt8 × Int × Int × Int × List SSymbol × List SMember × Int × Int × Bool × Int × Bool × Int × List UInt8 × Int × List SValue) :Option (List SType × List Int × Bool × Int × Bool × Int × List UInt8 × Int × Int × Bool × Int × List UInt8 × Int × List SValue):=
 match x_ with
 | (n,b_81,b_82,b_83,b_84,b_85,b_86,b_87,b_88,b_89,b_90,b_91,b_92,b_93,b_94,b_95,b_96,b_97,b_98,b_99,b_100,b_101,b_102,b_103,b_104)=>
 if decide (0 < n)=true then
 gx (b_97,b_81,b_82,b_83) >>=fun r_130=>
 some [SValue.eta r_130.1] >>=fun t193=>
 if room 120 (b_104++t193).length=true then
 g1u (subI .i64 n 1,r_130.2.1,r_130.2.2.1,r_130.2.2.2,b_84,b_85,b_86,b_87,b_88,b_89,b_90,b_91,b_92,b_93,b_94,b_95,b_96,b_97,b_98,b_99,b_100,b_101,b_102,b_103,b_104++t193)
 else none
 else
 some (b_81,b_82,b_83,b_84,b_85,b_86,b_87,b_88,b_99,b_100,b_101,b_102,b_103,b_104)
  partial_fixpoint
def g1v(x_:Int × List SType × List Int × Bool × Int × Bool × Int × List UInt8 × Int × Int × List UInt8 × Int × Int × Int × List SSymbol × List SMember × Int × Int × Bool × Int × Bool × Int × List UInt8 × Int × List SValue × List SValue × List SRaw) :Option (List SType × List Int × Bool × Int × Bool × Int × List UInt8 × Int × Int × Bool × Int × List UInt8 × Int × List SValue × List SValue × List SRaw):=
 match x_ with
 | (n_1,b_105,b_106,b_107,b_108,b_109,b_110,b_111,b_112,b_113,b_114,b_115,b_116,b_117,b_118,b_119,b_120,b_121,b_122,b_123,b_124,b_125,b_126,b_127,b_128,b_129,b_130)=>
 if decide (0 < n_1)=true then
 gx (b_120,b_105,b_106,b_107) >>=fun r_135=>
 gx (b_121,r_135.2.1,r_135.2.2.1,r_135.2.2.2) >>=fun r_140=>
 g8y ((⟨b_123,b_124,b_125,b_126,b_127,b_128,b_129,b_130⟩:SValue),SValue.eta r_135.1,SValue.eta r_140.1) >>=fun r_145=>
 g1v (subI .i64 n_1 1,r_140.2.1,r_140.2.2.1,r_140.2.2.2,b_108,b_109,b_110,b_111,b_112,b_113,b_114,b_115,b_116,b_117,b_118,b_119,b_120,b_121,b_122,r_145.Kind,r_145.Bool_,r_145.Int_,r_145.Str,r_145.ID,r_145.Keys,r_145.Items,r_145.Rest)
 else
 some (b_105,b_106,b_107,b_108,b_109,b_110,b_111,b_112,b_123,b_124,b_125,b_126,b_127,b_128,b_129,b_130)
  partial_fixpoint
end
theorem e66_k :KC e66:= .m (by kernel_rfl)
theorem gck :(∀h r,gx h=some r→FD e66 h r)∧(∀h r,g1v h=some r→LD 66 1 [2] e66_2 h r)∧(∀h r,g1u h=some r→LD 66 1 [1] e66_1 h r)∧(∀h r,g14 h=some r→LD 66 1 [0] e66_0 h r):=gx.mutual_partial_correctness (FD e66) (LD 66 1 [2] e66_2) (LD 66 1 [1] e66_1) (LD 66 1 [0] e66_0)
 (fun _ _ _ _ h0 h1 h2 h3 _ _ h=>FA e66 e66_k (.k g2p (.k gep (.k gf2 (.k gcj (.k gf3 (.k (FH e66 e66_k h0) .n)))))) (.k (LH e66_0 h3) (.k (LH e66_1 h2) (.k (LH e66_2 h1) .n))) (.trans (by kernel_rfl) h))
 (fun _ _ h0 h1 _ _ h=>LA e66_2 h1 (.k (FH e66 e66_k h0) (.k glh .n)) .n (.trans (by kernel_rfl) h))
 (fun _ _ h0 h2 _ _ h=>LA e66_1 h2 (.k (FH e66 e66_k h0) .n) .n (.trans (by kernel_rfl) h))
 (fun _ _ h0 h3 _ _ h=>LA e66_0 h3 (.k g2p (.k (FH e66 e66_k h0) .n)) .n (.trans (by kernel_rfl) h))
theorem g8z :FC e66 gx:= .of e66_k gck.1
def g6z(x_:SSchema × Int × List Int) :Option (SValue):=
 match x_ with
 | (s,t,choices)=>
 some (minI 60 (choices.length:Int)) >>=fun t12=>
 if slR 0 t12 choices.length=true then
 gx (t,s.Types,cutL choices 0 t12,false) >>=fun r=>
 some (SValue.eta r.1)
 else none
theorem e26_k :KC e26:= .m (by kernel_rfl)
theorem gcl :FC e26 g6z:= .fn e26_k (.k g8z .n) .n fun _=>by kernel_rfl
def g73(x_:SSchema × Int × List Int) :Option (SValue):=
 match x_ with
 | (s,t,choices)=>
 some (minI 60 (choices.length:Int)) >>=fun t12=>
 if slR 0 t12 choices.length=true then
 gx (t,s.Types,cutL choices 0 t12,true) >>=fun r=>
 some (SValue.eta r.1)
 else none
theorem e52_k :KC e52:= .m (by kernel_rfl)
theorem gh8 :FC e52 g73:= .fn e52_k (.k g8z .n) .n fun _=>by kernel_rfl
def g85(d:Sheaveref08Draft) :Option (SSchema × Int × SValue × SValue × Bool):=
 g5w d.S >>=fun r=>
 if(!r.2)=true then
 some (r.1,0,(⟨0,false,0,[],0,[],[],[]⟩:SValue),(⟨0,false,0,[],0,[],[],[]⟩:SValue),false)
 else
 some (r.1.Types.length:Int) >>=fun t26=>
 if(!(decide (t26=0)))=true then
 some (remI (wrp .i64 d.T) t26) >>=fun t27=>
 g6z (r.1,t27,d.C) >>=fun r_3=>
 g73 (r.1,t27,d.C) >>=fun r_4=>
 some (r.1,t27,SValue.eta r_3,SValue.eta r_4,true)
 else none
theorem e14_k :KC e14:= .m (by kernel_rfl)
theorem gmw :FC e14 g85:= .fn e14_k (.k gmp (.k gcl (.k gh8 .n))) .n fun _=>by kernel_rfl
mutual
def g4f(x_:SSchema × Int × SValue) :Option (SValue × Bool):=
 match x_ with
 | (s,t,v)=>
 if inR t s.Types.length=true then
 some (s.Types.getD t.toNat dSType) >>=fun x0=>
 g3e (x0,SValue.eta v) >>=fun r=>
 (if(!r)=true then g9n (s,x0,SValue.eta v)else some false) >>=fun r_1=>
 if(bif bif r then true else r_1 then true else bif decide (x0.Kind=6)then decide ((v.Items.length:Int)=0)else false)=true then
 some ((⟨0,false,0,[],0,[],[],[]⟩:SValue),false)
 else
 g43 120 v.Keys >>=fun r_2=>
 g4z (x0,SValue.eta v) >>=fun r_3=>
 g5c (r_3,(r_3.length:Int),0,s.Types,SValue.eta v,0,false,0,[],0,v.Kind,v.Bool_,v.Int_,v.Str,v.ID,r_2,[]) >>=fun o=>
 match o with
 | .inl o_1=>
 some ((⟨o_1.2.1,o_1.2.2.1,o_1.2.2.2.1,o_1.2.2.2.2.1,o_1.2.2.2.2.2,[],[],[]⟩:SValue),o_1.1)
 | .inr o_2=>
 some ((⟨o_2.2.2.2.2.2.1,o_2.2.2.2.2.2.2.1,o_2.2.2.2.2.2.2.2.1,o_2.2.2.2.2.2.2.2.2.1,o_2.2.2.2.2.2.2.2.2.2.1,o_2.2.2.2.2.2.2.2.2.2.2.1,o_2.2.2.2.2.2.2.2.2.2.2.2,[]⟩:SValue),true)
 else none
  partial_fixpoint
def g5c(x_:List RelayStep × Int × Int × List SType × SValue × Int × Bool × Int × List UInt8 × Int × Int × Bool × Int × List UInt8 × Int × List SValue × List SValue) :Option ((Bool × Int × Bool × Int × List UInt8 × Int) ⊕ (Int × Bool × Int × List UInt8 × Int × Int × Bool × Int × List UInt8 × Int × List SValue × List SValue)):=
 match x_ with
 | (t49,t50_1,t51,b_17,b_18,b_19,b_20,b_21,b_22,b_23,b_24,b_25,b_26,b_27,b_28,b_29,b_30)=>
 if decide (t51 < t50_1)=true then
 if inR t51 t49.length=true then
 if inR t51 b_18.Items.length=true then
 g4f ((⟨b_17⟩:SSchema),(t49.getD t51.toNat dRelayStep).t,SValue.eta (b_18.Items.getD t51.toNat dSValue)) >>=fun r_4=>
 if(!r_4.2)=true then
 some (.inl (false,0,false,0,[],0))
 else
 some [SValue.eta r_4.1] >>=fun t74=>
 if room 120 (b_30++t74).length=true then
 g5c (t49,t50_1,addI .i64 t51 1,b_17,SValue.eta b_18,b_19,b_20,b_21,b_22,b_23,b_24,b_25,b_26,b_27,b_28,b_29,b_30++t74)
 else none
 else none
 else none
 else
 some (.inr (b_19,b_20,b_21,b_22,b_23,b_24,b_25,b_26,b_27,b_28,b_29,b_30))
  partial_fixpoint
end
theorem e63_k :KC e63:= .m (by kernel_rfl)
theorem goe :(∀h r,g4f h=some r→FD e63 h r)∧(∀h r,g5c h=some r→LD 63 0 [0] e63_0 h r):=g4f.mutual_partial_correctness (FD e63) (LD 63 0 [0] e63_0)
 (fun _ h1 _ _ h=>FA e63 e63_k (.k g9m (.k geh (.k g46 (.k ga9 .n)))) (.k (LH e63_0 h1) .n) (.trans (by kernel_rfl) h))
 (fun _ _ h0 h1 _ _ h=>LA e63_0 h1 (.k (FH e63 e63_k h0) .n) .n (.trans (by kernel_rfl) h))
theorem gqx :FC e63 g4f:= .of e63_k goe.1
def gca(x_:SSchema × Int × SValue) :Option (SValue × Int):=
 match x_ with
 | (s,t,v)=>
 g5o (s,t,SValue.eta v) >>=fun r=>
 if(!(decide (r=0)))=true then
 some ((⟨0,false,0,[],0,[],[],[]⟩:SValue),r)
 else
 g4f (s,t,SValue.eta v) >>=fun r_1=>
 if(!r_1.2)=true then
 some ((⟨0,false,0,[],0,[],[],[]⟩:SValue),12)
 else
 some (SValue.eta r_1.1,0)
theorem e23_k :KC e23:= .m (by kernel_rfl)
theorem gqy :FC e23 gca:= .fn e23_k (.k gb8 (.k gqx .n)) .n fun _=>by kernel_rfl
def g4c(v:SValue) :Option (Int × Bool × Int × List UInt8 × Int × List SValue × List SValue × List SRaw):=
 if room 120 ([]++v.Keys).length=true then
 if room 120 ([]++v.Items).length=true then
 if room 24 ([]++v.Rest).length=true then
 some (v.Kind,v.Bool_,v.Int_,v.Str,v.ID,[]++v.Keys,[]++v.Items,[]++v.Rest)
 else none
 else none
 else none
theorem g14e :KC e104:= .m (by kernel_rfl)
theorem gie :FC e104 g4c:= .fn g14e .n .n fun _=>by kernel_rfl
mutual
def g4j(v:SValue) :Option (SValue):=
 g4c (SValue.eta v) >>=fun r=>
 if decide (r.1=5)=true then
 g2v (0,r.1,r.2.1,r.2.2.1,r.2.2.2.1,r.2.2.2.2.1,[],0,false,0,[],0,r.2.2.2.2.2.1,r.2.2.2.2.2.2.1) >>=fun o=>
 some (⟨o.1,o.2.1,o.2.2.1,o.2.2.2.1,o.2.2.2.2.1,o.2.2.2.2.2.2.2.2.2.2.2.1,o.2.2.2.2.2.2.2.2.2.2.2.2,o.2.2.2.2.2.1⟩:SValue)
 else
 g2v (0,r.1,r.2.1,r.2.2.1,r.2.2.2.1,r.2.2.2.2.1,r.2.2.2.2.2.2.2,0,false,0,[],0,r.2.2.2.2.2.1,r.2.2.2.2.2.2.1) >>=fun o_1=>
 some (⟨o_1.1,o_1.2.1,o_1.2.2.1,o_1.2.2.2.1,o_1.2.2.2.2.1,o_1.2.2.2.2.2.2.2.2.2.2.2.1,o_1.2.2.2.2.2.2.2.2.2.2.2.2,o_1.2.2.2.2.2.1⟩:SValue)
  partial_fixpoint
def g2v(x_:Int × Int × Bool × Int × List UInt8 × Int × List SRaw × Int × Bool × Int × List UInt8 × Int × List SValue × List SValue) :Option (Int × Bool × Int × List UInt8 × Int × List SRaw × Int × Bool × Int × List UInt8 × Int × List SValue × List SValue):=
 match x_ with
 | (i,b_26,b_27,b_28,b_29,b_30,b_31,b_32,b_33,b_34,b_35,b_36,b_37,b_38)=>
 if decide (i < (b_38.length:Int))=true then
 if inR i b_38.length=true then
 if decide (i.toNat < b_38.length)=true then
 g4j (SValue.eta (b_38.getD i.toNat dSValue)) >>=fun r_9=>
 if inR i b_38.length=true then
 if decide (i.toNat < b_38.length)=true then
 g2v (addI .i64 i 1,b_26,b_27,b_28,b_29,b_30,b_31,b_32,b_33,b_34,b_35,b_36,b_37,b_38.set i.toNat (SValue.eta r_9))
 else none
 else none
 else none
 else none
 else
 some (b_26,b_27,b_28,b_29,b_30,b_31,b_32,b_33,b_34,b_35,b_36,b_37,b_38)
  partial_fixpoint
end
end
section
open Go Go.Proofs.YtijpinendaoleaaGreat.Shv
open Tryz
set_option maxRecDepth 100000
def g4q(x_:SSchema × Int × SValue) :Option (Bool):=
 match x_ with
 | (s,t,v)=>
 g19 (s,t,SValue.eta v,true) >>=fun r=>
 some r
theorem e18_k :KC e18:= .m (by kernel_rfl)
theorem gj9 :FC e18 g4q:= .fn e18_k (.k gd0 .n) .n fun _=>by kernel_rfl
def gd1(x_:SSchema × Int × SValue) :Option (SValue × Int):=
 match x_ with
 | (s,t,v)=>
 g4p (s,t,SValue.eta v) >>=fun r=>
 if(!(decide (r=0)))=true then
 some ((⟨0,false,0,[],0,[],[],[]⟩:SValue),r)
 else
 g4j (SValue.eta v) >>=fun r_1=>
 g4q (s,t,SValue.eta r_1) >>=fun r_2=>
 if(!r_2)=true then
 some ((⟨0,false,0,[],0,[],[],[]⟩:SValue),12)
 else
 some (SValue.eta r_1,0)
def g6e(x_:SValue × SValue) :Option (Bool):=
 match x_ with
 | (a,b)=>
 g1o (SValue.eta a,SValue.eta b) >>=fun r=>
 some r
theorem e25_k :KC e25:= .m (by kernel_rfl)
theorem gja :FC e25 g6e:= .fn e25_k (.k g74 .n) .n fun _=>by kernel_rfl
def g1s(x_:Int × Int × List (List Int) × Int × List SType × SValue × List (List Int) × SType) :Option (Int × List SType × SValue × List (List Int) × SType):=
 match x_ with
 | (i_5,n,l,k,b_21,b_22,b_23,b_24)=>
 if decide (k < (l.length:Int))=true then
 if inR k l.length=true then
 some (l.getD k.toNat []) >>=fun x0_9=>
 if room 8 ([n]++x0_9).length=true then
 some [[n]++x0_9] >>=fun t87=>
 if room 24 (b_23++t87).length=true then
 g1s (i_5,n,l,addI .i64 k 1,b_21,SValue.eta b_22,b_23++t87,b_24)
 else none
 else none
 else none
 else
 some (i_5,b_21,SValue.eta b_22,b_23,b_24)
  partial_fixpoint
mutual
def g3s(x_:SSchema × Int × SValue) :Option (List (List Int)):=
 match x_ with
 | (s,t,v)=>
 if inR t s.Types.length=true then
 g26 (0,s.Types,SValue.eta v,[[]],s.Types.getD t.toNat dSType) >>=fun o=>
 some o
 else none
  partial_fixpoint
def g26(x_:Int × List SType × SValue × List (List Int) × SType) :Option (List (List Int)):=
 match x_ with
 | (i,b_1,b_2,b_3,b_4)=>
 if decide (i < (b_2.Items.length:Int))=true then
 if decide (b_4.Kind=5)=true then
 if inR i b_4.Members.length=true then
 if inR i b_4.Members.length=true then
 if decide (b_4.Kind=6)=true then
 g1c (b_4,b_2.ID) >>=fun r=>
 if inR r.1 b_4.Members.length=true then
 if inR i b_2.Items.length=true then
 g3s ((⟨b_1⟩:SSchema),(b_4.Members.getD r.1.toNat dSMember).Type_,SValue.eta (b_2.Items.getD i.toNat dSValue)) >>=fun r_3=>
 g1s (i,b_2.ID,r_3,0,b_1,SValue.eta b_2,b_3,b_4) >>=fun o_1=>
 g26 (addI .i64 o_1.1 1,o_1.2.1,SValue.eta o_1.2.2.1,o_1.2.2.2.1,o_1.2.2.2.2)
 else none
 else none
 else
 if inR i b_2.Items.length=true then
 g3s ((⟨b_1⟩:SSchema),(b_4.Members.getD i.toNat dSMember).Type_,SValue.eta (b_2.Items.getD i.toNat dSValue)) >>=fun r_4=>
 g1s (i,(b_4.Members.getD i.toNat dSMember).ID,r_4,0,b_1,SValue.eta b_2,b_3,b_4) >>=fun o_2=>
 g26 (addI .i64 o_2.1 1,o_2.2.1,SValue.eta o_2.2.2.1,o_2.2.2.2.1,o_2.2.2.2.2)
 else none
 else none
 else none
 else
 if decide (b_4.Kind=6)=true then
 g1c (b_4,b_2.ID) >>=fun r_5=>
 if inR r_5.1 b_4.Members.length=true then
 if inR i b_2.Items.length=true then
 g3s ((⟨b_1⟩:SSchema),(b_4.Members.getD r_5.1.toNat dSMember).Type_,SValue.eta (b_2.Items.getD i.toNat dSValue)) >>=fun r_8=>
 g1s (i,b_2.ID,r_8,0,b_1,SValue.eta b_2,b_3,b_4) >>=fun o_3=>
 g26 (addI .i64 o_3.1 1,o_3.2.1,SValue.eta o_3.2.2.1,o_3.2.2.2.1,o_3.2.2.2.2)
 else none
 else none
 else
 if inR i b_2.Items.length=true then
 g3s ((⟨b_1⟩:SSchema),b_4.Elem,SValue.eta (b_2.Items.getD i.toNat dSValue)) >>=fun r_9=>
 g1s (i,i,r_9,0,b_1,SValue.eta b_2,b_3,b_4) >>=fun o_4=>
 g26 (addI .i64 o_4.1 1,o_4.2.1,SValue.eta o_4.2.2.1,o_4.2.2.2.1,o_4.2.2.2.2)
 else none
 else
 some b_3
  partial_fixpoint
end
def g2t(x_:Int × List Int × Int × List SType × SValue × Int × Bool × Int × List UInt8 × Int) :Option ((Int × Int × Int × Bool × Int × List UInt8 × Int) ⊕ (Int × SValue × Int × Bool × Int × List UInt8 × Int)):=
 match x_ with
 | (t_2,path_1,i,b_11,b_12,b_13,b_14,b_15,b_16,b_17)=>
 if decide (i < (path_1.length:Int))=true then
 if inR t_2 b_11.length=true then
 some (b_11.getD t_2.toNat dSType) >>=fun x0=>
 if inR i path_1.length=true then
 some (path_1.getD i.toNat 0) >>=fun x0_1=>
 if decide (x0.Kind=5)=true then
 g1c (x0,x0_1) >>=fun r_1=>
 if r_1.2=true then
 if inR r_1.1 x0.Members.length=true then
 if decide (r_1.1 < 0)=true then
 some (.inl (0,4,0,false,0,[],0))
 else
 if inR r_1.1 b_12.Items.length=true then
 g2t ((x0.Members.getD r_1.1.toNat dSMember).Type_,path_1,addI .i64 i 1,b_11,SValue.eta (b_12.Items.getD r_1.1.toNat dSValue),b_13,b_14,b_15,b_16,b_17)
 else none
 else none
 else
 some (.inl (0,4,0,false,0,[],0))
 else
 if decide (x0.Kind=6)=true then
 g1c (x0,x0_1) >>=fun r_4=>
 if(bif r_4.2 then decide (x0_1=b_12.ID)else false)=true then
 if inR r_4.1 x0.Members.length=true then
 if inR 0 b_12.Items.length=true then
 g2t ((x0.Members.getD r_4.1.toNat dSMember).Type_,path_1,addI .i64 i 1,b_11,SValue.eta (b_12.Items.getD (0:Int).toNat dSValue),b_13,b_14,b_15,b_16,b_17)
 else none
 else none
 else
 some (.inl (0,4,0,false,0,[],0))
 else
 some (decide (x0.Kind=7)) >>=fun t80=>
 if t80=true then
 if t80=true then
 if(bif decide (0≤x0_1)then decide (x0_1 < (b_12.Items.length:Int))else false)=true then
 if decide (x0_1 < 0)=true then
 some (.inl (0,4,0,false,0,[],0))
 else
 if inR x0_1 b_12.Items.length=true then
 g2t (x0.Elem,path_1,addI .i64 i 1,b_11,SValue.eta (b_12.Items.getD x0_1.toNat dSValue),b_13,b_14,b_15,b_16,b_17)
 else none
 else
 some (.inl (0,4,0,false,0,[],0))
 else
 some (.inl (0,4,0,false,0,[],0))
 else
 some (decide (x0.Kind=8)) >>=fun t81=>
 if t81=true then
 if t81=true then
 if(bif decide (0≤x0_1)then decide (x0_1 < (b_12.Items.length:Int))else false)=true then
 if decide (x0_1 < 0)=true then
 some (.inl (0,4,0,false,0,[],0))
 else
 if inR x0_1 b_12.Items.length=true then
 g2t (x0.Elem,path_1,addI .i64 i 1,b_11,SValue.eta (b_12.Items.getD x0_1.toNat dSValue),b_13,b_14,b_15,b_16,b_17)
 else none
 else
 some (.inl (0,4,0,false,0,[],0))
 else
 some (.inl (0,4,0,false,0,[],0))
 else
 if decide (x0.Kind=9)=true then
 if(bif decide (0≤x0_1)then decide (x0_1 < (b_12.Items.length:Int))else false)=true then
 if decide (x0_1 < 0)=true then
 some (.inl (0,4,0,false,0,[],0))
 else
 if inR x0_1 b_12.Items.length=true then
 g2t (x0.Elem,path_1,addI .i64 i 1,b_11,SValue.eta (b_12.Items.getD x0_1.toNat dSValue),b_13,b_14,b_15,b_16,b_17)
 else none
 else
 some (.inl (0,4,0,false,0,[],0))
 else
 some (.inl (0,4,0,false,0,[],0))
 else none
 else none
 else
 some (.inr (t_2,SValue.eta b_12,b_13,b_14,b_15,b_16,b_17))
  partial_fixpoint
def gbv(x_:SSchema × Int × SValue × List Int) :Option (SValue × Int × Int):=
 match x_ with
 | (s,t,v,path)=>
 g33 (s,t,SValue.eta v) >>=fun r=>
 if(!r)=true then
 some ((⟨0,false,0,[],0,[],[],[]⟩:SValue),0,1)
 else
 g2t (t,path,0,s.Types,SValue.eta v,0,false,0,[],0) >>=fun o=>
 match o with
 | .inl o_1=>
 some ((⟨o_1.2.2.1,o_1.2.2.2.1,o_1.2.2.2.2.1,o_1.2.2.2.2.2.1,o_1.2.2.2.2.2.2,[],[],[]⟩:SValue),o_1.1,o_1.2.1)
 | .inr o_2=>
 some (SValue.eta o_2.2.1,o_2.1,0)
mutual
def g4v(x_:SSchema × Int × SValue) :Option (Bool):=
 match x_ with
 | (s,t,v)=>
 if inR t s.Types.length=true then
 some (s.Types.getD t.toNat dSType) >>=fun x0=>
 some (decide (x0.Kind=5)) >>=fun t19=>
 if t19=true then
 if t19=true then
 some (decide (0 < (v.Rest.length:Int)))
 else
 if decide (x0.Kind=4)=true then
 g3j (x0,v.ID) >>=fun r=>
 some (!r.2)
 else
 if decide (x0.Kind=8)=true then
 g2l (0,s.Types,SValue.eta v,x0) >>=fun o=>
 match o with
 | .inl o_1=>
 some o_1
 | .inr o_2=>
 some false
 else
 some false
 else
 if decide (x0.Kind=6)=true then
 some (decide (0 < (v.Rest.length:Int)))
 else
 if decide (x0.Kind=4)=true then
 g3j (x0,v.ID) >>=fun r_3=>
 some (!r_3.2)
 else
 if decide (x0.Kind=8)=true then
 g2l (0,s.Types,SValue.eta v,x0) >>=fun o_3=>
 match o_3 with
 | .inl o_4=>
 some o_4
 | .inr o_5=>
 some false
 else
 some false
 else none
  partial_fixpoint
def g2l(x_:Int × List SType × SValue × SType) :Option ((Bool) ⊕ (Unit)):=
 match x_ with
 | (i,b,b_1,b_2)=>
 if decide (i < (b_1.Keys.length:Int))=true then
 if inR i b_1.Keys.length=true then
 g4v ((⟨b⟩:SSchema),b_2.Key,SValue.eta (b_1.Keys.getD i.toNat dSValue)) >>=fun r_6=>
 if r_6=true then
 some (.inl true)
 else
 g2l (addI .i64 i 1,b,SValue.eta b_1,b_2)
 else none
 else
 some (.inr ())
  partial_fixpoint
end
def g3o(x_:Int × List (List Int) × Int × List SType × SValue × List (List Int)) :Option (List (List Int)):=
 match x_ with
 | (t_1,l,i,b_1,b_2,b_3)=>
 if decide (i < (l.length:Int))=true then
 if inR i l.length=true then
 gbv ((⟨b_1⟩:SSchema),t_1,SValue.eta b_2,l.getD i.toNat []) >>=fun r_2=>
 g4v ((⟨b_1⟩:SSchema),r_2.2.1,SValue.eta r_2.1) >>=fun r_6=>
 if r_6=true then
 if inR i l.length=true then
 some [l.getD i.toNat []] >>=fun t53=>
 if room 24 (b_3++t53).length=true then
 g3o (t_1,l,addI .i64 i 1,b_1,SValue.eta b_2,b_3++t53)
 else none
 else none
 else
 g3o (t_1,l,addI .i64 i 1,b_1,SValue.eta b_2,b_3)
 else none
 else
 some b_3
  partial_fixpoint
def gd2(x_:SSchema × Int × SValue) :Option (List (List Int) × Int):=
 match x_ with
 | (s,t,v)=>
 g4p (s,t,SValue.eta v) >>=fun r=>
 if(!(decide (r=0)))=true then
 some ([],r)
 else
 g3s (s,t,SValue.eta v) >>=fun r_1=>
 g3o (t,r_1,0,s.Types,SValue.eta v,[]) >>=fun o=>
 some (o,0)
end
section
open Go Go.Proofs.YtijpinendaoleaaGreat.Shv
open Tryz
set_option maxRecDepth 100000
mutual
def g1p(x_:SValue × SValue) :Option (SValue):=
 match x_ with
 | (old,new)=>
 g4c (SValue.eta new) >>=fun r=>
 if decide (new.Kind=5)=true then
 if room 24 ([]++old.Rest).length=true then
 g34 (0,SValue.eta old,SValue.eta new,0,false,0,[],0,r.1,r.2.1,r.2.2.1,r.2.2.2.1,r.2.2.2.2.1,r.2.2.2.2.2.1,r.2.2.2.2.2.2.1,[]++old.Rest) >>=fun o=>
 some (⟨o.2.2.2.2.2.1,o.2.2.2.2.2.2.1,o.2.2.2.2.2.2.2.1,o.2.2.2.2.2.2.2.2.1,o.2.2.2.2.2.2.2.2.2.1,o.2.2.2.2.2.2.2.2.2.2.1,o.2.2.2.2.2.2.2.2.2.2.2.1,o.2.2.2.2.2.2.2.2.2.2.2.2⟩:SValue)
 else none
 else
 some (decide (new.Kind=6)) >>=fun t41=>
 if t41=true then
 if t41=true then
 if(bif bif decide (old.ID=new.ID)then decide ((old.Items.length:Int)=1)else false then decide ((new.Items.length:Int)=1)else false)=true then
 if inR 0 old.Items.length=true then
 if inR 0 new.Items.length=true then
 g1p (SValue.eta (old.Items.getD (0:Int).toNat dSValue),SValue.eta (new.Items.getD (0:Int).toNat dSValue)) >>=fun r_9=>
 if inR 0 r.2.2.2.2.2.2.1.length=true then
 if decide ((0:Int).toNat < r.2.2.2.2.2.2.1.length)=true then
 some (⟨r.1,r.2.1,r.2.2.1,r.2.2.2.1,r.2.2.2.2.1,r.2.2.2.2.2.1,r.2.2.2.2.2.2.1.set (0:Int).toNat (SValue.eta r_9),r.2.2.2.2.2.2.2⟩:SValue)
 else none
 else none
 else none
 else none
 else
 some (⟨r.1,r.2.1,r.2.2.1,r.2.2.2.1,r.2.2.2.2.1,r.2.2.2.2.2.1,r.2.2.2.2.2.2.1,r.2.2.2.2.2.2.2⟩:SValue)
 else
 some (⟨r.1,r.2.1,r.2.2.1,r.2.2.2.1,r.2.2.2.2.1,r.2.2.2.2.2.1,r.2.2.2.2.2.2.1,r.2.2.2.2.2.2.2⟩:SValue)
 else
 if decide (new.Kind=9)=true then
 if(bif bif decide (old.ID=new.ID)then decide ((old.Items.length:Int)=1)else false then decide ((new.Items.length:Int)=1)else false)=true then
 if inR 0 old.Items.length=true then
 if inR 0 new.Items.length=true then
 g1p (SValue.eta (old.Items.getD (0:Int).toNat dSValue),SValue.eta (new.Items.getD (0:Int).toNat dSValue)) >>=fun r_10=>
 if inR 0 r.2.2.2.2.2.2.1.length=true then
 if decide ((0:Int).toNat < r.2.2.2.2.2.2.1.length)=true then
 some (⟨r.1,r.2.1,r.2.2.1,r.2.2.2.1,r.2.2.2.2.1,r.2.2.2.2.2.1,r.2.2.2.2.2.2.1.set (0:Int).toNat (SValue.eta r_10),r.2.2.2.2.2.2.2⟩:SValue)
 else none
 else none
 else none
 else none
 else
 some (⟨r.1,r.2.1,r.2.2.1,r.2.2.2.1,r.2.2.2.2.1,r.2.2.2.2.2.1,r.2.2.2.2.2.2.1,r.2.2.2.2.2.2.2⟩:SValue)
 else
 some (⟨r.1,r.2.1,r.2.2.1,r.2.2.2.1,r.2.2.2.2.1,r.2.2.2.2.2.1,r.2.2.2.2.2.2.1,r.2.2.2.2.2.2.2⟩:SValue)
  partial_fixpoint
def g34(x_:Int × SValue × SValue × Int × Bool × Int × List UInt8 × Int × Int × Bool × Int × List UInt8 × Int × List SValue × List SValue × List SRaw) :Option (Int × Bool × Int × List UInt8 × Int × Int × Bool × Int × List UInt8 × Int × List SValue × List SValue × List SRaw):=
 match x_ with
 | (i,b_13,b_14,b_15,b_16,b_17,b_18,b_19,b_20,b_21,b_22,b_23,b_24,b_25,b_26,b_27)=>
 if decide (i < (b_26.length:Int))=true then
 if inR i b_13.Items.length=true then
 if inR i b_14.Items.length=true then
 g1p (SValue.eta (b_13.Items.getD i.toNat dSValue),SValue.eta (b_14.Items.getD i.toNat dSValue)) >>=fun r_11=>
 if inR i b_26.length=true then
 if decide (i.toNat < b_26.length)=true then
 g34 (addI .i64 i 1,SValue.eta b_13,SValue.eta b_14,b_15,b_16,b_17,b_18,b_19,b_20,b_21,b_22,b_23,b_24,b_25,b_26.set i.toNat (SValue.eta r_11),b_27)
 else none
 else none
 else none
 else none
 else
 some (b_15,b_16,b_17,b_18,b_19,b_20,b_21,b_22,b_23,b_24,b_25,b_26,b_27)
  partial_fixpoint
end
theorem e69_k :KC e69:= .m (by kernel_rfl)
theorem gf4 :(∀h r,g1p h=some r→FD e69 h r)∧(∀h r,g34 h=some r→LD 69 0 [0] e69_0 h r):=g1p.mutual_partial_correctness (FD e69) (LD 69 0 [0] e69_0)
 (fun _ _ h0 h1 _ _ h=>FA e69 e69_k (.k gie (.k (FH e69 e69_k h0) .n)) (.k (LH e69_0 h1) .n) (.trans (by kernel_rfl) h))
 (fun _ _ h0 h1 _ _ h=>LA e69_0 h1 (.k (FH e69 e69_k h0) .n) .n (.trans (by kernel_rfl) h))
theorem gh9 :FC e69 g1p:= .of e69_k gf4.1
def g7p(x_:SSchema × Int × SValue × SValue) :Option (SValue × Int):=
 match x_ with
 | (s,t,old,new)=>
 g4p (s,t,SValue.eta old) >>=fun r=>
 if(!(decide (r=0)))=true then
 some ((⟨0,false,0,[],0,[],[],[]⟩:SValue),r)
 else
 g4q (s,t,SValue.eta new) >>=fun r_1=>
 if(!r_1)=true then
 some ((⟨0,false,0,[],0,[],[],[]⟩:SValue),1)
 else
 g1p (SValue.eta old,SValue.eta new) >>=fun r_2=>
 some (SValue.eta r_2,0)
theorem e28_k :KC e28:= .m (by kernel_rfl)
theorem gjb :FC e28 g7p:= .fn e28_k (.k gj8 (.k gj9 (.k gh9 .n))) .n fun _=>by kernel_rfl
def g27(x_:List Int × List Int × Int × Int) :Option ((Bool) ⊕ (Unit)):=
 match x_ with
 | (s1_1,s2_1,t12_1,t13)=>
 if decide (t13 < t12_1)=true then
 if inR t13 s1_1.length=true then
 if inR t13 s2_1.length=true then
 if(!(decide (s1_1.getD t13.toNat 0=s2_1.getD t13.toNat 0)))=true then
 some (.inl false)
 else
 g27 (s1_1,s2_1,t12_1,addI .i64 t13 1)
 else none
 else none
 else
 some (.inr ())
  partial_fixpoint
theorem ger :LC 32 0 [0] e32_0 g27:= .rc g27.partial_correctness .n .n fun _ _=>by kernel_rfl
def g5u(x_:List Int × List Int) :Option (Bool):=
 match x_ with
 | (s1,s2)=>
 if(!(decide ((s1.length:Int)=(s2.length:Int))))=true then
 some false
 else
 g27 (s1,s2,(s1.length:Int),0) >>=fun o=>
 match o with
 | .inl o_1=>
 some o_1
 | .inr o_2=>
 some true
theorem e32_k :KC e32:= .m (by kernel_rfl)
theorem gha :FC e32 g5u:= .fn e32_k .n (.k ger .n) fun _=>by kernel_rfl
def g70(x_:List Int × List Int) :Option (Bool × List Int):=
 match x_ with
 | (q,b)=>
 g5u (b,q) >>=fun r=>
 some (r,b)
theorem e31_k :KC e31:= .m (by kernel_rfl)
theorem gcv :FC e31 g70:= .fn e31_k (.k gha .n) .n fun _=>by kernel_rfl
def g1m(x_:List (List Int) × Int × Int × List Int) :Option ((Int × List Int) ⊕ (List Int)):=
 match x_ with
 | (s_1,t7_1,t8,b_3)=>
 if decide (t8 < t7_1)=true then
 if inR t8 s_1.length=true then
 g70 (s_1.getD t8.toNat [],b_3) >>=fun r=>
 if r.1=true then
 some (.inl (t8,r.2))
 else
 g1m (s_1,t7_1,addI .i64 t8 1,r.2)
 else none
 else
 some (.inr b_3)
  partial_fixpoint
theorem gbw :LC 70 1 [0] e70_0 g1m:= .rc g1m.partial_correctness (.k gcv .n) .n fun _ _=>by kernel_rfl
def g75(x_:List (List Int) × List Int) :Option (Int × List Int):=
 match x_ with
 | (s,b)=>
 g1m (s,(s.length:Int),0,b) >>=fun o=>
 match o with
 | .inl o_1=>
 some (o_1.1,o_1.2)
 | .inr o_2=>
 some ((-1),o_2)
theorem e70_k :KC e70:= .m (by kernel_rfl)
theorem gde :FC e70 g75:= .fn e70_k .n (.k gbw .n) fun _=>by kernel_rfl
def g53(x_:List (List Int) × List Int) :Option (Bool × List Int):=
 match x_ with
 | (s,b)=>
 g75 (s,b) >>=fun r=>
 some (decide (0≤r.1),r.2)
theorem e30_k :KC e30:= .m (by kernel_rfl)
theorem gbx :FC e30 g53:= .fn e30_k (.k gde .n) .n fun _=>by kernel_rfl
def g22(x_:List (List Int) × List (List Int) × Int × Int) :Option ((Bool) ⊕ (Unit)):=
 match x_ with
 | (m,t114,t115_1,t116)=>
 if decide (t116 < t115_1)=true then
 if inR t116 t114.length=true then
 g53 (m,t114.getD t116.toNat []) >>=fun r_27=>
 if(!r_27.1)=true then
 some (.inl false)
 else
 g22 (m,t114,t115_1,addI .i64 t116 1)
 else none
 else
 some (.inr ())
  partial_fixpoint
theorem gcm :LC 7 0 [0] e7_0 g22:= .rc g22.partial_correctness (.k gbx .n) .n fun _ _=>by kernel_rfl
end
section
open Go Go.Proofs.YtijpinendaoleaaGreat.Shv
open Tryz
set_option maxRecDepth 100000
def g60(x0:Sheavelaw13Two) :Option (Bool):=
 g85 x0.D >>=fun r=>
 g6d () >>=fun r_6=>
 if(bif (!r_6)then true else(!r.2.2.2.2))=true then
 g6d () >>=fun r_7=>
 some r_7
 else
 g6z (r.1,r.2.1,x0.C) >>=fun r_8=>
 gc9 (r.1,r.2.1,SValue.eta r.2.2.2.1,SValue.eta r_8) >>=fun r_9=>
 g7p (r.1,r.2.1,SValue.eta r.2.2.2.1,SValue.eta r_8) >>=fun r_12=>
 some (bif (!(decide (r_9.2=0)))then true else(!(decide (r_12.2=0)))) >>=fun t63=>
 (if(!t63)=true then g6e (SValue.eta r_9.1,SValue.eta r_12.1)else some false) >>=fun r_15=>
 some (bif t63 then true else(!r_15)) >>=fun t69=>
 (if(!t69)=true then g33 (r.1,r.2.1,SValue.eta r_9.1)else some false) >>=fun r_16=>
 if(bif t69 then true else(!r_16))=true then
 some false
 else
 gca (r.1,r.2.1,SValue.eta r_9.1) >>=fun r_17=>
 ga0 (r.1,r.2.1,SValue.eta r_9.1) >>=fun r_20=>
 ga0 (r.1,r.2.1,SValue.eta r.2.2.2.1) >>=fun r_23=>
 some (bif bif (!(decide (r_17.2=0)))then true else(!(decide (r_20.2=0)))then true else(!(decide (r_23.2=0)))) >>=fun t107=>
 (if(!t107)=true then g6e (SValue.eta r_17.1,SValue.eta r_8)else some false) >>=fun r_26=>
 if(bif t107 then true else(!r_26))=true then
 some false
 else
 g22 (r_23.1,r_20.1,(r_20.1.length:Int),0) >>=fun o=>
 match o with
 | .inl o_1=>
 some o_1
 | .inr o_2=>
 some true
theorem e7_k :KC e7:= .m (by kernel_rfl)
theorem gsj :FC e7 g60:= .fn e7_k (.k gmw (.k gix (.k gcl (.k gqw (.k gjb (.k gja (.k gch (.k gqy (.k gqt .n))))))))) (.k gcm .n) fun _=>by kernel_rfl
end
section
open Go Go.Proofs.YtijpinendaoleaaGreat.Shv
set_option maxRecDepth 100000
set_option linter.all false
end
section
open Go Go.Proofs.YtijpinendaoleaaGreat.Shv
set_option maxRecDepth 100000
set_option linter.all false
end
section
open Go Go.Proofs.YtijpinendaoleaaGreat.Shv
set_option maxRecDepth 100000
def vput(n:Nat) :List UInt8:=if n < 128 then[UInt8.ofNat n]else UInt8.ofNat (n % 128+128)::vput (n / 128)
termination_by n
decreasing_by omega
theorem g5j{n:Nat}(h:n < 256) :(UInt8.ofNat n).toNat=n:=by
 rw[UInt8.toNat_ofNat'];exact Nat.mod_eq_of_lt h
def g14f(p:List UInt8) :List UInt8:=vput p.length++p
theorem gko{n:Nat}(h:n≤9223372036854775807) :decide (n≤g61)=true:=by
 unfold g61;simp;omega
def g14g(id:Nat)(c:Bool)(p:List UInt8) :List UInt8:=vput (2*id+(if c then 1 else 0))++g14f p
end
section
open Go Go.Proofs.YtijpinendaoleaaGreat.Shv
set_option maxRecDepth 100000
inductive OkV:SValue→Prop
 | mk (v : SValue) (hs : v.Str.length ≤ reachBytes) (h1 : v.Keys.length ≤ reachBytes) (h2 : v.Items.length ≤ reachBytes) (h3 : v.Rest.length ≤ reachBytes)
     (hk:∀x,x∈v.Keys→OkV x) (hi:∀x,x∈v.Items→OkV x) (hr:∀x,x∈v.Rest→x.Data.length≤reachBytes)
     (n1: -9223372036854775808≤v.Kind∧v.Kind≤9223372036854775807) (n2: -9223372036854775808≤v.Int_∧v.Int_≤9223372036854775807) (n3: -9223372036854775808≤v.ID∧v.ID≤9223372036854775807)
     (n4:∀x,x∈v.Rest→-9223372036854775808≤x.ID∧x.ID≤9223372036854775807):OkV v
theorem g1e{n:Nat}(h:n≤reachBytes) :n < 9223372036854775807:=Nat.lt_of_le_of_lt h (by decide)
theorem scan {γ : Type} (L : Nat → Option γ) (n : Nat) (p : Nat → Bool) (bad good : γ) (hstep : ∀ i, i < n → L i = if p i = true then L (i + 1) else some bad) (hend : L n = some good) :
   (L 0=some good∧∀j,j < n→p j=true)∨(L 0=some bad∧∃j,j < n∧p j=false):=by
 have key:∀k i,i+k=n→(L i=some good∧∀j,i≤j→j < n→p j=true)∨(L i=some bad∧∃j,j < n∧p j=false):=by
   intro k
   induction k with
   | zero => intro i hi; have : i = n := by omega
             subst this;exact .inl ⟨hend,fun j h1 h2=>by omega⟩
   | succ k ih=>
     intro i hi;rw[hstep i (by omega)];cases hp:p i with
     | true=>
       rw[if_pos rfl];rcases ih (i+1) (by omega)with⟨h1,h2⟩ | h
       · refine .inl ⟨h1,fun j hj1 hj2=>?_⟩;rcases Nat.lt_or_ge i j with h | h
         · exact h2 j h hj2
         · have:j=i:=by omega
           subst this;exact hp
       · exact .inr h
     | false=>exact .inr ⟨by rw[if_neg (by simp)],i,by omega,hp⟩
 rcases key n 0 (by omega)with⟨h1,h2⟩ | h
 · exact .inl ⟨h1,fun j hj=>h2 j (Nat.zero_le _) hj⟩
 · exact .inr h
theorem gk{α:Type}{l:List α}{i:Nat}(h:i < l.length)(d:α) :l.getD i d=l[i]:=by
 rw[List.getD_eq_getElem?_getD,List.getElem?_eq_getElem h];rfl
theorem g6l {α : Type} {a b : List α} {p : Nat → Bool} (hl : a.length = b.length) (hp : ∀ (i : Nat) (h1 : i < a.length) (h2 : i < b.length), p i = true ↔ a[i] = b[i]) :
   (∀j,j < a.length→p j=true)↔a=b:=by
 constructor
 · intro h;exact List.ext_getElem hl fun i h1 h2=>(hp i h1 h2).1 (h i h1)
 · rintro rfl j hj
   exact(hp j hj hj).2 rfl
def Says{α:Type}(o:Option Bool)(a b:α) :Prop:=∃r,o=some r∧(r=true↔a=b)
theorem Says.of_scan {α : Type} {a b : List α} {p : Nat → Bool} (hl : a.length = b.length) (hp : ∀ (i : Nat) (h1 : i < a.length) (h2 : i < b.length), p i = true ↔ a[i] = b[i]) {o : Option Bool}
   (h:(o=some true∧∀j,j < a.length→p j=true)∨(o=some false∧∃j,j < a.length∧p j=false)):Says o a b:=by
 rcases h with⟨h1,h2⟩ | ⟨h1,j,h2,h3⟩
 · exact⟨true,h1,by simp[(g6l hl hp).1 h2]⟩
 · refine⟨false,h1,?_⟩;constructor
   · intro h;cases h
   · intro h;have:=(g6l hl hp).2 h j h2;rw[h3]at this;cases this
theorem gyl{a b:SRaw} :(eqI a.ID b.ID && (eqS a.Data b.Data && true))=true↔a=b:=by
 cases a;cases b;simp[eqI,eqS]
theorem gym{a b:SSymbol} :(eqI a.ID b.ID && (eqS a.Name b.Name && true))=true↔a=b:=by
 cases a;cases b;simp[eqI,eqS]
theorem g14h{α:Type}{a b:List α}(h:¬a.length=b.length) :a≠b:=fun e=>h (congrArg List.length e)
theorem gby{α:Type}{a b:List α}(h:¬a.length=b.length) :Says (some false) a b:=⟨false,rfl,by simp[g14h h]⟩
theorem g14i{a b:List SRaw}(ha:a.length≤reachBytes) :Says (g4s (a,b)) a b:=by
 rw[g4s];by_cases hl:a.length=b.length
 · rw[if_neg (by simp;omega)];have hr:=g1e ha;have:=scan (fun i=>g18 (a,b,(a.length:Int),(i:Int))) a.length (fun i=>eqI (a.getD i dSRaw).ID (b.getD i dSRaw).ID && (eqS (a.getD i dSRaw).Data (b.getD i dSRaw).Data && true)) (.inl false) (.inr ())
     (fun i hi=>by
       rw[g18,if_pos (by simp;omega),if_pos (g6 hi)];simp only[oZ4,oZ3,g7];rw[if_pos (g6 (by omega)),gp (by omega)];generalize (eqI (a.getD i dSRaw).ID (b.getD i dSRaw).ID && (eqS (a.getD i dSRaw).Data (b.getD i dSRaw).Data && true))=c
       cases c <;> rfl)
     (by rw[g18,if_neg (by simp)])
   have h0:g18 (a,b,(a.length:Int),((0:Nat):Int))=g18 (a,b,(a.length:Int),0):=rfl;simp only[h0]at this;refine Says.of_scan (p:=fun i=>eqI (a.getD i dSRaw).ID (b.getD i dSRaw).ID && (eqS (a.getD i dSRaw).Data (b.getD i dSRaw).Data && true)) hl (fun i h1 h2=>by simp only[gk h1,gk h2];exact gyl) ?_;rcases this with⟨h1,h2⟩ | ⟨h1,h2⟩
   · exact .inl ⟨by rw[h1];rfl,h2⟩
   · exact .inr ⟨by rw[h1];rfl,h2⟩
 · rw[if_pos (by simp;omega)];exact gby hl
theorem g14j{a b:List SSymbol}(ha:a.length≤reachBytes) :Says (g3h (a,b)) a b:=by
 rw[g3h];by_cases hl:a.length=b.length
 · rw[if_neg (by simp;omega)];have hr:=g1e ha;have:=scan (fun i=>gy (a,b,(a.length:Int),(i:Int))) a.length (fun i=>eqI (a.getD i dSSymbol).ID (b.getD i dSSymbol).ID && (eqS (a.getD i dSSymbol).Name (b.getD i dSSymbol).Name && true)) (.inl false) (.inr ())
     (fun i hi=>by
       rw[gy,if_pos (by simp;omega),if_pos (g6 hi)];simp only[oZ4,oZ3,g7];rw[if_pos (g6 (by omega)),gp (by omega)];generalize (eqI (a.getD i dSSymbol).ID (b.getD i dSSymbol).ID && (eqS (a.getD i dSSymbol).Name (b.getD i dSSymbol).Name && true))=c
       cases c <;> rfl)
     (by rw[gy,if_neg (by simp)])
   have h0:gy (a,b,(a.length:Int),((0:Nat):Int))=gy (a,b,(a.length:Int),0):=rfl;simp only[h0]at this;refine Says.of_scan (p:=fun i=>eqI (a.getD i dSSymbol).ID (b.getD i dSSymbol).ID && (eqS (a.getD i dSSymbol).Name (b.getD i dSSymbol).Name && true)) hl (fun i h1 h2=>by simp only[gk h1,gk h2];exact gym) ?_;rcases this with⟨h1,h2⟩ | ⟨h1,h2⟩
   · exact .inl ⟨by rw[h1];rfl,h2⟩
   · exact .inr ⟨by rw[h1];rfl,h2⟩
 · rw[if_pos (by simp;omega)];exact gby hl
theorem gfh(v:SValue) :(⟨v.Kind,v.Bool_,v.Int_,v.Str,v.ID,v.Keys,v.Items,v.Rest⟩:SValue)=v:=by cases v;rfl
theorem gfi{a b:SValue} :a=b↔a.Kind=b.Kind∧a.Bool_=b.Bool_∧a.Int_=b.Int_∧a.Str=b.Str∧a.ID=b.ID∧a.Rest=b.Rest∧a.Keys=b.Keys∧a.Items=b.Items:=by
 constructor
 · rintro rfl;exact⟨rfl,rfl,rfl,rfl,rfl,rfl,rfl,rfl⟩
 · cases a;cases b
   rintro ⟨h1,h2,h3,h4,h5,h6,h7,h8⟩
   simp only at*;subst h1;subst h2;subst h3;subst h4;subst h5;subst h6;subst h7;subst h8;rfl
section
variable {f:SValue × SValue→Option Bool}
theorem gof {a b : List SValue} (hl : a.length = b.length) (ih : ∀ x, x ∈ a → ∀ y, Says (f (x, y)) x y) (L : Nat → Option (Bool ⊕ Unit))
   (hstep:∀i,i < a.length→L i=(f (SValue.eta (a.getD i dSValue),SValue.eta (b.getD i dSValue)) >>=fun r=>if(!r)=true then some (.inl false)else L (i+1)))
   (hend:L a.length=some (.inr ())):Says (L 0 >>=fun o=>match o with | .inl x=>some x | .inr _=>some true) a b:=by
 have hget:∀(i:Nat) (h1:i < a.length) (h2:i < b.length),Says (f (SValue.eta (a.getD i dSValue),SValue.eta (b.getD i dSValue))) a[i] b[i]:=by
   intro i h1 h2;rw[gk h1,gk h2,SValue.ge,SValue.ge];exact ih _ (List.getElem_mem h1) _
 have:=scan L a.length (fun i=>(f (SValue.eta (a.getD i dSValue),SValue.eta (b.getD i dSValue))).getD false) (.inl false) (.inr ())
   (fun i hi=>by
     obtain⟨r,h1,h2⟩:=hget i hi (by omega);rw[hstep i hi,h1]
     cases r <;> rfl) hend
 refine Says.of_scan hl (fun i h1 h2=>?_) ?_ (p:=fun i=>(f (SValue.eta (a.getD i dSValue),SValue.eta (b.getD i dSValue))).getD false)
 · obtain⟨r,h3,h4⟩:=hget i h1 h2;rw[h3];exact h4
 · rcases this with⟨h1,h2⟩ | ⟨h1,h2⟩
   · exact .inl ⟨by rw[h1];rfl,h2⟩
   · exact .inr ⟨by rw[h1];rfl,h2⟩
end
theorem guh{a b:List SValue}(ha:a.length≤reachBytes)(ih:∀x,x∈a→∀y,Says (g4e (x,y)) x y) :Says (g13 (a,b)) a b:=by
 rw[g13];by_cases hl:a.length=b.length
 · rw[if_neg (by simp;omega)];have hr:=g1e ha;exact gof hl ih (fun i=>gt (b,a,(a.length:Int),(i:Int)))
     (fun i hi=>by
       rw[gt,if_pos (by simp;omega),if_pos (g6 hi),if_pos (g6 (by omega)),gp (by omega)]
       rfl)
     (by rw[gt,if_neg (by simp)])
 · rw[if_pos (by simp;omega)];exact gby hl
theorem gui{a b:List SValue}(ha:a.length≤reachBytes)(ih:∀x,x∈a→∀y,Says (g1o (x,y)) x y) :Says (g50 (a,b)) a b:=by
 rw[g50];by_cases hl:a.length=b.length
 · rw[if_neg (by simp;omega)];have hr:=g1e ha;exact gof hl ih (fun i=>g35 (a,b,(i:Int)))
     (fun i hi=>by
       rw[g35,if_pos (by simp;omega),if_pos (g6 hi),if_pos (g6 (by omega)),gp (by omega)]
       rfl)
     (by rw[g35,if_neg (by simp)])
 · rw[if_pos (by simp;omega)];exact gby hl
theorem three {a b : SValue} {h5 : Bool} (e5 : h5 = true ↔ a.Kind = b.Kind ∧ a.Bool_ = b.Bool_ ∧ a.Int_ = b.Int_ ∧ a.Str = b.Str ∧ a.ID = b.ID) {x y z : Option Bool} (hx : Says x a.Rest b.Rest) (hy : Says y a.Keys b.Keys) (hz : Says z a.Items b.Items) :
   Says (some h5 >>=fun t37=>(if t37=true then x else some false) >>=fun r=>some (bif t37 then r else false) >>=fun t44=>(if t44=true then y else some false) >>=fun r_1=>some (bif t44 then r_1 else false) >>=fun t51=>(if t51=true then z else some false) >>=fun r_2=>some (bif t51 then r_2 else false)) a b:=by
 obtain⟨rx,hx1,hx2⟩:=hx;obtain⟨ry,hy1,hy2⟩:=hy;obtain⟨rz,hz1,hz2⟩:=hz;subst hx1;subst hy1;subst hz1;refine⟨h5 && rx && ry && rz,?_,?_⟩
 · cases h5 <;> cases rx <;> cases ry <;> rfl
 · rw[gfi];simp only[Bool.and_eq_true];rw[e5,hx2,hy2,hz2];constructor
   · rintro ⟨⟨⟨⟨h1,h2,h3,h4,h5⟩,h6⟩,h7⟩,h8⟩;exact⟨h1,h2,h3,h4,h5,h6,h7,h8⟩
   · rintro ⟨h1,h2,h3,h4,h5,h6,h7,h8⟩;exact⟨⟨⟨⟨h1,h2,h3,h4,h5⟩,h6⟩,h7⟩,h8⟩
theorem five{a b:SValue} :(bif bif bif bif decide (a.Kind=b.Kind)then eqB a.Bool_ b.Bool_ else false then decide (a.Int_=b.Int_)else false then decide (a.Str=b.Str)else false then decide (a.ID=b.ID)else false)=true↔a.Kind=b.Kind∧a.Bool_=b.Bool_∧a.Int_=b.Int_∧a.Str=b.Str∧a.ID=b.ID:=by
 simp only[Bool.cond_eq_ite,eqB];by_cases h1:a.Kind=b.Kind <;> by_cases h2:a.Bool_=b.Bool_ <;> by_cases h3:a.Int_=b.Int_ <;> by_cases h4:a.Str=b.Str <;> simp[h1,h2,h3,h4]
theorem gdf{a:SValue}(h:OkV a) :∀b,Says (g4e (a,b)) a b:=by
 induction h with
 | mk a hs h1 h2 h3 hk hi hr n1 n2 n3 n4 ihk ihi=>
   intro b;rw[g4e];exact three five (g14i h3) (guh h1 ihk) (guh h2 ihi)
theorem gpg{a:SValue}(h:OkV a) :∀b,Says (g1o (a,b)) a b:=by
 induction h with
 | mk a hs h1 h2 h3 hk hi hr n1 n2 n3 n4 ihk ihi=>
   intro b;rw[g1o];by_cases h5:a.Kind=b.Kind∧a.Bool_=b.Bool_∧a.Int_=b.Int_∧a.Str=b.Str∧a.ID=b.ID∧a.Rest.length=b.Rest.length
   · obtain⟨e1,e2,e3,e4,e5,e6⟩:=h5;rw[if_neg (by simp[e1,e2,e3,e4,e5,e6,eqB])];have hr3:=g1e h3;have hsc:=scan (fun i=>g1t ((i:Int),a,b)) a.Rest.length (fun i=>eqI (a.Rest.getD i dSRaw).ID (b.Rest.getD i dSRaw).ID && (eqS (a.Rest.getD i dSRaw).Data (b.Rest.getD i dSRaw).Data && true)) (.inl false) (.inr (a,b))
       (fun i hi'=>by
         rw[g1t,if_pos (by simp;omega),if_pos (g6 hi')];simp only[oZ4,oZ3,g7,SValue.ge];rw[if_pos (g6 (by omega)),gp (by omega)];generalize (eqI (a.Rest.getD i dSRaw).ID (b.Rest.getD i dSRaw).ID && (eqS (a.Rest.getD i dSRaw).Data (b.Rest.getD i dSRaw).Data && true))=c
         cases c <;> rfl)
       (by rw[g1t,if_neg (by simp),SValue.ge,SValue.ge])
     have h0:g1t (((0:Nat):Int),a,b)=g1t (0,a,b):=rfl;simp only[h0]at hsc;rw[gfh,gfh];have hp:∀(i:Nat) (h1:i < a.Rest.length) (h2:i < b.Rest.length),(eqI (a.Rest.getD i dSRaw).ID (b.Rest.getD i dSRaw).ID && (eqS (a.Rest.getD i dSRaw).Data (b.Rest.getD i dSRaw).Data && true))=true↔a.Rest[i]=b.Rest[i]:=fun i h1 h2=>by
       rw[gk h1,gk h2];exact gyl
     rcases hsc with⟨g1,g2⟩ | ⟨g1,j,g2,g3⟩
     · have hrest:=(g6l e6 hp).1 g2;rw[g1];obtain⟨rk,k1,k2⟩:=gui (a:=a.Keys) (b:=b.Keys) h1 ihk;obtain⟨ri,i1,i2⟩:=gui (a:=a.Items) (b:=b.Items) h2 ihi;simp only[oZ4,oZ3];rw[k1,i1];refine⟨rk && ri,by cases rk <;> rfl,?_⟩;rw[gfi,Bool.and_eq_true,k2,i2];constructor
       · rintro ⟨q1,q2⟩;exact⟨e1,e2,e3,e4,e5,hrest,q1,q2⟩
       · rintro ⟨_,_,_,_,_,_,q1,q2⟩;exact⟨q1,q2⟩
     · rw[g1];refine⟨false,rfl,?_⟩;constructor
       · intro h;cases h
       · intro h;have:=(g6l e6 hp).2 (gfi.1 h).2.2.2.2.2.1 j g2;rw[g3]at this;cases this
   · rw[if_pos]
     · refine⟨false,rfl,?_⟩;constructor
       · intro h;cases h
       · intro h
         exfalso;apply h5
         obtain⟨q1,q2,q3,q4,q5,q6,_⟩:=gfi.1 h;exact⟨q1,q2,q3,q4,q5,by rw[q6]⟩
     · simp only[Bool.cond_eq_ite,eqB];by_cases q1:a.Kind=b.Kind <;> by_cases q2:a.Bool_=b.Bool_ <;> by_cases q3:a.Int_=b.Int_ <;> by_cases q4:a.Str=b.Str <;> by_cases q5:a.ID=b.ID <;> simp[q1,q2,q3,q4,q5]
       intro q6;exact h5 ⟨q1,q2,q3,q4,q5,by omega⟩
end
section
open Go Go.Proofs.YtijpinendaoleaaGreat.Shv
set_option maxRecDepth 100000
def g86(c:Int) :Bool:=decide (c=95∨(97≤c∧c≤122)∨(65≤c∧c≤90))
def gkp(c:Int) :Bool:=decide (48≤c∧c≤57)
theorem gfj(c:Int) :g7w c=some (g86 c):=by
 rw[g7w];unfold g86
 congr 1
 by_cases h1:c=95 <;> by_cases h2:97≤c <;> by_cases h3:c≤122 <;> by_cases h4:65≤c <;> by_cases h5:c≤90 <;> simp[h1,h2,h3,h4,h5] <;> omega
theorem gq8(c:Int) :g66 c=some (g86 c):=by
 rw[g66];unfold g86
 congr 1
 by_cases h1:c=95 <;> by_cases h2:97≤c <;> by_cases h3:c≤122 <;> by_cases h4:65≤c <;> by_cases h5:c≤90 <;> simp[h1,h2,h3,h4,h5] <;> omega
theorem g10b(c:Int) :ga7 c=some (gkp c):=by
 rw[ga7];unfold gkp;by_cases h2:48≤c <;> by_cases h3:c≤57 <;> simp[h2,h3]
theorem g10c(c:Int) :g7o c=some (gkp c):=by
 rw[g7o];unfold gkp;by_cases h2:48≤c <;> by_cases h3:c≤57 <;> simp[h2,h3]
theorem gsk {γ : Type} (A B I : Bool) (X Y : Option γ) (hI : I = true) :
   (some A >>=fun r_1=>some (!r_1) >>=fun t26=>if(I || (!t26))=true then(if t26=true then some B else some false) >>=fun r_2=>if(bif t26 then(!r_2)else false)=true then X else Y else none)=if(A || B)=true then Y else X:=by
 subst hI;cases A <;> cases B <;> rfl
theorem guj(s:List UInt8) :∃r,g31 s=some r∧g4a s=some r:=by
 rw[g31,g4a];simp only[oZ4,oZ3];by_cases hb:s=[]∨24 < s.length
 · have ht:(bif decide (s=[])then true else decide (24 < (s.length:Int)))=true:=by
     rcases hb with h | h
     · simp[h]
     · simp;omega
   rw[ht];exact⟨false,by simp,by simp⟩
 · have hne:s≠[]:=fun h=>hb (.inl h)
   have hlen:s.length≤24:=by omega
   have ht:(bif decide (s=[])then true else decide (24 < (s.length:Int)))=false:=by
     simp[hne];omega
   have hpos:0 < s.length:=List.length_pos_iff.2 hne;have hin:inR 0 s.length=true:=g6 (k:=0) hpos;simp only[ht,hin,Bool.true_or,if_true,Bool.not_false,oZ3,gfj,gq8,cond_false];cases hl:g86 (g6v s 0)with
   | false=>exact⟨false,rfl,rfl⟩
   | true=>
     rw[if_neg (by simp),if_neg (by simp)]
     let p:Nat→Bool:=fun i=>g86 (g6v s i) || gkp (g6v s i)
     have s1:=scan (fun i=>g28 (s,(s.length:Int),(i:Int))) s.length p (.inl false) (.inr ())
       (fun i hi=>by
         rw[g28,if_pos (by simp;omega),if_pos (g6 hi),gfj,g10b,gp (by omega)]
         exact gsk _ _ _ _ _ (g6 hi))
       (by rw[g28,if_neg (by simp)])
     have s2:=scan (fun i=>g29 (s,(i:Int))) s.length p (.inl false) (.inr ())
       (fun i hi=>by
         rw[g29,if_pos (by simp;omega),if_pos (g6 hi),gq8,g10c,gp (by omega)]
         exact gsk _ _ _ _ _ (g6 hi))
       (by rw[g29,if_neg (by simp)])
     have e1:g28 (s,(s.length:Int),((0:Nat):Int))=g28 (s,(s.length:Int),0):=rfl;have e2:g29 (s,((0:Nat):Int))=g29 (s,0):=rfl;simp only[e1,e2]at s1 s2;rcases s1 with⟨a1,a2⟩ | ⟨a1,j,a2,a3⟩ <;> rcases s2 with⟨b1,b2⟩ | ⟨b1,k,b2,b3⟩
     · exact⟨true,by rw[a1];rfl,by rw[b1];rfl⟩
     · have:=a2 k b2;rw[b3]at this;cases this
     · have:=b2 j a2;rw[a3]at this;cases this
     · exact⟨false,by rw[a1];rfl,by rw[b1];rfl⟩
def nm(s:List UInt8) :Bool:=(g31 s).getD false
theorem lexNm(s:List UInt8) :g31 s=some (nm s):=by
 obtain⟨r,h1,_⟩:=guj s;unfold nm;rw[h1];rfl
theorem refNm(s:List UInt8) :g4a s=some (nm s):=by
 obtain⟨r,h1,h2⟩:=guj s;unfold nm;rw[h1,h2];rfl
theorem nm_ne{s:List UInt8}(h:nm s=true) :s≠[]:=by
 rintro rfl
 unfold nm at h;rw[g31]at h;simp at h
def idp(l:List Int)(names:List (List UInt8))(i:Nat) :Bool:=
 decide (1≤l.getD i 0) && decide (l.getD i 0≤1000) && (decide (i=0) || decide (l.getD (i - 1) 0 < l.getD i 0)) && nm (names.getD i []) && !((names.take i).contains (names.getD i []))
def setOf(l:List (List UInt8)) :List (List UInt8):=l.foldl addS []
theorem g10d(ks:List (List UInt8))(a s:List UInt8) :hasS (addS ks a) s=(hasS ks s || decide (a=s)):=by
 unfold addS;split
 · rename_i h;by_cases e:a=s
   · subst e;simp[h]
   · simp[e]
 · simp[hasS,List.any_append]
theorem gog(l:List (List UInt8))(s:List UInt8) :hasS (setOf l) s=l.contains s:=by
 have key:∀(l:List (List UInt8)) (ks:List (List UInt8)),hasS (l.foldl addS ks) s=(hasS ks s || l.contains s):=by
   intro l
   induction l with
   | nil=>intro ks;simp
   | cons a r ih=>
     intro ks;rw[List.foldl_cons,ih,g10d,Bool.or_assoc]
     congr 1
     rw[List.contains_cons]
     congr 1
     by_cases e:a=s
     · subst e;simp
     · have:¬s=a:=fun h=>e h.symm
       simp[e,this]
 have:=key l []
 simpa[setOf,hasS]using this
theorem goh{l:List (List UInt8)}{i:Nat}(h:i < l.length) :addS (setOf (l.take i)) (l.getD i [])=setOf (l.take (i+1)):=by
 unfold setOf;rw[List.take_add_one,List.foldl_append,List.getElem?_eq_getElem h,gk h];rfl
theorem g11d {γ : Type} (A Z I1 C I H N : Bool) (X Y : Option γ) (hI : I = true) (hI1 : Z = true → I1 = true) :
   (if(I1 || (!((!A) && Z)))=true then
     some (bif A then true else bif Z then C else false) >>=fun t34=>
     if(I || (!(!t34)))=true then
       some (bif t34 then true else H) >>=fun t42=>
       if(I || (!(!t42)))=true then
         (if(!t42)=true then some N else some false) >>=fun r=>
         if(bif t42 then true else(!r))=true then X else(if I=true then Y else none)
       else none
     else none
   else none)=if(!A && (!Z || !C) && N && !H)=true then Y else X:=by
 subst hI;cases Z with
 | true=>have:=hI1 rfl;subst this;cases A <;> cases C <;> cases H <;> cases N <;> rfl
 | false=>cases A <;> cases I1 <;> cases C <;> cases H <;> cases N <;> rfl
theorem gyn{l:List Int}{names:List (List UInt8)}(hl:l.length≤reachBytes)(hn:names.length=l.length) :∃r,gb1 (l,names)=some r∧(r=true↔(∀i,i < l.length→idp l names i=true)∧l.length≤16):=by
 rw[gb1];have hr:=g1e hl;have hsc:=scan (fun i=>g52 (l,names,l,(l.length:Int),(i:Int),setOf (names.take i))) l.length (idp l names) (.inl false) (.inr l)
   (fun i hi=>by
     have hin:i < names.length:=by omega
     rw[g52,if_pos (by simp;omega),if_pos (g6 hi)];simp only[g7];rw[lexNm,gp (by omega),goh hin,gog];have hsub:0 < i→subI .i64 (i:Int) 1=((i - 1:Nat):Int):=by
       intro h;rw[gaz (by omega) (by omega)];omega
     refine(g11d (bif decide (l.getD i 0 < 1)then true else decide (1000 < l.getD i 0)) (decide ((0:Int) < (i:Int))) (inR (subI .i64 (i:Int) 1) l.length) (decide (l.getD i 0≤l.getD (subI .i64 (i:Int) 1).toNat 0)) (inR (i:Int) names.length) ((names.take i).contains (names.getD i [])) (nm (names.getD i [])) _ _ (g6 hin) (fun hz=>?_)).trans ?_
     · have hpos:0 < i:=by simp at hz;omega
       rw[hsub hpos];exact g6 (by omega)
     · have:(!(bif decide (l.getD i 0 < 1)then true else decide (1000 < l.getD i 0)) && (!(decide ((0:Int) < (i:Int))) || !(decide (l.getD i 0≤l.getD (subI .i64 (i:Int) 1).toNat 0))) && nm (names.getD i []) && !((names.take i).contains (names.getD i [])))=idp l names i:=by
         unfold idp;generalize nm (names.getD i [])=N;generalize (names.take i).contains (names.getD i [])=H;generalize l.getD i 0=x;by_cases h0:i=0
         · subst h0;cases N <;> cases H <;> by_cases h1:1≤x <;> by_cases h2:x≤1000 <;> simp[h1,h2] <;> omega
         · have hz:decide ((0:Int) < (i:Int))=true:=by simp;omega
           rw[hz,hsub (by omega),g7];generalize l.getD (i - 1) 0=y;cases N <;> cases H <;> by_cases h1:1≤x <;> by_cases h2:x≤1000 <;> by_cases h3:y < x <;> simp[h0,h1,h2,h3] <;> omega
       rw[this])
   (by rw[g52,if_neg (by simp)])
 have e0:g52 (l,names,l,(l.length:Int),((0:Nat):Int),setOf (names.take 0))=g52 (l,names,l,(l.length:Int),0,[]):=rfl;simp only[e0]at hsc;rcases hsc with⟨h1,h2⟩ | ⟨h1,j,h2,h3⟩
 · rw[h1];refine⟨decide ((l.length:Int)≤16),rfl,?_⟩;simp only[decide_eq_true_eq];constructor
   · intro h;exact⟨h2,by omega⟩
   · intro h;omega
 · rw[h1];refine⟨false,rfl,?_⟩;constructor
   · intro h;cases h
   · rintro ⟨h,_⟩
     have:=h j h2;rw[h3]at this;cases this
end
end Go.Proofs.YtijpinendaoleaaGreat
