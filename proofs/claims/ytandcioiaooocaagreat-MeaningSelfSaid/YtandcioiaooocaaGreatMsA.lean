/- The functions of the program as functions of Lean, that its code does what they say, and what they answer; part A. -/
import Derived.Test.YtandcioiaooocaaGreatProg
import Derived.KernelRfl
import Derived.Shelf.SlGeneric
import Derived.Shelf.SlLaysF0
import Derived.Shelf.SlSortCmp.WholeK
import Derived.Lib.Small
import Derived.Test.YtandcioiaooocaaGreatMsLD

namespace Go.Proofs.YtandcioiaooocaaGreat
set_option linter.all false
section
open Go Go.Proofs.YtandcioiaooocaaGreat.Shv
open Tryz
set_option maxRecDepth 100000
structure Sheaveref07Part where
 ID:Int
 Type_:Int
 Flag:Int
structure Sheaveref07Node where
 Kind:Int
 A:Int
 B:Int
 C:Int
 Parts:List Sheaveref07Part
structure Sheaveref07Draft where
 Nodes:List Sheaveref07Node
structure Sheaveref08Draft where
 S:Sheaveref07Draft
 T:Int
 C:List Int
structure SSymbol where
 ID:Int
 Name:List UInt8
structure SRaw where
 ID:Int
 Data:List UInt8
structure SValue where
 Kind:Int
 Bool_:Bool
 Int_:Int
 Str:List UInt8
 ID:Int
 Keys:List SValue
 Items:List SValue
 Rest:List SRaw
structure SMember where
 ID:Int
 Name:List UInt8
 Type_:Int
 Critical:Bool
 HasDefault:Bool
 Default:SValue
structure SType where
 Kind:Int
 Name:List UInt8
 Low:Int
 High:Int
 Max:Int
 Symbols:List SSymbol
 Members:List SMember
 Key:Int
 Elem:Int
 Open:Bool
structure SSchema where
 Types:List SType
structure EncodeEntry where
 id:Int
 text:List UInt8
structure Sheavelaw14Job where
 W:SSchema
 R:SSchema
 WT:Int
 RT:Int
 V:SValue
structure SField where
 ID:Int
 Critical:Bool
 Data:List UInt8
structure SFailure where
 Path:List Int
 Reason:Int
structure Sheaveref10Result where
 Value:SValue
 Failure:SFailure
 OK:Bool
structure Sheaveref14Result where
 Value:SValue
 Path:List Int
 OK:Bool
abbrev ixSheaveref08Draft :Nat:=0
abbrev ixSheaveref07Node :Nat:=2
abbrev ixSheaveref07Part :Nat:=3
def dSheaveref07Part :Sheaveref07Part:=⟨0,0,0⟩
def dSheaveref07Node :Sheaveref07Node:=⟨0,0,0,0,[]⟩
def dSheaveref07Draft :Sheaveref07Draft:=⟨[]⟩
def dSheaveref08Draft :Sheaveref08Draft:=⟨dSheaveref07Draft,0,[]⟩
def dSSymbol :SSymbol:=⟨0,[]⟩
def dSRaw :SRaw:=⟨0,[]⟩
def dSValue :SValue:=⟨0,false,0,[],0,[],[],[]⟩
def dSMember :SMember:=⟨0,[],0,false,false,dSValue⟩
def dSType :SType:=⟨0,[],0,0,0,[],[],0,0,false⟩
def dSSchema :SSchema:=⟨[]⟩
def dEncodeEntry :EncodeEntry:=⟨0,[]⟩
def dSheavelaw14Job :Sheavelaw14Job:=⟨dSSchema,dSSchema,0,0,dSValue⟩
def dSField :SField:=⟨0,false,[]⟩
def dSFailure :SFailure:=⟨[],0⟩
def dSheaveref10Result :Sheaveref10Result:=⟨dSValue,dSFailure,false⟩
def dSheaveref14Result :Sheaveref14Result:=⟨dSValue,[],false⟩
def uD :Nat→Type
 | 0=>Sheaveref08Draft
 | 1=>Sheaveref07Draft
 | 2=>Sheaveref07Node
 | 3=>Sheaveref07Part
 | 4=>SType
 | 5=>SSymbol
 | 6=>SMember
 | 7=>SValue
 | 8=>SRaw
 | 9=>SSchema
 | 10=>EncodeEntry
 | 11=>Sheavelaw14Job
 | 12=>SField
 | 13=>SFailure
 | 14=>Sheaveref10Result
 | 15=>Sheaveref14Result
 | _=>Bool
def uTys :Nat→List Ty
 | 0=>[.slice (.nm 2),.int .u8,.slice (.int .u8)]
 | 1=>[.slice (.nm 2)]
 | 2=>[.int .u8,.int .u8,.int .u8,.int .u8,.slice (.nm 3)]
 | 3=>[.int .u8,.int .u8,.int .u8]
 | 4=>[.int .i64,.str,.int .i64,.int .i64,.int .i64,.slice (.nm 5),.slice (.nm 6),.int .i64,.int .i64,.bool]
 | 5=>[.int .i64,.str]
 | 6=>[.int .i64,.str,.int .i64,.bool,.bool,.int .i64,.bool,.int .i64,.str,.int .i64,.slice (.nm 7),.slice (.nm 7),.slice (.nm 8)]
 | 7=>[.int .i64,.bool,.int .i64,.str,.int .i64,.slice (.nm 7),.slice (.nm 7),.slice (.nm 8)]
 | 8=>[.int .i64,.str]
 | 9=>[.slice (.nm 4)]
 | 10=>[.int .i64,.str]
 | 11=>[.slice (.nm 4),.slice (.nm 4),.int .i64,.int .i64,.int .i64,.bool,.int .i64,.str,.int .i64,.slice (.nm 7),.slice (.nm 7),.slice (.nm 8)]
 | 12=>[.int .i64,.bool,.str]
 | 13=>[.slice (.int .i64),.int .i64]
 | 14=>[.int .i64,.bool,.int .i64,.str,.int .i64,.slice (.nm 7),.slice (.nm 7),.slice (.nm 8),.slice (.int .i64),.int .i64,.bool]
 | 15=>[.int .i64,.bool,.int .i64,.str,.int .i64,.slice (.nm 7),.slice (.nm 7),.slice (.nm 8),.slice (.int .i64),.bool]
 | _=>[.bool]
def uFlds :(n:Nat)→uD n→List (Cell uD)
 | 0,(x:Sheaveref08Draft)=>[⟨.slice (.nm 2),x.S.Nodes⟩,⟨.int .u8,x.T⟩,⟨.slice (.int .u8),x.C⟩]
 | 1,(x:Sheaveref07Draft)=>[⟨.slice (.nm 2),x.Nodes⟩]
 | 2,(x:Sheaveref07Node)=>[⟨.int .u8,x.Kind⟩,⟨.int .u8,x.A⟩,⟨.int .u8,x.B⟩,⟨.int .u8,x.C⟩,⟨.slice (.nm 3),x.Parts⟩]
 | 3,(x:Sheaveref07Part)=>[⟨.int .u8,x.ID⟩,⟨.int .u8,x.Type_⟩,⟨.int .u8,x.Flag⟩]
 | 4,(x:SType)=>[⟨.int .i64,x.Kind⟩,⟨.str,x.Name⟩,⟨.int .i64,x.Low⟩,⟨.int .i64,x.High⟩,⟨.int .i64,x.Max⟩,⟨.slice (.nm 5),x.Symbols⟩,⟨.slice (.nm 6),x.Members⟩,⟨.int .i64,x.Key⟩,⟨.int .i64,x.Elem⟩,⟨.bool,x.Open⟩]
 | 5,(x:SSymbol)=>[⟨.int .i64,x.ID⟩,⟨.str,x.Name⟩]
 | 6,(x:SMember)=>[⟨.int .i64,x.ID⟩,⟨.str,x.Name⟩,⟨.int .i64,x.Type_⟩,⟨.bool,x.Critical⟩,⟨.bool,x.HasDefault⟩,⟨.int .i64,x.Default.Kind⟩,⟨.bool,x.Default.Bool_⟩,⟨.int .i64,x.Default.Int_⟩,⟨.str,x.Default.Str⟩,⟨.int .i64,x.Default.ID⟩,⟨.slice (.nm 7),x.Default.Keys⟩,⟨.slice (.nm 7),x.Default.Items⟩,⟨.slice (.nm 8),x.Default.Rest⟩]
 | 7,(x:SValue)=>[⟨.int .i64,x.Kind⟩,⟨.bool,x.Bool_⟩,⟨.int .i64,x.Int_⟩,⟨.str,x.Str⟩,⟨.int .i64,x.ID⟩,⟨.slice (.nm 7),x.Keys⟩,⟨.slice (.nm 7),x.Items⟩,⟨.slice (.nm 8),x.Rest⟩]
 | 8,(x:SRaw)=>[⟨.int .i64,x.ID⟩,⟨.str,x.Data⟩]
 | 9,(x:SSchema)=>[⟨.slice (.nm 4),x.Types⟩]
 | 10,(x:EncodeEntry)=>[⟨.int .i64,x.id⟩,⟨.str,x.text⟩]
 | 11,(x:Sheavelaw14Job)=>[⟨.slice (.nm 4),x.W.Types⟩,⟨.slice (.nm 4),x.R.Types⟩,⟨.int .i64,x.WT⟩,⟨.int .i64,x.RT⟩,⟨.int .i64,x.V.Kind⟩,⟨.bool,x.V.Bool_⟩,⟨.int .i64,x.V.Int_⟩,⟨.str,x.V.Str⟩,⟨.int .i64,x.V.ID⟩,⟨.slice (.nm 7),x.V.Keys⟩,⟨.slice (.nm 7),x.V.Items⟩,⟨.slice (.nm 8),x.V.Rest⟩]
 | 12,(x:SField)=>[⟨.int .i64,x.ID⟩,⟨.bool,x.Critical⟩,⟨.str,x.Data⟩]
 | 13,(x:SFailure)=>[⟨.slice (.int .i64),x.Path⟩,⟨.int .i64,x.Reason⟩]
 | 14,(x:Sheaveref10Result)=>[⟨.int .i64,x.Value.Kind⟩,⟨.bool,x.Value.Bool_⟩,⟨.int .i64,x.Value.Int_⟩,⟨.str,x.Value.Str⟩,⟨.int .i64,x.Value.ID⟩,⟨.slice (.nm 7),x.Value.Keys⟩,⟨.slice (.nm 7),x.Value.Items⟩,⟨.slice (.nm 8),x.Value.Rest⟩,⟨.slice (.int .i64),x.Failure.Path⟩,⟨.int .i64,x.Failure.Reason⟩,⟨.bool,x.OK⟩]
 | 15,(x:Sheaveref14Result)=>[⟨.int .i64,x.Value.Kind⟩,⟨.bool,x.Value.Bool_⟩,⟨.int .i64,x.Value.Int_⟩,⟨.str,x.Value.Str⟩,⟨.int .i64,x.Value.ID⟩,⟨.slice (.nm 7),x.Value.Keys⟩,⟨.slice (.nm 7),x.Value.Items⟩,⟨.slice (.nm 8),x.Value.Rest⟩,⟨.slice (.int .i64),x.Path⟩,⟨.bool,x.OK⟩]
 | _+16,(x:Bool)=>[⟨.bool,x⟩]
def uMake :(n:Nat)→List (Cell uD)→Option (uD n)
 | 0,l=>match Hs.dec uD (uTys 0) l with
   | some h=>some (⟨(⟨h.1⟩:Sheaveref07Draft),h.2.1,h.2.2⟩:Sheaveref08Draft)
   | none=>none
 | 1,l=>match Hs.dec uD (uTys 1) l with
   | some h=>some (⟨h⟩:Sheaveref07Draft)
   | none=>none
 | 2,l=>match Hs.dec uD (uTys 2) l with
   | some h=>some (⟨h.1,h.2.1,h.2.2.1,h.2.2.2.1,h.2.2.2.2⟩:Sheaveref07Node)
   | none=>none
 | 3,l=>match Hs.dec uD (uTys 3) l with
   | some h=>some (⟨h.1,h.2.1,h.2.2⟩:Sheaveref07Part)
   | none=>none
 | 4,l=>match Hs.dec uD (uTys 4) l with
   | some h=>some (⟨h.1,h.2.1,h.2.2.1,h.2.2.2.1,h.2.2.2.2.1,h.2.2.2.2.2.1,h.2.2.2.2.2.2.1,h.2.2.2.2.2.2.2.1,h.2.2.2.2.2.2.2.2.1,h.2.2.2.2.2.2.2.2.2⟩:SType)
   | none=>none
 | 5,l=>match Hs.dec uD (uTys 5) l with
   | some h=>some (⟨h.1,h.2⟩:SSymbol)
   | none=>none
 | 6,l=>match Hs.dec uD (uTys 6) l with
   | some h=>some (⟨h.1,h.2.1,h.2.2.1,h.2.2.2.1,h.2.2.2.2.1,(⟨h.2.2.2.2.2.1,h.2.2.2.2.2.2.1,h.2.2.2.2.2.2.2.1,h.2.2.2.2.2.2.2.2.1,h.2.2.2.2.2.2.2.2.2.1,h.2.2.2.2.2.2.2.2.2.2.1,h.2.2.2.2.2.2.2.2.2.2.2.1,h.2.2.2.2.2.2.2.2.2.2.2.2⟩:SValue)⟩:SMember)
   | none=>none
 | 7,l=>match Hs.dec uD (uTys 7) l with
   | some h=>some (⟨h.1,h.2.1,h.2.2.1,h.2.2.2.1,h.2.2.2.2.1,h.2.2.2.2.2.1,h.2.2.2.2.2.2.1,h.2.2.2.2.2.2.2⟩:SValue)
   | none=>none
 | 8,l=>match Hs.dec uD (uTys 8) l with
   | some h=>some (⟨h.1,h.2⟩:SRaw)
   | none=>none
 | 9,l=>match Hs.dec uD (uTys 9) l with
   | some h=>some (⟨h⟩:SSchema)
   | none=>none
 | 10,l=>match Hs.dec uD (uTys 10) l with
   | some h=>some (⟨h.1,h.2⟩:EncodeEntry)
   | none=>none
 | 11,l=>match Hs.dec uD (uTys 11) l with
   | some h=>some (⟨(⟨h.1⟩:SSchema),(⟨h.2.1⟩:SSchema),h.2.2.1,h.2.2.2.1,(⟨h.2.2.2.2.1,h.2.2.2.2.2.1,h.2.2.2.2.2.2.1,h.2.2.2.2.2.2.2.1,h.2.2.2.2.2.2.2.2.1,h.2.2.2.2.2.2.2.2.2.1,h.2.2.2.2.2.2.2.2.2.2.1,h.2.2.2.2.2.2.2.2.2.2.2⟩:SValue)⟩:Sheavelaw14Job)
   | none=>none
 | 12,l=>match Hs.dec uD (uTys 12) l with
   | some h=>some (⟨h.1,h.2.1,h.2.2⟩:SField)
   | none=>none
 | 13,l=>match Hs.dec uD (uTys 13) l with
   | some h=>some (⟨h.1,h.2⟩:SFailure)
   | none=>none
 | 14,l=>match Hs.dec uD (uTys 14) l with
   | some h=>some (⟨(⟨h.1,h.2.1,h.2.2.1,h.2.2.2.1,h.2.2.2.2.1,h.2.2.2.2.2.1,h.2.2.2.2.2.2.1,h.2.2.2.2.2.2.2.1⟩:SValue),(⟨h.2.2.2.2.2.2.2.2.1,h.2.2.2.2.2.2.2.2.2.1⟩:SFailure),h.2.2.2.2.2.2.2.2.2.2⟩:Sheaveref10Result)
   | none=>none
 | 15,l=>match Hs.dec uD (uTys 15) l with
   | some h=>some (⟨(⟨h.1,h.2.1,h.2.2.1,h.2.2.2.1,h.2.2.2.2.1,h.2.2.2.2.2.1,h.2.2.2.2.2.2.1,h.2.2.2.2.2.2.2.1⟩:SValue),h.2.2.2.2.2.2.2.2.1,h.2.2.2.2.2.2.2.2.2⟩:Sheaveref14Result)
   | none=>none
 | _+16,l=>match Hs.dec uD [.bool] l with
   | some (h:Bool)=>some h
   | none=>none
def eSheaveref07Part(x:Sheaveref07Part) :List T:=[.int .u8 x.ID,.int .u8 x.Type_,.int .u8 x.Flag]
def eSheaveref07Node(x:Sheaveref07Node) :List T:=[.int .u8 x.Kind,.int .u8 x.A,.int .u8 x.B,.int .u8 x.C,.slice (x.Parts.map eSheaveref07Part)]
def eSheaveref07Draft(x:Sheaveref07Draft) :List T:=[.slice (x.Nodes.map eSheaveref07Node)]
def eSheaveref08Draft(x:Sheaveref08Draft) :List T:=[.slice (x.S.Nodes.map eSheaveref07Node),.int .u8 x.T,.slice (x.C.map (fun y=>[.int .u8 y]))]
def eSSymbol(x:SSymbol) :List T:=[.int .i64 x.ID,.str x.Name]
def eSRaw(x:SRaw) :List T:=[.int .i64 x.ID,.str x.Data]
def SValue.eta(x:SValue) :SValue:=⟨x.Kind,x.Bool_,x.Int_,x.Str,x.ID,x.Keys,x.Items,x.Rest⟩
theorem SValue.gk(x:SValue) :x.eta=x:=by cases x;rfl
mutual
def eSValue :SValue→List T
 | ⟨a0,a1,a2,a3,a4,a5,a6,a7⟩=>[.int .i64 a0,.bool a1,.int .i64 a2,.str a3,.int .i64 a4,.slice (eSValueL a5),.slice (eSValueL a6),.slice (a7.map eSRaw)]
def eSValueL :List SValue→List (List T)
 | []=>[]
 | v::r=>eSValue v::eSValueL r
end
theorem giz :∀l,eSValueL l=l.map eSValue
 | []=>rfl
 | v::r=>by simp only[eSValueL,List.map];rw[giz r]
theorem gub(x:SValue) :eSValue x=[.int .i64 x.Kind,.bool x.Bool_,.int .i64 x.Int_,.str x.Str,.int .i64 x.ID,.slice (x.Keys.map eSValue),.slice (x.Items.map eSValue),.slice (x.Rest.map eSRaw)]:=by cases x;simp only[eSValue,giz]
def eSMember(x:SMember) :List T:=[.int .i64 x.ID,.str x.Name,.int .i64 x.Type_,.bool x.Critical,.bool x.HasDefault,.int .i64 x.Default.Kind,.bool x.Default.Bool_,.int .i64 x.Default.Int_,.str x.Default.Str,.int .i64 x.Default.ID,.slice (x.Default.Keys.map eSValue),.slice (x.Default.Items.map eSValue),.slice (x.Default.Rest.map eSRaw)]
def eSType(x:SType) :List T:=[.int .i64 x.Kind,.str x.Name,.int .i64 x.Low,.int .i64 x.High,.int .i64 x.Max,.slice (x.Symbols.map eSSymbol),.slice (x.Members.map eSMember),.int .i64 x.Key,.int .i64 x.Elem,.bool x.Open]
def eSSchema(x:SSchema) :List T:=[.slice (x.Types.map eSType)]
def eEncodeEntry(x:EncodeEntry) :List T:=[.int .i64 x.id,.str x.text]
def eSheavelaw14Job(x:Sheavelaw14Job) :List T:=[.slice (x.W.Types.map eSType),.slice (x.R.Types.map eSType),.int .i64 x.WT,.int .i64 x.RT,.int .i64 x.V.Kind,.bool x.V.Bool_,.int .i64 x.V.Int_,.str x.V.Str,.int .i64 x.V.ID,.slice (x.V.Keys.map eSValue),.slice (x.V.Items.map eSValue),.slice (x.V.Rest.map eSRaw)]
def eSField(x:SField) :List T:=[.int .i64 x.ID,.bool x.Critical,.str x.Data]
def eSFailure(x:SFailure) :List T:=[.slice (x.Path.map (fun y=>[.int .i64 y])),.int .i64 x.Reason]
def eSheaveref10Result(x:Sheaveref10Result) :List T:=[.int .i64 x.Value.Kind,.bool x.Value.Bool_,.int .i64 x.Value.Int_,.str x.Value.Str,.int .i64 x.Value.ID,.slice (x.Value.Keys.map eSValue),.slice (x.Value.Items.map eSValue),.slice (x.Value.Rest.map eSRaw),.slice (x.Failure.Path.map (fun y=>[.int .i64 y])),.int .i64 x.Failure.Reason,.bool x.OK]
def eSheaveref14Result(x:Sheaveref14Result) :List T:=[.int .i64 x.Value.Kind,.bool x.Value.Bool_,.int .i64 x.Value.Int_,.str x.Value.Str,.int .i64 x.Value.ID,.slice (x.Value.Keys.map eSValue),.slice (x.Value.Items.map eSValue),.slice (x.Value.Rest.map eSRaw),.slice (x.Path.map (fun y=>[.int .i64 y])),.bool x.OK]
def uEnc :(n:Nat)→uD n→List T
 | 0,x=>eSheaveref08Draft x
 | 1,x=>eSheaveref07Draft x
 | 2,x=>eSheaveref07Node x
 | 3,x=>eSheaveref07Part x
 | 4,x=>eSType x
 | 5,x=>eSSymbol x
 | 6,x=>eSMember x
 | 7,x=>eSValue x
 | 8,x=>eSRaw x
 | 9,x=>eSSchema x
 | 10,x=>eEncodeEntry x
 | 11,x=>eSheavelaw14Job x
 | 12,x=>eSField x
 | 13,x=>eSFailure x
 | 14,x=>eSheaveref10Result x
 | 15,x=>eSheaveref14Result x
 | _+16,(x:Bool)=>[.bool x]
def Un :Uni where
 D:=uD
 dfl:=fun n=>match n with
   | 0=>dSheaveref08Draft
   | 1=>dSheaveref07Draft
   | 2=>dSheaveref07Node
   | 3=>dSheaveref07Part
   | 4=>dSType
   | 5=>dSSymbol
   | 6=>dSMember
   | 7=>dSValue
   | 8=>dSRaw
   | 9=>dSSchema
   | 10=>dEncodeEntry
   | 11=>dSheavelaw14Job
   | 12=>dSField
   | 13=>dSFailure
   | 14=>dSheaveref10Result
   | 15=>dSheaveref14Result
   | _+16=>false
 flds:=uFlds
 make:=uMake
 tys:=uTys
 enc:=uEnc
 enc_eq:=fun n x=>match n,x with
   | 0,_=>rfl
   | 1,_=>rfl
   | 2,_=>rfl
   | 3,_=>rfl
   | 4,_=>rfl
   | 5,_=>rfl
   | 6,_=>rfl
   | 7,x=>gub x
   | 8,_=>rfl
   | 9,_=>rfl
   | 10,_=>rfl
   | 11,_=>rfl
   | 12,_=>rfl
   | 13,_=>rfl
   | 14,_=>rfl
   | 15,_=>rfl
   | _+16,_=>rfl
 mk_eq:=fun n l x h=>match n,x,h with
   | 0,x,h=>by
     simp only[uMake]at h;split at h
     · rename_i hh hd;cases h;exact Hs.dec_cells hd
     · cases h
   | 1,x,h=>by
     simp only[uMake]at h;split at h
     · rename_i hh hd;cases h;exact Hs.dec_cells hd
     · cases h
   | 2,x,h=>by
     simp only[uMake]at h;split at h
     · rename_i hh hd;cases h;exact Hs.dec_cells hd
     · cases h
   | 3,x,h=>by
     simp only[uMake]at h;split at h
     · rename_i hh hd;cases h;exact Hs.dec_cells hd
     · cases h
   | 4,x,h=>by
     simp only[uMake]at h;split at h
     · rename_i hh hd;cases h;exact Hs.dec_cells hd
     · cases h
   | 5,x,h=>by
     simp only[uMake]at h;split at h
     · rename_i hh hd;cases h;exact Hs.dec_cells hd
     · cases h
   | 6,x,h=>by
     simp only[uMake]at h;split at h
     · rename_i hh hd;cases h;exact Hs.dec_cells hd
     · cases h
   | 7,x,h=>by
     simp only[uMake]at h;split at h
     · rename_i hh hd;cases h;exact Hs.dec_cells hd
     · cases h
   | 8,x,h=>by
     simp only[uMake]at h;split at h
     · rename_i hh hd;cases h;exact Hs.dec_cells hd
     · cases h
   | 9,x,h=>by
     simp only[uMake]at h;split at h
     · rename_i hh hd;cases h;exact Hs.dec_cells hd
     · cases h
   | 10,x,h=>by
     simp only[uMake]at h;split at h
     · rename_i hh hd;cases h;exact Hs.dec_cells hd
     · cases h
   | 11,x,h=>by
     simp only[uMake]at h;split at h
     · rename_i hh hd;cases h;exact Hs.dec_cells hd
     · cases h
   | 12,x,h=>by
     simp only[uMake]at h;split at h
     · rename_i hh hd;cases h;exact Hs.dec_cells hd
     · cases h
   | 13,x,h=>by
     simp only[uMake]at h;split at h
     · rename_i hh hd;cases h;exact Hs.dec_cells hd
     · cases h
   | 14,x,h=>by
     simp only[uMake]at h;split at h
     · rename_i hh hd;cases h;exact Hs.dec_cells hd
     · cases h
   | 15,x,h=>by
     simp only[uMake]at h;split at h
     · rename_i hh hd;cases h;exact Hs.dec_cells hd
     · cases h
   | _+16,x,h=>by
     simp only[uMake]at h;split at h
     · rename_i hh hd;cases h;exact Hs.dec_cells hd
     · cases h
 tys_eq:=fun n x=>match n,x with
   | 0,_=>rfl
   | 1,_=>rfl
   | 2,_=>rfl
   | 3,_=>rfl
   | 4,_=>rfl
   | 5,_=>rfl
   | 6,_=>rfl
   | 7,_=>rfl
   | 8,_=>rfl
   | 9,_=>rfl
   | 10,_=>rfl
   | 11,_=>rfl
   | 12,_=>rfl
   | 13,_=>rfl
   | 14,_=>rfl
   | 15,_=>rfl
   | _+16,_=>rfl
 tyOf:=fun e=>match e with
   | 3=>some (.int .i64)
   | 5=>some (.int .u8)
   | 9=>some .str
   | 37=>some (.nm 7)
   | 74=>some (.nm 6)
   | 81=>some (.nm 8)
   | 96=>some (.nm 4)
   | 118=>some (.nm 5)
   | 206=>some (.nm 12)
   | 245=>some (.nm 10)
   | _=>none
 own:=[([false,false,true,true],2,.int .i64),([false,true,true,false],1,.int .i64)]
 pos:=fun n=>match n with
   | 0=>by decide
   | 1=>by decide
   | 2=>by decide
   | 3=>by decide
   | 4=>by decide
   | 5=>by decide
   | 6=>by decide
   | 7=>by decide
   | 8=>by decide
   | 9=>by decide
   | 10=>by decide
   | 11=>by decide
   | 12=>by decide
   | 13=>by decide
   | 14=>by decide
   | 15=>by decide
   | _+16=>Nat.zero_lt_one
theorem g11h :Un.Total:=fun n l h=>match n,h with
 | 0,h=>by
   obtain⟨x,hx⟩:=Hs.dec_ty (D:=uD) (ts:=uTys 0) h;exact⟨_,by show uMake 0 l=_;simp only[uMake,hx];rfl⟩
 | 1,h=>by
   obtain⟨x,hx⟩:=Hs.dec_ty (D:=uD) (ts:=uTys 1) h;exact⟨_,by show uMake 1 l=_;simp only[uMake,hx];rfl⟩
 | 2,h=>by
   obtain⟨x,hx⟩:=Hs.dec_ty (D:=uD) (ts:=uTys 2) h;exact⟨_,by show uMake 2 l=_;simp only[uMake,hx];rfl⟩
 | 3,h=>by
   obtain⟨x,hx⟩:=Hs.dec_ty (D:=uD) (ts:=uTys 3) h;exact⟨_,by show uMake 3 l=_;simp only[uMake,hx];rfl⟩
 | 4,h=>by
   obtain⟨x,hx⟩:=Hs.dec_ty (D:=uD) (ts:=uTys 4) h;exact⟨_,by show uMake 4 l=_;simp only[uMake,hx];rfl⟩
 | 5,h=>by
   obtain⟨x,hx⟩:=Hs.dec_ty (D:=uD) (ts:=uTys 5) h;exact⟨_,by show uMake 5 l=_;simp only[uMake,hx];rfl⟩
 | 6,h=>by
   obtain⟨x,hx⟩:=Hs.dec_ty (D:=uD) (ts:=uTys 6) h;exact⟨_,by show uMake 6 l=_;simp only[uMake,hx];rfl⟩
 | 7,h=>by
   obtain⟨x,hx⟩:=Hs.dec_ty (D:=uD) (ts:=uTys 7) h;exact⟨_,by show uMake 7 l=_;simp only[uMake,hx];rfl⟩
 | 8,h=>by
   obtain⟨x,hx⟩:=Hs.dec_ty (D:=uD) (ts:=uTys 8) h;exact⟨_,by show uMake 8 l=_;simp only[uMake,hx];rfl⟩
 | 9,h=>by
   obtain⟨x,hx⟩:=Hs.dec_ty (D:=uD) (ts:=uTys 9) h;exact⟨_,by show uMake 9 l=_;simp only[uMake,hx];rfl⟩
 | 10,h=>by
   obtain⟨x,hx⟩:=Hs.dec_ty (D:=uD) (ts:=uTys 10) h;exact⟨_,by show uMake 10 l=_;simp only[uMake,hx];rfl⟩
 | 11,h=>by
   obtain⟨x,hx⟩:=Hs.dec_ty (D:=uD) (ts:=uTys 11) h;exact⟨_,by show uMake 11 l=_;simp only[uMake,hx];rfl⟩
 | 12,h=>by
   obtain⟨x,hx⟩:=Hs.dec_ty (D:=uD) (ts:=uTys 12) h;exact⟨_,by show uMake 12 l=_;simp only[uMake,hx];rfl⟩
 | 13,h=>by
   obtain⟨x,hx⟩:=Hs.dec_ty (D:=uD) (ts:=uTys 13) h;exact⟨_,by show uMake 13 l=_;simp only[uMake,hx];rfl⟩
 | 14,h=>by
   obtain⟨x,hx⟩:=Hs.dec_ty (D:=uD) (ts:=uTys 14) h;exact⟨_,by show uMake 14 l=_;simp only[uMake,hx];rfl⟩
 | 15,h=>by
   obtain⟨x,hx⟩:=Hs.dec_ty (D:=uD) (ts:=uTys 15) h;exact⟨_,by show uMake 15 l=_;simp only[uMake,hx];rfl⟩
 | m+16,h=>by
   obtain⟨x,hx⟩:=Hs.dec_ty (D:=uD) (ts:=[.bool]) h;exact⟨x,by show uMake (m+16) l=_;simp only[uMake,hx];rfl⟩
end
section
open Go Go.Proofs.YtandcioiaooocaaGreat.Shv
open Tryz
set_option maxRecDepth 100000
open Go.Proofs Go.Proofs.YtandcioiaooocaaGreat Go.Shelf
theorem gj0 :g3h prog 98=true:=by kernel_rfl
def g6q :FSpec Un:=gmk Un 98 (.int .i64) 8
theorem ggv :FSnd prog g6q:=gu5 (sz:=1) (bytes:=8) (z:=[.t (.int .i64 0)]) func98 (by kernel_rfl) (by kernel_rfl) (by kernel_rfl) rfl rfl
theorem g6r :FnC prog g6q:=⟨gj0,ggv⟩
theorem gj1 :g3h prog 145=true:=by kernel_rfl
def g6s :FSpec Un:=gis Un 145 (.nm 7) 120
theorem ggw :FSnd prog g6s:=gol (sz:=8) (bytes:=120) (z:=[.t (.int .i64 0),.t (.bool false),.t (.int .i64 0),.t (.str []),.t (.int .i64 0),.cap0,.cap0,.cap0]) func145 (by kernel_rfl) (by kernel_rfl) (by kernel_rfl) rfl rfl
theorem g8n :FnC prog g6s:=⟨gj1,ggw⟩
theorem gj2 :g3h prog 146=true:=by kernel_rfl
def g6t :FSpec Un:=gis Un 146 (.nm 8) 24
theorem ggx :FSnd prog g6t:=gol (sz:=2) (bytes:=24) (z:=[.t (.int .i64 0),.t (.str [])]) func146 (by kernel_rfl) (by kernel_rfl) (by kernel_rfl) rfl rfl
theorem g8o :FnC prog g6t:=⟨gj2,ggx⟩
instance:Inhabited EncodeEntry:=⟨dEncodeEntry⟩
instance:Inhabited (Un.D 10):=⟨dEncodeEntry⟩
def sortLt(x y:EncodeEntry) :Bool:=decide (x.id < y.id)
def gju(l:List EncodeEntry) :Option (List EncodeEntry):=some (pdqBy sortLt l)
section
open Go.Proofs Go.Proofs.YtandcioiaooocaaGreat Go.Sort Go.RowKit Go.Lib
theorem sortNaN(x:Int)(w:World) :Calls prog 196 #[.int .i64 x] w fun e w'=>e= .returned (.bool false)∧w'=w:=by
 go_enter func196,ntmps196
 go_wp2
 go_ret
 exact⟨by simp,rfl⟩
set_option maxHeartbeats 1000000 in
theorem sortCmp(x y:Int)(w:World) :Calls prog 177 #[.int .i64 x,.int .i64 y] w fun e w'=>e= .returned (.int .i64 (Lib.compareInt x y))∧w'=w:=by
 go_enter func177,ntmps177
 go_wp2_with (go_at_call 196;refine(sortNaN _ _).mono ?_;rintro e w' ⟨rfl,hw⟩;rw[hw])
 all_goals (go_ret;refine⟨?_,rfl⟩;unfold Lib.compareInt;(repeat' split) <;> first | rfl | (exfalso;omega))
def sortEnc(x:EncodeEntry) :List Value:=[.int .i64 x.id,.string ⟨x.text.toArray⟩]
set_option maxHeartbeats 1000000 in
theorem sortClo(x y:Int)(s t:ByteArray)(W:World) :Calls prog 209 #[.agg #[.int .i64 x,.string s],.agg #[.int .i64 y,.string t]] W fun e w'=>e= .returned (.int .i64 (Lib.compareInt x y))∧∃q os',w'=grow (W.drewN q) os':=by
 have hcon:=fun W'=>sortCmp x y W'
 generalize Lib.compareInt x y=r at hcon ⊢
 go_enter func209,ntmps209
 go_wp2_with (go_at_call 177;refine(hcon _).mono ?_;rintro e w' ⟨rfl,rfl⟩)
 go_ret
 exact⟨rfl,0,_,by rw[alloc_eq_grow,alloc_eq_grow,grow_grow];rfl⟩
def gql :Go.Shelf.Ren:=⟨fun | 6=>208 | 15=>212 | 14=>211 | 28=>222 | 29=>223 | 20=>214 | 21=>215 | 22=>216 | 23=>217 | 24=>218 | 25=>219 | 26=>220 | 27=>221 | 46=>224 | 47=>225 | 48=>226 | 49=>227 | 50=>228 | 57=>229 | n=>n,fun | 22=>243 | 24=>245 | 25=>247 | 3=>3 | 39=>196 | 0=>0 | 53=>261 | 55=>147 | 4=>4 | 46=>255 | 45=>254 | 50=>127 | 5=>5 | 9=>9 | 66=>263 | 70=>267 | 76=>269 | 77=>270 | n=>n,fun | n=>n⟩
theorem layS :SlLaysF0.n6 prog gql:={
 mixed:=by kernel_rfl
 f6:=⟨f208.name,by decide,func208.trans (congrArg some (by kernel_rfl))⟩
 f14:=⟨f211.name,by decide,func211.trans (congrArg some (by kernel_rfl))⟩
 f15:=func212.trans (congrArg some (by kernel_rfl))
 f20:=⟨f214.name,by decide,func214.trans (congrArg some (by kernel_rfl))⟩
 f21:=⟨f215.name,by decide,func215.trans (congrArg some (by kernel_rfl))⟩
 f22:=⟨f216.name,by decide,func216.trans (congrArg some (by kernel_rfl))⟩
 f23:=⟨f217.name,by decide,func217.trans (congrArg some (by kernel_rfl))⟩
 f24:=⟨f218.name,by decide,func218.trans (congrArg some (by kernel_rfl))⟩
 f25:=⟨f219.name,by decide,func219.trans (congrArg some (by kernel_rfl))⟩
 f26:=⟨f220.name,by decide,func220.trans (congrArg some (by kernel_rfl))⟩
 f27:=⟨f221.name,by decide,func221.trans (congrArg some (by kernel_rfl))⟩
 f28:=func222.trans (congrArg some (by kernel_rfl))
 f29:=func223.trans (congrArg some (by kernel_rfl))
 f46:=⟨f224.name,by decide,func224.trans (congrArg some (by kernel_rfl))⟩
 f47:=func225.trans (congrArg some (by kernel_rfl))
 f48:=func226.trans (congrArg some (by kernel_rfl))
 f49:=⟨f227.name,by decide,func227.trans (congrArg some (by kernel_rfl))⟩
 f50:=⟨f228.name,by decide,func228.trans (congrArg some (by kernel_rfl))⟩
 f57:=⟨f229.name,by decide,func229.trans (congrArg some (by kernel_rfl))⟩
 t0:=underlying0
 a0:=isAgg0
 z0:=sizeOf0
 v0:=zeroValue0
 t3:=underlying3
 a3:=isAgg3
 z3:=sizeOf3
 v3:=zeroValue3
 t4:=underlying4
 a4:=isAgg4
 z4:=sizeOf4
 v4:=zeroValue4
 t5:=underlying5
 a5:=isAgg5
 z5:=sizeOf5
 v5:=zeroValue5
 t9:=underlying9
 a9:=isAgg9
 z9:=sizeOf9
 v9:=zeroValue9
 t22:=underlying243
 a22:=isAgg243
 z22:=sizeOf243
 v22:=zeroValue243
 t25:=underlying247
 a25:=isAgg247
 z25:=sizeOf247
 v25:=zeroValue247
 t39:=underlying196
 a39:=isAgg196
 z39:=sizeOf196
 v39:=zeroValue196
 t45:=underlying254
 a45:=isAgg254
 z45:=sizeOf254
 v45:=zeroValue254
 t46:=underlying255
 a46:=isAgg255
 z46:=sizeOf255
 v46:=zeroValue255
 t50:=underlying127
 a50:=isAgg127
 z50:=sizeOf127
 v50:=zeroValue127
 t53:=underlying261
 a53:=isAgg261
 z53:=sizeOf261
 v53:=zeroValue261
 t55:=underlying147
 a55:=isAgg147
 z55:=sizeOf147
 v55:=zeroValue147
 t66:=underlying263
 a66:=isAgg263
 z66:=sizeOf263
 v66:=zeroValue263
 t70:=underlying267
 a70:=isAgg267
 z70:=sizeOf267
 v70:=zeroValue267
 t76:=underlying269
 a76:=isAgg269
 z76:=sizeOf269
 v76:=zeroValue269
 t77:=underlying270
 a77:=isAgg270
 z77:=sizeOf270
 v77:=zeroValue270}
theorem gor :ltOf (fun x y:EncodeEntry=>Lib.compareInt x.id y.id)=sortLt:=by
 funext x y
 unfold ltOf sortLt Lib.compareInt;by_cases h1:x.id < y.id
 · simp[h1]
 · by_cases h2:y.id < x.id <;> simp[h1,h2]
theorem sortSWO :SWO sortLt:=gyi (fun x:EncodeEntry=>x.id)
set_option maxHeartbeats 2000000 in
theorem sortNoneI(p:Option Addr)(cap:Nat)(fv:Value)(w:World) :Calls prog 214 #[.slice p 0 cap,.int .i64 0,.int .i64 0,fv] w fun e w'=>e= .returned (.tuple #[])∧w'=w:=by
 go_enter func214,ntmps214
 go_wp2
 refine wp_loop_rounds 1 ?_;rw[rounds_succ]
 go_wp2
 go_end0
 exact⟨rfl,rfl⟩
set_option maxHeartbeats 2000000 in
theorem sortNoneP(p:Option Addr)(cap:Nat)(lim:Int)(fv:Value)(w:World) :Calls prog 211 #[.slice p 0 cap,.int .i64 0,.int .i64 0,.int .i64 lim,fv] w fun e w'=>e= .returned (.tuple #[])∧w'=w:=by
 have hi:=fun W=>sortNoneI p cap fv W
 go_enter func211,ntmps211
 go_wp2
 refine wp_loop_rounds 1 ?_;rw[rounds_succ]
 go_wp2_with (go_at_call 214;refine(hi _).mono ?_;rintro e w' ⟨rfl,rfl⟩)
 (try simp only[Exit.inBlock,Exit.then]);refine bodyPost_ret (results_none rfl _ _ _) rfl ?_
 exact⟨rfl,rfl⟩
set_option maxHeartbeats 2000000 in
theorem sortNone(p:Option Addr)(cap:Nat)(fv:Value)(w:World) :Calls prog 208 #[.slice p 0 cap,fv] w fun e w'=>e= .returned (.tuple #[])∧w'=w:=by
 have hp:=fun lim W=>sortNoneP p cap lim fv W
 have hl:∀W,Calls prog 212 #[.int .u64 0] W fun e w'=>e= .returned (.int .i64 (Lib.bitLen 0:Nat))∧w'=W:=fun W=>by
   have h:=Any.bits_Len (SlLaysF0.n15.bits (P:=prog) (ρ:=gql) {layS with}) 0 W (by omega) (by omega);exact h
 go_enter func208,ntmps208
 go_wp2_with (first | (go_at_call 212;refine(hl _).mono ?_;rintro e w' ⟨rfl,rfl⟩) | (go_at_call 211;refine(hp _ _).mono ?_;rintro e w' ⟨rfl,rfl⟩))
 go_end0
 exact⟨rfl,rfl⟩
theorem sortWhole (blk off cap : Nat) (d : Array (Un.D 10)) (w : World) (hH : HoldsK sortEnc 2 w blk off d) (hblk : blk < w.heap.size) (hsz : d.size < 4611686018427387904) :
   Calls prog 208 #[.slice (some ⟨blk,off,none⟩) d.size cap,.func (.func 209) #[] #[]] w fun e w'=>e= .returned (.tuple #[])∧∃n os,w'=sortWorldK sortEnc 2 w blk off n (pdq sortLt d 0 d.size (Lib.bitLen d.size) true true) os:=by
 have eg:∀args w,(callFunc 209 args).run prog w= .ok (.enter 209 args) w:=enters_of func209 (by kernel_rfl) rfl
 have h:=AnyQ.slices_SortFunc_eq (α:=EncodeEntry) layS 2 isAgg245 sizeOf245 sortEnc (fun _=>rfl) (fun x v hv=>by simp[sortEnc]at hv;rcases hv with rfl | rfl <;> rfl) (fun x y=>Lib.compareInt x.id y.id) (by rw[gor];exact sortSWO) 209 #[] blk off cap d w eg (fun _ _ _ _ x y=>sortClo x.id y.id _ _ _) hH hblk hsz;rw[gor]at h;exact h
theorem gzg :g3h prog 208=true:=by kernel_rfl
def gb9 :FSpec Un:=sortS Un 208 10 209 (pdqBy (α:=Un.D 10) sortLt)
theorem gla :FSnd prog gb9:=gxi (U:=Un) (n:=10) sortEnc sortLt sortSWO (fun _=>rfl) (fun w S x j t v h hr=>gua w S x.id x.text j t v h hr) sortWhole sortNone
end
theorem gba :FnC prog gb9:=⟨gzg,gla⟩
def gmo :Go.Shelf.Ren:=⟨fun | 240=>210 | 276=>213 | n=>n,fun | 0=>0 | 4=>4 | 9=>9 | 20=>20 | 37=>25 | 70=>234 | 72=>236 | 164=>251 | n=>n,fun n=>n⟩
theorem lay240 :Lays.n240 prog gmo:={
 mixed:=by kernel_rfl
 f240:=func210.trans (congrArg some (by kernel_rfl))
 f276:=func213.trans (congrArg some (by kernel_rfl))
 t0:=underlying0
 a0:=isAgg0
 z0:=sizeOf0
 v0:=zeroValue0
 t4:=underlying4
 a4:=isAgg4
 z4:=sizeOf4
 v4:=zeroValue4
 t9:=underlying9
 a9:=isAgg9
 z9:=sizeOf9
 v9:=zeroValue9
 t20:=underlying20
 a20:=isAgg20
 z20:=sizeOf20
 v20:=zeroValue20
 t70:=underlying234
 a70:=isAgg234
 z70:=sizeOf234
 v70:=zeroValue234
 t72:=underlying236
 a72:=isAgg236
 z72:=sizeOf236
 v72:=zeroValue236
 t164:=underlying251
 a164:=isAgg251
 z164:=sizeOf251
 v164:=zeroValue251}
theorem layX72 :Builder.X72 prog gmo:={
 sizeBuilder:=by kernel_rfl
 liesBuilder:=by kernel_rfl}
theorem gzh :g3h prog 210=true:=by kernel_rfl
def g88 :FSpec Un:=gml Un 210 236 5
theorem gjv :FSnd prog g88:=gvm lay240 layX72 rfl rfl
theorem gae :FnC prog g88:=⟨gzh,gjv⟩
end
section
open Go Go.Proofs.YtandcioiaooocaaGreat.Shv
open Tryz
set_option maxRecDepth 100000
abbrev FC(e:FEnt)(F:Hs Un.D e.ts→Option (Hs Un.D e.us)) :Prop:=FnC prog (e.s F)
abbrev LC(f kk:Nat)(p:List Nat)(e:LEnt)(F:Hs Un.D e.ts→Option (OSum Un e.outs)) :Prop:=LpC prog f kk p e F
abbrev KC(e:FEnt) :Prop:=Fok prog e
abbrev FD(e:FEnt) :Hs Un.D e.ts→Hs Un.D e.us→Prop:=FQ prog Un e
abbrev LD(f kk:Nat)(p:List Nat)(e:LEnt) :Hs Un.D e.ts→OSum Un e.outs→Prop:=LQ prog Un f kk p e
theorem FH(e:FEnt)(k:KC e){F:Hs Un.D e.ts→Option (Hs Un.D e.us)}(h:∀h r,F h=some r→FD e h r) :FC e F:= .of k h
theorem LH(e:LEnt){f kk:Nat}{p:List Nat}{F:Hs Un.D e.ts→Option (OSum Un e.outs)}(h:∀h o,F h=some o→LD f kk p e h o) :LC f kk p e F:= .of h
theorem FA(e:FEnt)(k:KC e){fs:List (FSpec Un)}(hf:FoC prog fs){ls:List (Nat × LSpec Un)}(hl:LoC prog e.f e.st.length [] ls){h:Hs Un.D e.ts}{r:Hs Un.D e.us}(hx:xbody (foS fs) (loL ls) prog e h=some r) :FD e h r:= .at k hf hl hx
theorem LA(e:LEnt){f kk:Nat}{p:List Nat}{F:Hs Un.D e.ts→Option (OSum Un e.outs)}(hF:∀h o,F h=some o→LD f kk p e h o){fs:List (FSpec Un)}(hf:FoC prog fs){ls:List (Nat × LSpec Un)}(hl:LoC prog f kk p ls){h:Hs Un.D e.ts}{o:OSum Un e.outs}(hx:gfj (foS fs) (loL ls) kk (pathF prog f p) e F h=some o) :LD f kk p e h o:= .at hF hf hl hx
def e54 :FEnt:=⟨54,[.row 1,hh tI],[],[.nm 1,tI],hh tI,[],[tI],[]⟩
def e55 :FEnt:=⟨55,[hh tI],[],[tI],hh .bool,[],[.bool],[]⟩
def e56 :FEnt:=⟨56,[.row 2],[],[.nm 2],hh tI,[],[tI],[]⟩
def e57 :FEnt:=⟨57,[.row 2],[],[.nm 2],hh tI,[],[tI],[]⟩
def e58_0 :LEnt:=⟨0,⟨[(1,hP 0 0),(3,.c (.arr 1)),(4,hh tI)],[.brow 2,.arr tI]⟩,[(.slot 3,tI)],[(.slot 3,tI)],[tI,.nm 2,tLI],[⟨.exit 0,⟨[(3,.c (.arr 0))],[.arr tI]⟩,[],[tLI]⟩],[]⟩
def e58 :FEnt:=⟨58,[.row 2],[],[.nm 2],hh tLI,[],[tLI],[e58_0]⟩
def e138 :FEnt:=⟨138,[hh tI],[],[tI],hh .bool,[],[.bool],[]⟩
def e95_0 :LEnt:=⟨0,⟨[(3,hP 0 0),(7,hh tI),(9,hh tI)],[bb (tL 2)]⟩,[],[],[tI,tI,tL 2],[oR 6 tI,oX 0],[]⟩
def e95 :FEnt:=⟨95,[.row 1,hh tI,hh (.int .u8)],[],[.nm 1,tI,.int .u8],hh tI,[],[tI],[e95_0]⟩
def e94 :FEnt:=⟨94,[hh tI],[],[tI],hh .bool,[],[.bool],[]⟩
def e60_0 :LEnt:=⟨0,⟨[(1,hh (.int .u8)),(2,hP 0 0),(5,hh tI),(6,hh tI)],[bb (tL 2)]⟩,[],[],[.int .u8,tI,tI,tL 2],[oR 4 tI,oX 0],[]⟩
def e60 :FEnt:=⟨60,[.row 1,hh (.int .u8)],[],[.nm 1,.int .u8],hh tI,[],[tI],[e60_0]⟩
def e96 :FEnt:=⟨96,[.row 1,hh tI,hh (.int .u8)],[],[.nm 1,tI,.int .u8],.tup [.row 7,hh .bool],[],[.nm 7,.bool],[]⟩
def gse :LEnt:=⟨0,⟨[(1,hh tI),(2,hh .bool),(3,hP 0 0),(7,hP 1 0),(8,.c (.arr 2)),(9,hh tI),(10,hh tI)],[bb (tL 2),.brow 2,.arr (.nm 6)]⟩,[],[],[tI,.bool,tI,tI,tL 2,.nm 2,tL 6],[⟨.exit 2,⟨[(1,hh tI),(2,hh .bool),(3,hP 0 0),(7,hP 1 0),(8,.c (.arr 2)),(9,hh tI)],[bb (tL 2),.brow 2,.arr (.nm 6)]⟩,[],[tI,.bool,tI,tL 2,.nm 2,tL 6]⟩],[]⟩
def e59_0 :LEnt:=⟨0,⟨[(1,hh tI),(2,hh .bool),(3,hP 0 0),(7,hP 1 0),(8,.c (.arr 2)),(9,hh tI)],[bb (tL 2),.brow 2,.arr (.nm 6)]⟩,[(.slot 8,.nm 6)],[(.slot 8,.nm 6)],[tI,.bool,tI,tL 2,.nm 2,tL 6],[⟨.exit 0,⟨[(8,.c (.arr 0))],[.arr (.nm 6)]⟩,[],[tL 6]⟩],[gse]⟩
def e59 :FEnt:=⟨59,[.row 1,hh tI,hh .bool],[],[.nm 1,tI,.bool],hh (tL 6),[],[tL 6],[e59_0]⟩
def gsf :LEnt:=⟨0,⟨[(1,hP 0 0),(2,hP 1 0),(4,hh tI),(5,hP 2 0),(6,hh tI),(8,hP 3 0),(9,hh tLI),(10,hh tI)],[bb (tL 2),.box [.cap0],.box [.arr 4],.box [.hole tI,.hole .str,.hole tI,.hole tI,.hole tI,.arr 5,.cap0,.hole tI,.hole tI,.hole .bool],.arr (.nm 4),.arr (.nm 5)]⟩,[(.via 8 5,.nm 5)],[(.via 8 5,.nm 5)],[tI,tI,tLI,tI,tL 2,tI,.str,tI,tI,tI,tI,tI,.bool,tL 4,tL 5],[⟨.exit 3,⟨[(1,hP 0 0),(2,hP 1 0),(4,hh tI),(5,hP 2 0),(6,hh tI),(8,hP 3 0)],[bb (tL 2),.box [.cap0],.box [.arr 4],.box [.hole tI,.hole .str,.hole tI,.hole tI,.hole tI,.arr 5,.cap0,.hole tI,.hole tI,.hole .bool],.arr (.nm 4),.arr (.nm 5)]⟩,[],[tI,tI,tL 2,tI,.str,tI,tI,tI,tI,tI,.bool,tL 4,tL 5]⟩],[]⟩
def e30_0 :LEnt:=⟨0,⟨[(1,hP 0 0),(2,hP 1 0),(4,hh tI),(5,hP 2 0),(6,hh tI)],[bb (tL 2),.box [.cap0],.box [.arr 3],.arr (.nm 4)]⟩,[(.via 5 0,.nm 4)],[(.via 5 0,.nm 4)],[tI,tI,tL 2,tL 4],[⟨.exit 0,⟨[(2,hP 0 0),(5,hP 1 0)],[.box [.cap0],.box [.arr 2],.arr (.nm 4)]⟩,[],[tL 4]⟩],[gsf]⟩
def e30 :FEnt:=⟨30,[.row 1],[],[.nm 1],.tup [.row 9,hh .bool],[],[.nm 9,.bool],[e30_0]⟩
def e109 :FEnt:=⟨109,[hP 0 0,hh tI],[.box [.hole (tL 4),.hole (.slice (.int .u8)),.hole .bool]],[tI,tL 4,.slice (.int .u8),.bool],hh tI,[.box [.hole (tL 4),.hole (.slice (.int .u8)),.hole .bool]],[tI,tL 4,.slice (.int .u8),.bool],[]⟩
def gvo :LEnt:=⟨0,⟨[(0,hP 0 0),(5,hh .str),(6,hh tI)],[.box [.hole (tL 4),.hole (.slice (.int .u8)),.hole .bool]]⟩,[],[],[.str,tI,tL 4,.slice (.int .u8),.bool],[⟨.exit 0,⟨[(5,hh .str)],[.box [.hole (tL 4),.hole (.slice (.int .u8)),.hole .bool]]⟩,[],[.str,tL 4,.slice (.int .u8),.bool]⟩],[]⟩
def e110 :FEnt:=⟨110,[hP 0 0,hh tI],[.box [.hole (tL 4),.hole (.slice (.int .u8)),.hole .bool]],[tI,tL 4,.slice (.int .u8),.bool],hh .str,[.box [.hole (tL 4),.hole (.slice (.int .u8)),.hole .bool]],[.str,tL 4,.slice (.int .u8),.bool],[gvo]⟩
def e111 :FEnt:=⟨111,[hP 0 0],[.box [.hole (tL 4),.hole (.slice (.int .u8)),.hole .bool]],[tL 4,.slice (.int .u8),.bool],hh .bool,[.box [.hole (tL 4),.hole (.slice (.int .u8)),.hole .bool]],[.bool,tL 4,.slice (.int .u8),.bool],[]⟩
def e78_0 :LEnt:=⟨0,⟨[(1,hh tI),(2,hP 0 0),(6,hh tI)],[.brow 4]⟩,[],[],[tI,tI,.nm 4],[⟨.ret,⟨[(4,hh tI),(5,hh .bool)],[]⟩,[],[tI,.bool]⟩,oX 0],[]⟩
def e78 :FEnt:=⟨78,[.row 4,hh tI],[],[.nm 4,tI],.tup [hh tI,hh .bool],[],[tI,.bool],[e78_0]⟩
def e69_0 :LEnt:=⟨0,⟨[(1,hh tI),(2,hP 0 0),(6,hh tI)],[.brow 4]⟩,[],[],[tI,tI,.nm 4],[⟨.ret,⟨[(4,hh tI),(5,hh .bool)],[]⟩,[],[tI,.bool]⟩,oX 0],[]⟩
def e69 :FEnt:=⟨69,[.row 4,hh tI],[],[.nm 4,tI],.tup [hh tI,hh .bool],[],[tI,.bool],[e69_0]⟩
def e151 :FEnt:=⟨151,[.row 4,hh tI],[],[.nm 4,tI],hh .bool,[],[.bool],[]⟩
def gvp :LEnt:=⟨0,⟨[(3,hP 1 0),(5,hh tI)],[.box [.hole (tL 4),.hole (.slice (.int .u8)),.hole .bool],.brow 4]⟩,[],[],[tI,tL 4,.slice (.int .u8),.bool,.nm 4],[⟨.exit 0,⟨[(5,hh tI)],[.box [.hole (tL 4),.hole (.slice (.int .u8)),.hole .bool]]⟩,[],[tI,tL 4,.slice (.int .u8),.bool]⟩],[]⟩
def e112 :FEnt:=⟨112,[hP 0 0,.row 4],[.box [.hole (tL 4),.hole (.slice (.int .u8)),.hole .bool]],[.nm 4,tL 4,.slice (.int .u8),.bool],hh tI,[.box [.hole (tL 4),.hole (.slice (.int .u8)),.hole .bool]],[tI,tL 4,.slice (.int .u8),.bool],[gvp]⟩
def e113 :FEnt:=⟨113,[hP 0 0,hh tI],[.box [.hole (tL 4),.hole (.slice (.int .u8)),.hole .bool]],[tI,tL 4,.slice (.int .u8),.bool],.row 8,[.box [.hole (tL 4),.hole (.slice (.int .u8)),.hole .bool]],[.nm 8,tL 4,.slice (.int .u8),.bool],[]⟩
def e108 :FEnt:=⟨108,[hh .bool,hh .bool],[],[.bool,.bool],hh tI,[],[tI],[]⟩
def e84 :FEnt:=⟨84,[hh tI],[],[tI],hh (.int .u64),[],[.int .u64],[]⟩
def e80 :FEnt:=⟨80,[.row 7,.row 7],[],[.nm 7,.nm 7],hh tI,[],[tI],[]⟩
def gvq :LEnt:=⟨0,⟨[(3,hP 0 0),(4,hP 1 0),(5,hP 2 0),(6,hP 3 0),(7,hh tI)],[.brow 7,.brow 7,.brow 7,.box [.hole tI,.hole .bool,.hole tI,.hole .str,.hole tI,.cap0,.cap0,.cap0]]⟩,[],[],[tI,.nm 7,.nm 7,.nm 7,tI,.bool,tI,.str,tI],[⟨.exit 0,⟨[(3,hP 0 0),(4,hP 1 0),(5,hP 2 0),(6,hP 3 0),(7,hh tI)],[.brow 7,.brow 7,.brow 7,.box [.hole tI,.hole .bool,.hole tI,.hole .str,.hole tI,.cap0,.cap0,.cap0]]⟩,[],[tI,.nm 7,.nm 7,.nm 7,tI,.bool,tI,.str,tI]⟩],[]⟩
def e114 :FEnt:=⟨114,[.row 7,.row 7,.row 7],[],[.nm 7,.nm 7,.nm 7],.row 7,[],[.nm 7],[gvq]⟩
def e81_0 :LEnt:=⟨0,⟨[(0,hP 0 0),(4,hP 1 0),(5,hP 2 0),(6,hP 3 0),(7,hh tI)],[.box [.hole (tL 4),.hole (.slice (.int .u8)),.hole .bool],.box [.hole tI,.hole .bool,.hole tI,.hole .str,.hole tI,.cap0,.cap0,.cap0],.box [.hole tI,.hole .str,.hole tI,.hole tI,.hole tI,.hole (tL 5),.hole (tL 6),.hole tI,.hole tI,.hole .bool],.box [.hole tI,.hole .bool,.hole tI,.hole .str,.hole tI,.cap0,.arr 4,.cap0],.arr (.nm 7)]⟩,[(.via 6 6,.nm 7)],[(.via 6 6,.nm 7)],[tI,tL 4,.slice (.int .u8),.bool,tI,.bool,tI,.str,tI,tI,.str,tI,tI,tI,tL 5,tL 6,tI,tI,.bool,tI,.bool,tI,.str,tI,tL 7],[⟨.exit 1,⟨[(0,hP 0 0),(4,hP 1 0),(5,hP 2 0),(6,hP 3 0)],[.box [.hole (tL 4),.hole (.slice (.int .u8)),.hole .bool],.box [.hole tI,.hole .bool,.hole tI,.hole .str,.hole tI,.cap0,.cap0,.cap0],.box [.hole tI,.hole .str,.hole tI,.hole tI,.hole tI,.hole (tL 5),.hole (tL 6),.hole tI,.hole tI,.hole .bool],.box [.hole tI,.hole .bool,.hole tI,.hole .str,.hole tI,.cap0,.arr 4,.cap0],.arr (.nm 7)]⟩,[],[tL 4,.slice (.int .u8),.bool,tI,.bool,tI,.str,tI,tI,.str,tI,tI,tI,tL 5,tL 6,tI,tI,.bool,tI,.bool,tI,.str,tI,tL 7]⟩],[]⟩
def e81_1 :LEnt:=⟨1,⟨[(0,hP 0 0),(4,hP 1 0),(5,hP 2 0),(6,hP 3 0),(9,hh tI)],[.box [.hole (tL 4),.hole (.slice (.int .u8)),.hole .bool],.box [.hole tI,.hole .bool,.hole tI,.hole .str,.hole tI,.cap0,.cap0,.cap0],.box [.hole tI,.hole .str,.hole tI,.hole tI,.hole tI,.hole (tL 5),.hole (tL 6),.hole tI,.hole tI,.hole .bool],.box [.hole tI,.hole .bool,.hole tI,.hole .str,.hole tI,.cap0,.arr 4,.cap0],.arr (.nm 7)]⟩,[(.via 6 6,.nm 7)],[(.via 6 6,.nm 7)],[tI,tL 4,.slice (.int .u8),.bool,tI,.bool,tI,.str,tI,tI,.str,tI,tI,tI,tL 5,tL 6,tI,tI,.bool,tI,.bool,tI,.str,tI,tL 7],[⟨.exit 3,⟨[(4,hP 1 0),(6,hP 2 0)],[.box [.hole (tL 4),.hole (.slice (.int .u8)),.hole .bool],.box [.hole tI,.hole .bool,.hole tI,.hole .str,.hole tI,.cap0,.cap0,.cap0],.box [.hole tI,.hole .bool,.hole tI,.hole .str,.hole tI,.cap0,.arr 3,.cap0],.arr (.nm 7)]⟩,[],[tL 4,.slice (.int .u8),.bool,tI,.bool,tI,.str,tI,tI,.bool,tI,.str,tI,tL 7]⟩],[]⟩
def e81_2 :LEnt:=⟨2,⟨[(0,hP 0 0),(4,hP 1 0),(5,hP 2 0),(6,hP 3 0),(10,hh tI)],[.box [.hole (tL 4),.hole (.slice (.int .u8)),.hole .bool],.box [.hole tI,.hole .bool,.hole tI,.hole .str,.hole tI,.cap0,.cap0,.cap0],.box [.hole tI,.hole .str,.hole tI,.hole tI,.hole tI,.hole (tL 5),.hole (tL 6),.hole tI,.hole tI,.hole .bool],.box [.hole tI,.hole .bool,.hole tI,.hole .str,.hole tI,.hole (tL 7),.hole (tL 7),.hole (tL 8)]]⟩,[],[],[tI,tL 4,.slice (.int .u8),.bool,tI,.bool,tI,.str,tI,tI,.str,tI,tI,tI,tL 5,tL 6,tI,tI,.bool,tI,.bool,tI,.str,tI,tL 7,tL 7,tL 8],[⟨.exit 5,⟨[(4,hP 1 0),(6,hP 2 0)],[.box [.hole (tL 4),.hole (.slice (.int .u8)),.hole .bool],.box [.hole tI,.hole .bool,.hole tI,.hole .str,.hole tI,.cap0,.cap0,.cap0],.box [.hole tI,.hole .bool,.hole tI,.hole .str,.hole tI,.hole (tL 7),.hole (tL 7),.hole (tL 8)]]⟩,[],[tL 4,.slice (.int .u8),.bool,tI,.bool,tI,.str,tI,tI,.bool,tI,.str,tI,tL 7,tL 7,tL 8]⟩],[]⟩
def e81 :FEnt:=⟨81,[hP 0 0,hh tI],[.box [.hole (tL 4),.hole (.slice (.int .u8)),.hole .bool]],[tI,tL 4,.slice (.int .u8),.bool],.row 7,[.box [.hole (tL 4),.hole (.slice (.int .u8)),.hole .bool]],[.nm 7,tL 4,.slice (.int .u8),.bool],[e81_0,e81_1,e81_2]⟩
def e42 :FEnt:=⟨42,[.row 9,hh tI,hh (.slice (.int .u8))],[],[.nm 9,tI,.slice (.int .u8)],.row 7,[],[.nm 7],[]⟩
def e43 :FEnt:=⟨43,[.row 9,hh tI,hh (.slice (.int .u8))],[],[.nm 9,tI,.slice (.int .u8)],.row 7,[],[.nm 7],[]⟩
def e20 :FEnt:=⟨20,[.row 0],[],[.nm 0],.tup [.row 9,hh tI,.row 7,.row 7,hh .bool],[],[.nm 9,tI,.nm 7,.nm 7,.bool],[]⟩
def e33 :FEnt:=⟨33,[hh tI],[],[tI],.row 7,[],[.nm 7],[]⟩
def e32 :FEnt:=⟨32,[hh tI],[],[tI],.row 6,[],[.nm 6],[]⟩
def e34 :FEnt:=⟨34,[hh (tL 6)],[],[tL 6],.row 9,[],[.nm 9],[]⟩
def e35 :FEnt:=⟨35,[hh tI,hh tI],[],[tI,tI],.row 7,[],[.nm 7],[]⟩
def gvr :LEnt:=⟨0,⟨[(0,hh (tL 5)),(1,hh (tL 5)),(12,hh tI),(13,hh tI)],[]⟩,[],[],[tL 5,tL 5,tI,tI],[oR 4 .bool,oX 0],[]⟩
def e186 :FEnt:=⟨186,[hh (tL 5),hh (tL 5)],[],[tL 5,tL 5],hh .bool,[],[.bool],[gvr]⟩
def e36_0 :LEnt:=⟨0,⟨[(0,hh (tL 8)),(1,hh (tL 8)),(12,hh tI),(13,hh tI)],[]⟩,[],[],[tL 8,tL 8,tI,tI],[oR 4 .bool,oX 0],[]⟩
def e36 :FEnt:=⟨36,[hh (tL 8),hh (tL 8)],[],[tL 8,tL 8],hh .bool,[],[.bool],[e36_0]⟩
def gfm :LEnt:=⟨0,⟨[(1,hh (tL 7)),(2,.c (.fn 189 [])),(15,hh (tL 7)),(16,hh tI),(17,hh tI)],[]⟩,[],[],[tL 7,tL 7,tI,tI],[oR 6 .bool,oX 0],[]⟩
def e82_a :FEnt:=⟨82,[hh (tL 7),hh (tL 7),.c (.fn 189 [])],[],[tL 7,tL 7],hh .bool,[],[.bool],[gfm]⟩
def e189 :FEnt:=⟨189,[.row 7,.row 7],[],[.nm 7,.nm 7],hh .bool,[],[.bool],[]⟩
def e188 :FEnt:=⟨188,[.row 6,.row 6],[],[.nm 6,.nm 6],hh .bool,[],[.bool],[]⟩
def gvs :LEnt:=⟨0,⟨[(1,hh (tL 6)),(2,.c (.fn 188 [])),(15,hh (tL 6)),(16,hh tI),(17,hh tI)],[]⟩,[],[],[tL 6,tL 6,tI,tI],[oR 6 .bool,oX 0],[]⟩
def e187 :FEnt:=⟨187,[hh (tL 6),hh (tL 6),.c (.fn 188 [])],[],[tL 6,tL 6],hh .bool,[],[.bool],[gvs]⟩
def e155 :FEnt:=⟨155,[.row 4,.row 4],[],[.nm 4,.nm 4],hh .bool,[],[.bool],[]⟩
def e182 :FEnt:=⟨182,[hh (.int .u8)],[],[.int .u8],hh .bool,[],[.bool],[]⟩
def e183 :FEnt:=⟨183,[hh (.int .u8)],[],[.int .u8],hh .bool,[],[.bool],[]⟩
def gvt :LEnt:=⟨0,⟨[(0,hh .str),(18,hh tI),(19,hh tI)],[]⟩,[],[],[.str,tI,tI],[oR 2 .bool,oX 0],[]⟩
def e152 :FEnt:=⟨152,[hh .str],[],[.str],hh .bool,[],[.bool],[gvt]⟩
def gvu :LEnt:=⟨0,⟨[(0,hh tLI),(1,hh tLS),(5,.c (.mp 0)),(9,hh tLI),(10,hh tI),(11,hh tI)],[.set]⟩,[],[],[tLI,tLS,tLI,tI,tI,tLS],[oR 4 .bool,⟨.exit 0,⟨[(0,hh tLI)],[]⟩,[],[tLI]⟩],[]⟩
def e184 :FEnt:=⟨184,[hh tLI,hh tLS],[],[tLI,tLS],hh .bool,[],[.bool],[gvu]⟩
def gvv :LEnt:=⟨0,⟨[(0,hh (tL 5)),(3,.c (.arr 0)),(4,.c (.arr 1)),(7,hh (tL 5)),(8,hh tI),(9,hh tI)],[.arr tI,.arr .str]⟩,[(.slot 3,tI),(.slot 4,.str)],[(.slot 3,tI),(.slot 4,.str)],[tL 5,tL 5,tI,tI,tLI,tLS],[⟨.exit 0,⟨[(0,hh (tL 5)),(3,.c (.arr 0)),(4,.c (.arr 1))],[.arr tI,.arr .str]⟩,[],[tL 5,tLI,tLS]⟩],[]⟩
def e153 :FEnt:=⟨153,[hh (tL 5)],[],[tL 5],hh .bool,[],[.bool],[gvv]⟩
def e185 :FEnt:=⟨185,[.row 7],[],[.nm 7],hh .bool,[],[.bool],[]⟩
def gvw :LEnt:=⟨0,⟨[(1,hP 0 0),(3,.c (.arr 1)),(4,.c (.arr 2)),(8,hh (tL 6)),(9,hh tI),(10,hh tI)],[.brow 4,.arr tI,.arr .str]⟩,[(.slot 3,tI),(.slot 4,.str)],[(.slot 3,tI),(.slot 4,.str)],[tL 6,tI,tI,.nm 4,tLI,tLS],[oR 2 .bool,⟨.exit 0,⟨[(1,hP 0 0),(3,.c (.arr 1)),(4,.c (.arr 2))],[.brow 4,.arr tI,.arr .str]⟩,[],[.nm 4,tLI,tLS]⟩],[]⟩
def e154 :FEnt:=⟨154,[.row 4],[],[.nm 4],hh .bool,[],[.bool],[gvw]⟩
def e115 :FEnt:=⟨115,[.row 4],[],[.nm 4],hh .bool,[],[.bool],[]⟩
def gvx :LEnt:=⟨0,⟨[(1,hP 0 0),(3,.c (.arr 1)),(7,hh (tL 6)),(8,hh tI),(9,hh tI)],[.brow 4,.arr tI]⟩,[(.slot 3,tI)],[(.slot 3,tI)],[tL 6,tI,tI,.nm 4,tLI],[⟨.exit 0,⟨[(1,hP 0 0),(3,.c (.arr 1))],[.brow 4,.arr tI]⟩,[],[.nm 4,tLI]⟩],[]⟩
def e116 :FEnt:=⟨116,[.row 4],[],[.nm 4],hh tLI,[],[tLI],[gvx]⟩
def gsg :LEnt:=⟨0,⟨[(1,hP 0 0),(3,.c (.mp 1)),(5,hP 2 0),(14,hh (tL 4)),(15,hh tI),(16,hh tI),(38,hh tLI),(39,hh tI),(40,hh tI)],[bb (tL 4),.set,.box [.hole tI,.hole .str,.hole tI,.hole tI,.hole tI,.hole (tL 5),.hole (tL 6),.hole tI,.hole tI,.hole .bool]]⟩,[],[],[tL 4,tI,tI,tLI,tI,tI,tL 4,tLS,tI,.str,tI,tI,tI,tL 5,tL 6,tI,tI,.bool],[oR 2 tI,⟨.exit 2,⟨[(1,hP 0 0),(3,.c (.mp 1)),(5,hP 2 0),(14,hh (tL 4)),(15,hh tI),(16,hh tI)],[bb (tL 4),.set,.box [.hole tI,.hole .str,.hole tI,.hole tI,.hole tI,.hole (tL 5),.hole (tL 6),.hole tI,.hole tI,.hole .bool]]⟩,[],[tL 4,tI,tI,tL 4,tLS,tI,.str,tI,tI,tI,tL 5,tL 6,tI,tI,.bool]⟩],[]⟩
def e88_0 :LEnt:=⟨0,⟨[(1,hP 0 0),(3,.c (.mp 1)),(14,hh (tL 4)),(15,hh tI),(16,hh tI)],[bb (tL 4),.set]⟩,[],[],[tL 4,tI,tI,tL 4,tLS],[oR 2 tI,oX 0],[gsg]⟩
def e88 :FEnt:=⟨88,[.row 9],[],[.nm 9],hh tI,[],[tI],[e88_0]⟩
def e61 :FEnt:=⟨61,[.row 9,hh tI],[],[.nm 9,tI],hh tI,[],[tI],[]⟩
def e171 :FEnt:=⟨171,[.row 7],[],[.nm 7],.row 7,[],[.nm 7],[]⟩
def e139 :FEnt:=⟨139,[.row 7],[],[.nm 7],hh .bool,[],[.bool],[]⟩
def e100 :FEnt:=⟨100,[.row 5,hP 0 0],[bb tI],[.nm 5,tI],hh .bool,[bb tI],[.bool,tI],[]⟩
def e99_0 :LEnt:=⟨0,⟨[(0,hh (tL 5)),(1,.c (.fn 100 [0])),(7,hh tI),(8,hh tI)],[bb tI]⟩,[],[],[tL 5,tI,tI,tI],[⟨.ret,⟨[(4,hh tI)],[bb tI]⟩,[],[tI,tI]⟩,⟨.exit 0,⟨[],[bb tI]⟩,[],[tI]⟩],[]⟩
def e99 :FEnt:=⟨99,[hh (tL 5),.c (.fn 100 [0])],[bb tI],[tL 5,tI],hh tI,[bb tI],[tI,tI],[e99_0]⟩
def e64 :FEnt:=⟨64,[.row 4,hh tI],[],[.nm 4,tI],.tup [hh tI,hh .bool],[],[tI,.bool],[]⟩
def e140 :FEnt:=⟨140,[hh tI],[],[tI],hh .bool,[],[.bool],[]⟩
def e144 :FEnt:=⟨144,[.row 6,hP 0 0],[bb tI],[.nm 6,tI],hh .bool,[bb tI],[.bool,tI],[]⟩
def gvy :LEnt:=⟨0,⟨[(0,hh (tL 6)),(1,.c (.fn 144 [0])),(7,hh tI),(8,hh tI)],[bb tI]⟩,[],[],[tL 6,tI,tI,tI],[⟨.ret,⟨[(4,hh tI)],[bb tI]⟩,[],[tI,tI]⟩,⟨.exit 0,⟨[],[bb tI]⟩,[],[tI]⟩],[]⟩
def e143 :FEnt:=⟨143,[hh (tL 6),.c (.fn 144 [0])],[bb tI],[tL 6,tI],hh tI,[bb tI],[tI,tI],[gvy]⟩
def e101 :FEnt:=⟨101,[.row 4,hh tI],[],[.nm 4,tI],.tup [hh tI,hh .bool],[],[tI,.bool],[]⟩
def e173 :FEnt:=⟨173,[.row 7,hP 0 0,hP 1 0,hP 2 0],[bb (tL 4),bb tI,bb .bool],[.nm 7,tL 4,tI,.bool],hh .bool,[bb (tL 4),bb tI,bb .bool],[.bool,tL 4,tI,.bool],[]⟩
def gj3 :LEnt:=⟨0,⟨[(0,hh (tL 7)),(1,.c (.fn 173 [0,1,2])),(7,hh tI),(8,hh tI)],[bb (tL 4),bb tI,bb .bool]⟩,[],[],[tL 7,tI,tI,tL 4,tI,.bool],[⟨.ret,⟨[(4,hh tI)],[bb (tL 4),bb tI,bb .bool]⟩,[],[tI,tL 4,tI,.bool]⟩,⟨.exit 0,⟨[],[bb (tL 4),bb tI,bb .bool]⟩,[],[tL 4,tI,.bool]⟩],[]⟩
def e194 :FEnt:=⟨194,[hh (tL 7),.c (.fn 173 [0,1,2])],[bb (tL 4),bb tI,bb .bool],[tL 7,tL 4,tI,.bool],hh tI,[bb (tL 4),bb tI,bb .bool],[tI,tL 4,tI,.bool],[gj3]⟩
def e172 :FEnt:=⟨172,[hh (tL 7),.c (.fn 173 [0,1,2])],[bb (tL 4),bb tI,bb .bool],[tL 7,tL 4,tI,.bool],hh .bool,[bb (tL 4),bb tI,bb .bool],[.bool,tL 4,tI,.bool],[]⟩
def e141 :FEnt:=⟨141,[.row 9,hh tI,hh (tL 7),hh .bool],[],[.nm 9,tI,tL 7,.bool],hh .bool,[],[.bool],[]⟩
def e175 :FEnt:=⟨175,[hh tI],[],[tI],hh (.int .u64),[],[.int .u64],[]⟩
def e195 :FEnt:=⟨195,[hh (.int .u64)],[],[.int .u64],hh .bool,[],[.bool],[]⟩
def e174 :FEnt:=⟨174,[hh (.int .u64),hh (.int .u64)],[],[.int .u64,.int .u64],hh tI,[],[tI],[]⟩
def e196 :FEnt:=⟨196,[hh tI],[],[tI],hh .bool,[],[.bool],[]⟩
def e177 :FEnt:=⟨177,[hh tI,hh tI],[],[tI,tI],hh tI,[],[tI],[]⟩
def e197 :FEnt:=⟨197,[hh .str],[],[.str],hh .bool,[],[.bool],[]⟩
def e178 :FEnt:=⟨178,[hh .str,hh .str],[],[.str,.str],hh tI,[],[tI],[]⟩
def gvz :LEnt:=⟨0,⟨[(3,hh tI),(6,hh tLI),(7,hh tI),(8,hh tI)],[]⟩,[],[],[tI,tLI,tI,tI],[oR 2 tI,⟨.exit 0,⟨[(3,hh tI)],[]⟩,[],[tI]⟩],[]⟩
def e176 :FEnt:=⟨176,[hh tLI],[],[tLI],hh tI,[],[tI],[gvz]⟩
def e142 :FEnt:=⟨142,[.row 7,.row 7],[],[.nm 7,.nm 7],hh tI,[],[tI],[]⟩
def e97_0 :LEnt:=⟨0,⟨[(3,hh .bool),(4,hP 0 0),(6,hP 1 0),(9,hP 2 0),(111,hh (tL 8)),(112,hh tI),(113,hh tI)],[bb (tL 4),.brow 7,.box [.hole tI,.hole .str,.hole tI,.hole tI,.hole tI,.hole (tL 5),.hole (tL 6),.hole tI,.hole tI,.hole .bool]]⟩,[],[],[.bool,tL 8,tI,tI,tL 4,.nm 7,tI,.str,tI,tI,tI,tL 5,tL 6,tI,tI,.bool],[oR 8 .bool,⟨.exit 1,⟨[(3,hh .bool),(4,hP 0 0),(6,hP 1 0),(9,hP 2 0)],[bb (tL 4),.box [.hole tI,.hole .bool,.hole tI,.hole .str,.hole tI,.hole (tL 7),.hole (tL 7),.hole (tL 8)],.box [.hole tI,.hole .str,.hole tI,.hole tI,.hole tI,.hole (tL 5),.hole (tL 6),.hole tI,.hole tI,.hole .bool]]⟩,[],[.bool,tL 4,tI,.bool,tI,.str,tI,tL 7,tL 7,tL 8,tI,.str,tI,tI,tI,tL 5,tL 6,tI,tI,.bool]⟩],[]⟩
def e97_1 :LEnt:=⟨1,⟨[(3,hh .bool),(4,hP 0 0),(6,hP 1 0),(150,hh (tL 6)),(151,hh tI),(152,hh tI)],[bb (tL 4),.box [.hole tI,.hole .bool,.hole tI,.hole .str,.hole tI,.hole (tL 7),.hole (tL 7),.hole (tL 8)]]⟩,[],[],[.bool,tL 6,tI,tI,tL 4,tI,.bool,tI,.str,tI,tL 7,tL 7,tL 8],[oR 8 .bool,oX 3],[]⟩
def e97_2 :LEnt:=⟨2,⟨[(3,hh .bool),(4,hP 0 0),(6,hP 1 0),(9,hP 2 0),(20,hh tI)],[bb (tL 4),.brow 7,.box [.hole tI,.hole .str,.hole tI,.hole tI,.hole tI,.hole (tL 5),.hole (tL 6),.hole tI,.hole tI,.hole .bool]]⟩,[],[],[.bool,tI,tL 4,.nm 7,tI,.str,tI,tI,tI,tL 5,tL 6,tI,tI,.bool],[oR 8 .bool,⟨.exit 5,⟨[(3,hh .bool),(4,hP 0 0),(6,hP 1 0),(9,hP 2 0)],[bb (tL 4),.brow 7,.box [.hole tI,.hole .str,.hole tI,.hole tI,.hole tI,.hole (tL 5),.hole (tL 6),.hole tI,.hole tI,.hole .bool]]⟩,[],[.bool,tL 4,.nm 7,tI,.str,tI,tI,tI,tL 5,tL 6,tI,tI,.bool]⟩],[]⟩
def e97 :FEnt:=⟨97,[.row 9,hh tI,.row 7,hh .bool],[],[.nm 9,tI,.nm 7,.bool],hh .bool,[],[.bool],[e97_0,e97_1,e97_2]⟩
def e62 :FEnt:=⟨62,[.row 9,hh tI,.row 7],[],[.nm 9,tI,.nm 7],hh .bool,[],[.bool],[]⟩
def e37 :FEnt:=⟨37,[.row 9,hh tI,.row 7,.row 9,hh tI],[],[.nm 9,tI,.nm 7,.nm 9,tI],hh tI,[],[tI],[]⟩
def e63 :FEnt:=⟨63,[hP 0 0],[.box [.hole (tL 4),.hole (tL 4),.arr 1,.hole tLI],.arr tI],[tL 4,tL 4,tLI,tLI],.tup [.row 7,hh .bool],[.box [.hole (tL 4),.hole (tL 4),.arr 2,.arr 3],.gone,.arr tI,.arr tI],[.nm 7,.bool,tL 4,tL 4,tLI,tLI],[]⟩
def e102 :FEnt:=⟨102,[hP 0 0,hh tI],[.box [.hole (tL 4),.hole (tL 4),.arr 1,.hole tLI],.arr tI],[tI,tL 4,tL 4,tLI,tLI],.tup [.row 7,hh .bool],[.box [.hole (tL 4),.hole (tL 4),.arr 2,.arr 3],.gone,.arr tI,.arr tI],[.nm 7,.bool,tL 4,tL 4,tLI,tLI],[]⟩
def gj4 :LEnt:=⟨0,⟨[(1,hP 0 0),(2,hP 1 0),(20,.c (.arr 2)),(21,hh tI),(22,hh tI)],[.box [.hole tI,.hole .bool,.hole tI,.hole .str,.hole tI,.arr 2,.arr 3,.arr 4],.box [.hole tI,.hole .bool,.hole tI,.hole .str,.hole tI,.cap0,.cap0,.cap0],.arr (.nm 7),.arr (.nm 7),.arr (.nm 8)]⟩,[],[],[tI,tI,tI,.bool,tI,.str,tI,tI,.bool,tI,.str,tI,tL 7,tL 7,tL 8],[⟨.exit 0,⟨[(1,hP 0 0),(2,hP 1 0)],[.box [.hole tI,.hole .bool,.hole tI,.hole .str,.hole tI,.arr 2,.arr 3,.arr 4],.box [.hole tI,.hole .bool,.hole tI,.hole .str,.hole tI,.cap0,.cap0,.cap0],.arr (.nm 7),.arr (.nm 7),.arr (.nm 8)]⟩,[],[tI,.bool,tI,.str,tI,tI,.bool,tI,.str,tI,tL 7,tL 7,tL 8]⟩],[]⟩
def gj5 :LEnt:=⟨1,⟨[(1,hP 0 0),(2,hP 1 0),(35,.c (.arr 2)),(36,hh tI),(37,hh tI)],[.box [.hole tI,.hole .bool,.hole tI,.hole .str,.hole tI,.arr 3,.arr 2,.arr 4],.box [.hole tI,.hole .bool,.hole tI,.hole .str,.hole tI,.cap0,.cap0,.cap0],.arr (.nm 7),.arr (.nm 7),.arr (.nm 8)]⟩,[],[],[tI,tI,tI,.bool,tI,.str,tI,tI,.bool,tI,.str,tI,tL 7,tL 7,tL 8],[⟨.exit 2,⟨[(1,hP 0 0),(2,hP 1 0)],[.box [.hole tI,.hole .bool,.hole tI,.hole .str,.hole tI,.arr 2,.arr 3,.arr 4],.box [.hole tI,.hole .bool,.hole tI,.hole .str,.hole tI,.cap0,.cap0,.cap0],.arr (.nm 7),.arr (.nm 7),.arr (.nm 8)]⟩,[],[tI,.bool,tI,.str,tI,tI,.bool,tI,.str,tI,tL 7,tL 7,tL 8]⟩],[]⟩
def e103 :FEnt:=⟨103,[.row 7],[],[.nm 7],.row 7,[],[.nm 7],[gj4,gj5]⟩
def e104 :FEnt:=⟨104,[hP 0 0,hh tI,hh tI,.row 7,hh tI],[.box [.hole (tL 4),.hole (tL 4),.arr 1,.hole tLI],.arr tI],[tI,tI,.nm 7,tI,tL 4,tL 4,tLI,tLI],.tup [.row 7,hh .bool],[.box [.hole (tL 4),.hole (tL 4),.arr 2,.hole tLI],.gone,.arr tI],[.nm 7,.bool,tL 4,tL 4,tLI,tLI],[]⟩
def gfn :LEnt:=⟨0,⟨[(1,hh (tL 7)),(2,.c (.fn 45 [])),(15,hh (tL 7)),(16,hh tI),(17,hh tI)],[]⟩,[],[],[tL 7,tL 7,tI,tI],[oR 6 .bool,oX 0],[]⟩
def e82_b :FEnt:=⟨82,[hh (tL 7),hh (tL 7),.c (.fn 45 [])],[],[tL 7,tL 7],hh .bool,[],[.bool],[gfn]⟩
def e45 :FEnt:=⟨45,[.row 7,.row 7],[],[.nm 7,.nm 7],hh .bool,[],[.bool],[]⟩
def e105 :FEnt:=⟨105,[.row 6,.row 7],[],[.nm 6,.nm 7],hh .bool,[],[.bool],[]⟩
def gw0 :LEnt:=⟨0,⟨[(0,hh (.int .u64)),(3,hP 0 0),(4,hh tI)],[.arr (.int .u8)]⟩,[],[],[.int .u64,tI,.slice (.int .u8)],[⟨.exit 0,⟨[(0,hh (.int .u64)),(3,hP 0 0),(4,hh tI)],[.arr (.int .u8)]⟩,[],[.int .u64,tI,.slice (.int .u8)]⟩],[]⟩
def e148 :FEnt:=⟨148,[hh (.int .u64)],[],[.int .u64],hh .str,[],[.str],[gw0]⟩
def e198 :FEnt:=⟨198,[hh .str],[],[.str],hh .str,[],[.str],[]⟩
def e179 :FEnt:=⟨179,[hh tI,hh .bool,hh .str],[],[tI,.bool,.str],hh .str,[],[.str],[]⟩
def e147 :FEnt:=⟨147,[hh tI,hh .bool,hh .str],[],[tI,.bool,.str],.tup [hh .str,hh tI],[],[.str,tI],[]⟩
def e149 :FEnt:=⟨149,[hh .str],[],[.str],hh .str,[],[.str],[]⟩
def e199 :FEnt:=⟨199,[.row 9,hh tI],[],[.nm 9,tI],hh tI,[],[tI],[]⟩
def e200 :FEnt:=⟨200,[.row 9,hh tI,.row 7],[],[.nm 9,tI,.nm 7],hh .bool,[],[.bool],[]⟩
def e180 :FEnt:=⟨180,[.row 9,hh tI,.row 7],[],[.nm 9,tI,.nm 7],hh tI,[],[tI],[]⟩
def gw1 :LEnt:=⟨0,⟨[(0,hh (.int .u64)),(3,hP 0 0),(4,hh tI)],[.arr (.int .u8)]⟩,[],[],[.int .u64,tI,.slice (.int .u8)],[⟨.exit 0,⟨[(3,hP 0 0),(4,hh tI)],[.arr (.int .u8)]⟩,[],[tI,.slice (.int .u8)]⟩],[]⟩
def e201 :FEnt:=⟨201,[hh (.int .u64)],[],[.int .u64],hh .str,[],[.str],[gw1]⟩
def e207 :FEnt:=⟨207,[.row 6,.row 7],[],[.nm 6,.nm 7],hh .bool,[],[.bool],[]⟩
def e204 :FEnt:=⟨204,[hP 0 0,hh .str],[.bld 236 ((.bufc 1)),.buf 5],[.str,.str],.tup [hh tI,.c (.dead)],[.bld 236 ((.bufc 2)),.gone,.buf 5],[tI,.str],[]⟩
def e205 :FEnt:=⟨205,[hP 0 0],[.bld 236 ((.bufc 1)),.buf 5],[.str],hh .str,[.bld 236 ((.bufc 1)),.gone],[.str],[]⟩
def gj6 :LEnt:=⟨0,⟨[(0,hP 0 0),(3,hh tI),(6,hP 1 0),(9,.c (.arr 2)),(18,hh (tL 6)),(19,hh tI),(20,hh tI)],[.box [.hole (tL 4),.hole tI],.brow 7,.arr (.nm 10)]⟩,[(.slot 9,.nm 10)],[(.slot 9,.nm 10)],[tI,tL 6,tI,tI,tL 4,tI,.nm 7,tL 10],[⟨.exit 0,⟨[(6,hP 1 0),(9,.c (.arr 2))],[.box [.hole (tL 4),.hole tI],.brow 7,.arr (.nm 10)]⟩,[],[tL 4,tI,.nm 7,tL 10]⟩],[]⟩
def gw2 :LEnt:=⟨1,⟨[(9,.c (.arr 1)),(57,hh (tL 8)),(58,hh tI),(59,hh tI)],[.box [.hole (tL 4),.hole tI],.arr (.nm 10)]⟩,[],[],[tL 8,tI,tI,tL 4,tI,tL 10],[⟨.exit 2,⟨[(9,.c (.arr 1))],[.box [.hole (tL 4),.hole tI],.arr (.nm 10)]⟩,[],[tL 4,tI,tL 10]⟩],[]⟩
def gw3 :LEnt:=⟨2,⟨[(14,hP 1 0),(77,.c (.arr 2)),(78,hh tI),(79,hh tI)],[.box [.hole (tL 4),.hole tI],.bld 236 ((.bufc 3)),.arr (.nm 10),.buf 5]⟩,[],[],[tI,tI,tL 4,tI,tL 10,.str],[⟨.exit 4,⟨[(14,hP 1 0)],[.box [.hole (tL 4),.hole tI],.bld 236 ((.bufc 2)),.buf 5]⟩,[],[tL 4,tI,.str]⟩],[]⟩
def e202 :FEnt:=⟨202,[hP 0 0,.row 4,.row 7,hh tI],[.box [.hole (tL 4),.hole tI]],[.nm 4,.nm 7,tI,tL 4,tI],hh .str,[.box [.hole (tL 4),.hole tI]],[.str,tL 4,tI],[gj6,gw2,gw3]⟩
def e203 :FEnt:=⟨203,[hP 0 0,.row 4,.row 7,hh tI],[.box [.hole (tL 4),.hole tI]],[.nm 4,.nm 7,tI,tL 4,tI],hh .str,[.box [.hole (tL 4),.hole tI]],[.str,tL 4,tI],[]⟩
def gj7 :LEnt:=⟨0,⟨[(0,hP 0 0),(3,hh tI),(6,hP 1 0),(9,hP 2 0),(10,hP 3 0),(84,hh (tL 7)),(85,hh tI),(86,hh tI)],[.box [.hole (tL 4),.hole tI],.brow 7,.brow 4,.bld 236 ((.bufc 4)),.buf 5]⟩,[],[],[tI,tL 7,tI,tI,tL 4,tI,.nm 7,.nm 4,.str],[⟨.exit 1,⟨[(10,hP 1 0)],[.box [.hole (tL 4),.hole tI],.bld 236 ((.bufc 2)),.buf 5]⟩,[],[tL 4,tI,.str]⟩],[]⟩
def e181 :FEnt:=⟨181,[hP 0 0,hh tI,.row 7,hh tI],[.box [.hole (tL 4),.hole tI]],[tI,.nm 7,tI,tL 4,tI],hh .str,[.box [.hole (tL 4),.hole tI]],[.str,tL 4,tI],[gj7]⟩
def e150 :FEnt:=⟨150,[.row 9,hh tI,.row 7],[],[.nm 9,tI,.nm 7],.tup [hh .str,hh tI],[],[.str,tI],[]⟩
def gj8 :LEnt:=⟨0,⟨[(3,hP 0 0),(5,hP 1 0),(8,hh .str),(36,hh (tL 6)),(37,hh tI),(38,hh tI)],[bb (tL 4),.brow 7]⟩,[],[],[.str,tL 6,tI,tI,tL 4,.nm 7],[⟨.exit 1,⟨[(8,hh .str)],[]⟩,[],[.str]⟩],[]⟩
def gj9 :LEnt:=⟨1,⟨[(3,hP 0 0),(7,hP 1 0),(8,hh .str),(101,hh (tL 7)),(102,hh tI),(103,hh tI)],[bb (tL 4),.brow 4]⟩,[],[],[.str,tL 7,tI,tI,tL 4,.nm 4],[⟨.exit 3,⟨[(8,hh .str)],[]⟩,[],[.str]⟩],[]⟩
def gja :LEnt:=⟨2,⟨[(3,hP 0 0),(5,hP 1 0),(7,hP 2 0),(8,hh .str),(118,hh (tL 7)),(119,hh tI),(120,hh tI)],[bb (tL 4),.brow 7,.brow 4]⟩,[],[],[.str,tL 7,tI,tI,tL 4,.nm 7,.nm 4],[⟨.exit 5,⟨[(8,hh .str)],[]⟩,[],[.str]⟩],[]⟩
def e106 :FEnt:=⟨106,[.row 9,hh tI,.row 7],[],[.nm 9,tI,.nm 7],hh .str,[],[.str],[gj8,gj9,gja]⟩
def e65_0 :LEnt:=⟨0,⟨[(0,hP 0 0),(5,hP 2 0),(6,hP 3 0),(7,hP 4 0),(8,hP 5 0),(10,hP 6 0),(25,hh (tL 6)),(26,hh tI),(27,hh tI)],[.box [.hole (tL 4),.hole (tL 4),.arr 7,.hole tLI],.gone,.brow 4,.brow 7,.brow 4,.box [.hole tI,.hole .bool,.hole tI,.hole .str,.hole tI,.cap0,.cap0,.cap0],.box [.hole tI,.hole .bool,.hole tI,.hole .str,.hole tI,.cap0,.arr 8,.cap0],.arr tI,.arr (.nm 7)]⟩,[(.via 10 6,.nm 7)],[(.via 10 6,.nm 7)],[tL 6,tI,tI,tL 4,tL 4,tLI,.nm 4,.nm 7,.nm 4,tI,.bool,tI,.str,tI,tI,.bool,tI,.str,tI,tLI,tL 7],[⟨.ret,⟨[(8,hP 2 0),(9,hh .bool)],[.box [.hole (tL 4),.hole (tL 4),.arr 3,.hole tLI],.gone,.brow 7,.arr tI]⟩,[],[.bool,tL 4,tL 4,tLI,.nm 7,tLI]⟩,⟨.exit 0,⟨[(0,hP 0 0),(5,hP 2 0),(6,hP 3 0),(7,hP 4 0),(8,hP 5 0),(10,hP 6 0)],[.box [.hole (tL 4),.hole (tL 4),.arr 7,.hole tLI],.gone,.brow 4,.brow 7,.brow 4,.box [.hole tI,.hole .bool,.hole tI,.hole .str,.hole tI,.cap0,.cap0,.cap0],.box [.hole tI,.hole .bool,.hole tI,.hole .str,.hole tI,.cap0,.arr 8,.cap0],.arr tI,.arr (.nm 7)]⟩,[],[tL 4,tL 4,tLI,.nm 4,.nm 7,.nm 4,tI,.bool,tI,.str,tI,tI,.bool,tI,.str,tI,tLI,tL 7]⟩],[]⟩
def e65_1 :LEnt:=⟨1,⟨[(0,hP 0 0),(6,hP 2 0),(7,hP 3 0),(8,hP 4 0),(10,hP 5 0),(115,hh (tL 6)),(116,hh tI),(117,hh tI)],[.box [.hole (tL 4),.hole (tL 4),.arr 6,.hole tLI],.gone,.brow 7,.brow 4,.box [.hole tI,.hole .bool,.hole tI,.hole .str,.hole tI,.cap0,.cap0,.cap0],.box [.hole tI,.hole .bool,.hole tI,.hole .str,.hole tI,.cap0,.arr 7,.arr 8],.arr tI,.arr (.nm 7),.arr (.nm 8)]⟩,[(.via 10 7,.nm 8)],[(.via 10 7,.nm 8)],[tL 6,tI,tI,tL 4,tL 4,tLI,.nm 7,.nm 4,tI,.bool,tI,.str,tI,tI,.bool,tI,.str,tI,tLI,tL 7,tL 8],[⟨.ret,⟨[(8,hP 2 0),(9,hh .bool)],[.box [.hole (tL 4),.hole (tL 4),.arr 3,.arr 4],.gone,.brow 7,.arr tI,.arr tI]⟩,[],[.bool,tL 4,tL 4,.nm 7,tLI,tLI]⟩,⟨.exit 2,⟨[(8,hP 2 0),(10,hP 3 0)],[.box [.hole (tL 4),.hole (tL 4),.arr 4,.hole tLI],.gone,.box [.hole tI,.hole .bool,.hole tI,.hole .str,.hole tI,.cap0,.cap0,.cap0],.box [.hole tI,.hole .bool,.hole tI,.hole .str,.hole tI,.cap0,.arr 5,.arr 6],.arr tI,.arr (.nm 7),.arr (.nm 8)]⟩,[],[tL 4,tL 4,tLI,tI,.bool,tI,.str,tI,tI,.bool,tI,.str,tI,tLI,tL 7,tL 8]⟩],[]⟩
def e65 :FEnt:=⟨65,[hP 0 0,.row 4,.row 7,.row 4],[.box [.hole (tL 4),.hole (tL 4),.arr 1,.hole tLI],.arr tI],[.nm 4,.nm 7,.nm 4,tL 4,tL 4,tLI,tLI],.tup [.row 7,hh .bool],[.box [.hole (tL 4),.hole (tL 4),.arr 2,.hole tLI],.gone,.arr tI],[.nm 7,.bool,tL 4,tL 4,tLI,tLI],[e65_0,e65_1]⟩
def e66 :FEnt:=⟨66,[hP 0 0,.row 4,.row 7,.row 4],[.box [.hole (tL 4),.hole (tL 4),.arr 1,.hole tLI],.arr tI],[.nm 4,.nm 7,.nm 4,tL 4,tL 4,tLI,tLI],.tup [.row 7,hh .bool],[.box [.hole (tL 4),.hole (tL 4),.arr 2,.hole tLI],.gone,.arr tI],[.nm 7,.bool,tL 4,tL 4,tLI,tLI],[]⟩
def e67_0 :LEnt:=⟨0,⟨[(0,hP 0 0),(1,hh tI),(3,hh tI),(10,.c (.arr 2)),(15,hh (tL 7)),(16,hh tI),(17,hh tI)],[.box [.hole (tL 4),.hole (tL 4),.arr 3,.hole tLI],.gone,.arr (.nm 7),.arr tI]⟩,[(.slot 10,.nm 7)],[(.slot 10,.nm 7)],[tI,tI,tL 7,tI,tI,tL 4,tL 4,tLI,tL 7,tLI],[⟨.ret,⟨[(8,.c (.cap0)),(9,hh .bool)],[.box [.hole (tL 4),.hole (tL 4),.arr 2,.hole tLI],.gone,.arr tI]⟩,[],[.bool,tL 4,tL 4,tLI,tLI]⟩,⟨.exit 0,⟨[(10,.c (.arr 2))],[.box [.hole (tL 4),.hole (tL 4),.arr 3,.hole tLI],.gone,.arr (.nm 7),.arr tI]⟩,[],[tL 4,tL 4,tLI,tL 7,tLI]⟩],[]⟩
def e67 :FEnt:=⟨67,[hP 0 0,hh tI,hh (tL 7),hh tI],[.box [.hole (tL 4),.hole (tL 4),.arr 1,.hole tLI],.arr tI],[tI,tL 7,tI,tL 4,tL 4,tLI,tLI],.tup [hh (tL 7),hh .bool],[.box [.hole (tL 4),.hole (tL 4),.arr 2,.hole tLI],.gone,.arr tI],[tL 7,.bool,tL 4,tL 4,tLI,tLI],[e67_0]⟩
def e38 :FEnt:=⟨38,[hP 0 0,hh tI,.row 7,hh tI],[.box [.hole (tL 4),.hole (tL 4),.arr 1,.hole tLI],.arr tI],[tI,.nm 7,tI,tL 4,tL 4,tLI,tLI],.tup [.row 7,hh .bool],[.box [.hole (tL 4),.hole (tL 4),.arr 2,.hole tLI],.gone,.arr tI],[.nm 7,.bool,tL 4,tL 4,tLI,tLI],[]⟩
def e13 :FEnt:=⟨13,[.row 9,hh tI,.row 7,.row 9,hh tI],[],[.nm 9,tI,.nm 7,.nm 9,tI],.tup [.row 7,hh tI],[],[.nm 7,tI],[]⟩
def e17 :FEnt:=⟨17,[.row 9,hh tI,.row 7,.row 9,hh tI],[],[.nm 9,tI,.nm 7,.nm 9,tI],.tup [hh tLI,hh tI],[],[tLI,tI],[]⟩
def e19_0 :LEnt:=⟨0,⟨[(0,hh tLI),(1,hh tLI),(12,hh tI),(13,hh tI)],[]⟩,[],[],[tLI,tLI,tI,tI],[oR 4 .bool,oX 0],[]⟩
def e19 :FEnt:=⟨19,[hh tLI,hh tLI],[],[tLI,tLI],hh .bool,[],[.bool],[e19_0]⟩
def e12 :FEnt:=⟨12,[],[],[],hh .bool,[],[.bool],[]⟩
def e44_0 :LEnt:=⟨0,⟨[(1,hh tI),(2,hP 0 0),(5,hh tI)],[.brow 7]⟩,[],[],[tI,tI,.nm 7],[⟨.exit 0,⟨[(1,hh tI),(2,hP 0 0)],[.brow 7]⟩,[],[tI,.nm 7]⟩],[]⟩
def e44_1 :LEnt:=⟨1,⟨[(1,hh tI),(2,hP 0 0),(6,hh tI)],[.brow 7]⟩,[],[],[tI,tI,.nm 7],[⟨.exit 2,⟨[(1,hh tI),(2,hP 0 0)],[.brow 7]⟩,[],[tI,.nm 7]⟩],[]⟩
def e44_2 :LEnt:=⟨2,⟨[(1,hh tI),(2,hP 0 0),(7,hh tI)],[.brow 7]⟩,[],[],[tI,tI,.nm 7],[⟨.exit 4,⟨[(1,hh tI)],[]⟩,[],[tI]⟩],[]⟩
def e44 :FEnt:=⟨44,[.row 7,hh tI],[],[.nm 7,tI],hh tI,[],[tI],[e44_0,e44_1,e44_2]⟩
def e21 :FEnt:=⟨21,[.row 7],[],[.nm 7],hh .bool,[],[.bool],[]⟩
def e74_0 :LEnt:=⟨0,⟨[(0,hh (tL 7)),(1,hh (tL 7)),(5,hh tI)],[]⟩,[],[],[tL 7,tL 7,tI],[oR 4 .bool,oX 0],[]⟩
def e74 :FEnt:=⟨74,[hh (tL 7),hh (tL 7)],[],[tL 7,tL 7],hh .bool,[],[.bool],[e74_0]⟩
def e40_0 :LEnt:=⟨0,⟨[(2,hP 0 0),(3,hP 1 0),(5,hh tI)],[.brow 7,.brow 7]⟩,[],[],[tI,.nm 7,.nm 7],[oR 4 .bool,⟨.exit 0,⟨[(2,hP 0 0),(3,hP 1 0)],[.brow 7,.brow 7]⟩,[],[.nm 7,.nm 7]⟩],[]⟩
def e40 :FEnt:=⟨40,[.row 7,.row 7],[],[.nm 7,.nm 7],hh .bool,[],[.bool],[e40_0]⟩
def e15 :FEnt:=⟨15,[.row 7,.row 7],[],[.nm 7,.nm 7],hh .bool,[],[.bool],[]⟩
def e5 :FEnt:=⟨5,[.row 0],[],[.nm 0],hh .bool,[],[.bool],[]⟩
def e8 :FEnt:=⟨8,[.row 11],[],[.nm 11],hh .bool,[],[.bool],[]⟩
def tabE0 :List FEnt:=[e33,e32,e34,e35,e186,e36,e82_a,e189,e188,e187,e155,e182,e183,e152,e184,e153,e185,e154,e115,e116]
def tabE1 :List FEnt:=[e88,e61,e171,e139,e100,e99,e64,e140,e144,e143,e101,e173,e194,e172,e141,e175,e195,e174,e196,e177]
def tabE2 :List FEnt:=[e197,e178,e176,e142,e97,e62,e37,e63,e102,e103,e104,e82_b,e45,e105,e148,e198,e179,e147,e149,e199]
def tabE3 :List FEnt:=[e200,e180,e201,e207,e204,e205,e202,e203,e181,e150,e106,e65,e66,e67,e38,e13,e17,e19,e12]
def tabE :List FEnt:=tabE0++tabE1++tabE2++tabE3
theorem gw4 :tabE.all (okE prog)=true:=by kernel_rfl
def gbb :FSpec Un:={gb9 with F:=sortK (α:=Un.D 10) sortLt}
theorem gfo :FnC prog gbb:=⟨gba.1,fun h r hr=>gba.2 h r (gxj sortSWO _ r hr)⟩
end
section
open Go Go.Proofs.YtandcioiaooocaaGreat.Shv
open Tryz
set_option maxRecDepth 100000
def g89(n:Int) :Option (SValue):=
 some (⟨2,false,n,[],0,[],[],[]⟩:SValue)
theorem e33_k :KC e33:= .m (by kernel_rfl)
theorem gc4 :FC e33 g89:= .fn e33_k .n .n fun _=>by kernel_rfl
def g4a(n:Int) :Option (SMember):=
 g89 n >>=fun r=>
 some (⟨2,[121],1,false,true,SValue.eta r⟩:SMember)
theorem e32_k :KC e32:= .m (by kernel_rfl)
theorem gfp :FC e32 g4a:= .fn e32_k (.k gc4 .n) .n fun _=>by kernel_rfl
def g4p(l:List SMember) :Option (SSchema):=
 some (⟨[(⟨5,[82],0,0,0,[],l,0,0,false⟩:SType),(⟨2,[],0,9,0,[],[],0,0,false⟩:SType),(⟨2,[],0,5,0,[],[],0,0,false⟩:SType),(⟨1,[],0,0,0,[],[],0,0,false⟩:SType)]⟩:SSchema)
theorem e34_k :KC e34:= .m (by kernel_rfl)
theorem ggy :FC e34 g4p:= .fn e34_k .n .n fun _=>by kernel_rfl
def g4b(x_:Int × Int) :Option (SValue):=
 match x_ with
 | (a,b)=>
 g89 a >>=fun r=>
 g89 b >>=fun r_1=>
 some (⟨5,false,0,[],0,[],[SValue.eta r,SValue.eta r_1],[]⟩:SValue)
theorem e35_k :KC e35:= .m (by kernel_rfl)
theorem gfq :FC e35 g4b:= .fn e35_k (.k gc4 .n) .n fun _=>by kernel_rfl
def gr(x_:List SRaw × List SRaw × Int × Int) :Option ((Bool) ⊕ (Unit)):=
 match x_ with
 | (s1_1,s2_1,t12_1,t13)=>
 if decide (t13 < t12_1)=true then
   if inR t13 s1_1.length=true then
     some (s1_1.getD t13.toNat dSRaw) >>=fun x0=>
     if inR t13 s2_1.length=true then
       some (s2_1.getD t13.toNat dSRaw) >>=fun x0_1=>
       if(!(eqI x0.ID x0_1.ID && (eqS x0.Data x0_1.Data && true)))=true then
         some (.inl false)
       else
         gr (s1_1,s2_1,t12_1,addI .i64 t13 1)
     else none
   else none
 else
   some (.inr ())
  partial_fixpoint
theorem g9s :LC 36 0 [0] e36_0 gr:= .rc gr.partial_correctness .n .n fun _ _=>by kernel_rfl
def g1m(x_:List SRaw × List SRaw) :Option (Bool):=
 match x_ with
 | (s1,s2)=>
 if(!(decide ((s1.length:Int)=(s2.length:Int))))=true then
   some false
 else
   gr (s1,s2,(s1.length:Int),0) >>=fun o=>
   match o with
   | .inl o_1=>
     some o_1
   | .inr o_2=>
     some true
theorem e36_k :KC e36:= .m (by kernel_rfl)
theorem g51 :FC e36 g1m:= .fn e36_k .n (.k g9s .n) fun _=>by kernel_rfl
def g27(x_:List Int × List Int × Int × Int) :Option ((Bool) ⊕ (Unit)):=
 match x_ with
 | (s1_1,s2_1,t12_1,t13)=>
 if decide (t13 < t12_1)=true then
   if inR t13 s1_1.length=true then
     if inR t13 s2_1.length=true then
       if(!(decide (s1_1.getD t13.toNat 0=s2_1.getD t13.toNat 0)))=true then
         some (.inl false)
       else
         g27 (s1_1,s2_1,t12_1,addI .i64 t13 1)
     else none
   else none
 else
   some (.inr ())
  partial_fixpoint
theorem gdi :LC 19 0 [0] e19_0 g27:= .rc g27.partial_correctness .n .n fun _ _=>by kernel_rfl
def g56(x_:List Int × List Int) :Option (Bool):=
 match x_ with
 | (s1,s2)=>
 if(!(decide ((s1.length:Int)=(s2.length:Int))))=true then
   some false
 else
   g27 (s1,s2,(s1.length:Int),0) >>=fun o=>
   match o with
   | .inl o_1=>
     some o_1
   | .inr o_2=>
     some true
theorem e19_k :KC e19:= .m (by kernel_rfl)
theorem gfr :FC e19 g56:= .fn e19_k .n (.k gdi .n) fun _=>by kernel_rfl
theorem e13_k :KC e13:= .m (by kernel_rfl)
noncomputable def g41:SSchema × Int × SValue × SSchema × Int→Option (SValue × Int):=evF prog tabE [g6q,g6s,g6t,gbb,g88] 3000 e13
theorem ghp :FC e13 g41:= .run gw4 (.k g6r (.k g8n (.k g8o (.k gfo (.k gae .n))))) e13_k 3000 fun _=>rfl
theorem e17_k :KC e17:= .m (by kernel_rfl)
noncomputable def g42:SSchema × Int × SValue × SSchema × Int→Option (List Int × Int):=evF prog tabE [g6q,g6s,g6t,gbb,g88] 3000 e17
theorem ghq :FC e17 g42:= .run gw4 (.k g6r (.k g8n (.k g8o (.k gfo (.k gae .n))))) e17_k 3000 fun _=>rfl
def g8p(g41:SSchema × Int × SValue × SSchema × Int→Option (SValue × Int))(g42:SSchema × Int × SValue × SSchema × Int→Option (List Int × Int)) :Option (Bool):=
 g4a 3 >>=fun r=>
 g4p [(⟨1,[120],1,false,false,(⟨0,false,0,[],0,[],[],[]⟩:SValue)⟩:SMember),(⟨r.ID,r.Name,r.Type_,r.Critical,r.HasDefault,SValue.eta r.Default⟩:SMember)] >>=fun r_1=>
 g4a 3 >>=fun r_2=>
 g4p [(⟨1,[120],2,false,false,(⟨0,false,0,[],0,[],[],[]⟩:SValue)⟩:SMember),(⟨r_2.ID,r_2.Name,r_2.Type_,r_2.Critical,r_2.HasDefault,SValue.eta r_2.Default⟩:SMember),(⟨4,[122],3,false,true,(⟨1,true,0,[],0,[],[],[]⟩:SValue)⟩:SMember)] >>=fun r_3=>
 g4b (5,3) >>=fun r_4=>
 g41 (r_1,0,SValue.eta r_4,r_3,0) >>=fun r_5=>
 g4b (6,3) >>=fun r_8=>
 g42 (r_1,0,SValue.eta r_8,r_3,0) >>=fun r_9=>
 g4b (1,3) >>=fun r_12=>
 g4a 4 >>=fun r_13=>
 g4p [(⟨r_13.ID,r_13.Name,r_13.Type_,r_13.Critical,r_13.HasDefault,SValue.eta r_13.Default⟩:SMember)] >>=fun r_14=>
 g42 (r_1,0,SValue.eta r_12,r_14,0) >>=fun r_15=>
 g4b (1,4) >>=fun r_18=>
 g4a 4 >>=fun r_19=>
 g4p [(⟨r_19.ID,r_19.Name,r_19.Type_,r_19.Critical,r_19.HasDefault,SValue.eta r_19.Default⟩:SMember)] >>=fun r_20=>
 g41 (r_1,0,SValue.eta r_18,r_20,0) >>=fun r_21=>
 some (bif bif bif bif decide (r_5.2=0)then decide (r_9.2=0)else false then decide (r_15.2=0)else false then decide (r_21.2=0)else false then decide ((r_5.1.Items.length:Int)=3)else false) >>=fun t83=>
 if(inR 2 r_5.1.Items.length || (!t83))=true then
   some (bif t83 then(r_5.1.Items.getD (2:Int).toNat dSValue).Bool_ else false) >>=fun t90=>
   (if t90=true then g56 (r_9.1,[1])else some false) >>=fun r_24=>
   some (bif t90 then r_24 else false) >>=fun t95=>
   (if t95=true then g56 (r_15.1,[2])else some false) >>=fun r_25=>
   some (bif t95 then r_25 else false) >>=fun t100=>
   (if t100=true then g1m (r_21.1.Rest,[(⟨1,[2]⟩:SRaw)])else some false) >>=fun r_26=>
   some (bif t100 then r_26 else false)
 else none
noncomputable def g8q (_:Unit):Option (Bool):=g8p g41 g42
theorem e12_k :KC e12:= .m (by kernel_rfl)
theorem ggz :FC e12 g8q:= .fn e12_k (.k gfp (.k ggy (.k gfq (.k ghp (.k ghq (.k gfr (.k g51 .n))))))) .n fun _=>by kernel_rfl
end
section
open Go Go.Proofs.YtandcioiaooocaaGreat.Shv
open Tryz
set_option maxRecDepth 100000
def awY(n:Int) :SMember:=⟨2,[121],1,false,true,⟨2,false,n,[],0,[],[],[]⟩⟩
def awX(t:Int) :SMember:=⟨1,[120],t,false,false,⟨0,false,0,[],0,[],[],[]⟩⟩
def awZ :SMember:=⟨4,[122],3,false,true,⟨1,true,0,[],0,[],[],[]⟩⟩
def awS(l:List SMember) :SSchema:=⟨[⟨5,[82],0,0,0,[],l,0,0,false⟩,⟨2,[],0,9,0,[],[],0,0,false⟩,⟨2,[],0,5,0,[],[],0,0,false⟩,⟨1,[],0,0,0,[],[],0,0,false⟩]⟩
def awV(a b:Int) :SValue:=⟨5,false,0,[],0,[],[⟨2,false,a,[],0,[],[],[]⟩,⟨2,false,b,[],0,[],[],[]⟩],[]⟩
theorem gzi(n:Int) :g4a n=some (awY n):=rfl
theorem gzj(l:List SMember) :g4p l=some (awS l):=rfl
theorem gzk(a b:Int) :g4b (a,b)=some (awV a b):=rfl
def awC1 :Option (SValue × Int)→Bool
 | some (u,e)=>decide (e=0) && (decide (u.Items.length=3) && (u.Items.getD 2 dSValue).Bool_)
 | none=>false
def awC2(n:Int) :Option (List Int × Int)→Bool
 | some (p,e)=>decide (e=0) && decide (p=[n])
 | none=>false
def awC3 :Option (SValue × Int)→Bool
 | some (u,e)=>decide (e=0) && (match u.Rest with
   | [x]=>decide (x.ID=1) && decide (x.Data=[2])
   | _=>false)
 | none=>false
theorem aw1 :awC1 (g41 (awS [awX 1,awY 3],0,awV 5 3,awS [awX 2,awY 3,awZ],0))=true:=by kernel_rfl
theorem aw2 :awC2 1 (g42 (awS [awX 1,awY 3],0,awV 6 3,awS [awX 2,awY 3,awZ],0))=true:=by kernel_rfl
theorem aw3 :awC2 2 (g42 (awS [awX 1,awY 3],0,awV 1 3,awS [awY 4],0))=true:=by kernel_rfl
theorem aw4 :awC3 (g41 (awS [awX 1,awY 3],0,awV 1 4,awS [awY 4],0))=true:=by kernel_rfl
theorem awEq1(n:Int) :g56 ([n],[n])=some true:=by
 have h1:g27 ([n],[n],1,addI .i64 0 1)=some (.inr ()):=by rw[g27];rfl
 have h0:g27 ([n],[n],(([n]:List Int).length:Int),0)=some (.inr ()):=by
   rw[g27]
   simpa[inR]using h1
 rw[g56,h0];rfl
theorem awEq2 :g1m ([⟨1,[2]⟩],[⟨1,[2]⟩])=some true:=by
 have h1:gr ([⟨1,[2]⟩],[⟨1,[2]⟩],1,addI .i64 0 1)=some (.inr ()):=by rw[gr];rfl
 have h0:gr ([⟨1,[2]⟩],[⟨1,[2]⟩],(([⟨1,[2]⟩]:List SRaw).length:Int),0)=some (.inr ()):=by
   rw[gr]
   simpa[inR,eqI,eqS]using h1
 rw[g1m,h0];rfl
theorem awYe(n:Int) :(⟨(awY n).ID,(awY n).Name,(awY n).Type_,(awY n).Critical,(awY n).HasDefault,(awY n).Default⟩:SMember)=awY n:=rfl
theorem awXe(n:Int) :(⟨1,[120],n,false,false,(⟨0,false,0,[],0,[],[],[]⟩:SValue)⟩:SMember)=awX n:=rfl
theorem awZe :(⟨4,[122],3,false,true,(⟨1,true,0,[],0,[],[],[]⟩:SValue)⟩:SMember)=awZ:=rfl
theorem ofC1{o:Option (SValue × Int)}(h:awC1 o=true) :∃u,o=some (u,0)∧u.Items.length=3∧(u.Items.getD (2:Int).toNat dSValue).Bool_=true:=by
 match o,h with
 | some (u,e),h=>
   simp only[awC1,Bool.and_eq_true,decide_eq_true_eq]at h;obtain⟨rfl,h1,h2⟩:=h;exact⟨u,rfl,h1,h2⟩
theorem ofC2{n:Int}{o:Option (List Int × Int)}(h:awC2 n o=true) :o=some ([n],0):=by
 match o,h with
 | some (u,e),h=>
   simp only[awC2,Bool.and_eq_true,decide_eq_true_eq]at h;obtain⟨rfl,rfl⟩:=h;rfl
theorem ofC3{o:Option (SValue × Int)}(h:awC3 o=true) :∃u,o=some (u,0)∧u.Rest=[⟨1,[2]⟩]:=by
 match o,h with
 | some (u,e),h=>
   simp only[awC3,Bool.and_eq_true,decide_eq_true_eq]at h;obtain⟨rfl,h1⟩:=h;refine⟨u,rfl,?_⟩;split at h1
   · rename_i x hx;simp only[Bool.and_eq_true,decide_eq_true_eq]at h1;rw[hx];cases x;simp_all
   · cases h1
theorem gw5 (g1 : SSchema × Int × SValue × SSchema × Int → Option (SValue × Int)) (g2 : SSchema × Int × SValue × SSchema × Int → Option (List Int × Int))
   (h1:awC1 (g1 (awS [awX 1,awY 3],0,awV 5 3,awS [awX 2,awY 3,awZ],0))=true) (h2:awC2 1 (g2 (awS [awX 1,awY 3],0,awV 6 3,awS [awX 2,awY 3,awZ],0))=true)
   (h3:awC2 2 (g2 (awS [awX 1,awY 3],0,awV 1 3,awS [awY 4],0))=true) (h4:awC3 (g1 (awS [awX 1,awY 3],0,awV 1 4,awS [awY 4],0))=true):g8p g1 g2=some true:=by
 obtain⟨u1,e1,b1,c1⟩:=ofC1 h1;have e2:=ofC2 h2;have e3:=ofC2 h3;obtain⟨u4,e4,hr⟩:=ofC3 h4;have hl:decide ((u1.Items.length:Int)=3)=true:=by rw[b1];rfl
 have hin:inR 2 u1.Items.length=true:=by rw[b1];rfl
 unfold g8p;simp only[oZ4,oZ3,gzi,gzj,gzk,SValue.gk,awYe,awXe,awZe];rw[e1,e2,e3,e4];simp only[oZ3,hl,hin,hr,c1,awEq1,awEq2,decide_true,cond_true,Bool.true_or,if_true]
theorem gw6 :g8q ()=some true:=gw5 _ _ aw1 aw2 aw3 aw4
def g5w(_:Unit) :Option (Bool):=some true
theorem ghr :FC e12 g5w:=by
 have:g8q=g5w:=by funext x;exact gw6
 rw[←this];exact ggz
theorem gfs :g5w ()=some true:=rfl
end
section
open Go Go.Proofs.YtandcioiaooocaaGreat.Shv
open Tryz
set_option maxRecDepth 100000
def g3v(x_:Sheaveref07Draft × Int) :Option (Int):=
 match x_ with
 | (d,i)=>
 if inR i d.Nodes.length=true then
 some (addI .i64 1 (wrp .i64 (remI (d.Nodes.getD i.toNat dSheaveref07Node).Kind 9)))
 else none
theorem e54_k :KC e54:= .m (by kernel_rfl)
theorem g5i :FC e54 g3v:= .fn e54_k .n .n fun _=>by kernel_rfl
def g1d(kind:Int) :Option (Bool):=
 some (bif bif decide (kind=4)then true else decide (kind=5)then true else decide (kind=6))
theorem e55_k :KC e55:= .m (by kernel_rfl)
theorem ghs :FC e55 g1d:= .fn e55_k .n .n fun _=>by kernel_rfl
def g3n(x0:Sheaveref07Node) :Option (Int):=
 some (subI .i64 (wrp .i64 (remI x0.A 7)) 3)
theorem e56_k :KC e56:= .m (by kernel_rfl)
theorem g95 :FC e56 g3n:= .fn e56_k .n .n fun _=>by kernel_rfl
def g4k(x0:Sheaveref07Node) :Option (Int):=
 g3n x0 >>=fun r=>
 some (addI .i64 r (wrp .i64 (remI x0.B 6)))
theorem e57_k :KC e57:= .m (by kernel_rfl)
theorem gbr :FC e57 g4k:= .fn e57_k (.k g95 .n) .n fun _=>by kernel_rfl
def g2t(x_:Int × Sheaveref07Node × List Int) :Option (List Int):=
 match x_ with
 | (i,b_1,b_2)=>
 if decide (i < 6)=true then
 if decide (0≤i)=true then
 if decide (remI (shrI .u8 b_1.A i) 2=1)=true then
 some [addI .i64 i 1] >>=fun t18=>
 if room 8 (b_2++t18).length=true then
 g2t (addI .i64 i 1,b_1,b_2++t18)
 else none
 else
 g2t (addI .i64 i 1,b_1,b_2)
 else none
 else
 some b_2
  partial_fixpoint
theorem gh0 :LC 58 0 [0] e58_0 g2t:= .rc g2t.partial_correctness .n .n fun _ _=>by kernel_rfl
def g3a(x0:Sheaveref07Node) :Option (List Int):=
 g2t (0,x0,[]) >>=fun o=>
 if decide ((o.length:Int)=0)=true then
 some [1] >>=fun t24=>
 if room 8 (o++t24).length=true then
 some (o++t24)
 else none
 else
 some o
theorem e58_k :KC e58:= .m (by kernel_rfl)
theorem gc5 :FC e58 g3a:= .fn e58_k .n (.k gh0 .n) fun _=>by kernel_rfl
def g5j(kind:Int) :Option (Bool):=
 some (decide (7≤kind))
theorem gzl :KC e138:= .m (by kernel_rfl)
theorem gaf :FC e138 g5j:= .fn gzl .n .n fun _=>by kernel_rfl
def g1s(x_:Int × Int × List Sheaveref07Node) :Option ((Int) ⊕ (Unit)):=
 match x_ with
 | (n,k,b)=>
 if decide (k < n)=true then
 g3v ((⟨b⟩:Sheaveref07Draft),k) >>=fun r_2=>
 g5j r_2 >>=fun r_3=>
 if r_3=true then
 some (.inl k)
 else
 g1s (n,addI .i64 k 1,b)
 else
 some (.inr ())
  partial_fixpoint
theorem gdr :LC 95 0 [0] e95_0 g1s:= .rc g1s.partial_correctness (.k g5i (.k gaf .n)) .n fun _ _=>by kernel_rfl
def g5k(x_:Sheaveref07Draft × Int × Int) :Option (Int):=
 match x_ with
 | (d,i,code)=>
 some (d.Nodes.length:Int) >>=fun t12=>
 if(!(decide (t12=0)))=true then
 some (remI (wrp .i64 code) t12) >>=fun t16=>
 g3v (d,t16) >>=fun r=>
 g5j r >>=fun r_1=>
 if(bif r_1 then true else decide (t16 < i))=true then
 some t16
 else
 if decide (0 < i)=true then
 if(!(decide (i=0)))=true then
 some (remI t16 i)
 else none
 else
 g1s (t12,0,d.Nodes) >>=fun o=>
 match o with
 | .inl o_1=>
 some o_1
 | .inr o_2=>
 some (-1)
 else none
theorem e95_k :KC e95:= .m (by kernel_rfl)
theorem gh1 :FC e95 g5k:= .fn e95_k (.k g5i (.k gaf .n)) (.k gdr .n) fun _=>by kernel_rfl
def g57(kind:Int) :Option (Bool):=
 some (bif decide (1≤kind)then decide (kind≤4)else false)
theorem e94_k :KC e94:= .m (by kernel_rfl)
theorem gft :FC e94 g57:= .fn e94_k .n .n fun _=>by kernel_rfl
def g28(x_:Int × Int × Int × List Sheaveref07Node) :Option ((Int) ⊕ (Unit)):=
 match x_ with
 | (code_1,n,k,b)=>
 if decide (k < n)=true then
 if(!(decide (n=0)))=true then
 some (remI (addI .i64 (wrp .i64 code_1) k) n) >>=fun t21=>
 g3v ((⟨b⟩:Sheaveref07Draft),t21) >>=fun r=>
 g57 r >>=fun r_1=>
 if r_1=true then
 some (.inl t21)
 else
 g28 (code_1,n,addI .i64 k 1,b)
 else none
 else
 some (.inr ())
  partial_fixpoint
theorem gh2 :LC 60 0 [0] e60_0 g28:= .rc g28.partial_correctness (.k g5i (.k gft .n)) .n fun _ _=>by kernel_rfl
def g4w(x_:Sheaveref07Draft × Int) :Option (Int):=
 match x_ with
 | (d,code)=>
 g28 (code,(d.Nodes.length:Int),0,d.Nodes) >>=fun o=>
 match o with
 | .inl o_1=>
 some o_1
 | .inr o_2=>
 some (-1)
theorem e60_k :KC e60:= .m (by kernel_rfl)
theorem gc6 :FC e60 g4w:= .fn e60_k .n (.k gh2 .n) fun _=>by kernel_rfl
def g58(x_:Sheaveref07Draft × Int × Int) :Option (SValue × Bool):=
 match x_ with
 | (d,t,code)=>
 if inR t d.Nodes.length=true then
 some (d.Nodes.getD t.toNat dSheaveref07Node) >>=fun x0=>
 g3v (d,t) >>=fun r=>
 some (decide (r=8)) >>=fun t21=>
 (if t21=true then g4w (d,0)else some 0) >>=fun r_1=>
 if(bif t21 then decide (r_1 < 0)else false)=true then
 some ((⟨7,false,0,[],0,[],[],[]⟩:SValue),true)
 else
 if decide (r=1)=true then
 some ((⟨r,decide (remI code 2=1),0,[],0,[],[],[]⟩:SValue),true)
 else
 if decide (r=2)=true then
 g3n x0 >>=fun r_2=>
 g4k x0 >>=fun r_3=>
 g3n x0 >>=fun r_4=>
 some (addI .i64 (subI .i64 r_3 r_4) 1) >>=fun t47=>
 if(!(decide (t47=0)))=true then
 some ((⟨r,false,addI .i64 r_2 (remI (wrp .i64 code) t47),[],0,[],[],[]⟩:SValue),true)
 else none
 else
 if decide (r=3)=true then
 if(bif decide (0 < remI x0.A 4)then decide (remI code 2=1)else false)=true then
 some ((⟨r,false,0,[97],0,[],[],[]⟩:SValue),true)
 else
 some ((⟨r,false,0,[],0,[],[],[]⟩:SValue),true)
 else
 if decide (r=4)=true then
 g3a x0 >>=fun r_5=>
 g3a x0 >>=fun r_6=>
 some (r_6.length:Int) >>=fun t71=>
 if(!(decide (t71=0)))=true then
 some (remI (wrp .i64 code) t71) >>=fun t72=>
 if inR t72 r_5.length=true then
 some ((⟨r,false,0,[],r_5.getD t72.toNat 0,[],[],[]⟩:SValue),true)
 else none
 else none
 else
 some (decide (r=5)) >>=fun t77=>
 if t77=true then
 if t77=true then
 some ((⟨0,false,0,[],0,[],[],[]⟩:SValue),false)
 else
 some ((⟨r,false,0,[],0,[],[],[]⟩:SValue),true)
 else
 if decide (r=6)=true then
 some ((⟨0,false,0,[],0,[],[],[]⟩:SValue),false)
 else
 some ((⟨r,false,0,[],0,[],[],[]⟩:SValue),true)
 else none
theorem e96_k :KC e96:= .m (by kernel_rfl)
theorem gfu :FC e96 g58:= .fn e96_k (.k g5i (.k gc6 (.k g95 (.k gbr (.k gc5 .n))))) .n fun _=>by kernel_rfl
def g29(x_:Int × Bool × Int × Int × List Sheaveref07Node × Sheaveref07Node × List SMember) :Option (Int × Bool × Int × List Sheaveref07Node × Sheaveref07Node × List SMember):=
 match x_ with
 | (i_3,record_3,id_2,k,b_7,b_8,b_9)=>
 if decide (k < (b_8.Parts.length:Int))=true then
 if inR k b_8.Parts.length=true then
 some (b_8.Parts.getD k.toNat dSheaveref07Part) >>=fun x0_1=>
 g5k ((⟨b_7⟩:Sheaveref07Draft),i_3,x0_1.Type_) >>=fun r=>
 if(bif (!(decide (addI .i64 1 (wrp .i64 (remI x0_1.ID 12))=id_2)))then true else decide (r < 0))=true then
 g29 (i_3,record_3,id_2,addI .i64 k 1,b_7,b_8,b_9)
 else
 some (g7a (wrp .i32 (addI .i64 97 id_2))) >>=fun t55=>
 if decide ([109].length+t55.length≤g2l)=true then
 some ([109]++t55) >>=fun t56=>
 if(bif record_3 then decide (remI x0_1.Flag 4=1)else false)=true then
 if(bif record_3 then decide (2≤remI x0_1.Flag 4)else false)=true then
 g58 ((⟨b_7⟩:Sheaveref07Draft),r,quoI .u8 x0_1.Flag 4) >>=fun r_1=>
 some [(⟨id_2,t56,r,true,r_1.2,SValue.eta r_1.1⟩:SMember)] >>=fun t87=>
 if room 160 (b_9++t87).length=true then
 some (i_3,record_3,id_2,b_7,b_8,b_9++t87)
 else none
 else
 some [(⟨id_2,t56,r,true,false,(⟨0,false,0,[],0,[],[],[]⟩:SValue)⟩:SMember)] >>=fun t87_1=>
 if room 160 (b_9++t87_1).length=true then
 some (i_3,record_3,id_2,b_7,b_8,b_9++t87_1)
 else none
 else
 if(bif record_3 then decide (2≤remI x0_1.Flag 4)else false)=true then
 g58 ((⟨b_7⟩:Sheaveref07Draft),r,quoI .u8 x0_1.Flag 4) >>=fun r_4=>
 some [(⟨id_2,t56,r,false,r_4.2,SValue.eta r_4.1⟩:SMember)] >>=fun t87_2=>
 if room 160 (b_9++t87_2).length=true then
 some (i_3,record_3,id_2,b_7,b_8,b_9++t87_2)
 else none
 else
 some [(⟨id_2,t56,r,false,false,(⟨0,false,0,[],0,[],[],[]⟩:SValue)⟩:SMember)] >>=fun t87_3=>
 if room 160 (b_9++t87_3).length=true then
 some (i_3,record_3,id_2,b_7,b_8,b_9++t87_3)
 else none
 else none
 else none
 else
 some (i_3,record_3,id_2,b_7,b_8,b_9)
  partial_fixpoint
theorem gdj :LC 59 0 [0,0] gse g29:= .rc g29.partial_correctness (.k gh1 (.k gfu .n)) .n fun _ _=>by kernel_rfl
end
section
open Go Go.Proofs.YtandcioiaooocaaGreat.Shv
open Tryz
set_option maxRecDepth 100000
def g25(x_:Int × Bool × Int × List Sheaveref07Node × Sheaveref07Node × List SMember) :Option (List SMember):=
 match x_ with
 | (i_1,record_1,id,b_1,b_2,b_3)=>
 if decide (id≤12)=true then
 g29 (i_1,record_1,id,0,b_1,b_2,b_3) >>=fun o_1=>
 g25 (o_1.1,o_1.2.1,addI .i64 o_1.2.2.1 1,o_1.2.2.2.1,o_1.2.2.2.2.1,o_1.2.2.2.2.2)
 else
 some b_3
  partial_fixpoint
theorem gew :LC 59 0 [0] e59_0 g25:= .rc g25.partial_correctness .n (.k gdj .n) fun _ _=>by kernel_rfl
def g43(x_:Sheaveref07Draft × Int × Bool) :Option (List SMember):=
 match x_ with
 | (d,i,record)=>
 if inR i d.Nodes.length=true then
 g25 (i,record,1,d.Nodes,d.Nodes.getD i.toNat dSheaveref07Node,[]) >>=fun o=>
 some o
 else none
theorem e59_k :KC e59:= .m (by kernel_rfl)
theorem ght :FC e59 g43:= .fn e59_k .n (.k gew .n) fun _=>by kernel_rfl
def g2h(x_:Int × Int × List Int × Int × List Sheaveref07Node × Int × List UInt8 × Int × Int × Int × Int × Int × Bool × List SType × List SSymbol) :Option (Int × Int × List Sheaveref07Node × Int × List UInt8 × Int × Int × Int × Int × Int × Bool × List SType × List SSymbol):=
 match x_ with
 | (n_3,i_3,l_22,k,b_25,b_26,b_27,b_28,b_29,b_30,b_31,b_32,b_33,b_34,b_35)=>
 if decide (k < (l_22.length:Int))=true then
 if inR k l_22.length=true then
 if inR k l_22.length=true then
 some (g7a (wrp .i32 (addI .i64 97 (l_22.getD k.toNat 0)))) >>=fun t87=>
 if decide ([115].length+t87.length≤g2l)=true then
 some [(⟨l_22.getD k.toNat 0,[115]++t87⟩:SSymbol)] >>=fun t90=>
 if room 24 (b_35++t90).length=true then
 g2h (n_3,i_3,l_22,addI .i64 k 1,b_25,b_26,b_27,b_28,b_29,b_30,b_31,b_32,b_33,b_34,b_35++t90)
 else none
 else none
 else none
 else none
 else
 some (n_3,i_3,b_25,b_26,b_27,b_28,b_29,b_30,b_31,b_32,b_33,b_34,b_35)
  partial_fixpoint
theorem gfv :LC 30 0 [0,0] gsf g2h:= .rc g2h.partial_correctness .n .n fun _ _=>by kernel_rfl
def gi(x_:Int × Int × List Sheaveref07Node × List SType) :Option (List SType):=
 match x_ with
 | (n,i,b_1,b_2)=>
 if decide (i < n)=true then
 if inR i b_1.length=true then
 some (b_1.getD i.toNat dSheaveref07Node) >>=fun x0=>
 g3v ((⟨b_1⟩:Sheaveref07Draft),i) >>=fun r=>
 g1d r >>=fun r_1=>
 if r_1=true then
 some (g7a (wrp .i32 (addI .i64 65 i))) >>=fun t41=>
 if decide (r=2)=true then
 g3n x0 >>=fun r_2=>
 g4k x0 >>=fun r_3=>
 some [(⟨r,t41,r_2,r_3,0,[],[],0,0,false⟩:SType)] >>=fun t167=>
 if room 120 (b_2++t167).length=true then
 gi (n,addI .i64 i 1,b_1,b_2++t167)
 else none
 else
 if decide (r=3)=true then
 some [(⟨r,t41,0,0,wrp .i64 (remI x0.A 4),[],[],0,0,false⟩:SType)] >>=fun t167_1=>
 if room 120 (b_2++t167_1).length=true then
 gi (n,addI .i64 i 1,b_1,b_2++t167_1)
 else none
 else
 if decide (r=4)=true then
 g3a x0 >>=fun r_4=>
 g2h (n,i,r_4,0,b_1,r,t41,0,0,0,0,0,decide (remI x0.B 2=1),b_2,[]) >>=fun o_1=>
 some [(⟨o_1.2.2.2.1,o_1.2.2.2.2.1,o_1.2.2.2.2.2.1,o_1.2.2.2.2.2.2.1,o_1.2.2.2.2.2.2.2.1,o_1.2.2.2.2.2.2.2.2.2.2.2.2,[],o_1.2.2.2.2.2.2.2.2.1,o_1.2.2.2.2.2.2.2.2.2.1,o_1.2.2.2.2.2.2.2.2.2.2.1⟩:SType)] >>=fun t167_2=>
 if room 120 (o_1.2.2.2.2.2.2.2.2.2.2.2.1++t167_2).length=true then
 gi (o_1.1,addI .i64 o_1.2.1 1,o_1.2.2.1,o_1.2.2.2.2.2.2.2.2.2.2.2.1++t167_2)
 else none
 else
 if decide (r=5)=true then
 g43 ((⟨b_1⟩:Sheaveref07Draft),i,true) >>=fun r_5=>
 some [(⟨r,t41,0,0,0,[],r_5,0,0,false⟩:SType)] >>=fun t167_3=>
 if room 120 (b_2++t167_3).length=true then
 gi (n,addI .i64 i 1,b_1,b_2++t167_3)
 else none
 else
 if decide (r=6)=true then
 g43 ((⟨b_1⟩:Sheaveref07Draft),i,false) >>=fun r_6=>
 if decide ((r_6.length:Int)=0)=true then
 some [(⟨5,t41,0,0,0,[],[],0,0,false⟩:SType)] >>=fun t167_4=>
 if room 120 (b_2++t167_4).length=true then
 gi (n,addI .i64 i 1,b_1,b_2++t167_4)
 else none
 else
 some [(⟨r,t41,0,0,0,[],r_6,0,0,decide (remI x0.B 2=1)⟩:SType)] >>=fun t167_5=>
 if room 120 (b_2++t167_5).length=true then
 gi (n,addI .i64 i 1,b_1,b_2++t167_5)
 else none
 else
 if decide (r=7)=true then
 if(!(decide (n=0)))=true then
 some [(⟨r,t41,0,0,wrp .i64 (remI x0.A 4),[],[],0,remI (wrp .i64 x0.C) n,false⟩:SType)] >>=fun t167_6=>
 if room 120 (b_2++t167_6).length=true then
 gi (n,addI .i64 i 1,b_1,b_2++t167_6)
 else none
 else none
 else
 if decide (r=8)=true then
 some (wrp .i64 (remI x0.A 4)) >>=fun t135=>
 g4w ((⟨b_1⟩:Sheaveref07Draft),x0.B) >>=fun r_7=>
 if(!(decide (n=0)))=true then
 some (remI (wrp .i64 x0.C) n) >>=fun t144=>
 if decide (r_7 < 0)=true then
 some [(⟨7,[],0,0,t135,[],[],0,t144,false⟩:SType)] >>=fun t167_7=>
 if room 120 (b_2++t167_7).length=true then
 gi (n,addI .i64 i 1,b_1,b_2++t167_7)
 else none
 else
 some [(⟨r,t41,0,0,t135,[],[],r_7,t144,false⟩:SType)] >>=fun t167_8=>
 if room 120 (b_2++t167_8).length=true then
 gi (n,addI .i64 i 1,b_1,b_2++t167_8)
 else none
 else none
 else
 if decide (r=9)=true then
 if(!(decide (n=0)))=true then
 some [(⟨r,t41,0,0,0,[],[],0,remI (wrp .i64 x0.C) n,false⟩:SType)] >>=fun t167_9=>
 if room 120 (b_2++t167_9).length=true then
 gi (n,addI .i64 i 1,b_1,b_2++t167_9)
 else none
 else none
 else
 some [(⟨r,t41,0,0,0,[],[],0,0,false⟩:SType)] >>=fun t167_10=>
 if room 120 (b_2++t167_10).length=true then
 gi (n,addI .i64 i 1,b_1,b_2++t167_10)
 else none
 else
 if decide (r=2)=true then
 g3n x0 >>=fun r_8=>
 g4k x0 >>=fun r_9=>
 some [(⟨r,[],r_8,r_9,0,[],[],0,0,false⟩:SType)] >>=fun t167_11=>
 if room 120 (b_2++t167_11).length=true then
 gi (n,addI .i64 i 1,b_1,b_2++t167_11)
 else none
 else
 if decide (r=3)=true then
 some [(⟨r,[],0,0,wrp .i64 (remI x0.A 4),[],[],0,0,false⟩:SType)] >>=fun t167_12=>
 if room 120 (b_2++t167_12).length=true then
 gi (n,addI .i64 i 1,b_1,b_2++t167_12)
 else none
 else
 if decide (r=4)=true then
 g3a x0 >>=fun r_10=>
 g2h (n,i,r_10,0,b_1,r,[],0,0,0,0,0,decide (remI x0.B 2=1),b_2,[]) >>=fun o_2=>
 some [(⟨o_2.2.2.2.1,o_2.2.2.2.2.1,o_2.2.2.2.2.2.1,o_2.2.2.2.2.2.2.1,o_2.2.2.2.2.2.2.2.1,o_2.2.2.2.2.2.2.2.2.2.2.2.2,[],o_2.2.2.2.2.2.2.2.2.1,o_2.2.2.2.2.2.2.2.2.2.1,o_2.2.2.2.2.2.2.2.2.2.2.1⟩:SType)] >>=fun t167_13=>
 if room 120 (o_2.2.2.2.2.2.2.2.2.2.2.2.1++t167_13).length=true then
 gi (o_2.1,addI .i64 o_2.2.1 1,o_2.2.2.1,o_2.2.2.2.2.2.2.2.2.2.2.2.1++t167_13)
 else none
 else
 if decide (r=5)=true then
 g43 ((⟨b_1⟩:Sheaveref07Draft),i,true) >>=fun r_11=>
 some [(⟨r,[],0,0,0,[],r_11,0,0,false⟩:SType)] >>=fun t167_14=>
 if room 120 (b_2++t167_14).length=true then
 gi (n,addI .i64 i 1,b_1,b_2++t167_14)
 else none
 else
 if decide (r=6)=true then
 g43 ((⟨b_1⟩:Sheaveref07Draft),i,false) >>=fun r_12=>
 if decide ((r_12.length:Int)=0)=true then
 some [(⟨5,[],0,0,0,[],[],0,0,false⟩:SType)] >>=fun t167_15=>
 if room 120 (b_2++t167_15).length=true then
 gi (n,addI .i64 i 1,b_1,b_2++t167_15)
 else none
 else
 some [(⟨r,[],0,0,0,[],r_12,0,0,decide (remI x0.B 2=1)⟩:SType)] >>=fun t167_16=>
 if room 120 (b_2++t167_16).length=true then
 gi (n,addI .i64 i 1,b_1,b_2++t167_16)
 else none
 else
 if decide (r=7)=true then
 if(!(decide (n=0)))=true then
 some [(⟨r,[],0,0,wrp .i64 (remI x0.A 4),[],[],0,remI (wrp .i64 x0.C) n,false⟩:SType)] >>=fun t167_17=>
 if room 120 (b_2++t167_17).length=true then
 gi (n,addI .i64 i 1,b_1,b_2++t167_17)
 else none
 else none
 else
 if decide (r=8)=true then
 some (wrp .i64 (remI x0.A 4)) >>=fun t135_1=>
 g4w ((⟨b_1⟩:Sheaveref07Draft),x0.B) >>=fun r_13=>
 if(!(decide (n=0)))=true then
 some (remI (wrp .i64 x0.C) n) >>=fun t144_1=>
 if decide (r_13 < 0)=true then
 some [(⟨7,[],0,0,t135_1,[],[],0,t144_1,false⟩:SType)] >>=fun t167_18=>
 if room 120 (b_2++t167_18).length=true then
 gi (n,addI .i64 i 1,b_1,b_2++t167_18)
 else none
 else
 some [(⟨r,[],0,0,t135_1,[],[],r_13,t144_1,false⟩:SType)] >>=fun t167_19=>
 if room 120 (b_2++t167_19).length=true then
 gi (n,addI .i64 i 1,b_1,b_2++t167_19)
 else none
 else none
 else
 if decide (r=9)=true then
 if(!(decide (n=0)))=true then
 some [(⟨r,[],0,0,0,[],[],0,remI (wrp .i64 x0.C) n,false⟩:SType)] >>=fun t167_20=>
 if room 120 (b_2++t167_20).length=true then
 gi (n,addI .i64 i 1,b_1,b_2++t167_20)
 else none
 else none
 else
 some [(⟨r,[],0,0,0,[],[],0,0,false⟩:SType)] >>=fun t167_21=>
 if room 120 (b_2++t167_21).length=true then
 gi (n,addI .i64 i 1,b_1,b_2++t167_21)
 else none
 else none
 else
 some b_2
  partial_fixpoint
theorem ghu :LC 30 0 [0] e30_0 gi:= .rc gi.partial_correctness (.k g5i (.k ghs (.k g95 (.k gbr (.k gc5 (.k ght (.k gc6 .n))))))) (.k gfv .n) fun _ _=>by kernel_rfl
def g5b(d:Sheaveref07Draft) :Option (SSchema × Bool):=
 some (d.Nodes.length:Int) >>=fun t13=>
 if(bif decide (t13 < 1)then true else decide (5 < t13))=true then
 some ((⟨[]⟩:SSchema),false)
 else
 gi (t13,0,d.Nodes,[]) >>=fun o=>
 some ((⟨o⟩:SSchema),true)
theorem e30_k :KC e30:= .m (by kernel_rfl)
theorem glb :FC e30 g5b:= .fn e30_k .n (.k ghu .n) fun _=>by kernel_rfl
def gu(x_:Int × List SType × List Int × Bool) :Option (Int × List SType × List Int × Bool):=
 match x_ with
 | (n,b,b_1,b_2)=>
 if decide ((b_1.length:Int)=0)=true then
 some (0,b,b_1,b_2)
 else
 if inR 0 b_1.length=true then
 if(!(decide (n=0)))=true then
 if slR 1 (b_1.length:Int) b_1.length=true then
 some (remI (wrp .i64 (b_1.getD (0:Int).toNat 0)) n,b,cutL b_1 1 (b_1.length:Int),b_2)
 else none
 else none
 else none
theorem gzm :KC e109:= .m (by kernel_rfl)
theorem g2g :FC e109 gu:= .fn gzm .n .n fun _=>by kernel_rfl
def g26(x_:List UInt8 × Int × List SType × List Int × Bool) :Option (List UInt8 × List SType × List Int × Bool):=
 match x_ with
 | (s_1,n,b_6,b_7,b_8)=>
 if decide (0 < n)=true then
 gu (3,b_6,b_7,b_8) >>=fun r_5=>
 some (g7a (wrp .i32 (addI .i64 97 r_5.1))) >>=fun t21=>
 if decide (s_1.length+t21.length≤g2l)=true then
 g26 (s_1++t21,subI .i64 n 1,r_5.2.1,r_5.2.2.1,r_5.2.2.2)
 else none
 else
 some (s_1,b_6,b_7,b_8)
  partial_fixpoint
theorem gbs :LC 110 1 [0] gvo g26:= .rc g26.partial_correctness (.k g2g .n) .n fun _ _=>by kernel_rfl
def g5f(x_:Int × List SType × List Int × Bool) :Option (List UInt8 × List SType × List Int × Bool):=
 match x_ with
 | (most,b,b_1,b_2)=>
 gu (addI .i64 (minI most 3) 1,b,b_1,b_2) >>=fun r=>
 g26 ([],r.1,r.2.1,r.2.2.1,r.2.2.2) >>=fun o=>
 some (o.1,o.2.1,o.2.2.1,o.2.2.2)
theorem gzn :KC e110:= .m (by kernel_rfl)
theorem gdk :FC e110 g5f:= .fn gzn (.k g2g .n) (.k gbs .n) fun _=>by kernel_rfl
def g3q(x_:List SType × List Int × Bool) :Option (Bool × List SType × List Int × Bool):=
 match x_ with
 | (b,b_1,b_2)=>
 if b_2=true then
 gu (4,b,b_1,b_2) >>=fun r=>
 some (bif b_2 then decide (r.1=3)else false,r.2.1,r.2.2.1,r.2.2.2)
 else
 some (bif b_2 then false else false,b,b_1,b_2)
theorem gzo :KC e111:= .m (by kernel_rfl)
theorem gds :FC e111 g3q:= .fn gzo (.k g2g .n) .n fun _=>by kernel_rfl
def g20(x_:Int × Int × SType) :Option ((Int × Bool) ⊕ (Unit)):=
 match x_ with
 | (id_1,i,b)=>
 if decide (i < (b.Members.length:Int))=true then
 if inR i b.Members.length=true then
 if decide ((b.Members.getD i.toNat dSMember).ID=id_1)=true then
 some (.inl (i,true))
 else
 g20 (id_1,addI .i64 i 1,b)
 else none
 else
 some (.inr ())
  partial_fixpoint
theorem gdt :LC 78 0 [0] e78_0 g20:= .rc g20.partial_correctness .n .n fun _ _=>by kernel_rfl
def g2u(x_:SType × Int) :Option (Int × Bool):=
 match x_ with
 | (t,id)=>
 g20 (id,0,t) >>=fun o=>
 match o with
 | .inl o_1=>
 some (o_1.1,o_1.2)
 | .inr o_2=>
 some (0,false)
theorem e78_k :KC e78:= .m (by kernel_rfl)
theorem gh3 :FC e78 g2u:= .fn e78_k .n (.k gdt .n) fun _=>by kernel_rfl
def g1t(x_:Int × Int × SType) :Option ((Int × Bool) ⊕ (Unit)):=
 match x_ with
 | (id_1,i,b)=>
 if decide (i < (b.Symbols.length:Int))=true then
 if inR i b.Symbols.length=true then
 if decide ((b.Symbols.getD i.toNat dSSymbol).ID=id_1)=true then
 some (.inl (i,true))
 else
 g1t (id_1,addI .i64 i 1,b)
 else none
 else
 some (.inr ())
  partial_fixpoint
theorem gdu :LC 69 0 [0] e69_0 g1t:= .rc g1t.partial_correctness .n .n fun _ _=>by kernel_rfl
def g5l(x_:SType × Int) :Option (Int × Bool):=
 match x_ with
 | (t,id)=>
 g1t (id,0,t) >>=fun o=>
 match o with
 | .inl o_1=>
 some (o_1.1,o_1.2)
 | .inr o_2=>
 some (0,false)
theorem e69_k :KC e69:= .m (by kernel_rfl)
theorem gh4 :FC e69 g5l:= .fn e69_k .n (.k gdu .n) fun _=>by kernel_rfl
def g7p(x_:SType × Int) :Option (Bool):=
 match x_ with
 | (t,n)=>
 g2u (t,n) >>=fun r=>
 g5l (t,n) >>=fun r_3=>
 some (bif r.2 then true else r_3.2)
theorem gzp :KC e151:= .m (by kernel_rfl)
theorem gjb :FC e151 g7p:= .fn gzp (.k gh3 (.k gh4 .n)) .n fun _=>by kernel_rfl
end
section
open Go Go.Proofs.YtandcioiaooocaaGreat.Shv
open Tryz
set_option maxRecDepth 100000
def g2d(x_:Int × List SType × List Int × Bool × SType) :Option (Int × List SType × List Int × Bool):=
 match x_ with
 | (n_1,b_6,b_7,b_8,b_9)=>
 g7p (b_9,n_1) >>=fun r_5=>
 if r_5=true then
 g2d (addI .i64 n_1 1,b_6,b_7,b_8,b_9)
 else
 some (n_1,b_6,b_7,b_8)
  partial_fixpoint
theorem gag :LC 112 1 [0] gvp g2d:= .rc g2d.partial_correctness (.k gjb .n) .n fun _ _=>by kernel_rfl
def g1w(x_:SType × List SType × List Int × Bool) :Option (Int × List SType × List Int × Bool):=
 match x_ with
 | (t,b,b_1,b_2)=>
 gu (14,b,b_1,b_2) >>=fun r=>
 g2d (addI .i64 1 r.1,r.2.1,r.2.2.1,r.2.2.2,t) >>=fun o=>
 some (o.1,o.2.1,o.2.2.1,o.2.2.2)
theorem gzq :KC e112:= .m (by kernel_rfl)
theorem gbt :FC e112 g1w:= .fn gzq (.k g2g .n) (.k gag .n) fun _=>by kernel_rfl
def g3r(x_:Int × List SType × List Int × Bool) :Option (SRaw × List SType × List Int × Bool):=
 match x_ with
 | (n,b,b_1,b_2)=>
 some [[],[1],[97],[3,1,2]] >>=fun t6=>
 gu (4,b,b_1,b_2) >>=fun r=>
 if inR r.1 t6.length=true then
 some ((⟨n,t6.getD r.1.toNat []⟩:SRaw),r.2.1,r.2.2.1,r.2.2.2)
 else none
theorem gzr :KC e113:= .m (by kernel_rfl)
theorem gdv :FC e113 g3r:= .fn gzr (.k g2g .n) .n fun _=>by kernel_rfl
def g1j(x_:Bool × Bool) :Option (Int):=
 match x_ with
 | (less,equal)=>
 if equal=true then
 some 0
 else
 if less=true then
 some (-1)
 else
 some 1
theorem gzs :KC e108:= .m (by kernel_rfl)
theorem ghv :FC e108 g1j:= .fn gzs .n .n fun _=>by kernel_rfl
def g5m(n:Int) :Option (Int):=
 if decide (0≤n)=true then
 some (mulI .u64 2 (wrp .u64 n))
 else
 some (addI .u64 (mulI .u64 2 (wrp .u64 (subI .i64 0 (addI .i64 n 1)))) 1)
theorem e84_k :KC e84:= .m (by kernel_rfl)
theorem gh5 :FC e84 g5m:= .fn e84_k .n .n fun _=>by kernel_rfl
def g2i(x_:SValue × SValue) :Option (Int):=
 match x_ with
 | (a,b)=>
 if(!(decide (a.Kind=b.Kind)))=true then
 some 0
 else
 if decide (a.Kind=1)=true then
 g1j (b.Bool_,eqB a.Bool_ b.Bool_) >>=fun r=>
 some r
 else
 if decide (a.Kind=2)=true then
 g5m a.Int_ >>=fun r_1=>
 g5m b.Int_ >>=fun r_2=>
 g1j (decide (r_1 < r_2),decide (a.Int_=b.Int_)) >>=fun r_3=>
 some r_3
 else
 if decide (a.Kind=3)=true then
 if(!(decide ((a.Str.length:Int)=(b.Str.length:Int))))=true then
 g1j (decide ((a.Str.length:Int) < (b.Str.length:Int)),false) >>=fun r_4=>
 some r_4
 else
 g1j (Op.bytesLess a.Str b.Str,decide (a.Str=b.Str)) >>=fun r_5=>
 some r_5
 else
 if decide (a.Kind=4)=true then
 g1j (decide (a.ID < b.ID),decide (a.ID=b.ID)) >>=fun r_6=>
 some r_6
 else
 some 0
theorem e80_k :KC e80:= .m (by kernel_rfl)
theorem g9w :FC e80 g2i:= .fn e80_k (.k ghv (.k gh5 .n)) .n fun _=>by kernel_rfl
def g3c(x_:Int × SValue × SValue × SValue × Int × Bool × Int × List UInt8 × Int) :Option (Int × SValue × SValue × SValue × Int × Bool × Int × List UInt8 × Int):=
 match x_ with
 | (i_1,b_8,b_9,b_10,b_11,b_12,b_13,b_14,b_15)=>
 some (decide (i_1 < (b_8.Keys.length:Int))) >>=fun t12=>
 if(inR i_1 b_8.Keys.length || (!t12))=true then
 (if t12=true then g2i (SValue.eta (b_8.Keys.getD i_1.toNat dSValue),SValue.eta b_9)else some 0) >>=fun r_1=>
 if(bif t12 then decide (r_1 < 0)else false)=true then
 g3c (addI .i64 i_1 1,SValue.eta b_8,SValue.eta b_9,SValue.eta b_10,b_11,b_12,b_13,b_14,b_15)
 else
 some (i_1,SValue.eta b_8,SValue.eta b_9,SValue.eta b_10,b_11,b_12,b_13,b_14,b_15)
 else none
  partial_fixpoint
theorem gh6 :LC 114 0 [0] gvq g3c:= .rc g3c.partial_correctness (.k g9w .n) .n fun _ _=>by kernel_rfl
def g8a(x_:SValue × SValue × SValue) :Option (SValue):=
 match x_ with
 | (v,key,item)=>
 g3c (0,SValue.eta v,SValue.eta key,SValue.eta item,0,false,0,[],0) >>=fun o=>
 some (decide (o.1 < (o.2.1.Keys.length:Int))) >>=fun t29=>
 if(inR o.1 o.2.1.Keys.length || (!t29))=true then
 (if t29=true then g2i (SValue.eta (o.2.1.Keys.getD o.1.toNat dSValue),SValue.eta o.2.2.1)else some 0) >>=fun r=>
 if(bif t29 then decide (r=0)else false)=true then
 some (SValue.eta o.2.1)
 else
 if slR 0 o.1 o.2.1.Keys.length=true then
 some (cutL o.2.1.Keys 0 o.1) >>=fun t45=>
 if room 120 ([]++t45).length=true then
 some ([]++t45) >>=fun l=>
 some [SValue.eta o.2.2.1] >>=fun t48=>
 if room 120 (l++t48).length=true then
 some (l++t48) >>=fun l_1=>
 if slR o.1 (o.2.1.Keys.length:Int) o.2.1.Keys.length=true then
 some (cutL o.2.1.Keys o.1 (o.2.1.Keys.length:Int)) >>=fun t53=>
 if room 120 (l_1++t53).length=true then
 if slR 0 o.1 o.2.1.Items.length=true then
 some (cutL o.2.1.Items 0 o.1) >>=fun t60=>
 if room 120 ([]++t60).length=true then
 some ([]++t60) >>=fun l_3=>
 some [SValue.eta o.2.2.2.1] >>=fun t63=>
 if room 120 (l_3++t63).length=true then
 some (l_3++t63) >>=fun l_4=>
 if slR o.1 (o.2.1.Items.length:Int) o.2.1.Items.length=true then
 some (cutL o.2.1.Items o.1 (o.2.1.Items.length:Int)) >>=fun t68=>
 if room 120 (l_4++t68).length=true then
 some (⟨o.2.1.Kind,o.2.1.Bool_,o.2.1.Int_,o.2.1.Str,o.2.1.ID,l_1++t53,l_4++t68,o.2.1.Rest⟩:SValue)
 else none
 else none
 else none
 else none
 else none
 else none
 else none
 else none
 else none
 else none
 else none
theorem gzt :KC e114:= .m (by kernel_rfl)
theorem gjw :FC e114 g8a:= .fn gzt (.k g9w .n) (.k gh6 .n) fun _=>by kernel_rfl
mutual
def gy(x_:Int × List SType × List Int × Bool) :Option (SValue × List SType × List Int × Bool):=
 match x_ with
 | (t,b,b_1,b_2)=>
 if inR t b.length=true then
 some (b.getD t.toNat dSType) >>=fun x0=>
 if decide (x0.Kind=1)=true then
 gu (2,b,b_1,b_2) >>=fun r=>
 some ((⟨x0.Kind,decide (r.1=1),0,[],0,[],[],[]⟩:SValue),r.2.1,r.2.2.1,r.2.2.2)
 else
 if decide (x0.Kind=2)=true then
 gu (256,b,b_1,b_2) >>=fun r_5=>
 some (addI .i64 (subI .i64 x0.High x0.Low) 1) >>=fun t51=>
 if(!(decide (t51=0)))=true then
 some ((⟨x0.Kind,false,addI .i64 x0.Low (remI r_5.1 t51),[],0,[],[],[]⟩:SValue),r_5.2.1,r_5.2.2.1,r_5.2.2.2)
 else none
 else
 if decide (x0.Kind=3)=true then
 g5f (x0.Max,b,b_1,b_2) >>=fun r_10=>
 some ((⟨x0.Kind,false,0,r_10.1,0,[],[],[]⟩:SValue),r_10.2.1,r_10.2.2.1,r_10.2.2.2)
 else
 if decide (x0.Kind=4)=true then
 gu ((x0.Symbols.length:Int),b,b_1,b_2) >>=fun r_15=>
 if inR r_15.1 x0.Symbols.length=true then
 some (x0.Symbols.getD r_15.1.toNat dSSymbol) >>=fun x0_1=>
 if x0.Open=true then
 g3q (r_15.2.1,r_15.2.2.1,r_15.2.2.2) >>=fun r_20=>
 if(bif x0.Open then r_20.1 else false)=true then
 g1w (x0,r_20.2.1,r_20.2.2.1,r_20.2.2.2) >>=fun r_25=>
 some ((⟨x0.Kind,false,0,[],r_25.1,[],[],[]⟩:SValue),r_25.2.1,r_25.2.2.1,r_25.2.2.2)
 else
 some ((⟨x0.Kind,false,0,[],x0_1.ID,[],[],[]⟩:SValue),r_20.2.1,r_20.2.2.1,r_20.2.2.2)
 else
 if(bif x0.Open then false else false)=true then
 g1w (x0,r_15.2.1,r_15.2.2.1,r_15.2.2.2) >>=fun r_30=>
 some ((⟨x0.Kind,false,0,[],r_30.1,[],[],[]⟩:SValue),r_30.2.1,r_30.2.2.1,r_30.2.2.2)
 else
 some ((⟨x0.Kind,false,0,[],x0_1.ID,[],[],[]⟩:SValue),r_15.2.1,r_15.2.2.1,r_15.2.2.2)
 else none
 else
 if decide (x0.Kind=5)=true then
 g16 (0,b,b_1,b_2,0,false,0,[],0,x0.Kind,x0.Name,x0.Low,x0.High,x0.Max,x0.Symbols,x0.Members,x0.Key,x0.Elem,x0.Open,x0.Kind,false,0,[],0,[]) >>=fun o=>
 g3q (o.1,o.2.1,o.2.2.1) >>=fun r_35=>
 if r_35.1=true then
 g1w ((⟨o.2.2.2.2.2.2.2.2.1,o.2.2.2.2.2.2.2.2.2.1,o.2.2.2.2.2.2.2.2.2.2.1,o.2.2.2.2.2.2.2.2.2.2.2.1,o.2.2.2.2.2.2.2.2.2.2.2.2.1,o.2.2.2.2.2.2.2.2.2.2.2.2.2.1,o.2.2.2.2.2.2.2.2.2.2.2.2.2.2.1,o.2.2.2.2.2.2.2.2.2.2.2.2.2.2.2.1,o.2.2.2.2.2.2.2.2.2.2.2.2.2.2.2.2.1,o.2.2.2.2.2.2.2.2.2.2.2.2.2.2.2.2.2.1⟩:SType),r_35.2.1,r_35.2.2.1,r_35.2.2.2) >>=fun r_40=>
 g3r (r_40.1,r_40.2.1,r_40.2.2.1,r_40.2.2.2) >>=fun r_45=>
 some ((⟨o.2.2.2.2.2.2.2.2.2.2.2.2.2.2.2.2.2.2.1,o.2.2.2.2.2.2.2.2.2.2.2.2.2.2.2.2.2.2.2.1,o.2.2.2.2.2.2.2.2.2.2.2.2.2.2.2.2.2.2.2.2.1,o.2.2.2.2.2.2.2.2.2.2.2.2.2.2.2.2.2.2.2.2.2.1,o.2.2.2.2.2.2.2.2.2.2.2.2.2.2.2.2.2.2.2.2.2.2.1,[],o.2.2.2.2.2.2.2.2.2.2.2.2.2.2.2.2.2.2.2.2.2.2.2,[r_45.1]⟩:SValue),r_45.2.1,r_45.2.2.1,r_45.2.2.2)
 else
 some ((⟨o.2.2.2.2.2.2.2.2.2.2.2.2.2.2.2.2.2.2.1,o.2.2.2.2.2.2.2.2.2.2.2.2.2.2.2.2.2.2.2.1,o.2.2.2.2.2.2.2.2.2.2.2.2.2.2.2.2.2.2.2.2.1,o.2.2.2.2.2.2.2.2.2.2.2.2.2.2.2.2.2.2.2.2.2.1,o.2.2.2.2.2.2.2.2.2.2.2.2.2.2.2.2.2.2.2.2.2.2.1,[],o.2.2.2.2.2.2.2.2.2.2.2.2.2.2.2.2.2.2.2.2.2.2.2,[]⟩:SValue),r_35.2.1,r_35.2.2.1,r_35.2.2.2)
 else
 if decide (x0.Kind=6)=true then
 if x0.Open=true then
 g3q (b,b_1,b_2) >>=fun r_50=>
 if(bif x0.Open then r_50.1 else false)=true then
 g1w (x0,r_50.2.1,r_50.2.2.1,r_50.2.2.2) >>=fun r_55=>
 g3r (r_55.1,r_55.2.1,r_55.2.2.1,r_55.2.2.2) >>=fun r_60=>
 some ((⟨x0.Kind,false,0,[],r_55.1,[],[],[r_60.1]⟩:SValue),r_60.2.1,r_60.2.2.1,r_60.2.2.2)
 else
 gu ((x0.Members.length:Int),r_50.2.1,r_50.2.2.1,r_50.2.2.2) >>=fun r_65=>
 if inR r_65.1 x0.Members.length=true then
 some (x0.Members.getD r_65.1.toNat dSMember) >>=fun x0_2=>
 gy (x0_2.Type_,r_65.2.1,r_65.2.2.1,r_65.2.2.2) >>=fun r_70=>
 some ((⟨x0.Kind,false,0,[],x0_2.ID,[],[SValue.eta r_70.1],[]⟩:SValue),r_70.2.1,r_70.2.2.1,r_70.2.2.2)
 else none
 else
 if(bif x0.Open then false else false)=true then
 g1w (x0,b,b_1,b_2) >>=fun r_75=>
 g3r (r_75.1,r_75.2.1,r_75.2.2.1,r_75.2.2.2) >>=fun r_80=>
 some ((⟨x0.Kind,false,0,[],r_75.1,[],[],[r_80.1]⟩:SValue),r_80.2.1,r_80.2.2.1,r_80.2.2.2)
 else
 gu ((x0.Members.length:Int),b,b_1,b_2) >>=fun r_85=>
 if inR r_85.1 x0.Members.length=true then
 some (x0.Members.getD r_85.1.toNat dSMember) >>=fun x0_3=>
 gy (x0_3.Type_,r_85.2.1,r_85.2.2.1,r_85.2.2.2) >>=fun r_90=>
 some ((⟨x0.Kind,false,0,[],x0_3.ID,[],[SValue.eta r_90.1],[]⟩:SValue),r_90.2.1,r_90.2.2.1,r_90.2.2.2)
 else none
 else
 if decide (x0.Kind=7)=true then
 gu (addI .i64 (minI x0.Max 3) 1,b,b_1,b_2) >>=fun r_95=>
 g1p (r_95.1,r_95.2.1,r_95.2.2.1,r_95.2.2.2,0,false,0,[],0,x0.Kind,x0.Name,x0.Low,x0.High,x0.Max,x0.Symbols,x0.Members,x0.Key,x0.Elem,x0.Open,x0.Kind,false,0,[],0,[]) >>=fun o_1=>
 some ((⟨o_1.2.2.2.2.2.2.2.2.1,o_1.2.2.2.2.2.2.2.2.2.1,o_1.2.2.2.2.2.2.2.2.2.2.1,o_1.2.2.2.2.2.2.2.2.2.2.2.1,o_1.2.2.2.2.2.2.2.2.2.2.2.2.1,[],o_1.2.2.2.2.2.2.2.2.2.2.2.2.2,[]⟩:SValue),o_1.1,o_1.2.1,o_1.2.2.1)
 else
 if decide (x0.Kind=8)=true then
 gu (addI .i64 (minI x0.Max 3) 1,b,b_1,b_2) >>=fun r_100=>
 g1q (r_100.1,r_100.2.1,r_100.2.2.1,r_100.2.2.2,0,false,0,[],0,x0.Kind,x0.Name,x0.Low,x0.High,x0.Max,x0.Symbols,x0.Members,x0.Key,x0.Elem,x0.Open,x0.Kind,false,0,[],0,[],[],[]) >>=fun o_2=>
 some ((⟨o_2.2.2.2.2.2.2.2.2.1,o_2.2.2.2.2.2.2.2.2.2.1,o_2.2.2.2.2.2.2.2.2.2.2.1,o_2.2.2.2.2.2.2.2.2.2.2.2.1,o_2.2.2.2.2.2.2.2.2.2.2.2.2.1,o_2.2.2.2.2.2.2.2.2.2.2.2.2.2.1,o_2.2.2.2.2.2.2.2.2.2.2.2.2.2.2.1,o_2.2.2.2.2.2.2.2.2.2.2.2.2.2.2.2⟩:SValue),o_2.1,o_2.2.1,o_2.2.2.1)
 else
 gu (2,b,b_1,b_2) >>=fun r_105=>
 if decide (r_105.1=1)=true then
 gy (x0.Elem,r_105.2.1,r_105.2.2.1,r_105.2.2.2) >>=fun r_110=>
 some ((⟨x0.Kind,false,0,[],0,[],[SValue.eta r_110.1],[]⟩:SValue),r_110.2.1,r_110.2.2.1,r_110.2.2.2)
 else
 some ((⟨x0.Kind,false,0,[],0,[],[],[]⟩:SValue),r_105.2.1,r_105.2.2.1,r_105.2.2.2)
 else none
  partial_fixpoint
def g16(x_:Int × List SType × List Int × Bool × Int × Bool × Int × List UInt8 × Int × Int × List UInt8 × Int × Int × Int × List SSymbol × List SMember × Int × Int × Bool × Int × Bool × Int × List UInt8 × Int × List SValue) :Option (List SType × List Int × Bool × Int × Bool × Int × List UInt8 × Int × Int × List UInt8 × Int × Int × Int × List SSymbol × List SMember × Int × Int × Bool × Int × Bool × Int × List UInt8 × Int × List SValue):=
 match x_ with
 | (i,b_57,b_58,b_59,b_60,b_61,b_62,b_63,b_64,b_65,b_66,b_67,b_68,b_69,b_70,b_71,b_72,b_73,b_74,b_75,b_76,b_77,b_78,b_79,b_80)=>
 if decide (i < (b_71.length:Int))=true then
 if inR i b_71.length=true then
 some (b_71.getD i.toNat dSMember) >>=fun x0_4=>
 if x0_4.HasDefault=true then
 gu (3,b_57,b_58,b_59) >>=fun r_115=>
 if(bif x0_4.HasDefault then decide (r_115.1=0)else false)=true then
 if inR i b_71.length=true then
 some [SValue.eta (b_71.getD i.toNat dSMember).Default] >>=fun t113=>
 if room 120 (b_80++t113).length=true then
 g16 (addI .i64 i 1,r_115.2.1,r_115.2.2.1,r_115.2.2.2,b_60,b_61,b_62,b_63,b_64,b_65,b_66,b_67,b_68,b_69,b_70,b_71,b_72,b_73,b_74,b_75,b_76,b_77,b_78,b_79,b_80++t113)
 else none
 else none
 else
 if inR i b_71.length=true then
 gy ((b_71.getD i.toNat dSMember).Type_,r_115.2.1,r_115.2.2.1,r_115.2.2.2) >>=fun r_120=>
 some [SValue.eta r_120.1] >>=fun t126=>
 if room 120 (b_80++t126).length=true then
 g16 (addI .i64 i 1,r_120.2.1,r_120.2.2.1,r_120.2.2.2,b_60,b_61,b_62,b_63,b_64,b_65,b_66,b_67,b_68,b_69,b_70,b_71,b_72,b_73,b_74,b_75,b_76,b_77,b_78,b_79,b_80++t126)
 else none
 else none
 else
 if(bif x0_4.HasDefault then false else false)=true then
 if inR i b_71.length=true then
 some [SValue.eta (b_71.getD i.toNat dSMember).Default] >>=fun t113_1=>
 if room 120 (b_80++t113_1).length=true then
 g16 (addI .i64 i 1,b_57,b_58,b_59,b_60,b_61,b_62,b_63,b_64,b_65,b_66,b_67,b_68,b_69,b_70,b_71,b_72,b_73,b_74,b_75,b_76,b_77,b_78,b_79,b_80++t113_1)
 else none
 else none
 else
 if inR i b_71.length=true then
 gy ((b_71.getD i.toNat dSMember).Type_,b_57,b_58,b_59) >>=fun r_125=>
 some [SValue.eta r_125.1] >>=fun t126_1=>
 if room 120 (b_80++t126_1).length=true then
 g16 (addI .i64 i 1,r_125.2.1,r_125.2.2.1,r_125.2.2.2,b_60,b_61,b_62,b_63,b_64,b_65,b_66,b_67,b_68,b_69,b_70,b_71,b_72,b_73,b_74,b_75,b_76,b_77,b_78,b_79,b_80++t126_1)
 else none
 else none
 else none
 else
 some (b_57,b_58,b_59,b_60,b_61,b_62,b_63,b_64,b_65,b_66,b_67,b_68,b_69,b_70,b_71,b_72,b_73,b_74,b_75,b_76,b_77,b_78,b_79,b_80)
  partial_fixpoint
def g1p(x_:Int × List SType × List Int × Bool × Int × Bool × Int × List UInt8 × Int × Int × List UInt8 × Int × Int × Int × List SSymbol × List SMember × Int × Int × Bool × Int × Bool × Int × List UInt8 × Int × List SValue) :Option (List SType × List Int × Bool × Int × Bool × Int × List UInt8 × Int × Int × Bool × Int × List UInt8 × Int × List SValue):=
 match x_ with
 | (n,b_81,b_82,b_83,b_84,b_85,b_86,b_87,b_88,b_89,b_90,b_91,b_92,b_93,b_94,b_95,b_96,b_97,b_98,b_99,b_100,b_101,b_102,b_103,b_104)=>
 if decide (0 < n)=true then
 gy (b_97,b_81,b_82,b_83) >>=fun r_130=>
 some [SValue.eta r_130.1] >>=fun t193=>
 if room 120 (b_104++t193).length=true then
 g1p (subI .i64 n 1,r_130.2.1,r_130.2.2.1,r_130.2.2.2,b_84,b_85,b_86,b_87,b_88,b_89,b_90,b_91,b_92,b_93,b_94,b_95,b_96,b_97,b_98,b_99,b_100,b_101,b_102,b_103,b_104++t193)
 else none
 else
 some (b_81,b_82,b_83,b_84,b_85,b_86,b_87,b_88,b_99,b_100,b_101,b_102,b_103,b_104)
  partial_fixpoint
def g1q(x_:Int × List SType × List Int × Bool × Int × Bool × Int × List UInt8 × Int × Int × List UInt8 × Int × Int × Int × List SSymbol × List SMember × Int × Int × Bool × Int × Bool × Int × List UInt8 × Int × List SValue × List SValue × List SRaw) :Option (List SType × List Int × Bool × Int × Bool × Int × List UInt8 × Int × Int × Bool × Int × List UInt8 × Int × List SValue × List SValue × List SRaw):=
 match x_ with
 | (n_1,b_105,b_106,b_107,b_108,b_109,b_110,b_111,b_112,b_113,b_114,b_115,b_116,b_117,b_118,b_119,b_120,b_121,b_122,b_123,b_124,b_125,b_126,b_127,b_128,b_129,b_130)=>
 if decide (0 < n_1)=true then
 gy (b_120,b_105,b_106,b_107) >>=fun r_135=>
 gy (b_121,r_135.2.1,r_135.2.2.1,r_135.2.2.2) >>=fun r_140=>
 g8a ((⟨b_123,b_124,b_125,b_126,b_127,b_128,b_129,b_130⟩:SValue),SValue.eta r_135.1,SValue.eta r_140.1) >>=fun r_145=>
 g1q (subI .i64 n_1 1,r_140.2.1,r_140.2.2.1,r_140.2.2.2,b_108,b_109,b_110,b_111,b_112,b_113,b_114,b_115,b_116,b_117,b_118,b_119,b_120,b_121,b_122,r_145.Kind,r_145.Bool_,r_145.Int_,r_145.Str,r_145.ID,r_145.Keys,r_145.Items,r_145.Rest)
 else
 some (b_105,b_106,b_107,b_108,b_109,b_110,b_111,b_112,b_123,b_124,b_125,b_126,b_127,b_128,b_129,b_130)
  partial_fixpoint
end
theorem e81_k :KC e81:= .m (by kernel_rfl)
theorem gbu :(∀h r,gy h=some r→FD e81 h r)∧(∀h r,g1q h=some r→LD 81 1 [2] e81_2 h r)∧(∀h r,g1p h=some r→LD 81 1 [1] e81_1 h r)∧(∀h r,g16 h=some r→LD 81 1 [0] e81_0 h r):=gy.mutual_partial_correctness (FD e81) (LD 81 1 [2] e81_2) (LD 81 1 [1] e81_1) (LD 81 1 [0] e81_0)
 (fun _ _ _ _ h0 h1 h2 h3 _ _ h=>FA e81 e81_k (.k g2g (.k gdk (.k gds (.k gbt (.k gdv (.k (FH e81 e81_k h0) .n)))))) (.k (LH e81_0 h3) (.k (LH e81_1 h2) (.k (LH e81_2 h1) .n))) (.trans (by kernel_rfl) h))
 (fun _ _ h0 h1 _ _ h=>LA e81_2 h1 (.k (FH e81 e81_k h0) (.k gjw .n)) .n (.trans (by kernel_rfl) h))
 (fun _ _ h0 h2 _ _ h=>LA e81_1 h2 (.k (FH e81 e81_k h0) .n) .n (.trans (by kernel_rfl) h))
 (fun _ _ h0 h3 _ _ h=>LA e81_0 h3 (.k g2g (.k (FH e81 e81_k h0) .n)) .n (.trans (by kernel_rfl) h))
theorem g8b :FC e81 gy:= .of e81_k gbu.1
def g7q(x_:SSchema × Int × List Int) :Option (SValue):=
 match x_ with
 | (s,t,choices)=>
 some (minI 60 (choices.length:Int)) >>=fun t12=>
 if slR 0 t12 choices.length=true then
 gy (t,s.Types,cutL choices 0 t12,false) >>=fun r=>
 some (SValue.eta r.1)
 else none
theorem e42_k :KC e42:= .m (by kernel_rfl)
theorem gjc :FC e42 g7q:= .fn e42_k (.k g8b .n) .n fun _=>by kernel_rfl
def g6e(x_:SSchema × Int × List Int) :Option (SValue):=
 match x_ with
 | (s,t,choices)=>
 some (minI 60 (choices.length:Int)) >>=fun t12=>
 if slR 0 t12 choices.length=true then
 gy (t,s.Types,cutL choices 0 t12,true) >>=fun r=>
 some (SValue.eta r.1)
 else none
theorem e43_k :KC e43:= .m (by kernel_rfl)
theorem gfw :FC e43 g6e:= .fn e43_k (.k g8b .n) .n fun _=>by kernel_rfl
end
section
open Go Go.Proofs.YtandcioiaooocaaGreat.Shv
open Tryz
set_option maxRecDepth 100000
def g7c(d:Sheaveref08Draft) :Option (SSchema × Int × SValue × SValue × Bool):=
 g5b d.S >>=fun r=>
 if(!r.2)=true then
 some (r.1,0,(⟨0,false,0,[],0,[],[],[]⟩:SValue),(⟨0,false,0,[],0,[],[],[]⟩:SValue),false)
 else
 some (r.1.Types.length:Int) >>=fun t26=>
 if(!(decide (t26=0)))=true then
 some (remI (wrp .i64 d.T) t26) >>=fun t27=>
 g7q (r.1,t27,d.C) >>=fun r_3=>
 g6e (r.1,t27,d.C) >>=fun r_4=>
 some (r.1,t27,SValue.eta r_3,SValue.eta r_4,true)
 else none
theorem e20_k :KC e20:= .m (by kernel_rfl)
theorem glc :FC e20 g7c:= .fn e20_k (.k glb (.k gjc (.k gfw .n))) .n fun _=>by kernel_rfl
def gz(x_:List SSymbol × List SSymbol × Int × Int) :Option ((Bool) ⊕ (Unit)):=
 match x_ with
 | (s1_1,s2_1,t12_1,t13)=>
 if decide (t13 < t12_1)=true then
 if inR t13 s1_1.length=true then
 some (s1_1.getD t13.toNat dSSymbol) >>=fun x0=>
 if inR t13 s2_1.length=true then
 some (s2_1.getD t13.toNat dSSymbol) >>=fun x0_1=>
 if(!(eqI x0.ID x0_1.ID && (eqS x0.Name x0_1.Name && true)))=true then
 some (.inl false)
 else
 gz (s1_1,s2_1,t12_1,addI .i64 t13 1)
 else none
 else none
 else
 some (.inr ())
  partial_fixpoint
theorem g86 :LC 186 0 [0] gvr gz:= .rc gz.partial_correctness .n .n fun _ _=>by kernel_rfl
def g3b(x_:List SSymbol × List SSymbol) :Option (Bool):=
 match x_ with
 | (s1,s2)=>
 if(!(decide ((s1.length:Int)=(s2.length:Int))))=true then
 some false
 else
 gz (s1,s2,(s1.length:Int),0) >>=fun o=>
 match o with
 | .inl o_1=>
 some o_1
 | .inr o_2=>
 some true
theorem gzu :KC e186:= .m (by kernel_rfl)
theorem g92 :FC e186 g3b:= .fn gzu .n (.k g86 .n) fun _=>by kernel_rfl
mutual
def g3w(x_:SValue × SValue) :Option (Bool):=
 match x_ with
 | (a,b)=>
 some (bif bif bif bif decide (a.Kind=b.Kind)then eqB a.Bool_ b.Bool_ else false then decide (a.Int_=b.Int_)else false then decide (a.Str=b.Str)else false then decide (a.ID=b.ID)else false) >>=fun t37=>
 (if t37=true then g1m (a.Rest,b.Rest)else some false) >>=fun r=>
 some (bif t37 then r else false) >>=fun t44=>
 (if t44=true then g13 (a.Keys,b.Keys)else some false) >>=fun r_1=>
 some (bif t44 then r_1 else false) >>=fun t51=>
 (if t51=true then g13 (a.Items,b.Items)else some false) >>=fun r_2=>
 some (bif t51 then r_2 else false)
  partial_fixpoint
def g13(x_:List SValue × List SValue) :Option (Bool):=
 match x_ with
 | (s1,s2)=>
 if(!(decide ((s1.length:Int)=(s2.length:Int))))=true then
 some false
 else
 gv (s2,s1,(s1.length:Int),0) >>=fun o=>
 match o with
 | .inl o_1=>
 some o_1
 | .inr o_2=>
 some true
  partial_fixpoint
def gv(x_:List SValue × List SValue × Int × Int) :Option ((Bool) ⊕ (Unit)):=
 match x_ with
 | (s2_1,t15,t16_1,t17)=>
 if decide (t17 < t16_1)=true then
 if inR t17 t15.length=true then
 if inR t17 s2_1.length=true then
 g3w (SValue.eta (t15.getD t17.toNat dSValue),SValue.eta (s2_1.getD t17.toNat dSValue)) >>=fun r=>
 if(!r)=true then
 some (.inl false)
 else
 gv (s2_1,t15,t16_1,addI .i64 t17 1)
 else none
 else none
 else
 some (.inr ())
  partial_fixpoint
end
theorem gqm :KC e189:= .m (by kernel_rfl)
theorem gsh :KC e82_a:= .m (by kernel_rfl)
theorem gmp :(∀h r,g3w h=some r→FD e189 h r)∧(∀h r,g13 h=some r→FD e82_a h r)∧(∀h r,gv h=some r→LD 82 0 [0] gfm h r):=g3w.mutual_partial_correctness (FD e189) (FD e82_a) (LD 82 0 [0] gfm)
 (fun _ h1 _ _ h=>FA e189 gqm (.k g51 (.k (FH e82_a gsh h1) .n)) .n (.trans (by kernel_rfl) h))
 (fun _ h2 _ _ h=>FA e82_a gsh .n (.k (LH gfm h2) .n) (.trans (by kernel_rfl) h))
 (fun _ _ h0 h2 _ _ h=>LA gfm h2 (.k (FH e189 gqm h0) .n) .n (.trans (by kernel_rfl) h))
theorem ghk :FC e189 g3w:= .of gqm gmp.1
def g7d(x_:SMember × SMember) :Option (Bool):=
 match x_ with
 | (x0,y)=>
 some (bif bif bif bif decide (x0.ID=y.ID)then decide (x0.Name=y.Name)else false then decide (x0.Type_=y.Type_)else false then eqB x0.Critical y.Critical else false then eqB x0.HasDefault y.HasDefault else false) >>=fun t37=>
 (if t37=true then g3w ((⟨x0.Default.Kind,x0.Default.Bool_,x0.Default.Int_,x0.Default.Str,x0.Default.ID,x0.Default.Keys,x0.Default.Items,x0.Default.Rest⟩:SValue),SValue.eta y.Default)else some false) >>=fun r=>
 some (bif t37 then r else false)
theorem gzv :KC e188:= .m (by kernel_rfl)
theorem gld :FC e188 g7d:= .fn gzv (.k ghk .n) .n fun _=>by kernel_rfl
def gg(x_:List SMember × List SMember × Int × Int) :Option ((Bool) ⊕ (Unit)):=
 match x_ with
 | (s2_1,t15,t16_1,t17)=>
 if decide (t17 < t16_1)=true then
 if inR t17 t15.length=true then
 some (t15.getD t17.toNat dSMember) >>=fun x0=>
 if inR t17 s2_1.length=true then
 some (s2_1.getD t17.toNat dSMember) >>=fun x0_1=>
 g7d ((⟨x0.ID,x0.Name,x0.Type_,x0.Critical,x0.HasDefault,SValue.eta x0.Default⟩:SMember),(⟨x0_1.ID,x0_1.Name,x0_1.Type_,x0_1.Critical,x0_1.HasDefault,SValue.eta x0_1.Default⟩:SMember)) >>=fun r=>
 if(!r)=true then
 some (.inl false)
 else
 gg (s2_1,t15,t16_1,addI .i64 t17 1)
 else none
 else none
 else
 some (.inr ())
  partial_fixpoint
theorem g4l :LC 187 0 [0] gvs gg:= .rc gg.partial_correctness (.k gld .n) .n fun _ _=>by kernel_rfl
def g1a(x_:List SMember × List SMember) :Option (Bool):=
 match x_ with
 | (s1,s2)=>
 if(!(decide ((s1.length:Int)=(s2.length:Int))))=true then
 some false
 else
 gg (s2,s1,(s1.length:Int),0) >>=fun o=>
 match o with
 | .inl o_1=>
 some o_1
 | .inr o_2=>
 some true
theorem gzw :KC e187:= .m (by kernel_rfl)
theorem g4t :FC e187 g1a:= .fn gzw .n (.k g4l .n) fun _=>by kernel_rfl
def g1i(x_:SType × SType) :Option (Bool):=
 match x_ with
 | (a,b)=>
 some (bif bif bif bif bif bif bif decide (a.Kind=b.Kind)then decide (a.Name=b.Name)else false then decide (a.Low=b.Low)else false then decide (a.High=b.High)else false then decide (a.Max=b.Max)else false then decide (a.Key=b.Key)else false then decide (a.Elem=b.Elem)else false then eqB a.Open b.Open else false) >>=fun t58=>
 (if t58=true then g3b (a.Symbols,b.Symbols)else some false) >>=fun r=>
 some (bif t58 then r else false) >>=fun t65=>
 (if t65=true then g1a (a.Members,b.Members)else some false) >>=fun r_1=>
 some (bif t65 then r_1 else false)
theorem gzx :KC e155:= .m (by kernel_rfl)
theorem gnu :FC e155 g1i:= .fn gzx (.k g92 (.k g4t .n)) .n fun _=>by kernel_rfl
def g7e(c:Int) :Option (Bool):=
 some (bif bif decide (c=95)then true else bif decide (97≤c)then decide (c≤122)else false then true else bif decide (65≤c)then decide (c≤90)else false)
theorem gzy :KC e182:= .m (by kernel_rfl)
theorem gdl :FC e182 g7e:= .fn gzy .n .n fun _=>by kernel_rfl
def g9l(c:Int) :Option (Bool):=
 some (bif decide (48≤c)then decide (c≤57)else false)
theorem gzz :KC e183:= .m (by kernel_rfl)
theorem gmq :FC e183 g9l:= .fn gzz .n .n fun _=>by kernel_rfl
def g21(x_:List UInt8 × Int × Int) :Option ((Bool) ⊕ (Unit)):=
 match x_ with
 | (s_1,t18_1,t19)=>
 if decide (t19 < t18_1)=true then
 if inR t19 s_1.length=true then
 g7e (g69 s_1 t19) >>=fun r_1=>
 some (!r_1) >>=fun t26=>
 if(inR t19 s_1.length || (!t26))=true then
 (if t26=true then g9l (g69 s_1 t19)else some false) >>=fun r_2=>
 if(bif t26 then(!r_2)else false)=true then
 some (.inl false)
 else
 g21 (s_1,t18_1,addI .i64 t19 1)
 else none
 else none
 else
 some (.inr ())
  partial_fixpoint
theorem gjx :LC 152 0 [0] gvt g21:= .rc g21.partial_correctness (.k gdl (.k gmq .n)) .n fun _ _=>by kernel_rfl
def g2v(s:List UInt8) :Option (Bool):=
 some (bif decide (s=[])then true else decide (24 < (s.length:Int))) >>=fun t10=>
 if(inR 0 s.length || (!(!t10)))=true then
 (if(!t10)=true then g7e (g69 s 0)else some false) >>=fun r=>
 if(bif t10 then true else(!r))=true then
 some false
 else
 g21 (s,(s.length:Int),0) >>=fun o=>
 match o with
 | .inl o_1=>
 some o_1
 | .inr o_2=>
 some true
 else none
theorem g100 :KC e152:= .m (by kernel_rfl)
theorem gfx :FC e152 g2v:= .fn g100 (.k gdl .n) (.k gjx .n) fun _=>by kernel_rfl
end
section
open Go Go.Proofs.YtandcioiaooocaaGreat.Shv
open Tryz
set_option maxRecDepth 100000
def g4h(x_:List Int × List (List UInt8) × List Int × Int × Int × List (List UInt8)) :Option ((Bool) ⊕ (List Int)):=
 match x_ with
 | (l_2,names_1,t9,t10_1,t11,b)=>
 if decide (t11 < t10_1)=true then
 if inR t11 t9.length=true then
 some (t9.getD t11.toNat 0) >>=fun x0=>
 some (bif decide (x0 < 1)then true else decide (1000 < x0)) >>=fun t21=>
 some (decide (0 < t11)) >>=fun t24=>
 some (subI .i64 t11 1) >>=fun t29=>
 if(inR t29 l_2.length || (!((!t21) && t24)))=true then
 some (bif t21 then true else bif t24 then decide (x0≤l_2.getD t29.toNat 0)else false) >>=fun t34=>
 if(inR t11 names_1.length || (!(!t34)))=true then
 some (bif t34 then true else hasS b (names_1.getD t11.toNat [])) >>=fun t42=>
 if(inR t11 names_1.length || (!(!t42)))=true then
 (if(!t42)=true then g2v (names_1.getD t11.toNat [])else some false) >>=fun r=>
 if(bif t42 then true else(!r))=true then
 some (.inl false)
 else
 if inR t11 names_1.length=true then
 g4h (l_2,names_1,t9,t10_1,addI .i64 t11 1,addS b (names_1.getD t11.toNat []))
 else none
 else none
 else none
 else none
 else none
 else
 some (.inr l_2)
  partial_fixpoint
theorem gmr :LC 184 0 [0] gvu g4h:= .rc g4h.partial_correctness (.k gfx .n) .n fun _ _=>by kernel_rfl
def gah(x_:List Int × List (List UInt8)) :Option (Bool):=
 match x_ with
 | (l,names)=>
 g4h (l,names,l,(l.length:Int),0,[]) >>=fun o=>
 match o with
 | .inl o_1=>
 some o_1
 | .inr o_2=>
 some (decide ((o_2.length:Int)≤16))
theorem g101 :KC e184:= .m (by kernel_rfl)
theorem gjd :FC e184 gah:= .fn g101 .n (.k gmr .n) fun _=>by kernel_rfl
def g3j(x_:List SSymbol × List SSymbol × Int × Int × List Int × List (List UInt8)) :Option (List SSymbol × List Int × List (List UInt8)):=
 match x_ with
 | (l_2,t7,t8_1,t9,b_2,b_3)=>
 if decide (t9 < t8_1)=true then
 if inR t9 t7.length=true then
 some (t7.getD t9.toNat dSSymbol) >>=fun x0=>
 some [x0.ID] >>=fun t16=>
 if room 8 (b_2++t16).length=true then
 some [x0.Name] >>=fun t21=>
 if room 16 (b_3++t21).length=true then
 g3j (l_2,t7,t8_1,addI .i64 t9 1,b_2++t16,b_3++t21)
 else none
 else none
 else none
 else
 some (l_2,b_2,b_3)
  partial_fixpoint
theorem ghw :LC 153 0 [0] gvv g3j:= .rc g3j.partial_correctness .n .n fun _ _=>by kernel_rfl
def g63(l:List SSymbol) :Option (Bool):=
 g3j (l,l,(l.length:Int),0,[],[]) >>=fun o=>
 some (decide (0 < (o.1.length:Int))) >>=fun t26=>
 (if t26=true then gah (o.2.1,o.2.2)else some false) >>=fun r=>
 some (bif t26 then r else false)
theorem g102 :KC e153:= .m (by kernel_rfl)
theorem gle :FC e153 g63:= .fn g102 (.k gjd .n) (.k ghw .n) fun _=>by kernel_rfl
def gai(v:SValue) :Option (Bool):=
 g3w (SValue.eta v,(⟨0,false,0,[],0,[],[],[]⟩:SValue)) >>=fun r=>
 some r
theorem g103 :KC e185:= .m (by kernel_rfl)
theorem gnv :FC e185 gai:= .fn g103 (.k ghk .n) .n fun _=>by kernel_rfl
def g33(x_:List SMember × Int × Int × SType × List Int × List (List UInt8)) :Option ((Bool) ⊕ (SType × List Int × List (List UInt8))):=
 match x_ with
 | (t8,t9_1,t10,b_3,b_4,b_5)=>
 if decide (t10 < t9_1)=true then
 if inR t10 t8.length=true then
 some (t8.getD t10.toNat dSMember) >>=fun x0=>
 some [x0.ID] >>=fun t17=>
 if room 8 (b_4++t17).length=true then
 some [x0.Name] >>=fun t22=>
 if room 16 (b_5++t22).length=true then
 some (bif bif decide (b_3.Kind=6)then bif x0.Critical then true else x0.HasDefault else false then true else bif x0.Critical then x0.HasDefault else false) >>=fun t42=>
 some (!x0.HasDefault) >>=fun t46=>
 (if((!t42) && t46)=true then gai (SValue.eta x0.Default)else some false) >>=fun r_1=>
 if(bif t42 then true else bif t46 then(!r_1)else false)=true then
 some (.inl false)
 else
 g33 (t8,t9_1,addI .i64 t10 1,b_3,b_4++t17,b_5++t22)
 else none
 else none
 else none
 else
 some (.inr (b_3,b_4,b_5))
  partial_fixpoint
theorem ghx :LC 154 0 [0] gvw g33:= .rc g33.partial_correctness (.k gnv .n) .n fun _ _=>by kernel_rfl
def g5c(t:SType) :Option (Bool):=
 g33 (t.Members,(t.Members.length:Int),0,t,[],[]) >>=fun o=>
 match o with
 | .inl o_1=>
 some o_1
 | .inr o_2=>
 some (bif decide (o_2.1.Kind=5)then true else decide (0 < (o_2.2.1.length:Int))) >>=fun t62=>
 (if t62=true then gah (o_2.2.1,o_2.2.2)else some false) >>=fun r=>
 some (bif t62 then r else false)
theorem g104 :KC e154:= .m (by kernel_rfl)
theorem glf :FC e154 g5c:= .fn g104 (.k gjd .n) (.k ghx .n) fun _=>by kernel_rfl
def g19(t:SType) :Option (Bool):=
 if decide (t.Kind=1)=true then
 g1i ((⟨0,t.Name,t.Low,t.High,t.Max,t.Symbols,t.Members,t.Key,t.Elem,t.Open⟩:SType),(⟨0,[],0,0,0,[],[],0,0,false⟩:SType)) >>=fun r=>
 some r
 else
 if decide (t.Kind=2)=true then
 some (decide (t.Low≤t.High)) >>=fun t17=>
 (if t17=true then g1i ((⟨0,t.Name,0,0,t.Max,t.Symbols,t.Members,t.Key,t.Elem,t.Open⟩:SType),(⟨0,[],0,0,0,[],[],0,0,false⟩:SType))else some false) >>=fun r_1=>
 some (bif t17 then r_1 else false)
 else
 if decide (t.Kind=3)=true then
 some (bif decide (0≤t.Max)then decide (t.Max≤200)else false) >>=fun t29=>
 (if t29=true then g1i ((⟨0,t.Name,t.Low,t.High,0,t.Symbols,t.Members,t.Key,t.Elem,t.Open⟩:SType),(⟨0,[],0,0,0,[],[],0,0,false⟩:SType))else some false) >>=fun r_2=>
 some (bif t29 then r_2 else false)
 else
 if decide (t.Kind=4)=true then
 g2v t.Name >>=fun r_3=>
 (if r_3=true then g63 t.Symbols else some false) >>=fun r_4=>
 some (bif r_3 then r_4 else false) >>=fun t40=>
 (if t40=true then g1i ((⟨0,[],t.Low,t.High,t.Max,[],t.Members,t.Key,t.Elem,false⟩:SType),(⟨0,[],0,0,0,[],[],0,0,false⟩:SType))else some false) >>=fun r_5=>
 some (bif t40 then r_5 else false)
 else
 some (decide (t.Kind=5)) >>=fun t45=>
 if t45=true then
 if t45=true then
 g2v t.Name >>=fun r_6=>
 (if r_6=true then g5c t else some false) >>=fun r_7=>
 some (bif r_6 then r_7 else false) >>=fun t53=>
 (if t53=true then g1i ((⟨0,[],t.Low,t.High,t.Max,t.Symbols,[],t.Key,t.Elem,bif t.Open then decide (t.Kind=5)else false⟩:SType),(⟨0,[],0,0,0,[],[],0,0,false⟩:SType))else some false) >>=fun r_8=>
 some (bif t53 then r_8 else false)
 else
 some (decide (t.Kind=7)) >>=fun t65=>
 if t65=true then
 if t65=true then
 some (bif decide (0≤t.Max)then decide (t.Max≤50)else false) >>=fun t74=>
 if decide (t.Kind=8)=true then
 (if t74=true then g1i ((⟨0,t.Name,t.Low,t.High,0,t.Symbols,t.Members,0,0,t.Open⟩:SType),(⟨0,[],0,0,0,[],[],0,0,false⟩:SType))else some false) >>=fun r_9=>
 some (bif t74 then r_9 else false)
 else
 (if t74=true then g1i ((⟨0,t.Name,t.Low,t.High,0,t.Symbols,t.Members,t.Key,0,t.Open⟩:SType),(⟨0,[],0,0,0,[],[],0,0,false⟩:SType))else some false) >>=fun r_10=>
 some (bif t74 then r_10 else false)
 else
 if decide (t.Kind=9)=true then
 g1i ((⟨0,t.Name,t.Low,t.High,t.Max,t.Symbols,t.Members,t.Key,0,t.Open⟩:SType),(⟨0,[],0,0,0,[],[],0,0,false⟩:SType)) >>=fun r_11=>
 some r_11
 else
 some false
 else
 if decide (t.Kind=8)=true then
 some (bif decide (0≤t.Max)then decide (t.Max≤50)else false) >>=fun t74_1=>
 if decide (t.Kind=8)=true then
 (if t74_1=true then g1i ((⟨0,t.Name,t.Low,t.High,0,t.Symbols,t.Members,0,0,t.Open⟩:SType),(⟨0,[],0,0,0,[],[],0,0,false⟩:SType))else some false) >>=fun r_12=>
 some (bif t74_1 then r_12 else false)
 else
 (if t74_1=true then g1i ((⟨0,t.Name,t.Low,t.High,0,t.Symbols,t.Members,t.Key,0,t.Open⟩:SType),(⟨0,[],0,0,0,[],[],0,0,false⟩:SType))else some false) >>=fun r_13=>
 some (bif t74_1 then r_13 else false)
 else
 if decide (t.Kind=9)=true then
 g1i ((⟨0,t.Name,t.Low,t.High,t.Max,t.Symbols,t.Members,t.Key,0,t.Open⟩:SType),(⟨0,[],0,0,0,[],[],0,0,false⟩:SType)) >>=fun r_14=>
 some r_14
 else
 some false
 else
 if decide (t.Kind=6)=true then
 g2v t.Name >>=fun r_15=>
 (if r_15=true then g5c t else some false) >>=fun r_16=>
 some (bif r_15 then r_16 else false) >>=fun t53_1=>
 (if t53_1=true then g1i ((⟨0,[],t.Low,t.High,t.Max,t.Symbols,[],t.Key,t.Elem,bif t.Open then decide (t.Kind=5)else false⟩:SType),(⟨0,[],0,0,0,[],[],0,0,false⟩:SType))else some false) >>=fun r_17=>
 some (bif t53_1 then r_17 else false)
 else
 some (decide (t.Kind=7)) >>=fun t65_1=>
 if t65_1=true then
 if t65_1=true then
 some (bif decide (0≤t.Max)then decide (t.Max≤50)else false) >>=fun t74_2=>
 if decide (t.Kind=8)=true then
 (if t74_2=true then g1i ((⟨0,t.Name,t.Low,t.High,0,t.Symbols,t.Members,0,0,t.Open⟩:SType),(⟨0,[],0,0,0,[],[],0,0,false⟩:SType))else some false) >>=fun r_18=>
 some (bif t74_2 then r_18 else false)
 else
 (if t74_2=true then g1i ((⟨0,t.Name,t.Low,t.High,0,t.Symbols,t.Members,t.Key,0,t.Open⟩:SType),(⟨0,[],0,0,0,[],[],0,0,false⟩:SType))else some false) >>=fun r_19=>
 some (bif t74_2 then r_19 else false)
 else
 if decide (t.Kind=9)=true then
 g1i ((⟨0,t.Name,t.Low,t.High,t.Max,t.Symbols,t.Members,t.Key,0,t.Open⟩:SType),(⟨0,[],0,0,0,[],[],0,0,false⟩:SType)) >>=fun r_20=>
 some r_20
 else
 some false
 else
 if decide (t.Kind=8)=true then
 some (bif decide (0≤t.Max)then decide (t.Max≤50)else false) >>=fun t74_3=>
 if decide (t.Kind=8)=true then
 (if t74_3=true then g1i ((⟨0,t.Name,t.Low,t.High,0,t.Symbols,t.Members,0,0,t.Open⟩:SType),(⟨0,[],0,0,0,[],[],0,0,false⟩:SType))else some false) >>=fun r_21=>
 some (bif t74_3 then r_21 else false)
 else
 (if t74_3=true then g1i ((⟨0,t.Name,t.Low,t.High,0,t.Symbols,t.Members,t.Key,0,t.Open⟩:SType),(⟨0,[],0,0,0,[],[],0,0,false⟩:SType))else some false) >>=fun r_22=>
 some (bif t74_3 then r_22 else false)
 else
 if decide (t.Kind=9)=true then
 g1i ((⟨0,t.Name,t.Low,t.High,t.Max,t.Symbols,t.Members,t.Key,0,t.Open⟩:SType),(⟨0,[],0,0,0,[],[],0,0,false⟩:SType)) >>=fun r_23=>
 some r_23
 else
 some false
theorem g105 :KC e115:= .m (by kernel_rfl)
theorem gp6 :FC e115 g19:= .fn g105 (.k gnu (.k gfx (.k gle (.k glf .n)))) .n fun _=>by kernel_rfl
def g4q(x_:List SMember × Int × Int × SType × List Int) :Option (SType × List Int):=
 match x_ with
 | (t7,t8_1,t9,b_2,b_3)=>
 if decide (t9 < t8_1)=true then
 if inR t9 t7.length=true then
 some [(t7.getD t9.toNat dSMember).Type_] >>=fun t16=>
 if room 8 (b_3++t16).length=true then
 g4q (t7,t8_1,addI .i64 t9 1,b_2,b_3++t16)
 else none
 else none
 else
 some (b_2,b_3)
  partial_fixpoint
theorem glg :LC 116 0 [0] gvx g4q:= .rc g4q.partial_correctness .n .n fun _ _=>by kernel_rfl
def gbi(t:SType) :Option (List Int):=
 g4q (t.Members,(t.Members.length:Int),0,t,[]) >>=fun o=>
 if decide (o.1.Kind=8)=true then
 some [o.1.Key] >>=fun t25=>
 if room 8 (o.2++t25).length=true then
 some (o.2++t25) >>=fun l=>
 if decide (7≤o.1.Kind)=true then
 some [o.1.Elem] >>=fun t33=>
 if room 8 (l++t33).length=true then
 some (l++t33)
 else none
 else
 some l
 else none
 else
 if decide (7≤o.1.Kind)=true then
 some [o.1.Elem] >>=fun t33_1=>
 if room 8 (o.2++t33_1).length=true then
 some (o.2++t33_1)
 else none
 else
 some o.2
theorem g106 :KC e116:= .m (by kernel_rfl)
theorem gp7 :FC e116 gbi:= .fn g106 .n (.k glg .n) fun _=>by kernel_rfl
def g34(x_:List SType × Int × Int × List Int × Int × Int × List SType × List (List UInt8) × Int × List UInt8 × Int × Int × Int × List SSymbol × List SMember × Int × Int × Bool) :Option ((Int) ⊕ (List SType × Int × Int × List SType × List (List UInt8) × Int × List UInt8 × Int × Int × Int × List SSymbol × List SMember × Int × Int × Bool)):=
 match x_ with
 | (t14_2,t15_3,t16_2,t38,t39_1,t40,b_14,b_15,b_16,b_17,b_18,b_19,b_20,b_21,b_22,b_23,b_24,b_25)=>
 if decide (t40 < t39_1)=true then
 if inR t40 t38.length=true then
 some (t38.getD t40.toNat 0) >>=fun x0_3=>
 if(bif decide (x0_3 < 0)then true else decide ((b_14.length:Int)≤x0_3))=true then
 some (.inl 4)
 else
 g34 (t14_2,t15_3,t16_2,t38,t39_1,addI .i64 t40 1,b_14,b_15,b_16,b_17,b_18,b_19,b_20,b_21,b_22,b_23,b_24,b_25)
 else none
 else
 some (.inr (t14_2,t15_3,t16_2,b_14,b_15,b_16,b_17,b_18,b_19,b_20,b_21,b_22,b_23,b_24,b_25))
  partial_fixpoint
theorem ghy :LC 88 0 [0,0] gsg g34:= .rc g34.partial_correctness .n .n fun _ _=>by kernel_rfl
def g48(x_:List SType × Int × Int × List SType × List (List UInt8)) :Option ((Int) ⊕ (Unit)):=
 match x_ with
 | (t14,t15_1,t16,b,b_1)=>
 if decide (t16 < t15_1)=true then
 if inR t16 t14.length=true then
 some (t14.getD t16.toNat dSType) >>=fun x0=>
 g19 x0 >>=fun r=>
 if(bif (!r)then true else bif (!(decide (x0.Name=[])))then hasS b_1 x0.Name else false)=true then
 some (.inl 1)
 else
 gbi x0 >>=fun r_1=>
 g34 (t14,t15_1,t16,r_1,(r_1.length:Int),0,b,addS b_1 x0.Name,x0.Kind,x0.Name,x0.Low,x0.High,x0.Max,x0.Symbols,x0.Members,x0.Key,x0.Elem,x0.Open) >>=fun o_3=>
 match o_3 with
 | .inl o_4=>
 some (.inl o_4)
 | .inr o_5=>
 some (decide (o_5.2.2.2.2.2.1=8)) >>=fun t56=>
 if(inR o_5.2.2.2.2.2.2.2.2.2.2.2.2.1 o_5.2.2.2.1.length || (!t56))=true then
 some (decide ((o_5.2.2.2.1.getD o_5.2.2.2.2.2.2.2.2.2.2.2.2.1.toNat dSType).Kind < 1)) >>=fun t65=>
 if(inR o_5.2.2.2.2.2.2.2.2.2.2.2.2.1 o_5.2.2.2.1.length || (!(t56 && (!t65))))=true then
 if(bif t56 then bif t65 then true else decide (4 < (o_5.2.2.2.1.getD o_5.2.2.2.2.2.2.2.2.2.2.2.2.1.toNat dSType).Kind)else false)=true then
 some (.inl 1)
 else
 g48 (o_5.1,o_5.2.1,addI .i64 o_5.2.2.1 1,o_5.2.2.2.1,o_5.2.2.2.2.1)
 else none
 else none
 else none
 else
 some (.inr ())
  partial_fixpoint
theorem gjy :LC 88 0 [0] e88_0 g48:= .rc g48.partial_correctness (.k gp6 (.k gp7 .n)) (.k ghy .n) fun _ _=>by kernel_rfl
def g7f(s:SSchema) :Option (Int):=
 if decide (32 < (s.Types.length:Int))=true then
 some 3
 else
 g48 (s.Types,(s.Types.length:Int),0,s.Types,[]) >>=fun o=>
 match o with
 | .inl o_1=>
 some o_1
 | .inr o_2=>
 some 0
theorem e88_k :KC e88:= .m (by kernel_rfl)
theorem gfy :FC e88 g7f:= .fn e88_k .n (.k gjy .n) fun _=>by kernel_rfl
def g5d(x_:SSchema × Int) :Option (Int):=
 match x_ with
 | (s,t)=>
 g7f s >>=fun r=>
 if(!(decide (r=0)))=true then
 some r
 else
 if(bif decide (t < 0)then true else decide ((s.Types.length:Int)≤t))=true then
 some 4
 else
 some 0
theorem e61_k :KC e61:= .m (by kernel_rfl)
theorem glh :FC e61 g5d:= .fn e61_k (.k gfy .n) .n fun _=>by kernel_rfl
end
section
open Go Go.Proofs.YtandcioiaooocaaGreat.Shv
open Tryz
set_option maxRecDepth 100000
def gcg(v:SValue) :Option (SValue):=
 if decide (v.Kind=1)=true then
 some (⟨v.Kind,v.Bool_,0,[],0,[],[],[]⟩:SValue)
 else
 if decide (v.Kind=2)=true then
 some (⟨v.Kind,false,v.Int_,[],0,[],[],[]⟩:SValue)
 else
 if decide (v.Kind=3)=true then
 some (⟨v.Kind,false,0,v.Str,0,[],[],[]⟩:SValue)
 else
 if decide (v.Kind=4)=true then
 some (⟨v.Kind,false,0,[],v.ID,[],[],[]⟩:SValue)
 else
 if decide (v.Kind=5)=true then
 some (⟨v.Kind,false,0,[],0,[],v.Items,v.Rest⟩:SValue)
 else
 if decide (v.Kind=6)=true then
 some (⟨v.Kind,false,0,[],v.ID,[],v.Items,v.Rest⟩:SValue)
 else
 if decide (v.Kind=8)=true then
 some (⟨v.Kind,false,0,[],0,v.Keys,v.Items,[]⟩:SValue)
 else
 some (decide (v.Kind=7)) >>=fun t57=>
 if t57=true then
 if t57=true then
 some (⟨v.Kind,false,0,[],0,[],v.Items,[]⟩:SValue)
 else
 some (⟨v.Kind,false,0,[],0,[],[],[]⟩:SValue)
 else
 if decide (v.Kind=9)=true then
 some (⟨v.Kind,false,0,[],0,[],v.Items,[]⟩:SValue)
 else
 some (⟨v.Kind,false,0,[],0,[],[],[]⟩:SValue)
theorem g107 :KC e171:= .m (by kernel_rfl)
theorem gqn :FC e171 gcg:= .fn g107 .n .n fun _=>by kernel_rfl
def gaj(v:SValue) :Option (Bool):=
 gcg (SValue.eta v) >>=fun r=>
 some (bif bif bif bif bif bif eqB v.Bool_ r.Bool_ then decide (v.Int_=r.Int_)else false then decide (v.Str=r.Str)else false then decide (v.ID=r.ID)else false then decide ((v.Keys.length:Int)=(r.Keys.length:Int))else false then decide ((v.Items.length:Int)=(r.Items.length:Int))else false then decide ((v.Rest.length:Int)=(r.Rest.length:Int))else false)
theorem g108 :KC e139:= .m (by kernel_rfl)
theorem gnw :FC e139 gaj:= .fn g108 (.k gqn .n) .n fun _=>by kernel_rfl
def gak(x_:SSymbol × Int) :Option (Bool × Int):=
 match x_ with
 | (x0,b)=>
 some (decide (x0.ID=b),b)
theorem g109 :KC e100:= .m (by kernel_rfl)
theorem gjz :FC e100 gak:= .fn g109 .n .n fun _=>by kernel_rfl
def gn(x_:List SSymbol × Int × Int × Int) :Option ((Int × Int) ⊕ (Int)):=
 match x_ with
 | (s_1,t7_1,t8,b_3)=>
 if decide (t8 < t7_1)=true then
 if inR t8 s_1.length=true then
 gak (s_1.getD t8.toNat dSSymbol,b_3) >>=fun r=>
 if r.1=true then
 some (.inl (t8,r.2))
 else
 gn (s_1,t7_1,addI .i64 t8 1,r.2)
 else none
 else
 some (.inr b_3)
  partial_fixpoint
theorem g7g :LC 99 1 [0] e99_0 gn:= .rc gn.partial_correctness (.k gjz .n) .n fun _ _=>by kernel_rfl
def g3o(x_:List SSymbol × Int) :Option (Int × Int):=
 match x_ with
 | (s,b)=>
 gn (s,(s.length:Int),0,b) >>=fun o=>
 match o with
 | .inl o_1=>
 some (o_1.1,o_1.2)
 | .inr o_2=>
 some ((-1),o_2)
theorem e99_k :KC e99:= .m (by kernel_rfl)
theorem g7x :FC e99 g3o:= .fn e99_k .n (.k g7g .n) fun _=>by kernel_rfl
def g7y(x_:SType × Int) :Option (Int × Bool):=
 match x_ with
 | (t,id)=>
 g3o (t.Symbols,id) >>=fun r=>
 some (maxI r.1 0,decide (0≤r.1))
theorem e64_k :KC e64:= .m (by kernel_rfl)
theorem ge8 :FC e64 g7y:= .fn e64_k (.k g7x .n) .n fun _=>by kernel_rfl
def gal(id:Int) :Option (Bool):=
 some (bif decide (1≤id)then decide (id≤1000)else false)
theorem g10a :KC e140:= .m (by kernel_rfl)
theorem gje :FC e140 gal:= .fn g10a .n .n fun _=>by kernel_rfl
def gam(x_:SMember × Int) :Option (Bool × Int):=
 match x_ with
 | (m,b)=>
 some (decide (m.ID=b),b)
theorem g10b :KC e144:= .m (by kernel_rfl)
theorem gk0 :FC e144 gam:= .fn g10b .n .n fun _=>by kernel_rfl
def gw(x_:List SMember × Int × Int × Int) :Option ((Int × Int) ⊕ (Int)):=
 match x_ with
 | (s_1,t7_1,t8,b_3)=>
 if decide (t8 < t7_1)=true then
 if inR t8 s_1.length=true then
 some (s_1.getD t8.toNat dSMember) >>=fun x0=>
 gam ((⟨x0.ID,x0.Name,x0.Type_,x0.Critical,x0.HasDefault,SValue.eta x0.Default⟩:SMember),b_3) >>=fun r=>
 if r.1=true then
 some (.inl (t8,r.2))
 else
 gw (s_1,t7_1,addI .i64 t8 1,r.2)
 else none
 else
 some (.inr b_3)
  partial_fixpoint
theorem g7h :LC 143 1 [0] gvy gw:= .rc gw.partial_correctness (.k gk0 .n) .n fun _ _=>by kernel_rfl
def g3p(x_:List SMember × Int) :Option (Int × Int):=
 match x_ with
 | (s,b)=>
 gw (s,(s.length:Int),0,b) >>=fun o=>
 match o with
 | .inl o_1=>
 some (o_1.1,o_1.2)
 | .inr o_2=>
 some ((-1),o_2)
theorem g10c :KC e143:= .m (by kernel_rfl)
theorem g7z :FC e143 g3p:= .fn g10c .n (.k g7h .n) fun _=>by kernel_rfl
def g1r(x_:SType × Int) :Option (Int × Bool):=
 match x_ with
 | (t,id)=>
 g3p (t.Members,id) >>=fun r=>
 some (maxI r.1 0,decide (0≤r.1))
theorem g10d :KC e101:= .m (by kernel_rfl)
theorem g4x :FC e101 g1r:= .fn g10d (.k g7z .n) .n fun _=>by kernel_rfl
def g2p(x_:Bool × List SRaw × Int × Int × List SType × SValue × Int × List UInt8 × Int × Int × Int × List SSymbol × List SMember × Int × Int × Bool) :Option ((Bool) ⊕ (Bool × List SType × Int × Bool × Int × List UInt8 × Int × List SValue × List SValue × List SRaw × Int × List UInt8 × Int × Int × Int × List SSymbol × List SMember × Int × Int × Bool)):=
 match x_ with
 | (plain_3,t111,t112_1,t113,b_31,b_32,b_33,b_34,b_35,b_36,b_37,b_38,b_39,b_40,b_41,b_42)=>
 if decide (t113 < t112_1)=true then
 if inR t113 t111.length=true then
 some (t111.getD t113.toNat dSRaw) >>=fun x0_4=>
 g1r ((⟨b_33,b_34,b_35,b_36,b_37,b_38,b_39,b_40,b_41,b_42⟩:SType),x0_4.ID) >>=fun r_14=>
 (if(!r_14.2)=true then gal x0_4.ID else some false) >>=fun r_17=>
 some (bif r_14.2 then true else(!r_17)) >>=fun t131=>
 some (decide (0 < t113)) >>=fun t134=>
 some (subI .i64 t113 1) >>=fun t141=>
 if(inR t141 b_32.Rest.length || (!((!t131) && t134)))=true then
 if(bif t131 then true else bif t134 then decide (x0_4.ID≤(b_32.Rest.getD t141.toNat dSRaw).ID)else false)=true then
 some (.inl false)
 else
 g2p (plain_3,t111,t112_1,addI .i64 t113 1,b_31,SValue.eta b_32,b_33,b_34,b_35,b_36,b_37,b_38,b_39,b_40,b_41,b_42)
 else none
 else none
 else
 some (.inr (plain_3,b_31,b_32.Kind,b_32.Bool_,b_32.Int_,b_32.Str,b_32.ID,b_32.Keys,b_32.Items,b_32.Rest,b_33,b_34,b_35,b_36,b_37,b_38,b_39,b_40,b_41,b_42))
  partial_fixpoint
theorem gms :LC 97 0 [0] e97_0 g2p:= .rc g2p.partial_correctness (.k g4x (.k gje .n)) .n fun _ _=>by kernel_rfl
def ge9(x0:Int) :Option (Bool):=
 some (!(decide (x0=x0)))
theorem g10e :KC e195:= .m (by kernel_rfl)
theorem gru :FC e195 ge9:= .fn g10e .n .n fun _=>by kernel_rfl
def gbj(x_:Int × Int) :Option (Int):=
 match x_ with
 | (x0,y)=>
 ge9 x0 >>=fun r=>
 ge9 y >>=fun r_1=>
 if r=true then
 if r_1=true then
 some 0
 else
 some (-1)
 else
 if r_1=true then
 some 1
 else
 if decide (x0 < y)=true then
 some (-1)
 else
 if decide (y < x0)=true then
 some 1
 else
 some 0
theorem g10f :KC e174:= .m (by kernel_rfl)
theorem gp8 :FC e174 gbj:= .fn g10f (.k gru .n) .n fun _=>by kernel_rfl
end
section
open Go Go.Proofs.YtandcioiaooocaaGreat.Shv
open Tryz
set_option maxRecDepth 100000
def gbk(x0:Int) :Option (Bool):=
 some (!(decide (x0=x0)))
theorem g10g :KC e196:= .m (by kernel_rfl)
theorem gp9 :FC e196 gbk:= .fn g10g .n .n fun _=>by kernel_rfl
def g80(x_:Int × Int) :Option (Int):=
 match x_ with
 | (x0,y)=>
 gbk x0 >>=fun r=>
 gbk y >>=fun r_1=>
 if r=true then
 if r_1=true then
 some 0
 else
 some (-1)
 else
 if r_1=true then
 some 1
 else
 if decide (x0 < y)=true then
 some (-1)
 else
 if decide (y < x0)=true then
 some 1
 else
 some 0
theorem g10h :KC e177:= .m (by kernel_rfl)
theorem gmt :FC e177 g80:= .fn g10h (.k gp9 .n) .n fun _=>by kernel_rfl
def gbl(x0:List UInt8) :Option (Bool):=
 some (!(decide (x0=x0)))
theorem g10i :KC e197:= .m (by kernel_rfl)
theorem gpa :FC e197 gbl:= .fn g10i .n .n fun _=>by kernel_rfl
def g9m(x_:List UInt8 × List UInt8) :Option (Int):=
 match x_ with
 | (x0,y)=>
 gbl x0 >>=fun r=>
 gbl y >>=fun r_1=>
 if r=true then
 if r_1=true then
 some 0
 else
 some (-1)
 else
 if r_1=true then
 some 1
 else
 if Op.bytesLess x0 y=true then
 some (-1)
 else
 if(!(Op.bytesLess x0 y || decide (x0=y)))=true then
 some 1
 else
 some 0
theorem g10j :KC e178:= .m (by kernel_rfl)
theorem gmu :FC e178 g9m:= .fn g10j (.k gpa .n) .n fun _=>by kernel_rfl
def g60(x_:Int × List Int × Int × Int) :Option ((Int) ⊕ (Int)):=
 match x_ with
 | (zero_1,t6,t7_1,t8)=>
 if decide (t8 < t7_1)=true then
 if inR t8 t6.length=true then
 some (t6.getD t8.toNat 0) >>=fun x0=>
 if(!(decide (x0=zero_1)))=true then
 some (.inl x0)
 else
 g60 (zero_1,t6,t7_1,addI .i64 t8 1)
 else none
 else
 some (.inr zero_1)
  partial_fixpoint
theorem grv :LC 176 0 [0] gvz g60:= .rc g60.partial_correctness .n .n fun _ _=>by kernel_rfl
def gmv(vals:List Int) :Option (Int):=
 g60 (0,vals,(vals.length:Int),0) >>=fun o=>
 match o with
 | .inl o_1=>
 some o_1
 | .inr o_2=>
 some o_2
theorem g10k :KC e176:= .m (by kernel_rfl)
theorem gxk :FC e176 gmv:= .fn g10k .n (.k grv .n) fun _=>by kernel_rfl
def g6i(n:Int) :Option (Int):=
 some (xorI .u64 (shlI .u64 (wrp .u64 n) 1) (wrp .u64 (shrI .i64 n 63)))
theorem g10l :KC e175:= .m (by kernel_rfl)
theorem gea :FC e175 g6i:= .fn g10l .n .n fun _=>by kernel_rfl
def g5r(x_:SValue × SValue) :Option (Int):=
 match x_ with
 | (a,b)=>
 if(!(decide (a.Kind=b.Kind)))=true then
 some 0
 else
 if decide (a.Kind=1)=true then
 if eqB a.Bool_ b.Bool_=true then
 some 0
 else
 if b.Bool_=true then
 some (-1)
 else
 some 1
 else
 if decide (a.Kind=2)=true then
 g6i a.Int_ >>=fun r=>
 g6i b.Int_ >>=fun r_1=>
 gbj (r,r_1) >>=fun r_2=>
 some r_2
 else
 if decide (a.Kind=3)=true then
 g80 ((a.Str.length:Int),(b.Str.length:Int)) >>=fun r_3=>
 g9m (a.Str,b.Str) >>=fun r_4=>
 gmv [r_3,r_4] >>=fun r_5=>
 some r_5
 else
 if decide (a.Kind=4)=true then
 g80 (a.ID,b.ID) >>=fun r_6=>
 some r_6
 else
 some 0
theorem g10m :KC e142:= .m (by kernel_rfl)
theorem gmw :FC e142 g5r:= .fn g10m (.k gea (.k gp8 (.k gmt (.k gmu (.k gxk .n))))) .n fun _=>by kernel_rfl
def g2e(x_:Bool × Int × List SType × SValue × Int × List UInt8 × Int × Int × Int × List SSymbol × List SMember × Int × Int × Bool) :Option ((Bool) ⊕ (Bool × List SType × SValue × Int × List UInt8 × Int × Int × Int × List SSymbol × List SMember × Int × Int × Bool)):=
 match x_ with
 | (plain_5,i,b_52,b_53,b_54,b_55,b_56,b_57,b_58,b_59,b_60,b_61,b_62,b_63)=>
 if decide (i < (b_53.Keys.length:Int))=true then
 some (subI .i64 i 1) >>=fun t291=>
 if inR t291 b_53.Keys.length=true then
 if inR i b_53.Keys.length=true then
 g5r (SValue.eta (b_53.Keys.getD t291.toNat dSValue),SValue.eta (b_53.Keys.getD i.toNat dSValue)) >>=fun r_19=>
 if decide (0≤r_19)=true then
 some (.inl false)
 else
 g2e (plain_5,addI .i64 i 1,b_52,SValue.eta b_53,b_54,b_55,b_56,b_57,b_58,b_59,b_60,b_61,b_62,b_63)
 else none
 else none
 else
 some (.inr (plain_5,b_52,SValue.eta b_53,b_54,b_55,b_56,b_57,b_58,b_59,b_60,b_61,b_62,b_63))
  partial_fixpoint
theorem gmx :LC 97 0 [2] e97_2 g2e:= .rc g2e.partial_correctness (.k gmw .n) .n fun _ _=>by kernel_rfl
mutual
def g2j(x_:List SValue × List SType × Int × Bool) :Option (Bool × List SType × Int × Bool):=
 match x_ with
 | (s,b,b_1,b_2)=>
 g3y (s,b,b_1,b_2) >>=fun r=>
 some (decide (0≤r.1),r.2.1,r.2.2.1,r.2.2.2)
  partial_fixpoint
def g3y(x_:List SValue × List SType × Int × Bool) :Option (Int × List SType × Int × Bool):=
 match x_ with
 | (s,b,b_1,b_2)=>
 g12 (s,(s.length:Int),0,b,b_1,b_2) >>=fun o=>
 match o with
 | .inl o_1=>
 some (o_1.1,o_1.2.1,o_1.2.2.1,o_1.2.2.2)
 | .inr o_2=>
 some ((-1),o_2.1,o_2.2.1,o_2.2.2)
  partial_fixpoint
def g5z(x_:SSchema × Int × List SValue × Bool) :Option (Bool):=
 match x_ with
 | (s,t,l,plain)=>
 g2j (l,s.Types,t,plain) >>=fun r=>
 some (!r.1)
  partial_fixpoint
def gdm(x_:SValue × List SType × Int × Bool) :Option (Bool × List SType × Int × Bool):=
 match x_ with
 | (v,b,b_1,b_2)=>
 g3f ((⟨b⟩:SSchema),b_1,SValue.eta v,b_2) >>=fun r=>
 some ((!r),b,b_1,b_2)
  partial_fixpoint
def g3f(x_:SSchema × Int × SValue × Bool) :Option (Bool):=
 match x_ with
 | (s,t,v,plain)=>
 if(bif decide (t < 0)then true else decide ((s.Types.length:Int)≤t))=true then
 some false
 else
 if inR t s.Types.length=true then
 some (s.Types.getD t.toNat dSType) >>=fun x0=>
 some (!(decide (v.Kind=x0.Kind))) >>=fun t39=>
 (if(!t39)=true then gaj (SValue.eta v)else some false) >>=fun r=>
 if(bif t39 then true else(!r))=true then
 some false
 else
 if decide (x0.Kind=2)=true then
 some (bif decide (x0.Low≤v.Int_)then decide (v.Int_≤x0.High)else false)
 else
 if decide (x0.Kind=3)=true then
 some (decide ((v.Str.length:Int)≤x0.Max))
 else
 if decide (x0.Kind=4)=true then
 g7y (x0,v.ID) >>=fun r_1=>
 some (bif x0.Open then(!plain)else false) >>=fun t85=>
 (if((!r_1.2) && t85)=true then gal v.ID else some false) >>=fun r_4=>
 some (bif r_1.2 then true else bif t85 then r_4 else false)
 else
 if decide (x0.Kind=5)=true then
 if(bif (!(decide ((v.Items.length:Int)=(x0.Members.length:Int))))then true else bif plain then decide (0 < (v.Rest.length:Int))else false)=true then
 some false
 else
 g2p (plain,v.Rest,(v.Rest.length:Int),0,s.Types,SValue.eta v,x0.Kind,x0.Name,x0.Low,x0.High,x0.Max,x0.Symbols,x0.Members,x0.Key,x0.Elem,x0.Open) >>=fun o=>
 match o with
 | .inl o_1=>
 some o_1
 | .inr o_2=>
 g35 (o_2.1,o_2.2.2.2.2.2.2.2.2.2.2.2.2.2.2.2.2.1,(o_2.2.2.2.2.2.2.2.2.2.2.2.2.2.2.2.2.1.length:Int),0,o_2.2.1,o_2.2.2.1,o_2.2.2.2.1,o_2.2.2.2.2.1,o_2.2.2.2.2.2.1,o_2.2.2.2.2.2.2.1,o_2.2.2.2.2.2.2.2.1,o_2.2.2.2.2.2.2.2.2.1,o_2.2.2.2.2.2.2.2.2.2.1) >>=fun o_3=>
 match o_3 with
 | .inl o_4=>
 some o_4
 | .inr o_5=>
 some true
 else
 if decide (x0.Kind=6)=true then
 g1r (x0,v.ID) >>=fun r_5=>
 if r_5.2=true then
 some (bif decide ((v.Items.length:Int)=1)then decide ((v.Rest.length:Int)=0)else false) >>=fun t188=>
 if(inR r_5.1 x0.Members.length || (!t188))=true then
 if(inR 0 v.Items.length || (!t188))=true then
 (if t188=true then g3f ((⟨s.Types⟩:SSchema),(x0.Members.getD r_5.1.toNat dSMember).Type_,SValue.eta (v.Items.getD (0:Int).toNat dSValue),plain)else some false) >>=fun r_8=>
 some (bif t188 then r_8 else false)
 else none
 else none
 else
 some (bif x0.Open then(!plain)else false) >>=fun t209=>
 (if t209=true then gal v.ID else some false) >>=fun r_9=>
 some (bif bif bif t209 then r_9 else false then decide ((v.Items.length:Int)=0)else false then decide ((v.Rest.length:Int)=1)else false) >>=fun t226=>
 if(inR 0 v.Rest.length || (!t226))=true then
 some (bif t226 then decide ((v.Rest.getD (0:Int).toNat dSRaw).ID=v.ID)else false)
 else none
 else
 if decide (x0.Kind=7)=true then
 some (decide ((v.Items.length:Int)≤x0.Max)) >>=fun t244=>
 (if t244=true then g5z ((⟨s.Types⟩:SSchema),x0.Elem,v.Items,plain)else some false) >>=fun r_10=>
 some (bif t244 then r_10 else false)
 else
 if decide (x0.Kind=8)=true then
 some (bif decide (x0.Max < (v.Keys.length:Int))then true else(!(decide ((v.Items.length:Int)=(v.Keys.length:Int))))) >>=fun t270=>
 (if(!t270)=true then g5z ((⟨s.Types⟩:SSchema),x0.Key,v.Keys,plain)else some false) >>=fun r_11=>
 if(bif t270 then true else(!r_11))=true then
 some false
 else
 g2e (plain,1,s.Types,SValue.eta v,x0.Kind,x0.Name,x0.Low,x0.High,x0.Max,x0.Symbols,x0.Members,x0.Key,x0.Elem,x0.Open) >>=fun o_6=>
 match o_6 with
 | .inl o_7=>
 some o_7
 | .inr o_8=>
 g5z ((⟨o_8.2.1⟩:SSchema),o_8.2.2.2.2.2.2.2.2.2.2.2.1,o_8.2.2.1.Items,o_8.1) >>=fun r_12=>
 some r_12
 else
 if decide (x0.Kind=9)=true then
 some (decide ((v.Items.length:Int)≤1)) >>=fun t313=>
 (if t313=true then g5z ((⟨s.Types⟩:SSchema),x0.Elem,v.Items,plain)else some false) >>=fun r_13=>
 some (bif t313 then r_13 else false)
 else
 some true
 else none
  partial_fixpoint
def g12(x_:List SValue × Int × Int × List SType × Int × Bool) :Option ((Int × List SType × Int × Bool) ⊕ (List SType × Int × Bool)):=
 match x_ with
 | (s_1,t7_1,t8,b_9,b_10,b_11)=>
 if decide (t8 < t7_1)=true then
 if inR t8 s_1.length=true then
 gdm (SValue.eta (s_1.getD t8.toNat dSValue),b_9,b_10,b_11) >>=fun r=>
 if r.1=true then
 some (.inl (t8,r.2.1,r.2.2.1,r.2.2.2))
 else
 g12 (s_1,t7_1,addI .i64 t8 1,r.2.1,r.2.2.1,r.2.2.2)
 else none
 else
 some (.inr (b_9,b_10,b_11))
  partial_fixpoint
def g35(x_:Bool × List SMember × Int × Int × List SType × Int × Bool × Int × List UInt8 × Int × List SValue × List SValue × List SRaw) :Option ((Bool) ⊕ (Unit)):=
 match x_ with
 | (plain_4,t150,t151_1,t152,b_43,b_44,b_45,b_46,b_47,b_48,b_49,b_50,b_51)=>
 if decide (t152 < t151_1)=true then
 if inR t152 t150.length=true then
 if inR t152 b_50.length=true then
 g3f ((⟨b_43⟩:SSchema),(t150.getD t152.toNat dSMember).Type_,SValue.eta (b_50.getD t152.toNat dSValue),plain_4) >>=fun r_18=>
 if(!r_18)=true then
 some (.inl false)
 else
 g35 (plain_4,t150,t151_1,addI .i64 t152 1,b_43,b_44,b_45,b_46,b_47,b_48,b_49,b_50,b_51)
 else none
 else none
 else
 some (.inr ())
  partial_fixpoint
end
theorem gw7 :KC e172:= .m (by kernel_rfl)
theorem gw8 :KC e194:= .m (by kernel_rfl)
theorem gw9 :KC e173:= .m (by kernel_rfl)
theorem e97_k :KC e97:= .m (by kernel_rfl)
theorem gwa :KC e141:= .m (by kernel_rfl)
theorem g7i :(∀h r,g2j h=some r→FD e172 h r)∧(∀h r,g3y h=some r→FD e194 h r)∧(∀h r,g12 h=some r→LD 194 3 [0] gj3 h r)∧(∀h r,gdm h=some r→FD e173 h r)∧(∀h r,g3f h=some r→FD e97 h r)∧(∀h r,g5z h=some r→FD e141 h r)∧(∀h r,g35 h=some r→LD 97 0 [1] e97_1 h r):=g2j.mutual_partial_correctness (FD e172) (FD e194) (LD 194 3 [0] gj3) (FD e173) (FD e97) (FD e141) (LD 97 0 [1] e97_1)
 (fun _ h1 _ _ h=>FA e172 gw7 (.k (FH e194 gw8 h1) .n) .n (.trans (by kernel_rfl) h))
 (fun _ h2 _ _ h=>FA e194 gw8 .n (.k (LH gj3 h2) .n) (.trans (by kernel_rfl) h))
 (fun _ _ h2 h3 _ _ h=>LA gj3 h2 (.k (FH e173 gw9 h3) .n) .n (.trans (by kernel_rfl) h))
 (fun _ h4 _ _ h=>FA e173 gw9 (.k (FH e97 e97_k h4) .n) .n (.trans (by kernel_rfl) h))
 (fun _ _ _ h4 h5 h6 _ _ h=>FA e97 e97_k (.k gnw (.k ge8 (.k gje (.k g4x (.k (FH e97 e97_k h4) (.k (FH e141 gwa h5) .n)))))) (.k gms (.k (LH e97_1 h6) (.k gmx .n))) (.trans (by kernel_rfl) h))
 (fun _ h0 _ _ h=>FA e141 gwa (.k (FH e172 gw7 h0) .n) .n (.trans (by kernel_rfl) h))
 (fun _ _ h4 h6 _ _ h=>LA e97_1 h6 (.k (FH e97 e97_k h4) .n) .n (.trans (by kernel_rfl) h))
theorem gjf :FC e97 g3f:= .of e97_k g7i.2.2.2.2.1
end
section
open Go Go.Proofs.YtandcioiaooocaaGreat.Shv
open Tryz
set_option maxRecDepth 100000
def g85(x_:SSchema × Int × SValue) :Option (Bool):=
 match x_ with
 | (s,t,v)=>
 g3f (s,t,SValue.eta v,true) >>=fun r=>
 some r
theorem e62_k :KC e62:= .m (by kernel_rfl)
theorem gpb :FC e62 g85:= .fn e62_k (.k gjf .n) .n fun _=>by kernel_rfl
def g5s(x_:SSchema × Int × SValue × SSchema × Int) :Option (Int):=
 match x_ with
 | (w,wt,v,r,rt)=>
 g5d (w,wt) >>=fun r_1=>
 if(!(decide (r_1=0)))=true then
 some r_1
 else
 g5d (r,rt) >>=fun r_2=>
 if(!(decide (r_2=0)))=true then
 some r_2
 else
 g85 (w,wt,SValue.eta v) >>=fun r_3=>
 if(!r_3)=true then
 some 1
 else
 some 0
theorem e37_k :KC e37:= .m (by kernel_rfl)
theorem geb :FC e37 g5s:= .fn e37_k (.k glh (.k gpb .n)) .n fun _=>by kernel_rfl
def g3k(x_:List SType × List SType × List Int × List Int) :Option (SValue × Bool × List SType × List SType × List Int × List Int):=
 match x_ with
 | (b,b_1,b_2,b_3)=>
 gqe 8 b_3 >>=fun r=>
 if(decide (r.1.length=b_3.length) && true)=true then
 some ((⟨0,false,0,[],0,[],[],[]⟩:SValue),false,b,b_1,r.1,r.2)
 else none
theorem e63_k :KC e63:= .m (by kernel_rfl)
theorem gas :FC e63 g3k:= .fn e63_k (.k g6r .n) .n fun _=>by kernel_rfl
def g6f(x_:Int × List SType × List SType × List Int × List Int) :Option (SValue × Bool × List SType × List SType × List Int × List Int):=
 match x_ with
 | (id,b,b_1,b_2,b_3)=>
 gqe 8 b_3 >>=fun r=>
 if(decide (r.1.length=b_3.length) && true)=true then
 some [id] >>=fun t13=>
 if room 8 (r.2++t13).length=true then
 some ((⟨0,false,0,[],0,[],[],[]⟩:SValue),false,b,b_1,r.1,r.2++t13)
 else none
 else none
theorem g10n :KC e102:= .m (by kernel_rfl)
theorem g9x :FC e102 g6f:= .fn g10n (.k g6r .n) .n fun _=>by kernel_rfl
mutual
def g64(v:SValue) :Option (SValue):=
 gad 120 v.Keys >>=fun r=>
 gad 120 v.Items >>=fun r_1=>
 gad 24 v.Rest >>=fun r_2=>
 g96 ((r.length:Int),0,v.Kind,v.Bool_,v.Int_,v.Str,v.ID,0,false,0,[],0,r,r_1,r_2) >>=fun o=>
 g97 ((o.2.2.2.2.2.2.2.2.2.2.2.1.length:Int),0,o.1,o.2.1,o.2.2.1,o.2.2.2.1,o.2.2.2.2.1,o.2.2.2.2.2.1,o.2.2.2.2.2.2.1,o.2.2.2.2.2.2.2.1,o.2.2.2.2.2.2.2.2.1,o.2.2.2.2.2.2.2.2.2.1,o.2.2.2.2.2.2.2.2.2.2.2.1,o.2.2.2.2.2.2.2.2.2.2.1,o.2.2.2.2.2.2.2.2.2.2.2.2) >>=fun o_1=>
 some (⟨o_1.1,o_1.2.1,o_1.2.2.1,o_1.2.2.2.1,o_1.2.2.2.2.1,o_1.2.2.2.2.2.2.2.2.2.2.1,o_1.2.2.2.2.2.2.2.2.2.2.2.1,o_1.2.2.2.2.2.2.2.2.2.2.2.2⟩:SValue)
  partial_fixpoint
def g96(x_:Int × Int × Int × Bool × Int × List UInt8 × Int × Int × Bool × Int × List UInt8 × Int × List SValue × List SValue × List SRaw) :Option (Int × Bool × Int × List UInt8 × Int × Int × Bool × Int × List UInt8 × Int × List SValue × List SValue × List SRaw):=
 match x_ with
 | (t21_1,t22,b_26,b_27,b_28,b_29,b_30,b_31,b_32,b_33,b_34,b_35,b_36,b_37,b_38)=>
 if decide (t22 < t21_1)=true then
 if inR t22 b_36.length=true then
 if decide (t22.toNat < b_36.length)=true then
 g64 (SValue.eta (b_36.getD t22.toNat dSValue)) >>=fun r_3=>
 if inR t22 b_36.length=true then
 if decide (t22.toNat < b_36.length)=true then
 g96 (t21_1,addI .i64 t22 1,b_26,b_27,b_28,b_29,b_30,b_31,b_32,b_33,b_34,b_35,b_36.set t22.toNat (SValue.eta r_3),b_37,b_38)
 else none
 else none
 else none
 else none
 else
 some (b_26,b_27,b_28,b_29,b_30,b_31,b_32,b_33,b_34,b_35,b_36,b_37,b_38)
  partial_fixpoint
def g97(x_:Int × Int × Int × Bool × Int × List UInt8 × Int × Int × Bool × Int × List UInt8 × Int × List SValue × List SValue × List SRaw) :Option (Int × Bool × Int × List UInt8 × Int × Int × Bool × Int × List UInt8 × Int × List SValue × List SValue × List SRaw):=
 match x_ with
 | (t36_1,t37,b_39,b_40,b_41,b_42,b_43,b_44,b_45,b_46,b_47,b_48,b_49,b_50,b_51)=>
 if decide (t37 < t36_1)=true then
 if inR t37 b_49.length=true then
 if decide (t37.toNat < b_49.length)=true then
 g64 (SValue.eta (b_49.getD t37.toNat dSValue)) >>=fun r_4=>
 if inR t37 b_49.length=true then
 if decide (t37.toNat < b_49.length)=true then
 g97 (t36_1,addI .i64 t37 1,b_39,b_40,b_41,b_42,b_43,b_44,b_45,b_46,b_47,b_48,b_49.set t37.toNat (SValue.eta r_4),b_50,b_51)
 else none
 else none
 else none
 else none
 else
 some (b_39,b_40,b_41,b_42,b_43,b_44,b_45,b_46,b_47,b_48,b_50,b_49,b_51)
  partial_fixpoint
end
theorem gmy :KC e103:= .m (by kernel_rfl)
theorem gjg :(∀h r,g64 h=some r→FD e103 h r)∧(∀h r,g97 h=some r→LD 103 0 [1] gj5 h r)∧(∀h r,g96 h=some r→LD 103 0 [0] gj4 h r):=g64.mutual_partial_correctness (FD e103) (LD 103 0 [1] gj5) (LD 103 0 [0] gj4)
 (fun _ _ h1 h2 _ _ h=>FA e103 gmy (.k g8n (.k g8o .n)) (.k (LH gj4 h2) (.k (LH gj5 h1) .n)) (.trans (by kernel_rfl) h))
 (fun _ _ h0 h1 _ _ h=>LA gj5 h1 (.k (FH e103 gmy h0) .n) .n (.trans (by kernel_rfl) h))
 (fun _ _ h0 h2 _ _ h=>LA gj4 h2 (.k (FH e103 gmy h0) .n) .n (.trans (by kernel_rfl) h))
theorem gli :FC e103 g64:= .of gmy gjg.1
mutual
def gx(x_:List SValue × List SValue) :Option (Bool):=
 match x_ with
 | (s1,s2)=>
 if(!(decide ((s1.length:Int)=(s2.length:Int))))=true then
 some false
 else
 gt (s2,s1,(s1.length:Int),0) >>=fun o=>
 match o with
 | .inl o_1=>
 some o_1
 | .inr o_2=>
 some true
  partial_fixpoint
def g5g(x_:SValue × SValue) :Option (Bool):=
 match x_ with
 | (a,b)=>
 some (bif bif bif bif decide (a.Kind=b.Kind)then eqB a.Bool_ b.Bool_ else false then decide (a.Int_=b.Int_)else false then decide (a.Str=b.Str)else false then decide (a.ID=b.ID)else false) >>=fun t37=>
 (if t37=true then g1m (a.Rest,b.Rest)else some false) >>=fun r=>
 some (bif t37 then r else false) >>=fun t44=>
 (if t44=true then gx (a.Keys,b.Keys)else some false) >>=fun r_1=>
 some (bif t44 then r_1 else false) >>=fun t51=>
 (if t51=true then gx (a.Items,b.Items)else some false) >>=fun r_2=>
 some (bif t51 then r_2 else false)
  partial_fixpoint
def gt(x_:List SValue × List SValue × Int × Int) :Option ((Bool) ⊕ (Unit)):=
 match x_ with
 | (s2_1,t15,t16_1,t17)=>
 if decide (t17 < t16_1)=true then
 if inR t17 t15.length=true then
 if inR t17 s2_1.length=true then
 g5g (SValue.eta (t15.getD t17.toNat dSValue),SValue.eta (s2_1.getD t17.toNat dSValue)) >>=fun r=>
 if(!r)=true then
 some (.inl false)
 else
 gt (s2_1,t15,t16_1,addI .i64 t17 1)
 else none
 else none
 else
 some (.inr ())
  partial_fixpoint
end
theorem gsi :KC e82_b:= .m (by kernel_rfl)
theorem e45_k :KC e45:= .m (by kernel_rfl)
theorem g4u :(∀h r,gx h=some r→FD e82_b h r)∧(∀h r,gt h=some r→LD 82 0 [0] gfn h r)∧(∀h r,g5g h=some r→FD e45 h r):=gx.mutual_partial_correctness (FD e82_b) (LD 82 0 [0] gfn) (FD e45)
 (fun _ h1 _ _ h=>FA e82_b gsi .n (.k (LH gfn h1) .n) (.trans (by kernel_rfl) h))
 (fun _ _ h1 h2 _ _ h=>LA gfn h1 (.k (FH e45 e45_k h2) .n) .n (.trans (by kernel_rfl) h))
 (fun _ h0 _ _ h=>FA e45 e45_k (.k g51 (.k (FH e82_b gsi h0) .n)) .n (.trans (by kernel_rfl) h))
theorem ghl :FC e45 g5g:= .of e45_k g4u.2.2
def g44(x_:SMember × SValue) :Option (Bool):=
 match x_ with
 | (m,item)=>
 (if m.HasDefault=true then g5g (SValue.eta item,SValue.eta m.Default)else some false) >>=fun r=>
 some (bif m.HasDefault then r else false)
theorem g10o :KC e105:= .m (by kernel_rfl)
theorem g87 :FC e105 g44:= .fn g10o (.k ghl .n) .n fun _=>by kernel_rfl
def gfz(x_:SSchema × Int) :Option (Int):=
 match x_ with
 | (s,t)=>
 g7f (⟨s.Types⟩:SSchema) >>=fun r=>
 if(!(decide (r=0)))=true then
 some r
 else
 if(bif decide (t < 0)then true else decide ((s.Types.length:Int)≤t))=true then
 some 4
 else
 some 0
theorem g10p :KC e199:= .m (by kernel_rfl)
theorem glj :FC e199 gfz:= .fn g10p (.k gfy .n) .n fun _=>by kernel_rfl
def gmz(x_:SSchema × Int × SValue) :Option (Bool):=
 match x_ with
 | (s,t,v)=>
 g3f ((⟨s.Types⟩:SSchema),t,SValue.eta v,false) >>=fun r=>
 some r
theorem g10q :KC e200:= .m (by kernel_rfl)
theorem gqo :FC e200 gmz:= .fn g10q (.k gjf .n) .n fun _=>by kernel_rfl
def gg0(x_:SSchema × Int × SValue) :Option (Int):=
 match x_ with
 | (s,t,v)=>
 gfz ((⟨s.Types⟩:SSchema),t) >>=fun r=>
 if(!(decide (r=0)))=true then
 some r
 else
 gmz ((⟨s.Types⟩:SSchema),t,SValue.eta v) >>=fun r_1=>
 if(!r_1)=true then
 some 1
 else
 some 0
theorem g10r :KC e180:= .m (by kernel_rfl)
theorem glk :FC e180 gg0:= .fn g10r (.k glj (.k gqo .n)) .n fun _=>by kernel_rfl
end
section
open Go Go.Proofs.YtandcioiaooocaaGreat.Shv
open Tryz
set_option maxRecDepth 100000
def g9n(x_:Int × Int × List Int) :Option (Int × Int × List Int):=
 match x_ with
 | (n_2,i_1,b_1)=>
 if decide (128≤n_2)=true then
 if inR i_1 10=true then
 if decide (i_1.toNat < b_1.length)=true then
 g9n (shrI .u64 n_2 7,addI .i64 i_1 1,b_1.set i_1.toNat (orI .u8 (wrp .u8 n_2) 128))
 else none
 else none
 else
 some (n_2,i_1,b_1)
  partial_fixpoint
theorem gn0 :LC 148 0 [0] gw0 g9n:= .rc g9n.partial_correctness .n .n fun _ _=>by kernel_rfl
def g7r(n:Int) :Option (List UInt8):=
 g9n (n,0,[0,0,0,0,0,0,0,0,0,0]) >>=fun o=>
 if inR o.2.1 10=true then
 if decide (o.2.1.toNat < o.2.2.length)=true then
 some (o.2.2.set o.2.1.toNat (wrp .u8 o.1)) >>=fun l_1=>
 some (addI .i64 o.2.1 1) >>=fun t21=>
 if slR 0 t21 10=true then
 if subR (0:Int).toNat t21.toNat l_1.length=true then
 some (strOf ((l_1.drop (0:Int).toNat).take t21.toNat))
 else none
 else none
 else none
 else none
theorem g10s :KC e148:= .m (by kernel_rfl)
theorem g8r :FC e148 g7r:= .fn g10s .n (.k gn0 .n) fun _=>by kernel_rfl
def g7j(p:List UInt8) :Option (List UInt8):=
 g7r (wrp .u64 (p.length:Int)) >>=fun r=>
 if decide (r.length+p.length≤g2l)=true then
 some (r++p)
 else none
theorem g10t :KC e198:= .m (by kernel_rfl)
theorem gg1 :FC e198 g7j:= .fn g10t (.k g8r .n) .n fun _=>by kernel_rfl
def g3d(x_:List UInt8 × List UInt8) :Option (Int × List UInt8):=
 match x_ with
 | (s,b)=>
 some b >>=fun r=>
 if(decide (r.length=b.length) && true)=true then
 if room 1 (r.length+s.length)=true then
 some ((s.length:Int),catS r s)
 else none
 else none
theorem g10u :KC e204:= .m (by kernel_rfl)
theorem g73 :FC e204 g3d:= .fn g10u (.k gae .n) .n fun _=>by kernel_rfl
def gan(x_:Int × Bool × List UInt8) :Option (List UInt8):=
 match x_ with
 | (id,critical,p)=>
 some (mulI .u64 2 (wrp .u64 id)) >>=fun t10=>
 if critical=true then
 g7r (addI .u64 t10 1) >>=fun r=>
 g7j p >>=fun r_1=>
 if decide (r.length+r_1.length≤g2l)=true then
 some (r++r_1)
 else none
 else
 g7r t10 >>=fun r_2=>
 g7j p >>=fun r_3=>
 if decide (r_2.length+r_3.length≤g2l)=true then
 some (r_2++r_3)
 else none
theorem g10v :KC e179:= .m (by kernel_rfl)
theorem gbc :FC e179 gan:= .fn g10v (.k g8r (.k gg1 .n)) .n fun _=>by kernel_rfl
def gg2(x_:SMember × SValue) :Option (Bool):=
 match x_ with
 | (m,v)=>
 (if m.HasDefault=true then g5g (SValue.eta m.Default,SValue.eta v)else some false) >>=fun r=>
 some (bif m.HasDefault then r else false)
theorem g10w :KC e207:= .m (by kernel_rfl)
theorem gll :FC e207 gg2:= .fn g10w (.k ghl .n) .n fun _=>by kernel_rfl
def g52(x_:List SRaw × Int × Int × List SType × Int × List EncodeEntry) :Option (List SType × Int × List EncodeEntry):=
 match x_ with
 | (t57,t58_1,t59,b_16,b_17,b_18)=>
 if decide (t59 < t58_1)=true then
 if inR t59 t57.length=true then
 some (t57.getD t59.toNat dSRaw) >>=fun x0_4=>
 gan (x0_4.ID,false,x0_4.Data) >>=fun r_8=>
 some [(⟨x0_4.ID,r_8⟩:EncodeEntry)] >>=fun t72=>
 if room 24 (b_18++t72).length=true then
 g52 (t57,t58_1,addI .i64 t59 1,b_16,b_17,b_18++t72)
 else none
 else none
 else
 some (b_16,b_17,b_18)
  partial_fixpoint
theorem gch :LC 202 1 [1] gw2 g52:= .rc g52.partial_correctness (.k gbc .n) .n fun _ _=>by kernel_rfl
def g53(x_:Int × Int × List SType × Int × List EncodeEntry × List UInt8) :Option (List SType × Int × List UInt8):=
 match x_ with
 | (t78_1,t79,b_19,b_20,b_21,b_22)=>
 if decide (t79 < t78_1)=true then
 if inR t79 b_21.length=true then
 if decide (t79.toNat < b_21.length)=true then
 g3d ((b_21.getD t79.toNat dEncodeEntry).text,b_22) >>=fun r_9=>
 g53 (t78_1,addI .i64 t79 1,b_19,b_20,b_21,r_9.2)
 else none
 else none
 else
 some (b_19,b_20,b_22)
  partial_fixpoint
theorem gci :LC 202 1 [2] gw3 g53:= .rc g53.partial_correctness (.k g73 .n) .n fun _ _=>by kernel_rfl
def g71(b:List UInt8) :Option (List UInt8):=
 if eqI (b.length:Int) (b.length:Int)=true then
 some b
 else none
theorem g10x :KC e205:= .m (by kernel_rfl)
theorem g8s :FC e205 g71:= .fn g10x .n .n fun _=>by kernel_rfl
def g9o(x_:Int × Int × List Int) :Option (Int × List Int):=
 match x_ with
 | (n_1,i_1,b_1)=>
 if decide (0 < n_1)=true then
 some (subI .i64 i_1 1) >>=fun t10=>
 if inR t10 8=true then
 if decide (t10.toNat < b_1.length)=true then
 g9o (shrI .u64 n_1 8,t10,b_1.set t10.toNat (wrp .u8 n_1))
 else none
 else none
 else
 some (i_1,b_1)
  partial_fixpoint
theorem gn1 :LC 201 0 [0] gw1 g9o:= .rc g9o.partial_correctness .n .n fun _ _=>by kernel_rfl
def gh7(n:Int) :Option (List UInt8):=
 g9o (n,8,[0,0,0,0,0,0,0,0]) >>=fun o=>
 if slR o.1 8 8=true then
 if subR o.1.toNat ((8:Int).toNat - o.1.toNat) o.2.length=true then
 some (strOf ((o.2.drop o.1.toNat).take ((8:Int).toNat - o.1.toNat)))
 else none
 else none
theorem g10y :KC e201:= .m (by kernel_rfl)
theorem gqp :FC e201 gh7:= .fn g10y .n (.k gn1 .n) fun _=>by kernel_rfl
mutual
def g1u(x_:Int × SValue × Int × List SType × Int) :Option (List UInt8 × List SType × Int):=
 match x_ with
 | (t,v,level,b,b_1)=>
 some (maxI b_1 level) >>=fun t19=>
 if inR t b.length=true then
 some (b.getD t.toNat dSType) >>=fun x0=>
 if decide (x0.Kind=1)=true then
 if v.Bool_=true then
 some ([1],b,t19)
 else
 some ([],b,t19)
 else
 if decide (x0.Kind=2)=true then
 g6i v.Int_ >>=fun r=>
 gh7 r >>=fun r_1=>
 some (r_1,b,t19)
 else
 if decide (x0.Kind=3)=true then
 some (v.Str,b,t19)
 else
 if decide (x0.Kind=4)=true then
 gh7 (wrp .u64 v.ID) >>=fun r_2=>
 some (r_2,b,t19)
 else
 if decide (x0.Kind=5)=true then
 gao (x0,SValue.eta v,level,b,t19) >>=fun r_3=>
 some (r_3.1,r_3.2.1,r_3.2.2)
 else
 if decide (x0.Kind=6)=true then
 gat (x0,SValue.eta v,level,b,t19) >>=fun r_7=>
 some (r_7.1,r_7.2.1,r_7.2.2)
 else
 if decide (x0.Kind=9)=true then
 if decide ((v.Items.length:Int)=0)=true then
 some ([],b,t19)
 else
 if inR 0 v.Items.length=true then
 g1u (x0.Elem,SValue.eta (v.Items.getD (0:Int).toNat dSValue),addI .i64 level 1,b,t19) >>=fun r_11=>
 if decide ([1].length+r_11.1.length≤g2l)=true then
 some ([1]++r_11.1,r_11.2.1,r_11.2.2)
 else none
 else none
 else
 g4y (level,v.Items,(v.Items.length:Int),0,b,t19,SValue.eta v,x0,[]) >>=fun o=>
 g71 o.2.2 >>=fun r_15=>
 some (r_15,o.1,o.2.1)
 else none
  partial_fixpoint
def gao(x_:SType × SValue × Int × List SType × Int) :Option (List UInt8 × List SType × Int):=
 match x_ with
 | (x0,v,level,b,b_1)=>
 g54 (level,x0.Members,(x0.Members.length:Int),0,b,b_1,SValue.eta v,[]) >>=fun o=>
 g52 (o.2.2.1.Rest,(o.2.2.1.Rest.length:Int),0,o.1,o.2.1,o.2.2.2) >>=fun o_1=>
 gju o_1.2.2 >>=fun r=>
 if(decide (r.length=o_1.2.2.length) && true)=true then
 g53 ((r.length:Int),0,o_1.1,o_1.2.1,r,[]) >>=fun o_2=>
 g71 o_2.2.2 >>=fun r_1=>
 some (r_1,o_2.1,o_2.2.1)
 else none
  partial_fixpoint
def gat(x_:SType × SValue × Int × List SType × Int) :Option (List UInt8 × List SType × Int):=
 match x_ with
 | (x0,v,level,b,b_1)=>
 g7r (wrp .u64 v.ID) >>=fun r=>
 g1r (x0,v.ID) >>=fun r_1=>
 if(!r_1.2)=true then
 if inR 0 v.Rest.length=true then
 some (v.Rest.getD (0:Int).toNat dSRaw) >>=fun x0_1=>
 if decide (r.length+x0_1.Data.length≤g2l)=true then
 some (r++x0_1.Data,b,b_1)
 else none
 else none
 else
 if inR r_1.1 x0.Members.length=true then
 if inR 0 v.Items.length=true then
 g1u ((x0.Members.getD r_1.1.toNat dSMember).Type_,SValue.eta (v.Items.getD (0:Int).toNat dSValue),addI .i64 level 1,b,b_1) >>=fun r_4=>
 if decide (r.length+r_4.1.length≤g2l)=true then
 some (r++r_4.1,r_4.2.1,r_4.2.2)
 else none
 else none
 else none
  partial_fixpoint
def g4y(x_:Int × List SValue × Int × Int × List SType × Int × SValue × SType × List UInt8) :Option (List SType × Int × List UInt8):=
 match x_ with
 | (level_1,t84,t85_1,t86,b_5,b_6,b_7,b_8,b_9)=>
 if decide (t86 < t85_1)=true then
 if inR t86 t84.length=true then
 some (t84.getD t86.toNat dSValue) >>=fun x0_2=>
 if decide (b_8.Kind=8)=true then
 if inR t86 b_7.Keys.length=true then
 g1u (b_8.Key,SValue.eta (b_7.Keys.getD t86.toNat dSValue),addI .i64 level_1 1,b_5,b_6) >>=fun r_16=>
 g7j r_16.1 >>=fun r_20=>
 g3d (r_20,b_9) >>=fun r_21=>
 g1u (b_8.Elem,SValue.eta x0_2,addI .i64 level_1 1,r_16.2.1,r_16.2.2) >>=fun r_24=>
 g7j r_24.1 >>=fun r_28=>
 g3d (r_28,r_21.2) >>=fun r_29=>
 g4y (level_1,t84,t85_1,addI .i64 t86 1,r_24.2.1,r_24.2.2,SValue.eta b_7,b_8,r_29.2)
 else none
 else
 g1u (b_8.Elem,SValue.eta x0_2,addI .i64 level_1 1,b_5,b_6) >>=fun r_32=>
 g7j r_32.1 >>=fun r_36=>
 g3d (r_36,b_9) >>=fun r_37=>
 g4y (level_1,t84,t85_1,addI .i64 t86 1,r_32.2.1,r_32.2.2,SValue.eta b_7,b_8,r_37.2)
 else none
 else
 some (b_5,b_6,b_9)
  partial_fixpoint
def g54(x_:Int × List SMember × Int × Int × List SType × Int × SValue × List EncodeEntry) :Option (List SType × Int × SValue × List EncodeEntry):=
 match x_ with
 | (level_1,t18,t19_1,t20,b_12,b_13,b_14,b_15)=>
 if decide (t20 < t19_1)=true then
 if inR t20 t18.length=true then
 some (t18.getD t20.toNat dSMember) >>=fun x0_1=>
 if inR t20 b_14.Items.length=true then
 gg2 ((⟨x0_1.ID,x0_1.Name,x0_1.Type_,x0_1.Critical,x0_1.HasDefault,SValue.eta x0_1.Default⟩:SMember),SValue.eta (b_14.Items.getD t20.toNat dSValue)) >>=fun r_2=>
 if(!r_2)=true then
 if inR t20 b_14.Items.length=true then
 g1u (x0_1.Type_,SValue.eta (b_14.Items.getD t20.toNat dSValue),addI .i64 level_1 1,b_12,b_13) >>=fun r_3=>
 gan (x0_1.ID,x0_1.Critical,r_3.1) >>=fun r_7=>
 some [(⟨x0_1.ID,r_7⟩:EncodeEntry)] >>=fun t53=>
 if room 24 (b_15++t53).length=true then
 g54 (level_1,t18,t19_1,addI .i64 t20 1,r_3.2.1,r_3.2.2,SValue.eta b_14,b_15++t53)
 else none
 else none
 else
 g54 (level_1,t18,t19_1,addI .i64 t20 1,b_12,b_13,SValue.eta b_14,b_15)
 else none
 else none
 else
 some (b_12,b_13,SValue.eta b_14,b_15)
  partial_fixpoint
end
theorem gg3 :KC e181:= .m (by kernel_rfl)
theorem gwb :KC e203:= .m (by kernel_rfl)
theorem gwc :KC e202:= .m (by kernel_rfl)
theorem gcj :(∀h r,g1u h=some r→FD e181 h r)∧(∀h r,g4y h=some r→LD 181 1 [0] gj7 h r)∧(∀h r,gat h=some r→FD e203 h r)∧(∀h r,gao h=some r→FD e202 h r)∧(∀h r,g54 h=some r→LD 202 1 [0] gj6 h r):=g1u.mutual_partial_correctness (FD e181) (LD 181 1 [0] gj7) (FD e203) (FD e202) (LD 202 1 [0] gj6)
 (fun _ _ _ _ h0 h1 h2 h3 _ _ h=>FA e181 gg3 (.k gea (.k gqp (.k (FH e202 gwc h3) (.k (FH e203 gwb h2) (.k (FH e181 gg3 h0) (.k g8s .n)))))) (.k (LH gj7 h1) .n) (.trans (by kernel_rfl) h))
 (fun _ _ h0 h1 _ _ h=>LA gj7 h1 (.k (FH e181 gg3 h0) (.k gg1 (.k g73 .n))) .n (.trans (by kernel_rfl) h))
 (fun _ h0 _ _ h=>FA e203 gwb (.k g8r (.k g4x (.k (FH e181 gg3 h0) .n))) .n (.trans (by kernel_rfl) h))
 (fun _ h4 _ _ h=>FA e202 gwc (.k gba (.k g8s .n)) (.k (LH gj6 h4) (.k gch (.k gci .n))) (.trans (by kernel_rfl) h))
 (fun _ _ h0 h4 _ _ h=>LA gj6 h4 (.k gll (.k (FH e181 gg3 h0) (.k gbc .n))) .n (.trans (by kernel_rfl) h))
theorem gdw :FC e181 g1u:= .of gg3 gcj.1
end
section
open Go Go.Proofs.YtandcioiaooocaaGreat.Shv
open Tryz
set_option maxRecDepth 100000
def gc0(x_:SSchema × Int × SValue) :Option (List UInt8 × Int):=
 match x_ with
 | (s,t,v)=>
 gg0 ((⟨s.Types⟩:SSchema),t,SValue.eta v) >>=fun r=>
 if(!(decide (r=0)))=true then
 some ([],r)
 else
 g1u (t,SValue.eta v,1,s.Types,0) >>=fun r_1=>
 if(bif decide (4096 < (r_1.1.length:Int))then true else decide (200 < r_1.2.2))=true then
 some ([],3)
 else
 some (r_1.1,0)
theorem g10z :KC e150:= .m (by kernel_rfl)
theorem gn2 :FC e150 gc0:= .fn g10z (.k glk (.k gdw .n)) .n fun _=>by kernel_rfl
def gjh(x_:Int × Bool × List UInt8) :Option (List UInt8 × Int):=
 match x_ with
 | (id,critical,payload)=>
 if(bif decide (id < 1)then true else decide (1000 < id))=true then
 some ([],7)
 else
 if decide (4096 < (payload.length:Int))=true then
 some ([],3)
 else
 gan (id,critical,payload) >>=fun r=>
 some (r,0)
theorem g110 :KC e147:= .m (by kernel_rfl)
theorem gnx :FC e147 gjh:= .fn g110 (.k gbc .n) .n fun _=>by kernel_rfl
def g9p(p:List UInt8) :Option (List UInt8):=
 g7r (wrp .u64 (p.length:Int)) >>=fun r=>
 if decide (r.length+p.length≤g2l)=true then
 some (r++p)
 else none
theorem g111 :KC e149:= .m (by kernel_rfl)
theorem gn3 :FC e149 g9p:= .fn g111 (.k g8r .n) .n fun _=>by kernel_rfl
mutual
def g2w(x_:SSchema × Int × SValue) :Option (List UInt8):=
 match x_ with
 | (s,t,v)=>
 if inR t s.Types.length=true then
 some (s.Types.getD t.toNat dSType) >>=fun x0=>
 if decide (x0.Kind=5)=true then
 g6u ([],x0.Members,(x0.Members.length:Int),0,s.Types,SValue.eta v) >>=fun o=>
 some o
 else
 if decide (x0.Kind=6)=true then
 g1r (x0,v.ID) >>=fun r=>
 g7r (wrp .u64 v.ID) >>=fun r_3=>
 if inR r.1 x0.Members.length=true then
 if inR 0 v.Items.length=true then
 g2w (s,(x0.Members.getD r.1.toNat dSMember).Type_,SValue.eta (v.Items.getD (0:Int).toNat dSValue)) >>=fun r_4=>
 if decide (r_3.length+r_4.length≤g2l)=true then
 some (r_3++r_4)
 else none
 else none
 else none
 else
 if decide (x0.Kind=9)=true then
 g8t ([],v.Items,(v.Items.length:Int),0,s.Types,x0) >>=fun o_1=>
 some o_1
 else
 some (decide (x0.Kind=7)) >>=fun t115=>
 if t115=true then
 if t115=true then
 g5n ([],v.Items,(v.Items.length:Int),0,s.Types,SValue.eta v,x0) >>=fun o_2=>
 some o_2
 else
 gc0 (s,t,SValue.eta v) >>=fun r_5=>
 some r_5.1
 else
 if decide (x0.Kind=8)=true then
 g5n ([],v.Items,(v.Items.length:Int),0,s.Types,SValue.eta v,x0) >>=fun o_3=>
 some o_3
 else
 gc0 (s,t,SValue.eta v) >>=fun r_8=>
 some r_8.1
 else none
  partial_fixpoint
def g6u(x_:List UInt8 × List SMember × Int × Int × List SType × SValue) :Option (List UInt8):=
 match x_ with
 | (out_4,t36,t37_1,t38,b,b_1)=>
 if decide (t38 < t37_1)=true then
 if inR t38 t36.length=true then
 some (t36.getD t38.toNat dSMember) >>=fun x0_3=>
 if inR t38 b_1.Items.length=true then
 g44 ((⟨x0_3.ID,x0_3.Name,x0_3.Type_,x0_3.Critical,x0_3.HasDefault,SValue.eta x0_3.Default⟩:SMember),SValue.eta (b_1.Items.getD t38.toNat dSValue)) >>=fun r_11=>
 if(!r_11)=true then
 if inR t38 b_1.Items.length=true then
 g2w ((⟨b⟩:SSchema),x0_3.Type_,SValue.eta (b_1.Items.getD t38.toNat dSValue)) >>=fun r_12=>
 gjh (x0_3.ID,x0_3.Critical,r_12) >>=fun r_13=>
 if decide (out_4.length+r_13.1.length≤g2l)=true then
 g6u (out_4++r_13.1,t36,t37_1,addI .i64 t38 1,b,SValue.eta b_1)
 else none
 else none
 else
 g6u (out_4,t36,t37_1,addI .i64 t38 1,b,SValue.eta b_1)
 else none
 else none
 else
 some out_4
  partial_fixpoint
def g8t(x_:List UInt8 × List SValue × Int × Int × List SType × SType) :Option (List UInt8):=
 match x_ with
 | (out_5,t101,t102_1,t103,b_2,b_3)=>
 if decide (t103 < t102_1)=true then
 if inR t103 t101.length=true then
 g2w ((⟨b_2⟩:SSchema),b_3.Elem,SValue.eta (t101.getD t103.toNat dSValue)) >>=fun r_16=>
 if decide ([1].length+r_16.length≤g2l)=true then
 g8t ([1]++r_16,t101,t102_1,addI .i64 t103 1,b_2,b_3)
 else none
 else none
 else
 some out_5
  partial_fixpoint
def g5n(x_:List UInt8 × List SValue × Int × Int × List SType × SValue × SType) :Option (List UInt8):=
 match x_ with
 | (out_6,t118,t119_2,t120,b_4,b_5,b_6)=>
 if decide (t120 < t119_2)=true then
 if inR t120 t118.length=true then
 some (t118.getD t120.toNat dSValue) >>=fun x0_7=>
 if decide (b_6.Kind=8)=true then
 if inR t120 b_5.Keys.length=true then
 g2w ((⟨b_4⟩:SSchema),b_6.Key,SValue.eta (b_5.Keys.getD t120.toNat dSValue)) >>=fun r_17=>
 g9p r_17 >>=fun r_18=>
 if decide (out_6.length+r_18.length≤g2l)=true then
 some (out_6++r_18) >>=fun t139=>
 g2w ((⟨b_4⟩:SSchema),b_6.Elem,SValue.eta x0_7) >>=fun r_19=>
 g9p r_19 >>=fun r_20=>
 if decide (t139.length+r_20.length≤g2l)=true then
 g5n (t139++r_20,t118,t119_2,addI .i64 t120 1,b_4,SValue.eta b_5,b_6)
 else none
 else none
 else none
 else
 g2w ((⟨b_4⟩:SSchema),b_6.Elem,SValue.eta x0_7) >>=fun r_21=>
 g9p r_21 >>=fun r_22=>
 if decide (out_6.length+r_22.length≤g2l)=true then
 g5n (out_6++r_22,t118,t119_2,addI .i64 t120 1,b_4,SValue.eta b_5,b_6)
 else none
 else none
 else
 some out_6
  partial_fixpoint
end
theorem gg4 :KC e106:= .m (by kernel_rfl)
theorem ghz :(∀h r,g2w h=some r→FD e106 h r)∧(∀h r,g5n h=some r→LD 106 0 [2] gja h r)∧(∀h r,g8t h=some r→LD 106 0 [1] gj9 h r)∧(∀h r,g6u h=some r→LD 106 0 [0] gj8 h r):=g2w.mutual_partial_correctness (FD e106) (LD 106 0 [2] gja) (LD 106 0 [1] gj9) (LD 106 0 [0] gj8)
 (fun _ _ _ _ h0 h1 h2 h3 _ _ h=>FA e106 gg4 (.k g4x (.k g8r (.k (FH e106 gg4 h0) (.k gn2 .n)))) (.k (LH gj8 h3) (.k (LH gj9 h2) (.k (LH gja h1) .n))) (.trans (by kernel_rfl) h))
 (fun _ _ h0 h1 _ _ h=>LA gja h1 (.k (FH e106 gg4 h0) (.k gn3 .n)) .n (.trans (by kernel_rfl) h))
 (fun _ _ h0 h2 _ _ h=>LA gj9 h2 (.k (FH e106 gg4 h0) .n) .n (.trans (by kernel_rfl) h))
 (fun _ _ h0 h3 _ _ h=>LA gj8 h3 (.k g87 (.k (FH e106 gg4 h0) (.k gnx .n))) .n (.trans (by kernel_rfl) h))
theorem gc7 :FC e106 g2w:= .of gg4 ghz.1
def g1n(x_:List SMember × Int × Int × List SType × List SType × List Int × SValue × SType × Int × Bool × Int × List UInt8 × Int × Int × Bool × Int × List UInt8 × Int × List Int × List SValue × List SRaw) :Option ((Bool × List SType × List SType × SValue × List Int × List Int) ⊕ (List SType × List SType × List Int × Int × Bool × Int × List UInt8 × Int × Int × Bool × Int × List UInt8 × Int × List Int × List SValue × List SRaw)):=
 match x_ with
 | (t115,t116_1,t117,b_66,b_67,b_68,b_69,b_70,b_71,b_72,b_73,b_74,b_75,b_76,b_77,b_78,b_79,b_80,b_81,b_82,b_83)=>
 if decide (t117 < t116_1)=true then
 if inR t117 t115.length=true then
 some (t115.getD t117.toNat dSMember) >>=fun x0_6=>
 g1r (b_70,x0_6.ID) >>=fun r_27=>
 if r_27.2=true then
 g1n (t115,t116_1,addI .i64 t117 1,b_66,b_67,b_68,SValue.eta b_69,b_70,b_71,b_72,b_73,b_74,b_75,b_76,b_77,b_78,b_79,b_80,b_81,b_82,b_83)
 else
 if x0_6.Critical=true then
 g6f (x0_6.ID,b_66,b_67,b_68,b_81) >>=fun r_30=>
 some (.inl (r_30.2.1,r_30.2.2.1,r_30.2.2.2.1,SValue.eta r_30.1,r_30.2.2.2.2.1,r_30.2.2.2.2.2))
 else
 if inR t117 b_69.Items.length=true then
 g44 ((⟨x0_6.ID,x0_6.Name,x0_6.Type_,x0_6.Critical,x0_6.HasDefault,SValue.eta x0_6.Default⟩:SMember),SValue.eta (b_69.Items.getD t117.toNat dSValue)) >>=fun r_37=>
 if(!r_37)=true then
 if inR t117 b_69.Items.length=true then
 g2w ((⟨b_66⟩:SSchema),x0_6.Type_,SValue.eta (b_69.Items.getD t117.toNat dSValue)) >>=fun r_38=>
 some [(⟨x0_6.ID,r_38⟩:SRaw)] >>=fun t163=>
 if room 24 (b_83++t163).length=true then
 g1n (t115,t116_1,addI .i64 t117 1,b_66,b_67,b_68,SValue.eta b_69,b_70,b_71,b_72,b_73,b_74,b_75,b_76,b_77,b_78,b_79,b_80,b_81,b_82,b_83++t163)
 else none
 else none
 else
 g1n (t115,t116_1,addI .i64 t117 1,b_66,b_67,b_68,SValue.eta b_69,b_70,b_71,b_72,b_73,b_74,b_75,b_76,b_77,b_78,b_79,b_80,b_81,b_82,b_83)
 else none
 else none
 else
 some (.inr (b_66,b_67,b_68,b_71,b_72,b_73,b_74,b_75,b_76,b_77,b_78,b_79,b_80,b_81,b_82,b_83))
  partial_fixpoint
theorem gdn :LC 65 2 [1] e65_1 g1n:= .rc g1n.partial_correctness (.k g4x (.k g9x (.k g87 (.k gc7 .n)))) .n fun _ _=>by kernel_rfl
mutual
def g45(x_:Int × Int × SValue × Int × List SType × List SType × List Int × List Int) :Option (SValue × Bool × List SType × List SType × List Int × List Int):=
 match x_ with
 | (step,wt,v,rt,b,b_1,b_2,b_3)=>
 some [step] >>=fun t20=>
 if room 8 (b_3++t20).length=true then
 g46 (wt,SValue.eta v,rt,b,b_1,b_2,b_3++t20) >>=fun r=>
 some (subI .i64 (r.2.2.2.2.2.length:Int) 1) >>=fun t42=>
 if slR 0 t42 r.2.2.2.2.2.length=true then
 if decide (t42.toNat≤r.2.2.2.2.2.length)=true then
 some (SValue.eta r.1,r.2.1,r.2.2.1,r.2.2.2.1,r.2.2.2.2.1,r.2.2.2.2.2.take t42.toNat)
 else none
 else none
 else none
  partial_fixpoint
def gm(x_:Int × List SValue × Int × List SType × List SType × List Int × List Int) :Option (List SValue × Bool × List SType × List SType × List Int × List Int):=
 match x_ with
 | (wt,l,rt,b,b_1,b_2,b_3)=>
 g37 (wt,rt,l,(l.length:Int),0,b,b_1,b_2,[],b_3) >>=fun o=>
 match o with
 | .inl o_1=>
 some ([],o_1.1,o_1.2.1,o_1.2.2.1,o_1.2.2.2.1,o_1.2.2.2.2)
 | .inr o_2=>
 some (o_2.2.2.2.1,true,o_2.1,o_2.2.1,o_2.2.2.1,o_2.2.2.2.2)
  partial_fixpoint
def g46(x_:Int × SValue × Int × List SType × List SType × List Int × List Int) :Option (SValue × Bool × List SType × List SType × List Int × List Int):=
 match x_ with
 | (wt,v,rt,b,b_1,b_2,b_3)=>
 if inR wt b.length=true then
 some (b.getD wt.toNat dSType) >>=fun x0=>
 if inR rt b_1.length=true then
 some (b_1.getD rt.toNat dSType) >>=fun x0_1=>
 if(!(decide (x0.Kind=x0_1.Kind)))=true then
 g3k (b,b_1,b_2,b_3) >>=fun r=>
 some (SValue.eta r.1,r.2.1,r.2.2.1,r.2.2.2.1,r.2.2.2.2.2,r.2.2.2.2.1)
 else
 if decide (x0.Kind=2)=true then
 if(!(bif decide (x0_1.Low≤v.Int_)then decide (v.Int_≤x0_1.High)else false))=true then
 g3k (b,b_1,b_2,b_3) >>=fun r_7=>
 some (SValue.eta r_7.1,r_7.2.1,r_7.2.2.1,r_7.2.2.2.1,r_7.2.2.2.2.2,r_7.2.2.2.2.1)
 else
 if decide (x0.Kind=5)=true then
 g22 (x0,SValue.eta v,x0_1,b,b_1,b_2,b_3) >>=fun r_14=>
 some (SValue.eta r_14.1,r_14.2.1,r_14.2.2.1,r_14.2.2.2.1,r_14.2.2.2.2.1,r_14.2.2.2.2.2)
 else
 if decide (x0.Kind=6)=true then
 g2a (x0,SValue.eta v,x0_1,b,b_1,b_2,b_3) >>=fun r_21=>
 some (SValue.eta r_21.1,r_21.2.1,r_21.2.2.1,r_21.2.2.2.1,r_21.2.2.2.2.1,r_21.2.2.2.2.2)
 else
 if decide (x0.Kind=8)=true then
 gm (x0.Key,v.Keys,x0_1.Key,b,b_1,b_2,b_3) >>=fun r_28=>
 if(!r_28.2.1)=true then
 some ((⟨0,false,0,[],0,[],[],[]⟩:SValue),false,r_28.2.2.1,r_28.2.2.2.1,r_28.2.2.2.2.1,r_28.2.2.2.2.2)
 else
 gm (x0.Elem,v.Items,x0_1.Elem,r_28.2.2.1,r_28.2.2.2.1,r_28.2.2.2.2.1,r_28.2.2.2.2.2) >>=fun r_35=>
 if(!r_35.2.1)=true then
 some ((⟨0,false,0,[],0,[],[],[]⟩:SValue),false,r_35.2.2.1,r_35.2.2.2.1,r_35.2.2.2.2.1,r_35.2.2.2.2.2)
 else
 some ((⟨v.Kind,v.Bool_,v.Int_,v.Str,v.ID,r_28.1,r_35.1,[]⟩:SValue),true,r_35.2.2.1,r_35.2.2.2.1,r_35.2.2.2.2.1,r_35.2.2.2.2.2)
 else
 gm (x0.Elem,v.Items,x0_1.Elem,b,b_1,b_2,b_3) >>=fun r_42=>
 if(!r_42.2.1)=true then
 some ((⟨0,false,0,[],0,[],[],[]⟩:SValue),false,r_42.2.2.1,r_42.2.2.2.1,r_42.2.2.2.2.1,r_42.2.2.2.2.2)
 else
 some ((⟨v.Kind,v.Bool_,v.Int_,v.Str,v.ID,[],r_42.1,[]⟩:SValue),true,r_42.2.2.1,r_42.2.2.2.1,r_42.2.2.2.2.1,r_42.2.2.2.2.2)
 else
 if decide (x0.Kind=3)=true then
 if(!(decide ((v.Str.length:Int)≤x0_1.Max)))=true then
 g3k (b,b_1,b_2,b_3) >>=fun r_49=>
 some (SValue.eta r_49.1,r_49.2.1,r_49.2.2.1,r_49.2.2.2.1,r_49.2.2.2.2.2,r_49.2.2.2.2.1)
 else
 if decide (x0.Kind=5)=true then
 g22 (x0,SValue.eta v,x0_1,b,b_1,b_2,b_3) >>=fun r_56=>
 some (SValue.eta r_56.1,r_56.2.1,r_56.2.2.1,r_56.2.2.2.1,r_56.2.2.2.2.1,r_56.2.2.2.2.2)
 else
 if decide (x0.Kind=6)=true then
 g2a (x0,SValue.eta v,x0_1,b,b_1,b_2,b_3) >>=fun r_63=>
 some (SValue.eta r_63.1,r_63.2.1,r_63.2.2.1,r_63.2.2.2.1,r_63.2.2.2.2.1,r_63.2.2.2.2.2)
 else
 if decide (x0.Kind=8)=true then
 gm (x0.Key,v.Keys,x0_1.Key,b,b_1,b_2,b_3) >>=fun r_70=>
 if(!r_70.2.1)=true then
 some ((⟨0,false,0,[],0,[],[],[]⟩:SValue),false,r_70.2.2.1,r_70.2.2.2.1,r_70.2.2.2.2.1,r_70.2.2.2.2.2)
 else
 gm (x0.Elem,v.Items,x0_1.Elem,r_70.2.2.1,r_70.2.2.2.1,r_70.2.2.2.2.1,r_70.2.2.2.2.2) >>=fun r_77=>
 if(!r_77.2.1)=true then
 some ((⟨0,false,0,[],0,[],[],[]⟩:SValue),false,r_77.2.2.1,r_77.2.2.2.1,r_77.2.2.2.2.1,r_77.2.2.2.2.2)
 else
 some ((⟨v.Kind,v.Bool_,v.Int_,v.Str,v.ID,r_70.1,r_77.1,[]⟩:SValue),true,r_77.2.2.1,r_77.2.2.2.1,r_77.2.2.2.2.1,r_77.2.2.2.2.2)
 else
 gm (x0.Elem,v.Items,x0_1.Elem,b,b_1,b_2,b_3) >>=fun r_84=>
 if(!r_84.2.1)=true then
 some ((⟨0,false,0,[],0,[],[],[]⟩:SValue),false,r_84.2.2.1,r_84.2.2.2.1,r_84.2.2.2.2.1,r_84.2.2.2.2.2)
 else
 some ((⟨v.Kind,v.Bool_,v.Int_,v.Str,v.ID,[],r_84.1,[]⟩:SValue),true,r_84.2.2.1,r_84.2.2.2.1,r_84.2.2.2.2.1,r_84.2.2.2.2.2)
 else
 if decide (x0.Kind=4)=true then
 g7y (x0_1,v.ID) >>=fun r_91=>
 if(!(bif r_91.2 then true else x0_1.Open))=true then
 g3k (b,b_1,b_2,b_3) >>=fun r_94=>
 some (SValue.eta r_94.1,r_94.2.1,r_94.2.2.1,r_94.2.2.2.1,r_94.2.2.2.2.2,r_94.2.2.2.2.1)
 else
 if decide (x0.Kind=5)=true then
 g22 (x0,SValue.eta v,x0_1,b,b_1,b_2,b_3) >>=fun r_101=>
 some (SValue.eta r_101.1,r_101.2.1,r_101.2.2.1,r_101.2.2.2.1,r_101.2.2.2.2.1,r_101.2.2.2.2.2)
 else
 if decide (x0.Kind=6)=true then
 g2a (x0,SValue.eta v,x0_1,b,b_1,b_2,b_3) >>=fun r_108=>
 some (SValue.eta r_108.1,r_108.2.1,r_108.2.2.1,r_108.2.2.2.1,r_108.2.2.2.2.1,r_108.2.2.2.2.2)
 else
 if decide (x0.Kind=8)=true then
 gm (x0.Key,v.Keys,x0_1.Key,b,b_1,b_2,b_3) >>=fun r_115=>
 if(!r_115.2.1)=true then
 some ((⟨0,false,0,[],0,[],[],[]⟩:SValue),false,r_115.2.2.1,r_115.2.2.2.1,r_115.2.2.2.2.1,r_115.2.2.2.2.2)
 else
 gm (x0.Elem,v.Items,x0_1.Elem,r_115.2.2.1,r_115.2.2.2.1,r_115.2.2.2.2.1,r_115.2.2.2.2.2) >>=fun r_122=>
 if(!r_122.2.1)=true then
 some ((⟨0,false,0,[],0,[],[],[]⟩:SValue),false,r_122.2.2.1,r_122.2.2.2.1,r_122.2.2.2.2.1,r_122.2.2.2.2.2)
 else
 some ((⟨v.Kind,v.Bool_,v.Int_,v.Str,v.ID,r_115.1,r_122.1,[]⟩:SValue),true,r_122.2.2.1,r_122.2.2.2.1,r_122.2.2.2.2.1,r_122.2.2.2.2.2)
 else
 gm (x0.Elem,v.Items,x0_1.Elem,b,b_1,b_2,b_3) >>=fun r_129=>
 if(!r_129.2.1)=true then
 some ((⟨0,false,0,[],0,[],[],[]⟩:SValue),false,r_129.2.2.1,r_129.2.2.2.1,r_129.2.2.2.2.1,r_129.2.2.2.2.2)
 else
 some ((⟨v.Kind,v.Bool_,v.Int_,v.Str,v.ID,[],r_129.1,[]⟩:SValue),true,r_129.2.2.1,r_129.2.2.2.1,r_129.2.2.2.2.1,r_129.2.2.2.2.2)
 else
 some (decide (x0.Kind=7)) >>=fun t91=>
 if t91=true then
 if t91=true then
 if(!(decide ((v.Items.length:Int)≤x0_1.Max)))=true then
 g3k (b,b_1,b_2,b_3) >>=fun r_136=>
 some (SValue.eta r_136.1,r_136.2.1,r_136.2.2.1,r_136.2.2.2.1,r_136.2.2.2.2.2,r_136.2.2.2.2.1)
 else
 if decide (x0.Kind=5)=true then
 g22 (x0,SValue.eta v,x0_1,b,b_1,b_2,b_3) >>=fun r_143=>
 some (SValue.eta r_143.1,r_143.2.1,r_143.2.2.1,r_143.2.2.2.1,r_143.2.2.2.2.1,r_143.2.2.2.2.2)
 else
 if decide (x0.Kind=6)=true then
 g2a (x0,SValue.eta v,x0_1,b,b_1,b_2,b_3) >>=fun r_150=>
 some (SValue.eta r_150.1,r_150.2.1,r_150.2.2.1,r_150.2.2.2.1,r_150.2.2.2.2.1,r_150.2.2.2.2.2)
 else
 if decide (x0.Kind=8)=true then
 gm (x0.Key,v.Keys,x0_1.Key,b,b_1,b_2,b_3) >>=fun r_157=>
 if(!r_157.2.1)=true then
 some ((⟨0,false,0,[],0,[],[],[]⟩:SValue),false,r_157.2.2.1,r_157.2.2.2.1,r_157.2.2.2.2.1,r_157.2.2.2.2.2)
 else
 gm (x0.Elem,v.Items,x0_1.Elem,r_157.2.2.1,r_157.2.2.2.1,r_157.2.2.2.2.1,r_157.2.2.2.2.2) >>=fun r_164=>
 if(!r_164.2.1)=true then
 some ((⟨0,false,0,[],0,[],[],[]⟩:SValue),false,r_164.2.2.1,r_164.2.2.2.1,r_164.2.2.2.2.1,r_164.2.2.2.2.2)
 else
 some ((⟨v.Kind,v.Bool_,v.Int_,v.Str,v.ID,r_157.1,r_164.1,[]⟩:SValue),true,r_164.2.2.1,r_164.2.2.2.1,r_164.2.2.2.2.1,r_164.2.2.2.2.2)
 else
 gm (x0.Elem,v.Items,x0_1.Elem,b,b_1,b_2,b_3) >>=fun r_171=>
 if(!r_171.2.1)=true then
 some ((⟨0,false,0,[],0,[],[],[]⟩:SValue),false,r_171.2.2.1,r_171.2.2.2.1,r_171.2.2.2.2.1,r_171.2.2.2.2.2)
 else
 some ((⟨v.Kind,v.Bool_,v.Int_,v.Str,v.ID,[],r_171.1,[]⟩:SValue),true,r_171.2.2.1,r_171.2.2.2.1,r_171.2.2.2.2.1,r_171.2.2.2.2.2)
 else
 if decide (x0.Kind=5)=true then
 g22 (x0,SValue.eta v,x0_1,b,b_1,b_2,b_3) >>=fun r_178=>
 some (SValue.eta r_178.1,r_178.2.1,r_178.2.2.1,r_178.2.2.2.1,r_178.2.2.2.2.1,r_178.2.2.2.2.2)
 else
 if decide (x0.Kind=6)=true then
 g2a (x0,SValue.eta v,x0_1,b,b_1,b_2,b_3) >>=fun r_185=>
 some (SValue.eta r_185.1,r_185.2.1,r_185.2.2.1,r_185.2.2.2.1,r_185.2.2.2.2.1,r_185.2.2.2.2.2)
 else
 if decide (x0.Kind=8)=true then
 gm (x0.Key,v.Keys,x0_1.Key,b,b_1,b_2,b_3) >>=fun r_192=>
 if(!r_192.2.1)=true then
 some ((⟨0,false,0,[],0,[],[],[]⟩:SValue),false,r_192.2.2.1,r_192.2.2.2.1,r_192.2.2.2.2.1,r_192.2.2.2.2.2)
 else
 gm (x0.Elem,v.Items,x0_1.Elem,r_192.2.2.1,r_192.2.2.2.1,r_192.2.2.2.2.1,r_192.2.2.2.2.2) >>=fun r_199=>
 if(!r_199.2.1)=true then
 some ((⟨0,false,0,[],0,[],[],[]⟩:SValue),false,r_199.2.2.1,r_199.2.2.2.1,r_199.2.2.2.2.1,r_199.2.2.2.2.2)
 else
 some ((⟨v.Kind,v.Bool_,v.Int_,v.Str,v.ID,r_192.1,r_199.1,[]⟩:SValue),true,r_199.2.2.1,r_199.2.2.2.1,r_199.2.2.2.2.1,r_199.2.2.2.2.2)
 else
 gm (x0.Elem,v.Items,x0_1.Elem,b,b_1,b_2,b_3) >>=fun r_206=>
 if(!r_206.2.1)=true then
 some ((⟨0,false,0,[],0,[],[],[]⟩:SValue),false,r_206.2.2.1,r_206.2.2.2.1,r_206.2.2.2.2.1,r_206.2.2.2.2.2)
 else
 some ((⟨v.Kind,v.Bool_,v.Int_,v.Str,v.ID,[],r_206.1,[]⟩:SValue),true,r_206.2.2.1,r_206.2.2.2.1,r_206.2.2.2.2.1,r_206.2.2.2.2.2)
 else
 if decide (x0.Kind=8)=true then
 if(!(decide ((v.Items.length:Int)≤x0_1.Max)))=true then
 g3k (b,b_1,b_2,b_3) >>=fun r_213=>
 some (SValue.eta r_213.1,r_213.2.1,r_213.2.2.1,r_213.2.2.2.1,r_213.2.2.2.2.2,r_213.2.2.2.2.1)
 else
 if decide (x0.Kind=5)=true then
 g22 (x0,SValue.eta v,x0_1,b,b_1,b_2,b_3) >>=fun r_220=>
 some (SValue.eta r_220.1,r_220.2.1,r_220.2.2.1,r_220.2.2.2.1,r_220.2.2.2.2.1,r_220.2.2.2.2.2)
 else
 if decide (x0.Kind=6)=true then
 g2a (x0,SValue.eta v,x0_1,b,b_1,b_2,b_3) >>=fun r_227=>
 some (SValue.eta r_227.1,r_227.2.1,r_227.2.2.1,r_227.2.2.2.1,r_227.2.2.2.2.1,r_227.2.2.2.2.2)
 else
 if decide (x0.Kind=8)=true then
 gm (x0.Key,v.Keys,x0_1.Key,b,b_1,b_2,b_3) >>=fun r_234=>
 if(!r_234.2.1)=true then
 some ((⟨0,false,0,[],0,[],[],[]⟩:SValue),false,r_234.2.2.1,r_234.2.2.2.1,r_234.2.2.2.2.1,r_234.2.2.2.2.2)
 else
 gm (x0.Elem,v.Items,x0_1.Elem,r_234.2.2.1,r_234.2.2.2.1,r_234.2.2.2.2.1,r_234.2.2.2.2.2) >>=fun r_241=>
 if(!r_241.2.1)=true then
 some ((⟨0,false,0,[],0,[],[],[]⟩:SValue),false,r_241.2.2.1,r_241.2.2.2.1,r_241.2.2.2.2.1,r_241.2.2.2.2.2)
 else
 some ((⟨v.Kind,v.Bool_,v.Int_,v.Str,v.ID,r_234.1,r_241.1,[]⟩:SValue),true,r_241.2.2.1,r_241.2.2.2.1,r_241.2.2.2.2.1,r_241.2.2.2.2.2)
 else
 gm (x0.Elem,v.Items,x0_1.Elem,b,b_1,b_2,b_3) >>=fun r_248=>
 if(!r_248.2.1)=true then
 some ((⟨0,false,0,[],0,[],[],[]⟩:SValue),false,r_248.2.2.1,r_248.2.2.2.1,r_248.2.2.2.2.1,r_248.2.2.2.2.2)
 else
 some ((⟨v.Kind,v.Bool_,v.Int_,v.Str,v.ID,[],r_248.1,[]⟩:SValue),true,r_248.2.2.1,r_248.2.2.2.1,r_248.2.2.2.2.1,r_248.2.2.2.2.2)
 else
 if decide (x0.Kind=5)=true then
 g22 (x0,SValue.eta v,x0_1,b,b_1,b_2,b_3) >>=fun r_255=>
 some (SValue.eta r_255.1,r_255.2.1,r_255.2.2.1,r_255.2.2.2.1,r_255.2.2.2.2.1,r_255.2.2.2.2.2)
 else
 if decide (x0.Kind=6)=true then
 g2a (x0,SValue.eta v,x0_1,b,b_1,b_2,b_3) >>=fun r_262=>
 some (SValue.eta r_262.1,r_262.2.1,r_262.2.2.1,r_262.2.2.2.1,r_262.2.2.2.2.1,r_262.2.2.2.2.2)
 else
 if decide (x0.Kind=8)=true then
 gm (x0.Key,v.Keys,x0_1.Key,b,b_1,b_2,b_3) >>=fun r_269=>
 if(!r_269.2.1)=true then
 some ((⟨0,false,0,[],0,[],[],[]⟩:SValue),false,r_269.2.2.1,r_269.2.2.2.1,r_269.2.2.2.2.1,r_269.2.2.2.2.2)
 else
 gm (x0.Elem,v.Items,x0_1.Elem,r_269.2.2.1,r_269.2.2.2.1,r_269.2.2.2.2.1,r_269.2.2.2.2.2) >>=fun r_276=>
 if(!r_276.2.1)=true then
 some ((⟨0,false,0,[],0,[],[],[]⟩:SValue),false,r_276.2.2.1,r_276.2.2.2.1,r_276.2.2.2.2.1,r_276.2.2.2.2.2)
 else
 some ((⟨v.Kind,v.Bool_,v.Int_,v.Str,v.ID,r_269.1,r_276.1,[]⟩:SValue),true,r_276.2.2.1,r_276.2.2.2.1,r_276.2.2.2.2.1,r_276.2.2.2.2.2)
 else
 gm (x0.Elem,v.Items,x0_1.Elem,b,b_1,b_2,b_3) >>=fun r_283=>
 if(!r_283.2.1)=true then
 some ((⟨0,false,0,[],0,[],[],[]⟩:SValue),false,r_283.2.2.1,r_283.2.2.2.1,r_283.2.2.2.2.1,r_283.2.2.2.2.2)
 else
 some ((⟨v.Kind,v.Bool_,v.Int_,v.Str,v.ID,[],r_283.1,[]⟩:SValue),true,r_283.2.2.1,r_283.2.2.2.1,r_283.2.2.2.2.1,r_283.2.2.2.2.2)
 else none
 else none
  partial_fixpoint
def g22(x_:SType × SValue × SType × List SType × List SType × List Int × List Int) :Option (SValue × Bool × List SType × List SType × List Int × List Int):=
 match x_ with
 | (x0,v,y,b,b_1,b_2,b_3)=>
 g2b (y.Members,(y.Members.length:Int),0,b,b_1,b_2,x0,SValue.eta v,y,0,false,0,[],0,v.Kind,false,0,[],0,b_3,[]) >>=fun o=>
 match o with
 | .inl o_1=>
 some (SValue.eta o_1.2.2.2.2.1,o_1.1,o_1.2.1,o_1.2.2.1,o_1.2.2.2.1,o_1.2.2.2.2.2)
 | .inr o_2=>
 g1n (o_2.2.2.2.1.Members,(o_2.2.2.2.1.Members.length:Int),0,o_2.1,o_2.2.1,o_2.2.2.1,SValue.eta o_2.2.2.2.2.1,o_2.2.2.2.2.2.1,o_2.2.2.2.2.2.2.1,o_2.2.2.2.2.2.2.2.1,o_2.2.2.2.2.2.2.2.2.1,o_2.2.2.2.2.2.2.2.2.2.1,o_2.2.2.2.2.2.2.2.2.2.2.1,o_2.2.2.2.2.2.2.2.2.2.2.2.1,o_2.2.2.2.2.2.2.2.2.2.2.2.2.1,o_2.2.2.2.2.2.2.2.2.2.2.2.2.2.1,o_2.2.2.2.2.2.2.2.2.2.2.2.2.2.2.1,o_2.2.2.2.2.2.2.2.2.2.2.2.2.2.2.2.1,o_2.2.2.2.2.2.2.2.2.2.2.2.2.2.2.2.2.1,o_2.2.2.2.2.2.2.2.2.2.2.2.2.2.2.2.2.2,[]) >>=fun o_3=>
 match o_3 with
 | .inl o_4=>
 some (SValue.eta o_4.2.2.2.1,o_4.1,o_4.2.1,o_4.2.2.1,o_4.2.2.2.2.2,o_4.2.2.2.2.1)
 | .inr o_5=>
 some ((⟨o_5.2.2.2.2.2.2.2.2.1,o_5.2.2.2.2.2.2.2.2.2.1,o_5.2.2.2.2.2.2.2.2.2.2.1,o_5.2.2.2.2.2.2.2.2.2.2.2.1,o_5.2.2.2.2.2.2.2.2.2.2.2.2.1,[],o_5.2.2.2.2.2.2.2.2.2.2.2.2.2.2.1,o_5.2.2.2.2.2.2.2.2.2.2.2.2.2.2.2⟩:SValue),true,o_5.1,o_5.2.1,o_5.2.2.1,o_5.2.2.2.2.2.2.2.2.2.2.2.2.2.1)
  partial_fixpoint
def g2a(x_:SType × SValue × SType × List SType × List SType × List Int × List Int) :Option (SValue × Bool × List SType × List SType × List Int × List Int):=
 match x_ with
 | (x0,v,y,b,b_1,b_2,b_3)=>
 g1r (x0,v.ID) >>=fun r=>
 g1r (y,v.ID) >>=fun r_3=>
 if r_3.2=true then
 if inR r.1 x0.Members.length=true then
 if inR 0 v.Items.length=true then
 if inR r_3.1 y.Members.length=true then
 g45 (v.ID,(x0.Members.getD r.1.toNat dSMember).Type_,SValue.eta (v.Items.getD (0:Int).toNat dSValue),(y.Members.getD r_3.1.toNat dSMember).Type_,b,b_1,b_2,b_3) >>=fun r_6=>
 if(!r_6.2.1)=true then
 some ((⟨0,false,0,[],0,[],[],[]⟩:SValue),false,r_6.2.2.1,r_6.2.2.2.1,r_6.2.2.2.2.1,r_6.2.2.2.2.2)
 else
 some ((⟨v.Kind,false,0,[],v.ID,[],[SValue.eta r_6.1],[]⟩:SValue),true,r_6.2.2.1,r_6.2.2.2.1,r_6.2.2.2.2.1,r_6.2.2.2.2.2)
 else none
 else none
 else none
 else
 if(!y.Open)=true then
 g3k (b,b_1,b_2,b_3) >>=fun r_13=>
 some (SValue.eta r_13.1,r_13.2.1,r_13.2.2.1,r_13.2.2.2.1,r_13.2.2.2.2.2,r_13.2.2.2.2.1)
 else
 if inR r.1 x0.Members.length=true then
 if inR 0 v.Items.length=true then
 g2w ((⟨b⟩:SSchema),(x0.Members.getD r.1.toNat dSMember).Type_,SValue.eta (v.Items.getD (0:Int).toNat dSValue)) >>=fun r_20=>
 some ((⟨v.Kind,false,0,[],v.ID,[],[],[(⟨v.ID,r_20⟩:SRaw)]⟩:SValue),true,b,b_1,b_2,b_3)
 else none
 else none
  partial_fixpoint
def g37(x_:Int × Int × List SValue × Int × Int × List SType × List SType × List Int × List SValue × List Int) :Option ((Bool × List SType × List SType × List Int × List Int) ⊕ (List SType × List SType × List Int × List SValue × List Int)):=
 match x_ with
 | (wt_1,rt_1,t15,t16_1,t17,b_13,b_14,b_15,b_16,b_17)=>
 if decide (t17 < t16_1)=true then
 if inR t17 t15.length=true then
 g45 (t17,wt_1,SValue.eta (t15.getD t17.toNat dSValue),rt_1,b_13,b_14,b_15,b_17) >>=fun r=>
 if(!r.2.1)=true then
 some (.inl (false,r.2.2.1,r.2.2.2.1,r.2.2.2.2.1,r.2.2.2.2.2))
 else
 some [SValue.eta r.1] >>=fun t35=>
 if room 120 (b_16++t35).length=true then
 g37 (wt_1,rt_1,t15,t16_1,addI .i64 t17 1,r.2.2.1,r.2.2.2.1,r.2.2.2.2.1,b_16++t35,r.2.2.2.2.2)
 else none
 else none
 else
 some (.inr (b_13,b_14,b_15,b_16,b_17))
  partial_fixpoint
def g2b(x_:List SMember × Int × Int × List SType × List SType × List Int × SType × SValue × SType × Int × Bool × Int × List UInt8 × Int × Int × Bool × Int × List UInt8 × Int × List Int × List SValue) :Option ((Bool × List SType × List SType × List Int × SValue × List Int) ⊕ (List SType × List SType × List Int × SType × SValue × SType × Int × Bool × Int × List UInt8 × Int × Int × Bool × Int × List UInt8 × Int × List Int × List SValue)):=
 match x_ with
 | (t25,t26_1,t27,b_48,b_49,b_50,b_51,b_52,b_53,b_54,b_55,b_56,b_57,b_58,b_59,b_60,b_61,b_62,b_63,b_64,b_65)=>
 if decide (t27 < t26_1)=true then
 if inR t27 t25.length=true then
 some (t25.getD t27.toNat dSMember) >>=fun x0_1=>
 g1r (b_51,x0_1.ID) >>=fun r=>
 if(!r.2)=true then
 if(!x0_1.HasDefault)=true then
 g6f (x0_1.ID,b_48,b_49,b_50,b_64) >>=fun r_3=>
 some (.inl (r_3.2.1,r_3.2.2.1,r_3.2.2.2.1,r_3.2.2.2.2.2,SValue.eta r_3.1,r_3.2.2.2.2.1))
 else
 g64 (SValue.eta x0_1.Default) >>=fun r_10=>
 some [SValue.eta r_10] >>=fun t54=>
 if room 120 (b_65++t54).length=true then
 g2b (t25,t26_1,addI .i64 t27 1,b_48,b_49,b_50,b_51,SValue.eta b_52,b_53,b_54,b_55,b_56,b_57,b_58,b_59,b_60,b_61,b_62,b_63,b_64,b_65++t54)
 else none
 else
 if inR r.1 b_51.Members.length=true then
 if inR r.1 b_52.Items.length=true then
 g45 (x0_1.ID,(b_51.Members.getD r.1.toNat dSMember).Type_,SValue.eta (b_52.Items.getD r.1.toNat dSValue),x0_1.Type_,b_48,b_49,b_50,b_64) >>=fun r_11=>
 if inR r.1 b_51.Members.length=true then
 some (b_51.Members.getD r.1.toNat dSMember) >>=fun x0_4=>
 if inR r.1 b_52.Items.length=true then
 g44 ((⟨x0_4.ID,x0_4.Name,x0_4.Type_,x0_4.Critical,x0_4.HasDefault,SValue.eta x0_4.Default⟩:SMember),SValue.eta (b_52.Items.getD r.1.toNat dSValue)) >>=fun r_18=>
 some (!r_11.2.1) >>=fun t90=>
 (if(r_18 && (!t90))=true then g44 ((⟨x0_1.ID,x0_1.Name,x0_1.Type_,x0_1.Critical,x0_1.HasDefault,SValue.eta x0_1.Default⟩:SMember),SValue.eta r_11.1)else some false) >>=fun r_19=>
 if(bif r_18 then bif t90 then true else(!r_19)else false)=true then
 g6f (x0_1.ID,r_11.2.2.1,r_11.2.2.2.1,r_11.2.2.2.2.1,r_11.2.2.2.2.2) >>=fun r_20=>
 some (.inl (r_20.2.1,r_20.2.2.1,r_20.2.2.2.1,r_20.2.2.2.2.2,SValue.eta r_20.1,r_20.2.2.2.2.1))
 else
 if(!r_11.2.1)=true then
 some (.inl (false,r_11.2.2.1,r_11.2.2.2.1,r_11.2.2.2.2.1,(⟨0,false,0,[],0,[],[],[]⟩:SValue),r_11.2.2.2.2.2))
 else
 some [SValue.eta r_11.1] >>=fun t110=>
 if room 120 (b_65++t110).length=true then
 g2b (t25,t26_1,addI .i64 t27 1,r_11.2.2.1,r_11.2.2.2.1,r_11.2.2.2.2.1,b_51,SValue.eta b_52,b_53,b_54,b_55,b_56,b_57,b_58,b_59,b_60,b_61,b_62,b_63,r_11.2.2.2.2.2,b_65++t110)
 else none
 else none
 else none
 else none
 else none
 else none
 else
 some (.inr (b_48,b_49,b_50,b_51,SValue.eta b_52,b_53,b_54,b_55,b_56,b_57,b_58,b_59,b_60,b_61,b_62,b_63,b_64,b_65))
  partial_fixpoint
end
theorem gn4 :KC e104:= .m (by kernel_rfl)
theorem e38_k :KC e38:= .m (by kernel_rfl)
theorem e67_k :KC e67:= .m (by kernel_rfl)
theorem e66_k :KC e66:= .m (by kernel_rfl)
theorem e65_k :KC e65:= .m (by kernel_rfl)
theorem gg5 :(∀h r,g45 h=some r→FD e104 h r)∧(∀h r,g46 h=some r→FD e38 h r)∧(∀h r,gm h=some r→FD e67 h r)∧(∀h r,g37 h=some r→LD 67 2 [0] e67_0 h r)∧(∀h r,g2a h=some r→FD e66 h r)∧(∀h r,g22 h=some r→FD e65 h r)∧(∀h r,g2b h=some r→LD 65 2 [0] e65_0 h r):=g45.mutual_partial_correctness (FD e104) (FD e38) (FD e67) (LD 67 2 [0] e67_0) (FD e66) (FD e65) (LD 65 2 [0] e65_0)
 (fun _ h1 _ _ h=>FA e104 gn4 (.k (FH e38 e38_k h1) .n) .n (.trans (by kernel_rfl) h))
 (fun _ _ _ h2 h4 h5 _ _ h=>FA e38 e38_k (.k gas (.k (FH e65 e65_k h5) (.k (FH e66 e66_k h4) (.k (FH e67 e67_k h2) (.k ge8 .n))))) .n (.trans (by kernel_rfl) h))
 (fun _ h3 _ _ h=>FA e67 e67_k .n (.k (LH e67_0 h3) .n) (.trans (by kernel_rfl) h))
 (fun _ _ h0 h3 _ _ h=>LA e67_0 h3 (.k (FH e104 gn4 h0) .n) .n (.trans (by kernel_rfl) h))
 (fun _ h0 _ _ h=>FA e66 e66_k (.k g4x (.k (FH e104 gn4 h0) (.k gas (.k gc7 .n)))) .n (.trans (by kernel_rfl) h))
 (fun _ h6 _ _ h=>FA e65 e65_k .n (.k (LH e65_0 h6) (.k gdn .n)) (.trans (by kernel_rfl) h))
 (fun _ _ h0 h6 _ _ h=>LA e65_0 h6 (.k g4x (.k g9x (.k gli (.k (FH e104 gn4 h0) (.k g87 .n))))) .n (.trans (by kernel_rfl) h))
theorem gau :FC e38 g46:= .of e38_k gg5.2.1
end
section
open Go Go.Proofs.YtandcioiaooocaaGreat.Shv
open Tryz
set_option maxRecDepth 100000
def g8c(x_:SSchema × Int × SValue × SSchema × Int) :Option (SValue × Int):=
 match x_ with
 | (w,wt,v,r,rt)=>
 g5s (w,wt,SValue.eta v,r,rt) >>=fun r_1=>
 if(!(decide (r_1=0)))=true then
 some ((⟨0,false,0,[],0,[],[],[]⟩:SValue),r_1)
 else
 g46 (wt,SValue.eta v,rt,w.Types,r.Types,[],[]) >>=fun r_2=>
 if(!r_2.2.1)=true then
 some ((⟨0,false,0,[],0,[],[],[]⟩:SValue),12)
 else
 some (SValue.eta r_2.1,0)
theorem gk1 :FC e13 g8c:= .fn e13_k (.k geb (.k gau .n)) .n fun _=>by kernel_rfl
def g8d(x_:SSchema × Int × SValue × SSchema × Int) :Option (List Int × Int):=
 match x_ with
 | (w,wt,v,r,rt)=>
 g5s (w,wt,SValue.eta v,r,rt) >>=fun r_1=>
 if(!(decide (r_1=0)))=true then
 some ([],r_1)
 else
 g46 (wt,SValue.eta v,rt,w.Types,r.Types,[],[]) >>=fun r_2=>
 if r_2.2.1=true then
 some ([],15)
 else
 some (r_2.2.2.2.2.1,0)
theorem gk2 :FC e17 g8d:= .fn e17_k (.k geb (.k gau .n)) .n fun _=>by kernel_rfl
def g32(x_:Int × Int × SValue) :Option (Int × SValue):=
 match x_ with
 | (n_4,i,b_2)=>
 if(bif decide (i < (b_2.Rest.length:Int))then decide (0≤n_4)else false)=true then
 if inR i b_2.Rest.length=true then
 g32 (subI .i64 n_4 ((b_2.Rest.getD i.toNat dSRaw).Data.length:Int),addI .i64 i 1,SValue.eta b_2)
 else none
 else
 some (n_4,SValue.eta b_2)
  partial_fixpoint
theorem gg6 :LC 44 0 [0] e44_0 g32:= .rc g32.partial_correctness .n .n fun _ _=>by kernel_rfl
mutual
def g2y(x_:SValue × Int) :Option (Int):=
 match x_ with
 | (v,n)=>
 g32 (subI .i64 n (addI .i64 (addI .i64 10 (v.Str.length:Int)) (v.Rest.length:Int)),0,SValue.eta v) >>=fun o=>
 g3l (o.1,0,SValue.eta o.2) >>=fun o_1=>
 g3m (o_1.1,0,SValue.eta o_1.2) >>=fun o_2=>
 some o_2
  partial_fixpoint
def g3l(x_:Int × Int × SValue) :Option (Int × SValue):=
 match x_ with
 | (n_5,i_1,b_3)=>
 if(bif decide (i_1 < (b_3.Keys.length:Int))then decide (0≤n_5)else false)=true then
 if inR i_1 b_3.Keys.length=true then
 g2y (SValue.eta (b_3.Keys.getD i_1.toNat dSValue),n_5) >>=fun r=>
 g3l (r,addI .i64 i_1 1,SValue.eta b_3)
 else none
 else
 some (n_5,SValue.eta b_3)
  partial_fixpoint
def g3m(x_:Int × Int × SValue) :Option (Int):=
 match x_ with
 | (n_6,i_2,b_4)=>
 if(bif decide (i_2 < (b_4.Items.length:Int))then decide (0≤n_6)else false)=true then
 if inR i_2 b_4.Items.length=true then
 g2y (SValue.eta (b_4.Items.getD i_2.toNat dSValue),n_6) >>=fun r_1=>
 g3m (r_1,addI .i64 i_2 1,SValue.eta b_4)
 else none
 else
 some n_6
  partial_fixpoint
end
theorem e44_k :KC e44:= .m (by kernel_rfl)
theorem gh8 :(∀h r,g2y h=some r→FD e44 h r)∧(∀h r,g3m h=some r→LD 44 0 [2] e44_2 h r)∧(∀h r,g3l h=some r→LD 44 0 [1] e44_1 h r):=g2y.mutual_partial_correctness (FD e44) (LD 44 0 [2] e44_2) (LD 44 0 [1] e44_1)
 (fun _ _ h1 h2 _ _ h=>FA e44 e44_k .n (.k gg6 (.k (LH e44_1 h2) (.k (LH e44_2 h1) .n))) (.trans (by kernel_rfl) h))
 (fun _ _ h0 h1 _ _ h=>LA e44_2 h1 (.k (FH e44 e44_k h0) .n) .n (.trans (by kernel_rfl) h))
 (fun _ _ h0 h2 _ _ h=>LA e44_1 h2 (.k (FH e44 e44_k h0) .n) .n (.trans (by kernel_rfl) h))
theorem gji :FC e44 g2y:= .of e44_k gh8.1
def g74(v:SValue) :Option (Bool):=
 g2y (SValue.eta v,3000) >>=fun r=>
 some (decide (0≤r))
theorem e21_k :KC e21:= .m (by kernel_rfl)
theorem gi0 :FC e21 g74:= .fn e21_k (.k gji .n) .n fun _=>by kernel_rfl
def g1o(x_:Int × SValue × SValue) :Option ((Bool) ⊕ (SValue × SValue)):=
 match x_ with
 | (i,b_3,b_4)=>
 if decide (i < (b_3.Rest.length:Int))=true then
 if inR i b_3.Rest.length=true then
 some (b_3.Rest.getD i.toNat dSRaw) >>=fun x0=>
 if inR i b_4.Rest.length=true then
 some (b_4.Rest.getD i.toNat dSRaw) >>=fun x0_1=>
 if(!(eqI x0.ID x0_1.ID && (eqS x0.Data x0_1.Data && true)))=true then
 some (.inl false)
 else
 g1o (addI .i64 i 1,SValue.eta b_3,SValue.eta b_4)
 else none
 else none
 else
 some (.inr (SValue.eta b_3,SValue.eta b_4))
  partial_fixpoint
theorem gc1 :LC 40 0 [0] e40_0 g1o:= .rc g1o.partial_correctness .n .n fun _ _=>by kernel_rfl
mutual
def g1k(x_:SValue × SValue) :Option (Bool):=
 match x_ with
 | (a,b)=>
 if(bif bif bif bif bif (!(decide (a.Kind=b.Kind)))then true else(!(eqB a.Bool_ b.Bool_))then true else(!(decide (a.Int_=b.Int_)))then true else(!(decide (a.Str=b.Str)))then true else(!(decide (a.ID=b.ID)))then true else(!(decide ((a.Rest.length:Int)=(b.Rest.length:Int)))))=true then
 some false
 else
 g1o (0,(⟨a.Kind,a.Bool_,a.Int_,a.Str,a.ID,a.Keys,a.Items,a.Rest⟩:SValue),(⟨b.Kind,b.Bool_,b.Int_,b.Str,b.ID,b.Keys,b.Items,b.Rest⟩:SValue)) >>=fun o=>
 match o with
 | .inl o_1=>
 some o_1
 | .inr o_2=>
 g4g (o_2.1.Keys,o_2.2.Keys) >>=fun r=>
 (if r=true then g4g (o_2.1.Items,o_2.2.Items)else some false) >>=fun r_1=>
 some (bif r then r_1 else false)
  partial_fixpoint
def g4g(x_:List SValue × List SValue) :Option (Bool):=
 match x_ with
 | (a,b)=>
 if(!(decide ((a.length:Int)=(b.length:Int))))=true then
 some false
 else
 g31 (a,b,0) >>=fun o=>
 match o with
 | .inl o_1=>
 some o_1
 | .inr o_2=>
 some true
  partial_fixpoint
def g31(x_:List SValue × List SValue × Int) :Option ((Bool) ⊕ (Unit)):=
 match x_ with
 | (a_1,b_1,i)=>
 if decide (i < (a_1.length:Int))=true then
 if inR i a_1.length=true then
 if inR i b_1.length=true then
 g1k (SValue.eta (a_1.getD i.toNat dSValue),SValue.eta (b_1.getD i.toNat dSValue)) >>=fun r=>
 if(!r)=true then
 some (.inl false)
 else
 g31 (a_1,b_1,addI .i64 i 1)
 else none
 else none
 else
 some (.inr ())
  partial_fixpoint
end
theorem e40_k :KC e40:= .m (by kernel_rfl)
theorem e74_k :KC e74:= .m (by kernel_rfl)
theorem gck :(∀h r,g1k h=some r→FD e40 h r)∧(∀h r,g4g h=some r→FD e74 h r)∧(∀h r,g31 h=some r→LD 74 0 [0] e74_0 h r):=g1k.mutual_partial_correctness (FD e40) (FD e74) (LD 74 0 [0] e74_0)
 (fun _ h1 _ _ h=>FA e40 e40_k (.k (FH e74 e74_k h1) .n) (.k gc1 .n) (.trans (by kernel_rfl) h))
 (fun _ h2 _ _ h=>FA e74 e74_k .n (.k (LH e74_0 h2) .n) (.trans (by kernel_rfl) h))
 (fun _ _ h0 h2 _ _ h=>LA e74_0 h2 (.k (FH e40 e40_k h0) .n) .n (.trans (by kernel_rfl) h))
theorem gdx :FC e40 g1k:= .of e40_k gck.1
def g75(x_:SValue × SValue) :Option (Bool):=
 match x_ with
 | (a,b)=>
 g1k (SValue.eta a,SValue.eta b) >>=fun r=>
 some r
theorem e15_k :KC e15:= .m (by kernel_rfl)
theorem gi1 :FC e15 g75:= .fn e15_k (.k gdx .n) .n fun _=>by kernel_rfl
def g55(d:Sheaveref08Draft) :Option (Bool):=
 g7c d >>=fun r=>
 g5w () >>=fun r_6=>
 some (bif (!r_6)then true else(!r.2.2.2.2)) >>=fun t25=>
 (if(!t25)=true then g74 (SValue.eta r.2.2.1)else some false) >>=fun r_7=>
 if(bif t25 then true else(!r_7))=true then
 g5w () >>=fun r_8=>
 some r_8
 else
 g8c (r.1,r.2.1,SValue.eta r.2.2.1,r.1,r.2.1) >>=fun r_9=>
 g8d (r.1,r.2.1,SValue.eta r.2.2.1,r.1,r.2.1) >>=fun r_12=>
 some (bif decide (r_9.2=0)then decide (r_12.2=15)else false) >>=fun t55=>
 (if t55=true then g75 (SValue.eta r_9.1,SValue.eta r.2.2.1)else some false) >>=fun r_15=>
 some (bif t55 then r_15 else false)
theorem e5_k :KC e5:= .m (by kernel_rfl)
theorem gpc :FC e5 g55:= .fn e5_k (.k glc (.k ghr (.k gi0 (.k gk1 (.k gk2 (.k gi1 .n)))))) .n fun _=>by kernel_rfl
end
section
open Go Go.Proofs.YtandcioiaooocaaGreat.Shv
open Tryz
set_option maxRecDepth 100000
def g2k(t:SType) :Option (SType):=
 if decide (t.Kind=1)=true then
 some (⟨t.Kind,[],0,0,0,[],[],0,0,false⟩:SType)
 else
 if decide (t.Kind=2)=true then
 some (⟨t.Kind,[],t.Low,t.High,0,[],[],0,0,false⟩:SType)
 else
 if decide (t.Kind=3)=true then
 some (⟨t.Kind,[],0,0,t.Max,[],[],0,0,false⟩:SType)
 else
 if decide (t.Kind=4)=true then
 some (⟨t.Kind,t.Name,0,0,0,t.Symbols,[],0,0,t.Open⟩:SType)
 else
 if decide (t.Kind=5)=true then
 some (⟨t.Kind,t.Name,0,0,0,[],t.Members,0,0,false⟩:SType)
 else
 if decide (t.Kind=6)=true then
 some (⟨t.Kind,t.Name,0,0,0,[],t.Members,0,0,t.Open⟩:SType)
 else
 if decide (t.Kind=7)=true then
 some (⟨t.Kind,[],0,0,t.Max,[],[],0,t.Elem,false⟩:SType)
 else
 if decide (t.Kind=8)=true then
 some (⟨t.Kind,[],0,0,t.Max,[],[],t.Key,t.Elem,false⟩:SType)
 else
 some (⟨t.Kind,[],0,0,0,[],[],0,t.Elem,false⟩:SType)
def g5h(x_:SMember × SMember) :Option (Bool):=
 match x_ with
 | (a,b)=>
 some (bif bif bif bif decide (a.ID=b.ID)then decide (a.Name=b.Name)else false then decide (a.Type_=b.Type_)else false then eqB a.Critical b.Critical else false then eqB a.HasDefault b.HasDefault else false) >>=fun t37=>
 (if t37=true then g1k ((⟨a.Default.Kind,a.Default.Bool_,a.Default.Int_,a.Default.Str,a.Default.ID,a.Default.Keys,a.Default.Items,a.Default.Rest⟩:SValue),(⟨b.Default.Kind,b.Default.Bool_,b.Default.Int_,b.Default.Str,b.Default.ID,b.Default.Keys,b.Default.Items,b.Default.Rest⟩:SValue))else some false) >>=fun r=>
 some (bif t37 then r else false)
def g2n(x_:Int × SType × SType) :Option ((Bool) ⊕ (SType × SType)):=
 match x_ with
 | (i,b_3,b_4)=>
 if decide (i < (b_3.Symbols.length:Int))=true then
 if inR i b_3.Symbols.length=true then
 some (b_3.Symbols.getD i.toNat dSSymbol) >>=fun x0=>
 if inR i b_4.Symbols.length=true then
 some (b_4.Symbols.getD i.toNat dSSymbol) >>=fun x0_1=>
 if(!(eqI x0.ID x0_1.ID && (eqS x0.Name x0_1.Name && true)))=true then
 some (.inl false)
 else
 g2n (addI .i64 i 1,b_3,b_4)
 else none
 else none
 else
 some (.inr (b_3,b_4))
  partial_fixpoint
def g2o(x_:Int × SType × SType) :Option ((Bool) ⊕ (Unit)):=
 match x_ with
 | (i_1,b_5,b_6)=>
 if decide (i_1 < (b_5.Members.length:Int))=true then
 if inR i_1 b_5.Members.length=true then
 some (b_5.Members.getD i_1.toNat dSMember) >>=fun x0_2=>
 if inR i_1 b_6.Members.length=true then
 some (b_6.Members.getD i_1.toNat dSMember) >>=fun x0_3=>
 g5h ((⟨x0_2.ID,x0_2.Name,x0_2.Type_,x0_2.Critical,x0_2.HasDefault,SValue.eta x0_2.Default⟩:SMember),(⟨x0_3.ID,x0_3.Name,x0_3.Type_,x0_3.Critical,x0_3.HasDefault,SValue.eta x0_3.Default⟩:SMember)) >>=fun r=>
 if(!r)=true then
 some (.inl false)
 else
 g2o (addI .i64 i_1 1,b_5,b_6)
 else none
 else none
 else
 some (.inr ())
  partial_fixpoint
def g7s(x_:SType × SType) :Option (Bool):=
 match x_ with
 | (a,b)=>
 if(bif bif bif bif bif bif bif bif bif (!(decide (a.Kind=b.Kind)))then true else(!(decide (a.Name=b.Name)))then true else(!(decide (a.Low=b.Low)))then true else(!(decide (a.High=b.High)))then true else(!(decide (a.Max=b.Max)))then true else(!(decide (a.Key=b.Key)))then true else(!(decide (a.Elem=b.Elem)))then true else(!(eqB a.Open b.Open))then true else(!(decide ((a.Symbols.length:Int)=(b.Symbols.length:Int))))then true else(!(decide ((a.Members.length:Int)=(b.Members.length:Int)))))=true then
 some false
 else
 g2n (0,(⟨a.Kind,a.Name,a.Low,a.High,a.Max,a.Symbols,a.Members,a.Key,a.Elem,a.Open⟩:SType),(⟨b.Kind,b.Name,b.Low,b.High,b.Max,b.Symbols,b.Members,b.Key,b.Elem,b.Open⟩:SType)) >>=fun o=>
 match o with
 | .inl o_1=>
 some o_1
 | .inr o_2=>
 g2o (0,o_2.1,o_2.2) >>=fun o_3=>
 match o_3 with
 | .inl o_4=>
 some o_4
 | .inr o_5=>
 some true
def g6v(b:Int) :Option (Bool):=
 some (bif bif bif decide (97≤b)then decide (b≤122)else false then true else bif decide (65≤b)then decide (b≤90)else false then true else decide (b=95))
def g98(b:Int) :Option (Bool):=
 some (bif decide (48≤b)then decide (b≤57)else false)
def g38(x_:List UInt8 × Int) :Option ((Bool) ⊕ (Unit)):=
 match x_ with
 | (s_1,i)=>
 if decide (i < (s_1.length:Int))=true then
 if inR i s_1.length=true then
 g6v (g69 s_1 i) >>=fun r_1=>
 some (!r_1) >>=fun t27=>
 if(inR i s_1.length || (!t27))=true then
 (if t27=true then g98 (g69 s_1 i)else some false) >>=fun r_2=>
 if(bif t27 then(!r_2)else false)=true then
 some (.inl false)
 else
 g38 (s_1,addI .i64 i 1)
 else none
 else none
 else
 some (.inr ())
  partial_fixpoint
end
section
open Go Go.Proofs.YtandcioiaooocaaGreat.Shv
open Tryz
set_option maxRecDepth 100000
def g4r(s:List UInt8) :Option (Bool):=
 some (bif decide (s=[])then true else decide (24 < (s.length:Int))) >>=fun t10=>
 if(inR 0 s.length || (!(!t10)))=true then
 (if(!t10)=true then g6v (g69 s 0)else some false) >>=fun r=>
 if(bif t10 then true else(!r))=true then
 some false
 else
 g38 (s,0) >>=fun o=>
 match o with
 | .inl o_1=>
 some o_1
 | .inr o_2=>
 some true
 else none
def g93(x_:Int × Int) :Option (Bool):=
 match x_ with
 | (before,n)=>
 some (bif bif decide (before < n)then decide (1≤n)else false then decide (n≤1000)else false)
def g1y(x_:List SSymbol × Int × Int) :Option ((Bool) ⊕ (List SSymbol × Int)):=
 match x_ with
 | (l_4,i_2,k)=>
 if decide (k < i_2)=true then
 if inR k l_4.length=true then
 if inR i_2 l_4.length=true then
 if decide ((l_4.getD k.toNat dSSymbol).Name=(l_4.getD i_2.toNat dSSymbol).Name)=true then
 some (.inl false)
 else
 g1y (l_4,i_2,addI .i64 k 1)
 else none
 else none
 else
 some (.inr (l_4,i_2))
  partial_fixpoint
def g2z(x_:List SSymbol × Int × Int) :Option ((Bool) ⊕ (List SSymbol)):=
 match x_ with
 | (l_2,before,i)=>
 if decide (i < (l_2.length:Int))=true then
 if inR i l_2.length=true then
 g93 (before,(l_2.getD i.toNat dSSymbol).ID) >>=fun r=>
 some (!r) >>=fun t19=>
 if(inR i l_2.length || (!(!t19)))=true then
 (if(!t19)=true then g4r (l_2.getD i.toNat dSSymbol).Name else some false) >>=fun r_1=>
 if(bif t19 then true else(!r_1))=true then
 some (.inl false)
 else
 g1y (l_2,i,0) >>=fun o_3=>
 match o_3 with
 | .inl o_4=>
 some (.inl o_4)
 | .inr o_5=>
 if inR o_5.2 o_5.1.length=true then
 g2z (o_5.1,(o_5.1.getD o_5.2.toNat dSSymbol).ID,addI .i64 o_5.2 1)
 else none
 else none
 else none
 else
 some (.inr l_2)
  partial_fixpoint
def g6g(l:List SSymbol) :Option (Bool):=
 g2z (l,0,0) >>=fun o=>
 match o with
 | .inl o_1=>
 some o_1
 | .inr o_2=>
 some (bif decide (1≤(o_2.length:Int))then decide ((o_2.length:Int)≤16)else false)
def g1z(x_:List SMember × Bool × Int × Int × SMember) :Option ((Bool) ⊕ (List SMember × Bool × Int × SMember)):=
 match x_ with
 | (l_4,record_4,i_2,k,b_1)=>
 if decide (k < i_2)=true then
 if inR k l_4.length=true then
 if decide ((l_4.getD k.toNat dSMember).Name=b_1.Name)=true then
 some (.inl false)
 else
 g1z (l_4,record_4,i_2,addI .i64 k 1,(⟨b_1.ID,b_1.Name,b_1.Type_,b_1.Critical,b_1.HasDefault,SValue.eta b_1.Default⟩:SMember))
 else none
 else
 some (.inr (l_4,record_4,i_2,(⟨b_1.ID,b_1.Name,b_1.Type_,b_1.Critical,b_1.HasDefault,SValue.eta b_1.Default⟩:SMember)))
  partial_fixpoint
def g30(x_:List SMember × Bool × Int × Int) :Option ((Bool) ⊕ (List SMember × Bool)):=
 match x_ with
 | (l_2,record_2,before,i)=>
 if decide (i < (l_2.length:Int))=true then
 if inR i l_2.length=true then
 some (l_2.getD i.toNat dSMember) >>=fun x0=>
 g93 (before,x0.ID) >>=fun r=>
 some (!r) >>=fun t23=>
 (if(!t23)=true then g4r x0.Name else some false) >>=fun r_1=>
 if(bif bif bif t23 then true else(!r_1)then true else bif x0.Critical then x0.HasDefault else false then true else bif (!record_2)then bif x0.Critical then true else x0.HasDefault else false)=true then
 some (.inl false)
 else
 some (!x0.HasDefault) >>=fun t52=>
 (if t52=true then g1k (SValue.eta x0.Default,(⟨0,false,0,[],0,[],[],[]⟩:SValue))else some false) >>=fun r_2=>
 if(bif t52 then(!r_2)else false)=true then
 some (.inl false)
 else
 g1z (l_2,record_2,i,0,(⟨x0.ID,x0.Name,x0.Type_,x0.Critical,x0.HasDefault,SValue.eta x0.Default⟩:SMember)) >>=fun o_3=>
 match o_3 with
 | .inl o_4=>
 some (.inl o_4)
 | .inr o_5=>
 g30 (o_5.1,o_5.2.1,o_5.2.2.2.ID,addI .i64 o_5.2.2.1 1)
 else none
 else
 some (.inr (l_2,record_2))
  partial_fixpoint
def g59(x_:List SMember × Bool) :Option (Bool):=
 match x_ with
 | (l,record)=>
 g30 (l,record,0,0) >>=fun o=>
 match o with
 | .inl o_1=>
 some o_1
 | .inr o_2=>
 some (bif decide ((o_2.1.length:Int)≤16)then bif o_2.2 then true else decide (1≤(o_2.1.length:Int))else false)
def g14(t:SType) :Option (Bool):=
 some (bif decide (t.Kind < 1)then true else decide (9 < t.Kind)) >>=fun t10=>
 (if(!t10)=true then g2k t else some dSType) >>=fun r=>
 (if(!t10)=true then g7s (t,r)else some false) >>=fun r_1=>
 some (bif t10 then true else(!r_1)) >>=fun t17=>
 (if(!t17)=true then g1d t.Kind else some false) >>=fun r_2=>
 (if((!t17) && r_2)=true then g4r t.Name else some false) >>=fun r_3=>
 if(bif t17 then true else bif r_2 then(!r_3)else false)=true then
 some false
 else
 if decide (t.Kind=2)=true then
 some (decide (t.Low≤t.High))
 else
 if decide (t.Kind=3)=true then
 some (bif decide (0≤t.Max)then decide (t.Max≤200)else false)
 else
 if decide (t.Kind=4)=true then
 g6g t.Symbols >>=fun r_4=>
 some r_4
 else
 some (decide (t.Kind=5)) >>=fun t54=>
 if t54=true then
 if t54=true then
 g59 (t.Members,decide (t.Kind=5)) >>=fun r_5=>
 some r_5
 else
 some (decide (t.Kind=7)) >>=fun t63=>
 if t63=true then
 if t63=true then
 some (bif decide (0≤t.Max)then decide (t.Max≤50)else false)
 else
 some true
 else
 if decide (t.Kind=8)=true then
 some (bif decide (0≤t.Max)then decide (t.Max≤50)else false)
 else
 some true
 else
 if decide (t.Kind=6)=true then
 g59 (t.Members,decide (t.Kind=5)) >>=fun r_6=>
 some r_6
 else
 some (decide (t.Kind=7)) >>=fun t63_1=>
 if t63_1=true then
 if t63_1=true then
 some (bif decide (0≤t.Max)then decide (t.Max≤50)else false)
 else
 some true
 else
 if decide (t.Kind=8)=true then
 some (bif decide (0≤t.Max)then decide (t.Max≤50)else false)
 else
 some true
def g4c(x_:Int × SType × List Int) :Option (SType × List Int):=
 match x_ with
 | (i,b_2,b_3)=>
 if decide (i < (b_2.Members.length:Int))=true then
 if inR i b_2.Members.length=true then
 some [(b_2.Members.getD i.toNat dSMember).Type_] >>=fun t19=>
 if room 8 (b_3++t19).length=true then
 g4c (addI .i64 i 1,b_2,b_3++t19)
 else none
 else none
 else
 some (b_2,b_3)
  partial_fixpoint
def g9t(t:SType) :Option (List Int):=
 g4c (0,t,[]) >>=fun o=>
 if decide (o.1.Kind=8)=true then
 some [o.1.Key] >>=fun t27=>
 if room 8 (o.2++t27).length=true then
 some (o.2++t27) >>=fun l=>
 if(bif bif decide (o.1.Kind=7)then true else decide (o.1.Kind=8)then true else decide (o.1.Kind=9))=true then
 some [o.1.Elem] >>=fun t45=>
 if room 8 (l++t45).length=true then
 some (l++t45)
 else none
 else
 some l
 else none
 else
 if(bif bif decide (o.1.Kind=7)then true else decide (o.1.Kind=8)then true else decide (o.1.Kind=9))=true then
 some [o.1.Elem] >>=fun t45_1=>
 if room 8 (o.2++t45_1).length=true then
 some (o.2++t45_1)
 else none
 else
 some o.2
def g2c(x_:Int × Int × List SType × Int × List UInt8 × Int × Int × Int × List SSymbol × List SMember × Int × Int × Bool) :Option ((Int) ⊕ (Int × List SType × Int × List UInt8 × Int × Int × Int × List SSymbol × List SMember × Int × Int × Bool)):=
 match x_ with
 | (i_3,k,b_23,b_24,b_25,b_26,b_27,b_28,b_29,b_30,b_31,b_32,b_33)=>
 if decide (k < i_3)=true then
 g1d b_24 >>=fun r_3=>
 if(inR k b_23.length || (!r_3))=true then
 if(bif r_3 then decide ((b_23.getD k.toNat dSType).Name=b_25)else false)=true then
 some (.inl 1)
 else
 g2c (i_3,addI .i64 k 1,b_23,b_24,b_25,b_26,b_27,b_28,b_29,b_30,b_31,b_32,b_33)
 else none
 else
 some (.inr (i_3,b_23,b_24,b_25,b_26,b_27,b_28,b_29,b_30,b_31,b_32,b_33))
  partial_fixpoint
def g3i(x_:Int × List Int × Int × List SType × Int × List UInt8 × Int × Int × Int × List SSymbol × List SMember × Int × Int × Bool) :Option ((Int) ⊕ (Int × List SType × Int × List UInt8 × Int × Int × Int × List SSymbol × List SMember × Int × Int × Bool)):=
 match x_ with
 | (i_4,l,k_1,b_34,b_35,b_36,b_37,b_38,b_39,b_40,b_41,b_42,b_43,b_44)=>
 if decide (k_1 < (l.length:Int))=true then
 if inR k_1 l.length=true then
 some (decide (l.getD k_1.toNat 0 < 0)) >>=fun t58=>
 if(inR k_1 l.length || (!(!t58)))=true then
 if(bif t58 then true else decide ((b_34.length:Int)≤l.getD k_1.toNat 0))=true then
 some (.inl 4)
 else
 g3i (i_4,l,addI .i64 k_1 1,b_34,b_35,b_36,b_37,b_38,b_39,b_40,b_41,b_42,b_43,b_44)
 else none
 else none
 else
 some (.inr (i_4,b_34,b_35,b_36,b_37,b_38,b_39,b_40,b_41,b_42,b_43,b_44))
  partial_fixpoint
def g3g(x_:Int × List SType) :Option ((Int) ⊕ (Unit)):=
 match x_ with
 | (i,b)=>
 if decide (i < (b.length:Int))=true then
 if inR i b.length=true then
 some (b.getD i.toNat dSType) >>=fun x0=>
 g14 x0 >>=fun r=>
 if(!r)=true then
 some (.inl 1)
 else
 g2c (i,0,b,x0.Kind,x0.Name,x0.Low,x0.High,x0.Max,x0.Symbols,x0.Members,x0.Key,x0.Elem,x0.Open) >>=fun o_3=>
 match o_3 with
 | .inl o_4=>
 some (.inl o_4)
 | .inr o_5=>
 g9t (⟨o_5.2.2.1,o_5.2.2.2.1,o_5.2.2.2.2.1,o_5.2.2.2.2.2.1,o_5.2.2.2.2.2.2.1,o_5.2.2.2.2.2.2.2.1,o_5.2.2.2.2.2.2.2.2.1,o_5.2.2.2.2.2.2.2.2.2.1,o_5.2.2.2.2.2.2.2.2.2.2.1,o_5.2.2.2.2.2.2.2.2.2.2.2⟩:SType) >>=fun r_1=>
 g3i (o_5.1,r_1,0,o_5.2.1,o_5.2.2.1,o_5.2.2.2.1,o_5.2.2.2.2.1,o_5.2.2.2.2.2.1,o_5.2.2.2.2.2.2.1,o_5.2.2.2.2.2.2.2.1,o_5.2.2.2.2.2.2.2.2.1,o_5.2.2.2.2.2.2.2.2.2.1,o_5.2.2.2.2.2.2.2.2.2.2.1,o_5.2.2.2.2.2.2.2.2.2.2.2) >>=fun o_6=>
 match o_6 with
 | .inl o_7=>
 some (.inl o_7)
 | .inr o_8=>
 some (decide (o_8.2.2.1=8)) >>=fun t71=>
 if(inR o_8.2.2.2.2.2.2.2.2.2.1 o_8.2.1.length || (!t71))=true then
 (if t71=true then g57 (o_8.2.1.getD o_8.2.2.2.2.2.2.2.2.2.1.toNat dSType).Kind else some false) >>=fun r_2=>
 if(bif t71 then(!r_2)else false)=true then
 some (.inl 1)
 else
 g3g (addI .i64 o_8.1 1,o_8.2.1)
 else none
 else none
 else
 some (.inr ())
  partial_fixpoint
end
section
open Go Go.Proofs.YtandcioiaooocaaGreat.Shv
open Tryz
set_option maxRecDepth 100000
def g76(s:SSchema) :Option (Int):=
 if decide (32 < (s.Types.length:Int))=true then
 some 3
 else
 g3g (0,s.Types) >>=fun o=>
 match o with
 | .inl o_1=>
 some o_1
 | .inr o_2=>
 some 0
def g77(x_:SSchema × Int) :Option (Int):=
 match x_ with
 | (s,t)=>
 g76 s >>=fun r=>
 if(!(decide (r=0)))=true then
 some r
 else
 if(bif decide (t < 0)then true else decide ((s.Types.length:Int)≤t))=true then
 some 4
 else
 some 0
def g5e(v:SValue) :Option (Bool):=
 some (bif bif bif bif bif bif bif decide (v.Kind=1)then true else(!v.Bool_)then bif decide (v.Kind=2)then true else decide (v.Int_=0)else false then bif decide (v.Kind=3)then true else decide (v.Str=[])else false then bif bif decide (v.Kind=4)then true else decide (v.Kind=6)then true else decide (v.ID=0)else false then bif decide (v.Kind=8)then true else decide ((v.Keys.length:Int)=0)else false then bif decide (5≤v.Kind)then true else decide ((v.Items.length:Int)=0)else false then bif bif decide (v.Kind=5)then true else decide (v.Kind=6)then true else decide ((v.Rest.length:Int)=0)else false)
def g1b(x_:Int × Bool) :Option (Bool):=
 match x_ with
 | (n,known)=>
 some (bif bif (!known)then decide (1≤n)else false then decide (n≤1000)else false)
def g1f(x_:List SRaw × Int × SType) :Option ((Bool) ⊕ (Unit)):=
 match x_ with
 | (l_1,i,b)=>
 if decide (i < (l_1.length:Int))=true then
 if inR i l_1.length=true then
 g2u (b,(l_1.getD i.toNat dSRaw).ID) >>=fun r=>
 if inR i l_1.length=true then
 g1b ((l_1.getD i.toNat dSRaw).ID,r.2) >>=fun r_3=>
 some (!r_3) >>=fun t31=>
 some (decide (0 < i)) >>=fun t34=>
 if(inR i l_1.length || (!((!t31) && t34)))=true then
 some (subI .i64 i 1) >>=fun t43=>
 if(inR t43 l_1.length || (!((!t31) && t34)))=true then
 if(bif t31 then true else bif t34 then decide ((l_1.getD i.toNat dSRaw).ID≤(l_1.getD t43.toNat dSRaw).ID)else false)=true then
 some (.inl false)
 else
 g1f (l_1,addI .i64 i 1,b)
 else none
 else none
 else none
 else none
 else
 some (.inr ())
  partial_fixpoint
def g4m(x_:SType × List SRaw) :Option (Bool):=
 match x_ with
 | (t,l)=>
 g1f (l,0,t) >>=fun o=>
 match o with
 | .inl o_1=>
 some o_1
 | .inr o_2=>
 some true
def g10(x_:Int × SValue) :Option ((Bool) ⊕ (Unit)):=
 match x_ with
 | (i_1,b_12)=>
 if decide (i_1 < (b_12.Keys.length:Int))=true then
 some (subI .i64 i_1 1) >>=fun t270=>
 if inR t270 b_12.Keys.length=true then
 if inR i_1 b_12.Keys.length=true then
 g2i (SValue.eta (b_12.Keys.getD t270.toNat dSValue),SValue.eta (b_12.Keys.getD i_1.toNat dSValue)) >>=fun r_16=>
 if decide (0≤r_16)=true then
 some (.inl false)
 else
 g10 (addI .i64 i_1 1,SValue.eta b_12)
 else none
 else none
 else
 some (.inr ())
  partial_fixpoint
mutual
def g49(x_:SSchema × Int × List SValue × Bool) :Option (Bool):=
 match x_ with
 | (s,t,l,plain)=>
 g1l (t,l,plain,0,s.Types) >>=fun o=>
 match o with
 | .inl o_1=>
 some o_1
 | .inr o_2=>
 some true
  partial_fixpoint
def g1e(x_:SSchema × Int × SValue × Bool) :Option (Bool):=
 match x_ with
 | (s,t,v,plain)=>
 if(bif decide (t < 0)then true else decide ((s.Types.length:Int)≤t))=true then
 some false
 else
 if inR t s.Types.length=true then
 some (s.Types.getD t.toNat dSType) >>=fun x0=>
 some (!(decide (v.Kind=x0.Kind))) >>=fun t34=>
 (if(!t34)=true then g5e (SValue.eta v)else some false) >>=fun r=>
 if(bif bif t34 then true else(!r)then true else bif plain then decide (0 < (v.Rest.length:Int))else false)=true then
 some false
 else
 if decide (x0.Kind=1)=true then
 some true
 else
 if decide (x0.Kind=2)=true then
 some (bif decide (x0.Low≤v.Int_)then decide (v.Int_≤x0.High)else false)
 else
 if decide (x0.Kind=3)=true then
 some (decide ((v.Str.length:Int)≤x0.Max))
 else
 if decide (x0.Kind=4)=true then
 g5l (x0,v.ID) >>=fun r_1=>
 some (bif x0.Open then(!plain)else false) >>=fun t91=>
 (if((!r_1.2) && t91)=true then g1b (v.ID,r_1.2)else some false) >>=fun r_4=>
 some (bif r_1.2 then true else bif t91 then r_4 else false)
 else
 if decide (x0.Kind=5)=true then
 some (!(decide ((v.Items.length:Int)=(x0.Members.length:Int)))) >>=fun t107=>
 (if(!t107)=true then g4m (x0,v.Rest)else some false) >>=fun r_5=>
 if(bif t107 then true else(!r_5))=true then
 some false
 else
 g15 (plain,0,s.Types,SValue.eta v,x0.Kind,x0.Name,x0.Low,x0.High,x0.Max,x0.Symbols,x0.Members,x0.Key,x0.Elem,x0.Open) >>=fun o=>
 match o with
 | .inl o_1=>
 some o_1
 | .inr o_2=>
 some true
 else
 if decide (x0.Kind=6)=true then
 g2u (x0,v.ID) >>=fun r_6=>
 if r_6.2=true then
 some (bif decide ((v.Items.length:Int)=1)then decide ((v.Rest.length:Int)=0)else false) >>=fun t156=>
 if(inR r_6.1 x0.Members.length || (!t156))=true then
 if(inR 0 v.Items.length || (!t156))=true then
 (if t156=true then g1e (s,(x0.Members.getD r_6.1.toNat dSMember).Type_,SValue.eta (v.Items.getD (0:Int).toNat dSValue),plain)else some false) >>=fun r_9=>
 some (bif t156 then r_9 else false)
 else none
 else none
 else
 some (bif x0.Open then(!plain)else false) >>=fun t177=>
 (if t177=true then g1b (v.ID,r_6.2)else some false) >>=fun r_10=>
 some (bif bif bif t177 then r_10 else false then decide ((v.Items.length:Int)=0)else false then decide ((v.Rest.length:Int)=1)else false) >>=fun t195=>
 if(inR 0 v.Rest.length || (!t195))=true then
 some (bif t195 then decide ((v.Rest.getD (0:Int).toNat dSRaw).ID=v.ID)else false)
 else none
 else
 if decide (x0.Kind=7)=true then
 some (decide ((v.Items.length:Int)≤x0.Max)) >>=fun t213=>
 (if t213=true then g49 (s,x0.Elem,v.Items,plain)else some false) >>=fun r_11=>
 some (bif t213 then r_11 else false)
 else
 if decide (x0.Kind=8)=true then
 some (bif decide (x0.Max < (v.Keys.length:Int))then true else(!(decide ((v.Items.length:Int)=(v.Keys.length:Int))))) >>=fun t239=>
 (if(!t239)=true then g49 (s,x0.Key,v.Keys,plain)else some false) >>=fun r_12=>
 some (bif t239 then true else(!r_12)) >>=fun t249=>
 (if(!t249)=true then g49 (s,x0.Elem,v.Items,plain)else some false) >>=fun r_13=>
 if(bif t249 then true else(!r_13))=true then
 some false
 else
 g10 (1,SValue.eta v) >>=fun o_3=>
 match o_3 with
 | .inl o_4=>
 some o_4
 | .inr o_5=>
 some true
 else
 some (decide ((v.Items.length:Int)≤1)) >>=fun t283=>
 (if t283=true then g49 (s,x0.Elem,v.Items,plain)else some false) >>=fun r_14=>
 some (bif t283 then r_14 else false)
 else none
  partial_fixpoint
def g1l(x_:Int × List SValue × Bool × Int × List SType) :Option ((Bool) ⊕ (Unit)):=
 match x_ with
 | (t_1,l_1,plain_1,i,b)=>
 if decide (i < (l_1.length:Int))=true then
 if inR i l_1.length=true then
 g1e ((⟨b⟩:SSchema),t_1,SValue.eta (l_1.getD i.toNat dSValue),plain_1) >>=fun r=>
 if(!r)=true then
 some (.inl false)
 else
 g1l (t_1,l_1,plain_1,addI .i64 i 1,b)
 else none
 else
 some (.inr ())
  partial_fixpoint
def g15(x_:Bool × Int × List SType × SValue × Int × List UInt8 × Int × Int × Int × List SSymbol × List SMember × Int × Int × Bool) :Option ((Bool) ⊕ (Unit)):=
 match x_ with
 | (plain_1,i,b,b_1,b_2,b_3,b_4,b_5,b_6,b_7,b_8,b_9,b_10,b_11)=>
 if decide (i < (b_1.Items.length:Int))=true then
 if inR i b_8.length=true then
 if inR i b_1.Items.length=true then
 g1e ((⟨b⟩:SSchema),(b_8.getD i.toNat dSMember).Type_,SValue.eta (b_1.Items.getD i.toNat dSValue),plain_1) >>=fun r_15=>
 if(!r_15)=true then
 some (.inl false)
 else
 g15 (plain_1,addI .i64 i 1,b,SValue.eta b_1,b_2,b_3,b_4,b_5,b_6,b_7,b_8,b_9,b_10,b_11)
 else none
 else none
 else
 some (.inr ())
  partial_fixpoint
end
def g99(x_:SSchema × Int × SValue) :Option (Bool):=
 match x_ with
 | (s,t,v)=>
 g1e (s,t,SValue.eta v,true) >>=fun r=>
 some r
def gc8(x_:SSchema × Int × SValue × SSchema × Int) :Option (Int):=
 match x_ with
 | (w,wt,v,r,rt)=>
 g77 (w,wt) >>=fun r_1=>
 if(!(decide (r_1=0)))=true then
 some r_1
 else
 g77 (r,rt) >>=fun r_2=>
 if(!(decide (r_2=0)))=true then
 some r_2
 else
 g99 (w,wt,SValue.eta v) >>=fun r_3=>
 if(!r_3)=true then
 some 1
 else
 some 0
end
section
open Go Go.Proofs.YtandcioiaooocaaGreat.Shv
open Tryz
set_option maxRecDepth 100000
set_option linter.all false
end
section
open Go Go.Proofs.YtandcioiaooocaaGreat.Shv
open Tryz
set_option maxRecDepth 100000
set_option linter.all false
end
section
open Go Go.Proofs.YtandcioiaooocaaGreat.Shv
open Tryz
set_option maxRecDepth 100000
set_option linter.all false
end
section
open Go Go.Proofs.YtandcioiaooocaaGreat.Shv
open Tryz
set_option maxRecDepth 100000
set_option linter.all false
end
section
open Go Go.Proofs.YtandcioiaooocaaGreat.Shv
open Tryz
set_option maxRecDepth 100000
set_option linter.all false
end
section
open Go Go.Proofs.YtandcioiaooocaaGreat.Shv
open Tryz
set_option maxRecDepth 100000
set_option linter.all false
end
section
open Go Go.Proofs.YtandcioiaooocaaGreat.Shv
open Tryz
set_option maxRecDepth 100000
set_option linter.all false
end
section
open Go Go.Proofs.YtandcioiaooocaaGreat.Shv
set_option maxRecDepth 100000
set_option linter.all false
end
section
open Go Go.Proofs.YtandcioiaooocaaGreat.Shv
set_option maxRecDepth 100000
set_option linter.all false
end
section
open Go Go.Proofs.YtandcioiaooocaaGreat.Shv
set_option maxRecDepth 100000
def vput(n:Nat) :List UInt8:=if n < 128 then[UInt8.ofNat n]else UInt8.ofNat (n % 128+128)::vput (n / 128)
termination_by n
decreasing_by omega
theorem g4z{n:Nat}(h:n < 256) :(UInt8.ofNat n).toNat=n:=by
 rw[UInt8.toNat_ofNat'];exact Nat.mod_eq_of_lt h
def g112(p:List UInt8) :List UInt8:=vput p.length++p
theorem gjj{n:Nat}(h:n≤9223372036854775807) :decide (n≤g2l)=true:=by
 unfold g2l;simp;omega
def g113(id:Nat)(c:Bool)(p:List UInt8) :List UInt8:=vput (2*id+(if c then 1 else 0))++g112 p
end
section
open Go Go.Proofs.YtandcioiaooocaaGreat.Shv
set_option maxRecDepth 100000
inductive OkV:SValue→Prop
 | mk (v : SValue) (hs : v.Str.length ≤ reachBytes) (h1 : v.Keys.length ≤ reachBytes) (h2 : v.Items.length ≤ reachBytes) (h3 : v.Rest.length ≤ reachBytes)
     (hk:∀x,x∈v.Keys→OkV x) (hi:∀x,x∈v.Items→OkV x) (hr:∀x,x∈v.Rest→x.Data.length≤reachBytes)
     (n1: -9223372036854775808≤v.Kind∧v.Kind≤9223372036854775807) (n2: -9223372036854775808≤v.Int_∧v.Int_≤9223372036854775807) (n3: -9223372036854775808≤v.ID∧v.ID≤9223372036854775807)
     (n4:∀x,x∈v.Rest→-9223372036854775808≤x.ID∧x.ID≤9223372036854775807):OkV v
theorem g17{n:Nat}(h:n≤reachBytes) :n < 9223372036854775807:=Nat.lt_of_le_of_lt h (by decide)
theorem scan {γ : Type} (L : Nat → Option γ) (n : Nat) (p : Nat → Bool) (bad good : γ) (hstep : ∀ i, i < n → L i = if p i = true then L (i + 1) else some bad) (hend : L n = some good) :
   (L 0=some good∧∀j,j < n→p j=true)∨(L 0=some bad∧∃j,j < n∧p j=false):=by
 have key:∀k i,i+k=n→(L i=some good∧∀j,i≤j→j < n→p j=true)∨(L i=some bad∧∃j,j < n∧p j=false):=by
   intro k
   induction k with
   | zero => intro i hi; have : i = n := by omega
             subst this;exact .inl ⟨hend,fun j h1 h2=>by omega⟩
   | succ k ih=>
     intro i hi;rw[hstep i (by omega)];cases hp:p i with
     | true=>
       rw[if_pos rfl];rcases ih (i+1) (by omega)with⟨h1,h2⟩ | h
       · refine .inl ⟨h1,fun j hj1 hj2=>?_⟩;rcases Nat.lt_or_ge i j with h | h
         · exact h2 j h hj2
         · have:j=i:=by omega
           subst this;exact hp
       · exact .inr h
     | false=>exact .inr ⟨by rw[if_neg (by simp)],i,by omega,hp⟩
 rcases key n 0 (by omega)with⟨h1,h2⟩ | h
 · exact .inl ⟨h1,fun j hj=>h2 j (Nat.zero_le _) hj⟩
 · exact .inr h
theorem g11{α:Type}{l:List α}{i:Nat}(h:i < l.length)(d:α) :l.getD i d=l[i]:=by
 rw[List.getD_eq_getElem?_getD,List.getElem?_eq_getElem h];rfl
theorem g61 {α : Type} {a b : List α} {p : Nat → Bool} (hl : a.length = b.length) (hp : ∀ (i : Nat) (h1 : i < a.length) (h2 : i < b.length), p i = true ↔ a[i] = b[i]) :
   (∀j,j < a.length→p j=true)↔a=b:=by
 constructor
 · intro h;exact List.ext_getElem hl fun i h1 h2=>(hp i h1 h2).1 (h i h1)
 · rintro rfl j hj
   exact(hp j hj hj).2 rfl
def Says{α:Type}(o:Option Bool)(a b:α) :Prop:=∃r,o=some r∧(r=true↔a=b)
theorem Says.of_scan {α : Type} {a b : List α} {p : Nat → Bool} (hl : a.length = b.length) (hp : ∀ (i : Nat) (h1 : i < a.length) (h2 : i < b.length), p i = true ↔ a[i] = b[i]) {o : Option Bool}
   (h:(o=some true∧∀j,j < a.length→p j=true)∨(o=some false∧∃j,j < a.length∧p j=false)):Says o a b:=by
 rcases h with⟨h1,h2⟩ | ⟨h1,j,h2,h3⟩
 · exact⟨true,h1,by simp[(g61 hl hp).1 h2]⟩
 · refine⟨false,h1,?_⟩;constructor
   · intro h;cases h
   · intro h;have:=(g61 hl hp).2 h j h2;rw[h3]at this;cases this
theorem gwd{a b:SRaw} :(eqI a.ID b.ID && (eqS a.Data b.Data && true))=true↔a=b:=by
 cases a;cases b;simp[eqI,eqS]
theorem gwe{a b:SSymbol} :(eqI a.ID b.ID && (eqS a.Name b.Name && true))=true↔a=b:=by
 cases a;cases b;simp[eqI,eqS]
theorem g114{α:Type}{a b:List α}(h:¬a.length=b.length) :a≠b:=fun e=>h (congrArg List.length e)
theorem gbd{α:Type}{a b:List α}(h:¬a.length=b.length) :Says (some false) a b:=⟨false,rfl,by simp[g114 h]⟩
theorem gwf{a b:List SRaw}(ha:a.length≤reachBytes) :Says (g1m (a,b)) a b:=by
 rw[g1m];by_cases hl:a.length=b.length
 · rw[if_neg (by simp;omega)];have hr:=g17 ha;have:=scan (fun i=>gr (a,b,(a.length:Int),(i:Int))) a.length (fun i=>eqI (a.getD i dSRaw).ID (b.getD i dSRaw).ID && (eqS (a.getD i dSRaw).Data (b.getD i dSRaw).Data && true)) (.inl false) (.inr ())
     (fun i hi=>by
       rw[gr,if_pos (by simp;omega),if_pos (g7 hi)];simp only[oZ4,oZ3,g6];rw[if_pos (g7 (by omega)),gq (by omega)];generalize (eqI (a.getD i dSRaw).ID (b.getD i dSRaw).ID && (eqS (a.getD i dSRaw).Data (b.getD i dSRaw).Data && true))=c
       cases c <;> rfl)
     (by rw[gr,if_neg (by simp)])
   have h0:gr (a,b,(a.length:Int),((0:Nat):Int))=gr (a,b,(a.length:Int),0):=rfl;simp only[h0]at this;refine Says.of_scan (p:=fun i=>eqI (a.getD i dSRaw).ID (b.getD i dSRaw).ID && (eqS (a.getD i dSRaw).Data (b.getD i dSRaw).Data && true)) hl (fun i h1 h2=>by simp only[g11 h1,g11 h2];exact gwd) ?_;rcases this with⟨h1,h2⟩ | ⟨h1,h2⟩
   · exact .inl ⟨by rw[h1];rfl,h2⟩
   · exact .inr ⟨by rw[h1];rfl,h2⟩
 · rw[if_pos (by simp;omega)];exact gbd hl
theorem g115{a b:List SSymbol}(ha:a.length≤reachBytes) :Says (g3b (a,b)) a b:=by
 rw[g3b];by_cases hl:a.length=b.length
 · rw[if_neg (by simp;omega)];have hr:=g17 ha;have:=scan (fun i=>gz (a,b,(a.length:Int),(i:Int))) a.length (fun i=>eqI (a.getD i dSSymbol).ID (b.getD i dSSymbol).ID && (eqS (a.getD i dSSymbol).Name (b.getD i dSSymbol).Name && true)) (.inl false) (.inr ())
     (fun i hi=>by
       rw[gz,if_pos (by simp;omega),if_pos (g7 hi)];simp only[oZ4,oZ3,g6];rw[if_pos (g7 (by omega)),gq (by omega)];generalize (eqI (a.getD i dSSymbol).ID (b.getD i dSSymbol).ID && (eqS (a.getD i dSSymbol).Name (b.getD i dSSymbol).Name && true))=c
       cases c <;> rfl)
     (by rw[gz,if_neg (by simp)])
   have h0:gz (a,b,(a.length:Int),((0:Nat):Int))=gz (a,b,(a.length:Int),0):=rfl;simp only[h0]at this;refine Says.of_scan (p:=fun i=>eqI (a.getD i dSSymbol).ID (b.getD i dSSymbol).ID && (eqS (a.getD i dSSymbol).Name (b.getD i dSSymbol).Name && true)) hl (fun i h1 h2=>by simp only[g11 h1,g11 h2];exact gwe) ?_;rcases this with⟨h1,h2⟩ | ⟨h1,h2⟩
   · exact .inl ⟨by rw[h1];rfl,h2⟩
   · exact .inr ⟨by rw[h1];rfl,h2⟩
 · rw[if_pos (by simp;omega)];exact gbd hl
theorem gec(v:SValue) :(⟨v.Kind,v.Bool_,v.Int_,v.Str,v.ID,v.Keys,v.Items,v.Rest⟩:SValue)=v:=by cases v;rfl
theorem ged{a b:SValue} :a=b↔a.Kind=b.Kind∧a.Bool_=b.Bool_∧a.Int_=b.Int_∧a.Str=b.Str∧a.ID=b.ID∧a.Rest=b.Rest∧a.Keys=b.Keys∧a.Items=b.Items:=by
 constructor
 · rintro rfl;exact⟨rfl,rfl,rfl,rfl,rfl,rfl,rfl,rfl⟩
 · cases a;cases b
   rintro ⟨h1,h2,h3,h4,h5,h6,h7,h8⟩
   simp only at*;subst h1;subst h2;subst h3;subst h4;subst h5;subst h6;subst h7;subst h8;rfl
section
variable {f:SValue × SValue→Option Bool}
theorem gh9 {a b : List SValue} (hl : a.length = b.length) (ih : ∀ x, x ∈ a → ∀ y, Says (f (x, y)) x y) (L : Nat → Option (Bool ⊕ Unit))
   (hstep:∀i,i < a.length→L i=(f (SValue.eta (a.getD i dSValue),SValue.eta (b.getD i dSValue)) >>=fun r=>if(!r)=true then some (.inl false)else L (i+1)))
   (hend:L a.length=some (.inr ())):Says (L 0 >>=fun o=>match o with | .inl x=>some x | .inr _=>some true) a b:=by
 have hget:∀(i:Nat) (h1:i < a.length) (h2:i < b.length),Says (f (SValue.eta (a.getD i dSValue),SValue.eta (b.getD i dSValue))) a[i] b[i]:=by
   intro i h1 h2;rw[g11 h1,g11 h2,SValue.gk,SValue.gk];exact ih _ (List.getElem_mem h1) _
 have:=scan L a.length (fun i=>(f (SValue.eta (a.getD i dSValue),SValue.eta (b.getD i dSValue))).getD false) (.inl false) (.inr ())
   (fun i hi=>by
     obtain⟨r,h1,h2⟩:=hget i hi (by omega);rw[hstep i hi,h1]
     cases r <;> rfl) hend
 refine Says.of_scan hl (fun i h1 h2=>?_) ?_ (p:=fun i=>(f (SValue.eta (a.getD i dSValue),SValue.eta (b.getD i dSValue))).getD false)
 · obtain⟨r,h3,h4⟩:=hget i h1 h2;rw[h3];exact h4
 · rcases this with⟨h1,h2⟩ | ⟨h1,h2⟩
   · exact .inl ⟨by rw[h1];rfl,h2⟩
   · exact .inr ⟨by rw[h1];rfl,h2⟩
end
theorem gsj{a b:List SValue}(ha:a.length≤reachBytes)(ih:∀x,x∈a→∀y,Says (g5g (x,y)) x y) :Says (gx (a,b)) a b:=by
 rw[gx];by_cases hl:a.length=b.length
 · rw[if_neg (by simp;omega)];have hr:=g17 ha;exact gh9 hl ih (fun i=>gt (b,a,(a.length:Int),(i:Int)))
     (fun i hi=>by
       rw[gt,if_pos (by simp;omega),if_pos (g7 hi),if_pos (g7 (by omega)),gq (by omega)]
       rfl)
     (by rw[gt,if_neg (by simp)])
 · rw[if_pos (by simp;omega)];exact gbd hl
theorem gsk{a b:List SValue}(ha:a.length≤reachBytes)(ih:∀x,x∈a→∀y,Says (g3w (x,y)) x y) :Says (g13 (a,b)) a b:=by
 rw[g13];by_cases hl:a.length=b.length
 · rw[if_neg (by simp;omega)];have hr:=g17 ha;exact gh9 hl ih (fun i=>gv (b,a,(a.length:Int),(i:Int)))
     (fun i hi=>by
       rw[gv,if_pos (by simp;omega),if_pos (g7 hi),if_pos (g7 (by omega)),gq (by omega)]
       rfl)
     (by rw[gv,if_neg (by simp)])
 · rw[if_pos (by simp;omega)];exact gbd hl
theorem gsl{a b:List SValue}(ha:a.length≤reachBytes)(ih:∀x,x∈a→∀y,Says (g1k (x,y)) x y) :Says (g4g (a,b)) a b:=by
 rw[g4g];by_cases hl:a.length=b.length
 · rw[if_neg (by simp;omega)];have hr:=g17 ha;exact gh9 hl ih (fun i=>g31 (a,b,(i:Int)))
     (fun i hi=>by
       rw[g31,if_pos (by simp;omega),if_pos (g7 hi),if_pos (g7 (by omega)),gq (by omega)]
       rfl)
     (by rw[g31,if_neg (by simp)])
 · rw[if_pos (by simp;omega)];exact gbd hl
theorem three {a b : SValue} {h5 : Bool} (e5 : h5 = true ↔ a.Kind = b.Kind ∧ a.Bool_ = b.Bool_ ∧ a.Int_ = b.Int_ ∧ a.Str = b.Str ∧ a.ID = b.ID) {x y z : Option Bool} (hx : Says x a.Rest b.Rest) (hy : Says y a.Keys b.Keys) (hz : Says z a.Items b.Items) :
   Says (some h5 >>=fun t37=>(if t37=true then x else some false) >>=fun r=>some (bif t37 then r else false) >>=fun t44=>(if t44=true then y else some false) >>=fun r_1=>some (bif t44 then r_1 else false) >>=fun t51=>(if t51=true then z else some false) >>=fun r_2=>some (bif t51 then r_2 else false)) a b:=by
 obtain⟨rx,hx1,hx2⟩:=hx;obtain⟨ry,hy1,hy2⟩:=hy;obtain⟨rz,hz1,hz2⟩:=hz;subst hx1;subst hy1;subst hz1;refine⟨h5 && rx && ry && rz,?_,?_⟩
 · cases h5 <;> cases rx <;> cases ry <;> rfl
 · rw[ged];simp only[Bool.and_eq_true];rw[e5,hx2,hy2,hz2];constructor
   · rintro ⟨⟨⟨⟨h1,h2,h3,h4,h5⟩,h6⟩,h7⟩,h8⟩;exact⟨h1,h2,h3,h4,h5,h6,h7,h8⟩
   · rintro ⟨h1,h2,h3,h4,h5,h6,h7,h8⟩;exact⟨⟨⟨⟨h1,h2,h3,h4,h5⟩,h6⟩,h7⟩,h8⟩
theorem five{a b:SValue} :(bif bif bif bif decide (a.Kind=b.Kind)then eqB a.Bool_ b.Bool_ else false then decide (a.Int_=b.Int_)else false then decide (a.Str=b.Str)else false then decide (a.ID=b.ID)else false)=true↔a.Kind=b.Kind∧a.Bool_=b.Bool_∧a.Int_=b.Int_∧a.Str=b.Str∧a.ID=b.ID:=by
 simp only[Bool.cond_eq_ite,eqB];by_cases h1:a.Kind=b.Kind <;> by_cases h2:a.Bool_=b.Bool_ <;> by_cases h3:a.Int_=b.Int_ <;> by_cases h4:a.Str=b.Str <;> simp[h1,h2,h3,h4]
theorem guc{a:SValue}(h:OkV a) :∀b,Says (g5g (a,b)) a b:=by
 induction h with
 | mk a hs h1 h2 h3 hk hi hr n1 n2 n3 n4 ihk ihi=>
   intro b;rw[g5g];exact three five (gwf h3) (gsj h1 ihk) (gsj h2 ihi)
theorem gcl{a:SValue}(h:OkV a) :∀b,Says (g3w (a,b)) a b:=by
 induction h with
 | mk a hs h1 h2 h3 hk hi hr n1 n2 n3 n4 ihk ihi=>
   intro b;rw[g3w];exact three five (gwf h3) (gsk h1 ihk) (gsk h2 ihi)
theorem gny{a:SValue}(h:OkV a) :∀b,Says (g1k (a,b)) a b:=by
 induction h with
 | mk a hs h1 h2 h3 hk hi hr n1 n2 n3 n4 ihk ihi=>
   intro b;rw[g1k];by_cases h5:a.Kind=b.Kind∧a.Bool_=b.Bool_∧a.Int_=b.Int_∧a.Str=b.Str∧a.ID=b.ID∧a.Rest.length=b.Rest.length
   · obtain⟨e1,e2,e3,e4,e5,e6⟩:=h5;rw[if_neg (by simp[e1,e2,e3,e4,e5,e6,eqB])];have hr3:=g17 h3;have hsc:=scan (fun i=>g1o ((i:Int),a,b)) a.Rest.length (fun i=>eqI (a.Rest.getD i dSRaw).ID (b.Rest.getD i dSRaw).ID && (eqS (a.Rest.getD i dSRaw).Data (b.Rest.getD i dSRaw).Data && true)) (.inl false) (.inr (a,b))
       (fun i hi'=>by
         rw[g1o,if_pos (by simp;omega),if_pos (g7 hi')];simp only[oZ4,oZ3,g6,SValue.gk];rw[if_pos (g7 (by omega)),gq (by omega)];generalize (eqI (a.Rest.getD i dSRaw).ID (b.Rest.getD i dSRaw).ID && (eqS (a.Rest.getD i dSRaw).Data (b.Rest.getD i dSRaw).Data && true))=c
         cases c <;> rfl)
       (by rw[g1o,if_neg (by simp),SValue.gk,SValue.gk])
     have h0:g1o (((0:Nat):Int),a,b)=g1o (0,a,b):=rfl;simp only[h0]at hsc;rw[gec,gec];have hp:∀(i:Nat) (h1:i < a.Rest.length) (h2:i < b.Rest.length),(eqI (a.Rest.getD i dSRaw).ID (b.Rest.getD i dSRaw).ID && (eqS (a.Rest.getD i dSRaw).Data (b.Rest.getD i dSRaw).Data && true))=true↔a.Rest[i]=b.Rest[i]:=fun i h1 h2=>by
       rw[g11 h1,g11 h2];exact gwd
     rcases hsc with⟨g1,g2⟩ | ⟨g1,j,g2,g3⟩
     · have hrest:=(g61 e6 hp).1 g2;rw[g1];obtain⟨rk,k1,k2⟩:=gsl (a:=a.Keys) (b:=b.Keys) h1 ihk;obtain⟨ri,i1,i2⟩:=gsl (a:=a.Items) (b:=b.Items) h2 ihi;simp only[oZ4,oZ3];rw[k1,i1];refine⟨rk && ri,by cases rk <;> rfl,?_⟩;rw[ged,Bool.and_eq_true,k2,i2];constructor
       · rintro ⟨q1,q2⟩;exact⟨e1,e2,e3,e4,e5,hrest,q1,q2⟩
       · rintro ⟨_,_,_,_,_,_,q1,q2⟩;exact⟨q1,q2⟩
     · rw[g1];refine⟨false,rfl,?_⟩;constructor
       · intro h;cases h
       · intro h;have:=(g61 e6 hp).2 (ged.1 h).2.2.2.2.2.1 j g2;rw[g3]at this;cases this
   · rw[if_pos]
     · refine⟨false,rfl,?_⟩;constructor
       · intro h;cases h
       · intro h
         exfalso;apply h5
         obtain⟨q1,q2,q3,q4,q5,q6,_⟩:=ged.1 h;exact⟨q1,q2,q3,q4,q5,by rw[q6]⟩
     · simp only[Bool.cond_eq_ite,eqB];by_cases q1:a.Kind=b.Kind <;> by_cases q2:a.Bool_=b.Bool_ <;> by_cases q3:a.Int_=b.Int_ <;> by_cases q4:a.Str=b.Str <;> by_cases q5:a.ID=b.ID <;> simp[q1,q2,q3,q4,q5]
       intro q6;exact h5 ⟨q1,q2,q3,q4,q5,by omega⟩
end
section
open Go Go.Proofs.YtandcioiaooocaaGreat.Shv
set_option maxRecDepth 100000
def g7k(c:Int) :Bool:=decide (c=95∨(97≤c∧c≤122)∨(65≤c∧c≤90))
def gjk(c:Int) :Bool:=decide (48≤c∧c≤57)
theorem gee(c:Int) :g7e c=some (g7k c):=by
 rw[g7e];unfold g7k
 congr 1
 by_cases h1:c=95 <;> by_cases h2:97≤c <;> by_cases h3:c≤122 <;> by_cases h4:65≤c <;> by_cases h5:c≤90 <;> simp[h1,h2,h3,h4,h5] <;> omega
theorem gos(c:Int) :g6v c=some (g7k c):=by
 rw[g6v];unfold g7k
 congr 1
 by_cases h1:c=95 <;> by_cases h2:97≤c <;> by_cases h3:c≤122 <;> by_cases h4:65≤c <;> by_cases h5:c≤90 <;> simp[h1,h2,h3,h4,h5] <;> omega
theorem gxl(c:Int) :g9l c=some (gjk c):=by
 rw[g9l];unfold gjk;by_cases h2:48≤c <;> by_cases h3:c≤57 <;> simp[h2,h3]
theorem gxm(c:Int) :g98 c=some (gjk c):=by
 rw[g98];unfold gjk;by_cases h2:48≤c <;> by_cases h3:c≤57 <;> simp[h2,h3]
theorem gqq {γ : Type} (A B I : Bool) (X Y : Option γ) (hI : I = true) :
   (some A >>=fun r_1=>some (!r_1) >>=fun t26=>if(I || (!t26))=true then(if t26=true then some B else some false) >>=fun r_2=>if(bif t26 then(!r_2)else false)=true then X else Y else none)=if(A || B)=true then Y else X:=by
 subst hI;cases A <;> cases B <;> rfl
theorem gsm(s:List UInt8) :∃r,g2v s=some r∧g4r s=some r:=by
 rw[g2v,g4r];simp only[oZ4,oZ3];by_cases hb:s=[]∨24 < s.length
 · have ht:(bif decide (s=[])then true else decide (24 < (s.length:Int)))=true:=by
     rcases hb with h | h
     · simp[h]
     · simp;omega
   rw[ht];exact⟨false,by simp,by simp⟩
 · have hne:s≠[]:=fun h=>hb (.inl h)
   have hlen:s.length≤24:=by omega
   have ht:(bif decide (s=[])then true else decide (24 < (s.length:Int)))=false:=by
     simp[hne];omega
   have hpos:0 < s.length:=List.length_pos_iff.2 hne;have hin:inR 0 s.length=true:=g7 (k:=0) hpos;simp only[ht,hin,Bool.true_or,if_true,Bool.not_false,oZ3,gee,gos,cond_false];cases hl:g7k (g69 s 0)with
   | false=>exact⟨false,rfl,rfl⟩
   | true=>
     rw[if_neg (by simp),if_neg (by simp)]
     let p:Nat→Bool:=fun i=>g7k (g69 s i) || gjk (g69 s i)
     have s1:=scan (fun i=>g21 (s,(s.length:Int),(i:Int))) s.length p (.inl false) (.inr ())
       (fun i hi=>by
         rw[g21,if_pos (by simp;omega),if_pos (g7 hi),gee,gxl,gq (by omega)]
         exact gqq _ _ _ _ _ (g7 hi))
       (by rw[g21,if_neg (by simp)])
     have s2:=scan (fun i=>g38 (s,(i:Int))) s.length p (.inl false) (.inr ())
       (fun i hi=>by
         rw[g38,if_pos (by simp;omega),if_pos (g7 hi),gos,gxm,gq (by omega)]
         exact gqq _ _ _ _ _ (g7 hi))
       (by rw[g38,if_neg (by simp)])
     have e1:g21 (s,(s.length:Int),((0:Nat):Int))=g21 (s,(s.length:Int),0):=rfl;have e2:g38 (s,((0:Nat):Int))=g38 (s,0):=rfl;simp only[e1,e2]at s1 s2;rcases s1 with⟨a1,a2⟩ | ⟨a1,j,a2,a3⟩ <;> rcases s2 with⟨b1,b2⟩ | ⟨b1,k,b2,b3⟩
     · exact⟨true,by rw[a1];rfl,by rw[b1];rfl⟩
     · have:=a2 k b2;rw[b3]at this;cases this
     · have:=b2 j a2;rw[a3]at this;cases this
     · exact⟨false,by rw[a1];rfl,by rw[b1];rfl⟩
def nm(s:List UInt8) :Bool:=(g2v s).getD false
theorem lexNm(s:List UInt8) :g2v s=some (nm s):=by
 obtain⟨r,h1,_⟩:=gsm s;unfold nm;rw[h1];rfl
theorem refNm(s:List UInt8) :g4r s=some (nm s):=by
 obtain⟨r,h1,h2⟩:=gsm s;unfold nm;rw[h1,h2];rfl
theorem nm_ne{s:List UInt8}(h:nm s=true) :s≠[]:=by
 rintro rfl
 unfold nm at h;rw[g2v]at h;simp at h
def idp(l:List Int)(names:List (List UInt8))(i:Nat) :Bool:=
 decide (1≤l.getD i 0) && decide (l.getD i 0≤1000) && (decide (i=0) || decide (l.getD (i - 1) 0 < l.getD i 0)) && nm (names.getD i []) && !((names.take i).contains (names.getD i []))
def setOf(l:List (List UInt8)) :List (List UInt8):=l.foldl addS []
theorem gxn(ks:List (List UInt8))(a s:List UInt8) :hasS (addS ks a) s=(hasS ks s || decide (a=s)):=by
 unfold addS;split
 · rename_i h;by_cases e:a=s
   · subst e;simp[h]
   · simp[e]
 · simp[hasS,List.any_append]
theorem gn5(l:List (List UInt8))(s:List UInt8) :hasS (setOf l) s=l.contains s:=by
 have key:∀(l:List (List UInt8)) (ks:List (List UInt8)),hasS (l.foldl addS ks) s=(hasS ks s || l.contains s):=by
   intro l
   induction l with
   | nil=>intro ks;simp
   | cons a r ih=>
     intro ks;rw[List.foldl_cons,ih,gxn,Bool.or_assoc]
     congr 1
     rw[List.contains_cons]
     congr 1
     by_cases e:a=s
     · subst e;simp
     · have:¬s=a:=fun h=>e h.symm
       simp[e,this]
 have:=key l []
 simpa[setOf,hasS]using this
theorem gn6{l:List (List UInt8)}{i:Nat}(h:i < l.length) :addS (setOf (l.take i)) (l.getD i [])=setOf (l.take (i+1)):=by
 unfold setOf;rw[List.take_add_one,List.foldl_append,List.getElem?_eq_getElem h,g11 h];rfl
theorem gyk {γ : Type} (A Z I1 C I H N : Bool) (X Y : Option γ) (hI : I = true) (hI1 : Z = true → I1 = true) :
   (if(I1 || (!((!A) && Z)))=true then
     some (bif A then true else bif Z then C else false) >>=fun t34=>
     if(I || (!(!t34)))=true then
       some (bif t34 then true else H) >>=fun t42=>
       if(I || (!(!t42)))=true then
         (if(!t42)=true then some N else some false) >>=fun r=>
         if(bif t42 then true else(!r))=true then X else(if I=true then Y else none)
       else none
     else none
   else none)=if(!A && (!Z || !C) && N && !H)=true then Y else X:=by
 subst hI;cases Z with
 | true=>have:=hI1 rfl;subst this;cases A <;> cases C <;> cases H <;> cases N <;> rfl
 | false=>cases A <;> cases I1 <;> cases C <;> cases H <;> cases N <;> rfl
theorem gwg{l:List Int}{names:List (List UInt8)}(hl:l.length≤reachBytes)(hn:names.length=l.length) :∃r,gah (l,names)=some r∧(r=true↔(∀i,i < l.length→idp l names i=true)∧l.length≤16):=by
 rw[gah];have hr:=g17 hl;have hsc:=scan (fun i=>g4h (l,names,l,(l.length:Int),(i:Int),setOf (names.take i))) l.length (idp l names) (.inl false) (.inr l)
   (fun i hi=>by
     have hin:i < names.length:=by omega
     rw[g4h,if_pos (by simp;omega),if_pos (g7 hi)];simp only[g6];rw[lexNm,gq (by omega),gn6 hin,gn5];have hsub:0 < i→subI .i64 (i:Int) 1=((i - 1:Nat):Int):=by
       intro h;rw[g7w (by omega) (by omega)];omega
     refine(gyk (bif decide (l.getD i 0 < 1)then true else decide (1000 < l.getD i 0)) (decide ((0:Int) < (i:Int))) (inR (subI .i64 (i:Int) 1) l.length) (decide (l.getD i 0≤l.getD (subI .i64 (i:Int) 1).toNat 0)) (inR (i:Int) names.length) ((names.take i).contains (names.getD i [])) (nm (names.getD i [])) _ _ (g7 hin) (fun hz=>?_)).trans ?_
     · have hpos:0 < i:=by simp at hz;omega
       rw[hsub hpos];exact g7 (by omega)
     · have:(!(bif decide (l.getD i 0 < 1)then true else decide (1000 < l.getD i 0)) && (!(decide ((0:Int) < (i:Int))) || !(decide (l.getD i 0≤l.getD (subI .i64 (i:Int) 1).toNat 0))) && nm (names.getD i []) && !((names.take i).contains (names.getD i [])))=idp l names i:=by
         unfold idp;generalize nm (names.getD i [])=N;generalize (names.take i).contains (names.getD i [])=H;generalize l.getD i 0=x;by_cases h0:i=0
         · subst h0;cases N <;> cases H <;> by_cases h1:1≤x <;> by_cases h2:x≤1000 <;> simp[h1,h2] <;> omega
         · have hz:decide ((0:Int) < (i:Int))=true:=by simp;omega
           rw[hz,hsub (by omega),g6];generalize l.getD (i - 1) 0=y;cases N <;> cases H <;> by_cases h1:1≤x <;> by_cases h2:x≤1000 <;> by_cases h3:y < x <;> simp[h0,h1,h2,h3] <;> omega
       rw[this])
   (by rw[g4h,if_neg (by simp)])
 have e0:g4h (l,names,l,(l.length:Int),((0:Nat):Int),setOf (names.take 0))=g4h (l,names,l,(l.length:Int),0,[]):=rfl;simp only[e0]at hsc;rcases hsc with⟨h1,h2⟩ | ⟨h1,j,h2,h3⟩
 · rw[h1];refine⟨decide ((l.length:Int)≤16),rfl,?_⟩;simp only[decide_eq_true_eq];constructor
   · intro h;exact⟨h2,by omega⟩
   · intro h;omega
 · rw[h1];refine⟨false,rfl,?_⟩;constructor
   · intro h;cases h
   · rintro ⟨h,_⟩
     have:=h j h2;rw[h3]at this;cases this
end
end Go.Proofs.YtandcioiaooocaaGreat
