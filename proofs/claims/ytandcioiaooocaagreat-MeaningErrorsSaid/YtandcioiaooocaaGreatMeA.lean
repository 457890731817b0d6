/- The functions of the program as functions of Lean, that its code does what they say, and what they answer; part A. -/
import Derived.Test.YtandcioiaooocaaGreatProg
import Derived.KernelRfl
import Derived.Shelf.SlGeneric
import Derived.Shelf.SlLaysF0
import Derived.Shelf.SlSortCmp.WholeK
import Derived.Lib.Small
import Derived.Test.YtandcioiaooocaaGreatMeLD

namespace Go.Proofs.YtandcioiaooocaaGreat
set_option linter.all false
section
open Go Go.Proofs.YtandcioiaooocaaGreat.Shv
open Tryz
set_option maxRecDepth 100000
structure Sheaveref07Part where
 ID:Int
 Type_:Int
 Flag:Int
structure Sheaveref07Node where
 Kind:Int
 A:Int
 B:Int
 C:Int
 Parts:List Sheaveref07Part
structure Sheaveref07Draft where
 Nodes:List Sheaveref07Node
structure Sheaveref08Draft where
 S:Sheaveref07Draft
 T:Int
 C:List Int
structure SSymbol where
 ID:Int
 Name:List UInt8
structure SRaw where
 ID:Int
 Data:List UInt8
structure SValue where
 Kind:Int
 Bool_:Bool
 Int_:Int
 Str:List UInt8
 ID:Int
 Keys:List SValue
 Items:List SValue
 Rest:List SRaw
structure SMember where
 ID:Int
 Name:List UInt8
 Type_:Int
 Critical:Bool
 HasDefault:Bool
 Default:SValue
structure SType where
 Kind:Int
 Name:List UInt8
 Low:Int
 High:Int
 Max:Int
 Symbols:List SSymbol
 Members:List SMember
 Key:Int
 Elem:Int
 Open:Bool
structure SSchema where
 Types:List SType
structure EncodeEntry where
 id:Int
 text:List UInt8
structure Sheavelaw14Job where
 W:SSchema
 R:SSchema
 WT:Int
 RT:Int
 V:SValue
structure SField where
 ID:Int
 Critical:Bool
 Data:List UInt8
structure SFailure where
 Path:List Int
 Reason:Int
structure Sheaveref10Result where
 Value:SValue
 Failure:SFailure
 OK:Bool
structure Sheaveref14Result where
 Value:SValue
 Path:List Int
 OK:Bool
abbrev ixSType :Nat:=4
abbrev ixSSymbol :Nat:=5
abbrev ixSMember :Nat:=6
abbrev ixSValue :Nat:=7
abbrev ixSRaw :Nat:=8
abbrev ixSheavelaw14Job :Nat:=11
def dSheaveref07Part :Sheaveref07Part:=⟨0,0,0⟩
def dSheaveref07Node :Sheaveref07Node:=⟨0,0,0,0,[]⟩
def dSheaveref07Draft :Sheaveref07Draft:=⟨[]⟩
def dSheaveref08Draft :Sheaveref08Draft:=⟨dSheaveref07Draft,0,[]⟩
def dSSymbol :SSymbol:=⟨0,[]⟩
def dSRaw :SRaw:=⟨0,[]⟩
def dSValue :SValue:=⟨0,false,0,[],0,[],[],[]⟩
def dSMember :SMember:=⟨0,[],0,false,false,dSValue⟩
def dSType :SType:=⟨0,[],0,0,0,[],[],0,0,false⟩
def dSSchema :SSchema:=⟨[]⟩
def dEncodeEntry :EncodeEntry:=⟨0,[]⟩
def dSheavelaw14Job :Sheavelaw14Job:=⟨dSSchema,dSSchema,0,0,dSValue⟩
def dSField :SField:=⟨0,false,[]⟩
def dSFailure :SFailure:=⟨[],0⟩
def dSheaveref10Result :Sheaveref10Result:=⟨dSValue,dSFailure,false⟩
def dSheaveref14Result :Sheaveref14Result:=⟨dSValue,[],false⟩
def uD :Nat→Type
 | 0=>Sheaveref08Draft
 | 1=>Sheaveref07Draft
 | 2=>Sheaveref07Node
 | 3=>Sheaveref07Part
 | 4=>SType
 | 5=>SSymbol
 | 6=>SMember
 | 7=>SValue
 | 8=>SRaw
 | 9=>SSchema
 | 10=>EncodeEntry
 | 11=>Sheavelaw14Job
 | 12=>SField
 | 13=>SFailure
 | 14=>Sheaveref10Result
 | 15=>Sheaveref14Result
 | _=>Bool
def uTys :Nat→List Ty
 | 0=>[.slice (.nm 2),.int .u8,.slice (.int .u8)]
 | 1=>[.slice (.nm 2)]
 | 2=>[.int .u8,.int .u8,.int .u8,.int .u8,.slice (.nm 3)]
 | 3=>[.int .u8,.int .u8,.int .u8]
 | 4=>[.int .i64,.str,.int .i64,.int .i64,.int .i64,.slice (.nm 5),.slice (.nm 6),.int .i64,.int .i64,.bool]
 | 5=>[.int .i64,.str]
 | 6=>[.int .i64,.str,.int .i64,.bool,.bool,.int .i64,.bool,.int .i64,.str,.int .i64,.slice (.nm 7),.slice (.nm 7),.slice (.nm 8)]
 | 7=>[.int .i64,.bool,.int .i64,.str,.int .i64,.slice (.nm 7),.slice (.nm 7),.slice (.nm 8)]
 | 8=>[.int .i64,.str]
 | 9=>[.slice (.nm 4)]
 | 10=>[.int .i64,.str]
 | 11=>[.slice (.nm 4),.slice (.nm 4),.int .i64,.int .i64,.int .i64,.bool,.int .i64,.str,.int .i64,.slice (.nm 7),.slice (.nm 7),.slice (.nm 8)]
 | 12=>[.int .i64,.bool,.str]
 | 13=>[.slice (.int .i64),.int .i64]
 | 14=>[.int .i64,.bool,.int .i64,.str,.int .i64,.slice (.nm 7),.slice (.nm 7),.slice (.nm 8),.slice (.int .i64),.int .i64,.bool]
 | 15=>[.int .i64,.bool,.int .i64,.str,.int .i64,.slice (.nm 7),.slice (.nm 7),.slice (.nm 8),.slice (.int .i64),.bool]
 | _=>[.bool]
def uFlds :(n:Nat)→uD n→List (Cell uD)
 | 0,(x:Sheaveref08Draft)=>[⟨.slice (.nm 2),x.S.Nodes⟩,⟨.int .u8,x.T⟩,⟨.slice (.int .u8),x.C⟩]
 | 1,(x:Sheaveref07Draft)=>[⟨.slice (.nm 2),x.Nodes⟩]
 | 2,(x:Sheaveref07Node)=>[⟨.int .u8,x.Kind⟩,⟨.int .u8,x.A⟩,⟨.int .u8,x.B⟩,⟨.int .u8,x.C⟩,⟨.slice (.nm 3),x.Parts⟩]
 | 3,(x:Sheaveref07Part)=>[⟨.int .u8,x.ID⟩,⟨.int .u8,x.Type_⟩,⟨.int .u8,x.Flag⟩]
 | 4,(x:SType)=>[⟨.int .i64,x.Kind⟩,⟨.str,x.Name⟩,⟨.int .i64,x.Low⟩,⟨.int .i64,x.High⟩,⟨.int .i64,x.Max⟩,⟨.slice (.nm 5),x.Symbols⟩,⟨.slice (.nm 6),x.Members⟩,⟨.int .i64,x.Key⟩,⟨.int .i64,x.Elem⟩,⟨.bool,x.Open⟩]
 | 5,(x:SSymbol)=>[⟨.int .i64,x.ID⟩,⟨.str,x.Name⟩]
 | 6,(x:SMember)=>[⟨.int .i64,x.ID⟩,⟨.str,x.Name⟩,⟨.int .i64,x.Type_⟩,⟨.bool,x.Critical⟩,⟨.bool,x.HasDefault⟩,⟨.int .i64,x.Default.Kind⟩,⟨.bool,x.Default.Bool_⟩,⟨.int .i64,x.Default.Int_⟩,⟨.str,x.Default.Str⟩,⟨.int .i64,x.Default.ID⟩,⟨.slice (.nm 7),x.Default.Keys⟩,⟨.slice (.nm 7),x.Default.Items⟩,⟨.slice (.nm 8),x.Default.Rest⟩]
 | 7,(x:SValue)=>[⟨.int .i64,x.Kind⟩,⟨.bool,x.Bool_⟩,⟨.int .i64,x.Int_⟩,⟨.str,x.Str⟩,⟨.int .i64,x.ID⟩,⟨.slice (.nm 7),x.Keys⟩,⟨.slice (.nm 7),x.Items⟩,⟨.slice (.nm 8),x.Rest⟩]
 | 8,(x:SRaw)=>[⟨.int .i64,x.ID⟩,⟨.str,x.Data⟩]
 | 9,(x:SSchema)=>[⟨.slice (.nm 4),x.Types⟩]
 | 10,(x:EncodeEntry)=>[⟨.int .i64,x.id⟩,⟨.str,x.text⟩]
 | 11,(x:Sheavelaw14Job)=>[⟨.slice (.nm 4),x.W.Types⟩,⟨.slice (.nm 4),x.R.Types⟩,⟨.int .i64,x.WT⟩,⟨.int .i64,x.RT⟩,⟨.int .i64,x.V.Kind⟩,⟨.bool,x.V.Bool_⟩,⟨.int .i64,x.V.Int_⟩,⟨.str,x.V.Str⟩,⟨.int .i64,x.V.ID⟩,⟨.slice (.nm 7),x.V.Keys⟩,⟨.slice (.nm 7),x.V.Items⟩,⟨.slice (.nm 8),x.V.Rest⟩]
 | 12,(x:SField)=>[⟨.int .i64,x.ID⟩,⟨.bool,x.Critical⟩,⟨.str,x.Data⟩]
 | 13,(x:SFailure)=>[⟨.slice (.int .i64),x.Path⟩,⟨.int .i64,x.Reason⟩]
 | 14,(x:Sheaveref10Result)=>[⟨.int .i64,x.Value.Kind⟩,⟨.bool,x.Value.Bool_⟩,⟨.int .i64,x.Value.Int_⟩,⟨.str,x.Value.Str⟩,⟨.int .i64,x.Value.ID⟩,⟨.slice (.nm 7),x.Value.Keys⟩,⟨.slice (.nm 7),x.Value.Items⟩,⟨.slice (.nm 8),x.Value.Rest⟩,⟨.slice (.int .i64),x.Failure.Path⟩,⟨.int .i64,x.Failure.Reason⟩,⟨.bool,x.OK⟩]
 | 15,(x:Sheaveref14Result)=>[⟨.int .i64,x.Value.Kind⟩,⟨.bool,x.Value.Bool_⟩,⟨.int .i64,x.Value.Int_⟩,⟨.str,x.Value.Str⟩,⟨.int .i64,x.Value.ID⟩,⟨.slice (.nm 7),x.Value.Keys⟩,⟨.slice (.nm 7),x.Value.Items⟩,⟨.slice (.nm 8),x.Value.Rest⟩,⟨.slice (.int .i64),x.Path⟩,⟨.bool,x.OK⟩]
 | _+16,(x:Bool)=>[⟨.bool,x⟩]
def uMake :(n:Nat)→List (Cell uD)→Option (uD n)
 | 0,l=>match Hs.dec uD (uTys 0) l with
   | some h=>some (⟨(⟨h.1⟩:Sheaveref07Draft),h.2.1,h.2.2⟩:Sheaveref08Draft)
   | none=>none
 | 1,l=>match Hs.dec uD (uTys 1) l with
   | some h=>some (⟨h⟩:Sheaveref07Draft)
   | none=>none
 | 2,l=>match Hs.dec uD (uTys 2) l with
   | some h=>some (⟨h.1,h.2.1,h.2.2.1,h.2.2.2.1,h.2.2.2.2⟩:Sheaveref07Node)
   | none=>none
 | 3,l=>match Hs.dec uD (uTys 3) l with
   | some h=>some (⟨h.1,h.2.1,h.2.2⟩:Sheaveref07Part)
   | none=>none
 | 4,l=>match Hs.dec uD (uTys 4) l with
   | some h=>some (⟨h.1,h.2.1,h.2.2.1,h.2.2.2.1,h.2.2.2.2.1,h.2.2.2.2.2.1,h.2.2.2.2.2.2.1,h.2.2.2.2.2.2.2.1,h.2.2.2.2.2.2.2.2.1,h.2.2.2.2.2.2.2.2.2⟩:SType)
   | none=>none
 | 5,l=>match Hs.dec uD (uTys 5) l with
   | some h=>some (⟨h.1,h.2⟩:SSymbol)
   | none=>none
 | 6,l=>match Hs.dec uD (uTys 6) l with
   | some h=>some (⟨h.1,h.2.1,h.2.2.1,h.2.2.2.1,h.2.2.2.2.1,(⟨h.2.2.2.2.2.1,h.2.2.2.2.2.2.1,h.2.2.2.2.2.2.2.1,h.2.2.2.2.2.2.2.2.1,h.2.2.2.2.2.2.2.2.2.1,h.2.2.2.2.2.2.2.2.2.2.1,h.2.2.2.2.2.2.2.2.2.2.2.1,h.2.2.2.2.2.2.2.2.2.2.2.2⟩:SValue)⟩:SMember)
   | none=>none
 | 7,l=>match Hs.dec uD (uTys 7) l with
   | some h=>some (⟨h.1,h.2.1,h.2.2.1,h.2.2.2.1,h.2.2.2.2.1,h.2.2.2.2.2.1,h.2.2.2.2.2.2.1,h.2.2.2.2.2.2.2⟩:SValue)
   | none=>none
 | 8,l=>match Hs.dec uD (uTys 8) l with
   | some h=>some (⟨h.1,h.2⟩:SRaw)
   | none=>none
 | 9,l=>match Hs.dec uD (uTys 9) l with
   | some h=>some (⟨h⟩:SSchema)
   | none=>none
 | 10,l=>match Hs.dec uD (uTys 10) l with
   | some h=>some (⟨h.1,h.2⟩:EncodeEntry)
   | none=>none
 | 11,l=>match Hs.dec uD (uTys 11) l with
   | some h=>some (⟨(⟨h.1⟩:SSchema),(⟨h.2.1⟩:SSchema),h.2.2.1,h.2.2.2.1,(⟨h.2.2.2.2.1,h.2.2.2.2.2.1,h.2.2.2.2.2.2.1,h.2.2.2.2.2.2.2.1,h.2.2.2.2.2.2.2.2.1,h.2.2.2.2.2.2.2.2.2.1,h.2.2.2.2.2.2.2.2.2.2.1,h.2.2.2.2.2.2.2.2.2.2.2⟩:SValue)⟩:Sheavelaw14Job)
   | none=>none
 | 12,l=>match Hs.dec uD (uTys 12) l with
   | some h=>some (⟨h.1,h.2.1,h.2.2⟩:SField)
   | none=>none
 | 13,l=>match Hs.dec uD (uTys 13) l with
   | some h=>some (⟨h.1,h.2⟩:SFailure)
   | none=>none
 | 14,l=>match Hs.dec uD (uTys 14) l with
   | some h=>some (⟨(⟨h.1,h.2.1,h.2.2.1,h.2.2.2.1,h.2.2.2.2.1,h.2.2.2.2.2.1,h.2.2.2.2.2.2.1,h.2.2.2.2.2.2.2.1⟩:SValue),(⟨h.2.2.2.2.2.2.2.2.1,h.2.2.2.2.2.2.2.2.2.1⟩:SFailure),h.2.2.2.2.2.2.2.2.2.2⟩:Sheaveref10Result)
   | none=>none
 | 15,l=>match Hs.dec uD (uTys 15) l with
   | some h=>some (⟨(⟨h.1,h.2.1,h.2.2.1,h.2.2.2.1,h.2.2.2.2.1,h.2.2.2.2.2.1,h.2.2.2.2.2.2.1,h.2.2.2.2.2.2.2.1⟩:SValue),h.2.2.2.2.2.2.2.2.1,h.2.2.2.2.2.2.2.2.2⟩:Sheaveref14Result)
   | none=>none
 | _+16,l=>match Hs.dec uD [.bool] l with
   | some (h:Bool)=>some h
   | none=>none
def eSheaveref07Part(x:Sheaveref07Part) :List T:=[.int .u8 x.ID,.int .u8 x.Type_,.int .u8 x.Flag]
def eSheaveref07Node(x:Sheaveref07Node) :List T:=[.int .u8 x.Kind,.int .u8 x.A,.int .u8 x.B,.int .u8 x.C,.slice (x.Parts.map eSheaveref07Part)]
def eSheaveref07Draft(x:Sheaveref07Draft) :List T:=[.slice (x.Nodes.map eSheaveref07Node)]
def eSheaveref08Draft(x:Sheaveref08Draft) :List T:=[.slice (x.S.Nodes.map eSheaveref07Node),.int .u8 x.T,.slice (x.C.map (fun y=>[.int .u8 y]))]
def eSSymbol(x:SSymbol) :List T:=[.int .i64 x.ID,.str x.Name]
def eSRaw(x:SRaw) :List T:=[.int .i64 x.ID,.str x.Data]
def SValue.eta(x:SValue) :SValue:=⟨x.Kind,x.Bool_,x.Int_,x.Str,x.ID,x.Keys,x.Items,x.Rest⟩
theorem SValue.gu(x:SValue) :x.eta=x:=by cases x;rfl
mutual
def eSValue :SValue→List T
 | ⟨a0,a1,a2,a3,a4,a5,a6,a7⟩=>[.int .i64 a0,.bool a1,.int .i64 a2,.str a3,.int .i64 a4,.slice (eSValueL a5),.slice (eSValueL a6),.slice (a7.map eSRaw)]
def eSValueL :List SValue→List (List T)
 | []=>[]
 | v::r=>eSValue v::eSValueL r
end
theorem ghc :∀l,eSValueL l=l.map eSValue
 | []=>rfl
 | v::r=>by simp only[eSValueL,List.map];rw[ghc r]
theorem gsd(x:SValue) :eSValue x=[.int .i64 x.Kind,.bool x.Bool_,.int .i64 x.Int_,.str x.Str,.int .i64 x.ID,.slice (x.Keys.map eSValue),.slice (x.Items.map eSValue),.slice (x.Rest.map eSRaw)]:=by cases x;simp only[eSValue,ghc]
def eSMember(x:SMember) :List T:=[.int .i64 x.ID,.str x.Name,.int .i64 x.Type_,.bool x.Critical,.bool x.HasDefault,.int .i64 x.Default.Kind,.bool x.Default.Bool_,.int .i64 x.Default.Int_,.str x.Default.Str,.int .i64 x.Default.ID,.slice (x.Default.Keys.map eSValue),.slice (x.Default.Items.map eSValue),.slice (x.Default.Rest.map eSRaw)]
def eSType(x:SType) :List T:=[.int .i64 x.Kind,.str x.Name,.int .i64 x.Low,.int .i64 x.High,.int .i64 x.Max,.slice (x.Symbols.map eSSymbol),.slice (x.Members.map eSMember),.int .i64 x.Key,.int .i64 x.Elem,.bool x.Open]
def eSSchema(x:SSchema) :List T:=[.slice (x.Types.map eSType)]
def eEncodeEntry(x:EncodeEntry) :List T:=[.int .i64 x.id,.str x.text]
def eSheavelaw14Job(x:Sheavelaw14Job) :List T:=[.slice (x.W.Types.map eSType),.slice (x.R.Types.map eSType),.int .i64 x.WT,.int .i64 x.RT,.int .i64 x.V.Kind,.bool x.V.Bool_,.int .i64 x.V.Int_,.str x.V.Str,.int .i64 x.V.ID,.slice (x.V.Keys.map eSValue),.slice (x.V.Items.map eSValue),.slice (x.V.Rest.map eSRaw)]
def eSField(x:SField) :List T:=[.int .i64 x.ID,.bool x.Critical,.str x.Data]
def eSFailure(x:SFailure) :List T:=[.slice (x.Path.map (fun y=>[.int .i64 y])),.int .i64 x.Reason]
def eSheaveref10Result(x:Sheaveref10Result) :List T:=[.int .i64 x.Value.Kind,.bool x.Value.Bool_,.int .i64 x.Value.Int_,.str x.Value.Str,.int .i64 x.Value.ID,.slice (x.Value.Keys.map eSValue),.slice (x.Value.Items.map eSValue),.slice (x.Value.Rest.map eSRaw),.slice (x.Failure.Path.map (fun y=>[.int .i64 y])),.int .i64 x.Failure.Reason,.bool x.OK]
def eSheaveref14Result(x:Sheaveref14Result) :List T:=[.int .i64 x.Value.Kind,.bool x.Value.Bool_,.int .i64 x.Value.Int_,.str x.Value.Str,.int .i64 x.Value.ID,.slice (x.Value.Keys.map eSValue),.slice (x.Value.Items.map eSValue),.slice (x.Value.Rest.map eSRaw),.slice (x.Path.map (fun y=>[.int .i64 y])),.bool x.OK]
def uEnc :(n:Nat)→uD n→List T
 | 0,x=>eSheaveref08Draft x
 | 1,x=>eSheaveref07Draft x
 | 2,x=>eSheaveref07Node x
 | 3,x=>eSheaveref07Part x
 | 4,x=>eSType x
 | 5,x=>eSSymbol x
 | 6,x=>eSMember x
 | 7,x=>eSValue x
 | 8,x=>eSRaw x
 | 9,x=>eSSchema x
 | 10,x=>eEncodeEntry x
 | 11,x=>eSheavelaw14Job x
 | 12,x=>eSField x
 | 13,x=>eSFailure x
 | 14,x=>eSheaveref10Result x
 | 15,x=>eSheaveref14Result x
 | _+16,(x:Bool)=>[.bool x]
def Un :Uni where
 D:=uD
 dfl:=fun n=>match n with
   | 0=>dSheaveref08Draft
   | 1=>dSheaveref07Draft
   | 2=>dSheaveref07Node
   | 3=>dSheaveref07Part
   | 4=>dSType
   | 5=>dSSymbol
   | 6=>dSMember
   | 7=>dSValue
   | 8=>dSRaw
   | 9=>dSSchema
   | 10=>dEncodeEntry
   | 11=>dSheavelaw14Job
   | 12=>dSField
   | 13=>dSFailure
   | 14=>dSheaveref10Result
   | 15=>dSheaveref14Result
   | _+16=>false
 flds:=uFlds
 make:=uMake
 tys:=uTys
 enc:=uEnc
 enc_eq:=fun n x=>match n,x with
   | 0,_=>rfl
   | 1,_=>rfl
   | 2,_=>rfl
   | 3,_=>rfl
   | 4,_=>rfl
   | 5,_=>rfl
   | 6,_=>rfl
   | 7,x=>gsd x
   | 8,_=>rfl
   | 9,_=>rfl
   | 10,_=>rfl
   | 11,_=>rfl
   | 12,_=>rfl
   | 13,_=>rfl
   | 14,_=>rfl
   | 15,_=>rfl
   | _+16,_=>rfl
 mk_eq:=fun n l x h=>match n,x,h with
   | 0,x,h=>by
     simp only[uMake]at h;split at h
     · rename_i hh hd;cases h;exact Hs.dec_cells hd
     · cases h
   | 1,x,h=>by
     simp only[uMake]at h;split at h
     · rename_i hh hd;cases h;exact Hs.dec_cells hd
     · cases h
   | 2,x,h=>by
     simp only[uMake]at h;split at h
     · rename_i hh hd;cases h;exact Hs.dec_cells hd
     · cases h
   | 3,x,h=>by
     simp only[uMake]at h;split at h
     · rename_i hh hd;cases h;exact Hs.dec_cells hd
     · cases h
   | 4,x,h=>by
     simp only[uMake]at h;split at h
     · rename_i hh hd;cases h;exact Hs.dec_cells hd
     · cases h
   | 5,x,h=>by
     simp only[uMake]at h;split at h
     · rename_i hh hd;cases h;exact Hs.dec_cells hd
     · cases h
   | 6,x,h=>by
     simp only[uMake]at h;split at h
     · rename_i hh hd;cases h;exact Hs.dec_cells hd
     · cases h
   | 7,x,h=>by
     simp only[uMake]at h;split at h
     · rename_i hh hd;cases h;exact Hs.dec_cells hd
     · cases h
   | 8,x,h=>by
     simp only[uMake]at h;split at h
     · rename_i hh hd;cases h;exact Hs.dec_cells hd
     · cases h
   | 9,x,h=>by
     simp only[uMake]at h;split at h
     · rename_i hh hd;cases h;exact Hs.dec_cells hd
     · cases h
   | 10,x,h=>by
     simp only[uMake]at h;split at h
     · rename_i hh hd;cases h;exact Hs.dec_cells hd
     · cases h
   | 11,x,h=>by
     simp only[uMake]at h;split at h
     · rename_i hh hd;cases h;exact Hs.dec_cells hd
     · cases h
   | 12,x,h=>by
     simp only[uMake]at h;split at h
     · rename_i hh hd;cases h;exact Hs.dec_cells hd
     · cases h
   | 13,x,h=>by
     simp only[uMake]at h;split at h
     · rename_i hh hd;cases h;exact Hs.dec_cells hd
     · cases h
   | 14,x,h=>by
     simp only[uMake]at h;split at h
     · rename_i hh hd;cases h;exact Hs.dec_cells hd
     · cases h
   | 15,x,h=>by
     simp only[uMake]at h;split at h
     · rename_i hh hd;cases h;exact Hs.dec_cells hd
     · cases h
   | _+16,x,h=>by
     simp only[uMake]at h;split at h
     · rename_i hh hd;cases h;exact Hs.dec_cells hd
     · cases h
 tys_eq:=fun n x=>match n,x with
   | 0,_=>rfl
   | 1,_=>rfl
   | 2,_=>rfl
   | 3,_=>rfl
   | 4,_=>rfl
   | 5,_=>rfl
   | 6,_=>rfl
   | 7,_=>rfl
   | 8,_=>rfl
   | 9,_=>rfl
   | 10,_=>rfl
   | 11,_=>rfl
   | 12,_=>rfl
   | 13,_=>rfl
   | 14,_=>rfl
   | 15,_=>rfl
   | _+16,_=>rfl
 tyOf:=fun e=>match e with
   | 3=>some (.int .i64)
   | 5=>some (.int .u8)
   | 9=>some .str
   | 37=>some (.nm 7)
   | 74=>some (.nm 6)
   | 81=>some (.nm 8)
   | 96=>some (.nm 4)
   | 118=>some (.nm 5)
   | 206=>some (.nm 12)
   | 245=>some (.nm 10)
   | _=>none
 own:=[([false,false,true,true],2,.int .i64),([false,true,true,false],1,.int .i64)]
 pos:=fun n=>match n with
   | 0=>by decide
   | 1=>by decide
   | 2=>by decide
   | 3=>by decide
   | 4=>by decide
   | 5=>by decide
   | 6=>by decide
   | 7=>by decide
   | 8=>by decide
   | 9=>by decide
   | 10=>by decide
   | 11=>by decide
   | 12=>by decide
   | 13=>by decide
   | 14=>by decide
   | 15=>by decide
   | _+16=>Nat.zero_lt_one
theorem gz3 :Un.Total:=fun n l h=>match n,h with
 | 0,h=>by
   obtain⟨x,hx⟩:=Hs.dec_ty (D:=uD) (ts:=uTys 0) h;exact⟨_,by show uMake 0 l=_;simp only[uMake,hx];rfl⟩
 | 1,h=>by
   obtain⟨x,hx⟩:=Hs.dec_ty (D:=uD) (ts:=uTys 1) h;exact⟨_,by show uMake 1 l=_;simp only[uMake,hx];rfl⟩
 | 2,h=>by
   obtain⟨x,hx⟩:=Hs.dec_ty (D:=uD) (ts:=uTys 2) h;exact⟨_,by show uMake 2 l=_;simp only[uMake,hx];rfl⟩
 | 3,h=>by
   obtain⟨x,hx⟩:=Hs.dec_ty (D:=uD) (ts:=uTys 3) h;exact⟨_,by show uMake 3 l=_;simp only[uMake,hx];rfl⟩
 | 4,h=>by
   obtain⟨x,hx⟩:=Hs.dec_ty (D:=uD) (ts:=uTys 4) h;exact⟨_,by show uMake 4 l=_;simp only[uMake,hx];rfl⟩
 | 5,h=>by
   obtain⟨x,hx⟩:=Hs.dec_ty (D:=uD) (ts:=uTys 5) h;exact⟨_,by show uMake 5 l=_;simp only[uMake,hx];rfl⟩
 | 6,h=>by
   obtain⟨x,hx⟩:=Hs.dec_ty (D:=uD) (ts:=uTys 6) h;exact⟨_,by show uMake 6 l=_;simp only[uMake,hx];rfl⟩
 | 7,h=>by
   obtain⟨x,hx⟩:=Hs.dec_ty (D:=uD) (ts:=uTys 7) h;exact⟨_,by show uMake 7 l=_;simp only[uMake,hx];rfl⟩
 | 8,h=>by
   obtain⟨x,hx⟩:=Hs.dec_ty (D:=uD) (ts:=uTys 8) h;exact⟨_,by show uMake 8 l=_;simp only[uMake,hx];rfl⟩
 | 9,h=>by
   obtain⟨x,hx⟩:=Hs.dec_ty (D:=uD) (ts:=uTys 9) h;exact⟨_,by show uMake 9 l=_;simp only[uMake,hx];rfl⟩
 | 10,h=>by
   obtain⟨x,hx⟩:=Hs.dec_ty (D:=uD) (ts:=uTys 10) h;exact⟨_,by show uMake 10 l=_;simp only[uMake,hx];rfl⟩
 | 11,h=>by
   obtain⟨x,hx⟩:=Hs.dec_ty (D:=uD) (ts:=uTys 11) h;exact⟨_,by show uMake 11 l=_;simp only[uMake,hx];rfl⟩
 | 12,h=>by
   obtain⟨x,hx⟩:=Hs.dec_ty (D:=uD) (ts:=uTys 12) h;exact⟨_,by show uMake 12 l=_;simp only[uMake,hx];rfl⟩
 | 13,h=>by
   obtain⟨x,hx⟩:=Hs.dec_ty (D:=uD) (ts:=uTys 13) h;exact⟨_,by show uMake 13 l=_;simp only[uMake,hx];rfl⟩
 | 14,h=>by
   obtain⟨x,hx⟩:=Hs.dec_ty (D:=uD) (ts:=uTys 14) h;exact⟨_,by show uMake 14 l=_;simp only[uMake,hx];rfl⟩
 | 15,h=>by
   obtain⟨x,hx⟩:=Hs.dec_ty (D:=uD) (ts:=uTys 15) h;exact⟨_,by show uMake 15 l=_;simp only[uMake,hx];rfl⟩
 | m+16,h=>by
   obtain⟨x,hx⟩:=Hs.dec_ty (D:=uD) (ts:=[.bool]) h;exact⟨x,by show uMake (m+16) l=_;simp only[uMake,hx];rfl⟩
end
section
open Go Go.Proofs.YtandcioiaooocaaGreat.Shv
open Tryz
set_option maxRecDepth 100000
open Go.Proofs Go.Proofs.YtandcioiaooocaaGreat Go.Shelf
theorem ghd :g2y prog 98=true:=by kernel_rfl
def g5n :FSpec Un:=gkz Un 98 (.int .i64) 8
theorem gfc :FSnd prog g5n:=gs7 (sz:=1) (bytes:=8) (z:=[.t (.int .i64 0)]) func98 (by kernel_rfl) (by kernel_rfl) (by kernel_rfl) rfl rfl
theorem g5o :FnC prog g5n:=⟨ghd,gfc⟩
theorem ghe :g2y prog 145=true:=by kernel_rfl
def g5p :FSpec Un:=gh4 Un 145 (.nm 7) 120
theorem gfd :FSnd prog g5p:=gmx (sz:=8) (bytes:=120) (z:=[.t (.int .i64 0),.t (.bool false),.t (.int .i64 0),.t (.str []),.t (.int .i64 0),.cap0,.cap0,.cap0]) func145 (by kernel_rfl) (by kernel_rfl) (by kernel_rfl) rfl rfl
theorem g7g :FnC prog g5p:=⟨ghe,gfd⟩
theorem ghf :g2y prog 146=true:=by kernel_rfl
def g5q :FSpec Un:=gh4 Un 146 (.nm 8) 24
theorem gfe :FSnd prog g5q:=gmx (sz:=2) (bytes:=24) (z:=[.t (.int .i64 0),.t (.str [])]) func146 (by kernel_rfl) (by kernel_rfl) (by kernel_rfl) rfl rfl
theorem g7h :FnC prog g5q:=⟨ghf,gfe⟩
instance:Inhabited EncodeEntry:=⟨dEncodeEntry⟩
instance:Inhabited (Un.D 10):=⟨dEncodeEntry⟩
def sortLt(x y:EncodeEntry) :Bool:=decide (x.id < y.id)
def gib(l:List EncodeEntry) :Option (List EncodeEntry):=some (pdqBy sortLt l)
section
open Go.Proofs Go.Proofs.YtandcioiaooocaaGreat Go.Sort Go.RowKit Go.Lib
theorem sortNaN(x:Int)(w:World) :Calls prog 196 #[.int .i64 x] w fun e w'=>e= .returned (.bool false)∧w'=w:=by
 go_enter func196,ntmps196
 go_wp2
 go_ret
 exact⟨by simp,rfl⟩
set_option maxHeartbeats 1000000 in
theorem sortCmp(x y:Int)(w:World) :Calls prog 177 #[.int .i64 x,.int .i64 y] w fun e w'=>e= .returned (.int .i64 (Lib.compareInt x y))∧w'=w:=by
 go_enter func177,ntmps177
 go_wp2_with (go_at_call 196;refine(sortNaN _ _).mono ?_;rintro e w' ⟨rfl,hw⟩;rw[hw])
 all_goals (go_ret;refine⟨?_,rfl⟩;unfold Lib.compareInt;(repeat' split) <;> first | rfl | (exfalso;omega))
def sortEnc(x:EncodeEntry) :List Value:=[.int .i64 x.id,.string ⟨x.text.toArray⟩]
set_option maxHeartbeats 1000000 in
theorem sortClo(x y:Int)(s t:ByteArray)(W:World) :Calls prog 209 #[.agg #[.int .i64 x,.string s],.agg #[.int .i64 y,.string t]] W fun e w'=>e= .returned (.int .i64 (Lib.compareInt x y))∧∃q os',w'=grow (W.drewN q) os':=by
 have hcon:=fun W'=>sortCmp x y W'
 generalize Lib.compareInt x y=r at hcon ⊢
 go_enter func209,ntmps209
 go_wp2_with (go_at_call 177;refine(hcon _).mono ?_;rintro e w' ⟨rfl,rfl⟩)
 go_ret
 exact⟨rfl,0,_,by rw[alloc_eq_grow,alloc_eq_grow,grow_grow];rfl⟩
def gox :Go.Shelf.Ren:=⟨fun | 6=>208 | 15=>212 | 14=>211 | 28=>222 | 29=>223 | 20=>214 | 21=>215 | 22=>216 | 23=>217 | 24=>218 | 25=>219 | 26=>220 | 27=>221 | 46=>224 | 47=>225 | 48=>226 | 49=>227 | 50=>228 | 57=>229 | n=>n,fun | 22=>243 | 24=>245 | 25=>247 | 3=>3 | 39=>196 | 0=>0 | 53=>261 | 55=>147 | 4=>4 | 46=>255 | 45=>254 | 50=>127 | 5=>5 | 9=>9 | 66=>263 | 70=>267 | 76=>269 | 77=>270 | n=>n,fun | n=>n⟩
theorem layS :SlLaysF0.n6 prog gox:={
 mixed:=by kernel_rfl
 f6:=⟨f208.name,by decide,func208.trans (congrArg some (by kernel_rfl))⟩
 f14:=⟨f211.name,by decide,func211.trans (congrArg some (by kernel_rfl))⟩
 f15:=func212.trans (congrArg some (by kernel_rfl))
 f20:=⟨f214.name,by decide,func214.trans (congrArg some (by kernel_rfl))⟩
 f21:=⟨f215.name,by decide,func215.trans (congrArg some (by kernel_rfl))⟩
 f22:=⟨f216.name,by decide,func216.trans (congrArg some (by kernel_rfl))⟩
 f23:=⟨f217.name,by decide,func217.trans (congrArg some (by kernel_rfl))⟩
 f24:=⟨f218.name,by decide,func218.trans (congrArg some (by kernel_rfl))⟩
 f25:=⟨f219.name,by decide,func219.trans (congrArg some (by kernel_rfl))⟩
 f26:=⟨f220.name,by decide,func220.trans (congrArg some (by kernel_rfl))⟩
 f27:=⟨f221.name,by decide,func221.trans (congrArg some (by kernel_rfl))⟩
 f28:=func222.trans (congrArg some (by kernel_rfl))
 f29:=func223.trans (congrArg some (by kernel_rfl))
 f46:=⟨f224.name,by decide,func224.trans (congrArg some (by kernel_rfl))⟩
 f47:=func225.trans (congrArg some (by kernel_rfl))
 f48:=func226.trans (congrArg some (by kernel_rfl))
 f49:=⟨f227.name,by decide,func227.trans (congrArg some (by kernel_rfl))⟩
 f50:=⟨f228.name,by decide,func228.trans (congrArg some (by kernel_rfl))⟩
 f57:=⟨f229.name,by decide,func229.trans (congrArg some (by kernel_rfl))⟩
 t0:=underlying0
 a0:=isAgg0
 z0:=sizeOf0
 v0:=zeroValue0
 t3:=underlying3
 a3:=isAgg3
 z3:=sizeOf3
 v3:=zeroValue3
 t4:=underlying4
 a4:=isAgg4
 z4:=sizeOf4
 v4:=zeroValue4
 t5:=underlying5
 a5:=isAgg5
 z5:=sizeOf5
 v5:=zeroValue5
 t9:=underlying9
 a9:=isAgg9
 z9:=sizeOf9
 v9:=zeroValue9
 t22:=underlying243
 a22:=isAgg243
 z22:=sizeOf243
 v22:=zeroValue243
 t25:=underlying247
 a25:=isAgg247
 z25:=sizeOf247
 v25:=zeroValue247
 t39:=underlying196
 a39:=isAgg196
 z39:=sizeOf196
 v39:=zeroValue196
 t45:=underlying254
 a45:=isAgg254
 z45:=sizeOf254
 v45:=zeroValue254
 t46:=underlying255
 a46:=isAgg255
 z46:=sizeOf255
 v46:=zeroValue255
 t50:=underlying127
 a50:=isAgg127
 z50:=sizeOf127
 v50:=zeroValue127
 t53:=underlying261
 a53:=isAgg261
 z53:=sizeOf261
 v53:=zeroValue261
 t55:=underlying147
 a55:=isAgg147
 z55:=sizeOf147
 v55:=zeroValue147
 t66:=underlying263
 a66:=isAgg263
 z66:=sizeOf263
 v66:=zeroValue263
 t70:=underlying267
 a70:=isAgg267
 z70:=sizeOf267
 v70:=zeroValue267
 t76:=underlying269
 a76:=isAgg269
 z76:=sizeOf269
 v76:=zeroValue269
 t77:=underlying270
 a77:=isAgg270
 z77:=sizeOf270
 v77:=zeroValue270}
theorem gn3 :ltOf (fun x y:EncodeEntry=>Lib.compareInt x.id y.id)=sortLt:=by
 funext x y
 unfold ltOf sortLt Lib.compareInt;by_cases h1:x.id < y.id
 · simp[h1]
 · by_cases h2:y.id < x.id <;> simp[h1,h2]
theorem sortSWO :SWO sortLt:=gwa (fun x:EncodeEntry=>x.id)
set_option maxHeartbeats 2000000 in
theorem sortNoneI(p:Option Addr)(cap:Nat)(fv:Value)(w:World) :Calls prog 214 #[.slice p 0 cap,.int .i64 0,.int .i64 0,fv] w fun e w'=>e= .returned (.tuple #[])∧w'=w:=by
 go_enter func214,ntmps214
 go_wp2
 refine wp_loop_rounds 1 ?_;rw[rounds_succ]
 go_wp2
 go_end0
 exact⟨rfl,rfl⟩
set_option maxHeartbeats 2000000 in
theorem sortNoneP(p:Option Addr)(cap:Nat)(lim:Int)(fv:Value)(w:World) :Calls prog 211 #[.slice p 0 cap,.int .i64 0,.int .i64 0,.int .i64 lim,fv] w fun e w'=>e= .returned (.tuple #[])∧w'=w:=by
 have hi:=fun W=>sortNoneI p cap fv W
 go_enter func211,ntmps211
 go_wp2
 refine wp_loop_rounds 1 ?_;rw[rounds_succ]
 go_wp2_with (go_at_call 214;refine(hi _).mono ?_;rintro e w' ⟨rfl,rfl⟩)
 (try simp only[Exit.inBlock,Exit.then]);refine bodyPost_ret (results_none rfl _ _ _) rfl ?_
 exact⟨rfl,rfl⟩
set_option maxHeartbeats 2000000 in
theorem sortNone(p:Option Addr)(cap:Nat)(fv:Value)(w:World) :Calls prog 208 #[.slice p 0 cap,fv] w fun e w'=>e= .returned (.tuple #[])∧w'=w:=by
 have hp:=fun lim W=>sortNoneP p cap lim fv W
 have hl:∀W,Calls prog 212 #[.int .u64 0] W fun e w'=>e= .returned (.int .i64 (Lib.bitLen 0:Nat))∧w'=W:=fun W=>by
   have h:=Any.bits_Len (SlLaysF0.n15.bits (P:=prog) (ρ:=gox) {layS with}) 0 W (by omega) (by omega);exact h
 go_enter func208,ntmps208
 go_wp2_with (first | (go_at_call 212;refine(hl _).mono ?_;rintro e w' ⟨rfl,rfl⟩) | (go_at_call 211;refine(hp _ _).mono ?_;rintro e w' ⟨rfl,rfl⟩))
 go_end0
 exact⟨rfl,rfl⟩
theorem sortWhole (blk off cap : Nat) (d : Array (Un.D 10)) (w : World) (hH : HoldsK sortEnc 2 w blk off d) (hblk : blk < w.heap.size) (hsz : d.size < 4611686018427387904) :
   Calls prog 208 #[.slice (some ⟨blk,off,none⟩) d.size cap,.func (.func 209) #[] #[]] w fun e w'=>e= .returned (.tuple #[])∧∃n os,w'=sortWorldK sortEnc 2 w blk off n (pdq sortLt d 0 d.size (Lib.bitLen d.size) true true) os:=by
 have eg:∀args w,(callFunc 209 args).run prog w= .ok (.enter 209 args) w:=enters_of func209 (by kernel_rfl) rfl
 have h:=AnyQ.slices_SortFunc_eq (α:=EncodeEntry) layS 2 isAgg245 sizeOf245 sortEnc (fun _=>rfl) (fun x v hv=>by simp[sortEnc]at hv;rcases hv with rfl | rfl <;> rfl) (fun x y=>Lib.compareInt x.id y.id) (by rw[gn3];exact sortSWO) 209 #[] blk off cap d w eg (fun _ _ _ _ x y=>sortClo x.id y.id _ _ _) hH hblk hsz;rw[gn3]at h;exact h
theorem gx5 :g2y prog 208=true:=by kernel_rfl
def g9u :FSpec Un:=sortS Un 208 10 209 (pdqBy (α:=Un.D 10) sortLt)
theorem gjr :FSnd prog g9u:=gve (U:=Un) (n:=10) sortEnc sortLt sortSWO (fun _=>rfl) (fun w S x j t v h hr=>gsc w S x.id x.text j t v h hr) sortWhole sortNone
end
theorem g9v :FnC prog g9u:=⟨gx5,gjr⟩
def gl4 :Go.Shelf.Ren:=⟨fun | 240=>210 | 276=>213 | n=>n,fun | 0=>0 | 4=>4 | 9=>9 | 20=>20 | 37=>25 | 70=>234 | 72=>236 | 164=>251 | n=>n,fun n=>n⟩
theorem lay240 :Lays.n240 prog gl4:={
 mixed:=by kernel_rfl
 f240:=func210.trans (congrArg some (by kernel_rfl))
 f276:=func213.trans (congrArg some (by kernel_rfl))
 t0:=underlying0
 a0:=isAgg0
 z0:=sizeOf0
 v0:=zeroValue0
 t4:=underlying4
 a4:=isAgg4
 z4:=sizeOf4
 v4:=zeroValue4
 t9:=underlying9
 a9:=isAgg9
 z9:=sizeOf9
 v9:=zeroValue9
 t20:=underlying20
 a20:=isAgg20
 z20:=sizeOf20
 v20:=zeroValue20
 t70:=underlying234
 a70:=isAgg234
 z70:=sizeOf234
 v70:=zeroValue234
 t72:=underlying236
 a72:=isAgg236
 z72:=sizeOf236
 v72:=zeroValue236
 t164:=underlying251
 a164:=isAgg251
 z164:=sizeOf251
 v164:=zeroValue251}
theorem layX72 :Builder.X72 prog gl4:={
 sizeBuilder:=by kernel_rfl
 liesBuilder:=by kernel_rfl}
theorem gx6 :g2y prog 210=true:=by kernel_rfl
def g74 :FSpec Un:=gl0 Un 210 236 5
theorem gic :FSnd prog g74:=gtl lay240 layX72 rfl rfl
theorem g91 :FnC prog g74:=⟨gx6,gic⟩
end
section
open Go Go.Proofs.YtandcioiaooocaaGreat.Shv
open Tryz
set_option maxRecDepth 100000
abbrev FC(e:FEnt)(F:Hs Un.D e.ts→Option (Hs Un.D e.us)) :Prop:=FnC prog (e.s F)
abbrev LC(f kk:Nat)(p:List Nat)(e:LEnt)(F:Hs Un.D e.ts→Option (OSum Un e.outs)) :Prop:=LpC prog f kk p e F
abbrev KC(e:FEnt) :Prop:=Fok prog e
abbrev FD(e:FEnt) :Hs Un.D e.ts→Hs Un.D e.us→Prop:=FQ prog Un e
abbrev LD(f kk:Nat)(p:List Nat)(e:LEnt) :Hs Un.D e.ts→OSum Un e.outs→Prop:=LQ prog Un f kk p e
theorem FH(e:FEnt)(k:KC e){F:Hs Un.D e.ts→Option (Hs Un.D e.us)}(h:∀h r,F h=some r→FD e h r) :FC e F:= .of k h
theorem LH(e:LEnt){f kk:Nat}{p:List Nat}{F:Hs Un.D e.ts→Option (OSum Un e.outs)}(h:∀h o,F h=some o→LD f kk p e h o) :LC f kk p e F:= .of h
theorem FA(e:FEnt)(k:KC e){fs:List (FSpec Un)}(hf:FoC prog fs){ls:List (Nat × LSpec Un)}(hl:LoC prog e.f e.st.length [] ls){h:Hs Un.D e.ts}{r:Hs Un.D e.us}(hx:xbody (foS fs) (loL ls) prog e h=some r) :FD e h r:= .at k hf hl hx
theorem LA(e:LEnt){f kk:Nat}{p:List Nat}{F:Hs Un.D e.ts→Option (OSum Un e.outs)}(hF:∀h o,F h=some o→LD f kk p e h o){fs:List (FSpec Un)}(hf:FoC prog fs){ls:List (Nat × LSpec Un)}(hl:LoC prog f kk p ls){h:Hs Un.D e.ts}{o:OSum Un e.outs}(hx:gdx (foS fs) (loL ls) kk (pathF prog f p) e F h=some o) :LD f kk p e h o:= .at hF hf hl hx
def e55 :FEnt:=⟨55,[hh tI],[],[tI],hh .bool,[],[.bool],[]⟩
def e94 :FEnt:=⟨94,[hh tI],[],[tI],hh .bool,[],[.bool],[]⟩
def e78_0 :LEnt:=⟨0,⟨[(1,hh tI),(2,hP 0 0),(6,hh tI)],[.brow 4]⟩,[],[],[tI,tI,.nm 4],[⟨.ret,⟨[(4,hh tI),(5,hh .bool)],[]⟩,[],[tI,.bool]⟩,oX 0],[]⟩
def e78 :FEnt:=⟨78,[.row 4,hh tI],[],[.nm 4,tI],.tup [hh tI,hh .bool],[],[tI,.bool],[e78_0]⟩
def e69_0 :LEnt:=⟨0,⟨[(1,hh tI),(2,hP 0 0),(6,hh tI)],[.brow 4]⟩,[],[],[tI,tI,.nm 4],[⟨.ret,⟨[(4,hh tI),(5,hh .bool)],[]⟩,[],[tI,.bool]⟩,oX 0],[]⟩
def e69 :FEnt:=⟨69,[.row 4,hh tI],[],[.nm 4,tI],.tup [hh tI,hh .bool],[],[tI,.bool],[e69_0]⟩
def e108 :FEnt:=⟨108,[hh .bool,hh .bool],[],[.bool,.bool],hh tI,[],[tI],[]⟩
def e84 :FEnt:=⟨84,[hh tI],[],[tI],hh (.int .u64),[],[.int .u64],[]⟩
def e80 :FEnt:=⟨80,[.row 7,.row 7],[],[.nm 7,.nm 7],hh tI,[],[tI],[]⟩
def e33 :FEnt:=⟨33,[hh tI],[],[tI],.row 7,[],[.nm 7],[]⟩
def e32 :FEnt:=⟨32,[hh tI],[],[tI],.row 6,[],[.nm 6],[]⟩
def e34 :FEnt:=⟨34,[hh (tL 6)],[],[tL 6],.row 9,[],[.nm 9],[]⟩
def e35 :FEnt:=⟨35,[hh tI,hh tI],[],[tI,tI],.row 7,[],[.nm 7],[]⟩
def gtn :LEnt:=⟨0,⟨[(0,hh (tL 5)),(1,hh (tL 5)),(12,hh tI),(13,hh tI)],[]⟩,[],[],[tL 5,tL 5,tI,tI],[oR 4 .bool,oX 0],[]⟩
def e186 :FEnt:=⟨186,[hh (tL 5),hh (tL 5)],[],[tL 5,tL 5],hh .bool,[],[.bool],[gtn]⟩
def e36_0 :LEnt:=⟨0,⟨[(0,hh (tL 8)),(1,hh (tL 8)),(12,hh tI),(13,hh tI)],[]⟩,[],[],[tL 8,tL 8,tI,tI],[oR 4 .bool,oX 0],[]⟩
def e36 :FEnt:=⟨36,[hh (tL 8),hh (tL 8)],[],[tL 8,tL 8],hh .bool,[],[.bool],[e36_0]⟩
def ge0 :LEnt:=⟨0,⟨[(1,hh (tL 7)),(2,.c (.fn 189 [])),(15,hh (tL 7)),(16,hh tI),(17,hh tI)],[]⟩,[],[],[tL 7,tL 7,tI,tI],[oR 6 .bool,oX 0],[]⟩
def e82_a :FEnt:=⟨82,[hh (tL 7),hh (tL 7),.c (.fn 189 [])],[],[tL 7,tL 7],hh .bool,[],[.bool],[ge0]⟩
def e189 :FEnt:=⟨189,[.row 7,.row 7],[],[.nm 7,.nm 7],hh .bool,[],[.bool],[]⟩
def e188 :FEnt:=⟨188,[.row 6,.row 6],[],[.nm 6,.nm 6],hh .bool,[],[.bool],[]⟩
def gto :LEnt:=⟨0,⟨[(1,hh (tL 6)),(2,.c (.fn 188 [])),(15,hh (tL 6)),(16,hh tI),(17,hh tI)],[]⟩,[],[],[tL 6,tL 6,tI,tI],[oR 6 .bool,oX 0],[]⟩
def e187 :FEnt:=⟨187,[hh (tL 6),hh (tL 6),.c (.fn 188 [])],[],[tL 6,tL 6],hh .bool,[],[.bool],[gto]⟩
def e155 :FEnt:=⟨155,[.row 4,.row 4],[],[.nm 4,.nm 4],hh .bool,[],[.bool],[]⟩
def e182 :FEnt:=⟨182,[hh (.int .u8)],[],[.int .u8],hh .bool,[],[.bool],[]⟩
def e183 :FEnt:=⟨183,[hh (.int .u8)],[],[.int .u8],hh .bool,[],[.bool],[]⟩
def gtp :LEnt:=⟨0,⟨[(0,hh .str),(18,hh tI),(19,hh tI)],[]⟩,[],[],[.str,tI,tI],[oR 2 .bool,oX 0],[]⟩
def e152 :FEnt:=⟨152,[hh .str],[],[.str],hh .bool,[],[.bool],[gtp]⟩
def gtq :LEnt:=⟨0,⟨[(0,hh tLI),(1,hh tLS),(5,.c (.mp 0)),(9,hh tLI),(10,hh tI),(11,hh tI)],[.set]⟩,[],[],[tLI,tLS,tLI,tI,tI,tLS],[oR 4 .bool,⟨.exit 0,⟨[(0,hh tLI)],[]⟩,[],[tLI]⟩],[]⟩
def e184 :FEnt:=⟨184,[hh tLI,hh tLS],[],[tLI,tLS],hh .bool,[],[.bool],[gtq]⟩
def gts :LEnt:=⟨0,⟨[(0,hh (tL 5)),(3,.c (.arr 0)),(4,.c (.arr 1)),(7,hh (tL 5)),(8,hh tI),(9,hh tI)],[.arr tI,.arr .str]⟩,[(.slot 3,tI),(.slot 4,.str)],[(.slot 3,tI),(.slot 4,.str)],[tL 5,tL 5,tI,tI,tLI,tLS],[⟨.exit 0,⟨[(0,hh (tL 5)),(3,.c (.arr 0)),(4,.c (.arr 1))],[.arr tI,.arr .str]⟩,[],[tL 5,tLI,tLS]⟩],[]⟩
def e153 :FEnt:=⟨153,[hh (tL 5)],[],[tL 5],hh .bool,[],[.bool],[gts]⟩
def e185 :FEnt:=⟨185,[.row 7],[],[.nm 7],hh .bool,[],[.bool],[]⟩
def gtt :LEnt:=⟨0,⟨[(1,hP 0 0),(3,.c (.arr 1)),(4,.c (.arr 2)),(8,hh (tL 6)),(9,hh tI),(10,hh tI)],[.brow 4,.arr tI,.arr .str]⟩,[(.slot 3,tI),(.slot 4,.str)],[(.slot 3,tI),(.slot 4,.str)],[tL 6,tI,tI,.nm 4,tLI,tLS],[oR 2 .bool,⟨.exit 0,⟨[(1,hP 0 0),(3,.c (.arr 1)),(4,.c (.arr 2))],[.brow 4,.arr tI,.arr .str]⟩,[],[.nm 4,tLI,tLS]⟩],[]⟩
def e154 :FEnt:=⟨154,[.row 4],[],[.nm 4],hh .bool,[],[.bool],[gtt]⟩
def e115 :FEnt:=⟨115,[.row 4],[],[.nm 4],hh .bool,[],[.bool],[]⟩
def gtu :LEnt:=⟨0,⟨[(1,hP 0 0),(3,.c (.arr 1)),(7,hh (tL 6)),(8,hh tI),(9,hh tI)],[.brow 4,.arr tI]⟩,[(.slot 3,tI)],[(.slot 3,tI)],[tL 6,tI,tI,.nm 4,tLI],[⟨.exit 0,⟨[(1,hP 0 0),(3,.c (.arr 1))],[.brow 4,.arr tI]⟩,[],[.nm 4,tLI]⟩],[]⟩
def e116 :FEnt:=⟨116,[.row 4],[],[.nm 4],hh tLI,[],[tLI],[gtu]⟩
def gqm :LEnt:=⟨0,⟨[(1,hP 0 0),(3,.c (.mp 1)),(5,hP 2 0),(14,hh (tL 4)),(15,hh tI),(16,hh tI),(38,hh tLI),(39,hh tI),(40,hh tI)],[bb (tL 4),.set,.box [.hole tI,.hole .str,.hole tI,.hole tI,.hole tI,.hole (tL 5),.hole (tL 6),.hole tI,.hole tI,.hole .bool]]⟩,[],[],[tL 4,tI,tI,tLI,tI,tI,tL 4,tLS,tI,.str,tI,tI,tI,tL 5,tL 6,tI,tI,.bool],[oR 2 tI,⟨.exit 2,⟨[(1,hP 0 0),(3,.c (.mp 1)),(5,hP 2 0),(14,hh (tL 4)),(15,hh tI),(16,hh tI)],[bb (tL 4),.set,.box [.hole tI,.hole .str,.hole tI,.hole tI,.hole tI,.hole (tL 5),.hole (tL 6),.hole tI,.hole tI,.hole .bool]]⟩,[],[tL 4,tI,tI,tL 4,tLS,tI,.str,tI,tI,tI,tL 5,tL 6,tI,tI,.bool]⟩],[]⟩
def e88_0 :LEnt:=⟨0,⟨[(1,hP 0 0),(3,.c (.mp 1)),(14,hh (tL 4)),(15,hh tI),(16,hh tI)],[bb (tL 4),.set]⟩,[],[],[tL 4,tI,tI,tL 4,tLS],[oR 2 tI,oX 0],[gqm]⟩
def e88 :FEnt:=⟨88,[.row 9],[],[.nm 9],hh tI,[],[tI],[e88_0]⟩
def e61 :FEnt:=⟨61,[.row 9,hh tI],[],[.nm 9,tI],hh tI,[],[tI],[]⟩
def e171 :FEnt:=⟨171,[.row 7],[],[.nm 7],.row 7,[],[.nm 7],[]⟩
def e139 :FEnt:=⟨139,[.row 7],[],[.nm 7],hh .bool,[],[.bool],[]⟩
def e100 :FEnt:=⟨100,[.row 5,hP 0 0],[bb tI],[.nm 5,tI],hh .bool,[bb tI],[.bool,tI],[]⟩
def e99_0 :LEnt:=⟨0,⟨[(0,hh (tL 5)),(1,.c (.fn 100 [0])),(7,hh tI),(8,hh tI)],[bb tI]⟩,[],[],[tL 5,tI,tI,tI],[⟨.ret,⟨[(4,hh tI)],[bb tI]⟩,[],[tI,tI]⟩,⟨.exit 0,⟨[],[bb tI]⟩,[],[tI]⟩],[]⟩
def e99 :FEnt:=⟨99,[hh (tL 5),.c (.fn 100 [0])],[bb tI],[tL 5,tI],hh tI,[bb tI],[tI,tI],[e99_0]⟩
def e64 :FEnt:=⟨64,[.row 4,hh tI],[],[.nm 4,tI],.tup [hh tI,hh .bool],[],[tI,.bool],[]⟩
def e140 :FEnt:=⟨140,[hh tI],[],[tI],hh .bool,[],[.bool],[]⟩
def e144 :FEnt:=⟨144,[.row 6,hP 0 0],[bb tI],[.nm 6,tI],hh .bool,[bb tI],[.bool,tI],[]⟩
def gtv :LEnt:=⟨0,⟨[(0,hh (tL 6)),(1,.c (.fn 144 [0])),(7,hh tI),(8,hh tI)],[bb tI]⟩,[],[],[tL 6,tI,tI,tI],[⟨.ret,⟨[(4,hh tI)],[bb tI]⟩,[],[tI,tI]⟩,⟨.exit 0,⟨[],[bb tI]⟩,[],[tI]⟩],[]⟩
def e143 :FEnt:=⟨143,[hh (tL 6),.c (.fn 144 [0])],[bb tI],[tL 6,tI],hh tI,[bb tI],[tI,tI],[gtv]⟩
def e101 :FEnt:=⟨101,[.row 4,hh tI],[],[.nm 4,tI],.tup [hh tI,hh .bool],[],[tI,.bool],[]⟩
def e173 :FEnt:=⟨173,[.row 7,hP 0 0,hP 1 0,hP 2 0],[bb (tL 4),bb tI,bb .bool],[.nm 7,tL 4,tI,.bool],hh .bool,[bb (tL 4),bb tI,bb .bool],[.bool,tL 4,tI,.bool],[]⟩
def ghg :LEnt:=⟨0,⟨[(0,hh (tL 7)),(1,.c (.fn 173 [0,1,2])),(7,hh tI),(8,hh tI)],[bb (tL 4),bb tI,bb .bool]⟩,[],[],[tL 7,tI,tI,tL 4,tI,.bool],[⟨.ret,⟨[(4,hh tI)],[bb (tL 4),bb tI,bb .bool]⟩,[],[tI,tL 4,tI,.bool]⟩,⟨.exit 0,⟨[],[bb (tL 4),bb tI,bb .bool]⟩,[],[tL 4,tI,.bool]⟩],[]⟩
def e194 :FEnt:=⟨194,[hh (tL 7),.c (.fn 173 [0,1,2])],[bb (tL 4),bb tI,bb .bool],[tL 7,tL 4,tI,.bool],hh tI,[bb (tL 4),bb tI,bb .bool],[tI,tL 4,tI,.bool],[ghg]⟩
def e172 :FEnt:=⟨172,[hh (tL 7),.c (.fn 173 [0,1,2])],[bb (tL 4),bb tI,bb .bool],[tL 7,tL 4,tI,.bool],hh .bool,[bb (tL 4),bb tI,bb .bool],[.bool,tL 4,tI,.bool],[]⟩
def e141 :FEnt:=⟨141,[.row 9,hh tI,hh (tL 7),hh .bool],[],[.nm 9,tI,tL 7,.bool],hh .bool,[],[.bool],[]⟩
def e175 :FEnt:=⟨175,[hh tI],[],[tI],hh (.int .u64),[],[.int .u64],[]⟩
def e195 :FEnt:=⟨195,[hh (.int .u64)],[],[.int .u64],hh .bool,[],[.bool],[]⟩
def e174 :FEnt:=⟨174,[hh (.int .u64),hh (.int .u64)],[],[.int .u64,.int .u64],hh tI,[],[tI],[]⟩
def e196 :FEnt:=⟨196,[hh tI],[],[tI],hh .bool,[],[.bool],[]⟩
def e177 :FEnt:=⟨177,[hh tI,hh tI],[],[tI,tI],hh tI,[],[tI],[]⟩
def e197 :FEnt:=⟨197,[hh .str],[],[.str],hh .bool,[],[.bool],[]⟩
def e178 :FEnt:=⟨178,[hh .str,hh .str],[],[.str,.str],hh tI,[],[tI],[]⟩
def gtw :LEnt:=⟨0,⟨[(3,hh tI),(6,hh tLI),(7,hh tI),(8,hh tI)],[]⟩,[],[],[tI,tLI,tI,tI],[oR 2 tI,⟨.exit 0,⟨[(3,hh tI)],[]⟩,[],[tI]⟩],[]⟩
def e176 :FEnt:=⟨176,[hh tLI],[],[tLI],hh tI,[],[tI],[gtw]⟩
def e142 :FEnt:=⟨142,[.row 7,.row 7],[],[.nm 7,.nm 7],hh tI,[],[tI],[]⟩
def e97_0 :LEnt:=⟨0,⟨[(3,hh .bool),(4,hP 0 0),(6,hP 1 0),(9,hP 2 0),(111,hh (tL 8)),(112,hh tI),(113,hh tI)],[bb (tL 4),.brow 7,.box [.hole tI,.hole .str,.hole tI,.hole tI,.hole tI,.hole (tL 5),.hole (tL 6),.hole tI,.hole tI,.hole .bool]]⟩,[],[],[.bool,tL 8,tI,tI,tL 4,.nm 7,tI,.str,tI,tI,tI,tL 5,tL 6,tI,tI,.bool],[oR 8 .bool,⟨.exit 1,⟨[(3,hh .bool),(4,hP 0 0),(6,hP 1 0),(9,hP 2 0)],[bb (tL 4),.box [.hole tI,.hole .bool,.hole tI,.hole .str,.hole tI,.hole (tL 7),.hole (tL 7),.hole (tL 8)],.box [.hole tI,.hole .str,.hole tI,.hole tI,.hole tI,.hole (tL 5),.hole (tL 6),.hole tI,.hole tI,.hole .bool]]⟩,[],[.bool,tL 4,tI,.bool,tI,.str,tI,tL 7,tL 7,tL 8,tI,.str,tI,tI,tI,tL 5,tL 6,tI,tI,.bool]⟩],[]⟩
def e97_1 :LEnt:=⟨1,⟨[(3,hh .bool),(4,hP 0 0),(6,hP 1 0),(150,hh (tL 6)),(151,hh tI),(152,hh tI)],[bb (tL 4),.box [.hole tI,.hole .bool,.hole tI,.hole .str,.hole tI,.hole (tL 7),.hole (tL 7),.hole (tL 8)]]⟩,[],[],[.bool,tL 6,tI,tI,tL 4,tI,.bool,tI,.str,tI,tL 7,tL 7,tL 8],[oR 8 .bool,oX 3],[]⟩
def e97_2 :LEnt:=⟨2,⟨[(3,hh .bool),(4,hP 0 0),(6,hP 1 0),(9,hP 2 0),(20,hh tI)],[bb (tL 4),.brow 7,.box [.hole tI,.hole .str,.hole tI,.hole tI,.hole tI,.hole (tL 5),.hole (tL 6),.hole tI,.hole tI,.hole .bool]]⟩,[],[],[.bool,tI,tL 4,.nm 7,tI,.str,tI,tI,tI,tL 5,tL 6,tI,tI,.bool],[oR 8 .bool,⟨.exit 5,⟨[(3,hh .bool),(4,hP 0 0),(6,hP 1 0),(9,hP 2 0)],[bb (tL 4),.brow 7,.box [.hole tI,.hole .str,.hole tI,.hole tI,.hole tI,.hole (tL 5),.hole (tL 6),.hole tI,.hole tI,.hole .bool]]⟩,[],[.bool,tL 4,.nm 7,tI,.str,tI,tI,tI,tL 5,tL 6,tI,tI,.bool]⟩],[]⟩
def e97 :FEnt:=⟨97,[.row 9,hh tI,.row 7,hh .bool],[],[.nm 9,tI,.nm 7,.bool],hh .bool,[],[.bool],[e97_0,e97_1,e97_2]⟩
def e62 :FEnt:=⟨62,[.row 9,hh tI,.row 7],[],[.nm 9,tI,.nm 7],hh .bool,[],[.bool],[]⟩
def e37 :FEnt:=⟨37,[.row 9,hh tI,.row 7,.row 9,hh tI],[],[.nm 9,tI,.nm 7,.nm 9,tI],hh tI,[],[tI],[]⟩
def e63 :FEnt:=⟨63,[hP 0 0],[.box [.hole (tL 4),.hole (tL 4),.arr 1,.hole tLI],.arr tI],[tL 4,tL 4,tLI,tLI],.tup [.row 7,hh .bool],[.box [.hole (tL 4),.hole (tL 4),.arr 2,.arr 3],.gone,.arr tI,.arr tI],[.nm 7,.bool,tL 4,tL 4,tLI,tLI],[]⟩
def e102 :FEnt:=⟨102,[hP 0 0,hh tI],[.box [.hole (tL 4),.hole (tL 4),.arr 1,.hole tLI],.arr tI],[tI,tL 4,tL 4,tLI,tLI],.tup [.row 7,hh .bool],[.box [.hole (tL 4),.hole (tL 4),.arr 2,.arr 3],.gone,.arr tI,.arr tI],[.nm 7,.bool,tL 4,tL 4,tLI,tLI],[]⟩
def ghh :LEnt:=⟨0,⟨[(1,hP 0 0),(2,hP 1 0),(20,.c (.arr 2)),(21,hh tI),(22,hh tI)],[.box [.hole tI,.hole .bool,.hole tI,.hole .str,.hole tI,.arr 2,.arr 3,.arr 4],.box [.hole tI,.hole .bool,.hole tI,.hole .str,.hole tI,.cap0,.cap0,.cap0],.arr (.nm 7),.arr (.nm 7),.arr (.nm 8)]⟩,[],[],[tI,tI,tI,.bool,tI,.str,tI,tI,.bool,tI,.str,tI,tL 7,tL 7,tL 8],[⟨.exit 0,⟨[(1,hP 0 0),(2,hP 1 0)],[.box [.hole tI,.hole .bool,.hole tI,.hole .str,.hole tI,.arr 2,.arr 3,.arr 4],.box [.hole tI,.hole .bool,.hole tI,.hole .str,.hole tI,.cap0,.cap0,.cap0],.arr (.nm 7),.arr (.nm 7),.arr (.nm 8)]⟩,[],[tI,.bool,tI,.str,tI,tI,.bool,tI,.str,tI,tL 7,tL 7,tL 8]⟩],[]⟩
def ghi :LEnt:=⟨1,⟨[(1,hP 0 0),(2,hP 1 0),(35,.c (.arr 2)),(36,hh tI),(37,hh tI)],[.box [.hole tI,.hole .bool,.hole tI,.hole .str,.hole tI,.arr 3,.arr 2,.arr 4],.box [.hole tI,.hole .bool,.hole tI,.hole .str,.hole tI,.cap0,.cap0,.cap0],.arr (.nm 7),.arr (.nm 7),.arr (.nm 8)]⟩,[],[],[tI,tI,tI,.bool,tI,.str,tI,tI,.bool,tI,.str,tI,tL 7,tL 7,tL 8],[⟨.exit 2,⟨[(1,hP 0 0),(2,hP 1 0)],[.box [.hole tI,.hole .bool,.hole tI,.hole .str,.hole tI,.arr 2,.arr 3,.arr 4],.box [.hole tI,.hole .bool,.hole tI,.hole .str,.hole tI,.cap0,.cap0,.cap0],.arr (.nm 7),.arr (.nm 7),.arr (.nm 8)]⟩,[],[tI,.bool,tI,.str,tI,tI,.bool,tI,.str,tI,tL 7,tL 7,tL 8]⟩],[]⟩
def e103 :FEnt:=⟨103,[.row 7],[],[.nm 7],.row 7,[],[.nm 7],[ghh,ghi]⟩
def e104 :FEnt:=⟨104,[hP 0 0,hh tI,hh tI,.row 7,hh tI],[.box [.hole (tL 4),.hole (tL 4),.arr 1,.hole tLI],.arr tI],[tI,tI,.nm 7,tI,tL 4,tL 4,tLI,tLI],.tup [.row 7,hh .bool],[.box [.hole (tL 4),.hole (tL 4),.arr 2,.hole tLI],.gone,.arr tI],[.nm 7,.bool,tL 4,tL 4,tLI,tLI],[]⟩
def ge1 :LEnt:=⟨0,⟨[(1,hh (tL 7)),(2,.c (.fn 45 [])),(15,hh (tL 7)),(16,hh tI),(17,hh tI)],[]⟩,[],[],[tL 7,tL 7,tI,tI],[oR 6 .bool,oX 0],[]⟩
def e82_b :FEnt:=⟨82,[hh (tL 7),hh (tL 7),.c (.fn 45 [])],[],[tL 7,tL 7],hh .bool,[],[.bool],[ge1]⟩
def e45 :FEnt:=⟨45,[.row 7,.row 7],[],[.nm 7,.nm 7],hh .bool,[],[.bool],[]⟩
def e105 :FEnt:=⟨105,[.row 6,.row 7],[],[.nm 6,.nm 7],hh .bool,[],[.bool],[]⟩
def gtx :LEnt:=⟨0,⟨[(0,hh (.int .u64)),(3,hP 0 0),(4,hh tI)],[.arr (.int .u8)]⟩,[],[],[.int .u64,tI,.slice (.int .u8)],[⟨.exit 0,⟨[(0,hh (.int .u64)),(3,hP 0 0),(4,hh tI)],[.arr (.int .u8)]⟩,[],[.int .u64,tI,.slice (.int .u8)]⟩],[]⟩
def e148 :FEnt:=⟨148,[hh (.int .u64)],[],[.int .u64],hh .str,[],[.str],[gtx]⟩
def e198 :FEnt:=⟨198,[hh .str],[],[.str],hh .str,[],[.str],[]⟩
def e179 :FEnt:=⟨179,[hh tI,hh .bool,hh .str],[],[tI,.bool,.str],hh .str,[],[.str],[]⟩
def e147 :FEnt:=⟨147,[hh tI,hh .bool,hh .str],[],[tI,.bool,.str],.tup [hh .str,hh tI],[],[.str,tI],[]⟩
def e149 :FEnt:=⟨149,[hh .str],[],[.str],hh .str,[],[.str],[]⟩
def e199 :FEnt:=⟨199,[.row 9,hh tI],[],[.nm 9,tI],hh tI,[],[tI],[]⟩
def e200 :FEnt:=⟨200,[.row 9,hh tI,.row 7],[],[.nm 9,tI,.nm 7],hh .bool,[],[.bool],[]⟩
def e180 :FEnt:=⟨180,[.row 9,hh tI,.row 7],[],[.nm 9,tI,.nm 7],hh tI,[],[tI],[]⟩
def gty :LEnt:=⟨0,⟨[(0,hh (.int .u64)),(3,hP 0 0),(4,hh tI)],[.arr (.int .u8)]⟩,[],[],[.int .u64,tI,.slice (.int .u8)],[⟨.exit 0,⟨[(3,hP 0 0),(4,hh tI)],[.arr (.int .u8)]⟩,[],[tI,.slice (.int .u8)]⟩],[]⟩
def e201 :FEnt:=⟨201,[hh (.int .u64)],[],[.int .u64],hh .str,[],[.str],[gty]⟩
def e207 :FEnt:=⟨207,[.row 6,.row 7],[],[.nm 6,.nm 7],hh .bool,[],[.bool],[]⟩
def e204 :FEnt:=⟨204,[hP 0 0,hh .str],[.bld 236 ((.bufc 1)),.buf 5],[.str,.str],.tup [hh tI,.c (.dead)],[.bld 236 ((.bufc 2)),.gone,.buf 5],[tI,.str],[]⟩
def e205 :FEnt:=⟨205,[hP 0 0],[.bld 236 ((.bufc 1)),.buf 5],[.str],hh .str,[.bld 236 ((.bufc 1)),.gone],[.str],[]⟩
def ghj :LEnt:=⟨0,⟨[(0,hP 0 0),(3,hh tI),(6,hP 1 0),(9,.c (.arr 2)),(18,hh (tL 6)),(19,hh tI),(20,hh tI)],[.box [.hole (tL 4),.hole tI],.brow 7,.arr (.nm 10)]⟩,[(.slot 9,.nm 10)],[(.slot 9,.nm 10)],[tI,tL 6,tI,tI,tL 4,tI,.nm 7,tL 10],[⟨.exit 0,⟨[(6,hP 1 0),(9,.c (.arr 2))],[.box [.hole (tL 4),.hole tI],.brow 7,.arr (.nm 10)]⟩,[],[tL 4,tI,.nm 7,tL 10]⟩],[]⟩
def gtz :LEnt:=⟨1,⟨[(9,.c (.arr 1)),(57,hh (tL 8)),(58,hh tI),(59,hh tI)],[.box [.hole (tL 4),.hole tI],.arr (.nm 10)]⟩,[],[],[tL 8,tI,tI,tL 4,tI,tL 10],[⟨.exit 2,⟨[(9,.c (.arr 1))],[.box [.hole (tL 4),.hole tI],.arr (.nm 10)]⟩,[],[tL 4,tI,tL 10]⟩],[]⟩
def gu0 :LEnt:=⟨2,⟨[(14,hP 1 0),(77,.c (.arr 2)),(78,hh tI),(79,hh tI)],[.box [.hole (tL 4),.hole tI],.bld 236 ((.bufc 3)),.arr (.nm 10),.buf 5]⟩,[],[],[tI,tI,tL 4,tI,tL 10,.str],[⟨.exit 4,⟨[(14,hP 1 0)],[.box [.hole (tL 4),.hole tI],.bld 236 ((.bufc 2)),.buf 5]⟩,[],[tL 4,tI,.str]⟩],[]⟩
def e202 :FEnt:=⟨202,[hP 0 0,.row 4,.row 7,hh tI],[.box [.hole (tL 4),.hole tI]],[.nm 4,.nm 7,tI,tL 4,tI],hh .str,[.box [.hole (tL 4),.hole tI]],[.str,tL 4,tI],[ghj,gtz,gu0]⟩
def e203 :FEnt:=⟨203,[hP 0 0,.row 4,.row 7,hh tI],[.box [.hole (tL 4),.hole tI]],[.nm 4,.nm 7,tI,tL 4,tI],hh .str,[.box [.hole (tL 4),.hole tI]],[.str,tL 4,tI],[]⟩
def ghk :LEnt:=⟨0,⟨[(0,hP 0 0),(3,hh tI),(6,hP 1 0),(9,hP 2 0),(10,hP 3 0),(84,hh (tL 7)),(85,hh tI),(86,hh tI)],[.box [.hole (tL 4),.hole tI],.brow 7,.brow 4,.bld 236 ((.bufc 4)),.buf 5]⟩,[],[],[tI,tL 7,tI,tI,tL 4,tI,.nm 7,.nm 4,.str],[⟨.exit 1,⟨[(10,hP 1 0)],[.box [.hole (tL 4),.hole tI],.bld 236 ((.bufc 2)),.buf 5]⟩,[],[tL 4,tI,.str]⟩],[]⟩
def e181 :FEnt:=⟨181,[hP 0 0,hh tI,.row 7,hh tI],[.box [.hole (tL 4),.hole tI]],[tI,.nm 7,tI,tL 4,tI],hh .str,[.box [.hole (tL 4),.hole tI]],[.str,tL 4,tI],[ghk]⟩
def e150 :FEnt:=⟨150,[.row 9,hh tI,.row 7],[],[.nm 9,tI,.nm 7],.tup [hh .str,hh tI],[],[.str,tI],[]⟩
def ghl :LEnt:=⟨0,⟨[(3,hP 0 0),(5,hP 1 0),(8,hh .str),(36,hh (tL 6)),(37,hh tI),(38,hh tI)],[bb (tL 4),.brow 7]⟩,[],[],[.str,tL 6,tI,tI,tL 4,.nm 7],[⟨.exit 1,⟨[(8,hh .str)],[]⟩,[],[.str]⟩],[]⟩
def ghm :LEnt:=⟨1,⟨[(3,hP 0 0),(7,hP 1 0),(8,hh .str),(101,hh (tL 7)),(102,hh tI),(103,hh tI)],[bb (tL 4),.brow 4]⟩,[],[],[.str,tL 7,tI,tI,tL 4,.nm 4],[⟨.exit 3,⟨[(8,hh .str)],[]⟩,[],[.str]⟩],[]⟩
def ghn :LEnt:=⟨2,⟨[(3,hP 0 0),(5,hP 1 0),(7,hP 2 0),(8,hh .str),(118,hh (tL 7)),(119,hh tI),(120,hh tI)],[bb (tL 4),.brow 7,.brow 4]⟩,[],[],[.str,tL 7,tI,tI,tL 4,.nm 7,.nm 4],[⟨.exit 5,⟨[(8,hh .str)],[]⟩,[],[.str]⟩],[]⟩
def e106 :FEnt:=⟨106,[.row 9,hh tI,.row 7],[],[.nm 9,tI,.nm 7],hh .str,[],[.str],[ghl,ghm,ghn]⟩
def e65_0 :LEnt:=⟨0,⟨[(0,hP 0 0),(5,hP 2 0),(6,hP 3 0),(7,hP 4 0),(8,hP 5 0),(10,hP 6 0),(25,hh (tL 6)),(26,hh tI),(27,hh tI)],[.box [.hole (tL 4),.hole (tL 4),.arr 7,.hole tLI],.gone,.brow 4,.brow 7,.brow 4,.box [.hole tI,.hole .bool,.hole tI,.hole .str,.hole tI,.cap0,.cap0,.cap0],.box [.hole tI,.hole .bool,.hole tI,.hole .str,.hole tI,.cap0,.arr 8,.cap0],.arr tI,.arr (.nm 7)]⟩,[(.via 10 6,.nm 7)],[(.via 10 6,.nm 7)],[tL 6,tI,tI,tL 4,tL 4,tLI,.nm 4,.nm 7,.nm 4,tI,.bool,tI,.str,tI,tI,.bool,tI,.str,tI,tLI,tL 7],[⟨.ret,⟨[(8,hP 2 0),(9,hh .bool)],[.box [.hole (tL 4),.hole (tL 4),.arr 3,.hole tLI],.gone,.brow 7,.arr tI]⟩,[],[.bool,tL 4,tL 4,tLI,.nm 7,tLI]⟩,⟨.exit 0,⟨[(0,hP 0 0),(5,hP 2 0),(6,hP 3 0),(7,hP 4 0),(8,hP 5 0),(10,hP 6 0)],[.box [.hole (tL 4),.hole (tL 4),.arr 7,.hole tLI],.gone,.brow 4,.brow 7,.brow 4,.box [.hole tI,.hole .bool,.hole tI,.hole .str,.hole tI,.cap0,.cap0,.cap0],.box [.hole tI,.hole .bool,.hole tI,.hole .str,.hole tI,.cap0,.arr 8,.cap0],.arr tI,.arr (.nm 7)]⟩,[],[tL 4,tL 4,tLI,.nm 4,.nm 7,.nm 4,tI,.bool,tI,.str,tI,tI,.bool,tI,.str,tI,tLI,tL 7]⟩],[]⟩
def e65_1 :LEnt:=⟨1,⟨[(0,hP 0 0),(6,hP 2 0),(7,hP 3 0),(8,hP 4 0),(10,hP 5 0),(115,hh (tL 6)),(116,hh tI),(117,hh tI)],[.box [.hole (tL 4),.hole (tL 4),.arr 6,.hole tLI],.gone,.brow 7,.brow 4,.box [.hole tI,.hole .bool,.hole tI,.hole .str,.hole tI,.cap0,.cap0,.cap0],.box [.hole tI,.hole .bool,.hole tI,.hole .str,.hole tI,.cap0,.arr 7,.arr 8],.arr tI,.arr (.nm 7),.arr (.nm 8)]⟩,[(.via 10 7,.nm 8)],[(.via 10 7,.nm 8)],[tL 6,tI,tI,tL 4,tL 4,tLI,.nm 7,.nm 4,tI,.bool,tI,.str,tI,tI,.bool,tI,.str,tI,tLI,tL 7,tL 8],[⟨.ret,⟨[(8,hP 2 0),(9,hh .bool)],[.box [.hole (tL 4),.hole (tL 4),.arr 3,.arr 4],.gone,.brow 7,.arr tI,.arr tI]⟩,[],[.bool,tL 4,tL 4,.nm 7,tLI,tLI]⟩,⟨.exit 2,⟨[(8,hP 2 0),(10,hP 3 0)],[.box [.hole (tL 4),.hole (tL 4),.arr 4,.hole tLI],.gone,.box [.hole tI,.hole .bool,.hole tI,.hole .str,.hole tI,.cap0,.cap0,.cap0],.box [.hole tI,.hole .bool,.hole tI,.hole .str,.hole tI,.cap0,.arr 5,.arr 6],.arr tI,.arr (.nm 7),.arr (.nm 8)]⟩,[],[tL 4,tL 4,tLI,tI,.bool,tI,.str,tI,tI,.bool,tI,.str,tI,tLI,tL 7,tL 8]⟩],[]⟩
def e65 :FEnt:=⟨65,[hP 0 0,.row 4,.row 7,.row 4],[.box [.hole (tL 4),.hole (tL 4),.arr 1,.hole tLI],.arr tI],[.nm 4,.nm 7,.nm 4,tL 4,tL 4,tLI,tLI],.tup [.row 7,hh .bool],[.box [.hole (tL 4),.hole (tL 4),.arr 2,.hole tLI],.gone,.arr tI],[.nm 7,.bool,tL 4,tL 4,tLI,tLI],[e65_0,e65_1]⟩
def e66 :FEnt:=⟨66,[hP 0 0,.row 4,.row 7,.row 4],[.box [.hole (tL 4),.hole (tL 4),.arr 1,.hole tLI],.arr tI],[.nm 4,.nm 7,.nm 4,tL 4,tL 4,tLI,tLI],.tup [.row 7,hh .bool],[.box [.hole (tL 4),.hole (tL 4),.arr 2,.hole tLI],.gone,.arr tI],[.nm 7,.bool,tL 4,tL 4,tLI,tLI],[]⟩
def e67_0 :LEnt:=⟨0,⟨[(0,hP 0 0),(1,hh tI),(3,hh tI),(10,.c (.arr 2)),(15,hh (tL 7)),(16,hh tI),(17,hh tI)],[.box [.hole (tL 4),.hole (tL 4),.arr 3,.hole tLI],.gone,.arr (.nm 7),.arr tI]⟩,[(.slot 10,.nm 7)],[(.slot 10,.nm 7)],[tI,tI,tL 7,tI,tI,tL 4,tL 4,tLI,tL 7,tLI],[⟨.ret,⟨[(8,.c (.cap0)),(9,hh .bool)],[.box [.hole (tL 4),.hole (tL 4),.arr 2,.hole tLI],.gone,.arr tI]⟩,[],[.bool,tL 4,tL 4,tLI,tLI]⟩,⟨.exit 0,⟨[(10,.c (.arr 2))],[.box [.hole (tL 4),.hole (tL 4),.arr 3,.hole tLI],.gone,.arr (.nm 7),.arr tI]⟩,[],[tL 4,tL 4,tLI,tL 7,tLI]⟩],[]⟩
def e67 :FEnt:=⟨67,[hP 0 0,hh tI,hh (tL 7),hh tI],[.box [.hole (tL 4),.hole (tL 4),.arr 1,.hole tLI],.arr tI],[tI,tL 7,tI,tL 4,tL 4,tLI,tLI],.tup [hh (tL 7),hh .bool],[.box [.hole (tL 4),.hole (tL 4),.arr 2,.hole tLI],.gone,.arr tI],[tL 7,.bool,tL 4,tL 4,tLI,tLI],[e67_0]⟩
def e38 :FEnt:=⟨38,[hP 0 0,hh tI,.row 7,hh tI],[.box [.hole (tL 4),.hole (tL 4),.arr 1,.hole tLI],.arr tI],[tI,.nm 7,tI,tL 4,tL 4,tLI,tLI],.tup [.row 7,hh .bool],[.box [.hole (tL 4),.hole (tL 4),.arr 2,.hole tLI],.gone,.arr tI],[.nm 7,.bool,tL 4,tL 4,tLI,tLI],[]⟩
def e13 :FEnt:=⟨13,[.row 9,hh tI,.row 7,.row 9,hh tI],[],[.nm 9,tI,.nm 7,.nm 9,tI],.tup [.row 7,hh tI],[],[.nm 7,tI],[]⟩
def e17 :FEnt:=⟨17,[.row 9,hh tI,.row 7,.row 9,hh tI],[],[.nm 9,tI,.nm 7,.nm 9,tI],.tup [hh tLI,hh tI],[],[tLI,tI],[]⟩
def e19_0 :LEnt:=⟨0,⟨[(0,hh tLI),(1,hh tLI),(12,hh tI),(13,hh tI)],[]⟩,[],[],[tLI,tLI,tI,tI],[oR 4 .bool,oX 0],[]⟩
def e19 :FEnt:=⟨19,[hh tLI,hh tLI],[],[tLI,tLI],hh .bool,[],[.bool],[e19_0]⟩
def e12 :FEnt:=⟨12,[],[],[],hh .bool,[],[.bool],[]⟩
def e44_0 :LEnt:=⟨0,⟨[(1,hh tI),(2,hP 0 0),(5,hh tI)],[.brow 7]⟩,[],[],[tI,tI,.nm 7],[⟨.exit 0,⟨[(1,hh tI),(2,hP 0 0)],[.brow 7]⟩,[],[tI,.nm 7]⟩],[]⟩
def e44_1 :LEnt:=⟨1,⟨[(1,hh tI),(2,hP 0 0),(6,hh tI)],[.brow 7]⟩,[],[],[tI,tI,.nm 7],[⟨.exit 2,⟨[(1,hh tI),(2,hP 0 0)],[.brow 7]⟩,[],[tI,.nm 7]⟩],[]⟩
def e44_2 :LEnt:=⟨2,⟨[(1,hh tI),(2,hP 0 0),(7,hh tI)],[.brow 7]⟩,[],[],[tI,tI,.nm 7],[⟨.exit 4,⟨[(1,hh tI)],[]⟩,[],[tI]⟩],[]⟩
def e44 :FEnt:=⟨44,[.row 7,hh tI],[],[.nm 7,tI],hh tI,[],[tI],[e44_0,e44_1,e44_2]⟩
def e21 :FEnt:=⟨21,[.row 7],[],[.nm 7],hh .bool,[],[.bool],[]⟩
def e74_0 :LEnt:=⟨0,⟨[(0,hh (tL 7)),(1,hh (tL 7)),(5,hh tI)],[]⟩,[],[],[tL 7,tL 7,tI],[oR 4 .bool,oX 0],[]⟩
def e74 :FEnt:=⟨74,[hh (tL 7),hh (tL 7)],[],[tL 7,tL 7],hh .bool,[],[.bool],[e74_0]⟩
def e40_0 :LEnt:=⟨0,⟨[(2,hP 0 0),(3,hP 1 0),(5,hh tI)],[.brow 7,.brow 7]⟩,[],[],[tI,.nm 7,.nm 7],[oR 4 .bool,⟨.exit 0,⟨[(2,hP 0 0),(3,hP 1 0)],[.brow 7,.brow 7]⟩,[],[.nm 7,.nm 7]⟩],[]⟩
def e40 :FEnt:=⟨40,[.row 7,.row 7],[],[.nm 7,.nm 7],hh .bool,[],[.bool],[e40_0]⟩
def e15 :FEnt:=⟨15,[.row 7,.row 7],[],[.nm 7,.nm 7],hh .bool,[],[.bool],[]⟩
def e5 :FEnt:=⟨5,[.row 0],[],[.nm 0],hh .bool,[],[.bool],[]⟩
def e46_0 :LEnt:=⟨0,⟨[(1,hP 0 0),(3,hh tI),(4,hh tI)],[.brow 7]⟩,[],[],[tI,tI,.nm 7],[⟨.exit 0,⟨[(1,hP 0 0),(3,hh tI)],[.brow 7]⟩,[],[tI,.nm 7]⟩],[]⟩
def e46_1 :LEnt:=⟨1,⟨[(1,hP 0 0),(3,hh tI),(5,hh tI)],[.brow 7]⟩,[],[],[tI,tI,.nm 7],[⟨.exit 2,⟨[(1,hP 0 0),(3,hh tI)],[.brow 7]⟩,[],[tI,.nm 7]⟩],[]⟩
def e46_2 :LEnt:=⟨2,⟨[(1,hP 0 0),(3,hh tI),(6,hh tI)],[.brow 7]⟩,[],[],[tI,tI,.nm 7],[⟨.exit 4,⟨[(3,hh tI)],[]⟩,[],[tI]⟩],[]⟩
def e46 :FEnt:=⟨46,[.row 7],[],[.nm 7],hh tI,[],[tI],[e46_0,e46_1,e46_2]⟩
def gqn :LEnt:=⟨0,⟨[(1,hP 0 0),(3,hh tI),(4,hh tI),(5,hP 1 0),(6,hh tI)],[bb (tL 4),.brow 4]⟩,[],[],[tI,tI,tI,tL 4,.nm 4],[⟨.exit 2,⟨[(1,hP 0 0),(3,hh tI),(4,hh tI)],[bb (tL 4)]⟩,[],[tI,tI,tL 4]⟩],[]⟩
def e23_0 :LEnt:=⟨0,⟨[(1,hP 0 0),(3,hh tI),(4,hh tI)],[bb (tL 4)]⟩,[],[],[tI,tI,tL 4],[⟨.exit 0,⟨[(3,hh tI)],[]⟩,[],[tI]⟩],[gqn]⟩
def e23 :FEnt:=⟨23,[.row 9],[],[.nm 9],hh .bool,[],[.bool],[e23_0]⟩
def e134 :FEnt:=⟨134,[.row 4],[],[.nm 4],.row 4,[],[.nm 4],[]⟩
def e167 :FEnt:=⟨167,[.row 6,.row 6],[],[.nm 6,.nm 6],hh .bool,[],[.bool],[]⟩
def gu1 :LEnt:=⟨0,⟨[(2,hP 0 0),(3,hP 1 0),(5,hh tI)],[.brow 4,.brow 4]⟩,[],[],[tI,.nm 4,.nm 4],[oR 4 .bool,⟨.exit 0,⟨[(2,hP 0 0),(3,hP 1 0)],[.brow 4,.brow 4]⟩,[],[.nm 4,.nm 4]⟩],[]⟩
def gu2 :LEnt:=⟨1,⟨[(2,hP 0 0),(3,hP 1 0),(6,hh tI)],[.brow 4,.brow 4]⟩,[],[],[tI,.nm 4,.nm 4],[oR 4 .bool,oX 2],[]⟩
def e133 :FEnt:=⟨133,[.row 4,.row 4],[],[.nm 4,.nm 4],hh .bool,[],[.bool],[gu1,gu2]⟩
def e168 :FEnt:=⟨168,[hh (.int .u8)],[],[.int .u8],hh .bool,[],[.bool],[]⟩
def e169 :FEnt:=⟨169,[hh (.int .u8)],[],[.int .u8],hh .bool,[],[.bool],[]⟩
def gu3 :LEnt:=⟨0,⟨[(0,hh .str),(3,hh tI)],[]⟩,[],[],[.str,tI],[oR 2 .bool,oX 0],[]⟩
def e135 :FEnt:=⟨135,[hh .str],[],[.str],hh .bool,[],[.bool],[gu3]⟩
def e170 :FEnt:=⟨170,[hh tI,hh tI],[],[tI,tI],hh .bool,[],[.bool],[]⟩
def goy :LEnt:=⟨0,⟨[(0,hh (tL 5)),(4,hh tI),(5,hh tI)],[]⟩,[],[],[tL 5,tI,tI],[oR 2 .bool,⟨.exit 2,⟨[(0,hh (tL 5)),(4,hh tI)],[]⟩,[],[tL 5,tI]⟩],[]⟩
def gu4 :LEnt:=⟨0,⟨[(0,hh (tL 5)),(3,hh tI),(4,hh tI)],[]⟩,[],[],[tL 5,tI,tI],[oR 2 .bool,⟨.exit 0,⟨[(0,hh (tL 5))],[]⟩,[],[tL 5]⟩],[goy]⟩
def e136 :FEnt:=⟨136,[hh (tL 5)],[],[tL 5],hh .bool,[],[.bool],[gu4]⟩
def goz :LEnt:=⟨0,⟨[(0,hh (tL 6)),(1,hh .bool),(6,hh tI),(7,hP 0 0),(8,hh tI)],[.brow 6]⟩,[],[],[tL 6,.bool,tI,tI,.nm 6],[oR 4 .bool,⟨.exit 2,⟨[(0,hh (tL 6)),(1,hh .bool),(6,hh tI),(7,hP 0 0)],[.brow 6]⟩,[],[tL 6,.bool,tI,.nm 6]⟩],[]⟩
def gu5 :LEnt:=⟨0,⟨[(0,hh (tL 6)),(1,hh .bool),(5,hh tI),(6,hh tI)],[]⟩,[],[],[tL 6,.bool,tI,tI],[oR 4 .bool,⟨.exit 0,⟨[(0,hh (tL 6)),(1,hh .bool)],[]⟩,[],[tL 6,.bool]⟩],[goz]⟩
def e137 :FEnt:=⟨137,[hh (tL 6),hh .bool],[],[tL 6,.bool],hh .bool,[],[.bool],[gu5]⟩
def e92 :FEnt:=⟨92,[.row 4],[],[.nm 4],hh .bool,[],[.bool],[]⟩
def e93_0 :LEnt:=⟨0,⟨[(1,hP 0 0),(3,.c (.arr 1)),(4,hh tI)],[.brow 4,.arr tI]⟩,[(.slot 3,tI)],[(.slot 3,tI)],[tI,.nm 4,tLI],[⟨.exit 0,⟨[(1,hP 0 0),(3,.c (.arr 1))],[.brow 4,.arr tI]⟩,[],[.nm 4,tLI]⟩],[]⟩
def e93 :FEnt:=⟨93,[.row 4],[],[.nm 4],hh tLI,[],[tLI],[e93_0]⟩
def gqo :LEnt:=⟨0,⟨[(1,hP 0 0),(3,hh tI),(4,hP 1 0),(5,hh tI)],[bb (tL 4),.box [.hole tI,.hole .str,.hole tI,.hole tI,.hole tI,.hole (tL 5),.hole (tL 6),.hole tI,.hole tI,.hole .bool]]⟩,[],[],[tI,tI,tL 4,tI,.str,tI,tI,tI,tL 5,tL 6,tI,tI,.bool],[oR 2 tI,⟨.exit 2,⟨[(1,hP 0 0),(3,hh tI),(4,hP 1 0)],[bb (tL 4),.box [.hole tI,.hole .str,.hole tI,.hole tI,.hole tI,.hole (tL 5),.hole (tL 6),.hole tI,.hole tI,.hole .bool]]⟩,[],[tI,tL 4,tI,.str,tI,tI,tI,tL 5,tL 6,tI,tI,.bool]⟩],[]⟩
def gqp :LEnt:=⟨1,⟨[(1,hP 0 0),(3,hh tI),(4,hP 1 0),(6,hh tLI),(7,hh tI)],[bb (tL 4),.box [.hole tI,.hole .str,.hole tI,.hole tI,.hole tI,.hole (tL 5),.hole (tL 6),.hole tI,.hole tI,.hole .bool]]⟩,[],[],[tI,tLI,tI,tL 4,tI,.str,tI,tI,tI,tL 5,tL 6,tI,tI,.bool],[oR 2 tI,⟨.exit 4,⟨[(1,hP 0 0),(3,hh tI),(4,hP 1 0)],[bb (tL 4),.box [.hole tI,.hole .str,.hole tI,.hole tI,.hole tI,.hole (tL 5),.hole (tL 6),.hole tI,.hole tI,.hole .bool]]⟩,[],[tI,tL 4,tI,.str,tI,tI,tI,tL 5,tL 6,tI,tI,.bool]⟩],[]⟩
def e53_0 :LEnt:=⟨0,⟨[(1,hP 0 0),(3,hh tI)],[bb (tL 4)]⟩,[],[],[tI,tL 4],[oR 2 tI,oX 0],[gqo,gqp]⟩
def e53 :FEnt:=⟨53,[.row 9],[],[.nm 9],hh tI,[],[tI],[e53_0]⟩
def e28 :FEnt:=⟨28,[.row 9,hh tI],[],[.nm 9,tI],hh tI,[],[tI],[]⟩
def e75 :FEnt:=⟨75,[.row 7],[],[.nm 7],hh .bool,[],[.bool],[]⟩
def e76 :FEnt:=⟨76,[hh tI,hh .bool],[],[tI,.bool],hh .bool,[],[.bool],[]⟩
def e77_0 :LEnt:=⟨0,⟨[(1,hh (tL 8)),(2,hP 0 0),(5,hh tI)],[.brow 4]⟩,[],[],[tL 8,tI,.nm 4],[oR 4 .bool,oX 0],[]⟩
def e77 :FEnt:=⟨77,[.row 4,hh (tL 8)],[],[.nm 4,tL 8],hh .bool,[],[.bool],[e77_0]⟩
def e79_0 :LEnt:=⟨0,⟨[(1,hh tI),(2,hh (tL 7)),(3,hh .bool),(4,hP 0 0),(9,hh tI)],[bb (tL 4)]⟩,[],[],[tI,tL 7,.bool,tI,tL 4],[oR 8 .bool,oX 0],[]⟩
def e79 :FEnt:=⟨79,[.row 9,hh tI,hh (tL 7),hh .bool],[],[.nm 9,tI,tL 7,.bool],hh .bool,[],[.bool],[e79_0]⟩
def e41_0 :LEnt:=⟨0,⟨[(3,hh .bool),(4,hP 0 0),(6,hP 1 0),(9,hP 2 0),(12,hh tI)],[bb (tL 4),.brow 7,.box [.hole tI,.hole .str,.hole tI,.hole tI,.hole tI,.hole (tL 5),.hole (tL 6),.hole tI,.hole tI,.hole .bool]]⟩,[],[],[.bool,tI,tL 4,.nm 7,tI,.str,tI,tI,tI,tL 5,tL 6,tI,tI,.bool],[oR 8 .bool,oX 1],[]⟩
def e41_1 :LEnt:=⟨1,⟨[(6,hP 0 0),(15,hh tI)],[.brow 7]⟩,[],[],[tI,.nm 7],[oR 8 .bool,oX 3],[]⟩
def e41 :FEnt:=⟨41,[.row 9,hh tI,.row 7,hh .bool],[],[.nm 9,tI,.nm 7,.bool],hh .bool,[],[.bool],[e41_0,e41_1]⟩
def e47 :FEnt:=⟨47,[.row 9,hh tI,.row 7],[],[.nm 9,tI,.nm 7],hh .bool,[],[.bool],[]⟩
def e24 :FEnt:=⟨24,[.row 9,hh tI,.row 7,.row 9,hh tI],[],[.nm 9,tI,.nm 7,.nm 9,tI],hh tI,[],[tI],[]⟩
def e22 :FEnt:=⟨22,[.row 9,hh tI,.row 7,.row 9,hh tI,.row 7],[],[.nm 9,tI,.nm 7,.nm 9,tI,.nm 7],hh .bool,[],[.bool],[]⟩
def e8 :FEnt:=⟨8,[.row 11],[],[.nm 11],hh .bool,[],[.bool],[]⟩
def tabE0 :List FEnt:=[e33,e32,e34,e35,e186,e36,e82_a,e189,e188,e187,e155,e182,e183,e152,e184,e153,e185,e154,e115,e116]
def tabE1 :List FEnt:=[e88,e61,e171,e139,e100,e99,e64,e140,e144,e143,e101,e173,e194,e172,e141,e175,e195,e174,e196,e177]
def tabE2 :List FEnt:=[e197,e178,e176,e142,e97,e62,e37,e63,e102,e103,e104,e82_b,e45,e105,e148,e198,e179,e147,e149,e199]
def tabE3 :List FEnt:=[e200,e180,e201,e207,e204,e205,e202,e203,e181,e150,e106,e65,e66,e67,e38,e13,e17,e19,e12]
def tabE :List FEnt:=tabE0++tabE1++tabE2++tabE3
theorem gu6 :tabE.all (okE prog)=true:=by kernel_rfl
def g9w :FSpec Un:={g9u with F:=sortK (α:=Un.D 10) sortLt}
theorem ge2 :FnC prog g9w:=⟨g9v.1,fun h r hr=>g9v.2 h r (gvf sortSWO _ r hr)⟩
end
section
open Go Go.Proofs.YtandcioiaooocaaGreat.Shv
open Tryz
set_option maxRecDepth 100000
def g75(n:Int) :Option (SValue):=
 some (⟨2,false,n,[],0,[],[],[]⟩:SValue)
theorem e33_k :KC e33:= .m (by kernel_rfl)
theorem gap :FC e33 g75:= .fn e33_k .n .n fun _=>by kernel_rfl
def g3l(n:Int) :Option (SMember):=
 g75 n >>=fun r=>
 some (⟨2,[121],1,false,true,SValue.eta r⟩:SMember)
theorem e32_k :KC e32:= .m (by kernel_rfl)
theorem ge3 :FC e32 g3l:= .fn e32_k (.k gap .n) .n fun _=>by kernel_rfl
def g3y(l:List SMember) :Option (SSchema):=
 some (⟨[(⟨5,[82],0,0,0,[],l,0,0,false⟩:SType),(⟨2,[],0,9,0,[],[],0,0,false⟩:SType),(⟨2,[],0,5,0,[],[],0,0,false⟩:SType),(⟨1,[],0,0,0,[],[],0,0,false⟩:SType)]⟩:SSchema)
theorem e34_k :KC e34:= .m (by kernel_rfl)
theorem gff :FC e34 g3y:= .fn e34_k .n .n fun _=>by kernel_rfl
def g3m(x_:Int × Int) :Option (SValue):=
 match x_ with
 | (a,b)=>
 g75 a >>=fun r=>
 g75 b >>=fun r_1=>
 some (⟨5,false,0,[],0,[],[SValue.eta r,SValue.eta r_1],[]⟩:SValue)
theorem e35_k :KC e35:= .m (by kernel_rfl)
theorem ge4 :FC e35 g3m:= .fn e35_k (.k gap .n) .n fun _=>by kernel_rfl
def gh(x_:List SRaw × List SRaw × Int × Int) :Option ((Bool) ⊕ (Unit)):=
 match x_ with
 | (s1_1,s2_1,t12_1,t13)=>
 if decide (t13 < t12_1)=true then
   if inR t13 s1_1.length=true then
     some (s1_1.getD t13.toNat dSRaw) >>=fun x0=>
     if inR t13 s2_1.length=true then
       some (s2_1.getD t13.toNat dSRaw) >>=fun x0_1=>
       if(!(eqI x0.ID x0_1.ID && (eqS x0.Data x0_1.Data && true)))=true then
         some (.inl false)
       else
         gh (s1_1,s2_1,t12_1,addI .i64 t13 1)
     else none
   else none
 else
   some (.inr ())
  partial_fixpoint
theorem g8h :LC 36 0 [0] e36_0 gh:= .rc gh.partial_correctness .n .n fun _ _=>by kernel_rfl
def g1e(x_:List SRaw × List SRaw) :Option (Bool):=
 match x_ with
 | (s1,s2)=>
 if(!(decide ((s1.length:Int)=(s2.length:Int))))=true then
   some false
 else
   gh (s1,s2,(s1.length:Int),0) >>=fun o=>
   match o with
   | .inl o_1=>
     some o_1
   | .inr o_2=>
     some true
theorem e36_k :KC e36:= .m (by kernel_rfl)
theorem g48 :FC e36 g1e:= .fn e36_k .n (.k g8h .n) fun _=>by kernel_rfl
def g1y(x_:List Int × List Int × Int × Int) :Option ((Bool) ⊕ (Unit)):=
 match x_ with
 | (s1_1,s2_1,t12_1,t13)=>
 if decide (t13 < t12_1)=true then
   if inR t13 s1_1.length=true then
     if inR t13 s2_1.length=true then
       if(!(decide (s1_1.getD t13.toNat 0=s2_1.getD t13.toNat 0)))=true then
         some (.inl false)
       else
         g1y (s1_1,s2_1,t12_1,addI .i64 t13 1)
     else none
   else none
 else
   some (.inr ())
  partial_fixpoint
theorem gc1 :LC 19 0 [0] e19_0 g1y:= .rc g1y.partial_correctness .n .n fun _ _=>by kernel_rfl
def g4c(x_:List Int × List Int) :Option (Bool):=
 match x_ with
 | (s1,s2)=>
 if(!(decide ((s1.length:Int)=(s2.length:Int))))=true then
   some false
 else
   g1y (s1,s2,(s1.length:Int),0) >>=fun o=>
   match o with
   | .inl o_1=>
     some o_1
   | .inr o_2=>
     some true
theorem e19_k :KC e19:= .m (by kernel_rfl)
theorem ge5 :FC e19 g4c:= .fn e19_k .n (.k gc1 .n) fun _=>by kernel_rfl
theorem e13_k :KC e13:= .m (by kernel_rfl)
noncomputable def g3h:SSchema × Int × SValue × SSchema × Int→Option (SValue × Int):=evF prog tabE [g5n,g5p,g5q,g9w,g74] 3000 e13
theorem gfx :FC e13 g3h:= .run gu6 (.k g5o (.k g7g (.k g7h (.k ge2 (.k g91 .n))))) e13_k 3000 fun _=>rfl
theorem e17_k :KC e17:= .m (by kernel_rfl)
noncomputable def g3i:SSchema × Int × SValue × SSchema × Int→Option (List Int × Int):=evF prog tabE [g5n,g5p,g5q,g9w,g74] 3000 e17
theorem gfy :FC e17 g3i:= .run gu6 (.k g5o (.k g7g (.k g7h (.k ge2 (.k g91 .n))))) e17_k 3000 fun _=>rfl
def g7i(g3h:SSchema × Int × SValue × SSchema × Int→Option (SValue × Int))(g3i:SSchema × Int × SValue × SSchema × Int→Option (List Int × Int)) :Option (Bool):=
 g3l 3 >>=fun r=>
 g3y [(⟨1,[120],1,false,false,(⟨0,false,0,[],0,[],[],[]⟩:SValue)⟩:SMember),(⟨r.ID,r.Name,r.Type_,r.Critical,r.HasDefault,SValue.eta r.Default⟩:SMember)] >>=fun r_1=>
 g3l 3 >>=fun r_2=>
 g3y [(⟨1,[120],2,false,false,(⟨0,false,0,[],0,[],[],[]⟩:SValue)⟩:SMember),(⟨r_2.ID,r_2.Name,r_2.Type_,r_2.Critical,r_2.HasDefault,SValue.eta r_2.Default⟩:SMember),(⟨4,[122],3,false,true,(⟨1,true,0,[],0,[],[],[]⟩:SValue)⟩:SMember)] >>=fun r_3=>
 g3m (5,3) >>=fun r_4=>
 g3h (r_1,0,SValue.eta r_4,r_3,0) >>=fun r_5=>
 g3m (6,3) >>=fun r_8=>
 g3i (r_1,0,SValue.eta r_8,r_3,0) >>=fun r_9=>
 g3m (1,3) >>=fun r_12=>
 g3l 4 >>=fun r_13=>
 g3y [(⟨r_13.ID,r_13.Name,r_13.Type_,r_13.Critical,r_13.HasDefault,SValue.eta r_13.Default⟩:SMember)] >>=fun r_14=>
 g3i (r_1,0,SValue.eta r_12,r_14,0) >>=fun r_15=>
 g3m (1,4) >>=fun r_18=>
 g3l 4 >>=fun r_19=>
 g3y [(⟨r_19.ID,r_19.Name,r_19.Type_,r_19.Critical,r_19.HasDefault,SValue.eta r_19.Default⟩:SMember)] >>=fun r_20=>
 g3h (r_1,0,SValue.eta r_18,r_20,0) >>=fun r_21=>
 some (bif bif bif bif decide (r_5.2=0)then decide (r_9.2=0)else false then decide (r_15.2=0)else false then decide (r_21.2=0)else false then decide ((r_5.1.Items.length:Int)=3)else false) >>=fun t83=>
 if(inR 2 r_5.1.Items.length || (!t83))=true then
   some (bif t83 then(r_5.1.Items.getD (2:Int).toNat dSValue).Bool_ else false) >>=fun t90=>
   (if t90=true then g4c (r_9.1,[1])else some false) >>=fun r_24=>
   some (bif t90 then r_24 else false) >>=fun t95=>
   (if t95=true then g4c (r_15.1,[2])else some false) >>=fun r_25=>
   some (bif t95 then r_25 else false) >>=fun t100=>
   (if t100=true then g1e (r_21.1.Rest,[(⟨1,[2]⟩:SRaw)])else some false) >>=fun r_26=>
   some (bif t100 then r_26 else false)
 else none
noncomputable def g7j (_:Unit):Option (Bool):=g7i g3h g3i
theorem e12_k :KC e12:= .m (by kernel_rfl)
theorem gfg :FC e12 g7j:= .fn e12_k (.k ge3 (.k gff (.k ge4 (.k gfx (.k gfy (.k ge5 (.k g48 .n))))))) .n fun _=>by kernel_rfl
end
section
open Go Go.Proofs.YtandcioiaooocaaGreat.Shv
open Tryz
set_option maxRecDepth 100000
def awY(n:Int) :SMember:=⟨2,[121],1,false,true,⟨2,false,n,[],0,[],[],[]⟩⟩
def awX(t:Int) :SMember:=⟨1,[120],t,false,false,⟨0,false,0,[],0,[],[],[]⟩⟩
def awZ :SMember:=⟨4,[122],3,false,true,⟨1,true,0,[],0,[],[],[]⟩⟩
def awS(l:List SMember) :SSchema:=⟨[⟨5,[82],0,0,0,[],l,0,0,false⟩,⟨2,[],0,9,0,[],[],0,0,false⟩,⟨2,[],0,5,0,[],[],0,0,false⟩,⟨1,[],0,0,0,[],[],0,0,false⟩]⟩
def awV(a b:Int) :SValue:=⟨5,false,0,[],0,[],[⟨2,false,a,[],0,[],[],[]⟩,⟨2,false,b,[],0,[],[],[]⟩],[]⟩
theorem gx7(n:Int) :g3l n=some (awY n):=rfl
theorem gx8(l:List SMember) :g3y l=some (awS l):=rfl
theorem gx9(a b:Int) :g3m (a,b)=some (awV a b):=rfl
def awC1 :Option (SValue × Int)→Bool
 | some (u,e)=>decide (e=0) && (decide (u.Items.length=3) && (u.Items.getD 2 dSValue).Bool_)
 | none=>false
def awC2(n:Int) :Option (List Int × Int)→Bool
 | some (p,e)=>decide (e=0) && decide (p=[n])
 | none=>false
def awC3 :Option (SValue × Int)→Bool
 | some (u,e)=>decide (e=0) && (match u.Rest with
   | [x]=>decide (x.ID=1) && decide (x.Data=[2])
   | _=>false)
 | none=>false
theorem aw1 :awC1 (g3h (awS [awX 1,awY 3],0,awV 5 3,awS [awX 2,awY 3,awZ],0))=true:=by kernel_rfl
theorem aw2 :awC2 1 (g3i (awS [awX 1,awY 3],0,awV 6 3,awS [awX 2,awY 3,awZ],0))=true:=by kernel_rfl
theorem aw3 :awC2 2 (g3i (awS [awX 1,awY 3],0,awV 1 3,awS [awY 4],0))=true:=by kernel_rfl
theorem aw4 :awC3 (g3h (awS [awX 1,awY 3],0,awV 1 4,awS [awY 4],0))=true:=by kernel_rfl
theorem awEq1(n:Int) :g4c ([n],[n])=some true:=by
 have h1:g1y ([n],[n],1,addI .i64 0 1)=some (.inr ()):=by rw[g1y];rfl
 have h0:g1y ([n],[n],(([n]:List Int).length:Int),0)=some (.inr ()):=by
   rw[g1y]
   simpa[inR]using h1
 rw[g4c,h0];rfl
theorem awEq2 :g1e ([⟨1,[2]⟩],[⟨1,[2]⟩])=some true:=by
 have h1:gh ([⟨1,[2]⟩],[⟨1,[2]⟩],1,addI .i64 0 1)=some (.inr ()):=by rw[gh];rfl
 have h0:gh ([⟨1,[2]⟩],[⟨1,[2]⟩],(([⟨1,[2]⟩]:List SRaw).length:Int),0)=some (.inr ()):=by
   rw[gh]
   simpa[inR,eqI,eqS]using h1
 rw[g1e,h0];rfl
theorem awYe(n:Int) :(⟨(awY n).ID,(awY n).Name,(awY n).Type_,(awY n).Critical,(awY n).HasDefault,(awY n).Default⟩:SMember)=awY n:=rfl
theorem awXe(n:Int) :(⟨1,[120],n,false,false,(⟨0,false,0,[],0,[],[],[]⟩:SValue)⟩:SMember)=awX n:=rfl
theorem awZe :(⟨4,[122],3,false,true,(⟨1,true,0,[],0,[],[],[]⟩:SValue)⟩:SMember)=awZ:=rfl
theorem ofC1{o:Option (SValue × Int)}(h:awC1 o=true) :∃u,o=some (u,0)∧u.Items.length=3∧(u.Items.getD (2:Int).toNat dSValue).Bool_=true:=by
 match o,h with
 | some (u,e),h=>
   simp only[awC1,Bool.and_eq_true,decide_eq_true_eq]at h;obtain⟨rfl,h1,h2⟩:=h;exact⟨u,rfl,h1,h2⟩
theorem ofC2{n:Int}{o:Option (List Int × Int)}(h:awC2 n o=true) :o=some ([n],0):=by
 match o,h with
 | some (u,e),h=>
   simp only[awC2,Bool.and_eq_true,decide_eq_true_eq]at h;obtain⟨rfl,rfl⟩:=h;rfl
theorem ofC3{o:Option (SValue × Int)}(h:awC3 o=true) :∃u,o=some (u,0)∧u.Rest=[⟨1,[2]⟩]:=by
 match o,h with
 | some (u,e),h=>
   simp only[awC3,Bool.and_eq_true,decide_eq_true_eq]at h;obtain⟨rfl,h1⟩:=h;refine⟨u,rfl,?_⟩;split at h1
   · rename_i x hx;simp only[Bool.and_eq_true,decide_eq_true_eq]at h1;rw[hx];cases x;simp_all
   · cases h1
theorem gu7 (g1 : SSchema × Int × SValue × SSchema × Int → Option (SValue × Int)) (g2 : SSchema × Int × SValue × SSchema × Int → Option (List Int × Int))
   (h1:awC1 (g1 (awS [awX 1,awY 3],0,awV 5 3,awS [awX 2,awY 3,awZ],0))=true) (h2:awC2 1 (g2 (awS [awX 1,awY 3],0,awV 6 3,awS [awX 2,awY 3,awZ],0))=true)
   (h3:awC2 2 (g2 (awS [awX 1,awY 3],0,awV 1 3,awS [awY 4],0))=true) (h4:awC3 (g1 (awS [awX 1,awY 3],0,awV 1 4,awS [awY 4],0))=true):g7i g1 g2=some true:=by
 obtain⟨u1,e1,b1,c1⟩:=ofC1 h1;have e2:=ofC2 h2;have e3:=ofC2 h3;obtain⟨u4,e4,hr⟩:=ofC3 h4;have hl:decide ((u1.Items.length:Int)=3)=true:=by rw[b1];rfl
 have hin:inR 2 u1.Items.length=true:=by rw[b1];rfl
 unfold g7i;simp only[oZ4,oZ3,gx7,gx8,gx9,SValue.gu,awYe,awXe,awZe];rw[e1,e2,e3,e4];simp only[oZ3,hl,hin,hr,c1,awEq1,awEq2,decide_true,cond_true,Bool.true_or,if_true]
theorem gu8 :g7j ()=some true:=gu7 _ _ aw1 aw2 aw3 aw4
def g4r(_:Unit) :Option (Bool):=some true
theorem gfz :FC e12 g4r:=by
 have:g7j=g4r:=by funext x;exact gu8
 rw[←this];exact gfg
theorem ge6 :g4r ()=some true:=rfl
end
section
open Go Go.Proofs.YtandcioiaooocaaGreat.Shv
open Tryz
set_option maxRecDepth 100000
def g1i(kind:Int) :Option (Bool):=
 some (bif bif decide (kind=4)then true else decide (kind=5)then true else decide (kind=6))
theorem e55_k :KC e55:= .m (by kernel_rfl)
theorem g9d :FC e55 g1i:= .fn e55_k .n .n fun _=>by kernel_rfl
def g71(kind:Int) :Option (Bool):=
 some (bif decide (1≤kind)then decide (kind≤4)else false)
theorem e94_k :KC e94:= .m (by kernel_rfl)
theorem ge7 :FC e94 g71:= .fn e94_k .n .n fun _=>by kernel_rfl
end
section
open Go Go.Proofs.YtandcioiaooocaaGreat.Shv
open Tryz
set_option maxRecDepth 100000
def g1s(x_:Int × Int × SType) :Option ((Int × Bool) ⊕ (Unit)):=
 match x_ with
 | (id_1,i,b)=>
 if decide (i < (b.Members.length:Int))=true then
 if inR i b.Members.length=true then
 if decide ((b.Members.getD i.toNat dSMember).ID=id_1)=true then
 some (.inl (i,true))
 else
 g1s (id_1,addI .i64 i 1,b)
 else none
 else
 some (.inr ())
  partial_fixpoint
theorem gcd :LC 78 0 [0] e78_0 g1s:= .rc g1s.partial_correctness .n .n fun _ _=>by kernel_rfl
def g2r(x_:SType × Int) :Option (Int × Bool):=
 match x_ with
 | (t,id)=>
 g1s (id,0,t) >>=fun o=>
 match o with
 | .inl o_1=>
 some (o_1.1,o_1.2)
 | .inr o_2=>
 some (0,false)
theorem e78_k :KC e78:= .m (by kernel_rfl)
theorem g92 :FC e78 g2r:= .fn e78_k .n (.k gcd .n) fun _=>by kernel_rfl
def g1j(x_:Int × Int × SType) :Option ((Int × Bool) ⊕ (Unit)):=
 match x_ with
 | (id_1,i,b)=>
 if decide (i < (b.Symbols.length:Int))=true then
 if inR i b.Symbols.length=true then
 if decide ((b.Symbols.getD i.toNat dSSymbol).ID=id_1)=true then
 some (.inl (i,true))
 else
 g1j (id_1,addI .i64 i 1,b)
 else none
 else
 some (.inr ())
  partial_fixpoint
theorem gce :LC 69 0 [0] e69_0 g1j:= .rc g1j.partial_correctness .n .n fun _ _=>by kernel_rfl
def g5r(x_:SType × Int) :Option (Int × Bool):=
 match x_ with
 | (t,id)=>
 g1j (id,0,t) >>=fun o=>
 match o with
 | .inl o_1=>
 some (o_1.1,o_1.2)
 | .inr o_2=>
 some (0,false)
theorem e69_k :KC e69:= .m (by kernel_rfl)
theorem gfh :FC e69 g5r:= .fn e69_k .n (.k gce .n) fun _=>by kernel_rfl
end
section
open Go Go.Proofs.YtandcioiaooocaaGreat.Shv
open Tryz
set_option maxRecDepth 100000
def g23(x_:Bool × Bool) :Option (Int):=
 match x_ with
 | (less,equal)=>
 if equal=true then
 some 0
 else
 if less=true then
 some (-1)
 else
 some 1
theorem gxa :KC e108:= .m (by kernel_rfl)
theorem gg0 :FC e108 g23:= .fn gxa .n .n fun _=>by kernel_rfl
def g4j(n:Int) :Option (Int):=
 if decide (0≤n)=true then
 some (mulI .u64 2 (wrp .u64 n))
 else
 some (addI .u64 (mulI .u64 2 (wrp .u64 (subI .i64 0 (addI .i64 n 1)))) 1)
theorem e84_k :KC e84:= .m (by kernel_rfl)
theorem gfi :FC e84 g4j:= .fn e84_k .n .n fun _=>by kernel_rfl
def g4d(x_:SValue × SValue) :Option (Int):=
 match x_ with
 | (a,b)=>
 if(!(decide (a.Kind=b.Kind)))=true then
 some 0
 else
 if decide (a.Kind=1)=true then
 g23 (b.Bool_,eqB a.Bool_ b.Bool_) >>=fun r=>
 some r
 else
 if decide (a.Kind=2)=true then
 g4j a.Int_ >>=fun r_1=>
 g4j b.Int_ >>=fun r_2=>
 g23 (decide (r_1 < r_2),decide (a.Int_=b.Int_)) >>=fun r_3=>
 some r_3
 else
 if decide (a.Kind=3)=true then
 if(!(decide ((a.Str.length:Int)=(b.Str.length:Int))))=true then
 g23 (decide ((a.Str.length:Int) < (b.Str.length:Int)),false) >>=fun r_4=>
 some r_4
 else
 g23 (Op.bytesLess a.Str b.Str,decide (a.Str=b.Str)) >>=fun r_5=>
 some r_5
 else
 if decide (a.Kind=4)=true then
 g23 (decide (a.ID < b.ID),decide (a.ID=b.ID)) >>=fun r_6=>
 some r_6
 else
 some 0
theorem e80_k :KC e80:= .m (by kernel_rfl)
theorem ge8 :FC e80 g4d:= .fn e80_k (.k gg0 (.k gfi .n)) .n fun _=>by kernel_rfl
end
section
open Go Go.Proofs.YtandcioiaooocaaGreat.Shv
open Tryz
set_option maxRecDepth 100000
def gn(x_:List SSymbol × List SSymbol × Int × Int) :Option ((Bool) ⊕ (Unit)):=
 match x_ with
 | (s1_1,s2_1,t12_1,t13)=>
 if decide (t13 < t12_1)=true then
 if inR t13 s1_1.length=true then
 some (s1_1.getD t13.toNat dSSymbol) >>=fun x0=>
 if inR t13 s2_1.length=true then
 some (s2_1.getD t13.toNat dSSymbol) >>=fun x0_1=>
 if(!(eqI x0.ID x0_1.ID && (eqS x0.Name x0_1.Name && true)))=true then
 some (.inl false)
 else
 gn (s1_1,s2_1,t12_1,addI .i64 t13 1)
 else none
 else none
 else
 some (.inr ())
  partial_fixpoint
theorem g72 :LC 186 0 [0] gtn gn:= .rc gn.partial_correctness .n .n fun _ _=>by kernel_rfl
def g2p(x_:List SSymbol × List SSymbol) :Option (Bool):=
 match x_ with
 | (s1,s2)=>
 if(!(decide ((s1.length:Int)=(s2.length:Int))))=true then
 some false
 else
 gn (s1,s2,(s1.length:Int),0) >>=fun o=>
 match o with
 | .inl o_1=>
 some o_1
 | .inr o_2=>
 some true
theorem gxb :KC e186:= .m (by kernel_rfl)
theorem g7t :FC e186 g2p:= .fn gxb .n (.k g72 .n) fun _=>by kernel_rfl
mutual
def g3r(x_:SValue × SValue) :Option (Bool):=
 match x_ with
 | (a,b)=>
 some (bif bif bif bif decide (a.Kind=b.Kind)then eqB a.Bool_ b.Bool_ else false then decide (a.Int_=b.Int_)else false then decide (a.Str=b.Str)else false then decide (a.ID=b.ID)else false) >>=fun t37=>
 (if t37=true then g1e (a.Rest,b.Rest)else some false) >>=fun r=>
 some (bif t37 then r else false) >>=fun t44=>
 (if t44=true then gv (a.Keys,b.Keys)else some false) >>=fun r_1=>
 some (bif t44 then r_1 else false) >>=fun t51=>
 (if t51=true then gv (a.Items,b.Items)else some false) >>=fun r_2=>
 some (bif t51 then r_2 else false)
  partial_fixpoint
def gv(x_:List SValue × List SValue) :Option (Bool):=
 match x_ with
 | (s1,s2)=>
 if(!(decide ((s1.length:Int)=(s2.length:Int))))=true then
 some false
 else
 gj (s2,s1,(s1.length:Int),0) >>=fun o=>
 match o with
 | .inl o_1=>
 some o_1
 | .inr o_2=>
 some true
  partial_fixpoint
def gj(x_:List SValue × List SValue × Int × Int) :Option ((Bool) ⊕ (Unit)):=
 match x_ with
 | (s2_1,t15,t16_1,t17)=>
 if decide (t17 < t16_1)=true then
 if inR t17 t15.length=true then
 if inR t17 s2_1.length=true then
 g3r (SValue.eta (t15.getD t17.toNat dSValue),SValue.eta (s2_1.getD t17.toNat dSValue)) >>=fun r=>
 if(!r)=true then
 some (.inl false)
 else
 gj (s2_1,t15,t16_1,addI .i64 t17 1)
 else none
 else none
 else
 some (.inr ())
  partial_fixpoint
end
theorem gp0 :KC e189:= .m (by kernel_rfl)
theorem gqq :KC e82_a:= .m (by kernel_rfl)
theorem gl5 :(∀h r,g3r h=some r→FD e189 h r)∧(∀h r,gv h=some r→FD e82_a h r)∧(∀h r,gj h=some r→LD 82 0 [0] ge0 h r):=g3r.mutual_partial_correctness (FD e189) (FD e82_a) (LD 82 0 [0] ge0)
 (fun _ h1 _ _ h=>FA e189 gp0 (.k g48 (.k (FH e82_a gqq h1) .n)) .n (.trans (by kernel_rfl) h))
 (fun _ h2 _ _ h=>FA e82_a gqq .n (.k (LH ge0 h2) .n) (.trans (by kernel_rfl) h))
 (fun _ _ h0 h2 _ _ h=>LA ge0 h2 (.k (FH e189 gp0 h0) .n) .n (.trans (by kernel_rfl) h))
theorem gfu :FC e189 g3r:= .of gp0 gl5.1
def g69(x_:SMember × SMember) :Option (Bool):=
 match x_ with
 | (x0,y)=>
 some (bif bif bif bif decide (x0.ID=y.ID)then decide (x0.Name=y.Name)else false then decide (x0.Type_=y.Type_)else false then eqB x0.Critical y.Critical else false then eqB x0.HasDefault y.HasDefault else false) >>=fun t37=>
 (if t37=true then g3r ((⟨x0.Default.Kind,x0.Default.Bool_,x0.Default.Int_,x0.Default.Str,x0.Default.ID,x0.Default.Keys,x0.Default.Items,x0.Default.Rest⟩:SValue),SValue.eta y.Default)else some false) >>=fun r=>
 some (bif t37 then r else false)
theorem gxc :KC e188:= .m (by kernel_rfl)
theorem gjs :FC e188 g69:= .fn gxc (.k gfu .n) .n fun _=>by kernel_rfl
def gb(x_:List SMember × List SMember × Int × Int) :Option ((Bool) ⊕ (Unit)):=
 match x_ with
 | (s2_1,t15,t16_1,t17)=>
 if decide (t17 < t16_1)=true then
 if inR t17 t15.length=true then
 some (t15.getD t17.toNat dSMember) >>=fun x0=>
 if inR t17 s2_1.length=true then
 some (s2_1.getD t17.toNat dSMember) >>=fun x0_1=>
 g69 ((⟨x0.ID,x0.Name,x0.Type_,x0.Critical,x0.HasDefault,SValue.eta x0.Default⟩:SMember),(⟨x0_1.ID,x0_1.Name,x0_1.Type_,x0_1.Critical,x0_1.HasDefault,SValue.eta x0_1.Default⟩:SMember)) >>=fun r=>
 if(!r)=true then
 some (.inl false)
 else
 gb (s2_1,t15,t16_1,addI .i64 t17 1)
 else none
 else none
 else
 some (.inr ())
  partial_fixpoint
theorem g3v :LC 187 0 [0] gto gb:= .rc gb.partial_correctness (.k gjs .n) .n fun _ _=>by kernel_rfl
def g11(x_:List SMember × List SMember) :Option (Bool):=
 match x_ with
 | (s1,s2)=>
 if(!(decide ((s1.length:Int)=(s2.length:Int))))=true then
 some false
 else
 gb (s2,s1,(s1.length:Int),0) >>=fun o=>
 match o with
 | .inl o_1=>
 some o_1
 | .inr o_2=>
 some true
theorem gxd :KC e187:= .m (by kernel_rfl)
theorem g41 :FC e187 g11:= .fn gxd .n (.k g3v .n) fun _=>by kernel_rfl
def g19(x_:SType × SType) :Option (Bool):=
 match x_ with
 | (a,b)=>
 some (bif bif bif bif bif bif bif decide (a.Kind=b.Kind)then decide (a.Name=b.Name)else false then decide (a.Low=b.Low)else false then decide (a.High=b.High)else false then decide (a.Max=b.Max)else false then decide (a.Key=b.Key)else false then decide (a.Elem=b.Elem)else false then eqB a.Open b.Open else false) >>=fun t58=>
 (if t58=true then g2p (a.Symbols,b.Symbols)else some false) >>=fun r=>
 some (bif t58 then r else false) >>=fun t65=>
 (if t65=true then g11 (a.Members,b.Members)else some false) >>=fun r_1=>
 some (bif t65 then r_1 else false)
theorem gxe :KC e155:= .m (by kernel_rfl)
theorem gm7 :FC e155 g19:= .fn gxe (.k g7t (.k g41 .n)) .n fun _=>by kernel_rfl
def g6a(c:Int) :Option (Bool):=
 some (bif bif decide (c=95)then true else bif decide (97≤c)then decide (c≤122)else false then true else bif decide (65≤c)then decide (c≤90)else false)
theorem gxf :KC e182:= .m (by kernel_rfl)
theorem gc2 :FC e182 g6a:= .fn gxf .n .n fun _=>by kernel_rfl
def g89(c:Int) :Option (Bool):=
 some (bif decide (48≤c)then decide (c≤57)else false)
theorem gxg :KC e183:= .m (by kernel_rfl)
theorem gl6 :FC e183 g89:= .fn gxg .n .n fun _=>by kernel_rfl
def g36(x_:List UInt8 × Int × Int) :Option ((Bool) ⊕ (Unit)):=
 match x_ with
 | (s_1,t18_1,t19)=>
 if decide (t19 < t18_1)=true then
 if inR t19 s_1.length=true then
 g6a (g82 s_1 t19) >>=fun r_1=>
 some (!r_1) >>=fun t26=>
 if(inR t19 s_1.length || (!t26))=true then
 (if t26=true then g89 (g82 s_1 t19)else some false) >>=fun r_2=>
 if(bif t26 then(!r_2)else false)=true then
 some (.inl false)
 else
 g36 (s_1,t18_1,addI .i64 t19 1)
 else none
 else none
 else
 some (.inr ())
  partial_fixpoint
theorem gid :LC 152 0 [0] gtp g36:= .rc g36.partial_correctness (.k gc2 (.k gl6 .n)) .n fun _ _=>by kernel_rfl
def g2n(s:List UInt8) :Option (Bool):=
 some (bif decide (s=[])then true else decide (24 < (s.length:Int))) >>=fun t10=>
 if(inR 0 s.length || (!(!t10)))=true then
 (if(!t10)=true then g6a (g82 s 0)else some false) >>=fun r=>
 if(bif t10 then true else(!r))=true then
 some false
 else
 g36 (s,(s.length:Int),0) >>=fun o=>
 match o with
 | .inl o_1=>
 some o_1
 | .inr o_2=>
 some true
 else none
theorem gxh :KC e152:= .m (by kernel_rfl)
theorem ge9 :FC e152 g2n:= .fn gxh (.k gc2 .n) (.k gid .n) fun _=>by kernel_rfl
end
section
open Go Go.Proofs.YtandcioiaooocaaGreat.Shv
open Tryz
set_option maxRecDepth 100000
def g3u(x_:List Int × List (List UInt8) × List Int × Int × Int × List (List UInt8)) :Option ((Bool) ⊕ (List Int)):=
 match x_ with
 | (l_2,names_1,t9,t10_1,t11,b)=>
 if decide (t11 < t10_1)=true then
 if inR t11 t9.length=true then
 some (t9.getD t11.toNat 0) >>=fun x0=>
 some (bif decide (x0 < 1)then true else decide (1000 < x0)) >>=fun t21=>
 some (decide (0 < t11)) >>=fun t24=>
 some (subI .i64 t11 1) >>=fun t29=>
 if(inR t29 l_2.length || (!((!t21) && t24)))=true then
 some (bif t21 then true else bif t24 then decide (x0≤l_2.getD t29.toNat 0)else false) >>=fun t34=>
 if(inR t11 names_1.length || (!(!t34)))=true then
 some (bif t34 then true else hasS b (names_1.getD t11.toNat [])) >>=fun t42=>
 if(inR t11 names_1.length || (!(!t42)))=true then
 (if(!t42)=true then g2n (names_1.getD t11.toNat [])else some false) >>=fun r=>
 if(bif t42 then true else(!r))=true then
 some (.inl false)
 else
 if inR t11 names_1.length=true then
 g3u (l_2,names_1,t9,t10_1,addI .i64 t11 1,addS b (names_1.getD t11.toNat []))
 else none
 else none
 else none
 else none
 else none
 else
 some (.inr l_2)
  partial_fixpoint
theorem gl7 :LC 184 0 [0] gtq g3u:= .rc g3u.partial_correctness (.k ge9 .n) .n fun _ _=>by kernel_rfl
def g93(x_:List Int × List (List UInt8)) :Option (Bool):=
 match x_ with
 | (l,names)=>
 g3u (l,names,l,(l.length:Int),0,[]) >>=fun o=>
 match o with
 | .inl o_1=>
 some o_1
 | .inr o_2=>
 some (decide ((o_2.length:Int)≤16))
theorem gxi :KC e184:= .m (by kernel_rfl)
theorem gho :FC e184 g93:= .fn gxi .n (.k gl7 .n) fun _=>by kernel_rfl
def g30(x_:List SSymbol × List SSymbol × Int × Int × List Int × List (List UInt8)) :Option (List SSymbol × List Int × List (List UInt8)):=
 match x_ with
 | (l_2,t7,t8_1,t9,b_2,b_3)=>
 if decide (t9 < t8_1)=true then
 if inR t9 t7.length=true then
 some (t7.getD t9.toNat dSSymbol) >>=fun x0=>
 some [x0.ID] >>=fun t16=>
 if room 8 (b_2++t16).length=true then
 some [x0.Name] >>=fun t21=>
 if room 16 (b_3++t21).length=true then
 g30 (l_2,t7,t8_1,addI .i64 t9 1,b_2++t16,b_3++t21)
 else none
 else none
 else none
 else
 some (l_2,b_2,b_3)
  partial_fixpoint
theorem gg1 :LC 153 0 [0] gts g30:= .rc g30.partial_correctness .n .n fun _ _=>by kernel_rfl
def g53(l:List SSymbol) :Option (Bool):=
 g30 (l,l,(l.length:Int),0,[],[]) >>=fun o=>
 some (decide (0 < (o.1.length:Int))) >>=fun t26=>
 (if t26=true then g93 (o.2.1,o.2.2)else some false) >>=fun r=>
 some (bif t26 then r else false)
theorem gxj :KC e153:= .m (by kernel_rfl)
theorem gjt :FC e153 g53:= .fn gxj (.k gho .n) (.k gg1 .n) fun _=>by kernel_rfl
def g94(v:SValue) :Option (Bool):=
 g3r (SValue.eta v,(⟨0,false,0,[],0,[],[],[]⟩:SValue)) >>=fun r=>
 some r
theorem gxk :KC e185:= .m (by kernel_rfl)
theorem gm8 :FC e185 g94:= .fn gxk (.k gfu .n) .n fun _=>by kernel_rfl
def g2j(x_:List SMember × Int × Int × SType × List Int × List (List UInt8)) :Option ((Bool) ⊕ (SType × List Int × List (List UInt8))):=
 match x_ with
 | (t8,t9_1,t10,b_3,b_4,b_5)=>
 if decide (t10 < t9_1)=true then
 if inR t10 t8.length=true then
 some (t8.getD t10.toNat dSMember) >>=fun x0=>
 some [x0.ID] >>=fun t17=>
 if room 8 (b_4++t17).length=true then
 some [x0.Name] >>=fun t22=>
 if room 16 (b_5++t22).length=true then
 some (bif bif decide (b_3.Kind=6)then bif x0.Critical then true else x0.HasDefault else false then true else bif x0.Critical then x0.HasDefault else false) >>=fun t42=>
 some (!x0.HasDefault) >>=fun t46=>
 (if((!t42) && t46)=true then g94 (SValue.eta x0.Default)else some false) >>=fun r_1=>
 if(bif t42 then true else bif t46 then(!r_1)else false)=true then
 some (.inl false)
 else
 g2j (t8,t9_1,addI .i64 t10 1,b_3,b_4++t17,b_5++t22)
 else none
 else none
 else none
 else
 some (.inr (b_3,b_4,b_5))
  partial_fixpoint
theorem gg2 :LC 154 0 [0] gtt g2j:= .rc g2j.partial_correctness (.k gm8 .n) .n fun _ _=>by kernel_rfl
def g4g(t:SType) :Option (Bool):=
 g2j (t.Members,(t.Members.length:Int),0,t,[],[]) >>=fun o=>
 match o with
 | .inl o_1=>
 some o_1
 | .inr o_2=>
 some (bif decide (o_2.1.Kind=5)then true else decide (0 < (o_2.2.1.length:Int))) >>=fun t62=>
 (if t62=true then g93 (o_2.2.1,o_2.2.2)else some false) >>=fun r=>
 some (bif t62 then r else false)
theorem gxl :KC e154:= .m (by kernel_rfl)
theorem gju :FC e154 g4g:= .fn gxl (.k gho .n) (.k gg2 .n) fun _=>by kernel_rfl
def g10(t:SType) :Option (Bool):=
 if decide (t.Kind=1)=true then
 g19 ((⟨0,t.Name,t.Low,t.High,t.Max,t.Symbols,t.Members,t.Key,t.Elem,t.Open⟩:SType),(⟨0,[],0,0,0,[],[],0,0,false⟩:SType)) >>=fun r=>
 some r
 else
 if decide (t.Kind=2)=true then
 some (decide (t.Low≤t.High)) >>=fun t17=>
 (if t17=true then g19 ((⟨0,t.Name,0,0,t.Max,t.Symbols,t.Members,t.Key,t.Elem,t.Open⟩:SType),(⟨0,[],0,0,0,[],[],0,0,false⟩:SType))else some false) >>=fun r_1=>
 some (bif t17 then r_1 else false)
 else
 if decide (t.Kind=3)=true then
 some (bif decide (0≤t.Max)then decide (t.Max≤200)else false) >>=fun t29=>
 (if t29=true then g19 ((⟨0,t.Name,t.Low,t.High,0,t.Symbols,t.Members,t.Key,t.Elem,t.Open⟩:SType),(⟨0,[],0,0,0,[],[],0,0,false⟩:SType))else some false) >>=fun r_2=>
 some (bif t29 then r_2 else false)
 else
 if decide (t.Kind=4)=true then
 g2n t.Name >>=fun r_3=>
 (if r_3=true then g53 t.Symbols else some false) >>=fun r_4=>
 some (bif r_3 then r_4 else false) >>=fun t40=>
 (if t40=true then g19 ((⟨0,[],t.Low,t.High,t.Max,[],t.Members,t.Key,t.Elem,false⟩:SType),(⟨0,[],0,0,0,[],[],0,0,false⟩:SType))else some false) >>=fun r_5=>
 some (bif t40 then r_5 else false)
 else
 some (decide (t.Kind=5)) >>=fun t45=>
 if t45=true then
 if t45=true then
 g2n t.Name >>=fun r_6=>
 (if r_6=true then g4g t else some false) >>=fun r_7=>
 some (bif r_6 then r_7 else false) >>=fun t53=>
 (if t53=true then g19 ((⟨0,[],t.Low,t.High,t.Max,t.Symbols,[],t.Key,t.Elem,bif t.Open then decide (t.Kind=5)else false⟩:SType),(⟨0,[],0,0,0,[],[],0,0,false⟩:SType))else some false) >>=fun r_8=>
 some (bif t53 then r_8 else false)
 else
 some (decide (t.Kind=7)) >>=fun t65=>
 if t65=true then
 if t65=true then
 some (bif decide (0≤t.Max)then decide (t.Max≤50)else false) >>=fun t74=>
 if decide (t.Kind=8)=true then
 (if t74=true then g19 ((⟨0,t.Name,t.Low,t.High,0,t.Symbols,t.Members,0,0,t.Open⟩:SType),(⟨0,[],0,0,0,[],[],0,0,false⟩:SType))else some false) >>=fun r_9=>
 some (bif t74 then r_9 else false)
 else
 (if t74=true then g19 ((⟨0,t.Name,t.Low,t.High,0,t.Symbols,t.Members,t.Key,0,t.Open⟩:SType),(⟨0,[],0,0,0,[],[],0,0,false⟩:SType))else some false) >>=fun r_10=>
 some (bif t74 then r_10 else false)
 else
 if decide (t.Kind=9)=true then
 g19 ((⟨0,t.Name,t.Low,t.High,t.Max,t.Symbols,t.Members,t.Key,0,t.Open⟩:SType),(⟨0,[],0,0,0,[],[],0,0,false⟩:SType)) >>=fun r_11=>
 some r_11
 else
 some false
 else
 if decide (t.Kind=8)=true then
 some (bif decide (0≤t.Max)then decide (t.Max≤50)else false) >>=fun t74_1=>
 if decide (t.Kind=8)=true then
 (if t74_1=true then g19 ((⟨0,t.Name,t.Low,t.High,0,t.Symbols,t.Members,0,0,t.Open⟩:SType),(⟨0,[],0,0,0,[],[],0,0,false⟩:SType))else some false) >>=fun r_12=>
 some (bif t74_1 then r_12 else false)
 else
 (if t74_1=true then g19 ((⟨0,t.Name,t.Low,t.High,0,t.Symbols,t.Members,t.Key,0,t.Open⟩:SType),(⟨0,[],0,0,0,[],[],0,0,false⟩:SType))else some false) >>=fun r_13=>
 some (bif t74_1 then r_13 else false)
 else
 if decide (t.Kind=9)=true then
 g19 ((⟨0,t.Name,t.Low,t.High,t.Max,t.Symbols,t.Members,t.Key,0,t.Open⟩:SType),(⟨0,[],0,0,0,[],[],0,0,false⟩:SType)) >>=fun r_14=>
 some r_14
 else
 some false
 else
 if decide (t.Kind=6)=true then
 g2n t.Name >>=fun r_15=>
 (if r_15=true then g4g t else some false) >>=fun r_16=>
 some (bif r_15 then r_16 else false) >>=fun t53_1=>
 (if t53_1=true then g19 ((⟨0,[],t.Low,t.High,t.Max,t.Symbols,[],t.Key,t.Elem,bif t.Open then decide (t.Kind=5)else false⟩:SType),(⟨0,[],0,0,0,[],[],0,0,false⟩:SType))else some false) >>=fun r_17=>
 some (bif t53_1 then r_17 else false)
 else
 some (decide (t.Kind=7)) >>=fun t65_1=>
 if t65_1=true then
 if t65_1=true then
 some (bif decide (0≤t.Max)then decide (t.Max≤50)else false) >>=fun t74_2=>
 if decide (t.Kind=8)=true then
 (if t74_2=true then g19 ((⟨0,t.Name,t.Low,t.High,0,t.Symbols,t.Members,0,0,t.Open⟩:SType),(⟨0,[],0,0,0,[],[],0,0,false⟩:SType))else some false) >>=fun r_18=>
 some (bif t74_2 then r_18 else false)
 else
 (if t74_2=true then g19 ((⟨0,t.Name,t.Low,t.High,0,t.Symbols,t.Members,t.Key,0,t.Open⟩:SType),(⟨0,[],0,0,0,[],[],0,0,false⟩:SType))else some false) >>=fun r_19=>
 some (bif t74_2 then r_19 else false)
 else
 if decide (t.Kind=9)=true then
 g19 ((⟨0,t.Name,t.Low,t.High,t.Max,t.Symbols,t.Members,t.Key,0,t.Open⟩:SType),(⟨0,[],0,0,0,[],[],0,0,false⟩:SType)) >>=fun r_20=>
 some r_20
 else
 some false
 else
 if decide (t.Kind=8)=true then
 some (bif decide (0≤t.Max)then decide (t.Max≤50)else false) >>=fun t74_3=>
 if decide (t.Kind=8)=true then
 (if t74_3=true then g19 ((⟨0,t.Name,t.Low,t.High,0,t.Symbols,t.Members,0,0,t.Open⟩:SType),(⟨0,[],0,0,0,[],[],0,0,false⟩:SType))else some false) >>=fun r_21=>
 some (bif t74_3 then r_21 else false)
 else
 (if t74_3=true then g19 ((⟨0,t.Name,t.Low,t.High,0,t.Symbols,t.Members,t.Key,0,t.Open⟩:SType),(⟨0,[],0,0,0,[],[],0,0,false⟩:SType))else some false) >>=fun r_22=>
 some (bif t74_3 then r_22 else false)
 else
 if decide (t.Kind=9)=true then
 g19 ((⟨0,t.Name,t.Low,t.High,t.Max,t.Symbols,t.Members,t.Key,0,t.Open⟩:SType),(⟨0,[],0,0,0,[],[],0,0,false⟩:SType)) >>=fun r_23=>
 some r_23
 else
 some false
theorem gxm :KC e115:= .m (by kernel_rfl)
theorem gnj :FC e115 g10:= .fn gxm (.k gm7 (.k ge9 (.k gjt (.k gju .n)))) .n fun _=>by kernel_rfl
def g3z(x_:List SMember × Int × Int × SType × List Int) :Option (SType × List Int):=
 match x_ with
 | (t7,t8_1,t9,b_2,b_3)=>
 if decide (t9 < t8_1)=true then
 if inR t9 t7.length=true then
 some [(t7.getD t9.toNat dSMember).Type_] >>=fun t16=>
 if room 8 (b_3++t16).length=true then
 g3z (t7,t8_1,addI .i64 t9 1,b_2,b_3++t16)
 else none
 else none
 else
 some (b_2,b_3)
  partial_fixpoint
theorem gjv :LC 116 0 [0] gtu g3z:= .rc g3z.partial_correctness .n .n fun _ _=>by kernel_rfl
def ga3(t:SType) :Option (List Int):=
 g3z (t.Members,(t.Members.length:Int),0,t,[]) >>=fun o=>
 if decide (o.1.Kind=8)=true then
 some [o.1.Key] >>=fun t25=>
 if room 8 (o.2++t25).length=true then
 some (o.2++t25) >>=fun l=>
 if decide (7≤o.1.Kind)=true then
 some [o.1.Elem] >>=fun t33=>
 if room 8 (l++t33).length=true then
 some (l++t33)
 else none
 else
 some l
 else none
 else
 if decide (7≤o.1.Kind)=true then
 some [o.1.Elem] >>=fun t33_1=>
 if room 8 (o.2++t33_1).length=true then
 some (o.2++t33_1)
 else none
 else
 some o.2
theorem gxn :KC e116:= .m (by kernel_rfl)
theorem gnk :FC e116 ga3:= .fn gxn .n (.k gjv .n) fun _=>by kernel_rfl
def g2k(x_:List SType × Int × Int × List Int × Int × Int × List SType × List (List UInt8) × Int × List UInt8 × Int × Int × Int × List SSymbol × List SMember × Int × Int × Bool) :Option ((Int) ⊕ (List SType × Int × Int × List SType × List (List UInt8) × Int × List UInt8 × Int × Int × Int × List SSymbol × List SMember × Int × Int × Bool)):=
 match x_ with
 | (t14_2,t15_3,t16_2,t38,t39_1,t40,b_14,b_15,b_16,b_17,b_18,b_19,b_20,b_21,b_22,b_23,b_24,b_25)=>
 if decide (t40 < t39_1)=true then
 if inR t40 t38.length=true then
 some (t38.getD t40.toNat 0) >>=fun x0_3=>
 if(bif decide (x0_3 < 0)then true else decide ((b_14.length:Int)≤x0_3))=true then
 some (.inl 4)
 else
 g2k (t14_2,t15_3,t16_2,t38,t39_1,addI .i64 t40 1,b_14,b_15,b_16,b_17,b_18,b_19,b_20,b_21,b_22,b_23,b_24,b_25)
 else none
 else
 some (.inr (t14_2,t15_3,t16_2,b_14,b_15,b_16,b_17,b_18,b_19,b_20,b_21,b_22,b_23,b_24,b_25))
  partial_fixpoint
theorem gg3 :LC 88 0 [0,0] gqm g2k:= .rc g2k.partial_correctness .n .n fun _ _=>by kernel_rfl
def g3k(x_:List SType × Int × Int × List SType × List (List UInt8)) :Option ((Int) ⊕ (Unit)):=
 match x_ with
 | (t14,t15_1,t16,b,b_1)=>
 if decide (t16 < t15_1)=true then
 if inR t16 t14.length=true then
 some (t14.getD t16.toNat dSType) >>=fun x0=>
 g10 x0 >>=fun r=>
 if(bif (!r)then true else bif (!(decide (x0.Name=[])))then hasS b_1 x0.Name else false)=true then
 some (.inl 1)
 else
 ga3 x0 >>=fun r_1=>
 g2k (t14,t15_1,t16,r_1,(r_1.length:Int),0,b,addS b_1 x0.Name,x0.Kind,x0.Name,x0.Low,x0.High,x0.Max,x0.Symbols,x0.Members,x0.Key,x0.Elem,x0.Open) >>=fun o_3=>
 match o_3 with
 | .inl o_4=>
 some (.inl o_4)
 | .inr o_5=>
 some (decide (o_5.2.2.2.2.2.1=8)) >>=fun t56=>
 if(inR o_5.2.2.2.2.2.2.2.2.2.2.2.2.1 o_5.2.2.2.1.length || (!t56))=true then
 some (decide ((o_5.2.2.2.1.getD o_5.2.2.2.2.2.2.2.2.2.2.2.2.1.toNat dSType).Kind < 1)) >>=fun t65=>
 if(inR o_5.2.2.2.2.2.2.2.2.2.2.2.2.1 o_5.2.2.2.1.length || (!(t56 && (!t65))))=true then
 if(bif t56 then bif t65 then true else decide (4 < (o_5.2.2.2.1.getD o_5.2.2.2.2.2.2.2.2.2.2.2.2.1.toNat dSType).Kind)else false)=true then
 some (.inl 1)
 else
 g3k (o_5.1,o_5.2.1,addI .i64 o_5.2.2.1 1,o_5.2.2.2.1,o_5.2.2.2.2.1)
 else none
 else none
 else none
 else
 some (.inr ())
  partial_fixpoint
theorem gie :LC 88 0 [0] e88_0 g3k:= .rc g3k.partial_correctness (.k gnj (.k gnk .n)) (.k gg3 .n) fun _ _=>by kernel_rfl
def g7k(s:SSchema) :Option (Int):=
 if decide (32 < (s.Types.length:Int))=true then
 some 3
 else
 g3k (s.Types,(s.Types.length:Int),0,s.Types,[]) >>=fun o=>
 match o with
 | .inl o_1=>
 some o_1
 | .inr o_2=>
 some 0
theorem e88_k :KC e88:= .m (by kernel_rfl)
theorem gea :FC e88 g7k:= .fn e88_k .n (.k gie .n) fun _=>by kernel_rfl
def g6b(x_:SSchema × Int) :Option (Int):=
 match x_ with
 | (s,t)=>
 g7k s >>=fun r=>
 if(!(decide (r=0)))=true then
 some r
 else
 if(bif decide (t < 0)then true else decide ((s.Types.length:Int)≤t))=true then
 some 4
 else
 some 0
theorem e61_k :KC e61:= .m (by kernel_rfl)
theorem gjw :FC e61 g6b:= .fn e61_k (.k gea .n) .n fun _=>by kernel_rfl
end
section
open Go Go.Proofs.YtandcioiaooocaaGreat.Shv
open Tryz
set_option maxRecDepth 100000
def gaz(v:SValue) :Option (SValue):=
 if decide (v.Kind=1)=true then
 some (⟨v.Kind,v.Bool_,0,[],0,[],[],[]⟩:SValue)
 else
 if decide (v.Kind=2)=true then
 some (⟨v.Kind,false,v.Int_,[],0,[],[],[]⟩:SValue)
 else
 if decide (v.Kind=3)=true then
 some (⟨v.Kind,false,0,v.Str,0,[],[],[]⟩:SValue)
 else
 if decide (v.Kind=4)=true then
 some (⟨v.Kind,false,0,[],v.ID,[],[],[]⟩:SValue)
 else
 if decide (v.Kind=5)=true then
 some (⟨v.Kind,false,0,[],0,[],v.Items,v.Rest⟩:SValue)
 else
 if decide (v.Kind=6)=true then
 some (⟨v.Kind,false,0,[],v.ID,[],v.Items,v.Rest⟩:SValue)
 else
 if decide (v.Kind=8)=true then
 some (⟨v.Kind,false,0,[],0,v.Keys,v.Items,[]⟩:SValue)
 else
 some (decide (v.Kind=7)) >>=fun t57=>
 if t57=true then
 if t57=true then
 some (⟨v.Kind,false,0,[],0,[],v.Items,[]⟩:SValue)
 else
 some (⟨v.Kind,false,0,[],0,[],[],[]⟩:SValue)
 else
 if decide (v.Kind=9)=true then
 some (⟨v.Kind,false,0,[],0,[],v.Items,[]⟩:SValue)
 else
 some (⟨v.Kind,false,0,[],0,[],[],[]⟩:SValue)
theorem gxo :KC e171:= .m (by kernel_rfl)
theorem gp1 :FC e171 gaz:= .fn gxo .n .n fun _=>by kernel_rfl
def g95(v:SValue) :Option (Bool):=
 gaz (SValue.eta v) >>=fun r=>
 some (bif bif bif bif bif bif eqB v.Bool_ r.Bool_ then decide (v.Int_=r.Int_)else false then decide (v.Str=r.Str)else false then decide (v.ID=r.ID)else false then decide ((v.Keys.length:Int)=(r.Keys.length:Int))else false then decide ((v.Items.length:Int)=(r.Items.length:Int))else false then decide ((v.Rest.length:Int)=(r.Rest.length:Int))else false)
theorem gxp :KC e139:= .m (by kernel_rfl)
theorem gm9 :FC e139 g95:= .fn gxp (.k gp1 .n) .n fun _=>by kernel_rfl
def g96(x_:SSymbol × Int) :Option (Bool × Int):=
 match x_ with
 | (x0,b)=>
 some (decide (x0.ID=b),b)
theorem gxq :KC e100:= .m (by kernel_rfl)
theorem gif :FC e100 g96:= .fn gxq .n .n fun _=>by kernel_rfl
def gg(x_:List SSymbol × Int × Int × Int) :Option ((Int × Int) ⊕ (Int)):=
 match x_ with
 | (s_1,t7_1,t8,b_3)=>
 if decide (t8 < t7_1)=true then
 if inR t8 s_1.length=true then
 g96 (s_1.getD t8.toNat dSSymbol,b_3) >>=fun r=>
 if r.1=true then
 some (.inl (t8,r.2))
 else
 gg (s_1,t7_1,addI .i64 t8 1,r.2)
 else none
 else
 some (.inr b_3)
  partial_fixpoint
theorem g6c :LC 99 1 [0] e99_0 gg:= .rc gg.partial_correctness (.k gif .n) .n fun _ _=>by kernel_rfl
def g37(x_:List SSymbol × Int) :Option (Int × Int):=
 match x_ with
 | (s,b)=>
 gg (s,(s.length:Int),0,b) >>=fun o=>
 match o with
 | .inl o_1=>
 some (o_1.1,o_1.2)
 | .inr o_2=>
 some ((-1),o_2)
theorem e99_k :KC e99:= .m (by kernel_rfl)
theorem g6r :FC e99 g37:= .fn e99_k .n (.k g6c .n) fun _=>by kernel_rfl
def g6s(x_:SType × Int) :Option (Int × Bool):=
 match x_ with
 | (t,id)=>
 g37 (t.Symbols,id) >>=fun r=>
 some (maxI r.1 0,decide (0≤r.1))
theorem e64_k :KC e64:= .m (by kernel_rfl)
theorem gcr :FC e64 g6s:= .fn e64_k (.k g6r .n) .n fun _=>by kernel_rfl
def g97(id:Int) :Option (Bool):=
 some (bif decide (1≤id)then decide (id≤1000)else false)
theorem gxr :KC e140:= .m (by kernel_rfl)
theorem ghp :FC e140 g97:= .fn gxr .n .n fun _=>by kernel_rfl
def g98(x_:SMember × Int) :Option (Bool × Int):=
 match x_ with
 | (m,b)=>
 some (decide (m.ID=b),b)
theorem gxs :KC e144:= .m (by kernel_rfl)
theorem gig :FC e144 g98:= .fn gxs .n .n fun _=>by kernel_rfl
def gk(x_:List SMember × Int × Int × Int) :Option ((Int × Int) ⊕ (Int)):=
 match x_ with
 | (s_1,t7_1,t8,b_3)=>
 if decide (t8 < t7_1)=true then
 if inR t8 s_1.length=true then
 some (s_1.getD t8.toNat dSMember) >>=fun x0=>
 g98 ((⟨x0.ID,x0.Name,x0.Type_,x0.Critical,x0.HasDefault,SValue.eta x0.Default⟩:SMember),b_3) >>=fun r=>
 if r.1=true then
 some (.inl (t8,r.2))
 else
 gk (s_1,t7_1,addI .i64 t8 1,r.2)
 else none
 else
 some (.inr b_3)
  partial_fixpoint
theorem g6d :LC 143 1 [0] gtv gk:= .rc gk.partial_correctness (.k gig .n) .n fun _ _=>by kernel_rfl
def g38(x_:List SMember × Int) :Option (Int × Int):=
 match x_ with
 | (s,b)=>
 gk (s,(s.length:Int),0,b) >>=fun o=>
 match o with
 | .inl o_1=>
 some (o_1.1,o_1.2)
 | .inr o_2=>
 some ((-1),o_2)
theorem gxt :KC e143:= .m (by kernel_rfl)
theorem g6t :FC e143 g38:= .fn gxt .n (.k g6d .n) fun _=>by kernel_rfl
def g1o(x_:SType × Int) :Option (Int × Bool):=
 match x_ with
 | (t,id)=>
 g38 (t.Members,id) >>=fun r=>
 some (maxI r.1 0,decide (0≤r.1))
theorem gxu :KC e101:= .m (by kernel_rfl)
theorem g45 :FC e101 g1o:= .fn gxu (.k g6t .n) .n fun _=>by kernel_rfl
def g25(x_:Bool × List SRaw × Int × Int × List SType × SValue × Int × List UInt8 × Int × Int × Int × List SSymbol × List SMember × Int × Int × Bool) :Option ((Bool) ⊕ (Bool × List SType × Int × Bool × Int × List UInt8 × Int × List SValue × List SValue × List SRaw × Int × List UInt8 × Int × Int × Int × List SSymbol × List SMember × Int × Int × Bool)):=
 match x_ with
 | (plain_3,t111,t112_1,t113,b_31,b_32,b_33,b_34,b_35,b_36,b_37,b_38,b_39,b_40,b_41,b_42)=>
 if decide (t113 < t112_1)=true then
 if inR t113 t111.length=true then
 some (t111.getD t113.toNat dSRaw) >>=fun x0_4=>
 g1o ((⟨b_33,b_34,b_35,b_36,b_37,b_38,b_39,b_40,b_41,b_42⟩:SType),x0_4.ID) >>=fun r_14=>
 (if(!r_14.2)=true then g97 x0_4.ID else some false) >>=fun r_17=>
 some (bif r_14.2 then true else(!r_17)) >>=fun t131=>
 some (decide (0 < t113)) >>=fun t134=>
 some (subI .i64 t113 1) >>=fun t141=>
 if(inR t141 b_32.Rest.length || (!((!t131) && t134)))=true then
 if(bif t131 then true else bif t134 then decide (x0_4.ID≤(b_32.Rest.getD t141.toNat dSRaw).ID)else false)=true then
 some (.inl false)
 else
 g25 (plain_3,t111,t112_1,addI .i64 t113 1,b_31,SValue.eta b_32,b_33,b_34,b_35,b_36,b_37,b_38,b_39,b_40,b_41,b_42)
 else none
 else none
 else
 some (.inr (plain_3,b_31,b_32.Kind,b_32.Bool_,b_32.Int_,b_32.Str,b_32.ID,b_32.Keys,b_32.Items,b_32.Rest,b_33,b_34,b_35,b_36,b_37,b_38,b_39,b_40,b_41,b_42))
  partial_fixpoint
theorem gl8 :LC 97 0 [0] e97_0 g25:= .rc g25.partial_correctness (.k g45 (.k ghp .n)) .n fun _ _=>by kernel_rfl
def gcs(x0:Int) :Option (Bool):=
 some (!(decide (x0=x0)))
theorem gxv :KC e195:= .m (by kernel_rfl)
theorem gq1 :FC e195 gcs:= .fn gxv .n .n fun _=>by kernel_rfl
def ga4(x_:Int × Int) :Option (Int):=
 match x_ with
 | (x0,y)=>
 gcs x0 >>=fun r=>
 gcs y >>=fun r_1=>
 if r=true then
 if r_1=true then
 some 0
 else
 some (-1)
 else
 if r_1=true then
 some 1
 else
 if decide (x0 < y)=true then
 some (-1)
 else
 if decide (y < x0)=true then
 some 1
 else
 some 0
theorem gxw :KC e174:= .m (by kernel_rfl)
theorem gnl :FC e174 ga4:= .fn gxw (.k gq1 .n) .n fun _=>by kernel_rfl
end
section
open Go Go.Proofs.YtandcioiaooocaaGreat.Shv
open Tryz
set_option maxRecDepth 100000
def ga5(x0:Int) :Option (Bool):=
 some (!(decide (x0=x0)))
theorem gxx :KC e196:= .m (by kernel_rfl)
theorem gnm :FC e196 ga5:= .fn gxx .n .n fun _=>by kernel_rfl
def g6u(x_:Int × Int) :Option (Int):=
 match x_ with
 | (x0,y)=>
 ga5 x0 >>=fun r=>
 ga5 y >>=fun r_1=>
 if r=true then
 if r_1=true then
 some 0
 else
 some (-1)
 else
 if r_1=true then
 some 1
 else
 if decide (x0 < y)=true then
 some (-1)
 else
 if decide (y < x0)=true then
 some 1
 else
 some 0
theorem gxy :KC e177:= .m (by kernel_rfl)
theorem gl9 :FC e177 g6u:= .fn gxy (.k gnm .n) .n fun _=>by kernel_rfl
def ga6(x0:List UInt8) :Option (Bool):=
 some (!(decide (x0=x0)))
theorem gxz :KC e197:= .m (by kernel_rfl)
theorem gnn :FC e197 ga6:= .fn gxz .n .n fun _=>by kernel_rfl
def g8a(x_:List UInt8 × List UInt8) :Option (Int):=
 match x_ with
 | (x0,y)=>
 ga6 x0 >>=fun r=>
 ga6 y >>=fun r_1=>
 if r=true then
 if r_1=true then
 some 0
 else
 some (-1)
 else
 if r_1=true then
 some 1
 else
 if Op.bytesLess x0 y=true then
 some (-1)
 else
 if(!(Op.bytesLess x0 y || decide (x0=y)))=true then
 some 1
 else
 some 0
theorem gy0 :KC e178:= .m (by kernel_rfl)
theorem gla :FC e178 g8a:= .fn gy0 (.k gnn .n) .n fun _=>by kernel_rfl
def g50(x_:Int × List Int × Int × Int) :Option ((Int) ⊕ (Int)):=
 match x_ with
 | (zero_1,t6,t7_1,t8)=>
 if decide (t8 < t7_1)=true then
 if inR t8 t6.length=true then
 some (t6.getD t8.toNat 0) >>=fun x0=>
 if(!(decide (x0=zero_1)))=true then
 some (.inl x0)
 else
 g50 (zero_1,t6,t7_1,addI .i64 t8 1)
 else none
 else
 some (.inr zero_1)
  partial_fixpoint
theorem gq2 :LC 176 0 [0] gtw g50:= .rc g50.partial_correctness .n .n fun _ _=>by kernel_rfl
def glb(vals:List Int) :Option (Int):=
 g50 (0,vals,(vals.length:Int),0) >>=fun o=>
 match o with
 | .inl o_1=>
 some o_1
 | .inr o_2=>
 some o_2
theorem gy1 :KC e176:= .m (by kernel_rfl)
theorem gvg :FC e176 glb:= .fn gy1 .n (.k gq2 .n) fun _=>by kernel_rfl
def g5e(n:Int) :Option (Int):=
 some (xorI .u64 (shlI .u64 (wrp .u64 n) 1) (wrp .u64 (shrI .i64 n 63)))
theorem gy2 :KC e175:= .m (by kernel_rfl)
theorem gct :FC e175 g5e:= .fn gy2 .n .n fun _=>by kernel_rfl
def g4o(x_:SValue × SValue) :Option (Int):=
 match x_ with
 | (a,b)=>
 if(!(decide (a.Kind=b.Kind)))=true then
 some 0
 else
 if decide (a.Kind=1)=true then
 if eqB a.Bool_ b.Bool_=true then
 some 0
 else
 if b.Bool_=true then
 some (-1)
 else
 some 1
 else
 if decide (a.Kind=2)=true then
 g5e a.Int_ >>=fun r=>
 g5e b.Int_ >>=fun r_1=>
 ga4 (r,r_1) >>=fun r_2=>
 some r_2
 else
 if decide (a.Kind=3)=true then
 g6u ((a.Str.length:Int),(b.Str.length:Int)) >>=fun r_3=>
 g8a (a.Str,b.Str) >>=fun r_4=>
 glb [r_3,r_4] >>=fun r_5=>
 some r_5
 else
 if decide (a.Kind=4)=true then
 g6u (a.ID,b.ID) >>=fun r_6=>
 some r_6
 else
 some 0
theorem gy3 :KC e142:= .m (by kernel_rfl)
theorem glc :FC e142 g4o:= .fn gy3 (.k gct (.k gnl (.k gl9 (.k gla (.k gvg .n))))) .n fun _=>by kernel_rfl
def g20(x_:Bool × Int × List SType × SValue × Int × List UInt8 × Int × Int × Int × List SSymbol × List SMember × Int × Int × Bool) :Option ((Bool) ⊕ (Bool × List SType × SValue × Int × List UInt8 × Int × Int × Int × List SSymbol × List SMember × Int × Int × Bool)):=
 match x_ with
 | (plain_5,i,b_52,b_53,b_54,b_55,b_56,b_57,b_58,b_59,b_60,b_61,b_62,b_63)=>
 if decide (i < (b_53.Keys.length:Int))=true then
 some (subI .i64 i 1) >>=fun t291=>
 if inR t291 b_53.Keys.length=true then
 if inR i b_53.Keys.length=true then
 g4o (SValue.eta (b_53.Keys.getD t291.toNat dSValue),SValue.eta (b_53.Keys.getD i.toNat dSValue)) >>=fun r_19=>
 if decide (0≤r_19)=true then
 some (.inl false)
 else
 g20 (plain_5,addI .i64 i 1,b_52,SValue.eta b_53,b_54,b_55,b_56,b_57,b_58,b_59,b_60,b_61,b_62,b_63)
 else none
 else none
 else
 some (.inr (plain_5,b_52,SValue.eta b_53,b_54,b_55,b_56,b_57,b_58,b_59,b_60,b_61,b_62,b_63))
  partial_fixpoint
theorem gld :LC 97 0 [2] e97_2 g20:= .rc g20.partial_correctness (.k glc .n) .n fun _ _=>by kernel_rfl
mutual
def g22(x_:List SValue × List SType × Int × Bool) :Option (Bool × List SType × Int × Bool):=
 match x_ with
 | (s,b,b_1,b_2)=>
 g3f (s,b,b_1,b_2) >>=fun r=>
 some (decide (0≤r.1),r.2.1,r.2.2.1,r.2.2.2)
  partial_fixpoint
def g3f(x_:List SValue × List SType × Int × Bool) :Option (Int × List SType × Int × Bool):=
 match x_ with
 | (s,b,b_1,b_2)=>
 gr (s,(s.length:Int),0,b,b_1,b_2) >>=fun o=>
 match o with
 | .inl o_1=>
 some (o_1.1,o_1.2.1,o_1.2.2.1,o_1.2.2.2)
 | .inr o_2=>
 some ((-1),o_2.1,o_2.2.1,o_2.2.2)
  partial_fixpoint
def g4y(x_:SSchema × Int × List SValue × Bool) :Option (Bool):=
 match x_ with
 | (s,t,l,plain)=>
 g22 (l,s.Types,t,plain) >>=fun r=>
 some (!r.1)
  partial_fixpoint
def gc3(x_:SValue × List SType × Int × Bool) :Option (Bool × List SType × Int × Bool):=
 match x_ with
 | (v,b,b_1,b_2)=>
 g2w ((⟨b⟩:SSchema),b_1,SValue.eta v,b_2) >>=fun r=>
 some ((!r),b,b_1,b_2)
  partial_fixpoint
def g2w(x_:SSchema × Int × SValue × Bool) :Option (Bool):=
 match x_ with
 | (s,t,v,plain)=>
 if(bif decide (t < 0)then true else decide ((s.Types.length:Int)≤t))=true then
 some false
 else
 if inR t s.Types.length=true then
 some (s.Types.getD t.toNat dSType) >>=fun x0=>
 some (!(decide (v.Kind=x0.Kind))) >>=fun t39=>
 (if(!t39)=true then g95 (SValue.eta v)else some false) >>=fun r=>
 if(bif t39 then true else(!r))=true then
 some false
 else
 if decide (x0.Kind=2)=true then
 some (bif decide (x0.Low≤v.Int_)then decide (v.Int_≤x0.High)else false)
 else
 if decide (x0.Kind=3)=true then
 some (decide ((v.Str.length:Int)≤x0.Max))
 else
 if decide (x0.Kind=4)=true then
 g6s (x0,v.ID) >>=fun r_1=>
 some (bif x0.Open then(!plain)else false) >>=fun t85=>
 (if((!r_1.2) && t85)=true then g97 v.ID else some false) >>=fun r_4=>
 some (bif r_1.2 then true else bif t85 then r_4 else false)
 else
 if decide (x0.Kind=5)=true then
 if(bif (!(decide ((v.Items.length:Int)=(x0.Members.length:Int))))then true else bif plain then decide (0 < (v.Rest.length:Int))else false)=true then
 some false
 else
 g25 (plain,v.Rest,(v.Rest.length:Int),0,s.Types,SValue.eta v,x0.Kind,x0.Name,x0.Low,x0.High,x0.Max,x0.Symbols,x0.Members,x0.Key,x0.Elem,x0.Open) >>=fun o=>
 match o with
 | .inl o_1=>
 some o_1
 | .inr o_2=>
 g2l (o_2.1,o_2.2.2.2.2.2.2.2.2.2.2.2.2.2.2.2.2.1,(o_2.2.2.2.2.2.2.2.2.2.2.2.2.2.2.2.2.1.length:Int),0,o_2.2.1,o_2.2.2.1,o_2.2.2.2.1,o_2.2.2.2.2.1,o_2.2.2.2.2.2.1,o_2.2.2.2.2.2.2.1,o_2.2.2.2.2.2.2.2.1,o_2.2.2.2.2.2.2.2.2.1,o_2.2.2.2.2.2.2.2.2.2.1) >>=fun o_3=>
 match o_3 with
 | .inl o_4=>
 some o_4
 | .inr o_5=>
 some true
 else
 if decide (x0.Kind=6)=true then
 g1o (x0,v.ID) >>=fun r_5=>
 if r_5.2=true then
 some (bif decide ((v.Items.length:Int)=1)then decide ((v.Rest.length:Int)=0)else false) >>=fun t188=>
 if(inR r_5.1 x0.Members.length || (!t188))=true then
 if(inR 0 v.Items.length || (!t188))=true then
 (if t188=true then g2w ((⟨s.Types⟩:SSchema),(x0.Members.getD r_5.1.toNat dSMember).Type_,SValue.eta (v.Items.getD (0:Int).toNat dSValue),plain)else some false) >>=fun r_8=>
 some (bif t188 then r_8 else false)
 else none
 else none
 else
 some (bif x0.Open then(!plain)else false) >>=fun t209=>
 (if t209=true then g97 v.ID else some false) >>=fun r_9=>
 some (bif bif bif t209 then r_9 else false then decide ((v.Items.length:Int)=0)else false then decide ((v.Rest.length:Int)=1)else false) >>=fun t226=>
 if(inR 0 v.Rest.length || (!t226))=true then
 some (bif t226 then decide ((v.Rest.getD (0:Int).toNat dSRaw).ID=v.ID)else false)
 else none
 else
 if decide (x0.Kind=7)=true then
 some (decide ((v.Items.length:Int)≤x0.Max)) >>=fun t244=>
 (if t244=true then g4y ((⟨s.Types⟩:SSchema),x0.Elem,v.Items,plain)else some false) >>=fun r_10=>
 some (bif t244 then r_10 else false)
 else
 if decide (x0.Kind=8)=true then
 some (bif decide (x0.Max < (v.Keys.length:Int))then true else(!(decide ((v.Items.length:Int)=(v.Keys.length:Int))))) >>=fun t270=>
 (if(!t270)=true then g4y ((⟨s.Types⟩:SSchema),x0.Key,v.Keys,plain)else some false) >>=fun r_11=>
 if(bif t270 then true else(!r_11))=true then
 some false
 else
 g20 (plain,1,s.Types,SValue.eta v,x0.Kind,x0.Name,x0.Low,x0.High,x0.Max,x0.Symbols,x0.Members,x0.Key,x0.Elem,x0.Open) >>=fun o_6=>
 match o_6 with
 | .inl o_7=>
 some o_7
 | .inr o_8=>
 g4y ((⟨o_8.2.1⟩:SSchema),o_8.2.2.2.2.2.2.2.2.2.2.2.1,o_8.2.2.1.Items,o_8.1) >>=fun r_12=>
 some r_12
 else
 if decide (x0.Kind=9)=true then
 some (decide ((v.Items.length:Int)≤1)) >>=fun t313=>
 (if t313=true then g4y ((⟨s.Types⟩:SSchema),x0.Elem,v.Items,plain)else some false) >>=fun r_13=>
 some (bif t313 then r_13 else false)
 else
 some true
 else none
  partial_fixpoint
def gr(x_:List SValue × Int × Int × List SType × Int × Bool) :Option ((Int × List SType × Int × Bool) ⊕ (List SType × Int × Bool)):=
 match x_ with
 | (s_1,t7_1,t8,b_9,b_10,b_11)=>
 if decide (t8 < t7_1)=true then
 if inR t8 s_1.length=true then
 gc3 (SValue.eta (s_1.getD t8.toNat dSValue),b_9,b_10,b_11) >>=fun r=>
 if r.1=true then
 some (.inl (t8,r.2.1,r.2.2.1,r.2.2.2))
 else
 gr (s_1,t7_1,addI .i64 t8 1,r.2.1,r.2.2.1,r.2.2.2)
 else none
 else
 some (.inr (b_9,b_10,b_11))
  partial_fixpoint
def g2l(x_:Bool × List SMember × Int × Int × List SType × Int × Bool × Int × List UInt8 × Int × List SValue × List SValue × List SRaw) :Option ((Bool) ⊕ (Unit)):=
 match x_ with
 | (plain_4,t150,t151_1,t152,b_43,b_44,b_45,b_46,b_47,b_48,b_49,b_50,b_51)=>
 if decide (t152 < t151_1)=true then
 if inR t152 t150.length=true then
 if inR t152 b_50.length=true then
 g2w ((⟨b_43⟩:SSchema),(t150.getD t152.toNat dSMember).Type_,SValue.eta (b_50.getD t152.toNat dSValue),plain_4) >>=fun r_18=>
 if(!r_18)=true then
 some (.inl false)
 else
 g2l (plain_4,t150,t151_1,addI .i64 t152 1,b_43,b_44,b_45,b_46,b_47,b_48,b_49,b_50,b_51)
 else none
 else none
 else
 some (.inr ())
  partial_fixpoint
end
theorem gu9 :KC e172:= .m (by kernel_rfl)
theorem gua :KC e194:= .m (by kernel_rfl)
theorem gub :KC e173:= .m (by kernel_rfl)
theorem e97_k :KC e97:= .m (by kernel_rfl)
theorem guc :KC e141:= .m (by kernel_rfl)
theorem g6e :(∀h r,g22 h=some r→FD e172 h r)∧(∀h r,g3f h=some r→FD e194 h r)∧(∀h r,gr h=some r→LD 194 3 [0] ghg h r)∧(∀h r,gc3 h=some r→FD e173 h r)∧(∀h r,g2w h=some r→FD e97 h r)∧(∀h r,g4y h=some r→FD e141 h r)∧(∀h r,g2l h=some r→LD 97 0 [1] e97_1 h r):=g22.mutual_partial_correctness (FD e172) (FD e194) (LD 194 3 [0] ghg) (FD e173) (FD e97) (FD e141) (LD 97 0 [1] e97_1)
 (fun _ h1 _ _ h=>FA e172 gu9 (.k (FH e194 gua h1) .n) .n (.trans (by kernel_rfl) h))
 (fun _ h2 _ _ h=>FA e194 gua .n (.k (LH ghg h2) .n) (.trans (by kernel_rfl) h))
 (fun _ _ h2 h3 _ _ h=>LA ghg h2 (.k (FH e173 gub h3) .n) .n (.trans (by kernel_rfl) h))
 (fun _ h4 _ _ h=>FA e173 gub (.k (FH e97 e97_k h4) .n) .n (.trans (by kernel_rfl) h))
 (fun _ _ _ h4 h5 h6 _ _ h=>FA e97 e97_k (.k gm9 (.k gcr (.k ghp (.k g45 (.k (FH e97 e97_k h4) (.k (FH e141 guc h5) .n)))))) (.k gl8 (.k (LH e97_1 h6) (.k gld .n))) (.trans (by kernel_rfl) h))
 (fun _ h0 _ _ h=>FA e141 guc (.k (FH e172 gu9 h0) .n) .n (.trans (by kernel_rfl) h))
 (fun _ _ h4 h6 _ _ h=>LA e97_1 h6 (.k (FH e97 e97_k h4) .n) .n (.trans (by kernel_rfl) h))
theorem ghq :FC e97 g2w:= .of e97_k g6e.2.2.2.2.1
end
section
open Go Go.Proofs.YtandcioiaooocaaGreat.Shv
open Tryz
set_option maxRecDepth 100000
def ga7(x_:SSchema × Int × SValue) :Option (Bool):=
 match x_ with
 | (s,t,v)=>
 g2w (s,t,SValue.eta v,true) >>=fun r=>
 some r
theorem e62_k :KC e62:= .m (by kernel_rfl)
theorem gno :FC e62 ga7:= .fn e62_k (.k ghq .n) .n fun _=>by kernel_rfl
def g5f(x_:SSchema × Int × SValue × SSchema × Int) :Option (Int):=
 match x_ with
 | (w,wt,v,r,rt)=>
 g6b (w,wt) >>=fun r_1=>
 if(!(decide (r_1=0)))=true then
 some r_1
 else
 g6b (r,rt) >>=fun r_2=>
 if(!(decide (r_2=0)))=true then
 some r_2
 else
 ga7 (w,wt,SValue.eta v) >>=fun r_3=>
 if(!r_3)=true then
 some 1
 else
 some 0
theorem e37_k :KC e37:= .m (by kernel_rfl)
theorem gcu :FC e37 g5f:= .fn e37_k (.k gjw (.k gno .n)) .n fun _=>by kernel_rfl
def g31(x_:List SType × List SType × List Int × List Int) :Option (SValue × Bool × List SType × List SType × List Int × List Int):=
 match x_ with
 | (b,b_1,b_2,b_3)=>
 goq 8 b_3 >>=fun r=>
 if(decide (r.1.length=b_3.length) && true)=true then
 some ((⟨0,false,0,[],0,[],[],[]⟩:SValue),false,b,b_1,r.1,r.2)
 else none
theorem e63_k :KC e63:= .m (by kernel_rfl)
theorem g9e :FC e63 g31:= .fn e63_k (.k g5o .n) .n fun _=>by kernel_rfl
def g5b(x_:Int × List SType × List SType × List Int × List Int) :Option (SValue × Bool × List SType × List SType × List Int × List Int):=
 match x_ with
 | (id,b,b_1,b_2,b_3)=>
 goq 8 b_3 >>=fun r=>
 if(decide (r.1.length=b_3.length) && true)=true then
 some [id] >>=fun t13=>
 if room 8 (r.2++t13).length=true then
 some ((⟨0,false,0,[],0,[],[],[]⟩:SValue),false,b,b_1,r.1,r.2++t13)
 else none
 else none
theorem gy4 :KC e102:= .m (by kernel_rfl)
theorem g8k :FC e102 g5b:= .fn gy4 (.k g5o .n) .n fun _=>by kernel_rfl
mutual
def g54(v:SValue) :Option (SValue):=
 g90 120 v.Keys >>=fun r=>
 g90 120 v.Items >>=fun r_1=>
 g90 24 v.Rest >>=fun r_2=>
 g7w ((r.length:Int),0,v.Kind,v.Bool_,v.Int_,v.Str,v.ID,0,false,0,[],0,r,r_1,r_2) >>=fun o=>
 g7x ((o.2.2.2.2.2.2.2.2.2.2.2.1.length:Int),0,o.1,o.2.1,o.2.2.1,o.2.2.2.1,o.2.2.2.2.1,o.2.2.2.2.2.1,o.2.2.2.2.2.2.1,o.2.2.2.2.2.2.2.1,o.2.2.2.2.2.2.2.2.1,o.2.2.2.2.2.2.2.2.2.1,o.2.2.2.2.2.2.2.2.2.2.2.1,o.2.2.2.2.2.2.2.2.2.2.1,o.2.2.2.2.2.2.2.2.2.2.2.2) >>=fun o_1=>
 some (⟨o_1.1,o_1.2.1,o_1.2.2.1,o_1.2.2.2.1,o_1.2.2.2.2.1,o_1.2.2.2.2.2.2.2.2.2.2.1,o_1.2.2.2.2.2.2.2.2.2.2.2.1,o_1.2.2.2.2.2.2.2.2.2.2.2.2⟩:SValue)
  partial_fixpoint
def g7w(x_:Int × Int × Int × Bool × Int × List UInt8 × Int × Int × Bool × Int × List UInt8 × Int × List SValue × List SValue × List SRaw) :Option (Int × Bool × Int × List UInt8 × Int × Int × Bool × Int × List UInt8 × Int × List SValue × List SValue × List SRaw):=
 match x_ with
 | (t21_1,t22,b_26,b_27,b_28,b_29,b_30,b_31,b_32,b_33,b_34,b_35,b_36,b_37,b_38)=>
 if decide (t22 < t21_1)=true then
 if inR t22 b_36.length=true then
 if decide (t22.toNat < b_36.length)=true then
 g54 (SValue.eta (b_36.getD t22.toNat dSValue)) >>=fun r_3=>
 if inR t22 b_36.length=true then
 if decide (t22.toNat < b_36.length)=true then
 g7w (t21_1,addI .i64 t22 1,b_26,b_27,b_28,b_29,b_30,b_31,b_32,b_33,b_34,b_35,b_36.set t22.toNat (SValue.eta r_3),b_37,b_38)
 else none
 else none
 else none
 else none
 else
 some (b_26,b_27,b_28,b_29,b_30,b_31,b_32,b_33,b_34,b_35,b_36,b_37,b_38)
  partial_fixpoint
def g7x(x_:Int × Int × Int × Bool × Int × List UInt8 × Int × Int × Bool × Int × List UInt8 × Int × List SValue × List SValue × List SRaw) :Option (Int × Bool × Int × List UInt8 × Int × Int × Bool × Int × List UInt8 × Int × List SValue × List SValue × List SRaw):=
 match x_ with
 | (t36_1,t37,b_39,b_40,b_41,b_42,b_43,b_44,b_45,b_46,b_47,b_48,b_49,b_50,b_51)=>
 if decide (t37 < t36_1)=true then
 if inR t37 b_49.length=true then
 if decide (t37.toNat < b_49.length)=true then
 g54 (SValue.eta (b_49.getD t37.toNat dSValue)) >>=fun r_4=>
 if inR t37 b_49.length=true then
 if decide (t37.toNat < b_49.length)=true then
 g7x (t36_1,addI .i64 t37 1,b_39,b_40,b_41,b_42,b_43,b_44,b_45,b_46,b_47,b_48,b_49.set t37.toNat (SValue.eta r_4),b_50,b_51)
 else none
 else none
 else none
 else none
 else
 some (b_39,b_40,b_41,b_42,b_43,b_44,b_45,b_46,b_47,b_48,b_50,b_49,b_51)
  partial_fixpoint
end
theorem gle :KC e103:= .m (by kernel_rfl)
theorem ghr :(∀h r,g54 h=some r→FD e103 h r)∧(∀h r,g7x h=some r→LD 103 0 [1] ghi h r)∧(∀h r,g7w h=some r→LD 103 0 [0] ghh h r):=g54.mutual_partial_correctness (FD e103) (LD 103 0 [1] ghi) (LD 103 0 [0] ghh)
 (fun _ _ h1 h2 _ _ h=>FA e103 gle (.k g7g (.k g7h .n)) (.k (LH ghh h2) (.k (LH ghi h1) .n)) (.trans (by kernel_rfl) h))
 (fun _ _ h0 h1 _ _ h=>LA ghi h1 (.k (FH e103 gle h0) .n) .n (.trans (by kernel_rfl) h))
 (fun _ _ h0 h2 _ _ h=>LA ghh h2 (.k (FH e103 gle h0) .n) .n (.trans (by kernel_rfl) h))
theorem gjx :FC e103 g54:= .of gle ghr.1
mutual
def g14(x_:List SValue × List SValue) :Option (Bool):=
 match x_ with
 | (s1,s2)=>
 if(!(decide ((s1.length:Int)=(s2.length:Int))))=true then
 some false
 else
 g1g (s2,s1,(s1.length:Int),0) >>=fun o=>
 match o with
 | .inl o_1=>
 some o_1
 | .inr o_2=>
 some true
  partial_fixpoint
def g6z(x_:SValue × SValue) :Option (Bool):=
 match x_ with
 | (a,b)=>
 some (bif bif bif bif decide (a.Kind=b.Kind)then eqB a.Bool_ b.Bool_ else false then decide (a.Int_=b.Int_)else false then decide (a.Str=b.Str)else false then decide (a.ID=b.ID)else false) >>=fun t37=>
 (if t37=true then g1e (a.Rest,b.Rest)else some false) >>=fun r=>
 some (bif t37 then r else false) >>=fun t44=>
 (if t44=true then g14 (a.Keys,b.Keys)else some false) >>=fun r_1=>
 some (bif t44 then r_1 else false) >>=fun t51=>
 (if t51=true then g14 (a.Items,b.Items)else some false) >>=fun r_2=>
 some (bif t51 then r_2 else false)
  partial_fixpoint
def g1g(x_:List SValue × List SValue × Int × Int) :Option ((Bool) ⊕ (Unit)):=
 match x_ with
 | (s2_1,t15,t16_1,t17)=>
 if decide (t17 < t16_1)=true then
 if inR t17 t15.length=true then
 if inR t17 s2_1.length=true then
 g6z (SValue.eta (t15.getD t17.toNat dSValue),SValue.eta (s2_1.getD t17.toNat dSValue)) >>=fun r=>
 if(!r)=true then
 some (.inl false)
 else
 g1g (s2_1,t15,t16_1,addI .i64 t17 1)
 else none
 else none
 else
 some (.inr ())
  partial_fixpoint
end
theorem gqr :KC e82_b:= .m (by kernel_rfl)
theorem e45_k :KC e45:= .m (by kernel_rfl)
theorem g42 :(∀h r,g14 h=some r→FD e82_b h r)∧(∀h r,g1g h=some r→LD 82 0 [0] ge1 h r)∧(∀h r,g6z h=some r→FD e45 h r):=g14.mutual_partial_correctness (FD e82_b) (LD 82 0 [0] ge1) (FD e45)
 (fun _ h1 _ _ h=>FA e82_b gqr .n (.k (LH ge1 h1) .n) (.trans (by kernel_rfl) h))
 (fun _ _ h1 h2 _ _ h=>LA ge1 h1 (.k (FH e45 e45_k h2) .n) .n (.trans (by kernel_rfl) h))
 (fun _ h0 _ _ h=>FA e45 e45_k (.k g48 (.k (FH e82_b gqr h0) .n)) .n (.trans (by kernel_rfl) h))
theorem gai :FC e45 g6z:= .of e45_k g42.2.2
def g4s(x_:SMember × SValue) :Option (Bool):=
 match x_ with
 | (m,item)=>
 (if m.HasDefault=true then g6z (SValue.eta item,SValue.eta m.Default)else some false) >>=fun r=>
 some (bif m.HasDefault then r else false)
theorem gy5 :KC e105:= .m (by kernel_rfl)
theorem g73 :FC e105 g4s:= .fn gy5 (.k gai .n) .n fun _=>by kernel_rfl
def geb(x_:SSchema × Int) :Option (Int):=
 match x_ with
 | (s,t)=>
 g7k (⟨s.Types⟩:SSchema) >>=fun r=>
 if(!(decide (r=0)))=true then
 some r
 else
 if(bif decide (t < 0)then true else decide ((s.Types.length:Int)≤t))=true then
 some 4
 else
 some 0
theorem gy6 :KC e199:= .m (by kernel_rfl)
theorem gjy :FC e199 geb:= .fn gy6 (.k gea .n) .n fun _=>by kernel_rfl
def glf(x_:SSchema × Int × SValue) :Option (Bool):=
 match x_ with
 | (s,t,v)=>
 g2w ((⟨s.Types⟩:SSchema),t,SValue.eta v,false) >>=fun r=>
 some r
theorem gy7 :KC e200:= .m (by kernel_rfl)
theorem gp2 :FC e200 glf:= .fn gy7 (.k ghq .n) .n fun _=>by kernel_rfl
def gec(x_:SSchema × Int × SValue) :Option (Int):=
 match x_ with
 | (s,t,v)=>
 geb ((⟨s.Types⟩:SSchema),t) >>=fun r=>
 if(!(decide (r=0)))=true then
 some r
 else
 glf ((⟨s.Types⟩:SSchema),t,SValue.eta v) >>=fun r_1=>
 if(!r_1)=true then
 some 1
 else
 some 0
theorem gy8 :KC e180:= .m (by kernel_rfl)
theorem gjz :FC e180 gec:= .fn gy8 (.k gjy (.k gp2 .n)) .n fun _=>by kernel_rfl
end
section
open Go Go.Proofs.YtandcioiaooocaaGreat.Shv
open Tryz
set_option maxRecDepth 100000
def g8b(x_:Int × Int × List Int) :Option (Int × Int × List Int):=
 match x_ with
 | (n_2,i_1,b_1)=>
 if decide (128≤n_2)=true then
 if inR i_1 10=true then
 if decide (i_1.toNat < b_1.length)=true then
 g8b (shrI .u64 n_2 7,addI .i64 i_1 1,b_1.set i_1.toNat (orI .u8 (wrp .u8 n_2) 128))
 else none
 else none
 else
 some (n_2,i_1,b_1)
  partial_fixpoint
theorem glg :LC 148 0 [0] gtx g8b:= .rc g8b.partial_correctness .n .n fun _ _=>by kernel_rfl
def g6m(n:Int) :Option (List UInt8):=
 g8b (n,0,[0,0,0,0,0,0,0,0,0,0]) >>=fun o=>
 if inR o.2.1 10=true then
 if decide (o.2.1.toNat < o.2.2.length)=true then
 some (o.2.2.set o.2.1.toNat (wrp .u8 o.1)) >>=fun l_1=>
 some (addI .i64 o.2.1 1) >>=fun t21=>
 if slR 0 t21 10=true then
 if subR (0:Int).toNat t21.toNat l_1.length=true then
 some (strOf ((l_1.drop (0:Int).toNat).take t21.toNat))
 else none
 else none
 else none
 else none
theorem gy9 :KC e148:= .m (by kernel_rfl)
theorem g7l :FC e148 g6m:= .fn gy9 .n (.k glg .n) fun _=>by kernel_rfl
def g6f(p:List UInt8) :Option (List UInt8):=
 g6m (wrp .u64 (p.length:Int)) >>=fun r=>
 if decide (r.length+p.length≤g2x)=true then
 some (r++p)
 else none
theorem gya :KC e198:= .m (by kernel_rfl)
theorem ged :FC e198 g6f:= .fn gya (.k g7l .n) .n fun _=>by kernel_rfl
def g2s(x_:List UInt8 × List UInt8) :Option (Int × List UInt8):=
 match x_ with
 | (s,b)=>
 some b >>=fun r=>
 if(decide (r.length=b.length) && true)=true then
 if room 1 (r.length+s.length)=true then
 some ((s.length:Int),catS r s)
 else none
 else none
theorem gyb :KC e204:= .m (by kernel_rfl)
theorem g5z :FC e204 g2s:= .fn gyb (.k g91 .n) .n fun _=>by kernel_rfl
def g99(x_:Int × Bool × List UInt8) :Option (List UInt8):=
 match x_ with
 | (id,critical,p)=>
 some (mulI .u64 2 (wrp .u64 id)) >>=fun t10=>
 if critical=true then
 g6m (addI .u64 t10 1) >>=fun r=>
 g6f p >>=fun r_1=>
 if decide (r.length+r_1.length≤g2x)=true then
 some (r++r_1)
 else none
 else
 g6m t10 >>=fun r_2=>
 g6f p >>=fun r_3=>
 if decide (r_2.length+r_3.length≤g2x)=true then
 some (r_2++r_3)
 else none
theorem gyc :KC e179:= .m (by kernel_rfl)
theorem g9x :FC e179 g99:= .fn gyc (.k g7l (.k ged .n)) .n fun _=>by kernel_rfl
def gee(x_:SMember × SValue) :Option (Bool):=
 match x_ with
 | (m,v)=>
 (if m.HasDefault=true then g6z (SValue.eta m.Default,SValue.eta v)else some false) >>=fun r=>
 some (bif m.HasDefault then r else false)
theorem gyd :KC e207:= .m (by kernel_rfl)
theorem gk0 :FC e207 gee:= .fn gyd (.k gai .n) .n fun _=>by kernel_rfl
def g49(x_:List SRaw × Int × Int × List SType × Int × List EncodeEntry) :Option (List SType × Int × List EncodeEntry):=
 match x_ with
 | (t57,t58_1,t59,b_16,b_17,b_18)=>
 if decide (t59 < t58_1)=true then
 if inR t59 t57.length=true then
 some (t57.getD t59.toNat dSRaw) >>=fun x0_4=>
 g99 (x0_4.ID,false,x0_4.Data) >>=fun r_8=>
 some [(⟨x0_4.ID,r_8⟩:EncodeEntry)] >>=fun t72=>
 if room 24 (b_18++t72).length=true then
 g49 (t57,t58_1,addI .i64 t59 1,b_16,b_17,b_18++t72)
 else none
 else none
 else
 some (b_16,b_17,b_18)
  partial_fixpoint
theorem gb0 :LC 202 1 [1] gtz g49:= .rc g49.partial_correctness (.k g9x .n) .n fun _ _=>by kernel_rfl
def g4a(x_:Int × Int × List SType × Int × List EncodeEntry × List UInt8) :Option (List SType × Int × List UInt8):=
 match x_ with
 | (t78_1,t79,b_19,b_20,b_21,b_22)=>
 if decide (t79 < t78_1)=true then
 if inR t79 b_21.length=true then
 if decide (t79.toNat < b_21.length)=true then
 g2s ((b_21.getD t79.toNat dEncodeEntry).text,b_22) >>=fun r_9=>
 g4a (t78_1,addI .i64 t79 1,b_19,b_20,b_21,r_9.2)
 else none
 else none
 else
 some (b_19,b_20,b_22)
  partial_fixpoint
theorem gb1 :LC 202 1 [2] gu0 g4a:= .rc g4a.partial_correctness (.k g5z .n) .n fun _ _=>by kernel_rfl
def g5y(b:List UInt8) :Option (List UInt8):=
 if eqI (b.length:Int) (b.length:Int)=true then
 some b
 else none
theorem gye :KC e205:= .m (by kernel_rfl)
theorem g7m :FC e205 g5y:= .fn gye .n .n fun _=>by kernel_rfl
def g8c(x_:Int × Int × List Int) :Option (Int × List Int):=
 match x_ with
 | (n_1,i_1,b_1)=>
 if decide (0 < n_1)=true then
 some (subI .i64 i_1 1) >>=fun t10=>
 if inR t10 8=true then
 if decide (t10.toNat < b_1.length)=true then
 g8c (shrI .u64 n_1 8,t10,b_1.set t10.toNat (wrp .u8 n_1))
 else none
 else none
 else
 some (i_1,b_1)
  partial_fixpoint
theorem glh :LC 201 0 [0] gty g8c:= .rc g8c.partial_correctness .n .n fun _ _=>by kernel_rfl
def gfj(n:Int) :Option (List UInt8):=
 g8c (n,8,[0,0,0,0,0,0,0,0]) >>=fun o=>
 if slR o.1 8 8=true then
 if subR o.1.toNat ((8:Int).toNat - o.1.toNat) o.2.length=true then
 some (strOf ((o.2.drop o.1.toNat).take ((8:Int).toNat - o.1.toNat)))
 else none
 else none
theorem gyf :KC e201:= .m (by kernel_rfl)
theorem gp3 :FC e201 gfj:= .fn gyf .n (.k glh .n) fun _=>by kernel_rfl
mutual
def g1k(x_:Int × SValue × Int × List SType × Int) :Option (List UInt8 × List SType × Int):=
 match x_ with
 | (t,v,level,b,b_1)=>
 some (maxI b_1 level) >>=fun t19=>
 if inR t b.length=true then
 some (b.getD t.toNat dSType) >>=fun x0=>
 if decide (x0.Kind=1)=true then
 if v.Bool_=true then
 some ([1],b,t19)
 else
 some ([],b,t19)
 else
 if decide (x0.Kind=2)=true then
 g5e v.Int_ >>=fun r=>
 gfj r >>=fun r_1=>
 some (r_1,b,t19)
 else
 if decide (x0.Kind=3)=true then
 some (v.Str,b,t19)
 else
 if decide (x0.Kind=4)=true then
 gfj (wrp .u64 v.ID) >>=fun r_2=>
 some (r_2,b,t19)
 else
 if decide (x0.Kind=5)=true then
 g9a (x0,SValue.eta v,level,b,t19) >>=fun r_3=>
 some (r_3.1,r_3.2.1,r_3.2.2)
 else
 if decide (x0.Kind=6)=true then
 g9f (x0,SValue.eta v,level,b,t19) >>=fun r_7=>
 some (r_7.1,r_7.2.1,r_7.2.2)
 else
 if decide (x0.Kind=9)=true then
 if decide ((v.Items.length:Int)=0)=true then
 some ([],b,t19)
 else
 if inR 0 v.Items.length=true then
 g1k (x0.Elem,SValue.eta (v.Items.getD (0:Int).toNat dSValue),addI .i64 level 1,b,t19) >>=fun r_11=>
 if decide ([1].length+r_11.1.length≤g2x)=true then
 some ([1]++r_11.1,r_11.2.1,r_11.2.2)
 else none
 else none
 else
 g46 (level,v.Items,(v.Items.length:Int),0,b,t19,SValue.eta v,x0,[]) >>=fun o=>
 g5y o.2.2 >>=fun r_15=>
 some (r_15,o.1,o.2.1)
 else none
  partial_fixpoint
def g9a(x_:SType × SValue × Int × List SType × Int) :Option (List UInt8 × List SType × Int):=
 match x_ with
 | (x0,v,level,b,b_1)=>
 g4b (level,x0.Members,(x0.Members.length:Int),0,b,b_1,SValue.eta v,[]) >>=fun o=>
 g49 (o.2.2.1.Rest,(o.2.2.1.Rest.length:Int),0,o.1,o.2.1,o.2.2.2) >>=fun o_1=>
 gib o_1.2.2 >>=fun r=>
 if(decide (r.length=o_1.2.2.length) && true)=true then
 g4a ((r.length:Int),0,o_1.1,o_1.2.1,r,[]) >>=fun o_2=>
 g5y o_2.2.2 >>=fun r_1=>
 some (r_1,o_2.1,o_2.2.1)
 else none
  partial_fixpoint
def g9f(x_:SType × SValue × Int × List SType × Int) :Option (List UInt8 × List SType × Int):=
 match x_ with
 | (x0,v,level,b,b_1)=>
 g6m (wrp .u64 v.ID) >>=fun r=>
 g1o (x0,v.ID) >>=fun r_1=>
 if(!r_1.2)=true then
 if inR 0 v.Rest.length=true then
 some (v.Rest.getD (0:Int).toNat dSRaw) >>=fun x0_1=>
 if decide (r.length+x0_1.Data.length≤g2x)=true then
 some (r++x0_1.Data,b,b_1)
 else none
 else none
 else
 if inR r_1.1 x0.Members.length=true then
 if inR 0 v.Items.length=true then
 g1k ((x0.Members.getD r_1.1.toNat dSMember).Type_,SValue.eta (v.Items.getD (0:Int).toNat dSValue),addI .i64 level 1,b,b_1) >>=fun r_4=>
 if decide (r.length+r_4.1.length≤g2x)=true then
 some (r++r_4.1,r_4.2.1,r_4.2.2)
 else none
 else none
 else none
  partial_fixpoint
def g46(x_:Int × List SValue × Int × Int × List SType × Int × SValue × SType × List UInt8) :Option (List SType × Int × List UInt8):=
 match x_ with
 | (level_1,t84,t85_1,t86,b_5,b_6,b_7,b_8,b_9)=>
 if decide (t86 < t85_1)=true then
 if inR t86 t84.length=true then
 some (t84.getD t86.toNat dSValue) >>=fun x0_2=>
 if decide (b_8.Kind=8)=true then
 if inR t86 b_7.Keys.length=true then
 g1k (b_8.Key,SValue.eta (b_7.Keys.getD t86.toNat dSValue),addI .i64 level_1 1,b_5,b_6) >>=fun r_16=>
 g6f r_16.1 >>=fun r_20=>
 g2s (r_20,b_9) >>=fun r_21=>
 g1k (b_8.Elem,SValue.eta x0_2,addI .i64 level_1 1,r_16.2.1,r_16.2.2) >>=fun r_24=>
 g6f r_24.1 >>=fun r_28=>
 g2s (r_28,r_21.2) >>=fun r_29=>
 g46 (level_1,t84,t85_1,addI .i64 t86 1,r_24.2.1,r_24.2.2,SValue.eta b_7,b_8,r_29.2)
 else none
 else
 g1k (b_8.Elem,SValue.eta x0_2,addI .i64 level_1 1,b_5,b_6) >>=fun r_32=>
 g6f r_32.1 >>=fun r_36=>
 g2s (r_36,b_9) >>=fun r_37=>
 g46 (level_1,t84,t85_1,addI .i64 t86 1,r_32.2.1,r_32.2.2,SValue.eta b_7,b_8,r_37.2)
 else none
 else
 some (b_5,b_6,b_9)
  partial_fixpoint
def g4b(x_:Int × List SMember × Int × Int × List SType × Int × SValue × List EncodeEntry) :Option (List SType × Int × SValue × List EncodeEntry):=
 match x_ with
 | (level_1,t18,t19_1,t20,b_12,b_13,b_14,b_15)=>
 if decide (t20 < t19_1)=true then
 if inR t20 t18.length=true then
 some (t18.getD t20.toNat dSMember) >>=fun x0_1=>
 if inR t20 b_14.Items.length=true then
 gee ((⟨x0_1.ID,x0_1.Name,x0_1.Type_,x0_1.Critical,x0_1.HasDefault,SValue.eta x0_1.Default⟩:SMember),SValue.eta (b_14.Items.getD t20.toNat dSValue)) >>=fun r_2=>
 if(!r_2)=true then
 if inR t20 b_14.Items.length=true then
 g1k (x0_1.Type_,SValue.eta (b_14.Items.getD t20.toNat dSValue),addI .i64 level_1 1,b_12,b_13) >>=fun r_3=>
 g99 (x0_1.ID,x0_1.Critical,r_3.1) >>=fun r_7=>
 some [(⟨x0_1.ID,r_7⟩:EncodeEntry)] >>=fun t53=>
 if room 24 (b_15++t53).length=true then
 g4b (level_1,t18,t19_1,addI .i64 t20 1,r_3.2.1,r_3.2.2,SValue.eta b_14,b_15++t53)
 else none
 else none
 else
 g4b (level_1,t18,t19_1,addI .i64 t20 1,b_12,b_13,SValue.eta b_14,b_15)
 else none
 else none
 else
 some (b_12,b_13,SValue.eta b_14,b_15)
  partial_fixpoint
end
theorem gef :KC e181:= .m (by kernel_rfl)
theorem gud :KC e203:= .m (by kernel_rfl)
theorem gue :KC e202:= .m (by kernel_rfl)
theorem gb2 :(∀h r,g1k h=some r→FD e181 h r)∧(∀h r,g46 h=some r→LD 181 1 [0] ghk h r)∧(∀h r,g9f h=some r→FD e203 h r)∧(∀h r,g9a h=some r→FD e202 h r)∧(∀h r,g4b h=some r→LD 202 1 [0] ghj h r):=g1k.mutual_partial_correctness (FD e181) (LD 181 1 [0] ghk) (FD e203) (FD e202) (LD 202 1 [0] ghj)
 (fun _ _ _ _ h0 h1 h2 h3 _ _ h=>FA e181 gef (.k gct (.k gp3 (.k (FH e202 gue h3) (.k (FH e203 gud h2) (.k (FH e181 gef h0) (.k g7m .n)))))) (.k (LH ghk h1) .n) (.trans (by kernel_rfl) h))
 (fun _ _ h0 h1 _ _ h=>LA ghk h1 (.k (FH e181 gef h0) (.k ged (.k g5z .n))) .n (.trans (by kernel_rfl) h))
 (fun _ h0 _ _ h=>FA e203 gud (.k g7l (.k g45 (.k (FH e181 gef h0) .n))) .n (.trans (by kernel_rfl) h))
 (fun _ h4 _ _ h=>FA e202 gue (.k g9v (.k g7m .n)) (.k (LH ghj h4) (.k gb0 (.k gb1 .n))) (.trans (by kernel_rfl) h))
 (fun _ _ h0 h4 _ _ h=>LA ghj h4 (.k gk0 (.k (FH e181 gef h0) (.k g9x .n))) .n (.trans (by kernel_rfl) h))
theorem gcf :FC e181 g1k:= .of gef gb2.1
end
section
open Go Go.Proofs.YtandcioiaooocaaGreat.Shv
open Tryz
set_option maxRecDepth 100000
def gaj(x_:SSchema × Int × SValue) :Option (List UInt8 × Int):=
 match x_ with
 | (s,t,v)=>
 gec ((⟨s.Types⟩:SSchema),t,SValue.eta v) >>=fun r=>
 if(!(decide (r=0)))=true then
 some ([],r)
 else
 g1k (t,SValue.eta v,1,s.Types,0) >>=fun r_1=>
 if(bif decide (4096 < (r_1.1.length:Int))then true else decide (200 < r_1.2.2))=true then
 some ([],3)
 else
 some (r_1.1,0)
theorem gyg :KC e150:= .m (by kernel_rfl)
theorem gli :FC e150 gaj:= .fn gyg (.k gjz (.k gcf .n)) .n fun _=>by kernel_rfl
def ghs(x_:Int × Bool × List UInt8) :Option (List UInt8 × Int):=
 match x_ with
 | (id,critical,payload)=>
 if(bif decide (id < 1)then true else decide (1000 < id))=true then
 some ([],7)
 else
 if decide (4096 < (payload.length:Int))=true then
 some ([],3)
 else
 g99 (id,critical,payload) >>=fun r=>
 some (r,0)
theorem gyh :KC e147:= .m (by kernel_rfl)
theorem gma :FC e147 ghs:= .fn gyh (.k g9x .n) .n fun _=>by kernel_rfl
def g8d(p:List UInt8) :Option (List UInt8):=
 g6m (wrp .u64 (p.length:Int)) >>=fun r=>
 if decide (r.length+p.length≤g2x)=true then
 some (r++p)
 else none
theorem gyi :KC e149:= .m (by kernel_rfl)
theorem glj :FC e149 g8d:= .fn gyi (.k g7l .n) .n fun _=>by kernel_rfl
mutual
def g29(x_:SSchema × Int × SValue) :Option (List UInt8):=
 match x_ with
 | (s,t,v)=>
 if inR t s.Types.length=true then
 some (s.Types.getD t.toNat dSType) >>=fun x0=>
 if decide (x0.Kind=5)=true then
 g5s ([],x0.Members,(x0.Members.length:Int),0,s.Types,SValue.eta v) >>=fun o=>
 some o
 else
 if decide (x0.Kind=6)=true then
 g1o (x0,v.ID) >>=fun r=>
 g6m (wrp .u64 v.ID) >>=fun r_3=>
 if inR r.1 x0.Members.length=true then
 if inR 0 v.Items.length=true then
 g29 (s,(x0.Members.getD r.1.toNat dSMember).Type_,SValue.eta (v.Items.getD (0:Int).toNat dSValue)) >>=fun r_4=>
 if decide (r_3.length+r_4.length≤g2x)=true then
 some (r_3++r_4)
 else none
 else none
 else none
 else
 if decide (x0.Kind=9)=true then
 g7n ([],v.Items,(v.Items.length:Int),0,s.Types,x0) >>=fun o_1=>
 some o_1
 else
 some (decide (x0.Kind=7)) >>=fun t115=>
 if t115=true then
 if t115=true then
 g4k ([],v.Items,(v.Items.length:Int),0,s.Types,SValue.eta v,x0) >>=fun o_2=>
 some o_2
 else
 gaj (s,t,SValue.eta v) >>=fun r_5=>
 some r_5.1
 else
 if decide (x0.Kind=8)=true then
 g4k ([],v.Items,(v.Items.length:Int),0,s.Types,SValue.eta v,x0) >>=fun o_3=>
 some o_3
 else
 gaj (s,t,SValue.eta v) >>=fun r_8=>
 some r_8.1
 else none
  partial_fixpoint
def g5s(x_:List UInt8 × List SMember × Int × Int × List SType × SValue) :Option (List UInt8):=
 match x_ with
 | (out_4,t36,t37_1,t38,b,b_1)=>
 if decide (t38 < t37_1)=true then
 if inR t38 t36.length=true then
 some (t36.getD t38.toNat dSMember) >>=fun x0_3=>
 if inR t38 b_1.Items.length=true then
 g4s ((⟨x0_3.ID,x0_3.Name,x0_3.Type_,x0_3.Critical,x0_3.HasDefault,SValue.eta x0_3.Default⟩:SMember),SValue.eta (b_1.Items.getD t38.toNat dSValue)) >>=fun r_11=>
 if(!r_11)=true then
 if inR t38 b_1.Items.length=true then
 g29 ((⟨b⟩:SSchema),x0_3.Type_,SValue.eta (b_1.Items.getD t38.toNat dSValue)) >>=fun r_12=>
 ghs (x0_3.ID,x0_3.Critical,r_12) >>=fun r_13=>
 if decide (out_4.length+r_13.1.length≤g2x)=true then
 g5s (out_4++r_13.1,t36,t37_1,addI .i64 t38 1,b,SValue.eta b_1)
 else none
 else none
 else
 g5s (out_4,t36,t37_1,addI .i64 t38 1,b,SValue.eta b_1)
 else none
 else none
 else
 some out_4
  partial_fixpoint
def g7n(x_:List UInt8 × List SValue × Int × Int × List SType × SType) :Option (List UInt8):=
 match x_ with
 | (out_5,t101,t102_1,t103,b_2,b_3)=>
 if decide (t103 < t102_1)=true then
 if inR t103 t101.length=true then
 g29 ((⟨b_2⟩:SSchema),b_3.Elem,SValue.eta (t101.getD t103.toNat dSValue)) >>=fun r_16=>
 if decide ([1].length+r_16.length≤g2x)=true then
 g7n ([1]++r_16,t101,t102_1,addI .i64 t103 1,b_2,b_3)
 else none
 else none
 else
 some out_5
  partial_fixpoint
def g4k(x_:List UInt8 × List SValue × Int × Int × List SType × SValue × SType) :Option (List UInt8):=
 match x_ with
 | (out_6,t118,t119_2,t120,b_4,b_5,b_6)=>
 if decide (t120 < t119_2)=true then
 if inR t120 t118.length=true then
 some (t118.getD t120.toNat dSValue) >>=fun x0_7=>
 if decide (b_6.Kind=8)=true then
 if inR t120 b_5.Keys.length=true then
 g29 ((⟨b_4⟩:SSchema),b_6.Key,SValue.eta (b_5.Keys.getD t120.toNat dSValue)) >>=fun r_17=>
 g8d r_17 >>=fun r_18=>
 if decide (out_6.length+r_18.length≤g2x)=true then
 some (out_6++r_18) >>=fun t139=>
 g29 ((⟨b_4⟩:SSchema),b_6.Elem,SValue.eta x0_7) >>=fun r_19=>
 g8d r_19 >>=fun r_20=>
 if decide (t139.length+r_20.length≤g2x)=true then
 g4k (t139++r_20,t118,t119_2,addI .i64 t120 1,b_4,SValue.eta b_5,b_6)
 else none
 else none
 else none
 else
 g29 ((⟨b_4⟩:SSchema),b_6.Elem,SValue.eta x0_7) >>=fun r_21=>
 g8d r_21 >>=fun r_22=>
 if decide (out_6.length+r_22.length≤g2x)=true then
 g4k (out_6++r_22,t118,t119_2,addI .i64 t120 1,b_4,SValue.eta b_5,b_6)
 else none
 else none
 else
 some out_6
  partial_fixpoint
end
theorem geg :KC e106:= .m (by kernel_rfl)
theorem gg4 :(∀h r,g29 h=some r→FD e106 h r)∧(∀h r,g4k h=some r→LD 106 0 [2] ghn h r)∧(∀h r,g7n h=some r→LD 106 0 [1] ghm h r)∧(∀h r,g5s h=some r→LD 106 0 [0] ghl h r):=g29.mutual_partial_correctness (FD e106) (LD 106 0 [2] ghn) (LD 106 0 [1] ghm) (LD 106 0 [0] ghl)
 (fun _ _ _ _ h0 h1 h2 h3 _ _ h=>FA e106 geg (.k g45 (.k g7l (.k (FH e106 geg h0) (.k gli .n)))) (.k (LH ghl h3) (.k (LH ghm h2) (.k (LH ghn h1) .n))) (.trans (by kernel_rfl) h))
 (fun _ _ h0 h1 _ _ h=>LA ghn h1 (.k (FH e106 geg h0) (.k glj .n)) .n (.trans (by kernel_rfl) h))
 (fun _ _ h0 h2 _ _ h=>LA ghm h2 (.k (FH e106 geg h0) .n) .n (.trans (by kernel_rfl) h))
 (fun _ _ h0 h3 _ _ h=>LA ghl h3 (.k g73 (.k (FH e106 geg h0) (.k gma .n))) .n (.trans (by kernel_rfl) h))
theorem gaq :FC e106 g29:= .of geg gg4.1
def g2z(x_:List SMember × Int × Int × List SType × List SType × List Int × SValue × SType × Int × Bool × Int × List UInt8 × Int × Int × Bool × Int × List UInt8 × Int × List Int × List SValue × List SRaw) :Option ((Bool × List SType × List SType × SValue × List Int × List Int) ⊕ (List SType × List SType × List Int × Int × Bool × Int × List UInt8 × Int × Int × Bool × Int × List UInt8 × Int × List Int × List SValue × List SRaw)):=
 match x_ with
 | (t115,t116_1,t117,b_66,b_67,b_68,b_69,b_70,b_71,b_72,b_73,b_74,b_75,b_76,b_77,b_78,b_79,b_80,b_81,b_82,b_83)=>
 if decide (t117 < t116_1)=true then
 if inR t117 t115.length=true then
 some (t115.getD t117.toNat dSMember) >>=fun x0_6=>
 g1o (b_70,x0_6.ID) >>=fun r_27=>
 if r_27.2=true then
 g2z (t115,t116_1,addI .i64 t117 1,b_66,b_67,b_68,SValue.eta b_69,b_70,b_71,b_72,b_73,b_74,b_75,b_76,b_77,b_78,b_79,b_80,b_81,b_82,b_83)
 else
 if x0_6.Critical=true then
 g5b (x0_6.ID,b_66,b_67,b_68,b_81) >>=fun r_30=>
 some (.inl (r_30.2.1,r_30.2.2.1,r_30.2.2.2.1,SValue.eta r_30.1,r_30.2.2.2.2.1,r_30.2.2.2.2.2))
 else
 if inR t117 b_69.Items.length=true then
 g4s ((⟨x0_6.ID,x0_6.Name,x0_6.Type_,x0_6.Critical,x0_6.HasDefault,SValue.eta x0_6.Default⟩:SMember),SValue.eta (b_69.Items.getD t117.toNat dSValue)) >>=fun r_37=>
 if(!r_37)=true then
 if inR t117 b_69.Items.length=true then
 g29 ((⟨b_66⟩:SSchema),x0_6.Type_,SValue.eta (b_69.Items.getD t117.toNat dSValue)) >>=fun r_38=>
 some [(⟨x0_6.ID,r_38⟩:SRaw)] >>=fun t163=>
 if room 24 (b_83++t163).length=true then
 g2z (t115,t116_1,addI .i64 t117 1,b_66,b_67,b_68,SValue.eta b_69,b_70,b_71,b_72,b_73,b_74,b_75,b_76,b_77,b_78,b_79,b_80,b_81,b_82,b_83++t163)
 else none
 else none
 else
 g2z (t115,t116_1,addI .i64 t117 1,b_66,b_67,b_68,SValue.eta b_69,b_70,b_71,b_72,b_73,b_74,b_75,b_76,b_77,b_78,b_79,b_80,b_81,b_82,b_83)
 else none
 else none
 else
 some (.inr (b_66,b_67,b_68,b_71,b_72,b_73,b_74,b_75,b_76,b_77,b_78,b_79,b_80,b_81,b_82,b_83))
  partial_fixpoint
theorem gc4 :LC 65 2 [1] e65_1 g2z:= .rc g2z.partial_correctness (.k g45 (.k g8k (.k g73 (.k gaq .n)))) .n fun _ _=>by kernel_rfl
mutual
def g4t(x_:Int × Int × SValue × Int × List SType × List SType × List Int × List Int) :Option (SValue × Bool × List SType × List SType × List Int × List Int):=
 match x_ with
 | (step,wt,v,rt,b,b_1,b_2,b_3)=>
 some [step] >>=fun t20=>
 if room 8 (b_3++t20).length=true then
 g4u (wt,SValue.eta v,rt,b,b_1,b_2,b_3++t20) >>=fun r=>
 some (subI .i64 (r.2.2.2.2.2.length:Int) 1) >>=fun t42=>
 if slR 0 t42 r.2.2.2.2.2.length=true then
 if decide (t42.toNat≤r.2.2.2.2.2.length)=true then
 some (SValue.eta r.1,r.2.1,r.2.2.1,r.2.2.2.1,r.2.2.2.2.1,r.2.2.2.2.2.take t42.toNat)
 else none
 else none
 else none
  partial_fixpoint
def gi(x_:Int × List SValue × Int × List SType × List SType × List Int × List Int) :Option (List SValue × Bool × List SType × List SType × List Int × List Int):=
 match x_ with
 | (wt,l,rt,b,b_1,b_2,b_3)=>
 g6g (wt,rt,l,(l.length:Int),0,b,b_1,b_2,[],b_3) >>=fun o=>
 match o with
 | .inl o_1=>
 some ([],o_1.1,o_1.2.1,o_1.2.2.1,o_1.2.2.2.1,o_1.2.2.2.2)
 | .inr o_2=>
 some (o_2.2.2.2.1,true,o_2.1,o_2.2.1,o_2.2.2.1,o_2.2.2.2.2)
  partial_fixpoint
def g4u(x_:Int × SValue × Int × List SType × List SType × List Int × List Int) :Option (SValue × Bool × List SType × List SType × List Int × List Int):=
 match x_ with
 | (wt,v,rt,b,b_1,b_2,b_3)=>
 if inR wt b.length=true then
 some (b.getD wt.toNat dSType) >>=fun x0=>
 if inR rt b_1.length=true then
 some (b_1.getD rt.toNat dSType) >>=fun x0_1=>
 if(!(decide (x0.Kind=x0_1.Kind)))=true then
 g31 (b,b_1,b_2,b_3) >>=fun r=>
 some (SValue.eta r.1,r.2.1,r.2.2.1,r.2.2.2.1,r.2.2.2.2.2,r.2.2.2.2.1)
 else
 if decide (x0.Kind=2)=true then
 if(!(bif decide (x0_1.Low≤v.Int_)then decide (v.Int_≤x0_1.High)else false))=true then
 g31 (b,b_1,b_2,b_3) >>=fun r_7=>
 some (SValue.eta r_7.1,r_7.2.1,r_7.2.2.1,r_7.2.2.2.1,r_7.2.2.2.2.2,r_7.2.2.2.2.1)
 else
 if decide (x0.Kind=5)=true then
 g2f (x0,SValue.eta v,x0_1,b,b_1,b_2,b_3) >>=fun r_14=>
 some (SValue.eta r_14.1,r_14.2.1,r_14.2.2.1,r_14.2.2.2.1,r_14.2.2.2.2.1,r_14.2.2.2.2.2)
 else
 if decide (x0.Kind=6)=true then
 g2t (x0,SValue.eta v,x0_1,b,b_1,b_2,b_3) >>=fun r_21=>
 some (SValue.eta r_21.1,r_21.2.1,r_21.2.2.1,r_21.2.2.2.1,r_21.2.2.2.2.1,r_21.2.2.2.2.2)
 else
 if decide (x0.Kind=8)=true then
 gi (x0.Key,v.Keys,x0_1.Key,b,b_1,b_2,b_3) >>=fun r_28=>
 if(!r_28.2.1)=true then
 some ((⟨0,false,0,[],0,[],[],[]⟩:SValue),false,r_28.2.2.1,r_28.2.2.2.1,r_28.2.2.2.2.1,r_28.2.2.2.2.2)
 else
 gi (x0.Elem,v.Items,x0_1.Elem,r_28.2.2.1,r_28.2.2.2.1,r_28.2.2.2.2.1,r_28.2.2.2.2.2) >>=fun r_35=>
 if(!r_35.2.1)=true then
 some ((⟨0,false,0,[],0,[],[],[]⟩:SValue),false,r_35.2.2.1,r_35.2.2.2.1,r_35.2.2.2.2.1,r_35.2.2.2.2.2)
 else
 some ((⟨v.Kind,v.Bool_,v.Int_,v.Str,v.ID,r_28.1,r_35.1,[]⟩:SValue),true,r_35.2.2.1,r_35.2.2.2.1,r_35.2.2.2.2.1,r_35.2.2.2.2.2)
 else
 gi (x0.Elem,v.Items,x0_1.Elem,b,b_1,b_2,b_3) >>=fun r_42=>
 if(!r_42.2.1)=true then
 some ((⟨0,false,0,[],0,[],[],[]⟩:SValue),false,r_42.2.2.1,r_42.2.2.2.1,r_42.2.2.2.2.1,r_42.2.2.2.2.2)
 else
 some ((⟨v.Kind,v.Bool_,v.Int_,v.Str,v.ID,[],r_42.1,[]⟩:SValue),true,r_42.2.2.1,r_42.2.2.2.1,r_42.2.2.2.2.1,r_42.2.2.2.2.2)
 else
 if decide (x0.Kind=3)=true then
 if(!(decide ((v.Str.length:Int)≤x0_1.Max)))=true then
 g31 (b,b_1,b_2,b_3) >>=fun r_49=>
 some (SValue.eta r_49.1,r_49.2.1,r_49.2.2.1,r_49.2.2.2.1,r_49.2.2.2.2.2,r_49.2.2.2.2.1)
 else
 if decide (x0.Kind=5)=true then
 g2f (x0,SValue.eta v,x0_1,b,b_1,b_2,b_3) >>=fun r_56=>
 some (SValue.eta r_56.1,r_56.2.1,r_56.2.2.1,r_56.2.2.2.1,r_56.2.2.2.2.1,r_56.2.2.2.2.2)
 else
 if decide (x0.Kind=6)=true then
 g2t (x0,SValue.eta v,x0_1,b,b_1,b_2,b_3) >>=fun r_63=>
 some (SValue.eta r_63.1,r_63.2.1,r_63.2.2.1,r_63.2.2.2.1,r_63.2.2.2.2.1,r_63.2.2.2.2.2)
 else
 if decide (x0.Kind=8)=true then
 gi (x0.Key,v.Keys,x0_1.Key,b,b_1,b_2,b_3) >>=fun r_70=>
 if(!r_70.2.1)=true then
 some ((⟨0,false,0,[],0,[],[],[]⟩:SValue),false,r_70.2.2.1,r_70.2.2.2.1,r_70.2.2.2.2.1,r_70.2.2.2.2.2)
 else
 gi (x0.Elem,v.Items,x0_1.Elem,r_70.2.2.1,r_70.2.2.2.1,r_70.2.2.2.2.1,r_70.2.2.2.2.2) >>=fun r_77=>
 if(!r_77.2.1)=true then
 some ((⟨0,false,0,[],0,[],[],[]⟩:SValue),false,r_77.2.2.1,r_77.2.2.2.1,r_77.2.2.2.2.1,r_77.2.2.2.2.2)
 else
 some ((⟨v.Kind,v.Bool_,v.Int_,v.Str,v.ID,r_70.1,r_77.1,[]⟩:SValue),true,r_77.2.2.1,r_77.2.2.2.1,r_77.2.2.2.2.1,r_77.2.2.2.2.2)
 else
 gi (x0.Elem,v.Items,x0_1.Elem,b,b_1,b_2,b_3) >>=fun r_84=>
 if(!r_84.2.1)=true then
 some ((⟨0,false,0,[],0,[],[],[]⟩:SValue),false,r_84.2.2.1,r_84.2.2.2.1,r_84.2.2.2.2.1,r_84.2.2.2.2.2)
 else
 some ((⟨v.Kind,v.Bool_,v.Int_,v.Str,v.ID,[],r_84.1,[]⟩:SValue),true,r_84.2.2.1,r_84.2.2.2.1,r_84.2.2.2.2.1,r_84.2.2.2.2.2)
 else
 if decide (x0.Kind=4)=true then
 g6s (x0_1,v.ID) >>=fun r_91=>
 if(!(bif r_91.2 then true else x0_1.Open))=true then
 g31 (b,b_1,b_2,b_3) >>=fun r_94=>
 some (SValue.eta r_94.1,r_94.2.1,r_94.2.2.1,r_94.2.2.2.1,r_94.2.2.2.2.2,r_94.2.2.2.2.1)
 else
 if decide (x0.Kind=5)=true then
 g2f (x0,SValue.eta v,x0_1,b,b_1,b_2,b_3) >>=fun r_101=>
 some (SValue.eta r_101.1,r_101.2.1,r_101.2.2.1,r_101.2.2.2.1,r_101.2.2.2.2.1,r_101.2.2.2.2.2)
 else
 if decide (x0.Kind=6)=true then
 g2t (x0,SValue.eta v,x0_1,b,b_1,b_2,b_3) >>=fun r_108=>
 some (SValue.eta r_108.1,r_108.2.1,r_108.2.2.1,r_108.2.2.2.1,r_108.2.2.2.2.1,r_108.2.2.2.2.2)
 else
 if decide (x0.Kind=8)=true then
 gi (x0.Key,v.Keys,x0_1.Key,b,b_1,b_2,b_3) >>=fun r_115=>
 if(!r_115.2.1)=true then
 some ((⟨0,false,0,[],0,[],[],[]⟩:SValue),false,r_115.2.2.1,r_115.2.2.2.1,r_115.2.2.2.2.1,r_115.2.2.2.2.2)
 else
 gi (x0.Elem,v.Items,x0_1.Elem,r_115.2.2.1,r_115.2.2.2.1,r_115.2.2.2.2.1,r_115.2.2.2.2.2) >>=fun r_122=>
 if(!r_122.2.1)=true then
 some ((⟨0,false,0,[],0,[],[],[]⟩:SValue),false,r_122.2.2.1,r_122.2.2.2.1,r_122.2.2.2.2.1,r_122.2.2.2.2.2)
 else
 some ((⟨v.Kind,v.Bool_,v.Int_,v.Str,v.ID,r_115.1,r_122.1,[]⟩:SValue),true,r_122.2.2.1,r_122.2.2.2.1,r_122.2.2.2.2.1,r_122.2.2.2.2.2)
 else
 gi (x0.Elem,v.Items,x0_1.Elem,b,b_1,b_2,b_3) >>=fun r_129=>
 if(!r_129.2.1)=true then
 some ((⟨0,false,0,[],0,[],[],[]⟩:SValue),false,r_129.2.2.1,r_129.2.2.2.1,r_129.2.2.2.2.1,r_129.2.2.2.2.2)
 else
 some ((⟨v.Kind,v.Bool_,v.Int_,v.Str,v.ID,[],r_129.1,[]⟩:SValue),true,r_129.2.2.1,r_129.2.2.2.1,r_129.2.2.2.2.1,r_129.2.2.2.2.2)
 else
 some (decide (x0.Kind=7)) >>=fun t91=>
 if t91=true then
 if t91=true then
 if(!(decide ((v.Items.length:Int)≤x0_1.Max)))=true then
 g31 (b,b_1,b_2,b_3) >>=fun r_136=>
 some (SValue.eta r_136.1,r_136.2.1,r_136.2.2.1,r_136.2.2.2.1,r_136.2.2.2.2.2,r_136.2.2.2.2.1)
 else
 if decide (x0.Kind=5)=true then
 g2f (x0,SValue.eta v,x0_1,b,b_1,b_2,b_3) >>=fun r_143=>
 some (SValue.eta r_143.1,r_143.2.1,r_143.2.2.1,r_143.2.2.2.1,r_143.2.2.2.2.1,r_143.2.2.2.2.2)
 else
 if decide (x0.Kind=6)=true then
 g2t (x0,SValue.eta v,x0_1,b,b_1,b_2,b_3) >>=fun r_150=>
 some (SValue.eta r_150.1,r_150.2.1,r_150.2.2.1,r_150.2.2.2.1,r_150.2.2.2.2.1,r_150.2.2.2.2.2)
 else
 if decide (x0.Kind=8)=true then
 gi (x0.Key,v.Keys,x0_1.Key,b,b_1,b_2,b_3) >>=fun r_157=>
 if(!r_157.2.1)=true then
 some ((⟨0,false,0,[],0,[],[],[]⟩:SValue),false,r_157.2.2.1,r_157.2.2.2.1,r_157.2.2.2.2.1,r_157.2.2.2.2.2)
 else
 gi (x0.Elem,v.Items,x0_1.Elem,r_157.2.2.1,r_157.2.2.2.1,r_157.2.2.2.2.1,r_157.2.2.2.2.2) >>=fun r_164=>
 if(!r_164.2.1)=true then
 some ((⟨0,false,0,[],0,[],[],[]⟩:SValue),false,r_164.2.2.1,r_164.2.2.2.1,r_164.2.2.2.2.1,r_164.2.2.2.2.2)
 else
 some ((⟨v.Kind,v.Bool_,v.Int_,v.Str,v.ID,r_157.1,r_164.1,[]⟩:SValue),true,r_164.2.2.1,r_164.2.2.2.1,r_164.2.2.2.2.1,r_164.2.2.2.2.2)
 else
 gi (x0.Elem,v.Items,x0_1.Elem,b,b_1,b_2,b_3) >>=fun r_171=>
 if(!r_171.2.1)=true then
 some ((⟨0,false,0,[],0,[],[],[]⟩:SValue),false,r_171.2.2.1,r_171.2.2.2.1,r_171.2.2.2.2.1,r_171.2.2.2.2.2)
 else
 some ((⟨v.Kind,v.Bool_,v.Int_,v.Str,v.ID,[],r_171.1,[]⟩:SValue),true,r_171.2.2.1,r_171.2.2.2.1,r_171.2.2.2.2.1,r_171.2.2.2.2.2)
 else
 if decide (x0.Kind=5)=true then
 g2f (x0,SValue.eta v,x0_1,b,b_1,b_2,b_3) >>=fun r_178=>
 some (SValue.eta r_178.1,r_178.2.1,r_178.2.2.1,r_178.2.2.2.1,r_178.2.2.2.2.1,r_178.2.2.2.2.2)
 else
 if decide (x0.Kind=6)=true then
 g2t (x0,SValue.eta v,x0_1,b,b_1,b_2,b_3) >>=fun r_185=>
 some (SValue.eta r_185.1,r_185.2.1,r_185.2.2.1,r_185.2.2.2.1,r_185.2.2.2.2.1,r_185.2.2.2.2.2)
 else
 if decide (x0.Kind=8)=true then
 gi (x0.Key,v.Keys,x0_1.Key,b,b_1,b_2,b_3) >>=fun r_192=>
 if(!r_192.2.1)=true then
 some ((⟨0,false,0,[],0,[],[],[]⟩:SValue),false,r_192.2.2.1,r_192.2.2.2.1,r_192.2.2.2.2.1,r_192.2.2.2.2.2)
 else
 gi (x0.Elem,v.Items,x0_1.Elem,r_192.2.2.1,r_192.2.2.2.1,r_192.2.2.2.2.1,r_192.2.2.2.2.2) >>=fun r_199=>
 if(!r_199.2.1)=true then
 some ((⟨0,false,0,[],0,[],[],[]⟩:SValue),false,r_199.2.2.1,r_199.2.2.2.1,r_199.2.2.2.2.1,r_199.2.2.2.2.2)
 else
 some ((⟨v.Kind,v.Bool_,v.Int_,v.Str,v.ID,r_192.1,r_199.1,[]⟩:SValue),true,r_199.2.2.1,r_199.2.2.2.1,r_199.2.2.2.2.1,r_199.2.2.2.2.2)
 else
 gi (x0.Elem,v.Items,x0_1.Elem,b,b_1,b_2,b_3) >>=fun r_206=>
 if(!r_206.2.1)=true then
 some ((⟨0,false,0,[],0,[],[],[]⟩:SValue),false,r_206.2.2.1,r_206.2.2.2.1,r_206.2.2.2.2.1,r_206.2.2.2.2.2)
 else
 some ((⟨v.Kind,v.Bool_,v.Int_,v.Str,v.ID,[],r_206.1,[]⟩:SValue),true,r_206.2.2.1,r_206.2.2.2.1,r_206.2.2.2.2.1,r_206.2.2.2.2.2)
 else
 if decide (x0.Kind=8)=true then
 if(!(decide ((v.Items.length:Int)≤x0_1.Max)))=true then
 g31 (b,b_1,b_2,b_3) >>=fun r_213=>
 some (SValue.eta r_213.1,r_213.2.1,r_213.2.2.1,r_213.2.2.2.1,r_213.2.2.2.2.2,r_213.2.2.2.2.1)
 else
 if decide (x0.Kind=5)=true then
 g2f (x0,SValue.eta v,x0_1,b,b_1,b_2,b_3) >>=fun r_220=>
 some (SValue.eta r_220.1,r_220.2.1,r_220.2.2.1,r_220.2.2.2.1,r_220.2.2.2.2.1,r_220.2.2.2.2.2)
 else
 if decide (x0.Kind=6)=true then
 g2t (x0,SValue.eta v,x0_1,b,b_1,b_2,b_3) >>=fun r_227=>
 some (SValue.eta r_227.1,r_227.2.1,r_227.2.2.1,r_227.2.2.2.1,r_227.2.2.2.2.1,r_227.2.2.2.2.2)
 else
 if decide (x0.Kind=8)=true then
 gi (x0.Key,v.Keys,x0_1.Key,b,b_1,b_2,b_3) >>=fun r_234=>
 if(!r_234.2.1)=true then
 some ((⟨0,false,0,[],0,[],[],[]⟩:SValue),false,r_234.2.2.1,r_234.2.2.2.1,r_234.2.2.2.2.1,r_234.2.2.2.2.2)
 else
 gi (x0.Elem,v.Items,x0_1.Elem,r_234.2.2.1,r_234.2.2.2.1,r_234.2.2.2.2.1,r_234.2.2.2.2.2) >>=fun r_241=>
 if(!r_241.2.1)=true then
 some ((⟨0,false,0,[],0,[],[],[]⟩:SValue),false,r_241.2.2.1,r_241.2.2.2.1,r_241.2.2.2.2.1,r_241.2.2.2.2.2)
 else
 some ((⟨v.Kind,v.Bool_,v.Int_,v.Str,v.ID,r_234.1,r_241.1,[]⟩:SValue),true,r_241.2.2.1,r_241.2.2.2.1,r_241.2.2.2.2.1,r_241.2.2.2.2.2)
 else
 gi (x0.Elem,v.Items,x0_1.Elem,b,b_1,b_2,b_3) >>=fun r_248=>
 if(!r_248.2.1)=true then
 some ((⟨0,false,0,[],0,[],[],[]⟩:SValue),false,r_248.2.2.1,r_248.2.2.2.1,r_248.2.2.2.2.1,r_248.2.2.2.2.2)
 else
 some ((⟨v.Kind,v.Bool_,v.Int_,v.Str,v.ID,[],r_248.1,[]⟩:SValue),true,r_248.2.2.1,r_248.2.2.2.1,r_248.2.2.2.2.1,r_248.2.2.2.2.2)
 else
 if decide (x0.Kind=5)=true then
 g2f (x0,SValue.eta v,x0_1,b,b_1,b_2,b_3) >>=fun r_255=>
 some (SValue.eta r_255.1,r_255.2.1,r_255.2.2.1,r_255.2.2.2.1,r_255.2.2.2.2.1,r_255.2.2.2.2.2)
 else
 if decide (x0.Kind=6)=true then
 g2t (x0,SValue.eta v,x0_1,b,b_1,b_2,b_3) >>=fun r_262=>
 some (SValue.eta r_262.1,r_262.2.1,r_262.2.2.1,r_262.2.2.2.1,r_262.2.2.2.2.1,r_262.2.2.2.2.2)
 else
 if decide (x0.Kind=8)=true then
 gi (x0.Key,v.Keys,x0_1.Key,b,b_1,b_2,b_3) >>=fun r_269=>
 if(!r_269.2.1)=true then
 some ((⟨0,false,0,[],0,[],[],[]⟩:SValue),false,r_269.2.2.1,r_269.2.2.2.1,r_269.2.2.2.2.1,r_269.2.2.2.2.2)
 else
 gi (x0.Elem,v.Items,x0_1.Elem,r_269.2.2.1,r_269.2.2.2.1,r_269.2.2.2.2.1,r_269.2.2.2.2.2) >>=fun r_276=>
 if(!r_276.2.1)=true then
 some ((⟨0,false,0,[],0,[],[],[]⟩:SValue),false,r_276.2.2.1,r_276.2.2.2.1,r_276.2.2.2.2.1,r_276.2.2.2.2.2)
 else
 some ((⟨v.Kind,v.Bool_,v.Int_,v.Str,v.ID,r_269.1,r_276.1,[]⟩:SValue),true,r_276.2.2.1,r_276.2.2.2.1,r_276.2.2.2.2.1,r_276.2.2.2.2.2)
 else
 gi (x0.Elem,v.Items,x0_1.Elem,b,b_1,b_2,b_3) >>=fun r_283=>
 if(!r_283.2.1)=true then
 some ((⟨0,false,0,[],0,[],[],[]⟩:SValue),false,r_283.2.2.1,r_283.2.2.2.1,r_283.2.2.2.2.1,r_283.2.2.2.2.2)
 else
 some ((⟨v.Kind,v.Bool_,v.Int_,v.Str,v.ID,[],r_283.1,[]⟩:SValue),true,r_283.2.2.1,r_283.2.2.2.1,r_283.2.2.2.2.1,r_283.2.2.2.2.2)
 else none
 else none
  partial_fixpoint
def g2f(x_:SType × SValue × SType × List SType × List SType × List Int × List Int) :Option (SValue × Bool × List SType × List SType × List Int × List Int):=
 match x_ with
 | (x0,v,y,b,b_1,b_2,b_3)=>
 g4i (y.Members,(y.Members.length:Int),0,b,b_1,b_2,x0,SValue.eta v,y,0,false,0,[],0,v.Kind,false,0,[],0,b_3,[]) >>=fun o=>
 match o with
 | .inl o_1=>
 some (SValue.eta o_1.2.2.2.2.1,o_1.1,o_1.2.1,o_1.2.2.1,o_1.2.2.2.1,o_1.2.2.2.2.2)
 | .inr o_2=>
 g2z (o_2.2.2.2.1.Members,(o_2.2.2.2.1.Members.length:Int),0,o_2.1,o_2.2.1,o_2.2.2.1,SValue.eta o_2.2.2.2.2.1,o_2.2.2.2.2.2.1,o_2.2.2.2.2.2.2.1,o_2.2.2.2.2.2.2.2.1,o_2.2.2.2.2.2.2.2.2.1,o_2.2.2.2.2.2.2.2.2.2.1,o_2.2.2.2.2.2.2.2.2.2.2.1,o_2.2.2.2.2.2.2.2.2.2.2.2.1,o_2.2.2.2.2.2.2.2.2.2.2.2.2.1,o_2.2.2.2.2.2.2.2.2.2.2.2.2.2.1,o_2.2.2.2.2.2.2.2.2.2.2.2.2.2.2.1,o_2.2.2.2.2.2.2.2.2.2.2.2.2.2.2.2.1,o_2.2.2.2.2.2.2.2.2.2.2.2.2.2.2.2.2.1,o_2.2.2.2.2.2.2.2.2.2.2.2.2.2.2.2.2.2,[]) >>=fun o_3=>
 match o_3 with
 | .inl o_4=>
 some (SValue.eta o_4.2.2.2.1,o_4.1,o_4.2.1,o_4.2.2.1,o_4.2.2.2.2.2,o_4.2.2.2.2.1)
 | .inr o_5=>
 some ((⟨o_5.2.2.2.2.2.2.2.2.1,o_5.2.2.2.2.2.2.2.2.2.1,o_5.2.2.2.2.2.2.2.2.2.2.1,o_5.2.2.2.2.2.2.2.2.2.2.2.1,o_5.2.2.2.2.2.2.2.2.2.2.2.2.1,[],o_5.2.2.2.2.2.2.2.2.2.2.2.2.2.2.1,o_5.2.2.2.2.2.2.2.2.2.2.2.2.2.2.2⟩:SValue),true,o_5.1,o_5.2.1,o_5.2.2.1,o_5.2.2.2.2.2.2.2.2.2.2.2.2.2.1)
  partial_fixpoint
def g2t(x_:SType × SValue × SType × List SType × List SType × List Int × List Int) :Option (SValue × Bool × List SType × List SType × List Int × List Int):=
 match x_ with
 | (x0,v,y,b,b_1,b_2,b_3)=>
 g1o (x0,v.ID) >>=fun r=>
 g1o (y,v.ID) >>=fun r_3=>
 if r_3.2=true then
 if inR r.1 x0.Members.length=true then
 if inR 0 v.Items.length=true then
 if inR r_3.1 y.Members.length=true then
 g4t (v.ID,(x0.Members.getD r.1.toNat dSMember).Type_,SValue.eta (v.Items.getD (0:Int).toNat dSValue),(y.Members.getD r_3.1.toNat dSMember).Type_,b,b_1,b_2,b_3) >>=fun r_6=>
 if(!r_6.2.1)=true then
 some ((⟨0,false,0,[],0,[],[],[]⟩:SValue),false,r_6.2.2.1,r_6.2.2.2.1,r_6.2.2.2.2.1,r_6.2.2.2.2.2)
 else
 some ((⟨v.Kind,false,0,[],v.ID,[],[SValue.eta r_6.1],[]⟩:SValue),true,r_6.2.2.1,r_6.2.2.2.1,r_6.2.2.2.2.1,r_6.2.2.2.2.2)
 else none
 else none
 else none
 else
 if(!y.Open)=true then
 g31 (b,b_1,b_2,b_3) >>=fun r_13=>
 some (SValue.eta r_13.1,r_13.2.1,r_13.2.2.1,r_13.2.2.2.1,r_13.2.2.2.2.2,r_13.2.2.2.2.1)
 else
 if inR r.1 x0.Members.length=true then
 if inR 0 v.Items.length=true then
 g29 ((⟨b⟩:SSchema),(x0.Members.getD r.1.toNat dSMember).Type_,SValue.eta (v.Items.getD (0:Int).toNat dSValue)) >>=fun r_20=>
 some ((⟨v.Kind,false,0,[],v.ID,[],[],[(⟨v.ID,r_20⟩:SRaw)]⟩:SValue),true,b,b_1,b_2,b_3)
 else none
 else none
  partial_fixpoint
def g6g(x_:Int × Int × List SValue × Int × Int × List SType × List SType × List Int × List SValue × List Int) :Option ((Bool × List SType × List SType × List Int × List Int) ⊕ (List SType × List SType × List Int × List SValue × List Int)):=
 match x_ with
 | (wt_1,rt_1,t15,t16_1,t17,b_13,b_14,b_15,b_16,b_17)=>
 if decide (t17 < t16_1)=true then
 if inR t17 t15.length=true then
 g4t (t17,wt_1,SValue.eta (t15.getD t17.toNat dSValue),rt_1,b_13,b_14,b_15,b_17) >>=fun r=>
 if(!r.2.1)=true then
 some (.inl (false,r.2.2.1,r.2.2.2.1,r.2.2.2.2.1,r.2.2.2.2.2))
 else
 some [SValue.eta r.1] >>=fun t35=>
 if room 120 (b_16++t35).length=true then
 g6g (wt_1,rt_1,t15,t16_1,addI .i64 t17 1,r.2.2.1,r.2.2.2.1,r.2.2.2.2.1,b_16++t35,r.2.2.2.2.2)
 else none
 else none
 else
 some (.inr (b_13,b_14,b_15,b_16,b_17))
  partial_fixpoint
def g4i(x_:List SMember × Int × Int × List SType × List SType × List Int × SType × SValue × SType × Int × Bool × Int × List UInt8 × Int × Int × Bool × Int × List UInt8 × Int × List Int × List SValue) :Option ((Bool × List SType × List SType × List Int × SValue × List Int) ⊕ (List SType × List SType × List Int × SType × SValue × SType × Int × Bool × Int × List UInt8 × Int × Int × Bool × Int × List UInt8 × Int × List Int × List SValue)):=
 match x_ with
 | (t25,t26_1,t27,b_48,b_49,b_50,b_51,b_52,b_53,b_54,b_55,b_56,b_57,b_58,b_59,b_60,b_61,b_62,b_63,b_64,b_65)=>
 if decide (t27 < t26_1)=true then
 if inR t27 t25.length=true then
 some (t25.getD t27.toNat dSMember) >>=fun x0_1=>
 g1o (b_51,x0_1.ID) >>=fun r=>
 if(!r.2)=true then
 if(!x0_1.HasDefault)=true then
 g5b (x0_1.ID,b_48,b_49,b_50,b_64) >>=fun r_3=>
 some (.inl (r_3.2.1,r_3.2.2.1,r_3.2.2.2.1,r_3.2.2.2.2.2,SValue.eta r_3.1,r_3.2.2.2.2.1))
 else
 g54 (SValue.eta x0_1.Default) >>=fun r_10=>
 some [SValue.eta r_10] >>=fun t54=>
 if room 120 (b_65++t54).length=true then
 g4i (t25,t26_1,addI .i64 t27 1,b_48,b_49,b_50,b_51,SValue.eta b_52,b_53,b_54,b_55,b_56,b_57,b_58,b_59,b_60,b_61,b_62,b_63,b_64,b_65++t54)
 else none
 else
 if inR r.1 b_51.Members.length=true then
 if inR r.1 b_52.Items.length=true then
 g4t (x0_1.ID,(b_51.Members.getD r.1.toNat dSMember).Type_,SValue.eta (b_52.Items.getD r.1.toNat dSValue),x0_1.Type_,b_48,b_49,b_50,b_64) >>=fun r_11=>
 if inR r.1 b_51.Members.length=true then
 some (b_51.Members.getD r.1.toNat dSMember) >>=fun x0_4=>
 if inR r.1 b_52.Items.length=true then
 g4s ((⟨x0_4.ID,x0_4.Name,x0_4.Type_,x0_4.Critical,x0_4.HasDefault,SValue.eta x0_4.Default⟩:SMember),SValue.eta (b_52.Items.getD r.1.toNat dSValue)) >>=fun r_18=>
 some (!r_11.2.1) >>=fun t90=>
 (if(r_18 && (!t90))=true then g4s ((⟨x0_1.ID,x0_1.Name,x0_1.Type_,x0_1.Critical,x0_1.HasDefault,SValue.eta x0_1.Default⟩:SMember),SValue.eta r_11.1)else some false) >>=fun r_19=>
 if(bif r_18 then bif t90 then true else(!r_19)else false)=true then
 g5b (x0_1.ID,r_11.2.2.1,r_11.2.2.2.1,r_11.2.2.2.2.1,r_11.2.2.2.2.2) >>=fun r_20=>
 some (.inl (r_20.2.1,r_20.2.2.1,r_20.2.2.2.1,r_20.2.2.2.2.2,SValue.eta r_20.1,r_20.2.2.2.2.1))
 else
 if(!r_11.2.1)=true then
 some (.inl (false,r_11.2.2.1,r_11.2.2.2.1,r_11.2.2.2.2.1,(⟨0,false,0,[],0,[],[],[]⟩:SValue),r_11.2.2.2.2.2))
 else
 some [SValue.eta r_11.1] >>=fun t110=>
 if room 120 (b_65++t110).length=true then
 g4i (t25,t26_1,addI .i64 t27 1,r_11.2.2.1,r_11.2.2.2.1,r_11.2.2.2.2.1,b_51,SValue.eta b_52,b_53,b_54,b_55,b_56,b_57,b_58,b_59,b_60,b_61,b_62,b_63,r_11.2.2.2.2.2,b_65++t110)
 else none
 else none
 else none
 else none
 else none
 else none
 else
 some (.inr (b_48,b_49,b_50,b_51,SValue.eta b_52,b_53,b_54,b_55,b_56,b_57,b_58,b_59,b_60,b_61,b_62,b_63,b_64,b_65))
  partial_fixpoint
end
theorem glk :KC e104:= .m (by kernel_rfl)
theorem e38_k :KC e38:= .m (by kernel_rfl)
theorem e67_k :KC e67:= .m (by kernel_rfl)
theorem e66_k :KC e66:= .m (by kernel_rfl)
theorem e65_k :KC e65:= .m (by kernel_rfl)
theorem geh :(∀h r,g4t h=some r→FD e104 h r)∧(∀h r,g4u h=some r→FD e38 h r)∧(∀h r,gi h=some r→FD e67 h r)∧(∀h r,g6g h=some r→LD 67 2 [0] e67_0 h r)∧(∀h r,g2t h=some r→FD e66 h r)∧(∀h r,g2f h=some r→FD e65 h r)∧(∀h r,g4i h=some r→LD 65 2 [0] e65_0 h r):=g4t.mutual_partial_correctness (FD e104) (FD e38) (FD e67) (LD 67 2 [0] e67_0) (FD e66) (FD e65) (LD 65 2 [0] e65_0)
 (fun _ h1 _ _ h=>FA e104 glk (.k (FH e38 e38_k h1) .n) .n (.trans (by kernel_rfl) h))
 (fun _ _ _ h2 h4 h5 _ _ h=>FA e38 e38_k (.k g9e (.k (FH e65 e65_k h5) (.k (FH e66 e66_k h4) (.k (FH e67 e67_k h2) (.k gcr .n))))) .n (.trans (by kernel_rfl) h))
 (fun _ h3 _ _ h=>FA e67 e67_k .n (.k (LH e67_0 h3) .n) (.trans (by kernel_rfl) h))
 (fun _ _ h0 h3 _ _ h=>LA e67_0 h3 (.k (FH e104 glk h0) .n) .n (.trans (by kernel_rfl) h))
 (fun _ h0 _ _ h=>FA e66 e66_k (.k g45 (.k (FH e104 glk h0) (.k g9e (.k gaq .n)))) .n (.trans (by kernel_rfl) h))
 (fun _ h6 _ _ h=>FA e65 e65_k .n (.k (LH e65_0 h6) (.k gc4 .n)) (.trans (by kernel_rfl) h))
 (fun _ _ h0 h6 _ _ h=>LA e65_0 h6 (.k g45 (.k g8k (.k gjx (.k (FH e104 glk h0) (.k g73 .n))))) .n (.trans (by kernel_rfl) h))
theorem g9g :FC e38 g4u:= .of e38_k geh.2.1
end
section
open Go Go.Proofs.YtandcioiaooocaaGreat.Shv
open Tryz
set_option maxRecDepth 100000
def g4m(x_:SSchema × Int × SValue × SSchema × Int) :Option (SValue × Int):=
 match x_ with
 | (w,wt,v,r,rt)=>
 g5f (w,wt,SValue.eta v,r,rt) >>=fun r_1=>
 if(!(decide (r_1=0)))=true then
 some ((⟨0,false,0,[],0,[],[],[]⟩:SValue),r_1)
 else
 g4u (wt,SValue.eta v,rt,w.Types,r.Types,[],[]) >>=fun r_2=>
 if(!r_2.2.1)=true then
 some ((⟨0,false,0,[],0,[],[],[]⟩:SValue),12)
 else
 some (SValue.eta r_2.1,0)
theorem gar :FC e13 g4m:= .fn e13_k (.k gcu (.k g9g .n)) .n fun _=>by kernel_rfl
def g76(x_:SSchema × Int × SValue × SSchema × Int) :Option (List Int × Int):=
 match x_ with
 | (w,wt,v,r,rt)=>
 g5f (w,wt,SValue.eta v,r,rt) >>=fun r_1=>
 if(!(decide (r_1=0)))=true then
 some ([],r_1)
 else
 g4u (wt,SValue.eta v,rt,w.Types,r.Types,[],[]) >>=fun r_2=>
 if r_2.2.1=true then
 some ([],15)
 else
 some (r_2.2.2.2.2.1,0)
theorem gih :FC e17 g76:= .fn e17_k (.k gcu (.k g9g .n)) .n fun _=>by kernel_rfl
def g2g(x_:Int × Int × SValue) :Option (Int × SValue):=
 match x_ with
 | (n_4,i,b_2)=>
 if(bif decide (i < (b_2.Rest.length:Int))then decide (0≤n_4)else false)=true then
 if inR i b_2.Rest.length=true then
 g2g (subI .i64 n_4 ((b_2.Rest.getD i.toNat dSRaw).Data.length:Int),addI .i64 i 1,SValue.eta b_2)
 else none
 else
 some (n_4,SValue.eta b_2)
  partial_fixpoint
theorem gei :LC 44 0 [0] e44_0 g2g:= .rc g2g.partial_correctness .n .n fun _ _=>by kernel_rfl
mutual
def g2c(x_:SValue × Int) :Option (Int):=
 match x_ with
 | (v,n)=>
 g2g (subI .i64 n (addI .i64 (addI .i64 10 (v.Str.length:Int)) (v.Rest.length:Int)),0,SValue.eta v) >>=fun o=>
 g32 (o.1,0,SValue.eta o.2) >>=fun o_1=>
 g33 (o_1.1,0,SValue.eta o_1.2) >>=fun o_2=>
 some o_2
  partial_fixpoint
def g32(x_:Int × Int × SValue) :Option (Int × SValue):=
 match x_ with
 | (n_5,i_1,b_3)=>
 if(bif decide (i_1 < (b_3.Keys.length:Int))then decide (0≤n_5)else false)=true then
 if inR i_1 b_3.Keys.length=true then
 g2c (SValue.eta (b_3.Keys.getD i_1.toNat dSValue),n_5) >>=fun r=>
 g32 (r,addI .i64 i_1 1,SValue.eta b_3)
 else none
 else
 some (n_5,SValue.eta b_3)
  partial_fixpoint
def g33(x_:Int × Int × SValue) :Option (Int):=
 match x_ with
 | (n_6,i_2,b_4)=>
 if(bif decide (i_2 < (b_4.Items.length:Int))then decide (0≤n_6)else false)=true then
 if inR i_2 b_4.Items.length=true then
 g2c (SValue.eta (b_4.Items.getD i_2.toNat dSValue),n_6) >>=fun r_1=>
 g33 (r_1,addI .i64 i_2 1,SValue.eta b_4)
 else none
 else
 some n_6
  partial_fixpoint
end
theorem e44_k :KC e44:= .m (by kernel_rfl)
theorem gfk :(∀h r,g2c h=some r→FD e44 h r)∧(∀h r,g33 h=some r→LD 44 0 [2] e44_2 h r)∧(∀h r,g32 h=some r→LD 44 0 [1] e44_1 h r):=g2c.mutual_partial_correctness (FD e44) (LD 44 0 [2] e44_2) (LD 44 0 [1] e44_1)
 (fun _ _ h1 h2 _ _ h=>FA e44 e44_k .n (.k gei (.k (LH e44_1 h2) (.k (LH e44_2 h1) .n))) (.trans (by kernel_rfl) h))
 (fun _ _ h0 h1 _ _ h=>LA e44_2 h1 (.k (FH e44 e44_k h0) .n) .n (.trans (by kernel_rfl) h))
 (fun _ _ h0 h2 _ _ h=>LA e44_1 h2 (.k (FH e44 e44_k h0) .n) .n (.trans (by kernel_rfl) h))
theorem ght :FC e44 g2c:= .of e44_k gfk.1
def g60(v:SValue) :Option (Bool):=
 g2c (SValue.eta v,3000) >>=fun r=>
 some (decide (0≤r))
theorem e21_k :KC e21:= .m (by kernel_rfl)
theorem gg5 :FC e21 g60:= .fn e21_k (.k ght .n) .n fun _=>by kernel_rfl
def g1h(x_:Int × SValue × SValue) :Option ((Bool) ⊕ (SValue × SValue)):=
 match x_ with
 | (i,b_3,b_4)=>
 if decide (i < (b_3.Rest.length:Int))=true then
 if inR i b_3.Rest.length=true then
 some (b_3.Rest.getD i.toNat dSRaw) >>=fun x0=>
 if inR i b_4.Rest.length=true then
 some (b_4.Rest.getD i.toNat dSRaw) >>=fun x0_1=>
 if(!(eqI x0.ID x0_1.ID && (eqS x0.Data x0_1.Data && true)))=true then
 some (.inl false)
 else
 g1h (addI .i64 i 1,SValue.eta b_3,SValue.eta b_4)
 else none
 else none
 else
 some (.inr (SValue.eta b_3,SValue.eta b_4))
  partial_fixpoint
theorem gak :LC 40 0 [0] e40_0 g1h:= .rc g1h.partial_correctness .n .n fun _ _=>by kernel_rfl
mutual
def g1d(x_:SValue × SValue) :Option (Bool):=
 match x_ with
 | (a,b)=>
 if(bif bif bif bif bif (!(decide (a.Kind=b.Kind)))then true else(!(eqB a.Bool_ b.Bool_))then true else(!(decide (a.Int_=b.Int_)))then true else(!(decide (a.Str=b.Str)))then true else(!(decide (a.ID=b.ID)))then true else(!(decide ((a.Rest.length:Int)=(b.Rest.length:Int)))))=true then
 some false
 else
 g1h (0,(⟨a.Kind,a.Bool_,a.Int_,a.Str,a.ID,a.Keys,a.Items,a.Rest⟩:SValue),(⟨b.Kind,b.Bool_,b.Int_,b.Str,b.ID,b.Keys,b.Items,b.Rest⟩:SValue)) >>=fun o=>
 match o with
 | .inl o_1=>
 some o_1
 | .inr o_2=>
 g3s (o_2.1.Keys,o_2.2.Keys) >>=fun r=>
 (if r=true then g3s (o_2.1.Items,o_2.2.Items)else some false) >>=fun r_1=>
 some (bif r then r_1 else false)
  partial_fixpoint
def g3s(x_:List SValue × List SValue) :Option (Bool):=
 match x_ with
 | (a,b)=>
 if(!(decide ((a.length:Int)=(b.length:Int))))=true then
 some false
 else
 g2e (a,b,0) >>=fun o=>
 match o with
 | .inl o_1=>
 some o_1
 | .inr o_2=>
 some true
  partial_fixpoint
def g2e(x_:List SValue × List SValue × Int) :Option ((Bool) ⊕ (Unit)):=
 match x_ with
 | (a_1,b_1,i)=>
 if decide (i < (a_1.length:Int))=true then
 if inR i a_1.length=true then
 if inR i b_1.length=true then
 g1d (SValue.eta (a_1.getD i.toNat dSValue),SValue.eta (b_1.getD i.toNat dSValue)) >>=fun r=>
 if(!r)=true then
 some (.inl false)
 else
 g2e (a_1,b_1,addI .i64 i 1)
 else none
 else none
 else
 some (.inr ())
  partial_fixpoint
end
theorem e40_k :KC e40:= .m (by kernel_rfl)
theorem e74_k :KC e74:= .m (by kernel_rfl)
theorem gb3 :(∀h r,g1d h=some r→FD e40 h r)∧(∀h r,g3s h=some r→FD e74 h r)∧(∀h r,g2e h=some r→LD 74 0 [0] e74_0 h r):=g1d.mutual_partial_correctness (FD e40) (FD e74) (LD 74 0 [0] e74_0)
 (fun _ h1 _ _ h=>FA e40 e40_k (.k (FH e74 e74_k h1) .n) (.k gak .n) (.trans (by kernel_rfl) h))
 (fun _ h2 _ _ h=>FA e74 e74_k .n (.k (LH e74_0 h2) .n) (.trans (by kernel_rfl) h))
 (fun _ _ h0 h2 _ _ h=>LA e74_0 h2 (.k (FH e40 e40_k h0) .n) .n (.trans (by kernel_rfl) h))
theorem g5c :FC e40 g1d:= .of e40_k gb3.1
def g61(x_:SValue × SValue) :Option (Bool):=
 match x_ with
 | (a,b)=>
 g1d (SValue.eta a,SValue.eta b) >>=fun r=>
 some r
theorem e15_k :KC e15:= .m (by kernel_rfl)
theorem gg6 :FC e15 g61:= .fn e15_k (.k g5c .n) .n fun _=>by kernel_rfl
def g2h(x_:Int × Int × SValue) :Option (Int):=
 match x_ with
 | (n_5,i_2,b_4)=>
 if decide (i_2 < (b_4.Rest.length:Int))=true then
 if inR i_2 b_4.Rest.length=true then
 g2h (addI .i64 (addI .i64 n_5 1) ((b_4.Rest.getD i_2.toNat dSRaw).Data.length:Int),addI .i64 i_2 1,SValue.eta b_4)
 else none
 else
 some n_5
  partial_fixpoint
theorem gej :LC 46 0 [2] e46_2 g2h:= .rc g2h.partial_correctness .n .n fun _ _=>by kernel_rfl
end
section
open Go Go.Proofs.YtandcioiaooocaaGreat.Shv
open Tryz
set_option maxRecDepth 100000
mutual
def g2d(v:SValue) :Option (Int):=
 g34 (addI .i64 1 (v.Str.length:Int),0,SValue.eta v) >>=fun o=>
 g35 (o.1,0,SValue.eta o.2) >>=fun o_1=>
 g2h (o_1.1,0,SValue.eta o_1.2) >>=fun o_2=>
 some o_2
  partial_fixpoint
def g34(x_:Int × Int × SValue) :Option (Int × SValue):=
 match x_ with
 | (n_3,i,b_2)=>
 if decide (i < (b_2.Keys.length:Int))=true then
 if inR i b_2.Keys.length=true then
 g2d (SValue.eta (b_2.Keys.getD i.toNat dSValue)) >>=fun r=>
 g34 (addI .i64 n_3 r,addI .i64 i 1,SValue.eta b_2)
 else none
 else
 some (n_3,SValue.eta b_2)
  partial_fixpoint
def g35(x_:Int × Int × SValue) :Option (Int × SValue):=
 match x_ with
 | (n_4,i_1,b_3)=>
 if decide (i_1 < (b_3.Items.length:Int))=true then
 if inR i_1 b_3.Items.length=true then
 g2d (SValue.eta (b_3.Items.getD i_1.toNat dSValue)) >>=fun r_1=>
 g35 (addI .i64 n_4 r_1,addI .i64 i_1 1,SValue.eta b_3)
 else none
 else
 some (n_4,SValue.eta b_3)
  partial_fixpoint
end
theorem e46_k :KC e46:= .m (by kernel_rfl)
theorem gfl :(∀h r,g2d h=some r→FD e46 h r)∧(∀h r,g35 h=some r→LD 46 0 [1] e46_1 h r)∧(∀h r,g34 h=some r→LD 46 0 [0] e46_0 h r):=g2d.mutual_partial_correctness (FD e46) (LD 46 0 [1] e46_1) (LD 46 0 [0] e46_0)
 (fun _ _ h1 h2 _ _ h=>FA e46 e46_k .n (.k (LH e46_0 h2) (.k (LH e46_1 h1) (.k gej .n))) (.trans (by kernel_rfl) h))
 (fun _ _ h0 h1 _ _ h=>LA e46_1 h1 (.k (FH e46 e46_k h0) .n) .n (.trans (by kernel_rfl) h))
 (fun _ _ h0 h2 _ _ h=>LA e46_0 h2 (.k (FH e46 e46_k h0) .n) .n (.trans (by kernel_rfl) h))
theorem ghu :FC e46 g2d:= .of e46_k gfl.1
def g2a(x_:Int × Int × Int × List SType × SType) :Option (Int × Int × List SType):=
 match x_ with
 | (n_3,i_2,k,b_2,b_3)=>
 if(bif decide (k < (b_3.Members.length:Int))then decide (k < 100)else false)=true then
 if inR k b_3.Members.length=true then
 g2d (SValue.eta (b_3.Members.getD k.toNat dSMember).Default) >>=fun r=>
 if inR k b_3.Members.length=true then
 g2a (addI .i64 (addI .i64 n_3 r) ((b_3.Members.getD k.toNat dSMember).Name.length:Int),i_2,addI .i64 k 1,b_2,b_3)
 else none
 else none
 else
 some (n_3,i_2,b_2)
  partial_fixpoint
theorem gda :LC 23 0 [0,0] gqn g2a:= .rc g2a.partial_correctness (.k ghu .n) .n fun _ _=>by kernel_rfl
def g2u(x_:Int × Int × List SType) :Option (Int):=
 match x_ with
 | (n_1,i,b)=>
 if decide (i < (b.length:Int))=true then
 if inR i b.length=true then
 some (b.getD i.toNat dSType) >>=fun x0=>
 g2a (addI .i64 (addI .i64 (addI .i64 n_1 (x0.Members.length:Int)) (x0.Symbols.length:Int)) (x0.Name.length:Int),i,0,b,x0) >>=fun o_1=>
 g2u (o_1.1,addI .i64 o_1.2.1 1,o_1.2.2)
 else none
 else
 some n_1
  partial_fixpoint
theorem gfm :LC 23 0 [0] e23_0 g2u:= .rc g2u.partial_correctness .n (.k gda .n) fun _ _=>by kernel_rfl
def g5t(s:SSchema) :Option (Bool):=
 if decide (40 < (s.Types.length:Int))=true then
 some false
 else
 g2u (0,0,s.Types) >>=fun o=>
 some (decide (o≤400))
theorem e23_k :KC e23:= .m (by kernel_rfl)
theorem gii :FC e23 g5t:= .fn e23_k .n (.k gfm .n) fun _=>by kernel_rfl
def g1v(t:SType) :Option (SType):=
 if decide (t.Kind=1)=true then
 some (⟨t.Kind,[],0,0,0,[],[],0,0,false⟩:SType)
 else
 if decide (t.Kind=2)=true then
 some (⟨t.Kind,[],t.Low,t.High,0,[],[],0,0,false⟩:SType)
 else
 if decide (t.Kind=3)=true then
 some (⟨t.Kind,[],0,0,t.Max,[],[],0,0,false⟩:SType)
 else
 if decide (t.Kind=4)=true then
 some (⟨t.Kind,t.Name,0,0,0,t.Symbols,[],0,0,t.Open⟩:SType)
 else
 if decide (t.Kind=5)=true then
 some (⟨t.Kind,t.Name,0,0,0,[],t.Members,0,0,false⟩:SType)
 else
 if decide (t.Kind=6)=true then
 some (⟨t.Kind,t.Name,0,0,0,[],t.Members,0,0,t.Open⟩:SType)
 else
 if decide (t.Kind=7)=true then
 some (⟨t.Kind,[],0,0,t.Max,[],[],0,t.Elem,false⟩:SType)
 else
 if decide (t.Kind=8)=true then
 some (⟨t.Kind,[],0,0,t.Max,[],[],t.Key,t.Elem,false⟩:SType)
 else
 some (⟨t.Kind,[],0,0,0,[],[],0,t.Elem,false⟩:SType)
theorem gyj :KC e134:= .m (by kernel_rfl)
theorem gg7 :FC e134 g1v:= .fn gyj .n .n fun _=>by kernel_rfl
def g3t(x_:SMember × SMember) :Option (Bool):=
 match x_ with
 | (a,b)=>
 some (bif bif bif bif decide (a.ID=b.ID)then decide (a.Name=b.Name)else false then decide (a.Type_=b.Type_)else false then eqB a.Critical b.Critical else false then eqB a.HasDefault b.HasDefault else false) >>=fun t37=>
 (if t37=true then g1d ((⟨a.Default.Kind,a.Default.Bool_,a.Default.Int_,a.Default.Str,a.Default.ID,a.Default.Keys,a.Default.Items,a.Default.Rest⟩:SValue),(⟨b.Default.Kind,b.Default.Bool_,b.Default.Int_,b.Default.Str,b.Default.ID,b.Default.Keys,b.Default.Items,b.Default.Rest⟩:SValue))else some false) >>=fun r=>
 some (bif t37 then r else false)
theorem gyk :KC e167:= .m (by kernel_rfl)
theorem gc5 :FC e167 g3t:= .fn gyk (.k g5c .n) .n fun _=>by kernel_rfl
def g1l(x_:Int × SType × SType) :Option ((Bool) ⊕ (SType × SType)):=
 match x_ with
 | (i,b_3,b_4)=>
 if decide (i < (b_3.Symbols.length:Int))=true then
 if inR i b_3.Symbols.length=true then
 some (b_3.Symbols.getD i.toNat dSSymbol) >>=fun x0=>
 if inR i b_4.Symbols.length=true then
 some (b_4.Symbols.getD i.toNat dSSymbol) >>=fun x0_1=>
 if(!(eqI x0.ID x0_1.ID && (eqS x0.Name x0_1.Name && true)))=true then
 some (.inl false)
 else
 g1l (addI .i64 i 1,b_3,b_4)
 else none
 else none
 else
 some (.inr (b_3,b_4))
  partial_fixpoint
theorem gb4 :LC 133 0 [0] gu1 g1l:= .rc g1l.partial_correctness .n .n fun _ _=>by kernel_rfl
def g1m(x_:Int × SType × SType) :Option ((Bool) ⊕ (Unit)):=
 match x_ with
 | (i_1,b_5,b_6)=>
 if decide (i_1 < (b_5.Members.length:Int))=true then
 if inR i_1 b_5.Members.length=true then
 some (b_5.Members.getD i_1.toNat dSMember) >>=fun x0_2=>
 if inR i_1 b_6.Members.length=true then
 some (b_6.Members.getD i_1.toNat dSMember) >>=fun x0_3=>
 g3t ((⟨x0_2.ID,x0_2.Name,x0_2.Type_,x0_2.Critical,x0_2.HasDefault,SValue.eta x0_2.Default⟩:SMember),(⟨x0_3.ID,x0_3.Name,x0_3.Type_,x0_3.Critical,x0_3.HasDefault,SValue.eta x0_3.Default⟩:SMember)) >>=fun r=>
 if(!r)=true then
 some (.inl false)
 else
 g1m (addI .i64 i_1 1,b_5,b_6)
 else none
 else none
 else
 some (.inr ())
  partial_fixpoint
theorem gb5 :LC 133 0 [1] gu2 g1m:= .rc g1m.partial_correctness (.k gc5 .n) .n fun _ _=>by kernel_rfl
def g4z(x_:SType × SType) :Option (Bool):=
 match x_ with
 | (a,b)=>
 if(bif bif bif bif bif bif bif bif bif (!(decide (a.Kind=b.Kind)))then true else(!(decide (a.Name=b.Name)))then true else(!(decide (a.Low=b.Low)))then true else(!(decide (a.High=b.High)))then true else(!(decide (a.Max=b.Max)))then true else(!(decide (a.Key=b.Key)))then true else(!(decide (a.Elem=b.Elem)))then true else(!(eqB a.Open b.Open))then true else(!(decide ((a.Symbols.length:Int)=(b.Symbols.length:Int))))then true else(!(decide ((a.Members.length:Int)=(b.Members.length:Int)))))=true then
 some false
 else
 g1l (0,(⟨a.Kind,a.Name,a.Low,a.High,a.Max,a.Symbols,a.Members,a.Key,a.Elem,a.Open⟩:SType),(⟨b.Kind,b.Name,b.Low,b.High,b.Max,b.Symbols,b.Members,b.Key,b.Elem,b.Open⟩:SType)) >>=fun o=>
 match o with
 | .inl o_1=>
 some o_1
 | .inr o_2=>
 g1m (0,o_2.1,o_2.2) >>=fun o_3=>
 match o_3 with
 | .inl o_4=>
 some o_4
 | .inr o_5=>
 some true
theorem gyl :KC e133:= .m (by kernel_rfl)
theorem gdb :FC e133 g4z:= .fn gyl .n (.k gb4 (.k gb5 .n)) fun _=>by kernel_rfl
def g4l(b:Int) :Option (Bool):=
 some (bif bif bif decide (97≤b)then decide (b≤122)else false then true else bif decide (65≤b)then decide (b≤90)else false then true else decide (b=95))
theorem gym :KC e168:= .m (by kernel_rfl)
theorem g9b :FC e168 g4l:= .fn gym .n .n fun _=>by kernel_rfl
def g62(b:Int) :Option (Bool):=
 some (bif decide (48≤b)then decide (b≤57)else false)
theorem gyn :KC e169:= .m (by kernel_rfl)
theorem gg8 :FC e169 g62:= .fn gyn .n .n fun _=>by kernel_rfl
def g1t(x_:List UInt8 × Int) :Option ((Bool) ⊕ (Unit)):=
 match x_ with
 | (s_1,i)=>
 if decide (i < (s_1.length:Int))=true then
 if inR i s_1.length=true then
 g4l (g82 s_1 i) >>=fun r_1=>
 some (!r_1) >>=fun t27=>
 if(inR i s_1.length || (!t27))=true then
 (if t27=true then g62 (g82 s_1 i)else some false) >>=fun r_2=>
 if(bif t27 then(!r_2)else false)=true then
 some (.inl false)
 else
 g1t (s_1,addI .i64 i 1)
 else none
 else none
 else
 some (.inr ())
  partial_fixpoint
theorem gcg :LC 135 0 [0] gu3 g1t:= .rc g1t.partial_correctness (.k g9b (.k gg8 .n)) .n fun _ _=>by kernel_rfl
end
section
open Go Go.Proofs.YtandcioiaooocaaGreat.Shv
open Tryz
set_option maxRecDepth 100000
def g3c(s:List UInt8) :Option (Bool):=
 some (bif decide (s=[])then true else decide (24 < (s.length:Int))) >>=fun t10=>
 if(inR 0 s.length || (!(!t10)))=true then
 (if(!t10)=true then g4l (g82 s 0)else some false) >>=fun r=>
 if(bif t10 then true else(!r))=true then
 some false
 else
 g1t (s,0) >>=fun o=>
 match o with
 | .inl o_1=>
 some o_1
 | .inr o_2=>
 some true
 else none
theorem gyo :KC e135:= .m (by kernel_rfl)
theorem g6n :FC e135 g3c:= .fn gyo (.k g9b .n) (.k gcg .n) fun _=>by kernel_rfl
def g6h(x_:Int × Int) :Option (Bool):=
 match x_ with
 | (before,n)=>
 some (bif bif decide (before < n)then decide (1≤n)else false then decide (n≤1000)else false)
theorem gyp :KC e170:= .m (by kernel_rfl)
theorem gc6 :FC e170 g6h:= .fn gyp .n .n fun _=>by kernel_rfl
def g1a(x_:List SSymbol × Int × Int) :Option ((Bool) ⊕ (List SSymbol × Int)):=
 match x_ with
 | (l_4,i_2,k)=>
 if decide (k < i_2)=true then
 if inR k l_4.length=true then
 if inR i_2 l_4.length=true then
 if decide ((l_4.getD k.toNat dSSymbol).Name=(l_4.getD i_2.toNat dSSymbol).Name)=true then
 some (.inl false)
 else
 g1a (l_4,i_2,addI .i64 k 1)
 else none
 else none
 else
 some (.inr (l_4,i_2))
  partial_fixpoint
theorem gal :LC 136 0 [0,0] goy g1a:= .rc g1a.partial_correctness .n .n fun _ _=>by kernel_rfl
def g1q(x_:List SSymbol × Int × Int) :Option ((Bool) ⊕ (List SSymbol)):=
 match x_ with
 | (l_2,before,i)=>
 if decide (i < (l_2.length:Int))=true then
 if inR i l_2.length=true then
 g6h (before,(l_2.getD i.toNat dSSymbol).ID) >>=fun r=>
 some (!r) >>=fun t19=>
 if(inR i l_2.length || (!(!t19)))=true then
 (if(!t19)=true then g3c (l_2.getD i.toNat dSSymbol).Name else some false) >>=fun r_1=>
 if(bif t19 then true else(!r_1))=true then
 some (.inl false)
 else
 g1a (l_2,i,0) >>=fun o_3=>
 match o_3 with
 | .inl o_4=>
 some (.inl o_4)
 | .inr o_5=>
 if inR o_5.2 o_5.1.length=true then
 g1q (o_5.1,(o_5.1.getD o_5.2.toNat dSSymbol).ID,addI .i64 o_5.2 1)
 else none
 else none
 else none
 else
 some (.inr l_2)
  partial_fixpoint
theorem gc7 :LC 136 0 [0] gu4 g1q:= .rc g1q.partial_correctness (.k gc6 (.k g6n .n)) (.k gal .n) fun _ _=>by kernel_rfl
def g4e(l:List SSymbol) :Option (Bool):=
 g1q (l,0,0) >>=fun o=>
 match o with
 | .inl o_1=>
 some o_1
 | .inr o_2=>
 some (bif decide (1≤(o_2.length:Int))then decide ((o_2.length:Int)≤16)else false)
theorem gyq :KC e136:= .m (by kernel_rfl)
theorem gek :FC e136 g4e:= .fn gyq .n (.k gc7 .n) fun _=>by kernel_rfl
def g1b(x_:List SMember × Bool × Int × Int × SMember) :Option ((Bool) ⊕ (List SMember × Bool × Int × SMember)):=
 match x_ with
 | (l_4,record_4,i_2,k,b_1)=>
 if decide (k < i_2)=true then
 if inR k l_4.length=true then
 if decide ((l_4.getD k.toNat dSMember).Name=b_1.Name)=true then
 some (.inl false)
 else
 g1b (l_4,record_4,i_2,addI .i64 k 1,(⟨b_1.ID,b_1.Name,b_1.Type_,b_1.Critical,b_1.HasDefault,SValue.eta b_1.Default⟩:SMember))
 else none
 else
 some (.inr (l_4,record_4,i_2,(⟨b_1.ID,b_1.Name,b_1.Type_,b_1.Critical,b_1.HasDefault,SValue.eta b_1.Default⟩:SMember)))
  partial_fixpoint
theorem gam :LC 137 0 [0,0] goz g1b:= .rc g1b.partial_correctness .n .n fun _ _=>by kernel_rfl
def g1r(x_:List SMember × Bool × Int × Int) :Option ((Bool) ⊕ (List SMember × Bool)):=
 match x_ with
 | (l_2,record_2,before,i)=>
 if decide (i < (l_2.length:Int))=true then
 if inR i l_2.length=true then
 some (l_2.getD i.toNat dSMember) >>=fun x0=>
 g6h (before,x0.ID) >>=fun r=>
 some (!r) >>=fun t23=>
 (if(!t23)=true then g3c x0.Name else some false) >>=fun r_1=>
 if(bif bif bif t23 then true else(!r_1)then true else bif x0.Critical then x0.HasDefault else false then true else bif (!record_2)then bif x0.Critical then true else x0.HasDefault else false)=true then
 some (.inl false)
 else
 some (!x0.HasDefault) >>=fun t52=>
 (if t52=true then g1d (SValue.eta x0.Default,(⟨0,false,0,[],0,[],[],[]⟩:SValue))else some false) >>=fun r_2=>
 if(bif t52 then(!r_2)else false)=true then
 some (.inl false)
 else
 g1b (l_2,record_2,i,0,(⟨x0.ID,x0.Name,x0.Type_,x0.Critical,x0.HasDefault,SValue.eta x0.Default⟩:SMember)) >>=fun o_3=>
 match o_3 with
 | .inl o_4=>
 some (.inl o_4)
 | .inr o_5=>
 g1r (o_5.1,o_5.2.1,o_5.2.2.2.ID,addI .i64 o_5.2.2.1 1)
 else none
 else
 some (.inr (l_2,record_2))
  partial_fixpoint
theorem gc8 :LC 137 0 [0] gu5 g1r:= .rc g1r.partial_correctness (.k gc6 (.k g6n (.k g5c .n))) (.k gam .n) fun _ _=>by kernel_rfl
def g3n(x_:List SMember × Bool) :Option (Bool):=
 match x_ with
 | (l,record)=>
 g1r (l,record,0,0) >>=fun o=>
 match o with
 | .inl o_1=>
 some o_1
 | .inr o_2=>
 some (bif decide ((o_2.1.length:Int)≤16)then bif o_2.2 then true else decide (1≤(o_2.1.length:Int))else false)
theorem gyr :KC e137:= .m (by kernel_rfl)
theorem gel :FC e137 g3n:= .fn gyr .n (.k gc8 .n) fun _=>by kernel_rfl
def gq(t:SType) :Option (Bool):=
 some (bif decide (t.Kind < 1)then true else decide (9 < t.Kind)) >>=fun t10=>
 (if(!t10)=true then g1v t else some dSType) >>=fun r=>
 (if(!t10)=true then g4z (t,r)else some false) >>=fun r_1=>
 some (bif t10 then true else(!r_1)) >>=fun t17=>
 (if(!t17)=true then g1i t.Kind else some false) >>=fun r_2=>
 (if((!t17) && r_2)=true then g3c t.Name else some false) >>=fun r_3=>
 if(bif t17 then true else bif r_2 then(!r_3)else false)=true then
 some false
 else
 if decide (t.Kind=2)=true then
 some (decide (t.Low≤t.High))
 else
 if decide (t.Kind=3)=true then
 some (bif decide (0≤t.Max)then decide (t.Max≤200)else false)
 else
 if decide (t.Kind=4)=true then
 g4e t.Symbols >>=fun r_4=>
 some r_4
 else
 some (decide (t.Kind=5)) >>=fun t54=>
 if t54=true then
 if t54=true then
 g3n (t.Members,decide (t.Kind=5)) >>=fun r_5=>
 some r_5
 else
 some (decide (t.Kind=7)) >>=fun t63=>
 if t63=true then
 if t63=true then
 some (bif decide (0≤t.Max)then decide (t.Max≤50)else false)
 else
 some true
 else
 if decide (t.Kind=8)=true then
 some (bif decide (0≤t.Max)then decide (t.Max≤50)else false)
 else
 some true
 else
 if decide (t.Kind=6)=true then
 g3n (t.Members,decide (t.Kind=5)) >>=fun r_6=>
 some r_6
 else
 some (decide (t.Kind=7)) >>=fun t63_1=>
 if t63_1=true then
 if t63_1=true then
 some (bif decide (0≤t.Max)then decide (t.Max≤50)else false)
 else
 some true
 else
 if decide (t.Kind=8)=true then
 some (bif decide (0≤t.Max)then decide (t.Max≤50)else false)
 else
 some true
theorem e92_k :KC e92:= .m (by kernel_rfl)
theorem gij :FC e92 gq:= .fn e92_k (.k gg7 (.k gdb (.k g9d (.k g6n (.k gek (.k gel .n)))))) .n fun _=>by kernel_rfl
def g2i(x_:Int × SType × List Int) :Option (SType × List Int):=
 match x_ with
 | (i,b_2,b_3)=>
 if decide (i < (b_2.Members.length:Int))=true then
 if inR i b_2.Members.length=true then
 some [(b_2.Members.getD i.toNat dSMember).Type_] >>=fun t19=>
 if room 8 (b_3++t19).length=true then
 g2i (addI .i64 i 1,b_2,b_3++t19)
 else none
 else none
 else
 some (b_2,b_3)
  partial_fixpoint
theorem gem :LC 93 0 [0] e93_0 g2i:= .rc g2i.partial_correctness .n .n fun _ _=>by kernel_rfl
def g6o(t:SType) :Option (List Int):=
 g2i (0,t,[]) >>=fun o=>
 if decide (o.1.Kind=8)=true then
 some [o.1.Key] >>=fun t27=>
 if room 8 (o.2++t27).length=true then
 some (o.2++t27) >>=fun l=>
 if(bif bif decide (o.1.Kind=7)then true else decide (o.1.Kind=8)then true else decide (o.1.Kind=9))=true then
 some [o.1.Elem] >>=fun t45=>
 if room 8 (l++t45).length=true then
 some (l++t45)
 else none
 else
 some l
 else none
 else
 if(bif bif decide (o.1.Kind=7)then true else decide (o.1.Kind=8)then true else decide (o.1.Kind=9))=true then
 some [o.1.Elem] >>=fun t45_1=>
 if room 8 (o.2++t45_1).length=true then
 some (o.2++t45_1)
 else none
 else
 some o.2
theorem e93_k :KC e93:= .m (by kernel_rfl)
theorem ghv :FC e93 g6o:= .fn e93_k .n (.k gem .n) fun _=>by kernel_rfl
def g1f(x_:Int × Int × List SType × Int × List UInt8 × Int × Int × Int × List SSymbol × List SMember × Int × Int × Bool) :Option ((Int) ⊕ (Int × List SType × Int × List UInt8 × Int × Int × Int × List SSymbol × List SMember × Int × Int × Bool)):=
 match x_ with
 | (i_3,k,b_23,b_24,b_25,b_26,b_27,b_28,b_29,b_30,b_31,b_32,b_33)=>
 if decide (k < i_3)=true then
 g1i b_24 >>=fun r_3=>
 if(inR k b_23.length || (!r_3))=true then
 if(bif r_3 then decide ((b_23.getD k.toNat dSType).Name=b_25)else false)=true then
 some (.inl 1)
 else
 g1f (i_3,addI .i64 k 1,b_23,b_24,b_25,b_26,b_27,b_28,b_29,b_30,b_31,b_32,b_33)
 else none
 else
 some (.inr (i_3,b_23,b_24,b_25,b_26,b_27,b_28,b_29,b_30,b_31,b_32,b_33))
  partial_fixpoint
theorem gc9 :LC 53 0 [0,0] gqo g1f:= .rc g1f.partial_correctness (.k g9d .n) .n fun _ _=>by kernel_rfl
def g1z(x_:Int × List Int × Int × List SType × Int × List UInt8 × Int × Int × Int × List SSymbol × List SMember × Int × Int × Bool) :Option ((Int) ⊕ (Int × List SType × Int × List UInt8 × Int × Int × Int × List SSymbol × List SMember × Int × Int × Bool)):=
 match x_ with
 | (i_4,l,k_1,b_34,b_35,b_36,b_37,b_38,b_39,b_40,b_41,b_42,b_43,b_44)=>
 if decide (k_1 < (l.length:Int))=true then
 if inR k_1 l.length=true then
 some (decide (l.getD k_1.toNat 0 < 0)) >>=fun t58=>
 if(inR k_1 l.length || (!(!t58)))=true then
 if(bif t58 then true else decide ((b_34.length:Int)≤l.getD k_1.toNat 0))=true then
 some (.inl 4)
 else
 g1z (i_4,l,addI .i64 k_1 1,b_34,b_35,b_36,b_37,b_38,b_39,b_40,b_41,b_42,b_43,b_44)
 else none
 else none
 else
 some (.inr (i_4,b_34,b_35,b_36,b_37,b_38,b_39,b_40,b_41,b_42,b_43,b_44))
  partial_fixpoint
theorem gca :LC 53 0 [1,0] gqp g1z:= .rc g1z.partial_correctness .n .n fun _ _=>by kernel_rfl
def g1w(x_:Int × List SType) :Option ((Int) ⊕ (Unit)):=
 match x_ with
 | (i,b)=>
 if decide (i < (b.length:Int))=true then
 if inR i b.length=true then
 some (b.getD i.toNat dSType) >>=fun x0=>
 gq x0 >>=fun r=>
 if(!r)=true then
 some (.inl 1)
 else
 g1f (i,0,b,x0.Kind,x0.Name,x0.Low,x0.High,x0.Max,x0.Symbols,x0.Members,x0.Key,x0.Elem,x0.Open) >>=fun o_3=>
 match o_3 with
 | .inl o_4=>
 some (.inl o_4)
 | .inr o_5=>
 g6o (⟨o_5.2.2.1,o_5.2.2.2.1,o_5.2.2.2.2.1,o_5.2.2.2.2.2.1,o_5.2.2.2.2.2.2.1,o_5.2.2.2.2.2.2.2.1,o_5.2.2.2.2.2.2.2.2.1,o_5.2.2.2.2.2.2.2.2.2.1,o_5.2.2.2.2.2.2.2.2.2.2.1,o_5.2.2.2.2.2.2.2.2.2.2.2⟩:SType) >>=fun r_1=>
 g1z (o_5.1,r_1,0,o_5.2.1,o_5.2.2.1,o_5.2.2.2.1,o_5.2.2.2.2.1,o_5.2.2.2.2.2.1,o_5.2.2.2.2.2.2.1,o_5.2.2.2.2.2.2.2.1,o_5.2.2.2.2.2.2.2.2.1,o_5.2.2.2.2.2.2.2.2.2.1,o_5.2.2.2.2.2.2.2.2.2.2.1,o_5.2.2.2.2.2.2.2.2.2.2.2) >>=fun o_6=>
 match o_6 with
 | .inl o_7=>
 some (.inl o_7)
 | .inr o_8=>
 some (decide (o_8.2.2.1=8)) >>=fun t71=>
 if(inR o_8.2.2.2.2.2.2.2.2.2.1 o_8.2.1.length || (!t71))=true then
 (if t71=true then g71 (o_8.2.1.getD o_8.2.2.2.2.2.2.2.2.2.1.toNat dSType).Kind else some false) >>=fun r_2=>
 if(bif t71 then(!r_2)else false)=true then
 some (.inl 1)
 else
 g1w (addI .i64 o_8.1 1,o_8.2.1)
 else none
 else none
 else
 some (.inr ())
  partial_fixpoint
theorem gdc :LC 53 0 [0] e53_0 g1w:= .rc g1w.partial_correctness (.k gij (.k ghv (.k ge7 .n))) (.k gc9 (.k gca .n)) fun _ _=>by kernel_rfl
end
section
open Go Go.Proofs.YtandcioiaooocaaGreat.Shv
open Tryz
set_option maxRecDepth 100000
def g63(s:SSchema) :Option (Int):=
 if decide (32 < (s.Types.length:Int))=true then
 some 3
 else
 g1w (0,s.Types) >>=fun o=>
 match o with
 | .inl o_1=>
 some o_1
 | .inr o_2=>
 some 0
theorem e53_k :KC e53:= .m (by kernel_rfl)
theorem gg9 :FC e53 g63:= .fn e53_k .n (.k gdc .n) fun _=>by kernel_rfl
def g4v(x_:SSchema × Int) :Option (Int):=
 match x_ with
 | (s,t)=>
 g63 s >>=fun r=>
 if(!(decide (r=0)))=true then
 some r
 else
 if(bif decide (t < 0)then true else decide ((s.Types.length:Int)≤t))=true then
 some 4
 else
 some 0
theorem e28_k :KC e28:= .m (by kernel_rfl)
theorem gga :FC e28 g4v:= .fn e28_k (.k gg9 .n) .n fun _=>by kernel_rfl
def g3w(v:SValue) :Option (Bool):=
 some (bif bif bif bif bif bif bif decide (v.Kind=1)then true else(!v.Bool_)then bif decide (v.Kind=2)then true else decide (v.Int_=0)else false then bif decide (v.Kind=3)then true else decide (v.Str=[])else false then bif bif decide (v.Kind=4)then true else decide (v.Kind=6)then true else decide (v.ID=0)else false then bif decide (v.Kind=8)then true else decide ((v.Keys.length:Int)=0)else false then bif decide (5≤v.Kind)then true else decide ((v.Items.length:Int)=0)else false then bif bif decide (v.Kind=5)then true else decide (v.Kind=6)then true else decide ((v.Rest.length:Int)=0)else false)
theorem e75_k :KC e75:= .m (by kernel_rfl)
theorem ghw :FC e75 g3w:= .fn e75_k .n .n fun _=>by kernel_rfl
def gx(x_:Int × Bool) :Option (Bool):=
 match x_ with
 | (n,known)=>
 some (bif bif (!known)then decide (1≤n)else false then decide (n≤1000)else false)
theorem e76_k :KC e76:= .m (by kernel_rfl)
theorem gcb :FC e76 gx:= .fn e76_k .n .n fun _=>by kernel_rfl
def gy(x_:List SRaw × Int × SType) :Option ((Bool) ⊕ (Unit)):=
 match x_ with
 | (l_1,i,b)=>
 if decide (i < (l_1.length:Int))=true then
 if inR i l_1.length=true then
 g2r (b,(l_1.getD i.toNat dSRaw).ID) >>=fun r=>
 if inR i l_1.length=true then
 gx ((l_1.getD i.toNat dSRaw).ID,r.2) >>=fun r_3=>
 some (!r_3) >>=fun t31=>
 some (decide (0 < i)) >>=fun t34=>
 if(inR i l_1.length || (!((!t31) && t34)))=true then
 some (subI .i64 i 1) >>=fun t43=>
 if(inR t43 l_1.length || (!((!t31) && t34)))=true then
 if(bif t31 then true else bif t34 then decide ((l_1.getD i.toNat dSRaw).ID≤(l_1.getD t43.toNat dSRaw).ID)else false)=true then
 some (.inl false)
 else
 gy (l_1,addI .i64 i 1,b)
 else none
 else none
 else none
 else none
 else
 some (.inr ())
  partial_fixpoint
theorem gen :LC 77 0 [0] e77_0 gy:= .rc gy.partial_correctness (.k g92 (.k gcb .n)) .n fun _ _=>by kernel_rfl
def g3d(x_:SType × List SRaw) :Option (Bool):=
 match x_ with
 | (t,l)=>
 gy (l,0,t) >>=fun o=>
 match o with
 | .inl o_1=>
 some o_1
 | .inr o_2=>
 some true
theorem e77_k :KC e77:= .m (by kernel_rfl)
theorem ghx :FC e77 g3d:= .fn e77_k .n (.k gen .n) fun _=>by kernel_rfl
def gm(x_:Int × SValue) :Option ((Bool) ⊕ (Unit)):=
 match x_ with
 | (i_1,b_12)=>
 if decide (i_1 < (b_12.Keys.length:Int))=true then
 some (subI .i64 i_1 1) >>=fun t270=>
 if inR t270 b_12.Keys.length=true then
 if inR i_1 b_12.Keys.length=true then
 g4d (SValue.eta (b_12.Keys.getD t270.toNat dSValue),SValue.eta (b_12.Keys.getD i_1.toNat dSValue)) >>=fun r_16=>
 if decide (0≤r_16)=true then
 some (.inl false)
 else
 gm (addI .i64 i_1 1,SValue.eta b_12)
 else none
 else none
 else
 some (.inr ())
  partial_fixpoint
theorem gfn :LC 41 0 [1] e41_1 gm:= .rc gm.partial_correctness (.k ge8 .n) .n fun _ _=>by kernel_rfl
mutual
def g2q(x_:SSchema × Int × List SValue × Bool) :Option (Bool):=
 match x_ with
 | (s,t,l,plain)=>
 g17 (t,l,plain,0,s.Types) >>=fun o=>
 match o with
 | .inl o_1=>
 some o_1
 | .inr o_2=>
 some true
  partial_fixpoint
def gz(x_:SSchema × Int × SValue × Bool) :Option (Bool):=
 match x_ with
 | (s,t,v,plain)=>
 if(bif decide (t < 0)then true else decide ((s.Types.length:Int)≤t))=true then
 some false
 else
 if inR t s.Types.length=true then
 some (s.Types.getD t.toNat dSType) >>=fun x0=>
 some (!(decide (v.Kind=x0.Kind))) >>=fun t34=>
 (if(!t34)=true then g3w (SValue.eta v)else some false) >>=fun r=>
 if(bif bif t34 then true else(!r)then true else bif plain then decide (0 < (v.Rest.length:Int))else false)=true then
 some false
 else
 if decide (x0.Kind=1)=true then
 some true
 else
 if decide (x0.Kind=2)=true then
 some (bif decide (x0.Low≤v.Int_)then decide (v.Int_≤x0.High)else false)
 else
 if decide (x0.Kind=3)=true then
 some (decide ((v.Str.length:Int)≤x0.Max))
 else
 if decide (x0.Kind=4)=true then
 g5r (x0,v.ID) >>=fun r_1=>
 some (bif x0.Open then(!plain)else false) >>=fun t91=>
 (if((!r_1.2) && t91)=true then gx (v.ID,r_1.2)else some false) >>=fun r_4=>
 some (bif r_1.2 then true else bif t91 then r_4 else false)
 else
 if decide (x0.Kind=5)=true then
 some (!(decide ((v.Items.length:Int)=(x0.Members.length:Int)))) >>=fun t107=>
 (if(!t107)=true then g3d (x0,v.Rest)else some false) >>=fun r_5=>
 if(bif t107 then true else(!r_5))=true then
 some false
 else
 gt (plain,0,s.Types,SValue.eta v,x0.Kind,x0.Name,x0.Low,x0.High,x0.Max,x0.Symbols,x0.Members,x0.Key,x0.Elem,x0.Open) >>=fun o=>
 match o with
 | .inl o_1=>
 some o_1
 | .inr o_2=>
 some true
 else
 if decide (x0.Kind=6)=true then
 g2r (x0,v.ID) >>=fun r_6=>
 if r_6.2=true then
 some (bif decide ((v.Items.length:Int)=1)then decide ((v.Rest.length:Int)=0)else false) >>=fun t156=>
 if(inR r_6.1 x0.Members.length || (!t156))=true then
 if(inR 0 v.Items.length || (!t156))=true then
 (if t156=true then gz (s,(x0.Members.getD r_6.1.toNat dSMember).Type_,SValue.eta (v.Items.getD (0:Int).toNat dSValue),plain)else some false) >>=fun r_9=>
 some (bif t156 then r_9 else false)
 else none
 else none
 else
 some (bif x0.Open then(!plain)else false) >>=fun t177=>
 (if t177=true then gx (v.ID,r_6.2)else some false) >>=fun r_10=>
 some (bif bif bif t177 then r_10 else false then decide ((v.Items.length:Int)=0)else false then decide ((v.Rest.length:Int)=1)else false) >>=fun t195=>
 if(inR 0 v.Rest.length || (!t195))=true then
 some (bif t195 then decide ((v.Rest.getD (0:Int).toNat dSRaw).ID=v.ID)else false)
 else none
 else
 if decide (x0.Kind=7)=true then
 some (decide ((v.Items.length:Int)≤x0.Max)) >>=fun t213=>
 (if t213=true then g2q (s,x0.Elem,v.Items,plain)else some false) >>=fun r_11=>
 some (bif t213 then r_11 else false)
 else
 if decide (x0.Kind=8)=true then
 some (bif decide (x0.Max < (v.Keys.length:Int))then true else(!(decide ((v.Items.length:Int)=(v.Keys.length:Int))))) >>=fun t239=>
 (if(!t239)=true then g2q (s,x0.Key,v.Keys,plain)else some false) >>=fun r_12=>
 some (bif t239 then true else(!r_12)) >>=fun t249=>
 (if(!t249)=true then g2q (s,x0.Elem,v.Items,plain)else some false) >>=fun r_13=>
 if(bif t249 then true else(!r_13))=true then
 some false
 else
 gm (1,SValue.eta v) >>=fun o_3=>
 match o_3 with
 | .inl o_4=>
 some o_4
 | .inr o_5=>
 some true
 else
 some (decide ((v.Items.length:Int)≤1)) >>=fun t283=>
 (if t283=true then g2q (s,x0.Elem,v.Items,plain)else some false) >>=fun r_14=>
 some (bif t283 then r_14 else false)
 else none
  partial_fixpoint
def g17(x_:Int × List SValue × Bool × Int × List SType) :Option ((Bool) ⊕ (Unit)):=
 match x_ with
 | (t_1,l_1,plain_1,i,b)=>
 if decide (i < (l_1.length:Int))=true then
 if inR i l_1.length=true then
 gz ((⟨b⟩:SSchema),t_1,SValue.eta (l_1.getD i.toNat dSValue),plain_1) >>=fun r=>
 if(!r)=true then
 some (.inl false)
 else
 g17 (t_1,l_1,plain_1,addI .i64 i 1,b)
 else none
 else
 some (.inr ())
  partial_fixpoint
def gt(x_:Bool × Int × List SType × SValue × Int × List UInt8 × Int × Int × Int × List SSymbol × List SMember × Int × Int × Bool) :Option ((Bool) ⊕ (Unit)):=
 match x_ with
 | (plain_1,i,b,b_1,b_2,b_3,b_4,b_5,b_6,b_7,b_8,b_9,b_10,b_11)=>
 if decide (i < (b_1.Items.length:Int))=true then
 if inR i b_8.length=true then
 if inR i b_1.Items.length=true then
 gz ((⟨b⟩:SSchema),(b_8.getD i.toNat dSMember).Type_,SValue.eta (b_1.Items.getD i.toNat dSValue),plain_1) >>=fun r_15=>
 if(!r_15)=true then
 some (.inl false)
 else
 gt (plain_1,addI .i64 i 1,b,SValue.eta b_1,b_2,b_3,b_4,b_5,b_6,b_7,b_8,b_9,b_10,b_11)
 else none
 else none
 else
 some (.inr ())
  partial_fixpoint
end
theorem e79_k :KC e79:= .m (by kernel_rfl)
theorem e41_k :KC e41:= .m (by kernel_rfl)
theorem ggb :(∀h r,g2q h=some r→FD e79 h r)∧(∀h r,g17 h=some r→LD 79 0 [0] e79_0 h r)∧(∀h r,gz h=some r→FD e41 h r)∧(∀h r,gt h=some r→LD 41 0 [0] e41_0 h r):=g2q.mutual_partial_correctness (FD e79) (LD 79 0 [0] e79_0) (FD e41) (LD 41 0 [0] e41_0)
 (fun _ h1 _ _ h=>FA e79 e79_k .n (.k (LH e79_0 h1) .n) (.trans (by kernel_rfl) h))
 (fun _ _ h1 h2 _ _ h=>LA e79_0 h1 (.k (FH e41 e41_k h2) .n) .n (.trans (by kernel_rfl) h))
 (fun _ _ _ h0 h2 h3 _ _ h=>FA e41 e41_k (.k ghw (.k gfh (.k gcb (.k ghx (.k g92 (.k (FH e41 e41_k h2) (.k (FH e79 e79_k h0) .n))))))) (.k (LH e41_0 h3) (.k gfn .n)) (.trans (by kernel_rfl) h))
 (fun _ _ h2 h3 _ _ h=>LA e41_0 h3 (.k (FH e41 e41_k h2) .n) .n (.trans (by kernel_rfl) h))
theorem gik :FC e41 gz:= .of e41_k ggb.2.2.1
def g64(x_:SSchema × Int × SValue) :Option (Bool):=
 match x_ with
 | (s,t,v)=>
 gz (s,t,SValue.eta v,true) >>=fun r=>
 some r
theorem e47_k :KC e47:= .m (by kernel_rfl)
theorem ggc :FC e47 g64:= .fn e47_k (.k gik .n) .n fun _=>by kernel_rfl
def g65(x_:SSchema × Int × SValue × SSchema × Int) :Option (Int):=
 match x_ with
 | (w,wt,v,r,rt)=>
 g4v (w,wt) >>=fun r_1=>
 if(!(decide (r_1=0)))=true then
 some r_1
 else
 g4v (r,rt) >>=fun r_2=>
 if(!(decide (r_2=0)))=true then
 some r_2
 else
 g64 (w,wt,SValue.eta v) >>=fun r_3=>
 if(!r_3)=true then
 some 1
 else
 some 0
theorem e24_k :KC e24:= .m (by kernel_rfl)
theorem ggd :FC e24 g65:= .fn e24_k (.k gga (.k ggc .n)) .n fun _=>by kernel_rfl
def g8e(x_:SSchema × Int × SValue × SSchema × Int × SValue) :Option (Bool):=
 match x_ with
 | (w,wt,v,r,rt,u)=>
 g4m (w,wt,SValue.eta v,r,rt) >>=fun r_1=>
 some (decide (r_1.2=0)) >>=fun t25=>
 (if t25=true then g6z (SValue.eta r_1.1,SValue.eta u)else some false) >>=fun r_4=>
 some (bif t25 then r_4 else false)
theorem e22_k :KC e22:= .m (by kernel_rfl)
theorem gll :FC e22 g8e:= .fn e22_k (.k gar (.k gai .n)) .n fun _=>by kernel_rfl
end
section
open Go Go.Proofs.YtandcioiaooocaaGreat.Shv
open Tryz
set_option maxRecDepth 100000
def g40(j:Sheavelaw14Job) :Option (Bool):=
 g4r () >>=fun r=>
 some (!r) >>=fun t9=>
 (if(!t9)=true then g5t j.W else some false) >>=fun r_1=>
 some (bif t9 then true else(!r_1)) >>=fun t15=>
 (if(!t15)=true then g5t j.R else some false) >>=fun r_2=>
 some (bif t15 then true else(!r_2)) >>=fun t21=>
 (if(!t21)=true then g60 (SValue.eta j.V)else some false) >>=fun r_3=>
 if(bif t21 then true else(!r_3))=true then
 g4r () >>=fun r_4=>
 some r_4
 else
 g65 (j.W,j.WT,SValue.eta j.V,j.R,j.RT) >>=fun r_5=>
 if decide (r_5=0)=true then
 some true
 else
 g4m (j.W,j.WT,SValue.eta j.V,j.R,j.RT) >>=fun r_6=>
 g76 (j.W,j.WT,SValue.eta j.V,j.R,j.RT) >>=fun r_9=>
 some (bif bif decide (r_6.2=r_5)then decide (r_9.2=r_5)else false then decide ((r_9.1.length:Int)=0)else false) >>=fun t82=>
 (if t82=true then g61 (SValue.eta r_6.1,(⟨0,false,0,[],0,[],[],[]⟩:SValue))else some false) >>=fun r_12=>
 some (bif t82 then r_12 else false) >>=fun t87=>
 (if t87=true then g8e (j.W,j.WT,SValue.eta j.V,j.R,j.RT,SValue.eta j.V)else some false) >>=fun r_13=>
 some (bif t87 then(!r_13)else false)
theorem e8_k :KC e8:= .m (by kernel_rfl)
theorem gn4 :FC e8 g40:= .fn e8_k (.k gfz (.k gii (.k gg5 (.k ggd (.k gar (.k gih (.k gg6 (.k gll .n)))))))) .n fun _=>by kernel_rfl
end
section
open Go Go.Proofs.YtandcioiaooocaaGreat.Shv
open Tryz
set_option maxRecDepth 100000
set_option linter.all false
end
section
open Go Go.Proofs.YtandcioiaooocaaGreat.Shv
open Tryz
set_option maxRecDepth 100000
set_option linter.all false
end
section
open Go Go.Proofs.YtandcioiaooocaaGreat.Shv
open Tryz
set_option maxRecDepth 100000
set_option linter.all false
end
section
open Go Go.Proofs.YtandcioiaooocaaGreat.Shv
open Tryz
set_option maxRecDepth 100000
set_option linter.all false
end
section
open Go Go.Proofs.YtandcioiaooocaaGreat.Shv
open Tryz
set_option maxRecDepth 100000
set_option linter.all false
end
section
open Go Go.Proofs.YtandcioiaooocaaGreat.Shv
open Tryz
set_option maxRecDepth 100000
set_option linter.all false
end
section
open Go Go.Proofs.YtandcioiaooocaaGreat.Shv
set_option maxRecDepth 100000
set_option linter.all false
end
section
open Go Go.Proofs.YtandcioiaooocaaGreat.Shv
set_option maxRecDepth 100000
set_option linter.all false
end
section
open Go Go.Proofs.YtandcioiaooocaaGreat.Shv
set_option maxRecDepth 100000
def vput(n:Nat) :List UInt8:=if n < 128 then[UInt8.ofNat n]else UInt8.ofNat (n % 128+128)::vput (n / 128)
termination_by n
decreasing_by omega
def gys(p:List UInt8) :List UInt8:=vput p.length++p
def gyt(id:Nat)(c:Bool)(p:List UInt8) :List UInt8:=vput (2*id+(if c then 1 else 0))++gys p
end
section
open Go Go.Proofs.YtandcioiaooocaaGreat.Shv
set_option maxRecDepth 100000
inductive OkV:SValue→Prop
 | mk (v : SValue) (hs : v.Str.length ≤ reachBytes) (h1 : v.Keys.length ≤ reachBytes) (h2 : v.Items.length ≤ reachBytes) (h3 : v.Rest.length ≤ reachBytes)
     (hk:∀x,x∈v.Keys→OkV x) (hi:∀x,x∈v.Items→OkV x) (hr:∀x,x∈v.Rest→x.Data.length≤reachBytes)
     (n1: -9223372036854775808≤v.Kind∧v.Kind≤9223372036854775807) (n2: -9223372036854775808≤v.Int_∧v.Int_≤9223372036854775807) (n3: -9223372036854775808≤v.ID∧v.ID≤9223372036854775807)
     (n4:∀x,x∈v.Rest→-9223372036854775808≤x.ID∧x.ID≤9223372036854775807):OkV v
theorem g12{n:Nat}(h:n≤reachBytes) :n < 9223372036854775807:=Nat.lt_of_le_of_lt h (by decide)
theorem scan {γ : Type} (L : Nat → Option γ) (n : Nat) (p : Nat → Bool) (bad good : γ) (hstep : ∀ i, i < n → L i = if p i = true then L (i + 1) else some bad) (hend : L n = some good) :
   (L 0=some good∧∀j,j < n→p j=true)∨(L 0=some bad∧∃j,j < n∧p j=false):=by
 have key:∀k i,i+k=n→(L i=some good∧∀j,i≤j→j < n→p j=true)∨(L i=some bad∧∃j,j < n∧p j=false):=by
   intro k
   induction k with
   | zero => intro i hi; have : i = n := by omega
             subst this;exact .inl ⟨hend,fun j h1 h2=>by omega⟩
   | succ k ih=>
     intro i hi;rw[hstep i (by omega)];cases hp:p i with
     | true=>
       rw[if_pos rfl];rcases ih (i+1) (by omega)with⟨h1,h2⟩ | h
       · refine .inl ⟨h1,fun j hj1 hj2=>?_⟩;rcases Nat.lt_or_ge i j with h | h
         · exact h2 j h hj2
         · have:j=i:=by omega
           subst this;exact hp
       · exact .inr h
     | false=>exact .inr ⟨by rw[if_neg (by simp)],i,by omega,hp⟩
 rcases key n 0 (by omega)with⟨h1,h2⟩ | h
 · exact .inl ⟨h1,fun j hj=>h2 j (Nat.zero_le _) hj⟩
 · exact .inr h
theorem g13{α:Type}{l:List α}{i:Nat}(h:i < l.length)(d:α) :l.getD i d=l[i]:=by
 rw[List.getD_eq_getElem?_getD,List.getElem?_eq_getElem h];rfl
theorem g51 {α : Type} {a b : List α} {p : Nat → Bool} (hl : a.length = b.length) (hp : ∀ (i : Nat) (h1 : i < a.length) (h2 : i < b.length), p i = true ↔ a[i] = b[i]) :
   (∀j,j < a.length→p j=true)↔a=b:=by
 constructor
 · intro h;exact List.ext_getElem hl fun i h1 h2=>(hp i h1 h2).1 (h i h1)
 · rintro rfl j hj
   exact(hp j hj hj).2 rfl
def Says{α:Type}(o:Option Bool)(a b:α) :Prop:=∃r,o=some r∧(r=true↔a=b)
theorem Says.of_scan {α : Type} {a b : List α} {p : Nat → Bool} (hl : a.length = b.length) (hp : ∀ (i : Nat) (h1 : i < a.length) (h2 : i < b.length), p i = true ↔ a[i] = b[i]) {o : Option Bool}
   (h:(o=some true∧∀j,j < a.length→p j=true)∨(o=some false∧∃j,j < a.length∧p j=false)):Says o a b:=by
 rcases h with⟨h1,h2⟩ | ⟨h1,j,h2,h3⟩
 · exact⟨true,h1,by simp[(g51 hl hp).1 h2]⟩
 · refine⟨false,h1,?_⟩;constructor
   · intro h;cases h
   · intro h;have:=(g51 hl hp).2 h j h2;rw[h3]at this;cases this
theorem guf{a b:SRaw} :(eqI a.ID b.ID && (eqS a.Data b.Data && true))=true↔a=b:=by
 cases a;cases b;simp[eqI,eqS]
theorem gug{a b:SSymbol} :(eqI a.ID b.ID && (eqS a.Name b.Name && true))=true↔a=b:=by
 cases a;cases b;simp[eqI,eqS]
theorem gyu{α:Type}{a b:List α}(h:¬a.length=b.length) :a≠b:=fun e=>h (congrArg List.length e)
theorem gcc{α:Type}{a b:List α}(h:¬a.length=b.length) :Says (some false) a b:=⟨false,rfl,by simp[gyu h]⟩
theorem gyv{a b:List SRaw}(ha:a.length≤reachBytes) :Says (g1e (a,b)) a b:=by
 rw[g1e];by_cases hl:a.length=b.length
 · rw[if_neg (by simp;omega)];have hr:=g12 ha;have:=scan (fun i=>gh (a,b,(a.length:Int),(i:Int))) a.length (fun i=>eqI (a.getD i dSRaw).ID (b.getD i dSRaw).ID && (eqS (a.getD i dSRaw).Data (b.getD i dSRaw).Data && true)) (.inl false) (.inr ())
     (fun i hi=>by
       rw[gh,if_pos (by simp;omega),if_pos (g8 hi)];simp only[oZ4,oZ3,gf];rw[if_pos (g8 (by omega)),gp (by omega)];generalize (eqI (a.getD i dSRaw).ID (b.getD i dSRaw).ID && (eqS (a.getD i dSRaw).Data (b.getD i dSRaw).Data && true))=c
       cases c <;> rfl)
     (by rw[gh,if_neg (by simp)])
   have h0:gh (a,b,(a.length:Int),((0:Nat):Int))=gh (a,b,(a.length:Int),0):=rfl;simp only[h0]at this;refine Says.of_scan (p:=fun i=>eqI (a.getD i dSRaw).ID (b.getD i dSRaw).ID && (eqS (a.getD i dSRaw).Data (b.getD i dSRaw).Data && true)) hl (fun i h1 h2=>by simp only[g13 h1,g13 h2];exact guf) ?_;rcases this with⟨h1,h2⟩ | ⟨h1,h2⟩
   · exact .inl ⟨by rw[h1];rfl,h2⟩
   · exact .inr ⟨by rw[h1];rfl,h2⟩
 · rw[if_pos (by simp;omega)];exact gcc hl
theorem gyw{a b:List SSymbol}(ha:a.length≤reachBytes) :Says (g2p (a,b)) a b:=by
 rw[g2p];by_cases hl:a.length=b.length
 · rw[if_neg (by simp;omega)];have hr:=g12 ha;have:=scan (fun i=>gn (a,b,(a.length:Int),(i:Int))) a.length (fun i=>eqI (a.getD i dSSymbol).ID (b.getD i dSSymbol).ID && (eqS (a.getD i dSSymbol).Name (b.getD i dSSymbol).Name && true)) (.inl false) (.inr ())
     (fun i hi=>by
       rw[gn,if_pos (by simp;omega),if_pos (g8 hi)];simp only[oZ4,oZ3,gf];rw[if_pos (g8 (by omega)),gp (by omega)];generalize (eqI (a.getD i dSSymbol).ID (b.getD i dSSymbol).ID && (eqS (a.getD i dSSymbol).Name (b.getD i dSSymbol).Name && true))=c
       cases c <;> rfl)
     (by rw[gn,if_neg (by simp)])
   have h0:gn (a,b,(a.length:Int),((0:Nat):Int))=gn (a,b,(a.length:Int),0):=rfl;simp only[h0]at this;refine Says.of_scan (p:=fun i=>eqI (a.getD i dSSymbol).ID (b.getD i dSSymbol).ID && (eqS (a.getD i dSSymbol).Name (b.getD i dSSymbol).Name && true)) hl (fun i h1 h2=>by simp only[g13 h1,g13 h2];exact gug) ?_;rcases this with⟨h1,h2⟩ | ⟨h1,h2⟩
   · exact .inl ⟨by rw[h1];rfl,h2⟩
   · exact .inr ⟨by rw[h1];rfl,h2⟩
 · rw[if_pos (by simp;omega)];exact gcc hl
theorem gcv(v:SValue) :(⟨v.Kind,v.Bool_,v.Int_,v.Str,v.ID,v.Keys,v.Items,v.Rest⟩:SValue)=v:=by cases v;rfl
theorem gcw{a b:SValue} :a=b↔a.Kind=b.Kind∧a.Bool_=b.Bool_∧a.Int_=b.Int_∧a.Str=b.Str∧a.ID=b.ID∧a.Rest=b.Rest∧a.Keys=b.Keys∧a.Items=b.Items:=by
 constructor
 · rintro rfl;exact⟨rfl,rfl,rfl,rfl,rfl,rfl,rfl,rfl⟩
 · cases a;cases b
   rintro ⟨h1,h2,h3,h4,h5,h6,h7,h8⟩
   simp only at*;subst h1;subst h2;subst h3;subst h4;subst h5;subst h6;subst h7;subst h8;rfl
section
variable {f:SValue × SValue→Option Bool}
theorem glm {a b : List SValue} (hl : a.length = b.length) (ih : ∀ x, x ∈ a → ∀ y, Says (f (x, y)) x y) (L : Nat → Option (Bool ⊕ Unit))
   (hstep:∀i,i < a.length→L i=(f (SValue.eta (a.getD i dSValue),SValue.eta (b.getD i dSValue)) >>=fun r=>if(!r)=true then some (.inl false)else L (i+1)))
   (hend:L a.length=some (.inr ())):Says (L 0 >>=fun o=>match o with | .inl x=>some x | .inr _=>some true) a b:=by
 have hget:∀(i:Nat) (h1:i < a.length) (h2:i < b.length),Says (f (SValue.eta (a.getD i dSValue),SValue.eta (b.getD i dSValue))) a[i] b[i]:=by
   intro i h1 h2;rw[g13 h1,g13 h2,SValue.gu,SValue.gu];exact ih _ (List.getElem_mem h1) _
 have:=scan L a.length (fun i=>(f (SValue.eta (a.getD i dSValue),SValue.eta (b.getD i dSValue))).getD false) (.inl false) (.inr ())
   (fun i hi=>by
     obtain⟨r,h1,h2⟩:=hget i hi (by omega);rw[hstep i hi,h1]
     cases r <;> rfl) hend
 refine Says.of_scan hl (fun i h1 h2=>?_) ?_ (p:=fun i=>(f (SValue.eta (a.getD i dSValue),SValue.eta (b.getD i dSValue))).getD false)
 · obtain⟨r,h3,h4⟩:=hget i h1 h2;rw[h3];exact h4
 · rcases this with⟨h1,h2⟩ | ⟨h1,h2⟩
   · exact .inl ⟨by rw[h1];rfl,h2⟩
   · exact .inr ⟨by rw[h1];rfl,h2⟩
end
theorem gqs{a b:List SValue}(ha:a.length≤reachBytes)(ih:∀x,x∈a→∀y,Says (g3r (x,y)) x y) :Says (gv (a,b)) a b:=by
 rw[gv];by_cases hl:a.length=b.length
 · rw[if_neg (by simp;omega)];have hr:=g12 ha;exact glm hl ih (fun i=>gj (b,a,(a.length:Int),(i:Int)))
     (fun i hi=>by
       rw[gj,if_pos (by simp;omega),if_pos (g8 hi),if_pos (g8 (by omega)),gp (by omega)]
       rfl)
     (by rw[gj,if_neg (by simp)])
 · rw[if_pos (by simp;omega)];exact gcc hl
theorem gqt{a b:List SValue}(ha:a.length≤reachBytes)(ih:∀x,x∈a→∀y,Says (g1d (x,y)) x y) :Says (g3s (a,b)) a b:=by
 rw[g3s];by_cases hl:a.length=b.length
 · rw[if_neg (by simp;omega)];have hr:=g12 ha;exact glm hl ih (fun i=>g2e (a,b,(i:Int)))
     (fun i hi=>by
       rw[g2e,if_pos (by simp;omega),if_pos (g8 hi),if_pos (g8 (by omega)),gp (by omega)]
       rfl)
     (by rw[g2e,if_neg (by simp)])
 · rw[if_pos (by simp;omega)];exact gcc hl
theorem three {a b : SValue} {h5 : Bool} (e5 : h5 = true ↔ a.Kind = b.Kind ∧ a.Bool_ = b.Bool_ ∧ a.Int_ = b.Int_ ∧ a.Str = b.Str ∧ a.ID = b.ID) {x y z : Option Bool} (hx : Says x a.Rest b.Rest) (hy : Says y a.Keys b.Keys) (hz : Says z a.Items b.Items) :
   Says (some h5 >>=fun t37=>(if t37=true then x else some false) >>=fun r=>some (bif t37 then r else false) >>=fun t44=>(if t44=true then y else some false) >>=fun r_1=>some (bif t44 then r_1 else false) >>=fun t51=>(if t51=true then z else some false) >>=fun r_2=>some (bif t51 then r_2 else false)) a b:=by
 obtain⟨rx,hx1,hx2⟩:=hx;obtain⟨ry,hy1,hy2⟩:=hy;obtain⟨rz,hz1,hz2⟩:=hz;subst hx1;subst hy1;subst hz1;refine⟨h5 && rx && ry && rz,?_,?_⟩
 · cases h5 <;> cases rx <;> cases ry <;> rfl
 · rw[gcw];simp only[Bool.and_eq_true];rw[e5,hx2,hy2,hz2];constructor
   · rintro ⟨⟨⟨⟨h1,h2,h3,h4,h5⟩,h6⟩,h7⟩,h8⟩;exact⟨h1,h2,h3,h4,h5,h6,h7,h8⟩
   · rintro ⟨h1,h2,h3,h4,h5,h6,h7,h8⟩;exact⟨⟨⟨⟨h1,h2,h3,h4,h5⟩,h6⟩,h7⟩,h8⟩
theorem five{a b:SValue} :(bif bif bif bif decide (a.Kind=b.Kind)then eqB a.Bool_ b.Bool_ else false then decide (a.Int_=b.Int_)else false then decide (a.Str=b.Str)else false then decide (a.ID=b.ID)else false)=true↔a.Kind=b.Kind∧a.Bool_=b.Bool_∧a.Int_=b.Int_∧a.Str=b.Str∧a.ID=b.ID:=by
 simp only[Bool.cond_eq_ite,eqB];by_cases h1:a.Kind=b.Kind <;> by_cases h2:a.Bool_=b.Bool_ <;> by_cases h3:a.Int_=b.Int_ <;> by_cases h4:a.Str=b.Str <;> simp[h1,h2,h3,h4]
theorem gfo{a:SValue}(h:OkV a) :∀b,Says (g3r (a,b)) a b:=by
 induction h with
 | mk a hs h1 h2 h3 hk hi hr n1 n2 n3 n4 ihk ihi=>
   intro b;rw[g3r];exact three five (gyv h3) (gqs h1 ihk) (gqs h2 ihi)
theorem gmb{a:SValue}(h:OkV a) :∀b,Says (g1d (a,b)) a b:=by
 induction h with
 | mk a hs h1 h2 h3 hk hi hr n1 n2 n3 n4 ihk ihi=>
   intro b;rw[g1d];by_cases h5:a.Kind=b.Kind∧a.Bool_=b.Bool_∧a.Int_=b.Int_∧a.Str=b.Str∧a.ID=b.ID∧a.Rest.length=b.Rest.length
   · obtain⟨e1,e2,e3,e4,e5,e6⟩:=h5;rw[if_neg (by simp[e1,e2,e3,e4,e5,e6,eqB])];have hr3:=g12 h3;have hsc:=scan (fun i=>g1h ((i:Int),a,b)) a.Rest.length (fun i=>eqI (a.Rest.getD i dSRaw).ID (b.Rest.getD i dSRaw).ID && (eqS (a.Rest.getD i dSRaw).Data (b.Rest.getD i dSRaw).Data && true)) (.inl false) (.inr (a,b))
       (fun i hi'=>by
         rw[g1h,if_pos (by simp;omega),if_pos (g8 hi')];simp only[oZ4,oZ3,gf,SValue.gu];rw[if_pos (g8 (by omega)),gp (by omega)];generalize (eqI (a.Rest.getD i dSRaw).ID (b.Rest.getD i dSRaw).ID && (eqS (a.Rest.getD i dSRaw).Data (b.Rest.getD i dSRaw).Data && true))=c
         cases c <;> rfl)
       (by rw[g1h,if_neg (by simp),SValue.gu,SValue.gu])
     have h0:g1h (((0:Nat):Int),a,b)=g1h (0,a,b):=rfl;simp only[h0]at hsc;rw[gcv,gcv];have hp:∀(i:Nat) (h1:i < a.Rest.length) (h2:i < b.Rest.length),(eqI (a.Rest.getD i dSRaw).ID (b.Rest.getD i dSRaw).ID && (eqS (a.Rest.getD i dSRaw).Data (b.Rest.getD i dSRaw).Data && true))=true↔a.Rest[i]=b.Rest[i]:=fun i h1 h2=>by
       rw[g13 h1,g13 h2];exact guf
     rcases hsc with⟨g1,g2⟩ | ⟨g1,j,g2,g3⟩
     · have hrest:=(g51 e6 hp).1 g2;rw[g1];obtain⟨rk,k1,k2⟩:=gqt (a:=a.Keys) (b:=b.Keys) h1 ihk;obtain⟨ri,i1,i2⟩:=gqt (a:=a.Items) (b:=b.Items) h2 ihi;simp only[oZ4,oZ3];rw[k1,i1];refine⟨rk && ri,by cases rk <;> rfl,?_⟩;rw[gcw,Bool.and_eq_true,k2,i2];constructor
       · rintro ⟨q1,q2⟩;exact⟨e1,e2,e3,e4,e5,hrest,q1,q2⟩
       · rintro ⟨_,_,_,_,_,_,q1,q2⟩;exact⟨q1,q2⟩
     · rw[g1];refine⟨false,rfl,?_⟩;constructor
       · intro h;cases h
       · intro h;have:=(g51 e6 hp).2 (gcw.1 h).2.2.2.2.2.1 j g2;rw[g3]at this;cases this
   · rw[if_pos]
     · refine⟨false,rfl,?_⟩;constructor
       · intro h;cases h
       · intro h
         exfalso;apply h5
         obtain⟨q1,q2,q3,q4,q5,q6,_⟩:=gcw.1 h;exact⟨q1,q2,q3,q4,q5,by rw[q6]⟩
     · simp only[Bool.cond_eq_ite,eqB];by_cases q1:a.Kind=b.Kind <;> by_cases q2:a.Bool_=b.Bool_ <;> by_cases q3:a.Int_=b.Int_ <;> by_cases q4:a.Str=b.Str <;> by_cases q5:a.ID=b.ID <;> simp[q1,q2,q3,q4,q5]
       intro q6;exact h5 ⟨q1,q2,q3,q4,q5,by omega⟩
end
section
open Go Go.Proofs.YtandcioiaooocaaGreat.Shv
set_option maxRecDepth 100000
def gbe(c:Int) :Bool:=decide (c=95∨(97≤c∧c≤122)∨(65≤c∧c≤90))
def ghy(c:Int) :Bool:=decide (48≤c∧c≤57)
theorem gn5(c:Int) :g6a c=some (gbe c):=by
 rw[g6a];unfold gbe
 congr 1
 by_cases h1:c=95 <;> by_cases h2:97≤c <;> by_cases h3:c≤122 <;> by_cases h4:65≤c <;> by_cases h5:c≤90 <;> simp[h1,h2,h3,h4,h5] <;> omega
theorem gn6(c:Int) :g4l c=some (gbe c):=by
 rw[g4l];unfold gbe
 congr 1
 by_cases h1:c=95 <;> by_cases h2:97≤c <;> by_cases h3:c≤122 <;> by_cases h4:65≤c <;> by_cases h5:c≤90 <;> simp[h1,h2,h3,h4,h5] <;> omega
theorem gvh(c:Int) :g89 c=some (ghy c):=by
 rw[g89];unfold ghy;by_cases h2:48≤c <;> by_cases h3:c≤57 <;> simp[h2,h3]
theorem gvi(c:Int) :g62 c=some (ghy c):=by
 rw[g62];unfold ghy;by_cases h2:48≤c <;> by_cases h3:c≤57 <;> simp[h2,h3]
theorem gp4 {γ : Type} (A B I : Bool) (X Y : Option γ) (hI : I = true) :
   (some A >>=fun r_1=>some (!r_1) >>=fun t26=>if(I || (!t26))=true then(if t26=true then some B else some false) >>=fun r_2=>if(bif t26 then(!r_2)else false)=true then X else Y else none)=if(A || B)=true then Y else X:=by
 subst hI;cases A <;> cases B <;> rfl
theorem gqu(s:List UInt8) :∃r,g2n s=some r∧g3c s=some r:=by
 rw[g2n,g3c];simp only[oZ4,oZ3];by_cases hb:s=[]∨24 < s.length
 · have ht:(bif decide (s=[])then true else decide (24 < (s.length:Int)))=true:=by
     rcases hb with h | h
     · simp[h]
     · simp;omega
   rw[ht];exact⟨false,by simp,by simp⟩
 · have hne:s≠[]:=fun h=>hb (.inl h)
   have hlen:s.length≤24:=by omega
   have ht:(bif decide (s=[])then true else decide (24 < (s.length:Int)))=false:=by
     simp[hne];omega
   have hpos:0 < s.length:=List.length_pos_iff.2 hne;have hin:inR 0 s.length=true:=g8 (k:=0) hpos;simp only[ht,hin,Bool.true_or,if_true,Bool.not_false,oZ3,gn5,gn6,cond_false];cases hl:gbe (g82 s 0)with
   | false=>exact⟨false,rfl,rfl⟩
   | true=>
     rw[if_neg (by simp),if_neg (by simp)]
     let p:Nat→Bool:=fun i=>gbe (g82 s i) || ghy (g82 s i)
     have s1:=scan (fun i=>g36 (s,(s.length:Int),(i:Int))) s.length p (.inl false) (.inr ())
       (fun i hi=>by
         rw[g36,if_pos (by simp;omega),if_pos (g8 hi),gn5,gvh,gp (by omega)]
         exact gp4 _ _ _ _ _ (g8 hi))
       (by rw[g36,if_neg (by simp)])
     have s2:=scan (fun i=>g1t (s,(i:Int))) s.length p (.inl false) (.inr ())
       (fun i hi=>by
         rw[g1t,if_pos (by simp;omega),if_pos (g8 hi),gn6,gvi,gp (by omega)]
         exact gp4 _ _ _ _ _ (g8 hi))
       (by rw[g1t,if_neg (by simp)])
     have e1:g36 (s,(s.length:Int),((0:Nat):Int))=g36 (s,(s.length:Int),0):=rfl;have e2:g1t (s,((0:Nat):Int))=g1t (s,0):=rfl;simp only[e1,e2]at s1 s2;rcases s1 with⟨a1,a2⟩ | ⟨a1,j,a2,a3⟩ <;> rcases s2 with⟨b1,b2⟩ | ⟨b1,k,b2,b3⟩
     · exact⟨true,by rw[a1];rfl,by rw[b1];rfl⟩
     · have:=a2 k b2;rw[b3]at this;cases this
     · have:=b2 j a2;rw[a3]at this;cases this
     · exact⟨false,by rw[a1];rfl,by rw[b1];rfl⟩
def nm(s:List UInt8) :Bool:=(g2n s).getD false
theorem lexNm(s:List UInt8) :g2n s=some (nm s):=by
 obtain⟨r,h1,_⟩:=gqu s;unfold nm;rw[h1];rfl
theorem refNm(s:List UInt8) :g3c s=some (nm s):=by
 obtain⟨r,h1,h2⟩:=gqu s;unfold nm;rw[h1,h2];rfl
theorem nm_ne{s:List UInt8}(h:nm s=true) :s≠[]:=by
 rintro rfl
 unfold nm at h;rw[g2n]at h;simp at h
def idp(l:List Int)(names:List (List UInt8))(i:Nat) :Bool:=
 decide (1≤l.getD i 0) && decide (l.getD i 0≤1000) && (decide (i=0) || decide (l.getD (i - 1) 0 < l.getD i 0)) && nm (names.getD i []) && !((names.take i).contains (names.getD i []))
def setOf(l:List (List UInt8)) :List (List UInt8):=l.foldl addS []
theorem gvj(ks:List (List UInt8))(a s:List UInt8) :hasS (addS ks a) s=(hasS ks s || decide (a=s)):=by
 unfold addS;split
 · rename_i h;by_cases e:a=s
   · subst e;simp[h]
   · simp[e]
 · simp[hasS,List.any_append]
theorem gln(l:List (List UInt8))(s:List UInt8) :hasS (setOf l) s=l.contains s:=by
 have key:∀(l:List (List UInt8)) (ks:List (List UInt8)),hasS (l.foldl addS ks) s=(hasS ks s || l.contains s):=by
   intro l
   induction l with
   | nil=>intro ks;simp
   | cons a r ih=>
     intro ks;rw[List.foldl_cons,ih,gvj,Bool.or_assoc]
     congr 1
     rw[List.contains_cons]
     congr 1
     by_cases e:a=s
     · subst e;simp
     · have:¬s=a:=fun h=>e h.symm
       simp[e,this]
 have:=key l []
 simpa[setOf,hasS]using this
theorem glo{l:List (List UInt8)}{i:Nat}(h:i < l.length) :addS (setOf (l.take i)) (l.getD i [])=setOf (l.take (i+1)):=by
 unfold setOf;rw[List.take_add_one,List.foldl_append,List.getElem?_eq_getElem h,g13 h];rfl
theorem gwc {γ : Type} (A Z I1 C I H N : Bool) (X Y : Option γ) (hI : I = true) (hI1 : Z = true → I1 = true) :
   (if(I1 || (!((!A) && Z)))=true then
     some (bif A then true else bif Z then C else false) >>=fun t34=>
     if(I || (!(!t34)))=true then
       some (bif t34 then true else H) >>=fun t42=>
       if(I || (!(!t42)))=true then
         (if(!t42)=true then some N else some false) >>=fun r=>
         if(bif t42 then true else(!r))=true then X else(if I=true then Y else none)
       else none
     else none
   else none)=if(!A && (!Z || !C) && N && !H)=true then Y else X:=by
 subst hI;cases Z with
 | true=>have:=hI1 rfl;subst this;cases A <;> cases C <;> cases H <;> cases N <;> rfl
 | false=>cases A <;> cases I1 <;> cases C <;> cases H <;> cases N <;> rfl
theorem guh{l:List Int}{names:List (List UInt8)}(hl:l.length≤reachBytes)(hn:names.length=l.length) :∃r,g93 (l,names)=some r∧(r=true↔(∀i,i < l.length→idp l names i=true)∧l.length≤16):=by
 rw[g93];have hr:=g12 hl;have hsc:=scan (fun i=>g3u (l,names,l,(l.length:Int),(i:Int),setOf (names.take i))) l.length (idp l names) (.inl false) (.inr l)
   (fun i hi=>by
     have hin:i < names.length:=by omega
     rw[g3u,if_pos (by simp;omega),if_pos (g8 hi)];simp only[gf];rw[lexNm,gp (by omega),glo hin,gln];have hsub:0 < i→subI .i64 (i:Int) 1=((i - 1:Nat):Int):=by
       intro h;rw[gh9 (by omega) (by omega)];omega
     refine(gwc (bif decide (l.getD i 0 < 1)then true else decide (1000 < l.getD i 0)) (decide ((0:Int) < (i:Int))) (inR (subI .i64 (i:Int) 1) l.length) (decide (l.getD i 0≤l.getD (subI .i64 (i:Int) 1).toNat 0)) (inR (i:Int) names.length) ((names.take i).contains (names.getD i [])) (nm (names.getD i [])) _ _ (g8 hin) (fun hz=>?_)).trans ?_
     · have hpos:0 < i:=by simp at hz;omega
       rw[hsub hpos];exact g8 (by omega)
     · have:(!(bif decide (l.getD i 0 < 1)then true else decide (1000 < l.getD i 0)) && (!(decide ((0:Int) < (i:Int))) || !(decide (l.getD i 0≤l.getD (subI .i64 (i:Int) 1).toNat 0))) && nm (names.getD i []) && !((names.take i).contains (names.getD i [])))=idp l names i:=by
         unfold idp;generalize nm (names.getD i [])=N;generalize (names.take i).contains (names.getD i [])=H;generalize l.getD i 0=x;by_cases h0:i=0
         · subst h0;cases N <;> cases H <;> by_cases h1:1≤x <;> by_cases h2:x≤1000 <;> simp[h1,h2] <;> omega
         · have hz:decide ((0:Int) < (i:Int))=true:=by simp;omega
           rw[hz,hsub (by omega),gf];generalize l.getD (i - 1) 0=y;cases N <;> cases H <;> by_cases h1:1≤x <;> by_cases h2:x≤1000 <;> by_cases h3:y < x <;> simp[h0,h1,h2,h3] <;> omega
       rw[this])
   (by rw[g3u,if_neg (by simp)])
 have e0:g3u (l,names,l,(l.length:Int),((0:Nat):Int),setOf (names.take 0))=g3u (l,names,l,(l.length:Int),0,[]):=rfl;simp only[e0]at hsc;rcases hsc with⟨h1,h2⟩ | ⟨h1,j,h2,h3⟩
 · rw[h1];refine⟨decide ((l.length:Int)≤16),rfl,?_⟩;simp only[decide_eq_true_eq];constructor
   · intro h;exact⟨h2,by omega⟩
   · intro h;omega
 · rw[h1];refine⟨false,rfl,?_⟩;constructor
   · intro h;cases h
   · rintro ⟨h,_⟩
     have:=h j h2;rw[h3]at this;cases this
end
section
open Go Go.Proofs.YtandcioiaooocaaGreat.Shv
set_option maxRecDepth 100000
theorem room8{k n:Nat}(hk:k≤16)(h:n*24≤reachBytes) :room k n=true:=by
 unfold room g43 g1c;unfold reachBytes at h;simp only[Bool.and_eq_true,decide_eq_true_eq];have:(2*n+192)*k≤(2*n+192)*16:=Nat.mul_le_mul_left _ hk;omega
theorem g8l{α:Type}(l:List α)(i:Nat)(d:α)(h:i < l.length) :l.take i++[l.getD i d]=l.take (i+1):=by
 rw[List.take_add_one,List.getElem?_eq_getElem h,g13 h];rfl
theorem g1x{α β:Type}(f:α→β)(l:List α)(i:Nat)(d:α)(e:β)(h:i < l.length) :(l.map f).getD i e=f (l.getD i d):=by
 rw[g13 h,g13 (by simpa using h)];simp
theorem g47{l:List (List UInt8)}{i:Nat}{s:List UInt8}(hi:i≤l.length) :(l.take i).contains s=true↔∃k,k < i∧l.getD k []=s:=by
 rw[List.contains_iff_mem];constructor
 · intro h;obtain⟨k,hk,he⟩:=List.getElem_of_mem h;rw[List.length_take]at hk;refine⟨k,by omega,?_⟩;rw[g13 (by omega),←he,List.getElem_take]
 · rintro ⟨k,hk,he⟩
   rw[←he,g13 (by omega)];have:(l.take i)[k]'(by rw[List.length_take];omega)=l[k]:=List.getElem_take;rw[←this];exact List.getElem_mem _
def bef(l:List Int)(i:Nat) :Int:=if i=0 then 0 else l.getD (i - 1) 0
theorem gqv {l : List Int} {names : List (List UInt8)} {i : Nat} (hi : i < l.length) (hn : names.length = l.length) :
   idp l names i=(decide (bef l i < l.getD i 0) && decide (1≤l.getD i 0) && decide (l.getD i 0≤1000) && nm (names.getD i []) && !((names.take i).contains (names.getD i []))):=by
 unfold idp bef;generalize l.getD i 0=x;generalize l.getD (i - 1) 0=y;generalize nm (names.getD i [])=a;generalize (names.take i).contains (names.getD i [])=b;by_cases h0:i=0
 · subst h0;by_cases h1:1≤x
   · have:decide ((0:Int) < x)=true:=by simp;omega
     simp[h1,this]
   · simp[h1]
 · simp only[h0,if_false,decide_false,Bool.false_or];by_cases h1:1≤x <;> by_cases h2:x≤1000 <;> by_cases h3:y < x <;> simp[h1,h2,h3]
theorem glp(l:List SSymbol)(hl:l.length*24≤reachBytes) :∀(k i:Nat),i+k=l.length→g30 (l,l,(l.length:Int),(i:Int),(l.map (·.ID)).take i,(l.map (·.Name)).take i)=some (l,l.map (·.ID),l.map (·.Name))
 | 0,i,h=>by
   have:i=l.length:=by omega
   subst this;rw[g30,if_neg (by simp)];rw[List.take_of_length_le (by simp),List.take_of_length_le (by simp)]
 | k+1,i,h=>by
   have hr:l.length < 9223372036854775807:=by unfold reachBytes at hl;omega
   have hi:i < l.length:=by omega
   rw[g30,if_pos (by simp;omega),if_pos (g8 hi)];simp only[oZ4,oZ3,gf];rw[←g1x (·.ID) l i dSSymbol 0 hi,←g1x (·.Name) l i dSSymbol [] hi,g8l _ _ _ (by simpa using hi),g8l _ _ _ (by simpa using hi)];rw[if_pos (room8 (by omega) (by simp;omega)),if_pos (room8 (by omega) (by simp;omega)),gp (by omega)];exact glp l hl k (i+1) (by omega)
theorem gqw{l:List SSymbol}(hl:l.length*24≤reachBytes) :∃r,g53 l=some r∧(r=true↔0 < l.length∧(∀i,i < l.length→idp (l.map (·.ID)) (l.map (·.Name)) i=true)∧l.length≤16):=by
 have h:=glp l hl l.length 0 (by omega);have h':g30 (l,l,(l.length:Int),0,[],[])=some (l,l.map (·.ID),l.map (·.Name)):=h;rw[g53,h'];simp only[oZ4,oZ3];obtain⟨r,h1,h2⟩:=guh (l:=l.map (·.ID)) (names:=l.map (·.Name)) (by simp;unfold reachBytes at*;omega) (by simp);rw[List.length_map]at h2;rw[h1]
 refine⟨decide (0 < (l.length:Int)) && r,?_,?_⟩
 · cases decide (0 < (l.length:Int)) <;> rfl
 · rw[Bool.and_eq_true,h2,decide_eq_true_eq];constructor
   · rintro ⟨a,b⟩;exact⟨by omega,b⟩
   · rintro ⟨a,b⟩;exact⟨by omega,b⟩
theorem refId(a b:Int) :g6h (a,b)=some (decide (a < b) && decide (1≤b) && decide (b≤1000)):=by
 rw[g6h];cases decide (a < b) <;> cases decide (1≤b) <;> rfl
theorem gse (l : List SSymbol) (hl : l.length ≤ reachBytes) (i : Nat) (hi : i < l.length) :
   g1a (l,(i:Int),0)=some (if((l.map (·.Name)).take i).contains ((l.map (·.Name)).getD i [])=true then .inl false else .inr (l,(i:Int))):=by
 have hr:=g12 hl;have hsc:=scan (fun k=>g1a (l,(i:Int),(k:Int))) i (fun k=>!(decide ((l.getD k dSSymbol).Name=(l.getD i dSSymbol).Name))) (.inl false) (.inr (l,(i:Int)))
   (fun k hk=>by
     rw[g1a,if_pos (by simp;omega),if_pos (g8 (by omega)),if_pos (g8 hi),gp (by omega)];simp only[gf]
     cases decide ((l.getD k dSSymbol).Name=(l.getD i dSSymbol).Name) <;> rfl)
   (by rw[g1a,if_neg (by simp)])
 have e0:g1a (l,(i:Int),((0:Nat):Int))=g1a (l,(i:Int),0):=rfl;simp only[e0]at hsc;rw[g1x (·.Name) l i dSSymbol [] hi];rcases hsc with⟨h1,h2⟩ | ⟨h1,j,h2,h3⟩
 · rw[h1,if_neg];rw[g47 (by simp;omega)]
   rintro ⟨k,hk,he⟩
   rw[g1x (·.Name) l k dSSymbol [] (by omega)]at he;have:=h2 k hk;rw[he]at this;simp at this
 · rw[h1,if_pos];rw[g47 (by simp;omega)];refine⟨j,h2,?_⟩;rw[g1x (·.Name) l j dSSymbol [] (by omega)]
   simpa using h3
theorem gwd{l:List SSymbol}(hl:l.length≤reachBytes) :∃r,g4e l=some r∧(r=true↔0 < l.length∧(∀i,i < l.length→idp (l.map (·.ID)) (l.map (·.Name)) i=true)∧l.length≤16):=by
 have hr:=g12 hl;have hsc:=scan (fun i=>g1q (l,bef (l.map (·.ID)) i,(i:Int))) l.length (idp (l.map (·.ID)) (l.map (·.Name))) (.inl false) (.inr l)
   (fun i hi=>by
     rw[g1q,if_pos (by simp;omega),if_pos (g8 hi),refId,gse l hl i hi,gqv (by simpa using hi) (by simp)];simp only[oZ4,oZ3,gf];rw[←g1x (·.ID) l i dSSymbol 0 hi,←g1x (·.Name) l i dSSymbol [] hi,refNm]
     generalize (decide (bef (l.map (·.ID)) i < (l.map (·.ID)).getD i 0) && decide (1≤(l.map (·.ID)).getD i 0) && decide ((l.map (·.ID)).getD i 0≤1000))=q;rw[if_pos (by rw[g8 hi];rfl)];cases q with
     | false=>rfl
     | true=>
       simp only[Bool.not_true,Bool.not_false,if_true,oZ3,Bool.true_and];cases nm ((l.map (·.Name)).getD i [])with
       | false=>rfl
       | true=>
         simp only[Bool.not_true,cond_false,Bool.false_eq_true,if_false,Bool.true_and];cases hc:((l.map (·.Name)).take i).contains ((l.map (·.Name)).getD i [])with
         | true=>simp
         | false=>
           simp only[Bool.false_eq_true,if_false,Bool.not_false,if_true];rw[if_pos (g8 hi),gp (by omega)];have:bef (l.map (·.ID)) (i+1)=(l.getD i dSSymbol).ID:=by
             unfold bef;rw[if_neg (by omega)];exact g1x (·.ID) l i dSSymbol 0 hi
           rw[this]
           rfl)
   (by rw[g1q,if_neg (by simp)])
 have e0:g1q (l,bef (l.map (·.ID)) 0,((0:Nat):Int))=g1q (l,0,0):=rfl;simp only[e0]at hsc;rw[g4e];rcases hsc with⟨h1,h2⟩ | ⟨h1,j,h2,h3⟩
 · rw[h1];refine⟨_,rfl,?_⟩;simp only[Bool.cond_eq_ite];constructor
   · intro h;split at h
     · rename_i h4;simp at h h4;exact⟨by omega,h2,by omega⟩
     · cases h
   · rintro ⟨a,_,b⟩
     rw[if_pos (by simp;omega)];simp;omega
 · rw[h1];refine⟨false,rfl,?_⟩;constructor
   · intro h;cases h
   · rintro ⟨_,h,_⟩
     have:=h j h2;rw[h3]at this;cases this
theorem gui{l:List SSymbol}(hl:l.length*24≤reachBytes) :∃r,g53 l=some r∧g4e l=some r:=by
 obtain⟨r,h1,h2⟩:=gqw hl;obtain⟨q,h3,h4⟩:=gwd (l:=l) (by unfold reachBytes at*;omega);have:r=q:=Bool.eq_iff_iff.2 (h2.trans h4.symm);exact⟨r,h1,by rw[this];exact h3⟩
end
section
open Go Go.Proofs.YtandcioiaooocaaGreat.Shv
set_option maxRecDepth 100000
structure OkT (t:SType):Prop where
 syms:t.Symbols.length*24≤reachBytes
 mems:t.Members.length*24≤reachBytes
 dv:∀m,m∈t.Members→OkV m.Default
theorem g4h{n:Nat}(h:n*24≤reachBytes) :n≤reachBytes:=by unfold reachBytes at*;omega
theorem gsf{a b:SMember} :a=b↔a.ID=b.ID∧a.Name=b.Name∧a.Type_=b.Type_∧a.Critical=b.Critical∧a.HasDefault=b.HasDefault∧a.Default=b.Default:=by
 cases a;cases b;simp
theorem g7u(x:SMember) :(⟨x.ID,x.Name,x.Type_,x.Critical,x.HasDefault,SValue.eta x.Default⟩:SMember)=x:=by cases x;simp[SValue.gu]
theorem fiveM{a b:SMember} :(bif bif bif bif decide (a.ID=b.ID)then decide (a.Name=b.Name)else false then decide (a.Type_=b.Type_)else false then eqB a.Critical b.Critical else false then eqB a.HasDefault b.HasDefault else false)=true↔a.ID=b.ID∧a.Name=b.Name∧a.Type_=b.Type_∧a.Critical=b.Critical∧a.HasDefault=b.HasDefault:=by
 simp only[Bool.cond_eq_ite,eqB];by_cases h1:a.ID=b.ID <;> by_cases h2:a.Name=b.Name <;> by_cases h3:a.Type_=b.Type_ <;> by_cases h4:a.Critical=b.Critical <;> simp[h1,h2,h3,h4]
theorem twoM {a b : SMember} {q : Bool} (hq : q = true ↔ a.ID = b.ID ∧ a.Name = b.Name ∧ a.Type_ = b.Type_ ∧ a.Critical = b.Critical ∧ a.HasDefault = b.HasDefault) {x : Option Bool} (hx : Says x a.Default b.Default) :
   Says (some q >>=fun t37=>(if t37=true then x else some false) >>=fun r=>some (bif t37 then r else false)) a b:=by
 obtain⟨rx,h1,h2⟩:=hx;subst h1;refine⟨q && rx,by cases q <;> cases rx <;> rfl,?_⟩;rw[gsf,Bool.and_eq_true,hq,h2];constructor
 · rintro ⟨⟨a1,a2,a3,a4,a5⟩,a6⟩;exact⟨a1,a2,a3,a4,a5,a6⟩
 · rintro ⟨a1,a2,a3,a4,a5,a6⟩;exact⟨⟨a1,a2,a3,a4,a5⟩,a6⟩
theorem guj{a:SMember}(h:OkV a.Default)(b:SMember) :Says (g69 (a,b)) a b:=by
 rw[g69];simp only[gcv,SValue.gu];exact twoM fiveM (gfo h _)
theorem guk{a:SMember}(h:OkV a.Default)(b:SMember) :Says (g3t (a,b)) a b:=by
 rw[g3t];simp only[gcv,SValue.gu];exact twoM fiveM (gmb h _)
theorem gjb {f : SMember × SMember → Option Bool} {γ : Type} {g : γ} {a b : List SMember} (hl : a.length = b.length) (ih : ∀ x, x ∈ a → ∀ y, Says (f (x, y)) x y) (L : Nat → Option (Bool ⊕ γ))
   (hstep:∀i,i < a.length→L i=(f (a.getD i dSMember,b.getD i dSMember) >>=fun r=>if(!r)=true then some (.inl false)else L (i+1)))
   (hend:L a.length=some (.inr g)):(L 0=some (.inr g)∧a=b)∨(L 0=some (.inl false)∧a≠b):=by
 have hget:∀(i:Nat) (h1:i < a.length) (h2:i < b.length),Says (f (a.getD i dSMember,b.getD i dSMember)) a[i] b[i]:=by
   intro i h1 h2;rw[g13 h1,g13 h2];exact ih _ (List.getElem_mem h1) _
 have hp:∀(i:Nat) (h1:i < a.length) (h2:i < b.length),(f (a.getD i dSMember,b.getD i dSMember)).getD false=true↔a[i]=b[i]:=by
   intro i h1 h2;obtain⟨r,h3,h4⟩:=hget i h1 h2;rw[h3];exact h4
 have:=scan L a.length (fun i=>(f (a.getD i dSMember,b.getD i dSMember)).getD false) (.inl false) (.inr g)
   (fun i hi=>by
     obtain⟨r,h1,h2⟩:=hget i hi (by omega);rw[hstep i hi,h1]
     cases r <;> rfl) hend
 rcases this with⟨h1,h2⟩ | ⟨h1,j,h2,h3⟩
 · exact .inl ⟨h1,(g51 hl hp).1 h2⟩
 · refine .inr ⟨h1,fun e=>?_⟩;have:=(g51 hl hp).2 e j h2;rw[h3]at this;cases this
theorem gp5{a b:List SMember}(ha:a.length≤reachBytes)(hd:∀m,m∈a→OkV m.Default) :Says (g11 (a,b)) a b:=by
 rw[g11];by_cases hl:a.length=b.length
 · rw[if_neg (by simp;omega)];have hr:=g12 ha;have hs:=gjb (g:=()) hl (f:=g69) (fun x hx y=>guj (hd x hx) y) (fun i=>gb (b,a,(a.length:Int),(i:Int)))
     (fun i hi=>by
       rw[gb,if_pos (by simp;omega),if_pos (g8 hi)];simp only[oZ4,oZ3,gf,g7u]
       rw[if_pos (g8 (by omega)),gp (by omega)])
     (by rw[gb,if_neg (by simp)])
   have e0:gb (b,a,(a.length:Int),((0:Nat):Int))=gb (b,a,(a.length:Int),0):=rfl;simp only[e0]at hs;rcases hs with⟨h1,h2⟩ | ⟨h1,h2⟩
   · rw[h1];exact⟨true,rfl,by simp[h2]⟩
   · rw[h1];exact⟨false,rfl,by simp[h2]⟩
 · rw[if_pos (by simp;omega)];exact gcc hl
theorem gfp{a b:SType} :a=b↔a.Kind=b.Kind∧a.Name=b.Name∧a.Low=b.Low∧a.High=b.High∧a.Max=b.Max∧a.Key=b.Key∧a.Elem=b.Elem∧a.Open=b.Open∧a.Symbols=b.Symbols∧a.Members=b.Members:=by
 cases a;cases b;simp only[SType.mk.injEq];constructor
 · rintro ⟨h1,h2,h3,h4,h5,h6,h7,h8,h9,h10⟩;exact⟨h1,h2,h3,h4,h5,h8,h9,h10,h6,h7⟩
 · rintro ⟨h1,h2,h3,h4,h5,h6,h7,h8,h9,h10⟩;exact⟨h1,h2,h3,h4,h5,h9,h10,h6,h7,h8⟩
theorem gyx {a b : SType} : (bif bif bif bif bif bif bif decide (a.Kind = b.Kind) then decide (a.Name = b.Name) else false then decide (a.Low = b.Low) else false then decide (a.High = b.High) else false then decide (a.Max = b.Max) else false then decide (a.Key = b.Key) else false then decide (a.Elem = b.Elem) else false then eqB a.Open b.Open else false) = true ↔
   a.Kind=b.Kind∧a.Name=b.Name∧a.Low=b.Low∧a.High=b.High∧a.Max=b.Max∧a.Key=b.Key∧a.Elem=b.Elem∧a.Open=b.Open:=by
 simp only[Bool.cond_eq_ite,eqB];by_cases h1:a.Kind=b.Kind <;> by_cases h2:a.Name=b.Name <;> by_cases h3:a.Low=b.Low <;> by_cases h4:a.High=b.High <;> simp[h1,h2,h3,h4]
 by_cases h5:a.Max=b.Max <;> by_cases h6:a.Key=b.Key <;> by_cases h7:a.Elem=b.Elem <;> simp[h5,h6,h7]
theorem g3o{a:SType}(h:OkT a)(b:SType) :Says (g19 (a,b)) a b:=by
 rw[g19];obtain⟨rs,s1,s2⟩:=gyw (a:=a.Symbols) (b:=b.Symbols) (g4h h.syms);obtain⟨rm,m1,m2⟩:=gp5 (a:=a.Members) (b:=b.Members) (g4h h.mems) h.dv;have e8:=gyx (a:=a) (b:=b)
 generalize (bif bif bif bif bif bif bif decide (a.Kind=b.Kind)then decide (a.Name=b.Name)else false then decide (a.Low=b.Low)else false then decide (a.High=b.High)else false then decide (a.Max=b.Max)else false then decide (a.Key=b.Key)else false then decide (a.Elem=b.Elem)else false then eqB a.Open b.Open else false)=q at e8 ⊢
 simp only[oZ4,oZ3];rw[s1,m1];refine⟨q && rs && rm,by cases q <;> cases rs <;> cases rm <;> rfl,?_⟩;rw[gfp,Bool.and_eq_true,Bool.and_eq_true,e8,s2,m2];constructor
 · rintro ⟨⟨⟨a1,a2,a3,a4,a5,a6,a7,a8⟩,a9⟩,a10⟩;exact⟨a1,a2,a3,a4,a5,a6,a7,a8,a9,a10⟩
 · rintro ⟨a1,a2,a3,a4,a5,a6,a7,a8,a9,a10⟩;exact⟨⟨⟨a1,a2,a3,a4,a5,a6,a7,a8⟩,a9⟩,a10⟩
theorem gk1(a:SType) :(⟨a.Kind,a.Name,a.Low,a.High,a.Max,a.Symbols,a.Members,a.Key,a.Elem,a.Open⟩:SType)=a:=by cases a;rfl
theorem g7v{a:SType}(h:OkT a)(b:SType) :Says (g4z (a,b)) a b:=by
 rw[g4z];simp only[gk1];by_cases h5:(a.Kind=b.Kind∧a.Name=b.Name∧a.Low=b.Low∧a.High=b.High∧a.Max=b.Max∧a.Key=b.Key∧a.Elem=b.Elem∧a.Open=b.Open)∧a.Symbols.length=b.Symbols.length∧a.Members.length=b.Members.length
 · obtain⟨⟨e1,e2,e3,e4,e5,e6,e7,e8⟩,e9,e10⟩:=h5;rw[if_neg (by simp[e1,e2,e3,e4,e5,e6,e7,e8,e9,e10,eqB])];have hr:=g12 (g4h h.syms);have hr2:=g12 (g4h h.mems)
   have hsc:=scan (fun i=>g1l ((i:Int),a,b)) a.Symbols.length (fun i=>eqI (a.Symbols.getD i dSSymbol).ID (b.Symbols.getD i dSSymbol).ID && (eqS (a.Symbols.getD i dSSymbol).Name (b.Symbols.getD i dSSymbol).Name && true)) (.inl false) (.inr (a,b))
     (fun i hi'=>by
       rw[g1l,if_pos (by simp;omega),if_pos (g8 hi')];simp only[oZ4,oZ3,gf];rw[if_pos (g8 (by omega)),gp (by omega)];generalize (eqI (a.Symbols.getD i dSSymbol).ID (b.Symbols.getD i dSSymbol).ID && (eqS (a.Symbols.getD i dSSymbol).Name (b.Symbols.getD i dSSymbol).Name && true))=c
       cases c <;> rfl)
     (by rw[g1l,if_neg (by simp)])
   have h0:g1l (((0:Nat):Int),a,b)=g1l (0,a,b):=rfl;simp only[h0]at hsc;have hp:∀(i:Nat) (h1:i < a.Symbols.length) (h2:i < b.Symbols.length),(eqI (a.Symbols.getD i dSSymbol).ID (b.Symbols.getD i dSSymbol).ID && (eqS (a.Symbols.getD i dSSymbol).Name (b.Symbols.getD i dSSymbol).Name && true))=true↔a.Symbols[i]=b.Symbols[i]:=fun i h1 h2=>by
     rw[g13 h1,g13 h2];exact gug
   rcases hsc with⟨g1,g2⟩ | ⟨g1,j,g2,g3⟩
   · have hsy:=(g51 e9 hp).1 g2;rw[g1];simp only[oZ4,oZ3];have hs:=gjb (g:=()) e10 (f:=g3t) (fun x hx y=>guk (h.dv x hx) y) (fun i=>g1m ((i:Int),a,b))
       (fun i hi=>by
         rw[g1m,if_pos (by simp;omega),if_pos (g8 hi)];simp only[oZ4,oZ3,gf,g7u]
         rw[if_pos (g8 (by omega)),gp (by omega)])
       (by rw[g1m,if_neg (by simp)])
     have e0:g1m (((0:Nat):Int),a,b)=g1m (0,a,b):=rfl;simp only[e0]at hs;rcases hs with⟨k1,k2⟩ | ⟨k1,k2⟩
     · rw[k1];refine⟨true,rfl,?_⟩;rw[gfp];simp[e1,e2,e3,e4,e5,e6,e7,e8,hsy,k2]
     · rw[k1];refine⟨false,rfl,?_⟩;rw[gfp];simp[k2]
   · rw[g1];refine⟨false,rfl,?_⟩;constructor
     · intro h;cases h
     · intro h;have:=(g51 e9 hp).2 (gfp.1 h).2.2.2.2.2.2.2.2.1 j g2;rw[g3]at this;cases this
 · rw[if_pos]
   · refine⟨false,rfl,?_⟩;constructor
     · intro h;cases h
     · intro h
       exfalso;apply h5
       subst h;simp
   · simp only[Bool.cond_eq_ite,eqB];by_cases q1:a.Kind=b.Kind <;> by_cases q2:a.Name=b.Name <;> by_cases q3:a.Low=b.Low <;> by_cases q4:a.High=b.High <;> simp[q1,q2,q3,q4]
     by_cases q5:a.Max=b.Max <;> by_cases q6:a.Key=b.Key <;> by_cases q7:a.Elem=b.Elem <;> by_cases q8:a.Open=b.Open <;> simp[q5,q6,q7,q8]
     by_cases q9:a.Symbols.length=b.Symbols.length
     · by_cases q10:a.Members.length=b.Members.length
       · exact absurd ⟨⟨q1,q2,q3,q4,q5,q6,q7,q8⟩,q9,q10⟩ h5
       · right;omega
     · left;omega
end
section
open Go Go.Proofs.YtandcioiaooocaaGreat.Shv
set_option maxRecDepth 100000
def gac(v:SValue) :Bool:=(g3r (v,dSValue)).getD false
theorem gwe{v:SValue}(h:OkV v) :g3r (v,dSValue)=some (gac v):=by
 obtain⟨r,h1,h2⟩:=gfo h dSValue;unfold gac;rw[h1];rfl
theorem gwf{v:SValue}(h:OkV v) :g1d (v,dSValue)=some (gac v):=by
 obtain⟨r,h1,h2⟩:=gfo h dSValue;obtain⟨q,h3,h4⟩:=gmb h dSValue;unfold gac;rw[h1,h3];have:q=r:=Bool.eq_iff_iff.2 (h4.trans h2.symm);rw[this];rfl
theorem gvk{v:SValue}(h:OkV v) :g94 v=some (gac v):=by
 rw[g94,SValue.gu];have:=gwe h;unfold dSValue at this;rw[this];rfl
def badM(union:Bool)(m:SMember) :Bool:=(union && (m.Critical || m.HasDefault)) || (m.Critical && m.HasDefault) || (!m.HasDefault && !gac m.Default)
theorem g16{α:Type}{l:List α}{i:Nat}(h:i < l.length)(d:α) :l.getD i d∈l:=by
 rw[g13 h];exact List.getElem_mem h
theorem glq{t:SType}(h:OkT t) :∃r,g4g t=some r∧(r=true↔(∀i,i < t.Members.length→badM (decide (t.Kind=6)) (t.Members.getD i dSMember)=false)∧(t.Kind=5∨0 < t.Members.length)∧(∀i,i < t.Members.length→idp (t.Members.map (·.ID)) (t.Members.map (·.Name)) i=true)∧t.Members.length≤16):=by
 have hr:t.Members.length < 9223372036854775807:=g12 (g4h h.mems);have hsc:=scan (fun i=>g2j (t.Members,(t.Members.length:Int),(i:Int),t,(t.Members.map (·.ID)).take i,(t.Members.map (·.Name)).take i)) t.Members.length (fun i=>!(badM (decide (t.Kind=6)) (t.Members.getD i dSMember))) (.inl false) (.inr (t,t.Members.map (·.ID),t.Members.map (·.Name)))
   (fun i hi=>by
     have hz:=gvk (h.dv _ (g16 hi dSMember));rw[g2j,if_pos (by simp;omega),if_pos (g8 hi)];simp only[oZ4,oZ3,gf,SValue.gu];rw[←g1x (·.ID) t.Members i dSMember 0 hi,←g1x (·.Name) t.Members i dSMember [] hi,g8l _ _ _ (by simpa using hi),g8l _ _ _ (by simpa using hi)];have hb:((t.Members.map (·.ID)).take (i+1)).length*24≤reachBytes:=by
       refine Nat.le_trans (Nat.mul_le_mul_right _ ?_) h.mems;simp;omega
     have hb2:((t.Members.map (·.Name)).take (i+1)).length*24≤reachBytes:=by
       refine Nat.le_trans (Nat.mul_le_mul_right _ ?_) h.mems;simp;omega
     rw[if_pos (room8 (by omega) hb),if_pos (room8 (by omega) hb2),gp (by omega),hz];unfold badM
     cases decide (t.Kind=6) <;> cases (t.Members.getD i dSMember).Critical <;> cases (t.Members.getD i dSMember).HasDefault <;> cases gac (t.Members.getD i dSMember).Default <;> rfl)
   (by
     rw[g2j,if_neg (by simp)]
     rw[List.take_of_length_le (by simp),List.take_of_length_le (by simp)])
 have e0:g2j (t.Members,(t.Members.length:Int),((0:Nat):Int),t,(t.Members.map (·.ID)).take 0,(t.Members.map (·.Name)).take 0)=g2j (t.Members,(t.Members.length:Int),0,t,[],[]):=rfl;simp only[e0]at hsc;rw[g4g];obtain⟨r,h1,h2⟩:=guh (l:=t.Members.map (·.ID)) (names:=t.Members.map (·.Name)) (by simpa using g4h h.mems) (by simp);rw[List.length_map]at h2
 rcases hsc with⟨g1,g2⟩ | ⟨g1,j,g2,g3⟩
 · rw[g1];simp only[oZ4,oZ3];rw[h1];refine⟨(bif decide (t.Kind=5)then true else decide (0 < ((t.Members.map (·.ID)).length:Int))) && r,?_,?_⟩
   · cases (bif decide (t.Kind=5)then true else decide (0 < ((t.Members.map (·.ID)).length:Int))) <;> rfl
   · rw[Bool.and_eq_true,h2];have e5:(bif decide (t.Kind=5)then true else decide (0 < ((t.Members.map (·.ID)).length:Int)))=true↔(t.Kind=5∨0 < t.Members.length):=by
       by_cases h5:t.Kind=5 <;> simp[h5]
     rw[e5];constructor
     · rintro ⟨a,b,c⟩
       exact⟨fun i hi=>by simpa using g2 i hi,a,b,c⟩
     · rintro ⟨_,a,b,c⟩;exact⟨a,b,c⟩
 · rw[g1];refine⟨false,rfl,?_⟩;constructor
   · intro h;cases h
   · rintro ⟨a,_⟩
     have h5:=a j g2;have g3':(!(badM (decide (t.Kind=6)) (t.Members.getD j dSMember)))=false:=g3;rw[h5]at g3';cases g3'
theorem gsg (l : List SMember) (record : Bool) (hl : l.length ≤ reachBytes) (i : Nat) (hi : i < l.length) :
   g1b (l,record,(i:Int),0,l.getD i dSMember)=some (if((l.map (·.Name)).take i).contains ((l.map (·.Name)).getD i [])=true then .inl false else .inr (l,record,(i:Int),l.getD i dSMember)):=by
 have hr:=g12 hl;have hsc:=scan (fun k=>g1b (l,record,(i:Int),(k:Int),l.getD i dSMember)) i (fun k=>!(decide ((l.getD k dSMember).Name=(l.getD i dSMember).Name))) (.inl false) (.inr (l,record,(i:Int),l.getD i dSMember))
   (fun k hk=>by
     rw[g1b,if_pos (by simp;omega),if_pos (g8 (by omega)),gp (by omega)];simp only[gf,g7u]
     cases decide ((l.getD k dSMember).Name=(l.getD i dSMember).Name) <;> rfl)
   (by rw[g1b,if_neg (by simp),g7u])
 have e0:g1b (l,record,(i:Int),((0:Nat):Int),l.getD i dSMember)=g1b (l,record,(i:Int),0,l.getD i dSMember):=rfl;simp only[e0]at hsc;rw[g1x (·.Name) l i dSMember [] hi];rcases hsc with⟨h1,h2⟩ | ⟨h1,j,h2,h3⟩
 · rw[h1,if_neg];rw[g47 (by simp;omega)]
   rintro ⟨k,hk,he⟩
   rw[g1x (·.Name) l k dSMember [] (by omega)]at he;have:=h2 k hk;rw[he]at this;simp at this
 · rw[h1,if_pos];rw[g47 (by simp;omega)];refine⟨j,h2,?_⟩;rw[g1x (·.Name) l j dSMember [] (by omega)]
   simpa using h3
theorem gsh{l:List SMember}{record:Bool}(hl:l.length≤reachBytes)(hd:∀m,m∈l→OkV m.Default) :∃r,g3n (l,record)=some r∧(r=true↔(∀i,i < l.length→badM (!record) (l.getD i dSMember)=false)∧(record=true∨0 < l.length)∧(∀i,i < l.length→idp (l.map (·.ID)) (l.map (·.Name)) i=true)∧l.length≤16):=by
 have hr:=g12 hl;have hsc:=scan (fun i=>g1r (l,record,bef (l.map (·.ID)) i,(i:Int))) l.length (fun i=>idp (l.map (·.ID)) (l.map (·.Name)) i && !(badM (!record) (l.getD i dSMember))) (.inl false) (.inr (l,record))
   (fun i hi=>by
     have hz:=gwf (hd _ (g16 hi dSMember));unfold dSValue at hz;rw[g1r,if_pos (by simp;omega),if_pos (g8 hi)];simp only[oZ4,oZ3,gf,SValue.gu,g7u,gqv (l:=l.map (·.ID)) (names:=l.map (·.Name)) (i:=i) (by simpa using hi) (by simp)];rw[gsg l record hl i hi,hz];have hbef:bef (l.map (·.ID)) (i+1)=(l.getD i dSMember).ID:=by
       unfold bef;rw[if_neg (by omega)];exact g1x (·.ID) l i dSMember 0 hi
     rw[←g1x (·.ID) l i dSMember 0 hi,←g1x (·.Name) l i dSMember [] hi,refId,refNm];simp only[oZ3];generalize (decide (bef (l.map (·.ID)) i < (l.map (·.ID)).getD i 0) && decide (1≤(l.map (·.ID)).getD i 0) && decide ((l.map (·.ID)).getD i 0≤1000))=q;cases q with
     | false=>simp
     | true=>
       simp only[Bool.not_true,Bool.not_false,if_true,oZ3,Bool.true_and];cases nm ((l.map (·.Name)).getD i [])with
       | false=>simp
       | true=>
         simp only[Bool.not_true,Bool.true_and,Bool.or_false,cond_false];unfold badM;cases record <;> cases (l.getD i dSMember).Critical <;> cases (l.getD i dSMember).HasDefault <;> cases gac (l.getD i dSMember).Default <;>
           simp only[Bool.not_true,Bool.not_false,Bool.or_self,Bool.and_self,Bool.or_true,Bool.true_or,Bool.and_true,Bool.and_false,Bool.false_and,Bool.true_and,Bool.false_or,Bool.or_false,cond_true,cond_false,if_true,if_false,Bool.false_eq_true,oZ3] <;>
           first
             | rfl
             | (cases hc:((l.map (·.Name)).take i).contains ((l.map (·.Name)).getD i [])with
               | true=>simp
               | false=>
                 simp only[Bool.false_eq_true,if_false,Bool.not_false,if_true];rw[gp (by omega),hbef]
                 try rfl))
   (by rw[g1r,if_neg (by simp)])
 have e0:g1r (l,record,bef (l.map (·.ID)) 0,((0:Nat):Int))=g1r (l,record,0,0):=rfl;simp only[e0]at hsc;rw[g3n];rcases hsc with⟨h1,h2⟩ | ⟨h1,j,h2,h3⟩
 · rw[h1];refine⟨_,rfl,?_⟩;have h2':∀i,i < l.length→idp (l.map (·.ID)) (l.map (·.Name)) i=true∧badM (!record) (l.getD i dSMember)=false:=fun i hi=>by
     have:=h2 i hi
     simpa using this
   simp only[Bool.cond_eq_ite];constructor
   · intro h;split at h
     · rename_i h4;refine⟨fun i hi=>(h2' i hi).2,?_,fun i hi=>(h2' i hi).1,by simp at h4;omega⟩;cases record with
       | true=>exact .inl rfl
       | false=>right;simp at h;omega
     · cases h
   · rintro ⟨_,a,_,b⟩
     rw[if_pos (by simp;omega)];cases record with
     | true=>rfl
     | false=>simp at a ⊢;omega
 · rw[h1];refine⟨false,rfl,?_⟩;constructor
   · intro h;cases h
   · rintro ⟨a,_,b,_⟩
     have h5:=b j h2;have h6:=a j h2;rw[h5,h6]at h3;cases h3
theorem gn7{t:SType}(h:OkT t)(hk:t.Kind=5∨t.Kind=6) :∃r,g4g t=some r∧g3n (t.Members,decide (t.Kind=5))=some r:=by
 obtain⟨r,h1,h2⟩:=glq h;obtain⟨q,h3,h4⟩:=gsh (l:=t.Members) (record:=decide (t.Kind=5)) (g4h h.mems) h.dv;have hu:(!(decide (t.Kind=5)))=decide (t.Kind=6):=by
   rcases hk with e | e <;> rw[e] <;> rfl
 rw[hu]at h4;have e5:decide (t.Kind=5)=true↔t.Kind=5:=decide_eq_true_iff;rw[e5]at h4;have:r=q:=Bool.eq_iff_iff.2 (h2.trans h4.symm);exact⟨r,h1,by rw[this];exact h3⟩
end
end Go.Proofs.YtandcioiaooocaaGreat
