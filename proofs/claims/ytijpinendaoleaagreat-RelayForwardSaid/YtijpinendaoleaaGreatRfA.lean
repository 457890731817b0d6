/- The functions of the program as functions of Lean, that its code does what they say, and what they answer; part A. -/
import Derived.Test.YtijpinendaoleaaGreatProg
import Derived.KernelRfl
import Derived.Shelf.SlGeneric
import Derived.Shelf.SlLaysF0
import Derived.Shelf.SlSortCmp.WholeK
import Derived.Lib.Small
import Derived.Test.YtijpinendaoleaaGreatRfLD

namespace Go.Proofs.YtijpinendaoleaaGreat
set_option linter.all false
section
open Go Go.Proofs.YtijpinendaoleaaGreat.Shv
open Tryz
set_option maxRecDepth 100000
structure jj where
 ID:Int
 Type_:Int
 Flag:Int
structure bC where
 Kind:Int
 A:Int
 B:Int
 C:Int
 Parts:List jj
structure aT where
 Nodes:List bC
structure aL where
 ID:Int
 Name:List UInt8
structure aE where
 ID:Int
 Data:List UInt8
structure ab where
 Kind:Int
 Bool_:Bool
 Int_:Int
 Str:List UInt8
 ID:Int
 Keys:List ab
 Items:List ab
 Rest:List aE
structure ap where
 ID:Int
 Name:List UInt8
 Type_:Int
 Critical:Bool
 HasDefault:Bool
 Default:ab
structure ae where
 Kind:Int
 Name:List UInt8
 Low:Int
 High:Int
 Max:Int
 Symbols:List aL
 Members:List ap
 Key:Int
 Elem:Int
 Open:Bool
structure av where
 Types:List ae
structure aM where
 ID:Int
 Critical:Bool
 Data:List UInt8
structure bX where
 Path:List Int
 Reason:Int
structure bl where
 id:Int
 text:List UInt8
structure ma where
 t:Int
 number:Int
structure aG where
 Value:ab
 Failure:bX
 OK:Bool
structure lM where
 s:av
structure gf where
 S:aT
 T:Int
 C:List Int
structure ll where
 D:gf
 C:List Int
abbrev tx :Nat:=0
abbrev qc :Nat:=1
abbrev tC :Nat:=2
def lb :jj:=⟨0,0,0⟩
def cb :bC:=⟨0,0,0,0,[]⟩
def tD :aT:=⟨[]⟩
def aQ :aL:=⟨0,[]⟩
def az :aE:=⟨0,[]⟩
def af :ab:=⟨0,false,0,[],0,[],[],[]⟩
def aj :ap:=⟨0,[],0,false,false,af⟩
def ag :ae:=⟨0,[],0,0,0,[],[],0,0,false⟩
def sj :av:=⟨[]⟩
def bj :aM:=⟨0,false,[]⟩
def xl :bX:=⟨[],0⟩
def jr :bl:=⟨0,[]⟩
def Hl :ma:=⟨0,0⟩
def DL :aG:=⟨af,xl,false⟩
def E4 :lM:=⟨sj⟩
def tE :gf:=⟨tD,0,[]⟩
def Eu :ll:=⟨tE,[]⟩
def uD :Nat->Type
 | 0=>aT
 | 1=>bC
 | 2=>jj
 | 3=>ae
 | 4=>aL
 | 5=>ap
 | 6=>ab
 | 7=>aE
 | 8=>av
 | 9=>aM
 | 10=>bX
 | 11=>bl
 | 12=>ma
 | 13=>aG
 | 14=>lM
 | 15=>gf
 | 16=>ll
 | _=>Bool
def uTys :Nat->List Ty
 | 0=>[.slice (.nm 1)]
 | 1=>[.int .u8,.int .u8,.int .u8,.int .u8,.slice (.nm 2)]
 | 2=>[.int .u8,.int .u8,.int .u8]
 | 3=>[.int .i64,.str,.int .i64,.int .i64,.int .i64,.slice (.nm 4),.slice (.nm 5),.int .i64,.int .i64,.bool]
 | 4=>[.int .i64,.str]
 | 5=>[.int .i64,.str,.int .i64,.bool,.bool,.int .i64,.bool,.int .i64,.str,.int .i64,.slice (.nm 6),.slice (.nm 6),.slice (.nm 7)]
 | 6=>[.int .i64,.bool,.int .i64,.str,.int .i64,.slice (.nm 6),.slice (.nm 6),.slice (.nm 7)]
 | 7=>[.int .i64,.str]
 | 8=>[.slice (.nm 3)]
 | 9=>[.int .i64,.bool,.str]
 | 10=>[.slice (.int .i64),.int .i64]
 | 11=>[.int .i64,.str]
 | 12=>[.int .i64,.int .i64]
 | 13=>[.int .i64,.bool,.int .i64,.str,.int .i64,.slice (.nm 6),.slice (.nm 6),.slice (.nm 7),.slice (.int .i64),.int .i64,.bool]
 | 14=>[.slice (.nm 3)]
 | 15=>[.slice (.nm 1),.int .u8,.slice (.int .u8)]
 | 16=>[.slice (.nm 1),.int .u8,.slice (.int .u8),.slice (.int .u8)]
 | _=>[.bool]
def uFlds :(n:Nat)->uD n->List (Cell uD)
 | 0,(x:aT)=>[⟨.slice (.nm 1),x.Nodes⟩]
 | 1,(x:bC)=>[⟨.int .u8,x.Kind⟩,⟨.int .u8,x.A⟩,⟨.int .u8,x.B⟩,⟨.int .u8,x.C⟩,⟨.slice (.nm 2),x.Parts⟩]
 | 2,(x:jj)=>[⟨.int .u8,x.ID⟩,⟨.int .u8,x.Type_⟩,⟨.int .u8,x.Flag⟩]
 | 3,(x:ae)=>[⟨.int .i64,x.Kind⟩,⟨.str,x.Name⟩,⟨.int .i64,x.Low⟩,⟨.int .i64,x.High⟩,⟨.int .i64,x.Max⟩,⟨.slice (.nm 4),x.Symbols⟩,⟨.slice (.nm 5),x.Members⟩,⟨.int .i64,x.Key⟩,⟨.int .i64,x.Elem⟩,⟨.bool,x.Open⟩]
 | 4,(x:aL)=>[⟨.int .i64,x.ID⟩,⟨.str,x.Name⟩]
 | 5,(x:ap)=>[⟨.int .i64,x.ID⟩,⟨.str,x.Name⟩,⟨.int .i64,x.Type_⟩,⟨.bool,x.Critical⟩,⟨.bool,x.HasDefault⟩,⟨.int .i64,x.Default.Kind⟩,⟨.bool,x.Default.Bool_⟩,⟨.int .i64,x.Default.Int_⟩,⟨.str,x.Default.Str⟩,⟨.int .i64,x.Default.ID⟩,⟨.slice (.nm 6),x.Default.Keys⟩,⟨.slice (.nm 6),x.Default.Items⟩,⟨.slice (.nm 7),x.Default.Rest⟩]
 | 6,(x:ab)=>[⟨.int .i64,x.Kind⟩,⟨.bool,x.Bool_⟩,⟨.int .i64,x.Int_⟩,⟨.str,x.Str⟩,⟨.int .i64,x.ID⟩,⟨.slice (.nm 6),x.Keys⟩,⟨.slice (.nm 6),x.Items⟩,⟨.slice (.nm 7),x.Rest⟩]
 | 7,(x:aE)=>[⟨.int .i64,x.ID⟩,⟨.str,x.Data⟩]
 | 8,(x:av)=>[⟨.slice (.nm 3),x.Types⟩]
 | 9,(x:aM)=>[⟨.int .i64,x.ID⟩,⟨.bool,x.Critical⟩,⟨.str,x.Data⟩]
 | 10,(x:bX)=>[⟨.slice (.int .i64),x.Path⟩,⟨.int .i64,x.Reason⟩]
 | 11,(x:bl)=>[⟨.int .i64,x.id⟩,⟨.str,x.text⟩]
 | 12,(x:ma)=>[⟨.int .i64,x.t⟩,⟨.int .i64,x.number⟩]
 | 13,(x:aG)=>[⟨.int .i64,x.Value.Kind⟩,⟨.bool,x.Value.Bool_⟩,⟨.int .i64,x.Value.Int_⟩,⟨.str,x.Value.Str⟩,⟨.int .i64,x.Value.ID⟩,⟨.slice (.nm 6),x.Value.Keys⟩,⟨.slice (.nm 6),x.Value.Items⟩,⟨.slice (.nm 7),x.Value.Rest⟩,⟨.slice (.int .i64),x.Failure.Path⟩,⟨.int .i64,x.Failure.Reason⟩,⟨.bool,x.OK⟩]
 | 14,(x:lM)=>[⟨.slice (.nm 3),x.s.Types⟩]
 | 15,(x:gf)=>[⟨.slice (.nm 1),x.S.Nodes⟩,⟨.int .u8,x.T⟩,⟨.slice (.int .u8),x.C⟩]
 | 16,(x:ll)=>[⟨.slice (.nm 1),x.D.S.Nodes⟩,⟨.int .u8,x.D.T⟩,⟨.slice (.int .u8),x.D.C⟩,⟨.slice (.int .u8),x.C⟩]
 | _+17,(x:Bool)=>[⟨.bool,x⟩]
def uMake :(n:Nat)->List (Cell uD)->Option (uD n)
 | 0,l=>match Hs.dec uD (uTys 0) l with
  | some h=>some (⟨h⟩:aT)
  | none=>none
 | 1,l=>match Hs.dec uD (uTys 1) l with
  | some h=>some (⟨h.1,h.2.1,h.2.2.1,h.2.2.2.1,h.2.2.2.2⟩:bC)
  | none=>none
 | 2,l=>match Hs.dec uD (uTys 2) l with
  | some h=>some (⟨h.1,h.2.1,h.2.2⟩:jj)
  | none=>none
 | 3,l=>match Hs.dec uD (uTys 3) l with
  | some h=>some (⟨h.1,h.2.1,h.2.2.1,h.2.2.2.1,h.2.2.2.2.1,h.2.2.2.2.2.1,h.2.2.2.2.2.2.1,h.2.2.2.2.2.2.2.1,h.2.2.2.2.2.2.2.2.1,h.2.2.2.2.2.2.2.2.2⟩:ae)
  | none=>none
 | 4,l=>match Hs.dec uD (uTys 4) l with
  | some h=>some (⟨h.1,h.2⟩:aL)
  | none=>none
 | 5,l=>match Hs.dec uD (uTys 5) l with
  | some h=>some (⟨h.1,h.2.1,h.2.2.1,h.2.2.2.1,h.2.2.2.2.1,(⟨h.2.2.2.2.2.1,h.2.2.2.2.2.2.1,h.2.2.2.2.2.2.2.1,h.2.2.2.2.2.2.2.2.1,h.2.2.2.2.2.2.2.2.2.1,h.2.2.2.2.2.2.2.2.2.2.1,h.2.2.2.2.2.2.2.2.2.2.2.1,h.2.2.2.2.2.2.2.2.2.2.2.2⟩:ab)⟩:ap)
  | none=>none
 | 6,l=>match Hs.dec uD (uTys 6) l with
  | some h=>some (⟨h.1,h.2.1,h.2.2.1,h.2.2.2.1,h.2.2.2.2.1,h.2.2.2.2.2.1,h.2.2.2.2.2.2.1,h.2.2.2.2.2.2.2⟩:ab)
  | none=>none
 | 7,l=>match Hs.dec uD (uTys 7) l with
  | some h=>some (⟨h.1,h.2⟩:aE)
  | none=>none
 | 8,l=>match Hs.dec uD (uTys 8) l with
  | some h=>some (⟨h⟩:av)
  | none=>none
 | 9,l=>match Hs.dec uD (uTys 9) l with
  | some h=>some (⟨h.1,h.2.1,h.2.2⟩:aM)
  | none=>none
 | 10,l=>match Hs.dec uD (uTys 10) l with
  | some h=>some (⟨h.1,h.2⟩:bX)
  | none=>none
 | 11,l=>match Hs.dec uD (uTys 11) l with
  | some h=>some (⟨h.1,h.2⟩:bl)
  | none=>none
 | 12,l=>match Hs.dec uD (uTys 12) l with
  | some h=>some (⟨h.1,h.2⟩:ma)
  | none=>none
 | 13,l=>match Hs.dec uD (uTys 13) l with
  | some h=>some (⟨(⟨h.1,h.2.1,h.2.2.1,h.2.2.2.1,h.2.2.2.2.1,h.2.2.2.2.2.1,h.2.2.2.2.2.2.1,h.2.2.2.2.2.2.2.1⟩:ab),(⟨h.2.2.2.2.2.2.2.2.1,h.2.2.2.2.2.2.2.2.2.1⟩:bX),h.2.2.2.2.2.2.2.2.2.2⟩:aG)
  | none=>none
 | 14,l=>match Hs.dec uD (uTys 14) l with
  | some h=>some (⟨(⟨h⟩:av)⟩:lM)
  | none=>none
 | 15,l=>match Hs.dec uD (uTys 15) l with
  | some h=>some (⟨(⟨h.1⟩:aT),h.2.1,h.2.2⟩:gf)
  | none=>none
 | 16,l=>match Hs.dec uD (uTys 16) l with
  | some h=>some (⟨(⟨(⟨h.1⟩:aT),h.2.1,h.2.2.1⟩:gf),h.2.2.2⟩:ll)
  | none=>none
 | _+17,l=>match Hs.dec uD [.bool] l with
  | some (h:Bool)=>some h
  | none=>none
def eSheaveref07Part(x:jj):List T:=[.int .u8 x.ID,.int .u8 x.Type_,.int .u8 x.Flag]
def eSheaveref07Node(x:bC):List T:=[.int .u8 x.Kind,.int .u8 x.A,.int .u8 x.B,.int .u8 x.C,.slice (x.Parts.map eSheaveref07Part)]
def eSheaveref07Draft(x:aT):List T:=[.slice (x.Nodes.map eSheaveref07Node)]
def eSSymbol(x:aL):List T:=[.int .i64 x.ID,.str x.Name]
def eSRaw(x:aE):List T:=[.int .i64 x.ID,.str x.Data]
def ab.eta(x:ab):ab:=⟨x.Kind,x.Bool_,x.Int_,x.Str,x.ID,x.Keys,x.Items,x.Rest⟩
theorem ab.aA(x:ab):x.eta=x:=by cases x;rfl
mutual
def eSValue :ab->List T
 | ⟨a0,a1,a2,a3,a4,a5,a6,a7⟩=>[.int .i64 a0,.bool a1,.int .i64 a2,.str a3,.int .i64 a4,.slice (eSValueL a5),.slice (eSValueL a6),.slice (a7.map eSRaw)]
def eSValueL :List ab->List (List T)
 | []=>[]
 | v::r=>eSValue v::eSValueL r
end
theorem uP :∀l,eSValueL l=l.map eSValue
 | []=>rfl
 | v::r=>by simp only[eSValueL,List.map];rw[uP r]
theorem Hm(x:ab):eSValue x=[.int .i64 x.Kind,.bool x.Bool_,.int .i64 x.Int_,.str x.Str,.int .i64 x.ID,.slice (x.Keys.map eSValue),.slice (x.Items.map eSValue),.slice (x.Rest.map eSRaw)]:=by cases x;simp only[eSValue,uP]
def eSMember(x:ap):List T:=[.int .i64 x.ID,.str x.Name,.int .i64 x.Type_,.bool x.Critical,.bool x.HasDefault,.int .i64 x.Default.Kind,.bool x.Default.Bool_,.int .i64 x.Default.Int_,.str x.Default.Str,.int .i64 x.Default.ID,.slice (x.Default.Keys.map eSValue),.slice (x.Default.Items.map eSValue),.slice (x.Default.Rest.map eSRaw)]
def eSType(x:ae):List T:=[.int .i64 x.Kind,.str x.Name,.int .i64 x.Low,.int .i64 x.High,.int .i64 x.Max,.slice (x.Symbols.map eSSymbol),.slice (x.Members.map eSMember),.int .i64 x.Key,.int .i64 x.Elem,.bool x.Open]
def eSSchema(x:av):List T:=[.slice (x.Types.map eSType)]
def eSField(x:aM):List T:=[.int .i64 x.ID,.bool x.Critical,.str x.Data]
def eSFailure(x:bX):List T:=[.slice (x.Path.map (fun y=>[.int .i64 y])),.int .i64 x.Reason]
def eEncodeEntry(x:bl):List T:=[.int .i64 x.id,.str x.text]
def eRelayStep(x:ma):List T:=[.int .i64 x.t,.int .i64 x.number]
def eSheaveref10Result(x:aG):List T:=[.int .i64 x.Value.Kind,.bool x.Value.Bool_,.int .i64 x.Value.Int_,.str x.Value.Str,.int .i64 x.Value.ID,.slice (x.Value.Keys.map eSValue),.slice (x.Value.Items.map eSValue),.slice (x.Value.Rest.map eSRaw),.slice (x.Failure.Path.map (fun y=>[.int .i64 y])),.int .i64 x.Failure.Reason,.bool x.OK]
def eEncodeReader(x:lM):List T:=[.slice (x.s.Types.map eSType)]
def eSheaveref08Draft(x:gf):List T:=[.slice (x.S.Nodes.map eSheaveref07Node),.int .u8 x.T,.slice (x.C.map (fun y=>[.int .u8 y]))]
def eSheavelaw13Two(x:ll):List T:=[.slice (x.D.S.Nodes.map eSheaveref07Node),.int .u8 x.D.T,.slice (x.D.C.map (fun y=>[.int .u8 y])),.slice (x.C.map (fun y=>[.int .u8 y]))]
def uEnc :(n:Nat)->uD n->List T
 | 0,x=>eSheaveref07Draft x
 | 1,x=>eSheaveref07Node x
 | 2,x=>eSheaveref07Part x
 | 3,x=>eSType x
 | 4,x=>eSSymbol x
 | 5,x=>eSMember x
 | 6,x=>eSValue x
 | 7,x=>eSRaw x
 | 8,x=>eSSchema x
 | 9,x=>eSField x
 | 10,x=>eSFailure x
 | 11,x=>eEncodeEntry x
 | 12,x=>eRelayStep x
 | 13,x=>eSheaveref10Result x
 | 14,x=>eEncodeReader x
 | 15,x=>eSheaveref08Draft x
 | 16,x=>eSheavelaw13Two x
 | _+17,(x:Bool)=>[.bool x]
def Un :Uni where
 D:=uD
 dfl:=fun n=>match n with
  | 0=>tD
  | 1=>cb
  | 2=>lb
  | 3=>ag
  | 4=>aQ
  | 5=>aj
  | 6=>af
  | 7=>az
  | 8=>sj
  | 9=>bj
  | 10=>xl
  | 11=>jr
  | 12=>Hl
  | 13=>DL
  | 14=>E4
  | 15=>tE
  | 16=>Eu
  | _+17=>false
 flds:=uFlds
 make:=uMake
 tys:=uTys
 enc:=uEnc
 enc_eq:=fun n x=>match n,x with
  | 0,_=>rfl
  | 1,_=>rfl
  | 2,_=>rfl
  | 3,_=>rfl
  | 4,_=>rfl
  | 5,_=>rfl
  | 6,x=>Hm x
  | 7,_=>rfl
  | 8,_=>rfl
  | 9,_=>rfl
  | 10,_=>rfl
  | 11,_=>rfl
  | 12,_=>rfl
  | 13,_=>rfl
  | 14,_=>rfl
  | 15,_=>rfl
  | 16,_=>rfl
  | _+17,_=>rfl
 mk_eq:=fun n l x h=>match n,x,h with
  | 0,x,h=>by
   simp only[uMake]at h;split at h
   . rename_i hh hd;cases h;exact Hs.dec_cells hd
   . cases h
  | 1,x,h=>by
   simp only[uMake]at h;split at h
   . rename_i hh hd;cases h;exact Hs.dec_cells hd
   . cases h
  | 2,x,h=>by
   simp only[uMake]at h;split at h
   . rename_i hh hd;cases h;exact Hs.dec_cells hd
   . cases h
  | 3,x,h=>by
   simp only[uMake]at h;split at h
   . rename_i hh hd;cases h;exact Hs.dec_cells hd
   . cases h
  | 4,x,h=>by
   simp only[uMake]at h;split at h
   . rename_i hh hd;cases h;exact Hs.dec_cells hd
   . cases h
  | 5,x,h=>by
   simp only[uMake]at h;split at h
   . rename_i hh hd;cases h;exact Hs.dec_cells hd
   . cases h
  | 6,x,h=>by
   simp only[uMake]at h;split at h
   . rename_i hh hd;cases h;exact Hs.dec_cells hd
   . cases h
  | 7,x,h=>by
   simp only[uMake]at h;split at h
   . rename_i hh hd;cases h;exact Hs.dec_cells hd
   . cases h
  | 8,x,h=>by
   simp only[uMake]at h;split at h
   . rename_i hh hd;cases h;exact Hs.dec_cells hd
   . cases h
  | 9,x,h=>by
   simp only[uMake]at h;split at h
   . rename_i hh hd;cases h;exact Hs.dec_cells hd
   . cases h
  | 10,x,h=>by
   simp only[uMake]at h;split at h
   . rename_i hh hd;cases h;exact Hs.dec_cells hd
   . cases h
  | 11,x,h=>by
   simp only[uMake]at h;split at h
   . rename_i hh hd;cases h;exact Hs.dec_cells hd
   . cases h
  | 12,x,h=>by
   simp only[uMake]at h;split at h
   . rename_i hh hd;cases h;exact Hs.dec_cells hd
   . cases h
  | 13,x,h=>by
   simp only[uMake]at h;split at h
   . rename_i hh hd;cases h;exact Hs.dec_cells hd
   . cases h
  | 14,x,h=>by
   simp only[uMake]at h;split at h
   . rename_i hh hd;cases h;exact Hs.dec_cells hd
   . cases h
  | 15,x,h=>by
   simp only[uMake]at h;split at h
   . rename_i hh hd;cases h;exact Hs.dec_cells hd
   . cases h
  | 16,x,h=>by
   simp only[uMake]at h;split at h
   . rename_i hh hd;cases h;exact Hs.dec_cells hd
   . cases h
  | _+17,x,h=>by
   simp only[uMake]at h;split at h
   . rename_i hh hd;cases h;exact Hs.dec_cells hd
   . cases h
 tys_eq:=fun n x=>match n,x with
  | 0,_=>rfl
  | 1,_=>rfl
  | 2,_=>rfl
  | 3,_=>rfl
  | 4,_=>rfl
  | 5,_=>rfl
  | 6,_=>rfl
  | 7,_=>rfl
  | 8,_=>rfl
  | 9,_=>rfl
  | 10,_=>rfl
  | 11,_=>rfl
  | 12,_=>rfl
  | 13,_=>rfl
  | 14,_=>rfl
  | 15,_=>rfl
  | 16,_=>rfl
  | _+17,_=>rfl
 tyOf:=fun e=>match e with
  | 3=>some (.int .i64)
  | 5=>some (.int .u8)
  | 9=>some .str
  | 41=>some (.nm 6)
  | 69=>some (.slice (.int .i64))
  | 89=>some (.nm 3)
  | 94=>some (.nm 4)
  | 100=>some (.nm 7)
  | 127=>some (.nm 5)
  | 155=>some (.nm 12)
  | 194=>some (.nm 9)
  | 233=>some (.nm 11)
  | _=>none
 own:=[([false,true,true,false],1,.int .i64)]
 pos:=fun n=>match n with
  | 0=>by decide
  | 1=>by decide
  | 2=>by decide
  | 3=>by decide
  | 4=>by decide
  | 5=>by decide
  | 6=>by decide
  | 7=>by decide
  | 8=>by decide
  | 9=>by decide
  | 10=>by decide
  | 11=>by decide
  | 12=>by decide
  | 13=>by decide
  | 14=>by decide
  | 15=>by decide
  | 16=>by decide
  | _+17=>Nat.zero_lt_one
theorem NS :Un.Total:=fun n l h=>match n,h with
 | 0,h=>by
  obtain⟨x,hx⟩:=Hs.dec_ty (D:=uD) (ts:=uTys 0) h;exact⟨_,by show uMake 0 l=_;simp only[uMake,hx];rfl⟩
 | 1,h=>by
  obtain⟨x,hx⟩:=Hs.dec_ty (D:=uD) (ts:=uTys 1) h;exact⟨_,by show uMake 1 l=_;simp only[uMake,hx];rfl⟩
 | 2,h=>by
  obtain⟨x,hx⟩:=Hs.dec_ty (D:=uD) (ts:=uTys 2) h;exact⟨_,by show uMake 2 l=_;simp only[uMake,hx];rfl⟩
 | 3,h=>by
  obtain⟨x,hx⟩:=Hs.dec_ty (D:=uD) (ts:=uTys 3) h;exact⟨_,by show uMake 3 l=_;simp only[uMake,hx];rfl⟩
 | 4,h=>by
  obtain⟨x,hx⟩:=Hs.dec_ty (D:=uD) (ts:=uTys 4) h;exact⟨_,by show uMake 4 l=_;simp only[uMake,hx];rfl⟩
 | 5,h=>by
  obtain⟨x,hx⟩:=Hs.dec_ty (D:=uD) (ts:=uTys 5) h;exact⟨_,by show uMake 5 l=_;simp only[uMake,hx];rfl⟩
 | 6,h=>by
  obtain⟨x,hx⟩:=Hs.dec_ty (D:=uD) (ts:=uTys 6) h;exact⟨_,by show uMake 6 l=_;simp only[uMake,hx];rfl⟩
 | 7,h=>by
  obtain⟨x,hx⟩:=Hs.dec_ty (D:=uD) (ts:=uTys 7) h;exact⟨_,by show uMake 7 l=_;simp only[uMake,hx];rfl⟩
 | 8,h=>by
  obtain⟨x,hx⟩:=Hs.dec_ty (D:=uD) (ts:=uTys 8) h;exact⟨_,by show uMake 8 l=_;simp only[uMake,hx];rfl⟩
 | 9,h=>by
  obtain⟨x,hx⟩:=Hs.dec_ty (D:=uD) (ts:=uTys 9) h;exact⟨_,by show uMake 9 l=_;simp only[uMake,hx];rfl⟩
 | 10,h=>by
  obtain⟨x,hx⟩:=Hs.dec_ty (D:=uD) (ts:=uTys 10) h;exact⟨_,by show uMake 10 l=_;simp only[uMake,hx];rfl⟩
 | 11,h=>by
  obtain⟨x,hx⟩:=Hs.dec_ty (D:=uD) (ts:=uTys 11) h;exact⟨_,by show uMake 11 l=_;simp only[uMake,hx];rfl⟩
 | 12,h=>by
  obtain⟨x,hx⟩:=Hs.dec_ty (D:=uD) (ts:=uTys 12) h;exact⟨_,by show uMake 12 l=_;simp only[uMake,hx];rfl⟩
 | 13,h=>by
  obtain⟨x,hx⟩:=Hs.dec_ty (D:=uD) (ts:=uTys 13) h;exact⟨_,by show uMake 13 l=_;simp only[uMake,hx];rfl⟩
 | 14,h=>by
  obtain⟨x,hx⟩:=Hs.dec_ty (D:=uD) (ts:=uTys 14) h;exact⟨_,by show uMake 14 l=_;simp only[uMake,hx];rfl⟩
 | 15,h=>by
  obtain⟨x,hx⟩:=Hs.dec_ty (D:=uD) (ts:=uTys 15) h;exact⟨_,by show uMake 15 l=_;simp only[uMake,hx];rfl⟩
 | 16,h=>by
  obtain⟨x,hx⟩:=Hs.dec_ty (D:=uD) (ts:=uTys 16) h;exact⟨_,by show uMake 16 l=_;simp only[uMake,hx];rfl⟩
 | m+17,h=>by
  obtain⟨x,hx⟩:=Hs.dec_ty (D:=uD) (ts:=[.bool]) h;exact⟨x,by show uMake (m+17) l=_;simp only[uMake,hx];rfl⟩
end
section
open Go Go.Proofs.YtijpinendaoleaaGreat.Shv
open Tryz
set_option maxRecDepth 100000
open Go.Proofs Go.Proofs.YtijpinendaoleaaGreat Go.Shelf
theorem DN :bE prog 90=true:=by kernel_rfl
def g6 :FSpec Un:=pO Un 90 (.int .i64) 8
theorem C7 :FSnd prog g6:=He (sz:=1) (bytes:=8) (z:=[.t (.int .i64 0)]) func90 (by kernel_rfl) (by kernel_rfl) (by kernel_rfl) rfl rfl
theorem ja :FnC prog g6:=⟨DN,C7⟩
theorem DO :bE prog 103=true:=by kernel_rfl
def g7 :FSpec Un:=kf Un 103 (.nm 6) 120
theorem C8 :FSnd prog g7:=rP (sz:=8) (bytes:=120) (z:=[.t (.int .i64 0),.t (.bool false),.t (.int .i64 0),.t (.str []),.t (.int .i64 0),.cap0,.cap0,.cap0]) func103 (by kernel_rfl) (by kernel_rfl) (by kernel_rfl) rfl rfl
theorem jc :FnC prog g7:=⟨DO,C8⟩
theorem DR :bE prog 113=true:=by kernel_rfl
def g8 :FSpec Un:=kf Un 113 (.nm 7) 24
theorem C9 :FSnd prog g8:=rP (sz:=2) (bytes:=24) (z:=[.t (.int .i64 0),.t (.str [])]) func113 (by kernel_rfl) (by kernel_rfl) (by kernel_rfl) rfl rfl
theorem jd :FnC prog g8:=⟨DR,C9⟩
instance:Inhabited bl:=⟨jr⟩
instance:Inhabited (Un.D 11):=⟨jr⟩
def sortLt(x y:bl):Bool:=decide (x.id < y.id)
def qd(l:List bl):Option (List bl):=some (pdqBy sortLt l)
section
open Go.Proofs Go.Proofs.YtijpinendaoleaaGreat Go.Sort Go.RowKit Go.Lib
theorem sortNaN(x:Int)(w:World):Calls prog 208 #[.int .i64 x] w fun e w'=>e= .returned (.bool false)/\w'=w:=by
 go_enter func208,ntmps208
 go_wp2
 go_ret
 exact⟨by simp,rfl⟩
set_option maxHeartbeats 1000000 in
theorem sortCmp(x y:Int)(w:World):Calls prog 174 #[.int .i64 x,.int .i64 y] w fun e w'=>e= .returned (.int .i64 (Lib.compareInt x y))/\w'=w:=by
 go_enter func174,ntmps174
 go_wp2_with (go_at_call 208;refine(sortNaN _ _).mono ?_;rintro e w' ⟨rfl,hw⟩;rw[hw])
 all_goals (go_ret;refine⟨?_,rfl⟩;unfold Lib.compareInt;(repeat' split) <;> first | rfl | (exfalso;omega))
def sortEnc(x:bl):List Value:=[.int .i64 x.id,.string ⟨x.text.toArray⟩]
set_option maxHeartbeats 1000000 in
theorem sortClo(x y:Int)(s t:ByteArray)(W:World):Calls prog 173 #[.agg #[.int .i64 x,.string s],.agg #[.int .i64 y,.string t]] W fun e w'=>e= .returned (.int .i64 (Lib.compareInt x y))/\∃q os',w'=grow (W.drewN q) os':=by
 have hcon:=fun W'=>sortCmp x y W'
 generalize Lib.compareInt x y=r at hcon ⊢
 go_enter func173,ntmps173
 go_wp2_with (go_at_call 174;refine(hcon _).mono ?_;rintro e w' ⟨rfl,rfl⟩)
 go_ret
 exact⟨rfl,0,_,by rw[alloc_eq_grow,alloc_eq_grow,grow_grow];rfl⟩
def yj :Go.Shelf.Ren:=⟨fun | 6=>172 | 15=>207 | 14=>206 | 28=>234 | 29=>235 | 20=>226 | 21=>227 | 22=>228 | 23=>229 | 24=>230 | 25=>231 | 26=>232 | 27=>233 | 46=>236 | 47=>237 | 48=>238 | 49=>239 | 50=>240 | 57=>241 | n=>n,fun | 22=>230 | 24=>233 | 25=>236 | 3=>3 | 39=>229 | 0=>0 | 53=>275 | 55=>164 | 4=>4 | 46=>269 | 45=>268 | 50=>157 | 5=>5 | 9=>9 | 66=>277 | 70=>281 | 76=>283 | 77=>284 | n=>n,fun | n=>n⟩
theorem layS :SlLaysF0.n6 prog yj:={
 mixed:=by kernel_rfl
 f6:=⟨f172.name,by decide,func172.trans (congrArg some (by kernel_rfl))⟩
 f14:=⟨f206.name,by decide,func206.trans (congrArg some (by kernel_rfl))⟩
 f15:=func207.trans (congrArg some (by kernel_rfl))
 f20:=⟨f226.name,by decide,func226.trans (congrArg some (by kernel_rfl))⟩
 f21:=⟨f227.name,by decide,func227.trans (congrArg some (by kernel_rfl))⟩
 f22:=⟨f228.name,by decide,func228.trans (congrArg some (by kernel_rfl))⟩
 f23:=⟨f229.name,by decide,func229.trans (congrArg some (by kernel_rfl))⟩
 f24:=⟨f230.name,by decide,func230.trans (congrArg some (by kernel_rfl))⟩
 f25:=⟨f231.name,by decide,func231.trans (congrArg some (by kernel_rfl))⟩
 f26:=⟨f232.name,by decide,func232.trans (congrArg some (by kernel_rfl))⟩
 f27:=⟨f233.name,by decide,func233.trans (congrArg some (by kernel_rfl))⟩
 f28:=func234.trans (congrArg some (by kernel_rfl))
 f29:=func235.trans (congrArg some (by kernel_rfl))
 f46:=⟨f236.name,by decide,func236.trans (congrArg some (by kernel_rfl))⟩
 f47:=func237.trans (congrArg some (by kernel_rfl))
 f48:=func238.trans (congrArg some (by kernel_rfl))
 f49:=⟨f239.name,by decide,func239.trans (congrArg some (by kernel_rfl))⟩
 f50:=⟨f240.name,by decide,func240.trans (congrArg some (by kernel_rfl))⟩
 f57:=⟨f241.name,by decide,func241.trans (congrArg some (by kernel_rfl))⟩
 t0:=underlying0
 a0:=isAgg0
 z0:=sizeOf0
 v0:=zeroValue0
 t3:=underlying3
 a3:=isAgg3
 z3:=sizeOf3
 v3:=zeroValue3
 t4:=underlying4
 a4:=isAgg4
 z4:=sizeOf4
 v4:=zeroValue4
 t5:=underlying5
 a5:=isAgg5
 z5:=sizeOf5
 v5:=zeroValue5
 t9:=underlying9
 a9:=isAgg9
 z9:=sizeOf9
 v9:=zeroValue9
 t22:=underlying230
 a22:=isAgg230
 z22:=sizeOf230
 v22:=zeroValue230
 t25:=underlying236
 a25:=isAgg236
 z25:=sizeOf236
 v25:=zeroValue236
 t39:=underlying229
 a39:=isAgg229
 z39:=sizeOf229
 v39:=zeroValue229
 t45:=underlying268
 a45:=isAgg268
 z45:=sizeOf268
 v45:=zeroValue268
 t46:=underlying269
 a46:=isAgg269
 z46:=sizeOf269
 v46:=zeroValue269
 t50:=underlying157
 a50:=isAgg157
 z50:=sizeOf157
 v50:=zeroValue157
 t53:=underlying275
 a53:=isAgg275
 z53:=sizeOf275
 v53:=zeroValue275
 t55:=underlying164
 a55:=isAgg164
 z55:=sizeOf164
 v55:=zeroValue164
 t66:=underlying277
 a66:=isAgg277
 z66:=sizeOf277
 v66:=zeroValue277
 t70:=underlying281
 a70:=isAgg281
 z70:=sizeOf281
 v70:=zeroValue281
 t76:=underlying283
 a76:=isAgg283
 z76:=sizeOf283
 v76:=zeroValue283
 t77:=underlying284
 a77:=isAgg284
 z77:=sizeOf284
 v77:=zeroValue284}
theorem xm :ltOf (fun x y:bl=>Lib.compareInt x.id y.id)=sortLt:=by
 funext x y
 unfold ltOf sortLt Lib.compareInt;by_cases h1:x.id < y.id
 . simp[h1]
 . by_cases h2:y.id < x.id <;> simp[h1,h2]
theorem sortSWO :SWO sortLt:=KX (fun x:bl=>x.id)
set_option maxHeartbeats 2000000 in
theorem sortNoneI(p:Option Addr)(cap:Nat)(fv:Value)(w:World):Calls prog 226 #[.slice p 0 cap,.int .i64 0,.int .i64 0,fv] w fun e w'=>e= .returned (.tuple #[])/\w'=w:=by
 go_enter func226,ntmps226
 go_wp2
 refine wp_loop_rounds 1 ?_;rw[rounds_succ]
 go_wp2
 go_end0
 exact⟨rfl,rfl⟩
set_option maxHeartbeats 2000000 in
theorem sortNoneP(p:Option Addr)(cap:Nat)(lim:Int)(fv:Value)(w:World):Calls prog 206 #[.slice p 0 cap,.int .i64 0,.int .i64 0,.int .i64 lim,fv] w fun e w'=>e= .returned (.tuple #[])/\w'=w:=by
 have hi:=fun W=>sortNoneI p cap fv W
 go_enter func206,ntmps206
 go_wp2
 refine wp_loop_rounds 1 ?_;rw[rounds_succ]
 go_wp2_with (go_at_call 226;refine(hi _).mono ?_;rintro e w' ⟨rfl,rfl⟩)
 (try simp only[Exit.inBlock,Exit.then]);refine bodyPost_ret (results_none rfl _ _ _) rfl ?_
 exact⟨rfl,rfl⟩
set_option maxHeartbeats 2000000 in
theorem sortNone(p:Option Addr)(cap:Nat)(fv:Value)(w:World):Calls prog 172 #[.slice p 0 cap,fv] w fun e w'=>e= .returned (.tuple #[])/\w'=w:=by
 have hp:=fun lim W=>sortNoneP p cap lim fv W
 have hl:∀W,Calls prog 207 #[.int .u64 0] W fun e w'=>e= .returned (.int .i64 (Lib.bitLen 0:Nat))/\w'=W:=fun W=>by
  have h:=Any.bits_Len (SlLaysF0.n15.bits (P:=prog) (ρ:=yj) {layS with}) 0 W (by omega) (by omega);exact h
 go_enter func172,ntmps172
 go_wp2_with (first | (go_at_call 207;refine(hl _).mono ?_;rintro e w' ⟨rfl,rfl⟩) | (go_at_call 206;refine(hp _ _).mono ?_;rintro e w' ⟨rfl,rfl⟩))
 go_end0
 exact⟨rfl,rfl⟩
theorem sortWhole (blk off cap : Nat) (d : Array (Un.D 11)) (w : World) (hH : HoldsK sortEnc 2 w blk off d) (hblk : blk < w.heap.size) (hsz : d.size < 4611686018427387904):
 Calls prog 172 #[.slice (some ⟨blk,off,none⟩) d.size cap,.func (.func 173) #[] #[]] w fun e w'=>e= .returned (.tuple #[])/\∃n os,w'=sortWorldK sortEnc 2 w blk off n (pdq sortLt d 0 d.size (Lib.bitLen d.size) true true) os:=by
 have eg:∀args w,(callFunc 173 args).run prog w= .ok (.enter 173 args) w:=enters_of func173 (by kernel_rfl) rfl
 have h:=AnyQ.slices_SortFunc_eq (α:=bl) layS 2 isAgg233 sizeOf233 sortEnc (fun _=>rfl) (fun x v hv=>by simp[sortEnc]at hv;rcases hv with rfl | rfl <;> rfl) (fun x y=>Lib.compareInt x.id y.id) (by rw[xm];exact sortSWO) 173 #[] blk off cap d w eg (fun _ _ _ _ x y=>sortClo x.id y.id _ _ _) hH hblk hsz;rw[xm]at h;exact h
theorem LZ :bE prog 172=true:=by kernel_rfl
def qu :FSpec Un:=sortS Un 172 11 173 (pdqBy (α:=Un.D 11) sortLt)
theorem Ei :FSnd prog qu:=I8 (U:=Un) (n:=11) sortEnc sortLt sortSWO (fun _=>rfl) (fun w S x j t v h hr=>Hk w S x.id x.text j t v h hr) sortWhole sortNone
end
theorem qv :FnC prog qu:=⟨LZ,Ei⟩
def wq :Go.Shelf.Ren:=⟨fun | 240=>176 | 276=>209 | n=>n,fun | 0=>0 | 4=>4 | 9=>9 | 20=>20 | 37=>35 | 70=>198 | 72=>200 | 164=>256 | n=>n,fun n=>n⟩
theorem lay240 :Lays.n240 prog wq:={
 mixed:=by kernel_rfl
 f240:=func176.trans (congrArg some (by kernel_rfl))
 f276:=func209.trans (congrArg some (by kernel_rfl))
 t0:=underlying0
 a0:=isAgg0
 z0:=sizeOf0
 v0:=zeroValue0
 t4:=underlying4
 a4:=isAgg4
 z4:=sizeOf4
 v4:=zeroValue4
 t9:=underlying9
 a9:=isAgg9
 z9:=sizeOf9
 v9:=zeroValue9
 t20:=underlying20
 a20:=isAgg20
 z20:=sizeOf20
 v20:=zeroValue20
 t70:=underlying198
 a70:=isAgg198
 z70:=sizeOf198
 v70:=zeroValue198
 t72:=underlying200
 a72:=isAgg200
 z72:=sizeOf200
 v72:=zeroValue200
 t164:=underlying256
 a164:=isAgg256
 z164:=sizeOf256
 v164:=zeroValue256}
theorem layX72 :Builder.X72 prog wq:={
 sizeBuilder:=by kernel_rfl
 liesBuilder:=by kernel_rfl}
theorem L2 :bE prog 176=true:=by kernel_rfl
def im :FSpec Un:=pP Un 176 200 5
theorem D1 :FSnd prog im:=Ih lay240 layX72 rfl rfl
theorem jk :FnC prog im:=⟨L2,D1⟩
theorem D2 :bE prog 90=true:=by kernel_rfl
def hY :FSpec Un:=kf Un 90 (.int .i64) 8
theorem Do :FSnd prog hY:=rP (sz:=1) (bytes:=8) (z:=[.t (.int .i64 0)]) func90 (by kernel_rfl) (by kernel_rfl) (by kernel_rfl) rfl rfl
theorem kV :FnC prog hY:=⟨D2,Do⟩
end
section
open Go Go.Proofs.YtijpinendaoleaaGreat.Shv
open Tryz
set_option maxRecDepth 100000
abbrev FC(e:FEnt)(F:Hs Un.D e.ts->Option (Hs Un.D e.us)):Prop:=FnC prog (e.s F)
abbrev LC(f kk:Nat)(p:List Nat)(e:LEnt)(F:Hs Un.D e.ts->Option (OSum Un e.outs)):Prop:=LpC prog f kk p e F
abbrev KC(e:FEnt):Prop:=Fok prog e
abbrev FD(e:FEnt):Hs Un.D e.ts->Hs Un.D e.us->Prop:=FQ prog Un e
abbrev LD(f kk:Nat)(p:List Nat)(e:LEnt):Hs Un.D e.ts->OSum Un e.outs->Prop:=LQ prog Un f kk p e
theorem FH(e:FEnt)(k:KC e){F:Hs Un.D e.ts->Option (Hs Un.D e.us)}(h:∀h r,F h=some r->FD e h r):FC e F:= .of k h
theorem LH(e:LEnt){f kk:Nat}{p:List Nat}{F:Hs Un.D e.ts->Option (OSum Un e.outs)}(h:∀h o,F h=some o->LD f kk p e h o):LC f kk p e F:= .of h
theorem FA(e:FEnt)(k:KC e){fs:List (FSpec Un)}(hf:FoC prog fs){ls:List (Nat×LSpec Un)}(hl:LoC prog e.f e.st.length [] ls){h:Hs Un.D e.ts}{r:Hs Un.D e.us}(hx:xbody (foS fs) (loL ls) prog e h=some r):FD e h r:= .at k hf hl hx
theorem LA(e:LEnt){f kk:Nat}{p:List Nat}{F:Hs Un.D e.ts->Option (OSum Un e.outs)}(hF:∀h o,F h=some o->LD f kk p e h o){fs:List (FSpec Un)}(hf:FoC prog fs){ls:List (Nat×LSpec Un)}(hl:LoC prog f kk p ls){h:Hs Un.D e.ts}{o:OSum Un e.outs}(hx:iY (foS fs) (loL ls) kk (pathF prog f p) e F h=some o):LD f kk p e h o:= .at hF hf hl hx
def e40 :FEnt:=⟨40,[.row 0,hh tI],[],[.nm 0,tI],hh tI,[],[tI],[]⟩
def e41 :FEnt:=⟨41,[hh tI],[],[tI],hh .bool,[],[.bool],[]⟩
def e42 :FEnt:=⟨42,[.row 1],[],[.nm 1],hh tI,[],[tI],[]⟩
def e43 :FEnt:=⟨43,[.row 1],[],[.nm 1],hh tI,[],[tI],[]⟩
def e44_0 :LEnt:=⟨0,⟨[(1,hP 0 0),(3,.c (.arr 1)),(4,hh tI)],[.brow 1,.arr tI]⟩,[(.slot 3,tI)],[(.slot 3,tI)],[tI,.nm 1,tLI],[⟨.exit 0,⟨[(3,.c (.arr 0))],[.arr tI]⟩,[],[tLI]⟩],[]⟩
def e44 :FEnt:=⟨44,[.row 1],[],[.nm 1],hh tLI,[],[tLI],[e44_0]⟩
def e131 :FEnt:=⟨131,[hh tI],[],[tI],hh .bool,[],[.bool],[]⟩
def e79_0 :LEnt:=⟨0,⟨[(3,hP 0 0),(7,hh tI),(9,hh tI)],[bb (tL 1)]⟩,[],[],[tI,tI,tL 1],[oR 6 tI,oX 0],[]⟩
def e79 :FEnt:=⟨79,[.row 0,hh tI,hh (.int .u8)],[],[.nm 0,tI,.int .u8],hh tI,[],[tI],[e79_0]⟩
def e75 :FEnt:=⟨75,[hh tI],[],[tI],hh .bool,[],[.bool],[]⟩
def e46_0 :LEnt:=⟨0,⟨[(1,hh (.int .u8)),(2,hP 0 0),(5,hh tI),(6,hh tI)],[bb (tL 1)]⟩,[],[],[.int .u8,tI,tI,tL 1],[oR 4 tI,oX 0],[]⟩
def e46 :FEnt:=⟨46,[.row 0,hh (.int .u8)],[],[.nm 0,.int .u8],hh tI,[],[tI],[e46_0]⟩
def e80 :FEnt:=⟨80,[.row 0,hh tI,hh (.int .u8)],[],[.nm 0,tI,.int .u8],.tup [.row 6,hh .bool],[],[.nm 6,.bool],[]⟩
def zx :LEnt:=⟨0,⟨[(1,hh tI),(2,hh .bool),(3,hP 0 0),(7,hP 1 0),(8,.c (.arr 2)),(9,hh tI),(10,hh tI)],[bb (tL 1),.brow 1,.arr (.nm 5)]⟩,[],[],[tI,.bool,tI,tI,tL 1,.nm 1,tL 5],[⟨.exit 2,⟨[(1,hh tI),(2,hh .bool),(3,hP 0 0),(7,hP 1 0),(8,.c (.arr 2)),(9,hh tI)],[bb (tL 1),.brow 1,.arr (.nm 5)]⟩,[],[tI,.bool,tI,tL 1,.nm 1,tL 5]⟩],[]⟩
def e45_0 :LEnt:=⟨0,⟨[(1,hh tI),(2,hh .bool),(3,hP 0 0),(7,hP 1 0),(8,.c (.arr 2)),(9,hh tI)],[bb (tL 1),.brow 1,.arr (.nm 5)]⟩,[(.slot 8,.nm 5)],[(.slot 8,.nm 5)],[tI,.bool,tI,tL 1,.nm 1,tL 5],[⟨.exit 0,⟨[(8,.c (.arr 0))],[.arr (.nm 5)]⟩,[],[tL 5]⟩],[zx]⟩
def e45 :FEnt:=⟨45,[.row 0,hh tI,hh .bool],[],[.nm 0,tI,.bool],hh (tL 5),[],[tL 5],[e45_0]⟩
def zy :LEnt:=⟨0,⟨[(1,hP 0 0),(2,hP 1 0),(4,hh tI),(5,hP 2 0),(6,hh tI),(8,hP 3 0),(9,hh tLI),(10,hh tI)],[bb (tL 1),.box [.cap0],.box [.arr 4],.box [.hole tI,.hole .str,.hole tI,.hole tI,.hole tI,.arr 5,.cap0,.hole tI,.hole tI,.hole .bool],.arr (.nm 3),.arr (.nm 4)]⟩,[(.via 8 5,.nm 4)],[(.via 8 5,.nm 4)],[tI,tI,tLI,tI,tL 1,tI,.str,tI,tI,tI,tI,tI,.bool,tL 3,tL 4],[⟨.exit 3,⟨[(1,hP 0 0),(2,hP 1 0),(4,hh tI),(5,hP 2 0),(6,hh tI),(8,hP 3 0)],[bb (tL 1),.box [.cap0],.box [.arr 4],.box [.hole tI,.hole .str,.hole tI,.hole tI,.hole tI,.arr 5,.cap0,.hole tI,.hole tI,.hole .bool],.arr (.nm 3),.arr (.nm 4)]⟩,[],[tI,tI,tL 1,tI,.str,tI,tI,tI,tI,tI,.bool,tL 3,tL 4]⟩],[]⟩
def e10_0 :LEnt:=⟨0,⟨[(1,hP 0 0),(2,hP 1 0),(4,hh tI),(5,hP 2 0),(6,hh tI)],[bb (tL 1),.box [.cap0],.box [.arr 3],.arr (.nm 3)]⟩,[(.via 5 0,.nm 3)],[(.via 5 0,.nm 3)],[tI,tI,tL 1,tL 3],[⟨.exit 0,⟨[(2,hP 0 0),(5,hP 1 0)],[.box [.cap0],.box [.arr 2],.arr (.nm 3)]⟩,[],[tL 3]⟩],[zy]⟩
def e10 :FEnt:=⟨10,[.row 0],[],[.nm 0],.tup [.row 8,hh .bool],[],[.nm 8,.bool],[e10_0]⟩
def e47 :FEnt:=⟨47,[],[],[],.row 8,[],[.nm 8],[]⟩
def Aq :LEnt:=⟨0,⟨[(0,hh (tL 4)),(1,hh (tL 4)),(12,hh tI),(13,hh tI)],[]⟩,[],[],[tL 4,tL 4,tI,tI],[oR 4 .bool,oX 0],[]⟩
def e220 :FEnt:=⟨220,[hh (tL 4),hh (tL 4)],[],[tL 4,tL 4],hh .bool,[],[.bool],[Aq]⟩
def Ar :LEnt:=⟨0,⟨[(0,hh (tL 7)),(1,hh (tL 7)),(12,hh tI),(13,hh tI)],[]⟩,[],[],[tL 7,tL 7,tI,tI],[oR 4 .bool,oX 0],[]⟩
def e224 :FEnt:=⟨224,[hh (tL 7),hh (tL 7)],[],[tL 7,tL 7],hh .bool,[],[.bool],[Ar]⟩
def mi :LEnt:=⟨0,⟨[(1,hh (tL 6)),(2,.c (.fn 223 [])),(15,hh (tL 6)),(16,hh tI),(17,hh tI)],[]⟩,[],[],[tL 6,tL 6,tI,tI],[oR 6 .bool,oX 0],[]⟩
def kg :FEnt:=⟨225,[hh (tL 6),hh (tL 6),.c (.fn 223 [])],[],[tL 6,tL 6],hh .bool,[],[.bool],[mi]⟩
def e223 :FEnt:=⟨223,[.row 6,.row 6],[],[.nm 6,.nm 6],hh .bool,[],[.bool],[]⟩
def e222 :FEnt:=⟨222,[.row 5,.row 5],[],[.nm 5,.nm 5],hh .bool,[],[.bool],[]⟩
def As :LEnt:=⟨0,⟨[(1,hh (tL 5)),(2,.c (.fn 222 [])),(15,hh (tL 5)),(16,hh tI),(17,hh tI)],[]⟩,[],[],[tL 5,tL 5,tI,tI],[oR 6 .bool,oX 0],[]⟩
def e221 :FEnt:=⟨221,[hh (tL 5),hh (tL 5),.c (.fn 222 [])],[],[tL 5,tL 5],hh .bool,[],[.bool],[As]⟩
def e201 :FEnt:=⟨201,[.row 3,.row 3],[],[.nm 3,.nm 3],hh .bool,[],[.bool],[]⟩
def e216 :FEnt:=⟨216,[hh (.int .u8)],[],[.int .u8],hh .bool,[],[.bool],[]⟩
def e217 :FEnt:=⟨217,[hh (.int .u8)],[],[.int .u8],hh .bool,[],[.bool],[]⟩
def Au :LEnt:=⟨0,⟨[(0,hh .str),(18,hh tI),(19,hh tI)],[]⟩,[],[],[.str,tI,tI],[oR 2 .bool,oX 0],[]⟩
def e198 :FEnt:=⟨198,[hh .str],[],[.str],hh .bool,[],[.bool],[Au]⟩
def Av :LEnt:=⟨0,⟨[(0,hh tLI),(1,hh tLS),(5,.c (.mp 0)),(9,hh tLI),(10,hh tI),(11,hh tI)],[.set]⟩,[],[],[tLI,tLS,tLI,tI,tI,tLS],[oR 4 .bool,⟨.exit 0,⟨[(0,hh tLI)],[]⟩,[],[tLI]⟩],[]⟩
def e218 :FEnt:=⟨218,[hh tLI,hh tLS],[],[tLI,tLS],hh .bool,[],[.bool],[Av]⟩
def Aw :LEnt:=⟨0,⟨[(0,hh (tL 4)),(3,.c (.arr 0)),(4,.c (.arr 1)),(7,hh (tL 4)),(8,hh tI),(9,hh tI)],[.arr tI,.arr .str]⟩,[(.slot 3,tI),(.slot 4,.str)],[(.slot 3,tI),(.slot 4,.str)],[tL 4,tL 4,tI,tI,tLI,tLS],[⟨.exit 0,⟨[(0,hh (tL 4)),(3,.c (.arr 0)),(4,.c (.arr 1))],[.arr tI,.arr .str]⟩,[],[tL 4,tLI,tLS]⟩],[]⟩
def e199 :FEnt:=⟨199,[hh (tL 4)],[],[tL 4],hh .bool,[],[.bool],[Aw]⟩
def e219 :FEnt:=⟨219,[.row 6],[],[.nm 6],hh .bool,[],[.bool],[]⟩
def Ax :LEnt:=⟨0,⟨[(1,hP 0 0),(3,.c (.arr 1)),(4,.c (.arr 2)),(8,hh (tL 5)),(9,hh tI),(10,hh tI)],[.brow 3,.arr tI,.arr .str]⟩,[(.slot 3,tI),(.slot 4,.str)],[(.slot 3,tI),(.slot 4,.str)],[tL 5,tI,tI,.nm 3,tLI,tLS],[oR 2 .bool,⟨.exit 0,⟨[(1,hP 0 0),(3,.c (.arr 1)),(4,.c (.arr 2))],[.brow 3,.arr tI,.arr .str]⟩,[],[.nm 3,tLI,tLS]⟩],[]⟩
def e200 :FEnt:=⟨200,[.row 3],[],[.nm 3],hh .bool,[],[.bool],[Ax]⟩
def e158 :FEnt:=⟨158,[.row 3],[],[.nm 3],hh .bool,[],[.bool],[]⟩
def Ay :LEnt:=⟨0,⟨[(1,hP 0 0),(3,.c (.arr 1)),(7,hh (tL 5)),(8,hh tI),(9,hh tI)],[.brow 3,.arr tI]⟩,[(.slot 3,tI)],[(.slot 3,tI)],[tL 5,tI,tI,.nm 3,tLI],[⟨.exit 0,⟨[(1,hP 0 0),(3,.c (.arr 1))],[.brow 3,.arr tI]⟩,[],[.nm 3,tLI]⟩],[]⟩
def e159 :FEnt:=⟨159,[.row 3],[],[.nm 3],hh tLI,[],[tLI],[Ay]⟩
def yk :LEnt:=⟨0,⟨[(1,hP 0 0),(3,.c (.mp 1)),(5,hP 2 0),(14,hh (tL 3)),(15,hh tI),(16,hh tI),(38,hh tLI),(39,hh tI),(40,hh tI)],[bb (tL 3),.set,.box [.hole tI,.hole .str,.hole tI,.hole tI,.hole tI,.hole (tL 4),.hole (tL 5),.hole tI,.hole tI,.hole .bool]]⟩,[],[],[tL 3,tI,tI,tLI,tI,tI,tL 3,tLS,tI,.str,tI,tI,tI,tL 4,tL 5,tI,tI,.bool],[oR 2 tI,⟨.exit 2,⟨[(1,hP 0 0),(3,.c (.mp 1)),(5,hP 2 0),(14,hh (tL 3)),(15,hh tI),(16,hh tI)],[bb (tL 3),.set,.box [.hole tI,.hole .str,.hole tI,.hole tI,.hole tI,.hole (tL 4),.hole (tL 5),.hole tI,.hole tI,.hole .bool]]⟩,[],[tL 3,tI,tI,tL 3,tLS,tI,.str,tI,tI,tI,tL 4,tL 5,tI,tI,.bool]⟩],[]⟩
def Az :LEnt:=⟨0,⟨[(1,hP 0 0),(3,.c (.mp 1)),(14,hh (tL 3)),(15,hh tI),(16,hh tI)],[bb (tL 3),.set]⟩,[],[],[tL 3,tI,tI,tL 3,tLS],[oR 2 tI,oX 0],[yk]⟩
def e125 :FEnt:=⟨125,[.row 8],[],[.nm 8],hh tI,[],[tI],[Az]⟩
def e177 :FEnt:=⟨177,[hP 0 0,hh tI],[.box [.hole (tL 3),.arr 1,.hole tLI,.hole tI],.arr tI],[tI,tL 3,tLI,tI,tLI],.tup [.row 6,hh .bool],[.box [.hole (tL 3),.arr 2,.arr 3,.hole tI],.gone,.arr tI,.arr tI],[.nm 6,.bool,tL 3,tI,tLI,tLI],[]⟩
def AA :LEnt:=⟨0,⟨[(0,hh .str),(4,hh (.int .u64)),(17,hh tI),(18,hh tI)],[]⟩,[],[],[.str,.int .u64,tI,tI],[⟨.exit 0,⟨[(4,hh (.int .u64))],[]⟩,[],[.int .u64]⟩],[]⟩
def e168 :FEnt:=⟨168,[hh .str],[],[.str],.tup [hh (.int .u64),hh tI],[],[.int .u64,tI],[AA]⟩
def e169 :FEnt:=⟨169,[hh (.int .u64)],[],[.int .u64],hh tI,[],[tI],[]⟩
def e191 :FEnt:=⟨191,[.row 4,hP 0 0],[bb tI],[.nm 4,tI],hh .bool,[bb tI],[.bool,tI],[]⟩
def AB :LEnt:=⟨0,⟨[(0,hh (tL 4)),(1,.c (.fn 191 [0])),(7,hh tI),(8,hh tI)],[bb tI]⟩,[],[],[tL 4,tI,tI,tI],[⟨.ret,⟨[(4,hh tI)],[bb tI]⟩,[],[tI,tI]⟩,⟨.exit 0,⟨[],[bb tI]⟩,[],[tI]⟩],[]⟩
def e190 :FEnt:=⟨190,[hh (tL 4),.c (.fn 191 [0])],[bb tI],[tL 4,tI],hh tI,[bb tI],[tI,tI],[AB]⟩
def e143 :FEnt:=⟨143,[.row 3,hh tI],[],[.nm 3,tI],.tup [hh tI,hh .bool],[],[tI,.bool],[]⟩
def e178 :FEnt:=⟨178,[hP 0 0,hh tI,hh tI,hh .str],[.box [.hole (tL 3),.arr 1,.hole tLI,.hole tI],.arr tI],[tI,tI,.str,tL 3,tLI,tI,tLI],.tup [.row 6,hh .bool],[.box [.hole (tL 3),.arr 2,.hole tLI,.hole tI],.gone,.arr tI],[.nm 6,.bool,tL 3,tLI,tI,tLI],[]⟩
def AC :LEnt:=⟨0,⟨[(0,hh .str),(5,hh (.int .u64)),(10,hh tI),(11,hh tI)],[]⟩,[],[],[.str,.int .u64,tI,tI],[⟨.ret,⟨[(2,hh (.int .u64)),(3,hh tI),(4,hh tI)],[]⟩,[],[.int .u64,tI,tI]⟩,oX 0],[]⟩
def e204 :FEnt:=⟨204,[hh .str],[],[.str],.tup [hh (.int .u64),hh tI,hh tI],[],[.int .u64,tI,tI],[AC]⟩
def e165 :FEnt:=⟨165,[hh .str],[],[.str],.tup [hh (.int .u64),hh .str,hh .bool],[],[.int .u64,.str,.bool],[]⟩
def e128 :FEnt:=⟨128,[hh .str],[],[.str],.tup [hh tI,hh .str,hh tI],[],[tI,.str,tI],[]⟩
def e167 :FEnt:=⟨167,[.row 5,hP 0 0],[bb tI],[.nm 5,tI],hh .bool,[bb tI],[.bool,tI],[]⟩
def AD :LEnt:=⟨0,⟨[(0,hh (tL 5)),(1,.c (.fn 167 [0])),(7,hh tI),(8,hh tI)],[bb tI]⟩,[],[],[tL 5,tI,tI,tI],[⟨.ret,⟨[(4,hh tI)],[bb tI]⟩,[],[tI,tI]⟩,⟨.exit 0,⟨[],[bb tI]⟩,[],[tI]⟩],[]⟩
def e166 :FEnt:=⟨166,[hh (tL 5),.c (.fn 167 [0])],[bb tI],[tL 5,tI],hh tI,[bb tI],[tI,tI],[AD]⟩
def e129 :FEnt:=⟨129,[.row 3,hh tI],[],[.nm 3,tI],.tup [hh tI,hh .bool],[],[tI,.bool],[]⟩
def e179 :FEnt:=⟨179,[hP 0 0,.row 3,hh .str],[.box [.hole (tL 3),.arr 1,.hole tLI,.hole tI],.arr tI],[.nm 3,.str,tL 3,tLI,tI,tLI],.tup [.row 6,hh .bool],[.box [.hole (tL 3),.arr 2,.hole tLI,.hole tI],.gone,.arr tI],[.nm 6,.bool,tL 3,tLI,tI,tLI],[]⟩
def e202 :FEnt:=⟨202,[hh .str],[],[.str],.tup [hh .str,hh .str,hh .bool],[],[.str,.str,.bool],[]⟩
def AE :LEnt:=⟨0,⟨[(4,.c (.arr 0)),(5,hh .str)],[.arr .str]⟩,[(.slot 4,.str)],[(.slot 4,.str)],[.str,tLS],[⟨.ret,⟨[(2,.c (.cap0)),(3,hh tI)],[]⟩,[],[tI]⟩,⟨.exit 0,⟨[(4,.c (.arr 0))],[.arr .str]⟩,[],[tLS]⟩],[]⟩
def e161 :FEnt:=⟨161,[hh .str],[],[.str],.tup [hh tLS,hh tI],[],[tLS,tI],[AE]⟩
def mM :LEnt:=⟨0,⟨[(0,hP 0 0),(4,hP 2 0),(6,hP 3 0),(10,hP 4 0),(38,hh tLS),(39,hh tI),(40,hh tI)],[.box [.hole (tL 3),.arr 5,.hole tLI,.hole tI],.gone,.brow 3,.box [.hole tI,.hole .bool,.hole tI,.hole .str,.hole tI,.cap0,.cap0,.cap0],.box [.hole tI,.hole .bool,.hole tI,.hole .str,.hole tI,.cap0,.arr 6,.cap0],.arr tI,.arr (.nm 6)]⟩,[(.via 10 6,.nm 6)],[(.via 10 6,.nm 6)],[tLS,tI,tI,tL 3,tLI,tI,.nm 3,tI,.bool,tI,.str,tI,tI,.bool,tI,.str,tI,tLI,tL 6],[⟨.ret,⟨[(6,hP 2 0),(7,hh .bool)],[.box [.hole (tL 3),.arr 3,.hole tLI,.hole tI],.gone,.brow 6,.arr tI]⟩,[],[.bool,tL 3,tLI,tI,.nm 6,tLI]⟩,⟨.exit 0,⟨[(6,hP 2 0),(10,hP 3 0)],[.box [.hole (tL 3),.arr 4,.hole tLI,.hole tI],.gone,.box [.hole tI,.hole .bool,.hole tI,.hole .str,.hole tI,.cap0,.cap0,.cap0],.box [.hole tI,.hole .bool,.hole tI,.hole .str,.hole tI,.cap0,.arr 5,.cap0],.arr tI,.arr (.nm 6)]⟩,[],[tL 3,tLI,tI,tI,.bool,tI,.str,tI,tI,.bool,tI,.str,tI,tLI,tL 6]⟩],[]⟩
def e180 :FEnt:=⟨180,[hP 0 0,.row 3,hh .str],[.box [.hole (tL 3),.arr 1,.hole tLI,.hole tI],.arr tI],[.nm 3,.str,tL 3,tLI,tI,tLI],.tup [.row 6,hh .bool],[.box [.hole (tL 3),.arr 2,.hole tLI,.hole tI],.gone,.arr tI],[.nm 6,.bool,tL 3,tLI,tI,tLI],[mM]⟩
def e133 :FEnt:=⟨133,[hh tI],[],[tI],hh (.int .u64),[],[.int .u64],[]⟩
def e214 :FEnt:=⟨214,[hh (.int .u64)],[],[.int .u64],hh .bool,[],[.bool],[]⟩
def e195 :FEnt:=⟨195,[hh (.int .u64),hh (.int .u64)],[],[.int .u64,.int .u64],hh tI,[],[tI],[]⟩
def e208 :FEnt:=⟨208,[hh tI],[],[tI],hh .bool,[],[.bool],[]⟩
def e174 :FEnt:=⟨174,[hh tI,hh tI],[],[tI,tI],hh tI,[],[tI],[]⟩
def e215 :FEnt:=⟨215,[hh .str],[],[.str],hh .bool,[],[.bool],[]⟩
def e197 :FEnt:=⟨197,[hh .str,hh .str],[],[.str,.str],hh tI,[],[tI],[]⟩
def AF :LEnt:=⟨0,⟨[(3,hh tI),(6,hh tLI),(7,hh tI),(8,hh tI)],[]⟩,[],[],[tI,tLI,tI,tI],[oR 2 tI,⟨.exit 0,⟨[(3,hh tI)],[]⟩,[],[tI]⟩],[]⟩
def e196 :FEnt:=⟨196,[hh tLI],[],[tLI],hh tI,[],[tI],[AF]⟩
def e151 :FEnt:=⟨151,[.row 6,.row 6],[],[.nm 6,.nm 6],hh tI,[],[tI],[]⟩
def mN :LEnt:=⟨0,⟨[(0,hP 0 0),(4,hP 2 0),(6,hP 3 0),(8,hh tLS),(10,hP 4 0),(11,hh tI)],[.box [.hole (tL 3),.arr 5,.hole tLI,.hole tI],.gone,.brow 3,.box [.hole tI,.hole .bool,.hole tI,.hole .str,.hole tI,.cap0,.cap0,.cap0],.box [.hole tI,.hole .bool,.hole tI,.hole .str,.hole tI,.arr 6,.cap0,.cap0],.arr tI,.arr (.nm 6)]⟩,[(.via 10 5,.nm 6)],[(.via 10 5,.nm 6)],[tLS,tI,tL 3,tLI,tI,.nm 3,tI,.bool,tI,.str,tI,tI,.bool,tI,.str,tI,tLI,tL 6],[⟨.ret,⟨[(6,hP 2 0),(7,hh .bool)],[.box [.hole (tL 3),.arr 3,.hole tLI,.hole tI],.gone,.brow 6,.arr tI]⟩,[],[.bool,tL 3,tLI,tI,.nm 6,tLI]⟩,⟨.exit 0,⟨[(0,hP 0 0),(4,hP 2 0),(6,hP 3 0),(8,hh tLS),(10,hP 4 0)],[.box [.hole (tL 3),.arr 5,.hole tLI,.hole tI],.gone,.brow 3,.box [.hole tI,.hole .bool,.hole tI,.hole .str,.hole tI,.cap0,.cap0,.cap0],.box [.hole tI,.hole .bool,.hole tI,.hole .str,.hole tI,.arr 6,.cap0,.cap0],.arr tI,.arr (.nm 6)]⟩,[],[tLS,tL 3,tLI,tI,.nm 3,tI,.bool,tI,.str,tI,tI,.bool,tI,.str,tI,tLI,tL 6]⟩],[]⟩
def AG :LEnt:=⟨1,⟨[(0,hP 0 0),(4,hP 2 0),(6,hP 3 0),(8,hh tLS),(10,hP 4 0),(14,hh tI)],[.box [.hole (tL 3),.arr 5,.hole tLI,.hole tI],.gone,.brow 3,.box [.hole tI,.hole .bool,.hole tI,.hole .str,.hole tI,.cap0,.cap0,.cap0],.box [.hole tI,.hole .bool,.hole tI,.hole .str,.hole tI,.arr 6,.cap0,.cap0],.arr tI,.arr (.nm 6)]⟩,[],[],[tLS,tI,tL 3,tLI,tI,.nm 3,tI,.bool,tI,.str,tI,tI,.bool,tI,.str,tI,tLI,tL 6],[⟨.ret,⟨[(6,hP 2 0),(7,hh .bool)],[.box [.hole (tL 3),.arr 3,.arr 4,.hole tI],.gone,.brow 6,.arr tI,.arr tI]⟩,[],[.bool,tL 3,tI,.nm 6,tLI,tLI]⟩,⟨.exit 2,⟨[(0,hP 0 0),(4,hP 2 0),(6,hP 3 0),(8,hh tLS),(10,hP 4 0)],[.box [.hole (tL 3),.arr 5,.hole tLI,.hole tI],.gone,.brow 3,.box [.hole tI,.hole .bool,.hole tI,.hole .str,.hole tI,.cap0,.cap0,.cap0],.box [.hole tI,.hole .bool,.hole tI,.hole .str,.hole tI,.arr 6,.cap0,.cap0],.arr tI,.arr (.nm 6)]⟩,[],[tLS,tL 3,tLI,tI,.nm 3,tI,.bool,tI,.str,tI,tI,.bool,tI,.str,tI,tLI,tL 6]⟩],[]⟩
def mO :LEnt:=⟨2,⟨[(0,hP 0 0),(4,hP 2 0),(6,hP 3 0),(8,hh tLS),(10,hP 4 0),(15,hh tI)],[.box [.hole (tL 3),.arr 5,.hole tLI,.hole tI],.gone,.brow 3,.box [.hole tI,.hole .bool,.hole tI,.hole .str,.hole tI,.cap0,.cap0,.cap0],.box [.hole tI,.hole .bool,.hole tI,.hole .str,.hole tI,.arr 6,.arr 7,.cap0],.arr tI,.arr (.nm 6),.arr (.nm 6)]⟩,[(.via 10 6,.nm 6)],[(.via 10 6,.nm 6)],[tLS,tI,tL 3,tLI,tI,.nm 3,tI,.bool,tI,.str,tI,tI,.bool,tI,.str,tI,tLI,tL 6,tL 6],[⟨.ret,⟨[(6,hP 2 0),(7,hh .bool)],[.box [.hole (tL 3),.arr 3,.hole tLI,.hole tI],.gone,.brow 6,.arr tI]⟩,[],[.bool,tL 3,tLI,tI,.nm 6,tLI]⟩,⟨.exit 4,⟨[(6,hP 2 0),(10,hP 3 0)],[.box [.hole (tL 3),.arr 4,.hole tLI,.hole tI],.gone,.box [.hole tI,.hole .bool,.hole tI,.hole .str,.hole tI,.cap0,.cap0,.cap0],.box [.hole tI,.hole .bool,.hole tI,.hole .str,.hole tI,.arr 5,.arr 6,.cap0],.arr tI,.arr (.nm 6),.arr (.nm 6)]⟩,[],[tL 3,tLI,tI,tI,.bool,tI,.str,tI,tI,.bool,tI,.str,tI,tLI,tL 6,tL 6]⟩],[]⟩
def e181 :FEnt:=⟨181,[hP 0 0,.row 3,hh .str],[.box [.hole (tL 3),.arr 1,.hole tLI,.hole tI],.arr tI],[.nm 3,.str,tL 3,tLI,tI,tLI],.tup [.row 6,hh .bool],[.box [.hole (tL 3),.arr 2,.hole tLI,.hole tI],.gone,.arr tI],[.nm 6,.bool,tL 3,tLI,tI,tLI],[mN,AG,mO]⟩
def AH :LEnt:=⟨0,⟨[(4,.c (.arr 0)),(5,hh (.int .u64)),(6,hh .str)],[.arr (.nm 9)]⟩,[(.slot 4,.nm 9)],[(.slot 4,.nm 9)],[.int .u64,.str,tL 9],[⟨.ret,⟨[(2,.c (.cap0)),(3,hh tI)],[]⟩,[],[tI]⟩,⟨.exit 0,⟨[(4,.c (.arr 0))],[.arr (.nm 9)]⟩,[],[tL 9]⟩],[]⟩
def e160 :FEnt:=⟨160,[hh .str],[],[.str],.tup [hh (tL 9),hh tI],[],[tL 9,tI],[AH]⟩
def e211 :FEnt:=⟨211,[.row 9,hP 0 0],[.brow 5],[.nm 9,.nm 5],hh .bool,[.brow 5],[.bool,.nm 5],[]⟩
def AI :LEnt:=⟨0,⟨[(0,hh (tL 9)),(1,.c (.fn 211 [0])),(7,hh tI),(8,hh tI)],[.brow 5]⟩,[],[],[tL 9,tI,tI,.nm 5],[⟨.ret,⟨[(4,hh tI)],[.brow 5]⟩,[],[tI,.nm 5]⟩,⟨.exit 0,⟨[],[.brow 5]⟩,[],[.nm 5]⟩],[]⟩
def e210 :FEnt:=⟨210,[hh (tL 9),.c (.fn 211 [0])],[.brow 5],[tL 9,.nm 5],hh tI,[.brow 5],[tI,.nm 5],[AI]⟩
def mP :LEnt:=⟨0,⟨[(1,hP 0 0),(2,hP 1 0),(20,.c (.arr 2)),(21,hh tI),(22,hh tI)],[.box [.hole tI,.hole .bool,.hole tI,.hole .str,.hole tI,.arr 2,.arr 3,.arr 4],.box [.hole tI,.hole .bool,.hole tI,.hole .str,.hole tI,.cap0,.cap0,.cap0],.arr (.nm 6),.arr (.nm 6),.arr (.nm 7)]⟩,[],[],[tI,tI,tI,.bool,tI,.str,tI,tI,.bool,tI,.str,tI,tL 6,tL 6,tL 7],[⟨.exit 0,⟨[(1,hP 0 0),(2,hP 1 0)],[.box [.hole tI,.hole .bool,.hole tI,.hole .str,.hole tI,.arr 2,.arr 3,.arr 4],.box [.hole tI,.hole .bool,.hole tI,.hole .str,.hole tI,.cap0,.cap0,.cap0],.arr (.nm 6),.arr (.nm 6),.arr (.nm 7)]⟩,[],[tI,.bool,tI,.str,tI,tI,.bool,tI,.str,tI,tL 6,tL 6,tL 7]⟩],[]⟩
def mQ :LEnt:=⟨1,⟨[(1,hP 0 0),(2,hP 1 0),(35,.c (.arr 2)),(36,hh tI),(37,hh tI)],[.box [.hole tI,.hole .bool,.hole tI,.hole .str,.hole tI,.arr 3,.arr 2,.arr 4],.box [.hole tI,.hole .bool,.hole tI,.hole .str,.hole tI,.cap0,.cap0,.cap0],.arr (.nm 6),.arr (.nm 6),.arr (.nm 7)]⟩,[],[],[tI,tI,tI,.bool,tI,.str,tI,tI,.bool,tI,.str,tI,tL 6,tL 6,tL 7],[⟨.exit 2,⟨[(1,hP 0 0),(2,hP 1 0)],[.box [.hole tI,.hole .bool,.hole tI,.hole .str,.hole tI,.arr 2,.arr 3,.arr 4],.box [.hole tI,.hole .bool,.hole tI,.hole .str,.hole tI,.cap0,.cap0,.cap0],.arr (.nm 6),.arr (.nm 6),.arr (.nm 7)]⟩,[],[tI,.bool,tI,.str,tI,tI,.bool,tI,.str,tI,tL 6,tL 6,tL 7]⟩],[]⟩
def e212 :FEnt:=⟨212,[.row 6],[],[.nm 6],.row 6,[],[.nm 6],[mP,mQ]⟩
def mR :LEnt:=⟨0,⟨[(0,hP 0 0),(4,hP 2 0),(6,hP 3 0),(8,hh (tL 9)),(10,hP 4 0),(39,hh (tL 5)),(40,hh tI),(41,hh tI)],[.box [.hole (tL 3),.arr 5,.hole tLI,.hole tI],.gone,.brow 3,.box [.hole tI,.hole .bool,.hole tI,.hole .str,.hole tI,.cap0,.cap0,.cap0],.box [.hole tI,.hole .bool,.hole tI,.hole .str,.hole tI,.cap0,.arr 6,.cap0],.arr tI,.arr (.nm 6)]⟩,[(.via 10 6,.nm 6)],[(.via 10 6,.nm 6)],[tL 9,tL 5,tI,tI,tL 3,tLI,tI,.nm 3,tI,.bool,tI,.str,tI,tI,.bool,tI,.str,tI,tLI,tL 6],[⟨.ret,⟨[(6,hP 2 0),(7,hh .bool)],[.box [.hole (tL 3),.arr 3,.hole tLI,.hole tI],.gone,.brow 6,.arr tI]⟩,[],[.bool,tL 3,tLI,tI,.nm 6,tLI]⟩,⟨.exit 0,⟨[(0,hP 0 0),(4,hP 2 0),(6,hP 3 0),(8,hh (tL 9)),(10,hP 4 0)],[.box [.hole (tL 3),.arr 5,.hole tLI,.hole tI],.gone,.brow 3,.box [.hole tI,.hole .bool,.hole tI,.hole .str,.hole tI,.cap0,.cap0,.cap0],.box [.hole tI,.hole .bool,.hole tI,.hole .str,.hole tI,.cap0,.arr 6,.cap0],.arr tI,.arr (.nm 6)]⟩,[],[tL 9,tL 3,tLI,tI,.nm 3,tI,.bool,tI,.str,tI,tI,.bool,tI,.str,tI,tLI,tL 6]⟩],[]⟩
def AK :LEnt:=⟨1,⟨[(0,hP 0 0),(4,hP 2 0),(6,hP 3 0),(10,hP 4 0),(117,hh (tL 9)),(118,hh tI),(119,hh tI)],[.box [.hole (tL 3),.arr 5,.hole tLI,.hole tI],.gone,.brow 3,.box [.hole tI,.hole .bool,.hole tI,.hole .str,.hole tI,.cap0,.cap0,.cap0],.box [.hole tI,.hole .bool,.hole tI,.hole .str,.hole tI,.cap0,.arr 6,.arr 7],.arr tI,.arr (.nm 6),.arr (.nm 7)]⟩,[(.via 10 7,.nm 7)],[(.via 10 7,.nm 7)],[tL 9,tI,tI,tL 3,tLI,tI,.nm 3,tI,.bool,tI,.str,tI,tI,.bool,tI,.str,tI,tLI,tL 6,tL 7],[⟨.ret,⟨[(6,hP 2 0),(7,hh .bool)],[.box [.hole (tL 3),.arr 3,.arr 4,.hole tI],.gone,.brow 6,.arr tI,.arr tI]⟩,[],[.bool,tL 3,tI,.nm 6,tLI,tLI]⟩,⟨.exit 3,⟨[(6,hP 2 0),(10,hP 3 0)],[.box [.hole (tL 3),.arr 4,.hole tLI,.hole tI],.gone,.box [.hole tI,.hole .bool,.hole tI,.hole .str,.hole tI,.cap0,.cap0,.cap0],.box [.hole tI,.hole .bool,.hole tI,.hole .str,.hole tI,.cap0,.arr 5,.arr 6],.arr tI,.arr (.nm 6),.arr (.nm 7)]⟩,[],[tL 3,tLI,tI,tI,.bool,tI,.str,tI,tI,.bool,tI,.str,tI,tLI,tL 6,tL 7]⟩],[]⟩
def e182 :FEnt:=⟨182,[hP 0 0,.row 3,hh .str],[.box [.hole (tL 3),.arr 1,.hole tLI,.hole tI],.arr tI],[.nm 3,.str,tL 3,tLI,tI,tLI],.tup [.row 6,hh .bool],[.box [.hole (tL 3),.arr 2,.hole tLI,.hole tI],.gone,.arr tI],[.nm 6,.bool,tL 3,tLI,tI,tLI],[mR,AK]⟩
def e139 :FEnt:=⟨139,[hP 0 0,hh tI,hh .str],[.box [.hole (tL 3),.arr 1,.hole tLI,.hole tI],.arr tI],[tI,.str,tL 3,tLI,tI,tLI],.tup [.row 6,hh .bool],[.box [.hole (tL 3),.arr 2,.hole tLI,.hole tI],.gone,.arr tI],[.nm 6,.bool,tL 3,tLI,tI,tLI],[]⟩
def e83 :FEnt:=⟨83,[.row 8,hh tI,hh .str],[],[.nm 8,tI,.str],.tup [.row 6,.row 10,hh tI],[],[.nm 6,.nm 10,tI],[]⟩
def e50 :FEnt:=⟨50,[.row 8,hh tI,hh .str],[],[.nm 8,tI,.str],.tup [.row 6,hh tI],[],[.nm 6,tI],[]⟩
def e77 :FEnt:=⟨77,[.row 8,hh tI],[],[.nm 8,tI],hh tI,[],[tI],[]⟩
def e193 :FEnt:=⟨193,[.row 6],[],[.nm 6],.row 6,[],[.nm 6],[]⟩
def e148 :FEnt:=⟨148,[.row 6],[],[.nm 6],hh .bool,[],[.bool],[]⟩
def e149 :FEnt:=⟨149,[hh tI],[],[tI],hh .bool,[],[.bool],[]⟩
def e194 :FEnt:=⟨194,[.row 6,hP 0 0,hP 1 0,hP 2 0],[bb (tL 3),bb tI,bb .bool],[.nm 6,tL 3,tI,.bool],hh .bool,[bb (tL 3),bb tI,bb .bool],[.bool,tL 3,tI,.bool],[]⟩
def mj :LEnt:=⟨0,⟨[(0,hh (tL 6)),(1,.c (.fn 194 [0,1,2])),(7,hh tI),(8,hh tI)],[bb (tL 3),bb tI,bb .bool]⟩,[],[],[tL 6,tI,tI,tL 3,tI,.bool],[⟨.ret,⟨[(4,hh tI)],[bb (tL 3),bb tI,bb .bool]⟩,[],[tI,tL 3,tI,.bool]⟩,⟨.exit 0,⟨[],[bb (tL 3),bb tI,bb .bool]⟩,[],[tL 3,tI,.bool]⟩],[]⟩
def kh :FEnt:=⟨192,[hh (tL 6),.c (.fn 194 [0,1,2])],[bb (tL 3),bb tI,bb .bool],[tL 6,tL 3,tI,.bool],hh tI,[bb (tL 3),bb tI,bb .bool],[tI,tL 3,tI,.bool],[mj]⟩
def kj :FEnt:=⟨144,[hh (tL 6),.c (.fn 194 [0,1,2])],[bb (tL 3),bb tI,bb .bool],[tL 6,tL 3,tI,.bool],hh .bool,[bb (tL 3),bb tI,bb .bool],[.bool,tL 3,tI,.bool],[]⟩
def e150 :FEnt:=⟨150,[.row 8,hh tI,hh (tL 6),hh .bool],[],[.nm 8,tI,tL 6,.bool],hh .bool,[],[.bool],[]⟩
def AL :LEnt:=⟨0,⟨[(3,hh .bool),(4,hP 0 0),(6,hP 1 0),(9,hP 2 0),(111,hh (tL 7)),(112,hh tI),(113,hh tI)],[bb (tL 3),.brow 6,.box [.hole tI,.hole .str,.hole tI,.hole tI,.hole tI,.hole (tL 4),.hole (tL 5),.hole tI,.hole tI,.hole .bool]]⟩,[],[],[.bool,tL 7,tI,tI,tL 3,.nm 6,tI,.str,tI,tI,tI,tL 4,tL 5,tI,tI,.bool],[oR 8 .bool,⟨.exit 1,⟨[(3,hh .bool),(4,hP 0 0),(6,hP 1 0),(9,hP 2 0)],[bb (tL 3),.box [.hole tI,.hole .bool,.hole tI,.hole .str,.hole tI,.hole (tL 6),.hole (tL 6),.hole (tL 7)],.box [.hole tI,.hole .str,.hole tI,.hole tI,.hole tI,.hole (tL 4),.hole (tL 5),.hole tI,.hole tI,.hole .bool]]⟩,[],[.bool,tL 3,tI,.bool,tI,.str,tI,tL 6,tL 6,tL 7,tI,.str,tI,tI,tI,tL 4,tL 5,tI,tI,.bool]⟩],[]⟩
def mS :LEnt:=⟨1,⟨[(3,hh .bool),(4,hP 0 0),(6,hP 1 0),(150,hh (tL 5)),(151,hh tI),(152,hh tI)],[bb (tL 3),.box [.hole tI,.hole .bool,.hole tI,.hole .str,.hole tI,.hole (tL 6),.hole (tL 6),.hole (tL 7)]]⟩,[],[],[.bool,tL 5,tI,tI,tL 3,tI,.bool,tI,.str,tI,tL 6,tL 6,tL 7],[oR 8 .bool,oX 3],[]⟩
def AM :LEnt:=⟨2,⟨[(3,hh .bool),(4,hP 0 0),(6,hP 1 0),(9,hP 2 0),(20,hh tI)],[bb (tL 3),.brow 6,.box [.hole tI,.hole .str,.hole tI,.hole tI,.hole tI,.hole (tL 4),.hole (tL 5),.hole tI,.hole tI,.hole .bool]]⟩,[],[],[.bool,tI,tL 3,.nm 6,tI,.str,tI,tI,tI,tL 4,tL 5,tI,tI,.bool],[oR 8 .bool,⟨.exit 5,⟨[(3,hh .bool),(4,hP 0 0),(6,hP 1 0),(9,hP 2 0)],[bb (tL 3),.brow 6,.box [.hole tI,.hole .str,.hole tI,.hole tI,.hole tI,.hole (tL 4),.hole (tL 5),.hole tI,.hole tI,.hole .bool]]⟩,[],[.bool,tL 3,.nm 6,tI,.str,tI,tI,tI,tL 4,tL 5,tI,tI,.bool]⟩],[]⟩
def e112 :FEnt:=⟨112,[.row 8,hh tI,.row 6,hh .bool],[],[.nm 8,tI,.nm 6,.bool],hh .bool,[],[.bool],[AL,mS,AM]⟩
def e86 :FEnt:=⟨86,[.row 8,hh tI,.row 6],[],[.nm 8,tI,.nm 6],hh .bool,[],[.bool],[]⟩
def e81 :FEnt:=⟨81,[.row 8,hh tI,.row 6],[],[.nm 8,tI,.nm 6],hh tI,[],[tI],[]⟩
def AN :LEnt:=⟨0,⟨[(0,hh (.int .u64)),(3,hP 0 0),(4,hh tI)],[.arr (.int .u8)]⟩,[],[],[.int .u64,tI,.slice (.int .u8)],[⟨.exit 0,⟨[(3,hP 0 0),(4,hh tI)],[.arr (.int .u8)]⟩,[],[tI,.slice (.int .u8)]⟩],[]⟩
def e132 :FEnt:=⟨132,[hh (.int .u64)],[],[.int .u64],hh .str,[],[.str],[AN]⟩
def ml :LEnt:=⟨0,⟨[(1,hh (tL 6)),(2,.c (.fn 205 [])),(15,hh (tL 6)),(16,hh tI),(17,hh tI)],[]⟩,[],[],[tL 6,tL 6,tI,tI],[oR 6 .bool,oX 0],[]⟩
def kl :FEnt:=⟨225,[hh (tL 6),hh (tL 6),.c (.fn 205 [])],[],[tL 6,tL 6],hh .bool,[],[.bool],[ml]⟩
def e205 :FEnt:=⟨205,[.row 6,.row 6],[],[.nm 6,.nm 6],hh .bool,[],[.bool],[]⟩
def e170 :FEnt:=⟨170,[.row 5,.row 6],[],[.nm 5,.nm 6],hh .bool,[],[.bool],[]⟩
def AP :LEnt:=⟨0,⟨[(0,hh (.int .u64)),(3,hP 0 0),(4,hh tI)],[.arr (.int .u8)]⟩,[],[],[.int .u64,tI,.slice (.int .u8)],[⟨.exit 0,⟨[(0,hh (.int .u64)),(3,hP 0 0),(4,hh tI)],[.arr (.int .u8)]⟩,[],[.int .u64,tI,.slice (.int .u8)]⟩],[]⟩
def e175 :FEnt:=⟨175,[hh (.int .u64)],[],[.int .u64],hh .str,[],[.str],[AP]⟩
def e137 :FEnt:=⟨137,[hh .str],[],[.str],hh .str,[],[.str],[]⟩
def e171 :FEnt:=⟨171,[hh tI,hh .bool,hh .str],[],[tI,.bool,.str],hh .str,[],[.str],[]⟩
def e136 :FEnt:=⟨136,[hP 0 0,hh .str],[.bld 200 ((.bufc 1)),.buf 5],[.str,.str],.tup [hh tI,.c (.dead)],[.bld 200 ((.bufc 2)),.gone,.buf 5],[tI,.str],[]⟩
def e138 :FEnt:=⟨138,[hP 0 0],[.bld 200 ((.bufc 1)),.buf 5],[.str],hh .str,[.bld 200 ((.bufc 1)),.gone],[.str],[]⟩
def mT :LEnt:=⟨0,⟨[(0,hP 0 0),(3,hh tI),(6,hP 1 0),(9,.c (.arr 2)),(18,hh (tL 5)),(19,hh tI),(20,hh tI)],[.box [.hole (tL 3),.hole tI],.brow 6,.arr (.nm 11)]⟩,[(.slot 9,.nm 11)],[(.slot 9,.nm 11)],[tI,tL 5,tI,tI,tL 3,tI,.nm 6,tL 11],[⟨.exit 0,⟨[(6,hP 1 0),(9,.c (.arr 2))],[.box [.hole (tL 3),.hole tI],.brow 6,.arr (.nm 11)]⟩,[],[tL 3,tI,.nm 6,tL 11]⟩],[]⟩
def AQ :LEnt:=⟨1,⟨[(9,.c (.arr 1)),(57,hh (tL 7)),(58,hh tI),(59,hh tI)],[.box [.hole (tL 3),.hole tI],.arr (.nm 11)]⟩,[],[],[tL 7,tI,tI,tL 3,tI,tL 11],[⟨.exit 2,⟨[(9,.c (.arr 1))],[.box [.hole (tL 3),.hole tI],.arr (.nm 11)]⟩,[],[tL 3,tI,tL 11]⟩],[]⟩
def AS :LEnt:=⟨2,⟨[(14,hP 1 0),(77,.c (.arr 2)),(78,hh tI),(79,hh tI)],[.box [.hole (tL 3),.hole tI],.bld 200 ((.bufc 3)),.arr (.nm 11),.buf 5]⟩,[],[],[tI,tI,tL 3,tI,tL 11,.str],[⟨.exit 4,⟨[(14,hP 1 0)],[.box [.hole (tL 3),.hole tI],.bld 200 ((.bufc 2)),.buf 5]⟩,[],[tL 3,tI,.str]⟩],[]⟩
def e134 :FEnt:=⟨134,[hP 0 0,.row 3,.row 6,hh tI],[.box [.hole (tL 3),.hole tI]],[.nm 3,.nm 6,tI,tL 3,tI],hh .str,[.box [.hole (tL 3),.hole tI]],[.str,tL 3,tI],[mT,AQ,AS]⟩
def e135 :FEnt:=⟨135,[hP 0 0,.row 3,.row 6,hh tI],[.box [.hole (tL 3),.hole tI]],[.nm 3,.nm 6,tI,tL 3,tI],hh .str,[.box [.hole (tL 3),.hole tI]],[.str,tL 3,tI],[]⟩
def e82_0 :LEnt:=⟨0,⟨[(0,hP 0 0),(3,hh tI),(6,hP 1 0),(9,hP 2 0),(10,hP 3 0),(84,hh (tL 6)),(85,hh tI),(86,hh tI)],[.box [.hole (tL 3),.hole tI],.brow 6,.brow 3,.bld 200 ((.bufc 4)),.buf 5]⟩,[],[],[tI,tL 6,tI,tI,tL 3,tI,.nm 6,.nm 3,.str],[⟨.exit 1,⟨[(10,hP 1 0)],[.box [.hole (tL 3),.hole tI],.bld 200 ((.bufc 2)),.buf 5]⟩,[],[tL 3,tI,.str]⟩],[]⟩
def e82 :FEnt:=⟨82,[hP 0 0,hh tI,.row 6,hh tI],[.box [.hole (tL 3),.hole tI]],[tI,.nm 6,tI,tL 3,tI],hh .str,[.box [.hole (tL 3),.hole tI]],[.str,tL 3,tI],[e82_0]⟩
def e49 :FEnt:=⟨49,[.row 8,hh tI,.row 6],[],[.nm 8,tI,.nm 6],.tup [hh .str,hh tI],[],[.str,tI],[]⟩
def e12 :FEnt:=⟨12,[.row 8,hh tI,hh .str],[],[.nm 8,tI,.str],.tup [hh .str,hh tI],[],[.str,tI],[]⟩
def e48 :FEnt:=⟨48,[hh tI,hh tI,hh (tL 7)],[],[tI,tI,tL 7],.row 6,[],[.nm 6],[]⟩
def e85 :FEnt:=⟨85,[.row 8,hh tI],[],[.nm 8,tI],hh tI,[],[tI],[]⟩
def e53 :FEnt:=⟨53,[.row 8,hh tI,.row 6],[],[.nm 8,tI,.nm 6],hh tI,[],[tI],[]⟩
def e87 :FEnt:=⟨87,[.row 3,.row 6],[],[.nm 3,.nm 6],hh .bool,[],[.bool],[]⟩
def e145 :FEnt:=⟨145,[.row 6,hP 0 0,hP 1 0],[bb (tL 3),.brow 3],[.nm 6,tL 3,.nm 3],hh .bool,[bb (tL 3),.brow 3],[.bool,tL 3,.nm 3],[]⟩
def Ka :LEnt:=⟨0,⟨[(0,hh (tL 6)),(1,.c (.fn 145 [0,1])),(7,hh tI),(8,hh tI)],[bb (tL 3),.brow 3]⟩,[],[],[tL 6,tI,tI,tL 3,.nm 3],[⟨.ret,⟨[(4,hh tI)],[bb (tL 3),.brow 3]⟩,[],[tI,tL 3,.nm 3]⟩,⟨.exit 0,⟨[],[bb (tL 3),.brow 3]⟩,[],[tL 3,.nm 3]⟩],[]⟩
def L3 :FEnt:=⟨192,[hh (tL 6),.c (.fn 145 [0,1])],[bb (tL 3),.brow 3],[tL 6,tL 3,.nm 3],hh tI,[bb (tL 3),.brow 3],[tI,tL 3,.nm 3],[Ka]⟩
def L4 :FEnt:=⟨144,[hh (tL 6),.c (.fn 145 [0,1])],[bb (tL 3),.brow 3],[tL 6,tL 3,.nm 3],hh .bool,[bb (tL 3),.brow 3],[.bool,tL 3,.nm 3],[]⟩
def e88 :FEnt:=⟨88,[.row 8,.row 3,.row 6],[],[.nm 8,.nm 3,.nm 6],hh .bool,[],[.bool],[]⟩
def e89_0 :LEnt:=⟨0,⟨[(2,hP 0 0),(3,hP 1 0),(5,.c (.arr 2)),(11,hh tI),(12,hh tI)],[.brow 3,.brow 6,.arr (.nm 12)]⟩,[(.slot 5,.nm 12)],[(.slot 5,.nm 12)],[tI,tI,.nm 3,.nm 6,tL 12],[⟨.exit 0,⟨[(5,.c (.arr 0))],[.arr (.nm 12)]⟩,[],[tL 12]⟩],[]⟩
def e89 :FEnt:=⟨89,[.row 3,.row 6],[],[.nm 3,.nm 6],hh (tL 12),[],[tL 12],[e89_0]⟩
def KY :LEnt:=⟨0,⟨[(3,hh tLI),(4,hP 1 0),(6,hP 2 0),(10,.c (.arr 3)),(39,hh (tL 12)),(40,hh tI),(41,hh tI)],[.gone,bb (tL 3),.brow 6,.arr tLI]⟩,[(.slot 10,tLI)],[(.slot 10,tLI)],[tLI,tL 12,tI,tI,tL 3,.nm 6,.slice tLI],[⟨.exit 0,⟨[(10,.c (.arr 1))],[.gone,.arr tLI]⟩,[],[.slice tLI]⟩],[]⟩
def e54_a :FEnt:=⟨54,[.row 8,hh tI,.row 6,.c (.arr 0)],[.arr tI],[.nm 8,tI,.nm 6,tLI],hh (.slice tLI),[.gone],[.slice tLI],[KY]⟩
def KZ :LEnt:=⟨0,⟨[(3,hh tLI),(4,hP 0 0),(6,hP 1 0),(10,.c (.arr 2)),(39,hh (tL 12)),(40,hh tI),(41,hh tI)],[bb (tL 3),.brow 6,.arr tLI]⟩,[(.slot 10,tLI)],[(.slot 10,tLI)],[tLI,tL 12,tI,tI,tL 3,.nm 6,.slice tLI],[⟨.exit 0,⟨[(10,.c (.arr 0))],[.arr tLI]⟩,[],[.slice tLI]⟩],[]⟩
def e54_b :FEnt:=⟨54,[.row 8,hh tI,.row 6,hh tLI],[],[.nm 8,tI,.nm 6,tLI],hh (.slice tLI),[],[.slice tLI],[KZ]⟩
def e15 :FEnt:=⟨15,[.row 8,hh tI,.row 6],[],[.nm 8,tI,.nm 6],.tup [hh (.slice tLI),hh tI],[],[.slice tLI,tI],[]⟩
def e67 :FEnt:=⟨67,[.row 8,hh tI,.row 6],[],[.nm 8,tI,.nm 6],hh .bool,[],[.bool],[]⟩
def e68_0 :LEnt:=⟨0,⟨[(4,hP 0 0),(6,hP 1 0),(7,hP 2 0),(8,hP 3 0),(10,hP 4 0),(55,hh (tL 12)),(56,hh tI),(57,hh tI)],[bb (tL 3),.brow 6,.brow 6,.box [.hole tI,.hole .bool,.hole tI,.hole .str,.hole tI,.cap0,.cap0,.cap0],.box [.hole tI,.hole .bool,.hole tI,.hole .str,.hole tI,.hole (tL 6),.arr 5,.hole (tL 7)],.arr (.nm 6)]⟩,[],[],[tL 12,tI,tI,tL 3,.nm 6,.nm 6,tI,.bool,tI,.str,tI,tI,.bool,tI,.str,tI,tL 6,tL 7,tL 6],[⟨.exit 1,⟨[(8,hP 0 0),(10,hP 1 0)],[.box [.hole tI,.hole .bool,.hole tI,.hole .str,.hole tI,.cap0,.cap0,.cap0],.box [.hole tI,.hole .bool,.hole tI,.hole .str,.hole tI,.hole (tL 6),.arr 2,.hole (tL 7)],.arr (.nm 6)]⟩,[],[tI,.bool,tI,.str,tI,tI,.bool,tI,.str,tI,tL 6,tL 7,tL 6]⟩],[]⟩
def e68 :FEnt:=⟨68,[.row 8,hh tI,.row 6,.row 6],[],[.nm 8,tI,.nm 6,.nm 6],.row 6,[],[.nm 6],[e68_0]⟩
def e27 :FEnt:=⟨27,[.row 8,hh tI,.row 6,.row 6],[],[.nm 8,tI,.nm 6,.nm 6],.tup [.row 6,hh tI],[],[.nm 6,tI],[]⟩
def e37 :FEnt:=⟨37,[.row 8,hh tI,hh .str],[],[.nm 8,tI,.str],hh .bool,[],[.bool],[]⟩
def e11 :FEnt:=⟨11,[],[],[],hh .bool,[],[.bool],[]⟩
def e115 :FEnt:=⟨115,[.row 3],[],[.nm 3],.row 3,[],[.nm 3],[]⟩
def mU :LEnt:=⟨0,⟨[(0,hh (tL 6)),(1,hh (tL 6)),(5,hh tI)],[]⟩,[],[],[tL 6,tL 6,tI],[oR 4 .bool,oX 0],[]⟩
def e105 :FEnt:=⟨105,[hh (tL 6),hh (tL 6)],[],[tL 6,tL 6],hh .bool,[],[.bool],[mU]⟩
def e65_0 :LEnt:=⟨0,⟨[(2,hP 0 0),(3,hP 1 0),(5,hh tI)],[.brow 6,.brow 6]⟩,[],[],[tI,.nm 6,.nm 6],[oR 4 .bool,⟨.exit 0,⟨[(2,hP 0 0),(3,hP 1 0)],[.brow 6,.brow 6]⟩,[],[.nm 6,.nm 6]⟩],[]⟩
def e65 :FEnt:=⟨65,[.row 6,.row 6],[],[.nm 6,.nm 6],hh .bool,[],[.bool],[e65_0]⟩
def e152 :FEnt:=⟨152,[.row 5,.row 5],[],[.nm 5,.nm 5],hh .bool,[],[.bool],[]⟩
def AT :LEnt:=⟨0,⟨[(2,hP 0 0),(3,hP 1 0),(5,hh tI)],[.brow 3,.brow 3]⟩,[],[],[tI,.nm 3,.nm 3],[oR 4 .bool,⟨.exit 0,⟨[(2,hP 0 0),(3,hP 1 0)],[.brow 3,.brow 3]⟩,[],[.nm 3,.nm 3]⟩],[]⟩
def AU :LEnt:=⟨1,⟨[(2,hP 0 0),(3,hP 1 0),(6,hh tI)],[.brow 3,.brow 3]⟩,[],[],[tI,.nm 3,.nm 3],[oR 4 .bool,oX 2],[]⟩
def e114 :FEnt:=⟨114,[.row 3,.row 3],[],[.nm 3,.nm 3],hh .bool,[],[.bool],[AT,AU]⟩
def e153 :FEnt:=⟨153,[hh (.int .u8)],[],[.int .u8],hh .bool,[],[.bool],[]⟩
def e154 :FEnt:=⟨154,[hh (.int .u8)],[],[.int .u8],hh .bool,[],[.bool],[]⟩
def AV :LEnt:=⟨0,⟨[(0,hh .str),(3,hh tI)],[]⟩,[],[],[.str,tI],[oR 2 .bool,oX 0],[]⟩
def e116 :FEnt:=⟨116,[hh .str],[],[.str],hh .bool,[],[.bool],[AV]⟩
def e155 :FEnt:=⟨155,[hh tI,hh tI],[],[tI,tI],hh .bool,[],[.bool],[]⟩
def yl :LEnt:=⟨0,⟨[(0,hh (tL 4)),(4,hh tI),(5,hh tI)],[]⟩,[],[],[tL 4,tI,tI],[oR 2 .bool,⟨.exit 2,⟨[(0,hh (tL 4)),(4,hh tI)],[]⟩,[],[tL 4,tI]⟩],[]⟩
def AX :LEnt:=⟨0,⟨[(0,hh (tL 4)),(3,hh tI),(4,hh tI)],[]⟩,[],[],[tL 4,tI,tI],[oR 2 .bool,⟨.exit 0,⟨[(0,hh (tL 4))],[]⟩,[],[tL 4]⟩],[yl]⟩
def e117 :FEnt:=⟨117,[hh (tL 4)],[],[tL 4],hh .bool,[],[.bool],[AX]⟩
def ym :LEnt:=⟨0,⟨[(0,hh (tL 5)),(1,hh .bool),(6,hh tI),(7,hP 0 0),(8,hh tI)],[.brow 5]⟩,[],[],[tL 5,.bool,tI,tI,.nm 5],[oR 4 .bool,⟨.exit 2,⟨[(0,hh (tL 5)),(1,hh .bool),(6,hh tI),(7,hP 0 0)],[.brow 5]⟩,[],[tL 5,.bool,tI,.nm 5]⟩],[]⟩
def AY :LEnt:=⟨0,⟨[(0,hh (tL 5)),(1,hh .bool),(5,hh tI),(6,hh tI)],[]⟩,[],[],[tL 5,.bool,tI,tI],[oR 4 .bool,⟨.exit 0,⟨[(0,hh (tL 5)),(1,hh .bool)],[]⟩,[],[tL 5,.bool]⟩],[ym]⟩
def e118 :FEnt:=⟨118,[hh (tL 5),hh .bool],[],[tL 5,.bool],hh .bool,[],[.bool],[AY]⟩
def e73 :FEnt:=⟨73,[.row 3],[],[.nm 3],hh .bool,[],[.bool],[]⟩
def e74_0 :LEnt:=⟨0,⟨[(1,hP 0 0),(3,.c (.arr 1)),(4,hh tI)],[.brow 3,.arr tI]⟩,[(.slot 3,tI)],[(.slot 3,tI)],[tI,.nm 3,tLI],[⟨.exit 0,⟨[(1,hP 0 0),(3,.c (.arr 1))],[.brow 3,.arr tI]⟩,[],[.nm 3,tLI]⟩],[]⟩
def e74 :FEnt:=⟨74,[.row 3],[],[.nm 3],hh tLI,[],[tLI],[e74_0]⟩
def zz :LEnt:=⟨0,⟨[(1,hP 0 0),(3,hh tI),(4,hP 1 0),(5,hh tI)],[bb (tL 3),.box [.hole tI,.hole .str,.hole tI,.hole tI,.hole tI,.hole (tL 4),.hole (tL 5),.hole tI,.hole tI,.hole .bool]]⟩,[],[],[tI,tI,tL 3,tI,.str,tI,tI,tI,tL 4,tL 5,tI,tI,.bool],[oR 2 tI,⟨.exit 2,⟨[(1,hP 0 0),(3,hh tI),(4,hP 1 0)],[bb (tL 3),.box [.hole tI,.hole .str,.hole tI,.hole tI,.hole tI,.hole (tL 4),.hole (tL 5),.hole tI,.hole tI,.hole .bool]]⟩,[],[tI,tL 3,tI,.str,tI,tI,tI,tL 4,tL 5,tI,tI,.bool]⟩],[]⟩
def zA :LEnt:=⟨1,⟨[(1,hP 0 0),(3,hh tI),(4,hP 1 0),(6,hh tLI),(7,hh tI)],[bb (tL 3),.box [.hole tI,.hole .str,.hole tI,.hole tI,.hole tI,.hole (tL 4),.hole (tL 5),.hole tI,.hole tI,.hole .bool]]⟩,[],[],[tI,tLI,tI,tL 3,tI,.str,tI,tI,tI,tL 4,tL 5,tI,tI,.bool],[oR 2 tI,⟨.exit 4,⟨[(1,hP 0 0),(3,hh tI),(4,hP 1 0)],[bb (tL 3),.box [.hole tI,.hole .str,.hole tI,.hole tI,.hole tI,.hole (tL 4),.hole (tL 5),.hole tI,.hole tI,.hole .bool]]⟩,[],[tI,tL 3,tI,.str,tI,tI,tI,tL 4,tL 5,tI,tI,.bool]⟩],[]⟩
def e36_0 :LEnt:=⟨0,⟨[(1,hP 0 0),(3,hh tI)],[bb (tL 3)]⟩,[],[],[tI,tL 3],[oR 2 tI,oX 0],[zz,zA]⟩
def e36 :FEnt:=⟨36,[.row 8],[],[.nm 8],hh tI,[],[tI],[e36_0]⟩
def e140 :FEnt:=⟨140,[.row 8,hh tI],[],[.nm 8,tI],hh tI,[],[tI],[]⟩
def e141 :FEnt:=⟨141,[hh tLI,hh tI],[],[tLI,tI],.row 13,[],[.nm 13],[]⟩
def AZ :LEnt:=⟨0,⟨[(0,hh .str),(4,hh (.int .u64)),(5,hh tI)],[]⟩,[],[],[.str,.int .u64,tI],[⟨.exit 0,⟨[(4,hh (.int .u64))],[]⟩,[],[.int .u64]⟩],[]⟩
def e119 :FEnt:=⟨119,[hh .str],[],[.str],.tup [hh (.int .u64),hh tI],[],[.int .u64,tI],[AZ]⟩
def e183 :FEnt:=⟨183,[hh .str],[],[.str],.tup [hh (.int .u64),hh .bool],[],[.int .u64,.bool],[]⟩
def e120 :FEnt:=⟨120,[hh (.int .u64)],[],[.int .u64],hh tI,[],[tI],[]⟩
def e92_0 :LEnt:=⟨0,⟨[(1,hh tI),(2,hP 0 0),(6,hh tI)],[.brow 3]⟩,[],[],[tI,tI,.nm 3],[⟨.ret,⟨[(4,hh tI),(5,hh .bool)],[]⟩,[],[tI,.bool]⟩,oX 0],[]⟩
def e92 :FEnt:=⟨92,[.row 3,hh tI],[],[.nm 3,tI],.tup [hh tI,hh .bool],[],[tI,.bool],[e92_0]⟩
def e184 :FEnt:=⟨184,[hh tLI,hh tI],[],[tLI,tI],hh tLI,[],[tLI],[]⟩
def A0 :LEnt:=⟨0,⟨[(0,hh .str),(5,hh (.int .u64)),(6,hh (.int .u64)),(7,hh tI)],[]⟩,[],[],[.str,.int .u64,.int .u64,tI],[⟨.ret,⟨[(2,hh (.int .u64)),(3,hh tI),(4,hh tI)],[]⟩,[],[.int .u64,tI,tI]⟩,oX 0],[]⟩
def e156 :FEnt:=⟨156,[hh .str],[],[.str],.tup [hh (.int .u64),hh tI,hh tI],[],[.int .u64,tI,tI],[A0]⟩
def e121 :FEnt:=⟨121,[hh .str],[],[.str],.tup [hh tI,hh .str,hh tI],[],[tI,.str,tI],[]⟩
def e91_0 :LEnt:=⟨0,⟨[(1,hh tI),(2,hP 0 0),(6,hh tI)],[.brow 3]⟩,[],[],[tI,tI,.nm 3],[⟨.ret,⟨[(4,hh tI),(5,hh .bool)],[]⟩,[],[tI,.bool]⟩,oX 0],[]⟩
def e91 :FEnt:=⟨91,[.row 3,hh tI],[],[.nm 3,tI],.tup [hh tI,hh .bool],[],[tI,.bool],[e91_0]⟩
def e189 :FEnt:=⟨189,[.row 6],[],[.nm 6],.row 13,[],[.nm 13],[]⟩
def e185 :FEnt:=⟨185,[.row 8,.row 3,hh .str,hh tI,hh tLI],[],[.nm 8,.nm 3,.str,tI,tLI],.row 13,[],[.nm 13],[]⟩
def e157 :FEnt:=⟨157,[hh .str],[],[.str],.tup [hh .str,hh .str,hh .bool],[],[.str,.str,.bool],[]⟩
def A3 :LEnt:=⟨0,⟨[(0,hh .str),(4,.c (.arr 0))],[.arr .str]⟩,[(.slot 4,.str)],[(.slot 4,.str)],[.str,tLS],[⟨.ret,⟨[(2,.c (.cap0)),(3,hh tI)],[]⟩,[],[tI]⟩,⟨.exit 0,⟨[(4,.c (.arr 0))],[.arr .str]⟩,[],[tLS]⟩],[]⟩
def e122 :FEnt:=⟨122,[hh .str],[],[.str],.tup [hh tLS,hh tI],[],[tLS,tI],[A3]⟩
def mV :LEnt:=⟨0,⟨[(3,hh tI),(4,hh tLI),(5,hP 0 0),(6,hP 1 0),(10,hP 2 0),(11,hh tLS),(13,hP 3 0),(14,hh tI)],[bb (tL 3),.brow 3,.box [.hole tI,.hole .bool,.hole tI,.hole .str,.hole tI,.cap0,.cap0,.cap0,.cap0,.hole tI,.hole .bool],.box [.hole tI,.hole .bool,.hole tI,.hole .str,.hole tI,.cap0,.arr 4,.cap0],.arr (.nm 6)]⟩,[(.via 13 6,.nm 6)],[(.via 13 6,.nm 6)],[tI,tLI,tLS,tI,tL 3,.nm 3,tI,.bool,tI,.str,tI,tI,.bool,tI,.bool,tI,.str,tI,tL 6],[⟨.ret,⟨[(10,hP 0 0)],[.brow 13]⟩,[],[.nm 13]⟩,⟨.exit 0,⟨[(10,hP 0 0),(13,hP 1 0)],[.box [.hole tI,.hole .bool,.hole tI,.hole .str,.hole tI,.cap0,.cap0,.cap0,.cap0,.hole tI,.hole .bool],.box [.hole tI,.hole .bool,.hole tI,.hole .str,.hole tI,.cap0,.arr 2,.cap0],.arr (.nm 6)]⟩,[],[tI,.bool,tI,.str,tI,tI,.bool,tI,.bool,tI,.str,tI,tL 6]⟩],[]⟩
def e186 :FEnt:=⟨186,[.row 8,.row 3,hh .str,hh tI,hh tLI],[],[.nm 8,.nm 3,.str,tI,tLI],.row 13,[],[.nm 13],[mV]⟩
def e146 :FEnt:=⟨146,[hh .bool,hh .bool],[],[.bool,.bool],hh tI,[],[tI],[]⟩
def e99 :FEnt:=⟨99,[hh tI],[],[tI],hh (.int .u64),[],[.int .u64],[]⟩
def e97 :FEnt:=⟨97,[.row 6,.row 6],[],[.nm 6,.nm 6],hh tI,[],[tI],[]⟩
def mW :LEnt:=⟨0,⟨[(3,hh tI),(4,hh tLI),(5,hP 0 0),(6,hP 1 0),(10,hP 2 0),(11,hh tLS),(13,hP 3 0),(14,hh tI)],[bb (tL 3),.brow 3,.box [.hole tI,.hole .bool,.hole tI,.hole .str,.hole tI,.cap0,.cap0,.cap0,.cap0,.hole tI,.hole .bool],.box [.hole tI,.hole .bool,.hole tI,.hole .str,.hole tI,.arr 4,.cap0,.cap0],.arr (.nm 6)]⟩,[(.via 13 5,.nm 6)],[(.via 13 5,.nm 6)],[tI,tLI,tLS,tI,tL 3,.nm 3,tI,.bool,tI,.str,tI,tI,.bool,tI,.bool,tI,.str,tI,tL 6],[⟨.ret,⟨[(10,hP 0 0)],[.brow 13]⟩,[],[.nm 13]⟩,⟨.exit 0,⟨[(3,hh tI),(4,hh tLI),(5,hP 0 0),(6,hP 1 0),(10,hP 2 0),(11,hh tLS),(13,hP 3 0)],[bb (tL 3),.brow 3,.box [.hole tI,.hole .bool,.hole tI,.hole .str,.hole tI,.cap0,.cap0,.cap0,.cap0,.hole tI,.hole .bool],.box [.hole tI,.hole .bool,.hole tI,.hole .str,.hole tI,.arr 4,.cap0,.cap0],.arr (.nm 6)]⟩,[],[tI,tLI,tLS,tL 3,.nm 3,tI,.bool,tI,.str,tI,tI,.bool,tI,.bool,tI,.str,tI,tL 6]⟩],[]⟩
def A4 :LEnt:=⟨1,⟨[(3,hh tI),(4,hh tLI),(5,hP 0 0),(6,hP 1 0),(10,hP 2 0),(11,hh tLS),(13,hP 3 0),(16,hh tI)],[bb (tL 3),.brow 3,.box [.hole tI,.hole .bool,.hole tI,.hole .str,.hole tI,.cap0,.cap0,.cap0,.cap0,.hole tI,.hole .bool],.box [.hole tI,.hole .bool,.hole tI,.hole .str,.hole tI,.arr 4,.cap0,.cap0],.arr (.nm 6)]⟩,[],[],[tI,tLI,tLS,tI,tL 3,.nm 3,tI,.bool,tI,.str,tI,tI,.bool,tI,.bool,tI,.str,tI,tL 6],[⟨.ret,⟨[(10,hP 0 0)],[.brow 13]⟩,[],[.nm 13]⟩,⟨.exit 2,⟨[(3,hh tI),(4,hh tLI),(5,hP 0 0),(6,hP 1 0),(10,hP 2 0),(11,hh tLS),(13,hP 3 0)],[bb (tL 3),.brow 3,.box [.hole tI,.hole .bool,.hole tI,.hole .str,.hole tI,.cap0,.cap0,.cap0,.cap0,.hole tI,.hole .bool],.box [.hole tI,.hole .bool,.hole tI,.hole .str,.hole tI,.arr 4,.cap0,.cap0],.arr (.nm 6)]⟩,[],[tI,tLI,tLS,tL 3,.nm 3,tI,.bool,tI,.str,tI,tI,.bool,tI,.bool,tI,.str,tI,tL 6]⟩],[]⟩
def mX :LEnt:=⟨2,⟨[(3,hh tI),(4,hh tLI),(5,hP 0 0),(6,hP 1 0),(10,hP 2 0),(11,hh tLS),(13,hP 3 0),(17,hh tI)],[bb (tL 3),.brow 3,.box [.hole tI,.hole .bool,.hole tI,.hole .str,.hole tI,.cap0,.cap0,.cap0,.cap0,.hole tI,.hole .bool],.box [.hole tI,.hole .bool,.hole tI,.hole .str,.hole tI,.arr 4,.arr 5,.cap0],.arr (.nm 6),.arr (.nm 6)]⟩,[(.via 13 6,.nm 6)],[(.via 13 6,.nm 6)],[tI,tLI,tLS,tI,tL 3,.nm 3,tI,.bool,tI,.str,tI,tI,.bool,tI,.bool,tI,.str,tI,tL 6,tL 6],[⟨.ret,⟨[(10,hP 0 0)],[.brow 13]⟩,[],[.nm 13]⟩,⟨.exit 4,⟨[(10,hP 0 0),(13,hP 1 0)],[.box [.hole tI,.hole .bool,.hole tI,.hole .str,.hole tI,.cap0,.cap0,.cap0,.cap0,.hole tI,.hole .bool],.box [.hole tI,.hole .bool,.hole tI,.hole .str,.hole tI,.arr 2,.arr 3,.cap0],.arr (.nm 6),.arr (.nm 6)]⟩,[],[tI,.bool,tI,.str,tI,tI,.bool,tI,.bool,tI,.str,tI,tL 6,tL 6]⟩],[]⟩
def e187 :FEnt:=⟨187,[.row 8,.row 3,hh .str,hh tI,hh tLI],[],[.nm 8,.nm 3,.str,tI,tLI],.row 13,[],[.nm 13],[mW,A4,mX]⟩
def A5 :LEnt:=⟨0,⟨[(0,hh .str),(4,.c (.arr 0)),(5,hh tI)],[.arr (.nm 9)]⟩,[(.slot 4,.nm 9)],[(.slot 4,.nm 9)],[.str,tI,tL 9],[⟨.ret,⟨[(2,.c (.cap0)),(3,hh tI)],[]⟩,[],[tI]⟩,⟨.exit 0,⟨[(4,.c (.arr 0))],[.arr (.nm 9)]⟩,[],[tL 9]⟩],[]⟩
def e124 :FEnt:=⟨124,[hh .str],[],[.str],.tup [hh (tL 9),hh tI],[],[tL 9,tI],[A5]⟩
def A6 :LEnt:=⟨0,⟨[(0,hh (tL 9)),(1,hh tI),(5,hh tI)],[]⟩,[],[],[tL 9,tI,tI],[oR 4 tI,oX 0],[]⟩
def e213 :FEnt:=⟨213,[hh (tL 9),hh tI],[],[tL 9,tI],hh tI,[],[tI],[A6]⟩
def mY :LEnt:=⟨0,⟨[(3,hh tI),(4,hh tLI),(5,hP 0 0),(6,hP 1 0),(10,hP 2 0),(11,hh (tL 9)),(13,hP 3 0),(14,hh tI)],[bb (tL 3),.brow 3,.box [.hole tI,.hole .bool,.hole tI,.hole .str,.hole tI,.cap0,.cap0,.cap0,.cap0,.hole tI,.hole .bool],.box [.hole tI,.hole .bool,.hole tI,.hole .str,.hole tI,.cap0,.arr 4,.cap0],.arr (.nm 6)]⟩,[(.via 13 6,.nm 6)],[(.via 13 6,.nm 6)],[tI,tLI,tL 9,tI,tL 3,.nm 3,tI,.bool,tI,.str,tI,tI,.bool,tI,.bool,tI,.str,tI,tL 6],[⟨.ret,⟨[(10,hP 0 0)],[.brow 13]⟩,[],[.nm 13]⟩,⟨.exit 0,⟨[(4,hh tLI),(6,hP 0 0),(10,hP 1 0),(11,hh (tL 9)),(13,hP 2 0)],[.brow 3,.box [.hole tI,.hole .bool,.hole tI,.hole .str,.hole tI,.cap0,.cap0,.cap0,.cap0,.hole tI,.hole .bool],.box [.hole tI,.hole .bool,.hole tI,.hole .str,.hole tI,.cap0,.arr 3,.cap0],.arr (.nm 6)]⟩,[],[tLI,tL 9,.nm 3,tI,.bool,tI,.str,tI,tI,.bool,tI,.bool,tI,.str,tI,tL 6]⟩],[]⟩
def A7 :LEnt:=⟨1,⟨[(4,hh tLI),(6,hP 0 0),(10,hP 1 0),(11,hh (tL 9)),(13,hP 2 0),(18,hh tI)],[.brow 3,.box [.hole tI,.hole .bool,.hole tI,.hole .str,.hole tI,.cap0,.cap0,.cap0,.cap0,.hole tI,.hole .bool],.box [.hole tI,.hole .bool,.hole tI,.hole .str,.hole tI,.cap0,.arr 3,.arr 4],.arr (.nm 6),.arr (.nm 7)]⟩,[(.via 13 7,.nm 7)],[(.via 13 7,.nm 7)],[tLI,tL 9,tI,.nm 3,tI,.bool,tI,.str,tI,tI,.bool,tI,.bool,tI,.str,tI,tL 6,tL 7],[⟨.ret,⟨[(10,hP 0 0)],[.brow 13]⟩,[],[.nm 13]⟩,⟨.exit 2,⟨[(10,hP 0 0),(13,hP 1 0)],[.box [.hole tI,.hole .bool,.hole tI,.hole .str,.hole tI,.cap0,.cap0,.cap0,.cap0,.hole tI,.hole .bool],.box [.hole tI,.hole .bool,.hole tI,.hole .str,.hole tI,.cap0,.arr 2,.arr 3],.arr (.nm 6),.arr (.nm 7)]⟩,[],[tI,.bool,tI,.str,tI,tI,.bool,tI,.bool,tI,.str,tI,tL 6,tL 7]⟩],[]⟩
def e188 :FEnt:=⟨188,[.row 8,.row 3,hh .str,hh tI,hh tLI],[],[.nm 8,.nm 3,.str,tI,tLI],.row 13,[],[.nm 13],[mY,A7]⟩
def e142 :FEnt:=⟨142,[.row 8,hh tI,hh .str,hh tI,hh tLI],[],[.nm 8,tI,.str,tI,tLI],.row 13,[],[.nm 13],[]⟩
def e84 :FEnt:=⟨84,[.row 8,hh tI,hh .str],[],[.nm 8,tI,.str],.tup [.row 13,hh tI],[],[.nm 13,tI],[]⟩
def e51 :FEnt:=⟨51,[.row 8,hh tI,hh .str],[],[.nm 8,tI,.str],.tup [.row 6,hh tI],[],[.nm 6,tI],[]⟩
def e93 :FEnt:=⟨93,[.row 6],[],[.nm 6],hh .bool,[],[.bool],[]⟩
def e94 :FEnt:=⟨94,[hh tI,hh .bool],[],[tI,.bool],hh .bool,[],[.bool],[]⟩
def e95_0 :LEnt:=⟨0,⟨[(1,hh (tL 7)),(2,hP 0 0),(5,hh tI)],[.brow 3]⟩,[],[],[tL 7,tI,.nm 3],[oR 4 .bool,oX 0],[]⟩
def e95 :FEnt:=⟨95,[.row 3,hh (tL 7)],[],[.nm 3,tL 7],hh .bool,[],[.bool],[e95_0]⟩
def e96_0 :LEnt:=⟨0,⟨[(1,hh tI),(2,hh (tL 6)),(3,hh .bool),(4,hP 0 0),(9,hh tI)],[bb (tL 3)]⟩,[],[],[tI,tL 6,.bool,tI,tL 3],[oR 8 .bool,oX 0],[]⟩
def e96 :FEnt:=⟨96,[.row 8,hh tI,hh (tL 6),hh .bool],[],[.nm 8,tI,tL 6,.bool],hh .bool,[],[.bool],[e96_0]⟩
def e60_0 :LEnt:=⟨0,⟨[(3,hh .bool),(4,hP 0 0),(6,hP 1 0),(9,hP 2 0),(12,hh tI)],[bb (tL 3),.brow 6,.box [.hole tI,.hole .str,.hole tI,.hole tI,.hole tI,.hole (tL 4),.hole (tL 5),.hole tI,.hole tI,.hole .bool]]⟩,[],[],[.bool,tI,tL 3,.nm 6,tI,.str,tI,tI,tI,tL 4,tL 5,tI,tI,.bool],[oR 8 .bool,oX 1],[]⟩
def e60_1 :LEnt:=⟨1,⟨[(6,hP 0 0),(15,hh tI)],[.brow 6]⟩,[],[],[tI,.nm 6],[oR 8 .bool,oX 3],[]⟩
def e60 :FEnt:=⟨60,[.row 8,hh tI,.row 6,hh .bool],[],[.nm 8,tI,.nm 6,.bool],hh .bool,[],[.bool],[e60_0,e60_1]⟩
def e29 :FEnt:=⟨29,[.row 8,hh tI,.row 6],[],[.nm 8,tI,.nm 6],hh .bool,[],[.bool],[]⟩
def e55 :FEnt:=⟨55,[.row 8,hh tI,.row 6],[],[.nm 8,tI,.nm 6],hh tI,[],[tI],[]⟩
def e98_0 :LEnt:=⟨0,⟨[(0,hh (.int .u64)),(3,hh .str)],[]⟩,[],[],[.int .u64,.str],[⟨.exit 0,⟨[(3,hh .str)],[]⟩,[],[.str]⟩],[]⟩
def e98 :FEnt:=⟨98,[hh (.int .u64)],[],[.int .u64],hh .str,[],[.str],[e98_0]⟩
def A8 :LEnt:=⟨0,⟨[(0,hh (.int .u64)),(3,.c (.arr 0))],[.arr (.int .u8)]⟩,[(.slot 3,.int .u8)],[(.slot 3,.int .u8)],[.int .u64,.slice (.int .u8)],[⟨.exit 0,⟨[(0,hh (.int .u64)),(3,.c (.arr 0))],[.arr (.int .u8)]⟩,[],[.int .u64,.slice (.int .u8)]⟩],[]⟩
def e100 :FEnt:=⟨100,[hh (.int .u64)],[],[.int .u64],hh .str,[],[.str],[A8]⟩
def e101 :FEnt:=⟨101,[hh .str],[],[.str],hh .str,[],[.str],[]⟩
def e102 :FEnt:=⟨102,[hh tI,hh .bool,hh .str],[],[tI,.bool,.str],hh .str,[],[.str],[]⟩
def zB :LEnt:=⟨0,⟨[(3,hP 0 0),(5,hP 1 0),(7,hP 2 0),(14,hh .str),(15,hh tI),(19,hh tI)],[bb (tL 3),.brow 6,.brow 3]⟩,[],[],[.str,tI,tI,tL 3,.nm 6,.nm 3],[⟨.exit 7,⟨[(3,hP 0 0),(5,hP 1 0),(7,hP 2 0),(14,hh .str),(15,hh tI)],[bb (tL 3),.brow 6,.brow 3]⟩,[],[.str,tI,tL 3,.nm 6,.nm 3]⟩],[]⟩
def e61_0 :LEnt:=⟨0,⟨[(3,hP 0 0),(5,hP 1 0),(7,hP 2 0),(10,hh .str),(11,hh tI)],[bb (tL 3),.brow 6,.brow 3]⟩,[],[],[.str,tI,tL 3,.nm 6,.nm 3],[⟨.exit 1,⟨[(10,hh .str)],[]⟩,[],[.str]⟩],[]⟩
def e61_1 :LEnt:=⟨1,⟨[(3,hP 0 0),(5,hP 1 0),(7,hP 2 0),(12,hh .str),(13,hh tI)],[bb (tL 3),.brow 6,.brow 3]⟩,[],[],[.str,tI,tL 3,.nm 6,.nm 3],[⟨.exit 3,⟨[(12,hh .str)],[]⟩,[],[.str]⟩],[]⟩
def e61_2 :LEnt:=⟨2,⟨[(3,hP 0 0),(5,hP 1 0),(7,hP 2 0),(14,hh .str),(15,hh tI)],[bb (tL 3),.brow 6,.brow 3]⟩,[],[],[.str,tI,tL 3,.nm 6,.nm 3],[⟨.exit 5,⟨[(14,hh .str)],[]⟩,[],[.str]⟩],[zB]⟩
def e61 :FEnt:=⟨61,[.row 8,hh tI,.row 6],[],[.nm 8,tI,.nm 6],hh .str,[],[.str],[e61_0,e61_1,e61_2]⟩
def e62_0 :LEnt:=⟨0,⟨[(3,hP 0 0),(5,hP 1 0),(7,hP 2 0),(8,hh tI),(9,hh tI)],[bb (tL 3),.brow 6,.brow 3]⟩,[],[],[tI,tI,tL 3,.nm 6,.nm 3],[⟨.exit 0,⟨[(5,hP 0 0),(8,hh tI)],[.brow 6]⟩,[],[tI,.nm 6]⟩],[]⟩
def e62 :FEnt:=⟨62,[.row 8,hh tI,.row 6],[],[.nm 8,tI,.nm 6],hh tI,[],[tI],[e62_0]⟩
def e19 :FEnt:=⟨19,[.row 8,hh tI,.row 6],[],[.nm 8,tI,.nm 6],.tup [hh .str,hh tI],[],[.str,tI],[]⟩
def e13 :FEnt:=⟨13,[.row 8,hh tI,hh .str],[],[.nm 8,tI,.str],.tup [hh .str,hh tI],[],[.str,tI],[]⟩
def e3 :FEnt:=⟨3,[.row 0,hh tI,hh .str],[],[.nm 0,tI,.str],hh .bool,[],[.bool],[]⟩
def e9 :FEnt:=⟨9,[.row 0,hh tI,hh .str],[],[.nm 0,tI,.str],hh .bool,[],[.bool],[]⟩
def e6 :FEnt:=⟨6,[.row 15],[],[.nm 15],hh .bool,[],[.bool],[]⟩
def e4 :FEnt:=⟨4,[.row 15],[],[.nm 15],hh .bool,[],[.bool],[]⟩
def e7_0 :LEnt:=⟨0,⟨[(17,hh (.slice tLI)),(114,hh (.slice tLI)),(115,hh tI),(116,hh tI)],[]⟩,[],[],[.slice tLI,.slice tLI,tI,tI],[oR 2 .bool,oX 0],[]⟩
def e7 :FEnt:=⟨7,[.row 16],[],[.nm 16],hh .bool,[],[.bool],[e7_0]⟩
def tabE0 :List FEnt:=[e47,e220,e224,kg,e223,e222,e221,e201,e216,e217,e198,e218,e199,e219,e200,e158,e159,e125,e177,e168]
def tabE1 :List FEnt:=[e169,e191,e190,e143,e178,e204,e165,e128,e167,e166,e129,e179,e202,e161,e180,e133,e214,e195,e208,e174]
def tabE2 :List FEnt:=[e215,e197,e196,e151,e181,e160,e211,e210,e212,e182,e139,e83,e50,e77,e193,e148,e149,e194,kh,kj]
def tabE3 :List FEnt:=[e150,e112,e86,e81,e132,kl,e205,e170,e175,e137,e171,e136,e138,e134,e135,e82,e49,e12,e48,e85]
def tabE4 :List FEnt:=[e53,e87,e145,L3,L4,e88,e89,e54_a,e54_b,e15,e67,e68,e27,e37,e11]
def tabE :List FEnt:=tabE0++tabE1++tabE2++tabE3++tabE4
theorem mZ :tabE.all (okE prog)=true:=by kernel_rfl
def jn :FSpec Un:={qu with F:=sortK (α:=Un.D 11) sortLt}
theorem lm :FnC prog jn:=⟨qv.1,fun h r hr=>qv.2 h r (I9 sortSWO _ r hr)⟩
def gY(_:Unit):Option (av):=
 some (⟨[(⟨2,[],(-10),10,0,[],[],0,0,false⟩:ae),(⟨2,[],0,5,0,[],[],0,0,false⟩:ae),(⟨5,[80,111,105,110,116],0,0,0,[],[(⟨1,[120],0,false,false,(⟨0,false,0,[],0,[],[],[]⟩:ab)⟩:ap),(⟨2,[121],1,false,true,(⟨2,false,3,[],0,[],[],[]⟩:ab)⟩:ap)],0,0,false⟩:ae)]⟩:av)
theorem e47_k :KC e47:= .m (by kernel_rfl)
theorem CS :FC e47 gY:= .fn e47_k .n .n fun _=>by kernel_rfl
def nC(x_:Int×Int×List aE):Option (ab):=
 match x_ with
 | (x0,y,rest)=>
 some (⟨5,false,0,[],0,[],[(⟨2,false,x0,[],0,[],[],[]⟩:ab),(⟨2,false,y,[],0,[],[],[]⟩:ab)],rest⟩:ab)
theorem e48_k :KC e48:= .m (by kernel_rfl)
theorem Dp :FC e48 nC:= .fn e48_k .n .n fun _=>by kernel_rfl
theorem e12_k :KC e12:= .m (by kernel_rfl)
noncomputable def lc:av×Int×List UInt8->Option (List UInt8×Int):=evF prog tabE [g6,g7,g8,jn,im,hY] 3000 e12
theorem D3 :FC e12 lc:= .run mZ (.k ja (.k jc (.k jd (.k lm (.k jk (.k kV .n)))))) e12_k 3000 fun _=>rfl
theorem e15_k :KC e15:= .m (by kernel_rfl)
noncomputable def ly:av×Int×ab->Option (List (List Int)×Int):=evF prog tabE [g6,g7,g8,jn,im,hY] 3000 e15
theorem Ev :FC e15 ly:= .run mZ (.k ja (.k jc (.k jd (.k lm (.k jk (.k kV .n)))))) e15_k 3000 fun _=>rfl
theorem e27_k :KC e27:= .m (by kernel_rfl)
noncomputable def lz:av×Int×ab×ab->Option (ab×Int):=evF prog tabE [g6,g7,g8,jn,im,hY] 3000 e27
theorem Ew :FC e27 lz:= .run mZ (.k ja (.k jc (.k jd (.k lm (.k jk (.k kV .n)))))) e27_k 3000 fun _=>rfl
theorem e49_k :KC e49:= .m (by kernel_rfl)
noncomputable def lf:av×Int×ab->Option (List UInt8×Int):=evF prog tabE [g6,g7,g8,jn,im,hY] 3000 e49
theorem D4 :FC e49 lf:= .run mZ (.k ja (.k jc (.k jd (.k lm (.k jk (.k kV .n)))))) e49_k 3000 fun _=>rfl
theorem e37_k :KC e37:= .m (by kernel_rfl)
noncomputable def kD:av×Int×List UInt8->Option (Bool):=evF prog tabE [g6,g7,g8,jn,im,hY] 3000 e37
theorem CU :FC e37 kD:= .run mZ (.k ja (.k jc (.k jd (.k lm (.k jk (.k kV .n)))))) e37_k 3000 fun _=>rfl
def p7(lc:av×Int×List UInt8->Option (List UInt8×Int))(ly:av×Int×ab->Option (List (List Int)×Int))(lz:av×Int×ab×ab->Option (ab×Int))(lf:av×Int×ab->Option (List UInt8×Int))(kD:av×Int×List UInt8->Option (Bool)):Option (Bool):=
 gY () >>=fun r=>
 lc (r,2,[2,1,3,4,1,6,8,1,9]) >>=fun r_1=>
 nC ((-2),3,[(⟨4,[9]⟩:aE)]) >>=fun r_4=>
 gY () >>=fun r_5=>
 ly (r_5,2,ab.eta r_4) >>=fun r_6=>
 gY () >>=fun r_9=>
 nC (0,3,[]) >>=fun r_10=>
 lz (r_9,2,ab.eta r_4,ab.eta r_10) >>=fun r_11=>
 gY () >>=fun r_14=>
 lf (r_14,2,ab.eta r_11.1) >>=fun r_15=>
 some (bif bif bif bif bif decide (r_1.2=0)then decide (r_6.2=0)else false then decide (r_11.2=0)else false then decide (r_15.2=0)else false then decide (r_1.1=[2,1,3,8,1,9])else false then decide ((r_6.1.length:Int)=1)else false) >>=fun t59=>
 if(inR 0 r_6.1.length || (!t59))=true then
  some (bif bif t59 then decide (((r_6.1.getD (0:Int).toNat []).length:Int)=0)else false then decide (r_15.1=[2,0,8,1,9])else false) >>=fun t70=>
  (if t70=true then gY ()else some sj) >>=fun r_18=>
  (if t70=true then kD (r_18,2,r_1.1)else some false) >>=fun r_19=>
  some (bif t70 then r_19 else false)
 else none
noncomputable def p8 (_:Unit):Option (Bool):=p7 lc ly lz lf kD
theorem e11_k :KC e11:= .m (by kernel_rfl)
theorem Da :FC e11 p8:= .fn e11_k (.k CS (.k D3 (.k Dp (.k Ev (.k Ew (.k D4 (.k CU .n))))))) .n fun _=>by kernel_rfl
def awN(n:Int):ab:=⟨2,false,n,[],0,[],[],[]⟩
def awE :av:=⟨[⟨2,[],-10,10,0,[],[],0,0,false⟩,⟨2,[],0,5,0,[],[],0,0,false⟩,⟨5,[80,111,105,110,116],0,0,0,[],[⟨1,[120],0,false,false,⟨0,false,0,[],0,[],[],[]⟩⟩,⟨2,[121],1,false,true,awN 3⟩],0,0,false⟩]⟩
def awP(x y:Int)(r:List aE):ab:=⟨5,false,0,[],0,[],[awN x,awN y],r⟩
theorem L5 :gY ()=some awE:=rfl
theorem L6(x y:Int)(r:List aE):nC (x,y,r)=some (awP x y r):=rfl
theorem aw1 :lc (awE,2,[2,1,3,4,1,6,8,1,9])=some ([2,1,3,8,1,9],0):=by kernel_rfl
theorem aw2 :ly (awE,2,awP (-2) 3 [⟨4,[9]⟩])=some ([[]],0):=by kernel_rfl
theorem aw3 :lz (awE,2,awP (-2) 3 [⟨4,[9]⟩],awP 0 3 [])=some (awP 0 3 [⟨4,[9]⟩],0):=by kernel_rfl
theorem aw4 :lf (awE,2,awP 0 3 [⟨4,[9]⟩])=some ([2,0,8,1,9],0):=by kernel_rfl
theorem aw5 :kD (awE,2,[2,1,3,8,1,9])=some true:=by kernel_rfl
theorem Ij (g1 : av×Int×List UInt8 -> Option (List UInt8×Int)) (g2 : av×Int×ab -> Option (List (List Int)×Int)) (g3 : av×Int×ab×ab -> Option (ab×Int)) (g4 : av×Int×ab -> Option (List UInt8×Int)) (g5 : av×Int×List UInt8 -> Option Bool)
 (h1:g1 (awE,2,[2,1,3,4,1,6,8,1,9])=some ([2,1,3,8,1,9],0)) (h2:g2 (awE,2,awP (-2) 3 [⟨4,[9]⟩])=some ([[]],0)) (h3:g3 (awE,2,awP (-2) 3 [⟨4,[9]⟩],awP 0 3 [])=some (awP 0 3 [⟨4,[9]⟩],0))
 (h4:g4 (awE,2,awP 0 3 [⟨4,[9]⟩])=some ([2,0,8,1,9],0)) (h5:g5 (awE,2,[2,1,3,8,1,9])=some true):p7 g1 g2 g3 g4 g5=some true:=by
 unfold p7;simp only[oZ4,oZ3,L5,L6,ab.aA];rw[h1,h2];simp only[oZ3];rw[h3];simp only[oZ3,ab.aA];rw[h4];simp[inR,h5]
theorem Ik :p8 ()=some true:=Ij _ _ _ _ _ aw1 aw2 aw3 aw4 aw5
def kW(_:Unit):Option (Bool):=some true
theorem Dq :FC e11 kW:=by
 have:p8=kW:=by funext x;exact Ik
 rw[<-this];exact Da
theorem tk :kW ()=some true:=rfl
def gg(x_:aT×Int):Option (Int):=
 match x_ with
 | (d,i)=>
 if inR i d.Nodes.length=true then
 some (addI .i64 1 (wrp .i64 (remI (d.Nodes.getD i.toNat cb).Kind 9)))
 else none
theorem e40_k :KC e40:= .m (by kernel_rfl)
theorem kL :FC e40 gg:= .fn e40_k .n .n fun _=>by kernel_rfl
def ct(kind:Int):Option (Bool):=
 some (bif bif decide (kind=4)then true else decide (kind=5)then true else decide (kind=6))
theorem e41_k :KC e41:= .m (by kernel_rfl)
theorem p6 :FC e41 ct:= .fn e41_k .n .n fun _=>by kernel_rfl
def fe(x0:bC):Option (Int):=
 some (subI .i64 (wrp .i64 (remI x0.A 7)) 3)
theorem e42_k :KC e42:= .m (by kernel_rfl)
theorem qe :FC e42 fe:= .fn e42_k .n .n fun _=>by kernel_rfl
def ig(x0:bC):Option (Int):=
 fe x0 >>=fun r=>
 some (addI .i64 r (wrp .i64 (remI x0.B 6)))
theorem e43_k :KC e43:= .m (by kernel_rfl)
theorem tz :FC e43 ig:= .fn e43_k (.k qe .n) .n fun _=>by kernel_rfl
def eX(x_:Int×bC×List Int):Option (List Int):=
 match x_ with
 | (i,b_1,b_2)=>
 if decide (i < 6)=true then
 if decide (0<=i)=true then
 if decide (remI (shrI .u8 b_1.A i) 2=1)=true then
 some [addI .i64 i 1] >>=fun t18=>
 if room 8 (b_2++t18).length=true then
 eX (addI .i64 i 1,b_1,b_2++t18)
 else none
 else
 eX (addI .i64 i 1,b_1,b_2)
 else none
 else
 some b_2
  partial_fixpoint
theorem Db :LC 44 0 [0] e44_0 eX:= .rc eX.partial_correctness .n .n fun _ _=>by kernel_rfl
def dL(x0:bC):Option (List Int):=
 eX (0,x0,[]) >>=fun o=>
 if decide ((o.length:Int)=0)=true then
 some [1] >>=fun t24=>
 if room 8 (o++t24).length=true then
 some (o++t24)
 else none
 else
 some o
theorem e44_k :KC e44:= .m (by kernel_rfl)
theorem tF :FC e44 dL:= .fn e44_k .n (.k Db .n) fun _=>by kernel_rfl
def kM(kind:Int):Option (Bool):=
 some (decide (7<=kind))
theorem L8 :KC e131:= .m (by kernel_rfl)
theorem tn :FC e131 kM:= .fn L8 .n .n fun _=>by kernel_rfl
def dG(x_:Int×Int×List bC):Option ((Int) ⊕ (Unit)):=
 match x_ with
 | (n,k,b)=>
 if decide (k < n)=true then
 gg ((⟨b⟩:aT),k) >>=fun r_2=>
 kM r_2 >>=fun r_3=>
 if r_3=true then
 some (.inl k)
 else
 dG (n,addI .i64 k 1,b)
 else
 some (.inr ())
  partial_fixpoint
theorem Cw :LC 79 0 [0] e79_0 dG:= .rc dG.partial_correctness (.k kL (.k tn .n)) .n fun _ _=>by kernel_rfl
def kN(x_:aT×Int×Int):Option (Int):=
 match x_ with
 | (d,i,code)=>
 some (d.Nodes.length:Int) >>=fun t12=>
 if(!(decide (t12=0)))=true then
 some (remI (wrp .i64 code) t12) >>=fun t16=>
 gg (d,t16) >>=fun r=>
 kM r >>=fun r_1=>
 if(bif r_1 then true else decide (t16 < i))=true then
 some t16
 else
 if decide (0 < i)=true then
 if(!(decide (i=0)))=true then
 some (remI t16 i)
 else none
 else
 dG (t12,0,d.Nodes) >>=fun o=>
 match o with
 | .inl o_1=>
 some o_1
 | .inr o_2=>
 some (-1)
 else none
theorem e79_k :KC e79:= .m (by kernel_rfl)
theorem Dc :FC e79 kN:= .fn e79_k (.k kL (.k tn .n)) (.k Cw .n) fun _=>by kernel_rfl
def kE(kind:Int):Option (Bool):=
 some (bif decide (1<=kind)then decide (kind<=4)else false)
theorem e75_k :KC e75:= .m (by kernel_rfl)
theorem tl :FC e75 kE:= .fn e75_k .n .n fun _=>by kernel_rfl
def dI(x_:Int×Int×Int×List bC):Option ((Int) ⊕ (Unit)):=
 match x_ with
 | (code_1,n,k,b)=>
 if decide (k < n)=true then
 if(!(decide (n=0)))=true then
 some (remI (addI .i64 (wrp .i64 code_1) k) n) >>=fun t21=>
 gg ((⟨b⟩:aT),t21) >>=fun r=>
 kE r >>=fun r_1=>
 if r_1=true then
 some (.inl t21)
 else
 dI (code_1,n,addI .i64 k 1,b)
 else none
 else
 some (.inr ())
  partial_fixpoint
theorem Dd :LC 46 0 [0] e46_0 dI:= .rc dI.partial_correctness (.k kL (.k tl .n)) .n fun _ _=>by kernel_rfl
def io(x_:aT×Int):Option (Int):=
 match x_ with
 | (d,code)=>
 dI (code,(d.Nodes.length:Int),0,d.Nodes) >>=fun o=>
 match o with
 | .inl o_1=>
 some o_1
 | .inr o_2=>
 some (-1)
theorem e46_k :KC e46:= .m (by kernel_rfl)
theorem tG :FC e46 io:= .fn e46_k .n (.k Dd .n) fun _=>by kernel_rfl
def kF(x_:aT×Int×Int):Option (ab×Bool):=
 match x_ with
 | (d,t,code)=>
 if inR t d.Nodes.length=true then
 some (d.Nodes.getD t.toNat cb) >>=fun x0=>
 gg (d,t) >>=fun r=>
 some (decide (r=8)) >>=fun t21=>
 (if t21=true then io (d,0)else some 0) >>=fun r_1=>
 if(bif t21 then decide (r_1 < 0)else false)=true then
 some ((⟨7,false,0,[],0,[],[],[]⟩:ab),true)
 else
 if decide (r=1)=true then
 some ((⟨r,decide (remI code 2=1),0,[],0,[],[],[]⟩:ab),true)
 else
 if decide (r=2)=true then
 fe x0 >>=fun r_2=>
 ig x0 >>=fun r_3=>
 fe x0 >>=fun r_4=>
 some (addI .i64 (subI .i64 r_3 r_4) 1) >>=fun t47=>
 if(!(decide (t47=0)))=true then
 some ((⟨r,false,addI .i64 r_2 (remI (wrp .i64 code) t47),[],0,[],[],[]⟩:ab),true)
 else none
 else
 if decide (r=3)=true then
 if(bif decide (0 < remI x0.A 4)then decide (remI code 2=1)else false)=true then
 some ((⟨r,false,0,[97],0,[],[],[]⟩:ab),true)
 else
 some ((⟨r,false,0,[],0,[],[],[]⟩:ab),true)
 else
 if decide (r=4)=true then
 dL x0 >>=fun r_5=>
 dL x0 >>=fun r_6=>
 some (r_6.length:Int) >>=fun t71=>
 if(!(decide (t71=0)))=true then
 some (remI (wrp .i64 code) t71) >>=fun t72=>
 if inR t72 r_5.length=true then
 some ((⟨r,false,0,[],r_5.getD t72.toNat 0,[],[],[]⟩:ab),true)
 else none
 else none
 else
 some (decide (r=5)) >>=fun t77=>
 if t77=true then
 if t77=true then
 some ((⟨0,false,0,[],0,[],[],[]⟩:ab),false)
 else
 some ((⟨r,false,0,[],0,[],[],[]⟩:ab),true)
 else
 if decide (r=6)=true then
 some ((⟨0,false,0,[],0,[],[],[]⟩:ab),false)
 else
 some ((⟨r,false,0,[],0,[],[],[]⟩:ab),true)
 else none
theorem e80_k :KC e80:= .m (by kernel_rfl)
theorem CV :FC e80 kF:= .fn e80_k (.k kL (.k tG (.k qe (.k tz (.k tF .n))))) .n fun _=>by kernel_rfl
def fZ(x_:Int×Bool×Int×Int×List bC×bC×List ap):Option (Int×Bool×Int×List bC×bC×List ap):=
 match x_ with
 | (i_3,record_3,id_2,k,b_7,b_8,b_9)=>
 if decide (k < (b_8.Parts.length:Int))=true then
 if inR k b_8.Parts.length=true then
 some (b_8.Parts.getD k.toNat lb) >>=fun x0_1=>
 kN ((⟨b_7⟩:aT),i_3,x0_1.Type_) >>=fun r=>
 if(bif (!(decide (addI .i64 1 (wrp .i64 (remI x0_1.ID 12))=id_2)))then true else decide (r < 0))=true then
 fZ (i_3,record_3,id_2,addI .i64 k 1,b_7,b_8,b_9)
 else
 some (dW (wrp .i32 (addI .i64 97 id_2))) >>=fun t55=>
 if decide ([109].length+t55.length<=aX)=true then
 some ([109]++t55) >>=fun t56=>
 if(bif record_3 then decide (remI x0_1.Flag 4=1)else false)=true then
 if(bif record_3 then decide (2<=remI x0_1.Flag 4)else false)=true then
 kF ((⟨b_7⟩:aT),r,quoI .u8 x0_1.Flag 4) >>=fun r_1=>
 some [(⟨id_2,t56,r,true,r_1.2,ab.eta r_1.1⟩:ap)] >>=fun t87=>
 if room 160 (b_9++t87).length=true then
 some (i_3,record_3,id_2,b_7,b_8,b_9++t87)
 else none
 else
 some [(⟨id_2,t56,r,true,false,(⟨0,false,0,[],0,[],[],[]⟩:ab)⟩:ap)] >>=fun t87_1=>
 if room 160 (b_9++t87_1).length=true then
 some (i_3,record_3,id_2,b_7,b_8,b_9++t87_1)
 else none
 else
 if(bif record_3 then decide (2<=remI x0_1.Flag 4)else false)=true then
 kF ((⟨b_7⟩:aT),r,quoI .u8 x0_1.Flag 4) >>=fun r_4=>
 some [(⟨id_2,t56,r,false,r_4.2,ab.eta r_4.1⟩:ap)] >>=fun t87_2=>
 if room 160 (b_9++t87_2).length=true then
 some (i_3,record_3,id_2,b_7,b_8,b_9++t87_2)
 else none
 else
 some [(⟨id_2,t56,r,false,false,(⟨0,false,0,[],0,[],[],[]⟩:ab)⟩:ap)] >>=fun t87_3=>
 if room 160 (b_9++t87_3).length=true then
 some (i_3,record_3,id_2,b_7,b_8,b_9++t87_3)
 else none
 else none
 else none
 else
 some (i_3,record_3,id_2,b_7,b_8,b_9)
  partial_fixpoint
theorem Cn :LC 45 0 [0,0] zx fZ:= .rc fZ.partial_correctness (.k Dc (.k CV .n)) .n fun _ _=>by kernel_rfl
def f5(x_:Int×Bool×Int×List bC×bC×List ap):Option (List ap):=
 match x_ with
 | (i_1,record_1,id,b_1,b_2,b_3)=>
 if decide (id<=12)=true then
 fZ (i_1,record_1,id,0,b_1,b_2,b_3) >>=fun o_1=>
 f5 (o_1.1,o_1.2.1,addI .i64 o_1.2.2.1 1,o_1.2.2.2.1,o_1.2.2.2.2.1,o_1.2.2.2.2.2)
 else
 some b_3
  partial_fixpoint
theorem CK :LC 45 0 [0] e45_0 f5:= .rc f5.partial_correctness .n (.k Cn .n) fun _ _=>by kernel_rfl
def ic(x_:aT×Int×Bool):Option (List ap):=
 match x_ with
 | (d,i,record)=>
 if inR i d.Nodes.length=true then
 f5 (i,record,1,d.Nodes,d.Nodes.getD i.toNat cb,[]) >>=fun o=>
 some o
 else none
theorem e45_k :KC e45:= .m (by kernel_rfl)
theorem Dr :FC e45 ic:= .fn e45_k .n (.k CK .n) fun _=>by kernel_rfl
def eV(x_:Int×Int×List Int×Int×List bC×Int×List UInt8×Int×Int×Int×Int×Int×Bool×List ae×List aL):Option (Int×Int×List bC×Int×List UInt8×Int×Int×Int×Int×Int×Bool×List ae×List aL):=
 match x_ with
 | (n_3,i_3,l_22,k,b_25,b_26,b_27,b_28,b_29,b_30,b_31,b_32,b_33,b_34,b_35)=>
 if decide (k < (l_22.length:Int))=true then
 if inR k l_22.length=true then
 if inR k l_22.length=true then
 some (dW (wrp .i32 (addI .i64 97 (l_22.getD k.toNat 0)))) >>=fun t87=>
 if decide ([115].length+t87.length<=aX)=true then
 some [(⟨l_22.getD k.toNat 0,[115]++t87⟩:aL)] >>=fun t90=>
 if room 24 (b_35++t90).length=true then
 eV (n_3,i_3,l_22,addI .i64 k 1,b_25,b_26,b_27,b_28,b_29,b_30,b_31,b_32,b_33,b_34,b_35++t90)
 else none
 else none
 else none
 else none
 else
 some (n_3,i_3,b_25,b_26,b_27,b_28,b_29,b_30,b_31,b_32,b_33,b_34,b_35)
  partial_fixpoint
theorem CW :LC 10 0 [0,0] zy eV:= .rc eV.partial_correctness .n .n fun _ _=>by kernel_rfl
def bh(x_:Int×Int×List bC×List ae):Option (List ae):=
 match x_ with
 | (n,i,b_1,b_2)=>
 if decide (i < n)=true then
 if inR i b_1.length=true then
 some (b_1.getD i.toNat cb) >>=fun x0=>
 gg ((⟨b_1⟩:aT),i) >>=fun r=>
 ct r >>=fun r_1=>
 if r_1=true then
 some (dW (wrp .i32 (addI .i64 65 i))) >>=fun t41=>
 if decide (r=2)=true then
 fe x0 >>=fun r_2=>
 ig x0 >>=fun r_3=>
 some [(⟨r,t41,r_2,r_3,0,[],[],0,0,false⟩:ae)] >>=fun t167=>
 if room 120 (b_2++t167).length=true then
 bh (n,addI .i64 i 1,b_1,b_2++t167)
 else none
 else
 if decide (r=3)=true then
 some [(⟨r,t41,0,0,wrp .i64 (remI x0.A 4),[],[],0,0,false⟩:ae)] >>=fun t167_1=>
 if room 120 (b_2++t167_1).length=true then
 bh (n,addI .i64 i 1,b_1,b_2++t167_1)
 else none
 else
 if decide (r=4)=true then
 dL x0 >>=fun r_4=>
 eV (n,i,r_4,0,b_1,r,t41,0,0,0,0,0,decide (remI x0.B 2=1),b_2,[]) >>=fun o_1=>
 some [(⟨o_1.2.2.2.1,o_1.2.2.2.2.1,o_1.2.2.2.2.2.1,o_1.2.2.2.2.2.2.1,o_1.2.2.2.2.2.2.2.1,o_1.2.2.2.2.2.2.2.2.2.2.2.2,[],o_1.2.2.2.2.2.2.2.2.1,o_1.2.2.2.2.2.2.2.2.2.1,o_1.2.2.2.2.2.2.2.2.2.2.1⟩:ae)] >>=fun t167_2=>
 if room 120 (o_1.2.2.2.2.2.2.2.2.2.2.2.1++t167_2).length=true then
 bh (o_1.1,addI .i64 o_1.2.1 1,o_1.2.2.1,o_1.2.2.2.2.2.2.2.2.2.2.2.1++t167_2)
 else none
 else
 if decide (r=5)=true then
 ic ((⟨b_1⟩:aT),i,true) >>=fun r_5=>
 some [(⟨r,t41,0,0,0,[],r_5,0,0,false⟩:ae)] >>=fun t167_3=>
 if room 120 (b_2++t167_3).length=true then
 bh (n,addI .i64 i 1,b_1,b_2++t167_3)
 else none
 else
 if decide (r=6)=true then
 ic ((⟨b_1⟩:aT),i,false) >>=fun r_6=>
 if decide ((r_6.length:Int)=0)=true then
 some [(⟨5,t41,0,0,0,[],[],0,0,false⟩:ae)] >>=fun t167_4=>
 if room 120 (b_2++t167_4).length=true then
 bh (n,addI .i64 i 1,b_1,b_2++t167_4)
 else none
 else
 some [(⟨r,t41,0,0,0,[],r_6,0,0,decide (remI x0.B 2=1)⟩:ae)] >>=fun t167_5=>
 if room 120 (b_2++t167_5).length=true then
 bh (n,addI .i64 i 1,b_1,b_2++t167_5)
 else none
 else
 if decide (r=7)=true then
 if(!(decide (n=0)))=true then
 some [(⟨r,t41,0,0,wrp .i64 (remI x0.A 4),[],[],0,remI (wrp .i64 x0.C) n,false⟩:ae)] >>=fun t167_6=>
 if room 120 (b_2++t167_6).length=true then
 bh (n,addI .i64 i 1,b_1,b_2++t167_6)
 else none
 else none
 else
 if decide (r=8)=true then
 some (wrp .i64 (remI x0.A 4)) >>=fun t135=>
 io ((⟨b_1⟩:aT),x0.B) >>=fun r_7=>
 if(!(decide (n=0)))=true then
 some (remI (wrp .i64 x0.C) n) >>=fun t144=>
 if decide (r_7 < 0)=true then
 some [(⟨7,[],0,0,t135,[],[],0,t144,false⟩:ae)] >>=fun t167_7=>
 if room 120 (b_2++t167_7).length=true then
 bh (n,addI .i64 i 1,b_1,b_2++t167_7)
 else none
 else
 some [(⟨r,t41,0,0,t135,[],[],r_7,t144,false⟩:ae)] >>=fun t167_8=>
 if room 120 (b_2++t167_8).length=true then
 bh (n,addI .i64 i 1,b_1,b_2++t167_8)
 else none
 else none
 else
 if decide (r=9)=true then
 if(!(decide (n=0)))=true then
 some [(⟨r,t41,0,0,0,[],[],0,remI (wrp .i64 x0.C) n,false⟩:ae)] >>=fun t167_9=>
 if room 120 (b_2++t167_9).length=true then
 bh (n,addI .i64 i 1,b_1,b_2++t167_9)
 else none
 else none
 else
 some [(⟨r,t41,0,0,0,[],[],0,0,false⟩:ae)] >>=fun t167_10=>
 if room 120 (b_2++t167_10).length=true then
 bh (n,addI .i64 i 1,b_1,b_2++t167_10)
 else none
 else
 if decide (r=2)=true then
 fe x0 >>=fun r_8=>
 ig x0 >>=fun r_9=>
 some [(⟨r,[],r_8,r_9,0,[],[],0,0,false⟩:ae)] >>=fun t167_11=>
 if room 120 (b_2++t167_11).length=true then
 bh (n,addI .i64 i 1,b_1,b_2++t167_11)
 else none
 else
 if decide (r=3)=true then
 some [(⟨r,[],0,0,wrp .i64 (remI x0.A 4),[],[],0,0,false⟩:ae)] >>=fun t167_12=>
 if room 120 (b_2++t167_12).length=true then
 bh (n,addI .i64 i 1,b_1,b_2++t167_12)
 else none
 else
 if decide (r=4)=true then
 dL x0 >>=fun r_10=>
 eV (n,i,r_10,0,b_1,r,[],0,0,0,0,0,decide (remI x0.B 2=1),b_2,[]) >>=fun o_2=>
 some [(⟨o_2.2.2.2.1,o_2.2.2.2.2.1,o_2.2.2.2.2.2.1,o_2.2.2.2.2.2.2.1,o_2.2.2.2.2.2.2.2.1,o_2.2.2.2.2.2.2.2.2.2.2.2.2,[],o_2.2.2.2.2.2.2.2.2.1,o_2.2.2.2.2.2.2.2.2.2.1,o_2.2.2.2.2.2.2.2.2.2.2.1⟩:ae)] >>=fun t167_13=>
 if room 120 (o_2.2.2.2.2.2.2.2.2.2.2.2.1++t167_13).length=true then
 bh (o_2.1,addI .i64 o_2.2.1 1,o_2.2.2.1,o_2.2.2.2.2.2.2.2.2.2.2.2.1++t167_13)
 else none
 else
 if decide (r=5)=true then
 ic ((⟨b_1⟩:aT),i,true) >>=fun r_11=>
 some [(⟨r,[],0,0,0,[],r_11,0,0,false⟩:ae)] >>=fun t167_14=>
 if room 120 (b_2++t167_14).length=true then
 bh (n,addI .i64 i 1,b_1,b_2++t167_14)
 else none
 else
 if decide (r=6)=true then
 ic ((⟨b_1⟩:aT),i,false) >>=fun r_12=>
 if decide ((r_12.length:Int)=0)=true then
 some [(⟨5,[],0,0,0,[],[],0,0,false⟩:ae)] >>=fun t167_15=>
 if room 120 (b_2++t167_15).length=true then
 bh (n,addI .i64 i 1,b_1,b_2++t167_15)
 else none
 else
 some [(⟨r,[],0,0,0,[],r_12,0,0,decide (remI x0.B 2=1)⟩:ae)] >>=fun t167_16=>
 if room 120 (b_2++t167_16).length=true then
 bh (n,addI .i64 i 1,b_1,b_2++t167_16)
 else none
 else
 if decide (r=7)=true then
 if(!(decide (n=0)))=true then
 some [(⟨r,[],0,0,wrp .i64 (remI x0.A 4),[],[],0,remI (wrp .i64 x0.C) n,false⟩:ae)] >>=fun t167_17=>
 if room 120 (b_2++t167_17).length=true then
 bh (n,addI .i64 i 1,b_1,b_2++t167_17)
 else none
 else none
 else
 if decide (r=8)=true then
 some (wrp .i64 (remI x0.A 4)) >>=fun t135_1=>
 io ((⟨b_1⟩:aT),x0.B) >>=fun r_13=>
 if(!(decide (n=0)))=true then
 some (remI (wrp .i64 x0.C) n) >>=fun t144_1=>
 if decide (r_13 < 0)=true then
 some [(⟨7,[],0,0,t135_1,[],[],0,t144_1,false⟩:ae)] >>=fun t167_18=>
 if room 120 (b_2++t167_18).length=true then
 bh (n,addI .i64 i 1,b_1,b_2++t167_18)
 else none
 else
 some [(⟨r,[],0,0,t135_1,[],[],r_13,t144_1,false⟩:ae)] >>=fun t167_19=>
 if room 120 (b_2++t167_19).length=true then
 bh (n,addI .i64 i 1,b_1,b_2++t167_19)
 else none
 else none
 else
 if decide (r=9)=true then
 if(!(decide (n=0)))=true then
 some [(⟨r,[],0,0,0,[],[],0,remI (wrp .i64 x0.C) n,false⟩:ae)] >>=fun t167_20=>
 if room 120 (b_2++t167_20).length=true then
 bh (n,addI .i64 i 1,b_1,b_2++t167_20)
 else none
 else none
 else
 some [(⟨r,[],0,0,0,[],[],0,0,false⟩:ae)] >>=fun t167_21=>
 if room 120 (b_2++t167_21).length=true then
 bh (n,addI .i64 i 1,b_1,b_2++t167_21)
 else none
 else none
 else
 some b_2
  partial_fixpoint
theorem Ds :LC 10 0 [0] e10_0 bh:= .rc bh.partial_correctness (.k kL (.k p6 (.k qe (.k tz (.k tF (.k Dr (.k tG .n))))))) (.k CW .n) fun _ _=>by kernel_rfl
def ip(d:aT):Option (av×Bool):=
 some (d.Nodes.length:Int) >>=fun t13=>
 if(bif decide (t13 < 1)then true else decide (5 < t13))=true then
 some ((⟨[]⟩:av),false)
 else
 bh (t13,0,d.Nodes,[]) >>=fun o=>
 some ((⟨o⟩:av),true)
theorem e10_k :KC e10:= .m (by kernel_rfl)
theorem Ej :FC e10 ip:= .fn e10_k .n (.k Ds .n) fun _=>by kernel_rfl
def eC(x_:List aL×List aL×Int×Int):Option ((Bool) ⊕ (Unit)):=
 match x_ with
 | (s1_1,s2_1,t12_1,t13)=>
 if decide (t13 < t12_1)=true then
 if inR t13 s1_1.length=true then
 some (s1_1.getD t13.toNat aQ) >>=fun x0=>
 if inR t13 s2_1.length=true then
 some (s2_1.getD t13.toNat aQ) >>=fun x0_1=>
 if(!(eqI x0.ID x0_1.ID && (eqS x0.Name x0_1.Name && true)))=true then
 some (.inl false)
 else
 eC (s1_1,s2_1,t12_1,addI .i64 t13 1)
 else none
 else none
 else
 some (.inr ())
  partial_fixpoint
theorem B5 :LC 220 0 [0] Aq eC:= .rc eC.partial_correctness .n .n fun _ _=>by kernel_rfl
def nj(x_:List aL×List aL):Option (Bool):=
 match x_ with
 | (s1,s2)=>
 if(!(decide ((s1.length:Int)=(s2.length:Int))))=true then
 some false
 else
 eC (s1,s2,(s1.length:Int),0) >>=fun o=>
 match o with
 | .inl o_1=>
 some o_1
 | .inr o_2=>
 some true
theorem L9 :KC e220:= .m (by kernel_rfl)
theorem B7 :FC e220 nj:= .fn L9 .n (.k B5 .n) fun _=>by kernel_rfl
def eD(x_:List aE×List aE×Int×Int):Option ((Bool) ⊕ (Unit)):=
 match x_ with
 | (s1_1,s2_1,t12_1,t13)=>
 if decide (t13 < t12_1)=true then
 if inR t13 s1_1.length=true then
 some (s1_1.getD t13.toNat az) >>=fun x0=>
 if inR t13 s2_1.length=true then
 some (s2_1.getD t13.toNat az) >>=fun x0_1=>
 if(!(eqI x0.ID x0_1.ID && (eqS x0.Data x0_1.Data && true)))=true then
 some (.inl false)
 else
 eD (s1_1,s2_1,t12_1,addI .i64 t13 1)
 else none
 else none
 else
 some (.inr ())
  partial_fixpoint
theorem B8 :LC 224 0 [0] Ar eD:= .rc eD.partial_correctness .n .n fun _ _=>by kernel_rfl
def kw(x_:List aE×List aE):Option (Bool):=
 match x_ with
 | (s1,s2)=>
 if(!(decide ((s1.length:Int)=(s2.length:Int))))=true then
 some false
 else
 eD (s1,s2,(s1.length:Int),0) >>=fun o=>
 match o with
 | .inl o_1=>
 some o_1
 | .inr o_2=>
 some true
theorem Ma :KC e224:= .m (by kernel_rfl)
theorem tg :FC e224 kw:= .fn Ma .n (.k B8 .n) fun _=>by kernel_rfl
mutual
def dd(x_:ab×ab):Option (Bool):=
 match x_ with
 | (a,b)=>
 some (bif bif bif bif decide (a.Kind=b.Kind)then eqB a.Bool_ b.Bool_ else false then decide (a.Int_=b.Int_)else false then decide (a.Str=b.Str)else false then decide (a.ID=b.ID)else false) >>=fun t37=>
 (if t37=true then kw (a.Rest,b.Rest)else some false) >>=fun r=>
 some (bif t37 then r else false) >>=fun t44=>
 (if t44=true then ku (a.Keys,b.Keys)else some false) >>=fun r_1=>
 some (bif t44 then r_1 else false) >>=fun t51=>
 (if t51=true then ku (a.Items,b.Items)else some false) >>=fun r_2=>
 some (bif t51 then r_2 else false)
  partial_fixpoint
def ku(x_:List ab×List ab):Option (Bool):=
 match x_ with
 | (s1,s2)=>
 if(!(decide ((s1.length:Int)=(s2.length:Int))))=true then
 some false
 else
 i6 (s2,s1,(s1.length:Int),0) >>=fun o=>
 match o with
 | .inl o_1=>
 some o_1
 | .inr o_2=>
 some true
  partial_fixpoint
def i6(x_:List ab×List ab×Int×Int):Option ((Bool) ⊕ (Unit)):=
 match x_ with
 | (s2_1,t15,t16_1,t17)=>
 if decide (t17 < t16_1)=true then
 if inR t17 t15.length=true then
 if inR t17 s2_1.length=true then
 dd (ab.eta (t15.getD t17.toNat af),ab.eta (s2_1.getD t17.toNat af)) >>=fun r=>
 if(!r)=true then
 some (.inl false)
 else
 i6 (s2_1,t15,t16_1,addI .i64 t17 1)
 else none
 else none
 else
 some (.inr ())
  partial_fixpoint
end
theorem s7 :KC e223:= .m (by kernel_rfl)
theorem yn :KC kg:= .m (by kernel_rfl)
theorem Ex :(∀h r,dd h=some r->FD e223 h r)/\(∀h r,ku h=some r->FD kg h r)/\(∀h r,i6 h=some r->LD 225 0 [0] mi h r):=dd.mutual_partial_correctness (FD e223) (FD kg) (LD 225 0 [0] mi)
 (fun _ h1 _ _ h=>FA e223 s7 (.k tg (.k (FH kg yn h1) .n)) .n (.trans (by kernel_rfl) h))
 (fun _ h2 _ _ h=>FA kg yn .n (.k (LH mi h2) .n) (.trans (by kernel_rfl) h))
 (fun _ _ h0 h2 _ _ h=>LA mi h2 (.k (FH e223 s7 h0) .n) .n (.trans (by kernel_rfl) h))
theorem ux :FC e223 dd:= .of s7 Ex.1
def lq(x_:ap×ap):Option (Bool):=
 match x_ with
 | (x0,y)=>
 some (bif bif bif bif decide (x0.ID=y.ID)then decide (x0.Name=y.Name)else false then decide (x0.Type_=y.Type_)else false then eqB x0.Critical y.Critical else false then eqB x0.HasDefault y.HasDefault else false) >>=fun t37=>
 (if t37=true then dd ((⟨x0.Default.Kind,x0.Default.Bool_,x0.Default.Int_,x0.Default.Str,x0.Default.ID,x0.Default.Keys,x0.Default.Items,x0.Default.Rest⟩:ab),ab.eta y.Default)else some false) >>=fun r=>
 some (bif t37 then r else false)
theorem Mb :KC e222:= .m (by kernel_rfl)
theorem Ek :FC e222 lq:= .fn Mb (.k ux .n) .n fun _=>by kernel_rfl
def ez(x_:List ap×List ap×Int×Int):Option ((Bool) ⊕ (Unit)):=
 match x_ with
 | (s2_1,t15,t16_1,t17)=>
 if decide (t17 < t16_1)=true then
 if inR t17 t15.length=true then
 some (t15.getD t17.toNat aj) >>=fun x0=>
 if inR t17 s2_1.length=true then
 some (s2_1.getD t17.toNat aj) >>=fun x0_1=>
 lq ((⟨x0.ID,x0.Name,x0.Type_,x0.Critical,x0.HasDefault,ab.eta x0.Default⟩:ap),(⟨x0_1.ID,x0_1.Name,x0_1.Type_,x0_1.Critical,x0_1.HasDefault,ab.eta x0_1.Default⟩:ap)) >>=fun r=>
 if(!r)=true then
 some (.inl false)
 else
 ez (s2_1,t15,t16_1,addI .i64 t17 1)
 else none
 else none
 else
 some (.inr ())
  partial_fixpoint
theorem BU :LC 221 0 [0] As ez:= .rc ez.partial_correctness (.k Ek .n) .n fun _ _=>by kernel_rfl
def nh(x_:List ap×List ap):Option (Bool):=
 match x_ with
 | (s1,s2)=>
 if(!(decide ((s1.length:Int)=(s2.length:Int))))=true then
 some false
 else
 ez (s2,s1,(s1.length:Int),0) >>=fun o=>
 match o with
 | .inl o_1=>
 some o_1
 | .inr o_2=>
 some true
theorem Mc :KC e221:= .m (by kernel_rfl)
theorem BV :FC e221 nh:= .fn Mc .n (.k BU .n) fun _=>by kernel_rfl
def bI(x_:ae×ae):Option (Bool):=
 match x_ with
 | (a,b)=>
 some (bif bif bif bif bif bif bif decide (a.Kind=b.Kind)then decide (a.Name=b.Name)else false then decide (a.Low=b.Low)else false then decide (a.High=b.High)else false then decide (a.Max=b.Max)else false then decide (a.Key=b.Key)else false then decide (a.Elem=b.Elem)else false then eqB a.Open b.Open else false) >>=fun t58=>
 (if t58=true then nj (a.Symbols,b.Symbols)else some false) >>=fun r=>
 some (bif t58 then r else false) >>=fun t65=>
 (if t65=true then nh (a.Members,b.Members)else some false) >>=fun r_1=>
 some (bif t65 then r_1 else false)
theorem Md :KC e201:= .m (by kernel_rfl)
theorem ET :FC e201 bI:= .fn Md (.k B7 (.k BV .n)) .n fun _=>by kernel_rfl
def lr(c:Int):Option (Bool):=
 some (bif bif decide (c=95)then true else bif decide (97<=c)then decide (c<=122)else false then true else bif decide (65<=c)then decide (c<=90)else false)
theorem Me :KC e216:= .m (by kernel_rfl)
theorem tP :FC e216 lr:= .fn Me .n .n fun _=>by kernel_rfl
def nR(c:Int):Option (Bool):=
 some (bif decide (48<=c)then decide (c<=57)else false)
theorem Mf :KC e217:= .m (by kernel_rfl)
theorem Ey :FC e217 nR:= .fn Mf .n .n fun _=>by kernel_rfl
def cQ(x_:List UInt8×Int×Int):Option ((Bool) ⊕ (Unit)):=
 match x_ with
 | (s_1,t18_1,t19)=>
 if decide (t19 < t18_1)=true then
 if inR t19 s_1.length=true then
 lr (bf s_1 t19) >>=fun r_1=>
 some (!r_1) >>=fun t26=>
 if(inR t19 s_1.length || (!t26))=true then
 (if t26=true then nR (bf s_1 t19)else some false) >>=fun r_2=>
 if(bif t26 then(!r_2)else false)=true then
 some (.inl false)
 else
 cQ (s_1,t18_1,addI .i64 t19 1)
 else none
 else none
 else
 some (.inr ())
  partial_fixpoint
theorem D5 :LC 198 0 [0] Au cQ:= .rc cQ.partial_correctness (.k tP (.k Ey .n)) .n fun _ _=>by kernel_rfl
def cF(s:List UInt8):Option (Bool):=
 some (bif decide (s=[])then true else decide (24 < (s.length:Int))) >>=fun t10=>
 if(inR 0 s.length || (!(!t10)))=true then
 (if(!t10)=true then lr (bf s 0)else some false) >>=fun r=>
 if(bif t10 then true else(!r))=true then
 some false
 else
 cQ (s,(s.length:Int),0) >>=fun o=>
 match o with
 | .inl o_1=>
 some o_1
 | .inr o_2=>
 some true
 else none
theorem Mg :KC e198:= .m (by kernel_rfl)
theorem uk :FC e198 cF:= .fn Mg (.k tP .n) (.k D5 .n) fun _=>by kernel_rfl
def fj(x_:List Int×List (List UInt8)×List Int×Int×Int×List (List UInt8)):Option ((Bool) ⊕ (List Int)):=
 match x_ with
 | (l_2,names_1,t9,t10_1,t11,b)=>
 if decide (t11 < t10_1)=true then
 if inR t11 t9.length=true then
 some (t9.getD t11.toNat 0) >>=fun x0=>
 some (bif decide (x0 < 1)then true else decide (1000 < x0)) >>=fun t21=>
 some (decide (0 < t11)) >>=fun t24=>
 some (subI .i64 t11 1) >>=fun t29=>
 if(inR t29 l_2.length || (!((!t21) && t24)))=true then
 some (bif t21 then true else bif t24 then decide (x0<=l_2.getD t29.toNat 0)else false) >>=fun t34=>
 if(inR t11 names_1.length || (!(!t34)))=true then
 some (bif t34 then true else hasS b (names_1.getD t11.toNat [])) >>=fun t42=>
 if(inR t11 names_1.length || (!(!t42)))=true then
 (if(!t42)=true then cF (names_1.getD t11.toNat [])else some false) >>=fun r=>
 if(bif t42 then true else(!r))=true then
 some (.inl false)
 else
 if inR t11 names_1.length=true then
 fj (l_2,names_1,t9,t10_1,addI .i64 t11 1,addS b (names_1.getD t11.toNat []))
 else none
 else none
 else none
 else none
 else none
 else
 some (.inr l_2)
  partial_fixpoint
theorem Ez :LC 218 0 [0] Av fj:= .rc fj.partial_correctness (.k uk .n) .n fun _ _=>by kernel_rfl
def lY(x_:List Int×List (List UInt8)):Option (Bool):=
 match x_ with
 | (l,names)=>
 fj (l,names,l,(l.length:Int),0,[]) >>=fun o=>
 match o with
 | .inl o_1=>
 some o_1
 | .inr o_2=>
 some (decide ((o_2.length:Int)<=16))
theorem Mh :KC e218:= .m (by kernel_rfl)
theorem uQ :FC e218 lY:= .fn Mh .n (.k Ez .n) fun _=>by kernel_rfl
def f9(x_:List aL×List aL×Int×Int×List Int×List (List UInt8)):Option (List aL×List Int×List (List UInt8)):=
 match x_ with
 | (l_2,t7,t8_1,t9,b_2,b_3)=>
 if decide (t9 < t8_1)=true then
 if inR t9 t7.length=true then
 some (t7.getD t9.toNat aQ) >>=fun x0=>
 some [x0.ID] >>=fun t16=>
 if room 8 (b_2++t16).length=true then
 some [x0.Name] >>=fun t21=>
 if room 16 (b_3++t21).length=true then
 f9 (l_2,t7,t8_1,addI .i64 t9 1,b_2++t16,b_3++t21)
 else none
 else none
 else none
 else
 some (l_2,b_2,b_3)
  partial_fixpoint
theorem Dt :LC 199 0 [0] Aw f9:= .rc f9.partial_correctness .n .n fun _ _=>by kernel_rfl
def jo(l:List aL):Option (Bool):=
 f9 (l,l,(l.length:Int),0,[],[]) >>=fun o=>
 some (decide (0 < (o.1.length:Int))) >>=fun t26=>
 (if t26=true then lY (o.2.1,o.2.2)else some false) >>=fun r=>
 some (bif t26 then r else false)
theorem Mi :KC e199:= .m (by kernel_rfl)
theorem El :FC e199 jo:= .fn Mi (.k uQ .n) (.k Dt .n) fun _=>by kernel_rfl
def nY(v:ab):Option (Bool):=
 dd (ab.eta v,(⟨0,false,0,[],0,[],[],[]⟩:ab)) >>=fun r=>
 some r
theorem Mj :KC e219:= .m (by kernel_rfl)
theorem EU :FC e219 nY:= .fn Mj (.k ux .n) .n fun _=>by kernel_rfl
def eY(x_:List ap×Int×Int×ae×List Int×List (List UInt8)):Option ((Bool) ⊕ (ae×List Int×List (List UInt8))):=
 match x_ with
 | (t8,t9_1,t10,b_3,b_4,b_5)=>
 if decide (t10 < t9_1)=true then
 if inR t10 t8.length=true then
 some (t8.getD t10.toNat aj) >>=fun x0=>
 some [x0.ID] >>=fun t17=>
 if room 8 (b_4++t17).length=true then
 some [x0.Name] >>=fun t22=>
 if room 16 (b_5++t22).length=true then
 some (bif bif decide (b_3.Kind=6)then bif x0.Critical then true else x0.HasDefault else false then true else bif x0.Critical then x0.HasDefault else false) >>=fun t42=>
 some (!x0.HasDefault) >>=fun t46=>
 (if((!t42) && t46)=true then nY (ab.eta x0.Default)else some false) >>=fun r_1=>
 if(bif t42 then true else bif t46 then(!r_1)else false)=true then
 some (.inl false)
 else
 eY (t8,t9_1,addI .i64 t10 1,b_3,b_4++t17,b_5++t22)
 else none
 else none
 else none
 else
 some (.inr (b_3,b_4,b_5))
  partial_fixpoint
theorem Du :LC 200 0 [0] Ax eY:= .rc eY.partial_correctness (.k EU .n) .n fun _ _=>by kernel_rfl
def iq(t:ae):Option (Bool):=
 eY (t.Members,(t.Members.length:Int),0,t,[],[]) >>=fun o=>
 match o with
 | .inl o_1=>
 some o_1
 | .inr o_2=>
 some (bif decide (o_2.1.Kind=5)then true else decide (0 < (o_2.2.1.length:Int))) >>=fun t62=>
 (if t62=true then lY (o_2.2.1,o_2.2.2)else some false) >>=fun r=>
 some (bif t62 then r else false)
theorem Mk :KC e200:= .m (by kernel_rfl)
theorem Em :FC e200 iq:= .fn Mk (.k uQ .n) (.k Du .n) fun _=>by kernel_rfl
def bm(t:ae):Option (Bool):=
 if decide (t.Kind=1)=true then
 bI ((⟨0,t.Name,t.Low,t.High,t.Max,t.Symbols,t.Members,t.Key,t.Elem,t.Open⟩:ae),(⟨0,[],0,0,0,[],[],0,0,false⟩:ae)) >>=fun r=>
 some r
 else
 if decide (t.Kind=2)=true then
 some (decide (t.Low<=t.High)) >>=fun t17=>
 (if t17=true then bI ((⟨0,t.Name,0,0,t.Max,t.Symbols,t.Members,t.Key,t.Elem,t.Open⟩:ae),(⟨0,[],0,0,0,[],[],0,0,false⟩:ae))else some false) >>=fun r_1=>
 some (bif t17 then r_1 else false)
 else
 if decide (t.Kind=3)=true then
 some (bif decide (0<=t.Max)then decide (t.Max<=200)else false) >>=fun t29=>
 (if t29=true then bI ((⟨0,t.Name,t.Low,t.High,0,t.Symbols,t.Members,t.Key,t.Elem,t.Open⟩:ae),(⟨0,[],0,0,0,[],[],0,0,false⟩:ae))else some false) >>=fun r_2=>
 some (bif t29 then r_2 else false)
 else
 if decide (t.Kind=4)=true then
 cF t.Name >>=fun r_3=>
 (if r_3=true then jo t.Symbols else some false) >>=fun r_4=>
 some (bif r_3 then r_4 else false) >>=fun t40=>
 (if t40=true then bI ((⟨0,[],t.Low,t.High,t.Max,[],t.Members,t.Key,t.Elem,false⟩:ae),(⟨0,[],0,0,0,[],[],0,0,false⟩:ae))else some false) >>=fun r_5=>
 some (bif t40 then r_5 else false)
 else
 some (decide (t.Kind=5)) >>=fun t45=>
 if t45=true then
 if t45=true then
 cF t.Name >>=fun r_6=>
 (if r_6=true then iq t else some false) >>=fun r_7=>
 some (bif r_6 then r_7 else false) >>=fun t53=>
 (if t53=true then bI ((⟨0,[],t.Low,t.High,t.Max,t.Symbols,[],t.Key,t.Elem,bif t.Open then decide (t.Kind=5)else false⟩:ae),(⟨0,[],0,0,0,[],[],0,0,false⟩:ae))else some false) >>=fun r_8=>
 some (bif t53 then r_8 else false)
 else
 some (decide (t.Kind=7)) >>=fun t65=>
 if t65=true then
 if t65=true then
 some (bif decide (0<=t.Max)then decide (t.Max<=50)else false) >>=fun t74=>
 if decide (t.Kind=8)=true then
 (if t74=true then bI ((⟨0,t.Name,t.Low,t.High,0,t.Symbols,t.Members,0,0,t.Open⟩:ae),(⟨0,[],0,0,0,[],[],0,0,false⟩:ae))else some false) >>=fun r_9=>
 some (bif t74 then r_9 else false)
 else
 (if t74=true then bI ((⟨0,t.Name,t.Low,t.High,0,t.Symbols,t.Members,t.Key,0,t.Open⟩:ae),(⟨0,[],0,0,0,[],[],0,0,false⟩:ae))else some false) >>=fun r_10=>
 some (bif t74 then r_10 else false)
 else
 if decide (t.Kind=9)=true then
 bI ((⟨0,t.Name,t.Low,t.High,t.Max,t.Symbols,t.Members,t.Key,0,t.Open⟩:ae),(⟨0,[],0,0,0,[],[],0,0,false⟩:ae)) >>=fun r_11=>
 some r_11
 else
 some false
 else
 if decide (t.Kind=8)=true then
 some (bif decide (0<=t.Max)then decide (t.Max<=50)else false) >>=fun t74_1=>
 if decide (t.Kind=8)=true then
 (if t74_1=true then bI ((⟨0,t.Name,t.Low,t.High,0,t.Symbols,t.Members,0,0,t.Open⟩:ae),(⟨0,[],0,0,0,[],[],0,0,false⟩:ae))else some false) >>=fun r_12=>
 some (bif t74_1 then r_12 else false)
 else
 (if t74_1=true then bI ((⟨0,t.Name,t.Low,t.High,0,t.Symbols,t.Members,t.Key,0,t.Open⟩:ae),(⟨0,[],0,0,0,[],[],0,0,false⟩:ae))else some false) >>=fun r_13=>
 some (bif t74_1 then r_13 else false)
 else
 if decide (t.Kind=9)=true then
 bI ((⟨0,t.Name,t.Low,t.High,t.Max,t.Symbols,t.Members,t.Key,0,t.Open⟩:ae),(⟨0,[],0,0,0,[],[],0,0,false⟩:ae)) >>=fun r_14=>
 some r_14
 else
 some false
 else
 if decide (t.Kind=6)=true then
 cF t.Name >>=fun r_15=>
 (if r_15=true then iq t else some false) >>=fun r_16=>
 some (bif r_15 then r_16 else false) >>=fun t53_1=>
 (if t53_1=true then bI ((⟨0,[],t.Low,t.High,t.Max,t.Symbols,[],t.Key,t.Elem,bif t.Open then decide (t.Kind=5)else false⟩:ae),(⟨0,[],0,0,0,[],[],0,0,false⟩:ae))else some false) >>=fun r_17=>
 some (bif t53_1 then r_17 else false)
 else
 some (decide (t.Kind=7)) >>=fun t65_1=>
 if t65_1=true then
 if t65_1=true then
 some (bif decide (0<=t.Max)then decide (t.Max<=50)else false) >>=fun t74_2=>
 if decide (t.Kind=8)=true then
 (if t74_2=true then bI ((⟨0,t.Name,t.Low,t.High,0,t.Symbols,t.Members,0,0,t.Open⟩:ae),(⟨0,[],0,0,0,[],[],0,0,false⟩:ae))else some false) >>=fun r_18=>
 some (bif t74_2 then r_18 else false)
 else
 (if t74_2=true then bI ((⟨0,t.Name,t.Low,t.High,0,t.Symbols,t.Members,t.Key,0,t.Open⟩:ae),(⟨0,[],0,0,0,[],[],0,0,false⟩:ae))else some false) >>=fun r_19=>
 some (bif t74_2 then r_19 else false)
 else
 if decide (t.Kind=9)=true then
 bI ((⟨0,t.Name,t.Low,t.High,t.Max,t.Symbols,t.Members,t.Key,0,t.Open⟩:ae),(⟨0,[],0,0,0,[],[],0,0,false⟩:ae)) >>=fun r_20=>
 some r_20
 else
 some false
 else
 if decide (t.Kind=8)=true then
 some (bif decide (0<=t.Max)then decide (t.Max<=50)else false) >>=fun t74_3=>
 if decide (t.Kind=8)=true then
 (if t74_3=true then bI ((⟨0,t.Name,t.Low,t.High,0,t.Symbols,t.Members,0,0,t.Open⟩:ae),(⟨0,[],0,0,0,[],[],0,0,false⟩:ae))else some false) >>=fun r_21=>
 some (bif t74_3 then r_21 else false)
 else
 (if t74_3=true then bI ((⟨0,t.Name,t.Low,t.High,0,t.Symbols,t.Members,t.Key,0,t.Open⟩:ae),(⟨0,[],0,0,0,[],[],0,0,false⟩:ae))else some false) >>=fun r_22=>
 some (bif t74_3 then r_22 else false)
 else
 if decide (t.Kind=9)=true then
 bI ((⟨0,t.Name,t.Low,t.High,t.Max,t.Symbols,t.Members,t.Key,0,t.Open⟩:ae),(⟨0,[],0,0,0,[],[],0,0,false⟩:ae)) >>=fun r_23=>
 some r_23
 else
 some false
theorem Ml :KC e158:= .m (by kernel_rfl)
theorem E5 :FC e158 bm:= .fn Ml (.k ET (.k uk (.k El (.k Em .n)))) .n fun _=>by kernel_rfl
def gp(x_:List ap×Int×Int×ae×List Int):Option (ae×List Int):=
 match x_ with
 | (t7,t8_1,t9,b_2,b_3)=>
 if decide (t9 < t8_1)=true then
 if inR t9 t7.length=true then
 some [(t7.getD t9.toNat aj).Type_] >>=fun t16=>
 if room 8 (b_3++t16).length=true then
 gp (t7,t8_1,addI .i64 t9 1,b_2,b_3++t16)
 else none
 else none
 else
 some (b_2,b_3)
  partial_fixpoint
theorem En :LC 159 0 [0] Ay gp:= .rc gp.partial_correctness .n .n fun _ _=>by kernel_rfl
def ot(t:ae):Option (List Int):=
 gp (t.Members,(t.Members.length:Int),0,t,[]) >>=fun o=>
 if decide (o.1.Kind=8)=true then
 some [o.1.Key] >>=fun t25=>
 if room 8 (o.2++t25).length=true then
 some (o.2++t25) >>=fun l=>
 if decide (7<=o.1.Kind)=true then
 some [o.1.Elem] >>=fun t33=>
 if room 8 (l++t33).length=true then
 some (l++t33)
 else none
 else
 some l
 else none
 else
 if decide (7<=o.1.Kind)=true then
 some [o.1.Elem] >>=fun t33_1=>
 if room 8 (o.2++t33_1).length=true then
 some (o.2++t33_1)
 else none
 else
 some o.2
theorem Mm :KC e159:= .m (by kernel_rfl)
theorem E6 :FC e159 ot:= .fn Mm .n (.k En .n) fun _=>by kernel_rfl
def eZ(x_:List ae×Int×Int×List Int×Int×Int×List ae×List (List UInt8)×Int×List UInt8×Int×Int×Int×List aL×List ap×Int×Int×Bool):Option ((Int) ⊕ (List ae×Int×Int×List ae×List (List UInt8)×Int×List UInt8×Int×Int×Int×List aL×List ap×Int×Int×Bool)):=
 match x_ with
 | (t14_2,t15_3,t16_2,t38,t39_1,t40,b_14,b_15,b_16,b_17,b_18,b_19,b_20,b_21,b_22,b_23,b_24,b_25)=>
 if decide (t40 < t39_1)=true then
 if inR t40 t38.length=true then
 some (t38.getD t40.toNat 0) >>=fun x0_3=>
 if(bif decide (x0_3 < 0)then true else decide ((b_14.length:Int)<=x0_3))=true then
 some (.inl 4)
 else
 eZ (t14_2,t15_3,t16_2,t38,t39_1,addI .i64 t40 1,b_14,b_15,b_16,b_17,b_18,b_19,b_20,b_21,b_22,b_23,b_24,b_25)
 else none
 else
 some (.inr (t14_2,t15_3,t16_2,b_14,b_15,b_16,b_17,b_18,b_19,b_20,b_21,b_22,b_23,b_24,b_25))
  partial_fixpoint
theorem Dv :LC 125 0 [0,0] yk eZ:= .rc eZ.partial_correctness .n .n fun _ _=>by kernel_rfl
def gm(x_:List ae×Int×Int×List ae×List (List UInt8)):Option ((Int) ⊕ (Unit)):=
 match x_ with
 | (t14,t15_1,t16,b,b_1)=>
 if decide (t16 < t15_1)=true then
 if inR t16 t14.length=true then
 some (t14.getD t16.toNat ag) >>=fun x0=>
 bm x0 >>=fun r=>
 if(bif (!r)then true else bif (!(decide (x0.Name=[])))then hasS b_1 x0.Name else false)=true then
 some (.inl 1)
 else
 ot x0 >>=fun r_1=>
 eZ (t14,t15_1,t16,r_1,(r_1.length:Int),0,b,addS b_1 x0.Name,x0.Kind,x0.Name,x0.Low,x0.High,x0.Max,x0.Symbols,x0.Members,x0.Key,x0.Elem,x0.Open) >>=fun o_3=>
 match o_3 with
 | .inl o_4=>
 some (.inl o_4)
 | .inr o_5=>
 some (decide (o_5.2.2.2.2.2.1=8)) >>=fun t56=>
 if(inR o_5.2.2.2.2.2.2.2.2.2.2.2.2.1 o_5.2.2.2.1.length || (!t56))=true then
 some (decide ((o_5.2.2.2.1.getD o_5.2.2.2.2.2.2.2.2.2.2.2.2.1.toNat ag).Kind < 1)) >>=fun t65=>
 if(inR o_5.2.2.2.2.2.2.2.2.2.2.2.2.1 o_5.2.2.2.1.length || (!(t56 && (!t65))))=true then
 if(bif t56 then bif t65 then true else decide (4 < (o_5.2.2.2.1.getD o_5.2.2.2.2.2.2.2.2.2.2.2.2.1.toNat ag).Kind)else false)=true then
 some (.inl 1)
 else
 gm (o_5.1,o_5.2.1,addI .i64 o_5.2.2.1 1,o_5.2.2.2.1,o_5.2.2.2.2.1)
 else none
 else none
 else none
 else
 some (.inr ())
  partial_fixpoint
theorem D6 :LC 125 0 [0] Az gm:= .rc gm.partial_correctness (.k E5 (.k E6 .n)) (.k Dv .n) fun _ _=>by kernel_rfl
def iC(s:av):Option (Int):=
 if decide (32 < (s.Types.length:Int))=true then
 some 3
 else
 gm (s.Types,(s.Types.length:Int),0,s.Types,[]) >>=fun o=>
 match o with
 | .inl o_1=>
 some o_1
 | .inr o_2=>
 some 0
theorem Mn :KC e125:= .m (by kernel_rfl)
theorem ul :FC e125 iC:= .fn Mn .n (.k D6 .n) fun _=>by kernel_rfl
def bB(x_:Int×List ae×List Int×Int×List Int):Option (ab×Bool×List ae×Int×List Int×List Int):=
 match x_ with
 | (reason,b,b_1,b_2,b_3)=>
 s6 8 b_3 >>=fun r=>
 if(decide (r.1.length=b_3.length) && true)=true then
 some ((⟨0,false,0,[],0,[],[],[]⟩:ab),false,b,reason,r.1,r.2)
 else none
theorem Mo :KC e177:= .m (by kernel_rfl)
theorem f7 :FC e177 bB:= .fn Mo (.k ja .n) .n fun _=>by kernel_rfl
def fc(x_:List UInt8×Int×Int×Int):Option (Int):=
 match x_ with
 | (s_1,n_1,t17_1,t18)=>
 if decide (t18 < t17_1)=true then
 if inR t18 s_1.length=true then
 fc (s_1,orI .u64 (shlI .u64 n_1 8) (wrp .u64 (bf s_1 t18)),t17_1,addI .i64 t18 1)
 else none
 else
 some n_1
  partial_fixpoint
theorem Dw :LC 168 0 [0] AA fc:= .rc fc.partial_correctness .n .n fun _ _=>by kernel_rfl
def lu(s:List UInt8):Option (Int×Int):=
 some (!(decide (s=[]))) >>=fun t7=>
 if(inR 0 s.length || (!t7))=true then
 if(bif t7 then decide (bf s 0=0)else false)=true then
 some (0,2)
 else
 if decide (8 < (s.length:Int))=true then
 some (0,7)
 else
 fc (s,0,(s.length:Int),0) >>=fun o=>
 some (o,0)
 else none
theorem Mp :KC e168:= .m (by kernel_rfl)
theorem Eo :FC e168 lu:= .fn Mp .n (.k Dw .n) fun _=>by kernel_rfl
def nK(n:Int):Option (Int):=
 some (xorI .i64 (wrp .i64 (shrI .u64 n 1)) (subI .i64 0 (wrp .i64 (andI .u64 n 1))))
theorem Mq :KC e169:= .m (by kernel_rfl)
theorem D7 :FC e169 nK:= .fn Mq .n .n fun _=>by kernel_rfl
def qm(x_:aL×Int):Option (Bool×Int):=
 match x_ with
 | (x0,b)=>
 some (decide (x0.ID=b),b)
theorem Mr :KC e191:= .m (by kernel_rfl)
theorem D8 :FC e191 qm:= .fn Mr .n .n fun _=>by kernel_rfl
def dC(x_:List aL×Int×Int×Int):Option ((Int×Int) ⊕ (Int)):=
 match x_ with
 | (s_1,t7_1,t8,b_3)=>
 if decide (t8 < t7_1)=true then
 if inR t8 s_1.length=true then
 qm (s_1.getD t8.toNat aQ,b_3) >>=fun r=>
 if r.1=true then
 some (.inl (t8,r.2))
 else
 dC (s_1,t7_1,addI .i64 t8 1,r.2)
 else none
 else
 some (.inr b_3)
  partial_fixpoint
theorem BX :LC 190 1 [0] AB dC:= .rc dC.partial_correctness (.k D8 .n) .n fun _ _=>by kernel_rfl
def pW(x_:List aL×Int):Option (Int×Int):=
 match x_ with
 | (s,b)=>
 dC (s,(s.length:Int),0,b) >>=fun o=>
 match o with
 | .inl o_1=>
 some (o_1.1,o_1.2)
 | .inr o_2=>
 some ((-1),o_2)
theorem Mt :KC e190:= .m (by kernel_rfl)
theorem B3 :FC e190 pW:= .fn Mt .n (.k BX .n) fun _=>by kernel_rfl
def lA(x_:ae×Int):Option (Int×Bool):=
 match x_ with
 | (t,id)=>
 pW (t.Symbols,id) >>=fun r=>
 some (maxI r.1 0,decide (0<=r.1))
theorem Mu :KC e143:= .m (by kernel_rfl)
theorem tV :FC e143 lA:= .fn Mu (.k B3 .n) .n fun _=>by kernel_rfl
def oY(x0:Int):Option (Bool):=
 some (!(decide (x0=x0)))
theorem Mv :KC e214:= .m (by kernel_rfl)
theorem Gh :FC e214 oY:= .fn Mv .n .n fun _=>by kernel_rfl
def ou(x_:Int×Int):Option (Int):=
 match x_ with
 | (x0,y)=>
 oY x0 >>=fun r=>
 oY y >>=fun r_1=>
 if r=true then
 if r_1=true then
 some 0
 else
 some (-1)
 else
 if r_1=true then
 some 1
 else
 if decide (x0 < y)=true then
 some (-1)
 else
 if decide (y < x0)=true then
 some 1
 else
 some 0
theorem Mw :KC e195:= .m (by kernel_rfl)
theorem E7 :FC e195 ou:= .fn Mw (.k Gh .n) .n fun _=>by kernel_rfl
def ov(x0:Int):Option (Bool):=
 some (!(decide (x0=x0)))
theorem Mx :KC e208:= .m (by kernel_rfl)
theorem E9 :FC e208 ov:= .fn Mx .n .n fun _=>by kernel_rfl
def lB(x_:Int×Int):Option (Int):=
 match x_ with
 | (x0,y)=>
 ov x0 >>=fun r=>
 ov y >>=fun r_1=>
 if r=true then
 if r_1=true then
 some 0
 else
 some (-1)
 else
 if r_1=true then
 some 1
 else
 if decide (x0 < y)=true then
 some (-1)
 else
 if decide (y < x0)=true then
 some 1
 else
 some 0
theorem My :KC e174:= .m (by kernel_rfl)
theorem EA :FC e174 lB:= .fn My (.k E9 .n) .n fun _=>by kernel_rfl
def ow(x0:List UInt8):Option (Bool):=
 some (!(decide (x0=x0)))
theorem Mz :KC e215:= .m (by kernel_rfl)
theorem Fa :FC e215 ow:= .fn Mz .n .n fun _=>by kernel_rfl
def nS(x_:List UInt8×List UInt8):Option (Int):=
 match x_ with
 | (x0,y)=>
 ow x0 >>=fun r=>
 ow y >>=fun r_1=>
 if r=true then
 if r_1=true then
 some 0
 else
 some (-1)
 else
 if r_1=true then
 some 1
 else
 if Op.bytesLess x0 y=true then
 some (-1)
 else
 if(!(Op.bytesLess x0 y || decide (x0=y)))=true then
 some 1
 else
 some 0
theorem MA :KC e197:= .m (by kernel_rfl)
theorem EB :FC e197 nS:= .fn MA (.k Fa .n) .n fun _=>by kernel_rfl
def gB(x_:Int×List Int×Int×Int):Option ((Int) ⊕ (Int)):=
 match x_ with
 | (zero_1,t6,t7_1,t8)=>
 if decide (t8 < t7_1)=true then
 if inR t8 t6.length=true then
 some (t6.getD t8.toNat 0) >>=fun x0=>
 if(!(decide (x0=zero_1)))=true then
 some (.inl x0)
 else
 gB (zero_1,t6,t7_1,addI .i64 t8 1)
 else none
 else
 some (.inr zero_1)
  partial_fixpoint
theorem Gi :LC 196 0 [0] AF gB:= .rc gB.partial_correctness .n .n fun _ _=>by kernel_rfl
def pQ(vals:List Int):Option (Int):=
 gB (0,vals,(vals.length:Int),0) >>=fun o=>
 match o with
 | .inl o_1=>
 some o_1
 | .inr o_2=>
 some o_2
theorem MB :KC e196:= .m (by kernel_rfl)
theorem Kb :FC e196 pQ:= .fn MB .n (.k Gi .n) fun _=>by kernel_rfl
def jp(n:Int):Option (Int):=
 some (xorI .u64 (shlI .u64 (wrp .u64 n) 1) (wrp .u64 (shrI .i64 n 63)))
theorem MC :KC e133:= .m (by kernel_rfl)
theorem tW :FC e133 jp:= .fn MC .n .n fun _=>by kernel_rfl
def dN(x_:ab×ab):Option (Int):=
 match x_ with
 | (a,b)=>
 if(!(decide (a.Kind=b.Kind)))=true then
 some 0
 else
 if decide (a.Kind=1)=true then
 if eqB a.Bool_ b.Bool_=true then
 some 0
 else
 if b.Bool_=true then
 some (-1)
 else
 some 1
 else
 if decide (a.Kind=2)=true then
 jp a.Int_ >>=fun r=>
 jp b.Int_ >>=fun r_1=>
 ou (r,r_1) >>=fun r_2=>
 some r_2
 else
 if decide (a.Kind=3)=true then
 lB ((a.Str.length:Int),(b.Str.length:Int)) >>=fun r_3=>
 nS (a.Str,b.Str) >>=fun r_4=>
 pQ [r_3,r_4] >>=fun r_5=>
 some r_5
 else
 if decide (a.Kind=4)=true then
 lB (a.ID,b.ID) >>=fun r_6=>
 some r_6
 else
 some 0
theorem MD :KC e151:= .m (by kernel_rfl)
theorem tX :FC e151 dN:= .fn MD (.k tW (.k E7 (.k EA (.k EB (.k Kb .n))))) .n fun _=>by kernel_rfl
def fV(x_:List (List UInt8)×Int×List ae×List Int×Int×ae×Int×Bool×Int×List UInt8×Int×Int×Bool×Int×List UInt8×Int×List Int×List ab):Option ((Bool×List ae×Int×ab×List Int×List Int) ⊕ (List (List UInt8)×List ae×List Int×Int×ae×Int×Bool×Int×List UInt8×Int×Int×Bool×Int×List UInt8×Int×List Int×List ab)):=
 match x_ with
 | (l_4,i_1,b_83,b_84,b_85,b_86,b_87,b_88,b_89,b_90,b_91,b_92,b_93,b_94,b_95,b_96,b_97,b_98)=>
 if decide (i_1 < (b_98.length:Int))=true then
 some (subI .i64 i_1 1) >>=fun t86=>
 if inR t86 b_98.length=true then
 if decide (t86.toNat < b_98.length)=true then
 if inR i_1 b_98.length=true then
 if decide (i_1.toNat < b_98.length)=true then
 dN (ab.eta (b_98.getD t86.toNat af),ab.eta (b_98.getD i_1.toNat af)) >>=fun r_24=>
 if decide (0<=r_24)=true then
 bB (1,b_83,b_84,b_85,b_97) >>=fun r_25=>
 some (.inl (r_25.2.1,r_25.2.2.1,r_25.2.2.2.1,ab.eta r_25.1,r_25.2.2.2.2.1,r_25.2.2.2.2.2))
 else
 fV (l_4,addI .i64 i_1 1,b_83,b_84,b_85,b_86,b_87,b_88,b_89,b_90,b_91,b_92,b_93,b_94,b_95,b_96,b_97,b_98)
 else none
 else none
 else none
 else none
 else
 some (.inr (l_4,b_83,b_84,b_85,b_86,b_87,b_88,b_89,b_90,b_91,b_92,b_93,b_94,b_95,b_96,b_97,b_98))
  partial_fixpoint
theorem Ca :LC 181 2 [1] AG fV:= .rc fV.partial_correctness (.k tX (.k f7 .n)) .n fun _ _=>by kernel_rfl
def iu(x_:List UInt8×Int×Int×Int):Option ((Int×Int×Int) ⊕ (Unit)):=
 match x_ with
 | (s_1,n,t10_1,t11)=>
 if decide (t11 < t10_1)=true then
 if inR t11 s_1.length=true then
 some (bf s_1 t11) >>=fun t16=>
 if(bif decide (t11=9)then decide (1 < t16)else false)=true then
 some (.inl (0,0,7))
 else
 if decide (128<=t16)=true then
 some (mulI .i64 7 t11) >>=fun t41=>
 if decide (0<=t41)=true then
 iu (s_1,orI .u64 n (shlI .u64 (wrp .u64 (andI .u8 t16 127)) t41),t10_1,addI .i64 t11 1)
 else none
 else
 if(bif decide (t16=0)then decide (0 < t11)else false)=true then
 some (.inl (0,0,2))
 else
 some (mulI .i64 7 t11) >>=fun t21=>
 if decide (0<=t21)=true then
 some (.inl (orI .u64 n (shlI .u64 (wrp .u64 t16) t21),addI .i64 t11 1,0))
 else none
 else none
 else
 some (.inr ())
  partial_fixpoint
theorem EC :LC 204 0 [0] AC iu:= .rc iu.partial_correctness .n .n fun _ _=>by kernel_rfl
def oH(s:List UInt8):Option (Int×Int×Int):=
 iu (s,0,minI 10 (s.length:Int),0) >>=fun o=>
 match o with
 | .inl o_1=>
 some (o_1.1,o_1.2.1,o_1.2.2)
 | .inr o_2=>
 some (0,0,10)
theorem ME :KC e204:= .m (by kernel_rfl)
theorem FM :FC e204 oH:= .fn ME .n (.k EC .n) fun _=>by kernel_rfl
def gr(s:List UInt8):Option (Int×List UInt8×Bool):=
 oH s >>=fun r=>
 if(!(decide (r.2.2=0)))=true then
 some (0,[],false)
 else
 if slR r.2.1 (s.length:Int) s.length=true then
 some (r.1,cutL s r.2.1 (s.length:Int),true)
 else none
theorem MF :KC e165:= .m (by kernel_rfl)
theorem qB :FC e165 gr:= .fn MF (.k FM .n) .n fun _=>by kernel_rfl
def lR(s:List UInt8):Option (List UInt8×List UInt8×Bool):=
 gr s >>=fun r=>
 if(bif (!r.2.2)then true else decide (wrp .u64 (r.2.1.length:Int) < r.1))=true then
 some ([],[],false)
 else
 if slR 0 r.1 r.2.1.length=true then
 if slR r.1 (r.2.1.length:Int) r.2.1.length=true then
 some (cutL r.2.1 0 r.1,cutL r.2.1 r.1 (r.2.1.length:Int),true)
 else none
 else none
theorem MG :KC e202:= .m (by kernel_rfl)
theorem uy :FC e202 lR:= .fn MG (.k qB .n) .n fun _=>by kernel_rfl
def bP(x_:List UInt8×List (List UInt8)):Option ((Int) ⊕ (List (List UInt8))):=
 match x_ with
 | (s,b_1)=>
 if(!(decide (s=[])))=true then
 lR s >>=fun r=>
 if(!r.2.2)=true then
 some (.inl 12)
 else
 some [r.1] >>=fun t22=>
 if room 16 (b_1++t22).length=true then
 bP (r.2.1,b_1++t22)
 else none
 else
 some (.inr b_1)
  partial_fixpoint
theorem D9 :LC 161 0 [0] AE bP:= .rc bP.partial_correctness (.k uy .n) .n fun _ _=>by kernel_rfl
def dO(payload:List UInt8):Option (List (List UInt8)×Int):=
 bP (payload,[]) >>=fun o=>
 match o with
 | .inl o_1=>
 some ([],o_1)
 | .inr o_2=>
 some (o_2,0)
theorem MH :KC e161:= .m (by kernel_rfl)
theorem um :FC e161 dO:= .fn MH .n (.k D9 .n) fun _=>by kernel_rfl
mutual
def cC(v:ab):Option (ab):=
 cp 120 v.Keys >>=fun r=>
 cp 120 v.Items >>=fun r_1=>
 cp 24 v.Rest >>=fun r_2=>
 ii ((r.length:Int),0,v.Kind,v.Bool_,v.Int_,v.Str,v.ID,0,false,0,[],0,r,r_1,r_2) >>=fun o=>
 ij ((o.2.2.2.2.2.2.2.2.2.2.2.1.length:Int),0,o.1,o.2.1,o.2.2.1,o.2.2.2.1,o.2.2.2.2.1,o.2.2.2.2.2.1,o.2.2.2.2.2.2.1,o.2.2.2.2.2.2.2.1,o.2.2.2.2.2.2.2.2.1,o.2.2.2.2.2.2.2.2.2.1,o.2.2.2.2.2.2.2.2.2.2.2.1,o.2.2.2.2.2.2.2.2.2.2.1,o.2.2.2.2.2.2.2.2.2.2.2.2) >>=fun o_1=>
 some (⟨o_1.1,o_1.2.1,o_1.2.2.1,o_1.2.2.2.1,o_1.2.2.2.2.1,o_1.2.2.2.2.2.2.2.2.2.2.1,o_1.2.2.2.2.2.2.2.2.2.2.2.1,o_1.2.2.2.2.2.2.2.2.2.2.2.2⟩:ab)
  partial_fixpoint
def ii(x_:Int×Int×Int×Bool×Int×List UInt8×Int×Int×Bool×Int×List UInt8×Int×List ab×List ab×List aE):Option (Int×Bool×Int×List UInt8×Int×Int×Bool×Int×List UInt8×Int×List ab×List ab×List aE):=
 match x_ with
 | (t21_1,t22,b_26,b_27,b_28,b_29,b_30,b_31,b_32,b_33,b_34,b_35,b_36,b_37,b_38)=>
 if decide (t22 < t21_1)=true then
 if inR t22 b_36.length=true then
 if decide (t22.toNat < b_36.length)=true then
 cC (ab.eta (b_36.getD t22.toNat af)) >>=fun r_3=>
 if inR t22 b_36.length=true then
 if decide (t22.toNat < b_36.length)=true then
 ii (t21_1,addI .i64 t22 1,b_26,b_27,b_28,b_29,b_30,b_31,b_32,b_33,b_34,b_35,b_36.set t22.toNat (ab.eta r_3),b_37,b_38)
 else none
 else none
 else none
 else none
 else
 some (b_26,b_27,b_28,b_29,b_30,b_31,b_32,b_33,b_34,b_35,b_36,b_37,b_38)
  partial_fixpoint
def ij(x_:Int×Int×Int×Bool×Int×List UInt8×Int×Int×Bool×Int×List UInt8×Int×List ab×List ab×List aE):Option (Int×Bool×Int×List UInt8×Int×Int×Bool×Int×List UInt8×Int×List ab×List ab×List aE):=
 match x_ with
 | (t36_1,t37,b_39,b_40,b_41,b_42,b_43,b_44,b_45,b_46,b_47,b_48,b_49,b_50,b_51)=>
 if decide (t37 < t36_1)=true then
 if inR t37 b_49.length=true then
 if decide (t37.toNat < b_49.length)=true then
 cC (ab.eta (b_49.getD t37.toNat af)) >>=fun r_4=>
 if inR t37 b_49.length=true then
 if decide (t37.toNat < b_49.length)=true then
 ij (t36_1,addI .i64 t37 1,b_39,b_40,b_41,b_42,b_43,b_44,b_45,b_46,b_47,b_48,b_49.set t37.toNat (ab.eta r_4),b_50,b_51)
 else none
 else none
 else none
 else none
 else
 some (b_39,b_40,b_41,b_42,b_43,b_44,b_45,b_46,b_47,b_48,b_50,b_49,b_51)
  partial_fixpoint
end
theorem pR :KC e212:= .m (by kernel_rfl)
theorem Ea :(∀h r,cC h=some r->FD e212 h r)/\(∀h r,ij h=some r->LD 212 0 [1] mQ h r)/\(∀h r,ii h=some r->LD 212 0 [0] mP h r):=cC.mutual_partial_correctness (FD e212) (LD 212 0 [1] mQ) (LD 212 0 [0] mP)
 (fun _ _ h1 h2 _ _ h=>FA e212 pR (.k jc (.k jd .n)) (.k (LH mP h2) (.k (LH mQ h1) .n)) (.trans (by kernel_rfl) h))
 (fun _ _ h0 h1 _ _ h=>LA mQ h1 (.k (FH e212 pR h0) .n) .n (.trans (by kernel_rfl) h))
 (fun _ _ h0 h2 _ _ h=>LA mP h2 (.k (FH e212 pR h0) .n) .n (.trans (by kernel_rfl) h))
theorem ED :FC e212 cC:= .of pR Ea.1
def pZ(x_:aM×ap):Option (Bool×ap):=
 match x_ with
 | (f,b)=>
 some (decide (f.ID=b.ID),(⟨b.ID,b.Name,b.Type_,b.Critical,b.HasDefault,ab.eta b.Default⟩:ap))
theorem MI :KC e211:= .m (by kernel_rfl)
theorem Co :FC e211 pZ:= .fn MI .n .n fun _=>by kernel_rfl
def eB(x_:List aM×Int×Int×ap):Option ((Int×ap) ⊕ (ap)):=
 match x_ with
 | (s_1,t7_1,t8,b_3)=>
 if decide (t8 < t7_1)=true then
 if inR t8 s_1.length=true then
 pZ (s_1.getD t8.toNat bj,(⟨b_3.ID,b_3.Name,b_3.Type_,b_3.Critical,b_3.HasDefault,ab.eta b_3.Default⟩:ap)) >>=fun r=>
 if r.1=true then
 some (.inl (t8,(⟨r.2.ID,r.2.Name,r.2.Type_,r.2.Critical,r.2.HasDefault,ab.eta r.2.Default⟩:ap)))
 else
 eB (s_1,t7_1,addI .i64 t8 1,(⟨r.2.ID,r.2.Name,r.2.Type_,r.2.Critical,r.2.HasDefault,ab.eta r.2.Default⟩:ap))
 else none
 else
 some (.inr (⟨b_3.ID,b_3.Name,b_3.Type_,b_3.Critical,b_3.HasDefault,ab.eta b_3.Default⟩:ap))
  partial_fixpoint
theorem B0 :LC 210 1 [0] AI eB:= .rc eB.partial_correctness (.k Co .n) .n fun _ _=>by kernel_rfl
def kv(x_:List aM×ap):Option (Int×ap):=
 match x_ with
 | (s,b)=>
 eB (s,(s.length:Int),0,(⟨b.ID,b.Name,b.Type_,b.Critical,b.HasDefault,ab.eta b.Default⟩:ap)) >>=fun o=>
 match o with
 | .inl o_1=>
 some (o_1.1,(⟨o_1.2.ID,o_1.2.Name,o_1.2.Type_,o_1.2.Critical,o_1.2.HasDefault,ab.eta o_1.2.Default⟩:ap))
 | .inr o_2=>
 some ((-1),(⟨o_2.ID,o_2.Name,o_2.Type_,o_2.Critical,o_2.HasDefault,ab.eta o_2.Default⟩:ap))
theorem MK :KC e210:= .m (by kernel_rfl)
theorem B6 :FC e210 kv:= .fn MK .n (.k B0 .n) fun _=>by kernel_rfl
def qn(x_:ap×Int):Option (Bool×Int):=
 match x_ with
 | (m,b)=>
 some (decide (m.ID=b),b)
theorem ML :KC e167:= .m (by kernel_rfl)
theorem Eb :FC e167 qn:= .fn ML .n .n fun _=>by kernel_rfl
def eA(x_:List ap×Int×Int×Int):Option ((Int×Int) ⊕ (Int)):=
 match x_ with
 | (s_1,t7_1,t8,b_3)=>
 if decide (t8 < t7_1)=true then
 if inR t8 s_1.length=true then
 some (s_1.getD t8.toNat aj) >>=fun x0=>
 qn ((⟨x0.ID,x0.Name,x0.Type_,x0.Critical,x0.HasDefault,ab.eta x0.Default⟩:ap),b_3) >>=fun r=>
 if r.1=true then
 some (.inl (t8,r.2))
 else
 eA (s_1,t7_1,addI .i64 t8 1,r.2)
 else none
 else
 some (.inr b_3)
  partial_fixpoint
theorem BY :LC 166 1 [0] AD eA:= .rc eA.partial_correctness (.k Eb .n) .n fun _ _=>by kernel_rfl
def pX(x_:List ap×Int):Option (Int×Int):=
 match x_ with
 | (s,b)=>
 eA (s,(s.length:Int),0,b) >>=fun o=>
 match o with
 | .inl o_1=>
 some (o_1.1,o_1.2)
 | .inr o_2=>
 some ((-1),o_2)
theorem MM :KC e166:= .m (by kernel_rfl)
theorem B4 :FC e166 pX:= .fn MM .n (.k BY .n) fun _=>by kernel_rfl
def cu(x_:ae×Int):Option (Int×Bool):=
 match x_ with
 | (t,id)=>
 pX (t.Members,id) >>=fun r=>
 some (maxI r.1 0,decide (0<=r.1))
theorem MN :KC e129:= .m (by kernel_rfl)
theorem lg :FC e129 cu:= .fn MN (.k B4 .n) .n fun _=>by kernel_rfl
def eF(x_:List aM×Int×Int×List ae×List Int×Int×ae×Int×Bool×Int×List UInt8×Int×Int×Bool×Int×List UInt8×Int×List Int×List ab×List aE):Option ((Bool×List ae×Int×ab×List Int×List Int) ⊕ (List ae×List Int×Int×Int×Bool×Int×List UInt8×Int×Int×Bool×Int×List UInt8×Int×List Int×List ab×List aE)):=
 match x_ with
 | (t117,t118_1,t119,b_62,b_63,b_64,b_65,b_66,b_67,b_68,b_69,b_70,b_71,b_72,b_73,b_74,b_75,b_76,b_77,b_78)=>
 if decide (t119 < t118_1)=true then
 if inR t119 t117.length=true then
 some (t117.getD t119.toNat bj) >>=fun x0_3=>
 cu (b_65,x0_3.ID) >>=fun r_28=>
 if r_28.2=true then
 eF (t117,t118_1,addI .i64 t119 1,b_62,b_63,b_64,b_65,b_66,b_67,b_68,b_69,b_70,b_71,b_72,b_73,b_74,b_75,b_76,b_77,b_78)
 else
 if x0_3.Critical=true then
 some [x0_3.ID] >>=fun t140=>
 if room 8 (b_76++t140).length=true then
 bB (6,b_62,b_63,b_64,b_76++t140) >>=fun r_31=>
 some (subI .i64 (r_31.2.2.2.2.1.length:Int) 1) >>=fun t159=>
 if slR 0 t159 r_31.2.2.2.2.1.length=true then
 if decide (t159.toNat<=r_31.2.2.2.2.1.length)=true then
 some (.inl (false,r_31.2.2.1,r_31.2.2.2.1,ab.eta r_31.1,r_31.2.2.2.2.1.take t159.toNat,r_31.2.2.2.2.2))
 else none
 else none
 else none
 else
 some [(⟨x0_3.ID,x0_3.Data⟩:aE)] >>=fun t171=>
 if room 24 (b_78++t171).length=true then
 eF (t117,t118_1,addI .i64 t119 1,b_62,b_63,b_64,b_65,b_66,b_67,b_68,b_69,b_70,b_71,b_72,b_73,b_74,b_75,b_76,b_77,b_78++t171)
 else none
 else none
 else
 some (.inr (b_62,b_63,b_64,b_66,b_67,b_68,b_69,b_70,b_71,b_72,b_73,b_74,b_75,b_76,b_77,b_78))
  partial_fixpoint
theorem Cf :LC 182 2 [1] AK eF:= .rc eF.partial_correctness (.k lg (.k f7 .n)) .n fun _ _=>by kernel_rfl
def bq(x_:Int×List UInt8×List aM):Option ((Int) ⊕ (List aM)):=
 match x_ with
 | (last,s,b_1)=>
 if(!(decide (s=[])))=true then
 gr s >>=fun r=>
 if(bif bif (!r.2.2)then true else decide (quoI .u64 r.1 2<=last)then true else decide (1000 < quoI .u64 r.1 2))=true then
 some (.inl 12)
 else
 lR r.2.1 >>=fun r_4=>
 if(!r_4.2.2)=true then
 some (.inl 12)
 else
 some [(⟨wrp .i64 (quoI .u64 r.1 2),decide (remI r.1 2=1),r_4.1⟩:aM)] >>=fun t50=>
 if room 32 (b_1++t50).length=true then
 bq (quoI .u64 r.1 2,r_4.2.1,b_1++t50)
 else none
 else
 some (.inr b_1)
  partial_fixpoint
theorem DT :LC 160 0 [0] AH bq:= .rc bq.partial_correctness (.k qB (.k uy .n)) .n fun _ _=>by kernel_rfl
def fk(payload:List UInt8):Option (List aM×Int):=
 bq (0,payload,[]) >>=fun o=>
 match o with
 | .inl o_1=>
 some ([],o_1)
 | .inr o_2=>
 some (o_2,0)
theorem MO :KC e160:= .m (by kernel_rfl)
theorem EE :FC e160 fk:= .fn MO .n (.k DT .n) fun _=>by kernel_rfl
def ft(payload:List UInt8):Option (Int×List UInt8×Int):=
 gr payload >>=fun r=>
 if(bif bif (!r.2.2)then true else decide (r.1 < 1)then true else decide (1000 < r.1))=true then
 some (0,[],12)
 else
 some (wrp .i64 r.1,r.2.1,0)
theorem MP :KC e128:= .m (by kernel_rfl)
theorem FN :FC e128 ft:= .fn MP (.k qB .n) .n fun _=>by kernel_rfl
mutual
def kB(x_:ae×List UInt8×List ae×List Int×Int×List Int):Option (ab×Bool×List ae×List Int×Int×List Int):=
 match x_ with
 | (x0,p,b,b_1,b_2,b_3)=>
 dO p >>=fun r=>
 if(bif (!(decide (r.2=0)))then true else(!(decide (remI (r.1.length:Int) 2=0))))=true then
 bB (1,b,b_1,b_2,b_3) >>=fun r_3=>
 some (ab.eta r_3.1,r_3.2.1,r_3.2.2.1,r_3.2.2.2.2.2,r_3.2.2.2.1,r_3.2.2.2.2.1)
 else
 if decide (x0.Max < quoI .i64 (r.1.length:Int) 2)=true then
 bB (3,b,b_1,b_2,b_3) >>=fun r_10=>
 some (ab.eta r_10.1,r_10.2.1,r_10.2.2.1,r_10.2.2.2.2.2,r_10.2.2.2.1,r_10.2.2.2.2.1)
 else
 gR (r.1,0,b,b_1,b_2,x0,0,false,0,[],0,x0.Kind,false,0,[],0,b_3,[]) >>=fun o=>
 match o with
 | .inl o_1=>
 some (ab.eta o_1.2.2.2.2.1,o_1.1,o_1.2.1,o_1.2.2.1,o_1.2.2.2.1,o_1.2.2.2.2.2)
 | .inr o_2=>
 fV (o_2.1,1,o_2.2.1,o_2.2.2.1,o_2.2.2.2.1,o_2.2.2.2.2.1,o_2.2.2.2.2.2.1,o_2.2.2.2.2.2.2.1,o_2.2.2.2.2.2.2.2.1,o_2.2.2.2.2.2.2.2.2.1,o_2.2.2.2.2.2.2.2.2.2.1,o_2.2.2.2.2.2.2.2.2.2.2.1,o_2.2.2.2.2.2.2.2.2.2.2.2.1,o_2.2.2.2.2.2.2.2.2.2.2.2.2.1,o_2.2.2.2.2.2.2.2.2.2.2.2.2.2.1,o_2.2.2.2.2.2.2.2.2.2.2.2.2.2.2.1,o_2.2.2.2.2.2.2.2.2.2.2.2.2.2.2.2.1,o_2.2.2.2.2.2.2.2.2.2.2.2.2.2.2.2.2) >>=fun o_3=>
 match o_3 with
 | .inl o_4=>
 some (ab.eta o_4.2.2.2.1,o_4.1,o_4.2.1,o_4.2.2.2.2.2,o_4.2.2.1,o_4.2.2.2.2.1)
 | .inr o_5=>
 gS (o_5.1,1,o_5.2.1,o_5.2.2.1,o_5.2.2.2.1,o_5.2.2.2.2.1,o_5.2.2.2.2.2.1,o_5.2.2.2.2.2.2.1,o_5.2.2.2.2.2.2.2.1,o_5.2.2.2.2.2.2.2.2.1,o_5.2.2.2.2.2.2.2.2.2.1,o_5.2.2.2.2.2.2.2.2.2.2.1,o_5.2.2.2.2.2.2.2.2.2.2.2.1,o_5.2.2.2.2.2.2.2.2.2.2.2.2.1,o_5.2.2.2.2.2.2.2.2.2.2.2.2.2.1,o_5.2.2.2.2.2.2.2.2.2.2.2.2.2.2.1,o_5.2.2.2.2.2.2.2.2.2.2.2.2.2.2.2.1,o_5.2.2.2.2.2.2.2.2.2.2.2.2.2.2.2.2,[]) >>=fun o_6=>
 match o_6 with
 | .inl o_7=>
 some (ab.eta o_7.2.2.2.2.1,o_7.1,o_7.2.1,o_7.2.2.1,o_7.2.2.2.1,o_7.2.2.2.2.2)
 | .inr o_8=>
 some ((⟨o_8.2.2.2.2.2.2.2.2.1,o_8.2.2.2.2.2.2.2.2.2.1,o_8.2.2.2.2.2.2.2.2.2.2.1,o_8.2.2.2.2.2.2.2.2.2.2.2.1,o_8.2.2.2.2.2.2.2.2.2.2.2.2.1,o_8.2.2.2.2.2.2.2.2.2.2.2.2.2.2.1,o_8.2.2.2.2.2.2.2.2.2.2.2.2.2.2.2,[]⟩:ab),true,o_8.1,o_8.2.1,o_8.2.2.1,o_8.2.2.2.2.2.2.2.2.2.2.2.2.2.1)
  partial_fixpoint
def nx(x_:ae×List UInt8×List ae×List Int×Int×List Int):Option (ab×Bool×List ae×List Int×Int×List Int):=
 match x_ with
 | (x0,p,b,b_1,b_2,b_3)=>
 dO p >>=fun r=>
 if(!(decide (r.2=0)))=true then
 bB (1,b,b_1,b_2,b_3) >>=fun r_3=>
 some (ab.eta r_3.1,r_3.2.1,r_3.2.2.1,r_3.2.2.2.2.2,r_3.2.2.2.1,r_3.2.2.2.2.1)
 else
 if decide (x0.Max < (r.1.length:Int))=true then
 bB (3,b,b_1,b_2,b_3) >>=fun r_10=>
 some (ab.eta r_10.1,r_10.2.1,r_10.2.2.1,r_10.2.2.2.2.2,r_10.2.2.2.1,r_10.2.2.2.2.1)
 else
 gV (r.1,(r.1.length:Int),0,b,b_1,b_2,x0,0,false,0,[],0,x0.Kind,false,0,[],0,b_3,[]) >>=fun o=>
 match o with
 | .inl o_1=>
 some (ab.eta o_1.2.2.2.2.1,o_1.1,o_1.2.1,o_1.2.2.1,o_1.2.2.2.1,o_1.2.2.2.2.2)
 | .inr o_2=>
 some ((⟨o_2.2.2.2.2.2.2.2.2.1,o_2.2.2.2.2.2.2.2.2.2.1,o_2.2.2.2.2.2.2.2.2.2.2.1,o_2.2.2.2.2.2.2.2.2.2.2.2.1,o_2.2.2.2.2.2.2.2.2.2.2.2.2.1,[],o_2.2.2.2.2.2.2.2.2.2.2.2.2.2.2,[]⟩:ab),true,o_2.1,o_2.2.1,o_2.2.2.1,o_2.2.2.2.2.2.2.2.2.2.2.2.2.2.1)
  partial_fixpoint
def bS(x_:Int×Int×List UInt8×List ae×List Int×Int×List Int):Option (ab×Bool×List ae×List Int×Int×List Int):=
 match x_ with
 | (step,t,p,b,b_1,b_2,b_3)=>
 some [step] >>=fun t18=>
 if room 8 (b_3++t18).length=true then
 eO (t,p,b,b_1,b_2,b_3++t18) >>=fun r=>
 some (subI .i64 (r.2.2.2.2.2.length:Int) 1) >>=fun t39=>
 if slR 0 t39 r.2.2.2.2.2.length=true then
 if decide (t39.toNat<=r.2.2.2.2.2.length)=true then
 some (ab.eta r.1,r.2.1,r.2.2.1,r.2.2.2.1,r.2.2.2.2.1,r.2.2.2.2.2.take t39.toNat)
 else none
 else none
 else none
  partial_fixpoint
def eO(x_:Int×List UInt8×List ae×List Int×Int×List Int):Option (ab×Bool×List ae×List Int×Int×List Int):=
 match x_ with
 | (t,p,b,b_1,b_2,b_3)=>
 if decide (200<=(b_3.length:Int))=true then
 bB (8,b,b_1,b_2,b_3) >>=fun r=>
 some (ab.eta r.1,r.2.1,r.2.2.1,r.2.2.2.2.2,r.2.2.2.1,r.2.2.2.2.1)
 else
 if inR t b.length=true then
 some (b.getD t.toNat ag) >>=fun x0=>
 if decide (x0.Kind=1)=true then
 some (decide (p=[1])) >>=fun t50=>
 if(bif (!(decide (p=[])))then(!t50)else false)=true then
 bB (1,b,b_1,b_2,b_3) >>=fun r_7=>
 some (ab.eta r_7.1,r_7.2.1,r_7.2.2.1,r_7.2.2.2.2.2,r_7.2.2.2.1,r_7.2.2.2.2.1)
 else
 some ((⟨x0.Kind,t50,0,[],0,[],[],[]⟩:ab),true,b,b_1,b_2,b_3)
 else
 if decide (x0.Kind=2)=true then
 lu p >>=fun r_14=>
 if(!(decide (r_14.2=0)))=true then
 bB (1,b,b_1,b_2,b_3) >>=fun r_17=>
 some (ab.eta r_17.1,r_17.2.1,r_17.2.2.1,r_17.2.2.2.2.2,r_17.2.2.2.1,r_17.2.2.2.2.1)
 else
 nK r_14.1 >>=fun r_24=>
 if(bif decide (r_24 < x0.Low)then true else decide (x0.High < r_24))=true then
 bB (2,b,b_1,b_2,b_3) >>=fun r_25=>
 some (ab.eta r_25.1,r_25.2.1,r_25.2.2.1,r_25.2.2.2.2.2,r_25.2.2.2.1,r_25.2.2.2.2.1)
 else
 some ((⟨x0.Kind,false,r_24,[],0,[],[],[]⟩:ab),true,b,b_1,b_2,b_3)
 else
 if decide (x0.Kind=3)=true then
 if decide (x0.Max < (p.length:Int))=true then
 bB (3,b,b_1,b_2,b_3) >>=fun r_32=>
 some (ab.eta r_32.1,r_32.2.1,r_32.2.2.1,r_32.2.2.2.2.2,r_32.2.2.2.1,r_32.2.2.2.2.1)
 else
 some ((⟨x0.Kind,false,0,p,0,[],[],[]⟩:ab),true,b,b_1,b_2,b_3)
 else
 if decide (x0.Kind=4)=true then
 lu p >>=fun r_39=>
 if(bif bif (!(decide (r_39.2=0)))then true else decide (r_39.1 < 1)then true else decide (1000 < r_39.1))=true then
 bB (1,b,b_1,b_2,b_3) >>=fun r_42=>
 some (ab.eta r_42.1,r_42.2.1,r_42.2.2.1,r_42.2.2.2.2.2,r_42.2.2.2.1,r_42.2.2.2.2.1)
 else
 some (wrp .i64 r_39.1) >>=fun t130=>
 lA (x0,t130) >>=fun r_49=>
 if(bif (!r_49.2)then(!x0.Open)else false)=true then
 bB (4,b,b_1,b_2,b_3) >>=fun r_52=>
 some (ab.eta r_52.1,r_52.2.1,r_52.2.2.1,r_52.2.2.2.2.2,r_52.2.2.2.1,r_52.2.2.2.2.1)
 else
 some ((⟨x0.Kind,false,0,[],t130,[],[],[]⟩:ab),true,b,b_1,b_2,b_3)
 else
 if decide (x0.Kind=9)=true then
 if decide (p=[])=true then
 some ((⟨x0.Kind,false,0,[],0,[],[],[]⟩:ab),true,b,b_1,b_2,b_3)
 else
 if inR 0 p.length=true then
 if(!(decide (bf p 0=1)))=true then
 bB (1,b,b_1,b_2,b_3) >>=fun r_59=>
 some (ab.eta r_59.1,r_59.2.1,r_59.2.2.1,r_59.2.2.2.2.2,r_59.2.2.2.1,r_59.2.2.2.2.1)
 else
 if slR 1 (p.length:Int) p.length=true then
 bS (0,x0.Elem,cutL p 1 (p.length:Int),b,b_1,b_2,b_3) >>=fun r_66=>
 some ((⟨x0.Kind,false,0,[],0,[],[ab.eta r_66.1],[]⟩:ab),r_66.2.1,r_66.2.2.1,r_66.2.2.2.1,r_66.2.2.2.2.1,r_66.2.2.2.2.2)
 else none
 else none
 else
 if decide (x0.Kind=6)=true then
 nu (x0,p,b,b_1,b_2,b_3) >>=fun r_73=>
 some (ab.eta r_73.1,r_73.2.1,r_73.2.2.1,r_73.2.2.2.1,r_73.2.2.2.2.1,r_73.2.2.2.2.2)
 else
 if decide (x0.Kind=7)=true then
 nx (x0,p,b,b_1,b_2,b_3) >>=fun r_80=>
 some (ab.eta r_80.1,r_80.2.1,r_80.2.2.1,r_80.2.2.2.1,r_80.2.2.2.2.1,r_80.2.2.2.2.2)
 else
 if decide (x0.Kind=8)=true then
 kB (x0,p,b,b_1,b_2,b_3) >>=fun r_87=>
 some (ab.eta r_87.1,r_87.2.1,r_87.2.2.1,r_87.2.2.2.1,r_87.2.2.2.2.1,r_87.2.2.2.2.2)
 else
 kC (x0,p,b,b_1,b_2,b_3) >>=fun r_94=>
 some (ab.eta r_94.1,r_94.2.1,r_94.2.2.1,r_94.2.2.2.1,r_94.2.2.2.2.1,r_94.2.2.2.2.2)
 else none
  partial_fixpoint
def kC(x_:ae×List UInt8×List ae×List Int×Int×List Int):Option (ab×Bool×List ae×List Int×Int×List Int):=
 match x_ with
 | (x0,p,b,b_1,b_2,b_3)=>
 fk p >>=fun r=>
 if(!(decide (r.2=0)))=true then
 bB (1,b,b_1,b_2,b_3) >>=fun r_3=>
 some (ab.eta r_3.1,r_3.2.1,r_3.2.2.1,r_3.2.2.2.2.2,r_3.2.2.2.1,r_3.2.2.2.2.1)
 else
 dj (r.1,x0.Members,(x0.Members.length:Int),0,b,b_1,b_2,x0,0,false,0,[],0,x0.Kind,false,0,[],0,b_3,[]) >>=fun o=>
 match o with
 | .inl o_1=>
 some (ab.eta o_1.2.2.2.2.1,o_1.1,o_1.2.1,o_1.2.2.1,o_1.2.2.2.1,o_1.2.2.2.2.2)
 | .inr o_2=>
 eF (o_2.1,(o_2.1.length:Int),0,o_2.2.1,o_2.2.2.1,o_2.2.2.2.1,o_2.2.2.2.2.1,o_2.2.2.2.2.2.1,o_2.2.2.2.2.2.2.1,o_2.2.2.2.2.2.2.2.1,o_2.2.2.2.2.2.2.2.2.1,o_2.2.2.2.2.2.2.2.2.2.1,o_2.2.2.2.2.2.2.2.2.2.2.1,o_2.2.2.2.2.2.2.2.2.2.2.2.1,o_2.2.2.2.2.2.2.2.2.2.2.2.2.1,o_2.2.2.2.2.2.2.2.2.2.2.2.2.2.1,o_2.2.2.2.2.2.2.2.2.2.2.2.2.2.2.1,o_2.2.2.2.2.2.2.2.2.2.2.2.2.2.2.2.1,o_2.2.2.2.2.2.2.2.2.2.2.2.2.2.2.2.2,[]) >>=fun o_3=>
 match o_3 with
 | .inl o_4=>
 some (ab.eta o_4.2.2.2.1,o_4.1,o_4.2.1,o_4.2.2.2.2.2,o_4.2.2.1,o_4.2.2.2.2.1)
 | .inr o_5=>
 some ((⟨o_5.2.2.2.2.2.2.2.2.1,o_5.2.2.2.2.2.2.2.2.2.1,o_5.2.2.2.2.2.2.2.2.2.2.1,o_5.2.2.2.2.2.2.2.2.2.2.2.1,o_5.2.2.2.2.2.2.2.2.2.2.2.2.1,[],o_5.2.2.2.2.2.2.2.2.2.2.2.2.2.2.1,o_5.2.2.2.2.2.2.2.2.2.2.2.2.2.2.2⟩:ab),true,o_5.1,o_5.2.1,o_5.2.2.1,o_5.2.2.2.2.2.2.2.2.2.2.2.2.2.1)
  partial_fixpoint
def nu(x_:ae×List UInt8×List ae×List Int×Int×List Int):Option (ab×Bool×List ae×List Int×Int×List Int):=
 match x_ with
 | (x0,p,b,b_1,b_2,b_3)=>
 ft p >>=fun r=>
 if(!(decide (r.2.2=0)))=true then
 bB (1,b,b_1,b_2,b_3) >>=fun r_4=>
 some (ab.eta r_4.1,r_4.2.1,r_4.2.2.1,r_4.2.2.2.2.2,r_4.2.2.2.1,r_4.2.2.2.2.1)
 else
 cu (x0,r.1) >>=fun r_11=>
 if r_11.2=true then
 if inR r_11.1 x0.Members.length=true then
 bS (r.1,(x0.Members.getD r_11.1.toNat aj).Type_,r.2.1,b,b_1,b_2,b_3) >>=fun r_14=>
 some ((⟨x0.Kind,false,0,[],r.1,[],[ab.eta r_14.1],[]⟩:ab),r_14.2.1,r_14.2.2.1,r_14.2.2.2.1,r_14.2.2.2.2.1,r_14.2.2.2.2.2)
 else none
 else
 if(!x0.Open)=true then
 bB (5,b,b_1,b_2,b_3) >>=fun r_21=>
 some (ab.eta r_21.1,r_21.2.1,r_21.2.2.1,r_21.2.2.2.2.2,r_21.2.2.2.1,r_21.2.2.2.2.1)
 else
 some ((⟨x0.Kind,false,0,[],r.1,[],[],[(⟨r.1,r.2.1⟩:aE)]⟩:ab),true,b,b_1,b_2,b_3)
  partial_fixpoint
def gR(x_:List (List UInt8)×Int×List ae×List Int×Int×ae×Int×Bool×Int×List UInt8×Int×Int×Bool×Int×List UInt8×Int×List Int×List ab):Option ((Bool×List ae×List Int×Int×ab×List Int) ⊕ (List (List UInt8)×List ae×List Int×Int×ae×Int×Bool×Int×List UInt8×Int×Int×Bool×Int×List UInt8×Int×List Int×List ab)):=
 match x_ with
 | (l_2,i,b_67,b_68,b_69,b_70,b_71,b_72,b_73,b_74,b_75,b_76,b_77,b_78,b_79,b_80,b_81,b_82)=>
 if decide (i < (l_2.length:Int))=true then
 if inR i l_2.length=true then
 bS (quoI .i64 i 2,b_70.Key,l_2.getD i.toNat [],b_67,b_68,b_69,b_81) >>=fun r_17=>
 if(!r_17.2.1)=true then
 some (.inl (false,r_17.2.2.1,r_17.2.2.2.1,r_17.2.2.2.2.1,ab.eta r_17.1,r_17.2.2.2.2.2))
 else
 some [ab.eta r_17.1] >>=fun t73=>
 if room 120 (b_82++t73).length=true then
 gR (l_2,addI .i64 i 2,r_17.2.2.1,r_17.2.2.2.1,r_17.2.2.2.2.1,b_70,b_71,b_72,b_73,b_74,b_75,b_76,b_77,b_78,b_79,b_80,r_17.2.2.2.2.2,b_82++t73)
 else none
 else none
 else
 some (.inr (l_2,b_67,b_68,b_69,b_70,b_71,b_72,b_73,b_74,b_75,b_76,b_77,b_78,b_79,b_80,b_81,b_82))
  partial_fixpoint
def gS(x_:List (List UInt8)×Int×List ae×List Int×Int×ae×Int×Bool×Int×List UInt8×Int×Int×Bool×Int×List UInt8×Int×List Int×List ab×List ab):Option ((Bool×List ae×List Int×Int×ab×List Int) ⊕ (List ae×List Int×Int×Int×Bool×Int×List UInt8×Int×Int×Bool×Int×List UInt8×Int×List Int×List ab×List ab)):=
 match x_ with
 | (l_5,i_2,b_99,b_100,b_101,b_102,b_103,b_104,b_105,b_106,b_107,b_108,b_109,b_110,b_111,b_112,b_113,b_114,b_115)=>
 if decide (i_2 < (l_5.length:Int))=true then
 if inR i_2 l_5.length=true then
 bS (quoI .i64 i_2 2,b_102.Elem,l_5.getD i_2.toNat [],b_99,b_100,b_101,b_113) >>=fun r_32=>
 if(!r_32.2.1)=true then
 some (.inl (false,r_32.2.2.1,r_32.2.2.2.1,r_32.2.2.2.2.1,ab.eta r_32.1,r_32.2.2.2.2.2))
 else
 some [ab.eta r_32.1] >>=fun t125=>
 if room 120 (b_115++t125).length=true then
 gS (l_5,addI .i64 i_2 2,r_32.2.2.1,r_32.2.2.2.1,r_32.2.2.2.2.1,b_102,b_103,b_104,b_105,b_106,b_107,b_108,b_109,b_110,b_111,b_112,r_32.2.2.2.2.2,b_114,b_115++t125)
 else none
 else none
 else
 some (.inr (b_99,b_100,b_101,b_103,b_104,b_105,b_106,b_107,b_108,b_109,b_110,b_111,b_112,b_113,b_114,b_115))
  partial_fixpoint
def gV(x_:List (List UInt8)×Int×Int×List ae×List Int×Int×ae×Int×Bool×Int×List UInt8×Int×Int×Bool×Int×List UInt8×Int×List Int×List ab):Option ((Bool×List ae×List Int×Int×ab×List Int) ⊕ (List ae×List Int×Int×Int×Bool×Int×List UInt8×Int×Int×Bool×Int×List UInt8×Int×List Int×List ab)):=
 match x_ with
 | (t38,t39_1,t40,b_24,b_25,b_26,b_27,b_28,b_29,b_30,b_31,b_32,b_33,b_34,b_35,b_36,b_37,b_38,b_39)=>
 if decide (t40 < t39_1)=true then
 if inR t40 t38.length=true then
 bS (t40,b_27.Elem,t38.getD t40.toNat [],b_24,b_25,b_26,b_38) >>=fun r_17=>
 if(!r_17.2.1)=true then
 some (.inl (false,r_17.2.2.1,r_17.2.2.2.1,r_17.2.2.2.2.1,ab.eta r_17.1,r_17.2.2.2.2.2))
 else
 some [ab.eta r_17.1] >>=fun t60=>
 if room 120 (b_39++t60).length=true then
 gV (t38,t39_1,addI .i64 t40 1,r_17.2.2.1,r_17.2.2.2.1,r_17.2.2.2.2.1,b_27,b_28,b_29,b_30,b_31,b_32,b_33,b_34,b_35,b_36,b_37,r_17.2.2.2.2.2,b_39++t60)
 else none
 else none
 else
 some (.inr (b_24,b_25,b_26,b_28,b_29,b_30,b_31,b_32,b_33,b_34,b_35,b_36,b_37,b_38,b_39))
  partial_fixpoint
def dj(x_:List aM×List ap×Int×Int×List ae×List Int×Int×ae×Int×Bool×Int×List UInt8×Int×Int×Bool×Int×List UInt8×Int×List Int×List ab):Option ((Bool×List ae×List Int×Int×ab×List Int) ⊕ (List aM×List ae×List Int×Int×ae×Int×Bool×Int×List UInt8×Int×Int×Bool×Int×List UInt8×Int×List Int×List ab)):=
 match x_ with
 | (l_1,t39,t40_1,t41,b_46,b_47,b_48,b_49,b_50,b_51,b_52,b_53,b_54,b_55,b_56,b_57,b_58,b_59,b_60,b_61)=>
 if decide (t41 < t40_1)=true then
 if inR t41 t39.length=true then
 some (t39.getD t41.toNat aj) >>=fun x0_1=>
 kv (l_1,(⟨x0_1.ID,x0_1.Name,x0_1.Type_,x0_1.Critical,x0_1.HasDefault,ab.eta x0_1.Default⟩:ap)) >>=fun r_10=>
 if decide (0<=r_10.1)=true then
 if inR r_10.1 l_1.length=true then
 bS (r_10.2.ID,r_10.2.Type_,(l_1.getD r_10.1.toNat bj).Data,b_46,b_47,b_48,b_60) >>=fun r_13=>
 if(!r_13.2.1)=true then
 some (.inl (false,r_13.2.2.1,r_13.2.2.2.1,r_13.2.2.2.2.1,ab.eta r_13.1,r_13.2.2.2.2.2))
 else
 some [ab.eta r_13.1] >>=fun t102=>
 if room 120 (b_61++t102).length=true then
 dj (l_1,t39,t40_1,addI .i64 t41 1,r_13.2.2.1,r_13.2.2.2.1,r_13.2.2.2.2.1,b_49,b_50,b_51,b_52,b_53,b_54,b_55,b_56,b_57,b_58,b_59,r_13.2.2.2.2.2,b_61++t102)
 else none
 else none
 else
 if r_10.2.HasDefault=true then
 cC (ab.eta r_10.2.Default) >>=fun r_20=>
 some [ab.eta r_20] >>=fun t113=>
 if room 120 (b_61++t113).length=true then
 dj (l_1,t39,t40_1,addI .i64 t41 1,b_46,b_47,b_48,b_49,b_50,b_51,b_52,b_53,b_54,b_55,b_56,b_57,b_58,b_59,b_60,b_61++t113)
 else none
 else
 some [r_10.2.ID] >>=fun t55=>
 if room 8 (b_60++t55).length=true then
 bB (7,b_46,b_47,b_48,b_60++t55) >>=fun r_21=>
 some (subI .i64 (r_21.2.2.2.2.1.length:Int) 1) >>=fun t74=>
 if slR 0 t74 r_21.2.2.2.2.1.length=true then
 if decide (t74.toNat<=r_21.2.2.2.2.1.length)=true then
 some (.inl (false,r_21.2.2.1,r_21.2.2.2.2.2,r_21.2.2.2.1,ab.eta r_21.1,r_21.2.2.2.2.1.take t74.toNat))
 else none
 else none
 else none
 else none
 else
 some (.inr (l_1,b_46,b_47,b_48,b_49,b_50,b_51,b_52,b_53,b_54,b_55,b_56,b_57,b_58,b_59,b_60,b_61))
  partial_fixpoint
end
theorem A9 :KC e181:= .m (by kernel_rfl)
theorem iZ :KC e178:= .m (by kernel_rfl)
theorem s8 :KC e139:= .m (by kernel_rfl)
theorem Ba :KC e182:= .m (by kernel_rfl)
theorem Bb :KC e180:= .m (by kernel_rfl)
theorem Bc :KC e179:= .m (by kernel_rfl)
theorem Cg :(∀h r,kB h=some r->FD e181 h r)/\(∀h r,gS h=some r->LD 181 2 [2] mO h r)/\(∀h r,bS h=some r->FD e178 h r)/\(∀h r,eO h=some r->FD e139 h r)/\(∀h r,kC h=some r->FD e182 h r)/\(∀h r,dj h=some r->LD 182 2 [0] mR h r)/\(∀h r,nx h=some r->FD e180 h r)/\(∀h r,gV h=some r->LD 180 2 [0] mM h r)/\(∀h r,nu h=some r->FD e179 h r)/\(∀h r,gR h=some r->LD 181 2 [0] mN h r):=kB.mutual_partial_correctness (FD e181) (LD 181 2 [2] mO) (FD e178) (FD e139) (FD e182) (LD 182 2 [0] mR) (FD e180) (LD 180 2 [0] mM) (FD e179) (LD 181 2 [0] mN)
 (fun _ _ h1 h9 _ _ h=>FA e181 A9 (.k um (.k f7 .n)) (.k (LH mN h9) (.k Ca (.k (LH mO h1) .n))) (.trans (by kernel_rfl) h))
 (fun _ _ h1 h2 _ _ h=>LA mO h1 (.k (FH e178 iZ h2) .n) .n (.trans (by kernel_rfl) h))
 (fun _ h3 _ _ h=>FA e178 iZ (.k (FH e139 s8 h3) .n) .n (.trans (by kernel_rfl) h))
 (fun _ _ _ _ _ h0 h2 h4 h6 h8 _ _ h=>FA e139 s8 (.k f7 (.k Eo (.k D7 (.k tV (.k (FH e178 iZ h2) (.k (FH e179 Bc h8) (.k (FH e180 Bb h6) (.k (FH e181 A9 h0) (.k (FH e182 Ba h4) .n))))))))) .n (.trans (by kernel_rfl) h))
 (fun _ h5 _ _ h=>FA e182 Ba (.k EE (.k f7 .n)) (.k (LH mR h5) (.k Cf .n)) (.trans (by kernel_rfl) h))
 (fun _ _ h2 h5 _ _ h=>LA mR h5 (.k B6 (.k (FH e178 iZ h2) (.k ED (.k f7 .n)))) .n (.trans (by kernel_rfl) h))
 (fun _ h7 _ _ h=>FA e180 Bb (.k um (.k f7 .n)) (.k (LH mM h7) .n) (.trans (by kernel_rfl) h))
 (fun _ _ h2 h7 _ _ h=>LA mM h7 (.k (FH e178 iZ h2) .n) .n (.trans (by kernel_rfl) h))
 (fun _ h2 _ _ h=>FA e179 Bc (.k FN (.k f7 (.k lg (.k (FH e178 iZ h2) .n)))) .n (.trans (by kernel_rfl) h))
 (fun _ _ h2 h9 _ _ h=>LA mN h9 (.k (FH e178 iZ h2) .n) .n (.trans (by kernel_rfl) h))
theorem Cx :FC e139 eO:= .of s8 Cg.2.2.2.1
def q8(x_:av×Int×List UInt8):Option (ab×bX×Int):=
 match x_ with
 | (s,t,m)=>
 iC s >>=fun r=>
 if(!(decide (r=0)))=true then
 some ((⟨0,false,0,[],0,[],[],[]⟩:ab),(⟨[],0⟩:bX),r)
 else
 if(bif decide (t < 0)then true else decide ((s.Types.length:Int)<=t))=true then
 some ((⟨0,false,0,[],0,[],[],[]⟩:ab),(⟨[],0⟩:bX),4)
 else
 if decide (4096 < (m.length:Int))=true then
 some ((⟨0,false,0,[],0,[],[],[]⟩:ab),(⟨[],3⟩:bX),12)
 else
 eO (t,m,s.Types,[],0,[]) >>=fun r_1=>
 if(!r_1.2.1)=true then
 some ((⟨0,false,0,[],0,[],[],[]⟩:ab),(⟨r_1.2.2.2.1,r_1.2.2.2.2.1⟩:bX),12)
 else
 some (ab.eta r_1.1,(⟨[],0⟩:bX),0)
theorem e83_k :KC e83:= .m (by kernel_rfl)
theorem Fb :FC e83 q8:= .fn e83_k (.k ul (.k Cx .n)) .n fun _=>by kernel_rfl
def nT(x_:av×Int×List UInt8):Option (ab×Int):=
 match x_ with
 | (s,t,m)=>
 q8 (s,t,m) >>=fun r=>
 some (ab.eta r.1,r.2.2)
theorem e50_k :KC e50:= .m (by kernel_rfl)
theorem EF :FC e50 nT:= .fn e50_k (.k Fb .n) .n fun _=>by kernel_rfl
def nL(x_:av×Int):Option (Int):=
 match x_ with
 | (s,t)=>
 iC (⟨s.Types⟩:av) >>=fun r=>
 if(!(decide (r=0)))=true then
 some r
 else
 if(bif decide (t < 0)then true else decide ((s.Types.length:Int)<=t))=true then
 some 4
 else
 some 0
theorem e77_k :KC e77:= .m (by kernel_rfl)
theorem Ep :FC e77 nL:= .fn e77_k (.k ul .n) .n fun _=>by kernel_rfl
def oI(v:ab):Option (ab):=
 if decide (v.Kind=1)=true then
 some (⟨v.Kind,v.Bool_,0,[],0,[],[],[]⟩:ab)
 else
 if decide (v.Kind=2)=true then
 some (⟨v.Kind,false,v.Int_,[],0,[],[],[]⟩:ab)
 else
 if decide (v.Kind=3)=true then
 some (⟨v.Kind,false,0,v.Str,0,[],[],[]⟩:ab)
 else
 if decide (v.Kind=4)=true then
 some (⟨v.Kind,false,0,[],v.ID,[],[],[]⟩:ab)
 else
 if decide (v.Kind=5)=true then
 some (⟨v.Kind,false,0,[],0,[],v.Items,v.Rest⟩:ab)
 else
 if decide (v.Kind=6)=true then
 some (⟨v.Kind,false,0,[],v.ID,[],v.Items,v.Rest⟩:ab)
 else
 if decide (v.Kind=8)=true then
 some (⟨v.Kind,false,0,[],0,v.Keys,v.Items,[]⟩:ab)
 else
 some (decide (v.Kind=7)) >>=fun t57=>
 if t57=true then
 if t57=true then
 some (⟨v.Kind,false,0,[],0,[],v.Items,[]⟩:ab)
 else
 some (⟨v.Kind,false,0,[],0,[],[],[]⟩:ab)
 else
 if decide (v.Kind=9)=true then
 some (⟨v.Kind,false,0,[],0,[],v.Items,[]⟩:ab)
 else
 some (⟨v.Kind,false,0,[],0,[],[],[]⟩:ab)
theorem MQ :KC e193:= .m (by kernel_rfl)
theorem FO :FC e193 oI:= .fn MQ .n .n fun _=>by kernel_rfl
def nZ(v:ab):Option (Bool):=
 oI (ab.eta v) >>=fun r=>
 some (bif bif bif bif bif bif eqB v.Bool_ r.Bool_ then decide (v.Int_=r.Int_)else false then decide (v.Str=r.Str)else false then decide (v.ID=r.ID)else false then decide ((v.Keys.length:Int)=(r.Keys.length:Int))else false then decide ((v.Items.length:Int)=(r.Items.length:Int))else false then decide ((v.Rest.length:Int)=(r.Rest.length:Int))else false)
theorem MR :KC e148:= .m (by kernel_rfl)
theorem EV :FC e148 nZ:= .fn MR (.k FO .n) .n fun _=>by kernel_rfl
def lZ(id:Int):Option (Bool):=
 some (bif decide (1<=id)then decide (id<=1000)else false)
theorem MS :KC e149:= .m (by kernel_rfl)
theorem uR :FC e149 lZ:= .fn MS .n .n fun _=>by kernel_rfl
def cR(x_:Bool×List aE×Int×Int×List ae×ab×Int×List UInt8×Int×Int×Int×List aL×List ap×Int×Int×Bool):Option ((Bool) ⊕ (Bool×List ae×Int×Bool×Int×List UInt8×Int×List ab×List ab×List aE×Int×List UInt8×Int×Int×Int×List aL×List ap×Int×Int×Bool)):=
 match x_ with
 | (plain_3,t111,t112_1,t113,b_31,b_32,b_33,b_34,b_35,b_36,b_37,b_38,b_39,b_40,b_41,b_42)=>
 if decide (t113 < t112_1)=true then
 if inR t113 t111.length=true then
 some (t111.getD t113.toNat az) >>=fun x0_4=>
 cu ((⟨b_33,b_34,b_35,b_36,b_37,b_38,b_39,b_40,b_41,b_42⟩:ae),x0_4.ID) >>=fun r_14=>
 (if(!r_14.2)=true then lZ x0_4.ID else some false) >>=fun r_17=>
 some (bif r_14.2 then true else(!r_17)) >>=fun t131=>
 some (decide (0 < t113)) >>=fun t134=>
 some (subI .i64 t113 1) >>=fun t141=>
 if(inR t141 b_32.Rest.length || (!((!t131) && t134)))=true then
 if(bif t131 then true else bif t134 then decide (x0_4.ID<=(b_32.Rest.getD t141.toNat az).ID)else false)=true then
 some (.inl false)
 else
 cR (plain_3,t111,t112_1,addI .i64 t113 1,b_31,ab.eta b_32,b_33,b_34,b_35,b_36,b_37,b_38,b_39,b_40,b_41,b_42)
 else none
 else none
 else
 some (.inr (plain_3,b_31,b_32.Kind,b_32.Bool_,b_32.Int_,b_32.Str,b_32.ID,b_32.Keys,b_32.Items,b_32.Rest,b_33,b_34,b_35,b_36,b_37,b_38,b_39,b_40,b_41,b_42))
  partial_fixpoint
theorem EG :LC 112 0 [0] AL cR:= .rc cR.partial_correctness (.k lg (.k uR .n)) .n fun _ _=>by kernel_rfl
def cD(x_:Bool×Int×List ae×ab×Int×List UInt8×Int×Int×Int×List aL×List ap×Int×Int×Bool):Option ((Bool) ⊕ (Bool×List ae×ab×Int×List UInt8×Int×Int×Int×List aL×List ap×Int×Int×Bool)):=
 match x_ with
 | (plain_5,i,b_52,b_53,b_54,b_55,b_56,b_57,b_58,b_59,b_60,b_61,b_62,b_63)=>
 if decide (i < (b_53.Keys.length:Int))=true then
 some (subI .i64 i 1) >>=fun t291=>
 if inR t291 b_53.Keys.length=true then
 if inR i b_53.Keys.length=true then
 dN (ab.eta (b_53.Keys.getD t291.toNat af),ab.eta (b_53.Keys.getD i.toNat af)) >>=fun r_19=>
 if decide (0<=r_19)=true then
 some (.inl false)
 else
 cD (plain_5,addI .i64 i 1,b_52,ab.eta b_53,b_54,b_55,b_56,b_57,b_58,b_59,b_60,b_61,b_62,b_63)
 else none
 else none
 else
 some (.inr (plain_5,b_52,ab.eta b_53,b_54,b_55,b_56,b_57,b_58,b_59,b_60,b_61,b_62,b_63))
  partial_fixpoint
theorem EH :LC 112 0 [2] AM cD:= .rc cD.partial_correctness (.k tX .n) .n fun _ _=>by kernel_rfl
mutual
def ni(x_:List ab×List ae×Int×Bool):Option (Bool×List ae×Int×Bool):=
 match x_ with
 | (s,b,b_1,b_2)=>
 pY (s,b,b_1,b_2) >>=fun r=>
 some (decide (0<=r.1),r.2.1,r.2.2.1,r.2.2.2)
  partial_fixpoint
def pY(x_:List ab×List ae×Int×Bool):Option (Int×List ae×Int×Bool):=
 match x_ with
 | (s,b,b_1,b_2)=>
 fT (s,(s.length:Int),0,b,b_1,b_2) >>=fun o=>
 match o with
 | .inl o_1=>
 some (o_1.1,o_1.2.1,o_1.2.2.1,o_1.2.2.2)
 | .inr o_2=>
 some ((-1),o_2.1,o_2.2.1,o_2.2.2)
  partial_fixpoint
def gx(x_:av×Int×List ab×Bool):Option (Bool):=
 match x_ with
 | (s,t,l,plain)=>
 ni (l,s.Types,t,plain) >>=fun r=>
 some (!r.1)
  partial_fixpoint
def qM(x_:ab×List ae×Int×Bool):Option (Bool×List ae×Int×Bool):=
 match x_ with
 | (v,b,b_1,b_2)=>
 cw ((⟨b⟩:av),b_1,ab.eta v,b_2) >>=fun r=>
 some ((!r),b,b_1,b_2)
  partial_fixpoint
def cw(x_:av×Int×ab×Bool):Option (Bool):=
 match x_ with
 | (s,t,v,plain)=>
 if(bif decide (t < 0)then true else decide ((s.Types.length:Int)<=t))=true then
 some false
 else
 if inR t s.Types.length=true then
 some (s.Types.getD t.toNat ag) >>=fun x0=>
 some (!(decide (v.Kind=x0.Kind))) >>=fun t39=>
 (if(!t39)=true then nZ (ab.eta v)else some false) >>=fun r=>
 if(bif t39 then true else(!r))=true then
 some false
 else
 if decide (x0.Kind=2)=true then
 some (bif decide (x0.Low<=v.Int_)then decide (v.Int_<=x0.High)else false)
 else
 if decide (x0.Kind=3)=true then
 some (decide ((v.Str.length:Int)<=x0.Max))
 else
 if decide (x0.Kind=4)=true then
 lA (x0,v.ID) >>=fun r_1=>
 some (bif x0.Open then(!plain)else false) >>=fun t85=>
 (if((!r_1.2) && t85)=true then lZ v.ID else some false) >>=fun r_4=>
 some (bif r_1.2 then true else bif t85 then r_4 else false)
 else
 if decide (x0.Kind=5)=true then
 if(bif (!(decide ((v.Items.length:Int)=(x0.Members.length:Int))))then true else bif plain then decide (0 < (v.Rest.length:Int))else false)=true then
 some false
 else
 cR (plain,v.Rest,(v.Rest.length:Int),0,s.Types,ab.eta v,x0.Kind,x0.Name,x0.Low,x0.High,x0.Max,x0.Symbols,x0.Members,x0.Key,x0.Elem,x0.Open) >>=fun o=>
 match o with
 | .inl o_1=>
 some o_1
 | .inr o_2=>
 dp (o_2.1,o_2.2.2.2.2.2.2.2.2.2.2.2.2.2.2.2.2.1,(o_2.2.2.2.2.2.2.2.2.2.2.2.2.2.2.2.2.1.length:Int),0,o_2.2.1,o_2.2.2.1,o_2.2.2.2.1,o_2.2.2.2.2.1,o_2.2.2.2.2.2.1,o_2.2.2.2.2.2.2.1,o_2.2.2.2.2.2.2.2.1,o_2.2.2.2.2.2.2.2.2.1,o_2.2.2.2.2.2.2.2.2.2.1) >>=fun o_3=>
 match o_3 with
 | .inl o_4=>
 some o_4
 | .inr o_5=>
 some true
 else
 if decide (x0.Kind=6)=true then
 cu (x0,v.ID) >>=fun r_5=>
 if r_5.2=true then
 some (bif decide ((v.Items.length:Int)=1)then decide ((v.Rest.length:Int)=0)else false) >>=fun t188=>
 if(inR r_5.1 x0.Members.length || (!t188))=true then
 if(inR 0 v.Items.length || (!t188))=true then
 (if t188=true then cw ((⟨s.Types⟩:av),(x0.Members.getD r_5.1.toNat aj).Type_,ab.eta (v.Items.getD (0:Int).toNat af),plain)else some false) >>=fun r_8=>
 some (bif t188 then r_8 else false)
 else none
 else none
 else
 some (bif x0.Open then(!plain)else false) >>=fun t209=>
 (if t209=true then lZ v.ID else some false) >>=fun r_9=>
 some (bif bif bif t209 then r_9 else false then decide ((v.Items.length:Int)=0)else false then decide ((v.Rest.length:Int)=1)else false) >>=fun t226=>
 if(inR 0 v.Rest.length || (!t226))=true then
 some (bif t226 then decide ((v.Rest.getD (0:Int).toNat az).ID=v.ID)else false)
 else none
 else
 if decide (x0.Kind=7)=true then
 some (decide ((v.Items.length:Int)<=x0.Max)) >>=fun t244=>
 (if t244=true then gx ((⟨s.Types⟩:av),x0.Elem,v.Items,plain)else some false) >>=fun r_10=>
 some (bif t244 then r_10 else false)
 else
 if decide (x0.Kind=8)=true then
 some (bif decide (x0.Max < (v.Keys.length:Int))then true else(!(decide ((v.Items.length:Int)=(v.Keys.length:Int))))) >>=fun t270=>
 (if(!t270)=true then gx ((⟨s.Types⟩:av),x0.Key,v.Keys,plain)else some false) >>=fun r_11=>
 if(bif t270 then true else(!r_11))=true then
 some false
 else
 cD (plain,1,s.Types,ab.eta v,x0.Kind,x0.Name,x0.Low,x0.High,x0.Max,x0.Symbols,x0.Members,x0.Key,x0.Elem,x0.Open) >>=fun o_6=>
 match o_6 with
 | .inl o_7=>
 some o_7
 | .inr o_8=>
 gx ((⟨o_8.2.1⟩:av),o_8.2.2.2.2.2.2.2.2.2.2.2.1,o_8.2.2.1.Items,o_8.1) >>=fun r_12=>
 some r_12
 else
 if decide (x0.Kind=9)=true then
 some (decide ((v.Items.length:Int)<=1)) >>=fun t313=>
 (if t313=true then gx ((⟨s.Types⟩:av),x0.Elem,v.Items,plain)else some false) >>=fun r_13=>
 some (bif t313 then r_13 else false)
 else
 some true
 else none
  partial_fixpoint
def fT(x_:List ab×Int×Int×List ae×Int×Bool):Option ((Int×List ae×Int×Bool) ⊕ (List ae×Int×Bool)):=
 match x_ with
 | (s_1,t7_1,t8,b_9,b_10,b_11)=>
 if decide (t8 < t7_1)=true then
 if inR t8 s_1.length=true then
 qM (ab.eta (s_1.getD t8.toNat af),b_9,b_10,b_11) >>=fun r=>
 if r.1=true then
 some (.inl (t8,r.2.1,r.2.2.1,r.2.2.2))
 else
 fT (s_1,t7_1,addI .i64 t8 1,r.2.1,r.2.2.1,r.2.2.2)
 else none
 else
 some (.inr (b_9,b_10,b_11))
  partial_fixpoint
def dp(x_:Bool×List ap×Int×Int×List ae×Int×Bool×Int×List UInt8×Int×List ab×List ab×List aE):Option ((Bool) ⊕ (Unit)):=
 match x_ with
 | (plain_4,t150,t151_1,t152,b_43,b_44,b_45,b_46,b_47,b_48,b_49,b_50,b_51)=>
 if decide (t152 < t151_1)=true then
 if inR t152 t150.length=true then
 if inR t152 b_50.length=true then
 cw ((⟨b_43⟩:av),(t150.getD t152.toNat aj).Type_,ab.eta (b_50.getD t152.toNat af),plain_4) >>=fun r_18=>
 if(!r_18)=true then
 some (.inl false)
 else
 dp (plain_4,t150,t151_1,addI .i64 t152 1,b_43,b_44,b_45,b_46,b_47,b_48,b_49,b_50,b_51)
 else none
 else none
 else
 some (.inr ())
  partial_fixpoint
end
theorem yo :KC kj:= .m (by kernel_rfl)
theorem yp :KC kh:= .m (by kernel_rfl)
theorem Bd :KC e194:= .m (by kernel_rfl)
theorem m5 :KC e112:= .m (by kernel_rfl)
theorem Be :KC e150:= .m (by kernel_rfl)
theorem BZ :(∀h r,ni h=some r->FD kj h r)/\(∀h r,pY h=some r->FD kh h r)/\(∀h r,fT h=some r->LD 192 3 [0] mj h r)/\(∀h r,qM h=some r->FD e194 h r)/\(∀h r,cw h=some r->FD e112 h r)/\(∀h r,gx h=some r->FD e150 h r)/\(∀h r,dp h=some r->LD 112 0 [1] mS h r):=ni.mutual_partial_correctness (FD kj) (FD kh) (LD 192 3 [0] mj) (FD e194) (FD e112) (FD e150) (LD 112 0 [1] mS)
 (fun _ h1 _ _ h=>FA kj yo (.k (FH kh yp h1) .n) .n (.trans (by kernel_rfl) h))
 (fun _ h2 _ _ h=>FA kh yp .n (.k (LH mj h2) .n) (.trans (by kernel_rfl) h))
 (fun _ _ h2 h3 _ _ h=>LA mj h2 (.k (FH e194 Bd h3) .n) .n (.trans (by kernel_rfl) h))
 (fun _ h4 _ _ h=>FA e194 Bd (.k (FH e112 m5 h4) .n) .n (.trans (by kernel_rfl) h))
 (fun _ _ _ h4 h5 h6 _ _ h=>FA e112 m5 (.k EV (.k tV (.k uR (.k lg (.k (FH e112 m5 h4) (.k (FH e150 Be h5) .n)))))) (.k EG (.k (LH mS h6) (.k EH .n))) (.trans (by kernel_rfl) h))
 (fun _ h0 _ _ h=>FA e150 Be (.k (FH kj yo h0) .n) .n (.trans (by kernel_rfl) h))
 (fun _ _ h4 h6 _ _ h=>LA mS h6 (.k (FH e112 m5 h4) .n) .n (.trans (by kernel_rfl) h))
theorem FP :FC e112 cw:= .of m5 BZ.2.2.2.2.1
def jB(x_:av×Int×ab):Option (Bool):=
 match x_ with
 | (s,t,v)=>
 cw ((⟨s.Types⟩:av),t,ab.eta v,false) >>=fun r=>
 some r
theorem e86_k :KC e86:= .m (by kernel_rfl)
theorem FR :FC e86 jB:= .fn e86_k (.k FP .n) .n fun _=>by kernel_rfl
def fh(x_:av×Int×ab):Option (Int):=
 match x_ with
 | (s,t,v)=>
 nL ((⟨s.Types⟩:av),t) >>=fun r=>
 if(!(decide (r=0)))=true then
 some r
 else
 jB ((⟨s.Types⟩:av),t,ab.eta v) >>=fun r_1=>
 if(!r_1)=true then
 some 1
 else
 some 0
theorem e81_k :KC e81:= .m (by kernel_rfl)
theorem Er :FC e81 fh:= .fn e81_k (.k Ep (.k FR .n)) .n fun _=>by kernel_rfl
def iv(x_:Int×Int×List Int):Option (Int×List Int):=
 match x_ with
 | (n_1,i_1,b_1)=>
 if decide (0 < n_1)=true then
 some (subI .i64 i_1 1) >>=fun t10=>
 if inR t10 8=true then
 if decide (t10.toNat < b_1.length)=true then
 iv (shrI .u64 n_1 8,t10,b_1.set t10.toNat (wrp .u8 n_1))
 else none
 else none
 else
 some (i_1,b_1)
  partial_fixpoint
theorem EK :LC 132 0 [0] AN iv:= .rc iv.partial_correctness .n .n fun _ _=>by kernel_rfl
def l4(n:Int):Option (List UInt8):=
 iv (n,8,[0,0,0,0,0,0,0,0]) >>=fun o=>
 if slR o.1 8 8=true then
 if subR o.1.toNat ((8:Int).toNat - o.1.toNat) o.2.length=true then
 some (strOf ((o.2.drop o.1.toNat).take ((8:Int).toNat - o.1.toNat)))
 else none
 else none
theorem MU :KC e132:= .m (by kernel_rfl)
theorem FS :FC e132 l4:= .fn MU .n (.k EK .n) fun _=>by kernel_rfl
mutual
def i7(x_:List ab×List ab):Option (Bool):=
 match x_ with
 | (s1,s2)=>
 if(!(decide ((s1.length:Int)=(s2.length:Int))))=true then
 some false
 else
 i5 (s2,s1,(s1.length:Int),0) >>=fun o=>
 match o with
 | .inl o_1=>
 some o_1
 | .inr o_2=>
 some true
  partial_fixpoint
def iG(x_:ab×ab):Option (Bool):=
 match x_ with
 | (a,b)=>
 some (bif bif bif bif decide (a.Kind=b.Kind)then eqB a.Bool_ b.Bool_ else false then decide (a.Int_=b.Int_)else false then decide (a.Str=b.Str)else false then decide (a.ID=b.ID)else false) >>=fun t37=>
 (if t37=true then kw (a.Rest,b.Rest)else some false) >>=fun r=>
 some (bif t37 then r else false) >>=fun t44=>
 (if t44=true then i7 (a.Keys,b.Keys)else some false) >>=fun r_1=>
 some (bif t44 then r_1 else false) >>=fun t51=>
 (if t51=true then i7 (a.Items,b.Items)else some false) >>=fun r_2=>
 some (bif t51 then r_2 else false)
  partial_fixpoint
def i5(x_:List ab×List ab×Int×Int):Option ((Bool) ⊕ (Unit)):=
 match x_ with
 | (s2_1,t15,t16_1,t17)=>
 if decide (t17 < t16_1)=true then
 if inR t17 t15.length=true then
 if inR t17 s2_1.length=true then
 iG (ab.eta (t15.getD t17.toNat af),ab.eta (s2_1.getD t17.toNat af)) >>=fun r=>
 if(!r)=true then
 some (.inl false)
 else
 i5 (s2_1,t15,t16_1,addI .i64 t17 1)
 else none
 else none
 else
 some (.inr ())
  partial_fixpoint
end
theorem yr :KC kl:= .m (by kernel_rfl)
theorem s9 :KC e205:= .m (by kernel_rfl)
theorem BW :(∀h r,i7 h=some r->FD kl h r)/\(∀h r,i5 h=some r->LD 225 0 [0] ml h r)/\(∀h r,iG h=some r->FD e205 h r):=i7.mutual_partial_correctness (FD kl) (LD 225 0 [0] ml) (FD e205)
 (fun _ h1 _ _ h=>FA kl yr .n (.k (LH ml h1) .n) (.trans (by kernel_rfl) h))
 (fun _ _ h1 h2 _ _ h=>LA ml h1 (.k (FH e205 s9 h2) .n) .n (.trans (by kernel_rfl) h))
 (fun _ h0 _ _ h=>FA e205 s9 (.k tg (.k (FH kl yr h0) .n)) .n (.trans (by kernel_rfl) h))
theorem Fc :FC e205 iG:= .of s9 BW.2.2
def nM(x_:ap×ab):Option (Bool):=
 match x_ with
 | (m,v)=>
 (if m.HasDefault=true then iG (ab.eta m.Default,ab.eta v)else some false) >>=fun r=>
 some (bif m.HasDefault then r else false)
theorem MV :KC e170:= .m (by kernel_rfl)
theorem Es :FC e170 nM:= .fn MV (.k Fc .n) .n fun _=>by kernel_rfl
def iw(x_:Int×Int×List Int):Option (Int×Int×List Int):=
 match x_ with
 | (n_2,i_1,b_1)=>
 if decide (128<=n_2)=true then
 if inR i_1 10=true then
 if decide (i_1.toNat < b_1.length)=true then
 iw (shrI .u64 n_2 7,addI .i64 i_1 1,b_1.set i_1.toNat (orI .u8 (wrp .u8 n_2) 128))
 else none
 else none
 else
 some (n_2,i_1,b_1)
  partial_fixpoint
theorem EL :LC 175 0 [0] AP iw:= .rc iw.partial_correctness .n .n fun _ _=>by kernel_rfl
def iI(n:Int):Option (List UInt8):=
 iw (n,0,[0,0,0,0,0,0,0,0,0,0]) >>=fun o=>
 if inR o.2.1 10=true then
 if decide (o.2.1.toNat < o.2.2.length)=true then
 some (o.2.2.set o.2.1.toNat (wrp .u8 o.1)) >>=fun l_1=>
 some (addI .i64 o.2.1 1) >>=fun t21=>
 if slR 0 t21 10=true then
 if subR (0:Int).toNat t21.toNat l_1.length=true then
 some (strOf ((l_1.drop (0:Int).toNat).take t21.toNat))
 else none
 else none
 else none
 else none
theorem MW :KC e175:= .m (by kernel_rfl)
theorem qN :FC e175 iI:= .fn MW .n (.k EL .n) fun _=>by kernel_rfl
def gq(p:List UInt8):Option (List UInt8):=
 iI (wrp .u64 (p.length:Int)) >>=fun r=>
 if decide (r.length+p.length<=aX)=true then
 some (r++p)
 else none
theorem MX :KC e137:= .m (by kernel_rfl)
theorem uo :FC e137 gq:= .fn MX (.k qN .n) .n fun _=>by kernel_rfl
def lN(x_:Int×Bool×List UInt8):Option (List UInt8):=
 match x_ with
 | (id,critical,p)=>
 some (mulI .u64 2 (wrp .u64 id)) >>=fun t10=>
 if critical=true then
 iI (addI .u64 t10 1) >>=fun r=>
 gq p >>=fun r_1=>
 if decide (r.length+r_1.length<=aX)=true then
 some (r++r_1)
 else none
 else
 iI t10 >>=fun r_2=>
 gq p >>=fun r_3=>
 if decide (r_2.length+r_3.length<=aX)=true then
 some (r_2++r_3)
 else none
theorem MY :KC e171:= .m (by kernel_rfl)
theorem uq :FC e171 lN:= .fn MY (.k qN (.k uo .n)) .n fun _=>by kernel_rfl
def gO(x_:List UInt8×List UInt8):Option (Int×List UInt8):=
 match x_ with
 | (s,b)=>
 some b >>=fun r=>
 if(decide (r.length=b.length) && true)=true then
 if room 1 (r.length+s.length)=true then
 some ((s.length:Int),catS r s)
 else none
 else none
theorem MZ :KC e136:= .m (by kernel_rfl)
theorem ti :FC e136 gO:= .fn MZ (.k jk .n) .n fun _=>by kernel_rfl
def ky(b:List UInt8):Option (List UInt8):=
 if eqI (b.length:Int) (b.length:Int)=true then
 some b
 else none
theorem M0 :KC e138:= .m (by kernel_rfl)
theorem tj :FC e138 ky:= .fn M0 .n .n fun _=>by kernel_rfl
def fW(x_:List aE×Int×Int×List ae×Int×List bl):Option (List ae×Int×List bl):=
 match x_ with
 | (t57,t58_1,t59,b_16,b_17,b_18)=>
 if decide (t59 < t58_1)=true then
 if inR t59 t57.length=true then
 some (t57.getD t59.toNat az) >>=fun x0_4=>
 lN (x0_4.ID,false,x0_4.Data) >>=fun r_8=>
 some [(⟨x0_4.ID,r_8⟩:bl)] >>=fun t72=>
 if room 24 (b_18++t72).length=true then
 fW (t57,t58_1,addI .i64 t59 1,b_16,b_17,b_18++t72)
 else none
 else none
 else
 some (b_16,b_17,b_18)
  partial_fixpoint
theorem Ch :LC 134 1 [1] AQ fW:= .rc fW.partial_correctness (.k uq .n) .n fun _ _=>by kernel_rfl
def fX(x_:Int×Int×List ae×Int×List bl×List UInt8):Option (List ae×Int×List UInt8):=
 match x_ with
 | (t78_1,t79,b_19,b_20,b_21,b_22)=>
 if decide (t79 < t78_1)=true then
 if inR t79 b_21.length=true then
 if decide (t79.toNat < b_21.length)=true then
 gO ((b_21.getD t79.toNat jr).text,b_22) >>=fun r_9=>
 fX (t78_1,addI .i64 t79 1,b_19,b_20,b_21,r_9.2)
 else none
 else none
 else
 some (b_19,b_20,b_22)
  partial_fixpoint
theorem Ci :LC 134 1 [2] AS fX:= .rc fX.partial_correctness (.k ti .n) .n fun _ _=>by kernel_rfl
mutual
def cO(x_:Int×ab×Int×List ae×Int):Option (List UInt8×List ae×Int):=
 match x_ with
 | (t,v,level,b,b_1)=>
 some (maxI b_1 level) >>=fun t19=>
 if inR t b.length=true then
 some (b.getD t.toNat ag) >>=fun x0=>
 if decide (x0.Kind=1)=true then
 if v.Bool_=true then
 some ([1],b,t19)
 else
 some ([],b,t19)
 else
 if decide (x0.Kind=2)=true then
 jp v.Int_ >>=fun r=>
 l4 r >>=fun r_1=>
 some (r_1,b,t19)
 else
 if decide (x0.Kind=3)=true then
 some (v.Str,b,t19)
 else
 if decide (x0.Kind=4)=true then
 l4 (wrp .u64 v.ID) >>=fun r_2=>
 some (r_2,b,t19)
 else
 if decide (x0.Kind=5)=true then
 np (x0,ab.eta v,level,b,t19) >>=fun r_3=>
 some (r_3.1,r_3.2.1,r_3.2.2)
 else
 if decide (x0.Kind=6)=true then
 kG (x0,ab.eta v,level,b,t19) >>=fun r_7=>
 some (r_7.1,r_7.2.1,r_7.2.2)
 else
 if decide (x0.Kind=9)=true then
 if decide ((v.Items.length:Int)=0)=true then
 some ([],b,t19)
 else
 if inR 0 v.Items.length=true then
 cO (x0.Elem,ab.eta (v.Items.getD (0:Int).toNat af),addI .i64 level 1,b,t19) >>=fun r_11=>
 if decide ([1].length+r_11.1.length<=aX)=true then
 some ([1]++r_11.1,r_11.2.1,r_11.2.2)
 else none
 else none
 else
 cY (level,v.Items,(v.Items.length:Int),0,b,t19,ab.eta v,x0,[]) >>=fun o=>
 ky o.2.2 >>=fun r_15=>
 some (r_15,o.1,o.2.1)
 else none
  partial_fixpoint
def np(x_:ae×ab×Int×List ae×Int):Option (List UInt8×List ae×Int):=
 match x_ with
 | (x0,v,level,b,b_1)=>
 fY (level,x0.Members,(x0.Members.length:Int),0,b,b_1,ab.eta v,[]) >>=fun o=>
 fW (o.2.2.1.Rest,(o.2.2.1.Rest.length:Int),0,o.1,o.2.1,o.2.2.2) >>=fun o_1=>
 qd o_1.2.2 >>=fun r=>
 if(decide (r.length=o_1.2.2.length) && true)=true then
 fX ((r.length:Int),0,o_1.1,o_1.2.1,r,[]) >>=fun o_2=>
 ky o_2.2.2 >>=fun r_1=>
 some (r_1,o_2.1,o_2.2.1)
 else none
  partial_fixpoint
def kG(x_:ae×ab×Int×List ae×Int):Option (List UInt8×List ae×Int):=
 match x_ with
 | (x0,v,level,b,b_1)=>
 iI (wrp .u64 v.ID) >>=fun r=>
 cu (x0,v.ID) >>=fun r_1=>
 if(!r_1.2)=true then
 if inR 0 v.Rest.length=true then
 some (v.Rest.getD (0:Int).toNat az) >>=fun x0_1=>
 if decide (r.length+x0_1.Data.length<=aX)=true then
 some (r++x0_1.Data,b,b_1)
 else none
 else none
 else
 if inR r_1.1 x0.Members.length=true then
 if inR 0 v.Items.length=true then
 cO ((x0.Members.getD r_1.1.toNat aj).Type_,ab.eta (v.Items.getD (0:Int).toNat af),addI .i64 level 1,b,b_1) >>=fun r_4=>
 if decide (r.length+r_4.1.length<=aX)=true then
 some (r++r_4.1,r_4.2.1,r_4.2.2)
 else none
 else none
 else none
  partial_fixpoint
def cY(x_:Int×List ab×Int×Int×List ae×Int×ab×ae×List UInt8):Option (List ae×Int×List UInt8):=
 match x_ with
 | (level_1,t84,t85_1,t86,b_5,b_6,b_7,b_8,b_9)=>
 if decide (t86 < t85_1)=true then
 if inR t86 t84.length=true then
 some (t84.getD t86.toNat af) >>=fun x0_2=>
 if decide (b_8.Kind=8)=true then
 if inR t86 b_7.Keys.length=true then
 cO (b_8.Key,ab.eta (b_7.Keys.getD t86.toNat af),addI .i64 level_1 1,b_5,b_6) >>=fun r_16=>
 gq r_16.1 >>=fun r_20=>
 gO (r_20,b_9) >>=fun r_21=>
 cO (b_8.Elem,ab.eta x0_2,addI .i64 level_1 1,r_16.2.1,r_16.2.2) >>=fun r_24=>
 gq r_24.1 >>=fun r_28=>
 gO (r_28,r_21.2) >>=fun r_29=>
 cY (level_1,t84,t85_1,addI .i64 t86 1,r_24.2.1,r_24.2.2,ab.eta b_7,b_8,r_29.2)
 else none
 else
 cO (b_8.Elem,ab.eta x0_2,addI .i64 level_1 1,b_5,b_6) >>=fun r_32=>
 gq r_32.1 >>=fun r_36=>
 gO (r_36,b_9) >>=fun r_37=>
 cY (level_1,t84,t85_1,addI .i64 t86 1,r_32.2.1,r_32.2.2,ab.eta b_7,b_8,r_37.2)
 else none
 else
 some (b_5,b_6,b_9)
  partial_fixpoint
def fY(x_:Int×List ap×Int×Int×List ae×Int×ab×List bl):Option (List ae×Int×ab×List bl):=
 match x_ with
 | (level_1,t18,t19_1,t20,b_12,b_13,b_14,b_15)=>
 if decide (t20 < t19_1)=true then
 if inR t20 t18.length=true then
 some (t18.getD t20.toNat aj) >>=fun x0_1=>
 if inR t20 b_14.Items.length=true then
 nM ((⟨x0_1.ID,x0_1.Name,x0_1.Type_,x0_1.Critical,x0_1.HasDefault,ab.eta x0_1.Default⟩:ap),ab.eta (b_14.Items.getD t20.toNat af)) >>=fun r_2=>
 if(!r_2)=true then
 if inR t20 b_14.Items.length=true then
 cO (x0_1.Type_,ab.eta (b_14.Items.getD t20.toNat af),addI .i64 level_1 1,b_12,b_13) >>=fun r_3=>
 lN (x0_1.ID,x0_1.Critical,r_3.1) >>=fun r_7=>
 some [(⟨x0_1.ID,r_7⟩:bl)] >>=fun t53=>
 if room 24 (b_15++t53).length=true then
 fY (level_1,t18,t19_1,addI .i64 t20 1,r_3.2.1,r_3.2.2,ab.eta b_14,b_15++t53)
 else none
 else none
 else
 fY (level_1,t18,t19_1,addI .i64 t20 1,b_12,b_13,ab.eta b_14,b_15)
 else none
 else none
 else
 some (b_12,b_13,ab.eta b_14,b_15)
  partial_fixpoint
end
theorem e82_k :KC e82:= .m (by kernel_rfl)
theorem Bf :KC e135:= .m (by kernel_rfl)
theorem Bg :KC e134:= .m (by kernel_rfl)
theorem Cj :(∀h r,cO h=some r->FD e82 h r)/\(∀h r,cY h=some r->LD 82 1 [0] e82_0 h r)/\(∀h r,kG h=some r->FD e135 h r)/\(∀h r,np h=some r->FD e134 h r)/\(∀h r,fY h=some r->LD 134 1 [0] mT h r):=cO.mutual_partial_correctness (FD e82) (LD 82 1 [0] e82_0) (FD e135) (FD e134) (LD 134 1 [0] mT)
 (fun _ _ _ _ h0 h1 h2 h3 _ _ h=>FA e82 e82_k (.k tW (.k FS (.k (FH e134 Bg h3) (.k (FH e135 Bf h2) (.k (FH e82 e82_k h0) (.k tj .n)))))) (.k (LH e82_0 h1) .n) (.trans (by kernel_rfl) h))
 (fun _ _ h0 h1 _ _ h=>LA e82_0 h1 (.k (FH e82 e82_k h0) (.k uo (.k ti .n))) .n (.trans (by kernel_rfl) h))
 (fun _ h0 _ _ h=>FA e135 Bf (.k qN (.k lg (.k (FH e82 e82_k h0) .n))) .n (.trans (by kernel_rfl) h))
 (fun _ h4 _ _ h=>FA e134 Bg (.k qv (.k tj .n)) (.k (LH mT h4) (.k Ch (.k Ci .n))) (.trans (by kernel_rfl) h))
 (fun _ _ h0 h4 _ _ h=>LA mT h4 (.k Es (.k (FH e82 e82_k h0) (.k uq .n))) .n (.trans (by kernel_rfl) h))
theorem Cy :FC e82 cO:= .of e82_k Cj.1
def lC(x_:av×Int×ab):Option (List UInt8×Int):=
 match x_ with
 | (s,t,v)=>
 fh ((⟨s.Types⟩:av),t,ab.eta v) >>=fun r=>
 if(!(decide (r=0)))=true then
 some ([],r)
 else
 cO (t,ab.eta v,1,s.Types,0) >>=fun r_1=>
 if(bif decide (4096 < (r_1.1.length:Int))then true else decide (200 < r_1.2.2))=true then
 some ([],3)
 else
 some (r_1.1,0)
theorem EM :FC e49 lC:= .fn e49_k (.k Er (.k Cy .n)) .n fun _=>by kernel_rfl
def lD(x_:av×Int×List UInt8):Option (List UInt8×Int):=
 match x_ with
 | (s,t,m)=>
 nT (s,t,m) >>=fun r=>
 if(!(decide (r.2=0)))=true then
 some ([],r.2)
 else
 lC (s,t,ab.eta r.1) >>=fun r_3=>
 some (r_3.1,r_3.2)
theorem EN :FC e12 lD:= .fn e12_k (.k EF (.k EM .n)) .n fun _=>by kernel_rfl
end
section
open Go Go.Proofs.YtijpinendaoleaaGreat.Shv
open Tryz
set_option maxRecDepth 100000
def dn(t:ae):Option (ae):=
 if decide (t.Kind=1)=true then
 some (⟨t.Kind,[],0,0,0,[],[],0,0,false⟩:ae)
 else
 if decide (t.Kind=2)=true then
 some (⟨t.Kind,[],t.Low,t.High,0,[],[],0,0,false⟩:ae)
 else
 if decide (t.Kind=3)=true then
 some (⟨t.Kind,[],0,0,t.Max,[],[],0,0,false⟩:ae)
 else
 if decide (t.Kind=4)=true then
 some (⟨t.Kind,t.Name,0,0,0,t.Symbols,[],0,0,t.Open⟩:ae)
 else
 if decide (t.Kind=5)=true then
 some (⟨t.Kind,t.Name,0,0,0,[],t.Members,0,0,false⟩:ae)
 else
 if decide (t.Kind=6)=true then
 some (⟨t.Kind,t.Name,0,0,0,[],t.Members,0,0,t.Open⟩:ae)
 else
 if decide (t.Kind=7)=true then
 some (⟨t.Kind,[],0,0,t.Max,[],[],0,t.Elem,false⟩:ae)
 else
 if decide (t.Kind=8)=true then
 some (⟨t.Kind,[],0,0,t.Max,[],[],t.Key,t.Elem,false⟩:ae)
 else
 some (⟨t.Kind,[],0,0,0,[],[],0,t.Elem,false⟩:ae)
theorem M1 :KC e115:= .m (by kernel_rfl)
theorem Dx :FC e115 dn:= .fn M1 .n .n fun _=>by kernel_rfl
def eE(x_:Int×ab×ab):Option ((Bool) ⊕ (ab×ab)):=
 match x_ with
 | (i,b_3,b_4)=>
 if decide (i < (b_3.Rest.length:Int))=true then
 if inR i b_3.Rest.length=true then
 some (b_3.Rest.getD i.toNat az) >>=fun x0=>
 if inR i b_4.Rest.length=true then
 some (b_4.Rest.getD i.toNat az) >>=fun x0_1=>
 if(!(eqI x0.ID x0_1.ID && (eqS x0.Data x0_1.Data && true)))=true then
 some (.inl false)
 else
 eE (addI .i64 i 1,ab.eta b_3,ab.eta b_4)
 else none
 else none
 else
 some (.inr (ab.eta b_3,ab.eta b_4))
  partial_fixpoint
theorem Cb :LC 65 0 [0] e65_0 eE:= .rc eE.partial_correctness .n .n fun _ _=>by kernel_rfl
mutual
def cq(x_:ab×ab):Option (Bool):=
 match x_ with
 | (a,b)=>
 if(bif bif bif bif bif (!(decide (a.Kind=b.Kind)))then true else(!(eqB a.Bool_ b.Bool_))then true else(!(decide (a.Int_=b.Int_)))then true else(!(decide (a.Str=b.Str)))then true else(!(decide (a.ID=b.ID)))then true else(!(decide ((a.Rest.length:Int)=(b.Rest.length:Int)))))=true then
 some false
 else
 eE (0,(⟨a.Kind,a.Bool_,a.Int_,a.Str,a.ID,a.Keys,a.Items,a.Rest⟩:ab),(⟨b.Kind,b.Bool_,b.Int_,b.Str,b.ID,b.Keys,b.Items,b.Rest⟩:ab)) >>=fun o=>
 match o with
 | .inl o_1=>
 some o_1
 | .inr o_2=>
 kz (o_2.1.Keys,o_2.2.Keys) >>=fun r=>
 (if r=true then kz (o_2.1.Items,o_2.2.Items)else some false) >>=fun r_1=>
 some (bif r then r_1 else false)
  partial_fixpoint
def kz(x_:List ab×List ab):Option (Bool):=
 match x_ with
 | (a,b)=>
 if(!(decide ((a.length:Int)=(b.length:Int))))=true then
 some false
 else
 i8 (a,b,0) >>=fun o=>
 match o with
 | .inl o_1=>
 some o_1
 | .inr o_2=>
 some true
  partial_fixpoint
def i8(x_:List ab×List ab×Int):Option ((Bool) ⊕ (Unit)):=
 match x_ with
 | (a_1,b_1,i)=>
 if decide (i < (a_1.length:Int))=true then
 if inR i a_1.length=true then
 if inR i b_1.length=true then
 cq (ab.eta (a_1.getD i.toNat af),ab.eta (b_1.getD i.toNat af)) >>=fun r=>
 if(!r)=true then
 some (.inl false)
 else
 i8 (a_1,b_1,addI .i64 i 1)
 else none
 else none
 else
 some (.inr ())
  partial_fixpoint
end
theorem e65_k :KC e65:= .m (by kernel_rfl)
theorem Bh :KC e105:= .m (by kernel_rfl)
theorem Ck :(∀h r,cq h=some r->FD e65 h r)/\(∀h r,kz h=some r->FD e105 h r)/\(∀h r,i8 h=some r->LD 105 0 [0] mU h r):=cq.mutual_partial_correctness (FD e65) (FD e105) (LD 105 0 [0] mU)
 (fun _ h1 _ _ h=>FA e65 e65_k (.k (FH e105 Bh h1) .n) (.k Cb .n) (.trans (by kernel_rfl) h))
 (fun _ h2 _ _ h=>FA e105 Bh .n (.k (LH mU h2) .n) (.trans (by kernel_rfl) h))
 (fun _ _ h0 h2 _ _ h=>LA mU h2 (.k (FH e65 e65_k h0) .n) .n (.trans (by kernel_rfl) h))
theorem nl :FC e65 cq:= .of e65_k Ck.1
def kA(x_:ap×ap):Option (Bool):=
 match x_ with
 | (a,b)=>
 some (bif bif bif bif decide (a.ID=b.ID)then decide (a.Name=b.Name)else false then decide (a.Type_=b.Type_)else false then eqB a.Critical b.Critical else false then eqB a.HasDefault b.HasDefault else false) >>=fun t37=>
 (if t37=true then cq ((⟨a.Default.Kind,a.Default.Bool_,a.Default.Int_,a.Default.Str,a.Default.ID,a.Default.Keys,a.Default.Items,a.Default.Rest⟩:ab),(⟨b.Default.Kind,b.Default.Bool_,b.Default.Int_,b.Default.Str,b.Default.ID,b.Default.Keys,b.Default.Items,b.Default.Rest⟩:ab))else some false) >>=fun r=>
 some (bif t37 then r else false)
theorem M2 :KC e152:= .m (by kernel_rfl)
theorem Cp :FC e152 kA:= .fn M2 (.k nl .n) .n fun _=>by kernel_rfl
def eG(x_:Int×ae×ae):Option ((Bool) ⊕ (ae×ae)):=
 match x_ with
 | (i,b_3,b_4)=>
 if decide (i < (b_3.Symbols.length:Int))=true then
 if inR i b_3.Symbols.length=true then
 some (b_3.Symbols.getD i.toNat aQ) >>=fun x0=>
 if inR i b_4.Symbols.length=true then
 some (b_4.Symbols.getD i.toNat aQ) >>=fun x0_1=>
 if(!(eqI x0.ID x0_1.ID && (eqS x0.Name x0_1.Name && true)))=true then
 some (.inl false)
 else
 eG (addI .i64 i 1,b_3,b_4)
 else none
 else none
 else
 some (.inr (b_3,b_4))
  partial_fixpoint
theorem Cl :LC 114 0 [0] AT eG:= .rc eG.partial_correctness .n .n fun _ _=>by kernel_rfl
def eH(x_:Int×ae×ae):Option ((Bool) ⊕ (Unit)):=
 match x_ with
 | (i_1,b_5,b_6)=>
 if decide (i_1 < (b_5.Members.length:Int))=true then
 if inR i_1 b_5.Members.length=true then
 some (b_5.Members.getD i_1.toNat aj) >>=fun x0_2=>
 if inR i_1 b_6.Members.length=true then
 some (b_6.Members.getD i_1.toNat aj) >>=fun x0_3=>
 kA ((⟨x0_2.ID,x0_2.Name,x0_2.Type_,x0_2.Critical,x0_2.HasDefault,ab.eta x0_2.Default⟩:ap),(⟨x0_3.ID,x0_3.Name,x0_3.Type_,x0_3.Critical,x0_3.HasDefault,ab.eta x0_3.Default⟩:ap)) >>=fun r=>
 if(!r)=true then
 some (.inl false)
 else
 eH (addI .i64 i_1 1,b_5,b_6)
 else none
 else none
 else
 some (.inr ())
  partial_fixpoint
theorem Cm :LC 114 0 [1] AU eH:= .rc eH.partial_correctness (.k Cp .n) .n fun _ _=>by kernel_rfl
def nq(x_:ae×ae):Option (Bool):=
 match x_ with
 | (a,b)=>
 if(bif bif bif bif bif bif bif bif bif (!(decide (a.Kind=b.Kind)))then true else(!(decide (a.Name=b.Name)))then true else(!(decide (a.Low=b.Low)))then true else(!(decide (a.High=b.High)))then true else(!(decide (a.Max=b.Max)))then true else(!(decide (a.Key=b.Key)))then true else(!(decide (a.Elem=b.Elem)))then true else(!(eqB a.Open b.Open))then true else(!(decide ((a.Symbols.length:Int)=(b.Symbols.length:Int))))then true else(!(decide ((a.Members.length:Int)=(b.Members.length:Int)))))=true then
 some false
 else
 eG (0,(⟨a.Kind,a.Name,a.Low,a.High,a.Max,a.Symbols,a.Members,a.Key,a.Elem,a.Open⟩:ae),(⟨b.Kind,b.Name,b.Low,b.High,b.Max,b.Symbols,b.Members,b.Key,b.Elem,b.Open⟩:ae)) >>=fun o=>
 match o with
 | .inl o_1=>
 some o_1
 | .inr o_2=>
 eH (0,o_2.1,o_2.2) >>=fun o_3=>
 match o_3 with
 | .inl o_4=>
 some o_4
 | .inr o_5=>
 some true
theorem M3 :KC e114:= .m (by kernel_rfl)
theorem CL :FC e114 nq:= .fn M3 .n (.k Cl (.k Cm .n)) fun _=>by kernel_rfl
def kO(b:Int):Option (Bool):=
 some (bif bif bif decide (97<=b)then decide (b<=122)else false then true else bif decide (65<=b)then decide (b<=90)else false then true else decide (b=95))
theorem M4 :KC e153:= .m (by kernel_rfl)
theorem tp :FC e153 kO:= .fn M4 .n .n fun _=>by kernel_rfl
def nD(b:Int):Option (Bool):=
 some (bif decide (48<=b)then decide (b<=57)else false)
theorem M5 :KC e154:= .m (by kernel_rfl)
theorem Dy :FC e154 nD:= .fn M5 .n .n fun _=>by kernel_rfl
def eP(x_:List UInt8×Int):Option ((Bool) ⊕ (Unit)):=
 match x_ with
 | (s_1,i)=>
 if decide (i < (s_1.length:Int))=true then
 if inR i s_1.length=true then
 kO (bf s_1 i) >>=fun r_1=>
 some (!r_1) >>=fun t27=>
 if(inR i s_1.length || (!t27))=true then
 (if t27=true then nD (bf s_1 i)else some false) >>=fun r_2=>
 if(bif t27 then(!r_2)else false)=true then
 some (.inl false)
 else
 eP (s_1,addI .i64 i 1)
 else none
 else none
 else
 some (.inr ())
  partial_fixpoint
theorem Cz :LC 116 0 [0] AV eP:= .rc eP.partial_correctness (.k tp (.k Dy .n)) .n fun _ _=>by kernel_rfl
def g9(s:List UInt8):Option (Bool):=
 some (bif decide (s=[])then true else decide (24 < (s.length:Int))) >>=fun t10=>
 if(inR 0 s.length || (!(!t10)))=true then
 (if(!t10)=true then kO (bf s 0)else some false) >>=fun r=>
 if(bif t10 then true else(!r))=true then
 some false
 else
 eP (s,0) >>=fun o=>
 match o with
 | .inl o_1=>
 some o_1
 | .inr o_2=>
 some true
 else none
theorem M6 :KC e116:= .m (by kernel_rfl)
theorem p5 :FC e116 g9:= .fn M6 (.k tp .n) (.k Cz .n) fun _=>by kernel_rfl
def lw(x_:Int×Int):Option (Bool):=
 match x_ with
 | (before,n)=>
 some (bif bif decide (before < n)then decide (1<=n)else false then decide (n<=1000)else false)
theorem M7 :KC e155:= .m (by kernel_rfl)
theorem tQ :FC e155 lw:= .fn M7 .n .n fun _=>by kernel_rfl
def dD(x_:List aL×Int×Int):Option ((Bool) ⊕ (List aL×Int)):=
 match x_ with
 | (l_4,i_2,k)=>
 if decide (k < i_2)=true then
 if inR k l_4.length=true then
 if inR i_2 l_4.length=true then
 if decide ((l_4.getD k.toNat aQ).Name=(l_4.getD i_2.toNat aQ).Name)=true then
 some (.inl false)
 else
 dD (l_4,i_2,addI .i64 k 1)
 else none
 else none
 else
 some (.inr (l_4,i_2))
  partial_fixpoint
theorem Cc :LC 117 0 [0,0] yl dD:= .rc dD.partial_correctness .n .n fun _ _=>by kernel_rfl
def eK(x_:List aL×Int×Int):Option ((Bool) ⊕ (List aL)):=
 match x_ with
 | (l_2,before,i)=>
 if decide (i < (l_2.length:Int))=true then
 if inR i l_2.length=true then
 lw (before,(l_2.getD i.toNat aQ).ID) >>=fun r=>
 some (!r) >>=fun t19=>
 if(inR i l_2.length || (!(!t19)))=true then
 (if(!t19)=true then g9 (l_2.getD i.toNat aQ).Name else some false) >>=fun r_1=>
 if(bif t19 then true else(!r_1))=true then
 some (.inl false)
 else
 dD (l_2,i,0) >>=fun o_3=>
 match o_3 with
 | .inl o_4=>
 some (.inl o_4)
 | .inr o_5=>
 if inR o_5.2 o_5.1.length=true then
 eK (o_5.1,(o_5.1.getD o_5.2.toNat aQ).ID,addI .i64 o_5.2 1)
 else none
 else none
 else none
 else
 some (.inr l_2)
  partial_fixpoint
theorem Cq :LC 117 0 [0] AX eK:= .rc eK.partial_correctness (.k tQ (.k p5 .n)) (.k Cc .n) fun _ _=>by kernel_rfl
def kH(l:List aL):Option (Bool):=
 eK (l,0,0) >>=fun o=>
 match o with
 | .inl o_1=>
 some o_1
 | .inr o_2=>
 some (bif decide (1<=(o_2.length:Int))then decide ((o_2.length:Int)<=16)else false)
theorem M8 :KC e117:= .m (by kernel_rfl)
theorem CX :FC e117 kH:= .fn M8 .n (.k Cq .n) fun _=>by kernel_rfl
def dE(x_:List ap×Bool×Int×Int×ap):Option ((Bool) ⊕ (List ap×Bool×Int×ap)):=
 match x_ with
 | (l_4,record_4,i_2,k,b_1)=>
 if decide (k < i_2)=true then
 if inR k l_4.length=true then
 if decide ((l_4.getD k.toNat aj).Name=b_1.Name)=true then
 some (.inl false)
 else
 dE (l_4,record_4,i_2,addI .i64 k 1,(⟨b_1.ID,b_1.Name,b_1.Type_,b_1.Critical,b_1.HasDefault,ab.eta b_1.Default⟩:ap))
 else none
 else
 some (.inr (l_4,record_4,i_2,(⟨b_1.ID,b_1.Name,b_1.Type_,b_1.Critical,b_1.HasDefault,ab.eta b_1.Default⟩:ap)))
  partial_fixpoint
theorem Cd :LC 118 0 [0,0] ym dE:= .rc dE.partial_correctness .n .n fun _ _=>by kernel_rfl
def eL(x_:List ap×Bool×Int×Int):Option ((Bool) ⊕ (List ap×Bool)):=
 match x_ with
 | (l_2,record_2,before,i)=>
 if decide (i < (l_2.length:Int))=true then
 if inR i l_2.length=true then
 some (l_2.getD i.toNat aj) >>=fun x0=>
 lw (before,x0.ID) >>=fun r=>
 some (!r) >>=fun t23=>
 (if(!t23)=true then g9 x0.Name else some false) >>=fun r_1=>
 if(bif bif bif t23 then true else(!r_1)then true else bif x0.Critical then x0.HasDefault else false then true else bif (!record_2)then bif x0.Critical then true else x0.HasDefault else false)=true then
 some (.inl false)
 else
 some (!x0.HasDefault) >>=fun t52=>
 (if t52=true then cq (ab.eta x0.Default,(⟨0,false,0,[],0,[],[],[]⟩:ab))else some false) >>=fun r_2=>
 if(bif t52 then(!r_2)else false)=true then
 some (.inl false)
 else
 dE (l_2,record_2,i,0,(⟨x0.ID,x0.Name,x0.Type_,x0.Critical,x0.HasDefault,ab.eta x0.Default⟩:ap)) >>=fun o_3=>
 match o_3 with
 | .inl o_4=>
 some (.inl o_4)
 | .inr o_5=>
 eL (o_5.1,o_5.2.1,o_5.2.2.2.ID,addI .i64 o_5.2.2.1 1)
 else none
 else
 some (.inr (l_2,record_2))
  partial_fixpoint
theorem Cr :LC 118 0 [0] AY eL:= .rc eL.partial_correctness (.k tQ (.k p5 (.k nl .n))) (.k Cd .n) fun _ _=>by kernel_rfl
def i9(x_:List ap×Bool):Option (Bool):=
 match x_ with
 | (l,record)=>
 eL (l,record,0,0) >>=fun o=>
 match o with
 | .inl o_1=>
 some o_1
 | .inr o_2=>
 some (bif decide ((o_2.1.length:Int)<=16)then bif o_2.2 then true else decide (1<=(o_2.1.length:Int))else false)
theorem M9 :KC e118:= .m (by kernel_rfl)
theorem CY :FC e118 i9:= .fn M9 .n (.k Cr .n) fun _=>by kernel_rfl
def bD(t:ae):Option (Bool):=
 some (bif decide (t.Kind < 1)then true else decide (9 < t.Kind)) >>=fun t10=>
 (if(!t10)=true then dn t else some ag) >>=fun r=>
 (if(!t10)=true then nq (t,r)else some false) >>=fun r_1=>
 some (bif t10 then true else(!r_1)) >>=fun t17=>
 (if(!t17)=true then ct t.Kind else some false) >>=fun r_2=>
 (if((!t17) && r_2)=true then g9 t.Name else some false) >>=fun r_3=>
 if(bif t17 then true else bif r_2 then(!r_3)else false)=true then
 some false
 else
 if decide (t.Kind=2)=true then
 some (decide (t.Low<=t.High))
 else
 if decide (t.Kind=3)=true then
 some (bif decide (0<=t.Max)then decide (t.Max<=200)else false)
 else
 if decide (t.Kind=4)=true then
 kH t.Symbols >>=fun r_4=>
 some r_4
 else
 some (decide (t.Kind=5)) >>=fun t54=>
 if t54=true then
 if t54=true then
 i9 (t.Members,decide (t.Kind=5)) >>=fun r_5=>
 some r_5
 else
 some (decide (t.Kind=7)) >>=fun t63=>
 if t63=true then
 if t63=true then
 some (bif decide (0<=t.Max)then decide (t.Max<=50)else false)
 else
 some true
 else
 if decide (t.Kind=8)=true then
 some (bif decide (0<=t.Max)then decide (t.Max<=50)else false)
 else
 some true
 else
 if decide (t.Kind=6)=true then
 i9 (t.Members,decide (t.Kind=5)) >>=fun r_6=>
 some r_6
 else
 some (decide (t.Kind=7)) >>=fun t63_1=>
 if t63_1=true then
 if t63_1=true then
 some (bif decide (0<=t.Max)then decide (t.Max<=50)else false)
 else
 some true
 else
 if decide (t.Kind=8)=true then
 some (bif decide (0<=t.Max)then decide (t.Max<=50)else false)
 else
 some true
theorem e73_k :KC e73:= .m (by kernel_rfl)
theorem Ec :FC e73 bD:= .fn e73_k (.k Dx (.k CL (.k p6 (.k p5 (.k CX (.k CY .n)))))) .n fun _=>by kernel_rfl
def f8(x_:Int×ae×List Int):Option (ae×List Int):=
 match x_ with
 | (i,b_2,b_3)=>
 if decide (i < (b_2.Members.length:Int))=true then
 if inR i b_2.Members.length=true then
 some [(b_2.Members.getD i.toNat aj).Type_] >>=fun t19=>
 if room 8 (b_3++t19).length=true then
 f8 (addI .i64 i 1,b_2,b_3++t19)
 else none
 else none
 else
 some (b_2,b_3)
  partial_fixpoint
theorem CZ :LC 74 0 [0] e74_0 f8:= .rc f8.partial_correctness .n .n fun _ _=>by kernel_rfl
def nG(t:ae):Option (List Int):=
 f8 (0,t,[]) >>=fun o=>
 if decide (o.1.Kind=8)=true then
 some [o.1.Key] >>=fun t27=>
 if room 8 (o.2++t27).length=true then
 some (o.2++t27) >>=fun l=>
 if(bif bif decide (o.1.Kind=7)then true else decide (o.1.Kind=8)then true else decide (o.1.Kind=9))=true then
 some [o.1.Elem] >>=fun t45=>
 if room 8 (l++t45).length=true then
 some (l++t45)
 else none
 else
 some l
 else none
 else
 if(bif bif decide (o.1.Kind=7)then true else decide (o.1.Kind=8)then true else decide (o.1.Kind=9))=true then
 some [o.1.Elem] >>=fun t45_1=>
 if room 8 (o.2++t45_1).length=true then
 some (o.2++t45_1)
 else none
 else
 some o.2
theorem e74_k :KC e74:= .m (by kernel_rfl)
theorem DU :FC e74 nG:= .fn e74_k .n (.k CZ .n) fun _=>by kernel_rfl
def dF(x_:Int×Int×List ae×Int×List UInt8×Int×Int×Int×List aL×List ap×Int×Int×Bool):Option ((Int) ⊕ (Int×List ae×Int×List UInt8×Int×Int×Int×List aL×List ap×Int×Int×Bool)):=
 match x_ with
 | (i_3,k,b_23,b_24,b_25,b_26,b_27,b_28,b_29,b_30,b_31,b_32,b_33)=>
 if decide (k < i_3)=true then
 ct b_24 >>=fun r_3=>
 if(inR k b_23.length || (!r_3))=true then
 if(bif r_3 then decide ((b_23.getD k.toNat ag).Name=b_25)else false)=true then
 some (.inl 1)
 else
 dF (i_3,addI .i64 k 1,b_23,b_24,b_25,b_26,b_27,b_28,b_29,b_30,b_31,b_32,b_33)
 else none
 else
 some (.inr (i_3,b_23,b_24,b_25,b_26,b_27,b_28,b_29,b_30,b_31,b_32,b_33))
  partial_fixpoint
theorem Ct :LC 36 0 [0,0] zz dF:= .rc dF.partial_correctness (.k p6 .n) .n fun _ _=>by kernel_rfl
def f0(x_:Int×List Int×Int×List ae×Int×List UInt8×Int×Int×Int×List aL×List ap×Int×Int×Bool):Option ((Int) ⊕ (Int×List ae×Int×List UInt8×Int×Int×Int×List aL×List ap×Int×Int×Bool)):=
 match x_ with
 | (i_4,l,k_1,b_34,b_35,b_36,b_37,b_38,b_39,b_40,b_41,b_42,b_43,b_44)=>
 if decide (k_1 < (l.length:Int))=true then
 if inR k_1 l.length=true then
 some (decide (l.getD k_1.toNat 0 < 0)) >>=fun t58=>
 if(inR k_1 l.length || (!(!t58)))=true then
 if(bif t58 then true else decide ((b_34.length:Int)<=l.getD k_1.toNat 0))=true then
 some (.inl 4)
 else
 f0 (i_4,l,addI .i64 k_1 1,b_34,b_35,b_36,b_37,b_38,b_39,b_40,b_41,b_42,b_43,b_44)
 else none
 else none
 else
 some (.inr (i_4,b_34,b_35,b_36,b_37,b_38,b_39,b_40,b_41,b_42,b_43,b_44))
  partial_fixpoint
theorem Cu :LC 36 0 [1,0] zA f0:= .rc f0.partial_correctness .n .n fun _ _=>by kernel_rfl
def eS(x_:Int×List ae):Option ((Int) ⊕ (Unit)):=
 match x_ with
 | (i,b)=>
 if decide (i < (b.length:Int))=true then
 if inR i b.length=true then
 some (b.getD i.toNat ag) >>=fun x0=>
 bD x0 >>=fun r=>
 if(!r)=true then
 some (.inl 1)
 else
 dF (i,0,b,x0.Kind,x0.Name,x0.Low,x0.High,x0.Max,x0.Symbols,x0.Members,x0.Key,x0.Elem,x0.Open) >>=fun o_3=>
 match o_3 with
 | .inl o_4=>
 some (.inl o_4)
 | .inr o_5=>
 nG (⟨o_5.2.2.1,o_5.2.2.2.1,o_5.2.2.2.2.1,o_5.2.2.2.2.2.1,o_5.2.2.2.2.2.2.1,o_5.2.2.2.2.2.2.2.1,o_5.2.2.2.2.2.2.2.2.1,o_5.2.2.2.2.2.2.2.2.2.1,o_5.2.2.2.2.2.2.2.2.2.2.1,o_5.2.2.2.2.2.2.2.2.2.2.2⟩:ae) >>=fun r_1=>
 f0 (o_5.1,r_1,0,o_5.2.1,o_5.2.2.1,o_5.2.2.2.1,o_5.2.2.2.2.1,o_5.2.2.2.2.2.1,o_5.2.2.2.2.2.2.1,o_5.2.2.2.2.2.2.2.1,o_5.2.2.2.2.2.2.2.2.1,o_5.2.2.2.2.2.2.2.2.2.1,o_5.2.2.2.2.2.2.2.2.2.2.1,o_5.2.2.2.2.2.2.2.2.2.2.2) >>=fun o_6=>
 match o_6 with
 | .inl o_7=>
 some (.inl o_7)
 | .inr o_8=>
 some (decide (o_8.2.2.1=8)) >>=fun t71=>
 if(inR o_8.2.2.2.2.2.2.2.2.2.1 o_8.2.1.length || (!t71))=true then
 (if t71=true then kE (o_8.2.1.getD o_8.2.2.2.2.2.2.2.2.2.1.toNat ag).Kind else some false) >>=fun r_2=>
 if(bif t71 then(!r_2)else false)=true then
 some (.inl 1)
 else
 eS (addI .i64 o_8.1 1,o_8.2.1)
 else none
 else none
 else
 some (.inr ())
  partial_fixpoint
theorem CM :LC 36 0 [0] e36_0 eS:= .rc eS.partial_correctness (.k Ec (.k DU (.k tl .n))) (.k Ct (.k Cu .n)) fun _ _=>by kernel_rfl
def ie(s:av):Option (Int):=
 if decide (32 < (s.Types.length:Int))=true then
 some 3
 else
 eS (0,s.Types) >>=fun o=>
 match o with
 | .inl o_1=>
 some o_1
 | .inr o_2=>
 some 0
theorem e36_k :KC e36:= .m (by kernel_rfl)
theorem tu :FC e36 ie:= .fn e36_k .n (.k CM .n) fun _=>by kernel_rfl
def nE(x_:av×Int):Option (Int):=
 match x_ with
 | (s,t)=>
 ie s >>=fun r=>
 if(!(decide (r=0)))=true then
 some r
 else
 if(bif decide (t < 0)then true else decide ((s.Types.length:Int)<=t))=true then
 some 4
 else
 some 0
theorem Na :KC e140:= .m (by kernel_rfl)
theorem Dz :FC e140 nE:= .fn Na (.k tu .n) .n fun _=>by kernel_rfl
def bu(x_:List Int×Int):Option (aG):=
 match x_ with
 | (path,reason)=>
 if room 8 ([]++path).length=true then
 some (⟨(⟨0,false,0,[],0,[],[],[]⟩:ab),(⟨[]++path,reason⟩:bX),false⟩:aG)
 else none
theorem Nb :KC e141:= .m (by kernel_rfl)
theorem eT :FC e141 bu:= .fn Nb .n .n fun _=>by kernel_rfl
def eM(x_:List UInt8×Int×Int):Option (Int):=
 match x_ with
 | (s_1,n_1,i)=>
 if decide (i < (s_1.length:Int))=true then
 if inR i s_1.length=true then
 eM (s_1,addI .u64 (mulI .u64 n_1 256) (wrp .u64 (bf s_1 i)),addI .i64 i 1)
 else none
 else
 some n_1
  partial_fixpoint
theorem Cv :LC 119 0 [0] AZ eM:= .rc eM.partial_correctness .n .n fun _ _=>by kernel_rfl
def nv(s:List UInt8):Option (Int×Int):=
 some (decide (0 < (s.length:Int))) >>=fun t8=>
 if(inR 0 s.length || (!t8))=true then
 if(bif t8 then decide (bf s 0=0)else false)=true then
 some (0,2)
 else
 if decide (8 < (s.length:Int))=true then
 some (0,7)
 else
 eM (s,0,0) >>=fun o=>
 some (o,0)
 else none
theorem Nc :KC e119:= .m (by kernel_rfl)
theorem C0 :FC e119 nv:= .fn Nc .n (.k Cv .n) fun _=>by kernel_rfl
def kP(p:List UInt8):Option (Int×Bool):=
 nv p >>=fun r=>
 some (r.1,decide (r.2=0))
theorem Nf :KC e183:= .m (by kernel_rfl)
theorem De :FC e183 kP:= .fn Nf (.k C0 .n) .n fun _=>by kernel_rfl
def nr(n:Int):Option (Int):=
 if decide (remI n 2=0)=true then
 some (wrp .i64 (quoI .u64 n 2))
 else
 some (subI .i64 (subI .i64 0 (wrp .i64 (quoI .u64 n 2))) 1)
theorem Ng :KC e120:= .m (by kernel_rfl)
theorem CN :FC e120 nr:= .fn Ng .n .n fun _=>by kernel_rfl
def dH(x_:Int×Int×ae):Option ((Int×Bool) ⊕ (Unit)):=
 match x_ with
 | (id_1,i,b)=>
 if decide (i < (b.Symbols.length:Int))=true then
 if inR i b.Symbols.length=true then
 if decide ((b.Symbols.getD i.toNat aQ).ID=id_1)=true then
 some (.inl (i,true))
 else
 dH (id_1,addI .i64 i 1,b)
 else none
 else
 some (.inr ())
  partial_fixpoint
theorem CB :LC 92 0 [0] e92_0 dH:= .rc dH.partial_correctness .n .n fun _ _=>by kernel_rfl
def kQ(x_:ae×Int):Option (Int×Bool):=
 match x_ with
 | (t,id)=>
 dH (id,0,t) >>=fun o=>
 match o with
 | .inl o_1=>
 some (o_1.1,o_1.2)
 | .inr o_2=>
 some (0,false)
theorem e92_k :KC e92:= .m (by kernel_rfl)
theorem tq :FC e92 kQ:= .fn e92_k .n (.k CB .n) fun _=>by kernel_rfl
def cZ(x_:List Int×Int):Option (List Int):=
 match x_ with
 | (path,step)=>
 if room 8 ([]++path).length=true then
 some ([]++path) >>=fun l=>
 some [step] >>=fun t9=>
 if room 8 (l++t9).length=true then
 some (l++t9)
 else none
 else none
theorem Nh :KC e184:= .m (by kernel_rfl)
theorem ik :FC e184 cZ:= .fn Nh .n .n fun _=>by kernel_rfl
def hU(x_:List UInt8×Int×Int×Int):Option ((Int×Int×Int) ⊕ (Unit)):=
 match x_ with
 | (s_1,n,unit,i)=>
 if decide (i < 10)=true then
 if decide (i=(s_1.length:Int))=true then
 some (.inl (0,0,10))
 else
 if inR i s_1.length=true then
 some (wrp .u64 (bf s_1 i)) >>=fun t20=>
 if(bif decide (i=9)then decide (1 < t20)else false)=true then
 some (.inl (0,0,7))
 else
 some (addI .u64 n (mulI .u64 (remI t20 128) unit)) >>=fun t32=>
 if decide (t20 < 128)=true then
 if(bif decide (t20=0)then decide (0 < i)else false)=true then
 some (.inl (0,0,2))
 else
 some (.inl (t32,addI .i64 i 1,0))
 else
 hU (s_1,t32,mulI .u64 unit 128,addI .i64 i 1)
 else none
 else
 some (.inr ())
  partial_fixpoint
theorem Df :LC 156 0 [0] A0 hU:= .rc hU.partial_correctness .n .n fun _ _=>by kernel_rfl
def jl(s:List UInt8):Option (Int×Int×Int):=
 hU (s,0,1,0) >>=fun o=>
 match o with
 | .inl o_1=>
 some (o_1.1,o_1.2.1,o_1.2.2)
 | .inr o_2=>
 some (0,0,7)
theorem Ni :KC e156:= .m (by kernel_rfl)
theorem qf :FC e156 jl:= .fn Ni .n (.k Df .n) fun _=>by kernel_rfl
def lh(payload:List UInt8):Option (Int×List UInt8×Int):=
 jl payload >>=fun r=>
 if(bif bif (!(decide (r.2.2=0)))then true else decide (r.1 < 1)then true else decide (1000 < r.1))=true then
 some (0,[],12)
 else
 if slR r.2.1 (payload.length:Int) payload.length=true then
 some (wrp .i64 r.1,cutL payload r.2.1 (payload.length:Int),0)
 else none
theorem Nj :KC e121:= .m (by kernel_rfl)
theorem Ed :FC e121 lh:= .fn Nj (.k qf .n) .n fun _=>by kernel_rfl
def eQ(x_:Int×Int×ae):Option ((Int×Bool) ⊕ (Unit)):=
 match x_ with
 | (id_1,i,b)=>
 if decide (i < (b.Members.length:Int))=true then
 if inR i b.Members.length=true then
 if decide ((b.Members.getD i.toNat aj).ID=id_1)=true then
 some (.inl (i,true))
 else
 eQ (id_1,addI .i64 i 1,b)
 else none
 else
 some (.inr ())
  partial_fixpoint
theorem CE :LC 91 0 [0] e91_0 eQ:= .rc eQ.partial_correctness .n .n fun _ _=>by kernel_rfl
def cj(x_:ae×Int):Option (Int×Bool):=
 match x_ with
 | (t,id)=>
 eQ (id,0,t) >>=fun o=>
 match o with
 | .inl o_1=>
 some (o_1.1,o_1.2)
 | .inr o_2=>
 some (0,false)
theorem e91_k :KC e91:= .m (by kernel_rfl)
theorem gW :FC e91 cj:= .fn e91_k .n (.k CE .n) fun _=>by kernel_rfl
def dK(v:ab):Option (aG):=
 some (⟨ab.eta v,(⟨[],0⟩:bX),true⟩:aG)
theorem Nk :KC e189:= .m (by kernel_rfl)
theorem kR :FC e189 dK:= .fn Nk .n .n fun _=>by kernel_rfl
def li(s:List UInt8):Option (List UInt8×List UInt8×Bool):=
 jl s >>=fun r=>
 if(bif (!(decide (r.2.2=0)))then true else decide (wrp .u64 (subI .i64 (s.length:Int) r.2.1) < r.1))=true then
 some ([],[],false)
 else
 some (addI .i64 r.2.1 (wrp .i64 r.1)) >>=fun t30=>
 if slR r.2.1 t30 s.length=true then
 some (addI .i64 r.2.1 (wrp .i64 r.1)) >>=fun t36=>
 if slR t36 (s.length:Int) s.length=true then
 some (cutL s r.2.1 t30,cutL s t36 (s.length:Int),true)
 else none
 else none
theorem Nl :KC e157:= .m (by kernel_rfl)
theorem tH :FC e157 li:= .fn Nl (.k qf .n) .n fun _=>by kernel_rfl
def gX(x_:List UInt8×List (List UInt8)):Option ((Int) ⊕ (List (List UInt8))):=
 match x_ with
 | (payload_1,b_1)=>
 if(!(decide (payload_1=[])))=true then
 li payload_1 >>=fun r=>
 if(!r.2.2)=true then
 some (.inl 12)
 else
 some [r.1] >>=fun t20=>
 if room 16 (b_1++t20).length=true then
 gX (r.2.1,b_1++t20)
 else none
 else
 some (.inr b_1)
  partial_fixpoint
theorem CO :LC 122 0 [0] A3 gX:= .rc gX.partial_correctness (.k tH .n) .n fun _ _=>by kernel_rfl
def jh(payload:List UInt8):Option (List (List UInt8)×Int):=
 gX (payload,[]) >>=fun o=>
 match o with
 | .inl o_1=>
 some ([],o_1)
 | .inr o_2=>
 some (o_2,0)
theorem Nn :KC e122:= .m (by kernel_rfl)
theorem tv :FC e122 jh:= .fn Nn .n (.k CO .n) fun _=>by kernel_rfl
def je(n:Int):Option (Int):=
 if decide (0<=n)=true then
 some (mulI .u64 2 (wrp .u64 n))
 else
 some (addI .u64 (mulI .u64 2 (wrp .u64 (subI .i64 0 (addI .i64 n 1)))) 1)
theorem e99_k :KC e99:= .m (by kernel_rfl)
theorem tr :FC e99 je:= .fn e99_k .n .n fun _=>by kernel_rfl
def bU(x_:Bool×Bool):Option (Int):=
 match x_ with
 | (less,equal)=>
 if equal=true then
 some 0
 else
 if less=true then
 some (-1)
 else
 some 1
theorem No :KC e146:= .m (by kernel_rfl)
theorem DC :FC e146 bU:= .fn No .n .n fun _=>by kernel_rfl
def eW(x_:ab×ab):Option (Int):=
 match x_ with
 | (a,b)=>
 if(!(decide (a.Kind=b.Kind)))=true then
 some 0
 else
 if decide (a.Kind=1)=true then
 bU (b.Bool_,eqB a.Bool_ b.Bool_) >>=fun r=>
 some r
 else
 if decide (a.Kind=2)=true then
 je a.Int_ >>=fun r_1=>
 je b.Int_ >>=fun r_2=>
 bU (decide (r_1 < r_2),decide (a.Int_=b.Int_)) >>=fun r_3=>
 some r_3
 else
 if decide (a.Kind=3)=true then
 if(!(decide ((a.Str.length:Int)=(b.Str.length:Int))))=true then
 bU (decide ((a.Str.length:Int) < (b.Str.length:Int)),false) >>=fun r_4=>
 some r_4
 else
 bU (Op.bytesLess a.Str b.Str,decide (a.Str=b.Str)) >>=fun r_5=>
 some r_5
 else
 if decide (a.Kind=4)=true then
 bU (decide (a.ID < b.ID),decide (a.ID=b.ID)) >>=fun r_6=>
 some r_6
 else
 some 0
theorem e97_k :KC e97:= .m (by kernel_rfl)
theorem tm :FC e97 eW:= .fn e97_k (.k DC (.k tr .n)) .n fun _=>by kernel_rfl
def fU(x_:Int×List Int×List (List UInt8)×Int×List ae×ae×Int×Bool×Int×List UInt8×Int×Int×Bool×Int×Bool×Int×List UInt8×Int×List ab):Option ((aG) ⊕ (Int×List Int×List (List UInt8)×List ae×ae×Int×Bool×Int×List UInt8×Int×Int×Bool×Int×Bool×Int×List UInt8×Int×List ab)):=
 match x_ with
 | (level_4,path_4,l_4,i_1,b_62,b_63,b_64,b_65,b_66,b_67,b_68,b_69,b_70,b_71,b_72,b_73,b_74,b_75,b_76)=>
 if decide (i_1 < (b_76.length:Int))=true then
 some (subI .i64 i_1 1) >>=fun t87=>
 if inR t87 b_76.length=true then
 if decide (t87.toNat < b_76.length)=true then
 if inR i_1 b_76.length=true then
 if decide (i_1.toNat < b_76.length)=true then
 eW (ab.eta (b_76.getD t87.toNat af),ab.eta (b_76.getD i_1.toNat af)) >>=fun r_8=>
 if decide (0<=r_8)=true then
 bu (path_4,1) >>=fun r_9=>
 some (.inl (⟨ab.eta r_9.Value,r_9.Failure,r_9.OK⟩:aG))
 else
 fU (level_4,path_4,l_4,addI .i64 i_1 1,b_62,b_63,b_64,b_65,b_66,b_67,b_68,b_69,b_70,b_71,b_72,b_73,b_74,b_75,b_76)
 else none
 else none
 else none
 else none
 else
 some (.inr (level_4,path_4,l_4,b_62,b_63,b_64,b_65,b_66,b_67,b_68,b_69,b_70,b_71,b_72,b_73,b_74,b_75,b_76))
  partial_fixpoint
theorem B9 :LC 187 0 [1] A4 fU:= .rc fU.partial_correctness (.k tm (.k eT .n)) .n fun _ _=>by kernel_rfl
def f4(x_:List UInt8×Int×List aM):Option ((Int) ⊕ (List aM)):=
 match x_ with
 | (payload_1,before,b_1)=>
 if(!(decide (payload_1=[])))=true then
 jl payload_1 >>=fun r=>
 if(bif bif (!(decide (r.2.2=0)))then true else decide (2001 < r.1)then true else decide (wrp .i64 (quoI .u64 r.1 2)<=before))=true then
 some (.inl 12)
 else
 if slR r.2.1 (payload_1.length:Int) payload_1.length=true then
 li (cutL payload_1 r.2.1 (payload_1.length:Int)) >>=fun r_4=>
 if(!r_4.2.2)=true then
 some (.inl 12)
 else
 some (wrp .i64 (quoI .u64 r.1 2)) >>=fun t45=>
 some [(⟨t45,decide (remI r.1 2=1),r_4.1⟩:aM)] >>=fun t54=>
 if room 32 (b_1++t54).length=true then
 f4 (r_4.2.1,t45,b_1++t54)
 else none
 else none
 else
 some (.inr b_1)
  partial_fixpoint
theorem CF :LC 124 0 [0] A5 f4:= .rc f4.partial_correctness (.k qf (.k tH .n)) .n fun _ _=>by kernel_rfl
def kS(payload:List UInt8):Option (List aM×Int):=
 f4 (payload,0,[]) >>=fun o=>
 match o with
 | .inl o_1=>
 some ([],o_1)
 | .inr o_2=>
 some (o_2,0)
theorem Np :KC e124:= .m (by kernel_rfl)
theorem Dg :FC e124 kS:= .fn Np .n (.k CF .n) fun _=>by kernel_rfl
def eU(x_:List aM×Int×Int):Option ((Int) ⊕ (Unit)):=
 match x_ with
 | (l_1,id_1,i)=>
 if decide (i < (l_1.length:Int))=true then
 if inR i l_1.length=true then
 if decide ((l_1.getD i.toNat bj).ID=id_1)=true then
 some (.inl i)
 else
 eU (l_1,id_1,addI .i64 i 1)
 else none
 else
 some (.inr ())
  partial_fixpoint
theorem CP :LC 213 0 [0] A6 eU:= .rc eU.partial_correctness .n .n fun _ _=>by kernel_rfl
def kX(x_:List aM×Int):Option (Int):=
 match x_ with
 | (l,id)=>
 eU (l,id,0) >>=fun o=>
 match o with
 | .inl o_1=>
 some o_1
 | .inr o_2=>
 some (-1)
theorem Nq :KC e213:= .m (by kernel_rfl)
theorem DD :FC e213 kX:= .fn Nq .n (.k CP .n) fun _=>by kernel_rfl
def eR(x_:List Int×List aM×Int×ae×Int×Bool×Int×List UInt8×Int×Int×Bool×Int×Bool×Int×List UInt8×Int×List ab×List aE):Option ((aG) ⊕ (Int×Bool×Int×List UInt8×Int×Int×Bool×Int×Bool×Int×List UInt8×Int×List ab×List aE)):=
 match x_ with
 | (path_3,l_4,k,b_45,b_46,b_47,b_48,b_49,b_50,b_51,b_52,b_53,b_54,b_55,b_56,b_57,b_58,b_59)=>
 if decide (k < (l_4.length:Int))=true then
 if inR k l_4.length=true then
 cj (b_45,(l_4.getD k.toNat bj).ID) >>=fun r_10=>
 if r_10.2=true then
 eR (path_3,l_4,addI .i64 k 1,b_45,b_46,b_47,b_48,b_49,b_50,b_51,b_52,b_53,b_54,b_55,b_56,b_57,b_58,b_59)
 else
 if inR k l_4.length=true then
 if(l_4.getD k.toNat bj).Critical=true then
 if inR k l_4.length=true then
 cZ (path_3,(l_4.getD k.toNat bj).ID) >>=fun r_13=>
 bu (r_13,6) >>=fun r_14=>
 some (.inl (⟨ab.eta r_14.Value,r_14.Failure,r_14.OK⟩:aG))
 else none
 else
 if inR k l_4.length=true then
 if inR k l_4.length=true then
 some [(⟨(l_4.getD k.toNat bj).ID,(l_4.getD k.toNat bj).Data⟩:aE)] >>=fun t135=>
 if room 24 (b_59++t135).length=true then
 eR (path_3,l_4,addI .i64 k 1,b_45,b_46,b_47,b_48,b_49,b_50,b_51,b_52,b_53,b_54,b_55,b_56,b_57,b_58,b_59++t135)
 else none
 else none
 else none
 else none
 else none
 else
 some (.inr (b_46,b_47,b_48,b_49,b_50,b_51,b_52,b_53,b_54,b_55,b_56,b_57,b_58,b_59))
  partial_fixpoint
theorem CG :LC 188 0 [1] A7 eR:= .rc eR.partial_correctness (.k gW (.k ik (.k eT .n))) .n fun _ _=>by kernel_rfl
mutual
def ci(x_:av×Int×List UInt8×Int×List Int):Option (aG):=
 match x_ with
 | (s,t,p,level,path)=>
 if inR t s.Types.length=true then
 some (s.Types.getD t.toNat ag) >>=fun x0=>
 if decide (200 < level)=true then
 bu (path,8) >>=fun r=>
 some (⟨ab.eta r.Value,r.Failure,r.OK⟩:aG)
 else
 let k_31:=fun z31_0=>
 let k_30:=fun z30_0=>
 let k_29:=fun z29_0=>
 let k_28:=fun z28_0=>
 let k_27:=fun z27_0=>
 if decide (x0.Kind=6)=true then
 nF (s,x0,p,level,path) >>=fun r_285=>
 some (⟨ab.eta r_285.Value,r_285.Failure,r_285.OK⟩:aG)
 else
 if decide (x0.Kind=7)=true then
 nH (s,x0,p,level,path) >>=fun r_286=>
 some (⟨ab.eta r_286.Value,r_286.Failure,r_286.OK⟩:aG)
 else
 if decide (x0.Kind=8)=true then
 nn (s,x0,p,level,path) >>=fun r_287=>
 some (⟨ab.eta r_287.Value,r_287.Failure,r_287.OK⟩:aG)
 else
 if decide (x0.Kind=5)=true then
 nA (s,x0,p,level,path) >>=fun r_288=>
 some (⟨ab.eta r_288.Value,r_288.Failure,r_288.OK⟩:aG)
 else
 dK (⟨x0.Kind,z31_0,z30_0,z29_0,z28_0,[],z27_0,[]⟩:ab) >>=fun r_289=>
 some (⟨ab.eta r_289.Value,r_289.Failure,r_289.OK⟩:aG)
 if(bif decide (x0.Kind=9)then(!(decide (p=[])))else false)=true then
 if inR 0 p.length=true then
 if(!(decide (bf p 0=1)))=true then
 bu (path,1) >>=fun r_277=>
 some (⟨ab.eta r_277.Value,r_277.Failure,r_277.OK⟩:aG)
 else
 if slR 1 (p.length:Int) p.length=true then
 cZ (path,0) >>=fun r_278=>
 ci (s,x0.Elem,cutL p 1 (p.length:Int),addI .i64 level 1,r_278) >>=fun r_279=>
 if(!r_279.OK)=true then
 some (⟨ab.eta r_279.Value,r_279.Failure,r_279.OK⟩:aG)
 else
 k_27 [ab.eta r_279.Value]
 else none
 else none
 else
 k_27 []
 if decide (x0.Kind=4)=true then
 kP p >>=fun r_256=>
 if(bif bif (!r_256.2)then true else decide (r_256.1 < 1)then true else decide (1000 < r_256.1))=true then
 bu (path,1) >>=fun r_259=>
 some (⟨ab.eta r_259.Value,r_259.Failure,r_259.OK⟩:aG)
 else
 some (wrp .i64 r_256.1) >>=fun t108_7=>
 kQ (x0,t108_7) >>=fun r_260=>
 if(bif (!r_260.2)then(!x0.Open)else false)=true then
 bu (path,4) >>=fun r_263=>
 some (⟨ab.eta r_263.Value,r_263.Failure,r_263.OK⟩:aG)
 else
 k_28 t108_7
 else
 k_28 0
 if decide (x0.Kind=3)=true then
 if decide (x0.Max < (p.length:Int))=true then
 bu (path,3) >>=fun r_221=>
 some (⟨ab.eta r_221.Value,r_221.Failure,r_221.OK⟩:aG)
 else
 k_29 p
 else
 k_29 []
 if decide (x0.Kind=2)=true then
 kP p >>=fun r_146=>
 if(!r_146.2)=true then
 bu (path,1) >>=fun r_149=>
 some (⟨ab.eta r_149.Value,r_149.Failure,r_149.OK⟩:aG)
 else
 nr r_146.1 >>=fun r_150=>
 if(bif decide (r_150 < x0.Low)then true else decide (x0.High < r_150))=true then
 bu (path,2) >>=fun r_151=>
 some (⟨ab.eta r_151.Value,r_151.Failure,r_151.OK⟩:aG)
 else
 k_30 r_150
 else
 k_30 0
 if decide (x0.Kind=1)=true then
 if(bif (!(decide (p=[])))then(!(decide (p=[1])))else false)=true then
 bu (path,1) >>=fun r_1=>
 some (⟨ab.eta r_1.Value,r_1.Failure,r_1.OK⟩:aG)
 else
 some (!(decide (p=[]))) >>=fun t44=>
 k_31 t44
 else
 k_31 false
 else none
  partial_fixpoint
def nn(x_:av×ae×List UInt8×Int×List Int):Option (aG):=
 match x_ with
 | (s,x0,p,level,path)=>
 jh p >>=fun r=>
 if(bif (!(decide (r.2=0)))then true else decide (remI (r.1.length:Int) 2=1))=true then
 bu (path,1) >>=fun r_3=>
 some (⟨ab.eta r_3.Value,r_3.Failure,r_3.OK⟩:aG)
 else
 if decide (x0.Max < quoI .i64 (r.1.length:Int) 2)=true then
 bu (path,3) >>=fun r_4=>
 some (⟨ab.eta r_4.Value,r_4.Failure,r_4.OK⟩:aG)
 else
 gP (level,path,r.1,0,s.Types,x0,0,false,0,[],0,0,false,x0.Kind,false,0,[],0,[]) >>=fun o=>
 match o with
 | .inl o_1=>
 some (⟨ab.eta o_1.Value,o_1.Failure,o_1.OK⟩:aG)
 | .inr o_2=>
 fU (o_2.1,o_2.2.1,o_2.2.2.1,1,o_2.2.2.2.1,o_2.2.2.2.2.1,o_2.2.2.2.2.2.1,o_2.2.2.2.2.2.2.1,o_2.2.2.2.2.2.2.2.1,o_2.2.2.2.2.2.2.2.2.1,o_2.2.2.2.2.2.2.2.2.2.1,o_2.2.2.2.2.2.2.2.2.2.2.1,o_2.2.2.2.2.2.2.2.2.2.2.2.1,o_2.2.2.2.2.2.2.2.2.2.2.2.2.1,o_2.2.2.2.2.2.2.2.2.2.2.2.2.2.1,o_2.2.2.2.2.2.2.2.2.2.2.2.2.2.2.1,o_2.2.2.2.2.2.2.2.2.2.2.2.2.2.2.2.1,o_2.2.2.2.2.2.2.2.2.2.2.2.2.2.2.2.2.1,o_2.2.2.2.2.2.2.2.2.2.2.2.2.2.2.2.2.2) >>=fun o_3=>
 match o_3 with
 | .inl o_4=>
 some (⟨ab.eta o_4.Value,o_4.Failure,o_4.OK⟩:aG)
 | .inr o_5=>
 gQ (o_5.1,o_5.2.1,o_5.2.2.1,0,o_5.2.2.2.1,o_5.2.2.2.2.1,o_5.2.2.2.2.2.1,o_5.2.2.2.2.2.2.1,o_5.2.2.2.2.2.2.2.1,o_5.2.2.2.2.2.2.2.2.1,o_5.2.2.2.2.2.2.2.2.2.1,o_5.2.2.2.2.2.2.2.2.2.2.1,o_5.2.2.2.2.2.2.2.2.2.2.2.1,o_5.2.2.2.2.2.2.2.2.2.2.2.2.1,o_5.2.2.2.2.2.2.2.2.2.2.2.2.2.1,o_5.2.2.2.2.2.2.2.2.2.2.2.2.2.2.1,o_5.2.2.2.2.2.2.2.2.2.2.2.2.2.2.2.1,o_5.2.2.2.2.2.2.2.2.2.2.2.2.2.2.2.2.1,o_5.2.2.2.2.2.2.2.2.2.2.2.2.2.2.2.2.2,[]) >>=fun o_6=>
 match o_6 with
 | .inl o_7=>
 some (⟨ab.eta o_7.Value,o_7.Failure,o_7.OK⟩:aG)
 | .inr o_8=>
 dK (⟨o_8.2.2.2.2.2.2.2.1,o_8.2.2.2.2.2.2.2.2.1,o_8.2.2.2.2.2.2.2.2.2.1,o_8.2.2.2.2.2.2.2.2.2.2.1,o_8.2.2.2.2.2.2.2.2.2.2.2.1,o_8.2.2.2.2.2.2.2.2.2.2.2.2.1,o_8.2.2.2.2.2.2.2.2.2.2.2.2.2,[]⟩:ab) >>=fun r_5=>
 some (⟨ab.eta r_5.Value,r_5.Failure,r_5.OK⟩:aG)
  partial_fixpoint
def nH(x_:av×ae×List UInt8×Int×List Int):Option (aG):=
 match x_ with
 | (s,x0,p,level,path)=>
 jh p >>=fun r=>
 if(!(decide (r.2=0)))=true then
 bu (path,1) >>=fun r_3=>
 some (⟨ab.eta r_3.Value,r_3.Failure,r_3.OK⟩:aG)
 else
 if decide (x0.Max < (r.1.length:Int))=true then
 bu (path,3) >>=fun r_4=>
 some (⟨ab.eta r_4.Value,r_4.Failure,r_4.OK⟩:aG)
 else
 gZ (level,path,r.1,0,s.Types,x0,0,false,0,[],0,0,false,x0.Kind,false,0,[],0,[]) >>=fun o=>
 match o with
 | .inl o_1=>
 some (⟨ab.eta o_1.Value,o_1.Failure,o_1.OK⟩:aG)
 | .inr o_2=>
 dK (⟨o_2.2.2.2.2.2.2.2.1,o_2.2.2.2.2.2.2.2.2.1,o_2.2.2.2.2.2.2.2.2.2.1,o_2.2.2.2.2.2.2.2.2.2.2.1,o_2.2.2.2.2.2.2.2.2.2.2.2.1,[],o_2.2.2.2.2.2.2.2.2.2.2.2.2,[]⟩:ab) >>=fun r_5=>
 some (⟨ab.eta r_5.Value,r_5.Failure,r_5.OK⟩:aG)
  partial_fixpoint
def nA(x_:av×ae×List UInt8×Int×List Int):Option (aG):=
 match x_ with
 | (s,x0,p,level,path)=>
 kS p >>=fun r=>
 if(!(decide (r.2=0)))=true then
 bu (path,1) >>=fun r_3=>
 some (⟨ab.eta r_3.Value,r_3.Failure,r_3.OK⟩:aG)
 else
 dk (level,path,r.1,0,s.Types,x0,0,false,0,[],0,0,false,x0.Kind,false,0,[],0,[]) >>=fun o=>
 match o with
 | .inl o_1=>
 some (⟨ab.eta o_1.Value,o_1.Failure,o_1.OK⟩:aG)
 | .inr o_2=>
 eR (o_2.1,o_2.2.1,0,o_2.2.2.1,o_2.2.2.2.1,o_2.2.2.2.2.1,o_2.2.2.2.2.2.1,o_2.2.2.2.2.2.2.1,o_2.2.2.2.2.2.2.2.1,o_2.2.2.2.2.2.2.2.2.1,o_2.2.2.2.2.2.2.2.2.2.1,o_2.2.2.2.2.2.2.2.2.2.2.1,o_2.2.2.2.2.2.2.2.2.2.2.2.1,o_2.2.2.2.2.2.2.2.2.2.2.2.2.1,o_2.2.2.2.2.2.2.2.2.2.2.2.2.2.1,o_2.2.2.2.2.2.2.2.2.2.2.2.2.2.2.1,o_2.2.2.2.2.2.2.2.2.2.2.2.2.2.2.2,[]) >>=fun o_3=>
 match o_3 with
 | .inl o_4=>
 some (⟨ab.eta o_4.Value,o_4.Failure,o_4.OK⟩:aG)
 | .inr o_5=>
 dK (⟨o_5.2.2.2.2.2.2.2.1,o_5.2.2.2.2.2.2.2.2.1,o_5.2.2.2.2.2.2.2.2.2.1,o_5.2.2.2.2.2.2.2.2.2.2.1,o_5.2.2.2.2.2.2.2.2.2.2.2.1,[],o_5.2.2.2.2.2.2.2.2.2.2.2.2.1,o_5.2.2.2.2.2.2.2.2.2.2.2.2.2⟩:ab) >>=fun r_4=>
 some (⟨ab.eta r_4.Value,r_4.Failure,r_4.OK⟩:aG)
  partial_fixpoint
def nF(x_:av×ae×List UInt8×Int×List Int):Option (aG):=
 match x_ with
 | (s,x0,p,level,path)=>
 lh p >>=fun r=>
 if(!(decide (r.2.2=0)))=true then
 bu (path,1) >>=fun r_4=>
 some (⟨ab.eta r_4.Value,r_4.Failure,r_4.OK⟩:aG)
 else
 cj (x0,r.1) >>=fun r_5=>
 if(bif (!r_5.2)then(!x0.Open)else false)=true then
 bu (path,5) >>=fun r_8=>
 some (⟨ab.eta r_8.Value,r_8.Failure,r_8.OK⟩:aG)
 else
 if(!r_5.2)=true then
 dK (⟨x0.Kind,false,0,[],r.1,[],[],[(⟨r.1,r.2.1⟩:aE)]⟩:ab) >>=fun r_9=>
 some (⟨ab.eta r_9.Value,r_9.Failure,r_9.OK⟩:aG)
 else
 if inR r_5.1 x0.Members.length=true then
 cZ (path,r.1) >>=fun r_10=>
 ci (s,(x0.Members.getD r_5.1.toNat aj).Type_,r.2.1,addI .i64 level 1,r_10) >>=fun r_11=>
 if(!r_11.OK)=true then
 some (⟨ab.eta r_11.Value,r_11.Failure,r_11.OK⟩:aG)
 else
 dK (⟨x0.Kind,false,0,[],r.1,[],[ab.eta r_11.Value],[]⟩:ab) >>=fun r_12=>
 some (⟨ab.eta r_12.Value,r_12.Failure,r_12.OK⟩:aG)
 else none
  partial_fixpoint
def gP(x_:Int×List Int×List (List UInt8)×Int×List ae×ae×Int×Bool×Int×List UInt8×Int×Int×Bool×Int×Bool×Int×List UInt8×Int×List ab):Option ((aG) ⊕ (Int×List Int×List (List UInt8)×List ae×ae×Int×Bool×Int×List UInt8×Int×Int×Bool×Int×Bool×Int×List UInt8×Int×List ab)):=
 match x_ with
 | (level_3,path_3,l_2,i,b_47,b_48,b_49,b_50,b_51,b_52,b_53,b_54,b_55,b_56,b_57,b_58,b_59,b_60,b_61)=>
 if decide (mulI .i64 2 i < (l_2.length:Int))=true then
 some (mulI .i64 2 i) >>=fun t57=>
 if inR t57 l_2.length=true then
 cZ (path_3,i) >>=fun r_6=>
 ci ((⟨b_47⟩:av),b_48.Key,l_2.getD t57.toNat [],addI .i64 level_3 1,r_6) >>=fun r_7=>
 if(!r_7.OK)=true then
 some (.inl (⟨ab.eta r_7.Value,r_7.Failure,r_7.OK⟩:aG))
 else
 some [ab.eta r_7.Value] >>=fun t74=>
 if room 120 (b_61++t74).length=true then
 gP (level_3,path_3,l_2,addI .i64 i 1,b_47,b_48,b_49,b_50,b_51,b_52,b_53,b_54,b_55,b_56,b_57,b_58,b_59,b_60,b_61++t74)
 else none
 else none
 else
 some (.inr (level_3,path_3,l_2,b_47,b_48,b_49,b_50,b_51,b_52,b_53,b_54,b_55,b_56,b_57,b_58,b_59,b_60,b_61))
  partial_fixpoint
def gQ(x_:Int×List Int×List (List UInt8)×Int×List ae×ae×Int×Bool×Int×List UInt8×Int×Int×Bool×Int×Bool×Int×List UInt8×Int×List ab×List ab):Option ((aG) ⊕ (Int×Bool×Int×List UInt8×Int×Int×Bool×Int×Bool×Int×List UInt8×Int×List ab×List ab)):=
 match x_ with
 | (level_5,path_5,l_5,i_2,b_77,b_78,b_79,b_80,b_81,b_82,b_83,b_84,b_85,b_86,b_87,b_88,b_89,b_90,b_91,b_92)=>
 if decide (mulI .i64 2 i_2 < (l_5.length:Int))=true then
 some (addI .i64 (mulI .i64 2 i_2) 1) >>=fun t112=>
 if inR t112 l_5.length=true then
 cZ (path_5,i_2) >>=fun r_10=>
 ci ((⟨b_77⟩:av),b_78.Elem,l_5.getD t112.toNat [],addI .i64 level_5 1,r_10) >>=fun r_11=>
 if(!r_11.OK)=true then
 some (.inl (⟨ab.eta r_11.Value,r_11.Failure,r_11.OK⟩:aG))
 else
 some [ab.eta r_11.Value] >>=fun t129=>
 if room 120 (b_92++t129).length=true then
 gQ (level_5,path_5,l_5,addI .i64 i_2 1,b_77,b_78,b_79,b_80,b_81,b_82,b_83,b_84,b_85,b_86,b_87,b_88,b_89,b_90,b_91,b_92++t129)
 else none
 else none
 else
 some (.inr (b_79,b_80,b_81,b_82,b_83,b_84,b_85,b_86,b_87,b_88,b_89,b_90,b_91,b_92))
  partial_fixpoint
def gZ(x_:Int×List Int×List (List UInt8)×Int×List ae×ae×Int×Bool×Int×List UInt8×Int×Int×Bool×Int×Bool×Int×List UInt8×Int×List ab):Option ((aG) ⊕ (Int×Bool×Int×List UInt8×Int×Int×Bool×Int×Bool×Int×List UInt8×Int×List ab)):=
 match x_ with
 | (level_1,path_1,l,i,b_14,b_15,b_16,b_17,b_18,b_19,b_20,b_21,b_22,b_23,b_24,b_25,b_26,b_27,b_28)=>
 if decide (i < (l.length:Int))=true then
 if inR i l.length=true then
 cZ (path_1,i) >>=fun r_6=>
 ci ((⟨b_14⟩:av),b_15.Elem,l.getD i.toNat [],addI .i64 level_1 1,r_6) >>=fun r_7=>
 if(!r_7.OK)=true then
 some (.inl (⟨ab.eta r_7.Value,r_7.Failure,r_7.OK⟩:aG))
 else
 some [ab.eta r_7.Value] >>=fun t62=>
 if room 120 (b_28++t62).length=true then
 gZ (level_1,path_1,l,addI .i64 i 1,b_14,b_15,b_16,b_17,b_18,b_19,b_20,b_21,b_22,b_23,b_24,b_25,b_26,b_27,b_28++t62)
 else none
 else none
 else
 some (.inr (b_16,b_17,b_18,b_19,b_20,b_21,b_22,b_23,b_24,b_25,b_26,b_27,b_28))
  partial_fixpoint
def dk(x_:Int×List Int×List aM×Int×List ae×ae×Int×Bool×Int×List UInt8×Int×Int×Bool×Int×Bool×Int×List UInt8×Int×List ab):Option ((aG) ⊕ (List Int×List aM×ae×Int×Bool×Int×List UInt8×Int×Int×Bool×Int×Bool×Int×List UInt8×Int×List ab)):=
 match x_ with
 | (level_1,path_2,l_1,i,b_30,b_31,b_32,b_33,b_34,b_35,b_36,b_37,b_38,b_39,b_40,b_41,b_42,b_43,b_44)=>
 if decide (i < (b_31.Members.length:Int))=true then
 if inR i b_31.Members.length=true then
 some (b_31.Members.getD i.toNat aj) >>=fun x0_1=>
 kX (l_1,x0_1.ID) >>=fun r_5=>
 if decide (r_5 < 0)=true then
 if(!x0_1.HasDefault)=true then
 cZ (path_2,x0_1.ID) >>=fun r_6=>
 bu (r_6,7) >>=fun r_7=>
 some (.inl (⟨ab.eta r_7.Value,r_7.Failure,r_7.OK⟩:aG))
 else
 some [ab.eta x0_1.Default] >>=fun t63=>
 if room 120 (b_44++t63).length=true then
 dk (level_1,path_2,l_1,addI .i64 i 1,b_30,b_31,b_32,b_33,b_34,b_35,b_36,b_37,b_38,b_39,b_40,b_41,b_42,b_43,b_44++t63)
 else none
 else
 if inR r_5 l_1.length=true then
 cZ (path_2,x0_1.ID) >>=fun r_8=>
 ci ((⟨b_30⟩:av),x0_1.Type_,(l_1.getD r_5.toNat bj).Data,addI .i64 level_1 1,r_8) >>=fun r_9=>
 if(!r_9.OK)=true then
 some (.inl (⟨ab.eta r_9.Value,r_9.Failure,r_9.OK⟩:aG))
 else
 some [ab.eta r_9.Value] >>=fun t89=>
 if room 120 (b_44++t89).length=true then
 dk (level_1,path_2,l_1,addI .i64 i 1,b_30,b_31,b_32,b_33,b_34,b_35,b_36,b_37,b_38,b_39,b_40,b_41,b_42,b_43,b_44++t89)
 else none
 else none
 else none
 else
 some (.inr (path_2,l_1,b_31,b_32,b_33,b_34,b_35,b_36,b_37,b_38,b_39,b_40,b_41,b_42,b_43,b_44))
  partial_fixpoint
end
theorem gN :KC e142:= .m (by kernel_rfl)
theorem Bi :KC e188:= .m (by kernel_rfl)
theorem Bj :KC e187:= .m (by kernel_rfl)
theorem Bl :KC e186:= .m (by kernel_rfl)
theorem Bm :KC e185:= .m (by kernel_rfl)
theorem CH :(∀h r,ci h=some r->FD e142 h r)/\(∀h r,nA h=some r->FD e188 h r)/\(∀h r,dk h=some r->LD 188 0 [0] mY h r)/\(∀h r,nn h=some r->FD e187 h r)/\(∀h r,gQ h=some r->LD 187 0 [2] mX h r)/\(∀h r,gP h=some r->LD 187 0 [0] mW h r)/\(∀h r,nH h=some r->FD e186 h r)/\(∀h r,gZ h=some r->LD 186 0 [0] mV h r)/\(∀h r,nF h=some r->FD e185 h r):=ci.mutual_partial_correctness (FD e142) (FD e188) (LD 188 0 [0] mY) (FD e187) (LD 187 0 [2] mX) (LD 187 0 [0] mW) (FD e186) (LD 186 0 [0] mV) (FD e185)
 (fun _ _ _ _ _ h0 h1 h3 h6 h8 _ _ h=>FA e142 gN (.k eT (.k De (.k CN (.k tq (.k ik (.k (FH e142 gN h0) (.k (FH e185 Bm h8) (.k (FH e186 Bl h6) (.k (FH e187 Bj h3) (.k (FH e188 Bi h1) (.k kR .n))))))))))) .n (.trans (by kernel_rfl) h))
 (fun _ h2 _ _ h=>FA e188 Bi (.k Dg (.k eT (.k kR .n))) (.k (LH mY h2) (.k CG .n)) (.trans (by kernel_rfl) h))
 (fun _ _ h0 h2 _ _ h=>LA mY h2 (.k DD (.k ik (.k eT (.k (FH e142 gN h0) .n)))) .n (.trans (by kernel_rfl) h))
 (fun _ _ h4 h5 _ _ h=>FA e187 Bj (.k tv (.k eT (.k kR .n))) (.k (LH mW h5) (.k B9 (.k (LH mX h4) .n))) (.trans (by kernel_rfl) h))
 (fun _ _ h0 h4 _ _ h=>LA mX h4 (.k ik (.k (FH e142 gN h0) .n)) .n (.trans (by kernel_rfl) h))
 (fun _ _ h0 h5 _ _ h=>LA mW h5 (.k ik (.k (FH e142 gN h0) .n)) .n (.trans (by kernel_rfl) h))
 (fun _ h7 _ _ h=>FA e186 Bl (.k tv (.k eT (.k kR .n))) (.k (LH mV h7) .n) (.trans (by kernel_rfl) h))
 (fun _ _ h0 h7 _ _ h=>LA mV h7 (.k ik (.k (FH e142 gN h0) .n)) .n (.trans (by kernel_rfl) h))
 (fun _ h0 _ _ h=>FA e185 Bm (.k Ed (.k eT (.k gW (.k kR (.k ik (.k (FH e142 gN h0) .n)))))) .n (.trans (by kernel_rfl) h))
theorem C3 :FC e142 ci:= .of gN CH.1
def qk(x_:av×Int×List UInt8):Option (aG×Int):=
 match x_ with
 | (s,t,m)=>
 nE (s,t) >>=fun r=>
 if(!(decide (r=0)))=true then
 some ((⟨(⟨0,false,0,[],0,[],[],[]⟩:ab),(⟨[],0⟩:bX),false⟩:aG),r)
 else
 if decide (4096 < (m.length:Int))=true then
 bu ([],3) >>=fun r_1=>
 some ((⟨ab.eta r_1.Value,r_1.Failure,r_1.OK⟩:aG),0)
 else
 ci (s,t,m,1,[]) >>=fun r_2=>
 some ((⟨ab.eta r_2.Value,r_2.Failure,r_2.OK⟩:aG),0)
theorem e84_k :KC e84:= .m (by kernel_rfl)
theorem DV :FC e84 qk:= .fn e84_k (.k Dz (.k eT (.k C3 .n))) .n fun _=>by kernel_rfl
def nB(x_:av×Int×List UInt8):Option (ab×Int):=
 match x_ with
 | (s,t,m)=>
 qk (s,t,m) >>=fun r=>
 if(bif decide (r.2=0)then(!r.1.OK)else false)=true then
 some (ab.eta r.1.Value,12)
 else
 some (ab.eta r.1.Value,r.2)
theorem e51_k :KC e51:= .m (by kernel_rfl)
theorem Dh :FC e51 nB:= .fn e51_k (.k DV .n) .n fun _=>by kernel_rfl
def il(v:ab):Option (Bool):=
 some (bif bif bif bif bif bif bif decide (v.Kind=1)then true else(!v.Bool_)then bif decide (v.Kind=2)then true else decide (v.Int_=0)else false then bif decide (v.Kind=3)then true else decide (v.Str=[])else false then bif bif decide (v.Kind=4)then true else decide (v.Kind=6)then true else decide (v.ID=0)else false then bif decide (v.Kind=8)then true else decide ((v.Keys.length:Int)=0)else false then bif decide (5<=v.Kind)then true else decide ((v.Items.length:Int)=0)else false then bif bif decide (v.Kind=5)then true else decide (v.Kind=6)then true else decide ((v.Rest.length:Int)=0)else false)
theorem e93_k :KC e93:= .m (by kernel_rfl)
theorem DW :FC e93 il:= .fn e93_k .n .n fun _=>by kernel_rfl
def cd(x_:Int×Bool):Option (Bool):=
 match x_ with
 | (n,known)=>
 some (bif bif (!known)then decide (1<=n)else false then decide (n<=1000)else false)
theorem e94_k :KC e94:= .m (by kernel_rfl)
theorem tR :FC e94 cd:= .fn e94_k .n .n fun _=>by kernel_rfl
def cr(x_:List aE×Int×ae):Option ((Bool) ⊕ (Unit)):=
 match x_ with
 | (l_1,i,b)=>
 if decide (i < (l_1.length:Int))=true then
 if inR i l_1.length=true then
 cj (b,(l_1.getD i.toNat az).ID) >>=fun r=>
 if inR i l_1.length=true then
 cd ((l_1.getD i.toNat az).ID,r.2) >>=fun r_3=>
 some (!r_3) >>=fun t31=>
 some (decide (0 < i)) >>=fun t34=>
 if(inR i l_1.length || (!((!t31) && t34)))=true then
 some (subI .i64 i 1) >>=fun t43=>
 if(inR t43 l_1.length || (!((!t31) && t34)))=true then
 if(bif t31 then true else bif t34 then decide ((l_1.getD i.toNat az).ID<=(l_1.getD t43.toNat az).ID)else false)=true then
 some (.inl false)
 else
 cr (l_1,addI .i64 i 1,b)
 else none
 else none
 else none
 else none
 else
 some (.inr ())
  partial_fixpoint
theorem C4 :LC 95 0 [0] e95_0 cr:= .rc cr.partial_correctness (.k gW (.k tR .n)) .n fun _ _=>by kernel_rfl
def gh(x_:ae×List aE):Option (Bool):=
 match x_ with
 | (t,l)=>
 cr (l,0,t) >>=fun o=>
 match o with
 | .inl o_1=>
 some o_1
 | .inr o_2=>
 some true
theorem e95_k :KC e95:= .m (by kernel_rfl)
theorem DX :FC e95 gh:= .fn e95_k .n (.k C4 .n) fun _=>by kernel_rfl
def bH(x_:Int×ab):Option ((Bool) ⊕ (Unit)):=
 match x_ with
 | (i_1,b_12)=>
 if decide (i_1 < (b_12.Keys.length:Int))=true then
 some (subI .i64 i_1 1) >>=fun t270=>
 if inR t270 b_12.Keys.length=true then
 if inR i_1 b_12.Keys.length=true then
 eW (ab.eta (b_12.Keys.getD t270.toNat af),ab.eta (b_12.Keys.getD i_1.toNat af)) >>=fun r_16=>
 if decide (0<=r_16)=true then
 some (.inl false)
 else
 bH (addI .i64 i_1 1,ab.eta b_12)
 else none
 else none
 else
 some (.inr ())
  partial_fixpoint
theorem Di :LC 60 0 [1] e60_1 bH:= .rc bH.partial_correctness (.k tm .n) .n fun _ _=>by kernel_rfl
mutual
def dM(x_:av×Int×List ab×Bool):Option (Bool):=
 match x_ with
 | (s,t,l,plain)=>
 cB (t,l,plain,0,s.Types) >>=fun o=>
 match o with
 | .inl o_1=>
 some o_1
 | .inr o_2=>
 some true
  partial_fixpoint
def bV(x_:av×Int×ab×Bool):Option (Bool):=
 match x_ with
 | (s,t,v,plain)=>
 if(bif decide (t < 0)then true else decide ((s.Types.length:Int)<=t))=true then
 some false
 else
 if inR t s.Types.length=true then
 some (s.Types.getD t.toNat ag) >>=fun x0=>
 some (!(decide (v.Kind=x0.Kind))) >>=fun t34=>
 (if(!t34)=true then il (ab.eta v)else some false) >>=fun r=>
 if(bif bif t34 then true else(!r)then true else bif plain then decide (0 < (v.Rest.length:Int))else false)=true then
 some false
 else
 if decide (x0.Kind=1)=true then
 some true
 else
 if decide (x0.Kind=2)=true then
 some (bif decide (x0.Low<=v.Int_)then decide (v.Int_<=x0.High)else false)
 else
 if decide (x0.Kind=3)=true then
 some (decide ((v.Str.length:Int)<=x0.Max))
 else
 if decide (x0.Kind=4)=true then
 kQ (x0,v.ID) >>=fun r_1=>
 some (bif x0.Open then(!plain)else false) >>=fun t91=>
 (if((!r_1.2) && t91)=true then cd (v.ID,r_1.2)else some false) >>=fun r_4=>
 some (bif r_1.2 then true else bif t91 then r_4 else false)
 else
 if decide (x0.Kind=5)=true then
 some (!(decide ((v.Items.length:Int)=(x0.Members.length:Int)))) >>=fun t107=>
 (if(!t107)=true then gh (x0,v.Rest)else some false) >>=fun r_5=>
 if(bif t107 then true else(!r_5))=true then
 some false
 else
 bT (plain,0,s.Types,ab.eta v,x0.Kind,x0.Name,x0.Low,x0.High,x0.Max,x0.Symbols,x0.Members,x0.Key,x0.Elem,x0.Open) >>=fun o=>
 match o with
 | .inl o_1=>
 some o_1
 | .inr o_2=>
 some true
 else
 if decide (x0.Kind=6)=true then
 cj (x0,v.ID) >>=fun r_6=>
 if r_6.2=true then
 some (bif decide ((v.Items.length:Int)=1)then decide ((v.Rest.length:Int)=0)else false) >>=fun t156=>
 if(inR r_6.1 x0.Members.length || (!t156))=true then
 if(inR 0 v.Items.length || (!t156))=true then
 (if t156=true then bV (s,(x0.Members.getD r_6.1.toNat aj).Type_,ab.eta (v.Items.getD (0:Int).toNat af),plain)else some false) >>=fun r_9=>
 some (bif t156 then r_9 else false)
 else none
 else none
 else
 some (bif x0.Open then(!plain)else false) >>=fun t177=>
 (if t177=true then cd (v.ID,r_6.2)else some false) >>=fun r_10=>
 some (bif bif bif t177 then r_10 else false then decide ((v.Items.length:Int)=0)else false then decide ((v.Rest.length:Int)=1)else false) >>=fun t195=>
 if(inR 0 v.Rest.length || (!t195))=true then
 some (bif t195 then decide ((v.Rest.getD (0:Int).toNat az).ID=v.ID)else false)
 else none
 else
 if decide (x0.Kind=7)=true then
 some (decide ((v.Items.length:Int)<=x0.Max)) >>=fun t213=>
 (if t213=true then dM (s,x0.Elem,v.Items,plain)else some false) >>=fun r_11=>
 some (bif t213 then r_11 else false)
 else
 if decide (x0.Kind=8)=true then
 some (bif decide (x0.Max < (v.Keys.length:Int))then true else(!(decide ((v.Items.length:Int)=(v.Keys.length:Int))))) >>=fun t239=>
 (if(!t239)=true then dM (s,x0.Key,v.Keys,plain)else some false) >>=fun r_12=>
 some (bif t239 then true else(!r_12)) >>=fun t249=>
 (if(!t249)=true then dM (s,x0.Elem,v.Items,plain)else some false) >>=fun r_13=>
 if(bif t249 then true else(!r_13))=true then
 some false
 else
 bH (1,ab.eta v) >>=fun o_3=>
 match o_3 with
 | .inl o_4=>
 some o_4
 | .inr o_5=>
 some true
 else
 some (decide ((v.Items.length:Int)<=1)) >>=fun t283=>
 (if t283=true then dM (s,x0.Elem,v.Items,plain)else some false) >>=fun r_14=>
 some (bif t283 then r_14 else false)
 else none
  partial_fixpoint
def cB(x_:Int×List ab×Bool×Int×List ae):Option ((Bool) ⊕ (Unit)):=
 match x_ with
 | (t_1,l_1,plain_1,i,b)=>
 if decide (i < (l_1.length:Int))=true then
 if inR i l_1.length=true then
 bV ((⟨b⟩:av),t_1,ab.eta (l_1.getD i.toNat af),plain_1) >>=fun r=>
 if(!r)=true then
 some (.inl false)
 else
 cB (t_1,l_1,plain_1,addI .i64 i 1,b)
 else none
 else
 some (.inr ())
  partial_fixpoint
def bT(x_:Bool×Int×List ae×ab×Int×List UInt8×Int×Int×Int×List aL×List ap×Int×Int×Bool):Option ((Bool) ⊕ (Unit)):=
 match x_ with
 | (plain_1,i,b,b_1,b_2,b_3,b_4,b_5,b_6,b_7,b_8,b_9,b_10,b_11)=>
 if decide (i < (b_1.Items.length:Int))=true then
 if inR i b_8.length=true then
 if inR i b_1.Items.length=true then
 bV ((⟨b⟩:av),(b_8.getD i.toNat aj).Type_,ab.eta (b_1.Items.getD i.toNat af),plain_1) >>=fun r_15=>
 if(!r_15)=true then
 some (.inl false)
 else
 bT (plain_1,addI .i64 i 1,b,ab.eta b_1,b_2,b_3,b_4,b_5,b_6,b_7,b_8,b_9,b_10,b_11)
 else none
 else none
 else
 some (.inr ())
  partial_fixpoint
end
theorem e96_k :KC e96:= .m (by kernel_rfl)
theorem e60_k :KC e60:= .m (by kernel_rfl)
theorem DF :(∀h r,dM h=some r->FD e96 h r)/\(∀h r,cB h=some r->LD 96 0 [0] e96_0 h r)/\(∀h r,bV h=some r->FD e60 h r)/\(∀h r,bT h=some r->LD 60 0 [0] e60_0 h r):=dM.mutual_partial_correctness (FD e96) (LD 96 0 [0] e96_0) (FD e60) (LD 60 0 [0] e60_0)
 (fun _ h1 _ _ h=>FA e96 e96_k .n (.k (LH e96_0 h1) .n) (.trans (by kernel_rfl) h))
 (fun _ _ h1 h2 _ _ h=>LA e96_0 h1 (.k (FH e60 e60_k h2) .n) .n (.trans (by kernel_rfl) h))
 (fun _ _ _ h0 h2 h3 _ _ h=>FA e60 e60_k (.k DW (.k tq (.k tR (.k DX (.k gW (.k (FH e60 e60_k h2) (.k (FH e96 e96_k h0) .n))))))) (.k (LH e60_0 h3) (.k Di .n)) (.trans (by kernel_rfl) h))
 (fun _ _ h2 h3 _ _ h=>LA e60_0 h3 (.k (FH e60 e60_k h2) .n) .n (.trans (by kernel_rfl) h))
theorem Ee :FC e60 bV:= .of e60_k DF.2.2.1
def nI(x_:av×Int×ab):Option (Bool):=
 match x_ with
 | (s,t,v)=>
 bV (s,t,ab.eta v,false) >>=fun r=>
 some r
theorem e29_k :KC e29:= .m (by kernel_rfl)
theorem DY :FC e29 nI:= .fn e29_k (.k Ee .n) .n fun _=>by kernel_rfl
def ji(x_:av×Int×ab):Option (Int):=
 match x_ with
 | (s,t,v)=>
 ie s >>=fun r=>
 if(!(decide (r=0)))=true then
 some r
 else
 if(bif decide (t < 0)then true else decide ((s.Types.length:Int)<=t))=true then
 some 4
 else
 nI (s,t,ab.eta v) >>=fun r_1=>
 if(!r_1)=true then
 some 1
 else
 some 0
theorem e55_k :KC e55:= .m (by kernel_rfl)
theorem DG :FC e55 ji:= .fn e55_k (.k tu (.k DY .n)) .n fun _=>by kernel_rfl
def jf(x_:Int×List UInt8):Option (List UInt8):=
 match x_ with
 | (n_1,out_1)=>
 if decide (0 < n_1)=true then
 some (strOf [wrp .u8 (remI n_1 256)]) >>=fun t10=>
 if decide (t10.length+out_1.length<=aX)=true then
 jf (quoI .u64 n_1 256,t10++out_1)
 else none
 else
 some out_1
  partial_fixpoint
theorem Dj :LC 98 0 [0] e98_0 jf:= .rc jf.partial_correctness .n .n fun _ _=>by kernel_rfl
def lj(n:Int):Option (List UInt8):=
 jf (n,[]) >>=fun o=>
 some o
theorem e98_k :KC e98:= .m (by kernel_rfl)
theorem Ef :FC e98 lj:= .fn e98_k .n (.k Dj .n) fun _=>by kernel_rfl
def jg(x_:Int×List Int):Option (Int×List Int):=
 match x_ with
 | (n_2,b_1)=>
 if decide (128<=n_2)=true then
 some [wrp .u8 (addI .u64 (remI n_2 128) 128)] >>=fun t11=>
 if room 1 (b_1++t11).length=true then
 jg (quoI .u64 n_2 128,b_1++t11)
 else none
 else
 some (n_2,b_1)
  partial_fixpoint
theorem Dk :LC 100 0 [0] A8 jg:= .rc jg.partial_correctness .n .n fun _ _=>by kernel_rfl
def gn(n:Int):Option (List UInt8):=
 jg (n,[]) >>=fun o=>
 some [wrp .u8 o.1] >>=fun t18=>
 if room 1 (o.2++t18).length=true then
 some (strOf (o.2++t18))
 else none
theorem Nr :KC e100:= .m (by kernel_rfl)
theorem qg :FC e100 gn:= .fn Nr .n (.k Dk .n) fun _=>by kernel_rfl
def gj(p:List UInt8):Option (List UInt8):=
 gn (wrp .u64 (p.length:Int)) >>=fun r=>
 if decide (r.length+p.length<=aX)=true then
 some (r++p)
 else none
theorem Ns :KC e101:= .m (by kernel_rfl)
theorem p9 :FC e101 gj:= .fn Ns (.k qg .n) .n fun _=>by kernel_rfl
def kY(x_:Int×Bool×List UInt8):Option (List UInt8):=
 match x_ with
 | (id,critical,p)=>
 some (wrp .u64 (mulI .i64 2 id)) >>=fun t10=>
 if critical=true then
 gn (addI .u64 t10 1) >>=fun r=>
 gj p >>=fun r_1=>
 if decide (r.length+r_1.length<=aX)=true then
 some (r++r_1)
 else none
 else
 gn t10 >>=fun r_2=>
 gj p >>=fun r_3=>
 if decide (r_2.length+r_3.length<=aX)=true then
 some (r_2++r_3)
 else none
theorem Nt :KC e102:= .m (by kernel_rfl)
theorem tw :FC e102 kY:= .fn Nt (.k qg (.k p9 .n)) .n fun _=>by kernel_rfl
def di(x_:List UInt8×Int×Int×List ae×ab×ae):Option (List UInt8×Int×List ae×ab×ae):=
 match x_ with
 | (out_9,id_4,k,b_18,b_19,b_20)=>
 if decide (k < (b_19.Rest.length:Int))=true then
 if inR k b_19.Rest.length=true then
 if decide ((b_19.Rest.getD k.toNat az).ID=id_4)=true then
 if inR k b_19.Rest.length=true then
 kY (id_4,false,(b_19.Rest.getD k.toNat az).Data) >>=fun r_22=>
 if decide (out_9.length+r_22.length<=aX)=true then
 di (out_9++r_22,id_4,addI .i64 k 1,b_18,ab.eta b_19,b_20)
 else none
 else none
 else
 di (out_9,id_4,addI .i64 k 1,b_18,ab.eta b_19,b_20)
 else none
 else
 some (out_9,id_4,b_18,ab.eta b_19,b_20)
  partial_fixpoint
theorem Ce :LC 61 0 [0,2] zB di:= .rc di.partial_correctness (.k tw .n) .n fun _ _=>by kernel_rfl
mutual
def cP(x_:av×Int×ab):Option (List UInt8):=
 match x_ with
 | (s,t,v)=>
 if inR t s.Types.length=true then
 some (s.Types.getD t.toNat ag) >>=fun x0=>
 if decide (x0.Kind=1)=true then
 if v.Bool_=true then
 some [1]
 else
 some []
 else
 if decide (x0.Kind=2)=true then
 je v.Int_ >>=fun r=>
 lj r >>=fun r_1=>
 some r_1
 else
 if decide (x0.Kind=3)=true then
 some v.Str
 else
 if decide (x0.Kind=4)=true then
 lj (wrp .u64 v.ID) >>=fun r_2=>
 some r_2
 else
 if decide (x0.Kind=9)=true then
 if decide ((v.Items.length:Int)=0)=true then
 some []
 else
 if inR 0 v.Items.length=true then
 cP (s,x0.Elem,ab.eta (v.Items.getD (0:Int).toNat af)) >>=fun r_3=>
 if decide ([1].length+r_3.length<=aX)=true then
 some ([1]++r_3)
 else none
 else none
 else
 if decide (x0.Kind=6)=true then
 if decide (0 < (v.Rest.length:Int))=true then
 gn (wrp .u64 v.ID) >>=fun r_4=>
 if inR 0 v.Rest.length=true then
 some (v.Rest.getD (0:Int).toNat az) >>=fun x0_2=>
 if decide (r_4.length+x0_2.Data.length<=aX)=true then
 some (r_4++x0_2.Data)
 else none
 else none
 else
 cj (x0,v.ID) >>=fun r_5=>
 gn (wrp .u64 v.ID) >>=fun r_8=>
 if inR r_5.1 x0.Members.length=true then
 if inR 0 v.Items.length=true then
 cP (s,(x0.Members.getD r_5.1.toNat aj).Type_,ab.eta (v.Items.getD (0:Int).toNat af)) >>=fun r_9=>
 if decide (r_8.length+r_9.length<=aX)=true then
 some (r_8++r_9)
 else none
 else none
 else none
 else
 if decide (x0.Kind=7)=true then
 gT ([],0,s.Types,ab.eta v,x0) >>=fun o=>
 some o
 else
 if decide (x0.Kind=8)=true then
 gU ([],0,s.Types,ab.eta v,x0) >>=fun o_1=>
 some o_1
 else
 eN ([],1,s.Types,ab.eta v,x0) >>=fun o_2=>
 some o_2
 else none
  partial_fixpoint
def gT(x_:List UInt8×Int×List ae×ab×ae):Option (List UInt8):=
 match x_ with
 | (out_3,i,b,b_1,b_2)=>
 if decide (i < (b_1.Items.length:Int))=true then
 if inR i b_1.Items.length=true then
 cP ((⟨b⟩:av),b_2.Elem,ab.eta (b_1.Items.getD i.toNat af)) >>=fun r_10=>
 gj r_10 >>=fun r_11=>
 if decide (out_3.length+r_11.length<=aX)=true then
 gT (out_3++r_11,addI .i64 i 1,b,ab.eta b_1,b_2)
 else none
 else none
 else
 some out_3
  partial_fixpoint
def gU(x_:List UInt8×Int×List ae×ab×ae):Option (List UInt8):=
 match x_ with
 | (out_4,i_1,b_3,b_4,b_5)=>
 if decide (i_1 < (b_4.Items.length:Int))=true then
 if inR i_1 b_4.Keys.length=true then
 cP ((⟨b_3⟩:av),b_5.Key,ab.eta (b_4.Keys.getD i_1.toNat af)) >>=fun r_12=>
 gj r_12 >>=fun r_13=>
 if decide (out_4.length+r_13.length<=aX)=true then
 some (out_4++r_13) >>=fun t144=>
 if inR i_1 b_4.Items.length=true then
 cP ((⟨b_3⟩:av),b_5.Elem,ab.eta (b_4.Items.getD i_1.toNat af)) >>=fun r_14=>
 gj r_14 >>=fun r_15=>
 if decide (t144.length+r_15.length<=aX)=true then
 gU (t144++r_15,addI .i64 i_1 1,b_3,ab.eta b_4,b_5)
 else none
 else none
 else none
 else none
 else
 some out_4
  partial_fixpoint
def eN(x_:List UInt8×Int×List ae×ab×ae):Option (List UInt8):=
 match x_ with
 | (out_5,id,b_6,b_7,b_8)=>
 if decide (id<=1000)=true then
 cj (b_8,id) >>=fun r_16=>
 if r_16.2=true then
 if inR r_16.1 b_8.Members.length=true then
 some (b_8.Members.getD r_16.1.toNat aj) >>=fun x0_8=>
 some (!x0_8.HasDefault) >>=fun t175=>
 if(inR r_16.1 b_7.Items.length || (!(!t175)))=true then
 (if(!t175)=true then cq (ab.eta (b_7.Items.getD r_16.1.toNat af),ab.eta x0_8.Default)else some false) >>=fun r_19=>
 if(bif t175 then true else(!r_19))=true then
 if inR r_16.1 b_7.Items.length=true then
 cP ((⟨b_6⟩:av),x0_8.Type_,ab.eta (b_7.Items.getD r_16.1.toNat af)) >>=fun r_20=>
 kY (id,x0_8.Critical,r_20) >>=fun r_21=>
 if decide (out_5.length+r_21.length<=aX)=true then
 di (out_5++r_21,id,0,b_6,ab.eta b_7,b_8) >>=fun o_3=>
 eN (o_3.1,addI .i64 o_3.2.1 1,o_3.2.2.1,ab.eta o_3.2.2.2.1,o_3.2.2.2.2)
 else none
 else none
 else
 di (out_5,id,0,b_6,ab.eta b_7,b_8) >>=fun o_4=>
 eN (o_4.1,addI .i64 o_4.2.1 1,o_4.2.2.1,ab.eta o_4.2.2.2.1,o_4.2.2.2.2)
 else none
 else none
 else
 di (out_5,id,0,b_6,ab.eta b_7,b_8) >>=fun o_5=>
 eN (o_5.1,addI .i64 o_5.2.1 1,o_5.2.2.1,ab.eta o_5.2.2.2.1,o_5.2.2.2.2)
 else
 some out_5
  partial_fixpoint
end
theorem e61_k :KC e61:= .m (by kernel_rfl)
theorem CI :(∀h r,cP h=some r->FD e61 h r)/\(∀h r,eN h=some r->LD 61 0 [2] e61_2 h r)/\(∀h r,gU h=some r->LD 61 0 [1] e61_1 h r)/\(∀h r,gT h=some r->LD 61 0 [0] e61_0 h r):=cP.mutual_partial_correctness (FD e61) (LD 61 0 [2] e61_2) (LD 61 0 [1] e61_1) (LD 61 0 [0] e61_0)
 (fun _ _ _ _ h0 h1 h2 h3 _ _ h=>FA e61 e61_k (.k tr (.k Ef (.k (FH e61 e61_k h0) (.k qg (.k gW .n))))) (.k (LH e61_0 h3) (.k (LH e61_1 h2) (.k (LH e61_2 h1) .n))) (.trans (by kernel_rfl) h))
 (fun _ _ h0 h1 _ _ h=>LA e61_2 h1 (.k gW (.k nl (.k (FH e61 e61_k h0) (.k tw .n)))) (.k Ce .n) (.trans (by kernel_rfl) h))
 (fun _ _ h0 h2 _ _ h=>LA e61_1 h2 (.k (FH e61 e61_k h0) (.k p9 .n)) .n (.trans (by kernel_rfl) h))
 (fun _ _ h0 h3 _ _ h=>LA e61_0 h3 (.k (FH e61 e61_k h0) (.k p9 .n)) .n (.trans (by kernel_rfl) h))
theorem C5 :FC e61 cP:= .of e61_k CI.1
mutual
def dm(x_:av×Int×ab):Option (Int):=
 match x_ with
 | (s,t,v)=>
 if inR t s.Types.length=true then
 bG (0,0,s.Types,ab.eta v,s.Types.getD t.toNat ag) >>=fun o=>
 if decide (0 < (o.2.Keys.length:Int))=true then
 some (addI .i64 1 (maxI o.1 1))
 else
 some (addI .i64 1 o.1)
 else none
  partial_fixpoint
def bG(x_:Int×Int×List ae×ab×ae):Option (Int×ab):=
 match x_ with
 | (below_1,i,b_1,b_2,b_3)=>
 if decide (i < (b_2.Items.length:Int))=true then
 if decide (b_3.Kind=5)=true then
 if inR i b_3.Members.length=true then
 some (b_3.Members.getD i.toNat aj) >>=fun x0_1=>
 if(inR i b_2.Items.length || (!x0_1.HasDefault))=true then
 (if x0_1.HasDefault=true then cq (ab.eta (b_2.Items.getD i.toNat af),ab.eta x0_1.Default)else some false) >>=fun r=>
 if(bif x0_1.HasDefault then r else false)=true then
 bG (below_1,addI .i64 i 1,b_1,ab.eta b_2,b_3)
 else
 if decide (b_3.Kind=6)=true then
 cj (b_3,b_2.ID) >>=fun r_1=>
 if inR r_1.1 b_3.Members.length=true then
 if inR i b_2.Items.length=true then
 dm ((⟨b_1⟩:av),(b_3.Members.getD r_1.1.toNat aj).Type_,ab.eta (b_2.Items.getD i.toNat af)) >>=fun r_4=>
 bG (maxI below_1 r_4,addI .i64 i 1,b_1,ab.eta b_2,b_3)
 else none
 else none
 else
 if inR i b_2.Items.length=true then
 dm ((⟨b_1⟩:av),x0_1.Type_,ab.eta (b_2.Items.getD i.toNat af)) >>=fun r_5=>
 bG (maxI below_1 r_5,addI .i64 i 1,b_1,ab.eta b_2,b_3)
 else none
 else none
 else none
 else
 if decide (b_3.Kind=6)=true then
 cj (b_3,b_2.ID) >>=fun r_6=>
 if inR r_6.1 b_3.Members.length=true then
 if inR i b_2.Items.length=true then
 dm ((⟨b_1⟩:av),(b_3.Members.getD r_6.1.toNat aj).Type_,ab.eta (b_2.Items.getD i.toNat af)) >>=fun r_9=>
 bG (maxI below_1 r_9,addI .i64 i 1,b_1,ab.eta b_2,b_3)
 else none
 else none
 else
 if inR i b_2.Items.length=true then
 dm ((⟨b_1⟩:av),b_3.Elem,ab.eta (b_2.Items.getD i.toNat af)) >>=fun r_10=>
 bG (maxI below_1 r_10,addI .i64 i 1,b_1,ab.eta b_2,b_3)
 else none
 else
 some (below_1,ab.eta b_2)
  partial_fixpoint
end
theorem e62_k :KC e62:= .m (by kernel_rfl)
theorem CQ :(∀h r,dm h=some r->FD e62 h r)/\(∀h r,bG h=some r->LD 62 0 [0] e62_0 h r):=dm.mutual_partial_correctness (FD e62) (LD 62 0 [0] e62_0)
 (fun _ h1 _ _ h=>FA e62 e62_k .n (.k (LH e62_0 h1) .n) (.trans (by kernel_rfl) h))
 (fun _ _ h0 h1 _ _ h=>LA e62_0 h1 (.k nl (.k gW (.k (FH e62 e62_k h0) .n))) .n (.trans (by kernel_rfl) h))
theorem Dl :FC e62 dm:= .of e62_k CQ.1
def kT(x_:av×Int×ab):Option (List UInt8×Int):=
 match x_ with
 | (s,t,v)=>
 ji (s,t,ab.eta v) >>=fun r=>
 if(!(decide (r=0)))=true then
 some ([],r)
 else
 cP (s,t,ab.eta v) >>=fun r_1=>
 some (decide (4096 < (r_1.length:Int))) >>=fun t23=>
 (if(!t23)=true then dm (s,t,ab.eta v)else some 0) >>=fun r_2=>
 if(bif t23 then true else decide (200 < r_2))=true then
 some ([],3)
 else
 some (r_1,0)
theorem e19_k :KC e19:= .m (by kernel_rfl)
theorem Dm :FC e19 kT:= .fn e19_k (.k DG (.k C5 (.k Dl .n))) .n fun _=>by kernel_rfl
def nw(x_:av×Int×List UInt8):Option (List UInt8×Int):=
 match x_ with
 | (s,t,m)=>
 nB (s,t,m) >>=fun r=>
 if(!(decide (r.2=0)))=true then
 some ([],r.2)
 else
 kT (s,t,ab.eta r.1) >>=fun r_3=>
 some (r_3.1,r_3.2)
theorem e13_k :KC e13:= .m (by kernel_rfl)
theorem C6 :FC e13 nw:= .fn e13_k (.k Dh (.k Dm .n)) .n fun _=>by kernel_rfl
end
end Go.Proofs.YtijpinendaoleaaGreat
