/- The functions of the program as functions of Lean, that its code does what they say, and what they answer; part A. -/
import Derived.Test.YtbciniegpkkapaaGreatProg
import Derived.KernelRfl
import Derived.Test.YtbciniegpkkapaaGreatSeLD

namespace Go.Proofs.YtbciniegpkkapaaGreat
set_option linter.all false
section
open Go Go.Proofs.YtbciniegpkkapaaGreat.Shv
open Tryz
set_option maxRecDepth 100000
structure aV where
 ID:Int
 Version:Int
 Data:List UInt8
structure av where
 Items:List aV
 Next:Int
 Cursor:Int
structure ci where
 Running:Int
 Version:Int
 N:Int
structure de where
 ID:Int
 Name:List UInt8
structure du where
 ID:Int
 Data:List UInt8
structure bu where
 Kind:Int
 Bool_:Bool
 Int_:Int
 Str:List UInt8
 ID:Int
 Keys:List bu
 Items:List bu
 Rest:List du
structure df where
 ID:Int
 Name:List UInt8
 Type_:Int
 Critical:Bool
 HasDefault:Bool
 Default:bu
structure dr where
 Kind:Int
 Name:List UInt8
 Low:Int
 High:Int
 Max:Int
 Symbols:List de
 Members:List df
 Key:Int
 Elem:Int
 Open:Bool
structure cE where
 Types:List dr
structure aQ where
 Schema:cE
 Type_:Int
abbrev g9 :Nat:=0
abbrev qk :Nat:=1
abbrev ir :Nat:=2
def aR :aV:=⟨0,0,[]⟩
def ql :av:=⟨[],0,0⟩
def lN :ci:=⟨0,0,0⟩
def pI :de:=⟨0,[]⟩
def qP :du:=⟨0,[]⟩
def lv :bu:=⟨0,false,0,[],0,[],[],[]⟩
def pK :df:=⟨0,[],0,false,false,lv⟩
def qM :dr:=⟨0,[],0,0,0,[],[],0,0,false⟩
def kW :cE:=⟨[]⟩
def qN :aQ:=⟨kW,0⟩
def uD :Nat->Type
 | 0=>av
 | 1=>aV
 | 2=>ci
 | 3=>aQ
 | 4=>cE
 | 5=>dr
 | 6=>de
 | 7=>df
 | 8=>bu
 | 9=>du
 | _=>Bool
def uTys :Nat->List Ty
 | 0=>[.slice (.nm 1),.int .i64,.int .i64]
 | 1=>[.int .i64,.int .i64,.str]
 | 2=>[.int .u8,.int .i64,.int .i64]
 | 3=>[.slice (.nm 5),.int .i64]
 | 4=>[.slice (.nm 5)]
 | 5=>[.int .i64,.str,.int .i64,.int .i64,.int .i64,.slice (.nm 6),.slice (.nm 7),.int .i64,.int .i64,.bool]
 | 6=>[.int .i64,.str]
 | 7=>[.int .i64,.str,.int .i64,.bool,.bool,.int .i64,.bool,.int .i64,.str,.int .i64,.slice (.nm 8),.slice (.nm 8),.slice (.nm 9)]
 | 8=>[.int .i64,.bool,.int .i64,.str,.int .i64,.slice (.nm 8),.slice (.nm 8),.slice (.nm 9)]
 | 9=>[.int .i64,.str]
 | _=>[.bool]
def uFlds :(n:Nat)->uD n->List (Cell uD)
 | 0,(x:av)=>[⟨.slice (.nm 1),x.Items⟩,⟨.int .i64,x.Next⟩,⟨.int .i64,x.Cursor⟩]
 | 1,(x:aV)=>[⟨.int .i64,x.ID⟩,⟨.int .i64,x.Version⟩,⟨.str,x.Data⟩]
 | 2,(x:ci)=>[⟨.int .u8,x.Running⟩,⟨.int .i64,x.Version⟩,⟨.int .i64,x.N⟩]
 | 3,(x:aQ)=>[⟨.slice (.nm 5),x.Schema.Types⟩,⟨.int .i64,x.Type_⟩]
 | 4,(x:cE)=>[⟨.slice (.nm 5),x.Types⟩]
 | 5,(x:dr)=>[⟨.int .i64,x.Kind⟩,⟨.str,x.Name⟩,⟨.int .i64,x.Low⟩,⟨.int .i64,x.High⟩,⟨.int .i64,x.Max⟩,⟨.slice (.nm 6),x.Symbols⟩,⟨.slice (.nm 7),x.Members⟩,⟨.int .i64,x.Key⟩,⟨.int .i64,x.Elem⟩,⟨.bool,x.Open⟩]
 | 6,(x:de)=>[⟨.int .i64,x.ID⟩,⟨.str,x.Name⟩]
 | 7,(x:df)=>[⟨.int .i64,x.ID⟩,⟨.str,x.Name⟩,⟨.int .i64,x.Type_⟩,⟨.bool,x.Critical⟩,⟨.bool,x.HasDefault⟩,⟨.int .i64,x.Default.Kind⟩,⟨.bool,x.Default.Bool_⟩,⟨.int .i64,x.Default.Int_⟩,⟨.str,x.Default.Str⟩,⟨.int .i64,x.Default.ID⟩,⟨.slice (.nm 8),x.Default.Keys⟩,⟨.slice (.nm 8),x.Default.Items⟩,⟨.slice (.nm 9),x.Default.Rest⟩]
 | 8,(x:bu)=>[⟨.int .i64,x.Kind⟩,⟨.bool,x.Bool_⟩,⟨.int .i64,x.Int_⟩,⟨.str,x.Str⟩,⟨.int .i64,x.ID⟩,⟨.slice (.nm 8),x.Keys⟩,⟨.slice (.nm 8),x.Items⟩,⟨.slice (.nm 9),x.Rest⟩]
 | 9,(x:du)=>[⟨.int .i64,x.ID⟩,⟨.str,x.Data⟩]
 | _+10,(x:Bool)=>[⟨.bool,x⟩]
def uMake :(n:Nat)->List (Cell uD)->Option (uD n)
 | 0,l=>match Hs.dec uD (uTys 0) l with
  | some h=>some (⟨h.1,h.2.1,h.2.2⟩:av)
  | none=>none
 | 1,l=>match Hs.dec uD (uTys 1) l with
  | some h=>some (⟨h.1,h.2.1,h.2.2⟩:aV)
  | none=>none
 | 2,l=>match Hs.dec uD (uTys 2) l with
  | some h=>some (⟨h.1,h.2.1,h.2.2⟩:ci)
  | none=>none
 | 3,l=>match Hs.dec uD (uTys 3) l with
  | some h=>some (⟨(⟨h.1⟩:cE),h.2⟩:aQ)
  | none=>none
 | 4,l=>match Hs.dec uD (uTys 4) l with
  | some h=>some (⟨h⟩:cE)
  | none=>none
 | 5,l=>match Hs.dec uD (uTys 5) l with
  | some h=>some (⟨h.1,h.2.1,h.2.2.1,h.2.2.2.1,h.2.2.2.2.1,h.2.2.2.2.2.1,h.2.2.2.2.2.2.1,h.2.2.2.2.2.2.2.1,h.2.2.2.2.2.2.2.2.1,h.2.2.2.2.2.2.2.2.2⟩:dr)
  | none=>none
 | 6,l=>match Hs.dec uD (uTys 6) l with
  | some h=>some (⟨h.1,h.2⟩:de)
  | none=>none
 | 7,l=>match Hs.dec uD (uTys 7) l with
  | some h=>some (⟨h.1,h.2.1,h.2.2.1,h.2.2.2.1,h.2.2.2.2.1,(⟨h.2.2.2.2.2.1,h.2.2.2.2.2.2.1,h.2.2.2.2.2.2.2.1,h.2.2.2.2.2.2.2.2.1,h.2.2.2.2.2.2.2.2.2.1,h.2.2.2.2.2.2.2.2.2.2.1,h.2.2.2.2.2.2.2.2.2.2.2.1,h.2.2.2.2.2.2.2.2.2.2.2.2⟩:bu)⟩:df)
  | none=>none
 | 8,l=>match Hs.dec uD (uTys 8) l with
  | some h=>some (⟨h.1,h.2.1,h.2.2.1,h.2.2.2.1,h.2.2.2.2.1,h.2.2.2.2.2.1,h.2.2.2.2.2.2.1,h.2.2.2.2.2.2.2⟩:bu)
  | none=>none
 | 9,l=>match Hs.dec uD (uTys 9) l with
  | some h=>some (⟨h.1,h.2⟩:du)
  | none=>none
 | _+10,l=>match Hs.dec uD [.bool] l with
  | some (h:Bool)=>some h
  | none=>none
def eSItem(x:aV):List T:=[.int .i64 x.ID,.int .i64 x.Version,.str x.Data]
def eSSpool(x:av):List T:=[.slice (x.Items.map eSItem),.int .i64 x.Next,.int .i64 x.Cursor]
def eSheavelaw51Numbers(x:ci):List T:=[.int .u8 x.Running,.int .i64 x.Version,.int .i64 x.N]
def eSSymbol(x:de):List T:=[.int .i64 x.ID,.str x.Name]
def eSRaw(x:du):List T:=[.int .i64 x.ID,.str x.Data]
mutual
def eSValue :bu->List T
 | ⟨a0,a1,a2,a3,a4,a5,a6,a7⟩=>[.int .i64 a0,.bool a1,.int .i64 a2,.str a3,.int .i64 a4,.slice (eSValueL a5),.slice (eSValueL a6),.slice (a7.map eSRaw)]
def eSValueL :List bu->List (List T)
 | []=>[]
 | v::r=>eSValue v::eSValueL r
end
theorem jf :∀l,eSValueL l=l.map eSValue
 | []=>rfl
 | v::r=>by simp only[eSValueL,List.map];rw[jf r]
theorem ov(x:bu):eSValue x=[.int .i64 x.Kind,.bool x.Bool_,.int .i64 x.Int_,.str x.Str,.int .i64 x.ID,.slice (x.Keys.map eSValue),.slice (x.Items.map eSValue),.slice (x.Rest.map eSRaw)]:=by cases x;simp only[eSValue,jf]
def eSMember(x:df):List T:=[.int .i64 x.ID,.str x.Name,.int .i64 x.Type_,.bool x.Critical,.bool x.HasDefault,.int .i64 x.Default.Kind,.bool x.Default.Bool_,.int .i64 x.Default.Int_,.str x.Default.Str,.int .i64 x.Default.ID,.slice (x.Default.Keys.map eSValue),.slice (x.Default.Items.map eSValue),.slice (x.Default.Rest.map eSRaw)]
def eSType(x:dr):List T:=[.int .i64 x.Kind,.str x.Name,.int .i64 x.Low,.int .i64 x.High,.int .i64 x.Max,.slice (x.Symbols.map eSSymbol),.slice (x.Members.map eSMember),.int .i64 x.Key,.int .i64 x.Elem,.bool x.Open]
def eSSchema(x:cE):List T:=[.slice (x.Types.map eSType)]
def eSRoot(x:aQ):List T:=[.slice (x.Schema.Types.map eSType),.int .i64 x.Type_]
def uEnc :(n:Nat)->uD n->List T
 | 0,x=>eSSpool x
 | 1,x=>eSItem x
 | 2,x=>eSheavelaw51Numbers x
 | 3,x=>eSRoot x
 | 4,x=>eSSchema x
 | 5,x=>eSType x
 | 6,x=>eSSymbol x
 | 7,x=>eSMember x
 | 8,x=>eSValue x
 | 9,x=>eSRaw x
 | _+10,(x:Bool)=>[.bool x]
def Un :Uni where
 D:=uD
 dfl:=fun n=>match n with
  | 0=>ql
  | 1=>aR
  | 2=>lN
  | 3=>qN
  | 4=>kW
  | 5=>qM
  | 6=>pI
  | 7=>pK
  | 8=>lv
  | 9=>qP
  | _+10=>false
 flds:=uFlds
 make:=uMake
 tys:=uTys
 enc:=uEnc
 enc_eq:=fun n x=>match n,x with
  | 0,_=>rfl
  | 1,_=>rfl
  | 2,_=>rfl
  | 3,_=>rfl
  | 4,_=>rfl
  | 5,_=>rfl
  | 6,_=>rfl
  | 7,_=>rfl
  | 8,x=>ov x
  | 9,_=>rfl
  | _+10,_=>rfl
 mk_eq:=fun n l x h=>match n,x,h with
  | 0,x,h=>by
   simp only[uMake]at h;split at h
   . rename_i hh hd;cases h;exact Hs.dec_cells hd
   . cases h
  | 1,x,h=>by
   simp only[uMake]at h;split at h
   . rename_i hh hd;cases h;exact Hs.dec_cells hd
   . cases h
  | 2,x,h=>by
   simp only[uMake]at h;split at h
   . rename_i hh hd;cases h;exact Hs.dec_cells hd
   . cases h
  | 3,x,h=>by
   simp only[uMake]at h;split at h
   . rename_i hh hd;cases h;exact Hs.dec_cells hd
   . cases h
  | 4,x,h=>by
   simp only[uMake]at h;split at h
   . rename_i hh hd;cases h;exact Hs.dec_cells hd
   . cases h
  | 5,x,h=>by
   simp only[uMake]at h;split at h
   . rename_i hh hd;cases h;exact Hs.dec_cells hd
   . cases h
  | 6,x,h=>by
   simp only[uMake]at h;split at h
   . rename_i hh hd;cases h;exact Hs.dec_cells hd
   . cases h
  | 7,x,h=>by
   simp only[uMake]at h;split at h
   . rename_i hh hd;cases h;exact Hs.dec_cells hd
   . cases h
  | 8,x,h=>by
   simp only[uMake]at h;split at h
   . rename_i hh hd;cases h;exact Hs.dec_cells hd
   . cases h
  | 9,x,h=>by
   simp only[uMake]at h;split at h
   . rename_i hh hd;cases h;exact Hs.dec_cells hd
   . cases h
  | _+10,x,h=>by
   simp only[uMake]at h;split at h
   . rename_i hh hd;cases h;exact Hs.dec_cells hd
   . cases h
 tys_eq:=fun n x=>match n,x with
  | 0,_=>rfl
  | 1,_=>rfl
  | 2,_=>rfl
  | 3,_=>rfl
  | 4,_=>rfl
  | 5,_=>rfl
  | 6,_=>rfl
  | 7,_=>rfl
  | 8,_=>rfl
  | 9,_=>rfl
  | _+10,_=>rfl
 tyOf:=fun e=>match e with
  | 41=>some (.nm 1)
  | _=>none
 own:=[([false,false,true,true],2,.int .i64),([false,true,true,false],1,.int .i64)]
 pos:=fun n=>match n with
  | 0=>by decide
  | 1=>by decide
  | 2=>by decide
  | 3=>by decide
  | 4=>by decide
  | 5=>by decide
  | 6=>by decide
  | 7=>by decide
  | 8=>by decide
  | 9=>by decide
  | _+10=>Nat.zero_lt_one
theorem qR :Un.Total:=fun n l h=>match n,h with
 | 0,h=>by
  obtain⟨x,hx⟩:=Hs.dec_ty (D:=uD) (ts:=uTys 0) h;exact⟨_,by show uMake 0 l=_;simp only[uMake,hx];rfl⟩
 | 1,h=>by
  obtain⟨x,hx⟩:=Hs.dec_ty (D:=uD) (ts:=uTys 1) h;exact⟨_,by show uMake 1 l=_;simp only[uMake,hx];rfl⟩
 | 2,h=>by
  obtain⟨x,hx⟩:=Hs.dec_ty (D:=uD) (ts:=uTys 2) h;exact⟨_,by show uMake 2 l=_;simp only[uMake,hx];rfl⟩
 | 3,h=>by
  obtain⟨x,hx⟩:=Hs.dec_ty (D:=uD) (ts:=uTys 3) h;exact⟨_,by show uMake 3 l=_;simp only[uMake,hx];rfl⟩
 | 4,h=>by
  obtain⟨x,hx⟩:=Hs.dec_ty (D:=uD) (ts:=uTys 4) h;exact⟨_,by show uMake 4 l=_;simp only[uMake,hx];rfl⟩
 | 5,h=>by
  obtain⟨x,hx⟩:=Hs.dec_ty (D:=uD) (ts:=uTys 5) h;exact⟨_,by show uMake 5 l=_;simp only[uMake,hx];rfl⟩
 | 6,h=>by
  obtain⟨x,hx⟩:=Hs.dec_ty (D:=uD) (ts:=uTys 6) h;exact⟨_,by show uMake 6 l=_;simp only[uMake,hx];rfl⟩
 | 7,h=>by
  obtain⟨x,hx⟩:=Hs.dec_ty (D:=uD) (ts:=uTys 7) h;exact⟨_,by show uMake 7 l=_;simp only[uMake,hx];rfl⟩
 | 8,h=>by
  obtain⟨x,hx⟩:=Hs.dec_ty (D:=uD) (ts:=uTys 8) h;exact⟨_,by show uMake 8 l=_;simp only[uMake,hx];rfl⟩
 | 9,h=>by
  obtain⟨x,hx⟩:=Hs.dec_ty (D:=uD) (ts:=uTys 9) h;exact⟨_,by show uMake 9 l=_;simp only[uMake,hx];rfl⟩
 | m+10,h=>by
  obtain⟨x,hx⟩:=Hs.dec_ty (D:=uD) (ts:=[.bool]) h;exact⟨x,by show uMake (m+10) l=_;simp only[uMake,hx];rfl⟩
end
section
open Go Go.Proofs.YtbciniegpkkapaaGreat.Shv
open Tryz
set_option maxRecDepth 100000
open Go.Proofs Go.Proofs.YtbciniegpkkapaaGreat Go.Shelf
theorem lW :aT prog 18=true:=by kernel_rfl
def iw :FSpec Un:=fG Un 18 (.nm 1) 32
theorem lO :FSnd prog iw:=pd (sz:=3) (bytes:=32) (z:=[.t (.int .i64 0),.t (.int .i64 0),.t (.str [])]) func18 (by kernel_rfl) (by kernel_rfl) (by kernel_rfl) rfl rfl
theorem ix :FnC prog iw:=⟨lW,lO⟩
end
section
open Go Go.Proofs.YtbciniegpkkapaaGreat.Shv
open Tryz
set_option maxRecDepth 100000
abbrev FC(e:FEnt)(F:Hs Un.D e.ts->Option (Hs Un.D e.us)):Prop:=FnC prog (e.s F)
abbrev LC(f kk:Nat)(p:List Nat)(e:LEnt)(F:Hs Un.D e.ts->Option (OSum Un e.outs)):Prop:=LpC prog f kk p e F
def e27 :FEnt:=⟨27,[hh tI],[],[tI],hh .bool,[],[.bool],[]⟩
def e26_0 :LEnt:=⟨0,⟨[(1,hP 0 0),(3,hh .bool),(34,hh (tL 1)),(35,hh tI),(36,hh tI)],[.brow 0]⟩,[],[],[.bool,tL 1,tI,tI,.nm 0],[⟨.exit 0,⟨[(3,hh .bool)],[]⟩,[],[.bool]⟩],[]⟩
def e26 :FEnt:=⟨26,[.row 0],[],[.nm 0],hh tI,[],[tI],[e26_0]⟩
def e9 :FEnt:=⟨9,[.row 0,hh tI,hh .str],[],[.nm 0,tI,.str],.tup [.row 0,hh tI],[],[.nm 0,tI],[]⟩
def e14 :FEnt:=⟨14,[.row 0,hh tI,hh tI],[],[.nm 0,tI,tI],hh tI,[],[tI],[]⟩
def e17 :FEnt:=⟨17,[hh (.int .u8),hh tI],[],[.int .u8,tI],hh .bool,[],[.bool],[]⟩
def e28 :FEnt:=⟨28,[.c (.eptr 0 (.nm 1) 0),hP 1 0],[.arr (.nm 1),bb tI],[tI,tL 1,tI],hh tI,[.arr (.nm 1),bb tI],[tI,tL 1,tI],[]⟩
def e19_0 :LEnt:=⟨0,⟨[(0,hP 0 0),(1,hh (.int .u8)),(2,hh tI),(3,.c (.fn 28 [1])),(10,hh tI)],[.box [.arr 3,.hole tI,.hole tI],bb tI,.gone,.arr (.nm 1)]⟩,[],[],[.int .u8,tI,tI,tI,tI,tI,tL 1],[⟨.exit 0,⟨[(10,hh tI)],[.box [.arr 3,.hole tI,.hole tI],bb tI,.gone,.arr (.nm 1)]⟩,[],[tI,tI,tI,tI,tL 1]⟩,⟨.ret,⟨[(8,hh tI),(9,hh tI)],[.box [.arr 3,.hole tI,.hole tI],bb tI,.gone,.arr (.nm 1)]⟩,[],[tI,tI,tI,tI,tI,tL 1]⟩],[]⟩
def e19 :FEnt:=⟨19,[hP 0 0,hh (.int .u8),hh tI,.c (.fn 28 [1])],[.box [.arr 2,.hole tI,.hole tI],bb tI,.arr (.nm 1)],[.int .u8,tI,tI,tI,tI,tL 1],.tup [hh tI,hh tI],[.box [.arr 3,.hole tI,.hole tI],bb tI,.gone,.arr (.nm 1)],[tI,tI,tI,tI,tI,tL 1],[e19_0]⟩
def e10 :FEnt:=⟨10,[.row 0,hh (.int .u8),hh tI,hh tI],[],[.nm 0,.int .u8,tI,tI],.tup [.row 0,hh tI,hh tI],[],[.nm 0,tI,tI],[]⟩
def e11 :FEnt:=⟨11,[.row 0],[],[.nm 0],.tup [.row 0,.row 1,hh tI],[],[.nm 0,.nm 1,tI],[]⟩
def e12_0 :LEnt:=⟨0,⟨[(3,hh (.int .u8)),(10,hh (tL 1)),(11,hh tI),(12,hh tI)],[]⟩,[],[],[.int .u8,tL 1,tI,tI],[⟨.exit 0,⟨[(3,hh (.int .u8))],[]⟩,[],[.int .u8]⟩],[]⟩
def e12 :FEnt:=⟨12,[.row 0],[],[.nm 0],hh (.int .u8),[],[.int .u8],[e12_0]⟩
def e13 :FEnt:=⟨13,[.row 0,hh (.int .u8)],[],[.nm 0,.int .u8],hh .bool,[],[.bool],[]⟩
def e4_0 :LEnt:=⟨0,⟨[(1,hP 0 0),(16,.c (.arr 1)),(17,hh tI),(18,hh tI)],[.box [.hole (tL 1),.hole tI,.hole tI],.arr tI]⟩,[],[],[tI,tI,tL 1,tI,tI,tLI],[oR 0 .bool,⟨.exit 0,⟨[(1,hP 0 0)],[.box [.hole (tL 1),.hole tI,.hole tI]]⟩,[],[tL 1,tI,tI]⟩],[]⟩
def e4 :FEnt:=⟨4,[],[],[],hh .bool,[],[.bool],[e4_0]⟩
def e5_0 :LEnt:=⟨0,⟨[(1,hP 0 0),(3,hh tI),(7,hh (tL 1)),(8,hh tI),(9,hh tI)],[.brow 0]⟩,[],[],[tI,tL 1,tI,tI,.nm 0],[⟨.exit 0,⟨[(1,hP 0 0),(3,hh tI)],[.brow 0]⟩,[],[tI,.nm 0]⟩],[]⟩
def e5 :FEnt:=⟨5,[.row 0],[],[.nm 0],hh .bool,[],[.bool],[e5_0]⟩
def e16 :FEnt:=⟨16,[.row 1,hP 0 0,hP 1 0],[bb (.int .u8),bb (tL 3)],[.nm 1,.int .u8,tL 3],hh .bool,[bb (.int .u8),bb (tL 3)],[.bool,.int .u8,tL 3],[]⟩
def e29_0 :LEnt:=⟨0,⟨[(0,hh (tL 1)),(1,.c (.fn 16 [0,1])),(7,hh tI),(8,hh tI)],[bb (.int .u8),bb (tL 3)]⟩,[],[],[tL 1,tI,tI,.int .u8,tL 3],[⟨.ret,⟨[(4,hh tI)],[bb (.int .u8),bb (tL 3)]⟩,[],[tI,.int .u8,tL 3]⟩,⟨.exit 0,⟨[],[bb (.int .u8),bb (tL 3)]⟩,[],[.int .u8,tL 3]⟩],[]⟩
def e29 :FEnt:=⟨29,[hh (tL 1),.c (.fn 16 [0,1])],[bb (.int .u8),bb (tL 3)],[tL 1,.int .u8,tL 3],hh tI,[bb (.int .u8),bb (tL 3)],[tI,.int .u8,tL 3],[e29_0]⟩
def e15 :FEnt:=⟨15,[hh (tL 1),.c (.fn 16 [0,1])],[bb (.int .u8),bb (tL 3)],[tL 1,.int .u8,tL 3],hh .bool,[bb (.int .u8),bb (tL 3)],[.bool,.int .u8,tL 3],[]⟩
def e6 :FEnt:=⟨6,[.row 0,hh (tL 3),hh (.int .u8),hh tI,hh tI],[],[.nm 0,tL 3,.int .u8,tI,tI],.tup [.row 0,hh tI,hh tI,hh tI],[],[.nm 0,tI,tI,tI],[]⟩
def e35 :FEnt:=⟨35,[hh tI],[],[tI],hh .bool,[],[.bool],[]⟩
def e34_0 :LEnt:=⟨0,⟨[(1,hP 0 0),(3,hh tI),(4,hh tI)],[.brow 0]⟩,[],[],[tI,tI,.nm 0],[oR 2 tI,oX 0],[]⟩
def e34 :FEnt:=⟨34,[.row 0],[],[.nm 0],hh tI,[],[tI],[e34_0]⟩
def e22 :FEnt:=⟨22,[.row 0,hh tI,hh tI],[],[.nm 0,tI,tI],hh tI,[],[tI],[]⟩
def e23 :FEnt:=⟨23,[hh (.int .u8),hh tI],[],[.int .u8,tI],hh .bool,[],[.bool],[]⟩
def e7_0 :LEnt:=⟨0,⟨[(1,hh (tL 3)),(2,hh (.int .u8)),(3,hh tI),(4,hh tI),(5,hP 0 0),(10,hP 1 0),(15,hh tI)],[.brow 0,.box [.cap0,.hole tI,.hole tI]]⟩,[],[],[tL 3,.int .u8,tI,tI,tI,.nm 0,tI,tI],[⟨.ret,⟨[(10,hP 0 0),(11,hh tI),(12,hh tI),(13,hh tI)],[.box [.cap0,.hole tI,.hole tI]]⟩,[],[tI,tI,tI,tI,tI]⟩,⟨.exit 0,⟨[(1,hh (tL 3)),(2,hh (.int .u8)),(3,hh tI),(4,hh tI),(5,hP 0 0),(10,hP 1 0)],[.brow 0,.box [.cap0,.hole tI,.hole tI]]⟩,[],[tL 3,.int .u8,tI,tI,.nm 0,tI,tI]⟩],[]⟩
def e7 :FEnt:=⟨7,[.row 0,hh (tL 3),hh (.int .u8),hh tI,hh tI],[],[.nm 0,tL 3,.int .u8,tI,tI],.tup [.row 0,hh tI,hh tI,hh tI],[],[.nm 0,tI,tI,tI],[e7_0]⟩
def e8_0 :LEnt:=⟨0,⟨[(2,hP 0 0),(3,hP 1 0),(5,hh tI)],[.brow 0,.brow 0]⟩,[],[],[tI,.nm 0,.nm 0],[oR 4 .bool,oX 0],[]⟩
def e8 :FEnt:=⟨8,[.row 0,.row 0],[],[.nm 0,.nm 0],hh .bool,[],[.bool],[e8_0]⟩
def e3 :FEnt:=⟨3,[.row 0,.row 2],[],[.nm 0,.nm 2],hh .bool,[],[.bool],[]⟩
def tabE0 :List FEnt:=[e27,e26,e9,e14,e17,e28,e19,e10,e11,e12,e13,e4]
def tabE :List FEnt:=tabE0
theorem qO :tabE.all (okE prog)=true:=by kernel_rfl
def ez(_:Unit):Option (Bool):=some true
theorem lP :FC e4 ez:= .run qO (.k ix .n) (.m (by kernel_rfl)) 3000 fun _=>by kernel_rfl
theorem lK :ez ()=some true:=rfl
def dI(v:Int):Option (Bool):=
 some (bif decide (0<=v)then decide (v < 6)else false)
theorem iZ :FC e27 dI:= .fx
def bY(x_:Bool×List aV×Int×Int×av):Option (Bool):=
 match x_ with
 | (ok_1,t34,t35_1,t36,b)=>
 if decide (t36 < t35_1)=true then
 if inR t36 t34.length=true then
 some (t34.getD t36.toNat aR) >>=fun x0=>
 some (bif bif ok_1 then decide (1<=x0.ID)else false then decide (x0.ID < b.Next)else false) >>=fun t53=>
 (if t53=true then dI x0.Version else some false) >>=fun r=>
 some (bif bif t53 then r else false then decide ((x0.Data.length:Int)<=4096)else false) >>=fun t64=>
 some (decide (t36=0)) >>=fun t67=>
 some (subI .i64 t36 1) >>=fun t74=>
 if(inR t74 b.Items.length || (!(t64 && (!t67))))=true then
 bY (bif t64 then bif t67 then true else decide ((b.Items.getD t74.toNat aR).ID < x0.ID)else false,t34,t35_1,addI .i64 t36 1,b)
 else none
 else none
 else
 some ok_1
  partial_fixpoint
theorem l4 :LC 26 0 [0] e26_0 bY:= .rx bY.partial_correctness (.k iZ .n)
def eR(s:av):Option (Int):=
 bY (bif bif bif bif decide ((s.Items.length:Int)<=1000)then decide (1<=s.Next)else false then decide (s.Next<=4611686018427387904)else false then decide (0<=s.Cursor)else false then decide (s.Cursor<=(s.Items.length:Int))else false,s.Items,(s.Items.length:Int),0,s) >>=fun o=>
 if(!o)=true then
 some 1
 else
 some 0
theorem mm :FC e26 eR:= .fx .n (.k l4 .n)
def eG(x_:av×Int×Int):Option (Int):=
 match x_ with
 | (s,version,n)=>
 eR s >>=fun r=>
 if(!(decide (r=0)))=true then
 some r
 else
 dI version >>=fun r_1=>
 if(bif (!r_1)then true else decide (n < 0))=true then
 some 7
 else
 some 0
theorem l8 :FC e14 eG:= .fx (.k mm (.k iZ .n))
def j9(x_:Int×Int):Option (Bool):=
 match x_ with
 | (running,version)=>
 if decide (0<=version)=true then
 some (decide (andI .u8 (shrI .u8 running version) 1=1))
 else none
theorem mP :FC e17 j9:= .fx
def ce(x_:Int×List aV×Int×Int×av):Option (Int×av):=
 match x_ with
 | (n_1,t7,t8_1,t9,b_1)=>
 if decide (t9 < t8_1)=true then
 if inR t9 t7.length=true then
 ce (addI .i64 n_1 ((t7.getD t9.toNat aR).Data.length:Int),t7,t8_1,addI .i64 t9 1,b_1)
 else none
 else
 some (n_1,b_1)
  partial_fixpoint
theorem lH :LC 5 0 [0] e5_0 ce:= .rx ce.partial_correctness
def eA(s:av):Option (Bool):=
 ce (0,s.Items,(s.Items.length:Int),0,s) >>=fun o=>
 some (bif decide ((o.2.Items.length:Int)<=1002)then decide (o.1<=20000)else false)
theorem lQ :FC e5 eA:= .fx .n (.k lH .n)
def iH(x_:aV×Int×List aQ):Option (Bool×Int×List aQ):=
 match x_ with
 | (x0,b,b_1)=>
 j9 (b,x0.Version) >>=fun r=>
 some (bif (!r)then decide ((b_1.length:Int)<=x0.Version)else false,b,b_1)
theorem lX :FC e16 iH:= .fx (.k mP .n)
def eo(x_:List aV×Int×Int×Int×List aQ):Option ((Int×Int×List aQ) ⊕ (Int×List aQ)):=
 match x_ with
 | (s_1,t7_1,t8,b_6,b_7)=>
 if decide (t8 < t7_1)=true then
 if inR t8 s_1.length=true then
 iH (s_1.getD t8.toNat aR,b_6,b_7) >>=fun r=>
 if r.1=true then
 some (.inl (t8,r.2.1,r.2.2))
 else
 eo (s_1,t7_1,addI .i64 t8 1,r.2.1,r.2.2)
 else none
 else
 some (.inr (b_6,b_7))
  partial_fixpoint
theorem lD :LC 29 2 [0] e29_0 eo:= .rx eo.partial_correctness (.k lX .n)
def ip(x_:List aV×Int×List aQ):Option (Int×Int×List aQ):=
 match x_ with
 | (s,b,b_1)=>
 eo (s,(s.length:Int),0,b,b_1) >>=fun o=>
 match o with
 | .inl o_1=>
 some (o_1.1,o_1.2.1,o_1.2.2)
 | .inr o_2=>
 some ((-1),o_2.1,o_2.2)
theorem lF :FC e29 ip:= .fx .n (.k lD .n)
def io(x_:List aV×Int×List aQ):Option (Bool×Int×List aQ):=
 match x_ with
 | (s,b,b_1)=>
 ip (s,b,b_1) >>=fun r=>
 some (decide (0<=r.1),r.2.1,r.2.2)
theorem lE :FC e15 io:= .fx (.k lF .n)
def eH(x_:av×List aQ×Int×Int×Int):Option (av×Int×Int×Int):=
 match x_ with
 | (s,roots,running,version,n)=>
 eG (s,version,n) >>=fun r=>
 if(!(decide (r=0)))=true then
 some ((⟨[],0,0⟩:av),0,0,r)
 else
 some (decide ((roots.length:Int)<=version)) >>=fun t28=>
 if(!t28)=true then
 io (s.Items,running,roots) >>=fun r_1=>
 if(bif t28 then true else r_1.1)=true then
 some ((⟨[],0,0⟩:av),0,0,6)
 else
 ei 32 s.Items >>=fun r_5=>
 none
 else
 if(bif t28 then true else false)=true then
 some ((⟨[],0,0⟩:av),0,0,6)
 else
 ei 32 s.Items >>=fun r_6=>
 none
theorem l9 :FC e6 eH:= .fx (.k l8 (.k lE (.k ix .n)))
def dw(v:Int):Option (Bool):=
 some (bif decide (0<=v)then decide (v < 6)else false)
theorem iq :FC e35 dw:= .fx
def cf(x_:Int×Int×av):Option ((Int) ⊕ (Unit)):=
 match x_ with
 | (before,i,b)=>
 if decide (i < (b.Items.length:Int))=true then
 if inR i b.Items.length=true then
 some (b.Items.getD i.toNat aR) >>=fun x0=>
 some (bif decide (x0.ID<=before)then true else decide (b.Next<=x0.ID)) >>=fun t55=>
 (if(!t55)=true then dw x0.Version else some false) >>=fun r=>
 if(bif bif t55 then true else(!r)then true else decide (4096 < (x0.Data.length:Int)))=true then
 some (.inl 1)
 else
 cf (x0.ID,addI .i64 i 1,b)
 else none
 else
 some (.inr ())
  partial_fixpoint
theorem lI :LC 34 0 [0] e34_0 cf:= .rx cf.partial_correctness (.k iq .n)
def eB(s:av):Option (Int):=
 if(bif bif bif bif decide (1000 < (s.Items.length:Int))then true else decide (s.Next < 1)then true else decide (4611686018427387904 < s.Next)then true else decide (s.Cursor < 0)then true else decide ((s.Items.length:Int) < s.Cursor))=true then
 some 1
 else
 cf (0,0,s) >>=fun o=>
 match o with
 | .inl o_1=>
 some o_1
 | .inr o_2=>
 some 0
theorem lR :FC e34 eB:= .fx .n (.k lI .n)
def eC(x_:av×Int×Int):Option (Int):=
 match x_ with
 | (s,v,n)=>
 eB s >>=fun r=>
 if(!(decide (r=0)))=true then
 some 1
 else
 dw v >>=fun r_1=>
 if(bif (!r_1)then true else decide (n < 0))=true then
 some 7
 else
 some 0
theorem lS :FC e22 eC:= .fx (.k lR (.k iq .n))
def iE(x_:Int×Int):Option (Bool):=
 match x_ with
 | (running,v)=>
 if decide (0<=v)=true then
 some (decide (andI .u8 (shrI .u8 running v) 1=1))
 else none
theorem lT :FC e23 iE:= .fx
def eu(x_:List aQ×Int×Int×Int×Int×av×Int×Int):Option ((Int×Int×Int×Int×Int) ⊕ (List aQ×Int×Int×Int×av×Int×Int)):=
 match x_ with
 | (roots_2,running_2,v_2,n_2,i,b_5,b_6,b_7)=>
 if decide (i < (b_5.Items.length:Int))=true then
 if inR i b_5.Items.length=true then
 iE (running_2,(b_5.Items.getD i.toNat aR).Version) >>=fun r_1=>
 some (!r_1) >>=fun t50=>
 if(inR i b_5.Items.length || (!t50))=true then
 if(bif t50 then decide ((roots_2.length:Int)<=(b_5.Items.getD i.toNat aR).Version)else false)=true then
 some (.inl (0,0,6,0,0))
 else
 eu (roots_2,running_2,v_2,n_2,addI .i64 i 1,b_5,b_6,b_7)
 else none
 else none
 else
 some (.inr (roots_2,running_2,v_2,n_2,b_5,b_6,b_7))
  partial_fixpoint
theorem lG :LC 7 0 [0] e7_0 eu:= .rx eu.partial_correctness (.k lT .n)
def ew(x_:av×List aQ×Int×Int×Int):Option (av×Int×Int×Int):=
 match x_ with
 | (s,roots,running,v,n)=>
 eC (s,v,n) >>=fun r=>
 if(!(decide (r=0)))=true then
 some ((⟨[],0,0⟩:av),0,0,r)
 else
 if decide ((roots.length:Int)<=v)=true then
 some ((⟨[],0,0⟩:av),0,0,6)
 else
 eu (roots,running,v,n,0,s,0,0) >>=fun o=>
 match o with
 | .inl o_1=>
 some ((⟨[],o_1.2.2.2.1,o_1.2.2.2.2⟩:av),o_1.1,o_1.2.1,o_1.2.2.1)
 | .inr o_2=>
 none
theorem lL :FC e7 ew:= .fx (.k lS .n) (.k lG .n)
def cg(x_:Int×av×av):Option ((Bool) ⊕ (Unit)):=
 match x_ with
 | (i,b_1,b_2)=>
 if decide (i < (b_1.Items.length:Int))=true then
 if inR i b_1.Items.length=true then
 some (b_1.Items.getD i.toNat aR) >>=fun x0=>
 if inR i b_2.Items.length=true then
 some (b_2.Items.getD i.toNat aR) >>=fun x0_1=>
 if(!(eqI x0.ID x0_1.ID && (eqI x0.Version x0_1.Version && (eqS x0.Data x0_1.Data && true))))=true then
 some (.inl false)
 else
 cg (addI .i64 i 1,b_1,b_2)
 else none
 else none
 else
 some (.inr ())
  partial_fixpoint
theorem lM :LC 8 0 [0] e8_0 cg:= .rx cg.partial_correctness
def dA(x_:av×av):Option (Bool):=
 match x_ with
 | (a,b)=>
 if(bif bif (!(decide (a.Next=b.Next)))then true else(!(decide (a.Cursor=b.Cursor)))then true else(!(decide ((a.Items.length:Int)=(b.Items.length:Int)))))=true then
 some false
 else
 cg (0,a,b) >>=fun o=>
 match o with
 | .inl o_1=>
 some o_1
 | .inr o_2=>
 some true
theorem lU :FC e8 dA:= .fx .n (.k lM .n)
def ep(x_:av×ci):Option (Bool):=
 match x_ with
 | (s,x0)=>
 ez () >>=fun r=>
 some (!r) >>=fun t14=>
 (if(!t14)=true then eA s else some false) >>=fun r_1=>
 if(bif t14 then true else(!r_1))=true then
 ez () >>=fun r_2=>
 some r_2
 else
 eH (s,[],x0.Running,x0.Version,x0.N) >>=fun r_3=>
 ew (s,[],x0.Running,x0.Version,x0.N) >>=fun r_8=>
 some (bif bif decide (r_3.2.2.2=r_8.2.2.2)then decide (r_3.2.1=r_8.2.1)else false then decide (r_3.2.2.1=r_8.2.2.1)else false) >>=fun t59=>
 (if t59=true then dA (r_3.1,r_8.1)else some false) >>=fun r_13=>
 some (bif t59 then r_13 else false)
theorem qQ :FC e3 ep:= .fx (.k lP (.k lQ (.k l9 (.k lL (.k lU .n)))))
end
section
open Go Go.Proofs.YtbciniegpkkapaaGreat.Shv
set_option maxRecDepth 100000
def dq(nx before:Int)(x:aV):Bool:=
 decide (before < x.ID) && decide (x.ID < nx) && (decide (0<=x.Version) && decide (x.Version < 6)) && decide ((x.Data.length:Int)<=4096)
def goodS(nx:Int):Int->List aV->Bool
 | _,[]=>true
 | before,x::r=>dq nx before x && goodS nx x.ID r
def cM(L:List aV)(k:Nat):Int:=if k=0 then 0 else(L.getD (k - 1) aR).ID
def headB(s:av):Bool:=
 decide ((s.Items.length:Int)<=1000) && decide (1<=s.Next) && decide (s.Next<=4611686018427387904) && decide (0<=s.Cursor) && decide (s.Cursor<=(s.Items.length:Int))
def bh(s:av):Bool:=headB s && goodS s.Next 0 s.Items
abbrev Fits(s:av):Prop:=s.Items.length<=140737488351232
def goodT(nx:Int):Int->List aV->Bool
 | _,[]=>true
 | before,x::r=>decide (1<=x.ID) && dq nx before x && goodT nx x.ID r
theorem kX{nx:Int}:∀{L:List aV} {before:Int},0<=before->goodT nx before L=goodS nx before L
 | [],_,_=>rfl
 | x::r,before,h=>by
  unfold goodT goodS;by_cases hx:1<=x.ID
  . rw[kX (by omega)];simp[hx]
  . have:dq nx before x=false:=by unfold dq;simp;omega
    simp[this]
theorem kF{α:Type}{L:List α}{d:α}{k:Nat}(h:k < L.length):L.drop k=L.getD k d::L.drop (k+1):=by
 rw[List.drop_eq_getElem_cons h];simp[List.getD,List.getElem?_eq_getElem h]
theorem pL (s : av) (hs : Fits s): ∀ (m k : Nat) (ok : Bool), k + m = s.Items.length ->
 bY (ok,s.Items,(s.Items.length:Int),(k:Int),s)=some (ok && goodT s.Next (cM s.Items k) (s.Items.drop k)):=by
 intro m
 induction m with
 | zero=>
  intro k ok h;rw[bY.eq_1];rw[if_neg (by simp;omega),List.drop_eq_nil_of_le (by omega)];simp[goodT]
 | succ m ih=>
  intro k ok h;have hk:k < s.Items.length:=by omega
  unfold Fits at hs;rw[bY.eq_1];rw[if_pos (by simp;omega),if_pos (dd hk)];simp only[oZ4,oZ3,dI,lu,gR];rw[if_pos ?_]
  . rw[fH (by omega) (by omega),show((k:Int)+1)=((k+1:Nat):Int) by simp,ih (k+1) _ (by omega),kF (d:=aR) hk]
    congr 1
    have e0:cM s.Items (k+1)=(s.Items.getD k aR).ID:=by simp[cM]
    rw[e0];simp only[goodT,dq];by_cases hk0:k=0
    . subst hk0;have e3:∀x:Int,decide (0 < x)=decide (1<=x):=fun x=>by congr 1
      simp only[cM,if_true,e3];generalize s.Items.getD 0 aR=x;by_cases a1:1<=x.ID <;> by_cases a2:x.ID < s.Next <;> by_cases a3:0<=x.Version <;> by_cases a4:x.Version < 6 <;> by_cases a5:(x.Data.length:Int)<=4096 <;> cases ok <;> simp[a1,a2,a3,a4,a5]
    . have e1:(subI .i64 (k:Int) 1).toNat=k - 1:=by rw[lC (by omega) (by omega)];omega
      have e2:¬((k:Int)=0):=by omega
      simp only[e1,e2,cM,hk0,if_false];generalize s.Items.getD k aR=x;generalize s.Items.getD (k - 1) aR=y;by_cases a0:y.ID < x.ID <;> by_cases a1:1<=x.ID <;> by_cases a2:x.ID < s.Next <;> by_cases a3:0<=x.Version <;> by_cases a4:x.Version < 6 <;> by_cases a5:(x.Data.length:Int)<=4096 <;> cases ok <;> simp[a0,a1,a2,a3,a4,a5]
  . by_cases hk0:k=0
    . subst hk0;simp
    . rw[lC (by omega) (by omega),show((k:Int) - 1)=((k - 1:Nat):Int) by omega,dd (by omega)];rfl
theorem condF{a b:Bool}:(bif a then b else false)=(a && b):=by cases a <;> rfl
theorem condT{a b:Bool}:(bif a then true else b)=(a || b):=by cases a <;> rfl
theorem me{s:av}(hs:Fits s):eR s=some (if bh s=true then 0 else 1):=by
 have h:=pL s hs s.Items.length 0 (headB s) (by omega);rw[List.drop_zero,kX (by simp[cM]),show cM s.Items 0=0 from rfl,Int.natCast_zero]at h;unfold eR;simp only[condF]
 change (bY (headB s,s.Items,(s.Items.length:Int),0,s) >>=fun o=>if(!o)=true then some 1 else some 0)=_
 rw[h];simp only[oZ4,oZ3]
 change (if(!bh s)=true then some 1 else some 0)=_
 cases bh s <;> rfl
theorem nk (s : av) (hs : Fits s): ∀ (m k : Nat) (before : Int), k + m = s.Items.length ->
 cf (before,(k:Int),s)=some (if goodS s.Next before (s.Items.drop k)=true then .inr ()else .inl 1):=by
 intro m
 induction m with
 | zero=>
  intro k before h;rw[cf.eq_1];rw[if_neg (by simp;omega),List.drop_eq_nil_of_le (by omega)];simp[goodS]
 | succ m ih=>
  intro k before h;have hk:k < s.Items.length:=by omega
  unfold Fits at hs;rw[cf.eq_1];rw[if_pos (by simp;omega),if_pos (dd hk)];simp only[oZ4,oZ3,dw,lu,gR,condF,condT];rw[fH (by omega) (by omega),show((k:Int)+1)=((k+1:Nat):Int) by simp,ih (k+1) _ (by omega),kF (d:=aR) hk];simp only[goodS,dq];generalize s.Items.getD k aR=x
  by_cases a0:before < x.ID <;> by_cases a2:x.ID < s.Next <;> by_cases a3:0<=x.Version <;> by_cases a4:x.Version < 6 <;> by_cases a5:(x.Data.length:Int)<=4096 <;>
   simp[a0,a2,a3,a4,a5,Int.not_le.2,Int.not_lt.1] <;> omega
theorem nl{s:av}(hs:Fits s):eB s=some (if bh s=true then 0 else 1):=by
 have h:=nk s hs s.Items.length 0 0 (by omega);rw[List.drop_zero,Int.natCast_zero]at h;unfold eB;simp only[condT,h,oZ4,oZ3];unfold bh headB
 cases goodS s.Next 0 s.Items <;> by_cases a1:(s.Items.length:Int)<=1000 <;> by_cases a2:1<=s.Next <;> by_cases a3:s.Next<=4611686018427387904 <;> by_cases a4:0<=s.Cursor <;> by_cases a5:s.Cursor<=(s.Items.length:Int) <;>
  simp[a1,a2,a3,a4,a5,Int.not_le.2,Int.not_lt.1] <;> omega
theorem pM (s : av) (hs : Fits s): ∀ (m k : Nat) (n : Int), k + m = s.Items.length ->
 ∃n',ce (n,s.Items,(s.Items.length:Int),(k:Int),s)=some (n',s):=by
 intro m
 induction m with
 | zero=>
  intro k n h;rw[ce.eq_1];rw[if_neg (by simp;omega)];exact⟨_,rfl⟩
 | succ m ih=>
  intro k n h;have hk:k < s.Items.length:=by omega
  unfold Fits at hs;rw[ce.eq_1];rw[if_pos (by simp;omega),if_pos (dd hk),fH (a:=(k:Int)) (by omega) (by omega),show((k:Int)+1)=((k+1:Nat):Int) by simp];exact ih (k+1) _ (by omega)
theorem ow{s:av}(hs:Fits s):∃b,eA s=some b:=by
 obtain⟨n,hn⟩:=pM s hs s.Items.length 0 0 (by omega);unfold eA;rw[Int.natCast_zero]at hn;rw[hn];exact⟨_,rfl⟩
def en :av:=⟨[],0,0⟩
theorem l5{s:av}(hs:Fits s)(v n:Int):eG (s,v,n)=some (if bh s=true then(if(decide (0<=v) && decide (v < 6) && decide (0<=n))=true then 0 else 7)else 1):=by
 unfold eG;dsimp only;rw[me hs];simp only[oZ4,oZ3,dI,condF,condT];by_cases hv:bh s=true
 . rw[if_pos hv,if_neg (by simp),if_pos hv];by_cases a1:0<=v <;> by_cases a2:v < 6 <;> by_cases a3:0<=n <;> simp[a1,a2,a3,Int.not_lt.1,Int.not_le.2] <;> omega
 . rw[if_neg hv,if_pos (by simp),if_neg hv]
theorem mQ{s:av}(hs:Fits s)(v n:Int):eC (s,v,n)=some (if bh s=true then(if(decide (0<=v) && decide (v < 6) && decide (0<=n))=true then 0 else 7)else 1):=by
 unfold eC;dsimp only;rw[nl hs];simp only[oZ4,oZ3,dw,condF,condT];by_cases hv:bh s=true
 . rw[if_pos hv,if_neg (by simp),if_pos hv];by_cases a1:0<=v <;> by_cases a2:v < 6 <;> by_cases a3:0<=n <;> simp[a1,a2,a3,Int.not_lt.1,Int.not_le.2] <;> omega
 . rw[if_neg hv,if_pos (by simp),if_neg hv]
theorem qm(s:av)(hs:Fits s):∀(m k:Nat),k+m=s.Items.length->cg ((k:Int),s,s)=some (.inr ()):=by
 intro m
 induction m with
 | zero=>
  intro k h;rw[cg.eq_1];rw[if_neg (by simp;omega)]
 | succ m ih=>
  intro k h;have hk:k < s.Items.length:=by omega
  unfold Fits at hs;rw[cg.eq_1];rw[if_pos (by simp;omega),if_pos (dd hk)];simp only[oZ4,oZ3,gR,if_pos (dd hk)];rw[if_neg (by simp[eqI,eqS]),fH (by omega) (by omega),show((k:Int)+1)=((k+1:Nat):Int) by simp,ih (k+1) (by omega)]
theorem pf{s:av}(hs:Fits s):dA (s,s)=some true:=by
 have h:=qm s hs s.Items.length 0 (by omega);rw[Int.natCast_zero]at h;unfold dA;dsimp only;rw[if_neg (by simp),h];rfl
theorem pN{s:av}(hs:Fits s)(r v n:Int):eH (s,[],r,v,n)=some (en,0,0,if bh s=true then(if(decide (0<=v) && decide (v < 6) && decide (0<=n))=true then 6 else 7)else 1):=by
 rw[eH];rw[l5 hs];simp only[oZ4,oZ3];by_cases hv:bh s=true
 . rw[if_pos hv,if_pos hv];by_cases hk:(decide (0<=v) && decide (v < 6) && decide (0<=n))=true
   . rw[if_pos hk,if_pos hk];simp only[Bool.and_eq_true,decide_eq_true_eq]at hk;have:((([]:List aQ).length:Int)<=v):=by simp;omega
     rw[if_neg (by simp),if_neg (by simp;omega),if_pos (by simp;omega)];rfl
   . rw[if_neg hk,if_neg hk,if_pos (by simp)];rfl
 . rw[if_neg hv,if_neg hv,if_pos (by simp)];rfl
theorem pO{s:av}(hs:Fits s)(r v n:Int):ew (s,[],r,v,n)=some (en,0,0,if bh s=true then(if(decide (0<=v) && decide (v < 6) && decide (0<=n))=true then 6 else 7)else 1):=by
 rw[ew];rw[mQ hs];simp only[oZ4,oZ3];by_cases hv:bh s=true
 . rw[if_pos hv,if_pos hv];by_cases hk:(decide (0<=v) && decide (v < 6) && decide (0<=n))=true
   . rw[if_pos hk,if_pos hk];simp only[Bool.and_eq_true,decide_eq_true_eq]at hk;rw[if_neg (by simp),if_pos (by simp;omega)];rfl
   . rw[if_neg hk,if_neg hk,if_pos (by simp)];rfl
 . rw[if_neg hv,if_neg hv,if_pos (by simp)];rfl
theorem pg{s:av}(hs:Fits s)(x:ci):ep (s,x)=some true:=by
 rw[ep,lK];obtain⟨b,hb⟩:=ow hs;simp only[oZ4,oZ3,Bool.not_true,Bool.not_false,if_true,hb];cases b with
 | false=>simp
 | true=>
  rw[if_neg (by simp),pN hs,oZ3,pO hs,oZ3];have:dA (en,en)=some true:=pf (by unfold Fits;simp[en]);simp[this]
theorem law_SpoolErrors(h:Hs Un.D [.nm g9,.nm ir])(hk:Ok Un [.nm g9,.nm ir] h):ep h=some true:=by
 obtain⟨s,x⟩:=h;refine pg ?_ x;have h1:=hk ⟨.nm g9,s⟩ (List.mem_cons_self ..) ⟨.slice (.nm qk),s.Items⟩ (.head _);cases h1 with
 | slice _ _ h2 _=>exact h2
end
end Go.Proofs.YtbciniegpkkapaaGreat
