/- The library of this proof, part A: an abstract machine for the code of the program, and its soundness. -/
import Derived.LoopN
import Derived.Calls
import Derived.Laws.Sem
import Derived.Laws.World
import Derived.Laws.Cells
import Derived.Below
import Derived.Laws.Strings
import Derived.Laws.StructEq
import Derived.Laws.BytesString

namespace Go.Proofs.YtkbmjabicjpmjaaGreatDoor.Shv
set_option linter.all false
section
theorem oZ1 {α : Type _} {b : α} {β : Type _} {x : Option β} {f : β -> α}: Option.map f x = some b ↔ ∃ a, x = some a /\ f a = b := Option.map_eq_some_iff
theorem oZ2 {α : Type _} {b : α} {β : Type _} {x : Option β} {f : β -> Option α}: x.bind f = some b ↔ ∃ a, x = some a /\ f a = some b := Option.bind_eq_some_iff
theorem oZ3 {α : Type _} {β : Type _} (a : α) (f : α -> Option β): (some a).bind f = f a := Option.bind_some ..
theorem oZ4.{u} {α β : Type u}: (bind : Option α -> (α -> Option β) -> Option β) = Option.bind := Option.bind_eq_bind
open Go
inductive T where
 | bool (b:Bool)
 | int (k:IntKind) (n:Int)
 | str (s:List UInt8)
 | slice (es:List (List T))
inductive C where
 | t (x:T)
 | ptr (b o:Nat)
 | eptr (b sz i o:Nat)
 | iptr (ts:List T) (o:Nat)
 | arr (b sz off len:Nat)
 | win (b sz off len:Nat)
 | mp (b:Nat)
 | sptr (b:Nat)
 | bufc (b len:Nat)
 | cap0
 | nilp
 | nilfn
 | fn (f:Nat) (caps:List Nat)
 | dead
inductive V where
 | c (x:C)
 | agg (cs:List C)
 | tup (vs:List V)
inductive Blk where
 | box (cs:List C)
 | arr (sz:Nat) (es:List (List T))
 | set (ks:List (List UInt8))
 | buf (E:TypeId) (s:List UInt8)
 | bld (E:TypeId) (c:C)
 | arro (sz:Nat) (es:List (List T)) (i o:Nat) (c:C)
abbrev Stab :=Nat->Nat->Prop
abbrev Phi :=Nat->Nat×Nat
def aD :Nat:=9223372036854775807
def az :Nat:=281474976710656
inductive RT (w:World) (S:Stab):T->Value->Prop
 | bool (b:Bool):RT w S (.bool b) (.bool b)
 | int (k:IntKind) (n:Int):RT w S (.int k n) (.int k n)
 | str (s:ByteArray) (h:s.size<=aD):RT w S (.str s.data.toList) (.string s)
 | slice (es : List (List T)) (a : Option Addr) (cap sz b o : Nat) (f : Nat -> Nat -> Value)
  (hcap:es.length<=cap) (hmax:es.length<=az)
  (hsz:∀e,e∈es->e.length=sz)
  (ha:es≠[]->a=some ⟨b,o,none⟩)
  (hc:∀i j,i < es.length->j < sz->S b (o+i*sz+j)/\w.cell? ⟨b,o+i*sz+j,none⟩=some (f i j))
  (hv:∀i j e t,es[i]?=some e->e[j]?=some t->RT w S t (f i j)):
  RT w S (.slice es) (.slice a es.length cap)
structure Mono (w:World) (S:Stab) (w':World) (S':Stab):Prop where
 sub:∀b j,S b j->S' b j
 cell:∀b j,S b j->w'.cell? ⟨b,j,none⟩=w.cell? ⟨b,j,none⟩
theorem Mono.refl(w:World)(S:Stab):Mono w S w S:=⟨fun _ _ h=>h,fun _ _ _=>rfl⟩
theorem Mono.trans{w S w' S' w'' S''}(h:Mono w S w' S')(k:Mono w' S' w'' S''):Mono w S w'' S'':=
 ⟨fun b j hb=>k.sub b j (h.sub b j hb),fun b j hb=>(k.cell b j (h.sub b j hb)).trans (h.cell b j hb)⟩
theorem RT.mono{w S w' S'}(m:Mono w S w' S'){t v}(h:RT w S t v):RT w' S' t v:=by
 induction h with
 | bool b=>exact .bool b
 | int k n=>exact .int k n
 | str s h=>exact .str s h
 | slice es a cap sz b o f hcap hmax hsz ha hc hv ih=>
  exact .slice es a _ sz b o f hcap hmax hsz ha
   (fun i j hi hj=>⟨m.sub _ _ (hc i j hi hj).1,by rw[m.cell _ _ (hc i j hi hj).1];grind⟩) ih
theorem RT.oneCell{w S t v}(h:RT w S t v):v.oneCell'=true:=by cases h <;> rfl
def RC(φ:Phi)(w:World)(S:Stab):C->Value->Prop
 | .t x,v=>RT w S x v
 | .ptr b o,v=>v= .pointer (some ⟨(φ b).1,o,none⟩)
 | .eptr b sz i o,v=>v= .pointer (some ⟨(φ b).1,i*sz+o,none⟩)
 | .iptr ts o, v => ∃ (blk off : Nat) (f : Nat -> Value), v = .pointer (some ⟨blk, off + o, none⟩) /\
  ∀j t,ts[j]?=some t->S blk (off+j)/\w.cell? ⟨blk,off+j,none⟩=some (f j)/\RT w S t (f j)
 | .arr b sz off len,v=>∃a,v= .slice a len ((φ b).2 - off)/\((φ b).2≠0->a=some ⟨(φ b).1,off*sz,none⟩)/\off+len<=(φ b).2
 | .win b sz off len,v=>∃a cap,v= .slice a len cap/\(len≠0->a=some ⟨(φ b).1,off*sz,none⟩)/\len<=cap
 | .mp b,v=>v= .map (some (φ b).1)
 | .bufc b len,v=>len<=(φ b).2/\((φ b).2=0->v= .slice none 0 0)/\((φ b).2≠0->v= .slice (some ⟨(φ b).1,0,none⟩) len (φ b).2)
 | .sptr b,v=>∃p,v= .pointer p/\((φ b).2≠0->p=some ⟨(φ b).1,0,none⟩)
 | .cap0,v=>∃a,v= .slice a 0 0
 | .nilp,v=>v= .pointer none
 | .nilfn,v=>v= .nilFunc
 | .fn f caps,v=>v= .func (.func f) #[] (caps.map fun b=>Value.pointer (some ⟨(φ b).1,0,none⟩)).toArray
 | .dead,v=>v.oneCell'=true
theorem RC.oneCell{φ w S c v}(h:RC φ w S c v):v.oneCell'=true:=by
 cases c with
 | t x=>exact RT.oneCell h
 | iptr ts o=>obtain⟨_,_,_,rfl,_⟩:=h;rfl
 | arr b sz off len=>obtain⟨_,rfl,_⟩:=h;rfl
 | win b sz off len=>obtain⟨_,_,rfl,_⟩:=h;rfl
 | sptr b=>obtain⟨_,rfl,_⟩:=h;rfl
 | bufc b len=>
  by_cases h0:(φ b).2=0
  . rw[h.2.1 h0];rfl
  . rw[h.2.2 h0];rfl
 | cap0=>obtain⟨_,rfl⟩:=h;rfl
 | dead=>exact h
 | _=>cases h;rfl
def C.bnd(n:Nat->Bool):C->Bool
 | .ptr b _=>n b
 | .eptr b _ _ _=>n b
 | .arr b _ _ _=>n b
 | .win b _ _ _=>n b
 | .mp b=>n b
 | .sptr b=>n b
 | .bufc b _=>n b
 | .fn _ caps=>caps.all fun b=>n b
 | _=>true
def V.bnd(n:Nat->Bool):V->Bool
 | .c x=>x.bnd n
 | .agg cs=>cs.all (C.bnd n)
 | .tup vs=>V.bnds n vs
where V.bnds (n:Nat->Bool):List V->Bool
 | []=>true
 | v::vs=>v.bnd n && V.bnds n vs
theorem RC.mono{φ φ':Phi}{w S w' S'}(m:Mono w S w' S'){n:Nat->Bool}(hφ:∀b,n b=true->φ' b=φ b){c v}(hb:c.bnd n=true)(h:RC φ w S c v):RC φ' w' S' c v:=by
 cases c with
 | t x=>exact RT.mono m h
 | ptr b o=>grind[C.bnd,RC]
 | eptr b sz i o=>grind[C.bnd,RC]
 | iptr ts o=>
  obtain⟨blk,off,f,rfl,hh⟩:=h;exact⟨blk,off,f,rfl,fun j t ht=>⟨m.sub _ _ (hh j t ht).1,by rw[m.cell _ _ (hh j t ht).1];grind,RT.mono m (hh j t ht).2.2⟩⟩
 | arr b sz off len=>grind[C.bnd,RC]
 | win b sz off len=>grind[C.bnd,RC]
 | mp b=>grind[C.bnd,RC]
 | sptr b=>grind[C.bnd,RC]
 | bufc b len=>grind[C.bnd,RC]
 | cap0=>exact h
 | nilp=>exact h
 | nilfn=>exact h
 | fn f caps=>
  grind[RC,List.map_congr_left,C.bnd]
 | dead=>exact h
inductive All2 {α β:Type} (R:α->β->Prop):List α->List β->Prop
 | nil:All2 R [] []
 | cons {a b l m}:R a b->All2 R l m->All2 R (a::l) (b::m)
theorem All2.imp{α β:Type}{R R':α->β->Prop}{l m}(h:All2 R l m)(k:∀a b,a∈l->R a b->R' a b):All2 R' l m:=by
 induction h with
 | nil=>exact .nil
 | cons hab _ ih=>exact .cons (k _ _ (by simp) hab) (ih fun a b ha=>k a b (by grind))
theorem All2.length{α β:Type}{R:α->β->Prop}{l:List α}{m:List β}(h:All2 R l m):l.length=m.length:=by
 induction h <;>grind
theorem All2.get{α β:Type}{R:α->β->Prop}{l:List α}{m:List β}(h:All2 R l m){i:Nat}{a:α}(ha:l[i]?=some a):∃b,m[i]?=some b/\R a b:=by
 induction h generalizing i <;>grind
theorem All2.of_get{α β:Type}{R:α->β->Prop}:∀{l:List α} {m:List β},l.length=m.length->(∀(i:Nat) a b,l[i]?=some a->m[i]?=some b->R a b)->All2 R l m
 | [],[],_,_=>.nil
 | [],_::_,h,_=>by grind
 | _::_,[],h,_=>by grind
 | a::l,b::m,h,k=>.cons (k 0 a b (by rfl) (by rfl)) (All2.of_get (by grind) fun i x y hx hy=>k (i+1) x y (by grind) (by grind))
theorem All2.append{α β:Type}{R:α->β->Prop}{l l':List α}{m m':List β}(h:All2 R l m)(h':All2 R l' m'):All2 R (l++l') (m++m'):=by
 induction h with
 | nil=>grind
 | cons hab _ ih=>exact .cons hab ih
theorem All2.drop{α β:Type}{R:α->β->Prop}{l:List α}{m:List β}(h:All2 R l m)(k:Nat):All2 R (l.drop k) (m.drop k):=by
 induction h generalizing k with
 | nil=>simp;exact .nil
 | cons hab ht ih=>cases k with
  | zero=>exact .cons hab ht
  | succ k=>grind
theorem All2.take{α β:Type}{R:α->β->Prop}{l:List α}{m:List β}(h:All2 R l m)(k:Nat):All2 R (l.take k) (m.take k):=by
 induction h generalizing k with
 | nil=>simp;exact .nil
 | cons hab _ ih=>cases k with
  | zero=>exact .nil
  | succ k=>exact .cons hab (ih k)
inductive RV (φ:Phi) (w:World) (S:Stab):V->Value->Prop
 | c {x v}:RC φ w S x v->RV φ w S (.c x) v
 | agg {cs vs}:All2 (RC φ w S) cs vs->RV φ w S (.agg cs) (.agg vs.toArray)
 | tup (vs : List V) (xs : List Value) (hl : vs.length = xs.length) (h : ∀ (i : Nat) v x, vs[i]? = some v -> xs[i]? = some x -> RV φ w S v x):
  RV φ w S (.tup vs) (.tuple xs.toArray)
theorem bQ{n:Nat->Bool}:∀{vs:List V} {i:Nat} {v:V},V.bnd.V.bnds n vs=true->vs[i]?=some v->v.bnd n=true
 | [],_,_,_,h=>by grind
 | x::vs,0,v,hb,h=>by grind[V.bnd.V.bnds]
 | x::vs,i+1,v,hb,h=>by simp[V.bnd.V.bnds]at hb;exact bQ hb.2 (by simpa using h)
theorem RV.mono{φ φ':Phi}{w S w' S'}(m:Mono w S w' S'){n:Nat->Bool}(hφ:∀b,n b=true->φ' b=φ b){x v}(hb:V.bnd n x=true)(h:RV φ w S x v):RV φ' w' S' x v:=by
 induction h with
 | c h=>exact .c (RC.mono m hφ (by grind[V.bnd]) h)
 | agg h=>exact .agg (h.imp fun a b ha hab=>RC.mono m hφ (by grind[V.bnd]) hab)
 | tup vs xs hl h ih=>exact .tup vs xs hl fun i v x hv hx=>ih i v x hv hx (bQ (by grind[V.bnd]) hv)
end
section
open Go
inductive AO where
 | tmp (t:Nat)
 | const (v:V)
inductive AOp where
 | mov (x:AO)
 | pick (c x y:AO)
 | alloc (cs:List C)
 | box (x:AO)
 | build (zero:List C) (parts:List (Nat×Nat×AO))
 | bslice (sz:Nat) (len:Nat) (zero:List C) (parts:List (Nat×AO))
 | load (agg:Bool) (n:Nat) (x:AO)
 | store (n:Nat) (x v:AO)
 | nilCheck (x:AO)
 | bin (op:BinOp) (x y:AO)
 | eqAgg (neg:Bool) (ks:List Nat) (x y:AO)
 | eqBool (neg:Bool) (x y:AO)
 | eqNil (neg:Bool) (x:AO)
 | not (x:AO)
 | conv (k:IntKind) (x:AO)
 | i2s (x:AO)
 | s2s (x:AO)
 | fldA (off:Nat) (x:AO)
 | fld (agg:Bool) (off n:Nat) (x:AO)
 | idxA (sz:Nat) (x i:AO)
 | idxS (x i:AO)
 | slcS (x:AO) (lo hi:Option AO)
 | slc (sz:Nat) (x:AO) (lo hi:Option AO)
 | slc0 (x:AO)
 | allocA (cs:List C)
 | idxP (n:Nat) (x i:AO)
 | idxV (n:Nat) (x i:AO)
 | mslice (sz bytes:Nat) (zero:List C) (x:AO)
 | slcP (n:Nat) (x:AO) (lo hi:Option AO)
 | b2s (x:AO)
 | allocS (e e8:Nat)
 | bsliceT (e sz len:Nat) (zero:List C) (parts:List (Nat×AO))
 | mkset
 | lkset (x k:AO)
 | upset (x k:AO)
 | appendB (e bytes:Nat) (x y:AO)
 | sdata (x:AO)
 | ustr (e:Nat) (x n:AO)
 | mkfn (f:Nat) (caps:List AO)
 | ext (x:AO) (i:Nat)
 | len (str:Bool) (x:AO)
 | append (e sz bytes:Nat) (x y:AO)
 | appendT (e sz bytes:Nat) (x y:AO)
 | max2 (x y:AO)
 | min2 (x y:AO)
 | call (f:Nat) (args:List AO)
 | callv (x:AO) (args:List AO)
structure AOper where
 dst:Option Nat
 op:AOp
 guard:Option (Nat×Bool)
def ofVal :Value->Option C
 | .bool b=>some (.t (.bool b))
 | .int k n=>some (.t (.int k n))
 | .string s=>if s.size<=aD then some (.t (.str s.data.toList))else none
 | .slice none 0 0=>some .cap0
 | .pointer none=>some .nilp
 | .nilFunc=>some .nilfn
 | .nilIface=>some .dead
 | _=>none
def eU :List Value->Option (List C)
 | []=>some []
 | v::vs=>(ofVal v).bind fun c=>(eU vs).map (c::·)
def kB :Value->Option V
 | .agg cs=>(eU cs.toList).map .agg
 | v=>(ofVal v).map .c
def opd :Operand->Option AO
 | .tmp t=>some (.tmp t)
 | .const v=>(kB v).map .const
 | .func f=>some (.const (.c (.fn f [])))
 | .global _=>none
def opds :List Operand->Option (List AO)
 | []=>some []
 | x::xs=>(opd x).bind fun a=>(opds xs).map (a::·)
def opdO :Option Operand->Option (Option AO)
 | none=>some none
 | some x=>(opd x).map some
def zeroC(P:Program)(t:TypeId):Option (List C):=
 (P.info? t).bind fun i=>i.zero.bind fun z=>eU z.cells.toList
def cP(P:Program)(t:TypeId):Option Bool:=
 match P.underlying t with
 | some (.struct _) | some (.array _ _)=>some true
 | some _=>some false
 | none=>none
def sizeT(P:Program)(t:TypeId):Option Nat:=(P.info? t).map (·.size)
def bT(P:Program)(t:TypeId):Option (Bool×Nat):=
 (cP P t).bind fun g=>(sizeT P t).bind fun n=>if g=false->n=1 then some (g,n)else none
def aH(P:Program)(f:Nat):Bool:=
 match P.funcs[f]? with
 | some fn => fn.body.isSome && !(fn.name == "runtime.NumGoroutine")
 | none=>false
def kindT(P:Program)(t:TypeId):Option Nat:=
 match P.underlying t with
 | some .bool=>some 0
 | some (.int _)=>some 1
 | some .string=>some 2
 | _=>none
def fH(P:Program):Nat->List Field->Option (List Nat)
 | _,[]=>some []
 | i, f :: fs => if f.offset = i /\ f.name ≠ "_" then (kindT P f.type).bind fun k => (fH P (i + 1) fs).map (k :: ·) else none
def jN(P:Program)(t:TypeId):Option (List Nat):=
 match P.underlying t with
 | some (.struct fs)=>if P.stoodInHeld t=false/\P.eqGuardType P.depth t=false then fH P 0 fs.toList else none
 | _=>none
def kC(P:Program)(t:TypeId):Option (List Nat):=
 match P.underlying t with
 | some (.array n e)=>if sizeT P e=some 1/\P.eqGuardType P.depth t=false then(kindT P e).map (List.replicate n)else none
 | _=>none
def jv(P:Program)(fs:Array Field):Bool:=fs.toList.all fun f=>(sizeT P f.type).isSome
def en(P:Program)(fs:Array Field):List (Nat×Operand)->Option (List (Nat×Nat×AO))
 | []=>some []
 | (j,x)::r=>(fs[j]?).bind fun f=>(sizeT P f.type).bind fun n=>(opd x).bind fun a=>(en P fs r).map ((f.offset,n,a)::·)
def eB(n:Nat):List (Nat×Operand)->Option (List (Nat×Nat×AO))
 | []=>some []
 | (j,x)::r=>(opd x).bind fun a=>(eB n r).map ((j*n,n,a)::·)
def cM :List (Nat×Operand)->Option (List (Nat×AO))
 | []=>some []
 | (j,x)::r=>(opd x).bind fun a=>(cM r).map ((j,a)::·)
def bE(P:Program)(c:Call):Option AOp:=
 match c.callee with
 | .builtin .len=>match c.args.toList,c.argTypes.toList with
  | [x],[t]=>match P.underlying t with
   | some .string=>(opd x).map (.len true)
   | some (.slice _)=>(opd x).map (.len false)
   | _=>none
  | _,_=>none
 | .builtin .append=>match c.args.toList,c.argTypes.toList with
  | [x,y],[t,u]=>match P.underlying t,P.underlying u with
   | some (.slice e), some .string => (P.info? e).bind fun i => (opd x).bind fun a => (opd y).bind fun b =>
    if i.size=1/\(i.zero.map (·.cells.size))=some 1/\(match P.underlying e with | some (.int .u8)=>true | _=>false)=true then some (.appendB e i.bytes a b)else none
   | some (.slice e), some (.slice _) => (P.info? e).bind fun i => (opd x).bind fun a => (opd y).bind fun b =>
    if i.size≠0/\(i.zero.map (·.cells.size))=some i.size then some (.append e i.size i.bytes a b)else none
   | _,_=>none
  | _,_=>none
 | .builtin .max=>match c.args.toList with
  | [x,y]=>(opd x).bind fun a=>(opd y).map fun b=>.max2 a b
  | _=>none
 | .builtin .min=>match c.args.toList with
  | [x,y]=>(opd x).bind fun a=>(opd y).map fun b=>.min2 a b
  | _=>none
 | .builtin .unsafeSliceData=>match c.args.toList,c.argTypes.toList with
  | [x],[t]=>match P.underlying t with
   | some (.slice e)=>if sizeT P e=some 1 then(opd x).map .sdata else none
   | _=>none
  | _,_=>none
 | .builtin .unsafeString=>match c.args.toList,c.argTypes.toList with
  | [x,n],[t,_]=>match P.underlying t with
   | some (.pointer e)=>if(match P.underlying e with | some (.int .u8)=>true | _=>false)=true/\sizeT P e=some 1/\P.cellsOf e=1 then(opd x).bind fun a=>(opd n).map fun b=>.ustr e a b else none
   | _=>none
  | _,_=>none
 | .value (.func f)=>if aH P f then(opds c.args.toList).map (.call f)else none
 | .value (.tmp t)=>(opds c.args.toList).map (.callv (.tmp t))
 | _=>none
def uu(P:Program)(t:TypeId):Bool:=
 match P.info? t with
 | some i => (match i.desc with | .named n _ => n == "strings.Builder" | _ => false)
 | none=>false
def mh :List Value->Bool
 | [.pointer none,.slice none 0 0]=>true
 | _=>false
def pf(P:Program)(t:TypeId):Bool:=
 match (P.info? t).bind (·.zero)with
 | some z=>mh z.cells.toList
 | none=>false
def fB(P:Program)(t:TypeId):Option Nat:=
 if uu P t=true/\pf P t=true then
  match P.underlying t with
  | some (.struct fs)=>(fs[1]?).bind fun f=>match P.underlying f.type with
   | some (.slice e)=>some e
   | _=>none
  | _=>none
 else none
def dG(P:Program)(t:TypeId):Bool:=
 match P.underlying t with
 | some (.map k v)=>(match P.underlying k,P.underlying v with | some .string,some .bool=>true | _,_=>false) && (match (P.info? v).bind (·.zero)with | some (.bool false)=>true | _=>false)
 | _=>false
def jw :Operand->Bool
 | .const (.bool true)=>true
 | _=>false
def jO :Operand->Bool
 | .const (.slice none 0 0)=>true
 | _=>false
def sameO :Operand->Operand->Bool
 | .tmp s,.tmp t=>s==t
 | _,_=>false
def au(P:Program)(o:Op):Option AOp:=
 match o with
 | .move x | .assign x=>(opd x).map .mov
 | .pick c a b=>(opd c).bind fun c=>(opd a).bind fun a=>(opd b).map fun b=>.pick c a b
 | .alloc e=>match fB P e with
  | some e8=>some (.allocS e e8)
  | none=>(zeroC P e).bind fun cs=>match P.underlying e with
   | some (.array n t)=>if sizeT P t=some 1/\n=cs.length/\4 < n/\n<=2 ^ 24 then some (.allocA cs)else some (.alloc cs)
   | _=>some (.alloc cs)
 | .box _ x=>(opd x).map .box
 | .build t parts=>match P.underlying t with
  | some (.struct fs)=>if jv P fs then(zeroC P t).bind fun z=>(en P fs parts.toList).map fun ps=>.build z ps else none
  | some (.array _ e)=>(zeroC P t).bind fun z=>(sizeT P e).bind fun n=>(eB n parts.toList).map fun ps=>.build z ps
  | _=>none
 | .buildSlice t len parts=>match P.underlying t with
  | some (.slice e) => (sizeT P e).bind fun n => (zeroC P e).bind fun z => (cM parts.toList).bind fun ps =>
   if n≠0/\z.length=n/\len*n<=2 ^ 24 then some (.bslice n len z ps)else none
  | _=>none
 | .load t a=>(bT P t).bind fun g=>(opd a).map fun x=>.load g.1 g.2 x
 | .store t a v=>(sizeT P t).bind fun n=>(opd a).bind fun x=>(opd v).map fun y=>.store n x y
 | .nilCheck x=>(opd x).map .nilCheck
 | .binOp op t x y _=>
  if op= .eql\/op= .neq then
   match P.underlying t with
   | some (.array _ _)=>(kC P t).bind fun ks=>(opd x).bind fun a=>(opd y).map fun b=>.eqAgg (op== .neq) ks a b
   | some (.struct _)=>(jN P t).bind fun ks=>(opd x).bind fun a=>(opd y).map fun b=>.eqAgg (op== .neq) ks a b
   | some (.slice _)=>if jO y then(opd x).map (.eqNil (op== .neq))else none
   | some .bool=>(opd x).bind fun a=>(opd y).map fun b=>.eqBool (op== .neq) a b
   | some (.int _) | some .string=>(opd x).bind fun a=>(opd y).map fun b=>.bin op a b
   | _=>none
  else(opd x).bind fun a=>(opd y).map fun b=>.bin op a b
 | .unOp .not _ x=>(opd x).map .not
 | .unOp .neg t x=>match P.underlying t with
  | some (.int k)=>(opd x).map (.bin .sub (.const (.c (.t (.int k 0)))))
  | _=>none
 | .unOp .xor t x=>match P.underlying t with
  | some (.int k)=>(opd x).map (.bin .xor (.const (.c (.t (.int k (if k.signed then -1 else k.max))))))
  | _=>none
 | .convert s d x=>match P.underlying s,P.underlying d with
  | some (.int _),some (.int k)=>(opd x).map (.conv k)
  | some (.int _),some .string=>(opd x).map .i2s
  | some .string,some .string=>(opd x).map .s2s
  | some (.slice e),some .string=>if(match P.underlying e with | some (.int .u8)=>true | _=>false)=true/\sizeT P e=some 1 then(opd x).map .b2s else none
  | _,_=>none
 | .fieldAddr t x f=>match P.underlying t with
  | some (.struct fs)=>(fs[f]?).bind fun fd=>(sizeT P fd.type).bind fun n=>if n=0 then none else(opd x).map (.fldA fd.offset)
  | _=>none
 | .field t x f=>match P.underlying t with
  | some (.struct fs)=>(fs[f]?).bind fun fd=>(bT P fd.type).bind fun g=>(opd x).map (.fld g.1 fd.offset g.2)
  | _=>none
 | .indexAddr t x i=>match P.underlying t with
  | some (.slice e)=>(sizeT P e).bind fun n=>if n=0 then none else(opd x).bind fun a=>(opd i).map fun b=>.idxA n a b
  | some (.array n e)=>match i with
   | .const (.int _ m)=>if 0<=m/\m.toNat < n then(sizeT P e).bind fun s=>(opd x).map (.fldA (m.toNat*s))else none
   | i=>if sizeT P e=some 1 then(opd x).bind fun a=>(opd i).map fun b=>.idxP n a b else none
  | _=>none
 | .index t x i=>match P.underlying t with
  | some .string=>(opd x).bind fun a=>(opd i).map fun b=>.idxS a b
  | some (.array n e)=>if bT P e=some (false,1)then(opd x).bind fun a=>(opd i).map fun b=>.idxV n a b else none
  | _=>none
 | .slice t x lo hi mx=>match P.underlying t with
  | some .string=>if mx.isNone then(opd x).bind fun a=>(opdO lo).bind fun l=>(opdO hi).map fun h=>.slcS a l h else none
  | some (.slice e)=>match mx with
   | none=>(sizeT P e).bind fun n=>if n=0 then none else(opd x).bind fun a=>(opdO lo).bind fun l=>(opdO hi).map fun h=>.slc n a l h
   | some (.const (.int _ 0))=>match lo,hi with
    | none,some (.const (.int _ 0))=>if(sizeT P e).isSome then(opd x).map .slc0 else none
    | _,_=>none
   | _=>none
  | some (.array n e)=>if mx.isNone/\sizeT P e=some 1 then(opd x).bind fun a=>(opdO lo).bind fun l=>(opdO hi).map fun h=>.slcP n a l h else none
  | _=>none
 | .makeFunc (.func f) first caps=>if first.isEmpty then(opds caps.toList).map (.mkfn f)else none
 | .extract x i=>(opd x).map fun a=>.ext a i
 | .makeSlice t x y=>match P.underlying t with
  | some (.slice e)=>if sameO x y=true then(P.info? e).bind fun i=>(zeroC P e).bind fun z=>if i.size≠0/\z.length=i.size then(opd x).map (.mslice i.size i.bytes z)else none else none
  | _=>none
 | .makeMap t none=>if dG P t=true then some .mkset else none
 | .lookup t x i false=>if dG P t=true then(opd x).bind fun a=>(opd i).map fun b=>.lkset a b else none
 | .mapUpdate t m k v=>if dG P t=true/\jw v=true then(opd m).bind fun a=>(opd k).map fun b=>.upset a b else none
 | .call c=>bE P c
 | _=>none
def dA(ops:Array Oper):Option (Nat×Bool)->Option (Option (Nat×Bool))
 | none=>some none
 | some (j,b)=>((ops[j]?).bind (·.dst)).map fun d=>some (d,b)
def isTmp(d:Nat):Operand->Bool
 | .tmp t=>t==d
 | _=>false
def fW(d:Nat):Op->Bool
 | .call c=>match c.callee with
  | .builtin .append=>(c.args.toList.drop 1).any (isTmp d)
  | .value (.func _)=>c.args.toList.any (isTmp d)
  | _=>false
 | .build _ ps=>ps.toList.any fun p=>isTmp d p.2
 | .buildSlice _ _ ps=>ps.toList.any fun p=>isTmp d p.2
 | .convert _ _ x=>isTmp d x
 | .indexAddr _ x _=>isTmp d x
 | _=>false
def uv(d:Nat):Op->Bool
 | .buildSlice _ _ ps=>ps.toList.any fun p=>isTmp d p.2
 | _=>false
def mU(ops:Array Oper)(o:Oper):Bool×Bool:=
 match o.dst with
 | some d=>(ops.toList.any fun q=>fW d q.op,ops.toList.any fun q=>uv d q.op)
 | none=>(false,false)
def frzA(b:Bool):AOp->AOp
 | .append te sz bytes x y=>bif b then .appendT te sz bytes x y else .append te sz bytes x y
 | o=>o
def eo(P:Program)(fz:Bool×Bool)(o:Op):Option AOp:=
 match o,fz.1 with
 | .buildSlice t len parts,true=>match P.underlying t with
  | some (.slice e) => (sizeT P e).bind fun n => (zeroC P e).bind fun z => (cM parts.toList).bind fun ps =>
   if n≠0/\z.length=n/\len*n<=2 ^ 24 then some (.bsliceT e n len z ps)else none
  | _=>none
 | .call c,_=>(bE P c).map (frzA fz.2)
 | o,_=>au P o
def eh(P:Program)(nt:Nat)(ops:Array Oper)(o:Oper):Option AOper:=
 (eo P (mU ops o) o.op).bind fun p=>(dA ops o.guard).bind fun g=>
  match o.dst with
  | none=>some ⟨none,p,g⟩
  | some d=>if d < nt then some ⟨some d,p,g⟩else none
def aP(P:Program)(nt:Nat)(ops:Array Oper):List Oper->Option (List AOper)
 | []=>some []
 | o::r=>(eh P nt ops o).bind fun a=>(aP P nt ops r).map (a::·)
inductive ACode where
 | skip
 | region (ops:List AOper)
 | regionD (ops:List AOper) (crit:List (Nat×Nat))
 | seq (a b:ACode)
 | cond (c:AO) (x y:ACode)
 | block (id:Nat) (b:ACode)
 | loop (b:ACode)
 | exit (id:Nat)
 | ret
def AOp.neutral :AOp->Bool
 | .alloc _ | .allocA _ | .box _ | .bslice .. | .mslice .. | .store .. | .append .. | .appendT .. | .call .. | .callv .. | .eqNil .. =>false
 | .allocS .. | .mkset | .upset .. | .appendB .. | .ustr .. =>false
 | _=>true
def AOp.touches :AOp->Bool
 | .alloc _ | .allocA _ | .b2s _ | .box _ | .bslice .. | .mslice .. | .store .. | .append .. | .appendT .. | .load .. =>true
 | .allocS .. | .mkset | .lkset .. | .upset .. | .appendB .. | .ustr .. | .call .. =>true
 | _=>false
def AOp.drawn :AOp->Bool
 | .eqNil .. =>false
 | _=>true
def AO.tmps :AO->List Nat
 | .tmp t=>[t]
 | .const _=>[]
def oTmps :Option AO->List Nat
 | none=>[]
 | some x=>x.tmps
def AOp.reads :AOp->List Nat
 | .mov x=>x.tmps
 | .pick c x y=>c.tmps++x.tmps++y.tmps
 | .alloc _ | .allocA _=>[]
 | .box x=>x.tmps
 | .build _ ps=>ps.flatMap fun p=>p.2.2.tmps
 | .bslice _ _ _ ps=>ps.flatMap fun p=>p.2.tmps
 | .load _ _ x=>x.tmps
 | .store _ x v=>x.tmps++v.tmps
 | .nilCheck x=>x.tmps
 | .bin _ x y=>x.tmps++y.tmps
 | .eqAgg _ _ x y=>x.tmps++y.tmps
 | .eqBool _ x y=>x.tmps++y.tmps
 | .eqNil _ x=>x.tmps
 | .not x=>x.tmps
 | .conv _ x=>x.tmps
 | .i2s x=>x.tmps
 | .s2s x=>x.tmps
 | .fldA _ x=>x.tmps
 | .fld _ _ _ x=>x.tmps
 | .idxA _ x i=>x.tmps++i.tmps
 | .idxS x i=>x.tmps++i.tmps
 | .slcS x lo hi=>x.tmps++oTmps lo++oTmps hi
 | .slc _ x lo hi=>x.tmps++oTmps lo++oTmps hi
 | .slc0 x=>x.tmps
 | .b2s x=>x.tmps
 | .allocS .. | .mkset=>[]
 | .bsliceT _ _ _ _ ps=>ps.flatMap fun p=>p.2.tmps
 | .lkset x k=>x.tmps++k.tmps
 | .upset x k=>x.tmps++k.tmps
 | .appendB _ _ x y=>x.tmps++y.tmps
 | .sdata x=>x.tmps
 | .ustr _ x k=>x.tmps++k.tmps
 | .idxP _ x i=>x.tmps++i.tmps
 | .idxV _ x i=>x.tmps++i.tmps
 | .mslice _ _ _ x=>x.tmps
 | .slcP _ x lo hi=>x.tmps++oTmps lo++oTmps hi
 | .mkfn _ caps=>caps.flatMap AO.tmps
 | .ext x _=>x.tmps
 | .len _ x=>x.tmps
 | .append _ _ _ x y=>x.tmps++y.tmps
 | .appendT _ _ _ x y=>x.tmps++y.tmps
 | .max2 x y=>x.tmps++y.tmps
 | .min2 x y=>x.tmps++y.tmps
 | .call _ args=>args.flatMap AO.tmps
 | .callv x args=>x.tmps++args.flatMap AO.tmps
def AOper.rd(o:AOper):List Nat:=o.op.reads++(match o.guard with | none=>[] | some (t,_)=>[t])
def aR(o:Oper):List Nat:=(o.after.toList.filter (Region.binds .any)).map (·.on)
def ahead(l:List (AOper×List Nat))(j i:Nat):Bool:=decide (j < i) && ((l[i]?).map fun x=>x.2.contains j).getD false
def hU :Nat->List (AOper×List Nat)->Bool
 | _,[]=>true
 | i,x::r=>x.2.all (· < i) && hU (i+1) r
def ssaOk(l:List (AOper×List Nat)):Bool:=
 l.zipIdx.all fun x=>l.zipIdx.all fun y=>
  match y.1.1.dst with
  | none=>true
  | some d=>(!(x.1.1.rd.contains d) || ahead l y.2 x.2 || (x.1.1.op.neutral && !x.1.1.op.touches && ahead l x.2 y.2)) && (x.2==y.2 || !(x.1.1.dst==some d))
def closD :List (AOper×List Nat)->List (List Nat)->List (List Nat)
 | [],acc=>acc
 | x::r,acc=>closD r (acc++[(x.2++x.2.flatMap fun e=>acc.getD e []).eraseDups])
def cz(cl:List (List Nat))(j i:Nat):Bool:=decide (j < i) && (cl.getD i []).contains j
def critT(cl:List (List Nat))(l:List (AOper×List Nat)):List (Nat×Nat):=
 l.zipIdx.flatMap fun x=>if x.1.1.op.neutral then[]else l.zipIdx.filterMap fun y=>
  if y.1.1.op.touches && !(x.2==y.2) && !(cz cl x.2 y.2) && !(cz cl y.2 x.2)then some (x.2,y.2)else none
def bw(l:List (AOper×List Nat)):List (Nat×Nat):=critT (closD l []) l
def ir(l:List (AOper×List Nat)):Bool:=(List.range (l.length - 1)).all fun i=>l.zipIdx.any fun y=>decide (i < y.2) && y.1.2.contains i
def dP(l:List (AOper×List Nat)):Bool:=hU 0 l && ssaOk l && l.all fun x=>x.1.op.drawn
def critL(l:List (AOper×List Nat)):List (Nat×Nat):=
 if decide (2<=l.length) && ir l && dP l.dropLast then(l.length,0)::(bw l++bw l.dropLast)else bw l
def aE(ops:Array Oper)(aos:List AOper):List (AOper×List Nat):=aos.zip (ops.toList.map aR)
def resolve(P:Program)(nt:Nat):Code->Option ACode
 | .skip=>some .skip
 | .region _ ops draw => (aP P nt ops ops.toList).bind fun aos =>
  if draw then(if dP (aE ops aos) && P.follows .mixedOrders then some (.regionD aos (critL (aE ops aos)))else none)else some (.region aos)
 | .seq a b=>(resolve P nt a).bind fun x=>(resolve P nt b).map fun y=>.seq x y
 | .cond c a b=>(opd c).bind fun o=>(resolve P nt a).bind fun x=>(resolve P nt b).map fun y=>.cond o x y
 | .block id b=>(resolve P nt b).map (.block id)
 | .loop b=>(resolve P nt b).map .loop
 | .exit id=>some (.exit id)
 | .ret=>some .ret
 | _=>none
abbrev Env :=List (Nat×Bool×V)
abbrev Store :=List (Nat×Blk)
def look :Env->Nat->Option (Bool×V)
 | [],_=>none
 | (k,x)::r,i=>if k=i then some x else look r i
def sget :Store->Nat->Option Blk
 | [],_=>none
 | (k,x)::r,i=>if k=i then some x else sget r i
def sput :Store->Nat->Blk->Store
 | [],b,x=>[(b,x)]
 | (k,y)::r,b,x=>if k=b then(k,x)::r else(k,y)::sput r b x
def sdel :Store->Nat->Store
 | [],_=>[]
 | (k,y)::r,b=>if k=b then sdel r b else(k,y)::sdel r b
theorem ag(J:Store)(b:Nat)(x:Blk)(i:Nat):sget (sput J b x) i=if b=i then some x else sget J i:=by
 induction J with
 | nil=>rfl
 | cons y r ih=>
  obtain⟨k,y⟩:=y;by_cases hk:k=b
  . grind[sput,sget]
  . simp[sput,if_neg hk,sget]
    grind
theorem aC(J:Store)(b:Nat)(i:Nat):sget (sdel J b) i=if b=i then none else sget J i:=by
 induction J with
 | nil=>simp[sdel,sget]
 | cons y r ih=>
  obtain⟨k,y⟩:=y;by_cases hk:k=b
  . grind[sdel,sget]
  . simp[sdel,if_neg hk,sget]
    grind
def AO.get(env:Env):AO->Option (Prop×V)
 | .const v=>some (True,v)
 | .tmp t=>(look env t).map fun x=>(x.1=true,x.2)
def gets(env:Env):List AO->Option (Prop×List V)
 | []=>some (True,[])
 | x::xs=>(x.get env).bind fun a=>(gets env xs).map fun b=>(a.1/\b.1,a.2::b.2)
def getO(env:Env):Option AO->Option (Prop×Option Int)
 | none=>some (True,none)
 | some x=>(x.get env).bind fun a=>match a.2 with
  | .c (.t (.int _ n))=>some (a.1,some n)
  | _=>none
def cQ :V->Option (List C)
 | .c x=>some [x]
 | .agg cs=>some cs
 | .tup _=>none
def toT :C->Option T
 | .t x=>some x
 | .cap0=>some (.slice [])
 | _=>none
def toTs :List C->Option (List T)
 | []=>some []
 | c::cs=>(toT c).bind fun t=>(toTs cs).map (t::·)
def el(es:List (List T))(i:Nat):List T:=es.getD i []
def fillC(cells:List C)(off:Nat)(cs:List C):List C:=cells.take off++cs++cells.drop (off+cs.length)
def bx(env:Env):List C->List (Nat×Nat×AO)->Option (Prop×List C)
 | cells,[]=>some (True,cells)
 | cells, (off, n, x):: r => (x.get env).bind fun a => (cQ a.2).bind fun cs =>
  if cs.length=n/\off+n<=cells.length then(bx env (fillC cells off cs) r).map fun b=>(a.1/\b.1,b.2)else none
def bf(env:Env)(sz:Nat):List (List T)->List (Nat×AO)->Option (Prop×List (List T))
 | es,[]=>some (True,es)
 | es, (i, x):: r => (x.get env).bind fun a => (cQ a.2).bind fun cs => (toTs cs).bind fun ts =>
  if ts.length=sz/\i < es.length then(bf env sz (es.set i ts) r).map fun b=>(a.1/\b.1,b.2)else none
def binT :BinOp->T->T->Option (Prop×T)
 | .add,.int k a,.int k' b=>if k=k' then some (True,.int k (k.wrap (a+b)))else none
 | .sub,.int k a,.int k' b=>if k=k' then some (True,.int k (k.wrap (a - b)))else none
 | .mul,.int k a,.int k' b=>if k=k' then some (True,.int k (k.wrap (a*b)))else none
 | .quo,.int k a,.int k' b=>if k=k' then some (b≠0,.int k (k.wrap (a.tdiv b)))else none
 | .rem,.int k a,.int k' b=>if k=k' then some (b≠0,.int k (a.tmod b))else none
 | .and,.int k a,.int k' b=>if k=k' then some (True,.int k (k.wrap (BitVec.ofInt k.bits a &&& BitVec.ofInt k.bits b).toNat))else none
 | .or,.int k a,.int k' b=>if k=k' then some (True,.int k (k.wrap (BitVec.ofInt k.bits a ||| BitVec.ofInt k.bits b).toNat))else none
 | .xor,.int k a,.int k' b=>if k=k' then some (True,.int k (k.wrap (BitVec.ofInt k.bits a ^^^ BitVec.ofInt k.bits b).toNat))else none
 | .andNot,.int k a,.int k' b=>if k=k' then some (True,.int k (k.wrap (BitVec.ofInt k.bits a &&& ~~~ BitVec.ofInt k.bits b).toNat))else none
 | .shl,.int k a,.int _ b=>some (0<=b,.int k (k.wrap (a*2 ^ min b.toNat k.bits)))
 | .shr,.int k a,.int _ b=>some (0<=b,.int k (a.fdiv (2 ^ min b.toNat k.bits)))
 | .eql,.int k a,.int k' b=>if k=k' then some (True,.bool (decide (a=b)))else none
 | .neq,.int k a,.int k' b=>if k=k' then some (True,.bool (!decide (a=b)))else none
 | .lss,.int k a,.int k' b=>if k=k' then some (True,.bool (decide (a < b)))else none
 | .leq,.int k a,.int k' b=>if k=k' then some (True,.bool (decide (a<=b)))else none
 | .gtr,.int k a,.int k' b=>if k=k' then some (True,.bool (decide (b < a)))else none
 | .geq,.int k a,.int k' b=>if k=k' then some (True,.bool (decide (b<=a)))else none
 | .add,.str a,.str b=>some (a.length+b.length<=aD,.str (a++b))
 | .eql,.str a,.str b=>some (True,.bool (decide (a=b)))
 | .neq,.str a,.str b=>some (True,.bool (!decide (a=b)))
 | .lss,.str a,.str b=>some (True,.bool (Op.bytesLess a b))
 | .leq,.str a,.str b=>some (True,.bool (Op.bytesLess a b || decide (a=b)))
 | .gtr,.str a,.str b=>some (True,.bool (!(Op.bytesLess a b || decide (a=b))))
 | .geq,.str a,.str b=>some (True,.bool (!(Op.bytesLess a b)))
 | _,_,_=>none
def eqT :Nat->T->T->Option Bool
 | 0,.bool a,.bool b=>some (a==b)
 | 1,.int k a,.int k' b=>if k=k' then some (decide (a=b))else none
 | 2,.str a,.str b=>some (decide (a=b))
 | _,_,_=>none
def eqCs :List Nat->List C->List C->Option Bool
 | [],[],[]=>some true
 | k::ks,.t x::xs,.t y::ys=>(eqT k x y).bind fun b=>(eqCs ks xs ys).map fun r=>b && r
 | _,_,_=>none
abbrev ARes :=Option (Prop×V×Store)
def loadT(agg:Bool)(n:Nat)(ts:List T)(o:Nat):Option V:=
 if agg then(if o+n<=ts.length then some (.agg (((ts.drop o).take n).map .t))else none)else(ts[o]?).map fun t=>.c (.t t)
def loadC(agg:Bool)(n:Nat)(cs:List C)(o:Nat):Option V:=
 if agg then(if o+n<=cs.length then some (.agg ((cs.drop o).take n))else none)else(cs[o]?).map .c
def bh :Nat:=281474976710656
def capOk(n bytes:Nat):Prop:=(2*n+192)*bytes<=bh\/(n+n / 4+512)*bytes<=bh
def ysOf(J:Store):V->Option (List (List T)×Option Nat)
 | .c (.t (.slice ys))=>some (ys,none)
 | .c .cap0=>some ([],none)
 | .c (.arr b sz' off len)=>match sget J b with
  | some (.arr sz'' ys)=>if sz'=sz''/\off=0/\len=ys.length then some (ys,some b)else none
  | _=>none
 | _=>none
def bytesOf :List (List T)->Option (List UInt8)
 | []=>some []
 | [.int .u8 m]::r=>(bytesOf r).map fun s=>UInt8.ofNat m.toNat::s
 | _=>none
def b2sOf(J:Store):V->Option (Prop×List UInt8)
 | .c (.t (.slice es))=>(bytesOf es).map fun s=>(True,s)
 | .c .cap0=>some (True,[])
 | .c (.arr b 1 off len)=>match sget J b with
  | some (.arr 1 es)=>(bytesOf ((es.drop off).take len)).map fun s=>(off+len<=es.length,s)
  | _=>none
 | .c (.win b 1 off len)=>match sget J b with
  | some (.arr 1 es)=>(bytesOf ((es.drop off).take len)).map fun s=>(off+len<=es.length,s)
  | _=>none
 | _=>none
def hasS(ks:List (List UInt8))(s:List UInt8):Bool:=ks.any fun k=>decide (k=s)
def addS(ks:List (List UInt8))(s:List UInt8):List (List UInt8):=if hasS ks s=true then ks else ks++[s]
def ownC :List C->Option C
 | [.arr b sz off len]=>some (.arr b sz off len)
 | _=>none
def winOf :V->V->Option (Nat×Nat×Nat×Nat×Nat×Nat×Nat)
 | .c (.arr b sz off len),.c (.win b' sz' off' len')=>if b=b' then some (b,sz,off,len,sz',off',len')else none
 | _,_=>none
def appW(J:Store)(n sz:Nat)(p q:Prop):Nat×Nat×Nat×Nat×Nat×Nat×Nat->ARes
 | (b,s1,off,len,s2,off',len')=>match sget J b with
  | some (.arr s3 es) => some (p /\ q /\ s1 = sz /\ s2 = sz /\ s3 = sz /\ off = 0 /\ len + len' <= es.length /\ off' + len' <= es.length,
   .c (.arr n sz 0 (len+len')),sput (sdel J b) n (.arr sz (es.take len++(es.drop off').take len')))
  | _=>none
def aval(o:AOp)(env:Env)(J:Store)(n:Nat):ARes:=
 match o with
 | .mov x=>(x.get env).map fun a=>(a.1,a.2,J)
 | .pick c x y => (c.get env).bind fun c => (x.get env).bind fun x => (y.get env).bind fun y =>
  match c.2,x.2,y.2 with
  | .c (.t (.bool b)),.c (.t (.bool p)),.c (.t (.bool q))=>
   some (c.1/\(b=true->x.1)/\(b=false->y.1),.c (.t (.bool (bif b then p else q))),J)
  | _,_,_=>none
 | .alloc cs=>some (True,.c (.ptr n 0),sput J n (.box cs))
 | .allocA cs=>(toTs cs).map fun ts=>(True,.c (.ptr n 0),sput J n (.arr 1 (ts.map fun t=>[t])))
 | .idxP k x i => (x.get env).bind fun a => (i.get env).bind fun j => match a.2, j.2 with
  | .c (.ptr b 0),.c (.t (.int _ m))=>some (a.1/\j.1/\0<=m/\m.toNat < k,.c (.eptr b 1 m.toNat 0),J)
  | _,_=>none
 | .idxV k x i => (x.get env).bind fun a => (i.get env).bind fun j => match a.2, j.2 with
  | .agg cs,.c (.t (.int _ m))=>if cs.length=k then some (a.1/\j.1/\0<=m/\m.toNat < k,.c (cs.getD m.toNat .dead),J)else none
  | _,_=>none
 | .mslice sz bytes z x => (x.get env).bind fun a => (toTs z).bind fun zt => match a.2 with
  | .c (.t (.int _ m))=>some (a.1/\0<=m/\m.toNat*bytes<=bh/\m.toNat<=az,.c (.arr n sz 0 m.toNat),sput J n (.arr sz (List.replicate m.toNat zt)))
  | _=>none
 | .slcP k x lo hi => (x.get env).bind fun a => (getO env lo).bind fun l => (getO env hi).bind fun h => match a.2 with
  | .c (.ptr b 0)=>
   let e:=h.2.getD k
   let c:=l.2.getD 0
   some (a.1/\l.1/\h.1/\0<=c/\c<=e/\e<=k,.c (.win b 1 c.toNat (e.toNat - c.toNat)),J)
  | _=>none
 | .b2s x=>(x.get env).bind fun a=>(b2sOf J a.2).map fun r=>(a.1/\r.1,.c (.t (.str r.2)),J)
 | .box x=>(x.get env).bind fun a=>(cQ a.2).map fun cs=>(a.1,.c (.ptr n 0),sput J n (.box cs))
 | .build z parts=>(bx env z parts).map fun a=>(a.1,.agg a.2,J)
 | .bslice sz len z parts => (toTs z).bind fun zt => (bf env sz (List.replicate len zt) parts).map fun a =>
  (a.1,.c (.arr n sz 0 len),sput J n (.arr sz a.2))
 | .load agg k x => (x.get env).bind fun a => match a.2 with
  | .c (.ptr b o)=>match sget J b with
   | some (.box cs)=>(loadC agg k cs o).map fun v=>(a.1,v,J)
   | some (.bld _ c)=>if agg=false/\o=1 then some (a.1,.c c,J)else none
   | _=>none
  | .c (.eptr b sz i o)=>match sget J b with
   | some (.arr sz' es)=>(loadT agg k (el es i) o).map fun v=>(a.1/\sz=sz'/\i < es.length,v,J)
   | some (.arro sz' es i' o' c)=>if agg=true then none else if o=o' then some (a.1/\sz=sz'/\i=i',.c c,J)else(loadT false k (el es i) o).map fun v=>(a.1/\sz=sz'/\i < es.length,v,J)
   | _=>none
  | .c (.iptr ts o)=>(loadT agg k ts o).map fun v=>(a.1,v,J)
  | _=>none
 | .store k x v => (x.get env).bind fun a => (v.get env).bind fun d => (cQ d.2).bind fun cs =>
  if cs.length=k then
   match a.2 with
   | .c (.ptr b o)=>match sget J b with
    | some (.box ds)=>if o+k<=ds.length then some (a.1/\d.1,.tup [],sput J b (.box (fillC ds o cs)))else none
    | some (.bld e _)=>match o,cs with
     | 1,[c]=>some (a.1/\d.1,.tup [],sput J b (.bld e c))
     | _,_=>none
    | _=>none
   | .c (.eptr b sz i o)=>match sget J b with
    | some (.arr sz' es)=>match ownC cs with
     | some c=>some (a.1/\d.1/\sz=sz'/\i < es.length/\o+k<=sz,.tup [],sput J b (.arro sz' es i o c))
     | none=>(toTs cs).bind fun ts=>
      some (a.1/\d.1/\sz=sz'/\i < es.length/\o+k<=sz,.tup [],
       sput J b (.arr sz' (es.set i ((el es i).take o++ts++(el es i).drop (o+k)))))
    | some (.arro sz' es i' o' c0)=>match cs with
     | [c]=>if o=o' then some (a.1/\d.1/\sz=sz'/\i=i',.tup [],sput J b (.arro sz' es i' o' c))
      else(toT c).bind fun t=>some (a.1/\d.1/\sz=sz'/\i < es.length/\o+k<=sz,.tup [],
       sput J b (.arro sz' (es.set i ((el es i).take o++[t]++(el es i).drop (o+k))) i' o' c0))
     | _=>none
    | _=>none
   | _=>none
  else none
 | .nilCheck x => (x.get env).bind fun a => match a.2 with
  | .c (.ptr ..) | .c (.eptr ..) | .c (.iptr ..)=>some (a.1,a.2,J)
  | _=>none
 | .bin op x y => (x.get env).bind fun a => (y.get env).bind fun b => match a.2, b.2 with
  | .c (.t p),.c (.t q)=>(binT op p q).map fun r=>(a.1/\b.1/\r.1,.c (.t r.2),J)
  | _,_=>none
 | .eqAgg neg ks x y => (x.get env).bind fun a => (y.get env).bind fun b => match a.2, b.2 with
  | .agg p,.agg q=>(eqCs ks p q).map fun r=>(a.1/\b.1,.c (.t (.bool (if neg then !r else r))),J)
  | _,_=>none
 | .eqBool neg x y => (x.get env).bind fun a => (y.get env).bind fun b => match a.2, b.2 with
  | .c (.t (.bool p)),.c (.t (.bool q))=>some (a.1/\b.1,.c (.t (.bool (if neg then !(p==q)else(p==q)))),J)
  | _,_=>none
 | .not x => (x.get env).bind fun a => match a.2 with
  | .c (.t (.bool b))=>some (a.1,.c (.t (.bool (!b))),J)
  | _=>none
 | .conv k x => (x.get env).bind fun a => match a.2 with
  | .c (.t (.int _ m))=>some (a.1,.c (.t (.int k (k.wrap m))),J)
  | _=>none
 | .i2s x => (x.get env).bind fun a => match a.2 with
  | .c (.t (.int _ m))=>some (a.1,.c (.t (.str (Utf8.encode m).data.toList)),J)
  | _=>none
 | .s2s x => (x.get env).bind fun a => match a.2 with
  | .c (.t (.str s))=>some (a.1,.c (.t (.str s)),J)
  | _=>none
 | .fldA off x => (x.get env).bind fun a => match a.2 with
  | .c (.ptr b o)=>some (a.1,.c (.ptr b (o+off)),J)
  | .c (.eptr b sz i o)=>some (a.1,.c (.eptr b sz i (o+off)),J)
  | .c (.iptr ts o)=>some (a.1,.c (.iptr ts (o+off)),J)
  | _=>none
 | .fld agg off k x => (x.get env).bind fun a => match a.2 with
  | .agg cs=>(loadC agg k cs off).map fun v=>(a.1,v,J)
  | _=>none
 | .idxA sz x i => (x.get env).bind fun a => (i.get env).bind fun j => match a.2, j.2 with
  | .c (.t (.slice es)),.c (.t (.int _ m))=>some (a.1/\j.1/\0<=m/\m.toNat < es.length/\(el es m.toNat).length=sz,.c (.iptr (el es m.toNat) 0),J)
  | .c (.arr b sz' off len),.c (.t (.int _ m))=>some (a.1/\j.1/\0<=m/\m.toNat < len/\sz=sz',.c (.eptr b sz (off+m.toNat) 0),J)
  | _,_=>none
 | .idxS x i => (x.get env).bind fun a => (i.get env).bind fun j => match a.2, j.2 with
  | .c (.t (.str s)),.c (.t (.int _ m))=>some (a.1/\j.1/\0<=m/\m.toNat < s.length,.c (.t (.int .u8 (s.getD m.toNat 0).toNat)),J)
  | _,_=>none
 | .slcS x lo hi => (x.get env).bind fun a => (getO env lo).bind fun l => (getO env hi).bind fun h => match a.2 with
  | .c (.t (.str s))=>
   let b:=h.2.getD s.length
   let c:=l.2.getD 0
   some (a.1/\l.1/\h.1/\0<=c/\c<=b/\b<=s.length,.c (.t (.str ((s.take b.toNat).drop c.toNat))),J)
  | _=>none
 | .slc sz x lo hi => (x.get env).bind fun a => (getO env lo).bind fun l => (getO env hi).bind fun h => match a.2 with
  | .c (.t (.slice es))=>
   let b:=h.2.getD es.length
   let c:=l.2.getD 0
   some (a.1/\l.1/\h.1/\0<=c/\c<=b/\b<=es.length/\(∀e,e∈es->e.length=sz),.c (.t (.slice ((es.take b.toNat).drop c.toNat))),J)
  | .c (.arr b sz' off len)=>
   some (a.1/\l.1/\h.1/\0<=l.2.getD 0/\l.2.getD 0<=h.2.getD len/\h.2.getD len<=len/\sz=sz',
    .c (if lo.isNone then .arr b sz' off (h.2.getD len).toNat else .win b sz' (off+(l.2.getD 0).toNat) ((h.2.getD len).toNat - (l.2.getD 0).toNat)),J)
  | _=>none
 | .slc0 x => (x.get env).bind fun a => match a.2 with
  | .c (.t (.slice _)) | .c .cap0 | .c (.arr ..)=>some (a.1,.c .cap0,J)
  | _=>none
 | .mkfn f caps => (gets env caps).bind fun a => match capsOf a.2 with
  | some l=>some (a.1,.c (.fn f l),J)
  | none=>none
 | .ext x i => (x.get env).bind fun a => match a.2 with
  | .tup vs=>(vs[i]?).map fun v=>(a.1,v,J)
  | _=>none
 | .len str x => (x.get env).bind fun a => match str, a.2 with
  | false,.c (.t (.slice es))=>some (a.1,.c (.t (.int .i64 es.length)),J)
  | false,.c (.arr _ _ _ l)=>some (a.1,.c (.t (.int .i64 l)),J)
  | false,.c .cap0=>some (a.1,.c (.t (.int .i64 0)),J)
  | false,.c (.bufc _ l)=>some (a.1,.c (.t (.int .i64 l)),J)
  | true,.c (.t (.str s))=>some (a.1,.c (.t (.int .i64 s.length)),J)
  | _,_=>none
 | .append te sz bytes x y => (x.get env).bind fun a => (y.get env).bind fun d =>
  match winOf a.2 d.2 with
  | some r=>appW J n sz a.1 d.1 r
  | none=>
  (ysOf J d.2).bind fun ys=>
  match a.2 with
  | .c .cap0 => some (a.1 /\ d.1 /\ (∀ e, e ∈ ys.1 -> e.length = sz) /\ capOk ys.1.length bytes /\ ys.1.length <= az,
   .c (.arr n sz 0 ys.1.length),sput J n (.arr sz ys.1))
  | .c (.arr b sz' off len)=>match sget J b with
   | some (.arr sz'' es)=>
    if ys.2=some b then none else
    some (a.1/\d.1/\sz'=sz/\sz''=sz/\off=0/\len=es.length/\(∀e,e∈ys.1->e.length=sz)/\capOk (es.length+ys.1.length) bytes/\es.length+ys.1.length<=az,
     .c (.arr n sz 0 (len+ys.1.length)),sput (sdel J b) n (.arr sz (es++ys.1)))
   | _=>none
  | .c (.bufc b len)=>match sget J b with
   | some (.buf e' es)=>(bytesOf ys.1).map fun s=>
    (a.1/\d.1/\e'=te/\sz=1/\len=es.length/\ys.1=s.map (fun c=>[.int .u8 c.toNat])/\capOk (es.length+s.length) bytes/\es.length+s.length<=az,
     .c (.bufc n (len+s.length)),sput (sdel J b) n (.buf e' (es++s)))
   | _=>none
  | _=>none
 | .appendT _ sz bytes x y => (x.get env).bind fun a => (y.get env).bind fun d =>
  match winOf a.2 d.2 with
  | some _=>none
  | none=>(ysOf J d.2).bind fun ys=>match a.2 with
  | .c (.arr b sz' off len)=>match sget J b with
   | some (.arr sz'' es)=>if ys.2=some b then none else
    some (a.1/\d.1/\sz'=sz/\sz''=sz/\off=0/\len=es.length/\(∀e,e∈ys.1->e.length=sz)/\capOk (es.length+ys.1.length) bytes/\es.length+ys.1.length<=az,
     .c (.t (.slice (es++ys.1))),sdel J b)
   | _=>none
  | _=>none
 | .max2 x y => (x.get env).bind fun a => (y.get env).bind fun b => match a.2, b.2 with
  | .c (.t (.int k p)),.c (.t (.int k' q))=>if k=k' then some (a.1/\b.1,.c (.t (.int k (max p q))),J)else none
  | _,_=>none
 | .min2 x y => (x.get env).bind fun a => (y.get env).bind fun b => match a.2, b.2 with
  | .c (.t (.int k p)),.c (.t (.int k' q))=>if k=k' then some (a.1/\b.1,.c (.t (.int k (min p q))),J)else none
  | _,_=>none
 | .allocS e e8=>some (True,.c (.ptr n 0),sput (sput J (n+1) (.buf e8 [])) n (.bld e (.bufc (n+1) 0)))
 | .bsliceT _ sz len z parts=>(toTs z).bind fun zt=>(bf env sz (List.replicate len zt) parts).map fun a=>(a.1,.c (.t (.slice a.2)),J)
 | .mkset=>some (True,.c (.mp n),sput J n (.set []))
 | .lkset x k => (x.get env).bind fun a => (k.get env).bind fun d => match a.2, d.2 with
  | .c (.mp b),.c (.t (.str s))=>match sget J b with
   | some (.set ks)=>some (a.1/\d.1,.c (.t (.bool (hasS ks s))),J)
   | _=>none
  | _,_=>none
 | .upset x k => (x.get env).bind fun a => (k.get env).bind fun d => match a.2, d.2 with
  | .c (.mp b),.c (.t (.str s))=>match sget J b with
   | some (.set ks)=>some (a.1/\d.1,.tup [],sput J b (.set (addS ks s)))
   | _=>none
  | _,_=>none
 | .appendB e bytes x y => (x.get env).bind fun a => (y.get env).bind fun d => match a.2, d.2 with
  | .c (.bufc b len),.c (.t (.str s))=>match sget J b with
   | some (.buf e' es)=>
    some (a.1/\d.1/\e'=e/\len=es.length/\capOk (es.length+s.length) bytes/\es.length+s.length<=az,
     .c (.bufc n (len+s.length)),sput (sdel J b) n (.buf e (es++s)))
   | _=>none
  | _,_=>none
 | .sdata x => (x.get env).bind fun a => match a.2 with
  | .c (.bufc b _)=>some (a.1,.c (.sptr b),J)
  | _=>none
 | .ustr e x k => (x.get env).bind fun a => (k.get env).bind fun d => match a.2, d.2 with
  | .c (.sptr b),.c (.t (.int .i64 m))=>match sget J b with
   | some (.buf e' es)=>some (a.1/\d.1/\e'=e/\m=es.length,.c (.t (.str es)),sdel J b)
   | _=>none
  | _,_=>none
 | .eqNil .. | .call .. | .callv .. =>none
where capsOf:List V->Option (List Nat)
 | []=>some []
 | .c (.ptr b 0)::r=>(capsOf r).map (b::·)
 | _=>none
def setEs(ks:List (List UInt8))(es:List MapEntry):Prop:=All2 (fun k e=>e.key= .string ⟨k.toArray⟩/\e.val= .bool true) ks es
def RB(φ:Phi)(w:World)(S:Stab)(b:Nat):Blk->Prop
 | .box cs=>(φ b).2≠0/\∃(vs:List Value) (E:TypeId),w.heap[(φ b).1]?=some (.cells vs.toArray E (0,0))/\All2 (RC φ w S) cs vs/\∀j,¬S (φ b).1 j
 | .arr sz es => es.length <= (φ b).2 /\ es.length <= az /\ (∀ e, e ∈ es -> e.length = sz) /\ 0 < sz /\
  ((φ b).2≠0->∃(vs:List Value) (E:TypeId),w.heap[(φ b).1]?=some (.cells vs.toArray E (0,0))/\vs.length=(φ b).2*sz/\
   (∀(i j:Nat) e t,es[i]?=some e->e[j]?=some t->∃v,vs[i*sz+j]?=some v/\RT w S t v)/\∀j,¬S (φ b).1 j)
 | .set ks=>(φ b).2≠0/\(∃(es:List MapEntry) (clock:Nat),w.heap[(φ b).1]?=some (.map es.toArray clock)/\setEs ks es)/\∀j,¬S (φ b).1 j
 | .buf E s => s.length <= (φ b).2 /\ s.length <= az /\
  ((φ b).2≠0->(∃vs:List Value,w.heap[(φ b).1]?=some (.cells vs.toArray E (0,0))/\vs.length=(φ b).2/\
   ∀(i:Nat) c,s[i]?=some c->vs[i]?=some (.int .u8 (UInt8.toNat c)))/\∀j,¬S (φ b).1 j)
 | .bld E c=>(φ b).2≠0/\(∃p v:Value,w.heap[(φ b).1]?=some (.cells #[p,v] E (0,0))/\(p= .pointer none\/p= .pointer (some ⟨(φ b).1,0,none⟩))/\RC φ w S c v)/\∀j,¬S (φ b).1 j
 | .arro sz es i o c => (es.length <= (φ b).2 /\ es.length <= az /\ (∀ e, e ∈ es -> e.length = sz) /\ 0 < sz /\ i < es.length /\ o < sz) /\
  (∃(vs:List Value) (E:TypeId),w.heap[(φ b).1]?=some (.cells vs.toArray E (0,0))/\vs.length=(φ b).2*sz/\
   (∀(i' j:Nat) e t,es[i']?=some e->e[j]?=some t->¬(i'=i/\j=o)->∃v,vs[i'*sz+j]?=some v/\RT w S t v)/\∃v,vs[i*sz+o]?=some v/\RC φ w S c v)/\∀j,¬S (φ b).1 j
structure Sim (φ:Phi) (w:World) (S:Stab) (J:Store):Prop where
 blk:∀b x,sget J b=some x->RB φ w S b x
 inj:∀b b' x y,sget J b=some x->sget J b'=some y->b≠b'->(φ b).2≠0->(φ b').2≠0->(φ b).1≠(φ b').1
 st:∀b j,S b j->b < w.heap.size
structure Ext (B:Nat->Prop) (S S':Stab) (w w':World):Prop where
 os:w'.os=w.os
 tape:w'.tape=w.tape
 output:w'.output=w.output
 size:w.heap.size<=w'.heap.size
 block:∀b:Nat,b < w.heap.size->¬B b->w'.heap[b]?=w.heap[b]?
 mono:Mono w S w' S'
 snew:∀b j,S' b j->S b j\/B b\/w.heap.size<=b
def Blk.bnd(n:Nat->Bool):Blk->Bool
 | .box cs=>cs.all (C.bnd n)
 | .arr _ _=>true
 | .set _=>true
 | .buf _ _=>true
 | .bld _ c=>c.bnd n
 | .arro _ _ _ _ c=>c.bnd n
def ins(n:Nat->Bool)(k:Nat):Nat->Bool:=fun b=>n b || b==k
class GV where
 l:List (Nat×(Obj->Prop))
def GS[GV](w:World)(B:Nat->Prop):Prop:=∀x,x∈GV.l->¬B x.1/\∃o,w.heap[x.1]?=some o/\x.2 o
variable [GV]
structure Ctx where
 w0:World
 S0:Stab
 B:Nat->Prop
 φ0:Phi
 k:Nat
 good:GS w0 B
structure Rel (Γ:Ctx) (nt:Nat) (φ:Phi) (S:Stab) (env:Env) (J:Store) (n:Nat->Bool) (a:Act) (w:World):Prop where
 sim:Sim φ w S J
 envs:∀(k:Nat) g v,look env k=some (g,v)->g=true->∃x,a.tmps[k]?=some x/\RV φ w S v x
 envn:∀(k:Nat) g v,look env k=some (g,v)->g=false->a.tmps[k]?=some undef
 ebnd:∀(k:Nat) g v,look env k=some (g,v)->g=true->v.bnd n=true
 sbnd:∀(b:Nat) x,sget J b=some x->n b=true/\x.bnd n=true
 size:a.tmps.size=nt
 defers:a.defers=[]
 ext:Ext Γ.B Γ.S0 S Γ.w0 w
 own:∀(b:Nat) x,sget J b=some x->(φ b).2≠0->Γ.B (φ b).1\/Γ.w0.heap.size<=(φ b).1
 fix:∀b:Nat,b < Γ.k->φ b=Γ.φ0 b
 kn:∀b:Nat,b < Γ.k->n b=true
theorem Rel.glob{Γ:Ctx}{nt:Nat}{φ:Phi}{S:Stab}{env:Env}{J:Store}{n:Nat->Bool}{a:Act}{w:World}(R:Rel Γ nt φ S env J n a w){B:Nat->Prop}(hB:∀b,B b->Γ.B b\/Γ.w0.heap.size<=b):GS w B:=by
 intro x hx;obtain⟨h1,o,h2,h3⟩:=Γ.good x hx;have hlt:x.1 < Γ.w0.heap.size:=(Array.getElem?_eq_some_iff.1 h2).1;refine⟨fun h=>?_,o,(R.ext.block _ hlt h1).trans h2,h3⟩;rcases hB _ h with h | h
 . exact h1 h
 . omega
end
section
open Go
variable [GV]
section
variable {P:Program} {Γ:Ctx} {nt:Nat} {φ:Phi} {S:Stab} {env:Env} {J:Store} {n:Nat->Bool} {key:Nat} {a:Act} {w:World}
def Good(P:Program)(Γ:Ctx)(nt:Nat)(env:Env)(J':Store)(n':Nat->Bool)(a:Act)(v:V)(r:Result Next):Prop:=
 ∃x φ' S' w',(r= .ok (.value x) w'\/(r= .ok .skip w'/\x=undef))/\RV φ' w' S' v x/\v.bnd n'=true/\Rel Γ nt φ' S' env J' n' a w'
theorem vn{n:Nat->Bool}{k:Nat}:ins n k k=true:=by simp[ins]
theorem bq{n:Nat->Bool}{k b:Nat}(h:n b=true):ins n k b=true:=by grind[ins]
theorem C.bnd_mono{n n':Nat->Bool}(h:∀b,n b=true->n' b=true){c:C}(hc:c.bnd n=true):c.bnd n'=true:=by
 cases c <;> simp[C.bnd]at* <;> first | exact h _ hc | exact fun b hb=>h b (hc b hb)
theorem dB{n:Nat->Bool}:∀{vs:List V},(∀(i:Nat) v,vs[i]?=some v->v.bnd n=true)->V.bnd.V.bnds n vs=true
 | [],_=>rfl
 | v::vs,h=>by
  simp[V.bnd.V.bnds];exact⟨h 0 v rfl,dB fun i v hv=>h (i+1) v hv⟩
theorem V.bnd_mono{n n':Nat->Bool}(h:∀b,n b=true->n' b=true):∀{v:V},v.bnd n=true->v.bnd n'=true
 | .c x,hv=>by grind[V.bnd,C.bnd_mono]
 | .agg cs,hv=>by
  grind[V.bnd,C.bnd_mono]
 | .tup vs,hv=>by
  exact go vs hv
where go:∀vs,V.bnd.V.bnds n vs=true->V.bnd.V.bnds n' vs=true
 | [],_=>rfl
 | v::vs,hv=>by
  simp[V.bnd.V.bnds]at hv ⊢;exact⟨V.bnd_mono h hv.1,go vs hv.2⟩
theorem Blk.bnd_mono{n n':Nat->Bool}(h:∀b,n b=true->n' b=true){x:Blk}(hx:x.bnd n=true):x.bnd n'=true:=by
 cases x with
 | box cs=>
  grind[Blk.bnd,C.bnd_mono]
 | arr=>rfl
 | set=>rfl
 | buf=>rfl
 | bld E c=>grind[Blk.bnd,C.bnd_mono]
 | arro sz es i o c=>grind[Blk.bnd,C.bnd_mono]
theorem Rel.more(R:Rel Γ nt φ S env J n a w){n':Nat->Bool}(h:∀b,n b=true->n' b=true):Rel Γ nt φ S env J n' a w:=
 ⟨R.sim,R.envs,R.envn,fun k g v hl hg=>V.bnd_mono h (R.ebnd k g v hl hg),fun b x hx=>⟨h b (R.sbnd b x hx).1,Blk.bnd_mono h (R.sbnd b x hx).2⟩,R.size,R.defers,R.ext,R.own,R.fix,fun b hb=>h b (R.kn b hb)⟩
theorem Good.pure (R : Rel Γ nt φ S env J n a w) {v : V} {x : Value} {r : Result Next} (hr : r = .ok (.value x) w) (hv : RV φ w S v x) (hb : v.bnd n = true):
 Good P Γ nt env J (ins n key) a v r:=⟨x,φ,S,w,.inl hr,hv,V.bnd_mono (fun _ h=>bq h) hb,R.more fun _ h=>bq h⟩
theorem mi{v:Value}{c:C}(h:ofVal v=some c):RC φ w S c v/\c.bnd n=true:=by
 unfold ofVal at h;split at h <;> simp at h
 . subst h;exact⟨.bool _,rfl⟩
 . subst h;exact⟨.int _ _,rfl⟩
 . obtain⟨hs,rfl⟩:=h;exact⟨.str _ hs,rfl⟩
 . subst h;exact⟨⟨_,rfl⟩,rfl⟩
 . subst h;exact⟨rfl,rfl⟩
 . subst h;exact⟨rfl,rfl⟩
 . subst h;exact⟨rfl,rfl⟩
theorem jh :∀{vs:List Value} {cs:List C},eU vs=some cs->All2 (RC φ w S) cs vs/\cs.all (C.bnd n)=true
 | [],cs,h=>by simp[eU]at h;subst h;exact⟨.nil,rfl⟩
 | v::vs,cs,h=>by
  simp[eU,oZ2,oZ1]at h;obtain⟨c,hc,cs',hcs,rfl⟩:=h;have h1:=mi (φ:=φ) (w:=w) (S:=S) (n:=n) hc;have h2:=jh hcs;exact⟨.cons h1.1 h2.1,by grind⟩
theorem rG{v:Value}{V0:V}(h:kB v=some V0):RV φ w S V0 v/\V0.bnd n=true:=by
 unfold kB at h;split at h
 . simp at h;obtain⟨l,hl,rfl⟩:=h;have:=jh (φ:=φ) (w:=w) (S:=S) (n:=n) hl;refine⟨?_,by grind[V.bnd]⟩;have e:=RV.agg this.1;omega
 . simp at h;obtain⟨l,hl,rfl⟩:=h;have:=mi (φ:=φ) (w:=w) (S:=S) (n:=n) hl;exact⟨.c this.1,by grind[V.bnd]⟩
theorem ae (R : Rel Γ nt φ S env J n a w) {x : Operand} {ao : AO} (hx : opd x = some ao) {p : Prop} {v : V} (h : ao.get env = some (p, v)) (hp : p):
 RV φ w S v (a.eval x)/\v.bnd n=true:=by
 cases x with
 | tmp t=>
  simp[opd]at hx;subst hx;simp only[AO.get,oZ1]at h;obtain⟨⟨g,v'⟩,hl,he⟩:=h;obtain⟨rfl,rfl⟩:=he;obtain⟨y,hy,hr⟩:=R.envs t g v' hl hp;refine⟨?_,R.ebnd t g v' hl hp⟩;simp_all[Act.eval]
 | const c=>
  simp[opd]at hx;obtain⟨V0,hV,rfl⟩:=hx;obtain⟨_,rfl⟩:=h;exact rG hV
 | global g=>grind[opd]
 | func f=>
  simp[opd]at hx;subst hx;obtain⟨_,rfl⟩:=h;exact⟨.c (by rfl),by rfl⟩
theorem c6 (R : Rel Γ nt φ S env J n a w): ∀ {xs : List Operand} {aos : List AO} (_ : opds xs = some aos) {p : Prop} {vs : List V} (_ : gets env aos = some (p, vs)) (_ : p),
 All2 (RV φ w S) vs (xs.map a.eval)/\V.bnd.V.bnds n vs=true
 | [],aos,hx,p,vs,h,hp=>by simp[opds]at hx;subst hx;obtain⟨_,rfl⟩:=h;exact⟨.nil,rfl⟩
 | x::xs,aos,hx,p,vs,h,hp=>by
  simp[opds,oZ2,oZ1]at hx;obtain⟨ao,hao,aos',haos,rfl⟩:=hx;simp only[gets,oZ2,oZ1]at h;obtain⟨⟨q,v⟩,hq,⟨q',vs'⟩,hq',he⟩:=h;obtain⟨rfl,rfl⟩:=he;have h1:=ae R hao hq hp.1;have h2:=c6 R haos hq' hp.2;exact⟨.cons h1.1 h2.1,by grind[V.bnd.V.bnds]⟩
theorem RV.bool_inv{b:Bool}{x:Value}(h:RV φ w S (.c (.t (.bool b))) x):x= .bool b:=by cases h with | c h=>cases h;rfl
theorem RV.int_inv{k:IntKind}{m:Int}{x:Value}(h:RV φ w S (.c (.t (.int k m))) x):x= .int k m:=by cases h with | c h=>cases h;rfl
theorem RV.str_inv{s:List UInt8}{x:Value}(h:RV φ w S (.c (.t (.str s))) x):∃bs:ByteArray,x= .string bs/\bs.data.toList=s/\bs.size<=aD:=by cases h with | c h=>cases h <;>grind
theorem RV.ptr_inv{b o:Nat}{x:Value}(h:RV φ w S (.c (.ptr b o)) x):x= .pointer (some ⟨(φ b).1,o,none⟩):=by cases h with | c h=>exact h
theorem RV.eptr_inv{b sz i o:Nat}{x:Value}(h:RV φ w S (.c (.eptr b sz i o)) x):x= .pointer (some ⟨(φ b).1,i*sz+o,none⟩):=by cases h with | c h=>exact h
theorem RV.agg_inv{cs:List C}{x:Value}(h:RV φ w S (.agg cs) x):∃vs:List Value,x= .agg vs.toArray/\All2 (RC φ w S) cs vs:=by cases h <;>grind
theorem RV.c_inv{c:C}{x:Value}(h:RV φ w S (.c c) x):RC φ w S c x:=by cases h <;>grind
theorem RV.boolI(b:Bool):RV φ w S (.c (.t (.bool b))) (.bool b):= .c (.bool b)
theorem RV.intI(k:IntKind)(m:Int):RV φ w S (.c (.t (.int k m))) (.int k m):= .c (.int k m)
theorem nO (R : Rel Γ nt φ S env J n a w) {o : Oper} {x : Operand} (ho : o.op = .move x \/ o.op = .assign x) {ao : AO} (hx : opd x = some ao)
 {p v J'} (hk:n key=false) (h:aval (.mov ao) env J key=some (p,v,J')) (hp:p):Good P Γ nt env J' (ins n key) a v ((execOp a.eval o).run P w):=by
 simp only[aval,oZ1]at h;obtain⟨⟨q,u⟩,hq,he⟩:=h;obtain⟨rfl,rfl,rfl⟩:=he;have hg:=ae R hx hq hp;refine Good.pure R ?_ hg.1 hg.2;rcases ho with ho | ho <;> simp[execOp,ho]
theorem s9 (R : Rel Γ nt φ S env J n a w) {o : Oper} {c x y : Operand} (ho : o.op = .pick c x y) {ac ax ay : AO} (hc : opd c = some ac) (hx : opd x = some ax) (hy : opd y = some ay)
 {p v J'} (hk:n key=false) (h:aval (.pick ac ax ay) env J key=some (p,v,J')) (hp:p):Good P Γ nt env J' (ins n key) a v ((execOp a.eval o).run P w):=by
 simp only[aval,oZ2]at h;obtain⟨⟨pc,vc⟩,hgc,⟨px,vx⟩,hgx,⟨py,vy⟩,hgy,he⟩:=h;simp at he;split at he
 . rename_i b q1 q2;obtain⟨rfl,rfl,rfl⟩:=he;obtain⟨h1,h2,h3⟩:=hp;have ec:=(ae R hc hgc h1).1.bool_inv;cases b with
   | true=>
    have ex:=(ae R hx hgx (h2 rfl)).1.bool_inv;exact Good.pure R (by simp[execOp,ho,ec,asBool,ex]) (.boolI _) rfl
   | false=>
    have ey:=(ae R hy hgy (h3 rfl)).1.bool_inv;exact Good.pure R (by simp[execOp,ho,ec,asBool,ey]) (.boolI _) rfl
 grind
theorem ep(b:ByteArray):b.data.toList.length=b.size:=by rfl
theorem ta {op : BinOp} {s t r : T} {p : Prop} (h : binT op s t = some (p, r)) (hp : p) {ty : TypeId} {x y : Value} (hx : RT w S s x) (hy : RT w S t y):
 ∃z,(binOp op ty x y).run P w= .ok z w/\RT w S r z:=by
 have eqd:∀a b:List UInt8,(a==b)=decide (a=b):=fun a b=>by grind
 unfold binT at h;split at h <;> (first | simp only[Option.ite_none_right_eq_some,Option.some.injEq]at h | cases h)
 all_goals cases hx;cases hy
 case h_1=>obtain⟨rfl,rfl,rfl⟩:=h;exact⟨_,by simp[binOp,Op.intArith],.int _ _⟩
 case h_2=>obtain⟨rfl,rfl,rfl⟩:=h;exact⟨_,by simp[binOp,Op.intArith],.int _ _⟩
 case h_3=>obtain⟨rfl,rfl,rfl⟩:=h;exact⟨_,by simp[binOp,Op.intArith],.int _ _⟩
 case h_4=>obtain⟨rfl,rfl,rfl⟩:=h;exact⟨_,by simp[binOp,Op.intDiv,hp],.int _ _⟩
 case h_5=>obtain⟨rfl,rfl,rfl⟩:=h;exact⟨_,by simp[binOp,Op.intDiv,hp],.int _ _⟩
 case h_6=>obtain⟨rfl,rfl,rfl⟩:=h;exact⟨_,by simp[binOp,Op.intBits],.int _ _⟩
 case h_7=>obtain⟨rfl,rfl,rfl⟩:=h;exact⟨_,by simp[binOp,Op.intBits],.int _ _⟩
 case h_8=>obtain⟨rfl,rfl,rfl⟩:=h;exact⟨_,by simp[binOp,Op.intBits],.int _ _⟩
 case h_9=>obtain⟨rfl,rfl,rfl⟩:=h;exact⟨_,by simp[binOp,Op.intBits],.int _ _⟩
 case h_10=>obtain⟨rfl,rfl⟩:=h;exact⟨_,by simp_all[binOp,Op.shift,if_neg],.int _ _⟩
 case h_11=>obtain⟨rfl,rfl⟩:=h;exact⟨_,by simp_all[binOp,Op.shift,if_neg],.int _ _⟩
 case h_12=>obtain⟨rfl,rfl,rfl⟩:=h;exact⟨_,by simp[binOp,Op.intCmp];rfl,.bool _⟩
 case h_13=>obtain⟨rfl,rfl,rfl⟩:=h;exact⟨_,by simp[binOp,Op.intCmp,bne,BEq.beq],.bool _⟩
 case h_14=>obtain⟨rfl,rfl,rfl⟩:=h;exact⟨_,by simp[binOp,Op.intCmp],.bool _⟩
 case h_15=>obtain⟨rfl,rfl,rfl⟩:=h;exact⟨_,by simp[binOp,Op.intCmp],.bool _⟩
 case h_16=>obtain⟨rfl,rfl,rfl⟩:=h;exact⟨_,by simp[binOp,Op.intCmp],.bool _⟩
 case h_17=>obtain⟨rfl,rfl,rfl⟩:=h;exact⟨_,by simp[binOp,Op.intCmp],.bool _⟩
 case h_18 s hs t ht=>
  obtain⟨rfl,rfl⟩:=h;simp only[ep]at hp;have e:(s++t).data.toList=s.data.toList++t.data.toList:=by rfl
  refine⟨.string (s++t),?_,e▸.str _ (by grind)⟩;have:¬(((s.size+t.size:Nat):Int) > IntKind.i64.max):=by grind[IntKind.max,aD,IntKind.signed,IntKind.bits]
  simp_all[binOp,Op.stringOp,if_neg]
 case h_19 s hs t ht=>obtain⟨rfl,rfl⟩:=h;exact⟨_,by simp_all[binOp,Op.stringOp,ByteArray.toList_eq],.bool _⟩
 case h_20 s hs t ht=>obtain⟨rfl,rfl⟩:=h;exact⟨_,by simp_all[binOp,Op.stringOp,ByteArray.toList_eq],.bool _⟩
 case h_21 s hs t ht=>obtain⟨rfl,rfl⟩:=h;exact⟨_,by simp_all[binOp,Op.stringOp,ByteArray.toList_eq],.bool _⟩
 case h_22 s hs t ht=>obtain⟨rfl,rfl⟩:=h;exact⟨_,by simp_all[binOp,Op.stringOp,ByteArray.toList_eq],.bool _⟩
 case h_23 s hs t ht=>obtain⟨rfl,rfl⟩:=h;exact⟨_,by simp_all[binOp,Op.stringOp,ByteArray.toList_eq],.bool _⟩
 case h_24 s hs t ht=>obtain⟨rfl,rfl⟩:=h;exact⟨_,by simp_all[binOp,Op.stringOp,ByteArray.toList_eq],.bool _⟩
theorem jx{op:BinOp}{ty:TypeId}{x y:Operand}{u v:Value}(h1:u≠.nilIface)(h2:∀cs,u≠.agg cs):(eqGuard op ty x y u v).run P w= .ok () w:=by
 simp_all[eqGuard]
theorem RT.guard{t:T}{u:Value}(h:RT w S t u):u≠.nilIface/\∀cs,u≠.agg cs:=by
 cases h <;> exact⟨by simp,by simp⟩
theorem mV{ty:TypeId}(hty:P.underlying ty=some .bool)(b1 b2:Bool):(Op.equal ty (.bool b1) (.bool b2)).run P w= .ok (b1==b2) w:=by
 obtain⟨d,hd⟩:∃d,Op.maxDepth=d+1:=⟨9999,rfl⟩
 unfold Op.equal;rw[hd];unfold Op.equalIn;simp only[Sem.run_bind,run_underlying hty];rfl
theorem j4 (R : Rel Γ nt φ S env J n a w) {o : Oper} {op : BinOp} {ty yt : TypeId} {x y : Operand} (ho : o.op = .binOp op ty x y yt) {ax ay : AO} (hx : opd x = some ax) (hy : opd y = some ay)
 {p v J'} (hk:n key=false) (h:aval (.bin op ax ay) env J key=some (p,v,J')) (hp:p):Good P Γ nt env J' (ins n key) a v ((execOp a.eval o).run P w):=by
 simp only[aval,oZ2]at h;obtain⟨⟨px,vx⟩,hgx,⟨py,vy⟩,hgy,he⟩:=h;simp at he;split at he
 . simp only[oZ1]at he;obtain⟨⟨pr,r⟩,hr,rfl,rfl,rfl⟩:=he;have h1:=(ae R hx hgx hp.1).1.c_inv;have h2:=(ae R hy hgy hp.2.1).1.c_inv;obtain⟨z,hz,hzr⟩:=ta (P:=P) (ty:=ty) hr hp.2.2 h1 h2;refine Good.pure R ?_ (.c hzr) rfl;have eg:(eqGuard op ty x y _ (a.eval y)).run P w= .ok _ w:=jx (RT.guard h1).1 (RT.guard h1).2;simp_all[execOp]
 grind
theorem rU (R : Rel Γ nt φ S env J n a w) {o : Oper} {op : BinOp} {ty yt : TypeId} {x y : Operand} (ho : o.op = .binOp op ty x y yt) (hop : op = .eql \/ op = .neq) (hty : P.underlying ty = some .bool)
 {ax ay:AO} (hx:opd x=some ax) (hy:opd y=some ay)
 {p v J'} (hk:n key=false) (h:aval (.eqBool (op== .neq) ax ay) env J key=some (p,v,J')) (hp:p):Good P Γ nt env J' (ins n key) a v ((execOp a.eval o).run P w):=by
 simp only[aval,oZ2]at h;obtain⟨⟨px,vx⟩,hgx,⟨py,vy⟩,hgy,he⟩:=h;simp at he;split at he
 . rename_i b1 b2;obtain⟨rfl,rfl,rfl⟩:=he;have h1:=(ae R hx hgx hp.1).1.bool_inv;have h2:=(ae R hy hgy hp.2).1.bool_inv;refine Good.pure R ?_ (.boolI _) rfl;have eg:(eqGuard op ty x y (a.eval x) (a.eval y)).run P w= .ok _ w:=jx (by grind) (by grind);have ev:(binOp op ty (a.eval x) (a.eval y)).run P w= .ok (.bool (if(op== .neq)then !(b1==b2)else(b1==b2))) w:=by
    rcases hop with rfl | rfl
    . simp_all[binOp,mV]
    simp_all[binOp,mV]
   simp_all[execOp]
 grind
theorem uw (R : Rel Γ nt φ S env J n a w) {o : Oper} {ty : TypeId} {x : Operand} (ho : o.op = .unOp .not ty x) {ax : AO} (hx : opd x = some ax)
 {p v J'} (hk:n key=false) (h:aval (.not ax) env J key=some (p,v,J')) (hp:p):Good P Γ nt env J' (ins n key) a v ((execOp a.eval o).run P w):=by
 simp only[aval,oZ2]at h;obtain⟨⟨px,vx⟩,hgx,he⟩:=h;simp at he;split at he
 . obtain⟨rfl,rfl,rfl⟩:=he;have h1:=(ae R hx hgx hp).1.bool_inv;exact Good.pure R (by simp[execOp,ho,h1,Op.unary]) (.boolI _) rfl
 grind
theorem ux (R : Rel Γ nt φ S env J n a w) {o : Oper} {ty : TypeId} {x : Operand} {k : IntKind} (ho : o.op = .unOp .neg ty x) {ax : AO} (hx : opd x = some ax)
 {p v J'} (hk:n key=false) (h:aval (.bin .sub (.const (.c (.t (.int k 0)))) ax) env J key=some (p,v,J')) (hp:p):Good P Γ nt env J' (ins n key) a v ((execOp a.eval o).run P w):=by
 simp only[aval,AO.get,oZ3,oZ2]at h;obtain⟨⟨px,vx⟩,hgx,he⟩:=h;simp only at he;split at he
 . rename_i t1 t2 e1;cases e1;simp only[oZ1]at he;obtain⟨⟨pr,r⟩,hr,rfl,rfl,rfl⟩:=he;have h2:=(ae R hx hgx hp.2.1).1;cases t2 <;> simp only[binT,reduceCtorEq,Option.ite_none_right_eq_some]at hr
   obtain⟨rfl,rfl,rfl⟩:=hr;have h3:=h2.int_inv;exact Good.pure R (by simp[execOp,ho,h3,Op.unary,Op.intArith]) (.intI _ _) rfl
 grind
theorem uy (R : Rel Γ nt φ S env J n a w) {o : Oper} {ty : TypeId} {x : Operand} {k : IntKind} (ho : o.op = .unOp .xor ty x) {ax : AO} (hx : opd x = some ax)
 {p v J'} (hk:n key=false) (h:aval (.bin .xor (.const (.c (.t (.int k (if k.signed then -1 else k.max))))) ax) env J key=some (p,v,J')) (hp:p):Good P Γ nt env J' (ins n key) a v ((execOp a.eval o).run P w):=by
 simp only[aval,AO.get,oZ3,oZ2]at h;obtain⟨⟨px,vx⟩,hgx,he⟩:=h;simp only at he;split at he
 . rename_i t1 t2 e1;cases e1;simp only[oZ1]at he;obtain⟨⟨pr,r⟩,hr,rfl,rfl,rfl⟩:=he;have h2:=(ae R hx hgx hp.2.1).1;cases t2 <;> simp only[binT,reduceCtorEq,Option.ite_none_right_eq_some]at hr
   obtain⟨rfl,rfl,rfl⟩:=hr;have h3:=h2.int_inv;exact Good.pure R (by simp[execOp,ho,h3,Op.unary,Op.intBits]) (.intI _ _) rfl
 grind
theorem tc (R : Rel Γ nt φ S env J n a w) {o : Oper} {s d : TypeId} {x : Operand} (ho : o.op = .convert s d x) {k0 k : IntKind} (hs : P.underlying s = some (.int k0)) (hd : P.underlying d = some (.int k)) {ax : AO} (hx : opd x = some ax)
 {p v J'} (hk:n key=false) (h:aval (.conv k ax) env J key=some (p,v,J')) (hp:p):Good P Γ nt env J' (ins n key) a v ((execOp a.eval o).run P w):=by
 simp only[aval,oZ2]at h;obtain⟨⟨px,vx⟩,hgx,he⟩:=h;simp at he;split at he
 . obtain⟨rfl,rfl,rfl⟩:=he;have h1:=(ae R hx hgx hp).1.int_inv;exact Good.pure R (by simp[execOp,ho,h1,convert,underlying,hs,hd,Conv.intToInt]) (.intI _ _) rfl
 grind
theorem rV(m:Int):(Utf8.encode m).size<=aD:=by
 unfold aD Utf8.encode;dsimp
 (repeat' split) <;> simp[ByteArray.size]
theorem uz (R : Rel Γ nt φ S env J n a w) {o : Oper} {s d : TypeId} {x : Operand} (ho : o.op = .convert s d x) {k0 : IntKind} (hs : P.underlying s = some (.int k0)) (hd : P.underlying d = some .string) {ax : AO} (hx : opd x = some ax)
 {p v J'} (hk:n key=false) (h:aval (.i2s ax) env J key=some (p,v,J')) (hp:p):Good P Γ nt env J' (ins n key) a v ((execOp a.eval o).run P w):=by
 simp only[aval,oZ2]at h;obtain⟨⟨px,vx⟩,hgx,he⟩:=h;simp at he;split at he
 . obtain⟨rfl,rfl,rfl⟩:=he;have h1:=(ae R hx hgx hp).1.int_inv;exact Good.pure R (by simp[execOp,ho,h1,convert,underlying,hs,hd,Conv.intToString]) (.c (.str _ (rV _))) rfl
 grind
theorem uA (R : Rel Γ nt φ S env J n a w) {o : Oper} {s d : TypeId} {x : Operand} (ho : o.op = .convert s d x) (hs : P.underlying s = some .string) (hd : P.underlying d = some .string) {ax : AO} (hx : opd x = some ax)
 {p v J'} (hk:n key=false) (h:aval (.s2s ax) env J key=some (p,v,J')) (hp:p):Good P Γ nt env J' (ins n key) a v ((execOp a.eval o).run P w):=by
 simp only[aval,oZ2]at h;obtain⟨⟨px,vx⟩,hgx,he⟩:=h;simp at he;split at he
 . obtain⟨rfl,rfl,rfl⟩:=he;have hg:=ae R hx hgx hp;obtain⟨bs,h1,rfl,_⟩:=hg.1.str_inv;refine Good.pure R ?_ (h1▸hg.1) rfl;simp[execOp,ho,h1,convert,underlying,hs,hd]
 grind
theorem rB (R : Rel Γ nt φ S env J n a w) {o : Oper} {x : Operand} (ho : o.op = .nilCheck x) {ax : AO} (hx : opd x = some ax)
 {p v J'} (hk:n key=false) (h:aval (.nilCheck ax) env J key=some (p,v,J')) (hp:p):Good P Γ nt env J' (ins n key) a v ((execOp a.eval o).run P w):=by
 simp only[aval,oZ2]at h;obtain⟨⟨px,vx⟩,hgx,he⟩:=h;simp at he;split at he <;> simp only[Option.some.injEq,reduceCtorEq]at he
 all_goals
  obtain⟨rfl,rfl,rfl⟩:=he;have hg:=ae R hx hgx hp;have h1:=hg.1.c_inv;refine Good.pure R ?_ hg.1 hg.2
 . simp_all[RC,execOp]
 . simp_all[RC,execOp]
 . obtain⟨_,_,_,h1,_⟩:=h1;simp_all[execOp]
theorem td (R : Rel Γ nt φ S env J n a w) {o : Oper} {ty : TypeId} {x : Operand} {f : Nat} (ho : o.op = .fieldAddr ty x f) {fs : Array Field} (hty : P.underlying ty = some (.struct fs)) {fd : Field} (hf : fs[f]? = some fd)
 {m:Nat} (hm:sizeT P fd.type=some m) (hm0:m≠0) {ax:AO} (hx:opd x=some ax)
 {p v J'} (hk:n key=false) (h:aval (.fldA fd.offset ax) env J key=some (p,v,J')) (hp:p):Good P Γ nt env J' (ins n key) a v ((execOp a.eval o).run P w):=by
 simp only[aval,oZ2]at h;obtain⟨⟨px,vx⟩,hgx,he⟩:=h;simp at he;have hu:∀w,(underlying ty).run P w= .ok (.struct fs) w:=by simp_all[underlying]
 have hsz:∀w,(sizeOf fd.type).run P w= .ok m w:=by simp[sizeT]at hm;obtain⟨i,hi,rfl⟩:=hm;simp[sizeOf,typeInfo,hi]
 have hrun:∀(b off:Nat),a.eval x= .pointer (some ⟨b,off,none⟩)->(execOp a.eval o).run P w= .ok (.value (.pointer (some ⟨b,off+fd.offset,none⟩))) w:=by
  simp_all[execOp,Instr.fieldAt,Instr.sureAddr,fieldPlace,Addr.add]
 split at he <;> simp only[Option.some.injEq,reduceCtorEq]at he
 all_goals
  obtain⟨rfl,rfl,rfl⟩:=he;have hg:=ae R hx hgx hp;have h1:=hg.1.c_inv
 . exact Good.pure R (hrun _ _ h1) (.c rfl) hg.2
 . exact Good.pure R (hrun _ _ h1) (.c (by simp[RC,Nat.add_assoc])) hg.2
 . obtain⟨blk,off,f,h1,hh⟩:=h1;exact Good.pure R (hrun _ _ h1) (.c ⟨blk,off,f,by grind,hh⟩) hg.2
theorem All2.map_t{w:World}{S:Stab}{φ:Phi}{ts:List T}{vs:List Value}(h:All2 (RT w S) ts vs):All2 (RC φ w S) (ts.map .t) vs:=by
 induction h with
 | nil=>exact .nil
 | cons h _ ih=>exact .cons h ih
theorem nP(n:Nat->Bool)(ts:List T):(ts.map C.t).all (C.bnd n)=true:=by simp[C.bnd]
theorem dD{ty:TypeId}{g:Bool}(hg:cP P ty=some g)(w:World):(isAgg ty).run P w= .ok g w:=by
 unfold cP at hg;split at hg <;> simp_all [isAgg,underlying]
theorem bd{ty:TypeId}{k:Nat}(hk:sizeT P ty=some k)(w:World):(sizeOf ty).run P w= .ok k w:=by
 simp[sizeT]at hk;obtain⟨i,hi,rfl⟩:=hk;simp[sizeOf,typeInfo,hi]
theorem jP{ty:TypeId}{g:Bool×Nat}(h:bT P ty=some g):cP P ty=some g.1/\sizeT P ty=some g.2/\(g.1=false->g.2=1):=by
 grind[bT,oZ2]
theorem mj {ty : TypeId} {g : Bool} {k : Nat} (hg : cP P ty = some g) (hk : sizeT P ty = some k) {b o : Nat} {vs : List Value}
 (hc:∀j,j < k->w.cell? ⟨b,o+j,none⟩=vs[j]?) (hl:vs.length=k) (h1:g=false->k=1):
 (loadVar ty ⟨b,o,none⟩).run P w= .ok (if g then .agg vs.toArray else vs.getD 0 undef) w:=by
 cases g with
 | true=>
  have:=run_loadCells_list (P:=P) w ⟨b,o,none⟩ vs (fun j v hj=>by
   grind[Addr.add])
  simp_all[loadVar,dD,bd]
 | false=>
  simp_all[loadVar,dD]
end
end
section
open Go
variable [GV]
section
variable {P:Program} {Γ:Ctx} {nt:Nat} {φ:Phi} {S:Stab} {env:Env} {J:Store} {n:Nat->Bool} {key:Nat} {a:Act} {w:World}
theorem RC.single{c:C}{v:Value}(h:RC φ w S c v):v.cells=#[v]:=by
 have:=RC.oneCell h;cases v <;> simp[Value.oneCell']at this <;> rfl
theorem cf{v:V}{x:Value}{cs:List C}(h:RV φ w S v x)(hc:cQ v=some cs)(hb:v.bnd n=true):All2 (RC φ w S) cs x.cells.toList/\cs.all (C.bnd n)=true:=by
 cases h with
 | c h=>
  simp[cQ]at hc;subst hc;rw[RC.single h];exact⟨.cons h .nil,by grind[V.bnd]⟩
 | agg h=>
  grind[cQ,Value.cells,V.bnd]
 | tup=>grind[cQ]
theorem ml {agg : Bool} {k o : Nat} {cs : List C} {vs : List Value} {v : V} (h : All2 (RC φ w S) cs vs) (hb : cs.all (C.bnd n) = true) (hl : loadC agg k cs o = some v) (h1 : agg = false -> k = 1):
 o+k<=cs.length/\RV φ w S v (if agg then .agg ((vs.drop o).take k).toArray else((vs.drop o).take k).getD 0 undef)/\v.bnd n=true:=by
 unfold loadC at hl;cases agg with
 | true=>
  simp at hl;obtain⟨hle,rfl⟩:=hl;refine⟨hle,?_,by grind[V.bnd]⟩
  simpa using RV.agg ((h.drop o).take k)
 | false=>
  have:=h1 rfl;subst this;simp at hl;obtain⟨c,hc,rfl⟩:=hl;obtain⟨x,hx,hr⟩:=h.get hc;have hlt:=(List.getElem?_eq_some_iff.1 hc).1;refine⟨by omega,?_,?_⟩
  . have:((vs.drop o).take 1).getD 0 undef=x:=by grind
    simp only[this];exact .c hr
  grind[V.bnd]
theorem oF{agg:Bool}{k o:Nat}{ts:List T}{v:V}(hl:loadT agg k ts o=some v):loadC agg k (ts.map .t) o=some v:=by
 unfold loadT at hl;unfold loadC;cases agg <;>simp_all
theorem vo {ty : TypeId} {g : Bool} {k off : Nat} {vs : List Value} (hg : cP P ty = some g) (hk : sizeT P ty = some k) (h1 : g = false -> k = 1) (hle : off + k <= vs.length):
 (part ty vs.toArray off).run P w= .ok (if g then .agg ((vs.drop off).take k).toArray else((vs.drop off).take k).getD 0 undef) w:=by
 cases g with
 | true=>
  simp_all[part,dD,bd]
 | false=>
  have:=h1 rfl;have hlt:off < vs.length:=by omega
  simp_all[part,dD]
theorem uB (R : Rel Γ nt φ S env J n a w) {o : Oper} {ty : TypeId} {x : Operand} {f : Nat} (ho : o.op = .field ty x f) {fs : Array Field} (hty : P.underlying ty = some (.struct fs)) {fd : Field} (hf : fs[f]? = some fd)
 {m:Nat} (hm:sizeT P fd.type=some m) {g:Bool} (hg:cP P fd.type=some g) (h1:g=false->m=1) {ax:AO} (hx:opd x=some ax)
 {p v J'} (hk:n key=false) (h:aval (.fld g fd.offset m ax) env J key=some (p,v,J')) (hp:p):Good P Γ nt env J' (ins n key) a v ((execOp a.eval o).run P w):=by
 simp only[aval,oZ2]at h;obtain⟨⟨px,vx⟩,hgx,he⟩:=h;simp at he;split at he
 . simp only[oZ1]at he;obtain⟨v0,hv0,rfl,rfl,rfl⟩:=he;have hgs:=ae R hx hgx hp;obtain⟨vs,hvs,hall⟩:=hgs.1.agg_inv;obtain⟨hle,hrv,hb⟩:=ml hall (by simpa[V.bnd]using hgs.2) hv0 h1;have hr:=vo (w:=w) hg hm h1 (by rw[<-hall.length];exact hle);exact Good.pure R (by simp[execOp,ho,hvs,Instr.field,underlying,hty,hf,asAgg,hr]) hrv hb
 grind
theorem uC (R : Rel Γ nt φ S env J n a w) {o : Oper} {x : Operand} {i : Nat} (ho : o.op = .extract x i) {ax : AO} (hx : opd x = some ax)
 {p v J'} (hk:n key=false) (h:aval (.ext ax i) env J key=some (p,v,J')) (hp:p):Good P Γ nt env J' (ins n key) a v ((execOp a.eval o).run P w):=by
 simp only[aval,oZ2]at h;obtain⟨⟨px,vx⟩,hgx,he⟩:=h;simp at he;split at he
 . simp only[oZ1]at he;obtain⟨v0,hv0,rfl,rfl,rfl⟩:=he;have hgs:=ae R hx hgx hp;generalize ha:a.eval x=y at hgs;obtain⟨hr,hb⟩:=hgs;cases hr with
   | tup _ xs hl hh=>
    have hlt:i < xs.length:=by grind
    have hxs:=List.getElem?_eq_getElem hlt;refine Good.pure R ?_ (hh i _ _ hv0 hxs) (bQ (by grind[V.bnd]) hv0);simp_all[execOp,Instr.extract]
 grind
theorem tf (R : Rel Γ nt φ S env J n a w) {o : Oper} {x y : Operand} {at' : Array TypeId} (ho : o.op = .call { callee := .builtin .max, args := #[x, y], argTypes := at' }) {ax ay : AO} (hx : opd x = some ax) (hy : opd y = some ay)
 {p v J'} (hk:n key=false) (h:aval (.max2 ax ay) env J key=some (p,v,J')) (hp:p):Good P Γ nt env J' (ins n key) a v ((execOp a.eval o).run P w):=by
 simp only[aval,oZ2]at h;obtain⟨⟨px,vx⟩,hgx,⟨py,vy⟩,hgy,he⟩:=h;simp at he;split at he
 . rename_i k p k' q;simp only[Option.ite_none_right_eq_some]at he;obtain⟨rfl,rfl,rfl,rfl⟩:=he;have h1:=(ae R hx hgx hp.1).1.int_inv;have h2:=(ae R hy hgy hp.2).1.int_inv;refine Good.pure R ?_ (.intI _ _) rfl;have:(if p < q then q else p)=max p q:=by omega
   simp[execOp,ho,invoke,builtin,Builtin.max_,Builtin.max2,h1,h2,Go.resolve,this]
 grind
theorem tg (R : Rel Γ nt φ S env J n a w) {o : Oper} {x y : Operand} {at' : Array TypeId} (ho : o.op = .call { callee := .builtin .min, args := #[x, y], argTypes := at' }) {ax ay : AO} (hx : opd x = some ax) (hy : opd y = some ay)
 {p v J'} (hk:n key=false) (h:aval (.min2 ax ay) env J key=some (p,v,J')) (hp:p):Good P Γ nt env J' (ins n key) a v ((execOp a.eval o).run P w):=by
 simp only[aval,oZ2]at h;obtain⟨⟨px,vx⟩,hgx,⟨py,vy⟩,hgy,he⟩:=h;simp at he;split at he
 . rename_i k p k' q;simp only[Option.ite_none_right_eq_some]at he;obtain⟨rfl,rfl,rfl,rfl⟩:=he;have h1:=(ae R hx hgx hp.1).1.int_inv;have h2:=(ae R hy hgy hp.2).1.int_inv;refine Good.pure R ?_ (.intI _ _) rfl;have:(if q < p then q else p)=min p q:=by omega
   simp[execOp,ho,invoke,builtin,Builtin.min_,Builtin.min2,h1,h2,Go.resolve,this]
 grind
theorem RT.slice_inv {es : List (List T)} {v : Value} (h : RT w S (.slice es) v): ∃ (a : Option Addr) (cap sz b o : Nat) (f : Nat -> Nat -> Value), v = .slice a es.length cap /\ es.length <= cap /\ es.length <= az /\ (∀ e, e ∈ es -> e.length = sz) /\ (es ≠ [] -> a = some ⟨b, o, none⟩) /\
 (∀i j:Nat,i < es.length->j < sz->S b (o+i*sz+j)/\w.cell? ⟨b,o+i*sz+j,none⟩=some (f i j))/\(∀(i j:Nat) e t,es[i]?=some e->e[j]?=some t->RT w S t (f i j)):=by
 cases h;exact⟨_,_,_,_,_,_,rfl,by grind,by grind,by omega,by omega,by omega,by grind⟩
theorem RC.arr_inv{b sz off len:Nat}{v:Value}(h:RC φ w S (.arr b sz off len) v):∃a,v= .slice a len ((φ b).2 - off)/\((φ b).2≠0->a=some ⟨(φ b).1,off*sz,none⟩)/\off+len<=(φ b).2:=h
theorem uE (R : Rel Γ nt φ S env J n a w) {o : Oper} {x : Operand} {ty : TypeId} (ho : o.op = .call { callee := .builtin .len, args := #[x], argTypes := #[ty] }) {str : Bool}
 (hty:if str then P.underlying ty=some .string else ∃e,P.underlying ty=some (.slice e)) {ax:AO} (hx:opd x=some ax)
 {p v J'} (hk:n key=false) (h:aval (.len str ax) env J key=some (p,v,J')) (hp:p):Good P Γ nt env J' (ins n key) a v ((execOp a.eval o).run P w):=by
 simp only[aval,oZ2]at h;obtain⟨⟨px,vx⟩,hgx,he⟩:=h;simp at he;split at he <;> simp only[Option.some.injEq,Prod.mk.injEq,reduceCtorEq]at he
 all_goals
  obtain⟨rfl,rfl,rfl⟩:=he;have h1:=(ae R hx hgx hp).1.c_inv
 . obtain⟨e,hty⟩:=hty;obtain⟨a',cap,_,_,_,_,h1,_⟩:=RT.slice_inv h1;exact Good.pure R (by simp[execOp,ho,Go.resolve,invoke,builtin,Builtin.len_,underlying,hty,h1,goInt]) (.intI _ _) rfl
 . obtain⟨e,hty⟩:=hty;obtain⟨a',h1,_⟩:=RC.arr_inv h1;exact Good.pure R (by simp[execOp,ho,Go.resolve,invoke,builtin,Builtin.len_,underlying,hty,h1,goInt]) (.intI _ _) rfl
 . obtain⟨e,hty⟩:=hty;obtain⟨a',h1⟩:=h1;exact Good.pure R (by simp[execOp,ho,Go.resolve,invoke,builtin,Builtin.len_,underlying,hty,h1,goInt]) (.intI _ _) rfl
 . obtain⟨e,hty⟩:=hty;rename_i b l;obtain⟨a',cap,h1⟩:∃a' cap,a.eval x= .slice a' l cap:=by
    obtain⟨hle,k0,k1⟩:=h1
    grind
   exact Good.pure R (by simp[execOp,ho,Go.resolve,invoke,builtin,Builtin.len_,underlying,hty,h1,goInt]) (.intI _ _) rfl
 . simp at hty;obtain⟨bs,hbs,rfl,_⟩:=RV.str_inv (.c h1);exact Good.pure R (x:= .int .i64 bs.size) (by simp[execOp,ho,Go.resolve,invoke,builtin,Builtin.len_,underlying,hty,hbs,goInt]) (by exact .intI _ _) rfl
theorem th (R : Rel Γ nt φ S env J n a w) {o : Oper} {ty : TypeId} {x i : Operand} (ho : o.op = .indexAddr ty x i) {e : TypeId} (hty : P.underlying ty = some (.slice e)) {sz : Nat} (hsz : sizeT P e = some sz) (h0 : sz ≠ 0)
 {ax ai:AO} (hx:opd x=some ax) (hi:opd i=some ai)
 {p v J'} (hk:n key=false) (h:aval (.idxA sz ax ai) env J key=some (p,v,J')) (hp:p):Good P Γ nt env J' (ins n key) a v ((execOp a.eval o).run P w):=by
 simp only[aval,oZ2]at h;obtain⟨⟨px,vx⟩,hgx,⟨pi,vi⟩,hgi,he⟩:=h;simp only at he;have hadd:∀(b off m:Nat),Addr.add ⟨b,off,none⟩ (m*sz)=⟨b,off+m*sz,none⟩:=by
  grind[Addr.add]
 split at he
 . rename_i es k m;obtain⟨rfl,rfl,rfl⟩:=he;obtain⟨hp1,hp2,hm0,hm1,hel⟩:=hp;have h1:=(ae R hx hgx hp1).1.c_inv;have h2:=(ae R hi hgi hp2).1.int_inv;obtain⟨a',cap,sz',b,off,f,h1,hcap,hmax,hszs,ha,hc,hv⟩:=RT.slice_inv h1;have hne:es≠[]:=by grind
   have hele:es[m.toNat]?=some (el es m.toNat):=by grind[el]
   have hszz:sz'=sz:=by grind
   subst hszz;rw[ha hne]at h1;refine Good.pure R (x:= .pointer (some ⟨b,off+m.toNat*sz',none⟩)) ?_ ?_ rfl
   . have hc':0<=m/\m < es.length:=⟨hm0,by omega⟩
     simp[execOp,ho,h1,h2,Instr.indexAt,asIntOf,underlying,hty,hc',bd hsz,hadd]
   . refine .c ⟨b,off+m.toNat*sz',fun j=>f m.toNat j,by rfl,fun j t ht=>?_⟩
     grind
 . rename_i b sz' off len k m;obtain⟨rfl,rfl,rfl⟩:=he;obtain⟨hp1,hp2,hm0,hm1,rfl⟩:=hp;have hg:=ae R hx hgx hp1;have h1:=hg.1.c_inv;have h2:=(ae R hi hgi hp2).1.int_inv;obtain⟨a',h1,ha,hle⟩:=RC.arr_inv h1;rw[ha (by omega)]at h1;refine Good.pure R (x:= .pointer (some ⟨(φ b).1,off*sz+m.toNat*sz,none⟩)) ?_ (.c ?_) (by grind[V.bnd,C.bnd])
   . have hc':0<=m/\m < len:=⟨hm0,by omega⟩
     simp[execOp,ho,h1,h2,Instr.indexAt,asIntOf,underlying,hty,hc',bd hsz,hadd]
   grind[RC]
 grind
theorem ti (R : Rel Γ nt φ S env J n a w) {o : Oper} {ty : TypeId} {x i : Operand} (ho : o.op = .index ty x i) (hty : P.underlying ty = some .string)
 {ax ai:AO} (hx:opd x=some ax) (hi:opd i=some ai)
 {p v J'} (hk:n key=false) (h:aval (.idxS ax ai) env J key=some (p,v,J')) (hp:p):Good P Γ nt env J' (ins n key) a v ((execOp a.eval o).run P w):=by
 simp only[aval,oZ2]at h;obtain⟨⟨px,vx⟩,hgx,⟨pi,vi⟩,hgi,he⟩:=h;simp at he;split at he
 . rename_i s k m;obtain⟨rfl,rfl,rfl⟩:=he;obtain⟨hp1,hp2,hm0,hm1⟩:=hp;obtain⟨bs,h1,rfl,hs⟩:=(ae R hx hgx hp1).1.str_inv;have h2:=(ae R hi hgi hp2).1.int_inv;have hlt:m.toNat < bs.size:=by simp_all
   refine Good.pure R ?_ (.intI _ _) rfl;have hb:bs[m.toNat]?=some (bs.data.toList.getD m.toNat 0):=by
    rw[getElem?_pos bs _ _];simp[List.getElem?_eq_getElem hm1];rfl
   simp[execOp,ho,h1,h2,Instr.index,asIntOf,underlying,hty,hm0,hb]
 grind
theorem lW : ∀ {vs : List V} {l : List Nat} {xs : List Value}, aval.capsOf vs = some l -> All2 (RV φ w S) vs xs -> V.bnd.V.bnds n vs = true ->
 xs=l.map (fun b=>Value.pointer (some ⟨(φ b).1,0,none⟩))/\(l.all fun b=>n b)=true
 | [],l,xs,h,ha,hb=>by simp[aval.capsOf]at h;subst h;cases ha;simp
 | v::vs,l,xs,h,ha,hb=>by
  cases ha with
  | cons hab ht=>
   unfold aval.capsOf at h;split at h
   . grind
   . rename_i b r e;cases e;simp at h;obtain⟨l',hl',rfl⟩:=h;simp[V.bnd.V.bnds]at hb;obtain⟨rfl,h2⟩:=lW hl' ht hb.2;have:=hab.ptr_inv
     grind[V.bnd,C.bnd]
   grind
theorem tj (R : Rel Γ nt φ S env J n a w) {o : Oper} {f : Nat} {caps : Array Operand} (ho : o.op = .makeFunc (.func f) #[] caps) {al : List AO} (hx : opds caps.toList = some al)
 {p v J'} (hk:n key=false) (h:aval (.mkfn f al) env J key=some (p,v,J')) (hp:p):Good P Γ nt env J' (ins n key) a v ((execOp a.eval o).run P w):=by
 simp only[aval,oZ2]at h;obtain⟨⟨px,vs⟩,hgx,he⟩:=h;split at he
 . rename_i l hl;obtain⟨rfl,rfl,rfl⟩:=he;have hg:=c6 R hx hgx hp;obtain⟨h1,h2⟩:=lW hl hg.1 hg.2;refine Good.pure R ?_ (.c rfl) (by grind[V.bnd,C.bnd]);have:caps.map a.eval=(l.map fun b=>Value.pointer (some ⟨(φ b).1,0,none⟩)).toArray:=by grind
   simp_all[execOp,Instr.makeFunc]
 grind
theorem c7 (R : Rel Γ nt φ S env J n a w) {x : Option Operand} {ax : Option AO} (hx : opdO x = some ax) {p : Prop} {m : Option Int} (h : getO env ax = some (p, m)) (hp : p):
 (x.map a.eval=none/\m=none)\/∃k i,x.map a.eval=some (.int k i)/\m=some i:=by
 cases x with
 | none=>grind[opdO,getO]
 | some x=>
  simp[opdO]at hx;obtain⟨ao,hao,rfl⟩:=hx;simp only[getO,oZ2]at h;obtain⟨⟨q,v⟩,hq,he⟩:=h;simp at he;split at he
  . obtain⟨rfl,rfl⟩:=he;have:=(ae R hao hq hp).1.int_inv
    grind
  grind
theorem gO {isSlice : Bool} {len cap : Nat} {lo hi : Option Value} {l h : Option Int} (hlo : (lo = none /\ l = none) \/ ∃ k i, lo = some (.int k i) /\ l = some i) (hhi : (hi = none /\ h = none) \/ ∃ k i, hi = some (.int k i) /\ h = some i)
 (h0:0<=l.getD 0) (h1:l.getD 0<=h.getD len) (h2:h.getD len<=len) (h3:len<=cap):
 (Instr.sliceBounds isSlice len cap lo hi none).run P w= .ok ((l.getD 0).toNat,(h.getD len).toNat,cap) w:=by
 have h4:h.getD len<=cap:=by omega
 rcases hlo with⟨rfl,rfl⟩ | ⟨k,i,rfl,rfl⟩ <;> rcases hhi with⟨rfl,rfl⟩ | ⟨k',i',rfl,rfl⟩ <;> simp_all [Instr.sliceBounds,Instr.sliceBound,asIntOf]
 grind
theorem tk (R : Rel Γ nt φ S env J n a w) {o : Oper} {ty : TypeId} {x : Operand} {lo hi : Option Operand} (ho : o.op = .slice ty x lo hi none) (hty : P.underlying ty = some .string)
 {ax:AO} {al ah:Option AO} (hx:opd x=some ax) (hlo:opdO lo=some al) (hhi:opdO hi=some ah)
 {p v J'} (hk:n key=false) (h:aval (.slcS ax al ah) env J key=some (p,v,J')) (hp:p):Good P Γ nt env J' (ins n key) a v ((execOp a.eval o).run P w):=by
 simp only[aval,oZ2]at h;obtain⟨⟨px,vx⟩,hgx,⟨pl,l⟩,hgl,⟨ph,h⟩,hgh,he⟩:=h;simp at he;split at he
 . obtain⟨rfl,rfl,rfl⟩:=he;obtain⟨hp1,hp2,hp3,h0,h1,h2⟩:=hp;obtain⟨bs,hx1,rfl,hs⟩:=(ae R hx hgx hp1).1.str_inv;have hl:=c7 R hlo hgl hp2;have hh:=c7 R hhi hgh hp3;rw[ep]at h1 h2;have hb:=gO (P:=P) (w:=w) (isSlice:=false) hl hh h0 h1 h2 (Nat.le_refl _);rw[ep]
   have e:(bs.extract (l.getD 0).toNat (h.getD bs.size).toNat).data.toList=(bs.data.toList.take (h.getD bs.size).toNat).drop (l.getD 0).toNat:=by grind[ByteArray.data_extract,Array.toList_extract,List.drop_take]
   refine Good.pure R (x:= .string (bs.extract (l.getD 0).toNat (h.getD bs.size).toNat)) ?_ (.c ?_) rfl
   . simp[execOp,ho,Instr.sliceAt,Instr.slice,underlying,hty,hx1,hb]
   . rw[<-e];refine .str _ ?_;rw[ByteArray.size_extract];omega
 grind
theorem uF (R : Rel Γ nt φ S env J n a w) {o : Oper} {ty : TypeId} {x : Operand} {lo hi : Option Operand} (ho : o.op = .slice ty x lo hi none) {e : TypeId} (hty : P.underlying ty = some (.slice e)) {sz : Nat} (hsz : sizeT P e = some sz)
 {ax:AO} {al ah:Option AO} (hx:opd x=some ax) (hlo:opdO lo=some al) (hhi:opdO hi=some ah)
 {p v J'} (hk:n key=false) (h:aval (.slc sz ax al ah) env J key=some (p,v,J')) (hp:p):Good P Γ nt env J' (ins n key) a v ((execOp a.eval o).run P w):=by
 simp only[aval,oZ2]at h;obtain⟨⟨px,vx⟩,hgx,⟨pl,l⟩,hgl,⟨ph,h⟩,hgh,he⟩:=h;simp only at he;split at he
 . rename_i es;obtain⟨rfl,rfl,rfl⟩:=he;obtain⟨hp1,hp2,hp3,h0,h1,h2,hel⟩:=hp;obtain⟨a',cap,sz',b,off,f,hx1,hcap,hmax,hszs,ha,hc,hv⟩:=RT.slice_inv (ae R hx hgx hp1).1.c_inv;have hl:=c7 R hlo hgl hp2;have hh:=c7 R hhi hgh hp3;have hb:=gO (P:=P) (w:=w) (isSlice:=true) (cap:=cap) hl hh h0 h1 h2 hcap;generalize hL:(l.getD 0).toNat=L at*
   generalize hH:(h.getD (es.length:Int)).toNat=H at*;have hlen:((es.take H).drop L).length=H - L:=by simp;omega
   refine Good.pure R (x:= .slice (if cap=L then a' else a'.map (·.add (L*sz))) (H - L) (cap - L)) ?_ (.c ?_) rfl
   . simp[execOp,ho,Instr.sliceAt,Instr.slice,underlying,hty,hx1,hb,bd hsz]
   . show RT w S _ _;rw[<-hlen];have hget:∀(i:Nat) e,((es.take H).drop L)[i]?=some e->es[L+i]?=some e/\L+i < H:=by grind
     by_cases hne:es=[]
     . subst hne;simp;exact RT.slice [] _ _ 0 0 0 (fun _ _=>undef) (by simp) (by simp[az]) (by simp) (by simp) (by simp) (by simp)
     . have hszz:sz'=sz:=by
        obtain⟨e0,he0⟩:=List.exists_mem_of_ne_nil es hne
        grind
       subst hszz;refine RT.slice _ _ _ sz' b (off+L*sz') (fun i j=>f (L+i) j) (by rw[hlen];omega) (by rw[hlen];omega) (fun e he=>hel e (List.mem_of_mem_take (List.mem_of_mem_drop he))) ?_ ?_ ?_
       . intro hn;have:L < H:=by grind
         rw[if_neg (by omega),ha hne];unfold Addr.add;split
         . rename_i h;simp[h]
         . rfl
       . intro i j hi hj;rw[hlen]at hi;have:=hc (L+i) j (by omega) hj;rw[show off+L*sz'+i*sz'+j=off+(L+i)*sz'+j by rw[Nat.add_mul];omega];exact this
       . intro i j e t he ht;exact hv _ _ _ _ (hget i e he).1 ht
 . rename_i b sz' off len;obtain⟨rfl,rfl,rfl⟩:=he;obtain⟨hp1,hp2,hp3,h0,h1,h2,rfl⟩:=hp;have hg:=ae R hx hgx hp1;obtain⟨a',hx1,ha,hle⟩:=RC.arr_inv hg.1.c_inv;have hl:=c7 R hlo hgl hp2;have hh:=c7 R hhi hgh hp3;have hb:=gO (P:=P) (w:=w) (isSlice:=true) (cap:=(φ b).2 - off) hl hh h0 h1 h2 (by omega)
   have hadd:∀(q o m:Nat),(Addr.add ⟨q,o,none⟩ m:Addr)=⟨q,o+m,none⟩:=by
    grind[Addr.add]
   have hln:al.isNone=true->l.getD 0=0:=by
    intro hn;cases al with
    | some _=>grind
    | none=>grind[getO,Option.some.injEq,Prod.mk.injEq]
   generalize l.getD 0=L at*;generalize h.getD (len:Int)=H at*;refine Good.pure R (x:= .slice (if(φ b).2 - off=L.toNat then a' else a'.map (·.add (L.toNat*sz))) (H.toNat - L.toNat) ((φ b).2 - off - L.toNat)) ?_ (.c ?_) ?_
   . simp[execOp,ho,Instr.sliceAt,Instr.slice,underlying,hty,hx1,hb,bd hsz]
   . by_cases hn:al.isNone=true
     . rw[if_pos hn];have:=hln hn;subst this;refine⟨_,rfl,fun hc=>?_,by omega⟩
       grind
     . rw[if_neg hn];refine⟨_,_,rfl,fun hc=>?_,by omega⟩
       grind
   grind[V.bnd,C.bnd]
 grind
theorem tl (R : Rel Γ nt φ S env J n a w) {o : Oper} {ty : TypeId} {x : Operand} {k k' : IntKind} (ho : o.op = .slice ty x none (some (.const (.int k 0))) (some (.const (.int k' 0)))) {e : TypeId} (hty : P.underlying ty = some (.slice e))
 {sz:Nat} (hsz:sizeT P e=some sz) {ax:AO} (hx:opd x=some ax)
 {p v J'} (hk:n key=false) (h:aval (.slc0 ax) env J key=some (p,v,J')) (hp:p):Good P Γ nt env J' (ins n key) a v ((execOp a.eval o).run P w):=by
 simp only[aval,oZ2]at h;obtain⟨⟨px,vx⟩,hgx,he⟩:=h;simp at he;have hrun:∀(a':Option _) (l c:Nat),a.eval x= .slice a' l c->∃a2,(execOp a.eval o).run P w= .ok (.value (.slice a2 0 0)) w:=by
  intro a' l c hx1;have e0:∀v,a.eval (.const v)=v:=fun _=>rfl
  exact⟨_,by simp[execOp,ho,Instr.sliceAt,Instr.slice,underlying,hty,hx1,bd hsz];rfl⟩
 split at he <;> simp only[Option.some.injEq,reduceCtorEq]at he
 all_goals
  obtain⟨rfl,rfl,rfl⟩:=he;have h1:=(ae R hx hgx hp).1.c_inv
 . obtain⟨a',cap,sz',b,off,f,hx1,_⟩:=RT.slice_inv h1;obtain⟨a2,h2⟩:=hrun _ _ _ hx1;exact Good.pure R h2 (.c ⟨a2,rfl⟩) rfl
 . obtain⟨a',hx1⟩:=h1;obtain⟨a2,h2⟩:=hrun _ _ _ hx1;exact Good.pure R h2 (.c ⟨a2,rfl⟩) rfl
 . obtain⟨a',hx1,_⟩:=RC.arr_inv h1;obtain⟨a2,h2⟩:=hrun _ _ _ hx1;exact Good.pure R h2 (.c ⟨a2,rfl⟩) rfl
end
end
section
open Go
variable [GV]
section
variable {P:Program} {Γ:Ctx} {nt:Nat} {φ:Phi} {S:Stab} {env:Env} {J:Store} {n:Nat->Bool} {key:Nat} {a:Act} {w:World}
theorem bc{b:Nat}{vs:List Value}{E:TypeId}{fr:Nat×Nat}(h:w.heap[b]?=some (.cells vs.toArray E fr))(j:Nat):w.cell? ⟨b,j,none⟩=vs[j]?:=by
 grind[World.cell?]
theorem dH {ty : TypeId} {g : Bool×Nat} (hg : bT P ty = some g) {blk off0 o : Nat} {cs : List C} {vs : List Value} {v : V}
 (hall:All2 (RC φ w S) cs vs) (hb:cs.all (C.bnd n)=true) (hc:∀j,j < vs.length->w.cell? ⟨blk,off0+j,none⟩=vs[j]?) (hl:loadC g.1 g.2 cs o=some v):
 ∃x,(loadVar ty ⟨blk,off0+o,none⟩).run P w= .ok x w/\RV φ w S v x/\v.bnd n=true:=by
 obtain⟨h1,h2,h3⟩:=jP hg;obtain⟨hle,hrv,hbv⟩:=ml hall hb hl h3;rw[hall.length]at hle
 grind[mj]
theorem All2.rc_of_rt{ts:List T}{xs:List Value}(h:All2 (RT w S) ts xs):All2 (RC φ w S) (ts.map .t) xs:=All2.map_t h
theorem kg {b sz i : Nat} {es : List (List T)} (h : RB φ w S b (.arr sz es)) (hi : i < es.length):
 (φ b).2≠0/\∃(vs:List Value) (E:TypeId) (xs:List Value),w.heap[(φ b).1]?=some (.cells vs.toArray E (0,0))/\vs.length=(φ b).2*sz/\(el es i).length=sz/\xs.length=sz/\All2 (RT w S) (el es i) xs/\
  (∀j,j < sz->vs[i*sz+j]?=xs[j]?)/\(i+1)*sz<=vs.length:=by
 obtain⟨h1,h2,h3,h4,h5⟩:=h;have h0:(φ b).2≠0:=by omega
 obtain⟨vs,E,hh,hl,hv,hs⟩:=h5 h0;have hel:es[i]?=some (el es i):=by grind[el]
 have hlen:=h3 _ (List.mem_of_getElem? hel);have hle:(i+1)*sz<=vs.length:=by rw[hl];exact Nat.mul_le_mul_right _ (by omega)
 refine⟨h0,vs,E,(vs.drop (i*sz)).take sz,hh,hl,hlen,by grind,?_,?_,hle⟩
 . grind[All2.of_get]
 grind
theorem tm (R : Rel Γ nt φ S env J n a w) {o : Oper} {ty : TypeId} {x : Operand} (ho : o.op = .load ty x) {g : Bool×Nat} (hg : bT P ty = some g) {ax : AO} (hx : opd x = some ax)
 {p v J'} (hk:n key=false) (h:aval (.load g.1 g.2 ax) env J key=some (p,v,J')) (hp:p):Good P Γ nt env J' (ins n key) a v ((execOp a.eval o).run P w):=by
 simp only[aval,oZ2]at h;obtain⟨⟨px,vx⟩,hgx,he⟩:=h;simp only at he;have hrun:∀(blk off:Nat) (y:Value),a.eval x= .pointer (some ⟨blk,off,none⟩)->(loadVar ty ⟨blk,off,none⟩).run P w= .ok y w->(execOp a.eval o).run P w= .ok (.value y) w:=by
  simp_all[execOp,Instr.loadAt,Instr.sureAddr]
 split at he
 . split at he
   . rename_i cs hJ;simp only[oZ1]at he;obtain⟨v0,hv0,rfl,rfl,rfl⟩:=he;have h1:=(ae R hx hgx hp).1.ptr_inv;obtain⟨_,vs,E,hh,hall,_⟩:=R.sim.blk _ _ hJ;have hb:=(R.sbnd _ _ hJ).2;obtain⟨y,hy,hrv,hbv⟩:=dH (n:=n) hg hall hb (fun j _=>by rw[bc hh,Nat.zero_add]) hv0
     grind[Good.pure]
   . rename_i E c hJ;split at he
     . rename_i hgo;obtain⟨hgo1,rfl⟩:=hgo;obtain⟨rfl,rfl,rfl⟩:=he;have h1:=(ae R hx hgx hp).1.ptr_inv;obtain⟨_,⟨pv,vv,hh,hpv,hrc⟩,_⟩:=R.sim.blk _ _ hJ;have hb:=(R.sbnd _ _ hJ).2;have hone:pv.oneCell'=true:=by rcases hpv with rfl | rfl <;> rfl
       have hall:All2 _ [.dead,c] [pv,vv]:= .cons hone (.cons hrc .nil);obtain⟨y,hy,hrv,hbv⟩:=dH (n:=n) (off0:=0) (o:=1) (v:= .c c) hg hall (by simp only[List.all_cons,List.all_nil,Bool.and_true];exact hb) (fun j _=>by rw[bc hh,Nat.zero_add]) (by simp[loadC,hgo1])
       grind[Good.pure]
     grind
   grind
 . rename_i b sz i o';split at he
   . rename_i sz' es hJ;simp only[oZ1,Prod.mk.injEq]at he;obtain⟨v0,hv0,rfl,rfl,rfl⟩:=he;obtain⟨hp1,rfl,hi⟩:=hp;have h1:=(ae R hx hgx hp1).1.eptr_inv;obtain⟨_,vs,E,xs,hh,hl,hlen,hxl,hall,hget,_⟩:=kg (R.sim.blk _ _ hJ) hi
     obtain⟨y,hy,hrv,hbv⟩:=dH (n:=n) hg (All2.rc_of_rt hall) (nP n _) (fun j hj=>by rw[bc hh,hget j (by omega)]) (oF hv0);exact Good.pure R (hrun _ _ _ h1 hy) hrv hbv
   . rename_i sz' es i2 o2 c hJ;split at he
     . grind
     . rename_i hag;obtain⟨⟨a1,a2,a3,a4,a5,a6⟩,⟨vs,E,k1,k2,k3,cv,k4,k5⟩,k6⟩:=R.sim.blk _ _ hJ;have hb:=(R.sbnd _ _ hJ).2;split at he
       . rename_i hoo;subst hoo;obtain⟨rfl,rfl,rfl⟩:=he;obtain⟨hp1,rfl,rfl⟩:=hp;have h1:=(ae R hx hgx hp1).1.eptr_inv
         obtain⟨y,hy,hrv,hbv⟩:=dH (n:=n) (vs:=[cv]) (o:=0) (v:= .c c) hg (.cons k5 .nil) (by simpa[Blk.bnd]using hb) (fun j hj=>by
          have:j=0:=by simpa using hj
          subst this
          rw[bc k1,Nat.add_zero,k4];rfl) (by simp[loadC,hag])
         exact Good.pure R (hrun _ _ _ h1 hy) hrv hbv
       . rename_i hoo;simp only[oZ1,Prod.mk.injEq]at he;obtain⟨v0,hv0,rfl,rfl,rfl⟩:=he;obtain⟨hp1,rfl,hi⟩:=hp;have h1:=(ae R hx hgx hp1).1.eptr_inv;simp only[loadT,Bool.false_eq_true,if_false,oZ1]at hv0;obtain⟨t,ht,rfl⟩:=hv0;have hel:es[i]?=some (el es i):=by unfold el;rw[List.getD,List.getElem?_eq_getElem hi];rfl
         obtain⟨xv,hxv,hxr⟩:=k3 i o' _ t hel ht (fun h=>hoo h.2)
         obtain⟨y,hy,hrv,hbv⟩:=dH (n:=n) (φ:=φ) (cs:=[.t t]) (o:=0) (v:= .c (.t t)) hg (.cons hxr .nil) rfl (fun j hj=>by
          have:j=0:=by simpa using hj
          subst this
          rw[bc k1,Nat.add_zero,hxv];rfl) (by simp[loadC,hag])
         exact Good.pure R (hrun _ _ _ h1 hy) hrv hbv
   grind
 . rename_i ts o';simp only[oZ1,Prod.mk.injEq]at he;obtain⟨v0,hv0,rfl,rfl,rfl⟩:=he;obtain⟨blk,off,f,h1,hh⟩:=(ae R hx hgx hp).1.c_inv;have hall:All2 (RT w S) ts ((List.range ts.length).map f):=by
    grind[All2.of_get]
   obtain⟨y,hy,hrv,hbv⟩:=dH (n:=n) hg (All2.rc_of_rt hall) (nP n _) (blk:=blk) (off0:=off) (fun j hj=>by simp_all) (oF hv0);exact Good.pure R (hrun _ _ _ h1 hy) hrv hbv
 grind
theorem nQ {k : Nat} {s t : T} {b : Bool} (h : eqT k s t = some b) {ty : TypeId} (hty : kindT P ty = some k) {x y : Value} (hx : RT w S s x) (hy : RT w S t y) (d : Nat):
 (Op.equalIn (d+1) ty x y).run P w= .ok b w:=by
 have eqd:∀a b:List UInt8,(a==b)=decide (a=b):=fun a b=>by grind
 unfold kindT at hty;unfold eqT at h;split at h
 . cases h;cases hx;cases hy;split at hty <;> simp at hty
   rename_i hu;unfold Op.equalIn;simp only[Sem.run_bind,run_underlying hu];rfl
 . simp at h;obtain⟨rfl,rfl⟩:=h;cases hx;cases hy;split at hty <;> simp at hty
   rename_i hu;unfold Op.equalIn;simp only[Sem.run_bind,run_underlying hu,Result.andThen_ok];rfl
 . cases hx with | str s1 h1=>cases hy with | str s2 h2=>
   split at hty <;> simp at hty
   rename_i hu;unfold Op.equalIn;simp only[Sem.run_bind,run_underlying hu,Result.andThen_ok];simp_all[beq_toListBytes,ByteArray.toList_eq]
 grind
theorem nR{ty:TypeId}{k:Nat}(h:kindT P ty=some k):cP P ty=some false:=by
 grind[kindT,cP]
theorem lz {d : Nat} {xs ys : Array Value}: ∀ {fs : List Field} {i : Nat} {ks : List Nat} {ps qs : List C} {us vs : List Value} {r : Bool}, fH P i fs = some ks -> eqCs ks ps qs = some r ->
 All2 (RC φ w S) ps us->All2 (RC φ w S) qs vs->xs.toList.drop i=us->ys.toList.drop i=vs->(Op.eqFields (d+1) xs ys fs).run P w= .ok r w
 | [],i,ks,ps,qs,us,vs,r,hf,he,h1,h2,e1,e2=>by
  simp[fH]at hf;subst hf;cases ps <;> cases qs <;> simp[eqCs]at he
  subst he;rfl
 | f::fs,i,ks,ps,qs,us,vs,r,hf,he,h1,h2,e1,e2=>by
  simp[fH,oZ2]at hf;obtain⟨⟨hoff,hname⟩,k,hk,ks',hks,rfl⟩:=hf;unfold eqCs at he;split at he
  . grind
  . rename_i k' ks'' x ps' y qs' heq;cases heq;simp only[oZ2,oZ1]at he;obtain⟨b,hb,r',hr',rfl⟩:=he;cases h1 with | cons h1 h1'=>
    cases h2 with | cons h2 h2'=>
    rename_i u us' v vs';have ex:xs[i]?=some u:=by have:=congrArg (·[0]?) e1;grind
    have ey:ys[i]?=some v:=by have:=congrArg (·[0]?) e2;grind
    have ih:=lz (d:=d) hks hr' h1' h2' (by rw[<-List.drop_drop,e1];rfl) (by rw[<-List.drop_drop,e2];rfl);have pa:∀(zs:Array _) (z:Value),zs[i]?=some z->(part f.type zs f.offset).run P w= .ok z w:=by
     simp_all[part,dD,nR]
    simp[Op.eqFields,pa _ _ ex,pa _ _ ey,nQ hb hk h1 h2 d];cases b
    all_goals simp_all
  grind
theorem sC (R : Rel Γ nt φ S env J n a w) {o : Oper} {op : BinOp} {ty yt : TypeId} {x y : Operand} (ho : o.op = .binOp op ty x y yt) (hop : op = .eql \/ op = .neq) {ks : List Nat} (hty : jN P ty = some ks)
 {ax ay:AO} (hx:opd x=some ax) (hy:opd y=some ay)
 {p v J'} (hk:n key=false) (h:aval (.eqAgg (op== .neq) ks ax ay) env J key=some (p,v,J')) (hp:p):Good P Γ nt env J' (ins n key) a v ((execOp a.eval o).run P w):=by
 simp only[aval,oZ2]at h;obtain⟨⟨px,vx⟩,hgx,⟨py,vy⟩,hgy,he⟩:=h;simp at he;split at he
 . simp only[oZ1]at he;obtain⟨r,hr,rfl,rfl,rfl⟩:=he;obtain⟨us,hu,hall1⟩:=(ae R hx hgx hp.1).1.agg_inv;obtain⟨vs,hv,hall2⟩:=(ae R hy hgy hp.2).1.agg_inv;unfold jN at hty;split at hty
   . rename_i fs hfs;have eg:(eqGuard op ty x y (a.eval x) (a.eval y)).run P w= .ok () w:=by simp_all[eqGuard]
     have hfo:P.fieldsOf ty=fs:=by grind[Program.fieldsOf]
     have ee:(Op.equal ty (.agg us.toArray) (.agg vs.toArray)).run P w= .ok r w:=by
      obtain⟨d,hd⟩:∃d,Op.maxDepth=d+2:=⟨9998,rfl⟩
      grind[Op.equal,run_equalIn_struct,lz]
     have ev:(binOp op ty (a.eval x) (a.eval y)).run P w= .ok (.bool (if(op== .neq)then !r else r)) w:=by
      rcases hop with rfl | rfl
      . simp_all[binOp]
      simp_all[binOp]
     refine Good.pure R ?_ (.boolI _) rfl;simp_all[execOp]
   grind
 grind
end
end
section
open Go
variable [GV]
section
variable {P:Program} {Γ:Ctx} {nt:Nat} {φ:Phi} {S:Stab} {env:Env} {J:Store} {n:Nat->Bool} {key:Nat} {a:Act} {w:World}
theorem cd{w w':World}{b:Nat}(h:w'.heap[b]?=w.heap[b]?)(j:Nat):w'.cell? ⟨b,j,none⟩=w.cell? ⟨b,j,none⟩:=by
 grind[World.cell?]
theorem cg{w:World}{b:Nat}{o:Obj}(h:w.heap[b]?=some o):b < w.heap.size:=(Array.getElem?_eq_some_iff.1 h).1
theorem RB.real_lt{b:Nat}{x:Blk}(h:RB φ w S b x)(h0:(φ b).2≠0):(φ b).1 < w.heap.size:=by
 cases x with
 | box cs=>obtain⟨_,_,_,hh,_⟩:=h;grind
 | arr sz es=>obtain⟨_,_,_,_,h5⟩:=h;grind
 | set ks=>obtain⟨_,⟨_,_,hh,_⟩,_⟩:=h;grind
 | buf E s=>obtain⟨_,_,h5⟩:=h;grind
 | bld E c=>obtain⟨_,⟨_,_,hh,_⟩,_⟩:=h;grind
 | arro sz es i o c=>obtain⟨_,⟨_,_,hh,_⟩,_⟩:=h;grind
theorem RB.notS{b:Nat}{x:Blk}(h:RB φ w S b x)(h0:(φ b).2≠0):∀j,¬S (φ b).1 j:=by
 cases x with
 | box cs=>obtain⟨_,_,_,_,_,hs⟩:=h;grind
 | arr sz es=>obtain⟨_,_,_,_,h5⟩:=h;grind
 | set ks=>exact h.2.2
 | buf E s=>exact(h.2.2 h0).2
 | bld E c=>exact h.2.2
 | arro sz es i o c=>exact h.2.2
theorem RB.mono {φ' : Phi} {w' : World} {b : Nat} {x : Blk} (m : Mono w S w' S) (hφ : ∀ b, n b = true -> φ' b = φ b) (hb : n b = true) (hx : x.bnd n = true) (hh : (φ b).2 ≠ 0 -> w'.heap[(φ b).1]? = w.heap[(φ b).1]?)
 (h:RB φ w S b x):RB φ' w' S b x:=by
 cases x with
 | box cs=>
  obtain⟨h0,vs,E,h1,h2,h3⟩:=h;simp only[RB,hφ b hb];refine⟨h0,vs,E,(hh h0).trans h1,h2.imp fun c v hc hr=>RC.mono m hφ (by grind[Blk.bnd]) hr,h3⟩
 | arr sz es=>
  obtain⟨h1,h2,h3,h4,h5⟩:=h;simp only[RB,hφ b hb];refine⟨h1,h2,h3,h4,fun h0=>?_⟩;obtain⟨vs,E,k1,k2,k3,k4⟩:=h5 h0;exact⟨vs,E,(hh h0).trans k1,k2,fun i j e t he ht=>let⟨v,hv,hr⟩:=k3 i j e t he ht;⟨v,hv,RT.mono m hr⟩,k4⟩
 | set ks=>
  grind[RB]
 | buf E s=>
  grind[RB]
 | bld E c=>
  grind[RB,RC.mono,Blk.bnd]
 | arro sz es i o c=>
  grind[RB,RT.mono,RC.mono,Blk.bnd]
theorem Rel.world (R : Rel Γ nt φ S env J n a w) {w' : World} (W : Nat -> Prop) (hos : w'.os = w.os) (ht : w'.tape = w.tape) (ho : w'.output = w.output) (hs : w.heap.size <= w'.heap.size)
 (hb:∀b:Nat,b < w.heap.size->¬W b->w'.heap[b]?=w.heap[b]?)
 (hW:∀b,W b->(∀j,¬S b j)/\(∀k y,sget J k=some y->(φ k).2≠0->(φ k).1≠b)/\(Γ.B b\/Γ.w0.heap.size<=b)):Rel Γ nt φ S env J n a w':=by
 have m:Mono w S w' S:=⟨fun _ _ h=>h,fun b j h=>cd (hb b (R.sim.st b j h) (fun hw=>(hW b hw).1 j h)) j⟩
 refine⟨⟨fun b x hx=>?_,R.sim.inj,fun b j h=>Nat.lt_of_lt_of_le (R.sim.st b j h) hs⟩,fun k g v hl hg=>?_,R.envn,R.ebnd,R.sbnd,R.size,R.defers,?_,R.own,R.fix,R.kn⟩
 . have hR:=R.sim.blk b x hx;exact RB.mono m (fun _ _=>rfl) (R.sbnd b x hx).1 (R.sbnd b x hx).2 (fun h0=>hb _ (hR.real_lt h0) (fun hw=>(hW _ hw).2.1 b x hx h0 rfl)) hR
 . obtain⟨x,hx,hr⟩:=R.envs k g v hl hg;exact⟨x,hx,RV.mono m (fun _ _=>rfl) (R.ebnd k g v hl hg) hr⟩
 . refine⟨hos.trans R.ext.os,ht.trans R.ext.tape,ho.trans R.ext.output,Nat.le_trans R.ext.size hs,fun b hlt hB=>?_,R.ext.mono.trans m,R.ext.snew⟩;rw[hb b (Nat.lt_of_lt_of_le hlt R.ext.size) _]
   . exact R.ext.block b hlt hB
   grind
theorem Rel.congr(R:Rel Γ nt φ S env J n a w){J':Store}(h:∀b,sget J' b=sget J b):Rel Γ nt φ S env J' n a w:=
 ⟨⟨fun b x hx=>R.sim.blk b x (h b▸hx),fun b b' x y hx hy=>R.sim.inj b b' x y (h b▸hx) (h b'▸hy),R.sim.st⟩,R.envs,R.envn,R.ebnd,fun b x hx=>R.sbnd b x (h b▸hx),R.size,R.defers,R.ext,fun b x hx=>R.own b x (h b▸hx),R.fix,R.kn⟩
theorem Rel.sub(R:Rel Γ nt φ S env J n a w){J':Store}(h:∀b x,sget J' b=some x->sget J b=some x):Rel Γ nt φ S env J' n a w:=
 ⟨⟨fun b x hx=>R.sim.blk b x (h b x hx),fun b b' x y hx hy=>R.sim.inj b b' x y (h b x hx) (h b' y hy),R.sim.st⟩,R.envs,R.envn,R.ebnd,fun b x hx=>R.sbnd b x (h b x hx),R.size,R.defers,R.ext,fun b x hx=>R.own b x (h b x hx),R.fix,R.kn⟩
theorem Rel.del(R:Rel Γ nt φ S env J n a w)(b:Nat):Rel Γ nt φ S env (sdel J b) n a w:=
 R.sub fun k x hx=>by grind[aC]
theorem Rel.phi(R:Rel Γ nt φ S env J n a w){φ':Phi}(hφ:∀b,n b=true->φ' b=φ b):Rel Γ nt φ' S env J n a w:=by
 refine⟨⟨fun b x hx=>?_,fun b b' x y hx hy=>?_,R.sim.st⟩,fun k g v hl hg=>?_,R.envn,R.ebnd,R.sbnd,R.size,R.defers,R.ext,fun b x hx h0=>?_,fun b hb=>(hφ b (R.kn b hb)).trans (R.fix b hb),R.kn⟩
 . exact RB.mono (Mono.refl w S) hφ (R.sbnd b x hx).1 (R.sbnd b x hx).2 (fun _=>rfl) (R.sim.blk b x hx)
 . rw[hφ b (R.sbnd b x hx).1,hφ b' (R.sbnd b' y hy).1];exact R.sim.inj b b' x y hx hy
 . obtain⟨x,hx,hr⟩:=R.envs k g v hl hg;exact⟨x,hx,RV.mono (Mono.refl w S) hφ (R.ebnd k g v hl hg) hr⟩
 . rw[hφ b (R.sbnd b x hx).1]at h0 ⊢;exact R.own b x hx h0
theorem Rel.put (R : Rel Γ nt φ S env J n a w) {b : Nat} {x : Blk} (hb : n b = true) (hx : x.bnd n = true) (hR : RB φ w S b x)
 (hf:(φ b).2≠0->(∀k y,sget J k=some y->k≠b->(φ k).2≠0->(φ k).1≠(φ b).1)/\(Γ.B (φ b).1\/Γ.w0.heap.size<=(φ b).1)):Rel Γ nt φ S env (sput J b x) n a w:=by
 refine⟨⟨fun k y hy=>?_,fun k k' y y' hy hy' hne h0 h0'=>?_,R.sim.st⟩,R.envs,R.envn,R.ebnd,fun k y hy=>?_,R.size,R.defers,R.ext,fun k y hy h0=>?_,R.fix,R.kn⟩
 . rw[ag]at hy;split at hy
   . grind
   . exact R.sim.blk k y hy
 . rw[ag]at hy hy';split at hy
   . grind
   . split at hy'
     . grind
     . exact R.sim.inj k k' y y' hy hy' hne h0 h0'
 . rw[ag]at hy;split at hy
   . grind
   . exact R.sbnd k y hy
 . rw[ag]at hy;split at hy
   . grind
   . exact R.own k y hy h0
def upd(φ:Phi)(n:Nat)(q:Nat×Nat):Phi:=fun b=>if b=n then q else φ b
theorem dQ{b:Nat}{q:Nat×Nat}(hk:n key=false)(h:n b=true):upd φ key q b=φ b:=by grind[upd]
theorem aw{k:Nat}{q:Nat×Nat}:upd φ k q k=q:=by simp[upd]
theorem Rel.newkey (R : Rel Γ nt φ S env J n a w) (hk : n key = false) {x : Blk} (q : Nat×Nat) (hx : x.bnd n = true) (hR : RB (upd φ key q) w S key x)
 (hf:q.2≠0->(∀k y,sget J k=some y->(φ k).2≠0->(φ k).1≠q.1)/\(Γ.B q.1\/Γ.w0.heap.size<=q.1)):Rel Γ nt (upd φ key q) S env (sput J key x) (ins n key) a w:=by
 refine((R.phi (fun b h=>dQ hk h)).more (fun _ h=>bq h)).put vn (Blk.bnd_mono (fun _ h=>bq h) hx) hR ?_;rw[aw];intro h0;refine⟨fun k y hy hne h=>?_,(hf h0).2⟩;rw[dQ hk (R.sbnd k y hy).1]at h ⊢
 grind
theorem heap_alloc_lt{w:World}{o:Obj}{b:Nat}(h:b < w.heap.size):(w.alloc o).heap[b]?=w.heap[b]?:=by
 show(w.heap.push o)[b]?=_
 grind
theorem heap_alloc_new{w:World}{o:Obj}:(w.alloc o).heap[w.heap.size]?=some o:=by
 show(w.heap.push o)[w.heap.size]?=_;simp
theorem Rel.alloc(R:Rel Γ nt φ S env J n a w)(o:Obj):Rel Γ nt φ S env J n a (w.alloc o):=
 R.world (fun _=>False) rfl rfl rfl (by simp) (fun b hb _=>heap_alloc_lt hb) (fun _ h=>h.elim)
theorem Rel.mono_alloc(R:Rel Γ nt φ S env J n a w)(o:Obj):Mono w S (w.alloc o) S:=
 ⟨fun _ _ h=>h,fun b j h=>cd (heap_alloc_lt (R.sim.st b j h)) j⟩
theorem Rel.newbox (R : Rel Γ nt φ S env J n a w) (hk : n key = false) {cs : List C} {vs : List Value} (hall : All2 (RC φ w S) cs vs) (hb : cs.all (C.bnd n) = true) (E : TypeId):
 Rel Γ nt (upd φ key (w.heap.size,1)) S env (sput J key (.box cs)) (ins n key) a (w.alloc (.cells vs.toArray E)):=by
 have m:=R.mono_alloc (.cells vs.toArray E);refine(R.alloc _).newkey hk _ hb ?_ ?_
 . simp only[RB,aw];refine⟨by simp,vs,E,heap_alloc_new,hall.imp fun c v hc hr=>RC.mono m (fun b h=>dQ hk h) (by grind) hr,fun j h=>?_⟩;have:=R.sim.st _ _ h
   grind
 . intro _;refine⟨fun k y hy h0=>?_,.inr R.ext.size⟩;have:=(R.sim.blk k y hy).real_lt h0
   grind
theorem dC{ty:TypeId}{cs:List C}(h:zeroC P ty=some cs):∃i z,P.info? ty=some i/\i.zero=some z/\All2 (RC φ w S) cs z.cells.toList/\cs.all (C.bnd n)=true:=by
 grind[zeroC,oZ2,jh]
theorem mn (R : Rel Γ nt φ S env J n a w) {o : Oper} {ty : TypeId} (ho : o.op = .alloc ty) {cs : List C} (hz : zeroC P ty = some cs)
 {p v J'} (hk:n key=false) (h:aval (.alloc cs) env J key=some (p,v,J')) (hp:p):Good P Γ nt env J' (ins n key) a v ((execOp a.eval o).run P w):=by
 obtain⟨rfl,rfl,rfl⟩:=h;obtain⟨i,z,hi,hz,hall,hb⟩:=dC hz;have R':=R.newbox hk hall hb ty;refine⟨.pointer (some ⟨w.heap.size,0,none⟩),_,S,_,.inl ?_,.c ?_,by simp[V.bnd,C.bnd,ins],R'⟩
 . simp_all[execOp,Instr.alloc,zeroValue,typeInfo,newVar,newRow]
 grind[RC,aw]
theorem uG (R : Rel Γ nt φ S env J n a w) {o : Oper} {ty : TypeId} {x : Operand} (ho : o.op = .box ty x) {ax : AO} (hx : opd x = some ax)
 {p v J'} (hk:n key=false) (h:aval (.box ax) env J key=some (p,v,J')) (hp:p):Good P Γ nt env J' (ins n key) a v ((execOp a.eval o).run P w):=by
 simp only[aval,oZ2,oZ1]at h;obtain⟨⟨px,vx⟩,hgx,cs,hcs,rfl,rfl,rfl⟩:=h;have hg:=ae R hx hgx hp;obtain⟨hall,hb⟩:=cf hg.1 hcs hg.2;have R':=R.newbox hk hall hb ty;refine⟨.pointer (some ⟨w.heap.size,0,none⟩),_,S,_,.inl ?_,.c ?_,by simp[V.bnd,C.bnd,ins],R'⟩
 . simp[execOp,ho,Instr.box,newVar,newRow]
 grind[RC,aw]
end
end
section
open Go
variable [GV]
section
variable {P:Program} {Γ:Ctx} {nt:Nat} {φ:Phi} {S:Stab} {env:Env} {J:Store} {n:Nat->Bool} {key:Nat} {a:Act} {w:World}
def fillV{α:Type}(vs:List α)(off:Nat)(xs:List α):List α:=vs.take off++xs++vs.drop (off+xs.length)
theorem cp {α : Type} {vs : List α} {off : Nat} {xs : List α} (h : off + xs.length <= vs.length) (k : Nat):
 (fillV vs off xs)[k]?=if k < off then vs[k]? else if k < off+xs.length then xs[k - off]? else vs[k]?:=by
 unfold fillV;by_cases h1:k < off
 . grind
 grind
theorem cG{α:Type}{vs:List α}{off:Nat}{xs:List α}(h:off+xs.length<=vs.length):(fillV vs off xs).length=vs.length:=by
 grind[fillV]
theorem mW{α:Type}{vs:List α}{off:Nat}{x:α}{xs:List α}(h:off+(x::xs).length<=vs.length):fillV (vs.set off x) (off+1) xs=fillV vs off (x::xs):=by
 apply List.ext_getElem?
 grind[cp]
theorem lX {w : World} {b : Nat} {vs : List Value} {E : TypeId} (h : w.heap[b]? = some (.cells vs.toArray E (0, 0))) (off : Nat) (v : Value):
 (w.setCell ⟨b,off,none⟩ v).heap[b]?=some (.cells (vs.set off v).toArray E (0,0))/\∀b',b'≠b->(w.setCell ⟨b,off,none⟩ v).heap[b']?=w.heap[b']?:=by
 simp_all[World.setCell,Array.getElem?_modify,Ne.symm]
theorem bL {b : Nat} {E : TypeId}: ∀ (xs : List Value) (off i : Nat) (vs : List Value) (w : World), w.heap[b]? = some (.cells vs.toArray E (0, 0)) -> off + i + xs.length <= vs.length -> (∀ x, x ∈ xs -> x.oneCell' = true) ->
 ∃w',(storeCells ⟨b,off,none⟩ xs i).run P w= .ok () w'/\w'.os=w.os/\w'.tape=w.tape/\w'.output=w.output/\w'.heap.size=w.heap.size/\
  w'.heap[b]?=some (.cells (fillV vs (off+i) xs).toArray E (0,0))/\∀b':Nat,b'≠b->w'.heap[b']?=w.heap[b']?
 | [],off,i,vs,w,h,hl,ho=>⟨w,rfl,rfl,rfl,rfl,rfl,by simp[fillV,h],fun _ _=>rfl⟩
 | x::xs,off,i,vs,w,h,hl,ho=>by
  have hadd:Addr.add ⟨b,off,none⟩ i=⟨b,off+i,none⟩:=by grind[Addr.add]
  have hlt:off+i < vs.length:=by grind
  have hc:w.cell? ⟨b,off+i,none⟩=some vs[off+i]:=by rw[bc h];simp
  have hf:w.frozen? ⟨b,off+i,none⟩=false:=by grind[World.frozen?]
  have hs:=lX h (off+i) x;obtain⟨w',h1,h2,h3,h4,h5,h6,h7⟩:=bL xs off (i+1) _ _ hs.1 (by grind) (fun y hy=>ho y (by grind));refine⟨w',?_,h2,h3,h4,by simp_all,?_,fun b' hb=>(h7 b' hb).trans (hs.2 b' hb)⟩
  . simp_all[storeCells,run_store]
  grind[mW]
theorem All2.fill{α β:Type}{R:α->β->Prop}{cs ds:List α}{vs xs:List β}(h:All2 R cs vs)(k:All2 R ds xs)(o:Nat):All2 R (cs.take o++ds++cs.drop (o+ds.length)) (fillV vs o xs):=by
 rw[k.length];exact((h.take o).append k).append (h.drop _)
theorem kD{cs:List C}{xs:List Value}(h:All2 (RC φ w S) cs xs):∀x,x∈xs->x.oneCell'=true:=by
 induction h with
 | nil=>simp
 | cons h _ ih=>
  intro x hx;rcases List.mem_cons.1 hx with rfl | hx
  . exact RC.oneCell h
  grind
theorem RV.undef :RV φ w S (.tup []) undef:= .tup [] [] rfl (by simp)
theorem c8 :∀{cs:List C} {ts:List T} {xs:List Value},toTs cs=some ts->All2 (RC φ w S) cs xs->All2 (RT w S) ts xs
 | [],ts,xs,h,ha=>by simp[toTs]at h;subst h;cases ha;exact .nil
 | c::cs,ts,xs,h,ha=>by
  simp[toTs,oZ2,oZ1]at h;obtain⟨t,ht,ts',hts,rfl⟩:=h;cases ha with
  | cons h1 h2=>
   refine .cons ?_ (c8 hts h2);unfold toT at ht;split at ht <;> simp at ht
   . subst ht;exact h1
   . subst ht;obtain⟨a,rfl⟩:=h1;exact RT.slice [] a 0 0 0 0 (fun _ _=>undef) (by simp) (by simp) (by simp) (by simp) (by simp) (by simp)
theorem ei :∀{cs:List C} {ts:List T},toTs cs=some ts->ts.length=cs.length
 | [],ts,h=>by grind[toTs]
 | c::cs,ts,h=>by
  simp[toTs,oZ2,oZ1]at h;obtain⟨t,ht,ts',hts,rfl⟩:=h;simp[ei hts]
theorem kh{n:Nat->Bool}{cs ds:List C}(h:cs.all (C.bnd n)=true)(k:ds.all (C.bnd n)=true)(o:Nat):(fillC cs o ds).all (C.bnd n)=true:=by
 grind[fillC]
theorem eC{α:Type}{vs:List α}{p:Nat}{x:α}(h:p < vs.length)(q:Nat):(fillV vs (p+0) [x])[q]?=if q=p then some x else vs[q]?:=by
 grind[cp]
theorem fX{sz i j i' j':Nat}(hj:j < sz)(hj':j' < sz)(h:i*sz+j=i'*sz+j'):i=i'/\j=j':=by
 rcases Nat.lt_trichotomy i i' with c | c | c
 . have:=Nat.mul_le_mul_right sz (show i+1<=i' from c)
   grind
 . grind
 . have:=Nat.mul_le_mul_right sz (show i'+1<=i from c)
   grind
theorem Rel.rewrite (R : Rel Γ nt φ S env J n a w) {b : Nat} {x x' : Blk} (hJ : sget J b = some x) (h0 : (φ b).2 ≠ 0) (hx' : x'.bnd n = true) {w' : World}
 (hos:w'.os=w.os) (ht:w'.tape=w.tape) (ho:w'.output=w.output) (hs:w'.heap.size=w.heap.size) (hb:∀b':Nat,b'≠(φ b).1->w'.heap[b']?=w.heap[b']?)
 (hR:Mono w S w' S->RB φ w' S b x'):Rel Γ nt φ S env (sput J b x') n a w':=by
 have hblk:=R.sim.blk b x hJ
 have R1:=(R.del b).world _ hos ht ho (Nat.le_of_eq hs.symm) (fun k _ hk=>hb k hk) (fun k hk=>by
  subst hk;refine⟨hblk.notS h0,fun k y hy hk=>?_,R.own b x hJ h0⟩;rw[aC]at hy;split at hy
  . grind
  . rename_i hne
    exact fun e=>R.sim.inj k b y x hy hJ (Ne.symm hne) hk h0 e)
 have m:Mono w S w' S:=⟨fun _ _ h=>h,fun k j h=>cd (hb k (fun e=>hblk.notS h0 j (e▸h))) j⟩
 have R2:=R1.put (R.sbnd b x hJ).1 hx' (hR m) (fun _=>⟨fun k y hy hne hk=>by
  rw[aC]at hy;split at hy
  . grind
  . exact R.sim.inj k b y x hy hJ hne hk h0,R.own b x hJ h0⟩)
 refine R2.congr fun k=>?_
 grind[ag,aC]
theorem sD (R : Rel Γ nt φ S env J n a w) {o : Oper} {ty : TypeId} {x y : Operand} (ho : o.op = .store ty x y) {k : Nat} (hks : sizeT P ty = some k) {ax ay : AO} (hx : opd x = some ax) (hy : opd y = some ay)
 {p v J'} (hk:n key=false) (h:aval (.store k ax ay) env J key=some (p,v,J')) (hp:p):Good P Γ nt env J' (ins n key) a v ((execOp a.eval o).run P w):=by
 simp only [aval, oZ2, Option.ite_none_right_eq_some] at h;obtain ⟨⟨px, vx⟩, hgx, ⟨py, vy⟩, hgy, cs, hcs, hlen, he⟩ := h;simp only at he hcs;have hrun : ∀ (blk off : Nat) (xs : List Value) (w' : World), a.eval x = .pointer (some ⟨blk, off, none⟩) -> (a.eval y).cells.toList = xs -> xs.length = k -> (storeCells ⟨blk, off, none⟩ xs 0).run P w = .ok () w' ->
  (execOp a.eval o).run P w= .ok .skip w':=by
  intro blk off xs w' h1 h2 h3 h4;have h5:(a.eval y).cells.size=k:=by grind
  simp_all[execOp,Instr.storeAt,Instr.sureAddr,storeVar,bd]
 split at he
 . rename_i b o';split at he
   . rename_i ds hJ;simp only[Option.ite_none_right_eq_some,Option.some.injEq,Prod.mk.injEq]at he;obtain⟨hle,rfl,rfl,rfl⟩:=he;have h1:=(ae R hx hgx hp.1).1.ptr_inv;have hg2:=ae R hy hgy hp.2;obtain⟨hall,hb⟩:=cf hg2.1 hcs hg2.2;obtain⟨h0,vs,E,hh,hds,hns⟩:=R.sim.blk _ _ hJ;have hvl:=hds.length
     have hxl:(a.eval y).cells.toList.length=k:=by rw[<-hall.length,hlen]
     obtain⟨w',hr,k1,k2,k3,k4,k5,k6⟩:=bL (P:=P) _ o' 0 vs w hh (by omega) (kD hall);refine⟨undef,φ,S,w',.inr ⟨hrun _ _ _ w' h1 rfl hxl hr,rfl⟩,.undef,rfl,Rel.more ?_ fun _ h=>bq h⟩;refine R.rewrite hJ h0 (by simpa[Blk.bnd]using kh ((R.sbnd _ _ hJ).2) hb o') k1 k2 k3 k4 k6 (fun m=>?_);refine⟨h0,_,E,k5,?_,hns⟩
     exact(hds.imp fun c v hc hr=>RC.mono m (fun _ _=>rfl) (List.all_eq_true.1 (R.sbnd _ _ hJ).2 c hc) hr).fill (hall.imp fun c v hc hr=>RC.mono m (fun _ _=>rfl) (List.all_eq_true.1 hb c hc) hr) o'
   . rename_i E c0 hJ;split at he
     . rename_i c;simp only[Option.some.injEq,Prod.mk.injEq]at he;obtain⟨rfl,rfl,rfl⟩:=he;have h1:=(ae R hx hgx hp.1).1.ptr_inv;have hg2:=ae R hy hgy hp.2;obtain⟨hall,hb⟩:=cf hg2.1 hcs hg2.2;obtain⟨h0,⟨pv,vv,hh,hpv,hrc⟩,hns⟩:=R.sim.blk _ _ hJ;have hxl:(a.eval y).cells.toList.length=k:=by rw[<-hall.length,hlen]
       have hk1:k=1:=by rw[<-hlen];rfl
       obtain⟨xv,hxv⟩:∃xv,(a.eval y).cells.toList=[xv]:=by
        match h:(a.eval y).cells.toList with
        | [xv]=>exact⟨xv,rfl⟩
        | []=>rw[h]at hxl;simp at hxl;omega
        | _::_::_=>rw[h]at hxl;simp at hxl;omega
       obtain⟨w',hr,k1,k2,k3,k4,k5,k6⟩:=bL (P:=P) (a.eval y).cells.toList 1 0 [pv,vv] w (b:=(φ b).1) (E:=E) hh (by rw[hxv];simp) (kD hall);rw[hxv]at hall k5;cases hall with | cons hc1 _=>
       have hcb:c.bnd n=true:=by simpa using hb
       refine⟨undef,φ,S,w',.inr ⟨hrun _ _ _ w' h1 rfl hxl hr,rfl⟩,.undef,rfl,Rel.more ?_ fun _ h=>bq h⟩;refine R.rewrite hJ h0 (by simpa[Blk.bnd]using hcb) k1 k2 k3 k4 k6 (fun m=>?_);exact⟨h0,⟨pv,xv,k5,hpv,RC.mono m (fun _ _=>rfl) hcb hc1⟩,hns⟩
     . cases he
   grind
 . rename_i b sz i o';have own1:∀{c:C} {xs:List Value},All2 (RC φ w S) [c] xs->∃x,xs=[x]/\RC φ w S c x:=by
    intro c xs h;cases h with | cons h1 h2=>cases h2;grind
   split at he
   . rename_i sz' es hJ;split at he
     . rename_i c hoc;have hc1:cs=[c]:=by
        unfold ownC at hoc
        grind
       subst hc1;obtain⟨rfl,rfl,rfl⟩:=he;obtain⟨hp1,hp2,rfl,hi,hok⟩:=hp;have h1:=(ae R hx hgx hp1).1.eptr_inv;have hg2:=ae R hy hgy hp2;obtain⟨hall,hb⟩:=cf hg2.1 hcs hg2.2;have hk1:k=1:=by rw[<-hlen];rfl
       obtain⟨xv,hxv,hxr⟩:=own1 hall;have hRB:=R.sim.blk _ _ hJ;obtain⟨h0,vs,E,xs,hh,hl,hel,hxl,hall2,hget,hle⟩:=kg hRB hi;obtain⟨g1,g2,g3,g4,g5⟩:=hRB;obtain⟨vs',E',hh',hl',hv',hns⟩:=g5 h0;rw[hh]at hh';cases hh';rw[Nat.add_mul]at hle;have hin:i*sz+o' < vs.length:=by omega
       obtain⟨w',hr,k1,k2,k3,k4,k5,k6⟩:=bL (P:=P) [xv] (i*sz+o') 0 vs w hh (by simp;omega) (fun x hx=>by rw[List.mem_singleton.1 hx];exact RC.oneCell hxr);refine⟨undef,φ,S,w',.inr ⟨hrun _ _ _ w' h1 hxv (by simp[hk1]) hr,rfl⟩,.undef,rfl,Rel.more ?_ fun _ h=>bq h⟩;have hcb:c.bnd n=true:=by simpa using hb
       refine R.rewrite hJ h0 (by simpa[Blk.bnd]using hcb) k1 k2 k3 k4 k6 (fun m=>?_);refine⟨⟨g1,g2,g3,g4,hi,by omega⟩,⟨_,E,k5,by rw[cG (by simp;omega)];exact hl,fun i' j e t he ht hne=>?_,xv,?_,RC.mono m (fun _ _=>rfl) hcb hxr⟩,hns⟩
       . obtain⟨v,hv,hr⟩:=hv' _ _ _ _ he ht;have hjs:j < sz:=by rw[<-g3 _ (List.mem_of_getElem? he)];exact(List.getElem?_eq_some_iff.1 ht).1
         rw[eC hin,if_neg (fun e=>hne (fX hjs (by omega) e))];exact⟨v,hv,RT.mono m hr⟩
       . rw[eC hin,if_pos rfl]
     simp only[oZ2,Option.some.injEq,Prod.mk.injEq]at he;obtain⟨ts,hts,rfl,rfl,rfl⟩:=he;obtain⟨hp1,hp2,rfl,hi,hok⟩:=hp;have h1:=(ae R hx hgx hp1).1.eptr_inv;have hg2:=ae R hy hgy hp2;obtain⟨hall,hb⟩:=cf hg2.1 hcs hg2.2;have hrt:=c8 hts hall;have htl:=ei hts;have hRB:=R.sim.blk _ _ hJ
     obtain⟨h0,vs,E,xs,hh,hl,hel,hxl,hall2,hget,hle⟩:=kg hRB hi;obtain⟨g1,g2,g3,g4,g5⟩:=hRB;obtain⟨vs',E',hh',hl',hv',hns⟩:=g5 h0;rw[hh]at hh';cases hh';rw[Nat.add_mul]at hle;have hyl:(a.eval y).cells.toList.length=k:=by rw[<-hall.length,hlen]
     obtain⟨w',hr,k1,k2,k3,k4,k5,k6⟩:=bL (P:=P) _ (i*sz+o') 0 vs w hh (by omega) (kD hall);have hr':=hr;refine⟨undef,φ,S,w',.inr ⟨hrun _ _ _ w' h1 rfl hyl hr',rfl⟩,.undef,rfl,Rel.more ?_ fun _ h=>bq h⟩;refine R.rewrite hJ h0 rfl k1 k2 k3 k4 k6 (fun m=>?_)
     refine⟨by simpa using g1,by simpa using g2,?_,g4,fun _=>⟨_,E,k5,by rw[cG (by omega)];exact hl,?_,hns⟩⟩
     . intro e he;rcases List.mem_or_eq_of_mem_set he with he | rfl
       . exact g3 e he
       . simp;omega
     . intro i' j e t he ht;rw[Nat.add_zero,cp (by omega)];rw[List.getElem?_set]at he;by_cases hii:i=i'
       . subst hii;rw[if_pos rfl,if_pos hi]at he;cases he;have hjl:=(List.getElem?_eq_some_iff.1 ht).1;simp at hjl;have hjs:j < sz:=by omega
         have he':=(cp (vs:=el es i) (off:=o') (xs:=ts) (by omega) j)
         unfold fillV at he';rw[show o'+ts.length=o'+k by omega]at he';rw[he']at ht;by_cases c1:j < o'
         . rw[if_pos c1]at ht;rw[if_pos (by omega),hget j hjs];obtain⟨v,hv,hr⟩:=hall2.get ht;exact⟨v,hv,RT.mono m hr⟩
         . rw[if_neg c1]at ht;rw[if_neg (by omega)];by_cases c2:j < o'+k
           . rw[if_pos (by omega)]at ht;rw[if_pos (by omega),show i*sz+j - (i*sz+o')=j - o' by omega];obtain⟨v,hv,hr⟩:=hrt.get ht;exact⟨v,hv,RT.mono m hr⟩
           . rw[if_neg (by omega)]at ht;rw[if_neg (by omega),hget j hjs];obtain⟨v,hv,hr⟩:=hall2.get ht;exact⟨v,hv,RT.mono m hr⟩
       . rw[if_neg hii]at he;obtain⟨v,hv,hr⟩:=hv' _ _ _ _ he ht;have hjs:j < sz:=by rw[<-g3 _ (List.mem_of_getElem? he)];exact(List.getElem?_eq_some_iff.1 ht).1
         have:i'*sz+j < i*sz+o'\/i*sz+o'+k<=i'*sz+j:=by
          rcases Nat.lt_or_gt_of_ne hii with h | h
          . right;have:=Nat.mul_le_mul_right sz (show i+1<=i' from h)
            grind
          . left;have:=Nat.mul_le_mul_right sz (show i'+1<=i from h)
            grind
         rcases this with h | h
         . rw[if_pos h];exact⟨v,hv,RT.mono m hr⟩
         . rw[if_neg (by omega),if_neg (by omega)];exact⟨v,hv,RT.mono m hr⟩
   . rename_i sz' es i2 o2 c0 hJ;obtain⟨⟨a1,a2,a3,a4,a5,a6⟩,⟨vs,E,b1,b2,b3,cv,b4,b5⟩,b6⟩:=R.sim.blk _ _ hJ;have hcb0:c0.bnd n=true:=by simpa[Blk.bnd]using(R.sbnd _ _ hJ).2
     have h0:(φ b).2≠0:=by omega
     split at he
     . rename_i c;have hk1:k=1:=by rw[<-hlen];rfl
       split at he
       . rename_i hoo;subst hoo;obtain⟨rfl,rfl,rfl⟩:=he;obtain⟨hp1,hp2,rfl,rfl⟩:=hp;have h1:=(ae R hx hgx hp1).1.eptr_inv;have hg2:=ae R hy hgy hp2;obtain⟨hall,hb⟩:=cf hg2.1 hcs hg2.2;obtain⟨xv,hxv,hxr⟩:=own1 hall;have hin:i*sz+o' < vs.length:=by
          rw[b2];have:=Nat.mul_le_mul_right sz (show i+1<=(φ b).2 by omega);rw[Nat.add_mul]at this;omega
         obtain⟨w',hr,k1,k2,k3,k4,k5,k6⟩:=bL (P:=P) [xv] (i*sz+o') 0 vs w b1 (by simp;omega) (fun x hx=>by rw[List.mem_singleton.1 hx];exact RC.oneCell hxr);refine⟨undef,φ,S,w',.inr ⟨hrun _ _ _ w' h1 hxv (by simp[hk1]) hr,rfl⟩,.undef,rfl,Rel.more ?_ fun _ h=>bq h⟩;have hcb:c.bnd n=true:=by simpa using hb
         refine R.rewrite hJ h0 (by simpa[Blk.bnd]using hcb) k1 k2 k3 k4 k6 (fun m=>?_);refine⟨⟨a1,a2,a3,a4,a5,a6⟩,⟨_,E,k5,by rw[cG (by simp;omega)];exact b2,fun i' j e t he ht hne=>?_,xv,?_,RC.mono m (fun _ _=>rfl) hcb hxr⟩,b6⟩
         . obtain⟨v,hv,hr⟩:=b3 _ _ _ _ he ht hne;have hjs:j < sz:=by rw[<-a3 _ (List.mem_of_getElem? he)];exact(List.getElem?_eq_some_iff.1 ht).1
           rw[eC hin,if_neg (fun e=>hne (fX hjs a6 e))];exact⟨v,hv,RT.mono m hr⟩
         . rw[eC hin,if_pos rfl]
       . rename_i hoo;simp only[oZ2,Option.some.injEq,Prod.mk.injEq]at he;obtain⟨t,hct,rfl,rfl,rfl⟩:=he;obtain⟨hp1,hp2,rfl,hi,hok⟩:=hp;have h1:=(ae R hx hgx hp1).1.eptr_inv;have hg2:=ae R hy hgy hp2;obtain⟨hall,hb⟩:=cf hg2.1 hcs hg2.2;obtain⟨xv,hxv,hxr⟩:=own1 hall;have hxt:RT w S t xv:=by
          have h1:=c8 (cs:=[c]) (ts:=[t]) (xs:=[xv]) (by simp[toTs,hct]) (.cons hxr .nil);cases h1 with | cons h _=>grind
         have hin:i*sz+o' < vs.length:=by
          have:=Nat.mul_le_mul_right sz (show i+1<=(φ b).2 by omega);rw[Nat.add_mul]at this;omega
         obtain⟨w',hr,k1,k2,k3,k4,k5,k6⟩:=bL (P:=P) [xv] (i*sz+o') 0 vs w b1 (by simp;omega) (fun x hx=>by rw[List.mem_singleton.1 hx];exact RC.oneCell hxr);refine⟨undef,φ,S,w',.inr ⟨hrun _ _ _ w' h1 hxv (by simp[hk1]) hr,rfl⟩,.undef,rfl,Rel.more ?_ fun _ h=>bq h⟩;refine R.rewrite hJ h0 (by simpa[Blk.bnd]using hcb0) k1 k2 k3 k4 k6 (fun m=>?_)
         have heli:es[i]?=some (el es i):=by unfold el;rw[List.getD,List.getElem?_eq_getElem hi];rfl
         have hell:(el es i).length=sz:=a3 _ (List.mem_of_getElem? heli);refine⟨⟨by grind,by simpa using a2,fun e he=>?_,a4,by simpa using a5,a6⟩,⟨_,E,k5,by rw[cG (by simp;omega)];exact b2,fun i' j e t' he ht hne=>?_,cv,?_,RC.mono m (fun _ _=>rfl) hcb0 b5⟩,b6⟩
         . rcases List.mem_or_eq_of_mem_set he with he | rfl
           . exact a3 e he
           . simp;omega
         . rw[eC hin];rw[List.getElem?_set]at he;by_cases hii:i=i'
           . subst hii;rw[if_pos rfl,if_pos hi]at he;cases he;have he':=(cp (vs:=el es i) (off:=o') (xs:=[t]) (by simp;omega) j)
             unfold fillV at he';rw[show o'+[t].length=o'+k by simp[hk1]]at he';rw[he']at ht;by_cases c1:j=o'
             . subst c1;rw[if_neg (by omega),if_pos (by omega),Nat.sub_self]at ht;cases ht;rw[if_pos rfl];exact⟨xv,rfl,RT.mono m hxt⟩
             . have hjt:(el es i)[j]?=some t':=by
                by_cases c2:j < o'
                . rwa [if_pos c2]at ht
                . rwa [if_neg c2,if_neg (by omega)]at ht
               have hjs:j < sz:=by rw[<-hell];exact(List.getElem?_eq_some_iff.1 hjt).1
               obtain⟨v,hv,hr⟩:=b3 _ _ _ _ heli hjt hne;rw[if_neg (fun e=>c1 (fX hjs (by omega) e).2)];exact⟨v,hv,RT.mono m hr⟩
           . rw[if_neg hii]at he;obtain⟨v,hv,hr⟩:=b3 _ _ _ _ he ht hne;have hjs:j < sz:=by rw[<-a3 _ (List.mem_of_getElem? he)];exact(List.getElem?_eq_some_iff.1 ht).1
             rw[if_neg (fun e=>hii (fX hjs (by omega) e).1.symm)];exact⟨v,hv,RT.mono m hr⟩
         . rw[eC hin,if_neg (fun e=>hoo (fX a6 (by omega) e).2.symm)];exact b4
     . cases he
   . cases he
 . cases he
end
end
section
open Go
variable [GV]
section
variable {P:Program} {Γ:Ctx} {nt:Nat} {φ:Phi} {S:Stab} {env:Env} {J:Store} {n:Nat->Bool} {key:Nat} {a:Act} {w:World}
theorem mX : ∀ (xs : List Value) (k off : Nat) (cs : Array Value), off + k + xs.length <= cs.size ->
 (((xs.zipIdx k).foldl (fun cs (c,j)=>cs.setIfInBounds (off+j) c) cs):Array Value).toList=fillV cs.toList (off+k) xs
 | [],k,off,cs,h=>by simp[fillV]
 | x::xs,k,off,cs,h=>by
  rw[List.zipIdx_cons,List.foldl_cons,mX xs _ _ _ (by grind)]
  grind[mW]
theorem j5 {place : Nat -> Option (Nat×Nat)} {cells : Array Value} {i : Nat} {v : Value} {r : List (Nat×Value)} {off sz : Nat} (hp : place i = some (off, sz)) (h1 : v.cells.size = sz) (h2 : off + sz <= cells.size):
 Instr.fill place cells ((i,v)::r)=Instr.fill place (fillV cells.toList off v.cells.toList).toArray r:=by
 simp only[Instr.fill,hp];rw[if_neg (by grind)]
 congr 1
 have:=mX v.cells.toList 0 off cells (by grind);rw[<-Array.foldl_toList]
 grind
theorem lY {fs : Array Field} {place : Nat -> Option (Nat×Nat)} (R : Rel Γ nt φ S env J n a w)
 (hpl:∀(j:Nat) f k,fs[j]?=some f->sizeT P f.type=some k->place j=some (f.offset,k)):
 ∀{parts:List (Nat×Operand)} {ps:List (Nat×Nat×AO)} {cs:List C} {vs:List Value} {p:Prop} {ds:List C},en P fs parts=some ps->bx env cs ps=some (p,ds)->p->
  All2 (RC φ w S) cs vs->cs.all (C.bnd n)=true->
  ∃us:List Value,Instr.fill place vs.toArray (parts.map fun(i,x)=>(i,a.eval x))=some us.toArray/\All2 (RC φ w S) ds us/\ds.all (C.bnd n)=true
 | [],ps,cs,vs,p,ds,hps,hb,hp,hall,hbn=>by
  grind[en,bx,Instr.fill]
 | (j,x)::r,ps,cs,vs,p,ds,hps,hb,hp,hall,hbn=>by
  simp[en,oZ2,oZ1]at hps;obtain⟨f,hf,k,hk,ax,hx,ps',hps',rfl⟩:=hps;simp only[bx,oZ2,Option.ite_none_right_eq_some,oZ1]at hb;obtain⟨⟨q,v⟩,hg,es,hes,⟨h1,h2⟩,⟨q',ds'⟩,hb',rfl,rfl⟩:=hb;have hgs:=ae R hx hg hp.1;obtain⟨hv,hvb⟩:=cf hgs.1 hes hgs.2;have hl:=hall.length
  have hvl:=hv.length;obtain⟨us,h3,h4,h5⟩:=lY R hpl hps' hb' hp.2 (by exact hall.fill hv _) (kh hbn hvb _);simp;rw[j5 (hpl j f k hf hk) (by grind) (by grind)]
  grind
theorem lA {place : Nat -> Option (Nat×Nat)} {m : Nat} (R : Rel Γ nt φ S env J n a w) (hpl : ∀ j, place j = some (j * m, m)):
 ∀{parts:List (Nat×Operand)} {ps:List (Nat×Nat×AO)} {cs:List C} {vs:List Value} {p:Prop} {ds:List C},eB m parts=some ps->bx env cs ps=some (p,ds)->p->
  All2 (RC φ w S) cs vs->cs.all (C.bnd n)=true->
  ∃us:List Value,Instr.fill place vs.toArray (parts.map fun(i,x)=>(i,a.eval x))=some us.toArray/\All2 (RC φ w S) ds us/\ds.all (C.bnd n)=true
 | [],ps,cs,vs,p,ds,hps,hb,hp,hall,hbn=>by
  grind[eB,bx,Instr.fill]
 | (j,x)::r,ps,cs,vs,p,ds,hps,hb,hp,hall,hbn=>by
  simp[eB,oZ2,oZ1]at hps;obtain⟨ax,hx,ps',hps',rfl⟩:=hps;simp only[bx,oZ2,Option.ite_none_right_eq_some,oZ1]at hb;obtain⟨⟨q,v⟩,hg,es,hes,⟨h1,h2⟩,⟨q',ds'⟩,hb',rfl,rfl⟩:=hb;have hgs:=ae R hx hg hp.1;obtain⟨hv,hvb⟩:=cf hgs.1 hes hgs.2;have hl:=hall.length;have hvl:=hv.length
  obtain⟨us,h3,h4,h5⟩:=lA R hpl hps' hb' hp.2 (by exact hall.fill hv _) (kh hbn hvb _);simp;rw[j5 (hpl j) (by grind) (by grind)]
  grind
theorem tn {fs : List Field} (h : ∀ f, f ∈ fs -> ∃ k, sizeT P f.type = some k):
 ∃ps:List (Nat×Nat),(fs.mapM fun f=>do pure (f.offset,<-sizeOf f.type):Sem (List (Nat×Nat))).run P w= .ok ps w/\ps.length=fs.length/\∀(j:Nat) f k,fs[j]?=some f->sizeT P f.type=some k->ps[j]?=some (f.offset,k):=by
 induction fs with
 | nil=>simp
 | cons f fs ih=>
  obtain⟨ps,h1,hl,h2⟩:=ih fun f hf=>h f (by grind)
  obtain⟨k,hk⟩:=h f (by simp);refine⟨(f.offset,k)::ps,?_,by grind,?_⟩
  . simp_all[bd]
  grind
theorem sE (R : Rel Γ nt φ S env J n a w) {o : Oper} {ty : TypeId} {parts : Array (Nat×Operand)} (ho : o.op = .build ty parts) {fs : Array Field} (hty : P.underlying ty = some (.struct fs)) (hfs : jv P fs = true)
 {z:List C} (hz:zeroC P ty=some z) {ps:List (Nat×Nat×AO)} (hps:en P fs parts.toList=some ps)
 {p v J'} (hk:n key=false) (h:aval (.build z ps) env J key=some (p,v,J')) (hp:p):Good P Γ nt env J' (ins n key) a v ((execOp a.eval o).run P w):=by
 simp only[aval,oZ1]at h;obtain⟨⟨q,ds⟩,hb,rfl,rfl,rfl⟩:=h;obtain⟨i,zv,hi,hzv,hall,hbn⟩:=dC hz
 obtain⟨pl,hpl,hpll,hpls⟩:=tn (P:=P) (w:=w) (fs:=fs.toList) (by
  grind[jv,Option.isSome_iff_exists])
 have hpl':(fs.mapM fun f=>do pure (f.offset,<-sizeOf f.type):Sem _).run P w= .ok pl.toArray w:=by
  simp_all[Array.mapM_eq_mapM_toList]
 obtain⟨us,h1,h2,h3⟩:=lY (place:=(pl.toArray[·]?)) R (fun j f k hf hk=>by grind) hps hb hp hall hbn;refine Good.pure R ?_ (.agg h2) (by grind[V.bnd]);simp only[execOp,ho,Instr.build,zeroValue,typeInfo,Sem.run_bind,run_program,Result.andThen_ok,Sem.run_pure,underlying,hty];simp_all
theorem rC (R : Rel Γ nt φ S env J n a w) {o : Oper} {ty : TypeId} {parts : Array (Nat×Operand)} (ho : o.op = .build ty parts) {len : Nat} {e : TypeId} (hty : P.underlying ty = some (.array len e)) {m : Nat} (hm : sizeT P e = some m)
 {z:List C} (hz:zeroC P ty=some z) {ps:List (Nat×Nat×AO)} (hps:eB m parts.toList=some ps)
 {p v J'} (hk:n key=false) (h:aval (.build z ps) env J key=some (p,v,J')) (hp:p):Good P Γ nt env J' (ins n key) a v ((execOp a.eval o).run P w):=by
 simp only[aval,oZ1]at h;obtain⟨⟨q,ds⟩,hb,rfl,rfl,rfl⟩:=h;obtain⟨i,zv,hi,hzv,hall,hbn⟩:=dC hz;obtain⟨us,h1,h2,h3⟩:=lA R (fun j=>rfl) hps hb hp hall hbn;refine Good.pure R ?_ (.agg h2) (by grind[V.bnd]);have h1':Instr.fill (fun i=>some (i*m,m)) zv.cells ((parts.map fun(i,x)=>(i,a.eval x)).toList)=some us.toArray:=by simp_all
 simp at h1';simp[execOp,ho,Instr.build,zeroValue,typeInfo,hi,hzv,underlying,hty,bd hm,h1']
def RRow(w:World)(S:Stab)(sz:Nat)(es:List (List T))(vs:List Value):Prop:=
 ∀(i j:Nat) e t,es[i]?=some e->e[j]?=some t->∃v,vs[i*sz+j]?=some v/\RT w S t v
theorem ji {sz : Nat} (R : Rel Γ nt φ S env J n a w) (h0 : 0 < sz):
 ∀{parts:List (Nat×Operand)} {ps:List (Nat×AO)} {es:List (List T)} {vs:List Value} {p:Prop} {ds:List (List T)},cM parts=some ps->bf env sz es ps=some (p,ds)->p->
  (∀e,e∈es->e.length=sz)->vs.length=es.length*sz->RRow w S sz es vs->
  ∃us:List Value,Instr.fill (fun i=>some (i*sz,sz)) vs.toArray (parts.map fun(i,x)=>(i,a.eval x))=some us.toArray/\(∀e,e∈ds->e.length=sz)/\ds.length=es.length/\us.length=vs.length/\RRow w S sz ds us/\(∀u,u∈us->u∈us)
 | [],ps,es,vs,p,ds,hps,hb,hp,hsz,hl,hr=>by
  grind[cM,bf,Instr.fill]
 | (i0,x)::r,ps,es,vs,p,ds,hps,hb,hp,hsz,hl,hr=>by
  simp[cM,oZ2,oZ1]at hps;obtain⟨ax,hx,ps',hps',rfl⟩:=hps;simp only[bf,oZ2,Option.ite_none_right_eq_some,oZ1]at hb;obtain⟨⟨q,v⟩,hg,cs,hcs,ts,hts,⟨h1,h2⟩,⟨q',ds'⟩,hb',rfl,rfl⟩:=hb;have hgs:=ae R hx hg hp.1;obtain⟨hv,hvb⟩:=cf hgs.1 hcs hgs.2;have hrt:=c8 hts hv
  have hvl:=hrt.length;have hle:i0*sz+sz<=vs.length:=by
   have:=Nat.mul_le_mul_right sz (show i0+1<=es.length from h2)
   grind
  obtain ⟨us, h3, h4, h5, h6, h7, h8⟩ := ji R h0 hps' hb' hp.2 (vs := fillV vs (i0 * sz) (a.eval x).cells.toList) (by
   grind) (by grind[cG]) (by
   intro i j e t he ht;rw[cp (by omega)];rw[List.getElem?_set]at he;by_cases hii:i0=i
   . subst hii;rw[if_pos rfl,if_pos h2]at he;cases he;have hj:=(List.getElem?_eq_some_iff.1 ht).1;rw[if_neg (by simp),if_pos (by omega),show i0*sz+j - i0*sz=j by simp];exact hrt.get ht
   . rw[if_neg hii]at he;have hj:=(List.getElem?_eq_some_iff.1 ht).1;rw[hsz _ (List.mem_of_getElem? he)]at hj;rcases Nat.lt_or_gt_of_ne hii with h | h
     . have:=Nat.mul_le_mul_right sz (show i0+1<=i from h);rw[Nat.add_mul]at this;rw[if_neg (by omega),if_neg (by omega)];exact hr _ _ _ _ he ht
     . have:=Nat.mul_le_mul_right sz (show i+1<=i0 from h);rw[Nat.add_mul]at this;rw[if_pos (by omega)]
       exact hr _ _ _ _ he ht)
  refine⟨us,?_,h4,by grind,by grind[cG],h7,fun _ h=>h⟩;simp only[List.map_cons];rw[j5 rfl (by grind) (by grind)]
  grind
theorem jy {z : Array Value} {sz len : Nat} (hz : z.size = sz) (h0 : 0 < sz) (i j : Nat) (hi : i < len) (hj : j < sz):
 ((Array.range (len*sz)).map (z[· % z.size]!))[i*sz+j]?=z[j]?:=by
 have hlt:i*sz+j < len*sz:=by
  have:=Nat.mul_le_mul_right sz (show i+1<=len from hi)
  grind
 simp_all[Nat.mod_eq_of_lt]
theorem lB {ty : TypeId} {len : Nat} {parts : Array (Nat×Value)} {e : TypeId} (hty : P.underlying ty = some (.slice e)) {sz : Nat} (hsz : sizeT P e = some sz) {i : TypeInfo} {zv : Value} (hi : P.info? e = some i) (hzv : i.zero = some zv)
 (h0:sz≠0) (hle:len*sz<=2 ^ 24) {Z:Array Value} (hZ:Z=(Array.range (len*sz)).map (zv.cells[· % zv.cells.size]!)) {us:List Value} (hf:Instr.fill (fun i=>some (i*sz,sz)) Z parts.toList=some us.toArray):
 (Instr.buildSlice ty len parts).run P w= .ok (.slice (some ⟨w.heap.size,0,none⟩) len len) (w.alloc (.cells us.toArray e)):=by
 have hnot:¬(len*sz > 2 ^ 24):=by omega
 have hzr:∀w,(zeroValue e).run P w= .ok zv w:=by simp_all[zeroValue,typeInfo]
 by_cases hl:len*sz=0
 . have hZ0:Z=#[]:=by grind
   subst hZ0;have e2:(Array.map (fun x=>(#[]:Array Value)[x % (#[]:Array Value).size]!) (Array.range (len*sz)))=#[]:=by grind
   unfold Instr.buildSlice;simp only[Sem.run_bind,run_underlying hty,Result.andThen_ok,bd hsz,if_neg hnot,if_pos hl,Sem.run_pure,e2,hf];rfl
 . unfold Instr.buildSlice;subst hZ;simp only[Sem.run_bind,run_underlying hty,Result.andThen_ok,bd hsz,if_neg hnot,if_neg hl,Sem.run_pure,hzr,hf];rfl
theorem rW (R : Rel Γ nt φ S env J n a w) {o : Oper} {ty : TypeId} {len : Nat} {parts : Array (Nat×Operand)} (ho : o.op = .buildSlice ty len parts) {e : TypeId} (hty : P.underlying ty = some (.slice e)) {sz : Nat} (hsz : sizeT P e = some sz)
 {z:List C} (hz:zeroC P e=some z) {ps:List (Nat×AO)} (hps:cM parts.toList=some ps) (h0:sz≠0) (hzl:z.length=sz) (hle:len*sz<=2 ^ 24)
 {p v J'} (hk:n key=false) (h:aval (.bslice sz len z ps) env J key=some (p,v,J')) (hp:p):Good P Γ nt env J' (ins n key) a v ((execOp a.eval o).run P w):=by
 simp only[aval,oZ2,oZ1]at h;obtain⟨zt,hzt,⟨q,ds⟩,hb,rfl,rfl,rfl⟩:=h;obtain⟨i,zv,hi,hzv,hall,hbn⟩:=dC (φ:=φ) (w:=w) (S:=S) (n:=n) hz;have hzr:=c8 hzt hall;have hzl':zv.cells.size=sz:=by rw[<-Array.length_toList,<-hall.length,hzl]
 have hz0:0 < sz:=by omega
 have hztl:zt.length=sz:=by grind[ei]
 obtain ⟨us, h1, h2, h3, h4, h5, _⟩ := ji R hz0 hps hb hp (vs := ((Array.range (len * sz)).map _).toList) (by
  grind) (by simp) (by
  intro i j e t he ht;have hi:=(List.getElem?_eq_some_iff.1 he).1;simp at hi;have:e=zt:=by
   grind
  subst this;have hj:=(List.getElem?_eq_some_iff.1 ht).1;obtain⟨x,hx,hr⟩:=hzr.get ht;rw[Array.getElem?_toList,jy hzl' hz0 i j hi (by omega)]
  grind)
 simp at h3;have hul:us.length=len*sz:=by grind
 have R1:=R.alloc (.cells us.toArray e);have m:=R.mono_alloc (.cells us.toArray e);have hlen:len<=az:=by
  have:=Nat.le_mul_of_pos_right len hz0
  grind[az]
 have R2:=R1.newkey hk (x:= .arr sz ds) (w.heap.size,len) rfl (by
  simp only[RB,aw];refine⟨by omega,by omega,h2,hz0,fun _=>⟨us,e,heap_alloc_new,hul,fun i j e t he ht=>?_,fun j h=>?_⟩⟩
  . obtain⟨v,hv,hr⟩:=h5 i j e t he ht
    grind[RT.mono]
  . have:=R.sim.st _ _ h
    omega) (fun _=>⟨fun k y hy h0=>by
     have:=(R.sim.blk k y hy).real_lt h0
     grind,.inr R.ext.size⟩)
 refine⟨.slice (some ⟨w.heap.size,0,none⟩) len len,_,S,_,.inl ?_,.c ⟨some ⟨w.heap.size,0,none⟩,by simp[aw],by simp[aw],by simp[aw]⟩,by simp[V.bnd,C.bnd,ins],R2⟩;have h1':Instr.fill (fun i=>some (i*sz,sz)) ((Array.range (len*sz)).map (zv.cells[· % zv.cells.size]!)) ((parts.map fun(i,x)=>(i,a.eval x)).toList)=some us.toArray:=by
  rw[Array.toList_map];omega
 simp_all[lB,execOp,Sem.run_bind,Result.andThen_ok]
end
end
section
open Go
variable [GV]
section
variable {P:Program} {Γ:Ctx} {nt:Nat} {φ:Phi} {S:Stab} {env:Env} {J:Store} {n:Nat->Bool} {key:Nat} {a:Act} {w:World}
theorem nS(need:Nat):∀(r c:Nat),c<=2*need+192->Builtin.growBy need r c<=2*need+192
 | 0,c,h=>h
 | r+1,c,h=>by
  unfold Builtin.growBy;split
  . grind
  . exact nS _ r _ (by omega)
theorem rl{need old:Nat}(h:old < need):Builtin.nextslicecap need old<=2*need+192:=by
 grind[Builtin.nextslicecap,nS]
theorem mY(need:Nat):∀(r c:Nat),c<=need+need / 4+512->Builtin.growBy need r c<=need+need / 4+512
 | 0,c,h=>h
 | r+1,c,h=>by
  unfold Builtin.growBy;split
  . grind
  . exact mY _ r _ (by omega)
theorem q7{need old:Nat}(h:old < need):Builtin.nextslicecap need old<=need+need / 4+512:=by
 grind[Builtin.nextslicecap,mY]
theorem capOk.not{need old bytes:Nat}(h:old < need)(hc:capOk need bytes):¬(Builtin.nextslicecap need old*bytes > 2 ^ 48):=by
 have a:=Nat.mul_le_mul_right bytes (rl h);have b:=Nat.mul_le_mul_right bytes (q7 h);rcases hc with hc | hc <;> unfold bh at hc <;> omega
theorem sF{α:Type}{p:α->Prop}{l m:List α}(h:∀x,x∈l->p x)(k:∀x,x∈m->p x):∀x,x∈l++m->p x:=by grind
def Elems(P:Program)(w:World)(S:Stab)(sz:Nat)(v:Value)(ys:List (List T))(b:Option Nat):Prop:=
 (Builtin.lenOf v).run P w= .ok ys.length w/\∃xs:List Value,(Builtin.firstCells sz ys.length v).run P w= .ok xs.toArray w/\xs.length=ys.length*sz/\RRow w S sz ys xs/\∀x,x∈xs->x.oneCell'=true
theorem mZ{sz k len:Nat}(h0:0 < sz)(hk:k < len*sz):k / sz < len/\k % sz < sz/\(k / sz)*sz+k % sz=k:=
 ⟨Nat.div_lt_of_lt_mul (by grind),Nat.mod_lt _ h0,by grind[Nat.div_add_mod]⟩
theorem RRow.one{sz:Nat}{ys:List (List T)}{xs:List Value}(h0:0 < sz)(hsz:∀e,e∈ys->e.length=sz)(hl:xs.length=ys.length*sz)(h:RRow w S sz ys xs):∀x,x∈xs->x.oneCell'=true:=by
 intro x hx;obtain⟨k,hk,hkx⟩:=List.getElem_of_mem hx;obtain⟨h1,h2,h3⟩:=mZ h0 (by rw[<-hl];omega);have he:=List.getElem?_eq_getElem h1;have hel:=hsz _ (List.getElem_mem h1);have ht:(ys[k / sz])[k % sz]?=some _:=List.getElem?_eq_getElem (by omega);obtain⟨v,hv,hr⟩:=h _ _ _ _ he ht
 grind[RT.oneCell]
theorem fN{b o m:Nat}{xs:List Value}(hl:xs.length=m)(h:∀j,j < m->w.cell? ⟨b,o+j,none⟩=xs[j]?):(loadCells ⟨b,o,none⟩ m).run P w= .ok xs.toArray w:=by
 grind[run_loadCells_list,Addr.add]
theorem tp{sz:Nat}(h0:0 < sz){ys:List (List T)}{v:Value}(hv:RT w S (.slice ys) v)(hsz:∀e,e∈ys->e.length=sz):Elems P w S sz v ys none:=by
 obtain⟨a,cap,sz',b,o,f,rfl,hcap,hmax,hszs,ha,hc,hr⟩:=RT.slice_inv hv;refine⟨by rfl,?_⟩;by_cases hne:ys=[]
 . subst hne;refine⟨[],?_,by simp,by intro i j e t he;grind,by simp⟩;cases a with
   | none=>rfl
   | some a=>simp[Builtin.firstCells,loadCells,loadCellsFrom]
 . have hszz:sz'=sz:=by
    obtain⟨e0,he0⟩:=List.exists_mem_of_ne_nil ys hne
    grind
   subst hszz;rw[ha hne];have hx:((List.range (ys.length*sz')).map fun k=>f (k / sz') (k % sz')).length=ys.length*sz':=by simp
   have hrow:RRow w S sz' ys ((List.range (ys.length*sz')).map fun k=>f (k / sz') (k % sz')):=by
    intro i j e t he ht;have hi:=(List.getElem?_eq_some_iff.1 he).1;have hj:=(List.getElem?_eq_some_iff.1 ht).1;rw[hsz _ (List.mem_of_getElem? he)]at hj;have hlt:i*sz'+j < ys.length*sz':=by
     have:=Nat.mul_le_mul_right sz' (show i+1<=ys.length from hi)
     grind
    simp_all[Nat.add_comm,Nat.add_mul_div_right,Nat.div_eq_of_lt,Nat.mod_eq_of_lt]
   refine⟨_,?_,hx,hrow,RRow.one h0 hsz hx hrow⟩;refine fN hx ?_
   grind[mZ]
theorem tq{sz:Nat}{v:Value}(hv:RC φ w S .cap0 v):Elems P w S sz v [] none:=by
 obtain⟨a,rfl⟩:=hv;refine⟨by rfl,[],?_,by simp,by intro i j e t he;grind,by simp⟩;cases a with
 | none=>rfl
 | some a=>simp[Builtin.firstCells,loadCells,loadCellsFrom]
theorem nT{sz b:Nat}{ys:List (List T)}{v:Value}(hB:RB φ w S b (.arr sz ys))(hv:RC φ w S (.arr b sz 0 ys.length) v):Elems P w S sz v ys (some b):=by
 obtain⟨a,rfl,ha,hle⟩:=RC.arr_inv hv;obtain⟨h1,h2,h3,h4,h5⟩:=hB;refine⟨by rfl,?_⟩;by_cases h0:(φ b).2=0
 . have:ys=[]:=List.eq_nil_of_length_eq_zero (by omega);subst this;refine⟨[],?_,by simp,by intro i j e t he;grind,by simp⟩;cases a with
   | none=>rfl
   | some a=>simp[Builtin.firstCells,loadCells,loadCellsFrom]
 . obtain⟨vs,E,hh,hl,hr,_⟩:=h5 h0;rw[ha h0];have hlv:ys.length*sz<=vs.length:=by simp_all[Nat.mul_le_mul_right]
   have hx:(vs.take (ys.length*sz)).length=ys.length*sz:=by grind
   have hrow:RRow w S sz ys (vs.take (ys.length*sz)):=by
    intro i j e t he ht;have hi:=(List.getElem?_eq_some_iff.1 he).1;have hlt:i*sz+j < ys.length*sz:=by
     have:=Nat.mul_le_mul_right sz (show i+1<=ys.length from hi)
     grind
    grind
   refine⟨_,?_,hx,hrow,RRow.one h4 h3 hx hrow⟩;rw[Nat.zero_mul];refine fN hx ?_;intro j hj;rw[Nat.zero_add,bc hh,List.getElem?_take,if_pos hj]
theorem Elems.world{sz:Nat}{v:Value}{ys:List (List T)}{b:Option Nat}(h:Elems P w S sz v ys b){m:Nat}:∃xs:List Value,xs.length=ys.length*sz/\RRow w S sz ys xs/\(∀x,x∈xs->x.oneCell'=true):=by
 obtain⟨_,xs,_,h1,h2,h3⟩:=h;grind
theorem lC(z:Array Value)(m:Nat):(Builtin.zeroCells z m).size=m*z.size:=by simp[Builtin.zeroCells]
theorem iV {st yt e ye : TypeId} {i : TypeInfo} {zv : Value} (hst : P.underlying st = some (.slice e)) (hyt : P.underlying yt = some (.slice ye)) (hi : P.info? e = some i) (hz : i.zero = some zv) (hzs : zv.cells.size = i.size)
 {base:Option Addr} {sl sc ny:Nat} {y:Value} {xs zs:List Value} (hyl:(Builtin.lenOf y).run P w= .ok ny w)
 (hx:(Builtin.firstCells i.size sl (.slice base sl sc)).run P w.drew= .ok xs.toArray w.drew) (hy:(Builtin.firstCells i.size ny y).run P w.drew= .ok zs.toArray w.drew)
 (hroom:sc < sl+ny) (hcap:capOk (sl+ny) i.bytes) (hmax:sl+ny<=az) {tt:TypeId}:
 ∃(nc:Nat) (r:List Value),sl+ny<=nc/\r.length=(nc - (sl+ny))*i.size/\
  (Builtin.append_ #[st,yt] tt #[.slice base sl sc,y]).run P w= .ok (.slice (some ⟨w.heap.size,0,none⟩) (sl+ny) nc) (w.drew.alloc (.cells (xs++zs++r).toArray e)):=by
 have hsize:∀w,(sizeOf e).run P w= .ok i.size w:=fun w=>by simp[sizeOf,typeInfo,hi]
 have hinfo:∀w,(typeInfo e).run P w= .ok i w:=fun w=>by simp[typeInfo,hi]
 have hzero:∀w,(zeroValue e).run P w= .ok zv w:=fun w=>by simp_all[zeroValue]
 generalize hnc:(Question.appendCap (sl+ny) sc e).cut (w.tape w.drawn (Question.appendCap (sl+ny) sc e))=nc;have hncle:sl+ny<=nc:=by grind[Question.cut]
 have h1:¬(sl+ny<=sc):=by omega
 have h2:¬(sl+ny > IntKind.i64.max/\(False\/i.bytes=0)):=by grind[IntKind.max,IntKind.bits,az]
 have h3:=by
  exact hcap.not hroom
 refine⟨nc,(Builtin.zeroCells zv.cells (nc - (sl+ny))).toList,hncle,by grind[lC],?_⟩;have hch:(choose (.appendCap (sl+ny) sc e)).run P w= .ok nc w.drew:=by simp_all[Question.forced]
 have e1:(xs++zs++(Builtin.zeroCells zv.cells (nc - (sl+ny))).toList).toArray=xs.toArray++zs.toArray++Builtin.zeroCells zv.cells (nc - (sl+ny)):=by simp
 rw[e1];unfold Builtin.append_;simp only[List.getElem?_toArray,List.getElem?_cons_zero,List.getElem?_cons_succ,Sem.run_bind,run_underlying hst,run_underlying hyt,Result.andThen_ok,hsize,Sem.run_pure,Bool.false_eq_true,if_false,hyl,if_neg h1,hinfo];rw[if_neg (by grind)];simp only[Sem.run_bind,Result.andThen_ok,hinfo];rw[if_neg h3]
 simp only[Sem.run_bind,Result.andThen_ok,hinfo,hch,run_askRoom,hx,hy,hzero,Bool.not_false,if_true];rfl
theorem ed {st yt e ye : TypeId} {i : TypeInfo} (hst : P.underlying st = some (.slice e)) (hyt : P.underlying yt = some (.slice ye)) (hi : P.info? e = some i)
 {base:Option Addr} {sl sc ny:Nat} {y:Value} {zs:List Value} (hyl:(Builtin.lenOf y).run P w= .ok ny w) (hy:(Builtin.firstCells i.size ny y).run P w= .ok zs.toArray w) (hroom:sl+ny<=sc) {w':World}
 (hs:∀ad,base=some ad->(storeCells (ad.add (sl*i.size)) zs 0).run P w= .ok () w') (hb:base=none->w'=w) {tt:TypeId}:
  (Builtin.append_ #[st,yt] tt #[.slice base sl sc,y]).run P w= .ok (.slice base (sl+ny) sc) w':=by
 have hsize:∀w,(sizeOf e).run P w= .ok i.size w:=fun w=>by simp[sizeOf,typeInfo,hi]
 unfold Builtin.append_;simp only[List.getElem?_toArray,List.getElem?_cons_zero,List.getElem?_cons_succ,Sem.run_bind,run_underlying hst,run_underlying hyt,Result.andThen_ok,hsize,Sem.run_pure,Bool.false_eq_true,if_false,hyl];cases base <;>simp_all
theorem RRow.append {sz : Nat} {es ys : List (List T)} {xs zs r : List Value} (h0 : 0 < sz) (hes : ∀ e, e ∈ es -> e.length = sz) (hys : ∀ e, e ∈ ys -> e.length = sz) (hx : xs.length = es.length * sz) (hz : zs.length = ys.length * sz)
 (h1:RRow w S sz es xs) (h2:RRow w S sz ys zs):RRow w S sz (es++ys) (xs++zs++r):=by
 intro i j e t he ht;by_cases hi:i < es.length
 . rw[List.getElem?_append_left hi]at he;have hj:=(List.getElem?_eq_some_iff.1 ht).1;rw[hes _ (List.mem_of_getElem? he)]at hj;have:=Nat.mul_le_mul_right sz (show i+1<=es.length from hi);rw[Nat.add_mul]at this;rw[List.append_assoc,List.getElem?_append_left (by omega)];exact h1 _ _ _ _ he ht
 . rw[List.getElem?_append_right (by omega)]at he;have hj:=(List.getElem?_eq_some_iff.1 ht).1;rw[hys _ (List.mem_of_getElem? he)]at hj;have hi2:=(List.getElem?_eq_some_iff.1 he).1;have h3:=Nat.mul_le_mul_right sz (show es.length<=i by omega);have h4:=Nat.mul_le_mul_right sz (show(i - es.length)+1<=ys.length from hi2)
   have h5:(i - es.length)*sz=i*sz - es.length*sz:=Nat.sub_mul _ _ _;rw[Nat.add_mul]at h4;rw[List.append_assoc,List.getElem?_append_right (by omega),List.getElem?_append_left (by omega),show i*sz+j - xs.length=(i - es.length)*sz+j by omega];exact h2 _ _ _ _ he ht
theorem Rel.drew(R:Rel Γ nt φ S env J n a w):Rel Γ nt φ S env J n a w.drew:=
 R.world (fun _=>False) rfl rfl rfl (Nat.le_refl _) (fun _ _ _=>rfl) (fun _ h=>h.elim)
theorem eD (R : Rel Γ nt φ S env J n a w) {y : Operand} {ay : AO} (hy : opd y = some ay) {p : Prop} {v : V} (hg : ay.get env = some (p, v)) (hp : p) {sz : Nat} (h0 : 0 < sz) {ys : List (List T)×Option Nat}
 (h:ysOf J v=some ys) (hsz:∀e,e∈ys.1->e.length=sz):Elems P w S sz (a.eval y) ys.1 ys.2:=by
 have hgs:=(ae R hy hg hp).1;unfold ysOf at h;split at h
 . cases h;exact tp h0 hgs.c_inv hsz
 . cases h;exact tq hgs.c_inv
 . split at h
   . rename_i b sz1 off1 len1 _ sz2 ys' hJ;simp at h;obtain⟨⟨h1,rfl,rfl⟩,rfl⟩:=h;subst h1;by_cases hne:ys'=[]
     . subst hne;obtain⟨a',hv,_⟩:=RC.arr_inv hgs.c_inv;rw[hv];refine⟨by rfl,[],?_,by simp,by intro i j e t he;grind,by simp⟩;cases a' with
       | none=>rfl
       | some a=>simp[Builtin.firstCells,loadCells,loadCellsFrom]
     . have hszz:sz1=sz:=by
        obtain⟨e0,he0⟩:=List.exists_mem_of_ne_nil _ hne;rw[<-(R.sim.blk _ _ hJ).2.2.1 _ he0,hsz _ he0]
       subst hszz;exact nT (R.sim.blk _ _ hJ) hgs.c_inv
   grind
 grind
theorem uH{sz b off len:Nat}{es:List (List T)}{v:Value}(hB:RB φ w S b (.arr sz es))(hv:RC φ w S (.win b sz off len) v)(hin:off+len<=es.length):Elems P w S sz v ((es.drop off).take len) none:=by
 obtain⟨a,cap,rfl,ha,hle⟩:=hv;obtain⟨h1,h2,h3,h4,h5⟩:=hB;have hyl:((es.drop off).take len).length=len:=by grind
 refine⟨by simp[Builtin.lenOf,hyl],?_⟩;rw[hyl];by_cases h0:len=0
 . subst h0;refine⟨[],?_,by simp,by intro i j e t he;grind,by simp⟩;cases a with
   | none=>rfl
   | some a=>simp[Builtin.firstCells,loadCells,loadCellsFrom]
 . obtain⟨vs,E,hh,hl,hr,_⟩:=h5 (by omega);rw[ha h0];have hlv:off*sz+len*sz<=vs.length:=by rw[hl,<-Nat.add_mul];exact Nat.mul_le_mul_right _ (by omega)
   have hx:((vs.drop (off*sz)).take (len*sz)).length=len*sz:=by grind
   have hsz:∀e,e∈(es.drop off).take len->e.length=sz:=fun e he=>h3 e (List.mem_of_mem_drop (List.mem_of_mem_take he))
   have hrow:RRow w S sz ((es.drop off).take len) ((vs.drop (off*sz)).take (len*sz)):=by
    intro i j e t he ht;have hi:i < len:=by grind
    have hlt:i*sz+j < len*sz:=by
     have:=Nat.mul_le_mul_right sz (show i+1<=len from hi)
     grind
    grind
   refine⟨_,?_,hx,hrow,RRow.one h4 hsz (by grind) hrow⟩;refine fN hx ?_;intro j hj;rw[bc hh,List.getElem?_take,if_pos hj,List.getElem?_drop]
theorem tr (R : Rel Γ nt φ S env J n a w) {o : Oper} {x y : Operand} {st yt e ye : TypeId} (ho : o.op = .call { callee := .builtin .append, args := #[x, y], argTypes := #[st, yt] })
 (hst:P.underlying st=some (.slice e)) (hyt:P.underlying yt=some (.slice ye)) {i:TypeInfo} (hi:P.info? e=some i) (hs0:i.size≠0)
 {ax ay:AO} (hx:opd x=some ax) (hy:opd y=some ay) {px py:Prop} {vx vy:V} (hgx:ax.get env=some (px,vx)) (hgy:ay.get env=some (py,vy)) {r}
 {p v J'} (hw:winOf vx vy=some r) (hk:n key=false) (h:appW J key i.size px py r=some (p,v,J')) (hp:p):Good P Γ nt env J' (ins n key) a v ((execOp a.eval o).run P w):=by
 have hrun:∀r w',(Builtin.append_ #[st,yt] o.type #[a.eval x,a.eval y]).run P w= .ok r w'->(execOp a.eval o).run P w= .ok (.value r) w':=by
  intro r w' hr;simp[execOp,ho,Go.resolve,invoke,builtin,hr]
 unfold winOf at hw;split at hw
 . rename_i b s1 off len b' s2 off' len';split at hw
   . rename_i hbb;subst hbb;cases hw;unfold appW at h;dsimp only at h;split at h
     . rename_i s3 es hJ;obtain⟨rfl,rfl,rfl⟩:=h;obtain⟨hp1,hp2,rfl,rfl,rfl,rfl,hl1,hl2⟩:=hp;have hgs:=ae R hx hgx hp1;obtain⟨base,hxv,hba,hle⟩:=RC.arr_inv hgs.1.c_inv;have hgy2:=ae R hy hgy hp2;have hRB:=R.sim.blk _ _ hJ;obtain⟨hyl,zs,hzf,hzl,hzr,hzo⟩:=uH (P:=P) hRB hgy2.1.c_inv hl2;obtain⟨g1,g2,g3,g4,g5⟩:=hRB
       have hyn:((es.drop off').take len').length=len':=by simp;omega
       rw[hyn]at hyl hzf hzl;rw[Nat.sub_zero]at hxv;have hroom:len+len'<=(φ b).2:=by omega
       have h0:0 < i.size:=by omega
       have hlen:(es.take len++(es.drop off').take len').length=len+len':=by grind
       have hmem:∀e',e'∈es.take len++(es.drop off').take len'->e'.length=i.size:=by
        grind
       by_cases hv0:(φ b).2=0
       . have hl0:len=0:=by omega
         have hl0':len'=0:=by omega
         subst hl0 hl0';have hzs0:zs=[]:=List.eq_nil_of_length_eq_zero (by grind);subst hzs0;have hr:=ed (tt:=o.type) hst hyt hi (base:=base) (sl:=0) (sc:=(φ b).2) hyl hzf hroom (w':=w) (fun ad _=>by simp[storeCells]) (fun _=>rfl);rw[<-hxv]at hr
         have R':=(R.del b).newkey hk (x:= .arr i.size (es.take 0++(es.drop off').take 0)) (0,0) rfl (by simp only[RB,aw];exact⟨by simp,by simp,by simp,h0,by simp⟩) (by simp);refine⟨_,_,S,w,.inl (hrun _ _ hr),.c ?_,by simp[V.bnd,C.bnd,ins],R'⟩;exact⟨base,by simp[aw,hv0,hxv],by simp[aw],by simp[aw]⟩
       . obtain⟨vs,E,hh,hvl,hvr,hns⟩:=g5 hv0;have hRB:=R.sim.blk _ _ hJ;have hfit:len*i.size+zs.length<=vs.length:=by rw[hzl,hvl,<-Nat.add_mul];exact Nat.mul_le_mul_right _ hroom
         obtain⟨w',hr1,k1,k2,k3,k4,k5,k6⟩:=bL (P:=P) zs (len*i.size) 0 vs w hh (by omega) hzo;rw[Nat.add_zero]at k5;have hbase:=hba hv0
         have hr:=ed (tt:=o.type) hst hyt hi (base:=base) (sl:=len) (sc:=(φ b).2) hyl hzf hroom (w':=w') (fun ad had=>by
          grind[Addr.add]) (fun hb0=>by rw[hbase]at hb0;cases hb0)
         rw[<-hxv]at hr
         have R1:=(R.del b).world (w':=w') (fun k=>k=(φ b).1) k1 k2 k3 (Nat.le_of_eq k4.symm) (fun k _ hk=>k6 k hk) (fun k hk=>by
          subst hk;refine⟨hRB.notS hv0,fun k y hy hk=>?_,R.own b _ hJ hv0⟩;rw[aC]at hy;split at hy
          . cases hy
          . rename_i hne
            exact fun e=>R.sim.inj k b y _ hy hJ (Ne.symm hne) hk hv0 e)
         have m:Mono w S w' S:=⟨fun _ _ h=>h,fun k j h=>cd (k6 k (fun e=>hRB.notS hv0 j (e▸h))) j⟩
         have R2:=R1.newkey hk (x:= .arr i.size _) (φ b) rfl (by
          simp only[RB,aw];refine⟨by rw[hlen];exact hroom,by rw[hlen];omega,hmem,h0,fun _=>⟨_,E,k5,by rw[cG hfit];exact hvl,fun i' j e t he ht=>?_,hns⟩⟩;have hj:=(List.getElem?_eq_some_iff.1 ht).1;rw[hmem _ (List.mem_of_getElem? he)]at hj;rw[cp hfit,hzl];by_cases c1:i' < len
          . have:=Nat.mul_le_mul_right i.size (show i'+1<=len from c1);rw[Nat.add_mul]at this;rw[if_pos (by omega)];rw[List.getElem?_append_left (by simp;omega),List.getElem?_take,if_pos c1]at he;obtain⟨v,hv,hr⟩:=hvr _ _ _ _ he ht;exact⟨v,hv,RT.mono m hr⟩
          . have h1:=Nat.mul_le_mul_right i.size (show len<=i' by omega);have c2:i' < len+len':=by rw[<-hlen];exact(List.getElem?_eq_some_iff.1 he).1
            have:=Nat.mul_le_mul_right i.size (show i'+1<=len+len' from c2);rw[Nat.add_mul,Nat.add_mul]at this;rw[if_neg (by omega),if_pos (by omega)];have hl:(es.take len).length=len:=by simp;omega
            rw[List.getElem?_append_right (by omega),hl]at he;have h5:(i' - len)*i.size=i'*i.size - len*i.size:=Nat.sub_mul _ _ _;obtain⟨v,hv,hr⟩:=hzr _ _ _ _ he ht;rw[show i'*i.size+j - len*i.size=(i' - len)*i.size+j by omega]
            exact⟨v,hv,RT.mono m hr⟩) (fun _=>⟨fun k y hy hk=>by
            rw[aC]at hy;split at hy
            . cases hy
            . rename_i hne
              exact R.sim.inj k b y _ hy hJ (Ne.symm hne) hk hv0,R.own b _ hJ hv0⟩)
         refine⟨_,_,S,w',.inl (hrun _ _ hr),.c ?_,by simp[V.bnd,C.bnd,ins],R2⟩;exact⟨base,by simp[aw],by simp[aw,hbase],by simp[aw];omega⟩
     grind
   grind
 grind
theorem rX (R : Rel Γ nt φ S env J n a w) {o : Oper} {x y : Operand} {st yt e ye : TypeId} (ho : o.op = .call { callee := .builtin .append, args := #[x, y], argTypes := #[st, yt] })
 (hst:P.underlying st=some (.slice e)) (hyt:P.underlying yt=some (.slice ye)) {i:TypeInfo} (hi:P.info? e=some i) (hs0:i.size≠0) (hz:(i.zero.map (·.cells.size))=some i.size)
 {ax ay:AO} (hx:opd x=some ax) (hy:opd y=some ay)
 {p v J'} (hk:n key=false) (h:aval (.append e i.size i.bytes ax ay) env J key=some (p,v,J')) (hnb:∀q b l,ax.get env≠some (q,.c (.bufc b l))) (hp:p):Good P Γ nt env J' (ins n key) a v ((execOp a.eval o).run P w):=by
 simp only[aval,oZ2]at h;obtain⟨⟨px,vx⟩,hgx,⟨py,vy⟩,hgy,he⟩:=h;split at he
 . grind[tr]
 rename_i hw;simp only[oZ2]at he;obtain⟨ys,hys,he⟩:=he;simp only[oZ1]at hz;obtain⟨zv,hzv,hzs⟩:=hz;have h0:0 < i.size:=by omega
 have hrun:∀r w',(Builtin.append_ #[st,yt] o.type #[a.eval x,a.eval y]).run P w= .ok r w'->(execOp a.eval o).run P w= .ok (.value r) w':=by
  intro r w' hr;simp[execOp,ho,Go.resolve,invoke,builtin,hr]
 have hnotS:∀b,w.heap.size<=b->∀j,¬S b j:=fun b hb j hS=>by have:=R.sim.st _ _ hS;omega
 split at he
 ·
  obtain⟨rfl,rfl,rfl⟩:=he;obtain⟨hp1,hp2,hysz,hcap,hmax⟩:=hp;obtain⟨base,hxv⟩:=(ae R hx hgx hp1).1.c_inv;have hE:=eD (P:=P) R hy hgy hp2 h0 hys hysz;by_cases hne:ys.1=[]
  . obtain⟨hyl,zs,hzf,hzl,hzr,hzo⟩:=hE;rw[hne]at hyl hzf hzl;have hzs0:zs=[]:=List.eq_nil_of_length_eq_zero (by simpa using hzl);subst hzs0;have hr:=ed (tt:=o.type) hst hyt hi (base:=base) (sl:=0) (sc:=0) hyl hzf (by simp) (w':=w) (fun ad _=>by simp[storeCells]) (fun _=>rfl);rw[<-hxv]at hr
    have R':=R.newkey hk (x:= .arr i.size ys.1) (0,0) rfl (by rw[hne];simp only[RB,aw];exact⟨by simp,by simp,by simp,h0,by simp⟩) (by simp);refine⟨_,_,S,w,.inl (hrun _ _ hr),.c ?_,by simp[V.bnd,C.bnd,ins],R'⟩;rw[hne];exact⟨base,by simp[aw],by simp[aw],by simp[aw]⟩
  . have R1:=R.drew;obtain⟨hyl,_⟩:=hE;obtain⟨_,zs,hzf,hzl,hzr,hzo⟩:=eD (P:=P) R1 hy hgy hp2 h0 hys hysz;have hpos:0 < ys.1.length:=List.length_pos_iff.2 hne;have hxf:(Builtin.firstCells i.size 0 (.slice base 0 0)).run P w.drew= .ok ([]:List Value).toArray w.drew:=by
     cases base with
     | none=>rfl
     | some a=>simp[Builtin.firstCells,loadCells,loadCellsFrom]
    obtain⟨nc,r,h1,h2,hr⟩:=iV (tt:=o.type) hst hyt hi hzv hzs hyl hxf hzf (by omega) (by grind) (by grind);rw[<-hxv]at hr;have R2:=R1.alloc (.cells ([]++zs++r).toArray e);have m:=R1.mono_alloc (.cells ([]++zs++r).toArray e)
    have R3:=R2.newkey hk (x:= .arr i.size ys.1) (w.heap.size,nc) rfl (by
     simp only[RB,aw];refine⟨by omega,hmax,hysz,h0,fun _=>⟨_,e,heap_alloc_new,?_,?_,hnotS _ (Nat.le_refl _)⟩⟩
     . simp only[List.length_append,List.length_nil,hzl,h2,Nat.zero_add,<-Nat.add_mul];congr 1;omega
     . have:=RRow.append (S:=S) (w:=w.drew) (r:=r) (es:=[]) (xs:=[]) h0 (by simp) hysz (by simp) hzl (by intro i j e t he;simp at he) hzr;intro i' j e' t he ht;obtain⟨v,hv,hr⟩:=this i' j e' t (by simpa using he) ht
       exact⟨v,hv,RT.mono m hr⟩) (fun _=>⟨fun k y hy h0=>by
        have:=(R.sim.blk k y hy).real_lt h0
        omega,.inr R.ext.size⟩)
    refine⟨_,_,S,_,.inl (hrun _ _ hr),.c ?_,by simp[V.bnd,C.bnd,ins],R3⟩;exact⟨some ⟨w.heap.size,0,none⟩,by simp[aw],by simp[aw],by simp[aw];omega⟩
 . rename_i b sz' off len;split at he
   . rename_i sz'' es hJ;split at he
     . grind
     . obtain⟨rfl,rfl,rfl⟩:=he;obtain⟨hp1,hp2,rfl,rfl,rfl,rfl,hysz,hcap,hmax⟩:=hp;have hgs:=ae R hx hgx hp1;have hRC:=hgs.1.c_inv;obtain⟨base,hxv,hba,hle⟩:=RC.arr_inv hRC;have hE:=eD (P:=P) R hy hgy hp2 h0 hys hysz;have hRB:=R.sim.blk _ _ hJ;have hRB':=hRB;obtain⟨g1,g2,g3,g4,g5⟩:=hRB';rw[Nat.sub_zero]at hxv;rw[Nat.zero_add]at hle
       have hsz2:∀e',e'∈es++ys.1->e'.length=i.size:=sF g3 hysz;by_cases hroom:es.length+ys.1.length<=(φ b).2
       . obtain⟨hyl,zs,hzf,hzl,hzr,hzo⟩:=hE;by_cases hv0:(φ b).2=0
         . have he0:es=[]:=List.eq_nil_of_length_eq_zero (by omega);have hy0:ys.1=[]:=List.eq_nil_of_length_eq_zero (by omega);rw[hy0]at hyl hzf hzl;have hzs0:zs=[]:=List.eq_nil_of_length_eq_zero (by simpa using hzl);subst hzs0
           have hr:=ed (tt:=o.type) hst hyt hi (base:=base) (sl:=es.length) (sc:=(φ b).2) hyl hzf (by simp[he0]) (w':=w) (fun ad _=>by simp[storeCells]) (fun _=>rfl);rw[<-hxv]at hr;have R':=(R.del b).newkey hk (x:= .arr i.size (es++ys.1)) (0,0) rfl (by rw[hy0,he0];simp only[RB,aw];exact⟨by simp,by simp,by simp,h0,by simp⟩) (by simp)
           refine⟨_,_,S,w,.inl (hrun _ _ hr),.c ?_,by simp[V.bnd,C.bnd,ins],R'⟩;rw[hy0,he0];exact⟨base,by simp[aw,hv0],by simp[aw],by simp[aw]⟩
         . obtain⟨vs,E,hh,hvl,hvr,hns⟩:=g5 hv0;have hfit:es.length*i.size+zs.length<=vs.length:=by rw[hzl,hvl,<-Nat.add_mul];exact Nat.mul_le_mul_right _ hroom
           obtain⟨w',hr1,k1,k2,k3,k4,k5,k6⟩:=bL (P:=P) zs (es.length*i.size) 0 vs w hh (by omega) hzo;rw[Nat.add_zero]at k5;have hbase:=hba hv0;rw[Nat.zero_mul]at hbase
           have hr:=ed (tt:=o.type) hst hyt hi (base:=base) (sl:=es.length) (sc:=(φ b).2) hyl hzf hroom (w':=w') (fun ad had=>by
            rw[hbase]at had;cases had;have hadd:Addr.add ⟨(φ b).1,0,none⟩ (es.length*i.size)=⟨(φ b).1,es.length*i.size,none⟩:=by unfold Addr.add;split <;> simp_all
            grind) (fun hb=>by rw[hbase]at hb;cases hb)
           rw[<-hxv]at hr
           have R1:=(R.del b).world (w':=w') (fun k=>k=(φ b).1) k1 k2 k3 (Nat.le_of_eq k4.symm) (fun k _ hk=>k6 k hk) (fun k hk=>by
            subst hk;refine⟨hRB.notS hv0,fun k y hy hk=>?_,R.own b _ hJ hv0⟩;rw[aC]at hy;split at hy
            . cases hy
            . rename_i hne
              exact fun e=>R.sim.inj k b y _ hy hJ (Ne.symm hne) hk hv0 e)
           have m:Mono w S w' S:=⟨fun _ _ h=>h,fun k j h=>cd (k6 k (fun e=>hRB.notS hv0 j (e▸h))) j⟩
           have R2:=R1.newkey hk (x:= .arr i.size (es++ys.1)) (φ b) rfl (by
            simp only[RB,aw];refine⟨by simp;omega,by simp;omega,hsz2,h0,fun _=>⟨_,E,k5,by rw[cG hfit];exact hvl,?_,hns⟩⟩;intro i' j e' t he ht;rw[cp hfit];by_cases hi':i' < es.length
            . rw[List.getElem?_append_left hi']at he;have hj:=(List.getElem?_eq_some_iff.1 ht).1;rw[g3 _ (List.mem_of_getElem? he)]at hj;have:=Nat.mul_le_mul_right i.size (show i'+1<=es.length from hi');rw[Nat.add_mul]at this;rw[if_pos (by omega)];obtain⟨v,hv,hr⟩:=hvr _ _ _ _ he ht;exact⟨v,hv,RT.mono m hr⟩
            . rw[List.getElem?_append_right (by omega)]at he;have hj:=(List.getElem?_eq_some_iff.1 ht).1;rw[hysz _ (List.mem_of_getElem? he)]at hj;have hi2:=(List.getElem?_eq_some_iff.1 he).1;have h3:=Nat.mul_le_mul_right i.size (show es.length<=i' by omega);have h4:=Nat.mul_le_mul_right i.size (show(i' - es.length)+1<=ys.1.length from hi2)
              have h5:(i' - es.length)*i.size=i'*i.size - es.length*i.size:=Nat.sub_mul _ _ _;rw[Nat.add_mul]at h4;rw[if_neg (by omega),if_pos (by omega),show i'*i.size+j - es.length*i.size=(i' - es.length)*i.size+j by omega];obtain⟨v,hv,hr⟩:=hzr _ _ _ _ he ht
              exact⟨v,hv,RT.mono m hr⟩) (fun _=>⟨fun k y hy hk=>by
              rw[aC]at hy;split at hy
              . cases hy
              . rename_i hne
                exact R.sim.inj k b y _ hy hJ (Ne.symm hne) hk hv0,R.own b _ hJ hv0⟩)
           refine⟨_,_,S,w',.inl (hrun _ _ hr),.c ?_,by simp[V.bnd,C.bnd,ins],R2⟩;exact⟨base,by simp[aw],by simp[aw,hbase],by simp[aw];omega⟩
       . have R1:=R.drew;obtain⟨hyl,_⟩:=hE;obtain⟨_,zs,hzf,hzl,hzr,hzo⟩:=eD (P:=P) R1 hy hgy hp2 h0 hys hysz;obtain⟨_,xs,hxf,hxl,hxr,_⟩:=nT (P:=P) (R1.sim.blk _ _ hJ) (ae R1 hx hgx hp1).1.c_inv;rw[hxv]at hxf;obtain⟨nc,r,h1,h2,hr⟩:=iV (tt:=o.type) hst hyt hi hzv hzs hyl hxf hzf (by omega) hcap hmax;rw[<-hxv]at hr
         have R2:=(R1.del b).alloc (.cells (xs++zs++r).toArray e);have m:=R1.mono_alloc (.cells (xs++zs++r).toArray e)
         have R3:=R2.newkey hk (x:= .arr i.size (es++ys.1)) (w.heap.size,nc) rfl (by
          simp only[RB,aw];refine⟨by simp;omega,by simp;omega,hsz2,h0,fun _=>⟨_,e,heap_alloc_new,?_,?_,hnotS _ (Nat.le_refl _)⟩⟩
          . simp only[List.length_append,hxl,hzl,h2,<-Nat.add_mul];congr 1;omega
          . have:=RRow.append (S:=S) (w:=w.drew) (r:=r) h0 g3 hysz hxl hzl hxr hzr;intro i' j e' t he ht;obtain⟨v,hv,hr⟩:=this i' j e' t he ht
            exact⟨v,hv,RT.mono m hr⟩) (fun _=>⟨fun k y hy h0=>by
             rw[aC]at hy;split at hy
             . cases hy
             . have:=(R.sim.blk k y hy).real_lt h0
               omega,.inr R.ext.size⟩)
         refine⟨_,_,S,_,.inl (hrun _ _ hr),.c ?_,by simp[V.bnd,C.bnd,ins],R3⟩;exact⟨some ⟨w.heap.size,0,none⟩,by simp[aw],by simp[aw],by simp[aw];omega⟩
   grind
 . exact absurd hgx (hnb _ _ _)
 grind
end
end
section
open Go
variable [GV]
section
variable {P:Program} {Γ:Ctx} {nt:Nat} {φ:Phi} {S:Stab} {env:Env} {J:Store} {n:Nat->Bool} {key:Nat} {a:Act} {w:World}
theorem rY{R:T->Value->Prop}:∀{ts:List T} {vs:List Value},All2 R ts vs->∀(i j:Nat) e t,(ts.map fun t=>[t])[i]?=some e->e[j]?=some t->∃v,vs[i*1+j]?=some v/\R t v:=by
 intro ts vs h i j e t he ht;rw[List.getElem?_map,oZ1]at he;obtain⟨t0,h0,rfl⟩:=he;cases j with
 | zero=>
  obtain⟨v,hv,hr⟩:=h.get h0
  grind
 | succ j=>grind
theorem rZ (R : Rel Γ nt φ S env J n a w) {o : Oper} {ty : TypeId} (ho : o.op = .alloc ty) {cs : List C} (hz : zeroC P ty = some cs) (hn0 : cs.length ≠ 0) (hle : cs.length <= 2 ^ 24)
 {p v J'} (hk:n key=false) (h:aval (.allocA cs) env J key=some (p,v,J')) (hp:p):Good P Γ nt env J' (ins n key) a v ((execOp a.eval o).run P w):=by
 simp only[aval,oZ1]at h;obtain⟨ts,hts,rfl,rfl,rfl⟩:=h;obtain⟨i,z,hi,hz,hall,hb⟩:=dC (φ:=φ) (w:=w) (S:=S) (n:=n) hz;have hzr:=c8 hts hall;have htl:=ei hts;have R1:=R.alloc (.cells z.cells.toList.toArray ty);have m:=R.mono_alloc (.cells z.cells.toList.toArray ty);have hul:=hall.length.symm
 have R2:=R1.newkey hk (x:= .arr 1 (ts.map fun t=>[t])) (w.heap.size,cs.length) rfl (by
  simp only[RB,aw,List.length_map];refine⟨by omega,by grind[az],?_,by simp,fun _=>⟨z.cells.toList,ty,heap_alloc_new,by omega,fun i j e t he ht=>?_,fun j h=>?_⟩⟩
  . simp
  . grind[rY,RT.mono]
  . have:=R.sim.st _ _ h
    omega) (fun _=>⟨fun k y hy h0=>by
     have:=(R.sim.blk k y hy).real_lt h0
     grind,.inr R.ext.size⟩)
 refine⟨.pointer (some ⟨w.heap.size,0,none⟩),_,S,_,.inl ?_,.c ?_,by simp[V.bnd,C.bnd,ins],R2⟩
 . simp_all[execOp,Instr.alloc,zeroValue,typeInfo,newVar,newRow]
 grind[RC,aw]
theorem tu (R : Rel Γ nt φ S env J n a w) {o : Oper} {ty : TypeId} {x i : Operand} (ho : o.op = .indexAddr ty x i) {k : Nat} {e : TypeId} (hty : P.underlying ty = some (.array k e)) (hsz : sizeT P e = some 1)
 {ax ai:AO} (hx:opd x=some ax) (hi:opd i=some ai)
 {p v J'} (hk:n key=false) (h:aval (.idxP k ax ai) env J key=some (p,v,J')) (hp:p):Good P Γ nt env J' (ins n key) a v ((execOp a.eval o).run P w):=by
 simp only[aval,oZ2]at h;obtain⟨⟨px,vx⟩,hgx,⟨pi,vi⟩,hgi,he⟩:=h;simp at he;split at he
 . rename_i b kk m;obtain⟨rfl,rfl,rfl⟩:=he;obtain⟨hp1,hp2,hm0,hm1⟩:=hp;have hg:=ae R hx hgx hp1;have h1:=hg.1.ptr_inv;have h2:=(ae R hi hgi hp2).1.int_inv;have hadd:Addr.add ⟨(φ b).1,0,none⟩ (m.toNat*1)=⟨(φ b).1,m.toNat*1+0,none⟩:=by
    grind[Addr.add]
   refine Good.pure R (x:= .pointer (some ⟨(φ b).1,m.toNat*1+0,none⟩)) ?_ (.c ?_) (by grind[V.bnd,C.bnd])
   . have hc':0<=m/\m < k:=⟨hm0,by omega⟩
     simp only[execOp,ho,h1,h2,Instr.indexAt,asIntOf,Instr.sureAddr,Sem.run_bind,run_underlying hty,Result.andThen_ok,Sem.run_pure,if_pos hc',bd hsz,hadd]
   rfl
 grind
theorem tv (R : Rel Γ nt φ S env J n a w) {o : Oper} {ty : TypeId} {x : Operand} {ki : IntKind} {m : Int} (ho : o.op = .indexAddr ty x (.const (.int ki m))) {k : Nat} {e : TypeId} (hty : P.underlying ty = some (.array k e))
 (h0:0<=m/\m.toNat < k) {s:Nat} (hs:sizeT P e=some s) {ax:AO} (hx:opd x=some ax)
 {p v J'} (hk:n key=false) (h:aval (.fldA (m.toNat*s) ax) env J key=some (p,v,J')) (hp:p):Good P Γ nt env J' (ins n key) a v ((execOp a.eval o).run P w):=by
 simp only[aval,oZ2]at h;obtain⟨⟨px,vx⟩,hgx,he⟩:=h;simp at he;have h2:a.eval (.const _)= .int ki m:=rfl;have hc':0<=m/\m < (k:Int):=⟨h0.1,by omega⟩
 have hrun:∀(b off:Nat),a.eval x= .pointer (some ⟨b,off,none⟩)->(execOp a.eval o).run P w= .ok (.value (.pointer (some ⟨b,off+m.toNat*s,none⟩))) w:=by
  intro b off e;have hadd:Addr.add ⟨b,off,none⟩ (m.toNat*s)=⟨b,off+m.toNat*s,none⟩:=by
   grind[Addr.add]
  simp only[execOp,ho,e,h2,Instr.indexAt,asIntOf,Instr.sureAddr,Sem.run_bind,run_underlying hty,Result.andThen_ok,Sem.run_pure,if_pos hc',bd hs,hadd]
 split at he <;> simp only[Option.some.injEq,reduceCtorEq]at he
 all_goals
  obtain⟨rfl,rfl,rfl⟩:=he;have hg:=ae R hx hgx hp;have h1:=hg.1.c_inv
 . exact Good.pure R (hrun _ _ h1) (.c rfl) hg.2
 . exact Good.pure R (hrun _ _ h1) (.c (by simp[RC,Nat.add_assoc])) hg.2
 . obtain⟨blk,off,f,h1,hh⟩:=h1;exact Good.pure R (hrun _ _ h1) (.c ⟨blk,off,f,by grind,hh⟩) hg.2
theorem tw (R : Rel Γ nt φ S env J n a w) {o : Oper} {ty : TypeId} {x : Operand} {lo hi : Option Operand} (ho : o.op = .slice ty x lo hi none) {k : Nat} {e : TypeId} (hty : P.underlying ty = some (.array k e)) (hsz : sizeT P e = some 1)
 {ax:AO} {al ah:Option AO} (hx:opd x=some ax) (hlo:opdO lo=some al) (hhi:opdO hi=some ah)
 {p v J'} (hk:n key=false) (h:aval (.slcP k ax al ah) env J key=some (p,v,J')) (hp:p):Good P Γ nt env J' (ins n key) a v ((execOp a.eval o).run P w):=by
 simp only[aval,oZ2]at h;obtain⟨⟨px,vx⟩,hgx,⟨pl,l⟩,hgl,⟨ph,h⟩,hgh,he⟩:=h;simp at he;split at he
 . rename_i b;obtain⟨rfl,rfl,rfl⟩:=he;obtain⟨hp1,hp2,hp3,h0,h1,h2⟩:=hp;have hg:=ae R hx hgx hp1;have hx1:=hg.1.ptr_inv;have hl:=c7 R hlo hgl hp2;have hh:=c7 R hhi hgh hp3;have hb:=gO (P:=P) (w:=w) (isSlice:=false) hl hh h0 h1 h2 (Nat.le_refl _);generalize hL:(l.getD 0).toNat=L at*;generalize hH:(h.getD _).toNat=H at*
   have hadd:Addr.add ⟨(φ b).1,0,none⟩ (L*1)=⟨(φ b).1,L*1,none⟩:=by
    unfold Addr.add;split
    . grind
    . simp
   refine Good.pure R (x:= .slice (some (if k=L then⟨(φ b).1,0,none⟩else(Addr.add ⟨(φ b).1,0,none⟩ (L*1)))) _ (k - L)) ?_ (.c ⟨_,_,rfl,?_,by omega⟩) (by simpa[V.bnd,C.bnd]using hg.2)
   . simp[execOp,ho,Instr.sliceAt,Instr.sureAddr,underlying,hty,hx1,hb,bd hsz]
   . intro hne;rw[if_neg (by omega),hadd]
 grind
theorem tz {es : List (List T)} {s : List UInt8} (hb : bytesOf es = some s): ∀ {xs : List Value}, (∀ (i : Nat) t, es[i]? = some [t] -> ∃ v, xs[i]? = some v /\ RT w S t v) -> xs.length = es.length ->
 ∃ns:List Int,xs=ns.map (Value.int .u8)/\s=ns.map fun m=>UInt8.ofNat m.toNat:=by
 induction es generalizing s with
 | nil=>simp_all[bytesOf]
 | cons e es ih=>
  intro xs hr hl;unfold bytesOf at hb;split at hb
  . grind
  . rename_i m r heq;cases heq;simp at hb;obtain⟨s',hs',rfl⟩:=hb;cases xs with
    | nil=>grind
    | cons x xs=>
     obtain⟨v,hv,hrt⟩:=hr 0 _ rfl;simp at hv;subst hv;cases hrt;obtain⟨ns,rfl,rfl⟩:=ih hs' (fun i t hi=>by simpa using hr (i+1) t (by grind)) (by grind);exact⟨m::ns,rfl,rfl⟩
  grind
theorem tA(ns:List Int):∀(s:ByteArray),(ns.foldl (fun r m=>r.push (UInt8.ofNat m.toNat)) s).data.toList=s.data.toList++ns.map fun m=>UInt8.ofNat m.toNat:=by
 induction ns <;>simp_all
theorem mo{es:List (List T)}{s:List UInt8}(hb:bytesOf es=some s):∀(i:Nat) e,es[i]?=some e->∃t,e=[t]:=by
 induction es generalizing s with
 | nil=>simp
 | cons e0 es ih=>
  unfold bytesOf at hb
  grind[oZ1]
theorem hY {sty dty e : TypeId} (hs : P.underlying sty = some (.slice e)) (he : P.underlying e = some (.int .u8)) (hd : P.underlying dty = some .string) {es : List (List T)} {str : List UInt8} {ad : Option Addr} {len cap b off : Nat}
 (hl:es.length=len) (hb:bytesOf es=some str) (had:len≠0->ad=some ⟨b,off,none⟩) (hc:∀(i:Nat) t,es[i]?=some [t]->∃v,w.cell? ⟨b,off+i,none⟩=some v/\RT w S t v):
 ∃bs:ByteArray,(convert sty dty (.slice ad len cap)).run P w= .ok (.string bs) w/\bs.data.toList=str:=by
 rw[run_convert_bytes_string w _ _ e ad _ _ hs he hd];by_cases h0:len=0
 . have hes:es=[]:=List.eq_nil_of_length_eq_zero (by omega);subst hes;simp[bytesOf]at hb;cases ad with
   | none=>simp_all[Conv.bytesToString]
   | some a0=>
    simp_all[run_bytesToString,loadCells,loadCellsFrom]
 . have hx:∀i,i < len->∃t v,es[i]?=some [t]/\w.cell? ⟨b,off+i,none⟩=some v/\RT w S t v:=by
    intro i hi;have h1:=List.getElem?_eq_getElem (l:=es) (i:=i) (by omega)
    grind[mo]
   have hg:∀i,i < len->((List.range len).map fun i=>(w.cell? ⟨b,off+i,none⟩).getD undef)[i]?=w.cell? ⟨b,off+i,none⟩:=by grind
   obtain⟨ns,h1,h2⟩:=tz (w:=w) (S:=S) hb (xs:=(List.range len).map fun i=>(w.cell? ⟨b,off+i,none⟩).getD undef) (fun i t hi=>by grind) (by grind);have h3:=fN (P:=P) (by simp) (fun j hj=>(hg j hj).symm);rw[h1]at h3;have h4:=run_bytesToString w _ _ cap ns h3;simp_all[tA]
theorem iW :∀{es:List (List T)} {s:List UInt8},bytesOf es=some s->s.length=es.length
 | [],s,h=>by grind[bytesOf]
 | e::es,s,h=>by
  unfold bytesOf at h;split at h
  . grind
  . rename_i m r heq;cases heq;simp at h;obtain⟨s',hs',rfl⟩:=h;simp[iW hs']
  grind
theorem uI (R : Rel Γ nt φ S env J n a w) {o : Oper} {sty dty e : TypeId} {x : Operand} (ho : o.op = .convert sty dty x) (hs : P.underlying sty = some (.slice e)) (he : P.underlying e = some (.int .u8)) (hd : P.underlying dty = some .string) {ax : AO} (hx : opd x = some ax)
 {p v J'} (hk:n key=false) (h:aval (.b2s ax) env J key=some (p,v,J')) (hp:p):Good P Γ nt env J' (ins n key) a v ((execOp a.eval o).run P w):=by
 simp only[aval,oZ2,oZ1,Prod.mk.injEq]at h;obtain⟨⟨px,vx⟩,hgx,⟨q,str⟩,hq,rfl,rfl,rfl⟩:=h;obtain⟨hp1,hp2⟩:=hp;have hg:=ae R hx hgx hp1
 suffices hh:∃ad len cap,a.eval x= .slice ad len cap/\str.length<=az/\∃bs:ByteArray,(convert sty dty (.slice ad len cap)).run P w= .ok (.string bs) w/\bs.data.toList=str by
  obtain⟨ad,len,cap,h1,h2,bs,h3,h4⟩:=hh;have hbs:bs.size<=aD:=by grind[ep,az,aD]
  refine Good.pure R (x:= .string bs) ?_ (.c ?_) rfl
  . simp_all[execOp]
  . rw[<-h4];exact .str bs hbs
 have hwin : ∀ (b off len : Nat) (es : List (List T)) (ad : Option Addr) (cap : Nat), sget J b = some (.arr 1 es) -> off + len <= es.length -> bytesOf ((es.drop off).take len) = some str -> (len ≠ 0 -> ad = some ⟨(φ b).1, off * 1, none⟩) -> ((φ b).2 ≠ 0 \/ len = 0) -> a.eval x = .slice ad len cap ->
  ∃ad len cap,a.eval x= .slice ad len cap/\str.length<=az/\∃bs:ByteArray,(convert sty dty (.slice ad len cap)).run P w= .ok (.string bs) w/\bs.data.toList=str:=by
  intro b off len es ad cap hb hle hby had h0 hv;obtain⟨h1,h2,h3,h4,h5⟩:=R.sim.blk b _ hb;have hl:((es.drop off).take len).length=len:=by grind
  refine⟨ad,len,cap,hv,by grind[iW],?_⟩;refine hY (S:=S) hs he hd hl hby had ?_;intro i t hi;rw[List.getElem?_take]at hi;split at hi
  . rw[List.getElem?_drop]at hi;rcases h0 with h0 | h0
    . obtain⟨vs,E,hh,hvl,hr,_⟩:=h5 h0;obtain⟨v,hv1,hv2⟩:=hr _ 0 _ t hi rfl
      grind[bc]
    grind
  grind
 dsimp only at hq hgx hg;unfold b2sOf at hq;split at hq
 . rename_i es;simp only[oZ1,Prod.mk.injEq]at hq;obtain⟨s,hby,rfl,rfl⟩:=hq;obtain⟨ad,cap,sz,b,off,f,h1,hcap,hmax,hszs,ha,hc,hv⟩:=RT.slice_inv hg.1.c_inv;refine⟨ad,es.length,cap,h1,by grind[iW],?_⟩;by_cases hne:es=[]
   . subst hne;exact hY (S:=S) (b:=0) (off:=0) hs he hd rfl hby (by simp) (by simp)
   . have hsz1:sz=1:=by
      obtain⟨e0,he0⟩:=List.exists_mem_of_ne_nil es hne
      grind[List.mem_iff_getElem?,mo]
     refine hY (S:=S) (b:=b) (off:=off) hs he hd rfl hby (fun _=>ha hne) ?_;intro i t hi;exact⟨f i 0,by grind,hv i 0 _ t hi rfl⟩
 . cases hq;obtain⟨ad,h1⟩:=hg.1.c_inv;exact⟨ad,0,0,h1,by simp,hY (S:=S) (es:=[]) (b:=0) (off:=0) hs he hd rfl rfl (by simp) (by simp)⟩
 . rename_i b off len;split at hq
   . rename_i es hes;simp only[oZ1,Prod.mk.injEq]at hq;obtain⟨s,hby,rfl,rfl⟩:=hq;obtain⟨ad,h1,ha,hle⟩:=RC.arr_inv hg.1.c_inv;by_cases h0:(φ b).2=0
     . exact hwin b off len es ad _ hes hp2 hby (fun h=>by omega) (.inr (by omega)) h1
     . exact hwin b off len es ad _ hes hp2 hby (fun _=>ha h0) (.inl h0) h1
   . cases hq
 . rename_i b off len;split at hq
   . rename_i es hes;simp only[oZ1,Prod.mk.injEq]at hq;obtain⟨s,hby,rfl,rfl⟩:=hq;obtain⟨ad,cap,h1,ha,hle⟩:=hg.1.c_inv;obtain⟨h2,_⟩:=R.sim.blk b _ hes;by_cases h0:len=0
     . exact hwin b off len es ad _ hes hp2 hby ha (.inr h0) h1
     . exact hwin b off len es ad _ hes hp2 hby ha (.inl (by omega)) h1
   . cases hq
 . cases hq
end
end
end Go.Proofs.YtkbmjabicjpmjaaGreatDoor.Shv
