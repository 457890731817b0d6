/- The library, part A: an abstract machine for the code of the program, and its soundness. -/
import Derived.LoopN
import Derived.Calls
import Derived.Laws.Sem
import Derived.Laws.World
import Derived.Laws.Cells
import Derived.Below
import Derived.Laws.Strings
import Derived.Laws.StructEq
import Derived.Laws.BytesString

namespace Go.Proofs.YtdjagncoefjfeaaGreat.Shv
set_option linter.all false
abbrev aj:=List UInt8
abbrev ao:=List Int
abbrev a7:=List Nat
section
def ae:=@if_pos
def al:=@if_neg
def bW:=@Bool.false_eq_true
def cc:=@List.length_append
def dQ:=@List.getElem?_eq_some_iff
def eF:=@Option.ite_none_right_eq_some
def c7:=@Bool.and_eq_true
def ei:=@List.drop_eq_nil_of_le
def bM:=@if_true
def b6:=@if_false
def dF:=@Option.some.injEq
def fb:=@List.getElem?_eq_getElem
def de:=@Bool.not_true
def c6:=@decide_false
def eZ:=@Nat.mul_le_mul_right
def e3:=@List.getElem_of_mem
def dc:=@decide_true
def fl:=@List.mem_of_getElem?
def en:=@Bool.not_false
def e4:=@decide_eq_true_eq
def dY:=@Prod.mk.injEq
def eR:=@List.mem_cons
def fc:=@List.drop_zero
def dU:=@cond_false
def gg:=@List.append_assoc
def eS:=@List.mem_map
def j4:=@List.eq_nil_of_length_eq_zero
def eI:=@Nat.le_refl
def fH:=@List.nil_append
def gh:=@List.all_eq_true
def gP:=@of_decide_eq_true
def gQ:=@List.flatMap_cons
def jB:=@List.drop_eq_getElem_cons
def ed:=@cond_true
def fg:=@Nat.le_trans
def hb:=@List.mem_append
def h8:=@List.length_cons
def dZ:=@Ne.symm
def jb:=@List.pairwise_cons
def eM:=@congrArg
def h9:=@List.append_nil
def gC:=@Nat.zero_add
def il:=@List.length_set
def jc:=@List.length_map
def k':=@beq_eq_false_iff_ne
def iJ:=@List.map_cons
def la:=@List.contains_nil
def jd:=@Bool.or_false
def mw:=@List.getD_cons_zero
def ku:=@List.length_nil
def j5:=@decide_eq_true
def oT:=@Option.map_eq_some_iff
def im:=@Nat.add_mul
def iq:=@Nat.zero_le
def mx:=@Nat.lt_of_lt_of_le
def my:=@List.contains_cons
def mz:=@Int.emod_lt_of_pos
def mA:=@List.length_drop
def nA:=@List.pairwise_map
def mB:=@Option.map_some
def mC:=@Option.some.inj
def mD:=@Int.emod_nonneg
def uN:=@List.pairwise_iff_getElem
def oU:=@Int.toNat_natCast
def jC:=@beq_iff_eq
def nB:=@Bool.or_eq_true
def qB:=@List.mem_singleton
def oV:=@Nat.mod_eq_of_lt
def w8:=@List.getElem?_append_right
def uO:=@List.take_of_length_le
def w9:=@List.getElem?_append_left
def yT:=@List.find?_eq_some_iff_getElem
def nC:=@Bool.true_and
def uP:=@List.mem_of_mem_take
def xa:=@Option.bind_eq_some_iff
def r9:=@List.getElem?_map
def qC:=@List.map_append
def r':=@List.mem_filter
def xc:=@List.mem_append_left
def xd:=@BitVec.ofInt_natCast
def xe:=@Nat.pow_le_pow_right
def qD:=@List.sum_cons
def xf:=@List.length_pos_iff
def CR:=@Option.ite_none_left_eq_some
def uQ:=@List.length_take
def uR:=@List.cons_append
def qE:=@List.map_nil
def uS:=@decide_eq_false
def sa:=@List.all_cons
def CS:=@Array.getElem?_eq_some_iff
def xg:=@Bool.not_eq_true'
def CT:=@List.exists_mem_of_ne_nil
def CU:=@List.mem_or_eq_of_mem_set
def yU:=@Bool.or_eq_false_iff
def CV:=@Array.getElem?_eq_getElem
def uT:=@List.drop_drop
def uU:=@Int.toNat_zero
def CW:=@List.getElem?_cons_zero
def CX:=@List.getElem?_cons_succ
def CY:=@Int.eq_ofNat_of_zero_le
def yK:=@List.getElem?_take
def oS:=@and_false
def yL:=@BitVec.toNat_ofNat
def yM:=@List.ext_getElem?
def CD:=@List.getElem?_toArray
def w5:=@List.nodup_nil
def uL:=@List.sum_nil
def yN:=@List.getElem_mem
def yO:=@Option.getD_some
def CE:=@List.getElem?_zipIdx
def Gp:=@List.getD_eq_getElem?_getD
def CF:=@Array.length_toList
def CG:=@List.getD_cons_succ
def CH:=@Int.toNat_of_nonneg
def yP:=@Bool.eq_iff_iff
def Gq:=@List.mem_of_find?_eq_some
def w6:=@Nat.le_of_eq
def Gr:=@List.eq_of_mem_replicate
def Gs:=@Option.isSome_iff_exists
def qA:=@and_true
def w7:=@Bool.true_or
def CI:=@List.find?_eq_none
def Gt:=@Nat.le_mul_of_pos_right
def Gu:=@List.filter_cons_of_neg
def Gv:=@List.filter_cons_of_pos
def CJ:=@Nat.lt_trichotomy
def CK:=@List.getElem?_set
def CL:=@List.range'_succ
def CM:=@Bool.cond_eq_ite
def Gw:=@Array.getElem?_modify
def Gx:=@Array.getElem?_toList
def Gy:=@Nat.le_of_ble_eq_true
def Gz:=@List.take_append_drop
def GA:=@List.mem_of_mem_drop
def yQ:=@Nat.add_zero
def yR:=@exists_false
def UI:=@List.eq_nil_iff_forall_not_mem
def GB:=@List.mem_cons_of_mem
def GC:=@List.pairwise_append
def GD:=@List.flatMap_append
def GF:=@List.filterMap_cons
def uM:=@true_and
def CN:=@Nat.mul_le_mul
def GG:=@List.mem_cons_self
def CO:=@Bool.and_true
def GH:=@List.take_add_one
def GI:=@Bool.eq_false_iff
def GJ:=@List.any_eq_false
def yS:=@Nat.mod_lt
def CP:=@Nat.sub_self
def CQ:=@Nat.zero_mul
def GK:=@List.any_eq_true
variable{c:Prop}{α a:Type}{R:α->a->Prop}
theorem fe{h:Decidable c}(a:c:=by omega){α:Sort _}{t e:α}:ite c t e=t:=if_pos a
theorem bE{h:Decidable c}(a:c:=by simp;omega){α:Sort _}{t e:α}:ite c t e=t:=if_pos a
theorem hQ{h:Decidable c}(a:c:=by simp){α:Sort _}{t e:α}:ite c t e=t:=if_pos a
theorem bl{h:Decidable c}(a:¬c:=by omega){α:Sort _}{t e:α}:ite c t e=e:=if_neg a
theorem cr{h:Decidable c}(a:¬c:=by simp;omega){α:Sort _}{t e:α}:ite c t e=e:=if_neg a
theorem bz{h:Decidable c}(a:¬c:=by simp){α:Sort _}{t e:α}:ite c t e=e:=if_neg a
theorem bB{α:Type _}{b:α}{c:Type _}{x:Option c}{f:c->α}:Option.map f x=some b↔∃a,x=some a/\f a=b:=oT
theorem bo{α:Type _}{b:α}{c:Type _}{x:Option c}{f:c->Option α}:x.bind f=some b↔∃a,x=some a/\f a=some b:=xa
theorem ak{α:Type _}{b:Type _}(a:α)(f:α->Option b):(some a).bind f=f a:=Option.bind_some ..
theorem aS.{u}{α a:Type u}:(bind:Option α->(α->Option a)->Option a)=Option.bind:=Option.bind_eq_bind
open Go
inductive T where
 |bool (b:Bool)
 |int (k:IntKind)(n:Int)
 |str (s:aj)
 |slice (es:List (List T))
inductive C where
 |t (x:T)
 |ptr (b o:Nat)
 |cH (b sz i o:Nat)
 |dJ (ts:List T)(o:Nat)
 |arr (b sz off len:Nat)
 |fI (b sz off len:Nat)
 |mp (b:Nat)
 |ev (b:Nat)
 |cL (b len:Nat)
 |aA
 |fa
 |e'
 |fn (f:Nat)(caps:a7)
 |dead
inductive V where
 |c (x:C)
 |agg (cs:List C)
 |a6 (vs:List V)
inductive bV where
 |box (cs:List C)
 |arr (sz:Nat)(es:List (List T))
 |set (ks:List aj)
 |buf (E:TypeId)(s:aj)
 |b' (E:TypeId)(c:C)
 |cA (sz:Nat)(es:List (List T))(i o:Nat)(c:C)
abbrev dS:=Nat->Nat->Prop
abbrev dz:=Nat->Nat×Nat
def eE:Nat:=9223372036854775807
def dT:Nat:=281474976710656
inductive ch (w:World)(S:dS):T->Value->Prop
 |bool (b:Bool):ch w S (.bool b) (.bool b)
 |int (k:IntKind) (n:Int):ch w S (.int k n) (.int k n)
 |str (s:ByteArray) (h:s.size<=eE):ch w S (.str s.data.toList) (.string s)
 |slice (es:List (List T)) (a:Option Addr) (cap sz b o:Nat) (f:Nat->Nat->Value)
  (ajQ:es.length<=cap) (ajU:es.length<=dT)
  (ajZ:∀e,e∈es->e.length=sz)
  (yE:es≠[]->a=some ⟨b,o,none⟩)
  (Ux:∀i j,i<es.length->j<sz->S b (o+i*sz+j)/\w.cell? ⟨b,o+i*sz+j,none⟩=some (f i j))
  (Uy:∀i j e t,es[i]?=some e->e[j]?=some t->ch w S t (f i j)):
  ch w S (.slice es) (.slice a es.length cap)
structure gq (w:World)(S:dS)(w':World)(bT:dS):Prop where
 sub:∀b j,S b j->bT b j
 cell:∀b j,S b j->w'.cell? ⟨b,j,none⟩=w.cell? ⟨b,j,none⟩
theorem gq.refl(w:World)(S:dS):gq w S w S:=⟨λ_ _ h=>h,λ_ _ _=>rfl⟩
theorem gq.trans{w S w' bT e c}(h:gq w S w' bT)(k:gq w' bT e c):gq w S e c:=
 ⟨λb j a=>k.sub b j (h.sub b j a),λb j a=>(k.cell b j (h.sub b j a)).trans (h.cell b j a)⟩
theorem ch.mono{w S w' bT}(m:gq w S w' bT){t v}(h:ch w S t v):ch w' bT t v:=by
 induction h with
 |bool b=>exact .bool b
 |int k n=>exact .int k n
 |str s h=>exact .str s h
 |slice es a cap sz b o f x y A q c B ih=>
  exact .slice es a _ sz b o f x y A q
   (λi j e p=>⟨m.sub _ _ (c i j e p).1,by rw[m.cell _ _ (c i j e p).1];grind⟩) ih
theorem ch.je{w S t v}(h:ch w S t v):v.oneCell'=true:=by cases h<;>rfl
def bq(φ:dz)(w:World)(S:dS):C->Value->Prop
 |.t x,v=>ch w S x v
 |.ptr b o,v=>v= .pointer (some ⟨(φ b).1,o,none⟩)
 |.cH b sz i o,v=>v= .pointer (some ⟨(φ b).1,i*sz+o,none⟩)
 |.dJ ts o,v=>∃ (blk off:Nat) (f:Nat->Value),v = .pointer (some ⟨blk,off+o,none⟩)/\
  ∀j t,ts[j]?=some t->S blk (off+j)/\w.cell? ⟨blk,off+j,none⟩=some (f j)/\ch w S t (f j)
 |.arr b sz off len,v=>∃a,v= .slice a len ((φ b).2-off)/\((φ b).2≠0->a=some ⟨(φ b).1,off*sz,none⟩)/\off+len<=(φ b).2
 |.fI b sz off len,v=>∃a cap,v= .slice a len cap/\(len≠0->a=some ⟨(φ b).1,off*sz,none⟩)/\len<=cap
 |.mp b,v=>v= .map (some (φ b).1)
 |.cL b len,v=>len<=(φ b).2/\((φ b).2=0->v= .slice none 0 0)/\((φ b).2≠0->v= .slice (some ⟨(φ b).1,0,none⟩) len (φ b).2)
 |.ev b,v=>∃p,v= .pointer p/\((φ b).2≠0->p=some ⟨(φ b).1,0,none⟩)
 |.aA,v=>∃a,v= .slice a 0 0
 |.fa,v=>v= .pointer none
 |.e',v=>v= .nilFunc
 |.fn f caps,v=>v= .func (.func f) #[] (caps.map λb=>Value.pointer (some ⟨(φ b).1,0,none⟩)).toArray
 |.dead,v=>v.oneCell'=true
theorem bq.je{φ w S c v}(h:bq φ w S c v):v.oneCell'=true:=by
 cases c with
 |t x=>exact ch.je h
 |dJ ts o=>obtain⟨_,_,_,rfl,_⟩:=h;rfl
 |arr b sz off len=>obtain⟨_,rfl,_⟩:=h;rfl
 |fI b sz off len=>obtain⟨_,_,rfl,_⟩:=h;rfl
 |ev b=>obtain⟨_,rfl,_⟩:=h;rfl
 |cL b len=>
  by_cases h0:(φ b).2=0
  . rw[h.2.1 h0];rfl
  . rw[h.2.2 h0];rfl
 |aA=>obtain⟨_,rfl⟩:=h;rfl
 |dead=>exact h
 |_=>cases h;rfl
def C.aF(n:Nat->Bool):C->Bool
 |.ptr b _=>n b
 |.cH b _ _ _=>n b
 |.arr b _ _ _=>n b
 |.fI b _ _ _=>n b
 |.mp b=>n b
 |.ev b=>n b
 |.cL b _=>n b
 |.fn _ caps=>caps.all λb=>n b
 |_=>true
def V.aF(n:Nat->Bool):V->Bool
 |.c x=>x.aF n
 |.agg cs=>cs.all (C.aF n)
 |.a6 vs=>V.dC n vs
where V.dC (n:Nat->Bool):List V->Bool
 |[]=>true
 |v::vs=>v.aF n&&V.dC n vs
theorem bq.mono{φ a:dz}{w S w' bT}(m:gq w S w' bT){n:Nat->Bool}(p:∀b,n b=true->a b=φ b){c v}(e:c.aF n=true)(h:bq φ w S c v):bq a w' bT c v:=by
 cases c with
 |t x=>exact ch.mono m h
 |ptr b o=>grind[C.aF,bq]
 |cH b sz i o=>grind[C.aF,bq]
 |dJ ts o=>
  obtain⟨blk,off,f,rfl,aa⟩:=h;exact⟨blk,off,f,rfl,λj t ht=>⟨m.sub _ _ (aa j t ht).1,by rw[m.cell _ _ (aa j t ht).1];grind,ch.mono m (aa j t ht).2.2⟩⟩
 |arr b sz off len=>grind[C.aF,bq]
 |fI b sz off len=>grind[C.aF,bq]
 |mp b=>grind[C.aF,bq]
 |ev b=>grind[C.aF,bq]
 |cL b len=>grind[C.aF,bq]
 |aA=>exact h
 |fa=>exact h
 |e'=>exact h
 |fn f caps=>
  grind[bq,List.map_congr_left,C.aF]
 |dead=>exact h
inductive a' {α β:Type}(R:α->β->Prop):List α->List β->Prop
 |nil:a' R [] []
 |cons {a b l m}:R a b->a' R l m->a' R (a::l) (b::m)
variable{e:Type}
theorem a'.imp{R R':α->e->Prop}{l m}(h:a' R l m)(k:∀a b,a∈l->R a b->R' a b):a' R' l m:=by
 induction h with
 |nil=>exact .nil
 |cons c _ ih=>exact .cons (k _ _ (by simp) c) (ih λa b f=>k a b (by grind))
theorem a'.length{l:List α}{m:List a}(h:a' R l m):l.length=m.length:=by
 induction h<;>grind
theorem a'.get{c:Type}{R:α->c->Prop}{l:List α}{m:List c}(h:a' R l m){i:Nat}{a:α}(e:l[i]?=some a):∃b,m[i]?=some b/\R a b:=by
 induction h generalizing i<;>grind
theorem a'.lM{c:Type}{R:α->c->Prop}:∀{l:List α} {m:List c},l.length=m.length->(∀(i:Nat) a b,l[i]?=some a->m[i]?=some b->R a b)->a' R l m
 |[],[],_,_=>.nil
 |[],_::_,h,_=>by grind
 |_::_,[],h,_=>by grind
 |a::l,b::m,h,k=>.cons (k 0 a b (by rfl) (by rfl)) (a'.lM (by grind) λi x y e f=>k (i+1) x y (by grind) (by grind))
theorem a'.append{R:α->e->Prop}{l a:List α}{m c:List e}(h:a' R l m)(j:a' R a c):a' R (l++a) (m++c):=by
 induction h with
 |nil=>grind
 |cons f _ ih=>exact .cons f ih
theorem a'.drop{l:List α}{m:List a}(h:a' R l m)(k:Nat):a' R (l.drop k) (m.drop k):=by
 induction h generalizing k with
 |nil=>simp;exact .nil
 |cons c ht ih=>cases k with
  |zero=>exact .cons c ht
  |succ k=>grind
theorem a'.take{l:List α}{m:List a}(h:a' R l m)(k:Nat):a' R (l.take k) (m.take k):=by
 induction h generalizing k with
 |nil=>simp;exact .nil
 |cons c _ ih=>cases k with
  |zero=>exact .nil
  |succ k=>exact .cons c (ih k)
inductive ck (φ:dz)(w:World)(S:dS):V->Value->Prop
 |c {x v}:bq φ w S x v->ck φ w S (.c x) v
 |agg {cs vs}:a' (bq φ w S) cs vs->ck φ w S (.agg cs) (.agg vs.toArray)
 |a6 (vs:List V) (xs:List Value) (ah:vs.length = xs.length) (h:∀ (i:Nat) v x,vs[i]? = some v->xs[i]? = some x->ck φ w S v x):
  ck φ w S (.a6 vs) (.tuple xs.toArray)
theorem oK{n:Nat->Bool}:∀{vs:List V} {i:Nat} {v:V},V.aF.V.dC n vs=true->vs[i]?=some v->v.aF n=true
 |[],_,_,_,h=>by grind
 |x::vs,0,v,a,h=>by grind[V.aF.V.dC]
 |x::vs,i+1,v,a,h=>by simp[V.aF.V.dC]at a;exact oK a.2 (by simpa using h)
theorem ck.mono{φ j:dz}{w S w' bT}(m:gq w S w' bT){n:Nat->Bool}(f:∀b,n b=true->j b=φ b){x v}(t:V.aF n x=true)(h:ck φ w S x v):ck j w' bT x v:=by
 induction h with
 |c h=>exact .c (bq.mono m f (by grind[V.aF]) h)
 |agg h=>exact .agg (h.imp λa b q o=>bq.mono m f (by grind[V.aF]) o)
 |a6 vs xs ah h ih=>exact .a6 vs xs ah λi v x e p=>ih i v x e p (oK (by grind[V.aF]) e)
end
section
open Go
inductive aU where
 |tmp (t:Nat)
 |const (v:V)
inductive cN where
 |mov (x:aU)
 |pick (c x y:aU)
 |alloc (cs:List C)
 |box (x:aU)
 |build (zero:List C)(parts:List (Nat×Nat×aU))
 |bslice (sz:Nat)(len:Nat)(zero:List C)(parts:List (Nat×aU))
 |load (agg:Bool)(n:Nat)(x:aU)
 |store (n:Nat)(x v:aU)
 |nilCheck (x:aU)
 |bin (op:BinOp)(x y:aU)
 |eqAgg (neg:Bool)(ks:a7)(x y:aU)
 |eqBool (neg:Bool)(x y:aU)
 |eqNil (neg:Bool)(x:aU)
 |not (x:aU)
 |conv (k:IntKind)(x:aU)
 |i2s (x:aU)
 |s2s (x:aU)
 |fldA (off:Nat)(x:aU)
 |fld (agg:Bool)(off n:Nat)(x:aU)
 |idxA (sz:Nat)(x i:aU)
 |idxS (x i:aU)
 |slcS (x:aU)(oR Cy:Option aU)
 |slc (sz:Nat)(x:aU)(oR Cy:Option aU)
 |slc0 (x:aU)
 |allocA (cs:List C)
 |idxP (n:Nat)(x i:aU)
 |idxV (n:Nat)(x i:aU)
 |mslice (sz bytes:Nat)(zero:List C)(x:aU)
 |slcP (n:Nat)(x:aU)(oR Cy:Option aU)
 |b2s (x:aU)
 |allocS (e e8:Nat)
 |bsliceT (e sz len:Nat)(zero:List C)(parts:List (Nat×aU))
 |mkset
 |lkset (x k:aU)
 |upset (x k:aU)
 |appendB (e bytes:Nat)(x y:aU)
 |sdata (x:aU)
 |ustr (e:Nat)(x n:aU)
 |mkfn (f:Nat)(caps:List aU)
 |ext (x:aU)(i:Nat)
 |len (str:Bool)(x:aU)
 |append (sz bytes:Nat)(x y:aU)
 |max2 (x y:aU)
 |min2 (x y:aU)
 |call (f:Nat)(args:List aU)
 |ic (x:aU)(args:List aU)
structure ca where
 dst:Option Nat
 op:cN
 guard:Option (Nat×Bool)
def CZ:Value->Option C
 |.bool b=>some (.t (.bool b))
 |.int k n=>some (.t (.int k n))
 |.string s=>if s.size<=eE then some (.t (.str s.data.toList))else none
 |.slice none 0 0=>some .aA
 |.pointer none=>some .fa
 |.nilFunc=>some .e'
 |.nilIface=>some .dead
 |_=>none
def w1:List Value->Option (List C)
 |[]=>some []
 |v::vs=>(CZ v).bind λc=>(w1 vs).map (c::·)
def Kj:Value->Option V
 |.agg cs=>(w1 cs.toList).map .agg
 |v=>(CZ v).map .c
def bG:Operand->Option aU
 |.tmp t=>some (.tmp t)
 |.const v=>(Kj v).map .const
 |.func f=>some (.const (.c (.fn f [])))
 |.global _=>none
def nD:List Operand->Option (List aU)
 |[]=>some []
 |x::xs=>(bG x).bind λa=>(nD xs).map (a::·)
def kv:Option Operand->Option (Option aU)
 |none=>some none
 |some x=>(bG x).map some
def kb(P:Program)(t:TypeId):Option (List C):=
 (P.info? t).bind λi=>i.zero.bind λz=>w1 z.cells.toList
def qq(P:Program)(t:TypeId):Option Bool:=
 match P.underlying t with
 |some (.struct _)|some (.array _ _)=>some true
 |some _=>some false
 |none=>none
def eu(P:Program)(t:TypeId):Option Nat:=(P.info? t).map (·.size)
def ou(P:Program)(t:TypeId):Option (Bool×Nat):=
 (qq P t).bind λg=>(eu P t).bind λn=>if g=false->n=1 then some (g,n)else none
def hG(P:Program)(f:Nat):Bool:=
 match P.funcs[f]? with
 |some fn=>fn.body.isSome && !(fn.name == "runtime.NumGoroutine")
 |none=>false
def s8(P:Program)(t:TypeId):Option Nat:=
 match P.underlying t with
 |some .bool=>some 0
 |some (.int _)=>some 1
 |some .string=>some 2
 |_=>none
def zC(P:Program):Nat->List Field->Option a7
 |_,[]=>some []
 |i,f::fs=>if f.offset = i/\f.name≠ "_" then (s8 P f.type).bind λk=>(zC P (i+1) fs).map (k :: ·) else none
def Iu(P:Program)(t:TypeId):Option a7:=
 match P.underlying t with
 |some (.struct fs)=>if P.stoodInHeld t=false/\P.eqGuardType P.depth t=false then zC P 0 fs.toList else none
 |_=>none
def Kk(P:Program)(t:TypeId):Option a7:=
 match P.underlying t with
 |some (.array n e)=>if eu P e=some 1/\P.eqGuardType P.depth t=false then(s8 P e).map (List.replicate n)else none
 |_=>none
def I3(P:Program)(fs:Array Field):Bool:=fs.toList.all λf=>(eu P f.type).isSome
def wi(P:Program)(fs:Array Field):List (Nat×Operand)->Option (List (Nat×Nat×aU))
 |[]=>some []
 |(j,x)::r=>(fs[j]?).bind λf=>(eu P f.type).bind λn=>(bG x).bind λa=>(wi P fs r).map ((f.offset,n,a)::·)
def xn(n:Nat):List (Nat×Operand)->Option (List (Nat×Nat×aU))
 |[]=>some []
 |(j,x)::r=>(bG x).bind λa=>(xn n r).map ((j*n,n,a)::·)
def qk:List (Nat×Operand)->Option (List (Nat×aU))
 |[]=>some []
 |(j,x)::r=>(bG x).bind λa=>(qk r).map ((j,a)::·)
def np(P:Program)(c:Call):Option cN:=
 match c.callee with
 |.builtin .len=>match c.args.toList,c.argTypes.toList with
  |[x],[t]=>match P.underlying t with
   |some .string=>(bG x).map (.len true)
   |some (.slice _)=>(bG x).map (.len false)
   |_=>none
  |_,_=>none
 |.builtin .append=>match c.args.toList,c.argTypes.toList with
  |[x,y],[t,u]=>match P.underlying t,P.underlying u with
   |some (.slice e),some .string=>(P.info? e).bind λi=>(bG x).bind λa=>(bG y).bind λb=>
    if i.size=1/\(i.zero.map (·.cells.size))=some 1/\(match P.underlying e with|some (.int .u8)=>true|_=>false)=true then some (.appendB e i.bytes a b)else none
   |some (.slice e),some (.slice _)=>(P.info? e).bind λi=>(bG x).bind λa=>(bG y).bind λb=>
    if i.size≠0/\(i.zero.map (·.cells.size))=some i.size then some (.append i.size i.bytes a b)else none
   |_,_=>none
  |_,_=>none
 |.builtin .max=>match c.args.toList with
  |[x,y]=>(bG x).bind λa=>(bG y).map λb=>.max2 a b
  |_=>none
 |.builtin .min=>match c.args.toList with
  |[x,y]=>(bG x).bind λa=>(bG y).map λb=>.min2 a b
  |_=>none
 |.builtin .unsafeSliceData=>match c.args.toList,c.argTypes.toList with
  |[x],[t]=>match P.underlying t with
   |some (.slice e)=>if eu P e=some 1 then(bG x).map .sdata else none
   |_=>none
  |_,_=>none
 |.builtin .unsafeString=>match c.args.toList,c.argTypes.toList with
  |[x,n],[t,_]=>match P.underlying t with
   |some (.pointer e)=>if(match P.underlying e with|some (.int .u8)=>true|_=>false)=true/\eu P e=some 1/\P.cellsOf e=1 then(bG x).bind λa=>(bG n).map λb=>.ustr e a b else none
   |_=>none
  |_,_=>none
 |.value (.func f)=>if hG P f then(nD c.args.toList).map (.call f)else none
 |.value (.tmp t)=>(nD c.args.toList).map (.ic (.tmp t))
 |_=>none
def abq(P:Program)(t:TypeId):Bool:=
 match P.info? t with
 |some i=>(match i.desc with|.named n _=>n == "strings.Builder" |_=>false)
 |none=>false
def LN:List Value->Bool
 |[.pointer none,.slice none 0 0]=>true
 |_=>false
def Qy(P:Program)(t:TypeId):Bool:=
 match (P.info? t).bind (·.zero)with
 |some z=>LN z.cells.toList
 |none=>false
def Ak(P:Program)(t:TypeId):Option Nat:=
 if abq P t=true/\Qy P t=true then match P.underlying t with
  |some (.struct fs)=>(fs[1]?).bind λf=>match P.underlying f.type with
   |some (.slice e)=>some e
   |_=>none
  |_=>none
 else none
def uD(P:Program)(t:TypeId):Bool:=
 match P.underlying t with
 |some (.map k v)=>(match P.underlying k,P.underlying v with|some .string,some .bool=>true|_,_=>false)&&(match (P.info? v).bind (·.zero)with|some (.bool false)=>true|_=>false)
 |_=>false
def I4:Operand->Bool
 |.const (.bool true)=>true
 |_=>false
def Iv:Operand->Bool
 |.const (.slice none 0 0)=>true
 |_=>false
def G5:Operand->Operand->Bool
 |.tmp s,.tmp t=>s==t
 |_,_=>false
def c4(P:Program)(o:Op):Option cN:=
 match o with
 |.move x|.assign x=>(bG x).map .mov
 |.pick c a b=>(bG c).bind λc=>(bG a).bind λa=>(bG b).map λb=>.pick c a b
 |.alloc e=>match Ak P e with
  |some e8=>some (.allocS e e8)
  |none=>(kb P e).bind λcs=>match P.underlying e with
   |some (.array n t)=>if eu P t=some 1/\n=cs.length/\n≠0/\n<=2^24 then some (.allocA cs)else some (.alloc cs)
   |_=>some (.alloc cs)
 |.box _ x=>(bG x).map .box
 |.build t parts=>match P.underlying t with
  |some (.struct fs)=>if I3 P fs then(kb P t).bind λz=>(wi P fs parts.toList).map λps=>.build z ps else none
  |some (.array _ e)=>(kb P t).bind λz=>(eu P e).bind λn=>(xn n parts.toList).map λps=>.build z ps
  |_=>none
 |.buildSlice t len parts=>match P.underlying t with
  |some (.slice e)=>(eu P e).bind λn=>(kb P e).bind λz=>(qk parts.toList).bind λps=>
   if n≠0/\z.length=n/\len*n<=2^24 then some (.bslice n len z ps)else none
  |_=>none
 |.load t a=>(ou P t).bind λg=>(bG a).map λx=>.load g.1 g.2 x
 |.store t a v=>(eu P t).bind λn=>(bG a).bind λx=>(bG v).map λy=>.store n x y
 |.nilCheck x=>(bG x).map .nilCheck
 |.binOp op t x y _=>
  if op= .eql\/op= .neq then match P.underlying t with
   |some (.array _ _)=>(Kk P t).bind λks=>(bG x).bind λa=>(bG y).map λb=>.eqAgg (op== .neq) ks a b
   |some (.struct _)=>(Iu P t).bind λks=>(bG x).bind λa=>(bG y).map λb=>.eqAgg (op== .neq) ks a b
   |some (.slice _)=>if Iv y then(bG x).map (.eqNil (op== .neq))else none
   |some .bool=>(bG x).bind λa=>(bG y).map λb=>.eqBool (op== .neq) a b
   |some (.int _)|some .string=>(bG x).bind λa=>(bG y).map λb=>.bin op a b
   |_=>none
  else(bG x).bind λa=>(bG y).map λb=>.bin op a b
 |.unOp .not _ x=>(bG x).map .not
 |.unOp .neg t x=>match P.underlying t with
  |some (.int k)=>(bG x).map (.bin .sub (.const (.c (.t (.int k 0)))))
  |_=>none
 |.unOp .xor t x=>match P.underlying t with
  |some (.int k)=>(bG x).map (.bin .xor (.const (.c (.t (.int k (if k.signed then -1 else k.max))))))
  |_=>none
 |.convert s d x=>match P.underlying s,P.underlying d with
  |some (.int _),some (.int k)=>(bG x).map (.conv k)
  |some (.int _),some .string=>(bG x).map .i2s
  |some .string,some .string=>(bG x).map .s2s
  |some (.slice e),some .string=>if(match P.underlying e with|some (.int .u8)=>true|_=>false)=true/\eu P e=some 1 then(bG x).map .b2s else none
  |_,_=>none
 |.fieldAddr t x f=>match P.underlying t with
  |some (.struct fs)=>(fs[f]?).bind λj=>(eu P j.type).bind λn=>if n=0 then none else(bG x).map (.fldA j.offset)
  |_=>none
 |.field t x f=>match P.underlying t with
  |some (.struct fs)=>(fs[f]?).bind λj=>(ou P j.type).bind λg=>(bG x).map (.fld g.1 j.offset g.2)
  |_=>none
 |.indexAddr t x i=>match P.underlying t with
  |some (.slice e)=>(eu P e).bind λn=>if n=0 then none else(bG x).bind λa=>(bG i).map λb=>.idxA n a b
  |some (.array n e)=>match i with
   |.const (.int _ m)=>if 0<=m/\m.toNat<n then(eu P e).bind λs=>(bG x).map (.fldA (m.toNat*s))else none
   |i=>if eu P e=some 1 then(bG x).bind λa=>(bG i).map λb=>.idxP n a b else none
  |_=>none
 |.index t x i=>match P.underlying t with
  |some .string=>(bG x).bind λa=>(bG i).map λb=>.idxS a b
  |some (.array n e)=>if ou P e=some (false,1)then(bG x).bind λa=>(bG i).map λb=>.idxV n a b else none
  |_=>none
 |.slice t x q p r=>match P.underlying t with
  |some .string=>if r.isNone then(bG x).bind λa=>(kv q).bind λl=>(kv p).map λh=>.slcS a l h else none
  |some (.slice e)=>match r with
   |none=>(eu P e).bind λn=>if n=0 then none else(bG x).bind λa=>(kv q).bind λl=>(kv p).map λh=>.slc n a l h
   |some (.const (.int _ 0))=>match q,p with
    |none,some (.const (.int _ 0))=>if(eu P e).isSome then(bG x).map .slc0 else none
    |_,_=>none
   |_=>none
  |some (.array n e)=>if r.isNone/\eu P e=some 1 then(bG x).bind λa=>(kv q).bind λl=>(kv p).map λh=>.slcP n a l h else none
  |_=>none
 |.makeFunc (.func f) first caps=>if first.isEmpty then(nD caps.toList).map (.mkfn f)else none
 |.extract x i=>(bG x).map λa=>.ext a i
 |.makeSlice t x y=>match P.underlying t with
  |some (.slice e)=>if G5 x y then(P.info? e).bind λi=>(kb P e).bind λz=>if i.size≠0/\z.length=i.size then(bG x).map (.mslice i.size i.bytes z)else none else none
  |_=>none
 |.makeMap t none=>if uD P t then some .mkset else none
 |.lookup t x i false=>if uD P t then(bG x).bind λa=>(bG i).map λb=>.lkset a b else none
 |.mapUpdate t m k v=>if uD P t=true/\I4 v=true then(bG m).bind λa=>(bG k).map λb=>.upset a b else none
 |.call c=>np P c
 |_=>none
def uo(ops:Array Oper):Option (Nat×Bool)->Option (Option (Nat×Bool))
 |none=>some none
 |some (j,b)=>((ops[j]?).bind (·.dst)).map λd=>some (d,b)
def vG(d:Nat):Operand->Bool
 |.tmp t=>t==d
 |_=>false
def Aw(d:Nat):Op->Bool
 |.call c=>match c.callee with
  |.builtin .append=>(c.args.toList.drop 1).any (vG d)
  |.value (.func _)=>c.args.toList.any (vG d)
  |_=>false
 |.build _ ps=>ps.toList.any λp=>vG d p.2
 |.buildSlice _ _ ps=>ps.toList.any λp=>vG d p.2
 |.convert _ _ x=>vG d x
 |.indexAddr _ x _=>vG d x
 |_=>false
def M8(ops:Array Oper)(o:Oper):Bool:=
 match o.dst with
 |some d=>ops.toList.any λq=>Aw d q.op
 |none=>false
def wj(P:Program)(a:Bool)(o:Op):Option cN:=
 match o,a with
 |.buildSlice t len parts,true=>match P.underlying t with
  |some (.slice e)=>(eu P e).bind λn=>(kb P e).bind λz=>(qk parts.toList).bind λps=>
   if n≠0/\z.length=n/\len*n<=2^24 then some (.bsliceT e n len z ps)else none
  |_=>none
 |o,_=>c4 P o
def wc(P:Program)(nt:Nat)(ops:Array Oper)(o:Oper):Option ca:=
 (wj P (M8 ops o) o.op).bind λp=>(uo ops o.guard).bind λg=>
  match o.dst with
  |none=>some ⟨none,p,g⟩
  |some d=>if d<nt then some ⟨some d,p,g⟩else none
def jt(P:Program)(nt:Nat)(ops:Array Oper):List Oper->Option (List ca)
 |[]=>some []
 |o::r=>(wc P nt ops o).bind λa=>(jt P nt ops r).map (a::·)
inductive dw where
 |skip
 |region (ops:List ca)
 |oW (ops:List ca)(gf:List (Nat×Nat))
 |seq (a b:dw)
 |cond (c:aU)(x y:dw)
 |block (id:Nat)(b:dw)
 |loop (b:dw)
 |exit (id:Nat)
 |ret
def cN.neutral:cN->Bool
 |.alloc _|.allocA _|.box _|.bslice .. |.mslice .. |.store .. |.append .. |.call .. |.ic .. |.eqNil .. =>false
 |.allocS .. |.mkset|.upset .. |.appendB .. |.ustr .. =>false
 |_=>true
def cN.ib:cN->Bool
 |.alloc _|.allocA _|.b2s _|.box _|.bslice .. |.mslice .. |.store .. |.append .. |.load .. =>true
 |.allocS .. |.mkset|.lkset .. |.upset .. |.appendB .. |.ustr .. |.call .. =>true
 |_=>false
def cN.drawn:cN->Bool
 |.eqNil .. =>false
 |_=>true
def aU.tmps:aU->a7
 |.tmp t=>[t]
 |.const _=>[]
def uK:Option aU->a7
 |none=>[]
 |some x=>x.tmps
def cN.reads:cN->a7
 |.mov x=>x.tmps
 |.pick c x y=>c.tmps++x.tmps++y.tmps
 |.alloc _|.allocA _=>[]
 |.box x=>x.tmps
 |.build _ ps=>ps.flatMap λp=>p.2.2.tmps
 |.bslice _ _ _ ps=>ps.flatMap λp=>p.2.tmps
 |.load _ _ x=>x.tmps
 |.store _ x v=>x.tmps++v.tmps
 |.nilCheck x=>x.tmps
 |.bin _ x y=>x.tmps++y.tmps
 |.eqAgg _ _ x y=>x.tmps++y.tmps
 |.eqBool _ x y=>x.tmps++y.tmps
 |.eqNil _ x=>x.tmps
 |.not x=>x.tmps
 |.conv _ x=>x.tmps
 |.i2s x=>x.tmps
 |.s2s x=>x.tmps
 |.fldA _ x=>x.tmps
 |.fld _ _ _ x=>x.tmps
 |.idxA _ x i=>x.tmps++i.tmps
 |.idxS x i=>x.tmps++i.tmps
 |.slcS x e a=>x.tmps++uK e++uK a
 |.slc _ x e a=>x.tmps++uK e++uK a
 |.slc0 x=>x.tmps
 |.b2s x=>x.tmps
 |.allocS .. |.mkset=>[]
 |.bsliceT _ _ _ _ ps=>ps.flatMap λp=>p.2.tmps
 |.lkset x k=>x.tmps++k.tmps
 |.upset x k=>x.tmps++k.tmps
 |.appendB _ _ x y=>x.tmps++y.tmps
 |.sdata x=>x.tmps
 |.ustr _ x k=>x.tmps++k.tmps
 |.idxP _ x i=>x.tmps++i.tmps
 |.idxV _ x i=>x.tmps++i.tmps
 |.mslice _ _ _ x=>x.tmps
 |.slcP _ x e a=>x.tmps++uK e++uK a
 |.mkfn _ caps=>caps.flatMap aU.tmps
 |.ext x _=>x.tmps
 |.len _ x=>x.tmps
 |.append _ _ x y=>x.tmps++y.tmps
 |.max2 x y=>x.tmps++y.tmps
 |.min2 x y=>x.tmps++y.tmps
 |.call _ args=>args.flatMap aU.tmps
 |.ic x args=>x.tmps++args.flatMap aU.tmps
def ca.rd(o:ca):a7:=o.op.reads++(match o.guard with|none=>[]|some (t,_)=>[t])
def hq(o:Oper):a7:=(o.after.toList.filter (Region.binds .any)).map (·.on)
def ahead(l:List (ca×a7))(j i:Nat):Bool:=decide (j<i)&&((l[i]?).map λx=>x.2.contains j).getD false
def El:Nat->List (ca×a7)->Bool
 |_,[]=>true
 |i,x::r=>x.2.all (· < i)&&El (i+1) r
def U8(l:List (ca×a7)):Bool:=
 l.zipIdx.all λx=>l.zipIdx.all λy=>
  match y.1.1.dst with
  |none=>true
  |some d=>(!(x.1.1.rd.contains d)||ahead l y.2 x.2||(x.1.1.op.neutral && !x.1.1.op.ib&&ahead l x.2 y.2))&&(x.2==y.2 || !(x.1.1.dst==some d))
def nV:List (ca×a7)->List a7->List a7
 |[],acc=>acc
 |x::r,acc=>nV r (acc++[(x.2++x.2.flatMap λe=>acc.getD e []).eraseDups])
def ov(a:List a7)(j i:Nat):Bool:=decide (j<i)&&(a.getD i []).contains j
def FP(a:List a7)(l:List (ca×a7)):List (Nat×Nat):=
 l.zipIdx.flatMap λx=>if x.1.1.op.neutral then[]else l.zipIdx.filterMap λy=>
  if y.1.1.op.ib && !(x.2==y.2) && !(ov a x.2 y.2) && !(ov a y.2 x.2)then some (x.2,y.2)else none
def lE(l:List (ca×a7)):List (Nat×Nat):=FP (nV l []) l
def ER(l:List (ca×a7)):Bool:=(List.range (l.length-1)).all λi=>l.zipIdx.any λy=>decide (i<y.2)&&y.1.2.contains i
def t'(l:List (ca×a7)):Bool:=El 0 l&&U8 l&&l.all λx=>x.1.op.drawn
def sP(l:List (ca×a7)):List (Nat×Nat):=
 if decide (2<=l.length)&&ER l&&t' l.dropLast then(l.length,0)::(lE l++lE l.dropLast)else lE l
def fx(ops:Array Oper)(bb:List ca):List (ca×a7):=bb.zip (ops.toList.map hq)
def resolve(P:Program)(nt:Nat):Code->Option dw
 |.skip=>some .skip
 |.region _ ops d=>(jt P nt ops ops.toList).bind λbb=>
  if d then(if t' (fx ops bb)&&P.follows .mixedOrders then some (.oW bb (sP (fx ops bb)))else none)else some (.region bb)
 |.seq a b=>(resolve P nt a).bind λx=>(resolve P nt b).map λy=>.seq x y
 |.cond c a b=>(bG c).bind λo=>(resolve P nt a).bind λx=>(resolve P nt b).map λy=>.cond o x y
 |.block id b=>(resolve P nt b).map (.block id)
 |.loop b=>(resolve P nt b).map .loop
 |.exit id=>some (.exit id)
 |.ret=>some .ret
 |_=>none
abbrev Env:=List (Nat×Bool×V)
abbrev ba:=List (Nat×bV)
def look:Env->Nat->Option (Bool×V)
 |[],_=>none
 |(k,x)::r,i=>if k=i then some x else look r i
def aY:ba->Nat->Option bV
 |[],_=>none
 |(k,x)::r,i=>if k=i then some x else aY r i
def c9:ba->Nat->bV->ba
 |[],b,x=>[(b,x)]
 |(k,y)::r,b,x=>if k=b then(k,x)::r else(k,y)::c9 r b x
def ia:ba->Nat->ba
 |[],_=>[]
 |(k,y)::r,b=>if k=b then ia r b else(k,y)::ia r b
theorem c0(J:ba)(b:Nat)(x:bV)(i:Nat):aY (c9 J b x) i=if b=i then some x else aY J i:=by
 induction J with
 |nil=>rfl
 |cons y r ih=>
  obtain⟨k,y⟩:=y;by_cases a:k=b
  . grind[c9,aY]
  . simp[c9,al a,aY];grind
theorem fN(J:ba)(b:Nat)(i:Nat):aY (ia J b) i=if b=i then none else aY J i:=by
 induction J with
 |nil=>simp[ia,aY]
 |cons y r ih=>
  obtain⟨k,y⟩:=y;by_cases a:k=b
  . grind[ia,aY]
  . simp[ia,al a,aY];grind
def aU.get(env:Env):aU->Option (Prop×V)
 |.const v=>some (True,v)
 |.tmp t=>(look env t).map λx=>(x.1=true,x.2)
def hP(env:Env):List aU->Option (Prop×List V)
 |[]=>some (True,[])
 |x::xs=>(x.get env).bind λa=>(hP env xs).map λb=>(a.1/\b.1,a.2::b.2)
def j2(env:Env):Option aU->Option (Prop×Option Int)
 |none=>some (True,none)
 |some x=>(x.get env).bind λa=>match a.2 with
  |.c (.t (.int _ n))=>some (a.1,some n)
  |_=>none
def qs:V->Option (List C)
 |.c x=>some [x]
 |.agg cs=>some cs
 |.a6 _=>none
def toT:C->Option T
 |.t x=>some x
 |.aA=>some (.slice [])
 |_=>none
def toTs:List C->Option (List T)
 |[]=>some []
 |c::cs=>(toT c).bind λt=>(toTs cs).map (t::·)
def el(es:List (List T))(i:Nat):List T:=es.getD i []
def vA(a:List C)(off:Nat)(cs:List C):List C:=a.take off++cs++a.drop (off+cs.length)
def lF(env:Env):List C->List (Nat×Nat×aU)->Option (Prop×List C)
 |c,[]=>some (True,c)
 |c,(off,n,x):: r=>(x.get env).bind λa=>(qs a.2).bind λcs=>
  if cs.length=n/\off+n<=c.length then(lF env (vA c off cs) r).map λb=>(a.1/\b.1,b.2)else none
def jY(env:Env)(sz:Nat):List (List T)->List (Nat×aU)->Option (Prop×List (List T))
 |es,[]=>some (True,es)
 |es,(i,x):: r=>(x.get env).bind λa=>(qs a.2).bind λcs=>(toTs cs).bind λts=>
  if ts.length=sz/\i<es.length then(jY env sz (es.set i ts) r).map λb=>(a.1/\b.1,b.2)else none
def qR:BinOp->T->T->Option (Prop×T)
 |.add,.int k a,.int c b=>if k=c then some (True,.int k (k.wrap (a+b)))else none
 |.sub,.int k a,.int c b=>if k=c then some (True,.int k (k.wrap (a-b)))else none
 |.mul,.int k a,.int c b=>if k=c then some (True,.int k (k.wrap (a*b)))else none
 |.quo,.int k a,.int c b=>if k=c then some (b≠0,.int k (k.wrap (a.tdiv b)))else none
 |.rem,.int k a,.int c b=>if k=c then some (b≠0,.int k (a.tmod b))else none
 |.and,.int k a,.int c b=>if k=c then some (True,.int k (k.wrap (BitVec.ofInt k.bits a &&& BitVec.ofInt k.bits b).toNat))else none
 |.or,.int k a,.int c b=>if k=c then some (True,.int k (k.wrap (BitVec.ofInt k.bits a ||| BitVec.ofInt k.bits b).toNat))else none
 |.xor,.int k a,.int c b=>if k=c then some (True,.int k (k.wrap (BitVec.ofInt k.bits a ^^^ BitVec.ofInt k.bits b).toNat))else none
 |.andNot,.int k a,.int c b=>if k=c then some (True,.int k (k.wrap (BitVec.ofInt k.bits a &&& ~~~ BitVec.ofInt k.bits b).toNat))else none
 |.shl,.int k a,.int _ b=>some (0<=b,.int k (k.wrap (a*2^min b.toNat k.bits)))
 |.shr,.int k a,.int _ b=>some (0<=b,.int k (a.fdiv (2^min b.toNat k.bits)))
 |.eql,.int k a,.int c b=>if k=c then some (True,.bool (decide (a=b)))else none
 |.neq,.int k a,.int c b=>if k=c then some (True,.bool (!decide (a=b)))else none
 |.lss,.int k a,.int c b=>if k=c then some (True,.bool (decide (a<b)))else none
 |.leq,.int k a,.int c b=>if k=c then some (True,.bool (decide (a<=b)))else none
 |.gtr,.int k a,.int c b=>if k=c then some (True,.bool (decide (b<a)))else none
 |.geq,.int k a,.int c b=>if k=c then some (True,.bool (decide (b<=a)))else none
 |.add,.str a,.str b=>some (a.length+b.length<=eE,.str (a++b))
 |.eql,.str a,.str b=>some (True,.bool (decide (a=b)))
 |.neq,.str a,.str b=>some (True,.bool (!decide (a=b)))
 |.lss,.str a,.str b=>some (True,.bool (Op.bytesLess a b))
 |.leq,.str a,.str b=>some (True,.bool (Op.bytesLess a b||decide (a=b)))
 |.gtr,.str a,.str b=>some (True,.bool (!(Op.bytesLess a b||decide (a=b))))
 |.geq,.str a,.str b=>some (True,.bool (!(Op.bytesLess a b)))
 |_,_,_=>none
def Cu:Nat->T->T->Option Bool
 |0,.bool a,.bool b=>some (a==b)
 |1,.int k a,.int c b=>if k=c then some (decide (a=b))else none
 |2,.str a,.str b=>some (decide (a=b))
 |_,_,_=>none
def ml:a7->List C->List C->Option Bool
 |[],[],[]=>some true
 |k::ks,.t x::xs,.t y::a=>(Cu k x y).bind λb=>(ml ks xs a).map λr=>b&&r
 |_,_,_=>none
abbrev BO:=Option (Prop×V×ba)
def loadT(agg:Bool)(n:Nat)(ts:List T)(o:Nat):Option V:=
 if agg then(if o+n<=ts.length then some (.agg (((ts.drop o).take n).map .t))else none)else(ts[o]?).map λt=>.c (.t t)
def j3(agg:Bool)(n:Nat)(cs:List C)(o:Nat):Option V:=
 if agg then(if o+n<=cs.length then some (.agg ((cs.drop o).take n))else none)else(cs[o]?).map .c
def hF:Nat:=281474976710656
def l0(n bytes:Nat):Prop:=(2*n+192)*bytes<=hF\/(n+n/4+512)*bytes<=hF
def mJ(J:ba):V->Option (List (List T)×Option Nat)
 |.c (.t (.slice a))=>some (a,none)
 |.c .aA=>some ([],none)
 |.c (.arr b d off len)=>match aY J b with
  |some (.arr e a)=>if d=e/\off=0/\len=a.length then some (a,some b)else none
  |_=>none
 |_=>none
def bytesOf:List (List T)->Option aj
 |[]=>some []
 |[.int .u8 m]::r=>(bytesOf r).map λs=>UInt8.ofNat m.toNat::s
 |_=>none
def nU(J:ba):V->Option (Prop×aj)
 |.c (.t (.slice es))=>(bytesOf es).map λs=>(True,s)
 |.c .aA=>some (True,[])
 |.c (.arr b 1 off len)=>match aY J b with
  |some (.arr 1 es)=>(bytesOf ((es.drop off).take len)).map λs=>(off+len<=es.length,s)
  |_=>none
 |.c (.fI b 1 off len)=>match aY J b with
  |some (.arr 1 es)=>(bytesOf ((es.drop off).take len)).map λs=>(off+len<=es.length,s)
  |_=>none
 |_=>none
def jz(ks:List aj)(s:aj):Bool:=ks.any λk=>decide (k=s)
def iN(ks:List aj)(s:aj):List aj:=if jz ks s then ks else ks++[s]
def yV:List C->Option C
 |[.arr b sz off len]=>some (.arr b sz off len)
 |_=>none
def oZ:V->V->Option (Nat×Nat×Nat×Nat×Nat×Nat×Nat)
 |.c (.arr b sz off len),.c (.fI a f e d)=>if b=a then some (b,sz,off,len,f,e,d)else none
 |_,_=>none
def vl(J:ba)(n sz:Nat)(p q:Prop):Nat×Nat×Nat×Nat×Nat×Nat×Nat->BO
 |(b,s1,off,len,e,d,a)=>match aY J b with
  |some (.arr f es)=>some (p/\q/\s1 = sz/\e = sz/\f = sz/\off = 0/\len+a<=es.length/\d+a<=es.length,
   .c (.arr n sz 0 (len+a)),c9 (ia J b) n (.arr sz (es.take len++(es.drop d).take a)))
  |_=>none
def aT(o:cN)(env:Env)(J:ba)(n:Nat):BO:=
 match o with
 |.mov x=>(x.get env).map λa=>(a.1,a.2,J)
 |.pick c x y=>(c.get env).bind λc=>(x.get env).bind λx=>(y.get env).bind λy=>
  match c.2,x.2,y.2 with
  |.c (.t (.bool b)),.c (.t (.bool p)),.c (.t (.bool q))=>
   some (c.1/\(b=true->x.1)/\(b=false->y.1),.c (.t (.bool (bif b then p else q))),J)
  |_,_,_=>none
 |.alloc cs=>some (True,.c (.ptr n 0),c9 J n (.box cs))
 |.allocA cs=>(toTs cs).map λts=>(True,.c (.ptr n 0),c9 J n (.arr 1 (ts.map λt=>[t])))
 |.idxP k x i=>(x.get env).bind λa=>(i.get env).bind λj=>match a.2,j.2 with
  |.c (.ptr b 0),.c (.t (.int _ m))=>some (a.1/\j.1/\0<=m/\m.toNat<k,.c (.cH b 1 m.toNat 0),J)
  |_,_=>none
 |.idxV k x i=>(x.get env).bind λa=>(i.get env).bind λj=>match a.2,j.2 with
  |.agg cs,.c (.t (.int _ m))=>if cs.length=k then some (a.1/\j.1/\0<=m/\m.toNat<k,.c (cs.getD m.toNat .dead),J)else none
  |_,_=>none
 |.mslice sz bytes z x=>(x.get env).bind λa=>(toTs z).bind λD=>match a.2 with
  |.c (.t (.int _ m))=>some (a.1/\0<=m/\m.toNat*bytes<=hF/\m.toNat<=dT,.c (.arr n sz 0 m.toNat),c9 J n (.arr sz (List.replicate m.toNat D)))
  |_=>none
 |.slcP k x w A=>(x.get env).bind λa=>(j2 env w).bind λl=>(j2 env A).bind λh=>match a.2 with
  |.c (.ptr b 0)=>
   let e:=h.2.getD k;let c:=l.2.getD 0
   some (a.1/\l.1/\h.1/\0<=c/\c<=e/\e<=k,.c (.fI b 1 c.toNat (e.toNat-c.toNat)),J)
  |_=>none
 |.b2s x=>(x.get env).bind λa=>(nU J a.2).map λr=>(a.1/\r.1,.c (.t (.str r.2)),J)
 |.box x=>(x.get env).bind λa=>(qs a.2).map λcs=>(a.1,.c (.ptr n 0),c9 J n (.box cs))
 |.build z parts=>(lF env z parts).map λa=>(a.1,.agg a.2,J)
 |.bslice sz len z parts=>(toTs z).bind λD=>(jY env sz (List.replicate len D) parts).map λa=>
  (a.1,.c (.arr n sz 0 len),c9 J n (.arr sz a.2))
 |.load agg k x=>(x.get env).bind λa=>match a.2 with
  |.c (.ptr b o)=>match aY J b with
   |some (.box cs)=>(j3 agg k cs o).map λv=>(a.1,v,J)
   |some (.b' _ c)=>if agg=false/\o=1 then some (a.1,.c c,J)else none
   |_=>none
  |.c (.cH b sz i o)=>match aY J b with
   |some (.arr g es)=>(loadT agg k (el es i) o).map λv=>(a.1/\sz=g/\i<es.length,v,J)
   |some (.cA g es B C c)=>if agg then none else if o=C then some (a.1/\sz=g/\i=B,.c c,J)else(loadT false k (el es i) o).map λv=>(a.1/\sz=g/\i<es.length,v,J)
   |_=>none
  |.c (.dJ ts o)=>(loadT agg k ts o).map λv=>(a.1,v,J)
  |_=>none
 |.store k x v=>(x.get env).bind λa=>(v.get env).bind λd=>(qs d.2).bind λcs=>
  if cs.length=k then match a.2 with
   |.c (.ptr b o)=>match aY J b with
    |some (.box G)=>if o+k<=G.length then some (a.1/\d.1,.a6 [],c9 J b (.box (vA G o cs)))else none
    |some (.b' e _)=>match o,cs with
     |1,[c]=>some (a.1/\d.1,.a6 [],c9 J b (.b' e c))
     |_,_=>none
    |_=>none
   |.c (.cH b sz i o)=>match aY J b with
    |some (.arr g es)=>match yV cs with
     |some c=>some (a.1/\d.1/\sz=g/\i<es.length/\o+k<=sz,.a6 [],c9 J b (.cA g es i o c))
     |none=>(toTs cs).bind λts=>
      some (a.1/\d.1/\sz=g/\i<es.length/\o+k<=sz,.a6 [],
       c9 J b (.arr g (es.set i ((el es i).take o++ts++(el es i).drop (o+k)))))
    |some (.cA g es B C H)=>match cs with
     |[c]=>if o=C then some (a.1/\d.1/\sz=g/\i=B,.a6 [],c9 J b (.cA g es B C c))
      else(toT c).bind λt=>some (a.1/\d.1/\sz=g/\i<es.length/\o+k<=sz,.a6 [],
       c9 J b (.cA g (es.set i ((el es i).take o++[t]++(el es i).drop (o+k))) B C H))
     |_=>none
    |_=>none
   |_=>none
  else none
 |.nilCheck x=>(x.get env).bind λa=>match a.2 with
  |.c (.ptr ..)|.c (.cH ..)|.c (.dJ ..)=>some (a.1,a.2,J)
  |_=>none
 |.bin op x y=>(x.get env).bind λa=>(y.get env).bind λb=>match a.2,b.2 with
  |.c (.t p),.c (.t q)=>(qR op p q).map λr=>(a.1/\b.1/\r.1,.c (.t r.2),J)
  |_,_=>none
 |.eqAgg neg ks x y=>(x.get env).bind λa=>(y.get env).bind λb=>match a.2,b.2 with
  |.agg p,.agg q=>(ml ks p q).map λr=>(a.1/\b.1,.c (.t (.bool (if neg then !r else r))),J)
  |_,_=>none
 |.eqBool neg x y=>(x.get env).bind λa=>(y.get env).bind λb=>match a.2,b.2 with
  |.c (.t (.bool p)),.c (.t (.bool q))=>some (a.1/\b.1,.c (.t (.bool (if neg then !(p==q)else(p==q)))),J)
  |_,_=>none
 |.not x=>(x.get env).bind λa=>match a.2 with
  |.c (.t (.bool b))=>some (a.1,.c (.t (.bool (!b))),J)
  |_=>none
 |.conv k x=>(x.get env).bind λa=>match a.2 with
  |.c (.t (.int _ m))=>some (a.1,.c (.t (.int k (k.wrap m))),J)
  |_=>none
 |.i2s x=>(x.get env).bind λa=>match a.2 with
  |.c (.t (.int _ m))=>some (a.1,.c (.t (.str (Utf8.encode m).data.toList)),J)
  |_=>none
 |.s2s x=>(x.get env).bind λa=>match a.2 with
  |.c (.t (.str s))=>some (a.1,.c (.t (.str s)),J)
  |_=>none
 |.fldA off x=>(x.get env).bind λa=>match a.2 with
  |.c (.ptr b o)=>some (a.1,.c (.ptr b (o+off)),J)
  |.c (.cH b sz i o)=>some (a.1,.c (.cH b sz i (o+off)),J)
  |.c (.dJ ts o)=>some (a.1,.c (.dJ ts (o+off)),J)
  |_=>none
 |.fld agg off k x=>(x.get env).bind λa=>match a.2 with
  |.agg cs=>(j3 agg k cs off).map λv=>(a.1,v,J)
  |_=>none
 |.idxA sz x i=>(x.get env).bind λa=>(i.get env).bind λj=>match a.2,j.2 with
  |.c (.t (.slice es)),.c (.t (.int _ m))=>some (a.1/\j.1/\0<=m/\m.toNat<es.length/\(el es m.toNat).length=sz,.c (.dJ (el es m.toNat) 0),J)
  |.c (.arr b g off len),.c (.t (.int _ m))=>some (a.1/\j.1/\0<=m/\m.toNat<len/\sz=g,.c (.cH b sz (off+m.toNat) 0),J)
  |_,_=>none
 |.idxS x i=>(x.get env).bind λa=>(i.get env).bind λj=>match a.2,j.2 with
  |.c (.t (.str s)),.c (.t (.int _ m))=>some (a.1/\j.1/\0<=m/\m.toNat<s.length,.c (.t (.int .u8 (s.getD m.toNat 0).toNat)),J)
  |_,_=>none
 |.slcS x w A=>(x.get env).bind λa=>(j2 env w).bind λl=>(j2 env A).bind λh=>match a.2 with
  |.c (.t (.str s))=>
   let b:=h.2.getD s.length;let c:=l.2.getD 0
   some (a.1/\l.1/\h.1/\0<=c/\c<=b/\b<=s.length,.c (.t (.str ((s.take b.toNat).drop c.toNat))),J)
  |_=>none
 |.slc sz x w A=>(x.get env).bind λa=>(j2 env w).bind λl=>(j2 env A).bind λh=>match a.2 with
  |.c (.t (.slice es))=>
   let b:=h.2.getD es.length;let c:=l.2.getD 0
   some (a.1/\l.1/\h.1/\0<=c/\c<=b/\b<=es.length/\(∀e,e∈es->e.length=sz),.c (.t (.slice ((es.take b.toNat).drop c.toNat))),J)
  |.c (.arr b g off len)=>
   some (a.1/\l.1/\h.1/\0<=l.2.getD 0/\l.2.getD 0<=h.2.getD len/\h.2.getD len<=len/\sz=g,
    .c (if w.isNone then .arr b g off (h.2.getD len).toNat else .fI b g (off+(l.2.getD 0).toNat) ((h.2.getD len).toNat-(l.2.getD 0).toNat)),J)
  |_=>none
 |.slc0 x=>(x.get env).bind λa=>match a.2 with
  |.c (.t (.slice _))|.c .aA|.c (.arr ..)=>some (a.1,.c .aA,J)
  |_=>none
 |.mkfn f caps=>(hP env caps).bind λa=>match sN a.2 with
  |some l=>some (a.1,.c (.fn f l),J)
  |none=>none
 |.ext x i=>(x.get env).bind λa=>match a.2 with
  |.a6 vs=>(vs[i]?).map λv=>(a.1,v,J)
  |_=>none
 |.len str x=>(x.get env).bind λa=>match str,a.2 with
  |false,.c (.t (.slice es))=>some (a.1,.c (.t (.int .i64 es.length)),J)
  |false,.c (.arr _ _ _ l)=>some (a.1,.c (.t (.int .i64 l)),J)
  |false,.c .aA=>some (a.1,.c (.t (.int .i64 0)),J)
  |false,.c (.cL _ l)=>some (a.1,.c (.t (.int .i64 l)),J)
  |true,.c (.t (.str s))=>some (a.1,.c (.t (.int .i64 s.length)),J)
  |_,_=>none
 |.append sz bytes x y=>(x.get env).bind λa=>(y.get env).bind λd=>
  match oZ a.2 d.2 with
  |some r=>vl J n sz a.1 d.1 r
  |none=>
  (mJ J d.2).bind λu=>
  match a.2 with
  |.c .aA=>some (a.1/\d.1/\(∀ e,e∈u.1->e.length = sz)/\l0 u.1.length bytes/\u.1.length<=dT,
   .c (.arr n sz 0 u.1.length),c9 J n (.arr sz u.1))
  |.c (.arr b g off len)=>match aY J b with
   |some (.arr I es)=>
    if u.2=some b then none else some (a.1/\d.1/\g=sz/\I=sz/\off=0/\len=es.length/\(∀e,e∈u.1->e.length=sz)/\l0 (es.length+u.1.length) bytes/\es.length+u.1.length<=dT,
     .c (.arr n sz 0 (len+u.1.length)),c9 (ia J b) n (.arr sz (es++u.1)))
   |_=>none
  |_=>none
 |.max2 x y=>(x.get env).bind λa=>(y.get env).bind λb=>match a.2,b.2 with
  |.c (.t (.int k p)),.c (.t (.int F q))=>if k=F then some (a.1/\b.1,.c (.t (.int k (max p q))),J)else none
  |_,_=>none
 |.min2 x y=>(x.get env).bind λa=>(y.get env).bind λb=>match a.2,b.2 with
  |.c (.t (.int k p)),.c (.t (.int F q))=>if k=F then some (a.1/\b.1,.c (.t (.int k (min p q))),J)else none
  |_,_=>none
 |.allocS e e8=>some (True,.c (.ptr n 0),c9 (c9 J (n+1) (.buf e8 [])) n (.b' e (.cL (n+1) 0)))
 |.bsliceT _ sz len z parts=>(toTs z).bind λD=>(jY env sz (List.replicate len D) parts).map λa=>(a.1,.c (.t (.slice a.2)),J)
 |.mkset=>some (True,.c (.mp n),c9 J n (.set []))
 |.lkset x k=>(x.get env).bind λa=>(k.get env).bind λd=>match a.2,d.2 with
  |.c (.mp b),.c (.t (.str s))=>match aY J b with
   |some (.set ks)=>some (a.1/\d.1,.c (.t (.bool (jz ks s))),J)
   |_=>none
  |_,_=>none
 |.upset x k=>(x.get env).bind λa=>(k.get env).bind λd=>match a.2,d.2 with
  |.c (.mp b),.c (.t (.str s))=>match aY J b with
   |some (.set ks)=>some (a.1/\d.1,.a6 [],c9 J b (.set (iN ks s)))
   |_=>none
  |_,_=>none
 |.appendB e bytes x y=>(x.get env).bind λa=>(y.get env).bind λd=>match a.2,d.2 with
  |.c (.cL b len),.c (.t (.str s))=>match aY J b with
   |some (.buf E es)=>
    some (a.1/\d.1/\E=e/\len=es.length/\l0 (es.length+s.length) bytes/\es.length+s.length<=dT,
     .c (.cL n (len+s.length)),c9 (ia J b) n (.buf e (es++s)))
   |_=>none
  |_,_=>none
 |.sdata x=>(x.get env).bind λa=>match a.2 with
  |.c (.cL b _)=>some (a.1,.c (.ev b),J)
  |_=>none
 |.ustr e x k=>(x.get env).bind λa=>(k.get env).bind λd=>match a.2,d.2 with
  |.c (.ev b),.c (.t (.int .i64 m))=>match aY J b with
   |some (.buf E es)=>some (a.1/\d.1/\E=e/\m=es.length,.c (.t (.str es)),ia J b)
   |_=>none
  |_,_=>none
 |.eqNil .. |.call .. |.ic .. =>none
where sN:List V->Option a7
 |[]=>some []
 |.c (.ptr b 0)::r=>(sN r).map (b::·)
 |_=>none
def Bm(ks:List aj)(es:List MapEntry):Prop:=a' (λk e=>e.key= .string ⟨k.toArray⟩/\e.val= .bool true) ks es
def cW(φ:dz)(w:World)(S:dS)(b:Nat):bV->Prop
 |.box cs=>(φ b).2≠0/\∃(vs:List Value) (E:TypeId),w.heap[(φ b).1]?=some (.cells vs.toArray E (0,0))/\a' (bq φ w S) cs vs/\∀j,¬S (φ b).1 j
 |.arr sz es=>es.length<=(φ b).2/\es.length<=dT/\(∀ e,e∈es->e.length = sz)/\0<sz/\
  ((φ b).2≠0->∃(vs:List Value) (E:TypeId),w.heap[(φ b).1]?=some (.cells vs.toArray E (0,0))/\vs.length=(φ b).2*sz/\
   (∀(i j:Nat) e t,es[i]?=some e->e[j]?=some t->∃v,vs[i*sz+j]?=some v/\ch w S t v)/\∀j,¬S (φ b).1 j)
 |.set ks=>(φ b).2≠0/\(∃(es:List MapEntry) (d:Nat),w.heap[(φ b).1]?=some (.map es.toArray d)/\Bm ks es)/\∀j,¬S (φ b).1 j
 |.buf E s=>s.length<=(φ b).2/\s.length<=dT/\
  ((φ b).2≠0->(∃vs:List Value,w.heap[(φ b).1]?=some (.cells vs.toArray E (0,0))/\vs.length=(φ b).2/\
   ∀(i:Nat) c,s[i]?=some c->vs[i]?=some (.int .u8 (UInt8.toNat c)))/\∀j,¬S (φ b).1 j)
 |.b' E c=>(φ b).2≠0/\(∃p v:Value,w.heap[(φ b).1]?=some (.cells #[p,v] E (0,0))/\(p= .pointer none\/p= .pointer (some ⟨(φ b).1,0,none⟩))/\bq φ w S c v)/\∀j,¬S (φ b).1 j
 |.cA sz es i o c=>(es.length<=(φ b).2/\es.length<=dT/\(∀ e,e∈es->e.length = sz)/\0<sz/\i<es.length/\o<sz)/\
  (∃(vs:List Value) (E:TypeId),w.heap[(φ b).1]?=some (.cells vs.toArray E (0,0))/\vs.length=(φ b).2*sz/\
   (∀(a j:Nat) e t,es[a]?=some e->e[j]?=some t->¬(a=i/\j=o)->∃v,vs[a*sz+j]?=some v/\ch w S t v)/\∃v,vs[i*sz+o]?=some v/\bq φ w S c v)/\∀j,¬S (φ b).1 j
structure qP (φ:dz)(w:World)(S:dS)(J:ba):Prop where
 blk:∀b x,aY J b=some x->cW φ w S b x
 inj:∀b B0 x y,aY J b=some x->aY J B0=some y->b≠B0->(φ b).2≠0->(φ B0).2≠0->(φ b).1≠(φ B0).1
 st:∀b j,S b j->b<w.heap.size
structure Ext (B:Nat->Prop)(S bT:dS)(w w':World):Prop where
 os:w'.os=w.os
 tape:w'.tape=w.tape
 output:w'.output=w.output
 size:w.heap.size<=w'.heap.size
 block:∀b:Nat,b<w.heap.size->¬B b->w'.heap[b]?=w.heap[b]?
 mono:gq w S w' bT
 si:∀b j,bT b j->S b j\/B b\/w.heap.size<=b
def bV.aF(n:Nat->Bool):bV->Bool
 |.box cs=>cs.all (C.aF n)
 |.arr _ _=>true
 |.set _=>true
 |.buf _ _=>true
 |.b' _ c=>c.aF n
 |.cA _ _ _ _ c=>c.aF n
def ins(n:Nat->Bool)(k:Nat):Nat->Bool:=λb=>n b||b==k
structure Ctx where
 j9:World
 FI:dS
 B:Nat->Prop
 Vr:dz
 k:Nat
structure Rel (aE:Ctx)(nt:Nat)(φ:dz)(S:dS)(env:Env)(J:ba)(n:Nat->Bool)(a:Act)(w:World):Prop where
 bR:qP φ w S J
 gN:∀(k:Nat) g v,look env k=some (g,v)->g=true->∃x,a.tmps[k]?=some x/\ck φ w S v x
 hK:∀(k:Nat) g v,look env k=some (g,v)->g=false->a.tmps[k]?=some undef
 gM:∀(k:Nat) g v,look env k=some (g,v)->g=true->v.aF n=true
 dV:∀(b:Nat) x,aY J b=some x->n b=true/\x.aF n=true
 size:a.tmps.size=nt
 defers:a.defers=[]
 ext:Ext aE.B aE.FI S aE.j9 w
 own:∀(b:Nat) x,aY J b=some x->(φ b).2≠0->aE.B (φ b).1\/aE.j9.heap.size<=(φ b).1
 fix:∀b:Nat,b<aE.k->φ b=aE.Vr b
 gO:∀b:Nat,b<aE.k->n b=true
variable{c:C}{v:Value}{p:Prop}{x y:Operand}{cs:List C}{o:Oper}{op:BinOp}{ty e E:TypeId}{f off:Nat}{fs:Array Field}{ts:List T}{w w':World}{vs xs:List Value}{agg:Bool}{es:List (List T)}{j:Option Operand}{J':ba}{q:Nat×Nat}{α:Type}{place:Nat->Option (Nat×Nat)}{R:T->Value->Prop}
section
variable {P:Program}{aE:Ctx}{nt:Nat}{φ:dz}{S:dS}{env:Env}{J:ba}{n:Nat->Bool}{key:Nat}{a:Act}{w:World}
def Good(P:Program)(aE:Ctx)(nt:Nat)(env:Env)(J':ba)(b:Nat->Bool)(a:Act)(v:V)(r:Result Next):Prop:=
 ∃x c bT w',(r= .ok (.value x) w'\/(r= .ok .skip w'/\x=undef))/\ck c w' bT v x/\v.aF b=true/\Rel aE nt c bT env J' b a w'
theorem ac'{n:Nat->Bool}{k:Nat}:ins n k k=true:=by simp[ins]
theorem kP{n:Nat->Bool}{k b:Nat}(h:n b=true):ins n k b=true:=by grind[ins]
theorem C.hv{n e:Nat->Bool}(h:∀b,n b=true->e b=true)(a:c.aF n=true):c.aF e=true:=by
 cases c<;>simp[C.aF]at*<;>first|exact h _ a|exactλb f=>h b (a b f)
theorem uq{n:Nat->Bool}:∀{vs:List V},(∀(i:Nat) v,vs[i]?=some v->v.aF n=true)->V.aF.V.dC n vs=true
 |[],_=>rfl
 |v::vs,h=>by
  simp[V.aF.V.dC];exact⟨h 0 v rfl,uq λi v a=>h (i+1) v a⟩
theorem V.hv{n e:Nat->Bool}(h:∀b,n b=true->e b=true):∀{v:V},v.aF n=true->v.aF e=true
 |.c x,a=>by grind[V.aF,C.hv]
 |.agg cs,a=>by
  grind[V.aF,C.hv]
 |.a6 vs,a=>by
  exact go vs a
where go:∀vs,V.aF.V.dC n vs=true->V.aF.V.dC e vs=true
 |[],_=>rfl
 |v::vs,a=>by
  simp[V.aF.V.dC]at a⊢;exact⟨V.hv h a.1,go vs a.2⟩
theorem bV.hv{n a:Nat->Bool}(h:∀b,n b=true->a b=true){x:bV}(e:x.aF n=true):x.aF a=true:=by
 cases x with
 |box cs=>
  grind[bV.aF,C.hv]
 |arr=>rfl
 |set=>rfl
 |buf=>rfl
 |b' E c=>grind[bV.aF,C.hv]
 |cA sz es i o c=>grind[bV.aF,C.hv]
theorem Rel.more(R:Rel aE nt φ S env J n a w){e:Nat->Bool}(h:∀b,n b=true->e b=true):Rel aE nt φ S env J e a w:=
 ⟨R.bR,R.gN,R.hK,λk g v ah aq=>V.hv h (R.gM k g v ah aq),λb x c=>⟨h b (R.dV b x c).1,bV.hv h (R.dV b x c).2⟩,R.size,R.defers,R.ext,R.own,R.fix,λb f=>h b (R.gO b f)⟩
theorem Good.pure(R:Rel aE nt φ S env J n a w){v:V}{x:Value}{r:Result Next}(e:r= .ok (.value x) w)(f:ck φ w S v x)(c:v.aF n=true):
 Good P aE nt env J (ins n key) a v r:=⟨x,φ,S,w,.inl e,f,V.hv (λ_ h=>kP h) c,R.more λ_ h=>kP h⟩
theorem LO(h:CZ v=some c):bq φ w S c v/\c.aF n=true:=by
 unfold CZ at h;split at h<;>simp at h
 . subst h;exact⟨.bool _,rfl⟩
 . subst h;exact⟨.int _ _,rfl⟩
 . obtain⟨hs,rfl⟩:=h;exact⟨.str _ hs,rfl⟩
 . subst h;exact⟨⟨_,rfl⟩,rfl⟩
 . subst h;exact⟨rfl,rfl⟩
 . subst h;exact⟨rfl,rfl⟩
 . subst h;exact⟨rfl,rfl⟩
theorem IH:∀{vs:List Value} {cs:List C},w1 vs=some cs->a' (bq φ w S) cs vs/\cs.all (C.aF n)=true
 |[],cs,h=>by simp[w1]at h;subst h;exact⟨.nil,rfl⟩
 |v::vs,cs,h=>by
  simp[w1,bo,bB]at h;obtain⟨c,b,e,d,rfl⟩:=h;have h1:=LO (φ:=φ) (w:=w) (S:=S) (n:=n) b;have a:=IH d;exact⟨.cons h1.1 a.1,by grind⟩
theorem Zg{a:V}(h:Kj v=some a):ck φ w S a v/\a.aF n=true:=by
 unfold Kj at h;split at h
 . simp at h;obtain⟨l,ah,rfl⟩:=h;have:=IH (φ:=φ) (w:=w) (S:=S) (n:=n) ah;refine⟨?_,by grind[V.aF]⟩;have e:=ck.agg this.1;omega
 . simp at h;obtain⟨l,ah,rfl⟩:=h;have:=LO (φ:=φ) (w:=w) (S:=S) (n:=n) ah;exact⟨.c this.1,by grind[V.aF]⟩
theorem cp(R:Rel aE nt φ S env J n a w){d:aU}(b:bG x=some d){v:V}(h:d.get env=some (p,v))(e:p):
 ck φ w S v (a.eval x)/\v.aF n=true:=by
 cases x with
 |tmp t=>
  simp[bG]at b;subst b;simp only[aU.get,bB]at h;obtain⟨⟨g,i⟩,ah,he⟩:=h;obtain⟨rfl,rfl⟩:=he;obtain⟨y,l,k⟩:=R.gN t g i ah e;refine⟨?_,R.gM t g i ah e⟩;simp_all[Act.eval]
 |const c=>
  simp[bG]at b;obtain⟨j,ft,rfl⟩:=b;obtain⟨_,rfl⟩:=h;exact Zg ft
 |global g=>grind[bG]
 |func f=>
  simp[bG]at b;subst b;obtain⟨_,rfl⟩:=h;exact⟨.c (by rfl),by rfl⟩
theorem r0(R:Rel aE nt φ S env J n a w):∀{xs:List Operand} {bb:List aU} (_:nD xs=some bb) {p:Prop} {vs:List V} (_:hP env bb=some (p,vs)) (_:p),
 a' (ck φ w S) vs (xs.map a.eval)/\V.aF.V.dC n vs=true
 |[],bb,b,p,vs,h,c=>by simp[nD]at b;subst b;obtain⟨_,rfl⟩:=h;exact⟨.nil,rfl⟩
 |x::xs,bb,b,p,vs,h,c=>by
  simp[nD,bo,bB]at b;obtain⟨j,e,k,f,rfl⟩:=b;simp only[hP,bo,bB]at h;obtain⟨⟨q,v⟩,g,⟨l,m⟩,i,he⟩:=h;obtain⟨rfl,rfl⟩:=he;have h1:=cp R e g c.1;have d:=r0 R f i c.2;exact⟨.cons h1.1 d.1,by grind[V.aF.V.dC]⟩
theorem ck.jq{b:Bool}{x:Value}(h:ck φ w S (.c (.t (.bool b))) x):x= .bool b:=by cases h with|c h=>cases h;rfl
theorem ck.fA{k:IntKind}{m:Int}{x:Value}(h:ck φ w S (.c (.t (.int k m))) x):x= .int k m:=by cases h with|c h=>cases h;rfl
theorem ck.kB{s:aj}{x:Value}(h:ck φ w S (.c (.t (.str s))) x):∃bs:ByteArray,x= .string bs/\bs.data.toList=s/\bs.size<=eE:=by cases h with|c h=>cases h<;>grind
theorem ck.hS{b o:Nat}{x:Value}(h:ck φ w S (.c (.ptr b o)) x):x= .pointer (some ⟨(φ b).1,o,none⟩):=by cases h with|c h=>exact h
theorem ck.i'{b sz i o:Nat}{x:Value}(h:ck φ w S (.c (.cH b sz i o)) x):x= .pointer (some ⟨(φ b).1,i*sz+o,none⟩):=by cases h with|c h=>exact h
theorem ck.mP{x:Value}(h:ck φ w S (.agg cs) x):∃vs:List Value,x= .agg vs.toArray/\a' (bq φ w S) cs vs:=by cases h<;>grind
theorem ck.eb{x:Value}(h:ck φ w S (.c c) x):bq φ w S c x:=by cases h<;>grind
theorem ck.qS(b:Bool):ck φ w S (.c (.t (.bool b))) (.bool b):= .c (.bool b)
theorem ck.nz(k:IntKind)(m:Int):ck φ w S (.c (.t (.int k m))) (.int k m):= .c (.int k m)
theorem Og(R:Rel aE nt φ S env J n a w)(b:o.op= .move x\/o.op= .assign x){c:aU}(f:bG x=some c)
 {p v J'}(g:n key=false)(h:aT (.mov c) env J key=some (p,v,J'))(d:p):Good P aE nt env J' (ins n key) a v ((execOp a.eval o).run P w):=by
 simp only[aT,bB]at h;obtain⟨⟨q,u⟩,e,he⟩:=h;obtain⟨rfl,rfl,rfl⟩:=he;have aq:=cp R f e d;refine Good.pure R ?_ aq.1 aq.2;rcases b with b|b<;>simp[execOp,b]
theorem abi(R:Rel aE nt φ S env J n a w){c:Operand}(g:o.op= .pick c x y){ac d e:aU}(m:bG c=some ac)(u:bG x=some d)(z:bG y=some e)
 {p v J'}(A:n key=false)(h:aT (.pick ac d e) env J key=some (p,v,J'))(t:p):Good P aE nt env J' (ins n key) a v ((execOp a.eval o).run P w):=by
 simp only[aT,bo]at h;obtain⟨⟨B,G⟩,q,⟨C,H⟩,r,⟨D,I⟩,s,he⟩:=h;simp at he;split at he
 . rename_i b E F;obtain⟨rfl,rfl,rfl⟩:=he;obtain⟨h1,k,l⟩:=t;have f:=(cp R m q h1).1.jq;cases b with
   |true=>
    have i:=(cp R u r (k rfl)).1.jq;exact Good.pure R (by simp[execOp,g,f,asBool,i]) (.qS _) rfl
   |false=>
    have j:=(cp R z s (l rfl)).1.jq;exact Good.pure R (by simp[execOp,g,f,asBool,j]) (.qS _) rfl
 grind
theorem xk(b:ByteArray):b.data.toList.length=b.size:=by rfl
theorem abj{s t r:T}(h:qR op s t=some (p,r))(c:p){x y:Value}(d:ch w S s x)(f:ch w S t y):
 ∃z,(binOp op ty x y).run P w= .ok z w/\ch w S r z:=by
 have g:∀a b:aj,(a==b)=decide (a=b):=λa b=>by grind
 unfold qR at h;split at h<;>(first|simp only[eF,dF]at h|cases h)
 all_goals cases d;cases f
 case h_1=>obtain⟨rfl,rfl,rfl⟩:=h;exact⟨_,by simp[binOp,Op.intArith],.int _ _⟩
 case h_2=>obtain⟨rfl,rfl,rfl⟩:=h;exact⟨_,by simp[binOp,Op.intArith],.int _ _⟩
 case h_3=>obtain⟨rfl,rfl,rfl⟩:=h;exact⟨_,by simp[binOp,Op.intArith],.int _ _⟩
 case h_4=>obtain⟨rfl,rfl,rfl⟩:=h;exact⟨_,by simp[binOp,Op.intDiv,c],.int _ _⟩
 case h_5=>obtain⟨rfl,rfl,rfl⟩:=h;exact⟨_,by simp[binOp,Op.intDiv,c],.int _ _⟩
 case h_6=>obtain⟨rfl,rfl,rfl⟩:=h;exact⟨_,by simp[binOp,Op.intBits],.int _ _⟩
 case h_7=>obtain⟨rfl,rfl,rfl⟩:=h;exact⟨_,by simp[binOp,Op.intBits],.int _ _⟩
 case h_8=>obtain⟨rfl,rfl,rfl⟩:=h;exact⟨_,by simp[binOp,Op.intBits],.int _ _⟩
 case h_9=>obtain⟨rfl,rfl,rfl⟩:=h;exact⟨_,by simp[binOp,Op.intBits],.int _ _⟩
 case h_10=>obtain⟨rfl,rfl⟩:=h;exact⟨_,by simp_all[binOp,Op.shift,al],.int _ _⟩
 case h_11=>obtain⟨rfl,rfl⟩:=h;exact⟨_,by simp_all[binOp,Op.shift,al],.int _ _⟩
 case h_12=>obtain⟨rfl,rfl,rfl⟩:=h;exact⟨_,by simp[binOp,Op.intCmp];rfl,.bool _⟩
 case h_13=>obtain⟨rfl,rfl,rfl⟩:=h;exact⟨_,by simp[binOp,Op.intCmp,bne,BEq.beq],.bool _⟩
 case h_14=>obtain⟨rfl,rfl,rfl⟩:=h;exact⟨_,by simp[binOp,Op.intCmp],.bool _⟩
 case h_15=>obtain⟨rfl,rfl,rfl⟩:=h;exact⟨_,by simp[binOp,Op.intCmp],.bool _⟩
 case h_16=>obtain⟨rfl,rfl,rfl⟩:=h;exact⟨_,by simp[binOp,Op.intCmp],.bool _⟩
 case h_17=>obtain⟨rfl,rfl,rfl⟩:=h;exact⟨_,by simp[binOp,Op.intCmp],.bool _⟩
 case h_18 s hs t ht=>
  obtain⟨rfl,rfl⟩:=h;simp only[xk]at c;have e:(s++t).data.toList=s.data.toList++t.data.toList:=by rfl
  refine⟨.string (s++t),?_,e▸.str _ (by grind)⟩;have:¬(((s.size+t.size:Nat):Int)>IntKind.i64.max):=by grind[IntKind.max,eE,IntKind.signed,IntKind.bits]
  simp_all[binOp,Op.stringOp,al]
 case h_19 s hs t ht=>obtain⟨rfl,rfl⟩:=h;exact⟨_,by simp_all[binOp,Op.stringOp,ByteArray.toList_eq],.bool _⟩
 case h_20 s hs t ht=>obtain⟨rfl,rfl⟩:=h;exact⟨_,by simp_all[binOp,Op.stringOp,ByteArray.toList_eq],.bool _⟩
 case h_21 s hs t ht=>obtain⟨rfl,rfl⟩:=h;exact⟨_,by simp_all[binOp,Op.stringOp,ByteArray.toList_eq],.bool _⟩
 case h_22 s hs t ht=>obtain⟨rfl,rfl⟩:=h;exact⟨_,by simp_all[binOp,Op.stringOp,ByteArray.toList_eq],.bool _⟩
 case h_23 s hs t ht=>obtain⟨rfl,rfl⟩:=h;exact⟨_,by simp_all[binOp,Op.stringOp,ByteArray.toList_eq],.bool _⟩
 case h_24 s hs t ht=>obtain⟨rfl,rfl⟩:=h;exact⟨_,by simp_all[binOp,Op.stringOp,ByteArray.toList_eq],.bool _⟩
theorem I5{u:Value}(h1:u≠.nilIface)(a:∀cs,u≠.agg cs):(eqGuard op ty x y u v).run P w= .ok () w:=by
 simp_all[eqGuard]
theorem ch.guard{t:T}{u:Value}(h:ch w S t u):u≠.nilIface/\∀cs,u≠.agg cs:=by
 cases h<;>exact⟨by simp,by simp⟩
theorem M9(b:P.underlying ty=some .bool)(b1 b2:Bool):(Op.equal ty (.bool b1) (.bool b2)).run P w= .ok (b1==b2) w:=by
 obtain⟨d,a⟩:∃d,Op.maxDepth=d+1:=⟨9999,rfl⟩
 unfold Op.equal;rw[a];unfold Op.equalIn;simp only[Sem.run_bind,run_underlying b];rfl
theorem JH(R:Rel aE nt φ S env J n a w){q:TypeId}(u:o.op= .binOp op ty x y q){d e:aU}(k:bG x=some d)(l:bG y=some e)
 {p v J'}(t:n key=false)(h:aT (.bin op d e) env J key=some (p,v,J'))(b:p):Good P aE nt env J' (ins n key) a v ((execOp a.eval o).run P w):=by
 simp only[aT,bo]at h;obtain⟨⟨C,E⟩,g,⟨D,F⟩,i,he⟩:=h;simp at he;split at he
 . simp only[bB]at he;obtain⟨⟨B,r⟩,j,rfl,rfl,rfl⟩:=he;have h1:=(cp R k g b.1).1.eb;have f:=(cp R l i b.2.1).1.eb;obtain⟨z,A,m⟩:=abj (P:=P) (ty:=ty) j b.2.2 h1 f;refine Good.pure R ?_ (.c m) rfl;have s:(eqGuard op ty x y _ (a.eval y)).run P w= .ok _ w:=I5 (ch.guard h1).1 (ch.guard h1).2;simp_all[execOp]
 grind
theorem Y2(R:Rel aE nt φ S env J n a w){k:TypeId}(s:o.op= .binOp op ty x y k)(g:op= .eql\/op= .neq)(t:P.underlying ty=some .bool)
 {b c:aU}(i:bG x=some b)(j:bG y=some c)
 {p v J'}(r:n key=false)(h:aT (.eqBool (op== .neq) b c) env J key=some (p,v,J'))(d:p):Good P aE nt env J' (ins n key) a v ((execOp a.eval o).run P w):=by
 simp only[aT,bo]at h;obtain⟨⟨u,A⟩,e,⟨z,B⟩,f,he⟩:=h;simp at he;split at he
 . rename_i b1 b2;obtain⟨rfl,rfl,rfl⟩:=he;have h1:=(cp R i e d.1).1.jq;have q:=(cp R j f d.2).1.jq;refine Good.pure R ?_ (.qS _) rfl;have l:(eqGuard op ty x y (a.eval x) (a.eval y)).run P w= .ok _ w:=I5 (by grind) (by grind);have m:(binOp op ty (a.eval x) (a.eval y)).run P w= .ok (.bool (if(op== .neq)then !(b1==b2)else(b1==b2))) w:=by
    rcases g with rfl|rfl
    . simp_all[binOp,M9]
    simp_all[binOp,M9]
   simp_all[execOp]
 grind
theorem abr(R:Rel aE nt φ S env J n a w)(d:o.op= .unOp .not ty x){b:aU}(f:bG x=some b)
 {p v J'}(g:n key=false)(h:aT (.not b) env J key=some (p,v,J'))(e:p):Good P aE nt env J' (ins n key) a v ((execOp a.eval o).run P w):=by
 simp only[aT,bo]at h;obtain⟨⟨i,j⟩,c,he⟩:=h;simp at he;split at he
 . obtain⟨rfl,rfl,rfl⟩:=he;have h1:=(cp R f c e).1.jq;exact Good.pure R (by simp[execOp,d,h1,Op.unary]) (.qS _) rfl
 grind
theorem abt(R:Rel aE nt φ S env J n a w){k:IntKind}(i:o.op= .unOp .neg ty x){b:aU}(l:bG x=some b)
 {p v J'}(m:n key=false)(h:aT (.bin .sub (.const (.c (.t (.int k 0)))) b) env J key=some (p,v,J'))(j:p):Good P aE nt env J' (ins n key) a v ((execOp a.eval o).run P w):=by
 simp only[aT,aU.get,ak,bo]at h;obtain⟨⟨s,u⟩,g,he⟩:=h;simp only at he;split at he
 . rename_i t1 t2 aM;cases aM;simp only[bB]at he;obtain⟨⟨q,r⟩,d,rfl,rfl,rfl⟩:=he;have e:=(cp R l g j.2.1).1;cases t2<;>simp only[qR,reduceCtorEq,eF]at d;obtain⟨rfl,rfl,rfl⟩:=d;have f:=e.fA;exact Good.pure R (by simp[execOp,i,f,Op.unary,Op.intArith]) (.nz _ _) rfl
 grind
theorem acB(R:Rel aE nt φ S env J n a w){k:IntKind}(i:o.op= .unOp .xor ty x){b:aU}(l:bG x=some b)
 {p v J'}(m:n key=false)(h:aT (.bin .xor (.const (.c (.t (.int k (if k.signed then -1 else k.max))))) b) env J key=some (p,v,J'))(j:p):Good P aE nt env J' (ins n key) a v ((execOp a.eval o).run P w):=by
 simp only[aT,aU.get,ak,bo]at h;obtain⟨⟨s,u⟩,g,he⟩:=h;simp only at he;split at he
 . rename_i t1 t2 aM;cases aM;simp only[bB]at he;obtain⟨⟨q,r⟩,d,rfl,rfl,rfl⟩:=he;have e:=(cp R l g j.2.1).1;cases t2<;>simp only[qR,reduceCtorEq,eF]at d;obtain⟨rfl,rfl,rfl⟩:=d;have f:=e.fA;exact Good.pure R (by simp[execOp,i,f,Op.unary,Op.intBits]) (.nz _ _) rfl
 grind
theorem abk(R:Rel aE nt φ S env J n a w){s d:TypeId}(f:o.op= .convert s d x){j k:IntKind}(hs:P.underlying s=some (.int j))(c:P.underlying d=some (.int k)){b:aU}(i:bG x=some b)
 {p v J'}(l:n key=false)(h:aT (.conv k b) env J key=some (p,v,J'))(g:p):Good P aE nt env J' (ins n key) a v ((execOp a.eval o).run P w):=by
 simp only[aT,bo]at h;obtain⟨⟨m,q⟩,e,he⟩:=h;simp at he;split at he
 . obtain⟨rfl,rfl,rfl⟩:=he;have h1:=(cp R i e g).1.fA;exact Good.pure R (by simp[execOp,f,h1,convert,underlying,hs,c,Conv.intToInt]) (.nz _ _) rfl
 grind
theorem Y3(m:Int):(Utf8.encode m).size<=eE:=by
 unfold eE Utf8.encode;dsimp
 (repeat' split)<;>simp[ByteArray.size]
theorem acC(R:Rel aE nt φ S env J n a w){s d:TypeId}(g:o.op= .convert s d x){k:IntKind}(hs:P.underlying s=some (.int k))(e:P.underlying d=some .string){b:aU}(j:bG x=some b)
 {p v J'}(l:n key=false)(h:aT (.i2s b) env J key=some (p,v,J'))(i:p):Good P aE nt env J' (ins n key) a v ((execOp a.eval o).run P w):=by
 simp only[aT,bo]at h;obtain⟨⟨m,q⟩,f,he⟩:=h;simp at he;split at he
 . obtain⟨rfl,rfl,rfl⟩:=he;have h1:=(cp R j f i).1.fA;exact Good.pure R (by simp[execOp,g,h1,convert,underlying,hs,e,Conv.intToString]) (.c (.str _ (Y3 _))) rfl
 grind
theorem acD(R:Rel aE nt φ S env J n a w){s d:TypeId}(f:o.op= .convert s d x)(hs:P.underlying s=some .string)(c:P.underlying d=some .string){b:aU}(i:bG x=some b)
 {p v J'}(j:n key=false)(h:aT (.s2s b) env J key=some (p,v,J'))(g:p):Good P aE nt env J' (ins n key) a v ((execOp a.eval o).run P w):=by
 simp only[aT,bo]at h;obtain⟨⟨k,l⟩,e,he⟩:=h;simp at he;split at he
 . obtain⟨rfl,rfl,rfl⟩:=he;have aq:=cp R i e g;obtain⟨bs,h1,rfl,_⟩:=aq.1.kB;refine Good.pure R ?_ (h1▸aq.1) rfl;simp[execOp,f,h1,convert,underlying,hs,c]
 grind
theorem Y8(R:Rel aE nt φ S env J n a w)(g:o.op= .nilCheck x){b:aU}(e:bG x=some b)
 {p v J'}(f:n key=false)(h:aT (.nilCheck b) env J key=some (p,v,J'))(d:p):Good P aE nt env J' (ins n key) a v ((execOp a.eval o).run P w):=by
 simp only[aT,bo]at h;obtain⟨⟨i,j⟩,c,he⟩:=h;simp at he;split at he<;>simp only[dF,reduceCtorEq]at he
 all_goals
  obtain⟨rfl,rfl,rfl⟩:=he;have aq:=cp R e c d;have h1:=aq.1.eb;refine Good.pure R ?_ aq.1 aq.2
 . simp_all[bq,execOp]
 . simp_all[bq,execOp]
 . obtain⟨_,_,_,h1,_⟩:=h1;simp_all[execOp]
theorem abl(R:Rel aE nt φ S env J n a w)(y:o.op= .fieldAddr ty x f)(A:P.underlying ty=some (.struct fs)){d:Field}(s:fs[f]?=some d)
 {m:Nat}(j:eu P d.type=some m)(u:m≠0){g:aU}(r:bG x=some g)
 {p v J'}(t:n key=false)(h:aT (.fldA d.offset g) env J key=some (p,v,J'))(q:p):Good P aE nt env J' (ins n key) a v ((execOp a.eval o).run P w):=by
 simp only[aT,bo]at h;obtain⟨⟨C,D⟩,k,he⟩:=h;simp at he;have B:∀w,(underlying ty).run P w= .ok (.struct fs) w:=by simp_all[underlying]
 have z:∀w,(sizeOf d.type).run P w= .ok m w:=by simp[eu]at j;obtain⟨i,l,rfl⟩:=j;simp[sizeOf,typeInfo,l]
 have e:∀(b off:Nat),a.eval x= .pointer (some ⟨b,off,none⟩)->(execOp a.eval o).run P w= .ok (.value (.pointer (some ⟨b,off+d.offset,none⟩))) w:=by
  simp_all[execOp,Instr.fieldAt,Instr.sureAddr,fieldPlace,Addr.add]
 split at he<;>simp only[dF,reduceCtorEq]at he
 all_goals
  obtain⟨rfl,rfl,rfl⟩:=he;have aq:=cp R r k q;have h1:=aq.1.eb
 . exact Good.pure R (e _ _ h1) (.c rfl) aq.2
 . exact Good.pure R (e _ _ h1) (.c (by simp[bq,Nat.add_assoc])) aq.2
 . obtain⟨blk,off,f,h1,aa⟩:=h1;exact Good.pure R (e _ _ h1) (.c ⟨blk,off,f,by grind,aa⟩) aq.2
theorem a'.aiJ(h:a' (ch w S) ts vs):a' (bq φ w S) (ts.map .t) vs:=by
 induction h with
 |nil=>exact .nil
 |cons h _ ih=>exact .cons h ih
theorem Oh(n:Nat->Bool)(ts:List T):(ts.map C.t).all (C.aF n)=true:=by simp[C.aF]
theorem uw{g:Bool}(aq:qq P ty=some g)(w:World):(isAgg ty).run P w= .ok g w:=by
 unfold qq at aq;split at aq<;>simp_all [isAgg,underlying]
theorem jS{k:Nat}(a:eu P ty=some k)(w:World):(sizeOf ty).run P w= .ok k w:=by
 simp[eu]at a;obtain⟨i,b,rfl⟩:=a;simp[sizeOf,typeInfo,b]
theorem M'{g:Bool×Nat}(h:ou P ty=some g):qq P ty=some g.1/\eu P ty=some g.2/\(g.1=false->g.2=1):=by
 grind[ou,bo]
theorem ZS{g:Bool}{k:Nat}(aq:qq P ty=some g)(d:eu P ty=some k){b o:Nat}
 (a:∀j,j<k->w.cell? ⟨b,o+j,none⟩=vs[j]?)(ah:vs.length=k)(h1:g=false->k=1):
 (loadVar ty ⟨b,o,none⟩).run P w= .ok (if g then .agg vs.toArray else vs.getD 0 undef) w:=by
 cases g with
 |true=>
  have:=run_loadCells_list (P:=P) w ⟨b,o,none⟩ vs (λj v c=>by
   grind[Addr.add])
  simp_all[loadVar,uw,jS]
 |false=>
  simp_all[loadVar,uw]
theorem bq.single(h:bq φ w S c v):v.cells=#[v]:=by
 have:=bq.je h;cases v<;>simp[Value.oneCell']at this<;>rfl
theorem oF{v:V}{x:Value}(h:ck φ w S v x)(a:qs v=some cs)(b:v.aF n=true):a' (bq φ w S) cs x.cells.toList/\cs.all (C.aF n)=true:=by
 cases h with
 |c h=>
  simp[qs]at a;subst a;rw[bq.single h];exact⟨.cons h .nil,by grind[V.aF]⟩
 |agg h=>
  grind[qs,Value.cells,V.aF]
 |a6=>grind[qs]
theorem LP{k o:Nat}{v:V}(h:a' (bq φ w S) cs vs)(e:cs.all (C.aF n)=true)(ah:j3 agg k cs o=some v)(h1:agg=false->k=1):
 o+k<=cs.length/\ck φ w S v (if agg then .agg ((vs.drop o).take k).toArray else((vs.drop o).take k).getD 0 undef)/\v.aF n=true:=by
 unfold j3 at ah;cases agg with
 |true=>
  simp at ah;obtain⟨b,rfl⟩:=ah;refine⟨b,?_,by grind[V.aF]⟩;simpa using ck.agg ((h.drop o).take k)
 |false=>
  have:=h1 rfl;subst this;simp at ah;obtain⟨c,a,rfl⟩:=ah;obtain⟨x,f,d⟩:=h.get a;have aC:=(dQ.1 a).1;refine⟨by omega,?_,?_⟩
  . have:((vs.drop o).take 1).getD 0 undef=x:=(by grind);simp only[this];exact .c d
  grind[V.aF]
theorem Pe{k o:Nat}{v:V}(ah:loadT agg k ts o=some v):j3 agg k (ts.map .t) o=some v:=by
 unfold loadT at ah;unfold j3;cases agg<;>simp_all
theorem ada{g:Bool}{k:Nat}(aq:qq P ty=some g)(a:eu P ty=some k)(h1:g=false->k=1)(b:off+k<=vs.length):
 (part ty vs.toArray off).run P w= .ok (if g then .agg ((vs.drop off).take k).toArray else((vs.drop off).take k).getD 0 undef) w:=by
 cases g with
 |true=>
  simp_all[part,uw,jS]
 |false=>
  have:=h1 rfl;have aC:off<vs.length:=by omega
  simp_all[part,uw]
theorem acE(R:Rel aE nt φ S env J n a w)(r:o.op= .field ty x f)(y:P.underlying ty=some (.struct fs)){b:Field}(j:fs[f]?=some b)
 {m:Nat}(q:eu P b.type=some m){g:Bool}(aq:qq P b.type=some g)(h1:g=false->m=1){c:aU}(B:bG x=some c)
 {p v J'}(C:n key=false)(h:aT (.fld g b.offset m c) env J key=some (p,v,J'))(s:p):Good P aE nt env J' (ins n key) a v ((execOp a.eval o).run P w):=by
 simp only[aT,bo]at h;obtain⟨⟨D,E⟩,k,he⟩:=h;simp at he;split at he
 . simp only[bB]at he;obtain⟨v0,z,rfl,rfl,rfl⟩:=he;have e:=cp R B k s;obtain⟨vs,A,d⟩:=e.1.mP;obtain⟨l,u,i⟩:=LP d (by simpa[V.aF]using e.2) z h1;have t:=ada (w:=w) aq q h1 (by rw[<-d.length];exact l);exact Good.pure R (by simp[execOp,r,A,Instr.field,underlying,y,j,asAgg,t]) u i
 grind
theorem acF(R:Rel aE nt φ S env J n a w){i:Nat}(r:o.op= .extract x i){b:aU}(j:bG x=some b)
 {p v J'}(q:n key=false)(h:aT (.ext b i) env J key=some (p,v,J'))(f:p):Good P aE nt env J' (ins n key) a v ((execOp a.eval o).run P w):=by
 simp only[aT,bo]at h;obtain⟨⟨s,t⟩,e,he⟩:=h;simp at he;split at he
 . simp only[bB]at he;obtain⟨v0,d,rfl,rfl,rfl⟩:=he;have c:=cp R j e f;generalize l:a.eval x=y at c;obtain⟨g,m⟩:=c;cases g with
   |a6 _ xs ah aa=>
    have aC:i<xs.length:=(by grind);have k:=fb aC;refine Good.pure R ?_ (aa i _ _ d k) (oK (by grind[V.aF]) d);simp_all[execOp,Instr.extract]
 grind
theorem abm(R:Rel aE nt φ S env J n a w){x y:Operand}{e:Array TypeId}(j:o.op= .call {callee:= .builtin .max,args:=#[x,y],argTypes:=e}){b c:aU}(l:bG x=some b)(m:bG y=some c)
 {p v J'}(r:n key=false)(h:aT (.max2 b c) env J key=some (p,v,J'))(d:p):Good P aE nt env J' (ins n key) a v ((execOp a.eval o).run P w):=by
 simp only[aT,bo]at h;obtain⟨⟨t,z⟩,g,⟨u,A⟩,i,he⟩:=h;simp at he;split at he
 . rename_i k p s q;simp only[eF]at he;obtain⟨rfl,rfl,rfl,rfl⟩:=he;have h1:=(cp R l g d.1).1.fA;have f:=(cp R m i d.2).1.fA;refine Good.pure R ?_ (.nz _ _) rfl;have:(if p<q then q else p)=max p q:=(by omega);simp[execOp,j,invoke,builtin,Builtin.max_,Builtin.max2,h1,f,Go.resolve,this]
 grind
theorem aaC(R:Rel aE nt φ S env J n a w){x y:Operand}{e:Array TypeId}(j:o.op= .call {callee:= .builtin .min,args:=#[x,y],argTypes:=e}){b c:aU}(l:bG x=some b)(m:bG y=some c)
 {p v J'}(r:n key=false)(h:aT (.min2 b c) env J key=some (p,v,J'))(d:p):Good P aE nt env J' (ins n key) a v ((execOp a.eval o).run P w):=by
 simp only[aT,bo]at h;obtain⟨⟨t,z⟩,g,⟨u,A⟩,i,he⟩:=h;simp at he;split at he
 . rename_i k p s q;simp only[eF]at he;obtain⟨rfl,rfl,rfl,rfl⟩:=he;have h1:=(cp R l g d.1).1.fA;have f:=(cp R m i d.2).1.fA;refine Good.pure R ?_ (.nz _ _) rfl;have:(if q<p then q else p)=min p q:=(by omega);simp[execOp,j,invoke,builtin,Builtin.min_,Builtin.min2,h1,f,Go.resolve,this]
 grind
theorem ch.kz(h:ch w S (.slice es) v):∃(a:Option Addr) (cap sz b o:Nat) (f:Nat->Nat->Value),v= .slice a es.length cap/\es.length<=cap/\es.length<=dT/\(∀e,e∈es->e.length=sz)/\(es≠[]->a=some ⟨b,o,none⟩)/\
 (∀i j:Nat,i<es.length->j<sz->S b (o+i*sz+j)/\w.cell? ⟨b,o+i*sz+j,none⟩=some (f i j))/\(∀(i j:Nat) e t,es[i]?=some e->e[j]?=some t->ch w S t (f i j)):=by
 cases h;exact⟨_,_,_,_,_,_,rfl,by grind,by grind,by omega,by omega,by omega,by grind⟩
theorem bq.hl{b sz len:Nat}(h:bq φ w S (.arr b sz off len) v):∃a,v= .slice a len ((φ b).2-off)/\((φ b).2≠0->a=some ⟨(φ b).1,off*sz,none⟩)/\off+len<=(φ b).2:=h
theorem acG(R:Rel aE nt φ S env J n a w){x:Operand}{ty:TypeId}(g:o.op= .call {callee:= .builtin .len,args:=#[x],argTypes:=#[ty]}){str:Bool}
 (d:if str then P.underlying ty=some .string else ∃e,P.underlying ty=some (.slice e)){i:aU}(q:bG x=some i)
 {p v J'}(r:n key=false)(h:aT (.len str i) env J key=some (p,v,J'))(m:p):Good P aE nt env J' (ins n key) a v ((execOp a.eval o).run P w):=by
 simp only[aT,bo]at h;obtain⟨⟨u,y⟩,k,he⟩:=h;simp at he;split at he<;>simp only[dF,dY,reduceCtorEq]at he
 all_goals
  obtain⟨rfl,rfl,rfl⟩:=he;have h1:=(cp R q k m).1.eb
 . obtain⟨e,d⟩:=d;obtain⟨f,cap,_,_,_,_,h1,_⟩:=ch.kz h1;exact Good.pure R (by simp[execOp,g,Go.resolve,invoke,builtin,Builtin.len_,underlying,d,h1,goInt]) (.nz _ _) rfl
 . obtain⟨e,d⟩:=d;obtain⟨f,h1,_⟩:=bq.hl h1;exact Good.pure R (by simp[execOp,g,Go.resolve,invoke,builtin,Builtin.len_,underlying,d,h1,goInt]) (.nz _ _) rfl
 . obtain⟨e,d⟩:=d;obtain⟨f,h1⟩:=h1;exact Good.pure R (by simp[execOp,g,Go.resolve,invoke,builtin,Builtin.len_,underlying,d,h1,goInt]) (.nz _ _) rfl
 . obtain⟨e,d⟩:=d;rename_i b l;obtain⟨f,cap,h1⟩:∃f cap,a.eval x= .slice f l cap:=by
    obtain⟨s,t,k1⟩:=h1;grind
   exact Good.pure R (by simp[execOp,g,Go.resolve,invoke,builtin,Builtin.len_,underlying,d,h1,goInt]) (.nz _ _) rfl
 . simp at d;obtain⟨bs,j,rfl,_⟩:=ck.kB (.c h1);exact Good.pure R (x:= .int .i64 bs.size) (by simp[execOp,g,Go.resolve,invoke,builtin,Builtin.len_,underlying,d,j,goInt]) (by exact .nz _ _) rfl
theorem aaD(R:Rel aE nt φ S env J n a w){i:Operand}(F:o.op= .indexAddr ty x i)(I:P.underlying ty=some (.slice e)){sz:Nat}(H:eu P e=some sz)(h0:sz≠0)
 {z y:aU}(K:bG x=some z)(E:bG i=some y)
 {p v J'}(X:n key=false)(h:aT (.idxA sz z y) env J key=some (p,v,J'))(G:p):Good P aE nt env J' (ins n key) a v ((execOp a.eval o).run P w):=by
 simp only[aT,bo]at h;obtain⟨⟨ae,ag⟩,D,⟨ad,af⟩,B,he⟩:=h;simp only at he;have A:∀(b off m:Nat),Addr.add ⟨b,off,none⟩ (m*sz)=⟨b,off+m*sz,none⟩:=by
  grind[Addr.add]
 split at he
 . rename_i es k m;obtain⟨rfl,rfl,rfl⟩:=he;obtain⟨s,u,r,M,U⟩:=G;have h1:=(cp R K D s).1.eb;have g:=(cp R E B u).1.fA;obtain⟨L,cap,d,b,off,f,h1,T,Z,aa,l,Q,ab⟩:=ch.kz h1;have N:es≠[]:=(by grind);have W:es[m.toNat]?=some (el es m.toNat):=(by grind[el]);have O:d=sz:=(by grind);subst O;rw[l N]at h1;refine Good.pure R (x:= .pointer (some ⟨b,off+m.toNat*d,none⟩)) ?_ ?_ rfl
   . have q:0<=m/\m<es.length:=⟨r,by omega⟩
     simp[execOp,F,h1,g,Instr.indexAt,asIntOf,underlying,I,q,jS H,A]
   . refine .c ⟨b,off+m.toNat*d,λj=>f m.toNat j,by rfl,λj t ht=>?_⟩;grind
 . rename_i b d off len k m;obtain⟨rfl,rfl,rfl⟩:=he;obtain⟨s,u,r,M,rfl⟩:=G;have aq:=cp R K D s;have h1:=aq.1.eb;have g:=(cp R E B u).1.fA;obtain⟨L,h1,l,Y⟩:=bq.hl h1;rw[l (by omega)]at h1;refine Good.pure R (x:= .pointer (some ⟨(φ b).1,off*sz+m.toNat*sz,none⟩)) ?_ (.c ?_) (by grind[V.aF,C.aF])
   . have q:0<=m/\m<len:=⟨r,by omega⟩
     simp[execOp,F,h1,g,Instr.indexAt,asIntOf,underlying,I,q,jS H,A]
   grind[bq]
 grind
theorem aaE(R:Rel aE nt φ S env J n a w){i:Operand}(r:o.op= .index ty x i)(z:P.underlying ty=some .string)
 {c b:aU}(A:bG x=some c)(j:bG i=some b)
 {p v J'}(B:n key=false)(h:aT (.idxS c b) env J key=some (p,v,J'))(t:p):Good P aE nt env J' (ins n key) a v ((execOp a.eval o).run P w):=by
 simp only[aT,bo]at h;obtain⟨⟨D,F⟩,g,⟨C,E⟩,f,he⟩:=h;simp at he;split at he
 . rename_i s k m;obtain⟨rfl,rfl,rfl⟩:=he;obtain⟨u,y,l,q⟩:=t;obtain⟨bs,h1,rfl,hs⟩:=(cp R A g u).1.kB;have d:=(cp R j f y).1.fA;have aC:m.toNat<bs.size:=(by simp_all);refine Good.pure R ?_ (.nz _ _) rfl;have e:bs[m.toNat]?=some (bs.data.toList.getD m.toNat 0):=by
    rw[getElem?_pos bs _ _];simp[fb q];rfl
   simp[execOp,r,h1,d,Instr.index,asIntOf,underlying,z,l,e]
 grind
theorem Mj:∀{vs:List V} {l:a7} {xs:List Value},aT.sN vs=some l->a' (ck φ w S) vs xs->V.aF.V.dC n vs=true->
 xs=l.map (λb=>Value.pointer (some ⟨(φ b).1,0,none⟩))/\(l.all λb=>n b)=true
 |[],l,xs,h,a,c=>by simp[aT.sN]at h;subst h;cases a;simp
 |v::vs,l,xs,h,a,c=>by
  cases a with
  |cons d ht=>
   unfold aT.sN at h;split at h
   . grind
   . rename_i b r e;cases e;simp at h;obtain⟨i,f,rfl⟩:=h;simp[V.aF.V.dC]at c;obtain⟨rfl,g⟩:=Mj f ht c.2;have:=d.hS;grind[V.aF,C.aF]
   grind
theorem aaF(R:Rel aE nt φ S env J n a w){caps:Array Operand}(m:o.op= .makeFunc (.func f) #[] caps){d:List aU}(i:nD caps.toList=some d)
 {p v J'}(k:n key=false)(h:aT (.mkfn f d) env J key=some (p,v,J'))(g:p):Good P aE nt env J' (ins n key) a v ((execOp a.eval o).run P w):=by
 simp only[aT,bo]at h;obtain⟨⟨q,vs⟩,e,he⟩:=h;split at he
 . rename_i l ah;obtain⟨rfl,rfl,rfl⟩:=he;have aq:=r0 R i e g;obtain⟨h1,j⟩:=Mj ah aq.1 aq.2;refine Good.pure R ?_ (.c rfl) (by grind[V.aF,C.aF]);have:caps.map a.eval=(l.map λb=>Value.pointer (some ⟨(φ b).1,0,none⟩)).toArray:=(by grind);simp_all[execOp,Instr.makeFunc]
 grind
theorem r1(R:Rel aE nt φ S env J n a w){x:Option Operand}{b:Option aU}(c:kv x=some b){m:Option Int}(h:j2 env b=some (p,m))(e:p):
 (x.map a.eval=none/\m=none)\/∃k i,x.map a.eval=some (.int k i)/\m=some i:=by
 cases x with
 |none=>grind[kv,j2]
 |some x=>
  simp[kv]at c;obtain⟨g,d,rfl⟩:=c;simp only[j2,bo]at h;obtain⟨⟨q,v⟩,f,he⟩:=h;simp at he;split at he
  . obtain⟨rfl,rfl⟩:=he;have:=(cp R d f e).1.fA;grind
  grind
theorem EB {isSlice:Bool}{len cap:Nat}{b a:Option Value}{l h:Option Int}(d:(b=none/\l=none)\/∃k i,b=some (.int k i)/\l=some i)(c:(a=none/\h=none)\/∃k i,a=some (.int k i)/\h=some i)
 (h0:0<=l.getD 0)(h1:l.getD 0<=h.getD len)(e:h.getD len<=len)(f:len<=cap):
 (Instr.sliceBounds isSlice len cap b a none).run P w= .ok ((l.getD 0).toNat,(h.getD len).toNat,cap) w:=by
 have g:h.getD len<=cap:=by omega
 rcases d with⟨rfl,rfl⟩|⟨k,i,rfl,rfl⟩<;>rcases c with⟨rfl,rfl⟩|⟨m,j,rfl,rfl⟩<;>simp_all [Instr.sliceBounds,Instr.sliceBound,asIntOf];grind
theorem aaG(R:Rel aE nt φ S env J n a w){i:Option Operand}(u:o.op= .slice ty x j i none)(C:P.underlying ty=some .string)
 {f:aU}{d b:Option aU}(D:bG x=some f)(t:kv j=some d)(s:kv i=some b)
 {p v J'}(F:n key=false)(h:aT (.slcS f d b) env J key=some (p,v,J'))(y:p):Good P aE nt env J' (ins n key) a v ((execOp a.eval o).run P w):=by
 simp only[aT,bo]at h;obtain⟨⟨H,I⟩,r,⟨pl,l⟩,q,⟨G,h⟩,m,he⟩:=h;simp at he;split at he
 . obtain⟨rfl,rfl,rfl⟩:=he;obtain⟨z,A,B,h0,h1,g⟩:=y;obtain⟨bs,E,rfl,hs⟩:=(cp R D r z).1.kB;have ah:=r1 R t q A;have aa:=r1 R s m B;rw[xk]at h1 g;have k:=EB (P:=P) (w:=w) (isSlice:=false) ah aa h0 h1 g (eI _);rw[xk];have e:(bs.extract (l.getD 0).toNat (h.getD bs.size).toNat).data.toList=(bs.data.toList.take (h.getD bs.size).toNat).drop (l.getD 0).toNat:=(by grind[ByteArray.data_extract,Array.toList_extract,List.drop_take]);refine Good.pure R (x:= .string (bs.extract (l.getD 0).toNat (h.getD bs.size).toNat)) ?_ (.c ?_) rfl
   . simp[execOp,u,Instr.sliceAt,Instr.slice,underlying,C,E,k]
   . rw[<-e];refine .str _ ?_;rw[ByteArray.size_extract];omega
 grind
theorem acH(R:Rel aE nt φ S env J n a w){ab r:Option Operand}(U:o.op= .slice ty x ab r none)(Y:P.underlying ty=some (.slice e)){sz:Nat}(X:eu P e=some sz)
 {I:aU}{k G:Option aU}(Z:bG x=some I)(T:kv ab=some k)(Q:kv r=some G)
 {p v J'}(au:n key=false)(h:aT (.slc sz I k G) env J key=some (p,v,J'))(W:p):Good P aE nt env J' (ins n key) a v ((execOp a.eval o).run P w):=by
 simp only[aT,bo]at h;obtain⟨⟨az,aA⟩,O,⟨pl,l⟩,N,⟨ay,h⟩,M,he⟩:=h;simp only at he;split at he
 . rename_i es;obtain⟨rfl,rfl,rfl⟩:=he;obtain⟨B,D,E,h0,h1,u,af⟩:=W;obtain⟨g,cap,d,b,off,f,F,ad,aw,ax,K,z,am⟩:=ch.kz (cp R Z O B).1.eb;have ah:=r1 R T N D;have aa:=r1 R Q M E;have y:=EB (P:=P) (w:=w) (isSlice:=true) (cap:=cap) ah aa h0 h1 u ad;generalize ao:(l.getD 0).toNat=L at*;generalize an:(h.getD (es.length:Int)).toNat=H at*;have s:((es.take H).drop L).length=H-L:=by simp;omega
   refine Good.pure R (x:= .slice (if cap=L then g else g.map (·.add (L*sz))) (H-L) (cap-L)) ?_ (.c ?_) rfl
   . simp[execOp,U,Instr.sliceAt,Instr.slice,underlying,Y,F,y,jS X]
   . show ch w S _ _;rw[<-s];have ag:∀(i:Nat) e,((es.take H).drop L)[i]?=some e->es[L+i]?=some e/\L+i<H:=(by grind);by_cases A:es=[]
     . subst A;simp;exact ch.slice [] _ _ 0 0 0 (λ_ _=>undef) (by simp) (by simp[dT]) (by simp) (by simp) (by simp) (by simp)
     . have ak:d=sz:=by
        obtain⟨cQ,ar⟩:=CT es A;grind
       subst ak;refine ch.slice _ _ _ d b (off+L*d) (λi j=>f (L+i) j) (by rw[s];omega) (by rw[s];omega) (λe he=>af e (uP (GA he))) ?_ ?_ ?_
       . intro aJ;have:L<H:=(by grind);rw[bl,K A];unfold Addr.add;split
         . rename_i h;simp[h]
         . rfl
       . intro i j r ai;rw[s]at r;have:=z (L+i) j (by omega) ai;rw[show off+L*d+i*d+j=off+(L+i)*d+j by rw[im];omega];exact this
       . intro i j e t he ht;exact am _ _ _ _ (ag i e he).1 ht
 . rename_i b d off len;obtain⟨rfl,rfl,rfl⟩:=he;obtain⟨B,D,E,h0,h1,u,rfl⟩:=W;have aq:=cp R Z O B;obtain⟨g,F,K,av⟩:=bq.hl aq.1.eb;have ah:=r1 R T N D;have aa:=r1 R Q M E;have y:=EB (P:=P) (w:=w) (isSlice:=true) (cap:=(φ b).2-off) ah aa h0 h1 u (by omega);have ap:∀(q o m:Nat),(Addr.add ⟨q,o,none⟩ m:Addr)=⟨q,o+m,none⟩:=by
    grind[Addr.add]
   have aj:k.isNone=true->l.getD 0=0:=by
    intro aJ;cases k with
    |some _=>grind
    |none=>grind[j2,Option.some.injEq,Prod.mk.injEq]
   generalize l.getD 0=L at*;generalize h.getD (len:Int)=H at*;refine Good.pure R (x:= .slice (if(φ b).2-off=L.toNat then g else g.map (·.add (L.toNat*sz))) (H.toNat-L.toNat) ((φ b).2-off-L.toNat)) ?_ (.c ?_) ?_
   . simp[execOp,U,Instr.sliceAt,Instr.slice,underlying,Y,F,y,jS X]
   . by_cases aJ:k.isNone=true
     . rw[ae aJ];have:=aj aJ;subst this;refine⟨_,rfl,λz=>?_,by omega⟩;grind
     . rw[al aJ];refine⟨_,_,rfl,λz=>?_,by omega⟩;grind
   grind[V.aF,C.aF]
 grind
theorem aaH(R:Rel aE nt φ S env J n a w){k z:IntKind}(r:o.op= .slice ty x none (some (.const (.int k 0))) (some (.const (.int z 0))))(u:P.underlying ty=some (.slice e))
 {sz:Nat}(t:eu P e=some sz){m:aU}(y:bG x=some m)
 {p v J'}(A:n key=false)(h:aT (.slc0 m) env J key=some (p,v,J'))(s:p):Good P aE nt env J' (ins n key) a v ((execOp a.eval o).run P w):=by
 simp only[aT,bo]at h;obtain⟨⟨B,D⟩,q,he⟩:=h;simp at he;have j:∀(g:Option _) (l c:Nat),a.eval x= .slice g l c->∃a2,(execOp a.eval o).run P w= .ok (.value (.slice a2 0 0)) w:=by
  intro g l c d;have cQ:∀v,a.eval (.const v)=v:=λ_=>rfl;exact⟨_,by simp[execOp,r,Instr.sliceAt,Instr.slice,underlying,u,d,jS t];rfl⟩
 split at he<;>simp only[dF,reduceCtorEq]at he
 all_goals
  obtain⟨rfl,rfl,rfl⟩:=he;have h1:=(cp R y q s).1.eb
 . obtain⟨g,cap,C,b,off,f,d,_⟩:=ch.kz h1;obtain⟨a2,i⟩:=j _ _ _ d;exact Good.pure R i (.c ⟨a2,rfl⟩) rfl
 . obtain⟨g,d⟩:=h1;obtain⟨a2,i⟩:=j _ _ _ d;exact Good.pure R i (.c ⟨a2,rfl⟩) rfl
 . obtain⟨g,d,_⟩:=bq.hl h1;obtain⟨a2,i⟩:=j _ _ _ d;exact Good.pure R i (.c ⟨a2,rfl⟩) rfl
theorem js{b:Nat}{a:Nat×Nat}(h:w.heap[b]?=some (.cells vs.toArray E a))(j:Nat):w.cell? ⟨b,j,none⟩=vs[j]?:=by
 grind[World.cell?]
theorem uF{g:Bool×Nat}(aq:ou P ty=some g){blk off0 o:Nat}{v:V}
 (a:a' (bq φ w S) cs vs)(c:cs.all (C.aF n)=true)(i:∀j,j<vs.length->w.cell? ⟨blk,off0+j,none⟩=vs[j]?)(ah:j3 g.1 g.2 cs o=some v):
 ∃x,(loadVar ty ⟨blk,off0+o,none⟩).run P w= .ok x w/\ck φ w S v x/\v.aF n=true:=by
 obtain⟨h1,e,b⟩:=M' aq;obtain⟨d,k,f⟩:=LP a c ah b;rw[a.length]at d;grind[ZS]
theorem a'.U1(h:a' (ch w S) ts xs):a' (bq φ w S) (ts.map .t) xs:=a'.aiJ h
theorem Jn{b sz i:Nat}(h:cW φ w S b (.arr sz es))(k:i<es.length):
 (φ b).2≠0/\∃(vs:List Value) (E:TypeId) (xs:List Value),w.heap[(φ b).1]?=some (.cells vs.toArray E (0,0))/\vs.length=(φ b).2*sz/\(el es i).length=sz/\xs.length=sz/\a' (ch w S) (el es i) xs/\
  (∀j,j<sz->vs[i*sz+j]?=xs[j]?)/\(i+1)*sz<=vs.length:=by
 obtain⟨h1,f,a,g,bf⟩:=h;have h0:(φ b).2≠0:=by omega
 obtain⟨vs,E,aa,ah,l,hs⟩:=bf h0;have c:es[i]?=some (el es i):=by grind[el]
 have e:=a _ (fl c);have d:(i+1)*sz<=vs.length:=by rw[ah];exact eZ _ (by omega)
 refine⟨h0,vs,E,(vs.drop (i*sz)).take sz,aa,ah,e,by grind,?_,?_,d⟩
 . grind[a'.lM]
 grind
theorem aaI(R:Rel aE nt φ S env J n a w)(af:o.op= .load ty x){g:Bool×Nat}(aq:ou P ty=some g){G:aU}(u:bG x=some G)
 {p v J'}(ad:n key=false)(h:aT (.load g.1 g.2 G) env J key=some (p,v,J'))(s:p):Good P aE nt env J' (ins n key) a v ((execOp a.eval o).run P w):=by
 simp only[aT,bo]at h;obtain⟨⟨ak,al⟩,r,he⟩:=h;simp only at he;have C:∀(blk off:Nat) (y:Value),a.eval x= .pointer (some ⟨blk,off,none⟩)->(loadVar ty ⟨blk,off,none⟩).run P w= .ok y w->(execOp a.eval o).run P w= .ok (.value y) w:=by
  simp_all[execOp,Instr.loadAt,Instr.sureAddr]
 split at he
 . split at he
   . rename_i cs d;simp only[bB]at he;obtain⟨v0,m,rfl,rfl,rfl⟩:=he;have h1:=(cp R u r s).1.hS;obtain⟨_,vs,E,aa,q,_⟩:=R.bR.blk _ _ d;have z:=(R.dV _ _ d).2;obtain⟨y,l,k,e⟩:=uF (n:=n) aq q z (λj _=>by rw[js aa,gC]) m;grind[Good.pure]
   . rename_i E c d;split at he
     . rename_i O;obtain⟨Q,rfl⟩:=O;obtain⟨rfl,rfl,rfl⟩:=he;have h1:=(cp R u r s).1.hS;obtain⟨_,⟨K,Z,aa,U,V⟩,_⟩:=R.bR.blk _ _ d;have z:=(R.dV _ _ d).2;have T:K.oneCell'=true:=by rcases U with rfl|rfl<;>rfl
       have q:a' _ [.dead,c] [K,Z]:= .cons T (.cons V .nil);obtain⟨y,l,k,e⟩:=uF (n:=n) (off0:=0) (o:=1) (v:= .c c) aq q (by simp only[sa,List.all_nil,CO];exact z) (λj _=>by rw[js aa,gC]) (by simp[j3,Q]);grind[Good.pure]
     grind
   grind
 . rename_i b sz i I;split at he
   . rename_i Y es d;simp only[bB,dY]at he;obtain⟨v0,m,rfl,rfl,rfl⟩:=he;obtain⟨B,rfl,D⟩:=s;have h1:=(cp R u r B).1.i';obtain⟨_,vs,E,xs,aa,ah,ae,ag,q,N,_⟩:=Jn (R.bR.blk _ _ d) D;obtain⟨y,l,k,e⟩:=uF (n:=n) aq (a'.U1 q) (Oh n _) (λj A=>by rw[js aa,N j (by omega)]) (Pe m);exact Good.pure R (C _ _ _ h1 l) k e
   . rename_i Y es ai aj c d;split at he
     . grind
     . rename_i H;obtain⟨⟨a1,a2,a3,a4,a5,ab⟩,⟨vs,E,k1,k2,k3,L,k4,k5⟩,k6⟩:=R.bR.blk _ _ d;have z:=(R.dV _ _ d).2;split at he
       . rename_i F;subst F;obtain⟨rfl,rfl,rfl⟩:=he;obtain⟨B,rfl,rfl⟩:=s;have h1:=(cp R u r B).1.i'
         obtain⟨y,l,k,e⟩:=uF (n:=n) (vs:=[L]) (o:=0) (v:= .c c) aq (.cons k5 .nil) (by simpa[bV.aF]using z) (λj A=>by
          have:j=0:=(by simpa using A);subst this
          rw[js k1,yQ,k4];rfl) (by simp[j3,H])
         exact Good.pure R (C _ _ _ h1 l) k e
       . rename_i F;simp only[bB,dY]at he;obtain⟨v0,m,rfl,rfl,rfl⟩:=he;obtain⟨B,rfl,D⟩:=s;have h1:=(cp R u r B).1.i';simp only[loadT,bW,b6,bB]at m;obtain⟨t,ht,rfl⟩:=m;have M:es[i]?=some (el es i):=by unfold el;rw[List.getD,fb D];rfl
         obtain⟨am,X,W⟩:=k3 i I _ t M ht (λh=>F h.2)
         obtain⟨y,l,k,e⟩:=uF (n:=n) (φ:=φ) (cs:=[.t t]) (o:=0) (v:= .c (.t t)) aq (.cons W .nil) rfl (λj A=>by
          have:j=0:=(by simpa using A);subst this
          rw[js k1,yQ,X];rfl) (by simp[j3,H])
         exact Good.pure R (C _ _ _ h1 l) k e
   grind
 . rename_i ts I;simp only[bB,dY]at he;obtain⟨v0,m,rfl,rfl,rfl⟩:=he;obtain⟨blk,off,f,h1,aa⟩:=(cp R u r s).1.eb;have q:a' (ch w S) ts ((List.range ts.length).map f):=by
    grind[a'.lM]
   obtain⟨y,l,k,e⟩:=uF (n:=n) aq (a'.U1 q) (Oh n _) (blk:=blk) (off0:=off) (λj A=>by simp_all) (Pe m);exact Good.pure R (C _ _ _ h1 l) k e
 grind
theorem Oi{k:Nat}{s t:T}{b:Bool}(h:Cu k s t=some b)(c:s8 P ty=some k){x y:Value}(f:ch w S s x)(g:ch w S t y)(d:Nat):
 (Op.equalIn (d+1) ty x y).run P w= .ok b w:=by
 have i:∀a b:aj,(a==b)=decide (a=b):=λa b=>by grind
 unfold s8 at c;unfold Cu at h;split at h
 . cases h;cases f;cases g;split at c<;>simp at c;rename_i e;unfold Op.equalIn;simp only[Sem.run_bind,run_underlying e];rfl
 . simp at h;obtain⟨rfl,rfl⟩:=h;cases f;cases g;split at c<;>simp at c;rename_i e;unfold Op.equalIn;simp only[Sem.run_bind,run_underlying e,Result.andThen_ok];rfl
 . cases f with|str s1 h1=>cases g with|str l j=>
   split at c<;>simp at c;rename_i e;unfold Op.equalIn;simp only[Sem.run_bind,run_underlying e,Result.andThen_ok];simp_all[beq_toListBytes,ByteArray.toList_eq]
 grind
theorem Oj{k:Nat}(h:s8 P ty=some k):qq P ty=some false:=by
 grind[s8,qq]
theorem K7{d:Nat}{xs j:Array Value}:∀{fs:List Field} {i:Nat} {ks:a7} {ps c:List C} {us vs:List Value} {r:Bool},zC P i fs=some ks->ml ks ps c=some r->
 a' (bq φ w S) ps us->a' (bq φ w S) c vs->xs.toList.drop i=us->j.toList.drop i=vs->(Op.eqFields (d+1) xs j fs).run P w= .ok r w
 |[],i,ks,ps,c,us,vs,r,a,he,h1,e,aM,g=>by
  simp[zC]at a;subst a;cases ps<;>cases c<;>simp[ml]at he;subst he;rfl
 |f::fs,i,ks,ps,c,us,vs,r,a,he,h1,e,aM,g=>by
  simp[zC,bo]at a;obtain⟨⟨F,E⟩,k,A,H,B,rfl⟩:=a;unfold ml at he;split at he
  . grind
  . rename_i G I x J y K t;cases t;simp only[bo,bB]at he;obtain⟨b,s,L,D,rfl⟩:=he;cases h1 with|cons h1 p=>
    cases e with|cons e q=>
    rename_i u M v N;have n:xs[i]?=some u:=by have:=eM (·[0]?) aM;grind
    have o:j[i]?=some v:=by have:=eM (·[0]?) g;grind
    have ih:=K7 (d:=d) B D p q (by rw[<-uT,aM];rfl) (by rw[<-uT,g];rfl);have l:∀(m:Array _) (z:Value),m[i]?=some z->(part f.type m f.offset).run P w= .ok z w:=by
     simp_all[part,uw,Oj]
    simp[Op.eqFields,l _ _ n,l _ _ o,Oi s A h1 e d];cases b
    all_goals simp_all
  grind
theorem ZT(R:Rel aE nt φ S env J n a w){m:TypeId}(E:o.op= .binOp op ty x y m)(j:op= .eql\/op= .neq){ks:a7}(f:Iu P ty=some ks)
 {b c:aU}(k:bG x=some b)(l:bG y=some c)
 {p v J'}(D:n key=false)(h:aT (.eqAgg (op== .neq) ks b c) env J key=some (p,v,J'))(e:p):Good P aE nt env J' (ins n key) a v ((execOp a.eval o).run P w):=by
 simp only[aT,bo]at h;obtain⟨⟨I,L⟩,g,⟨K,M⟩,i,he⟩:=h;simp at he;split at he
 . simp only[bB]at he;obtain⟨r,F,rfl,rfl,rfl⟩:=he;obtain⟨us,G,u⟩:=(cp R k g e.1).1.mP;obtain⟨vs,H,z⟩:=(cp R l i e.2).1.mP;unfold Iu at f;split at f
   . rename_i fs C;have s:(eqGuard op ty x y (a.eval x) (a.eval y)).run P w= .ok () w:=(by simp_all[eqGuard]);have B:P.fieldsOf ty=fs:=(by grind[Program.fieldsOf]);have q:(Op.equal ty (.agg us.toArray) (.agg vs.toArray)).run P w= .ok r w:=by
      obtain⟨d,A⟩:∃d,Op.maxDepth=d+2:=⟨9998,rfl⟩
      grind[Op.equal,run_equalIn_struct,K7]
     have t:(binOp op ty (a.eval x) (a.eval y)).run P w= .ok (.bool (if(op== .neq)then !r else r)) w:=by
      rcases j with rfl|rfl
      . simp_all[binOp]
      simp_all[binOp]
     refine Good.pure R ?_ (.qS _) rfl;simp_all[execOp]
   grind
 grind
theorem q3{b:Nat}(h:w'.heap[b]?=w.heap[b]?)(j:Nat):w'.cell? ⟨b,j,none⟩=w.cell? ⟨b,j,none⟩:=by
 grind[World.cell?]
theorem wk{b:Nat}{o:Obj}(h:w.heap[b]?=some o):b<w.heap.size:=(CS.1 h).1
theorem cW.j6{b:Nat}{x:bV}(h:cW φ w S b x)(h0:(φ b).2≠0):(φ b).1<w.heap.size:=by
 cases x with
 |box cs=>obtain⟨_,_,_,aa,_⟩:=h;grind
 |arr sz es=>obtain⟨_,_,_,_,bf⟩:=h;grind
 |set ks=>obtain⟨_,⟨_,_,aa,_⟩,_⟩:=h;grind
 |buf E s=>obtain⟨_,_,bf⟩:=h;grind
 |b' E c=>obtain⟨_,⟨_,_,aa,_⟩,_⟩:=h;grind
 |cA sz es i o c=>obtain⟨_,⟨_,_,aa,_⟩,_⟩:=h;grind
theorem cW.qz{b:Nat}{x:bV}(h:cW φ w S b x)(h0:(φ b).2≠0):∀j,¬S (φ b).1 j:=by
 cases x with
 |box cs=>obtain⟨_,_,_,_,_,hs⟩:=h;grind
 |arr sz es=>obtain⟨_,_,_,_,bf⟩:=h;grind
 |set ks=>exact h.2.2
 |buf E s=>exact(h.2.2 h0).2
 |b' E c=>exact h.2.2
 |cA sz es i o c=>exact h.2.2
theorem cW.mono{A:dz}{b:Nat}{x:bV}(m:gq w S w' S)(q:∀b,n b=true->A b=φ b)(y:n b=true)(G:x.aF n=true)(aa:(φ b).2≠0->w'.heap[(φ b).1]?=w.heap[(φ b).1]?)
 (h:cW φ w S b x):cW A w' S b x:=by
 cases x with
 |box cs=>
  obtain⟨h0,vs,E,h1,a,f⟩:=h;simp only[cW,q b y];refine⟨h0,vs,E,(aa h0).trans h1,a.imp λc v F p=>bq.mono m q (by grind[bV.aF]) p,f⟩
 |arr sz es=>
  obtain⟨h1,a,f,B,bf⟩:=h;simp only[cW,q b y];refine⟨h1,a,f,B,λh0=>?_⟩;obtain⟨vs,E,k1,k2,k3,k4⟩:=bf h0;exact⟨vs,E,(aa h0).trans k1,k2,λi j e t he ht=>let⟨v,D,p⟩:=k3 i j e t he ht;⟨v,D,ch.mono m p⟩,k4⟩
 |set ks=>
  grind[cW]
 |buf E s=>
  grind[cW]
 |b' E c=>
  grind[cW,bq.mono,bV.aF]
 |cA sz es i o c=>
  grind[cW,ch.mono,bq.mono,bV.aF]
theorem Rel.world(R:Rel aE nt φ S env J n a w)(W:Nat->Prop)(p:w'.os=w.os)(ht:w'.tape=w.tape)(o:w'.output=w.output)(hs:w.heap.size<=w'.heap.size)
 (e:∀b:Nat,b<w.heap.size->¬W b->w'.heap[b]?=w.heap[b]?)
 (ds:∀b,W b->(∀j,¬S b j)/\(∀k y,aY J k=some y->(φ k).2≠0->(φ k).1≠b)/\(aE.B b\/aE.j9.heap.size<=b)):Rel aE nt φ S env J n a w':=by
 have m:gq w S w' S:=⟨λ_ _ h=>h,λb j h=>q3 (e b (R.bR.st b j h) (λf=>(ds b f).1 j h)) j⟩
 refine⟨⟨λb x c=>?_,R.bR.inj,λb j h=>mx (R.bR.st b j h) hs⟩,λk g v ah aq=>?_,R.hK,R.gM,R.dV,R.size,R.defers,?_,R.own,R.fix,R.gO⟩
 . have dm:=R.bR.blk b x c;exact cW.mono m (λ_ _=>rfl) (R.dV b x c).1 (R.dV b x c).2 (λh0=>e _ (dm.j6 h0) (λf=>(ds _ f).2.1 b x c h0 rfl)) dm
 . obtain⟨x,c,q⟩:=R.gN k g v ah aq;exact⟨x,c,ck.mono m (λ_ _=>rfl) (R.gM k g v ah aq) q⟩
 . refine⟨p.trans R.ext.os,ht.trans R.ext.tape,o.trans R.ext.output,fg R.ext.size hs,λb aC du=>?_,R.ext.mono.trans m,R.ext.si⟩;rw[e b (mx aC R.ext.size) _]
   . exact R.ext.block b aC du
   grind
theorem Rel.congr(R:Rel aE nt φ S env J n a w)(h:∀b,aY J' b=aY J b):Rel aE nt φ S env J' n a w:=
 ⟨⟨λb x c=>R.bR.blk b x (h b▸c),λb e x y c f=>R.bR.inj b e x y (h b▸c) (h e▸f),R.bR.st⟩,R.gN,R.hK,R.gM,λb x c=>R.dV b x (h b▸c),R.size,R.defers,R.ext,λb x c=>R.own b x (h b▸c),R.fix,R.gO⟩
theorem Rel.sub(R:Rel aE nt φ S env J n a w)(h:∀b x,aY J' b=some x->aY J b=some x):Rel aE nt φ S env J' n a w:=
 ⟨⟨λb x c=>R.bR.blk b x (h b x c),λb e x y c f=>R.bR.inj b e x y (h b x c) (h e y f),R.bR.st⟩,R.gN,R.hK,R.gM,λb x c=>R.dV b x (h b x c),R.size,R.defers,R.ext,λb x c=>R.own b x (h b x c),R.fix,R.gO⟩
theorem Rel.del(R:Rel aE nt φ S env J n a w)(b:Nat):Rel aE nt φ S env (ia J b) n a w:=
 R.sub λk x c=>by grind[fN]
theorem Rel.zp(R:Rel aE nt φ S env J n a w){p:dz}(e:∀b,n b=true->p b=φ b):Rel aE nt p S env J n a w:=by
 refine⟨⟨λb x c=>?_,λb f x y c o=>?_,R.bR.st⟩,λk g v ah aq=>?_,R.hK,R.gM,R.dV,R.size,R.defers,R.ext,λb x c h0=>?_,λb j=>(e b (R.gO b j)).trans (R.fix b j),R.gO⟩
 . exact cW.mono (gq.refl w S) e (R.dV b x c).1 (R.dV b x c).2 (λ_=>rfl) (R.bR.blk b x c)
 . rw[e b (R.dV b x c).1,e f (R.dV f y o).1];exact R.bR.inj b f x y c o
 . obtain⟨x,c,q⟩:=R.gN k g v ah aq;exact⟨x,c,ck.mono (gq.refl w S) e (R.gM k g v ah aq) q⟩
 . rw[e b (R.dV b x c).1]at h0⊢;exact R.own b x c h0
theorem Rel.put (R:Rel aE nt φ S env J n a w){b:Nat}{x:bV}(q:n b=true)(v:x.aF n=true)(dm:cW φ w S b x)
 (t:(φ b).2≠0->(∀k y,aY J k=some y->k≠b->(φ k).2≠0->(φ k).1≠(φ b).1)/\(aE.B (φ b).1\/aE.j9.heap.size<=(φ b).1)):Rel aE nt φ S env (c9 J b x) n a w:=by
 refine⟨⟨λk y c=>?_,λk o y p c e j h0 f=>?_,R.bR.st⟩,R.gN,R.hK,R.gM,λk y c=>?_,R.size,R.defers,R.ext,λk y c h0=>?_,R.fix,R.gO⟩
 . rw[c0]at c;split at c
   . grind
   . exact R.bR.blk k y c
 . rw[c0]at c e;split at c
   . grind
   . split at e
     . grind
     . exact R.bR.inj k o y p c e j h0 f
 . rw[c0]at c;split at c
   . grind
   . exact R.dV k y c
 . rw[c0]at c;split at c
   . grind
   . exact R.own k y c h0
def fS(φ:dz)(n:Nat)(q:Nat×Nat):dz:=λb=>if b=n then q else φ b
theorem KC{b:Nat}(a:n key=false)(h:n b=true):fS φ key q b=φ b:=by grind[fS]
theorem dp{k:Nat}:fS φ k q k=q:=by simp[fS]
theorem Rel.jA (R:Rel aE nt φ S env J n a w)(c:n key=false){x:bV}(q:Nat×Nat)(f:x.aF n=true)(dm:cW (fS φ key q) w S key x)
 (e:q.2≠0->(∀k y,aY J k=some y->(φ k).2≠0->(φ k).1≠q.1)/\(aE.B q.1\/aE.j9.heap.size<=q.1)):Rel aE nt (fS φ key q) S env (c9 J key x) (ins n key) a w:=by
 refine((R.zp (λb h=>KC c h)).more (λ_ h=>kP h)).put ac' (bV.hv (λ_ h=>kP h) f) dm ?_;rw[dp];intro h0;refine⟨λk y j o h=>?_,(e h0).2⟩;rw[KC c (R.dV k y j).1]at h⊢;grind
theorem Dn{o:Obj}{b:Nat}(h:b<w.heap.size):(w.alloc o).heap[b]?=w.heap[b]?:=by
 show(w.heap.push o)[b]?=_;grind
theorem oC{o:Obj}:(w.alloc o).heap[w.heap.size]?=some o:=by
 show(w.heap.push o)[w.heap.size]?=_;simp
theorem Rel.alloc(R:Rel aE nt φ S env J n a w)(o:Obj):Rel aE nt φ S env J n a (w.alloc o):=
 R.world (λ_=>False) rfl rfl rfl (by simp) (λb c _=>Dn c) (λ_ h=>h.elim)
theorem Rel.vO(R:Rel aE nt φ S env J n a w)(o:Obj):gq w S (w.alloc o) S:=
 ⟨λ_ _ h=>h,λb j h=>q3 (Dn (R.bR.st b j h)) j⟩
theorem Rel.UG(R:Rel aE nt φ S env J n a w)(e:n key=false)(f:a' (bq φ w S) cs vs)(o:cs.all (C.aF n)=true)(E:TypeId):
 Rel aE nt (fS φ key (w.heap.size,1)) S env (c9 J key (.box cs)) (ins n key) a (w.alloc (.cells vs.toArray E)):=by
 have m:=R.vO (.cells vs.toArray E);refine(R.alloc _).jA e _ o ?_ ?_
 . simp only[cW,dp];refine⟨by simp,vs,E,oC,f.imp λc v t p=>bq.mono m (λb h=>KC e h) (by grind) p,λj h=>?_⟩;have:=R.bR.st _ _ h;grind
 . intro _;refine⟨λk y q h0=>?_,.inr R.ext.size⟩;have:=(R.bR.blk k y q).j6 h0;grind
theorem ur(h:kb P ty=some cs):∃i z,P.info? ty=some i/\i.zero=some z/\a' (bq φ w S) cs z.cells.toList/\cs.all (C.aF n)=true:=by
 grind[kb,bo,IH]
theorem LQ(R:Rel aE nt φ S env J n a w)(j:o.op= .alloc ty)(b:kb P ty=some cs)
 {p v J'}(f:n key=false)(h:aT (.alloc cs) env J key=some (p,v,J'))(k:p):Good P aE nt env J' (ins n key) a v ((execOp a.eval o).run P w):=by
 obtain⟨rfl,rfl,rfl⟩:=h;obtain⟨i,z,g,b,d,e⟩:=ur b;have R':=R.UG f d e ty;refine⟨.pointer (some ⟨w.heap.size,0,none⟩),_,S,_,.inl ?_,.c ?_,by simp[V.aF,C.aF,ins],R'⟩
 . simp_all[execOp,Instr.alloc,zeroValue,typeInfo,newVar,newRow]
 grind[bq,dp]
theorem acI(R:Rel aE nt φ S env J n a w)(j:o.op= .box ty x){b:aU}(l:bG x=some b)
 {p v J'}(i:n key=false)(h:aT (.box b) env J key=some (p,v,J'))(k:p):Good P aE nt env J' (ins n key) a v ((execOp a.eval o).run P w):=by
 simp only[aT,bo,bB]at h;obtain⟨⟨m,q⟩,g,cs,f,rfl,rfl,rfl⟩:=h;have aq:=cp R l g k;obtain⟨d,e⟩:=oF aq.1 f aq.2;have R':=R.UG i d e ty;refine⟨.pointer (some ⟨w.heap.size,0,none⟩),_,S,_,.inl ?_,.c ?_,by simp[V.aF,C.aF,ins],R'⟩
 . simp[execOp,j,Instr.box,newVar,newRow]
 grind[bq,dp]
def jy{α:Type}(vs:List α)(off:Nat)(xs:List α):List α:=vs.take off++xs++vs.drop (off+xs.length)
theorem oH{vs:List α}{xs:List α}(h:off+xs.length<=vs.length)(k:Nat):
 (jy vs off xs)[k]?=if k<off then vs[k]? else if k<off+xs.length then xs[k-off]? else vs[k]?:=by
 unfold jy;by_cases h1:k<off
 . grind
 grind
theorem pW{vs:List α}{xs:List α}(h:off+xs.length<=vs.length):(jy vs off xs).length=vs.length:=by
 grind[jy]
theorem Na{vs:List α}{x:α}{xs:List α}(h:off+(x::xs).length<=vs.length):jy (vs.set off x) (off+1) xs=jy vs off (x::xs):=by
 apply yM;grind[oH]
theorem Mk{b:Nat}(h:w.heap[b]?=some (.cells vs.toArray E (0,0)))(off:Nat)(v:Value):
 (w.setCell ⟨b,off,none⟩ v).heap[b]?=some (.cells (vs.set off v).toArray E (0,0))/\∀a,a≠b->(w.setCell ⟨b,off,none⟩ v).heap[a]?=w.heap[a]?:=by
 simp_all[World.setCell,Gw,dZ]
theorem oD{b:Nat}{E:TypeId}:∀(xs:List Value) (off i:Nat) (vs:List Value) (w:World),w.heap[b]?=some (.cells vs.toArray E (0,0))->off+i+xs.length<=vs.length->(∀x,x∈xs->x.oneCell'=true)->
 ∃w',(storeCells ⟨b,off,none⟩ xs i).run P w= .ok () w'/\w'.os=w.os/\w'.tape=w.tape/\w'.output=w.output/\w'.heap.size=w.heap.size/\
  w'.heap[b]?=some (.cells (jy vs (off+i) xs).toArray E (0,0))/\∀a:Nat,a≠b->w'.heap[a]?=w.heap[a]?
 |[],off,i,vs,w,h,ah,d=>⟨w,rfl,rfl,rfl,rfl,rfl,by simp[jy,h],λ_ _=>rfl⟩
 |x::xs,off,i,vs,w,h,ah,d=>by
  have l:Addr.add ⟨b,off,none⟩ i=⟨b,off+i,none⟩:=by grind[Addr.add]
  have aC:off+i<vs.length:=by grind
  have m:w.cell? ⟨b,off+i,none⟩=some vs[off+i]:=by rw[js h];simp
  have n:w.frozen? ⟨b,off+i,none⟩=false:=by grind[World.frozen?]
  have hs:=Mk h (off+i) x;obtain⟨w',h1,e,f,g,bf,k,j⟩:=oD xs off (i+1) _ _ hs.1 (by grind) (λy o=>d y (by grind));refine⟨w',?_,e,f,g,by simp_all,?_,λa c=>(j a c).trans (hs.2 a c)⟩
  . simp_all[storeCells,run_store]
  grind[Na]
theorem a'.fill{c:Type}{R:α->c->Prop}{cs a:List α}{vs xs:List c}(h:a' R cs vs)(k:a' R a xs)(o:Nat):a' R (cs.take o++a++cs.drop (o+a.length)) (jy vs o xs):=by
 rw[k.length];exact((h.take o).append k).append (h.drop _)
theorem Kl(h:a' (bq φ w S) cs xs):∀x,x∈xs->x.oneCell'=true:=by
 induction h with
 |nil=>simp
 |cons h _ ih=>
  intro x a;rcases eR.1 a with rfl|a
  . exact bq.je h
  grind
theorem ck.undef:ck φ w S (.a6 []) undef:= .a6 [] [] rfl (by simp)
theorem r2:∀{cs:List C} {ts:List T} {xs:List Value},toTs cs=some ts->a' (bq φ w S) cs xs->a' (ch w S) ts xs
 |[],ts,xs,h,b=>by simp[toTs]at h;subst h;cases b;exact .nil
 |c::cs,ts,xs,h,b=>by
  simp[toTs,bo,bB]at h;obtain⟨t,ht,f,e,rfl⟩:=h;cases b with
  |cons h1 d=>
   refine .cons ?_ (r2 e d);unfold toT at ht;split at ht<;>simp at ht
   . subst ht;exact h1
   . subst ht;obtain⟨a,rfl⟩:=h1;exact ch.slice [] a 0 0 0 0 (λ_ _=>undef) (by simp) (by simp) (by simp) (by simp) (by simp) (by simp)
theorem we:∀{cs:List C} {ts:List T},toTs cs=some ts->ts.length=cs.length
 |[],ts,h=>by grind[toTs]
 |c::cs,ts,h=>by
  simp[toTs,bo,bB]at h;obtain⟨t,ht,b,a,rfl⟩:=h;simp[we a]
theorem Jo{n:Nat->Bool}{cs a:List C}(h:cs.all (C.aF n)=true)(k:a.all (C.aF n)=true)(o:Nat):(vA cs o a).all (C.aF n)=true:=by
 grind[vA]
theorem xo{vs:List α}{p:Nat}{x:α}(h:p<vs.length)(q:Nat):(jy vs (p+0) [x])[q]?=if q=p then some x else vs[q]?:=by
 grind[oH]
theorem Ax{sz i j a b:Nat}(d:j<sz)(e:b<sz)(h:i*sz+j=a*sz+b):i=a/\j=b:=by
 rcases CJ i a with c|c|c
 . have:=eZ sz (show i+1<=a from c);grind
 . grind
 . have:=eZ sz (show a+1<=i from c);grind
theorem Rel.rewrite(R:Rel aE nt φ S env J n a w){b:Nat}{x t:bV}(o:aY J b=some x)(h0:(φ b).2≠0)(G:t.aF n=true)
 (F:w'.os=w.os)(ht:w'.tape=w.tape)(E:w'.output=w.output)(hs:w'.heap.size=w.heap.size)(v:∀p:Nat,p≠(φ b).1->w'.heap[p]?=w.heap[p]?)
 (dm:gq w S w' S->cW φ w' S b t):Rel aE nt φ S env (c9 J b t) n a w':=by
 have A:=R.bR.blk b x o
 have B:=(R.del b).world _ F ht E (w6 hs.symm) (λk _ c=>v k c) (λk c=>by
  subst c;refine⟨A.qz h0,λk y f c=>?_,R.own b x o h0⟩;rw[fN]at f;split at f
  . grind
  . rename_i q
    exactλe=>R.bR.inj k b y x f o (dZ q) c h0 e)
 have m:gq w S w' S:=⟨λ_ _ h=>h,λk j h=>q3 (v k (λe=>A.qz h0 j (e▸h))) j⟩
 have D:=B.put (R.dV b x o).1 G (dm m) (λ_=>⟨λk y f q c=>by
  rw[fN]at f;split at f
  . grind
  . exact R.bR.inj k b y x f o q c h0,R.own b x o h0⟩)
 refine D.congr λk=>?_;grind[c0,fN]
theorem ZU(R:Rel aE nt φ S env J n a w)(bj:o.op= .store ty x y){k:Nat}(bi:eu P ty=some k){aB aC:aU}(u:bG x=some aB)(ad:bG y=some aC)
 {p v J'}(bh:n key=false)(h:aT (.store k aB aC) env J key=some (p,v,J'))(I:p):Good P aE nt env J' (ins n key) a v ((execOp a.eval o).run P w):=by
 simp only [aT,bo,eF] at h;obtain ⟨⟨bs,bu⟩,W,⟨bt,bv⟩,X,cs,M,Z,he⟩:= h;simp only at he M;have ab:∀ (blk off:Nat) (xs:List Value) (w':World),a.eval x = .pointer (some ⟨blk,off,none⟩)->(a.eval y).cells.toList = xs->xs.length = k->(storeCells ⟨blk,off,none⟩ xs 0).run P w = .ok () w'->
  (execOp a.eval o).run P w= .ok .skip w':=by
  intro blk off xs w' h1 aG be bg;have bf:(a.eval y).cells.size=k:=by grind
  simp_all[execOp,Instr.storeAt,Instr.sureAddr,storeVar,jS]
 split at he
 . rename_i b f;split at he
   . rename_i bd l;simp only[eF,dF,dY]at he;obtain⟨am,rfl,rfl,rfl⟩:=he;have h1:=(cp R u W I.1).1.hS;have q:=cp R ad X I.2;obtain⟨g,A⟩:=oF q.1 M q.2;obtain⟨h0,vs,E,aa,aI,T⟩:=R.bR.blk _ _ l;have bn:=aI.length;have B:(a.eval y).cells.toList.length=k:=by rw[<-g.length,Z]
     obtain⟨w',d,k1,k2,k3,k4,k5,k6⟩:=oD (P:=P) _ f 0 vs w aa (by omega) (Kl g);refine⟨undef,φ,S,w',.inr ⟨ab _ _ _ w' h1 rfl B d,rfl⟩,.undef,rfl,Rel.more ?_ λ_ h=>kP h⟩;refine R.rewrite l h0 (by simpa[bV.aF]using Jo ((R.dV _ _ l).2) A f) k1 k2 k3 k4 k6 (λm=>?_);refine⟨h0,_,E,k5,?_,T⟩;exact(aI.imp λc v av d=>bq.mono m (λ_ _=>rfl) (gh.1 (R.dV _ _ l).2 c av) d).fill (g.imp λc v av d=>bq.mono m (λ_ _=>rfl) (gh.1 A c av) d) f
   . rename_i E aF l;split at he
     . rename_i c;simp only[dF,dY]at he;obtain⟨rfl,rfl,rfl⟩:=he;have h1:=(cp R u W I.1).1.hS;have q:=cp R ad X I.2;obtain⟨g,A⟩:=oF q.1 M q.2;obtain⟨h0,⟨aN,bc,aa,aZ,bk⟩,T⟩:=R.bR.blk _ _ l;have B:(a.eval y).cells.toList.length=k:=by rw[<-g.length,Z]
       have Y:k=1:=by rw[<-Z];rfl
       obtain⟨s,L⟩:∃s,(a.eval y).cells.toList=[s]:=by
        match h:(a.eval y).cells.toList with
        |[s]=>exact⟨s,rfl⟩
        |[]=>rw[h]at B;simp at B;omega
        |_::_::_=>rw[h]at B;simp at B;omega
       obtain⟨w',d,k1,k2,k3,k4,k5,k6⟩:=oD (P:=P) (a.eval y).cells.toList 1 0 [aN,bc] w (b:=(φ b).1) (E:=E) aa (by rw[L];simp) (Kl g);rw[L]at g k5;cases g with|cons aw _=>
       have F:c.aF n=true:=(by simpa using A);refine⟨undef,φ,S,w',.inr ⟨ab _ _ _ w' h1 rfl B d,rfl⟩,.undef,rfl,Rel.more ?_ λ_ h=>kP h⟩;refine R.rewrite l h0 (by simpa[bV.aF]using F) k1 k2 k3 k4 k6 (λm=>?_);exact⟨h0,⟨aN,s,k5,aZ,bq.mono m (λ_ _=>rfl) F aw⟩,T⟩
     . cases he
   grind
 . rename_i b sz i f;have aA:∀{c:C} {xs:List Value},a' (bq φ w S) [c] xs->∃x,xs=[x]/\bq φ w S c x:=by
    intro c xs h;cases h with|cons h1 aG=>cases aG;grind
   split at he
   . rename_i a9 es l;split at he
     . rename_i c aY;have aw:cs=[c]:=by
        unfold yV at aY;grind
       subst aw;obtain⟨rfl,rfl,rfl⟩:=he;obtain⟨U,V,rfl,G,aL⟩:=I;have h1:=(cp R u W U).1.i';have q:=cp R ad X V;obtain⟨g,A⟩:=oF q.1 M q.2;have Y:k=1:=by rw[<-Z];rfl
       obtain⟨s,L,K⟩:=aA g;have ai:=R.bR.blk _ _ l;obtain⟨h0,vs,E,xs,aa,ah,aS,B,au,ax,am⟩:=Jn ai G;obtain⟨ao,ap,ag,aq,ar⟩:=ai;obtain⟨bb,aO,aj,aX,az,T⟩:=ar h0;rw[aa]at aj;cases aj;rw[im]at am;have H:i*sz+f<vs.length:=(by omega);obtain⟨w',d,k1,k2,k3,k4,k5,k6⟩:=oD (P:=P) [s] (i*sz+f) 0 vs w aa (by simp;omega) (λx u=>by rw[qB.1 u];exact bq.je K);refine⟨undef,φ,S,w',.inr ⟨ab _ _ _ w' h1 L (by simp[Y]) d,rfl⟩,.undef,rfl,Rel.more ?_ λ_ h=>kP h⟩;have F:c.aF n=true:=(by simpa using A);refine R.rewrite l h0 (by simpa[bV.aF]using F) k1 k2 k3 k4 k6 (λm=>?_);refine⟨⟨ao,ap,ag,aq,G,by omega⟩,⟨_,E,k5,by rw[pW (by simp;omega)];exact ah,λD j e t he ht Q=>?_,s,?_,bq.mono m (λ_ _=>rfl) F K⟩,T⟩
       . obtain⟨v,r,d⟩:=az _ _ _ _ he ht;have z:j<sz:=by rw[<-ag _ (fl he)];exact(dQ.1 ht).1
         rw[xo H,al (λe=>Q (Ax z (by omega) e))];exact⟨v,r,ch.mono m d⟩
       . rw[xo H,ae rfl]
     simp only[bo,dF,dY]at he;obtain⟨ts,aM,rfl,rfl,rfl⟩:=he;obtain⟨U,V,rfl,G,aL⟩:=I;have h1:=(cp R u W U).1.i';have q:=cp R ad X V;obtain⟨g,A⟩:=oF q.1 M q.2;have a6:=r2 aM g;have bm:=we aM;have ai:=R.bR.blk _ _ l;obtain⟨h0,vs,E,xs,aa,ah,aS,B,au,ax,am⟩:=Jn ai G;obtain⟨ao,ap,ag,aq,ar⟩:=ai;obtain⟨bb,aO,aj,aX,az,T⟩:=ar h0;rw[aa]at aj;cases aj;rw[im]at am;have a8:(a.eval y).cells.toList.length=k:=by rw[<-g.length,Z]
     obtain⟨w',d,k1,k2,k3,k4,k5,k6⟩:=oD (P:=P) _ (i*sz+f) 0 vs w aa (by omega) (Kl g);have a0:=d;refine⟨undef,φ,S,w',.inr ⟨ab _ _ _ w' h1 rfl a8 a0,rfl⟩,.undef,rfl,Rel.more ?_ λ_ h=>kP h⟩;refine R.rewrite l h0 rfl k1 k2 k3 k4 k6 (λm=>?_);refine⟨by simpa using ao,by simpa using ap,?_,aq,λ_=>⟨_,E,k5,by rw[pW (by omega)];exact ah,?_,T⟩⟩
     . intro e he;rcases CU he with he|rfl
       . exact ag e he
       . simp;omega
     . intro D j e t he ht;rw[yQ,oH (by omega)];rw[CK]at he;by_cases O:i=D
       . subst O;rw[ae rfl,ae G]at he;cases he;have aW:=(dQ.1 ht).1;simp at aW;have z:j<sz:=(by omega);have N:=(oH (vs:=el es i) (off:=f) (xs:=ts) (by omega) j)
         unfold jy at N;rw[show f+ts.length=f+k by omega]at N;rw[N]at ht;by_cases af:j<f
         . rw[ae af]at ht;rw[fe,ax j z];obtain⟨v,r,d⟩:=au.get ht;exact⟨v,r,ch.mono m d⟩
         . rw[al af]at ht;rw[bl];by_cases an:j<f+k
           . rw[fe]at ht;rw[fe,show i*sz+j-(i*sz+f)=j-f by omega];obtain⟨v,r,d⟩:=a6.get ht;exact⟨v,r,ch.mono m d⟩
           . rw[bl]at ht;rw[bl,ax j z];obtain⟨v,r,d⟩:=au.get ht;exact⟨v,r,ch.mono m d⟩
       . rw[al O]at he;obtain⟨v,r,d⟩:=az _ _ _ _ he ht;have z:j<sz:=by rw[<-ag _ (fl he)];exact(dQ.1 ht).1
         have:D*sz+j<i*sz+f\/i*sz+f+k<=D*sz+j:=by
          rcases Nat.lt_or_gt_of_ne O with h|h
          . right;have:=eZ sz (show i+1<=D from h);grind
          . left;have:=eZ sz (show D+1<=i from h);grind
         rcases this with h|h
         . rw[ae h];exact⟨v,r,ch.mono m d⟩
         . rw[bl,bl];exact⟨v,r,ch.mono m d⟩
   . rename_i a9 es bp br aF l;obtain⟨⟨a1,a2,a3,a4,a5,ak⟩,⟨vs,E,b1,b2,b3,aQ,b4,aP⟩,aD⟩:=R.bR.blk _ _ l;have aH:aF.aF n=true:=(by simpa[bV.aF]using(R.dV _ _ l).2);have h0:(φ b).2≠0:=(by omega);split at he
     . rename_i c;have Y:k=1:=by rw[<-Z];rfl
       split at he
       . rename_i ay;subst ay;obtain⟨rfl,rfl,rfl⟩:=he;obtain⟨U,V,rfl,rfl⟩:=I;have h1:=(cp R u W U).1.i';have q:=cp R ad X V;obtain⟨g,A⟩:=oF q.1 M q.2;obtain⟨s,L,K⟩:=aA g;have H:i*sz+f<vs.length:=by
          rw[b2];have:=eZ sz (show i+1<=(φ b).2 by omega);rw[im]at this;omega
         obtain⟨w',d,k1,k2,k3,k4,k5,k6⟩:=oD (P:=P) [s] (i*sz+f) 0 vs w b1 (by simp;omega) (λx u=>by rw[qB.1 u];exact bq.je K);refine⟨undef,φ,S,w',.inr ⟨ab _ _ _ w' h1 L (by simp[Y]) d,rfl⟩,.undef,rfl,Rel.more ?_ λ_ h=>kP h⟩;have F:c.aF n=true:=(by simpa using A);refine R.rewrite l h0 (by simpa[bV.aF]using F) k1 k2 k3 k4 k6 (λm=>?_);refine⟨⟨a1,a2,a3,a4,a5,ak⟩,⟨_,E,k5,by rw[pW (by simp;omega)];exact b2,λD j e t he ht Q=>?_,s,?_,bq.mono m (λ_ _=>rfl) F K⟩,aD⟩
         . obtain⟨v,r,d⟩:=b3 _ _ _ _ he ht Q;have z:j<sz:=by rw[<-a3 _ (fl he)];exact(dQ.1 ht).1
           rw[xo H,al (λe=>Q (Ax z ak e))];exact⟨v,r,ch.mono m d⟩
         . rw[xo H,ae rfl]
       . rename_i ay;simp only[bo,dF,dY]at he;obtain⟨t,aR,rfl,rfl,rfl⟩:=he;obtain⟨U,V,rfl,G,aL⟩:=I;have h1:=(cp R u W U).1.i';have q:=cp R ad X V;obtain⟨g,A⟩:=oF q.1 M q.2;obtain⟨s,L,K⟩:=aA g;have a7:ch w S t s:=by
          have h1:=r2 (cs:=[c]) (ts:=[t]) (xs:=[s]) (by simp[toTs,aR]) (.cons K .nil);cases h1 with|cons h _=>grind
         have H:i*sz+f<vs.length:=by
          have:=eZ sz (show i+1<=(φ b).2 by omega);rw[im]at this;omega
         obtain⟨w',d,k1,k2,k3,k4,k5,k6⟩:=oD (P:=P) [s] (i*sz+f) 0 vs w b1 (by simp;omega) (λx u=>by rw[qB.1 u];exact bq.je K);refine⟨undef,φ,S,w',.inr ⟨ab _ _ _ w' h1 L (by simp[Y]) d,rfl⟩,.undef,rfl,Rel.more ?_ λ_ h=>kP h⟩;refine R.rewrite l h0 (by simpa[bV.aF]using aH) k1 k2 k3 k4 k6 (λm=>?_);have aJ:es[i]?=some (el es i):=by unfold el;rw[List.getD,fb G];rfl
         have aV:(el es i).length=sz:=a3 _ (fl aJ);refine⟨⟨by grind,by simpa using a2,λe he=>?_,a4,by simpa using a5,ak⟩,⟨_,E,k5,by rw[pW (by simp;omega)];exact b2,λD j e ba he ht Q=>?_,aQ,?_,bq.mono m (λ_ _=>rfl) aH aP⟩,aD⟩
         . rcases CU he with he|rfl
           . exact a3 e he
           . simp;omega
         . rw[xo H];rw[CK]at he;by_cases O:i=D
           . subst O;rw[ae rfl,ae G]at he;cases he;have N:=(oH (vs:=el es i) (off:=f) (xs:=[t]) (by simp;omega) j)
             unfold jy at N;rw[show f+[t].length=f+k by simp[Y]]at N;rw[N]at ht;by_cases af:j=f
             . subst af;rw[bl,fe,CP]at ht;cases ht;rw[ae rfl];exact⟨s,rfl,ch.mono m a7⟩
             . have aK:(el es i)[j]?=some ba:=by
                by_cases an:j<f
                . rwa [ae an]at ht
                . rwa [al an,bl]at ht
               have z:j<sz:=by rw[<-aV];exact(dQ.1 aK).1
               obtain⟨v,r,d⟩:=b3 _ _ _ _ aJ aK Q;rw[al (λe=>af (Ax z (by omega) e).2)];exact⟨v,r,ch.mono m d⟩
           . rw[al O]at he;obtain⟨v,r,d⟩:=b3 _ _ _ _ he ht Q;have z:j<sz:=by rw[<-a3 _ (fl he)];exact(dQ.1 ht).1
             rw[al (λe=>O (Ax z (by omega) e).1.symm)];exact⟨v,r,ch.mono m d⟩
         . rw[xo H,al (λe=>ay (Ax ak (by omega) e).2.symm)];exact b4
     . cases he
   . cases he
 . cases he
theorem Nb:∀(xs:List Value) (k off:Nat) (cs:Array Value),off+k+xs.length<=cs.size->
 (((xs.zipIdx k).foldl (λcs (c,j)=>cs.setIfInBounds (off+j) c) cs):Array Value).toList=jy cs.toList (off+k) xs
 |[],k,off,cs,h=>by simp[jy]
 |x::xs,k,off,cs,h=>by
  rw[List.zipIdx_cons,List.foldl_cons,Nb xs _ _ _ (by grind)];grind[Na]
theorem JI{a:Array Value}{i:Nat}{r:List (Nat×Value)}{sz:Nat}(b:place i=some (off,sz))(h1:v.cells.size=sz)(c:off+sz<=a.size):
 Instr.fill place a ((i,v)::r)=Instr.fill place (jy a.toList off v.cells.toList).toArray r:=by
 simp only[Instr.fill,b];rw[al (by grind)]
 congr 1
 have:=Nb v.cells.toList 0 off a (by grind);rw[<-Array.foldl_toList];grind
theorem Ml {fs:Array Field}{place:Nat->Option (Nat×Nat)}(R:Rel aE nt φ S env J n a w)
 (o:∀(j:Nat) f k,fs[j]?=some f->eu P f.type=some k->place j=some (f.offset,k)):
 ∀{parts:List (Nat×Operand)} {ps:List (Nat×Nat×aU)} {cs:List C} {vs:List Value} {p:Prop} {b:List C},wi P fs parts=some ps->lF env cs ps=some (p,b)->p->
  a' (bq φ w S) cs vs->cs.all (C.aF n)=true->
  ∃us:List Value,Instr.fill place vs.toArray (parts.map λ(i,x)=>(i,a.eval x))=some us.toArray/\a' (bq φ w S) b us/\b.all (C.aF n)=true
 |[],ps,cs,vs,p,b,g,d,e,c,l=>by
  grind[wi,lF,Instr.fill]
 |(j,x)::r,ps,cs,vs,p,b,g,d,e,c,l=>by
  simp[wi,bo,bB]at g;obtain⟨f,y,k,z,E,D,L,A,rfl⟩:=g;simp only[lF,bo,eF,bB]at d;obtain⟨⟨q,v⟩,aq,es,u,⟨h1,G⟩,⟨M,F⟩,t,rfl,rfl⟩:=d;have m:=cp R D aq e.1;obtain⟨s,B⟩:=oF m.1 u m.2;have ah:=c.length;have K:=s.length;obtain⟨us,H,I,bf⟩:=Ml R o A t e.2 (by exact c.fill s _) (Jo l B _);simp;rw[JI (o j f k y z) (by grind) (by grind)];grind
theorem K8{place:Nat->Option (Nat×Nat)}{m:Nat}(R:Rel aE nt φ S env J n a w)(l:∀j,place j=some (j*m,m)):
 ∀{parts:List (Nat×Operand)} {ps:List (Nat×Nat×aU)} {cs:List C} {vs:List Value} {p:Prop} {b:List C},xn m parts=some ps->lF env cs ps=some (p,b)->p->
  a' (bq φ w S) cs vs->cs.all (C.aF n)=true->
  ∃us:List Value,Instr.fill place vs.toArray (parts.map λ(i,x)=>(i,a.eval x))=some us.toArray/\a' (bq φ w S) b us/\b.all (C.aF n)=true
 |[],ps,cs,vs,p,b,f,d,e,c,g=>by
  grind[xn,lF,Instr.fill]
 |(j,x)::r,ps,cs,vs,p,b,f,d,e,c,g=>by
  simp[xn,bo,bB]at f;obtain⟨A,z,H,u,rfl⟩:=f;simp only[lF,bo,eF,bB]at d;obtain⟨⟨q,v⟩,aq,es,t,⟨h1,D⟩,⟨I,B⟩,s,rfl,rfl⟩:=d;have k:=cp R z aq e.1;obtain⟨o,y⟩:=oF k.1 t k.2;have ah:=c.length;have G:=o.length;obtain⟨us,E,F,bf⟩:=K8 R l u s e.2 (by exact c.fill o _) (Jo g y _);simp;rw[JI (l j) (by grind) (by grind)];grind
theorem aaJ{fs:List Field}(h:∀f,f∈fs->∃k,eu P f.type=some k):
 ∃ps:List (Nat×Nat),(fs.mapM λf=>do pure (f.offset,<-sizeOf f.type):Sem (List (Nat×Nat))).run P w= .ok ps w/\ps.length=fs.length/\∀(j:Nat) f k,fs[j]?=some f->eu P f.type=some k->ps[j]?=some (f.offset,k):=by
 induction fs with
 |nil=>simp
 |cons f fs ih=>
  obtain⟨ps,h1,ah,a⟩:=ih λf b=>h f (by grind);obtain⟨k,c⟩:=h f (by simp);refine⟨(f.offset,k)::ps,?_,by grind,?_⟩
  . simp_all[jS]
  grind
theorem ZV(R:Rel aE nt φ S env J n a w){parts:Array (Nat×Operand)}(l:o.op= .build ty parts)(s:P.underlying ty=some (.struct fs))(A:I3 P fs=true)
 {z:List C}(t:kb P ty=some z){ps:List (Nat×Nat×aU)}(r:wi P fs parts.toList=some ps)
 {p v J'}(g:n key=false)(h:aT (.build z ps) env J key=some (p,v,J'))(m:p):Good P aE nt env J' (ins n key) a v ((execOp a.eval o).run P w):=by
 simp only[aT,bB]at h;obtain⟨⟨q,u⟩,d,rfl,rfl,rfl⟩:=h;obtain⟨i,I,B,H,c,e⟩:=ur t
 obtain⟨pl,D,F,G⟩:=aaJ (P:=P) (w:=w) (fs:=fs.toList) (by
  grind[I3,Option.isSome_iff_exists])
 have E:(fs.mapM λf=>do pure (f.offset,<-sizeOf f.type):Sem _).run P w= .ok pl.toArray w:=by
  simp_all[Array.mapM_eq_mapM_toList]
 obtain⟨us,h1,b,x⟩:=Ml (place:=(pl.toArray[·]?)) R (λj f k y g=>by grind) r d m c e;refine Good.pure R ?_ (.agg b) (by grind[V.aF]);simp only[execOp,l,Instr.build,zeroValue,typeInfo,Sem.run_bind,run_program,Result.andThen_ok,Sem.run_pure,underlying,s];simp_all
theorem Y9(R:Rel aE nt φ S env J n a w){parts:Array (Nat×Operand)}(r:o.op= .build ty parts){len:Nat}(u:P.underlying ty=some (.array len e)){m:Nat}(l:eu P e=some m)
 {z:List C}(y:kb P ty=some z){ps:List (Nat×Nat×aU)}(t:xn m parts.toList=some ps)
 {p v J'}(F:n key=false)(h:aT (.build z ps) env J key=some (p,v,J'))(s:p):Good P aE nt env J' (ins n key) a v ((execOp a.eval o).run P w):=by
 simp only[aT,bB]at h;obtain⟨⟨q,D⟩,f,rfl,rfl,rfl⟩:=h;obtain⟨i,B,k,A,d,g⟩:=ur y;obtain⟨us,h1,c,E⟩:=K8 R (λj=>rfl) t f s d g;refine Good.pure R ?_ (.agg c) (by grind[V.aF]);have b:Instr.fill (λi=>some (i*m,m)) B.cells ((parts.map λ(i,x)=>(i,a.eval x)).toList)=some us.toArray:=by simp_all
 simp at b;simp[execOp,r,Instr.build,zeroValue,typeInfo,k,A,underlying,u,jS l,b]
def iM(w:World)(S:dS)(sz:Nat)(es:List (List T))(vs:List Value):Prop:=
 ∀(i j:Nat) e t,es[i]?=some e->e[j]?=some t->∃v,vs[i*sz+j]?=some v/\ch w S t v
theorem IJ{sz:Nat}(R:Rel aE nt φ S env J n a w)(h0:0<sz):
 ∀{parts:List (Nat×Operand)} {ps:List (Nat×aU)} {es:List (List T)} {vs:List Value} {p:Prop} {c:List (List T)},qk parts=some ps->jY env sz es ps=some (p,c)->p->
  (∀e,e∈es->e.length=sz)->vs.length=es.length*sz->iM w S sz es vs->
  ∃us:List Value,Instr.fill (λi=>some (i*sz,sz)) vs.toArray (parts.map λ(i,x)=>(i,a.eval x))=some us.toArray/\(∀e,e∈c->e.length=sz)/\c.length=es.length/\us.length=vs.length/\iM w S sz c us/\(∀u,u∈us->u∈us)
 |[],ps,es,vs,p,c,k,d,g,z,ah,l=>by
  grind[qk,jY,Instr.fill]
 |(b,x)::r,ps,es,vs,p,c,k,d,g,z,ah,l=>by
  simp[qk,bo,bB]at k;obtain⟨I,H,U,E,rfl⟩:=k;simp only[jY,bo,eF,bB]at d;obtain⟨⟨q,v⟩,aq,cs,D,ts,F,⟨h1,m⟩,⟨V,K⟩,C,rfl,rfl⟩:=d;have o:=cp R H aq g.1;obtain⟨G,P⟩:=oF o.1 D o.2;have y:=r2 F G;have Q:=y.length;have O:b*sz+sz<=vs.length:=by
   have:=eZ sz (show b+1<=es.length from m);grind
  obtain ⟨us,L,A,bf,M,B,N⟩:= IJ R h0 E C g.2 (vs:= jy vs (b*sz) (a.eval x).cells.toList) (by
   grind) (by grind[pW]) (by
   intro i j e t he ht;rw[oH (by omega)];rw[CK]at he;by_cases f:b=i
   . subst f;rw[ae rfl,ae m]at he;cases he;have s:=(dQ.1 ht).1;rw[bz,fe,show b*sz+j-b*sz=j by simp];exact y.get ht
   . rw[al f]at he;have s:=(dQ.1 ht).1;rw[z _ (fl he)]at s;rcases Nat.lt_or_gt_of_ne f with h|h
     . have:=eZ sz (show b+1<=i from h);rw[im]at this;rw[bl,bl];exact l _ _ _ _ he ht
     . have:=eZ sz (show i+1<=b from h);rw[im]at this;rw[fe]
       exact l _ _ _ _ he ht)
  refine⟨us,?_,A,by grind,by grind[pW],B,λ_ h=>h⟩;simp only[iJ];rw[JI rfl (by grind) (by grind)];grind
theorem I6{z:Array Value}{sz len:Nat}(c:z.size=sz)(h0:0<sz)(i j:Nat)(a:i<len)(b:j<sz):
 ((Array.range (len*sz)).map (z[· % z.size]!))[i*sz+j]?=z[j]?:=by
 have aC:i*sz+j<len*sz:=by
  have:=eZ sz (show i+1<=len from a);grind
 simp_all[oV]
theorem KG{len:Nat}{parts:Array (Nat×Value)}(g:P.underlying ty=some (.slice e)){sz:Nat}(f:eu P e=some sz){i:TypeInfo}{a:Value}(n:P.info? e=some i)(p:i.zero=some a)
 (h0:sz≠0)(o:len*sz<=2^24){b:Array Value}(k:b=(Array.range (len*sz)).map (a.cells[· % a.cells.size]!)){us:List Value}(c:Instr.fill (λi=>some (i*sz,sz)) b parts.toList=some us.toArray):
 (Instr.buildSlice ty len parts).run P w= .ok (.slice (some ⟨w.heap.size,0,none⟩) len len) (w.alloc (.cells us.toArray e)):=by
 have d:¬(len*sz>2^24):=by omega
 have m:∀w,(zeroValue e).run P w= .ok a w:=by simp_all[zeroValue,typeInfo]
 by_cases ah:len*sz=0
 . have l:b=#[]:=(by grind);subst l;have j:(Array.map (λx=>(#[]:Array Value)[x%(#[]:Array Value).size]!) (Array.range (len*sz)))=#[]:=(by grind);unfold Instr.buildSlice;simp only[Sem.run_bind,run_underlying g,Result.andThen_ok,jS f,al d,ae ah,Sem.run_pure,j,c];rfl
 . unfold Instr.buildSlice;subst k;simp only[Sem.run_bind,run_underlying g,Result.andThen_ok,jS f,al d,al ah,Sem.run_pure,m,c];rfl
theorem Y4(R:Rel aE nt φ S env J n a w){len:Nat}{parts:Array (Nat×Operand)}(aa:o.op= .buildSlice ty len parts)(ad:P.underlying ty=some (.slice e)){sz:Nat}(ab:eu P e=some sz)
 {z:List C}(L:kb P e=some z){ps:List (Nat×aU)}(G:qk parts.toList=some ps)(h0:sz≠0)(M:z.length=sz)(Y:len*sz<=2^24)
 {p v J'}(E:n key=false)(h:aT (.bslice sz len z ps) env J key=some (p,v,J'))(F:p):Good P aE nt env J' (ins n key) a v ((execOp a.eval o).run P w):=by
 simp only[aT,bo,bB]at h;obtain⟨l,Q,⟨q,u⟩,D,rfl,rfl,rfl⟩:=h;obtain⟨i,f,d,ah,g,W⟩:=ur (φ:=φ) (w:=w) (S:=S) (n:=n) L;have O:=r2 Q g;have N:f.cells.size=sz:=by rw[<-CF,<-g.length,M]
 have b:0<sz:=by omega
 have ag:l.length=sz:=by grind[we]
 obtain ⟨us,h1,A,B,U,bf,_⟩:= IJ R b G D F (vs:= ((Array.range (len*sz)).map _).toList) (by
  grind) (by simp) (by
  intro i j e t he ht;have d:=(dQ.1 he).1;simp at d;have:e=l:=by
   grind
  subst this;have X:=(dQ.1 ht).1;obtain⟨x,af,H⟩:=O.get ht;rw[Gx,I6 N b i j d (by omega)]
  grind)
 simp at B;have I:us.length=len*sz:=by grind
 have r:=R.alloc (.cells us.toArray e);have m:=R.vO (.cells us.toArray e);have Z:len<=dT:=by
  have:=Gt len b;grind[dT]
 have s:=r.jA E (x:= .arr sz u) (w.heap.size,len) rfl (by
  simp only[cW,dp];refine⟨by omega,by omega,A,b,λ_=>⟨us,e,oC,I,λi j e t he ht=>?_,λj h=>?_⟩⟩
  . obtain⟨v,ae,H⟩:=bf i j e t he ht;grind[ch.mono]
  . have:=R.bR.st _ _ h
    omega) (λ_=>⟨λk y K h0=>by
     have:=(R.bR.blk k y K).j6 h0
     grind,.inr R.ext.size⟩)
 refine⟨.slice (some ⟨w.heap.size,0,none⟩) len len,_,S,_,.inl ?_,.c ⟨some ⟨w.heap.size,0,none⟩,by simp[dp],by simp[dp],by simp[dp]⟩,by simp[V.aF,C.aF,ins],s⟩;have T:Instr.fill (λi=>some (i*sz,sz)) ((Array.range (len*sz)).map (f.cells[· % f.cells.size]!)) ((parts.map λ(i,x)=>(i,a.eval x)).toList)=some us.toArray:=by
  rw[Array.toList_map];omega
 simp_all[KG,execOp,Sem.run_bind,Result.andThen_ok]
theorem Nw(a:Nat):∀(r c:Nat),c<=2*a+192->Builtin.growBy a r c<=2*a+192
 |0,c,h=>h
 |r+1,c,h=>by
  unfold Builtin.growBy;split
  . grind
  . exact Nw _ r _ (by omega)
theorem Ya{a b:Nat}(h:b<a):Builtin.nextslicecap a b<=2*a+192:=by
 grind[Builtin.nextslicecap,Nw]
theorem Nc(a:Nat):∀(r c:Nat),c<=a+a/4+512->Builtin.growBy a r c<=a+a/4+512
 |0,c,h=>h
 |r+1,c,h=>by
  unfold Builtin.growBy;split
  . grind
  . exact Nc _ r _ (by omega)
theorem Yh{a b:Nat}(h:b<a):Builtin.nextslicecap a b<=a+a/4+512:=by
 grind[Builtin.nextslicecap,Nc]
theorem l0.not{e bytes:Nat}(h:f<e)(c:l0 e bytes):¬(Builtin.nextslicecap e f*bytes>2^48):=by
 have a:=eZ bytes (Ya h);have b:=eZ bytes (Yh h);rcases c with c|c<;>unfold hF at c<;>omega
theorem ZW{p:α->Prop}{l m:List α}(h:∀x,x∈l->p x)(k:∀x,x∈m->p x):∀x,x∈l++m->p x:=by grind
def sB(P:Program)(w:World)(S:dS)(sz:Nat)(v:Value)(a:List (List T))(b:Option Nat):Prop:=
 (Builtin.lenOf v).run P w= .ok a.length w/\∃xs:List Value,(Builtin.firstCells sz a.length v).run P w= .ok xs.toArray w/\xs.length=a.length*sz/\iM w S sz a xs/\∀x,x∈xs->x.oneCell'=true
theorem Nd{sz k len:Nat}(h0:0<sz)(a:k<len*sz):k/sz<len/\k%sz<sz/\(k/sz)*sz+k%sz=k:=
 ⟨Nat.div_lt_of_lt_mul (by grind),yS _ h0,by grind[Nat.div_add_mod]⟩
theorem iM.one{sz:Nat}{a:List (List T)}(h0:0<sz)(c:∀e,e∈a->e.length=sz)(ah:xs.length=a.length*sz)(h:iM w S sz a xs):∀x,x∈xs->x.oneCell'=true:=by
 intro x f;obtain⟨k,q,t⟩:=e3 f;obtain⟨h1,j,o⟩:=Nd h0 (by rw[<-ah];omega);have he:=fb h1;have p:=c _ (yN h1);have ht:(a[k/sz])[k%sz]?=some _:=fb (by omega);obtain⟨v,A,y⟩:=h _ _ _ _ he ht;grind[ch.je]
theorem zN{b o m:Nat}(ah:xs.length=m)(h:∀j,j<m->w.cell? ⟨b,o+j,none⟩=xs[j]?):(loadCells ⟨b,o,none⟩ m).run P w= .ok xs.toArray w:=by
 grind[run_loadCells_list,Addr.add]
theorem aaK{sz:Nat}(h0:0<sz){d:List (List T)}(u:ch w S (.slice d) v)(n:∀e,e∈d->e.length=sz):sB P w S sz v d none:=by
 obtain⟨a,cap,c,b,o,f,rfl,y,A,C,p,x,B⟩:=ch.kz u;refine⟨by rfl,?_⟩;by_cases g:d=[]
 . subst g;refine⟨[],?_,by simp,by intro i j e t he;grind,by simp⟩;cases a with
   |none=>rfl
   |some a=>simp[Builtin.firstCells,loadCells,loadCellsFrom]
 . have s:c=sz:=by
    obtain⟨cQ,z⟩:=CT d g;grind
   subst s;rw[p g];have l:((List.range (d.length*c)).map λk=>f (k/c) (k%c)).length=d.length*c:=(by simp);have m:iM w S c d ((List.range (d.length*c)).map λk=>f (k/c) (k%c)):=by
    intro i j e t he ht;have q:=(dQ.1 he).1;have r:=(dQ.1 ht).1;rw[n _ (fl he)]at r;have aC:i*c+j<d.length*c:=by
     have:=eZ c (show i+1<=d.length from q);grind
    simp_all[Nat.add_comm,Nat.add_mul_div_right,Nat.div_eq_of_lt,oV]
   refine⟨_,?_,l,m,iM.one h0 n l m⟩;refine zN l ?_;grind[Nd]
theorem aaL{sz:Nat}(b:bq φ w S .aA v):sB P w S sz v [] none:=by
 obtain⟨a,rfl⟩:=b;refine⟨by rfl,[],?_,by simp,by intro i j e t he;grind,by simp⟩;cases a with
 |none=>rfl
 |some a=>simp[Builtin.firstCells,loadCells,loadCellsFrom]
theorem Nx{sz b:Nat}{c:List (List T)}(du:cW φ w S b (.arr sz c))(o:bq φ w S (.arr b sz 0 c.length) v):sB P w S sz v c (some b):=by
 obtain⟨a,rfl,l,q⟩:=bq.hl o;obtain⟨h1,p,g,k,bf⟩:=du;refine⟨by rfl,?_⟩;by_cases h0:(φ b).2=0
 . have:c=[]:=j4 (by omega);subst this;refine⟨[],?_,by simp,by intro i j e t he;grind,by simp⟩;cases a with
   |none=>rfl
   |some a=>simp[Builtin.firstCells,loadCells,loadCellsFrom]
 . obtain⟨vs,E,aa,ah,s,_⟩:=bf h0;rw[l h0];have r:c.length*sz<=vs.length:=(by simp_all[eZ]);have d:(vs.take (c.length*sz)).length=c.length*sz:=(by grind);have f:iM w S sz c (vs.take (c.length*sz)):=by
    intro i j e t he ht;have m:=(dQ.1 he).1;have aC:i*sz+j<c.length*sz:=by
     have:=eZ sz (show i+1<=c.length from m);grind
    grind
   refine⟨_,?_,d,f,iM.one k g d f⟩;rw[CQ];refine zN d ?_;intro j n;rw[gC,js aa,yK,ae n]
theorem sB.world{sz:Nat}{a:List (List T)}{b:Option Nat}(h:sB P w S sz v a b){m:Nat}:∃xs:List Value,xs.length=a.length*sz/\iM w S sz a xs/\(∀x,x∈xs->x.oneCell'=true):=by
 obtain⟨_,xs,_,h1,c,e⟩:=h;grind
theorem KH(z:Array Value)(m:Nat):(Builtin.zeroCells z m).size=m*z.size:=by simp[Builtin.zeroCells]
theorem KI{st j z:TypeId}{i:TypeInfo}{c:Value}(q:P.underlying st=some (.slice e))(v:P.underlying j=some (.slice z))(g:P.info? e=some i)(D:i.zero=some c)(E:c.cells.size=i.size)
 {base:Option Addr}{sl sc a:Nat}{y:Value}{xs d:List Value}(u:(Builtin.lenOf y).run P w= .ok a w)
 (s:(Builtin.firstCells i.size sl (.slice base sl sc)).run P w.drew= .ok xs.toArray w.drew)(t:(Builtin.firstCells i.size a y).run P w.drew= .ok d.toArray w.drew)
 (o:sc<sl+a)(l:l0 (sl+a) i.bytes)(B:sl+a<=dT){tt:TypeId}:
 ∃(b:Nat) (r:List Value),sl+a<=b/\r.length=(b-(sl+a))*i.size/\
  (Builtin.append_ #[st,j] tt #[.slice base sl sc,y]).run P w= .ok (.slice (some ⟨w.heap.size,0,none⟩) (sl+a) b) (w.drew.alloc (.cells (xs++d++r).toArray e)):=by
 have p:∀w,(sizeOf e).run P w= .ok i.size w:=λw=>by simp[sizeOf,typeInfo,g]
 have f:∀w,(typeInfo e).run P w= .ok i w:=λw=>by simp[typeInfo,g]
 have x:∀w,(zeroValue e).run P w= .ok c w:=λw=>by simp_all[zeroValue]
 generalize C:(Question.appendCap (sl+a) sc e).cut (w.tape w.drawn (Question.appendCap (sl+a) sc e))=b;have n:sl+a<=b:=by grind[Question.cut]
 have h1:¬(sl+a<=sc):=by omega
 have A:¬(sl+a>IntKind.i64.max/\(False\/i.bytes=0)):=by grind[IntKind.max,IntKind.bits,dT]
 have k:=by
  exact l.not o
 refine⟨b,(Builtin.zeroCells c.cells (b-(sl+a))).toList,n,by grind[KH],?_⟩;have m:(choose (.appendCap (sl+a) sc e)).run P w= .ok b w.drew:=by simp_all[Question.forced]
 have aM:(xs++d++(Builtin.zeroCells c.cells (b-(sl+a))).toList).toArray=xs.toArray++d.toArray++Builtin.zeroCells c.cells (b-(sl+a)):=by simp
 rw[aM];unfold Builtin.append_;simp only[CD,CW,CX,Sem.run_bind,run_underlying q,run_underlying v,Result.andThen_ok,p,Sem.run_pure,bW,b6,u,al h1,f];rw[al (by grind)];simp only[Sem.run_bind,Result.andThen_ok,f];rw[al k];simp only[Sem.run_bind,Result.andThen_ok,f,m,run_askRoom,s,t,x,en,bM];rfl
theorem yW{st c m:TypeId}{i:TypeInfo}(j:P.underlying st=some (.slice e))(l:P.underlying c=some (.slice m))(f:P.info? e=some i)
 {base:Option Addr}{sl sc a:Nat}{y:Value}{d:List Value}(k:(Builtin.lenOf y).run P w= .ok a w)(p:(Builtin.firstCells i.size a y).run P w= .ok d.toArray w)(o:sl+a<=sc){w':World}
 (hs:∀b,base=some b->(storeCells (b.add (sl*i.size)) d 0).run P w= .ok () w') (n:base=none->w'=w) {tt:TypeId}:
  (Builtin.append_ #[st,c] tt #[.slice base sl sc,y]).run P w= .ok (.slice base (sl+a) sc) w':=by
 have g:∀w,(sizeOf e).run P w= .ok i.size w:=λw=>by simp[sizeOf,typeInfo,f]
 unfold Builtin.append_;simp only[CD,CW,CX,Sem.run_bind,run_underlying j,run_underlying l,Result.andThen_ok,g,Sem.run_pure,bW,b6,k];cases base<;>simp_all
theorem iM.append{sz:Nat}{a:List (List T)}{f r:List Value}(h0:0<sz)(v:∀e,e∈es->e.length=sz)(y:∀e,e∈a->e.length=sz)(B:xs.length=es.length*sz)(D:f.length=a.length*sz)
 (h1:iM w S sz es xs)(p:iM w S sz a f):iM w S sz (es++a) (xs++f++r):=by
 intro i j e t he ht;by_cases o:i<es.length
 . rw[w9 o]at he;have c:=(dQ.1 ht).1;rw[v _ (fl he)]at c;have:=eZ sz (show i+1<=es.length from o);rw[im]at this;rw[gg,w9 (by omega)];exact h1 _ _ _ _ he ht
 . rw[w8 (by omega)]at he;have c:=(dQ.1 ht).1;rw[y _ (fl he)]at c;have x:=(dQ.1 he).1;have A:=eZ sz (show es.length<=i by omega);have q:=eZ sz (show(i-es.length)+1<=a.length from x);have bf:(i-es.length)*sz=i*sz-es.length*sz:=Nat.sub_mul _ _ _;rw[im]at q;rw[gg,w8 (by omega),w9 (by omega),show i*sz+j-xs.length=(i-es.length)*sz+j by omega];exact p _ _ _ _ he ht
theorem Rel.drew(R:Rel aE nt φ S env J n a w):Rel aE nt φ S env J n a w.drew:=
 R.world (λ_=>False) rfl rfl rfl (eI _) (λ_ _ _=>rfl) (λ_ h=>h.elim)
theorem Em(R:Rel aE nt φ S env J n a w){f:aU}(u:bG y=some f){v:V}(aq:f.get env=some (p,v))(q:p){sz:Nat}(h0:0<sz){d:List (List T)×Option Nat}
 (h:mJ J v=some d)(m:∀e,e∈d.1->e.length=sz):sB P w S sz (a.eval y) d.1 d.2:=by
 have c:=(cp R u aq q).1;unfold mJ at h;split at h
 . cases h;exact aaK h0 c.eb m
 . cases h;exact aaL c.eb
 . split at h
   . rename_i b x B A _ C z g;simp at h;obtain⟨⟨h1,rfl,rfl⟩,rfl⟩:=h;subst h1;by_cases l:z=[]
     . subst l;obtain⟨o,s,_⟩:=bq.hl c.eb;rw[s];refine⟨by rfl,[],?_,by simp,by intro i j e t he;grind,by simp⟩;cases o with
       |none=>rfl
       |some a=>simp[Builtin.firstCells,loadCells,loadCellsFrom]
     . have r:x=sz:=by
        obtain⟨cQ,k⟩:=CT _ l;rw[<-(R.bR.blk _ _ g).2.2.1 _ k,m _ k]
       subst r;exact Nx (R.bR.blk _ _ g) c.eb
   grind
 grind
theorem acJ{sz b len:Nat}(du:cW φ w S b (.arr sz es))(p:bq φ w S (.fI b sz off len) v)(r:off+len<=es.length):sB P w S sz v ((es.drop off).take len) none:=by
 obtain⟨a,cap,rfl,l,s⟩:=p;obtain⟨h1,q,g,k,bf⟩:=du;have f:((es.drop off).take len).length=len:=by grind
 refine⟨by simp[Builtin.lenOf,f],?_⟩;rw[f];by_cases h0:len=0
 . subst h0;refine⟨[],?_,by simp,by intro i j e t he;grind,by simp⟩;cases a with
   |none=>rfl
   |some a=>simp[Builtin.firstCells,loadCells,loadCellsFrom]
 . obtain⟨vs,E,aa,ah,x,_⟩:=bf (by omega);rw[l h0];have u:off*sz+len*sz<=vs.length:=by rw[ah,<-im];exact eZ _ (by omega)
   have d:((vs.drop (off*sz)).take (len*sz)).length=len*sz:=(by grind);have o:∀e,e∈(es.drop off).take len->e.length=sz:=λe he=>g e (GA (uP he));have c:iM w S sz ((es.drop off).take len) ((vs.drop (off*sz)).take (len*sz)):=by
    intro i j e t he ht;have m:i<len:=(by grind);have aC:i*sz+j<len*sz:=by
     have:=eZ sz (show i+1<=len from m);grind
    grind
   refine⟨_,?_,d,c,iM.one k o (by grind) c⟩;refine zN d ?_;intro j n;rw[js aa,yK,ae n,List.getElem?_drop]
theorem aaM(R:Rel aE nt φ S env J n a w){x y:Operand}{st N e aR:TypeId}(aH:o.op= .call {callee:= .builtin .append,args:=#[x,y],argTypes:=#[st,N]})
 (ag:P.underlying st=some (.slice e))(aj:P.underlying N=some (.slice aR)){i:TypeInfo}(ab:P.info? e=some i)(a2:i.size≠0)
 {Q T:aU}(aM:bG x=some Q)(f:bG y=some T){ak al:Prop}{am an:V}(ay:Q.get env=some (ak,am))(az:T.get env=some (al,an)){r}
 {p v J'}(B:oZ am an=some r)(g:n key=false)(h:vl J key i.size ak al r=some (p,v,J'))(aI:p):Good P aE nt env J' (ins n key) a v ((execOp a.eval o).run P w):=by
 have af:∀r w',(Builtin.append_ #[st,N] o.type #[a.eval x,a.eval y]).run P w= .ok r w'->(execOp a.eval o).run P w= .ok (.value r) w':=by
  intro r w' d;simp[execOp,aH,Go.resolve,invoke,builtin,d]
 unfold oZ at B;split at B
 . rename_i b s1 off len aS a3 F s;split at B
   . rename_i aw;subst aw;cases B;unfold vl at h;dsimp only at h;split at h
     . rename_i a4 es u;obtain⟨rfl,rfl,rfl⟩:=h;obtain⟨aJ,aK,rfl,rfl,rfl,rfl,aZ,aF⟩:=aI;have ax:=cp R aM ay aJ;obtain⟨base,D,av,a0⟩:=bq.hl ax.1.eb;have aA:=cp R f az aK;have z:=R.bR.blk _ _ u;obtain⟨K,O,L,M,aP,aO⟩:=acJ (P:=P) z aA.1.eb aF;obtain⟨aT,aV,aW,aX,au⟩:=z;have aN:((es.drop F).take s).length=s:=by simp;omega
       rw[aN]at K L M;rw[Nat.sub_zero]at D;have A:len+s<=(φ b).2:=(by omega);have h0:0<i.size:=(by omega);have G:(es.take len++(es.drop F).take s).length=len+s:=(by grind);have ad:∀W,W∈es.take len++(es.drop F).take s->W.length=i.size:=by
        grind
       by_cases l:(φ b).2=0
       . have aC:len=0:=(by omega);have aD:s=0:=(by omega);subst aC aD;have aQ:O=[]:=j4 (by grind);subst aQ;have d:=yW (tt:=o.type) ag aj ab (base:=base) (sl:=0) (sc:=(φ b).2) K L A (w':=w) (λaq _=>by simp[storeCells]) (λ_=>rfl);rw[<-D]at d;have R':=(R.del b).jA g (x:= .arr i.size (es.take 0++(es.drop F).take 0)) (0,0) rfl (by simp only[cW,dp];exact⟨by simp,by simp,by simp,h0,by simp⟩) (by simp);refine⟨_,_,S,w,.inl (af _ _ d),.c ?_,by simp[V.aF,C.aF,ins],R'⟩;exact⟨base,by simp[dp,l,D],by simp[dp],by simp[dp]⟩
       . obtain⟨vs,E,aa,ai,aL,aG⟩:=au l;have z:=R.bR.blk _ _ u;have Z:len*i.size+O.length<=vs.length:=by rw[M,ai,<-im];exact eZ _ A
         obtain⟨w',a1,k1,k2,k3,k4,k5,k6⟩:=oD (P:=P) O (len*i.size) 0 vs w aa (by omega) aO;rw[yQ]at k5;have Y:=av l
         have d:=yW (tt:=o.type) ag aj ab (base:=base) (sl:=len) (sc:=(φ b).2) K L A (w':=w') (λaq aY=>by
          grind[Addr.add]) (λX=>by rw[Y]at X;cases X)
         rw[<-D]at d
         have ao:=(R.del b).world (w':=w') (λk=>k=(φ b).1) k1 k2 k3 (w6 k4.symm) (λk _ g=>k6 k g) (λk g=>by
          subst g;refine⟨z.qz l,λk y f g=>?_,R.own b _ u l⟩;rw[fN]at f;split at f
          . cases f
          . rename_i H
            exactλe=>R.bR.inj k b y _ f u (dZ H) g l e)
         have m:gq w S w' S:=⟨λ_ _ h=>h,λk j h=>q3 (k6 k (λe=>z.qz l j (e▸h))) j⟩
         have ap:=ao.jA g (x:= .arr i.size _) (φ b) rfl (by
          simp only[cW,dp];refine⟨by rw[G];exact A,by rw[G];omega,ad,h0,λ_=>⟨_,E,k5,by rw[pW Z];exact ai,λq j e t he ht=>?_,aG⟩⟩;have aB:=(dQ.1 ht).1;rw[ad _ (fl he)]at aB;rw[oH Z,M];by_cases U:q<len
          . have:=eZ i.size (show q+1<=len from U);rw[im]at this;rw[fe];rw[w9 (by simp;omega),yK,ae U]at he;obtain⟨v,I,d⟩:=aL _ _ _ _ he ht;exact⟨v,I,ch.mono m d⟩
          . have h1:=eZ i.size (show len<=q by omega);have ar:q<len+s:=by rw[<-G];exact(dQ.1 he).1
            have:=eZ i.size (show q+1<=len+s from ar);rw[im,im]at this;rw[bl,fe];have ah:(es.take len).length=len:=by simp;omega
            rw[w8 (by omega),ah]at he;have bf:(q-len)*i.size=q*i.size-len*i.size:=Nat.sub_mul _ _ _;obtain⟨v,I,d⟩:=aP _ _ _ _ he ht;rw[show q*i.size+j-len*i.size=(q-len)*i.size+j by omega]
            exact⟨v,I,ch.mono m d⟩) (λ_=>⟨λk y f g=>by
            rw[fN]at f;split at f
            . cases f
            . rename_i H
              exact R.bR.inj k b y _ f u (dZ H) g l,R.own b _ u l⟩)
         refine⟨_,_,S,w',.inl (af _ _ d),.c ?_,by simp[V.aF,C.aF,ins],ap⟩;exact⟨base,by simp[dp],by simp[dp,Y],by simp[dp];omega⟩
     grind
   grind
 grind
theorem Z5(R:Rel aE nt φ S env J n a w){x y:Operand}{st au e a1:TypeId}(aY:o.op= .call {callee:= .builtin .append,args:=#[x,y],argTypes:=#[st,au]})
 (U:P.underlying st=some (.slice e))(W:P.underlying au=some (.slice a1)){i:TypeInfo}(O:P.info? e=some i)(a9:i.size≠0)(aK:(i.zero.map (·.cells.size))=some i.size)
 {aw ax:aU}(ao:bG x=some aw)(f:bG y=some ax)
 {p v J'}(g:n key=false)(h:aT (.append i.size i.bytes aw ax) env J key=some (p,v,J'))(aD:p):Good P aE nt env J' (ins n key) a v ((execOp a.eval o).run P w):=by
 simp only[aT,bo]at h;obtain⟨⟨ba,be⟩,al,⟨bb,bg⟩,Y,he⟩:=h;split at he
 . grind[aaM]
 rename_i a';simp only[bo]at he;obtain⟨u,ad,he⟩:=he;simp only[bB]at aK;obtain⟨bh,aM,aL⟩:=aK;have h0:0<i.size:=by omega
 have T:∀r w',(Builtin.append_ #[st,au] o.type #[a.eval x,a.eval y]).run P w= .ok r w'->(execOp a.eval o).run P w= .ok (.value r) w':=by
  intro r w' d;simp[execOp,aY,Go.resolve,invoke,builtin,d]
 have aC:∀b,w.heap.size<=b->∀j,¬S b j:=λb aj j aI=>by have:=R.bR.st _ _ aI;omega
 split at he
 ·
  obtain⟨rfl,rfl,rfl⟩:=he;obtain⟨Z,Q,B,az,an⟩:=aD;obtain⟨base,H⟩:=(cp R ao al Z).1.eb;have ec:=Em (P:=P) R f Y Q h0 ad B;by_cases G:u.1=[]
  . obtain⟨A,z,D,l,M,ae⟩:=ec;rw[G]at A D l;have aq:z=[]:=j4 (by simpa using l);subst aq;have d:=yW (tt:=o.type) U W O (base:=base) (sl:=0) (sc:=0) A D (by simp) (w':=w) (λav _=>by simp[storeCells]) (λ_=>rfl);rw[<-H]at d;have R':=R.jA g (x:= .arr i.size u.1) (0,0) rfl (by rw[G];simp only[cW,dp];exact⟨by simp,by simp,by simp,h0,by simp⟩) (by simp);refine⟨_,_,S,w,.inl (T _ _ d),.c ?_,by simp[V.aF,C.aF,ins],R'⟩;rw[G];exact⟨base,by simp[dp],by simp[dp],by simp[dp]⟩
  . have s:=R.drew;obtain⟨A,_⟩:=ec;obtain⟨_,z,D,l,M,ae⟩:=Em (P:=P) s f Y Q h0 ad B;have a7:0<u.1.length:=xf.2 G;have ab:(Builtin.firstCells i.size 0 (.slice base 0 0)).run P w.drew= .ok ([]:List Value).toArray w.drew:=by
     cases base with
     |none=>rfl
     |some a=>simp[Builtin.firstCells,loadCells,loadCellsFrom]
    obtain⟨ar,r,h1,ah,d⟩:=KI (tt:=o.type) U W O aM aL A ab D (by omega) (by grind) (by grind);rw[<-H]at d;have N:=s.alloc (.cells ([]++z++r).toArray e);have m:=s.vO (.cells ([]++z++r).toArray e)
    have af:=N.jA g (x:= .arr i.size u.1) (w.heap.size,ar) rfl (by
     simp only[cW,dp];refine⟨by omega,an,B,h0,λ_=>⟨_,e,oC,?_,?_,aC _ (eI _)⟩⟩
     . simp only[cc,ku,l,ah,gC,<-im];congr 1;omega
     . have:=iM.append (S:=S) (w:=w.drew) (r:=r) (es:=[]) (xs:=[]) h0 (by simp) B (by simp) l (by intro i j e t he;simp at he) M;intro q j I t he ht;obtain⟨v,K,d⟩:=this q j I t (by simpa using he) ht
       exact⟨v,K,ch.mono m d⟩) (λ_=>⟨λk y f h0=>by
        have:=(R.bR.blk k y f).j6 h0
        omega,.inr R.ext.size⟩)
    refine⟨_,_,S,_,.inl (T _ _ d),.c ?_,by simp[V.aF,C.aF,ins],af⟩;exact⟨some ⟨w.heap.size,0,none⟩,by simp[dp],by simp[dp],by simp[dp];omega⟩
 . rename_i b bc off len;split at he
   . rename_i bd es L;split at he
     . grind
     . obtain⟨rfl,rfl,rfl⟩:=he;obtain⟨Z,Q,rfl,rfl,rfl,rfl,B,az,an⟩:=aD;have aS:=cp R ao al Z;have aQ:=aS.1.eb;obtain⟨base,H,aR,aW⟩:=bq.hl aQ;have ec:=Em (P:=P) R f Y Q h0 ad B;have ai:=R.bR.blk _ _ L;have aP:=ai;obtain⟨a2,a3,ag,a4,aN⟩:=aP;rw[Nat.sub_zero]at H;rw[gC]at aW;have aG:∀I,I∈es++u.1->I.length=i.size:=ZW ag B;by_cases aF:es.length+u.1.length<=(φ b).2
       . obtain⟨A,z,D,l,M,ae⟩:=ec;by_cases F:(φ b).2=0
         . have ak:es=[]:=j4 (by omega);have ap:u.1=[]:=j4 (by omega);rw[ap]at A D l;have aq:z=[]:=j4 (by simpa using l);subst aq;have d:=yW (tt:=o.type) U W O (base:=base) (sl:=es.length) (sc:=(φ b).2) A D (by simp[ak]) (w':=w) (λav _=>by simp[storeCells]) (λ_=>rfl);rw[<-H]at d;have R':=(R.del b).jA g (x:= .arr i.size (es++u.1)) (0,0) rfl (by rw[ap,ak];simp only[cW,dp];exact⟨by simp,by simp,by simp,h0,by simp⟩) (by simp);refine⟨_,_,S,w,.inl (T _ _ d),.c ?_,by simp[V.aF,C.aF,ins],R'⟩;rw[ap,ak];exact⟨base,by simp[dp,F],by simp[dp],by simp[dp]⟩
         . obtain⟨vs,E,aa,aH,aZ,aX⟩:=aN F;have aA:es.length*i.size+z.length<=vs.length:=by rw[l,aH,<-im];exact eZ _ aF
           obtain⟨w',a8,k1,k2,k3,k4,k5,k6⟩:=oD (P:=P) z (es.length*i.size) 0 vs w aa (by omega) ae;rw[yQ]at k5;have X:=aR F;rw[CQ]at X
           have d:=yW (tt:=o.type) U W O (base:=base) (sl:=es.length) (sc:=(φ b).2) A D aF (w':=w') (λav ay=>by
            rw[X]at ay;cases ay;have a6:Addr.add ⟨(φ b).1,0,none⟩ (es.length*i.size)=⟨(φ b).1,es.length*i.size,none⟩:=by unfold Addr.add;split<;>simp_all
            grind) (λaj=>by rw[X]at aj;cases aj)
           rw[<-H]at d
           have s:=(R.del b).world (w':=w') (λk=>k=(φ b).1) k1 k2 k3 (w6 k4.symm) (λk _ g=>k6 k g) (λk g=>by
            subst g;refine⟨ai.qz F,λk y f g=>?_,R.own b _ L F⟩;rw[fN]at f;split at f
            . cases f
            . rename_i G
              exactλe=>R.bR.inj k b y _ f L (dZ G) g F e)
           have m:gq w S w' S:=⟨λ_ _ h=>h,λk j h=>q3 (k6 k (λe=>ai.qz F j (e▸h))) j⟩
           have N:=s.jA g (x:= .arr i.size (es++u.1)) (φ b) rfl (by
            simp only[cW,dp];refine⟨by simp;omega,by simp;omega,aG,h0,λ_=>⟨_,E,k5,by rw[pW aA];exact aH,?_,aX⟩⟩;intro q j I t he ht;rw[oH aA];by_cases aB:q<es.length
            . rw[w9 aB]at he;have am:=(dQ.1 ht).1;rw[ag _ (fl he)]at am;have:=eZ i.size (show q+1<=es.length from aB);rw[im]at this;rw[fe];obtain⟨v,K,d⟩:=aZ _ _ _ _ he ht;exact⟨v,K,ch.mono m d⟩
            . rw[w8 (by omega)]at he;have am:=(dQ.1 ht).1;rw[B _ (fl he)]at am;have aV:=(dQ.1 he).1;have a5:=eZ i.size (show es.length<=q by omega);have aO:=eZ i.size (show(q-es.length)+1<=u.1.length from aV);have bf:(q-es.length)*i.size=q*i.size-es.length*i.size:=Nat.sub_mul _ _ _;rw[im]at aO;rw[bl,fe,show q*i.size+j-es.length*i.size=(q-es.length)*i.size+j by omega];obtain⟨v,K,d⟩:=M _ _ _ _ he ht
              exact⟨v,K,ch.mono m d⟩) (λ_=>⟨λk y f g=>by
              rw[fN]at f;split at f
              . cases f
              . rename_i G
                exact R.bR.inj k b y _ f L (dZ G) g F,R.own b _ L F⟩)
           refine⟨_,_,S,w',.inl (T _ _ d),.c ?_,by simp[V.aF,C.aF,ins],N⟩;exact⟨base,by simp[dp],by simp[dp,X],by simp[dp];omega⟩
       . have s:=R.drew;obtain⟨A,_⟩:=ec;obtain⟨_,z,D,l,M,ae⟩:=Em (P:=P) s f Y Q h0 ad B;obtain⟨_,xs,ab,aJ,a0,_⟩:=Nx (P:=P) (s.bR.blk _ _ L) (cp s ao al Z).1.eb;rw[H]at ab;obtain⟨ar,r,h1,ah,d⟩:=KI (tt:=o.type) U W O aM aL A ab D (by omega) az an;rw[<-H]at d;have N:=(s.del b).alloc (.cells (xs++z++r).toArray e);have m:=s.vO (.cells (xs++z++r).toArray e)
         have af:=N.jA g (x:= .arr i.size (es++u.1)) (w.heap.size,ar) rfl (by
          simp only[cW,dp];refine⟨by simp;omega,by simp;omega,aG,h0,λ_=>⟨_,e,oC,?_,?_,aC _ (eI _)⟩⟩
          . simp only[cc,aJ,l,ah,<-im];congr 1;omega
          . have:=iM.append (S:=S) (w:=w.drew) (r:=r) h0 ag B aJ l a0 M;intro q j I t he ht;obtain⟨v,K,d⟩:=this q j I t he ht
            exact⟨v,K,ch.mono m d⟩) (λ_=>⟨λk y f h0=>by
             rw[fN]at f;split at f
             . cases f
             . have:=(R.bR.blk k y f).j6 h0
               omega,.inr R.ext.size⟩)
         refine⟨_,_,S,_,.inl (T _ _ d),.c ?_,by simp[V.aF,C.aF,ins],af⟩;exact⟨some ⟨w.heap.size,0,none⟩,by simp[dp],by simp[dp],by simp[dp];omega⟩
   grind
 grind
theorem Z6:∀{ts:List T} {vs:List Value},a' R ts vs->∀(i j:Nat) e t,(ts.map λt=>[t])[i]?=some e->e[j]?=some t->∃v,vs[i*1+j]?=some v/\R t v:=by
 intro ts vs h i j e t he ht;rw[r9,bB]at he;obtain⟨t0,h0,rfl⟩:=he;cases j with
 |zero=>
  obtain⟨v,b,a⟩:=h.get h0;grind
 |succ j=>grind
theorem Z7(R:Rel aE nt φ S env J n a w)(D:o.op= .alloc ty)(f:kb P ty=some cs)(B:cs.length≠0)(A:cs.length<=2^24)
 {p v J'}(q:n key=false)(h:aT (.allocA cs) env J key=some (p,v,J'))(E:p):Good P aE nt env J' (ins n key) a v ((execOp a.eval o).run P w):=by
 simp only[aT,bB]at h;obtain⟨ts,d,rfl,rfl,rfl⟩:=h;obtain⟨i,z,u,f,b,s⟩:=ur (φ:=φ) (w:=w) (S:=S) (n:=n) f;have H:=r2 d b;have F:=we d;have g:=R.alloc (.cells z.cells.toList.toArray ty);have m:=R.vO (.cells z.cells.toList.toArray ty);have G:=b.length.symm
 have l:=g.jA q (x:= .arr 1 (ts.map λt=>[t])) (w.heap.size,cs.length) rfl (by
  simp only[cW,dp,jc];refine⟨by omega,by grind[dT],?_,by simp,λ_=>⟨z.cells.toList,ty,oC,by omega,λi j e t he ht=>?_,λj h=>?_⟩⟩
  . simp
  . grind[Z6,ch.mono]
  . have:=R.bR.st _ _ h
    omega) (λ_=>⟨λk y r h0=>by
     have:=(R.bR.blk k y r).j6 h0
     grind,.inr R.ext.size⟩)
 refine⟨.pointer (some ⟨w.heap.size,0,none⟩),_,S,_,.inl ?_,.c ?_,by simp[V.aF,C.aF,ins],l⟩
 . simp_all[execOp,Instr.alloc,zeroValue,typeInfo,newVar,newRow]
 grind[bq,dp]
theorem aaN(R:Rel aE nt φ S env J n a w){i:Operand}(u:o.op= .indexAddr ty x i){k:Nat}(D:P.underlying ty=some (.array k e))(B:eu P e=some 1)
 {f d:aU}(E:bG x=some f)(s:bG i=some d)
 {p v J'}(F:n key=false)(h:aT (.idxP k f d) env J key=some (p,v,J'))(y:p):Good P aE nt env J' (ins n key) a v ((execOp a.eval o).run P w):=by
 simp only[aT,bo]at h;obtain⟨⟨I,L⟩,r,⟨H,K⟩,q,he⟩:=h;simp at he;split at he
 . rename_i b kk m;obtain⟨rfl,rfl,rfl⟩:=he;obtain⟨z,A,t,G⟩:=y;have aq:=cp R E r z;have h1:=aq.1.hS;have g:=(cp R s q A).1.fA;have j:Addr.add ⟨(φ b).1,0,none⟩ (m.toNat*1)=⟨(φ b).1,m.toNat*1+0,none⟩:=by
    grind[Addr.add]
   refine Good.pure R (x:= .pointer (some ⟨(φ b).1,m.toNat*1+0,none⟩)) ?_ (.c ?_) (by grind[V.aF,C.aF])
   . have l:0<=m/\m<k:=⟨t,by omega⟩
     simp only[execOp,u,h1,g,Instr.indexAt,asIntOf,Instr.sureAddr,Sem.run_bind,run_underlying D,Result.andThen_ok,Sem.run_pure,ae l,jS B,j]
   rfl
 grind
theorem aaO(R:Rel aE nt φ S env J n a w){i:IntKind}{m:Int}(t:o.op= .indexAddr ty x (.const (.int i m))){k:Nat}(y:P.underlying ty=some (.array k e))
 (h0:0<=m/\m.toNat<k){s:Nat}(hs:eu P e=some s){g:aU}(z:bG x=some g)
 {p v J'}(A:n key=false)(h:aT (.fldA (m.toNat*s) g) env J key=some (p,v,J'))(u:p):Good P aE nt env J' (ins n key) a v ((execOp a.eval o).run P w):=by
 simp only[aT,bo]at h;obtain⟨⟨B,C⟩,r,he⟩:=h;simp at he;have j:a.eval (.const _)= .int i m:=rfl;have q:0<=m/\m<(k:Int):=⟨h0.1,by omega⟩
 have d:∀(b off:Nat),a.eval x= .pointer (some ⟨b,off,none⟩)->(execOp a.eval o).run P w= .ok (.value (.pointer (some ⟨b,off+m.toNat*s,none⟩))) w:=by
  intro b off e;have l:Addr.add ⟨b,off,none⟩ (m.toNat*s)=⟨b,off+m.toNat*s,none⟩:=by
   grind[Addr.add]
  simp only[execOp,t,e,j,Instr.indexAt,asIntOf,Instr.sureAddr,Sem.run_bind,run_underlying y,Result.andThen_ok,Sem.run_pure,ae q,jS hs,l]
 split at he<;>simp only[dF,reduceCtorEq]at he
 all_goals
  obtain⟨rfl,rfl,rfl⟩:=he;have aq:=cp R z r u;have h1:=aq.1.eb
 . exact Good.pure R (d _ _ h1) (.c rfl) aq.2
 . exact Good.pure R (d _ _ h1) (.c (by simp[bq,Nat.add_assoc])) aq.2
 . obtain⟨blk,off,f,h1,aa⟩:=h1;exact Good.pure R (d _ _ h1) (.c ⟨blk,off,f,by grind,aa⟩) aq.2
theorem aaP(R:Rel aE nt φ S env J n a w){i:Option Operand}(A:o.op= .slice ty x j i none){k:Nat}(I:P.underlying ty=some (.array k e))(G:eu P e=some 1)
 {g:aU}{f d:Option aU}(K:bG x=some g)(z:kv j=some f)(y:kv i=some d)
 {p v J'}(Q:n key=false)(h:aT (.slcP k g f d) env J key=some (p,v,J'))(B:p):Good P aE nt env J' (ins n key) a v ((execOp a.eval o).run P w):=by
 simp only[aT,bo]at h;obtain⟨⟨W,X⟩,u,⟨pl,l⟩,t,⟨U,h⟩,s,he⟩:=h;simp at he;split at he
 . rename_i b;obtain⟨rfl,rfl,rfl⟩:=he;obtain⟨D,E,F,h0,h1,m⟩:=B;have aq:=cp R K u D;have M:=aq.1.hS;have ah:=r1 R z t E;have aa:=r1 R y s F;have r:=EB (P:=P) (w:=w) (isSlice:=false) ah aa h0 h1 m (eI _);generalize O:(l.getD 0).toNat=L at*;generalize N:(h.getD _).toNat=H at*;have q:Addr.add ⟨(φ b).1,0,none⟩ (L*1)=⟨(φ b).1,L*1,none⟩:=by
    unfold Addr.add;split
    . grind
    . simp
   refine Good.pure R (x:= .slice (some (if k=L then⟨(φ b).1,0,none⟩else(Addr.add ⟨(φ b).1,0,none⟩ (L*1)))) _ (k-L)) ?_ (.c ⟨_,_,rfl,?_,by omega⟩) (by simpa[V.aF,C.aF]using aq.2)
   . simp[execOp,A,Instr.sliceAt,Instr.sureAddr,underlying,I,M,r,jS G]
   . intro T;rw[bl,q]
 grind
theorem aaQ{s:aj}(a:bytesOf es=some s):∀{xs:List Value},(∀(i:Nat) t,es[i]?=some [t]->∃v,xs[i]?=some v/\ch w S t v)->xs.length=es.length->
 ∃aL:ao,xs=aL.map (Value.int .u8)/\s=aL.map λm=>UInt8.ofNat m.toNat:=by
 induction es generalizing s with
 |nil=>simp_all[bytesOf]
 |cons e es ih=>
  intro xs b ah;unfold bytesOf at a;split at a
  . grind
  . rename_i m r d;cases d;simp at a;obtain⟨k,g,rfl⟩:=a;cases xs with
    |nil=>grind
    |cons x xs=>
     obtain⟨v,c,f⟩:=b 0 _ rfl;simp at c;subst c;cases f;obtain⟨aL,rfl,rfl⟩:=ih g (λi t j=>by simpa using b (i+1) t (by grind)) (by grind);exact⟨m::aL,rfl,rfl⟩
  grind
theorem aaR(aL:ao):∀(s:ByteArray),(aL.foldl (λr m=>r.push (UInt8.ofNat m.toNat)) s).data.toList=s.data.toList++aL.map λm=>UInt8.ofNat m.toNat:=by
 induction aL<;>simp_all
theorem LR{s:aj}(a:bytesOf es=some s):∀(i:Nat) e,es[i]?=some e->∃t,e=[t]:=by
 induction es generalizing s with
 |nil=>simp
 |cons cQ es ih=>
  unfold bytesOf at a;grind[bB]
theorem En{g c:TypeId}(hs:P.underlying g=some (.slice e))(he:P.underlying e=some (.int .u8))(k:P.underlying c=some .string){str:aj}{a:Option Addr}{len cap b:Nat}
 (ah:es.length=len)(f:bytesOf es=some str)(r:len≠0->a=some ⟨b,off,none⟩)(s:∀(i:Nat) t,es[i]?=some [t]->∃v,w.cell? ⟨b,off+i,none⟩=some v/\ch w S t v):
 ∃bs:ByteArray,(convert g c (.slice a len cap)).run P w= .ok (.string bs) w/\bs.data.toList=str:=by
 rw[run_convert_bytes_string w _ _ e a _ _ hs he k];by_cases h0:len=0
 . have m:es=[]:=j4 (by omega);subst m;simp[bytesOf]at f;cases a with
   |none=>simp_all[Conv.bytesToString]
   |some a0=>
    simp_all[run_bytesToString,loadCells,loadCellsFrom]
 . have u:∀i,i<len->∃t v,es[i]?=some [t]/\w.cell? ⟨b,off+i,none⟩=some v/\ch w S t v:=by
    intro i n;have h1:=fb (l:=es) (i:=i) (by omega);grind[LR]
   have aq:∀i,i<len->((List.range len).map λi=>(w.cell? ⟨b,off+i,none⟩).getD undef)[i]?=w.cell? ⟨b,off+i,none⟩:=(by grind);obtain⟨aL,h1,p⟩:=aaQ (w:=w) (S:=S) f (xs:=(List.range len).map λi=>(w.cell? ⟨b,off+i,none⟩).getD undef) (λi t n=>by grind) (by grind);have d:=zN (P:=P) (by simp) (λj o=>(aq j o).symm);rw[h1]at d;have q:=run_bytesToString w _ _ cap aL d;simp_all[aaR]
theorem HE:∀{es:List (List T)} {s:aj},bytesOf es=some s->s.length=es.length
 |[],s,h=>by grind[bytesOf]
 |e::es,s,h=>by
  unfold bytesOf at h;split at h
  . grind
  . rename_i m r a;cases a;simp at h;obtain⟨c,b,rfl⟩:=h;simp[HE b]
  grind
theorem acK(R:Rel aE nt φ S env J n a w){A r:TypeId}(ad:o.op= .convert A r x)(hs:P.underlying A=some (.slice e))(he:P.underlying e=some (.int .u8))(u:P.underlying r=some .string){D:aU}(V:bG x=some D)
 {p v J'}(Z:n key=false)(h:aT (.b2s D) env J key=some (p,v,J'))(O:p):Good P aE nt env J' (ins n key) a v ((execOp a.eval o).run P w):=by
 simp only[aT,bo,bB,dY]at h;obtain⟨⟨ak,al⟩,H,⟨q,str⟩,g,rfl,rfl,rfl⟩:=h;obtain⟨Q,y⟩:=O;have aq:=cp R V H Q
 suffices aa:∃d len cap,a.eval x= .slice d len cap/\str.length<=dT/\∃bs:ByteArray,(convert A r (.slice d len cap)).run P w= .ok (.string bs) w/\bs.data.toList=str by
  obtain⟨d,len,cap,h1,F,bs,K,G⟩:=aa;have N:bs.size<=eE:=by grind[xk,dT,eE]
  refine Good.pure R (x:= .string bs) ?_ (.c ?_) rfl
  . simp_all[execOp]
  . rw[<-G];exact .str bs N
 have z:∀ (b off len:Nat) (es:List (List T)) (d:Option Addr) (cap:Nat),aY J b = some (.arr 1 es)->off+len<=es.length->bytesOf ((es.drop off).take len) = some str->(len≠0->d = some ⟨(φ b).1,off*1,none⟩)->((φ b).2≠0\/len = 0)->a.eval x = .slice d len cap->
  ∃d len cap,a.eval x= .slice d len cap/\str.length<=dT/\∃bs:ByteArray,(convert A r (.slice d len cap)).run P w= .ok (.string bs) w/\bs.data.toList=str:=by
  intro b off len es d cap M I j L h0 C;obtain⟨h1,F,K,G,bf⟩:=R.bR.blk b _ M;have ah:((es.drop off).take len).length=len:=by grind
  refine⟨d,len,cap,C,by grind[HE],?_⟩;refine En (S:=S) hs he u ah j L ?_;intro i t m;rw[yK]at m;split at m
  . rw[List.getElem?_drop]at m;rcases h0 with h0|h0
    . obtain⟨vs,E,aa,aj,U,_⟩:=bf h0;obtain⟨v,ag,ai⟩:=U _ 0 _ t m rfl;grind[js]
    grind
  grind
 dsimp only at g H aq;unfold nU at g;split at g
 . rename_i es;simp only[bB,dY]at g;obtain⟨s,j,rfl,rfl⟩:=g;obtain⟨d,cap,sz,b,off,f,h1,X,ab,af,k,W,C⟩:=ch.kz aq.1.eb;refine⟨d,es.length,cap,h1,by grind[HE],?_⟩;by_cases B:es=[]
   . subst B;exact En (S:=S) (b:=0) (off:=0) hs he u rfl j (by simp) (by simp)
   . have ae:sz=1:=by
      obtain⟨cQ,Y⟩:=CT es B;grind[List.mem_iff_getElem?,LR]
     refine En (S:=S) (b:=b) (off:=off) hs he u rfl j (λ_=>k B) ?_;intro i t m;exact⟨f i 0,by grind,C i 0 _ t m rfl⟩
 . cases g;obtain⟨d,h1⟩:=aq.1.eb;exact⟨d,0,0,h1,by simp,En (S:=S) (es:=[]) (b:=0) (off:=0) hs he u rfl rfl (by simp) (by simp)⟩
 . rename_i b off len;split at g
   . rename_i es l;simp only[bB,dY]at g;obtain⟨s,j,rfl,rfl⟩:=g;obtain⟨d,h1,k,I⟩:=bq.hl aq.1.eb;by_cases h0:(φ b).2=0
     . exact z b off len es d _ l y j (λh=>by omega) (.inr (by omega)) h1
     . exact z b off len es d _ l y j (λ_=>k h0) (.inl h0) h1
   . cases g
 . rename_i b off len;split at g
   . rename_i es l;simp only[bB,dY]at g;obtain⟨s,j,rfl,rfl⟩:=g;obtain⟨d,cap,h1,k,I⟩:=aq.1.eb;obtain⟨F,_⟩:=R.bR.blk b _ l;by_cases h0:len=0
     . exact z b off len es d _ l y j k (.inr h0) h1
     . exact z b off len es d _ l y j k (.inl (by omega)) h1
   . cases g
 . cases g
end
end
end Go.Proofs.YtdjagncoefjfeaaGreat.Shv
