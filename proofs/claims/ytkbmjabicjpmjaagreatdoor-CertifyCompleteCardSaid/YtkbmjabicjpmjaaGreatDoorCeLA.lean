/- The library of this proof, part A: an abstract machine for the code of the program, and its soundness. -/
import Derived.LoopN
import Derived.Calls
import Derived.Laws.Sem
import Derived.Laws.World
import Derived.Laws.Cells
import Derived.Below
import Derived.Laws.Strings
import Derived.Laws.StructEq
import Derived.Laws.BytesString

namespace Go.Proofs.YtkbmjabicjpmjaaGreatDoor.Shv
set_option linter.all false
abbrev aD:=List UInt8
abbrev az:=List Int
abbrev aZ:=List Nat
section
def ai:=@if_pos
def av:=@if_neg
def bU:=@Bool.false_eq_true
def df:=@List.getElem?_eq_getElem
def dL:=@List.getElem?_eq_some_iff
def er:=@Option.ite_none_right_eq_some
def cO:=@Bool.and_eq_true
def bN:=@if_false
def bJ:=@if_true
def dQ:=@List.length_append
def cL:=@decide_true
def dK:=@Option.some.injEq
def ds:=@Bool.not_true
def eV:=@List.mem_of_getElem?
def ey:=@Int.toNat_natCast
def dn:=@decide_false
def eY:=@Nat.mul_le_mul_right
def dW:=@Prod.mk.injEq
def ez:=@decide_eq_true
def eL:=@Bool.not_false
def fk:=@List.all_eq_true
def gf:=@of_decide_eq_true
def gg:=@decide_eq_true_eq
def fg:=@List.mem_cons
def dX:=@cond_true
def du:=@Ne.symm
def iw:=@List.drop_eq_nil_of_le
def eF:=@cond_false
def dP:=@congrArg
def gh:=@List.drop_zero
def e6:=@Nat.le_refl
def lg:=@List.eq_nil_of_length_eq_zero
def gY:=@List.mem_append
def jJ:=@List.drop_of_length_le
def ix:=@Nat.lt_of_lt_of_le
def j5:=@Option.bind_eq_some_iff
def hn:=@List.length_set
def iy:=@List.contains_nil
def jk:=@List.getElem_of_mem
def jl:=@beq_eq_false_iff_ne
def hJ:=@decide_eq_false
def jm:=@List.contains_cons
def gZ:=@Bool.or_false
def gS:=@Nat.zero_add
def l0:=@List.drop_eq_getElem_cons
def g':=@List.mem_map
def hK:=@Nat.le_trans
def j6:=@List.flatMap_cons
def kH:=@List.mem_singleton
def kI:=@List.pairwise_cons
def l1:=@List.mem_iff_getElem
def j7:=@List.nil_append
def h3:=@Nat.add_mul
def kJ:=@List.length_cons
def lh:=@List.append_assoc
def qu:=@List.getElem?_append_left
def hL:=@beq_iff_eq
def l3:=@Int.emod_lt_of_pos
def kK:=@List.foldl_cons
def sq:=@List.getD_eq_getElem?_getD
def lj:=@Bool.or_eq_true
def lk:=@Option.map_some
def l4:=@Int.emod_nonneg
def nx:=@Int.natCast_zero
def oL:=@List.pairwise_map
def ny:=@List.append_nil
def sr:=@Nat.le_of_ble_eq_true
def l5:=@List.all_cons
def l6:=@List.map_cons
def kL:=@Nat.zero_le
def l7:=@Bool.true_and
def x2:=@Array.getElem?_setIfInBounds
def qv:=@List.getElem?_map
def su:=@List.getD_cons_zero
def uU:=@List.take_of_length_le
def l8:=@Bool.true_or
def x3:=@Array.getElem?_eq_some_iff
def x4:=@List.getElem?_append_right
def qw:=@List.any_eq_true
def qx:=@List.length_nil
def qy:=@List.length_map
def uV:=@Bool.or_eq_false_iff
def qz:=@Bool.eq_iff_iff
def zZ:=@Option.ite_none_left_eq_some
def uW:=@List.getElem?_take
def uX:=@List.mem_cons_self
def x5:=@List.length_singleton
def qA:=@Bool.and_true
def uY:=@List.ext_getElem?
def uZ:=@List.getElem?_set
def x6:=@Bool.not_eq_true'
def z6:=@List.exists_mem_of_ne_nil
def x7:=@List.mem_of_mem_take
def z7:=@List.mem_or_eq_of_mem_set
def z8:=@Array.getElem?_eq_getElem
def u0:=@List.length_take
def u1:=@List.cons_append
def z':=@Bool.eq_false_or_eq_true
def Aa:=@List.getElem?_cons_zero
def Ab:=@List.getElem?_cons_succ
def zL:=@List.getElem?_replicate
def uN:=@Nat.not_lt_zero
def zM:=@Option.some.inj
def zN:=@Option.map_eq_some_iff
def sk:=@Nat.add_zero
def uO:=@List.drop_drop
def sn:=@Nat.le_of_eq
def zO:=@List.getElem?_toArray
def uP:=@List.nodup_nil
def zP:=@List.mem_iff_getElem?
def uQ:=@Int.mul_nonneg
def oK:=@and_false
def xU:=@Nat.mod_eq_of_lt
def xV:=@List.getElem_mem
def xW:=@List.range'_succ
def zQ:=@List.getElem?_zipIdx
def zR:=@List.mem_cons_of_mem
def zS:=@Array.length_toList
def zT:=@List.length_pos_iff
def zU:=@Array.toList_modify
def xX:=@List.mem_filter
def xY:=@List.map_append
def Ds:=@List.eq_of_mem_replicate
def Dt:=@Option.isSome_iff_exists
def Du:=@Nat.le_mul_of_pos_right
def zV:=@List.foldl_append
def uR:=@Nat.le_succ
def zW:=@Bool.cond_eq_ite
def Dv:=@Array.getElem?_modify
def Dw:=@Array.getElem?_toList
def Dx:=@List.getElem?_eq_none
def Dy:=@List.contains_iff_mem
def Dz:=@List.mem_of_mem_drop
def xZ:=@exists_false
def OP:=@List.eq_nil_iff_forall_not_mem
def DA:=@List.pairwise_append
def DB:=@List.getD_cons_succ
def DC:=@List.flatMap_append
def zX:=@Int.mul_le_mul
def x0:=@Nat.mul_one
def x1:=@Int.le_refl
def DD:=@List.getElem?_drop
def DE:=@Array.toList_push
def DF:=@List.nodup_append
def zY:=@Nat.zero_mul
def DG:=@List.ext_getElem
def DH:=@Option.getD_some
def uS:=@and_self
def uT:=@and_true
variable{c:Prop}{α a:Type}{R:α->a->Prop}
theorem fS{h:Decidable c}(a:c:=by omega){α:Sort _}{t e:α}:ite c t e=t:=if_pos a
theorem cg{h:Decidable c}(a:c:=by simp;omega){α:Sort _}{t e:α}:ite c t e=t:=if_pos a
theorem cV{h:Decidable c}(a:¬c:=by omega){α:Sort _}{t e:α}:ite c t e=e:=if_neg a
theorem de{h:Decidable c}(a:¬c:=by simp;omega){α:Sort _}{t e:α}:ite c t e=e:=if_neg a
theorem c8{h:Decidable c}(a:¬c:=by simp){α:Sort _}{t e:α}:ite c t e=e:=if_neg a
theorem bx{α:Type _}{b:α}{c:Type _}{x:Option c}{f:c->α}:Option.map f x=some b↔∃a,x=some a/\f a=b:=zN
theorem bk{α:Type _}{b:α}{c:Type _}{x:Option c}{f:c->Option α}:x.bind f=some b↔∃a,x=some a/\f a=some b:=j5
theorem aw{α:Type _}{b:Type _}(a:α)(f:α->Option b):(some a).bind f=f a:=Option.bind_some ..
theorem bl.{u}{α a:Type u}:(bind:Option α->(α->Option a)->Option a)=Option.bind:=Option.bind_eq_bind
open Go
inductive T where
 |bool (b:Bool)
 |int (k:IntKind)(n:Int)
 |str (s:aD)
 |slice (es:List (List T))
inductive C where
 |t (x:T)
 |ptr (b o:Nat)
 |cH (b sz i o:Nat)
 |dF (ts:List T)(o:Nat)
 |arr (b sz off len:Nat)
 |fC (b sz off len:Nat)
 |mp (b:Nat)
 |en (b:Nat)
 |cj (b len:Nat)
 |aT
 |eU
 |eT
 |fn (f:Nat)(caps:aZ)
 |dead
inductive V where
 |c (x:C)
 |agg (cs:List C)
 |ba (vs:List V)
inductive bT where
 |box (cs:List C)
 |arr (sz:Nat)(es:List (List T))
 |set (ks:List aD)
 |buf (E:TypeId)(s:aD)
 |b1 (E:TypeId)(c:C)
 |cx (sz:Nat)(es:List (List T))(i o:Nat)(c:C)
abbrev c6:=Nat->Nat->Prop
abbrev c0:=Nat->Nat×Nat
def ej:Nat:=9223372036854775807
def dk:Nat:=281474976710656
inductive bP (w:World)(S:c6):T->Value->Prop
 |bool (b:Bool):bP w S (.bool b) (.bool b)
 |int (k:IntKind) (n:Int):bP w S (.int k n) (.int k n)
 |str (s:ByteArray) (h:s.size<=ej):bP w S (.str s.data.toList) (.string s)
 |slice (es:List (List T)) (a:Option Addr) (cap sz b o:Nat) (f:Nat->Nat->Value)
  (afc:es.length<=cap) (aff:es.length<=dk)
  (afl:∀e,e∈es->e.length=sz)
  (vT:es≠[]->a=some ⟨b,o,none⟩)
  (OA:∀i j,i<es.length->j<sz->S b (o+i*sz+j)/\w.cell? ⟨b,o+i*sz+j,none⟩=some (f i j))
  (OB:∀i j e t,es[i]?=some e->e[j]?=some t->bP w S t (f i j)):
  bP w S (.slice es) (.slice a es.length cap)
structure fP (w:World)(S:c6)(w':World)(bj:c6):Prop where
 sub:∀b j,S b j->bj b j
 cell:∀b j,S b j->w'.cell? ⟨b,j,none⟩=w.cell? ⟨b,j,none⟩
theorem fP.refl(w:World)(S:c6):fP w S w S:=⟨λ_ _ h=>h,λ_ _ _=>rfl⟩
theorem fP.trans{w S w' bj e c}(h:fP w S w' bj)(k:fP w' bj e c):fP w S e c:=
 ⟨λb j a=>k.sub b j (h.sub b j a),λb j a=>(k.cell b j (h.sub b j a)).trans (h.cell b j a)⟩
theorem bP.mono{w S w' bj}(m:fP w S w' bj){t v}(h:bP w S t v):bP w' bj t v:=by
 induction h with
 |bool b=>exact .bool b
 |int k n=>exact .int k n
 |str s h=>exact .str s h
 |slice es a cap sz b o f q x y p c A ih=>
  exact .slice es a _ sz b o f q x y p
   (λi j e g=>⟨m.sub _ _ (c i j e g).1,by rw[m.cell _ _ (c i j e g).1];grind⟩) ih
theorem bP.iz{w S t v}(h:bP w S t v):v.oneCell'=true:=by cases h<;>rfl
def bq(φ:c0)(w:World)(S:c6):C->Value->Prop
 |.t x,v=>bP w S x v
 |.ptr b o,v=>v= .pointer (some ⟨(φ b).1,o,none⟩)
 |.cH b sz i o,v=>v= .pointer (some ⟨(φ b).1,i*sz+o,none⟩)
 |.dF ts o,v=>∃ (blk off:Nat) (f:Nat->Value),v = .pointer (some ⟨blk,off+o,none⟩)/\
  ∀j t,ts[j]?=some t->S blk (off+j)/\w.cell? ⟨blk,off+j,none⟩=some (f j)/\bP w S t (f j)
 |.arr b sz off len,v=>∃a,v= .slice a len ((φ b).2-off)/\((φ b).2≠0->a=some ⟨(φ b).1,off*sz,none⟩)/\off+len<=(φ b).2
 |.fC b sz off len,v=>∃a cap,v= .slice a len cap/\(len≠0->a=some ⟨(φ b).1,off*sz,none⟩)/\len<=cap
 |.mp b,v=>v= .map (some (φ b).1)
 |.cj b len,v=>len<=(φ b).2/\((φ b).2=0->v= .slice none 0 0)/\((φ b).2≠0->v= .slice (some ⟨(φ b).1,0,none⟩) len (φ b).2)
 |.en b,v=>∃p,v= .pointer p/\((φ b).2≠0->p=some ⟨(φ b).1,0,none⟩)
 |.aT,v=>∃a,v= .slice a 0 0
 |.eU,v=>v= .pointer none
 |.eT,v=>v= .nilFunc
 |.fn f caps,v=>v= .func (.func f) #[] (caps.map λb=>Value.pointer (some ⟨(φ b).1,0,none⟩)).toArray
 |.dead,v=>v.oneCell'=true
theorem bq.iz{φ w S c v}(h:bq φ w S c v):v.oneCell'=true:=by
 cases c with
 |t x=>exact bP.iz h
 |dF ts o=>obtain⟨_,_,_,rfl,_⟩:=h;rfl
 |arr b sz off len=>obtain⟨_,rfl,_⟩:=h;rfl
 |fC b sz off len=>obtain⟨_,_,rfl,_⟩:=h;rfl
 |en b=>obtain⟨_,rfl,_⟩:=h;rfl
 |cj b len=>
  by_cases h0:(φ b).2=0
  . rw[h.2.1 h0];rfl
  . rw[h.2.2 h0];rfl
 |aT=>obtain⟨_,rfl⟩:=h;rfl
 |dead=>exact h
 |_=>cases h;rfl
def C.aA(n:Nat->Bool):C->Bool
 |.ptr b _=>n b
 |.cH b _ _ _=>n b
 |.arr b _ _ _=>n b
 |.fC b _ _ _=>n b
 |.mp b=>n b
 |.en b=>n b
 |.cj b _=>n b
 |.fn _ caps=>caps.all λb=>n b
 |_=>true
def V.aA(n:Nat->Bool):V->Bool
 |.c x=>x.aA n
 |.agg cs=>cs.all (C.aA n)
 |.ba vs=>V.dr n vs
where V.dr (n:Nat->Bool):List V->Bool
 |[]=>true
 |v::vs=>v.aA n&&V.dr n vs
theorem bq.mono{φ bg:c0}{w S w' bj}(m:fP w S w' bj){n:Nat->Bool}(e:∀b,n b=true->bg b=φ b){c v}(a:c.aA n=true)(h:bq φ w S c v):bq bg w' bj c v:=by
 cases c with
 |t x=>exact bP.mono m h
 |ptr b o=>grind[C.aA,bq]
 |cH b sz i o=>grind[C.aA,bq]
 |dF ts o=>
  obtain⟨blk,off,f,rfl,aa⟩:=h;exact⟨blk,off,f,rfl,λj t ht=>⟨m.sub _ _ (aa j t ht).1,by rw[m.cell _ _ (aa j t ht).1];grind,bP.mono m (aa j t ht).2.2⟩⟩
 |arr b sz off len=>grind[C.aA,bq]
 |fC b sz off len=>grind[C.aA,bq]
 |mp b=>grind[C.aA,bq]
 |en b=>grind[C.aA,bq]
 |cj b len=>grind[C.aA,bq]
 |aT=>exact h
 |eU=>exact h
 |eT=>exact h
 |fn f caps=>
  grind[bq,List.map_congr_left,C.aA]
 |dead=>exact h
inductive a6 {α β:Type}(R:α->β->Prop):List α->List β->Prop
 |nil:a6 R [] []
 |cons {a b l m}:R a b->a6 R l m->a6 R (a::l) (b::m)
variable{e:Type}
theorem a6.imp{R R':α->e->Prop}{l m}(h:a6 R l m)(k:∀a b,a∈l->R a b->R' a b):a6 R' l m:=by
 induction h with
 |nil=>exact .nil
 |cons c _ ih=>exact .cons (k _ _ (by simp) c) (ih λa b f=>k a b (by grind))
theorem a6.length{l:List α}{m:List a}(h:a6 R l m):l.length=m.length:=by
 induction h<;>grind
theorem a6.get{c:Type}{R:α->c->Prop}{l:List α}{m:List c}(h:a6 R l m){i:Nat}{a:α}(e:l[i]?=some a):∃b,m[i]?=some b/\R a b:=by
 induction h generalizing i<;>grind
theorem a6.kM{c:Type}{R:α->c->Prop}:∀{l:List α} {m:List c},l.length=m.length->(∀(i:Nat) a b,l[i]?=some a->m[i]?=some b->R a b)->a6 R l m
 |[],[],_,_=>.nil
 |[],_::_,h,_=>by grind
 |_::_,[],h,_=>by grind
 |a::l,b::m,h,k=>.cons (k 0 a b (by rfl) (by rfl)) (a6.kM (by grind) λi x y I ak=>k (i+1) x y (by grind) (by grind))
theorem a6.append{R:α->e->Prop}{l a:List α}{m c:List e}(h:a6 R l m)(g:a6 R a c):a6 R (l++a) (m++c):=by
 induction h with
 |nil=>grind
 |cons f _ ih=>exact .cons f ih
theorem a6.drop{l:List α}{m:List a}(h:a6 R l m)(k:Nat):a6 R (l.drop k) (m.drop k):=by
 induction h generalizing k with
 |nil=>simp;exact .nil
 |cons c ht ih=>cases k with
  |zero=>exact .cons c ht
  |succ k=>grind
theorem a6.take{l:List α}{m:List a}(h:a6 R l m)(k:Nat):a6 R (l.take k) (m.take k):=by
 induction h generalizing k with
 |nil=>simp;exact .nil
 |cons c _ ih=>cases k with
  |zero=>exact .nil
  |succ k=>exact .cons c (ih k)
inductive b2 (φ:c0)(w:World)(S:c6):V->Value->Prop
 |c {x v}:bq φ w S x v->b2 φ w S (.c x) v
 |agg {cs vs}:a6 (bq φ w S) cs vs->b2 φ w S (.agg cs) (.agg vs.toArray)
 |ba (vs:List V) (xs:List Value) (ag:vs.length = xs.length) (h:∀ (i:Nat) v x,vs[i]? = some v->xs[i]? = some x->b2 φ w S v x):
  b2 φ w S (.ba vs) (.tuple xs.toArray)
theorem lR{n:Nat->Bool}:∀{vs:List V} {i:Nat} {v:V},V.aA.V.dr n vs=true->vs[i]?=some v->v.aA n=true
 |[],_,_,_,h=>by grind
 |x::vs,0,v,a,h=>by grind[V.aA.V.dr]
 |x::vs,i+1,v,a,h=>by simp[V.aA.V.dr]at a;exact lR a.2 (by simpa using h)
theorem b2.mono{φ bg:c0}{w S w' bj}(m:fP w S w' bj){n:Nat->Bool}(f:∀b,n b=true->bg b=φ b){x v}(o:V.aA n x=true)(h:b2 φ w S x v):b2 bg w' bj x v:=by
 induction h with
 |c h=>exact .c (bq.mono m f (by grind[V.aA]) h)
 |agg h=>exact .agg (h.imp λa b j g=>bq.mono m f (by grind[V.aA]) g)
 |ba vs xs ag h ih=>exact .ba vs xs ag λi v x e I=>ih i v x e I (lR (by grind[V.aA]) e)
end
section
open Go
inductive aO where
 |tmp (t:Nat)
 |const (v:V)
inductive cF where
 |mov (x:aO)
 |pick (c x y:aO)
 |alloc (cs:List C)
 |box (x:aO)
 |build (zero:List C)(parts:List (Nat×Nat×aO))
 |bslice (sz:Nat)(len:Nat)(zero:List C)(parts:List (Nat×aO))
 |load (agg:Bool)(n:Nat)(x:aO)
 |store (n:Nat)(x v:aO)
 |nilCheck (x:aO)
 |bin (op:BinOp)(x y:aO)
 |eqAgg (neg:Bool)(ks:aZ)(x y:aO)
 |eqBool (neg:Bool)(x y:aO)
 |eqNil (neg:Bool)(x:aO)
 |not (x:aO)
 |conv (k:IntKind)(x:aO)
 |i2s (x:aO)
 |s2s (x:aO)
 |fldA (off:Nat)(x:aO)
 |fld (agg:Bool)(off n:Nat)(x:aO)
 |idxA (sz:Nat)(x i:aO)
 |idxS (x i:aO)
 |slcS (x:aO)(ns Dc:Option aO)
 |slc (sz:Nat)(x:aO)(ns Dc:Option aO)
 |slc0 (x:aO)
 |allocA (cs:List C)
 |idxP (n:Nat)(x i:aO)
 |idxV (n:Nat)(x i:aO)
 |mslice (sz bytes:Nat)(zero:List C)(x:aO)
 |slcP (n:Nat)(x:aO)(ns Dc:Option aO)
 |b2s (x:aO)
 |allocS (e e8:Nat)
 |bsliceT (e sz len:Nat)(zero:List C)(parts:List (Nat×aO))
 |mkset
 |lkset (x k:aO)
 |upset (x k:aO)
 |appendB (e bytes:Nat)(x y:aO)
 |sdata (x:aO)
 |ustr (e:Nat)(x n:aO)
 |mkfn (f:Nat)(caps:List aO)
 |ext (x:aO)(i:Nat)
 |len (str:Bool)(x:aO)
 |append (e sz bytes:Nat)(x y:aO)
 |appendT (e sz bytes:Nat)(x y:aO)
 |max2 (x y:aO)
 |min2 (x y:aO)
 |call (f:Nat)(args:List aO)
 |hD (x:aO)(args:List aO)
structure b5 where
 dst:Option Nat
 op:cF
 guard:Option (Nat×Bool)
def Ac:Value->Option C
 |.bool b=>some (.t (.bool b))
 |.int k n=>some (.t (.int k n))
 |.string s=>if s.size<=ej then some (.t (.str s.data.toList))else none
 |.slice none 0 0=>some .aT
 |.pointer none=>some .eU
 |.nilFunc=>some .eT
 |.nilIface=>some .dead
 |_=>none
def uq:List Value->Option (List C)
 |[]=>some []
 |v::vs=>(Ac v).bind λc=>(uq vs).map (c::·)
def F8:Value->Option V
 |.agg cs=>(uq cs.toList).map .agg
 |v=>(Ac v).map .c
def bA:Operand->Option aO
 |.tmp t=>some (.tmp t)
 |.const v=>(F8 v).map .const
 |.func f=>some (.const (.c (.fn f [])))
 |.global _=>none
def l9:List Operand->Option (List aO)
 |[]=>some []
 |x::xs=>(bA x).bind λa=>(l9 xs).map (a::·)
def jK:Option Operand->Option (Option aO)
 |none=>some none
 |some x=>(bA x).map some
def jr(P:Program)(t:TypeId):Option (List C):=
 (P.info? t).bind λi=>i.zero.bind λz=>uq z.cells.toList
def oz(P:Program)(t:TypeId):Option Bool:=
 match P.underlying t with
 |some (.struct _)|some (.array _ _)=>some true
 |some _=>some false
 |none=>none
def ea(P:Program)(t:TypeId):Option Nat:=(P.info? t).map (·.size)
def lT(P:Program)(t:TypeId):Option (Bool×Nat):=
 (oz P t).bind λg=>(ea P t).bind λn=>if g=false->n=1 then some (g,n)else none
def gL(P:Program)(f:Nat):Bool:=
 match P.funcs[f]? with
 |some fn=>fn.body.isSome && !(fn.name == "runtime.NumGoroutine")
 |none=>false
def oI(P:Program)(t:TypeId):Option Nat:=
 match P.underlying t with
 |some .bool=>some 0
 |some (.int _)=>some 1
 |some .string=>some 2
 |_=>none
def w1(P:Program):Nat->List Field->Option aZ
 |_,[]=>some []
 |i,f::fs=>if f.offset = i/\f.name≠ "_" then (oI P f.type).bind λk=>(w1 P (i+1) fs).map (k :: ·) else none
def Fe(P:Program)(t:TypeId):Option aZ:=
 match P.underlying t with
 |some (.struct fs)=>if P.stoodInHeld t=false/\P.eqGuardType P.depth t=false then w1 P 0 fs.toList else none
 |_=>none
def F9(P:Program)(t:TypeId):Option aZ:=
 match P.underlying t with
 |some (.array n e)=>if ea P e=some 1/\P.eqGuardType P.depth t=false then(oI P e).map (List.replicate n)else none
 |_=>none
def FH(P:Program)(fs:Array Field):Bool:=fs.toList.all λf=>(ea P f.type).isSome
def uE(P:Program)(fs:Array Field):List (Nat×Operand)->Option (List (Nat×Nat×aO))
 |[]=>some []
 |(j,x)::r=>(fs[j]?).bind λf=>(ea P f.type).bind λn=>(bA x).bind λa=>(uE P fs r).map ((f.offset,n,a)::·)
def tY(n:Nat):List (Nat×Operand)->Option (List (Nat×Nat×aO))
 |[]=>some []
 |(j,x)::r=>(bA x).bind λa=>(tY n r).map ((j*n,n,a)::·)
def oe:List (Nat×Operand)->Option (List (Nat×aO))
 |[]=>some []
 |(j,x)::r=>(bA x).bind λa=>(oe r).map ((j,a)::·)
def kV(P:Program)(c:Call):Option cF:=
 match c.callee with
 |.builtin .len=>match c.args.toList,c.argTypes.toList with
  |[x],[t]=>match P.underlying t with
   |some .string=>(bA x).map (.len true)
   |some (.slice _)=>(bA x).map (.len false)
   |_=>none
  |_,_=>none
 |.builtin .append=>match c.args.toList,c.argTypes.toList with
  |[x,y],[t,u]=>match P.underlying t,P.underlying u with
   |some (.slice e),some .string=>(P.info? e).bind λi=>(bA x).bind λa=>(bA y).bind λb=>
    if i.size=1/\(i.zero.map (·.cells.size))=some 1/\(match P.underlying e with|some (.int .u8)=>true|_=>false)=true then some (.appendB e i.bytes a b)else none
   |some (.slice e),some (.slice _)=>(P.info? e).bind λi=>(bA x).bind λa=>(bA y).bind λb=>
    if i.size≠0/\(i.zero.map (·.cells.size))=some i.size then some (.append e i.size i.bytes a b)else none
   |_,_=>none
  |_,_=>none
 |.builtin .max=>match c.args.toList with
  |[x,y]=>(bA x).bind λa=>(bA y).map λb=>.max2 a b
  |_=>none
 |.builtin .min=>match c.args.toList with
  |[x,y]=>(bA x).bind λa=>(bA y).map λb=>.min2 a b
  |_=>none
 |.builtin .unsafeSliceData=>match c.args.toList,c.argTypes.toList with
  |[x],[t]=>match P.underlying t with
   |some (.slice e)=>if ea P e=some 1 then(bA x).map .sdata else none
   |_=>none
  |_,_=>none
 |.builtin .unsafeString=>match c.args.toList,c.argTypes.toList with
  |[x,n],[t,_]=>match P.underlying t with
   |some (.pointer e)=>if(match P.underlying e with|some (.int .u8)=>true|_=>false)=true/\ea P e=some 1/\P.cellsOf e=1 then(bA x).bind λa=>(bA n).map λb=>.ustr e a b else none
   |_=>none
  |_,_=>none
 |.value (.func f)=>if gL P f then(l9 c.args.toList).map (.call f)else none
 |.value (.tmp t)=>(l9 c.args.toList).map (.hD (.tmp t))
 |_=>none
def XI(P:Program)(t:TypeId):Bool:=
 match P.info? t with
 |some i=>(match i.desc with|.named n _=>n == "strings.Builder" |_=>false)
 |none=>false
def Ql:List Value->Bool
 |[.pointer none,.slice none 0 0]=>true
 |_=>false
def Jz(P:Program)(t:TypeId):Bool:=
 match (P.info? t).bind (·.zero)with
 |some z=>Ql z.cells.toList
 |none=>false
def wS(P:Program)(t:TypeId):Option Nat:=
 if XI P t=true/\Jz P t=true then match P.underlying t with
  |some (.struct fs)=>(fs[1]?).bind λf=>match P.underlying f.type with
   |some (.slice e)=>some e
   |_=>none
  |_=>none
 else none
def rK(P:Program)(t:TypeId):Bool:=
 match P.underlying t with
 |some (.map k v)=>(match P.underlying k,P.underlying v with|some .string,some .bool=>true|_,_=>false)&&(match (P.info? v).bind (·.zero)with|some (.bool false)=>true|_=>false)
 |_=>false
def FI:Operand->Bool
 |.const (.bool true)=>true
 |_=>false
def Ff:Operand->Bool
 |.const (.slice none 0 0)=>true
 |_=>false
def D7:Operand->Operand->Bool
 |.tmp s,.tmp t=>s==t
 |_,_=>false
def cY(P:Program)(o:Op):Option cF:=
 match o with
 |.move x|.assign x=>(bA x).map .mov
 |.pick c a b=>(bA c).bind λc=>(bA a).bind λa=>(bA b).map λb=>.pick c a b
 |.alloc e=>match wS P e with
  |some e8=>some (.allocS e e8)
  |none=>(jr P e).bind λcs=>match P.underlying e with
   |some (.array n t)=>if ea P t=some 1/\n=cs.length/\4<n/\n<=2^24 then some (.allocA cs)else some (.alloc cs)
   |_=>some (.alloc cs)
 |.box _ x=>(bA x).map .box
 |.build t parts=>match P.underlying t with
  |some (.struct fs)=>if FH P fs then(jr P t).bind λz=>(uE P fs parts.toList).map λps=>.build z ps else none
  |some (.array _ e)=>(jr P t).bind λz=>(ea P e).bind λn=>(tY n parts.toList).map λps=>.build z ps
  |_=>none
 |.buildSlice t len parts=>match P.underlying t with
  |some (.slice e)=>(ea P e).bind λn=>(jr P e).bind λz=>(oe parts.toList).bind λps=>
   if n≠0/\z.length=n/\len*n<=2^24 then some (.bslice n len z ps)else none
  |_=>none
 |.load t a=>(lT P t).bind λg=>(bA a).map λx=>.load g.1 g.2 x
 |.store t a v=>(ea P t).bind λn=>(bA a).bind λx=>(bA v).map λy=>.store n x y
 |.nilCheck x=>(bA x).map .nilCheck
 |.binOp op t x y _=>
  if op= .eql\/op= .neq then match P.underlying t with
   |some (.array _ _)=>(F9 P t).bind λks=>(bA x).bind λa=>(bA y).map λb=>.eqAgg (op== .neq) ks a b
   |some (.struct _)=>(Fe P t).bind λks=>(bA x).bind λa=>(bA y).map λb=>.eqAgg (op== .neq) ks a b
   |some (.slice _)=>if Ff y then(bA x).map (.eqNil (op== .neq))else none
   |some .bool=>(bA x).bind λa=>(bA y).map λb=>.eqBool (op== .neq) a b
   |some (.int _)|some .string=>(bA x).bind λa=>(bA y).map λb=>.bin op a b
   |_=>none
  else(bA x).bind λa=>(bA y).map λb=>.bin op a b
 |.unOp .not _ x=>(bA x).map .not
 |.unOp .neg t x=>match P.underlying t with
  |some (.int k)=>(bA x).map (.bin .sub (.const (.c (.t (.int k 0)))))
  |_=>none
 |.unOp .xor t x=>match P.underlying t with
  |some (.int k)=>(bA x).map (.bin .xor (.const (.c (.t (.int k (if k.signed then -1 else k.max))))))
  |_=>none
 |.convert s d x=>match P.underlying s,P.underlying d with
  |some (.int _),some (.int k)=>(bA x).map (.conv k)
  |some (.int _),some .string=>(bA x).map .i2s
  |some .string,some .string=>(bA x).map .s2s
  |some (.slice e),some .string=>if(match P.underlying e with|some (.int .u8)=>true|_=>false)=true/\ea P e=some 1 then(bA x).map .b2s else none
  |_,_=>none
 |.fieldAddr t x f=>match P.underlying t with
  |some (.struct fs)=>(fs[f]?).bind λj=>(ea P j.type).bind λn=>if n=0 then none else(bA x).map (.fldA j.offset)
  |_=>none
 |.field t x f=>match P.underlying t with
  |some (.struct fs)=>(fs[f]?).bind λj=>(lT P j.type).bind λg=>(bA x).map (.fld g.1 j.offset g.2)
  |_=>none
 |.indexAddr t x i=>match P.underlying t with
  |some (.slice e)=>(ea P e).bind λn=>if n=0 then none else(bA x).bind λa=>(bA i).map λb=>.idxA n a b
  |some (.array n e)=>match i with
   |.const (.int _ m)=>if 0<=m/\m.toNat<n then(ea P e).bind λs=>(bA x).map (.fldA (m.toNat*s))else none
   |i=>if ea P e=some 1 then(bA x).bind λa=>(bA i).map λb=>.idxP n a b else none
  |_=>none
 |.index t x i=>match P.underlying t with
  |some .string=>(bA x).bind λa=>(bA i).map λb=>.idxS a b
  |some (.array n e)=>if lT P e=some (false,1)then(bA x).bind λa=>(bA i).map λb=>.idxV n a b else none
  |_=>none
 |.slice t x q p r=>match P.underlying t with
  |some .string=>if r.isNone then(bA x).bind λa=>(jK q).bind λl=>(jK p).map λh=>.slcS a l h else none
  |some (.slice e)=>match r with
   |none=>(ea P e).bind λn=>if n=0 then none else(bA x).bind λa=>(jK q).bind λl=>(jK p).map λh=>.slc n a l h
   |some (.const (.int _ 0))=>match q,p with
    |none,some (.const (.int _ 0))=>if(ea P e).isSome then(bA x).map .slc0 else none
    |_,_=>none
   |_=>none
  |some (.array n e)=>if r.isNone/\ea P e=some 1 then(bA x).bind λa=>(jK q).bind λl=>(jK p).map λh=>.slcP n a l h else none
  |_=>none
 |.makeFunc (.func f) first caps=>if first.isEmpty then(l9 caps.toList).map (.mkfn f)else none
 |.extract x i=>(bA x).map λa=>.ext a i
 |.makeSlice t x y=>match P.underlying t with
  |some (.slice e)=>if D7 x y then(P.info? e).bind λi=>(jr P e).bind λz=>if i.size≠0/\z.length=i.size then(bA x).map (.mslice i.size i.bytes z)else none else none
  |_=>none
 |.makeMap t none=>if rK P t then some .mkset else none
 |.lookup t x i false=>if rK P t then(bA x).bind λa=>(bA i).map λb=>.lkset a b else none
 |.mapUpdate t m k v=>if rK P t=true/\FI v=true then(bA m).bind λa=>(bA k).map λb=>.upset a b else none
 |.call c=>kV P c
 |_=>none
def rD(ops:Array Oper):Option (Nat×Bool)->Option (Option (Nat×Bool))
 |none=>some none
 |some (j,b)=>((ops[j]?).bind (·.dst)).map λd=>some (d,b)
def q9(d:Nat):Operand->Bool
 |.tmp t=>t==d
 |_=>false
def xA(d:Nat):Op->Bool
 |.call c=>match c.callee with
  |.builtin .append=>(c.args.toList.drop 1).any (q9 d)
  |.value (.func _)=>c.args.toList.any (q9 d)
  |_=>false
 |.build _ ps=>ps.toList.any λp=>q9 d p.2
 |.buildSlice _ _ ps=>ps.toList.any λp=>q9 d p.2
 |.convert _ _ x=>q9 d x
 |.indexAddr _ x _=>q9 d x
 |_=>false
def XJ(d:Nat):Op->Bool
 |.buildSlice _ _ ps=>ps.toList.any λp=>q9 d p.2
 |_=>false
def Rk(ops:Array Oper)(o:Oper):Bool×Bool:=
 match o.dst with
 |some d=>(ops.toList.any λq=>xA d q.op,ops.toList.any λq=>XJ d q.op)
 |none=>(false,false)
def C'(b:Bool):cF->cF
 |.append te sz bytes x y=>bif b then .appendT te sz bytes x y else .append te sz bytes x y
 |o=>o
def uF(P:Program)(a:Bool×Bool)(o:Op):Option cF:=
 match o,a.1 with
 |.buildSlice t len parts,true=>match P.underlying t with
  |some (.slice e)=>(ea P e).bind λn=>(jr P e).bind λz=>(oe parts.toList).bind λps=>
   if n≠0/\z.length=n/\len*n<=2^24 then some (.bsliceT e n len z ps)else none
  |_=>none
 |.call c,_=>(kV P c).map (C' a.2)
 |o,_=>cY P o
def uB(P:Program)(nt:Nat)(ops:Array Oper)(o:Oper):Option b5:=
 (uF P (Rk ops o) o.op).bind λp=>(rD ops o.guard).bind λg=>
  match o.dst with
  |none=>some ⟨none,p,g⟩
  |some d=>if d<nt then some ⟨some d,p,g⟩else none
def gA(P:Program)(nt:Nat)(ops:Array Oper):List Oper->Option (List b5)
 |[]=>some []
 |o::r=>(uB P nt ops o).bind λa=>(gA P nt ops r).map (a::·)
inductive dx where
 |skip
 |region (ops:List b5)
 |nB (ops:List b5)(eB:List (Nat×Nat))
 |seq (a b:dx)
 |cond (c:aO)(x y:dx)
 |block (id:Nat)(b:dx)
 |loop (b:dx)
 |exit (id:Nat)
 |ret
def cF.neutral:cF->Bool
 |.alloc _|.allocA _|.box _|.bslice .. |.mslice .. |.store .. |.append .. |.appendT .. |.call .. |.hD .. |.eqNil .. =>false
 |.allocS .. |.mkset|.upset .. |.appendB .. |.ustr .. =>false
 |_=>true
def cF.ho:cF->Bool
 |.alloc _|.allocA _|.b2s _|.box _|.bslice .. |.mslice .. |.store .. |.append .. |.appendT .. |.load .. =>true
 |.allocS .. |.mkset|.lkset .. |.upset .. |.appendB .. |.ustr .. |.call .. =>true
 |_=>false
def cF.drawn:cF->Bool
 |.eqNil .. =>false
 |_=>true
def aO.tmps:aO->aZ
 |.tmp t=>[t]
 |.const _=>[]
def sj:Option aO->aZ
 |none=>[]
 |some x=>x.tmps
def cF.reads:cF->aZ
 |.mov x=>x.tmps
 |.pick c x y=>c.tmps++x.tmps++y.tmps
 |.alloc _|.allocA _=>[]
 |.box x=>x.tmps
 |.build _ ps=>ps.flatMap λp=>p.2.2.tmps
 |.bslice _ _ _ ps=>ps.flatMap λp=>p.2.tmps
 |.load _ _ x=>x.tmps
 |.store _ x v=>x.tmps++v.tmps
 |.nilCheck x=>x.tmps
 |.bin _ x y=>x.tmps++y.tmps
 |.eqAgg _ _ x y=>x.tmps++y.tmps
 |.eqBool _ x y=>x.tmps++y.tmps
 |.eqNil _ x=>x.tmps
 |.not x=>x.tmps
 |.conv _ x=>x.tmps
 |.i2s x=>x.tmps
 |.s2s x=>x.tmps
 |.fldA _ x=>x.tmps
 |.fld _ _ _ x=>x.tmps
 |.idxA _ x i=>x.tmps++i.tmps
 |.idxS x i=>x.tmps++i.tmps
 |.slcS x e a=>x.tmps++sj e++sj a
 |.slc _ x e a=>x.tmps++sj e++sj a
 |.slc0 x=>x.tmps
 |.b2s x=>x.tmps
 |.allocS .. |.mkset=>[]
 |.bsliceT _ _ _ _ ps=>ps.flatMap λp=>p.2.tmps
 |.lkset x k=>x.tmps++k.tmps
 |.upset x k=>x.tmps++k.tmps
 |.appendB _ _ x y=>x.tmps++y.tmps
 |.sdata x=>x.tmps
 |.ustr _ x k=>x.tmps++k.tmps
 |.idxP _ x i=>x.tmps++i.tmps
 |.idxV _ x i=>x.tmps++i.tmps
 |.mslice _ _ _ x=>x.tmps
 |.slcP _ x e a=>x.tmps++sj e++sj a
 |.mkfn _ caps=>caps.flatMap aO.tmps
 |.ext x _=>x.tmps
 |.len _ x=>x.tmps
 |.append _ _ _ x y=>x.tmps++y.tmps
 |.appendT _ _ _ x y=>x.tmps++y.tmps
 |.max2 x y=>x.tmps++y.tmps
 |.min2 x y=>x.tmps++y.tmps
 |.call _ args=>args.flatMap aO.tmps
 |.hD x args=>x.tmps++args.flatMap aO.tmps
def b5.rd(o:b5):aZ:=o.op.reads++(match o.guard with|none=>[]|some (t,_)=>[t])
def gM(o:Oper):aZ:=(o.after.toList.filter (Region.binds .any)).map (·.on)
def ahead(l:List (b5×aZ))(j i:Nat):Bool:=decide (j<i)&&((l[i]?).map λx=>x.2.contains j).getD false
def BI:Nat->List (b5×aZ)->Bool
 |_,[]=>true
 |i,x::r=>x.2.all (· < i)&&BI (i+1) r
def Pd(l:List (b5×aZ)):Bool:=
 l.zipIdx.all λx=>l.zipIdx.all λy=>
  match y.1.1.dst with
  |none=>true
  |some d=>(!(x.1.1.rd.contains d)||ahead l y.2 x.2||(x.1.1.op.neutral && !x.1.1.op.ho&&ahead l x.2 y.2))&&(x.2==y.2 || !(x.1.1.dst==some d))
def mw:List (b5×aZ)->List aZ->List aZ
 |[],acc=>acc
 |x::r,acc=>mw r (acc++[(x.2++x.2.flatMap λe=>acc.getD e []).eraseDups])
def nj(a:List aZ)(j i:Nat):Bool:=decide (j<i)&&(a.getD i []).contains j
def CU(a:List aZ)(l:List (b5×aZ)):List (Nat×Nat):=
 l.zipIdx.flatMap λx=>if x.1.1.op.neutral then[]else l.zipIdx.filterMap λy=>
  if y.1.1.op.ho && !(x.2==y.2) && !(nj a x.2 y.2) && !(nj a y.2 x.2)then some (x.2,y.2)else none
def ku(l:List (b5×aZ)):List (Nat×Nat):=CU (mw l []) l
def B1(l:List (b5×aZ)):Bool:=(List.range (l.length-1)).all λi=>l.zipIdx.any λy=>decide (i<y.2)&&y.1.2.contains i
def ri(l:List (b5×aZ)):Bool:=BI 0 l&&Pd l&&l.all λx=>x.1.op.drawn
def q2(l:List (b5×aZ)):List (Nat×Nat):=
 if decide (2<=l.length)&&B1 l&&ri l.dropLast then(l.length,0)::(ku l++ku l.dropLast)else ku l
def fj(ops:Array Oper)(a':List b5):List (b5×aZ):=a'.zip (ops.toList.map gM)
def resolve(P:Program)(nt:Nat):Code->Option dx
 |.skip=>some .skip
 |.region _ ops d=>(gA P nt ops ops.toList).bind λa'=>
  if d then(if ri (fj ops a')&&P.follows .mixedOrders then some (.nB a' (q2 (fj ops a')))else none)else some (.region a')
 |.seq a b=>(resolve P nt a).bind λx=>(resolve P nt b).map λy=>.seq x y
 |.cond c a b=>(bA c).bind λo=>(resolve P nt a).bind λx=>(resolve P nt b).map λy=>.cond o x y
 |.block id b=>(resolve P nt b).map (.block id)
 |.loop b=>(resolve P nt b).map .loop
 |.exit id=>some (.exit id)
 |.ret=>some .ret
 |_=>none
abbrev Env:=List (Nat×Bool×V)
abbrev a8:=List (Nat×bT)
def look:Env->Nat->Option (Bool×V)
 |[],_=>none
 |(k,x)::r,i=>if k=i then some x else look r i
def aP:a8->Nat->Option bT
 |[],_=>none
 |(k,x)::r,i=>if k=i then some x else aP r i
def cZ:a8->Nat->bT->a8
 |[],b,x=>[(b,x)]
 |(k,y)::r,b,x=>if k=b then(k,x)::r else(k,y)::cZ r b x
def fB:a8->Nat->a8
 |[],_=>[]
 |(k,y)::r,b=>if k=b then fB r b else(k,y)::fB r b
theorem cQ(J:a8)(b:Nat)(x:bT)(i:Nat):aP (cZ J b x) i=if b=i then some x else aP J i:=by
 induction J with
 |nil=>rfl
 |cons y r ih=>
  obtain⟨k,y⟩:=y;by_cases a:k=b
  . grind[cZ,aP]
  . simp[cZ,av a,aP];grind
theorem eK(J:a8)(b:Nat)(i:Nat):aP (fB J b) i=if b=i then none else aP J i:=by
 induction J with
 |nil=>simp[fB,aP]
 |cons y r ih=>
  obtain⟨k,y⟩:=y;by_cases a:k=b
  . grind[fB,aP]
  . simp[fB,av a,aP];grind
def aO.get(env:Env):aO->Option (Prop×V)
 |.const v=>some (True,v)
 |.tmp t=>(look env t).map λx=>(x.1=true,x.2)
def gW(env:Env):List aO->Option (Prop×List V)
 |[]=>some (True,[])
 |x::xs=>(x.get env).bind λa=>(gW env xs).map λb=>(a.1/\b.1,a.2::b.2)
def jh(env:Env):Option aO->Option (Prop×Option Int)
 |none=>some (True,none)
 |some x=>(x.get env).bind λa=>match a.2 with
  |.c (.t (.int _ n))=>some (a.1,some n)
  |_=>none
def oA:V->Option (List C)
 |.c x=>some [x]
 |.agg cs=>some cs
 |.ba _=>none
def toT:C->Option T
 |.t x=>some x
 |.aT=>some (.slice [])
 |_=>none
def toTs:List C->Option (List T)
 |[]=>some []
 |c::cs=>(toT c).bind λt=>(toTs cs).map (t::·)
def el(es:List (List T))(i:Nat):List T:=es.getD i []
def td(a:List C)(off:Nat)(cs:List C):List C:=a.take off++cs++a.drop (off+cs.length)
def kv(env:Env):List C->List (Nat×Nat×aO)->Option (Prop×List C)
 |c,[]=>some (True,c)
 |c,(off,n,x):: r=>(x.get env).bind λa=>(oA a.2).bind λcs=>
  if cs.length=n/\off+n<=c.length then(kv env (td c off cs) r).map λb=>(a.1/\b.1,b.2)else none
def je(env:Env)(sz:Nat):List (List T)->List (Nat×aO)->Option (Prop×List (List T))
 |es,[]=>some (True,es)
 |es,(i,x):: r=>(x.get env).bind λa=>(oA a.2).bind λcs=>(toTs cs).bind λts=>
  if ts.length=sz/\i<es.length then(je env sz (es.set i ts) r).map λb=>(a.1/\b.1,b.2)else none
def o0:BinOp->T->T->Option (Prop×T)
 |.add,.int k a,.int c b=>if k=c then some (True,.int k (k.wrap (a+b)))else none
 |.sub,.int k a,.int c b=>if k=c then some (True,.int k (k.wrap (a-b)))else none
 |.mul,.int k a,.int c b=>if k=c then some (True,.int k (k.wrap (a*b)))else none
 |.quo,.int k a,.int c b=>if k=c then some (b≠0,.int k (k.wrap (a.tdiv b)))else none
 |.rem,.int k a,.int c b=>if k=c then some (b≠0,.int k (a.tmod b))else none
 |.and,.int k a,.int c b=>if k=c then some (True,.int k (k.wrap (BitVec.ofInt k.bits a &&& BitVec.ofInt k.bits b).toNat))else none
 |.or,.int k a,.int c b=>if k=c then some (True,.int k (k.wrap (BitVec.ofInt k.bits a ||| BitVec.ofInt k.bits b).toNat))else none
 |.xor,.int k a,.int c b=>if k=c then some (True,.int k (k.wrap (BitVec.ofInt k.bits a ^^^ BitVec.ofInt k.bits b).toNat))else none
 |.andNot,.int k a,.int c b=>if k=c then some (True,.int k (k.wrap (BitVec.ofInt k.bits a &&& ~~~ BitVec.ofInt k.bits b).toNat))else none
 |.shl,.int k a,.int _ b=>some (0<=b,.int k (k.wrap (a*2^min b.toNat k.bits)))
 |.shr,.int k a,.int _ b=>some (0<=b,.int k (a.fdiv (2^min b.toNat k.bits)))
 |.eql,.int k a,.int c b=>if k=c then some (True,.bool (decide (a=b)))else none
 |.neq,.int k a,.int c b=>if k=c then some (True,.bool (!decide (a=b)))else none
 |.lss,.int k a,.int c b=>if k=c then some (True,.bool (decide (a<b)))else none
 |.leq,.int k a,.int c b=>if k=c then some (True,.bool (decide (a<=b)))else none
 |.gtr,.int k a,.int c b=>if k=c then some (True,.bool (decide (b<a)))else none
 |.geq,.int k a,.int c b=>if k=c then some (True,.bool (decide (b<=a)))else none
 |.add,.str a,.str b=>some (a.length+b.length<=ej,.str (a++b))
 |.eql,.str a,.str b=>some (True,.bool (decide (a=b)))
 |.neq,.str a,.str b=>some (True,.bool (!decide (a=b)))
 |.lss,.str a,.str b=>some (True,.bool (Op.bytesLess a b))
 |.leq,.str a,.str b=>some (True,.bool (Op.bytesLess a b||decide (a=b)))
 |.gtr,.str a,.str b=>some (True,.bool (!(Op.bytesLess a b||decide (a=b))))
 |.geq,.str a,.str b=>some (True,.bool (!(Op.bytesLess a b)))
 |_,_,_=>none
def vO:Nat->T->T->Option Bool
 |0,.bool a,.bool b=>some (a==b)
 |1,.int k a,.int c b=>if k=c then some (decide (a=b))else none
 |2,.str a,.str b=>some (decide (a=b))
 |_,_,_=>none
def kE:aZ->List C->List C->Option Bool
 |[],[],[]=>some true
 |k::ks,.t x::xs,.t y::ys=>(vO k x y).bind λb=>(kE ks xs ys).map λr=>b&&r
 |_,_,_=>none
abbrev y5:=Option (Prop×V×a8)
def loadT(agg:Bool)(n:Nat)(ts:List T)(o:Nat):Option V:=
 if agg then(if o+n<=ts.length then some (.agg (((ts.drop o).take n).map .t))else none)else(ts[o]?).map λt=>.c (.t t)
def ji(agg:Bool)(n:Nat)(cs:List C)(o:Nat):Option V:=
 if agg then(if o+n<=cs.length then some (.agg ((cs.drop o).take n))else none)else(cs[o]?).map .c
def hi:Nat:=281474976710656
def ie(n bytes:Nat):Prop:=(2*n+192)*bytes<=hi\/(n+n/4+512)*bytes<=hi
def iX(J:a8):V->Option (List (List T)×Option Nat)
 |.c (.t (.slice ys))=>some (ys,none)
 |.c .aT=>some ([],none)
 |.c (.arr b a off len)=>match aP J b with
  |some (.arr d ys)=>if a=d/\off=0/\len=ys.length then some (ys,some b)else none
  |_=>none
 |_=>none
def bytesOf:List (List T)->Option aD
 |[]=>some []
 |[.int .u8 m]::r=>(bytesOf r).map λs=>UInt8.ofNat m.toNat::s
 |_=>none
def mv(J:a8):V->Option (Prop×aD)
 |.c (.t (.slice es))=>(bytesOf es).map λs=>(True,s)
 |.c .aT=>some (True,[])
 |.c (.arr b 1 off len)=>match aP J b with
  |some (.arr 1 es)=>(bytesOf ((es.drop off).take len)).map λs=>(off+len<=es.length,s)
  |_=>none
 |.c (.fC b 1 off len)=>match aP J b with
  |some (.arr 1 es)=>(bytesOf ((es.drop off).take len)).map λs=>(off+len<=es.length,s)
  |_=>none
 |_=>none
def gb(ks:List aD)(s:aD):Bool:=ks.any λk=>decide (k=s)
def h'(ks:List aD)(s:aD):List aD:=if gb ks s then ks else ks++[s]
def yj:List C->Option C
 |[.arr b sz off len]=>some (.arr b sz off len)
 |_=>none
def kb:V->V->Option (Nat×Nat×Nat×Nat×Nat×Nat×Nat)
 |.c (.arr b sz off len),.c (.fC a f e d)=>if b=a then some (b,sz,off,len,f,e,d)else none
 |_,_=>none
def sX(J:a8)(n sz:Nat)(p q:Prop):Nat×Nat×Nat×Nat×Nat×Nat×Nat->y5
 |(b,s1,off,len,e,d,a)=>match aP J b with
  |some (.arr f es)=>some (p/\q/\s1 = sz/\e = sz/\f = sz/\off = 0/\len+a<=es.length/\d+a<=es.length,
   .c (.arr n sz 0 (len+a)),cZ (fB J b) n (.arr sz (es.take len++(es.drop d).take a)))
  |_=>none
def aM(o:cF)(env:Env)(J:a8)(n:Nat):y5:=
 match o with
 |.mov x=>(x.get env).map λa=>(a.1,a.2,J)
 |.pick c x y=>(c.get env).bind λc=>(x.get env).bind λx=>(y.get env).bind λy=>
  match c.2,x.2,y.2 with
  |.c (.t (.bool b)),.c (.t (.bool p)),.c (.t (.bool q))=>
   some (c.1/\(b=true->x.1)/\(b=false->y.1),.c (.t (.bool (bif b then p else q))),J)
  |_,_,_=>none
 |.alloc cs=>some (True,.c (.ptr n 0),cZ J n (.box cs))
 |.allocA cs=>(toTs cs).map λts=>(True,.c (.ptr n 0),cZ J n (.arr 1 (ts.map λt=>[t])))
 |.idxP k x i=>(x.get env).bind λa=>(i.get env).bind λj=>match a.2,j.2 with
  |.c (.ptr b 0),.c (.t (.int _ m))=>some (a.1/\j.1/\0<=m/\m.toNat<k,.c (.cH b 1 m.toNat 0),J)
  |_,_=>none
 |.idxV k x i=>(x.get env).bind λa=>(i.get env).bind λj=>match a.2,j.2 with
  |.agg cs,.c (.t (.int _ m))=>if cs.length=k then some (a.1/\j.1/\0<=m/\m.toNat<k,.c (cs.getD m.toNat .dead),J)else none
  |_,_=>none
 |.mslice sz bytes z x=>(x.get env).bind λa=>(toTs z).bind λD=>match a.2 with
  |.c (.t (.int _ m))=>some (a.1/\0<=m/\m.toNat*bytes<=hi/\m.toNat<=dk,.c (.arr n sz 0 m.toNat),cZ J n (.arr sz (List.replicate m.toNat D)))
  |_=>none
 |.slcP k x w A=>(x.get env).bind λa=>(jh env w).bind λl=>(jh env A).bind λh=>match a.2 with
  |.c (.ptr b 0)=>
   let e:=h.2.getD k;let c:=l.2.getD 0
   some (a.1/\l.1/\h.1/\0<=c/\c<=e/\e<=k,.c (.fC b 1 c.toNat (e.toNat-c.toNat)),J)
  |_=>none
 |.b2s x=>(x.get env).bind λa=>(mv J a.2).map λr=>(a.1/\r.1,.c (.t (.str r.2)),J)
 |.box x=>(x.get env).bind λa=>(oA a.2).map λcs=>(a.1,.c (.ptr n 0),cZ J n (.box cs))
 |.build z parts=>(kv env z parts).map λa=>(a.1,.agg a.2,J)
 |.bslice sz len z parts=>(toTs z).bind λD=>(je env sz (List.replicate len D) parts).map λa=>
  (a.1,.c (.arr n sz 0 len),cZ J n (.arr sz a.2))
 |.load agg k x=>(x.get env).bind λa=>match a.2 with
  |.c (.ptr b o)=>match aP J b with
   |some (.box cs)=>(ji agg k cs o).map λv=>(a.1,v,J)
   |some (.b1 _ c)=>if agg=false/\o=1 then some (a.1,.c c,J)else none
   |_=>none
  |.c (.cH b sz i o)=>match aP J b with
   |some (.arr g es)=>(loadT agg k (el es i) o).map λv=>(a.1/\sz=g/\i<es.length,v,J)
   |some (.cx g es B C c)=>if agg then none else if o=C then some (a.1/\sz=g/\i=B,.c c,J)else(loadT false k (el es i) o).map λv=>(a.1/\sz=g/\i<es.length,v,J)
   |_=>none
  |.c (.dF ts o)=>(loadT agg k ts o).map λv=>(a.1,v,J)
  |_=>none
 |.store k x v=>(x.get env).bind λa=>(v.get env).bind λd=>(oA d.2).bind λcs=>
  if cs.length=k then match a.2 with
   |.c (.ptr b o)=>match aP J b with
    |some (.box G)=>if o+k<=G.length then some (a.1/\d.1,.ba [],cZ J b (.box (td G o cs)))else none
    |some (.b1 e _)=>match o,cs with
     |1,[c]=>some (a.1/\d.1,.ba [],cZ J b (.b1 e c))
     |_,_=>none
    |_=>none
   |.c (.cH b sz i o)=>match aP J b with
    |some (.arr g es)=>match yj cs with
     |some c=>some (a.1/\d.1/\sz=g/\i<es.length/\o+k<=sz,.ba [],cZ J b (.cx g es i o c))
     |none=>(toTs cs).bind λts=>
      some (a.1/\d.1/\sz=g/\i<es.length/\o+k<=sz,.ba [],
       cZ J b (.arr g (es.set i ((el es i).take o++ts++(el es i).drop (o+k)))))
    |some (.cx g es B C H)=>match cs with
     |[c]=>if o=C then some (a.1/\d.1/\sz=g/\i=B,.ba [],cZ J b (.cx g es B C c))
      else(toT c).bind λt=>some (a.1/\d.1/\sz=g/\i<es.length/\o+k<=sz,.ba [],
       cZ J b (.cx g (es.set i ((el es i).take o++[t]++(el es i).drop (o+k))) B C H))
     |_=>none
    |_=>none
   |_=>none
  else none
 |.nilCheck x=>(x.get env).bind λa=>match a.2 with
  |.c (.ptr ..)|.c (.cH ..)|.c (.dF ..)=>some (a.1,a.2,J)
  |_=>none
 |.bin op x y=>(x.get env).bind λa=>(y.get env).bind λb=>match a.2,b.2 with
  |.c (.t p),.c (.t q)=>(o0 op p q).map λr=>(a.1/\b.1/\r.1,.c (.t r.2),J)
  |_,_=>none
 |.eqAgg neg ks x y=>(x.get env).bind λa=>(y.get env).bind λb=>match a.2,b.2 with
  |.agg p,.agg q=>(kE ks p q).map λr=>(a.1/\b.1,.c (.t (.bool (if neg then !r else r))),J)
  |_,_=>none
 |.eqBool neg x y=>(x.get env).bind λa=>(y.get env).bind λb=>match a.2,b.2 with
  |.c (.t (.bool p)),.c (.t (.bool q))=>some (a.1/\b.1,.c (.t (.bool (if neg then !(p==q)else(p==q)))),J)
  |_,_=>none
 |.not x=>(x.get env).bind λa=>match a.2 with
  |.c (.t (.bool b))=>some (a.1,.c (.t (.bool (!b))),J)
  |_=>none
 |.conv k x=>(x.get env).bind λa=>match a.2 with
  |.c (.t (.int _ m))=>some (a.1,.c (.t (.int k (k.wrap m))),J)
  |_=>none
 |.i2s x=>(x.get env).bind λa=>match a.2 with
  |.c (.t (.int _ m))=>some (a.1,.c (.t (.str (Utf8.encode m).data.toList)),J)
  |_=>none
 |.s2s x=>(x.get env).bind λa=>match a.2 with
  |.c (.t (.str s))=>some (a.1,.c (.t (.str s)),J)
  |_=>none
 |.fldA off x=>(x.get env).bind λa=>match a.2 with
  |.c (.ptr b o)=>some (a.1,.c (.ptr b (o+off)),J)
  |.c (.cH b sz i o)=>some (a.1,.c (.cH b sz i (o+off)),J)
  |.c (.dF ts o)=>some (a.1,.c (.dF ts (o+off)),J)
  |_=>none
 |.fld agg off k x=>(x.get env).bind λa=>match a.2 with
  |.agg cs=>(ji agg k cs off).map λv=>(a.1,v,J)
  |_=>none
 |.idxA sz x i=>(x.get env).bind λa=>(i.get env).bind λj=>match a.2,j.2 with
  |.c (.t (.slice es)),.c (.t (.int _ m))=>some (a.1/\j.1/\0<=m/\m.toNat<es.length/\(el es m.toNat).length=sz,.c (.dF (el es m.toNat) 0),J)
  |.c (.arr b g off len),.c (.t (.int _ m))=>some (a.1/\j.1/\0<=m/\m.toNat<len/\sz=g,.c (.cH b sz (off+m.toNat) 0),J)
  |_,_=>none
 |.idxS x i=>(x.get env).bind λa=>(i.get env).bind λj=>match a.2,j.2 with
  |.c (.t (.str s)),.c (.t (.int _ m))=>some (a.1/\j.1/\0<=m/\m.toNat<s.length,.c (.t (.int .u8 (s.getD m.toNat 0).toNat)),J)
  |_,_=>none
 |.slcS x w A=>(x.get env).bind λa=>(jh env w).bind λl=>(jh env A).bind λh=>match a.2 with
  |.c (.t (.str s))=>
   let b:=h.2.getD s.length;let c:=l.2.getD 0
   some (a.1/\l.1/\h.1/\0<=c/\c<=b/\b<=s.length,.c (.t (.str ((s.take b.toNat).drop c.toNat))),J)
  |_=>none
 |.slc sz x w A=>(x.get env).bind λa=>(jh env w).bind λl=>(jh env A).bind λh=>match a.2 with
  |.c (.t (.slice es))=>
   let b:=h.2.getD es.length;let c:=l.2.getD 0
   some (a.1/\l.1/\h.1/\0<=c/\c<=b/\b<=es.length/\(∀e,e∈es->e.length=sz),.c (.t (.slice ((es.take b.toNat).drop c.toNat))),J)
  |.c (.arr b g off len)=>
   some (a.1/\l.1/\h.1/\0<=l.2.getD 0/\l.2.getD 0<=h.2.getD len/\h.2.getD len<=len/\sz=g,
    .c (if w.isNone then .arr b g off (h.2.getD len).toNat else .fC b g (off+(l.2.getD 0).toNat) ((h.2.getD len).toNat-(l.2.getD 0).toNat)),J)
  |_=>none
 |.slc0 x=>(x.get env).bind λa=>match a.2 with
  |.c (.t (.slice _))|.c .aT|.c (.arr ..)=>some (a.1,.c .aT,J)
  |_=>none
 |.mkfn f caps=>(gW env caps).bind λa=>match q0 a.2 with
  |some l=>some (a.1,.c (.fn f l),J)
  |none=>none
 |.ext x i=>(x.get env).bind λa=>match a.2 with
  |.ba vs=>(vs[i]?).map λv=>(a.1,v,J)
  |_=>none
 |.len str x=>(x.get env).bind λa=>match str,a.2 with
  |false,.c (.t (.slice es))=>some (a.1,.c (.t (.int .i64 es.length)),J)
  |false,.c (.arr _ _ _ l)=>some (a.1,.c (.t (.int .i64 l)),J)
  |false,.c .aT=>some (a.1,.c (.t (.int .i64 0)),J)
  |false,.c (.cj _ l)=>some (a.1,.c (.t (.int .i64 l)),J)
  |true,.c (.t (.str s))=>some (a.1,.c (.t (.int .i64 s.length)),J)
  |_,_=>none
 |.append te sz bytes x y=>(x.get env).bind λa=>(y.get env).bind λd=>
  match kb a.2 d.2 with
  |some r=>sX J n sz a.1 d.1 r
  |none=>
  (iX J d.2).bind λys=>
  match a.2 with
  |.c .aT=>some (a.1/\d.1/\(∀ e,e∈ys.1->e.length = sz)/\ie ys.1.length bytes/\ys.1.length<=dk,
   .c (.arr n sz 0 ys.1.length),cZ J n (.arr sz ys.1))
  |.c (.arr b g off len)=>match aP J b with
   |some (.arr F es)=>
    if ys.2=some b then none else some (a.1/\d.1/\g=sz/\F=sz/\off=0/\len=es.length/\(∀e,e∈ys.1->e.length=sz)/\ie (es.length+ys.1.length) bytes/\es.length+ys.1.length<=dk,
     .c (.arr n sz 0 (len+ys.1.length)),cZ (fB J b) n (.arr sz (es++ys.1)))
   |_=>none
  |.c (.cj b len)=>match aP J b with
   |some (.buf u es)=>(bytesOf ys.1).map λs=>
    (a.1/\d.1/\u=te/\sz=1/\len=es.length/\ys.1=s.map (λc=>[.int .u8 c.toNat])/\ie (es.length+s.length) bytes/\es.length+s.length<=dk,
     .c (.cj n (len+s.length)),cZ (fB J b) n (.buf u (es++s)))
   |_=>none
  |_=>none
 |.appendT _ sz bytes x y=>(x.get env).bind λa=>(y.get env).bind λd=>
  match kb a.2 d.2 with
  |some _=>none
  |none=>(iX J d.2).bind λys=>match a.2 with
  |.c (.arr b g off len)=>match aP J b with
   |some (.arr F es)=>if ys.2=some b then none else some (a.1/\d.1/\g=sz/\F=sz/\off=0/\len=es.length/\(∀e,e∈ys.1->e.length=sz)/\ie (es.length+ys.1.length) bytes/\es.length+ys.1.length<=dk,
     .c (.t (.slice (es++ys.1))),fB J b)
   |_=>none
  |_=>none
 |.max2 x y=>(x.get env).bind λa=>(y.get env).bind λb=>match a.2,b.2 with
  |.c (.t (.int k p)),.c (.t (.int E q))=>if k=E then some (a.1/\b.1,.c (.t (.int k (max p q))),J)else none
  |_,_=>none
 |.min2 x y=>(x.get env).bind λa=>(y.get env).bind λb=>match a.2,b.2 with
  |.c (.t (.int k p)),.c (.t (.int E q))=>if k=E then some (a.1/\b.1,.c (.t (.int k (min p q))),J)else none
  |_,_=>none
 |.allocS e e8=>some (True,.c (.ptr n 0),cZ (cZ J (n+1) (.buf e8 [])) n (.b1 e (.cj (n+1) 0)))
 |.bsliceT _ sz len z parts=>(toTs z).bind λD=>(je env sz (List.replicate len D) parts).map λa=>(a.1,.c (.t (.slice a.2)),J)
 |.mkset=>some (True,.c (.mp n),cZ J n (.set []))
 |.lkset x k=>(x.get env).bind λa=>(k.get env).bind λd=>match a.2,d.2 with
  |.c (.mp b),.c (.t (.str s))=>match aP J b with
   |some (.set ks)=>some (a.1/\d.1,.c (.t (.bool (gb ks s))),J)
   |_=>none
  |_,_=>none
 |.upset x k=>(x.get env).bind λa=>(k.get env).bind λd=>match a.2,d.2 with
  |.c (.mp b),.c (.t (.str s))=>match aP J b with
   |some (.set ks)=>some (a.1/\d.1,.ba [],cZ J b (.set (h' ks s)))
   |_=>none
  |_,_=>none
 |.appendB e bytes x y=>(x.get env).bind λa=>(y.get env).bind λd=>match a.2,d.2 with
  |.c (.cj b len),.c (.t (.str s))=>match aP J b with
   |some (.buf u es)=>
    some (a.1/\d.1/\u=e/\len=es.length/\ie (es.length+s.length) bytes/\es.length+s.length<=dk,
     .c (.cj n (len+s.length)),cZ (fB J b) n (.buf e (es++s)))
   |_=>none
  |_,_=>none
 |.sdata x=>(x.get env).bind λa=>match a.2 with
  |.c (.cj b _)=>some (a.1,.c (.en b),J)
  |_=>none
 |.ustr e x k=>(x.get env).bind λa=>(k.get env).bind λd=>match a.2,d.2 with
  |.c (.en b),.c (.t (.int .i64 m))=>match aP J b with
   |some (.buf u es)=>some (a.1/\d.1/\u=e/\m=es.length,.c (.t (.str es)),fB J b)
   |_=>none
  |_,_=>none
 |.eqNil .. |.call .. |.hD .. =>none
where q0:List V->Option aZ
 |[]=>some []
 |.c (.ptr b 0)::r=>(q0 r).map (b::·)
 |_=>none
def yQ(ks:List aD)(es:List MapEntry):Prop:=a6 (λk e=>e.key= .string ⟨k.toArray⟩/\e.val= .bool true) ks es
def cU(φ:c0)(w:World)(S:c6)(b:Nat):bT->Prop
 |.box cs=>(φ b).2≠0/\∃(vs:List Value) (E:TypeId),w.heap[(φ b).1]?=some (.cells vs.toArray E (0,0))/\a6 (bq φ w S) cs vs/\∀j,¬S (φ b).1 j
 |.arr sz es=>es.length<=(φ b).2/\es.length<=dk/\(∀ e,e∈es->e.length = sz)/\0<sz/\
  ((φ b).2≠0->∃(vs:List Value) (E:TypeId),w.heap[(φ b).1]?=some (.cells vs.toArray E (0,0))/\vs.length=(φ b).2*sz/\
   (∀(i j:Nat) e t,es[i]?=some e->e[j]?=some t->∃v,vs[i*sz+j]?=some v/\bP w S t v)/\∀j,¬S (φ b).1 j)
 |.set ks=>(φ b).2≠0/\(∃(es:List MapEntry) (d:Nat),w.heap[(φ b).1]?=some (.map es.toArray d)/\yQ ks es)/\∀j,¬S (φ b).1 j
 |.buf E s=>s.length<=(φ b).2/\s.length<=dk/\
  ((φ b).2≠0->(∃vs:List Value,w.heap[(φ b).1]?=some (.cells vs.toArray E (0,0))/\vs.length=(φ b).2/\
   ∀(i:Nat) c,s[i]?=some c->vs[i]?=some (.int .u8 (UInt8.toNat c)))/\∀j,¬S (φ b).1 j)
 |.b1 E c=>(φ b).2≠0/\(∃p v:Value,w.heap[(φ b).1]?=some (.cells #[p,v] E (0,0))/\(p= .pointer none\/p= .pointer (some ⟨(φ b).1,0,none⟩))/\bq φ w S c v)/\∀j,¬S (φ b).1 j
 |.cx sz es i o c=>(es.length<=(φ b).2/\es.length<=dk/\(∀ e,e∈es->e.length = sz)/\0<sz/\i<es.length/\o<sz)/\
  (∃(vs:List Value) (E:TypeId),w.heap[(φ b).1]?=some (.cells vs.toArray E (0,0))/\vs.length=(φ b).2*sz/\
   (∀(a j:Nat) e t,es[a]?=some e->e[j]?=some t->¬(a=i/\j=o)->∃v,vs[a*sz+j]?=some v/\bP w S t v)/\∃v,vs[i*sz+o]?=some v/\bq φ w S c v)/\∀j,¬S (φ b).1 j
structure oY (φ:c0)(w:World)(S:c6)(J:a8):Prop where
 blk:∀b x,aP J b=some x->cU φ w S b x
 inj:∀b zi x y,aP J b=some x->aP J zi=some y->b≠zi->(φ b).2≠0->(φ zi).2≠0->(φ b).1≠(φ zi).1
 st:∀b j,S b j->b<w.heap.size
structure Ext (B:Nat->Prop)(S bj:c6)(w w':World):Prop where
 os:w'.os=w.os
 tape:w'.tape=w.tape
 output:w'.output=w.output
 size:w.heap.size<=w'.heap.size
 block:∀b:Nat,b<w.heap.size->¬B b->w'.heap[b]?=w.heap[b]?
 mono:fP w S w' bj
 j9:∀b j,bj b j->S b j\/B b\/w.heap.size<=b
def bT.aA(n:Nat->Bool):bT->Bool
 |.box cs=>cs.all (C.aA n)
 |.arr _ _=>true
 |.set _=>true
 |.buf _ _=>true
 |.b1 _ c=>c.aA n
 |.cx _ _ _ _ c=>c.aA n
def ins(n:Nat->Bool)(k:Nat):Nat->Bool:=λb=>n b||b==k
structure Ctx where
 ka:World
 vr:c6
 B:Nat->Prop
 RZ:c0
 k:Nat
structure Rel (au:Ctx)(nt:Nat)(φ:c0)(S:c6)(env:Env)(J:a8)(n:Nat->Bool)(a:Act)(w:World):Prop where
 bD:oY φ w S J
 fJ:∀(k:Nat) g v,look env k=some (g,v)->g=true->∃x,a.tmps[k]?=some x/\b2 φ w S v x
 gp:∀(k:Nat) g v,look env k=some (g,v)->g=false->a.tmps[k]?=some undef
 fI:∀(k:Nat) g v,look env k=some (g,v)->g=true->v.aA n=true
 dz:∀(b:Nat) x,aP J b=some x->n b=true/\x.aA n=true
 size:a.tmps.size=nt
 defers:a.defers=[]
 ext:Ext au.B au.vr S au.ka w
 own:∀(b:Nat) x,aP J b=some x->(φ b).2≠0->au.B (φ b).1\/au.ka.heap.size<=(φ b).1
 fix:∀b:Nat,b<au.k->φ b=au.RZ b
 fT:∀b:Nat,b<au.k->n b=true
variable{cp:Nat->Bool}{c:C}{v:Value}{x y:Operand}{p:Prop}{cs:List C}{o:Oper}{yt e E:TypeId}{f off:Nat}{fs:Array Field}{ts:List T}{w w':World}{vs xs:List Value}{g:Bool×Nat}{agg:Bool}{es ys:List (List T)}{j:Option Operand}{bg:c0}{J':a8}{q:Nat×Nat}{α:Type}{place:Nat->Option (Nat×Nat)}{R:T->Value->Prop}
section
variable {P:Program}{au:Ctx}{nt:Nat}{φ:c0}{S:c6}{env:Env}{J:a8}{n:Nat->Bool}{key:Nat}{a:Act}{w:World}
def Good(P:Program)(au:Ctx)(nt:Nat)(env:Env)(J':a8)(cp:Nat->Bool)(a:Act)(v:V)(r:Result Next):Prop:=
 ∃x bg bj w',(r= .ok (.value x) w'\/(r= .ok .skip w'/\x=undef))/\b2 bg w' bj v x/\v.aA cp=true/\Rel au nt bg bj env J' cp a w'
theorem ZS{n:Nat->Bool}{k:Nat}:ins n k k=true:=by simp[ins]
theorem j0{n:Nat->Bool}{k b:Nat}(h:n b=true):ins n k b=true:=by grind[ins]
theorem C.gO{n:Nat->Bool}(h:∀b,n b=true->cp b=true)(a:c.aA n=true):c.aA cp=true:=by
 cases c<;>simp[C.aA]at*<;>first|exact h _ a|exactλb e=>h b (a b e)
theorem rE{n:Nat->Bool}:∀{vs:List V},(∀(i:Nat) v,vs[i]?=some v->v.aA n=true)->V.aA.V.dr n vs=true
 |[],_=>rfl
 |v::vs,h=>by
  simp[V.aA.V.dr];exact⟨h 0 v rfl,rE λi v a=>h (i+1) v a⟩
theorem V.gO{n cp:Nat->Bool}(h:∀b,n b=true->cp b=true):∀{v:V},v.aA n=true->v.aA cp=true
 |.c x,a=>by grind[V.aA,C.gO]
 |.agg cs,a=>by
  grind[V.aA,C.gO]
 |.ba vs,a=>by
  exact go vs a
where go:∀vs,V.aA.V.dr n vs=true->V.aA.V.dr cp vs=true
 |[],_=>rfl
 |v::vs,a=>by
  simp[V.aA.V.dr]at a⊢;exact⟨V.gO h a.1,go vs a.2⟩
theorem bT.gO{n:Nat->Bool}(h:∀b,n b=true->cp b=true){x:bT}(I:x.aA n=true):x.aA cp=true:=by
 cases x with
 |box cs=>
  grind[bT.aA,C.gO]
 |arr=>rfl
 |set=>rfl
 |buf=>rfl
 |b1 E c=>grind[bT.aA,C.gO]
 |cx sz es i o c=>grind[bT.aA,C.gO]
theorem Rel.more(R:Rel au nt φ S env J n a w)(h:∀b,n b=true->cp b=true):Rel au nt φ S env J cp a w:=
 ⟨R.bD,R.fJ,R.gp,λk g v ag ao=>V.gO h (R.fI k g v ag ao),λb x I=>⟨h b (R.dz b x I).1,bT.gO h (R.dz b x I).2⟩,R.size,R.defers,R.ext,R.own,R.fix,λb c=>h b (R.fT b c)⟩
theorem Good.pure(R:Rel au nt φ S env J n a w){v:V}{x:Value}{r:Result Next}(e:r= .ok (.value x) w)(f:b2 φ w S v x)(c:v.aA n=true):
 Good P au nt env J (ins n key) a v r:=⟨x,φ,S,w,.inl e,f,V.gO (λ_ h=>j0 h) c,R.more λ_ h=>j0 h⟩
theorem Qm(h:Ac v=some c):bq φ w S c v/\c.aA n=true:=by
 unfold Ac at h;split at h<;>simp at h
 . subst h;exact⟨.bool _,rfl⟩
 . subst h;exact⟨.int _ _,rfl⟩
 . obtain⟨hs,rfl⟩:=h;exact⟨.str _ hs,rfl⟩
 . subst h;exact⟨⟨_,rfl⟩,rfl⟩
 . subst h;exact⟨rfl,rfl⟩
 . subst h;exact⟨rfl,rfl⟩
 . subst h;exact⟨rfl,rfl⟩
theorem Fw:∀{vs:List Value} {cs:List C},uq vs=some cs->a6 (bq φ w S) cs vs/\cs.all (C.aA n)=true
 |[],cs,h=>by simp[uq]at h;subst h;exact⟨.nil,rfl⟩
 |v::vs,cs,h=>by
  simp[uq,bk,bx]at h;obtain⟨c,b,e,d,rfl⟩:=h;have h1:=Qm (φ:=φ) (w:=w) (S:=S) (n:=n) b;have a:=Fw d;exact⟨.cons h1.1 a.1,by grind⟩
theorem Ve{a:V}(h:F8 v=some a):b2 φ w S a v/\a.aA n=true:=by
 unfold F8 at h;split at h
 . simp at h;obtain⟨l,ag,rfl⟩:=h;have:=Fw (φ:=φ) (w:=w) (S:=S) (n:=n) ag;refine⟨?_,by grind[V.aA]⟩;have e:=b2.agg this.1;omega
 . simp at h;obtain⟨l,ag,rfl⟩:=h;have:=Qm (φ:=φ) (w:=w) (S:=S) (n:=n) ag;exact⟨.c this.1,by grind[V.aA]⟩
theorem cn(R:Rel au nt φ S env J n a w){b:aO}(I:bA x=some b){v:V}(h:b.get env=some (p,v))(al:p):
 b2 φ w S v (a.eval x)/\v.aA n=true:=by
 cases x with
 |tmp t=>
  simp[bA]at I;subst I;simp only[aO.get,bx]at h;obtain⟨⟨g,d⟩,ag,he⟩:=h;obtain⟨rfl,rfl⟩:=he;obtain⟨y,ak,i⟩:=R.fJ t g d ag al;refine⟨?_,R.fI t g d ag al⟩;simp_all[Act.eval]
 |const c=>
  simp[bA]at I;obtain⟨e,iN,rfl⟩:=I;obtain⟨_,rfl⟩:=h;exact Ve iN
 |global g=>grind[bA]
 |func f=>
  simp[bA]at I;subst I;obtain⟨_,rfl⟩:=h;exact⟨.c (by rfl),by rfl⟩
theorem pS(R:Rel au nt φ S env J n a w):∀{xs:List Operand} {a':List aO} (_:l9 xs=some a') {p:Prop} {vs:List V} (_:gW env a'=some (p,vs)) (_:p),
 a6 (b2 φ w S) vs (xs.map a.eval)/\V.aA.V.dr n vs=true
 |[],a',I,p,vs,h,al=>by simp[l9]at I;subst I;obtain⟨_,rfl⟩:=h;exact⟨.nil,rfl⟩
 |x::xs,a',I,p,vs,h,al=>by
  simp[l9,bk,bx]at I;obtain⟨g,c,i,d,rfl⟩:=I;simp only[gW,bk,bx]at h;obtain⟨⟨q,v⟩,e,⟨j,k⟩,f,he⟩:=h;obtain⟨rfl,rfl⟩:=he;have h1:=cn R c e al.1;have b:=pS R d f al.2;exact⟨.cons h1.1 b.1,by grind[V.aA.V.dr]⟩
theorem b2.iG{b:Bool}{x:Value}(h:b2 φ w S (.c (.t (.bool b))) x):x= .bool b:=by cases h with|c h=>cases h;rfl
theorem b2.fe{k:IntKind}{m:Int}{x:Value}(h:b2 φ w S (.c (.t (.int k m))) x):x= .int k m:=by cases h with|c h=>cases h;rfl
theorem b2.jL{s:aD}{x:Value}(h:b2 φ w S (.c (.t (.str s))) x):∃bs:ByteArray,x= .string bs/\bs.data.toList=s/\bs.size<=ej:=by cases h with|c h=>cases h<;>grind
theorem b2.gF{b o:Nat}{x:Value}(h:b2 φ w S (.c (.ptr b o)) x):x= .pointer (some ⟨(φ b).1,o,none⟩):=by cases h with|c h=>exact h
theorem b2.ir{b sz i o:Nat}{x:Value}(h:b2 φ w S (.c (.cH b sz i o)) x):x= .pointer (some ⟨(φ b).1,i*sz+o,none⟩):=by cases h with|c h=>exact h
theorem b2.kS{x:Value}(h:b2 φ w S (.agg cs) x):∃vs:List Value,x= .agg vs.toArray/\a6 (bq φ w S) cs vs:=by cases h<;>grind
theorem b2.dJ{x:Value}(h:b2 φ w S (.c c) x):bq φ w S c x:=by cases h<;>grind
theorem b2.nO(b:Bool):b2 φ w S (.c (.t (.bool b))) (.bool b):= .c (.bool b)
theorem b2.lZ(k:IntKind)(m:Int):b2 φ w S (.c (.t (.int k m))) (.int k m):= .c (.int k m)
theorem Hu(R:Rel au nt φ S env J n a w)(b:o.op= .move x\/o.op= .assign x){c:aO}(I:bA x=some c)
 {p v J'}(e:n key=false)(h:aM (.mov c) env J key=some (p,v,J'))(al:p):Good P au nt env J' (ins n key) a v ((execOp a.eval o).run P w):=by
 simp only[aM,bx]at h;obtain⟨⟨q,u⟩,d,he⟩:=h;obtain⟨rfl,rfl,rfl⟩:=he;have ao:=cn R I d al;refine Good.pure R ?_ ao.1 ao.2;rcases b with b|b<;>simp[execOp,b]
theorem W0(R:Rel au nt φ S env J n a w){c:Operand}(g:o.op= .pick c x y){ac d e:aO}(l:bA c=some ac)(I:bA x=some d)(ak:bA y=some e)
 {p v J'}(s:n key=false)(h:aM (.pick ac d e) env J key=some (p,v,J'))(al:p):Good P au nt env J' (ins n key) a v ((execOp a.eval o).run P w):=by
 simp only[aM,bk]at h;obtain⟨⟨t,C⟩,m,⟨u,D⟩,q,⟨z,E⟩,r,he⟩:=h;simp at he;split at he
 . rename_i b A B;obtain⟨rfl,rfl,rfl⟩:=he;obtain⟨h1,j,k⟩:=al;have f:=(cn R l m h1).1.iG;cases b with
   |true=>
    have ex:=(cn R I q (j rfl)).1.iG;exact Good.pure R (by simp[execOp,g,f,asBool,ex]) (.nO _) rfl
   |false=>
    have i:=(cn R ak r (k rfl)).1.iG;exact Good.pure R (by simp[execOp,g,f,asBool,i]) (.nO _) rfl
 grind
theorem uG(b:ByteArray):b.data.toList.length=b.size:=by rfl
theorem W1{op:BinOp}{s t r:T}(h:o0 op s t=some (p,r))(al:p){ty:TypeId}{x y:Value}(I:bP w S s x)(ak:bP w S t y):
 ∃z,(binOp op ty x y).run P w= .ok z w/\bP w S r z:=by
 have c:∀a b:aD,(a==b)=decide (a=b):=λa b=>by grind
 unfold o0 at h;split at h<;>(first|simp only[er,dK]at h|cases h)
 all_goals cases I;cases ak
 case h_1=>obtain⟨rfl,rfl,rfl⟩:=h;exact⟨_,by simp[binOp,Op.intArith],.int _ _⟩
 case h_2=>obtain⟨rfl,rfl,rfl⟩:=h;exact⟨_,by simp[binOp,Op.intArith],.int _ _⟩
 case h_3=>obtain⟨rfl,rfl,rfl⟩:=h;exact⟨_,by simp[binOp,Op.intArith],.int _ _⟩
 case h_4=>obtain⟨rfl,rfl,rfl⟩:=h;exact⟨_,by simp[binOp,Op.intDiv,al],.int _ _⟩
 case h_5=>obtain⟨rfl,rfl,rfl⟩:=h;exact⟨_,by simp[binOp,Op.intDiv,al],.int _ _⟩
 case h_6=>obtain⟨rfl,rfl,rfl⟩:=h;exact⟨_,by simp[binOp,Op.intBits],.int _ _⟩
 case h_7=>obtain⟨rfl,rfl,rfl⟩:=h;exact⟨_,by simp[binOp,Op.intBits],.int _ _⟩
 case h_8=>obtain⟨rfl,rfl,rfl⟩:=h;exact⟨_,by simp[binOp,Op.intBits],.int _ _⟩
 case h_9=>obtain⟨rfl,rfl,rfl⟩:=h;exact⟨_,by simp[binOp,Op.intBits],.int _ _⟩
 case h_10=>obtain⟨rfl,rfl⟩:=h;exact⟨_,by simp_all[binOp,Op.shift,av],.int _ _⟩
 case h_11=>obtain⟨rfl,rfl⟩:=h;exact⟨_,by simp_all[binOp,Op.shift,av],.int _ _⟩
 case h_12=>obtain⟨rfl,rfl,rfl⟩:=h;exact⟨_,by simp[binOp,Op.intCmp];rfl,.bool _⟩
 case h_13=>obtain⟨rfl,rfl,rfl⟩:=h;exact⟨_,by simp[binOp,Op.intCmp,bne,BEq.beq],.bool _⟩
 case h_14=>obtain⟨rfl,rfl,rfl⟩:=h;exact⟨_,by simp[binOp,Op.intCmp],.bool _⟩
 case h_15=>obtain⟨rfl,rfl,rfl⟩:=h;exact⟨_,by simp[binOp,Op.intCmp],.bool _⟩
 case h_16=>obtain⟨rfl,rfl,rfl⟩:=h;exact⟨_,by simp[binOp,Op.intCmp],.bool _⟩
 case h_17=>obtain⟨rfl,rfl,rfl⟩:=h;exact⟨_,by simp[binOp,Op.intCmp],.bool _⟩
 case h_18 s hs t ht=>
  obtain⟨rfl,rfl⟩:=h;simp only[uG]at al;have e:(s++t).data.toList=s.data.toList++t.data.toList:=by rfl
  refine⟨.string (s++t),?_,e▸.str _ (by grind)⟩;have:¬(((s.size+t.size:Nat):Int)>IntKind.i64.max):=by grind[IntKind.max,ej,IntKind.signed,IntKind.bits]
  simp_all[binOp,Op.stringOp,av]
 case h_19 s hs t ht=>obtain⟨rfl,rfl⟩:=h;exact⟨_,by simp_all[binOp,Op.stringOp,ByteArray.toList_eq],.bool _⟩
 case h_20 s hs t ht=>obtain⟨rfl,rfl⟩:=h;exact⟨_,by simp_all[binOp,Op.stringOp,ByteArray.toList_eq],.bool _⟩
 case h_21 s hs t ht=>obtain⟨rfl,rfl⟩:=h;exact⟨_,by simp_all[binOp,Op.stringOp,ByteArray.toList_eq],.bool _⟩
 case h_22 s hs t ht=>obtain⟨rfl,rfl⟩:=h;exact⟨_,by simp_all[binOp,Op.stringOp,ByteArray.toList_eq],.bool _⟩
 case h_23 s hs t ht=>obtain⟨rfl,rfl⟩:=h;exact⟨_,by simp_all[binOp,Op.stringOp,ByteArray.toList_eq],.bool _⟩
 case h_24 s hs t ht=>obtain⟨rfl,rfl⟩:=h;exact⟨_,by simp_all[binOp,Op.stringOp,ByteArray.toList_eq],.bool _⟩
theorem FJ{op:BinOp}{ty:TypeId}{u:Value}(h1:u≠.nilIface)(a:∀cs,u≠.agg cs):(eqGuard op ty x y u v).run P w= .ok () w:=by
 simp_all[eqGuard]
theorem bP.guard{t:T}{u:Value}(h:bP w S t u):u≠.nilIface/\∀cs,u≠.agg cs:=by
 cases h<;>exact⟨by simp,by simp⟩
theorem Rl{ty:TypeId}(c:P.underlying ty=some .bool)(a b:Bool):(Op.equal ty (.bool a) (.bool b)).run P w= .ok (a==b) w:=by
 obtain⟨d,aj⟩:∃d,Op.maxDepth=d+1:=⟨9999,rfl⟩
 unfold Op.equal;rw[aj];unfold Op.equalIn;simp only[Sem.run_bind,run_underlying c];rfl
theorem Ge(R:Rel au nt φ S env J n a w){op:BinOp}{ty:TypeId}(m:o.op= .binOp op ty x y yt){b d:aO}(I:bA x=some b)(ak:bA y=some d)
 {p v J'}(l:n key=false)(h:aM (.bin op b d) env J key=some (p,v,J'))(al:p):Good P au nt env J' (ins n key) a v ((execOp a.eval o).run P w):=by
 simp only[aM,bk]at h;obtain⟨⟨t,A⟩,f,⟨u,B⟩,g,he⟩:=h;simp at he;split at he
 . simp only[bx]at he;obtain⟨⟨s,r⟩,i,rfl,rfl,rfl⟩:=he;have h1:=(cn R I f al.1).1.dJ;have e:=(cn R ak g al.2.1).1.dJ;obtain⟨z,q,j⟩:=W1 (P:=P) (ty:=ty) i al.2.2 h1 e;refine Good.pure R ?_ (.c j) rfl;have k:(eqGuard op ty x y _ (a.eval y)).run P w= .ok _ w:=FJ (bP.guard h1).1 (bP.guard h1).2;simp_all[execOp]
 grind
theorem Wz(R:Rel au nt φ S env J n a w){op:BinOp}{ty:TypeId}(q:o.op= .binOp op ty x y yt)(i:op= .eql\/op= .neq)(r:P.underlying ty=some .bool)
 {b c:aO}(I:bA x=some b)(ak:bA y=some c)
 {p v J'}(m:n key=false)(h:aM (.eqBool (op== .neq) b c) env J key=some (p,v,J'))(al:p):Good P au nt env J' (ins n key) a v ((execOp a.eval o).run P w):=by
 simp only[aM,bk]at h;obtain⟨⟨s,u⟩,f,⟨t,z⟩,g,he⟩:=h;simp at he;split at he
 . rename_i d e;obtain⟨rfl,rfl,rfl⟩:=he;have h1:=(cn R I f al.1).1.iG;have l:=(cn R ak g al.2).1.iG;refine Good.pure R ?_ (.nO _) rfl;have j:(eqGuard op ty x y (a.eval x) (a.eval y)).run P w= .ok _ w:=FJ (by grind) (by grind);have k:(binOp op ty (a.eval x) (a.eval y)).run P w= .ok (.bool (if(op== .neq)then !(d==e)else(d==e))) w:=by
    rcases i with rfl|rfl
    . simp_all[binOp,Rl]
    simp_all[binOp,Rl]
   simp_all[execOp]
 grind
theorem XK(R:Rel au nt φ S env J n a w){ty:TypeId}(d:o.op= .unOp .not ty x){b:aO}(I:bA x=some b)
 {p v J'}(e:n key=false)(h:aM (.not b) env J key=some (p,v,J'))(al:p):Good P au nt env J' (ins n key) a v ((execOp a.eval o).run P w):=by
 simp only[aM,bk]at h;obtain⟨⟨f,g⟩,c,he⟩:=h;simp at he;split at he
 . obtain⟨rfl,rfl,rfl⟩:=he;have h1:=(cn R I c al).1.iG;exact Good.pure R (by simp[execOp,d,h1,Op.unary]) (.nO _) rfl
 grind
theorem XL(R:Rel au nt φ S env J n a w){ty:TypeId}{k:IntKind}(i:o.op= .unOp .neg ty x){b:aO}(I:bA x=some b)
 {p v J'}(j:n key=false)(h:aM (.bin .sub (.const (.c (.t (.int k 0)))) b) env J key=some (p,v,J'))(al:p):Good P au nt env J' (ins n key) a v ((execOp a.eval o).run P w):=by
 simp only[aM,aO.get,aw,bk]at h;obtain⟨⟨m,q⟩,g,he⟩:=h;simp only at he;split at he
 . rename_i t1 t2 aN;cases aN;simp only[bx]at he;obtain⟨⟨l,r⟩,d,rfl,rfl,rfl⟩:=he;have e:=(cn R I g al.2.1).1;cases t2<;>simp only[o0,reduceCtorEq,er]at d;obtain⟨rfl,rfl,rfl⟩:=d;have f:=e.fe;exact Good.pure R (by simp[execOp,i,f,Op.unary,Op.intArith]) (.lZ _ _) rfl
 grind
theorem XM(R:Rel au nt φ S env J n a w){ty:TypeId}{k:IntKind}(i:o.op= .unOp .xor ty x){b:aO}(I:bA x=some b)
 {p v J'}(j:n key=false)(h:aM (.bin .xor (.const (.c (.t (.int k (if k.signed then -1 else k.max))))) b) env J key=some (p,v,J'))(al:p):Good P au nt env J' (ins n key) a v ((execOp a.eval o).run P w):=by
 simp only[aM,aO.get,aw,bk]at h;obtain⟨⟨m,q⟩,g,he⟩:=h;simp only at he;split at he
 . rename_i t1 t2 aN;cases aN;simp only[bx]at he;obtain⟨⟨l,r⟩,d,rfl,rfl,rfl⟩:=he;have e:=(cn R I g al.2.1).1;cases t2<;>simp only[o0,reduceCtorEq,er]at d;obtain⟨rfl,rfl,rfl⟩:=d;have f:=e.fe;exact Good.pure R (by simp[execOp,i,f,Op.unary,Op.intBits]) (.lZ _ _) rfl
 grind
theorem W2(R:Rel au nt φ S env J n a w){s d:TypeId}(e:o.op= .convert s d x){f k:IntKind}(hs:P.underlying s=some (.int f))(aj:P.underlying d=some (.int k)){b:aO}(I:bA x=some b)
 {p v J'}(g:n key=false)(h:aM (.conv k b) env J key=some (p,v,J'))(al:p):Good P au nt env J' (ins n key) a v ((execOp a.eval o).run P w):=by
 simp only[aM,bk]at h;obtain⟨⟨i,j⟩,c,he⟩:=h;simp at he;split at he
 . obtain⟨rfl,rfl,rfl⟩:=he;have h1:=(cn R I c al).1.fe;exact Good.pure R (by simp[execOp,e,h1,convert,underlying,hs,aj,Conv.intToInt]) (.lZ _ _) rfl
 grind
theorem WA(m:Int):(Utf8.encode m).size<=ej:=by
 unfold ej Utf8.encode;dsimp
 (repeat' split)<;>simp[ByteArray.size]
theorem Y2(R:Rel au nt φ S env J n a w){s d:TypeId}(f:o.op= .convert s d x){g:IntKind}(hs:P.underlying s=some (.int g))(aj:P.underlying d=some .string){b:aO}(I:bA x=some b)
 {p v J'}(i:n key=false)(h:aM (.i2s b) env J key=some (p,v,J'))(al:p):Good P au nt env J' (ins n key) a v ((execOp a.eval o).run P w):=by
 simp only[aM,bk]at h;obtain⟨⟨j,k⟩,e,he⟩:=h;simp at he;split at he
 . obtain⟨rfl,rfl,rfl⟩:=he;have h1:=(cn R I e al).1.fe;exact Good.pure R (by simp[execOp,f,h1,convert,underlying,hs,aj,Conv.intToString]) (.c (.str _ (WA _))) rfl
 grind
theorem Y3(R:Rel au nt φ S env J n a w){s d:TypeId}(e:o.op= .convert s d x)(hs:P.underlying s=some .string)(aj:P.underlying d=some .string){b:aO}(I:bA x=some b)
 {p v J'}(f:n key=false)(h:aM (.s2s b) env J key=some (p,v,J'))(al:p):Good P au nt env J' (ins n key) a v ((execOp a.eval o).run P w):=by
 simp only[aM,bk]at h;obtain⟨⟨g,i⟩,c,he⟩:=h;simp at he;split at he
 . obtain⟨rfl,rfl,rfl⟩:=he;have ao:=cn R I c al;obtain⟨bs,h1,rfl,_⟩:=ao.1.jL;refine Good.pure R ?_ (h1▸ao.1) rfl;simp[execOp,e,h1,convert,underlying,hs,aj]
 grind
theorem VC(R:Rel au nt φ S env J n a w)(e:o.op= .nilCheck x){b:aO}(I:bA x=some b)
 {p v J'}(d:n key=false)(h:aM (.nilCheck b) env J key=some (p,v,J'))(al:p):Good P au nt env J' (ins n key) a v ((execOp a.eval o).run P w):=by
 simp only[aM,bk]at h;obtain⟨⟨f,g⟩,c,he⟩:=h;simp at he;split at he<;>simp only[dK,reduceCtorEq]at he
 all_goals
  obtain⟨rfl,rfl,rfl⟩:=he;have ao:=cn R I c al;have h1:=ao.1.dJ;refine Good.pure R ?_ ao.1 ao.2
 . simp_all[bq,execOp]
 . simp_all[bq,execOp]
 . obtain⟨_,_,_,h1,_⟩:=h1;simp_all[execOp]
theorem W3(R:Rel au nt φ S env J n a w){ty:TypeId}(t:o.op= .fieldAddr ty x f)(y:P.underlying ty=some (.struct fs)){d:Field}(q:fs[f]?=some d)
 {m:Nat}(j:ea P d.type=some m)(s:m≠0){g:aO}(I:bA x=some g)
 {p v J'}(r:n key=false)(h:aM (.fldA d.offset g) env J key=some (p,v,J'))(al:p):Good P au nt env J' (ins n key) a v ((execOp a.eval o).run P w):=by
 simp only[aM,bk]at h;obtain⟨⟨A,B⟩,k,he⟩:=h;simp at he;have z:∀w,(underlying ty).run P w= .ok (.struct fs) w:=by simp_all[underlying]
 have u:∀w,(sizeOf d.type).run P w= .ok m w:=by simp[ea]at j;obtain⟨i,l,rfl⟩:=j;simp[sizeOf,typeInfo,l]
 have e:∀(b off:Nat),a.eval x= .pointer (some ⟨b,off,none⟩)->(execOp a.eval o).run P w= .ok (.value (.pointer (some ⟨b,off+d.offset,none⟩))) w:=by
  simp_all[execOp,Instr.fieldAt,Instr.sureAddr,fieldPlace,Addr.add]
 split at he<;>simp only[dK,reduceCtorEq]at he
 all_goals
  obtain⟨rfl,rfl,rfl⟩:=he;have ao:=cn R I k al;have h1:=ao.1.dJ
 . exact Good.pure R (e _ _ h1) (.c rfl) ao.2
 . exact Good.pure R (e _ _ h1) (.c (by simp[bq,Nat.add_assoc])) ao.2
 . obtain⟨blk,off,f,h1,aa⟩:=h1;exact Good.pure R (e _ _ h1) (.c ⟨blk,off,f,by grind,aa⟩) ao.2
theorem a6.ad7(h:a6 (bP w S) ts vs):a6 (bq φ w S) (ts.map .t) vs:=by
 induction h with
 |nil=>exact .nil
 |cons h _ ih=>exact .cons h ih
theorem Hv(n:Nat->Bool)(ts:List T):(ts.map C.t).all (C.aA n)=true:=by simp[C.aA]
theorem rH{ty:TypeId}{g:Bool}(ao:oz P ty=some g)(w:World):(isAgg ty).run P w= .ok g w:=by
 unfold oz at ao;split at ao<;>simp_all [isAgg,underlying]
theorem iI{ty:TypeId}{k:Nat}(a:ea P ty=some k)(w:World):(sizeOf ty).run P w= .ok k w:=by
 simp[ea]at a;obtain⟨i,b,rfl⟩:=a;simp[sizeOf,typeInfo,b]
theorem Fg{ty:TypeId}(h:lT P ty=some g):oz P ty=some g.1/\ea P ty=some g.2/\(g.1=false->g.2=1):=by
 grind[lT,bk]
theorem Qn{ty:TypeId}{g:Bool}{k:Nat}(ao:oz P ty=some g)(d:ea P ty=some k){b o:Nat}
 (a:∀j,j<k->w.cell? ⟨b,o+j,none⟩=vs[j]?)(ag:vs.length=k)(h1:g=false->k=1):
 (loadVar ty ⟨b,o,none⟩).run P w= .ok (if g then .agg vs.toArray else vs.getD 0 undef) w:=by
 cases g with
 |true=>
  have:=run_loadCells_list (P:=P) w ⟨b,o,none⟩ vs (λj v c=>by
   grind[Addr.add])
  simp_all[loadVar,rH,iI]
 |false=>
  simp_all[loadVar,rH]
theorem bq.single(h:bq φ w S c v):v.cells=#[v]:=by
 have:=bq.iz h;cases v<;>simp[Value.oneCell']at this<;>rfl
theorem mP{v:V}{x:Value}(h:b2 φ w S v x)(a:oA v=some cs)(b:v.aA n=true):a6 (bq φ w S) cs x.cells.toList/\cs.all (C.aA n)=true:=by
 cases h with
 |c h=>
  simp[oA]at a;subst a;rw[bq.single h];exact⟨.cons h .nil,by grind[V.aA]⟩
 |agg h=>
  grind[oA,Value.cells,V.aA]
 |ba=>grind[oA]
theorem Qo{k o:Nat}{v:V}(h:a6 (bq φ w S) cs vs)(e:cs.all (C.aA n)=true)(ag:ji agg k cs o=some v)(h1:agg=false->k=1):
 o+k<=cs.length/\b2 φ w S v (if agg then .agg ((vs.drop o).take k).toArray else((vs.drop o).take k).getD 0 undef)/\v.aA n=true:=by
 unfold ji at ag;cases agg with
 |true=>
  simp at ag;obtain⟨b,rfl⟩:=ag;refine⟨b,?_,by grind[V.aA]⟩;simpa using b2.agg ((h.drop o).take k)
 |false=>
  have:=h1 rfl;subst this;simp at ag;obtain⟨c,a,rfl⟩:=ag;obtain⟨x,I,d⟩:=h.get a;have aF:=(dL.1 a).1;refine⟨by omega,?_,?_⟩
  . have:((vs.drop o).take 1).getD 0 undef=x:=(by grind);simp only[this];exact .c d
  grind[V.aA]
theorem It{k o:Nat}{v:V}(ag:loadT agg k ts o=some v):ji agg k (ts.map .t) o=some v:=by
 unfold loadT at ag;unfold ji;cases agg<;>simp_all
theorem ZT{ty:TypeId}{g:Bool}{k:Nat}(ao:oz P ty=some g)(a:ea P ty=some k)(h1:g=false->k=1)(b:off+k<=vs.length):
 (part ty vs.toArray off).run P w= .ok (if g then .agg ((vs.drop off).take k).toArray else((vs.drop off).take k).getD 0 undef) w:=by
 cases g with
 |true=>
  simp_all[part,rH,iI]
 |false=>
  have:=h1 rfl;have aF:off<vs.length:=by omega
  simp_all[part,rH]
theorem Y4(R:Rel au nt φ S env J n a w){ty:TypeId}(r:o.op= .field ty x f)(u:P.underlying ty=some (.struct fs)){b:Field}(j:fs[f]?=some b)
 {m:Nat}(q:ea P b.type=some m){g:Bool}(ao:oz P b.type=some g)(h1:g=false->m=1){c:aO}(I:bA x=some c)
 {p v J'}(A:n key=false)(h:aM (.fld g b.offset m c) env J key=some (p,v,J'))(al:p):Good P au nt env J' (ins n key) a v ((execOp a.eval o).run P w):=by
 simp only[aM,bk]at h;obtain⟨⟨B,C⟩,k,he⟩:=h;simp at he;split at he
 . simp only[bx]at he;obtain⟨v0,y,rfl,rfl,rfl⟩:=he;have e:=cn R I k al;obtain⟨vs,z,d⟩:=e.1.kS;obtain⟨l,t,i⟩:=Qo d (by simpa[V.aA]using e.2) y h1;have s:=ZT (w:=w) ao q h1 (by rw[<-d.length];exact l);exact Good.pure R (by simp[execOp,r,z,Instr.field,underlying,u,j,asAgg,s]) t i
 grind
theorem Y5(R:Rel au nt φ S env J n a w){i:Nat}(m:o.op= .extract x i){b:aO}(I:bA x=some b)
 {p v J'}(l:n key=false)(h:aM (.ext b i) env J key=some (p,v,J'))(al:p):Good P au nt env J' (ins n key) a v ((execOp a.eval o).run P w):=by
 simp only[aM,bk]at h;obtain⟨⟨q,r⟩,e,he⟩:=h;simp at he;split at he
 . simp only[bx]at he;obtain⟨v0,d,rfl,rfl,rfl⟩:=he;have c:=cn R I e al;generalize j:a.eval x=y at c;obtain⟨f,k⟩:=c;cases f with
   |ba _ xs ag aa=>
    have aF:i<xs.length:=(by grind);have g:=df aF;refine Good.pure R ?_ (aa i _ _ d g) (lR (by grind[V.aA]) d);simp_all[execOp,Instr.extract]
 grind
theorem W4(R:Rel au nt φ S env J n a w){x y:Operand}{d:Array TypeId}(i:o.op= .call {callee:= .builtin .max,args:=#[x,y],argTypes:=d}){b c:aO}(I:bA x=some b)(ak:bA y=some c)
 {p v J'}(j:n key=false)(h:aM (.max2 b c) env J key=some (p,v,J'))(al:p):Good P au nt env J' (ins n key) a v ((execOp a.eval o).run P w):=by
 simp only[aM,bk]at h;obtain⟨⟨m,s⟩,f,⟨r,t⟩,g,he⟩:=h;simp at he;split at he
 . rename_i k p l q;simp only[er]at he;obtain⟨rfl,rfl,rfl,rfl⟩:=he;have h1:=(cn R I f al.1).1.fe;have e:=(cn R ak g al.2).1.fe;refine Good.pure R ?_ (.lZ _ _) rfl;have:(if p<q then q else p)=max p q:=(by omega);simp[execOp,i,invoke,builtin,Builtin.max_,Builtin.max2,h1,e,Go.resolve,this]
 grind
theorem W5(R:Rel au nt φ S env J n a w){x y:Operand}{d:Array TypeId}(i:o.op= .call {callee:= .builtin .min,args:=#[x,y],argTypes:=d}){b c:aO}(I:bA x=some b)(ak:bA y=some c)
 {p v J'}(j:n key=false)(h:aM (.min2 b c) env J key=some (p,v,J'))(al:p):Good P au nt env J' (ins n key) a v ((execOp a.eval o).run P w):=by
 simp only[aM,bk]at h;obtain⟨⟨m,s⟩,f,⟨r,t⟩,g,he⟩:=h;simp at he;split at he
 . rename_i k p l q;simp only[er]at he;obtain⟨rfl,rfl,rfl,rfl⟩:=he;have h1:=(cn R I f al.1).1.fe;have e:=(cn R ak g al.2).1.fe;refine Good.pure R ?_ (.lZ _ _) rfl;have:(if q<p then q else p)=min p q:=(by omega);simp[execOp,i,invoke,builtin,Builtin.min_,Builtin.min2,h1,e,Go.resolve,this]
 grind
theorem bP.iS(h:bP w S (.slice es) v):∃(a:Option Addr) (cap sz b o:Nat) (f:Nat->Nat->Value),v= .slice a es.length cap/\es.length<=cap/\es.length<=dk/\(∀e,e∈es->e.length=sz)/\(es≠[]->a=some ⟨b,o,none⟩)/\
 (∀i j:Nat,i<es.length->j<sz->S b (o+i*sz+j)/\w.cell? ⟨b,o+i*sz+j,none⟩=some (f i j))/\(∀(i j:Nat) e t,es[i]?=some e->e[j]?=some t->bP w S t (f i j)):=by
 cases h;exact⟨_,_,_,_,_,_,rfl,by grind,by grind,by omega,by omega,by omega,by grind⟩
theorem bq.gx{b sz len:Nat}(h:bq φ w S (.arr b sz off len) v):∃a,v= .slice a len ((φ b).2-off)/\((φ b).2≠0->a=some ⟨(φ b).1,off*sz,none⟩)/\off+len<=(φ b).2:=h
theorem Y6(R:Rel au nt φ S env J n a w){x:Operand}{ty:TypeId}(f:o.op= .call {callee:= .builtin .len,args:=#[x],argTypes:=#[ty]}){str:Bool}
 (d:if str then P.underlying ty=some .string else ∃e,P.underlying ty=some (.slice e)){g:aO}(I:bA x=some g)
 {p v J'}(k:n key=false)(h:aM (.len str g) env J key=some (p,v,J'))(al:p):Good P au nt env J' (ins n key) a v ((execOp a.eval o).run P w):=by
 simp only[aM,bk]at h;obtain⟨⟨r,s⟩,j,he⟩:=h;simp at he;split at he<;>simp only[dK,dW,reduceCtorEq]at he
 all_goals
  obtain⟨rfl,rfl,rfl⟩:=he;have h1:=(cn R I j al).1.dJ
 . obtain⟨e,d⟩:=d;obtain⟨b4,cap,_,_,_,_,h1,_⟩:=bP.iS h1;exact Good.pure R (by simp[execOp,f,Go.resolve,invoke,builtin,Builtin.len_,underlying,d,h1,goInt]) (.lZ _ _) rfl
 . obtain⟨e,d⟩:=d;obtain⟨b4,h1,_⟩:=bq.gx h1;exact Good.pure R (by simp[execOp,f,Go.resolve,invoke,builtin,Builtin.len_,underlying,d,h1,goInt]) (.lZ _ _) rfl
 . obtain⟨e,d⟩:=d;obtain⟨b4,h1⟩:=h1;exact Good.pure R (by simp[execOp,f,Go.resolve,invoke,builtin,Builtin.len_,underlying,d,h1,goInt]) (.lZ _ _) rfl
 . obtain⟨e,d⟩:=d;rename_i b l;obtain⟨b4,cap,h1⟩:∃b4 cap,a.eval x= .slice b4 l cap:=by
    obtain⟨m,q,bn⟩:=h1;grind
   exact Good.pure R (by simp[execOp,f,Go.resolve,invoke,builtin,Builtin.len_,underlying,d,h1,goInt]) (.lZ _ _) rfl
 . simp at d;obtain⟨bs,i,rfl,_⟩:=b2.jL (.c h1);exact Good.pure R (x:= .int .i64 bs.size) (by simp[execOp,f,Go.resolve,invoke,builtin,Builtin.len_,underlying,d,i,goInt]) (by exact .lZ _ _) rfl
theorem W6(R:Rel au nt φ S env J n a w){ty:TypeId}{i:Operand}(F:o.op= .indexAddr ty x i)(H:P.underlying ty=some (.slice e)){sz:Nat}(G:ea P e=some sz)(h0:sz≠0)
 {z y:aO}(I:bA x=some z)(E:bA i=some y)
 {p v J'}(U:n key=false)(h:aM (.idxA sz z y) env J key=some (p,v,J'))(al:p):Good P au nt env J' (ins n key) a v ((execOp a.eval o).run P w):=by
 simp only[aM,bk]at h;obtain⟨⟨ab,ae⟩,D,⟨aa,ad⟩,B,he⟩:=h;simp only at he;have A:∀(b off m:Nat),Addr.add ⟨b,off,none⟩ (m*sz)=⟨b,off+m*sz,none⟩:=by
  grind[Addr.add]
 split at he
 . rename_i es k m;obtain⟨rfl,rfl,rfl⟩:=he;obtain⟨s,u,r,K,Q⟩:=al;have h1:=(cn R I D s).1.dJ;have g:=(cn R E B u).1.fe;obtain⟨b4,cap,d,b,off,f,h1,O,X,Y,l,N,Z⟩:=bP.iS h1;have L:es≠[]:=(by grind);have T:es[m.toNat]?=some (el es m.toNat):=(by grind[el]);have M:d=sz:=(by grind);subst M;rw[l L]at h1;refine Good.pure R (x:= .pointer (some ⟨b,off+m.toNat*d,none⟩)) ?_ ?_ rfl
   . have q:0<=m/\m<es.length:=⟨r,by omega⟩
     simp[execOp,F,h1,g,Instr.indexAt,asIntOf,underlying,H,q,iI G,A]
   . refine .c ⟨b,off+m.toNat*d,λj=>f m.toNat j,by rfl,λj t ht=>?_⟩;grind
 . rename_i b d off len k m;obtain⟨rfl,rfl,rfl⟩:=he;obtain⟨s,u,r,K,rfl⟩:=al;have ao:=cn R I D s;have h1:=ao.1.dJ;have g:=(cn R E B u).1.fe;obtain⟨b4,h1,l,W⟩:=bq.gx h1;rw[l (by omega)]at h1;refine Good.pure R (x:= .pointer (some ⟨(φ b).1,off*sz+m.toNat*sz,none⟩)) ?_ (.c ?_) (by grind[V.aA,C.aA])
   . have q:0<=m/\m<len:=⟨r,by omega⟩
     simp[execOp,F,h1,g,Instr.indexAt,asIntOf,underlying,H,q,iI G,A]
   grind[bq]
 grind
theorem W7(R:Rel au nt φ S env J n a w){ty:TypeId}{i:Operand}(r:o.op= .index ty x i)(y:P.underlying ty=some .string)
 {c b:aO}(I:bA x=some c)(j:bA i=some b)
 {p v J'}(z:n key=false)(h:aM (.idxS c b) env J key=some (p,v,J'))(al:p):Good P au nt env J' (ins n key) a v ((execOp a.eval o).run P w):=by
 simp only[aM,bk]at h;obtain⟨⟨B,D⟩,g,⟨A,C⟩,f,he⟩:=h;simp at he;split at he
 . rename_i s k m;obtain⟨rfl,rfl,rfl⟩:=he;obtain⟨t,u,l,q⟩:=al;obtain⟨bs,h1,rfl,hs⟩:=(cn R I g t).1.jL;have d:=(cn R j f u).1.fe;have aF:m.toNat<bs.size:=(by simp_all);refine Good.pure R ?_ (.lZ _ _) rfl;have e:bs[m.toNat]?=some (bs.data.toList.getD m.toNat 0):=by
    rw[getElem?_pos bs _ _];simp[df q];rfl
   simp[execOp,r,h1,d,Instr.index,asIntOf,underlying,y,l,e]
 grind
theorem Qy:∀{vs:List V} {l:aZ} {xs:List Value},aM.q0 vs=some l->a6 (b2 φ w S) vs xs->V.aA.V.dr n vs=true->
 xs=l.map (λb=>Value.pointer (some ⟨(φ b).1,0,none⟩))/\(l.all λb=>n b)=true
 |[],l,xs,h,a,c=>by simp[aM.q0]at h;subst h;cases a;simp
 |v::vs,l,xs,h,a,c=>by
  cases a with
  |cons d ht=>
   unfold aM.q0 at h;split at h
   . grind
   . rename_i b r e;cases e;simp at h;obtain⟨i,f,rfl⟩:=h;simp[V.aA.V.dr]at c;obtain⟨rfl,g⟩:=Qy f ht c.2;have:=d.gF;grind[V.aA,C.aA]
   grind
theorem W8(R:Rel au nt φ S env J n a w){caps:Array Operand}(j:o.op= .makeFunc (.func f) #[] caps){d:List aO}(I:l9 caps.toList=some d)
 {p v J'}(i:n key=false)(h:aM (.mkfn f d) env J key=some (p,v,J'))(al:p):Good P au nt env J' (ins n key) a v ((execOp a.eval o).run P w):=by
 simp only[aM,bk]at h;obtain⟨⟨k,vs⟩,e,he⟩:=h;split at he
 . rename_i l ag;obtain⟨rfl,rfl,rfl⟩:=he;have ao:=pS R I e al;obtain⟨h1,g⟩:=Qy ag ao.1 ao.2;refine Good.pure R ?_ (.c rfl) (by grind[V.aA,C.aA]);have:caps.map a.eval=(l.map λb=>Value.pointer (some ⟨(φ b).1,0,none⟩)).toArray:=(by grind);simp_all[execOp,Instr.makeFunc]
 grind
theorem pT(R:Rel au nt φ S env J n a w){x:Option Operand}{b:Option aO}(I:jK x=some b){m:Option Int}(h:jh env b=some (p,m))(al:p):
 (x.map a.eval=none/\m=none)\/∃k i,x.map a.eval=some (.int k i)/\m=some i:=by
 cases x with
 |none=>grind[jK,jh]
 |some x=>
  simp[jK]at I;obtain⟨e,c,rfl⟩:=I;simp only[jh,bk]at h;obtain⟨⟨q,v⟩,d,he⟩:=h;simp at he;split at he
  . obtain⟨rfl,rfl⟩:=he;have:=(cn R c d al).1.fe;grind
  grind
theorem BY {isSlice:Bool}{len cap:Nat}{b a:Option Value}{l h:Option Int}(d:(b=none/\l=none)\/∃k i,b=some (.int k i)/\l=some i)(c:(a=none/\h=none)\/∃k i,a=some (.int k i)/\h=some i)
 (h0:0<=l.getD 0)(h1:l.getD 0<=h.getD len)(e:h.getD len<=len)(f:len<=cap):
 (Instr.sliceBounds isSlice len cap b a none).run P w= .ok ((l.getD 0).toNat,(h.getD len).toNat,cap) w:=by
 have g:h.getD len<=cap:=by omega
 rcases d with⟨rfl,rfl⟩|⟨k,i,rfl,rfl⟩<;>rcases c with⟨rfl,rfl⟩|⟨m,j,rfl,rfl⟩<;>simp_all [Instr.sliceBounds,Instr.sliceBound,asIntOf];grind
theorem W9(R:Rel au nt φ S env J n a w){ty:TypeId}{i:Option Operand}(u:o.op= .slice ty x j i none)(B:P.underlying ty=some .string)
 {f:aO}{d b:Option aO}(I:bA x=some f)(t:jK j=some d)(s:jK i=some b)
 {p v J'}(D:n key=false)(h:aM (.slcS f d b) env J key=some (p,v,J'))(al:p):Good P au nt env J' (ins n key) a v ((execOp a.eval o).run P w):=by
 simp only[aM,bk]at h;obtain⟨⟨F,G⟩,r,⟨pl,l⟩,q,⟨E,h⟩,m,he⟩:=h;simp at he;split at he
 . obtain⟨rfl,rfl,rfl⟩:=he;obtain⟨y,z,A,h0,h1,g⟩:=al;obtain⟨bs,C,rfl,hs⟩:=(cn R I r y).1.jL;have ag:=pT R t q z;have aa:=pT R s m A;rw[uG]at h1 g;have k:=BY (P:=P) (w:=w) (isSlice:=false) ag aa h0 h1 g (e6 _);rw[uG];have e:(bs.extract (l.getD 0).toNat (h.getD bs.size).toNat).data.toList=(bs.data.toList.take (h.getD bs.size).toNat).drop (l.getD 0).toNat:=(by grind[ByteArray.data_extract,Array.toList_extract,List.drop_take]);refine Good.pure R (x:= .string (bs.extract (l.getD 0).toNat (h.getD bs.size).toNat)) ?_ (.c ?_) rfl
   . simp[execOp,u,Instr.sliceAt,Instr.slice,underlying,B,C,k]
   . rw[<-e];refine .str _ ?_;rw[ByteArray.size_extract];omega
 grind
theorem Y7(R:Rel au nt φ S env J n a w){ty:TypeId}{Y k:Option Operand}(U:o.op= .slice ty x Y k none)(X:P.underlying ty=some (.slice e)){sz:Nat}(W:ea P e=some sz)
 {G:aO}{g F:Option aO}(I:bA x=some G)(T:jK Y=some g)(Q:jK k=some F)
 {p v J'}(aq:n key=false)(h:aM (.slc sz G g F) env J key=some (p,v,J'))(al:p):Good P au nt env J' (ins n key) a v ((execOp a.eval o).run P w):=by
 simp only[aM,bk]at h;obtain⟨⟨az,aA⟩,O,⟨pl,l⟩,N,⟨ay,h⟩,M,he⟩:=h;simp only at he;split at he
 . rename_i es;obtain⟨rfl,rfl,rfl⟩:=he;obtain⟨A,B,D,h0,h1,s,ab⟩:=al;obtain⟨b4,cap,d,b,off,f,E,Z,aw,ax,K,y,aj⟩:=bP.iS (cn R I O A).1.dJ;have ag:=pT R T N B;have aa:=pT R Q M D;have u:=BY (P:=P) (w:=w) (isSlice:=true) (cap:=cap) ag aa h0 h1 s Z;generalize am:(l.getD 0).toNat=L at*;generalize ak:(h.getD (es.length:Int)).toNat=H at*;have r:((es.take H).drop L).length=H-L:=by simp;omega
   refine Good.pure R (x:= .slice (if cap=L then b4 else b4.map (·.add (L*sz))) (H-L) (cap-L)) ?_ (.c ?_) rfl
   . simp[execOp,U,Instr.sliceAt,Instr.slice,underlying,X,E,u,iI W]
   . show bP w S _ _;rw[<-r];have ad:∀(i:Nat) e,((es.take H).drop L)[i]?=some e->es[L+i]?=some e/\L+i<H:=(by grind);by_cases z:es=[]
     . subst z;simp;exact bP.slice [] _ _ 0 0 0 (λ_ _=>undef) (by simp) (by simp[dk]) (by simp) (by simp) (by simp) (by simp)
     . have ah:d=sz:=by
        obtain⟨dc,ap⟩:=z6 es z;grind
       subst ah;refine bP.slice _ _ _ d b (off+L*d) (λi j=>f (L+i) j) (by rw[r];omega) (by rw[r];omega) (λe he=>ab e (x7 (Dz he))) ?_ ?_ ?_
       . intro aV;have:L<H:=(by grind);rw[cV,K z];unfold Addr.add;split
         . rename_i h;simp[h]
         . rfl
       . intro i j k ae;rw[r]at k;have:=y (L+i) j (by omega) ae;rw[show off+L*d+i*d+j=off+(L+i)*d+j by rw[h3];omega];exact this
       . intro i j e t he ht;exact aj _ _ _ _ (ad i e he).1 ht
 . rename_i b d off len;obtain⟨rfl,rfl,rfl⟩:=he;obtain⟨A,B,D,h0,h1,s,rfl⟩:=al;have ao:=cn R I O A;obtain⟨b4,E,K,ar⟩:=bq.gx ao.1.dJ;have ag:=pT R T N B;have aa:=pT R Q M D;have u:=BY (P:=P) (w:=w) (isSlice:=true) (cap:=(φ b).2-off) ag aa h0 h1 s (by omega);have an:∀(q o m:Nat),(Addr.add ⟨q,o,none⟩ m:Addr)=⟨q,o+m,none⟩:=by
    grind[Addr.add]
   have af:g.isNone=true->l.getD 0=0:=by
    intro aV;cases g with
    |some _=>grind
    |none=>grind[jh,Option.some.injEq,Prod.mk.injEq]
   generalize l.getD 0=L at*;generalize h.getD (len:Int)=H at*;refine Good.pure R (x:= .slice (if(φ b).2-off=L.toNat then b4 else b4.map (·.add (L.toNat*sz))) (H.toNat-L.toNat) ((φ b).2-off-L.toNat)) ?_ (.c ?_) ?_
   . simp[execOp,U,Instr.sliceAt,Instr.slice,underlying,X,E,u,iI W]
   . by_cases aV:g.isNone=true
     . rw[ai aV];have:=af aV;subst this;refine⟨_,rfl,λy=>?_,by omega⟩;grind
     . rw[av aV];refine⟨_,_,rfl,λy=>?_,by omega⟩;grind
   grind[V.aA,C.aA]
 grind
theorem W'(R:Rel au nt φ S env J n a w){ty:TypeId}{k t:IntKind}(q:o.op= .slice ty x none (some (.const (.int k 0))) (some (.const (.int t 0))))(s:P.underlying ty=some (.slice e))
 {sz:Nat}(r:ea P e=some sz){j:aO}(I:bA x=some j)
 {p v J'}(u:n key=false)(h:aM (.slc0 j) env J key=some (p,v,J'))(al:p):Good P au nt env J' (ins n key) a v ((execOp a.eval o).run P w):=by
 simp only[aM,bk]at h;obtain⟨⟨y,A⟩,m,he⟩:=h;simp at he;have i:∀(b4:Option _) (l c:Nat),a.eval x= .slice b4 l c->∃a2,(execOp a.eval o).run P w= .ok (.value (.slice a2 0 0)) w:=by
  intro b4 l c d;have dc:∀v,a.eval (.const v)=v:=λ_=>rfl;exact⟨_,by simp[execOp,q,Instr.sliceAt,Instr.slice,underlying,s,d,iI r];rfl⟩
 split at he<;>simp only[dK,reduceCtorEq]at he
 all_goals
  obtain⟨rfl,rfl,rfl⟩:=he;have h1:=(cn R I m al).1.dJ
 . obtain⟨b4,cap,z,b,off,f,d,_⟩:=bP.iS h1;obtain⟨a2,g⟩:=i _ _ _ d;exact Good.pure R g (.c ⟨a2,rfl⟩) rfl
 . obtain⟨b4,d⟩:=h1;obtain⟨a2,g⟩:=i _ _ _ d;exact Good.pure R g (.c ⟨a2,rfl⟩) rfl
 . obtain⟨b4,d,_⟩:=bq.gx h1;obtain⟨a2,g⟩:=i _ _ _ d;exact Good.pure R g (.c ⟨a2,rfl⟩) rfl
theorem ic{b:Nat}{a:Nat×Nat}(h:w.heap[b]?=some (.cells vs.toArray E a))(j:Nat):w.cell? ⟨b,j,none⟩=vs[j]?:=by
 grind[World.cell?]
theorem rL{ty:TypeId}(ao:lT P ty=some g){blk off0 o:Nat}{v:V}
 (a:a6 (bq φ w S) cs vs)(c:cs.all (C.aA n)=true)(i:∀j,j<vs.length->w.cell? ⟨blk,off0+j,none⟩=vs[j]?)(ag:ji g.1 g.2 cs o=some v):
 ∃x,(loadVar ty ⟨blk,off0+o,none⟩).run P w= .ok x w/\b2 φ w S v x/\v.aA n=true:=by
 obtain⟨h1,e,b⟩:=Fg ao;obtain⟨d,k,f⟩:=Qo a c ag b;rw[a.length]at d;grind[Qn]
theorem a6.O3(h:a6 (bP w S) ts xs):a6 (bq φ w S) (ts.map .t) xs:=a6.ad7 h
theorem Gy{b sz i:Nat}(h:cU φ w S b (.arr sz es))(k:i<es.length):
 (φ b).2≠0/\∃(vs:List Value) (E:TypeId) (xs:List Value),w.heap[(φ b).1]?=some (.cells vs.toArray E (0,0))/\vs.length=(φ b).2*sz/\(el es i).length=sz/\xs.length=sz/\a6 (bP w S) (el es i) xs/\
  (∀j,j<sz->vs[i*sz+j]?=xs[j]?)/\(i+1)*sz<=vs.length:=by
 obtain⟨h1,f,a,g,bh⟩:=h;have h0:(φ b).2≠0:=by omega
 obtain⟨vs,E,aa,ag,l,hs⟩:=bh h0;have c:es[i]?=some (el es i):=by grind[el]
 have e:=a _ (eV c);have d:(i+1)*sz<=vs.length:=by rw[ag];exact eY _ (by omega)
 refine⟨h0,vs,E,(vs.drop (i*sz)).take sz,aa,ag,e,by grind,?_,?_,d⟩
 . grind[a6.kM]
 grind
theorem Xa(R:Rel au nt φ S env J n a w){ty:TypeId}(ad:o.op= .load ty x)(ao:lT P ty=some g){C:aO}(I:bA x=some C)
 {p v J'}(Z:n key=false)(h:aM (.load g.1 g.2 C) env J key=some (p,v,J'))(al:p):Good P au nt env J' (ins n key) a v ((execOp a.eval o).run P w):=by
 simp only[aM,bk]at h;obtain⟨⟨ai,aj⟩,q,he⟩:=h;simp only at he;have z:∀(blk off:Nat) (y:Value),a.eval x= .pointer (some ⟨blk,off,none⟩)->(loadVar ty ⟨blk,off,none⟩).run P w= .ok y w->(execOp a.eval o).run P w= .ok (.value y) w:=by
  simp_all[execOp,Instr.loadAt,Instr.sureAddr]
 split at he
 . split at he
   . rename_i cs d;simp only[bx]at he;obtain⟨v0,l,rfl,rfl,rfl⟩:=he;have h1:=(cn R I q al).1.gF;obtain⟨_,vs,E,aa,m,_⟩:=R.bD.blk _ _ d;have r:=(R.dz _ _ d).2;obtain⟨y,ak,k,e⟩:=rL (n:=n) ao m r (λj _=>by rw[ic aa,gS]) l;grind[Good.pure]
   . rename_i E c d;split at he
     . rename_i M;obtain⟨N,rfl⟩:=M;obtain⟨rfl,rfl,rfl⟩:=he;have h1:=(cn R I q al).1.gF;obtain⟨_,⟨G,X,aa,Q,T⟩,_⟩:=R.bD.blk _ _ d;have r:=(R.dz _ _ d).2;have O:G.oneCell'=true:=by rcases Q with rfl|rfl<;>rfl
       have m:a6 _ [.dead,c] [G,X]:= .cons O (.cons T .nil);obtain⟨y,ak,k,e⟩:=rL (n:=n) (off0:=0) (o:=1) (v:= .c c) ao m (by simp only[l5,List.all_nil,qA];exact r) (λj _=>by rw[ic aa,gS]) (by simp[ji,N]);grind[Good.pure]
     grind
   grind
 . rename_i b sz i F;split at he
   . rename_i W es d;simp only[bx,dW]at he;obtain⟨v0,l,rfl,rfl,rfl⟩:=he;obtain⟨u,rfl,A⟩:=al;have h1:=(cn R I q u).1.ir;obtain⟨_,vs,E,xs,aa,ag,ab,ae,m,L,_⟩:=Gy (R.bD.blk _ _ d) A;obtain⟨y,ak,k,e⟩:=rL (n:=n) ao (a6.O3 m) (Hv n _) (λj s=>by rw[ic aa,L j (by omega)]) (It l);exact Good.pure R (z _ _ _ h1 ak) k e
   . rename_i W es af ah c d;split at he
     . grind
     . rename_i D;obtain⟨⟨a1,a2,a3,a4,a5,Y⟩,⟨vs,E,bn,bt,bY,H,cw,cW⟩,dm⟩:=R.bD.blk _ _ d;have r:=(R.dz _ _ d).2;split at he
       . rename_i B;subst B;obtain⟨rfl,rfl,rfl⟩:=he;obtain⟨u,rfl,rfl⟩:=al;have h1:=(cn R I q u).1.ir
         obtain⟨y,ak,k,e⟩:=rL (n:=n) (vs:=[H]) (o:=0) (v:= .c c) ao (.cons cW .nil) (by simpa[bT.aA]using r) (λj s=>by
          have:j=0:=(by simpa using s);subst this
          rw[ic bn,sk,cw];rfl) (by simp[ji,D])
         exact Good.pure R (z _ _ _ h1 ak) k e
       . rename_i B;simp only[bx,dW]at he;obtain⟨v0,l,rfl,rfl,rfl⟩:=he;obtain⟨u,rfl,A⟩:=al;have h1:=(cn R I q u).1.ir;simp only[loadT,bU,bN,bx]at l;obtain⟨t,ht,rfl⟩:=l;have K:es[i]?=some (el es i):=by unfold el;rw[List.getD,df A];rfl
         obtain⟨am,V,U⟩:=bY i F _ t K ht (λh=>B h.2)
         obtain⟨y,ak,k,e⟩:=rL (n:=n) (φ:=φ) (cs:=[.t t]) (o:=0) (v:= .c (.t t)) ao (.cons U .nil) rfl (λj s=>by
          have:j=0:=(by simpa using s);subst this
          rw[ic bn,sk,V];rfl) (by simp[ji,D])
         exact Good.pure R (z _ _ _ h1 ak) k e
   grind
 . rename_i ts F;simp only[bx,dW]at he;obtain⟨v0,l,rfl,rfl,rfl⟩:=he;obtain⟨blk,off,f,h1,aa⟩:=(cn R I q al).1.dJ;have m:a6 (bP w S) ts ((List.range ts.length).map f):=by
    grind[a6.kM]
   obtain⟨y,ak,k,e⟩:=rL (n:=n) ao (a6.O3 m) (Hv n _) (blk:=blk) (off0:=off) (λj s=>by simp_all) (It l);exact Good.pure R (z _ _ _ h1 ak) k e
 grind
theorem Hw{k:Nat}{s t:T}{b:Bool}(h:vO k s t=some b){ty:TypeId}(c:oI P ty=some k){x y:Value}(I:bP w S s x)(ak:bP w S t y)(d:Nat):
 (Op.equalIn (d+1) ty x y).run P w= .ok b w:=by
 have f:∀a b:aD,(a==b)=decide (a=b):=λa b=>by grind
 unfold oI at c;unfold vO at h;split at h
 . cases h;cases I;cases ak;split at c<;>simp at c;rename_i e;unfold Op.equalIn;simp only[Sem.run_bind,run_underlying e];rfl
 . simp at h;obtain⟨rfl,rfl⟩:=h;cases I;cases ak;split at c<;>simp at c;rename_i e;unfold Op.equalIn;simp only[Sem.run_bind,run_underlying e,Result.andThen_ok];rfl
 . cases I with|str s1 h1=>cases ak with|str i g=>
   split at c<;>simp at c;rename_i e;unfold Op.equalIn;simp only[Sem.run_bind,run_underlying e,Result.andThen_ok];simp_all[beq_toListBytes,ByteArray.toList_eq]
 grind
theorem Hx{ty:TypeId}{k:Nat}(h:oI P ty=some k):oz P ty=some false:=by
 grind[oI,oz]
theorem Pz{d:Nat}{xs ys:Array Value}:∀{fs:List Field} {i:Nat} {ks:aZ} {ps qs:List C} {us vs:List Value} {r:Bool},w1 P i fs=some ks->kE ks ps qs=some r->
 a6 (bq φ w S) ps us->a6 (bq φ w S) qs vs->xs.toList.drop i=us->ys.toList.drop i=vs->(Op.eqFields (d+1) xs ys fs).run P w= .ok r w
 |[],i,ks,ps,qs,us,vs,r,a,he,h1,c,aN,e=>by
  simp[w1]at a;subst a;cases ps<;>cases qs<;>simp[kE]at he;subst he;rfl
 |f::fs,i,ks,ps,qs,us,vs,r,a,he,h1,c,aN,e=>by
  simp[w1,bk]at a;obtain⟨⟨B,A⟩,k,q,E,s,rfl⟩:=a;unfold kE at he;split at he
  . grind
  . rename_i D F x G y H p;cases p;simp only[bk,bx]at he;obtain⟨b,o,I,t,rfl⟩:=he;cases h1 with|cons h1 m=>
    cases c with|cons c n=>
    rename_i u J v K;have ex:xs[i]?=some u:=by have:=dP (·[0]?) aN;grind
    have l:ys[i]?=some v:=by have:=dP (·[0]?) e;grind
    have ih:=Pz (d:=d) s t m n (by rw[<-uO,aN];rfl) (by rw[<-uO,e];rfl);have g:∀(j:Array _) (z:Value),j[i]?=some z->(part f.type j f.offset).run P w= .ok z w:=by
     simp_all[part,rH,Hx]
    simp[Op.eqFields,g _ _ ex,g _ _ l,Hw o q h1 c d];cases b
    all_goals simp_all
  grind
theorem V7(R:Rel au nt φ S env J n a w){op:BinOp}{ty:TypeId}(z:o.op= .binOp op ty x y yt)(i:op= .eql\/op= .neq){ks:aZ}(e:Fe P ty=some ks)
 {b c:aO}(I:bA x=some b)(ak:bA y=some c)
 {p v J'}(u:n key=false)(h:aM (.eqAgg (op== .neq) ks b c) env J key=some (p,v,J'))(al:p):Good P au nt env J' (ins n key) a v ((execOp a.eval o).run P w):=by
 simp only[aM,bk]at h;obtain⟨⟨D,F⟩,f,⟨E,G⟩,g,he⟩:=h;simp at he;split at he
 . simp only[bx]at he;obtain⟨r,A,rfl,rfl,rfl⟩:=he;obtain⟨us,B,m⟩:=(cn R I f al.1).1.kS;obtain⟨vs,C,q⟩:=(cn R ak g al.2).1.kS;unfold Fe at e;split at e
   . rename_i fs t;have k:(eqGuard op ty x y (a.eval x) (a.eval y)).run P w= .ok () w:=(by simp_all[eqGuard]);have s:P.fieldsOf ty=fs:=(by grind[Program.fieldsOf]);have j:(Op.equal ty (.agg us.toArray) (.agg vs.toArray)).run P w= .ok r w:=by
      obtain⟨d,aj⟩:∃d,Op.maxDepth=d+2:=⟨9998,rfl⟩
      grind[Op.equal,run_equalIn_struct,Pz]
     have l:(binOp op ty (a.eval x) (a.eval y)).run P w= .ok (.bool (if(op== .neq)then !r else r)) w:=by
      rcases i with rfl|rfl
      . simp_all[binOp]
      simp_all[binOp]
     refine Good.pure R ?_ (.nO _) rfl;simp_all[execOp]
   grind
 grind
theorem pJ{b:Nat}(h:w'.heap[b]?=w.heap[b]?)(j:Nat):w'.cell? ⟨b,j,none⟩=w.cell? ⟨b,j,none⟩:=by
 grind[World.cell?]
theorem mQ{b:Nat}{o:Obj}(h:w.heap[b]?=some o):b<w.heap.size:=(x3.1 h).1
theorem cU.iA{b:Nat}{x:bT}(h:cU φ w S b x)(h0:(φ b).2≠0):(φ b).1<w.heap.size:=by
 cases x with
 |box cs=>obtain⟨_,_,_,aa,_⟩:=h;grind
 |arr sz es=>obtain⟨_,_,_,_,bh⟩:=h;grind
 |set ks=>obtain⟨_,⟨_,_,aa,_⟩,_⟩:=h;grind
 |buf E s=>obtain⟨_,_,bh⟩:=h;grind
 |b1 E c=>obtain⟨_,⟨_,_,aa,_⟩,_⟩:=h;grind
 |cx sz es i o c=>obtain⟨_,⟨_,_,aa,_⟩,_⟩:=h;grind
theorem cU.nw{b:Nat}{x:bT}(h:cU φ w S b x)(h0:(φ b).2≠0):∀j,¬S (φ b).1 j:=by
 cases x with
 |box cs=>obtain⟨_,_,_,_,_,hs⟩:=h;grind
 |arr sz es=>obtain⟨_,_,_,_,bh⟩:=h;grind
 |set ks=>exact h.2.2
 |buf E s=>exact(h.2.2 h0).2
 |b1 E c=>exact h.2.2
 |cx sz es i o c=>exact h.2.2
theorem cU.mono{b:Nat}{x:bT}(m:fP w S w' S)(p:∀b,n b=true->bg b=φ b)(q:n b=true)(I:x.aA n=true)(aa:(φ b).2≠0->w'.heap[(φ b).1]?=w.heap[(φ b).1]?)
 (h:cU φ w S b x):cU bg w' S b x:=by
 cases x with
 |box cs=>
  obtain⟨h0,vs,E,h1,a,f⟩:=h;simp only[cU,p b q];refine⟨h0,vs,E,(aa h0).trans h1,a.imp λc v B g=>bq.mono m p (by grind[bT.aA]) g,f⟩
 |arr sz es=>
  obtain⟨h1,a,f,y,bh⟩:=h;simp only[cU,p b q];refine⟨h1,a,f,y,λh0=>?_⟩;obtain⟨vs,E,bn,bt,bY,cw⟩:=bh h0;exact⟨vs,E,(aa h0).trans bn,bt,λi j e t he ht=>let⟨v,A,g⟩:=bY i j e t he ht;⟨v,A,bP.mono m g⟩,cw⟩
 |set ks=>
  grind[cU]
 |buf E s=>
  grind[cU]
 |b1 E c=>
  grind[cU,bq.mono,bT.aA]
 |cx sz es i o c=>
  grind[cU,bP.mono,bq.mono,bT.aA]
theorem Rel.world(R:Rel au nt φ S env J n a w)(W:Nat->Prop)(p:w'.os=w.os)(ht:w'.tape=w.tape)(o:w'.output=w.output)(hs:w.heap.size<=w'.heap.size)
 (c:∀b:Nat,b<w.heap.size->¬W b->w'.heap[b]?=w.heap[b]?)
 (fc:∀b,W b->(∀j,¬S b j)/\(∀k y,aP J k=some y->(φ k).2≠0->(φ k).1≠b)/\(au.B b\/au.ka.heap.size<=b)):Rel au nt φ S env J n a w':=by
 have m:fP w S w' S:=⟨λ_ _ h=>h,λb j h=>pJ (c b (R.bD.st b j h) (λe=>(fc b e).1 j h)) j⟩
 refine⟨⟨λb x I=>?_,R.bD.inj,λb j h=>ix (R.bD.st b j h) hs⟩,λk g v ag ao=>?_,R.gp,R.fI,R.dz,R.size,R.defers,?_,R.own,R.fix,R.fT⟩
 . have f:=R.bD.blk b x I;exact cU.mono m (λ_ _=>rfl) (R.dz b x I).1 (R.dz b x I).2 (λh0=>c _ (f.iA h0) (λe=>(fc _ e).2.1 b x I h0 rfl)) f
 . obtain⟨x,I,q⟩:=R.fJ k g v ag ao;exact⟨x,I,b2.mono m (λ_ _=>rfl) (R.fI k g v ag ao) q⟩
 . refine⟨p.trans R.ext.os,ht.trans R.ext.tape,o.trans R.ext.output,hK R.ext.size hs,λb aF c7=>?_,R.ext.mono.trans m,R.ext.j9⟩;rw[c b (ix aF R.ext.size) _]
   . exact R.ext.block b aF c7
   grind
theorem Rel.congr(R:Rel au nt φ S env J n a w)(h:∀b,aP J' b=aP J b):Rel au nt φ S env J' n a w:=
 ⟨⟨λb x I=>R.bD.blk b x (h b▸I),λb c x y I ak=>R.bD.inj b c x y (h b▸I) (h c▸ak),R.bD.st⟩,R.fJ,R.gp,R.fI,λb x I=>R.dz b x (h b▸I),R.size,R.defers,R.ext,λb x I=>R.own b x (h b▸I),R.fix,R.fT⟩
theorem Rel.sub(R:Rel au nt φ S env J n a w)(h:∀b x,aP J' b=some x->aP J b=some x):Rel au nt φ S env J' n a w:=
 ⟨⟨λb x I=>R.bD.blk b x (h b x I),λb c x y I ak=>R.bD.inj b c x y (h b x I) (h c y ak),R.bD.st⟩,R.fJ,R.gp,R.fI,λb x I=>R.dz b x (h b x I),R.size,R.defers,R.ext,λb x I=>R.own b x (h b x I),R.fix,R.fT⟩
theorem Rel.del(R:Rel au nt φ S env J n a w)(b:Nat):Rel au nt φ S env (fB J b) n a w:=
 R.sub λk x I=>by grind[eK]
theorem Rel.sw(R:Rel au nt φ S env J n a w)(c:∀b,n b=true->bg b=φ b):Rel au nt bg S env J n a w:=by
 refine⟨⟨λb x I=>?_,λb e x y I ak=>?_,R.bD.st⟩,λk g v ag ao=>?_,R.gp,R.fI,R.dz,R.size,R.defers,R.ext,λb x I h0=>?_,λb f=>(c b (R.fT b f)).trans (R.fix b f),R.fT⟩
 . exact cU.mono (fP.refl w S) c (R.dz b x I).1 (R.dz b x I).2 (λ_=>rfl) (R.bD.blk b x I)
 . rw[c b (R.dz b x I).1,c e (R.dz e y ak).1];exact R.bD.inj b e x y I ak
 . obtain⟨x,I,j⟩:=R.fJ k g v ag ao;exact⟨x,I,b2.mono (fP.refl w S) c (R.fI k g v ag ao) j⟩
 . rw[c b (R.dz b x I).1]at h0⊢;exact R.own b x I h0
theorem Rel.put (R:Rel au nt φ S env J n a w){b:Nat}{x:bT}(p:n b=true)(I:x.aA n=true)(o:cU φ w S b x)
 (q:(φ b).2≠0->(∀k y,aP J k=some y->k≠b->(φ k).2≠0->(φ k).1≠(φ b).1)/\(au.B (φ b).1\/au.ka.heap.size<=(φ b).1)):Rel au nt φ S env (cZ J b x) n a w:=by
 refine⟨⟨λk y ak=>?_,λk g y j ak c f h0 e=>?_,R.bD.st⟩,R.fJ,R.gp,R.fI,λk y ak=>?_,R.size,R.defers,R.ext,λk y ak h0=>?_,R.fix,R.fT⟩
 . rw[cQ]at ak;split at ak
   . grind
   . exact R.bD.blk k y ak
 . rw[cQ]at ak c;split at ak
   . grind
   . split at c
     . grind
     . exact R.bD.inj k g y j ak c f h0 e
 . rw[cQ]at ak;split at ak
   . grind
   . exact R.dz k y ak
 . rw[cQ]at ak;split at ak
   . grind
   . exact R.own k y ak h0
def et(φ:c0)(n:Nat)(q:Nat×Nat):c0:=λb=>if b=n then q else φ b
theorem r7{b:Nat}(a:n key=false)(h:n b=true):et φ key q b=φ b:=by grind[et]
theorem dq{k:Nat}:et φ k q k=q:=by simp[et]
theorem Rel.iP (R:Rel au nt φ S env J n a w)(c:n key=false){x:bT}(q:Nat×Nat)(I:x.aA n=true)(e:cU (et φ key q) w S key x)
 (f:q.2≠0->(∀k y,aP J k=some y->(φ k).2≠0->(φ k).1≠q.1)/\(au.B q.1\/au.ka.heap.size<=q.1)):Rel au nt (et φ key q) S env (cZ J key x) (ins n key) a w:=by
 refine((R.sw (λb h=>r7 c h)).more (λ_ h=>j0 h)).put ZS (bT.gO (λ_ h=>j0 h) I) e ?_;rw[dq];intro h0;refine⟨λk y ak g h=>?_,(f h0).2⟩;rw[r7 c (R.dz k y ak).1]at h⊢;grind
theorem q7{o:Obj}{b:Nat}(h:b<w.heap.size):(w.alloc o).heap[b]?=w.heap[b]?:=by
 show(w.heap.push o)[b]?=_;grind
theorem heap_alloc_new{o:Obj}:(w.alloc o).heap[w.heap.size]?=some o:=by
 show(w.heap.push o)[w.heap.size]?=_;simp
theorem Rel.alloc(R:Rel au nt φ S env J n a w)(o:Obj):Rel au nt φ S env J n a (w.alloc o):=
 R.world (λ_=>False) rfl rfl rfl (by simp) (λb c _=>q7 c) (λ_ h=>h.elim)
theorem Rel.uL(R:Rel au nt φ S env J n a w)(o:Obj):fP w S (w.alloc o) S:=
 ⟨λ_ _ h=>h,λb j h=>pJ (q7 (R.bD.st b j h)) j⟩
theorem Rel.ON(R:Rel au nt φ S env J n a w)(e:n key=false)(f:a6 (bq φ w S) cs vs)(g:cs.all (C.aA n)=true)(E:TypeId):
 Rel au nt (et φ key (w.heap.size,1)) S env (cZ J key (.box cs)) (ins n key) a (w.alloc (.cells vs.toArray E)):=by
 have m:=R.uL (.cells vs.toArray E);refine(R.alloc _).iP e _ g ?_ ?_
 . simp only[cU,dq];refine⟨by simp,vs,E,heap_alloc_new,f.imp λc v p o=>bq.mono m (λb h=>r7 e h) (by grind) o,λj h=>?_⟩;have:=R.bD.st _ _ h;grind
 . intro _;refine⟨λk y ak h0=>?_,.inr R.ext.size⟩;have:=(R.bD.blk k y ak).iA h0;grind
theorem rF{ty:TypeId}(h:jr P ty=some cs):∃i z,P.info? ty=some i/\i.zero=some z/\a6 (bq φ w S) cs z.cells.toList/\cs.all (C.aA n)=true:=by
 grind[jr,bk,Fw]
theorem Qp(R:Rel au nt φ S env J n a w){ty:TypeId}(j:o.op= .alloc ty)(b:jr P ty=some cs)
 {p v J'}(f:n key=false)(h:aM (.alloc cs) env J key=some (p,v,J'))(al:p):Good P au nt env J' (ins n key) a v ((execOp a.eval o).run P w):=by
 obtain⟨rfl,rfl,rfl⟩:=h;obtain⟨i,z,g,b,d,e⟩:=rF b;have R':=R.ON f d e ty;refine⟨.pointer (some ⟨w.heap.size,0,none⟩),_,S,_,.inl ?_,.c ?_,by simp[V.aA,C.aA,ins],R'⟩
 . simp_all[execOp,Instr.alloc,zeroValue,typeInfo,newVar,newRow]
 grind[bq,dq]
theorem Y8(R:Rel au nt φ S env J n a w){ty:TypeId}(j:o.op= .box ty x){b:aO}(I:bA x=some b)
 {p v J'}(i:n key=false)(h:aM (.box b) env J key=some (p,v,J'))(al:p):Good P au nt env J' (ins n key) a v ((execOp a.eval o).run P w):=by
 simp only[aM,bk,bx]at h;obtain⟨⟨k,l⟩,g,cs,f,rfl,rfl,rfl⟩:=h;have ao:=cn R I g al;obtain⟨d,e⟩:=mP ao.1 f ao.2;have R':=R.ON i d e ty;refine⟨.pointer (some ⟨w.heap.size,0,none⟩),_,S,_,.inl ?_,.c ?_,by simp[V.aA,C.aA,ins],R'⟩
 . simp[execOp,j,Instr.box,newVar,newRow]
 grind[bq,dq]
def iu{α:Type}(vs:List α)(off:Nat)(xs:List α):List α:=vs.take off++xs++vs.drop (off+xs.length)
theorem mS{vs:List α}{xs:List α}(h:off+xs.length<=vs.length)(k:Nat):
 (iu vs off xs)[k]?=if k<off then vs[k]? else if k<off+xs.length then xs[k-off]? else vs[k]?:=by
 unfold iu;by_cases h1:k<off
 . grind
 grind
theorem n5{vs:List α}{xs:List α}(h:off+xs.length<=vs.length):(iu vs off xs).length=vs.length:=by
 grind[iu]
theorem Rm{vs:List α}{x:α}{xs:List α}(h:off+(x::xs).length<=vs.length):iu (vs.set off x) (off+1) xs=iu vs off (x::xs):=by
 apply uY;grind[mS]
theorem Qz{b:Nat}(h:w.heap[b]?=some (.cells vs.toArray E (0,0)))(off:Nat)(v:Value):
 (w.setCell ⟨b,off,none⟩ v).heap[b]?=some (.cells (vs.set off v).toArray E (0,0))/\∀a,a≠b->(w.setCell ⟨b,off,none⟩ v).heap[a]?=w.heap[a]?:=by
 simp_all[World.setCell,Dv,du]
theorem lK{b:Nat}{E:TypeId}:∀(xs:List Value) (off i:Nat) (vs:List Value) (w:World),w.heap[b]?=some (.cells vs.toArray E (0,0))->off+i+xs.length<=vs.length->(∀x,x∈xs->x.oneCell'=true)->
 ∃w',(storeCells ⟨b,off,none⟩ xs i).run P w= .ok () w'/\w'.os=w.os/\w'.tape=w.tape/\w'.output=w.output/\w'.heap.size=w.heap.size/\
  w'.heap[b]?=some (.cells (iu vs (off+i) xs).toArray E (0,0))/\∀a:Nat,a≠b->w'.heap[a]?=w.heap[a]?
 |[],off,i,vs,w,h,ag,d=>⟨w,rfl,rfl,rfl,rfl,rfl,by simp[iu,h],λ_ _=>rfl⟩
 |x::xs,off,i,vs,w,h,ag,d=>by
  have l:Addr.add ⟨b,off,none⟩ i=⟨b,off+i,none⟩:=by grind[Addr.add]
  have aF:off+i<vs.length:=by grind
  have m:w.cell? ⟨b,off+i,none⟩=some vs[off+i]:=by rw[ic h];simp
  have n:w.frozen? ⟨b,off+i,none⟩=false:=by grind[World.frozen?]
  have hs:=Qz h (off+i) x;obtain⟨w',h1,e,f,g,bh,k,j⟩:=lK xs off (i+1) _ _ hs.1 (by grind) (λy ak=>d y (by grind));refine⟨w',?_,e,f,g,by simp_all,?_,λa c=>(j a c).trans (hs.2 a c)⟩
  . simp_all[storeCells,run_store]
  grind[Rm]
theorem a6.fill{c:Type}{R:α->c->Prop}{cs a:List α}{vs xs:List c}(h:a6 R cs vs)(k:a6 R a xs)(o:Nat):a6 R (cs.take o++a++cs.drop (o+a.length)) (iu vs o xs):=by
 rw[k.length];exact((h.take o).append k).append (h.drop _)
theorem F'(h:a6 (bq φ w S) cs xs):∀x,x∈xs->x.oneCell'=true:=by
 induction h with
 |nil=>simp
 |cons h _ ih=>
  intro x I;rcases fg.1 I with rfl|I
  . exact bq.iz h
  grind
theorem b2.undef:b2 φ w S (.ba []) undef:= .ba [] [] rfl (by simp)
theorem pU:∀{cs:List C} {ts:List T} {xs:List Value},toTs cs=some ts->a6 (bq φ w S) cs xs->a6 (bP w S) ts xs
 |[],ts,xs,h,b=>by simp[toTs]at h;subst h;cases b;exact .nil
 |c::cs,ts,xs,h,b=>by
  simp[toTs,bk,bx]at h;obtain⟨t,ht,f,e,rfl⟩:=h;cases b with
  |cons h1 d=>
   refine .cons ?_ (pU e d);unfold toT at ht;split at ht<;>simp at ht
   . subst ht;exact h1
   . subst ht;obtain⟨a,rfl⟩:=h1;exact bP.slice [] a 0 0 0 0 (λ_ _=>undef) (by simp) (by simp) (by simp) (by simp) (by simp) (by simp)
theorem uC:∀{cs:List C} {ts:List T},toTs cs=some ts->ts.length=cs.length
 |[],ts,h=>by grind[toTs]
 |c::cs,ts,h=>by
  simp[toTs,bk,bx]at h;obtain⟨t,ht,b,a,rfl⟩:=h;simp[uC a]
theorem FO{n:Nat->Bool}{cs a:List C}(h:cs.all (C.aA n)=true)(k:a.all (C.aA n)=true)(o:Nat):(td cs o a).all (C.aA n)=true:=by
 grind[td]
theorem tZ{vs:List α}{p:Nat}{x:α}(h:p<vs.length)(q:Nat):(iu vs (p+0) [x])[q]?=if q=p then some x else vs[q]?:=by
 grind[mS]
theorem xB{sz i j a b:Nat}(d:j<sz)(e:b<sz)(h:i*sz+j=a*sz+b):i=a/\j=b:=by
 rcases Nat.lt_trichotomy i a with c|c|c
 . have:=eY sz (show i+1<=a from c);grind
 . grind
 . have:=eY sz (show a+1<=i from c);grind
theorem Rel.rewrite(R:Rel au nt φ S env J n a w){b:Nat}{x p:bT}(f:aP J b=some x)(h0:(φ b).2≠0)(F:p.aA n=true)
 (E:w'.os=w.os)(ht:w'.tape=w.tape)(D:w'.output=w.output)(hs:w'.heap.size=w.heap.size)(q:∀g:Nat,g≠(φ b).1->w'.heap[g]?=w.heap[g]?)
 (B:fP w S w' S->cU φ w' S b p):Rel au nt φ S env (cZ J b p) n a w':=by
 have t:=R.bD.blk b x f
 have v:=(R.del b).world _ E ht D (sn hs.symm) (λk _ c=>q k c) (λk c=>by
  subst c;refine⟨t.nw h0,λk y ak c=>?_,R.own b x f h0⟩;rw[eK]at ak;split at ak
  . grind
  . rename_i o
    exactλe=>R.bD.inj k b y x ak f (du o) c h0 e)
 have m:fP w S w' S:=⟨λ_ _ h=>h,λk j h=>pJ (q k (λe=>t.nw h0 j (e▸h))) j⟩
 have A:=v.put (R.dz b x f).1 F (B m) (λ_=>⟨λk y ak o c=>by
  rw[eK]at ak;split at ak
  . grind
  . exact R.bD.inj k b y x ak f o c h0,R.own b x f h0⟩)
 refine A.congr λk=>?_;grind[cQ,eK]
theorem Xj(R:Rel au nt φ S env J n a w){ty:TypeId}(bg:o.op= .store ty x y){k:Nat}(bf:ea P ty=some k){ay az:aO}(I:bA x=some ay)(ak:bA y=some az)
 {p v J'}(be:n key=false)(h:aM (.store k ay az) env J key=some (p,v,J'))(al:p):Good P au nt env J' (ins n key) a v ((execOp a.eval o).run P w):=by
 simp only [aM,bk,er] at h;obtain ⟨⟨bp,bs⟩,V,⟨br,bu⟩,W,cs,L,Y,he⟩:= h;simp only at he L;have Z:∀ (blk off:Nat) (xs:List Value) (w':World),a.eval x = .pointer (some ⟨blk,off,none⟩)->(a.eval y).cells.toList = xs->xs.length = k->(storeCells ⟨blk,off,none⟩ xs 0).run P w = .ok () w'->
  (execOp a.eval o).run P w= .ok .skip w':=by
  intro blk off xs w' h1 aD bc bd;have bh:(a.eval y).cells.size=k:=by grind
  simp_all[execOp,Instr.storeAt,Instr.sureAddr,storeVar,iI]
 split at he
 . rename_i b f;split at he
   . rename_i bb l;simp only[er,dK,dW]at he;obtain⟨af,rfl,rfl,rfl⟩:=he;have h1:=(cn R I V al.1).1.gF;have q:=cn R ak W al.2;obtain⟨g,z⟩:=mP q.1 L q.2;obtain⟨h0,vs,E,aa,aF,Q⟩:=R.bD.blk _ _ l;have bl:=aF.length;have A:(a.eval y).cells.toList.length=k:=by rw[<-g.length,Y]
     obtain⟨w',d,bn,bt,bY,cw,cW,dm⟩:=lK (P:=P) _ f 0 vs w aa (by omega) (F' g);refine⟨undef,φ,S,w',.inr ⟨Z _ _ _ w' h1 rfl A d,rfl⟩,.undef,rfl,Rel.more ?_ λ_ h=>j0 h⟩;refine R.rewrite l h0 (by simpa[bT.aA]using FO ((R.dz _ _ l).2) z f) bn bt bY cw dm (λm=>?_);refine⟨h0,_,E,cW,?_,Q⟩;exact(aF.imp λc v ao d=>bq.mono m (λ_ _=>rfl) (fk.1 (R.dz _ _ l).2 c ao) d).fill (g.imp λc v ao d=>bq.mono m (λ_ _=>rfl) (fk.1 z c ao) d) f
   . rename_i E aC l;split at he
     . rename_i c;simp only[dK,dW]at he;obtain⟨rfl,rfl,rfl⟩:=he;have h1:=(cn R I V al.1).1.gF;have q:=cn R ak W al.2;obtain⟨g,z⟩:=mP q.1 L q.2;obtain⟨h0,⟨aK,ba,aa,aX,bi⟩,Q⟩:=R.bD.blk _ _ l;have A:(a.eval y).cells.toList.length=k:=by rw[<-g.length,Y]
       have X:k=1:=by rw[<-Y];rfl
       obtain⟨s,K⟩:∃s,(a.eval y).cells.toList=[s]:=by
        match h:(a.eval y).cells.toList with
        |[s]=>exact⟨s,rfl⟩
        |[]=>rw[h]at A;simp at A;omega
        |_::_::_=>rw[h]at A;simp at A;omega
       obtain⟨w',d,bn,bt,bY,cw,cW,dm⟩:=lK (P:=P) (a.eval y).cells.toList 1 0 [aK,ba] w (b:=(φ b).1) (E:=E) aa (by rw[K];simp) (F' g);rw[K]at g cW;cases g with|cons ap _=>
       have D:c.aA n=true:=(by simpa using z);refine⟨undef,φ,S,w',.inr ⟨Z _ _ _ w' h1 rfl A d,rfl⟩,.undef,rfl,Rel.more ?_ λ_ h=>j0 h⟩;refine R.rewrite l h0 (by simpa[bT.aA]using D) bn bt bY cw dm (λm=>?_);exact⟨h0,⟨aK,s,cW,aX,bq.mono m (λ_ _=>rfl) D ap⟩,Q⟩
     . cases he
   grind
 . rename_i b sz i f;have ax:∀{c:C} {xs:List Value},a6 (bq φ w S) [c] xs->∃x,xs=[x]/\bq φ w S c x:=by
    intro c xs h;cases h with|cons h1 aD=>cases aD;grind
   split at he
   . rename_i a8 es l;split at he
     . rename_i c aW;have ap:cs=[c]:=by
        unfold yj at aW;grind
       subst ap;obtain⟨rfl,rfl,rfl⟩:=he;obtain⟨T,U,rfl,F,aI⟩:=al;have h1:=(cn R I V T).1.ir;have q:=cn R ak W U;obtain⟨g,z⟩:=mP q.1 L q.2;have X:k=1:=by rw[<-Y];rfl
       obtain⟨s,K,H⟩:=ax g;have ab:=R.bD.blk _ _ l;obtain⟨h0,vs,E,xs,aa,ag,aS,A,an,aq,af⟩:=Gy ab F;obtain⟨g1,g2,g3,g4,am⟩:=ab;obtain⟨a',aL,ad,aV,aw,Q⟩:=am h0;rw[aa]at ad;cases ad;rw[h3]at af;have G:i*sz+f<vs.length:=(by omega);obtain⟨w',d,bn,bt,bY,cw,cW,dm⟩:=lK (P:=P) [s] (i*sz+f) 0 vs w aa (by simp;omega) (λx I=>by rw[kH.1 I];exact bq.iz H);refine⟨undef,φ,S,w',.inr ⟨Z _ _ _ w' h1 K (by simp[X]) d,rfl⟩,.undef,rfl,Rel.more ?_ λ_ h=>j0 h⟩;have D:c.aA n=true:=(by simpa using z);refine R.rewrite l h0 (by simpa[bT.aA]using D) bn bt bY cw dm (λm=>?_);refine⟨⟨g1,g2,g3,g4,F,by omega⟩,⟨_,E,cW,by rw[n5 (by simp;omega)];exact ag,λB j e t he ht O=>?_,s,?_,bq.mono m (λ_ _=>rfl) D H⟩,Q⟩
       . obtain⟨v,r,d⟩:=aw _ _ _ _ he ht;have u:j<sz:=by rw[<-g3 _ (eV he)];exact(dL.1 ht).1
         rw[tZ G,av (λe=>O (xB u (by omega) e))];exact⟨v,r,bP.mono m d⟩
       . rw[tZ G,ai rfl]
     simp only[bk,dK,dW]at he;obtain⟨ts,aJ,rfl,rfl,rfl⟩:=he;obtain⟨T,U,rfl,F,aI⟩:=al;have h1:=(cn R I V T).1.ir;have q:=cn R ak W U;obtain⟨g,z⟩:=mP q.1 L q.2;have aZ:=pU aJ g;have bj:=uC aJ;have ab:=R.bD.blk _ _ l;obtain⟨h0,vs,E,xs,aa,ag,aS,A,an,aq,af⟩:=Gy ab F;obtain⟨g1,g2,g3,g4,am⟩:=ab;obtain⟨a',aL,ad,aV,aw,Q⟩:=am h0;rw[aa]at ad;cases ad;rw[h3]at af;have a7:(a.eval y).cells.toList.length=k:=by rw[<-g.length,Y]
     obtain⟨w',d,bn,bt,bY,cw,cW,dm⟩:=lK (P:=P) _ (i*sz+f) 0 vs w aa (by omega) (F' g);have aY:=d;refine⟨undef,φ,S,w',.inr ⟨Z _ _ _ w' h1 rfl a7 aY,rfl⟩,.undef,rfl,Rel.more ?_ λ_ h=>j0 h⟩;refine R.rewrite l h0 rfl bn bt bY cw dm (λm=>?_);refine⟨by simpa using g1,by simpa using g2,?_,g4,λ_=>⟨_,E,cW,by rw[n5 (by omega)];exact ag,?_,Q⟩⟩
     . intro e he;rcases z7 he with he|rfl
       . exact g3 e he
       . simp;omega
     . intro B j e t he ht;rw[sk,mS (by omega)];rw[uZ]at he;by_cases N:i=B
       . subst N;rw[ai rfl,ai F]at he;cases he;have aU:=(dL.1 ht).1;simp at aU;have u:j<sz:=(by omega);have M:=(mS (vs:=el es i) (off:=f) (xs:=ts) (by omega) j)
         unfold iu at M;rw[show f+ts.length=f+k by omega]at M;rw[M]at ht;by_cases c1:j<f
         . rw[ai c1]at ht;rw[fS,aq j u];obtain⟨v,r,d⟩:=an.get ht;exact⟨v,r,bP.mono m d⟩
         . rw[av c1]at ht;rw[cV];by_cases c2:j<f+k
           . rw[fS]at ht;rw[fS,show i*sz+j-(i*sz+f)=j-f by omega];obtain⟨v,r,d⟩:=aZ.get ht;exact⟨v,r,bP.mono m d⟩
           . rw[cV]at ht;rw[cV,aq j u];obtain⟨v,r,d⟩:=an.get ht;exact⟨v,r,bP.mono m d⟩
       . rw[av N]at he;obtain⟨v,r,d⟩:=aw _ _ _ _ he ht;have u:j<sz:=by rw[<-g3 _ (eV he)];exact(dL.1 ht).1
         have:B*sz+j<i*sz+f\/i*sz+f+k<=B*sz+j:=by
          rcases Nat.lt_or_gt_of_ne N with h|h
          . right;have:=eY sz (show i+1<=B from h);grind
          . left;have:=eY sz (show B+1<=i from h);grind
         rcases this with h|h
         . rw[ai h];exact⟨v,r,bP.mono m d⟩
         . rw[cV,cV];exact⟨v,r,bP.mono m d⟩
   . rename_i a8 es bm bo aC l;obtain⟨⟨a1,a2,a3,a4,a5,ae⟩,⟨vs,E,aA,ah,aj,aQ,aN,aP⟩,aB⟩:=R.bD.blk _ _ l;have aE:aC.aA n=true:=(by simpa[bT.aA]using(R.dz _ _ l).2);have h0:(φ b).2≠0:=(by omega);split at he
     . rename_i c;have X:k=1:=by rw[<-Y];rfl
       split at he
       . rename_i ar;subst ar;obtain⟨rfl,rfl,rfl⟩:=he;obtain⟨T,U,rfl,rfl⟩:=al;have h1:=(cn R I V T).1.ir;have q:=cn R ak W U;obtain⟨g,z⟩:=mP q.1 L q.2;obtain⟨s,K,H⟩:=ax g;have G:i*sz+f<vs.length:=by
          rw[ah];have:=eY sz (show i+1<=(φ b).2 by omega);rw[h3]at this;omega
         obtain⟨w',d,bn,bt,bY,cw,cW,dm⟩:=lK (P:=P) [s] (i*sz+f) 0 vs w aA (by simp;omega) (λx I=>by rw[kH.1 I];exact bq.iz H);refine⟨undef,φ,S,w',.inr ⟨Z _ _ _ w' h1 K (by simp[X]) d,rfl⟩,.undef,rfl,Rel.more ?_ λ_ h=>j0 h⟩;have D:c.aA n=true:=(by simpa using z);refine R.rewrite l h0 (by simpa[bT.aA]using D) bn bt bY cw dm (λm=>?_);refine⟨⟨a1,a2,a3,a4,a5,ae⟩,⟨_,E,cW,by rw[n5 (by simp;omega)];exact ah,λB j e t he ht O=>?_,s,?_,bq.mono m (λ_ _=>rfl) D H⟩,aB⟩
         . obtain⟨v,r,d⟩:=aj _ _ _ _ he ht O;have u:j<sz:=by rw[<-a3 _ (eV he)];exact(dL.1 ht).1
           rw[tZ G,av (λe=>O (xB u ae e))];exact⟨v,r,bP.mono m d⟩
         . rw[tZ G,ai rfl]
       . rename_i ar;simp only[bk,dK,dW]at he;obtain⟨t,aR,rfl,rfl,rfl⟩:=he;obtain⟨T,U,rfl,F,aI⟩:=al;have h1:=(cn R I V T).1.ir;have q:=cn R ak W U;obtain⟨g,z⟩:=mP q.1 L q.2;obtain⟨s,K,H⟩:=ax g;have a0:bP w S t s:=by
          have h1:=pU (cs:=[c]) (ts:=[t]) (xs:=[s]) (by simp[toTs,aR]) (.cons H .nil);cases h1 with|cons h _=>grind
         have G:i*sz+f<vs.length:=by
          have:=eY sz (show i+1<=(φ b).2 by omega);rw[h3]at this;omega
         obtain⟨w',d,bn,bt,bY,cw,cW,dm⟩:=lK (P:=P) [s] (i*sz+f) 0 vs w aA (by simp;omega) (λx I=>by rw[kH.1 I];exact bq.iz H);refine⟨undef,φ,S,w',.inr ⟨Z _ _ _ w' h1 K (by simp[X]) d,rfl⟩,.undef,rfl,Rel.more ?_ λ_ h=>j0 h⟩;refine R.rewrite l h0 (by simpa[bT.aA]using aE) bn bt bY cw dm (λm=>?_);have aG:es[i]?=some (el es i):=by unfold el;rw[List.getD,df F];rfl
         have aT:(el es i).length=sz:=a3 _ (eV aG);refine⟨⟨by grind,by simpa using a2,λe he=>?_,a4,by simpa using a5,ae⟩,⟨_,E,cW,by rw[n5 (by simp;omega)];exact ah,λB j e a9 he ht O=>?_,aQ,?_,bq.mono m (λ_ _=>rfl) aE aP⟩,aB⟩
         . rcases z7 he with he|rfl
           . exact a3 e he
           . simp;omega
         . rw[tZ G];rw[uZ]at he;by_cases N:i=B
           . subst N;rw[ai rfl,ai F]at he;cases he;have M:=(mS (vs:=el es i) (off:=f) (xs:=[t]) (by simp;omega) j)
             unfold iu at M;rw[show f+[t].length=f+k by simp[X]]at M;rw[M]at ht;by_cases c1:j=f
             . subst c1;rw[cV,fS,Nat.sub_self]at ht;cases ht;rw[ai rfl];exact⟨s,rfl,bP.mono m a0⟩
             . have aH:(el es i)[j]?=some a9:=by
                by_cases c2:j<f
                . rwa [ai c2]at ht
                . rwa [av c2,cV]at ht
               have u:j<sz:=by rw[<-aT];exact(dL.1 aH).1
               obtain⟨v,r,d⟩:=aj _ _ _ _ aG aH O;rw[av (λe=>c1 (xB u (by omega) e).2)];exact⟨v,r,bP.mono m d⟩
           . rw[av N]at he;obtain⟨v,r,d⟩:=aj _ _ _ _ he ht O;have u:j<sz:=by rw[<-a3 _ (eV he)];exact(dL.1 ht).1
             rw[av (λe=>N (xB u (by omega) e).1.symm)];exact⟨v,r,bP.mono m d⟩
         . rw[tZ G,av (λe=>ar (xB ae (by omega) e).2.symm)];exact aN
     . cases he
   . cases he
 . cases he
theorem Rn:∀(xs:List Value) (k off:Nat) (cs:Array Value),off+k+xs.length<=cs.size->
 (((xs.zipIdx k).foldl (λcs (c,j)=>cs.setIfInBounds (off+j) c) cs):Array Value).toList=iu cs.toList (off+k) xs
 |[],k,off,cs,h=>by simp[iu]
 |x::xs,k,off,cs,h=>by
  rw[List.zipIdx_cons,kK,Rn xs _ _ _ (by grind)];grind[Rm]
theorem Gf{a:Array Value}{i:Nat}{r:List (Nat×Value)}{sz:Nat}(al:place i=some (off,sz))(h1:v.cells.size=sz)(b:off+sz<=a.size):
 Instr.fill place a ((i,v)::r)=Instr.fill place (iu a.toList off v.cells.toList).toArray r:=by
 simp only[Instr.fill,al];rw[av (by grind)]
 congr 1
 have:=Rn v.cells.toList 0 off a (by grind);rw[<-Array.foldl_toList];grind
theorem QA {fs:Array Field}{place:Nat->Option (Nat×Nat)}(R:Rel au nt φ S env J n a w)
 (m:∀(j:Nat) f k,fs[j]?=some f->ea P f.type=some k->place j=some (f.offset,k)):
 ∀{parts:List (Nat×Operand)} {ps:List (Nat×Nat×aO)} {cs:List C} {vs:List Value} {p:Prop} {b:List C},uE P fs parts=some ps->kv env cs ps=some (p,b)->p->
  a6 (bq φ w S) cs vs->cs.all (C.aA n)=true->
  ∃us:List Value,Instr.fill place vs.toArray (parts.map λ(i,x)=>(i,a.eval x))=some us.toArray/\a6 (bq φ w S) b us/\b.all (C.aA n)=true
 |[],ps,cs,vs,p,b,e,d,al,c,g=>by
  grind[uE,kv,Instr.fill]
 |(j,x)::r,ps,cs,vs,p,b,e,d,al,c,g=>by
  simp[uE,bk,bx]at e;obtain⟨f,u,k,y,B,I,K,z,rfl⟩:=e;simp only[kv,bk,er,bx]at d;obtain⟨⟨q,v⟩,ao,es,t,⟨h1,E⟩,⟨L,D⟩,s,rfl,rfl⟩:=d;have l:=cn R I ao al.1;obtain⟨o,A⟩:=mP l.1 t l.2;have ag:=c.length;have H:=o.length;obtain⟨us,F,G,bh⟩:=QA R m z s al.2 (by exact c.fill o _) (FO g A _);simp;rw[Gf (m j f k u y) (by grind) (by grind)];grind
theorem QR{place:Nat->Option (Nat×Nat)}{m:Nat}(R:Rel au nt φ S env J n a w)(k:∀j,place j=some (j*m,m)):
 ∀{parts:List (Nat×Operand)} {ps:List (Nat×Nat×aO)} {cs:List C} {vs:List Value} {p:Prop} {b:List C},tY m parts=some ps->kv env cs ps=some (p,b)->p->
  a6 (bq φ w S) cs vs->cs.all (C.aA n)=true->
  ∃us:List Value,Instr.fill place vs.toArray (parts.map λ(i,x)=>(i,a.eval x))=some us.toArray/\a6 (bq φ w S) b us/\b.all (C.aA n)=true
 |[],ps,cs,vs,p,b,e,d,al,c,f=>by
  grind[tY,kv,Instr.fill]
 |(j,x)::r,ps,cs,vs,p,b,e,d,al,c,f=>by
  simp[tY,bk,bx]at e;obtain⟨y,I,F,t,rfl⟩:=e;simp only[kv,bk,er,bx]at d;obtain⟨⟨q,v⟩,ao,es,s,⟨h1,A⟩,⟨G,z⟩,o,rfl,rfl⟩:=d;have g:=cn R I ao al.1;obtain⟨l,u⟩:=mP g.1 s g.2;have ag:=c.length;have E:=l.length;obtain⟨us,B,D,bh⟩:=QR R k t o al.2 (by exact c.fill l _) (FO f u _);simp;rw[Gf (k j) (by grind) (by grind)];grind
theorem Xb{fs:List Field}(h:∀f,f∈fs->∃k,ea P f.type=some k):
 ∃ps:List (Nat×Nat),(fs.mapM λf=>do pure (f.offset,<-sizeOf f.type):Sem (List (Nat×Nat))).run P w= .ok ps w/\ps.length=fs.length/\∀(j:Nat) f k,fs[j]?=some f->ea P f.type=some k->ps[j]?=some (f.offset,k):=by
 induction fs with
 |nil=>simp
 |cons f fs ih=>
  obtain⟨ps,h1,ag,a⟩:=ih λf b=>h f (by grind);obtain⟨k,c⟩:=h f (by simp);refine⟨(f.offset,k)::ps,?_,by grind,?_⟩
  . simp_all[iI]
  grind
theorem Xk(R:Rel au nt φ S env J n a w){ty:TypeId}{parts:Array (Nat×Operand)}(l:o.op= .build ty parts)(r:P.underlying ty=some (.struct fs))(y:FH P fs=true)
 {z:List C}(s:jr P ty=some z){ps:List (Nat×Nat×aO)}(m:uE P fs parts.toList=some ps)
 {p v J'}(g:n key=false)(h:aM (.build z ps) env J key=some (p,v,J'))(al:p):Good P au nt env J' (ins n key) a v ((execOp a.eval o).run P w):=by
 simp only[aM,bx]at h;obtain⟨⟨q,t⟩,d,rfl,rfl,rfl⟩:=h;obtain⟨i,H,A,G,c,e⟩:=rF s
 obtain⟨pl,B,E,F⟩:=Xb (P:=P) (w:=w) (fs:=fs.toList) (by
  grind[FH,Option.isSome_iff_exists])
 have D:(fs.mapM λf=>do pure (f.offset,<-sizeOf f.type):Sem _).run P w= .ok pl.toArray w:=by
  simp_all[Array.mapM_eq_mapM_toList]
 obtain⟨us,h1,b,u⟩:=QA (place:=(pl.toArray[·]?)) R (λj f k x g=>by grind) m d al c e;refine Good.pure R ?_ (.agg b) (by grind[V.aA]);simp only[execOp,l,Instr.build,zeroValue,typeInfo,Sem.run_bind,run_program,Result.andThen_ok,Sem.run_pure,underlying,r];simp_all
theorem VD(R:Rel au nt φ S env J n a w){ty:TypeId}{parts:Array (Nat×Operand)}(r:o.op= .build ty parts){len:Nat}(t:P.underlying ty=some (.array len e)){m:Nat}(l:ea P e=some m)
 {z:List C}(u:jr P ty=some z){ps:List (Nat×Nat×aO)}(s:tY m parts.toList=some ps)
 {p v J'}(E:n key=false)(h:aM (.build z ps) env J key=some (p,v,J'))(al:p):Good P au nt env J' (ins n key) a v ((execOp a.eval o).run P w):=by
 simp only[aM,bx]at h;obtain⟨⟨q,B⟩,f,rfl,rfl,rfl⟩:=h;obtain⟨i,A,k,y,d,g⟩:=rF u;obtain⟨us,h1,c,D⟩:=QR R (λj=>rfl) s f al d g;refine Good.pure R ?_ (.agg c) (by grind[V.aA]);have b:Instr.fill (λi=>some (i*m,m)) A.cells ((parts.map λ(i,x)=>(i,a.eval x)).toList)=some us.toArray:=by simp_all
 simp at b;simp[execOp,r,Instr.build,zeroValue,typeInfo,k,y,underlying,t,iI l,b]
def hR(w:World)(S:c6)(sz:Nat)(es:List (List T))(vs:List Value):Prop:=
 ∀(i j:Nat) e t,es[i]?=some e->e[j]?=some t->∃v,vs[i*sz+j]?=some v/\bP w S t v
theorem Fx{sz:Nat}(R:Rel au nt φ S env J n a w)(h0:0<sz):
 ∀{parts:List (Nat×Operand)} {ps:List (Nat×aO)} {es:List (List T)} {vs:List Value} {p:Prop} {c:List (List T)},oe parts=some ps->je env sz es ps=some (p,c)->p->
  (∀e,e∈es->e.length=sz)->vs.length=es.length*sz->hR w S sz es vs->
  ∃us:List Value,Instr.fill (λi=>some (i*sz,sz)) vs.toArray (parts.map λ(i,x)=>(i,a.eval x))=some us.toArray/\(∀e,e∈c->e.length=sz)/\c.length=es.length/\us.length=vs.length/\hR w S sz c us/\(∀u,u∈us->u∈us)
 |[],ps,es,vs,p,c,g,d,al,y,ag,k=>by
  grind[oe,je,Instr.fill]
 |(b,x)::r,ps,es,vs,p,c,g,d,al,y,ag,k=>by
  simp[oe,bk,bx]at g;obtain⟨G,I,Q,D,rfl⟩:=g;simp only[je,bk,er,bx]at d;obtain⟨⟨q,v⟩,ao,cs,C,ts,E,⟨h1,l⟩,⟨U,H⟩,B,rfl,rfl⟩:=d;have m:=cn R I ao al.1;obtain⟨F,O⟩:=mP m.1 C m.2;have s:=pU E F;have P:=s.length;have N:b*sz+sz<=vs.length:=by
   have:=eY sz (show b+1<=es.length from l);grind
  obtain ⟨us,K,z,bh,L,A,M⟩:= Fx R h0 D B al.2 (vs:= iu vs (b*sz) (a.eval x).cells.toList) (by
   grind) (by grind[n5]) (by
   intro i j e t he ht;rw[mS (by omega)];rw[uZ]at he;by_cases f:b=i
   . subst f;rw[ai rfl,ai l]at he;cases he;have o:=(dL.1 ht).1;rw[c8,fS,show b*sz+j-b*sz=j by simp];exact s.get ht
   . rw[av f]at he;have o:=(dL.1 ht).1;rw[y _ (eV he)]at o;rcases Nat.lt_or_gt_of_ne f with h|h
     . have:=eY sz (show b+1<=i from h);rw[h3]at this;rw[cV,cV];exact k _ _ _ _ he ht
     . have:=eY sz (show i+1<=b from h);rw[h3]at this;rw[fS]
       exact k _ _ _ _ he ht)
  refine⟨us,?_,z,by grind,by grind[n5],A,λ_ h=>h⟩;simp only[l6];rw[Gf rfl (by grind) (by grind)];grind
theorem FK{z:Array Value}{sz len:Nat}(c:z.size=sz)(h0:0<sz)(i j:Nat)(a:i<len)(b:j<sz):
 ((Array.range (len*sz)).map (z[· % z.size]!))[i*sz+j]?=z[j]?:=by
 have aF:i*sz+j<len*sz:=by
  have:=eY sz (show i+1<=len from a);grind
 simp_all[xU]
theorem QS{ty:TypeId}{len:Nat}{parts:Array (Nat×Value)}(g:P.underlying ty=some (.slice e)){sz:Nat}(f:ea P e=some sz){i:TypeInfo}{a:Value}(n:P.info? e=some i)(p:i.zero=some a)
 (h0:sz≠0)(o:len*sz<=2^24){b:Array Value}(k:b=(Array.range (len*sz)).map (a.cells[· % a.cells.size]!)){us:List Value}(c:Instr.fill (λi=>some (i*sz,sz)) b parts.toList=some us.toArray):
 (Instr.buildSlice ty len parts).run P w= .ok (.slice (some ⟨w.heap.size,0,none⟩) len len) (w.alloc (.cells us.toArray e)):=by
 have d:¬(len*sz>2^24):=by omega
 have m:∀w,(zeroValue e).run P w= .ok a w:=by simp_all[zeroValue,typeInfo]
 by_cases ag:len*sz=0
 . have l:b=#[]:=(by grind);subst l;have j:(Array.map (λx=>(#[]:Array Value)[x%(#[]:Array Value).size]!) (Array.range (len*sz)))=#[]:=(by grind);unfold Instr.buildSlice;simp only[Sem.run_bind,run_underlying g,Result.andThen_ok,iI f,av d,ai ag,Sem.run_pure,j,c];rfl
 . unfold Instr.buildSlice;subst k;simp only[Sem.run_bind,run_underlying g,Result.andThen_ok,iI f,av d,av ag,Sem.run_pure,m,c];rfl
theorem WB(R:Rel au nt φ S env J n a w){ty:TypeId}{len:Nat}{parts:Array (Nat×Operand)}(Z:o.op= .buildSlice ty len parts)(ab:P.underlying ty=some (.slice e)){sz:Nat}(aa:ea P e=some sz)
 {z:List C}(K:jr P e=some z){ps:List (Nat×aO)}(F:oe parts.toList=some ps)(h0:sz≠0)(L:z.length=sz)(X:len*sz<=2^24)
 {p v J'}(E:n key=false)(h:aM (.bslice sz len z ps) env J key=some (p,v,J'))(al:p):Good P au nt env J' (ins n key) a v ((execOp a.eval o).run P w):=by
 simp only[aM,bk,bx]at h;obtain⟨l,O,⟨q,u⟩,D,rfl,rfl,rfl⟩:=h;obtain⟨i,f,d,af,g,U⟩:=rF (φ:=φ) (w:=w) (S:=S) (n:=n) K;have N:=pU O g;have M:f.cells.size=sz:=by rw[<-zS,<-g.length,L]
 have b:0<sz:=by omega
 have ae:l.length=sz:=by grind[uC]
 obtain ⟨us,h1,A,B,T,bh,_⟩:= Fx R b F D al (vs:= ((Array.range (len*sz)).map _).toList) (by
  grind) (by simp) (by
  intro i j e t he ht;have d:=(dL.1 he).1;simp at d;have:e=l:=by
   grind
  subst this;have W:=(dL.1 ht).1;obtain⟨x,I,G⟩:=N.get ht;rw[Dw,FK M b i j d (by omega)]
  grind)
 simp at B;have H:us.length=len*sz:=by grind
 have r:=R.alloc (.cells us.toArray e);have m:=R.uL (.cells us.toArray e);have Y:len<=dk:=by
  have:=Du len b;grind[dk]
 have s:=r.iP E (x:= .arr sz u) (w.heap.size,len) rfl (by
  simp only[cU,dq];refine⟨by omega,by omega,A,b,λ_=>⟨us,e,heap_alloc_new,H,λi j e t he ht=>?_,λj h=>?_⟩⟩
  . obtain⟨v,ad,G⟩:=bh i j e t he ht;grind[bP.mono]
  . have:=R.bD.st _ _ h
    omega) (λ_=>⟨λk y ak h0=>by
     have:=(R.bD.blk k y ak).iA h0
     grind,.inr R.ext.size⟩)
 refine⟨.slice (some ⟨w.heap.size,0,none⟩) len len,_,S,_,.inl ?_,.c ⟨some ⟨w.heap.size,0,none⟩,by simp[dq],by simp[dq],by simp[dq]⟩,by simp[V.aA,C.aA,ins],s⟩;have Q:Instr.fill (λi=>some (i*sz,sz)) ((Array.range (len*sz)).map (f.cells[· % f.cells.size]!)) ((parts.map λ(i,x)=>(i,a.eval x)).toList)=some us.toArray:=by
  rw[Array.toList_map];omega
 simp_all[QS,execOp,Sem.run_bind,Result.andThen_ok]
theorem Hy(a:Nat):∀(r c:Nat),c<=2*a+192->Builtin.growBy a r c<=2*a+192
 |0,c,h=>h
 |r+1,c,h=>by
  unfold Builtin.growBy;split
  . grind
  . exact Hy _ r _ (by omega)
theorem VY{a b:Nat}(h:b<a):Builtin.nextslicecap a b<=2*a+192:=by
 grind[Builtin.nextslicecap,Hy]
theorem Ro(a:Nat):∀(r c:Nat),c<=a+a/4+512->Builtin.growBy a r c<=a+a/4+512
 |0,c,h=>h
 |r+1,c,h=>by
  unfold Builtin.growBy;split
  . grind
  . exact Ro _ r _ (by omega)
theorem Um{a b:Nat}(h:b<a):Builtin.nextslicecap a b<=a+a/4+512:=by
 grind[Builtin.nextslicecap,Ro]
theorem ie.not{e bytes:Nat}(h:f<e)(c:ie e bytes):¬(Builtin.nextslicecap e f*bytes>2^48):=by
 have a:=eY bytes (VY h);have b:=eY bytes (Um h);rcases c with c|c<;>unfold hi at c<;>omega
theorem Xl{p:α->Prop}{l m:List α}(h:∀x,x∈l->p x)(k:∀x,x∈m->p x):∀x,x∈l++m->p x:=by grind
def qP(P:Program)(w:World)(S:c6)(sz:Nat)(v:Value)(ys:List (List T))(b:Option Nat):Prop:=
 (Builtin.lenOf v).run P w= .ok ys.length w/\∃xs:List Value,(Builtin.firstCells sz ys.length v).run P w= .ok xs.toArray w/\xs.length=ys.length*sz/\hR w S sz ys xs/\∀x,x∈xs->x.oneCell'=true
theorem Rp{sz k len:Nat}(h0:0<sz)(a:k<len*sz):k/sz<len/\k%sz<sz/\(k/sz)*sz+k%sz=k:=
 ⟨Nat.div_lt_of_lt_mul (by grind),Nat.mod_lt _ h0,by grind[Nat.div_add_mod]⟩
theorem hR.one{sz:Nat}(h0:0<sz)(a:∀e,e∈ys->e.length=sz)(ag:xs.length=ys.length*sz)(h:hR w S sz ys xs):∀x,x∈xs->x.oneCell'=true:=by
 intro x I;obtain⟨k,j,o⟩:=jk I;obtain⟨h1,c,f⟩:=Rp h0 (by rw[<-ag];omega);have he:=df h1;have g:=a _ (xV h1);have ht:(ys[k/sz])[k%sz]?=some _:=df (by omega);obtain⟨v,q,p⟩:=h _ _ _ _ he ht;grind[bP.iz]
theorem w9{b o m:Nat}(ag:xs.length=m)(h:∀j,j<m->w.cell? ⟨b,o+j,none⟩=xs[j]?):(loadCells ⟨b,o,none⟩ m).run P w= .ok xs.toArray w:=by
 grind[run_loadCells_list,Addr.add]
theorem Xc{sz:Nat}(h0:0<sz)(r:bP w S (.slice ys) v)(l:∀e,e∈ys->e.length=sz):qP P w S sz v ys none:=by
 obtain⟨a,cap,c,b,o,f,rfl,u,y,A,m,s,z⟩:=bP.iS r;refine⟨by rfl,?_⟩;by_cases d:ys=[]
 . subst d;refine⟨[],?_,by simp,by intro i j e t he;grind,by simp⟩;cases a with
   |none=>rfl
   |some a=>simp[Builtin.firstCells,loadCells,loadCellsFrom]
 . have q:c=sz:=by
    obtain⟨dc,x⟩:=z6 ys d;grind
   subst q;rw[m d];have I:((List.range (ys.length*c)).map λk=>f (k/c) (k%c)).length=ys.length*c:=(by simp);have g:hR w S c ys ((List.range (ys.length*c)).map λk=>f (k/c) (k%c)):=by
    intro i j e t he ht;have n:=(dL.1 he).1;have p:=(dL.1 ht).1;rw[l _ (eV he)]at p;have aF:i*c+j<ys.length*c:=by
     have:=eY c (show i+1<=ys.length from n);grind
    simp_all[Nat.add_comm,Nat.add_mul_div_right,Nat.div_eq_of_lt,xU]
   refine⟨_,?_,I,g,hR.one h0 l I g⟩;refine w9 I ?_;grind[Rp]
theorem Xd{sz:Nat}(b:bq φ w S .aT v):qP P w S sz v [] none:=by
 obtain⟨a,rfl⟩:=b;refine⟨by rfl,[],?_,by simp,by intro i j e t he;grind,by simp⟩;cases a with
 |none=>rfl
 |some a=>simp[Builtin.firstCells,loadCells,loadCellsFrom]
theorem Hz{sz b:Nat}(c7:cU φ w S b (.arr sz ys))(m:bq φ w S (.arr b sz 0 ys.length) v):qP P w S sz v ys (some b):=by
 obtain⟨a,rfl,g,o⟩:=bq.gx m;obtain⟨h1,n,d,f,bh⟩:=c7;refine⟨by rfl,?_⟩;by_cases h0:(φ b).2=0
 . have:ys=[]:=lg (by omega);subst this;refine⟨[],?_,by simp,by intro i j e t he;grind,by simp⟩;cases a with
   |none=>rfl
   |some a=>simp[Builtin.firstCells,loadCells,loadCellsFrom]
 . obtain⟨vs,E,aa,ag,q,_⟩:=bh h0;rw[g h0];have p:ys.length*sz<=vs.length:=(by simp_all[eY]);have I:(vs.take (ys.length*sz)).length=ys.length*sz:=(by grind);have c:hR w S sz ys (vs.take (ys.length*sz)):=by
    intro i j e t he ht;have k:=(dL.1 he).1;have aF:i*sz+j<ys.length*sz:=by
     have:=eY sz (show i+1<=ys.length from k);grind
    grind
   refine⟨_,?_,I,c,hR.one f d I c⟩;rw[zY];refine w9 I ?_;intro j l;rw[gS,ic aa,uW,ai l]
theorem qP.world{sz:Nat}{b:Option Nat}(h:qP P w S sz v ys b){m:Nat}:∃xs:List Value,xs.length=ys.length*sz/\hR w S sz ys xs/\(∀x,x∈xs->x.oneCell'=true):=by
 obtain⟨_,xs,_,h1,a,c⟩:=h;grind
theorem QT(z:Array Value)(m:Nat):(Builtin.zeroCells z m).size=m*z.size:=by simp[Builtin.zeroCells]
theorem Ej{st u:TypeId}{i:TypeInfo}{c:Value}(p:P.underlying st=some (.slice e))(s:P.underlying yt=some (.slice u))(g:P.info? e=some i)(A:i.zero=some c)(B:c.cells.size=i.size)
 {base:Option Addr}{sl sc a:Nat}{y:Value}{xs d:List Value}(q:(Builtin.lenOf y).run P w= .ok a w)
 (I:(Builtin.firstCells i.size sl (.slice base sl sc)).run P w.drew= .ok xs.toArray w.drew)(ak:(Builtin.firstCells i.size a y).run P w.drew= .ok d.toArray w.drew)
 (n:sc<sl+a)(k:ie (sl+a) i.bytes)(x:sl+a<=dk){tt:TypeId}:
 ∃(b:Nat) (r:List Value),sl+a<=b/\r.length=(b-(sl+a))*i.size/\
  (Builtin.append_ #[st,yt] tt #[.slice base sl sc,y]).run P w= .ok (.slice (some ⟨w.heap.size,0,none⟩) (sl+a) b) (w.drew.alloc (.cells (xs++d++r).toArray e)):=by
 have o:∀w,(sizeOf e).run P w= .ok i.size w:=λw=>by simp[sizeOf,typeInfo,g]
 have f:∀w,(typeInfo e).run P w= .ok i w:=λw=>by simp[typeInfo,g]
 have t:∀w,(zeroValue e).run P w= .ok c w:=λw=>by simp_all[zeroValue]
 generalize z:(Question.appendCap (sl+a) sc e).cut (w.tape w.drawn (Question.appendCap (sl+a) sc e))=b;have m:sl+a<=b:=by grind[Question.cut]
 have h1:¬(sl+a<=sc):=by omega
 have v:¬(sl+a>IntKind.i64.max/\(False\/i.bytes=0)):=by grind[IntKind.max,IntKind.bits,dk]
 have j:=by
  exact k.not n
 refine⟨b,(Builtin.zeroCells c.cells (b-(sl+a))).toList,m,by grind[QT],?_⟩;have l:(choose (.appendCap (sl+a) sc e)).run P w= .ok b w.drew:=by simp_all[Question.forced]
 have aN:(xs++d++(Builtin.zeroCells c.cells (b-(sl+a))).toList).toArray=xs.toArray++d.toArray++Builtin.zeroCells c.cells (b-(sl+a)):=by simp
 rw[aN];unfold Builtin.append_;simp only[zO,Aa,Ab,Sem.run_bind,run_underlying p,run_underlying s,Result.andThen_ok,o,Sem.run_pure,bU,bN,q,av h1,f];rw[av (by grind)];simp only[Sem.run_bind,Result.andThen_ok,f];rw[av j];simp only[Sem.run_bind,Result.andThen_ok,f,l,run_askRoom,I,ak,t,eL,bJ];rfl
theorem tI{st l:TypeId}{i:TypeInfo}(g:P.underlying st=some (.slice e))(k:P.underlying yt=some (.slice l))(d:P.info? e=some i)
 {base:Option Addr}{sl sc a:Nat}{y:Value}{c:List Value}(j:(Builtin.lenOf y).run P w= .ok a w)(ak:(Builtin.firstCells i.size a y).run P w= .ok c.toArray w)(n:sl+a<=sc){w':World}
 (hs:∀b,base=some b->(storeCells (b.add (sl*i.size)) c 0).run P w= .ok () w') (m:base=none->w'=w) {tt:TypeId}:
  (Builtin.append_ #[st,yt] tt #[.slice base sl sc,y]).run P w= .ok (.slice base (sl+a) sc) w':=by
 have f:∀w,(sizeOf e).run P w= .ok i.size w:=λw=>by simp[sizeOf,typeInfo,d]
 unfold Builtin.append_;simp only[zO,Aa,Ab,Sem.run_bind,run_underlying g,run_underlying k,Result.andThen_ok,f,Sem.run_pure,bU,bN,j];cases base<;>simp_all
theorem hR.append{sz:Nat}{c r:List Value}(h0:0<sz)(p:∀e,e∈es->e.length=sz)(v:∀e,e∈ys->e.length=sz)(I:xs.length=es.length*sz)(y:c.length=ys.length*sz)
 (h1:hR w S sz es xs)(g:hR w S sz ys c):hR w S sz (es++ys) (xs++c++r):=by
 intro i j e t he ht;by_cases f:i<es.length
 . rw[qu f]at he;have a:=(dL.1 ht).1;rw[p _ (eV he)]at a;have:=eY sz (show i+1<=es.length from f);rw[h3]at this;rw[lh,qu (by omega)];exact h1 _ _ _ _ he ht
 . rw[x4 (by omega)]at he;have a:=(dL.1 ht).1;rw[v _ (eV he)]at a;have q:=(dL.1 he).1;have x:=eY sz (show es.length<=i by omega);have o:=eY sz (show(i-es.length)+1<=ys.length from q);have bh:(i-es.length)*sz=i*sz-es.length*sz:=Nat.sub_mul _ _ _;rw[h3]at o;rw[lh,x4 (by omega),qu (by omega),show i*sz+j-xs.length=(i-es.length)*sz+j by omega];exact g _ _ _ _ he ht
theorem Rel.drew(R:Rel au nt φ S env J n a w):Rel au nt φ S env J n a w.drew:=
 R.world (λ_=>False) rfl rfl rfl (e6 _) (λ_ _ _=>rfl) (λ_ h=>h.elim)
theorem t'(R:Rel au nt φ S env J n a w){d:aO}(ak:bA y=some d){v:V}(ao:d.get env=some (p,v))(al:p){sz:Nat}(h0:0<sz){ys:List (List T)×Option Nat}
 (h:iX J v=some ys)(l:∀e,e∈ys.1->e.length=sz):qP P w S sz (a.eval y) ys.1 ys.2:=by
 have c:=(cn R ak ao al).1;unfold iX at h;split at h
 . cases h;exact Xc h0 c.dJ l
 . cases h;exact Xd c.dJ
 . split at h
   . rename_i b q u s _ x r f;simp at h;obtain⟨⟨h1,rfl,rfl⟩,rfl⟩:=h;subst h1;by_cases k:r=[]
     . subst k;obtain⟨b4,o,_⟩:=bq.gx c.dJ;rw[o];refine⟨by rfl,[],?_,by simp,by intro i j e t he;grind,by simp⟩;cases b4 with
       |none=>rfl
       |some a=>simp[Builtin.firstCells,loadCells,loadCellsFrom]
     . have m:q=sz:=by
        obtain⟨dc,g⟩:=z6 _ k;rw[<-(R.bD.blk _ _ f).2.2.1 _ g,l _ g]
       subst m;exact Hz (R.bD.blk _ _ f) c.dJ
   grind
 grind
theorem Y9{sz b len:Nat}(c7:cU φ w S b (.arr sz es))(o:bq φ w S (.fC b sz off len) v)(q:off+len<=es.length):qP P w S sz v ((es.drop off).take len) none:=by
 obtain⟨a,cap,rfl,k,r⟩:=o;obtain⟨h1,p,f,g,bh⟩:=c7;have d:((es.drop off).take len).length=len:=by grind
 refine⟨by simp[Builtin.lenOf,d],?_⟩;rw[d];by_cases h0:len=0
 . subst h0;refine⟨[],?_,by simp,by intro i j e t he;grind,by simp⟩;cases a with
   |none=>rfl
   |some a=>simp[Builtin.firstCells,loadCells,loadCellsFrom]
 . obtain⟨vs,E,aa,ag,u,_⟩:=bh (by omega);rw[k h0];have s:off*sz+len*sz<=vs.length:=by rw[ag,<-h3];exact eY _ (by omega)
   have I:((vs.drop (off*sz)).take (len*sz)).length=len*sz:=(by grind);have n:∀e,e∈(es.drop off).take len->e.length=sz:=λe he=>f e (Dz (x7 he));have c:hR w S sz ((es.drop off).take len) ((vs.drop (off*sz)).take (len*sz)):=by
    intro i j e t he ht;have l:i<len:=(by grind);have aF:i*sz+j<len*sz:=by
     have:=eY sz (show i+1<=len from l);grind
    grind
   refine⟨_,?_,I,c,hR.one g n (by grind) c⟩;refine w9 I ?_;intro j m;rw[ic aa,uW,ai m,DD]
theorem Xe(R:Rel au nt φ S env J n a w){x y:Operand}{st yt e aP:TypeId}(aG:o.op= .call {callee:= .builtin .append,args:=#[x,y],argTypes:=#[st,yt]})
 (ad:P.underlying st=some (.slice e))(af:P.underlying yt=some (.slice aP)){i:TypeInfo}(Y:P.info? e=some i)(aV:i.size≠0)
 {O Q:aO}(I:bA x=some O)(ak:bA y=some Q){ah aj:Prop}{am an:V}(ay:O.get env=some (ah,am))(az:Q.get env=some (aj,an)){r}
 {p v J'}(A:kb am an=some r)(f:n key=false)(h:sX J key i.size ah aj r=some (p,v,J'))(al:p):Good P au nt env J' (ins n key) a v ((execOp a.eval o).run P w):=by
 have ab:∀r w',(Builtin.append_ #[st,yt] o.type #[a.eval x,a.eval y]).run P w= .ok r w'->(execOp a.eval o).run P w= .ok (.value r) w':=by
  intro r w' d;simp[execOp,aG,Go.resolve,invoke,builtin,d]
 unfold kb at A;split at A
 . rename_i b s1 off len aQ aW D q;split at A
   . rename_i aw;subst aw;cases A;unfold sX at h;dsimp only at h;split at h
     . rename_i aX es s;obtain⟨rfl,rfl,rfl⟩:=h;obtain⟨aH,aI,rfl,rfl,rfl,rfl,aS,aE⟩:=al;have ax:=cn R I ay aH;obtain⟨base,B,av,aT⟩:=bq.gx ax.1.dJ;have aA:=cn R ak az aI;have u:=R.bD.blk _ _ s;obtain⟨K,N,L,M,aM,aL⟩:=Y9 (P:=P) u aA.1.dJ aE;obtain⟨g1,g2,g3,g4,ar⟩:=u;have aK:((es.drop D).take q).length=q:=by simp;omega
       rw[aK]at K L M;rw[Nat.sub_zero]at B;have z:len+q<=(φ b).2:=(by omega);have h0:0<i.size:=(by omega);have F:(es.take len++(es.drop D).take q).length=len+q:=(by grind);have Z:∀T,T∈es.take len++(es.drop D).take q->T.length=i.size:=by
        grind
       by_cases g:(φ b).2=0
       . have aC:len=0:=(by omega);have aD:q=0:=(by omega);subst aC aD;have aN:N=[]:=lg (by grind);subst aN;have d:=tI (tt:=o.type) ad af Y (base:=base) (sl:=0) (sc:=(φ b).2) K L z (w':=w) (λaq _=>by simp[storeCells]) (λ_=>rfl);rw[<-B]at d;have R':=(R.del b).iP f (x:= .arr i.size (es.take 0++(es.drop D).take 0)) (0,0) rfl (by simp only[cU,dq];exact⟨by simp,by simp,by simp,h0,by simp⟩) (by simp);refine⟨_,_,S,w,.inl (ab _ _ d),.c ?_,by simp[V.aA,C.aA,ins],R'⟩;exact⟨base,by simp[dq,g,B],by simp[dq],by simp[dq]⟩
       . obtain⟨vs,E,aa,ae,aJ,aF⟩:=ar g;have u:=R.bD.blk _ _ s;have X:len*i.size+N.length<=vs.length:=by rw[M,ae,<-h3];exact eY _ z
         obtain⟨w',aU,bn,bt,bY,cw,cW,dm⟩:=lK (P:=P) N (len*i.size) 0 vs w aa (by omega) aL;rw[sk]at cW;have W:=av g
         have d:=tI (tt:=o.type) ad af Y (base:=base) (sl:=len) (sc:=(φ b).2) K L z (w':=w') (λaq aR=>by
          grind[Addr.add]) (λU=>by rw[W]at U;cases U)
         rw[<-B]at d
         have ao:=(R.del b).world (w':=w') (λk=>k=(φ b).1) bn bt bY (sn cw.symm) (λk _ f=>dm k f) (λk f=>by
          subst f;refine⟨u.nw g,λk y ak f=>?_,R.own b _ s g⟩;rw[eK]at ak;split at ak
          . cases ak
          . rename_i G
            exactλe=>R.bD.inj k b y _ ak s (du G) f g e)
         have m:fP w S w' S:=⟨λ_ _ h=>h,λk j h=>pJ (dm k (λe=>u.nw g j (e▸h))) j⟩
         have ap:=ao.iP f (x:= .arr i.size _) (φ b) rfl (by
          simp only[cU,dq];refine⟨by rw[F];exact z,by rw[F];omega,Z,h0,λ_=>⟨_,E,cW,by rw[n5 X];exact ae,λl j e t he ht=>?_,aF⟩⟩;have aB:=(dL.1 ht).1;rw[Z _ (eV he)]at aB;rw[mS X,M];by_cases c1:l<len
          . have:=eY i.size (show l+1<=len from c1);rw[h3]at this;rw[fS];rw[qu (by simp;omega),uW,ai c1]at he;obtain⟨v,H,d⟩:=aJ _ _ _ _ he ht;exact⟨v,H,bP.mono m d⟩
          . have h1:=eY i.size (show len<=l by omega);have c2:l<len+q:=by rw[<-F];exact(dL.1 he).1
            have:=eY i.size (show l+1<=len+q from c2);rw[h3,h3]at this;rw[cV,fS];have ag:(es.take len).length=len:=by simp;omega
            rw[x4 (by omega),ag]at he;have bh:(l-len)*i.size=l*i.size-len*i.size:=Nat.sub_mul _ _ _;obtain⟨v,H,d⟩:=aM _ _ _ _ he ht;rw[show l*i.size+j-len*i.size=(l-len)*i.size+j by omega]
            exact⟨v,H,bP.mono m d⟩) (λ_=>⟨λk y ak f=>by
            rw[eK]at ak;split at ak
            . cases ak
            . rename_i G
              exact R.bD.inj k b y _ ak s (du G) f g,R.own b _ s g⟩)
         refine⟨_,_,S,w',.inl (ab _ _ d),.c ?_,by simp[V.aA,C.aA,ins],ap⟩;exact⟨base,by simp[dq],by simp[dq,W],by simp[dq];omega⟩
     grind
   grind
 grind
theorem WC(R:Rel au nt φ S env J n a w){x y:Operand}{st yt e a1:TypeId}(aY:o.op= .call {callee:= .builtin .append,args:=#[x,y],argTypes:=#[st,yt]})
 (W:P.underlying st=some (.slice e))(X:P.underlying yt=some (.slice a1)){i:TypeInfo}(Q:P.info? e=some i)(a6:i.size≠0)(aJ:(i.zero.map (·.cells.size))=some i.size)
 {ai ay:aO}(I:bA x=some ai)(ak:bA y=some ay)
 {p v J'}(f:n key=false)(h:aM (.append e i.size i.bytes ai ay) env J key=some (p,v,J'))(aW:∀q b l,ai.get env≠some (q,.c (.cj b l)))(al:p):Good P au nt env J' (ins n key) a v ((execOp a.eval o).run P w):=by
 simp only[aM,bk]at h;obtain⟨⟨a8,bb⟩,Z,⟨a9,bc⟩,ab,he⟩:=h;split at he
 . grind[Xe]
 rename_i a7;simp only[bk]at he;obtain⟨ys,af,he⟩:=he;simp only[bx]at aJ;obtain⟨bd,aL,aK⟩:=aJ;have h0:0<i.size:=by omega
 have U:∀r w',(Builtin.append_ #[st,yt] o.type #[a.eval x,a.eval y]).run P w= .ok r w'->(execOp a.eval o).run P w= .ok (.value r) w':=by
  intro r w' d;simp[execOp,aY,Go.resolve,invoke,builtin,d]
 have aD:∀b,w.heap.size<=b->∀j,¬S b j:=λb an j aE=>by have:=R.bD.st _ _ aE;omega
 split at he
 ·
  obtain⟨rfl,rfl,rfl⟩:=he;obtain⟨ad,T,B,aA,aq⟩:=al;obtain⟨base,H⟩:=(cn R I Z ad).1.dJ;have ek:=t' (P:=P) R ak ab T h0 af B;by_cases G:ys.1=[]
  . obtain⟨A,z,D,g,N,ag⟩:=ek;rw[G]at A D g;have av:z=[]:=lg (by simpa using g);subst av;have d:=tI (tt:=o.type) W X Q (base:=base) (sl:=0) (sc:=0) A D (by simp) (w':=w) (λax _=>by simp[storeCells]) (λ_=>rfl);rw[<-H]at d;have R':=R.iP f (x:= .arr i.size ys.1) (0,0) rfl (by rw[G];simp only[cU,dq];exact⟨by simp,by simp,by simp,h0,by simp⟩) (by simp);refine⟨_,_,S,w,.inl (U _ _ d),.c ?_,by simp[V.aA,C.aA,ins],R'⟩;rw[G];exact⟨base,by simp[dq],by simp[dq],by simp[dq]⟩
  . have u:=R.drew;obtain⟨A,_⟩:=ek;obtain⟨_,z,D,g,N,ag⟩:=t' (P:=P) u ak ab T h0 af B;have a4:0<ys.1.length:=zT.2 G;have ae:(Builtin.firstCells i.size 0 (.slice base 0 0)).run P w.drew= .ok ([]:List Value).toArray w.drew:=by
     cases base with
     |none=>rfl
     |some a=>simp[Builtin.firstCells,loadCells,loadCellsFrom]
    obtain⟨aw,r,h1,aj,d⟩:=Ej (tt:=o.type) W X Q aL aK A ae D (by omega) (by grind) (by grind);rw[<-H]at d;have O:=u.alloc (.cells ([]++z++r).toArray e);have m:=u.uL (.cells ([]++z++r).toArray e)
    have ah:=O.iP f (x:= .arr i.size ys.1) (w.heap.size,aw) rfl (by
     simp only[cU,dq];refine⟨by omega,aq,B,h0,λ_=>⟨_,e,heap_alloc_new,?_,?_,aD _ (e6 _)⟩⟩
     . simp only[dQ,qx,g,aj,gS,<-h3];congr 1;omega
     . have:=hR.append (S:=S) (w:=w.drew) (r:=r) (es:=[]) (xs:=[]) h0 (by simp) B (by simp) g (by intro i j e t he;simp at he) N;intro s j K t he ht;obtain⟨v,L,d⟩:=this s j K t (by simpa using he) ht
       exact⟨v,L,bP.mono m d⟩) (λ_=>⟨λk y ak h0=>by
        have:=(R.bD.blk k y ak).iA h0
        omega,.inr R.ext.size⟩)
    refine⟨_,_,S,_,.inl (U _ _ d),.c ?_,by simp[V.aA,C.aA,ins],ah⟩;exact⟨some ⟨w.heap.size,0,none⟩,by simp[dq],by simp[dq],by simp[dq];omega⟩
 . rename_i b a' off len;split at he
   . rename_i ba es M;split at he
     . grind
     . obtain⟨rfl,rfl,rfl⟩:=he;obtain⟨ad,T,rfl,rfl,rfl,rfl,B,aA,aq⟩:=al;have aT:=cn R I Z ad;have aR:=aT.1.dJ;obtain⟨base,H,aS,aV⟩:=bq.gx aR;have ek:=t' (P:=P) R ak ab T h0 af B;have am:=R.bD.blk _ _ M;have aQ:=am;obtain⟨g1,g2,g3,g4,aN⟩:=aQ;rw[Nat.sub_zero]at H;rw[gS]at aV;have aG:∀K,K∈es++ys.1->K.length=i.size:=Xl g3 B;by_cases aF:es.length+ys.1.length<=(φ b).2
       . obtain⟨A,z,D,g,N,ag⟩:=ek;by_cases F:(φ b).2=0
         . have ao:es=[]:=lg (by omega);have ar:ys.1=[]:=lg (by omega);rw[ar]at A D g;have av:z=[]:=lg (by simpa using g);subst av;have d:=tI (tt:=o.type) W X Q (base:=base) (sl:=es.length) (sc:=(φ b).2) A D (by simp[ao]) (w':=w) (λax _=>by simp[storeCells]) (λ_=>rfl);rw[<-H]at d;have R':=(R.del b).iP f (x:= .arr i.size (es++ys.1)) (0,0) rfl (by rw[ar,ao];simp only[cU,dq];exact⟨by simp,by simp,by simp,h0,by simp⟩) (by simp);refine⟨_,_,S,w,.inl (U _ _ d),.c ?_,by simp[V.aA,C.aA,ins],R'⟩;rw[ar,ao];exact⟨base,by simp[dq,F],by simp[dq],by simp[dq]⟩
         . obtain⟨vs,E,aa,aH,aZ,aX⟩:=aN F;have aB:es.length*i.size+z.length<=vs.length:=by rw[g,aH,<-h3];exact eY _ aF
           obtain⟨w',a5,bn,bt,bY,cw,cW,dm⟩:=lK (P:=P) z (es.length*i.size) 0 vs w aa (by omega) ag;rw[sk]at cW;have Y:=aS F;rw[zY]at Y
           have d:=tI (tt:=o.type) W X Q (base:=base) (sl:=es.length) (sc:=(φ b).2) A D aF (w':=w') (λax az=>by
            rw[Y]at az;cases az;have a3:Addr.add ⟨(φ b).1,0,none⟩ (es.length*i.size)=⟨(φ b).1,es.length*i.size,none⟩:=by unfold Addr.add;split<;>simp_all
            grind) (λan=>by rw[Y]at an;cases an)
           rw[<-H]at d
           have u:=(R.del b).world (w':=w') (λk=>k=(φ b).1) bn bt bY (sn cw.symm) (λk _ f=>dm k f) (λk f=>by
            subst f;refine⟨am.nw F,λk y ak f=>?_,R.own b _ M F⟩;rw[eK]at ak;split at ak
            . cases ak
            . rename_i G
              exactλe=>R.bD.inj k b y _ ak M (du G) f F e)
           have m:fP w S w' S:=⟨λ_ _ h=>h,λk j h=>pJ (dm k (λe=>am.nw F j (e▸h))) j⟩
           have O:=u.iP f (x:= .arr i.size (es++ys.1)) (φ b) rfl (by
            simp only[cU,dq];refine⟨by simp;omega,by simp;omega,aG,h0,λ_=>⟨_,E,cW,by rw[n5 aB];exact aH,?_,aX⟩⟩;intro s j K t he ht;rw[mS aB];by_cases aC:s<es.length
            . rw[qu aC]at he;have ap:=(dL.1 ht).1;rw[g3 _ (eV he)]at ap;have:=eY i.size (show s+1<=es.length from aC);rw[h3]at this;rw[fS];obtain⟨v,L,d⟩:=aZ _ _ _ _ he ht;exact⟨v,L,bP.mono m d⟩
            . rw[x4 (by omega)]at he;have ap:=(dL.1 ht).1;rw[B _ (eV he)]at ap;have aU:=(dL.1 he).1;have a2:=eY i.size (show es.length<=s by omega);have aP:=eY i.size (show(s-es.length)+1<=ys.1.length from aU);have bh:(s-es.length)*i.size=s*i.size-es.length*i.size:=Nat.sub_mul _ _ _;rw[h3]at aP;rw[cV,fS,show s*i.size+j-es.length*i.size=(s-es.length)*i.size+j by omega];obtain⟨v,L,d⟩:=N _ _ _ _ he ht
              exact⟨v,L,bP.mono m d⟩) (λ_=>⟨λk y ak f=>by
              rw[eK]at ak;split at ak
              . cases ak
              . rename_i G
                exact R.bD.inj k b y _ ak M (du G) f F,R.own b _ M F⟩)
           refine⟨_,_,S,w',.inl (U _ _ d),.c ?_,by simp[V.aA,C.aA,ins],O⟩;exact⟨base,by simp[dq],by simp[dq,Y],by simp[dq];omega⟩
       . have u:=R.drew;obtain⟨A,_⟩:=ek;obtain⟨_,z,D,g,N,ag⟩:=t' (P:=P) u ak ab T h0 af B;obtain⟨_,xs,ae,aI,a0,_⟩:=Hz (P:=P) (u.bD.blk _ _ M) (cn u I Z ad).1.dJ;rw[H]at ae;obtain⟨aw,r,h1,aj,d⟩:=Ej (tt:=o.type) W X Q aL aK A ae D (by omega) aA aq;rw[<-H]at d;have O:=(u.del b).alloc (.cells (xs++z++r).toArray e);have m:=u.uL (.cells (xs++z++r).toArray e)
         have ah:=O.iP f (x:= .arr i.size (es++ys.1)) (w.heap.size,aw) rfl (by
          simp only[cU,dq];refine⟨by simp;omega,by simp;omega,aG,h0,λ_=>⟨_,e,heap_alloc_new,?_,?_,aD _ (e6 _)⟩⟩
          . simp only[dQ,aI,g,aj,<-h3];congr 1;omega
          . have:=hR.append (S:=S) (w:=w.drew) (r:=r) h0 g3 B aI g a0 N;intro s j K t he ht;obtain⟨v,L,d⟩:=this s j K t he ht
            exact⟨v,L,bP.mono m d⟩) (λ_=>⟨λk y ak h0=>by
             rw[eK]at ak;split at ak
             . cases ak
             . have:=(R.bD.blk k y ak).iA h0
               omega,.inr R.ext.size⟩)
         refine⟨_,_,S,_,.inl (U _ _ d),.c ?_,by simp[V.aA,C.aA,ins],ah⟩;exact⟨some ⟨w.heap.size,0,none⟩,by simp[dq],by simp[dq],by simp[dq];omega⟩
   grind
 . exact absurd Z (aW _ _ _)
 grind
theorem WD:∀{ts:List T} {vs:List Value},a6 R ts vs->∀(i j:Nat) e t,(ts.map λt=>[t])[i]?=some e->e[j]?=some t->∃v,vs[i*1+j]?=some v/\R t v:=by
 intro ts vs h i j e t he ht;rw[qv,bx]at he;obtain⟨t0,h0,rfl⟩:=he;cases j with
 |zero=>
  obtain⟨v,b,a⟩:=h.get h0;grind
 |succ j=>grind
theorem WE(R:Rel au nt φ S env J n a w){ty:TypeId}(B:o.op= .alloc ty)(f:jr P ty=some cs)(A:cs.length≠0)(u:cs.length<=2^24)
 {p v J'}(q:n key=false)(h:aM (.allocA cs) env J key=some (p,v,J'))(al:p):Good P au nt env J' (ins n key) a v ((execOp a.eval o).run P w):=by
 simp only[aM,bx]at h;obtain⟨ts,d,rfl,rfl,rfl⟩:=h;obtain⟨i,z,s,f,b,r⟩:=rF (φ:=φ) (w:=w) (S:=S) (n:=n) f;have F:=pU d b;have D:=uC d;have g:=R.alloc (.cells z.cells.toList.toArray ty);have m:=R.uL (.cells z.cells.toList.toArray ty);have E:=b.length.symm
 have l:=g.iP q (x:= .arr 1 (ts.map λt=>[t])) (w.heap.size,cs.length) rfl (by
  simp only[cU,dq,qy];refine⟨by omega,by grind[dk],?_,by simp,λ_=>⟨z.cells.toList,ty,heap_alloc_new,by omega,λi j e t he ht=>?_,λj h=>?_⟩⟩
  . simp
  . grind[WD,bP.mono]
  . have:=R.bD.st _ _ h
    omega) (λ_=>⟨λk y ak h0=>by
     have:=(R.bD.blk k y ak).iA h0
     grind,.inr R.ext.size⟩)
 refine⟨.pointer (some ⟨w.heap.size,0,none⟩),_,S,_,.inl ?_,.c ?_,by simp[V.aA,C.aA,ins],l⟩
 . simp_all[execOp,Instr.alloc,zeroValue,typeInfo,newVar,newRow]
 grind[bq,dq]
theorem Xf(R:Rel au nt φ S env J n a w){ty:TypeId}{i:Operand}(u:o.op= .indexAddr ty x i){k:Nat}(B:P.underlying ty=some (.array k e))(A:ea P e=some 1)
 {f d:aO}(I:bA x=some f)(s:bA i=some d)
 {p v J'}(D:n key=false)(h:aM (.idxP k f d) env J key=some (p,v,J'))(al:p):Good P au nt env J' (ins n key) a v ((execOp a.eval o).run P w):=by
 simp only[aM,bk]at h;obtain⟨⟨G,K⟩,r,⟨F,H⟩,q,he⟩:=h;simp at he;split at he
 . rename_i b kk m;obtain⟨rfl,rfl,rfl⟩:=he;obtain⟨y,z,t,E⟩:=al;have ao:=cn R I r y;have h1:=ao.1.gF;have g:=(cn R s q z).1.fe;have j:Addr.add ⟨(φ b).1,0,none⟩ (m.toNat*1)=⟨(φ b).1,m.toNat*1+0,none⟩:=by
    grind[Addr.add]
   refine Good.pure R (x:= .pointer (some ⟨(φ b).1,m.toNat*1+0,none⟩)) ?_ (.c ?_) (by grind[V.aA,C.aA])
   . have l:0<=m/\m<k:=⟨t,by omega⟩
     simp only[execOp,u,h1,g,Instr.indexAt,asIntOf,Instr.sureAddr,Sem.run_bind,run_underlying B,Result.andThen_ok,Sem.run_pure,ai l,iI A,j]
   rfl
 grind
theorem Xg(R:Rel au nt φ S env J n a w){ty:TypeId}{i:IntKind}{m:Int}(t:o.op= .indexAddr ty x (.const (.int i m))){k:Nat}(u:P.underlying ty=some (.array k e))
 (h0:0<=m/\m.toNat<k){s:Nat}(hs:ea P e=some s){g:aO}(I:bA x=some g)
 {p v J'}(y:n key=false)(h:aM (.fldA (m.toNat*s) g) env J key=some (p,v,J'))(al:p):Good P au nt env J' (ins n key) a v ((execOp a.eval o).run P w):=by
 simp only[aM,bk]at h;obtain⟨⟨z,A⟩,r,he⟩:=h;simp at he;have j:a.eval (.const _)= .int i m:=rfl;have q:0<=m/\m<(k:Int):=⟨h0.1,by omega⟩
 have d:∀(b off:Nat),a.eval x= .pointer (some ⟨b,off,none⟩)->(execOp a.eval o).run P w= .ok (.value (.pointer (some ⟨b,off+m.toNat*s,none⟩))) w:=by
  intro b off e;have l:Addr.add ⟨b,off,none⟩ (m.toNat*s)=⟨b,off+m.toNat*s,none⟩:=by
   grind[Addr.add]
  simp only[execOp,t,e,j,Instr.indexAt,asIntOf,Instr.sureAddr,Sem.run_bind,run_underlying u,Result.andThen_ok,Sem.run_pure,ai q,iI hs,l]
 split at he<;>simp only[dK,reduceCtorEq]at he
 all_goals
  obtain⟨rfl,rfl,rfl⟩:=he;have ao:=cn R I r al;have h1:=ao.1.dJ
 . exact Good.pure R (d _ _ h1) (.c rfl) ao.2
 . exact Good.pure R (d _ _ h1) (.c (by simp[bq,Nat.add_assoc])) ao.2
 . obtain⟨blk,off,f,h1,aa⟩:=h1;exact Good.pure R (d _ _ h1) (.c ⟨blk,off,f,by grind,aa⟩) ao.2
theorem Xh(R:Rel au nt φ S env J n a w){ty:TypeId}{i:Option Operand}(A:o.op= .slice ty x j i none){k:Nat}(G:P.underlying ty=some (.array k e))(F:ea P e=some 1)
 {g:aO}{f d:Option aO}(I:bA x=some g)(z:jK j=some f)(y:jK i=some d)
 {p v J'}(O:n key=false)(h:aM (.slcP k g f d) env J key=some (p,v,J'))(al:p):Good P au nt env J' (ins n key) a v ((execOp a.eval o).run P w):=by
 simp only[aM,bk]at h;obtain⟨⟨U,W⟩,u,⟨pl,l⟩,t,⟨T,h⟩,s,he⟩:=h;simp at he;split at he
 . rename_i b;obtain⟨rfl,rfl,rfl⟩:=he;obtain⟨B,D,E,h0,h1,m⟩:=al;have ao:=cn R I u B;have K:=ao.1.gF;have ag:=pT R z t D;have aa:=pT R y s E;have r:=BY (P:=P) (w:=w) (isSlice:=false) ag aa h0 h1 m (e6 _);generalize N:(l.getD 0).toNat=L at*;generalize M:(h.getD _).toNat=H at*;have q:Addr.add ⟨(φ b).1,0,none⟩ (L*1)=⟨(φ b).1,L*1,none⟩:=by
    unfold Addr.add;split
    . grind
    . simp
   refine Good.pure R (x:= .slice (some (if k=L then⟨(φ b).1,0,none⟩else(Addr.add ⟨(φ b).1,0,none⟩ (L*1)))) _ (k-L)) ?_ (.c ⟨_,_,rfl,?_,by omega⟩) (by simpa[V.aA,C.aA]using ao.2)
   . simp[execOp,A,Instr.sliceAt,Instr.sureAddr,underlying,G,K,r,iI F]
   . intro Q;rw[cV,q]
 grind
theorem Xi{s:aD}(a:bytesOf es=some s):∀{xs:List Value},(∀(i:Nat) t,es[i]?=some [t]->∃v,xs[i]?=some v/\bP w S t v)->xs.length=es.length->
 ∃aI:az,xs=aI.map (Value.int .u8)/\s=aI.map λm=>UInt8.ofNat m.toNat:=by
 induction es generalizing s with
 |nil=>simp_all[bytesOf]
 |cons e es ih=>
  intro xs b ag;unfold bytesOf at a;split at a
  . grind
  . rename_i m r d;cases d;simp at a;obtain⟨s',g,rfl⟩:=a;cases xs with
    |nil=>grind
    |cons x xs=>
     obtain⟨v,c,f⟩:=b 0 _ rfl;simp at c;subst c;cases f;obtain⟨aI,rfl,rfl⟩:=ih g (λi t j=>by simpa using b (i+1) t (by grind)) (by grind);exact⟨m::aI,rfl,rfl⟩
  grind
theorem WL(aI:az):∀(s:ByteArray),(aI.foldl (λr m=>r.push (UInt8.ofNat m.toNat)) s).data.toList=s.data.toList++aI.map λm=>UInt8.ofNat m.toNat:=by
 induction aI<;>simp_all
theorem Qq{s:aD}(a:bytesOf es=some s):∀(i:Nat) e,es[i]?=some e->∃t,e=[t]:=by
 induction es generalizing s with
 |nil=>simp
 |cons dc es ih=>
  unfold bytesOf at a;grind[bx]
theorem BJ{g c:TypeId}(hs:P.underlying g=some (.slice e))(he:P.underlying e=some (.int .u8))(aj:P.underlying c=some .string){str:aD}{a:Option Addr}{len cap b:Nat}
 (ag:es.length=len)(f:bytesOf es=some str)(q:len≠0->a=some ⟨b,off,none⟩)(r:∀(i:Nat) t,es[i]?=some [t]->∃v,w.cell? ⟨b,off+i,none⟩=some v/\bP w S t v):
 ∃bs:ByteArray,(convert g c (.slice a len cap)).run P w= .ok (.string bs) w/\bs.data.toList=str:=by
 rw[run_convert_bytes_string w _ _ e a _ _ hs he aj];by_cases h0:len=0
 . have k:es=[]:=lg (by omega);subst k;simp[bytesOf]at f;cases a with
   |none=>simp_all[Conv.bytesToString]
   |some a0=>
    simp_all[run_bytesToString,loadCells,loadCellsFrom]
 . have I:∀i,i<len->∃t v,es[i]?=some [t]/\w.cell? ⟨b,off+i,none⟩=some v/\bP w S t v:=by
    intro i m;have h1:=df (l:=es) (i:=i) (by omega);grind[Qq]
   have ao:∀i,i<len->((List.range len).map λi=>(w.cell? ⟨b,off+i,none⟩).getD undef)[i]?=w.cell? ⟨b,off+i,none⟩:=(by grind);obtain⟨aI,h1,o⟩:=Xi (w:=w) (S:=S) f (xs:=(List.range len).map λi=>(w.cell? ⟨b,off+i,none⟩).getD undef) (λi t m=>by grind) (by grind);have d:=w9 (P:=P) (by simp) (λj n=>(ao j n).symm);rw[h1]at d;have p:=run_bytesToString w _ _ cap aI d;simp_all[WL]
theorem Ek:∀{es:List (List T)} {s:aD},bytesOf es=some s->s.length=es.length
 |[],s,h=>by grind[bytesOf]
 |e::es,s,h=>by
  unfold bytesOf at h;split at h
  . grind
  . rename_i m r a;cases a;simp at h;obtain⟨s',b,rfl⟩:=h;simp[Ek b]
  grind
theorem Y'(R:Rel au nt φ S env J n a w){z r:TypeId}(Z:o.op= .convert z r x)(hs:P.underlying z=some (.slice e))(he:P.underlying e=some (.int .u8))(aj:P.underlying r=some .string){C:aO}(I:bA x=some C)
 {p v J'}(X:n key=false)(h:aM (.b2s C) env J key=some (p,v,J'))(al:p):Good P au nt env J' (ins n key) a v ((execOp a.eval o).run P w):=by
 simp only[aM,bk,bx,dW]at h;obtain⟨⟨ai,ak⟩,G,⟨q,str⟩,g,rfl,rfl,rfl⟩:=h;obtain⟨O,u⟩:=al;have ao:=cn R I G O
 suffices aa:∃d len cap,a.eval x= .slice d len cap/\str.length<=dk/\∃bs:ByteArray,(convert z r (.slice d len cap)).run P w= .ok (.string bs) w/\bs.data.toList=str by
  obtain⟨d,len,cap,h1,D,bs,K,F⟩:=aa;have N:bs.size<=ej:=by grind[uG,dk,ej]
  refine Good.pure R (x:= .string bs) ?_ (.c ?_) rfl
  . simp_all[execOp]
  . rw[<-F];exact .str bs N
 have y:∀ (b off len:Nat) (es:List (List T)) (d:Option Addr) (cap:Nat),aP J b = some (.arr 1 es)->off+len<=es.length->bytesOf ((es.drop off).take len) = some str->(len≠0->d = some ⟨(φ b).1,off*1,none⟩)->((φ b).2≠0\/len = 0)->a.eval x = .slice d len cap->
  ∃d len cap,a.eval x= .slice d len cap/\str.length<=dk/\∃bs:ByteArray,(convert z r (.slice d len cap)).run P w= .ok (.string bs) w/\bs.data.toList=str:=by
  intro b off len es d cap M H j L h0 B;obtain⟨h1,D,K,F,bh⟩:=R.bD.blk b _ M;have ag:((es.drop off).take len).length=len:=by grind
  refine⟨d,len,cap,B,by grind[Ek],?_⟩;refine BJ (S:=S) hs he aj ag j L ?_;intro i t m;rw[uW]at m;split at m
  . rw[DD]at m;rcases h0 with h0|h0
    . obtain⟨vs,E,aa,ah,Q,_⟩:=bh h0;obtain⟨v,ae,af⟩:=Q _ 0 _ t m rfl;grind[ic]
    grind
  grind
 dsimp only at g G ao;unfold mv at g;split at g
 . rename_i es;simp only[bx,dW]at g;obtain⟨s,j,rfl,rfl⟩:=g;obtain⟨d,cap,sz,b,off,f,h1,V,Y,ad,k,U,B⟩:=bP.iS ao.1.dJ;refine⟨d,es.length,cap,h1,by grind[Ek],?_⟩;by_cases A:es=[]
   . subst A;exact BJ (S:=S) (b:=0) (off:=0) hs he aj rfl j (by simp) (by simp)
   . have ab:sz=1:=by
      obtain⟨dc,W⟩:=z6 es A;grind[List.mem_iff_getElem?,Qq]
     refine BJ (S:=S) (b:=b) (off:=off) hs he aj rfl j (λ_=>k A) ?_;intro i t m;exact⟨f i 0,by grind,B i 0 _ t m rfl⟩
 . cases g;obtain⟨d,h1⟩:=ao.1.dJ;exact⟨d,0,0,h1,by simp,BJ (S:=S) (es:=[]) (b:=0) (off:=0) hs he aj rfl rfl (by simp) (by simp)⟩
 . rename_i b off len;split at g
   . rename_i es l;simp only[bx,dW]at g;obtain⟨s,j,rfl,rfl⟩:=g;obtain⟨d,h1,k,H⟩:=bq.gx ao.1.dJ;by_cases h0:(φ b).2=0
     . exact y b off len es d _ l u j (λh=>by omega) (.inr (by omega)) h1
     . exact y b off len es d _ l u j (λ_=>k h0) (.inl h0) h1
   . cases g
 . rename_i b off len;split at g
   . rename_i es l;simp only[bx,dW]at g;obtain⟨s,j,rfl,rfl⟩:=g;obtain⟨d,cap,h1,k,H⟩:=ao.1.dJ;obtain⟨D,_⟩:=R.bD.blk b _ l;by_cases h0:len=0
     . exact y b off len es d _ l u j k (.inr h0) h1
     . exact y b off len es d _ l u j k (.inl (by omega)) h1
   . cases g
 . cases g
end
end
end Go.Proofs.YtkbmjabicjpmjaaGreatDoor.Shv
