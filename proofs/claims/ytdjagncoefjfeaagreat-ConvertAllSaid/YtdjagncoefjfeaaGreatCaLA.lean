/- The library of this proof, part A: an abstract machine for the code of the program, and its soundness. -/
import Derived.LoopN
import Derived.Calls
import Derived.Laws.Sem
import Derived.Laws.World
import Derived.Laws.Cells
import Derived.Below
import Derived.Laws.Strings
import Derived.Laws.StructEq
import Derived.Laws.BytesString

namespace Go.Proofs.YtdjagncoefjfeaaGreat.Shv
set_option linter.all false
abbrev ak:=List UInt8
abbrev ar:=List Int
abbrev a8:=List Nat
section
def ae:=@if_pos
def al:=@if_neg
def bZ:=@Bool.false_eq_true
def cm:=@List.length_append
def ds:=@List.getElem?_eq_some_iff
def cC:=@Bool.and_eq_true
def ew:=@Option.ite_none_right_eq_some
def dp:=@Option.some.injEq
def en:=@List.drop_eq_nil_of_le
def dO:=@decide_eq_true_eq
def dH:=@List.all_eq_true
def e':=@List.getElem?_eq_getElem
def b9:=@if_false
def db:=@Bool.not_true
def b5:=@if_true
def dv:=@Prod.mk.injEq
def eY:=@Nat.mul_le_mul_right
def dk:=@decide_false
def e3:=@List.getElem_of_mem
def fj:=@List.mem_of_getElem?
def de:=@decide_true
def eZ:=@List.flatMap_cons
def eK:=@List.mem_cons
def eV:=@Bool.not_false
def dV:=@Nat.le_refl
def jx:=@List.eq_nil_of_length_eq_zero
def dW:=@cond_false
def gi:=@List.length_cons
def e0:=@List.mem_map
def fT:=@List.nil_append
def gY:=@of_decide_eq_true
def fU:=@List.drop_zero
def fB:=@List.map_cons
def ev:=@cond_true
def h5:=@List.pairwise_cons
def ee:=@congrArg
def ir:=@List.append_assoc
def hQ:=@List.mem_append
def dX:=@Ne.symm
def lB:=@List.drop_eq_getElem_cons
def gv:=@Nat.le_trans
def jy:=@List.getD_cons_zero
def h6:=@List.length_nil
def kR:=@Option.map_eq_some_iff
def iu:=@List.length_map
def iv:=@Bool.or_eq_true
def iw:=@List.length_set
def hR:=@Nat.zero_add
def hv:=@Nat.zero_le
def lC:=@beq_eq_false_iff_ne
def jV:=@Option.map_some
def kS:=@List.contains_nil
def jg:=@Bool.or_false
def jW:=@decide_eq_true
def ix:=@Nat.add_mul
def l9:=@Nat.lt_of_lt_of_le
def l':=@List.contains_cons
def ma:=@Int.emod_lt_of_pos
def rW:=@List.pairwise_iff_getElem
def qd:=@List.take_of_length_le
def lD:=@List.append_nil
def mb:=@List.length_drop
def rX:=@Option.bind_eq_some_iff
def jh:=@beq_iff_eq
def mc:=@Option.some.inj
def me:=@Int.emod_nonneg
def uw:=@List.getElem?_append_left
def ux:=@List.getElem?_eq_none_iff
def ou:=@Int.toNat_natCast
def ov:=@List.pairwise_map
def ow:=@Nat.mod_eq_of_lt
def wF:=@List.getElem?_append_right
def qe:=@List.getElem?_map
def rY:=@Array.length_toList
def rZ:=@List.mem_singleton
def qf:=@Option.getD_some
def qg:=@List.length_take
def mf:=@List.map_nil
def na:=@Bool.true_and
def uy:=@List.mem_of_mem_take
def r0:=@Bool.not_eq_true'
def kh:=@and_false
def uz:=@List.length_pos_iff
def yJ:=@Int.tdiv_eq_ediv_of_nonneg
def ox:=@List.sum_cons
def yK:=@Option.isSome_iff_exists
def oy:=@exists_false
def r1:=@List.mem_filter
def r2:=@List.map_append
def wG:=@BitVec.ofInt_natCast
def wH:=@Nat.pow_le_pow_right
def Ch:=@List.find?_eq_some_iff_getElem
def wI:=@List.getD_cons_succ
def Ci:=@Option.ite_none_left_eq_some
def uA:=@List.cons_append
def r3:=@Int.toNat_zero
def qh:=@List.all_map
def wJ:=@BitVec.toNat_ofNat
def yL:=@List.take_append_drop
def uB:=@decide_eq_false
def rU:=@List.all_cons
def BU:=@Array.getElem?_eq_some_iff
def BV:=@List.exists_mem_of_ne_nil
def BW:=@List.mem_or_eq_of_mem_set
def yy:=@Bool.or_eq_false_iff
def BX:=@Array.getElem?_eq_getElem
def BY:=@List.mem_of_find?_eq_some
def yz:=@Int.toNat_of_nonneg
def BZ:=@List.getElem?_cons_zero
def B0:=@List.getElem?_cons_succ
def B1:=@Int.eq_ofNat_of_zero_le
def yA:=@List.getElem?_take
def yB:=@List.find?_eq_none
def yC:=@List.ext_getElem?
def uu:=@Nat.add_zero
def B2:=@List.getElem?_toArray
def wC:=@List.nodup_nil
def uv:=@List.sum_nil
def FL:=@Array.getD_eq_getD_getElem?
def B3:=@List.getElem?_zipIdx
def B4:=@List.mem_append_left
def yD:=@Bool.cond_eq_ite
def wD:=@Nat.add_assoc
def FM:=@List.getD_eq_getElem?_getD
def B5:=@List.flatMap_append
def yE:=@List.cons.injEq
def wE:=@Nat.le_of_eq
def qc:=@and_true
def yF:=@List.drop_drop
def FN:=@Nat.le_mul_of_pos_right
def FO:=@decide_eq_false_iff_not
def FP:=@List.filter_cons_of_neg
def FQ:=@List.filter_cons_of_pos
def B6:=@List.getElem?_set
def B7:=@List.getElem_mem
def B8:=@List.ext_getElem
def rV:=@true_and
def FR:=@Array.getElem?_modify
def FT:=@List.mem_iff_getElem?
def FU:=@Nat.le_of_ble_eq_true
def FV:=@List.mem_of_mem_drop
def yG:=@exists_const
def Su:=@List.eq_nil_iff_forall_not_mem
def FW:=@List.mem_cons_of_mem
def yH:=@Nat.pow_succ
def FX:=@List.pairwise_append
def B9:=@List.headD_cons
def B':=@UInt8.toNat_lt
def FY:=@List.mem_cons_self
def Ca:=@Bool.and_true
def FZ:=@Nat.lt_trichotomy
def F0:=@List.take_add_one
def F1:=@Bool.eq_false_iff
def yI:=@Nat.mod_lt
def Cb:=@Nat.sub_self
def Cc:=@Nat.add_comm
def Cd:=@Nat.zero_mul
def F2:=@List.range'_succ
def Ce:=@Nat.beq_refl
def F3:=@List.any_eq_true
def Cf:=@Nat.mul_comm
def Cg:=@Bool.true_or
variable{c:Prop}{α a:Type}{R:α->a->Prop}
theorem fz{h:Decidable c}(a:c:=by omega){α:Sort _}{t e:α}:ite c t e=t:=if_pos a
theorem bA{h:Decidable c}(a:c:=by simp;omega){α:Sort _}{t e:α}:ite c t e=t:=if_pos a
theorem gM{h:Decidable c}(a:c:=by simp){α:Sort _}{t e:α}:ite c t e=t:=if_pos a
theorem bx{h:Decidable c}(a:¬c:=by omega){α:Sort _}{t e:α}:ite c t e=e:=if_neg a
theorem ch{h:Decidable c}(a:¬c:=by simp;omega){α:Sort _}{t e:α}:ite c t e=e:=if_neg a
theorem bz{h:Decidable c}(a:¬c:=by simp){α:Sort _}{t e:α}:ite c t e=e:=if_neg a
theorem bo{α:Type _}{b:α}{c:Type _}{x:Option c}{f:c->α}:Option.map f x=some b↔∃a,x=some a/\f a=b:=kR
theorem br{α:Type _}{b:α}{c:Type _}{x:Option c}{f:c->Option α}:x.bind f=some b↔∃a,x=some a/\f a=some b:=rX
theorem ao{α:Type _}{b:Type _}(a:α)(f:α->Option b):(some a).bind f=f a:=Option.bind_some ..
theorem aU.{u}{α a:Type u}:(bind:Option α->(α->Option a)->Option a)=Option.bind:=Option.bind_eq_bind
open Go
inductive T where
 |bool (b:Bool)
 |int (k:IntKind)(n:Int)
 |str (s:ak)
 |slice (es:List (List T))
inductive C where
 |t (x:T)
 |ptr (b o:Nat)
 |cG (b sz i o:Nat)
 |dN (ts:List T)(o:Nat)
 |arr (b sz off len:Nat)
 |fJ (b sz off len:Nat)
 |mp (b:Nat)
 |ey (b:Nat)
 |cM (b len:Nat)
 |az
 |e9
 |e7
 |fn (f:Nat)(caps:a8)
 |dead
inductive V where
 |c (x:C)
 |agg (cs:List C)
 |aY (vs:List V)
inductive bP where
 |box (cs:List C)
 |arr (sz:Nat)(es:List (List T))
 |set (ks:List ak)
 |buf (E:TypeId)(s:ak)
 |b7 (E:TypeId)(c:C)
 |cA (sz:Nat)(es:List (List T))(i o:Nat)(c:C)
abbrev dT:=Nat->Nat->Prop
abbrev dE:=Nat->Nat×Nat
def eG:Nat:=9223372036854775807
def eI:Nat:=281474976710656
inductive cd (w:World)(S:dT):T->Value->Prop
 |bool (b:Bool):cd w S (.bool b) (.bool b)
 |int (k:IntKind) (n:Int):cd w S (.int k n) (.int k n)
 |str (s:ByteArray) (h:s.size<=eG):cd w S (.str s.data.toList) (.string s)
 |slice (es:List (List T)) (a:Option Addr) (cap sz b o:Nat) (f:Nat->Nat->Value)
  (aip:es.length<=cap) (ait:es.length<=eI)
  (aix:∀e,e∈es->e.length=sz)
  (x0:es≠[]->a=some ⟨b,o,none⟩)
  (Si:∀i j,i<es.length->j<sz->S b (o+i*sz+j)/\w.cell? ⟨b,o+i*sz+j,none⟩=some (f i j))
  (Sj:∀i j e t,es[i]?=some e->e[j]?=some t->cd w S t (f i j)):
  cd w S (.slice es) (.slice a es.length cap)
structure gx (w:World)(S:dT)(w':World)(bR:dT):Prop where
 sub:∀b j,S b j->bR b j
 cell:∀b j,S b j->w'.cell? ⟨b,j,none⟩=w.cell? ⟨b,j,none⟩
theorem gx.refl(w:World)(S:dT):gx w S w S:=⟨λ_ _ h=>h,λ_ _ _=>rfl⟩
theorem gx.trans{w S w' bR e c}(h:gx w S w' bR)(k:gx w' bR e c):gx w S e c:=
 ⟨λb j a=>k.sub b j (h.sub b j a),λb j a=>(k.cell b j (h.sub b j a)).trans (h.cell b j a)⟩
theorem cd.mono{w S w' bR}(m:gx w S w' bR){t v}(h:cd w S t v):cd w' bR t v:=by
 induction h with
 |bool b=>exact .bool b
 |int k n=>exact .int k n
 |str s h=>exact .str s h
 |slice es a cap sz b o f x y A q c B ih=>
  exact .slice es a cap sz b o f x y A q
   (λi j e p=>⟨m.sub _ _ (c i j e p).1,by rw[m.cell _ _ (c i j e p).1];exact(c i j e p).2⟩) ih
theorem cd.ji{w S t v}(h:cd w S t v):v.oneCell'=true:=by cases h<;>rfl
def bn(φ:dE)(w:World)(S:dT):C->Value->Prop
 |.t x,v=>cd w S x v
 |.ptr b o,v=>v= .pointer (some ⟨(φ b).1,o,none⟩)
 |.cG b sz i o,v=>v= .pointer (some ⟨(φ b).1,i*sz+o,none⟩)
 |.dN ts o,v=>∃ (blk off:Nat) (f:Nat->Value),v = .pointer (some ⟨blk,off+o,none⟩)/\
  ∀j t,ts[j]?=some t->S blk (off+j)/\w.cell? ⟨blk,off+j,none⟩=some (f j)/\cd w S t (f j)
 |.arr b sz off len,v=>∃a,v= .slice a len ((φ b).2-off)/\((φ b).2≠0->a=some ⟨(φ b).1,off*sz,none⟩)/\off+len<=(φ b).2
 |.fJ b sz off len,v=>∃a cap,v= .slice a len cap/\(len≠0->a=some ⟨(φ b).1,off*sz,none⟩)/\len<=cap
 |.mp b,v=>v= .map (some (φ b).1)
 |.cM b len,v=>len<=(φ b).2/\((φ b).2=0->v= .slice none 0 0)/\((φ b).2≠0->v= .slice (some ⟨(φ b).1,0,none⟩) len (φ b).2)
 |.ey b,v=>∃p,v= .pointer p/\((φ b).2≠0->p=some ⟨(φ b).1,0,none⟩)
 |.az,v=>∃a,v= .slice a 0 0
 |.e9,v=>v= .pointer none
 |.e7,v=>v= .nilFunc
 |.fn f caps,v=>v= .func (.func f) #[] (caps.map λb=>Value.pointer (some ⟨(φ b).1,0,none⟩)).toArray
 |.dead,v=>v.oneCell'=true
theorem bn.ji{φ w S c v}(h:bn φ w S c v):v.oneCell'=true:=by
 cases c with
 |t x=>exact cd.ji h
 |dN ts o=>obtain⟨_,_,_,rfl,_⟩:=h;rfl
 |arr b sz off len=>obtain⟨_,rfl,_⟩:=h;rfl
 |fJ b sz off len=>obtain⟨_,_,rfl,_⟩:=h;rfl
 |ey b=>obtain⟨_,rfl,_⟩:=h;rfl
 |cM b len=>
  by_cases h0:(φ b).2=0
  . rw[h.2.1 h0];rfl
  . rw[h.2.2 h0];rfl
 |az=>obtain⟨_,rfl⟩:=h;rfl
 |dead=>exact h
 |_=>cases h;rfl
def C.aD(n:Nat->Bool):C->Bool
 |.ptr b _=>n b
 |.cG b _ _ _=>n b
 |.arr b _ _ _=>n b
 |.fJ b _ _ _=>n b
 |.mp b=>n b
 |.ey b=>n b
 |.cM b _=>n b
 |.fn _ caps=>caps.all λb=>n b
 |_=>true
def V.aD(n:Nat->Bool):V->Bool
 |.c x=>x.aD n
 |.agg cs=>cs.all (C.aD n)
 |.aY vs=>V.dI n vs
where V.dI (n:Nat->Bool):List V->Bool
 |[]=>true
 |v::vs=>v.aD n&&V.dI n vs
theorem bn.mono{φ p:dE}{w S w' bR}(m:gx w S w' bR){n:Nat->Bool}(e:∀b,n b=true->p b=φ b){c v}(a:c.aD n=true)(h:bn φ w S c v):bn p w' bR c v:=by
 cases c with
 |t x=>exact cd.mono m h
 |ptr b o=>simp only[C.aD]at a;simp only[bn,e b a]at h⊢;exact h
 |cG b sz i o=>simp only[C.aD]at a;simp only[bn,e b a]at h⊢;exact h
 |dN ts o=>
  obtain⟨blk,off,f,rfl,aa⟩:=h;exact⟨blk,off,f,rfl,λj t ht=>⟨m.sub _ _ (aa j t ht).1,by rw[m.cell _ _ (aa j t ht).1];exact(aa j t ht).2.1,cd.mono m (aa j t ht).2.2⟩⟩
 |arr b sz off len=>simp only[C.aD]at a;simp only[bn,e b a]at h⊢;exact h
 |fJ b sz off len=>simp only[C.aD]at a;simp only[bn,e b a]at h⊢;exact h
 |mp b=>simp only[C.aD]at a;simp only[bn,e b a]at h⊢;exact h
 |ey b=>simp only[C.aD]at a;simp only[bn,e b a]at h⊢;exact h
 |cM b len=>simp only[C.aD]at a;simp only[bn,e b a]at h⊢;exact h
 |az=>exact h
 |e9=>exact h
 |e7=>exact h
 |fn f caps=>
  simp only[bn]at h⊢;rw[h]
  congr 2
  apply List.map_congr_left;intro b q;simp only[C.aD,dH]at a;grind
 |dead=>exact h
inductive ba {α β:Type}(R:α->β->Prop):List α->List β->Prop
 |nil:ba R [] []
 |cons {a b l m}:R a b->ba R l m->ba R (a::l) (b::m)
theorem ba.imp{f:Type}{R R':α->f->Prop}{l m}(h:ba R l m)(k:∀a b,a∈l->R a b->R' a b):ba R' l m:=by
 induction h with
 |nil=>exact .nil
 |cons e _ ih=>exact .cons (k _ _ (by simp) e) (ih λa b c=>k a b (by simp[c]))
theorem ba.length{l:List α}{m:List a}(h:ba R l m):l.length=m.length:=by
 induction h with
 |nil=>rfl
 |cons _ _ ih=>simp[ih]
variable{e:Type}
theorem ba.get{R:α->e->Prop}{l:List α}{m:List e}(h:ba R l m){i:Nat}{a:α}(c:l[i]?=some a):∃b,m[i]?=some b/\R a b:=by
 induction h generalizing i with
 |nil=>simp at c
 |cons f _ ih=>cases i with
  |zero=>simp at c;subst c;exact⟨_,by simp,f⟩
  |succ i=>simp at c;simpa using ih c
theorem ba.lE{c:Type}{R:α->c->Prop}:∀{l:List α} {m:List c},l.length=m.length->(∀(i:Nat) a b,l[i]?=some a->m[i]?=some b->R a b)->ba R l m
 |[],[],_,_=>.nil
 |[],_::_,h,_=>by simp at h
 |_::_,[],h,_=>by simp at h
 |a::l,b::m,h,k=>.cons (k 0 a b (by simp) (by simp)) (ba.lE (by simpa using h) λi x y e f=>k (i+1) x y (by simpa using e) (by simpa using f))
theorem ba.append{R:α->e->Prop}{l a:List α}{m c:List e}(h:ba R l m)(f:ba R a c):ba R (l++a) (m++c):=by
 induction h with
 |nil=>exact f
 |cons j _ ih=>exact .cons j ih
theorem ba.drop{l:List α}{m:List a}(h:ba R l m)(k:Nat):ba R (l.drop k) (m.drop k):=by
 induction h generalizing k with
 |nil=>simp;exact .nil
 |cons c ht ih=>cases k with
  |zero=>exact .cons c ht
  |succ k=>simpa using ih k
theorem ba.take{l:List α}{m:List a}(h:ba R l m)(k:Nat):ba R (l.take k) (m.take k):=by
 induction h generalizing k with
 |nil=>simp;exact .nil
 |cons c _ ih=>cases k with
  |zero=>exact .nil
  |succ k=>exact .cons c (ih k)
inductive cl (φ:dE)(w:World)(S:dT):V->Value->Prop
 |c {x v}:bn φ w S x v->cl φ w S (.c x) v
 |agg {cs vs}:ba (bn φ w S) cs vs->cl φ w S (.agg cs) (.agg vs.toArray)
 |aY (vs:List V) (xs:List Value) (af:vs.length = xs.length) (h:∀ (i:Nat) v x,vs[i]? = some v->xs[i]? = some x->cl φ w S v x):
  cl φ w S (.aY vs) (.tuple xs.toArray)
theorem nT{n:Nat->Bool}:∀{vs:List V} {i:Nat} {v:V},V.aD.V.dI n vs=true->vs[i]?=some v->v.aD n=true
 |[],_,_,_,h=>by simp at h
 |x::vs,0,v,a,h=>by simp at h;subst h;simp[V.aD.V.dI]at a;exact a.1
 |x::vs,i+1,v,a,h=>by simp[V.aD.V.dI]at a;exact nT a.2 (by simpa using h)
theorem cl.mono{φ o:dE}{w S w' bR}(m:gx w S w' bR){n:Nat->Bool}(j:∀b,n b=true->o b=φ b){x v}(e:V.aD n x=true)(h:cl φ w S x v):cl o w' bR x v:=by
 induction h with
 |c h=>exact .c (bn.mono m j (by simpa[V.aD]using e) h)
 |agg h=>exact .agg (h.imp λa b p q=>bn.mono m j (by simp[V.aD]at e;exact e a p) q)
 |aY vs xs af h ih=>exact .aY vs xs af λi v x f t=>ih i v x f t (nT (by simpa[V.aD]using e) f)
end
section
open Go
inductive aQ where
 |tmp (t:Nat)
 |const (v:V)
inductive cP where
 |mov (x:aQ)
 |pick (c x y:aQ)
 |alloc (cs:List C)
 |box (x:aQ)
 |build (zero:List C)(parts:List (Nat×Nat×aQ))
 |bslice (sz:Nat)(len:Nat)(zero:List C)(parts:List (Nat×aQ))
 |load (agg:Bool)(n:Nat)(x:aQ)
 |store (n:Nat)(x v:aQ)
 |nilCheck (x:aQ)
 |bin (op:BinOp)(x y:aQ)
 |eqAgg (neg:Bool)(ks:a8)(x y:aQ)
 |eqBool (neg:Bool)(x y:aQ)
 |eqNil (neg:Bool)(x:aQ)
 |not (x:aQ)
 |conv (k:IntKind)(x:aQ)
 |i2s (x:aQ)
 |s2s (x:aQ)
 |fldA (off:Nat)(x:aQ)
 |fld (agg:Bool)(off n:Nat)(x:aQ)
 |idxA (sz:Nat)(x i:aQ)
 |idxS (x i:aQ)
 |slcS (x:aQ)(ot BP:Option aQ)
 |slc (sz:Nat)(x:aQ)(ot BP:Option aQ)
 |slc0 (x:aQ)
 |allocA (cs:List C)
 |idxP (n:Nat)(x i:aQ)
 |slcP (n:Nat)(x:aQ)(ot BP:Option aQ)
 |b2s (x:aQ)
 |allocS (e e8:Nat)
 |bsliceT (e sz len:Nat)(zero:List C)(parts:List (Nat×aQ))
 |mkset
 |lkset (x k:aQ)
 |upset (x k:aQ)
 |appendB (e bytes:Nat)(x y:aQ)
 |sdata (x:aQ)
 |ustr (e:Nat)(x n:aQ)
 |mkfn (f:Nat)(caps:List aQ)
 |ext (x:aQ)(i:Nat)
 |len (str:Bool)(x:aQ)
 |append (sz bytes:Nat)(x y:aQ)
 |max2 (x y:aQ)
 |min2 (x y:aQ)
 |call (f:Nat)(args:List aQ)
 |iE (x:aQ)(args:List aQ)
structure cb where
 dst:Option Nat
 op:cP
 guard:Option (Nat×Bool)
def Cj:Value->Option C
 |.bool b=>some (.t (.bool b))
 |.int k n=>some (.t (.int k n))
 |.string s=>if s.size<=eG then some (.t (.str s.data.toList))else none
 |.slice none 0 0=>some .az
 |.pointer none=>some .e9
 |.nilFunc=>some .e7
 |.nilIface=>some .dead
 |_=>none
def wL:List Value->Option (List C)
 |[]=>some []
 |v::vs=>(Cj v).bind λc=>(wL vs).map (c::·)
def HR:Value->Option V
 |.agg cs=>(wL cs.toList).map .agg
 |v=>(Cj v).map .c
def bM:Operand->Option aQ
 |.tmp t=>some (.tmp t)
 |.const v=>(HR v).map .const
 |.func f=>some (.const (.c (.fn f [])))
 |.global _=>none
def nb:List Operand->Option (List aQ)
 |[]=>some []
 |x::xs=>(bM x).bind λa=>(nb xs).map (a::·)
def ki:Option Operand->Option (Option aQ)
 |none=>some none
 |some x=>(bM x).map some
def kY(P:Program)(t:TypeId):Option (List C):=
 (P.info? t).bind λi=>i.zero.bind λz=>wL z.cells.toList
def pQ(P:Program)(t:TypeId):Option Bool:=
 match P.underlying t with
 |some (.struct _)|some (.array _ _)=>some true
 |some _=>some false
 |none=>none
def eM(P:Program)(t:TypeId):Option Nat:=(P.info? t).map (·.size)
def tl(P:Program)(t:TypeId):Option (Bool×Nat):=
 (pQ P t).bind λg=>(eM P t).bind λn=>if g=false->n=1 then some (g,n)else none
def hj(P:Program)(f:Nat):Bool:=
 match P.funcs[f]? with
 |some fn=>fn.body.isSome && !(fn.name == "runtime.NumGoroutine")
 |none=>false
def x3(P:Program)(t:TypeId):Option Nat:=
 match P.underlying t with
 |some .bool=>some 0
 |some (.int _)=>some 1
 |some .string=>some 2
 |_=>none
def zb(P:Program):Nat->List Field->Option a8
 |_,[]=>some []
 |i,f::fs=>if f.offset = i/\f.name≠ "_" then (x3 P f.type).bind λk=>(zb P (i+1) fs).map (k :: ·) else none
def Hq(P:Program)(t:TypeId):Option a8:=
 match P.underlying t with
 |some (.struct fs)=>if P.stoodInHeld t=false/\P.eqGuardType P.depth t=false then zb P 0 fs.toList else none
 |_=>none
def HK(P:Program)(fs:Array Field):Bool:=fs.toList.all λf=>(eM P f.type).isSome
def wv(P:Program)(fs:Array Field):List (Nat×Operand)->Option (List (Nat×Nat×aQ))
 |[]=>some []
 |(j,x)::r=>(fs[j]?).bind λf=>(eM P f.type).bind λn=>(bM x).bind λa=>(wv P fs r).map ((f.offset,n,a)::·)
def vN(n:Nat):List (Nat×Operand)->Option (List (Nat×Nat×aQ))
 |[]=>some []
 |(j,x)::r=>(bM x).bind λa=>(vN n r).map ((j*n,n,a)::·)
def pL:List (Nat×Operand)->Option (List (Nat×aQ))
 |[]=>some []
 |(j,x)::r=>(bM x).bind λa=>(pL r).map ((j,a)::·)
def mN(P:Program)(c:Call):Option cP:=
 match c.callee with
 |.builtin .len=>match c.args.toList,c.argTypes.toList with
  |[x],[t]=>match P.underlying t with
   |some .string=>(bM x).map (.len true)
   |some (.slice _)=>(bM x).map (.len false)
   |_=>none
  |_,_=>none
 |.builtin .append=>match c.args.toList,c.argTypes.toList with
  |[x,y],[t,u]=>match P.underlying t,P.underlying u with
   |some (.slice e),some .string=>(P.info? e).bind λi=>(bM x).bind λa=>(bM y).bind λb=>
    if i.size=1/\(i.zero.map (·.cells.size))=some 1/\(match P.underlying e with|some (.int .u8)=>true|_=>false)=true then some (.appendB e i.bytes a b)else none
   |some (.slice e),some (.slice _)=>(P.info? e).bind λi=>(bM x).bind λa=>(bM y).bind λb=>
    if i.size≠0/\(i.zero.map (·.cells.size))=some i.size then some (.append i.size i.bytes a b)else none
   |_,_=>none
  |_,_=>none
 |.builtin .max=>match c.args.toList with
  |[x,y]=>(bM x).bind λa=>(bM y).map λb=>.max2 a b
  |_=>none
 |.builtin .min=>match c.args.toList with
  |[x,y]=>(bM x).bind λa=>(bM y).map λb=>.min2 a b
  |_=>none
 |.builtin .unsafeSliceData=>match c.args.toList,c.argTypes.toList with
  |[x],[t]=>match P.underlying t with
   |some (.slice e)=>if eM P e=some 1 then(bM x).map .sdata else none
   |_=>none
  |_,_=>none
 |.builtin .unsafeString=>match c.args.toList,c.argTypes.toList with
  |[x,n],[t,_]=>match P.underlying t with
   |some (.pointer e)=>if(match P.underlying e with|some (.int .u8)=>true|_=>false)=true/\eM P e=some 1/\P.cellsOf e=1 then(bM x).bind λa=>(bM n).map λb=>.ustr e a b else none
   |_=>none
  |_,_=>none
 |.value (.func f)=>if hj P f then(nb c.args.toList).map (.call f)else none
 |.value (.tmp t)=>(nb c.args.toList).map (.iE (.tmp t))
 |_=>none
def aa6(P:Program)(t:TypeId):Bool:=
 match P.info? t with
 |some i=>(match i.desc with|.named n _=>n == "strings.Builder" |_=>false)
 |none=>false
def Jt:List Value->Bool
 |[.pointer none,.slice none 0 0]=>true
 |_=>false
def Nt(P:Program)(t:TypeId):Bool:=
 match (P.info? t).bind (·.zero)with
 |some z=>Jt z.cells.toList
 |none=>false
def y5(P:Program)(t:TypeId):Option Nat:=
 if aa6 P t=true/\Nt P t=true then match P.underlying t with
  |some (.struct fs)=>(fs[1]?).bind λf=>match P.underlying f.type with
   |some (.slice e)=>some e
   |_=>none
  |_=>none
 else none
def tK(P:Program)(t:TypeId):Bool:=
 match P.underlying t with
 |some (.map k v)=>(match P.underlying k,P.underlying v with|some .string,some .bool=>true|_,_=>false)&&(match (P.info? v).bind (·.zero)with|some (.bool false)=>true|_=>false)
 |_=>false
def HL:Operand->Bool
 |.const (.bool true)=>true
 |_=>false
def Hr:Operand->Bool
 |.const (.slice none 0 0)=>true
 |_=>false
def c6(P:Program)(o:Op):Option cP:=
 match o with
 |.move x|.assign x=>(bM x).map .mov
 |.pick c a b=>(bM c).bind λc=>(bM a).bind λa=>(bM b).map λb=>.pick c a b
 |.alloc e=>match y5 P e with
  |some e8=>some (.allocS e e8)
  |none=>(kY P e).bind λcs=>match P.underlying e with
   |some (.array n t)=>if eM P t=some 1/\n=cs.length/\n≠0/\n<=2^24 then some (.allocA cs)else some (.alloc cs)
   |_=>some (.alloc cs)
 |.box _ x=>(bM x).map .box
 |.build t parts=>match P.underlying t with
  |some (.struct fs)=>if HK P fs then(kY P t).bind λz=>(wv P fs parts.toList).map λps=>.build z ps else none
  |some (.array _ e)=>(kY P t).bind λz=>(eM P e).bind λn=>(vN n parts.toList).map λps=>.build z ps
  |_=>none
 |.buildSlice t len parts=>match P.underlying t with
  |some (.slice e)=>(eM P e).bind λn=>(kY P e).bind λz=>(pL parts.toList).bind λps=>
   if n≠0/\z.length=n/\len*n<=2^24 then some (.bslice n len z ps)else none
  |_=>none
 |.load t a=>(tl P t).bind λg=>(bM a).map λx=>.load g.1 g.2 x
 |.store t a v=>(eM P t).bind λn=>(bM a).bind λx=>(bM v).map λy=>.store n x y
 |.nilCheck x=>(bM x).map .nilCheck
 |.binOp op t x y _=>
  if op= .eql\/op= .neq then match P.underlying t with
   |some (.struct _)=>(Hq P t).bind λks=>(bM x).bind λa=>(bM y).map λb=>.eqAgg (op== .neq) ks a b
   |some (.slice _)=>if Hr y then(bM x).map (.eqNil (op== .neq))else none
   |some .bool=>(bM x).bind λa=>(bM y).map λb=>.eqBool (op== .neq) a b
   |some (.int _)|some .string=>(bM x).bind λa=>(bM y).map λb=>.bin op a b
   |_=>none
  else(bM x).bind λa=>(bM y).map λb=>.bin op a b
 |.unOp .not _ x=>(bM x).map .not
 |.unOp .neg t x=>match P.underlying t with
  |some (.int k)=>(bM x).map (.bin .sub (.const (.c (.t (.int k 0)))))
  |_=>none
 |.unOp .xor t x=>match P.underlying t with
  |some (.int k)=>(bM x).map (.bin .xor (.const (.c (.t (.int k (if k.signed then -1 else k.max))))))
  |_=>none
 |.convert s d x=>match P.underlying s,P.underlying d with
  |some (.int _),some (.int k)=>(bM x).map (.conv k)
  |some (.int _),some .string=>(bM x).map .i2s
  |some .string,some .string=>(bM x).map .s2s
  |some (.slice e),some .string=>if(match P.underlying e with|some (.int .u8)=>true|_=>false)=true/\eM P e=some 1 then(bM x).map .b2s else none
  |_,_=>none
 |.fieldAddr t x f=>match P.underlying t with
  |some (.struct fs)=>(fs[f]?).bind λj=>(eM P j.type).bind λn=>if n=0 then none else(bM x).map (.fldA j.offset)
  |_=>none
 |.field t x f=>match P.underlying t with
  |some (.struct fs)=>(fs[f]?).bind λj=>(tl P j.type).bind λg=>(bM x).map (.fld g.1 j.offset g.2)
  |_=>none
 |.indexAddr t x i=>match P.underlying t with
  |some (.slice e)=>(eM P e).bind λn=>if n=0 then none else(bM x).bind λa=>(bM i).map λb=>.idxA n a b
  |some (.array n e)=>match i with
   |.const (.int _ m)=>if 0<=m/\m.toNat<n then(eM P e).bind λs=>(bM x).map (.fldA (m.toNat*s))else none
   |i=>if eM P e=some 1 then(bM x).bind λa=>(bM i).map λb=>.idxP n a b else none
  |_=>none
 |.index t x i=>match P.underlying t with
  |some .string=>(bM x).bind λa=>(bM i).map λb=>.idxS a b
  |_=>none
 |.slice t x q p r=>match P.underlying t with
  |some .string=>if r.isNone then(bM x).bind λa=>(ki q).bind λl=>(ki p).map λh=>.slcS a l h else none
  |some (.slice e)=>match r with
   |none=>(eM P e).bind λn=>if n=0 then none else(bM x).bind λa=>(ki q).bind λl=>(ki p).map λh=>.slc n a l h
   |some (.const (.int _ 0))=>match q,p with
    |none,some (.const (.int _ 0))=>if(eM P e).isSome then(bM x).map .slc0 else none
    |_,_=>none
   |_=>none
  |some (.array n e)=>if r.isNone/\eM P e=some 1 then(bM x).bind λa=>(ki q).bind λl=>(ki p).map λh=>.slcP n a l h else none
  |_=>none
 |.makeFunc (.func f) first caps=>if first.isEmpty then(nb caps.toList).map (.mkfn f)else none
 |.extract x i=>(bM x).map λa=>.ext a i
 |.makeMap t none=>if tK P t then some .mkset else none
 |.lookup t x i false=>if tK P t then(bM x).bind λa=>(bM i).map λb=>.lkset a b else none
 |.mapUpdate t m k v=>if tK P t=true/\HL v=true then(bM m).bind λa=>(bM k).map λb=>.upset a b else none
 |.call c=>mN P c
 |_=>none
def tx(ops:Array Oper):Option (Nat×Bool)->Option (Option (Nat×Bool))
 |none=>some none
 |some (j,b)=>((ops[j]?).bind (·.dst)).map λd=>some (d,b)
def ve(d:Nat):Operand->Bool
 |.tmp t=>t==d
 |_=>false
def zC(d:Nat):Op->Bool
 |.call c=>match c.callee with
  |.builtin .append=>(c.args.toList.drop 1).any (ve d)
  |.value (.func _)=>c.args.toList.any (ve d)
  |_=>false
 |.build _ ps=>ps.toList.any λp=>ve d p.2
 |.buildSlice _ _ ps=>ps.toList.any λp=>ve d p.2
 |.convert _ _ x=>ve d x
 |.indexAddr _ x _=>ve d x
 |_=>false
def KR(ops:Array Oper)(o:Oper):Bool:=
 match o.dst with
 |some d=>ops.toList.any λq=>zC d q.op
 |none=>false
def wx(P:Program)(a:Bool)(o:Op):Option cP:=
 match o,a with
 |.buildSlice t len parts,true=>match P.underlying t with
  |some (.slice e)=>(eM P e).bind λn=>(kY P e).bind λz=>(pL parts.toList).bind λps=>
   if n≠0/\z.length=n/\len*n<=2^24 then some (.bsliceT e n len z ps)else none
  |_=>none
 |o,_=>c6 P o
def wm(P:Program)(nt:Nat)(ops:Array Oper)(o:Oper):Option cb:=
 (wx P (KR ops o) o.op).bind λp=>(tx ops o.guard).bind λg=>
  match o.dst with
  |none=>some ⟨none,p,g⟩
  |some d=>if d<nt then some ⟨some d,p,g⟩else none
def jt(P:Program)(nt:Nat)(ops:Array Oper):List Oper->Option (List cb)
 |[]=>some []
 |o::r=>(wm P nt ops o).bind λa=>(jt P nt ops r).map (a::·)
inductive dA where
 |skip
 |region (ops:List cb)
 |oA (ops:List cb)(gg:List (Nat×Nat))
 |seq (a b:dA)
 |cond (c:aQ)(x y:dA)
 |block (id:Nat)(b:dA)
 |loop (b:dA)
 |exit (id:Nat)
 |ret
def cP.neutral:cP->Bool
 |.alloc _|.allocA _|.box _|.bslice .. |.store .. |.append .. |.call .. |.iE .. |.eqNil .. =>false
 |.allocS .. |.mkset|.upset .. |.appendB .. |.ustr .. =>false
 |_=>true
def cP.h9:cP->Bool
 |.alloc _|.allocA _|.b2s _|.box _|.bslice .. |.store .. |.append .. |.load .. =>true
 |.allocS .. |.mkset|.lkset .. |.upset .. |.appendB .. |.ustr .. |.call .. =>true
 |_=>false
def cP.drawn:cP->Bool
 |.eqNil .. =>false
 |_=>true
def aQ.tmps:aQ->a8
 |.tmp t=>[t]
 |.const _=>[]
def ur:Option aQ->a8
 |none=>[]
 |some x=>x.tmps
def cP.reads:cP->a8
 |.mov x=>x.tmps
 |.pick c x y=>c.tmps++x.tmps++y.tmps
 |.alloc _|.allocA _=>[]
 |.box x=>x.tmps
 |.build _ ps=>ps.flatMap λp=>p.2.2.tmps
 |.bslice _ _ _ ps=>ps.flatMap λp=>p.2.tmps
 |.load _ _ x=>x.tmps
 |.store _ x v=>x.tmps++v.tmps
 |.nilCheck x=>x.tmps
 |.bin _ x y=>x.tmps++y.tmps
 |.eqAgg _ _ x y=>x.tmps++y.tmps
 |.eqBool _ x y=>x.tmps++y.tmps
 |.eqNil _ x=>x.tmps
 |.not x=>x.tmps
 |.conv _ x=>x.tmps
 |.i2s x=>x.tmps
 |.s2s x=>x.tmps
 |.fldA _ x=>x.tmps
 |.fld _ _ _ x=>x.tmps
 |.idxA _ x i=>x.tmps++i.tmps
 |.idxS x i=>x.tmps++i.tmps
 |.slcS x e a=>x.tmps++ur e++ur a
 |.slc _ x e a=>x.tmps++ur e++ur a
 |.slc0 x=>x.tmps
 |.b2s x=>x.tmps
 |.allocS .. |.mkset=>[]
 |.bsliceT _ _ _ _ ps=>ps.flatMap λp=>p.2.tmps
 |.lkset x k=>x.tmps++k.tmps
 |.upset x k=>x.tmps++k.tmps
 |.appendB _ _ x y=>x.tmps++y.tmps
 |.sdata x=>x.tmps
 |.ustr _ x k=>x.tmps++k.tmps
 |.idxP _ x i=>x.tmps++i.tmps
 |.slcP _ x e a=>x.tmps++ur e++ur a
 |.mkfn _ caps=>caps.flatMap aQ.tmps
 |.ext x _=>x.tmps
 |.len _ x=>x.tmps
 |.append _ _ x y=>x.tmps++y.tmps
 |.max2 x y=>x.tmps++y.tmps
 |.min2 x y=>x.tmps++y.tmps
 |.call _ args=>args.flatMap aQ.tmps
 |.iE x args=>x.tmps++args.flatMap aQ.tmps
def cb.rd(o:cb):a8:=o.op.reads++(match o.guard with|none=>[]|some (t,_)=>[t])
def hn(o:Oper):a8:=(o.after.toList.filter (Region.binds .any)).map (·.on)
def ahead(l:List (cb×a8))(j i:Nat):Bool:=decide (j<i)&&((l[i]?).map λx=>x.2.contains j).getD false
def Er:Nat->List (cb×a8)->Bool
 |_,[]=>true
 |i,x::r=>x.2.all (· < i)&&Er (i+1) r
def S1(l:List (cb×a8)):Bool:=
 l.zipIdx.all λx=>l.zipIdx.all λy=>
  match y.1.1.dst with
  |none=>true
  |some d=>(!(x.1.1.rd.contains d)||ahead l y.2 x.2||(x.1.1.op.neutral && !x.1.1.op.h9&&ahead l x.2 y.2))&&(x.2==y.2 || !(x.1.1.dst==some d))
def nv:List (cb×a8)->List a8->List a8
 |[],acc=>acc
 |x::r,acc=>nv r (acc++[(x.2++x.2.flatMap λe=>acc.getD e []).eraseDups])
def og(a:List a8)(j i:Nat):Bool:=decide (j<i)&&(a.getD i []).contains j
def Fb(a:List a8)(l:List (cb×a8)):List (Nat×Nat):=
 l.zipIdx.flatMap λx=>if x.1.1.op.neutral then[]else l.zipIdx.filterMap λy=>
  if y.1.1.op.h9 && !(x.2==y.2) && !(og a x.2 y.2) && !(og a y.2 x.2)then some (x.2,y.2)else none
def lq(l:List (cb×a8)):List (Nat×Nat):=Fb (nv l []) l
def Ec(l:List (cb×a8)):Bool:=(List.range (l.length-1)).all λi=>l.zipIdx.any λy=>decide (i<y.2)&&y.1.2.contains i
def tm(l:List (cb×a8)):Bool:=Er 0 l&&S1 l&&l.all λx=>x.1.op.drawn
def sF(l:List (cb×a8)):List (Nat×Nat):=
 if decide (2<=l.length)&&Ec l&&tm l.dropLast then(l.length,0)::(lq l++lq l.dropLast)else lq l
def ft(ops:Array Oper)(bb:List cb):List (cb×a8):=bb.zip (ops.toList.map hn)
def resolve(P:Program)(nt:Nat):Code->Option dA
 |.skip=>some .skip
 |.region _ ops d=>(jt P nt ops ops.toList).bind λbb=>
  if d then(if tm (ft ops bb)&&P.follows .mixedOrders then some (.oA bb (sF (ft ops bb)))else none)else some (.region bb)
 |.seq a b=>(resolve P nt a).bind λx=>(resolve P nt b).map λy=>.seq x y
 |.cond c a b=>(bM c).bind λo=>(resolve P nt a).bind λx=>(resolve P nt b).map λy=>.cond o x y
 |.block id b=>(resolve P nt b).map (.block id)
 |.loop b=>(resolve P nt b).map .loop
 |.exit id=>some (.exit id)
 |.ret=>some .ret
 |_=>none
abbrev Env:=List (Nat×Bool×V)
abbrev a':=List (Nat×bP)
def look:Env->Nat->Option (Bool×V)
 |[],_=>none
 |(k,x)::r,i=>if k=i then some x else look r i
def aX:a'->Nat->Option bP
 |[],_=>none
 |(k,x)::r,i=>if k=i then some x else aX r i
def df:a'->Nat->bP->a'
 |[],b,x=>[(b,x)]
 |(k,y)::r,b,x=>if k=b then(k,x)::r else(k,y)::df r b x
def h8:a'->Nat->a'
 |[],_=>[]
 |(k,y)::r,b=>if k=b then h8 r b else(k,y)::h8 r b
theorem c2(J:a')(b:Nat)(x:bP)(i:Nat):aX (df J b x) i=if b=i then some x else aX J i:=by
 induction J with
 |nil=>rfl
 |cons y r ih=>
  obtain⟨k,y⟩:=y;by_cases a:k=b
  . grind[df,aX]
  . simp[df,al a,aX];grind
theorem fP(J:a')(b:Nat)(i:Nat):aX (h8 J b) i=if b=i then none else aX J i:=by
 induction J with
 |nil=>simp[h8,aX]
 |cons y r ih=>
  obtain⟨k,y⟩:=y;by_cases a:k=b
  . grind[h8,aX]
  . simp[h8,al a,aX];grind
def aQ.get(env:Env):aQ->Option (Prop×V)
 |.const v=>some (True,v)
 |.tmp t=>(look env t).map λx=>(x.1=true,x.2)
def hP(env:Env):List aQ->Option (Prop×List V)
 |[]=>some (True,[])
 |x::xs=>(x.get env).bind λa=>(hP env xs).map λb=>(a.1/\b.1,a.2::b.2)
def jS(env:Env):Option aQ->Option (Prop×Option Int)
 |none=>some (True,none)
 |some x=>(x.get env).bind λa=>match a.2 with
  |.c (.t (.int _ n))=>some (a.1,some n)
  |_=>none
def pR:V->Option (List C)
 |.c x=>some [x]
 |.agg cs=>some cs
 |.aY _=>none
def toT:C->Option T
 |.t x=>some x
 |.az=>some (.slice [])
 |_=>none
def toTs:List C->Option (List T)
 |[]=>some []
 |c::cs=>(toT c).bind λt=>(toTs cs).map (t::·)
def el(es:List (List T))(i:Nat):List T:=es.getD i []
def qE(a:List C)(off:Nat)(cs:List C):List C:=a.take off++cs++a.drop (off+cs.length)
def lr(env:Env):List C->List (Nat×Nat×aQ)->Option (Prop×List C)
 |c,[]=>some (True,c)
 |c,(off,n,x):: r=>(x.get env).bind λa=>(pR a.2).bind λcs=>
  if cs.length=n/\off+n<=c.length then(lr env (qE c off cs) r).map λb=>(a.1/\b.1,b.2)else none
def jO(env:Env)(sz:Nat):List (List T)->List (Nat×aQ)->Option (Prop×List (List T))
 |es,[]=>some (True,es)
 |es,(i,x):: r=>(x.get env).bind λa=>(pR a.2).bind λcs=>(toTs cs).bind λts=>
  if ts.length=sz/\i<es.length then(jO env sz (es.set i ts) r).map λb=>(a.1/\b.1,b.2)else none
def qz:BinOp->T->T->Option (Prop×T)
 |.add,.int k a,.int c b=>if k=c then some (True,.int k (k.wrap (a+b)))else none
 |.sub,.int k a,.int c b=>if k=c then some (True,.int k (k.wrap (a-b)))else none
 |.mul,.int k a,.int c b=>if k=c then some (True,.int k (k.wrap (a*b)))else none
 |.quo,.int k a,.int c b=>if k=c then some (b≠0,.int k (k.wrap (a.tdiv b)))else none
 |.rem,.int k a,.int c b=>if k=c then some (b≠0,.int k (a.tmod b))else none
 |.and,.int k a,.int c b=>if k=c then some (True,.int k (k.wrap (BitVec.ofInt k.bits a &&& BitVec.ofInt k.bits b).toNat))else none
 |.or,.int k a,.int c b=>if k=c then some (True,.int k (k.wrap (BitVec.ofInt k.bits a ||| BitVec.ofInt k.bits b).toNat))else none
 |.xor,.int k a,.int c b=>if k=c then some (True,.int k (k.wrap (BitVec.ofInt k.bits a ^^^ BitVec.ofInt k.bits b).toNat))else none
 |.andNot,.int k a,.int c b=>if k=c then some (True,.int k (k.wrap (BitVec.ofInt k.bits a &&& ~~~ BitVec.ofInt k.bits b).toNat))else none
 |.shl,.int k a,.int _ b=>some (0<=b,.int k (k.wrap (a*2^min b.toNat k.bits)))
 |.shr,.int k a,.int _ b=>some (0<=b,.int k (a.fdiv (2^min b.toNat k.bits)))
 |.eql,.int k a,.int c b=>if k=c then some (True,.bool (decide (a=b)))else none
 |.neq,.int k a,.int c b=>if k=c then some (True,.bool (!decide (a=b)))else none
 |.lss,.int k a,.int c b=>if k=c then some (True,.bool (decide (a<b)))else none
 |.leq,.int k a,.int c b=>if k=c then some (True,.bool (decide (a<=b)))else none
 |.gtr,.int k a,.int c b=>if k=c then some (True,.bool (decide (b<a)))else none
 |.geq,.int k a,.int c b=>if k=c then some (True,.bool (decide (b<=a)))else none
 |.add,.str a,.str b=>some (a.length+b.length<=eG,.str (a++b))
 |.eql,.str a,.str b=>some (True,.bool (decide (a=b)))
 |.neq,.str a,.str b=>some (True,.bool (!decide (a=b)))
 |.lss,.str a,.str b=>some (True,.bool (Op.bytesLess a b))
 |.leq,.str a,.str b=>some (True,.bool (Op.bytesLess a b||decide (a=b)))
 |.gtr,.str a,.str b=>some (True,.bool (!(Op.bytesLess a b||decide (a=b))))
 |.geq,.str a,.str b=>some (True,.bool (!(Op.bytesLess a b)))
 |_,_,_=>none
def BL:Nat->T->T->Option Bool
 |0,.bool a,.bool b=>some (a==b)
 |1,.int k a,.int c b=>if k=c then some (decide (a=b))else none
 |2,.str a,.str b=>some (decide (a=b))
 |_,_,_=>none
def sM:a8->List C->List C->Option Bool
 |[],[],[]=>some true
 |k::ks,.t x::xs,.t y::a=>(BL k x y).bind λb=>(sM ks xs a).map λr=>b&&r
 |_,_,_=>none
abbrev A':=Option (Prop×V×a')
def loadT(agg:Bool)(n:Nat)(ts:List T)(o:Nat):Option V:=
 if agg then(if o+n<=ts.length then some (.agg (((ts.drop o).take n).map .t))else none)else(ts[o]?).map λt=>.c (.t t)
def jT(agg:Bool)(n:Nat)(cs:List C)(o:Nat):Option V:=
 if agg then(if o+n<=cs.length then some (.agg ((cs.drop o).take n))else none)else(cs[o]?).map .c
def ka:Nat:=281474976710656
def lR(n bytes:Nat):Prop:=(2*n+192)*bytes<=ka\/(n+n/4+512)*bytes<=ka
def mn(J:a'):V->Option (List (List T)×Option Nat)
 |.c (.t (.slice a))=>some (a,none)
 |.c .az=>some ([],none)
 |.c (.arr b d off len)=>match aX J b with
  |some (.arr e a)=>if d=e/\off=0/\len=a.length then some (a,some b)else none
  |_=>none
 |_=>none
def bytesOf:List (List T)->Option ak
 |[]=>some []
 |[.int .u8 m]::r=>(bytesOf r).map λs=>UInt8.ofNat m.toNat::s
 |_=>none
def nu(J:a'):V->Option (Prop×ak)
 |.c (.t (.slice es))=>(bytesOf es).map λs=>(True,s)
 |.c .az=>some (True,[])
 |.c (.arr b 1 off len)=>match aX J b with
  |some (.arr 1 es)=>(bytesOf ((es.drop off).take len)).map λs=>(off+len<=es.length,s)
  |_=>none
 |.c (.fJ b 1 off len)=>match aX J b with
  |some (.arr 1 es)=>(bytesOf ((es.drop off).take len)).map λs=>(off+len<=es.length,s)
  |_=>none
 |_=>none
def jw(ks:List ak)(s:ak):Bool:=ks.any λk=>decide (k=s)
def iT(ks:List ak)(s:ak):List ak:=if jw ks s then ks else ks++[s]
def yN:List C->Option C
 |[.arr b sz off len]=>some (.arr b sz off len)
 |_=>none
def oH:V->V->Option (Nat×Nat×Nat×Nat×Nat×Nat×Nat)
 |.c (.arr b sz off len),.c (.fJ a f e d)=>if b=a then some (b,sz,off,len,f,e,d)else none
 |_,_=>none
def uY(J:a')(n sz:Nat)(p q:Prop):Nat×Nat×Nat×Nat×Nat×Nat×Nat->A'
 |(b,s1,off,len,e,d,a)=>match aX J b with
  |some (.arr f es)=>some (p/\q/\s1 = sz/\e = sz/\f = sz/\off = 0/\len+a<=es.length/\d+a<=es.length,
   .c (.arr n sz 0 (len+a)),df (h8 J b) n (.arr sz (es.take len++(es.drop d).take a)))
  |_=>none
def aR(o:cP)(env:Env)(J:a')(n:Nat):A':=
 match o with
 |.mov x=>(x.get env).map λa=>(a.1,a.2,J)
 |.pick c x y=>(c.get env).bind λc=>(x.get env).bind λx=>(y.get env).bind λy=>
  match c.2,x.2,y.2 with
  |.c (.t (.bool b)),.c (.t (.bool p)),.c (.t (.bool q))=>
   some (c.1/\(b=true->x.1)/\(b=false->y.1),.c (.t (.bool (bif b then p else q))),J)
  |_,_,_=>none
 |.alloc cs=>some (True,.c (.ptr n 0),df J n (.box cs))
 |.allocA cs=>(toTs cs).map λts=>(True,.c (.ptr n 0),df J n (.arr 1 (ts.map λt=>[t])))
 |.idxP k x i=>(x.get env).bind λa=>(i.get env).bind λj=>match a.2,j.2 with
  |.c (.ptr b 0),.c (.t (.int _ m))=>some (a.1/\j.1/\0<=m/\m.toNat<k,.c (.cG b 1 m.toNat 0),J)
  |_,_=>none
 |.slcP k x w A=>(x.get env).bind λa=>(jS env w).bind λl=>(jS env A).bind λh=>match a.2 with
  |.c (.ptr b 0)=>
   let e:=h.2.getD k;let c:=l.2.getD 0
   some (a.1/\l.1/\h.1/\0<=c/\c<=e/\e<=k,.c (.fJ b 1 c.toNat (e.toNat-c.toNat)),J)
  |_=>none
 |.b2s x=>(x.get env).bind λa=>(nu J a.2).map λr=>(a.1/\r.1,.c (.t (.str r.2)),J)
 |.box x=>(x.get env).bind λa=>(pR a.2).map λcs=>(a.1,.c (.ptr n 0),df J n (.box cs))
 |.build z parts=>(lr env z parts).map λa=>(a.1,.agg a.2,J)
 |.bslice sz len z parts=>(toTs z).bind λF=>(jO env sz (List.replicate len F) parts).map λa=>
  (a.1,.c (.arr n sz 0 len),df J n (.arr sz a.2))
 |.load agg k x=>(x.get env).bind λa=>match a.2 with
  |.c (.ptr b o)=>match aX J b with
   |some (.box cs)=>(jT agg k cs o).map λv=>(a.1,v,J)
   |some (.b7 _ c)=>if agg=false/\o=1 then some (a.1,.c c,J)else none
   |_=>none
  |.c (.cG b sz i o)=>match aX J b with
   |some (.arr g es)=>(loadT agg k (el es i) o).map λv=>(a.1/\sz=g/\i<es.length,v,J)
   |some (.cA g es B C c)=>if agg then none else if o=C then some (a.1/\sz=g/\i=B,.c c,J)else(loadT false k (el es i) o).map λv=>(a.1/\sz=g/\i<es.length,v,J)
   |_=>none
  |.c (.dN ts o)=>(loadT agg k ts o).map λv=>(a.1,v,J)
  |_=>none
 |.store k x v=>(x.get env).bind λa=>(v.get env).bind λd=>(pR d.2).bind λcs=>
  if cs.length=k then match a.2 with
   |.c (.ptr b o)=>match aX J b with
    |some (.box G)=>if o+k<=G.length then some (a.1/\d.1,.aY [],df J b (.box (qE G o cs)))else none
    |some (.b7 e _)=>match o,cs with
     |1,[c]=>some (a.1/\d.1,.aY [],df J b (.b7 e c))
     |_,_=>none
    |_=>none
   |.c (.cG b sz i o)=>match aX J b with
    |some (.arr g es)=>match yN cs with
     |some c=>some (a.1/\d.1/\sz=g/\i<es.length/\o+k<=sz,.aY [],df J b (.cA g es i o c))
     |none=>(toTs cs).bind λts=>
      some (a.1/\d.1/\sz=g/\i<es.length/\o+k<=sz,.aY [],
       df J b (.arr g (es.set i ((el es i).take o++ts++(el es i).drop (o+k)))))
    |some (.cA g es B C H)=>match cs with
     |[c]=>if o=C then some (a.1/\d.1/\sz=g/\i=B,.aY [],df J b (.cA g es B C c))
      else(toT c).bind λt=>some (a.1/\d.1/\sz=g/\i<es.length/\o+k<=sz,.aY [],
       df J b (.cA g (es.set i ((el es i).take o++[t]++(el es i).drop (o+k))) B C H))
     |_=>none
    |_=>none
   |_=>none
  else none
 |.nilCheck x=>(x.get env).bind λa=>match a.2 with
  |.c (.ptr ..)|.c (.cG ..)|.c (.dN ..)=>some (a.1,a.2,J)
  |_=>none
 |.bin op x y=>(x.get env).bind λa=>(y.get env).bind λb=>match a.2,b.2 with
  |.c (.t p),.c (.t q)=>(qz op p q).map λr=>(a.1/\b.1/\r.1,.c (.t r.2),J)
  |_,_=>none
 |.eqAgg neg ks x y=>(x.get env).bind λa=>(y.get env).bind λb=>match a.2,b.2 with
  |.agg p,.agg q=>(sM ks p q).map λr=>(a.1/\b.1,.c (.t (.bool (if neg then !r else r))),J)
  |_,_=>none
 |.eqBool neg x y=>(x.get env).bind λa=>(y.get env).bind λb=>match a.2,b.2 with
  |.c (.t (.bool p)),.c (.t (.bool q))=>some (a.1/\b.1,.c (.t (.bool (if neg then !(p==q)else(p==q)))),J)
  |_,_=>none
 |.not x=>(x.get env).bind λa=>match a.2 with
  |.c (.t (.bool b))=>some (a.1,.c (.t (.bool (!b))),J)
  |_=>none
 |.conv k x=>(x.get env).bind λa=>match a.2 with
  |.c (.t (.int _ m))=>some (a.1,.c (.t (.int k (k.wrap m))),J)
  |_=>none
 |.i2s x=>(x.get env).bind λa=>match a.2 with
  |.c (.t (.int _ m))=>some (a.1,.c (.t (.str (Utf8.encode m).data.toList)),J)
  |_=>none
 |.s2s x=>(x.get env).bind λa=>match a.2 with
  |.c (.t (.str s))=>some (a.1,.c (.t (.str s)),J)
  |_=>none
 |.fldA off x=>(x.get env).bind λa=>match a.2 with
  |.c (.ptr b o)=>some (a.1,.c (.ptr b (o+off)),J)
  |.c (.cG b sz i o)=>some (a.1,.c (.cG b sz i (o+off)),J)
  |.c (.dN ts o)=>some (a.1,.c (.dN ts (o+off)),J)
  |_=>none
 |.fld agg off k x=>(x.get env).bind λa=>match a.2 with
  |.agg cs=>(jT agg k cs off).map λv=>(a.1,v,J)
  |_=>none
 |.idxA sz x i=>(x.get env).bind λa=>(i.get env).bind λj=>match a.2,j.2 with
  |.c (.t (.slice es)),.c (.t (.int _ m))=>some (a.1/\j.1/\0<=m/\m.toNat<es.length/\(el es m.toNat).length=sz,.c (.dN (el es m.toNat) 0),J)
  |.c (.arr b g off len),.c (.t (.int _ m))=>some (a.1/\j.1/\0<=m/\m.toNat<len/\sz=g,.c (.cG b sz (off+m.toNat) 0),J)
  |_,_=>none
 |.idxS x i=>(x.get env).bind λa=>(i.get env).bind λj=>match a.2,j.2 with
  |.c (.t (.str s)),.c (.t (.int _ m))=>some (a.1/\j.1/\0<=m/\m.toNat<s.length,.c (.t (.int .u8 (s.getD m.toNat 0).toNat)),J)
  |_,_=>none
 |.slcS x w A=>(x.get env).bind λa=>(jS env w).bind λl=>(jS env A).bind λh=>match a.2 with
  |.c (.t (.str s))=>
   let b:=h.2.getD s.length;let c:=l.2.getD 0
   some (a.1/\l.1/\h.1/\0<=c/\c<=b/\b<=s.length,.c (.t (.str ((s.take b.toNat).drop c.toNat))),J)
  |_=>none
 |.slc sz x w A=>(x.get env).bind λa=>(jS env w).bind λl=>(jS env A).bind λh=>match a.2 with
  |.c (.t (.slice es))=>
   let b:=h.2.getD es.length;let c:=l.2.getD 0
   some (a.1/\l.1/\h.1/\0<=c/\c<=b/\b<=es.length/\(∀e,e∈es->e.length=sz),.c (.t (.slice ((es.take b.toNat).drop c.toNat))),J)
  |.c (.arr b g off len)=>
   some (a.1/\l.1/\h.1/\0<=l.2.getD 0/\l.2.getD 0<=h.2.getD len/\h.2.getD len<=len/\sz=g,
    .c (if w.isNone then .arr b g off (h.2.getD len).toNat else .fJ b g (off+(l.2.getD 0).toNat) ((h.2.getD len).toNat-(l.2.getD 0).toNat)),J)
  |_=>none
 |.slc0 x=>(x.get env).bind λa=>match a.2 with
  |.c (.t (.slice _))|.c .az|.c (.arr ..)=>some (a.1,.c .az,J)
  |_=>none
 |.mkfn f caps=>(hP env caps).bind λa=>match sD a.2 with
  |some l=>some (a.1,.c (.fn f l),J)
  |none=>none
 |.ext x i=>(x.get env).bind λa=>match a.2 with
  |.aY vs=>(vs[i]?).map λv=>(a.1,v,J)
  |_=>none
 |.len str x=>(x.get env).bind λa=>match str,a.2 with
  |false,.c (.t (.slice es))=>some (a.1,.c (.t (.int .i64 es.length)),J)
  |false,.c (.arr _ _ _ l)=>some (a.1,.c (.t (.int .i64 l)),J)
  |false,.c .az=>some (a.1,.c (.t (.int .i64 0)),J)
  |false,.c (.cM _ l)=>some (a.1,.c (.t (.int .i64 l)),J)
  |true,.c (.t (.str s))=>some (a.1,.c (.t (.int .i64 s.length)),J)
  |_,_=>none
 |.append sz bytes x y=>(x.get env).bind λa=>(y.get env).bind λd=>
  match oH a.2 d.2 with
  |some r=>uY J n sz a.1 d.1 r
  |none=>
  (mn J d.2).bind λu=>
  match a.2 with
  |.c .az=>some (a.1/\d.1/\(∀ e,e∈u.1->e.length = sz)/\lR u.1.length bytes/\u.1.length<=eI,
   .c (.arr n sz 0 u.1.length),df J n (.arr sz u.1))
  |.c (.arr b g off len)=>match aX J b with
   |some (.arr I es)=>
    if u.2=some b then none else some (a.1/\d.1/\g=sz/\I=sz/\off=0/\len=es.length/\(∀e,e∈u.1->e.length=sz)/\lR (es.length+u.1.length) bytes/\es.length+u.1.length<=eI,
     .c (.arr n sz 0 (len+u.1.length)),df (h8 J b) n (.arr sz (es++u.1)))
   |_=>none
  |_=>none
 |.max2 x y=>(x.get env).bind λa=>(y.get env).bind λb=>match a.2,b.2 with
  |.c (.t (.int k p)),.c (.t (.int E q))=>if k=E then some (a.1/\b.1,.c (.t (.int k (max p q))),J)else none
  |_,_=>none
 |.min2 x y=>(x.get env).bind λa=>(y.get env).bind λb=>match a.2,b.2 with
  |.c (.t (.int k p)),.c (.t (.int E q))=>if k=E then some (a.1/\b.1,.c (.t (.int k (min p q))),J)else none
  |_,_=>none
 |.allocS e e8=>some (True,.c (.ptr n 0),df (df J (n+1) (.buf e8 [])) n (.b7 e (.cM (n+1) 0)))
 |.bsliceT _ sz len z parts=>(toTs z).bind λF=>(jO env sz (List.replicate len F) parts).map λa=>(a.1,.c (.t (.slice a.2)),J)
 |.mkset=>some (True,.c (.mp n),df J n (.set []))
 |.lkset x k=>(x.get env).bind λa=>(k.get env).bind λd=>match a.2,d.2 with
  |.c (.mp b),.c (.t (.str s))=>match aX J b with
   |some (.set ks)=>some (a.1/\d.1,.c (.t (.bool (jw ks s))),J)
   |_=>none
  |_,_=>none
 |.upset x k=>(x.get env).bind λa=>(k.get env).bind λd=>match a.2,d.2 with
  |.c (.mp b),.c (.t (.str s))=>match aX J b with
   |some (.set ks)=>some (a.1/\d.1,.aY [],df J b (.set (iT ks s)))
   |_=>none
  |_,_=>none
 |.appendB e bytes x y=>(x.get env).bind λa=>(y.get env).bind λd=>match a.2,d.2 with
  |.c (.cM b len),.c (.t (.str s))=>match aX J b with
   |some (.buf D es)=>
    some (a.1/\d.1/\D=e/\len=es.length/\lR (es.length+s.length) bytes/\es.length+s.length<=eI,
     .c (.cM n (len+s.length)),df (h8 J b) n (.buf e (es++s)))
   |_=>none
  |_,_=>none
 |.sdata x=>(x.get env).bind λa=>match a.2 with
  |.c (.cM b _)=>some (a.1,.c (.ey b),J)
  |_=>none
 |.ustr e x k=>(x.get env).bind λa=>(k.get env).bind λd=>match a.2,d.2 with
  |.c (.ey b),.c (.t (.int .i64 m))=>match aX J b with
   |some (.buf D es)=>some (a.1/\d.1/\D=e/\m=es.length,.c (.t (.str es)),h8 J b)
   |_=>none
  |_,_=>none
 |.eqNil .. |.call .. |.iE .. =>none
where sD:List V->Option a8
 |[]=>some []
 |.c (.ptr b 0)::r=>(sD r).map (b::·)
 |_=>none
def AW(ks:List ak)(es:List MapEntry):Prop:=ba (λk e=>e.key= .string ⟨k.toArray⟩/\e.val= .bool true) ks es
def c1(φ:dE)(w:World)(S:dT)(b:Nat):bP->Prop
 |.box cs=>(φ b).2≠0/\∃(vs:List Value) (E:TypeId),w.heap[(φ b).1]?=some (.cells vs.toArray E (0,0))/\ba (bn φ w S) cs vs/\∀j,¬S (φ b).1 j
 |.arr sz es=>es.length<=(φ b).2/\es.length<=eI/\(∀ e,e∈es->e.length = sz)/\0<sz/\
  ((φ b).2≠0->∃(vs:List Value) (E:TypeId),w.heap[(φ b).1]?=some (.cells vs.toArray E (0,0))/\vs.length=(φ b).2*sz/\
   (∀(i j:Nat) e t,es[i]?=some e->e[j]?=some t->∃v,vs[i*sz+j]?=some v/\cd w S t v)/\∀j,¬S (φ b).1 j)
 |.set ks=>(φ b).2≠0/\(∃(es:List MapEntry) (d:Nat),w.heap[(φ b).1]?=some (.map es.toArray d)/\AW ks es)/\∀j,¬S (φ b).1 j
 |.buf E s=>s.length<=(φ b).2/\s.length<=eI/\
  ((φ b).2≠0->(∃vs:List Value,w.heap[(φ b).1]?=some (.cells vs.toArray E (0,0))/\vs.length=(φ b).2/\
   ∀(i:Nat) c,s[i]?=some c->vs[i]?=some (.int .u8 (UInt8.toNat c)))/\∀j,¬S (φ b).1 j)
 |.b7 E c=>(φ b).2≠0/\(∃p v:Value,w.heap[(φ b).1]?=some (.cells #[p,v] E (0,0))/\(p= .pointer none\/p= .pointer (some ⟨(φ b).1,0,none⟩))/\bn φ w S c v)/\∀j,¬S (φ b).1 j
 |.cA sz es i o c=>(es.length<=(φ b).2/\es.length<=eI/\(∀ e,e∈es->e.length = sz)/\0<sz/\i<es.length/\o<sz)/\
  (∃(vs:List Value) (E:TypeId),w.heap[(φ b).1]?=some (.cells vs.toArray E (0,0))/\vs.length=(φ b).2*sz/\
   (∀(a j:Nat) e t,es[a]?=some e->e[j]?=some t->¬(a=i/\j=o)->∃v,vs[a*sz+j]?=some v/\cd w S t v)/\∃v,vs[i*sz+o]?=some v/\bn φ w S c v)/\∀j,¬S (φ b).1 j
structure qy (φ:dE)(w:World)(S:dT)(J:a'):Prop where
 blk:∀b x,aX J b=some x->c1 φ w S b x
 inj:∀b Bk x y,aX J b=some x->aX J Bk=some y->b≠Bk->(φ b).2≠0->(φ Bk).2≠0->(φ b).1≠(φ Bk).1
 st:∀b j,S b j->b<w.heap.size
structure Ext (B:Nat->Prop)(S bR:dT)(w w':World):Prop where
 os:w'.os=w.os
 tape:w'.tape=w.tape
 output:w'.output=w.output
 size:w.heap.size<=w'.heap.size
 block:∀b:Nat,b<w.heap.size->¬B b->w'.heap[b]?=w.heap[b]?
 mono:gx w S w' bR
 r8:∀b j,bR b j->S b j\/B b\/w.heap.size<=b
def bP.aD(n:Nat->Bool):bP->Bool
 |.box cs=>cs.all (C.aD n)
 |.arr _ _=>true
 |.set _=>true
 |.buf _ _=>true
 |.b7 _ c=>c.aD n
 |.cA _ _ _ _ c=>c.aD n
def ins(n:Nat->Bool)(k:Nat):Nat->Bool:=λb=>n b||b==k
structure Ctx where
 jC:World
 E4:dT
 B:Nat->Prop
 Uh:dE
 k:Nat
structure Rel (aE:Ctx)(nt:Nat)(φ:dE)(S:dT)(env:Env)(J:a')(n:Nat->Bool)(a:Act)(w:World):Prop where
 bQ:qy φ w S J
 gK:∀(k:Nat) g v,look env k=some (g,v)->g=true->∃x,a.tmps[k]?=some x/\cl φ w S v x
 hM:∀(k:Nat) g v,look env k=some (g,v)->g=false->a.tmps[k]?=some undef
 gJ:∀(k:Nat) g v,look env k=some (g,v)->g=true->v.aD n=true
 dU:∀(b:Nat) x,aX J b=some x->n b=true/\x.aD n=true
 size:a.tmps.size=nt
 defers:a.defers=[]
 ext:Ext aE.B aE.E4 S aE.jC w
 own:∀(b:Nat) x,aX J b=some x->(φ b).2≠0->aE.B (φ b).1\/aE.jC.heap.size<=(φ b).1
 fix:∀b:Nat,b<aE.k->φ b=aE.Uh b
 fS:∀b:Nat,b<aE.k->n b=true
variable{c:C}{v:Value}{p:Prop}{x y:Operand}{cs:List C}{o:Oper}{ty e E:TypeId}{op:BinOp}{f off:Nat}{fs:Array Field}{ts:List T}{w w':World}{vs xs:List Value}{agg:Bool}{es:List (List T)}{j:Option Operand}{G:aQ}{J':a'}{q:Nat×Nat}{α:Type}{place:Nat->Option (Nat×Nat)}{R:T->Value->Prop}
section
variable {P:Program}{aE:Ctx}{nt:Nat}{φ:dE}{S:dT}{env:Env}{J:a'}{n:Nat->Bool}{key:Nat}{a:Act}{w:World}
def Good(P:Program)(aE:Ctx)(nt:Nat)(env:Env)(J':a')(b:Nat->Bool)(a:Act)(v:V)(r:Result Next):Prop:=
 ∃x c bR w',(r= .ok (.value x) w'\/(r= .ok .skip w'/\x=undef))/\cl c w' bR v x/\v.aD b=true/\Rel aE nt c bR env J' b a w'
theorem abe{n:Nat->Bool}{k:Nat}:ins n k k=true:=by simp[ins]
theorem kM{n:Nat->Bool}{k b:Nat}(h:n b=true):ins n k b=true:=by grind[ins]
theorem C.hp{n e:Nat->Bool}(h:∀b,n b=true->e b=true)(a:c.aD n=true):c.aD e=true:=by
 cases c<;>simp[C.aD]at*<;>first|exact h _ a|exactλb f=>h b (a b f)
theorem tz{n:Nat->Bool}:∀{vs:List V},(∀(i:Nat) v,vs[i]?=some v->v.aD n=true)->V.aD.V.dI n vs=true
 |[],_=>rfl
 |v::vs,h=>by
  simp[V.aD.V.dI];exact⟨h 0 v rfl,tz λi v a=>h (i+1) v a⟩
theorem V.hp{n e:Nat->Bool}(h:∀b,n b=true->e b=true):∀{v:V},v.aD n=true->v.aD e=true
 |.c x,a=>by grind[V.aD,C.hp]
 |.agg cs,a=>by
  grind[V.aD,C.hp]
 |.aY vs,a=>by
  exact go vs a
where go:∀vs,V.aD.V.dI n vs=true->V.aD.V.dI e vs=true
 |[],_=>rfl
 |v::vs,a=>by
  simp[V.aD.V.dI]at a⊢;exact⟨V.hp h a.1,go vs a.2⟩
theorem bP.hp{n a:Nat->Bool}(h:∀b,n b=true->a b=true){x:bP}(e:x.aD n=true):x.aD a=true:=by
 cases x with
 |box cs=>
  grind[bP.aD,C.hp]
 |arr=>rfl
 |set=>rfl
 |buf=>rfl
 |b7 E c=>grind[bP.aD,C.hp]
 |cA sz es i o c=>grind[bP.aD,C.hp]
theorem Rel.more(R:Rel aE nt φ S env J n a w){e:Nat->Bool}(h:∀b,n b=true->e b=true):Rel aE nt φ S env J e a w:=
 ⟨R.bQ,R.gK,R.hM,λk g v af aq=>V.hp h (R.gJ k g v af aq),λb x c=>⟨h b (R.dU b x c).1,bP.hp h (R.dU b x c).2⟩,R.size,R.defers,R.ext,R.own,R.fix,λb f=>h b (R.fS b f)⟩
theorem Good.pure(R:Rel aE nt φ S env J n a w){v:V}{x:Value}{r:Result Next}(ag:r= .ok (.value x) w)(e:cl φ w S v x)(c:v.aD n=true):
 Good P aE nt env J (ins n key) a v r:=⟨x,φ,S,w,.inl ag,e,V.hp (λ_ h=>kM h) c,R.more λ_ h=>kM h⟩
theorem Ju(h:Cj v=some c):bn φ w S c v/\c.aD n=true:=by
 unfold Cj at h;split at h<;>simp at h
 . subst h;exact⟨.bool _,rfl⟩
 . subst h;exact⟨.int _ _,rfl⟩
 . obtain⟨hs,rfl⟩:=h;exact⟨.str _ hs,rfl⟩
 . subst h;exact⟨⟨_,rfl⟩,rfl⟩
 . subst h;exact⟨rfl,rfl⟩
 . subst h;exact⟨rfl,rfl⟩
 . subst h;exact⟨rfl,rfl⟩
theorem HA:∀{vs:List Value} {cs:List C},wL vs=some cs->ba (bn φ w S) cs vs/\cs.all (C.aD n)=true
 |[],cs,h=>by simp[wL]at h;subst h;exact⟨.nil,rfl⟩
 |v::vs,cs,h=>by
  simp[wL,br,bo]at h;obtain⟨c,b,e,d,rfl⟩:=h;have h1:=Ju (φ:=φ) (w:=w) (S:=S) (n:=n) b;have a:=HA d;exact⟨.cons h1.1 a.1,by grind⟩
theorem Yw{a:V}(h:HR v=some a):cl φ w S a v/\a.aD n=true:=by
 unfold HR at h;split at h
 . simp at h;obtain⟨l,af,rfl⟩:=h;have:=HA (φ:=φ) (w:=w) (S:=S) (n:=n) af;refine⟨?_,by grind[V.aD]⟩;have e:=cl.agg this.1;omega
 . simp at h;obtain⟨l,af,rfl⟩:=h;have:=Ju (φ:=φ) (w:=w) (S:=S) (n:=n) af;exact⟨.c this.1,by grind[V.aD]⟩
theorem cy(R:Rel aE nt φ S env J n a w){d:aQ}(b:bM x=some d){v:V}(h:d.get env=some (p,v))(e:p):
 cl φ w S v (a.eval x)/\v.aD n=true:=by
 cases x with
 |tmp t=>
  simp[bM]at b;subst b;simp only[aQ.get,bo]at h;obtain⟨⟨g,i⟩,af,he⟩:=h;obtain⟨rfl,rfl⟩:=he;obtain⟨y,k,ag⟩:=R.gK t g i af e;refine⟨?_,R.gJ t g i af e⟩;simp_all[Act.eval]
 |const c=>
  simp[bM]at b;obtain⟨j,gV,rfl⟩:=b;obtain⟨_,rfl⟩:=h;exact Yw gV
 |global g=>grind[bM]
 |func f=>
  simp[bM]at b;subst b;obtain⟨_,rfl⟩:=h;exact⟨.c (by rfl),by rfl⟩
theorem q'(R:Rel aE nt φ S env J n a w):∀{xs:List Operand} {bb:List aQ} (_:nb xs=some bb) {p:Prop} {vs:List V} (_:hP env bb=some (p,vs)) (_:p),
 ba (cl φ w S) vs (xs.map a.eval)/\V.aD.V.dI n vs=true
 |[],bb,b,p,vs,h,c=>by simp[nb]at b;subst b;obtain⟨_,rfl⟩:=h;exact⟨.nil,rfl⟩
 |x::xs,bb,b,p,vs,h,c=>by
  simp[nb,br,bo]at b;obtain⟨j,e,k,f,rfl⟩:=b;simp only[hP,br,bo]at h;obtain⟨⟨q,v⟩,g,⟨l,m⟩,i,he⟩:=h;obtain⟨rfl,rfl⟩:=he;have h1:=cy R e g c.1;have d:=q' R f i c.2;exact⟨.cons h1.1 d.1,by grind[V.aD.V.dI]⟩
theorem cl.jq{b:Bool}{x:Value}(h:cl φ w S (.c (.t (.bool b))) x):x= .bool b:=by cases h with|c h=>cases h;rfl
theorem cl.gr{k:IntKind}{m:Int}{x:Value}(h:cl φ w S (.c (.t (.int k m))) x):x= .int k m:=by cases h with|c h=>cases h;rfl
theorem cl.kn{s:ak}{x:Value}(h:cl φ w S (.c (.t (.str s))) x):∃bs:ByteArray,x= .string bs/\bs.data.toList=s/\bs.size<=eG:=by cases h with|c h=>cases h<;>grind
theorem cl.hT{b o:Nat}{x:Value}(h:cl φ w S (.c (.ptr b o)) x):x= .pointer (some ⟨(φ b).1,o,none⟩):=by cases h with|c h=>exact h
theorem cl.jd{b sz i o:Nat}{x:Value}(h:cl φ w S (.c (.cG b sz i o)) x):x= .pointer (some ⟨(φ b).1,i*sz+o,none⟩):=by cases h with|c h=>exact h
theorem cl.sv{x:Value}(h:cl φ w S (.agg cs) x):∃vs:List Value,x= .agg vs.toArray/\ba (bn φ w S) cs vs:=by cases h<;>grind
theorem cl.eb{x:Value}(h:cl φ w S (.c c) x):bn φ w S c x:=by cases h<;>grind
theorem cl.sB(b:Bool):cl φ w S (.c (.t (.bool b))) (.bool b):= .c (.bool b)
theorem cl.m'(k:IntKind)(m:Int):cl φ w S (.c (.t (.int k m))) (.int k m):= .c (.int k m)
theorem LP(R:Rel aE nt φ S env J n a w)(b:o.op= .move x\/o.op= .assign x){c:aQ}(f:bM x=some c)
 {p v J'}(g:n key=false)(h:aR (.mov c) env J key=some (p,v,J'))(d:p):Good P aE nt env J' (ins n key) a v ((execOp a.eval o).run P w):=by
 simp only[aR,bo]at h;obtain⟨⟨q,u⟩,e,he⟩:=h;obtain⟨rfl,rfl,rfl⟩:=he;have aq:=cy R f e d;refine Good.pure R ?_ aq.1 aq.2;rcases b with b|b<;>simp[execOp,b]
theorem Y'(R:Rel aE nt φ S env J n a w){c:Operand}(g:o.op= .pick c x y){ac d e:aQ}(m:bM c=some ac)(u:bM x=some d)(z:bM y=some e)
 {p v J'}(A:n key=false)(h:aR (.pick ac d e) env J key=some (p,v,J'))(t:p):Good P aE nt env J' (ins n key) a v ((execOp a.eval o).run P w):=by
 simp only[aR,br]at h;obtain⟨⟨B,G⟩,q,⟨C,H⟩,r,⟨D,I⟩,s,he⟩:=h;simp at he;split at he
 . rename_i b E F;obtain⟨rfl,rfl,rfl⟩:=he;obtain⟨h1,k,l⟩:=t;have f:=(cy R m q h1).1.jq;cases b with
   |true=>
    have i:=(cy R u r (k rfl)).1.jq;exact Good.pure R (by simp[execOp,g,f,asBool,i]) (.sB _) rfl
   |false=>
    have j:=(cy R z s (l rfl)).1.jq;exact Good.pure R (by simp[execOp,g,f,asBool,j]) (.sB _) rfl
 grind
theorem wy(b:ByteArray):b.data.toList.length=b.size:=by rfl
theorem Za{s t r:T}(h:qz op s t=some (p,r))(c:p){x y:Value}(d:cd w S s x)(f:cd w S t y):
 ∃z,(binOp op ty x y).run P w= .ok z w/\cd w S r z:=by
 have g:∀a b:ak,(a==b)=decide (a=b):=λa b=>by grind
 unfold qz at h;split at h<;>(first|simp only[ew,dp]at h|cases h)
 all_goals cases d;cases f
 case h_1=>obtain⟨rfl,rfl,rfl⟩:=h;exact⟨_,by simp[binOp,Op.intArith],.int _ _⟩
 case h_2=>obtain⟨rfl,rfl,rfl⟩:=h;exact⟨_,by simp[binOp,Op.intArith],.int _ _⟩
 case h_3=>obtain⟨rfl,rfl,rfl⟩:=h;exact⟨_,by simp[binOp,Op.intArith],.int _ _⟩
 case h_4=>obtain⟨rfl,rfl,rfl⟩:=h;exact⟨_,by simp[binOp,Op.intDiv,c],.int _ _⟩
 case h_5=>obtain⟨rfl,rfl,rfl⟩:=h;exact⟨_,by simp[binOp,Op.intDiv,c],.int _ _⟩
 case h_6=>obtain⟨rfl,rfl,rfl⟩:=h;exact⟨_,by simp[binOp,Op.intBits],.int _ _⟩
 case h_7=>obtain⟨rfl,rfl,rfl⟩:=h;exact⟨_,by simp[binOp,Op.intBits],.int _ _⟩
 case h_8=>obtain⟨rfl,rfl,rfl⟩:=h;exact⟨_,by simp[binOp,Op.intBits],.int _ _⟩
 case h_9=>obtain⟨rfl,rfl,rfl⟩:=h;exact⟨_,by simp[binOp,Op.intBits],.int _ _⟩
 case h_10=>obtain⟨rfl,rfl⟩:=h;exact⟨_,by simp_all[binOp,Op.shift,al],.int _ _⟩
 case h_11=>obtain⟨rfl,rfl⟩:=h;exact⟨_,by simp_all[binOp,Op.shift,al],.int _ _⟩
 case h_12=>obtain⟨rfl,rfl,rfl⟩:=h;exact⟨_,by simp[binOp,Op.intCmp];rfl,.bool _⟩
 case h_13=>obtain⟨rfl,rfl,rfl⟩:=h;exact⟨_,by simp[binOp,Op.intCmp,bne,BEq.beq],.bool _⟩
 case h_14=>obtain⟨rfl,rfl,rfl⟩:=h;exact⟨_,by simp[binOp,Op.intCmp],.bool _⟩
 case h_15=>obtain⟨rfl,rfl,rfl⟩:=h;exact⟨_,by simp[binOp,Op.intCmp],.bool _⟩
 case h_16=>obtain⟨rfl,rfl,rfl⟩:=h;exact⟨_,by simp[binOp,Op.intCmp],.bool _⟩
 case h_17=>obtain⟨rfl,rfl,rfl⟩:=h;exact⟨_,by simp[binOp,Op.intCmp],.bool _⟩
 case h_18 s hs t ht=>
  obtain⟨rfl,rfl⟩:=h;simp only[wy]at c;have e:(s++t).data.toList=s.data.toList++t.data.toList:=by rfl
  refine⟨.string (s++t),?_,e▸.str _ (by grind)⟩;have:¬(((s.size+t.size:Nat):Int)>IntKind.i64.max):=by grind[IntKind.max,eG,IntKind.signed,IntKind.bits]
  simp_all[binOp,Op.stringOp,al]
 case h_19 s hs t ht=>obtain⟨rfl,rfl⟩:=h;exact⟨_,by simp_all[binOp,Op.stringOp,ByteArray.toList_eq],.bool _⟩
 case h_20 s hs t ht=>obtain⟨rfl,rfl⟩:=h;exact⟨_,by simp_all[binOp,Op.stringOp,ByteArray.toList_eq],.bool _⟩
 case h_21 s hs t ht=>obtain⟨rfl,rfl⟩:=h;exact⟨_,by simp_all[binOp,Op.stringOp,ByteArray.toList_eq],.bool _⟩
 case h_22 s hs t ht=>obtain⟨rfl,rfl⟩:=h;exact⟨_,by simp_all[binOp,Op.stringOp,ByteArray.toList_eq],.bool _⟩
 case h_23 s hs t ht=>obtain⟨rfl,rfl⟩:=h;exact⟨_,by simp_all[binOp,Op.stringOp,ByteArray.toList_eq],.bool _⟩
 case h_24 s hs t ht=>obtain⟨rfl,rfl⟩:=h;exact⟨_,by simp_all[binOp,Op.stringOp,ByteArray.toList_eq],.bool _⟩
theorem Hb{u:Value}(h1:u≠.nilIface)(a:∀cs,u≠.agg cs):(eqGuard op ty x y u v).run P w= .ok () w:=by
 simp_all[eqGuard]
theorem cd.guard{t:T}{u:Value}(h:cd w S t u):u≠.nilIface/\∀cs,u≠.agg cs:=by
 cases h<;>exact⟨by simp,by simp⟩
theorem KS(b:P.underlying ty=some .bool)(b1 b2:Bool):(Op.equal ty (.bool b1) (.bool b2)).run P w= .ok (b1==b2) w:=by
 obtain⟨d,a⟩:∃d,Op.maxDepth=d+1:=⟨9999,rfl⟩
 unfold Op.equal;rw[a];unfold Op.equalIn;simp only[Sem.run_bind,run_underlying b];rfl
theorem Iu(R:Rel aE nt φ S env J n a w){m:TypeId}(t:o.op= .binOp op ty x y m){d e:aQ}(j:bM x=some d)(k:bM y=some e)
 {p v J'}(s:n key=false)(h:aR (.bin op d e) env J key=some (p,v,J'))(b:p):Good P aE nt env J' (ins n key) a v ((execOp a.eval o).run P w):=by
 simp only[aR,br]at h;obtain⟨⟨B,D⟩,g,⟨C,E⟩,i,he⟩:=h;simp at he;split at he
 . simp only[bo]at he;obtain⟨⟨A,r⟩,ag,rfl,rfl,rfl⟩:=he;have h1:=(cy R j g b.1).1.eb;have f:=(cy R k i b.2.1).1.eb;obtain⟨z,u,l⟩:=Za (P:=P) (ty:=ty) ag b.2.2 h1 f;refine Good.pure R ?_ (.c l) rfl;have q:(eqGuard op ty x y _ (a.eval y)).run P w= .ok _ w:=Hb (cd.guard h1).1 (cd.guard h1).2;simp_all[execOp]
 grind
theorem X4(R:Rel aE nt φ S env J n a w){k:TypeId}(s:o.op= .binOp op ty x y k)(g:op= .eql\/op= .neq)(t:P.underlying ty=some .bool)
 {b c:aQ}(i:bM x=some b)(j:bM y=some c)
 {p v J'}(r:n key=false)(h:aR (.eqBool (op== .neq) b c) env J key=some (p,v,J'))(d:p):Good P aE nt env J' (ins n key) a v ((execOp a.eval o).run P w):=by
 simp only[aR,br]at h;obtain⟨⟨u,A⟩,e,⟨z,B⟩,f,he⟩:=h;simp at he;split at he
 . rename_i b1 b2;obtain⟨rfl,rfl,rfl⟩:=he;have h1:=(cy R i e d.1).1.jq;have q:=(cy R j f d.2).1.jq;refine Good.pure R ?_ (.sB _) rfl;have l:(eqGuard op ty x y (a.eval x) (a.eval y)).run P w= .ok _ w:=Hb (by grind) (by grind);have m:(binOp op ty (a.eval x) (a.eval y)).run P w= .ok (.bool (if(op== .neq)then !(b1==b2)else(b1==b2))) w:=by
    rcases g with rfl|rfl
    . simp_all[binOp,KS]
    simp_all[binOp,KS]
   simp_all[execOp]
 grind
theorem aa7(R:Rel aE nt φ S env J n a w)(d:o.op= .unOp .not ty x){b:aQ}(f:bM x=some b)
 {p v J'}(g:n key=false)(h:aR (.not b) env J key=some (p,v,J'))(e:p):Good P aE nt env J' (ins n key) a v ((execOp a.eval o).run P w):=by
 simp only[aR,br]at h;obtain⟨⟨i,j⟩,c,he⟩:=h;simp at he;split at he
 . obtain⟨rfl,rfl,rfl⟩:=he;have h1:=(cy R f c e).1.jq;exact Good.pure R (by simp[execOp,d,h1,Op.unary]) (.sB _) rfl
 grind
theorem aa8(R:Rel aE nt φ S env J n a w){k:IntKind}(g:o.op= .unOp .neg ty x){b:aQ}(j:bM x=some b)
 {p v J'}(l:n key=false)(h:aR (.bin .sub (.const (.c (.t (.int k 0)))) b) env J key=some (p,v,J'))(i:p):Good P aE nt env J' (ins n key) a v ((execOp a.eval o).run P w):=by
 simp only[aR,aQ.get,ao,br]at h;obtain⟨⟨q,s⟩,f,he⟩:=h;simp only at he;split at he
 . rename_i t1 t2 aM;cases aM;simp only[bo]at he;obtain⟨⟨m,r⟩,ag,rfl,rfl,rfl⟩:=he;have d:=(cy R j f i.2.1).1;cases t2<;>simp only[qz,reduceCtorEq,ew]at ag;obtain⟨rfl,rfl,rfl⟩:=ag;have e:=d.gr;exact Good.pure R (by simp[execOp,g,e,Op.unary,Op.intArith]) (.m' _ _) rfl
 grind
theorem aa9(R:Rel aE nt φ S env J n a w){k:IntKind}(g:o.op= .unOp .xor ty x){b:aQ}(j:bM x=some b)
 {p v J'}(l:n key=false)(h:aR (.bin .xor (.const (.c (.t (.int k (if k.signed then -1 else k.max))))) b) env J key=some (p,v,J'))(i:p):Good P aE nt env J' (ins n key) a v ((execOp a.eval o).run P w):=by
 simp only[aR,aQ.get,ao,br]at h;obtain⟨⟨q,s⟩,f,he⟩:=h;simp only at he;split at he
 . rename_i t1 t2 aM;cases aM;simp only[bo]at he;obtain⟨⟨m,r⟩,ag,rfl,rfl,rfl⟩:=he;have d:=(cy R j f i.2.1).1;cases t2<;>simp only[qz,reduceCtorEq,ew]at ag;obtain⟨rfl,rfl,rfl⟩:=ag;have e:=d.gr;exact Good.pure R (by simp[execOp,g,e,Op.unary,Op.intBits]) (.m' _ _) rfl
 grind
theorem Zb(R:Rel aE nt φ S env J n a w){s d:TypeId}(f:o.op= .convert s d x){j k:IntKind}(hs:P.underlying s=some (.int j))(c:P.underlying d=some (.int k)){b:aQ}(i:bM x=some b)
 {p v J'}(l:n key=false)(h:aR (.conv k b) env J key=some (p,v,J'))(g:p):Good P aE nt env J' (ins n key) a v ((execOp a.eval o).run P w):=by
 simp only[aR,br]at h;obtain⟨⟨m,q⟩,e,he⟩:=h;simp at he;split at he
 . obtain⟨rfl,rfl,rfl⟩:=he;have h1:=(cy R i e g).1.gr;exact Good.pure R (by simp[execOp,f,h1,convert,underlying,hs,c,Conv.intToInt]) (.m' _ _) rfl
 grind
theorem X5(m:Int):(Utf8.encode m).size<=eG:=by
 unfold eG Utf8.encode;dsimp
 (repeat' split)<;>simp[ByteArray.size]
theorem aao(R:Rel aE nt φ S env J n a w){s d:TypeId}(g:o.op= .convert s d x){k:IntKind}(hs:P.underlying s=some (.int k))(e:P.underlying d=some .string){b:aQ}(j:bM x=some b)
 {p v J'}(l:n key=false)(h:aR (.i2s b) env J key=some (p,v,J'))(i:p):Good P aE nt env J' (ins n key) a v ((execOp a.eval o).run P w):=by
 simp only[aR,br]at h;obtain⟨⟨m,q⟩,f,he⟩:=h;simp at he;split at he
 . obtain⟨rfl,rfl,rfl⟩:=he;have h1:=(cy R j f i).1.gr;exact Good.pure R (by simp[execOp,g,h1,convert,underlying,hs,e,Conv.intToString]) (.c (.str _ (X5 _))) rfl
 grind
theorem aap(R:Rel aE nt φ S env J n a w){s d:TypeId}(f:o.op= .convert s d x)(hs:P.underlying s=some .string)(c:P.underlying d=some .string){b:aQ}(i:bM x=some b)
 {p v J'}(j:n key=false)(h:aR (.s2s b) env J key=some (p,v,J'))(g:p):Good P aE nt env J' (ins n key) a v ((execOp a.eval o).run P w):=by
 simp only[aR,br]at h;obtain⟨⟨k,l⟩,e,he⟩:=h;simp at he;split at he
 . obtain⟨rfl,rfl,rfl⟩:=he;have aq:=cy R i e g;obtain⟨bs,h1,rfl,_⟩:=aq.1.kn;refine Good.pure R ?_ (h1▸aq.1) rfl;simp[execOp,f,h1,convert,underlying,hs,c]
 grind
theorem Yo(R:Rel aE nt φ S env J n a w)(g:o.op= .nilCheck x){b:aQ}(e:bM x=some b)
 {p v J'}(f:n key=false)(h:aR (.nilCheck b) env J key=some (p,v,J'))(d:p):Good P aE nt env J' (ins n key) a v ((execOp a.eval o).run P w):=by
 simp only[aR,br]at h;obtain⟨⟨i,j⟩,c,he⟩:=h;simp at he;split at he<;>simp only[dp,reduceCtorEq]at he
 all_goals
  obtain⟨rfl,rfl,rfl⟩:=he;have aq:=cy R e c d;have h1:=aq.1.eb;refine Good.pure R ?_ aq.1 aq.2
 . simp_all[bn,execOp]
 . simp_all[bn,execOp]
 . obtain⟨_,_,_,h1,_⟩:=h1;simp_all[execOp]
theorem Zc(R:Rel aE nt φ S env J n a w)(y:o.op= .fieldAddr ty x f)(A:P.underlying ty=some (.struct fs)){d:Field}(s:fs[f]?=some d)
 {m:Nat}(j:eM P d.type=some m)(u:m≠0){g:aQ}(r:bM x=some g)
 {p v J'}(t:n key=false)(h:aR (.fldA d.offset g) env J key=some (p,v,J'))(q:p):Good P aE nt env J' (ins n key) a v ((execOp a.eval o).run P w):=by
 simp only[aR,br]at h;obtain⟨⟨C,D⟩,k,he⟩:=h;simp at he;have B:∀w,(underlying ty).run P w= .ok (.struct fs) w:=by simp_all[underlying]
 have z:∀w,(sizeOf d.type).run P w= .ok m w:=by simp[eM]at j;obtain⟨i,l,rfl⟩:=j;simp[sizeOf,typeInfo,l]
 have e:∀(b off:Nat),a.eval x= .pointer (some ⟨b,off,none⟩)->(execOp a.eval o).run P w= .ok (.value (.pointer (some ⟨b,off+d.offset,none⟩))) w:=by
  simp_all[execOp,Instr.fieldAt,Instr.sureAddr,fieldPlace,Addr.add]
 split at he<;>simp only[dp,reduceCtorEq]at he
 all_goals
  obtain⟨rfl,rfl,rfl⟩:=he;have aq:=cy R r k q;have h1:=aq.1.eb
 . exact Good.pure R (e _ _ h1) (.c rfl) aq.2
 . exact Good.pure R (e _ _ h1) (.c (by simp[bn,wD])) aq.2
 . obtain⟨blk,off,f,h1,aa⟩:=h1;exact Good.pure R (e _ _ h1) (.c ⟨blk,off,f,by grind,aa⟩) aq.2
theorem ba.ahm(h:ba (cd w S) ts vs):ba (bn φ w S) (ts.map .t) vs:=by
 induction h with
 |nil=>exact .nil
 |cons h _ ih=>exact .cons h ih
theorem LQ(n:Nat->Bool)(ts:List T):(ts.map C.t).all (C.aD n)=true:=by simp[C.aD]
theorem zc{g:Bool}(aq:pQ P ty=some g)(w:World):(isAgg ty).run P w= .ok g w:=by
 unfold pQ at aq;split at aq<;>simp_all [isAgg,underlying]
theorem j9{k:Nat}(a:eM P ty=some k)(w:World):(sizeOf ty).run P w= .ok k w:=by
 simp[eM]at a;obtain⟨i,b,rfl⟩:=a;simp[sizeOf,typeInfo,b]
theorem KT{g:Bool×Nat}(h:tl P ty=some g):pQ P ty=some g.1/\eM P ty=some g.2/\(g.1=false->g.2=1):=by
 grind[tl,br]
theorem Zl{g:Bool}{k:Nat}(aq:pQ P ty=some g)(d:eM P ty=some k){b o:Nat}
 (a:∀j,j<k->w.cell? ⟨b,o+j,none⟩=vs[j]?)(af:vs.length=k)(h1:g=false->k=1):
 (loadVar ty ⟨b,o,none⟩).run P w= .ok (if g then .agg vs.toArray else vs.getD 0 undef) w:=by
 cases g with
 |true=>
  have:=run_loadCells_list (P:=P) w ⟨b,o,none⟩ vs (λj v c=>by
   grind[Addr.add])
  simp_all[loadVar,zc,j9]
 |false=>
  simp_all[loadVar,zc]
theorem bn.single(h:bn φ w S c v):v.cells=#[v]:=by
 have:=bn.ji h;cases v<;>simp[Value.oneCell']at this<;>rfl
theorem nO{v:V}{x:Value}(h:cl φ w S v x)(a:pR v=some cs)(b:v.aD n=true):ba (bn φ w S) cs x.cells.toList/\cs.all (C.aD n)=true:=by
 cases h with
 |c h=>
  simp[pR]at a;subst a;rw[bn.single h];exact⟨.cons h .nil,by grind[V.aD]⟩
 |agg h=>
  grind[pR,Value.cells,V.aD]
 |aY=>grind[pR]
theorem Jv{k o:Nat}{v:V}(h:ba (bn φ w S) cs vs)(d:cs.all (C.aD n)=true)(af:jT agg k cs o=some v)(h1:agg=false->k=1):
 o+k<=cs.length/\cl φ w S v (if agg then .agg ((vs.drop o).take k).toArray else((vs.drop o).take k).getD 0 undef)/\v.aD n=true:=by
 unfold jT at af;cases agg with
 |true=>
  simp at af;obtain⟨b,rfl⟩:=af;refine⟨b,?_,by grind[V.aD]⟩;simpa using cl.agg ((h.drop o).take k)
 |false=>
  have:=h1 rfl;subst this;simp at af;obtain⟨c,a,rfl⟩:=af;obtain⟨x,e,ag⟩:=h.get a;have aC:=(ds.1 a).1;refine⟨by omega,?_,?_⟩
  . have:((vs.drop o).take 1).getD 0 undef=x:=(by grind);simp only[this];exact .c ag
  grind[V.aD]
theorem MZ{k o:Nat}{v:V}(af:loadT agg k ts o=some v):jT agg k (ts.map .t) o=some v:=by
 unfold loadT at af;unfold jT;cases agg<;>simp_all
theorem acm{g:Bool}{k:Nat}(aq:pQ P ty=some g)(a:eM P ty=some k)(h1:g=false->k=1)(b:off+k<=vs.length):
 (part ty vs.toArray off).run P w= .ok (if g then .agg ((vs.drop off).take k).toArray else((vs.drop off).take k).getD 0 undef) w:=by
 cases g with
 |true=>
  simp_all[part,zc,j9]
 |false=>
  have:=h1 rfl;have aC:off<vs.length:=by omega
  simp_all[part,zc]
theorem aaq(R:Rel aE nt φ S env J n a w)(r:o.op= .field ty x f)(u:P.underlying ty=some (.struct fs)){b:Field}(j:fs[f]?=some b)
 {m:Nat}(q:eM P b.type=some m){g:Bool}(aq:pQ P b.type=some g)(h1:g=false->m=1){c:aQ}(A:bM x=some c)
 {p v J'}(B:n key=false)(h:aR (.fld g b.offset m c) env J key=some (p,v,J'))(s:p):Good P aE nt env J' (ins n key) a v ((execOp a.eval o).run P w):=by
 simp only[aR,br]at h;obtain⟨⟨C,D⟩,k,he⟩:=h;simp at he;split at he
 . simp only[bo]at he;obtain⟨v0,y,rfl,rfl,rfl⟩:=he;have e:=cy R A k s;obtain⟨vs,z,d⟩:=e.1.sv;obtain⟨l,t,i⟩:=Jv d (by simpa[V.aD]using e.2) y h1;have ag:=acm (w:=w) aq q h1 (by rw[<-d.length];exact l);exact Good.pure R (by simp[execOp,r,z,Instr.field,underlying,u,j,asAgg,ag]) t i
 grind
theorem aar(R:Rel aE nt φ S env J n a w){i:Nat}(q:o.op= .extract x i){b:aQ}(g:bM x=some b)
 {p v J'}(m:n key=false)(h:aR (.ext b i) env J key=some (p,v,J'))(f:p):Good P aE nt env J' (ins n key) a v ((execOp a.eval o).run P w):=by
 simp only[aR,br]at h;obtain⟨⟨r,s⟩,e,he⟩:=h;simp at he;split at he
 . simp only[bo]at he;obtain⟨v0,d,rfl,rfl,rfl⟩:=he;have c:=cy R g e f;generalize k:a.eval x=y at c;obtain⟨ag,l⟩:=c;cases ag with
   |aY _ xs af aa=>
    have aC:i<xs.length:=(by grind);have j:=e' aC;refine Good.pure R ?_ (aa i _ _ d j) (nT (by grind[V.aD]) d);simp_all[execOp,Instr.extract]
 grind
theorem Zd(R:Rel aE nt φ S env J n a w){x y:Operand}{e:Array TypeId}(j:o.op= .call {callee:= .builtin .max,args:=#[x,y],argTypes:=e}){b c:aQ}(l:bM x=some b)(m:bM y=some c)
 {p v J'}(r:n key=false)(h:aR (.max2 b c) env J key=some (p,v,J'))(d:p):Good P aE nt env J' (ins n key) a v ((execOp a.eval o).run P w):=by
 simp only[aR,br]at h;obtain⟨⟨t,z⟩,g,⟨u,A⟩,i,he⟩:=h;simp at he;split at he
 . rename_i k p s q;simp only[ew]at he;obtain⟨rfl,rfl,rfl,rfl⟩:=he;have h1:=(cy R l g d.1).1.gr;have f:=(cy R m i d.2).1.gr;refine Good.pure R ?_ (.m' _ _) rfl;have:(if p<q then q else p)=max p q:=(by omega);simp[execOp,j,invoke,builtin,Builtin.max_,Builtin.max2,h1,f,Go.resolve,this]
 grind
theorem YH(R:Rel aE nt φ S env J n a w){x y:Operand}{e:Array TypeId}(j:o.op= .call {callee:= .builtin .min,args:=#[x,y],argTypes:=e}){b c:aQ}(l:bM x=some b)(m:bM y=some c)
 {p v J'}(r:n key=false)(h:aR (.min2 b c) env J key=some (p,v,J'))(d:p):Good P aE nt env J' (ins n key) a v ((execOp a.eval o).run P w):=by
 simp only[aR,br]at h;obtain⟨⟨t,z⟩,g,⟨u,A⟩,i,he⟩:=h;simp at he;split at he
 . rename_i k p s q;simp only[ew]at he;obtain⟨rfl,rfl,rfl,rfl⟩:=he;have h1:=(cy R l g d.1).1.gr;have f:=(cy R m i d.2).1.gr;refine Good.pure R ?_ (.m' _ _) rfl;have:(if q<p then q else p)=min p q:=(by omega);simp[execOp,j,invoke,builtin,Builtin.min_,Builtin.min2,h1,f,Go.resolve,this]
 grind
theorem cd.km(h:cd w S (.slice es) v):∃(a:Option Addr) (cap sz b o:Nat) (f:Nat->Nat->Value),v= .slice a es.length cap/\es.length<=cap/\es.length<=eI/\(∀e,e∈es->e.length=sz)/\(es≠[]->a=some ⟨b,o,none⟩)/\
 (∀i j:Nat,i<es.length->j<sz->S b (o+i*sz+j)/\w.cell? ⟨b,o+i*sz+j,none⟩=some (f i j))/\(∀(i j:Nat) e t,es[i]?=some e->e[j]?=some t->cd w S t (f i j)):=by
 cases h;exact⟨_,_,_,_,_,_,rfl,by grind,by grind,by omega,by omega,by omega,by grind⟩
theorem bn.hd{b sz len:Nat}(h:bn φ w S (.arr b sz off len) v):∃a,v= .slice a len ((φ b).2-off)/\((φ b).2≠0->a=some ⟨(φ b).1,off*sz,none⟩)/\off+len<=(φ b).2:=h
theorem LR(R:Rel aE nt φ S env J n a w){x:Operand}{ty:TypeId}(g:o.op= .call {callee:= .builtin .len,args:=#[x],argTypes:=#[ty]}){str:Bool}
 (d:if str then P.underlying ty=some .string else ∃e,P.underlying ty=some (.slice e)){i:aQ}(q:bM x=some i)
 {p v J'}(r:n key=false)(h:aR (.len str i) env J key=some (p,v,J'))(m:p):Good P aE nt env J' (ins n key) a v ((execOp a.eval o).run P w):=by
 simp only[aR,br]at h;obtain⟨⟨u,y⟩,k,he⟩:=h;simp at he;split at he<;>simp only[dp,dv,reduceCtorEq]at he
 all_goals
  obtain⟨rfl,rfl,rfl⟩:=he;have h1:=(cy R q k m).1.eb
 . obtain⟨e,d⟩:=d;obtain⟨f,cap,_,_,_,_,h1,_⟩:=cd.km h1;exact Good.pure R (by simp[execOp,g,Go.resolve,invoke,builtin,Builtin.len_,underlying,d,h1,goInt]) (.m' _ _) rfl
 . obtain⟨e,d⟩:=d;obtain⟨f,h1,_⟩:=bn.hd h1;exact Good.pure R (by simp[execOp,g,Go.resolve,invoke,builtin,Builtin.len_,underlying,d,h1,goInt]) (.m' _ _) rfl
 . obtain⟨e,d⟩:=d;obtain⟨f,h1⟩:=h1;exact Good.pure R (by simp[execOp,g,Go.resolve,invoke,builtin,Builtin.len_,underlying,d,h1,goInt]) (.m' _ _) rfl
 . obtain⟨e,d⟩:=d;rename_i b l;obtain⟨f,cap,h1⟩:∃f cap,a.eval x= .slice f l cap:=by
    obtain⟨s,t,k1⟩:=h1;grind
   exact Good.pure R (by simp[execOp,g,Go.resolve,invoke,builtin,Builtin.len_,underlying,d,h1,goInt]) (.m' _ _) rfl
 . simp at d;obtain⟨bs,j,rfl,_⟩:=cl.kn (.c h1);exact Good.pure R (x:= .int .i64 bs.size) (by simp[execOp,g,Go.resolve,invoke,builtin,Builtin.len_,underlying,d,j,goInt]) (by exact .m' _ _) rfl
theorem YI(R:Rel aE nt φ S env J n a w){i:Operand}(F:o.op= .indexAddr ty x i)(I:P.underlying ty=some (.slice e)){sz:Nat}(H:eM P e=some sz)(h0:sz≠0)
 {z y:aQ}(K:bM x=some z)(E:bM i=some y)
 {p v J'}(X:n key=false)(h:aR (.idxA sz z y) env J key=some (p,v,J'))(G:p):Good P aE nt env J' (ins n key) a v ((execOp a.eval o).run P w):=by
 simp only[aR,br]at h;obtain⟨⟨ae,ag⟩,D,⟨ad,af⟩,B,he⟩:=h;simp only at he;have A:∀(b off m:Nat),Addr.add ⟨b,off,none⟩ (m*sz)=⟨b,off+m*sz,none⟩:=by
  grind[Addr.add]
 split at he
 . rename_i es k m;obtain⟨rfl,rfl,rfl⟩:=he;obtain⟨s,u,r,M,U⟩:=G;have h1:=(cy R K D s).1.eb;have g:=(cy R E B u).1.gr;obtain⟨L,cap,d,b,off,f,h1,T,Z,aa,l,Q,ab⟩:=cd.km h1;have N:es≠[]:=(by grind);have W:es[m.toNat]?=some (el es m.toNat):=(by grind[el]);have O:d=sz:=(by grind);subst O;rw[l N]at h1;refine Good.pure R (x:= .pointer (some ⟨b,off+m.toNat*d,none⟩)) ?_ ?_ rfl
   . have q:0<=m/\m<es.length:=⟨r,by omega⟩
     simp[execOp,F,h1,g,Instr.indexAt,asIntOf,underlying,I,q,j9 H,A]
   . refine .c ⟨b,off+m.toNat*d,λj=>f m.toNat j,by rfl,λj t ht=>?_⟩;grind
 . rename_i b d off len k m;obtain⟨rfl,rfl,rfl⟩:=he;obtain⟨s,u,r,M,rfl⟩:=G;have aq:=cy R K D s;have h1:=aq.1.eb;have g:=(cy R E B u).1.gr;obtain⟨L,h1,l,Y⟩:=bn.hd h1;rw[l (by omega)]at h1;refine Good.pure R (x:= .pointer (some ⟨(φ b).1,off*sz+m.toNat*sz,none⟩)) ?_ (.c ?_) (by grind[V.aD,C.aD])
   . have q:0<=m/\m<len:=⟨r,by omega⟩
     simp[execOp,F,h1,g,Instr.indexAt,asIntOf,underlying,I,q,j9 H,A]
   grind[bn]
 grind
theorem YJ(R:Rel aE nt φ S env J n a w){i:Operand}(r:o.op= .index ty x i)(z:P.underlying ty=some .string)
 {c b:aQ}(A:bM x=some c)(j:bM i=some b)
 {p v J'}(B:n key=false)(h:aR (.idxS c b) env J key=some (p,v,J'))(t:p):Good P aE nt env J' (ins n key) a v ((execOp a.eval o).run P w):=by
 simp only[aR,br]at h;obtain⟨⟨D,F⟩,g,⟨C,E⟩,f,he⟩:=h;simp at he;split at he
 . rename_i s k m;obtain⟨rfl,rfl,rfl⟩:=he;obtain⟨u,y,l,q⟩:=t;obtain⟨bs,h1,rfl,hs⟩:=(cy R A g u).1.kn;have d:=(cy R j f y).1.gr;have aC:m.toNat<bs.size:=(by simp_all);refine Good.pure R ?_ (.m' _ _) rfl;have e:bs[m.toNat]?=some (bs.data.toList.getD m.toNat 0):=by
    rw[getElem?_pos bs _ _];simp[e' q];rfl
   simp[execOp,r,h1,d,Instr.index,asIntOf,underlying,z,l,e]
 grind
theorem JR:∀{vs:List V} {l:a8} {xs:List Value},aR.sD vs=some l->ba (cl φ w S) vs xs->V.aD.V.dI n vs=true->
 xs=l.map (λb=>Value.pointer (some ⟨(φ b).1,0,none⟩))/\(l.all λb=>n b)=true
 |[],l,xs,h,a,c=>by simp[aR.sD]at h;subst h;cases a;simp
 |v::vs,l,xs,h,a,c=>by
  cases a with
  |cons d ht=>
   unfold aR.sD at h;split at h
   . grind
   . rename_i b r e;cases e;simp at h;obtain⟨i,f,rfl⟩:=h;simp[V.aD.V.dI]at c;obtain⟨rfl,g⟩:=JR f ht c.2;have:=d.hT;grind[V.aD,C.aD]
   grind
theorem YK(R:Rel aE nt φ S env J n a w){caps:Array Operand}(m:o.op= .makeFunc (.func f) #[] caps){d:List aQ}(i:nb caps.toList=some d)
 {p v J'}(k:n key=false)(h:aR (.mkfn f d) env J key=some (p,v,J'))(g:p):Good P aE nt env J' (ins n key) a v ((execOp a.eval o).run P w):=by
 simp only[aR,br]at h;obtain⟨⟨q,vs⟩,e,he⟩:=h;split at he
 . rename_i l af;obtain⟨rfl,rfl,rfl⟩:=he;have aq:=q' R i e g;obtain⟨h1,j⟩:=JR af aq.1 aq.2;refine Good.pure R ?_ (.c rfl) (by grind[V.aD,C.aD]);have:caps.map a.eval=(l.map λb=>Value.pointer (some ⟨(φ b).1,0,none⟩)).toArray:=(by grind);simp_all[execOp,Instr.makeFunc]
 grind
theorem ra(R:Rel aE nt φ S env J n a w){x:Option Operand}{b:Option aQ}(c:ki x=some b){m:Option Int}(h:jS env b=some (p,m))(e:p):
 (x.map a.eval=none/\m=none)\/∃k i,x.map a.eval=some (.int k i)/\m=some i:=by
 cases x with
 |none=>grind[ki,jS]
 |some x=>
  simp[ki]at c;obtain⟨g,d,rfl⟩:=c;simp only[jS,br]at h;obtain⟨⟨q,v⟩,f,he⟩:=h;simp at he;split at he
  . obtain⟨rfl,rfl⟩:=he;have:=(cy R d f e).1.gr;grind
  grind
theorem DR {isSlice:Bool}{len cap:Nat}{b a:Option Value}{l h:Option Int}(d:(b=none/\l=none)\/∃k i,b=some (.int k i)/\l=some i)(c:(a=none/\h=none)\/∃k i,a=some (.int k i)/\h=some i)
 (h0:0<=l.getD 0)(h1:l.getD 0<=h.getD len)(e:h.getD len<=len)(f:len<=cap):
 (Instr.sliceBounds isSlice len cap b a none).run P w= .ok ((l.getD 0).toNat,(h.getD len).toNat,cap) w:=by
 have g:h.getD len<=cap:=by omega
 rcases d with⟨rfl,rfl⟩|⟨k,i,rfl,rfl⟩<;>rcases c with⟨rfl,rfl⟩|⟨m,j,rfl,rfl⟩<;>simp_all [Instr.sliceBounds,Instr.sliceBound,asIntOf];grind
theorem YL(R:Rel aE nt φ S env J n a w){i:Option Operand}(u:o.op= .slice ty x j i none)(C:P.underlying ty=some .string)
 {f:aQ}{d b:Option aQ}(D:bM x=some f)(t:ki j=some d)(s:ki i=some b)
 {p v J'}(F:n key=false)(h:aR (.slcS f d b) env J key=some (p,v,J'))(y:p):Good P aE nt env J' (ins n key) a v ((execOp a.eval o).run P w):=by
 simp only[aR,br]at h;obtain⟨⟨H,I⟩,r,⟨pl,l⟩,q,⟨G,h⟩,m,he⟩:=h;simp at he;split at he
 . obtain⟨rfl,rfl,rfl⟩:=he;obtain⟨z,A,B,h0,h1,g⟩:=y;obtain⟨bs,E,rfl,hs⟩:=(cy R D r z).1.kn;have af:=ra R t q A;have aa:=ra R s m B;rw[wy]at h1 g;have k:=DR (P:=P) (w:=w) (isSlice:=false) af aa h0 h1 g (dV _);rw[wy];have e:(bs.extract (l.getD 0).toNat (h.getD bs.size).toNat).data.toList=(bs.data.toList.take (h.getD bs.size).toNat).drop (l.getD 0).toNat:=(by grind[ByteArray.data_extract,Array.toList_extract,List.drop_take]);refine Good.pure R (x:= .string (bs.extract (l.getD 0).toNat (h.getD bs.size).toNat)) ?_ (.c ?_) rfl
   . simp[execOp,u,Instr.sliceAt,Instr.slice,underlying,C,E,k]
   . rw[<-e];refine .str _ ?_;rw[ByteArray.size_extract];omega
 grind
theorem aas(R:Rel aE nt φ S env J n a w){ab r:Option Operand}(U:o.op= .slice ty x ab r none)(Y:P.underlying ty=some (.slice e)){sz:Nat}(X:eM P e=some sz)
 {I:aQ}{k G:Option aQ}(Z:bM x=some I)(T:ki ab=some k)(Q:ki r=some G)
 {p v J'}(au:n key=false)(h:aR (.slc sz I k G) env J key=some (p,v,J'))(W:p):Good P aE nt env J' (ins n key) a v ((execOp a.eval o).run P w):=by
 simp only[aR,br]at h;obtain⟨⟨az,aA⟩,O,⟨pl,l⟩,N,⟨ay,h⟩,M,he⟩:=h;simp only at he;split at he
 . rename_i es;obtain⟨rfl,rfl,rfl⟩:=he;obtain⟨B,D,E,h0,h1,u,ag⟩:=W;obtain⟨g,cap,d,b,off,f,F,ad,aw,ax,K,z,am⟩:=cd.km (cy R Z O B).1.eb;have af:=ra R T N D;have aa:=ra R Q M E;have y:=DR (P:=P) (w:=w) (isSlice:=true) (cap:=cap) af aa h0 h1 u ad;generalize ao:(l.getD 0).toNat=L at*;generalize an:(h.getD (es.length:Int)).toNat=H at*;have s:((es.take H).drop L).length=H-L:=by simp;omega
   refine Good.pure R (x:= .slice (if cap=L then g else g.map (·.add (L*sz))) (H-L) (cap-L)) ?_ (.c ?_) rfl
   . simp[execOp,U,Instr.sliceAt,Instr.slice,underlying,Y,F,y,j9 X]
   . show cd w S _ _;rw[<-s];have ah:∀(i:Nat) e,((es.take H).drop L)[i]?=some e->es[L+i]?=some e/\L+i<H:=(by grind);by_cases A:es=[]
     . subst A;simp;exact cd.slice [] _ _ 0 0 0 (λ_ _=>undef) (by simp) (by simp[eI]) (by simp) (by simp) (by simp) (by simp)
     . have ak:d=sz:=by
        obtain⟨cZ,ar⟩:=BV es A;grind
       subst ak;refine cd.slice _ _ _ d b (off+L*d) (λi j=>f (L+i) j) (by rw[s];omega) (by rw[s];omega) (λe he=>ag e (uy (FV he))) ?_ ?_ ?_
       . intro aG;have:L<H:=(by grind);rw[bx,K A];unfold Addr.add;split
         . rename_i h;simp[h]
         . rfl
       . intro i j r ai;rw[s]at r;have:=z (L+i) j (by omega) ai;rw[show off+L*d+i*d+j=off+(L+i)*d+j by rw[ix];omega];exact this
       . intro i j e t he ht;exact am _ _ _ _ (ah i e he).1 ht
 . rename_i b d off len;obtain⟨rfl,rfl,rfl⟩:=he;obtain⟨B,D,E,h0,h1,u,rfl⟩:=W;have aq:=cy R Z O B;obtain⟨g,F,K,av⟩:=bn.hd aq.1.eb;have af:=ra R T N D;have aa:=ra R Q M E;have y:=DR (P:=P) (w:=w) (isSlice:=true) (cap:=(φ b).2-off) af aa h0 h1 u (by omega);have ap:∀(q o m:Nat),(Addr.add ⟨q,o,none⟩ m:Addr)=⟨q,o+m,none⟩:=by
    grind[Addr.add]
   have aj:k.isNone=true->l.getD 0=0:=by
    intro aG;cases k with
    |some _=>grind
    |none=>grind[jS,Option.some.injEq,Prod.mk.injEq]
   generalize l.getD 0=L at*;generalize h.getD (len:Int)=H at*;refine Good.pure R (x:= .slice (if(φ b).2-off=L.toNat then g else g.map (·.add (L.toNat*sz))) (H.toNat-L.toNat) ((φ b).2-off-L.toNat)) ?_ (.c ?_) ?_
   . simp[execOp,U,Instr.sliceAt,Instr.slice,underlying,Y,F,y,j9 X]
   . by_cases aG:k.isNone=true
     . rw[ae aG];have:=aj aG;subst this;refine⟨_,rfl,λz=>?_,by omega⟩;grind
     . rw[al aG];refine⟨_,_,rfl,λz=>?_,by omega⟩;grind
   grind[V.aD,C.aD]
 grind
theorem YM(R:Rel aE nt φ S env J n a w){k z:IntKind}(r:o.op= .slice ty x none (some (.const (.int k 0))) (some (.const (.int z 0))))(u:P.underlying ty=some (.slice e))
 {sz:Nat}(t:eM P e=some sz){m:aQ}(y:bM x=some m)
 {p v J'}(A:n key=false)(h:aR (.slc0 m) env J key=some (p,v,J'))(s:p):Good P aE nt env J' (ins n key) a v ((execOp a.eval o).run P w):=by
 simp only[aR,br]at h;obtain⟨⟨B,D⟩,q,he⟩:=h;simp at he;have j:∀(g:Option _) (l c:Nat),a.eval x= .slice g l c->∃a2,(execOp a.eval o).run P w= .ok (.value (.slice a2 0 0)) w:=by
  intro g l c d;have cZ:∀v,a.eval (.const v)=v:=λ_=>rfl;exact⟨_,by simp[execOp,r,Instr.sliceAt,Instr.slice,underlying,u,d,j9 t];rfl⟩
 split at he<;>simp only[dp,reduceCtorEq]at he
 all_goals
  obtain⟨rfl,rfl,rfl⟩:=he;have h1:=(cy R y q s).1.eb
 . obtain⟨g,cap,C,b,off,f,d,_⟩:=cd.km h1;obtain⟨a2,i⟩:=j _ _ _ d;exact Good.pure R i (.c ⟨a2,rfl⟩) rfl
 . obtain⟨g,d⟩:=h1;obtain⟨a2,i⟩:=j _ _ _ d;exact Good.pure R i (.c ⟨a2,rfl⟩) rfl
 . obtain⟨g,d,_⟩:=bn.hd h1;obtain⟨a2,i⟩:=j _ _ _ d;exact Good.pure R i (.c ⟨a2,rfl⟩) rfl
theorem js{b:Nat}{a:Nat×Nat}(h:w.heap[b]?=some (.cells vs.toArray E a))(j:Nat):w.cell? ⟨b,j,none⟩=vs[j]?:=by
 grind[World.cell?]
theorem tL{g:Bool×Nat}(aq:tl P ty=some g){blk off0 o:Nat}{v:V}
 (a:ba (bn φ w S) cs vs)(c:cs.all (C.aD n)=true)(i:∀j,j<vs.length->w.cell? ⟨blk,off0+j,none⟩=vs[j]?)(af:jT g.1 g.2 cs o=some v):
 ∃x,(loadVar ty ⟨blk,off0+o,none⟩).run P w= .ok x w/\cl φ w S v x/\v.aD n=true:=by
 obtain⟨h1,e,b⟩:=KT aq;obtain⟨d,k,f⟩:=Jv a c af b;rw[a.length]at d;grind[Zl]
theorem ba.SN(h:ba (cd w S) ts xs):ba (bn φ w S) (ts.map .t) xs:=ba.ahm h
theorem HZ{b sz i:Nat}(h:c1 φ w S b (.arr sz es))(k:i<es.length):
 (φ b).2≠0/\∃(vs:List Value) (E:TypeId) (xs:List Value),w.heap[(φ b).1]?=some (.cells vs.toArray E (0,0))/\vs.length=(φ b).2*sz/\(el es i).length=sz/\xs.length=sz/\ba (cd w S) (el es i) xs/\
  (∀j,j<sz->vs[i*sz+j]?=xs[j]?)/\(i+1)*sz<=vs.length:=by
 obtain⟨h1,f,a,g,bc⟩:=h;have h0:(φ b).2≠0:=by omega
 obtain⟨vs,E,aa,af,l,hs⟩:=bc h0;have c:es[i]?=some (el es i):=by grind[el]
 have e:=a _ (fj c);have d:(i+1)*sz<=vs.length:=by rw[af];exact eY _ (by omega)
 refine⟨h0,vs,E,(vs.drop (i*sz)).take sz,aa,af,e,by grind,?_,?_,d⟩
 . grind[ba.lE]
 grind
theorem YN(R:Rel aE nt φ S env J n a w)(ag:o.op= .load ty x){g:Bool×Nat}(aq:tl P ty=some g)(u:bM x=some G)
 {p v J'}(ad:n key=false)(h:aR (.load g.1 g.2 G) env J key=some (p,v,J'))(s:p):Good P aE nt env J' (ins n key) a v ((execOp a.eval o).run P w):=by
 simp only[aR,br]at h;obtain⟨⟨ak,al⟩,r,he⟩:=h;simp only at he;have C:∀(blk off:Nat) (y:Value),a.eval x= .pointer (some ⟨blk,off,none⟩)->(loadVar ty ⟨blk,off,none⟩).run P w= .ok y w->(execOp a.eval o).run P w= .ok (.value y) w:=by
  simp_all[execOp,Instr.loadAt,Instr.sureAddr]
 split at he
 . split at he
   . rename_i cs d;simp only[bo]at he;obtain⟨v0,m,rfl,rfl,rfl⟩:=he;have h1:=(cy R u r s).1.hT;obtain⟨_,vs,E,aa,q,_⟩:=R.bQ.blk _ _ d;have z:=(R.dU _ _ d).2;obtain⟨y,l,k,e⟩:=tL (n:=n) aq q z (λj _=>by rw[js aa,hR]) m;grind[Good.pure]
   . rename_i E c d;split at he
     . rename_i O;obtain⟨Q,rfl⟩:=O;obtain⟨rfl,rfl,rfl⟩:=he;have h1:=(cy R u r s).1.hT;obtain⟨_,⟨K,Z,aa,U,V⟩,_⟩:=R.bQ.blk _ _ d;have z:=(R.dU _ _ d).2;have T:K.oneCell'=true:=by rcases U with rfl|rfl<;>rfl
       have q:ba _ [.dead,c] [K,Z]:= .cons T (.cons V .nil);obtain⟨y,l,k,e⟩:=tL (n:=n) (off0:=0) (o:=1) (v:= .c c) aq q (by simp only[rU,List.all_nil,Ca];exact z) (λj _=>by rw[js aa,hR]) (by simp[jT,Q]);grind[Good.pure]
     grind
   grind
 . rename_i b sz i I;split at he
   . rename_i Y es d;simp only[bo,dv]at he;obtain⟨v0,m,rfl,rfl,rfl⟩:=he;obtain⟨B,rfl,D⟩:=s;have h1:=(cy R u r B).1.jd;obtain⟨_,vs,E,xs,aa,af,ae,ah,q,N,_⟩:=HZ (R.bQ.blk _ _ d) D;obtain⟨y,l,k,e⟩:=tL (n:=n) aq (ba.SN q) (LQ n _) (λj A=>by rw[js aa,N j (by omega)]) (MZ m);exact Good.pure R (C _ _ _ h1 l) k e
   . rename_i Y es ai aj c d;split at he
     . grind
     . rename_i H;obtain⟨⟨a1,a2,a3,a4,a5,ab⟩,⟨vs,E,k1,k2,k3,L,k4,k5⟩,k6⟩:=R.bQ.blk _ _ d;have z:=(R.dU _ _ d).2;split at he
       . rename_i F;subst F;obtain⟨rfl,rfl,rfl⟩:=he;obtain⟨B,rfl,rfl⟩:=s;have h1:=(cy R u r B).1.jd
         obtain⟨y,l,k,e⟩:=tL (n:=n) (vs:=[L]) (o:=0) (v:= .c c) aq (.cons k5 .nil) (by simpa[bP.aD]using z) (λj A=>by
          have:j=0:=(by simpa using A);subst this
          rw[js k1,uu,k4];rfl) (by simp[jT,H])
         exact Good.pure R (C _ _ _ h1 l) k e
       . rename_i F;simp only[bo,dv]at he;obtain⟨v0,m,rfl,rfl,rfl⟩:=he;obtain⟨B,rfl,D⟩:=s;have h1:=(cy R u r B).1.jd;simp only[loadT,bZ,b9,bo]at m;obtain⟨t,ht,rfl⟩:=m;have M:es[i]?=some (el es i):=by unfold el;rw[List.getD,e' D];rfl
         obtain⟨am,X,W⟩:=k3 i I _ t M ht (λh=>F h.2)
         obtain⟨y,l,k,e⟩:=tL (n:=n) (φ:=φ) (cs:=[.t t]) (o:=0) (v:= .c (.t t)) aq (.cons W .nil) rfl (λj A=>by
          have:j=0:=(by simpa using A);subst this
          rw[js k1,uu,X];rfl) (by simp[jT,H])
         exact Good.pure R (C _ _ _ h1 l) k e
   grind
 . rename_i ts I;simp only[bo,dv]at he;obtain⟨v0,m,rfl,rfl,rfl⟩:=he;obtain⟨blk,off,f,h1,aa⟩:=(cy R u r s).1.eb;have q:ba (cd w S) ts ((List.range ts.length).map f):=by
    grind[ba.lE]
   obtain⟨y,l,k,e⟩:=tL (n:=n) aq (ba.SN q) (LQ n _) (blk:=blk) (off0:=off) (λj A=>by simp_all) (MZ m);exact Good.pure R (C _ _ _ h1 l) k e
 grind
theorem aat{k:Nat}{s t:T}{b:Bool}(h:BL k s t=some b)(c:x3 P ty=some k){x y:Value}(f:cd w S s x)(g:cd w S t y)(d:Nat):
 (Op.equalIn (d+1) ty x y).run P w= .ok b w:=by
 have i:∀a b:ak,(a==b)=decide (a=b):=λa b=>by grind
 unfold x3 at c;unfold BL at h;split at h
 . cases h;cases f;cases g;split at c<;>simp at c;rename_i e;unfold Op.equalIn;simp only[Sem.run_bind,run_underlying e];rfl
 . simp at h;obtain⟨rfl,rfl⟩:=h;cases f;cases g;split at c<;>simp at c;rename_i e;unfold Op.equalIn;simp only[Sem.run_bind,run_underlying e,Result.andThen_ok];rfl
 . cases f with|str s1 h1=>cases g with|str l j=>
   split at c<;>simp at c;rename_i e;unfold Op.equalIn;simp only[Sem.run_bind,run_underlying e,Result.andThen_ok];simp_all[beq_toListBytes,ByteArray.toList_eq]
 grind
theorem aau{k:Nat}(h:x3 P ty=some k):pQ P ty=some false:=by
 grind[x3,pQ]
theorem TC{d:Nat}{xs j:Array Value}:∀{fs:List Field} {i:Nat} {ks:a8} {ps c:List C} {us vs:List Value} {r:Bool},zb P i fs=some ks->sM ks ps c=some r->
 ba (bn φ w S) ps us->ba (bn φ w S) c vs->xs.toList.drop i=us->j.toList.drop i=vs->(Op.eqFields (d+1) xs j fs).run P w= .ok r w
 |[],i,ks,ps,c,us,vs,r,a,he,h1,e,aM,g=>by
  simp[zb]at a;subst a;cases ps<;>cases c<;>simp[sM]at he;subst he;rfl
 |f::fs,i,ks,ps,c,us,vs,r,a,he,h1,e,aM,g=>by
  simp[zb,br]at a;obtain⟨⟨F,E⟩,k,A,H,B,rfl⟩:=a;unfold sM at he;split at he
  . grind
  . rename_i G I x J y K t;cases t;simp only[br,bo]at he;obtain⟨b,s,L,D,rfl⟩:=he;cases h1 with|cons h1 p=>
    cases e with|cons e q=>
    rename_i u M v N;have n:xs[i]?=some u:=by have:=ee (·[0]?) aM;grind
    have o:j[i]?=some v:=by have:=ee (·[0]?) g;grind
    have ih:=TC (d:=d) B D p q (by rw[<-yF,aM];rfl) (by rw[<-yF,g];rfl);have l:∀(m:Array _) (z:Value),m[i]?=some z->(part f.type m f.offset).run P w= .ok z w:=by
     simp_all[part,zc,aau]
    simp[Op.eqFields,l _ _ n,l _ _ o,aat s A h1 e d];cases b
    all_goals simp_all
  grind
theorem Zm(R:Rel aE nt φ S env J n a w){m:TypeId}(E:o.op= .binOp op ty x y m)(j:op= .eql\/op= .neq){ks:a8}(f:Hq P ty=some ks)
 {b c:aQ}(k:bM x=some b)(l:bM y=some c)
 {p v J'}(D:n key=false)(h:aR (.eqAgg (op== .neq) ks b c) env J key=some (p,v,J'))(e:p):Good P aE nt env J' (ins n key) a v ((execOp a.eval o).run P w):=by
 simp only[aR,br]at h;obtain⟨⟨H,K⟩,g,⟨I,L⟩,i,he⟩:=h;simp at he;split at he
 . simp only[bo]at he;obtain⟨r,ag,rfl,rfl,rfl⟩:=he;obtain⟨us,F,u⟩:=(cy R k g e.1).1.sv;obtain⟨vs,G,z⟩:=(cy R l i e.2).1.sv;unfold Hq at f;split at f
   . rename_i fs C;have s:(eqGuard op ty x y (a.eval x) (a.eval y)).run P w= .ok () w:=(by simp_all[eqGuard]);have B:P.fieldsOf ty=fs:=(by grind[Program.fieldsOf]);have q:(Op.equal ty (.agg us.toArray) (.agg vs.toArray)).run P w= .ok r w:=by
      obtain⟨d,A⟩:∃d,Op.maxDepth=d+2:=⟨9998,rfl⟩
      grind[Op.equal,run_equalIn_struct,TC]
     have t:(binOp op ty (a.eval x) (a.eval y)).run P w= .ok (.bool (if(op== .neq)then !r else r)) w:=by
      rcases j with rfl|rfl
      . simp_all[binOp]
      simp_all[binOp]
     refine Good.pure R ?_ (.sB _) rfl;simp_all[execOp]
   grind
 grind
theorem q5{b:Nat}(h:w'.heap[b]?=w.heap[b]?)(j:Nat):w'.cell? ⟨b,j,none⟩=w.cell? ⟨b,j,none⟩:=by
 simp[World.cell?,h]
theorem lZ{b:Nat}{o:Obj}(h:w.heap[b]?=some o):b<w.heap.size:=(BU.1 h).1
theorem c1.kj{b:Nat}{x:bP}(h:c1 φ w S b x)(h0:(φ b).2≠0):(φ b).1<w.heap.size:=by
 cases x with
 |box cs=>obtain⟨_,_,_,aa,_⟩:=h;exact lZ aa
 |arr sz es=>obtain⟨_,_,_,_,bc⟩:=h;obtain⟨_,_,aa,_⟩:=bc h0;exact lZ aa
 |set ks=>obtain⟨_,⟨_,_,aa,_⟩,_⟩:=h;exact lZ aa
 |buf E s=>obtain⟨_,_,bc⟩:=h;obtain⟨⟨_,aa,_⟩,_⟩:=bc h0;exact lZ aa
 |b7 E c=>obtain⟨_,⟨_,_,aa,_⟩,_⟩:=h;exact lZ aa
 |cA sz es i o c=>obtain⟨_,⟨_,_,aa,_⟩,_⟩:=h;exact lZ aa
theorem c1.qb{b:Nat}{x:bP}(h:c1 φ w S b x)(h0:(φ b).2≠0):∀j,¬S (φ b).1 j:=by
 cases x with
 |box cs=>obtain⟨_,_,_,_,_,hs⟩:=h;exact hs
 |arr sz es=>obtain⟨_,_,_,_,bc⟩:=h;obtain⟨_,_,_,_,_,hs⟩:=bc h0;exact hs
 |set ks=>exact h.2.2
 |buf E s=>exact(h.2.2 h0).2
 |b7 E c=>exact h.2.2
 |cA sz es i o c=>exact h.2.2
theorem c1.mono{F:dE}{b:Nat}{x:bP}(m:gx w S w' S)(q:∀b,n b=true->F b=φ b)(y:n b=true)(B:x.aD n=true)(aa:(φ b).2≠0->w'.heap[(φ b).1]?=w.heap[(φ b).1]?)
 (h:c1 φ w S b x):c1 F w' S b x:=by
 cases x with
 |box cs=>
  obtain⟨h0,vs,E,h1,a,f⟩:=h;simp only[c1,q b y];refine⟨h0,vs,E,(aa h0).trans h1,a.imp λc v H ag=>bn.mono m q (by simp[bP.aD]at B;exact B c H) ag,f⟩
 |arr sz es=>
  obtain⟨h1,a,f,A,bc⟩:=h;simp only[c1,q b y];refine⟨h1,a,f,A,λh0=>?_⟩;obtain⟨vs,E,k1,k2,k3,k4⟩:=bc h0;exact⟨vs,E,(aa h0).trans k1,k2,λi j e t he ht=>let⟨v,D,ag⟩:=k3 i j e t he ht;⟨v,D,cd.mono m ag⟩,k4⟩
 |set ks=>
  obtain⟨h0,⟨es,c,h1,a⟩,f⟩:=h;simp only[c1,q b y];exact⟨h0,⟨es,c,(aa h0).trans h1,a⟩,f⟩
 |buf E s=>
  obtain⟨h1,a,f⟩:=h;simp only[c1,q b y];refine⟨h1,a,λh0=>?_⟩;obtain⟨⟨vs,k1,k2,k3⟩,k4⟩:=f h0;exact⟨⟨vs,(aa h0).trans k1,k2,k3⟩,k4⟩
 |b7 E c=>
  obtain⟨h0,⟨p,v,h1,a,f⟩,A⟩:=h;simp only[c1,q b y];exact⟨h0,⟨p,v,(aa h0).trans h1,a,bn.mono m q (by simpa[bP.aD]using B) f⟩,A⟩
 |cA sz es i o c=>
  obtain⟨⟨h1,a,f,A,bc,G⟩,⟨vs,E,k1,k2,k3,v,k4,k5⟩,k6⟩:=h;simp only[c1,q b y];exact⟨⟨h1,a,f,A,bc,G⟩,⟨vs,E,(aa (by omega)).trans k1,k2,λi j e t he ht aG=>let⟨v,D,ag⟩:=k3 i j e t he ht aG;⟨v,D,cd.mono m ag⟩,v,k4,bn.mono m q (by simpa[bP.aD]using B) k5⟩,k6⟩
theorem Rel.world(R:Rel aE nt φ S env J n a w)(W:Nat->Prop)(q:w'.os=w.os)(ht:w'.tape=w.tape)(p:w'.output=w.output)(hs:w.heap.size<=w'.heap.size)
 (f:∀b:Nat,b<w.heap.size->¬W b->w'.heap[b]?=w.heap[b]?)
 (dj:∀b,W b->(∀j,¬S b j)/\(∀k y,aX J k=some y->(φ k).2≠0->(φ k).1≠b)/\(aE.B b\/aE.jC.heap.size<=b)):Rel aE nt φ S env J n a w':=by
 have m:gx w S w' S:=⟨λ_ _ h=>h,λb j h=>q5 (f b (R.bQ.st b j h) (λe=>(dj b e).1 j h)) j⟩
 refine⟨⟨λb x c=>?_,R.bQ.inj,λb j h=>l9 (R.bQ.st b j h) hs⟩,λk g v af aq=>?_,R.hM,R.gJ,R.dU,R.size,R.defers,?_,R.own,R.fix,R.fS⟩
 . have o:=R.bQ.blk b x c;exact c1.mono m (λ_ _=>rfl) (R.dU b x c).1 (R.dU b x c).2 (λh0=>f _ (o.kj h0) (λe=>(dj _ e).2.1 b x c h0 rfl)) o
 . obtain⟨x,c,ag⟩:=R.gK k g v af aq;exact⟨x,c,cl.mono m (λ_ _=>rfl) (R.gJ k g v af aq) ag⟩
 . refine⟨q.trans R.ext.os,ht.trans R.ext.tape,p.trans R.ext.output,gv R.ext.size hs,λb aC dy=>?_,R.ext.mono.trans m,R.ext.r8⟩;rw[f b (l9 aC R.ext.size) (λe=>?_)]
   . exact R.ext.block b aC dy
   . rcases (dj b e).2.2 with h|h
     . exact dy h
     . omega
theorem Rel.congr(R:Rel aE nt φ S env J n a w)(h:∀b,aX J' b=aX J b):Rel aE nt φ S env J' n a w:=
 ⟨⟨λb x c=>R.bQ.blk b x (h b▸c),λb e x y c f=>R.bQ.inj b e x y (h b▸c) (h e▸f),R.bQ.st⟩,R.gK,R.hM,R.gJ,λb x c=>R.dU b x (h b▸c),R.size,R.defers,R.ext,λb x c=>R.own b x (h b▸c),R.fix,R.fS⟩
theorem Rel.sub(R:Rel aE nt φ S env J n a w)(h:∀b x,aX J' b=some x->aX J b=some x):Rel aE nt φ S env J' n a w:=
 ⟨⟨λb x c=>R.bQ.blk b x (h b x c),λb e x y c f=>R.bQ.inj b e x y (h b x c) (h e y f),R.bQ.st⟩,R.gK,R.hM,R.gJ,λb x c=>R.dU b x (h b x c),R.size,R.defers,R.ext,λb x c=>R.own b x (h b x c),R.fix,R.fS⟩
theorem Rel.del(R:Rel aE nt φ S env J n a w)(b:Nat):Rel aE nt φ S env (h8 J b) n a w:=
 R.sub λk x c=>by rw[fP]at c;split at c<;>simp_all
theorem Rel.zj(R:Rel aE nt φ S env J n a w){p:dE}(e:∀b,n b=true->p b=φ b):Rel aE nt p S env J n a w:=by
 refine⟨⟨λb x c=>?_,λb f x y c o=>?_,R.bQ.st⟩,λk g v af aq=>?_,R.hM,R.gJ,R.dU,R.size,R.defers,R.ext,λb x c h0=>?_,λb j=>(e b (R.fS b j)).trans (R.fix b j),R.fS⟩
 . exact c1.mono (gx.refl w S) e (R.dU b x c).1 (R.dU b x c).2 (λ_=>rfl) (R.bQ.blk b x c)
 . rw[e b (R.dU b x c).1,e f (R.dU f y o).1];exact R.bQ.inj b f x y c o
 . obtain⟨x,c,ag⟩:=R.gK k g v af aq;exact⟨x,c,cl.mono (gx.refl w S) e (R.gJ k g v af aq) ag⟩
 . rw[e b (R.dU b x c).1]at h0⊢;exact R.own b x c h0
theorem Rel.put (R:Rel aE nt φ S env J n a w){b:Nat}{x:bP}(A:n b=true)(D:x.aD n=true)(v:c1 φ w S b x)
 (p:(φ b).2≠0->(∀k y,aX J k=some y->k≠b->(φ k).2≠0->(φ k).1≠(φ b).1)/\(aE.B (φ b).1\/aE.jC.heap.size<=(φ b).1)):Rel aE nt φ S env (df J b x) n a w:=by
 refine⟨⟨λk y c=>?_,λk q y t c f j h0 o=>?_,R.bQ.st⟩,R.gK,R.hM,R.gJ,λk y c=>?_,R.size,R.defers,R.ext,λk y c h0=>?_,R.fix,R.fS⟩
 . rw[c2]at c;split at c
   . rename_i e;cases c;subst e;exact v
   . exact R.bQ.blk k y c
 . rw[c2]at c f;split at c
   . rename_i e;subst e;rw[al j]at f;exactλe=>(p h0).1 q t f (dX j) o e.symm
   . split at f
     . rename_i e;subst e;exact(p o).1 k y c j h0
     . exact R.bQ.inj k q y t c f j h0 o
 . rw[c2]at c;split at c
   . rename_i e;cases c;subst e;exact⟨A,D⟩
   . exact R.dU k y c
 . rw[c2]at c;split at c
   . rename_i e;subst e;exact(p h0).2
   . exact R.own k y c h0
def fW(φ:dE)(n:Nat)(q:Nat×Nat):dE:=λb=>if b=n then q else φ b
theorem Jd{b:Nat}(a:n key=false)(h:n b=true):fW φ key q b=φ b:=by simp only[fW];rw[al];intro e;subst e;rw[a]at h;cases h
theorem dG{k:Nat}:fW φ k q k=q:=by simp[fW]
theorem Rel.jU (R:Rel aE nt φ S env J n a w)(e:n key=false){x:bP}(q:Nat×Nat)(o:x.aD n=true)(j:c1 (fW φ key q) w S key x)
 (c:q.2≠0->(∀k y,aX J k=some y->(φ k).2≠0->(φ k).1≠q.1)/\(aE.B q.1\/aE.jC.heap.size<=q.1)):Rel aE nt (fW φ key q) S env (df J key x) (ins n key) a w:=by
 refine((R.zj (λb h=>Jd e h)).more (λ_ h=>kM h)).put abe (bP.hp (λ_ h=>kM h) o) j ?_;rw[dG];intro h0;refine⟨λk y f p h=>?_,(c h0).2⟩;rw[Jd e (R.dU k y f).1]at h⊢;exact(c h0).1 k y f h
theorem CN{o:Obj}{b:Nat}(h:b<w.heap.size):(w.alloc o).heap[b]?=w.heap[b]?:=by
 show(w.heap.push o)[b]?=_;grind
theorem p4{o:Obj}:(w.alloc o).heap[w.heap.size]?=some o:=by
 show(w.heap.push o)[w.heap.size]?=_;grind
theorem Rel.alloc(R:Rel aE nt φ S env J n a w)(o:Obj):Rel aE nt φ S env J n a (w.alloc o):=
 R.world (λ_=>False) rfl rfl rfl (by simp) (λb c _=>CN c) (λ_ h=>h.elim)
theorem Rel.x5(R:Rel aE nt φ S env J n a w)(o:Obj):gx w S (w.alloc o) S:=
 ⟨λ_ _ h=>h,λb j h=>q5 (CN (R.bQ.st b j h)) j⟩
theorem Rel.Ss(R:Rel aE nt φ S env J n a w)(f:n key=false)(o:ba (bn φ w S) cs vs)(e:cs.all (C.aD n)=true)(E:TypeId):
 Rel aE nt (fW φ key (w.heap.size,1)) S env (df J key (.box cs)) (ins n key) a (w.alloc (.cells vs.toArray E)):=by
 have m:=R.x5 (.cells vs.toArray E);refine(R.alloc _).jU f (w.heap.size,1) e ?_ ?_
 . simp only[c1,dG];refine⟨by simp,vs,E,p4,o.imp λc v p ag=>bn.mono m (λb h=>Jd f h) (by simp only[dH]at e;exact e c p) ag,λj h=>?_⟩;have:=R.bQ.st _ _ h;simp at this
 . intro _;refine⟨λk y q h0=>?_,.inr R.ext.size⟩;have:=(R.bQ.blk k y q).kj h0;simp;omega
theorem wo(h:kY P ty=some cs):∃i z,P.info? ty=some i/\i.zero=some z/\ba (bn φ w S) cs z.cells.toList/\cs.all (C.aD n)=true:=by
 simp only[kY,br]at h;obtain⟨i,b,z,c,a⟩:=h;have:=HA (φ:=φ) (w:=w) (S:=S) (n:=n) a;grind
theorem Jw(R:Rel aE nt φ S env J n a w)(j:o.op= .alloc ty)(b:kY P ty=some cs)
 {p v J'}(g:n key=false)(h:aR (.alloc cs) env J key=some (p,v,J'))(k:p):Good P aE nt env J' (ins n key) a v ((execOp a.eval o).run P w):=by
 simp only[aR,dp,dv]at h;obtain⟨rfl,rfl,rfl⟩:=h;obtain⟨i,z,f,b,d,e⟩:=wo (φ:=φ) (w:=w) (S:=S) (n:=n) b;have R':=R.Ss g d e ty;refine⟨.pointer (some ⟨w.heap.size,0,none⟩),_,S,_,.inl ?_,.c ?_,by simp[V.aD,C.aD,ins],R'⟩
 . simp[execOp,j,Instr.alloc,zeroValue,typeInfo,f,b,newVar,newRow]
 . simp[bn,dG]
theorem aav(R:Rel aE nt φ S env J n a w)(j:o.op= .box ty x){b:aQ}(l:bM x=some b)
 {p v J'}(i:n key=false)(h:aR (.box b) env J key=some (p,v,J'))(k:p):Good P aE nt env J' (ins n key) a v ((execOp a.eval o).run P w):=by
 simp only[aR,br,bo,dv]at h;obtain⟨⟨m,q⟩,g,cs,f,rfl,rfl,rfl⟩:=h;have aq:=cy R l g k;obtain⟨d,e⟩:=nO aq.1 f aq.2;have R':=R.Ss i d e ty;refine⟨.pointer (some ⟨w.heap.size,0,none⟩),_,S,_,.inl ?_,.c ?_,by simp[V.aD,C.aD,ins],R'⟩
 . simp[execOp,j,Instr.box,newVar,newRow]
 . simp[bn,dG]
def iM{α:Type}(vs:List α)(off:Nat)(xs:List α):List α:=vs.take off++xs++vs.drop (off+xs.length)
theorem nR{vs:List α}{xs:List α}(h:off+xs.length<=vs.length)(k:Nat):
 (iM vs off xs)[k]?=if k<off then vs[k]? else if k<off+xs.length then xs[k-off]? else vs[k]?:=by
 unfold iM;by_cases h1:k<off
 . grind
 grind
theorem p9{vs:List α}{xs:List α}(h:off+xs.length<=vs.length):(iM vs off xs).length=vs.length:=by
 grind[iM]
theorem KU{vs:List α}{x:α}{xs:List α}(h:off+(x::xs).length<=vs.length):iM (vs.set off x) (off+1) xs=iM vs off (x::xs):=by
 apply yC;grind[nR]
theorem JS{b:Nat}(h:w.heap[b]?=some (.cells vs.toArray E (0,0)))(off:Nat)(v:Value):
 (w.setCell ⟨b,off,none⟩ v).heap[b]?=some (.cells (vs.set off v).toArray E (0,0))/\∀a,a≠b->(w.setCell ⟨b,off,none⟩ v).heap[a]?=w.heap[a]?:=by
 simp_all[World.setCell,FR,dX]
theorem nM{b:Nat}{E:TypeId}:∀(xs:List Value) (off i:Nat) (vs:List Value) (w:World),w.heap[b]?=some (.cells vs.toArray E (0,0))->off+i+xs.length<=vs.length->(∀x,x∈xs->x.oneCell'=true)->
 ∃w',(storeCells ⟨b,off,none⟩ xs i).run P w= .ok () w'/\w'.os=w.os/\w'.tape=w.tape/\w'.output=w.output/\w'.heap.size=w.heap.size/\
  w'.heap[b]?=some (.cells (iM vs (off+i) xs).toArray E (0,0))/\∀a:Nat,a≠b->w'.heap[a]?=w.heap[a]?
 |[],off,i,vs,w,h,af,d=>⟨w,rfl,rfl,rfl,rfl,rfl,by simp[iM,h],λ_ _=>rfl⟩
 |x::xs,off,i,vs,w,h,af,d=>by
  have l:Addr.add ⟨b,off,none⟩ i=⟨b,off+i,none⟩:=by grind[Addr.add]
  have aC:off+i<vs.length:=by grind
  have m:w.cell? ⟨b,off+i,none⟩=some vs[off+i]:=by rw[js h];simp
  have n:w.frozen? ⟨b,off+i,none⟩=false:=by grind[World.frozen?]
  have hs:=JS h (off+i) x;obtain⟨w',h1,e,f,g,bc,k,j⟩:=nM xs off (i+1) _ _ hs.1 (by grind) (λy o=>d y (by grind));refine⟨w',?_,e,f,g,by simp_all,?_,λa c=>(j a c).trans (hs.2 a c)⟩
  . simp_all[storeCells,run_store]
  grind[KU]
theorem ba.fill{c:Type}{R:α->c->Prop}{cs a:List α}{vs xs:List c}(h:ba R cs vs)(k:ba R a xs)(o:Nat):ba R (cs.take o++a++cs.drop (o+a.length)) (iM vs o xs):=by
 rw[k.length];exact((h.take o).append k).append (h.drop _)
theorem HS(h:ba (bn φ w S) cs xs):∀x,x∈xs->x.oneCell'=true:=by
 induction h with
 |nil=>simp
 |cons h _ ih=>
  intro x a;rcases eK.1 a with rfl|a
  . exact bn.ji h
  grind
theorem cl.undef:cl φ w S (.aY []) undef:= .aY [] [] rfl (by simp)
theorem tD:∀{cs:List C} {ts:List T} {xs:List Value},toTs cs=some ts->ba (bn φ w S) cs xs->ba (cd w S) ts xs
 |[],ts,xs,h,b=>by simp[toTs]at h;subst h;cases b;exact .nil
 |c::cs,ts,xs,h,b=>by
  simp[toTs,br,bo]at h;obtain⟨t,ht,f,e,rfl⟩:=h;cases b with
  |cons h1 d=>
   refine .cons ?_ (tD e d);unfold toT at ht;split at ht<;>simp at ht
   . subst ht;exact h1
   . subst ht;obtain⟨a,rfl⟩:=h1;exact cd.slice [] a 0 0 0 0 (λ_ _=>undef) (by simp) (by simp) (by simp) (by simp) (by simp) (by simp)
theorem y8:∀{cs:List C} {ts:List T},toTs cs=some ts->ts.length=cs.length
 |[],ts,h=>by grind[toTs]
 |c::cs,ts,h=>by
  simp[toTs,br,bo]at h;obtain⟨t,ht,b,a,rfl⟩:=h;simp[y8 a]
theorem H0{n:Nat->Bool}{cs a:List C}(h:cs.all (C.aD n)=true)(k:a.all (C.aD n)=true)(o:Nat):(qE cs o a).all (C.aD n)=true:=by
 grind[qE]
theorem vO{vs:List α}{p:Nat}{x:α}(h:p<vs.length)(q:Nat):(iM vs (p+0) [x])[q]?=if q=p then some x else vs[q]?:=by
 grind[nR]
theorem zD{sz i j a b:Nat}(d:j<sz)(e:b<sz)(h:i*sz+j=a*sz+b):i=a/\j=b:=by
 rcases FZ i a with c|c|c
 . have:=eY sz (show i+1<=a from c);grind
 . grind
 . have:=eY sz (show a+1<=i from c);grind
theorem Rel.rewrite(R:Rel aE nt φ S env J n a w){b:Nat}{x t:bP}(o:aX J b=some x)(h0:(φ b).2≠0)(H:t.aD n=true)
 (G:w'.os=w.os)(ht:w'.tape=w.tape)(F:w'.output=w.output)(hs:w'.heap.size=w.heap.size)(v:∀p:Nat,p≠(φ b).1->w'.heap[p]?=w.heap[p]?)
 (E:gx w S w' S->c1 φ w' S b t):Rel aE nt φ S env (df J b t) n a w':=by
 have A:=R.bQ.blk b x o
 have B:=(R.del b).world _ G ht F (wE hs.symm) (λk _ c=>v k c) (λk c=>by
  subst c;refine⟨A.qb h0,λk y f c=>?_,R.own b x o h0⟩;rw[fP]at f;split at f
  . grind
  . rename_i q
    exactλe=>R.bQ.inj k b y x f o (dX q) c h0 e)
 have m:gx w S w' S:=⟨λ_ _ h=>h,λk j h=>q5 (v k (λe=>A.qb h0 j (e▸h))) j⟩
 have D:=B.put (R.dU b x o).1 H (E m) (λ_=>⟨λk y f q c=>by
  rw[fP]at f;split at f
  . grind
  . exact R.bQ.inj k b y x f o q c h0,R.own b x o h0⟩)
 refine D.congr λk=>?_;grind[c2,fP]
theorem Zn(R:Rel aE nt φ S env J n a w)(bj:o.op= .store ty x y){k:Nat}(bi:eM P ty=some k){aB aC:aQ}(s:bM x=some aB)(ab:bM y=some aC)
 {p v J'}(bh:n key=false)(h:aR (.store k aB aC) env J key=some (p,v,J'))(H:p):Good P aE nt env J' (ins n key) a v ((execOp a.eval o).run P w):=by
 simp only [aR,br,ew] at h;obtain ⟨⟨bq,bt⟩,V,⟨bs,bu⟩,W,cs,L,Y,he⟩:= h;simp only at he L;have Z:∀ (blk off:Nat) (xs:List Value) (w':World),a.eval x = .pointer (some ⟨blk,off,none⟩)->(a.eval y).cells.toList = xs->xs.length = k->(storeCells ⟨blk,off,none⟩ xs 0).run P w = .ok () w'->
  (execOp a.eval o).run P w= .ok .skip w':=by
  intro blk off xs w' h1 aG bf bg;have bc:(a.eval y).cells.size=k:=by grind
  simp_all[execOp,Instr.storeAt,Instr.sureAddr,storeVar,j9]
 split at he
 . rename_i b d;split at he
   . rename_i be g;simp only[ew,dp,dv]at he;obtain⟨am,rfl,rfl,rfl⟩:=he;have h1:=(cy R s V H.1).1.hT;have l:=cy R ab W H.2;obtain⟨f,z⟩:=nO l.1 L l.2;obtain⟨h0,vs,E,aa,aI,Q⟩:=R.bQ.blk _ _ g;have bm:=aI.length;have A:(a.eval y).cells.toList.length=k:=by rw[<-f.length,Y]
     obtain⟨w',ag,k1,k2,k3,k4,k5,k6⟩:=nM (P:=P) _ d 0 vs w aa (by omega) (HS f);refine⟨undef,φ,S,w',.inr ⟨Z _ _ _ w' h1 rfl A ag,rfl⟩,.undef,rfl,Rel.more ?_ λ_ h=>kM h⟩;refine R.rewrite g h0 (by simpa[bP.aD]using H0 ((R.dU _ _ g).2) z d) k1 k2 k3 k4 k6 (λm=>?_);refine⟨h0,_,E,k5,?_,Q⟩;exact(aI.imp λc v av ag=>bn.mono m (λ_ _=>rfl) (dH.1 (R.dU _ _ g).2 c av) ag).fill (f.imp λc v av ag=>bn.mono m (λ_ _=>rfl) (dH.1 z c av) ag) d
   . rename_i E aF g;split at he
     . rename_i c;simp only[dp,dv]at he;obtain⟨rfl,rfl,rfl⟩:=he;have h1:=(cy R s V H.1).1.hT;have l:=cy R ab W H.2;obtain⟨f,z⟩:=nO l.1 L l.2;obtain⟨h0,⟨aN,bd,aa,aZ,bk⟩,Q⟩:=R.bQ.blk _ _ g;have A:(a.eval y).cells.toList.length=k:=by rw[<-f.length,Y]
       have X:k=1:=by rw[<-Y];rfl
       obtain⟨r,K⟩:∃r,(a.eval y).cells.toList=[r]:=by
        match h:(a.eval y).cells.toList with
        |[r]=>exact⟨r,rfl⟩
        |[]=>rw[h]at A;simp at A;omega
        |_::_::_=>rw[h]at A;simp at A;omega
       obtain⟨w',ag,k1,k2,k3,k4,k5,k6⟩:=nM (P:=P) (a.eval y).cells.toList 1 0 [aN,bd] w (b:=(φ b).1) (E:=E) aa (by rw[K];simp) (HS f);rw[K]at f k5;cases f with|cons aw _=>
       have D:c.aD n=true:=(by simpa using z);refine⟨undef,φ,S,w',.inr ⟨Z _ _ _ w' h1 rfl A ag,rfl⟩,.undef,rfl,Rel.more ?_ λ_ h=>kM h⟩;refine R.rewrite g h0 (by simpa[bP.aD]using D) k1 k2 k3 k4 k6 (λm=>?_);exact⟨h0,⟨aN,r,k5,aZ,bn.mono m (λ_ _=>rfl) D aw⟩,Q⟩
     . cases he
   grind
 . rename_i b sz i d;have aA:∀{c:C} {xs:List Value},ba (bn φ w S) [c] xs->∃x,xs=[x]/\bn φ w S c x:=by
    intro c xs h;cases h with|cons h1 aG=>cases aG;grind
   split at he
   . rename_i a9 es g;split at he
     . rename_i c aY;have aw:cs=[c]:=by
        unfold yN at aY;grind
       subst aw;obtain⟨rfl,rfl,rfl⟩:=he;obtain⟨T,U,rfl,F,aL⟩:=H;have h1:=(cy R s V T).1.jd;have l:=cy R ab W U;obtain⟨f,z⟩:=nO l.1 L l.2;have X:k=1:=by rw[<-Y];rfl
       obtain⟨r,K,I⟩:=aA f;have ai:=R.bQ.blk _ _ g;obtain⟨h0,vs,E,xs,aa,af,aU,A,au,ax,am⟩:=HZ ai F;obtain⟨ao,ap,ah,aq,ar⟩:=ai;obtain⟨bb,aO,aj,aX,az,Q⟩:=ar h0;rw[aa]at aj;cases aj;rw[ix]at am;have G:i*sz+d<vs.length:=(by omega);obtain⟨w',ag,k1,k2,k3,k4,k5,k6⟩:=nM (P:=P) [r] (i*sz+d) 0 vs w aa (by simp;omega) (λx s=>by rw[rZ.1 s];exact bn.ji I);refine⟨undef,φ,S,w',.inr ⟨Z _ _ _ w' h1 K (by simp[X]) ag,rfl⟩,.undef,rfl,Rel.more ?_ λ_ h=>kM h⟩;have D:c.aD n=true:=(by simpa using z);refine R.rewrite g h0 (by simpa[bP.aD]using D) k1 k2 k3 k4 k6 (λm=>?_);refine⟨⟨ao,ap,ah,aq,F,by omega⟩,⟨_,E,k5,by rw[p9 (by simp;omega)];exact af,λB j e t he ht O=>?_,r,?_,bn.mono m (λ_ _=>rfl) D I⟩,Q⟩
       . obtain⟨v,q,ag⟩:=az _ _ _ _ he ht;have u:j<sz:=by rw[<-ah _ (fj he)];exact(ds.1 ht).1
         rw[vO G,al (λe=>O (zD u (by omega) e))];exact⟨v,q,cd.mono m ag⟩
       . rw[vO G,ae rfl]
     simp only[br,dp,dv]at he;obtain⟨ts,aM,rfl,rfl,rfl⟩:=he;obtain⟨T,U,rfl,F,aL⟩:=H;have h1:=(cy R s V T).1.jd;have l:=cy R ab W U;obtain⟨f,z⟩:=nO l.1 L l.2;have a6:=tD aM f;have bl:=y8 aM;have ai:=R.bQ.blk _ _ g;obtain⟨h0,vs,E,xs,aa,af,aU,A,au,ax,am⟩:=HZ ai F;obtain⟨ao,ap,ah,aq,ar⟩:=ai;obtain⟨bb,aO,aj,aX,az,Q⟩:=ar h0;rw[aa]at aj;cases aj;rw[ix]at am;have a8:(a.eval y).cells.toList.length=k:=by rw[<-f.length,Y]
     obtain⟨w',ag,k1,k2,k3,k4,k5,k6⟩:=nM (P:=P) _ (i*sz+d) 0 vs w aa (by omega) (HS f);have a0:=ag;refine⟨undef,φ,S,w',.inr ⟨Z _ _ _ w' h1 rfl a8 a0,rfl⟩,.undef,rfl,Rel.more ?_ λ_ h=>kM h⟩;refine R.rewrite g h0 rfl k1 k2 k3 k4 k6 (λm=>?_);refine⟨by simpa using ao,by simpa using ap,?_,aq,λ_=>⟨_,E,k5,by rw[p9 (by omega)];exact af,?_,Q⟩⟩
     . intro e he;rcases BW he with he|rfl
       . exact ah e he
       . simp;omega
     . intro B j e t he ht;rw[uu,nR (by omega)];rw[B6]at he;by_cases N:i=B
       . subst N;rw[ae rfl,ae F]at he;cases he;have aW:=(ds.1 ht).1;simp at aW;have u:j<sz:=(by omega);have M:=(nR (vs:=el es i) (off:=d) (xs:=ts) (by omega) j)
         unfold iM at M;rw[show d+ts.length=d+k by omega]at M;rw[M]at ht;by_cases ad:j<d
         . rw[ae ad]at ht;rw[fz,ax j u];obtain⟨v,q,ag⟩:=au.get ht;exact⟨v,q,cd.mono m ag⟩
         . rw[al ad]at ht;rw[bx];by_cases an:j<d+k
           . rw[fz]at ht;rw[fz,show i*sz+j-(i*sz+d)=j-d by omega];obtain⟨v,q,ag⟩:=a6.get ht;exact⟨v,q,cd.mono m ag⟩
           . rw[bx]at ht;rw[bx,ax j u];obtain⟨v,q,ag⟩:=au.get ht;exact⟨v,q,cd.mono m ag⟩
       . rw[al N]at he;obtain⟨v,q,ag⟩:=az _ _ _ _ he ht;have u:j<sz:=by rw[<-ah _ (fj he)];exact(ds.1 ht).1
         have:B*sz+j<i*sz+d\/i*sz+d+k<=B*sz+j:=by
          rcases Nat.lt_or_gt_of_ne N with h|h
          . right;have:=eY sz (show i+1<=B from h);grind
          . left;have:=eY sz (show B+1<=i from h);grind
         rcases this with h|h
         . rw[ae h];exact⟨v,q,cd.mono m ag⟩
         . rw[bx,bx];exact⟨v,q,cd.mono m ag⟩
   . rename_i a9 es bo bp aF g;obtain⟨⟨a1,a2,a3,a4,a5,ak⟩,⟨vs,E,b1,b2,b3,aS,b4,aP⟩,aD⟩:=R.bQ.blk _ _ g;have aH:aF.aD n=true:=(by simpa[bP.aD]using(R.dU _ _ g).2);have h0:(φ b).2≠0:=(by omega);split at he
     . rename_i c;have X:k=1:=by rw[<-Y];rfl
       split at he
       . rename_i ay;subst ay;obtain⟨rfl,rfl,rfl⟩:=he;obtain⟨T,U,rfl,rfl⟩:=H;have h1:=(cy R s V T).1.jd;have l:=cy R ab W U;obtain⟨f,z⟩:=nO l.1 L l.2;obtain⟨r,K,I⟩:=aA f;have G:i*sz+d<vs.length:=by
          rw[b2];have:=eY sz (show i+1<=(φ b).2 by omega);rw[ix]at this;omega
         obtain⟨w',ag,k1,k2,k3,k4,k5,k6⟩:=nM (P:=P) [r] (i*sz+d) 0 vs w b1 (by simp;omega) (λx s=>by rw[rZ.1 s];exact bn.ji I);refine⟨undef,φ,S,w',.inr ⟨Z _ _ _ w' h1 K (by simp[X]) ag,rfl⟩,.undef,rfl,Rel.more ?_ λ_ h=>kM h⟩;have D:c.aD n=true:=(by simpa using z);refine R.rewrite g h0 (by simpa[bP.aD]using D) k1 k2 k3 k4 k6 (λm=>?_);refine⟨⟨a1,a2,a3,a4,a5,ak⟩,⟨_,E,k5,by rw[p9 (by simp;omega)];exact b2,λB j e t he ht O=>?_,r,?_,bn.mono m (λ_ _=>rfl) D I⟩,aD⟩
         . obtain⟨v,q,ag⟩:=b3 _ _ _ _ he ht O;have u:j<sz:=by rw[<-a3 _ (fj he)];exact(ds.1 ht).1
           rw[vO G,al (λe=>O (zD u ak e))];exact⟨v,q,cd.mono m ag⟩
         . rw[vO G,ae rfl]
       . rename_i ay;simp only[br,dp,dv]at he;obtain⟨t,aT,rfl,rfl,rfl⟩:=he;obtain⟨T,U,rfl,F,aL⟩:=H;have h1:=(cy R s V T).1.jd;have l:=cy R ab W U;obtain⟨f,z⟩:=nO l.1 L l.2;obtain⟨r,K,I⟩:=aA f;have a7:cd w S t r:=by
          have h1:=tD (cs:=[c]) (ts:=[t]) (xs:=[r]) (by simp[toTs,aT]) (.cons I .nil);cases h1 with|cons h _=>grind
         have G:i*sz+d<vs.length:=by
          have:=eY sz (show i+1<=(φ b).2 by omega);rw[ix]at this;omega
         obtain⟨w',ag,k1,k2,k3,k4,k5,k6⟩:=nM (P:=P) [r] (i*sz+d) 0 vs w b1 (by simp;omega) (λx s=>by rw[rZ.1 s];exact bn.ji I);refine⟨undef,φ,S,w',.inr ⟨Z _ _ _ w' h1 K (by simp[X]) ag,rfl⟩,.undef,rfl,Rel.more ?_ λ_ h=>kM h⟩;refine R.rewrite g h0 (by simpa[bP.aD]using aH) k1 k2 k3 k4 k6 (λm=>?_);have aJ:es[i]?=some (el es i):=by unfold el;rw[List.getD,e' F];rfl
         have aV:(el es i).length=sz:=a3 _ (fj aJ);refine⟨⟨by grind,by simpa using a2,λe he=>?_,a4,by simpa using a5,ak⟩,⟨_,E,k5,by rw[p9 (by simp;omega)];exact b2,λB j e a' he ht O=>?_,aS,?_,bn.mono m (λ_ _=>rfl) aH aP⟩,aD⟩
         . rcases BW he with he|rfl
           . exact a3 e he
           . simp;omega
         . rw[vO G];rw[B6]at he;by_cases N:i=B
           . subst N;rw[ae rfl,ae F]at he;cases he;have M:=(nR (vs:=el es i) (off:=d) (xs:=[t]) (by simp;omega) j)
             unfold iM at M;rw[show d+[t].length=d+k by simp[X]]at M;rw[M]at ht;by_cases ad:j=d
             . subst ad;rw[bx,fz,Cb]at ht;cases ht;rw[ae rfl];exact⟨r,rfl,cd.mono m a7⟩
             . have aK:(el es i)[j]?=some a':=by
                by_cases an:j<d
                . rwa [ae an]at ht
                . rwa [al an,bx]at ht
               have u:j<sz:=by rw[<-aV];exact(ds.1 aK).1
               obtain⟨v,q,ag⟩:=b3 _ _ _ _ aJ aK O;rw[al (λe=>ad (zD u (by omega) e).2)];exact⟨v,q,cd.mono m ag⟩
           . rw[al N]at he;obtain⟨v,q,ag⟩:=b3 _ _ _ _ he ht O;have u:j<sz:=by rw[<-a3 _ (fj he)];exact(ds.1 ht).1
             rw[al (λe=>N (zD u (by omega) e).1.symm)];exact⟨v,q,cd.mono m ag⟩
         . rw[vO G,al (λe=>ay (zD ak (by omega) e).2.symm)];exact b4
     . cases he
   . cases he
 . cases he
theorem KV:∀(xs:List Value) (k off:Nat) (cs:Array Value),off+k+xs.length<=cs.size->
 (((xs.zipIdx k).foldl (λcs (c,j)=>cs.setIfInBounds (off+j) c) cs):Array Value).toList=iM cs.toList (off+k) xs
 |[],k,off,cs,h=>by simp[iM]
 |x::xs,k,off,cs,h=>by
  simp at h;rw[List.zipIdx_cons,List.foldl_cons,KV xs (k+1) off _ (by simp;omega)];simp only[Array.toList_setIfInBounds];rw[show off+(k+1)=off+k+1 by omega,KU (by simp;omega)]
theorem Iv{a:Array Value}{i:Nat}{r:List (Nat×Value)}{sz:Nat}(b:place i=some (off,sz))(h1:v.cells.size=sz)(c:off+sz<=a.size):
 Instr.fill place a ((i,v)::r)=Instr.fill place (iM a.toList off v.cells.toList).toArray r:=by
 simp only[Instr.fill,b];rw[al (by simp[h1];omega)]
 congr 1
 apply Array.ext';have:=KV v.cells.toList 0 off a (by simp;omega);rw[<-Array.foldl_toList];simp only[Array.toList_zipIdx];simpa using this
theorem JT {fs:Array Field}{place:Nat->Option (Nat×Nat)}(R:Rel aE nt φ S env J n a w)
 (o:∀(j:Nat) f k,fs[j]?=some f->eM P f.type=some k->place j=some (f.offset,k)):
 ∀{parts:List (Nat×Operand)} {ps:List (Nat×Nat×aQ)} {cs:List C} {vs:List Value} {p:Prop} {b:List C},wv P fs parts=some ps->lr env cs ps=some (p,b)->p->
  ba (bn φ w S) cs vs->cs.all (C.aD n)=true->
  ∃us:List Value,Instr.fill place vs.toArray (parts.map λ(i,x)=>(i,a.eval x))=some us.toArray/\ba (bn φ w S) b us/\b.all (C.aD n)=true
 |[],ps,cs,vs,p,b,d,c,l,e,g=>by
  simp[wv]at d;subst d;simp[lr]at c;obtain⟨_,rfl⟩:=c;exact⟨vs,by simp[Instr.fill],e,g⟩
 |(j,x)::r,ps,cs,vs,p,b,d,c,l,e,g=>by
  simp only[wv,br,bo]at d;obtain⟨f,A,k,B,H,G,L,D,rfl⟩:=d;simp only[lr,br,ew,bo,dv]at c;obtain⟨⟨q,v⟩,aq,es,z,⟨h1,K⟩,⟨M,I⟩,y,rfl,rfl⟩:=c;have m:=cy R G aq l.1;obtain⟨s,E⟩:=nO m.1 z m.2;have af:=e.length;have F:=s.length;obtain⟨us,t,u,bc⟩:=JT R o D y l.2 (vs:=iM vs f.offset (a.eval x).cells.toList) (by unfold qE;exact e.fill s _) (H0 g E _);refine⟨us,?_,u,bc⟩;simp only[fB];rw[Iv (o j f k A B) (by rw[<-rY,<-F,h1]) (by simp;omega)];exact t
theorem TD{place:Nat->Option (Nat×Nat)}{m:Nat}(R:Rel aE nt φ S env J n a w)(l:∀j,place j=some (j*m,m)):
 ∀{parts:List (Nat×Operand)} {ps:List (Nat×Nat×aQ)} {cs:List C} {vs:List Value} {p:Prop} {b:List C},vN m parts=some ps->lr env cs ps=some (p,b)->p->
  ba (bn φ w S) cs vs->cs.all (C.aD n)=true->
  ∃us:List Value,Instr.fill place vs.toArray (parts.map λ(i,x)=>(i,a.eval x))=some us.toArray/\ba (bn φ w S) b us/\b.all (C.aD n)=true
 |[],ps,cs,vs,p,b,d,c,g,e,f=>by
  simp[vN]at d;subst d;simp[lr]at c;obtain⟨_,rfl⟩:=c;exact⟨vs,by simp[Instr.fill],e,f⟩
 |(j,x)::r,ps,cs,vs,p,b,d,c,g,e,f=>by
  simp only[vN,br,bo]at d;obtain⟨E,D,H,z,rfl⟩:=d;simp only[lr,br,ew,bo,dv]at c;obtain⟨⟨q,v⟩,aq,es,y,⟨h1,G⟩,⟨I,F⟩,u,rfl,rfl⟩:=c;have k:=cy R D aq g.1;obtain⟨o,A⟩:=nO k.1 y k.2;have af:=e.length;have B:=o.length;obtain⟨us,s,t,bc⟩:=TD R l z u g.2 (vs:=iM vs (j*m) (a.eval x).cells.toList) (by unfold qE;exact e.fill o _) (H0 f A _);refine⟨us,?_,t,bc⟩;simp only[fB];rw[Iv (l j) (by rw[<-rY,<-B,h1]) (by simp;omega)];exact s
theorem YO{fs:List Field}(h:∀f,f∈fs->∃k,eM P f.type=some k):
 ∃ps:List (Nat×Nat),(fs.mapM λf=>do pure (f.offset,<-sizeOf f.type):Sem (List (Nat×Nat))).run P w= .ok ps w/\ps.length=fs.length/\∀(j:Nat) f k,fs[j]?=some f->eM P f.type=some k->ps[j]?=some (f.offset,k):=by
 induction fs with
 |nil=>exact⟨[],by simp,rfl,by simp⟩
 |cons f fs ih=>
  obtain⟨ps,h1,af,c⟩:=ih λf d=>h f (by simp[d]);obtain⟨k,b⟩:=h f (by simp);refine⟨(f.offset,k)::ps,?_,by simp[af],?_⟩
  . rw[List.mapM_cons];simp only[bind_pure_comp]at h1;simp[j9 b,h1]
  . intro j g e aq a;cases j with
    |zero=>simp at aq;subst aq;rw[b]at a;cases a;rfl
    |succ j=>simpa using c j g e (by simpa using aq) a
theorem Zo(R:Rel aE nt φ S env J n a w){parts:Array (Nat×Operand)}(y:o.op= .build ty parts)(E:P.underlying ty=some (.struct fs))(e:HK P fs=true)
 {z:List C}(F:kY P ty=some z){ps:List (Nat×Nat×aQ)}(D:wv P fs parts.toList=some ps)
 {p v J'}(g:n key=false)(h:aR (.build z ps) env J key=some (p,v,J'))(A:p):Good P aE nt env J' (ins n key) a v ((execOp a.eval o).run P w):=by
 simp only[aR,bo,dv]at h;obtain⟨⟨q,I⟩,s,rfl,rfl,rfl⟩:=h;obtain⟨i,H,u,G,r,t⟩:=wo (φ:=φ) (w:=w) (S:=S) (n:=n) F
 obtain⟨pl,K,L,B⟩:=YO (P:=P) (w:=w) (fs:=fs.toList) (by
  simp only[HK,dH]at e;intro f b;have:=e f b
  exact yK.1 this)
 have c:(fs.mapM λf=>do pure (f.offset,<-sizeOf f.type):Sem (Array (Nat×Nat))).run P w= .ok pl.toArray w:=by
  rw[Array.mapM_eq_mapM_toList];simp_all
 obtain⟨us,h1,l,m⟩:=JT (place:=(pl.toArray[·]?)) R (λj f k b g=>by simpa using B j f k (by simpa using b) g) D s A r t;refine Good.pure R (x:= .agg us.toArray) ?_ (.agg l) (by simpa[V.aD]using m);have d:Instr.fill (λx=>pl.toArray[x]?) H.cells ((parts.map λ(i,x)=>(i,a.eval x)).toList)=some us.toArray:=by simp_all
 simp only[execOp,y,Instr.build,zeroValue,typeInfo,Sem.run_bind,run_program,Result.andThen_ok,u,Sem.run_pure,G,underlying,E,c];simp only[bind_pure_comp]at c;simp[c];simp at d;rw[d];simp
theorem Yp(R:Rel aE nt φ S env J n a w){parts:Array (Nat×Operand)}(s:o.op= .build ty parts){len:Nat}(y:P.underlying ty=some (.array len e)){m:Nat}(r:eM P e=some m)
 {z:List C}(A:kY P ty=some z){ps:List (Nat×Nat×aQ)}(u:vN m parts.toList=some ps)
 {p v J'}(F:n key=false)(h:aR (.build z ps) env J key=some (p,v,J'))(t:p):Good P aE nt env J' (ins n key) a v ((execOp a.eval o).run P w):=by
 simp only[aR,bo,dv]at h;obtain⟨⟨q,E⟩,g,rfl,rfl,rfl⟩:=h;obtain⟨i,D,l,B,f,k⟩:=wo (φ:=φ) (w:=w) (S:=S) (n:=n) A;obtain⟨us,h1,c,d⟩:=TD (place:=λi=>some (i*m,m)) R (λj=>rfl) u g t f k;refine Good.pure R (x:= .agg us.toArray) ?_ (.agg c) (by simpa[V.aD]using d);have b:Instr.fill (λi=>some (i*m,m)) D.cells ((parts.map λ(i,x)=>(i,a.eval x)).toList)=some us.toArray:=by simp_all
 simp at b;simp[execOp,s,Instr.build,zeroValue,typeInfo,l,B,underlying,y,j9 r,b]
def iQ(w:World)(S:dT)(sz:Nat)(es:List (List T))(vs:List Value):Prop:=
 ∀(i j:Nat) e t,es[i]?=some e->e[j]?=some t->∃v,vs[i*sz+j]?=some v/\cd w S t v
theorem HB{sz:Nat}(R:Rel aE nt φ S env J n a w)(h0:0<sz):
 ∀{parts:List (Nat×Operand)} {ps:List (Nat×aQ)} {es:List (List T)} {vs:List Value} {p:Prop} {c:List (List T)},pL parts=some ps->jO env sz es ps=some (p,c)->p->
  (∀e,e∈es->e.length=sz)->vs.length=es.length*sz->iQ w S sz es vs->
  ∃us:List Value,Instr.fill (λi=>some (i*sz,sz)) vs.toArray (parts.map λ(i,x)=>(i,a.eval x))=some us.toArray/\(∀e,e∈c->e.length=sz)/\c.length=es.length/\us.length=vs.length/\iQ w S sz c us/\(∀u,u∈us->u∈us)
 |[],ps,es,vs,p,c,f,d,k,l,af,ag=>by
  simp[pL]at f;subst f;simp[jO]at d;obtain⟨_,rfl⟩:=d;exact⟨vs,by simp[Instr.fill],l,rfl,rfl,ag,λ_ h=>h⟩
 |(b,x)::r,ps,es,vs,p,c,f,d,k,l,af,ag=>by
  simp only[pL,br,bo]at f;obtain⟨M,L,Q,G,rfl⟩:=f;simp only[jO,br,ew,bo,dv]at d;obtain⟨⟨q,v⟩,aq,cs,E,ts,H,⟨h1,m⟩,⟨U,N⟩,D,rfl,rfl⟩:=d;have o:=cy R L aq k.1;obtain⟨I,P⟩:=nO o.1 E o.2;have y:=tD H I;have K:=y.length;have F:b*sz+sz<=vs.length:=by
   have:=eY sz (show b+1<=es.length from m);grind
  obtain ⟨us,z,A,bc,B,C,O⟩:= HB R h0 G D k.2 (es:= es.set b ts) (vs:= iM vs (b*sz) (a.eval x).cells.toList) (by
   grind) (by rw[p9 (by omega)];simpa using af) (by
   intro i j e t he ht;rw[nR (by omega)];rw[B6]at he;by_cases g:b=i
   . subst g;rw[ae rfl,ae m]at he;cases he;have s:=(ds.1 ht).1;rw[bx,fz,show b*sz+j-b*sz=j by omega];exact y.get ht
   . rw[al g]at he;have s:=(ds.1 ht).1;rw[l _ (fj he)]at s;rcases Nat.lt_or_gt_of_ne g with h|h
     . have:=eY sz (show b+1<=i from h);rw[ix]at this;rw[bx,bx];exact ag _ _ _ _ he ht
     . have:=eY sz (show i+1<=b from h);rw[ix]at this;rw[fz]
       exact ag _ _ _ _ he ht)
  refine⟨us,?_,A,by simpa using bc,by rw[B,p9 (by omega)],C,λ_ h=>h⟩;simp only[fB];rw[Iv (place:=λi=>some (i*sz,sz)) rfl (by rw[<-rY,<-K,h1]) (by simpa using F)];exact z
theorem Jx{z:Array Value}{sz len:Nat}(d:z.size=sz)(h0:0<sz)(i j:Nat)(a:i<len)(b:j<sz):
 ((Array.range (len*sz)).map (z[· % z.size]!))[i*sz+j]?=z[j]?:=by
 have aC:i*sz+j<len*sz:=by
  have:=eY sz (show i+1<=len from a);grind
 rw[Array.getElem?_map,Array.getElem?_range,ae aC];simp only[jV,d];have:(i*sz+j)%sz=j:=by rw[Cc,Nat.add_mul_mod_self_right,ow b]
 rw[this];have c:j<z.size:=by omega
 simp[c]
theorem TE{len:Nat}{parts:Array (Nat×Value)}(j:P.underlying ty=some (.slice e)){sz:Nat}(g:eM P e=some sz){i:TypeInfo}{a:Value}(m:P.info? e=some i)(o:i.zero=some a)
 (h0:sz≠0)(p:len*sz<=2^24){b:Array Value}(c:b=(Array.range (len*sz)).map (a.cells[· % a.cells.size]!)){us:List Value}(d:Instr.fill (λi=>some (i*sz,sz)) b parts.toList=some us.toArray):
 (Instr.buildSlice ty len parts).run P w= .ok (.slice (some ⟨w.heap.size,0,none⟩) len len) (w.alloc (.cells us.toArray e)):=by
 have f:¬(len*sz>2^24):=by omega
 have n:∀w,(zeroValue e).run P w= .ok a w:=by intro w;simp[zeroValue,typeInfo,m,o]
 by_cases af:len*sz=0
 . have l:b=#[]:=by rw[c,af];simp
   subst l;have k:(Array.map (λx=>(#[]:Array Value)[x%(#[]:Array Value).size]!) (Array.range (len*sz)))=#[]:=by rw[af];simp
   unfold Instr.buildSlice;simp only[Sem.run_bind,run_underlying j,Result.andThen_ok,j9 g,al f,ae af,Sem.run_pure,k,d];rfl
 . unfold Instr.buildSlice;subst c;simp only[Sem.run_bind,run_underlying j,Result.andThen_ok,j9 g,al f,al af,Sem.run_pure,n,d];rfl
theorem X6(R:Rel aE nt φ S env J n a w){len:Nat}{parts:Array (Nat×Operand)}(L:o.op= .buildSlice ty len parts)(Q:P.underlying ty=some (.slice e)){sz:Nat}(O:eM P e=some sz)
 {z:List C}(Y:kY P e=some z){ps:List (Nat×aQ)}(N:pL parts.toList=some ps)(h0:sz≠0)(r:z.length=sz)(K:len*sz<=2^24)
 {p v J'}(I:n key=false)(h:aR (.bslice sz len z ps) env J key=some (p,v,J'))(M:p):Good P aE nt env J' (ins n key) a v ((execOp a.eval o).run P w):=by
 simp only[aR,br,bo,dv]at h;obtain⟨g,s,⟨q,B⟩,H,rfl,rfl,rfl⟩:=h;obtain⟨i,b,d,ab,l,ad⟩:=wo (φ:=φ) (w:=w) (S:=S) (n:=n) Y;have aa:=tD s l;have Z:b.cells.size=sz:=by rw[<-rY,<-l.length,r]
 have f:0<sz:=by omega
 have ah:g.length=sz:=by rw[y8 s,r]
 obtain ⟨us,h1,E,F,G,bc,_⟩:= HB R f N H M (es:= List.replicate len g) (vs:= ((Array.range (len*sz)).map (b.cells[· % b.cells.size]!)).toList) (by
  grind) (by simp) (by
  intro i j e t he ht;have d:=(ds.1 he).1;simp at d;have:e=g:=by
   have:=fj he;exact List.eq_of_mem_replicate this
  subst this;have ae:=(ds.1 ht).1;obtain⟨x,W,ag⟩:=aa.get ht;refine⟨x,?_,ag⟩;rw[Array.getElem?_toList,Jx Z f i j d (by omega)]
  simpa using W)
 simp at F;have T:us.length=len*sz:=by rw[G];simp
 have u:=R.alloc (.cells us.toArray e);have m:=R.x5 (.cells us.toArray e);have af:len<=eI:=by
  have:len<=len*sz:=FN len f;unfold eI;omega
 have A:=u.jU I (x:= .arr sz B) (w.heap.size,len) rfl (by
  simp only[c1,dG];refine⟨by omega,by omega,E,f,λ_=>⟨us,e,p4,T,λi j e t he ht=>?_,λj h=>?_⟩⟩
  . obtain⟨v,U,ag⟩:=bc i j e t he ht;exact⟨v,U,cd.mono m ag⟩
  . have:=R.bQ.st _ _ h
    omega) (λ_=>⟨λk y X h0=>by
     have:=(R.bQ.blk k y X).kj h0
     simp;omega,.inr R.ext.size⟩)
 refine⟨.slice (some ⟨w.heap.size,0,none⟩) len len,_,S,_,.inl ?_,.c ⟨some ⟨w.heap.size,0,none⟩,by simp[dG],by simp[dG],by simp[dG]⟩,by simp[V.aD,C.aD,ins],A⟩;have D:Instr.fill (λi=>some (i*sz,sz)) ((Array.range (len*sz)).map (b.cells[· % b.cells.size]!)) ((parts.map λ(i,x)=>(i,a.eval x)).toList)=some us.toArray:=by
  rw[Array.toList_map];exact h1
 have ag:=TE (P:=P) (w:=w) Q O d ab h0 K rfl D;simp only[execOp,L,Sem.run_bind,ag,Result.andThen_ok];rfl
theorem LS(a:Nat):∀(r c:Nat),c<=2*a+192->Builtin.growBy a r c<=2*a+192
 |0,c,h=>h
 |r+1,c,h=>by
  unfold Builtin.growBy;split
  . grind
  . exact LS _ r _ (by omega)
theorem Xl{a b:Nat}(h:b<a):Builtin.nextslicecap a b<=2*a+192:=by
 grind[Builtin.nextslicecap,LS]
theorem KW(a:Nat):∀(r c:Nat),c<=a+a/4+512->Builtin.growBy a r c<=a+a/4+512
 |0,c,h=>h
 |r+1,c,h=>by
  unfold Builtin.growBy;split
  . grind
  . exact KW _ r _ (by omega)
theorem XM{a b:Nat}(h:b<a):Builtin.nextslicecap a b<=a+a/4+512:=by
 grind[Builtin.nextslicecap,KW]
theorem lR.not{e bytes:Nat}(h:f<e)(c:lR e bytes):¬(Builtin.nextslicecap e f*bytes>2^48):=by
 have a:=eY bytes (Xl h);have b:=eY bytes (XM h);rcases c with c|c<;>unfold ka at c<;>omega
theorem Zp{p:α->Prop}{l m:List α}(h:∀x,x∈l->p x)(k:∀x,x∈m->p x):∀x,x∈l++m->p x:=by grind
def sk(P:Program)(w:World)(S:dT)(sz:Nat)(v:Value)(a:List (List T))(b:Option Nat):Prop:=
 (Builtin.lenOf v).run P w= .ok a.length w/\∃xs:List Value,(Builtin.firstCells sz a.length v).run P w= .ok xs.toArray w/\xs.length=a.length*sz/\iQ w S sz a xs/\∀x,x∈xs->x.oneCell'=true
theorem KX{sz k len:Nat}(h0:0<sz)(a:k<len*sz):k/sz<len/\k%sz<sz/\(k/sz)*sz+k%sz=k:=
 ⟨Nat.div_lt_of_lt_mul (by grind),yI _ h0,by grind[Nat.div_add_mod]⟩
theorem iQ.one{sz:Nat}{a:List (List T)}(h0:0<sz)(c:∀e,e∈a->e.length=sz)(af:xs.length=a.length*sz)(h:iQ w S sz a xs):∀x,x∈xs->x.oneCell'=true:=by
 intro x f;obtain⟨k,q,t⟩:=e3 f;obtain⟨h1,j,o⟩:=KX h0 (by rw[<-af];omega);have he:=e' h1;have p:=c _ (B7 h1);have ht:(a[k/sz])[k%sz]?=some _:=e' (by omega);obtain⟨v,y,ag⟩:=h _ _ _ _ he ht;grind[cd.ji]
theorem zV{b o m:Nat}(af:xs.length=m)(h:∀j,j<m->w.cell? ⟨b,o+j,none⟩=xs[j]?):(loadCells ⟨b,o,none⟩ m).run P w= .ok xs.toArray w:=by
 grind[run_loadCells_list,Addr.add]
theorem YP{sz:Nat}(h0:0<sz){d:List (List T)}(u:cd w S (.slice d) v)(n:∀e,e∈d->e.length=sz):sk P w S sz v d none:=by
 obtain⟨a,cap,c,b,o,f,rfl,y,A,B,p,x,ag⟩:=cd.km u;refine⟨by rfl,?_⟩;by_cases g:d=[]
 . subst g;refine⟨[],?_,by simp,by intro i j e t he;grind,by simp⟩;cases a with
   |none=>rfl
   |some a=>simp[Builtin.firstCells,loadCells,loadCellsFrom]
 . have s:c=sz:=by
    obtain⟨cZ,z⟩:=BV d g;grind
   subst s;rw[p g];have l:((List.range (d.length*c)).map λk=>f (k/c) (k%c)).length=d.length*c:=(by simp);have m:iQ w S c d ((List.range (d.length*c)).map λk=>f (k/c) (k%c)):=by
    intro i j e t he ht;have q:=(ds.1 he).1;have r:=(ds.1 ht).1;rw[n _ (fj he)]at r;have aC:i*c+j<d.length*c:=by
     have:=eY c (show i+1<=d.length from q);grind
    simp_all[Cc,Nat.add_mul_div_right,Nat.div_eq_of_lt,ow]
   refine⟨_,?_,l,m,iQ.one h0 n l m⟩;refine zV l ?_;grind[KX]
theorem YQ{sz:Nat}(b:bn φ w S .az v):sk P w S sz v [] none:=by
 obtain⟨a,rfl⟩:=b;refine⟨by rfl,[],?_,by simp,by intro i j e t he;grind,by simp⟩;cases a with
 |none=>rfl
 |some a=>simp[Builtin.firstCells,loadCells,loadCellsFrom]
theorem LU{sz b:Nat}{c:List (List T)}(dy:c1 φ w S b (.arr sz c))(o:bn φ w S (.arr b sz 0 c.length) v):sk P w S sz v c (some b):=by
 obtain⟨a,rfl,l,q⟩:=bn.hd o;obtain⟨h1,p,g,k,bc⟩:=dy;refine⟨by rfl,?_⟩;by_cases h0:(φ b).2=0
 . have:c=[]:=jx (by omega);subst this;refine⟨[],?_,by simp,by intro i j e t he;grind,by simp⟩;cases a with
   |none=>rfl
   |some a=>simp[Builtin.firstCells,loadCells,loadCellsFrom]
 . obtain⟨vs,E,aa,af,ag,_⟩:=bc h0;rw[l h0];have r:c.length*sz<=vs.length:=(by simp_all[eY]);have d:(vs.take (c.length*sz)).length=c.length*sz:=(by grind);have f:iQ w S sz c (vs.take (c.length*sz)):=by
    intro i j e t he ht;have m:=(ds.1 he).1;have aC:i*sz+j<c.length*sz:=by
     have:=eY sz (show i+1<=c.length from m);grind
    grind
   refine⟨_,?_,d,f,iQ.one k g d f⟩;rw[Cd];refine zV d ?_;intro j n;rw[hR,js aa,yA,ae n]
theorem sk.world{sz:Nat}{a:List (List T)}{b:Option Nat}(h:sk P w S sz v a b){m:Nat}:∃xs:List Value,xs.length=a.length*sz/\iQ w S sz a xs/\(∀x,x∈xs->x.oneCell'=true):=by
 obtain⟨_,xs,_,h1,c,e⟩:=h;grind
theorem TF(z:Array Value)(m:Nat):(Builtin.zeroCells z m).size=m*z.size:=by simp[Builtin.zeroCells]
theorem TG{st j z:TypeId}{i:TypeInfo}{c:Value}(q:P.underlying st=some (.slice e))(v:P.underlying j=some (.slice z))(g:P.info? e=some i)(D:i.zero=some c)(E:c.cells.size=i.size)
 {base:Option Addr}{sl sc a:Nat}{y:Value}{xs d:List Value}(u:(Builtin.lenOf y).run P w= .ok a w)
 (s:(Builtin.firstCells i.size sl (.slice base sl sc)).run P w.drew= .ok xs.toArray w.drew)(t:(Builtin.firstCells i.size a y).run P w.drew= .ok d.toArray w.drew)
 (o:sc<sl+a)(l:lR (sl+a) i.bytes)(B:sl+a<=eI){tt:TypeId}:
 ∃(b:Nat) (r:List Value),sl+a<=b/\r.length=(b-(sl+a))*i.size/\
  (Builtin.append_ #[st,j] tt #[.slice base sl sc,y]).run P w= .ok (.slice (some ⟨w.heap.size,0,none⟩) (sl+a) b) (w.drew.alloc (.cells (xs++d++r).toArray e)):=by
 have p:∀w,(sizeOf e).run P w= .ok i.size w:=λw=>by simp[sizeOf,typeInfo,g]
 have f:∀w,(typeInfo e).run P w= .ok i w:=λw=>by simp[typeInfo,g]
 have x:∀w,(zeroValue e).run P w= .ok c w:=λw=>by simp_all[zeroValue]
 generalize C:(Question.appendCap (sl+a) sc e).cut (w.tape w.drawn (Question.appendCap (sl+a) sc e))=b;have n:sl+a<=b:=by grind[Question.cut]
 have h1:¬(sl+a<=sc):=by omega
 have A:¬(sl+a>IntKind.i64.max/\(False\/i.bytes=0)):=by grind[IntKind.max,IntKind.bits,eI]
 have k:=by
  exact l.not o
 refine⟨b,(Builtin.zeroCells c.cells (b-(sl+a))).toList,n,by grind[TF],?_⟩;have m:(choose (.appendCap (sl+a) sc e)).run P w= .ok b w.drew:=by simp_all[Question.forced]
 have aM:(xs++d++(Builtin.zeroCells c.cells (b-(sl+a))).toList).toArray=xs.toArray++d.toArray++Builtin.zeroCells c.cells (b-(sl+a)):=by simp
 rw[aM];unfold Builtin.append_;simp only[B2,BZ,B0,Sem.run_bind,run_underlying q,run_underlying v,Result.andThen_ok,p,Sem.run_pure,bZ,b9,u,al h1,f];rw[al (by grind)];simp only[Sem.run_bind,Result.andThen_ok,f];rw[al k];simp only[Sem.run_bind,Result.andThen_ok,f,m,run_askRoom,s,t,x,eV,b5];rfl
theorem zk{st c m:TypeId}{i:TypeInfo}(j:P.underlying st=some (.slice e))(l:P.underlying c=some (.slice m))(f:P.info? e=some i)
 {base:Option Addr}{sl sc a:Nat}{y:Value}{d:List Value}(k:(Builtin.lenOf y).run P w= .ok a w)(p:(Builtin.firstCells i.size a y).run P w= .ok d.toArray w)(o:sl+a<=sc){w':World}
 (hs:∀b,base=some b->(storeCells (b.add (sl*i.size)) d 0).run P w= .ok () w') (n:base=none->w'=w) {tt:TypeId}:
  (Builtin.append_ #[st,c] tt #[.slice base sl sc,y]).run P w= .ok (.slice base (sl+a) sc) w':=by
 have g:∀w,(sizeOf e).run P w= .ok i.size w:=λw=>by simp[sizeOf,typeInfo,f]
 unfold Builtin.append_;simp only[B2,BZ,B0,Sem.run_bind,run_underlying j,run_underlying l,Result.andThen_ok,g,Sem.run_pure,bZ,b9,k];cases base<;>simp_all
theorem iQ.append{sz:Nat}{a:List (List T)}{f r:List Value}(h0:0<sz)(v:∀e,e∈es->e.length=sz)(y:∀e,e∈a->e.length=sz)(B:xs.length=es.length*sz)(D:f.length=a.length*sz)
 (h1:iQ w S sz es xs)(p:iQ w S sz a f):iQ w S sz (es++a) (xs++f++r):=by
 intro i j e t he ht;by_cases o:i<es.length
 . rw[uw o]at he;have c:=(ds.1 ht).1;rw[v _ (fj he)]at c;have:=eY sz (show i+1<=es.length from o);rw[ix]at this;rw[ir,uw (by omega)];exact h1 _ _ _ _ he ht
 . rw[wF (by omega)]at he;have c:=(ds.1 ht).1;rw[y _ (fj he)]at c;have x:=(ds.1 he).1;have A:=eY sz (show es.length<=i by omega);have q:=eY sz (show(i-es.length)+1<=a.length from x);have bc:(i-es.length)*sz=i*sz-es.length*sz:=Nat.sub_mul _ _ _;rw[ix]at q;rw[ir,wF (by omega),uw (by omega),show i*sz+j-xs.length=(i-es.length)*sz+j by omega];exact p _ _ _ _ he ht
theorem Rel.drew(R:Rel aE nt φ S env J n a w):Rel aE nt φ S env J n a w.drew:=
 R.world (λ_=>False) rfl rfl rfl (dV _) (λ_ _ _=>rfl) (λ_ h=>h.elim)
theorem Es(R:Rel aE nt φ S env J n a w){f:aQ}(u:bM y=some f){v:V}(aq:f.get env=some (p,v))(q:p){sz:Nat}(h0:0<sz){d:List (List T)×Option Nat}
 (h:mn J v=some d)(m:∀e,e∈d.1->e.length=sz):sk P w S sz (a.eval y) d.1 d.2:=by
 have c:=(cy R u aq q).1;unfold mn at h;split at h
 . cases h;exact YP h0 c.eb m
 . cases h;exact YQ c.eb
 . split at h
   . rename_i b x B A _ C z g;simp at h;obtain⟨⟨h1,rfl,rfl⟩,rfl⟩:=h;subst h1;by_cases l:z=[]
     . subst l;obtain⟨o,s,_⟩:=bn.hd c.eb;rw[s];refine⟨by rfl,[],?_,by simp,by intro i j e t he;grind,by simp⟩;cases o with
       |none=>rfl
       |some a=>simp[Builtin.firstCells,loadCells,loadCellsFrom]
     . have r:x=sz:=by
        obtain⟨cZ,k⟩:=BV _ l;rw[<-(R.bQ.blk _ _ g).2.2.1 _ k,m _ k]
       subst r;exact LU (R.bQ.blk _ _ g) c.eb
   grind
 grind
theorem aaw{sz b len:Nat}(dy:c1 φ w S b (.arr sz es))(p:bn φ w S (.fJ b sz off len) v)(r:off+len<=es.length):sk P w S sz v ((es.drop off).take len) none:=by
 obtain⟨a,cap,rfl,l,s⟩:=p;obtain⟨h1,q,g,k,bc⟩:=dy;have f:((es.drop off).take len).length=len:=by grind
 refine⟨by simp[Builtin.lenOf,f],?_⟩;rw[f];by_cases h0:len=0
 . subst h0;refine⟨[],?_,by simp,by intro i j e t he;grind,by simp⟩;cases a with
   |none=>rfl
   |some a=>simp[Builtin.firstCells,loadCells,loadCellsFrom]
 . obtain⟨vs,E,aa,af,ag,_⟩:=bc (by omega);rw[l h0];have u:off*sz+len*sz<=vs.length:=by rw[af,<-ix];exact eY _ (by omega)
   have d:((vs.drop (off*sz)).take (len*sz)).length=len*sz:=(by grind);have o:∀e,e∈(es.drop off).take len->e.length=sz:=λe he=>g e (FV (uy he));have c:iQ w S sz ((es.drop off).take len) ((vs.drop (off*sz)).take (len*sz)):=by
    intro i j e t he ht;have m:i<len:=(by grind);have aC:i*sz+j<len*sz:=by
     have:=eY sz (show i+1<=len from m);grind
    grind
   refine⟨_,?_,d,c,iQ.one k o (by grind) c⟩;refine zV d ?_;intro j n;rw[js aa,yA,ae n,List.getElem?_drop]
theorem ZR(R:Rel aE nt φ S env J n a w){x y:Operand}{st M e aS:TypeId}(aH:o.op= .call {callee:= .builtin .append,args:=#[x,y],argTypes:=#[st,M]})
 (ah:P.underlying st=some (.slice e))(aj:P.underlying M=some (.slice aS)){i:TypeInfo}(Z:P.info? e=some i)(a2:i.size≠0)
 {O Q:aQ}(aM:bM x=some O)(d:bM y=some Q){ak al:Prop}{am an:V}(ay:O.get env=some (ak,am))(az:Q.get env=some (al,an)){r}
 {p v J'}(A:oH am an=some r)(f:n key=false)(h:uY J key i.size ak al r=some (p,v,J'))(aI:p):Good P aE nt env J' (ins n key) a v ((execOp a.eval o).run P w):=by
 have ad:∀r w',(Builtin.append_ #[st,M] o.type #[a.eval x,a.eval y]).run P w= .ok r w'->(execOp a.eval o).run P w= .ok (.value r) w':=by
  intro r w' ag;simp[execOp,aH,Go.resolve,invoke,builtin,ag]
 unfold oH at A;split at A
 . rename_i b s1 off len aT a3 D q;split at A
   . rename_i aw;subst aw;cases A;unfold uY at h;dsimp only at h;split at h
     . rename_i a4 es s;obtain⟨rfl,rfl,rfl⟩:=h;obtain⟨aJ,aK,rfl,rfl,rfl,rfl,aZ,aF⟩:=aI;have ax:=cy R aM ay aJ;obtain⟨base,B,av,a0⟩:=bn.hd ax.1.eb;have aA:=cy R d az aK;have u:=R.bQ.blk _ _ s;obtain⟨I,N,K,L,aP,aO⟩:=aaw (P:=P) u aA.1.eb aF;obtain⟨aU,aV,aW,aX,au⟩:=u;have aN:((es.drop D).take q).length=q:=by simp;omega
       rw[aN]at I K L;rw[Nat.sub_zero]at B;have z:len+q<=(φ b).2:=(by omega);have h0:0<i.size:=(by omega);have F:(es.take len++(es.drop D).take q).length=len+q:=(by grind);have ab:∀U,U∈es.take len++(es.drop D).take q->U.length=i.size:=by
        grind
       by_cases g:(φ b).2=0
       . have aC:len=0:=(by omega);have aD:q=0:=(by omega);subst aC aD;have aR:N=[]:=jx (by grind);subst aR;have ag:=zk (tt:=o.type) ah aj Z (base:=base) (sl:=0) (sc:=(φ b).2) I K z (w':=w) (λaq _=>by simp[storeCells]) (λ_=>rfl);rw[<-B]at ag;have R':=(R.del b).jU f (x:= .arr i.size (es.take 0++(es.drop D).take 0)) (0,0) rfl (by simp only[c1,dG];exact⟨by simp,by simp,by simp,h0,by simp⟩) (by simp);refine⟨_,_,S,w,.inl (ad _ _ ag),.c ?_,by simp[V.aD,C.aD,ins],R'⟩;exact⟨base,by simp[dG,g,B],by simp[dG],by simp[dG]⟩
       . obtain⟨vs,E,aa,ai,aL,aG⟩:=au g;have u:=R.bQ.blk _ _ s;have Y:len*i.size+N.length<=vs.length:=by rw[L,ai,<-ix];exact eY _ z
         obtain⟨w',a1,k1,k2,k3,k4,k5,k6⟩:=nM (P:=P) N (len*i.size) 0 vs w aa (by omega) aO;rw[uu]at k5;have X:=av g
         have ag:=zk (tt:=o.type) ah aj Z (base:=base) (sl:=len) (sc:=(φ b).2) I K z (w':=w') (λaq aY=>by
          grind[Addr.add]) (λW=>by rw[X]at W;cases W)
         rw[<-B]at ag
         have ao:=(R.del b).world (w':=w') (λk=>k=(φ b).1) k1 k2 k3 (wE k4.symm) (λk _ f=>k6 k f) (λk f=>by
          subst f;refine⟨u.qb g,λk y d f=>?_,R.own b _ s g⟩;rw[fP]at d;split at d
          . cases d
          . rename_i G
            exactλe=>R.bQ.inj k b y _ d s (dX G) f g e)
         have m:gx w S w' S:=⟨λ_ _ h=>h,λk j h=>q5 (k6 k (λe=>u.qb g j (e▸h))) j⟩
         have ap:=ao.jU f (x:= .arr i.size _) (φ b) rfl (by
          simp only[c1,dG];refine⟨by rw[F];exact z,by rw[F];omega,ab,h0,λ_=>⟨_,E,k5,by rw[p9 Y];exact ai,λl j e t he ht=>?_,aG⟩⟩;have aB:=(ds.1 ht).1;rw[ab _ (fj he)]at aB;rw[nR Y,L];by_cases T:l<len
          . have:=eY i.size (show l+1<=len from T);rw[ix]at this;rw[fz];rw[uw (by simp;omega),yA,ae T]at he;obtain⟨v,H,ag⟩:=aL _ _ _ _ he ht;exact⟨v,H,cd.mono m ag⟩
          . have h1:=eY i.size (show len<=l by omega);have ar:l<len+q:=by rw[<-F];exact(ds.1 he).1
            have:=eY i.size (show l+1<=len+q from ar);rw[ix,ix]at this;rw[bx,fz];have af:(es.take len).length=len:=by simp;omega
            rw[wF (by omega),af]at he;have bc:(l-len)*i.size=l*i.size-len*i.size:=Nat.sub_mul _ _ _;obtain⟨v,H,ag⟩:=aP _ _ _ _ he ht;rw[show l*i.size+j-len*i.size=(l-len)*i.size+j by omega]
            exact⟨v,H,cd.mono m ag⟩) (λ_=>⟨λk y d f=>by
            rw[fP]at d;split at d
            . cases d
            . rename_i G
              exact R.bQ.inj k b y _ d s (dX G) f g,R.own b _ s g⟩)
         refine⟨_,_,S,w',.inl (ad _ _ ag),.c ?_,by simp[V.aD,C.aD,ins],ap⟩;exact⟨base,by simp[dG],by simp[dG,X],by simp[dG];omega⟩
     grind
   grind
 grind
theorem X7(R:Rel aE nt φ S env J n a w){x y:Operand}{st au e a1:TypeId}(aY:o.op= .call {callee:= .builtin .append,args:=#[x,y],argTypes:=#[st,au]})
 (T:P.underlying st=some (.slice e))(U:P.underlying au=some (.slice a1)){i:TypeInfo}(N:P.info? e=some i)(a9:i.size≠0)(aK:(i.zero.map (·.cells.size))=some i.size)
 {aw ax:aQ}(ao:bM x=some aw)(d:bM y=some ax)
 {p v J'}(f:n key=false)(h:aR (.append i.size i.bytes aw ax) env J key=some (p,v,J'))(aD:p):Good P aE nt env J' (ins n key) a v ((execOp a.eval o).run P w):=by
 simp only[aR,br]at h;obtain⟨⟨ba,bf⟩,al,⟨bb,bg⟩,X,he⟩:=h;split at he
 . grind[ZR]
 rename_i a';simp only[br]at he;obtain⟨s,ab,he⟩:=he;simp only[bo]at aK;obtain⟨bh,aM,aL⟩:=aK;have h0:0<i.size:=by omega
 have Q:∀r w',(Builtin.append_ #[st,au] o.type #[a.eval x,a.eval y]).run P w= .ok r w'->(execOp a.eval o).run P w= .ok (.value r) w':=by
  intro r w' ag;simp[execOp,aY,Go.resolve,invoke,builtin,ag]
 have aC:∀b,w.heap.size<=b->∀j,¬S b j:=λb aj j aI=>by have:=R.bQ.st _ _ aI;omega
 split at he
 ·
  obtain⟨rfl,rfl,rfl⟩:=he;obtain⟨Y,O,A,az,an⟩:=aD;obtain⟨base,G⟩:=(cy R ao al Y).1.eb;have dM:=Es (P:=P) R d X O h0 ab A;by_cases F:s.1=[]
  . obtain⟨z,u,B,g,L,ad⟩:=dM;rw[F]at z B g;have aq:u=[]:=jx (by simpa using g);subst aq;have ag:=zk (tt:=o.type) T U N (base:=base) (sl:=0) (sc:=0) z B (by simp) (w':=w) (λav _=>by simp[storeCells]) (λ_=>rfl);rw[<-G]at ag;have R':=R.jU f (x:= .arr i.size s.1) (0,0) rfl (by rw[F];simp only[c1,dG];exact⟨by simp,by simp,by simp,h0,by simp⟩) (by simp);refine⟨_,_,S,w,.inl (Q _ _ ag),.c ?_,by simp[V.aD,C.aD,ins],R'⟩;rw[F];exact⟨base,by simp[dG],by simp[dG],by simp[dG]⟩
  . have q:=R.drew;obtain⟨z,_⟩:=dM;obtain⟨_,u,B,g,L,ad⟩:=Es (P:=P) q d X O h0 ab A;have a7:0<s.1.length:=uz.2 F;have Z:(Builtin.firstCells i.size 0 (.slice base 0 0)).run P w.drew= .ok ([]:List Value).toArray w.drew:=by
     cases base with
     |none=>rfl
     |some a=>simp[Builtin.firstCells,loadCells,loadCellsFrom]
    obtain⟨ar,r,h1,ah,ag⟩:=TG (tt:=o.type) T U N aM aL z Z B (by omega) (by grind) (by grind);rw[<-G]at ag;have M:=q.alloc (.cells ([]++u++r).toArray e);have m:=q.x5 (.cells ([]++u++r).toArray e)
    have ae:=M.jU f (x:= .arr i.size s.1) (w.heap.size,ar) rfl (by
     simp only[c1,dG];refine⟨by omega,an,A,h0,λ_=>⟨_,e,p4,?_,?_,aC _ (dV _)⟩⟩
     . simp only[cm,h6,g,ah,hR,<-ix];congr 1;omega
     . have:=iQ.append (S:=S) (w:=w.drew) (r:=r) (es:=[]) (xs:=[]) h0 (by simp) A (by simp) g (by intro i j e t he;simp at he) L;intro l j H t he ht;obtain⟨v,I,ag⟩:=this l j H t (by simpa using he) ht
       exact⟨v,I,cd.mono m ag⟩) (λ_=>⟨λk y d h0=>by
        have:=(R.bQ.blk k y d).kj h0
        omega,.inr R.ext.size⟩)
    refine⟨_,_,S,_,.inl (Q _ _ ag),.c ?_,by simp[V.aD,C.aD,ins],ae⟩;exact⟨some ⟨w.heap.size,0,none⟩,by simp[dG],by simp[dG],by simp[dG];omega⟩
 . rename_i b bd off len;split at he
   . rename_i be es K;split at he
     . grind
     . obtain⟨rfl,rfl,rfl⟩:=he;obtain⟨Y,O,rfl,rfl,rfl,rfl,A,az,an⟩:=aD;have aU:=cy R ao al Y;have aS:=aU.1.eb;obtain⟨base,G,aT,aW⟩:=bn.hd aS;have dM:=Es (P:=P) R d X O h0 ab A;have ai:=R.bQ.blk _ _ K;have aP:=ai;obtain⟨a2,a3,af,a4,aN⟩:=aP;rw[Nat.sub_zero]at G;rw[hR]at aW;have aG:∀H,H∈es++s.1->H.length=i.size:=Zp af A;by_cases aF:es.length+s.1.length<=(φ b).2
       . obtain⟨z,u,B,g,L,ad⟩:=dM;by_cases D:(φ b).2=0
         . have ak:es=[]:=jx (by omega);have ap:s.1=[]:=jx (by omega);rw[ap]at z B g;have aq:u=[]:=jx (by simpa using g);subst aq;have ag:=zk (tt:=o.type) T U N (base:=base) (sl:=es.length) (sc:=(φ b).2) z B (by simp[ak]) (w':=w) (λav _=>by simp[storeCells]) (λ_=>rfl);rw[<-G]at ag;have R':=(R.del b).jU f (x:= .arr i.size (es++s.1)) (0,0) rfl (by rw[ap,ak];simp only[c1,dG];exact⟨by simp,by simp,by simp,h0,by simp⟩) (by simp);refine⟨_,_,S,w,.inl (Q _ _ ag),.c ?_,by simp[V.aD,C.aD,ins],R'⟩;rw[ap,ak];exact⟨base,by simp[dG,D],by simp[dG],by simp[dG]⟩
         . obtain⟨vs,E,aa,aH,aZ,aX⟩:=aN D;have aA:es.length*i.size+u.length<=vs.length:=by rw[g,aH,<-ix];exact eY _ aF
           obtain⟨w',a8,k1,k2,k3,k4,k5,k6⟩:=nM (P:=P) u (es.length*i.size) 0 vs w aa (by omega) ad;rw[uu]at k5;have W:=aT D;rw[Cd]at W
           have ag:=zk (tt:=o.type) T U N (base:=base) (sl:=es.length) (sc:=(φ b).2) z B aF (w':=w') (λav ay=>by
            rw[W]at ay;cases ay;have a6:Addr.add ⟨(φ b).1,0,none⟩ (es.length*i.size)=⟨(φ b).1,es.length*i.size,none⟩:=by unfold Addr.add;split<;>simp_all
            grind) (λaj=>by rw[W]at aj;cases aj)
           rw[<-G]at ag
           have q:=(R.del b).world (w':=w') (λk=>k=(φ b).1) k1 k2 k3 (wE k4.symm) (λk _ f=>k6 k f) (λk f=>by
            subst f;refine⟨ai.qb D,λk y d f=>?_,R.own b _ K D⟩;rw[fP]at d;split at d
            . cases d
            . rename_i F
              exactλe=>R.bQ.inj k b y _ d K (dX F) f D e)
           have m:gx w S w' S:=⟨λ_ _ h=>h,λk j h=>q5 (k6 k (λe=>ai.qb D j (e▸h))) j⟩
           have M:=q.jU f (x:= .arr i.size (es++s.1)) (φ b) rfl (by
            simp only[c1,dG];refine⟨by simp;omega,by simp;omega,aG,h0,λ_=>⟨_,E,k5,by rw[p9 aA];exact aH,?_,aX⟩⟩;intro l j H t he ht;rw[nR aA];by_cases aB:l<es.length
            . rw[uw aB]at he;have am:=(ds.1 ht).1;rw[af _ (fj he)]at am;have:=eY i.size (show l+1<=es.length from aB);rw[ix]at this;rw[fz];obtain⟨v,I,ag⟩:=aZ _ _ _ _ he ht;exact⟨v,I,cd.mono m ag⟩
            . rw[wF (by omega)]at he;have am:=(ds.1 ht).1;rw[A _ (fj he)]at am;have aV:=(ds.1 he).1;have a5:=eY i.size (show es.length<=l by omega);have aO:=eY i.size (show(l-es.length)+1<=s.1.length from aV);have bc:(l-es.length)*i.size=l*i.size-es.length*i.size:=Nat.sub_mul _ _ _;rw[ix]at aO;rw[bx,fz,show l*i.size+j-es.length*i.size=(l-es.length)*i.size+j by omega];obtain⟨v,I,ag⟩:=L _ _ _ _ he ht
              exact⟨v,I,cd.mono m ag⟩) (λ_=>⟨λk y d f=>by
              rw[fP]at d;split at d
              . cases d
              . rename_i F
                exact R.bQ.inj k b y _ d K (dX F) f D,R.own b _ K D⟩)
           refine⟨_,_,S,w',.inl (Q _ _ ag),.c ?_,by simp[V.aD,C.aD,ins],M⟩;exact⟨base,by simp[dG],by simp[dG,W],by simp[dG];omega⟩
       . have q:=R.drew;obtain⟨z,_⟩:=dM;obtain⟨_,u,B,g,L,ad⟩:=Es (P:=P) q d X O h0 ab A;obtain⟨_,xs,Z,aJ,a0,_⟩:=LU (P:=P) (q.bQ.blk _ _ K) (cy q ao al Y).1.eb;rw[G]at Z;obtain⟨ar,r,h1,ah,ag⟩:=TG (tt:=o.type) T U N aM aL z Z B (by omega) az an;rw[<-G]at ag;have M:=(q.del b).alloc (.cells (xs++u++r).toArray e);have m:=q.x5 (.cells (xs++u++r).toArray e)
         have ae:=M.jU f (x:= .arr i.size (es++s.1)) (w.heap.size,ar) rfl (by
          simp only[c1,dG];refine⟨by simp;omega,by simp;omega,aG,h0,λ_=>⟨_,e,p4,?_,?_,aC _ (dV _)⟩⟩
          . simp only[cm,aJ,g,ah,<-ix];congr 1;omega
          . have:=iQ.append (S:=S) (w:=w.drew) (r:=r) h0 af A aJ g a0 L;intro l j H t he ht;obtain⟨v,I,ag⟩:=this l j H t he ht
            exact⟨v,I,cd.mono m ag⟩) (λ_=>⟨λk y d h0=>by
             rw[fP]at d;split at d
             . cases d
             . have:=(R.bQ.blk k y d).kj h0
               omega,.inr R.ext.size⟩)
         refine⟨_,_,S,_,.inl (Q _ _ ag),.c ?_,by simp[V.aD,C.aD,ins],ae⟩;exact⟨some ⟨w.heap.size,0,none⟩,by simp[dG],by simp[dG],by simp[dG];omega⟩
   grind
 grind
theorem X8:∀{ts:List T} {vs:List Value},ba R ts vs->∀(i j:Nat) e t,(ts.map λt=>[t])[i]?=some e->e[j]?=some t->∃v,vs[i*1+j]?=some v/\R t v:=by
 intro ts vs h i j e t he ht;rw[qe,bo]at he;obtain⟨t0,h0,rfl⟩:=he;cases j with
 |zero=>
  simp at ht;subst ht;obtain⟨v,a,ag⟩:=h.get h0;grind
 |succ j=>simp at ht
theorem X9(R:Rel aE nt φ S env J n a w)(s:o.op= .alloc ty)(b:kY P ty=some cs)(F:cs.length≠0)(E:cs.length<=2^24)
 {p v J'}(r:n key=false)(h:aR (.allocA cs) env J key=some (p,v,J'))(G:p):Good P aE nt env J' (ins n key) a v ((execOp a.eval o).run P w):=by
 simp only[aR,bo,dv]at h;obtain⟨ts,f,rfl,rfl,rfl⟩:=h;obtain⟨i,z,q,b,d,D⟩:=wo (φ:=φ) (w:=w) (S:=S) (n:=n) b;have B:=tD f d;have H:=y8 f;have g:=R.alloc (.cells z.cells.toList.toArray ty);have m:=R.x5 (.cells z.cells.toList.toArray ty);have I:z.cells.toList.length=cs.length:=d.length.symm
 have l:=g.jU r (x:= .arr 1 (ts.map λt=>[t])) (w.heap.size,cs.length) rfl (by
  simp only[c1,dG,iu];refine⟨by omega,by unfold eI;omega,?_,by omega,λ_=>⟨z.cells.toList,ty,p4,by omega,λi j e t he ht=>?_,λj h=>?_⟩⟩
  . grind
  . obtain⟨v,u,ag⟩:=X8 B i j e t he ht;exact⟨v,u,cd.mono m ag⟩
  . have:=R.bQ.st _ _ h
    omega) (λ_=>⟨λk y A h0=>by
     have:=(R.bQ.blk k y A).kj h0
     simp;omega,.inr R.ext.size⟩)
 refine⟨.pointer (some ⟨w.heap.size,0,none⟩),_,S,_,.inl ?_,.c ?_,by simp[V.aD,C.aD,ins],l⟩
 . simp[execOp,s,Instr.alloc,zeroValue,typeInfo,q,b,newVar,newRow]
 . simp[bn,dG]
theorem ZS(R:Rel aE nt φ S env J n a w){i:Operand}(u:o.op= .indexAddr ty x i){k:Nat}(D:P.underlying ty=some (.array k e))(B:eM P e=some 1)
 {f d:aQ}(E:bM x=some f)(s:bM i=some d)
 {p v J'}(F:n key=false)(h:aR (.idxP k f d) env J key=some (p,v,J'))(y:p):Good P aE nt env J' (ins n key) a v ((execOp a.eval o).run P w):=by
 simp only[aR,br]at h;obtain⟨⟨I,L⟩,r,⟨H,K⟩,q,he⟩:=h;simp only at he;split at he
 . rename_i b kk m;simp only[dp,dv]at he;obtain⟨rfl,rfl,rfl⟩:=he;obtain⟨z,A,t,G⟩:=y;have aq:=cy R E r z;have h1:=aq.1.hT;have g:=(cy R s q A).1.gr;have j:(Addr.add ⟨(φ b).1,0,none⟩ (m.toNat*1):Addr)=⟨(φ b).1,m.toNat*1+0,none⟩:=by
    unfold Addr.add;split
    . grind
    . simp
   refine Good.pure R (x:= .pointer (some ⟨(φ b).1,m.toNat*1+0,none⟩)) ?_ (.c ?_) (by simpa[V.aD,C.aD]using aq.2)
   . have l:0<=m/\m<(k:Int):=⟨t,by omega⟩
     simp only[execOp,u,h1,g,Instr.indexAt,asIntOf,Instr.sureAddr,Sem.run_bind,run_underlying D,Result.andThen_ok,Sem.run_pure,ae l,j9 B,j]
   . simp[bn]
 . cases he
theorem ZT(R:Rel aE nt φ S env J n a w){g:IntKind}{m:Int}(u:o.op= .indexAddr ty x (.const (.int g m))){k:Nat}(z:P.underlying ty=some (.array k e))
 (h0:0<=m/\m.toNat<k){s:Nat}(hs:eM P e=some s){i:aQ}(A:bM x=some i)
 {p v J'}(B:n key=false)(h:aR (.fldA (m.toNat*s) i) env J key=some (p,v,J'))(y:p):Good P aE nt env J' (ins n key) a v ((execOp a.eval o).run P w):=by
 simp only[aR,br]at h;obtain⟨⟨C,D⟩,t,he⟩:=h;simp only at he;have j:a.eval (.const (.int g m))= .int g m:=rfl;have r:0<=m/\m<(k:Int):=⟨h0.1,by omega⟩
 have d:∀(b off:Nat),a.eval x= .pointer (some ⟨b,off,none⟩)->(execOp a.eval o).run P w= .ok (.value (.pointer (some ⟨b,off+m.toNat*s,none⟩))) w:=by
  intro b off e;have l:(Addr.add ⟨b,off,none⟩ (m.toNat*s):Addr)=⟨b,off+m.toNat*s,none⟩:=by
   unfold Addr.add;split
   . rename_i q;rw[q];rfl
   . rfl
  simp only[execOp,u,e,j,Instr.indexAt,asIntOf,Instr.sureAddr,Sem.run_bind,run_underlying z,Result.andThen_ok,Sem.run_pure,ae r,j9 hs,l]
 split at he<;>simp only[dp,dv,reduceCtorEq]at he
 all_goals
  obtain⟨rfl,rfl,rfl⟩:=he;have aq:=cy R A t y;have h1:=aq.1.eb
 . simp only[bn]at h1;exact Good.pure R (d _ _ h1) (.c rfl) aq.2
 . simp only[bn]at h1;exact Good.pure R (d _ _ h1) (.c (by simp[bn,wD])) aq.2
 . obtain⟨blk,off,f,h1,aa⟩:=h1;exact Good.pure R (d _ _ h1) (.c ⟨blk,off,f,by simp[wD],aa⟩) aq.2
theorem ZU(R:Rel aE nt φ S env J n a w){i:Option Operand}(A:o.op= .slice ty x j i none){k:Nat}(I:P.underlying ty=some (.array k e))(G:eM P e=some 1)
 {g:aQ}{f d:Option aQ}(K:bM x=some g)(z:ki j=some f)(y:ki i=some d)
 {p v J'}(U:n key=false)(h:aR (.slcP k g f d) env J key=some (p,v,J'))(B:p):Good P aE nt env J' (ins n key) a v ((execOp a.eval o).run P w):=by
 simp only[aR,br]at h;obtain⟨⟨Y,Z⟩,u,⟨pl,l⟩,t,⟨X,h⟩,s,he⟩:=h;simp only at he;split at he
 . rename_i b;simp only[dp,dv]at he;obtain⟨rfl,rfl,rfl⟩:=he;obtain⟨D,E,F,h0,h1,m⟩:=B;have aq:=cy R K u D;have M:=aq.1.hT;have af:=ra R z t E;have aa:=ra R y s F;have r:=DR (P:=P) (w:=w) (isSlice:=false) (cap:=k) af aa h0 h1 m (dV _);generalize Q:(l.getD 0).toNat=L at*;generalize N:(h.getD (k:Int)).toNat=H at*;have T:L<=H:=(by omega);have O:H<=k:=(by omega);have q:(Addr.add ⟨(φ b).1,0,none⟩ (L*1):Addr)=⟨(φ b).1,L*1,none⟩:=by
    unfold Addr.add;split
    . grind
    . simp
   refine Good.pure R (x:= .slice (some (if k=L then⟨(φ b).1,0,none⟩else(Addr.add ⟨(φ b).1,0,none⟩ (L*1)))) (H-L) (k-L)) ?_ (.c ⟨_,_,rfl,?_,by omega⟩) (by simpa[V.aD,C.aD]using aq.2)
   . simp[execOp,A,Instr.sliceAt,Instr.sureAddr,underlying,I,M,r,j9 G]
   . intro W;rw[bx,q]
 . cases he
theorem ZV{s:ak}(a:bytesOf es=some s):∀{xs:List Value},(∀(i:Nat) t,es[i]?=some [t]->∃v,xs[i]?=some v/\cd w S t v)->xs.length=es.length->
 ∃aK:ar,xs=aK.map (Value.int .u8)/\s=aK.map λm=>UInt8.ofNat m.toNat:=by
 induction es generalizing s with
 |nil=>intro xs _ af;simp[bytesOf]at a;subst a;exact⟨[],by simpa using af,rfl⟩
 |cons e es ih=>
  intro xs ag af;unfold bytesOf at a;split at a
  . rename_i b;cases b
  . rename_i m r b;cases b;simp only[bo]at a;obtain⟨j,g,rfl⟩:=a;cases xs with
    |nil=>simp at af
    |cons x xs=>
     obtain⟨v,c,f⟩:=ag 0 _ rfl;simp at c;subst c;cases f;obtain⟨aK,rfl,rfl⟩:=ih g (xs:=xs) (λi t d=>by simpa using ag (i+1) t (by simpa using d)) (by simpa using af);exact⟨m::aK,rfl,rfl⟩
  . cases a
theorem ZW(aK:ar):∀(s:ByteArray),(aK.foldl (λr m=>r.push (UInt8.ofNat m.toNat)) s).data.toList=s.data.toList++aK.map λm=>UInt8.ofNat m.toNat:=by
 induction aK with
 |nil=>intro s;simp
 |cons m aK ih=>intro s;rw[List.foldl_cons,ih];simp[ByteArray.push]
theorem Jy{s:ak}(a:bytesOf es=some s):∀(i:Nat) e,es[i]?=some e->∃t,e=[t]:=by
 induction es generalizing s with
 |nil=>intro i e h;simp at h
 |cons cZ es ih=>
  unfold bytesOf at a;split at a
  . grind
  . rename_i m r b;cases b;simp only[bo]at a;grind
  . cases a
theorem Et{f d:TypeId}(hs:P.underlying f=some (.slice e))(he:P.underlying e=some (.int .u8))(q:P.underlying d=some .string){str:ak}{a:Option Addr}{len cap b:Nat}
 (af:es.length=len)(c:bytesOf es=some str)(p:len≠0->a=some ⟨b,off,none⟩)(x:∀(i:Nat) t,es[i]?=some [t]->∃v,w.cell? ⟨b,off+i,none⟩=some v/\cd w S t v):
 ∃bs:ByteArray,(convert f d (.slice a len cap)).run P w= .ok (.string bs) w/\bs.data.toList=str:=by
 rw[run_convert_bytes_string w f d e a len cap hs he q];by_cases h0:len=0
 . have r:es=[]:=jx (by omega);subst r;simp[bytesOf]at c;subst c;subst h0;cases a with
   |none=>exact⟨.empty,by simp[Conv.bytesToString],rfl⟩
   |some a0=>
    have:=run_bytesToString (P:=P) w a0 0 cap [] (by simp[loadCells,loadCellsFrom]);exact⟨_,this,rfl⟩
 . rw[p h0];have y:∀i,i<len->∃t v,es[i]?=some [t]/\w.cell? ⟨b,off+i,none⟩=some v/\cd w S t v:=by
    intro i s;have h1:=e' (l:=es) (i:=i) (by omega);obtain⟨t,ht⟩:=Jy c i _ h1;grind
   have aq:∀i,i<len->((List.range len).map λi=>(w.cell? ⟨b,off+i,none⟩).getD undef)[i]?=w.cell? ⟨b,off+i,none⟩:=(by grind);obtain⟨aK,h1,k⟩:=ZV (w:=w) (S:=S) c (xs:=(List.range len).map λi=>(w.cell? ⟨b,off+i,none⟩).getD undef) (λi t s=>by grind) (by simp[af]);have g:=zV (P:=P) (w:=w) (b:=b) (o:=off) (m:=len) (xs:=(List.range len).map λi=>(w.cell? ⟨b,off+i,none⟩).getD undef) (by simp) (λj u=>(aq j u).symm);rw[h1]at g;have n:=run_bytesToString (P:=P) w ⟨b,off,none⟩ len cap aK g;exact⟨_,n,by rw[ZW,k];rfl⟩
theorem GI:∀{es:List (List T)} {s:ak},bytesOf es=some s->s.length=es.length
 |[],s,h=>by simp[bytesOf]at h;subst h;rfl
 |e::es,s,h=>by
  unfold bytesOf at h;split at h
  . grind
  . rename_i m r a;cases a;simp only[bo]at h;obtain⟨c,b,rfl⟩:=h;simp[GI b]
  . cases h
theorem aax(R:Rel aE nt φ S env J n a w){B u:TypeId}(V:o.op= .convert B u x)(hs:P.underlying B=some (.slice e))(he:P.underlying e=some (.int .u8))(y:P.underlying u=some .string)(ad:bM x=some G)
 {p v J'}(ai:n key=false)(h:aR (.b2s G) env J key=some (p,v,J'))(W:p):Good P aE nt env J' (ins n key) a v ((execOp a.eval o).run P w):=by
 simp only[aR,br,bo,dv]at h;obtain⟨⟨al,am⟩,I,⟨q,str⟩,g,rfl,rfl,rfl⟩:=h;obtain⟨X,z⟩:=W;have aq:=cy R ad I X
 suffices aa:∃d len cap,a.eval x= .slice d len cap/\str.length<=eI/\∃bs:ByteArray,(convert B u (.slice d len cap)).run P w= .ok (.string bs) w/\bs.data.toList=str by
  obtain⟨d,len,cap,h1,r,bs,H,C⟩:=aa;have N:bs.size<=eG:=by rw[<-wy,C];unfold eI at r;unfold eG;omega
  refine Good.pure R (x:= .string bs) ?_ (.c ?_) rfl
  . simp[execOp,V,h1,H]
  . show cd w S _ _;rw[<-C];exact .str bs N
 have A:∀ (b off len:Nat) (es:List (List T)) (d:Option Addr) (cap:Nat),aX J b = some (.arr 1 es)->off+len<=es.length->bytesOf ((es.drop off).take len) = some str->(len≠0->d = some ⟨(φ b).1,off*1,none⟩)->((φ b).2≠0\/len = 0)->a.eval x = .slice d len cap->
  ∃d len cap,a.eval x= .slice d len cap/\str.length<=eI/\∃bs:ByteArray,(convert B u (.slice d len cap)).run P w= .ok (.string bs) w/\bs.data.toList=str:=by
  intro b off len es d cap M K j L h0 F;obtain⟨h1,r,H,C,bc⟩:=R.bQ.blk b _ M;have af:((es.drop off).take len).length=len:=by simp;omega
  refine⟨d,len,cap,F,by rw[GI j,af];omega,?_⟩;refine Et (S:=S) hs he y af j L ?_;intro i t k;rw[yA]at k;split at k
  . rename_i ah;rw[List.getElem?_drop]at k;rcases h0 with h0|h0
    . obtain⟨vs,E,aa,ak,ag,_⟩:=bc h0;obtain⟨v,Z,ab⟩:=ag _ 0 _ t k rfl;refine⟨v,?_,ab⟩;rw[js aa];simpa using Z
    . omega
  . cases k
 dsimp only at g I aq;unfold nu at g;split at g
 . rename_i es;simp only[bo,dv]at g;obtain⟨s,j,rfl,rfl⟩:=g;obtain⟨d,cap,sz,b,off,f,h1,ae,U,aj,l,O,F⟩:=cd.km aq.1.eb;refine⟨d,es.length,cap,h1,by rw[GI j];exact U,?_⟩;by_cases D:es=[]
   . subst D;exact Et (S:=S) (b:=0) (off:=0) hs he y rfl j (by simp) (by simp)
   . have Y:sz=1:=by
      obtain⟨cZ,Q⟩:=BV es D;obtain⟨i,k⟩:=FT.1 Q;obtain⟨t,rfl⟩:=Jy j i _ k;grind
     subst Y;refine Et (S:=S) (b:=b) (off:=off) hs he y rfl j (λ_=>l D) ?_;intro i t k;have aC:=(ds.1 k).1;have r:=O i 0 aC (by omega);exact⟨f i 0,by simpa using r.2,F i 0 _ t k rfl⟩
 . cases g;obtain⟨d,h1⟩:=aq.1.eb;exact⟨d,0,0,h1,by simp,Et (S:=S) (es:=[]) (b:=0) (off:=0) hs he y rfl rfl (by simp) (by simp)⟩
 . rename_i b off len;split at g
   . rename_i es m;simp only[bo,dv]at g;obtain⟨s,j,rfl,rfl⟩:=g;obtain⟨d,h1,l,K⟩:=bn.hd aq.1.eb;by_cases h0:(φ b).2=0
     . exact A b off len es d _ m z j (λh=>by omega) (.inr (by omega)) h1
     . exact A b off len es d _ m z j (λ_=>l h0) (.inl h0) h1
   . cases g
 . rename_i b off len;split at g
   . rename_i es m;simp only[bo,dv]at g;obtain⟨s,j,rfl,rfl⟩:=g;obtain⟨d,cap,h1,l,K⟩:=aq.1.eb;obtain⟨r,_⟩:=R.bQ.blk b _ m;by_cases h0:len=0
     . exact A b off len es d _ m z j l (.inr h0) h1
     . exact A b off len es d _ m z j l (.inl (by omega)) h1
   . cases g
 . cases g
end
end
end Go.Proofs.YtdjagncoefjfeaaGreat.Shv
