/- The library of this proof, part A: an abstract machine for the code of the program, and its soundness. -/
import Derived.LoopN
import Derived.Calls
import Derived.Laws.Sem
import Derived.Laws.World
import Derived.Laws.Cells
import Derived.Below
import Derived.Laws.Strings
import Derived.Laws.StructEq
import Derived.Laws.BytesString

namespace Go.Proofs.YtdjagncoefjfeaaGreat.Shv
set_option linter.all false
abbrev aj:=List UInt8
abbrev aq:=List Int
abbrev a7:=List Nat
section
def ad:=@if_pos
def ak:=@if_neg
def bF:=@Option.some.injEq
def bV:=@Bool.false_eq_true
def bB:=@Prod.mk.injEq
def c5:=@List.getElem?_eq_some_iff
def cd:=@Bool.and_eq_true
def dC:=@Option.ite_none_right_eq_some
def c2:=@List.length_append
def cY:=@List.all_eq_true
def eH:=@List.getElem?_eq_getElem
def dn:=@decide_eq_true_eq
def ee:=@List.drop_eq_nil_of_le
def b6:=@if_false
def bS:=@if_true
def eM:=@List.mem_of_getElem?
def dp:=@Bool.not_true
def eW:=@Nat.mul_le_mul_right
def de:=@decide_false
def eZ:=@List.getElem_of_mem
def dq:=@decide_true
def e6:=@List.flatMap_cons
def eN:=@Bool.not_false
def ef:=@Nat.le_refl
def eO:=@List.mem_map
def jR:=@List.eq_nil_of_length_eq_zero
def dX:=@cond_false
def fR:=@List.nil_append
def fe:=@List.mem_cons
def gR:=@of_decide_eq_true
def fZ:=@Option.map_some
def f':=@List.mem_append
def fE:=@List.drop_zero
def hp:=@List.append_assoc
def gy:=@List.length_map
def eo:=@cond_true
def dJ:=@Ne.symm
def ep:=@congrArg
def gz:=@List.map_cons
def ga:=@Nat.zero_add
def hO:=@Bool.or_eq_true
def lk:=@List.drop_eq_getElem_cons
def jf:=@List.pairwise_cons
def iw:=@List.length_cons
def h8:=@List.length_nil
def gb:=@Nat.add_mul
def ix:=@List.length_set
def kf:=@List.getD_cons_zero
def h9:=@Nat.le_trans
def n':=@List.getElem?_append_left
def ll:=@beq_eq_false_iff_ne
def kP:=@List.contains_nil
def ln:=@List.getElem?_take
def p0:=@List.getElem?_append_right
def jg:=@Bool.or_false
def h':=@Nat.zero_le
def jS:=@decide_eq_true
def oa:=@Option.map_eq_some_iff
def ob:=@List.take_of_length_le
def lT:=@Nat.lt_of_lt_of_le
def lU:=@List.contains_cons
def lV:=@Int.emod_lt_of_pos
def lo:=@Option.getD_some
def ru:=@List.pairwise_iff_getElem
def lW:=@List.length_drop
def iM:=@beq_iff_eq
def p1:=@List.mem_of_mem_take
def p2:=@Bool.or_eq_false_iff
def lX:=@List.append_nil
def lY:=@Option.some.inj
def lZ:=@Int.emod_nonneg
def tO:=@List.mem_or_eq_of_mem_set
def tP:=@List.getElem?_eq_none_iff
def oc:=@List.getElem?_map
def od:=@Int.toNat_natCast
def oe:=@List.pairwise_map
def tQ:=@Option.bind_eq_some_iff
def og:=@Nat.mod_eq_of_lt
def oh:=@List.length_take
def p3:=@Bool.not_eq_true'
def rv:=@Array.length_toList
def ry:=@List.getElem?_drop
def l0:=@Nat.add_zero
def mJ:=@Bool.true_and
def kg:=@and_false
def p4:=@List.map_append
def tR:=@List.length_pos_iff
def mK:=@exists_false
def mL:=@List.all_map
def oi:=@List.all_cons
def yt:=@Array.getElem?_eq_some_iff
def yu:=@Int.tdiv_eq_ediv_of_nonneg
def oj:=@List.sum_cons
def rz:=@List.cons_append
def yv:=@Option.isSome_iff_exists
def rA:=@List.mem_filter
def wq:=@BitVec.ofInt_natCast
def wu:=@Nat.pow_le_pow_right
def BQ:=@List.find?_eq_some_iff_getElem
def p5:=@Nat.add_assoc
def yb:=@List.getElem?_cons_zero
def yc:=@decide_eq_false_iff_not
def Bz:=@Option.ite_none_left_eq_some
def rq:=@Int.toNat_zero
def BA:=@Array.getD_eq_getD_getElem?
def we:=@List.mem_singleton
def pY:=@List.map_nil
def wg:=@BitVec.toNat_ofNat
def yd:=@List.take_append_drop
def tM:=@decide_eq_false
def BB:=@List.exists_mem_of_ne_nil
def BC:=@Array.getElem?_eq_getElem
def BD:=@List.eq_of_mem_replicate
def wh:=@List.any_eq_true
def ye:=@List.getD_cons_succ
def yf:=@Int.toNat_of_nonneg
def BE:=@List.getElem?_cons_succ
def BF:=@Int.eq_ofNat_of_zero_le
def yg:=@List.find?_eq_none
def yh:=@List.ext_getElem?
def BG:=@Array.getElem?_modify
def BH:=@List.getElem?_toArray
def wi:=@List.mem_range
def BI:=@Nat.le_of_ble_eq_true
def wj:=@List.nodup_nil
def tN:=@List.sum_nil
def BJ:=@List.mem_of_mem_drop
def BK:=@List.getElem?_zipIdx
def BL:=@List.mem_append_left
def yi:=@Bool.cond_eq_ite
def E8:=@List.getD_eq_getElem?_getD
def yj:=@List.cons.injEq
def E9:=@List.mem_of_find?_eq_some
def wk:=@Nat.le_of_eq
def wm:=@Nat.mul_comm
def wo:=@exists_const
def pZ:=@and_true
def yk:=@List.drop_drop
def E':=@Nat.le_mul_of_pos_right
def Fa:=@List.filter_cons_of_neg
def Fb:=@List.filter_cons_of_pos
def BM:=@List.getElem?_set
def yl:=@Bool.and_true
def ym:=@List.map_take
def rr:=@true_and
def Fc:=@Array.getElem?_toList
def Fe:=@List.mem_iff_getElem?
def Ff:=@Bool.and_eq_false_iff
def yn:=@Nat.add_comm
def yo:=@Nat.zero_mul
def Fg:=@List.contains_eq_mem
def Q3:=@List.eq_nil_iff_forall_not_mem
def Fh:=@List.mem_cons_of_mem
def yp:=@Nat.beq_refl
def yq:=@Nat.pow_succ
def Fi:=@List.pairwise_append
def Fj:=@List.flatMap_append
def Q4:=@Array.getElem?_setIfInBounds
def Fk:=@List.mem_cons_self
def BN:=@List.map_drop
def Fl:=@Nat.lt_trichotomy
def Fm:=@List.any_eq_false
def Fo:=@List.take_add_one
def Fp:=@Bool.eq_false_iff
def yr:=@Nat.mod_lt
def BO:=@Nat.sub_self
def Fq:=@List.getElem_mem
def Fs:=@List.range'_succ
def Ft:=@List.ext_getElem
def Fu:=@List.mem_flatMap
def Fv:=@List.nodup_range
def BP:=@Bool.true_or
variable{c:Prop}{α a:Type}{R:α->a->Prop}
theorem fu{h:Decidable c}(a:c:=by omega){α:Sort _}{t e:α}:ite c t e=t:=if_pos a
theorem bu{h:Decidable c}(a:c:=by simp;omega){α:Sort _}{t e:α}:ite c t e=t:=if_pos a
theorem hM{h:Decidable c}(a:c:=by simp){α:Sort _}{t e:α}:ite c t e=t:=if_pos a
theorem bq{h:Decidable c}(a:¬c:=by omega){α:Sort _}{t e:α}:ite c t e=e:=if_neg a
theorem cl{h:Decidable c}(a:¬c:=by simp;omega){α:Sort _}{t e:α}:ite c t e=e:=if_neg a
theorem bt{h:Decidable c}(a:¬c:=by simp){α:Sort _}{t e:α}:ite c t e=e:=if_neg a
theorem bb{α:Type _}{b:α}{c:Type _}{x:Option c}{f:c->α}:Option.map f x=some b↔∃a,x=some a/\f a=b:=oa
theorem bp{α:Type _}{b:α}{c:Type _}{x:Option c}{f:c->Option α}:x.bind f=some b↔∃a,x=some a/\f a=some b:=tQ
theorem ao{α:Type _}{b:Type _}(a:α)(f:α->Option b):(some a).bind f=f a:=Option.bind_some ..
theorem aT.{u}{α a:Type u}:(bind:Option α->(α->Option a)->Option a)=Option.bind:=Option.bind_eq_bind
open Go
inductive T where
 |bool (b:Bool)
 |int (k:IntKind)(n:Int)
 |str (s:aj)
 |slice (es:List (List T))
inductive C where
 |t (x:T)
 |ptr (b o:Nat)
 |cF (b sz i o:Nat)
 |dM (ts:List T)(o:Nat)
 |arr (b sz off len:Nat)
 |fw (b sz off len:Nat)
 |mp (b:Nat)
 |eg (b:Nat)
 |cG (b len:Nat)
 |ay
 |e3
 |e2
 |fn (f:Nat)(caps:a7)
 |dead
inductive V where
 |c (x:C)
 |agg (cs:List C)
 |aY (vs:List V)
inductive bO where
 |box (cs:List C)
 |arr (sz:Nat)(es:List (List T))
 |set (ks:List aj)
 |buf (E:TypeId)(s:aj)
 |b8 (E:TypeId)(c:C)
 |cA (sz:Nat)(es:List (List T))(i o:Nat)(c:C)
abbrev dQ:=Nat->Nat->Prop
abbrev dE:=Nat->Nat×Nat
def eC:Nat:=9223372036854775807
def eG:Nat:=281474976710656
inductive cf (w:World)(S:dQ):T->Value->Prop
 |bool (b:Bool):cf w S (.bool b) (.bool b)
 |int (k:IntKind) (n:Int):cf w S (.int k n) (.int k n)
 |str (s:ByteArray) (h:s.size<=eC):cf w S (.str s.data.toList) (.string s)
 |slice (es:List (List T)) (a:Option Addr) (cap sz b o:Nat) (f:Nat->Nat->Value)
  (aho:es.length<=cap) (ahs:es.length<=eG)
  (ahx:∀e,e∈es->e.length=sz)
  (xv:es≠[]->a=some ⟨b,o,none⟩)
  (QS:∀i j,i<es.length->j<sz->S b (o+i*sz+j)/\w.cell? ⟨b,o+i*sz+j,none⟩=some (f i j))
  (QT:∀i j e t,es[i]?=some e->e[j]?=some t->cf w S t (f i j)):
  cf w S (.slice es) (.slice a es.length cap)
structure gq (w:World)(S:dQ)(w':World)(bQ:dQ):Prop where
 sub:∀b j,S b j->bQ b j
 cell:∀b j,S b j->w'.cell? ⟨b,j,none⟩=w.cell? ⟨b,j,none⟩
theorem gq.refl(w:World)(S:dQ):gq w S w S:=⟨λ_ _ h=>h,λ_ _ _=>rfl⟩
theorem gq.trans{w S w' bQ e c}(h:gq w S w' bQ)(k:gq w' bQ e c):gq w S e c:=
 ⟨λb j a=>k.sub b j (h.sub b j a),λb j a=>(k.cell b j (h.sub b j a)).trans (h.cell b j a)⟩
theorem cf.mono{w S w' bQ}(m:gq w S w' bQ){t v}(h:cf w S t v):cf w' bQ t v:=by
 induction h with
 |bool b=>exact .bool b
 |int k n=>exact .int k n
 |str s h=>exact .str s h
 |slice es a cap sz b o f u x y q c z ih=>
  exact .slice es a cap sz b o f u x y q
   (λi j e p=>⟨m.sub _ _ (c i j e p).1,by rw[m.cell _ _ (c i j e p).1];exact(c i j e p).2⟩) ih
theorem cf.jh{w S t v}(h:cf w S t v):v.oneCell'=true:=by cases h<;>rfl
def bm(φ:dE)(w:World)(S:dQ):C->Value->Prop
 |.t x,v=>cf w S x v
 |.ptr b o,v=>v= .pointer (some ⟨(φ b).1,o,none⟩)
 |.cF b sz i o,v=>v= .pointer (some ⟨(φ b).1,i*sz+o,none⟩)
 |.dM ts o,v=>∃ (blk off:Nat) (f:Nat->Value),v = .pointer (some ⟨blk,off+o,none⟩)/\
  ∀j t,ts[j]?=some t->S blk (off+j)/\w.cell? ⟨blk,off+j,none⟩=some (f j)/\cf w S t (f j)
 |.arr b sz off len,v=>∃a,v= .slice a len ((φ b).2-off)/\((φ b).2≠0->a=some ⟨(φ b).1,off*sz,none⟩)/\off+len<=(φ b).2
 |.fw b sz off len,v=>∃a cap,v= .slice a len cap/\(len≠0->a=some ⟨(φ b).1,off*sz,none⟩)/\len<=cap
 |.mp b,v=>v= .map (some (φ b).1)
 |.cG b len,v=>len<=(φ b).2/\((φ b).2=0->v= .slice none 0 0)/\((φ b).2≠0->v= .slice (some ⟨(φ b).1,0,none⟩) len (φ b).2)
 |.eg b,v=>∃p,v= .pointer p/\((φ b).2≠0->p=some ⟨(φ b).1,0,none⟩)
 |.ay,v=>∃a,v= .slice a 0 0
 |.e3,v=>v= .pointer none
 |.e2,v=>v= .nilFunc
 |.fn f caps,v=>v= .func (.func f) #[] (caps.map λb=>Value.pointer (some ⟨(φ b).1,0,none⟩)).toArray
 |.dead,v=>v.oneCell'=true
theorem bm.jh{φ w S c v}(h:bm φ w S c v):v.oneCell'=true:=by
 cases c with
 |t x=>exact cf.jh h
 |dM ts o=>obtain⟨_,_,_,rfl,_⟩:=h;rfl
 |arr b sz off len=>obtain⟨_,rfl,_⟩:=h;rfl
 |fw b sz off len=>obtain⟨_,_,rfl,_⟩:=h;rfl
 |eg b=>obtain⟨_,rfl,_⟩:=h;rfl
 |cG b len=>
  by_cases h0:(φ b).2=0
  . rw[h.2.1 h0];rfl
  . rw[h.2.2 h0];rfl
 |ay=>obtain⟨_,rfl⟩:=h;rfl
 |dead=>exact h
 |_=>cases h;rfl
def C.aA(n:Nat->Bool):C->Bool
 |.ptr b _=>n b
 |.cF b _ _ _=>n b
 |.arr b _ _ _=>n b
 |.fw b _ _ _=>n b
 |.mp b=>n b
 |.eg b=>n b
 |.cG b _=>n b
 |.fn _ caps=>caps.all λb=>n b
 |_=>true
def V.aA(n:Nat->Bool):V->Bool
 |.c x=>x.aA n
 |.agg cs=>cs.all (C.aA n)
 |.aY vs=>V.dF n vs
where V.dF (n:Nat->Bool):List V->Bool
 |[]=>true
 |v::vs=>v.aA n&&V.dF n vs
theorem bm.mono{φ p:dE}{w S w' bQ}(m:gq w S w' bQ){n:Nat->Bool}(e:∀b,n b=true->p b=φ b){c v}(a:c.aA n=true)(h:bm φ w S c v):bm p w' bQ c v:=by
 cases c with
 |t x=>exact cf.mono m h
 |ptr b o=>simp only[C.aA]at a;simp only[bm,e b a]at h⊢;exact h
 |cF b sz i o=>simp only[C.aA]at a;simp only[bm,e b a]at h⊢;exact h
 |dM ts o=>
  obtain⟨blk,off,f,rfl,aa⟩:=h;exact⟨blk,off,f,rfl,λj t ht=>⟨m.sub _ _ (aa j t ht).1,by rw[m.cell _ _ (aa j t ht).1];exact(aa j t ht).2.1,cf.mono m (aa j t ht).2.2⟩⟩
 |arr b sz off len=>simp only[C.aA]at a;simp only[bm,e b a]at h⊢;exact h
 |fw b sz off len=>simp only[C.aA]at a;simp only[bm,e b a]at h⊢;exact h
 |mp b=>simp only[C.aA]at a;simp only[bm,e b a]at h⊢;exact h
 |eg b=>simp only[C.aA]at a;simp only[bm,e b a]at h⊢;exact h
 |cG b len=>simp only[C.aA]at a;simp only[bm,e b a]at h⊢;exact h
 |ay=>exact h
 |e3=>exact h
 |e2=>exact h
 |fn f caps=>
  simp only[bm]at h⊢;rw[h]
  congr 2
  apply List.map_congr_left;intro b q;simp only[C.aA,cY]at a;grind
 |dead=>exact h
inductive a' {α β:Type}(R:α->β->Prop):List α->List β->Prop
 |nil:a' R [] []
 |cons {a b l m}:R a b->a' R l m->a' R (a::l) (b::m)
theorem a'.imp{f:Type}{R R':α->f->Prop}{l m}(h:a' R l m)(k:∀a b,a∈l->R a b->R' a b):a' R' l m:=by
 induction h with
 |nil=>exact .nil
 |cons e _ ih=>exact .cons (k _ _ (by simp) e) (ih λa b c=>k a b (by simp[c]))
theorem a'.length{l:List α}{m:List a}(h:a' R l m):l.length=m.length:=by
 induction h with
 |nil=>rfl
 |cons _ _ ih=>simp[ih]
variable{e:Type}
theorem a'.get{R:α->e->Prop}{l:List α}{m:List e}(h:a' R l m){i:Nat}{a:α}(c:l[i]?=some a):∃b,m[i]?=some b/\R a b:=by
 induction h generalizing i with
 |nil=>simp at c
 |cons f _ ih=>cases i with
  |zero=>simp at c;subst c;exact⟨_,by simp,f⟩
  |succ i=>simp at c;simpa using ih c
theorem a'.lp{c:Type}{R:α->c->Prop}:∀{l:List α} {m:List c},l.length=m.length->(∀(i:Nat) a b,l[i]?=some a->m[i]?=some b->R a b)->a' R l m
 |[],[],_,_=>.nil
 |[],_::_,h,_=>by simp at h
 |_::_,[],h,_=>by simp at h
 |a::l,b::m,h,k=>.cons (k 0 a b (by simp) (by simp)) (a'.lp (by simpa using h) λi x y e f=>k (i+1) x y (by simpa using e) (by simpa using f))
theorem a'.append{R:α->e->Prop}{l a:List α}{m c:List e}(h:a' R l m)(f:a' R a c):a' R (l++a) (m++c):=by
 induction h with
 |nil=>exact f
 |cons j _ ih=>exact .cons j ih
theorem a'.drop{l:List α}{m:List a}(h:a' R l m)(k:Nat):a' R (l.drop k) (m.drop k):=by
 induction h generalizing k with
 |nil=>simp;exact .nil
 |cons c ht ih=>cases k with
  |zero=>exact .cons c ht
  |succ k=>simpa using ih k
theorem a'.take{l:List α}{m:List a}(h:a' R l m)(k:Nat):a' R (l.take k) (m.take k):=by
 induction h generalizing k with
 |nil=>simp;exact .nil
 |cons c _ ih=>cases k with
  |zero=>exact .nil
  |succ k=>exact .cons c (ih k)
inductive cm (φ:dE)(w:World)(S:dQ):V->Value->Prop
 |c {x v}:bm φ w S x v->cm φ w S (.c x) v
 |agg {cs vs}:a' (bm φ w S) cs vs->cm φ w S (.agg cs) (.agg vs.toArray)
 |aY (vs:List V) (xs:List Value) (af:vs.length = xs.length) (h:∀ (i:Nat) v x,vs[i]? = some v->xs[i]? = some x->cm φ w S v x):
  cm φ w S (.aY vs) (.tuple xs.toArray)
theorem nC{n:Nat->Bool}:∀{vs:List V} {i:Nat} {v:V},V.aA.V.dF n vs=true->vs[i]?=some v->v.aA n=true
 |[],_,_,_,h=>by simp at h
 |x::vs,0,v,a,h=>by simp at h;subst h;simp[V.aA.V.dF]at a;exact a.1
 |x::vs,i+1,v,a,h=>by simp[V.aA.V.dF]at a;exact nC a.2 (by simpa using h)
theorem cm.mono{φ o:dE}{w S w' bQ}(m:gq w S w' bQ){n:Nat->Bool}(j:∀b,n b=true->o b=φ b){x v}(e:V.aA n x=true)(h:cm φ w S x v):cm o w' bQ x v:=by
 induction h with
 |c h=>exact .c (bm.mono m j (by simpa[V.aA]using e) h)
 |agg h=>exact .agg (h.imp λa b p q=>bm.mono m j (by simp[V.aA]at e;exact e a p) q)
 |aY vs xs af h ih=>exact .aY vs xs af λi v x f t=>ih i v x f t (nC (by simpa[V.aA]using e) f)
end
section
open Go
inductive aP where
 |tmp (t:Nat)
 |const (v:V)
inductive cJ where
 |mov (x:aP)
 |pick (c x y:aP)
 |alloc (cs:List C)
 |box (x:aP)
 |build (zero:List C)(parts:List (Nat×Nat×aP))
 |bslice (sz:Nat)(len:Nat)(zero:List C)(parts:List (Nat×aP))
 |load (agg:Bool)(n:Nat)(x:aP)
 |store (n:Nat)(x v:aP)
 |nilCheck (x:aP)
 |bin (op:BinOp)(x y:aP)
 |eqAgg (neg:Bool)(ks:a7)(x y:aP)
 |eqBool (neg:Bool)(x y:aP)
 |eqNil (neg:Bool)(x:aP)
 |not (x:aP)
 |conv (k:IntKind)(x:aP)
 |i2s (x:aP)
 |s2s (x:aP)
 |fldA (off:Nat)(x:aP)
 |fld (agg:Bool)(off n:Nat)(x:aP)
 |idxA (sz:Nat)(x i:aP)
 |idxS (x i:aP)
 |slcS (x:aP)(n9 Bv:Option aP)
 |slc (sz:Nat)(x:aP)(n9 Bv:Option aP)
 |slc0 (x:aP)
 |allocA (cs:List C)
 |idxP (n:Nat)(x i:aP)
 |slcP (n:Nat)(x:aP)(n9 Bv:Option aP)
 |b2s (x:aP)
 |allocS (e e8:Nat)
 |bsliceT (e sz len:Nat)(zero:List C)(parts:List (Nat×aP))
 |mkset
 |lkset (x k:aP)
 |upset (x k:aP)
 |appendB (e bytes:Nat)(x y:aP)
 |sdata (x:aP)
 |ustr (e:Nat)(x n:aP)
 |mkfn (f:Nat)(caps:List aP)
 |ext (x:aP)(i:Nat)
 |len (str:Bool)(x:aP)
 |append (sz bytes:Nat)(x y:aP)
 |max2 (x y:aP)
 |min2 (x y:aP)
 |call (f:Nat)(args:List aP)
 |iG (x:aP)(args:List aP)
structure cb where
 dst:Option Nat
 op:cJ
 guard:Option (Nat×Bool)
def BR:Value->Option C
 |.bool b=>some (.t (.bool b))
 |.int k n=>some (.t (.int k n))
 |.string s=>if s.size<=eC then some (.t (.str s.data.toList))else none
 |.slice none 0 0=>some .ay
 |.pointer none=>some .e3
 |.nilFunc=>some .e2
 |.nilIface=>some .dead
 |_=>none
def vK:List Value->Option (List C)
 |[]=>some []
 |v::vs=>(BR v).bind λc=>(vK vs).map (c::·)
def IC:Value->Option V
 |.agg cs=>(vK cs.toList).map .agg
 |v=>(BR v).map .c
def bK:Operand->Option aP
 |.tmp t=>some (.tmp t)
 |.const v=>(IC v).map .const
 |.func f=>some (.const (.c (.fn f [])))
 |.global _=>none
def mM:List Operand->Option (List aP)
 |[]=>some []
 |x::xs=>(bK x).bind λa=>(mM xs).map (a::·)
def kh:Option Operand->Option (Option aP)
 |none=>some none
 |some x=>(bK x).map some
def kU(P:Program)(t:TypeId):Option (List C):=
 (P.info? t).bind λi=>i.zero.bind λz=>vK z.cells.toList
def pD(P:Program)(t:TypeId):Option Bool:=
 match P.underlying t with
 |some (.struct _)|some (.array _ _)=>some true
 |some _=>some false
 |none=>none
def eI(P:Program)(t:TypeId):Option Nat:=(P.info? t).map (·.size)
def tb(P:Program)(t:TypeId):Option (Bool×Nat):=
 (pD P t).bind λg=>(eI P t).bind λn=>if g=false->n=1 then some (g,n)else none
def hF(P:Program)(f:Nat):Bool:=
 match P.funcs[f]? with
 |some fn=>fn.body.isSome && !(fn.name == "runtime.NumGoroutine")
 |none=>false
def xz(P:Program)(t:TypeId):Option Nat:=
 match P.underlying t with
 |some .bool=>some 0
 |some (.int _)=>some 1
 |some .string=>some 2
 |_=>none
def zk(P:Program):Nat->List Field->Option a7
 |_,[]=>some []
 |i,f::fs=>if f.offset = i/\f.name≠ "_" then (xz P f.type).bind λk=>(zk P (i+1) fs).map (k :: ·) else none
def Hz(P:Program)(t:TypeId):Option a7:=
 match P.underlying t with
 |some (.struct fs)=>if P.stoodInHeld t=false/\P.eqGuardType P.depth t=false then zk P 0 fs.toList else none
 |_=>none
def Gx(P:Program)(fs:Array Field):Bool:=fs.toList.all λf=>(eI P f.type).isSome
def u4(P:Program)(fs:Array Field):List (Nat×Operand)->Option (List (Nat×Nat×aP))
 |[]=>some []
 |(j,x)::r=>(fs[j]?).bind λf=>(eI P f.type).bind λn=>(bK x).bind λa=>(u4 P fs r).map ((f.offset,n,a)::·)
def vd(n:Nat):List (Nat×Operand)->Option (List (Nat×Nat×aP))
 |[]=>some []
 |(j,x)::r=>(bK x).bind λa=>(vd n r).map ((j*n,n,a)::·)
def pz:List (Nat×Operand)->Option (List (Nat×aP))
 |[]=>some []
 |(j,x)::r=>(bK x).bind λa=>(pz r).map ((j,a)::·)
def mw(P:Program)(c:Call):Option cJ:=
 match c.callee with
 |.builtin .len=>match c.args.toList,c.argTypes.toList with
  |[x],[t]=>match P.underlying t with
   |some .string=>(bK x).map (.len true)
   |some (.slice _)=>(bK x).map (.len false)
   |_=>none
  |_,_=>none
 |.builtin .append=>match c.args.toList,c.argTypes.toList with
  |[x,y],[t,u]=>match P.underlying t,P.underlying u with
   |some (.slice e),some .string=>(P.info? e).bind λi=>(bK x).bind λa=>(bK y).bind λb=>
    if i.size=1/\(i.zero.map (·.cells.size))=some 1/\(match P.underlying e with|some (.int .u8)=>true|_=>false)=true then some (.appendB e i.bytes a b)else none
   |some (.slice e),some (.slice _)=>(P.info? e).bind λi=>(bK x).bind λa=>(bK y).bind λb=>
    if i.size≠0/\(i.zero.map (·.cells.size))=some i.size then some (.append i.size i.bytes a b)else none
   |_,_=>none
  |_,_=>none
 |.builtin .max=>match c.args.toList with
  |[x,y]=>(bK x).bind λa=>(bK y).map λb=>.max2 a b
  |_=>none
 |.builtin .min=>match c.args.toList with
  |[x,y]=>(bK x).bind λa=>(bK y).map λb=>.min2 a b
  |_=>none
 |.builtin .unsafeSliceData=>match c.args.toList,c.argTypes.toList with
  |[x],[t]=>match P.underlying t with
   |some (.slice e)=>if eI P e=some 1 then(bK x).map .sdata else none
   |_=>none
  |_,_=>none
 |.builtin .unsafeString=>match c.args.toList,c.argTypes.toList with
  |[x,n],[t,_]=>match P.underlying t with
   |some (.pointer e)=>if(match P.underlying e with|some (.int .u8)=>true|_=>false)=true/\eI P e=some 1/\P.cellsOf e=1 then(bK x).bind λa=>(bK n).map λb=>.ustr e a b else none
   |_=>none
  |_,_=>none
 |.value (.func f)=>if hF P f then(mM c.args.toList).map (.call f)else none
 |.value (.tmp t)=>(mM c.args.toList).map (.iG (.tmp t))
 |_=>none
def JM(P:Program)(t:TypeId):Bool:=
 match P.info? t with
 |some i=>(match i.desc with|.named n _=>n == "strings.Builder" |_=>false)
 |none=>false
def SP:List Value->Bool
 |[.pointer none,.slice none 0 0]=>true
 |_=>false
def IE(P:Program)(t:TypeId):Bool:=
 match (P.info? t).bind (·.zero)with
 |some z=>SP z.cells.toList
 |none=>false
def zc(P:Program)(t:TypeId):Option Nat:=
 if JM P t=true/\IE P t=true then match P.underlying t with
  |some (.struct fs)=>(fs[1]?).bind λf=>match P.underlying f.type with
   |some (.slice e)=>some e
   |_=>none
  |_=>none
 else none
def tI(P:Program)(t:TypeId):Bool:=
 match P.underlying t with
 |some (.map k v)=>(match P.underlying k,P.underlying v with|some .string,some .bool=>true|_,_=>false)&&(match (P.info? v).bind (·.zero)with|some (.bool false)=>true|_=>false)
 |_=>false
def Gy:Operand->Bool
 |.const (.bool true)=>true
 |_=>false
def HA:Operand->Bool
 |.const (.slice none 0 0)=>true
 |_=>false
def c6(P:Program)(o:Op):Option cJ:=
 match o with
 |.move x|.assign x=>(bK x).map .mov
 |.pick c a b=>(bK c).bind λc=>(bK a).bind λa=>(bK b).map λb=>.pick c a b
 |.alloc e=>match zc P e with
  |some e8=>some (.allocS e e8)
  |none=>(kU P e).bind λcs=>match P.underlying e with
   |some (.array n t)=>if eI P t=some 1/\n=cs.length/\n≠0/\n<=2^24 then some (.allocA cs)else some (.alloc cs)
   |_=>some (.alloc cs)
 |.box _ x=>(bK x).map .box
 |.build t parts=>match P.underlying t with
  |some (.struct fs)=>if Gx P fs then(kU P t).bind λz=>(u4 P fs parts.toList).map λps=>.build z ps else none
  |some (.array _ e)=>(kU P t).bind λz=>(eI P e).bind λn=>(vd n parts.toList).map λps=>.build z ps
  |_=>none
 |.buildSlice t len parts=>match P.underlying t with
  |some (.slice e)=>(eI P e).bind λn=>(kU P e).bind λz=>(pz parts.toList).bind λps=>
   if n≠0/\z.length=n/\len*n<=2^24 then some (.bslice n len z ps)else none
  |_=>none
 |.load t a=>(tb P t).bind λg=>(bK a).map λx=>.load g.1 g.2 x
 |.store t a v=>(eI P t).bind λn=>(bK a).bind λx=>(bK v).map λy=>.store n x y
 |.nilCheck x=>(bK x).map .nilCheck
 |.binOp op t x y _=>
  if op= .eql\/op= .neq then match P.underlying t with
   |some (.struct _)=>(Hz P t).bind λks=>(bK x).bind λa=>(bK y).map λb=>.eqAgg (op== .neq) ks a b
   |some (.slice _)=>if HA y then(bK x).map (.eqNil (op== .neq))else none
   |some .bool=>(bK x).bind λa=>(bK y).map λb=>.eqBool (op== .neq) a b
   |some (.int _)|some .string=>(bK x).bind λa=>(bK y).map λb=>.bin op a b
   |_=>none
  else(bK x).bind λa=>(bK y).map λb=>.bin op a b
 |.unOp .not _ x=>(bK x).map .not
 |.unOp .neg t x=>match P.underlying t with
  |some (.int k)=>(bK x).map (.bin .sub (.const (.c (.t (.int k 0)))))
  |_=>none
 |.unOp .xor t x=>match P.underlying t with
  |some (.int k)=>(bK x).map (.bin .xor (.const (.c (.t (.int k (if k.signed then -1 else k.max))))))
  |_=>none
 |.convert s d x=>match P.underlying s,P.underlying d with
  |some (.int _),some (.int k)=>(bK x).map (.conv k)
  |some (.int _),some .string=>(bK x).map .i2s
  |some .string,some .string=>(bK x).map .s2s
  |some (.slice e),some .string=>if(match P.underlying e with|some (.int .u8)=>true|_=>false)=true/\eI P e=some 1 then(bK x).map .b2s else none
  |_,_=>none
 |.fieldAddr t x f=>match P.underlying t with
  |some (.struct fs)=>(fs[f]?).bind λj=>(eI P j.type).bind λn=>if n=0 then none else(bK x).map (.fldA j.offset)
  |_=>none
 |.field t x f=>match P.underlying t with
  |some (.struct fs)=>(fs[f]?).bind λj=>(tb P j.type).bind λg=>(bK x).map (.fld g.1 j.offset g.2)
  |_=>none
 |.indexAddr t x i=>match P.underlying t with
  |some (.slice e)=>(eI P e).bind λn=>if n=0 then none else(bK x).bind λa=>(bK i).map λb=>.idxA n a b
  |some (.array n e)=>match i with
   |.const (.int _ m)=>if 0<=m/\m.toNat<n then(eI P e).bind λs=>(bK x).map (.fldA (m.toNat*s))else none
   |i=>if eI P e=some 1 then(bK x).bind λa=>(bK i).map λb=>.idxP n a b else none
  |_=>none
 |.index t x i=>match P.underlying t with
  |some .string=>(bK x).bind λa=>(bK i).map λb=>.idxS a b
  |_=>none
 |.slice t x q p r=>match P.underlying t with
  |some .string=>if r.isNone then(bK x).bind λa=>(kh q).bind λl=>(kh p).map λh=>.slcS a l h else none
  |some (.slice e)=>match r with
   |none=>(eI P e).bind λn=>if n=0 then none else(bK x).bind λa=>(kh q).bind λl=>(kh p).map λh=>.slc n a l h
   |some (.const (.int _ 0))=>match q,p with
    |none,some (.const (.int _ 0))=>if(eI P e).isSome then(bK x).map .slc0 else none
    |_,_=>none
   |_=>none
  |some (.array n e)=>if r.isNone/\eI P e=some 1 then(bK x).bind λa=>(kh q).bind λl=>(kh p).map λh=>.slcP n a l h else none
  |_=>none
 |.makeFunc (.func f) first caps=>if first.isEmpty then(mM caps.toList).map (.mkfn f)else none
 |.extract x i=>(bK x).map λa=>.ext a i
 |.makeMap t none=>if tI P t then some .mkset else none
 |.lookup t x i false=>if tI P t then(bK x).bind λa=>(bK i).map λb=>.lkset a b else none
 |.mapUpdate t m k v=>if tI P t=true/\Gy v=true then(bK m).bind λa=>(bK k).map λb=>.upset a b else none
 |.call c=>mw P c
 |_=>none
def tv(ops:Array Oper):Option (Nat×Bool)->Option (Option (Nat×Bool))
 |none=>some none
 |some (j,b)=>((ops[j]?).bind (·.dst)).map λd=>some (d,b)
def uK(d:Nat):Operand->Bool
 |.tmp t=>t==d
 |_=>false
def zQ(d:Nat):Op->Bool
 |.call c=>match c.callee with
  |.builtin .append=>(c.args.toList.drop 1).any (uK d)
  |.value (.func _)=>c.args.toList.any (uK d)
  |_=>false
 |.build _ ps=>ps.toList.any λp=>uK d p.2
 |.buildSlice _ _ ps=>ps.toList.any λp=>uK d p.2
 |.convert _ _ x=>uK d x
 |.indexAddr _ x _=>uK d x
 |_=>false
def Jz(ops:Array Oper)(o:Oper):Bool:=
 match o.dst with
 |some d=>ops.toList.any λq=>zQ d q.op
 |none=>false
def u5(P:Program)(a:Bool)(o:Op):Option cJ:=
 match o,a with
 |.buildSlice t len parts,true=>match P.underlying t with
  |some (.slice e)=>(eI P e).bind λn=>(kU P e).bind λz=>(pz parts.toList).bind λps=>
   if n≠0/\z.length=n/\len*n<=2^24 then some (.bsliceT e n len z ps)else none
  |_=>none
 |o,_=>c6 P o
def u0(P:Program)(nt:Nat)(ops:Array Oper)(o:Oper):Option cb:=
 (u5 P (Jz ops o) o.op).bind λp=>(tv ops o.guard).bind λg=>
  match o.dst with
  |none=>some ⟨none,p,g⟩
  |some d=>if d<nt then some ⟨some d,p,g⟩else none
def jv(P:Program)(nt:Nat)(ops:Array Oper):List Oper->Option (List cb)
 |[]=>some []
 |o::r=>(u0 P nt ops o).bind λa=>(jv P nt ops r).map (a::·)
inductive dy where
 |skip
 |region (ops:List cb)
 |om (ops:List cb)(fY:List (Nat×Nat))
 |seq (a b:dy)
 |cond (c:aP)(x y:dy)
 |block (id:Nat)(b:dy)
 |loop (b:dy)
 |exit (id:Nat)
 |ret
def cJ.neutral:cJ->Bool
 |.alloc _|.allocA _|.box _|.bslice .. |.store .. |.append .. |.call .. |.iG .. |.eqNil .. =>false
 |.allocS .. |.mkset|.upset .. |.appendB .. |.ustr .. =>false
 |_=>true
def cJ.ie:cJ->Bool
 |.alloc _|.allocA _|.b2s _|.box _|.bslice .. |.store .. |.append .. |.load .. =>true
 |.allocS .. |.mkset|.lkset .. |.upset .. |.appendB .. |.ustr .. |.call .. =>true
 |_=>false
def cJ.drawn:cJ->Bool
 |.eqNil .. =>false
 |_=>true
def aP.tmps:aP->a7
 |.tmp t=>[t]
 |.const _=>[]
def tL:Option aP->a7
 |none=>[]
 |some x=>x.tmps
def cJ.reads:cJ->a7
 |.mov x=>x.tmps
 |.pick c x y=>c.tmps++x.tmps++y.tmps
 |.alloc _|.allocA _=>[]
 |.box x=>x.tmps
 |.build _ ps=>ps.flatMap λp=>p.2.2.tmps
 |.bslice _ _ _ ps=>ps.flatMap λp=>p.2.tmps
 |.load _ _ x=>x.tmps
 |.store _ x v=>x.tmps++v.tmps
 |.nilCheck x=>x.tmps
 |.bin _ x y=>x.tmps++y.tmps
 |.eqAgg _ _ x y=>x.tmps++y.tmps
 |.eqBool _ x y=>x.tmps++y.tmps
 |.eqNil _ x=>x.tmps
 |.not x=>x.tmps
 |.conv _ x=>x.tmps
 |.i2s x=>x.tmps
 |.s2s x=>x.tmps
 |.fldA _ x=>x.tmps
 |.fld _ _ _ x=>x.tmps
 |.idxA _ x i=>x.tmps++i.tmps
 |.idxS x i=>x.tmps++i.tmps
 |.slcS x e a=>x.tmps++tL e++tL a
 |.slc _ x e a=>x.tmps++tL e++tL a
 |.slc0 x=>x.tmps
 |.b2s x=>x.tmps
 |.allocS .. |.mkset=>[]
 |.bsliceT _ _ _ _ ps=>ps.flatMap λp=>p.2.tmps
 |.lkset x k=>x.tmps++k.tmps
 |.upset x k=>x.tmps++k.tmps
 |.appendB _ _ x y=>x.tmps++y.tmps
 |.sdata x=>x.tmps
 |.ustr _ x k=>x.tmps++k.tmps
 |.idxP _ x i=>x.tmps++i.tmps
 |.slcP _ x e a=>x.tmps++tL e++tL a
 |.mkfn _ caps=>caps.flatMap aP.tmps
 |.ext x _=>x.tmps
 |.len _ x=>x.tmps
 |.append _ _ x y=>x.tmps++y.tmps
 |.max2 x y=>x.tmps++y.tmps
 |.min2 x y=>x.tmps++y.tmps
 |.call _ args=>args.flatMap aP.tmps
 |.iG x args=>x.tmps++args.flatMap aP.tmps
def cb.rd(o:cb):a7:=o.op.reads++(match o.guard with|none=>[]|some (t,_)=>[t])
def hd(o:Oper):a7:=(o.after.toList.filter (Region.binds .any)).map (·.on)
def ahead(l:List (cb×a7))(j i:Nat):Bool:=decide (j<i)&&((l[i]?).map λx=>x.2.contains j).getD false
def DN:Nat->List (cb×a7)->Bool
 |_,[]=>true
 |i,x::r=>x.2.all (· < i)&&DN (i+1) r
def Rx(l:List (cb×a7)):Bool:=
 l.zipIdx.all λx=>l.zipIdx.all λy=>
  match y.1.1.dst with
  |none=>true
  |some d=>(!(x.1.1.rd.contains d)||ahead l y.2 x.2||(x.1.1.op.neutral && !x.1.1.op.ie&&ahead l x.2 y.2))&&(x.2==y.2 || !(x.1.1.dst==some d))
def mg:List (cb×a7)->List a7->List a7
 |[],acc=>acc
 |x::r,acc=>mg r (acc++[(x.2++x.2.flatMap λe=>acc.getD e []).eraseDups])
def nJ(a:List a7)(j i:Nat):Bool:=decide (j<i)&&(a.getD i []).contains j
def Ez(a:List a7)(l:List (cb×a7)):List (Nat×Nat):=
 l.zipIdx.flatMap λx=>if x.1.1.op.neutral then[]else l.zipIdx.filterMap λy=>
  if y.1.1.op.ie && !(x.2==y.2) && !(nJ a x.2 y.2) && !(nJ a y.2 x.2)then some (x.2,y.2)else none
def k'(l:List (cb×a7)):List (Nat×Nat):=Ez (mg l []) l
def DU(l:List (cb×a7)):Bool:=(List.range (l.length-1)).all λi=>l.zipIdx.any λy=>decide (i<y.2)&&y.1.2.contains i
def tc(l:List (cb×a7)):Bool:=DN 0 l&&Rx l&&l.all λx=>x.1.op.drawn
def r7(l:List (cb×a7)):List (Nat×Nat):=
 if decide (2<=l.length)&&DU l&&tc l.dropLast then(l.length,0)::(k' l++k' l.dropLast)else k' l
def fh(ops:Array Oper)(aZ:List cb):List (cb×a7):=aZ.zip (ops.toList.map hd)
def resolve(P:Program)(nt:Nat):Code->Option dy
 |.skip=>some .skip
 |.region _ ops d=>(jv P nt ops ops.toList).bind λaZ=>
  if d then(if tc (fh ops aZ)&&P.follows .mixedOrders then some (.om aZ (r7 (fh ops aZ)))else none)else some (.region aZ)
 |.seq a b=>(resolve P nt a).bind λx=>(resolve P nt b).map λy=>.seq x y
 |.cond c a b=>(bK c).bind λo=>(resolve P nt a).bind λx=>(resolve P nt b).map λy=>.cond o x y
 |.block id b=>(resolve P nt b).map (.block id)
 |.loop b=>(resolve P nt b).map .loop
 |.exit id=>some (.exit id)
 |.ret=>some .ret
 |_=>none
abbrev Env:=List (Nat×Bool×V)
abbrev a8:=List (Nat×bO)
def look:Env->Nat->Option (Bool×V)
 |[],_=>none
 |(k,x)::r,i=>if k=i then some x else look r i
def aW:a8->Nat->Option bO
 |[],_=>none
 |(k,x)::r,i=>if k=i then some x else aW r i
def da:a8->Nat->bO->a8
 |[],b,x=>[(b,x)]
 |(k,y)::r,b,x=>if k=b then(k,x)::r else(k,y)::da r b x
def ib:a8->Nat->a8
 |[],_=>[]
 |(k,y)::r,b=>if k=b then ib r b else(k,y)::ib r b
theorem cV(J:a8)(b:Nat)(x:bO)(i:Nat):aW (da J b x) i=if b=i then some x else aW J i:=by
 induction J with
 |nil=>simp[da,aW]
 |cons y r ih=>
  obtain⟨k,y⟩:=y;by_cases a:k=b
  . subst a;simp only[da,bS,aW];split<;>rfl
  . simp only[da,ak a,aW,ih];grind
theorem fN(J:a8)(b:Nat)(i:Nat):aW (ib J b) i=if b=i then none else aW J i:=by
 induction J with
 |nil=>simp[ib,aW]
 |cons y r ih=>
  obtain⟨k,y⟩:=y;by_cases a:k=b
  . subst a;simp only[ib,bS,aW,ih];by_cases c:k=i<;>simp[c]
  . simp only[ib,ak a,aW,ih];grind
def aP.get(env:Env):aP->Option (Prop×V)
 |.const v=>some (True,v)
 |.tmp t=>(look env t).map λx=>(x.1=true,x.2)
def ho(env:Env):List aP->Option (Prop×List V)
 |[]=>some (True,[])
 |x::xs=>(x.get env).bind λa=>(ho env xs).map λb=>(a.1/\b.1,a.2::b.2)
def jO(env:Env):Option aP->Option (Prop×Option Int)
 |none=>some (True,none)
 |some x=>(x.get env).bind λa=>match a.2 with
  |.c (.t (.int _ n))=>some (a.1,some n)
  |_=>none
def pE:V->Option (List C)
 |.c x=>some [x]
 |.agg cs=>some cs
 |.aY _=>none
def toT:C->Option T
 |.t x=>some x
 |.ay=>some (.slice [])
 |_=>none
def toTs:List C->Option (List T)
 |[]=>some []
 |c::cs=>(toT c).bind λt=>(toTs cs).map (t::·)
def el(es:List (List T))(i:Nat):List T:=es.getD i []
def oN(a:List C)(off:Nat)(cs:List C):List C:=a.take off++cs++a.drop (off+cs.length)
def la(env:Env):List C->List (Nat×Nat×aP)->Option (Prop×List C)
 |c,[]=>some (True,c)
 |c,(off,n,x):: r=>(x.get env).bind λa=>(pE a.2).bind λcs=>
  if cs.length=n/\off+n<=c.length then(la env (oN c off cs) r).map λb=>(a.1/\b.1,b.2)else none
def jM(env:Env)(sz:Nat):List (List T)->List (Nat×aP)->Option (Prop×List (List T))
 |es,[]=>some (True,es)
 |es,(i,x):: r=>(x.get env).bind λa=>(pE a.2).bind λcs=>(toTs cs).bind λts=>
  if ts.length=sz/\i<es.length then(jM env sz (es.set i ts) r).map λb=>(a.1/\b.1,b.2)else none
def k0:BinOp->T->T->Option (Prop×T)
 |.add,.int k a,.int c b=>if k=c then some (True,.int k (k.wrap (a+b)))else none
 |.sub,.int k a,.int c b=>if k=c then some (True,.int k (k.wrap (a-b)))else none
 |.mul,.int k a,.int c b=>if k=c then some (True,.int k (k.wrap (a*b)))else none
 |.quo,.int k a,.int c b=>if k=c then some (b≠0,.int k (k.wrap (a.tdiv b)))else none
 |.rem,.int k a,.int c b=>if k=c then some (b≠0,.int k (a.tmod b))else none
 |.and,.int k a,.int c b=>if k=c then some (True,.int k (k.wrap (BitVec.ofInt k.bits a &&& BitVec.ofInt k.bits b).toNat))else none
 |.or,.int k a,.int c b=>if k=c then some (True,.int k (k.wrap (BitVec.ofInt k.bits a ||| BitVec.ofInt k.bits b).toNat))else none
 |.xor,.int k a,.int c b=>if k=c then some (True,.int k (k.wrap (BitVec.ofInt k.bits a ^^^ BitVec.ofInt k.bits b).toNat))else none
 |.andNot,.int k a,.int c b=>if k=c then some (True,.int k (k.wrap (BitVec.ofInt k.bits a &&& ~~~ BitVec.ofInt k.bits b).toNat))else none
 |.shl,.int k a,.int _ b=>some (0<=b,.int k (k.wrap (a*2^min b.toNat k.bits)))
 |.shr,.int k a,.int _ b=>some (0<=b,.int k (a.fdiv (2^min b.toNat k.bits)))
 |.eql,.int k a,.int c b=>if k=c then some (True,.bool (decide (a=b)))else none
 |.neq,.int k a,.int c b=>if k=c then some (True,.bool (!decide (a=b)))else none
 |.lss,.int k a,.int c b=>if k=c then some (True,.bool (decide (a<b)))else none
 |.leq,.int k a,.int c b=>if k=c then some (True,.bool (decide (a<=b)))else none
 |.gtr,.int k a,.int c b=>if k=c then some (True,.bool (decide (b<a)))else none
 |.geq,.int k a,.int c b=>if k=c then some (True,.bool (decide (b<=a)))else none
 |.add,.str a,.str b=>some (a.length+b.length<=eC,.str (a++b))
 |.eql,.str a,.str b=>some (True,.bool (decide (a=b)))
 |.neq,.str a,.str b=>some (True,.bool (!decide (a=b)))
 |.lss,.str a,.str b=>some (True,.bool (Op.bytesLess a b))
 |.leq,.str a,.str b=>some (True,.bool (Op.bytesLess a b||decide (a=b)))
 |.gtr,.str a,.str b=>some (True,.bool (!(Op.bytesLess a b||decide (a=b))))
 |.geq,.str a,.str b=>some (True,.bool (!(Op.bytesLess a b)))
 |_,_,_=>none
def Br:Nat->T->T->Option Bool
 |0,.bool a,.bool b=>some (a==b)
 |1,.int k a,.int c b=>if k=c then some (decide (a=b))else none
 |2,.str a,.str b=>some (decide (a=b))
 |_,_,_=>none
def sd:a7->List C->List C->Option Bool
 |[],[],[]=>some true
 |k::ks,.t x::xs,.t y::ys=>(Br k x y).bind λb=>(sd ks xs ys).map λr=>b&&r
 |_,_,_=>none
abbrev AT:=Option (Prop×V×a8)
def loadT(agg:Bool)(n:Nat)(ts:List T)(o:Nat):Option V:=
 if agg then(if o+n<=ts.length then some (.agg (((ts.drop o).take n).map .t))else none)else(ts[o]?).map λt=>.c (.t t)
def jP(agg:Bool)(n:Nat)(cs:List C)(o:Nat):Option V:=
 if agg then(if o+n<=cs.length then some (.agg ((cs.drop o).take n))else none)else(cs[o]?).map .c
def j8:Nat:=281474976710656
def lC(n bytes:Nat):Prop:=(2*n+192)*bytes<=j8\/(n+n/4+512)*bytes<=j8
def l7(J:a8):V->Option (List (List T)×Option Nat)
 |.c (.t (.slice ys))=>some (ys,none)
 |.c .ay=>some ([],none)
 |.c (.arr b a off len)=>match aW J b with
  |some (.arr d ys)=>if a=d/\off=0/\len=ys.length then some (ys,some b)else none
  |_=>none
 |_=>none
def bytesOf:List (List T)->Option aj
 |[]=>some []
 |[.int .u8 m]::r=>(bytesOf r).map λs=>UInt8.ofNat m.toNat::s
 |_=>none
def m'(J:a8):V->Option (Prop×aj)
 |.c (.t (.slice es))=>(bytesOf es).map λs=>(True,s)
 |.c .ay=>some (True,[])
 |.c (.arr b 1 off len)=>match aW J b with
  |some (.arr 1 es)=>(bytesOf ((es.drop off).take len)).map λs=>(off+len<=es.length,s)
  |_=>none
 |.c (.fw b 1 off len)=>match aW J b with
  |some (.arr 1 es)=>(bytesOf ((es.drop off).take len)).map λs=>(off+len<=es.length,s)
  |_=>none
 |_=>none
def jd(ks:List aj)(s:aj):Bool:=ks.any λk=>decide (k=s)
def iR(ks:List aj)(s:aj):List aj:=if jd ks s then ks else ks++[s]
def yI:List C->Option C
 |[.arr b sz off len]=>some (.arr b sz off len)
 |_=>none
def mR:V->V->Option (Nat×Nat×Nat×Nat×Nat×Nat×Nat)
 |.c (.arr b sz off len),.c (.fw a f e d)=>if b=a then some (b,sz,off,len,f,e,d)else none
 |_,_=>none
def uq(J:a8)(n sz:Nat)(p q:Prop):Nat×Nat×Nat×Nat×Nat×Nat×Nat->AT
 |(b,s1,off,len,e,d,a)=>match aW J b with
  |some (.arr f es)=>some (p/\q/\s1 = sz/\e = sz/\f = sz/\off = 0/\len+a<=es.length/\d+a<=es.length,
   .c (.arr n sz 0 (len+a)),da (ib J b) n (.arr sz (es.take len++(es.drop d).take a)))
  |_=>none
def aO(o:cJ)(env:Env)(J:a8)(n:Nat):AT:=
 match o with
 |.mov x=>(x.get env).map λa=>(a.1,a.2,J)
 |.pick c x y=>(c.get env).bind λc=>(x.get env).bind λx=>(y.get env).bind λy=>
  match c.2,x.2,y.2 with
  |.c (.t (.bool b)),.c (.t (.bool p)),.c (.t (.bool q))=>
   some (c.1/\(b=true->x.1)/\(b=false->y.1),.c (.t (.bool (bif b then p else q))),J)
  |_,_,_=>none
 |.alloc cs=>some (True,.c (.ptr n 0),da J n (.box cs))
 |.allocA cs=>(toTs cs).map λts=>(True,.c (.ptr n 0),da J n (.arr 1 (ts.map λt=>[t])))
 |.idxP k x i=>(x.get env).bind λa=>(i.get env).bind λj=>match a.2,j.2 with
  |.c (.ptr b 0),.c (.t (.int _ m))=>some (a.1/\j.1/\0<=m/\m.toNat<k,.c (.cF b 1 m.toNat 0),J)
  |_,_=>none
 |.slcP k x u w=>(x.get env).bind λa=>(jO env u).bind λl=>(jO env w).bind λh=>match a.2 with
  |.c (.ptr b 0)=>
   let e:=h.2.getD k;let c:=l.2.getD 0
   some (a.1/\l.1/\h.1/\0<=c/\c<=e/\e<=k,.c (.fw b 1 c.toNat (e.toNat-c.toNat)),J)
  |_=>none
 |.b2s x=>(x.get env).bind λa=>(m' J a.2).map λr=>(a.1/\r.1,.c (.t (.str r.2)),J)
 |.box x=>(x.get env).bind λa=>(pE a.2).map λcs=>(a.1,.c (.ptr n 0),da J n (.box cs))
 |.build z parts=>(la env z parts).map λa=>(a.1,.agg a.2,J)
 |.bslice sz len z parts=>(toTs z).bind λE=>(jM env sz (List.replicate len E) parts).map λa=>
  (a.1,.c (.arr n sz 0 len),da J n (.arr sz a.2))
 |.load agg k x=>(x.get env).bind λa=>match a.2 with
  |.c (.ptr b o)=>match aW J b with
   |some (.box cs)=>(jP agg k cs o).map λv=>(a.1,v,J)
   |some (.b8 _ c)=>if agg=false/\o=1 then some (a.1,.c c,J)else none
   |_=>none
  |.c (.cF b sz i o)=>match aW J b with
   |some (.arr g es)=>(loadT agg k (el es i) o).map λv=>(a.1/\sz=g/\i<es.length,v,J)
   |some (.cA g es A B c)=>if agg then none else if o=B then some (a.1/\sz=g/\i=A,.c c,J)else(loadT false k (el es i) o).map λv=>(a.1/\sz=g/\i<es.length,v,J)
   |_=>none
  |.c (.dM ts o)=>(loadT agg k ts o).map λv=>(a.1,v,J)
  |_=>none
 |.store k x v=>(x.get env).bind λa=>(v.get env).bind λd=>(pE d.2).bind λcs=>
  if cs.length=k then match a.2 with
   |.c (.ptr b o)=>match aW J b with
    |some (.box ds)=>if o+k<=ds.length then some (a.1/\d.1,.aY [],da J b (.box (oN ds o cs)))else none
    |some (.b8 e _)=>match o,cs with
     |1,[c]=>some (a.1/\d.1,.aY [],da J b (.b8 e c))
     |_,_=>none
    |_=>none
   |.c (.cF b sz i o)=>match aW J b with
    |some (.arr g es)=>match yI cs with
     |some c=>some (a.1/\d.1/\sz=g/\i<es.length/\o+k<=sz,.aY [],da J b (.cA g es i o c))
     |none=>(toTs cs).bind λts=>
      some (a.1/\d.1/\sz=g/\i<es.length/\o+k<=sz,.aY [],
       da J b (.arr g (es.set i ((el es i).take o++ts++(el es i).drop (o+k)))))
    |some (.cA g es A B F)=>match cs with
     |[c]=>if o=B then some (a.1/\d.1/\sz=g/\i=A,.aY [],da J b (.cA g es A B c))
      else(toT c).bind λt=>some (a.1/\d.1/\sz=g/\i<es.length/\o+k<=sz,.aY [],
       da J b (.cA g (es.set i ((el es i).take o++[t]++(el es i).drop (o+k))) A B F))
     |_=>none
    |_=>none
   |_=>none
  else none
 |.nilCheck x=>(x.get env).bind λa=>match a.2 with
  |.c (.ptr ..)|.c (.cF ..)|.c (.dM ..)=>some (a.1,a.2,J)
  |_=>none
 |.bin op x y=>(x.get env).bind λa=>(y.get env).bind λb=>match a.2,b.2 with
  |.c (.t p),.c (.t q)=>(k0 op p q).map λr=>(a.1/\b.1/\r.1,.c (.t r.2),J)
  |_,_=>none
 |.eqAgg neg ks x y=>(x.get env).bind λa=>(y.get env).bind λb=>match a.2,b.2 with
  |.agg p,.agg q=>(sd ks p q).map λr=>(a.1/\b.1,.c (.t (.bool (if neg then !r else r))),J)
  |_,_=>none
 |.eqBool neg x y=>(x.get env).bind λa=>(y.get env).bind λb=>match a.2,b.2 with
  |.c (.t (.bool p)),.c (.t (.bool q))=>some (a.1/\b.1,.c (.t (.bool (if neg then !(p==q)else(p==q)))),J)
  |_,_=>none
 |.not x=>(x.get env).bind λa=>match a.2 with
  |.c (.t (.bool b))=>some (a.1,.c (.t (.bool (!b))),J)
  |_=>none
 |.conv k x=>(x.get env).bind λa=>match a.2 with
  |.c (.t (.int _ m))=>some (a.1,.c (.t (.int k (k.wrap m))),J)
  |_=>none
 |.i2s x=>(x.get env).bind λa=>match a.2 with
  |.c (.t (.int _ m))=>some (a.1,.c (.t (.str (Utf8.encode m).data.toList)),J)
  |_=>none
 |.s2s x=>(x.get env).bind λa=>match a.2 with
  |.c (.t (.str s))=>some (a.1,.c (.t (.str s)),J)
  |_=>none
 |.fldA off x=>(x.get env).bind λa=>match a.2 with
  |.c (.ptr b o)=>some (a.1,.c (.ptr b (o+off)),J)
  |.c (.cF b sz i o)=>some (a.1,.c (.cF b sz i (o+off)),J)
  |.c (.dM ts o)=>some (a.1,.c (.dM ts (o+off)),J)
  |_=>none
 |.fld agg off k x=>(x.get env).bind λa=>match a.2 with
  |.agg cs=>(jP agg k cs off).map λv=>(a.1,v,J)
  |_=>none
 |.idxA sz x i=>(x.get env).bind λa=>(i.get env).bind λj=>match a.2,j.2 with
  |.c (.t (.slice es)),.c (.t (.int _ m))=>some (a.1/\j.1/\0<=m/\m.toNat<es.length/\(el es m.toNat).length=sz,.c (.dM (el es m.toNat) 0),J)
  |.c (.arr b g off len),.c (.t (.int _ m))=>some (a.1/\j.1/\0<=m/\m.toNat<len/\sz=g,.c (.cF b sz (off+m.toNat) 0),J)
  |_,_=>none
 |.idxS x i=>(x.get env).bind λa=>(i.get env).bind λj=>match a.2,j.2 with
  |.c (.t (.str s)),.c (.t (.int _ m))=>some (a.1/\j.1/\0<=m/\m.toNat<s.length,.c (.t (.int .u8 (s.getD m.toNat 0).toNat)),J)
  |_,_=>none
 |.slcS x u w=>(x.get env).bind λa=>(jO env u).bind λl=>(jO env w).bind λh=>match a.2 with
  |.c (.t (.str s))=>
   let b:=h.2.getD s.length;let c:=l.2.getD 0
   some (a.1/\l.1/\h.1/\0<=c/\c<=b/\b<=s.length,.c (.t (.str ((s.take b.toNat).drop c.toNat))),J)
  |_=>none
 |.slc sz x u w=>(x.get env).bind λa=>(jO env u).bind λl=>(jO env w).bind λh=>match a.2 with
  |.c (.t (.slice es))=>
   let b:=h.2.getD es.length;let c:=l.2.getD 0
   some (a.1/\l.1/\h.1/\0<=c/\c<=b/\b<=es.length/\(∀e,e∈es->e.length=sz),.c (.t (.slice ((es.take b.toNat).drop c.toNat))),J)
  |.c (.arr b g off len)=>
   some (a.1/\l.1/\h.1/\0<=l.2.getD 0/\l.2.getD 0<=h.2.getD len/\h.2.getD len<=len/\sz=g,
    .c (if u.isNone then .arr b g off (h.2.getD len).toNat else .fw b g (off+(l.2.getD 0).toNat) ((h.2.getD len).toNat-(l.2.getD 0).toNat)),J)
  |_=>none
 |.slc0 x=>(x.get env).bind λa=>match a.2 with
  |.c (.t (.slice _))|.c .ay|.c (.arr ..)=>some (a.1,.c .ay,J)
  |_=>none
 |.mkfn f caps=>(ho env caps).bind λa=>match r5 a.2 with
  |some l=>some (a.1,.c (.fn f l),J)
  |none=>none
 |.ext x i=>(x.get env).bind λa=>match a.2 with
  |.aY vs=>(vs[i]?).map λv=>(a.1,v,J)
  |_=>none
 |.len str x=>(x.get env).bind λa=>match str,a.2 with
  |false,.c (.t (.slice es))=>some (a.1,.c (.t (.int .i64 es.length)),J)
  |false,.c (.arr _ _ _ l)=>some (a.1,.c (.t (.int .i64 l)),J)
  |false,.c .ay=>some (a.1,.c (.t (.int .i64 0)),J)
  |false,.c (.cG _ l)=>some (a.1,.c (.t (.int .i64 l)),J)
  |true,.c (.t (.str s))=>some (a.1,.c (.t (.int .i64 s.length)),J)
  |_,_=>none
 |.append sz bytes x y=>(x.get env).bind λa=>(y.get env).bind λd=>
  match mR a.2 d.2 with
  |some r=>uq J n sz a.1 d.1 r
  |none=>
  (l7 J d.2).bind λys=>
  match a.2 with
  |.c .ay=>some (a.1/\d.1/\(∀ e,e∈ys.1->e.length = sz)/\lC ys.1.length bytes/\ys.1.length<=eG,
   .c (.arr n sz 0 ys.1.length),da J n (.arr sz ys.1))
  |.c (.arr b g off len)=>match aW J b with
   |some (.arr G es)=>
    if ys.2=some b then none else some (a.1/\d.1/\g=sz/\G=sz/\off=0/\len=es.length/\(∀e,e∈ys.1->e.length=sz)/\lC (es.length+ys.1.length) bytes/\es.length+ys.1.length<=eG,
     .c (.arr n sz 0 (len+ys.1.length)),da (ib J b) n (.arr sz (es++ys.1)))
   |_=>none
  |_=>none
 |.max2 x y=>(x.get env).bind λa=>(y.get env).bind λb=>match a.2,b.2 with
  |.c (.t (.int k p)),.c (.t (.int D q))=>if k=D then some (a.1/\b.1,.c (.t (.int k (max p q))),J)else none
  |_,_=>none
 |.min2 x y=>(x.get env).bind λa=>(y.get env).bind λb=>match a.2,b.2 with
  |.c (.t (.int k p)),.c (.t (.int D q))=>if k=D then some (a.1/\b.1,.c (.t (.int k (min p q))),J)else none
  |_,_=>none
 |.allocS e e8=>some (True,.c (.ptr n 0),da (da J (n+1) (.buf e8 [])) n (.b8 e (.cG (n+1) 0)))
 |.bsliceT _ sz len z parts=>(toTs z).bind λE=>(jM env sz (List.replicate len E) parts).map λa=>(a.1,.c (.t (.slice a.2)),J)
 |.mkset=>some (True,.c (.mp n),da J n (.set []))
 |.lkset x k=>(x.get env).bind λa=>(k.get env).bind λd=>match a.2,d.2 with
  |.c (.mp b),.c (.t (.str s))=>match aW J b with
   |some (.set ks)=>some (a.1/\d.1,.c (.t (.bool (jd ks s))),J)
   |_=>none
  |_,_=>none
 |.upset x k=>(x.get env).bind λa=>(k.get env).bind λd=>match a.2,d.2 with
  |.c (.mp b),.c (.t (.str s))=>match aW J b with
   |some (.set ks)=>some (a.1/\d.1,.aY [],da J b (.set (iR ks s)))
   |_=>none
  |_,_=>none
 |.appendB e bytes x y=>(x.get env).bind λa=>(y.get env).bind λd=>match a.2,d.2 with
  |.c (.cG b len),.c (.t (.str s))=>match aW J b with
   |some (.buf C es)=>
    some (a.1/\d.1/\C=e/\len=es.length/\lC (es.length+s.length) bytes/\es.length+s.length<=eG,
     .c (.cG n (len+s.length)),da (ib J b) n (.buf e (es++s)))
   |_=>none
  |_,_=>none
 |.sdata x=>(x.get env).bind λa=>match a.2 with
  |.c (.cG b _)=>some (a.1,.c (.eg b),J)
  |_=>none
 |.ustr e x k=>(x.get env).bind λa=>(k.get env).bind λd=>match a.2,d.2 with
  |.c (.eg b),.c (.t (.int .i64 m))=>match aW J b with
   |some (.buf C es)=>some (a.1/\d.1/\C=e/\m=es.length,.c (.t (.str es)),ib J b)
   |_=>none
  |_,_=>none
 |.eqNil .. |.call .. |.iG .. =>none
where r5:List V->Option a7
 |[]=>some []
 |.c (.ptr b 0)::r=>(r5 r).map (b::·)
 |_=>none
def Aq(ks:List aj)(es:List MapEntry):Prop:=a' (λk e=>e.key= .string ⟨k.toArray⟩/\e.val= .bool true) ks es
def c1(φ:dE)(w:World)(S:dQ)(b:Nat):bO->Prop
 |.box cs=>(φ b).2≠0/\∃(vs:List Value) (E:TypeId),w.heap[(φ b).1]?=some (.cells vs.toArray E (0,0))/\a' (bm φ w S) cs vs/\∀j,¬S (φ b).1 j
 |.arr sz es=>es.length<=(φ b).2/\es.length<=eG/\(∀ e,e∈es->e.length = sz)/\0<sz/\
  ((φ b).2≠0->∃(vs:List Value) (E:TypeId),w.heap[(φ b).1]?=some (.cells vs.toArray E (0,0))/\vs.length=(φ b).2*sz/\
   (∀(i j:Nat) e t,es[i]?=some e->e[j]?=some t->∃v,vs[i*sz+j]?=some v/\cf w S t v)/\∀j,¬S (φ b).1 j)
 |.set ks=>(φ b).2≠0/\(∃(es:List MapEntry) (d:Nat),w.heap[(φ b).1]?=some (.map es.toArray d)/\Aq ks es)/\∀j,¬S (φ b).1 j
 |.buf E s=>s.length<=(φ b).2/\s.length<=eG/\
  ((φ b).2≠0->(∃vs:List Value,w.heap[(φ b).1]?=some (.cells vs.toArray E (0,0))/\vs.length=(φ b).2/\
   ∀(i:Nat) c,s[i]?=some c->vs[i]?=some (.int .u8 (UInt8.toNat c)))/\∀j,¬S (φ b).1 j)
 |.b8 E c=>(φ b).2≠0/\(∃p v:Value,w.heap[(φ b).1]?=some (.cells #[p,v] E (0,0))/\(p= .pointer none\/p= .pointer (some ⟨(φ b).1,0,none⟩))/\bm φ w S c v)/\∀j,¬S (φ b).1 j
 |.cA sz es i o c=>(es.length<=(φ b).2/\es.length<=eG/\(∀ e,e∈es->e.length = sz)/\0<sz/\i<es.length/\o<sz)/\
  (∃(vs:List Value) (E:TypeId),w.heap[(φ b).1]?=some (.cells vs.toArray E (0,0))/\vs.length=(φ b).2*sz/\
   (∀(a j:Nat) e t,es[a]?=some e->e[j]?=some t->¬(a=i/\j=o)->∃v,vs[a*sz+j]?=some v/\cf w S t v)/\∃v,vs[i*sz+o]?=some v/\bm φ w S c v)/\∀j,¬S (φ b).1 j
structure qe (φ:dE)(w:World)(S:dQ)(J:a8):Prop where
 blk:∀b x,aW J b=some x->c1 φ w S b x
 inj:∀b A2 x y,aW J b=some x->aW J A2=some y->b≠A2->(φ b).2≠0->(φ A2).2≠0->(φ b).1≠(φ A2).1
 st:∀b j,S b j->b<w.heap.size
structure Ext (B:Nat->Prop)(S bQ:dQ)(w w':World):Prop where
 os:w'.os=w.os
 tape:w'.tape=w.tape
 output:w'.output=w.output
 size:w.heap.size<=w'.heap.size
 block:∀b:Nat,b<w.heap.size->¬B b->w'.heap[b]?=w.heap[b]?
 mono:gq w S w' bQ
 rF:∀b j,bQ b j->S b j\/B b\/w.heap.size<=b
def bO.aA(n:Nat->Bool):bO->Bool
 |.box cs=>cs.all (C.aA n)
 |.arr _ _=>true
 |.set _=>true
 |.buf _ _=>true
 |.b8 _ c=>c.aA n
 |.cA _ _ _ _ c=>c.aA n
def ins(n:Nat->Bool)(k:Nat):Nat->Bool:=λb=>n b||b==k
structure Ctx where
 jB:World
 Es:dQ
 B:Nat->Prop
 Tr:dE
 k:Nat
structure Rel (aC:Ctx)(nt:Nat)(φ:dE)(S:dQ)(env:Env)(J:a8)(n:Nat->Bool)(a:Act)(w:World):Prop where
 bP:qe φ w S J
 gF:∀(k:Nat) g v,look env k=some (g,v)->g=true->∃x,a.tmps[k]?=some x/\cm φ w S v x
 hI:∀(k:Nat) g v,look env k=some (g,v)->g=false->a.tmps[k]?=some undef
 gE:∀(k:Nat) g v,look env k=some (g,v)->g=true->v.aA n=true
 dN:∀(b:Nat) x,aW J b=some x->n b=true/\x.aA n=true
 size:a.tmps.size=nt
 defers:a.defers=[]
 ext:Ext aC.B aC.Es S aC.jB w
 own:∀(b:Nat) x,aW J b=some x->(φ b).2≠0->aC.B (φ b).1\/aC.jB.heap.size<=(φ b).1
 fix:∀b:Nat,b<aC.k->φ b=aC.Tr b
 fQ:∀b:Nat,b<aC.k->n b=true
variable{c:C}{v u:Value}{p:Prop}{x y:Operand}{cs:List C}{o:Oper}{op:BinOp}{ty e E:TypeId}{fs:Array Field}{f off:Nat}{w w':World}{vs xs:List Value}{ts:List T}{agg:Bool}{es ys:List (List T)}{j:Option Operand}{J':a8}{q:Nat×Nat}{α:Type}{place:Nat->Option (Nat×Nat)}{R:T->Value->Prop}
section
variable {P:Program}{aC:Ctx}{nt:Nat}{φ:dE}{S:dQ}{env:Env}{J:a8}{n:Nat->Bool}{key:Nat}{a:Act}{w:World}
def Good(P:Program)(aC:Ctx)(nt:Nat)(env:Env)(J':a8)(b:Nat->Bool)(a:Act)(v:V)(r:Result Next):Prop:=
 ∃x c bQ w',(r= .ok (.value x) w'\/(r= .ok .skip w'/\x=undef))/\cm c w' bQ v x/\v.aA b=true/\Rel aC nt c bQ env J' b a w'
theorem aaJ{n:Nat->Bool}{k:Nat}:ins n k k=true:=by simp[ins]
theorem kJ{n:Nat->Bool}{k b:Nat}(h:n b=true):ins n k b=true:=by simp[ins,h]
theorem C.hh{n e:Nat->Bool}(h:∀b,n b=true->e b=true)(a:c.aA n=true):c.aA e=true:=by
 cases c<;>simp only[C.aA,cY]at*<;>first|exact h _ a|exactλb f=>h b (a b f)
theorem tx{n:Nat->Bool}:∀{vs:List V},(∀(i:Nat) v,vs[i]?=some v->v.aA n=true)->V.aA.V.dF n vs=true
 |[],_=>rfl
 |v::vs,h=>by
  simp only[V.aA.V.dF,cd];exact⟨h 0 v rfl,tx λi v a=>h (i+1) v a⟩
theorem V.hh{n e:Nat->Bool}(h:∀b,n b=true->e b=true):∀{v:V},v.aA n=true->v.aA e=true
 |.c x,a=>by simp only[V.aA]at a⊢;exact C.hh h a
 |.agg cs,a=>by
  simp only[V.aA,cY]at a⊢;exactλc f=>C.hh h (a c f)
 |.aY vs,a=>by
  simp only[V.aA]at a⊢;exact go vs a
where go:∀vs,V.aA.V.dF n vs=true->V.aA.V.dF e vs=true
 |[],_=>rfl
 |v::vs,a=>by
  simp only[V.aA.V.dF,cd]at a⊢;exact⟨V.hh h a.1,go vs a.2⟩
theorem bO.hh{n e:Nat->Bool}(h:∀b,n b=true->e b=true){x:bO}(a:x.aA n=true):x.aA e=true:=by
 cases x with
 |box cs=>
  simp only[bO.aA,cY]at a⊢;exactλc f=>C.hh h (a c f)
 |arr=>rfl
 |set=>rfl
 |buf=>rfl
 |b8 E c=>simp only[bO.aA]at a⊢;exact C.hh h a
 |cA sz es i o c=>simp only[bO.aA]at a⊢;exact C.hh h a
theorem Rel.more(R:Rel aC nt φ S env J n a w){e:Nat->Bool}(h:∀b,n b=true->e b=true):Rel aC nt φ S env J e a w:=
 ⟨R.bP,R.gF,R.hI,λk g v af al=>V.hh h (R.gE k g v af al),λb x c=>⟨h b (R.dN b x c).1,bO.hh h (R.dN b x c).2⟩,R.size,R.defers,R.ext,R.own,R.fix,λb f=>h b (R.fQ b f)⟩
theorem Good.pure(R:Rel aC nt φ S env J n a w){v:V}{x:Value}{r:Result Next}(e:r= .ok (.value x) w)(f:cm φ w S v x)(c:v.aA n=true):
 Good P aC nt env J (ins n key) a v r:=⟨x,φ,S,w,.inl e,f,V.hh (λ_ h=>kJ h) c,R.more λ_ h=>kJ h⟩
theorem SQ(h:BR v=some c):bm φ w S c v/\c.aA n=true:=by
 unfold BR at h;split at h<;>simp at h
 . subst h;exact⟨.bool _,rfl⟩
 . subst h;exact⟨.int _ _,rfl⟩
 . obtain⟨hs,rfl⟩:=h;exact⟨.str _ hs,rfl⟩
 . subst h;exact⟨⟨_,rfl⟩,rfl⟩
 . subst h;exact⟨rfl,rfl⟩
 . subst h;exact⟨rfl,rfl⟩
 . subst h;exact⟨rfl,rfl⟩
theorem G3:∀{vs:List Value} {cs:List C},vK vs=some cs->a' (bm φ w S) cs vs/\cs.all (C.aA n)=true
 |[],cs,h=>by simp[vK]at h;subst h;exact⟨.nil,rfl⟩
 |v::vs,cs,h=>by
  simp only[vK,bp,bb]at h;obtain⟨c,b,e,d,rfl⟩:=h;have h1:=SQ (φ:=φ) (w:=w) (S:=S) (n:=n) b;have a:=G3 d;exact⟨.cons h1.1 a.1,by simp[h1.2];simpa using a.2⟩
theorem XI{a:V}(h:IC v=some a):cm φ w S a v/\a.aA n=true:=by
 unfold IC at h;split at h
 . rename_i cs;simp only[bb]at h;obtain⟨l,af,rfl⟩:=h;have:=G3 (φ:=φ) (w:=w) (S:=S) (n:=n) af;refine⟨?_,by simpa[V.aA]using this.2⟩;have e:=cm.agg (φ:=φ) (w:=w) (S:=S) this.1;omega
 . simp only[bb]at h;obtain⟨l,af,rfl⟩:=h;have:=SQ (φ:=φ) (w:=w) (S:=S) (n:=n) af;exact⟨.c this.1,by simpa[V.aA]using this.2⟩
theorem cz(R:Rel aC nt φ S env J n a w){d:aP}(b:bK x=some d){v:V}(h:d.get env=some (p,v))(e:p):
 cm φ w S v (a.eval x)/\v.aA n=true:=by
 cases x with
 |tmp t=>
  simp[bK]at b;subst b;simp only[aP.get,bb]at h;obtain⟨⟨g,i⟩,af,he⟩:=h;simp only[bF,bB]at he;obtain⟨rfl,rfl⟩:=he;obtain⟨y,k,j⟩:=R.gF t g i af e;refine⟨?_,R.gE t g i af e⟩;simp only[Act.eval,BA,k,lo];exact j
 |const c=>
  simp only[bK,bb]at b;obtain⟨l,gN,rfl⟩:=b;simp[aP.get]at h;obtain⟨_,rfl⟩:=h;exact XI gN
 |global g=>simp[bK]at b
 |func f=>
  simp[bK]at b;subst b;simp[aP.get]at h;obtain⟨_,rfl⟩:=h;exact⟨.c (by simp[bm,Act.eval]),by simp[V.aA,C.aA]⟩
theorem qG(R:Rel aC nt φ S env J n a w):∀{xs:List Operand} {aZ:List aP} (_:mM xs=some aZ) {p:Prop} {vs:List V} (_:ho env aZ=some (p,vs)) (_:p),
 a' (cm φ w S) vs (xs.map a.eval)/\V.aA.V.dF n vs=true
 |[],aZ,b,p,vs,h,c=>by simp[mM]at b;subst b;simp[ho]at h;obtain⟨_,rfl⟩:=h;exact⟨.nil,rfl⟩
 |x::xs,aZ,b,p,vs,h,c=>by
  simp only[mM,bp,bb]at b;obtain⟨j,e,k,f,rfl⟩:=b;simp only[ho,bp,bb]at h;obtain⟨⟨q,v⟩,g,⟨l,m⟩,i,he⟩:=h;simp only[bF,bB]at he;obtain⟨rfl,rfl⟩:=he;have h1:=cz R e g c.1;have d:=qG R f i c.2;exact⟨.cons h1.1 d.1,by simp[V.aA.V.dF,h1.2,d.2]⟩
theorem cm.js{b:Bool}{x:Value}(h:cm φ w S (.c (.t (.bool b))) x):x= .bool b:=by cases h with|c h=>cases h;rfl
theorem cm.gn{k:IntKind}{m:Int}{x:Value}(h:cm φ w S (.c (.t (.int k m))) x):x= .int k m:=by cases h with|c h=>cases h;rfl
theorem cm.km{s:aj}{x:Value}(h:cm φ w S (.c (.t (.str s))) x):∃bs:ByteArray,x= .string bs/\bs.data.toList=s/\bs.size<=eC:=by cases h with|c h=>cases h with|str s h=>exact⟨s,rfl,rfl,h⟩
theorem cm.hQ{b o:Nat}{x:Value}(h:cm φ w S (.c (.ptr b o)) x):x= .pointer (some ⟨(φ b).1,o,none⟩):=by cases h with|c h=>exact h
theorem cm.jc{b sz i o:Nat}{x:Value}(h:cm φ w S (.c (.cF b sz i o)) x):x= .pointer (some ⟨(φ b).1,i*sz+o,none⟩):=by cases h with|c h=>exact h
theorem cm.rZ{x:Value}(h:cm φ w S (.agg cs) x):∃vs:List Value,x= .agg vs.toArray/\a' (bm φ w S) cs vs:=by cases h with|agg h=>exact⟨_,rfl,h⟩
theorem cm.dW{x:Value}(h:cm φ w S (.c c) x):bm φ w S c x:=by cases h with|c h=>exact h
theorem cm.r3(b:Bool):cm φ w S (.c (.t (.bool b))) (.bool b):= .c (.bool b)
theorem cm.mI(k:IntKind)(m:Int):cm φ w S (.c (.t (.int k m))) (.int k m):= .c (.int k m)
theorem JN(R:Rel aC nt φ S env J n a w)(b:o.op= .move x\/o.op= .assign x){c:aP}(f:bK x=some c)
 {p v J'}(g:n key=false)(h:aO (.mov c) env J key=some (p,v,J'))(d:p):Good P aC nt env J' (ins n key) a v ((execOp a.eval o).run P w):=by
 simp only[aO,bb]at h;obtain⟨⟨q,u⟩,e,he⟩:=h;simp only[bF,bB]at he;obtain⟨rfl,rfl,rfl⟩:=he;have al:=cz R f e d;refine Good.pure R ?_ al.1 al.2;rcases b with b|b<;>simp[execOp,b]
theorem Ya(R:Rel aC nt φ S env J n a w){c:Operand}(g:o.op= .pick c x y){ac d e:aP}(m:bK c=some ac)(u:bK x=some d)(z:bK y=some e)
 {p v J'}(C:n key=false)(h:aO (.pick ac d e) env J key=some (p,v,J'))(t:p):Good P aC nt env J' (ins n key) a v ((execOp a.eval o).run P w):=by
 simp only[aO,bp]at h;obtain⟨⟨D,G⟩,q,⟨E,H⟩,r,⟨F,I⟩,s,he⟩:=h;simp only at he;split at he
 . rename_i b A B;simp only[bF,bB]at he;obtain⟨rfl,rfl,rfl⟩:=he;obtain⟨h1,k,l⟩:=t;have f:=(cz R m q h1).1.js;cases b with
   |true=>
    have i:=(cz R u r (k rfl)).1.js;exact Good.pure R (x:= .bool A) (by simp[execOp,g,f,asBool,i]) (.r3 _) rfl
   |false=>
    have j:=(cz R z s (l rfl)).1.js;exact Good.pure R (x:= .bool B) (by simp[execOp,g,f,asBool,j]) (.r3 _) rfl
 . cases he
theorem qK(b:ByteArray):b.data.toList.length=b.size:=by cases b;simp[ByteArray.size]
theorem Yb{s t r:T}(h:k0 op s t=some (p,r))(c:p){x y:Value}(f:cf w S s x)(g:cf w S t y):
 ∃z,(binOp op ty x y).run P w= .ok z w/\cf w S r z:=by
 have d:∀a b:aj,(a==b)=decide (a=b):=λa b=>by by_cases h:a=b<;>simp[h]
 unfold k0 at h;split at h<;>(first|simp only[dC,bF,bB]at h|cases h)
 all_goals cases f;cases g
 case h_1=>obtain⟨rfl,rfl,rfl⟩:=h;exact⟨_,by simp[binOp,Op.intArith],.int _ _⟩
 case h_2=>obtain⟨rfl,rfl,rfl⟩:=h;exact⟨_,by simp[binOp,Op.intArith],.int _ _⟩
 case h_3=>obtain⟨rfl,rfl,rfl⟩:=h;exact⟨_,by simp[binOp,Op.intArith],.int _ _⟩
 case h_4=>obtain⟨rfl,rfl,rfl⟩:=h;exact⟨_,by simp[binOp,Op.intDiv,c],.int _ _⟩
 case h_5=>obtain⟨rfl,rfl,rfl⟩:=h;exact⟨_,by simp[binOp,Op.intDiv,c],.int _ _⟩
 case h_6=>obtain⟨rfl,rfl,rfl⟩:=h;exact⟨_,by simp[binOp,Op.intBits],.int _ _⟩
 case h_7=>obtain⟨rfl,rfl,rfl⟩:=h;exact⟨_,by simp[binOp,Op.intBits],.int _ _⟩
 case h_8=>obtain⟨rfl,rfl,rfl⟩:=h;exact⟨_,by simp[binOp,Op.intBits],.int _ _⟩
 case h_9=>obtain⟨rfl,rfl,rfl⟩:=h;exact⟨_,by simp[binOp,Op.intBits],.int _ _⟩
 case h_10=>obtain⟨rfl,rfl⟩:=h;exact⟨_,by simp only[binOp,Op.shift];rw[bq];rfl,.int _ _⟩
 case h_11=>obtain⟨rfl,rfl⟩:=h;exact⟨_,by simp only[binOp,Op.shift];rw[bq];rfl,.int _ _⟩
 case h_12=>obtain⟨rfl,rfl,rfl⟩:=h;exact⟨_,by simp[binOp,Op.intCmp];rfl,.bool _⟩
 case h_13=>obtain⟨rfl,rfl,rfl⟩:=h;exact⟨_,by simp[binOp,Op.intCmp,bne,BEq.beq],.bool _⟩
 case h_14=>obtain⟨rfl,rfl,rfl⟩:=h;exact⟨_,by simp[binOp,Op.intCmp],.bool _⟩
 case h_15=>obtain⟨rfl,rfl,rfl⟩:=h;exact⟨_,by simp[binOp,Op.intCmp],.bool _⟩
 case h_16=>obtain⟨rfl,rfl,rfl⟩:=h;exact⟨_,by simp[binOp,Op.intCmp],.bool _⟩
 case h_17=>obtain⟨rfl,rfl,rfl⟩:=h;exact⟨_,by simp[binOp,Op.intCmp],.bool _⟩
 case h_18 s hs t ht=>
  obtain⟨rfl,rfl⟩:=h;simp only[qK]at c;have e:(s++t).data.toList=s.data.toList++t.data.toList:=by simp
  refine⟨.string (s++t),?_,e▸.str _ (by rw[ByteArray.size_append];exact c)⟩;have:¬(((s.size+t.size:Nat):Int)>IntKind.i64.max):=by simp only[IntKind.max];unfold eC at c;simp[IntKind.signed,IntKind.bits];omega
  simp only[binOp,Op.stringOp,ak this];rfl
 case h_19 s hs t ht=>obtain⟨rfl,rfl⟩:=h;exact⟨_,by simp only[binOp,Op.stringOp,ByteArray.toList_eq,d];rfl,.bool _⟩
 case h_20 s hs t ht=>obtain⟨rfl,rfl⟩:=h;exact⟨_,by simp only[binOp,Op.stringOp,ByteArray.toList_eq,d];rfl,.bool _⟩
 case h_21 s hs t ht=>obtain⟨rfl,rfl⟩:=h;exact⟨_,by simp only[binOp,Op.stringOp,ByteArray.toList_eq];rfl,.bool _⟩
 case h_22 s hs t ht=>obtain⟨rfl,rfl⟩:=h;exact⟨_,by simp only[binOp,Op.stringOp,ByteArray.toList_eq,d];rfl,.bool _⟩
 case h_23 s hs t ht=>obtain⟨rfl,rfl⟩:=h;exact⟨_,by simp only[binOp,Op.stringOp,ByteArray.toList_eq,d];rfl,.bool _⟩
 case h_24 s hs t ht=>obtain⟨rfl,rfl⟩:=h;exact⟨_,by simp only[binOp,Op.stringOp,ByteArray.toList_eq];rfl,.bool _⟩
theorem Gz(h1:u≠.nilIface)(a:∀cs,u≠.agg cs):(eqGuard op ty x y u v).run P w= .ok () w:=by
 unfold eqGuard;simp_all
theorem cf.guard{t:T}(h:cf w S t u):u≠.nilIface/\∀cs,u≠.agg cs:=by
 cases h<;>exact⟨by simp,by simp⟩
theorem JA(b:P.underlying ty=some .bool)(b1 b2:Bool):(Op.equal ty (.bool b1) (.bool b2)).run P w= .ok (b1==b2) w:=by
 obtain⟨d,a⟩:∃d,Op.maxDepth=d+1:=⟨9999,rfl⟩
 unfold Op.equal;rw[a];unfold Op.equalIn;simp only[Sem.run_bind,run_underlying b,Result.andThen_ok];rfl
theorem Hf(R:Rel aC nt φ S env J n a w){u:TypeId}(k:o.op= .binOp op ty x y u){d e:aP}(m:bK x=some d)(q:bK y=some e)
 {p v J'}(A:n key=false)(h:aO (.bin op d e) env J key=some (p,v,J'))(b:p):Good P aC nt env J' (ins n key) a v ((execOp a.eval o).run P w):=by
 simp only[aO,bp]at h;obtain⟨⟨C,E⟩,i,⟨D,F⟩,j,he⟩:=h;simp only at he;split at he
 . rename_i t1 t2;simp only[bb,bB]at he;obtain⟨⟨B,r⟩,l,rfl,rfl,rfl⟩:=he;have h1:=(cz R m i b.1).1.dW;have g:=(cz R q j b.2.1).1.dW;obtain⟨z,s,t⟩:=Yb (P:=P) (ty:=ty) l b.2.2 h1 g;refine Good.pure R (x:=z) ?_ (.c t) rfl;have f:(eqGuard op ty x y (a.eval x) (a.eval y)).run P w= .ok () w:=Gz (cf.guard h1).1 (cf.guard h1).2;simp[execOp,k,f,s]
 . cases he
theorem Xe(R:Rel aC nt φ S env J n a w){s:TypeId}(l:o.op= .binOp op ty x y s)(m:op= .eql\/op= .neq)(f:P.underlying ty=some .bool)
 {b c:aP}(q:bK x=some b)(r:bK y=some c)
 {p v J'}(t:n key=false)(h:aO (.eqBool (op== .neq) b c) env J key=some (p,v,J'))(e:p):Good P aC nt env J' (ins n key) a v ((execOp a.eval o).run P w):=by
 simp only[aO,bp]at h;obtain⟨⟨u,A⟩,j,⟨z,B⟩,k,he⟩:=h;simp only at he;split at he
 . rename_i b1 b2;simp only[bF,bB]at he;obtain⟨rfl,rfl,rfl⟩:=he;have h1:=(cz R q j e.1).1.js;have d:=(cz R r k e.2).1.js;refine Good.pure R (x:= .bool (if(op== .neq)then !(b1==b2)else(b1==b2))) ?_ (.r3 _) rfl;have g:(eqGuard op ty x y (a.eval x) (a.eval y)).run P w= .ok () w:=Gz (by rw[h1];simp) (by rw[h1];simp);have i:(binOp op ty (a.eval x) (a.eval y)).run P w= .ok (.bool (if(op== .neq)then !(b1==b2)else(b1==b2))) w:=by
    rcases m with rfl|rfl
    . rw[h1,d];simp only[binOp,Sem.run_bind,JA f];rfl
    . rw[h1,d];simp only[binOp,Sem.run_bind,JA f];rfl
   simp[execOp,l,g,i]
 . cases he
theorem Z0(R:Rel aC nt φ S env J n a w)(d:o.op= .unOp .not ty x){b:aP}(f:bK x=some b)
 {p v J'}(g:n key=false)(h:aO (.not b) env J key=some (p,v,J'))(e:p):Good P aC nt env J' (ins n key) a v ((execOp a.eval o).run P w):=by
 simp only[aO,bp]at h;obtain⟨⟨i,j⟩,c,he⟩:=h;simp only at he;split at he
 . simp only[bF,bB]at he;obtain⟨rfl,rfl,rfl⟩:=he;have h1:=(cz R f c e).1.js;exact Good.pure R (by simp[execOp,d,h1,Op.unary]) (.r3 _) rfl
 . cases he
theorem Z1(R:Rel aC nt φ S env J n a w){k:IntKind}(i:o.op= .unOp .neg ty x){b:aP}(l:bK x=some b)
 {p v J'}(m:n key=false)(h:aO (.bin .sub (.const (.c (.t (.int k 0)))) b) env J key=some (p,v,J'))(j:p):Good P aC nt env J' (ins n key) a v ((execOp a.eval o).run P w):=by
 simp only[aO,aP.get,ao,bp]at h;obtain⟨⟨s,u⟩,g,he⟩:=h;simp only at he;split at he
 . rename_i t1 t2 aK;cases aK;simp only[bb,bB]at he;obtain⟨⟨q,r⟩,d,rfl,rfl,rfl⟩:=he;have e:=(cz R l g j.2.1).1;cases t2<;>simp only[k0,reduceCtorEq,dC,bF,bB]at d;obtain⟨rfl,rfl,rfl⟩:=d;have f:=e.gn;exact Good.pure R (by simp[execOp,i,f,Op.unary,Op.intArith]) (.mI _ _) rfl
 . cases he
theorem Z2(R:Rel aC nt φ S env J n a w){k:IntKind}(i:o.op= .unOp .xor ty x){b:aP}(l:bK x=some b)
 {p v J'}(m:n key=false)(h:aO (.bin .xor (.const (.c (.t (.int k (if k.signed then -1 else k.max))))) b) env J key=some (p,v,J'))(j:p):Good P aC nt env J' (ins n key) a v ((execOp a.eval o).run P w):=by
 simp only[aO,aP.get,ao,bp]at h;obtain⟨⟨s,u⟩,g,he⟩:=h;simp only at he;split at he
 . rename_i t1 t2 aK;cases aK;simp only[bb,bB]at he;obtain⟨⟨q,r⟩,d,rfl,rfl,rfl⟩:=he;have e:=(cz R l g j.2.1).1;cases t2<;>simp only[k0,reduceCtorEq,dC,bF,bB]at d;obtain⟨rfl,rfl,rfl⟩:=d;have f:=e.gn;exact Good.pure R (by simp[execOp,i,f,Op.unary,Op.intBits]) (.mI _ _) rfl
 . cases he
theorem Yc(R:Rel aC nt φ S env J n a w){s d:TypeId}(f:o.op= .convert s d x){j k:IntKind}(hs:P.underlying s=some (.int j))(c:P.underlying d=some (.int k)){b:aP}(i:bK x=some b)
 {p v J'}(l:n key=false)(h:aO (.conv k b) env J key=some (p,v,J'))(g:p):Good P aC nt env J' (ins n key) a v ((execOp a.eval o).run P w):=by
 simp only[aO,bp]at h;obtain⟨⟨m,q⟩,e,he⟩:=h;simp only at he;split at he
 . simp only[bF,bB]at he;obtain⟨rfl,rfl,rfl⟩:=he;have h1:=(cz R i e g).1.gn;exact Good.pure R (by simp[execOp,f,h1,convert,underlying,hs,c,Conv.intToInt]) (.mI _ _) rfl
 . cases he
theorem Xf(m:Int):(Utf8.encode m).size<=eC:=by
 unfold eC Utf8.encode;generalize (if Utf8.valid m then m.toNat else Utf8.runeError)=c;dsimp only
 (repeat' split)<;>simp[ByteArray.size]
theorem Z3(R:Rel aC nt φ S env J n a w){s d:TypeId}(g:o.op= .convert s d x){k:IntKind}(hs:P.underlying s=some (.int k))(e:P.underlying d=some .string){b:aP}(j:bK x=some b)
 {p v J'}(l:n key=false)(h:aO (.i2s b) env J key=some (p,v,J'))(i:p):Good P aC nt env J' (ins n key) a v ((execOp a.eval o).run P w):=by
 simp only[aO,bp]at h;obtain⟨⟨m,q⟩,f,he⟩:=h;simp only at he;split at he
 . simp only[bF,bB]at he;obtain⟨rfl,rfl,rfl⟩:=he;have h1:=(cz R j f i).1.gn;exact Good.pure R (by simp[execOp,g,h1,convert,underlying,hs,e,Conv.intToString]) (.c (.str _ (Xf _))) rfl
 . cases he
theorem Z4(R:Rel aC nt φ S env J n a w){s d:TypeId}(f:o.op= .convert s d x)(hs:P.underlying s=some .string)(c:P.underlying d=some .string){b:aP}(i:bK x=some b)
 {p v J'}(j:n key=false)(h:aO (.s2s b) env J key=some (p,v,J'))(g:p):Good P aC nt env J' (ins n key) a v ((execOp a.eval o).run P w):=by
 simp only[aO,bp]at h;obtain⟨⟨k,l⟩,e,he⟩:=h;simp only at he;split at he
 . simp only[bF,bB]at he;obtain⟨rfl,rfl,rfl⟩:=he;have al:=cz R i e g;obtain⟨bs,h1,rfl,_⟩:=al.1.km;refine Good.pure R (x:= .string bs) ?_ (h1▸al.1) rfl;simp[execOp,f,h1,convert,underlying,hs,c]
 . cases he
theorem XA(R:Rel aC nt φ S env J n a w)(b:o.op= .nilCheck x){c:aP}(f:bK x=some c)
 {p v J'}(g:n key=false)(h:aO (.nilCheck c) env J key=some (p,v,J'))(e:p):Good P aC nt env J' (ins n key) a v ((execOp a.eval o).run P w):=by
 simp only[aO,bp]at h;obtain⟨⟨i,j⟩,d,he⟩:=h;simp only at he;split at he<;>simp only[bF,bB,reduceCtorEq]at he
 all_goals
  obtain⟨rfl,rfl,rfl⟩:=he;have al:=cz R f d e;have h1:=al.1.dW;refine Good.pure R (x:=a.eval x) ?_ al.1 al.2
 . simp only[bm]at h1;simp[execOp,b,h1]
 . simp only[bm]at h1;simp[execOp,b,h1]
 . obtain⟨_,_,_,h1,_⟩:=h1;simp[execOp,b,h1]
theorem Yd(R:Rel aC nt φ S env J n a w)(t:o.op= .fieldAddr ty x f)(z:P.underlying ty=some (.struct fs)){d:Field}(l:fs[f]?=some d)
 {m:Nat}(k:eI P d.type=some m)(s:m≠0){j:aP}(B:bK x=some j)
 {p v J'}(C:n key=false)(h:aO (.fldA d.offset j) env J key=some (p,v,J'))(u:p):Good P aC nt env J' (ins n key) a v ((execOp a.eval o).run P w):=by
 simp only[aO,bp]at h;obtain⟨⟨D,E⟩,q,he⟩:=h;simp only at he;have A:∀w,(underlying ty).run P w= .ok (.struct fs) w:=by intro w;simp[underlying,z]
 have y:∀w,(sizeOf d.type).run P w= .ok m w:=by intro w;simp only[eI,bb]at k;obtain⟨i,r,rfl⟩:=k;simp[sizeOf,typeInfo,r]
 have g:∀(b off:Nat),a.eval x= .pointer (some ⟨b,off,none⟩)->(execOp a.eval o).run P w= .ok (.value (.pointer (some ⟨b,off+d.offset,none⟩))) w:=by
  intro b off e;simp[execOp,t,e,Instr.fieldAt,A,l,Instr.sureAddr,fieldPlace,y,s,Addr.add]
  try (split<;>simp_all)
 split at he<;>simp only[bF,bB,reduceCtorEq]at he
 all_goals
  obtain⟨rfl,rfl,rfl⟩:=he;have al:=cz R B q u;have h1:=al.1.dW
 . simp only[bm]at h1;exact Good.pure R (g _ _ h1) (.c rfl) al.2
 . simp only[bm]at h1;exact Good.pure R (g _ _ h1) (.c (by simp[bm,p5])) al.2
 . obtain⟨blk,off,f,h1,aa⟩:=h1;exact Good.pure R (g _ _ h1) (.c ⟨blk,off,f,by simp[p5],aa⟩) al.2
theorem a'.agk(h:a' (cf w S) ts vs):a' (bm φ w S) (ts.map .t) vs:=by
 induction h with
 |nil=>exact .nil
 |cons h _ ih=>exact .cons h ih
theorem JO(n:Nat->Bool)(ts:List T):(ts.map C.t).all (C.aA n)=true:=by simp[C.aA]
theorem XJ{n:Nat->Bool}{cs:List C}(h:cs.all (C.aA n)=true)(o k:Nat):((cs.drop o).take k).all (C.aA n)=true:=by grind
theorem yO{g:Bool}(al:pD P ty=some g)(w:World):(isAgg ty).run P w= .ok g w:=by
 unfold pD at al;split at al<;>simp_all [isAgg,underlying]
theorem j7{k:Nat}(a:eI P ty=some k)(w:World):(sizeOf ty).run P w= .ok k w:=by
 simp only[eI,bb]at a;obtain⟨i,b,rfl⟩:=a;simp[sizeOf,typeInfo,b]
theorem JB{g:Bool×Nat}(h:tb P ty=some g):pD P ty=some g.1/\eI P ty=some g.2/\(g.1=false->g.2=1):=by
 simp only[tb,bp,dC,bF]at h;grind
theorem Yn{g:Bool}{k:Nat}(al:pD P ty=some g)(e:eI P ty=some k){b o:Nat}
 (a:∀j,j<k->w.cell? ⟨b,o+j,none⟩=vs[j]?)(af:vs.length=k)(h1:g=false->k=1):
 (loadVar ty ⟨b,o,none⟩).run P w= .ok (if g then .agg vs.toArray else vs.getD 0 undef) w:=by
 cases g with
 |true=>
  have:=run_loadCells_list (P:=P) w ⟨b,o,none⟩ vs (λj v c=>by
   have d:j<k:=by rw[<-af];exact(c5.1 c).1
   rw[<-c,<-a j d];unfold Addr.add;split
   . grind
   . rfl)
  rw[af]at this;simp[loadVar,yO al,j7 e,this]
 |false=>
  have f:=h1 rfl;subst f;obtain⟨v,rfl⟩:∃v,vs=[v]:=by
   match vs,af with
   |[v],_=>exact⟨v,rfl⟩
  have:=a 0 (by omega);simp at this;simp[loadVar,yO al,this]
theorem bm.single(h:bm φ w S c v):v.cells=#[v]:=by
 have:=bm.jh h;cases v<;>simp[Value.oneCell']at this<;>rfl
theorem nw{v:V}{x:Value}(h:cm φ w S v x)(a:pE v=some cs)(b:v.aA n=true):a' (bm φ w S) cs x.cells.toList/\cs.all (C.aA n)=true:=by
 cases h with
 |c h=>
  simp[pE]at a;subst a;rw[bm.single h];exact⟨.cons h .nil,by simpa[V.aA]using b⟩
 |agg h=>
  simp[pE]at a;subst a;exact⟨by simpa[Value.cells]using h,by simpa[V.aA]using b⟩
 |aY=>simp[pE]at a
theorem SR{k o:Nat}{v:V}(h:a' (bm φ w S) cs vs)(a:cs.all (C.aA n)=true)(af:jP agg k cs o=some v)(h1:agg=false->k=1):
 o+k<=cs.length/\cm φ w S v (if agg then .agg ((vs.drop o).take k).toArray else((vs.drop o).take k).getD 0 undef)/\v.aA n=true:=by
 unfold jP at af;cases agg with
 |true=>
  simp only[bS,dC,bF]at af;obtain⟨d,rfl⟩:=af;refine⟨d,?_,by simpa[V.aA]using XJ a o k⟩;simpa using cm.agg ((h.drop o).take k)
 |false=>
  have:=h1 rfl;subst this;simp only[bV,b6,bb]at af;obtain⟨c,b,rfl⟩:=af;obtain⟨x,f,e⟩:=h.get b;have aB:o<cs.length:=(c5.1 b).1;refine⟨by omega,?_,?_⟩
  . have:((vs.drop o).take 1).getD 0 undef=x:=(by grind);simp only[bV,b6,this];exact .c e
  . simp only[cY]at a;simpa[V.aA]using a c (eM b)
theorem KT{k o:Nat}{v:V}(af:loadT agg k ts o=some v):jP agg k (ts.map .t) o=some v:=by
 unfold loadT at af;unfold jP;cases agg with
 |true=>simpa using af
 |false=>simpa[Option.map_map]using af
theorem aad{g:Bool}{k:Nat}(al:pD P ty=some g)(a:eI P ty=some k)(h1:g=false->k=1)(b:off+k<=vs.length):
 (part ty vs.toArray off).run P w= .ok (if g then .agg ((vs.drop off).take k).toArray else((vs.drop off).take k).getD 0 undef) w:=by
 cases g with
 |true=>
  simp only[part,Sem.run_bind,yO al,Result.andThen_ok,bS,j7 a,Sem.run_pure]
  congr 2
  apply Array.ext';simp[Array.toList_extract,List.extract,List.take_drop]
 |false=>
  have:=h1 rfl;subst this;have aB:off<vs.length:=by omega
  simp[part,yO al,eH aB,List.getD,ln]
theorem Z5(R:Rel aC nt φ S env J n a w)(r:o.op= .field ty x f)(y:P.underlying ty=some (.struct fs)){b:Field}(j:fs[f]?=some b)
 {m:Nat}(q:eI P b.type=some m){g:Bool}(al:pD P b.type=some g)(h1:g=false->m=1){c:aP}(B:bK x=some c)
 {p v J'}(C:n key=false)(h:aO (.fld g b.offset m c) env J key=some (p,v,J'))(s:p):Good P aC nt env J' (ins n key) a v ((execOp a.eval o).run P w):=by
 simp only[aO,bp]at h;obtain⟨⟨D,E⟩,k,he⟩:=h;simp only at he;split at he
 . rename_i cs;simp only[bb,bB]at he;obtain⟨v0,z,rfl,rfl,rfl⟩:=he;have e:=cz R B k s;obtain⟨vs,A,d⟩:=e.1.rZ;obtain⟨l,u,i⟩:=SR d (by simpa[V.aA]using e.2) z h1;have t:=aad (P:=P) (w:=w) (vs:=vs) al q h1 (by rw[<-d.length];exact l);exact Good.pure R (by simp[execOp,r,A,Instr.field,underlying,y,j,asAgg,t]) u i
 . cases he
theorem Z6(R:Rel aC nt φ S env J n a w){i:Nat}(k:o.op= .extract x i){c:aP}(q:bK x=some c)
 {p v J'}(r:n key=false)(h:aO (.ext c i) env J key=some (p,v,J'))(l:p):Good P aC nt env J' (ins n key) a v ((execOp a.eval o).run P w):=by
 simp only[aO,bp]at h;obtain⟨⟨s,t⟩,j,he⟩:=h;simp only at he;split at he
 . rename_i vs;simp only[bb,bB]at he;obtain⟨v0,b,rfl,rfl,rfl⟩:=he;have d:=cz R q j l;generalize f:a.eval x=y at d;obtain⟨m,g⟩:=d;cases m with
   |aY _ xs af aa=>
    have aB:i<xs.length:=by rw[<-af];exact(c5.1 b).1
    have e:xs[i]?=some xs[i]:=eH aB;refine Good.pure R (x:=xs[i]) ?_ (aa i _ _ b e) (nC (by simpa[V.aA]using g) b);simp[execOp,k,f,Instr.extract,e]
 . cases he
theorem Ye(R:Rel aC nt φ S env J n a w){x y:Operand}{e:Array TypeId}(j:o.op= .call {callee:= .builtin .max,args:=#[x,y],argTypes:=e}){b c:aP}(l:bK x=some b)(m:bK y=some c)
 {p v J'}(r:n key=false)(h:aO (.max2 b c) env J key=some (p,v,J'))(d:p):Good P aC nt env J' (ins n key) a v ((execOp a.eval o).run P w):=by
 simp only[aO,bp]at h;obtain⟨⟨t,z⟩,g,⟨u,A⟩,i,he⟩:=h;simp only at he;split at he
 . rename_i k p s q;simp only[dC,bF,bB]at he;obtain⟨rfl,rfl,rfl,rfl⟩:=he;have h1:=(cz R l g d.1).1.gn;have f:=(cz R m i d.2).1.gn;refine Good.pure R (x:= .int k (max p q)) ?_ (.mI _ _) rfl;have:(if p<q then q else p)=max p q:=(by omega);simp[execOp,j,resolve,invoke,builtin,Builtin.max_,Builtin.max2,h1,f,Go.resolve,this]
 . cases he
theorem Yf(R:Rel aC nt φ S env J n a w){x y:Operand}{e:Array TypeId}(j:o.op= .call {callee:= .builtin .min,args:=#[x,y],argTypes:=e}){b c:aP}(l:bK x=some b)(m:bK y=some c)
 {p v J'}(r:n key=false)(h:aO (.min2 b c) env J key=some (p,v,J'))(d:p):Good P aC nt env J' (ins n key) a v ((execOp a.eval o).run P w):=by
 simp only[aO,bp]at h;obtain⟨⟨t,z⟩,g,⟨u,A⟩,i,he⟩:=h;simp only at he;split at he
 . rename_i k p s q;simp only[dC,bF,bB]at he;obtain⟨rfl,rfl,rfl,rfl⟩:=he;have h1:=(cz R l g d.1).1.gn;have f:=(cz R m i d.2).1.gn;refine Good.pure R (x:= .int k (min p q)) ?_ (.mI _ _) rfl;have:(if q<p then q else p)=min p q:=(by omega);simp[execOp,j,invoke,builtin,Builtin.min_,Builtin.min2,h1,f,Go.resolve,this]
 . cases he
theorem cf.kl(h:cf w S (.slice es) v):∃(a:Option Addr) (cap sz b o:Nat) (f:Nat->Nat->Value),v= .slice a es.length cap/\es.length<=cap/\es.length<=eG/\(∀e,e∈es->e.length=sz)/\(es≠[]->a=some ⟨b,o,none⟩)/\
 (∀i j:Nat,i<es.length->j<sz->S b (o+i*sz+j)/\w.cell? ⟨b,o+i*sz+j,none⟩=some (f i j))/\(∀(i j:Nat) e t,es[i]?=some e->e[j]?=some t->cf w S t (f i j)):=by
 cases h;exact⟨_,_,_,_,_,_,rfl,by assumption,by assumption,by assumption,by assumption,by assumption,by assumption⟩
theorem bm.gY{b sz len:Nat}(h:bm φ w S (.arr b sz off len) v):∃a,v= .slice a len ((φ b).2-off)/\((φ b).2≠0->a=some ⟨(φ b).1,off*sz,none⟩)/\off+len<=(φ b).2:=h
theorem JP(R:Rel aC nt φ S env J n a w){x:Operand}{ty:TypeId}(g:o.op= .call {callee:= .builtin .len,args:=#[x],argTypes:=#[ty]}){str:Bool}
 (d:if str then P.underlying ty=some .string else ∃e,P.underlying ty=some (.slice e)){i:aP}(q:bK x=some i)
 {p v J'}(r:n key=false)(h:aO (.len str i) env J key=some (p,v,J'))(m:p):Good P aC nt env J' (ins n key) a v ((execOp a.eval o).run P w):=by
 simp only[aO,bp]at h;obtain⟨⟨y,z⟩,k,he⟩:=h;simp only at he;split at he<;>simp only[bF,bB,reduceCtorEq]at he
 all_goals
  obtain⟨rfl,rfl,rfl⟩:=he;have h1:=(cz R q k m).1.dW
 . obtain⟨e,d⟩:=d;obtain⟨f,cap,_,_,_,_,h1,_⟩:=cf.kl h1;exact Good.pure R (by simp[execOp,g,Go.resolve,invoke,builtin,Builtin.len_,underlying,d,h1,goInt]) (.mI _ _) rfl
 . obtain⟨e,d⟩:=d;obtain⟨f,h1,_⟩:=bm.gY h1;exact Good.pure R (by simp[execOp,g,Go.resolve,invoke,builtin,Builtin.len_,underlying,d,h1,goInt]) (.mI _ _) rfl
 . obtain⟨e,d⟩:=d;obtain⟨f,h1⟩:=h1;exact Good.pure R (by simp[execOp,g,Go.resolve,invoke,builtin,Builtin.len_,underlying,d,h1,goInt]) (.mI _ _) rfl
 . obtain⟨e,d⟩:=d;rename_i b l;obtain⟨f,cap,h1⟩:∃f cap,a.eval x= .slice f l cap:=by
    obtain⟨s,t,u⟩:=h1;grind
   exact Good.pure R (by simp[execOp,g,Go.resolve,invoke,builtin,Builtin.len_,underlying,d,h1,goInt]) (.mI _ _) rfl
 . simp only[bS]at d;obtain⟨bs,j,rfl,_⟩:=cm.km (.c h1);exact Good.pure R (x:= .int .i64 bs.size) (by simp[execOp,g,Go.resolve,invoke,builtin,Builtin.len_,underlying,d,j,goInt]) (by rw[qK];exact .mI _ _) rfl
theorem Yg(R:Rel aC nt φ S env J n a w){i:Operand}(L:o.op= .indexAddr ty x i)(O:P.underlying ty=some (.slice e)){sz:Nat}(N:eI P e=some sz)(h0:sz≠0)
 {A z:aP}(Q:bK x=some A)(I:bK i=some z)
 {p v J'}(aa:n key=false)(h:aO (.idxA sz A z) env J key=some (p,v,J'))(M:p):Good P aC nt env J' (ins n key) a v ((execOp a.eval o).run P w):=by
 simp only[aO,bp]at h;obtain⟨⟨af,ah⟩,H,⟨ae,ag⟩,G,he⟩:=h;simp only at he;have B:∀(b off m:Nat),(Addr.add ⟨b,off,none⟩ (m*sz):Addr)=⟨b,off+m*sz,none⟩:=by
  intro b off m;unfold Addr.add;split
  . grind
  . rfl
 split at he
 . rename_i es k m;simp only[bF,bB]at he;obtain⟨rfl,rfl,rfl⟩:=he;obtain⟨u,y,s,d,E⟩:=M;have h1:=(cz R Q H u).1.dW;have l:=(cz R I G y).1.gn;obtain⟨T,cap,g,b,off,f,h1,Z,ad,W,q,D,Y⟩:=cf.kl h1;have U:es≠[]:=by intro h;subst h;simp at d
   have F:es[m.toNat]?=some (el es m.toNat):=by unfold el;rw[List.getD,eH d];rfl
   have X:g=sz:=by rw[<-E];exact(W _ (eM F)).symm
   subst X;rw[q U]at h1;refine Good.pure R (x:= .pointer (some ⟨b,off+m.toNat*g,none⟩)) ?_ ?_ rfl
   . have r:0<=m/\m<(es.length:Int):=⟨s,by omega⟩
     simp[execOp,L,h1,l,Instr.indexAt,asIntOf,underlying,O,r,j7 N,B]
   . refine .c ⟨b,off+m.toNat*g,λj=>f m.toNat j,by simp,λj t ht=>?_⟩;have K:j<g:=by rw[<-E];exact(c5.1 ht).1
     exact⟨(D _ _ d K).1,(D _ _ d K).2,Y _ _ _ _ F ht⟩
 . rename_i b g off len k m;simp only[bF,bB]at he;obtain⟨rfl,rfl,rfl⟩:=he;obtain⟨u,y,s,d,rfl⟩:=M;have al:=cz R Q H u;have h1:=al.1.dW;have l:=(cz R I G y).1.gn;obtain⟨T,h1,q,ab⟩:=bm.gY h1;rw[q (by omega)]at h1;refine Good.pure R (x:= .pointer (some ⟨(φ b).1,off*sz+m.toNat*sz,none⟩)) ?_ (.c ?_) (by simpa[V.aA,C.aA]using al.2)
   . have r:0<=m/\m<(len:Int):=⟨s,by omega⟩
     simp[execOp,L,h1,l,Instr.indexAt,asIntOf,underlying,O,r,j7 N,B]
   . simp[bm,gb]
 . cases he
theorem Yh(R:Rel aC nt φ S env J n a w){i:Operand}(r:o.op= .index ty x i)(z:P.underlying ty=some .string)
 {c b:aP}(A:bK x=some c)(l:bK i=some b)
 {p v J'}(B:n key=false)(h:aO (.idxS c b) env J key=some (p,v,J'))(t:p):Good P aC nt env J' (ins n key) a v ((execOp a.eval o).run P w):=by
 simp only[aO,bp]at h;obtain⟨⟨D,F⟩,j,⟨C,E⟩,g,he⟩:=h;simp only at he;split at he
 . rename_i s k m;simp only[bF,bB]at he;obtain⟨rfl,rfl,rfl⟩:=he;obtain⟨u,y,q,d⟩:=t;obtain⟨bs,h1,rfl,hs⟩:=(cz R A j u).1.km;have e:=(cz R l g y).1.gn;have aB:m.toNat<bs.size:=by rw[<-qK];exact d
   refine Good.pure R (x:= .int .u8 (bs.data.toList.getD m.toNat 0).toNat) ?_ (.mI _ _) rfl;have f:bs[m.toNat]?=some (bs.data.toList.getD m.toNat 0):=by
    rw[getElem?_pos bs m.toNat aB]
    congr 1
    simp only[List.getD,eH d,lo,Array.getElem_toList];rfl
   simp[execOp,r,h1,e,Instr.index,asIntOf,underlying,z,q,f]
 . cases he
theorem Tg:∀{vs:List V} {l:a7} {xs:List Value},aO.r5 vs=some l->a' (cm φ w S) vs xs->V.aA.V.dF n vs=true->
 xs=l.map (λb=>Value.pointer (some ⟨(φ b).1,0,none⟩))/\(l.all λb=>n b)=true
 |[],l,xs,h,c,a=>by simp[aO.r5]at h;subst h;cases c;simp
 |v::vs,l,xs,h,c,a=>by
  cases c with
  |cons f ht=>
   unfold aO.r5 at h;split at h
   . grind
   . rename_i b r e;cases e;simp only[bb]at h;obtain⟨i,g,rfl⟩:=h;simp only[V.aA.V.dF,cd]at a;obtain⟨rfl,d⟩:=Tg g ht a.2;have:=f.hQ;subst this;refine⟨by simp,?_⟩;simp only[oi,d,yl];simpa[V.aA,C.aA]using a.1
   . cases h
theorem XQ(R:Rel aC nt φ S env J n a w){caps:Array Operand}(i:o.op= .makeFunc (.func f) #[] caps){d:List aP}(k:mM caps.toList=some d)
 {p v J'}(m:n key=false)(h:aO (.mkfn f d) env J key=some (p,v,J'))(j:p):Good P aC nt env J' (ins n key) a v ((execOp a.eval o).run P w):=by
 simp only[aO,bp]at h;obtain⟨⟨q,vs⟩,g,he⟩:=h;simp only at he;split at he
 . rename_i l af;simp only[bF,bB]at he;obtain⟨rfl,rfl,rfl⟩:=he;have al:=qG R k g j;obtain⟨h1,e⟩:=Tg af al.1 al.2;refine Good.pure R (x:= .func (.func f) #[] (l.map λb=>Value.pointer (some ⟨(φ b).1,0,none⟩)).toArray) ?_ (.c rfl) (by simpa[V.aA,C.aA]using e);have:caps.map a.eval=(l.map λb=>Value.pointer (some ⟨(φ b).1,0,none⟩)).toArray:=(by grind);simp[execOp,i,Instr.makeFunc,this]
 . cases he
theorem qH(R:Rel aC nt φ S env J n a w){x:Option Operand}{c:Option aP}(b:kh x=some c){m:Option Int}(h:jO env c=some (p,m))(e:p):
 (x.map a.eval=none/\m=none)\/∃k i,x.map a.eval=some (.int k i)/\m=some i:=by
 cases x with
 |none=>simp[kh]at b;subst b;simp[jO]at h;exact .inl ⟨rfl,h.2.symm⟩
 |some x=>
  simp only[kh,bb]at b;obtain⟨g,d,rfl⟩:=b;simp only[jO,bp]at h;obtain⟨⟨q,v⟩,f,he⟩:=h;simp only at he;split at he
  . simp only[bF,bB]at he;obtain⟨rfl,rfl⟩:=he;have:=(cz R d f e).1.gn;exact .inr ⟨_,_,ep some this,rfl⟩
  . cases he
theorem CN {isSlice:Bool}{len cap:Nat}{b a:Option Value}{l h:Option Int}(d:(b=none/\l=none)\/∃k i,b=some (.int k i)/\l=some i)(c:(a=none/\h=none)\/∃k i,a=some (.int k i)/\h=some i)
 (h0:0<=l.getD 0)(h1:l.getD 0<=h.getD len)(e:h.getD len<=len)(f:len<=cap):
 (Instr.sliceBounds isSlice len cap b a none).run P w= .ok ((l.getD 0).toNat,(h.getD len).toNat,cap) w:=by
 have g:h.getD len<=(cap:Int):=by omega
 have ba:0<=h.getD (len:Int):=by omega
 rcases d with⟨rfl,rfl⟩|⟨k,i,rfl,rfl⟩<;>rcases c with⟨rfl,rfl⟩|⟨m,j,rfl,rfl⟩<;>simp_all [Instr.sliceBounds,Instr.sliceBound,asIntOf]
 . omega
theorem XR(R:Rel aC nt φ S env J n a w){i:Option Operand}(y:o.op= .slice ty x j i none)(D:P.underlying ty=some .string)
 {f:aP}{d b:Option aP}(E:bK x=some f)(u:kh j=some d)(t:kh i=some b)
 {p v J'}(G:n key=false)(h:aO (.slcS f d b) env J key=some (p,v,J'))(z:p):Good P aC nt env J' (ins n key) a v ((execOp a.eval o).run P w):=by
 simp only[aO,bp]at h;obtain⟨⟨I,K⟩,r,⟨pl,l⟩,q,⟨H,h⟩,m,he⟩:=h;simp only at he;split at he
 . rename_i s;simp only[bF,bB]at he;obtain⟨rfl,rfl,rfl⟩:=he;obtain⟨A,B,C,h0,h1,g⟩:=z;obtain⟨bs,F,rfl,hs⟩:=(cz R E r A).1.km;have af:=qH R u q B;have aa:=qH R t m C;rw[qK]at h1 g;have k:=CN (P:=P) (w:=w) (isSlice:=false) (cap:=bs.size) af aa h0 h1 g (ef _);rw[qK];have e:(bs.extract (l.getD 0).toNat (h.getD bs.size).toNat).data.toList=(bs.data.toList.take (h.getD bs.size).toNat).drop (l.getD 0).toNat:=(by simp[ByteArray.data_extract,Array.toList_extract,List.extract,List.drop_take]);refine Good.pure R (x:= .string (bs.extract (l.getD 0).toNat (h.getD bs.size).toNat)) ?_ (.c ?_) rfl
   . simp[execOp,y,Instr.sliceAt,Instr.slice,underlying,D,F,k]
   . show cf w S _ _;rw[<-e];refine .str _ ?_;rw[ByteArray.size_extract];omega
 . cases he
theorem Z7(R:Rel aC nt φ S env J n a w){ae y:Option Operand}(W:o.op= .slice ty x ae y none)(Z:P.underlying ty=some (.slice e)){sz:Nat}(Y:eI P e=some sz)
 {M:aP}{k K:Option aP}(ab:bK x=some M)(U:kh ae=some k)(T:kh y=some K)
 {p v J'}(ax:n key=false)(h:aO (.slc sz M k K) env J key=some (p,v,J'))(X:p):Good P aC nt env J' (ins n key) a v ((execOp a.eval o).run P w):=by
 simp only[aO,bp]at h;obtain⟨⟨aE,aF⟩,Q,⟨pl,l⟩,u,⟨aB,h⟩,O,he⟩:=h;simp only at he;split at he
 . rename_i es;simp only[bF,bB]at he;obtain⟨rfl,rfl,rfl⟩:=he;obtain⟨E,F,G,h0,h1,A,ai⟩:=X;obtain⟨g,cap,d,b,off,f,I,ah,az,aA,r,s,ap⟩:=cf.kl (cz R ab Q E).1.dW;have af:=qH R U u F;have aa:=qH R T O G;have B:=CN (P:=P) (w:=w) (isSlice:=true) (cap:=cap) af aa h0 h1 A ah;generalize au:(l.getD 0).toNat=L at*;generalize aq:(h.getD (es.length:Int)).toNat=H at*;have av:L<=H:=(by omega);have ar:H<=es.length:=(by omega);have z:((es.take H).drop L).length=H-L:=by simp;omega
   refine Good.pure R (x:= .slice (if cap=L then g else g.map (·.add (L*sz))) (H-L) (cap-L)) ?_ (.c ?_) rfl
   . simp[execOp,W,Instr.sliceAt,Instr.slice,underlying,Z,I,B,j7 Y]
   . show cf w S _ _;rw[<-z];have aj:∀(i:Nat) e,((es.take H).drop L)[i]?=some e->es[L+i]?=some e/\L+i<H:=(by grind);by_cases D:es=[]
     . subst D;simp;exact cf.slice [] _ _ 0 0 0 (λ_ _=>undef) (by simp) (by simp[eG]) (by simp) (by simp) (by simp) (by simp)
     . have ao:d=sz:=by
        obtain⟨cX,aw⟩:=BB es D;grind
       subst ao;refine cf.slice _ _ _ d b (off+L*d) (λi j=>f (L+i) j) (by rw[z];omega) (by rw[z];omega) (λe he=>ai e (p1 (BJ he))) ?_ ?_ ?_
       . intro aD;have:L<H:=(by grind);rw[bq,r D];simp only[fZ,bF];unfold Addr.add;split
         . rename_i h;simp[h]
         . rfl
       . intro i j y am;rw[z]at y;have:=s (L+i) j (by omega) am;rw[show off+L*d+i*d+j=off+(L+i)*d+j by rw[gb];omega];exact this
       . intro i j e t he ht;exact ap _ _ _ _ (aj i e he).1 ht
 . rename_i b d off len;simp only[bF,bB]at he;obtain⟨rfl,rfl,rfl⟩:=he;obtain⟨E,F,G,h0,h1,A,rfl⟩:=X;have al:=cz R ab Q E;have ag:n b=true:=(by simpa[V.aA,C.aA]using al.2);obtain⟨g,I,r,ay⟩:=bm.gY al.1.dW;have af:=qH R U u F;have aa:=qH R T O G;have B:=CN (P:=P) (w:=w) (isSlice:=true) (cap:=(φ b).2-off) af aa h0 h1 A (by omega);have N:∀(q o m:Nat),(Addr.add ⟨q,o,none⟩ m:Addr)=⟨q,o+m,none⟩:=by
    intro q o m;unfold Addr.add;split
    . grind
    . rfl
   have an:k.isNone=true->l.getD 0=0:=by
    intro aD;cases k with
    |some _=>cases aD
    |none=>simp only[jO,bF,bB]at u;rw[<-u.2];rfl
   generalize l.getD 0=L at*;generalize h.getD (len:Int)=H at*;refine Good.pure R (x:= .slice (if(φ b).2-off=L.toNat then g else g.map (·.add (L.toNat*sz))) (H.toNat-L.toNat) ((φ b).2-off-L.toNat)) ?_ (.c ?_) ?_
   . simp[execOp,W,Instr.sliceAt,Instr.slice,underlying,Z,I,B,j7 Y]
   . by_cases aD:k.isNone=true
     . rw[ad aD];have:=an aD;subst this;refine⟨_,rfl,λs=>?_,by omega⟩;split
       . exact r s
       . rw[r s];simp[N]
     . rw[ak aD];refine⟨_,_,rfl,λs=>?_,by omega⟩;rw[bq,r (by omega)];simp[N,gb]
   . split<;>simpa[V.aA,C.aA]using ag
 . cases he
theorem XS(R:Rel aC nt φ S env J n a w){k z:IntKind}(r:o.op= .slice ty x none (some (.const (.int k 0))) (some (.const (.int z 0))))(u:P.underlying ty=some (.slice e))
 {sz:Nat}(t:eI P e=some sz){m:aP}(y:bK x=some m)
 {p v J'}(A:n key=false)(h:aO (.slc0 m) env J key=some (p,v,J'))(s:p):Good P aC nt env J' (ins n key) a v ((execOp a.eval o).run P w):=by
 simp only[aO,bp]at h;obtain⟨⟨B,D⟩,q,he⟩:=h;simp only at he;have j:∀(g:Option Addr) (l c:Nat),a.eval x= .slice g l c->∃a2,(execOp a.eval o).run P w= .ok (.value (.slice a2 0 0)) w:=by
  intro g l c d;have cX:∀v,a.eval (.const v)=v:=λ_=>rfl;exact⟨_,by simp[execOp,r,Instr.sliceAt,Instr.slice,underlying,u,d,j7 t,Instr.sliceBounds,Instr.sliceBound,asIntOf,cX];rfl⟩
 split at he<;>simp only[bF,bB,reduceCtorEq]at he
 all_goals
  obtain⟨rfl,rfl,rfl⟩:=he;have h1:=(cz R y q s).1.dW
 . obtain⟨g,cap,C,b,off,f,d,_⟩:=cf.kl h1;obtain⟨a2,i⟩:=j _ _ _ d;exact Good.pure R i (.c ⟨a2,rfl⟩) rfl
 . obtain⟨g,d⟩:=h1;obtain⟨a2,i⟩:=j _ _ _ d;exact Good.pure R i (.c ⟨a2,rfl⟩) rfl
 . obtain⟨g,d,_⟩:=bm.gY h1;obtain⟨a2,i⟩:=j _ _ _ d;exact Good.pure R i (.c ⟨a2,rfl⟩) rfl
theorem ju{b:Nat}{a:Nat×Nat}(h:w.heap[b]?=some (.cells vs.toArray E a))(j:Nat):w.cell? ⟨b,j,none⟩=vs[j]?:=by
 simp[World.cell?,h]
theorem s4{g:Bool×Nat}(al:tb P ty=some g){blk off0 o:Nat}{v:V}
 (b:a' (bm φ w S) cs vs)(d:cs.all (C.aA n)=true)(f:∀j,j<vs.length->w.cell? ⟨blk,off0+j,none⟩=vs[j]?)(af:jP g.1 g.2 cs o=some v):
 ∃x,(loadVar ty ⟨blk,off0+o,none⟩).run P w= .ok x w/\cm φ w S v x/\v.aA n=true:=by
 obtain⟨h1,c,a⟩:=JB al;obtain⟨k,l,e⟩:=SR b d af a;rw[b.length]at k;refine⟨_,Yn h1 c (vs:=(vs.drop o).take g.2) ?_ (by simp;omega) a,l,e⟩;intro j i;rw[ln,ad i,ry,<-f (o+j) (by omega),p5]
theorem a'.Rl(h:a' (cf w S) ts xs):a' (bm φ w S) (ts.map .t) xs:=a'.agk h
theorem G6{b sz i:Nat}(h:c1 φ w S b (.arr sz es))(f:i<es.length):
 (φ b).2≠0/\∃(vs:List Value) (E:TypeId) (xs:List Value),w.heap[(φ b).1]?=some (.cells vs.toArray E (0,0))/\vs.length=(φ b).2*sz/\(el es i).length=sz/\xs.length=sz/\a' (cf w S) (el es i) xs/\
  (∀j,j<sz->vs[i*sz+j]?=xs[j]?)/\(i+1)*sz<=vs.length:=by
 obtain⟨h1,o,e,p,ba⟩:=h;have h0:(φ b).2≠0:=by omega
 obtain⟨vs,E,aa,af,m,hs⟩:=ba h0;have c:es[i]?=some (el es i):=by unfold el;rw[List.getD,eH f];rfl
 have k:(el es i).length=sz:=e _ (eM c);have d:(i+1)*sz<=vs.length:=by rw[af];exact eW _ (by omega)
 have q:i*sz+sz<=vs.length:=by rw[gb]at d;omega
 refine⟨h0,vs,E,(vs.drop (i*sz)).take sz,aa,af,k,by simp;omega,?_,?_,d⟩
 . refine a'.lp (by simp;omega) ?_;intro j t x ht a;obtain⟨y,n,l⟩:=m _ _ _ _ c ht;rw[ln]at a;split at a
   . rw[ry,n]at a;cases a;exact l
   . cases a
 . intro j g;rw[ln,ad g,ry]
theorem XT(R:Rel aC nt φ S env J n a w)(W:o.op= .load ty x){g:Bool×Nat}(al:tb P ty=some g){L:aP}(z:bK x=some L)
 {p v J'}(am:n key=false)(h:aO (.load g.1 g.2 L) env J key=some (p,v,J'))(s:p):Good P aC nt env J' (ins n key) a v ((execOp a.eval o).run P w):=by
 simp only[aO,bp]at h;obtain⟨⟨av,aw⟩,r,he⟩:=h;simp only at he;have u:∀(blk off:Nat) (y:Value),a.eval x= .pointer (some ⟨blk,off,none⟩)->(loadVar ty ⟨blk,off,none⟩).run P w= .ok y w->(execOp a.eval o).run P w= .ok (.value y) w:=by
  intro blk off y h1 O;simp[execOp,W,Instr.loadAt,Instr.sureAddr,h1,O]
 split at he
 . rename_i b D;split at he
   . rename_i cs l;simp only[bb,bB]at he;obtain⟨v0,m,rfl,rfl,rfl⟩:=he;have h1:=(cz R z r s).1.hQ;obtain⟨_,vs,E,aa,q,_⟩:=R.bP.blk _ _ l;have A:=(R.dN _ _ l).2;obtain⟨y,d,k,e⟩:=s4 (n:=n) al q A (λj _=>by rw[ju aa,ga]) m;rw[ga]at d;exact Good.pure R (u _ _ _ h1 d) k e
   . rename_i E c l;split at he
     . rename_i U;obtain⟨V,rfl⟩:=U;simp only[bF,bB]at he;obtain⟨rfl,rfl,rfl⟩:=he;have h1:=(cz R z r s).1.hQ;obtain⟨_,⟨G,K,aa,Y,Z⟩,_⟩:=R.bP.blk _ _ l;have A:=(R.dN _ _ l).2;have X:G.oneCell'=true:=by rcases Y with rfl|rfl<;>rfl
       have q:a' (bm φ w S) [.dead,c] [G,K]:= .cons X (.cons Z .nil);obtain⟨y,d,k,e⟩:=s4 (n:=n) (vs:=[G,K]) (blk:=(φ b).1) (off0:=0) (o:=1) (v:= .c c) al q (by simp only[oi,List.all_nil,yl];exact A) (λj _=>by rw[ju (vs:=[G,K]) aa,ga]) (by simp[jP,V]);rw[ga]at d;exact Good.pure R (u _ _ _ h1 d) k e
     . cases he
   . cases he
 . rename_i b sz i D;split at he
   . rename_i ai es l;simp only[bb,bB]at he;obtain⟨v0,m,rfl,rfl,rfl⟩:=he;obtain⟨C,rfl,H⟩:=s;have h1:=(cz R z r C).1.jc;obtain⟨_,vs,E,xs,aa,af,an,ao,q,T,_⟩:=G6 (R.bP.blk _ _ l) H;obtain⟨y,d,k,e⟩:=s4 (n:=n) al (a'.Rl q) (JO n _) (off0:=i*sz) (λj B=>by rw[ju aa,T j (by omega)]) (KT m);exact Good.pure R (u _ _ _ h1 d) k e
   . rename_i ai es ap au c l;split at he
     . cases he
     . rename_i F;have F:g.1=false:=(by simpa using F);obtain⟨⟨a1,a2,a3,a4,a5,ak⟩,⟨vs,E,M,aq,ae,N,ag,ah⟩,ar⟩:=R.bP.blk _ _ l;have A:=(R.dN _ _ l).2;split at he
       . rename_i I;subst I;simp only[bF,bB]at he;obtain⟨rfl,rfl,rfl⟩:=he;obtain⟨C,rfl,rfl⟩:=s;have h1:=(cz R z r C).1.jc
         obtain⟨y,d,k,e⟩:=s4 (n:=n) (vs:=[N]) (blk:=(φ b).1) (off0:=i*sz+D) (o:=0) (v:= .c c) al (.cons ah .nil) (by simpa[bO.aA]using A) (λj B=>by
          have:j=0:=(by simpa using B);subst this
          rw[ju M,l0,ag];rfl) (by simp[jP,F])
         exact Good.pure R (u _ _ _ h1 d) k e
       . rename_i I;simp only[bb,bB]at he;obtain⟨v0,m,rfl,rfl,rfl⟩:=he;obtain⟨C,rfl,H⟩:=s;have h1:=(cz R z r C).1.jc;simp only[loadT,bV,b6,bb]at m;obtain⟨t,ht,rfl⟩:=m;have Q:es[i]?=some (el es i):=by unfold el;rw[List.getD,eH H];rfl
         obtain⟨aj,ad,ab⟩:=ae i D _ t Q ht (λh=>I h.2)
         obtain⟨y,d,k,e⟩:=s4 (n:=n) (φ:=φ) (cs:=[.t t]) (vs:=[aj]) (blk:=(φ b).1) (off0:=i*sz+D) (o:=0) (v:= .c (.t t)) al (.cons ab .nil) rfl (λj B=>by
          have:j=0:=(by simpa using B);subst this
          rw[ju M,l0,ad];rfl) (by simp[jP,F])
         exact Good.pure R (u _ _ _ h1 d) k e
   . cases he
 . rename_i ts D;simp only[bb,bB]at he;obtain⟨v0,m,rfl,rfl,rfl⟩:=he;obtain⟨blk,off,f,h1,aa⟩:=(cz R z r s).1.dW;have q:a' (cf w S) ts ((List.range ts.length).map f):=by
    refine a'.lp (by simp) ?_;grind
   obtain⟨y,d,k,e⟩:=s4 (n:=n) al (a'.Rl q) (JO n _) (blk:=blk) (off0:=off) (λj B=>by simp_all) (KT m);exact Good.pure R (u _ _ _ h1 d) k e
 . cases he
theorem Z8{k:Nat}{s t:T}{b:Bool}(h:Br k s t=some b)(c:xz P ty=some k){x y:Value}(f:cf w S s x)(g:cf w S t y)(d:Nat):
 (Op.equalIn (d+1) ty x y).run P w= .ok b w:=by
 have i:∀a b:aj,(a==b)=decide (a=b):=λa b=>by by_cases h:a=b<;>simp[h]
 unfold xz at c;unfold Br at h;split at h
 . cases h;cases f;cases g;split at c<;>simp at c;rename_i e;unfold Op.equalIn;simp only[Sem.run_bind,run_underlying e,Result.andThen_ok];rfl
 . simp only[dC,bF]at h;obtain⟨rfl,rfl⟩:=h;cases f;cases g;split at c<;>simp at c;rename_i e;unfold Op.equalIn;simp only[Sem.run_bind,run_underlying e,Result.andThen_ok,bS];rfl
 . cases h;cases f with|str s1 h1=>cases g with|str l j=>
   split at c<;>simp at c;rename_i e;unfold Op.equalIn;simp only[Sem.run_bind,run_underlying e,Result.andThen_ok];rw[beq_toListBytes,ByteArray.toList_eq,ByteArray.toList_eq,i];rfl
 . cases h
theorem Z9{k:Nat}(h:xz P ty=some k):pD P ty=some false:=by
 unfold xz at h;unfold pD;grind
theorem Sd{d:Nat}{xs ys:Array Value}:∀{fs:List Field} {i:Nat} {ks:a7} {ps c:List C} {us vs:List Value} {r:Bool},zk P i fs=some ks->sd ks ps c=some r->
 a' (bm φ w S) ps us->a' (bm φ w S) c vs->xs.toList.drop i=us->ys.toList.drop i=vs->(Op.eqFields (d+1) xs ys fs).run P w= .ok r w
 |[],i,ks,ps,c,us,vs,r,a,he,h1,e,aK,g=>by
  simp[zk]at a;subst a;cases ps<;>cases c<;>simp[sd]at he;subst he;rfl
 |f::fs,i,ks,ps,c,us,vs,r,a,he,h1,e,aK,g=>by
  simp only[zk,dC,bp,bb]at a;obtain⟨⟨D,B⟩,k,l,H,A,rfl⟩:=a;unfold sd at he;split at he
  . simp_all
  . rename_i G I x J y K t;cases t;simp only[bp,bb]at he;obtain⟨b,s,L,E,rfl⟩:=he;cases h1 with|cons h1 p=>
    cases e with|cons e q=>
    rename_i u M v N;have n:xs[i]?=some u:=by have:=ep (·[0]?) aK;simp at this;exact this
    have o:ys[i]?=some v:=by have:=ep (·[0]?) g;simp at this;exact this
    have ih:=Sd (d:=d) (xs:=xs) (ys:=ys) A E p q (by rw[<-yk,aK];rfl) (by rw[<-yk,g];rfl);have m:∀(j:Array Value) (z:Value),j[i]?=some z->(part f.type j f.offset).run P w= .ok z w:=by
     intro j z F;simp[part,yO (Z9 l),D,F]
    simp only[Op.eqFields,ad B,Sem.run_bind,m _ _ n,m _ _ o,Result.andThen_ok,Z8 s l h1 e d,Sem.run_ite];cases b
    . simp
    . simp[ih]
  . cases he
theorem Yo(R:Rel aC nt φ S env J n a w){H:TypeId}(D:o.op= .binOp op ty x y H)(l:op= .eql\/op= .neq){ks:a7}(b:Hz P ty=some ks)
 {f g:aP}(F:bK x=some f)(G:bK y=some g)
 {p v J'}(I:n key=false)(h:aO (.eqAgg (op== .neq) ks f g) env J key=some (p,v,J'))(m:p):Good P aC nt env J' (ins n key) a v ((execOp a.eval o).run P w):=by
 simp only[aO,bp]at h;obtain⟨⟨K,N⟩,B,⟨L,O⟩,C,he⟩:=h;simp only at he;split at he
 . rename_i ps M;simp only[bb,bB]at he;obtain⟨r,E,rfl,rfl,rfl⟩:=he;obtain⟨us,c,t⟩:=(cz R F B m.1).1.rZ;obtain⟨vs,e,u⟩:=(cz R G C m.2).1.rZ;unfold Hz at b;split at b
   . rename_i fs k;simp only[dC]at b;obtain⟨⟨hs,al⟩,A⟩:=b;have q:(eqGuard op ty x y (a.eval x) (a.eval y)).run P w= .ok () w:=by rcases l with rfl|rfl<;>simp[eqGuard,c,e,al]
     have j:P.fieldsOf ty=fs:=(by simp[Program.fieldsOf,k]);have i:(Op.equal ty (.agg us.toArray) (.agg vs.toArray)).run P w= .ok r w:=by
      obtain⟨d,z⟩:∃d,Op.maxDepth=d+2:=⟨9998,rfl⟩
      unfold Op.equal;rw[z,run_equalIn_struct w (d+1) ty _ _ (by rw[j];exact k) hs,j];exact Sd A E t u (by simp) (by simp)
     have s:(binOp op ty (a.eval x) (a.eval y)).run P w= .ok (.bool (if(op== .neq)then !r else r)) w:=by
      rcases l with rfl|rfl
      . rw[c,e];simp only[binOp,Sem.run_bind,i];rfl
      . rw[c,e];simp only[binOp,Sem.run_bind,i];rfl
     refine Good.pure R (x:= .bool (if(op== .neq)then !r else r)) ?_ (.r3 _) rfl;simp[execOp,D,q,s]
   . cases b
 . cases he
theorem qB{b:Nat}(h:w'.heap[b]?=w.heap[b]?)(j:Nat):w'.cell? ⟨b,j,none⟩=w.cell? ⟨b,j,none⟩:=by
 simp[World.cell?,h]
theorem lK{b:Nat}{o:Obj}(h:w.heap[b]?=some o):b<w.heap.size:=(yt.1 h).1
theorem c1.ki{b:Nat}{x:bO}(h:c1 φ w S b x)(h0:(φ b).2≠0):(φ b).1<w.heap.size:=by
 cases x with
 |box cs=>obtain⟨_,_,_,aa,_⟩:=h;exact lK aa
 |arr sz es=>obtain⟨_,_,_,_,ba⟩:=h;obtain⟨_,_,aa,_⟩:=ba h0;exact lK aa
 |set ks=>obtain⟨_,⟨_,_,aa,_⟩,_⟩:=h;exact lK aa
 |buf E s=>obtain⟨_,_,ba⟩:=h;obtain⟨⟨_,aa,_⟩,_⟩:=ba h0;exact lK aa
 |b8 E c=>obtain⟨_,⟨_,_,aa,_⟩,_⟩:=h;exact lK aa
 |cA sz es i o c=>obtain⟨_,⟨_,_,aa,_⟩,_⟩:=h;exact lK aa
theorem c1.pX{b:Nat}{x:bO}(h:c1 φ w S b x)(h0:(φ b).2≠0):∀j,¬S (φ b).1 j:=by
 cases x with
 |box cs=>obtain⟨_,_,_,_,_,hs⟩:=h;exact hs
 |arr sz es=>obtain⟨_,_,_,_,ba⟩:=h;obtain⟨_,_,_,_,_,hs⟩:=ba h0;exact hs
 |set ks=>exact h.2.2
 |buf E s=>exact(h.2.2 h0).2
 |b8 E c=>exact h.2.2
 |cA sz es i o c=>exact h.2.2
theorem c1.mono{J:dE}{b:Nat}{x:bO}(m:gq w S w' S)(q:∀b,n b=true->J b=φ b)(u:n b=true)(G:x.aA n=true)(aa:(φ b).2≠0->w'.heap[(φ b).1]?=w.heap[(φ b).1]?)
 (h:c1 φ w S b x):c1 J w' S b x:=by
 cases x with
 |box cs=>
  obtain⟨h0,vs,E,h1,a,f⟩:=h;simp only[c1,q b u];refine⟨h0,vs,E,(aa h0).trans h1,a.imp λc v L z=>bm.mono m q (by simp[bO.aA]at G;exact G c L) z,f⟩
 |arr sz es=>
  obtain⟨h1,a,f,y,ba⟩:=h;simp only[c1,q b u];refine⟨h1,a,f,y,λh0=>?_⟩;obtain⟨vs,E,A,B,D,F⟩:=ba h0;exact⟨vs,E,(aa h0).trans A,B,λi j e t he ht=>let⟨v,H,z⟩:=D i j e t he ht;⟨v,H,cf.mono m z⟩,F⟩
 |set ks=>
  obtain⟨h0,⟨es,c,h1,a⟩,f⟩:=h;simp only[c1,q b u];exact⟨h0,⟨es,c,(aa h0).trans h1,a⟩,f⟩
 |buf E s=>
  obtain⟨h1,a,f⟩:=h;simp only[c1,q b u];refine⟨h1,a,λh0=>?_⟩;obtain⟨⟨vs,A,B,D⟩,F⟩:=f h0;exact⟨⟨vs,(aa h0).trans A,B,D⟩,F⟩
 |b8 E c=>
  obtain⟨h0,⟨p,v,h1,a,f⟩,y⟩:=h;simp only[c1,q b u];exact⟨h0,⟨p,v,(aa h0).trans h1,a,bm.mono m q (by simpa[bO.aA]using G) f⟩,y⟩
 |cA sz es i o c=>
  obtain⟨⟨h1,a,f,y,ba,K⟩,⟨vs,E,A,B,D,v,F,M⟩,N⟩:=h;simp only[c1,q b u];exact⟨⟨h1,a,f,y,ba,K⟩,⟨vs,E,(aa (by omega)).trans A,B,λi j e t he ht aD=>let⟨v,H,z⟩:=D i j e t he ht aD;⟨v,H,cf.mono m z⟩,v,F,bm.mono m q (by simpa[bO.aA]using G) M⟩,N⟩
theorem Rel.world(R:Rel aC nt φ S env J n a w)(W:Nat->Prop)(q:w'.os=w.os)(ht:w'.tape=w.tape)(p:w'.output=w.output)(hs:w.heap.size<=w'.heap.size)
 (f:∀b:Nat,b<w.heap.size->¬W b->w'.heap[b]?=w.heap[b]?)
 (di:∀b,W b->(∀j,¬S b j)/\(∀k y,aW J k=some y->(φ k).2≠0->(φ k).1≠b)/\(aC.B b\/aC.jB.heap.size<=b)):Rel aC nt φ S env J n a w':=by
 have m:gq w S w' S:=⟨λ_ _ h=>h,λb j h=>qB (f b (R.bP.st b j h) (λe=>(di b e).1 j h)) j⟩
 refine⟨⟨λb x c=>?_,R.bP.inj,λb j h=>lT (R.bP.st b j h) hs⟩,λk g v af al=>?_,R.hI,R.gE,R.dN,R.size,R.defers,?_,R.own,R.fix,R.fQ⟩
 . have o:=R.bP.blk b x c;exact c1.mono m (λ_ _=>rfl) (R.dN b x c).1 (R.dN b x c).2 (λh0=>f _ (o.ki h0) (λe=>(di _ e).2.1 b x c h0 rfl)) o
 . obtain⟨x,c,t⟩:=R.gF k g v af al;exact⟨x,c,cm.mono m (λ_ _=>rfl) (R.gE k g v af al) t⟩
 . refine⟨q.trans R.ext.os,ht.trans R.ext.tape,p.trans R.ext.output,h9 R.ext.size hs,λb aB dm=>?_,R.ext.mono.trans m,R.ext.rF⟩;rw[f b (lT aB R.ext.size) (λe=>?_)]
   . exact R.ext.block b aB dm
   . rcases (di b e).2.2 with h|h
     . exact dm h
     . omega
theorem Rel.congr(R:Rel aC nt φ S env J n a w)(h:∀b,aW J' b=aW J b):Rel aC nt φ S env J' n a w:=
 ⟨⟨λb x c=>R.bP.blk b x (h b▸c),λb e x y c f=>R.bP.inj b e x y (h b▸c) (h e▸f),R.bP.st⟩,R.gF,R.hI,R.gE,λb x c=>R.dN b x (h b▸c),R.size,R.defers,R.ext,λb x c=>R.own b x (h b▸c),R.fix,R.fQ⟩
theorem Rel.sub(R:Rel aC nt φ S env J n a w)(h:∀b x,aW J' b=some x->aW J b=some x):Rel aC nt φ S env J' n a w:=
 ⟨⟨λb x c=>R.bP.blk b x (h b x c),λb e x y c f=>R.bP.inj b e x y (h b x c) (h e y f),R.bP.st⟩,R.gF,R.hI,R.gE,λb x c=>R.dN b x (h b x c),R.size,R.defers,R.ext,λb x c=>R.own b x (h b x c),R.fix,R.fQ⟩
theorem Rel.del(R:Rel aC nt φ S env J n a w)(b:Nat):Rel aC nt φ S env (ib J b) n a w:=
 R.sub λk x c=>by rw[fN]at c;split at c<;>simp_all
theorem Rel.zf(R:Rel aC nt φ S env J n a w){p:dE}(e:∀b,n b=true->p b=φ b):Rel aC nt p S env J n a w:=by
 refine⟨⟨λb x c=>?_,λb f x y c o=>?_,R.bP.st⟩,λk g v af al=>?_,R.hI,R.gE,R.dN,R.size,R.defers,R.ext,λb x c h0=>?_,λb j=>(e b (R.fQ b j)).trans (R.fix b j),R.fQ⟩
 . exact c1.mono (gq.refl w S) e (R.dN b x c).1 (R.dN b x c).2 (λ_=>rfl) (R.bP.blk b x c)
 . rw[e b (R.dN b x c).1,e f (R.dN f y o).1];exact R.bP.inj b f x y c o
 . obtain⟨x,c,q⟩:=R.gF k g v af al;exact⟨x,c,cm.mono (gq.refl w S) e (R.gE k g v af al) q⟩
 . rw[e b (R.dN b x c).1]at h0⊢;exact R.own b x c h0
theorem Rel.put (R:Rel aC nt φ S env J n a w){b:Nat}{x:bO}(v:n b=true)(z:x.aA n=true)(u:c1 φ w S b x)
 (p:(φ b).2≠0->(∀k y,aW J k=some y->k≠b->(φ k).2≠0->(φ k).1≠(φ b).1)/\(aC.B (φ b).1\/aC.jB.heap.size<=(φ b).1)):Rel aC nt φ S env (da J b x) n a w:=by
 refine⟨⟨λk y c=>?_,λk q y t c f j h0 o=>?_,R.bP.st⟩,R.gF,R.hI,R.gE,λk y c=>?_,R.size,R.defers,R.ext,λk y c h0=>?_,R.fix,R.fQ⟩
 . rw[cV]at c;split at c
   . rename_i e;cases c;subst e;exact u
   . exact R.bP.blk k y c
 . rw[cV]at c f;split at c
   . rename_i e;subst e;rw[ak j]at f;exactλe=>(p h0).1 q t f (dJ j) o e.symm
   . split at f
     . rename_i e;subst e;exact(p o).1 k y c j h0
     . exact R.bP.inj k q y t c f j h0 o
 . rw[cV]at c;split at c
   . rename_i e;cases c;subst e;exact⟨v,z⟩
   . exact R.dN k y c
 . rw[cV]at c;split at c
   . rename_i e;subst e;exact(p h0).2
   . exact R.own k y c h0
def fF(φ:dE)(n:Nat)(q:Nat×Nat):dE:=λb=>if b=n then q else φ b
theorem HZ{b:Nat}(a:n key=false)(h:n b=true):fF φ key q b=φ b:=by simp only[fF];rw[ak];intro e;subst e;rw[a]at h;cases h
theorem dA{k:Nat}:fF φ k q k=q:=by simp[fF]
theorem Rel.jQ (R:Rel aC nt φ S env J n a w)(e:n key=false){x:bO}(q:Nat×Nat)(o:x.aA n=true)(j:c1 (fF φ key q) w S key x)
 (c:q.2≠0->(∀k y,aW J k=some y->(φ k).2≠0->(φ k).1≠q.1)/\(aC.B q.1\/aC.jB.heap.size<=q.1)):Rel aC nt (fF φ key q) S env (da J key x) (ins n key) a w:=by
 refine((R.zf (λb h=>HZ e h)).more (λ_ h=>kJ h)).put aaJ (bO.hh (λ_ h=>kJ h) o) j ?_;rw[dA];intro h0;refine⟨λk y f p h=>?_,(c h0).2⟩;rw[HZ e (R.dN k y f).1]at h⊢;exact(c h0).1 k y f h
theorem BU{o:Obj}{b:Nat}(h:b<w.heap.size):(w.alloc o).heap[b]?=w.heap[b]?:=by
 show(w.heap.push o)[b]?=_;grind
theorem pL{o:Obj}:(w.alloc o).heap[w.heap.size]?=some o:=by
 show(w.heap.push o)[w.heap.size]?=_;grind
theorem Rel.alloc(R:Rel aC nt φ S env J n a w)(o:Obj):Rel aC nt φ S env J n a (w.alloc o):=
 R.world (λ_=>False) rfl rfl rfl (by simp) (λb c _=>BU c) (λ_ h=>h.elim)
theorem Rel.xB(R:Rel aC nt φ S env J n a w)(o:Obj):gq w S (w.alloc o) S:=
 ⟨λ_ _ h=>h,λb j h=>qB (BU (R.bP.st b j h)) j⟩
theorem Rel.Q1(R:Rel aC nt φ S env J n a w)(f:n key=false)(o:a' (bm φ w S) cs vs)(e:cs.all (C.aA n)=true)(E:TypeId):
 Rel aC nt (fF φ key (w.heap.size,1)) S env (da J key (.box cs)) (ins n key) a (w.alloc (.cells vs.toArray E)):=by
 have m:=R.xB (.cells vs.toArray E);refine(R.alloc _).jQ f (w.heap.size,1) e ?_ ?_
 . simp only[c1,dA];refine⟨by simp,vs,E,pL,o.imp λc v p q=>bm.mono m (λb h=>HZ f h) (by simp only[cY]at e;exact e c p) q,λj h=>?_⟩;have:=R.bP.st _ _ h;simp at this
 . intro _;refine⟨λk y t h0=>?_,.inr R.ext.size⟩;have:=(R.bP.blk k y t).ki h0;simp;omega
theorem u1(h:kU P ty=some cs):∃i z,P.info? ty=some i/\i.zero=some z/\a' (bm φ w S) cs z.cells.toList/\cs.all (C.aA n)=true:=by
 simp only[kU,bp]at h;obtain⟨i,b,z,c,a⟩:=h;have:=G3 (φ:=φ) (w:=w) (S:=S) (n:=n) a;grind
theorem SS(R:Rel aC nt φ S env J n a w)(j:o.op= .alloc ty)(b:kU P ty=some cs)
 {p v J'}(g:n key=false)(h:aO (.alloc cs) env J key=some (p,v,J'))(k:p):Good P aC nt env J' (ins n key) a v ((execOp a.eval o).run P w):=by
 simp only[aO,bF,bB]at h;obtain⟨rfl,rfl,rfl⟩:=h;obtain⟨i,z,f,b,d,e⟩:=u1 (φ:=φ) (w:=w) (S:=S) (n:=n) b;have R':=R.Q1 g d e ty;refine⟨.pointer (some ⟨w.heap.size,0,none⟩),_,S,_,.inl ?_,.c ?_,by simp[V.aA,C.aA,ins],R'⟩
 . simp[execOp,j,Instr.alloc,zeroValue,typeInfo,f,b,newVar,newRow]
 . simp[bm,dA]
theorem Z'(R:Rel aC nt φ S env J n a w)(j:o.op= .box ty x){b:aP}(l:bK x=some b)
 {p v J'}(i:n key=false)(h:aO (.box b) env J key=some (p,v,J'))(k:p):Good P aC nt env J' (ins n key) a v ((execOp a.eval o).run P w):=by
 simp only[aO,bp,bb,bB]at h;obtain⟨⟨m,q⟩,g,cs,f,rfl,rfl,rfl⟩:=h;have al:=cz R l g k;obtain⟨d,e⟩:=nw al.1 f al.2;have R':=R.Q1 i d e ty;refine⟨.pointer (some ⟨w.heap.size,0,none⟩),_,S,_,.inl ?_,.c ?_,by simp[V.aA,C.aA,ins],R'⟩
 . simp[execOp,j,Instr.box,newVar,newRow]
 . simp[bm,dA]
def iu{α:Type}(vs:List α)(off:Nat)(xs:List α):List α:=vs.take off++xs++vs.drop (off+xs.length)
theorem my{vs:List α}{xs:List α}(h:off+xs.length<=vs.length)(k:Nat):
 (iu vs off xs)[k]?=if k<off then vs[k]? else if k<off+xs.length then xs[k-off]? else vs[k]?:=by
 unfold iu;rw[hp];by_cases h1:k<off
 . rw[ad h1,n' (by simp;omega),ln,ad h1]
 . rw[ak h1,p0 (by simp;omega)];have e:(vs.take off).length=off:=by simp;omega
   rw[e];by_cases a:k<off+xs.length
   . rw[ad a,n' (by omega)]
   . rw[ak a,p0 (by omega),ry]
     congr 1;omega
theorem pQ{vs:List α}{xs:List α}(h:off+xs.length<=vs.length:=by simp;omega):(iu vs off xs).length=vs.length:=by
 simp[iu];omega
theorem JC{vs:List α}{x:α}{xs:List α}(h:off+(x::xs).length<=vs.length):iu (vs.set off x) (off+1) xs=iu vs off (x::xs):=by
 apply yh;intro k;simp at h;rw[my (by simp;omega),my (by simp;omega)];grind
theorem Th{b:Nat}(h:w.heap[b]?=some (.cells vs.toArray E (0,0)))(off:Nat)(v:Value):
 (w.setCell ⟨b,off,none⟩ v).heap[b]?=some (.cells (vs.set off v).toArray E (0,0))/\∀a,a≠b->(w.setCell ⟨b,off,none⟩ v).heap[a]?=w.heap[a]?:=by
 constructor
 . simp[World.setCell,BG,h]
 . intro a c;simp[World.setCell,BG,dJ c]
theorem nu{b:Nat}{E:TypeId}:∀(xs:List Value) (off i:Nat) (vs:List Value) (w:World),w.heap[b]?=some (.cells vs.toArray E (0,0))->off+i+xs.length<=vs.length->(∀x,x∈xs->x.oneCell'=true)->
 ∃w',(storeCells ⟨b,off,none⟩ xs i).run P w= .ok () w'/\w'.os=w.os/\w'.tape=w.tape/\w'.output=w.output/\w'.heap.size=w.heap.size/\
  w'.heap[b]?=some (.cells (iu vs (off+i) xs).toArray E (0,0))/\∀a:Nat,a≠b->w'.heap[a]?=w.heap[a]?
 |[],off,i,vs,w,h,af,c=>⟨w,rfl,rfl,rfl,rfl,rfl,by simp[iu,h],λ_ _=>rfl⟩
 |x::xs,off,i,vs,w,h,af,c=>by
  have l:Addr.add ⟨b,off,none⟩ i=⟨b,off+i,none⟩:=by unfold Addr.add;split<;>simp_all
  have aB:off+i<vs.length:=by simp at af;omega
  have m:w.cell? ⟨b,off+i,none⟩=some vs[off+i]:=by rw[ju h];exact eH aB
  have n:w.frozen? ⟨b,off+i,none⟩=false:=by simp[World.frozen?,h]
  have hs:=Th h (off+i) x;obtain⟨w',h1,e,f,g,ba,j,k⟩:=nu xs off (i+1) (vs.set (off+i) x) (w.setCell ⟨b,off+i,none⟩ x) hs.1 (by simp at af⊢;omega) (λy o=>c y (by simp[o]));refine⟨w',?_,e,f,g,by rw[ba];simp,?_,λa d=>(k a d).trans (hs.2 a d)⟩
  . simp only[storeCells,Sem.run_bind,l,run_store P w _ x _ (c x (by simp)),m,n];simp_all
  . rw[j,<-JC (by simp at af⊢;omega)]
    congr 3
theorem a'.fill{a:Type}{R:α->a->Prop}{cs ds:List α}{vs xs:List a}(h:a' R cs vs)(k:a' R ds xs)(o:Nat):a' R (cs.take o++ds++cs.drop (o+ds.length)) (iu vs o xs):=by
 unfold iu;rw[k.length];exact((h.take o).append k).append (h.drop _)
theorem IF(h:a' (bm φ w S) cs xs):∀x,x∈xs->x.oneCell'=true:=by
 induction h with
 |nil=>simp
 |cons h _ ih=>
  intro x a;rcases fe.1 a with rfl|a
  . exact bm.jh h
  grind
theorem cm.undef:cm φ w S (.aY []) undef:= .aY [] [] rfl (by simp)
theorem tC:∀{cs:List C} {ts:List T} {xs:List Value},toTs cs=some ts->a' (bm φ w S) cs xs->a' (cf w S) ts xs
 |[],ts,xs,h,b=>by simp[toTs]at h;subst h;cases b;exact .nil
 |c::cs,ts,xs,h,b=>by
  simp only[toTs,bp,bb]at h;obtain⟨t,ht,f,e,rfl⟩:=h;cases b with
  |cons h1 d=>
   refine .cons ?_ (tC e d);unfold toT at ht;split at ht<;>simp at ht
   . subst ht;exact h1
   . subst ht;obtain⟨a,rfl⟩:=h1;exact cf.slice [] a 0 0 0 0 (λ_ _=>undef) (by simp) (by simp) (by simp) (by simp) (by simp) (by simp)
theorem zg:∀{cs:List C} {ts:List T},toTs cs=some ts->ts.length=cs.length
 |[],ts,h=>by simp[toTs]at h;subst h;rfl
 |c::cs,ts,h=>by
  simp only[toTs,bp,bb]at h;obtain⟨t,ht,b,a,rfl⟩:=h;simp[zg a]
theorem G7{n:Nat->Bool}{cs ds:List C}(h:cs.all (C.aA n)=true)(k:ds.all (C.aA n)=true)(o:Nat):(oN cs o ds).all (C.aA n)=true:=by
 simp only[cY]at h k⊢;intro x a;simp only[oN,f']at a;grind
theorem ve{vs:List α}{p:Nat}{x:α}(h:p<vs.length)(q:Nat):(iu vs (p+0) [x])[q]?=if q=p then some x else vs[q]?:=by
 rw[l0,my (by simp;omega)];by_cases a:q=p
 . subst a;simp
 . rw[ak a];by_cases b:q<p
   . rw[ad b]
   . rw[ak b,cl]
theorem zR{sz i j a b:Nat}(d:j<sz)(e:b<sz)(h:i*sz+j=a*sz+b):i=a/\j=b:=by
 rcases Fl i a with c|c|c
 . have:=eW sz (show i+1<=a from c);rw[gb]at this;omega
 . subst c;exact⟨rfl,by omega⟩
 . have:=eW sz (show a+1<=i from c);rw[gb]at this;omega
theorem Rel.rewrite(R:Rel aC nt φ S env J n a w){b:Nat}{x p:bO}(o:aW J b=some x)(h0:(φ b).2≠0)(F:p.aA n=true)
 (E:w'.os=w.os)(ht:w'.tape=w.tape)(D:w'.output=w.output)(hs:w'.heap.size=w.heap.size)(u:∀q:Nat,q≠(φ b).1->w'.heap[q]?=w.heap[q]?)
 (B:gq w S w' S->c1 φ w' S b p):Rel aC nt φ S env (da J b p) n a w':=by
 have v:=R.bP.blk b x o
 have z:=(R.del b).world (w':=w') (λk=>k=(φ b).1) E ht D (wk hs.symm) (λk _ f=>u k f) (λk f=>by
  subst f;refine⟨v.pX h0,λk y c f=>?_,R.own b x o h0⟩;rw[fN]at c;split at c
  . cases c
  . rename_i t
    exactλe=>R.bP.inj k b y x c o (dJ t) f h0 e)
 have m:gq w S w' S:=⟨λ_ _ h=>h,λk j h=>qB (u k (λe=>v.pX h0 j (e▸h))) j⟩
 have A:=z.put (b:=b) (x:=p) (R.dN b x o).1 F (B m) (λ_=>⟨λk y c t f=>by
  rw[fN]at c;split at c
  . cases c
  . exact R.bP.inj k b y x c o t f h0,R.own b x o h0⟩)
 refine A.congr λk=>?_;rw[cV,cV,fN];split<;>rfl
theorem Yp(R:Rel aC nt φ S env J n a w)(be:o.op= .store ty x y){k:Nat}(bc:eI P ty=some k){aK aL:aP}(u:bK x=some aK)(am:bK y=some aL)
 {p v J'}(br:n key=false)(h:aO (.store k aK aL) env J key=some (p,v,J'))(Q:p):Good P aC nt env J' (ins n key) a v ((execOp a.eval o).run P w):=by
 simp only [aO,bp,dC] at h;obtain ⟨⟨bx,bA⟩,ag,⟨bz,bC⟩,ah,cs,V,aj,he⟩:= h;simp only at he V;have al:∀ (blk off:Nat) (xs:List Value) (w':World),a.eval x = .pointer (some ⟨blk,off,none⟩)->(a.eval y).cells.toList = xs->xs.length = k->(storeCells ⟨blk,off,none⟩ xs 0).run P w = .ok () w'->
  (execOp a.eval o).run P w= .ok .skip w':=by
  intro blk off xs w' h1 au a0 a6;have ba:(a.eval y).cells.size=k:=by rw[<-a0,<-au];simp
  simp[execOp,be,Instr.storeAt,Instr.sureAddr,h1,storeVar,j7 bc,ba,au,a6]
 split at he
 . rename_i b f;split at he
   . rename_i ds l;simp only[dC,bF,bB]at he;obtain⟨av,rfl,rfl,rfl⟩:=he;have h1:=(cz R u ag Q.1).1.hQ;have q:=cz R am ah Q.2;obtain⟨g,I⟩:=nw q.1 V q.2;obtain⟨h0,vs,E,aa,aR,Z⟩:=R.bP.blk _ _ l;have bu:=aR.length;have K:(a.eval y).cells.toList.length=k:=by rw[<-g.length,aj]
     obtain⟨w',d,B,D,F,G,z,H⟩:=nu (P:=P) _ f 0 vs w aa (by omega) (IF g);refine⟨undef,φ,S,w',.inr ⟨al _ _ _ w' h1 rfl K d,rfl⟩,.undef,rfl,Rel.more ?_ λ_ h=>kJ h⟩;refine R.rewrite l h0 (by simpa[bO.aA]using G7 ((R.dN _ _ l).2) I f) B D F G H (λm=>?_);refine⟨h0,_,E,z,?_,Z⟩;rw[l0];exact(aR.imp λc v aE d=>bm.mono m (λ_ _=>rfl) (cY.1 (R.dN _ _ l).2 c aE) d).fill (g.imp λc v aE d=>bm.mono m (λ_ _=>rfl) (cY.1 I c aE) d) f
   . rename_i E aN l;split at he
     . rename_i c;simp only[bF,bB]at he;obtain⟨rfl,rfl,rfl⟩:=he;have h1:=(cz R u ag Q.1).1.hQ;have q:=cz R am ah Q.2;obtain⟨g,I⟩:=nw q.1 V q.2;obtain⟨h0,⟨aW,bo,aa,bf,bs⟩,Z⟩:=R.bP.blk _ _ l;have K:(a.eval y).cells.toList.length=k:=by rw[<-g.length,aj]
       have ai:k=1:=by rw[<-aj];rfl
       obtain⟨s,U⟩:∃s,(a.eval y).cells.toList=[s]:=by
        match h:(a.eval y).cells.toList with
        |[s]=>exact⟨s,rfl⟩
        |[]=>rw[h]at K;simp at K;omega
        |_::_::_=>rw[h]at K;simp at K;omega
       obtain⟨w',d,B,D,F,G,z,H⟩:=nu (P:=P) (a.eval y).cells.toList 1 0 [aW,bo] w (b:=(φ b).1) (E:=E) aa (by rw[U];simp) (IF g);rw[U]at g z;cases g with|cons aF _=>
       have M:c.aA n=true:=(by simpa using I);refine⟨undef,φ,S,w',.inr ⟨al _ _ _ w' h1 rfl K d,rfl⟩,.undef,rfl,Rel.more ?_ λ_ h=>kJ h⟩;refine R.rewrite l h0 (by simpa[bO.aA]using M) B D F G H (λm=>?_);exact⟨h0,⟨aW,s,z,bf,bm.mono m (λ_ _=>rfl) M aF⟩,Z⟩
     . cases he
   . cases he
 . rename_i b sz i f;have aJ:∀{c:C} {xs:List Value},a' (bm φ w S) [c] xs->∃x,xs=[x]/\bm φ w S c x:=by
    intro c xs h;cases h with|cons h1 au=>cases au;exact⟨_,rfl,h1⟩
   split at he
   . rename_i bk es l;split at he
     . rename_i c aw;have aF:cs=[c]:=by
        unfold yI at aw;split at aw<;>cases aw;rfl
       subst aF;simp only[bF,bB]at he;obtain⟨rfl,rfl,rfl⟩:=he;obtain⟨ab,ae,rfl,N,aU⟩:=Q;have h1:=(cz R u ag ab).1.jc;have q:=cz R am ah ae;obtain⟨g,I⟩:=nw q.1 V q.2;have ai:k=1:=by rw[<-aj];rfl
       obtain⟨s,U,T⟩:=aJ g;have ap:=R.bP.blk _ _ l;obtain⟨h0,vs,E,xs,aa,af,a8,K,aD,aG,av⟩:=G6 ap N;obtain⟨ay,az,ao,aA,aB⟩:=ap;obtain⟨bn,aX,aq,bd,aI,Z⟩:=aB h0;rw[aa]at aq;cases aq;rw[gb]at av;have O:i*sz+f<vs.length:=(by omega);obtain⟨w',d,B,D,F,G,z,H⟩:=nu (P:=P) [s] (i*sz+f) 0 vs w aa (by simp;omega) (λx u=>by rw[we.1 u];exact bm.jh T);refine⟨undef,φ,S,w',.inr ⟨al _ _ _ w' h1 U (by simp[ai]) d,rfl⟩,.undef,rfl,Rel.more ?_ λ_ h=>kJ h⟩;have M:c.aA n=true:=(by simpa using I);refine R.rewrite l h0 (by simpa[bO.aA]using M) B D F G H (λm=>?_);refine⟨⟨ay,az,ao,aA,N,by omega⟩,⟨_,E,z,by rw[pQ];exact af,λL j e t he ht Y=>?_,s,?_,bm.mono m (λ_ _=>rfl) M T⟩,Z⟩
       . obtain⟨v,r,d⟩:=aI _ _ _ _ he ht;have A:j<sz:=by rw[<-ao _ (eM he)];exact(c5.1 ht).1
         rw[ve O,ak (λe=>Y (zR A (by omega) e))];exact⟨v,r,cf.mono m d⟩
       . rw[ve O,ad rfl]
     rename_i aw;simp only[bp,bF,bB]at he;obtain⟨ts,aV,rfl,rfl,rfl⟩:=he;obtain⟨ab,ae,rfl,N,aU⟩:=Q;have h1:=(cz R u ag ab).1.jc;have q:=cz R am ah ae;obtain⟨g,I⟩:=nw q.1 V q.2;have bh:=tC aV g;have bt:=zg aV;have ap:=R.bP.blk _ _ l;obtain⟨h0,vs,E,xs,aa,af,a8,K,aD,aG,av⟩:=G6 ap N;obtain⟨ay,az,ao,aA,aB⟩:=ap;obtain⟨bn,aX,aq,bd,aI,Z⟩:=aB h0;rw[aa]at aq;cases aq;rw[gb]at av;have bj:(a.eval y).cells.toList.length=k:=by rw[<-g.length,aj]
     obtain⟨w',d,B,D,F,G,z,H⟩:=nu (P:=P) _ (i*sz+f) 0 vs w aa (by omega) (IF g);have bg:(storeCells ⟨(φ b).1,i*sz+f,none⟩ (a.eval y).cells.toList 0).run P w= .ok () w':=d;refine⟨undef,φ,S,w',.inr ⟨al _ _ _ w' h1 rfl bj bg,rfl⟩,.undef,rfl,Rel.more ?_ λ_ h=>kJ h⟩;refine R.rewrite l h0 rfl B D F G H (λm=>?_);refine⟨by simpa using ay,by simpa using az,?_,aA,λ_=>⟨_,E,z,by rw[pQ (by omega)];exact af,?_,Z⟩⟩
     . intro e he;rcases tO he with he|rfl
       . exact ao e he
       . simp;omega
     . intro L j e t he ht;rw[l0,my (by omega)];rw[BM]at he;by_cases X:i=L
       . subst X;rw[ad rfl,ad N]at he;cases he;have bb:=(c5.1 ht).1;simp at bb;have A:j<sz:=(by omega);have W:=(my (vs:=el es i) (off:=f) (xs:=ts) (by omega) j)
         unfold iu at W;rw[show f+ts.length=f+k by omega]at W;rw[W]at ht;by_cases an:j<f
         . rw[ad an]at ht;rw[fu,aG j A];obtain⟨v,r,d⟩:=aD.get ht;exact⟨v,r,cf.mono m d⟩
         . rw[ak an]at ht;rw[bq];by_cases ax:j<f+k
           . rw[fu]at ht;rw[fu,show i*sz+j-(i*sz+f)=j-f by omega];obtain⟨v,r,d⟩:=bh.get ht;exact⟨v,r,cf.mono m d⟩
           . rw[bq]at ht;rw[bq,aG j A];obtain⟨v,r,d⟩:=aD.get ht;exact⟨v,r,cf.mono m d⟩
       . rw[ak X]at he;obtain⟨v,r,d⟩:=aI _ _ _ _ he ht;have A:j<sz:=by rw[<-ao _ (eM he)];exact(c5.1 ht).1
         have:L*sz+j<i*sz+f\/i*sz+f+k<=L*sz+j:=by
          rcases Nat.lt_or_gt_of_ne X with h|h
          . right;have:=eW sz (show i+1<=L from h);grind
          . left;have:=eW sz (show L+1<=i from h);grind
         rcases this with h|h
         . rw[ad h];exact⟨v,r,cf.mono m d⟩
         . rw[bq,bq];exact⟨v,r,cf.mono m d⟩
   . rename_i bk es bv bw aN l;obtain⟨⟨a1,a2,a3,a4,a5,ar⟩,⟨vs,E,b1,b2,b3,aZ,b4,aY⟩,aM⟩:=R.bP.blk _ _ l;have aQ:aN.aA n=true:=(by simpa[bO.aA]using(R.dN _ _ l).2);have h0:(φ b).2≠0:=(by omega);split at he
     . rename_i c;have ai:k=1:=by rw[<-aj];rfl
       split at he
       . rename_i aH;subst aH;simp only[bF,bB]at he;obtain⟨rfl,rfl,rfl⟩:=he;obtain⟨ab,ae,rfl,rfl⟩:=Q;have h1:=(cz R u ag ab).1.jc;have q:=cz R am ah ae;obtain⟨g,I⟩:=nw q.1 V q.2;obtain⟨s,U,T⟩:=aJ g;have O:i*sz+f<vs.length:=by
          rw[b2];have:=eW sz (show i+1<=(φ b).2 by omega);rw[gb]at this;omega
         obtain⟨w',d,B,D,F,G,z,H⟩:=nu (P:=P) [s] (i*sz+f) 0 vs w b1 (by simp;omega) (λx u=>by rw[we.1 u];exact bm.jh T);refine⟨undef,φ,S,w',.inr ⟨al _ _ _ w' h1 U (by simp[ai]) d,rfl⟩,.undef,rfl,Rel.more ?_ λ_ h=>kJ h⟩;have M:c.aA n=true:=(by simpa using I);refine R.rewrite l h0 (by simpa[bO.aA]using M) B D F G H (λm=>?_);refine⟨⟨a1,a2,a3,a4,a5,ar⟩,⟨_,E,z,by rw[pQ];exact b2,λL j e t he ht Y=>?_,s,?_,bm.mono m (λ_ _=>rfl) M T⟩,aM⟩
         . obtain⟨v,r,d⟩:=b3 _ _ _ _ he ht Y;have A:j<sz:=by rw[<-a3 _ (eM he)];exact(c5.1 ht).1
           rw[ve O,ak (λe=>Y (zR A ar e))];exact⟨v,r,cf.mono m d⟩
         . rw[ve O,ad rfl]
       . rename_i aH;simp only[bp,bF,bB]at he;obtain⟨t,a7,rfl,rfl,rfl⟩:=he;obtain⟨ab,ae,rfl,N,aU⟩:=Q;have h1:=(cz R u ag ab).1.jc;have q:=cz R am ah ae;obtain⟨g,I⟩:=nw q.1 V q.2;obtain⟨s,U,T⟩:=aJ g;have bi:cf w S t s:=by
          have h1:=tC (cs:=[c]) (ts:=[t]) (xs:=[s]) (by simp[toTs,a7]) (.cons T .nil);cases h1 with|cons h _=>exact h
         have O:i*sz+f<vs.length:=by
          rw[b2];have:=eW sz (show i+1<=(φ b).2 by omega);rw[gb]at this;omega
         obtain⟨w',d,B,D,F,G,z,H⟩:=nu (P:=P) [s] (i*sz+f) 0 vs w b1 (by simp;omega) (λx u=>by rw[we.1 u];exact bm.jh T);refine⟨undef,φ,S,w',.inr ⟨al _ _ _ w' h1 U (by simp[ai]) d,rfl⟩,.undef,rfl,Rel.more ?_ λ_ h=>kJ h⟩;refine R.rewrite l h0 (by simpa[bO.aA]using aQ) B D F G H (λm=>?_);have aS:es[i]?=some (el es i):=by unfold el;rw[List.getD,eH N];rfl
         have a9:(el es i).length=sz:=a3 _ (eM aS);refine⟨⟨by simpa using a1,by simpa using a2,λe he=>?_,a4,by simpa using a5,ar⟩,⟨_,E,z,by rw[pQ];exact b2,λL j e bl he ht Y=>?_,aZ,?_,bm.mono m (λ_ _=>rfl) aQ aY⟩,aM⟩
         . rcases tO he with he|rfl
           . exact a3 e he
           . simp;omega
         . rw[ve O];rw[BM]at he;by_cases X:i=L
           . subst X;rw[ad rfl,ad N]at he;cases he;have W:=(my (vs:=el es i) (off:=f) (xs:=[t]) (by simp;omega) j)
             unfold iu at W;rw[show f+[t].length=f+k by simp[ai]]at W;rw[W]at ht;by_cases an:j=f
             . subst an;rw[bq,fu,BO]at ht;cases ht;rw[ad rfl];exact⟨s,rfl,cf.mono m bi⟩
             . have aT:(el es i)[j]?=some bl:=by
                by_cases ax:j<f
                . rwa [ad ax]at ht
                . rwa [ak ax,bq]at ht
               have A:j<sz:=by rw[<-a9];exact(c5.1 aT).1
               obtain⟨v,r,d⟩:=b3 _ _ _ _ aS aT Y;rw[ak (λe=>an (zR A (by omega) e).2)];exact⟨v,r,cf.mono m d⟩
           . rw[ak X]at he;obtain⟨v,r,d⟩:=b3 _ _ _ _ he ht Y;have A:j<sz:=by rw[<-a3 _ (eM he)];exact(c5.1 ht).1
             rw[ak (λe=>X (zR A (by omega) e).1.symm)];exact⟨v,r,cf.mono m d⟩
         . rw[ve O,ak (λe=>aH (zR ar (by omega) e).2.symm)];exact b4
     . cases he
   . cases he
 . cases he
theorem IT:∀(xs:List Value) (k off:Nat) (cs:Array Value),off+k+xs.length<=cs.size->
 (((xs.zipIdx k).foldl (λcs (c,j)=>cs.setIfInBounds (off+j) c) cs):Array Value).toList=iu cs.toList (off+k) xs
 |[],k,off,cs,h=>by simp[iu]
 |x::xs,k,off,cs,h=>by
  simp at h;rw[List.zipIdx_cons,List.foldl_cons,IT xs (k+1) off _ (by simp;omega)];simp only[Array.toList_setIfInBounds];rw[show off+(k+1)=off+k+1 by omega,JC (by simp;omega)]
theorem Hg{a:Array Value}{i:Nat}{r:List (Nat×Value)}{sz:Nat}(b:place i=some (off,sz))(h1:v.cells.size=sz)(c:off+sz<=a.size):
 Instr.fill place a ((i,v)::r)=Instr.fill place (iu a.toList off v.cells.toList).toArray r:=by
 simp only[Instr.fill,b];rw[ak (by simp[h1];omega)]
 congr 1
 apply Array.ext';have:=IT v.cells.toList 0 off a (by simp;omega);rw[<-Array.foldl_toList];simp only[Array.toList_zipIdx];simpa using this
theorem Ti {fs:Array Field}{place:Nat->Option (Nat×Nat)}(R:Rel aC nt φ S env J n a w)
 (m:∀(j:Nat) f k,fs[j]?=some f->eI P f.type=some k->place j=some (f.offset,k)):
 ∀{parts:List (Nat×Operand)} {ps:List (Nat×Nat×aP)} {cs:List C} {vs:List Value} {p:Prop} {ds:List C},u4 P fs parts=some ps->la env cs ps=some (p,ds)->p->
  a' (bm φ w S) cs vs->cs.all (C.aA n)=true->
  ∃us:List Value,Instr.fill place vs.toArray (parts.map λ(i,x)=>(i,a.eval x))=some us.toArray/\a' (bm φ w S) ds us/\ds.all (C.aA n)=true
 |[],ps,cs,vs,p,ds,c,b,g,d,e=>by
  simp[u4]at c;subst c;simp[la]at b;obtain⟨_,rfl⟩:=b;exact⟨vs,by simp[Instr.fill],d,e⟩
 |(j,x)::r,ps,cs,vs,p,ds,c,b,g,d,e=>by
  simp only[u4,bp,bb]at c;obtain⟨f,z,k,A,G,F,K,B,rfl⟩:=c;simp only[la,bp,dC,bb,bB]at b;obtain⟨⟨q,v⟩,al,es,y,⟨h1,I⟩,⟨L,H⟩,u,rfl,rfl⟩:=b;have l:=cz R F al g.1;obtain⟨o,D⟩:=nw l.1 y l.2;have af:=d.length;have E:=o.length;obtain⟨us,s,t,ba⟩:=Ti R m B u g.2 (vs:=iu vs f.offset (a.eval x).cells.toList) (by unfold oN;exact d.fill o _) (G7 e D _);refine⟨us,?_,t,ba⟩;simp only[gz];rw[Hg (m j f k z A) (by rw[<-rv,<-E,h1]) (by simp;omega)];exact s
theorem Se{place:Nat->Option (Nat×Nat)}{m:Nat}(R:Rel aC nt φ S env J n a w)(k:∀j,place j=some (j*m,m)):
 ∀{parts:List (Nat×Operand)} {ps:List (Nat×Nat×aP)} {cs:List C} {vs:List Value} {p:Prop} {ds:List C},vd m parts=some ps->la env cs ps=some (p,ds)->p->
  a' (bm φ w S) cs vs->cs.all (C.aA n)=true->
  ∃us:List Value,Instr.fill place vs.toArray (parts.map λ(i,x)=>(i,a.eval x))=some us.toArray/\a' (bm φ w S) ds us/\ds.all (C.aA n)=true
 |[],ps,cs,vs,p,ds,c,b,f,d,e=>by
  simp[vd]at c;subst c;simp[la]at b;obtain⟨_,rfl⟩:=b;exact⟨vs,by simp[Instr.fill],d,e⟩
 |(j,x)::r,ps,cs,vs,p,ds,c,b,f,d,e=>by
  simp only[vd,bp,bb]at c;obtain⟨D,B,G,y,rfl⟩:=c;simp only[la,bp,dC,bb,bB]at b;obtain⟨⟨q,v⟩,al,es,u,⟨h1,F⟩,⟨H,E⟩,t,rfl,rfl⟩:=b;have g:=cz R B al f.1;obtain⟨l,z⟩:=nw g.1 u g.2;have af:=d.length;have A:=l.length;obtain⟨us,o,s,ba⟩:=Se R k y t f.2 (vs:=iu vs (j*m) (a.eval x).cells.toList) (by unfold oN;exact d.fill l _) (G7 e z _);refine⟨us,?_,s,ba⟩;simp only[gz];rw[Hg (k j) (by rw[<-rv,<-A,h1]) (by simp;omega)];exact o
theorem XU{fs:List Field}(h:∀f,f∈fs->∃k,eI P f.type=some k):
 ∃ps:List (Nat×Nat),(fs.mapM λf=>do pure (f.offset,<-sizeOf f.type):Sem (List (Nat×Nat))).run P w= .ok ps w/\ps.length=fs.length/\∀(j:Nat) f k,fs[j]?=some f->eI P f.type=some k->ps[j]?=some (f.offset,k):=by
 induction fs with
 |nil=>exact⟨[],by simp,rfl,by simp⟩
 |cons f fs ih=>
  obtain⟨ps,h1,af,c⟩:=ih λf d=>h f (by simp[d]);obtain⟨k,b⟩:=h f (by simp);refine⟨(f.offset,k)::ps,?_,by simp[af],?_⟩
  . rw[List.mapM_cons];simp only[bind_pure_comp]at h1;simp[j7 b,h1]
  . intro j g e al a;cases j with
    |zero=>simp at al;subst al;rw[b]at a;cases a;rfl
    |succ j=>simpa using c j g e (by simpa using al) a
theorem Yq(R:Rel aC nt φ S env J n a w){parts:Array (Nat×Operand)}(y:o.op= .build ty parts)(E:P.underlying ty=some (.struct fs))(e:Gx P fs=true)
 {z:List C}(F:kU P ty=some z){ps:List (Nat×Nat×aP)}(D:u4 P fs parts.toList=some ps)
 {p v J'}(g:n key=false)(h:aO (.build z ps) env J key=some (p,v,J'))(A:p):Good P aC nt env J' (ins n key) a v ((execOp a.eval o).run P w):=by
 simp only[aO,bb,bB]at h;obtain⟨⟨q,ds⟩,s,rfl,rfl,rfl⟩:=h;obtain⟨i,H,u,G,r,t⟩:=u1 (φ:=φ) (w:=w) (S:=S) (n:=n) F
 obtain⟨pl,I,K,B⟩:=XU (P:=P) (w:=w) (fs:=fs.toList) (by
  simp only[Gx,cY]at e;intro f b;have:=e f b
  exact yv.1 this)
 have c:(fs.mapM λf=>do pure (f.offset,<-sizeOf f.type):Sem (Array (Nat×Nat))).run P w= .ok pl.toArray w:=by
  rw[Array.mapM_eq_mapM_toList];simp_all
 obtain⟨us,h1,l,m⟩:=Ti (place:=(pl.toArray[·]?)) R (λj f k b g=>by simpa using B j f k (by simpa using b) g) D s A r t;refine Good.pure R (x:= .agg us.toArray) ?_ (.agg l) (by simpa[V.aA]using m);have d:Instr.fill (λx=>pl.toArray[x]?) H.cells ((parts.map λ(i,x)=>(i,a.eval x)).toList)=some us.toArray:=by simp_all
 simp only[execOp,y,Instr.build,zeroValue,typeInfo,Sem.run_bind,run_program,Result.andThen_ok,u,Sem.run_pure,G,underlying,E,c];simp only[bind_pure_comp]at c;simp[c];simp at d;rw[d];simp
theorem XB(R:Rel aC nt φ S env J n a w){parts:Array (Nat×Operand)}(s:o.op= .build ty parts){len:Nat}(y:P.underlying ty=some (.array len e)){m:Nat}(r:eI P e=some m)
 {z:List C}(A:kU P ty=some z){ps:List (Nat×Nat×aP)}(u:vd m parts.toList=some ps)
 {p v J'}(E:n key=false)(h:aO (.build z ps) env J key=some (p,v,J'))(t:p):Good P aC nt env J' (ins n key) a v ((execOp a.eval o).run P w):=by
 simp only[aO,bb,bB]at h;obtain⟨⟨q,ds⟩,g,rfl,rfl,rfl⟩:=h;obtain⟨i,D,l,B,f,k⟩:=u1 (φ:=φ) (w:=w) (S:=S) (n:=n) A;obtain⟨us,h1,c,d⟩:=Se (place:=λi=>some (i*m,m)) R (λj=>rfl) u g t f k;refine Good.pure R (x:= .agg us.toArray) ?_ (.agg c) (by simpa[V.aA]using d);have b:Instr.fill (λi=>some (i*m,m)) D.cells ((parts.map λ(i,x)=>(i,a.eval x)).toList)=some us.toArray:=by simp_all
 simp at b;simp[execOp,s,Instr.build,zeroValue,typeInfo,l,B,underlying,y,j7 r,b]
def iO(w:World)(S:dQ)(sz:Nat)(es:List (List T))(vs:List Value):Prop:=
 ∀(i j:Nat) e t,es[i]?=some e->e[j]?=some t->∃v,vs[i*sz+j]?=some v/\cf w S t v
theorem G4{sz:Nat}(R:Rel aC nt φ S env J n a w)(h0:0<sz):
 ∀{parts:List (Nat×Operand)} {ps:List (Nat×aP)} {es:List (List T)} {vs:List Value} {p:Prop} {ds:List (List T)},pz parts=some ps->jM env sz es ps=some (p,ds)->p->
  (∀e,e∈es->e.length=sz)->vs.length=es.length*sz->iO w S sz es vs->
  ∃us:List Value,Instr.fill (λi=>some (i*sz,sz)) vs.toArray (parts.map λ(i,x)=>(i,a.eval x))=some us.toArray/\(∀e,e∈ds->e.length=sz)/\ds.length=es.length/\us.length=vs.length/\iO w S sz ds us/\(∀u,u∈us->u∈us)
 |[],ps,es,vs,p,ds,d,c,k,l,af,f=>by
  simp[pz]at d;subst d;simp[jM]at c;obtain⟨_,rfl⟩:=c;exact⟨vs,by simp[Instr.fill],l,rfl,rfl,f,λ_ h=>h⟩
 |(b,x)::r,ps,es,vs,p,ds,d,c,k,l,af,f=>by
  simp only[pz,bp,bb]at d;obtain⟨M,L,Q,G,rfl⟩:=d;simp only[jM,bp,dC,bb,bB]at c;obtain⟨⟨q,v⟩,al,cs,E,ts,H,⟨h1,m⟩,⟨U,N⟩,D,rfl,rfl⟩:=c;have o:=cz R L al k.1;obtain⟨I,P⟩:=nw o.1 E o.2;have y:=tC H I;have K:=y.length;have F:b*sz+sz<=vs.length:=by
   have:=eW sz (show b+1<=es.length from m);grind
  obtain ⟨us,z,A,ba,B,C,O⟩:= G4 R h0 G D k.2 (es:= es.set b ts) (vs:= iu vs (b*sz) (a.eval x).cells.toList) (by
   grind) (by rw[pQ (by omega)];simpa using af) (by
   intro i j e t he ht;rw[my (by omega)];rw[BM]at he;by_cases g:b=i
   . subst g;rw[ad rfl,ad m]at he;cases he;have s:=(c5.1 ht).1;rw[bq,fu,show b*sz+j-b*sz=j by omega];exact y.get ht
   . rw[ak g]at he;have s:=(c5.1 ht).1;rw[l _ (eM he)]at s;rcases Nat.lt_or_gt_of_ne g with h|h
     . have:=eW sz (show b+1<=i from h);rw[gb]at this;rw[bq,bq];exact f _ _ _ _ he ht
     . have:=eW sz (show i+1<=b from h);rw[gb]at this;rw[fu]
       exact f _ _ _ _ he ht)
  refine⟨us,?_,A,by simpa using ba,by rw[B,pQ (by omega)],C,λ_ h=>h⟩;simp only[gz];rw[Hg (place:=λi=>some (i*sz,sz)) rfl (by rw[<-rv,<-K,h1]) (by simpa using F)];exact z
theorem SU{z:Array Value}{sz len:Nat}(d:z.size=sz)(h0:0<sz)(i j:Nat)(a:i<len)(b:j<sz):
 ((Array.range (len*sz)).map (z[· % z.size]!))[i*sz+j]?=z[j]?:=by
 have aB:i*sz+j<len*sz:=by
  have:=eW sz (show i+1<=len from a);grind
 rw[Array.getElem?_map,Array.getElem?_range,ad aB];simp only[fZ,d];have:(i*sz+j)%sz=j:=by rw[yn,Nat.add_mul_mod_self_right,og b]
 rw[this];have c:j<z.size:=by omega
 simp[c]
theorem Sf{len:Nat}{parts:Array (Nat×Value)}(j:P.underlying ty=some (.slice e)){sz:Nat}(g:eI P e=some sz){i:TypeInfo}{a:Value}(m:P.info? e=some i)(o:i.zero=some a)
 (h0:sz≠0)(p:len*sz<=2^24){b:Array Value}(c:b=(Array.range (len*sz)).map (a.cells[· % a.cells.size]!)){us:List Value}(d:Instr.fill (λi=>some (i*sz,sz)) b parts.toList=some us.toArray):
 (Instr.buildSlice ty len parts).run P w= .ok (.slice (some ⟨w.heap.size,0,none⟩) len len) (w.alloc (.cells us.toArray e)):=by
 have f:¬(len*sz>2^24):=by omega
 have n:∀w,(zeroValue e).run P w= .ok a w:=by intro w;simp[zeroValue,typeInfo,m,o]
 by_cases af:len*sz=0
 . have l:b=#[]:=by rw[c,af];simp
   subst l;have k:(Array.map (λx=>(#[]:Array Value)[x%(#[]:Array Value).size]!) (Array.range (len*sz)))=#[]:=by rw[af];simp
   unfold Instr.buildSlice;simp only[Sem.run_bind,run_underlying j,Result.andThen_ok,j7 g,ak f,ad af,Sem.run_pure,k,d];rfl
 . unfold Instr.buildSlice;subst c;simp only[Sem.run_bind,run_underlying j,Result.andThen_ok,j7 g,ak f,ak af,Sem.run_pure,n,d];rfl
theorem Xg(R:Rel aC nt φ S env J n a w){len:Nat}{parts:Array (Nat×Operand)}(L:o.op= .buildSlice ty len parts)(Q:P.underlying ty=some (.slice e)){sz:Nat}(O:eI P e=some sz)
 {z:List C}(Y:kU P e=some z){ps:List (Nat×aP)}(N:pz parts.toList=some ps)(h0:sz≠0)(s:z.length=sz)(K:len*sz<=2^24)
 {p v J'}(I:n key=false)(h:aO (.bslice sz len z ps) env J key=some (p,v,J'))(M:p):Good P aC nt env J' (ins n key) a v ((execOp a.eval o).run P w):=by
 simp only[aO,bp,bb,bB]at h;obtain⟨l,u,⟨q,ds⟩,H,rfl,rfl,rfl⟩:=h;obtain⟨i,d,f,ab,r,ad⟩:=u1 (φ:=φ) (w:=w) (S:=S) (n:=n) Y;have aa:=tC u r;have Z:d.cells.size=sz:=by rw[<-rv,<-r.length,s]
 have g:0<sz:=by omega
 have ag:l.length=sz:=by rw[zg u,s]
 obtain ⟨us,h1,E,F,G,ba,_⟩:= G4 R g N H M (es:= List.replicate len l) (vs:= ((Array.range (len*sz)).map (d.cells[· % d.cells.size]!)).toList) (by
  grind) (by simp) (by
  intro i j e t he ht;have f:=(c5.1 he).1;simp at f;have:e=l:=by
   have:=eM he;exact BD this
  subst this;have ae:=(c5.1 ht).1;obtain⟨x,W,b⟩:=aa.get ht;refine⟨x,?_,b⟩;rw[Fc,SU Z g i j f (by omega)]
  simpa using W)
 simp at F;have T:us.length=len*sz:=by rw[G];simp
 have A:=R.alloc (.cells us.toArray e);have m:=R.xB (.cells us.toArray e);have af:len<=eG:=by
  have:len<=len*sz:=E' len g;unfold eG;omega
 have B:=A.jQ I (x:= .arr sz ds) (w.heap.size,len) rfl (by
  simp only[c1,dA];refine⟨by omega,by omega,E,g,λ_=>⟨us,e,pL,T,λi j e t he ht=>?_,λj h=>?_⟩⟩
  . obtain⟨v,U,b⟩:=ba i j e t he ht;exact⟨v,U,cf.mono m b⟩
  . have:=R.bP.st _ _ h
    omega) (λ_=>⟨λk y X h0=>by
     have:=(R.bP.blk k y X).ki h0
     simp;omega,.inr R.ext.size⟩)
 refine⟨.slice (some ⟨w.heap.size,0,none⟩) len len,_,S,_,.inl ?_,.c ⟨some ⟨w.heap.size,0,none⟩,by simp[dA],by simp[dA],by simp[dA]⟩,by simp[V.aA,C.aA,ins],B⟩;have D:Instr.fill (λi=>some (i*sz,sz)) ((Array.range (len*sz)).map (d.cells[· % d.cells.size]!)) ((parts.map λ(i,x)=>(i,a.eval x)).toList)=some us.toArray:=by
  rw[Array.toList_map];exact h1
 have b:=Sf (P:=P) (w:=w) Q O f ab h0 K rfl D;simp only[execOp,L,Sem.run_bind,b,Result.andThen_ok];rfl
theorem JQ(a:Nat):∀(r c:Nat),c<=2*a+192->Builtin.growBy a r c<=2*a+192
 |0,c,h=>h
 |r+1,c,h=>by
  unfold Builtin.growBy;split
  . exact h
  . exact JQ a r _ (by omega)
theorem Wn{a b:Nat}(h:b<a):Builtin.nextslicecap a b<=2*a+192:=by
 unfold Builtin.nextslicecap;split
 . omega
 . split
   . omega
   . exact JQ _ _ _ (by omega)
theorem IU(a:Nat):∀(r c:Nat),c<=a+a/4+512->Builtin.growBy a r c<=a+a/4+512
 |0,c,h=>h
 |r+1,c,h=>by
  unfold Builtin.growBy;split
  . exact h
  . exact IU a r _ (by omega)
theorem WH{a b:Nat}(h:b<a):Builtin.nextslicecap a b<=a+a/4+512:=by
 unfold Builtin.nextslicecap;split
 . omega
 . split
   . omega
   . exact IU _ _ _ (by omega)
theorem lC.not{e bytes:Nat}(h:f<e)(c:lC e bytes):¬(Builtin.nextslicecap e f*bytes>2^48):=by
 have a:=eW bytes (Wn h);have b:=eW bytes (WH h);rcases c with c|c<;>unfold j8 at c<;>omega
theorem Yr{p:α->Prop}{l m:List α}(h:∀x,x∈l->p x)(k:∀x,x∈m->p x):∀x,x∈l++m->p x:=by grind
def rS(P:Program)(w:World)(S:dQ)(sz:Nat)(v:Value)(ys:List (List T))(b:Option Nat):Prop:=
 (Builtin.lenOf v).run P w= .ok ys.length w/\∃xs:List Value,(Builtin.firstCells sz ys.length v).run P w= .ok xs.toArray w/\xs.length=ys.length*sz/\iO w S sz ys xs/\∀x,x∈xs->x.oneCell'=true
theorem IV{sz k len:Nat}(h0:0<sz)(a:k<len*sz):k/sz<len/\k%sz<sz/\(k/sz)*sz+k%sz=k:=
 ⟨Nat.div_lt_of_lt_mul (by rw[wm];exact a),yr _ h0,by rw[wm];exact Nat.div_add_mod k sz⟩
theorem iO.one{sz:Nat}(h0:0<sz)(p:∀e,e∈ys->e.length=sz)(af:xs.length=ys.length*sz)(h:iO w S sz ys xs):∀x,x∈xs->x.oneCell'=true:=by
 intro x q;obtain⟨k,a,j⟩:=eZ q;obtain⟨h1,t,f⟩:=IV h0 (by rw[<-af];exact a);have he:ys[k/sz]?=some ys[k/sz]:=eH h1;have u:ys[k/sz].length=sz:=p _ (Fq h1);have ht:(ys[k/sz])[k%sz]?=some (ys[k/sz])[k%sz]:=eH (by omega);obtain⟨v,c,o⟩:=h _ _ _ _ he ht;rw[f,eH a,j]at c;cases c;exact cf.jh o
theorem yW{b o m:Nat}(af:xs.length=m)(h:∀j,j<m->w.cell? ⟨b,o+j,none⟩=xs[j]?):(loadCells ⟨b,o,none⟩ m).run P w= .ok xs.toArray w:=by
 have:=run_loadCells_list (P:=P) w ⟨b,o,none⟩ xs (λj v a=>by
  have c:j<m:=by rw[<-af];exact(c5.1 a).1
  rw[<-a,<-h j c];unfold Addr.add;split
  . grind
  . rfl)
 grind
theorem XV{sz:Nat}(h0:0<sz)(u:cf w S (.slice ys) v)(n:∀e,e∈ys->e.length=sz):rS P w S sz v ys none:=by
 obtain⟨a,cap,c,b,o,f,rfl,B,D,E,p,A,r⟩:=cf.kl u;refine⟨by simp[Builtin.lenOf],?_⟩;by_cases g:ys=[]
 . subst g;refine⟨[],?_,by simp,by intro i j e t he;simp at he,by simp⟩;cases a with
   |none=>simp[Builtin.firstCells]
   |some a=>simp[Builtin.firstCells,loadCells,loadCellsFrom]
 . have s:c=sz:=by
    obtain⟨cX,C⟩:=BB ys g;grind
   subst s;rw[p g];have l:((List.range (ys.length*c)).map λk=>f (k/c) (k%c)).length=ys.length*c:=(by simp);have m:iO w S c ys ((List.range (ys.length*c)).map λk=>f (k/c) (k%c)):=by
    intro i j e t he ht;have q:=(c5.1 he).1;have d:=(c5.1 ht).1;rw[n _ (eM he)]at d;have aB:i*c+j<ys.length*c:=by
     have:=eW c (show i+1<=ys.length from q);grind
    refine⟨f i j,?_,r _ _ _ _ he ht⟩;have aK:(i*c+j)/c=i:=by rw[yn,Nat.add_mul_div_right _ _ h0,Nat.div_eq_of_lt d];omega
    have x:(i*c+j)%c=j:=by rw[yn,Nat.add_mul_mod_self_right,og d]
    grind
   refine⟨_,?_,l,m,iO.one h0 n l m⟩;show(loadCells ⟨b,o,none⟩ (ys.length*c)).run P w=_;refine yW l ?_;intro j d;obtain⟨h1,y,z⟩:=IV h0 d;grind
theorem Zc{sz:Nat}(b:bm φ w S .ay v):rS P w S sz v [] none:=by
 obtain⟨a,rfl⟩:=b;refine⟨by simp[Builtin.lenOf],[],?_,by simp,by intro i j e t he;simp at he,by simp⟩;cases a with
 |none=>simp[Builtin.firstCells]
 |some a=>simp[Builtin.firstCells,loadCells,loadCellsFrom]
theorem JR{sz b:Nat}(dm:c1 φ w S b (.arr sz ys))(n:bm φ w S (.arr b sz 0 ys.length) v):rS P w S sz v ys (some b):=by
 obtain⟨a,rfl,l,p⟩:=bm.gY n;obtain⟨h1,o,f,k,ba⟩:=dm;refine⟨by simp[Builtin.lenOf],?_⟩;by_cases h0:(φ b).2=0
 . have:ys=[]:=jR (by omega);subst this;refine⟨[],?_,by simp,by intro i j e t he;simp at he,by simp⟩;cases a with
   |none=>simp[Builtin.firstCells]
   |some a=>simp[Builtin.firstCells,loadCells,loadCellsFrom]
 . obtain⟨vs,E,aa,af,r,_⟩:=ba h0;rw[l h0];have q:ys.length*sz<=vs.length:=by rw[af];exact eW _ (by omega)
   have d:(vs.take (ys.length*sz)).length=ys.length*sz:=by simp;omega
   have g:iO w S sz ys (vs.take (ys.length*sz)):=by
    intro i j e t he ht;have m:=(c5.1 he).1;have c:=(c5.1 ht).1;rw[f _ (eM he)]at c;have aB:i*sz+j<ys.length*sz:=by
     have:=eW sz (show i+1<=ys.length from m);grind
    grind
   refine⟨_,?_,d,g,iO.one k f d g⟩;rw[yo];show(loadCells ⟨(φ b).1,0,none⟩ (ys.length*sz)).run P w=_;refine yW d ?_;intro j c;rw[ga,ju aa,ln,ad c]
theorem rS.world{sz:Nat}{b:Option Nat}(h:rS P w S sz v ys b){m:Nat}:∃xs:List Value,xs.length=ys.length*sz/\iO w S sz ys xs/\(∀x,x∈xs->x.oneCell'=true):=by
 obtain⟨_,xs,_,h1,a,c⟩:=h;exact⟨xs,h1,a,c⟩
theorem Sg(z:Array Value)(m:Nat):(Builtin.zeroCells z m).size=m*z.size:=by simp[Builtin.zeroCells]
theorem Sh{st k:TypeId}{i:TypeInfo}{c:Value}(u:P.underlying st=some (.slice e))(A:P.underlying k=some (.slice E))(g:P.info? e=some i)(B:i.zero=some c)(D:c.cells.size=i.size)
 {base:Option Addr}{sl sc a:Nat}{y:Value}{xs f:List Value}(z:(Builtin.lenOf y).run P w= .ok a w)
 (v:(Builtin.firstCells i.size sl (.slice base sl sc)).run P w.drew= .ok xs.toArray w.drew)(x:(Builtin.firstCells i.size a y).run P w.drew= .ok f.toArray w.drew)
 (s:sc<sl+a)(n:lC (sl+a) i.bytes)(p:sl+a<=eG){tt:TypeId}:
 ∃(b:Nat) (r:List Value),sl+a<=b/\r.length=(b-(sl+a))*i.size/\
  (Builtin.append_ #[st,k] tt #[.slice base sl sc,y]).run P w= .ok (.slice (some ⟨w.heap.size,0,none⟩) (sl+a) b) (w.drew.alloc (.cells (xs++f++r).toArray e)):=by
 have t:∀w,(sizeOf e).run P w= .ok i.size w:=λw=>by simp[sizeOf,typeInfo,g]
 have d:∀w,(typeInfo e).run P w= .ok i w:=λw=>by simp[typeInfo,g]
 have C:∀w,(zeroValue e).run P w= .ok c w:=λw=>by simp[zeroValue,d,B]
 generalize j:(Question.appendCap (sl+a) sc e).cut (w.tape w.drawn (Question.appendCap (sl+a) sc e))=b;have q:sl+a<=b:=by rw[<-j];simp[Question.cut]
 have h1:¬(sl+a<=sc):=by omega
 have l:¬(((sl+a:Nat):Int)>IntKind.i64.max/\(False\/i.bytes=0)):=by intro h;have:=h.1;simp[IntKind.max,IntKind.signed,IntKind.bits]at this;unfold eG at p;omega
 have m:¬(Builtin.nextslicecap (sl+a) sc*i.bytes>2^48):=by
  exact n.not s
 refine⟨b,(Builtin.zeroCells c.cells (b-(sl+a))).toList,q,by simp[Sg,D],?_⟩;have o:(choose (.appendCap (sl+a) sc e)).run P w= .ok b w.drew:=by rw[run_choose];simp only[Question.forced,bV,b6,j];rfl
 have aK:(xs++f++(Builtin.zeroCells c.cells (b-(sl+a))).toList).toArray=xs.toArray++f.toArray++Builtin.zeroCells c.cells (b-(sl+a)):=by grind
 rw[aK];unfold Builtin.append_;simp only[BH,yb,BE,Sem.run_bind,run_underlying u,run_underlying A,Result.andThen_ok,t,Sem.run_pure,bV,b6,z,ak h1,d];rw[ak (by simpa using l)];simp only[Sem.run_bind,Sem.run_pure,Result.andThen_ok,d];rw[ak m];simp only[Sem.run_bind,Sem.run_pure,Result.andThen_ok,d,o,run_askRoom,v,x,C,eN,bS];simp only[newRow,Sem.run_bind,run_newObj,Result.andThen_ok,Sem.run_pure];rfl
theorem x5{st c p:TypeId}{i:TypeInfo}(l:P.underlying st=some (.slice e))(o:P.underlying c=some (.slice p))(g:P.info? e=some i)
 {base:Option Addr}{sl sc b:Nat}{y:Value}{d:List Value}(n:(Builtin.lenOf y).run P w= .ok b w)(m:(Builtin.firstCells i.size b y).run P w= .ok d.toArray w)(j:sl+b<=sc){w':World}
 (hs:∀a,base=some a->(storeCells (a.add (sl*i.size)) d 0).run P w= .ok () w') (f:base=none->w'=w) {tt:TypeId}:
  (Builtin.append_ #[st,c] tt #[.slice base sl sc,y]).run P w= .ok (.slice base (sl+b) sc) w':=by
 have k:∀w,(sizeOf e).run P w= .ok i.size w:=λw=>by simp[sizeOf,typeInfo,g]
 unfold Builtin.append_;simp only[BH,yb,BE,Sem.run_bind,run_underlying l,run_underlying o,Result.andThen_ok,k,Sem.run_pure,bV,b6,n,ad j,m,eN,bS];cases base with
 |none=>rw[f rfl];rfl
 |some a=>
  simp only[Sem.run_bind,hs a rfl,Result.andThen_ok];rfl
theorem iO.append{sz:Nat}{c r:List Value}(h0:0<sz)(q:∀e,e∈es->e.length=sz)(v:∀e,e∈ys->e.length=sz)(y:xs.length=es.length*sz)(z:c.length=ys.length*sz)
 (h1:iO w S sz es xs)(o:iO w S sz ys c):iO w S sz (es++ys) (xs++c++r):=by
 intro i j e t he ht;by_cases f:i<es.length
 . rw[n' f]at he;have a:=(c5.1 ht).1;rw[q _ (eM he)]at a;have:=eW sz (show i+1<=es.length from f);rw[gb]at this;rw[hp,n' (by omega)];exact h1 _ _ _ _ he ht
 . rw[p0 (by omega)]at he;have a:=(c5.1 ht).1;rw[v _ (eM he)]at a;have u:=(c5.1 he).1;have x:=eW sz (show es.length<=i by omega);have p:=eW sz (show(i-es.length)+1<=ys.length from u);have ba:(i-es.length)*sz=i*sz-es.length*sz:=Nat.sub_mul _ _ _;rw[gb]at p;rw[hp,p0 (by omega),n' (by omega),show i*sz+j-xs.length=(i-es.length)*sz+j by omega];exact o _ _ _ _ he ht
theorem Rel.drew(R:Rel aC nt φ S env J n a w):Rel aC nt φ S env J n a w.drew:=
 R.world (λ_=>False) rfl rfl rfl (ef _) (λ_ _ _=>rfl) (λ_ h=>h.elim)
theorem DO(R:Rel aC nt φ S env J n a w){d:aP}(u:bK y=some d){v:V}(al:d.get env=some (p,v))(r:p){sz:Nat}(h0:0<sz){ys:List (List T)×Option Nat}
 (h:l7 J v=some ys)(l:∀e,e∈ys.1->e.length=sz):rS P w S sz (a.eval y) ys.1 ys.2:=by
 have c:=(cz R u al r).1;unfold l7 at h;split at h
 . cases h;exact XV h0 c.dW l
 . cases h;exact Zc c.dW
 . split at h
   . rename_i b x A z _ B o f;simp only[dC,bF]at h;obtain⟨⟨h1,rfl,rfl⟩,rfl⟩:=h;subst h1;by_cases k:o=[]
     . subst k;obtain⟨q,m,_⟩:=bm.gY c.dW;simp at m;rw[m];refine⟨by simp[Builtin.lenOf],[],?_,by simp,by intro i j e t he;simp at he,by simp⟩;cases q with
       |none=>simp[Builtin.firstCells]
       |some a=>simp[Builtin.firstCells,loadCells,loadCellsFrom]
     . have s:x=sz:=by
        obtain⟨cX,g⟩:=BB o k;rw[<-(R.bP.blk _ _ f).2.2.1 _ g,l _ g]
       subst s;exact JR (R.bP.blk _ _ f) c.dW
   . cases h
 . cases h
theorem aaa{sz b len:Nat}(dm:c1 φ w S b (.arr sz es))(d:bm φ w S (.fw b sz off len) v)(u:off+len<=es.length):rS P w S sz v ((es.drop off).take len) none:=by
 obtain⟨a,cap,rfl,o,x⟩:=d;obtain⟨h1,s,k,n,ba⟩:=dm;have g:((es.drop off).take len).length=len:=by simp;omega
 refine⟨by simp[Builtin.lenOf,g],?_⟩;rw[g];by_cases h0:len=0
 . subst h0;refine⟨[],?_,by simp,by intro i j e t he;simp at he,by simp⟩;cases a with
   |none=>simp[Builtin.firstCells]
   |some a=>simp[Builtin.firstCells,loadCells,loadCellsFrom]
 . obtain⟨vs,E,aa,af,p,_⟩:=ba (by omega);rw[o h0];have y:off*sz+len*sz<=vs.length:=by rw[af,<-gb];exact eW _ (by omega)
   have f:((vs.drop (off*sz)).take (len*sz)).length=len*sz:=by simp;omega
   have q:∀e,e∈(es.drop off).take len->e.length=sz:=λe he=>k e (BJ (p1 he));have m:iO w S sz ((es.drop off).take len) ((vs.drop (off*sz)).take (len*sz)):=by
    intro i j e t he ht;have l:i<len:=by have:=(c5.1 he).1;omega
    rw[ln,ad l,ry]at he;have c:=(c5.1 ht).1;rw[k _ (eM he)]at c;have aB:i*sz+j<len*sz:=by
     have:=eW sz (show i+1<=len from l);rw[gb]at this;omega
    obtain⟨v,d,r⟩:=p _ _ _ _ he ht;refine⟨v,?_,r⟩;rw[ln,ad aB,ry,<-p5,<-gb];exact d
   refine⟨_,?_,f,m,iO.one n q (by rw[g];exact f) m⟩;show(loadCells ⟨(φ b).1,off*sz,none⟩ (len*sz)).run P w=_;refine yW f ?_;intro j c;rw[ju aa,ln,ad c,ry]
theorem Zd(R:Rel aC nt φ S env J n a w){x y:Operand}{st T e a3:TypeId}(aN:o.op= .call {callee:= .builtin .append,args:=#[x,y],argTypes:=#[st,T]})
 (ak:P.underlying st=some (.slice e))(am:P.underlying T=some (.slice a3)){i:TypeInfo}(ah:P.info? e=some i)(a':i.size≠0)
 {W X:aP}(aU:bK x=some W)(f:bK y=some X){ap aq:Prop}{ar au:V}(aF:W.get env=some (ap,ar))(aG:X.get env=some (aq,au)){r}
 {p v J'}(z:mR ar au=some r)(g:n key=false)(h:uq J key i.size ap aq r=some (p,v,J'))(aO:p):Good P aC nt env J' (ins n key) a v ((execOp a.eval o).run P w):=by
 have aj:∀r w',(Builtin.append_ #[st,T] o.type #[a.eval x,a.eval y]).run P w= .ok r w'->(execOp a.eval o).run P w= .ok (.value r) w':=by
  intro r w' d;simp[execOp,aN,Go.resolve,invoke,builtin,d]
 unfold mR at z;split at z
 . rename_i b s1 off len a4 bb F l;split at z
   . rename_i aD;subst aD;cases z;unfold uq at h;dsimp only at h;split at h
     . rename_i bc es u;simp only[bF,bB]at h;obtain⟨rfl,rfl,rfl⟩:=h;obtain⟨aQ,aR,rfl,rfl,rfl,rfl,a8,aL⟩:=aO;have aE:=cz R aU aF aQ;obtain⟨base,I,aB,a9⟩:=bm.gY aE.1.dW;have aH:=cz R f aG aR;have B:=R.bP.blk _ _ u;obtain⟨O,U,Q,K,aX,aW⟩:=aaa (P:=P) B aH.1.dW aL;obtain⟨a5,a6,Z,a7,az⟩:=B;have aV:((es.drop F).take l).length=l:=by simp;omega
       rw[aV]at O Q K;rw[Nat.sub_zero]at I;have H:len+l<=(φ b).2:=(by omega);have h0:0<i.size:=(by omega);have L:(es.take len++(es.drop F).take l).length=len+l:=by simp;omega
       have ai:∀A,A∈es.take len++(es.drop F).take l->A.length=i.size:=by
        intro A D;rcases f'.1 D with D|D
        . exact Z A (p1 D)
        . exact Z A (BJ (p1 D))
       by_cases q:(φ b).2=0
       . have aJ:len=0:=(by omega);have aK:l=0:=(by omega);subst aJ aK;have aY:U=[]:=jR (by simpa using K);subst aY;have d:=x5 (tt:=o.type) ak am ah (base:=base) (sl:=0) (sc:=(φ b).2) O Q H (w':=w) (λax _=>by simp[storeCells]) (λ_=>rfl);rw[<-I]at d;have R':=(R.del b).jQ g (x:= .arr i.size (es.take 0++(es.drop F).take 0)) (0,0) rfl (by simp only[c1,dA];exact⟨by simp,by simp,by simp,h0,by simp⟩) (by simp);refine⟨_,_,S,w,.inl (aj _ _ d),.c ?_,by simp[V.aA,C.aA,ins],R'⟩;exact⟨base,by simp[dA,q,I],by simp[dA],by simp[dA]⟩
       . obtain⟨vs,E,aa,al,aT,aM⟩:=az q;have B:=R.bP.blk _ _ u;have ag:len*i.size+U.length<=vs.length:=by rw[K,al,<-gb];exact eW _ H
         obtain⟨w',aS,aZ,a0,a1,a2,an,ao⟩:=nu (P:=P) U (len*i.size) 0 vs w aa (by omega) aW;rw[l0]at an;have G:=aB q;rw[yo]at G
         have d:=x5 (tt:=o.type) ak am ah (base:=base) (sl:=len) (sc:=(φ b).2) O Q H (w':=w') (λax ab=>by
          rw[G]at ab;cases ab;have aA:Addr.add ⟨(φ b).1,0,none⟩ (len*i.size)=⟨(φ b).1,len*i.size,none⟩:=by unfold Addr.add;split<;>simp_all
          rw[aA];exact aS) (λae=>by rw[G]at ae;cases ae)
         rw[<-I]at d
         have av:=(R.del b).world (w':=w') (λk=>k=(φ b).1) aZ a0 a1 (wk a2.symm) (λk _ g=>ao k g) (λk g=>by
          subst g;refine⟨B.pX q,λk y f g=>?_,R.own b _ u q⟩;rw[fN]at f;split at f
          . cases f
          . rename_i M
            exactλe=>R.bP.inj k b y _ f u (dJ M) g q e)
         have m:gq w S w' S:=⟨λ_ _ h=>h,λk j h=>qB (ao k (λe=>B.pX q j (e▸h))) j⟩
         have aw:=av.jQ g (x:= .arr i.size (es.take len++(es.drop F).take l)) (φ b) rfl (by
          simp only[c1,dA];refine⟨by rw[L];exact H,by rw[L];omega,ai,h0,λ_=>⟨_,E,an,by rw[pQ ag];exact al,λs j e t he ht=>?_,aM⟩⟩;have aI:=(c5.1 ht).1;rw[ai _ (eM he)]at aI;rw[my ag,K];by_cases Y:s<len
          . have:=eW i.size (show s+1<=len from Y);rw[gb]at this;rw[fu];rw[n' (by simp;omega),ln,ad Y]at he;obtain⟨v,N,d⟩:=aT _ _ _ _ he ht;exact⟨v,N,cf.mono m d⟩
          . have h1:=eW i.size (show len<=s by omega);have ay:s<len+l:=by rw[<-L];exact(c5.1 he).1
            have:=eW i.size (show s+1<=len+l from ay);rw[gb,gb]at this;rw[bq,fu];have af:(es.take len).length=len:=by simp;omega
            rw[p0 (by omega),af]at he;have ba:(s-len)*i.size=s*i.size-len*i.size:=Nat.sub_mul _ _ _;obtain⟨v,N,d⟩:=aX _ _ _ _ he ht;rw[show s*i.size+j-len*i.size=(s-len)*i.size+j by omega]
            exact⟨v,N,cf.mono m d⟩) (λ_=>⟨λk y f g=>by
            rw[fN]at f;split at f
            . cases f
            . rename_i M
              exact R.bP.inj k b y _ f u (dJ M) g q,R.own b _ u q⟩)
         refine⟨_,_,S,w',.inl (aj _ _ d),.c ?_,by simp[V.aA,C.aA,ins],aw⟩;exact⟨base,by simp[dA],by simp[dA,G],by simp[dA];omega⟩
     . cases h
   . cases z
 . cases z
theorem Xh(R:Rel aC nt φ S env J n a w){x y:Operand}{st av e a8:TypeId}(aE:o.op= .call {callee:= .builtin .append,args:=#[x,y],argTypes:=#[st,av]})
 (M:P.underlying st=some (.slice e))(N:P.underlying av=some (.slice a8)){i:TypeInfo}(L:P.info? e=some i)(a1:i.size≠0)(aL:(i.zero.map (·.cells.size))=some i.size)
 {ax ay:aP}(ad:bK x=some ax)(f:bK y=some ay)
 {p v J'}(g:n key=false)(h:aO (.append i.size i.bytes ax ay) env J key=some (p,v,J'))(ap:p):Good P aC nt env J' (ins n key) a v ((execOp a.eval o).run P w):=by
 simp only[aO,bp]at h;obtain⟨⟨bi,bn⟩,Y,⟨bj,bo⟩,T,he⟩:=h;dsimp only at he;split at he
 . rename_i r aJ;exact Zd R aE M N L a1 ad f Y T aJ g he ap
 rename_i aJ;simp only[bp]at he;obtain⟨ys,af,he⟩:=he;simp only[bb]at aL;obtain⟨br,aN,aM⟩:=aL;have h0:0<i.size:=by omega
 have W:∀r w',(Builtin.append_ #[st,av] o.type #[a.eval x,a.eval y]).run P w= .ok r w'->(execOp a.eval o).run P w= .ok (.value r) w':=by
  intro r w' d;simp[execOp,aE,Go.resolve,invoke,builtin,d]
 have aD:∀b,w.heap.size<=b->∀j,¬S b j:=λb al j aF=>by have:=R.bP.st _ _ aF;omega
 split at he
 ·
  simp only[bF,bB]at he;obtain⟨rfl,rfl,rfl⟩:=he;obtain⟨ab,U,A,am,Z⟩:=ap;obtain⟨base,G⟩:=(cz R ad Y ab).1.dW;have dR:=DO (P:=P) R f T U h0 af A;by_cases F:ys.1=[]
  . obtain⟨z,u,B,l,O,ag⟩:=dR;rw[F]at z B l;have ar:u=[]:=jR (by simpa using l);subst ar;have d:=x5 (tt:=o.type) M N L (base:=base) (sl:=0) (sc:=0) z B (by simp) (w':=w) (λaw _=>by simp[storeCells]) (λ_=>rfl);rw[<-G]at d;have R':=R.jQ g (x:= .arr i.size ys.1) (0,0) rfl (by rw[F];simp only[c1,dA];exact⟨by simp,by simp,by simp,h0,by simp⟩) (by simp);refine⟨_,_,S,w,.inl (W _ _ d),.c ?_,by simp[V.aA,C.aA,ins],R'⟩;rw[F];exact⟨base,by simp[dA],by simp[dA],by simp[dA]⟩
  . have s:=R.drew;obtain⟨z,_⟩:=dR;obtain⟨_,u,B,l,O,ag⟩:=DO (P:=P) s f T U h0 af A;have bg:0<ys.1.length:=tR.2 F;have ae:(Builtin.firstCells i.size 0 (.slice base 0 0)).run P w.drew= .ok ([]:List Value).toArray w.drew:=by
     cases base with
     |none=>simp[Builtin.firstCells]
     |some a=>simp[Builtin.firstCells,loadCells,loadCellsFrom]
    obtain⟨au,r,h1,aj,d⟩:=Sh (tt:=o.type) M N L aN aM z ae B (by omega) (by simpa using am) (by simpa using Z);rw[<-G]at d;have Q:=s.alloc (.cells ([]++u++r).toArray e);have m:=s.xB (.cells ([]++u++r).toArray e)
    have ah:=Q.jQ g (x:= .arr i.size ys.1) (w.heap.size,au) rfl (by
     simp only[c1,dA];refine⟨by omega,Z,A,h0,λ_=>⟨_,e,pL,?_,?_,aD _ (ef _)⟩⟩
     . simp only[c2,h8,l,aj,ga,<-gb];congr 1;omega
     . have:=iO.append (S:=S) (w:=w.drew) (r:=r) (es:=[]) (xs:=[]) h0 (by simp) A (by simp) l (by intro i j e t he;simp at he) O;intro q j H t he ht;obtain⟨v,I,d⟩:=this q j H t (by simpa using he) ht
       exact⟨v,I,cf.mono m d⟩) (λ_=>⟨λk y f h0=>by
        have:=(R.bP.blk k y f).ki h0
        omega,.inr R.ext.size⟩)
    refine⟨_,_,S,_,.inl (W _ _ d),.c ?_,by simp[V.aA,C.aA,ins],ah⟩;exact⟨some ⟨w.heap.size,0,none⟩,by simp[dA],by simp[dA],by simp[dA];omega⟩
 . rename_i b bk off len;split at he
   . rename_i bl es K;split at he
     . cases he
     . rename_i bf;simp only[bF,bB]at he;obtain⟨rfl,rfl,rfl⟩:=he;obtain⟨ab,U,rfl,rfl,rfl,rfl,A,am,Z⟩:=ap;have aX:=cz R ad Y ab;have aV:=aX.1.dW;obtain⟨base,G,aW,aZ⟩:=bm.gY aV;have dR:=DO (P:=P) R f T U h0 af A;have ak:=R.bP.blk _ _ K;have aU:=ak;obtain⟨a9,a',ai,bc,aS⟩:=aU;rw[Nat.sub_zero]at G;rw[ga]at aZ;have aH:∀H,H∈es++ys.1->H.length=i.size:=Yr ai A;by_cases aG:es.length+ys.1.length<=(φ b).2
       . obtain⟨z,u,B,l,O,ag⟩:=dR;by_cases D:(φ b).2=0
         . have an:es=[]:=jR (by omega);have aq:ys.1=[]:=jR (by omega);rw[aq]at z B l;have ar:u=[]:=jR (by simpa using l);subst ar;have d:=x5 (tt:=o.type) M N L (base:=base) (sl:=es.length) (sc:=(φ b).2) z B (by simp[an]) (w':=w) (λaw _=>by simp[storeCells]) (λ_=>rfl);rw[<-G]at d;have R':=(R.del b).jQ g (x:= .arr i.size (es++ys.1)) (0,0) rfl (by rw[aq,an];simp only[c1,dA];exact⟨by simp,by simp,by simp,h0,by simp⟩) (by simp);refine⟨_,_,S,w,.inl (W _ _ d),.c ?_,by simp[V.aA,C.aA,ins],R'⟩;rw[aq,an];exact⟨base,by simp[dA,D],by simp[dA],by simp[dA]⟩
         . obtain⟨vs,E,aa,aI,a2,a0⟩:=aS D;have aA:es.length*i.size+u.length<=vs.length:=by rw[l,aI,<-gb];exact eW _ aG
           obtain⟨w',bh,a4,a5,a6,a7,aQ,aR⟩:=nu (P:=P) u (es.length*i.size) 0 vs w aa (by omega) ag;rw[l0]at aQ;have X:=aW D;rw[yo]at X
           have d:=x5 (tt:=o.type) M N L (base:=base) (sl:=es.length) (sc:=(φ b).2) z B aG (w':=w') (λaw az=>by
            rw[X]at az;cases az;have be:Addr.add ⟨(φ b).1,0,none⟩ (es.length*i.size)=⟨(φ b).1,es.length*i.size,none⟩:=by unfold Addr.add;split<;>simp_all
            grind) (λal=>by rw[X]at al;cases al)
           rw[<-G]at d
           have s:=(R.del b).world (w':=w') (λk=>k=(φ b).1) a4 a5 a6 (wk a7.symm) (λk _ g=>aR k g) (λk g=>by
            subst g;refine⟨ak.pX D,λk y f g=>?_,R.own b _ K D⟩;rw[fN]at f;split at f
            . cases f
            . rename_i F
              exactλe=>R.bP.inj k b y _ f K (dJ F) g D e)
           have m:gq w S w' S:=⟨λ_ _ h=>h,λk j h=>qB (aR k (λe=>ak.pX D j (e▸h))) j⟩
           have Q:=s.jQ g (x:= .arr i.size (es++ys.1)) (φ b) rfl (by
            simp only[c1,dA];refine⟨by simp;omega,by simp;omega,aH,h0,λ_=>⟨_,E,aQ,by rw[pQ aA];exact aI,?_,a0⟩⟩;intro q j H t he ht;rw[my aA];by_cases aB:q<es.length
            . rw[n' aB]at he;have ao:=(c5.1 ht).1;rw[ai _ (eM he)]at ao;have:=eW i.size (show q+1<=es.length from aB);rw[gb]at this;rw[fu];obtain⟨v,I,d⟩:=a2 _ _ _ _ he ht;exact⟨v,I,cf.mono m d⟩
            . rw[p0 (by omega)]at he;have ao:=(c5.1 ht).1;rw[A _ (eM he)]at ao;have aY:=(c5.1 he).1;have bd:=eW i.size (show es.length<=q by omega);have aT:=eW i.size (show(q-es.length)+1<=ys.1.length from aY);have ba:(q-es.length)*i.size=q*i.size-es.length*i.size:=Nat.sub_mul _ _ _;rw[gb]at aT;rw[bq,fu,show q*i.size+j-es.length*i.size=(q-es.length)*i.size+j by omega];obtain⟨v,I,d⟩:=O _ _ _ _ he ht
              exact⟨v,I,cf.mono m d⟩) (λ_=>⟨λk y f g=>by
              rw[fN]at f;split at f
              . cases f
              . rename_i F
                exact R.bP.inj k b y _ f K (dJ F) g D,R.own b _ K D⟩)
           refine⟨_,_,S,w',.inl (W _ _ d),.c ?_,by simp[V.aA,C.aA,ins],Q⟩;exact⟨base,by simp[dA],by simp[dA,X],by simp[dA];omega⟩
       . have s:=R.drew;obtain⟨z,_⟩:=dR;obtain⟨_,u,B,l,O,ag⟩:=DO (P:=P) s f T U h0 af A;obtain⟨_,xs,ae,aK,a3,_⟩:=JR (P:=P) (s.bP.blk _ _ K) (cz s ad Y ab).1.dW;rw[G]at ae;obtain⟨au,r,h1,aj,d⟩:=Sh (tt:=o.type) M N L aN aM z ae B (by omega) am Z;rw[<-G]at d;have Q:=(s.del b).alloc (.cells (xs++u++r).toArray e);have m:=s.xB (.cells (xs++u++r).toArray e)
         have ah:=Q.jQ g (x:= .arr i.size (es++ys.1)) (w.heap.size,au) rfl (by
          simp only[c1,dA];refine⟨by simp;omega,by simp;omega,aH,h0,λ_=>⟨_,e,pL,?_,?_,aD _ (ef _)⟩⟩
          . simp only[c2,aK,l,aj,<-gb];congr 1;omega
          . have:=iO.append (S:=S) (w:=w.drew) (r:=r) h0 ai A aK l a3 O;intro q j H t he ht;obtain⟨v,I,d⟩:=this q j H t he ht
            exact⟨v,I,cf.mono m d⟩) (λ_=>⟨λk y f h0=>by
             rw[fN]at f;split at f
             . cases f
             . have:=(R.bP.blk k y f).ki h0
               omega,.inr R.ext.size⟩)
         refine⟨_,_,S,_,.inl (W _ _ d),.c ?_,by simp[V.aA,C.aA,ins],ah⟩;exact⟨some ⟨w.heap.size,0,none⟩,by simp[dA],by simp[dA],by simp[dA];omega⟩
   . cases he
 . cases he
theorem Xi:∀{ts:List T} {vs:List Value},a' R ts vs->∀(i j:Nat) e t,(ts.map λt=>[t])[i]?=some e->e[j]?=some t->∃v,vs[i*1+j]?=some v/\R t v:=by
 intro ts vs h i j e t he ht;rw[oc,bb]at he;obtain⟨t0,h0,rfl⟩:=he;cases j with
 |zero=>
  simp at ht;subst ht;obtain⟨v,b,a⟩:=h.get h0;grind
 |succ j=>simp at ht
theorem Xj(R:Rel aC nt φ S env J n a w)(s:o.op= .alloc ty)(b:kU P ty=some cs)(G:cs.length≠0)(F:cs.length<=2^24)
 {p v J'}(r:n key=false)(h:aO (.allocA cs) env J key=some (p,v,J'))(H:p):Good P aC nt env J' (ins n key) a v ((execOp a.eval o).run P w):=by
 simp only[aO,bb,bB]at h;obtain⟨ts,f,rfl,rfl,rfl⟩:=h;obtain⟨i,z,q,b,d,E⟩:=u1 (φ:=φ) (w:=w) (S:=S) (n:=n) b;have D:=tC f d;have I:=zg f;have g:=R.alloc (.cells z.cells.toList.toArray ty);have m:=R.xB (.cells z.cells.toList.toArray ty);have K:z.cells.toList.length=cs.length:=d.length.symm
 have l:=g.jQ r (x:= .arr 1 (ts.map λt=>[t])) (w.heap.size,cs.length) rfl (by
  simp only[c1,dA,gy];refine⟨by omega,by unfold eG;omega,?_,by omega,λ_=>⟨z.cells.toList,ty,pL,by omega,λi j e t he ht=>?_,λj h=>?_⟩⟩
  . grind
  . obtain⟨v,A,u⟩:=Xi D i j e t he ht;exact⟨v,A,cf.mono m u⟩
  . have:=R.bP.st _ _ h
    omega) (λ_=>⟨λk y B h0=>by
     have:=(R.bP.blk k y B).ki h0
     simp;omega,.inr R.ext.size⟩)
 refine⟨.pointer (some ⟨w.heap.size,0,none⟩),_,S,_,.inl ?_,.c ?_,by simp[V.aA,C.aA,ins],l⟩
 . simp[execOp,s,Instr.alloc,zeroValue,typeInfo,q,b,newVar,newRow]
 . simp[bm,dA]
theorem Ze(R:Rel aC nt φ S env J n a w){i:Operand}(u:o.op= .indexAddr ty x i){k:Nat}(D:P.underlying ty=some (.array k e))(B:eI P e=some 1)
 {f d:aP}(E:bK x=some f)(s:bK i=some d)
 {p v J'}(F:n key=false)(h:aO (.idxP k f d) env J key=some (p,v,J'))(y:p):Good P aC nt env J' (ins n key) a v ((execOp a.eval o).run P w):=by
 simp only[aO,bp]at h;obtain⟨⟨I,L⟩,r,⟨H,K⟩,q,he⟩:=h;simp only at he;split at he
 . rename_i b kk m;simp only[bF,bB]at he;obtain⟨rfl,rfl,rfl⟩:=he;obtain⟨z,A,t,G⟩:=y;have al:=cz R E r z;have h1:=al.1.hQ;have g:=(cz R s q A).1.gn;have j:(Addr.add ⟨(φ b).1,0,none⟩ (m.toNat*1):Addr)=⟨(φ b).1,m.toNat*1+0,none⟩:=by
    unfold Addr.add;split
    . grind
    . simp
   refine Good.pure R (x:= .pointer (some ⟨(φ b).1,m.toNat*1+0,none⟩)) ?_ (.c ?_) (by simpa[V.aA,C.aA]using al.2)
   . have l:0<=m/\m<(k:Int):=⟨t,by omega⟩
     simp only[execOp,u,h1,g,Instr.indexAt,asIntOf,Instr.sureAddr,Sem.run_bind,run_underlying D,Result.andThen_ok,Sem.run_pure,ad l,j7 B,j]
   . simp[bm]
 . cases he
theorem Zf(R:Rel aC nt φ S env J n a w){g:IntKind}{m:Int}(u:o.op= .indexAddr ty x (.const (.int g m))){k:Nat}(z:P.underlying ty=some (.array k e))
 (h0:0<=m/\m.toNat<k){s:Nat}(hs:eI P e=some s){i:aP}(A:bK x=some i)
 {p v J'}(B:n key=false)(h:aO (.fldA (m.toNat*s) i) env J key=some (p,v,J'))(y:p):Good P aC nt env J' (ins n key) a v ((execOp a.eval o).run P w):=by
 simp only[aO,bp]at h;obtain⟨⟨C,D⟩,t,he⟩:=h;simp only at he;have j:a.eval (.const (.int g m))= .int g m:=rfl;have r:0<=m/\m<(k:Int):=⟨h0.1,by omega⟩
 have d:∀(b off:Nat),a.eval x= .pointer (some ⟨b,off,none⟩)->(execOp a.eval o).run P w= .ok (.value (.pointer (some ⟨b,off+m.toNat*s,none⟩))) w:=by
  intro b off e;have l:(Addr.add ⟨b,off,none⟩ (m.toNat*s):Addr)=⟨b,off+m.toNat*s,none⟩:=by
   unfold Addr.add;split
   . rename_i q;rw[q];rfl
   . rfl
  simp only[execOp,u,e,j,Instr.indexAt,asIntOf,Instr.sureAddr,Sem.run_bind,run_underlying z,Result.andThen_ok,Sem.run_pure,ad r,j7 hs,l]
 split at he<;>simp only[bF,bB,reduceCtorEq]at he
 all_goals
  obtain⟨rfl,rfl,rfl⟩:=he;have al:=cz R A t y;have h1:=al.1.dW
 . simp only[bm]at h1;exact Good.pure R (d _ _ h1) (.c rfl) al.2
 . simp only[bm]at h1;exact Good.pure R (d _ _ h1) (.c (by simp[bm,p5])) al.2
 . obtain⟨blk,off,f,h1,aa⟩:=h1;exact Good.pure R (d _ _ h1) (.c ⟨blk,off,f,by simp[p5],aa⟩) al.2
theorem Zg(R:Rel aC nt φ S env J n a w){i:Option Operand}(A:o.op= .slice ty x j i none){k:Nat}(I:P.underlying ty=some (.array k e))(G:eI P e=some 1)
 {g:aP}{f d:Option aP}(K:bK x=some g)(z:kh j=some f)(y:kh i=some d)
 {p v J'}(U:n key=false)(h:aO (.slcP k g f d) env J key=some (p,v,J'))(B:p):Good P aC nt env J' (ins n key) a v ((execOp a.eval o).run P w):=by
 simp only[aO,bp]at h;obtain⟨⟨Y,Z⟩,u,⟨pl,l⟩,t,⟨X,h⟩,s,he⟩:=h;simp only at he;split at he
 . rename_i b;simp only[bF,bB]at he;obtain⟨rfl,rfl,rfl⟩:=he;obtain⟨D,E,F,h0,h1,m⟩:=B;have al:=cz R K u D;have M:=al.1.hQ;have af:=qH R z t E;have aa:=qH R y s F;have r:=CN (P:=P) (w:=w) (isSlice:=false) (cap:=k) af aa h0 h1 m (ef _);generalize Q:(l.getD 0).toNat=L at*;generalize N:(h.getD (k:Int)).toNat=H at*;have T:L<=H:=(by omega);have O:H<=k:=(by omega);have q:(Addr.add ⟨(φ b).1,0,none⟩ (L*1):Addr)=⟨(φ b).1,L*1,none⟩:=by
    unfold Addr.add;split
    . grind
    . simp
   refine Good.pure R (x:= .slice (some (if k=L then⟨(φ b).1,0,none⟩else(Addr.add ⟨(φ b).1,0,none⟩ (L*1)))) (H-L) (k-L)) ?_ (.c ⟨_,_,rfl,?_,by omega⟩) (by simpa[V.aA,C.aA]using al.2)
   . simp[execOp,A,Instr.sliceAt,Instr.sureAddr,underlying,I,M,r,j7 G]
   . intro W;rw[bq,q]
 . cases he
theorem Zh{s:aj}(a:bytesOf es=some s):∀{xs:List Value},(∀(i:Nat) t,es[i]?=some [t]->∃v,xs[i]?=some v/\cf w S t v)->xs.length=es.length->
 ∃aI:aq,xs=aI.map (Value.int .u8)/\s=aI.map λm=>UInt8.ofNat m.toNat:=by
 induction es generalizing s with
 |nil=>intro xs _ af;simp[bytesOf]at a;subst a;exact⟨[],by simpa using af,rfl⟩
 |cons e es ih=>
  intro xs c af;unfold bytesOf at a;split at a
  . rename_i b;cases b
  . rename_i m r b;cases b;simp only[bb]at a;obtain⟨k,j,rfl⟩:=a;cases xs with
    |nil=>simp at af
    |cons x xs=>
     obtain⟨v,d,g⟩:=c 0 _ rfl;simp at d;subst d;cases g;obtain⟨aI,rfl,rfl⟩:=ih j (xs:=xs) (λi t f=>by simpa using c (i+1) t (by simpa using f)) (by simpa using af);exact⟨m::aI,rfl,rfl⟩
  . cases a
theorem Zi(aI:aq):∀(s:ByteArray),(aI.foldl (λr m=>r.push (UInt8.ofNat m.toNat)) s).data.toList=s.data.toList++aI.map λm=>UInt8.ofNat m.toNat:=by
 induction aI with
 |nil=>intro s;simp
 |cons m aI ih=>intro s;rw[List.foldl_cons,ih];simp[ByteArray.push]
theorem SV{s:aj}(a:bytesOf es=some s):∀(i:Nat) e,es[i]?=some e->∃t,e=[t]:=by
 induction es generalizing s with
 |nil=>intro i e h;simp at h
 |cons cX es ih=>
  unfold bytesOf at a;split at a
  . grind
  . rename_i m r b;cases b;simp only[bb]at a;grind
  . cases a
theorem DQ{f d:TypeId}(hs:P.underlying f=some (.slice e))(he:P.underlying e=some (.int .u8))(q:P.underlying d=some .string){str:aj}{a:Option Addr}{len cap b:Nat}
 (af:es.length=len)(c:bytesOf es=some str)(p:len≠0->a=some ⟨b,off,none⟩)(x:∀(i:Nat) t,es[i]?=some [t]->∃v,w.cell? ⟨b,off+i,none⟩=some v/\cf w S t v):
 ∃bs:ByteArray,(convert f d (.slice a len cap)).run P w= .ok (.string bs) w/\bs.data.toList=str:=by
 rw[run_convert_bytes_string w f d e a len cap hs he q];by_cases h0:len=0
 . have r:es=[]:=jR (by omega);subst r;simp[bytesOf]at c;subst c;subst h0;cases a with
   |none=>exact⟨.empty,by simp[Conv.bytesToString],rfl⟩
   |some a0=>
    have:=run_bytesToString (P:=P) w a0 0 cap [] (by simp[loadCells,loadCellsFrom]);exact⟨_,this,rfl⟩
 . rw[p h0];have y:∀i,i<len->∃t v,es[i]?=some [t]/\w.cell? ⟨b,off+i,none⟩=some v/\cf w S t v:=by
    intro i s;have h1:=eH (l:=es) (i:=i) (by omega);obtain⟨t,ht⟩:=SV c i _ h1;grind
   have al:∀i,i<len->((List.range len).map λi=>(w.cell? ⟨b,off+i,none⟩).getD undef)[i]?=w.cell? ⟨b,off+i,none⟩:=(by grind);obtain⟨aI,h1,k⟩:=Zh (w:=w) (S:=S) c (xs:=(List.range len).map λi=>(w.cell? ⟨b,off+i,none⟩).getD undef) (λi t s=>by grind) (by simp[af]);have g:=yW (P:=P) (w:=w) (b:=b) (o:=off) (m:=len) (xs:=(List.range len).map λi=>(w.cell? ⟨b,off+i,none⟩).getD undef) (by simp) (λj u=>(al j u).symm);rw[h1]at g;have n:=run_bytesToString (P:=P) w ⟨b,off,none⟩ len cap aI g;exact⟨_,n,by rw[Zi,k];rfl⟩
theorem FX:∀{es:List (List T)} {s:aj},bytesOf es=some s->s.length=es.length
 |[],s,h=>by simp[bytesOf]at h;subst h;rfl
 |e::es,s,h=>by
  unfold bytesOf at h;split at h
  . grind
  . rename_i m r a;cases a;simp only[bb]at h;obtain⟨c,b,rfl⟩:=h;simp[FX b]
  . cases h
theorem aab(R:Rel aC nt φ S env J n a w){B u:TypeId}(V:o.op= .convert B u x)(hs:P.underlying B=some (.slice e))(he:P.underlying e=some (.int .u8))(y:P.underlying u=some .string){G:aP}(ae:bK x=some G)
 {p v J'}(ai:n key=false)(h:aO (.b2s G) env J key=some (p,v,J'))(W:p):Good P aC nt env J' (ins n key) a v ((execOp a.eval o).run P w):=by
 simp only[aO,bp,bb,bB]at h;obtain⟨⟨am,an⟩,I,⟨q,str⟩,g,rfl,rfl,rfl⟩:=h;obtain⟨X,z⟩:=W;have al:=cz R ae I X
 suffices aa:∃d len cap,a.eval x= .slice d len cap/\str.length<=eG/\∃bs:ByteArray,(convert B u (.slice d len cap)).run P w= .ok (.string bs) w/\bs.data.toList=str by
  obtain⟨d,len,cap,h1,r,bs,H,C⟩:=aa;have N:bs.size<=eC:=by rw[<-qK,C];unfold eG at r;unfold eC;omega
  refine Good.pure R (x:= .string bs) ?_ (.c ?_) rfl
  . simp[execOp,V,h1,H]
  . show cf w S _ _;rw[<-C];exact .str bs N
 have A:∀ (b off len:Nat) (es:List (List T)) (d:Option Addr) (cap:Nat),aW J b = some (.arr 1 es)->off+len<=es.length->bytesOf ((es.drop off).take len) = some str->(len≠0->d = some ⟨(φ b).1,off*1,none⟩)->((φ b).2≠0\/len = 0)->a.eval x = .slice d len cap->
  ∃d len cap,a.eval x= .slice d len cap/\str.length<=eG/\∃bs:ByteArray,(convert B u (.slice d len cap)).run P w= .ok (.string bs) w/\bs.data.toList=str:=by
  intro b off len es d cap M K j L h0 F;obtain⟨h1,r,H,C,ba⟩:=R.bP.blk b _ M;have af:((es.drop off).take len).length=len:=by simp;omega
  refine⟨d,len,cap,F,by rw[FX j,af];omega,?_⟩;refine DQ (S:=S) hs he y af j L ?_;intro i t k;rw[ln]at k;split at k
  . rename_i ah;rw[ry]at k;rcases h0 with h0|h0
    . obtain⟨vs,E,aa,ak,Y,_⟩:=ba h0;obtain⟨v,ab,ad⟩:=Y _ 0 _ t k rfl;refine⟨v,?_,ad⟩;rw[ju aa];simpa using ab
    . omega
  . cases k
 dsimp only at g I al;unfold m' at g;split at g
 . rename_i es;simp only[bb,bB]at g;obtain⟨s,j,rfl,rfl⟩:=g;obtain⟨d,cap,sz,b,off,f,h1,ag,U,aj,l,O,F⟩:=cf.kl al.1.dW;refine⟨d,es.length,cap,h1,by rw[FX j];exact U,?_⟩;by_cases D:es=[]
   . subst D;exact DQ (S:=S) (b:=0) (off:=0) hs he y rfl j (by simp) (by simp)
   . have Z:sz=1:=by
      obtain⟨cX,Q⟩:=BB es D;obtain⟨i,k⟩:=Fe.1 Q;obtain⟨t,rfl⟩:=SV j i _ k;grind
     subst Z;refine DQ (S:=S) (b:=b) (off:=off) hs he y rfl j (λ_=>l D) ?_;intro i t k;have aB:=(c5.1 k).1;have r:=O i 0 aB (by omega);exact⟨f i 0,by simpa using r.2,F i 0 _ t k rfl⟩
 . cases g;obtain⟨d,h1⟩:=al.1.dW;exact⟨d,0,0,h1,by simp,DQ (S:=S) (es:=[]) (b:=0) (off:=0) hs he y rfl rfl (by simp) (by simp)⟩
 . rename_i b off len;split at g
   . rename_i es m;simp only[bb,bB]at g;obtain⟨s,j,rfl,rfl⟩:=g;obtain⟨d,h1,l,K⟩:=bm.gY al.1.dW;by_cases h0:(φ b).2=0
     . exact A b off len es d _ m z j (λh=>by omega) (.inr (by omega)) h1
     . exact A b off len es d _ m z j (λ_=>l h0) (.inl h0) h1
   . cases g
 . rename_i b off len;split at g
   . rename_i es m;simp only[bb,bB]at g;obtain⟨s,j,rfl,rfl⟩:=g;obtain⟨d,cap,h1,l,K⟩:=al.1.dW;obtain⟨r,_⟩:=R.bP.blk b _ m;by_cases h0:len=0
     . exact A b off len es d _ m z j l (.inr h0) h1
     . exact A b off len es d _ m z j l (.inl (by omega)) h1
   . cases g
 . cases g
end
end
end Go.Proofs.YtdjagncoefjfeaaGreat.Shv
