/- The library of this proof, part A: an abstract machine for the code of the program, and its soundness. -/
import Derived.LoopN
import Derived.Calls
import Derived.Laws.Sem
import Derived.Laws.World
import Derived.Laws.Cells
import Derived.Below
import Derived.Laws.Strings
import Derived.Laws.StructEq
import Derived.Laws.BytesString

namespace Go.Proofs.YtdjagncoefjfeaaGreat.Shv
set_option linter.all false
abbrev aj:=List UInt8
abbrev aq:=List Int
abbrev a6:=List Nat
section
def ad:=@if_pos
def al:=@if_neg
def bK:=@Bool.false_eq_true
def bG:=@Option.some.injEq
def bE:=@Prod.mk.injEq
def c7:=@List.getElem?_eq_some_iff
def cc:=@Bool.and_eq_true
def dC:=@Option.ite_none_right_eq_some
def c4:=@List.length_append
def c0:=@List.all_eq_true
def eF:=@List.getElem?_eq_getElem
def dq:=@decide_eq_true_eq
def ef:=@List.drop_eq_nil_of_le
def bT:=@if_false
def cW:=@Bool.not_true
def bJ:=@if_true
def cZ:=@decide_false
def eJ:=@List.mem_of_getElem?
def eY:=@Nat.mul_le_mul_right
def eS:=@List.getElem_of_mem
def c9:=@decide_true
def e7:=@List.flatMap_cons
def eG:=@Bool.not_false
def ea:=@Nat.le_refl
def eK:=@List.mem_map
def dV:=@cond_false
def jS:=@List.eq_nil_of_length_eq_zero
def dK:=@cond_true
def fS:=@List.nil_append
def fe:=@List.mem_cons
def gV:=@of_decide_eq_true
def f':=@Option.map_some
def ga:=@List.mem_append
def fF:=@List.drop_zero
def dS:=@congrArg
def hr:=@List.append_assoc
def gA:=@List.length_map
def dL:=@Ne.symm
def gB:=@List.map_cons
def gb:=@Nat.zero_add
def ia:=@List.length_cons
def hO:=@Bool.or_eq_true
def lp:=@List.drop_eq_getElem_cons
def jh:=@List.pairwise_cons
def ib:=@List.length_nil
def gf:=@Nat.add_mul
def iy:=@List.length_set
def ki:=@List.getD_cons_zero
def hP:=@Nat.le_trans
def lX:=@List.take_of_length_le
def n5:=@List.getElem?_append_left
def lq:=@beq_eq_false_iff_ne
def kQ:=@List.contains_nil
def lr:=@List.getElem?_take
def p3:=@List.getElem?_append_right
def ji:=@Bool.or_false
def ic:=@Nat.zero_le
def p4:=@List.pairwise_iff_getElem
def jT:=@decide_eq_true
def n9:=@Option.map_eq_some_iff
def lY:=@Nat.lt_of_lt_of_le
def lZ:=@List.contains_cons
def l0:=@Int.emod_lt_of_pos
def kR:=@Option.some.inj
def lu:=@Option.getD_some
def l1:=@List.length_drop
def iP:=@beq_iff_eq
def p5:=@List.mem_of_mem_take
def p6:=@Bool.or_eq_false_iff
def l3:=@List.append_nil
def l4:=@Int.emod_nonneg
def tT:=@List.mem_or_eq_of_mem_set
def tU:=@List.getElem?_eq_none_iff
def n':=@List.getElem?_map
def oa:=@Int.toNat_natCast
def ob:=@List.pairwise_map
def tV:=@Option.bind_eq_some_iff
def oc:=@Nat.mod_eq_of_lt
def od:=@List.length_take
def p7:=@Bool.not_eq_true'
def rE:=@Array.length_toList
def rF:=@List.getElem?_drop
def l5:=@Nat.add_zero
def mM:=@Bool.true_and
def kj:=@and_false
def p8:=@List.map_append
def tW:=@List.length_pos_iff
def mN:=@exists_false
def mO:=@List.all_map
def oe:=@List.all_cons
def yq:=@Array.getElem?_eq_some_iff
def yr:=@Int.tdiv_eq_ediv_of_nonneg
def og:=@List.sum_cons
def rG:=@List.cons_append
def yt:=@Option.isSome_iff_exists
def rH:=@List.mem_filter
def wx:=@BitVec.ofInt_natCast
def wy:=@Nat.pow_le_pow_right
def BN:=@List.find?_eq_some_iff_getElem
def p9:=@Nat.add_assoc
def x':=@List.getElem?_cons_zero
def ya:=@decide_eq_false_iff_not
def Bv:=@Option.ite_none_left_eq_some
def rC:=@Int.toNat_zero
def Bw:=@Array.getD_eq_getD_getElem?
def wh:=@List.mem_singleton
def p1:=@List.map_nil
def wi:=@BitVec.toNat_ofNat
def yb:=@List.take_append_drop
def tR:=@decide_eq_false
def Bx:=@List.exists_mem_of_ne_nil
def By:=@Array.getElem?_eq_getElem
def Bz:=@List.eq_of_mem_replicate
def wj:=@List.any_eq_true
def yc:=@List.getD_cons_succ
def yd:=@Int.toNat_of_nonneg
def BA:=@List.getElem?_cons_succ
def BB:=@Int.eq_ofNat_of_zero_le
def ye:=@List.find?_eq_none
def yf:=@List.ext_getElem?
def yg:=@List.take_add_one
def BC:=@Array.getElem?_modify
def BD:=@List.getElem?_toArray
def wk:=@List.mem_range
def BE:=@Nat.le_of_ble_eq_true
def wm:=@List.nodup_nil
def tS:=@List.sum_nil
def BF:=@List.mem_of_mem_drop
def BG:=@List.getElem?_zipIdx
def BH:=@List.mem_append_left
def yh:=@Bool.cond_eq_ite
def wo:=@Bool.and_true
def E2:=@List.getD_eq_getElem?_getD
def yi:=@List.cons.injEq
def E3:=@List.mem_of_find?_eq_some
def wq:=@Nat.le_of_eq
def wu:=@Nat.mul_comm
def wv:=@exists_const
def p2:=@and_true
def yj:=@List.drop_drop
def E4:=@Nat.le_mul_of_pos_right
def E5:=@List.filter_cons_of_neg
def E6:=@List.filter_cons_of_pos
def BI:=@Nat.lt_trichotomy
def BJ:=@List.getElem?_set
def yk:=@List.map_take
def rD:=@true_and
def E7:=@Array.getElem?_toList
def E8:=@List.mem_iff_getElem?
def E9:=@Bool.and_eq_false_iff
def yl:=@Nat.add_comm
def ym:=@Nat.zero_mul
def E':=@List.contains_eq_mem
def Q':=@List.eq_nil_iff_forall_not_mem
def Fa:=@List.mem_cons_of_mem
def yn:=@Nat.beq_refl
def yo:=@Nat.pow_succ
def Fb:=@List.pairwise_append
def Fc:=@List.flatMap_append
def Ra:=@Array.getElem?_setIfInBounds
def Fe:=@List.mem_cons_self
def BK:=@List.map_drop
def Ff:=@List.any_eq_false
def Fg:=@Bool.eq_false_iff
def yp:=@Nat.mod_lt
def BL:=@Nat.sub_self
def Fh:=@List.getElem_mem
def Fi:=@List.range'_succ
def Fj:=@List.ext_getElem
def Fk:=@List.mem_flatMap
def Fl:=@List.nodup_range
def BM:=@Bool.true_or
variable{c:Prop}{α a:Type}{R:α->a->Prop}
theorem fv{h:Decidable c}(a:c:=by omega){α:Sort _}{t e:α}:ite c t e=t:=if_pos a
theorem bu{h:Decidable c}(a:c:=by simp;omega){α:Sort _}{t e:α}:ite c t e=t:=if_pos a
theorem hq{h:Decidable c}(a:c:=by simp){α:Sort _}{t e:α}:ite c t e=t:=if_pos a
theorem bp{h:Decidable c}(a:¬c:=by omega){α:Sort _}{t e:α}:ite c t e=e:=if_neg a
theorem ch{h:Decidable c}(a:¬c:=by simp;omega){α:Sort _}{t e:α}:ite c t e=e:=if_neg a
theorem bq{h:Decidable c}(a:¬c:=by simp){α:Sort _}{t e:α}:ite c t e=e:=if_neg a
theorem bc{α:Type _}{b:α}{c:Type _}{x:Option c}{f:c->α}:Option.map f x=some b↔∃a,x=some a/\f a=b:=n9
theorem bo{α:Type _}{b:α}{c:Type _}{x:Option c}{f:c->Option α}:x.bind f=some b↔∃a,x=some a/\f a=some b:=tV
theorem ak{α:Type _}{b:Type _}(a:α)(f:α->Option b):(some a).bind f=f a:=Option.bind_some ..
theorem aT.{u}{α a:Type u}:(bind:Option α->(α->Option a)->Option a)=Option.bind:=Option.bind_eq_bind
open Go
inductive T where
 |bool (b:Bool)
 |int (k:IntKind)(n:Int)
 |str (s:aj)
 |slice (es:List (List T))
inductive C where
 |t (x:T)
 |ptr (b o:Nat)
 |cH (b sz i o:Nat)
 |dO (ts:List T)(o:Nat)
 |arr (b sz off len:Nat)
 |fx (b sz off len:Nat)
 |mp (b:Nat)
 |eg (b:Nat)
 |cI (b len:Nat)
 |aF
 |e4
 |e3
 |fn (f:Nat)(caps:a6)
 |dead
inductive V where
 |c (x:C)
 |agg (cs:List C)
 |aY (vs:List V)
inductive bO where
 |box (cs:List C)
 |arr (sz:Nat)(es:List (List T))
 |set (ks:List aj)
 |buf (E:TypeId)(s:aj)
 |b8 (E:TypeId)(c:C)
 |cA (sz:Nat)(es:List (List T))(i o:Nat)(c:C)
abbrev dT:=Nat->Nat->Prop
abbrev dE:=Nat->Nat×Nat
def ez:Nat:=9223372036854775807
def eE:Nat:=281474976710656
inductive cd (w:World)(S:dT):T->Value->Prop
 |bool (b:Bool):cd w S (.bool b) (.bool b)
 |int (k:IntKind) (n:Int):cd w S (.int k n) (.int k n)
 |str (s:ByteArray) (h:s.size<=ez):cd w S (.str s.data.toList) (.string s)
 |slice (es:List (List T)) (a:Option Addr) (cap sz b o:Nat) (f:Nat->Nat->Value)
  (ahc:es.length<=cap) (ahg:es.length<=eE)
  (ahl:∀e,e∈es->e.length=sz)
  (xw:es≠[]->a=some ⟨b,o,none⟩)
  (QZ:∀i j,i<es.length->j<sz->S b (o+i*sz+j)/\w.cell? ⟨b,o+i*sz+j,none⟩=some (f i j))
  (Q0:∀i j e t,es[i]?=some e->e[j]?=some t->cd w S t (f i j)):
  cd w S (.slice es) (.slice a es.length cap)
structure gu (w:World)(S:dT)(w':World)(bQ:dT):Prop where
 sub:∀b j,S b j->bQ b j
 cell:∀b j,S b j->w'.cell? ⟨b,j,none⟩=w.cell? ⟨b,j,none⟩
theorem gu.refl(w:World)(S:dT):gu w S w S:=⟨λ_ _ h=>h,λ_ _ _=>rfl⟩
theorem gu.trans{w S w' bQ e c}(h:gu w S w' bQ)(k:gu w' bQ e c):gu w S e c:=
 ⟨λb j a=>k.sub b j (h.sub b j a),λb j a=>(k.cell b j (h.sub b j a)).trans (h.cell b j a)⟩
theorem cd.mono{w S w' bQ}(m:gu w S w' bQ){t v}(h:cd w S t v):cd w' bQ t v:=by
 induction h with
 |bool b=>exact .bool b
 |int k n=>exact .int k n
 |str s h=>exact .str s h
 |slice es a cap sz b o f u x y q c z ih=>
  exact .slice es a cap sz b o f u x y q
   (λi j e p=>⟨m.sub _ _ (c i j e p).1,by rw[m.cell _ _ (c i j e p).1];exact(c i j e p).2⟩) ih
theorem cd.jj{w S t v}(h:cd w S t v):v.oneCell'=true:=by cases h<;>rfl
def bk(φ:dE)(w:World)(S:dT):C->Value->Prop
 |.t x,v=>cd w S x v
 |.ptr b o,v=>v= .pointer (some ⟨(φ b).1,o,none⟩)
 |.cH b sz i o,v=>v= .pointer (some ⟨(φ b).1,i*sz+o,none⟩)
 |.dO ts o,v=>∃ (blk off:Nat) (f:Nat->Value),v = .pointer (some ⟨blk,off+o,none⟩)/\
  ∀j t,ts[j]?=some t->S blk (off+j)/\w.cell? ⟨blk,off+j,none⟩=some (f j)/\cd w S t (f j)
 |.arr b sz off len,v=>∃a,v= .slice a len ((φ b).2-off)/\((φ b).2≠0->a=some ⟨(φ b).1,off*sz,none⟩)/\off+len<=(φ b).2
 |.fx b sz off len,v=>∃a cap,v= .slice a len cap/\(len≠0->a=some ⟨(φ b).1,off*sz,none⟩)/\len<=cap
 |.mp b,v=>v= .map (some (φ b).1)
 |.cI b len,v=>len<=(φ b).2/\((φ b).2=0->v= .slice none 0 0)/\((φ b).2≠0->v= .slice (some ⟨(φ b).1,0,none⟩) len (φ b).2)
 |.eg b,v=>∃p,v= .pointer p/\((φ b).2≠0->p=some ⟨(φ b).1,0,none⟩)
 |.aF,v=>∃a,v= .slice a 0 0
 |.e4,v=>v= .pointer none
 |.e3,v=>v= .nilFunc
 |.fn f caps,v=>v= .func (.func f) #[] (caps.map λb=>Value.pointer (some ⟨(φ b).1,0,none⟩)).toArray
 |.dead,v=>v.oneCell'=true
theorem bk.jj{φ w S c v}(h:bk φ w S c v):v.oneCell'=true:=by
 cases c with
 |t x=>exact cd.jj h
 |dO ts o=>obtain⟨_,_,_,rfl,_⟩:=h;rfl
 |arr b sz off len=>obtain⟨_,rfl,_⟩:=h;rfl
 |fx b sz off len=>obtain⟨_,_,rfl,_⟩:=h;rfl
 |eg b=>obtain⟨_,rfl,_⟩:=h;rfl
 |cI b len=>
  by_cases h0:(φ b).2=0
  . rw[h.2.1 h0];rfl
  . rw[h.2.2 h0];rfl
 |aF=>obtain⟨_,rfl⟩:=h;rfl
 |dead=>exact h
 |_=>cases h;rfl
def C.az(n:Nat->Bool):C->Bool
 |.ptr b _=>n b
 |.cH b _ _ _=>n b
 |.arr b _ _ _=>n b
 |.fx b _ _ _=>n b
 |.mp b=>n b
 |.eg b=>n b
 |.cI b _=>n b
 |.fn _ caps=>caps.all λb=>n b
 |_=>true
def V.az(n:Nat->Bool):V->Bool
 |.c x=>x.az n
 |.agg cs=>cs.all (C.az n)
 |.aY vs=>V.dF n vs
where V.dF (n:Nat->Bool):List V->Bool
 |[]=>true
 |v::vs=>v.az n&&V.dF n vs
theorem bk.mono{φ p:dE}{w S w' bQ}(m:gu w S w' bQ){n:Nat->Bool}(e:∀b,n b=true->p b=φ b){c v}(a:c.az n=true)(h:bk φ w S c v):bk p w' bQ c v:=by
 cases c with
 |t x=>exact cd.mono m h
 |ptr b o=>simp only[C.az]at a;simp only[bk,e b a]at h⊢;exact h
 |cH b sz i o=>simp only[C.az]at a;simp only[bk,e b a]at h⊢;exact h
 |dO ts o=>
  obtain⟨blk,off,f,rfl,aa⟩:=h;exact⟨blk,off,f,rfl,λj t ht=>⟨m.sub _ _ (aa j t ht).1,by rw[m.cell _ _ (aa j t ht).1];exact(aa j t ht).2.1,cd.mono m (aa j t ht).2.2⟩⟩
 |arr b sz off len=>simp only[C.az]at a;simp only[bk,e b a]at h⊢;exact h
 |fx b sz off len=>simp only[C.az]at a;simp only[bk,e b a]at h⊢;exact h
 |mp b=>simp only[C.az]at a;simp only[bk,e b a]at h⊢;exact h
 |eg b=>simp only[C.az]at a;simp only[bk,e b a]at h⊢;exact h
 |cI b len=>simp only[C.az]at a;simp only[bk,e b a]at h⊢;exact h
 |aF=>exact h
 |e4=>exact h
 |e3=>exact h
 |fn f caps=>
  simp only[bk]at h⊢;rw[h]
  congr 2
  apply List.map_congr_left;intro b q;simp only[C.az,c0]at a;grind
 |dead=>exact h
inductive a8 {α β:Type}(R:α->β->Prop):List α->List β->Prop
 |nil:a8 R [] []
 |cons {a b l m}:R a b->a8 R l m->a8 R (a::l) (b::m)
theorem a8.imp{f:Type}{R R':α->f->Prop}{l m}(h:a8 R l m)(k:∀a b,a∈l->R a b->R' a b):a8 R' l m:=by
 induction h with
 |nil=>exact .nil
 |cons e _ ih=>exact .cons (k _ _ (by simp) e) (ih λa b c=>k a b (by simp[c]))
theorem a8.length{l:List α}{m:List a}(h:a8 R l m):l.length=m.length:=by
 induction h with
 |nil=>rfl
 |cons _ _ ih=>simp[ih]
variable{e:Type}
theorem a8.get{R:α->e->Prop}{l:List α}{m:List e}(h:a8 R l m){i:Nat}{a:α}(c:l[i]?=some a):∃b,m[i]?=some b/\R a b:=by
 induction h generalizing i with
 |nil=>simp at c
 |cons f _ ih=>cases i with
  |zero=>simp at c;subst c;exact⟨_,by simp,f⟩
  |succ i=>simp at c;simpa using ih c
theorem a8.lv{c:Type}{R:α->c->Prop}:∀{l:List α} {m:List c},l.length=m.length->(∀(i:Nat) a b,l[i]?=some a->m[i]?=some b->R a b)->a8 R l m
 |[],[],_,_=>.nil
 |[],_::_,h,_=>by simp at h
 |_::_,[],h,_=>by simp at h
 |a::l,b::m,h,k=>.cons (k 0 a b (by simp) (by simp)) (a8.lv (by simpa using h) λi x y e f=>k (i+1) x y (by simpa using e) (by simpa using f))
theorem a8.append{R:α->e->Prop}{l a:List α}{m c:List e}(h:a8 R l m)(f:a8 R a c):a8 R (l++a) (m++c):=by
 induction h with
 |nil=>exact f
 |cons j _ ih=>exact .cons j ih
theorem a8.drop{l:List α}{m:List a}(h:a8 R l m)(k:Nat):a8 R (l.drop k) (m.drop k):=by
 induction h generalizing k with
 |nil=>simp;exact .nil
 |cons c ht ih=>cases k with
  |zero=>exact .cons c ht
  |succ k=>simpa using ih k
theorem a8.take{l:List α}{m:List a}(h:a8 R l m)(k:Nat):a8 R (l.take k) (m.take k):=by
 induction h generalizing k with
 |nil=>simp;exact .nil
 |cons c _ ih=>cases k with
  |zero=>exact .nil
  |succ k=>exact .cons c (ih k)
inductive ck (φ:dE)(w:World)(S:dT):V->Value->Prop
 |c {x v}:bk φ w S x v->ck φ w S (.c x) v
 |agg {cs vs}:a8 (bk φ w S) cs vs->ck φ w S (.agg cs) (.agg vs.toArray)
 |aY (vs:List V) (xs:List Value) (ae:vs.length = xs.length) (h:∀ (i:Nat) v x,vs[i]? = some v->xs[i]? = some x->ck φ w S v x):
  ck φ w S (.aY vs) (.tuple xs.toArray)
theorem nB{n:Nat->Bool}:∀{vs:List V} {i:Nat} {v:V},V.az.V.dF n vs=true->vs[i]?=some v->v.az n=true
 |[],_,_,_,h=>by simp at h
 |x::vs,0,v,a,h=>by simp at h;subst h;simp[V.az.V.dF]at a;exact a.1
 |x::vs,i+1,v,a,h=>by simp[V.az.V.dF]at a;exact nB a.2 (by simpa using h)
theorem ck.mono{φ o:dE}{w S w' bQ}(m:gu w S w' bQ){n:Nat->Bool}(j:∀b,n b=true->o b=φ b){x v}(e:V.az n x=true)(h:ck φ w S x v):ck o w' bQ x v:=by
 induction h with
 |c h=>exact .c (bk.mono m j (by simpa[V.az]using e) h)
 |agg h=>exact .agg (h.imp λa b p q=>bk.mono m j (by simp[V.az]at e;exact e a p) q)
 |aY vs xs ae h ih=>exact .aY vs xs ae λi v x f t=>ih i v x f t (nB (by simpa[V.az]using e) f)
end
section
open Go
inductive aS where
 |tmp (t:Nat)
 |const (v:V)
inductive cJ where
 |mov (x:aS)
 |pick (c x y:aS)
 |alloc (cs:List C)
 |box (x:aS)
 |build (zero:List C)(parts:List (Nat×Nat×aS))
 |bslice (sz:Nat)(len:Nat)(zero:List C)(parts:List (Nat×aS))
 |load (agg:Bool)(n:Nat)(x:aS)
 |store (n:Nat)(x v:aS)
 |nilCheck (x:aS)
 |bin (op:BinOp)(x y:aS)
 |eqAgg (neg:Bool)(ks:a6)(x y:aS)
 |eqBool (neg:Bool)(x y:aS)
 |eqNil (neg:Bool)(x:aS)
 |not (x:aS)
 |conv (k:IntKind)(x:aS)
 |i2s (x:aS)
 |s2s (x:aS)
 |fldA (off:Nat)(x:aS)
 |fld (agg:Bool)(off n:Nat)(x:aS)
 |idxA (sz:Nat)(x i:aS)
 |idxS (x i:aS)
 |slcS (x:aS)(n4 Br:Option aS)
 |slc (sz:Nat)(x:aS)(n4 Br:Option aS)
 |slc0 (x:aS)
 |allocA (cs:List C)
 |idxP (n:Nat)(x i:aS)
 |slcP (n:Nat)(x:aS)(n4 Br:Option aS)
 |b2s (x:aS)
 |allocS (e e8:Nat)
 |bsliceT (e sz len:Nat)(zero:List C)(parts:List (Nat×aS))
 |mkset
 |lkset (x k:aS)
 |upset (x k:aS)
 |appendB (e bytes:Nat)(x y:aS)
 |sdata (x:aS)
 |ustr (e:Nat)(x n:aS)
 |mkfn (f:Nat)(caps:List aS)
 |ext (x:aS)(i:Nat)
 |len (str:Bool)(x:aS)
 |append (sz bytes:Nat)(x y:aS)
 |max2 (x y:aS)
 |min2 (x y:aS)
 |call (f:Nat)(args:List aS)
 |iI (x:aS)(args:List aS)
structure cb where
 dst:Option Nat
 op:cJ
 guard:Option (Nat×Bool)
def BO:Value->Option C
 |.bool b=>some (.t (.bool b))
 |.int k n=>some (.t (.int k n))
 |.string s=>if s.size<=ez then some (.t (.str s.data.toList))else none
 |.slice none 0 0=>some .aF
 |.pointer none=>some .e4
 |.nilFunc=>some .e3
 |.nilIface=>some .dead
 |_=>none
def vM:List Value->Option (List C)
 |[]=>some []
 |v::vs=>(BO v).bind λc=>(vM vs).map (c::·)
def IF:Value->Option V
 |.agg cs=>(vM cs.toList).map .agg
 |v=>(BO v).map .c
def bL:Operand->Option aS
 |.tmp t=>some (.tmp t)
 |.const v=>(IF v).map .const
 |.func f=>some (.const (.c (.fn f [])))
 |.global _=>none
def mP:List Operand->Option (List aS)
 |[]=>some []
 |x::xs=>(bL x).bind λa=>(mP xs).map (a::·)
def kl:Option Operand->Option (Option aS)
 |none=>some none
 |some x=>(bL x).map some
def kW(P:Program)(t:TypeId):Option (List C):=
 (P.info? t).bind λi=>i.zero.bind λz=>vM z.cells.toList
def pG(P:Program)(t:TypeId):Option Bool:=
 match P.underlying t with
 |some (.struct _)|some (.array _ _)=>some true
 |some _=>some false
 |none=>none
def eH(P:Program)(t:TypeId):Option Nat:=(P.info? t).map (·.size)
def tj(P:Program)(t:TypeId):Option (Bool×Nat):=
 (pG P t).bind λg=>(eH P t).bind λn=>if g=false->n=1 then some (g,n)else none
def hI(P:Program)(f:Nat):Bool:=
 match P.funcs[f]? with
 |some fn=>fn.body.isSome && !(fn.name == "runtime.NumGoroutine")
 |none=>false
def xA(P:Program)(t:TypeId):Option Nat:=
 match P.underlying t with
 |some .bool=>some 0
 |some (.int _)=>some 1
 |some .string=>some 2
 |_=>none
def zf(P:Program):Nat->List Field->Option a6
 |_,[]=>some []
 |i,f::fs=>if f.offset = i/\f.name≠ "_" then (xA P f.type).bind λk=>(zf P (i+1) fs).map (k :: ·) else none
def Gj(P:Program)(t:TypeId):Option a6:=
 match P.underlying t with
 |some (.struct fs)=>if P.stoodInHeld t=false/\P.eqGuardType P.depth t=false then zf P 0 fs.toList else none
 |_=>none
def Gq(P:Program)(fs:Array Field):Bool:=fs.toList.all λf=>(eH P f.type).isSome
def u6(P:Program)(fs:Array Field):List (Nat×Operand)->Option (List (Nat×Nat×aS))
 |[]=>some []
 |(j,x)::r=>(fs[j]?).bind λf=>(eH P f.type).bind λn=>(bL x).bind λa=>(u6 P fs r).map ((f.offset,n,a)::·)
def vf(n:Nat):List (Nat×Operand)->Option (List (Nat×Nat×aS))
 |[]=>some []
 |(j,x)::r=>(bL x).bind λa=>(vf n r).map ((j*n,n,a)::·)
def pC:List (Nat×Operand)->Option (List (Nat×aS))
 |[]=>some []
 |(j,x)::r=>(bL x).bind λa=>(pC r).map ((j,a)::·)
def mC(P:Program)(c:Call):Option cJ:=
 match c.callee with
 |.builtin .len=>match c.args.toList,c.argTypes.toList with
  |[x],[t]=>match P.underlying t with
   |some .string=>(bL x).map (.len true)
   |some (.slice _)=>(bL x).map (.len false)
   |_=>none
  |_,_=>none
 |.builtin .append=>match c.args.toList,c.argTypes.toList with
  |[x,y],[t,u]=>match P.underlying t,P.underlying u with
   |some (.slice e),some .string=>(P.info? e).bind λi=>(bL x).bind λa=>(bL y).bind λb=>
    if i.size=1/\(i.zero.map (·.cells.size))=some 1/\(match P.underlying e with|some (.int .u8)=>true|_=>false)=true then some (.appendB e i.bytes a b)else none
   |some (.slice e),some (.slice _)=>(P.info? e).bind λi=>(bL x).bind λa=>(bL y).bind λb=>
    if i.size≠0/\(i.zero.map (·.cells.size))=some i.size then some (.append i.size i.bytes a b)else none
   |_,_=>none
  |_,_=>none
 |.builtin .max=>match c.args.toList with
  |[x,y]=>(bL x).bind λa=>(bL y).map λb=>.max2 a b
  |_=>none
 |.builtin .min=>match c.args.toList with
  |[x,y]=>(bL x).bind λa=>(bL y).map λb=>.min2 a b
  |_=>none
 |.builtin .unsafeSliceData=>match c.args.toList,c.argTypes.toList with
  |[x],[t]=>match P.underlying t with
   |some (.slice e)=>if eH P e=some 1 then(bL x).map .sdata else none
   |_=>none
  |_,_=>none
 |.builtin .unsafeString=>match c.args.toList,c.argTypes.toList with
  |[x,n],[t,_]=>match P.underlying t with
   |some (.pointer e)=>if(match P.underlying e with|some (.int .u8)=>true|_=>false)=true/\eH P e=some 1/\P.cellsOf e=1 then(bL x).bind λa=>(bL n).map λb=>.ustr e a b else none
   |_=>none
  |_,_=>none
 |.value (.func f)=>if hI P f then(mP c.args.toList).map (.call f)else none
 |.value (.tmp t)=>(mP c.args.toList).map (.iI (.tmp t))
 |_=>none
def JT(P:Program)(t:TypeId):Bool:=
 match P.info? t with
 |some i=>(match i.desc with|.named n _=>n == "strings.Builder" |_=>false)
 |none=>false
def SZ:List Value->Bool
 |[.pointer none,.slice none 0 0]=>true
 |_=>false
def IG(P:Program)(t:TypeId):Bool:=
 match (P.info? t).bind (·.zero)with
 |some z=>SZ z.cells.toList
 |none=>false
def xO(P:Program)(t:TypeId):Option Nat:=
 if JT P t=true/\IG P t=true then match P.underlying t with
  |some (.struct fs)=>(fs[1]?).bind λf=>match P.underlying f.type with
   |some (.slice e)=>some e
   |_=>none
  |_=>none
 else none
def ta(P:Program)(t:TypeId):Bool:=
 match P.underlying t with
 |some (.map k v)=>(match P.underlying k,P.underlying v with|some .string,some .bool=>true|_,_=>false)&&(match (P.info? v).bind (·.zero)with|some (.bool false)=>true|_=>false)
 |_=>false
def Gr:Operand->Bool
 |.const (.bool true)=>true
 |_=>false
def Hu:Operand->Bool
 |.const (.slice none 0 0)=>true
 |_=>false
def c8(P:Program)(o:Op):Option cJ:=
 match o with
 |.move x|.assign x=>(bL x).map .mov
 |.pick c a b=>(bL c).bind λc=>(bL a).bind λa=>(bL b).map λb=>.pick c a b
 |.alloc e=>match xO P e with
  |some e8=>some (.allocS e e8)
  |none=>(kW P e).bind λcs=>match P.underlying e with
   |some (.array n t)=>if eH P t=some 1/\n=cs.length/\n≠0/\n<=2^24 then some (.allocA cs)else some (.alloc cs)
   |_=>some (.alloc cs)
 |.box _ x=>(bL x).map .box
 |.build t parts=>match P.underlying t with
  |some (.struct fs)=>if Gq P fs then(kW P t).bind λz=>(u6 P fs parts.toList).map λps=>.build z ps else none
  |some (.array _ e)=>(kW P t).bind λz=>(eH P e).bind λn=>(vf n parts.toList).map λps=>.build z ps
  |_=>none
 |.buildSlice t len parts=>match P.underlying t with
  |some (.slice e)=>(eH P e).bind λn=>(kW P e).bind λz=>(pC parts.toList).bind λps=>
   if n≠0/\z.length=n/\len*n<=2^24 then some (.bslice n len z ps)else none
  |_=>none
 |.load t a=>(tj P t).bind λg=>(bL a).map λx=>.load g.1 g.2 x
 |.store t a v=>(eH P t).bind λn=>(bL a).bind λx=>(bL v).map λy=>.store n x y
 |.nilCheck x=>(bL x).map .nilCheck
 |.binOp op t x y _=>
  if op= .eql\/op= .neq then match P.underlying t with
   |some (.struct _)=>(Gj P t).bind λks=>(bL x).bind λa=>(bL y).map λb=>.eqAgg (op== .neq) ks a b
   |some (.slice _)=>if Hu y then(bL x).map (.eqNil (op== .neq))else none
   |some .bool=>(bL x).bind λa=>(bL y).map λb=>.eqBool (op== .neq) a b
   |some (.int _)|some .string=>(bL x).bind λa=>(bL y).map λb=>.bin op a b
   |_=>none
  else(bL x).bind λa=>(bL y).map λb=>.bin op a b
 |.unOp .not _ x=>(bL x).map .not
 |.unOp .neg t x=>match P.underlying t with
  |some (.int k)=>(bL x).map (.bin .sub (.const (.c (.t (.int k 0)))))
  |_=>none
 |.unOp .xor t x=>match P.underlying t with
  |some (.int k)=>(bL x).map (.bin .xor (.const (.c (.t (.int k (if k.signed then -1 else k.max))))))
  |_=>none
 |.convert s d x=>match P.underlying s,P.underlying d with
  |some (.int _),some (.int k)=>(bL x).map (.conv k)
  |some (.int _),some .string=>(bL x).map .i2s
  |some .string,some .string=>(bL x).map .s2s
  |some (.slice e),some .string=>if(match P.underlying e with|some (.int .u8)=>true|_=>false)=true/\eH P e=some 1 then(bL x).map .b2s else none
  |_,_=>none
 |.fieldAddr t x f=>match P.underlying t with
  |some (.struct fs)=>(fs[f]?).bind λj=>(eH P j.type).bind λn=>if n=0 then none else(bL x).map (.fldA j.offset)
  |_=>none
 |.field t x f=>match P.underlying t with
  |some (.struct fs)=>(fs[f]?).bind λj=>(tj P j.type).bind λg=>(bL x).map (.fld g.1 j.offset g.2)
  |_=>none
 |.indexAddr t x i=>match P.underlying t with
  |some (.slice e)=>(eH P e).bind λn=>if n=0 then none else(bL x).bind λa=>(bL i).map λb=>.idxA n a b
  |some (.array n e)=>match i with
   |.const (.int _ m)=>if 0<=m/\m.toNat<n then(eH P e).bind λs=>(bL x).map (.fldA (m.toNat*s))else none
   |i=>if eH P e=some 1 then(bL x).bind λa=>(bL i).map λb=>.idxP n a b else none
  |_=>none
 |.index t x i=>match P.underlying t with
  |some .string=>(bL x).bind λa=>(bL i).map λb=>.idxS a b
  |_=>none
 |.slice t x q p r=>match P.underlying t with
  |some .string=>if r.isNone then(bL x).bind λa=>(kl q).bind λl=>(kl p).map λh=>.slcS a l h else none
  |some (.slice e)=>match r with
   |none=>(eH P e).bind λn=>if n=0 then none else(bL x).bind λa=>(kl q).bind λl=>(kl p).map λh=>.slc n a l h
   |some (.const (.int _ 0))=>match q,p with
    |none,some (.const (.int _ 0))=>if(eH P e).isSome then(bL x).map .slc0 else none
    |_,_=>none
   |_=>none
  |some (.array n e)=>if r.isNone/\eH P e=some 1 then(bL x).bind λa=>(kl q).bind λl=>(kl p).map λh=>.slcP n a l h else none
  |_=>none
 |.makeFunc (.func f) first caps=>if first.isEmpty then(mP caps.toList).map (.mkfn f)else none
 |.extract x i=>(bL x).map λa=>.ext a i
 |.makeMap t none=>if ta P t then some .mkset else none
 |.lookup t x i false=>if ta P t then(bL x).bind λa=>(bL i).map λb=>.lkset a b else none
 |.mapUpdate t m k v=>if ta P t=true/\Gr v=true then(bL m).bind λa=>(bL k).map λb=>.upset a b else none
 |.call c=>mC P c
 |_=>none
def tI(ops:Array Oper):Option (Nat×Bool)->Option (Option (Nat×Bool))
 |none=>some none
 |some (j,b)=>((ops[j]?).bind (·.dst)).map λd=>some (d,b)
def uO(d:Nat):Operand->Bool
 |.tmp t=>t==d
 |_=>false
def zM(d:Nat):Op->Bool
 |.call c=>match c.callee with
  |.builtin .append=>(c.args.toList.drop 1).any (uO d)
  |.value (.func _)=>c.args.toList.any (uO d)
  |_=>false
 |.build _ ps=>ps.toList.any λp=>uO d p.2
 |.buildSlice _ _ ps=>ps.toList.any λp=>uO d p.2
 |.convert _ _ x=>uO d x
 |.indexAddr _ x _=>uO d x
 |_=>false
def IV(ops:Array Oper)(o:Oper):Bool:=
 match o.dst with
 |some d=>ops.toList.any λq=>zM d q.op
 |none=>false
def u7(P:Program)(a:Bool)(o:Op):Option cJ:=
 match o,a with
 |.buildSlice t len parts,true=>match P.underlying t with
  |some (.slice e)=>(eH P e).bind λn=>(kW P e).bind λz=>(pC parts.toList).bind λps=>
   if n≠0/\z.length=n/\len*n<=2^24 then some (.bsliceT e n len z ps)else none
  |_=>none
 |o,_=>c8 P o
def u2(P:Program)(nt:Nat)(ops:Array Oper)(o:Oper):Option cb:=
 (u7 P (IV ops o) o.op).bind λp=>(tI ops o.guard).bind λg=>
  match o.dst with
  |none=>some ⟨none,p,g⟩
  |some d=>if d<nt then some ⟨some d,p,g⟩else none
def jx(P:Program)(nt:Nat)(ops:Array Oper):List Oper->Option (List cb)
 |[]=>some []
 |o::r=>(u2 P nt ops o).bind λa=>(jx P nt ops r).map (a::·)
inductive dz where
 |skip
 |region (ops:List cb)
 |oh (ops:List cb)(fZ:List (Nat×Nat))
 |seq (a b:dz)
 |cond (c:aS)(x y:dz)
 |block (id:Nat)(b:dz)
 |loop (b:dz)
 |exit (id:Nat)
 |ret
def cJ.neutral:cJ->Bool
 |.alloc _|.allocA _|.box _|.bslice .. |.store .. |.append .. |.call .. |.iI .. |.eqNil .. =>false
 |.allocS .. |.mkset|.upset .. |.appendB .. |.ustr .. =>false
 |_=>true
def cJ.ij:cJ->Bool
 |.alloc _|.allocA _|.b2s _|.box _|.bslice .. |.store .. |.append .. |.load .. =>true
 |.allocS .. |.mkset|.lkset .. |.upset .. |.appendB .. |.ustr .. |.call .. =>true
 |_=>false
def cJ.drawn:cJ->Bool
 |.eqNil .. =>false
 |_=>true
def aS.tmps:aS->a6
 |.tmp t=>[t]
 |.const _=>[]
def tQ:Option aS->a6
 |none=>[]
 |some x=>x.tmps
def cJ.reads:cJ->a6
 |.mov x=>x.tmps
 |.pick c x y=>c.tmps++x.tmps++y.tmps
 |.alloc _|.allocA _=>[]
 |.box x=>x.tmps
 |.build _ ps=>ps.flatMap λp=>p.2.2.tmps
 |.bslice _ _ _ ps=>ps.flatMap λp=>p.2.tmps
 |.load _ _ x=>x.tmps
 |.store _ x v=>x.tmps++v.tmps
 |.nilCheck x=>x.tmps
 |.bin _ x y=>x.tmps++y.tmps
 |.eqAgg _ _ x y=>x.tmps++y.tmps
 |.eqBool _ x y=>x.tmps++y.tmps
 |.eqNil _ x=>x.tmps
 |.not x=>x.tmps
 |.conv _ x=>x.tmps
 |.i2s x=>x.tmps
 |.s2s x=>x.tmps
 |.fldA _ x=>x.tmps
 |.fld _ _ _ x=>x.tmps
 |.idxA _ x i=>x.tmps++i.tmps
 |.idxS x i=>x.tmps++i.tmps
 |.slcS x e a=>x.tmps++tQ e++tQ a
 |.slc _ x e a=>x.tmps++tQ e++tQ a
 |.slc0 x=>x.tmps
 |.b2s x=>x.tmps
 |.allocS .. |.mkset=>[]
 |.bsliceT _ _ _ _ ps=>ps.flatMap λp=>p.2.tmps
 |.lkset x k=>x.tmps++k.tmps
 |.upset x k=>x.tmps++k.tmps
 |.appendB _ _ x y=>x.tmps++y.tmps
 |.sdata x=>x.tmps
 |.ustr _ x k=>x.tmps++k.tmps
 |.idxP _ x i=>x.tmps++i.tmps
 |.slcP _ x e a=>x.tmps++tQ e++tQ a
 |.mkfn _ caps=>caps.flatMap aS.tmps
 |.ext x _=>x.tmps
 |.len _ x=>x.tmps
 |.append _ _ x y=>x.tmps++y.tmps
 |.max2 x y=>x.tmps++y.tmps
 |.min2 x y=>x.tmps++y.tmps
 |.call _ args=>args.flatMap aS.tmps
 |.iI x args=>x.tmps++args.flatMap aS.tmps
def cb.rd(o:cb):a6:=o.op.reads++(match o.guard with|none=>[]|some (t,_)=>[t])
def hg(o:Oper):a6:=(o.after.toList.filter (Region.binds .any)).map (·.on)
def ahead(l:List (cb×a6))(j i:Nat):Bool:=decide (j<i)&&((l[i]?).map λx=>x.2.contains j).getD false
def DJ:Nat->List (cb×a6)->Bool
 |_,[]=>true
 |i,x::r=>x.2.all (· < i)&&DJ (i+1) r
def RE(l:List (cb×a6)):Bool:=
 l.zipIdx.all λx=>l.zipIdx.all λy=>
  match y.1.1.dst with
  |none=>true
  |some d=>(!(x.1.1.rd.contains d)||ahead l y.2 x.2||(x.1.1.op.neutral && !x.1.1.op.ij&&ahead l x.2 y.2))&&(x.2==y.2 || !(x.1.1.dst==some d))
def ml:List (cb×a6)->List a6->List a6
 |[],acc=>acc
 |x::r,acc=>ml r (acc++[(x.2++x.2.flatMap λe=>acc.getD e []).eraseDups])
def nI(a:List a6)(j i:Nat):Bool:=decide (j<i)&&(a.getD i []).contains j
def Ev(a:List a6)(l:List (cb×a6)):List (Nat×Nat):=
 l.zipIdx.flatMap λx=>if x.1.1.op.neutral then[]else l.zipIdx.filterMap λy=>
  if y.1.1.op.ij && !(x.2==y.2) && !(nI a x.2 y.2) && !(nI a y.2 x.2)then some (x.2,y.2)else none
def lh(l:List (cb×a6)):List (Nat×Nat):=Ev (ml l []) l
def DQ(l:List (cb×a6)):Bool:=(List.range (l.length-1)).all λi=>l.zipIdx.any λy=>decide (i<y.2)&&y.1.2.contains i
def tk(l:List (cb×a6)):Bool:=DJ 0 l&&RE l&&l.all λx=>x.1.op.drawn
def se(l:List (cb×a6)):List (Nat×Nat):=
 if decide (2<=l.length)&&DQ l&&tk l.dropLast then(l.length,0)::(lh l++lh l.dropLast)else lh l
def fi(ops:Array Oper)(aZ:List cb):List (cb×a6):=aZ.zip (ops.toList.map hg)
def resolve(P:Program)(nt:Nat):Code->Option dz
 |.skip=>some .skip
 |.region _ ops d=>(jx P nt ops ops.toList).bind λaZ=>
  if d then(if tk (fi ops aZ)&&P.follows .mixedOrders then some (.oh aZ (se (fi ops aZ)))else none)else some (.region aZ)
 |.seq a b=>(resolve P nt a).bind λx=>(resolve P nt b).map λy=>.seq x y
 |.cond c a b=>(bL c).bind λo=>(resolve P nt a).bind λx=>(resolve P nt b).map λy=>.cond o x y
 |.block id b=>(resolve P nt b).map (.block id)
 |.loop b=>(resolve P nt b).map .loop
 |.exit id=>some (.exit id)
 |.ret=>some .ret
 |_=>none
abbrev Env:=List (Nat×Bool×V)
abbrev a7:=List (Nat×bO)
def look:Env->Nat->Option (Bool×V)
 |[],_=>none
 |(k,x)::r,i=>if k=i then some x else look r i
def aV:a7->Nat->Option bO
 |[],_=>none
 |(k,x)::r,i=>if k=i then some x else aV r i
def dd:a7->Nat->bO->a7
 |[],b,x=>[(b,x)]
 |(k,y)::r,b,x=>if k=b then(k,x)::r else(k,y)::dd r b x
def ig:a7->Nat->a7
 |[],_=>[]
 |(k,y)::r,b=>if k=b then ig r b else(k,y)::ig r b
theorem cX(J:a7)(b:Nat)(x:bO)(i:Nat):aV (dd J b x) i=if b=i then some x else aV J i:=by
 induction J with
 |nil=>simp[dd,aV]
 |cons y r ih=>
  obtain⟨k,y⟩:=y;by_cases a:k=b
  . subst a;simp only[dd,bJ,aV];split<;>rfl
  . simp only[dd,al a,aV,ih];grind
theorem fO(J:a7)(b:Nat)(i:Nat):aV (ig J b) i=if b=i then none else aV J i:=by
 induction J with
 |nil=>simp[ig,aV]
 |cons y r ih=>
  obtain⟨k,y⟩:=y;by_cases a:k=b
  . subst a;simp only[ig,bJ,aV,ih];by_cases c:k=i<;>simp[c]
  . simp only[ig,al a,aV,ih];grind
def aS.get(env:Env):aS->Option (Prop×V)
 |.const v=>some (True,v)
 |.tmp t=>(look env t).map λx=>(x.1=true,x.2)
def hp(env:Env):List aS->Option (Prop×List V)
 |[]=>some (True,[])
 |x::xs=>(x.get env).bind λa=>(hp env xs).map λb=>(a.1/\b.1,a.2::b.2)
def jP(env:Env):Option aS->Option (Prop×Option Int)
 |none=>some (True,none)
 |some x=>(x.get env).bind λa=>match a.2 with
  |.c (.t (.int _ n))=>some (a.1,some n)
  |_=>none
def pH:V->Option (List C)
 |.c x=>some [x]
 |.agg cs=>some cs
 |.aY _=>none
def toT:C->Option T
 |.t x=>some x
 |.aF=>some (.slice [])
 |_=>none
def toTs:List C->Option (List T)
 |[]=>some []
 |c::cs=>(toT c).bind λt=>(toTs cs).map (t::·)
def el(es:List (List T))(i:Nat):List T:=es.getD i []
def oL(a:List C)(off:Nat)(cs:List C):List C:=a.take off++cs++a.drop (off+cs.length)
def lj(env:Env):List C->List (Nat×Nat×aS)->Option (Prop×List C)
 |c,[]=>some (True,c)
 |c,(off,n,x):: r=>(x.get env).bind λa=>(pH a.2).bind λcs=>
  if cs.length=n/\off+n<=c.length then(lj env (oL c off cs) r).map λb=>(a.1/\b.1,b.2)else none
def jN(env:Env)(sz:Nat):List (List T)->List (Nat×aS)->Option (Prop×List (List T))
 |es,[]=>some (True,es)
 |es,(i,x):: r=>(x.get env).bind λa=>(pH a.2).bind λcs=>(toTs cs).bind λts=>
  if ts.length=sz/\i<es.length then(jN env sz (es.set i ts) r).map λb=>(a.1/\b.1,b.2)else none
def k2:BinOp->T->T->Option (Prop×T)
 |.add,.int k a,.int c b=>if k=c then some (True,.int k (k.wrap (a+b)))else none
 |.sub,.int k a,.int c b=>if k=c then some (True,.int k (k.wrap (a-b)))else none
 |.mul,.int k a,.int c b=>if k=c then some (True,.int k (k.wrap (a*b)))else none
 |.quo,.int k a,.int c b=>if k=c then some (b≠0,.int k (k.wrap (a.tdiv b)))else none
 |.rem,.int k a,.int c b=>if k=c then some (b≠0,.int k (a.tmod b))else none
 |.and,.int k a,.int c b=>if k=c then some (True,.int k (k.wrap (BitVec.ofInt k.bits a &&& BitVec.ofInt k.bits b).toNat))else none
 |.or,.int k a,.int c b=>if k=c then some (True,.int k (k.wrap (BitVec.ofInt k.bits a ||| BitVec.ofInt k.bits b).toNat))else none
 |.xor,.int k a,.int c b=>if k=c then some (True,.int k (k.wrap (BitVec.ofInt k.bits a ^^^ BitVec.ofInt k.bits b).toNat))else none
 |.andNot,.int k a,.int c b=>if k=c then some (True,.int k (k.wrap (BitVec.ofInt k.bits a &&& ~~~ BitVec.ofInt k.bits b).toNat))else none
 |.shl,.int k a,.int _ b=>some (0<=b,.int k (k.wrap (a*2^min b.toNat k.bits)))
 |.shr,.int k a,.int _ b=>some (0<=b,.int k (a.fdiv (2^min b.toNat k.bits)))
 |.eql,.int k a,.int c b=>if k=c then some (True,.bool (decide (a=b)))else none
 |.neq,.int k a,.int c b=>if k=c then some (True,.bool (!decide (a=b)))else none
 |.lss,.int k a,.int c b=>if k=c then some (True,.bool (decide (a<b)))else none
 |.leq,.int k a,.int c b=>if k=c then some (True,.bool (decide (a<=b)))else none
 |.gtr,.int k a,.int c b=>if k=c then some (True,.bool (decide (b<a)))else none
 |.geq,.int k a,.int c b=>if k=c then some (True,.bool (decide (b<=a)))else none
 |.add,.str a,.str b=>some (a.length+b.length<=ez,.str (a++b))
 |.eql,.str a,.str b=>some (True,.bool (decide (a=b)))
 |.neq,.str a,.str b=>some (True,.bool (!decide (a=b)))
 |.lss,.str a,.str b=>some (True,.bool (Op.bytesLess a b))
 |.leq,.str a,.str b=>some (True,.bool (Op.bytesLess a b||decide (a=b)))
 |.gtr,.str a,.str b=>some (True,.bool (!(Op.bytesLess a b||decide (a=b))))
 |.geq,.str a,.str b=>some (True,.bool (!(Op.bytesLess a b)))
 |_,_,_=>none
def Bn:Nat->T->T->Option Bool
 |0,.bool a,.bool b=>some (a==b)
 |1,.int k a,.int c b=>if k=c then some (decide (a=b))else none
 |2,.str a,.str b=>some (decide (a=b))
 |_,_,_=>none
def sj:a6->List C->List C->Option Bool
 |[],[],[]=>some true
 |k::ks,.t x::xs,.t y::ys=>(Bn k x y).bind λb=>(sj ks xs ys).map λr=>b&&r
 |_,_,_=>none
abbrev AP:=Option (Prop×V×a7)
def loadT(agg:Bool)(n:Nat)(ts:List T)(o:Nat):Option V:=
 if agg then(if o+n<=ts.length then some (.agg (((ts.drop o).take n).map .t))else none)else(ts[o]?).map λt=>.c (.t t)
def jQ(agg:Bool)(n:Nat)(cs:List C)(o:Nat):Option V:=
 if agg then(if o+n<=cs.length then some (.agg ((cs.drop o).take n))else none)else(cs[o]?).map .c
def j':Nat:=281474976710656
def lG(n bytes:Nat):Prop:=(2*n+192)*bytes<=j'\/(n+n/4+512)*bytes<=j'
def ma(J:a7):V->Option (List (List T)×Option Nat)
 |.c (.t (.slice ys))=>some (ys,none)
 |.c .aF=>some ([],none)
 |.c (.arr b a off len)=>match aV J b with
  |some (.arr d ys)=>if a=d/\off=0/\len=ys.length then some (ys,some b)else none
  |_=>none
 |_=>none
def bytesOf:List (List T)->Option aj
 |[]=>some []
 |[.int .u8 m]::r=>(bytesOf r).map λs=>UInt8.ofNat m.toNat::s
 |_=>none
def nc(J:a7):V->Option (Prop×aj)
 |.c (.t (.slice es))=>(bytesOf es).map λs=>(True,s)
 |.c .aF=>some (True,[])
 |.c (.arr b 1 off len)=>match aV J b with
  |some (.arr 1 es)=>(bytesOf ((es.drop off).take len)).map λs=>(off+len<=es.length,s)
  |_=>none
 |.c (.fx b 1 off len)=>match aV J b with
  |some (.arr 1 es)=>(bytesOf ((es.drop off).take len)).map λs=>(off+len<=es.length,s)
  |_=>none
 |_=>none
def jf(ks:List aj)(s:aj):Bool:=ks.any λk=>decide (k=s)
def iT(ks:List aj)(s:aj):List aj:=if jf ks s then ks else ks++[s]
def yG:List C->Option C
 |[.arr b sz off len]=>some (.arr b sz off len)
 |_=>none
def mU:V->V->Option (Nat×Nat×Nat×Nat×Nat×Nat×Nat)
 |.c (.arr b sz off len),.c (.fx a f e d)=>if b=a then some (b,sz,off,len,f,e,d)else none
 |_,_=>none
def uw(J:a7)(n sz:Nat)(p q:Prop):Nat×Nat×Nat×Nat×Nat×Nat×Nat->AP
 |(b,s1,off,len,e,d,a)=>match aV J b with
  |some (.arr f es)=>some (p/\q/\s1 = sz/\e = sz/\f = sz/\off = 0/\len+a<=es.length/\d+a<=es.length,
   .c (.arr n sz 0 (len+a)),dd (ig J b) n (.arr sz (es.take len++(es.drop d).take a)))
  |_=>none
def aR(o:cJ)(env:Env)(J:a7)(n:Nat):AP:=
 match o with
 |.mov x=>(x.get env).map λa=>(a.1,a.2,J)
 |.pick c x y=>(c.get env).bind λc=>(x.get env).bind λx=>(y.get env).bind λy=>
  match c.2,x.2,y.2 with
  |.c (.t (.bool b)),.c (.t (.bool p)),.c (.t (.bool q))=>
   some (c.1/\(b=true->x.1)/\(b=false->y.1),.c (.t (.bool (bif b then p else q))),J)
  |_,_,_=>none
 |.alloc cs=>some (True,.c (.ptr n 0),dd J n (.box cs))
 |.allocA cs=>(toTs cs).map λts=>(True,.c (.ptr n 0),dd J n (.arr 1 (ts.map λt=>[t])))
 |.idxP k x i=>(x.get env).bind λa=>(i.get env).bind λj=>match a.2,j.2 with
  |.c (.ptr b 0),.c (.t (.int _ m))=>some (a.1/\j.1/\0<=m/\m.toNat<k,.c (.cH b 1 m.toNat 0),J)
  |_,_=>none
 |.slcP k x u w=>(x.get env).bind λa=>(jP env u).bind λl=>(jP env w).bind λh=>match a.2 with
  |.c (.ptr b 0)=>
   let e:=h.2.getD k;let c:=l.2.getD 0
   some (a.1/\l.1/\h.1/\0<=c/\c<=e/\e<=k,.c (.fx b 1 c.toNat (e.toNat-c.toNat)),J)
  |_=>none
 |.b2s x=>(x.get env).bind λa=>(nc J a.2).map λr=>(a.1/\r.1,.c (.t (.str r.2)),J)
 |.box x=>(x.get env).bind λa=>(pH a.2).map λcs=>(a.1,.c (.ptr n 0),dd J n (.box cs))
 |.build z parts=>(lj env z parts).map λa=>(a.1,.agg a.2,J)
 |.bslice sz len z parts=>(toTs z).bind λE=>(jN env sz (List.replicate len E) parts).map λa=>
  (a.1,.c (.arr n sz 0 len),dd J n (.arr sz a.2))
 |.load agg k x=>(x.get env).bind λa=>match a.2 with
  |.c (.ptr b o)=>match aV J b with
   |some (.box cs)=>(jQ agg k cs o).map λv=>(a.1,v,J)
   |some (.b8 _ c)=>if agg=false/\o=1 then some (a.1,.c c,J)else none
   |_=>none
  |.c (.cH b sz i o)=>match aV J b with
   |some (.arr g es)=>(loadT agg k (el es i) o).map λv=>(a.1/\sz=g/\i<es.length,v,J)
   |some (.cA g es A B c)=>if agg then none else if o=B then some (a.1/\sz=g/\i=A,.c c,J)else(loadT false k (el es i) o).map λv=>(a.1/\sz=g/\i<es.length,v,J)
   |_=>none
  |.c (.dO ts o)=>(loadT agg k ts o).map λv=>(a.1,v,J)
  |_=>none
 |.store k x v=>(x.get env).bind λa=>(v.get env).bind λd=>(pH d.2).bind λcs=>
  if cs.length=k then match a.2 with
   |.c (.ptr b o)=>match aV J b with
    |some (.box ds)=>if o+k<=ds.length then some (a.1/\d.1,.aY [],dd J b (.box (oL ds o cs)))else none
    |some (.b8 e _)=>match o,cs with
     |1,[c]=>some (a.1/\d.1,.aY [],dd J b (.b8 e c))
     |_,_=>none
    |_=>none
   |.c (.cH b sz i o)=>match aV J b with
    |some (.arr g es)=>match yG cs with
     |some c=>some (a.1/\d.1/\sz=g/\i<es.length/\o+k<=sz,.aY [],dd J b (.cA g es i o c))
     |none=>(toTs cs).bind λts=>
      some (a.1/\d.1/\sz=g/\i<es.length/\o+k<=sz,.aY [],
       dd J b (.arr g (es.set i ((el es i).take o++ts++(el es i).drop (o+k)))))
    |some (.cA g es A B F)=>match cs with
     |[c]=>if o=B then some (a.1/\d.1/\sz=g/\i=A,.aY [],dd J b (.cA g es A B c))
      else(toT c).bind λt=>some (a.1/\d.1/\sz=g/\i<es.length/\o+k<=sz,.aY [],
       dd J b (.cA g (es.set i ((el es i).take o++[t]++(el es i).drop (o+k))) A B F))
     |_=>none
    |_=>none
   |_=>none
  else none
 |.nilCheck x=>(x.get env).bind λa=>match a.2 with
  |.c (.ptr ..)|.c (.cH ..)|.c (.dO ..)=>some (a.1,a.2,J)
  |_=>none
 |.bin op x y=>(x.get env).bind λa=>(y.get env).bind λb=>match a.2,b.2 with
  |.c (.t p),.c (.t q)=>(k2 op p q).map λr=>(a.1/\b.1/\r.1,.c (.t r.2),J)
  |_,_=>none
 |.eqAgg neg ks x y=>(x.get env).bind λa=>(y.get env).bind λb=>match a.2,b.2 with
  |.agg p,.agg q=>(sj ks p q).map λr=>(a.1/\b.1,.c (.t (.bool (if neg then !r else r))),J)
  |_,_=>none
 |.eqBool neg x y=>(x.get env).bind λa=>(y.get env).bind λb=>match a.2,b.2 with
  |.c (.t (.bool p)),.c (.t (.bool q))=>some (a.1/\b.1,.c (.t (.bool (if neg then !(p==q)else(p==q)))),J)
  |_,_=>none
 |.not x=>(x.get env).bind λa=>match a.2 with
  |.c (.t (.bool b))=>some (a.1,.c (.t (.bool (!b))),J)
  |_=>none
 |.conv k x=>(x.get env).bind λa=>match a.2 with
  |.c (.t (.int _ m))=>some (a.1,.c (.t (.int k (k.wrap m))),J)
  |_=>none
 |.i2s x=>(x.get env).bind λa=>match a.2 with
  |.c (.t (.int _ m))=>some (a.1,.c (.t (.str (Utf8.encode m).data.toList)),J)
  |_=>none
 |.s2s x=>(x.get env).bind λa=>match a.2 with
  |.c (.t (.str s))=>some (a.1,.c (.t (.str s)),J)
  |_=>none
 |.fldA off x=>(x.get env).bind λa=>match a.2 with
  |.c (.ptr b o)=>some (a.1,.c (.ptr b (o+off)),J)
  |.c (.cH b sz i o)=>some (a.1,.c (.cH b sz i (o+off)),J)
  |.c (.dO ts o)=>some (a.1,.c (.dO ts (o+off)),J)
  |_=>none
 |.fld agg off k x=>(x.get env).bind λa=>match a.2 with
  |.agg cs=>(jQ agg k cs off).map λv=>(a.1,v,J)
  |_=>none
 |.idxA sz x i=>(x.get env).bind λa=>(i.get env).bind λj=>match a.2,j.2 with
  |.c (.t (.slice es)),.c (.t (.int _ m))=>some (a.1/\j.1/\0<=m/\m.toNat<es.length/\(el es m.toNat).length=sz,.c (.dO (el es m.toNat) 0),J)
  |.c (.arr b g off len),.c (.t (.int _ m))=>some (a.1/\j.1/\0<=m/\m.toNat<len/\sz=g,.c (.cH b sz (off+m.toNat) 0),J)
  |_,_=>none
 |.idxS x i=>(x.get env).bind λa=>(i.get env).bind λj=>match a.2,j.2 with
  |.c (.t (.str s)),.c (.t (.int _ m))=>some (a.1/\j.1/\0<=m/\m.toNat<s.length,.c (.t (.int .u8 (s.getD m.toNat 0).toNat)),J)
  |_,_=>none
 |.slcS x u w=>(x.get env).bind λa=>(jP env u).bind λl=>(jP env w).bind λh=>match a.2 with
  |.c (.t (.str s))=>
   let b:=h.2.getD s.length;let c:=l.2.getD 0
   some (a.1/\l.1/\h.1/\0<=c/\c<=b/\b<=s.length,.c (.t (.str ((s.take b.toNat).drop c.toNat))),J)
  |_=>none
 |.slc sz x u w=>(x.get env).bind λa=>(jP env u).bind λl=>(jP env w).bind λh=>match a.2 with
  |.c (.t (.slice es))=>
   let b:=h.2.getD es.length;let c:=l.2.getD 0
   some (a.1/\l.1/\h.1/\0<=c/\c<=b/\b<=es.length/\(∀e,e∈es->e.length=sz),.c (.t (.slice ((es.take b.toNat).drop c.toNat))),J)
  |.c (.arr b g off len)=>
   some (a.1/\l.1/\h.1/\0<=l.2.getD 0/\l.2.getD 0<=h.2.getD len/\h.2.getD len<=len/\sz=g,
    .c (if u.isNone then .arr b g off (h.2.getD len).toNat else .fx b g (off+(l.2.getD 0).toNat) ((h.2.getD len).toNat-(l.2.getD 0).toNat)),J)
  |_=>none
 |.slc0 x=>(x.get env).bind λa=>match a.2 with
  |.c (.t (.slice _))|.c .aF|.c (.arr ..)=>some (a.1,.c .aF,J)
  |_=>none
 |.mkfn f caps=>(hp env caps).bind λa=>match sb a.2 with
  |some l=>some (a.1,.c (.fn f l),J)
  |none=>none
 |.ext x i=>(x.get env).bind λa=>match a.2 with
  |.aY vs=>(vs[i]?).map λv=>(a.1,v,J)
  |_=>none
 |.len str x=>(x.get env).bind λa=>match str,a.2 with
  |false,.c (.t (.slice es))=>some (a.1,.c (.t (.int .i64 es.length)),J)
  |false,.c (.arr _ _ _ l)=>some (a.1,.c (.t (.int .i64 l)),J)
  |false,.c .aF=>some (a.1,.c (.t (.int .i64 0)),J)
  |false,.c (.cI _ l)=>some (a.1,.c (.t (.int .i64 l)),J)
  |true,.c (.t (.str s))=>some (a.1,.c (.t (.int .i64 s.length)),J)
  |_,_=>none
 |.append sz bytes x y=>(x.get env).bind λa=>(y.get env).bind λd=>
  match mU a.2 d.2 with
  |some r=>uw J n sz a.1 d.1 r
  |none=>
  (ma J d.2).bind λys=>
  match a.2 with
  |.c .aF=>some (a.1/\d.1/\(∀ e,e∈ys.1->e.length = sz)/\lG ys.1.length bytes/\ys.1.length<=eE,
   .c (.arr n sz 0 ys.1.length),dd J n (.arr sz ys.1))
  |.c (.arr b g off len)=>match aV J b with
   |some (.arr G es)=>
    if ys.2=some b then none else some (a.1/\d.1/\g=sz/\G=sz/\off=0/\len=es.length/\(∀e,e∈ys.1->e.length=sz)/\lG (es.length+ys.1.length) bytes/\es.length+ys.1.length<=eE,
     .c (.arr n sz 0 (len+ys.1.length)),dd (ig J b) n (.arr sz (es++ys.1)))
   |_=>none
  |_=>none
 |.max2 x y=>(x.get env).bind λa=>(y.get env).bind λb=>match a.2,b.2 with
  |.c (.t (.int k p)),.c (.t (.int D q))=>if k=D then some (a.1/\b.1,.c (.t (.int k (max p q))),J)else none
  |_,_=>none
 |.min2 x y=>(x.get env).bind λa=>(y.get env).bind λb=>match a.2,b.2 with
  |.c (.t (.int k p)),.c (.t (.int D q))=>if k=D then some (a.1/\b.1,.c (.t (.int k (min p q))),J)else none
  |_,_=>none
 |.allocS e e8=>some (True,.c (.ptr n 0),dd (dd J (n+1) (.buf e8 [])) n (.b8 e (.cI (n+1) 0)))
 |.bsliceT _ sz len z parts=>(toTs z).bind λE=>(jN env sz (List.replicate len E) parts).map λa=>(a.1,.c (.t (.slice a.2)),J)
 |.mkset=>some (True,.c (.mp n),dd J n (.set []))
 |.lkset x k=>(x.get env).bind λa=>(k.get env).bind λd=>match a.2,d.2 with
  |.c (.mp b),.c (.t (.str s))=>match aV J b with
   |some (.set ks)=>some (a.1/\d.1,.c (.t (.bool (jf ks s))),J)
   |_=>none
  |_,_=>none
 |.upset x k=>(x.get env).bind λa=>(k.get env).bind λd=>match a.2,d.2 with
  |.c (.mp b),.c (.t (.str s))=>match aV J b with
   |some (.set ks)=>some (a.1/\d.1,.aY [],dd J b (.set (iT ks s)))
   |_=>none
  |_,_=>none
 |.appendB e bytes x y=>(x.get env).bind λa=>(y.get env).bind λd=>match a.2,d.2 with
  |.c (.cI b len),.c (.t (.str s))=>match aV J b with
   |some (.buf C es)=>
    some (a.1/\d.1/\C=e/\len=es.length/\lG (es.length+s.length) bytes/\es.length+s.length<=eE,
     .c (.cI n (len+s.length)),dd (ig J b) n (.buf e (es++s)))
   |_=>none
  |_,_=>none
 |.sdata x=>(x.get env).bind λa=>match a.2 with
  |.c (.cI b _)=>some (a.1,.c (.eg b),J)
  |_=>none
 |.ustr e x k=>(x.get env).bind λa=>(k.get env).bind λd=>match a.2,d.2 with
  |.c (.eg b),.c (.t (.int .i64 m))=>match aV J b with
   |some (.buf C es)=>some (a.1/\d.1/\C=e/\m=es.length,.c (.t (.str es)),ig J b)
   |_=>none
  |_,_=>none
 |.eqNil .. |.call .. |.iI .. =>none
where sb:List V->Option a6
 |[]=>some []
 |.c (.ptr b 0)::r=>(sb r).map (b::·)
 |_=>none
def Am(ks:List aj)(es:List MapEntry):Prop:=a8 (λk e=>e.key= .string ⟨k.toArray⟩/\e.val= .bool true) ks es
def c3(φ:dE)(w:World)(S:dT)(b:Nat):bO->Prop
 |.box cs=>(φ b).2≠0/\∃(vs:List Value) (E:TypeId),w.heap[(φ b).1]?=some (.cells vs.toArray E (0,0))/\a8 (bk φ w S) cs vs/\∀j,¬S (φ b).1 j
 |.arr sz es=>es.length<=(φ b).2/\es.length<=eE/\(∀ e,e∈es->e.length = sz)/\0<sz/\
  ((φ b).2≠0->∃(vs:List Value) (E:TypeId),w.heap[(φ b).1]?=some (.cells vs.toArray E (0,0))/\vs.length=(φ b).2*sz/\
   (∀(i j:Nat) e t,es[i]?=some e->e[j]?=some t->∃v,vs[i*sz+j]?=some v/\cd w S t v)/\∀j,¬S (φ b).1 j)
 |.set ks=>(φ b).2≠0/\(∃(es:List MapEntry) (d:Nat),w.heap[(φ b).1]?=some (.map es.toArray d)/\Am ks es)/\∀j,¬S (φ b).1 j
 |.buf E s=>s.length<=(φ b).2/\s.length<=eE/\
  ((φ b).2≠0->(∃vs:List Value,w.heap[(φ b).1]?=some (.cells vs.toArray E (0,0))/\vs.length=(φ b).2/\
   ∀(i:Nat) c,s[i]?=some c->vs[i]?=some (.int .u8 (UInt8.toNat c)))/\∀j,¬S (φ b).1 j)
 |.b8 E c=>(φ b).2≠0/\(∃p v:Value,w.heap[(φ b).1]?=some (.cells #[p,v] E (0,0))/\(p= .pointer none\/p= .pointer (some ⟨(φ b).1,0,none⟩))/\bk φ w S c v)/\∀j,¬S (φ b).1 j
 |.cA sz es i o c=>(es.length<=(φ b).2/\es.length<=eE/\(∀ e,e∈es->e.length = sz)/\0<sz/\i<es.length/\o<sz)/\
  (∃(vs:List Value) (E:TypeId),w.heap[(φ b).1]?=some (.cells vs.toArray E (0,0))/\vs.length=(φ b).2*sz/\
   (∀(a j:Nat) e t,es[a]?=some e->e[j]?=some t->¬(a=i/\j=o)->∃v,vs[a*sz+j]?=some v/\cd w S t v)/\∃v,vs[i*sz+o]?=some v/\bk φ w S c v)/\∀j,¬S (φ b).1 j
structure qj (φ:dE)(w:World)(S:dT)(J:a7):Prop where
 blk:∀b x,aV J b=some x->c3 φ w S b x
 inj:∀b AY x y,aV J b=some x->aV J AY=some y->b≠AY->(φ b).2≠0->(φ AY).2≠0->(φ b).1≠(φ AY).1
 st:∀b j,S b j->b<w.heap.size
structure Ext (B:Nat->Prop)(S bQ:dT)(w w':World):Prop where
 os:w'.os=w.os
 tape:w'.tape=w.tape
 output:w'.output=w.output
 size:w.heap.size<=w'.heap.size
 block:∀b:Nat,b<w.heap.size->¬B b->w'.heap[b]?=w.heap[b]?
 mono:gu w S w' bQ
 rM:∀b j,bQ b j->S b j\/B b\/w.heap.size<=b
def bO.az(n:Nat->Bool):bO->Bool
 |.box cs=>cs.all (C.az n)
 |.arr _ _=>true
 |.set _=>true
 |.buf _ _=>true
 |.b8 _ c=>c.az n
 |.cA _ _ _ _ c=>c.az n
def ins(n:Nat->Bool)(k:Nat):Nat->Bool:=λb=>n b||b==k
structure Ctx where
 jC:World
 En:dT
 B:Nat->Prop
 Tv:dE
 k:Nat
structure Rel (aB:Ctx)(nt:Nat)(φ:dE)(S:dT)(env:Env)(J:a7)(n:Nat->Bool)(a:Act)(w:World):Prop where
 bP:qj φ w S J
 gI:∀(k:Nat) g v,look env k=some (g,v)->g=true->∃x,a.tmps[k]?=some x/\ck φ w S v x
 hJ:∀(k:Nat) g v,look env k=some (g,v)->g=false->a.tmps[k]?=some undef
 gH:∀(k:Nat) g v,look env k=some (g,v)->g=true->v.az n=true
 dP:∀(b:Nat) x,aV J b=some x->n b=true/\x.az n=true
 size:a.tmps.size=nt
 defers:a.defers=[]
 ext:Ext aB.B aB.En S aB.jC w
 own:∀(b:Nat) x,aV J b=some x->(φ b).2≠0->aB.B (φ b).1\/aB.jC.heap.size<=(φ b).1
 fix:∀b:Nat,b<aB.k->φ b=aB.Tv b
 fR:∀b:Nat,b<aB.k->n b=true
variable{c:C}{v u:Value}{x y:Operand}{p:Prop}{cs:List C}{o:Oper}{op:BinOp}{ty e E:TypeId}{f off:Nat}{fs:Array Field}{vs xs:List Value}{ts:List T}{w w':World}{agg:Bool}{es ys:List (List T)}{j:Option Operand}{J':a7}{q:Nat×Nat}{α:Type}{place:Nat->Option (Nat×Nat)}{R:T->Value->Prop}
section
variable {P:Program}{aB:Ctx}{nt:Nat}{φ:dE}{S:dT}{env:Env}{J:a7}{n:Nat->Bool}{key:Nat}{a:Act}{w:World}
def Good(P:Program)(aB:Ctx)(nt:Nat)(env:Env)(J':a7)(b:Nat->Bool)(a:Act)(v:V)(r:Result Next):Prop:=
 ∃x c bQ w',(r= .ok (.value x) w'\/(r= .ok .skip w'/\x=undef))/\ck c w' bQ v x/\v.az b=true/\Rel aB nt c bQ env J' b a w'
theorem Z9{n:Nat->Bool}{k:Nat}:ins n k k=true:=by simp[ins]
theorem kL{n:Nat->Bool}{k b:Nat}(h:n b=true):ins n k b=true:=by simp[ins,h]
theorem C.hl{n e:Nat->Bool}(h:∀b,n b=true->e b=true)(a:c.az n=true):c.az e=true:=by
 cases c<;>simp only[C.az,c0]at*<;>first|exact h _ a|exactλb f=>h b (a b f)
theorem tJ{n:Nat->Bool}:∀{vs:List V},(∀(i:Nat) v,vs[i]?=some v->v.az n=true)->V.az.V.dF n vs=true
 |[],_=>rfl
 |v::vs,h=>by
  simp only[V.az.V.dF,cc];exact⟨h 0 v rfl,tJ λi v a=>h (i+1) v a⟩
theorem V.hl{n e:Nat->Bool}(h:∀b,n b=true->e b=true):∀{v:V},v.az n=true->v.az e=true
 |.c x,a=>by simp only[V.az]at a⊢;exact C.hl h a
 |.agg cs,a=>by
  simp only[V.az,c0]at a⊢;exactλc f=>C.hl h (a c f)
 |.aY vs,a=>by
  simp only[V.az]at a⊢;exact go vs a
where go:∀vs,V.az.V.dF n vs=true->V.az.V.dF e vs=true
 |[],_=>rfl
 |v::vs,a=>by
  simp only[V.az.V.dF,cc]at a⊢;exact⟨V.hl h a.1,go vs a.2⟩
theorem bO.hl{n e:Nat->Bool}(h:∀b,n b=true->e b=true){x:bO}(a:x.az n=true):x.az e=true:=by
 cases x with
 |box cs=>
  simp only[bO.az,c0]at a⊢;exactλc f=>C.hl h (a c f)
 |arr=>rfl
 |set=>rfl
 |buf=>rfl
 |b8 E c=>simp only[bO.az]at a⊢;exact C.hl h a
 |cA sz es i o c=>simp only[bO.az]at a⊢;exact C.hl h a
theorem Rel.more(R:Rel aB nt φ S env J n a w){e:Nat->Bool}(h:∀b,n b=true->e b=true):Rel aB nt φ S env J e a w:=
 ⟨R.bP,R.gI,R.hJ,λk g v ae ao=>V.hl h (R.gH k g v ae ao),λb x c=>⟨h b (R.dP b x c).1,bO.hl h (R.dP b x c).2⟩,R.size,R.defers,R.ext,R.own,R.fix,λb f=>h b (R.fR b f)⟩
theorem Good.pure(R:Rel aB nt φ S env J n a w){v:V}{x:Value}{r:Result Next}(e:r= .ok (.value x) w)(f:ck φ w S v x)(c:v.az n=true):
 Good P aB nt env J (ins n key) a v r:=⟨x,φ,S,w,.inl e,f,V.hl (λ_ h=>kL h) c,R.more λ_ h=>kL h⟩
theorem S0(h:BO v=some c):bk φ w S c v/\c.az n=true:=by
 unfold BO at h;split at h<;>simp at h
 . subst h;exact⟨.bool _,rfl⟩
 . subst h;exact⟨.int _ _,rfl⟩
 . obtain⟨hs,rfl⟩:=h;exact⟨.str _ hs,rfl⟩
 . subst h;exact⟨⟨_,rfl⟩,rfl⟩
 . subst h;exact⟨rfl,rfl⟩
 . subst h;exact⟨rfl,rfl⟩
 . subst h;exact⟨rfl,rfl⟩
theorem GW:∀{vs:List Value} {cs:List C},vM vs=some cs->a8 (bk φ w S) cs vs/\cs.all (C.az n)=true
 |[],cs,h=>by simp[vM]at h;subst h;exact⟨.nil,rfl⟩
 |v::vs,cs,h=>by
  simp only[vM,bo,bc]at h;obtain⟨c,b,e,d,rfl⟩:=h;have h1:=S0 (φ:=φ) (w:=w) (S:=S) (n:=n) b;have a:=GW d;exact⟨.cons h1.1 a.1,by simp[h1.2];simpa using a.2⟩
theorem XE{a:V}(h:IF v=some a):ck φ w S a v/\a.az n=true:=by
 unfold IF at h;split at h
 . rename_i cs;simp only[bc]at h;obtain⟨l,ae,rfl⟩:=h;have:=GW (φ:=φ) (w:=w) (S:=S) (n:=n) ae;refine⟨?_,by simpa[V.az]using this.2⟩;have e:=ck.agg (φ:=φ) (w:=w) (S:=S) this.1;omega
 . simp only[bc]at h;obtain⟨l,ae,rfl⟩:=h;have:=S0 (φ:=φ) (w:=w) (S:=S) (n:=n) ae;exact⟨.c this.1,by simpa[V.az]using this.2⟩
theorem cz(R:Rel aB nt φ S env J n a w){d:aS}(b:bL x=some d){v:V}(h:d.get env=some (p,v))(e:p):
 ck φ w S v (a.eval x)/\v.az n=true:=by
 cases x with
 |tmp t=>
  simp[bL]at b;subst b;simp only[aS.get,bc]at h;obtain⟨⟨g,i⟩,ae,he⟩:=h;simp only[bG,bE]at he;obtain⟨rfl,rfl⟩:=he;obtain⟨y,k,j⟩:=R.gI t g i ae e;refine⟨?_,R.gH t g i ae e⟩;simp only[Act.eval,Bw,k,lu];exact j
 |const c=>
  simp only[bL,bc]at b;obtain⟨l,gR,rfl⟩:=b;simp[aS.get]at h;obtain⟨_,rfl⟩:=h;exact XE gR
 |global g=>simp[bL]at b
 |func f=>
  simp[bL]at b;subst b;simp[aS.get]at h;obtain⟨_,rfl⟩:=h;exact⟨.c (by simp[bk,Act.eval]),by simp[V.az,C.az]⟩
theorem qT(R:Rel aB nt φ S env J n a w):∀{xs:List Operand} {aZ:List aS} (_:mP xs=some aZ) {p:Prop} {vs:List V} (_:hp env aZ=some (p,vs)) (_:p),
 a8 (ck φ w S) vs (xs.map a.eval)/\V.az.V.dF n vs=true
 |[],aZ,b,p,vs,h,c=>by simp[mP]at b;subst b;simp[hp]at h;obtain⟨_,rfl⟩:=h;exact⟨.nil,rfl⟩
 |x::xs,aZ,b,p,vs,h,c=>by
  simp only[mP,bo,bc]at b;obtain⟨j,e,k,f,rfl⟩:=b;simp only[hp,bo,bc]at h;obtain⟨⟨q,v⟩,g,⟨l,m⟩,i,he⟩:=h;simp only[bG,bE]at he;obtain⟨rfl,rfl⟩:=he;have h1:=cz R e g c.1;have d:=qT R f i c.2;exact⟨.cons h1.1 d.1,by simp[V.az.V.dF,h1.2,d.2]⟩
theorem ck.ju{b:Bool}{x:Value}(h:ck φ w S (.c (.t (.bool b))) x):x= .bool b:=by cases h with|c h=>cases h;rfl
theorem ck.gq{k:IntKind}{m:Int}{x:Value}(h:ck φ w S (.c (.t (.int k m))) x):x= .int k m:=by cases h with|c h=>cases h;rfl
theorem ck.kp{s:aj}{x:Value}(h:ck φ w S (.c (.t (.str s))) x):∃bs:ByteArray,x= .string bs/\bs.data.toList=s/\bs.size<=ez:=by cases h with|c h=>cases h with|str s h=>exact⟨s,rfl,rfl,h⟩
theorem ck.hR{b o:Nat}{x:Value}(h:ck φ w S (.c (.ptr b o)) x):x= .pointer (some ⟨(φ b).1,o,none⟩):=by cases h with|c h=>exact h
theorem ck.je{b sz i o:Nat}{x:Value}(h:ck φ w S (.c (.cH b sz i o)) x):x= .pointer (some ⟨(φ b).1,i*sz+o,none⟩):=by cases h with|c h=>exact h
theorem ck.r6{x:Value}(h:ck φ w S (.agg cs) x):∃vs:List Value,x= .agg vs.toArray/\a8 (bk φ w S) cs vs:=by cases h with|agg h=>exact⟨_,rfl,h⟩
theorem ck.dY{x:Value}(h:ck φ w S (.c c) x):bk φ w S c x:=by cases h with|c h=>exact h
theorem ck.r'(b:Bool):ck φ w S (.c (.t (.bool b))) (.bool b):= .c (.bool b)
theorem ck.mL(k:IntKind)(m:Int):ck φ w S (.c (.t (.int k m))) (.int k m):= .c (.int k m)
theorem JU(R:Rel aB nt φ S env J n a w)(b:o.op= .move x\/o.op= .assign x){c:aS}(f:bL x=some c)
 {p v J'}(g:n key=false)(h:aR (.mov c) env J key=some (p,v,J'))(d:p):Good P aB nt env J' (ins n key) a v ((execOp a.eval o).run P w):=by
 simp only[aR,bc]at h;obtain⟨⟨q,u⟩,e,he⟩:=h;simp only[bG,bE]at he;obtain⟨rfl,rfl,rfl⟩:=he;have ao:=cz R f e d;refine Good.pure R ?_ ao.1 ao.2;rcases b with b|b<;>simp[execOp,b]
theorem X9(R:Rel aB nt φ S env J n a w){c:Operand}(g:o.op= .pick c x y){ac d e:aS}(m:bL c=some ac)(u:bL x=some d)(z:bL y=some e)
 {p v J'}(C:n key=false)(h:aR (.pick ac d e) env J key=some (p,v,J'))(t:p):Good P aB nt env J' (ins n key) a v ((execOp a.eval o).run P w):=by
 simp only[aR,bo]at h;obtain⟨⟨D,G⟩,q,⟨E,H⟩,r,⟨F,I⟩,s,he⟩:=h;simp only at he;split at he
 . rename_i b A B;simp only[bG,bE]at he;obtain⟨rfl,rfl,rfl⟩:=he;obtain⟨h1,k,l⟩:=t;have f:=(cz R m q h1).1.ju;cases b with
   |true=>
    have i:=(cz R u r (k rfl)).1.ju;exact Good.pure R (x:= .bool A) (by simp[execOp,g,f,asBool,i]) (.r' _) rfl
   |false=>
    have j:=(cz R z s (l rfl)).1.ju;exact Good.pure R (x:= .bool B) (by simp[execOp,g,f,asBool,j]) (.r' _) rfl
 . cases he
theorem qX(b:ByteArray):b.data.toList.length=b.size:=by cases b;simp[ByteArray.size]
theorem X'{s t r:T}(h:k2 op s t=some (p,r))(c:p){x y:Value}(f:cd w S s x)(g:cd w S t y):
 ∃z,(binOp op ty x y).run P w= .ok z w/\cd w S r z:=by
 have d:∀a b:aj,(a==b)=decide (a=b):=λa b=>by by_cases h:a=b<;>simp[h]
 unfold k2 at h;split at h<;>(first|simp only[dC,bG,bE]at h|cases h)
 all_goals cases f;cases g
 case h_1=>obtain⟨rfl,rfl,rfl⟩:=h;exact⟨_,by simp[binOp,Op.intArith],.int _ _⟩
 case h_2=>obtain⟨rfl,rfl,rfl⟩:=h;exact⟨_,by simp[binOp,Op.intArith],.int _ _⟩
 case h_3=>obtain⟨rfl,rfl,rfl⟩:=h;exact⟨_,by simp[binOp,Op.intArith],.int _ _⟩
 case h_4=>obtain⟨rfl,rfl,rfl⟩:=h;exact⟨_,by simp[binOp,Op.intDiv,c],.int _ _⟩
 case h_5=>obtain⟨rfl,rfl,rfl⟩:=h;exact⟨_,by simp[binOp,Op.intDiv,c],.int _ _⟩
 case h_6=>obtain⟨rfl,rfl,rfl⟩:=h;exact⟨_,by simp[binOp,Op.intBits],.int _ _⟩
 case h_7=>obtain⟨rfl,rfl,rfl⟩:=h;exact⟨_,by simp[binOp,Op.intBits],.int _ _⟩
 case h_8=>obtain⟨rfl,rfl,rfl⟩:=h;exact⟨_,by simp[binOp,Op.intBits],.int _ _⟩
 case h_9=>obtain⟨rfl,rfl,rfl⟩:=h;exact⟨_,by simp[binOp,Op.intBits],.int _ _⟩
 case h_10=>obtain⟨rfl,rfl⟩:=h;exact⟨_,by simp only[binOp,Op.shift];rw[bp];rfl,.int _ _⟩
 case h_11=>obtain⟨rfl,rfl⟩:=h;exact⟨_,by simp only[binOp,Op.shift];rw[bp];rfl,.int _ _⟩
 case h_12=>obtain⟨rfl,rfl,rfl⟩:=h;exact⟨_,by simp[binOp,Op.intCmp];rfl,.bool _⟩
 case h_13=>obtain⟨rfl,rfl,rfl⟩:=h;exact⟨_,by simp[binOp,Op.intCmp,bne,BEq.beq],.bool _⟩
 case h_14=>obtain⟨rfl,rfl,rfl⟩:=h;exact⟨_,by simp[binOp,Op.intCmp],.bool _⟩
 case h_15=>obtain⟨rfl,rfl,rfl⟩:=h;exact⟨_,by simp[binOp,Op.intCmp],.bool _⟩
 case h_16=>obtain⟨rfl,rfl,rfl⟩:=h;exact⟨_,by simp[binOp,Op.intCmp],.bool _⟩
 case h_17=>obtain⟨rfl,rfl,rfl⟩:=h;exact⟨_,by simp[binOp,Op.intCmp],.bool _⟩
 case h_18 s hs t ht=>
  obtain⟨rfl,rfl⟩:=h;simp only[qX]at c;have e:(s++t).data.toList=s.data.toList++t.data.toList:=by simp
  refine⟨.string (s++t),?_,e▸.str _ (by rw[ByteArray.size_append];exact c)⟩;have:¬(((s.size+t.size:Nat):Int)>IntKind.i64.max):=by simp only[IntKind.max];unfold ez at c;simp[IntKind.signed,IntKind.bits];omega
  simp only[binOp,Op.stringOp,al this];rfl
 case h_19 s hs t ht=>obtain⟨rfl,rfl⟩:=h;exact⟨_,by simp only[binOp,Op.stringOp,ByteArray.toList_eq,d];rfl,.bool _⟩
 case h_20 s hs t ht=>obtain⟨rfl,rfl⟩:=h;exact⟨_,by simp only[binOp,Op.stringOp,ByteArray.toList_eq,d];rfl,.bool _⟩
 case h_21 s hs t ht=>obtain⟨rfl,rfl⟩:=h;exact⟨_,by simp only[binOp,Op.stringOp,ByteArray.toList_eq];rfl,.bool _⟩
 case h_22 s hs t ht=>obtain⟨rfl,rfl⟩:=h;exact⟨_,by simp only[binOp,Op.stringOp,ByteArray.toList_eq,d];rfl,.bool _⟩
 case h_23 s hs t ht=>obtain⟨rfl,rfl⟩:=h;exact⟨_,by simp only[binOp,Op.stringOp,ByteArray.toList_eq,d];rfl,.bool _⟩
 case h_24 s hs t ht=>obtain⟨rfl,rfl⟩:=h;exact⟨_,by simp only[binOp,Op.stringOp,ByteArray.toList_eq];rfl,.bool _⟩
theorem Gs(h1:u≠.nilIface)(a:∀cs,u≠.agg cs):(eqGuard op ty x y u v).run P w= .ok () w:=by
 unfold eqGuard;simp_all
theorem cd.guard{t:T}(h:cd w S t u):u≠.nilIface/\∀cs,u≠.agg cs:=by
 cases h<;>exact⟨by simp,by simp⟩
theorem IW(b:P.underlying ty=some .bool)(b1 b2:Bool):(Op.equal ty (.bool b1) (.bool b2)).run P w= .ok (b1==b2) w:=by
 obtain⟨d,a⟩:∃d,Op.maxDepth=d+1:=⟨9999,rfl⟩
 unfold Op.equal;rw[a];unfold Op.equalIn;simp only[Sem.run_bind,run_underlying b,Result.andThen_ok];rfl
theorem G'(R:Rel aB nt φ S env J n a w){u:TypeId}(k:o.op= .binOp op ty x y u){d e:aS}(m:bL x=some d)(q:bL y=some e)
 {p v J'}(A:n key=false)(h:aR (.bin op d e) env J key=some (p,v,J'))(b:p):Good P aB nt env J' (ins n key) a v ((execOp a.eval o).run P w):=by
 simp only[aR,bo]at h;obtain⟨⟨C,E⟩,i,⟨D,F⟩,j,he⟩:=h;simp only at he;split at he
 . rename_i t1 t2;simp only[bc,bE]at he;obtain⟨⟨B,r⟩,l,rfl,rfl,rfl⟩:=he;have h1:=(cz R m i b.1).1.dY;have g:=(cz R q j b.2.1).1.dY;obtain⟨z,s,t⟩:=X' (P:=P) (ty:=ty) l b.2.2 h1 g;refine Good.pure R (x:=z) ?_ (.c t) rfl;have f:(eqGuard op ty x y (a.eval x) (a.eval y)).run P w= .ok () w:=Gs (cd.guard h1).1 (cd.guard h1).2;simp[execOp,k,f,s]
 . cases he
theorem Xa(R:Rel aB nt φ S env J n a w){s:TypeId}(l:o.op= .binOp op ty x y s)(m:op= .eql\/op= .neq)(f:P.underlying ty=some .bool)
 {b c:aS}(q:bL x=some b)(r:bL y=some c)
 {p v J'}(t:n key=false)(h:aR (.eqBool (op== .neq) b c) env J key=some (p,v,J'))(e:p):Good P aB nt env J' (ins n key) a v ((execOp a.eval o).run P w):=by
 simp only[aR,bo]at h;obtain⟨⟨u,A⟩,j,⟨z,B⟩,k,he⟩:=h;simp only at he;split at he
 . rename_i b1 b2;simp only[bG,bE]at he;obtain⟨rfl,rfl,rfl⟩:=he;have h1:=(cz R q j e.1).1.ju;have d:=(cz R r k e.2).1.ju;refine Good.pure R (x:= .bool (if(op== .neq)then !(b1==b2)else(b1==b2))) ?_ (.r' _) rfl;have g:(eqGuard op ty x y (a.eval x) (a.eval y)).run P w= .ok () w:=Gs (by rw[h1];simp) (by rw[h1];simp);have i:(binOp op ty (a.eval x) (a.eval y)).run P w= .ok (.bool (if(op== .neq)then !(b1==b2)else(b1==b2))) w:=by
    rcases m with rfl|rfl
    . rw[h1,d];simp only[binOp,Sem.run_bind,IW f];rfl
    . rw[h1,d];simp only[binOp,Sem.run_bind,IW f];rfl
   simp[execOp,l,g,i]
 . cases he
theorem ZX(R:Rel aB nt φ S env J n a w)(d:o.op= .unOp .not ty x){b:aS}(f:bL x=some b)
 {p v J'}(g:n key=false)(h:aR (.not b) env J key=some (p,v,J'))(e:p):Good P aB nt env J' (ins n key) a v ((execOp a.eval o).run P w):=by
 simp only[aR,bo]at h;obtain⟨⟨i,j⟩,c,he⟩:=h;simp only at he;split at he
 . simp only[bG,bE]at he;obtain⟨rfl,rfl,rfl⟩:=he;have h1:=(cz R f c e).1.ju;exact Good.pure R (by simp[execOp,d,h1,Op.unary]) (.r' _) rfl
 . cases he
theorem ZY(R:Rel aB nt φ S env J n a w){k:IntKind}(i:o.op= .unOp .neg ty x){b:aS}(l:bL x=some b)
 {p v J'}(m:n key=false)(h:aR (.bin .sub (.const (.c (.t (.int k 0)))) b) env J key=some (p,v,J'))(j:p):Good P aB nt env J' (ins n key) a v ((execOp a.eval o).run P w):=by
 simp only[aR,aS.get,ak,bo]at h;obtain⟨⟨s,u⟩,g,he⟩:=h;simp only at he;split at he
 . rename_i t1 t2 aK;cases aK;simp only[bc,bE]at he;obtain⟨⟨q,r⟩,d,rfl,rfl,rfl⟩:=he;have e:=(cz R l g j.2.1).1;cases t2<;>simp only[k2,reduceCtorEq,dC,bG,bE]at d;obtain⟨rfl,rfl,rfl⟩:=d;have f:=e.gq;exact Good.pure R (by simp[execOp,i,f,Op.unary,Op.intArith]) (.mL _ _) rfl
 . cases he
theorem ZZ(R:Rel aB nt φ S env J n a w){k:IntKind}(i:o.op= .unOp .xor ty x){b:aS}(l:bL x=some b)
 {p v J'}(m:n key=false)(h:aR (.bin .xor (.const (.c (.t (.int k (if k.signed then -1 else k.max))))) b) env J key=some (p,v,J'))(j:p):Good P aB nt env J' (ins n key) a v ((execOp a.eval o).run P w):=by
 simp only[aR,aS.get,ak,bo]at h;obtain⟨⟨s,u⟩,g,he⟩:=h;simp only at he;split at he
 . rename_i t1 t2 aK;cases aK;simp only[bc,bE]at he;obtain⟨⟨q,r⟩,d,rfl,rfl,rfl⟩:=he;have e:=(cz R l g j.2.1).1;cases t2<;>simp only[k2,reduceCtorEq,dC,bG,bE]at d;obtain⟨rfl,rfl,rfl⟩:=d;have f:=e.gq;exact Good.pure R (by simp[execOp,i,f,Op.unary,Op.intBits]) (.mL _ _) rfl
 . cases he
theorem Ya(R:Rel aB nt φ S env J n a w){s d:TypeId}(f:o.op= .convert s d x){j k:IntKind}(hs:P.underlying s=some (.int j))(c:P.underlying d=some (.int k)){b:aS}(i:bL x=some b)
 {p v J'}(l:n key=false)(h:aR (.conv k b) env J key=some (p,v,J'))(g:p):Good P aB nt env J' (ins n key) a v ((execOp a.eval o).run P w):=by
 simp only[aR,bo]at h;obtain⟨⟨m,q⟩,e,he⟩:=h;simp only at he;split at he
 . simp only[bG,bE]at he;obtain⟨rfl,rfl,rfl⟩:=he;have h1:=(cz R i e g).1.gq;exact Good.pure R (by simp[execOp,f,h1,convert,underlying,hs,c,Conv.intToInt]) (.mL _ _) rfl
 . cases he
theorem Xb(m:Int):(Utf8.encode m).size<=ez:=by
 unfold ez Utf8.encode;generalize (if Utf8.valid m then m.toNat else Utf8.runeError)=c;dsimp only
 (repeat' split)<;>simp[ByteArray.size]
theorem Z0(R:Rel aB nt φ S env J n a w){s d:TypeId}(g:o.op= .convert s d x){k:IntKind}(hs:P.underlying s=some (.int k))(e:P.underlying d=some .string){b:aS}(j:bL x=some b)
 {p v J'}(l:n key=false)(h:aR (.i2s b) env J key=some (p,v,J'))(i:p):Good P aB nt env J' (ins n key) a v ((execOp a.eval o).run P w):=by
 simp only[aR,bo]at h;obtain⟨⟨m,q⟩,f,he⟩:=h;simp only at he;split at he
 . simp only[bG,bE]at he;obtain⟨rfl,rfl,rfl⟩:=he;have h1:=(cz R j f i).1.gq;exact Good.pure R (by simp[execOp,g,h1,convert,underlying,hs,e,Conv.intToString]) (.c (.str _ (Xb _))) rfl
 . cases he
theorem Z1(R:Rel aB nt φ S env J n a w){s d:TypeId}(f:o.op= .convert s d x)(hs:P.underlying s=some .string)(c:P.underlying d=some .string){b:aS}(i:bL x=some b)
 {p v J'}(j:n key=false)(h:aR (.s2s b) env J key=some (p,v,J'))(g:p):Good P aB nt env J' (ins n key) a v ((execOp a.eval o).run P w):=by
 simp only[aR,bo]at h;obtain⟨⟨k,l⟩,e,he⟩:=h;simp only at he;split at he
 . simp only[bG,bE]at he;obtain⟨rfl,rfl,rfl⟩:=he;have ao:=cz R i e g;obtain⟨bs,h1,rfl,_⟩:=ao.1.kp;refine Good.pure R (x:= .string bs) ?_ (h1▸ao.1) rfl;simp[execOp,f,h1,convert,underlying,hs,c]
 . cases he
theorem Xw(R:Rel aB nt φ S env J n a w)(b:o.op= .nilCheck x){c:aS}(f:bL x=some c)
 {p v J'}(g:n key=false)(h:aR (.nilCheck c) env J key=some (p,v,J'))(e:p):Good P aB nt env J' (ins n key) a v ((execOp a.eval o).run P w):=by
 simp only[aR,bo]at h;obtain⟨⟨i,j⟩,d,he⟩:=h;simp only at he;split at he<;>simp only[bG,bE,reduceCtorEq]at he
 all_goals
  obtain⟨rfl,rfl,rfl⟩:=he;have ao:=cz R f d e;have h1:=ao.1.dY;refine Good.pure R (x:=a.eval x) ?_ ao.1 ao.2
 . simp only[bk]at h1;simp[execOp,b,h1]
 . simp only[bk]at h1;simp[execOp,b,h1]
 . obtain⟨_,_,_,h1,_⟩:=h1;simp[execOp,b,h1]
theorem Yb(R:Rel aB nt φ S env J n a w)(t:o.op= .fieldAddr ty x f)(z:P.underlying ty=some (.struct fs)){d:Field}(l:fs[f]?=some d)
 {m:Nat}(k:eH P d.type=some m)(s:m≠0){j:aS}(B:bL x=some j)
 {p v J'}(C:n key=false)(h:aR (.fldA d.offset j) env J key=some (p,v,J'))(u:p):Good P aB nt env J' (ins n key) a v ((execOp a.eval o).run P w):=by
 simp only[aR,bo]at h;obtain⟨⟨D,E⟩,q,he⟩:=h;simp only at he;have A:∀w,(underlying ty).run P w= .ok (.struct fs) w:=by intro w;simp[underlying,z]
 have y:∀w,(sizeOf d.type).run P w= .ok m w:=by intro w;simp only[eH,bc]at k;obtain⟨i,r,rfl⟩:=k;simp[sizeOf,typeInfo,r]
 have g:∀(b off:Nat),a.eval x= .pointer (some ⟨b,off,none⟩)->(execOp a.eval o).run P w= .ok (.value (.pointer (some ⟨b,off+d.offset,none⟩))) w:=by
  intro b off e;simp[execOp,t,e,Instr.fieldAt,A,l,Instr.sureAddr,fieldPlace,y,s,Addr.add]
  try (split<;>simp_all)
 split at he<;>simp only[bG,bE,reduceCtorEq]at he
 all_goals
  obtain⟨rfl,rfl,rfl⟩:=he;have ao:=cz R B q u;have h1:=ao.1.dY
 . simp only[bk]at h1;exact Good.pure R (g _ _ h1) (.c rfl) ao.2
 . simp only[bk]at h1;exact Good.pure R (g _ _ h1) (.c (by simp[bk,p9])) ao.2
 . obtain⟨blk,off,f,h1,aa⟩:=h1;exact Good.pure R (g _ _ h1) (.c ⟨blk,off,f,by simp[p9],aa⟩) ao.2
theorem a8.af8(h:a8 (cd w S) ts vs):a8 (bk φ w S) (ts.map .t) vs:=by
 induction h with
 |nil=>exact .nil
 |cons h _ ih=>exact .cons h ih
theorem JV(n:Nat->Bool)(ts:List T):(ts.map C.t).all (C.az n)=true:=by simp[C.az]
theorem XF{n:Nat->Bool}{cs:List C}(h:cs.all (C.az n)=true)(o k:Nat):((cs.drop o).take k).all (C.az n)=true:=by grind
theorem zg{g:Bool}(ao:pG P ty=some g)(w:World):(isAgg ty).run P w= .ok g w:=by
 unfold pG at ao;split at ao<;>simp_all [isAgg,underlying]
theorem j8{k:Nat}(a:eH P ty=some k)(w:World):(sizeOf ty).run P w= .ok k w:=by
 simp only[eH,bc]at a;obtain⟨i,b,rfl⟩:=a;simp[sizeOf,typeInfo,b]
theorem IX{g:Bool×Nat}(h:tj P ty=some g):pG P ty=some g.1/\eH P ty=some g.2/\(g.1=false->g.2=1):=by
 simp only[tj,bo,dC,bG]at h;grind
theorem Yj{g:Bool}{k:Nat}(ao:pG P ty=some g)(e:eH P ty=some k){b o:Nat}
 (a:∀j,j<k->w.cell? ⟨b,o+j,none⟩=vs[j]?)(ae:vs.length=k)(h1:g=false->k=1):
 (loadVar ty ⟨b,o,none⟩).run P w= .ok (if g then .agg vs.toArray else vs.getD 0 undef) w:=by
 cases g with
 |true=>
  have:=run_loadCells_list (P:=P) w ⟨b,o,none⟩ vs (λj v c=>by
   have d:j<k:=by rw[<-ae];exact(c7.1 c).1
   rw[<-c,<-a j d];unfold Addr.add;split
   . grind
   . rfl)
  rw[ae]at this;simp[loadVar,zg ao,j8 e,this]
 |false=>
  have f:=h1 rfl;subst f;obtain⟨v,rfl⟩:∃v,vs=[v]:=by
   match vs,ae with
   |[v],_=>exact⟨v,rfl⟩
  have:=a 0 (by omega);simp at this;simp[loadVar,zg ao,this]
theorem bk.single(h:bk φ w S c v):v.cells=#[v]:=by
 have:=bk.jj h;cases v<;>simp[Value.oneCell']at this<;>rfl
theorem nv{v:V}{x:Value}(h:ck φ w S v x)(a:pH v=some cs)(b:v.az n=true):a8 (bk φ w S) cs x.cells.toList/\cs.all (C.az n)=true:=by
 cases h with
 |c h=>
  simp[pH]at a;subst a;rw[bk.single h];exact⟨.cons h .nil,by simpa[V.az]using b⟩
 |agg h=>
  simp[pH]at a;subst a;exact⟨by simpa[Value.cells]using h,by simpa[V.az]using b⟩
 |aY=>simp[pH]at a
theorem S1{k o:Nat}{v:V}(h:a8 (bk φ w S) cs vs)(a:cs.all (C.az n)=true)(ae:jQ agg k cs o=some v)(h1:agg=false->k=1):
 o+k<=cs.length/\ck φ w S v (if agg then .agg ((vs.drop o).take k).toArray else((vs.drop o).take k).getD 0 undef)/\v.az n=true:=by
 unfold jQ at ae;cases agg with
 |true=>
  simp only[bJ,dC,bG]at ae;obtain⟨d,rfl⟩:=ae;refine⟨d,?_,by simpa[V.az]using XF a o k⟩;simpa using ck.agg ((h.drop o).take k)
 |false=>
  have:=h1 rfl;subst this;simp only[bK,bT,bc]at ae;obtain⟨c,b,rfl⟩:=ae;obtain⟨x,f,e⟩:=h.get b;have ay:o<cs.length:=(c7.1 b).1;refine⟨by omega,?_,?_⟩
  . have:((vs.drop o).take 1).getD 0 undef=x:=(by grind);simp only[bK,bT,this];exact .c e
  . simp only[c0]at a;simpa[V.az]using a c (eJ b)
theorem K0{k o:Nat}{v:V}(ae:loadT agg k ts o=some v):jQ agg k (ts.map .t) o=some v:=by
 unfold loadT at ae;unfold jQ;cases agg with
 |true=>simpa using ae
 |false=>simpa[Option.map_map]using ae
theorem Z'{g:Bool}{k:Nat}(ao:pG P ty=some g)(a:eH P ty=some k)(h1:g=false->k=1)(b:off+k<=vs.length):
 (part ty vs.toArray off).run P w= .ok (if g then .agg ((vs.drop off).take k).toArray else((vs.drop off).take k).getD 0 undef) w:=by
 cases g with
 |true=>
  simp only[part,Sem.run_bind,zg ao,Result.andThen_ok,bJ,j8 a,Sem.run_pure]
  congr 2
  apply Array.ext';simp[Array.toList_extract,List.extract,List.take_drop]
 |false=>
  have:=h1 rfl;subst this;have ay:off<vs.length:=by omega
  simp[part,zg ao,eF ay,List.getD,lr]
theorem Z2(R:Rel aB nt φ S env J n a w)(r:o.op= .field ty x f)(y:P.underlying ty=some (.struct fs)){b:Field}(j:fs[f]?=some b)
 {m:Nat}(q:eH P b.type=some m){g:Bool}(ao:pG P b.type=some g)(h1:g=false->m=1){c:aS}(B:bL x=some c)
 {p v J'}(C:n key=false)(h:aR (.fld g b.offset m c) env J key=some (p,v,J'))(s:p):Good P aB nt env J' (ins n key) a v ((execOp a.eval o).run P w):=by
 simp only[aR,bo]at h;obtain⟨⟨D,E⟩,k,he⟩:=h;simp only at he;split at he
 . rename_i cs;simp only[bc,bE]at he;obtain⟨v0,z,rfl,rfl,rfl⟩:=he;have e:=cz R B k s;obtain⟨vs,A,d⟩:=e.1.r6;obtain⟨l,u,i⟩:=S1 d (by simpa[V.az]using e.2) z h1;have t:=Z' (P:=P) (w:=w) (vs:=vs) ao q h1 (by rw[<-d.length];exact l);exact Good.pure R (by simp[execOp,r,A,Instr.field,underlying,y,j,asAgg,t]) u i
 . cases he
theorem Z3(R:Rel aB nt φ S env J n a w){i:Nat}(k:o.op= .extract x i){c:aS}(q:bL x=some c)
 {p v J'}(r:n key=false)(h:aR (.ext c i) env J key=some (p,v,J'))(l:p):Good P aB nt env J' (ins n key) a v ((execOp a.eval o).run P w):=by
 simp only[aR,bo]at h;obtain⟨⟨s,t⟩,j,he⟩:=h;simp only at he;split at he
 . rename_i vs;simp only[bc,bE]at he;obtain⟨v0,b,rfl,rfl,rfl⟩:=he;have d:=cz R q j l;generalize f:a.eval x=y at d;obtain⟨m,g⟩:=d;cases m with
   |aY _ xs ae aa=>
    have ay:i<xs.length:=by rw[<-ae];exact(c7.1 b).1
    have e:xs[i]?=some xs[i]:=eF ay;refine Good.pure R (x:=xs[i]) ?_ (aa i _ _ b e) (nB (by simpa[V.az]using g) b);simp[execOp,k,f,Instr.extract,e]
 . cases he
theorem XK(R:Rel aB nt φ S env J n a w){x y:Operand}{e:Array TypeId}(j:o.op= .call {callee:= .builtin .max,args:=#[x,y],argTypes:=e}){b c:aS}(l:bL x=some b)(m:bL y=some c)
 {p v J'}(r:n key=false)(h:aR (.max2 b c) env J key=some (p,v,J'))(d:p):Good P aB nt env J' (ins n key) a v ((execOp a.eval o).run P w):=by
 simp only[aR,bo]at h;obtain⟨⟨t,z⟩,g,⟨u,A⟩,i,he⟩:=h;simp only at he;split at he
 . rename_i k p s q;simp only[dC,bG,bE]at he;obtain⟨rfl,rfl,rfl,rfl⟩:=he;have h1:=(cz R l g d.1).1.gq;have f:=(cz R m i d.2).1.gq;refine Good.pure R (x:= .int k (max p q)) ?_ (.mL _ _) rfl;have:(if p<q then q else p)=max p q:=(by omega);simp[execOp,j,resolve,invoke,builtin,Builtin.max_,Builtin.max2,h1,f,Go.resolve,this]
 . cases he
theorem XL(R:Rel aB nt φ S env J n a w){x y:Operand}{e:Array TypeId}(j:o.op= .call {callee:= .builtin .min,args:=#[x,y],argTypes:=e}){b c:aS}(l:bL x=some b)(m:bL y=some c)
 {p v J'}(r:n key=false)(h:aR (.min2 b c) env J key=some (p,v,J'))(d:p):Good P aB nt env J' (ins n key) a v ((execOp a.eval o).run P w):=by
 simp only[aR,bo]at h;obtain⟨⟨t,z⟩,g,⟨u,A⟩,i,he⟩:=h;simp only at he;split at he
 . rename_i k p s q;simp only[dC,bG,bE]at he;obtain⟨rfl,rfl,rfl,rfl⟩:=he;have h1:=(cz R l g d.1).1.gq;have f:=(cz R m i d.2).1.gq;refine Good.pure R (x:= .int k (min p q)) ?_ (.mL _ _) rfl;have:(if q<p then q else p)=min p q:=(by omega);simp[execOp,j,invoke,builtin,Builtin.min_,Builtin.min2,h1,f,Go.resolve,this]
 . cases he
theorem cd.ko(h:cd w S (.slice es) v):∃(a:Option Addr) (cap sz b o:Nat) (f:Nat->Nat->Value),v= .slice a es.length cap/\es.length<=cap/\es.length<=eE/\(∀e,e∈es->e.length=sz)/\(es≠[]->a=some ⟨b,o,none⟩)/\
 (∀i j:Nat,i<es.length->j<sz->S b (o+i*sz+j)/\w.cell? ⟨b,o+i*sz+j,none⟩=some (f i j))/\(∀(i j:Nat) e t,es[i]?=some e->e[j]?=some t->cd w S t (f i j)):=by
 cases h;exact⟨_,_,_,_,_,_,rfl,by assumption,by assumption,by assumption,by assumption,by assumption,by assumption⟩
theorem bk.hb{b sz len:Nat}(h:bk φ w S (.arr b sz off len) v):∃a,v= .slice a len ((φ b).2-off)/\((φ b).2≠0->a=some ⟨(φ b).1,off*sz,none⟩)/\off+len<=(φ b).2:=h
theorem JW(R:Rel aB nt φ S env J n a w){x:Operand}{ty:TypeId}(g:o.op= .call {callee:= .builtin .len,args:=#[x],argTypes:=#[ty]}){str:Bool}
 (d:if str then P.underlying ty=some .string else ∃e,P.underlying ty=some (.slice e)){i:aS}(q:bL x=some i)
 {p v J'}(r:n key=false)(h:aR (.len str i) env J key=some (p,v,J'))(m:p):Good P aB nt env J' (ins n key) a v ((execOp a.eval o).run P w):=by
 simp only[aR,bo]at h;obtain⟨⟨y,z⟩,k,he⟩:=h;simp only at he;split at he<;>simp only[bG,bE,reduceCtorEq]at he
 all_goals
  obtain⟨rfl,rfl,rfl⟩:=he;have h1:=(cz R q k m).1.dY
 . obtain⟨e,d⟩:=d;obtain⟨f,cap,_,_,_,_,h1,_⟩:=cd.ko h1;exact Good.pure R (by simp[execOp,g,Go.resolve,invoke,builtin,Builtin.len_,underlying,d,h1,goInt]) (.mL _ _) rfl
 . obtain⟨e,d⟩:=d;obtain⟨f,h1,_⟩:=bk.hb h1;exact Good.pure R (by simp[execOp,g,Go.resolve,invoke,builtin,Builtin.len_,underlying,d,h1,goInt]) (.mL _ _) rfl
 . obtain⟨e,d⟩:=d;obtain⟨f,h1⟩:=h1;exact Good.pure R (by simp[execOp,g,Go.resolve,invoke,builtin,Builtin.len_,underlying,d,h1,goInt]) (.mL _ _) rfl
 . obtain⟨e,d⟩:=d;rename_i b l;obtain⟨f,cap,h1⟩:∃f cap,a.eval x= .slice f l cap:=by
    obtain⟨s,t,u⟩:=h1;grind
   exact Good.pure R (by simp[execOp,g,Go.resolve,invoke,builtin,Builtin.len_,underlying,d,h1,goInt]) (.mL _ _) rfl
 . simp only[bJ]at d;obtain⟨bs,j,rfl,_⟩:=ck.kp (.c h1);exact Good.pure R (x:= .int .i64 bs.size) (by simp[execOp,g,Go.resolve,invoke,builtin,Builtin.len_,underlying,d,j,goInt]) (by rw[qX];exact .mL _ _) rfl
theorem XM(R:Rel aB nt φ S env J n a w){i:Operand}(L:o.op= .indexAddr ty x i)(O:P.underlying ty=some (.slice e)){sz:Nat}(N:eH P e=some sz)(h0:sz≠0)
 {A z:aS}(Q:bL x=some A)(I:bL i=some z)
 {p v J'}(aa:n key=false)(h:aR (.idxA sz A z) env J key=some (p,v,J'))(M:p):Good P aB nt env J' (ins n key) a v ((execOp a.eval o).run P w):=by
 simp only[aR,bo]at h;obtain⟨⟨af,ah⟩,H,⟨ae,ag⟩,G,he⟩:=h;simp only at he;have B:∀(b off m:Nat),(Addr.add ⟨b,off,none⟩ (m*sz):Addr)=⟨b,off+m*sz,none⟩:=by
  intro b off m;unfold Addr.add;split
  . grind
  . rfl
 split at he
 . rename_i es k m;simp only[bG,bE]at he;obtain⟨rfl,rfl,rfl⟩:=he;obtain⟨u,y,s,d,E⟩:=M;have h1:=(cz R Q H u).1.dY;have l:=(cz R I G y).1.gq;obtain⟨T,cap,g,b,off,f,h1,Z,ad,W,q,D,Y⟩:=cd.ko h1;have U:es≠[]:=by intro h;subst h;simp at d
   have F:es[m.toNat]?=some (el es m.toNat):=by unfold el;rw[List.getD,eF d];rfl
   have X:g=sz:=by rw[<-E];exact(W _ (eJ F)).symm
   subst X;rw[q U]at h1;refine Good.pure R (x:= .pointer (some ⟨b,off+m.toNat*g,none⟩)) ?_ ?_ rfl
   . have r:0<=m/\m<(es.length:Int):=⟨s,by omega⟩
     simp[execOp,L,h1,l,Instr.indexAt,asIntOf,underlying,O,r,j8 N,B]
   . refine .c ⟨b,off+m.toNat*g,λj=>f m.toNat j,by simp,λj t ht=>?_⟩;have K:j<g:=by rw[<-E];exact(c7.1 ht).1
     exact⟨(D _ _ d K).1,(D _ _ d K).2,Y _ _ _ _ F ht⟩
 . rename_i b g off len k m;simp only[bG,bE]at he;obtain⟨rfl,rfl,rfl⟩:=he;obtain⟨u,y,s,d,rfl⟩:=M;have ao:=cz R Q H u;have h1:=ao.1.dY;have l:=(cz R I G y).1.gq;obtain⟨T,h1,q,ab⟩:=bk.hb h1;rw[q (by omega)]at h1;refine Good.pure R (x:= .pointer (some ⟨(φ b).1,off*sz+m.toNat*sz,none⟩)) ?_ (.c ?_) (by simpa[V.az,C.az]using ao.2)
   . have r:0<=m/\m<(len:Int):=⟨s,by omega⟩
     simp[execOp,L,h1,l,Instr.indexAt,asIntOf,underlying,O,r,j8 N,B]
   . simp[bk,gf]
 . cases he
theorem XN(R:Rel aB nt φ S env J n a w){i:Operand}(r:o.op= .index ty x i)(z:P.underlying ty=some .string)
 {c b:aS}(A:bL x=some c)(l:bL i=some b)
 {p v J'}(B:n key=false)(h:aR (.idxS c b) env J key=some (p,v,J'))(t:p):Good P aB nt env J' (ins n key) a v ((execOp a.eval o).run P w):=by
 simp only[aR,bo]at h;obtain⟨⟨D,F⟩,j,⟨C,E⟩,g,he⟩:=h;simp only at he;split at he
 . rename_i s k m;simp only[bG,bE]at he;obtain⟨rfl,rfl,rfl⟩:=he;obtain⟨u,y,q,d⟩:=t;obtain⟨bs,h1,rfl,hs⟩:=(cz R A j u).1.kp;have e:=(cz R l g y).1.gq;have ay:m.toNat<bs.size:=by rw[<-qX];exact d
   refine Good.pure R (x:= .int .u8 (bs.data.toList.getD m.toNat 0).toNat) ?_ (.mL _ _) rfl;have f:bs[m.toNat]?=some (bs.data.toList.getD m.toNat 0):=by
    rw[getElem?_pos bs m.toNat ay]
    congr 1
    simp only[List.getD,eF d,lu,Array.getElem_toList];rfl
   simp[execOp,r,h1,e,Instr.index,asIntOf,underlying,z,q,f]
 . cases he
theorem To:∀{vs:List V} {l:a6} {xs:List Value},aR.sb vs=some l->a8 (ck φ w S) vs xs->V.az.V.dF n vs=true->
 xs=l.map (λb=>Value.pointer (some ⟨(φ b).1,0,none⟩))/\(l.all λb=>n b)=true
 |[],l,xs,h,c,a=>by simp[aR.sb]at h;subst h;cases c;simp
 |v::vs,l,xs,h,c,a=>by
  cases c with
  |cons f ht=>
   unfold aR.sb at h;split at h
   . grind
   . rename_i b r e;cases e;simp only[bc]at h;obtain⟨i,g,rfl⟩:=h;simp only[V.az.V.dF,cc]at a;obtain⟨rfl,d⟩:=To g ht a.2;have:=f.hR;subst this;refine⟨by simp,?_⟩;simp only[oe,d,wo];simpa[V.az,C.az]using a.1
   . cases h
theorem XO(R:Rel aB nt φ S env J n a w){caps:Array Operand}(i:o.op= .makeFunc (.func f) #[] caps){d:List aS}(k:mP caps.toList=some d)
 {p v J'}(m:n key=false)(h:aR (.mkfn f d) env J key=some (p,v,J'))(j:p):Good P aB nt env J' (ins n key) a v ((execOp a.eval o).run P w):=by
 simp only[aR,bo]at h;obtain⟨⟨q,vs⟩,g,he⟩:=h;simp only at he;split at he
 . rename_i l ae;simp only[bG,bE]at he;obtain⟨rfl,rfl,rfl⟩:=he;have ao:=qT R k g j;obtain⟨h1,e⟩:=To ae ao.1 ao.2;refine Good.pure R (x:= .func (.func f) #[] (l.map λb=>Value.pointer (some ⟨(φ b).1,0,none⟩)).toArray) ?_ (.c rfl) (by simpa[V.az,C.az]using e);have:caps.map a.eval=(l.map λb=>Value.pointer (some ⟨(φ b).1,0,none⟩)).toArray:=(by grind);simp[execOp,i,Instr.makeFunc,this]
 . cases he
theorem qU(R:Rel aB nt φ S env J n a w){x:Option Operand}{c:Option aS}(b:kl x=some c){m:Option Int}(h:jP env c=some (p,m))(e:p):
 (x.map a.eval=none/\m=none)\/∃k i,x.map a.eval=some (.int k i)/\m=some i:=by
 cases x with
 |none=>simp[kl]at b;subst b;simp[jP]at h;exact .inl ⟨rfl,h.2.symm⟩
 |some x=>
  simp only[kl,bc]at b;obtain⟨g,d,rfl⟩:=b;simp only[jP,bo]at h;obtain⟨⟨q,v⟩,f,he⟩:=h;simp only at he;split at he
  . simp only[bG,bE]at he;obtain⟨rfl,rfl⟩:=he;have:=(cz R d f e).1.gq;exact .inr ⟨_,_,dS some this,rfl⟩
  . cases he
theorem CI {isSlice:Bool}{len cap:Nat}{b a:Option Value}{l h:Option Int}(d:(b=none/\l=none)\/∃k i,b=some (.int k i)/\l=some i)(c:(a=none/\h=none)\/∃k i,a=some (.int k i)/\h=some i)
 (h0:0<=l.getD 0)(h1:l.getD 0<=h.getD len)(e:h.getD len<=len)(f:len<=cap):
 (Instr.sliceBounds isSlice len cap b a none).run P w= .ok ((l.getD 0).toNat,(h.getD len).toNat,cap) w:=by
 have g:h.getD len<=(cap:Int):=by omega
 have ba:0<=h.getD (len:Int):=by omega
 rcases d with⟨rfl,rfl⟩|⟨k,i,rfl,rfl⟩<;>rcases c with⟨rfl,rfl⟩|⟨m,j,rfl,rfl⟩<;>simp_all [Instr.sliceBounds,Instr.sliceBound,asIntOf]
 . omega
theorem XP(R:Rel aB nt φ S env J n a w){i:Option Operand}(y:o.op= .slice ty x j i none)(D:P.underlying ty=some .string)
 {f:aS}{d b:Option aS}(E:bL x=some f)(u:kl j=some d)(t:kl i=some b)
 {p v J'}(G:n key=false)(h:aR (.slcS f d b) env J key=some (p,v,J'))(z:p):Good P aB nt env J' (ins n key) a v ((execOp a.eval o).run P w):=by
 simp only[aR,bo]at h;obtain⟨⟨I,K⟩,r,⟨pl,l⟩,q,⟨H,h⟩,m,he⟩:=h;simp only at he;split at he
 . rename_i s;simp only[bG,bE]at he;obtain⟨rfl,rfl,rfl⟩:=he;obtain⟨A,B,C,h0,h1,g⟩:=z;obtain⟨bs,F,rfl,hs⟩:=(cz R E r A).1.kp;have ae:=qU R u q B;have aa:=qU R t m C;rw[qX]at h1 g;have k:=CI (P:=P) (w:=w) (isSlice:=false) (cap:=bs.size) ae aa h0 h1 g (ea _);rw[qX];have e:(bs.extract (l.getD 0).toNat (h.getD bs.size).toNat).data.toList=(bs.data.toList.take (h.getD bs.size).toNat).drop (l.getD 0).toNat:=(by simp[ByteArray.data_extract,Array.toList_extract,List.extract,List.drop_take]);refine Good.pure R (x:= .string (bs.extract (l.getD 0).toNat (h.getD bs.size).toNat)) ?_ (.c ?_) rfl
   . simp[execOp,y,Instr.sliceAt,Instr.slice,underlying,D,F,k]
   . show cd w S _ _;rw[<-e];refine .str _ ?_;rw[ByteArray.size_extract];omega
 . cases he
theorem Z4(R:Rel aB nt φ S env J n a w){af y:Option Operand}(W:o.op= .slice ty x af y none)(Z:P.underlying ty=some (.slice e)){sz:Nat}(Y:eH P e=some sz)
 {M:aS}{k K:Option aS}(ab:bL x=some M)(U:kl af=some k)(T:kl y=some K)
 {p v J'}(ax:n key=false)(h:aR (.slc sz M k K) env J key=some (p,v,J'))(X:p):Good P aB nt env J' (ins n key) a v ((execOp a.eval o).run P w):=by
 simp only[aR,bo]at h;obtain⟨⟨aE,aF⟩,Q,⟨pl,l⟩,u,⟨aC,h⟩,O,he⟩:=h;simp only at he;split at he
 . rename_i es;simp only[bG,bE]at he;obtain⟨rfl,rfl,rfl⟩:=he;obtain⟨E,F,G,h0,h1,A,ai⟩:=X;obtain⟨g,cap,d,b,off,f,I,ah,az,aA,r,s,ap⟩:=cd.ko (cz R ab Q E).1.dY;have ae:=qU R U u F;have aa:=qU R T O G;have B:=CI (P:=P) (w:=w) (isSlice:=true) (cap:=cap) ae aa h0 h1 A ah;generalize au:(l.getD 0).toNat=L at*;generalize aq:(h.getD (es.length:Int)).toNat=H at*;have av:L<=H:=(by omega);have ar:H<=es.length:=(by omega);have z:((es.take H).drop L).length=H-L:=by simp;omega
   refine Good.pure R (x:= .slice (if cap=L then g else g.map (·.add (L*sz))) (H-L) (cap-L)) ?_ (.c ?_) rfl
   . simp[execOp,W,Instr.sliceAt,Instr.slice,underlying,Z,I,B,j8 Y]
   . show cd w S _ _;rw[<-z];have aj:∀(i:Nat) e,((es.take H).drop L)[i]?=some e->es[L+i]?=some e/\L+i<H:=(by grind);by_cases D:es=[]
     . subst D;simp;exact cd.slice [] _ _ 0 0 0 (λ_ _=>undef) (by simp) (by simp[eE]) (by simp) (by simp) (by simp) (by simp)
     . have an:d=sz:=by
        obtain⟨cY,aw⟩:=Bx es D;grind
       subst an;refine cd.slice _ _ _ d b (off+L*d) (λi j=>f (L+i) j) (by rw[z];omega) (by rw[z];omega) (λe he=>ai e (p5 (BF he))) ?_ ?_ ?_
       . intro aD;have:L<H:=(by grind);rw[bp,r D];simp only[f',bG];unfold Addr.add;split
         . rename_i h;simp[h]
         . rfl
       . intro i j y ak;rw[z]at y;have:=s (L+i) j (by omega) ak;rw[show off+L*d+i*d+j=off+(L+i)*d+j by rw[gf];omega];exact this
       . intro i j e t he ht;exact ap _ _ _ _ (aj i e he).1 ht
 . rename_i b d off len;simp only[bG,bE]at he;obtain⟨rfl,rfl,rfl⟩:=he;obtain⟨E,F,G,h0,h1,A,rfl⟩:=X;have ao:=cz R ab Q E;have ag:n b=true:=(by simpa[V.az,C.az]using ao.2);obtain⟨g,I,r,ay⟩:=bk.hb ao.1.dY;have ae:=qU R U u F;have aa:=qU R T O G;have B:=CI (P:=P) (w:=w) (isSlice:=true) (cap:=(φ b).2-off) ae aa h0 h1 A (by omega);have N:∀(q o m:Nat),(Addr.add ⟨q,o,none⟩ m:Addr)=⟨q,o+m,none⟩:=by
    intro q o m;unfold Addr.add;split
    . grind
    . rfl
   have am:k.isNone=true->l.getD 0=0:=by
    intro aD;cases k with
    |some _=>cases aD
    |none=>simp only[jP,bG,bE]at u;rw[<-u.2];rfl
   generalize l.getD 0=L at*;generalize h.getD (len:Int)=H at*;refine Good.pure R (x:= .slice (if(φ b).2-off=L.toNat then g else g.map (·.add (L.toNat*sz))) (H.toNat-L.toNat) ((φ b).2-off-L.toNat)) ?_ (.c ?_) ?_
   . simp[execOp,W,Instr.sliceAt,Instr.slice,underlying,Z,I,B,j8 Y]
   . by_cases aD:k.isNone=true
     . rw[ad aD];have:=am aD;subst this;refine⟨_,rfl,λs=>?_,by omega⟩;split
       . exact r s
       . rw[r s];simp[N]
     . rw[al aD];refine⟨_,_,rfl,λs=>?_,by omega⟩;rw[bp,r (by omega)];simp[N,gf]
   . split<;>simpa[V.az,C.az]using ag
 . cases he
theorem Y7(R:Rel aB nt φ S env J n a w){k z:IntKind}(r:o.op= .slice ty x none (some (.const (.int k 0))) (some (.const (.int z 0))))(u:P.underlying ty=some (.slice e))
 {sz:Nat}(t:eH P e=some sz){m:aS}(y:bL x=some m)
 {p v J'}(A:n key=false)(h:aR (.slc0 m) env J key=some (p,v,J'))(s:p):Good P aB nt env J' (ins n key) a v ((execOp a.eval o).run P w):=by
 simp only[aR,bo]at h;obtain⟨⟨B,D⟩,q,he⟩:=h;simp only at he;have j:∀(g:Option Addr) (l c:Nat),a.eval x= .slice g l c->∃a2,(execOp a.eval o).run P w= .ok (.value (.slice a2 0 0)) w:=by
  intro g l c d;have cY:∀v,a.eval (.const v)=v:=λ_=>rfl;exact⟨_,by simp[execOp,r,Instr.sliceAt,Instr.slice,underlying,u,d,j8 t,Instr.sliceBounds,Instr.sliceBound,asIntOf,cY];rfl⟩
 split at he<;>simp only[bG,bE,reduceCtorEq]at he
 all_goals
  obtain⟨rfl,rfl,rfl⟩:=he;have h1:=(cz R y q s).1.dY
 . obtain⟨g,cap,C,b,off,f,d,_⟩:=cd.ko h1;obtain⟨a2,i⟩:=j _ _ _ d;exact Good.pure R i (.c ⟨a2,rfl⟩) rfl
 . obtain⟨g,d⟩:=h1;obtain⟨a2,i⟩:=j _ _ _ d;exact Good.pure R i (.c ⟨a2,rfl⟩) rfl
 . obtain⟨g,d,_⟩:=bk.hb h1;obtain⟨a2,i⟩:=j _ _ _ d;exact Good.pure R i (.c ⟨a2,rfl⟩) rfl
theorem jw{b:Nat}{a:Nat×Nat}(h:w.heap[b]?=some (.cells vs.toArray E a))(j:Nat):w.cell? ⟨b,j,none⟩=vs[j]?:=by
 simp[World.cell?,h]
theorem tb{g:Bool×Nat}(ao:tj P ty=some g){blk off0 o:Nat}{v:V}
 (b:a8 (bk φ w S) cs vs)(d:cs.all (C.az n)=true)(f:∀j,j<vs.length->w.cell? ⟨blk,off0+j,none⟩=vs[j]?)(ae:jQ g.1 g.2 cs o=some v):
 ∃x,(loadVar ty ⟨blk,off0+o,none⟩).run P w= .ok x w/\ck φ w S v x/\v.az n=true:=by
 obtain⟨h1,c,a⟩:=IX ao;obtain⟨k,l,e⟩:=S1 b d ae a;rw[b.length]at k;refine⟨_,Yj h1 c (vs:=(vs.drop o).take g.2) ?_ (by simp;omega) a,l,e⟩;intro j i;rw[lr,ad i,rF,<-f (o+j) (by omega),p9]
theorem a8.Rs(h:a8 (cd w S) ts xs):a8 (bk φ w S) (ts.map .t) xs:=a8.af8 h
theorem G2{b sz i:Nat}(h:c3 φ w S b (.arr sz es))(f:i<es.length):
 (φ b).2≠0/\∃(vs:List Value) (E:TypeId) (xs:List Value),w.heap[(φ b).1]?=some (.cells vs.toArray E (0,0))/\vs.length=(φ b).2*sz/\(el es i).length=sz/\xs.length=sz/\a8 (cd w S) (el es i) xs/\
  (∀j,j<sz->vs[i*sz+j]?=xs[j]?)/\(i+1)*sz<=vs.length:=by
 obtain⟨h1,o,e,p,ba⟩:=h;have h0:(φ b).2≠0:=by omega
 obtain⟨vs,E,aa,ae,m,hs⟩:=ba h0;have c:es[i]?=some (el es i):=by unfold el;rw[List.getD,eF f];rfl
 have k:(el es i).length=sz:=e _ (eJ c);have d:(i+1)*sz<=vs.length:=by rw[ae];exact eY _ (by omega)
 have q:i*sz+sz<=vs.length:=by rw[gf]at d;omega
 refine⟨h0,vs,E,(vs.drop (i*sz)).take sz,aa,ae,k,by simp;omega,?_,?_,d⟩
 . refine a8.lv (by simp;omega) ?_;intro j t x ht a;obtain⟨y,n,l⟩:=m _ _ _ _ c ht;rw[lr]at a;split at a
   . rw[rF,n]at a;cases a;exact l
   . cases a
 . intro j g;rw[lr,ad g,rF]
theorem Y8(R:Rel aB nt φ S env J n a w)(W:o.op= .load ty x){g:Bool×Nat}(ao:tj P ty=some g){L:aS}(z:bL x=some L)
 {p v J'}(al:n key=false)(h:aR (.load g.1 g.2 L) env J key=some (p,v,J'))(s:p):Good P aB nt env J' (ins n key) a v ((execOp a.eval o).run P w):=by
 simp only[aR,bo]at h;obtain⟨⟨av,aw⟩,r,he⟩:=h;simp only at he;have u:∀(blk off:Nat) (y:Value),a.eval x= .pointer (some ⟨blk,off,none⟩)->(loadVar ty ⟨blk,off,none⟩).run P w= .ok y w->(execOp a.eval o).run P w= .ok (.value y) w:=by
  intro blk off y h1 O;simp[execOp,W,Instr.loadAt,Instr.sureAddr,h1,O]
 split at he
 . rename_i b D;split at he
   . rename_i cs l;simp only[bc,bE]at he;obtain⟨v0,m,rfl,rfl,rfl⟩:=he;have h1:=(cz R z r s).1.hR;obtain⟨_,vs,E,aa,q,_⟩:=R.bP.blk _ _ l;have A:=(R.dP _ _ l).2;obtain⟨y,d,k,e⟩:=tb (n:=n) ao q A (λj _=>by rw[jw aa,gb]) m;rw[gb]at d;exact Good.pure R (u _ _ _ h1 d) k e
   . rename_i E c l;split at he
     . rename_i U;obtain⟨V,rfl⟩:=U;simp only[bG,bE]at he;obtain⟨rfl,rfl,rfl⟩:=he;have h1:=(cz R z r s).1.hR;obtain⟨_,⟨G,K,aa,Y,Z⟩,_⟩:=R.bP.blk _ _ l;have A:=(R.dP _ _ l).2;have X:G.oneCell'=true:=by rcases Y with rfl|rfl<;>rfl
       have q:a8 (bk φ w S) [.dead,c] [G,K]:= .cons X (.cons Z .nil);obtain⟨y,d,k,e⟩:=tb (n:=n) (vs:=[G,K]) (blk:=(φ b).1) (off0:=0) (o:=1) (v:= .c c) ao q (by simp only[oe,List.all_nil,wo];exact A) (λj _=>by rw[jw (vs:=[G,K]) aa,gb]) (by simp[jQ,V]);rw[gb]at d;exact Good.pure R (u _ _ _ h1 d) k e
     . cases he
   . cases he
 . rename_i b sz i D;split at he
   . rename_i ai es l;simp only[bc,bE]at he;obtain⟨v0,m,rfl,rfl,rfl⟩:=he;obtain⟨C,rfl,H⟩:=s;have h1:=(cz R z r C).1.je;obtain⟨_,vs,E,xs,aa,ae,am,an,q,T,_⟩:=G2 (R.bP.blk _ _ l) H;obtain⟨y,d,k,e⟩:=tb (n:=n) ao (a8.Rs q) (JV n _) (off0:=i*sz) (λj B=>by rw[jw aa,T j (by omega)]) (K0 m);exact Good.pure R (u _ _ _ h1 d) k e
   . rename_i ai es ap au c l;split at he
     . cases he
     . rename_i F;have F:g.1=false:=(by simpa using F);obtain⟨⟨a1,a2,a3,a4,a5,ak⟩,⟨vs,E,M,aq,af,N,ag,ah⟩,ar⟩:=R.bP.blk _ _ l;have A:=(R.dP _ _ l).2;split at he
       . rename_i I;subst I;simp only[bG,bE]at he;obtain⟨rfl,rfl,rfl⟩:=he;obtain⟨C,rfl,rfl⟩:=s;have h1:=(cz R z r C).1.je
         obtain⟨y,d,k,e⟩:=tb (n:=n) (vs:=[N]) (blk:=(φ b).1) (off0:=i*sz+D) (o:=0) (v:= .c c) ao (.cons ah .nil) (by simpa[bO.az]using A) (λj B=>by
          have:j=0:=(by simpa using B);subst this
          rw[jw M,l5,ag];rfl) (by simp[jQ,F])
         exact Good.pure R (u _ _ _ h1 d) k e
       . rename_i I;simp only[bc,bE]at he;obtain⟨v0,m,rfl,rfl,rfl⟩:=he;obtain⟨C,rfl,H⟩:=s;have h1:=(cz R z r C).1.je;simp only[loadT,bK,bT,bc]at m;obtain⟨t,ht,rfl⟩:=m;have Q:es[i]?=some (el es i):=by unfold el;rw[List.getD,eF H];rfl
         obtain⟨aj,ad,ab⟩:=af i D _ t Q ht (λh=>I h.2)
         obtain⟨y,d,k,e⟩:=tb (n:=n) (φ:=φ) (cs:=[.t t]) (vs:=[aj]) (blk:=(φ b).1) (off0:=i*sz+D) (o:=0) (v:= .c (.t t)) ao (.cons ab .nil) rfl (λj B=>by
          have:j=0:=(by simpa using B);subst this
          rw[jw M,l5,ad];rfl) (by simp[jQ,F])
         exact Good.pure R (u _ _ _ h1 d) k e
   . cases he
 . rename_i ts D;simp only[bc,bE]at he;obtain⟨v0,m,rfl,rfl,rfl⟩:=he;obtain⟨blk,off,f,h1,aa⟩:=(cz R z r s).1.dY;have q:a8 (cd w S) ts ((List.range ts.length).map f):=by
    refine a8.lv (by simp) ?_;grind
   obtain⟨y,d,k,e⟩:=tb (n:=n) ao (a8.Rs q) (JV n _) (blk:=blk) (off0:=off) (λj B=>by simp_all) (K0 m);exact Good.pure R (u _ _ _ h1 d) k e
 . cases he
theorem Z5{k:Nat}{s t:T}{b:Bool}(h:Bn k s t=some b)(c:xA P ty=some k){x y:Value}(f:cd w S s x)(g:cd w S t y)(d:Nat):
 (Op.equalIn (d+1) ty x y).run P w= .ok b w:=by
 have i:∀a b:aj,(a==b)=decide (a=b):=λa b=>by by_cases h:a=b<;>simp[h]
 unfold xA at c;unfold Bn at h;split at h
 . cases h;cases f;cases g;split at c<;>simp at c;rename_i e;unfold Op.equalIn;simp only[Sem.run_bind,run_underlying e,Result.andThen_ok];rfl
 . simp only[dC,bG]at h;obtain⟨rfl,rfl⟩:=h;cases f;cases g;split at c<;>simp at c;rename_i e;unfold Op.equalIn;simp only[Sem.run_bind,run_underlying e,Result.andThen_ok,bJ];rfl
 . cases h;cases f with|str s1 h1=>cases g with|str l j=>
   split at c<;>simp at c;rename_i e;unfold Op.equalIn;simp only[Sem.run_bind,run_underlying e,Result.andThen_ok];rw[beq_toListBytes,ByteArray.toList_eq,ByteArray.toList_eq,i];rfl
 . cases h
theorem Z6{k:Nat}(h:xA P ty=some k):pG P ty=some false:=by
 unfold xA at h;unfold pG;grind
theorem Sk{d:Nat}{xs ys:Array Value}:∀{fs:List Field} {i:Nat} {ks:a6} {ps c:List C} {us vs:List Value} {r:Bool},zf P i fs=some ks->sj ks ps c=some r->
 a8 (bk φ w S) ps us->a8 (bk φ w S) c vs->xs.toList.drop i=us->ys.toList.drop i=vs->(Op.eqFields (d+1) xs ys fs).run P w= .ok r w
 |[],i,ks,ps,c,us,vs,r,a,he,h1,e,aK,g=>by
  simp[zf]at a;subst a;cases ps<;>cases c<;>simp[sj]at he;subst he;rfl
 |f::fs,i,ks,ps,c,us,vs,r,a,he,h1,e,aK,g=>by
  simp only[zf,dC,bo,bc]at a;obtain⟨⟨D,B⟩,k,l,H,A,rfl⟩:=a;unfold sj at he;split at he
  . simp_all
  . rename_i G I x J y K t;cases t;simp only[bo,bc]at he;obtain⟨b,s,L,E,rfl⟩:=he;cases h1 with|cons h1 p=>
    cases e with|cons e q=>
    rename_i u M v N;have n:xs[i]?=some u:=by have:=dS (·[0]?) aK;simp at this;exact this
    have o:ys[i]?=some v:=by have:=dS (·[0]?) g;simp at this;exact this
    have ih:=Sk (d:=d) (xs:=xs) (ys:=ys) A E p q (by rw[<-yj,aK];rfl) (by rw[<-yj,g];rfl);have m:∀(j:Array Value) (z:Value),j[i]?=some z->(part f.type j f.offset).run P w= .ok z w:=by
     intro j z F;simp[part,zg (Z6 l),D,F]
    simp only[Op.eqFields,ad B,Sem.run_bind,m _ _ n,m _ _ o,Result.andThen_ok,Z5 s l h1 e d,Sem.run_ite];cases b
    . simp
    . simp[ih]
  . cases he
theorem Yk(R:Rel aB nt φ S env J n a w){H:TypeId}(D:o.op= .binOp op ty x y H)(l:op= .eql\/op= .neq){ks:a6}(b:Gj P ty=some ks)
 {f g:aS}(F:bL x=some f)(G:bL y=some g)
 {p v J'}(I:n key=false)(h:aR (.eqAgg (op== .neq) ks f g) env J key=some (p,v,J'))(m:p):Good P aB nt env J' (ins n key) a v ((execOp a.eval o).run P w):=by
 simp only[aR,bo]at h;obtain⟨⟨K,N⟩,B,⟨L,O⟩,C,he⟩:=h;simp only at he;split at he
 . rename_i ps M;simp only[bc,bE]at he;obtain⟨r,E,rfl,rfl,rfl⟩:=he;obtain⟨us,c,t⟩:=(cz R F B m.1).1.r6;obtain⟨vs,e,u⟩:=(cz R G C m.2).1.r6;unfold Gj at b;split at b
   . rename_i fs k;simp only[dC]at b;obtain⟨⟨hs,ao⟩,A⟩:=b;have q:(eqGuard op ty x y (a.eval x) (a.eval y)).run P w= .ok () w:=by rcases l with rfl|rfl<;>simp[eqGuard,c,e,ao]
     have j:P.fieldsOf ty=fs:=(by simp[Program.fieldsOf,k]);have i:(Op.equal ty (.agg us.toArray) (.agg vs.toArray)).run P w= .ok r w:=by
      obtain⟨d,z⟩:∃d,Op.maxDepth=d+2:=⟨9998,rfl⟩
      unfold Op.equal;rw[z,run_equalIn_struct w (d+1) ty _ _ (by rw[j];exact k) hs,j];exact Sk A E t u (by simp) (by simp)
     have s:(binOp op ty (a.eval x) (a.eval y)).run P w= .ok (.bool (if(op== .neq)then !r else r)) w:=by
      rcases l with rfl|rfl
      . rw[c,e];simp only[binOp,Sem.run_bind,i];rfl
      . rw[c,e];simp only[binOp,Sem.run_bind,i];rfl
     refine Good.pure R (x:= .bool (if(op== .neq)then !r else r)) ?_ (.r' _) rfl;simp[execOp,D,q,s]
   . cases b
 . cases he
theorem qP{b:Nat}(h:w'.heap[b]?=w.heap[b]?)(j:Nat):w'.cell? ⟨b,j,none⟩=w.cell? ⟨b,j,none⟩:=by
 simp[World.cell?,h]
theorem lO{b:Nat}{o:Obj}(h:w.heap[b]?=some o):b<w.heap.size:=(yq.1 h).1
theorem c3.km{b:Nat}{x:bO}(h:c3 φ w S b x)(h0:(φ b).2≠0):(φ b).1<w.heap.size:=by
 cases x with
 |box cs=>obtain⟨_,_,_,aa,_⟩:=h;exact lO aa
 |arr sz es=>obtain⟨_,_,_,_,ba⟩:=h;obtain⟨_,_,aa,_⟩:=ba h0;exact lO aa
 |set ks=>obtain⟨_,⟨_,_,aa,_⟩,_⟩:=h;exact lO aa
 |buf E s=>obtain⟨_,_,ba⟩:=h;obtain⟨⟨_,aa,_⟩,_⟩:=ba h0;exact lO aa
 |b8 E c=>obtain⟨_,⟨_,_,aa,_⟩,_⟩:=h;exact lO aa
 |cA sz es i o c=>obtain⟨_,⟨_,_,aa,_⟩,_⟩:=h;exact lO aa
theorem c3.p0{b:Nat}{x:bO}(h:c3 φ w S b x)(h0:(φ b).2≠0):∀j,¬S (φ b).1 j:=by
 cases x with
 |box cs=>obtain⟨_,_,_,_,_,hs⟩:=h;exact hs
 |arr sz es=>obtain⟨_,_,_,_,ba⟩:=h;obtain⟨_,_,_,_,_,hs⟩:=ba h0;exact hs
 |set ks=>exact h.2.2
 |buf E s=>exact(h.2.2 h0).2
 |b8 E c=>exact h.2.2
 |cA sz es i o c=>exact h.2.2
theorem c3.mono{J:dE}{b:Nat}{x:bO}(m:gu w S w' S)(q:∀b,n b=true->J b=φ b)(u:n b=true)(G:x.az n=true)(aa:(φ b).2≠0->w'.heap[(φ b).1]?=w.heap[(φ b).1]?)
 (h:c3 φ w S b x):c3 J w' S b x:=by
 cases x with
 |box cs=>
  obtain⟨h0,vs,E,h1,a,f⟩:=h;simp only[c3,q b u];refine⟨h0,vs,E,(aa h0).trans h1,a.imp λc v L z=>bk.mono m q (by simp[bO.az]at G;exact G c L) z,f⟩
 |arr sz es=>
  obtain⟨h1,a,f,y,ba⟩:=h;simp only[c3,q b u];refine⟨h1,a,f,y,λh0=>?_⟩;obtain⟨vs,E,A,B,D,F⟩:=ba h0;exact⟨vs,E,(aa h0).trans A,B,λi j e t he ht=>let⟨v,H,z⟩:=D i j e t he ht;⟨v,H,cd.mono m z⟩,F⟩
 |set ks=>
  obtain⟨h0,⟨es,c,h1,a⟩,f⟩:=h;simp only[c3,q b u];exact⟨h0,⟨es,c,(aa h0).trans h1,a⟩,f⟩
 |buf E s=>
  obtain⟨h1,a,f⟩:=h;simp only[c3,q b u];refine⟨h1,a,λh0=>?_⟩;obtain⟨⟨vs,A,B,D⟩,F⟩:=f h0;exact⟨⟨vs,(aa h0).trans A,B,D⟩,F⟩
 |b8 E c=>
  obtain⟨h0,⟨p,v,h1,a,f⟩,y⟩:=h;simp only[c3,q b u];exact⟨h0,⟨p,v,(aa h0).trans h1,a,bk.mono m q (by simpa[bO.az]using G) f⟩,y⟩
 |cA sz es i o c=>
  obtain⟨⟨h1,a,f,y,ba,K⟩,⟨vs,E,A,B,D,v,F,M⟩,N⟩:=h;simp only[c3,q b u];exact⟨⟨h1,a,f,y,ba,K⟩,⟨vs,E,(aa (by omega)).trans A,B,λi j e t he ht aD=>let⟨v,H,z⟩:=D i j e t he ht aD;⟨v,H,cd.mono m z⟩,v,F,bk.mono m q (by simpa[bO.az]using G) M⟩,N⟩
theorem Rel.world(R:Rel aB nt φ S env J n a w)(W:Nat->Prop)(q:w'.os=w.os)(ht:w'.tape=w.tape)(p:w'.output=w.output)(hs:w.heap.size<=w'.heap.size)
 (f:∀b:Nat,b<w.heap.size->¬W b->w'.heap[b]?=w.heap[b]?)
 (dk:∀b,W b->(∀j,¬S b j)/\(∀k y,aV J k=some y->(φ k).2≠0->(φ k).1≠b)/\(aB.B b\/aB.jC.heap.size<=b)):Rel aB nt φ S env J n a w':=by
 have m:gu w S w' S:=⟨λ_ _ h=>h,λb j h=>qP (f b (R.bP.st b j h) (λe=>(dk b e).1 j h)) j⟩
 refine⟨⟨λb x c=>?_,R.bP.inj,λb j h=>lY (R.bP.st b j h) hs⟩,λk g v ae ao=>?_,R.hJ,R.gH,R.dP,R.size,R.defers,?_,R.own,R.fix,R.fR⟩
 . have o:=R.bP.blk b x c;exact c3.mono m (λ_ _=>rfl) (R.dP b x c).1 (R.dP b x c).2 (λh0=>f _ (o.km h0) (λe=>(dk _ e).2.1 b x c h0 rfl)) o
 . obtain⟨x,c,t⟩:=R.gI k g v ae ao;exact⟨x,c,ck.mono m (λ_ _=>rfl) (R.gH k g v ae ao) t⟩
 . refine⟨q.trans R.ext.os,ht.trans R.ext.tape,p.trans R.ext.output,hP R.ext.size hs,λb ay dp=>?_,R.ext.mono.trans m,R.ext.rM⟩;rw[f b (lY ay R.ext.size) (λe=>?_)]
   . exact R.ext.block b ay dp
   . rcases (dk b e).2.2 with h|h
     . exact dp h
     . omega
theorem Rel.congr(R:Rel aB nt φ S env J n a w)(h:∀b,aV J' b=aV J b):Rel aB nt φ S env J' n a w:=
 ⟨⟨λb x c=>R.bP.blk b x (h b▸c),λb e x y c f=>R.bP.inj b e x y (h b▸c) (h e▸f),R.bP.st⟩,R.gI,R.hJ,R.gH,λb x c=>R.dP b x (h b▸c),R.size,R.defers,R.ext,λb x c=>R.own b x (h b▸c),R.fix,R.fR⟩
theorem Rel.sub(R:Rel aB nt φ S env J n a w)(h:∀b x,aV J' b=some x->aV J b=some x):Rel aB nt φ S env J' n a w:=
 ⟨⟨λb x c=>R.bP.blk b x (h b x c),λb e x y c f=>R.bP.inj b e x y (h b x c) (h e y f),R.bP.st⟩,R.gI,R.hJ,R.gH,λb x c=>R.dP b x (h b x c),R.size,R.defers,R.ext,λb x c=>R.own b x (h b x c),R.fix,R.fR⟩
theorem Rel.del(R:Rel aB nt φ S env J n a w)(b:Nat):Rel aB nt φ S env (ig J b) n a w:=
 R.sub λk x c=>by rw[fO]at c;split at c<;>simp_all
theorem Rel.zd(R:Rel aB nt φ S env J n a w){p:dE}(e:∀b,n b=true->p b=φ b):Rel aB nt p S env J n a w:=by
 refine⟨⟨λb x c=>?_,λb f x y c o=>?_,R.bP.st⟩,λk g v ae ao=>?_,R.hJ,R.gH,R.dP,R.size,R.defers,R.ext,λb x c h0=>?_,λb j=>(e b (R.fR b j)).trans (R.fix b j),R.fR⟩
 . exact c3.mono (gu.refl w S) e (R.dP b x c).1 (R.dP b x c).2 (λ_=>rfl) (R.bP.blk b x c)
 . rw[e b (R.dP b x c).1,e f (R.dP f y o).1];exact R.bP.inj b f x y c o
 . obtain⟨x,c,q⟩:=R.gI k g v ae ao;exact⟨x,c,ck.mono (gu.refl w S) e (R.gH k g v ae ao) q⟩
 . rw[e b (R.dP b x c).1]at h0⊢;exact R.own b x c h0
theorem Rel.put (R:Rel aB nt φ S env J n a w){b:Nat}{x:bO}(v:n b=true)(z:x.az n=true)(u:c3 φ w S b x)
 (p:(φ b).2≠0->(∀k y,aV J k=some y->k≠b->(φ k).2≠0->(φ k).1≠(φ b).1)/\(aB.B (φ b).1\/aB.jC.heap.size<=(φ b).1)):Rel aB nt φ S env (dd J b x) n a w:=by
 refine⟨⟨λk y c=>?_,λk q y t c f j h0 o=>?_,R.bP.st⟩,R.gI,R.hJ,R.gH,λk y c=>?_,R.size,R.defers,R.ext,λk y c h0=>?_,R.fix,R.fR⟩
 . rw[cX]at c;split at c
   . rename_i e;cases c;subst e;exact u
   . exact R.bP.blk k y c
 . rw[cX]at c f;split at c
   . rename_i e;subst e;rw[al j]at f;exactλe=>(p h0).1 q t f (dL j) o e.symm
   . split at f
     . rename_i e;subst e;exact(p o).1 k y c j h0
     . exact R.bP.inj k q y t c f j h0 o
 . rw[cX]at c;split at c
   . rename_i e;cases c;subst e;exact⟨v,z⟩
   . exact R.dP k y c
 . rw[cX]at c;split at c
   . rename_i e;subst e;exact(p h0).2
   . exact R.own k y c h0
def fG(φ:dE)(n:Nat)(q:Nat×Nat):dE:=λb=>if b=n then q else φ b
theorem H3{b:Nat}(a:n key=false)(h:n b=true):fG φ key q b=φ b:=by simp only[fG];rw[al];intro e;subst e;rw[a]at h;cases h
theorem dA{k:Nat}:fG φ k q k=q:=by simp[fG]
theorem Rel.jR (R:Rel aB nt φ S env J n a w)(e:n key=false){x:bO}(q:Nat×Nat)(o:x.az n=true)(j:c3 (fG φ key q) w S key x)
 (c:q.2≠0->(∀k y,aV J k=some y->(φ k).2≠0->(φ k).1≠q.1)/\(aB.B q.1\/aB.jC.heap.size<=q.1)):Rel aB nt (fG φ key q) S env (dd J key x) (ins n key) a w:=by
 refine((R.zd (λb h=>H3 e h)).more (λ_ h=>kL h)).put Z9 (bO.hl (λ_ h=>kL h) o) j ?_;rw[dA];intro h0;refine⟨λk y f p h=>?_,(c h0).2⟩;rw[H3 e (R.dP k y f).1]at h⊢;exact(c h0).1 k y f h
theorem Cg{o:Obj}{b:Nat}(h:b<w.heap.size):(w.alloc o).heap[b]?=w.heap[b]?:=by
 show(w.heap.push o)[b]?=_;grind
theorem pQ{o:Obj}:(w.alloc o).heap[w.heap.size]?=some o:=by
 show(w.heap.push o)[w.heap.size]?=_;grind
theorem Rel.alloc(R:Rel aB nt φ S env J n a w)(o:Obj):Rel aB nt φ S env J n a (w.alloc o):=
 R.world (λ_=>False) rfl rfl rfl (by simp) (λb c _=>Cg c) (λ_ h=>h.elim)
theorem Rel.xC(R:Rel aB nt φ S env J n a w)(o:Obj):gu w S (w.alloc o) S:=
 ⟨λ_ _ h=>h,λb j h=>qP (Cg (R.bP.st b j h)) j⟩
theorem Rel.Q8(R:Rel aB nt φ S env J n a w)(f:n key=false)(o:a8 (bk φ w S) cs vs)(e:cs.all (C.az n)=true)(E:TypeId):
 Rel aB nt (fG φ key (w.heap.size,1)) S env (dd J key (.box cs)) (ins n key) a (w.alloc (.cells vs.toArray E)):=by
 have m:=R.xC (.cells vs.toArray E);refine(R.alloc _).jR f (w.heap.size,1) e ?_ ?_
 . simp only[c3,dA];refine⟨by simp,vs,E,pQ,o.imp λc v p q=>bk.mono m (λb h=>H3 f h) (by simp only[c0]at e;exact e c p) q,λj h=>?_⟩;have:=R.bP.st _ _ h;simp at this
 . intro _;refine⟨λk y t h0=>?_,.inr R.ext.size⟩;have:=(R.bP.blk k y t).km h0;simp;omega
theorem u3(h:kW P ty=some cs):∃i z,P.info? ty=some i/\i.zero=some z/\a8 (bk φ w S) cs z.cells.toList/\cs.all (C.az n)=true:=by
 simp only[kW,bo]at h;obtain⟨i,b,z,c,a⟩:=h;have:=GW (φ:=φ) (w:=w) (S:=S) (n:=n) a;grind
theorem S2(R:Rel aB nt φ S env J n a w)(j:o.op= .alloc ty)(b:kW P ty=some cs)
 {p v J'}(g:n key=false)(h:aR (.alloc cs) env J key=some (p,v,J'))(k:p):Good P aB nt env J' (ins n key) a v ((execOp a.eval o).run P w):=by
 simp only[aR,bG,bE]at h;obtain⟨rfl,rfl,rfl⟩:=h;obtain⟨i,z,f,b,d,e⟩:=u3 (φ:=φ) (w:=w) (S:=S) (n:=n) b;have R':=R.Q8 g d e ty;refine⟨.pointer (some ⟨w.heap.size,0,none⟩),_,S,_,.inl ?_,.c ?_,by simp[V.az,C.az,ins],R'⟩
 . simp[execOp,j,Instr.alloc,zeroValue,typeInfo,f,b,newVar,newRow]
 . simp[bk,dA]
theorem Z7(R:Rel aB nt φ S env J n a w)(j:o.op= .box ty x){b:aS}(l:bL x=some b)
 {p v J'}(i:n key=false)(h:aR (.box b) env J key=some (p,v,J'))(k:p):Good P aB nt env J' (ins n key) a v ((execOp a.eval o).run P w):=by
 simp only[aR,bo,bc,bE]at h;obtain⟨⟨m,q⟩,g,cs,f,rfl,rfl,rfl⟩:=h;have ao:=cz R l g k;obtain⟨d,e⟩:=nv ao.1 f ao.2;have R':=R.Q8 i d e ty;refine⟨.pointer (some ⟨w.heap.size,0,none⟩),_,S,_,.inl ?_,.c ?_,by simp[V.az,C.az,ins],R'⟩
 . simp[execOp,j,Instr.box,newVar,newRow]
 . simp[bk,dA]
def iw{α:Type}(vs:List α)(off:Nat)(xs:List α):List α:=vs.take off++xs++vs.drop (off+xs.length)
theorem mE{vs:List α}{xs:List α}(h:off+xs.length<=vs.length)(k:Nat):
 (iw vs off xs)[k]?=if k<off then vs[k]? else if k<off+xs.length then xs[k-off]? else vs[k]?:=by
 unfold iw;rw[hr];by_cases h1:k<off
 . rw[ad h1,n5 (by simp;omega),lr,ad h1]
 . rw[al h1,p3 (by simp;omega)];have e:(vs.take off).length=off:=by simp;omega
   rw[e];by_cases a:k<off+xs.length
   . rw[ad a,n5 (by omega)]
   . rw[al a,p3 (by omega),rF]
     congr 1;omega
theorem pV{vs:List α}{xs:List α}(h:off+xs.length<=vs.length:=by simp;omega):(iw vs off xs).length=vs.length:=by
 simp[iw];omega
theorem IY{vs:List α}{x:α}{xs:List α}(h:off+(x::xs).length<=vs.length):iw (vs.set off x) (off+1) xs=iw vs off (x::xs):=by
 apply yf;intro k;simp at h;rw[mE (by simp;omega),mE (by simp;omega)];grind
theorem Tp{b:Nat}(h:w.heap[b]?=some (.cells vs.toArray E (0,0)))(off:Nat)(v:Value):
 (w.setCell ⟨b,off,none⟩ v).heap[b]?=some (.cells (vs.set off v).toArray E (0,0))/\∀a,a≠b->(w.setCell ⟨b,off,none⟩ v).heap[a]?=w.heap[a]?:=by
 constructor
 . simp[World.setCell,BC,h]
 . intro a c;simp[World.setCell,BC,dL c]
theorem ns{b:Nat}{E:TypeId}:∀(xs:List Value) (off i:Nat) (vs:List Value) (w:World),w.heap[b]?=some (.cells vs.toArray E (0,0))->off+i+xs.length<=vs.length->(∀x,x∈xs->x.oneCell'=true)->
 ∃w',(storeCells ⟨b,off,none⟩ xs i).run P w= .ok () w'/\w'.os=w.os/\w'.tape=w.tape/\w'.output=w.output/\w'.heap.size=w.heap.size/\
  w'.heap[b]?=some (.cells (iw vs (off+i) xs).toArray E (0,0))/\∀a:Nat,a≠b->w'.heap[a]?=w.heap[a]?
 |[],off,i,vs,w,h,ae,c=>⟨w,rfl,rfl,rfl,rfl,rfl,by simp[iw,h],λ_ _=>rfl⟩
 |x::xs,off,i,vs,w,h,ae,c=>by
  have l:Addr.add ⟨b,off,none⟩ i=⟨b,off+i,none⟩:=by unfold Addr.add;split<;>simp_all
  have ay:off+i<vs.length:=by simp at ae;omega
  have m:w.cell? ⟨b,off+i,none⟩=some vs[off+i]:=by rw[jw h];exact eF ay
  have n:w.frozen? ⟨b,off+i,none⟩=false:=by simp[World.frozen?,h]
  have hs:=Tp h (off+i) x;obtain⟨w',h1,e,f,g,ba,j,k⟩:=ns xs off (i+1) (vs.set (off+i) x) (w.setCell ⟨b,off+i,none⟩ x) hs.1 (by simp at ae⊢;omega) (λy o=>c y (by simp[o]));refine⟨w',?_,e,f,g,by rw[ba];simp,?_,λa d=>(k a d).trans (hs.2 a d)⟩
  . simp only[storeCells,Sem.run_bind,l,run_store P w _ x _ (c x (by simp)),m,n];simp_all
  . rw[j,<-IY (by simp at ae⊢;omega)]
    congr 3
theorem a8.fill{a:Type}{R:α->a->Prop}{cs ds:List α}{vs xs:List a}(h:a8 R cs vs)(k:a8 R ds xs)(o:Nat):a8 R (cs.take o++ds++cs.drop (o+ds.length)) (iw vs o xs):=by
 unfold iw;rw[k.length];exact((h.take o).append k).append (h.drop _)
theorem IH(h:a8 (bk φ w S) cs xs):∀x,x∈xs->x.oneCell'=true:=by
 induction h with
 |nil=>simp
 |cons h _ ih=>
  intro x a;rcases fe.1 a with rfl|a
  . exact bk.jj h
  grind
theorem ck.undef:ck φ w S (.aY []) undef:= .aY [] [] rfl (by simp)
theorem tN:∀{cs:List C} {ts:List T} {xs:List Value},toTs cs=some ts->a8 (bk φ w S) cs xs->a8 (cd w S) ts xs
 |[],ts,xs,h,b=>by simp[toTs]at h;subst h;cases b;exact .nil
 |c::cs,ts,xs,h,b=>by
  simp only[toTs,bo,bc]at h;obtain⟨t,ht,f,e,rfl⟩:=h;cases b with
  |cons h1 d=>
   refine .cons ?_ (tN e d);unfold toT at ht;split at ht<;>simp at ht
   . subst ht;exact h1
   . subst ht;obtain⟨a,rfl⟩:=h1;exact cd.slice [] a 0 0 0 0 (λ_ _=>undef) (by simp) (by simp) (by simp) (by simp) (by simp) (by simp)
theorem za:∀{cs:List C} {ts:List T},toTs cs=some ts->ts.length=cs.length
 |[],ts,h=>by simp[toTs]at h;subst h;rfl
 |c::cs,ts,h=>by
  simp only[toTs,bo,bc]at h;obtain⟨t,ht,b,a,rfl⟩:=h;simp[za a]
theorem G3{n:Nat->Bool}{cs ds:List C}(h:cs.all (C.az n)=true)(k:ds.all (C.az n)=true)(o:Nat):(oL cs o ds).all (C.az n)=true:=by
 simp only[c0]at h k⊢;intro x a;simp only[oL,ga]at a;grind
theorem vg{vs:List α}{p:Nat}{x:α}(h:p<vs.length)(q:Nat):(iw vs (p+0) [x])[q]?=if q=p then some x else vs[q]?:=by
 rw[l5,mE (by simp;omega)];by_cases a:q=p
 . subst a;simp
 . rw[al a];by_cases b:q<p
   . rw[ad b]
   . rw[al b,ch]
theorem zN{sz i j a b:Nat}(d:j<sz)(e:b<sz)(h:i*sz+j=a*sz+b):i=a/\j=b:=by
 rcases BI i a with c|c|c
 . have:=eY sz (show i+1<=a from c);rw[gf]at this;omega
 . subst c;exact⟨rfl,by omega⟩
 . have:=eY sz (show a+1<=i from c);rw[gf]at this;omega
theorem Rel.rewrite(R:Rel aB nt φ S env J n a w){b:Nat}{x p:bO}(o:aV J b=some x)(h0:(φ b).2≠0)(F:p.az n=true)
 (E:w'.os=w.os)(ht:w'.tape=w.tape)(D:w'.output=w.output)(hs:w'.heap.size=w.heap.size)(u:∀q:Nat,q≠(φ b).1->w'.heap[q]?=w.heap[q]?)
 (B:gu w S w' S->c3 φ w' S b p):Rel aB nt φ S env (dd J b p) n a w':=by
 have v:=R.bP.blk b x o
 have z:=(R.del b).world (w':=w') (λk=>k=(φ b).1) E ht D (wq hs.symm) (λk _ f=>u k f) (λk f=>by
  subst f;refine⟨v.p0 h0,λk y c f=>?_,R.own b x o h0⟩;rw[fO]at c;split at c
  . cases c
  . rename_i t
    exactλe=>R.bP.inj k b y x c o (dL t) f h0 e)
 have m:gu w S w' S:=⟨λ_ _ h=>h,λk j h=>qP (u k (λe=>v.p0 h0 j (e▸h))) j⟩
 have A:=z.put (b:=b) (x:=p) (R.dP b x o).1 F (B m) (λ_=>⟨λk y c t f=>by
  rw[fO]at c;split at c
  . cases c
  . exact R.bP.inj k b y x c o t f h0,R.own b x o h0⟩)
 refine A.congr λk=>?_;rw[cX,cX,fO];split<;>rfl
theorem Yl(R:Rel aB nt φ S env J n a w)(be:o.op= .store ty x y){k:Nat}(bc:eH P ty=some k){aK aL:aS}(u:bL x=some aK)(am:bL y=some aL)
 {p v J'}(br:n key=false)(h:aR (.store k aK aL) env J key=some (p,v,J'))(Q:p):Good P aB nt env J' (ins n key) a v ((execOp a.eval o).run P w):=by
 simp only [aR,bo,dC] at h;obtain ⟨⟨bx,bA⟩,ag,⟨bz,bB⟩,ah,cs,V,aj,he⟩:= h;simp only at he V;have ak:∀ (blk off:Nat) (xs:List Value) (w':World),a.eval x = .pointer (some ⟨blk,off,none⟩)->(a.eval y).cells.toList = xs->xs.length = k->(storeCells ⟨blk,off,none⟩ xs 0).run P w = .ok () w'->
  (execOp a.eval o).run P w= .ok .skip w':=by
  intro blk off xs w' h1 au a0 a6;have ba:(a.eval y).cells.size=k:=by rw[<-a0,<-au];simp
  simp[execOp,be,Instr.storeAt,Instr.sureAddr,h1,storeVar,j8 bc,ba,au,a6]
 split at he
 . rename_i b f;split at he
   . rename_i ds l;simp only[dC,bG,bE]at he;obtain⟨av,rfl,rfl,rfl⟩:=he;have h1:=(cz R u ag Q.1).1.hR;have q:=cz R am ah Q.2;obtain⟨g,I⟩:=nv q.1 V q.2;obtain⟨h0,vs,E,aa,aP,Z⟩:=R.bP.blk _ _ l;have bu:=aP.length;have K:(a.eval y).cells.toList.length=k:=by rw[<-g.length,aj]
     obtain⟨w',d,B,D,F,G,z,H⟩:=ns (P:=P) _ f 0 vs w aa (by omega) (IH g);refine⟨undef,φ,S,w',.inr ⟨ak _ _ _ w' h1 rfl K d,rfl⟩,.undef,rfl,Rel.more ?_ λ_ h=>kL h⟩;refine R.rewrite l h0 (by simpa[bO.az]using G3 ((R.dP _ _ l).2) I f) B D F G H (λm=>?_);refine⟨h0,_,E,z,?_,Z⟩;rw[l5];exact(aP.imp λc v aE d=>bk.mono m (λ_ _=>rfl) (c0.1 (R.dP _ _ l).2 c aE) d).fill (g.imp λc v aE d=>bk.mono m (λ_ _=>rfl) (c0.1 I c aE) d) f
   . rename_i E aN l;split at he
     . rename_i c;simp only[bG,bE]at he;obtain⟨rfl,rfl,rfl⟩:=he;have h1:=(cz R u ag Q.1).1.hR;have q:=cz R am ah Q.2;obtain⟨g,I⟩:=nv q.1 V q.2;obtain⟨h0,⟨aW,bq,aa,bf,bs⟩,Z⟩:=R.bP.blk _ _ l;have K:(a.eval y).cells.toList.length=k:=by rw[<-g.length,aj]
       have ai:k=1:=by rw[<-aj];rfl
       obtain⟨s,U⟩:∃s,(a.eval y).cells.toList=[s]:=by
        match h:(a.eval y).cells.toList with
        |[s]=>exact⟨s,rfl⟩
        |[]=>rw[h]at K;simp at K;omega
        |_::_::_=>rw[h]at K;simp at K;omega
       obtain⟨w',d,B,D,F,G,z,H⟩:=ns (P:=P) (a.eval y).cells.toList 1 0 [aW,bq] w (b:=(φ b).1) (E:=E) aa (by rw[U];simp) (IH g);rw[U]at g z;cases g with|cons aF _=>
       have M:c.az n=true:=(by simpa using I);refine⟨undef,φ,S,w',.inr ⟨ak _ _ _ w' h1 rfl K d,rfl⟩,.undef,rfl,Rel.more ?_ λ_ h=>kL h⟩;refine R.rewrite l h0 (by simpa[bO.az]using M) B D F G H (λm=>?_);exact⟨h0,⟨aW,s,z,bf,bk.mono m (λ_ _=>rfl) M aF⟩,Z⟩
     . cases he
   . cases he
 . rename_i b sz i f;have aJ:∀{c:C} {xs:List Value},a8 (bk φ w S) [c] xs->∃x,xs=[x]/\bk φ w S c x:=by
    intro c xs h;cases h with|cons h1 au=>cases au;exact⟨_,rfl,h1⟩
   split at he
   . rename_i bl es l;split at he
     . rename_i c aw;have aF:cs=[c]:=by
        unfold yG at aw;split at aw<;>cases aw;rfl
       subst aF;simp only[bG,bE]at he;obtain⟨rfl,rfl,rfl⟩:=he;obtain⟨ab,af,rfl,N,aU⟩:=Q;have h1:=(cz R u ag ab).1.je;have q:=cz R am ah af;obtain⟨g,I⟩:=nv q.1 V q.2;have ai:k=1:=by rw[<-aj];rfl
       obtain⟨s,U,T⟩:=aJ g;have ap:=R.bP.blk _ _ l;obtain⟨h0,vs,E,xs,aa,ae,a9,K,aD,aG,av⟩:=G2 ap N;obtain⟨ay,az,ao,aA,aC⟩:=ap;obtain⟨bn,aX,aq,bd,aI,Z⟩:=aC h0;rw[aa]at aq;cases aq;rw[gf]at av;have O:i*sz+f<vs.length:=(by omega);obtain⟨w',d,B,D,F,G,z,H⟩:=ns (P:=P) [s] (i*sz+f) 0 vs w aa (by simp;omega) (λx u=>by rw[wh.1 u];exact bk.jj T);refine⟨undef,φ,S,w',.inr ⟨ak _ _ _ w' h1 U (by simp[ai]) d,rfl⟩,.undef,rfl,Rel.more ?_ λ_ h=>kL h⟩;have M:c.az n=true:=(by simpa using I);refine R.rewrite l h0 (by simpa[bO.az]using M) B D F G H (λm=>?_);refine⟨⟨ay,az,ao,aA,N,by omega⟩,⟨_,E,z,by rw[pV];exact ae,λL j e t he ht Y=>?_,s,?_,bk.mono m (λ_ _=>rfl) M T⟩,Z⟩
       . obtain⟨v,r,d⟩:=aI _ _ _ _ he ht;have A:j<sz:=by rw[<-ao _ (eJ he)];exact(c7.1 ht).1
         rw[vg O,al (λe=>Y (zN A (by omega) e))];exact⟨v,r,cd.mono m d⟩
       . rw[vg O,ad rfl]
     rename_i aw;simp only[bo,bG,bE]at he;obtain⟨ts,aV,rfl,rfl,rfl⟩:=he;obtain⟨ab,af,rfl,N,aU⟩:=Q;have h1:=(cz R u ag ab).1.je;have q:=cz R am ah af;obtain⟨g,I⟩:=nv q.1 V q.2;have bh:=tN aV g;have bt:=za aV;have ap:=R.bP.blk _ _ l;obtain⟨h0,vs,E,xs,aa,ae,a9,K,aD,aG,av⟩:=G2 ap N;obtain⟨ay,az,ao,aA,aC⟩:=ap;obtain⟨bn,aX,aq,bd,aI,Z⟩:=aC h0;rw[aa]at aq;cases aq;rw[gf]at av;have bj:(a.eval y).cells.toList.length=k:=by rw[<-g.length,aj]
     obtain⟨w',d,B,D,F,G,z,H⟩:=ns (P:=P) _ (i*sz+f) 0 vs w aa (by omega) (IH g);have bg:(storeCells ⟨(φ b).1,i*sz+f,none⟩ (a.eval y).cells.toList 0).run P w= .ok () w':=d;refine⟨undef,φ,S,w',.inr ⟨ak _ _ _ w' h1 rfl bj bg,rfl⟩,.undef,rfl,Rel.more ?_ λ_ h=>kL h⟩;refine R.rewrite l h0 rfl B D F G H (λm=>?_);refine⟨by simpa using ay,by simpa using az,?_,aA,λ_=>⟨_,E,z,by rw[pV (by omega)];exact ae,?_,Z⟩⟩
     . intro e he;rcases tT he with he|rfl
       . exact ao e he
       . simp;omega
     . intro L j e t he ht;rw[l5,mE (by omega)];rw[BJ]at he;by_cases X:i=L
       . subst X;rw[ad rfl,ad N]at he;cases he;have bb:=(c7.1 ht).1;simp at bb;have A:j<sz:=(by omega);have W:=(mE (vs:=el es i) (off:=f) (xs:=ts) (by omega) j)
         unfold iw at W;rw[show f+ts.length=f+k by omega]at W;rw[W]at ht;by_cases an:j<f
         . rw[ad an]at ht;rw[fv,aG j A];obtain⟨v,r,d⟩:=aD.get ht;exact⟨v,r,cd.mono m d⟩
         . rw[al an]at ht;rw[bp];by_cases ax:j<f+k
           . rw[fv]at ht;rw[fv,show i*sz+j-(i*sz+f)=j-f by omega];obtain⟨v,r,d⟩:=bh.get ht;exact⟨v,r,cd.mono m d⟩
           . rw[bp]at ht;rw[bp,aG j A];obtain⟨v,r,d⟩:=aD.get ht;exact⟨v,r,cd.mono m d⟩
       . rw[al X]at he;obtain⟨v,r,d⟩:=aI _ _ _ _ he ht;have A:j<sz:=by rw[<-ao _ (eJ he)];exact(c7.1 ht).1
         have:L*sz+j<i*sz+f\/i*sz+f+k<=L*sz+j:=by
          rcases Nat.lt_or_gt_of_ne X with h|h
          . right;have:=eY sz (show i+1<=L from h);grind
          . left;have:=eY sz (show L+1<=i from h);grind
         rcases this with h|h
         . rw[ad h];exact⟨v,r,cd.mono m d⟩
         . rw[bp,bp];exact⟨v,r,cd.mono m d⟩
   . rename_i bl es bv bw aN l;obtain⟨⟨a1,a2,a3,a4,a5,ar⟩,⟨vs,E,b1,b2,b3,aZ,b4,aY⟩,aM⟩:=R.bP.blk _ _ l;have aO:aN.az n=true:=(by simpa[bO.az]using(R.dP _ _ l).2);have h0:(φ b).2≠0:=(by omega);split at he
     . rename_i c;have ai:k=1:=by rw[<-aj];rfl
       split at he
       . rename_i aH;subst aH;simp only[bG,bE]at he;obtain⟨rfl,rfl,rfl⟩:=he;obtain⟨ab,af,rfl,rfl⟩:=Q;have h1:=(cz R u ag ab).1.je;have q:=cz R am ah af;obtain⟨g,I⟩:=nv q.1 V q.2;obtain⟨s,U,T⟩:=aJ g;have O:i*sz+f<vs.length:=by
          rw[b2];have:=eY sz (show i+1<=(φ b).2 by omega);rw[gf]at this;omega
         obtain⟨w',d,B,D,F,G,z,H⟩:=ns (P:=P) [s] (i*sz+f) 0 vs w b1 (by simp;omega) (λx u=>by rw[wh.1 u];exact bk.jj T);refine⟨undef,φ,S,w',.inr ⟨ak _ _ _ w' h1 U (by simp[ai]) d,rfl⟩,.undef,rfl,Rel.more ?_ λ_ h=>kL h⟩;have M:c.az n=true:=(by simpa using I);refine R.rewrite l h0 (by simpa[bO.az]using M) B D F G H (λm=>?_);refine⟨⟨a1,a2,a3,a4,a5,ar⟩,⟨_,E,z,by rw[pV];exact b2,λL j e t he ht Y=>?_,s,?_,bk.mono m (λ_ _=>rfl) M T⟩,aM⟩
         . obtain⟨v,r,d⟩:=b3 _ _ _ _ he ht Y;have A:j<sz:=by rw[<-a3 _ (eJ he)];exact(c7.1 ht).1
           rw[vg O,al (λe=>Y (zN A ar e))];exact⟨v,r,cd.mono m d⟩
         . rw[vg O,ad rfl]
       . rename_i aH;simp only[bo,bG,bE]at he;obtain⟨t,a7,rfl,rfl,rfl⟩:=he;obtain⟨ab,af,rfl,N,aU⟩:=Q;have h1:=(cz R u ag ab).1.je;have q:=cz R am ah af;obtain⟨g,I⟩:=nv q.1 V q.2;obtain⟨s,U,T⟩:=aJ g;have bi:cd w S t s:=by
          have h1:=tN (cs:=[c]) (ts:=[t]) (xs:=[s]) (by simp[toTs,a7]) (.cons T .nil);cases h1 with|cons h _=>exact h
         have O:i*sz+f<vs.length:=by
          rw[b2];have:=eY sz (show i+1<=(φ b).2 by omega);rw[gf]at this;omega
         obtain⟨w',d,B,D,F,G,z,H⟩:=ns (P:=P) [s] (i*sz+f) 0 vs w b1 (by simp;omega) (λx u=>by rw[wh.1 u];exact bk.jj T);refine⟨undef,φ,S,w',.inr ⟨ak _ _ _ w' h1 U (by simp[ai]) d,rfl⟩,.undef,rfl,Rel.more ?_ λ_ h=>kL h⟩;refine R.rewrite l h0 (by simpa[bO.az]using aO) B D F G H (λm=>?_);have aQ:es[i]?=some (el es i):=by unfold el;rw[List.getD,eF N];rfl
         have a':(el es i).length=sz:=a3 _ (eJ aQ);refine⟨⟨by simpa using a1,by simpa using a2,λe he=>?_,a4,by simpa using a5,ar⟩,⟨_,E,z,by rw[pV];exact b2,λL j e bm he ht Y=>?_,aZ,?_,bk.mono m (λ_ _=>rfl) aO aY⟩,aM⟩
         . rcases tT he with he|rfl
           . exact a3 e he
           . simp;omega
         . rw[vg O];rw[BJ]at he;by_cases X:i=L
           . subst X;rw[ad rfl,ad N]at he;cases he;have W:=(mE (vs:=el es i) (off:=f) (xs:=[t]) (by simp;omega) j)
             unfold iw at W;rw[show f+[t].length=f+k by simp[ai]]at W;rw[W]at ht;by_cases an:j=f
             . subst an;rw[bp,fv,BL]at ht;cases ht;rw[ad rfl];exact⟨s,rfl,cd.mono m bi⟩
             . have aT:(el es i)[j]?=some bm:=by
                by_cases ax:j<f
                . rwa [ad ax]at ht
                . rwa [al ax,bp]at ht
               have A:j<sz:=by rw[<-a'];exact(c7.1 aT).1
               obtain⟨v,r,d⟩:=b3 _ _ _ _ aQ aT Y;rw[al (λe=>an (zN A (by omega) e).2)];exact⟨v,r,cd.mono m d⟩
           . rw[al X]at he;obtain⟨v,r,d⟩:=b3 _ _ _ _ he ht Y;have A:j<sz:=by rw[<-a3 _ (eJ he)];exact(c7.1 ht).1
             rw[al (λe=>X (zN A (by omega) e).1.symm)];exact⟨v,r,cd.mono m d⟩
         . rw[vg O,al (λe=>aH (zN ar (by omega) e).2.symm)];exact b4
     . cases he
   . cases he
 . cases he
theorem IZ:∀(xs:List Value) (k off:Nat) (cs:Array Value),off+k+xs.length<=cs.size->
 (((xs.zipIdx k).foldl (λcs (c,j)=>cs.setIfInBounds (off+j) c) cs):Array Value).toList=iw cs.toList (off+k) xs
 |[],k,off,cs,h=>by simp[iw]
 |x::xs,k,off,cs,h=>by
  simp at h;rw[List.zipIdx_cons,List.foldl_cons,IZ xs (k+1) off _ (by simp;omega)];simp only[Array.toList_setIfInBounds];rw[show off+(k+1)=off+k+1 by omega,IY (by simp;omega)]
theorem Ha{a:Array Value}{i:Nat}{r:List (Nat×Value)}{sz:Nat}(b:place i=some (off,sz))(h1:v.cells.size=sz)(c:off+sz<=a.size):
 Instr.fill place a ((i,v)::r)=Instr.fill place (iw a.toList off v.cells.toList).toArray r:=by
 simp only[Instr.fill,b];rw[al (by simp[h1];omega)]
 congr 1
 apply Array.ext';have:=IZ v.cells.toList 0 off a (by simp;omega);rw[<-Array.foldl_toList];simp only[Array.toList_zipIdx];simpa using this
theorem Tq {fs:Array Field}{place:Nat->Option (Nat×Nat)}(R:Rel aB nt φ S env J n a w)
 (m:∀(j:Nat) f k,fs[j]?=some f->eH P f.type=some k->place j=some (f.offset,k)):
 ∀{parts:List (Nat×Operand)} {ps:List (Nat×Nat×aS)} {cs:List C} {vs:List Value} {p:Prop} {ds:List C},u6 P fs parts=some ps->lj env cs ps=some (p,ds)->p->
  a8 (bk φ w S) cs vs->cs.all (C.az n)=true->
  ∃us:List Value,Instr.fill place vs.toArray (parts.map λ(i,x)=>(i,a.eval x))=some us.toArray/\a8 (bk φ w S) ds us/\ds.all (C.az n)=true
 |[],ps,cs,vs,p,ds,c,b,g,d,e=>by
  simp[u6]at c;subst c;simp[lj]at b;obtain⟨_,rfl⟩:=b;exact⟨vs,by simp[Instr.fill],d,e⟩
 |(j,x)::r,ps,cs,vs,p,ds,c,b,g,d,e=>by
  simp only[u6,bo,bc]at c;obtain⟨f,z,k,A,G,F,K,B,rfl⟩:=c;simp only[lj,bo,dC,bc,bE]at b;obtain⟨⟨q,v⟩,ao,es,y,⟨h1,I⟩,⟨L,H⟩,u,rfl,rfl⟩:=b;have l:=cz R F ao g.1;obtain⟨o,D⟩:=nv l.1 y l.2;have ae:=d.length;have E:=o.length;obtain⟨us,s,t,ba⟩:=Tq R m B u g.2 (vs:=iw vs f.offset (a.eval x).cells.toList) (by unfold oL;exact d.fill o _) (G3 e D _);refine⟨us,?_,t,ba⟩;simp only[gB];rw[Ha (m j f k z A) (by rw[<-rE,<-E,h1]) (by simp;omega)];exact s
theorem Sl{place:Nat->Option (Nat×Nat)}{m:Nat}(R:Rel aB nt φ S env J n a w)(k:∀j,place j=some (j*m,m)):
 ∀{parts:List (Nat×Operand)} {ps:List (Nat×Nat×aS)} {cs:List C} {vs:List Value} {p:Prop} {ds:List C},vf m parts=some ps->lj env cs ps=some (p,ds)->p->
  a8 (bk φ w S) cs vs->cs.all (C.az n)=true->
  ∃us:List Value,Instr.fill place vs.toArray (parts.map λ(i,x)=>(i,a.eval x))=some us.toArray/\a8 (bk φ w S) ds us/\ds.all (C.az n)=true
 |[],ps,cs,vs,p,ds,c,b,f,d,e=>by
  simp[vf]at c;subst c;simp[lj]at b;obtain⟨_,rfl⟩:=b;exact⟨vs,by simp[Instr.fill],d,e⟩
 |(j,x)::r,ps,cs,vs,p,ds,c,b,f,d,e=>by
  simp only[vf,bo,bc]at c;obtain⟨D,B,G,y,rfl⟩:=c;simp only[lj,bo,dC,bc,bE]at b;obtain⟨⟨q,v⟩,ao,es,u,⟨h1,F⟩,⟨H,E⟩,t,rfl,rfl⟩:=b;have g:=cz R B ao f.1;obtain⟨l,z⟩:=nv g.1 u g.2;have ae:=d.length;have A:=l.length;obtain⟨us,o,s,ba⟩:=Sl R k y t f.2 (vs:=iw vs (j*m) (a.eval x).cells.toList) (by unfold oL;exact d.fill l _) (G3 e z _);refine⟨us,?_,s,ba⟩;simp only[gB];rw[Ha (k j) (by rw[<-rE,<-A,h1]) (by simp;omega)];exact o
theorem Y9{fs:List Field}(h:∀f,f∈fs->∃k,eH P f.type=some k):
 ∃ps:List (Nat×Nat),(fs.mapM λf=>do pure (f.offset,<-sizeOf f.type):Sem (List (Nat×Nat))).run P w= .ok ps w/\ps.length=fs.length/\∀(j:Nat) f k,fs[j]?=some f->eH P f.type=some k->ps[j]?=some (f.offset,k):=by
 induction fs with
 |nil=>exact⟨[],by simp,rfl,by simp⟩
 |cons f fs ih=>
  obtain⟨ps,h1,ae,c⟩:=ih λf d=>h f (by simp[d]);obtain⟨k,b⟩:=h f (by simp);refine⟨(f.offset,k)::ps,?_,by simp[ae],?_⟩
  . rw[List.mapM_cons];simp only[bind_pure_comp]at h1;simp[j8 b,h1]
  . intro j g e ao a;cases j with
    |zero=>simp at ao;subst ao;rw[b]at a;cases a;rfl
    |succ j=>simpa using c j g e (by simpa using ao) a
theorem Ym(R:Rel aB nt φ S env J n a w){parts:Array (Nat×Operand)}(y:o.op= .build ty parts)(E:P.underlying ty=some (.struct fs))(e:Gq P fs=true)
 {z:List C}(F:kW P ty=some z){ps:List (Nat×Nat×aS)}(D:u6 P fs parts.toList=some ps)
 {p v J'}(g:n key=false)(h:aR (.build z ps) env J key=some (p,v,J'))(A:p):Good P aB nt env J' (ins n key) a v ((execOp a.eval o).run P w):=by
 simp only[aR,bc,bE]at h;obtain⟨⟨q,ds⟩,s,rfl,rfl,rfl⟩:=h;obtain⟨i,H,u,G,r,t⟩:=u3 (φ:=φ) (w:=w) (S:=S) (n:=n) F
 obtain⟨pl,I,K,B⟩:=Y9 (P:=P) (w:=w) (fs:=fs.toList) (by
  simp only[Gq,c0]at e;intro f b;have:=e f b
  exact yt.1 this)
 have c:(fs.mapM λf=>do pure (f.offset,<-sizeOf f.type):Sem (Array (Nat×Nat))).run P w= .ok pl.toArray w:=by
  rw[Array.mapM_eq_mapM_toList];simp_all
 obtain⟨us,h1,l,m⟩:=Tq (place:=(pl.toArray[·]?)) R (λj f k b g=>by simpa using B j f k (by simpa using b) g) D s A r t;refine Good.pure R (x:= .agg us.toArray) ?_ (.agg l) (by simpa[V.az]using m);have d:Instr.fill (λx=>pl.toArray[x]?) H.cells ((parts.map λ(i,x)=>(i,a.eval x)).toList)=some us.toArray:=by simp_all
 simp only[execOp,y,Instr.build,zeroValue,typeInfo,Sem.run_bind,run_program,Result.andThen_ok,u,Sem.run_pure,G,underlying,E,c];simp only[bind_pure_comp]at c;simp[c];simp at d;rw[d];simp
theorem Xx(R:Rel aB nt φ S env J n a w){parts:Array (Nat×Operand)}(s:o.op= .build ty parts){len:Nat}(y:P.underlying ty=some (.array len e)){m:Nat}(r:eH P e=some m)
 {z:List C}(A:kW P ty=some z){ps:List (Nat×Nat×aS)}(u:vf m parts.toList=some ps)
 {p v J'}(E:n key=false)(h:aR (.build z ps) env J key=some (p,v,J'))(t:p):Good P aB nt env J' (ins n key) a v ((execOp a.eval o).run P w):=by
 simp only[aR,bc,bE]at h;obtain⟨⟨q,ds⟩,g,rfl,rfl,rfl⟩:=h;obtain⟨i,D,l,B,f,k⟩:=u3 (φ:=φ) (w:=w) (S:=S) (n:=n) A;obtain⟨us,h1,c,d⟩:=Sl (place:=λi=>some (i*m,m)) R (λj=>rfl) u g t f k;refine Good.pure R (x:= .agg us.toArray) ?_ (.agg c) (by simpa[V.az]using d);have b:Instr.fill (λi=>some (i*m,m)) D.cells ((parts.map λ(i,x)=>(i,a.eval x)).toList)=some us.toArray:=by simp_all
 simp at b;simp[execOp,s,Instr.build,zeroValue,typeInfo,l,B,underlying,y,j8 r,b]
def iR(w:World)(S:dT)(sz:Nat)(es:List (List T))(vs:List Value):Prop:=
 ∀(i j:Nat) e t,es[i]?=some e->e[j]?=some t->∃v,vs[i*sz+j]?=some v/\cd w S t v
theorem GX{sz:Nat}(R:Rel aB nt φ S env J n a w)(h0:0<sz):
 ∀{parts:List (Nat×Operand)} {ps:List (Nat×aS)} {es:List (List T)} {vs:List Value} {p:Prop} {ds:List (List T)},pC parts=some ps->jN env sz es ps=some (p,ds)->p->
  (∀e,e∈es->e.length=sz)->vs.length=es.length*sz->iR w S sz es vs->
  ∃us:List Value,Instr.fill (λi=>some (i*sz,sz)) vs.toArray (parts.map λ(i,x)=>(i,a.eval x))=some us.toArray/\(∀e,e∈ds->e.length=sz)/\ds.length=es.length/\us.length=vs.length/\iR w S sz ds us/\(∀u,u∈us->u∈us)
 |[],ps,es,vs,p,ds,d,c,k,l,ae,f=>by
  simp[pC]at d;subst d;simp[jN]at c;obtain⟨_,rfl⟩:=c;exact⟨vs,by simp[Instr.fill],l,rfl,rfl,f,λ_ h=>h⟩
 |(b,x)::r,ps,es,vs,p,ds,d,c,k,l,ae,f=>by
  simp only[pC,bo,bc]at d;obtain⟨M,L,Q,G,rfl⟩:=d;simp only[jN,bo,dC,bc,bE]at c;obtain⟨⟨q,v⟩,ao,cs,E,ts,H,⟨h1,m⟩,⟨U,N⟩,D,rfl,rfl⟩:=c;have o:=cz R L ao k.1;obtain⟨I,P⟩:=nv o.1 E o.2;have y:=tN H I;have K:=y.length;have F:b*sz+sz<=vs.length:=by
   have:=eY sz (show b+1<=es.length from m);grind
  obtain ⟨us,z,A,ba,B,C,O⟩:= GX R h0 G D k.2 (es:= es.set b ts) (vs:= iw vs (b*sz) (a.eval x).cells.toList) (by
   grind) (by rw[pV (by omega)];simpa using ae) (by
   intro i j e t he ht;rw[mE (by omega)];rw[BJ]at he;by_cases g:b=i
   . subst g;rw[ad rfl,ad m]at he;cases he;have s:=(c7.1 ht).1;rw[bp,fv,show b*sz+j-b*sz=j by omega];exact y.get ht
   . rw[al g]at he;have s:=(c7.1 ht).1;rw[l _ (eJ he)]at s;rcases Nat.lt_or_gt_of_ne g with h|h
     . have:=eY sz (show b+1<=i from h);rw[gf]at this;rw[bp,bp];exact f _ _ _ _ he ht
     . have:=eY sz (show i+1<=b from h);rw[gf]at this;rw[fv]
       exact f _ _ _ _ he ht)
  refine⟨us,?_,A,by simpa using ba,by rw[B,pV (by omega)],C,λ_ h=>h⟩;simp only[gB];rw[Ha (place:=λi=>some (i*sz,sz)) rfl (by rw[<-rE,<-K,h1]) (by simpa using F)];exact z
theorem S3{z:Array Value}{sz len:Nat}(d:z.size=sz)(h0:0<sz)(i j:Nat)(a:i<len)(b:j<sz):
 ((Array.range (len*sz)).map (z[· % z.size]!))[i*sz+j]?=z[j]?:=by
 have ay:i*sz+j<len*sz:=by
  have:=eY sz (show i+1<=len from a);grind
 rw[Array.getElem?_map,Array.getElem?_range,ad ay];simp only[f',d];have:(i*sz+j)%sz=j:=by rw[yl,Nat.add_mul_mod_self_right,oc b]
 rw[this];have c:j<z.size:=by omega
 simp[c]
theorem RQ{len:Nat}{parts:Array (Nat×Value)}(j:P.underlying ty=some (.slice e)){sz:Nat}(g:eH P e=some sz){i:TypeInfo}{a:Value}(m:P.info? e=some i)(o:i.zero=some a)
 (h0:sz≠0)(p:len*sz<=2^24){b:Array Value}(c:b=(Array.range (len*sz)).map (a.cells[· % a.cells.size]!)){us:List Value}(d:Instr.fill (λi=>some (i*sz,sz)) b parts.toList=some us.toArray):
 (Instr.buildSlice ty len parts).run P w= .ok (.slice (some ⟨w.heap.size,0,none⟩) len len) (w.alloc (.cells us.toArray e)):=by
 have f:¬(len*sz>2^24):=by omega
 have n:∀w,(zeroValue e).run P w= .ok a w:=by intro w;simp[zeroValue,typeInfo,m,o]
 by_cases ae:len*sz=0
 . have l:b=#[]:=by rw[c,ae];simp
   subst l;have k:(Array.map (λx=>(#[]:Array Value)[x%(#[]:Array Value).size]!) (Array.range (len*sz)))=#[]:=by rw[ae];simp
   unfold Instr.buildSlice;simp only[Sem.run_bind,run_underlying j,Result.andThen_ok,j8 g,al f,ad ae,Sem.run_pure,k,d];rfl
 . unfold Instr.buildSlice;subst c;simp only[Sem.run_bind,run_underlying j,Result.andThen_ok,j8 g,al f,al ae,Sem.run_pure,n,d];rfl
theorem Xc(R:Rel aB nt φ S env J n a w){len:Nat}{parts:Array (Nat×Operand)}(L:o.op= .buildSlice ty len parts)(Q:P.underlying ty=some (.slice e)){sz:Nat}(O:eH P e=some sz)
 {z:List C}(Y:kW P e=some z){ps:List (Nat×aS)}(N:pC parts.toList=some ps)(h0:sz≠0)(s:z.length=sz)(K:len*sz<=2^24)
 {p v J'}(I:n key=false)(h:aR (.bslice sz len z ps) env J key=some (p,v,J'))(M:p):Good P aB nt env J' (ins n key) a v ((execOp a.eval o).run P w):=by
 simp only[aR,bo,bc,bE]at h;obtain⟨l,u,⟨q,ds⟩,H,rfl,rfl,rfl⟩:=h;obtain⟨i,d,f,ab,r,ad⟩:=u3 (φ:=φ) (w:=w) (S:=S) (n:=n) Y;have aa:=tN u r;have Z:d.cells.size=sz:=by rw[<-rE,<-r.length,s]
 have g:0<sz:=by omega
 have ag:l.length=sz:=by rw[za u,s]
 obtain ⟨us,h1,E,F,G,ba,_⟩:= GX R g N H M (es:= List.replicate len l) (vs:= ((Array.range (len*sz)).map (d.cells[· % d.cells.size]!)).toList) (by
  grind) (by simp) (by
  intro i j e t he ht;have f:=(c7.1 he).1;simp at f;have:e=l:=by
   have:=eJ he;exact Bz this
  subst this;have ae:=(c7.1 ht).1;obtain⟨x,W,b⟩:=aa.get ht;refine⟨x,?_,b⟩;rw[E7,S3 Z g i j f (by omega)]
  simpa using W)
 simp at F;have T:us.length=len*sz:=by rw[G];simp
 have A:=R.alloc (.cells us.toArray e);have m:=R.xC (.cells us.toArray e);have af:len<=eE:=by
  have:len<=len*sz:=E4 len g;unfold eE;omega
 have B:=A.jR I (x:= .arr sz ds) (w.heap.size,len) rfl (by
  simp only[c3,dA];refine⟨by omega,by omega,E,g,λ_=>⟨us,e,pQ,T,λi j e t he ht=>?_,λj h=>?_⟩⟩
  . obtain⟨v,U,b⟩:=ba i j e t he ht;exact⟨v,U,cd.mono m b⟩
  . have:=R.bP.st _ _ h
    omega) (λ_=>⟨λk y X h0=>by
     have:=(R.bP.blk k y X).km h0
     simp;omega,.inr R.ext.size⟩)
 refine⟨.slice (some ⟨w.heap.size,0,none⟩) len len,_,S,_,.inl ?_,.c ⟨some ⟨w.heap.size,0,none⟩,by simp[dA],by simp[dA],by simp[dA]⟩,by simp[V.az,C.az,ins],B⟩;have D:Instr.fill (λi=>some (i*sz,sz)) ((Array.range (len*sz)).map (d.cells[· % d.cells.size]!)) ((parts.map λ(i,x)=>(i,a.eval x)).toList)=some us.toArray:=by
  rw[Array.toList_map];exact h1
 have b:=RQ (P:=P) (w:=w) Q O f ab h0 K rfl D;simp only[execOp,L,Sem.run_bind,b,Result.andThen_ok];rfl
theorem JX(a:Nat):∀(r c:Nat),c<=2*a+192->Builtin.growBy a r c<=2*a+192
 |0,c,h=>h
 |r+1,c,h=>by
  unfold Builtin.growBy;split
  . exact h
  . exact JX a r _ (by omega)
theorem Wj{a b:Nat}(h:b<a):Builtin.nextslicecap a b<=2*a+192:=by
 unfold Builtin.nextslicecap;split
 . omega
 . split
   . omega
   . exact JX _ _ _ (by omega)
theorem I0(a:Nat):∀(r c:Nat),c<=a+a/4+512->Builtin.growBy a r c<=a+a/4+512
 |0,c,h=>h
 |r+1,c,h=>by
  unfold Builtin.growBy;split
  . exact h
  . exact I0 a r _ (by omega)
theorem WC{a b:Nat}(h:b<a):Builtin.nextslicecap a b<=a+a/4+512:=by
 unfold Builtin.nextslicecap;split
 . omega
 . split
   . omega
   . exact I0 _ _ _ (by omega)
theorem lG.not{e bytes:Nat}(h:f<e)(c:lG e bytes):¬(Builtin.nextslicecap e f*bytes>2^48):=by
 have a:=eY bytes (Wj h);have b:=eY bytes (WC h);rcases c with c|c<;>unfold j' at c<;>omega
theorem Yn{p:α->Prop}{l m:List α}(h:∀x,x∈l->p x)(k:∀x,x∈m->p x):∀x,x∈l++m->p x:=by grind
def rZ(P:Program)(w:World)(S:dT)(sz:Nat)(v:Value)(ys:List (List T))(b:Option Nat):Prop:=
 (Builtin.lenOf v).run P w= .ok ys.length w/\∃xs:List Value,(Builtin.firstCells sz ys.length v).run P w= .ok xs.toArray w/\xs.length=ys.length*sz/\iR w S sz ys xs/\∀x,x∈xs->x.oneCell'=true
theorem I1{sz k len:Nat}(h0:0<sz)(a:k<len*sz):k/sz<len/\k%sz<sz/\(k/sz)*sz+k%sz=k:=
 ⟨Nat.div_lt_of_lt_mul (by rw[wu];exact a),yp _ h0,by rw[wu];exact Nat.div_add_mod k sz⟩
theorem iR.one{sz:Nat}(h0:0<sz)(p:∀e,e∈ys->e.length=sz)(ae:xs.length=ys.length*sz)(h:iR w S sz ys xs):∀x,x∈xs->x.oneCell'=true:=by
 intro x q;obtain⟨k,a,j⟩:=eS q;obtain⟨h1,t,f⟩:=I1 h0 (by rw[<-ae];exact a);have he:ys[k/sz]?=some ys[k/sz]:=eF h1;have u:ys[k/sz].length=sz:=p _ (Fh h1);have ht:(ys[k/sz])[k%sz]?=some (ys[k/sz])[k%sz]:=eF (by omega);obtain⟨v,c,o⟩:=h _ _ _ _ he ht;rw[f,eF a,j]at c;cases c;exact cd.jj o
theorem yS{b o m:Nat}(ae:xs.length=m)(h:∀j,j<m->w.cell? ⟨b,o+j,none⟩=xs[j]?):(loadCells ⟨b,o,none⟩ m).run P w= .ok xs.toArray w:=by
 have:=run_loadCells_list (P:=P) w ⟨b,o,none⟩ xs (λj v a=>by
  have c:j<m:=by rw[<-ae];exact(c7.1 a).1
  rw[<-a,<-h j c];unfold Addr.add;split
  . grind
  . rfl)
 grind
theorem Y'{sz:Nat}(h0:0<sz)(u:cd w S (.slice ys) v)(n:∀e,e∈ys->e.length=sz):rZ P w S sz v ys none:=by
 obtain⟨a,cap,c,b,o,f,rfl,B,D,E,p,A,r⟩:=cd.ko u;refine⟨by simp[Builtin.lenOf],?_⟩;by_cases g:ys=[]
 . subst g;refine⟨[],?_,by simp,by intro i j e t he;simp at he,by simp⟩;cases a with
   |none=>simp[Builtin.firstCells]
   |some a=>simp[Builtin.firstCells,loadCells,loadCellsFrom]
 . have s:c=sz:=by
    obtain⟨cY,C⟩:=Bx ys g;grind
   subst s;rw[p g];have l:((List.range (ys.length*c)).map λk=>f (k/c) (k%c)).length=ys.length*c:=(by simp);have m:iR w S c ys ((List.range (ys.length*c)).map λk=>f (k/c) (k%c)):=by
    intro i j e t he ht;have q:=(c7.1 he).1;have d:=(c7.1 ht).1;rw[n _ (eJ he)]at d;have ay:i*c+j<ys.length*c:=by
     have:=eY c (show i+1<=ys.length from q);grind
    refine⟨f i j,?_,r _ _ _ _ he ht⟩;have aK:(i*c+j)/c=i:=by rw[yl,Nat.add_mul_div_right _ _ h0,Nat.div_eq_of_lt d];omega
    have x:(i*c+j)%c=j:=by rw[yl,Nat.add_mul_mod_self_right,oc d]
    grind
   refine⟨_,?_,l,m,iR.one h0 n l m⟩;show(loadCells ⟨b,o,none⟩ (ys.length*c)).run P w=_;refine yS l ?_;intro j d;obtain⟨h1,y,z⟩:=I1 h0 d;grind
theorem Za{sz:Nat}(b:bk φ w S .aF v):rZ P w S sz v [] none:=by
 obtain⟨a,rfl⟩:=b;refine⟨by simp[Builtin.lenOf],[],?_,by simp,by intro i j e t he;simp at he,by simp⟩;cases a with
 |none=>simp[Builtin.firstCells]
 |some a=>simp[Builtin.firstCells,loadCells,loadCellsFrom]
theorem JY{sz b:Nat}(dp:c3 φ w S b (.arr sz ys))(n:bk φ w S (.arr b sz 0 ys.length) v):rZ P w S sz v ys (some b):=by
 obtain⟨a,rfl,l,p⟩:=bk.hb n;obtain⟨h1,o,f,k,ba⟩:=dp;refine⟨by simp[Builtin.lenOf],?_⟩;by_cases h0:(φ b).2=0
 . have:ys=[]:=jS (by omega);subst this;refine⟨[],?_,by simp,by intro i j e t he;simp at he,by simp⟩;cases a with
   |none=>simp[Builtin.firstCells]
   |some a=>simp[Builtin.firstCells,loadCells,loadCellsFrom]
 . obtain⟨vs,E,aa,ae,r,_⟩:=ba h0;rw[l h0];have q:ys.length*sz<=vs.length:=by rw[ae];exact eY _ (by omega)
   have d:(vs.take (ys.length*sz)).length=ys.length*sz:=by simp;omega
   have g:iR w S sz ys (vs.take (ys.length*sz)):=by
    intro i j e t he ht;have m:=(c7.1 he).1;have c:=(c7.1 ht).1;rw[f _ (eJ he)]at c;have ay:i*sz+j<ys.length*sz:=by
     have:=eY sz (show i+1<=ys.length from m);grind
    grind
   refine⟨_,?_,d,g,iR.one k f d g⟩;rw[ym];show(loadCells ⟨(φ b).1,0,none⟩ (ys.length*sz)).run P w=_;refine yS d ?_;intro j c;rw[gb,jw aa,lr,ad c]
theorem rZ.world{sz:Nat}{b:Option Nat}(h:rZ P w S sz v ys b){m:Nat}:∃xs:List Value,xs.length=ys.length*sz/\iR w S sz ys xs/\(∀x,x∈xs->x.oneCell'=true):=by
 obtain⟨_,xs,_,h1,a,c⟩:=h;exact⟨xs,h1,a,c⟩
theorem RR(z:Array Value)(m:Nat):(Builtin.zeroCells z m).size=m*z.size:=by simp[Builtin.zeroCells]
theorem RS{st k:TypeId}{i:TypeInfo}{c:Value}(u:P.underlying st=some (.slice e))(A:P.underlying k=some (.slice E))(g:P.info? e=some i)(B:i.zero=some c)(D:c.cells.size=i.size)
 {base:Option Addr}{sl sc a:Nat}{y:Value}{xs f:List Value}(z:(Builtin.lenOf y).run P w= .ok a w)
 (v:(Builtin.firstCells i.size sl (.slice base sl sc)).run P w.drew= .ok xs.toArray w.drew)(x:(Builtin.firstCells i.size a y).run P w.drew= .ok f.toArray w.drew)
 (s:sc<sl+a)(n:lG (sl+a) i.bytes)(p:sl+a<=eE){tt:TypeId}:
 ∃(b:Nat) (r:List Value),sl+a<=b/\r.length=(b-(sl+a))*i.size/\
  (Builtin.append_ #[st,k] tt #[.slice base sl sc,y]).run P w= .ok (.slice (some ⟨w.heap.size,0,none⟩) (sl+a) b) (w.drew.alloc (.cells (xs++f++r).toArray e)):=by
 have t:∀w,(sizeOf e).run P w= .ok i.size w:=λw=>by simp[sizeOf,typeInfo,g]
 have d:∀w,(typeInfo e).run P w= .ok i w:=λw=>by simp[typeInfo,g]
 have C:∀w,(zeroValue e).run P w= .ok c w:=λw=>by simp[zeroValue,d,B]
 generalize j:(Question.appendCap (sl+a) sc e).cut (w.tape w.drawn (Question.appendCap (sl+a) sc e))=b;have q:sl+a<=b:=by rw[<-j];simp[Question.cut]
 have h1:¬(sl+a<=sc):=by omega
 have l:¬(((sl+a:Nat):Int)>IntKind.i64.max/\(False\/i.bytes=0)):=by intro h;have:=h.1;simp[IntKind.max,IntKind.signed,IntKind.bits]at this;unfold eE at p;omega
 have m:¬(Builtin.nextslicecap (sl+a) sc*i.bytes>2^48):=by
  exact n.not s
 refine⟨b,(Builtin.zeroCells c.cells (b-(sl+a))).toList,q,by simp[RR,D],?_⟩;have o:(choose (.appendCap (sl+a) sc e)).run P w= .ok b w.drew:=by rw[run_choose];simp only[Question.forced,bK,bT,j];rfl
 have aK:(xs++f++(Builtin.zeroCells c.cells (b-(sl+a))).toList).toArray=xs.toArray++f.toArray++Builtin.zeroCells c.cells (b-(sl+a)):=by grind
 rw[aK];unfold Builtin.append_;simp only[BD,x',BA,Sem.run_bind,run_underlying u,run_underlying A,Result.andThen_ok,t,Sem.run_pure,bK,bT,z,al h1,d];rw[al (by simpa using l)];simp only[Sem.run_bind,Sem.run_pure,Result.andThen_ok,d];rw[al m];simp only[Sem.run_bind,Sem.run_pure,Result.andThen_ok,d,o,run_askRoom,v,x,C,eG,bJ];simp only[newRow,Sem.run_bind,run_newObj,Result.andThen_ok,Sem.run_pure];rfl
theorem x0{st c p:TypeId}{i:TypeInfo}(l:P.underlying st=some (.slice e))(o:P.underlying c=some (.slice p))(g:P.info? e=some i)
 {base:Option Addr}{sl sc b:Nat}{y:Value}{d:List Value}(n:(Builtin.lenOf y).run P w= .ok b w)(m:(Builtin.firstCells i.size b y).run P w= .ok d.toArray w)(j:sl+b<=sc){w':World}
 (hs:∀a,base=some a->(storeCells (a.add (sl*i.size)) d 0).run P w= .ok () w') (f:base=none->w'=w) {tt:TypeId}:
  (Builtin.append_ #[st,c] tt #[.slice base sl sc,y]).run P w= .ok (.slice base (sl+b) sc) w':=by
 have k:∀w,(sizeOf e).run P w= .ok i.size w:=λw=>by simp[sizeOf,typeInfo,g]
 unfold Builtin.append_;simp only[BD,x',BA,Sem.run_bind,run_underlying l,run_underlying o,Result.andThen_ok,k,Sem.run_pure,bK,bT,n,ad j,m,eG,bJ];cases base with
 |none=>rw[f rfl];rfl
 |some a=>
  simp only[Sem.run_bind,hs a rfl,Result.andThen_ok];rfl
theorem iR.append{sz:Nat}{c r:List Value}(h0:0<sz)(q:∀e,e∈es->e.length=sz)(v:∀e,e∈ys->e.length=sz)(y:xs.length=es.length*sz)(z:c.length=ys.length*sz)
 (h1:iR w S sz es xs)(o:iR w S sz ys c):iR w S sz (es++ys) (xs++c++r):=by
 intro i j e t he ht;by_cases f:i<es.length
 . rw[n5 f]at he;have a:=(c7.1 ht).1;rw[q _ (eJ he)]at a;have:=eY sz (show i+1<=es.length from f);rw[gf]at this;rw[hr,n5 (by omega)];exact h1 _ _ _ _ he ht
 . rw[p3 (by omega)]at he;have a:=(c7.1 ht).1;rw[v _ (eJ he)]at a;have u:=(c7.1 he).1;have x:=eY sz (show es.length<=i by omega);have p:=eY sz (show(i-es.length)+1<=ys.length from u);have ba:(i-es.length)*sz=i*sz-es.length*sz:=Nat.sub_mul _ _ _;rw[gf]at p;rw[hr,p3 (by omega),n5 (by omega),show i*sz+j-xs.length=(i-es.length)*sz+j by omega];exact o _ _ _ _ he ht
theorem Rel.drew(R:Rel aB nt φ S env J n a w):Rel aB nt φ S env J n a w.drew:=
 R.world (λ_=>False) rfl rfl rfl (ea _) (λ_ _ _=>rfl) (λ_ h=>h.elim)
theorem DK(R:Rel aB nt φ S env J n a w){d:aS}(u:bL y=some d){v:V}(ao:d.get env=some (p,v))(r:p){sz:Nat}(h0:0<sz){ys:List (List T)×Option Nat}
 (h:ma J v=some ys)(l:∀e,e∈ys.1->e.length=sz):rZ P w S sz (a.eval y) ys.1 ys.2:=by
 have c:=(cz R u ao r).1;unfold ma at h;split at h
 . cases h;exact Y' h0 c.dY l
 . cases h;exact Za c.dY
 . split at h
   . rename_i b x A z _ B o f;simp only[dC,bG]at h;obtain⟨⟨h1,rfl,rfl⟩,rfl⟩:=h;subst h1;by_cases k:o=[]
     . subst k;obtain⟨q,m,_⟩:=bk.hb c.dY;simp at m;rw[m];refine⟨by simp[Builtin.lenOf],[],?_,by simp,by intro i j e t he;simp at he,by simp⟩;cases q with
       |none=>simp[Builtin.firstCells]
       |some a=>simp[Builtin.firstCells,loadCells,loadCellsFrom]
     . have s:x=sz:=by
        obtain⟨cY,g⟩:=Bx o k;rw[<-(R.bP.blk _ _ f).2.2.1 _ g,l _ g]
       subst s;exact JY (R.bP.blk _ _ f) c.dY
   . cases h
 . cases h
theorem Zt{sz b len:Nat}(dp:c3 φ w S b (.arr sz es))(d:bk φ w S (.fx b sz off len) v)(u:off+len<=es.length):rZ P w S sz v ((es.drop off).take len) none:=by
 obtain⟨a,cap,rfl,o,x⟩:=d;obtain⟨h1,s,k,n,ba⟩:=dp;have g:((es.drop off).take len).length=len:=by simp;omega
 refine⟨by simp[Builtin.lenOf,g],?_⟩;rw[g];by_cases h0:len=0
 . subst h0;refine⟨[],?_,by simp,by intro i j e t he;simp at he,by simp⟩;cases a with
   |none=>simp[Builtin.firstCells]
   |some a=>simp[Builtin.firstCells,loadCells,loadCellsFrom]
 . obtain⟨vs,E,aa,ae,p,_⟩:=ba (by omega);rw[o h0];have y:off*sz+len*sz<=vs.length:=by rw[ae,<-gf];exact eY _ (by omega)
   have f:((vs.drop (off*sz)).take (len*sz)).length=len*sz:=by simp;omega
   have q:∀e,e∈(es.drop off).take len->e.length=sz:=λe he=>k e (BF (p5 he));have m:iR w S sz ((es.drop off).take len) ((vs.drop (off*sz)).take (len*sz)):=by
    intro i j e t he ht;have l:i<len:=by have:=(c7.1 he).1;omega
    rw[lr,ad l,rF]at he;have c:=(c7.1 ht).1;rw[k _ (eJ he)]at c;have ay:i*sz+j<len*sz:=by
     have:=eY sz (show i+1<=len from l);rw[gf]at this;omega
    obtain⟨v,d,r⟩:=p _ _ _ _ he ht;refine⟨v,?_,r⟩;rw[lr,ad ay,rF,<-p9,<-gf];exact d
   refine⟨_,?_,f,m,iR.one n q (by rw[g];exact f) m⟩;show(loadCells ⟨(φ b).1,off*sz,none⟩ (len*sz)).run P w=_;refine yS f ?_;intro j c;rw[jw aa,lr,ad c,rF]
theorem Zb(R:Rel aB nt φ S env J n a w){x y:Operand}{st T e a3:TypeId}(aN:o.op= .call {callee:= .builtin .append,args:=#[x,y],argTypes:=#[st,T]})
 (ak:P.underlying st=some (.slice e))(am:P.underlying T=some (.slice a3)){i:TypeInfo}(ah:P.info? e=some i)(a':i.size≠0)
 {W X:aS}(aU:bL x=some W)(f:bL y=some X){ap aq:Prop}{ar au:V}(aF:W.get env=some (ap,ar))(aG:X.get env=some (aq,au)){r}
 {p v J'}(z:mU ar au=some r)(g:n key=false)(h:uw J key i.size ap aq r=some (p,v,J'))(aO:p):Good P aB nt env J' (ins n key) a v ((execOp a.eval o).run P w):=by
 have aj:∀r w',(Builtin.append_ #[st,T] o.type #[a.eval x,a.eval y]).run P w= .ok r w'->(execOp a.eval o).run P w= .ok (.value r) w':=by
  intro r w' d;simp[execOp,aN,Go.resolve,invoke,builtin,d]
 unfold mU at z;split at z
 . rename_i b s1 off len a4 bb F l;split at z
   . rename_i aD;subst aD;cases z;unfold uw at h;dsimp only at h;split at h
     . rename_i bc es u;simp only[bG,bE]at h;obtain⟨rfl,rfl,rfl⟩:=h;obtain⟨aP,aQ,rfl,rfl,rfl,rfl,a8,aL⟩:=aO;have aE:=cz R aU aF aP;obtain⟨base,I,aC,a9⟩:=bk.hb aE.1.dY;have aH:=cz R f aG aQ;have B:=R.bP.blk _ _ u;obtain⟨O,U,Q,K,aX,aW⟩:=Zt (P:=P) B aH.1.dY aL;obtain⟨a5,a6,Z,a7,az⟩:=B;have aV:((es.drop F).take l).length=l:=by simp;omega
       rw[aV]at O Q K;rw[Nat.sub_zero]at I;have H:len+l<=(φ b).2:=(by omega);have h0:0<i.size:=(by omega);have L:(es.take len++(es.drop F).take l).length=len+l:=by simp;omega
       have ai:∀A,A∈es.take len++(es.drop F).take l->A.length=i.size:=by
        intro A D;rcases ga.1 D with D|D
        . exact Z A (p5 D)
        . exact Z A (BF (p5 D))
       by_cases q:(φ b).2=0
       . have aJ:len=0:=(by omega);have aK:l=0:=(by omega);subst aJ aK;have aY:U=[]:=jS (by simpa using K);subst aY;have d:=x0 (tt:=o.type) ak am ah (base:=base) (sl:=0) (sc:=(φ b).2) O Q H (w':=w) (λax _=>by simp[storeCells]) (λ_=>rfl);rw[<-I]at d;have R':=(R.del b).jR g (x:= .arr i.size (es.take 0++(es.drop F).take 0)) (0,0) rfl (by simp only[c3,dA];exact⟨by simp,by simp,by simp,h0,by simp⟩) (by simp);refine⟨_,_,S,w,.inl (aj _ _ d),.c ?_,by simp[V.az,C.az,ins],R'⟩;exact⟨base,by simp[dA,q,I],by simp[dA],by simp[dA]⟩
       . obtain⟨vs,E,aa,al,aT,aM⟩:=az q;have B:=R.bP.blk _ _ u;have ag:len*i.size+U.length<=vs.length:=by rw[K,al,<-gf];exact eY _ H
         obtain⟨w',aR,aZ,a0,a1,a2,an,ao⟩:=ns (P:=P) U (len*i.size) 0 vs w aa (by omega) aW;rw[l5]at an;have G:=aC q;rw[ym]at G
         have d:=x0 (tt:=o.type) ak am ah (base:=base) (sl:=len) (sc:=(φ b).2) O Q H (w':=w') (λax ab=>by
          rw[G]at ab;cases ab;have aA:Addr.add ⟨(φ b).1,0,none⟩ (len*i.size)=⟨(φ b).1,len*i.size,none⟩:=by unfold Addr.add;split<;>simp_all
          rw[aA];exact aR) (λaf=>by rw[G]at af;cases af)
         rw[<-I]at d
         have av:=(R.del b).world (w':=w') (λk=>k=(φ b).1) aZ a0 a1 (wq a2.symm) (λk _ g=>ao k g) (λk g=>by
          subst g;refine⟨B.p0 q,λk y f g=>?_,R.own b _ u q⟩;rw[fO]at f;split at f
          . cases f
          . rename_i M
            exactλe=>R.bP.inj k b y _ f u (dL M) g q e)
         have m:gu w S w' S:=⟨λ_ _ h=>h,λk j h=>qP (ao k (λe=>B.p0 q j (e▸h))) j⟩
         have aw:=av.jR g (x:= .arr i.size (es.take len++(es.drop F).take l)) (φ b) rfl (by
          simp only[c3,dA];refine⟨by rw[L];exact H,by rw[L];omega,ai,h0,λ_=>⟨_,E,an,by rw[pV ag];exact al,λs j e t he ht=>?_,aM⟩⟩;have aI:=(c7.1 ht).1;rw[ai _ (eJ he)]at aI;rw[mE ag,K];by_cases Y:s<len
          . have:=eY i.size (show s+1<=len from Y);rw[gf]at this;rw[fv];rw[n5 (by simp;omega),lr,ad Y]at he;obtain⟨v,N,d⟩:=aT _ _ _ _ he ht;exact⟨v,N,cd.mono m d⟩
          . have h1:=eY i.size (show len<=s by omega);have ay:s<len+l:=by rw[<-L];exact(c7.1 he).1
            have:=eY i.size (show s+1<=len+l from ay);rw[gf,gf]at this;rw[bp,fv];have ae:(es.take len).length=len:=by simp;omega
            rw[p3 (by omega),ae]at he;have ba:(s-len)*i.size=s*i.size-len*i.size:=Nat.sub_mul _ _ _;obtain⟨v,N,d⟩:=aX _ _ _ _ he ht;rw[show s*i.size+j-len*i.size=(s-len)*i.size+j by omega]
            exact⟨v,N,cd.mono m d⟩) (λ_=>⟨λk y f g=>by
            rw[fO]at f;split at f
            . cases f
            . rename_i M
              exact R.bP.inj k b y _ f u (dL M) g q,R.own b _ u q⟩)
         refine⟨_,_,S,w',.inl (aj _ _ d),.c ?_,by simp[V.az,C.az,ins],aw⟩;exact⟨base,by simp[dA],by simp[dA,G],by simp[dA];omega⟩
     . cases h
   . cases z
 . cases z
theorem Xd(R:Rel aB nt φ S env J n a w){x y:Operand}{st av e a8:TypeId}(aF:o.op= .call {callee:= .builtin .append,args:=#[x,y],argTypes:=#[st,av]})
 (M:P.underlying st=some (.slice e))(N:P.underlying av=some (.slice a8)){i:TypeInfo}(L:P.info? e=some i)(a1:i.size≠0)(aL:(i.zero.map (·.cells.size))=some i.size)
 {ax ay:aS}(ad:bL x=some ax)(f:bL y=some ay)
 {p v J'}(g:n key=false)(h:aR (.append i.size i.bytes ax ay) env J key=some (p,v,J'))(ap:p):Good P aB nt env J' (ins n key) a v ((execOp a.eval o).run P w):=by
 simp only[aR,bo]at h;obtain⟨⟨bi,bn⟩,Y,⟨bj,bq⟩,T,he⟩:=h;dsimp only at he;split at he
 . rename_i r aJ;exact Zb R aF M N L a1 ad f Y T aJ g he ap
 rename_i aJ;simp only[bo]at he;obtain⟨ys,af,he⟩:=he;simp only[bc]at aL;obtain⟨br,aN,aM⟩:=aL;have h0:0<i.size:=by omega
 have W:∀r w',(Builtin.append_ #[st,av] o.type #[a.eval x,a.eval y]).run P w= .ok r w'->(execOp a.eval o).run P w= .ok (.value r) w':=by
  intro r w' d;simp[execOp,aF,Go.resolve,invoke,builtin,d]
 have aD:∀b,w.heap.size<=b->∀j,¬S b j:=λb al j aE=>by have:=R.bP.st _ _ aE;omega
 split at he
 ·
  simp only[bG,bE]at he;obtain⟨rfl,rfl,rfl⟩:=he;obtain⟨ab,U,A,am,Z⟩:=ap;obtain⟨base,G⟩:=(cz R ad Y ab).1.dY;have dG:=DK (P:=P) R f T U h0 af A;by_cases F:ys.1=[]
  . obtain⟨z,u,B,l,O,ag⟩:=dG;rw[F]at z B l;have ar:u=[]:=jS (by simpa using l);subst ar;have d:=x0 (tt:=o.type) M N L (base:=base) (sl:=0) (sc:=0) z B (by simp) (w':=w) (λaw _=>by simp[storeCells]) (λ_=>rfl);rw[<-G]at d;have R':=R.jR g (x:= .arr i.size ys.1) (0,0) rfl (by rw[F];simp only[c3,dA];exact⟨by simp,by simp,by simp,h0,by simp⟩) (by simp);refine⟨_,_,S,w,.inl (W _ _ d),.c ?_,by simp[V.az,C.az,ins],R'⟩;rw[F];exact⟨base,by simp[dA],by simp[dA],by simp[dA]⟩
  . have s:=R.drew;obtain⟨z,_⟩:=dG;obtain⟨_,u,B,l,O,ag⟩:=DK (P:=P) s f T U h0 af A;have bg:0<ys.1.length:=tW.2 F;have ae:(Builtin.firstCells i.size 0 (.slice base 0 0)).run P w.drew= .ok ([]:List Value).toArray w.drew:=by
     cases base with
     |none=>simp[Builtin.firstCells]
     |some a=>simp[Builtin.firstCells,loadCells,loadCellsFrom]
    obtain⟨au,r,h1,aj,d⟩:=RS (tt:=o.type) M N L aN aM z ae B (by omega) (by simpa using am) (by simpa using Z);rw[<-G]at d;have Q:=s.alloc (.cells ([]++u++r).toArray e);have m:=s.xC (.cells ([]++u++r).toArray e)
    have ah:=Q.jR g (x:= .arr i.size ys.1) (w.heap.size,au) rfl (by
     simp only[c3,dA];refine⟨by omega,Z,A,h0,λ_=>⟨_,e,pQ,?_,?_,aD _ (ea _)⟩⟩
     . simp only[c4,ib,l,aj,gb,<-gf];congr 1;omega
     . have:=iR.append (S:=S) (w:=w.drew) (r:=r) (es:=[]) (xs:=[]) h0 (by simp) A (by simp) l (by intro i j e t he;simp at he) O;intro q j H t he ht;obtain⟨v,I,d⟩:=this q j H t (by simpa using he) ht
       exact⟨v,I,cd.mono m d⟩) (λ_=>⟨λk y f h0=>by
        have:=(R.bP.blk k y f).km h0
        omega,.inr R.ext.size⟩)
    refine⟨_,_,S,_,.inl (W _ _ d),.c ?_,by simp[V.az,C.az,ins],ah⟩;exact⟨some ⟨w.heap.size,0,none⟩,by simp[dA],by simp[dA],by simp[dA];omega⟩
 . rename_i b bl off len;split at he
   . rename_i bm es K;split at he
     . cases he
     . rename_i bf;simp only[bG,bE]at he;obtain⟨rfl,rfl,rfl⟩:=he;obtain⟨ab,U,rfl,rfl,rfl,rfl,A,am,Z⟩:=ap;have aX:=cz R ad Y ab;have aV:=aX.1.dY;obtain⟨base,G,aW,aZ⟩:=bk.hb aV;have dG:=DK (P:=P) R f T U h0 af A;have ak:=R.bP.blk _ _ K;have aU:=ak;obtain⟨a9,a',ai,bb,aQ⟩:=aU;rw[Nat.sub_zero]at G;rw[gb]at aZ;have aH:∀H,H∈es++ys.1->H.length=i.size:=Yn ai A;by_cases aG:es.length+ys.1.length<=(φ b).2
       . obtain⟨z,u,B,l,O,ag⟩:=dG;by_cases D:(φ b).2=0
         . have an:es=[]:=jS (by omega);have aq:ys.1=[]:=jS (by omega);rw[aq]at z B l;have ar:u=[]:=jS (by simpa using l);subst ar;have d:=x0 (tt:=o.type) M N L (base:=base) (sl:=es.length) (sc:=(φ b).2) z B (by simp[an]) (w':=w) (λaw _=>by simp[storeCells]) (λ_=>rfl);rw[<-G]at d;have R':=(R.del b).jR g (x:= .arr i.size (es++ys.1)) (0,0) rfl (by rw[aq,an];simp only[c3,dA];exact⟨by simp,by simp,by simp,h0,by simp⟩) (by simp);refine⟨_,_,S,w,.inl (W _ _ d),.c ?_,by simp[V.az,C.az,ins],R'⟩;rw[aq,an];exact⟨base,by simp[dA,D],by simp[dA],by simp[dA]⟩
         . obtain⟨vs,E,aa,aI,a2,a0⟩:=aQ D;have aA:es.length*i.size+u.length<=vs.length:=by rw[l,aI,<-gf];exact eY _ aG
           obtain⟨w',bh,a4,a5,a6,a7,aO,aP⟩:=ns (P:=P) u (es.length*i.size) 0 vs w aa (by omega) ag;rw[l5]at aO;have X:=aW D;rw[ym]at X
           have d:=x0 (tt:=o.type) M N L (base:=base) (sl:=es.length) (sc:=(φ b).2) z B aG (w':=w') (λaw az=>by
            rw[X]at az;cases az;have be:Addr.add ⟨(φ b).1,0,none⟩ (es.length*i.size)=⟨(φ b).1,es.length*i.size,none⟩:=by unfold Addr.add;split<;>simp_all
            grind) (λal=>by rw[X]at al;cases al)
           rw[<-G]at d
           have s:=(R.del b).world (w':=w') (λk=>k=(φ b).1) a4 a5 a6 (wq a7.symm) (λk _ g=>aP k g) (λk g=>by
            subst g;refine⟨ak.p0 D,λk y f g=>?_,R.own b _ K D⟩;rw[fO]at f;split at f
            . cases f
            . rename_i F
              exactλe=>R.bP.inj k b y _ f K (dL F) g D e)
           have m:gu w S w' S:=⟨λ_ _ h=>h,λk j h=>qP (aP k (λe=>ak.p0 D j (e▸h))) j⟩
           have Q:=s.jR g (x:= .arr i.size (es++ys.1)) (φ b) rfl (by
            simp only[c3,dA];refine⟨by simp;omega,by simp;omega,aH,h0,λ_=>⟨_,E,aO,by rw[pV aA];exact aI,?_,a0⟩⟩;intro q j H t he ht;rw[mE aA];by_cases aC:q<es.length
            . rw[n5 aC]at he;have ao:=(c7.1 ht).1;rw[ai _ (eJ he)]at ao;have:=eY i.size (show q+1<=es.length from aC);rw[gf]at this;rw[fv];obtain⟨v,I,d⟩:=a2 _ _ _ _ he ht;exact⟨v,I,cd.mono m d⟩
            . rw[p3 (by omega)]at he;have ao:=(c7.1 ht).1;rw[A _ (eJ he)]at ao;have aY:=(c7.1 he).1;have bd:=eY i.size (show es.length<=q by omega);have aT:=eY i.size (show(q-es.length)+1<=ys.1.length from aY);have ba:(q-es.length)*i.size=q*i.size-es.length*i.size:=Nat.sub_mul _ _ _;rw[gf]at aT;rw[bp,fv,show q*i.size+j-es.length*i.size=(q-es.length)*i.size+j by omega];obtain⟨v,I,d⟩:=O _ _ _ _ he ht
              exact⟨v,I,cd.mono m d⟩) (λ_=>⟨λk y f g=>by
              rw[fO]at f;split at f
              . cases f
              . rename_i F
                exact R.bP.inj k b y _ f K (dL F) g D,R.own b _ K D⟩)
           refine⟨_,_,S,w',.inl (W _ _ d),.c ?_,by simp[V.az,C.az,ins],Q⟩;exact⟨base,by simp[dA],by simp[dA,X],by simp[dA];omega⟩
       . have s:=R.drew;obtain⟨z,_⟩:=dG;obtain⟨_,u,B,l,O,ag⟩:=DK (P:=P) s f T U h0 af A;obtain⟨_,xs,ae,aK,a3,_⟩:=JY (P:=P) (s.bP.blk _ _ K) (cz s ad Y ab).1.dY;rw[G]at ae;obtain⟨au,r,h1,aj,d⟩:=RS (tt:=o.type) M N L aN aM z ae B (by omega) am Z;rw[<-G]at d;have Q:=(s.del b).alloc (.cells (xs++u++r).toArray e);have m:=s.xC (.cells (xs++u++r).toArray e)
         have ah:=Q.jR g (x:= .arr i.size (es++ys.1)) (w.heap.size,au) rfl (by
          simp only[c3,dA];refine⟨by simp;omega,by simp;omega,aH,h0,λ_=>⟨_,e,pQ,?_,?_,aD _ (ea _)⟩⟩
          . simp only[c4,aK,l,aj,<-gf];congr 1;omega
          . have:=iR.append (S:=S) (w:=w.drew) (r:=r) h0 ai A aK l a3 O;intro q j H t he ht;obtain⟨v,I,d⟩:=this q j H t he ht
            exact⟨v,I,cd.mono m d⟩) (λ_=>⟨λk y f h0=>by
             rw[fO]at f;split at f
             . cases f
             . have:=(R.bP.blk k y f).km h0
               omega,.inr R.ext.size⟩)
         refine⟨_,_,S,_,.inl (W _ _ d),.c ?_,by simp[V.az,C.az,ins],ah⟩;exact⟨some ⟨w.heap.size,0,none⟩,by simp[dA],by simp[dA],by simp[dA];omega⟩
   . cases he
 . cases he
theorem Xe:∀{ts:List T} {vs:List Value},a8 R ts vs->∀(i j:Nat) e t,(ts.map λt=>[t])[i]?=some e->e[j]?=some t->∃v,vs[i*1+j]?=some v/\R t v:=by
 intro ts vs h i j e t he ht;rw[n',bc]at he;obtain⟨t0,h0,rfl⟩:=he;cases j with
 |zero=>
  simp at ht;subst ht;obtain⟨v,b,a⟩:=h.get h0;grind
 |succ j=>simp at ht
theorem Xf(R:Rel aB nt φ S env J n a w)(s:o.op= .alloc ty)(b:kW P ty=some cs)(G:cs.length≠0)(F:cs.length<=2^24)
 {p v J'}(r:n key=false)(h:aR (.allocA cs) env J key=some (p,v,J'))(H:p):Good P aB nt env J' (ins n key) a v ((execOp a.eval o).run P w):=by
 simp only[aR,bc,bE]at h;obtain⟨ts,f,rfl,rfl,rfl⟩:=h;obtain⟨i,z,q,b,d,E⟩:=u3 (φ:=φ) (w:=w) (S:=S) (n:=n) b;have D:=tN f d;have I:=za f;have g:=R.alloc (.cells z.cells.toList.toArray ty);have m:=R.xC (.cells z.cells.toList.toArray ty);have K:z.cells.toList.length=cs.length:=d.length.symm
 have l:=g.jR r (x:= .arr 1 (ts.map λt=>[t])) (w.heap.size,cs.length) rfl (by
  simp only[c3,dA,gA];refine⟨by omega,by unfold eE;omega,?_,by omega,λ_=>⟨z.cells.toList,ty,pQ,by omega,λi j e t he ht=>?_,λj h=>?_⟩⟩
  . grind
  . obtain⟨v,A,u⟩:=Xe D i j e t he ht;exact⟨v,A,cd.mono m u⟩
  . have:=R.bP.st _ _ h
    omega) (λ_=>⟨λk y B h0=>by
     have:=(R.bP.blk k y B).km h0
     simp;omega,.inr R.ext.size⟩)
 refine⟨.pointer (some ⟨w.heap.size,0,none⟩),_,S,_,.inl ?_,.c ?_,by simp[V.az,C.az,ins],l⟩
 . simp[execOp,s,Instr.alloc,zeroValue,typeInfo,q,b,newVar,newRow]
 . simp[bk,dA]
theorem Zc(R:Rel aB nt φ S env J n a w){i:Operand}(u:o.op= .indexAddr ty x i){k:Nat}(D:P.underlying ty=some (.array k e))(B:eH P e=some 1)
 {f d:aS}(E:bL x=some f)(s:bL i=some d)
 {p v J'}(F:n key=false)(h:aR (.idxP k f d) env J key=some (p,v,J'))(y:p):Good P aB nt env J' (ins n key) a v ((execOp a.eval o).run P w):=by
 simp only[aR,bo]at h;obtain⟨⟨I,L⟩,r,⟨H,K⟩,q,he⟩:=h;simp only at he;split at he
 . rename_i b kk m;simp only[bG,bE]at he;obtain⟨rfl,rfl,rfl⟩:=he;obtain⟨z,A,t,G⟩:=y;have ao:=cz R E r z;have h1:=ao.1.hR;have g:=(cz R s q A).1.gq;have j:(Addr.add ⟨(φ b).1,0,none⟩ (m.toNat*1):Addr)=⟨(φ b).1,m.toNat*1+0,none⟩:=by
    unfold Addr.add;split
    . grind
    . simp
   refine Good.pure R (x:= .pointer (some ⟨(φ b).1,m.toNat*1+0,none⟩)) ?_ (.c ?_) (by simpa[V.az,C.az]using ao.2)
   . have l:0<=m/\m<(k:Int):=⟨t,by omega⟩
     simp only[execOp,u,h1,g,Instr.indexAt,asIntOf,Instr.sureAddr,Sem.run_bind,run_underlying D,Result.andThen_ok,Sem.run_pure,ad l,j8 B,j]
   . simp[bk]
 . cases he
theorem Zd(R:Rel aB nt φ S env J n a w){g:IntKind}{m:Int}(u:o.op= .indexAddr ty x (.const (.int g m))){k:Nat}(z:P.underlying ty=some (.array k e))
 (h0:0<=m/\m.toNat<k){s:Nat}(hs:eH P e=some s){i:aS}(A:bL x=some i)
 {p v J'}(B:n key=false)(h:aR (.fldA (m.toNat*s) i) env J key=some (p,v,J'))(y:p):Good P aB nt env J' (ins n key) a v ((execOp a.eval o).run P w):=by
 simp only[aR,bo]at h;obtain⟨⟨C,D⟩,t,he⟩:=h;simp only at he;have j:a.eval (.const (.int g m))= .int g m:=rfl;have r:0<=m/\m<(k:Int):=⟨h0.1,by omega⟩
 have d:∀(b off:Nat),a.eval x= .pointer (some ⟨b,off,none⟩)->(execOp a.eval o).run P w= .ok (.value (.pointer (some ⟨b,off+m.toNat*s,none⟩))) w:=by
  intro b off e;have l:(Addr.add ⟨b,off,none⟩ (m.toNat*s):Addr)=⟨b,off+m.toNat*s,none⟩:=by
   unfold Addr.add;split
   . rename_i q;rw[q];rfl
   . rfl
  simp only[execOp,u,e,j,Instr.indexAt,asIntOf,Instr.sureAddr,Sem.run_bind,run_underlying z,Result.andThen_ok,Sem.run_pure,ad r,j8 hs,l]
 split at he<;>simp only[bG,bE,reduceCtorEq]at he
 all_goals
  obtain⟨rfl,rfl,rfl⟩:=he;have ao:=cz R A t y;have h1:=ao.1.dY
 . simp only[bk]at h1;exact Good.pure R (d _ _ h1) (.c rfl) ao.2
 . simp only[bk]at h1;exact Good.pure R (d _ _ h1) (.c (by simp[bk,p9])) ao.2
 . obtain⟨blk,off,f,h1,aa⟩:=h1;exact Good.pure R (d _ _ h1) (.c ⟨blk,off,f,by simp[p9],aa⟩) ao.2
theorem Ze(R:Rel aB nt φ S env J n a w){i:Option Operand}(A:o.op= .slice ty x j i none){k:Nat}(I:P.underlying ty=some (.array k e))(G:eH P e=some 1)
 {g:aS}{f d:Option aS}(K:bL x=some g)(z:kl j=some f)(y:kl i=some d)
 {p v J'}(U:n key=false)(h:aR (.slcP k g f d) env J key=some (p,v,J'))(B:p):Good P aB nt env J' (ins n key) a v ((execOp a.eval o).run P w):=by
 simp only[aR,bo]at h;obtain⟨⟨Y,Z⟩,u,⟨pl,l⟩,t,⟨X,h⟩,s,he⟩:=h;simp only at he;split at he
 . rename_i b;simp only[bG,bE]at he;obtain⟨rfl,rfl,rfl⟩:=he;obtain⟨D,E,F,h0,h1,m⟩:=B;have ao:=cz R K u D;have M:=ao.1.hR;have ae:=qU R z t E;have aa:=qU R y s F;have r:=CI (P:=P) (w:=w) (isSlice:=false) (cap:=k) ae aa h0 h1 m (ea _);generalize Q:(l.getD 0).toNat=L at*;generalize N:(h.getD (k:Int)).toNat=H at*;have T:L<=H:=(by omega);have O:H<=k:=(by omega);have q:(Addr.add ⟨(φ b).1,0,none⟩ (L*1):Addr)=⟨(φ b).1,L*1,none⟩:=by
    unfold Addr.add;split
    . grind
    . simp
   refine Good.pure R (x:= .slice (some (if k=L then⟨(φ b).1,0,none⟩else(Addr.add ⟨(φ b).1,0,none⟩ (L*1)))) (H-L) (k-L)) ?_ (.c ⟨_,_,rfl,?_,by omega⟩) (by simpa[V.az,C.az]using ao.2)
   . simp[execOp,A,Instr.sliceAt,Instr.sureAddr,underlying,I,M,r,j8 G]
   . intro W;rw[bp,q]
 . cases he
theorem Zf{s:aj}(a:bytesOf es=some s):∀{xs:List Value},(∀(i:Nat) t,es[i]?=some [t]->∃v,xs[i]?=some v/\cd w S t v)->xs.length=es.length->
 ∃aI:aq,xs=aI.map (Value.int .u8)/\s=aI.map λm=>UInt8.ofNat m.toNat:=by
 induction es generalizing s with
 |nil=>intro xs _ ae;simp[bytesOf]at a;subst a;exact⟨[],by simpa using ae,rfl⟩
 |cons e es ih=>
  intro xs c ae;unfold bytesOf at a;split at a
  . rename_i b;cases b
  . rename_i m r b;cases b;simp only[bc]at a;obtain⟨k,j,rfl⟩:=a;cases xs with
    |nil=>simp at ae
    |cons x xs=>
     obtain⟨v,d,g⟩:=c 0 _ rfl;simp at d;subst d;cases g;obtain⟨aI,rfl,rfl⟩:=ih j (xs:=xs) (λi t f=>by simpa using c (i+1) t (by simpa using f)) (by simpa using ae);exact⟨m::aI,rfl,rfl⟩
  . cases a
theorem Zg(aI:aq):∀(s:ByteArray),(aI.foldl (λr m=>r.push (UInt8.ofNat m.toNat)) s).data.toList=s.data.toList++aI.map λm=>UInt8.ofNat m.toNat:=by
 induction aI with
 |nil=>intro s;simp
 |cons m aI ih=>intro s;rw[List.foldl_cons,ih];simp[ByteArray.push]
theorem S4{s:aj}(a:bytesOf es=some s):∀(i:Nat) e,es[i]?=some e->∃t,e=[t]:=by
 induction es generalizing s with
 |nil=>intro i e h;simp at h
 |cons cY es ih=>
  unfold bytesOf at a;split at a
  . grind
  . rename_i m r b;cases b;simp only[bc]at a;grind
  . cases a
theorem DL{f d:TypeId}(hs:P.underlying f=some (.slice e))(he:P.underlying e=some (.int .u8))(q:P.underlying d=some .string){str:aj}{a:Option Addr}{len cap b:Nat}
 (ae:es.length=len)(c:bytesOf es=some str)(p:len≠0->a=some ⟨b,off,none⟩)(x:∀(i:Nat) t,es[i]?=some [t]->∃v,w.cell? ⟨b,off+i,none⟩=some v/\cd w S t v):
 ∃bs:ByteArray,(convert f d (.slice a len cap)).run P w= .ok (.string bs) w/\bs.data.toList=str:=by
 rw[run_convert_bytes_string w f d e a len cap hs he q];by_cases h0:len=0
 . have r:es=[]:=jS (by omega);subst r;simp[bytesOf]at c;subst c;subst h0;cases a with
   |none=>exact⟨.empty,by simp[Conv.bytesToString],rfl⟩
   |some a0=>
    have:=run_bytesToString (P:=P) w a0 0 cap [] (by simp[loadCells,loadCellsFrom]);exact⟨_,this,rfl⟩
 . rw[p h0];have y:∀i,i<len->∃t v,es[i]?=some [t]/\w.cell? ⟨b,off+i,none⟩=some v/\cd w S t v:=by
    intro i s;have h1:=eF (l:=es) (i:=i) (by omega);obtain⟨t,ht⟩:=S4 c i _ h1;grind
   have ao:∀i,i<len->((List.range len).map λi=>(w.cell? ⟨b,off+i,none⟩).getD undef)[i]?=w.cell? ⟨b,off+i,none⟩:=(by grind);obtain⟨aI,h1,k⟩:=Zf (w:=w) (S:=S) c (xs:=(List.range len).map λi=>(w.cell? ⟨b,off+i,none⟩).getD undef) (λi t s=>by grind) (by simp[ae]);have g:=yS (P:=P) (w:=w) (b:=b) (o:=off) (m:=len) (xs:=(List.range len).map λi=>(w.cell? ⟨b,off+i,none⟩).getD undef) (by simp) (λj u=>(ao j u).symm);rw[h1]at g;have n:=run_bytesToString (P:=P) w ⟨b,off,none⟩ len cap aI g;exact⟨_,n,by rw[Zg,k];rfl⟩
theorem FM:∀{es:List (List T)} {s:aj},bytesOf es=some s->s.length=es.length
 |[],s,h=>by simp[bytesOf]at h;subst h;rfl
 |e::es,s,h=>by
  unfold bytesOf at h;split at h
  . grind
  . rename_i m r a;cases a;simp only[bc]at h;obtain⟨c,b,rfl⟩:=h;simp[FM b]
  . cases h
theorem Zu(R:Rel aB nt φ S env J n a w){B u:TypeId}(V:o.op= .convert B u x)(hs:P.underlying B=some (.slice e))(he:P.underlying e=some (.int .u8))(y:P.underlying u=some .string){G:aS}(af:bL x=some G)
 {p v J'}(ai:n key=false)(h:aR (.b2s G) env J key=some (p,v,J'))(W:p):Good P aB nt env J' (ins n key) a v ((execOp a.eval o).run P w):=by
 simp only[aR,bo,bc,bE]at h;obtain⟨⟨al,am⟩,I,⟨q,str⟩,g,rfl,rfl,rfl⟩:=h;obtain⟨X,z⟩:=W;have ao:=cz R af I X
 suffices aa:∃d len cap,a.eval x= .slice d len cap/\str.length<=eE/\∃bs:ByteArray,(convert B u (.slice d len cap)).run P w= .ok (.string bs) w/\bs.data.toList=str by
  obtain⟨d,len,cap,h1,r,bs,H,C⟩:=aa;have N:bs.size<=ez:=by rw[<-qX,C];unfold eE at r;unfold ez;omega
  refine Good.pure R (x:= .string bs) ?_ (.c ?_) rfl
  . simp[execOp,V,h1,H]
  . show cd w S _ _;rw[<-C];exact .str bs N
 have A:∀ (b off len:Nat) (es:List (List T)) (d:Option Addr) (cap:Nat),aV J b = some (.arr 1 es)->off+len<=es.length->bytesOf ((es.drop off).take len) = some str->(len≠0->d = some ⟨(φ b).1,off*1,none⟩)->((φ b).2≠0\/len = 0)->a.eval x = .slice d len cap->
  ∃d len cap,a.eval x= .slice d len cap/\str.length<=eE/\∃bs:ByteArray,(convert B u (.slice d len cap)).run P w= .ok (.string bs) w/\bs.data.toList=str:=by
  intro b off len es d cap M K j L h0 F;obtain⟨h1,r,H,C,ba⟩:=R.bP.blk b _ M;have ae:((es.drop off).take len).length=len:=by simp;omega
  refine⟨d,len,cap,F,by rw[FM j,ae];omega,?_⟩;refine DL (S:=S) hs he y ae j L ?_;intro i t k;rw[lr]at k;split at k
  . rename_i ah;rw[rF]at k;rcases h0 with h0|h0
    . obtain⟨vs,E,aa,ak,Y,_⟩:=ba h0;obtain⟨v,ab,ad⟩:=Y _ 0 _ t k rfl;refine⟨v,?_,ad⟩;rw[jw aa];simpa using ab
    . omega
  . cases k
 dsimp only at g I ao;unfold nc at g;split at g
 . rename_i es;simp only[bc,bE]at g;obtain⟨s,j,rfl,rfl⟩:=g;obtain⟨d,cap,sz,b,off,f,h1,ag,U,aj,l,O,F⟩:=cd.ko ao.1.dY;refine⟨d,es.length,cap,h1,by rw[FM j];exact U,?_⟩;by_cases D:es=[]
   . subst D;exact DL (S:=S) (b:=0) (off:=0) hs he y rfl j (by simp) (by simp)
   . have Z:sz=1:=by
      obtain⟨cY,Q⟩:=Bx es D;obtain⟨i,k⟩:=E8.1 Q;obtain⟨t,rfl⟩:=S4 j i _ k;grind
     subst Z;refine DL (S:=S) (b:=b) (off:=off) hs he y rfl j (λ_=>l D) ?_;intro i t k;have ay:=(c7.1 k).1;have r:=O i 0 ay (by omega);exact⟨f i 0,by simpa using r.2,F i 0 _ t k rfl⟩
 . cases g;obtain⟨d,h1⟩:=ao.1.dY;exact⟨d,0,0,h1,by simp,DL (S:=S) (es:=[]) (b:=0) (off:=0) hs he y rfl rfl (by simp) (by simp)⟩
 . rename_i b off len;split at g
   . rename_i es m;simp only[bc,bE]at g;obtain⟨s,j,rfl,rfl⟩:=g;obtain⟨d,h1,l,K⟩:=bk.hb ao.1.dY;by_cases h0:(φ b).2=0
     . exact A b off len es d _ m z j (λh=>by omega) (.inr (by omega)) h1
     . exact A b off len es d _ m z j (λ_=>l h0) (.inl h0) h1
   . cases g
 . rename_i b off len;split at g
   . rename_i es m;simp only[bc,bE]at g;obtain⟨s,j,rfl,rfl⟩:=g;obtain⟨d,cap,h1,l,K⟩:=ao.1.dY;obtain⟨r,_⟩:=R.bP.blk b _ m;by_cases h0:len=0
     . exact A b off len es d _ m z j l (.inr h0) h1
     . exact A b off len es d _ m z j l (.inl (by omega)) h1
   . cases g
 . cases g
end
end
end Go.Proofs.YtdjagncoefjfeaaGreat.Shv
