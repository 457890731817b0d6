/- The library of this proof, part A: an abstract machine for the code of the program, and its soundness. -/
import Derived.LoopN
import Derived.Calls
import Derived.Laws.Sem
import Derived.Laws.World
import Derived.Laws.Cells
import Derived.Below
import Derived.Laws.Strings
import Derived.Laws.StructEq
import Derived.Laws.BytesString

namespace Go.Proofs.YtklfhpkljddjbaaGreatDoor.Shv
set_option linter.all false
abbrev ar:=List UInt8
abbrev au:=List Int
abbrev aY:=List Nat
section
def ad:=@if_pos
def ao:=@if_neg
def cJ:=@Bool.false_eq_true
def eg:=@Option.ite_none_right_eq_some
def dH:=@List.getElem?_eq_some_iff
def cK:=@Bool.and_eq_true
def eC:=@List.getElem?_eq_getElem
def dD:=@List.length_append
def dy:=@Option.some.injEq
def eM:=@Nat.mul_le_mul_right
def eN:=@List.mem_of_getElem?
def dG:=@Prod.mk.injEq
def cE:=@if_false
def dK:=@List.mem_cons
def cm:=@if_true
def dB:=@decide_true
def e9:=@decide_eq_true_eq
def ez:=@Bool.not_true
def e':=@List.all_eq_true
def ew:=@decide_false
def hI:=@List.drop_eq_nil_of_le
def eA:=@List.mem_map
def dd:=@congrArg
def gQ:=@List.getElem_of_mem
def eB:=@Nat.le_refl
def fH:=@List.mem_append
def gR:=@Int.toNat_natCast
def hn:=@of_decide_eq_true
def kz:=@List.eq_nil_of_length_eq_zero
def dn:=@Ne.symm
def gS:=@List.length_cons
def hJ:=@List.flatMap_cons
def jF:=@Option.bind_eq_some_iff
def gg:=@Bool.not_false
def h9:=@List.pairwise_cons
def fQ:=@Nat.le_trans
def ho:=@decide_eq_true
def hT:=@List.length_set
def kB:=@Option.map_eq_some_iff
def jf:=@Nat.lt_of_lt_of_le
def gx:=@Nat.zero_add
def j1:=@beq_eq_false_iff_ne
def m':=@List.drop_eq_getElem_cons
def jG:=@List.contains_nil
def iP:=@List.nil_append
def kC:=@List.contains_cons
def iA:=@Bool.or_false
def jH:=@List.length_map
def kD:=@List.append_assoc
def lx:=@Int.emod_lt_of_pos
def pO:=@Decidable.byContradiction
def h':=@Nat.add_mul
def ia:=@Nat.zero_le
def kE:=@List.length_nil
def j2:=@List.drop_zero
def jI:=@List.map_cons
def l8:=@List.pairwise_map
def na:=@List.mem_singleton
def tO:=@Array.getElem?_setIfInBounds
def ly:=@Option.map_some
def lz:=@Int.emod_nonneg
def l9:=@List.length_drop
def iB:=@beq_iff_eq
def l':=@Bool.or_eq_true
def ib:=@cond_true
def jg:=@cond_false
def lA:=@List.all_cons
def rr:=@Nat.le_of_ble_eq_true
def tP:=@List.take_of_length_le
def wI:=@List.getElem?_append_left
def oh:=@Option.some.inj
def wJ:=@List.pairwise_iff_getElem
def pP:=@List.any_eq_true
def ru:=@List.getElem?_map
def tQ:=@List.length_pos_iff
def tR:=@List.getD_cons_zero
def wK:=@List.drop_of_length_le
def zF:=@Array.getElem?_eq_some_iff
def zG:=@List.getElem?_append_right
def rv:=@Nat.mod_eq_of_lt
def ry:=@List.length_take
def wL:=@List.mem_of_mem_take
def rz:=@List.foldl_cons
def zH:=@List.eq_of_mem_replicate
def zI:=@Option.isSome_iff_exists
def wM:=@Bool.or_eq_false_iff
def rA:=@List.mem_filter
def rB:=@List.map_append
def rC:=@List.append_nil
def wN:=@BitVec.ofInt_natCast
def wO:=@List.mem_iff_getElem
def zJ:=@Bool.eq_false_or_eq_true
def CL:=@Option.ite_none_left_eq_some
def tS:=@List.cons_append
def zK:=@Array.getElem?_toList
def wP:=@List.ext_getElem?
def CM:=@List.exists_mem_of_ne_nil
def CN:=@List.mem_or_eq_of_mem_set
def CO:=@Array.getElem?_eq_getElem
def CP:=@List.mem_of_find?_eq_some
def rp:=@Nat.add_zero
def wC:=@List.getElem_mem
def rq:=@List.map_nil
def zv:=@Array.length_toList
def Cu:=@List.getElem?_cons_zero
def Cv:=@List.getElem?_cons_succ
def zw:=@List.getElem?_take
def zx:=@BitVec.toNat_ofNat
def Gx:=@List.find?_eq_some_iff_getElem
def zy:=@Bool.not_eq_true'
def wD:=@List.drop_drop
def tJ:=@Nat.le_of_eq
def Cw:=@List.getElem?_toArray
def wE:=@List.nodup_nil
def pN:=@and_false
def Cx:=@List.getElem?_zipIdx
def Cy:=@List.mem_cons_of_mem
def zz:=@List.mem_nil_iff
def Cz:=@Nat.pow_le_pow_right
def tK:=@Nat.mul_one
def CA:=@Array.toList_modify
def CB:=@Int.toNat_of_nonneg
def zA:=@Nat.not_lt_zero
def zB:=@Bool.eq_iff_iff
def wF:=@Bool.true_or
def wG:=@List.sum_nil
def Gy:=@Nat.le_mul_of_pos_right
def Gz:=@decide_eq_false_iff_not
def CC:=@List.getElem?_set
def wH:=@Nat.le_succ
def zC:=@List.sum_cons
def CD:=@Nat.le_of_not_lt
def CE:=@List.range'_succ
def CF:=@Option.getD_some
def GA:=@Array.getElem?_modify
def GB:=@List.take_append_drop
def GC:=@List.mem_iff_getElem?
def GD:=@List.mem_of_mem_drop
def zD:=@exists_false
def QP:=@List.eq_nil_iff_forall_not_mem
def GF:=@List.mem_append_left
def zE:=@Bool.or_true
def GG:=@List.pairwise_append
def CG:=@decide_eq_false
def tL:=@and_true
def CH:=@UInt8.toNat_lt
def tM:=@Prod.ext
def tN:=@or_false
def CI:=@Int.toNat_zero
def CJ:=@Int.mul_nonneg
def GH:=@List.mem_filterMap
def GI:=@List.mem_cons_self
def GJ:=@Array.toList_push
def GK:=@List.take_add_one
def CK:=@Nat.zero_mul
def GL:=@List.ext_getElem
def GM:=@Bool.cond_eq_ite
variable{c:Prop}{α a:Type}{R:α->a->Prop}
theorem eF{h:Decidable c}(a:c:=by omega){α:Sort _}{t e:α}:ite c t e=t:=if_pos a
theorem dc{h:Decidable c}(a:c:=by simp;omega){α:Sort _}{t e:α}:ite c t e=t:=if_pos a
theorem a'{h:Decidable c}(a:¬c:=by omega){α:Sort _}{t e:α}:ite c t e=e:=if_neg a
theorem ev{h:Decidable c}(a:¬c:=by simp;omega){α:Sort _}{t e:α}:ite c t e=e:=if_neg a
theorem c2{h:Decidable c}(a:¬c:=by simp){α:Sort _}{t e:α}:ite c t e=e:=if_neg a
theorem bn{α:Type _}{b:α}{c:Type _}{x:Option c}{f:c->α}:Option.map f x=some b↔∃a,x=some a/\f a=b:=kB
theorem bf{α:Type _}{b:α}{c:Type _}{x:Option c}{f:c->Option α}:x.bind f=some b↔∃a,x=some a/\f a=some b:=jF
theorem ay{α:Type _}{b:Type _}(a:α)(f:α->Option b):(some a).bind f=f a:=Option.bind_some ..
theorem bg.{u}{α a:Type u}:(bind:Option α->(α->Option a)->Option a)=Option.bind:=Option.bind_eq_bind
open Go
inductive T where
 |bool (b:Bool)
 |int (k:IntKind)(n:Int)
 |str (s:ar)
 |slice (es:List (List T))
inductive C where
 |t (x:T)
 |ptr (b o:Nat)
 |cA (b sz i o:Nat)
 |dF (ts:List T)(o:Nat)
 |arr (b sz off len:Nat)
 |fA (b sz off len:Nat)
 |mp (b:Nat)
 |ei (b:Nat)
 |cr (b len:Nat)
 |bD
 |eQ
 |eP
 |fn (f:Nat)(caps:aY)
 |dead
inductive V where
 |c (x:C)
 |agg (cs:List C)
 |aX (vs:List V)
inductive bJ where
 |box (cs:List C)
 |arr (sz:Nat)(es:List (List T))
 |set (ks:List ar)
 |buf (E:TypeId)(s:ar)
 |b3 (E:TypeId)(c:C)
 |cw (sz:Nat)(es:List (List T))(i o:Nat)(c:C)
abbrev cR:=Nat->Nat->Prop
abbrev cU:=Nat->Nat×Nat
def ft:Nat:=9223372036854775807
def c1:Nat:=281474976710656
inductive bK (w:World)(S:cR):T->Value->Prop
 |bool (b:Bool):bK w S (.bool b) (.bool b)
 |int (k:IntKind) (n:Int):bK w S (.int k n) (.int k n)
 |str (s:ByteArray) (h:s.size<=ft):bK w S (.str s.data.toList) (.string s)
 |slice (es:List (List T)) (a:Option Addr) (cap sz b o:Nat) (f:Nat->Nat->Value)
  (ahG:es.length<=cap) (ahK:es.length<=c1)
  (ahP:∀e,e∈es->e.length=sz)
  (xV:es≠[]->a=some ⟨b,o,none⟩)
  (Qx:∀i j,i<es.length->j<sz->S b (o+i*sz+j)/\w.cell? ⟨b,o+i*sz+j,none⟩=some (f i j))
  (Qy:∀i j e t,es[i]?=some e->e[j]?=some t->bK w S t (f i j)):
  bK w S (.slice es) (.slice a es.length cap)
structure fY (w:World)(S:cR)(w':World)(ba:cR):Prop where
 sub:∀b j,S b j->ba b j
 cell:∀b j,S b j->w'.cell? ⟨b,j,none⟩=w.cell? ⟨b,j,none⟩
theorem fY.refl(w:World)(S:cR):fY w S w S:=⟨λ_ _ h=>h,λ_ _ _=>rfl⟩
theorem fY.trans{w S w' ba e c}(h:fY w S w' ba)(k:fY w' ba e c):fY w S e c:=
 ⟨λb j a=>k.sub b j (h.sub b j a),λb j a=>(k.cell b j (h.sub b j a)).trans (h.cell b j a)⟩
theorem bK.mono{w S w' ba}(m:fY w S w' ba){t v}(h:bK w S t v):bK w' ba t v:=by
 induction h with
 |bool b=>exact .bool b
 |int k n=>exact .int k n
 |str s h=>exact .str s h
 |slice es a cap sz b o f x y A q c B ih=>
  exact .slice es a _ sz b o f x y A q
   (λi j e p=>⟨m.sub _ _ (c i j e p).1,by rw[m.cell _ _ (c i j e p).1];grind⟩) ih
theorem bK.iQ{w S t v}(h:bK w S t v):v.oneCell'=true:=by cases h<;>rfl
def bk(φ:cU)(w:World)(S:cR):C->Value->Prop
 |.t x,v=>bK w S x v
 |.ptr b o,v=>v= .pointer (some ⟨(φ b).1,o,none⟩)
 |.cA b sz i o,v=>v= .pointer (some ⟨(φ b).1,i*sz+o,none⟩)
 |.dF ts o,v=>∃ (blk off:Nat) (f:Nat->Value),v = .pointer (some ⟨blk,off+o,none⟩)/\
  ∀j t,ts[j]?=some t->S blk (off+j)/\w.cell? ⟨blk,off+j,none⟩=some (f j)/\bK w S t (f j)
 |.arr b sz off len,v=>∃a,v= .slice a len ((φ b).2-off)/\((φ b).2≠0->a=some ⟨(φ b).1,off*sz,none⟩)/\off+len<=(φ b).2
 |.fA b sz off len,v=>∃a cap,v= .slice a len cap/\(len≠0->a=some ⟨(φ b).1,off*sz,none⟩)/\len<=cap
 |.mp b,v=>v= .map (some (φ b).1)
 |.cr b len,v=>len<=(φ b).2/\((φ b).2=0->v= .slice none 0 0)/\((φ b).2≠0->v= .slice (some ⟨(φ b).1,0,none⟩) len (φ b).2)
 |.ei b,v=>∃p,v= .pointer p/\((φ b).2≠0->p=some ⟨(φ b).1,0,none⟩)
 |.bD,v=>∃a,v= .slice a 0 0
 |.eQ,v=>v= .pointer none
 |.eP,v=>v= .nilFunc
 |.fn f caps,v=>v= .func (.func f) #[] (caps.map λb=>Value.pointer (some ⟨(φ b).1,0,none⟩)).toArray
 |.dead,v=>v.oneCell'=true
theorem bk.iQ{φ w S c v}(h:bk φ w S c v):v.oneCell'=true:=by
 cases c with
 |t x=>exact bK.iQ h
 |dF ts o=>obtain⟨_,_,_,rfl,_⟩:=h;rfl
 |arr b sz off len=>obtain⟨_,rfl,_⟩:=h;rfl
 |fA b sz off len=>obtain⟨_,_,rfl,_⟩:=h;rfl
 |ei b=>obtain⟨_,rfl,_⟩:=h;rfl
 |cr b len=>
  by_cases h0:(φ b).2=0
  . rw[h.2.1 h0];rfl
  . rw[h.2.2 h0];rfl
 |bD=>obtain⟨_,rfl⟩:=h;rfl
 |dead=>exact h
 |_=>cases h;rfl
def C.az(n:Nat->Bool):C->Bool
 |.ptr b _=>n b
 |.cA b _ _ _=>n b
 |.arr b _ _ _=>n b
 |.fA b _ _ _=>n b
 |.mp b=>n b
 |.ei b=>n b
 |.cr b _=>n b
 |.fn _ caps=>caps.all λb=>n b
 |_=>true
def V.az(n:Nat->Bool):V->Bool
 |.c x=>x.az n
 |.agg cs=>cs.all (C.az n)
 |.aX vs=>V.dj n vs
where V.dj (n:Nat->Bool):List V->Bool
 |[]=>true
 |v::vs=>v.az n&&V.dj n vs
theorem bk.mono{φ a8:cU}{w S w' ba}(m:fY w S w' ba){n:Nat->Bool}(e:∀b,n b=true->a8 b=φ b){c v}(a:c.az n=true)(h:bk φ w S c v):bk a8 w' ba c v:=by
 cases c with
 |t x=>exact bK.mono m h
 |ptr b o=>grind[C.az,bk]
 |cA b sz i o=>grind[C.az,bk]
 |dF ts o=>
  obtain⟨blk,off,f,rfl,ab⟩:=h;exact⟨blk,off,f,rfl,λj t ht=>⟨m.sub _ _ (ab j t ht).1,by rw[m.cell _ _ (ab j t ht).1];grind,bK.mono m (ab j t ht).2.2⟩⟩
 |arr b sz off len=>grind[C.az,bk]
 |fA b sz off len=>grind[C.az,bk]
 |mp b=>grind[C.az,bk]
 |ei b=>grind[C.az,bk]
 |cr b len=>grind[C.az,bk]
 |bD=>exact h
 |eQ=>exact h
 |eP=>exact h
 |fn f caps=>
  grind[bk,List.map_congr_left,C.az]
 |dead=>exact h
inductive aV {α β:Type}(R:α->β->Prop):List α->List β->Prop
 |nil:aV R [] []
 |cons {a b l m}:R a b->aV R l m->aV R (a::l) (b::m)
variable{e:Type}
theorem aV.imp{R R':α->e->Prop}{l m}(h:aV R l m)(k:∀a b,a∈l->R a b->R' a b):aV R' l m:=by
 induction h with
 |nil=>exact .nil
 |cons c _ ih=>exact .cons (k _ _ (by simp) c) (ih λa b f=>k a b (by grind))
theorem aV.length{l:List α}{m:List a}(h:aV R l m):l.length=m.length:=by
 induction h<;>grind
theorem aV.get{c:Type}{R:α->c->Prop}{l:List α}{m:List c}(h:aV R l m){i:Nat}{a:α}(e:l[i]?=some a):∃b,m[i]?=some b/\R a b:=by
 induction h generalizing i<;>grind
theorem aV.kF{c:Type}{R:α->c->Prop}:∀{l:List α} {m:List c},l.length=m.length->(∀(i:Nat) a b,l[i]?=some a->m[i]?=some b->R a b)->aV R l m
 |[],[],_,_=>.nil
 |[],_::_,h,_=>by grind
 |_::_,[],h,_=>by grind
 |a::l,b::m,h,k=>.cons (k 0 a b (by rfl) (by rfl)) (aV.kF (by grind) λi x y I ag=>k (i+1) x y (by grind) (by grind))
theorem aV.append{R:α->e->Prop}{l a:List α}{m c:List e}(h:aV R l m)(j:aV R a c):aV R (l++a) (m++c):=by
 induction h with
 |nil=>grind
 |cons f _ ih=>exact .cons f ih
theorem aV.drop{l:List α}{m:List a}(h:aV R l m)(k:Nat):aV R (l.drop k) (m.drop k):=by
 induction h generalizing k with
 |nil=>simp;exact .nil
 |cons c ht ih=>cases k with
  |zero=>exact .cons c ht
  |succ k=>grind
theorem aV.take{l:List α}{m:List a}(h:aV R l m)(k:Nat):aV R (l.take k) (m.take k):=by
 induction h generalizing k with
 |nil=>simp;exact .nil
 |cons c _ ih=>cases k with
  |zero=>exact .nil
  |succ k=>exact .cons c (ih k)
inductive bS (φ:cU)(w:World)(S:cR):V->Value->Prop
 |c {x v}:bk φ w S x v->bS φ w S (.c x) v
 |agg {cs vs}:aV (bk φ w S) cs vs->bS φ w S (.agg cs) (.agg vs.toArray)
 |aX (vs:List V) (xs:List Value) (ae:vs.length = xs.length) (h:∀ (i:Nat) v x,vs[i]? = some v->xs[i]? = some x->bS φ w S v x):
  bS φ w S (.aX vs) (.tuple xs.toArray)
theorem mQ{n:Nat->Bool}:∀{vs:List V} {i:Nat} {v:V},V.az.V.dj n vs=true->vs[i]?=some v->v.az n=true
 |[],_,_,_,h=>by grind
 |x::vs,0,v,a,h=>by grind[V.az.V.dj]
 |x::vs,i+1,v,a,h=>by simp[V.az.V.dj]at a;exact mQ a.2 (by simpa using h)
theorem bS.mono{φ a8:cU}{w S w' ba}(m:fY w S w' ba){n:Nat->Bool}(f:∀b,n b=true->a8 b=φ b){x v}(p:V.az n x=true)(h:bS φ w S x v):bS a8 w' ba x v:=by
 induction h with
 |c h=>exact .c (bk.mono m f (by grind[V.az]) h)
 |agg h=>exact .agg (h.imp λa b o j=>bk.mono m f (by grind[V.az]) j)
 |aX vs xs ae h ih=>exact .aX vs xs ae λi v x e I=>ih i v x e I (mQ (by grind[V.az]) e)
end
section
open Go
inductive aO where
 |tmp (t:Nat)
 |const (v:V)
inductive cH where
 |mov (x:aO)
 |pick (c x y:aO)
 |alloc (cs:List C)
 |box (x:aO)
 |build (zero:List C)(parts:List (Nat×Nat×aO))
 |bslice (sz:Nat)(len:Nat)(zero:List C)(parts:List (Nat×aO))
 |load (agg:Bool)(n:Nat)(x:aO)
 |store (n:Nat)(x v:aO)
 |nilCheck (x:aO)
 |bin (op:BinOp)(x y:aO)
 |eqAgg (neg:Bool)(ks:aY)(x y:aO)
 |eqBool (neg:Bool)(x y:aO)
 |eqNil (neg:Bool)(x:aO)
 |not (x:aO)
 |conv (k:IntKind)(x:aO)
 |i2s (x:aO)
 |s2s (x:aO)
 |fldA (off:Nat)(x:aO)
 |fld (agg:Bool)(off n:Nat)(x:aO)
 |idxA (sz:Nat)(x i:aO)
 |idxS (x i:aO)
 |slcS (x:aO)(oe Cn:Option aO)
 |slc (sz:Nat)(x:aO)(oe Cn:Option aO)
 |slc0 (x:aO)
 |allocA (cs:List C)
 |idxP (n:Nat)(x i:aO)
 |idxV (n:Nat)(x i:aO)
 |mslice (sz bytes:Nat)(zero:List C)(x:aO)
 |slcP (n:Nat)(x:aO)(oe Cn:Option aO)
 |b2s (x:aO)
 |allocS (e e8:Nat)
 |bsliceT (e sz len:Nat)(zero:List C)(parts:List (Nat×aO))
 |mkset
 |lkset (x k:aO)
 |upset (x k:aO)
 |appendB (e bytes:Nat)(x y:aO)
 |sdata (x:aO)
 |ustr (e:Nat)(x n:aO)
 |mkfn (f:Nat)(caps:List aO)
 |ext (x:aO)(i:Nat)
 |len (str:Bool)(x:aO)
 |append (e sz bytes:Nat)(x y:aO)
 |max2 (x y:aO)
 |min2 (x y:aO)
 |call (f:Nat)(args:List aO)
 |h6 (x:aO)(args:List aO)
structure bX where
 dst:Option Nat
 op:cH
 guard:Option (Nat×Bool)
def CQ:Value->Option C
 |.bool b=>some (.t (.bool b))
 |.int k n=>some (.t (.int k n))
 |.string s=>if s.size<=ft then some (.t (.str s.data.toList))else none
 |.slice none 0 0=>some .bD
 |.pointer none=>some .eQ
 |.nilFunc=>some .eP
 |.nilIface=>some .dead
 |_=>none
def vu:List Value->Option (List C)
 |[]=>some []
 |v::vs=>(CQ v).bind λc=>(vu vs).map (c::·)
def Ke:Value->Option V
 |.agg cs=>(vu cs.toList).map .agg
 |v=>(CQ v).map .c
def bz:Operand->Option aO
 |.tmp t=>some (.tmp t)
 |.const v=>(Ke v).map .const
 |.func f=>some (.const (.c (.fn f [])))
 |.global _=>some (.const (.c .dead))
def nb:List Operand->Option (List aO)
 |[]=>some []
 |x::xs=>(bz x).bind λa=>(nb xs).map (a::·)
def j3:Option Operand->Option (Option aO)
 |none=>some none
 |some x=>(bz x).map some
def jO(P:Program)(t:TypeId):Option (List C):=
 (P.info? t).bind λi=>i.zero.bind λz=>vu z.cells.toList
def pH(P:Program)(t:TypeId):Option Bool:=
 match P.underlying t with
 |some (.struct _)|some (.array _ _)=>some true
 |some _=>some false
 |none=>none
def dW(P:Program)(t:TypeId):Option Nat:=(P.info? t).map (·.size)
def mO(P:Program)(t:TypeId):Option (Bool×Nat):=
 (pH P t).bind λg=>(dW P t).bind λn=>if g=false->n=1 then some (g,n)else none
def gL(P:Program)(f:Nat):Bool:=
 match P.funcs[f]? with
 |some fn=>fn.body.isSome && !(fn.name == "runtime.NumGoroutine")
 |none=>false
def pK(P:Program)(t:TypeId):Option Nat:=
 match P.underlying t with
 |some .bool=>some 0
 |some (.int _)=>some 1
 |some .string=>some 2
 |_=>none
def yA(P:Program):Nat->List Field->Option aY
 |_,[]=>some []
 |i,f::fs=>if f.offset = i/\f.name≠ "_" then (pK P f.type).bind λk=>(yA P (i+1) fs).map (k :: ·) else none
def Ik(P:Program)(t:TypeId):Option aY:=
 match P.underlying t with
 |some (.struct fs)=>if P.stoodInHeld t=false/\P.eqGuardType P.depth t=false then yA P 0 fs.toList else none
 |_=>none
def Kf(P:Program)(t:TypeId):Option aY:=
 match P.underlying t with
 |some (.array n e)=>if dW P e=some 1/\P.eqGuardType P.depth t=false then(pK P e).map (List.replicate n)else none
 |_=>none
def IL(P:Program)(fs:Array Field):Bool:=fs.toList.all λf=>(dW P f.type).isSome
def wa(P:Program)(fs:Array Field):List (Nat×Operand)->Option (List (Nat×Nat×aO))
 |[]=>some []
 |(j,x)::r=>(fs[j]?).bind λf=>(dW P f.type).bind λn=>(bz x).bind λa=>(wa P fs r).map ((f.offset,n,a)::·)
def vE(n:Nat):List (Nat×Operand)->Option (List (Nat×Nat×aO))
 |[]=>some []
 |(j,x)::r=>(bz x).bind λa=>(vE n r).map ((j*n,n,a)::·)
def pz:List (Nat×Operand)->Option (List (Nat×aO))
 |[]=>some []
 |(j,x)::r=>(bz x).bind λa=>(pz r).map ((j,a)::·)
def mF(P:Program)(c:Call):Option cH:=
 match c.callee with
 |.builtin .len=>match c.args.toList,c.argTypes.toList with
  |[x],[t]=>match P.underlying t with
   |some .string=>(bz x).map (.len true)
   |some (.slice _)=>(bz x).map (.len false)
   |_=>none
  |_,_=>none
 |.builtin .append=>match c.args.toList,c.argTypes.toList with
  |[x,y],[t,u]=>match P.underlying t,P.underlying u with
   |some (.slice e),some .string=>(P.info? e).bind λi=>(bz x).bind λa=>(bz y).bind λb=>
    if i.size=1/\(i.zero.map (·.cells.size))=some 1/\(match P.underlying e with|some (.int .u8)=>true|_=>false)=true then some (.appendB e i.bytes a b)else none
   |some (.slice e),some (.slice _)=>(P.info? e).bind λi=>(bz x).bind λa=>(bz y).bind λb=>
    if i.size≠0/\(i.zero.map (·.cells.size))=some i.size then some (.append e i.size i.bytes a b)else none
   |_,_=>none
  |_,_=>none
 |.builtin .max=>match c.args.toList with
  |[x,y]=>(bz x).bind λa=>(bz y).map λb=>.max2 a b
  |_=>none
 |.builtin .min=>match c.args.toList with
  |[x,y]=>(bz x).bind λa=>(bz y).map λb=>.min2 a b
  |_=>none
 |.builtin .unsafeSliceData=>match c.args.toList,c.argTypes.toList with
  |[x],[t]=>match P.underlying t with
   |some (.slice e)=>if dW P e=some 1 then(bz x).map .sdata else none
   |_=>none
  |_,_=>none
 |.builtin .unsafeString=>match c.args.toList,c.argTypes.toList with
  |[x,n],[t,_]=>match P.underlying t with
   |some (.pointer e)=>if(match P.underlying e with|some (.int .u8)=>true|_=>false)=true/\dW P e=some 1/\P.cellsOf e=1 then(bz x).bind λa=>(bz n).map λb=>.ustr e a b else none
   |_=>none
  |_,_=>none
 |.value (.func f)=>if gL P f then(nb c.args.toList).map (.call f)else none
 |.value (.tmp t)=>(nb c.args.toList).map (.h6 (.tmp t))
 |_=>none
def Y5(P:Program)(t:TypeId):Bool:=
 match P.info? t with
 |some i=>(match i.desc with|.named n _=>n == "strings.Builder" |_=>false)
 |none=>false
def SB:List Value->Bool
 |[.pointer none,.slice none 0 0]=>true
 |_=>false
def NX(P:Program)(t:TypeId):Bool:=
 match (P.info? t).bind (·.zero)with
 |some z=>SB z.cells.toList
 |none=>false
def yY(P:Program)(t:TypeId):Option Nat:=
 if Y5 P t=true/\NX P t=true then match P.underlying t with
  |some (.struct fs)=>(fs[1]?).bind λf=>match P.underlying f.type with
   |some (.slice e)=>some e
   |_=>none
  |_=>none
 else none
def sY(P:Program)(t:TypeId):Bool:=
 match P.underlying t with
 |some (.map k v)=>(match P.underlying k,P.underlying v with|some .string,some .bool=>true|_,_=>false)&&(match (P.info? v).bind (·.zero)with|some (.bool false)=>true|_=>false)
 |_=>false
def IM:Operand->Bool
 |.const (.bool true)=>true
 |_=>false
def Il:Operand->Bool
 |.const (.slice none 0 0)=>true
 |_=>false
def Hq:Operand->Operand->Bool
 |.tmp s,.tmp t=>s==t
 |_,_=>false
def cZ(P:Program)(o:Op):Option cH:=
 match o with
 |.move x|.assign x=>(bz x).map .mov
 |.pick c a b=>(bz c).bind λc=>(bz a).bind λa=>(bz b).map λb=>.pick c a b
 |.alloc e=>match yY P e with
  |some e8=>some (.allocS e e8)
  |none=>(jO P e).bind λcs=>match P.underlying e with
   |some (.array n t)=>if dW P t=some 1/\n=cs.length/\4<n/\n<=2^24 then some (.allocA cs)else some (.alloc cs)
   |_=>some (.alloc cs)
 |.box _ x=>(bz x).map .box
 |.build t parts=>match P.underlying t with
  |some (.struct fs)=>if IL P fs then(jO P t).bind λz=>(wa P fs parts.toList).map λps=>.build z ps else none
  |some (.array _ e)=>(jO P t).bind λz=>(dW P e).bind λn=>(vE n parts.toList).map λps=>.build z ps
  |_=>none
 |.buildSlice t len parts=>match P.underlying t with
  |some (.slice e)=>(dW P e).bind λn=>(jO P e).bind λz=>(pz parts.toList).bind λps=>
   if n≠0/\z.length=n/\len*n<=2^24 then some (.bslice n len z ps)else none
  |_=>none
 |.load t a=>(mO P t).bind λg=>(bz a).map λx=>.load g.1 g.2 x
 |.store t a v=>(dW P t).bind λn=>(bz a).bind λx=>(bz v).map λy=>.store n x y
 |.nilCheck x=>(bz x).map .nilCheck
 |.binOp op t x y _=>
  if op= .eql\/op= .neq then match P.underlying t with
   |some (.array _ _)=>(Kf P t).bind λks=>(bz x).bind λa=>(bz y).map λb=>.eqAgg (op== .neq) ks a b
   |some (.struct _)=>(Ik P t).bind λks=>(bz x).bind λa=>(bz y).map λb=>.eqAgg (op== .neq) ks a b
   |some (.slice _)=>if Il y then(bz x).map (.eqNil (op== .neq))else none
   |some .bool=>(bz x).bind λa=>(bz y).map λb=>.eqBool (op== .neq) a b
   |some (.int _)|some .string=>(bz x).bind λa=>(bz y).map λb=>.bin op a b
   |_=>none
  else(bz x).bind λa=>(bz y).map λb=>.bin op a b
 |.unOp .not _ x=>(bz x).map .not
 |.unOp .neg t x=>match P.underlying t with
  |some (.int k)=>(bz x).map (.bin .sub (.const (.c (.t (.int k 0)))))
  |_=>none
 |.unOp .xor t x=>match P.underlying t with
  |some (.int k)=>(bz x).map (.bin .xor (.const (.c (.t (.int k (if k.signed then -1 else k.max))))))
  |_=>none
 |.convert s d x=>match P.underlying s,P.underlying d with
  |some (.int _),some (.int k)=>(bz x).map (.conv k)
  |some (.int _),some .string=>(bz x).map .i2s
  |some .string,some .string=>(bz x).map .s2s
  |some (.slice e),some .string=>if(match P.underlying e with|some (.int .u8)=>true|_=>false)=true/\dW P e=some 1 then(bz x).map .b2s else none
  |_,_=>none
 |.fieldAddr t x f=>match P.underlying t with
  |some (.struct fs)=>(fs[f]?).bind λj=>(dW P j.type).bind λn=>if n=0 then none else(bz x).map (.fldA j.offset)
  |_=>none
 |.field t x f=>match P.underlying t with
  |some (.struct fs)=>(fs[f]?).bind λj=>(mO P j.type).bind λg=>(bz x).map (.fld g.1 j.offset g.2)
  |_=>none
 |.indexAddr t x i=>match P.underlying t with
  |some (.slice e)=>(dW P e).bind λn=>if n=0 then none else(bz x).bind λa=>(bz i).map λb=>.idxA n a b
  |some (.array n e)=>match i with
   |.const (.int _ m)=>if 0<=m/\m.toNat<n then(dW P e).bind λs=>(bz x).map (.fldA (m.toNat*s))else none
   |i=>if dW P e=some 1 then(bz x).bind λa=>(bz i).map λb=>.idxP n a b else none
  |_=>none
 |.index t x i=>match P.underlying t with
  |some .string=>(bz x).bind λa=>(bz i).map λb=>.idxS a b
  |some (.array n e)=>if mO P e=some (false,1)then(bz x).bind λa=>(bz i).map λb=>.idxV n a b else none
  |_=>none
 |.slice t x q p r=>match P.underlying t with
  |some .string=>if r.isNone then(bz x).bind λa=>(j3 q).bind λl=>(j3 p).map λh=>.slcS a l h else none
  |some (.slice e)=>match r with
   |none=>(dW P e).bind λn=>if n=0 then none else(bz x).bind λa=>(j3 q).bind λl=>(j3 p).map λh=>.slc n a l h
   |some (.const (.int _ 0))=>match q,p with
    |none,some (.const (.int _ 0))=>if(dW P e).isSome then(bz x).map .slc0 else none
    |_,_=>none
   |_=>none
  |some (.array n e)=>if r.isNone/\dW P e=some 1 then(bz x).bind λa=>(j3 q).bind λl=>(j3 p).map λh=>.slcP n a l h else none
  |_=>none
 |.makeFunc (.func f) first caps=>if first.isEmpty then(nb caps.toList).map (.mkfn f)else none
 |.extract x i=>(bz x).map λa=>.ext a i
 |.makeSlice t x y=>match P.underlying t with
  |some (.slice e)=>if Hq x y then(P.info? e).bind λi=>(jO P e).bind λz=>if i.size≠0/\z.length=i.size then(bz x).map (.mslice i.size i.bytes z)else none else none
  |_=>none
 |.makeMap t none=>if sY P t then some .mkset else none
 |.lookup t x i false=>if sY P t then(bz x).bind λa=>(bz i).map λb=>.lkset a b else none
 |.mapUpdate t m k v=>if sY P t=true/\IM v=true then(bz m).bind λa=>(bz k).map λb=>.upset a b else none
 |.call c=>mF P c
 |_=>none
def sK(ops:Array Oper):Option (Nat×Bool)->Option (Option (Nat×Bool))
 |none=>some none
 |some (j,b)=>((ops[j]?).bind (·.dst)).map λd=>some (d,b)
def u9(d:Nat):Operand->Bool
 |.tmp t=>t==d
 |_=>false
def zS(d:Nat):Op->Bool
 |.call c=>match c.callee with
  |.builtin .append=>(c.args.toList.drop 1).any (u9 d)
  |.value (.func _)=>c.args.toList.any (u9 d)
  |_=>false
 |.build _ ps=>ps.toList.any λp=>u9 d p.2
 |.buildSlice _ _ ps=>ps.toList.any λp=>u9 d p.2
 |.convert _ _ x=>u9 d x
 |.indexAddr _ x _=>u9 d x
 |_=>false
def Ug(ops:Array Oper)(o:Oper):Bool:=
 match o.dst with
 |some d=>ops.toList.any λq=>zS d q.op
 |none=>false
def wb(P:Program)(a:Bool)(o:Op):Option cH:=
 match o,a with
 |.buildSlice t len parts,true=>match P.underlying t with
  |some (.slice e)=>(dW P e).bind λn=>(jO P e).bind λz=>(pz parts.toList).bind λps=>
   if n≠0/\z.length=n/\len*n<=2^24 then some (.bsliceT e n len z ps)else none
  |_=>none
 |o,_=>cZ P o
def vY(P:Program)(nt:Nat)(ops:Array Oper)(o:Oper):Option bX:=
 (wb P (Ug ops o) o.op).bind λp=>(sK ops o.guard).bind λg=>
  match o.dst with
  |none=>some ⟨none,p,g⟩
  |some d=>if d<nt then some ⟨some d,p,g⟩else none
def gI(P:Program)(nt:Nat)(ops:Array Oper):List Oper->Option (List bX)
 |[]=>some []
 |o::r=>(vY P nt ops o).bind λa=>(gI P nt ops r).map (a::·)
inductive dq where
 |skip
 |region (ops:List bX)
 |om (ops:List bX)(eL:List (Nat×Nat))
 |seq (a b:dq)
 |cond (c:aO)(x y:dq)
 |block (id:Nat)(b:dq)
 |loop (b:dq)
 |exit (id:Nat)
 |ret
def cH.neutral:cH->Bool
 |.alloc _|.allocA _|.box _|.bslice .. |.mslice .. |.store .. |.append .. |.call .. |.h6 .. |.eqNil .. =>false
 |.allocS .. |.mkset|.upset .. |.appendB .. |.ustr .. =>false
 |_=>true
def cH.hU:cH->Bool
 |.alloc _|.allocA _|.b2s _|.box _|.bslice .. |.mslice .. |.store .. |.append .. |.load .. =>true
 |.allocS .. |.mkset|.lkset .. |.upset .. |.appendB .. |.ustr .. |.call .. =>true
 |_=>false
def cH.drawn:cH->Bool
 |.eqNil .. =>false
 |_=>true
def aO.tmps:aO->aY
 |.tmp t=>[t]
 |.const _=>[]
def tI:Option aO->aY
 |none=>[]
 |some x=>x.tmps
def cH.reads:cH->aY
 |.mov x=>x.tmps
 |.pick c x y=>c.tmps++x.tmps++y.tmps
 |.alloc _|.allocA _=>[]
 |.box x=>x.tmps
 |.build _ ps=>ps.flatMap λp=>p.2.2.tmps
 |.bslice _ _ _ ps=>ps.flatMap λp=>p.2.tmps
 |.load _ _ x=>x.tmps
 |.store _ x v=>x.tmps++v.tmps
 |.nilCheck x=>x.tmps
 |.bin _ x y=>x.tmps++y.tmps
 |.eqAgg _ _ x y=>x.tmps++y.tmps
 |.eqBool _ x y=>x.tmps++y.tmps
 |.eqNil _ x=>x.tmps
 |.not x=>x.tmps
 |.conv _ x=>x.tmps
 |.i2s x=>x.tmps
 |.s2s x=>x.tmps
 |.fldA _ x=>x.tmps
 |.fld _ _ _ x=>x.tmps
 |.idxA _ x i=>x.tmps++i.tmps
 |.idxS x i=>x.tmps++i.tmps
 |.slcS x e a=>x.tmps++tI e++tI a
 |.slc _ x e a=>x.tmps++tI e++tI a
 |.slc0 x=>x.tmps
 |.b2s x=>x.tmps
 |.allocS .. |.mkset=>[]
 |.bsliceT _ _ _ _ ps=>ps.flatMap λp=>p.2.tmps
 |.lkset x k=>x.tmps++k.tmps
 |.upset x k=>x.tmps++k.tmps
 |.appendB _ _ x y=>x.tmps++y.tmps
 |.sdata x=>x.tmps
 |.ustr _ x k=>x.tmps++k.tmps
 |.idxP _ x i=>x.tmps++i.tmps
 |.idxV _ x i=>x.tmps++i.tmps
 |.mslice _ _ _ x=>x.tmps
 |.slcP _ x e a=>x.tmps++tI e++tI a
 |.mkfn _ caps=>caps.flatMap aO.tmps
 |.ext x _=>x.tmps
 |.len _ x=>x.tmps
 |.append _ _ _ x y=>x.tmps++y.tmps
 |.max2 x y=>x.tmps++y.tmps
 |.min2 x y=>x.tmps++y.tmps
 |.call _ args=>args.flatMap aO.tmps
 |.h6 x args=>x.tmps++args.flatMap aO.tmps
def bX.rd(o:bX):aY:=o.op.reads++(match o.guard with|none=>[]|some (t,_)=>[t])
def hf(o:Oper):aY:=(o.after.toList.filter (Region.binds .any)).map (·.on)
def ahead(l:List (bX×aY))(j i:Nat):Bool:=decide (j<i)&&((l[i]?).map λx=>x.2.contains j).getD false
def Ec:Nat->List (bX×aY)->Bool
 |_,[]=>true
 |i,x::r=>x.2.all (· < i)&&Ec (i+1) r
def Rf(l:List (bX×aY)):Bool:=
 l.zipIdx.all λx=>l.zipIdx.all λy=>
  match y.1.1.dst with
  |none=>true
  |some d=>(!(x.1.1.rd.contains d)||ahead l y.2 x.2||(x.1.1.op.neutral && !x.1.1.op.hU&&ahead l x.2 y.2))&&(x.2==y.2 || !(x.1.1.dst==some d))
def ny:List (bX×aY)->List aY->List aY
 |[],acc=>acc
 |x::r,acc=>ny r (acc++[(x.2++x.2.flatMap λe=>acc.getD e []).eraseDups])
def n'(a:List aY)(j i:Nat):Bool:=decide (j<i)&&(a.getD i []).contains j
def FQ(a:List aY)(l:List (bX×aY)):List (Nat×Nat):=
 l.zipIdx.flatMap λx=>if x.1.1.op.neutral then[]else l.zipIdx.filterMap λy=>
  if y.1.1.op.hU && !(x.2==y.2) && !(n' a x.2 y.2) && !(n' a y.2 x.2)then some (x.2,y.2)else none
def ll(l:List (bX×aY)):List (Nat×Nat):=FQ (ny l []) l
def E1(l:List (bX×aY)):Bool:=(List.range (l.length-1)).all λi=>l.zipIdx.any λy=>decide (i<y.2)&&y.1.2.contains i
def tz(l:List (bX×aY)):Bool:=Ec 0 l&&Rf l&&l.all λx=>x.1.op.drawn
def sa(l:List (bX×aY)):List (Nat×Nat):=
 if decide (2<=l.length)&&E1 l&&tz l.dropLast then(l.length,0)::(ll l++ll l.dropLast)else ll l
def fg(ops:Array Oper)(aZ:List bX):List (bX×aY):=aZ.zip (ops.toList.map hf)
def resolve(P:Program)(nt:Nat):Code->Option dq
 |.skip=>some .skip
 |.region _ ops d=>(gI P nt ops ops.toList).bind λaZ=>
  if d then(if tz (fg ops aZ)&&P.follows .mixedOrders then some (.om aZ (sa (fg ops aZ)))else none)else some (.region aZ)
 |.seq a b=>(resolve P nt a).bind λx=>(resolve P nt b).map λy=>.seq x y
 |.cond c a b=>(bz c).bind λo=>(resolve P nt a).bind λx=>(resolve P nt b).map λy=>.cond o x y
 |.block id b=>(resolve P nt b).map (.block id)
 |.loop b=>(resolve P nt b).map .loop
 |.exit id=>some (.exit id)
 |.ret=>some .ret
 |_=>none
abbrev Env:=List (Nat×Bool×V)
abbrev a6:=List (Nat×bJ)
def look:Env->Nat->Option (Bool×V)
 |[],_=>none
 |(k,x)::r,i=>if k=i then some x else look r i
def aR:a6->Nat->Option bJ
 |[],_=>none
 |(k,x)::r,i=>if k=i then some x else aR r i
def cW:a6->Nat->bJ->a6
 |[],b,x=>[(b,x)]
 |(k,y)::r,b,x=>if k=b then(k,x)::r else(k,y)::cW r b x
def gU:a6->Nat->a6
 |[],_=>[]
 |(k,y)::r,b=>if k=b then gU r b else(k,y)::gU r b
theorem cS(J:a6)(b:Nat)(x:bJ)(i:Nat):aR (cW J b x) i=if b=i then some x else aR J i:=by
 induction J with
 |nil=>rfl
 |cons y r ih=>
  obtain⟨k,y⟩:=y;by_cases a:k=b
  . grind[cW,aR]
  . simp[cW,ao a,aR];grind
theorem e4(J:a6)(b:Nat)(i:Nat):aR (gU J b) i=if b=i then none else aR J i:=by
 induction J with
 |nil=>simp[gU,aR]
 |cons y r ih=>
  obtain⟨k,y⟩:=y;by_cases a:k=b
  . grind[gU,aR]
  . simp[gU,ao a,aR];grind
def aO.get(env:Env):aO->Option (Prop×V)
 |.const v=>some (True,v)
 |.tmp t=>(look env t).map λx=>(x.1=true,x.2)
def hF(env:Env):List aO->Option (Prop×List V)
 |[]=>some (True,[])
 |x::xs=>(x.get env).bind λa=>(hF env xs).map λb=>(a.1/\b.1,a.2::b.2)
def jE(env:Env):Option aO->Option (Prop×Option Int)
 |none=>some (True,none)
 |some x=>(x.get env).bind λa=>match a.2 with
  |.c (.t (.int _ n))=>some (a.1,some n)
  |_=>none
def pI:V->Option (List C)
 |.c x=>some [x]
 |.agg cs=>some cs
 |.aX _=>none
def toT:C->Option T
 |.t x=>some x
 |.bD=>some (.slice [])
 |_=>none
def toTs:List C->Option (List T)
 |[]=>some []
 |c::cs=>(toT c).bind λt=>(toTs cs).map (t::·)
def el(es:List (List T))(i:Nat):List T:=es.getD i []
def sn(a:List C)(off:Nat)(cs:List C):List C:=a.take off++cs++a.drop (off+cs.length)
def ln(env:Env):List C->List (Nat×Nat×aO)->Option (Prop×List C)
 |c,[]=>some (True,c)
 |c,(off,n,x):: r=>(x.get env).bind λa=>(pI a.2).bind λcs=>
  if cs.length=n/\off+n<=c.length then(ln env (sn c off cs) r).map λb=>(a.1/\b.1,b.2)else none
def jw(env:Env)(sz:Nat):List (List T)->List (Nat×aO)->Option (Prop×List (List T))
 |es,[]=>some (True,es)
 |es,(i,x):: r=>(x.get env).bind λa=>(pI a.2).bind λcs=>(toTs cs).bind λts=>
  if ts.length=sz/\i<es.length then(jw env sz (es.set i ts) r).map λb=>(a.1/\b.1,b.2)else none
def p9:BinOp->T->T->Option (Prop×T)
 |.add,.int k a,.int c b=>if k=c then some (True,.int k (k.wrap (a+b)))else none
 |.sub,.int k a,.int c b=>if k=c then some (True,.int k (k.wrap (a-b)))else none
 |.mul,.int k a,.int c b=>if k=c then some (True,.int k (k.wrap (a*b)))else none
 |.quo,.int k a,.int c b=>if k=c then some (b≠0,.int k (k.wrap (a.tdiv b)))else none
 |.rem,.int k a,.int c b=>if k=c then some (b≠0,.int k (a.tmod b))else none
 |.and,.int k a,.int c b=>if k=c then some (True,.int k (k.wrap (BitVec.ofInt k.bits a &&& BitVec.ofInt k.bits b).toNat))else none
 |.or,.int k a,.int c b=>if k=c then some (True,.int k (k.wrap (BitVec.ofInt k.bits a ||| BitVec.ofInt k.bits b).toNat))else none
 |.xor,.int k a,.int c b=>if k=c then some (True,.int k (k.wrap (BitVec.ofInt k.bits a ^^^ BitVec.ofInt k.bits b).toNat))else none
 |.andNot,.int k a,.int c b=>if k=c then some (True,.int k (k.wrap (BitVec.ofInt k.bits a &&& ~~~ BitVec.ofInt k.bits b).toNat))else none
 |.shl,.int k a,.int _ b=>some (0<=b,.int k (k.wrap (a*2^min b.toNat k.bits)))
 |.shr,.int k a,.int _ b=>some (0<=b,.int k (a.fdiv (2^min b.toNat k.bits)))
 |.eql,.int k a,.int c b=>if k=c then some (True,.bool (decide (a=b)))else none
 |.neq,.int k a,.int c b=>if k=c then some (True,.bool (!decide (a=b)))else none
 |.lss,.int k a,.int c b=>if k=c then some (True,.bool (decide (a<b)))else none
 |.leq,.int k a,.int c b=>if k=c then some (True,.bool (decide (a<=b)))else none
 |.gtr,.int k a,.int c b=>if k=c then some (True,.bool (decide (b<a)))else none
 |.geq,.int k a,.int c b=>if k=c then some (True,.bool (decide (b<=a)))else none
 |.add,.str a,.str b=>some (a.length+b.length<=ft,.str (a++b))
 |.eql,.str a,.str b=>some (True,.bool (decide (a=b)))
 |.neq,.str a,.str b=>some (True,.bool (!decide (a=b)))
 |.lss,.str a,.str b=>some (True,.bool (Op.bytesLess a b))
 |.leq,.str a,.str b=>some (True,.bool (Op.bytesLess a b||decide (a=b)))
 |.gtr,.str a,.str b=>some (True,.bool (!(Op.bytesLess a b||decide (a=b))))
 |.geq,.str a,.str b=>some (True,.bool (!(Op.bytesLess a b)))
 |_,_,_=>none
def xR:Nat->T->T->Option Bool
 |0,.bool a,.bool b=>some (a==b)
 |1,.int k a,.int c b=>if k=c then some (decide (a=b))else none
 |2,.str a,.str b=>some (decide (a=b))
 |_,_,_=>none
def lr:aY->List C->List C->Option Bool
 |[],[],[]=>some true
 |k::ks,.t x::xs,.t y::a=>(xR k x y).bind λb=>(lr ks xs a).map λr=>b&&r
 |_,_,_=>none
abbrev AA:=Option (Prop×V×a6)
def loadT(agg:Bool)(n:Nat)(ts:List T)(o:Nat):Option V:=
 if agg then(if o+n<=ts.length then some (.agg (((ts.drop o).take n).map .t))else none)else(ts[o]?).map λt=>.c (.t t)
def jd(agg:Bool)(n:Nat)(cs:List C)(o:Nat):Option V:=
 if agg then(if o+n<=cs.length then some (.agg ((cs.drop o).take n))else none)else(cs[o]?).map .c
def gJ:Nat:=281474976710656
def jx(n bytes:Nat):Prop:=(2*n+192)*bytes<=gJ\/(n+n/4+512)*bytes<=gJ
def lG(J:a6):V->Option (List (List T)×Option Nat)
 |.c (.t (.slice a))=>some (a,none)
 |.c .bD=>some ([],none)
 |.c (.arr b d off len)=>match aR J b with
  |some (.arr e a)=>if d=e/\off=0/\len=a.length then some (a,some b)else none
  |_=>none
 |_=>none
def bytesOf:List (List T)->Option ar
 |[]=>some []
 |[.int .u8 m]::r=>(bytesOf r).map λs=>UInt8.ofNat m.toNat::s
 |_=>none
def nv(J:a6):V->Option (Prop×ar)
 |.c (.t (.slice es))=>(bytesOf es).map λs=>(True,s)
 |.c .bD=>some (True,[])
 |.c (.arr b 1 off len)=>match aR J b with
  |some (.arr 1 es)=>(bytesOf ((es.drop off).take len)).map λs=>(off+len<=es.length,s)
  |_=>none
 |.c (.fA b 1 off len)=>match aR J b with
  |some (.arr 1 es)=>(bytesOf ((es.drop off).take len)).map λs=>(off+len<=es.length,s)
  |_=>none
 |_=>none
def gu(ks:List ar)(s:ar):Bool:=ks.any λk=>decide (k=s)
def iH(ks:List ar)(s:ar):List ar:=if gu ks s then ks else ks++[s]
def zY:List C->Option C
 |[.arr b sz off len]=>some (.arr b sz off len)
 |_=>none
def mc:V->V->Option (Nat×Nat×Nat×Nat×Nat×Nat×Nat)
 |.c (.arr b sz off len),.c (.fA a f e d)=>if b=a then some (b,sz,off,len,f,e,d)else none
 |_,_=>none
def uC(J:a6)(n sz:Nat)(p q:Prop):Nat×Nat×Nat×Nat×Nat×Nat×Nat->AA
 |(b,s1,off,len,e,d,a)=>match aR J b with
  |some (.arr f es)=>some (p/\q/\s1 = sz/\e = sz/\f = sz/\off = 0/\len+a<=es.length/\d+a<=es.length,
   .c (.arr n sz 0 (len+a)),cW (gU J b) n (.arr sz (es.take len++(es.drop d).take a)))
  |_=>none
def nx:List C->Bool
 |[.bD]=>true
 |_=>false
def aL(o:cH)(env:Env)(J:a6)(n:Nat):AA:=
 match o with
 |.mov x=>(x.get env).map λa=>(a.1,a.2,J)
 |.pick c x y=>(c.get env).bind λc=>(x.get env).bind λx=>(y.get env).bind λy=>
  match c.2,x.2,y.2 with
  |.c (.t (.bool b)),.c (.t (.bool p)),.c (.t (.bool q))=>
   some (c.1/\(b=true->x.1)/\(b=false->y.1),.c (.t (.bool (bif b then p else q))),J)
  |_,_,_=>none
 |.alloc cs=>some (True,.c (.ptr n 0),cW J n (.box cs))
 |.allocA cs=>(toTs cs).map λts=>(True,.c (.ptr n 0),cW J n (.arr 1 (ts.map λt=>[t])))
 |.idxP k x i=>(x.get env).bind λa=>(i.get env).bind λj=>match a.2,j.2 with
  |.c (.ptr b 0),.c (.t (.int _ m))=>some (a.1/\j.1/\0<=m/\m.toNat<k,.c (.cA b 1 m.toNat 0),J)
  |_,_=>none
 |.idxV k x i=>(x.get env).bind λa=>(i.get env).bind λj=>match a.2,j.2 with
  |.agg cs,.c (.t (.int _ m))=>if cs.length=k then some (a.1/\j.1/\0<=m/\m.toNat<k,.c (cs.getD m.toNat .dead),J)else none
  |_,_=>none
 |.mslice sz bytes z x=>(x.get env).bind λa=>(toTs z).bind λF=>match a.2 with
  |.c (.t (.int _ m))=>some (a.1/\0<=m/\m.toNat*bytes<=gJ/\m.toNat<=c1/\(nx z=true->m.toNat≠0),.c (.arr n sz 0 m.toNat),cW J n (if nx z then .box (List.replicate m.toNat .bD)else .arr sz (List.replicate m.toNat F)))
  |_=>none
 |.slcP k x A C=>(x.get env).bind λa=>(jE env A).bind λl=>(jE env C).bind λh=>match a.2 with
  |.c (.ptr b 0)=>
   let e:=h.2.getD k;let c:=l.2.getD 0
   some (a.1/\l.1/\h.1/\0<=c/\c<=e/\e<=k,.c (.fA b 1 c.toNat (e.toNat-c.toNat)),J)
  |_=>none
 |.b2s x=>(x.get env).bind λa=>(nv J a.2).map λr=>(a.1/\r.1,.c (.t (.str r.2)),J)
 |.box x=>(x.get env).bind λa=>(pI a.2).map λcs=>(a.1,.c (.ptr n 0),cW J n (.box cs))
 |.build z parts=>(ln env z parts).map λa=>(a.1,.agg a.2,J)
 |.bslice sz len z parts=>(toTs z).bind λF=>(jw env sz (List.replicate len F) parts).map λa=>
  (a.1,.c (.arr n sz 0 len),cW J n (.arr sz a.2))
 |.load agg k x=>(x.get env).bind λa=>match a.2 with
  |.c (.ptr b o)=>match aR J b with
   |some (.box cs)=>(jd agg k cs o).map λv=>(a.1,v,J)
   |some (.b3 _ c)=>if agg=false/\o=1 then some (a.1,.c c,J)else none
   |_=>none
  |.c (.cA b sz i o)=>match aR J b with
   |some (.arr g es)=>(loadT agg k (el es i) o).map λv=>(a.1/\sz=g/\i<es.length,v,J)
   |some (.box cs)=>(jd agg k cs (i*sz+o)).map λv=>(a.1,v,J)
   |some (.cw g es D E c)=>if agg then none else if o=E then some (a.1/\sz=g/\i=D,.c c,J)else(loadT false k (el es i) o).map λv=>(a.1/\sz=g/\i<es.length,v,J)
   |_=>none
  |.c (.dF ts o)=>(loadT agg k ts o).map λv=>(a.1,v,J)
  |_=>none
 |.store k x v=>(x.get env).bind λa=>(v.get env).bind λd=>(pI d.2).bind λcs=>
  if cs.length=k then match a.2 with
   |.c (.ptr b o)=>match aR J b with
    |some (.box B)=>if o+k<=B.length then some (a.1/\d.1,.aX [],cW J b (.box (sn B o cs)))else none
    |some (.b3 e _)=>match o,cs with
     |1,[c]=>some (a.1/\d.1,.aX [],cW J b (.b3 e c))
     |_,_=>none
    |_=>none
   |.c (.cA b sz i o)=>match aR J b with
    |some (.arr g es)=>match zY cs with
     |some c=>some (a.1/\d.1/\sz=g/\i<es.length/\o+k<=sz,.aX [],cW J b (.cw g es i o c))
     |none=>(toTs cs).bind λts=>
      some (a.1/\d.1/\sz=g/\i<es.length/\o+k<=sz,.aX [],
       cW J b (.arr g (es.set i ((el es i).take o++ts++(el es i).drop (o+k)))))
    |some (.box B)=>if i*sz+o+k<=B.length then some (a.1/\d.1,.aX [],cW J b (.box (sn B (i*sz+o) cs)))else none
    |some (.cw g es D E H)=>match cs with
     |[c]=>if o=E then some (a.1/\d.1/\sz=g/\i=D,.aX [],cW J b (.cw g es D E c))
      else(toT c).bind λt=>some (a.1/\d.1/\sz=g/\i<es.length/\o+k<=sz,.aX [],
       cW J b (.cw g (es.set i ((el es i).take o++[t]++(el es i).drop (o+k))) D E H))
     |_=>none
    |_=>none
   |_=>none
  else none
 |.nilCheck x=>(x.get env).bind λa=>match a.2 with
  |.c (.ptr ..)|.c (.cA ..)|.c (.dF ..)=>some (a.1,a.2,J)
  |_=>none
 |.bin op x y=>(x.get env).bind λa=>(y.get env).bind λb=>match a.2,b.2 with
  |.c (.t p),.c (.t q)=>(p9 op p q).map λr=>(a.1/\b.1/\r.1,.c (.t r.2),J)
  |_,_=>none
 |.eqAgg neg ks x y=>(x.get env).bind λa=>(y.get env).bind λb=>match a.2,b.2 with
  |.agg p,.agg q=>(lr ks p q).map λr=>(a.1/\b.1,.c (.t (.bool (if neg then !r else r))),J)
  |_,_=>none
 |.eqBool neg x y=>(x.get env).bind λa=>(y.get env).bind λb=>match a.2,b.2 with
  |.c (.t (.bool p)),.c (.t (.bool q))=>some (a.1/\b.1,.c (.t (.bool (if neg then !(p==q)else(p==q)))),J)
  |_,_=>none
 |.not x=>(x.get env).bind λa=>match a.2 with
  |.c (.t (.bool b))=>some (a.1,.c (.t (.bool (!b))),J)
  |_=>none
 |.conv k x=>(x.get env).bind λa=>match a.2 with
  |.c (.t (.int _ m))=>some (a.1,.c (.t (.int k (k.wrap m))),J)
  |_=>none
 |.i2s x=>(x.get env).bind λa=>match a.2 with
  |.c (.t (.int _ m))=>some (a.1,.c (.t (.str (Utf8.encode m).data.toList)),J)
  |_=>none
 |.s2s x=>(x.get env).bind λa=>match a.2 with
  |.c (.t (.str s))=>some (a.1,.c (.t (.str s)),J)
  |_=>none
 |.fldA off x=>(x.get env).bind λa=>match a.2 with
  |.c (.ptr b o)=>some (a.1,.c (.ptr b (o+off)),J)
  |.c (.cA b sz i o)=>some (a.1,.c (.cA b sz i (o+off)),J)
  |.c (.dF ts o)=>some (a.1,.c (.dF ts (o+off)),J)
  |_=>none
 |.fld agg off k x=>(x.get env).bind λa=>match a.2 with
  |.agg cs=>(jd agg k cs off).map λv=>(a.1,v,J)
  |_=>none
 |.idxA sz x i=>(x.get env).bind λa=>(i.get env).bind λj=>match a.2,j.2 with
  |.c (.t (.slice es)),.c (.t (.int _ m))=>some (a.1/\j.1/\0<=m/\m.toNat<es.length/\(el es m.toNat).length=sz,.c (.dF (el es m.toNat) 0),J)
  |.c (.arr b g off len),.c (.t (.int _ m))=>some (a.1/\j.1/\0<=m/\m.toNat<len/\sz=g,.c (.cA b sz (off+m.toNat) 0),J)
  |_,_=>none
 |.idxS x i=>(x.get env).bind λa=>(i.get env).bind λj=>match a.2,j.2 with
  |.c (.t (.str s)),.c (.t (.int _ m))=>some (a.1/\j.1/\0<=m/\m.toNat<s.length,.c (.t (.int .u8 (s.getD m.toNat 0).toNat)),J)
  |_,_=>none
 |.slcS x A C=>(x.get env).bind λa=>(jE env A).bind λl=>(jE env C).bind λh=>match a.2 with
  |.c (.t (.str s))=>
   let b:=h.2.getD s.length;let c:=l.2.getD 0
   some (a.1/\l.1/\h.1/\0<=c/\c<=b/\b<=s.length,.c (.t (.str ((s.take b.toNat).drop c.toNat))),J)
  |_=>none
 |.slc sz x A C=>(x.get env).bind λa=>(jE env A).bind λl=>(jE env C).bind λh=>match a.2 with
  |.c (.t (.slice es))=>
   let b:=h.2.getD es.length;let c:=l.2.getD 0
   some (a.1/\l.1/\h.1/\0<=c/\c<=b/\b<=es.length/\(∀e,e∈es->e.length=sz),.c (.t (.slice ((es.take b.toNat).drop c.toNat))),J)
  |.c (.arr b g off len)=>
   some (a.1/\l.1/\h.1/\0<=l.2.getD 0/\l.2.getD 0<=h.2.getD len/\h.2.getD len<=len/\sz=g,
    .c (if A.isNone then .arr b g off (h.2.getD len).toNat else .fA b g (off+(l.2.getD 0).toNat) ((h.2.getD len).toNat-(l.2.getD 0).toNat)),J)
  |_=>none
 |.slc0 x=>(x.get env).bind λa=>match a.2 with
  |.c (.t (.slice _))|.c .bD|.c (.arr ..)=>some (a.1,.c .bD,J)
  |_=>none
 |.mkfn f caps=>(hF env caps).bind λa=>match r9 a.2 with
  |some l=>some (a.1,.c (.fn f l),J)
  |none=>none
 |.ext x i=>(x.get env).bind λa=>match a.2 with
  |.aX vs=>(vs[i]?).map λv=>(a.1,v,J)
  |_=>none
 |.len str x=>(x.get env).bind λa=>match str,a.2 with
  |false,.c (.t (.slice es))=>some (a.1,.c (.t (.int .i64 es.length)),J)
  |false,.c (.arr _ _ _ l)=>some (a.1,.c (.t (.int .i64 l)),J)
  |false,.c .bD=>some (a.1,.c (.t (.int .i64 0)),J)
  |false,.c (.cr _ l)=>some (a.1,.c (.t (.int .i64 l)),J)
  |true,.c (.t (.str s))=>some (a.1,.c (.t (.int .i64 s.length)),J)
  |_,_=>none
 |.append te sz bytes x y=>(x.get env).bind λa=>(y.get env).bind λd=>
  match mc a.2 d.2 with
  |some r=>uC J n sz a.1 d.1 r
  |none=>
  (lG J d.2).bind λu=>
  match a.2 with
  |.c .bD=>some (a.1/\d.1/\(∀ e,e∈u.1->e.length = sz)/\jx u.1.length bytes/\u.1.length<=c1,
   .c (.arr n sz 0 u.1.length),cW J n (.arr sz u.1))
  |.c (.arr b g off len)=>match aR J b with
   |some (.arr I es)=>
    if u.2=some b then none else some (a.1/\d.1/\g=sz/\I=sz/\off=0/\len=es.length/\(∀e,e∈u.1->e.length=sz)/\jx (es.length+u.1.length) bytes/\es.length+u.1.length<=c1,
     .c (.arr n sz 0 (len+u.1.length)),cW (gU J b) n (.arr sz (es++u.1)))
   |_=>none
  |.c (.cr b len)=>match aR J b with
   |some (.buf w es)=>(bytesOf u.1).map λs=>
    (a.1/\d.1/\w=te/\sz=1/\len=es.length/\u.1=s.map (λc=>[.int .u8 c.toNat])/\jx (es.length+s.length) bytes/\es.length+s.length<=c1,
     .c (.cr n (len+s.length)),cW (gU J b) n (.buf w (es++s)))
   |_=>none
  |_=>none
 |.max2 x y=>(x.get env).bind λa=>(y.get env).bind λb=>match a.2,b.2 with
  |.c (.t (.int k p)),.c (.t (.int G q))=>if k=G then some (a.1/\b.1,.c (.t (.int k (max p q))),J)else none
  |_,_=>none
 |.min2 x y=>(x.get env).bind λa=>(y.get env).bind λb=>match a.2,b.2 with
  |.c (.t (.int k p)),.c (.t (.int G q))=>if k=G then some (a.1/\b.1,.c (.t (.int k (min p q))),J)else none
  |_,_=>none
 |.allocS e e8=>some (True,.c (.ptr n 0),cW (cW J (n+1) (.buf e8 [])) n (.b3 e (.cr (n+1) 0)))
 |.bsliceT _ sz len z parts=>(toTs z).bind λF=>(jw env sz (List.replicate len F) parts).map λa=>(a.1,.c (.t (.slice a.2)),J)
 |.mkset=>some (True,.c (.mp n),cW J n (.set []))
 |.lkset x k=>(x.get env).bind λa=>(k.get env).bind λd=>match a.2,d.2 with
  |.c (.mp b),.c (.t (.str s))=>match aR J b with
   |some (.set ks)=>some (a.1/\d.1,.c (.t (.bool (gu ks s))),J)
   |_=>none
  |_,_=>none
 |.upset x k=>(x.get env).bind λa=>(k.get env).bind λd=>match a.2,d.2 with
  |.c (.mp b),.c (.t (.str s))=>match aR J b with
   |some (.set ks)=>some (a.1/\d.1,.aX [],cW J b (.set (iH ks s)))
   |_=>none
  |_,_=>none
 |.appendB e bytes x y=>(x.get env).bind λa=>(y.get env).bind λd=>match a.2,d.2 with
  |.c (.cr b len),.c (.t (.str s))=>match aR J b with
   |some (.buf w es)=>
    some (a.1/\d.1/\w=e/\len=es.length/\jx (es.length+s.length) bytes/\es.length+s.length<=c1,
     .c (.cr n (len+s.length)),cW (gU J b) n (.buf e (es++s)))
   |_=>none
  |_,_=>none
 |.sdata x=>(x.get env).bind λa=>match a.2 with
  |.c (.cr b _)=>some (a.1,.c (.ei b),J)
  |_=>none
 |.ustr e x k=>(x.get env).bind λa=>(k.get env).bind λd=>match a.2,d.2 with
  |.c (.ei b),.c (.t (.int .i64 m))=>match aR J b with
   |some (.buf w es)=>some (a.1/\d.1/\w=e/\m=es.length,.c (.t (.str es)),gU J b)
   |_=>none
  |_,_=>none
 |.eqNil .. |.call .. |.h6 .. =>none
where r9:List V->Option aY
 |[]=>some []
 |.c (.ptr b 0)::r=>(r9 r).map (b::·)
 |_=>none
def Ai(ks:List ar)(es:List MapEntry):Prop:=aV (λk e=>e.key= .string ⟨k.toArray⟩/\e.val= .bool true) ks es
def cQ(φ:cU)(w:World)(S:cR)(b:Nat):bJ->Prop
 |.box cs=>(φ b).2≠0/\∃(vs:List Value) (E:TypeId),w.heap[(φ b).1]?=some (.cells vs.toArray E (0,0))/\aV (bk φ w S) cs vs/\∀j,¬S (φ b).1 j
 |.arr sz es=>es.length<=(φ b).2/\es.length<=c1/\(∀ e,e∈es->e.length = sz)/\0<sz/\
  ((φ b).2≠0->∃(vs:List Value) (E:TypeId),w.heap[(φ b).1]?=some (.cells vs.toArray E (0,0))/\vs.length=(φ b).2*sz/\
   (∀(i j:Nat) e t,es[i]?=some e->e[j]?=some t->∃v,vs[i*sz+j]?=some v/\bK w S t v)/\∀j,¬S (φ b).1 j)
 |.set ks=>(φ b).2≠0/\(∃(es:List MapEntry) (d:Nat),w.heap[(φ b).1]?=some (.map es.toArray d)/\Ai ks es)/\∀j,¬S (φ b).1 j
 |.buf E s=>s.length<=(φ b).2/\s.length<=c1/\
  ((φ b).2≠0->(∃vs:List Value,w.heap[(φ b).1]?=some (.cells vs.toArray E (0,0))/\vs.length=(φ b).2/\
   ∀(i:Nat) c,s[i]?=some c->vs[i]?=some (.int .u8 (UInt8.toNat c)))/\∀j,¬S (φ b).1 j)
 |.b3 E c=>(φ b).2≠0/\(∃p v:Value,w.heap[(φ b).1]?=some (.cells #[p,v] E (0,0))/\(p= .pointer none\/p= .pointer (some ⟨(φ b).1,0,none⟩))/\bk φ w S c v)/\∀j,¬S (φ b).1 j
 |.cw sz es i o c=>(es.length<=(φ b).2/\es.length<=c1/\(∀ e,e∈es->e.length = sz)/\0<sz/\i<es.length/\o<sz)/\
  (∃(vs:List Value) (E:TypeId),w.heap[(φ b).1]?=some (.cells vs.toArray E (0,0))/\vs.length=(φ b).2*sz/\
   (∀(a j:Nat) e t,es[a]?=some e->e[j]?=some t->¬(a=i/\j=o)->∃v,vs[a*sz+j]?=some v/\bK w S t v)/\∃v,vs[i*sz+o]?=some v/\bk φ w S c v)/\∀j,¬S (φ b).1 j
structure oJ (φ:cU)(w:World)(S:cR)(J:a6):Prop where
 blk:∀b x,aR J b=some x->cQ φ w S b x
 inj:∀b AQ x y,aR J b=some x->aR J AQ=some y->b≠AQ->(φ b).2≠0->(φ AQ).2≠0->(φ b).1≠(φ AQ).1
 st:∀b j,S b j->b<w.heap.size
structure Ext (B:Nat->Prop)(S ba:cR)(w w':World):Prop where
 os:w'.os=w.os
 tape:w'.tape=w.tape
 output:w'.output=w.output
 size:w.heap.size<=w'.heap.size
 block:∀b:Nat,b<w.heap.size->¬B b->w'.heap[b]?=w.heap[b]?
 mono:fY w S w' ba
 kH:∀b j,ba b j->S b j\/B b\/w.heap.size<=b
def bJ.az(n:Nat->Bool):bJ->Bool
 |.box cs=>cs.all (C.az n)
 |.arr _ _=>true
 |.set _=>true
 |.buf _ _=>true
 |.b3 _ c=>c.az n
 |.cw _ _ _ _ c=>c.az n
def ins(n:Nat->Bool)(k:Nat):Nat->Bool:=λb=>n b||b==k
structure Ctx where
 iU:World
 p6:cR
 B:Nat->Prop
 Uh:cU
 k:Nat
structure Rel (av:Ctx)(nt:Nat)(φ:cU)(S:cR)(env:Env)(J:a6)(n:Nat->Bool)(a:Act)(w:World):Prop where
 bB:oJ φ w S J
 fP:∀(k:Nat) g v,look env k=some (g,v)->g=true->∃x,a.tmps[k]?=some x/\bS φ w S v x
 gN:∀(k:Nat) g v,look env k=some (g,v)->g=false->a.tmps[k]?=some undef
 fO:∀(k:Nat) g v,look env k=some (g,v)->g=true->v.az n=true
 dp:∀(b:Nat) x,aR J b=some x->n b=true/\x.az n=true
 size:a.tmps.size=nt
 defers:a.defers=[]
 ext:Ext av.B av.p6 S av.iU w
 own:∀(b:Nat) x,aR J b=some x->(φ b).2≠0->av.B (φ b).1\/av.iU.heap.size<=(φ b).1
 fix:∀b:Nat,b<av.k->φ b=av.Uh b
 gb:∀b:Nat,b<av.k->n b=true
variable{cT:Nat->Bool}{c:C}{v:Value}{x y:Operand}{p:Prop}{cs:List C}{o:Oper}{yt e E:TypeId}{fs:Array Field}{f off:Nat}{vs xs:List Value}{ts:List T}{w w':World}{agg:Bool}{es:List (List T)}{j:Option Operand}{a8:cU}{J':a6}{q:Nat×Nat}{α:Type}{place:Nat->Option (Nat×Nat)}{R:T->Value->Prop}
section
variable {P:Program}{av:Ctx}{nt:Nat}{φ:cU}{S:cR}{env:Env}{J:a6}{n:Nat->Bool}{key:Nat}{a:Act}{w:World}
def Good(P:Program)(av:Ctx)(nt:Nat)(env:Env)(J':a6)(cT:Nat->Bool)(a:Act)(v:V)(r:Result Next):Prop:=
 ∃x a8 ba w',(r= .ok (.value x) w'\/(r= .ok .skip w'/\x=undef))/\bS a8 w' ba v x/\v.az cT=true/\Rel av nt a8 ba env J' cT a w'
theorem aaR{n:Nat->Bool}{k:Nat}:ins n k k=true:=by simp[ins]
theorem jW{n:Nat->Bool}{k b:Nat}(h:n b=true):ins n k b=true:=by grind[ins]
theorem C.hh{n:Nat->Bool}(h:∀b,n b=true->cT b=true)(a:c.az n=true):c.az cT=true:=by
 cases c<;>simp[C.az]at*<;>first|exact h _ a|exactλb e=>h b (a b e)
theorem sM{n:Nat->Bool}:∀{vs:List V},(∀(i:Nat) v,vs[i]?=some v->v.az n=true)->V.az.V.dj n vs=true
 |[],_=>rfl
 |v::vs,h=>by
  simp[V.az.V.dj];exact⟨h 0 v rfl,sM λi v a=>h (i+1) v a⟩
theorem V.hh{n cT:Nat->Bool}(h:∀b,n b=true->cT b=true):∀{v:V},v.az n=true->v.az cT=true
 |.c x,a=>by grind[V.az,C.hh]
 |.agg cs,a=>by
  grind[V.az,C.hh]
 |.aX vs,a=>by
  exact go vs a
where go:∀vs,V.az.V.dj n vs=true->V.az.V.dj cT vs=true
 |[],_=>rfl
 |v::vs,a=>by
  simp[V.az.V.dj]at a⊢;exact⟨V.hh h a.1,go vs a.2⟩
theorem bJ.hh{n:Nat->Bool}(h:∀b,n b=true->cT b=true){x:bJ}(I:x.az n=true):x.az cT=true:=by
 cases x with
 |box cs=>
  grind[bJ.az,C.hh]
 |arr=>rfl
 |set=>rfl
 |buf=>rfl
 |b3 E c=>grind[bJ.az,C.hh]
 |cw sz es i o c=>grind[bJ.az,C.hh]
theorem Rel.more(R:Rel av nt φ S env J n a w)(h:∀b,n b=true->cT b=true):Rel av nt φ S env J cT a w:=
 ⟨R.bB,R.fP,R.gN,λk g v ae al=>V.hh h (R.fO k g v ae al),λb x I=>⟨h b (R.dp b x I).1,bJ.hh h (R.dp b x I).2⟩,R.size,R.defers,R.ext,R.own,R.fix,λb c=>h b (R.gb b c)⟩
theorem Good.pure(R:Rel av nt φ S env J n a w){v:V}{x:Value}{r:Result Next}(e:r= .ok (.value x) w)(f:bS φ w S v x)(c:v.az n=true):
 Good P av nt env J (ins n key) a v r:=⟨x,φ,S,w,.inl e,f,V.hh (λ_ h=>jW h) c,R.more λ_ h=>jW h⟩
theorem SC(h:CQ v=some c):bk φ w S c v/\c.az n=true:=by
 unfold CQ at h;split at h<;>simp at h
 . subst h;exact⟨.bool _,rfl⟩
 . subst h;exact⟨.int _ _,rfl⟩
 . obtain⟨hs,rfl⟩:=h;exact⟨.str _ hs,rfl⟩
 . subst h;exact⟨⟨_,rfl⟩,rfl⟩
 . subst h;exact⟨rfl,rfl⟩
 . subst h;exact⟨rfl,rfl⟩
 . subst h;exact⟨rfl,rfl⟩
theorem HK:∀{vs:List Value} {cs:List C},vu vs=some cs->aV (bk φ w S) cs vs/\cs.all (C.az n)=true
 |[],cs,h=>by simp[vu]at h;subst h;exact⟨.nil,rfl⟩
 |v::vs,cs,h=>by
  simp[vu,bf,bn]at h;obtain⟨c,b,e,d,rfl⟩:=h;have h1:=SC (φ:=φ) (w:=w) (S:=S) (n:=n) b;have a:=HK d;exact⟨.cons h1.1 a.1,by grind⟩
theorem XU{a:V}(h:Ke v=some a):bS φ w S a v/\a.az n=true:=by
 unfold Ke at h;split at h
 . simp at h;obtain⟨l,ae,rfl⟩:=h;have:=HK (φ:=φ) (w:=w) (S:=S) (n:=n) ae;refine⟨?_,by grind[V.az]⟩;have e:=bS.agg this.1;omega
 . simp at h;obtain⟨l,ae,rfl⟩:=h;have:=SC (φ:=φ) (w:=w) (S:=S) (n:=n) ae;exact⟨.c this.1,by grind[V.az]⟩
theorem cc(R:Rel av nt φ S env J n a w){b:aO}(I:bz x=some b){v:V}(h:b.get env=some (p,v))(ai:p):
 bS φ w S v (a.eval x)/\v.az n=true:=by
 cases x with
 |tmp t=>
  simp[bz]at I;subst I;simp only[aO.get,bn]at h;obtain⟨⟨g,d⟩,ae,he⟩:=h;obtain⟨rfl,rfl⟩:=he;obtain⟨y,ag,i⟩:=R.fP t g d ae ai;refine⟨?_,R.fO t g d ae ai⟩;simp_all[Act.eval]
 |const c=>
  simp[bz]at I;obtain⟨e,hS,rfl⟩:=I;obtain⟨_,rfl⟩:=h;exact XU hS
 |global g=>
  simp[bz]at I;subst I;obtain⟨_,rfl⟩:=h;exact⟨.c (by rfl),by rfl⟩
 |func f=>
  simp[bz]at I;subst I;obtain⟨_,rfl⟩:=h;exact⟨.c (by rfl),by rfl⟩
theorem qH(R:Rel av nt φ S env J n a w):∀{xs:List Operand} {aZ:List aO} (_:nb xs=some aZ) {p:Prop} {vs:List V} (_:hF env aZ=some (p,vs)) (_:p),
 aV (bS φ w S) vs (xs.map a.eval)/\V.az.V.dj n vs=true
 |[],aZ,I,p,vs,h,ai=>by simp[nb]at I;subst I;obtain⟨_,rfl⟩:=h;exact⟨.nil,rfl⟩
 |x::xs,aZ,I,p,vs,h,ai=>by
  simp[nb,bf,bn]at I;obtain⟨g,c,i,d,rfl⟩:=I;simp only[hF,bf,bn]at h;obtain⟨⟨q,v⟩,e,⟨j,k⟩,f,he⟩:=h;obtain⟨rfl,rfl⟩:=he;have h1:=cc R c e ai.1;have b:=qH R d f ai.2;exact⟨.cons h1.1 b.1,by grind[V.az.V.dj]⟩
theorem bS.iZ{b:Bool}{x:Value}(h:bS φ w S (.c (.t (.bool b))) x):x= .bool b:=by cases h with|c h=>cases h;rfl
theorem bS.eT{k:IntKind}{m:Int}{x:Value}(h:bS φ w S (.c (.t (.int k m))) x):x= .int k m:=by cases h with|c h=>cases h;rfl
theorem bS.j6{s:ar}{x:Value}(h:bS φ w S (.c (.t (.str s))) x):∃bs:ByteArray,x= .string bs/\bs.data.toList=s/\bs.size<=ft:=by cases h with|c h=>cases h<;>grind
theorem bS.gT{b o:Nat}{x:Value}(h:bS φ w S (.c (.ptr b o)) x):x= .pointer (some ⟨(φ b).1,o,none⟩):=by cases h with|c h=>exact h
theorem bS.hE{b sz i o:Nat}{x:Value}(h:bS φ w S (.c (.cA b sz i o)) x):x= .pointer (some ⟨(φ b).1,i*sz+o,none⟩):=by cases h with|c h=>exact h
theorem bS.lJ{x:Value}(h:bS φ w S (.agg cs) x):∃vs:List Value,x= .agg vs.toArray/\aV (bk φ w S) cs vs:=by cases h<;>grind
theorem bS.dJ{x:Value}(h:bS φ w S (.c c) x):bk φ w S c x:=by cases h<;>grind
theorem bS.oL(b:Bool):bS φ w S (.c (.t (.bool b))) (.bool b):= .c (.bool b)
theorem bS.mX(k:IntKind)(m:Int):bS φ w S (.c (.t (.int k m))) (.int k m):= .c (.int k m)
theorem KQ(R:Rel av nt φ S env J n a w)(b:o.op= .move x\/o.op= .assign x){c:aO}(I:bz x=some c)
 {p v J'}(e:n key=false)(h:aL (.mov c) env J key=some (p,v,J'))(ai:p):Good P av nt env J' (ins n key) a v ((execOp a.eval o).run P w):=by
 simp only[aL,bn]at h;obtain⟨⟨q,u⟩,d,he⟩:=h;obtain⟨rfl,rfl,rfl⟩:=he;have al:=cc R I d ai;refine Good.pure R ?_ al.1 al.2;rcases b with b|b<;>simp[execOp,b]
theorem Yr(R:Rel av nt φ S env J n a w){c:Operand}(g:o.op= .pick c x y){ac d e:aO}(l:bz c=some ac)(I:bz x=some d)(ag:bz y=some e)
 {p v J'}(s:n key=false)(h:aL (.pick ac d e) env J key=some (p,v,J'))(ai:p):Good P av nt env J' (ins n key) a v ((execOp a.eval o).run P w):=by
 simp only[aL,bf]at h;obtain⟨⟨t,C⟩,m,⟨u,D⟩,q,⟨z,E⟩,r,he⟩:=h;simp at he;split at he
 . rename_i b A B;obtain⟨rfl,rfl,rfl⟩:=he;obtain⟨h1,j,k⟩:=ai;have f:=(cc R l m h1).1.iZ;cases b with
   |true=>
    have ex:=(cc R I q (j rfl)).1.iZ;exact Good.pure R (by simp[execOp,g,f,asBool,ex]) (.oL _) rfl
   |false=>
    have i:=(cc R ag r (k rfl)).1.iZ;exact Good.pure R (by simp[execOp,g,f,asBool,i]) (.oL _) rfl
 grind
theorem wg(b:ByteArray):b.data.toList.length=b.size:=by rfl
theorem Ys{op:BinOp}{s t r:T}(h:p9 op s t=some (p,r))(ai:p){ty:TypeId}{x y:Value}(I:bK w S s x)(ag:bK w S t y):
 ∃z,(binOp op ty x y).run P w= .ok z w/\bK w S r z:=by
 have c:∀a b:ar,(a==b)=decide (a=b):=λa b=>by grind
 unfold p9 at h;split at h<;>(first|simp only[eg,dy]at h|cases h)
 all_goals cases I;cases ag
 case h_1=>obtain⟨rfl,rfl,rfl⟩:=h;exact⟨_,by simp[binOp,Op.intArith],.int _ _⟩
 case h_2=>obtain⟨rfl,rfl,rfl⟩:=h;exact⟨_,by simp[binOp,Op.intArith],.int _ _⟩
 case h_3=>obtain⟨rfl,rfl,rfl⟩:=h;exact⟨_,by simp[binOp,Op.intArith],.int _ _⟩
 case h_4=>obtain⟨rfl,rfl,rfl⟩:=h;exact⟨_,by simp[binOp,Op.intDiv,ai],.int _ _⟩
 case h_5=>obtain⟨rfl,rfl,rfl⟩:=h;exact⟨_,by simp[binOp,Op.intDiv,ai],.int _ _⟩
 case h_6=>obtain⟨rfl,rfl,rfl⟩:=h;exact⟨_,by simp[binOp,Op.intBits],.int _ _⟩
 case h_7=>obtain⟨rfl,rfl,rfl⟩:=h;exact⟨_,by simp[binOp,Op.intBits],.int _ _⟩
 case h_8=>obtain⟨rfl,rfl,rfl⟩:=h;exact⟨_,by simp[binOp,Op.intBits],.int _ _⟩
 case h_9=>obtain⟨rfl,rfl,rfl⟩:=h;exact⟨_,by simp[binOp,Op.intBits],.int _ _⟩
 case h_10=>obtain⟨rfl,rfl⟩:=h;exact⟨_,by simp_all[binOp,Op.shift,ao],.int _ _⟩
 case h_11=>obtain⟨rfl,rfl⟩:=h;exact⟨_,by simp_all[binOp,Op.shift,ao],.int _ _⟩
 case h_12=>obtain⟨rfl,rfl,rfl⟩:=h;exact⟨_,by simp[binOp,Op.intCmp];rfl,.bool _⟩
 case h_13=>obtain⟨rfl,rfl,rfl⟩:=h;exact⟨_,by simp[binOp,Op.intCmp,bne,BEq.beq],.bool _⟩
 case h_14=>obtain⟨rfl,rfl,rfl⟩:=h;exact⟨_,by simp[binOp,Op.intCmp],.bool _⟩
 case h_15=>obtain⟨rfl,rfl,rfl⟩:=h;exact⟨_,by simp[binOp,Op.intCmp],.bool _⟩
 case h_16=>obtain⟨rfl,rfl,rfl⟩:=h;exact⟨_,by simp[binOp,Op.intCmp],.bool _⟩
 case h_17=>obtain⟨rfl,rfl,rfl⟩:=h;exact⟨_,by simp[binOp,Op.intCmp],.bool _⟩
 case h_18 s hs t ht=>
  obtain⟨rfl,rfl⟩:=h;simp only[wg]at ai;have e:(s++t).data.toList=s.data.toList++t.data.toList:=by rfl
  refine⟨.string (s++t),?_,e▸.str _ (by grind)⟩;have:¬(((s.size+t.size:Nat):Int)>IntKind.i64.max):=by grind[IntKind.max,ft,IntKind.signed,IntKind.bits]
  simp_all[binOp,Op.stringOp,ao]
 case h_19 s hs t ht=>obtain⟨rfl,rfl⟩:=h;exact⟨_,by simp_all[binOp,Op.stringOp,ByteArray.toList_eq],.bool _⟩
 case h_20 s hs t ht=>obtain⟨rfl,rfl⟩:=h;exact⟨_,by simp_all[binOp,Op.stringOp,ByteArray.toList_eq],.bool _⟩
 case h_21 s hs t ht=>obtain⟨rfl,rfl⟩:=h;exact⟨_,by simp_all[binOp,Op.stringOp,ByteArray.toList_eq],.bool _⟩
 case h_22 s hs t ht=>obtain⟨rfl,rfl⟩:=h;exact⟨_,by simp_all[binOp,Op.stringOp,ByteArray.toList_eq],.bool _⟩
 case h_23 s hs t ht=>obtain⟨rfl,rfl⟩:=h;exact⟨_,by simp_all[binOp,Op.stringOp,ByteArray.toList_eq],.bool _⟩
 case h_24 s hs t ht=>obtain⟨rfl,rfl⟩:=h;exact⟨_,by simp_all[binOp,Op.stringOp,ByteArray.toList_eq],.bool _⟩
theorem IN{op:BinOp}{ty:TypeId}{u:Value}(h1:u≠.nilIface)(a:∀cs,u≠.agg cs):(eqGuard op ty x y u v).run P w= .ok () w:=by
 simp_all[eqGuard]
theorem bK.guard{t:T}{u:Value}(h:bK w S t u):u≠.nilIface/\∀cs,u≠.agg cs:=by
 cases h<;>exact⟨by simp,by simp⟩
theorem S8{ty:TypeId}(b:P.underlying ty=some .bool)(b1 b2:Bool):(Op.equal ty (.bool b1) (.bool b2)).run P w= .ok (b1==b2) w:=by
 obtain⟨d,a⟩:∃d,Op.maxDepth=d+1:=⟨9999,rfl⟩
 unfold Op.equal;rw[a];unfold Op.equalIn;simp only[Sem.run_bind,run_underlying b];rfl
theorem Jt(R:Rel av nt φ S env J n a w){op:BinOp}{ty:TypeId}(m:o.op= .binOp op ty x y yt){b d:aO}(I:bz x=some b)(ag:bz y=some d)
 {p v J'}(l:n key=false)(h:aL (.bin op b d) env J key=some (p,v,J'))(ai:p):Good P av nt env J' (ins n key) a v ((execOp a.eval o).run P w):=by
 simp only[aL,bf]at h;obtain⟨⟨t,A⟩,f,⟨u,B⟩,g,he⟩:=h;simp at he;split at he
 . simp only[bn]at he;obtain⟨⟨s,r⟩,i,rfl,rfl,rfl⟩:=he;have h1:=(cc R I f ai.1).1.dJ;have e:=(cc R ag g ai.2.1).1.dJ;obtain⟨z,q,j⟩:=Ys (P:=P) (ty:=ty) i ai.2.2 h1 e;refine Good.pure R ?_ (.c j) rfl;have k:(eqGuard op ty x y _ (a.eval y)).run P w= .ok _ w:=IN (bK.guard h1).1 (bK.guard h1).2;simp_all[execOp]
 grind
theorem Yd(R:Rel av nt φ S env J n a w){op:BinOp}{ty:TypeId}(l:o.op= .binOp op ty x y yt)(f:op= .eql\/op= .neq)(m:P.underlying ty=some .bool)
 {b c:aO}(I:bz x=some b)(ag:bz y=some c)
 {p v J'}(k:n key=false)(h:aL (.eqBool (op== .neq) b c) env J key=some (p,v,J'))(ai:p):Good P av nt env J' (ins n key) a v ((execOp a.eval o).run P w):=by
 simp only[aL,bf]at h;obtain⟨⟨q,s⟩,d,⟨r,t⟩,e,he⟩:=h;simp at he;split at he
 . rename_i b1 b2;obtain⟨rfl,rfl,rfl⟩:=he;have h1:=(cc R I d ai.1).1.iZ;have j:=(cc R ag e ai.2).1.iZ;refine Good.pure R ?_ (.oL _) rfl;have g:(eqGuard op ty x y (a.eval x) (a.eval y)).run P w= .ok _ w:=IN (by grind) (by grind);have i:(binOp op ty (a.eval x) (a.eval y)).run P w= .ok (.bool (if(op== .neq)then !(b1==b2)else(b1==b2))) w:=by
    rcases f with rfl|rfl
    . simp_all[binOp,S8]
    simp_all[binOp,S8]
   simp_all[execOp]
 grind
theorem Y6(R:Rel av nt φ S env J n a w){ty:TypeId}(d:o.op= .unOp .not ty x){b:aO}(I:bz x=some b)
 {p v J'}(e:n key=false)(h:aL (.not b) env J key=some (p,v,J'))(ai:p):Good P av nt env J' (ins n key) a v ((execOp a.eval o).run P w):=by
 simp only[aL,bf]at h;obtain⟨⟨f,g⟩,c,he⟩:=h;simp at he;split at he
 . obtain⟨rfl,rfl,rfl⟩:=he;have h1:=(cc R I c ai).1.iZ;exact Good.pure R (by simp[execOp,d,h1,Op.unary]) (.oL _) rfl
 grind
theorem Y7(R:Rel av nt φ S env J n a w){ty:TypeId}{k:IntKind}(i:o.op= .unOp .neg ty x){b:aO}(I:bz x=some b)
 {p v J'}(j:n key=false)(h:aL (.bin .sub (.const (.c (.t (.int k 0)))) b) env J key=some (p,v,J'))(ai:p):Good P av nt env J' (ins n key) a v ((execOp a.eval o).run P w):=by
 simp only[aL,aO.get,ay,bf]at h;obtain⟨⟨m,q⟩,g,he⟩:=h;simp only at he;split at he
 . rename_i t1 t2 aC;cases aC;simp only[bn]at he;obtain⟨⟨l,r⟩,d,rfl,rfl,rfl⟩:=he;have e:=(cc R I g ai.2.1).1;cases t2<;>simp only[p9,reduceCtorEq,eg]at d;obtain⟨rfl,rfl,rfl⟩:=d;have f:=e.eT;exact Good.pure R (by simp[execOp,i,f,Op.unary,Op.intArith]) (.mX _ _) rfl
 grind
theorem aal(R:Rel av nt φ S env J n a w){ty:TypeId}{k:IntKind}(i:o.op= .unOp .xor ty x){b:aO}(I:bz x=some b)
 {p v J'}(j:n key=false)(h:aL (.bin .xor (.const (.c (.t (.int k (if k.signed then -1 else k.max))))) b) env J key=some (p,v,J'))(ai:p):Good P av nt env J' (ins n key) a v ((execOp a.eval o).run P w):=by
 simp only[aL,aO.get,ay,bf]at h;obtain⟨⟨m,q⟩,g,he⟩:=h;simp only at he;split at he
 . rename_i t1 t2 aC;cases aC;simp only[bn]at he;obtain⟨⟨l,r⟩,d,rfl,rfl,rfl⟩:=he;have e:=(cc R I g ai.2.1).1;cases t2<;>simp only[p9,reduceCtorEq,eg]at d;obtain⟨rfl,rfl,rfl⟩:=d;have f:=e.eT;exact Good.pure R (by simp[execOp,i,f,Op.unary,Op.intBits]) (.mX _ _) rfl
 grind
theorem Yt(R:Rel av nt φ S env J n a w){s d:TypeId}(f:o.op= .convert s d x){g k:IntKind}(hs:P.underlying s=some (.int g))(c:P.underlying d=some (.int k)){b:aO}(I:bz x=some b)
 {p v J'}(i:n key=false)(h:aL (.conv k b) env J key=some (p,v,J'))(ai:p):Good P av nt env J' (ins n key) a v ((execOp a.eval o).run P w):=by
 simp only[aL,bf]at h;obtain⟨⟨j,l⟩,e,he⟩:=h;simp at he;split at he
 . obtain⟨rfl,rfl,rfl⟩:=he;have h1:=(cc R I e ai).1.eT;exact Good.pure R (by simp[execOp,f,h1,convert,underlying,hs,c,Conv.intToInt]) (.mX _ _) rfl
 grind
theorem Ye(m:Int):(Utf8.encode m).size<=ft:=by
 unfold ft Utf8.encode;dsimp
 (repeat' split)<;>simp[ByteArray.size]
theorem aam(R:Rel av nt φ S env J n a w){s d:TypeId}(g:o.op= .convert s d x){i:IntKind}(hs:P.underlying s=some (.int i))(e:P.underlying d=some .string){b:aO}(I:bz x=some b)
 {p v J'}(j:n key=false)(h:aL (.i2s b) env J key=some (p,v,J'))(ai:p):Good P av nt env J' (ins n key) a v ((execOp a.eval o).run P w):=by
 simp only[aL,bf]at h;obtain⟨⟨k,l⟩,f,he⟩:=h;simp at he;split at he
 . obtain⟨rfl,rfl,rfl⟩:=he;have h1:=(cc R I f ai).1.eT;exact Good.pure R (by simp[execOp,g,h1,convert,underlying,hs,e,Conv.intToString]) (.c (.str _ (Ye _))) rfl
 grind
theorem aan(R:Rel av nt φ S env J n a w){s d:TypeId}(f:o.op= .convert s d x)(hs:P.underlying s=some .string)(c:P.underlying d=some .string){b:aO}(I:bz x=some b)
 {p v J'}(g:n key=false)(h:aL (.s2s b) env J key=some (p,v,J'))(ai:p):Good P av nt env J' (ins n key) a v ((execOp a.eval o).run P w):=by
 simp only[aL,bf]at h;obtain⟨⟨i,j⟩,e,he⟩:=h;simp at he;split at he
 . obtain⟨rfl,rfl,rfl⟩:=he;have al:=cc R I e ai;obtain⟨bs,h1,rfl,_⟩:=al.1.j6;refine Good.pure R ?_ (h1▸al.1) rfl;simp[execOp,f,h1,convert,underlying,hs,c]
 grind
theorem Wx(R:Rel av nt φ S env J n a w)(e:o.op= .nilCheck x){b:aO}(I:bz x=some b)
 {p v J'}(d:n key=false)(h:aL (.nilCheck b) env J key=some (p,v,J'))(ai:p):Good P av nt env J' (ins n key) a v ((execOp a.eval o).run P w):=by
 simp only[aL,bf]at h;obtain⟨⟨f,g⟩,c,he⟩:=h;simp at he;split at he<;>simp only[dy,reduceCtorEq]at he
 all_goals
  obtain⟨rfl,rfl,rfl⟩:=he;have al:=cc R I c ai;have h1:=al.1.dJ;refine Good.pure R ?_ al.1 al.2
 . simp_all[bk,execOp]
 . simp_all[bk,execOp]
 . obtain⟨_,_,_,h1,_⟩:=h1;simp_all[execOp]
theorem Yu(R:Rel av nt φ S env J n a w){ty:TypeId}(t:o.op= .fieldAddr ty x f)(y:P.underlying ty=some (.struct fs)){d:Field}(q:fs[f]?=some d)
 {m:Nat}(j:dW P d.type=some m)(s:m≠0){g:aO}(I:bz x=some g)
 {p v J'}(r:n key=false)(h:aL (.fldA d.offset g) env J key=some (p,v,J'))(ai:p):Good P av nt env J' (ins n key) a v ((execOp a.eval o).run P w):=by
 simp only[aL,bf]at h;obtain⟨⟨A,B⟩,k,he⟩:=h;simp at he;have z:∀w,(underlying ty).run P w= .ok (.struct fs) w:=by simp_all[underlying]
 have u:∀w,(sizeOf d.type).run P w= .ok m w:=by simp[dW]at j;obtain⟨i,l,rfl⟩:=j;simp[sizeOf,typeInfo,l]
 have e:∀(b off:Nat),a.eval x= .pointer (some ⟨b,off,none⟩)->(execOp a.eval o).run P w= .ok (.value (.pointer (some ⟨b,off+d.offset,none⟩))) w:=by
  simp_all[execOp,Instr.fieldAt,Instr.sureAddr,fieldPlace,Addr.add]
 split at he<;>simp only[dy,reduceCtorEq]at he
 all_goals
  obtain⟨rfl,rfl,rfl⟩:=he;have al:=cc R I k ai;have h1:=al.1.dJ
 . exact Good.pure R (e _ _ h1) (.c rfl) al.2
 . exact Good.pure R (e _ _ h1) (.c (by simp[bk,Nat.add_assoc])) al.2
 . obtain⟨blk,off,f,h1,ab⟩:=h1;exact Good.pure R (e _ _ h1) (.c ⟨blk,off,f,by grind,ab⟩) al.2
theorem aV.aga(h:aV (bK w S) ts vs):aV (bk φ w S) (ts.map .t) vs:=by
 induction h with
 |nil=>exact .nil
 |cons h _ ih=>exact .cons h ih
theorem KR(n:Nat->Bool)(ts:List T):(ts.map C.t).all (C.az n)=true:=by simp[C.az]
theorem sO{ty:TypeId}{g:Bool}(al:pH P ty=some g)(w:World):(isAgg ty).run P w= .ok g w:=by
 unfold pH at al;split at al<;>simp_all [isAgg,underlying]
theorem i'{ty:TypeId}{k:Nat}(a:dW P ty=some k)(w:World):(sizeOf ty).run P w= .ok k w:=by
 simp[dW]at a;obtain⟨i,b,rfl⟩:=a;simp[sizeOf,typeInfo,b]
theorem Im{ty:TypeId}{g:Bool×Nat}(h:mO P ty=some g):pH P ty=some g.1/\dW P ty=some g.2/\(g.1=false->g.2=1):=by
 grind[mO,bf]
theorem SD{ty:TypeId}{g:Bool}{k:Nat}(al:pH P ty=some g)(d:dW P ty=some k){b o:Nat}
 (a:∀j,j<k->w.cell? ⟨b,o+j,none⟩=vs[j]?)(ae:vs.length=k)(h1:g=false->k=1):
 (loadVar ty ⟨b,o,none⟩).run P w= .ok (if g then .agg vs.toArray else vs.getD 0 undef) w:=by
 cases g with
 |true=>
  have:=run_loadCells_list (P:=P) w ⟨b,o,none⟩ vs (λj v c=>by
   grind[Addr.add])
  simp_all[loadVar,sO,i']
 |false=>
  simp_all[loadVar,sO]
theorem bk.single(h:bk φ w S c v):v.cells=#[v]:=by
 have:=bk.iQ h;cases v<;>simp[Value.oneCell']at this<;>rfl
theorem mD{v:V}{x:Value}(h:bS φ w S v x)(a:pI v=some cs)(b:v.az n=true):aV (bk φ w S) cs x.cells.toList/\cs.all (C.az n)=true:=by
 cases h with
 |c h=>
  simp[pI]at a;subst a;rw[bk.single h];exact⟨.cons h .nil,by grind[V.az]⟩
 |agg h=>
  grind[pI,Value.cells,V.az]
 |aX=>grind[pI]
theorem SE{k o:Nat}{v:V}(h:aV (bk φ w S) cs vs)(e:cs.all (C.az n)=true)(ae:jd agg k cs o=some v)(h1:agg=false->k=1):
 o+k<=cs.length/\bS φ w S v (if agg then .agg ((vs.drop o).take k).toArray else((vs.drop o).take k).getD 0 undef)/\v.az n=true:=by
 unfold jd at ae;cases agg with
 |true=>
  simp at ae;obtain⟨b,rfl⟩:=ae;refine⟨b,?_,by grind[V.az]⟩;simpa using bS.agg ((h.drop o).take k)
 |false=>
  have:=h1 rfl;subst this;simp at ae;obtain⟨c,a,rfl⟩:=ae;obtain⟨x,I,d⟩:=h.get a;have aE:=(dH.1 a).1;refine⟨by omega,?_,?_⟩
  . have:((vs.drop o).take 1).getD 0 undef=x:=(by grind);simp only[this];exact .c d
  grind[V.az]
theorem LS{k o:Nat}{v:V}(ae:loadT agg k ts o=some v):jd agg k (ts.map .t) o=some v:=by
 unfold loadT at ae;unfold jd;cases agg<;>simp_all
theorem aaS{ty:TypeId}{g:Bool}{k:Nat}(al:pH P ty=some g)(a:dW P ty=some k)(h1:g=false->k=1)(b:off+k<=vs.length):
 (part ty vs.toArray off).run P w= .ok (if g then .agg ((vs.drop off).take k).toArray else((vs.drop off).take k).getD 0 undef) w:=by
 cases g with
 |true=>
  simp_all[part,sO,i']
 |false=>
  have:=h1 rfl;have aE:off<vs.length:=by omega
  simp_all[part,sO]
theorem aao(R:Rel av nt φ S env J n a w){ty:TypeId}(r:o.op= .field ty x f)(u:P.underlying ty=some (.struct fs)){b:Field}(j:fs[f]?=some b)
 {m:Nat}(q:dW P b.type=some m){g:Bool}(al:pH P b.type=some g)(h1:g=false->m=1){c:aO}(I:bz x=some c)
 {p v J'}(A:n key=false)(h:aL (.fld g b.offset m c) env J key=some (p,v,J'))(ai:p):Good P av nt env J' (ins n key) a v ((execOp a.eval o).run P w):=by
 simp only[aL,bf]at h;obtain⟨⟨B,C⟩,k,he⟩:=h;simp at he;split at he
 . simp only[bn]at he;obtain⟨v0,y,rfl,rfl,rfl⟩:=he;have e:=cc R I k ai;obtain⟨vs,z,d⟩:=e.1.lJ;obtain⟨l,t,i⟩:=SE d (by simpa[V.az]using e.2) y h1;have s:=aaS (w:=w) al q h1 (by rw[<-d.length];exact l);exact Good.pure R (by simp[execOp,r,z,Instr.field,underlying,u,j,asAgg,s]) t i
 grind
theorem aap(R:Rel av nt φ S env J n a w){i:Nat}(m:o.op= .extract x i){b:aO}(I:bz x=some b)
 {p v J'}(l:n key=false)(h:aL (.ext b i) env J key=some (p,v,J'))(ai:p):Good P av nt env J' (ins n key) a v ((execOp a.eval o).run P w):=by
 simp only[aL,bf]at h;obtain⟨⟨q,r⟩,e,he⟩:=h;simp at he;split at he
 . simp only[bn]at he;obtain⟨v0,d,rfl,rfl,rfl⟩:=he;have c:=cc R I e ai;generalize j:a.eval x=y at c;obtain⟨f,k⟩:=c;cases f with
   |aX _ xs ae ab=>
    have aE:i<xs.length:=(by grind);have g:=eC aE;refine Good.pure R ?_ (ab i _ _ d g) (mQ (by grind[V.az]) d);simp_all[execOp,Instr.extract]
 grind
theorem Yv(R:Rel av nt φ S env J n a w){x y:Operand}{d:Array TypeId}(i:o.op= .call {callee:= .builtin .max,args:=#[x,y],argTypes:=d}){b c:aO}(I:bz x=some b)(ag:bz y=some c)
 {p v J'}(j:n key=false)(h:aL (.max2 b c) env J key=some (p,v,J'))(ai:p):Good P av nt env J' (ins n key) a v ((execOp a.eval o).run P w):=by
 simp only[aL,bf]at h;obtain⟨⟨m,s⟩,f,⟨r,t⟩,g,he⟩:=h;simp at he;split at he
 . rename_i k p l q;simp only[eg]at he;obtain⟨rfl,rfl,rfl,rfl⟩:=he;have h1:=(cc R I f ai.1).1.eT;have e:=(cc R ag g ai.2).1.eT;refine Good.pure R ?_ (.mX _ _) rfl;have:(if p<q then q else p)=max p q:=(by omega);simp[execOp,i,invoke,builtin,Builtin.max_,Builtin.max2,h1,e,Go.resolve,this]
 grind
theorem Yw(R:Rel av nt φ S env J n a w){x y:Operand}{d:Array TypeId}(i:o.op= .call {callee:= .builtin .min,args:=#[x,y],argTypes:=d}){b c:aO}(I:bz x=some b)(ag:bz y=some c)
 {p v J'}(j:n key=false)(h:aL (.min2 b c) env J key=some (p,v,J'))(ai:p):Good P av nt env J' (ins n key) a v ((execOp a.eval o).run P w):=by
 simp only[aL,bf]at h;obtain⟨⟨m,s⟩,f,⟨r,t⟩,g,he⟩:=h;simp at he;split at he
 . rename_i k p l q;simp only[eg]at he;obtain⟨rfl,rfl,rfl,rfl⟩:=he;have h1:=(cc R I f ai.1).1.eT;have e:=(cc R ag g ai.2).1.eT;refine Good.pure R ?_ (.mX _ _) rfl;have:(if q<p then q else p)=min p q:=(by omega);simp[execOp,i,invoke,builtin,Builtin.min_,Builtin.min2,h1,e,Go.resolve,this]
 grind
theorem bK.jj(h:bK w S (.slice es) v):∃(a:Option Addr) (cap sz b o:Nat) (f:Nat->Nat->Value),v= .slice a es.length cap/\es.length<=cap/\es.length<=c1/\(∀e,e∈es->e.length=sz)/\(es≠[]->a=some ⟨b,o,none⟩)/\
 (∀i j:Nat,i<es.length->j<sz->S b (o+i*sz+j)/\w.cell? ⟨b,o+i*sz+j,none⟩=some (f i j))/\(∀(i j:Nat) e t,es[i]?=some e->e[j]?=some t->bK w S t (f i j)):=by
 cases h;exact⟨_,_,_,_,_,_,rfl,by grind,by grind,by omega,by omega,by omega,by grind⟩
theorem bk.gn{b sz len:Nat}(h:bk φ w S (.arr b sz off len) v):∃a,v= .slice a len ((φ b).2-off)/\((φ b).2≠0->a=some ⟨(φ b).1,off*sz,none⟩)/\off+len<=(φ b).2:=h
theorem aaq(R:Rel av nt φ S env J n a w){x:Operand}{ty:TypeId}(f:o.op= .call {callee:= .builtin .len,args:=#[x],argTypes:=#[ty]}){str:Bool}
 (d:if str then P.underlying ty=some .string else ∃e,P.underlying ty=some (.slice e)){g:aO}(I:bz x=some g)
 {p v J'}(k:n key=false)(h:aL (.len str g) env J key=some (p,v,J'))(ai:p):Good P av nt env J' (ins n key) a v ((execOp a.eval o).run P w):=by
 simp only[aL,bf]at h;obtain⟨⟨r,s⟩,j,he⟩:=h;simp at he;split at he<;>simp only[dy,dG,reduceCtorEq]at he
 all_goals
  obtain⟨rfl,rfl,rfl⟩:=he;have h1:=(cc R I j ai).1.dJ
 . obtain⟨e,d⟩:=d;obtain⟨bR,cap,_,_,_,_,h1,_⟩:=bK.jj h1;exact Good.pure R (by simp[execOp,f,Go.resolve,invoke,builtin,Builtin.len_,underlying,d,h1,goInt]) (.mX _ _) rfl
 . obtain⟨e,d⟩:=d;obtain⟨bR,h1,_⟩:=bk.gn h1;exact Good.pure R (by simp[execOp,f,Go.resolve,invoke,builtin,Builtin.len_,underlying,d,h1,goInt]) (.mX _ _) rfl
 . obtain⟨e,d⟩:=d;obtain⟨bR,h1⟩:=h1;exact Good.pure R (by simp[execOp,f,Go.resolve,invoke,builtin,Builtin.len_,underlying,d,h1,goInt]) (.mX _ _) rfl
 . obtain⟨e,d⟩:=d;rename_i b l;obtain⟨bR,cap,h1⟩:∃bR cap,a.eval x= .slice bR l cap:=by
    obtain⟨m,q,k1⟩:=h1;grind
   exact Good.pure R (by simp[execOp,f,Go.resolve,invoke,builtin,Builtin.len_,underlying,d,h1,goInt]) (.mX _ _) rfl
 . simp at d;obtain⟨bs,i,rfl,_⟩:=bS.j6 (.c h1);exact Good.pure R (x:= .int .i64 bs.size) (by simp[execOp,f,Go.resolve,invoke,builtin,Builtin.len_,underlying,d,i,goInt]) (by exact .mX _ _) rfl
theorem Yx(R:Rel av nt φ S env J n a w){ty:TypeId}{i:Operand}(F:o.op= .indexAddr ty x i)(H:P.underlying ty=some (.slice e)){sz:Nat}(G:dW P e=some sz)(h0:sz≠0)
 {z y:aO}(I:bz x=some z)(E:bz i=some y)
 {p v J'}(U:n key=false)(h:aL (.idxA sz z y) env J key=some (p,v,J'))(ai:p):Good P av nt env J' (ins n key) a v ((execOp a.eval o).run P w):=by
 simp only[aL,bf]at h;obtain⟨⟨ab,ae⟩,D,⟨aa,ad⟩,B,he⟩:=h;simp only at he;have A:∀(b off m:Nat),Addr.add ⟨b,off,none⟩ (m*sz)=⟨b,off+m*sz,none⟩:=by
  grind[Addr.add]
 split at he
 . rename_i es k m;obtain⟨rfl,rfl,rfl⟩:=he;obtain⟨s,u,r,K,Q⟩:=ai;have h1:=(cc R I D s).1.dJ;have g:=(cc R E B u).1.eT;obtain⟨bR,cap,d,b,off,f,h1,O,X,Y,l,N,Z⟩:=bK.jj h1;have L:es≠[]:=(by grind);have T:es[m.toNat]?=some (el es m.toNat):=(by grind[el]);have M:d=sz:=(by grind);subst M;rw[l L]at h1;refine Good.pure R (x:= .pointer (some ⟨b,off+m.toNat*d,none⟩)) ?_ ?_ rfl
   . have q:0<=m/\m<es.length:=⟨r,by omega⟩
     simp[execOp,F,h1,g,Instr.indexAt,asIntOf,underlying,H,q,i' G,A]
   . refine .c ⟨b,off+m.toNat*d,λj=>f m.toNat j,by rfl,λj t ht=>?_⟩;grind
 . rename_i b d off len k m;obtain⟨rfl,rfl,rfl⟩:=he;obtain⟨s,u,r,K,rfl⟩:=ai;have al:=cc R I D s;have h1:=al.1.dJ;have g:=(cc R E B u).1.eT;obtain⟨bR,h1,l,W⟩:=bk.gn h1;rw[l (by omega)]at h1;refine Good.pure R (x:= .pointer (some ⟨(φ b).1,off*sz+m.toNat*sz,none⟩)) ?_ (.c ?_) (by grind[V.az,C.az])
   . have q:0<=m/\m<len:=⟨r,by omega⟩
     simp[execOp,F,h1,g,Instr.indexAt,asIntOf,underlying,H,q,i' G,A]
   grind[bk]
 grind
theorem Yy(R:Rel av nt φ S env J n a w){ty:TypeId}{i:Operand}(r:o.op= .index ty x i)(y:P.underlying ty=some .string)
 {c b:aO}(I:bz x=some c)(j:bz i=some b)
 {p v J'}(z:n key=false)(h:aL (.idxS c b) env J key=some (p,v,J'))(ai:p):Good P av nt env J' (ins n key) a v ((execOp a.eval o).run P w):=by
 simp only[aL,bf]at h;obtain⟨⟨B,D⟩,g,⟨A,C⟩,f,he⟩:=h;simp at he;split at he
 . rename_i s k m;obtain⟨rfl,rfl,rfl⟩:=he;obtain⟨t,u,l,q⟩:=ai;obtain⟨bs,h1,rfl,hs⟩:=(cc R I g t).1.j6;have d:=(cc R j f u).1.eT;have aE:m.toNat<bs.size:=(by simp_all);refine Good.pure R ?_ (.mX _ _) rfl;have e:bs[m.toNat]?=some (bs.data.toList.getD m.toNat 0):=by
    rw[getElem?_pos bs _ _];simp[eC q];rfl
   simp[execOp,r,h1,d,Instr.index,asIntOf,underlying,y,l,e]
 grind
theorem SY:∀{vs:List V} {l:aY} {xs:List Value},aL.r9 vs=some l->aV (bS φ w S) vs xs->V.az.V.dj n vs=true->
 xs=l.map (λb=>Value.pointer (some ⟨(φ b).1,0,none⟩))/\(l.all λb=>n b)=true
 |[],l,xs,h,a,c=>by simp[aL.r9]at h;subst h;cases a;simp
 |v::vs,l,xs,h,a,c=>by
  cases a with
  |cons d ht=>
   unfold aL.r9 at h;split at h
   . grind
   . rename_i b r e;cases e;simp at h;obtain⟨i,f,rfl⟩:=h;simp[V.az.V.dj]at c;obtain⟨rfl,g⟩:=SY f ht c.2;have:=d.gT;grind[V.az,C.az]
   grind
theorem Yz(R:Rel av nt φ S env J n a w){caps:Array Operand}(j:o.op= .makeFunc (.func f) #[] caps){d:List aO}(I:nb caps.toList=some d)
 {p v J'}(i:n key=false)(h:aL (.mkfn f d) env J key=some (p,v,J'))(ai:p):Good P av nt env J' (ins n key) a v ((execOp a.eval o).run P w):=by
 simp only[aL,bf]at h;obtain⟨⟨k,vs⟩,e,he⟩:=h;split at he
 . rename_i l ae;obtain⟨rfl,rfl,rfl⟩:=he;have al:=qH R I e ai;obtain⟨h1,g⟩:=SY ae al.1 al.2;refine Good.pure R ?_ (.c rfl) (by grind[V.az,C.az]);have:caps.map a.eval=(l.map λb=>Value.pointer (some ⟨(φ b).1,0,none⟩)).toArray:=(by grind);simp_all[execOp,Instr.makeFunc]
 grind
theorem qI(R:Rel av nt φ S env J n a w){x:Option Operand}{b:Option aO}(I:j3 x=some b){m:Option Int}(h:jE env b=some (p,m))(ai:p):
 (x.map a.eval=none/\m=none)\/∃k i,x.map a.eval=some (.int k i)/\m=some i:=by
 cases x with
 |none=>grind[j3,jE]
 |some x=>
  simp[j3]at I;obtain⟨e,c,rfl⟩:=I;simp only[jE,bf]at h;obtain⟨⟨q,v⟩,d,he⟩:=h;simp at he;split at he
  . obtain⟨rfl,rfl⟩:=he;have:=(cc R c d ai).1.eT;grind
  grind
theorem DC {isSlice:Bool}{len cap:Nat}{b a:Option Value}{l h:Option Int}(d:(b=none/\l=none)\/∃k i,b=some (.int k i)/\l=some i)(c:(a=none/\h=none)\/∃k i,a=some (.int k i)/\h=some i)
 (h0:0<=l.getD 0)(h1:l.getD 0<=h.getD len)(e:h.getD len<=len)(f:len<=cap):
 (Instr.sliceBounds isSlice len cap b a none).run P w= .ok ((l.getD 0).toNat,(h.getD len).toNat,cap) w:=by
 have g:h.getD len<=cap:=by omega
 rcases d with⟨rfl,rfl⟩|⟨k,i,rfl,rfl⟩<;>rcases c with⟨rfl,rfl⟩|⟨m,j,rfl,rfl⟩<;>simp_all [Instr.sliceBounds,Instr.sliceBound,asIntOf];grind
theorem YA(R:Rel av nt φ S env J n a w){ty:TypeId}{i:Option Operand}(u:o.op= .slice ty x j i none)(B:P.underlying ty=some .string)
 {f:aO}{d b:Option aO}(I:bz x=some f)(t:j3 j=some d)(s:j3 i=some b)
 {p v J'}(D:n key=false)(h:aL (.slcS f d b) env J key=some (p,v,J'))(ai:p):Good P av nt env J' (ins n key) a v ((execOp a.eval o).run P w):=by
 simp only[aL,bf]at h;obtain⟨⟨F,G⟩,r,⟨pl,l⟩,q,⟨E,h⟩,m,he⟩:=h;simp at he;split at he
 . obtain⟨rfl,rfl,rfl⟩:=he;obtain⟨y,z,A,h0,h1,g⟩:=ai;obtain⟨bs,C,rfl,hs⟩:=(cc R I r y).1.j6;have ae:=qI R t q z;have ab:=qI R s m A;rw[wg]at h1 g;have k:=DC (P:=P) (w:=w) (isSlice:=false) ae ab h0 h1 g (eB _);rw[wg];have e:(bs.extract (l.getD 0).toNat (h.getD bs.size).toNat).data.toList=(bs.data.toList.take (h.getD bs.size).toNat).drop (l.getD 0).toNat:=(by grind[ByteArray.data_extract,Array.toList_extract,List.drop_take]);refine Good.pure R (x:= .string (bs.extract (l.getD 0).toNat (h.getD bs.size).toNat)) ?_ (.c ?_) rfl
   . simp[execOp,u,Instr.sliceAt,Instr.slice,underlying,B,C,k]
   . rw[<-e];refine .str _ ?_;rw[ByteArray.size_extract];omega
 grind
theorem aar(R:Rel av nt φ S env J n a w){ty:TypeId}{Y k:Option Operand}(U:o.op= .slice ty x Y k none)(X:P.underlying ty=some (.slice e)){sz:Nat}(W:dW P e=some sz)
 {G:aO}{g F:Option aO}(I:bz x=some G)(T:j3 Y=some g)(Q:j3 k=some F)
 {p v J'}(ar:n key=false)(h:aL (.slc sz G g F) env J key=some (p,v,J'))(ai:p):Good P av nt env J' (ins n key) a v ((execOp a.eval o).run P w):=by
 simp only[aL,bf]at h;obtain⟨⟨az,aA⟩,O,⟨pl,l⟩,N,⟨ay,h⟩,M,he⟩:=h;simp only at he;split at he
 . rename_i es;obtain⟨rfl,rfl,rfl⟩:=he;obtain⟨A,B,D,h0,h1,s,aa⟩:=ai;obtain⟨bR,cap,d,b,off,f,E,Z,aw,ax,K,y,ak⟩:=bK.jj (cc R I O A).1.dJ;have ae:=qI R T N B;have ab:=qI R Q M D;have u:=DC (P:=P) (w:=w) (isSlice:=true) (cap:=cap) ae ab h0 h1 s Z;generalize an:(l.getD 0).toNat=L at*;generalize am:(h.getD (es.length:Int)).toNat=H at*;have r:((es.take H).drop L).length=H-L:=by simp;omega
   refine Good.pure R (x:= .slice (if cap=L then bR else bR.map (·.add (L*sz))) (H-L) (cap-L)) ?_ (.c ?_) rfl
   . simp[execOp,U,Instr.sliceAt,Instr.slice,underlying,X,E,u,i' W]
   . show bK w S _ _;rw[<-r];have af:∀(i:Nat) e,((es.take H).drop L)[i]?=some e->es[L+i]?=some e/\L+i<H:=(by grind);by_cases z:es=[]
     . subst z;simp;exact bK.slice [] _ _ 0 0 0 (λ_ _=>undef) (by simp) (by simp[c1]) (by simp) (by simp) (by simp) (by simp)
     . have aj:d=sz:=by
        obtain⟨ds,aq⟩:=CM es z;grind
       subst aj;refine bK.slice _ _ _ d b (off+L*d) (λi j=>f (L+i) j) (by rw[r];omega) (by rw[r];omega) (λe he=>aa e (wL (GD he))) ?_ ?_ ?_
       . intro aN;have:L<H:=(by grind);rw[a',K z];unfold Addr.add;split
         . rename_i h;simp[h]
         . rfl
       . intro i j k ag;rw[r]at k;have:=y (L+i) j (by omega) ag;rw[show off+L*d+i*d+j=off+(L+i)*d+j by rw[h'];omega];exact this
       . intro i j e t he ht;exact ak _ _ _ _ (af i e he).1 ht
 . rename_i b d off len;obtain⟨rfl,rfl,rfl⟩:=he;obtain⟨A,B,D,h0,h1,s,rfl⟩:=ai;have al:=cc R I O A;obtain⟨bR,E,K,au⟩:=bk.gn al.1.dJ;have ae:=qI R T N B;have ab:=qI R Q M D;have u:=DC (P:=P) (w:=w) (isSlice:=true) (cap:=(φ b).2-off) ae ab h0 h1 s (by omega);have ap:∀(q o m:Nat),(Addr.add ⟨q,o,none⟩ m:Addr)=⟨q,o+m,none⟩:=by
    grind[Addr.add]
   have ah:g.isNone=true->l.getD 0=0:=by
    intro aN;cases g with
    |some _=>grind
    |none=>grind[jE,Option.some.injEq,Prod.mk.injEq]
   generalize l.getD 0=L at*;generalize h.getD (len:Int)=H at*;refine Good.pure R (x:= .slice (if(φ b).2-off=L.toNat then bR else bR.map (·.add (L.toNat*sz))) (H.toNat-L.toNat) ((φ b).2-off-L.toNat)) ?_ (.c ?_) ?_
   . simp[execOp,U,Instr.sliceAt,Instr.slice,underlying,X,E,u,i' W]
   . by_cases aN:g.isNone=true
     . rw[ad aN];have:=ah aN;subst this;refine⟨_,rfl,λy=>?_,by omega⟩;grind
     . rw[ao aN];refine⟨_,_,rfl,λy=>?_,by omega⟩;grind
   grind[V.az,C.az]
 grind
theorem Yf(R:Rel av nt φ S env J n a w){ty:TypeId}{k t:IntKind}(q:o.op= .slice ty x none (some (.const (.int k 0))) (some (.const (.int t 0))))(s:P.underlying ty=some (.slice e))
 {sz:Nat}(r:dW P e=some sz){j:aO}(I:bz x=some j)
 {p v J'}(u:n key=false)(h:aL (.slc0 j) env J key=some (p,v,J'))(ai:p):Good P av nt env J' (ins n key) a v ((execOp a.eval o).run P w):=by
 simp only[aL,bf]at h;obtain⟨⟨y,A⟩,m,he⟩:=h;simp at he;have i:∀(bR:Option _) (l c:Nat),a.eval x= .slice bR l c->∃a2,(execOp a.eval o).run P w= .ok (.value (.slice a2 0 0)) w:=by
  intro bR l c d;have ds:∀v,a.eval (.const v)=v:=λ_=>rfl;exact⟨_,by simp[execOp,q,Instr.sliceAt,Instr.slice,underlying,s,d,i' r];rfl⟩
 split at he<;>simp only[dy,reduceCtorEq]at he
 all_goals
  obtain⟨rfl,rfl,rfl⟩:=he;have h1:=(cc R I m ai).1.dJ
 . obtain⟨bR,cap,z,b,off,f,d,_⟩:=bK.jj h1;obtain⟨a2,g⟩:=i _ _ _ d;exact Good.pure R g (.c ⟨a2,rfl⟩) rfl
 . obtain⟨bR,d⟩:=h1;obtain⟨a2,g⟩:=i _ _ _ d;exact Good.pure R g (.c ⟨a2,rfl⟩) rfl
 . obtain⟨bR,d,_⟩:=bk.gn h1;obtain⟨a2,g⟩:=i _ _ _ d;exact Good.pure R g (.c ⟨a2,rfl⟩) rfl
theorem iq{b:Nat}{a:Nat×Nat}(h:w.heap[b]?=some (.cells vs.toArray E a))(j:Nat):w.cell? ⟨b,j,none⟩=vs[j]?:=by
 grind[World.cell?]
theorem qR{ty:TypeId}{g:Bool×Nat}(al:mO P ty=some g){blk off0 o:Nat}{v:V}
 (a:aV (bk φ w S) cs vs)(c:cs.all (C.az n)=true)(i:∀j,j<vs.length->w.cell? ⟨blk,off0+j,none⟩=vs[j]?)(ae:jd g.1 g.2 cs o=some v):
 ∃x,(loadVar ty ⟨blk,off0+o,none⟩).run P w= .ok x w/\bS φ w S v x/\v.az n=true:=by
 obtain⟨h1,e,b⟩:=Im al;obtain⟨d,k,f⟩:=SE a c ae b;rw[a.length]at d;grind[SD]
theorem aV.Q8(h:aV (bK w S) ts xs):aV (bk φ w S) (ts.map .t) xs:=aV.aga h
theorem Je{b sz i:Nat}(h:cQ φ w S b (.arr sz es))(k:i<es.length):
 (φ b).2≠0/\∃(vs:List Value) (E:TypeId) (xs:List Value),w.heap[(φ b).1]?=some (.cells vs.toArray E (0,0))/\vs.length=(φ b).2*sz/\(el es i).length=sz/\xs.length=sz/\aV (bK w S) (el es i) xs/\
  (∀j,j<sz->vs[i*sz+j]?=xs[j]?)/\(i+1)*sz<=vs.length:=by
 obtain⟨h1,f,a,g,bj⟩:=h;have h0:(φ b).2≠0:=by omega
 obtain⟨vs,E,ab,ae,l,hs⟩:=bj h0;have c:es[i]?=some (el es i):=by grind[el]
 have e:=a _ (eN c);have d:(i+1)*sz<=vs.length:=by rw[ae];exact eM _ (by omega)
 refine⟨h0,vs,E,(vs.drop (i*sz)).take sz,ab,ae,e,by grind,?_,?_,d⟩
 . grind[aV.kF]
 grind
theorem Yg(R:Rel av nt φ S env J n a w){ty:TypeId}(ad:o.op= .load ty x){g:Bool×Nat}(al:mO P ty=some g){C:aO}(I:bz x=some C)
 {p v J'}(Z:n key=false)(h:aL (.load g.1 g.2 C) env J key=some (p,v,J'))(ai:p):Good P av nt env J' (ins n key) a v ((execOp a.eval o).run P w):=by
 simp only[aL,bf]at h;obtain⟨⟨ak,am⟩,r,he⟩:=h;simp only at he;have z:∀(blk off:Nat) (y:Value),a.eval x= .pointer (some ⟨blk,off,none⟩)->(loadVar ty ⟨blk,off,none⟩).run P w= .ok y w->(execOp a.eval o).run P w= .ok (.value y) w:=by
  simp_all[execOp,Instr.loadAt,Instr.sureAddr]
 split at he
 . split at he
   . rename_i cs d;simp only[bn]at he;obtain⟨v0,l,rfl,rfl,rfl⟩:=he;have h1:=(cc R I r ai).1.gT;obtain⟨_,vs,E,ab,m,_⟩:=R.bB.blk _ _ d;have q:=(R.dp _ _ d).2;obtain⟨y,ag,k,e⟩:=qR (n:=n) al m q (λj _=>by rw[iq ab,gx]) l;grind[Good.pure]
   . rename_i E c d;split at he
     . rename_i M;obtain⟨N,rfl⟩:=M;obtain⟨rfl,rfl,rfl⟩:=he;have h1:=(cc R I r ai).1.gT;obtain⟨_,⟨G,X,ab,Q,T⟩,_⟩:=R.bB.blk _ _ d;have q:=(R.dp _ _ d).2;have O:G.oneCell'=true:=by rcases Q with rfl|rfl<;>rfl
       have m:aV _ [.dead,c] [G,X]:= .cons O (.cons T .nil);obtain⟨y,ag,k,e⟩:=qR (n:=n) (off0:=0) (o:=1) (v:= .c c) al m (by simp only[lA,List.all_nil,Bool.and_true];exact q) (λj _=>by rw[iq ab,gx]) (by simp[jd,N]);grind[Good.pure]
     grind
   grind
 . rename_i b sz i F;split at he
   . rename_i W es d;simp only[bn,dG]at he;obtain⟨v0,l,rfl,rfl,rfl⟩:=he;obtain⟨u,rfl,A⟩:=ai;have h1:=(cc R I r u).1.hE;obtain⟨_,vs,E,xs,ab,ae,aa,af,m,L,_⟩:=Je (R.bB.blk _ _ d) A;obtain⟨y,ag,k,e⟩:=qR (n:=n) al (aV.Q8 m) (KR n _) (λj s=>by rw[iq ab,L j (by omega)]) (LS l);exact Good.pure R (z _ _ _ h1 ag) k e
   . rename_i cs d;simp only[bn]at he;obtain⟨v0,l,rfl,rfl,rfl⟩:=he;have h1:=(cc R I r ai).1.hE;obtain⟨_,vs,E,ab,m,_⟩:=R.bB.blk _ _ d;have q:=(R.dp _ _ d).2;obtain⟨y,ag,k,e⟩:=qR (n:=n) al m q (λj _=>by rw[iq ab,gx]) l;rw[gx]at ag;exact Good.pure R (z _ _ _ h1 ag) k e
   . rename_i W es ah aj c d;split at he
     . grind
     . rename_i D;obtain⟨⟨a1,a2,a3,a4,a5,Y⟩,⟨vs,E,k1,k2,k3,H,k4,k5⟩,k6⟩:=R.bB.blk _ _ d;have q:=(R.dp _ _ d).2;split at he
       . rename_i B;subst B;obtain⟨rfl,rfl,rfl⟩:=he;obtain⟨u,rfl,rfl⟩:=ai;have h1:=(cc R I r u).1.hE
         obtain⟨y,ag,k,e⟩:=qR (n:=n) (vs:=[H]) (o:=0) (v:= .c c) al (.cons k5 .nil) (by simpa[bJ.az]using q) (λj s=>by
          have:j=0:=(by simpa using s);subst this
          rw[iq k1,rp,k4];rfl) (by simp[jd,D])
         exact Good.pure R (z _ _ _ h1 ag) k e
       . rename_i B;simp only[bn,dG]at he;obtain⟨v0,l,rfl,rfl,rfl⟩:=he;obtain⟨u,rfl,A⟩:=ai;have h1:=(cc R I r u).1.hE;simp only[loadT,cJ,cE,bn]at l;obtain⟨t,ht,rfl⟩:=l;have K:es[i]?=some (el es i):=by unfold el;rw[List.getD,eC A];rfl
         obtain⟨an,V,U⟩:=k3 i F _ t K ht (λh=>B h.2)
         obtain⟨y,ag,k,e⟩:=qR (n:=n) (φ:=φ) (cs:=[.t t]) (o:=0) (v:= .c (.t t)) al (.cons U .nil) rfl (λj s=>by
          have:j=0:=(by simpa using s);subst this
          rw[iq k1,rp,V];rfl) (by simp[jd,D])
         exact Good.pure R (z _ _ _ h1 ag) k e
   grind
 . rename_i ts F;simp only[bn,dG]at he;obtain⟨v0,l,rfl,rfl,rfl⟩:=he;obtain⟨blk,off,f,h1,ab⟩:=(cc R I r ai).1.dJ;have m:aV (bK w S) ts ((List.range ts.length).map f):=by
    grind[aV.kF]
   obtain⟨y,ag,k,e⟩:=qR (n:=n) al (aV.Q8 m) (KR n _) (blk:=blk) (off0:=off) (λj s=>by simp_all) (LS l);exact Good.pure R (z _ _ _ h1 ag) k e
 grind
theorem KS{k:Nat}{s t:T}{b:Bool}(h:xR k s t=some b){ty:TypeId}(c:pK P ty=some k){x y:Value}(I:bK w S s x)(ag:bK w S t y)(d:Nat):
 (Op.equalIn (d+1) ty x y).run P w= .ok b w:=by
 have f:∀a b:ar,(a==b)=decide (a=b):=λa b=>by grind
 unfold pK at c;unfold xR at h;split at h
 . cases h;cases I;cases ag;split at c<;>simp at c;rename_i e;unfold Op.equalIn;simp only[Sem.run_bind,run_underlying e];rfl
 . simp at h;obtain⟨rfl,rfl⟩:=h;cases I;cases ag;split at c<;>simp at c;rename_i e;unfold Op.equalIn;simp only[Sem.run_bind,run_underlying e,Result.andThen_ok];rfl
 . cases I with|str s1 h1=>cases ag with|str i g=>
   split at c<;>simp at c;rename_i e;unfold Op.equalIn;simp only[Sem.run_bind,run_underlying e,Result.andThen_ok];simp_all[beq_toListBytes,ByteArray.toList_eq]
 grind
theorem KT{ty:TypeId}{k:Nat}(h:pK P ty=some k):pH P ty=some false:=by
 grind[pK,pH]
theorem RR{d:Nat}{xs g:Array Value}:∀{fs:List Field} {i:Nat} {ks:aY} {ps qs:List C} {us vs:List Value} {r:Bool},yA P i fs=some ks->lr ks ps qs=some r->
 aV (bk φ w S) ps us->aV (bk φ w S) qs vs->xs.toList.drop i=us->g.toList.drop i=vs->(Op.eqFields (d+1) xs g fs).run P w= .ok r w
 |[],i,ks,ps,qs,us,vs,r,a,he,h1,c,aC,e=>by
  simp[yA]at a;subst a;cases ps<;>cases qs<;>simp[lr]at he;subst he;rfl
 |f::fs,i,ks,ps,qs,us,vs,r,a,he,h1,c,aC,e=>by
  simp[yA,bf]at a;obtain⟨⟨D,B⟩,k,s,F,t,rfl⟩:=a;unfold lr at he;split at he
  . grind
  . rename_i E G x H y I q;cases q;simp only[bf,bn]at he;obtain⟨b,p,J,A,rfl⟩:=he;cases h1 with|cons h1 n=>
    cases c with|cons c o=>
    rename_i u K v L;have ex:xs[i]?=some u:=by have:=dd (·[0]?) aC;grind
    have m:g[i]?=some v:=by have:=dd (·[0]?) e;grind
    have ih:=RR (d:=d) t A n o (by rw[<-wD,aC];rfl) (by rw[<-wD,e];rfl);have j:∀(l:Array _) (z:Value),l[i]?=some z->(part f.type l f.offset).run P w= .ok z w:=by
     simp_all[part,sO,KT]
    simp[Op.eqFields,j _ _ ex,j _ _ m,KS p s h1 c d];cases b
    all_goals simp_all
  grind
theorem Xt(R:Rel av nt φ S env J n a w){op:BinOp}{ty:TypeId}(A:o.op= .binOp op ty x y yt)(i:op= .eql\/op= .neq){ks:aY}(e:Ik P ty=some ks)
 {b c:aO}(I:bz x=some b)(ag:bz y=some c)
 {p v J'}(z:n key=false)(h:aL (.eqAgg (op== .neq) ks b c) env J key=some (p,v,J'))(ai:p):Good P av nt env J' (ins n key) a v ((execOp a.eval o).run P w):=by
 simp only[aL,bf]at h;obtain⟨⟨E,G⟩,f,⟨F,H⟩,g,he⟩:=h;simp at he;split at he
 . simp only[bn]at he;obtain⟨r,B,rfl,rfl,rfl⟩:=he;obtain⟨us,C,m⟩:=(cc R I f ai.1).1.lJ;obtain⟨vs,D,q⟩:=(cc R ag g ai.2).1.lJ;unfold Ik at e;split at e
   . rename_i fs u;have k:(eqGuard op ty x y (a.eval x) (a.eval y)).run P w= .ok () w:=(by simp_all[eqGuard]);have t:P.fieldsOf ty=fs:=(by grind[Program.fieldsOf]);have j:(Op.equal ty (.agg us.toArray) (.agg vs.toArray)).run P w= .ok r w:=by
      obtain⟨d,s⟩:∃d,Op.maxDepth=d+2:=⟨9998,rfl⟩
      grind[Op.equal,run_equalIn_struct,RR]
     have l:(binOp op ty (a.eval x) (a.eval y)).run P w= .ok (.bool (if(op== .neq)then !r else r)) w:=by
      rcases i with rfl|rfl
      . simp_all[binOp]
      simp_all[binOp]
     refine Good.pure R ?_ (.oL _) rfl;simp_all[execOp]
   grind
 grind
theorem rh{b:Nat}(h:w'.heap[b]?=w.heap[b]?)(j:Nat):w'.cell? ⟨b,j,none⟩=w.cell? ⟨b,j,none⟩:=by
 grind[World.cell?]
theorem nV{b:Nat}{o:Obj}(h:w.heap[b]?=some o):b<w.heap.size:=(zF.1 h).1
theorem cQ.jh{b:Nat}{x:bJ}(h:cQ φ w S b x)(h0:(φ b).2≠0):(φ b).1<w.heap.size:=by
 cases x with
 |box cs=>obtain⟨_,_,_,ab,_⟩:=h;grind
 |arr sz es=>obtain⟨_,_,_,_,bj⟩:=h;grind
 |set ks=>obtain⟨_,⟨_,_,ab,_⟩,_⟩:=h;grind
 |buf E s=>obtain⟨_,_,bj⟩:=h;grind
 |b3 E c=>obtain⟨_,⟨_,_,ab,_⟩,_⟩:=h;grind
 |cw sz es i o c=>obtain⟨_,⟨_,_,ab,_⟩,_⟩:=h;grind
theorem cQ.pM{b:Nat}{x:bJ}(h:cQ φ w S b x)(h0:(φ b).2≠0):∀j,¬S (φ b).1 j:=by
 cases x with
 |box cs=>obtain⟨_,_,_,_,_,hs⟩:=h;grind
 |arr sz es=>obtain⟨_,_,_,_,bj⟩:=h;grind
 |set ks=>exact h.2.2
 |buf E s=>exact(h.2.2 h0).2
 |b3 E c=>exact h.2.2
 |cw sz es i o c=>exact h.2.2
theorem cQ.mono{b:Nat}{x:bJ}(m:fY w S w' S)(q:∀b,n b=true->a8 b=φ b)(y:n b=true)(I:x.az n=true)(ab:(φ b).2≠0->w'.heap[(φ b).1]?=w.heap[(φ b).1]?)
 (h:cQ φ w S b x):cQ a8 w' S b x:=by
 cases x with
 |box cs=>
  obtain⟨h0,vs,E,h1,a,f⟩:=h;simp only[cQ,q b y];refine⟨h0,vs,E,(ab h0).trans h1,a.imp λc v D p=>bk.mono m q (by grind[bJ.az]) p,f⟩
 |arr sz es=>
  obtain⟨h1,a,f,A,bj⟩:=h;simp only[cQ,q b y];refine⟨h1,a,f,A,λh0=>?_⟩;obtain⟨vs,E,k1,k2,k3,k4⟩:=bj h0;exact⟨vs,E,(ab h0).trans k1,k2,λi j e t he ht=>let⟨v,B,p⟩:=k3 i j e t he ht;⟨v,B,bK.mono m p⟩,k4⟩
 |set ks=>
  grind[cQ]
 |buf E s=>
  grind[cQ]
 |b3 E c=>
  grind[cQ,bk.mono,bJ.az]
 |cw sz es i o c=>
  grind[cQ,bK.mono,bk.mono,bJ.az]
theorem Rel.world(R:Rel av nt φ S env J n a w)(W:Nat->Prop)(p:w'.os=w.os)(ht:w'.tape=w.tape)(o:w'.output=w.output)(hs:w.heap.size<=w'.heap.size)
 (c:∀b:Nat,b<w.heap.size->¬W b->w'.heap[b]?=w.heap[b]?)
 (eO:∀b,W b->(∀j,¬S b j)/\(∀k y,aR J k=some y->(φ k).2≠0->(φ k).1≠b)/\(av.B b\/av.iU.heap.size<=b)):Rel av nt φ S env J n a w':=by
 have m:fY w S w' S:=⟨λ_ _ h=>h,λb j h=>rh (c b (R.bB.st b j h) (λe=>(eO b e).1 j h)) j⟩
 refine⟨⟨λb x I=>?_,R.bB.inj,λb j h=>jf (R.bB.st b j h) hs⟩,λk g v ae al=>?_,R.gN,R.fO,R.dp,R.size,R.defers,?_,R.own,R.fix,R.gb⟩
 . have f:=R.bB.blk b x I;exact cQ.mono m (λ_ _=>rfl) (R.dp b x I).1 (R.dp b x I).2 (λh0=>c _ (f.jh h0) (λe=>(eO _ e).2.1 b x I h0 rfl)) f
 . obtain⟨x,I,q⟩:=R.fP k g v ae al;exact⟨x,I,bS.mono m (λ_ _=>rfl) (R.fO k g v ae al) q⟩
 . refine⟨p.trans R.ext.os,ht.trans R.ext.tape,o.trans R.ext.output,fQ R.ext.size hs,λb aE c9=>?_,R.ext.mono.trans m,R.ext.kH⟩;rw[c b (jf aE R.ext.size) _]
   . exact R.ext.block b aE c9
   grind
theorem Rel.congr(R:Rel av nt φ S env J n a w)(h:∀b,aR J' b=aR J b):Rel av nt φ S env J' n a w:=
 ⟨⟨λb x I=>R.bB.blk b x (h b▸I),λb c x y I ag=>R.bB.inj b c x y (h b▸I) (h c▸ag),R.bB.st⟩,R.fP,R.gN,R.fO,λb x I=>R.dp b x (h b▸I),R.size,R.defers,R.ext,λb x I=>R.own b x (h b▸I),R.fix,R.gb⟩
theorem Rel.sub(R:Rel av nt φ S env J n a w)(h:∀b x,aR J' b=some x->aR J b=some x):Rel av nt φ S env J' n a w:=
 ⟨⟨λb x I=>R.bB.blk b x (h b x I),λb c x y I ag=>R.bB.inj b c x y (h b x I) (h c y ag),R.bB.st⟩,R.fP,R.gN,R.fO,λb x I=>R.dp b x (h b x I),R.size,R.defers,R.ext,λb x I=>R.own b x (h b x I),R.fix,R.gb⟩
theorem Rel.del(R:Rel av nt φ S env J n a w)(b:Nat):Rel av nt φ S env (gU J b) n a w:=
 R.sub λk x I=>by grind[e4]
theorem Rel.tT(R:Rel av nt φ S env J n a w)(c:∀b,n b=true->a8 b=φ b):Rel av nt a8 S env J n a w:=by
 refine⟨⟨λb x I=>?_,λb e x y I ag=>?_,R.bB.st⟩,λk g v ae al=>?_,R.gN,R.fO,R.dp,R.size,R.defers,R.ext,λb x I h0=>?_,λb f=>(c b (R.gb b f)).trans (R.fix b f),R.gb⟩
 . exact cQ.mono (fY.refl w S) c (R.dp b x I).1 (R.dp b x I).2 (λ_=>rfl) (R.bB.blk b x I)
 . rw[c b (R.dp b x I).1,c e (R.dp e y ag).1];exact R.bB.inj b e x y I ag
 . obtain⟨x,I,j⟩:=R.fP k g v ae al;exact⟨x,I,bS.mono (fY.refl w S) c (R.fO k g v ae al) j⟩
 . rw[c b (R.dp b x I).1]at h0⊢;exact R.own b x I h0
theorem Rel.put (R:Rel av nt φ S env J n a w){b:Nat}{x:bJ}(q:n b=true)(I:x.az n=true)(p:cQ φ w S b x)
 (t:(φ b).2≠0->(∀k y,aR J k=some y->k≠b->(φ k).2≠0->(φ k).1≠(φ b).1)/\(av.B (φ b).1\/av.iU.heap.size<=(φ b).1)):Rel av nt φ S env (cW J b x) n a w:=by
 refine⟨⟨λk y ag=>?_,λk j y o ag c f h0 e=>?_,R.bB.st⟩,R.fP,R.gN,R.fO,λk y ag=>?_,R.size,R.defers,R.ext,λk y ag h0=>?_,R.fix,R.gb⟩
 . rw[cS]at ag;split at ag
   . grind
   . exact R.bB.blk k y ag
 . rw[cS]at ag c;split at ag
   . grind
   . split at c
     . grind
     . exact R.bB.inj k j y o ag c f h0 e
 . rw[cS]at ag;split at ag
   . grind
   . exact R.dp k y ag
 . rw[cS]at ag;split at ag
   . grind
   . exact R.own k y ag h0
def dZ(φ:cU)(n:Nat)(q:Nat×Nat):cU:=λb=>if b=n then q else φ b
theorem tA{b:Nat}(a:n key=false)(h:n b=true):dZ φ key q b=φ b:=by grind[dZ]
theorem di{k:Nat}:dZ φ k q k=q:=by simp[dZ]
theorem Rel.je (R:Rel av nt φ S env J n a w)(c:n key=false){x:bJ}(q:Nat×Nat)(I:x.az n=true)(e:cQ (dZ φ key q) w S key x)
 (f:q.2≠0->(∀k y,aR J k=some y->(φ k).2≠0->(φ k).1≠q.1)/\(av.B q.1\/av.iU.heap.size<=q.1)):Rel av nt (dZ φ key q) S env (cW J key x) (ins n key) a w:=by
 refine((R.tT (λb h=>tA c h)).more (λ_ h=>jW h)).put aaR (bJ.hh (λ_ h=>jW h) I) e ?_;rw[di];intro h0;refine⟨λk y ag j h=>?_,(f h0).2⟩;rw[tA c (R.dp k y ag).1]at h⊢;grind
theorem qD{o:Obj}{b:Nat}(h:b<w.heap.size):(w.alloc o).heap[b]?=w.heap[b]?:=by
 show(w.heap.push o)[b]?=_;grind
theorem heap_alloc_new{o:Obj}:(w.alloc o).heap[w.heap.size]?=some o:=by
 show(w.heap.push o)[w.heap.size]?=_;simp
theorem Rel.alloc(R:Rel av nt φ S env J n a w)(o:Obj):Rel av nt φ S env J n a (w.alloc o):=
 R.world (λ_=>False) rfl rfl rfl (by simp) (λb c _=>qD c) (λ_ h=>h.elim)
theorem Rel.wA(R:Rel av nt φ S env J n a w)(o:Obj):fY w S (w.alloc o) S:=
 ⟨λ_ _ h=>h,λb j h=>rh (qD (R.bB.st b j h)) j⟩
theorem Rel.QN(R:Rel av nt φ S env J n a w)(e:n key=false)(f:aV (bk φ w S) cs vs)(o:cs.all (C.az n)=true)(E:TypeId):
 Rel av nt (dZ φ key (w.heap.size,1)) S env (cW J key (.box cs)) (ins n key) a (w.alloc (.cells vs.toArray E)):=by
 have m:=R.wA (.cells vs.toArray E);refine(R.alloc _).je e _ o ?_ ?_
 . simp only[cQ,di];refine⟨by simp,vs,E,heap_alloc_new,f.imp λc v q p=>bk.mono m (λb h=>tA e h) (by grind) p,λj h=>?_⟩;have:=R.bB.st _ _ h;grind
 . intro _;refine⟨λk y ag h0=>?_,.inr R.ext.size⟩;have:=(R.bB.blk k y ag).jh h0;grind
theorem sN{ty:TypeId}(h:jO P ty=some cs):∃i z,P.info? ty=some i/\i.zero=some z/\aV (bk φ w S) cs z.cells.toList/\cs.all (C.az n)=true:=by
 grind[jO,bf,HK]
theorem SF(R:Rel av nt φ S env J n a w){ty:TypeId}(j:o.op= .alloc ty)(b:jO P ty=some cs)
 {p v J'}(f:n key=false)(h:aL (.alloc cs) env J key=some (p,v,J'))(ai:p):Good P av nt env J' (ins n key) a v ((execOp a.eval o).run P w):=by
 obtain⟨rfl,rfl,rfl⟩:=h;obtain⟨i,z,g,b,d,e⟩:=sN b;have R':=R.QN f d e ty;refine⟨.pointer (some ⟨w.heap.size,0,none⟩),_,S,_,.inl ?_,.c ?_,by simp[V.az,C.az,ins],R'⟩
 . simp_all[execOp,Instr.alloc,zeroValue,typeInfo,newVar,newRow]
 grind[bk,di]
theorem aas(R:Rel av nt φ S env J n a w){ty:TypeId}(j:o.op= .box ty x){b:aO}(I:bz x=some b)
 {p v J'}(i:n key=false)(h:aL (.box b) env J key=some (p,v,J'))(ai:p):Good P av nt env J' (ins n key) a v ((execOp a.eval o).run P w):=by
 simp only[aL,bf,bn]at h;obtain⟨⟨k,l⟩,g,cs,f,rfl,rfl,rfl⟩:=h;have al:=cc R I g ai;obtain⟨d,e⟩:=mD al.1 f al.2;have R':=R.QN i d e ty;refine⟨.pointer (some ⟨w.heap.size,0,none⟩),_,S,_,.inl ?_,.c ?_,by simp[V.az,C.az,ins],R'⟩
 . simp[execOp,j,Instr.box,newVar,newRow]
 grind[bk,di]
def iO{α:Type}(vs:List α)(off:Nat)(xs:List α):List α:=vs.take off++xs++vs.drop (off+xs.length)
theorem nX{vs:List α}{xs:List α}(h:off+xs.length<=vs.length)(k:Nat):
 (iO vs off xs)[k]?=if k<off then vs[k]? else if k<off+xs.length then xs[k-off]? else vs[k]?:=by
 unfold iO;by_cases h1:k<off
 . grind
 grind
theorem pe{vs:List α}{xs:List α}(h:off+xs.length<=vs.length):(iO vs off xs).length=vs.length:=by
 grind[iO]
theorem S9{vs:List α}{x:α}{xs:List α}(h:off+(x::xs).length<=vs.length):iO (vs.set off x) (off+1) xs=iO vs off (x::xs):=by
 apply wP;grind[nX]
theorem SZ{b:Nat}(h:w.heap[b]?=some (.cells vs.toArray E (0,0)))(off:Nat)(v:Value):
 (w.setCell ⟨b,off,none⟩ v).heap[b]?=some (.cells (vs.set off v).toArray E (0,0))/\∀a,a≠b->(w.setCell ⟨b,off,none⟩ v).heap[a]?=w.heap[a]?:=by
 simp_all[World.setCell,GA,dn]
theorem lO{b:Nat}{E:TypeId}:∀(xs:List Value) (off i:Nat) (vs:List Value) (w:World),w.heap[b]?=some (.cells vs.toArray E (0,0))->off+i+xs.length<=vs.length->(∀x,x∈xs->x.oneCell'=true)->
 ∃w',(storeCells ⟨b,off,none⟩ xs i).run P w= .ok () w'/\w'.os=w.os/\w'.tape=w.tape/\w'.output=w.output/\w'.heap.size=w.heap.size/\
  w'.heap[b]?=some (.cells (iO vs (off+i) xs).toArray E (0,0))/\∀a:Nat,a≠b->w'.heap[a]?=w.heap[a]?
 |[],off,i,vs,w,h,ae,d=>⟨w,rfl,rfl,rfl,rfl,rfl,by simp[iO,h],λ_ _=>rfl⟩
 |x::xs,off,i,vs,w,h,ae,d=>by
  have l:Addr.add ⟨b,off,none⟩ i=⟨b,off+i,none⟩:=by grind[Addr.add]
  have aE:off+i<vs.length:=by grind
  have m:w.cell? ⟨b,off+i,none⟩=some vs[off+i]:=by rw[iq h];simp
  have n:w.frozen? ⟨b,off+i,none⟩=false:=by grind[World.frozen?]
  have hs:=SZ h (off+i) x;obtain⟨w',h1,e,f,g,bj,k,j⟩:=lO xs off (i+1) _ _ hs.1 (by grind) (λy ag=>d y (by grind));refine⟨w',?_,e,f,g,by simp_all,?_,λa c=>(j a c).trans (hs.2 a c)⟩
  . simp_all[storeCells,run_store]
  grind[S9]
theorem aV.fill{c:Type}{R:α->c->Prop}{cs a:List α}{vs xs:List c}(h:aV R cs vs)(k:aV R a xs)(o:Nat):aV R (cs.take o++a++cs.drop (o+a.length)) (iO vs o xs):=by
 rw[k.length];exact((h.take o).append k).append (h.drop _)
theorem Eu(h:aV (bk φ w S) cs xs):∀x,x∈xs->x.oneCell'=true:=by
 induction h with
 |nil=>simp
 |cons h _ ih=>
  intro x I;rcases dK.1 I with rfl|I
  . exact bk.iQ h
  grind
theorem bS.undef:bS φ w S (.aX []) undef:= .aX [] [] rfl (by simp)
theorem qJ:∀{cs:List C} {ts:List T} {xs:List Value},toTs cs=some ts->aV (bk φ w S) cs xs->aV (bK w S) ts xs
 |[],ts,xs,h,b=>by simp[toTs]at h;subst h;cases b;exact .nil
 |c::cs,ts,xs,h,b=>by
  simp[toTs,bf,bn]at h;obtain⟨t,ht,f,e,rfl⟩:=h;cases b with
  |cons h1 d=>
   refine .cons ?_ (qJ e d);unfold toT at ht;split at ht<;>simp at ht
   . subst ht;exact h1
   . subst ht;obtain⟨a,rfl⟩:=h1;exact bK.slice [] a 0 0 0 0 (λ_ _=>undef) (by simp) (by simp) (by simp) (by simp) (by simp) (by simp)
theorem vZ:∀{cs:List C} {ts:List T},toTs cs=some ts->ts.length=cs.length
 |[],ts,h=>by grind[toTs]
 |c::cs,ts,h=>by
  simp[toTs,bf,bn]at h;obtain⟨t,ht,b,a,rfl⟩:=h;simp[vZ a]
theorem Ed{n:Nat->Bool}{cs a:List C}(h:cs.all (C.az n)=true)(k:a.all (C.az n)=true)(o:Nat):(sn cs o a).all (C.az n)=true:=by
 grind[sn]
theorem vF{vs:List α}{p:Nat}{x:α}(h:p<vs.length)(q:Nat):(iO vs (p+0) [x])[q]?=if q=p then some x else vs[q]?:=by
 grind[nX]
theorem zT{sz i j a b:Nat}(d:j<sz)(e:b<sz)(h:i*sz+j=a*sz+b):i=a/\j=b:=by
 rcases Nat.lt_trichotomy i a with c|c|c
 . have:=eM sz (show i+1<=a from c);grind
 . grind
 . have:=eM sz (show a+1<=i from c);grind
theorem Rel.rewrite(R:Rel av nt φ S env J n a w){b:Nat}{x q:bJ}(f:aR J b=some x)(h0:(φ b).2≠0)(G:q.az n=true)
 (F:w'.os=w.os)(ht:w'.tape=w.tape)(E:w'.output=w.output)(hs:w'.heap.size=w.heap.size)(t:∀o:Nat,o≠(φ b).1->w'.heap[o]?=w.heap[o]?)
 (D:fY w S w' S->cQ φ w' S b q):Rel av nt φ S env (cW J b q) n a w':=by
 have v:=R.bB.blk b x f
 have A:=(R.del b).world _ F ht E (tJ hs.symm) (λk _ c=>t k c) (λk c=>by
  subst c;refine⟨v.pM h0,λk y ag c=>?_,R.own b x f h0⟩;rw[e4]at ag;split at ag
  . grind
  . rename_i p
    exactλe=>R.bB.inj k b y x ag f (dn p) c h0 e)
 have m:fY w S w' S:=⟨λ_ _ h=>h,λk j h=>rh (t k (λe=>v.pM h0 j (e▸h))) j⟩
 have B:=A.put (R.dp b x f).1 G (D m) (λ_=>⟨λk y ag p c=>by
  rw[e4]at ag;split at ag
  . grind
  . exact R.bB.inj k b y x ag f p c h0,R.own b x f h0⟩)
 refine B.congr λk=>?_;grind[cS,e4]
theorem Xu(R:Rel av nt φ S env J n a w){ty:TypeId}(bl:o.op= .store ty x y){k:Nat}(bi:dW P ty=some k){aA aB:aO}(I:bz x=some aA)(ag:bz y=some aB)
 {p v J'}(bh:n key=false)(h:aL (.store k aA aB) env J key=some (p,v,J'))(ai:p):Good P av nt env J' (ins n key) a v ((execOp a.eval o).run P w):=by
 simp only [aL,bf,eg] at h;obtain ⟨⟨bq,bs⟩,Q,⟨br,bt⟩,T,cs,G,V,he⟩:= h;simp only at he G;have Z:∀ (blk off:Nat) (xs:List Value) (w':World),a.eval x = .pointer (some ⟨blk,off,none⟩)->(a.eval y).cells.toList = xs->xs.length = k->(storeCells ⟨blk,off,none⟩ xs 0).run P w = .ok () w'->
  (execOp a.eval o).run P w= .ok .skip w':=by
  intro blk off xs w' h1 aE be bg;have bj:(a.eval y).cells.size=k:=by grind
  simp_all[execOp,Instr.storeAt,Instr.sureAddr,storeVar,i']
 split at he
 . rename_i b f;split at he
   . rename_i aR g;simp only[eg,dy,dG]at he;obtain⟨al,rfl,rfl,rfl⟩:=he;have h1:=(cc R I Q ai.1).1.gT;have q:=cc R ag T ai.2;obtain⟨l,u⟩:=mD q.1 G q.2;obtain⟨h0,vs,E,ab,aj,B⟩:=R.bB.blk _ _ g;have a7:=aj.length;have A:(a.eval y).cells.toList.length=k:=by rw[<-l.length,V]
     obtain⟨w',d,k1,k2,k3,k4,k5,k6⟩:=lO (P:=P) _ f 0 vs w ab (by omega) (Eu l);refine⟨undef,φ,S,w',.inr ⟨Z _ _ _ w' h1 rfl A d,rfl⟩,.undef,rfl,Rel.more ?_ λ_ h=>jW h⟩;refine R.rewrite g h0 (by simpa[bJ.az]using Ed ((R.dp _ _ g).2) u f) k1 k2 k3 k4 k6 (λm=>?_);refine⟨h0,_,E,k5,?_,B⟩;exact(aj.imp λc v N d=>bk.mono m (λ_ _=>rfl) (e'.1 (R.dp _ _ g).2 c N) d).fill (l.imp λc v N d=>bk.mono m (λ_ _=>rfl) (e'.1 u c N) d) f
   . rename_i E aD g;split at he
     . rename_i c;simp only[dy,dG]at he;obtain⟨rfl,rfl,rfl⟩:=he;have h1:=(cc R I Q ai.1).1.gT;have q:=cc R ag T ai.2;obtain⟨l,u⟩:=mD q.1 G q.2;obtain⟨h0,⟨aK,bd,ab,aZ,bm⟩,B⟩:=R.bB.blk _ _ g;have A:(a.eval y).cells.toList.length=k:=by rw[<-l.length,V]
       have aa:k=1:=by rw[<-V];rfl
       obtain⟨s,M⟩:∃s,(a.eval y).cells.toList=[s]:=by
        match h:(a.eval y).cells.toList with
        |[s]=>exact⟨s,rfl⟩
        |[]=>rw[h]at A;simp at A;omega
        |_::_::_=>rw[h]at A;simp at A;omega
       obtain⟨w',d,k1,k2,k3,k4,k5,k6⟩:=lO (P:=P) (a.eval y).cells.toList 1 0 [aK,bd] w (b:=(φ b).1) (E:=E) ab (by rw[M];simp) (Eu l);rw[M]at l k5;cases l with|cons au _=>
       have F:c.az n=true:=(by simpa using u);refine⟨undef,φ,S,w',.inr ⟨Z _ _ _ w' h1 rfl A d,rfl⟩,.undef,rfl,Rel.more ?_ λ_ h=>jW h⟩;refine R.rewrite g h0 (by simpa[bJ.az]using F) k1 k2 k3 k4 k6 (λm=>?_);exact⟨h0,⟨aK,s,k5,aZ,bk.mono m (λ_ _=>rfl) F au⟩,B⟩
     . cases he
   grind
 . rename_i b sz i f;have az:∀{c:C} {xs:List Value},aV (bk φ w S) [c] xs->∃x,xs=[x]/\bk φ w S c x:=by
    intro c xs h;cases h with|cons h1 aE=>cases aE;grind
   split at he
   rotate_left
   . rename_i aR g;simp only[eg,dy,dG]at he;obtain⟨al,rfl,rfl,rfl⟩:=he;have h1:=(cc R I Q ai.1).1.hE;have q:=cc R ag T ai.2;obtain⟨l,u⟩:=mD q.1 G q.2;obtain⟨h0,vs,E,ab,aj,B⟩:=R.bB.blk _ _ g;have a7:=aj.length;have A:(a.eval y).cells.toList.length=k:=by rw[<-l.length,V]
     obtain⟨w',d,k1,k2,k3,k4,k5,k6⟩:=lO (P:=P) _ (i*sz+f) 0 vs w ab (by omega) (Eu l);refine⟨undef,φ,S,w',.inr ⟨Z _ _ _ w' h1 rfl A d,rfl⟩,.undef,rfl,Rel.more ?_ λ_ h=>jW h⟩;refine R.rewrite g h0 (by simpa[bJ.az]using Ed ((R.dp _ _ g).2) u (i*sz+f)) k1 k2 k3 k4 k6 (λm=>?_);refine⟨h0,_,E,k5,?_,B⟩;exact(aj.imp λc v N d=>bk.mono m (λ_ _=>rfl) (e'.1 (R.dp _ _ g).2 c N) d).fill (l.imp λc v N d=>bk.mono m (λ_ _=>rfl) (e'.1 u c N) d) (i*sz+f)
   rotate_left
   rotate_left
   . rename_i ba es g;split at he
     . rename_i c aY;have au:cs=[c]:=by
        unfold zY at aY;grind
       subst au;obtain⟨rfl,rfl,rfl⟩:=he;obtain⟨X,Y,rfl,H,aI⟩:=ai;have h1:=(cc R I Q X).1.hE;have q:=cc R ag T Y;obtain⟨l,u⟩:=mD q.1 G q.2;have aa:k=1:=by rw[<-V];rfl
       obtain⟨s,M,L⟩:=az l;have ah:=R.bB.blk _ _ g;obtain⟨h0,vs,E,xs,ab,ae,aT,A,ar,aw,al⟩:=Je ah H;obtain⟨g1,g2,g3,g4,aq⟩:=ah;obtain⟨bc,aM,ak,aX,ay,B⟩:=aq h0;rw[ab]at ak;cases ak;rw[h']at al;have K:i*sz+f<vs.length:=(by omega);obtain⟨w',d,k1,k2,k3,k4,k5,k6⟩:=lO (P:=P) [s] (i*sz+f) 0 vs w ab (by simp;omega) (λx I=>by rw[na.1 I];exact bk.iQ L);refine⟨undef,φ,S,w',.inr ⟨Z _ _ _ w' h1 M (by simp[aa]) d,rfl⟩,.undef,rfl,Rel.more ?_ λ_ h=>jW h⟩;have F:c.az n=true:=(by simpa using u);refine R.rewrite g h0 (by simpa[bJ.az]using F) k1 k2 k3 k4 k6 (λm=>?_);refine⟨⟨g1,g2,g3,g4,H,by omega⟩,⟨_,E,k5,by rw[pe (by simp;omega)];exact ae,λD j e t he ht W=>?_,s,?_,bk.mono m (λ_ _=>rfl) F L⟩,B⟩
       . obtain⟨v,r,d⟩:=ay _ _ _ _ he ht;have z:j<sz:=by rw[<-g3 _ (eN he)];exact(dH.1 ht).1
         rw[vF K,ao (λe=>W (zT z (by omega) e))];exact⟨v,r,bK.mono m d⟩
       . rw[vF K,ad rfl]
     simp only[bf,dy,dG]at he;obtain⟨ts,aJ,rfl,rfl,rfl⟩:=he;obtain⟨X,Y,rfl,H,aI⟩:=ai;have h1:=(cc R I Q X).1.hE;have q:=cc R ag T Y;obtain⟨l,u⟩:=mD q.1 G q.2;have a6:=qJ aJ l;have bn:=vZ aJ;have ah:=R.bB.blk _ _ g;obtain⟨h0,vs,E,xs,ab,ae,aT,A,ar,aw,al⟩:=Je ah H;obtain⟨g1,g2,g3,g4,aq⟩:=ah;obtain⟨bc,aM,ak,aX,ay,B⟩:=aq h0;rw[ab]at ak;cases ak;rw[h']at al;have a9:(a.eval y).cells.toList.length=k:=by rw[<-l.length,V]
     obtain⟨w',d,k1,k2,k3,k4,k5,k6⟩:=lO (P:=P) _ (i*sz+f) 0 vs w ab (by omega) (Eu l);have a0:=d;refine⟨undef,φ,S,w',.inr ⟨Z _ _ _ w' h1 rfl a9 a0,rfl⟩,.undef,rfl,Rel.more ?_ λ_ h=>jW h⟩;refine R.rewrite g h0 rfl k1 k2 k3 k4 k6 (λm=>?_);refine⟨by simpa using g1,by simpa using g2,?_,g4,λ_=>⟨_,E,k5,by rw[pe (by omega)];exact ae,?_,B⟩⟩
     . intro e he;rcases CN he with he|rfl
       . exact g3 e he
       . simp;omega
     . intro D j e t he ht;rw[rp,nX (by omega)];rw[CC]at he;by_cases U:i=D
       . subst U;rw[ad rfl,ad H]at he;cases he;have aW:=(dH.1 ht).1;simp at aW;have z:j<sz:=(by omega);have O:=(nX (vs:=el es i) (off:=f) (xs:=ts) (by omega) j)
         unfold iO at O;rw[show f+ts.length=f+k by omega]at O;rw[O]at ht;by_cases af:j<f
         . rw[ad af]at ht;rw[eF,aw j z];obtain⟨v,r,d⟩:=ar.get ht;exact⟨v,r,bK.mono m d⟩
         . rw[ao af]at ht;rw[a'];by_cases ap:j<f+k
           . rw[eF]at ht;rw[eF,show i*sz+j-(i*sz+f)=j-f by omega];obtain⟨v,r,d⟩:=a6.get ht;exact⟨v,r,bK.mono m d⟩
           . rw[a']at ht;rw[a',aw j z];obtain⟨v,r,d⟩:=ar.get ht;exact⟨v,r,bK.mono m d⟩
       . rw[ao U]at he;obtain⟨v,r,d⟩:=ay _ _ _ _ he ht;have z:j<sz:=by rw[<-g3 _ (eN he)];exact(dH.1 ht).1
         have:D*sz+j<i*sz+f\/i*sz+f+k<=D*sz+j:=by
          rcases Nat.lt_or_gt_of_ne U with h|h
          . right;have:=eM sz (show i+1<=D from h);grind
          . left;have:=eM sz (show D+1<=i from h);grind
         rcases this with h|h
         . rw[ad h];exact⟨v,r,bK.mono m d⟩
         . rw[a',a'];exact⟨v,r,bK.mono m d⟩
   . rename_i ba es bo bp aD g;obtain⟨⟨a1,a2,a3,a4,a5,am⟩,⟨vs,E,b1,b2,an,aQ,aN,aP⟩,aC⟩:=R.bB.blk _ _ g;have aF:aD.az n=true:=(by simpa[bJ.az]using(R.dp _ _ g).2);have h0:(φ b).2≠0:=(by omega);split at he
     . rename_i c;have aa:k=1:=by rw[<-V];rfl
       split at he
       . rename_i ax;subst ax;obtain⟨rfl,rfl,rfl⟩:=he;obtain⟨X,Y,rfl,rfl⟩:=ai;have h1:=(cc R I Q X).1.hE;have q:=cc R ag T Y;obtain⟨l,u⟩:=mD q.1 G q.2;obtain⟨s,M,L⟩:=az l;have K:i*sz+f<vs.length:=by
          rw[b2];have:=eM sz (show i+1<=(φ b).2 by omega);rw[h']at this;omega
         obtain⟨w',d,k1,k2,k3,k4,k5,k6⟩:=lO (P:=P) [s] (i*sz+f) 0 vs w b1 (by simp;omega) (λx I=>by rw[na.1 I];exact bk.iQ L);refine⟨undef,φ,S,w',.inr ⟨Z _ _ _ w' h1 M (by simp[aa]) d,rfl⟩,.undef,rfl,Rel.more ?_ λ_ h=>jW h⟩;have F:c.az n=true:=(by simpa using u);refine R.rewrite g h0 (by simpa[bJ.az]using F) k1 k2 k3 k4 k6 (λm=>?_);refine⟨⟨a1,a2,a3,a4,a5,am⟩,⟨_,E,k5,by rw[pe (by simp;omega)];exact b2,λD j e t he ht W=>?_,s,?_,bk.mono m (λ_ _=>rfl) F L⟩,aC⟩
         . obtain⟨v,r,d⟩:=an _ _ _ _ he ht W;have z:j<sz:=by rw[<-a3 _ (eN he)];exact(dH.1 ht).1
           rw[vF K,ao (λe=>W (zT z am e))];exact⟨v,r,bK.mono m d⟩
         . rw[vF K,ad rfl]
       . rename_i ax;simp only[bf,dy,dG]at he;obtain⟨t,aS,rfl,rfl,rfl⟩:=he;obtain⟨X,Y,rfl,H,aI⟩:=ai;have h1:=(cc R I Q X).1.hE;have q:=cc R ag T Y;obtain⟨l,u⟩:=mD q.1 G q.2;obtain⟨s,M,L⟩:=az l;have a8:bK w S t s:=by
          have h1:=qJ (cs:=[c]) (ts:=[t]) (xs:=[s]) (by simp[toTs,aS]) (.cons L .nil);cases h1 with|cons h _=>grind
         have K:i*sz+f<vs.length:=by
          have:=eM sz (show i+1<=(φ b).2 by omega);rw[h']at this;omega
         obtain⟨w',d,k1,k2,k3,k4,k5,k6⟩:=lO (P:=P) [s] (i*sz+f) 0 vs w b1 (by simp;omega) (λx I=>by rw[na.1 I];exact bk.iQ L);refine⟨undef,φ,S,w',.inr ⟨Z _ _ _ w' h1 M (by simp[aa]) d,rfl⟩,.undef,rfl,Rel.more ?_ λ_ h=>jW h⟩;refine R.rewrite g h0 (by simpa[bJ.az]using aF) k1 k2 k3 k4 k6 (λm=>?_);have aG:es[i]?=some (el es i):=by unfold el;rw[List.getD,eC H];rfl
         have aU:(el es i).length=sz:=a3 _ (eN aG);refine⟨⟨by grind,by simpa using a2,λe he=>?_,a4,by simpa using a5,am⟩,⟨_,E,k5,by rw[pe (by simp;omega)];exact b2,λD j e bb he ht W=>?_,aQ,?_,bk.mono m (λ_ _=>rfl) aF aP⟩,aC⟩
         . rcases CN he with he|rfl
           . exact a3 e he
           . simp;omega
         . rw[vF K];rw[CC]at he;by_cases U:i=D
           . subst U;rw[ad rfl,ad H]at he;cases he;have O:=(nX (vs:=el es i) (off:=f) (xs:=[t]) (by simp;omega) j)
             unfold iO at O;rw[show f+[t].length=f+k by simp[aa]]at O;rw[O]at ht;by_cases af:j=f
             . subst af;rw[a',eF,Nat.sub_self]at ht;cases ht;rw[ad rfl];exact⟨s,rfl,bK.mono m a8⟩
             . have aH:(el es i)[j]?=some bb:=by
                by_cases ap:j<f
                . rwa [ad ap]at ht
                . rwa [ao ap,a']at ht
               have z:j<sz:=by rw[<-aU];exact(dH.1 aH).1
               obtain⟨v,r,d⟩:=an _ _ _ _ aG aH W;rw[ao (λe=>af (zT z (by omega) e).2)];exact⟨v,r,bK.mono m d⟩
           . rw[ao U]at he;obtain⟨v,r,d⟩:=an _ _ _ _ he ht W;have z:j<sz:=by rw[<-a3 _ (eN he)];exact(dH.1 ht).1
             rw[ao (λe=>U (zT z (by omega) e).1.symm)];exact⟨v,r,bK.mono m d⟩
         . rw[vF K,ao (λe=>ax (zT am (by omega) e).2.symm)];exact aN
     . cases he
   . cases he
 . cases he
theorem S':∀(xs:List Value) (k off:Nat) (cs:Array Value),off+k+xs.length<=cs.size->
 (((xs.zipIdx k).foldl (λcs (c,j)=>cs.setIfInBounds (off+j) c) cs):Array Value).toList=iO cs.toList (off+k) xs
 |[],k,off,cs,h=>by simp[iO]
 |x::xs,k,off,cs,h=>by
  rw[List.zipIdx_cons,rz,S' xs _ _ _ (by grind)];grind[S9]
theorem Ju{a:Array Value}{i:Nat}{r:List (Nat×Value)}{sz:Nat}(ai:place i=some (off,sz))(h1:v.cells.size=sz)(b:off+sz<=a.size):
 Instr.fill place a ((i,v)::r)=Instr.fill place (iO a.toList off v.cells.toList).toArray r:=by
 simp only[Instr.fill,ai];rw[ao (by grind)]
 congr 1
 have:=S' v.cells.toList 0 off a (by grind);rw[<-Array.foldl_toList];grind
theorem S0 {fs:Array Field}{place:Nat->Option (Nat×Nat)}(R:Rel av nt φ S env J n a w)
 (m:∀(j:Nat) f k,fs[j]?=some f->dW P f.type=some k->place j=some (f.offset,k)):
 ∀{parts:List (Nat×Operand)} {ps:List (Nat×Nat×aO)} {cs:List C} {vs:List Value} {p:Prop} {b:List C},wa P fs parts=some ps->ln env cs ps=some (p,b)->p->
  aV (bk φ w S) cs vs->cs.all (C.az n)=true->
  ∃us:List Value,Instr.fill place vs.toArray (parts.map λ(i,x)=>(i,a.eval x))=some us.toArray/\aV (bk φ w S) b us/\b.all (C.az n)=true
 |[],ps,cs,vs,p,b,e,d,ai,c,g=>by
  grind[wa,ln,Instr.fill]
 |(j,x)::r,ps,cs,vs,p,b,e,d,ai,c,g=>by
  simp[wa,bf,bn]at e;obtain⟨f,u,k,y,B,I,K,z,rfl⟩:=e;simp only[ln,bf,eg,bn]at d;obtain⟨⟨q,v⟩,al,es,t,⟨h1,E⟩,⟨L,D⟩,s,rfl,rfl⟩:=d;have l:=cc R I al ai.1;obtain⟨o,A⟩:=mD l.1 t l.2;have ae:=c.length;have H:=o.length;obtain⟨us,F,G,bj⟩:=S0 R m z s ai.2 (by exact c.fill o _) (Ed g A _);simp;rw[Ju (m j f k u y) (by grind) (by grind)];grind
theorem RS{place:Nat->Option (Nat×Nat)}{m:Nat}(R:Rel av nt φ S env J n a w)(k:∀j,place j=some (j*m,m)):
 ∀{parts:List (Nat×Operand)} {ps:List (Nat×Nat×aO)} {cs:List C} {vs:List Value} {p:Prop} {b:List C},vE m parts=some ps->ln env cs ps=some (p,b)->p->
  aV (bk φ w S) cs vs->cs.all (C.az n)=true->
  ∃us:List Value,Instr.fill place vs.toArray (parts.map λ(i,x)=>(i,a.eval x))=some us.toArray/\aV (bk φ w S) b us/\b.all (C.az n)=true
 |[],ps,cs,vs,p,b,e,d,ai,c,f=>by
  grind[vE,ln,Instr.fill]
 |(j,x)::r,ps,cs,vs,p,b,e,d,ai,c,f=>by
  simp[vE,bf,bn]at e;obtain⟨y,I,F,t,rfl⟩:=e;simp only[ln,bf,eg,bn]at d;obtain⟨⟨q,v⟩,al,es,s,⟨h1,A⟩,⟨G,z⟩,o,rfl,rfl⟩:=d;have g:=cc R I al ai.1;obtain⟨l,u⟩:=mD g.1 s g.2;have ae:=c.length;have E:=l.length;obtain⟨us,B,D,bj⟩:=RS R k t o ai.2 (by exact c.fill l _) (Ed f u _);simp;rw[Ju (k j) (by grind) (by grind)];grind
theorem Yh{fs:List Field}(h:∀f,f∈fs->∃k,dW P f.type=some k):
 ∃ps:List (Nat×Nat),(fs.mapM λf=>do pure (f.offset,<-sizeOf f.type):Sem (List (Nat×Nat))).run P w= .ok ps w/\ps.length=fs.length/\∀(j:Nat) f k,fs[j]?=some f->dW P f.type=some k->ps[j]?=some (f.offset,k):=by
 induction fs with
 |nil=>simp
 |cons f fs ih=>
  obtain⟨ps,h1,ae,a⟩:=ih λf b=>h f (by grind);obtain⟨k,c⟩:=h f (by simp);refine⟨(f.offset,k)::ps,?_,by grind,?_⟩
  . simp_all[i']
  grind
theorem Xv(R:Rel av nt φ S env J n a w){ty:TypeId}{parts:Array (Nat×Operand)}(l:o.op= .build ty parts)(r:P.underlying ty=some (.struct fs))(y:IL P fs=true)
 {z:List C}(s:jO P ty=some z){ps:List (Nat×Nat×aO)}(m:wa P fs parts.toList=some ps)
 {p v J'}(g:n key=false)(h:aL (.build z ps) env J key=some (p,v,J'))(ai:p):Good P av nt env J' (ins n key) a v ((execOp a.eval o).run P w):=by
 simp only[aL,bn]at h;obtain⟨⟨q,t⟩,d,rfl,rfl,rfl⟩:=h;obtain⟨i,H,A,G,c,e⟩:=sN s
 obtain⟨pl,B,E,F⟩:=Yh (P:=P) (w:=w) (fs:=fs.toList) (by
  grind[IL,Option.isSome_iff_exists])
 have D:(fs.mapM λf=>do pure (f.offset,<-sizeOf f.type):Sem _).run P w= .ok pl.toArray w:=by
  simp_all[Array.mapM_eq_mapM_toList]
 obtain⟨us,h1,b,u⟩:=S0 (place:=(pl.toArray[·]?)) R (λj f k x g=>by grind) m d ai c e;refine Good.pure R ?_ (.agg b) (by grind[V.az]);simp only[execOp,l,Instr.build,zeroValue,typeInfo,Sem.run_bind,run_program,Result.andThen_ok,Sem.run_pure,underlying,r];simp_all
theorem Wy(R:Rel av nt φ S env J n a w){ty:TypeId}{parts:Array (Nat×Operand)}(r:o.op= .build ty parts){len:Nat}(t:P.underlying ty=some (.array len e)){m:Nat}(l:dW P e=some m)
 {z:List C}(u:jO P ty=some z){ps:List (Nat×Nat×aO)}(s:vE m parts.toList=some ps)
 {p v J'}(E:n key=false)(h:aL (.build z ps) env J key=some (p,v,J'))(ai:p):Good P av nt env J' (ins n key) a v ((execOp a.eval o).run P w):=by
 simp only[aL,bn]at h;obtain⟨⟨q,B⟩,f,rfl,rfl,rfl⟩:=h;obtain⟨i,A,k,y,d,g⟩:=sN u;obtain⟨us,h1,c,D⟩:=RS R (λj=>rfl) s f ai d g;refine Good.pure R ?_ (.agg c) (by grind[V.az]);have b:Instr.fill (λi=>some (i*m,m)) A.cells ((parts.map λ(i,x)=>(i,a.eval x)).toList)=some us.toArray:=by simp_all
 simp at b;simp[execOp,r,Instr.build,zeroValue,typeInfo,k,y,underlying,t,i' l,b]
def ik(w:World)(S:cR)(sz:Nat)(es:List (List T))(vs:List Value):Prop:=
 ∀(i j:Nat) e t,es[i]?=some e->e[j]?=some t->∃v,vs[i*sz+j]?=some v/\bK w S t v
theorem HL{sz:Nat}(R:Rel av nt φ S env J n a w)(h0:0<sz):
 ∀{parts:List (Nat×Operand)} {ps:List (Nat×aO)} {es:List (List T)} {vs:List Value} {p:Prop} {c:List (List T)},pz parts=some ps->jw env sz es ps=some (p,c)->p->
  (∀e,e∈es->e.length=sz)->vs.length=es.length*sz->ik w S sz es vs->
  ∃us:List Value,Instr.fill (λi=>some (i*sz,sz)) vs.toArray (parts.map λ(i,x)=>(i,a.eval x))=some us.toArray/\(∀e,e∈c->e.length=sz)/\c.length=es.length/\us.length=vs.length/\ik w S sz c us/\(∀u,u∈us->u∈us)
 |[],ps,es,vs,p,c,g,d,ai,y,ae,k=>by
  grind[pz,jw,Instr.fill]
 |(b,x)::r,ps,es,vs,p,c,g,d,ai,y,ae,k=>by
  simp[pz,bf,bn]at g;obtain⟨G,I,Q,D,rfl⟩:=g;simp only[jw,bf,eg,bn]at d;obtain⟨⟨q,v⟩,al,cs,C,ts,E,⟨h1,l⟩,⟨U,H⟩,B,rfl,rfl⟩:=d;have m:=cc R I al ai.1;obtain⟨F,O⟩:=mD m.1 C m.2;have s:=qJ E F;have P:=s.length;have N:b*sz+sz<=vs.length:=by
   have:=eM sz (show b+1<=es.length from l);grind
  obtain ⟨us,K,z,bj,L,A,M⟩:= HL R h0 D B ai.2 (vs:= iO vs (b*sz) (a.eval x).cells.toList) (by
   grind) (by grind[pe]) (by
   intro i j e t he ht;rw[nX (by omega)];rw[CC]at he;by_cases f:b=i
   . subst f;rw[ad rfl,ad l]at he;cases he;have o:=(dH.1 ht).1;rw[c2,eF,show b*sz+j-b*sz=j by simp];exact s.get ht
   . rw[ao f]at he;have o:=(dH.1 ht).1;rw[y _ (eN he)]at o;rcases Nat.lt_or_gt_of_ne f with h|h
     . have:=eM sz (show b+1<=i from h);rw[h']at this;rw[a',a'];exact k _ _ _ _ he ht
     . have:=eM sz (show i+1<=b from h);rw[h']at this;rw[eF]
       exact k _ _ _ _ he ht)
  refine⟨us,?_,z,by grind,by grind[pe],A,λ_ h=>h⟩;simp only[jI];rw[Ju rfl (by grind) (by grind)];grind
theorem D6{z:Array Value}{sz len:Nat}(c:z.size=sz)(h0:0<sz)(i j:Nat)(a:i<len)(b:j<sz):
 ((Array.range (len*sz)).map (z[· % z.size]!))[i*sz+j]?=z[j]?:=by
 have aE:i*sz+j<len*sz:=by
  have:=eM sz (show i+1<=len from a);grind
 simp_all[rv]
theorem RT{ty:TypeId}{len:Nat}{parts:Array (Nat×Value)}(g:P.underlying ty=some (.slice e)){sz:Nat}(f:dW P e=some sz){i:TypeInfo}{a:Value}(n:P.info? e=some i)(p:i.zero=some a)
 (h0:sz≠0)(o:len*sz<=2^24){b:Array Value}(k:b=(Array.range (len*sz)).map (a.cells[· % a.cells.size]!)){us:List Value}(c:Instr.fill (λi=>some (i*sz,sz)) b parts.toList=some us.toArray):
 (Instr.buildSlice ty len parts).run P w= .ok (.slice (some ⟨w.heap.size,0,none⟩) len len) (w.alloc (.cells us.toArray e)):=by
 have d:¬(len*sz>2^24):=by omega
 have m:∀w,(zeroValue e).run P w= .ok a w:=by simp_all[zeroValue,typeInfo]
 by_cases ae:len*sz=0
 . have l:b=#[]:=(by grind);subst l;have j:(Array.map (λx=>(#[]:Array Value)[x%(#[]:Array Value).size]!) (Array.range (len*sz)))=#[]:=(by grind);unfold Instr.buildSlice;simp only[Sem.run_bind,run_underlying g,Result.andThen_ok,i' f,ao d,ad ae,Sem.run_pure,j,c];rfl
 . unfold Instr.buildSlice;subst k;simp only[Sem.run_bind,run_underlying g,Result.andThen_ok,i' f,ao d,ao ae,Sem.run_pure,m,c];rfl
theorem Xw(R:Rel av nt φ S env J n a w){ty:TypeId}{len:Nat}{parts:Array (Nat×Operand)}(Z:o.op= .buildSlice ty len parts)(ab:P.underlying ty=some (.slice e)){sz:Nat}(aa:dW P e=some sz)
 {z:List C}(K:jO P e=some z){ps:List (Nat×aO)}(F:pz parts.toList=some ps)(h0:sz≠0)(L:z.length=sz)(X:len*sz<=2^24)
 {p v J'}(E:n key=false)(h:aL (.bslice sz len z ps) env J key=some (p,v,J'))(ai:p):Good P av nt env J' (ins n key) a v ((execOp a.eval o).run P w):=by
 simp only[aL,bf,bn]at h;obtain⟨l,O,⟨q,u⟩,D,rfl,rfl,rfl⟩:=h;obtain⟨i,f,d,af,g,U⟩:=sN (φ:=φ) (w:=w) (S:=S) (n:=n) K;have N:=qJ O g;have M:f.cells.size=sz:=by rw[<-zv,<-g.length,L]
 have b:0<sz:=by omega
 have ae:l.length=sz:=by grind[vZ]
 obtain ⟨us,h1,A,B,T,bj,_⟩:= HL R b F D ai (vs:= ((Array.range (len*sz)).map _).toList) (by
  grind) (by simp) (by
  intro i j e t he ht;have d:=(dH.1 he).1;simp at d;have:e=l:=by
   grind
  subst this;have W:=(dH.1 ht).1;obtain⟨x,I,G⟩:=N.get ht;rw[zK,D6 M b i j d (by omega)]
  grind)
 simp at B;have H:us.length=len*sz:=by grind
 have r:=R.alloc (.cells us.toArray e);have m:=R.wA (.cells us.toArray e);have Y:len<=c1:=by
  have:=Gy len b;grind[c1]
 have s:=r.je E (x:= .arr sz u) (w.heap.size,len) rfl (by
  simp only[cQ,di];refine⟨by omega,by omega,A,b,λ_=>⟨us,e,heap_alloc_new,H,λi j e t he ht=>?_,λj h=>?_⟩⟩
  . obtain⟨v,ad,G⟩:=bj i j e t he ht;grind[bK.mono]
  . have:=R.bB.st _ _ h
    omega) (λ_=>⟨λk y ag h0=>by
     have:=(R.bB.blk k y ag).jh h0
     grind,.inr R.ext.size⟩)
 refine⟨.slice (some ⟨w.heap.size,0,none⟩) len len,_,S,_,.inl ?_,.c ⟨some ⟨w.heap.size,0,none⟩,by simp[di],by simp[di],by simp[di]⟩,by simp[V.az,C.az,ins],s⟩;have Q:Instr.fill (λi=>some (i*sz,sz)) ((Array.range (len*sz)).map (f.cells[· % f.cells.size]!)) ((parts.map λ(i,x)=>(i,a.eval x)).toList)=some us.toArray:=by
  rw[Array.toList_map];omega
 simp_all[RT,execOp,Sem.run_bind,Result.andThen_ok]
theorem KU(a:Nat):∀(r c:Nat),c<=2*a+192->Builtin.growBy a r c<=2*a+192
 |0,c,h=>h
 |r+1,c,h=>by
  unfold Builtin.growBy;split
  . grind
  . exact KU _ r _ (by omega)
theorem Xg{a b:Nat}(h:b<a):Builtin.nextslicecap a b<=2*a+192:=by
 grind[Builtin.nextslicecap,KU]
theorem Ta(a:Nat):∀(r c:Nat),c<=a+a/4+512->Builtin.growBy a r c<=a+a/4+512
 |0,c,h=>h
 |r+1,c,h=>by
  unfold Builtin.growBy;split
  . grind
  . exact Ta _ r _ (by omega)
theorem V9{a b:Nat}(h:b<a):Builtin.nextslicecap a b<=a+a/4+512:=by
 grind[Builtin.nextslicecap,Ta]
theorem jx.not{e bytes:Nat}(h:f<e)(c:jx e bytes):¬(Builtin.nextslicecap e f*bytes>2^48):=by
 have a:=eM bytes (Xg h);have b:=eM bytes (V9 h);rcases c with c|c<;>unfold gJ at c<;>omega
theorem YB{p:α->Prop}{l m:List α}(h:∀x,x∈l->p x)(k:∀x,x∈m->p x):∀x,x∈l++m->p x:=by grind
def r0(P:Program)(w:World)(S:cR)(sz:Nat)(v:Value)(a:List (List T))(b:Option Nat):Prop:=
 (Builtin.lenOf v).run P w= .ok a.length w/\∃xs:List Value,(Builtin.firstCells sz a.length v).run P w= .ok xs.toArray w/\xs.length=a.length*sz/\ik w S sz a xs/\∀x,x∈xs->x.oneCell'=true
theorem Tb{sz k len:Nat}(h0:0<sz)(a:k<len*sz):k/sz<len/\k%sz<sz/\(k/sz)*sz+k%sz=k:=
 ⟨Nat.div_lt_of_lt_mul (by grind),Nat.mod_lt _ h0,by grind[Nat.div_add_mod]⟩
theorem ik.one{sz:Nat}{a:List (List T)}(h0:0<sz)(c:∀e,e∈a->e.length=sz)(ae:xs.length=a.length*sz)(h:ik w S sz a xs):∀x,x∈xs->x.oneCell'=true:=by
 intro x I;obtain⟨k,p,q⟩:=gQ I;obtain⟨h1,f,j⟩:=Tb h0 (by rw[<-ae];omega);have he:=eC h1;have o:=c _ (wC h1);have ht:(a[k/sz])[k%sz]?=some _:=eC (by omega);obtain⟨v,y,t⟩:=h _ _ _ _ he ht;grind[bK.iQ]
theorem yJ{b o m:Nat}(ae:xs.length=m)(h:∀j,j<m->w.cell? ⟨b,o+j,none⟩=xs[j]?):(loadCells ⟨b,o,none⟩ m).run P w= .ok xs.toArray w:=by
 grind[run_loadCells_list,Addr.add]
theorem Yi{sz:Nat}(h0:0<sz){d:List (List T)}(s:bK w S (.slice d) v)(m:∀e,e∈d->e.length=sz):r0 P w S sz v d none:=by
 obtain⟨a,cap,c,b,o,f,rfl,x,z,B,n,u,A⟩:=bK.jj s;refine⟨by rfl,?_⟩;by_cases g:d=[]
 . subst g;refine⟨[],?_,by simp,by intro i j e t he;grind,by simp⟩;cases a with
   |none=>rfl
   |some a=>simp[Builtin.firstCells,loadCells,loadCellsFrom]
 . have r:c=sz:=by
    obtain⟨ds,y⟩:=CM d g;grind
   subst r;rw[n g];have I:((List.range (d.length*c)).map λk=>f (k/c) (k%c)).length=d.length*c:=(by simp);have l:ik w S c d ((List.range (d.length*c)).map λk=>f (k/c) (k%c)):=by
    intro i j e t he ht;have p:=(dH.1 he).1;have q:=(dH.1 ht).1;rw[m _ (eN he)]at q;have aE:i*c+j<d.length*c:=by
     have:=eM c (show i+1<=d.length from p);grind
    simp_all[Nat.add_comm,Nat.add_mul_div_right,Nat.div_eq_of_lt,rv]
   refine⟨_,?_,I,l,ik.one h0 m I l⟩;refine yJ I ?_;grind[Tb]
theorem Yj{sz:Nat}(b:bk φ w S .bD v):r0 P w S sz v [] none:=by
 obtain⟨a,rfl⟩:=b;refine⟨by rfl,[],?_,by simp,by intro i j e t he;grind,by simp⟩;cases a with
 |none=>rfl
 |some a=>simp[Builtin.firstCells,loadCells,loadCellsFrom]
theorem KV{sz b:Nat}{c:List (List T)}(c9:cQ φ w S b (.arr sz c))(n:bk φ w S (.arr b sz 0 c.length) v):r0 P w S sz v c (some b):=by
 obtain⟨a,rfl,k,p⟩:=bk.gn n;obtain⟨h1,o,f,g,bj⟩:=c9;refine⟨by rfl,?_⟩;by_cases h0:(φ b).2=0
 . have:c=[]:=kz (by omega);subst this;refine⟨[],?_,by simp,by intro i j e t he;grind,by simp⟩;cases a with
   |none=>rfl
   |some a=>simp[Builtin.firstCells,loadCells,loadCellsFrom]
 . obtain⟨vs,E,ab,ae,r,_⟩:=bj h0;rw[k h0];have q:c.length*sz<=vs.length:=(by simp_all[eM]);have I:(vs.take (c.length*sz)).length=c.length*sz:=(by grind);have d:ik w S sz c (vs.take (c.length*sz)):=by
    intro i j e t he ht;have l:=(dH.1 he).1;have aE:i*sz+j<c.length*sz:=by
     have:=eM sz (show i+1<=c.length from l);grind
    grind
   refine⟨_,?_,I,d,ik.one g f I d⟩;rw[CK];refine yJ I ?_;intro j m;rw[gx,iq ab,zw,ad m]
theorem r0.world{sz:Nat}{a:List (List T)}{b:Option Nat}(h:r0 P w S sz v a b){m:Nat}:∃xs:List Value,xs.length=a.length*sz/\ik w S sz a xs/\(∀x,x∈xs->x.oneCell'=true):=by
 obtain⟨_,xs,_,h1,c,e⟩:=h;grind
theorem RU(z:Array Value)(m:Nat):(Builtin.zeroCells z m).size=m*z.size:=by simp[Builtin.zeroCells]
theorem H3{st u:TypeId}{i:TypeInfo}{c:Value}(p:P.underlying st=some (.slice e))(s:P.underlying yt=some (.slice u))(g:P.info? e=some i)(A:i.zero=some c)(B:c.cells.size=i.size)
 {base:Option Addr}{sl sc a:Nat}{y:Value}{xs d:List Value}(q:(Builtin.lenOf y).run P w= .ok a w)
 (I:(Builtin.firstCells i.size sl (.slice base sl sc)).run P w.drew= .ok xs.toArray w.drew)(ag:(Builtin.firstCells i.size a y).run P w.drew= .ok d.toArray w.drew)
 (n:sc<sl+a)(k:jx (sl+a) i.bytes)(x:sl+a<=c1){tt:TypeId}:
 ∃(b:Nat) (r:List Value),sl+a<=b/\r.length=(b-(sl+a))*i.size/\
  (Builtin.append_ #[st,yt] tt #[.slice base sl sc,y]).run P w= .ok (.slice (some ⟨w.heap.size,0,none⟩) (sl+a) b) (w.drew.alloc (.cells (xs++d++r).toArray e)):=by
 have o:∀w,(sizeOf e).run P w= .ok i.size w:=λw=>by simp[sizeOf,typeInfo,g]
 have f:∀w,(typeInfo e).run P w= .ok i w:=λw=>by simp[typeInfo,g]
 have t:∀w,(zeroValue e).run P w= .ok c w:=λw=>by simp_all[zeroValue]
 generalize z:(Question.appendCap (sl+a) sc e).cut (w.tape w.drawn (Question.appendCap (sl+a) sc e))=b;have m:sl+a<=b:=by grind[Question.cut]
 have h1:¬(sl+a<=sc):=by omega
 have v:¬(sl+a>IntKind.i64.max/\(False\/i.bytes=0)):=by grind[IntKind.max,IntKind.bits,c1]
 have j:=by
  exact k.not n
 refine⟨b,(Builtin.zeroCells c.cells (b-(sl+a))).toList,m,by grind[RU],?_⟩;have l:(choose (.appendCap (sl+a) sc e)).run P w= .ok b w.drew:=by simp_all[Question.forced]
 have aC:(xs++d++(Builtin.zeroCells c.cells (b-(sl+a))).toList).toArray=xs.toArray++d.toArray++Builtin.zeroCells c.cells (b-(sl+a)):=by simp
 rw[aC];unfold Builtin.append_;simp only[Cw,Cu,Cv,Sem.run_bind,run_underlying p,run_underlying s,Result.andThen_ok,o,Sem.run_pure,cJ,cE,q,ao h1,f];rw[ao (by grind)];simp only[Sem.run_bind,Result.andThen_ok,f];rw[ao j];simp only[Sem.run_bind,Result.andThen_ok,f,l,run_askRoom,I,ag,t,gg,cm];rfl
theorem vl{st l:TypeId}{i:TypeInfo}(g:P.underlying st=some (.slice e))(k:P.underlying yt=some (.slice l))(d:P.info? e=some i)
 {base:Option Addr}{sl sc a:Nat}{y:Value}{c:List Value}(j:(Builtin.lenOf y).run P w= .ok a w)(ag:(Builtin.firstCells i.size a y).run P w= .ok c.toArray w)(n:sl+a<=sc){w':World}
 (hs:∀b,base=some b->(storeCells (b.add (sl*i.size)) c 0).run P w= .ok () w') (m:base=none->w'=w) {tt:TypeId}:
  (Builtin.append_ #[st,yt] tt #[.slice base sl sc,y]).run P w= .ok (.slice base (sl+a) sc) w':=by
 have f:∀w,(sizeOf e).run P w= .ok i.size w:=λw=>by simp[sizeOf,typeInfo,d]
 unfold Builtin.append_;simp only[Cw,Cu,Cv,Sem.run_bind,run_underlying g,run_underlying k,Result.andThen_ok,f,Sem.run_pure,cJ,cE,j];cases base<;>simp_all
theorem ik.append{sz:Nat}{a:List (List T)}{f r:List Value}(h0:0<sz)(v:∀e,e∈es->e.length=sz)(y:∀e,e∈a->e.length=sz)(I:xs.length=es.length*sz)(B:f.length=a.length*sz)
 (h1:ik w S sz es xs)(p:ik w S sz a f):ik w S sz (es++a) (xs++f++r):=by
 intro i j e t he ht;by_cases o:i<es.length
 . rw[wI o]at he;have c:=(dH.1 ht).1;rw[v _ (eN he)]at c;have:=eM sz (show i+1<=es.length from o);rw[h']at this;rw[kD,wI (by omega)];exact h1 _ _ _ _ he ht
 . rw[zG (by omega)]at he;have c:=(dH.1 ht).1;rw[y _ (eN he)]at c;have x:=(dH.1 he).1;have A:=eM sz (show es.length<=i by omega);have q:=eM sz (show(i-es.length)+1<=a.length from x);have bj:(i-es.length)*sz=i*sz-es.length*sz:=Nat.sub_mul _ _ _;rw[h']at q;rw[kD,zG (by omega),wI (by omega),show i*sz+j-xs.length=(i-es.length)*sz+j by omega];exact p _ _ _ _ he ht
theorem Rel.drew(R:Rel av nt φ S env J n a w):Rel av nt φ S env J n a w.drew:=
 R.world (λ_=>False) rfl rfl rfl (eB _) (λ_ _ _=>rfl) (λ_ h=>h.elim)
theorem vG(R:Rel av nt φ S env J n a w){f:aO}(ag:bz y=some f){v:V}(al:f.get env=some (p,v))(ai:p){sz:Nat}(h0:0<sz){d:List (List T)×Option Nat}
 (h:lG J v=some d)(m:∀e,e∈d.1->e.length=sz):r0 P w S sz (a.eval y) d.1 d.2:=by
 have c:=(cc R ag al ai).1;unfold lG at h;split at h
 . cases h;exact Yi h0 c.dJ m
 . cases h;exact Yj c.dJ
 . split at h
   . rename_i b r x u _ z s g;simp at h;obtain⟨⟨h1,rfl,rfl⟩,rfl⟩:=h;subst h1;by_cases l:s=[]
     . subst l;obtain⟨bR,q,_⟩:=bk.gn c.dJ;rw[q];refine⟨by rfl,[],?_,by simp,by intro i j e t he;grind,by simp⟩;cases bR with
       |none=>rfl
       |some a=>simp[Builtin.firstCells,loadCells,loadCellsFrom]
     . have o:r=sz:=by
        obtain⟨ds,k⟩:=CM _ l;rw[<-(R.bB.blk _ _ g).2.2.1 _ k,m _ k]
       subst o;exact KV (R.bB.blk _ _ g) c.dJ
   grind
 grind
theorem aat{sz b len:Nat}(c9:cQ φ w S b (.arr sz es))(o:bk φ w S (.fA b sz off len) v)(q:off+len<=es.length):r0 P w S sz v ((es.drop off).take len) none:=by
 obtain⟨a,cap,rfl,k,r⟩:=o;obtain⟨h1,p,f,g,bj⟩:=c9;have d:((es.drop off).take len).length=len:=by grind
 refine⟨by simp[Builtin.lenOf,d],?_⟩;rw[d];by_cases h0:len=0
 . subst h0;refine⟨[],?_,by simp,by intro i j e t he;grind,by simp⟩;cases a with
   |none=>rfl
   |some a=>simp[Builtin.firstCells,loadCells,loadCellsFrom]
 . obtain⟨vs,E,ab,ae,u,_⟩:=bj (by omega);rw[k h0];have s:off*sz+len*sz<=vs.length:=by rw[ae,<-h'];exact eM _ (by omega)
   have I:((vs.drop (off*sz)).take (len*sz)).length=len*sz:=(by grind);have n:∀e,e∈(es.drop off).take len->e.length=sz:=λe he=>f e (GD (wL he));have c:ik w S sz ((es.drop off).take len) ((vs.drop (off*sz)).take (len*sz)):=by
    intro i j e t he ht;have l:i<len:=(by grind);have aE:i*sz+j<len*sz:=by
     have:=eM sz (show i+1<=len from l);grind
    grind
   refine⟨_,?_,I,c,ik.one g n (by grind) c⟩;refine yJ I ?_;intro j m;rw[iq ab,zw,ad m,List.getElem?_drop]
theorem Yk(R:Rel av nt φ S env J n a w){x y:Operand}{st yt e aR:TypeId}(aI:o.op= .call {callee:= .builtin .append,args:=#[x,y],argTypes:=#[st,yt]})
 (ah:P.underlying st=some (.slice e))(ak:P.underlying yt=some (.slice aR)){i:TypeInfo}(Z:P.info? e=some i)(aX:i.size≠0)
 {O Q:aO}(I:bz x=some O)(ag:bz y=some Q){al am:Prop}{an ao:V}(aA:O.get env=some (al,an))(aB:Q.get env=some (am,ao)){r}
 {p v J'}(A:mc an ao=some r)(f:n key=false)(h:uC J key i.size al am r=some (p,v,J'))(ai:p):Good P av nt env J' (ins n key) a v ((execOp a.eval o).run P w):=by
 have af:∀r w',(Builtin.append_ #[st,yt] o.type #[a.eval x,a.eval y]).run P w= .ok r w'->(execOp a.eval o).run P w= .ok (.value r) w':=by
  intro r w' d;simp[execOp,aI,Go.resolve,invoke,builtin,d]
 unfold mc at A;split at A
 . rename_i b s1 off len aS aY D q;split at A
   . rename_i ay;subst ay;cases A;unfold uC at h;dsimp only at h;split at h
     . rename_i aZ es s;obtain⟨rfl,rfl,rfl⟩:=h;obtain⟨aJ,aK,rfl,rfl,rfl,rfl,aU,aG⟩:=ai;have az:=cc R I aA aJ;obtain⟨base,B,ax,aV⟩:=bk.gn az.1.dJ;have aC:=cc R ag aB aK;have u:=R.bB.blk _ _ s;obtain⟨K,N,L,M,aP,aN⟩:=aat (P:=P) u aC.1.dJ aG;obtain⟨g1,g2,g3,g4,aw⟩:=u;have aM:((es.drop D).take q).length=q:=by simp;omega
       rw[aM]at K L M;rw[Nat.sub_zero]at B;have z:len+q<=(φ b).2:=(by omega);have h0:0<i.size:=(by omega);have F:(es.take len++(es.drop D).take q).length=len+q:=(by grind);have aa:∀U,U∈es.take len++(es.drop D).take q->U.length=i.size:=by
        grind
       by_cases g:(φ b).2=0
       . have aE:len=0:=(by omega);have aF:q=0:=(by omega);subst aE aF;have aQ:N=[]:=kz (by grind);subst aQ;have d:=vl (tt:=o.type) ah ak Z (base:=base) (sl:=0) (sc:=(φ b).2) K L z (w':=w) (λar _=>by simp[storeCells]) (λ_=>rfl);rw[<-B]at d;have R':=(R.del b).je f (x:= .arr i.size (es.take 0++(es.drop D).take 0)) (0,0) rfl (by simp only[cQ,di];exact⟨by simp,by simp,by simp,h0,by simp⟩) (by simp);refine⟨_,_,S,w,.inl (af _ _ d),.c ?_,by simp[V.az,C.az,ins],R'⟩;exact⟨base,by simp[di,g,B],by simp[di],by simp[di]⟩
       . obtain⟨vs,E,ab,aj,aL,aH⟩:=aw g;have u:=R.bB.blk _ _ s;have Y:len*i.size+N.length<=vs.length:=by rw[M,aj,<-h'];exact eM _ z
         obtain⟨w',aW,k1,k2,k3,k4,k5,k6⟩:=lO (P:=P) N (len*i.size) 0 vs w ab (by omega) aN;rw[rp]at k5;have X:=ax g
         have d:=vl (tt:=o.type) ah ak Z (base:=base) (sl:=len) (sc:=(φ b).2) K L z (w':=w') (λar aT=>by
          grind[Addr.add]) (λW=>by rw[X]at W;cases W)
         rw[<-B]at d
         have ap:=(R.del b).world (w':=w') (λk=>k=(φ b).1) k1 k2 k3 (tJ k4.symm) (λk _ f=>k6 k f) (λk f=>by
          subst f;refine⟨u.pM g,λk y ag f=>?_,R.own b _ s g⟩;rw[e4]at ag;split at ag
          . cases ag
          . rename_i G
            exactλe=>R.bB.inj k b y _ ag s (dn G) f g e)
         have m:fY w S w' S:=⟨λ_ _ h=>h,λk j h=>rh (k6 k (λe=>u.pM g j (e▸h))) j⟩
         have aq:=ap.je f (x:= .arr i.size _) (φ b) rfl (by
          simp only[cQ,di];refine⟨by rw[F];exact z,by rw[F];omega,aa,h0,λ_=>⟨_,E,k5,by rw[pe Y];exact aj,λl j e t he ht=>?_,aH⟩⟩;have aD:=(dH.1 ht).1;rw[aa _ (eN he)]at aD;rw[nX Y,M];by_cases T:l<len
          . have:=eM i.size (show l+1<=len from T);rw[h']at this;rw[eF];rw[wI (by simp;omega),zw,ad T]at he;obtain⟨v,H,d⟩:=aL _ _ _ _ he ht;exact⟨v,H,bK.mono m d⟩
          . have h1:=eM i.size (show len<=l by omega);have au:l<len+q:=by rw[<-F];exact(dH.1 he).1
            have:=eM i.size (show l+1<=len+q from au);rw[h',h']at this;rw[a',eF];have ae:(es.take len).length=len:=by simp;omega
            rw[zG (by omega),ae]at he;have bj:(l-len)*i.size=l*i.size-len*i.size:=Nat.sub_mul _ _ _;obtain⟨v,H,d⟩:=aP _ _ _ _ he ht;rw[show l*i.size+j-len*i.size=(l-len)*i.size+j by omega]
            exact⟨v,H,bK.mono m d⟩) (λ_=>⟨λk y ag f=>by
            rw[e4]at ag;split at ag
            . cases ag
            . rename_i G
              exact R.bB.inj k b y _ ag s (dn G) f g,R.own b _ s g⟩)
         refine⟨_,_,S,w',.inl (af _ _ d),.c ?_,by simp[V.az,C.az,ins],aq⟩;exact⟨base,by simp[di],by simp[di,X],by simp[di];omega⟩
     grind
   grind
 grind
theorem Xx(R:Rel av nt φ S env J n a w){x y:Operand}{st yt e a2:TypeId}(aZ:o.op= .call {callee:= .builtin .append,args:=#[x,y],argTypes:=#[st,yt]})
 (X:P.underlying st=some (.slice e))(Y:P.underlying yt=some (.slice a2)){i:TypeInfo}(T:P.info? e=some i)(a7:i.size≠0)(aK:(i.zero.map (·.cells.size))=some i.size)
 {al az:aO}(I:bz x=some al)(ag:bz y=some az)
 {p v J'}(f:n key=false)(h:aL (.append e i.size i.bytes al az) env J key=some (p,v,J'))(aX:∀q b l,al.get env≠some (q,.c (.cr b l)))(ai:p):Good P av nt env J' (ins n key) a v ((execOp a.eval o).run P w):=by
 simp only[aL,bf]at h;obtain⟨⟨a9,bd⟩,aa,⟨ba,be⟩,ad,he⟩:=h;split at he
 . grind[Yk]
 rename_i a8;simp only[bf]at he;obtain⟨z,ah,he⟩:=he;simp only[bn]at aK;obtain⟨bg,aN,aM⟩:=aK;have h0:0<i.size:=by omega
 have W:∀r w',(Builtin.append_ #[st,yt] o.type #[a.eval x,a.eval y]).run P w= .ok r w'->(execOp a.eval o).run P w= .ok (.value r) w':=by
  intro r w' d;simp[execOp,aZ,Go.resolve,invoke,builtin,d]
 have aF:∀b,w.heap.size<=b->∀j,¬S b j:=λb ao j aA=>by have:=R.bB.st _ _ aA;omega
 split at he
 ·
  obtain⟨rfl,rfl,rfl⟩:=he;obtain⟨ae,U,D,aC,ar⟩:=ai;obtain⟨base,K⟩:=(cc R I aa ae).1.dJ;have dA:=vG (P:=P) R ag ad U h0 ah D;by_cases H:z.1=[]
  . obtain⟨B,A,F,g,O,aj⟩:=dA;rw[H]at B F g;have aw:A=[]:=kz (by simpa using g);subst aw;have d:=vl (tt:=o.type) X Y T (base:=base) (sl:=0) (sc:=0) B F (by simp) (w':=w) (λay _=>by simp[storeCells]) (λ_=>rfl);rw[<-K]at d;have R':=R.je f (x:= .arr i.size z.1) (0,0) rfl (by rw[H];simp only[cQ,di];exact⟨by simp,by simp,by simp,h0,by simp⟩) (by simp);refine⟨_,_,S,w,.inl (W _ _ d),.c ?_,by simp[V.az,C.az,ins],R'⟩;rw[H];exact⟨base,by simp[di],by simp[di],by simp[di]⟩
  . have u:=R.drew;obtain⟨B,_⟩:=dA;obtain⟨_,A,F,g,O,aj⟩:=vG (P:=P) u ag ad U h0 ah D;have a5:0<z.1.length:=tQ.2 H;have af:(Builtin.firstCells i.size 0 (.slice base 0 0)).run P w.drew= .ok ([]:List Value).toArray w.drew:=by
     cases base with
     |none=>rfl
     |some a=>simp[Builtin.firstCells,loadCells,loadCellsFrom]
    obtain⟨ax,r,h1,am,d⟩:=H3 (tt:=o.type) X Y T aN aM B af F (by omega) (by grind) (by grind);rw[<-K]at d;have Q:=u.alloc (.cells ([]++A++r).toArray e);have m:=u.wA (.cells ([]++A++r).toArray e)
    have ak:=Q.je f (x:= .arr i.size z.1) (w.heap.size,ax) rfl (by
     simp only[cQ,di];refine⟨by omega,ar,D,h0,λ_=>⟨_,e,heap_alloc_new,?_,?_,aF _ (eB _)⟩⟩
     . simp only[dD,kE,g,am,gx,<-h'];congr 1;omega
     . have:=ik.append (S:=S) (w:=w.drew) (r:=r) (es:=[]) (xs:=[]) h0 (by simp) D (by simp) g (by intro i j e t he;simp at he) O;intro s j L t he ht;obtain⟨v,M,d⟩:=this s j L t (by simpa using he) ht
       exact⟨v,M,bK.mono m d⟩) (λ_=>⟨λk y ag h0=>by
        have:=(R.bB.blk k y ag).jh h0
        omega,.inr R.ext.size⟩)
    refine⟨_,_,S,_,.inl (W _ _ d),.c ?_,by simp[V.az,C.az,ins],ak⟩;exact⟨some ⟨w.heap.size,0,none⟩,by simp[di],by simp[di],by simp[di];omega⟩
 . rename_i b bb off len;split at he
   . rename_i bc es N;split at he
     . grind
     . obtain⟨rfl,rfl,rfl⟩:=he;obtain⟨ae,U,rfl,rfl,rfl,rfl,D,aC,ar⟩:=ai;have aU:=cc R I aa ae;have aS:=aU.1.dJ;obtain⟨base,K,aT,aW⟩:=bk.gn aS;have dA:=vG (P:=P) R ag ad U h0 ah D;have an:=R.bB.blk _ _ N;have aR:=an;obtain⟨g1,g2,g3,g4,aP⟩:=aR;rw[Nat.sub_zero]at K;rw[gx]at aW;have aH:∀L,L∈es++z.1->L.length=i.size:=YB g3 D;by_cases aG:es.length+z.1.length<=(φ b).2
       . obtain⟨B,A,F,g,O,aj⟩:=dA;by_cases G:(φ b).2=0
         . have ap:es=[]:=kz (by omega);have au:z.1=[]:=kz (by omega);rw[au]at B F g;have aw:A=[]:=kz (by simpa using g);subst aw;have d:=vl (tt:=o.type) X Y T (base:=base) (sl:=es.length) (sc:=(φ b).2) B F (by simp[ap]) (w':=w) (λay _=>by simp[storeCells]) (λ_=>rfl);rw[<-K]at d;have R':=(R.del b).je f (x:= .arr i.size (es++z.1)) (0,0) rfl (by rw[au,ap];simp only[cQ,di];exact⟨by simp,by simp,by simp,h0,by simp⟩) (by simp);refine⟨_,_,S,w,.inl (W _ _ d),.c ?_,by simp[V.az,C.az,ins],R'⟩;rw[au,ap];exact⟨base,by simp[di,G],by simp[di],by simp[di]⟩
         . obtain⟨vs,E,ab,aI,a0,aY⟩:=aP G;have aD:es.length*i.size+A.length<=vs.length:=by rw[g,aI,<-h'];exact eM _ aG
           obtain⟨w',a6,k1,k2,k3,k4,k5,k6⟩:=lO (P:=P) A (es.length*i.size) 0 vs w ab (by omega) aj;rw[rp]at k5;have Z:=aT G;rw[CK]at Z
           have d:=vl (tt:=o.type) X Y T (base:=base) (sl:=es.length) (sc:=(φ b).2) B F aG (w':=w') (λay aB=>by
            rw[Z]at aB;cases aB;have a4:Addr.add ⟨(φ b).1,0,none⟩ (es.length*i.size)=⟨(φ b).1,es.length*i.size,none⟩:=by unfold Addr.add;split<;>simp_all
            grind) (λao=>by rw[Z]at ao;cases ao)
           rw[<-K]at d
           have u:=(R.del b).world (w':=w') (λk=>k=(φ b).1) k1 k2 k3 (tJ k4.symm) (λk _ f=>k6 k f) (λk f=>by
            subst f;refine⟨an.pM G,λk y ag f=>?_,R.own b _ N G⟩;rw[e4]at ag;split at ag
            . cases ag
            . rename_i H
              exactλe=>R.bB.inj k b y _ ag N (dn H) f G e)
           have m:fY w S w' S:=⟨λ_ _ h=>h,λk j h=>rh (k6 k (λe=>an.pM G j (e▸h))) j⟩
           have Q:=u.je f (x:= .arr i.size (es++z.1)) (φ b) rfl (by
            simp only[cQ,di];refine⟨by simp;omega,by simp;omega,aH,h0,λ_=>⟨_,E,k5,by rw[pe aD];exact aI,?_,aY⟩⟩;intro s j L t he ht;rw[nX aD];by_cases aE:s<es.length
            . rw[wI aE]at he;have aq:=(dH.1 ht).1;rw[g3 _ (eN he)]at aq;have:=eM i.size (show s+1<=es.length from aE);rw[h']at this;rw[eF];obtain⟨v,M,d⟩:=a0 _ _ _ _ he ht;exact⟨v,M,bK.mono m d⟩
            . rw[zG (by omega)]at he;have aq:=(dH.1 ht).1;rw[D _ (eN he)]at aq;have aV:=(dH.1 he).1;have a3:=eM i.size (show es.length<=s by omega);have aQ:=eM i.size (show(s-es.length)+1<=z.1.length from aV);have bj:(s-es.length)*i.size=s*i.size-es.length*i.size:=Nat.sub_mul _ _ _;rw[h']at aQ;rw[a',eF,show s*i.size+j-es.length*i.size=(s-es.length)*i.size+j by omega];obtain⟨v,M,d⟩:=O _ _ _ _ he ht
              exact⟨v,M,bK.mono m d⟩) (λ_=>⟨λk y ag f=>by
              rw[e4]at ag;split at ag
              . cases ag
              . rename_i H
                exact R.bB.inj k b y _ ag N (dn H) f G,R.own b _ N G⟩)
           refine⟨_,_,S,w',.inl (W _ _ d),.c ?_,by simp[V.az,C.az,ins],Q⟩;exact⟨base,by simp[di],by simp[di,Z],by simp[di];omega⟩
       . have u:=R.drew;obtain⟨B,_⟩:=dA;obtain⟨_,A,F,g,O,aj⟩:=vG (P:=P) u ag ad U h0 ah D;obtain⟨_,xs,af,aJ,a1,_⟩:=KV (P:=P) (u.bB.blk _ _ N) (cc u I aa ae).1.dJ;rw[K]at af;obtain⟨ax,r,h1,am,d⟩:=H3 (tt:=o.type) X Y T aN aM B af F (by omega) aC ar;rw[<-K]at d;have Q:=(u.del b).alloc (.cells (xs++A++r).toArray e);have m:=u.wA (.cells (xs++A++r).toArray e)
         have ak:=Q.je f (x:= .arr i.size (es++z.1)) (w.heap.size,ax) rfl (by
          simp only[cQ,di];refine⟨by simp;omega,by simp;omega,aH,h0,λ_=>⟨_,e,heap_alloc_new,?_,?_,aF _ (eB _)⟩⟩
          . simp only[dD,aJ,g,am,<-h'];congr 1;omega
          . have:=ik.append (S:=S) (w:=w.drew) (r:=r) h0 g3 D aJ g a1 O;intro s j L t he ht;obtain⟨v,M,d⟩:=this s j L t he ht
            exact⟨v,M,bK.mono m d⟩) (λ_=>⟨λk y ag h0=>by
             rw[e4]at ag;split at ag
             . cases ag
             . have:=(R.bB.blk k y ag).jh h0
               omega,.inr R.ext.size⟩)
         refine⟨_,_,S,_,.inl (W _ _ d),.c ?_,by simp[V.az,C.az,ins],ak⟩;exact⟨some ⟨w.heap.size,0,none⟩,by simp[di],by simp[di],by simp[di];omega⟩
   grind
 . exact absurd aa (aX _ _ _)
 grind
theorem Xy:∀{ts:List T} {vs:List Value},aV R ts vs->∀(i j:Nat) e t,(ts.map λt=>[t])[i]?=some e->e[j]?=some t->∃v,vs[i*1+j]?=some v/\R t v:=by
 intro ts vs h i j e t he ht;rw[ru,bn]at he;obtain⟨t0,h0,rfl⟩:=he;cases j with
 |zero=>
  obtain⟨v,b,a⟩:=h.get h0;grind
 |succ j=>grind
theorem Xz(R:Rel av nt φ S env J n a w){ty:TypeId}(B:o.op= .alloc ty)(f:jO P ty=some cs)(A:cs.length≠0)(u:cs.length<=2^24)
 {p v J'}(q:n key=false)(h:aL (.allocA cs) env J key=some (p,v,J'))(ai:p):Good P av nt env J' (ins n key) a v ((execOp a.eval o).run P w):=by
 simp only[aL,bn]at h;obtain⟨ts,d,rfl,rfl,rfl⟩:=h;obtain⟨i,z,s,f,b,r⟩:=sN (φ:=φ) (w:=w) (S:=S) (n:=n) f;have F:=qJ d b;have D:=vZ d;have g:=R.alloc (.cells z.cells.toList.toArray ty);have m:=R.wA (.cells z.cells.toList.toArray ty);have E:=b.length.symm
 have l:=g.je q (x:= .arr 1 (ts.map λt=>[t])) (w.heap.size,cs.length) rfl (by
  simp only[cQ,di,jH];refine⟨by omega,by grind[c1],?_,by simp,λ_=>⟨z.cells.toList,ty,heap_alloc_new,by omega,λi j e t he ht=>?_,λj h=>?_⟩⟩
  . simp
  . grind[Xy,bK.mono]
  . have:=R.bB.st _ _ h
    omega) (λ_=>⟨λk y ag h0=>by
     have:=(R.bB.blk k y ag).jh h0
     grind,.inr R.ext.size⟩)
 refine⟨.pointer (some ⟨w.heap.size,0,none⟩),_,S,_,.inl ?_,.c ?_,by simp[V.az,C.az,ins],l⟩
 . simp_all[execOp,Instr.alloc,zeroValue,typeInfo,newVar,newRow]
 grind[bk,di]
theorem Yl(R:Rel av nt φ S env J n a w){ty:TypeId}{i:Operand}(u:o.op= .indexAddr ty x i){k:Nat}(B:P.underlying ty=some (.array k e))(A:dW P e=some 1)
 {f d:aO}(I:bz x=some f)(s:bz i=some d)
 {p v J'}(D:n key=false)(h:aL (.idxP k f d) env J key=some (p,v,J'))(ai:p):Good P av nt env J' (ins n key) a v ((execOp a.eval o).run P w):=by
 simp only[aL,bf]at h;obtain⟨⟨G,K⟩,r,⟨F,H⟩,q,he⟩:=h;simp at he;split at he
 . rename_i b kk m;obtain⟨rfl,rfl,rfl⟩:=he;obtain⟨y,z,t,E⟩:=ai;have al:=cc R I r y;have h1:=al.1.gT;have g:=(cc R s q z).1.eT;have j:Addr.add ⟨(φ b).1,0,none⟩ (m.toNat*1)=⟨(φ b).1,m.toNat*1+0,none⟩:=by
    grind[Addr.add]
   refine Good.pure R (x:= .pointer (some ⟨(φ b).1,m.toNat*1+0,none⟩)) ?_ (.c ?_) (by grind[V.az,C.az])
   . have l:0<=m/\m<k:=⟨t,by omega⟩
     simp only[execOp,u,h1,g,Instr.indexAt,asIntOf,Instr.sureAddr,Sem.run_bind,run_underlying B,Result.andThen_ok,Sem.run_pure,ad l,i' A,j]
   rfl
 grind
theorem Zw(R:Rel av nt φ S env J n a w){ty:TypeId}{i:IntKind}{m:Int}(t:o.op= .indexAddr ty x (.const (.int i m))){k:Nat}(u:P.underlying ty=some (.array k e))
 (h0:0<=m/\m.toNat<k){s:Nat}(hs:dW P e=some s){g:aO}(I:bz x=some g)
 {p v J'}(y:n key=false)(h:aL (.fldA (m.toNat*s) g) env J key=some (p,v,J'))(ai:p):Good P av nt env J' (ins n key) a v ((execOp a.eval o).run P w):=by
 simp only[aL,bf]at h;obtain⟨⟨z,A⟩,r,he⟩:=h;simp at he;have j:a.eval (.const _)= .int i m:=rfl;have q:0<=m/\m<(k:Int):=⟨h0.1,by omega⟩
 have d:∀(b off:Nat),a.eval x= .pointer (some ⟨b,off,none⟩)->(execOp a.eval o).run P w= .ok (.value (.pointer (some ⟨b,off+m.toNat*s,none⟩))) w:=by
  intro b off e;have l:Addr.add ⟨b,off,none⟩ (m.toNat*s)=⟨b,off+m.toNat*s,none⟩:=by
   grind[Addr.add]
  simp only[execOp,t,e,j,Instr.indexAt,asIntOf,Instr.sureAddr,Sem.run_bind,run_underlying u,Result.andThen_ok,Sem.run_pure,ad q,i' hs,l]
 split at he<;>simp only[dy,reduceCtorEq]at he
 all_goals
  obtain⟨rfl,rfl,rfl⟩:=he;have al:=cc R I r ai;have h1:=al.1.dJ
 . exact Good.pure R (d _ _ h1) (.c rfl) al.2
 . exact Good.pure R (d _ _ h1) (.c (by simp[bk,Nat.add_assoc])) al.2
 . obtain⟨blk,off,f,h1,ab⟩:=h1;exact Good.pure R (d _ _ h1) (.c ⟨blk,off,f,by grind,ab⟩) al.2
theorem Zx(R:Rel av nt φ S env J n a w){ty:TypeId}{i:Option Operand}(A:o.op= .slice ty x j i none){k:Nat}(G:P.underlying ty=some (.array k e))(F:dW P e=some 1)
 {g:aO}{f d:Option aO}(I:bz x=some g)(z:j3 j=some f)(y:j3 i=some d)
 {p v J'}(O:n key=false)(h:aL (.slcP k g f d) env J key=some (p,v,J'))(ai:p):Good P av nt env J' (ins n key) a v ((execOp a.eval o).run P w):=by
 simp only[aL,bf]at h;obtain⟨⟨U,W⟩,u,⟨pl,l⟩,t,⟨T,h⟩,s,he⟩:=h;simp at he;split at he
 . rename_i b;obtain⟨rfl,rfl,rfl⟩:=he;obtain⟨B,D,E,h0,h1,m⟩:=ai;have al:=cc R I u B;have K:=al.1.gT;have ae:=qI R z t D;have ab:=qI R y s E;have r:=DC (P:=P) (w:=w) (isSlice:=false) ae ab h0 h1 m (eB _);generalize N:(l.getD 0).toNat=L at*;generalize M:(h.getD _).toNat=H at*;have q:Addr.add ⟨(φ b).1,0,none⟩ (L*1)=⟨(φ b).1,L*1,none⟩:=by
    unfold Addr.add;split
    . grind
    . simp
   refine Good.pure R (x:= .slice (some (if k=L then⟨(φ b).1,0,none⟩else(Addr.add ⟨(φ b).1,0,none⟩ (L*1)))) _ (k-L)) ?_ (.c ⟨_,_,rfl,?_,by omega⟩) (by simpa[V.az,C.az]using al.2)
   . simp[execOp,A,Instr.sliceAt,Instr.sureAddr,underlying,G,K,r,i' F]
   . intro Q;rw[a',q]
 grind
theorem Zy{s:ar}(a:bytesOf es=some s):∀{xs:List Value},(∀(i:Nat) t,es[i]?=some [t]->∃v,xs[i]?=some v/\bK w S t v)->xs.length=es.length->
 ∃aF:au,xs=aF.map (Value.int .u8)/\s=aF.map λm=>UInt8.ofNat m.toNat:=by
 induction es generalizing s with
 |nil=>simp_all[bytesOf]
 |cons e es ih=>
  intro xs b ae;unfold bytesOf at a;split at a
  . grind
  . rename_i m r d;cases d;simp at a;obtain⟨s',g,rfl⟩:=a;cases xs with
    |nil=>grind
    |cons x xs=>
     obtain⟨v,c,f⟩:=b 0 _ rfl;simp at c;subst c;cases f;obtain⟨aF,rfl,rfl⟩:=ih g (λi t j=>by simpa using b (i+1) t (by grind)) (by grind);exact⟨m::aF,rfl,rfl⟩
  grind
theorem Zz(aF:au):∀(s:ByteArray),(aF.foldl (λr m=>r.push (UInt8.ofNat m.toNat)) s).data.toList=s.data.toList++aF.map λm=>UInt8.ofNat m.toNat:=by
 induction aF<;>simp_all
theorem SG{s:ar}(a:bytesOf es=some s):∀(i:Nat) e,es[i]?=some e->∃t,e=[t]:=by
 induction es generalizing s with
 |nil=>simp
 |cons ds es ih=>
  unfold bytesOf at a;grind[bn]
theorem Ee{g c:TypeId}(hs:P.underlying g=some (.slice e))(he:P.underlying e=some (.int .u8))(k:P.underlying c=some .string){str:ar}{a:Option Addr}{len cap b:Nat}
 (ae:es.length=len)(f:bytesOf es=some str)(r:len≠0->a=some ⟨b,off,none⟩)(s:∀(i:Nat) t,es[i]?=some [t]->∃v,w.cell? ⟨b,off+i,none⟩=some v/\bK w S t v):
 ∃bs:ByteArray,(convert g c (.slice a len cap)).run P w= .ok (.string bs) w/\bs.data.toList=str:=by
 rw[run_convert_bytes_string w _ _ e a _ _ hs he k];by_cases h0:len=0
 . have m:es=[]:=kz (by omega);subst m;simp[bytesOf]at f;cases a with
   |none=>simp_all[Conv.bytesToString]
   |some a0=>
    simp_all[run_bytesToString,loadCells,loadCellsFrom]
 . have I:∀i,i<len->∃t v,es[i]?=some [t]/\w.cell? ⟨b,off+i,none⟩=some v/\bK w S t v:=by
    intro i n;have h1:=eC (l:=es) (i:=i) (by omega);grind[SG]
   have al:∀i,i<len->((List.range len).map λi=>(w.cell? ⟨b,off+i,none⟩).getD undef)[i]?=w.cell? ⟨b,off+i,none⟩:=(by grind);obtain⟨aF,h1,p⟩:=Zy (w:=w) (S:=S) f (xs:=(List.range len).map λi=>(w.cell? ⟨b,off+i,none⟩).getD undef) (λi t n=>by grind) (by grind);have d:=yJ (P:=P) (by simp) (λj o=>(al j o).symm);rw[h1]at d;have q:=run_bytesToString w _ _ cap aF d;simp_all[Zz]
theorem H4:∀{es:List (List T)} {s:ar},bytesOf es=some s->s.length=es.length
 |[],s,h=>by grind[bytesOf]
 |e::es,s,h=>by
  unfold bytesOf at h;split at h
  . grind
  . rename_i m r a;cases a;simp at h;obtain⟨s',b,rfl⟩:=h;simp[H4 b]
  grind
theorem aau(R:Rel av nt φ S env J n a w){A r:TypeId}(aa:o.op= .convert A r x)(hs:P.underlying A=some (.slice e))(he:P.underlying e=some (.int .u8))(u:P.underlying r=some .string){D:aO}(I:bz x=some D)
 {p v J'}(Y:n key=false)(h:aL (.b2s D) env J key=some (p,v,J'))(ai:p):Good P av nt env J' (ins n key) a v ((execOp a.eval o).run P w):=by
 simp only[aL,bf,bn,dG]at h;obtain⟨⟨ak,am⟩,H,⟨q,str⟩,g,rfl,rfl,rfl⟩:=h;obtain⟨Q,y⟩:=ai;have al:=cc R I H Q
 suffices ab:∃d len cap,a.eval x= .slice d len cap/\str.length<=c1/\∃bs:ByteArray,(convert A r (.slice d len cap)).run P w= .ok (.string bs) w/\bs.data.toList=str by
  obtain⟨d,len,cap,h1,F,bs,L,G⟩:=ab;have O:bs.size<=ft:=by grind[wg,c1,ft]
  refine Good.pure R (x:= .string bs) ?_ (.c ?_) rfl
  . simp_all[execOp]
  . rw[<-G];exact .str bs O
 have z:∀ (b off len:Nat) (es:List (List T)) (d:Option Addr) (cap:Nat),aR J b = some (.arr 1 es)->off+len<=es.length->bytesOf ((es.drop off).take len) = some str->(len≠0->d = some ⟨(φ b).1,off*1,none⟩)->((φ b).2≠0\/len = 0)->a.eval x = .slice d len cap->
  ∃d len cap,a.eval x= .slice d len cap/\str.length<=c1/\∃bs:ByteArray,(convert A r (.slice d len cap)).run P w= .ok (.string bs) w/\bs.data.toList=str:=by
  intro b off len es d cap N K j M h0 C;obtain⟨h1,F,L,G,bj⟩:=R.bB.blk b _ N;have ae:((es.drop off).take len).length=len:=by grind
  refine⟨d,len,cap,C,by grind[H4],?_⟩;refine Ee (S:=S) hs he u ae j M ?_;intro i t m;rw[zw]at m;split at m
  . rw[List.getElem?_drop]at m;rcases h0 with h0|h0
    . obtain⟨vs,E,ab,aj,U,_⟩:=bj h0;obtain⟨v,ag,ah⟩:=U _ 0 _ t m rfl;grind[iq]
    grind
  grind
 dsimp only at g H al;unfold nv at g;split at g
 . rename_i es;simp only[bn,dG]at g;obtain⟨s,j,rfl,rfl⟩:=g;obtain⟨d,cap,sz,b,off,f,h1,W,Z,af,k,V,C⟩:=bK.jj al.1.dJ;refine⟨d,es.length,cap,h1,by grind[H4],?_⟩;by_cases B:es=[]
   . subst B;exact Ee (S:=S) (b:=0) (off:=0) hs he u rfl j (by simp) (by simp)
   . have ad:sz=1:=by
      obtain⟨ds,X⟩:=CM es B;grind[List.mem_iff_getElem?,SG]
     refine Ee (S:=S) (b:=b) (off:=off) hs he u rfl j (λ_=>k B) ?_;intro i t m;exact⟨f i 0,by grind,C i 0 _ t m rfl⟩
 . cases g;obtain⟨d,h1⟩:=al.1.dJ;exact⟨d,0,0,h1,by simp,Ee (S:=S) (es:=[]) (b:=0) (off:=0) hs he u rfl rfl (by simp) (by simp)⟩
 . rename_i b off len;split at g
   . rename_i es l;simp only[bn,dG]at g;obtain⟨s,j,rfl,rfl⟩:=g;obtain⟨d,h1,k,K⟩:=bk.gn al.1.dJ;by_cases h0:(φ b).2=0
     . exact z b off len es d _ l y j (λh=>by omega) (.inr (by omega)) h1
     . exact z b off len es d _ l y j (λ_=>k h0) (.inl h0) h1
   . cases g
 . rename_i b off len;split at g
   . rename_i es l;simp only[bn,dG]at g;obtain⟨s,j,rfl,rfl⟩:=g;obtain⟨d,cap,h1,k,K⟩:=al.1.dJ;obtain⟨F,_⟩:=R.bB.blk b _ l;by_cases h0:len=0
     . exact z b off len es d _ l y j k (.inr h0) h1
     . exact z b off len es d _ l y j k (.inl (by omega)) h1
   . cases g
 . cases g
end
end
end Go.Proofs.YtklfhpkljddjbaaGreatDoor.Shv
