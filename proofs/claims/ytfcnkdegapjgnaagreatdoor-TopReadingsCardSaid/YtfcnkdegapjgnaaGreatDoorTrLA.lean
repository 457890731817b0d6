/- The library of this proof, part A: an abstract machine for the code of the program, and its soundness. -/
import Derived.LoopN
import Derived.Calls
import Derived.Laws.Sem
import Derived.Laws.World
import Derived.Laws.Cells
import Derived.Below
import Derived.Laws.Strings
import Derived.Laws.StructEq
import Derived.Laws.BytesString

namespace Go.Proofs.YtfcnkdegapjgnaaGreatDoor.Shv
set_option linter.all false
section
def ab:=@if_pos
def ag:=@if_neg
def cZ:=@Option.ite_none_right_eq_some
def cN:=@Bool.false_eq_true
def dO:=@List.getElem?_eq_some_iff
def cQ:=@Option.some.injEq
def cH:=@Bool.and_eq_true
def eu:=@List.getElem?_eq_getElem
def dP:=@List.length_append
def c8:=@Prod.mk.injEq
def et:=@Nat.mul_le_mul_right
def dW:=@List.all_eq_true
def dL:=@decide_eq_true
def eU:=@List.mem_of_getElem?
def cv:=@if_false
def cC:=@congrArg
def cw:=@if_true
def e7:=@List.mem_singleton
def eb:=@Bool.not_true
def gy:=@List.drop_eq_nil_of_le
def fm:=@of_decide_eq_true
def ec:=@decide_true
def cW:=@Ne.symm
def eG:=@decide_false
def gO:=@List.contains_nil
def eJ:=@Nat.le_refl
def fX:=@List.mem_append
def fM:=@Bool.not_false
def h3:=@beq_eq_false_iff_ne
def fF:=@List.mem_cons
def k9:=@List.eq_nil_of_length_eq_zero
def hq:=@decide_eq_true_eq
def jt:=@Option.bind_eq_some_iff
def fN:=@Bool.or_false
def fp:=@Nat.zero_add
def h4:=@List.contains_cons
def hr:=@List.nil_append
def jd:=@List.getElem_of_mem
def lU:=@List.getD_eq_getElem?_getD
def h5:=@List.length_set
def jU:=@List.pairwise_cons
def gP:=@Nat.add_mul
def ju:=@List.length_take
def jv:=@List.length_cons
def jV:=@List.append_assoc
def hM:=@List.mem_map
def nX:=@List.drop_eq_getElem_cons
def kl:=@List.flatMap_cons
def k':=@Nat.lt_of_lt_of_le
def gj:=@cond_true
def gX:=@beq_iff_eq
def jW:=@Option.map_some
def je:=@List.map_cons
def hv:=@cond_false
def iO:=@Nat.le_trans
def lV:=@Int.emod_lt_of_pos
def km:=@List.length_nil
def kn:=@List.length_map
def ko:=@Bool.or_eq_true
def lW:=@Option.some.inj
def pE:=@Option.map_eq_some_iff
def mF:=@List.getElem?_take
def pF:=@List.take_of_length_le
def kp:=@Bool.true_and
def la:=@List.drop_zero
def pG:=@List.mem_of_mem_take
def lX:=@Int.emod_nonneg
def nY:=@List.getElem?_map
def nZ:=@Int.toNat_natCast
def n0:=@Nat.mod_eq_of_lt
def vv:=@Array.getElem?_eq_some_iff
def lY:=@List.all_cons
def vw:=@List.getElem?_append_left
def pH:=@List.length_drop
def lb:=@Nat.zero_le
def s0:=@Bool.or_eq_false_iff
def s3:=@Bool.not_eq_true'
def q6:=@List.pairwise_map
def pI:=@List.append_nil
def s4:=@List.getD_cons_zero
def yk:=@List.getElem?_append_right
def q7:=@List.cons_append
def yl:=@List.eq_of_mem_replicate
def vx:=@BitVec.ofInt_natCast
def s5:=@List.ext_getElem?
def ym:=@List.getElem?_cons_succ
def vy:=@Array.length_toList
def vz:=@List.length_pos_iff
def AW:=@Option.ite_none_left_eq_some
def yn:=@Array.getElem?_toList
def yo:=@Nat.le_of_ble_eq_true
def vA:=@Bool.eq_false_iff
def AX:=@List.exists_mem_of_ne_nil
def yp:=@List.mem_of_mem_drop
def AY:=@List.mem_or_eq_of_mem_set
def AZ:=@Array.getElem?_eq_getElem
def s6:=@List.drop_drop
def q8:=@Nat.add_zero
def A0:=@Option.isSome_iff_exists
def yq:=@List.flatMap_append
def AB:=@List.getElem?_cons_zero
def AD:=@decide_eq_false_iff_not
def sW:=@List.sum_cons
def yd:=@BitVec.toNat_ofNat
def Ek:=@List.find?_eq_some_iff_getElem
def El:=@List.take_append_of_le_length
def sX:=@Nat.le_of_eq
def AE:=@List.getElem?_toArray
def AF:=@List.contains_iff_mem
def vo:=@List.nodup_nil
def sY:=@List.map_nil
def pD:=@and_false
def AG:=@List.getElem?_zipIdx
def AH:=@List.mem_cons_of_mem
def AI:=@Nat.pow_le_pow_right
def vp:=@Bool.and_true
def sZ:=@Nat.mul_one
def ye:=@List.mem_filter
def yf:=@List.map_append
def Em:=@List.pairwise_iff_getElem
def vq:=@Nat.zero_mul
def AJ:=@List.mem_cons_self
def vr:=@Bool.true_or
def vt:=@List.sum_nil
def yg:=@Bool.false_and
def yh:=@Bool.and_false
def En:=@Nat.le_mul_of_pos_right
def AK:=@List.getElem?_set
def AL:=@List.getElem_mem
def AM:=@List.range'_succ
def AN:=@Option.getD_some
def AO:=@Bool.cond_eq_ite
def AP:=@List.filter_cons
def Eo:=@Array.getElem?_modify
def Ep:=@Nat.eq_of_beq_eq_true
def Er:=@List.mem_append_right
def yi:=@Nat.mul_comm
def yj:=@exists_false
def P5:=@List.eq_nil_iff_forall_not_mem
def Es:=@List.pairwise_append
def AQ:=@Nat.mul_le_mul
def AR:=@Int.toNat_zero
def AS:=@Int.mul_nonneg
def Et:=@List.getElem?_drop
def AT:=@Bool.false_or
def Eu:=@Array.toList_map
def AU:=@List.all_map
def vu:=@and_true
def AV:=@Bool.or_true
theorem bb{α:Type _}{b:α}{c:Type _}{x:Option c}{f:c->α}:Option.map f x=some b↔∃a,x=some a/\f a=b:=pE
theorem a6{α:Type _}{b:α}{c:Type _}{x:Option c}{f:c->Option α}:x.bind f=some b↔∃a,x=some a/\f a=some b:=jt
theorem ak{α:Type _}{b:Type _}(a:α)(f:α->Option b):(some a).bind f=f a:=Option.bind_some ..
theorem aV.{u}{α a:Type u}:(bind:Option α->(α->Option a)->Option a)=Option.bind:=Option.bind_eq_bind
open Go
inductive T where
 |bool (b:Bool)
 |int (k:IntKind)(n:Int)
 |str (s:List UInt8)
 |slice (es:List (List T))
inductive C where
 |t (x:T)
 |ptr (b o:Nat)
 |cl (b sz i o:Nat)
 |dx (ts:List T)(o:Nat)
 |arr (b sz off len:Nat)
 |fq (b sz off len:Nat)
 |mp (b:Nat)
 |eh (b:Nat)
 |cr (b len:Nat)
 |bC
 |eT
 |eS
 |fn (f:Nat)(caps:List Nat)
 |dead
inductive V where
 |c (x:C)
 |agg (cs:List C)
 |aS (vs:List V)
inductive bp where
 |box (cs:List C)
 |arr (sz:Nat)(es:List (List T))
 |set (ks:List (List UInt8))
 |buf (E:TypeId)(s:List UInt8)
 |bX (E:TypeId)(c:C)
 |cu (sz:Nat)(es:List (List T))(i o:Nat)(c:C)
 |vec (sz:Nat)(cs:List C)
abbrev dj:=Nat->Nat->Prop
abbrev db:=Nat->Nat×Nat
def dK:Nat:=9223372036854775807
def dd:Nat:=281474976710656
inductive b5 (w:World)(S:dj):T->Value->Prop
 |bool (b:Bool):b5 w S (.bool b) (.bool b)
 |int (k:IntKind) (n:Int):b5 w S (.int k n) (.int k n)
 |str (s:ByteArray) (h:s.size<=dK):b5 w S (.str s.data.toList) (.string s)
 |slice (es:List (List T)) (a:Option Addr) (cap sz b o:Nat) (f:Nat->Nat->Value)
  (ag7:es.length<=cap) (aha:es.length<=dd)
  (ahf:∀e,e∈es->e.length=sz)
  (w0:es≠[]->a=some ⟨b,o,none⟩)
  (PS:∀i j,i<es.length->j<sz->S b (o+i*sz+j)/\w.cell? ⟨b,o+i*sz+j,none⟩=some (f i j))
  (PT:∀i j e t,es[i]?=some e->e[j]?=some t->b5 w S t (f i j)):
  b5 w S (.slice es) (.slice a es.length cap)
structure fw (w:World)(S:dj)(w':World)(bH:dj):Prop where
 sub:∀b j,S b j->bH b j
 cell:∀b j,S b j->w'.cell? ⟨b,j,none⟩=w.cell? ⟨b,j,none⟩
theorem fw.refl(w:World)(S:dj):fw w S w S:=⟨λ_ _ h=>h,λ_ _ _=>rfl⟩
theorem fw.trans{w S w' bH e c}(h:fw w S w' bH)(k:fw w' bH e c):fw w S e c:=
 ⟨λb j a=>k.sub b j (h.sub b j a),λb j a=>(k.cell b j (h.sub b j a)).trans (h.cell b j a)⟩
theorem b5.mono{w S w' bH}(m:fw w S w' bH){t v}(h:b5 w S t v):b5 w' bH t v:=by
 induction h with
 |bool b=>exact .bool b
 |int k n=>exact .int k n
 |str s h=>exact .str s h
 |slice es a cap sz b o f p q x g c y ih=>
  exact .slice es a _ sz b o f p q x g
   (λi j hi e=>⟨m.sub _ _ (c i j hi e).1,by rw[m.cell _ _ (c i j hi e).1];grind⟩) ih
theorem b5.iQ{w S t v}(h:b5 w S t v):v.oneCell'=true:=by cases h<;>rfl
def aX(φ:db)(w:World)(S:dj):C->Value->Prop
 |.t x,v=>b5 w S x v
 |.ptr b o,v=>v= .pointer (some ⟨(φ b).1,o,none⟩)
 |.cl b sz i o,v=>v= .pointer (some ⟨(φ b).1,i*sz+o,none⟩)
 |.dx ts o,v=>∃ (blk off:Nat) (f:Nat->Value),v = .pointer (some ⟨blk,off+o,none⟩)/\
  ∀j t,ts[j]?=some t->S blk (off+j)/\w.cell? ⟨blk,off+j,none⟩=some (f j)/\b5 w S t (f j)
 |.arr b sz off len,v=>∃a,v= .slice a len ((φ b).2-off)/\((φ b).2≠0->a=some ⟨(φ b).1,off*sz,none⟩)/\off+len<=(φ b).2
 |.fq b sz off len,v=>∃a cap,v= .slice a len cap/\(len≠0->a=some ⟨(φ b).1,off*sz,none⟩)/\len<=cap
 |.mp b,v=>v= .map (some (φ b).1)
 |.cr b len,v=>len<=(φ b).2/\((φ b).2=0->v= .slice none 0 0)/\((φ b).2≠0->v= .slice (some ⟨(φ b).1,0,none⟩) len (φ b).2)
 |.eh b,v=>∃p,v= .pointer p/\((φ b).2≠0->p=some ⟨(φ b).1,0,none⟩)
 |.bC,v=>∃a,v= .slice a 0 0
 |.eT,v=>v= .pointer none
 |.eS,v=>v= .nilFunc
 |.fn f caps,v=>v= .func (.func f) #[] (caps.map λb=>Value.pointer (some ⟨(φ b).1,0,none⟩)).toArray
 |.dead,v=>v.oneCell'=true
theorem aX.iQ{φ w S c v}(h:aX φ w S c v):v.oneCell'=true:=by
 cases c with
 |t x=>exact b5.iQ h
 |dx ts o=>obtain⟨_,_,_,rfl,_⟩:=h;rfl
 |arr b sz off len=>obtain⟨_,rfl,_⟩:=h;rfl
 |fq b sz off len=>obtain⟨_,_,rfl,_⟩:=h;rfl
 |eh b=>obtain⟨_,rfl,_⟩:=h;rfl
 |cr b len=>
  by_cases h0:(φ b).2=0
  . rw[h.2.1 h0];rfl
  . rw[h.2.2 h0];rfl
 |bC=>obtain⟨_,rfl⟩:=h;rfl
 |dead=>exact h
 |_=>cases h;rfl
def C.aq(n:Nat->Bool):C->Bool
 |.ptr b _=>n b
 |.cl b _ _ _=>n b
 |.arr b _ _ _=>n b
 |.fq b _ _ _=>n b
 |.mp b=>n b
 |.eh b=>n b
 |.cr b _=>n b
 |.fn _ caps=>caps.all λb=>n b
 |_=>true
def V.aq(n:Nat->Bool):V->Bool
 |.c x=>x.aq n
 |.agg cs=>cs.all (C.aq n)
 |.aS vs=>V.dI n vs
where V.dI (n:Nat->Bool):List V->Bool
 |[]=>true
 |v::vs=>v.aq n&&V.dI n vs
theorem aX.mono{φ a:db}{w S w' bH}(m:fw w S w' bH){n:Nat->Bool}(g:∀b,n b=true->a b=φ b){c v}(e:c.aq n=true)(h:aX φ w S c v):aX a w' bH c v:=by
 cases c with
 |t x=>exact b5.mono m h
 |ptr b o=>grind[C.aq,aX]
 |cl b sz i o=>grind[C.aq,aX]
 |dx ts o=>
  obtain⟨blk,off,f,rfl,aa⟩:=h;exact⟨blk,off,f,rfl,λj t ht=>⟨m.sub _ _ (aa j t ht).1,by rw[m.cell _ _ (aa j t ht).1];grind,b5.mono m (aa j t ht).2.2⟩⟩
 |arr b sz off len=>grind[C.aq,aX]
 |fq b sz off len=>grind[C.aq,aX]
 |mp b=>grind[C.aq,aX]
 |eh b=>grind[C.aq,aX]
 |cr b len=>grind[C.aq,aX]
 |bC=>exact h
 |eT=>exact h
 |eS=>exact h
 |fn f caps=>
  grind[aX,List.map_congr_left,C.aq]
 |dead=>exact h
inductive aQ {α β:Type}(R:α->β->Prop):List α->List β->Prop
 |nil:aQ R [] []
 |cons {a b l m}:R a b->aQ R l m->aQ R (a::l) (b::m)
theorem aQ.imp{α e:Type}{R R':α->e->Prop}{l m}(h:aQ R l m)(k:∀a b,a∈l->R a b->R' a b):aQ R' l m:=by
 induction h with
 |nil=>exact .nil
 |cons c _ ih=>exact .cons (k _ _ (by simp) c) (ih λa b f=>k a b (by grind))
theorem aQ.length{α a:Type}{R:α->a->Prop}{l:List α}{m:List a}(h:aQ R l m):l.length=m.length:=by
 induction h<;>grind
theorem aQ.get{α c:Type}{R:α->c->Prop}{l:List α}{m:List c}(h:aQ R l m){i:Nat}{a:α}(e:l[i]?=some a):∃b,m[i]?=some b/\R a b:=by
 induction h generalizing i<;>grind
theorem aQ.kr{α c:Type}{R:α->c->Prop}:∀{l:List α} {m:List c},l.length=m.length->(∀(i:Nat) a b,l[i]?=some a->m[i]?=some b->R a b)->aQ R l m
 |[],[],_,_=>.nil
 |[],_::_,h,_=>by grind
 |_::_,[],h,_=>by grind
 |a::l,b::m,h,k=>.cons (k 0 a b (by rfl) (by rfl)) (aQ.kr (by grind) λi x y e f=>k (i+1) x y (by grind) (by grind))
theorem aQ.append{α e:Type}{R:α->e->Prop}{l a:List α}{m c:List e}(h:aQ R l m)(g:aQ R a c):aQ R (l++a) (m++c):=by
 induction h with
 |nil=>grind
 |cons f _ ih=>exact .cons f ih
theorem aQ.drop{α a:Type}{R:α->a->Prop}{l:List α}{m:List a}(h:aQ R l m)(k:Nat):aQ R (l.drop k) (m.drop k):=by
 induction h generalizing k with
 |nil=>simp;exact .nil
 |cons c ht ih=>cases k with
  |zero=>exact .cons c ht
  |succ k=>grind
theorem aQ.take{α a:Type}{R:α->a->Prop}{l:List α}{m:List a}(h:aQ R l m)(k:Nat):aQ R (l.take k) (m.take k):=by
 induction h generalizing k with
 |nil=>simp;exact .nil
 |cons c _ ih=>cases k with
  |zero=>exact .nil
  |succ k=>exact .cons c (ih k)
inductive cd (φ:db)(w:World)(S:dj):V->Value->Prop
 |c {x v}:aX φ w S x v->cd φ w S (.c x) v
 |agg {cs vs}:aQ (aX φ w S) cs vs->cd φ w S (.agg cs) (.agg vs.toArray)
 |aS (vs:List V) (xs:List Value) (ad:vs.length = xs.length) (h:∀ (i:Nat) v x,vs[i]? = some v->xs[i]? = some x->cd φ w S v x):
  cd φ w S (.aS vs) (.tuple xs.toArray)
theorem ns{n:Nat->Bool}:∀{vs:List V} {i:Nat} {v:V},V.aq.V.dI n vs=true->vs[i]?=some v->v.aq n=true
 |[],_,_,_,h=>by grind
 |x::vs,0,v,a,h=>by grind[V.aq.V.dI]
 |x::vs,i+1,v,a,h=>by simp[V.aq.V.dI]at a;exact ns a.2 (by simpa using h)
theorem cd.mono{φ g:db}{w S w' bH}(m:fw w S w' bH){n:Nat->Bool}(f:∀b,n b=true->g b=φ b){x v}(q:V.aq n x=true)(h:cd φ w S x v):cd g w' bH x v:=by
 induction h with
 |c h=>exact .c (aX.mono m f (by grind[V.aq]) h)
 |agg h=>exact .agg (h.imp λa b p j=>aX.mono m f (by grind[V.aq]) j)
 |aS vs xs ad h ih=>exact .aS vs xs ad λi v x e o=>ih i v x e o (ns (by grind[V.aq]) e)
end
section
open Go
class da where
 l:List (Nat×(Obj->Prop))
 s:Nat->List T
 o:TypeId->Bool
variable [da]
inductive aL where
 |tmp (t:Nat)
 |const (v:V)
inductive b9 where
 |mov (x:aL)
 |pick (c x y:aL)
 |alloc (cs:List C)
 |box (x:aL)
 |build (zero:List C)(parts:List (Nat×Nat×aL))
 |bslice (sz:Nat)(len:Nat)(zero:List C)(parts:List (Nat×aL))
 |load (agg:Bool)(n:Nat)(x:aL)
 |store (n:Nat)(x v:aL)
 |nilCheck (x:aL)
 |bin (op:BinOp)(x y:aL)
 |eqAgg (neg:Bool)(ks:List Nat)(x y:aL)
 |eqBool (neg:Bool)(x y:aL)
 |eqNil (neg:Bool)(x:aL)
 |not (x:aL)
 |conv (k:IntKind)(x:aL)
 |i2s (x:aL)
 |s2s (x:aL)
 |fldA (off:Nat)(x:aL)
 |fld (agg:Bool)(off n:Nat)(x:aL)
 |idxA (sz:Nat)(x i:aL)
 |idxS (x i:aL)
 |slcS (x:aL)(lo hi:Option aL)
 |slc (sz:Nat)(x:aL)(lo hi:Option aL)
 |slc0 (x:aL)
 |allocA (cs:List C)
 |idxP (n:Nat)(x i:aL)
 |idxV (n:Nat)(x i:aL)
 |mslice (sz bytes:Nat)(zero:List C)(x:aL)
 |slcP (n:Nat)(x:aL)(lo hi:Option aL)
 |b2s (x:aL)
 |allocS (e e8:Nat)
 |bsliceT (e sz len:Nat)(zero:List C)(parts:List (Nat×aL))
 |mkset
 |lkset (x k:aL)
 |upset (x k:aL)
 |appendB (e bytes:Nat)(x y:aL)
 |sdata (x:aL)
 |ustr (e:Nat)(x n:aL)
 |mkfn (f:Nat)(caps:List aL)
 |ext (x:aL)(i:Nat)
 |len (str:Bool)(x:aL)
 |append (e sz bytes:Nat)(x y:aL)
 |appendT (e sz bytes:Nat)(x y:aL)
 |max2 (x y:aL)
 |min2 (x y:aL)
 |call (f:Nat)(args:List aL)
 |callv (x:aL)(args:List aL)
 |lkE (z:C)(x k:aL)
 |upD (x k v:aL)
 |bsliceC (sz:Nat)(zero:List C)(parts:List (Nat×Nat×aL))
 |appendC (sz bytes:Nat)(x y:aL)
structure bL where
 dst:Option Nat
 op:b9
 guard:Option (Nat×Bool)
def yy:Value->Option C
 |.bool b=>some (.t (.bool b))
 |.int k n=>some (.t (.int k n))
 |.string s=>if s.size<=dK then some (.t (.str s.data.toList))else none
 |.slice none 0 0=>some .bC
 |.pointer none=>some .eT
 |.nilFunc=>some .eS
 |.nilIface=>some .dead
 |.map none=>some .dead
 |_=>none
def uW:List Value->Option (List C)
 |[]=>some []
 |v::vs=>(yy v).bind λc=>(uW vs).map (c::·)
def HY:Value->Option V
 |.agg cs=>(uW cs.toList).map .agg
 |v=>(yy v).map .c
def bn:Operand->Option aL
 |.tmp t=>some (.tmp t)
 |.const v=>(HY v).map .const
 |.func f=>some (.const (.c (.fn f [])))
 |.global g=>some (.const (match da.s g with|[]=>.c .dead|t::r=>.c (.dx (t::r) 0)))
def mG:List Operand->Option (List aL)
 |[]=>some []
 |x::xs=>(bn x).bind λa=>(mG xs).map (a::·)
def jX:Option Operand->Option (Option aL)
 |none=>some none
 |some x=>(bn x).map some
def iT(P:Program)(t:TypeId):Option (List C):=
 (P.info? t).bind λi=>i.zero.bind λz=>uW z.cells.toList
def pk(P:Program)(t:TypeId):Option Bool:=
 match P.underlying t with
 |some (.struct _)|some (.array _ _)=>some true
 |some _=>some false
 |none=>none
def dZ(P:Program)(t:TypeId):Option Nat:=(P.info? t).map (·.size)
def nz(P:Program)(t:TypeId):Option (Bool×Nat):=
 (pk P t).bind λg=>(dZ P t).bind λn=>if g=false->n=1 then some (g,n)else none
def gS(P:Program)(f:Nat):Bool:=
 match P.funcs[f]? with
 |some fn=>fn.body.isSome && !(fn.name == "runtime.NumGoroutine")
 |none=>false
def sB(P:Program)(t:TypeId):Option Nat:=
 match P.underlying t with
 |some .bool=>some 0
 |some (.int _)=>some 1
 |some .string=>some 2
 |_=>none
def yC(P:Program):Nat->List Field->Option (List Nat)
 |_,[]=>some []
 |i,f::fs=>if f.offset = i/\f.name≠ "_" then (sB P f.type).bind λk=>(yC P (i+1) fs).map (k :: ·) else none
def FY(P:Program)(t:TypeId):Option (List Nat):=
 match P.underlying t with
 |some (.struct fs)=>if P.stoodInHeld t=false/\P.eqGuardType P.depth t=false then yC P 0 fs.toList else none
 |_=>none
def HZ(P:Program)(t:TypeId):Option (List Nat):=
 match P.underlying t with
 |some (.array n e)=>if dZ P e=some 1/\P.eqGuardType P.depth t=false then(sB P e).map (List.replicate n)else none
 |_=>none
def Gq(P:Program)(fs:Array Field):Bool:=fs.toList.all λf=>(dZ P f.type).isSome
def uJ(P:Program)(fs:Array Field):List (Nat×Operand)->Option (List (Nat×Nat×aL))
 |[]=>some []
 |(j,x)::r=>(fs[j]?).bind λf=>(dZ P f.type).bind λn=>(bn x).bind λa=>(uJ P fs r).map ((f.offset,n,a)::·)
def qy(n:Nat):List (Nat×Operand)->Option (List (Nat×Nat×aL))
 |[]=>some []
 |(j,x)::r=>(bn x).bind λa=>(qy n r).map ((j*n,n,a)::·)
def oU:List (Nat×Operand)->Option (List (Nat×aL))
 |[]=>some []
 |(j,x)::r=>(bn x).bind λa=>(oU r).map ((j,a)::·)
def lL(P:Program)(c:Call):Option b9:=
 match c.callee with
 |.builtin .len=>match c.args.toList,c.argTypes.toList with
  |[x],[t]=>match P.underlying t with
   |some .string=>(bn x).map (.len true)
   |some (.slice _)=>(bn x).map (.len false)
   |_=>none
  |_,_=>none
 |.builtin .append=>match c.args.toList,c.argTypes.toList with
  |[x,y],[t,d]=>match P.underlying t,P.underlying d with
   |some (.slice e),some .string=>(P.info? e).bind λi=>(bn x).bind λa=>(bn y).bind λb=>
    if i.size=1/\(i.zero.map (·.cells.size))=some 1/\(match P.underlying e with|some (.int .u8)=>true|_=>false)=true then some (.appendB e i.bytes a b)else none
   |some (.slice e),some (.slice _)=>(P.info? e).bind λi=>(bn x).bind λa=>(bn y).bind λb=>
    if i.size≠0/\(i.zero.map (·.cells.size))=some i.size then some (.append e i.size i.bytes a b)else none
   |_,_=>none
  |_,_=>none
 |.builtin .max=>match c.args.toList with
  |[x,y]=>(bn x).bind λa=>(bn y).map λb=>.max2 a b
  |_=>none
 |.builtin .min=>match c.args.toList with
  |[x,y]=>(bn x).bind λa=>(bn y).map λb=>.min2 a b
  |_=>none
 |.builtin .unsafeSliceData=>match c.args.toList,c.argTypes.toList with
  |[x],[t]=>match P.underlying t with
   |some (.slice e)=>if dZ P e=some 1 then(bn x).map .sdata else none
   |_=>none
  |_,_=>none
 |.builtin .unsafeString=>match c.args.toList,c.argTypes.toList with
  |[x,n],[t,_]=>match P.underlying t with
   |some (.pointer e)=>if(match P.underlying e with|some (.int .u8)=>true|_=>false)=true/\dZ P e=some 1/\P.cellsOf e=1 then(bn x).bind λa=>(bn n).map λb=>.ustr e a b else none
   |_=>none
  |_,_=>none
 |.value (.func f)=>if gS P f then(mG c.args.toList).map (.call f)else none
 |.value (.tmp t)=>(mG c.args.toList).map (.callv (.tmp t))
 |_=>none
def aal(P:Program)(t:TypeId):Bool:=
 match P.info? t with
 |some i=>(match i.desc with|.named n _=>n == "strings.Builder" |_=>false)
 |none=>false
def Ti:List Value->Bool
 |[.pointer none,.slice none 0 0]=>true
 |_=>false
def L4(P:Program)(t:TypeId):Bool:=
 match (P.info? t).bind (·.zero)with
 |some z=>Ti z.cells.toList
 |none=>false
def xv(P:Program)(t:TypeId):Option Nat:=
 if aal P t=true/\L4 P t=true then match P.underlying t with
  |some (.struct fs)=>(fs[1]?).bind λf=>match P.underlying f.type with
   |some (.slice e)=>some e
   |_=>none
  |_=>none
 else none
def va(P:Program)(t:TypeId):Bool:=
 match P.underlying t with
 |some (.map k v)=>(match P.underlying k,P.underlying v with|some .string,some .bool=>true|_,_=>false)&&(match (P.info? v).bind (·.zero)with|some (.bool false)=>true|_=>false)
 |_=>false
def sq(P:Program)(t:TypeId):Bool:=
 match P.underlying t with
 |some (.map k _)=>(match P.underlying k with|some .string=>true|_=>false)
 |_=>false
def GN(P:Program)(t:TypeId):Option C:=
 match P.underlying t with
 |some (.map _ v)=>((P.info? v).bind (·.zero)).bind yy
 |_=>none
def Gr:Operand->Bool
 |.const (.bool true)=>true
 |_=>false
def FZ:Operand->Bool
 |.const (.slice none 0 0)=>true
 |_=>false
def ES:Operand->Operand->Bool
 |.tmp s,.tmp t=>s==t
 |_,_=>false
def cY(P:Program)(o:Op):Option b9:=
 match o with
 |.move x|.assign x=>(bn x).map .mov
 |.pick c a b=>(bn c).bind λc=>(bn a).bind λa=>(bn b).map λb=>.pick c a b
 |.alloc e=>match xv P e with
  |some e8=>some (.allocS e e8)
  |none=>(iT P e).bind λcs=>match P.underlying e with
   |some (.array n t)=>if dZ P t=some 1/\n=cs.length/\4<n/\n<=2^24 then some (.allocA cs)else some (.alloc cs)
   |_=>some (.alloc cs)
 |.box _ x=>(bn x).map .box
 |.build t parts=>match P.underlying t with
  |some (.struct fs)=>if Gq P fs then(iT P t).bind λz=>(uJ P fs parts.toList).map λps=>.build z ps else none
  |some (.array _ e)=>(iT P t).bind λz=>(dZ P e).bind λn=>(qy n parts.toList).map λps=>.build z ps
  |_=>none
 |.buildSlice t len parts=>match P.underlying t with
  |some (.slice e)=>(dZ P e).bind λn=>(iT P e).bind λz=>(oU parts.toList).bind λps=>
   if n≠0/\z.length=n/\len*n<=2^24 then some (.bslice n len z ps)else none
  |_=>none
 |.load t a=>(nz P t).bind λg=>(bn a).map λx=>.load g.1 g.2 x
 |.store t a v=>(dZ P t).bind λn=>(bn a).bind λx=>(bn v).map λy=>.store n x y
 |.nilCheck x=>(bn x).map .nilCheck
 |.binOp op t x y _=>
  if op= .eql\/op= .neq then match P.underlying t with
   |some (.array _ _)=>(HZ P t).bind λks=>(bn x).bind λa=>(bn y).map λb=>.eqAgg (op== .neq) ks a b
   |some (.struct _)=>(FY P t).bind λks=>(bn x).bind λa=>(bn y).map λb=>.eqAgg (op== .neq) ks a b
   |some (.slice _)=>if FZ y then(bn x).map (.eqNil (op== .neq))else none
   |some .bool=>(bn x).bind λa=>(bn y).map λb=>.eqBool (op== .neq) a b
   |some (.int _)|some .string=>(bn x).bind λa=>(bn y).map λb=>.bin op a b
   |_=>none
  else(bn x).bind λa=>(bn y).map λb=>.bin op a b
 |.unOp .not _ x=>(bn x).map .not
 |.unOp .neg t x=>match P.underlying t with
  |some (.int k)=>(bn x).map (.bin .sub (.const (.c (.t (.int k 0)))))
  |_=>none
 |.unOp .xor t x=>match P.underlying t with
  |some (.int k)=>(bn x).map (.bin .xor (.const (.c (.t (.int k (if k.signed then -1 else k.max))))))
  |_=>none
 |.convert s d x=>match P.underlying s,P.underlying d with
  |some (.int _),some (.int k)=>(bn x).map (.conv k)
  |some (.int _),some .string=>(bn x).map .i2s
  |some .string,some .string=>(bn x).map .s2s
  |some (.slice e),some .string=>if(match P.underlying e with|some (.int .u8)=>true|_=>false)=true/\dZ P e=some 1 then(bn x).map .b2s else none
  |_,_=>none
 |.fieldAddr t x f=>match P.underlying t with
  |some (.struct fs)=>(fs[f]?).bind λj=>(dZ P j.type).bind λn=>if n=0 then none else(bn x).map (.fldA j.offset)
  |_=>none
 |.field t x f=>match P.underlying t with
  |some (.struct fs)=>(fs[f]?).bind λj=>(nz P j.type).bind λg=>(bn x).map (.fld g.1 j.offset g.2)
  |_=>none
 |.indexAddr t x i=>match P.underlying t with
  |some (.slice e)=>(dZ P e).bind λn=>if n=0 then none else(bn x).bind λa=>(bn i).map λb=>.idxA n a b
  |some (.array n e)=>match i with
   |.const (.int _ m)=>if 0<=m/\m.toNat<n then(dZ P e).bind λs=>(bn x).map (.fldA (m.toNat*s))else none
   |i=>if dZ P e=some 1 then(bn x).bind λa=>(bn i).map λb=>.idxP n a b else none
  |_=>none
 |.index t x i=>match P.underlying t with
  |some .string=>(bn x).bind λa=>(bn i).map λb=>.idxS a b
  |some (.array n e)=>if nz P e=some (false,1)then(bn x).bind λa=>(bn i).map λb=>.idxV n a b else none
  |_=>none
 |.slice t x lo hi p=>match P.underlying t with
  |some .string=>if p.isNone then(bn x).bind λa=>(jX lo).bind λl=>(jX hi).map λh=>.slcS a l h else none
  |some (.slice e)=>match p with
   |none=>(dZ P e).bind λn=>if n=0 then none else(bn x).bind λa=>(jX lo).bind λl=>(jX hi).map λh=>.slc n a l h
   |some (.const (.int _ 0))=>match lo,hi with
    |none,some (.const (.int _ 0))=>if(dZ P e).isSome then(bn x).map .slc0 else none
    |_,_=>none
   |_=>none
  |some (.array n e)=>if p.isNone/\dZ P e=some 1 then(bn x).bind λa=>(jX lo).bind λl=>(jX hi).map λh=>.slcP n a l h else none
  |_=>none
 |.makeFunc (.func f) first caps=>if first.isEmpty then(mG caps.toList).map (.mkfn f)else none
 |.extract x i=>(bn x).map λa=>.ext a i
 |.makeSlice t x y=>match P.underlying t with
  |some (.slice e)=>if ES x y=true then(P.info? e).bind λi=>(iT P e).bind λz=>if i.size≠0/\z.length=i.size then(bn x).map (.mslice i.size i.bytes z)else none else none
  |_=>none
 |.makeMap t none=>if sq P t=true then some .mkset else none
 |.lookup t x i false=>if va P t=true then(bn x).bind λa=>(bn i).map λb=>.lkset a b else none
 |.lookup t x i true=>if sq P t=true then(GN P t).bind λz=>(bn x).bind λa=>(bn i).map λb=>.lkE z a b else none
 |.mapUpdate t m k v=>if va P t=true/\Gr v=true then(bn m).bind λa=>(bn k).map λb=>.upset a b
  else if sq P t=true then(bn m).bind λa=>(bn k).bind λb=>(bn v).map λc=>.upD a b c else none
 |.call c=>lL P c
 |_=>none
def r9(ops:Array Oper):Option (Nat×Bool)->Option (Option (Nat×Bool))
 |none=>some none
 |some (j,b)=>((ops[j]?).bind (·.dst)).map λd=>some (d,b)
def rH(d:Nat):Operand->Bool
 |.tmp t=>t==d
 |_=>false
def yc(d:Nat):Op->Bool
 |.call c=>match c.callee with
  |.builtin .append=>(c.args.toList.drop 1).any (rH d)
  |.value (.func _)=>c.args.toList.any (rH d)
  |_=>false
 |.build _ ps=>ps.toList.any λp=>rH d p.2
 |.buildSlice _ _ ps=>ps.toList.any λp=>rH d p.2
 |.convert _ _ x=>rH d x
 |.indexAddr _ x _=>rH d x
 |_=>false
def ZC(d:Nat):Op->Bool
 |.buildSlice _ _ ps=>ps.toList.any λp=>rH d p.2
 |_=>false
def Td(ops:Array Oper)(o:Oper):Bool×Bool:=
 match o.dst with
 |some d=>(ops.toList.any λq=>yc d q.op,ops.toList.any λq=>ZC d q.op)
 |none=>(false,false)
def D3(b:Bool):b9->b9
 |.append te sz bytes x y=>bif b then .appendT te sz bytes x y else .append te sz bytes x y
 |o=>o
def tM(P:Program)(o:Op):Option b9:=
 match o with
 |.buildSlice t len parts=>match P.underlying t with
  |some (.slice e)=>if da.o e = true then (dZ P e).bind λn=>(iT P e).bind λz=>(qy n parts.toList).bind λps=>
   if n≠0/\z.length=n/\len=1/\n<=2^24 then some (.bsliceC n z ps)else none
   else none
  |_=>none
 |.call c=>match c.callee with
  |.builtin .append=>match c.args.toList,c.argTypes.toList with
   |[x,y],[t,d]=>match P.underlying t,P.underlying d with
    |some (.slice e),some (.slice _)=>if da.o e = true then (P.info? e).bind λi=>(bn x).bind λa=>(bn y).bind λb=>
     if i.size≠0/\(i.zero.map (·.cells.size))=some i.size then some (.appendC i.size i.bytes a b)else none
     else none
    |_,_=>none
   |_,_=>none
  |_=>none
 |_=>none
def ud(P:Program)(a:Bool×Bool)(o:Op):Option b9:=
 match tM P o with
 |some b=>some b
 |none=>match o,a.1 with
 |.buildSlice t len parts,true=>match P.underlying t with
  |some (.slice e)=>(dZ P e).bind λn=>(iT P e).bind λz=>(oU parts.toList).bind λps=>
   if n≠0/\z.length=n/\len*n<=2^24 then some (.bsliceT e n len z ps)else none
  |_=>none
 |.call c,_=>(lL P c).map (D3 a.2)
 |o,_=>cY P o
def uH(P:Program)(nt:Nat)(ops:Array Oper)(o:Oper):Option bL:=
 (ud P (Td ops o) o.op).bind λp=>(r9 ops o.guard).bind λg=>
  match o.dst with
  |none=>some ⟨none,p,g⟩
  |some d=>if d<nt then some ⟨some d,p,g⟩else none
def iY(P:Program)(nt:Nat)(ops:Array Oper):List Oper->Option (List bL)
 |[]=>some []
 |o::r=>(uH P nt ops o).bind λa=>(iY P nt ops r).map (a::·)
inductive di where
 |skip
 |region (ops:List bL)
 |jY (ops:List bL)(dV:List (Nat×Nat))
 |seq (a b:di)
 |cond (c:aL)(x y:di)
 |block (id:Nat)(b:di)
 |loop (b:di)
 |exit (id:Nat)
 |ret
def b9.neutral:b9->Bool
 |.alloc _|.allocA _|.box _|.bslice .. |.mslice .. |.store .. |.append .. |.appendT .. |.call .. |.callv .. |.eqNil .. =>false
 |.allocS .. |.mkset|.upset .. |.appendB .. |.ustr .. |.upD .. |.bsliceC .. |.appendC .. =>false
 |_=>true
def b9.hP:b9->Bool
 |.alloc _|.allocA _|.b2s _|.box _|.bslice .. |.mslice .. |.store .. |.append .. |.appendT .. |.load .. =>true
 |.allocS .. |.mkset|.lkset .. |.upset .. |.appendB .. |.ustr .. |.call .. |.lkE .. |.upD .. |.bsliceC .. |.appendC .. =>true
 |_=>false
def b9.drawn:b9->Bool
 |.eqNil .. =>false
 |_=>true
def aL.tmps:aL->List Nat
 |.tmp t=>[t]
 |.const _=>[]
def sV:Option aL->List Nat
 |none=>[]
 |some x=>x.tmps
def b9.reads:b9->List Nat
 |.mov x=>x.tmps
 |.pick c x y=>c.tmps++x.tmps++y.tmps
 |.alloc _|.allocA _=>[]
 |.box x=>x.tmps
 |.build _ ps=>ps.flatMap λp=>p.2.2.tmps
 |.bslice _ _ _ ps=>ps.flatMap λp=>p.2.tmps
 |.load _ _ x=>x.tmps
 |.store _ x v=>x.tmps++v.tmps
 |.nilCheck x=>x.tmps
 |.bin _ x y=>x.tmps++y.tmps
 |.eqAgg _ _ x y=>x.tmps++y.tmps
 |.eqBool _ x y=>x.tmps++y.tmps
 |.eqNil _ x=>x.tmps
 |.not x=>x.tmps
 |.conv _ x=>x.tmps
 |.i2s x=>x.tmps
 |.s2s x=>x.tmps
 |.fldA _ x=>x.tmps
 |.fld _ _ _ x=>x.tmps
 |.idxA _ x i=>x.tmps++i.tmps
 |.idxS x i=>x.tmps++i.tmps
 |.slcS x lo hi=>x.tmps++sV lo++sV hi
 |.slc _ x lo hi=>x.tmps++sV lo++sV hi
 |.slc0 x=>x.tmps
 |.b2s x=>x.tmps
 |.allocS .. |.mkset=>[]
 |.bsliceT _ _ _ _ ps=>ps.flatMap λp=>p.2.tmps
 |.lkset x k=>x.tmps++k.tmps
 |.upset x k=>x.tmps++k.tmps
 |.appendB _ _ x y=>x.tmps++y.tmps
 |.sdata x=>x.tmps
 |.ustr _ x k=>x.tmps++k.tmps
 |.idxP _ x i=>x.tmps++i.tmps
 |.idxV _ x i=>x.tmps++i.tmps
 |.mslice _ _ _ x=>x.tmps
 |.slcP _ x lo hi=>x.tmps++sV lo++sV hi
 |.mkfn _ caps=>caps.flatMap aL.tmps
 |.ext x _=>x.tmps
 |.len _ x=>x.tmps
 |.append _ _ _ x y=>x.tmps++y.tmps
 |.appendT _ _ _ x y=>x.tmps++y.tmps
 |.max2 x y=>x.tmps++y.tmps
 |.min2 x y=>x.tmps++y.tmps
 |.call _ args=>args.flatMap aL.tmps
 |.callv x args=>x.tmps++args.flatMap aL.tmps
 |.lkE _ x k=>x.tmps++k.tmps
 |.upD x k v=>x.tmps++k.tmps++v.tmps
 |.bsliceC _ _ ps=>ps.flatMap λp=>p.2.2.tmps
 |.appendC _ _ x y=>x.tmps++y.tmps
def bL.rd(o:bL):List Nat:=o.op.reads++(match o.guard with|none=>[]|some (t,_)=>[t])
def gT(o:Oper):List Nat:=(o.after.toList.filter (Region.binds .any)).map (·.on)
def ahead(l:List (bL×List Nat))(j i:Nat):Bool:=decide (j<i)&&((l[i]?).map λx=>x.2.contains j).getD false
def C4:Nat->List (bL×List Nat)->Bool
 |_,[]=>true
 |i,x::r=>x.2.all (· < i)&&C4 (i+1) r
def QE(l:List (bL×List Nat)):Bool:=
 l.zipIdx.all λx=>l.zipIdx.all λy=>
  match y.1.1.dst with
  |none=>true
  |some d=>(!(x.1.1.rd.contains d)||ahead l y.2 x.2||(x.1.1.op.neutral && !x.1.1.op.hP&&ahead l x.2 y.2))&&(x.2==y.2 || !(x.1.1.dst==some d))
def mY:List (bL×List Nat)->List (List Nat)->List (List Nat)
 |[],acc=>acc
 |x::r,acc=>mY r (acc++[(x.2++x.2.flatMap λe=>acc.getD e []).eraseDups])
def nA(a:List (List Nat))(j i:Nat):Bool:=decide (j<i)&&(a.getD i []).contains j
def DQ(a:List (List Nat))(l:List (bL×List Nat)):List (Nat×Nat):=
 l.zipIdx.flatMap λx=>if x.1.1.op.neutral then[]else l.zipIdx.filterMap λy=>
  if y.1.1.op.hP && !(x.2==y.2) && !(nA a x.2 y.2) && !(nA a y.2 x.2)then some (x.2,y.2)else none
def kO(l:List (bL×List Nat)):List (Nat×Nat):=DQ (mY l []) l
def CP(l:List (bL×List Nat)):Bool:=(List.range (l.length-1)).all λi=>l.zipIdx.any λy=>decide (i<y.2)&&y.1.2.contains i
def sN(l:List (bL×List Nat)):Bool:=C4 0 l&&QE l&&l.all λx=>x.1.op.drawn
def ru(l:List (bL×List Nat)):List (Nat×Nat):=
 if decide (2<=l.length)&&CP l&&sN l.dropLast then(l.length,0)::(kO l++kO l.dropLast)else kO l
def fj(ops:Array Oper)(aP:List bL):List (bL×List Nat):=aP.zip (ops.toList.map gT)
def resolve(P:Program)(nt:Nat):Code->Option di
 |.skip=>some .skip
 |.region _ ops d=>(iY P nt ops ops.toList).bind λaP=>
  if d then(if sN (fj ops aP)&&P.follows .mixedOrders then some (.jY aP (ru (fj ops aP)))else none)else some (.region aP)
 |.seq a b=>(resolve P nt a).bind λx=>(resolve P nt b).map λy=>.seq x y
 |.cond c a b=>(bn c).bind λo=>(resolve P nt a).bind λx=>(resolve P nt b).map λy=>.cond o x y
 |.block id b=>(resolve P nt b).map (.block id)
 |.loop b=>(resolve P nt b).map .loop
 |.exit id=>some (.exit id)
 |.ret=>some .ret
 |_=>none
end
section
open Go
abbrev Env:=List (Nat×Bool×V)
abbrev aF:=List (Nat×bp)
def look:Env->Nat->Option (Bool×V)
 |[],_=>none
 |(k,x)::r,i=>if k=i then some x else look r i
def aJ:aF->Nat->Option bp
 |[],_=>none
 |(k,x)::r,i=>if k=i then some x else aJ r i
def cn:aF->Nat->bp->aF
 |[],b,x=>[(b,x)]
 |(k,y)::r,b,x=>if k=b then(k,x)::r else(k,y)::cn r b x
def eM:aF->Nat->aF
 |[],_=>[]
 |(k,y)::r,b=>if k=b then eM r b else(k,y)::eM r b
theorem cE(J:aF)(b:Nat)(x:bp)(i:Nat):aJ (cn J b x) i=if b=i then some x else aJ J i:=by
 induction J with
 |nil=>rfl
 |cons y r ih=>
  obtain⟨k,y⟩:=y;by_cases a:k=b
  . grind[cn,aJ]
  . simp[cn,ag a,aJ]
    grind
theorem d'(J:aF)(b:Nat)(i:Nat):aJ (eM J b) i=if b=i then none else aJ J i:=by
 induction J with
 |nil=>simp[eM,aJ]
 |cons y r ih=>
  obtain⟨k,y⟩:=y;by_cases a:k=b
  . grind[eM,aJ]
  . simp[eM,ag a,aJ]
    grind
def aL.get(env:Env):aL->Option (Prop×V)
 |.const v=>some (True,v)
 |.tmp t=>(look env t).map λx=>(x.1=true,x.2)
def gL(env:Env):List aL->Option (Prop×List V)
 |[]=>some (True,[])
 |x::xs=>(x.get env).bind λa=>(gL env xs).map λb=>(a.1/\b.1,a.2::b.2)
def iM(env:Env):Option aL->Option (Prop×Option Int)
 |none=>some (True,none)
 |some x=>(x.get env).bind λa=>match a.2 with
  |.c (.t (.int _ n))=>some (a.1,some n)
  |_=>none
def kP:V->Option (List C)
 |.c x=>some [x]
 |.agg cs=>some cs
 |.aS _=>none
def toT:C->Option T
 |.t x=>some x
 |.bC=>some (.slice [])
 |_=>none
def toTs:List C->Option (List T)
 |[]=>some []
 |c::cs=>(toT c).bind λt=>(toTs cs).map (t::·)
def el(es:List (List T))(i:Nat):List T:=es.getD i []
def k5(a:List C)(off:Nat)(cs:List C):List C:=a.take off++cs++a.drop (off+cs.length)
def iI(env:Env):List C->List (Nat×Nat×aL)->Option (Prop×List C)
 |c,[]=>some (True,c)
 |c,(off,n,x):: r=>(x.get env).bind λa=>(kP a.2).bind λcs=>
  if cs.length=n/\off+n<=c.length then(iI env (k5 c off cs) r).map λb=>(a.1/\b.1,b.2)else none
def iJ(env:Env)(sz:Nat):List (List T)->List (Nat×aL)->Option (Prop×List (List T))
 |es,[]=>some (True,es)
 |es,(i,x):: r=>(x.get env).bind λa=>(kP a.2).bind λcs=>(toTs cs).bind λts=>
  if ts.length=sz/\i<es.length then(iJ env sz (es.set i ts) r).map λb=>(a.1/\b.1,b.2)else none
def mX:BinOp->T->T->Option (Prop×T)
 |.add,.int k a,.int c b=>if k=c then some (True,.int k (k.wrap (a+b)))else none
 |.sub,.int k a,.int c b=>if k=c then some (True,.int k (k.wrap (a-b)))else none
 |.mul,.int k a,.int c b=>if k=c then some (True,.int k (k.wrap (a*b)))else none
 |.quo,.int k a,.int c b=>if k=c then some (b≠0,.int k (k.wrap (a.tdiv b)))else none
 |.rem,.int k a,.int c b=>if k=c then some (b≠0,.int k (a.tmod b))else none
 |.and,.int k a,.int c b=>if k=c then some (True,.int k (k.wrap (BitVec.ofInt k.bits a &&& BitVec.ofInt k.bits b).toNat))else none
 |.or,.int k a,.int c b=>if k=c then some (True,.int k (k.wrap (BitVec.ofInt k.bits a ||| BitVec.ofInt k.bits b).toNat))else none
 |.xor,.int k a,.int c b=>if k=c then some (True,.int k (k.wrap (BitVec.ofInt k.bits a ^^^ BitVec.ofInt k.bits b).toNat))else none
 |.andNot,.int k a,.int c b=>if k=c then some (True,.int k (k.wrap (BitVec.ofInt k.bits a &&& ~~~ BitVec.ofInt k.bits b).toNat))else none
 |.shl,.int k a,.int _ b=>some (0<=b,.int k (k.wrap (a*2^min b.toNat k.bits)))
 |.shr,.int k a,.int _ b=>some (0<=b,.int k (a.fdiv (2^min b.toNat k.bits)))
 |.eql,.int k a,.int c b=>if k=c then some (True,.bool (decide (a=b)))else none
 |.neq,.int k a,.int c b=>if k=c then some (True,.bool (!decide (a=b)))else none
 |.lss,.int k a,.int c b=>if k=c then some (True,.bool (decide (a<b)))else none
 |.leq,.int k a,.int c b=>if k=c then some (True,.bool (decide (a<=b)))else none
 |.gtr,.int k a,.int c b=>if k=c then some (True,.bool (decide (b<a)))else none
 |.geq,.int k a,.int c b=>if k=c then some (True,.bool (decide (b<=a)))else none
 |.add,.str a,.str b=>some (a.length+b.length<=dK,.str (a++b))
 |.eql,.str a,.str b=>some (True,.bool (decide (a=b)))
 |.neq,.str a,.str b=>some (True,.bool (!decide (a=b)))
 |.lss,.str a,.str b=>some (True,.bool (Op.bytesLess a b))
 |.leq,.str a,.str b=>some (True,.bool (Op.bytesLess a b||decide (a=b)))
 |.gtr,.str a,.str b=>some (True,.bool (!(Op.bytesLess a b||decide (a=b))))
 |.geq,.str a,.str b=>some (True,.bool (!(Op.bytesLess a b)))
 |_,_,_=>none
def As:Nat->T->T->Option Bool
 |0,.bool a,.bool b=>some (a==b)
 |1,.int k a,.int c b=>if k=c then some (decide (a=b))else none
 |2,.str a,.str b=>some (decide (a=b))
 |_,_,_=>none
def k3:List Nat->List C->List C->Option Bool
 |[],[],[]=>some true
 |k::ks,.t x::xs,.t y::a=>(As k x y).bind λb=>(k3 ks xs a).map λr=>b&&r
 |_,_,_=>none
abbrev zJ:=Option (Prop×V×aF)
def loadT(agg:Bool)(n:Nat)(ts:List T)(o:Nat):Option V:=
 if agg then(if o+n<=ts.length then some (.agg (((ts.drop o).take n).map .t))else none)else(ts[o]?).map λt=>.c (.t t)
def hp(agg:Bool)(n:Nat)(cs:List C)(o:Nat):Option V:=
 if agg then(if o+n<=cs.length then some (.agg ((cs.drop o).take n))else none)else(cs[o]?).map .c
def gr:Nat:=281474976710656
def gv(n bytes:Nat):Prop:=(2*n+192)*bytes<=gr\/(n+n/4+512)*bytes<=gr
def ia(J:aF):V->Option (List (List T)×Option Nat)
 |.c (.t (.slice a))=>some (a,none)
 |.c .bC=>some ([],none)
 |.c (.arr b d off len)=>match aJ J b with
  |some (.arr e a)=>if d=e/\off=0/\len=a.length then some (a,some b)else none
  |_=>none
 |_=>none
def bytesOf:List (List T)->Option (List UInt8)
 |[]=>some []
 |[.int .u8 m]::r=>(bytesOf r).map λs=>UInt8.ofNat m.toNat::s
 |_=>none
def mW(J:aF):V->Option (Prop×List UInt8)
 |.c (.t (.slice es))=>(bytesOf es).map λs=>(True,s)
 |.c .bC=>some (True,[])
 |.c (.arr b 1 off len)=>match aJ J b with
  |some (.arr 1 es)=>(bytesOf ((es.drop off).take len)).map λs=>(off+len<=es.length,s)
  |_=>none
 |.c (.fq b 1 off len)=>match aJ J b with
  |some (.arr 1 es)=>(bytesOf ((es.drop off).take len)).map λs=>(off+len<=es.length,s)
  |_=>none
 |_=>none
def iN(ks:List (List UInt8))(s:List UInt8):Bool:=ks.any λk=>decide (k=s)
def ig(ks:List (List UInt8))(s:List UInt8):List (List UInt8):=if iN ks s=true then ks else ks++[s]
def vB:List C->Option C
 |[.arr b sz off len]=>some (.arr b sz off len)
 |_=>none
def jy:V->V->Option (Nat×Nat×Nat×Nat×Nat×Nat×Nat)
 |.c (.arr b sz off len),.c (.fq a f e d)=>if b=a then some (b,sz,off,len,f,e,d)else none
 |_,_=>none
def tI(J:aF)(n sz:Nat)(p q:Prop):Nat×Nat×Nat×Nat×Nat×Nat×Nat->zJ
 |(b,s1,off,len,e,d,a)=>match aJ J b with
  |some (.arr f es)=>some (p/\q/\s1 = sz/\e = sz/\f = sz/\off = 0/\len+a<=es.length/\d+a<=es.length,
   .c (.arr n sz 0 (len+a)),cn (eM J b) n (.arr sz (es.take len++(es.drop d).take a)))
  |_=>none
def kI:List C->Bool
 |[.bC]=>true
 |_=>false
def aw(o:b9)(env:Env)(J:aF)(n:Nat):zJ:=
 match o with
 |.mov x=>(x.get env).map λa=>(a.1,a.2,J)
 |.pick c x y=>(c.get env).bind λc=>(x.get env).bind λx=>(y.get env).bind λy=>
  match c.2,x.2,y.2 with
  |.c (.t (.bool b)),.c (.t (.bool p)),.c (.t (.bool q))=>
   some (c.1/\(b=true->x.1)/\(b=false->y.1),.c (.t (.bool (bif b then p else q))),J)
  |_,_,_=>none
 |.alloc cs=>some (True,.c (.ptr n 0),cn J n (.box cs))
 |.allocA cs=>(toTs cs).map λts=>(True,.c (.ptr n 0),cn J n (.arr 1 (ts.map λt=>[t])))
 |.idxP k x i=>(x.get env).bind λa=>(i.get env).bind λj=>match a.2,j.2 with
  |.c (.ptr b 0),.c (.t (.int _ m))=>some (a.1/\j.1/\0<=m/\m.toNat<k,.c (.cl b 1 m.toNat 0),J)
  |_,_=>none
 |.idxV k x i=>(x.get env).bind λa=>(i.get env).bind λj=>match a.2,j.2 with
  |.agg cs,.c (.t (.int _ m))=>if cs.length=k then some (a.1/\j.1/\0<=m/\m.toNat<k,.c (cs.getD m.toNat .dead),J)else none
  |_,_=>none
 |.mslice sz bytes z x=>(x.get env).bind λa=>(toTs z).bind λE=>match a.2 with
  |.c (.t (.int _ m))=>some (a.1/\0<=m/\m.toNat*bytes<=gr/\m.toNat<=dd/\(kI z=true->m.toNat≠0),.c (.arr n sz 0 m.toNat),cn J n (if kI z=true then .box (List.replicate m.toNat .bC)else .arr sz (List.replicate m.toNat E)))
  |_=>none
 |.slcP k x lo hi=>(x.get env).bind λa=>(iM env lo).bind λl=>(iM env hi).bind λh=>match a.2 with
  |.c (.ptr b 0)=>
   let e:=h.2.getD k
   let c:=l.2.getD 0
   some (a.1/\l.1/\h.1/\0<=c/\c<=e/\e<=k,.c (.fq b 1 c.toNat (e.toNat-c.toNat)),J)
  |_=>none
 |.b2s x=>(x.get env).bind λa=>(mW J a.2).map λr=>(a.1/\r.1,.c (.t (.str r.2)),J)
 |.box x=>(x.get env).bind λa=>(kP a.2).map λcs=>(a.1,.c (.ptr n 0),cn J n (.box cs))
 |.build z parts=>(iI env z parts).map λa=>(a.1,.agg a.2,J)
 |.bslice sz len z parts=>(toTs z).bind λE=>(iJ env sz (List.replicate len E) parts).map λa=>
  (a.1,.c (.arr n sz 0 len),cn J n (.arr sz a.2))
 |.load agg k x=>(x.get env).bind λa=>match a.2 with
  |.c (.ptr b o)=>match aJ J b with
   |some (.box cs)=>(hp agg k cs o).map λv=>(a.1,v,J)
   |some (.bX _ c)=>if agg=false/\o=1 then some (a.1,.c c,J)else none
   |_=>none
  |.c (.cl b sz i o)=>match aJ J b with
   |some (.arr g es)=>(loadT agg k (el es i) o).map λv=>(a.1/\sz=g/\i<es.length,v,J)
   |some (.box cs)=>(hp agg k cs (i*sz+o)).map λv=>(a.1,v,J)
   |some (.vec _ cs)=>(hp agg k cs (i*sz+o)).map λv=>(a.1,v,J)
   |some (.cu g es C D c)=>if agg=true then none else if o=D then some (a.1/\sz=g/\i=C,.c c,J)else(loadT false k (el es i) o).map λv=>(a.1/\sz=g/\i<es.length,v,J)
   |_=>none
  |.c (.dx ts o)=>(loadT agg k ts o).map λv=>(a.1,v,J)
  |_=>none
 |.store k x v=>(x.get env).bind λa=>(v.get env).bind λd=>(kP d.2).bind λcs=>
  if cs.length=k then match a.2 with
   |.c (.ptr b o)=>match aJ J b with
    |some (.box w)=>if o+k<=w.length then some (a.1/\d.1,.aS [],cn J b (.box (k5 w o cs)))else none
    |some (.bX e _)=>match o,cs with
     |1,[c]=>some (a.1/\d.1,.aS [],cn J b (.bX e c))
     |_,_=>none
    |_=>none
   |.c (.cl b sz i o)=>match aJ J b with
    |some (.arr g es)=>match vB cs with
     |some c=>some (a.1/\d.1/\sz=g/\i<es.length/\o+k<=sz,.aS [],cn J b (.cu g es i o c))
     |none=>(toTs cs).bind λts=>
      some (a.1/\d.1/\sz=g/\i<es.length/\o+k<=sz,.aS [],
       cn J b (.arr g (es.set i ((el es i).take o++ts++(el es i).drop (o+k)))))
    |some (.box w)=>if i*sz+o+k<=w.length then some (a.1/\d.1,.aS [],cn J b (.box (k5 w (i*sz+o) cs)))else none
    |some (.vec L w)=>if i*sz+o+k<=w.length then some (a.1/\d.1,.aS [],cn J b (.vec L (k5 w (i*sz+o) cs)))else none
    |some (.cu g es C D c0)=>match cs with
     |[c]=>if o=D then some (a.1/\d.1/\sz=g/\i=C,.aS [],cn J b (.cu g es C D c))
      else(toT c).bind λt=>some (a.1/\d.1/\sz=g/\i<es.length/\o+k<=sz,.aS [],
       cn J b (.cu g (es.set i ((el es i).take o++[t]++(el es i).drop (o+k))) C D c0))
     |_=>none
    |_=>none
   |_=>none
  else none
 |.nilCheck x=>(x.get env).bind λa=>match a.2 with
  |.c (.ptr ..)|.c (.cl ..)|.c (.dx ..)=>some (a.1,a.2,J)
  |_=>none
 |.bin op x y=>(x.get env).bind λa=>(y.get env).bind λb=>match a.2,b.2 with
  |.c (.t p),.c (.t q)=>(mX op p q).map λr=>(a.1/\b.1/\r.1,.c (.t r.2),J)
  |_,_=>none
 |.eqAgg neg ks x y=>(x.get env).bind λa=>(y.get env).bind λb=>match a.2,b.2 with
  |.agg p,.agg q=>(k3 ks p q).map λr=>(a.1/\b.1,.c (.t (.bool (if neg then !r else r))),J)
  |_,_=>none
 |.eqBool neg x y=>(x.get env).bind λa=>(y.get env).bind λb=>match a.2,b.2 with
  |.c (.t (.bool p)),.c (.t (.bool q))=>some (a.1/\b.1,.c (.t (.bool (if neg then !(p==q)else(p==q)))),J)
  |_,_=>none
 |.not x=>(x.get env).bind λa=>match a.2 with
  |.c (.t (.bool b))=>some (a.1,.c (.t (.bool (!b))),J)
  |_=>none
 |.conv k x=>(x.get env).bind λa=>match a.2 with
  |.c (.t (.int _ m))=>some (a.1,.c (.t (.int k (k.wrap m))),J)
  |_=>none
 |.i2s x=>(x.get env).bind λa=>match a.2 with
  |.c (.t (.int _ m))=>some (a.1,.c (.t (.str (Utf8.encode m).data.toList)),J)
  |_=>none
 |.s2s x=>(x.get env).bind λa=>match a.2 with
  |.c (.t (.str s))=>some (a.1,.c (.t (.str s)),J)
  |_=>none
 |.fldA off x=>(x.get env).bind λa=>match a.2 with
  |.c (.ptr b o)=>some (a.1,.c (.ptr b (o+off)),J)
  |.c (.cl b sz i o)=>some (a.1,.c (.cl b sz i (o+off)),J)
  |.c (.dx ts o)=>some (a.1,.c (.dx ts (o+off)),J)
  |_=>none
 |.fld agg off k x=>(x.get env).bind λa=>match a.2 with
  |.agg cs=>(hp agg k cs off).map λv=>(a.1,v,J)
  |_=>none
 |.idxA sz x i=>(x.get env).bind λa=>(i.get env).bind λj=>match a.2,j.2 with
  |.c (.t (.slice es)),.c (.t (.int _ m))=>some (a.1/\j.1/\0<=m/\m.toNat<es.length/\(el es m.toNat).length=sz,.c (.dx (el es m.toNat) 0),J)
  |.c (.arr b g off len),.c (.t (.int _ m))=>some (a.1/\j.1/\0<=m/\m.toNat<len/\sz=g,.c (.cl b sz (off+m.toNat) 0),J)
  |_,_=>none
 |.idxS x i=>(x.get env).bind λa=>(i.get env).bind λj=>match a.2,j.2 with
  |.c (.t (.str s)),.c (.t (.int _ m))=>some (a.1/\j.1/\0<=m/\m.toNat<s.length,.c (.t (.int .u8 (s.getD m.toNat 0).toNat)),J)
  |_,_=>none
 |.slcS x lo hi=>(x.get env).bind λa=>(iM env lo).bind λl=>(iM env hi).bind λh=>match a.2 with
  |.c (.t (.str s))=>
   let b:=h.2.getD s.length
   let c:=l.2.getD 0
   some (a.1/\l.1/\h.1/\0<=c/\c<=b/\b<=s.length,.c (.t (.str ((s.take b.toNat).drop c.toNat))),J)
  |_=>none
 |.slc sz x lo hi=>(x.get env).bind λa=>(iM env lo).bind λl=>(iM env hi).bind λh=>match a.2 with
  |.c (.t (.slice es))=>
   let b:=h.2.getD es.length
   let c:=l.2.getD 0
   some (a.1/\l.1/\h.1/\0<=c/\c<=b/\b<=es.length/\(∀e,e∈es->e.length=sz),.c (.t (.slice ((es.take b.toNat).drop c.toNat))),J)
  |.c (.arr b g off len)=>
   some (a.1/\l.1/\h.1/\0<=l.2.getD 0/\l.2.getD 0<=h.2.getD len/\h.2.getD len<=len/\sz=g,
    .c (if lo.isNone then .arr b g off (h.2.getD len).toNat else .fq b g (off+(l.2.getD 0).toNat) ((h.2.getD len).toNat-(l.2.getD 0).toNat)),J)
  |_=>none
 |.slc0 x=>(x.get env).bind λa=>match a.2 with
  |.c (.t (.slice _))|.c .bC|.c (.arr ..)=>some (a.1,.c .bC,J)
  |_=>none
 |.mkfn f caps=>(gL env caps).bind λa=>match pZ a.2 with
  |some l=>some (a.1,.c (.fn f l),J)
  |none=>none
 |.ext x i=>(x.get env).bind λa=>match a.2 with
  |.aS vs=>(vs[i]?).map λv=>(a.1,v,J)
  |_=>none
 |.len str x=>(x.get env).bind λa=>match str,a.2 with
  |false,.c (.t (.slice es))=>some (a.1,.c (.t (.int .i64 es.length)),J)
  |false,.c (.arr _ _ _ l)=>some (a.1,.c (.t (.int .i64 l)),J)
  |false,.c .bC=>some (a.1,.c (.t (.int .i64 0)),J)
  |false,.c (.cr _ l)=>some (a.1,.c (.t (.int .i64 l)),J)
  |true,.c (.t (.str s))=>some (a.1,.c (.t (.int .i64 s.length)),J)
  |_,_=>none
 |.append te sz bytes x y=>(x.get env).bind λa=>(y.get env).bind λd=>
  match jy a.2 d.2 with
  |some r=>tI J n sz a.1 d.1 r
  |none=>
  (ia J d.2).bind λu=>
  match a.2 with
  |.c .bC=>some (a.1/\d.1/\(∀ e,e∈u.1->e.length = sz)/\gv u.1.length bytes/\u.1.length<=dd,
   .c (.arr n sz 0 u.1.length),cn J n (.arr sz u.1))
  |.c (.arr b g off len)=>match aJ J b with
   |some (.arr G es)=>
    if u.2=some b then none else some (a.1/\d.1/\g=sz/\G=sz/\off=0/\len=es.length/\(∀e,e∈u.1->e.length=sz)/\gv (es.length+u.1.length) bytes/\es.length+u.1.length<=dd,
     .c (.arr n sz 0 (len+u.1.length)),cn (eM J b) n (.arr sz (es++u.1)))
   |_=>none
  |.c (.cr b len)=>match aJ J b with
   |some (.buf B es)=>(bytesOf u.1).map λs=>
    (a.1/\d.1/\B=te/\sz=1/\len=es.length/\u.1=s.map (λc=>[.int .u8 c.toNat])/\gv (es.length+s.length) bytes/\es.length+s.length<=dd,
     .c (.cr n (len+s.length)),cn (eM J b) n (.buf B (es++s)))
   |_=>none
  |_=>none
 |.appendT _ sz bytes x y=>(x.get env).bind λa=>(y.get env).bind λd=>
  match jy a.2 d.2 with
  |some _=>none
  |none=>(ia J d.2).bind λu=>match a.2 with
  |.c (.arr b g off len)=>match aJ J b with
   |some (.arr G es)=>if u.2=some b then none else some (a.1/\d.1/\g=sz/\G=sz/\off=0/\len=es.length/\(∀e,e∈u.1->e.length=sz)/\gv (es.length+u.1.length) bytes/\es.length+u.1.length<=dd,
     .c (.t (.slice (es++u.1))),eM J b)
   |_=>none
  |_=>none
 |.max2 x y=>(x.get env).bind λa=>(y.get env).bind λb=>match a.2,b.2 with
  |.c (.t (.int k p)),.c (.t (.int F q))=>if k=F then some (a.1/\b.1,.c (.t (.int k (max p q))),J)else none
  |_,_=>none
 |.min2 x y=>(x.get env).bind λa=>(y.get env).bind λb=>match a.2,b.2 with
  |.c (.t (.int k p)),.c (.t (.int F q))=>if k=F then some (a.1/\b.1,.c (.t (.int k (min p q))),J)else none
  |_,_=>none
 |.allocS e e8=>some (True,.c (.ptr n 0),cn (cn J (n+1) (.buf e8 [])) n (.bX e (.cr (n+1) 0)))
 |.bsliceT _ sz len z parts=>(toTs z).bind λE=>(iJ env sz (List.replicate len E) parts).map λa=>(a.1,.c (.t (.slice a.2)),J)
 |.mkset=>some (True,.c (.mp n),cn J n (.set []))
 |.lkset x k=>(x.get env).bind λa=>(k.get env).bind λd=>match a.2,d.2 with
  |.c (.mp b),.c (.t (.str s))=>match aJ J b with
   |some (.set ks)=>some (a.1/\d.1,.c (.t (.bool (iN ks s))),J)
   |_=>none
  |_,_=>none
 |.upset x k=>(x.get env).bind λa=>(k.get env).bind λd=>match a.2,d.2 with
  |.c (.mp b),.c (.t (.str s))=>match aJ J b with
   |some (.set ks)=>some (a.1/\d.1,.aS [],cn J b (.set (ig ks s)))
   |_=>none
  |_,_=>none
 |.lkE z x k=>(x.get env).bind λa=>(k.get env).bind λd=>match a.2,d.2 with
  |.c (.mp b),.c (.t (.str _))=>match aJ J b with
   |some (.set [])=>some (a.1/\d.1,.aS [.c z,.c (.t (.bool false))],J)
   |_=>none
  |_,_=>none
 |.upD x k v=>(x.get env).bind λa=>(k.get env).bind λd=>(v.get env).bind λe=>match a.2,d.2 with
  |.c (.mp b),.c (.t (.str _))=>match aJ J b with
   |some (.set [])=>some (a.1/\d.1/\e.1,.aS [],eM J b)
   |_=>none
  |_,_=>none
 |.appendB e bytes x y=>(x.get env).bind λa=>(y.get env).bind λd=>match a.2,d.2 with
  |.c (.cr b len),.c (.t (.str s))=>match aJ J b with
   |some (.buf B es)=>
    some (a.1/\d.1/\B=e/\len=es.length/\gv (es.length+s.length) bytes/\es.length+s.length<=dd,
     .c (.cr n (len+s.length)),cn (eM J b) n (.buf e (es++s)))
   |_=>none
  |_,_=>none
 |.sdata x=>(x.get env).bind λa=>match a.2 with
  |.c (.cr b _)=>some (a.1,.c (.eh b),J)
  |_=>none
 |.ustr e x k=>(x.get env).bind λa=>(k.get env).bind λd=>match a.2,d.2 with
  |.c (.eh b),.c (.t (.int .i64 m))=>match aJ J b with
   |some (.buf B es)=>some (a.1/\d.1/\B=e/\m=es.length,.c (.t (.str es)),eM J b)
   |_=>none
  |_,_=>none
 |.bsliceC sz z ps=>(iI env z ps).map λa=>(a.1,.c (.arr n sz 0 1),cn J n (.vec sz a.2))
 |.appendC sz bytes x y=>(x.get env).bind λa=>(y.get env).bind λd=>match d.2 with
  |.c (.arr H I 0 A)=>match aJ J H with
   |some (.vec K w)=>match a.2 with
    |.c .bC=>some (a.1/\d.1/\I=sz/\K=sz/\0<A/\w.length=A*sz/\gv A bytes/\A<=dd,.c (.arr n sz 0 A),cn J n (.vec sz w))
    |.c (.arr b M 0 len)=>match aJ J b with
     |some (.vec N cs)=>if b = H then none else some (a.1/\d.1/\I = sz/\K = sz/\M = sz/\N = sz/\0<A/\w.length = A*sz/\cs.length = len*sz/\gv (len+A) bytes/\len+A<=dd,
      .c (.arr n sz 0 (len+A)),cn (eM J b) n (.vec sz (cs++w)))
     |_=>none
    |_=>none
   |_=>none
  |_=>none
 |.eqNil .. |.call .. |.callv .. =>none
where pZ:List V->Option (List Nat)
 |[]=>some []
 |.c (.ptr b 0)::r=>(pZ r).map (b::·)
 |_=>none
def zr(ks:List (List UInt8))(es:List MapEntry):Prop:=aQ (λk e=>e.key= .string ⟨k.toArray⟩/\e.val= .bool true) ks es
def cD(φ:db)(w:World)(S:dj)(b:Nat):bp->Prop
 |.box cs=>(φ b).2≠0/\∃(vs:List Value) (E:TypeId),w.heap[(φ b).1]?=some (.cells vs.toArray E (0,0))/\aQ (aX φ w S) cs vs/\∀j,¬S (φ b).1 j
 |.arr sz es=>es.length<=(φ b).2/\es.length<=dd/\(∀ e,e∈es->e.length = sz)/\0<sz/\
  ((φ b).2≠0->∃(vs:List Value) (E:TypeId),w.heap[(φ b).1]?=some (.cells vs.toArray E (0,0))/\vs.length=(φ b).2*sz/\
   (∀(i j:Nat) e t,es[i]?=some e->e[j]?=some t->∃v,vs[i*sz+j]?=some v/\b5 w S t v)/\∀j,¬S (φ b).1 j)
 |.set ks=>(φ b).2≠0/\(∃(es:List MapEntry) (d:Nat),w.heap[(φ b).1]?=some (.map es.toArray d)/\zr ks es)/\∀j,¬S (φ b).1 j
 |.buf E s=>s.length<=(φ b).2/\s.length<=dd/\
  ((φ b).2≠0->(∃vs:List Value,w.heap[(φ b).1]?=some (.cells vs.toArray E (0,0))/\vs.length=(φ b).2/\
   ∀(i:Nat) c,s[i]?=some c->vs[i]?=some (.int .u8 (UInt8.toNat c)))/\∀j,¬S (φ b).1 j)
 |.bX E c=>(φ b).2≠0/\(∃p v:Value,w.heap[(φ b).1]?=some (.cells #[p,v] E (0,0))/\(p= .pointer none\/p= .pointer (some ⟨(φ b).1,0,none⟩))/\aX φ w S c v)/\∀j,¬S (φ b).1 j
 |.cu sz es i o c=>(es.length<=(φ b).2/\es.length<=dd/\(∀ e,e∈es->e.length = sz)/\0<sz/\i<es.length/\o<sz)/\
  (∃(vs:List Value) (E:TypeId),w.heap[(φ b).1]?=some (.cells vs.toArray E (0,0))/\vs.length=(φ b).2*sz/\
   (∀(a j:Nat) e t,es[a]?=some e->e[j]?=some t->¬(a=i/\j=o)->∃v,vs[a*sz+j]?=some v/\b5 w S t v)/\∃v,vs[i*sz+o]?=some v/\aX φ w S c v)/\∀j,¬S (φ b).1 j
 |.vec sz cs=>(φ b).2≠0/\∃(vs:List Value) (E:TypeId),w.heap[(φ b).1]?=some (.cells vs.toArray E (0,0))/\(aQ (aX φ w S) cs (vs.take cs.length)/\vs.length=(φ b).2*sz)/\∀j,¬S (φ b).1 j
structure pW (φ:db)(w:World)(S:dj)(J:aF):Prop where
 blk:∀b x,aJ J b=some x->cD φ w S b x
 inj:∀b zZ x y,aJ J b=some x->aJ J zZ=some y->b≠zZ->(φ b).2≠0->(φ zZ).2≠0->(φ b).1≠(φ zZ).1
 st:∀b j,S b j->b<w.heap.size
structure Ext (B:Nat->Prop)(S bH:dj)(w w':World):Prop where
 os:w'.os=w.os
 tape:w'.tape=w.tape
 output:w'.output=w.output
 size:w.heap.size<=w'.heap.size
 block:∀b:Nat,b<w.heap.size->¬B b->w'.heap[b]?=w.heap[b]?
 mono:fw w S w' bH
 pO:∀b j,bH b j->S b j\/B b\/w.heap.size<=b
def bp.aq(n:Nat->Bool):bp->Bool
 |.box cs=>cs.all (C.aq n)
 |.arr _ _=>true
 |.set _=>true
 |.buf _ _=>true
 |.bX _ c=>c.aq n
 |.cu _ _ _ _ c=>c.aq n
 |.vec _ cs=>cs.all (C.aq n)
def ins(n:Nat->Bool)(k:Nat):Nat->Bool:=λb=>n b||b==k
variable [da]
def pV(w:World)(B:Nat->Prop)(S:dj):Prop:=(∀x,x∈da.l->¬B x.1/\∃o,w.heap[x.1]?=some o/\x.2 o)/\∀g,aX (λ_=>(0,0)) w S (.dx (da.s g) 0) (.pointer (some ⟨g,0,none⟩))
structure Ctx where
 ll:World
 zV:dj
 B:Nat->Prop
 TB:db
 k:Nat
 o7:pV ll B zV
structure Rel (ao:Ctx)(nt:Nat)(φ:db)(S:dj)(env:Env)(J:aF)(n:Nat->Bool)(a:Act)(w:World):Prop where
 bm:pW φ w S J
 fT:∀(k:Nat) g v,look env k=some (g,v)->g=true->∃x,a.tmps[k]?=some x/\cd φ w S v x
 gJ:∀(k:Nat) g v,look env k=some (g,v)->g=false->a.tmps[k]?=some undef
 fS:∀(k:Nat) g v,look env k=some (g,v)->g=true->v.aq n=true
 dp:∀(b:Nat) x,aJ J b=some x->n b=true/\x.aq n=true
 size:a.tmps.size=nt
 defers:a.defers=[]
 ext:Ext ao.B ao.zV S ao.ll w
 own:∀(b:Nat) x,aJ J b=some x->(φ b).2≠0->ao.B (φ b).1\/ao.ll.heap.size<=(φ b).1
 fix:∀b:Nat,b<ao.k->φ b=ao.TB b
 fV:∀b:Nat,b<ao.k->n b=true
theorem Rel.Ax{ao:Ctx}{nt:Nat}{φ:db}{S:dj}{env:Env}{J:aF}{n:Nat->Bool}{a:Act}{w:World}(R:Rel ao nt φ S env J n a w){B:Nat->Prop}(cA:∀b,B b->ao.B b\/ao.ll.heap.size<=b):pV w B S:=by
 refine⟨λx f=>?_,λg=>aX.mono (n:=λ_=>false) R.ext.mono (λ_ _=>rfl) rfl (ao.o7.2 g)⟩;obtain⟨h1,o,c,e⟩:=ao.o7.1 x f;have aI:x.1<ao.ll.heap.size:=(vv.1 c).1;refine⟨λh=>?_,o,(R.ext.block _ aI h1).trans c,e⟩;rcases cA _ h with h|h
 . exact h1 h
 . omega
end
section
open Go
variable [da]
section
variable {P:Program}{ao:Ctx}{nt:Nat}{φ:db}{S:dj}{env:Env}{J:aF}{n:Nat->Bool}{key:Nat}{a:Act}{w:World}
def Good(P:Program)(ao:Ctx)(nt:Nat)(env:Env)(J':aF)(b3:Nat->Bool)(a:Act)(v:V)(r:Result Next):Prop:=
 ∃x b bH w',(r= .ok (.value x) w'\/(r= .ok .skip w'/\x=undef))/\cd b w' bH v x/\v.aq b3=true/\Rel ao nt b bH env J' b3 a w'
theorem abx{n:Nat->Bool}{k:Nat}:ins n k k=true:=by simp[ins]
theorem iK{n:Nat->Bool}{k b:Nat}(h:n b=true):ins n k b=true:=by grind[ins]
theorem C.gH{n b3:Nat->Bool}(h:∀b,n b=true->b3 b=true){c:C}(a:c.aq n=true):c.aq b3=true:=by
 cases c<;>simp[C.aq]at*<;>first|exact h _ a|exactλb e=>h b (a b e)
theorem sb{n:Nat->Bool}:∀{vs:List V},(∀(i:Nat) v,vs[i]?=some v->v.aq n=true)->V.aq.V.dI n vs=true
 |[],_=>rfl
 |v::vs,h=>by
  simp[V.aq.V.dI];exact⟨h 0 v rfl,sb λi v a=>h (i+1) v a⟩
theorem V.gH{n b3:Nat->Bool}(h:∀b,n b=true->b3 b=true):∀{v:V},v.aq n=true->v.aq b3=true
 |.c x,a=>by grind[V.aq,C.gH]
 |.agg cs,a=>by
  grind[V.aq,C.gH]
 |.aS vs,a=>by
  exact go vs a
where go:∀vs,V.aq.V.dI n vs=true->V.aq.V.dI b3 vs=true
 |[],_=>rfl
 |v::vs,a=>by
  simp[V.aq.V.dI]at a⊢;exact⟨V.gH h a.1,go vs a.2⟩
theorem bp.gH{n b3:Nat->Bool}(h:∀b,n b=true->b3 b=true){x:bp}(a:x.aq n=true):x.aq b3=true:=by
 cases x with
 |box cs=>
  grind[bp.aq,C.gH]
 |vec sz cs=>
  grind[bp.aq,C.gH]
 |arr=>rfl
 |set=>rfl
 |buf=>rfl
 |bX E c=>grind[bp.aq,C.gH]
 |cu sz es i o c=>grind[bp.aq,C.gH]
theorem Rel.more(R:Rel ao nt φ S env J n a w){b3:Nat->Bool}(h:∀b,n b=true->b3 b=true):Rel ao nt φ S env J b3 a w:=
 ⟨R.bm,R.fT,R.gJ,λk g v ad aj=>V.gH h (R.fS k g v ad aj),λb x c=>⟨h b (R.dp b x c).1,bp.gH h (R.dp b x c).2⟩,R.size,R.defers,R.ext,R.own,R.fix,λb e=>h b (R.fV b e)⟩
theorem Good.pure(R:Rel ao nt φ S env J n a w){v:V}{x:Value}{r:Result Next}(e:r= .ok (.value x) w)(f:cd φ w S v x)(c:v.aq n=true):
 Good P ao nt env J (ins n key) a v r:=⟨x,φ,S,w,.inl e,f,V.gH (λ_ h=>iK h) c,R.more λ_ h=>iK h⟩
theorem Gs{v:Value}{c:C}(h:yy v=some c):aX φ w S c v/\c.aq n=true:=by
 unfold yy at h;split at h<;>simp at h
 . subst h;exact⟨.bool _,rfl⟩
 . subst h;exact⟨.int _ _,rfl⟩
 . obtain⟨hs,rfl⟩:=h;exact⟨.str _ hs,rfl⟩
 . subst h;exact⟨⟨_,rfl⟩,rfl⟩
 . subst h;exact⟨rfl,rfl⟩
 . subst h;exact⟨rfl,rfl⟩
 . subst h;exact⟨rfl,rfl⟩
 . subst h;exact⟨rfl,rfl⟩
theorem Ge:∀{vs:List Value} {cs:List C},uW vs=some cs->aQ (aX φ w S) cs vs/\cs.all (C.aq n)=true
 |[],cs,h=>by simp[uW]at h;subst h;exact⟨.nil,rfl⟩
 |v::vs,cs,h=>by
  simp[uW,a6,bb]at h;obtain⟨c,b,e,d,rfl⟩:=h;have h1:=Gs (φ:=φ) (w:=w) (S:=S) (n:=n) b;have a:=Ge d;exact⟨.cons h1.1 a.1,by grind⟩
theorem Xu{v:Value}{a:V}(h:HY v=some a):cd φ w S a v/\a.aq n=true:=by
 unfold HY at h;split at h
 . simp at h;obtain⟨l,ad,rfl⟩:=h;have:=Ge (φ:=φ) (w:=w) (S:=S) (n:=n) ad;refine⟨?_,by grind[V.aq]⟩;have e:=cd.agg this.1;omega
 . simp at h;obtain⟨l,ad,rfl⟩:=h;have:=Gs (φ:=φ) (w:=w) (S:=S) (n:=n) ad;exact⟨.c this.1,by grind[V.aq]⟩
theorem bT(R:Rel ao nt φ S env J n a w){x:Operand}{d:aL}(b:bn x=some d){p:Prop}{v:V}(h:d.get env=some (p,v))(e:p):
 cd φ w S v (a.eval x)/\v.aq n=true:=by
 cases x with
 |tmp t=>
  simp[bn]at b;subst b;simp only[aL.get,bb]at h;obtain⟨⟨g,i⟩,ad,he⟩:=h;obtain⟨rfl,rfl⟩:=he;obtain⟨y,l,k⟩:=R.fT t g i ad e;refine⟨?_,R.fS t g i ad e⟩;simp_all[Act.eval]
 |const c=>
  simp[bn]at b;obtain⟨j,gV,rfl⟩:=b;obtain⟨_,rfl⟩:=h;exact Xu gV
 |global g=>
  simp only[bn,cQ]at b;subst b;obtain⟨_,rfl⟩:=h;have aj:=(R.Ax (B:=λ_=>False) λ_ h=>h.elim).2 g;split
  . exact⟨.c (by rfl),by rfl⟩
  . rename_i hs;rw[hs]at aj;exact⟨.c aj,by rfl⟩
 |func f=>
  simp[bn]at b;subst b;obtain⟨_,rfl⟩:=h;exact⟨.c (by rfl),by rfl⟩
theorem qT(R:Rel ao nt φ S env J n a w):∀{xs:List Operand} {aP:List aL} (_:mG xs=some aP) {p:Prop} {vs:List V} (_:gL env aP=some (p,vs)) (_:p),
 aQ (cd φ w S) vs (xs.map a.eval)/\V.aq.V.dI n vs=true
 |[],aP,b,p,vs,h,c=>by simp[mG]at b;subst b;obtain⟨_,rfl⟩:=h;exact⟨.nil,rfl⟩
 |x::xs,aP,b,p,vs,h,c=>by
  simp[mG,a6,bb]at b;obtain⟨j,e,k,f,rfl⟩:=b;simp only[gL,a6,bb]at h;obtain⟨⟨q,v⟩,g,⟨l,m⟩,i,he⟩:=h;obtain⟨rfl,rfl⟩:=he;have h1:=bT R e g c.1;have d:=qT R f i c.2;exact⟨.cons h1.1 d.1,by grind[V.aq.V.dI]⟩
theorem cd.iW{b:Bool}{x:Value}(h:cd φ w S (.c (.t (.bool b))) x):x= .bool b:=by cases h with|c h=>cases h;rfl
theorem cd.eR{k:IntKind}{m:Int}{x:Value}(h:cd φ w S (.c (.t (.int k m))) x):x= .int k m:=by cases h with|c h=>cases h;rfl
theorem cd.iR{s:List UInt8}{x:Value}(h:cd φ w S (.c (.t (.str s))) x):∃bs:ByteArray,x= .string bs/\bs.data.toList=s/\bs.size<=dK:=by cases h with|c h=>cases h<;>grind
theorem cd.hx{b o:Nat}{x:Value}(h:cd φ w S (.c (.ptr b o)) x):x= .pointer (some ⟨(φ b).1,o,none⟩):=by cases h with|c h=>exact h
theorem cd.gK{b sz i o:Nat}{x:Value}(h:cd φ w S (.c (.cl b sz i o)) x):x= .pointer (some ⟨(φ b).1,i*sz+o,none⟩):=by cases h with|c h=>exact h
theorem cd.l'{cs:List C}{x:Value}(h:cd φ w S (.agg cs) x):∃vs:List Value,x= .agg vs.toArray/\aQ (aX φ w S) cs vs:=by cases h<;>grind
theorem cd.dF{c:C}{x:Value}(h:cd φ w S (.c c) x):aX φ w S c x:=by cases h<;>grind
theorem cd.oi(b:Bool):cd φ w S (.c (.t (.bool b))) (.bool b):= .c (.bool b)
theorem cd.mE(k:IntKind)(m:Int):cd φ w S (.c (.t (.int k m))) (.int k m):= .c (.int k m)
theorem IB (R:Rel ao nt φ S env J n a w){o:Oper}{x:Operand}(b:o.op= .move x\/o.op= .assign x){c:aL}(f:bn x=some c)
 {p v J'}(g:n key=false)(h:aw (.mov c) env J key=some (p,v,J'))(d:p):Good P ao nt env J' (ins n key) a v ((execOp a.eval o).run P w):=by
 simp only[aw,bb]at h;obtain⟨⟨q,i⟩,e,he⟩:=h;obtain⟨rfl,rfl,rfl⟩:=he;have aj:=bT R f e d;refine Good.pure R ?_ aj.1 aj.2;rcases b with b|b<;>simp[execOp,b]
theorem Yd (R:Rel ao nt φ S env J n a w){o:Oper}{c x y:Operand}(g:o.op= .pick c x y){ac d e:aL}(m:bn c=some ac)(u:bn x=some d)(z:bn y=some e)
 {p v J'}(A:n key=false)(h:aw (.pick ac d e) env J key=some (p,v,J'))(t:p):Good P ao nt env J' (ins n key) a v ((execOp a.eval o).run P w):=by
 simp only[aw,a6]at h;obtain⟨⟨B,G⟩,q,⟨C,H⟩,r,⟨D,I⟩,s,he⟩:=h;simp at he;split at he
 . rename_i b E F;obtain⟨rfl,rfl,rfl⟩:=he;obtain⟨h1,k,l⟩:=t;have f:=(bT R m q h1).1.iW;cases b with
   |true=>
    have i:=(bT R u r (k rfl)).1.iW;exact Good.pure R (by simp[execOp,g,f,asBool,i]) (.oi _) rfl
   |false=>
    have j:=(bT R z s (l rfl)).1.iW;exact Good.pure R (by simp[execOp,g,f,asBool,j]) (.oi _) rfl
 grind
theorem uf(b:ByteArray):b.data.toList.length=b.size:=by rfl
theorem Ye{op:BinOp}{s t r:T}{p:Prop}(h:mX op s t=some (p,r))(c:p){ty:TypeId}{x y:Value}(d:b5 w S s x)(f:b5 w S t y):
 ∃z,(binOp op ty x y).run P w= .ok z w/\b5 w S r z:=by
 have g:∀a b:List UInt8,(a==b)=decide (a=b):=λa b=>by grind
 unfold mX at h;split at h<;>(first|simp only[cZ,cQ]at h|cases h)
 all_goals cases d;cases f
 case h_1=>obtain⟨rfl,rfl,rfl⟩:=h;exact⟨_,by simp[binOp,Op.intArith],.int _ _⟩
 case h_2=>obtain⟨rfl,rfl,rfl⟩:=h;exact⟨_,by simp[binOp,Op.intArith],.int _ _⟩
 case h_3=>obtain⟨rfl,rfl,rfl⟩:=h;exact⟨_,by simp[binOp,Op.intArith],.int _ _⟩
 case h_4=>obtain⟨rfl,rfl,rfl⟩:=h;exact⟨_,by simp[binOp,Op.intDiv,c],.int _ _⟩
 case h_5=>obtain⟨rfl,rfl,rfl⟩:=h;exact⟨_,by simp[binOp,Op.intDiv,c],.int _ _⟩
 case h_6=>obtain⟨rfl,rfl,rfl⟩:=h;exact⟨_,by simp[binOp,Op.intBits],.int _ _⟩
 case h_7=>obtain⟨rfl,rfl,rfl⟩:=h;exact⟨_,by simp[binOp,Op.intBits],.int _ _⟩
 case h_8=>obtain⟨rfl,rfl,rfl⟩:=h;exact⟨_,by simp[binOp,Op.intBits],.int _ _⟩
 case h_9=>obtain⟨rfl,rfl,rfl⟩:=h;exact⟨_,by simp[binOp,Op.intBits],.int _ _⟩
 case h_10=>obtain⟨rfl,rfl⟩:=h;exact⟨_,by simp_all[binOp,Op.shift,ag],.int _ _⟩
 case h_11=>obtain⟨rfl,rfl⟩:=h;exact⟨_,by simp_all[binOp,Op.shift,ag],.int _ _⟩
 case h_12=>obtain⟨rfl,rfl,rfl⟩:=h;exact⟨_,by simp[binOp,Op.intCmp];rfl,.bool _⟩
 case h_13=>obtain⟨rfl,rfl,rfl⟩:=h;exact⟨_,by simp[binOp,Op.intCmp,bne,BEq.beq],.bool _⟩
 case h_14=>obtain⟨rfl,rfl,rfl⟩:=h;exact⟨_,by simp[binOp,Op.intCmp],.bool _⟩
 case h_15=>obtain⟨rfl,rfl,rfl⟩:=h;exact⟨_,by simp[binOp,Op.intCmp],.bool _⟩
 case h_16=>obtain⟨rfl,rfl,rfl⟩:=h;exact⟨_,by simp[binOp,Op.intCmp],.bool _⟩
 case h_17=>obtain⟨rfl,rfl,rfl⟩:=h;exact⟨_,by simp[binOp,Op.intCmp],.bool _⟩
 case h_18 s hs t ht=>
  obtain⟨rfl,rfl⟩:=h;simp only[uf]at c;have e:(s++t).data.toList=s.data.toList++t.data.toList:=by rfl
  refine⟨.string (s++t),?_,e▸.str _ (by grind)⟩;have:¬(((s.size+t.size:Nat):Int)>IntKind.i64.max):=by grind[IntKind.max,dK,IntKind.signed,IntKind.bits]
  simp_all[binOp,Op.stringOp,ag]
 case h_19 s hs t ht=>obtain⟨rfl,rfl⟩:=h;exact⟨_,by simp_all[binOp,Op.stringOp,ByteArray.toList_eq],.bool _⟩
 case h_20 s hs t ht=>obtain⟨rfl,rfl⟩:=h;exact⟨_,by simp_all[binOp,Op.stringOp,ByteArray.toList_eq],.bool _⟩
 case h_21 s hs t ht=>obtain⟨rfl,rfl⟩:=h;exact⟨_,by simp_all[binOp,Op.stringOp,ByteArray.toList_eq],.bool _⟩
 case h_22 s hs t ht=>obtain⟨rfl,rfl⟩:=h;exact⟨_,by simp_all[binOp,Op.stringOp,ByteArray.toList_eq],.bool _⟩
 case h_23 s hs t ht=>obtain⟨rfl,rfl⟩:=h;exact⟨_,by simp_all[binOp,Op.stringOp,ByteArray.toList_eq],.bool _⟩
 case h_24 s hs t ht=>obtain⟨rfl,rfl⟩:=h;exact⟨_,by simp_all[binOp,Op.stringOp,ByteArray.toList_eq],.bool _⟩
theorem Gt{op:BinOp}{ty:TypeId}{x y:Operand}{a v:Value}(h1:a≠.nilIface)(b:∀cs,a≠.agg cs):(eqGuard op ty x y a v).run P w= .ok () w:=by
 simp_all[eqGuard]
theorem b5.guard{t:T}{u:Value}(h:b5 w S t u):u≠.nilIface/\∀cs,u≠.agg cs:=by
 cases h<;>exact⟨by simp,by simp⟩
theorem Te{ty:TypeId}(b:P.underlying ty=some .bool)(b1 b2:Bool):(Op.equal ty (.bool b1) (.bool b2)).run P w= .ok (b1==b2) w:=by
 obtain⟨d,a⟩:∃d,Op.maxDepth=d+1:=⟨9999,rfl⟩
 unfold Op.equal;rw[a];unfold Op.equalIn;simp only[Sem.run_bind,run_underlying b];rfl
theorem G8 (R:Rel ao nt φ S env J n a w){o:Oper}{op:BinOp}{ty yt:TypeId}{x y:Operand}(t:o.op= .binOp op ty x y yt){d e:aL}(k:bn x=some d)(l:bn y=some e)
 {p v J'}(s:n key=false)(h:aw (.bin op d e) env J key=some (p,v,J'))(b:p):Good P ao nt env J' (ins n key) a v ((execOp a.eval o).run P w):=by
 simp only[aw,a6]at h;obtain⟨⟨B,D⟩,g,⟨C,E⟩,i,he⟩:=h;simp at he;split at he
 . simp only[bb]at he;obtain⟨⟨A,r⟩,j,rfl,rfl,rfl⟩:=he;have h1:=(bT R k g b.1).1.dF;have f:=(bT R l i b.2.1).1.dF;obtain⟨z,u,m⟩:=Ye (P:=P) (ty:=ty) j b.2.2 h1 f;refine Good.pure R ?_ (.c m) rfl;have q:(eqGuard op ty x y _ (a.eval y)).run P w= .ok _ w:=Gt (b5.guard h1).1 (b5.guard h1).2;simp_all[execOp]
 grind
theorem W' (R:Rel ao nt φ S env J n a w){o:Oper}{op:BinOp}{ty yt:TypeId}{x y:Operand}(r:o.op= .binOp op ty x y yt)(g:op= .eql\/op= .neq)(s:P.underlying ty=some .bool)
 {b c:aL}(i:bn x=some b)(j:bn y=some c)
 {p v J'}(q:n key=false)(h:aw (.eqBool (op== .neq) b c) env J key=some (p,v,J'))(d:p):Good P ao nt env J' (ins n key) a v ((execOp a.eval o).run P w):=by
 simp only[aw,a6]at h;obtain⟨⟨t,z⟩,e,⟨u,A⟩,f,he⟩:=h;simp at he;split at he
 . rename_i b1 b2;obtain⟨rfl,rfl,rfl⟩:=he;have h1:=(bT R i e d.1).1.iW;have m:=(bT R j f d.2).1.iW;refine Good.pure R ?_ (.oi _) rfl;have k:(eqGuard op ty x y (a.eval x) (a.eval y)).run P w= .ok _ w:=Gt (by grind) (by grind);have l:(binOp op ty (a.eval x) (a.eval y)).run P w= .ok (.bool (if(op== .neq)then !(b1==b2)else(b1==b2))) w:=by
    rcases g with rfl|rfl
    . simp_all[binOp,Te]
    simp_all[binOp,Te]
   simp_all[execOp]
 grind
theorem ZD (R:Rel ao nt φ S env J n a w){o:Oper}{ty:TypeId}{x:Operand}(d:o.op= .unOp .not ty x){b:aL}(f:bn x=some b)
 {p v J'}(g:n key=false)(h:aw (.not b) env J key=some (p,v,J'))(e:p):Good P ao nt env J' (ins n key) a v ((execOp a.eval o).run P w):=by
 simp only[aw,a6]at h;obtain⟨⟨i,j⟩,c,he⟩:=h;simp at he;split at he
 . obtain⟨rfl,rfl,rfl⟩:=he;have h1:=(bT R f c e).1.iW;exact Good.pure R (by simp[execOp,d,h1,Op.unary]) (.oi _) rfl
 grind
theorem ZE (R:Rel ao nt φ S env J n a w){o:Oper}{ty:TypeId}{x:Operand}{k:IntKind}(i:o.op= .unOp .neg ty x){b:aL}(l:bn x=some b)
 {p v J'}(m:n key=false)(h:aw (.bin .sub (.const (.c (.t (.int k 0)))) b) env J key=some (p,v,J'))(j:p):Good P ao nt env J' (ins n key) a v ((execOp a.eval o).run P w):=by
 simp only[aw,aL.get,ak,a6]at h;obtain⟨⟨s,u⟩,g,he⟩:=h;simp only at he;split at he
 . rename_i t1 t2 az;cases az;simp only[bb]at he;obtain⟨⟨q,r⟩,d,rfl,rfl,rfl⟩:=he;have e:=(bT R l g j.2.1).1;cases t2<;>simp only[mX,reduceCtorEq,cZ]at d
   obtain⟨rfl,rfl,rfl⟩:=d;have f:=e.eR;exact Good.pure R (by simp[execOp,i,f,Op.unary,Op.intArith]) (.mE _ _) rfl
 grind
theorem ZF (R:Rel ao nt φ S env J n a w){o:Oper}{ty:TypeId}{x:Operand}{k:IntKind}(i:o.op= .unOp .xor ty x){b:aL}(l:bn x=some b)
 {p v J'}(m:n key=false)(h:aw (.bin .xor (.const (.c (.t (.int k (if k.signed then -1 else k.max))))) b) env J key=some (p,v,J'))(j:p):Good P ao nt env J' (ins n key) a v ((execOp a.eval o).run P w):=by
 simp only[aw,aL.get,ak,a6]at h;obtain⟨⟨s,u⟩,g,he⟩:=h;simp only at he;split at he
 . rename_i t1 t2 az;cases az;simp only[bb]at he;obtain⟨⟨q,r⟩,d,rfl,rfl,rfl⟩:=he;have e:=(bT R l g j.2.1).1;cases t2<;>simp only[mX,reduceCtorEq,cZ]at d
   obtain⟨rfl,rfl,rfl⟩:=d;have f:=e.eR;exact Good.pure R (by simp[execOp,i,f,Op.unary,Op.intBits]) (.mE _ _) rfl
 grind
theorem Yf (R:Rel ao nt φ S env J n a w){o:Oper}{s d:TypeId}{x:Operand}(f:o.op= .convert s d x){j k:IntKind}(hs:P.underlying s=some (.int j))(c:P.underlying d=some (.int k)){b:aL}(i:bn x=some b)
 {p v J'}(l:n key=false)(h:aw (.conv k b) env J key=some (p,v,J'))(g:p):Good P ao nt env J' (ins n key) a v ((execOp a.eval o).run P w):=by
 simp only[aw,a6]at h;obtain⟨⟨m,q⟩,e,he⟩:=h;simp at he;split at he
 . obtain⟨rfl,rfl,rfl⟩:=he;have h1:=(bT R i e g).1.eR;exact Good.pure R (by simp[execOp,f,h1,convert,underlying,hs,c,Conv.intToInt]) (.mE _ _) rfl
 grind
theorem Xa(m:Int):(Utf8.encode m).size<=dK:=by
 unfold dK Utf8.encode;dsimp
 (repeat' split)<;>simp[ByteArray.size]
theorem ZG (R:Rel ao nt φ S env J n a w){o:Oper}{s d:TypeId}{x:Operand}(g:o.op= .convert s d x){k:IntKind}(hs:P.underlying s=some (.int k))(e:P.underlying d=some .string){b:aL}(j:bn x=some b)
 {p v J'}(l:n key=false)(h:aw (.i2s b) env J key=some (p,v,J'))(i:p):Good P ao nt env J' (ins n key) a v ((execOp a.eval o).run P w):=by
 simp only[aw,a6]at h;obtain⟨⟨m,q⟩,f,he⟩:=h;simp at he;split at he
 . obtain⟨rfl,rfl,rfl⟩:=he;have h1:=(bT R j f i).1.eR;exact Good.pure R (by simp[execOp,g,h1,convert,underlying,hs,e,Conv.intToString]) (.c (.str _ (Xa _))) rfl
 grind
theorem ZH (R:Rel ao nt φ S env J n a w){o:Oper}{s d:TypeId}{x:Operand}(f:o.op= .convert s d x)(hs:P.underlying s=some .string)(c:P.underlying d=some .string){b:aL}(i:bn x=some b)
 {p v J'}(j:n key=false)(h:aw (.s2s b) env J key=some (p,v,J'))(g:p):Good P ao nt env J' (ins n key) a v ((execOp a.eval o).run P w):=by
 simp only[aw,a6]at h;obtain⟨⟨k,l⟩,e,he⟩:=h;simp at he;split at he
 . obtain⟨rfl,rfl,rfl⟩:=he;have aj:=bT R i e g;obtain⟨bs,h1,rfl,_⟩:=aj.1.iR;refine Good.pure R ?_ (h1▸aj.1) rfl;simp[execOp,f,h1,convert,underlying,hs,c]
 grind
theorem Wd (R:Rel ao nt φ S env J n a w){o:Oper}{x:Operand}(g:o.op= .nilCheck x){b:aL}(e:bn x=some b)
 {p v J'}(f:n key=false)(h:aw (.nilCheck b) env J key=some (p,v,J'))(d:p):Good P ao nt env J' (ins n key) a v ((execOp a.eval o).run P w):=by
 simp only[aw,a6]at h;obtain⟨⟨i,j⟩,c,he⟩:=h;simp at he;split at he<;>simp only[cQ,reduceCtorEq]at he
 all_goals
  obtain⟨rfl,rfl,rfl⟩:=he;have aj:=bT R e c d;have h1:=aj.1.dF;refine Good.pure R ?_ aj.1 aj.2
 . simp_all[aX,execOp]
 . simp_all[aX,execOp]
 . obtain⟨_,_,_,h1,_⟩:=h1;simp_all[execOp]
theorem XK (R:Rel ao nt φ S env J n a w){o:Oper}{ty:TypeId}{x:Operand}{f:Nat}(u:o.op= .fieldAddr ty x f){fs:Array Field}(z:P.underlying ty=some (.struct fs)){d:Field}(r:fs[f]?=some d)
 {m:Nat}(j:dZ P d.type=some m)(t:m≠0){g:aL}(q:bn x=some g)
 {p v J'}(s:n key=false)(h:aw (.fldA d.offset g) env J key=some (p,v,J'))(l:p):Good P ao nt env J' (ins n key) a v ((execOp a.eval o).run P w):=by
 simp only[aw,a6]at h;obtain⟨⟨B,C⟩,k,he⟩:=h;simp at he;have A:∀w,(underlying ty).run P w= .ok (.struct fs) w:=by simp_all[underlying]
 have y:∀w,(sizeOf d.type).run P w= .ok m w:=by simp[dZ]at j;obtain⟨i,hi,rfl⟩:=j;simp[sizeOf,typeInfo,hi]
 have e:∀(b off:Nat),a.eval x= .pointer (some ⟨b,off,none⟩)->(execOp a.eval o).run P w= .ok (.value (.pointer (some ⟨b,off+d.offset,none⟩))) w:=by
  simp_all[execOp,Instr.fieldAt,Instr.sureAddr,fieldPlace,Addr.add]
 split at he<;>simp only[cQ,reduceCtorEq]at he
 all_goals
  obtain⟨rfl,rfl,rfl⟩:=he;have aj:=bT R q k l;have h1:=aj.1.dF
 . exact Good.pure R (e _ _ h1) (.c rfl) aj.2
 . exact Good.pure R (e _ _ h1) (.c (by simp[aX,Nat.add_assoc])) aj.2
 . obtain⟨blk,off,f,h1,aa⟩:=h1;exact Good.pure R (e _ _ h1) (.c ⟨blk,off,f,by grind,aa⟩) aj.2
theorem aQ.af4{w:World}{S:dj}{φ:db}{ts:List T}{vs:List Value}(h:aQ (b5 w S) ts vs):aQ (aX φ w S) (ts.map .t) vs:=by
 induction h with
 |nil=>exact .nil
 |cons h _ ih=>exact .cons h ih
theorem IC(n:Nat->Bool)(ts:List T):(ts.map C.t).all (C.aq n)=true:=by simp[C.aq]
theorem sf{ty:TypeId}{g:Bool}(aj:pk P ty=some g)(w:World):(isAgg ty).run P w= .ok g w:=by
 unfold pk at aj;split at aj<;>simp_all [isAgg,underlying]
theorem jm{ty:TypeId}{k:Nat}(a:dZ P ty=some k)(w:World):(sizeOf ty).run P w= .ok k w:=by
 simp[dZ]at a;obtain⟨i,hi,rfl⟩:=a;simp[sizeOf,typeInfo,hi]
theorem Sk{ty:TypeId}{g:Bool×Nat}(h:nz P ty=some g):pk P ty=some g.1/\dZ P ty=some g.2/\(g.1=false->g.2=1):=by
 grind[nz,a6]
theorem Ys {ty:TypeId}{g:Bool}{k:Nat}(aj:pk P ty=some g)(d:dZ P ty=some k){b o:Nat}{vs:List Value}
 (a:∀j,j<k->w.cell? ⟨b,o+j,none⟩=vs[j]?)(ad:vs.length=k)(h1:g=false->k=1):
 (loadVar ty ⟨b,o,none⟩).run P w= .ok (if g then .agg vs.toArray else vs.getD 0 undef) w:=by
 cases g with
 |true=>
  have:=run_loadCells_list (P:=P) w ⟨b,o,none⟩ vs (λj v c=>by
   grind[Addr.add])
  simp_all[loadVar,sf,jm]
 |false=>
  simp_all[loadVar,sf]
end
end
section
open Go
variable [da]
section
variable {P:Program}{ao:Ctx}{nt:Nat}{φ:db}{S:dj}{env:Env}{J:aF}{n:Nat->Bool}{key:Nat}{a:Act}{w:World}
theorem aX.single{c:C}{v:Value}(h:aX φ w S c v):v.cells=#[v]:=by
 have:=aX.iQ h;cases v<;>simp[Value.oneCell']at this<;>rfl
theorem lK{v:V}{x:Value}{cs:List C}(h:cd φ w S v x)(a:kP v=some cs)(b:v.aq n=true):aQ (aX φ w S) cs x.cells.toList/\cs.all (C.aq n)=true:=by
 cases h with
 |c h=>
  simp[kP]at a;subst a;rw[aX.single h];exact⟨.cons h .nil,by grind[V.aq]⟩
 |agg h=>
  grind[kP,Value.cells,V.aq]
 |aS=>grind[kP]
theorem Tj{agg:Bool}{k o:Nat}{cs:List C}{vs:List Value}{v:V}(h:aQ (aX φ w S) cs vs)(e:cs.all (C.aq n)=true)(ad:hp agg k cs o=some v)(h1:agg=false->k=1):
 o+k<=cs.length/\cd φ w S v (if agg then .agg ((vs.drop o).take k).toArray else((vs.drop o).take k).getD 0 undef)/\v.aq n=true:=by
 unfold hp at ad;cases agg with
 |true=>
  simp at ad;obtain⟨b,rfl⟩:=ad;refine⟨b,?_,by grind[V.aq]⟩
  simpa using cd.agg ((h.drop o).take k)
 |false=>
  have:=h1 rfl;subst this;simp at ad;obtain⟨c,a,rfl⟩:=ad;obtain⟨x,f,d⟩:=h.get a;have aI:=(dO.1 a).1;refine⟨by omega,?_,?_⟩
  . have:((vs.drop o).take 1).getD 0 undef=x:=by grind
    simp only[this];exact .c d
  grind[V.aq]
theorem KR{agg:Bool}{k o:Nat}{ts:List T}{v:V}(ad:loadT agg k ts o=some v):hp agg k (ts.map .t) o=some v:=by
 unfold loadT at ad;unfold hp;cases agg<;>simp_all
theorem aby{ty:TypeId}{g:Bool}{k off:Nat}{vs:List Value}(aj:pk P ty=some g)(a:dZ P ty=some k)(h1:g=false->k=1)(b:off+k<=vs.length):
 (part ty vs.toArray off).run P w= .ok (if g then .agg ((vs.drop off).take k).toArray else((vs.drop off).take k).getD 0 undef) w:=by
 cases g with
 |true=>
  simp_all[part,sf,jm]
 |false=>
  have:=h1 rfl;have aI:off<vs.length:=by omega
  simp_all[part,sf]
theorem ZI (R:Rel ao nt φ S env J n a w){o:Oper}{ty:TypeId}{x:Operand}{f:Nat}(r:o.op= .field ty x f){fs:Array Field}(y:P.underlying ty=some (.struct fs)){b:Field}(j:fs[f]?=some b)
 {m:Nat}(q:dZ P b.type=some m){g:Bool}(aj:pk P b.type=some g)(h1:g=false->m=1){c:aL}(B:bn x=some c)
 {p v J'}(C:n key=false)(h:aw (.fld g b.offset m c) env J key=some (p,v,J'))(s:p):Good P ao nt env J' (ins n key) a v ((execOp a.eval o).run P w):=by
 simp only[aw,a6]at h;obtain⟨⟨D,E⟩,k,he⟩:=h;simp at he;split at he
 . simp only[bb]at he;obtain⟨v0,z,rfl,rfl,rfl⟩:=he;have e:=bT R B k s;obtain⟨vs,A,d⟩:=e.1.l';obtain⟨l,u,i⟩:=Tj d (by simpa[V.aq]using e.2) z h1;have t:=aby (w:=w) aj q h1 (by rw[<-d.length];exact l);exact Good.pure R (by simp[execOp,r,A,Instr.field,underlying,y,j,asAgg,t]) u i
 grind
theorem ZJ (R:Rel ao nt φ S env J n a w){o:Oper}{x:Operand}{i:Nat}(r:o.op= .extract x i){b:aL}(j:bn x=some b)
 {p v J'}(q:n key=false)(h:aw (.ext b i) env J key=some (p,v,J'))(f:p):Good P ao nt env J' (ins n key) a v ((execOp a.eval o).run P w):=by
 simp only[aw,a6]at h;obtain⟨⟨s,t⟩,e,he⟩:=h;simp at he;split at he
 . simp only[bb]at he;obtain⟨v0,d,rfl,rfl,rfl⟩:=he;have c:=bT R j e f;generalize l:a.eval x=y at c;obtain⟨g,m⟩:=c;cases g with
   |aS _ xs ad aa=>
    have aI:i<xs.length:=by grind
    have k:=eu aI;refine Good.pure R ?_ (aa i _ _ d k) (ns (by grind[V.aq]) d);simp_all[execOp,Instr.extract]
 grind
theorem XL (R:Rel ao nt φ S env J n a w){o:Oper}{x y:Operand}{e:Array TypeId}(j:o.op= .call {callee:= .builtin .max,args:=#[x,y],argTypes:=e}){b c:aL}(l:bn x=some b)(m:bn y=some c)
 {p v J'}(r:n key=false)(h:aw (.max2 b c) env J key=some (p,v,J'))(d:p):Good P ao nt env J' (ins n key) a v ((execOp a.eval o).run P w):=by
 simp only[aw,a6]at h;obtain⟨⟨t,z⟩,g,⟨u,A⟩,i,he⟩:=h;simp at he;split at he
 . rename_i k p s q;simp only[cZ]at he;obtain⟨rfl,rfl,rfl,rfl⟩:=he;have h1:=(bT R l g d.1).1.eR;have f:=(bT R m i d.2).1.eR;refine Good.pure R ?_ (.mE _ _) rfl;have:(if p<q then q else p)=max p q:=by omega
   simp[execOp,j,invoke,builtin,Builtin.max_,Builtin.max2,h1,f,Go.resolve,this]
 grind
theorem XM (R:Rel ao nt φ S env J n a w){o:Oper}{x y:Operand}{e:Array TypeId}(j:o.op= .call {callee:= .builtin .min,args:=#[x,y],argTypes:=e}){b c:aL}(l:bn x=some b)(m:bn y=some c)
 {p v J'}(r:n key=false)(h:aw (.min2 b c) env J key=some (p,v,J'))(d:p):Good P ao nt env J' (ins n key) a v ((execOp a.eval o).run P w):=by
 simp only[aw,a6]at h;obtain⟨⟨t,z⟩,g,⟨u,A⟩,i,he⟩:=h;simp at he;split at he
 . rename_i k p s q;simp only[cZ]at he;obtain⟨rfl,rfl,rfl,rfl⟩:=he;have h1:=(bT R l g d.1).1.eR;have f:=(bT R m i d.2).1.eR;refine Good.pure R ?_ (.mE _ _) rfl;have:(if q<p then q else p)=min p q:=by omega
   simp[execOp,j,invoke,builtin,Builtin.min_,Builtin.min2,h1,f,Go.resolve,this]
 grind
theorem b5.jw{es:List (List T)}{v:Value}(h:b5 w S (.slice es) v):∃(a:Option Addr) (cap sz b o:Nat) (f:Nat->Nat->Value),v= .slice a es.length cap/\es.length<=cap/\es.length<=dd/\(∀e,e∈es->e.length=sz)/\(es≠[]->a=some ⟨b,o,none⟩)/\
 (∀i j:Nat,i<es.length->j<sz->S b (o+i*sz+j)/\w.cell? ⟨b,o+i*sz+j,none⟩=some (f i j))/\(∀(i j:Nat) e t,es[i]?=some e->e[j]?=some t->b5 w S t (f i j)):=by
 cases h;exact⟨_,_,_,_,_,_,rfl,by grind,by grind,by omega,by omega,by omega,by grind⟩
theorem aX.fH{b sz off len:Nat}{v:Value}(h:aX φ w S (.arr b sz off len) v):∃a,v= .slice a len ((φ b).2-off)/\((φ b).2≠0->a=some ⟨(φ b).1,off*sz,none⟩)/\off+len<=(φ b).2:=h
theorem ZK (R:Rel ao nt φ S env J n a w){o:Oper}{x:Operand}{ty:TypeId}(g:o.op= .call {callee:= .builtin .len,args:=#[x],argTypes:=#[ty]}){str:Bool}
 (d:if str then P.underlying ty=some .string else ∃e,P.underlying ty=some (.slice e)){i:aL}(q:bn x=some i)
 {p v J'}(r:n key=false)(h:aw (.len str i) env J key=some (p,v,J'))(m:p):Good P ao nt env J' (ins n key) a v ((execOp a.eval o).run P w):=by
 simp only[aw,a6]at h;obtain⟨⟨u,y⟩,k,he⟩:=h;simp at he;split at he<;>simp only[cQ,c8,reduceCtorEq]at he
 all_goals
  obtain⟨rfl,rfl,rfl⟩:=he;have h1:=(bT R q k m).1.dF
 . obtain⟨e,d⟩:=d;obtain⟨f,cap,_,_,_,_,h1,_⟩:=b5.jw h1;exact Good.pure R (by simp[execOp,g,Go.resolve,invoke,builtin,Builtin.len_,underlying,d,h1,goInt]) (.mE _ _) rfl
 . obtain⟨e,d⟩:=d;obtain⟨f,h1,_⟩:=aX.fH h1;exact Good.pure R (by simp[execOp,g,Go.resolve,invoke,builtin,Builtin.len_,underlying,d,h1,goInt]) (.mE _ _) rfl
 . obtain⟨e,d⟩:=d;obtain⟨f,h1⟩:=h1;exact Good.pure R (by simp[execOp,g,Go.resolve,invoke,builtin,Builtin.len_,underlying,d,h1,goInt]) (.mE _ _) rfl
 . obtain⟨e,d⟩:=d;rename_i b l;obtain⟨f,cap,h1⟩:∃f cap,a.eval x= .slice f l cap:=by
    obtain⟨s,t,aZ⟩:=h1
    grind
   exact Good.pure R (by simp[execOp,g,Go.resolve,invoke,builtin,Builtin.len_,underlying,d,h1,goInt]) (.mE _ _) rfl
 . simp at d;obtain⟨bs,j,rfl,_⟩:=cd.iR (.c h1);exact Good.pure R (x:= .int .i64 bs.size) (by simp[execOp,g,Go.resolve,invoke,builtin,Builtin.len_,underlying,d,j,goInt]) (by exact .mE _ _) rfl
theorem XN (R:Rel ao nt φ S env J n a w){o:Oper}{ty:TypeId}{x i:Operand}(E:o.op= .indexAddr ty x i){e:TypeId}(H:P.underlying ty=some (.slice e)){sz:Nat}(G:dZ P e=some sz)(h0:sz≠0)
 {z y:aL}(I:bn x=some z)(hi:bn i=some y)
 {p v J'}(W:n key=false)(h:aw (.idxA sz z y) env J key=some (p,v,J'))(F:p):Good P ao nt env J' (ins n key) a v ((execOp a.eval o).run P w):=by
 simp only[aw,a6]at h;obtain⟨⟨ad,af⟩,D,⟨ab,ae⟩,B,he⟩:=h;simp only at he;have A:∀(b off m:Nat),Addr.add ⟨b,off,none⟩ (m*sz)=⟨b,off+m*sz,none⟩:=by
  grind[Addr.add]
 split at he
 . rename_i es k m;obtain⟨rfl,rfl,rfl⟩:=he;obtain⟨s,u,r,L,T⟩:=F;have h1:=(bT R I D s).1.dF;have g:=(bT R hi B u).1.eR;obtain⟨K,cap,d,b,off,f,h1,Q,Y,Z,l,O,aa⟩:=b5.jw h1;have M:es≠[]:=by grind
   have U:es[m.toNat]?=some (el es m.toNat):=by grind[el]
   have N:d=sz:=by grind
   subst N;rw[l M]at h1;refine Good.pure R (x:= .pointer (some ⟨b,off+m.toNat*d,none⟩)) ?_ ?_ rfl
   . have q:0<=m/\m<es.length:=⟨r,by omega⟩
     simp[execOp,E,h1,g,Instr.indexAt,asIntOf,underlying,H,q,jm G,A]
   . refine .c ⟨b,off+m.toNat*d,λj=>f m.toNat j,by rfl,λj t ht=>?_⟩
     grind
 . rename_i b d off len k m;obtain⟨rfl,rfl,rfl⟩:=he;obtain⟨s,u,r,L,rfl⟩:=F;have aj:=bT R I D s;have h1:=aj.1.dF;have g:=(bT R hi B u).1.eR;obtain⟨K,h1,l,X⟩:=aX.fH h1;rw[l (by omega)]at h1;refine Good.pure R (x:= .pointer (some ⟨(φ b).1,off*sz+m.toNat*sz,none⟩)) ?_ (.c ?_) (by grind[V.aq,C.aq])
   . have q:0<=m/\m<len:=⟨r,by omega⟩
     simp[execOp,E,h1,g,Instr.indexAt,asIntOf,underlying,H,q,jm G,A]
   grind[aX]
 grind
theorem XO (R:Rel ao nt φ S env J n a w){o:Oper}{ty:TypeId}{x i:Operand}(q:o.op= .index ty x i)(y:P.underlying ty=some .string)
 {c b:aL}(z:bn x=some c)(hi:bn i=some b)
 {p v J'}(A:n key=false)(h:aw (.idxS c b) env J key=some (p,v,J'))(r:p):Good P ao nt env J' (ins n key) a v ((execOp a.eval o).run P w):=by
 simp only[aw,a6]at h;obtain⟨⟨C,E⟩,g,⟨B,D⟩,f,he⟩:=h;simp at he;split at he
 . rename_i s k m;obtain⟨rfl,rfl,rfl⟩:=he;obtain⟨t,u,j,l⟩:=r;obtain⟨bs,h1,rfl,hs⟩:=(bT R z g t).1.iR;have d:=(bT R hi f u).1.eR;have aI:m.toNat<bs.size:=by simp_all
   refine Good.pure R ?_ (.mE _ _) rfl;have e:bs[m.toNat]?=some (bs.data.toList.getD m.toNat 0):=by
    rw[getElem?_pos bs _ _];simp[eu l];rfl
   simp[execOp,q,h1,d,Instr.index,asIntOf,underlying,y,j,e]
 grind
theorem RL:∀{vs:List V} {l:List Nat} {xs:List Value},aw.pZ vs=some l->aQ (cd φ w S) vs xs->V.aq.V.dI n vs=true->
 xs=l.map (λb=>Value.pointer (some ⟨(φ b).1,0,none⟩))/\(l.all λb=>n b)=true
 |[],l,xs,h,a,c=>by simp[aw.pZ]at h;subst h;cases a;simp
 |v::vs,l,xs,h,a,c=>by
  cases a with
  |cons d ht=>
   unfold aw.pZ at h;split at h
   . grind
   . rename_i b r e;cases e;simp at h;obtain⟨i,f,rfl⟩:=h;simp[V.aq.V.dI]at c;obtain⟨rfl,g⟩:=RL f ht c.2;have:=d.hx
     grind[V.aq,C.aq]
   grind
theorem XP (R:Rel ao nt φ S env J n a w){o:Oper}{f:Nat}{caps:Array Operand}(m:o.op= .makeFunc (.func f) #[] caps){d:List aL}(i:mG caps.toList=some d)
 {p v J'}(k:n key=false)(h:aw (.mkfn f d) env J key=some (p,v,J'))(g:p):Good P ao nt env J' (ins n key) a v ((execOp a.eval o).run P w):=by
 simp only[aw,a6]at h;obtain⟨⟨q,vs⟩,e,he⟩:=h;split at he
 . rename_i l ad;obtain⟨rfl,rfl,rfl⟩:=he;have aj:=qT R i e g;obtain⟨h1,j⟩:=RL ad aj.1 aj.2;refine Good.pure R ?_ (.c rfl) (by grind[V.aq,C.aq]);have:caps.map a.eval=(l.map λb=>Value.pointer (some ⟨(φ b).1,0,none⟩)).toArray:=by grind
   simp_all[execOp,Instr.makeFunc]
 grind
theorem qU(R:Rel ao nt φ S env J n a w){x:Option Operand}{b:Option aL}(c:jX x=some b){p:Prop}{m:Option Int}(h:iM env b=some (p,m))(e:p):
 (x.map a.eval=none/\m=none)\/∃k i,x.map a.eval=some (.int k i)/\m=some i:=by
 cases x with
 |none=>grind[jX,iM]
 |some x=>
  simp[jX]at c;obtain⟨g,d,rfl⟩:=c;simp only[iM,a6]at h;obtain⟨⟨q,v⟩,f,he⟩:=h;simp at he;split at he
  . obtain⟨rfl,rfl⟩:=he;have:=(bT R d f e).1.eR
    grind
  grind
theorem B0 {isSlice:Bool}{len cap:Nat}{lo hi:Option Value}{l h:Option Int}(b:(lo=none/\l=none)\/∃k i,lo=some (.int k i)/\l=some i)(a:(hi=none/\h=none)\/∃k i,hi=some (.int k i)/\h=some i)
 (h0:0<=l.getD 0)(h1:l.getD 0<=h.getD len)(c:h.getD len<=len)(d:len<=cap):
 (Instr.sliceBounds isSlice len cap lo hi none).run P w= .ok ((l.getD 0).toNat,(h.getD len).toNat,cap) w:=by
 have e:h.getD len<=cap:=by omega
 rcases b with⟨rfl,rfl⟩|⟨k,i,rfl,rfl⟩<;>rcases a with⟨rfl,rfl⟩|⟨g,f,rfl,rfl⟩<;>simp_all [Instr.sliceBounds,Instr.sliceBound,asIntOf]
 grind
theorem XQ (R:Rel ao nt φ S env J n a w){o:Oper}{ty:TypeId}{x:Operand}{lo hi:Option Operand}(s:o.op= .slice ty x lo hi none)(A:P.underlying ty=some .string)
 {f:aL}{d b:Option aL}(B:bn x=some f)(r:jX lo=some d)(q:jX hi=some b)
 {p v J'}(D:n key=false)(h:aw (.slcS f d b) env J key=some (p,v,J'))(t:p):Good P ao nt env J' (ins n key) a v ((execOp a.eval o).run P w):=by
 simp only[aw,a6]at h;obtain⟨⟨F,G⟩,m,⟨pl,l⟩,k,⟨E,h⟩,j,he⟩:=h;simp at he;split at he
 . obtain⟨rfl,rfl,rfl⟩:=he;obtain⟨u,y,z,h0,h1,g⟩:=t;obtain⟨bs,C,rfl,hs⟩:=(bT R B m u).1.iR;have ad:=qU R r k y;have aa:=qU R q j z;rw[uf]at h1 g;have i:=B0 (P:=P) (w:=w) (isSlice:=false) ad aa h0 h1 g (eJ _);rw[uf]
   have e:(bs.extract (l.getD 0).toNat (h.getD bs.size).toNat).data.toList=(bs.data.toList.take (h.getD bs.size).toNat).drop (l.getD 0).toNat:=by grind[ByteArray.data_extract,Array.toList_extract,List.drop_take]
   refine Good.pure R (x:= .string (bs.extract (l.getD 0).toNat (h.getD bs.size).toNat)) ?_ (.c ?_) rfl
   . simp[execOp,s,Instr.sliceAt,Instr.slice,underlying,A,C,i]
   . rw[<-e];refine .str _ ?_;rw[ByteArray.size_extract];omega
 grind
theorem ZL (R:Rel ao nt φ S env J n a w){o:Oper}{ty:TypeId}{x:Operand}{lo hi:Option Operand}(T:o.op= .slice ty x lo hi none){e:TypeId}(X:P.underlying ty=some (.slice e)){sz:Nat}(W:dZ P e=some sz)
 {G:aL}{k F:Option aL}(Y:bn x=some G)(Q:jX lo=some k)(O:jX hi=some F)
 {p v J'}(ar:n key=false)(h:aw (.slc sz G k F) env J key=some (p,v,J'))(U:p):Good P ao nt env J' (ins n key) a v ((execOp a.eval o).run P w):=by
 simp only[aw,a6]at h;obtain⟨⟨az,aB⟩,N,⟨pl,l⟩,M,⟨ay,h⟩,K,he⟩:=h;simp only at he;split at he
 . rename_i es;obtain⟨rfl,rfl,rfl⟩:=he;obtain⟨A,B,D,h0,h1,s,ae⟩:=U;obtain⟨g,cap,d,b,off,f,E,Z,av,ax,I,y,al⟩:=b5.jw (bT R Y N A).1.dF;have ad:=qU R Q M B;have aa:=qU R O K D;have u:=B0 (P:=P) (w:=w) (isSlice:=true) (cap:=cap) ad aa h0 h1 s Z;generalize an:(l.getD 0).toNat=L at*
   generalize am:(h.getD (es.length:Int)).toNat=H at*;have r:((es.take H).drop L).length=H-L:=by simp;omega
   refine Good.pure R (x:= .slice (if cap=L then g else g.map (·.add (L*sz))) (H-L) (cap-L)) ?_ (.c ?_) rfl
   . simp[execOp,T,Instr.sliceAt,Instr.slice,underlying,X,E,u,jm W]
   . show b5 w S _ _;rw[<-r];have af:∀(i:Nat) e,((es.take H).drop L)[i]?=some e->es[L+i]?=some e/\L+i<H:=by grind
     by_cases z:es=[]
     . subst z;simp;exact b5.slice [] _ _ 0 0 0 (λ_ _=>undef) (by simp) (by simp[dd]) (by simp) (by simp) (by simp) (by simp)
     . have ak:d=sz:=by
        obtain⟨bM,aq⟩:=AX es z
        grind
       subst ak;refine b5.slice _ _ _ d b (off+L*d) (λi j=>f (L+i) j) (by rw[r];omega) (by rw[r];omega) (λe he=>ae e (pG (yp he))) ?_ ?_ ?_
       . intro aA;have:L<H:=by grind
         rw[ag (by omega),I z];unfold Addr.add;split
         . rename_i h;simp[h]
         . rfl
       . intro i j hi ah;rw[r]at hi;have:=y (L+i) j (by omega) ah;rw[show off+L*d+i*d+j=off+(L+i)*d+j by rw[gP];omega];exact this
       . intro i j e t he ht;exact al _ _ _ _ (af i e he).1 ht
 . rename_i b d off len;obtain⟨rfl,rfl,rfl⟩:=he;obtain⟨A,B,D,h0,h1,s,rfl⟩:=U;have aj:=bT R Y N A;obtain⟨g,E,I,au⟩:=aX.fH aj.1.dF;have ad:=qU R Q M B;have aa:=qU R O K D;have u:=B0 (P:=P) (w:=w) (isSlice:=true) (cap:=(φ b).2-off) ad aa h0 h1 s (by omega)
   have ap:∀(q o m:Nat),(Addr.add ⟨q,o,none⟩ m:Addr)=⟨q,o+m,none⟩:=by
    grind[Addr.add]
   have ai:k.isNone=true->l.getD 0=0:=by
    intro aA;cases k with
    |some _=>grind
    |none=>grind[iM,Option.some.injEq,Prod.mk.injEq]
   generalize l.getD 0=L at*;generalize h.getD (len:Int)=H at*;refine Good.pure R (x:= .slice (if(φ b).2-off=L.toNat then g else g.map (·.add (L.toNat*sz))) (H.toNat-L.toNat) ((φ b).2-off-L.toNat)) ?_ (.c ?_) ?_
   . simp[execOp,T,Instr.sliceAt,Instr.slice,underlying,X,E,u,jm W]
   . by_cases aA:k.isNone=true
     . rw[ab aA];have:=ai aA;subst this;refine⟨_,rfl,λy=>?_,by omega⟩
       grind
     . rw[ag aA];refine⟨_,_,rfl,λy=>?_,by omega⟩
       grind
   grind[V.aq,C.aq]
 grind
theorem XR (R:Rel ao nt φ S env J n a w){o:Oper}{ty:TypeId}{x:Operand}{k z:IntKind}(r:o.op= .slice ty x none (some (.const (.int k 0))) (some (.const (.int z 0)))){e:TypeId}(u:P.underlying ty=some (.slice e))
 {sz:Nat}(t:dZ P e=some sz){m:aL}(y:bn x=some m)
 {p v J'}(A:n key=false)(h:aw (.slc0 m) env J key=some (p,v,J'))(s:p):Good P ao nt env J' (ins n key) a v ((execOp a.eval o).run P w):=by
 simp only[aw,a6]at h;obtain⟨⟨B,D⟩,q,he⟩:=h;simp at he;have j:∀(g:Option _) (l c:Nat),a.eval x= .slice g l c->∃a2,(execOp a.eval o).run P w= .ok (.value (.slice a2 0 0)) w:=by
  intro g l c d;have bM:∀v,a.eval (.const v)=v:=λ_=>rfl
  exact⟨_,by simp[execOp,r,Instr.sliceAt,Instr.slice,underlying,u,d,jm t];rfl⟩
 split at he<;>simp only[cQ,reduceCtorEq]at he
 all_goals
  obtain⟨rfl,rfl,rfl⟩:=he;have h1:=(bT R y q s).1.dF
 . obtain⟨g,cap,C,b,off,f,d,_⟩:=b5.jw h1;obtain⟨a2,i⟩:=j _ _ _ d;exact Good.pure R i (.c ⟨a2,rfl⟩) rfl
 . obtain⟨g,d⟩:=h1;obtain⟨a2,i⟩:=j _ _ _ d;exact Good.pure R i (.c ⟨a2,rfl⟩) rfl
 . obtain⟨g,d,_⟩:=aX.fH h1;obtain⟨a2,i⟩:=j _ _ _ d;exact Good.pure R i (.c ⟨a2,rfl⟩) rfl
end
end
section
open Go
variable [da]
section
variable {P:Program}{ao:Ctx}{nt:Nat}{φ:db}{S:dj}{env:Env}{J:aF}{n:Nat->Bool}{key:Nat}{a:Act}{w:World}
theorem hV{b:Nat}{vs:List Value}{E:TypeId}{a:Nat×Nat}(h:w.heap[b]?=some (.cells vs.toArray E a))(j:Nat):w.cell? ⟨b,j,none⟩=vs[j]?:=by
 grind[World.cell?]
theorem abz{α:Type}{l:List α}{k j:Nat}(h:j<(l.take k).length):l[j]?=(l.take k)[j]?:=by
 rw[ju]at h;rw[mF,ab (by omega)]
theorem oV {ty:TypeId}{g:Bool×Nat}(aj:nz P ty=some g){blk off0 o:Nat}{cs:List C}{vs:List Value}{v:V}
 (a:aQ (aX φ w S) cs vs)(c:cs.all (C.aq n)=true)(i:∀j,j<vs.length->w.cell? ⟨blk,off0+j,none⟩=vs[j]?)(ad:hp g.1 g.2 cs o=some v):
 ∃x,(loadVar ty ⟨blk,off0+o,none⟩).run P w= .ok x w/\cd φ w S v x/\v.aq n=true:=by
 obtain⟨h1,e,b⟩:=Sk aj;obtain⟨d,k,f⟩:=Tj a c ad b;rw[a.length]at d
 grind[Ys]
theorem aQ.Qm{ts:List T}{xs:List Value}(h:aQ (b5 w S) ts xs):aQ (aX φ w S) (ts.map .t) xs:=aQ.af4 h
theorem GO{b sz i:Nat}{es:List (List T)}(h:cD φ w S b (.arr sz es))(hi:i<es.length):
 (φ b).2≠0/\∃(vs:List Value) (E:TypeId) (xs:List Value),w.heap[(φ b).1]?=some (.cells vs.toArray E (0,0))/\vs.length=(φ b).2*sz/\(el es i).length=sz/\xs.length=sz/\aQ (b5 w S) (el es i) xs/\
  (∀j,j<sz->vs[i*sz+j]?=xs[j]?)/\(i+1)*sz<=vs.length:=by
 obtain⟨h1,f,a,g,bf⟩:=h;have h0:(φ b).2≠0:=by omega
 obtain⟨vs,E,aa,ad,k,hs⟩:=bf h0;have c:es[i]?=some (el es i):=by grind[el]
 have e:=a _ (eU c);have d:(i+1)*sz<=vs.length:=by rw[ad];exact et _ (by omega)
 refine⟨h0,vs,E,(vs.drop (i*sz)).take sz,aa,ad,e,by grind,?_,?_,d⟩
 . grind[aQ.kr]
 grind
theorem XS (R:Rel ao nt φ S env J n a w){o:Oper}{ty:TypeId}{x:Operand}(af:o.op= .load ty x){g:Bool×Nat}(aj:nz P ty=some g){F:aL}(z:bn x=some F)
 {p v J'}(ab:n key=false)(h:aw (.load g.1 g.2 F) env J key=some (p,v,J'))(u:p):Good P ao nt env J' (ins n key) a v ((execOp a.eval o).run P w):=by
 simp only[aw,a6]at h;obtain⟨⟨ai,al⟩,s,he⟩:=h;simp only at he;have B:∀(blk off:Nat) (y:Value),a.eval x= .pointer (some ⟨blk,off,none⟩)->(loadVar ty ⟨blk,off,none⟩).run P w= .ok y w->(execOp a.eval o).run P w= .ok (.value y) w:=by
  simp_all[execOp,Instr.loadAt,Instr.sureAddr]
 split at he
 . split at he
   . rename_i cs d;simp only[bb]at he;obtain⟨v0,m,rfl,rfl,rfl⟩:=he;have h1:=(bT R z s u).1.hx;obtain⟨_,vs,E,aa,q,_⟩:=R.bm.blk _ _ d;have r:=(R.dp _ _ d).2;obtain⟨y,e,l,k⟩:=oV (n:=n) aj q r (λj _=>by rw[hV aa,fp]) m
     grind[Good.pure]
   . rename_i E c d;split at he
     . rename_i N;obtain⟨O,rfl⟩:=N;obtain⟨rfl,rfl,rfl⟩:=he;have h1:=(bT R z s u).1.hx;obtain⟨_,⟨I,Y,aa,T,U⟩,_⟩:=R.bm.blk _ _ d;have r:=(R.dp _ _ d).2;have Q:I.oneCell'=true:=by rcases T with rfl|rfl<;>rfl
       have q:aQ _ [.dead,c] [I,Y]:= .cons Q (.cons U .nil);obtain⟨y,e,l,k⟩:=oV (n:=n) (off0:=0) (o:=1) (v:= .c c) aj q (by simp only[lY,List.all_nil,vp];exact r) (λj _=>by rw[hV aa,fp]) (by simp[hp,O])
       grind[Good.pure]
     grind
   grind
 . rename_i b sz i H;split at he
   . rename_i X es d;simp only[bb,c8]at he;obtain⟨v0,m,rfl,rfl,rfl⟩:=he;obtain⟨C,rfl,hi⟩:=u;have h1:=(bT R z s C).1.gK;obtain⟨_,vs,E,xs,aa,ad,ae,ag,q,M,_⟩:=GO (R.bm.blk _ _ d) hi
     obtain⟨y,e,l,k⟩:=oV (n:=n) aj (aQ.Qm q) (IC n _) (λj A=>by rw[hV aa,M j (by omega)]) (KR m);exact Good.pure R (B _ _ _ h1 e) l k
   . rename_i cs d;simp only[bb]at he;obtain⟨v0,m,rfl,rfl,rfl⟩:=he;have h1:=(bT R z s u).1.gK;obtain⟨_,vs,E,aa,q,_⟩:=R.bm.blk _ _ d;have r:=(R.dp _ _ d).2;obtain⟨y,e,l,k⟩:=oV (n:=n) aj q r (λj _=>by rw[hV aa,fp]) m;rw[fp]at e;exact Good.pure R (B _ _ _ h1 e) l k
   . rename_i ak cs d;simp only[bb]at he;obtain⟨v0,m,rfl,rfl,rfl⟩:=he;have h1:=(bT R z s u).1.gK;obtain⟨_,vs,E,aa,⟨q,_⟩,_⟩:=R.bm.blk _ _ d;have r:=(R.dp _ _ d).2;obtain⟨y,e,l,k⟩:=oV (n:=n) aj q r (λj A=>by rw[hV aa,fp,abz A]) m;rw[fp]at e
     exact Good.pure R (B _ _ _ h1 e) l k
   . rename_i X es i2 ah c d;split at he
     . grind
     . rename_i G;obtain⟨⟨a1,a2,a3,a4,a5,Z⟩,⟨vs,E,aZ,ba,bE,K,bU,cL⟩,cM⟩:=R.bm.blk _ _ d;have r:=(R.dp _ _ d).2;split at he
       . rename_i D;subst D;obtain⟨rfl,rfl,rfl⟩:=he;obtain⟨C,rfl,rfl⟩:=u;have h1:=(bT R z s C).1.gK
         obtain⟨y,e,l,k⟩:=oV (n:=n) (vs:=[K]) (o:=0) (v:= .c c) aj (.cons cL .nil) (by simpa[bp.aq]using r) (λj A=>by
          have:j=0:=by simpa using A
          subst this
          rw[hV aZ,q8,bU];rfl) (by simp[hp,G])
         exact Good.pure R (B _ _ _ h1 e) l k
       . rename_i D;simp only[bb,c8]at he;obtain⟨v0,m,rfl,rfl,rfl⟩:=he;obtain⟨C,rfl,hi⟩:=u;have h1:=(bT R z s C).1.gK;simp only[loadT,cN,cv,bb]at m;obtain⟨t,ht,rfl⟩:=m;have L:es[i]?=some (el es i):=by unfold el;rw[List.getD,eu hi];rfl
         obtain⟨am,W,V⟩:=bE i H _ t L ht (λh=>D h.2)
         obtain⟨y,e,l,k⟩:=oV (n:=n) (φ:=φ) (cs:=[.t t]) (o:=0) (v:= .c (.t t)) aj (.cons V .nil) rfl (λj A=>by
          have:j=0:=by simpa using A
          subst this
          rw[hV aZ,q8,W];rfl) (by simp[hp,G])
         exact Good.pure R (B _ _ _ h1 e) l k
   grind
 . rename_i ts H;simp only[bb,c8]at he;obtain⟨v0,m,rfl,rfl,rfl⟩:=he;obtain⟨blk,off,f,h1,aa⟩:=(bT R z s u).1.dF;have q:aQ (b5 w S) ts ((List.range ts.length).map f):=by
    grind[aQ.kr]
   obtain⟨y,e,l,k⟩:=oV (n:=n) aj (aQ.Qm q) (IC n _) (blk:=blk) (off0:=off) (λj A=>by simp_all) (KR m);exact Good.pure R (B _ _ _ h1 e) l k
 grind
theorem ID{k:Nat}{s t:T}{b:Bool}(h:As k s t=some b){ty:TypeId}(c:sB P ty=some k){x y:Value}(f:b5 w S s x)(g:b5 w S t y)(d:Nat):
 (Op.equalIn (d+1) ty x y).run P w= .ok b w:=by
 have i:∀a b:List UInt8,(a==b)=decide (a=b):=λa b=>by grind
 unfold sB at c;unfold As at h;split at h
 . cases h;cases f;cases g;split at c<;>simp at c
   rename_i e;unfold Op.equalIn;simp only[Sem.run_bind,run_underlying e];rfl
 . simp at h;obtain⟨rfl,rfl⟩:=h;cases f;cases g;split at c<;>simp at c
   rename_i e;unfold Op.equalIn;simp only[Sem.run_bind,run_underlying e,Result.andThen_ok];rfl
 . cases f with|str s1 h1=>cases g with|str l j=>
   split at c<;>simp at c
   rename_i e;unfold Op.equalIn;simp only[Sem.run_bind,run_underlying e,Result.andThen_ok];simp_all[beq_toListBytes,ByteArray.toList_eq]
 grind
theorem JW{ty:TypeId}{k:Nat}(h:sB P ty=some k):pk P ty=some false:=by
 grind[sB,pk]
theorem R7{d:Nat}{xs j:Array Value}:∀{fs:List Field} {i:Nat} {ks:List Nat} {ps c:List C} {us vs:List Value} {r:Bool},yC P i fs=some ks->k3 ks ps c=some r->
 aQ (aX φ w S) ps us->aQ (aX φ w S) c vs->xs.toList.drop i=us->j.toList.drop i=vs->(Op.eqFields (d+1) xs j fs).run P w= .ok r w
 |[],i,ks,ps,c,us,vs,r,a,he,h1,e,az,g=>by
  simp[yC]at a;subst a;cases ps<;>cases c<;>simp[k3]at he
  subst he;rfl
 |f::fs,i,ks,ps,c,us,vs,r,a,he,h1,e,az,g=>by
  simp[yC,a6]at a;obtain⟨⟨F,E⟩,k,u,H,A,rfl⟩:=a;unfold k3 at he;split at he
  . grind
  . rename_i G I x J y K t;cases t;simp only[a6,bb]at he;obtain⟨b,s,L,B,rfl⟩:=he;cases h1 with|cons h1 p=>
    cases e with|cons e q=>
    rename_i D M v N;have n:xs[i]?=some D:=by have:=cC (·[0]?) az;grind
    have o:j[i]?=some v:=by have:=cC (·[0]?) g;grind
    have ih:=R7 (d:=d) A B p q (by rw[<-s6,az];rfl) (by rw[<-s6,g];rfl);have l:∀(m:Array _) (z:Value),m[i]?=some z->(part f.type m f.offset).run P w= .ok z w:=by
     simp_all[part,sf,JW]
    simp[Op.eqFields,l _ _ n,l _ _ o,ID s u h1 e d];cases b
    all_goals simp_all
  grind
theorem Yt (R:Rel ao nt φ S env J n a w){o:Oper}{op:BinOp}{ty yt:TypeId}{x y:Operand}(D:o.op= .binOp op ty x y yt)(j:op= .eql\/op= .neq){ks:List Nat}(f:FY P ty=some ks)
 {b c:aL}(k:bn x=some b)(l:bn y=some c)
 {p v J'}(C:n key=false)(h:aw (.eqAgg (op== .neq) ks b c) env J key=some (p,v,J'))(e:p):Good P ao nt env J' (ins n key) a v ((execOp a.eval o).run P w):=by
 simp only[aw,a6]at h;obtain⟨⟨H,K⟩,g,⟨I,L⟩,i,he⟩:=h;simp at he;split at he
 . simp only[bb]at he;obtain⟨r,E,rfl,rfl,rfl⟩:=he;obtain⟨us,F,t⟩:=(bT R k g e.1).1.l';obtain⟨vs,G,u⟩:=(bT R l i e.2).1.l';unfold FY at f;split at f
   . rename_i fs B;have q:(eqGuard op ty x y (a.eval x) (a.eval y)).run P w= .ok () w:=by simp_all[eqGuard]
     have A:P.fieldsOf ty=fs:=by grind[Program.fieldsOf]
     have m:(Op.equal ty (.agg us.toArray) (.agg vs.toArray)).run P w= .ok r w:=by
      obtain⟨d,z⟩:∃d,Op.maxDepth=d+2:=⟨9998,rfl⟩
      grind[Op.equal,run_equalIn_struct,R7]
     have s:(binOp op ty (a.eval x) (a.eval y)).run P w= .ok (.bool (if(op== .neq)then !r else r)) w:=by
      rcases j with rfl|rfl
      . simp_all[binOp]
      simp_all[binOp]
     refine Good.pure R ?_ (.oi _) rfl;simp_all[execOp]
   grind
 grind
end
end
section
open Go
variable [da]
section
variable {P:Program}{ao:Ctx}{nt:Nat}{φ:db}{S:dj}{env:Env}{J:aF}{n:Nat->Bool}{key:Nat}{a:Act}{w:World}
theorem nU{w w':World}{b:Nat}(h:w'.heap[b]?=w.heap[b]?)(j:Nat):w'.cell? ⟨b,j,none⟩=w.cell? ⟨b,j,none⟩:=by
 grind[World.cell?]
theorem sg{w:World}{b:Nat}{o:Obj}(h:w.heap[b]?=some o):b<w.heap.size:=(vv.1 h).1
theorem cD.h7{b:Nat}{x:bp}(h:cD φ w S b x)(h0:(φ b).2≠0):(φ b).1<w.heap.size:=by
 cases x with
 |box cs=>obtain⟨_,_,_,aa,_⟩:=h;grind
 |vec sz cs=>obtain⟨_,_,_,aa,_⟩:=h;grind
 |arr sz es=>obtain⟨_,_,_,_,bf⟩:=h;grind
 |set ks=>obtain⟨_,⟨_,_,aa,_⟩,_⟩:=h;grind
 |buf E s=>obtain⟨_,_,bf⟩:=h;grind
 |bX E c=>obtain⟨_,⟨_,_,aa,_⟩,_⟩:=h;grind
 |cu sz es i o c=>obtain⟨_,⟨_,_,aa,_⟩,_⟩:=h;grind
theorem cD.nW{b:Nat}{x:bp}(h:cD φ w S b x)(h0:(φ b).2≠0):∀j,¬S (φ b).1 j:=by
 cases x with
 |box cs=>obtain⟨_,_,_,_,_,hs⟩:=h;grind
 |vec sz cs=>obtain⟨_,_,_,_,_,hs⟩:=h;grind
 |arr sz es=>obtain⟨_,_,_,_,bf⟩:=h;grind
 |set ks=>exact h.2.2
 |buf E s=>exact(h.2.2 h0).2
 |bX E c=>exact h.2.2
 |cu sz es i o c=>exact h.2.2
theorem cD.mono {A:db}{w':World}{b:Nat}{x:bp}(m:fw w S w' S)(p:∀b,n b=true->A b=φ b)(y:n b=true)(F:x.aq n=true)(aa:(φ b).2≠0->w'.heap[(φ b).1]?=w.heap[(φ b).1]?)
 (h:cD φ w S b x):cD A w' S b x:=by
 cases x with
 |box cs=>
  obtain⟨h0,vs,E,h1,a,f⟩:=h;simp only[cD,p b y];refine⟨h0,vs,E,(aa h0).trans h1,a.imp λc v B g=>aX.mono m p (by grind[bp.aq]) g,f⟩
 |vec sz cs=>
  obtain⟨h0,vs,E,h1,⟨a,q⟩,f⟩:=h;simp only[cD,p b y];refine⟨h0,vs,E,(aa h0).trans h1,⟨a.imp λc v B g=>aX.mono m p (by grind[bp.aq]) g,q⟩,f⟩
 |arr sz es=>
  obtain⟨h1,a,f,q,bf⟩:=h;simp only[cD,p b y];refine⟨h1,a,f,q,λh0=>?_⟩;obtain⟨vs,E,aZ,ba,bE,bU⟩:=bf h0;exact⟨vs,E,(aa h0).trans aZ,ba,λi j e t he ht=>let⟨v,D,g⟩:=bE i j e t he ht;⟨v,D,b5.mono m g⟩,bU⟩
 |set ks=>
  grind[cD]
 |buf E s=>
  grind[cD]
 |bX E c=>
  grind[cD,aX.mono,bp.aq]
 |cu sz es i o c=>
  grind[cD,b5.mono,aX.mono,bp.aq]
theorem Rel.world (R:Rel ao nt φ S env J n a w){w':World}(W:Nat->Prop)(q:w'.os=w.os)(ht:w'.tape=w.tape)(p:w'.output=w.output)(hs:w.heap.size<=w'.heap.size)
 (e:∀b:Nat,b<w.heap.size->¬W b->w'.heap[b]?=w.heap[b]?)
 (e0:∀b,W b->(∀j,¬S b j)/\(∀k y,aJ J k=some y->(φ k).2≠0->(φ k).1≠b)/\(ao.B b\/ao.ll.heap.size<=b)):Rel ao nt φ S env J n a w':=by
 have m:fw w S w' S:=⟨λ_ _ h=>h,λb j h=>nU (e b (R.bm.st b j h) (λf=>(e0 b f).1 j h)) j⟩
 refine⟨⟨λb x c=>?_,R.bm.inj,λb j h=>k' (R.bm.st b j h) hs⟩,λk g v ad aj=>?_,R.gJ,R.fS,R.dp,R.size,R.defers,?_,R.own,R.fix,R.fV⟩
 . have o:=R.bm.blk b x c;exact cD.mono m (λ_ _=>rfl) (R.dp b x c).1 (R.dp b x c).2 (λh0=>e _ (o.h7 h0) (λf=>(e0 _ f).2.1 b x c h0 rfl)) o
 . obtain⟨x,c,t⟩:=R.fT k g v ad aj;exact⟨x,c,cd.mono m (λ_ _=>rfl) (R.fS k g v ad aj) t⟩
 . refine⟨q.trans R.ext.os,ht.trans R.ext.tape,p.trans R.ext.output,iO R.ext.size hs,λb aI cA=>?_,R.ext.mono.trans m,R.ext.pO⟩;rw[e b (k' aI R.ext.size) _]
   . exact R.ext.block b aI cA
   grind
theorem Rel.congr(R:Rel ao nt φ S env J n a w){J':aF}(h:∀b,aJ J' b=aJ J b):Rel ao nt φ S env J' n a w:=
 ⟨⟨λb x c=>R.bm.blk b x (h b▸c),λb e x y c f=>R.bm.inj b e x y (h b▸c) (h e▸f),R.bm.st⟩,R.fT,R.gJ,R.fS,λb x c=>R.dp b x (h b▸c),R.size,R.defers,R.ext,λb x c=>R.own b x (h b▸c),R.fix,R.fV⟩
theorem Rel.sub(R:Rel ao nt φ S env J n a w){J':aF}(h:∀b x,aJ J' b=some x->aJ J b=some x):Rel ao nt φ S env J' n a w:=
 ⟨⟨λb x c=>R.bm.blk b x (h b x c),λb e x y c f=>R.bm.inj b e x y (h b x c) (h e y f),R.bm.st⟩,R.fT,R.gJ,R.fS,λb x c=>R.dp b x (h b x c),R.size,R.defers,R.ext,λb x c=>R.own b x (h b x c),R.fix,R.fV⟩
theorem Rel.del(R:Rel ao nt φ S env J n a w)(b:Nat):Rel ao nt φ S env (eM J b) n a w:=
 R.sub λk x c=>by grind[d']
theorem Rel.zb(R:Rel ao nt φ S env J n a w){p:db}(e:∀b,n b=true->p b=φ b):Rel ao nt p S env J n a w:=by
 refine⟨⟨λb x c=>?_,λb f x y c o=>?_,R.bm.st⟩,λk g v ad aj=>?_,R.gJ,R.fS,R.dp,R.size,R.defers,R.ext,λb x c h0=>?_,λb j=>(e b (R.fV b j)).trans (R.fix b j),R.fV⟩
 . exact cD.mono (fw.refl w S) e (R.dp b x c).1 (R.dp b x c).2 (λ_=>rfl) (R.bm.blk b x c)
 . rw[e b (R.dp b x c).1,e f (R.dp f y o).1];exact R.bm.inj b f x y c o
 . obtain⟨x,c,q⟩:=R.fT k g v ad aj;exact⟨x,c,cd.mono (fw.refl w S) e (R.fS k g v ad aj) q⟩
 . rw[e b (R.dp b x c).1]at h0⊢;exact R.own b x c h0
theorem Rel.put (R:Rel ao nt φ S env J n a w){b:Nat}{x:bp}(q:n b=true)(v:x.aq n=true)(p:cD φ w S b x)
 (t:(φ b).2≠0->(∀k y,aJ J k=some y->k≠b->(φ k).2≠0->(φ k).1≠(φ b).1)/\(ao.B (φ b).1\/ao.ll.heap.size<=(φ b).1)):Rel ao nt φ S env (cn J b x) n a w:=by
 refine⟨⟨λk y c=>?_,λk j y o c e g h0 f=>?_,R.bm.st⟩,R.fT,R.gJ,R.fS,λk y c=>?_,R.size,R.defers,R.ext,λk y c h0=>?_,R.fix,R.fV⟩
 . rw[cE]at c;split at c
   . grind
   . exact R.bm.blk k y c
 . rw[cE]at c e;split at c
   . grind
   . split at e
     . grind
     . exact R.bm.inj k j y o c e g h0 f
 . rw[cE]at c;split at c
   . grind
   . exact R.dp k y c
 . rw[cE]at c;split at c
   . grind
   . exact R.own k y c h0
def fe(φ:db)(n:Nat)(q:Nat×Nat):db:=λb=>if b=n then q else φ b
theorem pn{b:Nat}{q:Nat×Nat}(a:n key=false)(h:n b=true):fe φ key q b=φ b:=by grind[fe]
theorem cS{k:Nat}{q:Nat×Nat}:fe φ k q k=q:=by simp[fe]
theorem Rel.hL (R:Rel ao nt φ S env J n a w)(c:n key=false){x:bp}(q:Nat×Nat)(g:x.aq n=true)(e:cD (fe φ key q) w S key x)
 (f:q.2≠0->(∀k y,aJ J k=some y->(φ k).2≠0->(φ k).1≠q.1)/\(ao.B q.1\/ao.ll.heap.size<=q.1)):Rel ao nt (fe φ key q) S env (cn J key x) (ins n key) a w:=by
 refine((R.zb (λb h=>pn c h)).more (λ_ h=>iK h)).put abx (bp.gH (λ_ h=>iK h) g) e ?_;rw[cS];intro h0;refine⟨λk y j o h=>?_,(f h0).2⟩;rw[pn c (R.dp k y j).1]at h⊢
 grind
theorem Bq{w:World}{o:Obj}{b:Nat}(h:b<w.heap.size):(w.alloc o).heap[b]?=w.heap[b]?:=by
 show(w.heap.push o)[b]?=_
 grind
theorem j9{w:World}{o:Obj}:(w.alloc o).heap[w.heap.size]?=some o:=by
 show(w.heap.push o)[w.heap.size]?=_;simp
theorem Rel.alloc(R:Rel ao nt φ S env J n a w)(o:Obj):Rel ao nt φ S env J n a (w.alloc o):=
 R.world (λ_=>False) rfl rfl rfl (by simp) (λb c _=>Bq c) (λ_ h=>h.elim)
theorem Rel.pC(R:Rel ao nt φ S env J n a w)(o:Obj):fw w S (w.alloc o) S:=
 ⟨λ_ _ h=>h,λb j h=>nU (Bq (R.bm.st b j h)) j⟩
theorem Rel.P3(R:Rel ao nt φ S env J n a w)(e:n key=false){cs:List C}{vs:List Value}(f:aQ (aX φ w S) cs vs)(g:cs.all (C.aq n)=true)(E:TypeId):
 Rel ao nt (fe φ key (w.heap.size,1)) S env (cn J key (.box cs)) (ins n key) a (w.alloc (.cells vs.toArray E)):=by
 have m:=R.pC (.cells vs.toArray E);refine(R.alloc _).hL e _ g ?_ ?_
 . simp only[cD,cS];refine⟨by simp,vs,E,j9,f.imp λc v q o=>aX.mono m (λb h=>pn e h) (by grind) o,λj h=>?_⟩;have:=R.bm.st _ _ h
   grind
 . intro _;refine⟨λk y p h0=>?_,.inr R.ext.size⟩;have:=(R.bm.blk k y p).h7 h0
   grind
theorem qR{ty:TypeId}{cs:List C}(h:iT P ty=some cs):∃i z,P.info? ty=some i/\i.zero=some z/\aQ (aX φ w S) cs z.cells.toList/\cs.all (C.aq n)=true:=by
 grind[iT,a6,Ge]
theorem Tk (R:Rel ao nt φ S env J n a w){o:Oper}{ty:TypeId}(g:o.op= .alloc ty){cs:List C}(b:iT P ty=some cs)
 {p v J'}(f:n key=false)(h:aw (.alloc cs) env J key=some (p,v,J'))(j:p):Good P ao nt env J' (ins n key) a v ((execOp a.eval o).run P w):=by
 obtain⟨rfl,rfl,rfl⟩:=h;obtain⟨i,z,hi,b,d,e⟩:=qR b;have R':=R.P3 f d e ty;refine⟨.pointer (some ⟨w.heap.size,0,none⟩),_,S,_,.inl ?_,.c ?_,by simp[V.aq,C.aq,ins],R'⟩
 . simp_all[execOp,Instr.alloc,zeroValue,typeInfo,newVar,newRow]
 grind[aX,cS]
theorem ZM (R:Rel ao nt φ S env J n a w){o:Oper}{ty:TypeId}{x:Operand}(j:o.op= .box ty x){b:aL}(l:bn x=some b)
 {p v J'}(i:n key=false)(h:aw (.box b) env J key=some (p,v,J'))(k:p):Good P ao nt env J' (ins n key) a v ((execOp a.eval o).run P w):=by
 simp only[aw,a6,bb]at h;obtain⟨⟨m,q⟩,g,cs,f,rfl,rfl,rfl⟩:=h;have aj:=bT R l g k;obtain⟨d,e⟩:=lK aj.1 f aj.2;have R':=R.P3 i d e ty;refine⟨.pointer (some ⟨w.heap.size,0,none⟩),_,S,_,.inl ?_,.c ?_,by simp[V.aq,C.aq,ins],R'⟩
 . simp[execOp,j,Instr.box,newVar,newRow]
 grind[aX,cS]
end
end
section
open Go
variable [da]
section
variable {P:Program}{ao:Ctx}{nt:Nat}{φ:db}{S:dj}{env:Env}{J:aF}{n:Nat->Bool}{key:Nat}{a:Act}{w:World}
def hK{α:Type}(vs:List α)(off:Nat)(xs:List α):List α:=vs.take off++xs++vs.drop (off+xs.length)
theorem lM{α:Type}{vs:List α}{off:Nat}{xs:List α}(h:off+xs.length<=vs.length)(k:Nat):
 (hK vs off xs)[k]?=if k<off then vs[k]? else if k<off+xs.length then xs[k-off]? else vs[k]?:=by
 unfold hK;by_cases h1:k<off
 . grind
 grind
theorem mg{α:Type}{vs:List α}{off:Nat}{xs:List α}(h:off+xs.length<=vs.length):(hK vs off xs).length=vs.length:=by
 grind[hK]
theorem Sl{α:Type}{vs:List α}{off:Nat}{x:α}{xs:List α}(h:off+(x::xs).length<=vs.length):hK (vs.set off x) (off+1) xs=hK vs off (x::xs):=by
 apply s5
 grind[lM]
theorem RM{w:World}{b:Nat}{vs:List Value}{E:TypeId}(h:w.heap[b]?=some (.cells vs.toArray E (0,0)))(off:Nat)(v:Value):
 (w.setCell ⟨b,off,none⟩ v).heap[b]?=some (.cells (vs.set off v).toArray E (0,0))/\∀a,a≠b->(w.setCell ⟨b,off,none⟩ v).heap[a]?=w.heap[a]?:=by
 simp_all[World.setCell,Eo,cW]
theorem k1{b:Nat}{E:TypeId}:∀(xs:List Value) (off i:Nat) (vs:List Value) (w:World),w.heap[b]?=some (.cells vs.toArray E (0,0))->off+i+xs.length<=vs.length->(∀x,x∈xs->x.oneCell'=true)->
 ∃w',(storeCells ⟨b,off,none⟩ xs i).run P w= .ok () w'/\w'.os=w.os/\w'.tape=w.tape/\w'.output=w.output/\w'.heap.size=w.heap.size/\
  w'.heap[b]?=some (.cells (hK vs (off+i) xs).toArray E (0,0))/\∀a:Nat,a≠b->w'.heap[a]?=w.heap[a]?
 |[],off,i,vs,w,h,ad,d=>⟨w,rfl,rfl,rfl,rfl,rfl,by simp[hK,h],λ_ _=>rfl⟩
 |x::xs,off,i,vs,w,h,ad,d=>by
  have l:Addr.add ⟨b,off,none⟩ i=⟨b,off+i,none⟩:=by grind[Addr.add]
  have aI:off+i<vs.length:=by grind
  have m:w.cell? ⟨b,off+i,none⟩=some vs[off+i]:=by rw[hV h];simp
  have n:w.frozen? ⟨b,off+i,none⟩=false:=by grind[World.frozen?]
  have hs:=RM h (off+i) x;obtain⟨w',h1,e,f,g,bf,k,j⟩:=k1 xs off (i+1) _ _ hs.1 (by grind) (λy o=>d y (by grind));refine⟨w',?_,e,f,g,by simp_all,?_,λa c=>(j a c).trans (hs.2 a c)⟩
  . simp_all[storeCells,run_store]
  grind[Sl]
theorem aQ.fill{α c:Type}{R:α->c->Prop}{cs a:List α}{vs xs:List c}(h:aQ R cs vs)(k:aQ R a xs)(o:Nat):aQ R (cs.take o++a++cs.drop (o+a.length)) (hK vs o xs):=by
 rw[k.length];exact((h.take o).append k).append (h.drop _)
theorem Y6{α:Type}{vs xs:List α}{o L:Nat}(h:o+xs.length<=L)(a:L<=vs.length):(hK vs o xs).take L=hK (vs.take L) o xs:=by
 apply s5;intro i;rw[mF,lM (by omega),lM (by rw[ju];omega),mF]
 grind
theorem JX{cs a:List C}{o:Nat}(h:o+a.length<=cs.length):(cs.take o++a++cs.drop (o+a.length)).length=cs.length:=by
 simp;omega
theorem vm{cs:List C}{xs:List Value}(h:aQ (aX φ w S) cs xs):∀x,x∈xs->x.oneCell'=true:=by
 induction h with
 |nil=>simp
 |cons h _ ih=>
  intro x a;rcases fF.1 a with rfl|a
  . exact aX.iQ h
  grind
theorem cd.undef:cd φ w S (.aS []) undef:= .aS [] [] rfl (by simp)
theorem oO:∀{cs:List C} {ts:List T} {xs:List Value},toTs cs=some ts->aQ (aX φ w S) cs xs->aQ (b5 w S) ts xs
 |[],ts,xs,h,b=>by simp[toTs]at h;subst h;cases b;exact .nil
 |c::cs,ts,xs,h,b=>by
  simp[toTs,a6,bb]at h;obtain⟨t,ht,f,e,rfl⟩:=h;cases b with
  |cons h1 d=>
   refine .cons ?_ (oO e d);unfold toT at ht;split at ht<;>simp at ht
   . subst ht;exact h1
   . subst ht;obtain⟨a,rfl⟩:=h1;exact b5.slice [] a 0 0 0 0 (λ_ _=>undef) (by simp) (by simp) (by simp) (by simp) (by simp) (by simp)
theorem sd:∀{cs:List C} {ts:List T},toTs cs=some ts->ts.length=cs.length
 |[],ts,h=>by grind[toTs]
 |c::cs,ts,h=>by
  simp[toTs,a6,bb]at h;obtain⟨t,ht,b,a,rfl⟩:=h;simp[sd a]
theorem x6{n:Nat->Bool}{cs a:List C}(h:cs.all (C.aq n)=true)(k:a.all (C.aq n)=true)(o:Nat):(k5 cs o a).all (C.aq n)=true:=by
 grind[k5]
theorem vb{α:Type}{vs:List α}{p:Nat}{x:α}(h:p<vs.length)(q:Nat):(hK vs (p+0) [x])[q]?=if q=p then some x else vs[q]?:=by
 grind[lM]
theorem yr{sz i j a b:Nat}(d:j<sz)(e:b<sz)(h:i*sz+j=a*sz+b):i=a/\j=b:=by
 rcases Nat.lt_trichotomy i a with c|c|c
 . have:=et sz (show i+1<=a from c)
   grind
 . grind
 . have:=et sz (show a+1<=i from c)
   grind
theorem Rel.rewrite (R:Rel ao nt φ S env J n a w){b:Nat}{x q:bp}(g:aJ J b=some x)(h0:(φ b).2≠0)(G:q.aq n=true){w':World}
 (F:w'.os=w.os)(ht:w'.tape=w.tape)(E:w'.output=w.output)(hs:w'.heap.size=w.heap.size)(t:∀o:Nat,o≠(φ b).1->w'.heap[o]?=w.heap[o]?)
 (D:fw w S w' S->cD φ w' S b q):Rel ao nt φ S env (cn J b q) n a w':=by
 have v:=R.bm.blk b x g
 have A:=(R.del b).world _ F ht E (sX hs.symm) (λk _ c=>t k c) (λk c=>by
  subst c;refine⟨v.nW h0,λk y f c=>?_,R.own b x g h0⟩;rw[d']at f;split at f
  . grind
  . rename_i p
    exactλe=>R.bm.inj k b y x f g (cW p) c h0 e)
 have m:fw w S w' S:=⟨λ_ _ h=>h,λk j h=>nU (t k (λe=>v.nW h0 j (e▸h))) j⟩
 have B:=A.put (R.dp b x g).1 G (D m) (λ_=>⟨λk y f p c=>by
  rw[d']at f;split at f
  . grind
  . exact R.bm.inj k b y x f g p c h0,R.own b x g h0⟩)
 refine B.congr λk=>?_
 grind[cE,d']
theorem Yu (R:Rel ao nt φ S env J n a w){o:Oper}{ty:TypeId}{x y:Operand}(br:o.op= .store ty x y){k:Nat}(bq:dZ P ty=some k){aD aE:aL}(z:bn x=some aD)(W:bn y=some aE)
 {p v J'}(bo:n key=false)(h:aw (.store k aD aE) env J key=some (p,v,J'))(B:p):Good P ao nt env J' (ins n key) a v ((execOp a.eval o).run P w):=by
 simp only [aw,a6,cZ] at h;obtain ⟨⟨bv,bz⟩,M,⟨bw,bA⟩,N,cs,H,Q,he⟩:= h;simp only at he H;have T:∀ (blk off:Nat) (xs:List Value) (w':World),a.eval x = .pointer (some ⟨blk,off,none⟩)->(a.eval y).cells.toList = xs->xs.length = k->(storeCells ⟨blk,off,none⟩ xs 0).run P w = .ok () w'->
  (execOp a.eval o).run P w= .ok .skip w':=by
  intro blk off xs w' h1 aH bk bl;have bf:(a.eval y).cells.size=k:=by grind
  simp_all[execOp,Instr.storeAt,Instr.sureAddr,storeVar,jm]
 split at he
 . rename_i b f;split at he
   . rename_i aG g;simp only[cZ,cQ,c8]at he;obtain⟨ai,rfl,rfl,rfl⟩:=he;have h1:=(bT R z M B.1).1.hx;have q:=bT R W N B.2;obtain⟨l,r⟩:=lK q.1 H q.2;obtain⟨h0,vs,E,aa,L,G⟩:=R.bm.blk _ _ g;have aB:=L.length
     have A:(a.eval y).cells.toList.length=k:=by rw[<-l.length,Q]
     obtain⟨w',d,aZ,ba,bE,bU,cL,cM⟩:=k1 (P:=P) _ f 0 vs w aa (by omega) (vm l);refine⟨undef,φ,S,w',.inr ⟨T _ _ _ w' h1 rfl A d,rfl⟩,.undef,rfl,Rel.more ?_ λ_ h=>iK h⟩;refine R.rewrite g h0 (by simpa[bp.aq]using x6 ((R.dp _ _ g).2) r f) aZ ba bE bU cM (λm=>?_);refine⟨h0,_,E,cL,?_,G⟩
     exact(L.imp λc v D d=>aX.mono m (λ_ _=>rfl) (dW.1 (R.dp _ _ g).2 c D) d).fill (l.imp λc v D d=>aX.mono m (λ_ _=>rfl) (dW.1 r c D) d) f
   . rename_i E c0 g;split at he
     . rename_i c;simp only[cQ,c8]at he;obtain⟨rfl,rfl,rfl⟩:=he;have h1:=(bT R z M B.1).1.hx;have q:=bT R W N B.2;obtain⟨l,r⟩:=lK q.1 H q.2;obtain⟨h0,⟨aP,bj,aa,a9,bs⟩,G⟩:=R.bm.blk _ _ g;have A:(a.eval y).cells.toList.length=k:=by rw[<-l.length,Q]
       have ah:k=1:=by rw[<-Q];rfl
       obtain⟨u,V⟩:∃u,(a.eval y).cells.toList=[u]:=by
        match h:(a.eval y).cells.toList with
        |[u]=>exact⟨u,rfl⟩
        |[]=>rw[h]at A;simp at A;omega
        |_::_::_=>rw[h]at A;simp at A;omega
       obtain⟨w',d,aZ,ba,bE,bU,cL,cM⟩:=k1 (P:=P) (a.eval y).cells.toList 1 0 [aP,bj] w (b:=(φ b).1) (E:=E) aa (by rw[V];simp) (vm l);rw[V]at l cL;cases l with|cons ax _=>
       have K:c.aq n=true:=by simpa using r
       refine⟨undef,φ,S,w',.inr ⟨T _ _ _ w' h1 rfl A d,rfl⟩,.undef,rfl,Rel.more ?_ λ_ h=>iK h⟩;refine R.rewrite g h0 (by simpa[bp.aq]using K) aZ ba bE bU cM (λm=>?_);exact⟨h0,⟨aP,u,cL,a9,aX.mono m (λ_ _=>rfl) K ax⟩,G⟩
     . cases he
   grind
 . rename_i b sz i f;have aC:∀{c:C} {xs:List Value},aQ (aX φ w S) [c] xs->∃x,xs=[x]/\aX φ w S c x:=by
    intro c xs h;cases h with|cons h1 aH=>cases aH;grind
   split at he
   rotate_left
   . rename_i aG g;simp only[cZ,cQ,c8]at he;obtain⟨ai,rfl,rfl,rfl⟩:=he;have h1:=(bT R z M B.1).1.gK;have q:=bT R W N B.2;obtain⟨l,r⟩:=lK q.1 H q.2;obtain⟨h0,vs,E,aa,L,G⟩:=R.bm.blk _ _ g;have aB:=L.length
     have A:(a.eval y).cells.toList.length=k:=by rw[<-l.length,Q]
     obtain⟨w',d,aZ,ba,bE,bU,cL,cM⟩:=k1 (P:=P) _ (i*sz+f) 0 vs w aa (by omega) (vm l);refine⟨undef,φ,S,w',.inr ⟨T _ _ _ w' h1 rfl A d,rfl⟩,.undef,rfl,Rel.more ?_ λ_ h=>iK h⟩;refine R.rewrite g h0 (by simpa[bp.aq]using x6 ((R.dp _ _ g).2) r (i*sz+f)) aZ ba bE bU cM (λm=>?_);refine⟨h0,_,E,cL,?_,G⟩
     exact(L.imp λc v D d=>aX.mono m (λ_ _=>rfl) (dW.1 (R.dp _ _ g).2 c D) d).fill (l.imp λc v D d=>aX.mono m (λ_ _=>rfl) (dW.1 r c D) d) (i*sz+f)
   . rename_i bx aG g;simp only[cZ,cQ,c8]at he;obtain⟨ai,rfl,rfl,rfl⟩:=he;have h1:=(bT R z M B.1).1.gK;have q:=bT R W N B.2;obtain⟨l,r⟩:=lK q.1 H q.2;obtain⟨h0,vs,E,aa,⟨L,bc⟩,G⟩:=R.bm.blk _ _ g;have aB:=L.length;rw[ju]at aB
     have A:(a.eval y).cells.toList.length=k:=by rw[<-l.length,Q]
     obtain⟨w',d,aZ,ba,bE,bU,cL,cM⟩:=k1 (P:=P) _ (i*sz+f) 0 vs w aa (by omega) (vm l);refine⟨undef,φ,S,w',.inr ⟨T _ _ _ w' h1 rfl A d,rfl⟩,.undef,rfl,Rel.more ?_ λ_ h=>iK h⟩;refine R.rewrite g h0 (by simpa[bp.aq]using x6 ((R.dp _ _ g).2) r (i*sz+f)) aZ ba bE bU cM (λm=>?_)
     refine⟨h0,_,E,cL,⟨?_,by rw[mg (by omega)];exact bc⟩,G⟩;have aN:=(L.imp λc v D d=>aX.mono m (λ_ _=>rfl) (dW.1 (R.dp _ _ g).2 c D) d).fill (l.imp λc v D d=>aX.mono m (λ_ _=>rfl) (dW.1 r c D) d) (i*sz+f);rw[<-Y6 (by omega) (by omega)]at aN;unfold k5;rw[JX (by omega)];exact aN
   rotate_left
   rotate_left
   . rename_i bg es g;split at he
     . rename_i c a8;have ax:cs=[c]:=by
        unfold vB at a8
        grind
       subst ax;obtain⟨rfl,rfl,rfl⟩:=he;obtain⟨ae,af,rfl,hi,aM⟩:=B;have h1:=(bT R z M ae).1.gK;have q:=bT R W N af;obtain⟨l,r⟩:=lK q.1 H q.2;have ah:k=1:=by rw[<-Q];rfl
       obtain⟨u,V,U⟩:=aC l;have ak:=R.bm.blk _ _ g;obtain⟨h0,vs,E,xs,aa,ad,aW,A,av,ay,ai⟩:=GO ak hi;obtain⟨ap,aq,aj,ar,au⟩:=ak;obtain⟨bi,aR,al,a7,aA,G⟩:=au h0;rw[aa]at al;cases al;rw[gP]at ai;have O:i*sz+f<vs.length:=by omega
       obtain⟨w',d,aZ,ba,bE,bU,cL,cM⟩:=k1 (P:=P) [u] (i*sz+f) 0 vs w aa (by simp;omega) (λx z=>by rw[e7.1 z];exact aX.iQ U);refine⟨undef,φ,S,w',.inr ⟨T _ _ _ w' h1 V (by simp[ah]) d,rfl⟩,.undef,rfl,Rel.more ?_ λ_ h=>iK h⟩;have K:c.aq n=true:=by simpa using r
       refine R.rewrite g h0 (by simpa[bp.aq]using K) aZ ba bE bU cM (λm=>?_);refine⟨⟨ap,aq,aj,ar,hi,by omega⟩,⟨_,E,cL,by rw[mg (by simp;omega)];exact ad,λI j e t he ht Z=>?_,u,?_,aX.mono m (λ_ _=>rfl) K U⟩,G⟩
       . obtain⟨v,s,d⟩:=aA _ _ _ _ he ht;have F:j<sz:=by rw[<-aj _ (eU he)];exact(dO.1 ht).1
         rw[vb O,ag (λe=>Z (yr F (by omega) e))];exact⟨v,s,b5.mono m d⟩
       . rw[vb O,ab rfl]
     simp only[a6,cQ,c8]at he;obtain⟨ts,aO,rfl,rfl,rfl⟩:=he;obtain⟨ae,af,rfl,hi,aM⟩:=B;have h1:=(bT R z M ae).1.gK;have q:=bT R W N af;obtain⟨l,r⟩:=lK q.1 H q.2;have bb:=oO aO l;have bt:=sd aO;have ak:=R.bm.blk _ _ g
     obtain⟨h0,vs,E,xs,aa,ad,aW,A,av,ay,ai⟩:=GO ak hi;obtain⟨ap,aq,aj,ar,au⟩:=ak;obtain⟨bi,aR,al,a7,aA,G⟩:=au h0;rw[aa]at al;cases al;rw[gP]at ai;have be:(a.eval y).cells.toList.length=k:=by rw[<-l.length,Q]
     obtain⟨w',d,aZ,ba,bE,bU,cL,cM⟩:=k1 (P:=P) _ (i*sz+f) 0 vs w aa (by omega) (vm l);have a':=d;refine⟨undef,φ,S,w',.inr ⟨T _ _ _ w' h1 rfl be a',rfl⟩,.undef,rfl,Rel.more ?_ λ_ h=>iK h⟩;refine R.rewrite g h0 rfl aZ ba bE bU cM (λm=>?_)
     refine⟨by simpa using ap,by simpa using aq,?_,ar,λ_=>⟨_,E,cL,by rw[mg (by omega)];exact ad,?_,G⟩⟩
     . intro e he;rcases AY he with he|rfl
       . exact aj e he
       . simp;omega
     . intro I j e t he ht;rw[q8,lM (by omega)];rw[AK]at he;by_cases Y:i=I
       . subst Y;rw[ab rfl,ab hi]at he;cases he;have a0:=(dO.1 ht).1;simp at a0;have F:j<sz:=by omega
         have X:=(lM (vs:=el es i) (off:=f) (xs:=ts) (by omega) j)
         unfold hK at X;rw[show f+ts.length=f+k by omega]at X;rw[X]at ht;by_cases c1:j<f
         . rw[ab c1]at ht;rw[ab (by omega),ay j F];obtain⟨v,s,d⟩:=av.get ht;exact⟨v,s,b5.mono m d⟩
         . rw[ag c1]at ht;rw[ag (by omega)];by_cases c2:j<f+k
           . rw[ab (by omega)]at ht;rw[ab (by omega),show i*sz+j-(i*sz+f)=j-f by omega];obtain⟨v,s,d⟩:=bb.get ht;exact⟨v,s,b5.mono m d⟩
           . rw[ag (by omega)]at ht;rw[ag (by omega),ay j F];obtain⟨v,s,d⟩:=av.get ht;exact⟨v,s,b5.mono m d⟩
       . rw[ag Y]at he;obtain⟨v,s,d⟩:=aA _ _ _ _ he ht;have F:j<sz:=by rw[<-aj _ (eU he)];exact(dO.1 ht).1
         have:I*sz+j<i*sz+f\/i*sz+f+k<=I*sz+j:=by
          rcases Nat.lt_or_gt_of_ne Y with h|h
          . right;have:=et sz (show i+1<=I from h)
            grind
          . left;have:=et sz (show I+1<=i from h)
            grind
         rcases this with h|h
         . rw[ab h];exact⟨v,s,b5.mono m d⟩
         . rw[ag (by omega),ag (by omega)];exact⟨v,s,b5.mono m d⟩
   . rename_i bg es i2 bu c0 g;obtain⟨⟨a1,a2,a3,a4,a5,am⟩,⟨vs,E,b1,b2,an,aU,aS,aT⟩,aF⟩:=R.bm.blk _ _ g;have aI:c0.aq n=true:=by simpa[bp.aq]using(R.dp _ _ g).2
     have h0:(φ b).2≠0:=by omega
     split at he
     . rename_i c;have ah:k=1:=by rw[<-Q];rfl
       split at he
       . rename_i az;subst az;obtain⟨rfl,rfl,rfl⟩:=he;obtain⟨ae,af,rfl,rfl⟩:=B;have h1:=(bT R z M ae).1.gK;have q:=bT R W N af;obtain⟨l,r⟩:=lK q.1 H q.2;obtain⟨u,V,U⟩:=aC l;have O:i*sz+f<vs.length:=by
          rw[b2];have:=et sz (show i+1<=(φ b).2 by omega);rw[gP]at this;omega
         obtain⟨w',d,aZ,ba,bE,bU,cL,cM⟩:=k1 (P:=P) [u] (i*sz+f) 0 vs w b1 (by simp;omega) (λx z=>by rw[e7.1 z];exact aX.iQ U);refine⟨undef,φ,S,w',.inr ⟨T _ _ _ w' h1 V (by simp[ah]) d,rfl⟩,.undef,rfl,Rel.more ?_ λ_ h=>iK h⟩;have K:c.aq n=true:=by simpa using r
         refine R.rewrite g h0 (by simpa[bp.aq]using K) aZ ba bE bU cM (λm=>?_);refine⟨⟨a1,a2,a3,a4,a5,am⟩,⟨_,E,cL,by rw[mg (by simp;omega)];exact b2,λI j e t he ht Z=>?_,u,?_,aX.mono m (λ_ _=>rfl) K U⟩,aF⟩
         . obtain⟨v,s,d⟩:=an _ _ _ _ he ht Z;have F:j<sz:=by rw[<-a3 _ (eU he)];exact(dO.1 ht).1
           rw[vb O,ag (λe=>Z (yr F am e))];exact⟨v,s,b5.mono m d⟩
         . rw[vb O,ab rfl]
       . rename_i az;simp only[a6,cQ,c8]at he;obtain⟨t,aV,rfl,rfl,rfl⟩:=he;obtain⟨ae,af,rfl,hi,aM⟩:=B;have h1:=(bT R z M ae).1.gK;have q:=bT R W N af;obtain⟨l,r⟩:=lK q.1 H q.2;obtain⟨u,V,U⟩:=aC l;have bd:b5 w S t u:=by
          have h1:=oO (cs:=[c]) (ts:=[t]) (xs:=[u]) (by simp[toTs,aV]) (.cons U .nil);cases h1 with|cons h _=>grind
         have O:i*sz+f<vs.length:=by
          have:=et sz (show i+1<=(φ b).2 by omega);rw[gP]at this;omega
         obtain⟨w',d,aZ,ba,bE,bU,cL,cM⟩:=k1 (P:=P) [u] (i*sz+f) 0 vs w b1 (by simp;omega) (λx z=>by rw[e7.1 z];exact aX.iQ U);refine⟨undef,φ,S,w',.inr ⟨T _ _ _ w' h1 V (by simp[ah]) d,rfl⟩,.undef,rfl,Rel.more ?_ λ_ h=>iK h⟩;refine R.rewrite g h0 (by simpa[bp.aq]using aI) aZ ba bE bU cM (λm=>?_)
         have aJ:es[i]?=some (el es i):=by unfold el;rw[List.getD,eu hi];rfl
         have aY:(el es i).length=sz:=a3 _ (eU aJ);refine⟨⟨by grind,by simpa using a2,λe he=>?_,a4,by simpa using a5,am⟩,⟨_,E,cL,by rw[mg (by simp;omega)];exact b2,λI j e bh he ht Z=>?_,aU,?_,aX.mono m (λ_ _=>rfl) aI aT⟩,aF⟩
         . rcases AY he with he|rfl
           . exact a3 e he
           . simp;omega
         . rw[vb O];rw[AK]at he;by_cases Y:i=I
           . subst Y;rw[ab rfl,ab hi]at he;cases he;have X:=(lM (vs:=el es i) (off:=f) (xs:=[t]) (by simp;omega) j)
             unfold hK at X;rw[show f+[t].length=f+k by simp[ah]]at X;rw[X]at ht;by_cases c1:j=f
             . subst c1;rw[ag (by omega),ab (by omega),Nat.sub_self]at ht;cases ht;rw[ab rfl];exact⟨u,rfl,b5.mono m bd⟩
             . have aK:(el es i)[j]?=some bh:=by
                by_cases c2:j<f
                . rwa [ab c2]at ht
                . rwa [ag c2,ag (by omega)]at ht
               have F:j<sz:=by rw[<-aY];exact(dO.1 aK).1
               obtain⟨v,s,d⟩:=an _ _ _ _ aJ aK Z;rw[ag (λe=>c1 (yr F (by omega) e).2)];exact⟨v,s,b5.mono m d⟩
           . rw[ag Y]at he;obtain⟨v,s,d⟩:=an _ _ _ _ he ht Z;have F:j<sz:=by rw[<-a3 _ (eU he)];exact(dO.1 ht).1
             rw[ag (λe=>Y (yr F (by omega) e).1.symm)];exact⟨v,s,b5.mono m d⟩
         . rw[vb O,ag (λe=>az (yr am (by omega) e).2.symm)];exact aS
     . cases he
   . cases he
 . cases he
end
end
section
open Go
variable [da]
section
variable {P:Program}{ao:Ctx}{nt:Nat}{φ:db}{S:dj}{env:Env}{J:aF}{n:Nat->Bool}{key:Nat}{a:Act}{w:World}
theorem Sm:∀(xs:List Value) (k off:Nat) (cs:Array Value),off+k+xs.length<=cs.size->
 (((xs.zipIdx k).foldl (λcs (c,j)=>cs.setIfInBounds (off+j) c) cs):Array Value).toList=hK cs.toList (off+k) xs
 |[],k,off,cs,h=>by simp[hK]
 |x::xs,k,off,cs,h=>by
  rw[List.zipIdx_cons,List.foldl_cons,Sm xs _ _ _ (by grind)]
  grind[Sl]
theorem G'{place:Nat->Option (Nat×Nat)}{a:Array Value}{i:Nat}{v:Value}{r:List (Nat×Value)}{off sz:Nat}(b:place i=some (off,sz))(h1:v.cells.size=sz)(c:off+sz<=a.size):
 Instr.fill place a ((i,v)::r)=Instr.fill place (hK a.toList off v.cells.toList).toArray r:=by
 simp only[Instr.fill,b];rw[ag (by grind)]
 congr 1
 have:=Sm v.cells.toList 0 off a (by grind);rw[<-Array.foldl_toList]
 grind
theorem RN {fs:Array Field}{place:Nat->Option (Nat×Nat)}(R:Rel ao nt φ S env J n a w)
 (o:∀(j:Nat) f k,fs[j]?=some f->dZ P f.type=some k->place j=some (f.offset,k)):
 ∀{parts:List (Nat×Operand)} {ps:List (Nat×Nat×aL)} {cs:List C} {vs:List Value} {p:Prop} {b:List C},uJ P fs parts=some ps->iI env cs ps=some (p,b)->p->
  aQ (aX φ w S) cs vs->cs.all (C.aq n)=true->
  ∃us:List Value,Instr.fill place vs.toArray (parts.map λ(i,x)=>(i,a.eval x))=some us.toArray/\aQ (aX φ w S) b us/\b.all (C.aq n)=true
 |[],ps,cs,vs,p,b,g,d,e,c,l=>by
  grind[uJ,iI,Instr.fill]
 |(j,x)::r,ps,cs,vs,p,b,g,d,e,c,l=>by
  simp[uJ,a6,bb]at g;obtain⟨f,y,k,z,E,D,L,A,rfl⟩:=g;simp only[iI,a6,cZ,bb]at d;obtain⟨⟨q,v⟩,aj,es,u,⟨h1,G⟩,⟨M,F⟩,t,rfl,rfl⟩:=d;have m:=bT R D aj e.1;obtain⟨s,B⟩:=lK m.1 u m.2;have ad:=c.length
  have K:=s.length;obtain⟨us,H,I,bf⟩:=RN R o A t e.2 (by exact c.fill s _) (x6 l B _);simp;rw[G' (o j f k y z) (by grind) (by grind)]
  grind
theorem E7{place:Nat->Option (Nat×Nat)}{m:Nat}(R:Rel ao nt φ S env J n a w)(l:∀j,place j=some (j*m,m)):
 ∀{parts:List (Nat×Operand)} {ps:List (Nat×Nat×aL)} {cs:List C} {vs:List Value} {p:Prop} {b:List C},qy m parts=some ps->iI env cs ps=some (p,b)->p->
  aQ (aX φ w S) cs vs->cs.all (C.aq n)=true->
  ∃us:List Value,Instr.fill place vs.toArray (parts.map λ(i,x)=>(i,a.eval x))=some us.toArray/\aQ (aX φ w S) b us/\b.all (C.aq n)=true
 |[],ps,cs,vs,p,b,f,d,e,c,g=>by
  grind[qy,iI,Instr.fill]
 |(j,x)::r,ps,cs,vs,p,b,f,d,e,c,g=>by
  simp[qy,a6,bb]at f;obtain⟨A,z,H,u,rfl⟩:=f;simp only[iI,a6,cZ,bb]at d;obtain⟨⟨q,v⟩,aj,es,t,⟨h1,D⟩,⟨I,B⟩,s,rfl,rfl⟩:=d;have k:=bT R z aj e.1;obtain⟨o,y⟩:=lK k.1 t k.2;have ad:=c.length;have G:=o.length
  obtain⟨us,E,F,bf⟩:=E7 R l u s e.2 (by exact c.fill o _) (x6 g y _);simp;rw[G' (l j) (by grind) (by grind)]
  grind
theorem Y7{fs:List Field}(h:∀f,f∈fs->∃k,dZ P f.type=some k):
 ∃ps:List (Nat×Nat),(fs.mapM λf=>do pure (f.offset,<-sizeOf f.type):Sem (List (Nat×Nat))).run P w= .ok ps w/\ps.length=fs.length/\∀(j:Nat) f k,fs[j]?=some f->dZ P f.type=some k->ps[j]?=some (f.offset,k):=by
 induction fs with
 |nil=>simp
 |cons f fs ih=>
  obtain⟨ps,h1,ad,a⟩:=ih λf b=>h f (by grind)
  obtain⟨k,c⟩:=h f (by simp);refine⟨(f.offset,k)::ps,?_,by grind,?_⟩
  . simp_all[jm]
  grind
theorem Yv (R:Rel ao nt φ S env J n a w){o:Oper}{ty:TypeId}{parts:Array (Nat×Operand)}(l:o.op= .build ty parts){fs:Array Field}(s:P.underlying ty=some (.struct fs))(A:Gq P fs=true)
 {z:List C}(t:iT P ty=some z){ps:List (Nat×Nat×aL)}(r:uJ P fs parts.toList=some ps)
 {p v J'}(g:n key=false)(h:aw (.build z ps) env J key=some (p,v,J'))(m:p):Good P ao nt env J' (ins n key) a v ((execOp a.eval o).run P w):=by
 simp only[aw,bb]at h;obtain⟨⟨q,u⟩,d,rfl,rfl,rfl⟩:=h;obtain⟨i,H,hi,G,c,e⟩:=qR t
 obtain⟨pl,B,E,F⟩:=Y7 (P:=P) (w:=w) (fs:=fs.toList) (by
  grind[Gq,Option.isSome_iff_exists])
 have D:(fs.mapM λf=>do pure (f.offset,<-sizeOf f.type):Sem _).run P w= .ok pl.toArray w:=by
  simp_all[Array.mapM_eq_mapM_toList]
 obtain⟨us,h1,b,x⟩:=RN (place:=(pl.toArray[·]?)) R (λj f k y g=>by grind) r d m c e;refine Good.pure R ?_ (.agg b) (by grind[V.aq]);simp only[execOp,l,Instr.build,zeroValue,typeInfo,Sem.run_bind,run_program,Result.andThen_ok,Sem.run_pure,underlying,s];simp_all
theorem We (R:Rel ao nt φ S env J n a w){o:Oper}{ty:TypeId}{parts:Array (Nat×Operand)}(l:o.op= .build ty parts){len:Nat}{e:TypeId}(t:P.underlying ty=some (.array len e)){m:Nat}(k:dZ P e=some m)
 {z:List C}(u:iT P ty=some z){ps:List (Nat×Nat×aL)}(s:qy m parts.toList=some ps)
 {p v J'}(E:n key=false)(h:aw (.build z ps) env J key=some (p,v,J'))(r:p):Good P ao nt env J' (ins n key) a v ((execOp a.eval o).run P w):=by
 simp only[aw,bb]at h;obtain⟨⟨q,B⟩,f,rfl,rfl,rfl⟩:=h;obtain⟨i,A,hi,y,d,g⟩:=qR u;obtain⟨us,h1,c,D⟩:=E7 R (λj=>rfl) s f r d g;refine Good.pure R ?_ (.agg c) (by grind[V.aq]);have b:Instr.fill (λi=>some (i*m,m)) A.cells ((parts.map λ(i,x)=>(i,a.eval x)).toList)=some us.toArray:=by simp_all
 simp at b;simp[execOp,l,Instr.build,zeroValue,typeInfo,hi,y,underlying,t,jm k,b]
def ie(w:World)(S:dj)(sz:Nat)(es:List (List T))(vs:List Value):Prop:=
 ∀(i j:Nat) e t,es[i]?=some e->e[j]?=some t->∃v,vs[i*sz+j]?=some v/\b5 w S t v
theorem Gf{sz:Nat}(R:Rel ao nt φ S env J n a w)(h0:0<sz):
 ∀{parts:List (Nat×Operand)} {ps:List (Nat×aL)} {es:List (List T)} {vs:List Value} {p:Prop} {b:List (List T)},oU parts=some ps->iJ env sz es ps=some (p,b)->p->
  (∀e,e∈es->e.length=sz)->vs.length=es.length*sz->ie w S sz es vs->
  ∃us:List Value,Instr.fill (λi=>some (i*sz,sz)) vs.toArray (parts.map λ(i,x)=>(i,a.eval x))=some us.toArray/\(∀e,e∈b->e.length=sz)/\b.length=es.length/\us.length=vs.length/\ie w S sz b us/\(∀y,y∈us->y∈us)
 |[],ps,es,vs,p,b,g,c,f,u,ad,k=>by
  grind[oU,iJ,Instr.fill]
 |(i0,x)::r,ps,es,vs,p,b,g,c,f,u,ad,k=>by
  simp[oU,a6,bb]at g;obtain⟨H,G,Q,D,rfl⟩:=g;simp only[iJ,a6,cZ,bb]at c;obtain⟨⟨q,v⟩,aj,cs,C,ts,E,⟨h1,l⟩,⟨U,I⟩,B,rfl,rfl⟩:=c;have m:=bT R G aj f.1;obtain⟨F,O⟩:=lK m.1 C m.2;have s:=oO E F
  have P:=s.length;have N:i0*sz+sz<=vs.length:=by
   have:=et sz (show i0+1<=es.length from l)
   grind
  obtain ⟨us,K,z,bf,L,A,M⟩:= Gf R h0 D B f.2 (vs:= hK vs (i0*sz) (a.eval x).cells.toList) (by
   grind) (by grind[mg]) (by
   intro i j e t he ht;rw[lM (by omega)];rw[AK]at he;by_cases d:i0=i
   . subst d;rw[ab rfl,ab l]at he;cases he;have o:=(dO.1 ht).1;rw[ag (by simp),ab (by omega),show i0*sz+j-i0*sz=j by simp];exact s.get ht
   . rw[ag d]at he;have o:=(dO.1 ht).1;rw[u _ (eU he)]at o;rcases Nat.lt_or_gt_of_ne d with h|h
     . have:=et sz (show i0+1<=i from h);rw[gP]at this;rw[ag (by omega),ag (by omega)];exact k _ _ _ _ he ht
     . have:=et sz (show i+1<=i0 from h);rw[gP]at this;rw[ab (by omega)]
       exact k _ _ _ _ he ht)
  refine⟨us,?_,z,by grind,by grind[mg],A,λ_ h=>h⟩;simp only[je];rw[G' rfl (by grind) (by grind)]
  grind
theorem Cs{z:Array Value}{sz len:Nat}(b:z.size=sz)(h0:0<sz)(i j:Nat)(hi:i<len)(a:j<sz):
 ((Array.range (len*sz)).map (z[· % z.size]!))[i*sz+j]?=z[j]?:=by
 have aI:i*sz+j<len*sz:=by
  have:=et sz (show i+1<=len from hi)
  grind
 simp_all[n0]
theorem E8 {ty:TypeId}{len:Nat}{parts:Array (Nat×Value)}{e:TypeId}(g:P.underlying ty=some (.slice e)){sz:Nat}(f:dZ P e=some sz){i:TypeInfo}{a:Value}(hi:P.info? e=some i)(o:i.zero=some a)
 (h0:sz≠0)(n:len*sz<=2^24){b:Array Value}(k:b=(Array.range (len*sz)).map (a.cells[· % a.cells.size]!)){us:List Value}(c:Instr.fill (λi=>some (i*sz,sz)) b parts.toList=some us.toArray):
 (Instr.buildSlice ty len parts).run P w= .ok (.slice (some ⟨w.heap.size,0,none⟩) len len) (w.alloc (.cells us.toArray e)):=by
 have d:¬(len*sz>2^24):=by omega
 have m:∀w,(zeroValue e).run P w= .ok a w:=by simp_all[zeroValue,typeInfo]
 by_cases ad:len*sz=0
 . have l:b=#[]:=by grind
   subst l;have j:(Array.map (λx=>(#[]:Array Value)[x%(#[]:Array Value).size]!) (Array.range (len*sz)))=#[]:=by grind
   unfold Instr.buildSlice;simp only[Sem.run_bind,run_underlying g,Result.andThen_ok,jm f,ag d,ab ad,Sem.run_pure,j,c];rfl
 . unfold Instr.buildSlice;subst k;simp only[Sem.run_bind,run_underlying g,Result.andThen_ok,jm f,ag d,ag ad,Sem.run_pure,m,c];rfl
theorem Xb (R:Rel ao nt φ S env J n a w){o:Oper}{ty:TypeId}{len:Nat}{parts:Array (Nat×Operand)}(Z:o.op= .buildSlice ty len parts){e:TypeId}(ab:P.underlying ty=some (.slice e)){sz:Nat}(aa:dZ P e=some sz)
 {z:List C}(K:iT P e=some z){ps:List (Nat×aL)}(F:oU parts.toList=some ps)(h0:sz≠0)(L:z.length=sz)(X:len*sz<=2^24)
 {p v J'}(D:n key=false)(h:aw (.bslice sz len z ps) env J key=some (p,v,J'))(E:p):Good P ao nt env J' (ins n key) a v ((execOp a.eval o).run P w):=by
 simp only[aw,a6,bb]at h;obtain⟨g,O,⟨q,s⟩,B,rfl,rfl,rfl⟩:=h;obtain⟨i,d,hi,ag,f,U⟩:=qR (φ:=φ) (w:=w) (S:=S) (n:=n) K;have N:=oO O f;have M:d.cells.size=sz:=by rw[<-vy,<-f.length,L]
 have b:0<sz:=by omega
 have af:g.length=sz:=by grind[sd]
 obtain ⟨us,h1,u,A,T,bf,_⟩:= Gf R b F B E (vs:= ((Array.range (len*sz)).map _).toList) (by
  grind) (by simp) (by
  intro i j e t he ht;have hi:=(dO.1 he).1;simp at hi;have:e=g:=by
   grind
  subst this;have W:=(dO.1 ht).1;obtain⟨x,ae,G⟩:=N.get ht;rw[yn,Cs M b i j hi (by omega)]
  grind)
 simp at A;have H:us.length=len*sz:=by grind
 have l:=R.alloc (.cells us.toArray e);have m:=R.pC (.cells us.toArray e);have Y:len<=dd:=by
  have:=En len b
  grind[dd]
 have r:=l.hL D (x:= .arr sz s) (w.heap.size,len) rfl (by
  simp only[cD,cS];refine⟨by omega,by omega,u,b,λ_=>⟨us,e,j9,H,λi j e t he ht=>?_,λj h=>?_⟩⟩
  . obtain⟨v,ad,G⟩:=bf i j e t he ht
    grind[b5.mono]
  . have:=R.bm.st _ _ h
    omega) (λ_=>⟨λk y I h0=>by
     have:=(R.bm.blk k y I).h7 h0
     grind,.inr R.ext.size⟩)
 refine⟨.slice (some ⟨w.heap.size,0,none⟩) len len,_,S,_,.inl ?_,.c ⟨some ⟨w.heap.size,0,none⟩,by simp[cS],by simp[cS],by simp[cS]⟩,by simp[V.aq,C.aq,ins],r⟩;have Q:Instr.fill (λi=>some (i*sz,sz)) ((Array.range (len*sz)).map (d.cells[· % d.cells.size]!)) ((parts.map λ(i,x)=>(i,a.eval x)).toList)=some us.toArray:=by
  rw[Eu];omega
 simp_all[E8,execOp,Sem.run_bind,Result.andThen_ok]
end
end
section
open Go
variable [da]
section
variable {P:Program}{ao:Ctx}{nt:Nat}{φ:db}{S:dj}{env:Env}{J:aF}{n:Nat->Bool}{key:Nat}{a:Act}{w:World}
theorem JY(a:Nat):∀(r c:Nat),c<=2*a+192->Builtin.growBy a r c<=2*a+192
 |0,c,h=>h
 |r+1,c,h=>by
  unfold Builtin.growBy;split
  . grind
  . exact JY _ r _ (by omega)
theorem Wo{a b:Nat}(h:b<a):Builtin.nextslicecap a b<=2*a+192:=by
 grind[Builtin.nextslicecap,JY]
theorem I1(a:Nat):∀(r c:Nat),c<=a+a/4+512->Builtin.growBy a r c<=a+a/4+512
 |0,c,h=>h
 |r+1,c,h=>by
  unfold Builtin.growBy;split
  . grind
  . exact I1 _ r _ (by omega)
theorem WR{a b:Nat}(h:b<a):Builtin.nextslicecap a b<=a+a/4+512:=by
 grind[Builtin.nextslicecap,I1]
theorem gv.not{e f bytes:Nat}(h:f<e)(c:gv e bytes):¬(Builtin.nextslicecap e f*bytes>2^48):=by
 have a:=et bytes (Wo h);have b:=et bytes (WR h);rcases c with c|c<;>unfold gr at c<;>omega
theorem Yw{α:Type}{p:α->Prop}{l m:List α}(h:∀x,x∈l->p x)(k:∀x,x∈m->p x):∀x,x∈l++m->p x:=by grind
def rm(P:Program)(w:World)(S:dj)(sz:Nat)(v:Value)(a:List (List T))(b:Option Nat):Prop:=
 (Builtin.lenOf v).run P w= .ok a.length w/\∃xs:List Value,(Builtin.firstCells sz a.length v).run P w= .ok xs.toArray w/\xs.length=a.length*sz/\ie w S sz a xs/\∀x,x∈xs->x.oneCell'=true
theorem I2{sz k len:Nat}(h0:0<sz)(a:k<len*sz):k/sz<len/\k%sz<sz/\(k/sz)*sz+k%sz=k:=
 ⟨Nat.div_lt_of_lt_mul (by grind),Nat.mod_lt _ h0,by grind[Nat.div_add_mod]⟩
theorem ie.one{sz:Nat}{a:List (List T)}{xs:List Value}(h0:0<sz)(c:∀e,e∈a->e.length=sz)(ad:xs.length=a.length*sz)(h:ie w S sz a xs):∀x,x∈xs->x.oneCell'=true:=by
 intro x f;obtain⟨k,p,q⟩:=jd f;obtain⟨h1,g,j⟩:=I2 h0 (by rw[<-ad];omega);have he:=eu h1;have o:=c _ (AL h1);have ht:(a[k/sz])[k%sz]?=some _:=eu (by omega);obtain⟨v,y,t⟩:=h _ _ _ _ he ht
 grind[b5.iQ]
theorem ug{b o m:Nat}{xs:List Value}(ad:xs.length=m)(h:∀j,j<m->w.cell? ⟨b,o+j,none⟩=xs[j]?):(loadCells ⟨b,o,none⟩ m).run P w= .ok xs.toArray w:=by
 grind[run_loadCells_list,Addr.add]
theorem Y8{sz:Nat}(h0:0<sz){d:List (List T)}{v:Value}(s:b5 w S (.slice d) v)(n:∀e,e∈d->e.length=sz):rm P w S sz v d none:=by
 obtain⟨a,cap,c,b,o,f,rfl,x,z,B,p,u,A⟩:=b5.jw s;refine⟨by rfl,?_⟩;by_cases g:d=[]
 . subst g;refine⟨[],?_,by simp,by intro i j e t he;grind,by simp⟩;cases a with
   |none=>rfl
   |some a=>simp[Builtin.firstCells,loadCells,loadCellsFrom]
 . have r:c=sz:=by
    obtain⟨bM,y⟩:=AX d g
    grind
   subst r;rw[p g];have l:((List.range (d.length*c)).map λk=>f (k/c) (k%c)).length=d.length*c:=by simp
   have m:ie w S c d ((List.range (d.length*c)).map λk=>f (k/c) (k%c)):=by
    intro i j e t he ht;have hi:=(dO.1 he).1;have q:=(dO.1 ht).1;rw[n _ (eU he)]at q;have aI:i*c+j<d.length*c:=by
     have:=et c (show i+1<=d.length from hi)
     grind
    simp_all[Nat.add_comm,Nat.add_mul_div_right,Nat.div_eq_of_lt,n0]
   refine⟨_,?_,l,m,ie.one h0 n l m⟩;refine ug l ?_
   grind[I2]
theorem Y9{sz:Nat}{v:Value}(b:aX φ w S .bC v):rm P w S sz v [] none:=by
 obtain⟨a,rfl⟩:=b;refine⟨by rfl,[],?_,by simp,by intro i j e t he;grind,by simp⟩;cases a with
 |none=>rfl
 |some a=>simp[Builtin.firstCells,loadCells,loadCellsFrom]
theorem JZ{sz b:Nat}{c:List (List T)}{v:Value}(cA:cD φ w S b (.arr sz c))(n:aX φ w S (.arr b sz 0 c.length) v):rm P w S sz v c (some b):=by
 obtain⟨a,rfl,l,p⟩:=aX.fH n;obtain⟨h1,o,g,k,bf⟩:=cA;refine⟨by rfl,?_⟩;by_cases h0:(φ b).2=0
 . have:c=[]:=k9 (by omega);subst this;refine⟨[],?_,by simp,by intro i j e t he;grind,by simp⟩;cases a with
   |none=>rfl
   |some a=>simp[Builtin.firstCells,loadCells,loadCellsFrom]
 . obtain⟨vs,E,aa,ad,r,_⟩:=bf h0;rw[l h0];have q:c.length*sz<=vs.length:=by simp_all[et]
   have d:(vs.take (c.length*sz)).length=c.length*sz:=by grind
   have f:ie w S sz c (vs.take (c.length*sz)):=by
    intro i j e t he ht;have hi:=(dO.1 he).1;have aI:i*sz+j<c.length*sz:=by
     have:=et sz (show i+1<=c.length from hi)
     grind
    grind
   refine⟨_,?_,d,f,ie.one k g d f⟩;rw[vq];refine ug d ?_;intro j m;rw[fp,hV aa,mF,ab m]
theorem rm.world{sz:Nat}{v:Value}{a:List (List T)}{b:Option Nat}(h:rm P w S sz v a b){m:Nat}:∃xs:List Value,xs.length=a.length*sz/\ie w S sz a xs/\(∀x,x∈xs->x.oneCell'=true):=by
 obtain⟨_,xs,_,h1,c,e⟩:=h;grind
theorem R8(z:Array Value)(m:Nat):(Builtin.zeroCells z m).size=m*z.size:=by simp[Builtin.zeroCells]
theorem xl {st yt e v:TypeId}{i:TypeInfo}{c:Value}(o:P.underlying st=some (.slice e))(t:P.underlying yt=some (.slice v))(hi:P.info? e=some i)(B:i.zero=some c)(C:c.cells.size=i.size)
 {base:Option Addr}{sl sc a:Nat}{y:Value}{xs d:List Value}(s:(Builtin.lenOf y).run P w= .ok a w)
 (p:(Builtin.firstCells i.size sl (.slice base sl sc)).run P w.drew= .ok xs.toArray w.drew)(q:(Builtin.firstCells i.size a y).run P w.drew= .ok d.toArray w.drew)
 (m:sc<sl+a)(j:gv (sl+a) i.bytes)(z:sl+a<=dd){tt:TypeId}:
 ∃(b:Nat) (r:List Value),sl+a<=b/\r.length=(b-(sl+a))*i.size/\
  (Builtin.append_ #[st,yt] tt #[.slice base sl sc,y]).run P w= .ok (.slice (some ⟨w.heap.size,0,none⟩) (sl+a) b) (w.drew.alloc (.cells (xs++d++r).toArray e)):=by
 have n:∀w,(sizeOf e).run P w= .ok i.size w:=λw=>by simp[sizeOf,typeInfo,hi]
 have f:∀w,(typeInfo e).run P w= .ok i w:=λw=>by simp[typeInfo,hi]
 have u:∀w,(zeroValue e).run P w= .ok c w:=λw=>by simp_all[zeroValue]
 generalize A:(Question.appendCap (sl+a) sc e).cut (w.tape w.drawn (Question.appendCap (sl+a) sc e))=b;have l:sl+a<=b:=by grind[Question.cut]
 have h1:¬(sl+a<=sc):=by omega
 have x:¬(sl+a>IntKind.i64.max/\(False\/i.bytes=0)):=by grind[IntKind.max,IntKind.bits,dd]
 have g:=by
  exact j.not m
 refine⟨b,(Builtin.zeroCells c.cells (b-(sl+a))).toList,l,by grind[R8],?_⟩;have k:(choose (.appendCap (sl+a) sc e)).run P w= .ok b w.drew:=by simp_all[Question.forced]
 have az:(xs++d++(Builtin.zeroCells c.cells (b-(sl+a))).toList).toArray=xs.toArray++d.toArray++Builtin.zeroCells c.cells (b-(sl+a)):=by simp
 rw[az];unfold Builtin.append_;simp only[AE,AB,ym,Sem.run_bind,run_underlying o,run_underlying t,Result.andThen_ok,n,Sem.run_pure,cN,cv,s,ag h1,f];rw[ag (by grind)];simp only[Sem.run_bind,Result.andThen_ok,f];rw[ag g]
 simp only[Sem.run_bind,Result.andThen_ok,f,k,run_askRoom,p,q,u,fM,cw];rfl
theorem sF {st yt e k:TypeId}{i:TypeInfo}(f:P.underlying st=some (.slice e))(j:P.underlying yt=some (.slice k))(hi:P.info? e=some i)
 {base:Option Addr}{sl sc a:Nat}{y:Value}{c:List Value}(g:(Builtin.lenOf y).run P w= .ok a w)(n:(Builtin.firstCells i.size a y).run P w= .ok c.toArray w)(m:sl+a<=sc){w':World}
 (hs:∀b,base=some b->(storeCells (b.add (sl*i.size)) c 0).run P w= .ok () w') (l:base=none->w'=w) {tt:TypeId}:
  (Builtin.append_ #[st,yt] tt #[.slice base sl sc,y]).run P w= .ok (.slice base (sl+a) sc) w':=by
 have d:∀w,(sizeOf e).run P w= .ok i.size w:=λw=>by simp[sizeOf,typeInfo,hi]
 unfold Builtin.append_;simp only[AE,AB,ym,Sem.run_bind,run_underlying f,run_underlying j,Result.andThen_ok,d,Sem.run_pure,cN,cv,g];cases base<;>simp_all
theorem ie.append {sz:Nat}{es a:List (List T)}{xs f r:List Value}(h0:0<sz)(p:∀e,e∈es->e.length=sz)(v:∀e,e∈a->e.length=sz)(y:xs.length=es.length*sz)(A:f.length=a.length*sz)
 (h1:ie w S sz es xs)(g:ie w S sz a f):ie w S sz (es++a) (xs++f++r):=by
 intro i j e t he ht;by_cases hi:i<es.length
 . rw[vw hi]at he;have c:=(dO.1 ht).1;rw[p _ (eU he)]at c;have:=et sz (show i+1<=es.length from hi);rw[gP]at this;rw[jV,vw (by omega)];exact h1 _ _ _ _ he ht
 . rw[yk (by omega)]at he;have c:=(dO.1 ht).1;rw[v _ (eU he)]at c;have q:=(dO.1 he).1;have x:=et sz (show es.length<=i by omega);have o:=et sz (show(i-es.length)+1<=a.length from q)
   have bf:(i-es.length)*sz=i*sz-es.length*sz:=Nat.sub_mul _ _ _;rw[gP]at o;rw[jV,yk (by omega),vw (by omega),show i*sz+j-xs.length=(i-es.length)*sz+j by omega];exact g _ _ _ _ he ht
theorem Rel.drew(R:Rel ao nt φ S env J n a w):Rel ao nt φ S env J n a w.drew:=
 R.world (λ_=>False) rfl rfl rfl (eJ _) (λ_ _ _=>rfl) (λ_ h=>h.elim)
theorem vc (R:Rel ao nt φ S env J n a w){y:Operand}{f:aL}(u:bn y=some f){p:Prop}{v:V}(aj:f.get env=some (p,v))(q:p){sz:Nat}(h0:0<sz){d:List (List T)×Option Nat}
 (h:ia J v=some d)(m:∀e,e∈d.1->e.length=sz):rm P w S sz (a.eval y) d.1 d.2:=by
 have c:=(bT R u aj q).1;unfold ia at h;split at h
 . cases h;exact Y8 h0 c.dF m
 . cases h;exact Y9 c.dF
 . split at h
   . rename_i b x B A _ C z g;simp at h;obtain⟨⟨h1,rfl,rfl⟩,rfl⟩:=h;subst h1;by_cases l:z=[]
     . subst l;obtain⟨o,s,_⟩:=aX.fH c.dF;rw[s];refine⟨by rfl,[],?_,by simp,by intro i j e t he;grind,by simp⟩;cases o with
       |none=>rfl
       |some a=>simp[Builtin.firstCells,loadCells,loadCellsFrom]
     . have r:x=sz:=by
        obtain⟨bM,k⟩:=AX _ l;rw[<-(R.bm.blk _ _ g).2.2.1 _ k,m _ k]
       subst r;exact JZ (R.bm.blk _ _ g) c.dF
   grind
 grind
theorem ZN{sz b off len:Nat}{es:List (List T)}{v:Value}(cA:cD φ w S b (.arr sz es))(o:aX φ w S (.fq b sz off len) v)(q:off+len<=es.length):rm P w S sz v ((es.drop off).take len) none:=by
 obtain⟨a,cap,rfl,l,r⟩:=o;obtain⟨h1,p,g,k,bf⟩:=cA;have f:((es.drop off).take len).length=len:=by grind
 refine⟨by simp[Builtin.lenOf,f],?_⟩;rw[f];by_cases h0:len=0
 . subst h0;refine⟨[],?_,by simp,by intro i j e t he;grind,by simp⟩;cases a with
   |none=>rfl
   |some a=>simp[Builtin.firstCells,loadCells,loadCellsFrom]
 . obtain⟨vs,E,aa,ad,u,_⟩:=bf (by omega);rw[l h0];have s:off*sz+len*sz<=vs.length:=by rw[ad,<-gP];exact et _ (by omega)
   have d:((vs.drop (off*sz)).take (len*sz)).length=len*sz:=by grind
   have n:∀e,e∈(es.drop off).take len->e.length=sz:=λe he=>g e (yp (pG he))
   have c:ie w S sz ((es.drop off).take len) ((vs.drop (off*sz)).take (len*sz)):=by
    intro i j e t he ht;have hi:i<len:=by grind
    have aI:i*sz+j<len*sz:=by
     have:=et sz (show i+1<=len from hi)
     grind
    grind
   refine⟨_,?_,d,c,ie.one k n (by grind) c⟩;refine ug d ?_;intro j m;rw[hV aa,mF,ab m,Et]
theorem Y' (R:Rel ao nt φ S env J n a w){o:Oper}{x y:Operand}{st yt e aP:TypeId}(aE:o.op= .call {callee:= .builtin .append,args:=#[x,y],argTypes:=#[st,yt]})
 (ae:P.underlying st=some (.slice e))(ah:P.underlying yt=some (.slice aP)){i:TypeInfo}(hi:P.info? e=some i)(a1:i.size≠0)
 {O Q:aL}(aJ:bn x=some O)(f:bn y=some Q){ai aj:Prop}{ak al:V}(aw:O.get env=some (ai,ak))(ax:Q.get env=some (aj,al)){r}
 {p v J'}(B:jy ak al=some r)(g:n key=false)(h:tI J key i.size ai aj r=some (p,v,J'))(aF:p):Good P ao nt env J' (ins n key) a v ((execOp a.eval o).run P w):=by
 have Z:∀r w',(Builtin.append_ #[st,yt] o.type #[a.eval x,a.eval y]).run P w= .ok r w'->(execOp a.eval o).run P w= .ok (.value r) w':=by
  intro r w' d;simp[execOp,aE,Go.resolve,invoke,builtin,d]
 unfold jy at B;split at B
 . rename_i b s1 off len aQ a2 F s;split at B
   . rename_i au;subst au;cases B;unfold tI at h;dsimp only at h;split at h
     . rename_i a3 es u;obtain⟨rfl,rfl,rfl⟩:=h;obtain⟨aG,aH,rfl,rfl,rfl,rfl,aW,aC⟩:=aF;have av:=bT R aJ aw aG;obtain⟨base,D,ar,aY⟩:=aX.fH av.1.dF;have ay:=bT R f ax aH;have z:=R.bm.blk _ _ u;obtain⟨K,N,L,M,aN,aM⟩:=ZN (P:=P) z ay.1.dF aC;obtain⟨aR,aS,aT,aU,aq⟩:=z
       have aK:((es.drop F).take s).length=s:=by simp;omega
       rw[aK]at K L M;rw[Nat.sub_zero]at D;have A:len+s<=(φ b).2:=by omega
       have h0:0<i.size:=by omega
       have G:(es.take len++(es.drop F).take s).length=len+s:=by grind
       have Y:∀T,T∈es.take len++(es.drop F).take s->T.length=i.size:=by
        grind
       by_cases l:(φ b).2=0
       . have aA:len=0:=by omega
         have aB:s=0:=by omega
         subst aA aB;have aO:N=[]:=k9 (by grind);subst aO;have d:=sF (tt:=o.type) ae ah hi (base:=base) (sl:=0) (sc:=(φ b).2) K L A (w':=w) (λap _=>by simp[storeCells]) (λ_=>rfl);rw[<-D]at d
         have R':=(R.del b).hL g (x:= .arr i.size (es.take 0++(es.drop F).take 0)) (0,0) rfl (by simp only[cD,cS];exact⟨by simp,by simp,by simp,h0,by simp⟩) (by simp);refine⟨_,_,S,w,.inl (Z _ _ d),.c ?_,by simp[V.aq,C.aq,ins],R'⟩;exact⟨base,by simp[cS,l,D],by simp[cS],by simp[cS]⟩
       . obtain⟨vs,E,aa,af,aI,aD⟩:=aq l;have z:=R.bm.blk _ _ u;have X:len*i.size+N.length<=vs.length:=by rw[M,af,<-gP];exact et _ A
         obtain⟨w',a0,aZ,ba,bE,bU,cL,cM⟩:=k1 (P:=P) N (len*i.size) 0 vs w aa (by omega) aM;rw[q8]at cL;have W:=ar l
         have d:=sF (tt:=o.type) ae ah hi (base:=base) (sl:=len) (sc:=(φ b).2) K L A (w':=w') (λap aV=>by
          grind[Addr.add]) (λU=>by rw[W]at U;cases U)
         rw[<-D]at d
         have am:=(R.del b).world (w':=w') (λk=>k=(φ b).1) aZ ba bE (sX bU.symm) (λk _ g=>cM k g) (λk g=>by
          subst g;refine⟨z.nW l,λk y f g=>?_,R.own b _ u l⟩;rw[d']at f;split at f
          . cases f
          . rename_i H
            exactλe=>R.bm.inj k b y _ f u (cW H) g l e)
         have m:fw w S w' S:=⟨λ_ _ h=>h,λk j h=>nU (cM k (λe=>z.nW l j (e▸h))) j⟩
         have an:=am.hL g (x:= .arr i.size _) (φ b) rfl (by
          simp only[cD,cS];refine⟨by rw[G];exact A,by rw[G];omega,Y,h0,λ_=>⟨_,E,cL,by rw[mg X];exact af,λq j e t he ht=>?_,aD⟩⟩;have az:=(dO.1 ht).1;rw[Y _ (eU he)]at az;rw[lM X,M];by_cases c1:q<len
          . have:=et i.size (show q+1<=len from c1);rw[gP]at this;rw[ab (by omega)];rw[vw (by simp;omega),mF,ab c1]at he;obtain⟨v,I,d⟩:=aI _ _ _ _ he ht;exact⟨v,I,b5.mono m d⟩
          . have h1:=et i.size (show len<=q by omega);have c2:q<len+s:=by rw[<-G];exact(dO.1 he).1
            have:=et i.size (show q+1<=len+s from c2);rw[gP,gP]at this;rw[ag (by omega),ab (by omega)];have ad:(es.take len).length=len:=by simp;omega
            rw[yk (by omega),ad]at he;have bf:(q-len)*i.size=q*i.size-len*i.size:=Nat.sub_mul _ _ _;obtain⟨v,I,d⟩:=aN _ _ _ _ he ht;rw[show q*i.size+j-len*i.size=(q-len)*i.size+j by omega]
            exact⟨v,I,b5.mono m d⟩) (λ_=>⟨λk y f g=>by
            rw[d']at f;split at f
            . cases f
            . rename_i H
              exact R.bm.inj k b y _ f u (cW H) g l,R.own b _ u l⟩)
         refine⟨_,_,S,w',.inl (Z _ _ d),.c ?_,by simp[V.aq,C.aq,ins],an⟩;exact⟨base,by simp[cS],by simp[cS,W],by simp[cS];omega⟩
     grind
   grind
 grind
theorem Xc (R:Rel ao nt φ S env J n a w){o:Oper}{x y:Operand}{st yt e a7:TypeId}(a3:o.op= .call {callee:= .builtin .append,args:=#[x,y],argTypes:=#[st,yt]})
 (W:P.underlying st=some (.slice e))(X:P.underlying yt=some (.slice a7)){i:TypeInfo}(hi:P.info? e=some i)(bh:i.size≠0)(aO:(i.zero.map (·.cells.size))=some i.size)
 {ak aC:aL}(av:bn x=some ak)(f:bn y=some aC)
 {p v J'}(g:n key=false)(h:aw (.append e i.size i.bytes ak aC) env J key=some (p,v,J'))(a1:∀q b l,ak.get env≠some (q,.c (.cr b l)))(aI:p):Good P ao nt env J' (ins n key) a v ((execOp a.eval o).run P w):=by
 simp only[aw,a6]at h;obtain⟨⟨bj,bp⟩,Z,⟨bk,bq⟩,ad,he⟩:=h;split at he
 . grind[Y']
 rename_i bi;simp only[a6]at he;obtain⟨A,ah,he⟩:=he;simp only[bb]at aO;obtain⟨br,aQ,aP⟩:=aO;have h0:0<i.size:=by omega
 have U:∀r w',(Builtin.append_ #[st,yt] o.type #[a.eval x,a.eval y]).run P w= .ok r w'->(execOp a.eval o).run P w= .ok (.value r) w':=by
  intro r w' d;simp[execOp,a3,Go.resolve,invoke,builtin,d]
 have aH:∀b,w.heap.size<=b->∀j,¬S b j:=λb ap j ay=>by have:=R.bm.st _ _ ay;omega
 split at he
 ·
  obtain⟨rfl,rfl,rfl⟩:=he;obtain⟨ae,T,F,aE,au⟩:=aI;obtain⟨base,K⟩:=(bT R av Z ae).1.dF;have cp:=vc (P:=P) R f ad T h0 ah F;by_cases I:A.1=[]
  . obtain⟨D,B,G,s,O,ai⟩:=cp;rw[I]at D G s;have az:B=[]:=k9 (by simpa using s);subst az;have d:=sF (tt:=o.type) W X hi (base:=base) (sl:=0) (sc:=0) D G (by simp) (w':=w) (λaB _=>by simp[storeCells]) (λ_=>rfl);rw[<-K]at d
    have R':=R.hL g (x:= .arr i.size A.1) (0,0) rfl (by rw[I];simp only[cD,cS];exact⟨by simp,by simp,by simp,h0,by simp⟩) (by simp);refine⟨_,_,S,w,.inl (U _ _ d),.c ?_,by simp[V.aq,C.aq,ins],R'⟩;rw[I];exact⟨base,by simp[cS],by simp[cS],by simp[cS]⟩
  . have z:=R.drew;obtain⟨D,_⟩:=cp;obtain⟨_,B,G,s,O,ai⟩:=vc (P:=P) z f ad T h0 ah F;have be:0<A.1.length:=vz.2 I;have af:(Builtin.firstCells i.size 0 (.slice base 0 0)).run P w.drew= .ok ([]:List Value).toArray w.drew:=by
     cases base with
     |none=>rfl
     |some a=>simp[Builtin.firstCells,loadCells,loadCellsFrom]
    obtain⟨aA,r,h1,am,d⟩:=xl (tt:=o.type) W X hi aQ aP D af G (by omega) (by grind) (by grind);rw[<-K]at d;have Q:=z.alloc (.cells ([]++B++r).toArray e);have m:=z.pC (.cells ([]++B++r).toArray e)
    have aj:=Q.hL g (x:= .arr i.size A.1) (w.heap.size,aA) rfl (by
     simp only[cD,cS];refine⟨by omega,au,F,h0,λ_=>⟨_,e,j9,?_,?_,aH _ (eJ _)⟩⟩
     . simp only[dP,km,s,am,fp,<-gP];congr 1;omega
     . have:=ie.append (S:=S) (w:=w.drew) (r:=r) (es:=[]) (xs:=[]) h0 (by simp) F (by simp) s (by intro i j e t he;simp at he) O;intro u j L t he ht;obtain⟨v,M,d⟩:=this u j L t (by simpa using he) ht
       exact⟨v,M,b5.mono m d⟩) (λ_=>⟨λk y f h0=>by
        have:=(R.bm.blk k y f).h7 h0
        omega,.inr R.ext.size⟩)
    refine⟨_,_,S,_,.inl (U _ _ d),.c ?_,by simp[V.aq,C.aq,ins],aj⟩;exact⟨some ⟨w.heap.size,0,none⟩,by simp[cS],by simp[cS],by simp[cS];omega⟩
 . rename_i b bl off len;split at he
   . rename_i bo es N;split at he
     . grind
     . obtain⟨rfl,rfl,rfl⟩:=he;obtain⟨ae,T,rfl,rfl,rfl,rfl,F,aE,au⟩:=aI;have aW:=bT R av Z ae;have aU:=aW.1.dF;obtain⟨base,K,aV,a0⟩:=aX.fH aU;have cp:=vc (P:=P) R f ad T h0 ah F;have an:=R.bm.blk _ _ N;have aT:=an;obtain⟨a8,a9,al,a',aR⟩:=aT;rw[Nat.sub_zero]at K;rw[fp]at a0
       have aK:∀L,L∈es++A.1->L.length=i.size:=Yw al F;by_cases aJ:es.length+A.1.length<=(φ b).2
       . obtain⟨D,B,G,s,O,ai⟩:=cp;by_cases H:(φ b).2=0
         . have aq:es=[]:=k9 (by omega);have ax:A.1=[]:=k9 (by omega);rw[ax]at D G s;have az:B=[]:=k9 (by simpa using s);subst az
           have d:=sF (tt:=o.type) W X hi (base:=base) (sl:=es.length) (sc:=(φ b).2) D G (by simp[aq]) (w':=w) (λaB _=>by simp[storeCells]) (λ_=>rfl);rw[<-K]at d;have R':=(R.del b).hL g (x:= .arr i.size (es++A.1)) (0,0) rfl (by rw[ax,aq];simp only[cD,cS];exact⟨by simp,by simp,by simp,h0,by simp⟩) (by simp)
           refine⟨_,_,S,w,.inl (U _ _ d),.c ?_,by simp[V.aq,C.aq,ins],R'⟩;rw[ax,aq];exact⟨base,by simp[cS,H],by simp[cS],by simp[cS]⟩
         . obtain⟨vs,E,aa,aM,a4,a2⟩:=aR H;have aF:es.length*i.size+B.length<=vs.length:=by rw[s,aM,<-gP];exact et _ aJ
           obtain⟨w',bg,aZ,ba,bE,bU,cL,cM⟩:=k1 (P:=P) B (es.length*i.size) 0 vs w aa (by omega) ai;rw[q8]at cL;have Y:=aV H;rw[vq]at Y
           have d:=sF (tt:=o.type) W X hi (base:=base) (sl:=es.length) (sc:=(φ b).2) D G aJ (w':=w') (λaB aD=>by
            rw[Y]at aD;cases aD;have bd:Addr.add ⟨(φ b).1,0,none⟩ (es.length*i.size)=⟨(φ b).1,es.length*i.size,none⟩:=by unfold Addr.add;split<;>simp_all
            grind) (λap=>by rw[Y]at ap;cases ap)
           rw[<-K]at d
           have z:=(R.del b).world (w':=w') (λk=>k=(φ b).1) aZ ba bE (sX bU.symm) (λk _ g=>cM k g) (λk g=>by
            subst g;refine⟨an.nW H,λk y f g=>?_,R.own b _ N H⟩;rw[d']at f;split at f
            . cases f
            . rename_i I
              exactλe=>R.bm.inj k b y _ f N (cW I) g H e)
           have m:fw w S w' S:=⟨λ_ _ h=>h,λk j h=>nU (cM k (λe=>an.nW H j (e▸h))) j⟩
           have Q:=z.hL g (x:= .arr i.size (es++A.1)) (φ b) rfl (by
            simp only[cD,cS];refine⟨by simp;omega,by simp;omega,aK,h0,λ_=>⟨_,E,cL,by rw[mg aF];exact aM,?_,a2⟩⟩;intro u j L t he ht;rw[lM aF];by_cases aG:u<es.length
            . rw[vw aG]at he;have ar:=(dO.1 ht).1;rw[al _ (eU he)]at ar;have:=et i.size (show u+1<=es.length from aG);rw[gP]at this;rw[ab (by omega)];obtain⟨v,M,d⟩:=a4 _ _ _ _ he ht;exact⟨v,M,b5.mono m d⟩
            . rw[yk (by omega)]at he;have ar:=(dO.1 ht).1;rw[F _ (eU he)]at ar;have aY:=(dO.1 he).1;have bc:=et i.size (show es.length<=u by omega);have aS:=et i.size (show(u-es.length)+1<=A.1.length from aY)
              have bf:(u-es.length)*i.size=u*i.size-es.length*i.size:=Nat.sub_mul _ _ _;rw[gP]at aS;rw[ag (by omega),ab (by omega),show u*i.size+j-es.length*i.size=(u-es.length)*i.size+j by omega];obtain⟨v,M,d⟩:=O _ _ _ _ he ht
              exact⟨v,M,b5.mono m d⟩) (λ_=>⟨λk y f g=>by
              rw[d']at f;split at f
              . cases f
              . rename_i I
                exact R.bm.inj k b y _ f N (cW I) g H,R.own b _ N H⟩)
           refine⟨_,_,S,w',.inl (U _ _ d),.c ?_,by simp[V.aq,C.aq,ins],Q⟩;exact⟨base,by simp[cS],by simp[cS,Y],by simp[cS];omega⟩
       . have z:=R.drew;obtain⟨D,_⟩:=cp;obtain⟨_,B,G,s,O,ai⟩:=vc (P:=P) z f ad T h0 ah F;obtain⟨_,xs,af,aN,a5,_⟩:=JZ (P:=P) (z.bm.blk _ _ N) (bT z av Z ae).1.dF;rw[K]at af;obtain⟨aA,r,h1,am,d⟩:=xl (tt:=o.type) W X hi aQ aP D af G (by omega) aE au;rw[<-K]at d
         have Q:=(z.del b).alloc (.cells (xs++B++r).toArray e);have m:=z.pC (.cells (xs++B++r).toArray e)
         have aj:=Q.hL g (x:= .arr i.size (es++A.1)) (w.heap.size,aA) rfl (by
          simp only[cD,cS];refine⟨by simp;omega,by simp;omega,aK,h0,λ_=>⟨_,e,j9,?_,?_,aH _ (eJ _)⟩⟩
          . simp only[dP,aN,s,am,<-gP];congr 1;omega
          . have:=ie.append (S:=S) (w:=w.drew) (r:=r) h0 al F aN s a5 O;intro u j L t he ht;obtain⟨v,M,d⟩:=this u j L t he ht
            exact⟨v,M,b5.mono m d⟩) (λ_=>⟨λk y f h0=>by
             rw[d']at f;split at f
             . cases f
             . have:=(R.bm.blk k y f).h7 h0
               omega,.inr R.ext.size⟩)
         refine⟨_,_,S,_,.inl (U _ _ d),.c ?_,by simp[V.aq,C.aq,ins],aj⟩;exact⟨some ⟨w.heap.size,0,none⟩,by simp[cS],by simp[cS],by simp[cS];omega⟩
   grind
 . exact absurd Z (a1 _ _ _)
 grind
end
end
section
open Go
variable [da]
section
variable {P:Program}{ao:Ctx}{nt:Nat}{φ:db}{S:dj}{env:Env}{J:aF}{n:Nat->Bool}{key:Nat}{a:Act}{w:World}
theorem Xd{R:T->Value->Prop}:∀{ts:List T} {vs:List Value},aQ R ts vs->∀(i j:Nat) e t,(ts.map λt=>[t])[i]?=some e->e[j]?=some t->∃v,vs[i*1+j]?=some v/\R t v:=by
 intro ts vs h i j e t he ht;rw[nY,bb]at he;obtain⟨t0,h0,rfl⟩:=he;cases j with
 |zero=>
  obtain⟨v,b,a⟩:=h.get h0
  grind
 |succ j=>grind
theorem Xe (R:Rel ao nt φ S env J n a w){o:Oper}{ty:TypeId}(B:o.op= .alloc ty){cs:List C}(f:iT P ty=some cs)(A:cs.length≠0)(u:cs.length<=2^24)
 {p v J'}(q:n key=false)(h:aw (.allocA cs) env J key=some (p,v,J'))(D:p):Good P ao nt env J' (ins n key) a v ((execOp a.eval o).run P w):=by
 simp only[aw,bb]at h;obtain⟨ts,d,rfl,rfl,rfl⟩:=h;obtain⟨i,z,hi,f,b,s⟩:=qR (φ:=φ) (w:=w) (S:=S) (n:=n) f;have G:=oO d b;have E:=sd d;have g:=R.alloc (.cells z.cells.toList.toArray ty);have m:=R.pC (.cells z.cells.toList.toArray ty);have F:=b.length.symm
 have l:=g.hL q (x:= .arr 1 (ts.map λt=>[t])) (w.heap.size,cs.length) rfl (by
  simp only[cD,cS,kn];refine⟨by omega,by grind[dd],?_,by simp,λ_=>⟨z.cells.toList,ty,j9,by omega,λi j e t he ht=>?_,λj h=>?_⟩⟩
  . simp
  . grind[Xd,b5.mono]
  . have:=R.bm.st _ _ h
    omega) (λ_=>⟨λk y r h0=>by
     have:=(R.bm.blk k y r).h7 h0
     grind,.inr R.ext.size⟩)
 refine⟨.pointer (some ⟨w.heap.size,0,none⟩),_,S,_,.inl ?_,.c ?_,by simp[V.aq,C.aq,ins],l⟩
 . simp_all[execOp,Instr.alloc,zeroValue,typeInfo,newVar,newRow]
 grind[aX,cS]
theorem Za (R:Rel ao nt φ S env J n a w){o:Oper}{ty:TypeId}{x i:Operand}(t:o.op= .indexAddr ty x i){k:Nat}{e:TypeId}(B:P.underlying ty=some (.array k e))(A:dZ P e=some 1)
 {f d:aL}(D:bn x=some f)(hi:bn i=some d)
 {p v J'}(E:n key=false)(h:aw (.idxP k f d) env J key=some (p,v,J'))(u:p):Good P ao nt env J' (ins n key) a v ((execOp a.eval o).run P w):=by
 simp only[aw,a6]at h;obtain⟨⟨H,K⟩,r,⟨G,I⟩,q,he⟩:=h;simp at he;split at he
 . rename_i b kk m;obtain⟨rfl,rfl,rfl⟩:=he;obtain⟨y,z,s,F⟩:=u;have aj:=bT R D r y;have h1:=aj.1.hx;have g:=(bT R hi q z).1.eR;have j:Addr.add ⟨(φ b).1,0,none⟩ (m.toNat*1)=⟨(φ b).1,m.toNat*1+0,none⟩:=by
    grind[Addr.add]
   refine Good.pure R (x:= .pointer (some ⟨(φ b).1,m.toNat*1+0,none⟩)) ?_ (.c ?_) (by grind[V.aq,C.aq])
   . have l:0<=m/\m<k:=⟨s,by omega⟩
     simp only[execOp,t,h1,g,Instr.indexAt,asIntOf,Instr.sureAddr,Sem.run_bind,run_underlying B,Result.andThen_ok,Sem.run_pure,ab l,jm A,j]
   rfl
 grind
theorem Zb (R:Rel ao nt φ S env J n a w){o:Oper}{ty:TypeId}{x:Operand}{i:IntKind}{m:Int}(t:o.op= .indexAddr ty x (.const (.int i m))){k:Nat}{e:TypeId}(y:P.underlying ty=some (.array k e))
 (h0:0<=m/\m.toNat<k){s:Nat}(hs:dZ P e=some s){g:aL}(z:bn x=some g)
 {p v J'}(A:n key=false)(h:aw (.fldA (m.toNat*s) g) env J key=some (p,v,J'))(u:p):Good P ao nt env J' (ins n key) a v ((execOp a.eval o).run P w):=by
 simp only[aw,a6]at h;obtain⟨⟨B,C⟩,r,he⟩:=h;simp at he;have j:a.eval (.const _)= .int i m:=rfl;have q:0<=m/\m<(k:Int):=⟨h0.1,by omega⟩
 have d:∀(b off:Nat),a.eval x= .pointer (some ⟨b,off,none⟩)->(execOp a.eval o).run P w= .ok (.value (.pointer (some ⟨b,off+m.toNat*s,none⟩))) w:=by
  intro b off e;have l:Addr.add ⟨b,off,none⟩ (m.toNat*s)=⟨b,off+m.toNat*s,none⟩:=by
   grind[Addr.add]
  simp only[execOp,t,e,j,Instr.indexAt,asIntOf,Instr.sureAddr,Sem.run_bind,run_underlying y,Result.andThen_ok,Sem.run_pure,ab q,jm hs,l]
 split at he<;>simp only[cQ,reduceCtorEq]at he
 all_goals
  obtain⟨rfl,rfl,rfl⟩:=he;have aj:=bT R z r u;have h1:=aj.1.dF
 . exact Good.pure R (d _ _ h1) (.c rfl) aj.2
 . exact Good.pure R (d _ _ h1) (.c (by simp[aX,Nat.add_assoc])) aj.2
 . obtain⟨blk,off,f,h1,aa⟩:=h1;exact Good.pure R (d _ _ h1) (.c ⟨blk,off,f,by grind,aa⟩) aj.2
theorem Zc (R:Rel ao nt φ S env J n a w){o:Oper}{ty:TypeId}{x:Operand}{lo hi:Option Operand}(y:o.op= .slice ty x lo hi none){k:Nat}{e:TypeId}(F:P.underlying ty=some (.array k e))(E:dZ P e=some 1)
 {g:aL}{f d:Option aL}(G:bn x=some g)(u:jX lo=some f)(t:jX hi=some d)
 {p v J'}(N:n key=false)(h:aw (.slcP k g f d) env J key=some (p,v,J'))(z:p):Good P ao nt env J' (ins n key) a v ((execOp a.eval o).run P w):=by
 simp only[aw,a6]at h;obtain⟨⟨T,U⟩,s,⟨pl,l⟩,r,⟨Q,h⟩,q,he⟩:=h;simp at he;split at he
 . rename_i b;obtain⟨rfl,rfl,rfl⟩:=he;obtain⟨A,B,D,h0,h1,i⟩:=z;have aj:=bT R G s A;have I:=aj.1.hx;have ad:=qU R u r B;have aa:=qU R t q D;have m:=B0 (P:=P) (w:=w) (isSlice:=false) ad aa h0 h1 i (eJ _);generalize M:(l.getD 0).toNat=L at*;generalize K:(h.getD _).toNat=H at*
   have j:Addr.add ⟨(φ b).1,0,none⟩ (L*1)=⟨(φ b).1,L*1,none⟩:=by
    unfold Addr.add;split
    . grind
    . simp
   refine Good.pure R (x:= .slice (some (if k=L then⟨(φ b).1,0,none⟩else(Addr.add ⟨(φ b).1,0,none⟩ (L*1)))) _ (k-L)) ?_ (.c ⟨_,_,rfl,?_,by omega⟩) (by simpa[V.aq,C.aq]using aj.2)
   . simp[execOp,y,Instr.sliceAt,Instr.sureAddr,underlying,F,I,m,jm E]
   . intro O;rw[ag (by omega),j]
 grind
theorem Zd{es:List (List T)}{s:List UInt8}(a:bytesOf es=some s):∀{xs:List Value},(∀(i:Nat) t,es[i]?=some [t]->∃v,xs[i]?=some v/\b5 w S t v)->xs.length=es.length->
 ∃aG:List Int,xs=aG.map (Value.int .u8)/\s=aG.map λm=>UInt8.ofNat m.toNat:=by
 induction es generalizing s with
 |nil=>simp_all[bytesOf]
 |cons e es ih=>
  intro xs b ad;unfold bytesOf at a;split at a
  . grind
  . rename_i m r d;cases d;simp at a;obtain⟨j,g,rfl⟩:=a;cases xs with
    |nil=>grind
    |cons x xs=>
     obtain⟨v,c,f⟩:=b 0 _ rfl;simp at c;subst c;cases f;obtain⟨aG,rfl,rfl⟩:=ih g (λi t hi=>by simpa using b (i+1) t (by grind)) (by grind);exact⟨m::aG,rfl,rfl⟩
  grind
theorem Ze(aG:List Int):∀(s:ByteArray),(aG.foldl (λr m=>r.push (UInt8.ofNat m.toNat)) s).data.toList=s.data.toList++aG.map λm=>UInt8.ofNat m.toNat:=by
 induction aG<;>simp_all
theorem Tl{es:List (List T)}{s:List UInt8}(a:bytesOf es=some s):∀(i:Nat) e,es[i]?=some e->∃t,e=[t]:=by
 induction es generalizing s with
 |nil=>simp
 |cons bM es ih=>
  unfold bytesOf at a
  grind[bb]
theorem C5 {g c e:TypeId}(hs:P.underlying g=some (.slice e))(he:P.underlying e=some (.int .u8))(k:P.underlying c=some .string){es:List (List T)}{str:List UInt8}{a:Option Addr}{len cap b off:Nat}
 (ad:es.length=len)(f:bytesOf es=some str)(q:len≠0->a=some ⟨b,off,none⟩)(r:∀(i:Nat) t,es[i]?=some [t]->∃v,w.cell? ⟨b,off+i,none⟩=some v/\b5 w S t v):
 ∃bs:ByteArray,(convert g c (.slice a len cap)).run P w= .ok (.string bs) w/\bs.data.toList=str:=by
 rw[run_convert_bytes_string w _ _ e a _ _ hs he k];by_cases h0:len=0
 . have m:es=[]:=k9 (by omega);subst m;simp[bytesOf]at f;cases a with
   |none=>simp_all[Conv.bytesToString]
   |some a0=>
    simp_all[run_bytesToString,loadCells,loadCellsFrom]
 . have s:∀i,i<len->∃t v,es[i]?=some [t]/\w.cell? ⟨b,off+i,none⟩=some v/\b5 w S t v:=by
    intro i hi;have h1:=eu (l:=es) (i:=i) (by omega)
    grind[Tl]
   have aj:∀i,i<len->((List.range len).map λi=>(w.cell? ⟨b,off+i,none⟩).getD undef)[i]?=w.cell? ⟨b,off+i,none⟩:=by grind
   obtain⟨aG,h1,o⟩:=Zd (w:=w) (S:=S) f (xs:=(List.range len).map λi=>(w.cell? ⟨b,off+i,none⟩).getD undef) (λi t hi=>by grind) (by grind);have d:=ug (P:=P) (by simp) (λj n=>(aj j n).symm);rw[h1]at d;have p:=run_bytesToString w _ _ cap aG d;simp_all[Ze]
theorem E9:∀{es:List (List T)} {s:List UInt8},bytesOf es=some s->s.length=es.length
 |[],s,h=>by grind[bytesOf]
 |e::es,s,h=>by
  unfold bytesOf at h;split at h
  . grind
  . rename_i m r a;cases a;simp at h;obtain⟨c,b,rfl⟩:=h;simp[E9 b]
  grind
theorem ZO (R:Rel ao nt φ S env J n a w){o:Oper}{z m e:TypeId}{x:Operand}(ab:o.op= .convert z m x)(hs:P.underlying z=some (.slice e))(he:P.underlying e=some (.int .u8))(r:P.underlying m=some .string){C:aL}(U:bn x=some C)
 {p v J'}(Y:n key=false)(h:aw (.b2s C) env J key=some (p,v,J'))(N:p):Good P ao nt env J' (ins n key) a v ((execOp a.eval o).run P w):=by
 simp only[aw,a6,bb,c8]at h;obtain⟨⟨ak,al⟩,G,⟨q,str⟩,g,rfl,rfl,rfl⟩:=h;obtain⟨O,u⟩:=N;have aj:=bT R U G O
 suffices aa:∃d len cap,a.eval x= .slice d len cap/\str.length<=dd/\∃bs:ByteArray,(convert z m (.slice d len cap)).run P w= .ok (.string bs) w/\bs.data.toList=str by
  obtain⟨d,len,cap,h1,D,bs,I,F⟩:=aa;have M:bs.size<=dK:=by grind[uf,dd,dK]
  refine Good.pure R (x:= .string bs) ?_ (.c ?_) rfl
  . simp_all[execOp]
  . rw[<-F];exact .str bs M
 have y:∀ (b off len:Nat) (es:List (List T)) (d:Option Addr) (cap:Nat),aJ J b = some (.arr 1 es)->off+len<=es.length->bytesOf ((es.drop off).take len) = some str->(len≠0->d = some ⟨(φ b).1,off*1,none⟩)->((φ b).2≠0\/len = 0)->a.eval x = .slice d len cap->
  ∃d len cap,a.eval x= .slice d len cap/\str.length<=dd/\∃bs:ByteArray,(convert z m (.slice d len cap)).run P w= .ok (.string bs) w/\bs.data.toList=str:=by
  intro b off len es d cap L H j K h0 B;obtain⟨h1,D,I,F,bf⟩:=R.bm.blk b _ L;have ad:((es.drop off).take len).length=len:=by grind
  refine⟨d,len,cap,B,by grind[E9],?_⟩;refine C5 (S:=S) hs he r ad j K ?_;intro i t hi;rw[mF]at hi;split at hi
  . rw[Et]at hi;rcases h0 with h0|h0
    . obtain⟨vs,E,aa,ai,Q,_⟩:=bf h0;obtain⟨v,ag,ah⟩:=Q _ 0 _ t hi rfl
      grind[hV]
    grind
  grind
 dsimp only at g G aj;unfold mW at g;split at g
 . rename_i es;simp only[bb,c8]at g;obtain⟨s,j,rfl,rfl⟩:=g;obtain⟨d,cap,sz,b,off,f,h1,W,Z,af,k,V,B⟩:=b5.jw aj.1.dF;refine⟨d,es.length,cap,h1,by grind[E9],?_⟩;by_cases A:es=[]
   . subst A;exact C5 (S:=S) (b:=0) (off:=0) hs he r rfl j (by simp) (by simp)
   . have ae:sz=1:=by
      obtain⟨bM,X⟩:=AX es A
      grind[List.mem_iff_getElem?,Tl]
     refine C5 (S:=S) (b:=b) (off:=off) hs he r rfl j (λ_=>k A) ?_;intro i t hi;exact⟨f i 0,by grind,B i 0 _ t hi rfl⟩
 . cases g;obtain⟨d,h1⟩:=aj.1.dF;exact⟨d,0,0,h1,by simp,C5 (S:=S) (es:=[]) (b:=0) (off:=0) hs he r rfl rfl (by simp) (by simp)⟩
 . rename_i b off len;split at g
   . rename_i es l;simp only[bb,c8]at g;obtain⟨s,j,rfl,rfl⟩:=g;obtain⟨d,h1,k,H⟩:=aX.fH aj.1.dF;by_cases h0:(φ b).2=0
     . exact y b off len es d _ l u j (λh=>by omega) (.inr (by omega)) h1
     . exact y b off len es d _ l u j (λ_=>k h0) (.inl h0) h1
   . cases g
 . rename_i b off len;split at g
   . rename_i es l;simp only[bb,c8]at g;obtain⟨s,j,rfl,rfl⟩:=g;obtain⟨d,cap,h1,k,H⟩:=aj.1.dF;obtain⟨D,_⟩:=R.bm.blk b _ l;by_cases h0:len=0
     . exact y b off len es d _ l u j k (.inr h0) h1
     . exact y b off len es d _ l u j k (.inl (by omega)) h1
   . cases g
 . cases g
end
end
end Go.Proofs.YtfcnkdegapjgnaaGreatDoor.Shv
