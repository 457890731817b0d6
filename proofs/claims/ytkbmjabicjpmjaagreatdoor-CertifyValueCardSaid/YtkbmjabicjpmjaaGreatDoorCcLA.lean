/- The library of this proof, part A: an abstract machine for the code of the program, and its soundness. -/
import Derived.LoopN
import Derived.Calls
import Derived.Laws.Sem
import Derived.Laws.World
import Derived.Laws.Cells
import Derived.Below
import Derived.Laws.Strings
import Derived.Laws.StructEq
import Derived.Laws.BytesString

namespace Go.Proofs.YtkbmjabicjpmjaaGreatDoor.Shv
set_option linter.all false
abbrev ao:=List UInt8
abbrev au:=List Int
abbrev aW:=List Nat
section
def af:=@if_pos
def al:=@if_neg
def ca:=@Bool.false_eq_true
def dV:=@List.getElem?_eq_some_iff
def ey:=@Option.ite_none_right_eq_some
def db:=@List.length_append
def cX:=@Bool.and_eq_true
def eF:=@List.getElem?_eq_getElem
def dP:=@Option.some.injEq
def b4:=@if_false
def eV:=@Nat.mul_le_mul_right
def fr:=@List.drop_eq_nil_of_le
def e7:=@List.mem_of_getElem?
def b7:=@if_true
def dU:=@Bool.not_true
def dF:=@decide_false
def ds:=@decide_true
def ef:=@Prod.mk.injEq
def e2:=@List.mem_cons
def f':=@List.all_eq_true
def gk:=@of_decide_eq_true
def fz:=@Bool.not_false
def gE:=@decide_eq_true_eq
def dK:=@congrArg
def e9:=@Nat.le_refl
def dx:=@Ne.symm
def lb:=@List.eq_nil_of_length_eq_zero
def hO:=@List.flatMap_cons
def e':=@cond_false
def fT:=@List.mem_map
def eS:=@cond_true
def jf:=@List.getElem_of_mem
def kI:=@Option.bind_eq_some_iff
def hl:=@List.drop_zero
def hP:=@List.mem_append
def gz:=@Nat.le_trans
def jg:=@Nat.lt_of_lt_of_le
def hZ:=@List.nil_append
def h2:=@List.length_set
def jh:=@List.append_assoc
def iP:=@List.length_cons
def j':=@beq_eq_false_iff_ne
def hQ:=@Bool.or_false
def jI:=@List.contains_nil
def ka:=@List.pairwise_cons
def hx:=@Nat.zero_add
def kb:=@Int.toNat_natCast
def kJ:=@List.contains_cons
def ji:=@decide_eq_true
def kc:=@List.length_nil
def pk:=@List.drop_eq_getElem_cons
def h3:=@Nat.add_mul
def lU:=@Int.emod_lt_of_pos
def mG:=@List.getD_cons_zero
def kd:=@List.map_cons
def ix:=@beq_iff_eq
def lV:=@Bool.or_eq_true
def lW:=@Option.map_some
def lX:=@Int.emod_nonneg
def jJ:=@Nat.zero_le
def nP:=@List.pairwise_map
def pn:=@List.mem_singleton
def vo:=@List.getElem?_append_left
def nQ:=@List.append_nil
def qO:=@Option.some.inj
def sS:=@Nat.le_of_ble_eq_true
def po:=@Nat.mod_eq_of_lt
def sT:=@List.mem_of_mem_take
def yb:=@Array.getElem?_setIfInBounds
def qP:=@List.getElem?_map
def vp:=@List.take_of_length_le
def yc:=@Array.getElem?_eq_some_iff
def yd:=@List.getElem?_append_right
def ye:=@List.getD_eq_getElem?_getD
def qQ:=@List.cons_append
def yf:=@List.pairwise_iff_getElem
def vq:=@Bool.or_eq_false_iff
def vr:=@BitVec.ofInt_natCast
def vt:=@Bool.not_eq_true'
def pq:=@List.all_cons
def pr:=@Bool.true_and
def AD:=@Option.ite_none_left_eq_some
def vu:=@List.getElem?_take
def pt:=@List.map_nil
def sU:=@List.length_map
def sV:=@List.mem_filter
def sW:=@decide_eq_false
def vv:=@List.ext_getElem?
def AE:=@List.exists_mem_of_ne_nil
def AF:=@List.mem_or_eq_of_mem_set
def AG:=@Array.getElem?_eq_getElem
def sX:=@Int.toNat_zero
def vw:=@List.length_take
def vx:=@List.any_eq_true
def vy:=@List.length_drop
def yg:=@List.length_pos_iff
def AH:=@List.getElem?_cons_zero
def AI:=@List.getElem?_cons_succ
def vz:=@List.map_append
def yh:=@BitVec.toNat_ofNat
def DL:=@List.find?_eq_some_iff_getElem
def Ao:=@Option.map_eq_some_iff
def x5:=@List.getElem?_set
def sQ:=@Nat.add_zero
def vi:=@List.drop_drop
def sR:=@Nat.le_of_eq
def Ap:=@List.getElem?_toArray
def vj:=@List.nodup_nil
def pj:=@and_false
def x6:=@List.getElem_mem
def x7:=@List.range'_succ
def Aq:=@List.getElem?_zipIdx
def Ar:=@Nat.pow_le_pow_right
def vk:=@List.sum_cons
def As:=@Array.length_toList
def Au:=@Array.toList_modify
def Av:=@Int.toNat_of_nonneg
def DM:=@List.eq_of_mem_replicate
def DN:=@Option.isSome_iff_exists
def vl:=@List.sum_nil
def DO:=@Nat.le_mul_of_pos_right
def vm:=@Nat.le_succ
def Aw:=@Bool.cond_eq_ite
def DP:=@Array.getElem?_modify
def DQ:=@Array.getElem?_toList
def DR:=@List.mem_iff_getElem?
def DS:=@List.mem_of_mem_drop
def x8:=@exists_false
def Ol:=@List.eq_nil_iff_forall_not_mem
def DT:=@List.mem_cons_of_mem
def Ax:=@Nat.not_lt_zero
def DU:=@List.mem_append_left
def DV:=@List.mem_iff_getElem
def x9:=@Bool.true_or
def DW:=@List.pairwise_append
def DX:=@List.getD_cons_succ
def DY:=@List.flatMap_append
def Ay:=@Int.mul_nonneg
def x':=@Nat.mul_one
def ya:=@Int.le_refl
def DZ:=@List.getElem?_drop
def D0:=@List.mem_cons_self
def Az:=@Bool.and_true
def D1:=@Array.toList_push
def AA:=@Nat.zero_mul
def D2:=@List.ext_getElem
def D3:=@Option.getD_some
def vn:=@and_true
def AB:=@Bool.or_true
variable{c:Prop}{α a:Type}{R:α->a->Prop}
theorem gh{h:Decidable c}(a:c:=by omega){α:Sort _}{t e:α}:ite c t e=t:=if_pos a
theorem cq{h:Decidable c}(a:c:=by simp;omega){α:Sort _}{t e:α}:ite c t e=t:=if_pos a
theorem j7{h:Decidable c}(a:c:=by simp){α:Sort _}{t e:α}:ite c t e=t:=if_pos a
theorem bR{h:Decidable c}(a:¬c:=by omega){α:Sort _}{t e:α}:ite c t e=e:=if_neg a
theorem dE{h:Decidable c}(a:¬c:=by simp;omega){α:Sort _}{t e:α}:ite c t e=e:=if_neg a
theorem ch{h:Decidable c}(a:¬c:=by simp){α:Sort _}{t e:α}:ite c t e=e:=if_neg a
theorem bu{α:Type _}{b:α}{c:Type _}{x:Option c}{f:c->α}:Option.map f x=some b↔∃a,x=some a/\f a=b:=Ao
theorem bf{α:Type _}{b:α}{c:Type _}{x:Option c}{f:c->Option α}:x.bind f=some b↔∃a,x=some a/\f a=some b:=kI
theorem aq{α:Type _}{b:Type _}(a:α)(f:α->Option b):(some a).bind f=f a:=Option.bind_some ..
theorem a8.{u}{α a:Type u}:(bind:Option α->(α->Option a)->Option a)=Option.bind:=Option.bind_eq_bind
open Go
inductive T where
 |bool (b:Bool)
 |int (k:IntKind)(n:Int)
 |str (s:ao)
 |slice (es:List (List T))
inductive C where
 |t (x:T)
 |ptr (b o:Nat)
 |cG (b sz i o:Nat)
 |dO (ts:List T)(o:Nat)
 |arr (b sz off len:Nat)
 |fL (b sz off len:Nat)
 |mp (b:Nat)
 |eu (b:Nat)
 |cb (b len:Nat)
 |aL
 |e6
 |e5
 |fn (f:Nat)(caps:aW)
 |dead
inductive V where
 |c (x:C)
 |agg (cs:List C)
 |a6 (vs:List V)
inductive bP where
 |box (cs:List C)
 |arr (sz:Nat)(es:List (List T))
 |set (ks:List ao)
 |buf (E:TypeId)(s:ao)
 |bT (E:TypeId)(c:C)
 |cz (sz:Nat)(es:List (List T))(i o:Nat)(c:C)
abbrev c0:=Nat->Nat->Prop
abbrev cZ:=Nat->Nat×Nat
def eo:Nat:=9223372036854775807
def dm:Nat:=281474976710656
inductive bM (w:World)(S:c0):T->Value->Prop
 |bool (b:Bool):bM w S (.bool b) (.bool b)
 |int (k:IntKind) (n:Int):bM w S (.int k n) (.int k n)
 |str (s:ByteArray) (h:s.size<=eo):bM w S (.str s.data.toList) (.string s)
 |slice (es:List (List T)) (a:Option Addr) (cap sz b o:Nat) (f:Nat->Nat->Value)
  (ae7:es.length<=cap) (afa:es.length<=dm)
  (afg:∀e,e∈es->e.length=sz)
  (wJ:es≠[]->a=some ⟨b,o,none⟩)
  (N5:∀i j,i<es.length->j<sz->S b (o+i*sz+j)/\w.cell? ⟨b,o+i*sz+j,none⟩=some (f i j))
  (N6:∀i j e t,es[i]?=some e->e[j]?=some t->bM w S t (f i j)):
  bM w S (.slice es) (.slice a es.length cap)
structure gq (w:World)(S:c0)(w':World)(bd:c0):Prop where
 sub:∀b j,S b j->bd b j
 cell:∀b j,S b j->w'.cell? ⟨b,j,none⟩=w.cell? ⟨b,j,none⟩
theorem gq.refl(w:World)(S:c0):gq w S w S:=⟨λ_ _ h=>h,λ_ _ _=>rfl⟩
theorem gq.trans{w S w' bd e c}(h:gq w S w' bd)(k:gq w' bd e c):gq w S e c:=
 ⟨λb j a=>k.sub b j (h.sub b j a),λb j a=>(k.cell b j (h.sub b j a)).trans (h.cell b j a)⟩
theorem bM.mono{w S w' bd}(m:gq w S w' bd){t v}(h:bM w S t v):bM w' bd t v:=by
 induction h with
 |bool b=>exact .bool b
 |int k n=>exact .int k n
 |str s h=>exact .str s h
 |slice es a cap sz b o f q x y p c A ih=>
  exact .slice es a _ sz b o f q x y p
   (λi j e g=>⟨m.sub _ _ (c i j e g).1,by rw[m.cell _ _ (c i j e g).1];grind⟩) ih
theorem bM.iR{w S t v}(h:bM w S t v):v.oneCell'=true:=by cases h<;>rfl
def bn(φ:cZ)(w:World)(S:c0):C->Value->Prop
 |.t x,v=>bM w S x v
 |.ptr b o,v=>v= .pointer (some ⟨(φ b).1,o,none⟩)
 |.cG b sz i o,v=>v= .pointer (some ⟨(φ b).1,i*sz+o,none⟩)
 |.dO ts o,v=>∃ (blk off:Nat) (f:Nat->Value),v = .pointer (some ⟨blk,off+o,none⟩)/\
  ∀j t,ts[j]?=some t->S blk (off+j)/\w.cell? ⟨blk,off+j,none⟩=some (f j)/\bM w S t (f j)
 |.arr b sz off len,v=>∃a,v= .slice a len ((φ b).2-off)/\((φ b).2≠0->a=some ⟨(φ b).1,off*sz,none⟩)/\off+len<=(φ b).2
 |.fL b sz off len,v=>∃a cap,v= .slice a len cap/\(len≠0->a=some ⟨(φ b).1,off*sz,none⟩)/\len<=cap
 |.mp b,v=>v= .map (some (φ b).1)
 |.cb b len,v=>len<=(φ b).2/\((φ b).2=0->v= .slice none 0 0)/\((φ b).2≠0->v= .slice (some ⟨(φ b).1,0,none⟩) len (φ b).2)
 |.eu b,v=>∃p,v= .pointer p/\((φ b).2≠0->p=some ⟨(φ b).1,0,none⟩)
 |.aL,v=>∃a,v= .slice a 0 0
 |.e6,v=>v= .pointer none
 |.e5,v=>v= .nilFunc
 |.fn f caps,v=>v= .func (.func f) #[] (caps.map λb=>Value.pointer (some ⟨(φ b).1,0,none⟩)).toArray
 |.dead,v=>v.oneCell'=true
theorem bn.iR{φ w S c v}(h:bn φ w S c v):v.oneCell'=true:=by
 cases c with
 |t x=>exact bM.iR h
 |dO ts o=>obtain⟨_,_,_,rfl,_⟩:=h;rfl
 |arr b sz off len=>obtain⟨_,rfl,_⟩:=h;rfl
 |fL b sz off len=>obtain⟨_,_,rfl,_⟩:=h;rfl
 |eu b=>obtain⟨_,rfl,_⟩:=h;rfl
 |cb b len=>
  by_cases h0:(φ b).2=0
  . rw[h.2.1 h0];rfl
  . rw[h.2.2 h0];rfl
 |aL=>obtain⟨_,rfl⟩:=h;rfl
 |dead=>exact h
 |_=>cases h;rfl
def C.ay(n:Nat->Bool):C->Bool
 |.ptr b _=>n b
 |.cG b _ _ _=>n b
 |.arr b _ _ _=>n b
 |.fL b _ _ _=>n b
 |.mp b=>n b
 |.eu b=>n b
 |.cb b _=>n b
 |.fn _ caps=>caps.all λb=>n b
 |_=>true
def V.ay(n:Nat->Bool):V->Bool
 |.c x=>x.ay n
 |.agg cs=>cs.all (C.ay n)
 |.a6 vs=>V.dw n vs
where V.dw (n:Nat->Bool):List V->Bool
 |[]=>true
 |v::vs=>v.ay n&&V.dw n vs
theorem bn.mono{φ bc:cZ}{w S w' bd}(m:gq w S w' bd){n:Nat->Bool}(e:∀b,n b=true->bc b=φ b){c v}(a:c.ay n=true)(h:bn φ w S c v):bn bc w' bd c v:=by
 cases c with
 |t x=>exact bM.mono m h
 |ptr b o=>grind[C.ay,bn]
 |cG b sz i o=>grind[C.ay,bn]
 |dO ts o=>
  obtain⟨blk,off,f,rfl,aa⟩:=h;exact⟨blk,off,f,rfl,λj t ht=>⟨m.sub _ _ (aa j t ht).1,by rw[m.cell _ _ (aa j t ht).1];grind,bM.mono m (aa j t ht).2.2⟩⟩
 |arr b sz off len=>grind[C.ay,bn]
 |fL b sz off len=>grind[C.ay,bn]
 |mp b=>grind[C.ay,bn]
 |eu b=>grind[C.ay,bn]
 |cb b len=>grind[C.ay,bn]
 |aL=>exact h
 |e6=>exact h
 |e5=>exact h
 |fn f caps=>
  grind[bn,List.map_congr_left,C.ay]
 |dead=>exact h
inductive aX {α β:Type}(R:α->β->Prop):List α->List β->Prop
 |nil:aX R [] []
 |cons {a b l m}:R a b->aX R l m->aX R (a::l) (b::m)
variable{e:Type}
theorem aX.imp{R R':α->e->Prop}{l m}(h:aX R l m)(k:∀a b,a∈l->R a b->R' a b):aX R' l m:=by
 induction h with
 |nil=>exact .nil
 |cons c _ ih=>exact .cons (k _ _ (by simp) c) (ih λa b f=>k a b (by grind))
theorem aX.length{l:List α}{m:List a}(h:aX R l m):l.length=m.length:=by
 induction h<;>grind
theorem aX.get{c:Type}{R:α->c->Prop}{l:List α}{m:List c}(h:aX R l m){i:Nat}{a:α}(e:l[i]?=some a):∃b,m[i]?=some b/\R a b:=by
 induction h generalizing i<;>grind
theorem aX.lf{c:Type}{R:α->c->Prop}:∀{l:List α} {m:List c},l.length=m.length->(∀(i:Nat) a b,l[i]?=some a->m[i]?=some b->R a b)->aX R l m
 |[],[],_,_=>.nil
 |[],_::_,h,_=>by grind
 |_::_,[],h,_=>by grind
 |a::l,b::m,h,k=>.cons (k 0 a b (by rfl) (by rfl)) (aX.lf (by grind) λi x y e f=>k (i+1) x y (by grind) (by grind))
theorem aX.append{R:α->e->Prop}{l a:List α}{m c:List e}(h:aX R l m)(g:aX R a c):aX R (l++a) (m++c):=by
 induction h with
 |nil=>grind
 |cons f _ ih=>exact .cons f ih
theorem aX.drop{l:List α}{m:List a}(h:aX R l m)(k:Nat):aX R (l.drop k) (m.drop k):=by
 induction h generalizing k with
 |nil=>simp;exact .nil
 |cons c ht ih=>cases k with
  |zero=>exact .cons c ht
  |succ k=>grind
theorem aX.take{l:List α}{m:List a}(h:aX R l m)(k:Nat):aX R (l.take k) (m.take k):=by
 induction h generalizing k with
 |nil=>simp;exact .nil
 |cons c _ ih=>cases k with
  |zero=>exact .nil
  |succ k=>exact .cons c (ih k)
inductive bW (φ:cZ)(w:World)(S:c0):V->Value->Prop
 |c {x v}:bn φ w S x v->bW φ w S (.c x) v
 |agg {cs vs}:aX (bn φ w S) cs vs->bW φ w S (.agg cs) (.agg vs.toArray)
 |a6 (vs:List V) (xs:List Value) (ad:vs.length = xs.length) (h:∀ (i:Nat) v x,vs[i]? = some v->xs[i]? = some x->bW φ w S v x):
  bW φ w S (.a6 vs) (.tuple xs.toArray)
theorem mo{n:Nat->Bool}:∀{vs:List V} {i:Nat} {v:V},V.ay.V.dw n vs=true->vs[i]?=some v->v.ay n=true
 |[],_,_,_,h=>by grind
 |x::vs,0,v,a,h=>by grind[V.ay.V.dw]
 |x::vs,i+1,v,a,h=>by simp[V.ay.V.dw]at a;exact mo a.2 (by simpa using h)
theorem bW.mono{φ bc:cZ}{w S w' bd}(m:gq w S w' bd){n:Nat->Bool}(f:∀b,n b=true->bc b=φ b){x v}(p:V.ay n x=true)(h:bW φ w S x v):bW bc w' bd x v:=by
 induction h with
 |c h=>exact .c (bn.mono m f (by grind[V.ay]) h)
 |agg h=>exact .agg (h.imp λa b o g=>bn.mono m f (by grind[V.ay]) g)
 |a6 vs xs ad h ih=>exact .a6 vs xs ad λi v x e j=>ih i v x e j (mo (by grind[V.ay]) e)
end
section
open Go
inductive aO where
 |tmp (t:Nat)
 |const (v:V)
inductive cH where
 |mov (x:aO)
 |pick (c x y:aO)
 |alloc (cs:List C)
 |box (x:aO)
 |build (zero:List C)(parts:List (Nat×Nat×aO))
 |bslice (sz:Nat)(len:Nat)(zero:List C)(parts:List (Nat×aO))
 |load (agg:Bool)(n:Nat)(x:aO)
 |store (n:Nat)(x v:aO)
 |nilCheck (x:aO)
 |bin (op:BinOp)(x y:aO)
 |eqAgg (neg:Bool)(ks:aW)(x y:aO)
 |eqBool (neg:Bool)(x y:aO)
 |eqNil (neg:Bool)(x:aO)
 |not (x:aO)
 |conv (k:IntKind)(x:aO)
 |i2s (x:aO)
 |s2s (x:aO)
 |fldA (off:Nat)(x:aO)
 |fld (agg:Bool)(off n:Nat)(x:aO)
 |idxA (sz:Nat)(x i:aO)
 |idxS (x i:aO)
 |slcS (x:aO)(nN Dw:Option aO)
 |slc (sz:Nat)(x:aO)(nN Dw:Option aO)
 |slc0 (x:aO)
 |allocA (cs:List C)
 |idxP (n:Nat)(x i:aO)
 |idxV (n:Nat)(x i:aO)
 |mslice (sz bytes:Nat)(zero:List C)(x:aO)
 |slcP (n:Nat)(x:aO)(nN Dw:Option aO)
 |b2s (x:aO)
 |allocS (e e8:Nat)
 |bsliceT (e sz len:Nat)(zero:List C)(parts:List (Nat×aO))
 |mkset
 |lkset (x k:aO)
 |upset (x k:aO)
 |appendB (e bytes:Nat)(x y:aO)
 |sdata (x:aO)
 |ustr (e:Nat)(x n:aO)
 |mkfn (f:Nat)(caps:List aO)
 |ext (x:aO)(i:Nat)
 |len (str:Bool)(x:aO)
 |append (e sz bytes:Nat)(x y:aO)
 |max2 (x y:aO)
 |min2 (x y:aO)
 |call (f:Nat)(args:List aO)
 |hW (x:aO)(args:List aO)
structure bZ where
 dst:Option Nat
 op:cH
 guard:Option (Nat×Bool)
def AJ:Value->Option C
 |.bool b=>some (.t (.bool b))
 |.int k n=>some (.t (.int k n))
 |.string s=>if s.size<=eo then some (.t (.str s.data.toList))else none
 |.slice none 0 0=>some .aL
 |.pointer none=>some .e6
 |.nilFunc=>some .e5
 |.nilIface=>some .dead
 |_=>none
def vf:List Value->Option (List C)
 |[]=>some []
 |v::vs=>(AJ v).bind λc=>(vf vs).map (c::·)
def G5:Value->Option V
 |.agg cs=>(vf cs.toList).map .agg
 |v=>(AJ v).map .c
def bB:Operand->Option aO
 |.tmp t=>some (.tmp t)
 |.const v=>(G5 v).map .const
 |.func f=>some (.const (.c (.fn f [])))
 |.global _=>none
def mH:List Operand->Option (List aO)
 |[]=>some []
 |x::xs=>(bB x).bind λa=>(mH xs).map (a::·)
def ke:Option Operand->Option (Option aO)
 |none=>some none
 |some x=>(bB x).map some
def jO(P:Program)(t:TypeId):Option (List C):=
 (P.info? t).bind λi=>i.zero.bind λz=>vf z.cells.toList
def oQ(P:Program)(t:TypeId):Option Bool:=
 match P.underlying t with
 |some (.struct _)|some (.array _ _)=>some true
 |some _=>some false
 |none=>none
def eg(P:Program)(t:TypeId):Option Nat:=(P.info? t).map (·.size)
def mu(P:Program)(t:TypeId):Option (Bool×Nat):=
 (oQ P t).bind λg=>(eg P t).bind λn=>if g=false->n=1 then some (g,n)else none
def hb(P:Program)(f:Nat):Bool:=
 match P.funcs[f]? with
 |some fn=>fn.body.isSome && !(fn.name == "runtime.NumGoroutine")
 |none=>false
def pf(P:Program)(t:TypeId):Option Nat:=
 match P.underlying t with
 |some .bool=>some 0
 |some (.int _)=>some 1
 |some .string=>some 2
 |_=>none
def yo(P:Program):Nat->List Field->Option aW
 |_,[]=>some []
 |i,f::fs=>if f.offset = i/\f.name≠ "_" then (pf P f.type).bind λk=>(yo P (i+1) fs).map (k :: ·) else none
def Fp(P:Program)(t:TypeId):Option aW:=
 match P.underlying t with
 |some (.struct fs)=>if P.stoodInHeld t=false/\P.eqGuardType P.depth t=false then yo P 0 fs.toList else none
 |_=>none
def G6(P:Program)(t:TypeId):Option aW:=
 match P.underlying t with
 |some (.array n e)=>if eg P e=some 1/\P.eqGuardType P.depth t=false then(pf P e).map (List.replicate n)else none
 |_=>none
def FR(P:Program)(fs:Array Field):Bool:=fs.toList.all λf=>(eg P f.type).isSome
def uu(P:Program)(fs:Array Field):List (Nat×Operand)->Option (List (Nat×Nat×aO))
 |[]=>some []
 |(j,x)::r=>(fs[j]?).bind λf=>(eg P f.type).bind λn=>(bB x).bind λa=>(uu P fs r).map ((f.offset,n,a)::·)
def uC(n:Nat):List (Nat×Operand)->Option (List (Nat×Nat×aO))
 |[]=>some []
 |(j,x)::r=>(bB x).bind λa=>(uC n r).map ((j*n,n,a)::·)
def oL:List (Nat×Operand)->Option (List (Nat×aO))
 |[]=>some []
 |(j,x)::r=>(bB x).bind λa=>(oL r).map ((j,a)::·)
def mi(P:Program)(c:Call):Option cH:=
 match c.callee with
 |.builtin .len=>match c.args.toList,c.argTypes.toList with
  |[x],[t]=>match P.underlying t with
   |some .string=>(bB x).map (.len true)
   |some (.slice _)=>(bB x).map (.len false)
   |_=>none
  |_,_=>none
 |.builtin .append=>match c.args.toList,c.argTypes.toList with
  |[x,y],[t,u]=>match P.underlying t,P.underlying u with
   |some (.slice e),some .string=>(P.info? e).bind λi=>(bB x).bind λa=>(bB y).bind λb=>
    if i.size=1/\(i.zero.map (·.cells.size))=some 1/\(match P.underlying e with|some (.int .u8)=>true|_=>false)=true then some (.appendB e i.bytes a b)else none
   |some (.slice e),some (.slice _)=>(P.info? e).bind λi=>(bB x).bind λa=>(bB y).bind λb=>
    if i.size≠0/\(i.zero.map (·.cells.size))=some i.size then some (.append e i.size i.bytes a b)else none
   |_,_=>none
  |_,_=>none
 |.builtin .max=>match c.args.toList with
  |[x,y]=>(bB x).bind λa=>(bB y).map λb=>.max2 a b
  |_=>none
 |.builtin .min=>match c.args.toList with
  |[x,y]=>(bB x).bind λa=>(bB y).map λb=>.min2 a b
  |_=>none
 |.builtin .unsafeSliceData=>match c.args.toList,c.argTypes.toList with
  |[x],[t]=>match P.underlying t with
   |some (.slice e)=>if eg P e=some 1 then(bB x).map .sdata else none
   |_=>none
  |_,_=>none
 |.builtin .unsafeString=>match c.args.toList,c.argTypes.toList with
  |[x,n],[t,_]=>match P.underlying t with
   |some (.pointer e)=>if(match P.underlying e with|some (.int .u8)=>true|_=>false)=true/\eg P e=some 1/\P.cellsOf e=1 then(bB x).bind λa=>(bB n).map λb=>.ustr e a b else none
   |_=>none
  |_,_=>none
 |.value (.func f)=>if hb P f then(mH c.args.toList).map (.call f)else none
 |.value (.tmp t)=>(mH c.args.toList).map (.hW (.tmp t))
 |_=>none
def XX(P:Program)(t:TypeId):Bool:=
 match P.info? t with
 |some i=>(match i.desc with|.named n _=>n == "strings.Builder" |_=>false)
 |none=>false
def Qd:List Value->Bool
 |[.pointer none,.slice none 0 0]=>true
 |_=>false
def JE(P:Program)(t:TypeId):Bool:=
 match (P.info? t).bind (·.zero)with
 |some z=>Qd z.cells.toList
 |none=>false
def xq(P:Program)(t:TypeId):Option Nat:=
 if XX P t=true/\JE P t=true then match P.underlying t with
  |some (.struct fs)=>(fs[1]?).bind λf=>match P.underlying f.type with
   |some (.slice e)=>some e
   |_=>none
  |_=>none
 else none
def sH(P:Program)(t:TypeId):Bool:=
 match P.underlying t with
 |some (.map k v)=>(match P.underlying k,P.underlying v with|some .string,some .bool=>true|_,_=>false)&&(match (P.info? v).bind (·.zero)with|some (.bool false)=>true|_=>false)
 |_=>false
def FT:Operand->Bool
 |.const (.bool true)=>true
 |_=>false
def Fq:Operand->Bool
 |.const (.slice none 0 0)=>true
 |_=>false
def Ej:Operand->Operand->Bool
 |.tmp s,.tmp t=>s==t
 |_,_=>false
def cY(P:Program)(o:Op):Option cH:=
 match o with
 |.move x|.assign x=>(bB x).map .mov
 |.pick c a b=>(bB c).bind λc=>(bB a).bind λa=>(bB b).map λb=>.pick c a b
 |.alloc e=>match xq P e with
  |some e8=>some (.allocS e e8)
  |none=>(jO P e).bind λcs=>match P.underlying e with
   |some (.array n t)=>if eg P t=some 1/\n=cs.length/\4<n/\n<=2^24 then some (.allocA cs)else some (.alloc cs)
   |_=>some (.alloc cs)
 |.box _ x=>(bB x).map .box
 |.build t parts=>match P.underlying t with
  |some (.struct fs)=>if FR P fs then(jO P t).bind λz=>(uu P fs parts.toList).map λps=>.build z ps else none
  |some (.array _ e)=>(jO P t).bind λz=>(eg P e).bind λn=>(uC n parts.toList).map λps=>.build z ps
  |_=>none
 |.buildSlice t len parts=>match P.underlying t with
  |some (.slice e)=>(eg P e).bind λn=>(jO P e).bind λz=>(oL parts.toList).bind λps=>
   if n≠0/\z.length=n/\len*n<=2^24 then some (.bslice n len z ps)else none
  |_=>none
 |.load t a=>(mu P t).bind λg=>(bB a).map λx=>.load g.1 g.2 x
 |.store t a v=>(eg P t).bind λn=>(bB a).bind λx=>(bB v).map λy=>.store n x y
 |.nilCheck x=>(bB x).map .nilCheck
 |.binOp op t x y _=>
  if op= .eql\/op= .neq then match P.underlying t with
   |some (.array _ _)=>(G6 P t).bind λks=>(bB x).bind λa=>(bB y).map λb=>.eqAgg (op== .neq) ks a b
   |some (.struct _)=>(Fp P t).bind λks=>(bB x).bind λa=>(bB y).map λb=>.eqAgg (op== .neq) ks a b
   |some (.slice _)=>if Fq y then(bB x).map (.eqNil (op== .neq))else none
   |some .bool=>(bB x).bind λa=>(bB y).map λb=>.eqBool (op== .neq) a b
   |some (.int _)|some .string=>(bB x).bind λa=>(bB y).map λb=>.bin op a b
   |_=>none
  else(bB x).bind λa=>(bB y).map λb=>.bin op a b
 |.unOp .not _ x=>(bB x).map .not
 |.unOp .neg t x=>match P.underlying t with
  |some (.int k)=>(bB x).map (.bin .sub (.const (.c (.t (.int k 0)))))
  |_=>none
 |.unOp .xor t x=>match P.underlying t with
  |some (.int k)=>(bB x).map (.bin .xor (.const (.c (.t (.int k (if k.signed then -1 else k.max))))))
  |_=>none
 |.convert s d x=>match P.underlying s,P.underlying d with
  |some (.int _),some (.int k)=>(bB x).map (.conv k)
  |some (.int _),some .string=>(bB x).map .i2s
  |some .string,some .string=>(bB x).map .s2s
  |some (.slice e),some .string=>if(match P.underlying e with|some (.int .u8)=>true|_=>false)=true/\eg P e=some 1 then(bB x).map .b2s else none
  |_,_=>none
 |.fieldAddr t x f=>match P.underlying t with
  |some (.struct fs)=>(fs[f]?).bind λj=>(eg P j.type).bind λn=>if n=0 then none else(bB x).map (.fldA j.offset)
  |_=>none
 |.field t x f=>match P.underlying t with
  |some (.struct fs)=>(fs[f]?).bind λj=>(mu P j.type).bind λg=>(bB x).map (.fld g.1 j.offset g.2)
  |_=>none
 |.indexAddr t x i=>match P.underlying t with
  |some (.slice e)=>(eg P e).bind λn=>if n=0 then none else(bB x).bind λa=>(bB i).map λb=>.idxA n a b
  |some (.array n e)=>match i with
   |.const (.int _ m)=>if 0<=m/\m.toNat<n then(eg P e).bind λs=>(bB x).map (.fldA (m.toNat*s))else none
   |i=>if eg P e=some 1 then(bB x).bind λa=>(bB i).map λb=>.idxP n a b else none
  |_=>none
 |.index t x i=>match P.underlying t with
  |some .string=>(bB x).bind λa=>(bB i).map λb=>.idxS a b
  |some (.array n e)=>if mu P e=some (false,1)then(bB x).bind λa=>(bB i).map λb=>.idxV n a b else none
  |_=>none
 |.slice t x q p r=>match P.underlying t with
  |some .string=>if r.isNone then(bB x).bind λa=>(ke q).bind λl=>(ke p).map λh=>.slcS a l h else none
  |some (.slice e)=>match r with
   |none=>(eg P e).bind λn=>if n=0 then none else(bB x).bind λa=>(ke q).bind λl=>(ke p).map λh=>.slc n a l h
   |some (.const (.int _ 0))=>match q,p with
    |none,some (.const (.int _ 0))=>if(eg P e).isSome then(bB x).map .slc0 else none
    |_,_=>none
   |_=>none
  |some (.array n e)=>if r.isNone/\eg P e=some 1 then(bB x).bind λa=>(ke q).bind λl=>(ke p).map λh=>.slcP n a l h else none
  |_=>none
 |.makeFunc (.func f) first caps=>if first.isEmpty then(mH caps.toList).map (.mkfn f)else none
 |.extract x i=>(bB x).map λa=>.ext a i
 |.makeSlice t x y=>match P.underlying t with
  |some (.slice e)=>if Ej x y then(P.info? e).bind λi=>(jO P e).bind λz=>if i.size≠0/\z.length=i.size then(bB x).map (.mslice i.size i.bytes z)else none else none
  |_=>none
 |.makeMap t none=>if sH P t then some .mkset else none
 |.lookup t x i false=>if sH P t then(bB x).bind λa=>(bB i).map λb=>.lkset a b else none
 |.mapUpdate t m k v=>if sH P t=true/\FT v=true then(bB m).bind λa=>(bB k).map λb=>.upset a b else none
 |.call c=>mi P c
 |_=>none
def rz(ops:Array Oper):Option (Nat×Bool)->Option (Option (Nat×Bool))
 |none=>some none
 |some (j,b)=>((ops[j]?).bind (·.dst)).map λd=>some (d,b)
def tR(d:Nat):Operand->Bool
 |.tmp t=>t==d
 |_=>false
def x3(d:Nat):Op->Bool
 |.call c=>match c.callee with
  |.builtin .append=>(c.args.toList.drop 1).any (tR d)
  |.value (.func _)=>c.args.toList.any (tR d)
  |_=>false
 |.build _ ps=>ps.toList.any λp=>tR d p.2
 |.buildSlice _ _ ps=>ps.toList.any λp=>tR d p.2
 |.convert _ _ x=>tR d x
 |.indexAddr _ x _=>tR d x
 |_=>false
def Rr(ops:Array Oper)(o:Oper):Bool:=
 match o.dst with
 |some d=>ops.toList.any λq=>x3 d q.op
 |none=>false
def uv(P:Program)(a:Bool)(o:Op):Option cH:=
 match o,a with
 |.buildSlice t len parts,true=>match P.underlying t with
  |some (.slice e)=>(eg P e).bind λn=>(jO P e).bind λz=>(oL parts.toList).bind λps=>
   if n≠0/\z.length=n/\len*n<=2^24 then some (.bsliceT e n len z ps)else none
  |_=>none
 |o,_=>cY P o
def um(P:Program)(nt:Nat)(ops:Array Oper)(o:Oper):Option bZ:=
 (uv P (Rr ops o) o.op).bind λp=>(rz ops o.guard).bind λg=>
  match o.dst with
  |none=>some ⟨none,p,g⟩
  |some d=>if d<nt then some ⟨some d,p,g⟩else none
def gK(P:Program)(nt:Nat)(ops:Array Oper):List Oper->Option (List bZ)
 |[]=>some []
 |o::r=>(um P nt ops o).bind λa=>(gK P nt ops r).map (a::·)
inductive dv where
 |skip
 |region (ops:List bZ)
 |nT (ops:List bZ)(fS:List (Nat×Nat))
 |seq (a b:dv)
 |cond (c:aO)(x y:dv)
 |block (id:Nat)(b:dv)
 |loop (b:dv)
 |exit (id:Nat)
 |ret
def cH.neutral:cH->Bool
 |.alloc _|.allocA _|.box _|.bslice .. |.mslice .. |.store .. |.append .. |.call .. |.hW .. |.eqNil .. =>false
 |.allocS .. |.mkset|.upset .. |.appendB .. |.ustr .. =>false
 |_=>true
def cH.hR:cH->Bool
 |.alloc _|.allocA _|.b2s _|.box _|.bslice .. |.mslice .. |.store .. |.append .. |.load .. =>true
 |.allocS .. |.mkset|.lkset .. |.upset .. |.appendB .. |.ustr .. |.call .. =>true
 |_=>false
def cH.drawn:cH->Bool
 |.eqNil .. =>false
 |_=>true
def aO.tmps:aO->aW
 |.tmp t=>[t]
 |.const _=>[]
def sP:Option aO->aW
 |none=>[]
 |some x=>x.tmps
def cH.reads:cH->aW
 |.mov x=>x.tmps
 |.pick c x y=>c.tmps++x.tmps++y.tmps
 |.alloc _|.allocA _=>[]
 |.box x=>x.tmps
 |.build _ ps=>ps.flatMap λp=>p.2.2.tmps
 |.bslice _ _ _ ps=>ps.flatMap λp=>p.2.tmps
 |.load _ _ x=>x.tmps
 |.store _ x v=>x.tmps++v.tmps
 |.nilCheck x=>x.tmps
 |.bin _ x y=>x.tmps++y.tmps
 |.eqAgg _ _ x y=>x.tmps++y.tmps
 |.eqBool _ x y=>x.tmps++y.tmps
 |.eqNil _ x=>x.tmps
 |.not x=>x.tmps
 |.conv _ x=>x.tmps
 |.i2s x=>x.tmps
 |.s2s x=>x.tmps
 |.fldA _ x=>x.tmps
 |.fld _ _ _ x=>x.tmps
 |.idxA _ x i=>x.tmps++i.tmps
 |.idxS x i=>x.tmps++i.tmps
 |.slcS x e a=>x.tmps++sP e++sP a
 |.slc _ x e a=>x.tmps++sP e++sP a
 |.slc0 x=>x.tmps
 |.b2s x=>x.tmps
 |.allocS .. |.mkset=>[]
 |.bsliceT _ _ _ _ ps=>ps.flatMap λp=>p.2.tmps
 |.lkset x k=>x.tmps++k.tmps
 |.upset x k=>x.tmps++k.tmps
 |.appendB _ _ x y=>x.tmps++y.tmps
 |.sdata x=>x.tmps
 |.ustr _ x k=>x.tmps++k.tmps
 |.idxP _ x i=>x.tmps++i.tmps
 |.idxV _ x i=>x.tmps++i.tmps
 |.mslice _ _ _ x=>x.tmps
 |.slcP _ x e a=>x.tmps++sP e++sP a
 |.mkfn _ caps=>caps.flatMap aO.tmps
 |.ext x _=>x.tmps
 |.len _ x=>x.tmps
 |.append _ _ _ x y=>x.tmps++y.tmps
 |.max2 x y=>x.tmps++y.tmps
 |.min2 x y=>x.tmps++y.tmps
 |.call _ args=>args.flatMap aO.tmps
 |.hW x args=>x.tmps++args.flatMap aO.tmps
def bZ.rd(o:bZ):aW:=o.op.reads++(match o.guard with|none=>[]|some (t,_)=>[t])
def hd(o:Oper):aW:=(o.after.toList.filter (Region.binds .any)).map (·.on)
def ahead(l:List (bZ×aW))(j i:Nat):Bool:=decide (j<i)&&((l[i]?).map λx=>x.2.contains j).getD false
def Cx:Nat->List (bZ×aW)->Bool
 |_,[]=>true
 |i,x::r=>x.2.all (· < i)&&Cx (i+1) r
def OS(l:List (bZ×aW)):Bool:=
 l.zipIdx.all λx=>l.zipIdx.all λy=>
  match y.1.1.dst with
  |none=>true
  |some d=>(!(x.1.1.rd.contains d)||ahead l y.2 x.2||(x.1.1.op.neutral && !x.1.1.op.hR&&ahead l x.2 y.2))&&(x.2==y.2 || !(x.1.1.dst==some d))
def mY:List (bZ×aW)->List aW->List aW
 |[],acc=>acc
 |x::r,acc=>mY r (acc++[(x.2++x.2.flatMap λe=>acc.getD e []).eraseDups])
def nr(a:List aW)(j i:Nat):Bool:=decide (j<i)&&(a.getD i []).contains j
def Df(a:List aW)(l:List (bZ×aW)):List (Nat×Nat):=
 l.zipIdx.flatMap λx=>if x.1.1.op.neutral then[]else l.zipIdx.filterMap λy=>
  if y.1.1.op.hR && !(x.2==y.2) && !(nr a x.2 y.2) && !(nr a y.2 x.2)then some (x.2,y.2)else none
def kV(l:List (bZ×aW)):List (Nat×Nat):=Df (mY l []) l
def Ck(l:List (bZ×aW)):Bool:=(List.range (l.length-1)).all λi=>l.zipIdx.any λy=>decide (i<y.2)&&y.1.2.contains i
def sg(l:List (bZ×aW)):Bool:=Cx 0 l&&OS l&&l.all λx=>x.1.op.drawn
def rk(l:List (bZ×aW)):List (Nat×Nat):=
 if decide (2<=l.length)&&Ck l&&sg l.dropLast then(l.length,0)::(kV l++kV l.dropLast)else kV l
def fw(ops:Array Oper)(aY:List bZ):List (bZ×aW):=aY.zip (ops.toList.map hd)
def resolve(P:Program)(nt:Nat):Code->Option dv
 |.skip=>some .skip
 |.region _ ops d=>(gK P nt ops ops.toList).bind λaY=>
  if d then(if sg (fw ops aY)&&P.follows .mixedOrders then some (.nT aY (rk (fw ops aY)))else none)else some (.region aY)
 |.seq a b=>(resolve P nt a).bind λx=>(resolve P nt b).map λy=>.seq x y
 |.cond c a b=>(bB c).bind λo=>(resolve P nt a).bind λx=>(resolve P nt b).map λy=>.cond o x y
 |.block id b=>(resolve P nt b).map (.block id)
 |.loop b=>(resolve P nt b).map .loop
 |.exit id=>some (.exit id)
 |.ret=>some .ret
 |_=>none
abbrev Env:=List (Nat×Bool×V)
abbrev aZ:=List (Nat×bP)
def look:Env->Nat->Option (Bool×V)
 |[],_=>none
 |(k,x)::r,i=>if k=i then some x else look r i
def aR:aZ->Nat->Option bP
 |[],_=>none
 |(k,x)::r,i=>if k=i then some x else aR r i
def c7:aZ->Nat->bP->aZ
 |[],b,x=>[(b,x)]
 |(k,y)::r,b,x=>if k=b then(k,x)::r else(k,y)::c7 r b x
def gV:aZ->Nat->aZ
 |[],_=>[]
 |(k,y)::r,b=>if k=b then gV r b else(k,y)::gV r b
theorem cR(J:aZ)(b:Nat)(x:bP)(i:Nat):aR (c7 J b x) i=if b=i then some x else aR J i:=by
 induction J with
 |nil=>rfl
 |cons y r ih=>
  obtain⟨k,y⟩:=y;by_cases a:k=b
  . grind[c7,aR]
  . simp[c7,al a,aR];grind
theorem fk(J:aZ)(b:Nat)(i:Nat):aR (gV J b) i=if b=i then none else aR J i:=by
 induction J with
 |nil=>simp[gV,aR]
 |cons y r ih=>
  obtain⟨k,y⟩:=y;by_cases a:k=b
  . grind[gV,aR]
  . simp[gV,al a,aR];grind
def aO.get(env:Env):aO->Option (Prop×V)
 |.const v=>some (True,v)
 |.tmp t=>(look env t).map λx=>(x.1=true,x.2)
def hv(env:Env):List aO->Option (Prop×List V)
 |[]=>some (True,[])
 |x::xs=>(x.get env).bind λa=>(hv env xs).map λb=>(a.1/\b.1,a.2::b.2)
def jF(env:Env):Option aO->Option (Prop×Option Int)
 |none=>some (True,none)
 |some x=>(x.get env).bind λa=>match a.2 with
  |.c (.t (.int _ n))=>some (a.1,some n)
  |_=>none
def oR:V->Option (List C)
 |.c x=>some [x]
 |.agg cs=>some cs
 |.a6 _=>none
def toT:C->Option T
 |.t x=>some x
 |.aL=>some (.slice [])
 |_=>none
def toTs:List C->Option (List T)
 |[]=>some []
 |c::cs=>(toT c).bind λt=>(toTs cs).map (t::·)
def el(es:List (List T))(i:Nat):List T:=es.getD i []
def tM(a:List C)(off:Nat)(cs:List C):List C:=a.take off++cs++a.drop (off+cs.length)
def kW(env:Env):List C->List (Nat×Nat×aO)->Option (Prop×List C)
 |c,[]=>some (True,c)
 |c,(off,n,x):: r=>(x.get env).bind λa=>(oR a.2).bind λcs=>
  if cs.length=n/\off+n<=c.length then(kW env (tM c off cs) r).map λb=>(a.1/\b.1,b.2)else none
def jB(env:Env)(sz:Nat):List (List T)->List (Nat×aO)->Option (Prop×List (List T))
 |es,[]=>some (True,es)
 |es,(i,x):: r=>(x.get env).bind λa=>(oR a.2).bind λcs=>(toTs cs).bind λts=>
  if ts.length=sz/\i<es.length then(jB env sz (es.set i ts) r).map λb=>(a.1/\b.1,b.2)else none
def pH:BinOp->T->T->Option (Prop×T)
 |.add,.int k a,.int c b=>if k=c then some (True,.int k (k.wrap (a+b)))else none
 |.sub,.int k a,.int c b=>if k=c then some (True,.int k (k.wrap (a-b)))else none
 |.mul,.int k a,.int c b=>if k=c then some (True,.int k (k.wrap (a*b)))else none
 |.quo,.int k a,.int c b=>if k=c then some (b≠0,.int k (k.wrap (a.tdiv b)))else none
 |.rem,.int k a,.int c b=>if k=c then some (b≠0,.int k (a.tmod b))else none
 |.and,.int k a,.int c b=>if k=c then some (True,.int k (k.wrap (BitVec.ofInt k.bits a &&& BitVec.ofInt k.bits b).toNat))else none
 |.or,.int k a,.int c b=>if k=c then some (True,.int k (k.wrap (BitVec.ofInt k.bits a ||| BitVec.ofInt k.bits b).toNat))else none
 |.xor,.int k a,.int c b=>if k=c then some (True,.int k (k.wrap (BitVec.ofInt k.bits a ^^^ BitVec.ofInt k.bits b).toNat))else none
 |.andNot,.int k a,.int c b=>if k=c then some (True,.int k (k.wrap (BitVec.ofInt k.bits a &&& ~~~ BitVec.ofInt k.bits b).toNat))else none
 |.shl,.int k a,.int _ b=>some (0<=b,.int k (k.wrap (a*2^min b.toNat k.bits)))
 |.shr,.int k a,.int _ b=>some (0<=b,.int k (a.fdiv (2^min b.toNat k.bits)))
 |.eql,.int k a,.int c b=>if k=c then some (True,.bool (decide (a=b)))else none
 |.neq,.int k a,.int c b=>if k=c then some (True,.bool (!decide (a=b)))else none
 |.lss,.int k a,.int c b=>if k=c then some (True,.bool (decide (a<b)))else none
 |.leq,.int k a,.int c b=>if k=c then some (True,.bool (decide (a<=b)))else none
 |.gtr,.int k a,.int c b=>if k=c then some (True,.bool (decide (b<a)))else none
 |.geq,.int k a,.int c b=>if k=c then some (True,.bool (decide (b<=a)))else none
 |.add,.str a,.str b=>some (a.length+b.length<=eo,.str (a++b))
 |.eql,.str a,.str b=>some (True,.bool (decide (a=b)))
 |.neq,.str a,.str b=>some (True,.bool (!decide (a=b)))
 |.lss,.str a,.str b=>some (True,.bool (Op.bytesLess a b))
 |.leq,.str a,.str b=>some (True,.bool (Op.bytesLess a b||decide (a=b)))
 |.gtr,.str a,.str b=>some (True,.bool (!(Op.bytesLess a b||decide (a=b))))
 |.geq,.str a,.str b=>some (True,.bool (!(Op.bytesLess a b)))
 |_,_,_=>none
def wE:Nat->T->T->Option Bool
 |0,.bool a,.bool b=>some (a==b)
 |1,.int k a,.int c b=>if k=c then some (decide (a=b))else none
 |2,.str a,.str b=>some (decide (a=b))
 |_,_,_=>none
def k':aW->List C->List C->Option Bool
 |[],[],[]=>some true
 |k::ks,.t x::xs,.t y::ys=>(wE k x y).bind λb=>(k' ks xs ys).map λr=>b&&r
 |_,_,_=>none
abbrev zB:=Option (Prop×V×aZ)
def loadT(agg:Bool)(n:Nat)(ts:List T)(o:Nat):Option V:=
 if agg then(if o+n<=ts.length then some (.agg (((ts.drop o).take n).map .t))else none)else(ts[o]?).map λt=>.c (.t t)
def jG(agg:Bool)(n:Nat)(cs:List C)(o:Nat):Option V:=
 if agg then(if o+n<=cs.length then some (.agg ((cs.drop o).take n))else none)else(cs[o]?).map .c
def hr:Nat:=281474976710656
def jC(n bytes:Nat):Prop:=(2*n+192)*bytes<=hr\/(n+n/4+512)*bytes<=hr
def lp(J:aZ):V->Option (List (List T)×Option Nat)
 |.c (.t (.slice ys))=>some (ys,none)
 |.c .aL=>some ([],none)
 |.c (.arr b a off len)=>match aR J b with
  |some (.arr d ys)=>if a=d/\off=0/\len=ys.length then some (ys,some b)else none
  |_=>none
 |_=>none
def bytesOf:List (List T)->Option ao
 |[]=>some []
 |[.int .u8 m]::r=>(bytesOf r).map λs=>UInt8.ofNat m.toNat::s
 |_=>none
def mX(J:aZ):V->Option (Prop×ao)
 |.c (.t (.slice es))=>(bytesOf es).map λs=>(True,s)
 |.c .aL=>some (True,[])
 |.c (.arr b 1 off len)=>match aR J b with
  |some (.arr 1 es)=>(bytesOf ((es.drop off).take len)).map λs=>(off+len<=es.length,s)
  |_=>none
 |.c (.fL b 1 off len)=>match aR J b with
  |some (.arr 1 es)=>(bytesOf ((es.drop off).take len)).map λs=>(off+len<=es.length,s)
  |_=>none
 |_=>none
def iO(ks:List ao)(s:ao):Bool:=ks.any λk=>decide (k=s)
def iC(ks:List ao)(s:ao):List ao:=if iO ks s then ks else ks++[s]
def yx:List C->Option C
 |[.arr b sz off len]=>some (.arr b sz off len)
 |_=>none
def l3:V->V->Option (Nat×Nat×Nat×Nat×Nat×Nat×Nat)
 |.c (.arr b sz off len),.c (.fL a f e d)=>if b=a then some (b,sz,off,len,f,e,d)else none
 |_,_=>none
def tz(J:aZ)(n sz:Nat)(p q:Prop):Nat×Nat×Nat×Nat×Nat×Nat×Nat->zB
 |(b,s1,off,len,e,d,a)=>match aR J b with
  |some (.arr f es)=>some (p/\q/\s1 = sz/\e = sz/\f = sz/\off = 0/\len+a<=es.length/\d+a<=es.length,
   .c (.arr n sz 0 (len+a)),c7 (gV J b) n (.arr sz (es.take len++(es.drop d).take a)))
  |_=>none
def aM(o:cH)(env:Env)(J:aZ)(n:Nat):zB:=
 match o with
 |.mov x=>(x.get env).map λa=>(a.1,a.2,J)
 |.pick c x y=>(c.get env).bind λc=>(x.get env).bind λx=>(y.get env).bind λy=>
  match c.2,x.2,y.2 with
  |.c (.t (.bool b)),.c (.t (.bool p)),.c (.t (.bool q))=>
   some (c.1/\(b=true->x.1)/\(b=false->y.1),.c (.t (.bool (bif b then p else q))),J)
  |_,_,_=>none
 |.alloc cs=>some (True,.c (.ptr n 0),c7 J n (.box cs))
 |.allocA cs=>(toTs cs).map λts=>(True,.c (.ptr n 0),c7 J n (.arr 1 (ts.map λt=>[t])))
 |.idxP k x i=>(x.get env).bind λa=>(i.get env).bind λj=>match a.2,j.2 with
  |.c (.ptr b 0),.c (.t (.int _ m))=>some (a.1/\j.1/\0<=m/\m.toNat<k,.c (.cG b 1 m.toNat 0),J)
  |_,_=>none
 |.idxV k x i=>(x.get env).bind λa=>(i.get env).bind λj=>match a.2,j.2 with
  |.agg cs,.c (.t (.int _ m))=>if cs.length=k then some (a.1/\j.1/\0<=m/\m.toNat<k,.c (cs.getD m.toNat .dead),J)else none
  |_,_=>none
 |.mslice sz bytes z x=>(x.get env).bind λa=>(toTs z).bind λD=>match a.2 with
  |.c (.t (.int _ m))=>some (a.1/\0<=m/\m.toNat*bytes<=hr/\m.toNat<=dm,.c (.arr n sz 0 m.toNat),c7 J n (.arr sz (List.replicate m.toNat D)))
  |_=>none
 |.slcP k x w A=>(x.get env).bind λa=>(jF env w).bind λl=>(jF env A).bind λh=>match a.2 with
  |.c (.ptr b 0)=>
   let e:=h.2.getD k;let c:=l.2.getD 0
   some (a.1/\l.1/\h.1/\0<=c/\c<=e/\e<=k,.c (.fL b 1 c.toNat (e.toNat-c.toNat)),J)
  |_=>none
 |.b2s x=>(x.get env).bind λa=>(mX J a.2).map λr=>(a.1/\r.1,.c (.t (.str r.2)),J)
 |.box x=>(x.get env).bind λa=>(oR a.2).map λcs=>(a.1,.c (.ptr n 0),c7 J n (.box cs))
 |.build z parts=>(kW env z parts).map λa=>(a.1,.agg a.2,J)
 |.bslice sz len z parts=>(toTs z).bind λD=>(jB env sz (List.replicate len D) parts).map λa=>
  (a.1,.c (.arr n sz 0 len),c7 J n (.arr sz a.2))
 |.load agg k x=>(x.get env).bind λa=>match a.2 with
  |.c (.ptr b o)=>match aR J b with
   |some (.box cs)=>(jG agg k cs o).map λv=>(a.1,v,J)
   |some (.bT _ c)=>if agg=false/\o=1 then some (a.1,.c c,J)else none
   |_=>none
  |.c (.cG b sz i o)=>match aR J b with
   |some (.arr g es)=>(loadT agg k (el es i) o).map λv=>(a.1/\sz=g/\i<es.length,v,J)
   |some (.cz g es B C c)=>if agg then none else if o=C then some (a.1/\sz=g/\i=B,.c c,J)else(loadT false k (el es i) o).map λv=>(a.1/\sz=g/\i<es.length,v,J)
   |_=>none
  |.c (.dO ts o)=>(loadT agg k ts o).map λv=>(a.1,v,J)
  |_=>none
 |.store k x v=>(x.get env).bind λa=>(v.get env).bind λd=>(oR d.2).bind λcs=>
  if cs.length=k then match a.2 with
   |.c (.ptr b o)=>match aR J b with
    |some (.box F)=>if o+k<=F.length then some (a.1/\d.1,.a6 [],c7 J b (.box (tM F o cs)))else none
    |some (.bT e _)=>match o,cs with
     |1,[c]=>some (a.1/\d.1,.a6 [],c7 J b (.bT e c))
     |_,_=>none
    |_=>none
   |.c (.cG b sz i o)=>match aR J b with
    |some (.arr g es)=>match yx cs with
     |some c=>some (a.1/\d.1/\sz=g/\i<es.length/\o+k<=sz,.a6 [],c7 J b (.cz g es i o c))
     |none=>(toTs cs).bind λts=>
      some (a.1/\d.1/\sz=g/\i<es.length/\o+k<=sz,.a6 [],
       c7 J b (.arr g (es.set i ((el es i).take o++ts++(el es i).drop (o+k)))))
    |some (.cz g es B C G)=>match cs with
     |[c]=>if o=C then some (a.1/\d.1/\sz=g/\i=B,.a6 [],c7 J b (.cz g es B C c))
      else(toT c).bind λt=>some (a.1/\d.1/\sz=g/\i<es.length/\o+k<=sz,.a6 [],
       c7 J b (.cz g (es.set i ((el es i).take o++[t]++(el es i).drop (o+k))) B C G))
     |_=>none
    |_=>none
   |_=>none
  else none
 |.nilCheck x=>(x.get env).bind λa=>match a.2 with
  |.c (.ptr ..)|.c (.cG ..)|.c (.dO ..)=>some (a.1,a.2,J)
  |_=>none
 |.bin op x y=>(x.get env).bind λa=>(y.get env).bind λb=>match a.2,b.2 with
  |.c (.t p),.c (.t q)=>(pH op p q).map λr=>(a.1/\b.1/\r.1,.c (.t r.2),J)
  |_,_=>none
 |.eqAgg neg ks x y=>(x.get env).bind λa=>(y.get env).bind λb=>match a.2,b.2 with
  |.agg p,.agg q=>(k' ks p q).map λr=>(a.1/\b.1,.c (.t (.bool (if neg then !r else r))),J)
  |_,_=>none
 |.eqBool neg x y=>(x.get env).bind λa=>(y.get env).bind λb=>match a.2,b.2 with
  |.c (.t (.bool p)),.c (.t (.bool q))=>some (a.1/\b.1,.c (.t (.bool (if neg then !(p==q)else(p==q)))),J)
  |_,_=>none
 |.not x=>(x.get env).bind λa=>match a.2 with
  |.c (.t (.bool b))=>some (a.1,.c (.t (.bool (!b))),J)
  |_=>none
 |.conv k x=>(x.get env).bind λa=>match a.2 with
  |.c (.t (.int _ m))=>some (a.1,.c (.t (.int k (k.wrap m))),J)
  |_=>none
 |.i2s x=>(x.get env).bind λa=>match a.2 with
  |.c (.t (.int _ m))=>some (a.1,.c (.t (.str (Utf8.encode m).data.toList)),J)
  |_=>none
 |.s2s x=>(x.get env).bind λa=>match a.2 with
  |.c (.t (.str s))=>some (a.1,.c (.t (.str s)),J)
  |_=>none
 |.fldA off x=>(x.get env).bind λa=>match a.2 with
  |.c (.ptr b o)=>some (a.1,.c (.ptr b (o+off)),J)
  |.c (.cG b sz i o)=>some (a.1,.c (.cG b sz i (o+off)),J)
  |.c (.dO ts o)=>some (a.1,.c (.dO ts (o+off)),J)
  |_=>none
 |.fld agg off k x=>(x.get env).bind λa=>match a.2 with
  |.agg cs=>(jG agg k cs off).map λv=>(a.1,v,J)
  |_=>none
 |.idxA sz x i=>(x.get env).bind λa=>(i.get env).bind λj=>match a.2,j.2 with
  |.c (.t (.slice es)),.c (.t (.int _ m))=>some (a.1/\j.1/\0<=m/\m.toNat<es.length/\(el es m.toNat).length=sz,.c (.dO (el es m.toNat) 0),J)
  |.c (.arr b g off len),.c (.t (.int _ m))=>some (a.1/\j.1/\0<=m/\m.toNat<len/\sz=g,.c (.cG b sz (off+m.toNat) 0),J)
  |_,_=>none
 |.idxS x i=>(x.get env).bind λa=>(i.get env).bind λj=>match a.2,j.2 with
  |.c (.t (.str s)),.c (.t (.int _ m))=>some (a.1/\j.1/\0<=m/\m.toNat<s.length,.c (.t (.int .u8 (s.getD m.toNat 0).toNat)),J)
  |_,_=>none
 |.slcS x w A=>(x.get env).bind λa=>(jF env w).bind λl=>(jF env A).bind λh=>match a.2 with
  |.c (.t (.str s))=>
   let b:=h.2.getD s.length;let c:=l.2.getD 0
   some (a.1/\l.1/\h.1/\0<=c/\c<=b/\b<=s.length,.c (.t (.str ((s.take b.toNat).drop c.toNat))),J)
  |_=>none
 |.slc sz x w A=>(x.get env).bind λa=>(jF env w).bind λl=>(jF env A).bind λh=>match a.2 with
  |.c (.t (.slice es))=>
   let b:=h.2.getD es.length;let c:=l.2.getD 0
   some (a.1/\l.1/\h.1/\0<=c/\c<=b/\b<=es.length/\(∀e,e∈es->e.length=sz),.c (.t (.slice ((es.take b.toNat).drop c.toNat))),J)
  |.c (.arr b g off len)=>
   some (a.1/\l.1/\h.1/\0<=l.2.getD 0/\l.2.getD 0<=h.2.getD len/\h.2.getD len<=len/\sz=g,
    .c (if w.isNone then .arr b g off (h.2.getD len).toNat else .fL b g (off+(l.2.getD 0).toNat) ((h.2.getD len).toNat-(l.2.getD 0).toNat)),J)
  |_=>none
 |.slc0 x=>(x.get env).bind λa=>match a.2 with
  |.c (.t (.slice _))|.c .aL|.c (.arr ..)=>some (a.1,.c .aL,J)
  |_=>none
 |.mkfn f caps=>(hv env caps).bind λa=>match ri a.2 with
  |some l=>some (a.1,.c (.fn f l),J)
  |none=>none
 |.ext x i=>(x.get env).bind λa=>match a.2 with
  |.a6 vs=>(vs[i]?).map λv=>(a.1,v,J)
  |_=>none
 |.len str x=>(x.get env).bind λa=>match str,a.2 with
  |false,.c (.t (.slice es))=>some (a.1,.c (.t (.int .i64 es.length)),J)
  |false,.c (.arr _ _ _ l)=>some (a.1,.c (.t (.int .i64 l)),J)
  |false,.c .aL=>some (a.1,.c (.t (.int .i64 0)),J)
  |false,.c (.cb _ l)=>some (a.1,.c (.t (.int .i64 l)),J)
  |true,.c (.t (.str s))=>some (a.1,.c (.t (.int .i64 s.length)),J)
  |_,_=>none
 |.append te sz bytes x y=>(x.get env).bind λa=>(y.get env).bind λd=>
  match l3 a.2 d.2 with
  |some r=>tz J n sz a.1 d.1 r
  |none=>
  (lp J d.2).bind λys=>
  match a.2 with
  |.c .aL=>some (a.1/\d.1/\(∀ e,e∈ys.1->e.length = sz)/\jC ys.1.length bytes/\ys.1.length<=dm,
   .c (.arr n sz 0 ys.1.length),c7 J n (.arr sz ys.1))
  |.c (.arr b g off len)=>match aR J b with
   |some (.arr H es)=>
    if ys.2=some b then none else some (a.1/\d.1/\g=sz/\H=sz/\off=0/\len=es.length/\(∀e,e∈ys.1->e.length=sz)/\jC (es.length+ys.1.length) bytes/\es.length+ys.1.length<=dm,
     .c (.arr n sz 0 (len+ys.1.length)),c7 (gV J b) n (.arr sz (es++ys.1)))
   |_=>none
  |.c (.cb b len)=>match aR J b with
   |some (.buf u es)=>(bytesOf ys.1).map λs=>
    (a.1/\d.1/\u=te/\sz=1/\len=es.length/\ys.1=s.map (λc=>[.int .u8 c.toNat])/\jC (es.length+s.length) bytes/\es.length+s.length<=dm,
     .c (.cb n (len+s.length)),c7 (gV J b) n (.buf u (es++s)))
   |_=>none
  |_=>none
 |.max2 x y=>(x.get env).bind λa=>(y.get env).bind λb=>match a.2,b.2 with
  |.c (.t (.int k p)),.c (.t (.int E q))=>if k=E then some (a.1/\b.1,.c (.t (.int k (max p q))),J)else none
  |_,_=>none
 |.min2 x y=>(x.get env).bind λa=>(y.get env).bind λb=>match a.2,b.2 with
  |.c (.t (.int k p)),.c (.t (.int E q))=>if k=E then some (a.1/\b.1,.c (.t (.int k (min p q))),J)else none
  |_,_=>none
 |.allocS e e8=>some (True,.c (.ptr n 0),c7 (c7 J (n+1) (.buf e8 [])) n (.bT e (.cb (n+1) 0)))
 |.bsliceT _ sz len z parts=>(toTs z).bind λD=>(jB env sz (List.replicate len D) parts).map λa=>(a.1,.c (.t (.slice a.2)),J)
 |.mkset=>some (True,.c (.mp n),c7 J n (.set []))
 |.lkset x k=>(x.get env).bind λa=>(k.get env).bind λd=>match a.2,d.2 with
  |.c (.mp b),.c (.t (.str s))=>match aR J b with
   |some (.set ks)=>some (a.1/\d.1,.c (.t (.bool (iO ks s))),J)
   |_=>none
  |_,_=>none
 |.upset x k=>(x.get env).bind λa=>(k.get env).bind λd=>match a.2,d.2 with
  |.c (.mp b),.c (.t (.str s))=>match aR J b with
   |some (.set ks)=>some (a.1/\d.1,.a6 [],c7 J b (.set (iC ks s)))
   |_=>none
  |_,_=>none
 |.appendB e bytes x y=>(x.get env).bind λa=>(y.get env).bind λd=>match a.2,d.2 with
  |.c (.cb b len),.c (.t (.str s))=>match aR J b with
   |some (.buf u es)=>
    some (a.1/\d.1/\u=e/\len=es.length/\jC (es.length+s.length) bytes/\es.length+s.length<=dm,
     .c (.cb n (len+s.length)),c7 (gV J b) n (.buf e (es++s)))
   |_=>none
  |_,_=>none
 |.sdata x=>(x.get env).bind λa=>match a.2 with
  |.c (.cb b _)=>some (a.1,.c (.eu b),J)
  |_=>none
 |.ustr e x k=>(x.get env).bind λa=>(k.get env).bind λd=>match a.2,d.2 with
  |.c (.eu b),.c (.t (.int .i64 m))=>match aR J b with
   |some (.buf u es)=>some (a.1/\d.1/\u=e/\m=es.length,.c (.t (.str es)),gV J b)
   |_=>none
  |_,_=>none
 |.eqNil .. |.call .. |.hW .. =>none
where ri:List V->Option aW
 |[]=>some []
 |.c (.ptr b 0)::r=>(ri r).map (b::·)
 |_=>none
def zm(ks:List ao)(es:List MapEntry):Prop:=aX (λk e=>e.key= .string ⟨k.toArray⟩/\e.val= .bool true) ks es
def cP(φ:cZ)(w:World)(S:c0)(b:Nat):bP->Prop
 |.box cs=>(φ b).2≠0/\∃(vs:List Value) (E:TypeId),w.heap[(φ b).1]?=some (.cells vs.toArray E (0,0))/\aX (bn φ w S) cs vs/\∀j,¬S (φ b).1 j
 |.arr sz es=>es.length<=(φ b).2/\es.length<=dm/\(∀ e,e∈es->e.length = sz)/\0<sz/\
  ((φ b).2≠0->∃(vs:List Value) (E:TypeId),w.heap[(φ b).1]?=some (.cells vs.toArray E (0,0))/\vs.length=(φ b).2*sz/\
   (∀(i j:Nat) e t,es[i]?=some e->e[j]?=some t->∃v,vs[i*sz+j]?=some v/\bM w S t v)/\∀j,¬S (φ b).1 j)
 |.set ks=>(φ b).2≠0/\(∃(es:List MapEntry) (d:Nat),w.heap[(φ b).1]?=some (.map es.toArray d)/\zm ks es)/\∀j,¬S (φ b).1 j
 |.buf E s=>s.length<=(φ b).2/\s.length<=dm/\
  ((φ b).2≠0->(∃vs:List Value,w.heap[(φ b).1]?=some (.cells vs.toArray E (0,0))/\vs.length=(φ b).2/\
   ∀(i:Nat) c,s[i]?=some c->vs[i]?=some (.int .u8 (UInt8.toNat c)))/\∀j,¬S (φ b).1 j)
 |.bT E c=>(φ b).2≠0/\(∃p v:Value,w.heap[(φ b).1]?=some (.cells #[p,v] E (0,0))/\(p= .pointer none\/p= .pointer (some ⟨(φ b).1,0,none⟩))/\bn φ w S c v)/\∀j,¬S (φ b).1 j
 |.cz sz es i o c=>(es.length<=(φ b).2/\es.length<=dm/\(∀ e,e∈es->e.length = sz)/\0<sz/\i<es.length/\o<sz)/\
  (∃(vs:List Value) (E:TypeId),w.heap[(φ b).1]?=some (.cells vs.toArray E (0,0))/\vs.length=(φ b).2*sz/\
   (∀(a j:Nat) e t,es[a]?=some e->e[j]?=some t->¬(a=i/\j=o)->∃v,vs[a*sz+j]?=some v/\bM w S t v)/\∃v,vs[i*sz+o]?=some v/\bn φ w S c v)/\∀j,¬S (φ b).1 j
structure pE (φ:cZ)(w:World)(S:c0)(J:aZ):Prop where
 blk:∀b x,aR J b=some x->cP φ w S b x
 inj:∀b zQ x y,aR J b=some x->aR J zQ=some y->b≠zQ->(φ b).2≠0->(φ zQ).2≠0->(φ b).1≠(φ zQ).1
 st:∀b j,S b j->b<w.heap.size
structure Ext (B:Nat->Prop)(S bd:c0)(w w':World):Prop where
 os:w'.os=w.os
 tape:w'.tape=w.tape
 output:w'.output=w.output
 size:w.heap.size<=w'.heap.size
 block:∀b:Nat,b<w.heap.size->¬B b->w'.heap[b]?=w.heap[b]?
 mono:gq w S w' bd
 lj:∀b j,bd b j->S b j\/B b\/w.heap.size<=b
def bP.ay(n:Nat->Bool):bP->Bool
 |.box cs=>cs.all (C.ay n)
 |.arr _ _=>true
 |.set _=>true
 |.buf _ _=>true
 |.bT _ c=>c.ay n
 |.cz _ _ _ _ c=>c.ay n
def ins(n:Nat->Bool)(k:Nat):Nat->Bool:=λb=>n b||b==k
structure Ctx where
 kN:World
 v7:c0
 B:Nat->Prop
 RG:cZ
 k:Nat
structure Rel (av:Ctx)(nt:Nat)(φ:cZ)(S:c0)(env:Env)(J:aZ)(n:Nat->Bool)(a:Act)(w:World):Prop where
 bD:pE φ w S J
 fZ:∀(k:Nat) g v,look env k=some (g,v)->g=true->∃x,a.tmps[k]?=some x/\bW φ w S v x
 gN:∀(k:Nat) g v,look env k=some (g,v)->g=false->a.tmps[k]?=some undef
 fY:∀(k:Nat) g v,look env k=some (g,v)->g=true->v.ay n=true
 dG:∀(b:Nat) x,aR J b=some x->n b=true/\x.ay n=true
 size:a.tmps.size=nt
 defers:a.defers=[]
 ext:Ext av.B av.v7 S av.kN w
 own:∀(b:Nat) x,aR J b=some x->(φ b).2≠0->av.B (φ b).1\/av.kN.heap.size<=(φ b).1
 fix:∀b:Nat,b<av.k->φ b=av.RG b
 gy:∀b:Nat,b<av.k->n b=true
variable{c:C}{cF:Nat->Bool}{v:Value}{x y:Operand}{p:Prop}{cs:List C}{o:Oper}{yt e E:TypeId}{f off:Nat}{fs:Array Field}{ts:List T}{vs xs:List Value}{w w':World}{g:Bool×Nat}{agg:Bool}{es ys:List (List T)}{j:Option Operand}{bc:cZ}{J':aZ}{q:Nat×Nat}{α:Type}{place:Nat->Option (Nat×Nat)}{R:T->Value->Prop}
section
variable {P:Program}{av:Ctx}{nt:Nat}{φ:cZ}{S:c0}{env:Env}{J:aZ}{n:Nat->Bool}{key:Nat}{a:Act}{w:World}
def Good(P:Program)(av:Ctx)(nt:Nat)(env:Env)(J':aZ)(cF:Nat->Bool)(a:Act)(v:V)(r:Result Next):Prop:=
 ∃x bc bd w',(r= .ok (.value x) w'\/(r= .ok .skip w'/\x=undef))/\bW bc w' bd v x/\v.ay cF=true/\Rel av nt bc bd env J' cF a w'
theorem Yy{n:Nat->Bool}{k:Nat}:ins n k k=true:=by simp[ins]
theorem kD{n:Nat->Bool}{k b:Nat}(h:n b=true):ins n k b=true:=by grind[ins]
theorem C.hg{n:Nat->Bool}(h:∀b,n b=true->cF b=true)(a:c.ay n=true):c.ay cF=true:=by
 cases c<;>simp[C.ay]at*<;>first|exact h _ a|exactλb e=>h b (a b e)
theorem rA{n:Nat->Bool}:∀{vs:List V},(∀(i:Nat) v,vs[i]?=some v->v.ay n=true)->V.ay.V.dw n vs=true
 |[],_=>rfl
 |v::vs,h=>by
  simp[V.ay.V.dw];exact⟨h 0 v rfl,rA λi v a=>h (i+1) v a⟩
theorem V.hg{n cF:Nat->Bool}(h:∀b,n b=true->cF b=true):∀{v:V},v.ay n=true->v.ay cF=true
 |.c x,a=>by grind[V.ay,C.hg]
 |.agg cs,a=>by
  grind[V.ay,C.hg]
 |.a6 vs,a=>by
  exact go vs a
where go:∀vs,V.ay.V.dw n vs=true->V.ay.V.dw cF vs=true
 |[],_=>rfl
 |v::vs,a=>by
  simp[V.ay.V.dw]at a⊢;exact⟨V.hg h a.1,go vs a.2⟩
theorem bP.hg{n:Nat->Bool}(h:∀b,n b=true->cF b=true){x:bP}(a:x.ay n=true):x.ay cF=true:=by
 cases x with
 |box cs=>
  grind[bP.ay,C.hg]
 |arr=>rfl
 |set=>rfl
 |buf=>rfl
 |bT E c=>grind[bP.ay,C.hg]
 |cz sz es i o c=>grind[bP.ay,C.hg]
theorem Rel.more(R:Rel av nt φ S env J n a w)(h:∀b,n b=true->cF b=true):Rel av nt φ S env J cF a w:=
 ⟨R.bD,R.fZ,R.gN,λk g v ad ak=>V.hg h (R.fY k g v ad ak),λb x c=>⟨h b (R.dG b x c).1,bP.hg h (R.dG b x c).2⟩,R.size,R.defers,R.ext,R.own,R.fix,λb e=>h b (R.gy b e)⟩
theorem Good.pure(R:Rel av nt φ S env J n a w){v:V}{x:Value}{r:Result Next}(e:r= .ok (.value x) w)(f:bW φ w S v x)(c:v.ay n=true):
 Good P av nt env J (ins n key) a v r:=⟨x,φ,S,w,.inl e,f,V.hg (λ_ h=>kD h) c,R.more λ_ h=>kD h⟩
theorem Qe(h:AJ v=some c):bn φ w S c v/\c.ay n=true:=by
 unfold AJ at h;split at h<;>simp at h
 . subst h;exact⟨.bool _,rfl⟩
 . subst h;exact⟨.int _ _,rfl⟩
 . obtain⟨hs,rfl⟩:=h;exact⟨.str _ hs,rfl⟩
 . subst h;exact⟨⟨_,rfl⟩,rfl⟩
 . subst h;exact⟨rfl,rfl⟩
 . subst h;exact⟨rfl,rfl⟩
 . subst h;exact⟨rfl,rfl⟩
theorem FH:∀{vs:List Value} {cs:List C},vf vs=some cs->aX (bn φ w S) cs vs/\cs.all (C.ay n)=true
 |[],cs,h=>by simp[vf]at h;subst h;exact⟨.nil,rfl⟩
 |v::vs,cs,h=>by
  simp[vf,bf,bu]at h;obtain⟨c,b,e,d,rfl⟩:=h;have h1:=Qe (φ:=φ) (w:=w) (S:=S) (n:=n) b;have a:=FH d;exact⟨.cons h1.1 a.1,by grind⟩
theorem Vr{a:V}(h:G5 v=some a):bW φ w S a v/\a.ay n=true:=by
 unfold G5 at h;split at h
 . simp at h;obtain⟨l,ad,rfl⟩:=h;have:=FH (φ:=φ) (w:=w) (S:=S) (n:=n) ad;refine⟨?_,by grind[V.ay]⟩;have e:=bW.agg this.1;omega
 . simp at h;obtain⟨l,ad,rfl⟩:=h;have:=Qe (φ:=φ) (w:=w) (S:=S) (n:=n) ad;exact⟨.c this.1,by grind[V.ay]⟩
theorem cl(R:Rel av nt φ S env J n a w){d:aO}(b:bB x=some d){v:V}(h:d.get env=some (p,v))(aj:p):
 bW φ w S v (a.eval x)/\v.ay n=true:=by
 cases x with
 |tmp t=>
  simp[bB]at b;subst b;simp only[aO.get,bu]at h;obtain⟨⟨g,e⟩,ad,he⟩:=h;obtain⟨rfl,rfl⟩:=he;obtain⟨y,k,j⟩:=R.fZ t g e ad aj;refine⟨?_,R.fY t g e ad aj⟩;simp_all[Act.eval]
 |const c=>
  simp[bB]at b;obtain⟨i,hN,rfl⟩:=b;obtain⟨_,rfl⟩:=h;exact Vr hN
 |global g=>grind[bB]
 |func f=>
  simp[bB]at b;subst b;obtain⟨_,rfl⟩:=h;exact⟨.c (by rfl),by rfl⟩
theorem qb(R:Rel av nt φ S env J n a w):∀{xs:List Operand} {aY:List aO} (_:mH xs=some aY) {p:Prop} {vs:List V} (_:hv env aY=some (p,vs)) (_:p),
 aX (bW φ w S) vs (xs.map a.eval)/\V.ay.V.dw n vs=true
 |[],aY,b,p,vs,h,aj=>by simp[mH]at b;subst b;obtain⟨_,rfl⟩:=h;exact⟨.nil,rfl⟩
 |x::xs,aY,b,p,vs,h,aj=>by
  simp[mH,bf,bu]at b;obtain⟨i,d,j,e,rfl⟩:=b;simp only[hv,bf,bu]at h;obtain⟨⟨q,v⟩,f,⟨k,l⟩,g,he⟩:=h;obtain⟨rfl,rfl⟩:=he;have h1:=cl R d f aj.1;have c:=qb R e g aj.2;exact⟨.cons h1.1 c.1,by grind[V.ay.V.dw]⟩
theorem bW.iX{b:Bool}{x:Value}(h:bW φ w S (.c (.t (.bool b))) x):x= .bool b:=by cases h with|c h=>cases h;rfl
theorem bW.fp{k:IntKind}{m:Int}{x:Value}(h:bW φ w S (.c (.t (.int k m))) x):x= .int k m:=by cases h with|c h=>cases h;rfl
theorem bW.kh{s:ao}{x:Value}(h:bW φ w S (.c (.t (.str s))) x):∃bs:ByteArray,x= .string bs/\bs.data.toList=s/\bs.size<=eo:=by cases h with|c h=>cases h<;>grind
theorem bW.gU{b o:Nat}{x:Value}(h:bW φ w S (.c (.ptr b o)) x):x= .pointer (some ⟨(φ b).1,o,none⟩):=by cases h with|c h=>exact h
theorem bW.iM{b sz i o:Nat}{x:Value}(h:bW φ w S (.c (.cG b sz i o)) x):x= .pointer (some ⟨(φ b).1,i*sz+o,none⟩):=by cases h with|c h=>exact h
theorem bW.lu{x:Value}(h:bW φ w S (.agg cs) x):∃vs:List Value,x= .agg vs.toArray/\aX (bn φ w S) cs vs:=by cases h<;>grind
theorem bW.dT{x:Value}(h:bW φ w S (.c c) x):bn φ w S c x:=by cases h<;>grind
theorem bW.n'(b:Bool):bW φ w S (.c (.t (.bool b))) (.bool b):= .c (.bool b)
theorem bW.mE(k:IntKind)(m:Int):bW φ w S (.c (.t (.int k m))) (.int k m):= .c (.int k m)
theorem H4(R:Rel av nt φ S env J n a w)(b:o.op= .move x\/o.op= .assign x){c:aO}(e:bB x=some c)
 {p v J'}(f:n key=false)(h:aM (.mov c) env J key=some (p,v,J'))(aj:p):Good P av nt env J' (ins n key) a v ((execOp a.eval o).run P w):=by
 simp only[aM,bu]at h;obtain⟨⟨q,u⟩,d,he⟩:=h;obtain⟨rfl,rfl,rfl⟩:=he;have ak:=cl R e d aj;refine Good.pure R ?_ ak.1 ak.2;rcases b with b|b<;>simp[execOp,b]
theorem VX(R:Rel av nt φ S env J n a w){c:Operand}(g:o.op= .pick c x y){ac d e:aO}(l:bB c=some ac)(s:bB x=some d)(t:bB y=some e)
 {p v J'}(u:n key=false)(h:aM (.pick ac d e) env J key=some (p,v,J'))(aj:p):Good P av nt env J' (ins n key) a v ((execOp a.eval o).run P w):=by
 simp only[aM,bf]at h;obtain⟨⟨z,E⟩,m,⟨A,F⟩,q,⟨B,G⟩,r,he⟩:=h;simp at he;split at he
 . rename_i b C D;obtain⟨rfl,rfl,rfl⟩:=he;obtain⟨h1,j,k⟩:=aj;have f:=(cl R l m h1).1.iX;cases b with
   |true=>
    have ex:=(cl R s q (j rfl)).1.iX;exact Good.pure R (by simp[execOp,g,f,asBool,ex]) (.n' _) rfl
   |false=>
    have i:=(cl R t r (k rfl)).1.iX;exact Good.pure R (by simp[execOp,g,f,asBool,i]) (.n' _) rfl
 grind
theorem uw(b:ByteArray):b.data.toList.length=b.size:=by rfl
theorem VY{op:BinOp}{s t r:T}(h:pH op s t=some (p,r))(aj:p){ty:TypeId}{x y:Value}(c:bM w S s x)(d:bM w S t y):
 ∃z,(binOp op ty x y).run P w= .ok z w/\bM w S r z:=by
 have f:∀a b:ao,(a==b)=decide (a=b):=λa b=>by grind
 unfold pH at h;split at h<;>(first|simp only[ey,dP]at h|cases h)
 all_goals cases c;cases d
 case h_1=>obtain⟨rfl,rfl,rfl⟩:=h;exact⟨_,by simp[binOp,Op.intArith],.int _ _⟩
 case h_2=>obtain⟨rfl,rfl,rfl⟩:=h;exact⟨_,by simp[binOp,Op.intArith],.int _ _⟩
 case h_3=>obtain⟨rfl,rfl,rfl⟩:=h;exact⟨_,by simp[binOp,Op.intArith],.int _ _⟩
 case h_4=>obtain⟨rfl,rfl,rfl⟩:=h;exact⟨_,by simp[binOp,Op.intDiv,aj],.int _ _⟩
 case h_5=>obtain⟨rfl,rfl,rfl⟩:=h;exact⟨_,by simp[binOp,Op.intDiv,aj],.int _ _⟩
 case h_6=>obtain⟨rfl,rfl,rfl⟩:=h;exact⟨_,by simp[binOp,Op.intBits],.int _ _⟩
 case h_7=>obtain⟨rfl,rfl,rfl⟩:=h;exact⟨_,by simp[binOp,Op.intBits],.int _ _⟩
 case h_8=>obtain⟨rfl,rfl,rfl⟩:=h;exact⟨_,by simp[binOp,Op.intBits],.int _ _⟩
 case h_9=>obtain⟨rfl,rfl,rfl⟩:=h;exact⟨_,by simp[binOp,Op.intBits],.int _ _⟩
 case h_10=>obtain⟨rfl,rfl⟩:=h;exact⟨_,by simp_all[binOp,Op.shift,al],.int _ _⟩
 case h_11=>obtain⟨rfl,rfl⟩:=h;exact⟨_,by simp_all[binOp,Op.shift,al],.int _ _⟩
 case h_12=>obtain⟨rfl,rfl,rfl⟩:=h;exact⟨_,by simp[binOp,Op.intCmp];rfl,.bool _⟩
 case h_13=>obtain⟨rfl,rfl,rfl⟩:=h;exact⟨_,by simp[binOp,Op.intCmp,bne,BEq.beq],.bool _⟩
 case h_14=>obtain⟨rfl,rfl,rfl⟩:=h;exact⟨_,by simp[binOp,Op.intCmp],.bool _⟩
 case h_15=>obtain⟨rfl,rfl,rfl⟩:=h;exact⟨_,by simp[binOp,Op.intCmp],.bool _⟩
 case h_16=>obtain⟨rfl,rfl,rfl⟩:=h;exact⟨_,by simp[binOp,Op.intCmp],.bool _⟩
 case h_17=>obtain⟨rfl,rfl,rfl⟩:=h;exact⟨_,by simp[binOp,Op.intCmp],.bool _⟩
 case h_18 s hs t ht=>
  obtain⟨rfl,rfl⟩:=h;simp only[uw]at aj;have e:(s++t).data.toList=s.data.toList++t.data.toList:=by rfl
  refine⟨.string (s++t),?_,e▸.str _ (by grind)⟩;have:¬(((s.size+t.size:Nat):Int)>IntKind.i64.max):=by grind[IntKind.max,eo,IntKind.signed,IntKind.bits]
  simp_all[binOp,Op.stringOp,al]
 case h_19 s hs t ht=>obtain⟨rfl,rfl⟩:=h;exact⟨_,by simp_all[binOp,Op.stringOp,ByteArray.toList_eq],.bool _⟩
 case h_20 s hs t ht=>obtain⟨rfl,rfl⟩:=h;exact⟨_,by simp_all[binOp,Op.stringOp,ByteArray.toList_eq],.bool _⟩
 case h_21 s hs t ht=>obtain⟨rfl,rfl⟩:=h;exact⟨_,by simp_all[binOp,Op.stringOp,ByteArray.toList_eq],.bool _⟩
 case h_22 s hs t ht=>obtain⟨rfl,rfl⟩:=h;exact⟨_,by simp_all[binOp,Op.stringOp,ByteArray.toList_eq],.bool _⟩
 case h_23 s hs t ht=>obtain⟨rfl,rfl⟩:=h;exact⟨_,by simp_all[binOp,Op.stringOp,ByteArray.toList_eq],.bool _⟩
 case h_24 s hs t ht=>obtain⟨rfl,rfl⟩:=h;exact⟨_,by simp_all[binOp,Op.stringOp,ByteArray.toList_eq],.bool _⟩
theorem FU{op:BinOp}{ty:TypeId}{u:Value}(h1:u≠.nilIface)(a:∀cs,u≠.agg cs):(eqGuard op ty x y u v).run P w= .ok () w:=by
 simp_all[eqGuard]
theorem bM.guard{t:T}{u:Value}(h:bM w S t u):u≠.nilIface/\∀cs,u≠.agg cs:=by
 cases h<;>exact⟨by simp,by simp⟩
theorem Rs{ty:TypeId}(b:P.underlying ty=some .bool)(b1 b2:Bool):(Op.equal ty (.bool b1) (.bool b2)).run P w= .ok (b1==b2) w:=by
 obtain⟨d,a⟩:∃d,Op.maxDepth=d+1:=⟨9999,rfl⟩
 unfold Op.equal;rw[a];unfold Op.equalIn;simp only[Sem.run_bind,run_underlying b];rfl
theorem Gw(R:Rel av nt φ S env J n a w){op:BinOp}{ty:TypeId}(s:o.op= .binOp op ty x y yt){b d:aO}(j:bB x=some b)(k:bB y=some d)
 {p v J'}(q:n key=false)(h:aM (.bin op b d) env J key=some (p,v,J'))(aj:p):Good P av nt env J' (ins n key) a v ((execOp a.eval o).run P w):=by
 simp only[aM,bf]at h;obtain⟨⟨A,C⟩,f,⟨B,D⟩,g,he⟩:=h;simp at he;split at he
 . simp only[bu]at he;obtain⟨⟨u,r⟩,i,rfl,rfl,rfl⟩:=he;have h1:=(cl R j f aj.1).1.dT;have e:=(cl R k g aj.2.1).1.dT;obtain⟨z,t,l⟩:=VY (P:=P) (ty:=ty) i aj.2.2 h1 e;refine Good.pure R ?_ (.c l) rfl;have m:(eqGuard op ty x y _ (a.eval y)).run P w= .ok _ w:=FU (bM.guard h1).1 (bM.guard h1).2;simp_all[execOp]
 grind
theorem UZ(R:Rel av nt φ S env J n a w){op:BinOp}{ty:TypeId}(q:o.op= .binOp op ty x y yt)(f:op= .eql\/op= .neq)(r:P.underlying ty=some .bool)
 {b c:aO}(g:bB x=some b)(i:bB y=some c)
 {p v J'}(m:n key=false)(h:aM (.eqBool (op== .neq) b c) env J key=some (p,v,J'))(aj:p):Good P av nt env J' (ins n key) a v ((execOp a.eval o).run P w):=by
 simp only[aM,bf]at h;obtain⟨⟨s,u⟩,d,⟨t,z⟩,e,he⟩:=h;simp at he;split at he
 . rename_i b1 b2;obtain⟨rfl,rfl,rfl⟩:=he;have h1:=(cl R g d aj.1).1.iX;have l:=(cl R i e aj.2).1.iX;refine Good.pure R ?_ (.n' _) rfl;have j:(eqGuard op ty x y (a.eval x) (a.eval y)).run P w= .ok _ w:=FU (by grind) (by grind);have k:(binOp op ty (a.eval x) (a.eval y)).run P w= .ok (.bool (if(op== .neq)then !(b1==b2)else(b1==b2))) w:=by
    rcases f with rfl|rfl
    . simp_all[binOp,Rs]
    simp_all[binOp,Rs]
   simp_all[execOp]
 grind
theorem XY(R:Rel av nt φ S env J n a w){ty:TypeId}(d:o.op= .unOp .not ty x){b:aO}(e:bB x=some b)
 {p v J'}(f:n key=false)(h:aM (.not b) env J key=some (p,v,J'))(aj:p):Good P av nt env J' (ins n key) a v ((execOp a.eval o).run P w):=by
 simp only[aM,bf]at h;obtain⟨⟨g,i⟩,c,he⟩:=h;simp at he;split at he
 . obtain⟨rfl,rfl,rfl⟩:=he;have h1:=(cl R e c aj).1.iX;exact Good.pure R (by simp[execOp,d,h1,Op.unary]) (.n' _) rfl
 grind
theorem XZ(R:Rel av nt φ S env J n a w){ty:TypeId}{k:IntKind}(i:o.op= .unOp .neg ty x){b:aO}(j:bB x=some b)
 {p v J'}(l:n key=false)(h:aM (.bin .sub (.const (.c (.t (.int k 0)))) b) env J key=some (p,v,J'))(aj:p):Good P av nt env J' (ins n key) a v ((execOp a.eval o).run P w):=by
 simp only[aM,aO.get,aq,bf]at h;obtain⟨⟨q,s⟩,g,he⟩:=h;simp only at he;split at he
 . rename_i t1 t2 aK;cases aK;simp only[bu]at he;obtain⟨⟨m,r⟩,d,rfl,rfl,rfl⟩:=he;have e:=(cl R j g aj.2.1).1;cases t2<;>simp only[pH,reduceCtorEq,ey]at d;obtain⟨rfl,rfl,rfl⟩:=d;have f:=e.fp;exact Good.pure R (by simp[execOp,i,f,Op.unary,Op.intArith]) (.mE _ _) rfl
 grind
theorem X0(R:Rel av nt φ S env J n a w){ty:TypeId}{k:IntKind}(i:o.op= .unOp .xor ty x){b:aO}(j:bB x=some b)
 {p v J'}(l:n key=false)(h:aM (.bin .xor (.const (.c (.t (.int k (if k.signed then -1 else k.max))))) b) env J key=some (p,v,J'))(aj:p):Good P av nt env J' (ins n key) a v ((execOp a.eval o).run P w):=by
 simp only[aM,aO.get,aq,bf]at h;obtain⟨⟨q,s⟩,g,he⟩:=h;simp only at he;split at he
 . rename_i t1 t2 aK;cases aK;simp only[bu]at he;obtain⟨⟨m,r⟩,d,rfl,rfl,rfl⟩:=he;have e:=(cl R j g aj.2.1).1;cases t2<;>simp only[pH,reduceCtorEq,ey]at d;obtain⟨rfl,rfl,rfl⟩:=d;have f:=e.fp;exact Good.pure R (by simp[execOp,i,f,Op.unary,Op.intBits]) (.mE _ _) rfl
 grind
theorem VZ(R:Rel av nt φ S env J n a w){s d:TypeId}(f:o.op= .convert s d x){i k:IntKind}(hs:P.underlying s=some (.int i))(c:P.underlying d=some (.int k)){b:aO}(g:bB x=some b)
 {p v J'}(j:n key=false)(h:aM (.conv k b) env J key=some (p,v,J'))(aj:p):Good P av nt env J' (ins n key) a v ((execOp a.eval o).run P w):=by
 simp only[aM,bf]at h;obtain⟨⟨l,m⟩,e,he⟩:=h;simp at he;split at he
 . obtain⟨rfl,rfl,rfl⟩:=he;have h1:=(cl R g e aj).1.fp;exact Good.pure R (by simp[execOp,f,h1,convert,underlying,hs,c,Conv.intToInt]) (.mE _ _) rfl
 grind
theorem U0(m:Int):(Utf8.encode m).size<=eo:=by
 unfold eo Utf8.encode;dsimp
 (repeat' split)<;>simp[ByteArray.size]
theorem X1(R:Rel av nt φ S env J n a w){s d:TypeId}(g:o.op= .convert s d x){j:IntKind}(hs:P.underlying s=some (.int j))(e:P.underlying d=some .string){b:aO}(i:bB x=some b)
 {p v J'}(k:n key=false)(h:aM (.i2s b) env J key=some (p,v,J'))(aj:p):Good P av nt env J' (ins n key) a v ((execOp a.eval o).run P w):=by
 simp only[aM,bf]at h;obtain⟨⟨l,m⟩,f,he⟩:=h;simp at he;split at he
 . obtain⟨rfl,rfl,rfl⟩:=he;have h1:=(cl R i f aj).1.fp;exact Good.pure R (by simp[execOp,g,h1,convert,underlying,hs,e,Conv.intToString]) (.c (.str _ (U0 _))) rfl
 grind
theorem X2(R:Rel av nt φ S env J n a w){s d:TypeId}(f:o.op= .convert s d x)(hs:P.underlying s=some .string)(c:P.underlying d=some .string){b:aO}(g:bB x=some b)
 {p v J'}(i:n key=false)(h:aM (.s2s b) env J key=some (p,v,J'))(aj:p):Good P av nt env J' (ins n key) a v ((execOp a.eval o).run P w):=by
 simp only[aM,bf]at h;obtain⟨⟨j,k⟩,e,he⟩:=h;simp at he;split at he
 . obtain⟨rfl,rfl,rfl⟩:=he;have ak:=cl R g e aj;obtain⟨bs,h1,rfl,_⟩:=ak.1.kh;refine Good.pure R ?_ (h1▸ak.1) rfl;simp[execOp,f,h1,convert,underlying,hs,c]
 grind
theorem Vk(R:Rel av nt φ S env J n a w)(f:o.op= .nilCheck x){b:aO}(d:bB x=some b)
 {p v J'}(e:n key=false)(h:aM (.nilCheck b) env J key=some (p,v,J'))(aj:p):Good P av nt env J' (ins n key) a v ((execOp a.eval o).run P w):=by
 simp only[aM,bf]at h;obtain⟨⟨g,i⟩,c,he⟩:=h;simp at he;split at he<;>simp only[dP,reduceCtorEq]at he
 all_goals
  obtain⟨rfl,rfl,rfl⟩:=he;have ak:=cl R d c aj;have h1:=ak.1.dT;refine Good.pure R ?_ ak.1 ak.2
 . simp_all[bn,execOp]
 . simp_all[bn,execOp]
 . obtain⟨_,_,_,h1,_⟩:=h1;simp_all[execOp]
theorem V0(R:Rel av nt φ S env J n a w){ty:TypeId}(u:o.op= .fieldAddr ty x f)(z:P.underlying ty=some (.struct fs)){d:Field}(r:fs[f]?=some d)
 {m:Nat}(j:eg P d.type=some m)(t:m≠0){g:aO}(q:bB x=some g)
 {p v J'}(s:n key=false)(h:aM (.fldA d.offset g) env J key=some (p,v,J'))(aj:p):Good P av nt env J' (ins n key) a v ((execOp a.eval o).run P w):=by
 simp only[aM,bf]at h;obtain⟨⟨B,C⟩,k,he⟩:=h;simp at he;have A:∀w,(underlying ty).run P w= .ok (.struct fs) w:=by simp_all[underlying]
 have y:∀w,(sizeOf d.type).run P w= .ok m w:=by simp[eg]at j;obtain⟨i,l,rfl⟩:=j;simp[sizeOf,typeInfo,l]
 have e:∀(b off:Nat),a.eval x= .pointer (some ⟨b,off,none⟩)->(execOp a.eval o).run P w= .ok (.value (.pointer (some ⟨b,off+d.offset,none⟩))) w:=by
  simp_all[execOp,Instr.fieldAt,Instr.sureAddr,fieldPlace,Addr.add]
 split at he<;>simp only[dP,reduceCtorEq]at he
 all_goals
  obtain⟨rfl,rfl,rfl⟩:=he;have ak:=cl R q k aj;have h1:=ak.1.dT
 . exact Good.pure R (e _ _ h1) (.c rfl) ak.2
 . exact Good.pure R (e _ _ h1) (.c (by simp[bn,Nat.add_assoc])) ak.2
 . obtain⟨blk,off,f,h1,aa⟩:=h1;exact Good.pure R (e _ _ h1) (.c ⟨blk,off,f,by grind,aa⟩) ak.2
theorem aX.adU(h:aX (bM w S) ts vs):aX (bn φ w S) (ts.map .t) vs:=by
 induction h with
 |nil=>exact .nil
 |cons h _ ih=>exact .cons h ih
theorem H5(n:Nat->Bool)(ts:List T):(ts.map C.t).all (C.ay n)=true:=by simp[C.ay]
theorem sA{ty:TypeId}{g:Bool}(ak:oQ P ty=some g)(w:World):(isAgg ty).run P w= .ok g w:=by
 unfold oQ at ak;split at ak<;>simp_all [isAgg,underlying]
theorem i'{ty:TypeId}{k:Nat}(a:eg P ty=some k)(w:World):(sizeOf ty).run P w= .ok k w:=by
 simp[eg]at a;obtain⟨i,b,rfl⟩:=a;simp[sizeOf,typeInfo,b]
theorem Fs{ty:TypeId}(h:mu P ty=some g):oQ P ty=some g.1/\eg P ty=some g.2/\(g.1=false->g.2=1):=by
 grind[mu,bf]
theorem Qf{ty:TypeId}{g:Bool}{k:Nat}(ak:oQ P ty=some g)(d:eg P ty=some k){b o:Nat}
 (a:∀j,j<k->w.cell? ⟨b,o+j,none⟩=vs[j]?)(ad:vs.length=k)(h1:g=false->k=1):
 (loadVar ty ⟨b,o,none⟩).run P w= .ok (if g then .agg vs.toArray else vs.getD 0 undef) w:=by
 cases g with
 |true=>
  have:=run_loadCells_list (P:=P) w ⟨b,o,none⟩ vs (λj v c=>by
   grind[Addr.add])
  simp_all[loadVar,sA,i']
 |false=>
  simp_all[loadVar,sA]
theorem bn.single(h:bn φ w S c v):v.cells=#[v]:=by
 have:=bn.iR h;cases v<;>simp[Value.oneCell']at this<;>rfl
theorem nE{v:V}{x:Value}(h:bW φ w S v x)(a:oR v=some cs)(b:v.ay n=true):aX (bn φ w S) cs x.cells.toList/\cs.all (C.ay n)=true:=by
 cases h with
 |c h=>
  simp[oR]at a;subst a;rw[bn.single h];exact⟨.cons h .nil,by grind[V.ay]⟩
 |agg h=>
  grind[oR,Value.cells,V.ay]
 |a6=>grind[oR]
theorem Qg{k o:Nat}{v:V}(h:aX (bn φ w S) cs vs)(e:cs.all (C.ay n)=true)(ad:jG agg k cs o=some v)(h1:agg=false->k=1):
 o+k<=cs.length/\bW φ w S v (if agg then .agg ((vs.drop o).take k).toArray else((vs.drop o).take k).getD 0 undef)/\v.ay n=true:=by
 unfold jG at ad;cases agg with
 |true=>
  simp at ad;obtain⟨b,rfl⟩:=ad;refine⟨b,?_,by grind[V.ay]⟩;simpa using bW.agg ((h.drop o).take k)
 |false=>
  have:=h1 rfl;subst this;simp at ad;obtain⟨c,a,rfl⟩:=ad;obtain⟨x,f,d⟩:=h.get a;have aE:=(dV.1 a).1;refine⟨by omega,?_,?_⟩
  . have:((vs.drop o).take 1).getD 0 undef=x:=(by grind);simp only[this];exact .c d
  grind[V.ay]
theorem Ip{k o:Nat}{v:V}(ad:loadT agg k ts o=some v):jG agg k (ts.map .t) o=some v:=by
 unfold loadT at ad;unfold jG;cases agg<;>simp_all
theorem Yz{ty:TypeId}{g:Bool}{k:Nat}(ak:oQ P ty=some g)(a:eg P ty=some k)(h1:g=false->k=1)(b:off+k<=vs.length):
 (part ty vs.toArray off).run P w= .ok (if g then .agg ((vs.drop off).take k).toArray else((vs.drop off).take k).getD 0 undef) w:=by
 cases g with
 |true=>
  simp_all[part,sA,i']
 |false=>
  have:=h1 rfl;have aE:off<vs.length:=by omega
  simp_all[part,sA]
theorem X3(R:Rel av nt φ S env J n a w){ty:TypeId}(r:o.op= .field ty x f)(u:P.underlying ty=some (.struct fs)){b:Field}(j:fs[f]?=some b)
 {m:Nat}(q:eg P b.type=some m){g:Bool}(ak:oQ P b.type=some g)(h1:g=false->m=1){c:aO}(A:bB x=some c)
 {p v J'}(B:n key=false)(h:aM (.fld g b.offset m c) env J key=some (p,v,J'))(aj:p):Good P av nt env J' (ins n key) a v ((execOp a.eval o).run P w):=by
 simp only[aM,bf]at h;obtain⟨⟨C,D⟩,k,he⟩:=h;simp at he;split at he
 . simp only[bu]at he;obtain⟨v0,y,rfl,rfl,rfl⟩:=he;have e:=cl R A k aj;obtain⟨vs,z,d⟩:=e.1.lu;obtain⟨l,t,i⟩:=Qg d (by simpa[V.ay]using e.2) y h1;have s:=Yz (w:=w) ak q h1 (by rw[<-d.length];exact l);exact Good.pure R (by simp[execOp,r,z,Instr.field,underlying,u,j,asAgg,s]) t i
 grind
theorem X4(R:Rel av nt φ S env J n a w){i:Nat}(q:o.op= .extract x i){b:aO}(g:bB x=some b)
 {p v J'}(m:n key=false)(h:aM (.ext b i) env J key=some (p,v,J'))(aj:p):Good P av nt env J' (ins n key) a v ((execOp a.eval o).run P w):=by
 simp only[aM,bf]at h;obtain⟨⟨r,s⟩,e,he⟩:=h;simp at he;split at he
 . simp only[bu]at he;obtain⟨v0,d,rfl,rfl,rfl⟩:=he;have c:=cl R g e aj;generalize k:a.eval x=y at c;obtain⟨f,l⟩:=c;cases f with
   |a6 _ xs ad aa=>
    have aE:i<xs.length:=(by grind);have j:=eF aE;refine Good.pure R ?_ (aa i _ _ d j) (mo (by grind[V.ay]) d);simp_all[execOp,Instr.extract]
 grind
theorem V1(R:Rel av nt φ S env J n a w){x y:Operand}{d:Array TypeId}(i:o.op= .call {callee:= .builtin .max,args:=#[x,y],argTypes:=d}){b c:aO}(j:bB x=some b)(l:bB y=some c)
 {p v J'}(m:n key=false)(h:aM (.max2 b c) env J key=some (p,v,J'))(aj:p):Good P av nt env J' (ins n key) a v ((execOp a.eval o).run P w):=by
 simp only[aM,bf]at h;obtain⟨⟨s,u⟩,f,⟨t,z⟩,g,he⟩:=h;simp at he;split at he
 . rename_i k p r q;simp only[ey]at he;obtain⟨rfl,rfl,rfl,rfl⟩:=he;have h1:=(cl R j f aj.1).1.fp;have e:=(cl R l g aj.2).1.fp;refine Good.pure R ?_ (.mE _ _) rfl;have:(if p<q then q else p)=max p q:=(by omega);simp[execOp,i,invoke,builtin,Builtin.max_,Builtin.max2,h1,e,Go.resolve,this]
 grind
theorem VF(R:Rel av nt φ S env J n a w){x y:Operand}{d:Array TypeId}(i:o.op= .call {callee:= .builtin .min,args:=#[x,y],argTypes:=d}){b c:aO}(j:bB x=some b)(l:bB y=some c)
 {p v J'}(m:n key=false)(h:aM (.min2 b c) env J key=some (p,v,J'))(aj:p):Good P av nt env J' (ins n key) a v ((execOp a.eval o).run P w):=by
 simp only[aM,bf]at h;obtain⟨⟨s,u⟩,f,⟨t,z⟩,g,he⟩:=h;simp at he;split at he
 . rename_i k p r q;simp only[ey]at he;obtain⟨rfl,rfl,rfl,rfl⟩:=he;have h1:=(cl R j f aj.1).1.fp;have e:=(cl R l g aj.2).1.fp;refine Good.pure R ?_ (.mE _ _) rfl;have:(if q<p then q else p)=min p q:=(by omega);simp[execOp,i,invoke,builtin,Builtin.min_,Builtin.min2,h1,e,Go.resolve,this]
 grind
theorem bM.jm(h:bM w S (.slice es) v):∃(a:Option Addr) (cap sz b o:Nat) (f:Nat->Nat->Value),v= .slice a es.length cap/\es.length<=cap/\es.length<=dm/\(∀e,e∈es->e.length=sz)/\(es≠[]->a=some ⟨b,o,none⟩)/\
 (∀i j:Nat,i<es.length->j<sz->S b (o+i*sz+j)/\w.cell? ⟨b,o+i*sz+j,none⟩=some (f i j))/\(∀(i j:Nat) e t,es[i]?=some e->e[j]?=some t->bM w S t (f i j)):=by
 cases h;exact⟨_,_,_,_,_,_,rfl,by grind,by grind,by omega,by omega,by omega,by grind⟩
theorem bn.g'{b sz len:Nat}(h:bn φ w S (.arr b sz off len) v):∃a,v= .slice a len ((φ b).2-off)/\((φ b).2≠0->a=some ⟨(φ b).1,off*sz,none⟩)/\off+len<=(φ b).2:=h
theorem X5(R:Rel av nt φ S env J n a w){x:Operand}{ty:TypeId}(f:o.op= .call {callee:= .builtin .len,args:=#[x],argTypes:=#[ty]}){str:Bool}
 (d:if str then P.underlying ty=some .string else ∃e,P.underlying ty=some (.slice e)){g:aO}(k:bB x=some g)
 {p v J'}(m:n key=false)(h:aM (.len str g) env J key=some (p,v,J'))(aj:p):Good P av nt env J' (ins n key) a v ((execOp a.eval o).run P w):=by
 simp only[aM,bf]at h;obtain⟨⟨s,t⟩,j,he⟩:=h;simp at he;split at he<;>simp only[dP,ef,reduceCtorEq]at he
 all_goals
  obtain⟨rfl,rfl,rfl⟩:=he;have h1:=(cl R k j aj).1.dT
 . obtain⟨e,d⟩:=d;obtain⟨bX,cap,_,_,_,_,h1,_⟩:=bM.jm h1;exact Good.pure R (by simp[execOp,f,Go.resolve,invoke,builtin,Builtin.len_,underlying,d,h1,goInt]) (.mE _ _) rfl
 . obtain⟨e,d⟩:=d;obtain⟨bX,h1,_⟩:=bn.g' h1;exact Good.pure R (by simp[execOp,f,Go.resolve,invoke,builtin,Builtin.len_,underlying,d,h1,goInt]) (.mE _ _) rfl
 . obtain⟨e,d⟩:=d;obtain⟨bX,h1⟩:=h1;exact Good.pure R (by simp[execOp,f,Go.resolve,invoke,builtin,Builtin.len_,underlying,d,h1,goInt]) (.mE _ _) rfl
 . obtain⟨e,d⟩:=d;rename_i b l;obtain⟨bX,cap,h1⟩:∃bX cap,a.eval x= .slice bX l cap:=by
    obtain⟨q,r,bb⟩:=h1;grind
   exact Good.pure R (by simp[execOp,f,Go.resolve,invoke,builtin,Builtin.len_,underlying,d,h1,goInt]) (.mE _ _) rfl
 . simp at d;obtain⟨bs,i,rfl,_⟩:=bW.kh (.c h1);exact Good.pure R (x:= .int .i64 bs.size) (by simp[execOp,f,Go.resolve,invoke,builtin,Builtin.len_,underlying,d,i,goInt]) (by exact .mE _ _) rfl
theorem VG(R:Rel av nt φ S env J n a w){ty:TypeId}{i:Operand}(F:o.op= .indexAddr ty x i)(H:P.underlying ty=some (.slice e)){sz:Nat}(G:eg P e=some sz)(h0:sz≠0)
 {z y:aO}(I:bB x=some z)(E:bB i=some y)
 {p v J'}(U:n key=false)(h:aM (.idxA sz z y) env J key=some (p,v,J'))(aj:p):Good P av nt env J' (ins n key) a v ((execOp a.eval o).run P w):=by
 simp only[aM,bf]at h;obtain⟨⟨ab,ae⟩,D,⟨aa,ad⟩,B,he⟩:=h;simp only at he;have A:∀(b off m:Nat),Addr.add ⟨b,off,none⟩ (m*sz)=⟨b,off+m*sz,none⟩:=by
  grind[Addr.add]
 split at he
 . rename_i es k m;obtain⟨rfl,rfl,rfl⟩:=he;obtain⟨s,u,r,K,Q⟩:=aj;have h1:=(cl R I D s).1.dT;have g:=(cl R E B u).1.fp;obtain⟨bX,cap,d,b,off,f,h1,O,X,Y,l,N,Z⟩:=bM.jm h1;have L:es≠[]:=(by grind);have T:es[m.toNat]?=some (el es m.toNat):=(by grind[el]);have M:d=sz:=(by grind);subst M;rw[l L]at h1;refine Good.pure R (x:= .pointer (some ⟨b,off+m.toNat*d,none⟩)) ?_ ?_ rfl
   . have q:0<=m/\m<es.length:=⟨r,by omega⟩
     simp[execOp,F,h1,g,Instr.indexAt,asIntOf,underlying,H,q,i' G,A]
   . refine .c ⟨b,off+m.toNat*d,λj=>f m.toNat j,by rfl,λj t ht=>?_⟩;grind
 . rename_i b d off len k m;obtain⟨rfl,rfl,rfl⟩:=he;obtain⟨s,u,r,K,rfl⟩:=aj;have ak:=cl R I D s;have h1:=ak.1.dT;have g:=(cl R E B u).1.fp;obtain⟨bX,h1,l,W⟩:=bn.g' h1;rw[l (by omega)]at h1;refine Good.pure R (x:= .pointer (some ⟨(φ b).1,off*sz+m.toNat*sz,none⟩)) ?_ (.c ?_) (by grind[V.ay,C.ay])
   . have q:0<=m/\m<len:=⟨r,by omega⟩
     simp[execOp,F,h1,g,Instr.indexAt,asIntOf,underlying,H,q,i' G,A]
   grind[bn]
 grind
theorem VH(R:Rel av nt φ S env J n a w){ty:TypeId}{i:Operand}(r:o.op= .index ty x i)(y:P.underlying ty=some .string)
 {c b:aO}(z:bB x=some c)(j:bB i=some b)
 {p v J'}(A:n key=false)(h:aM (.idxS c b) env J key=some (p,v,J'))(aj:p):Good P av nt env J' (ins n key) a v ((execOp a.eval o).run P w):=by
 simp only[aM,bf]at h;obtain⟨⟨C,E⟩,g,⟨B,D⟩,f,he⟩:=h;simp at he;split at he
 . rename_i s k m;obtain⟨rfl,rfl,rfl⟩:=he;obtain⟨t,u,l,q⟩:=aj;obtain⟨bs,h1,rfl,hs⟩:=(cl R z g t).1.kh;have d:=(cl R j f u).1.fp;have aE:m.toNat<bs.size:=(by simp_all);refine Good.pure R ?_ (.mE _ _) rfl;have e:bs[m.toNat]?=some (bs.data.toList.getD m.toNat 0):=by
    rw[getElem?_pos bs _ _];simp[eF q];rfl
   simp[execOp,r,h1,d,Instr.index,asIntOf,underlying,y,l,e]
 grind
theorem QC:∀{vs:List V} {l:aW} {xs:List Value},aM.ri vs=some l->aX (bW φ w S) vs xs->V.ay.V.dw n vs=true->
 xs=l.map (λb=>Value.pointer (some ⟨(φ b).1,0,none⟩))/\(l.all λb=>n b)=true
 |[],l,xs,h,a,c=>by simp[aM.ri]at h;subst h;cases a;simp
 |v::vs,l,xs,h,a,c=>by
  cases a with
  |cons d ht=>
   unfold aM.ri at h;split at h
   . grind
   . rename_i b r e;cases e;simp at h;obtain⟨i,f,rfl⟩:=h;simp[V.ay.V.dw]at c;obtain⟨rfl,g⟩:=QC f ht c.2;have:=d.gU;grind[V.ay,C.ay]
   grind
theorem VI(R:Rel av nt φ S env J n a w){caps:Array Operand}(k:o.op= .makeFunc (.func f) #[] caps){d:List aO}(g:mH caps.toList=some d)
 {p v J'}(j:n key=false)(h:aM (.mkfn f d) env J key=some (p,v,J'))(aj:p):Good P av nt env J' (ins n key) a v ((execOp a.eval o).run P w):=by
 simp only[aM,bf]at h;obtain⟨⟨m,vs⟩,e,he⟩:=h;split at he
 . rename_i l ad;obtain⟨rfl,rfl,rfl⟩:=he;have ak:=qb R g e aj;obtain⟨h1,i⟩:=QC ad ak.1 ak.2;refine Good.pure R ?_ (.c rfl) (by grind[V.ay,C.ay]);have:caps.map a.eval=(l.map λb=>Value.pointer (some ⟨(φ b).1,0,none⟩)).toArray:=(by grind);simp_all[execOp,Instr.makeFunc]
 grind
theorem qc(R:Rel av nt φ S env J n a w){x:Option Operand}{b:Option aO}(c:ke x=some b){m:Option Int}(h:jF env b=some (p,m))(aj:p):
 (x.map a.eval=none/\m=none)\/∃k i,x.map a.eval=some (.int k i)/\m=some i:=by
 cases x with
 |none=>grind[ke,jF]
 |some x=>
  simp[ke]at c;obtain⟨f,d,rfl⟩:=c;simp only[jF,bf]at h;obtain⟨⟨q,v⟩,e,he⟩:=h;simp at he;split at he
  . obtain⟨rfl,rfl⟩:=he;have:=(cl R d e aj).1.fp;grind
  grind
theorem By {isSlice:Bool}{len cap:Nat}{b a:Option Value}{l h:Option Int}(d:(b=none/\l=none)\/∃k i,b=some (.int k i)/\l=some i)(c:(a=none/\h=none)\/∃k i,a=some (.int k i)/\h=some i)
 (h0:0<=l.getD 0)(h1:l.getD 0<=h.getD len)(e:h.getD len<=len)(f:len<=cap):
 (Instr.sliceBounds isSlice len cap b a none).run P w= .ok ((l.getD 0).toNat,(h.getD len).toNat,cap) w:=by
 have g:h.getD len<=cap:=by omega
 rcases d with⟨rfl,rfl⟩|⟨k,i,rfl,rfl⟩<;>rcases c with⟨rfl,rfl⟩|⟨m,j,rfl,rfl⟩<;>simp_all [Instr.sliceBounds,Instr.sliceBound,asIntOf];grind
theorem VJ(R:Rel av nt φ S env J n a w){ty:TypeId}{i:Option Operand}(u:o.op= .slice ty x j i none)(B:P.underlying ty=some .string)
 {f:aO}{d b:Option aO}(C:bB x=some f)(t:ke j=some d)(s:ke i=some b)
 {p v J'}(E:n key=false)(h:aM (.slcS f d b) env J key=some (p,v,J'))(aj:p):Good P av nt env J' (ins n key) a v ((execOp a.eval o).run P w):=by
 simp only[aM,bf]at h;obtain⟨⟨G,H⟩,r,⟨pl,l⟩,q,⟨F,h⟩,m,he⟩:=h;simp at he;split at he
 . obtain⟨rfl,rfl,rfl⟩:=he;obtain⟨y,z,A,h0,h1,g⟩:=aj;obtain⟨bs,D,rfl,hs⟩:=(cl R C r y).1.kh;have ad:=qc R t q z;have aa:=qc R s m A;rw[uw]at h1 g;have k:=By (P:=P) (w:=w) (isSlice:=false) ad aa h0 h1 g (e9 _);rw[uw];have e:(bs.extract (l.getD 0).toNat (h.getD bs.size).toNat).data.toList=(bs.data.toList.take (h.getD bs.size).toNat).drop (l.getD 0).toNat:=(by grind[ByteArray.data_extract,Array.toList_extract,List.drop_take]);refine Good.pure R (x:= .string (bs.extract (l.getD 0).toNat (h.getD bs.size).toNat)) ?_ (.c ?_) rfl
   . simp[execOp,u,Instr.sliceAt,Instr.slice,underlying,B,D,k]
   . rw[<-e];refine .str _ ?_;rw[ByteArray.size_extract];omega
 grind
theorem X6(R:Rel av nt φ S env J n a w){ty:TypeId}{Y k:Option Operand}(T:o.op= .slice ty x Y k none)(W:P.underlying ty=some (.slice e)){sz:Nat}(U:eg P e=some sz)
 {G:aO}{g F:Option aO}(X:bB x=some G)(Q:ke Y=some g)(O:ke k=some F)
 {p v J'}(ar:n key=false)(h:aM (.slc sz G g F) env J key=some (p,v,J'))(aj:p):Good P av nt env J' (ins n key) a v ((execOp a.eval o).run P w):=by
 simp only[aM,bf]at h;obtain⟨⟨az,aA⟩,N,⟨pl,l⟩,M,⟨ay,h⟩,K,he⟩:=h;simp only at he;split at he
 . rename_i es;obtain⟨rfl,rfl,rfl⟩:=he;obtain⟨A,B,D,h0,h1,s,ab⟩:=aj;obtain⟨bX,cap,d,b,off,f,E,Z,aw,ax,I,y,am⟩:=bM.jm (cl R X N A).1.dT;have ad:=qc R Q M B;have aa:=qc R O K D;have u:=By (P:=P) (w:=w) (isSlice:=true) (cap:=cap) ad aa h0 h1 s Z;generalize ao:(l.getD 0).toNat=L at*;generalize an:(h.getD (es.length:Int)).toNat=H at*;have r:((es.take H).drop L).length=H-L:=by simp;omega
   refine Good.pure R (x:= .slice (if cap=L then bX else bX.map (·.add (L*sz))) (H-L) (cap-L)) ?_ (.c ?_) rfl
   . simp[execOp,T,Instr.sliceAt,Instr.slice,underlying,W,E,u,i' U]
   . show bM w S _ _;rw[<-r];have ae:∀(i:Nat) e,((es.take H).drop L)[i]?=some e->es[L+i]?=some e/\L+i<H:=(by grind);by_cases z:es=[]
     . subst z;simp;exact bM.slice [] _ _ 0 0 0 (λ_ _=>undef) (by simp) (by simp[dm]) (by simp) (by simp) (by simp) (by simp)
     . have ai:d=sz:=by
        obtain⟨dh,aq⟩:=AE es z;grind
       subst ai;refine bM.slice _ _ _ d b (off+L*d) (λi j=>f (L+i) j) (by rw[r];omega) (by rw[r];omega) (λe he=>ab e (sT (DS he))) ?_ ?_ ?_
       . intro aP;have:L<H:=(by grind);rw[bR,I z];unfold Addr.add;split
         . rename_i h;simp[h]
         . rfl
       . intro i j k ag;rw[r]at k;have:=y (L+i) j (by omega) ag;rw[show off+L*d+i*d+j=off+(L+i)*d+j by rw[h3];omega];exact this
       . intro i j e t he ht;exact am _ _ _ _ (ae i e he).1 ht
 . rename_i b d off len;obtain⟨rfl,rfl,rfl⟩:=he;obtain⟨A,B,D,h0,h1,s,rfl⟩:=aj;have ak:=cl R X N A;obtain⟨bX,E,I,au⟩:=bn.g' ak.1.dT;have ad:=qc R Q M B;have aa:=qc R O K D;have u:=By (P:=P) (w:=w) (isSlice:=true) (cap:=(φ b).2-off) ad aa h0 h1 s (by omega);have ap:∀(q o m:Nat),(Addr.add ⟨q,o,none⟩ m:Addr)=⟨q,o+m,none⟩:=by
    grind[Addr.add]
   have ah:g.isNone=true->l.getD 0=0:=by
    intro aP;cases g with
    |some _=>grind
    |none=>grind[jF,Option.some.injEq,Prod.mk.injEq]
   generalize l.getD 0=L at*;generalize h.getD (len:Int)=H at*;refine Good.pure R (x:= .slice (if(φ b).2-off=L.toNat then bX else bX.map (·.add (L.toNat*sz))) (H.toNat-L.toNat) ((φ b).2-off-L.toNat)) ?_ (.c ?_) ?_
   . simp[execOp,T,Instr.sliceAt,Instr.slice,underlying,W,E,u,i' U]
   . by_cases aP:g.isNone=true
     . rw[af aP];have:=ah aP;subst this;refine⟨_,rfl,λy=>?_,by omega⟩;grind
     . rw[al aP];refine⟨_,_,rfl,λy=>?_,by omega⟩;grind
   grind[V.ay,C.ay]
 grind
theorem VK(R:Rel av nt φ S env J n a w){ty:TypeId}{k u:IntKind}(q:o.op= .slice ty x none (some (.const (.int k 0))) (some (.const (.int u 0))))(s:P.underlying ty=some (.slice e))
 {sz:Nat}(r:eg P e=some sz){j:aO}(t:bB x=some j)
 {p v J'}(y:n key=false)(h:aM (.slc0 j) env J key=some (p,v,J'))(aj:p):Good P av nt env J' (ins n key) a v ((execOp a.eval o).run P w):=by
 simp only[aM,bf]at h;obtain⟨⟨z,B⟩,m,he⟩:=h;simp at he;have i:∀(bX:Option _) (l c:Nat),a.eval x= .slice bX l c->∃a2,(execOp a.eval o).run P w= .ok (.value (.slice a2 0 0)) w:=by
  intro bX l c d;have dh:∀v,a.eval (.const v)=v:=λ_=>rfl;exact⟨_,by simp[execOp,q,Instr.sliceAt,Instr.slice,underlying,s,d,i' r];rfl⟩
 split at he<;>simp only[dP,reduceCtorEq]at he
 all_goals
  obtain⟨rfl,rfl,rfl⟩:=he;have h1:=(cl R t m aj).1.dT
 . obtain⟨bX,cap,A,b,off,f,d,_⟩:=bM.jm h1;obtain⟨a2,g⟩:=i _ _ _ d;exact Good.pure R g (.c ⟨a2,rfl⟩) rfl
 . obtain⟨bX,d⟩:=h1;obtain⟨a2,g⟩:=i _ _ _ d;exact Good.pure R g (.c ⟨a2,rfl⟩) rfl
 . obtain⟨bX,d,_⟩:=bn.g' h1;obtain⟨a2,g⟩:=i _ _ _ d;exact Good.pure R g (.c ⟨a2,rfl⟩) rfl
theorem iH{b:Nat}{a:Nat×Nat}(h:w.heap[b]?=some (.cells vs.toArray E a))(j:Nat):w.cell? ⟨b,j,none⟩=vs[j]?:=by
 grind[World.cell?]
theorem sI{ty:TypeId}(ak:mu P ty=some g){blk off0 o:Nat}{v:V}
 (a:aX (bn φ w S) cs vs)(c:cs.all (C.ay n)=true)(i:∀j,j<vs.length->w.cell? ⟨blk,off0+j,none⟩=vs[j]?)(ad:jG g.1 g.2 cs o=some v):
 ∃x,(loadVar ty ⟨blk,off0+o,none⟩).run P w= .ok x w/\bW φ w S v x/\v.ay n=true:=by
 obtain⟨h1,e,b⟩:=Fs ak;obtain⟨d,k,f⟩:=Qg a c ad b;rw[a.length]at d;grind[Qf]
theorem aX.OF(h:aX (bM w S) ts xs):aX (bn φ w S) (ts.map .t) xs:=aX.adU h
theorem F6{b sz i:Nat}(h:cP φ w S b (.arr sz es))(k:i<es.length):
 (φ b).2≠0/\∃(vs:List Value) (E:TypeId) (xs:List Value),w.heap[(φ b).1]?=some (.cells vs.toArray E (0,0))/\vs.length=(φ b).2*sz/\(el es i).length=sz/\xs.length=sz/\aX (bM w S) (el es i) xs/\
  (∀j,j<sz->vs[i*sz+j]?=xs[j]?)/\(i+1)*sz<=vs.length:=by
 obtain⟨h1,f,a,g,bp⟩:=h;have h0:(φ b).2≠0:=by omega
 obtain⟨vs,E,aa,ad,l,hs⟩:=bp h0;have c:es[i]?=some (el es i):=by grind[el]
 have e:=a _ (e7 c);have d:(i+1)*sz<=vs.length:=by rw[ad];exact eV _ (by omega)
 refine⟨h0,vs,E,(vs.drop (i*sz)).take sz,aa,ad,e,by grind,?_,?_,d⟩
 . grind[aX.lf]
 grind
theorem VL(R:Rel av nt φ S env J n a w){ty:TypeId}(af:o.op= .load ty x)(ak:mu P ty=some g){F:aO}(s:bB x=some F)
 {p v J'}(ab:n key=false)(h:aM (.load g.1 g.2 F) env J key=some (p,v,J'))(aj:p):Good P av nt env J' (ins n key) a v ((execOp a.eval o).run P w):=by
 simp only[aM,bf]at h;obtain⟨⟨al,am⟩,r,he⟩:=h;simp only at he;have B:∀(blk off:Nat) (y:Value),a.eval x= .pointer (some ⟨blk,off,none⟩)->(loadVar ty ⟨blk,off,none⟩).run P w= .ok y w->(execOp a.eval o).run P w= .ok (.value y) w:=by
  simp_all[execOp,Instr.loadAt,Instr.sureAddr]
 split at he
 . split at he
   . rename_i cs d;simp only[bu]at he;obtain⟨v0,m,rfl,rfl,rfl⟩:=he;have h1:=(cl R s r aj).1.gU;obtain⟨_,vs,E,aa,q,_⟩:=R.bD.blk _ _ d;have u:=(R.dG _ _ d).2;obtain⟨y,l,k,e⟩:=sI (n:=n) ak q u (λj _=>by rw[iH aa,hx]) m;grind[Good.pure]
   . rename_i E c d;split at he
     . rename_i N;obtain⟨O,rfl⟩:=N;obtain⟨rfl,rfl,rfl⟩:=he;have h1:=(cl R s r aj).1.gU;obtain⟨_,⟨I,Y,aa,T,U⟩,_⟩:=R.bD.blk _ _ d;have u:=(R.dG _ _ d).2;have Q:I.oneCell'=true:=by rcases T with rfl|rfl<;>rfl
       have q:aX _ [.dead,c] [I,Y]:= .cons Q (.cons U .nil);obtain⟨y,l,k,e⟩:=sI (n:=n) (off0:=0) (o:=1) (v:= .c c) ak q (by simp only[pq,List.all_nil,Az];exact u) (λj _=>by rw[iH aa,hx]) (by simp[jG,O]);grind[Good.pure]
     grind
   grind
 . rename_i b sz i H;split at he
   . rename_i X es d;simp only[bu,ef]at he;obtain⟨v0,m,rfl,rfl,rfl⟩:=he;obtain⟨A,rfl,C⟩:=aj;have h1:=(cl R s r A).1.iM;obtain⟨_,vs,E,xs,aa,ad,ae,ag,q,M,_⟩:=F6 (R.bD.blk _ _ d) C;obtain⟨y,l,k,e⟩:=sI (n:=n) ak (aX.OF q) (H5 n _) (λj z=>by rw[iH aa,M j (by omega)]) (Ip m);exact Good.pure R (B _ _ _ h1 l) k e
   . rename_i X es ah ai c d;split at he
     . grind
     . rename_i G;obtain⟨⟨a1,a2,a3,a4,a5,Z⟩,⟨vs,E,bb,bq,bU,K,cu,cW⟩,da⟩:=R.bD.blk _ _ d;have u:=(R.dG _ _ d).2;split at he
       . rename_i D;subst D;obtain⟨rfl,rfl,rfl⟩:=he;obtain⟨A,rfl,rfl⟩:=aj;have h1:=(cl R s r A).1.iM
         obtain⟨y,l,k,e⟩:=sI (n:=n) (vs:=[K]) (o:=0) (v:= .c c) ak (.cons cW .nil) (by simpa[bP.ay]using u) (λj z=>by
          have:j=0:=(by simpa using z);subst this
          rw[iH bb,sQ,cu];rfl) (by simp[jG,G])
         exact Good.pure R (B _ _ _ h1 l) k e
       . rename_i D;simp only[bu,ef]at he;obtain⟨v0,m,rfl,rfl,rfl⟩:=he;obtain⟨A,rfl,C⟩:=aj;have h1:=(cl R s r A).1.iM;simp only[loadT,ca,b4,bu]at m;obtain⟨t,ht,rfl⟩:=m;have L:es[i]?=some (el es i):=by unfold el;rw[List.getD,eF C];rfl
         obtain⟨an,W,V⟩:=bU i H _ t L ht (λh=>D h.2)
         obtain⟨y,l,k,e⟩:=sI (n:=n) (φ:=φ) (cs:=[.t t]) (o:=0) (v:= .c (.t t)) ak (.cons V .nil) rfl (λj z=>by
          have:j=0:=(by simpa using z);subst this
          rw[iH bb,sQ,W];rfl) (by simp[jG,G])
         exact Good.pure R (B _ _ _ h1 l) k e
   grind
 . rename_i ts H;simp only[bu,ef]at he;obtain⟨v0,m,rfl,rfl,rfl⟩:=he;obtain⟨blk,off,f,h1,aa⟩:=(cl R s r aj).1.dT;have q:aX (bM w S) ts ((List.range ts.length).map f):=by
    grind[aX.lf]
   obtain⟨y,l,k,e⟩:=sI (n:=n) ak (aX.OF q) (H5 n _) (blk:=blk) (off0:=off) (λj z=>by simp_all) (Ip m);exact Good.pure R (B _ _ _ h1 l) k e
 grind
theorem H6{k:Nat}{s t:T}{b:Bool}(h:wE k s t=some b){ty:TypeId}(c:pf P ty=some k){x y:Value}(f:bM w S s x)(g:bM w S t y)(d:Nat):
 (Op.equalIn (d+1) ty x y).run P w= .ok b w:=by
 have i:∀a b:ao,(a==b)=decide (a=b):=λa b=>by grind
 unfold pf at c;unfold wE at h;split at h
 . cases h;cases f;cases g;split at c<;>simp at c;rename_i e;unfold Op.equalIn;simp only[Sem.run_bind,run_underlying e];rfl
 . simp at h;obtain⟨rfl,rfl⟩:=h;cases f;cases g;split at c<;>simp at c;rename_i e;unfold Op.equalIn;simp only[Sem.run_bind,run_underlying e,Result.andThen_ok];rfl
 . cases f with|str s1 h1=>cases g with|str l j=>
   split at c<;>simp at c;rename_i e;unfold Op.equalIn;simp only[Sem.run_bind,run_underlying e,Result.andThen_ok];simp_all[beq_toListBytes,ByteArray.toList_eq]
 grind
theorem H7{ty:TypeId}{k:Nat}(h:pf P ty=some k):oQ P ty=some false:=by
 grind[pf,oQ]
theorem Ps{d:Nat}{xs ys:Array Value}:∀{fs:List Field} {i:Nat} {ks:aW} {ps qs:List C} {us vs:List Value} {r:Bool},yo P i fs=some ks->k' ks ps qs=some r->
 aX (bn φ w S) ps us->aX (bn φ w S) qs vs->xs.toList.drop i=us->ys.toList.drop i=vs->(Op.eqFields (d+1) xs ys fs).run P w= .ok r w
 |[],i,ks,ps,qs,us,vs,r,a,he,h1,c,aK,e=>by
  simp[yo]at a;subst a;cases ps<;>cases qs<;>simp[k']at he;subst he;rfl
 |f::fs,i,ks,ps,qs,us,vs,r,a,he,h1,c,aK,e=>by
  simp[yo,bf]at a;obtain⟨⟨B,A⟩,k,q,E,s,rfl⟩:=a;unfold k' at he;split at he
  . grind
  . rename_i D F x G y H p;cases p;simp only[bf,bu]at he;obtain⟨b,o,I,t,rfl⟩:=he;cases h1 with|cons h1 m=>
    cases c with|cons c n=>
    rename_i u J v K;have ex:xs[i]?=some u:=by have:=dK (·[0]?) aK;grind
    have l:ys[i]?=some v:=by have:=dK (·[0]?) e;grind
    have ih:=Ps (d:=d) s t m n (by rw[<-vi,aK];rfl) (by rw[<-vi,e];rfl);have g:∀(j:Array _) (z:Value),j[i]?=some z->(part f.type j f.offset).run P w= .ok z w:=by
     simp_all[part,sA,H7]
    simp[Op.eqFields,g _ _ ex,g _ _ l,H6 o q h1 c d];cases b
    all_goals simp_all
  grind
theorem V4(R:Rel av nt φ S env J n a w){op:BinOp}{ty:TypeId}(C:o.op= .binOp op ty x y yt)(i:op= .eql\/op= .neq){ks:aW}(e:Fp P ty=some ks)
 {b c:aO}(j:bB x=some b)(k:bB y=some c)
 {p v J'}(B:n key=false)(h:aM (.eqAgg (op== .neq) ks b c) env J key=some (p,v,J'))(aj:p):Good P av nt env J' (ins n key) a v ((execOp a.eval o).run P w):=by
 simp only[aM,bf]at h;obtain⟨⟨G,I⟩,f,⟨H,K⟩,g,he⟩:=h;simp at he;split at he
 . simp only[bu]at he;obtain⟨r,D,rfl,rfl,rfl⟩:=he;obtain⟨us,E,s⟩:=(cl R j f aj.1).1.lu;obtain⟨vs,F,t⟩:=(cl R k g aj.2).1.lu;unfold Fp at e;split at e
   . rename_i fs A;have m:(eqGuard op ty x y (a.eval x) (a.eval y)).run P w= .ok () w:=(by simp_all[eqGuard]);have z:P.fieldsOf ty=fs:=(by grind[Program.fieldsOf]);have l:(Op.equal ty (.agg us.toArray) (.agg vs.toArray)).run P w= .ok r w:=by
      obtain⟨d,u⟩:∃d,Op.maxDepth=d+2:=⟨9998,rfl⟩
      grind[Op.equal,run_equalIn_struct,Ps]
     have q:(binOp op ty (a.eval x) (a.eval y)).run P w= .ok (.bool (if(op== .neq)then !r else r)) w:=by
      rcases i with rfl|rfl
      . simp_all[binOp]
      simp_all[binOp]
     refine Good.pure R ?_ (.n' _) rfl;simp_all[execOp]
   grind
 grind
theorem p5{b:Nat}(h:w'.heap[b]?=w.heap[b]?)(j:Nat):w'.cell? ⟨b,j,none⟩=w.cell? ⟨b,j,none⟩:=by
 grind[World.cell?]
theorem nG{b:Nat}{o:Obj}(h:w.heap[b]?=some o):b<w.heap.size:=(yc.1 h).1
theorem cP.jk{b:Nat}{x:bP}(h:cP φ w S b x)(h0:(φ b).2≠0):(φ b).1<w.heap.size:=by
 cases x with
 |box cs=>obtain⟨_,_,_,aa,_⟩:=h;grind
 |arr sz es=>obtain⟨_,_,_,_,bp⟩:=h;grind
 |set ks=>obtain⟨_,⟨_,_,aa,_⟩,_⟩:=h;grind
 |buf E s=>obtain⟨_,_,bp⟩:=h;grind
 |bT E c=>obtain⟨_,⟨_,_,aa,_⟩,_⟩:=h;grind
 |cz sz es i o c=>obtain⟨_,⟨_,_,aa,_⟩,_⟩:=h;grind
theorem cP.ph{b:Nat}{x:bP}(h:cP φ w S b x)(h0:(φ b).2≠0):∀j,¬S (φ b).1 j:=by
 cases x with
 |box cs=>obtain⟨_,_,_,_,_,hs⟩:=h;grind
 |arr sz es=>obtain⟨_,_,_,_,bp⟩:=h;grind
 |set ks=>exact h.2.2
 |buf E s=>exact(h.2.2 h0).2
 |bT E c=>exact h.2.2
 |cz sz es i o c=>exact h.2.2
theorem cP.mono{b:Nat}{x:bP}(m:gq w S w' S)(p:∀b,n b=true->bc b=φ b)(q:n b=true)(D:x.ay n=true)(aa:(φ b).2≠0->w'.heap[(φ b).1]?=w.heap[(φ b).1]?)
 (h:cP φ w S b x):cP bc w' S b x:=by
 cases x with
 |box cs=>
  obtain⟨h0,vs,E,h1,a,f⟩:=h;simp only[cP,p b q];refine⟨h0,vs,E,(aa h0).trans h1,a.imp λc v B g=>bn.mono m p (by grind[bP.ay]) g,f⟩
 |arr sz es=>
  obtain⟨h1,a,f,y,bp⟩:=h;simp only[cP,p b q];refine⟨h1,a,f,y,λh0=>?_⟩;obtain⟨vs,E,bb,bq,bU,cu⟩:=bp h0;exact⟨vs,E,(aa h0).trans bb,bq,λi j e t he ht=>let⟨v,A,g⟩:=bU i j e t he ht;⟨v,A,bM.mono m g⟩,cu⟩
 |set ks=>
  grind[cP]
 |buf E s=>
  grind[cP]
 |bT E c=>
  grind[cP,bn.mono,bP.ay]
 |cz sz es i o c=>
  grind[cP,bM.mono,bn.mono,bP.ay]
theorem Rel.world(R:Rel av nt φ S env J n a w)(W:Nat->Prop)(q:w'.os=w.os)(ht:w'.tape=w.tape)(p:w'.output=w.output)(hs:w.heap.size<=w'.heap.size)
 (e:∀b:Nat,b<w.heap.size->¬W b->w'.heap[b]?=w.heap[b]?)
 (dN:∀b,W b->(∀j,¬S b j)/\(∀k y,aR J k=some y->(φ k).2≠0->(φ k).1≠b)/\(av.B b\/av.kN.heap.size<=b)):Rel av nt φ S env J n a w':=by
 have m:gq w S w' S:=⟨λ_ _ h=>h,λb j h=>p5 (e b (R.bD.st b j h) (λf=>(dN b f).1 j h)) j⟩
 refine⟨⟨λb x c=>?_,R.bD.inj,λb j h=>jg (R.bD.st b j h) hs⟩,λk g v ad ak=>?_,R.gN,R.fY,R.dG,R.size,R.defers,?_,R.own,R.fix,R.gy⟩
 . have o:=R.bD.blk b x c;exact cP.mono m (λ_ _=>rfl) (R.dG b x c).1 (R.dG b x c).2 (λh0=>e _ (o.jk h0) (λf=>(dN _ f).2.1 b x c h0 rfl)) o
 . obtain⟨x,c,t⟩:=R.fZ k g v ad ak;exact⟨x,c,bW.mono m (λ_ _=>rfl) (R.fY k g v ad ak) t⟩
 . refine⟨q.trans R.ext.os,ht.trans R.ext.tape,p.trans R.ext.output,gz R.ext.size hs,λb aE di=>?_,R.ext.mono.trans m,R.ext.lj⟩;rw[e b (jg aE R.ext.size) _]
   . exact R.ext.block b aE di
   grind
theorem Rel.congr(R:Rel av nt φ S env J n a w)(h:∀b,aR J' b=aR J b):Rel av nt φ S env J' n a w:=
 ⟨⟨λb x c=>R.bD.blk b x (h b▸c),λb e x y c f=>R.bD.inj b e x y (h b▸c) (h e▸f),R.bD.st⟩,R.fZ,R.gN,R.fY,λb x c=>R.dG b x (h b▸c),R.size,R.defers,R.ext,λb x c=>R.own b x (h b▸c),R.fix,R.gy⟩
theorem Rel.sub(R:Rel av nt φ S env J n a w)(h:∀b x,aR J' b=some x->aR J b=some x):Rel av nt φ S env J' n a w:=
 ⟨⟨λb x c=>R.bD.blk b x (h b x c),λb e x y c f=>R.bD.inj b e x y (h b x c) (h e y f),R.bD.st⟩,R.fZ,R.gN,R.fY,λb x c=>R.dG b x (h b x c),R.size,R.defers,R.ext,λb x c=>R.own b x (h b x c),R.fix,R.gy⟩
theorem Rel.del(R:Rel av nt φ S env J n a w)(b:Nat):Rel av nt φ S env (gV J b) n a w:=
 R.sub λk x c=>by grind[fk]
theorem Rel.sZ(R:Rel av nt φ S env J n a w)(e:∀b,n b=true->bc b=φ b):Rel av nt bc S env J n a w:=by
 refine⟨⟨λb x c=>?_,λb f x y c o=>?_,R.bD.st⟩,λk g v ad ak=>?_,R.gN,R.fY,R.dG,R.size,R.defers,R.ext,λb x c h0=>?_,λb j=>(e b (R.gy b j)).trans (R.fix b j),R.gy⟩
 . exact cP.mono (gq.refl w S) e (R.dG b x c).1 (R.dG b x c).2 (λ_=>rfl) (R.bD.blk b x c)
 . rw[e b (R.dG b x c).1,e f (R.dG f y o).1];exact R.bD.inj b f x y c o
 . obtain⟨x,c,p⟩:=R.fZ k g v ad ak;exact⟨x,c,bW.mono (gq.refl w S) e (R.fY k g v ad ak) p⟩
 . rw[e b (R.dG b x c).1]at h0⊢;exact R.own b x c h0
theorem Rel.put (R:Rel av nt φ S env J n a w){b:Nat}{x:bP}(q:n b=true)(v:x.ay n=true)(p:cP φ w S b x)
 (t:(φ b).2≠0->(∀k y,aR J k=some y->k≠b->(φ k).2≠0->(φ k).1≠(φ b).1)/\(av.B (φ b).1\/av.kN.heap.size<=(φ b).1)):Rel av nt φ S env (c7 J b x) n a w:=by
 refine⟨⟨λk y c=>?_,λk j y o c e g h0 f=>?_,R.bD.st⟩,R.fZ,R.gN,R.fY,λk y c=>?_,R.size,R.defers,R.ext,λk y c h0=>?_,R.fix,R.gy⟩
 . rw[cR]at c;split at c
   . grind
   . exact R.bD.blk k y c
 . rw[cR]at c e;split at c
   . grind
   . split at e
     . grind
     . exact R.bD.inj k j y o c e g h0 f
 . rw[cR]at c;split at c
   . grind
   . exact R.dG k y c
 . rw[cR]at c;split at c
   . grind
   . exact R.own k y c h0
def eA(φ:cZ)(n:Nat)(q:Nat×Nat):cZ:=λb=>if b=n then q else φ b
theorem si{b:Nat}(a:n key=false)(h:n b=true):eA φ key q b=φ b:=by grind[eA]
theorem dn{k:Nat}:eA φ k q k=q:=by simp[eA]
theorem Rel.je (R:Rel av nt φ S env J n a w)(c:n key=false){x:bP}(q:Nat×Nat)(g:x.ay n=true)(e:cP (eA φ key q) w S key x)
 (f:q.2≠0->(∀k y,aR J k=some y->(φ k).2≠0->(φ k).1≠q.1)/\(av.B q.1\/av.kN.heap.size<=q.1)):Rel av nt (eA φ key q) S env (c7 J key x) (ins n key) a w:=by
 refine((R.sZ (λb h=>si c h)).more (λ_ h=>kD h)).put Yy (bP.hg (λ_ h=>kD h) g) e ?_;rw[dn];intro h0;refine⟨λk y j o h=>?_,(f h0).2⟩;rw[si c (R.dG k y j).1]at h⊢;grind
theorem ru{o:Obj}{b:Nat}(h:b<w.heap.size):(w.alloc o).heap[b]?=w.heap[b]?:=by
 show(w.heap.push o)[b]?=_;grind
theorem heap_alloc_new{o:Obj}:(w.alloc o).heap[w.heap.size]?=some o:=by
 show(w.heap.push o)[w.heap.size]?=_;simp
theorem Rel.alloc(R:Rel av nt φ S env J n a w)(o:Obj):Rel av nt φ S env J n a (w.alloc o):=
 R.world (λ_=>False) rfl rfl rfl (by simp) (λb c _=>ru c) (λ_ h=>h.elim)
theorem Rel.va(R:Rel av nt φ S env J n a w)(o:Obj):gq w S (w.alloc o) S:=
 ⟨λ_ _ h=>h,λb j h=>p5 (ru (R.bD.st b j h)) j⟩
theorem Rel.Oi(R:Rel av nt φ S env J n a w)(e:n key=false)(f:aX (bn φ w S) cs vs)(g:cs.all (C.ay n)=true)(E:TypeId):
 Rel av nt (eA φ key (w.heap.size,1)) S env (c7 J key (.box cs)) (ins n key) a (w.alloc (.cells vs.toArray E)):=by
 have m:=R.va (.cells vs.toArray E);refine(R.alloc _).je e _ g ?_ ?_
 . simp only[cP,dn];refine⟨by simp,vs,E,heap_alloc_new,f.imp λc v q o=>bn.mono m (λb h=>si e h) (by grind) o,λj h=>?_⟩;have:=R.bD.st _ _ h;grind
 . intro _;refine⟨λk y p h0=>?_,.inr R.ext.size⟩;have:=(R.bD.blk k y p).jk h0;grind
theorem rB{ty:TypeId}(h:jO P ty=some cs):∃i z,P.info? ty=some i/\i.zero=some z/\aX (bn φ w S) cs z.cells.toList/\cs.all (C.ay n)=true:=by
 grind[jO,bf,FH]
theorem Qh(R:Rel av nt φ S env J n a w){ty:TypeId}(j:o.op= .alloc ty)(b:jO P ty=some cs)
 {p v J'}(f:n key=false)(h:aM (.alloc cs) env J key=some (p,v,J'))(aj:p):Good P av nt env J' (ins n key) a v ((execOp a.eval o).run P w):=by
 obtain⟨rfl,rfl,rfl⟩:=h;obtain⟨i,z,g,b,d,e⟩:=rB b;have R':=R.Oi f d e ty;refine⟨.pointer (some ⟨w.heap.size,0,none⟩),_,S,_,.inl ?_,.c ?_,by simp[V.ay,C.ay,ins],R'⟩
 . simp_all[execOp,Instr.alloc,zeroValue,typeInfo,newVar,newRow]
 grind[bn,dn]
theorem X7(R:Rel av nt φ S env J n a w){ty:TypeId}(j:o.op= .box ty x){b:aO}(k:bB x=some b)
 {p v J'}(i:n key=false)(h:aM (.box b) env J key=some (p,v,J'))(aj:p):Good P av nt env J' (ins n key) a v ((execOp a.eval o).run P w):=by
 simp only[aM,bf,bu]at h;obtain⟨⟨l,m⟩,g,cs,f,rfl,rfl,rfl⟩:=h;have ak:=cl R k g aj;obtain⟨d,e⟩:=nE ak.1 f ak.2;have R':=R.Oi i d e ty;refine⟨.pointer (some ⟨w.heap.size,0,none⟩),_,S,_,.inl ?_,.c ?_,by simp[V.ay,C.ay,ins],R'⟩
 . simp[execOp,j,Instr.box,newVar,newRow]
 grind[bn,dn]
def iN{α:Type}(vs:List α)(off:Nat)(xs:List α):List α:=vs.take off++xs++vs.drop (off+xs.length)
theorem nH{vs:List α}{xs:List α}(h:off+xs.length<=vs.length)(k:Nat):
 (iN vs off xs)[k]?=if k<off then vs[k]? else if k<off+xs.length then xs[k-off]? else vs[k]?:=by
 unfold iN;by_cases h1:k<off
 . grind
 grind
theorem pa{vs:List α}{xs:List α}(h:off+xs.length<=vs.length):(iN vs off xs).length=vs.length:=by
 grind[iN]
theorem Rt{vs:List α}{x:α}{xs:List α}(h:off+(x::xs).length<=vs.length):iN (vs.set off x) (off+1) xs=iN vs off (x::xs):=by
 apply vv;grind[nH]
theorem QD{b:Nat}(h:w.heap[b]?=some (.cells vs.toArray E (0,0)))(off:Nat)(v:Value):
 (w.setCell ⟨b,off,none⟩ v).heap[b]?=some (.cells (vs.set off v).toArray E (0,0))/\∀a,a≠b->(w.setCell ⟨b,off,none⟩ v).heap[a]?=w.heap[a]?:=by
 simp_all[World.setCell,DP,dx]
theorem mC{b:Nat}{E:TypeId}:∀(xs:List Value) (off i:Nat) (vs:List Value) (w:World),w.heap[b]?=some (.cells vs.toArray E (0,0))->off+i+xs.length<=vs.length->(∀x,x∈xs->x.oneCell'=true)->
 ∃w',(storeCells ⟨b,off,none⟩ xs i).run P w= .ok () w'/\w'.os=w.os/\w'.tape=w.tape/\w'.output=w.output/\w'.heap.size=w.heap.size/\
  w'.heap[b]?=some (.cells (iN vs (off+i) xs).toArray E (0,0))/\∀a:Nat,a≠b->w'.heap[a]?=w.heap[a]?
 |[],off,i,vs,w,h,ad,d=>⟨w,rfl,rfl,rfl,rfl,rfl,by simp[iN,h],λ_ _=>rfl⟩
 |x::xs,off,i,vs,w,h,ad,d=>by
  have l:Addr.add ⟨b,off,none⟩ i=⟨b,off+i,none⟩:=by grind[Addr.add]
  have aE:off+i<vs.length:=by grind
  have m:w.cell? ⟨b,off+i,none⟩=some vs[off+i]:=by rw[iH h];simp
  have n:w.frozen? ⟨b,off+i,none⟩=false:=by grind[World.frozen?]
  have hs:=QD h (off+i) x;obtain⟨w',h1,e,f,g,bp,k,j⟩:=mC xs off (i+1) _ _ hs.1 (by grind) (λy o=>d y (by grind));refine⟨w',?_,e,f,g,by simp_all,?_,λa c=>(j a c).trans (hs.2 a c)⟩
  . simp_all[storeCells,run_store]
  grind[Rt]
theorem aX.fill{c:Type}{R:α->c->Prop}{cs a:List α}{vs xs:List c}(h:aX R cs vs)(k:aX R a xs)(o:Nat):aX R (cs.take o++a++cs.drop (o+a.length)) (iN vs o xs):=by
 rw[k.length];exact((h.take o).append k).append (h.drop _)
theorem G7(h:aX (bn φ w S) cs xs):∀x,x∈xs->x.oneCell'=true:=by
 induction h with
 |nil=>simp
 |cons h _ ih=>
  intro x a;rcases e2.1 a with rfl|a
  . exact bn.iR h
  grind
theorem bW.undef:bW φ w S (.a6 []) undef:= .a6 [] [] rfl (by simp)
theorem qd:∀{cs:List C} {ts:List T} {xs:List Value},toTs cs=some ts->aX (bn φ w S) cs xs->aX (bM w S) ts xs
 |[],ts,xs,h,b=>by simp[toTs]at h;subst h;cases b;exact .nil
 |c::cs,ts,xs,h,b=>by
  simp[toTs,bf,bu]at h;obtain⟨t,ht,f,e,rfl⟩:=h;cases b with
  |cons h1 d=>
   refine .cons ?_ (qd e d);unfold toT at ht;split at ht<;>simp at ht
   . subst ht;exact h1
   . subst ht;obtain⟨a,rfl⟩:=h1;exact bM.slice [] a 0 0 0 0 (λ_ _=>undef) (by simp) (by simp) (by simp) (by simp) (by simp) (by simp)
theorem uo:∀{cs:List C} {ts:List T},toTs cs=some ts->ts.length=cs.length
 |[],ts,h=>by grind[toTs]
 |c::cs,ts,h=>by
  simp[toTs,bf,bu]at h;obtain⟨t,ht,b,a,rfl⟩:=h;simp[uo a]
theorem F7{n:Nat->Bool}{cs a:List C}(h:cs.all (C.ay n)=true)(k:a.all (C.ay n)=true)(o:Nat):(tM cs o a).all (C.ay n)=true:=by
 grind[tM]
theorem uD{vs:List α}{p:Nat}{x:α}(h:p<vs.length)(q:Nat):(iN vs (p+0) [x])[q]?=if q=p then some x else vs[q]?:=by
 grind[nH]
theorem x4{sz i j a b:Nat}(d:j<sz)(e:b<sz)(h:i*sz+j=a*sz+b):i=a/\j=b:=by
 rcases Nat.lt_trichotomy i a with c|c|c
 . have:=eV sz (show i+1<=a from c);grind
 . grind
 . have:=eV sz (show a+1<=i from c);grind
theorem Rel.rewrite(R:Rel av nt φ S env J n a w){b:Nat}{x q:bP}(g:aR J b=some x)(h0:(φ b).2≠0)(G:q.ay n=true)
 (F:w'.os=w.os)(ht:w'.tape=w.tape)(E:w'.output=w.output)(hs:w'.heap.size=w.heap.size)(t:∀o:Nat,o≠(φ b).1->w'.heap[o]?=w.heap[o]?)
 (D:gq w S w' S->cP φ w' S b q):Rel av nt φ S env (c7 J b q) n a w':=by
 have v:=R.bD.blk b x g
 have A:=(R.del b).world _ F ht E (sR hs.symm) (λk _ c=>t k c) (λk c=>by
  subst c;refine⟨v.ph h0,λk y f c=>?_,R.own b x g h0⟩;rw[fk]at f;split at f
  . grind
  . rename_i p
    exactλe=>R.bD.inj k b y x f g (dx p) c h0 e)
 have m:gq w S w' S:=⟨λ_ _ h=>h,λk j h=>p5 (t k (λe=>v.ph h0 j (e▸h))) j⟩
 have B:=A.put (R.dG b x g).1 G (D m) (λ_=>⟨λk y f p c=>by
  rw[fk]at f;split at f
  . grind
  . exact R.bD.inj k b y x f g p c h0,R.own b x g h0⟩)
 refine B.congr λk=>?_;grind[cR,fk]
theorem V5(R:Rel av nt φ S env J n a w){ty:TypeId}(bg:o.op= .store ty x y){k:Nat}(be:eg P ty=some k){ax ay:aO}(u:bB x=some ax)(ab:bB y=some ay)
 {p v J'}(bd:n key=false)(h:aM (.store k ax ay) env J key=some (p,v,J'))(aj:p):Good P av nt env J' (ins n key) a v ((execOp a.eval o).run P w):=by
 simp only [aM,bf,ey] at h;obtain ⟨⟨bm,br⟩,V,⟨bo,bs⟩,W,cs,L,Y,he⟩:= h;simp only at he L;have Z:∀ (blk off:Nat) (xs:List Value) (w':World),a.eval x = .pointer (some ⟨blk,off,none⟩)->(a.eval y).cells.toList = xs->xs.length = k->(storeCells ⟨blk,off,none⟩ xs 0).run P w = .ok () w'->
  (execOp a.eval o).run P w= .ok .skip w':=by
  intro blk off xs w' h1 aB ba bc;have bp:(a.eval y).cells.size=k:=by grind
  simp_all[execOp,Instr.storeAt,Instr.sureAddr,storeVar,i']
 split at he
 . rename_i b f;split at he
   . rename_i a' l;simp only[ey,dP,ef]at he;obtain⟨ai,rfl,rfl,rfl⟩:=he;have h1:=(cl R u V aj.1).1.gU;have q:=cl R ab W aj.2;obtain⟨g,A⟩:=nE q.1 L q.2;obtain⟨h0,vs,E,aa,aD,Q⟩:=R.bD.blk _ _ l;have bj:=aD.length;have B:(a.eval y).cells.toList.length=k:=by rw[<-g.length,Y]
     obtain⟨w',d,bb,bq,bU,cu,cW,da⟩:=mC (P:=P) _ f 0 vs w aa (by omega) (G7 g);refine⟨undef,φ,S,w',.inr ⟨Z _ _ _ w' h1 rfl B d,rfl⟩,.undef,rfl,Rel.more ?_ λ_ h=>kD h⟩;refine R.rewrite l h0 (by simpa[bP.ay]using F7 ((R.dG _ _ l).2) A f) bb bq bU cu da (λm=>?_);refine⟨h0,_,E,cW,?_,Q⟩;exact(aD.imp λc v ao d=>bn.mono m (λ_ _=>rfl) (f'.1 (R.dG _ _ l).2 c ao) d).fill (g.imp λc v ao d=>bn.mono m (λ_ _=>rfl) (f'.1 A c ao) d) f
   . rename_i E aA l;split at he
     . rename_i c;simp only[dP,ef]at he;obtain⟨rfl,rfl,rfl⟩:=he;have h1:=(cl R u V aj.1).1.gU;have q:=cl R ab W aj.2;obtain⟨g,A⟩:=nE q.1 L q.2;obtain⟨h0,⟨aI,a9,aa,aV,bh⟩,Q⟩:=R.bD.blk _ _ l;have B:(a.eval y).cells.toList.length=k:=by rw[<-g.length,Y]
       have X:k=1:=by rw[<-Y];rfl
       obtain⟨s,K⟩:∃s,(a.eval y).cells.toList=[s]:=by
        match h:(a.eval y).cells.toList with
        |[s]=>exact⟨s,rfl⟩
        |[]=>rw[h]at B;simp at B;omega
        |_::_::_=>rw[h]at B;simp at B;omega
       obtain⟨w',d,bb,bq,bU,cu,cW,da⟩:=mC (P:=P) (a.eval y).cells.toList 1 0 [aI,a9] w (b:=(φ b).1) (E:=E) aa (by rw[K];simp) (G7 g);rw[K]at g cW;cases g with|cons ap _=>
       have F:c.ay n=true:=(by simpa using A);refine⟨undef,φ,S,w',.inr ⟨Z _ _ _ w' h1 rfl B d,rfl⟩,.undef,rfl,Rel.more ?_ λ_ h=>kD h⟩;refine R.rewrite l h0 (by simpa[bP.ay]using F) bb bq bU cu da (λm=>?_);exact⟨h0,⟨aI,s,cW,aV,bn.mono m (λ_ _=>rfl) F ap⟩,Q⟩
     . cases he
   grind
 . rename_i b sz i f;have aw:∀{c:C} {xs:List Value},aX (bn φ w S) [c] xs->∃x,xs=[x]/\bn φ w S c x:=by
    intro c xs h;cases h with|cons h1 aB=>cases aB;grind
   split at he
   . rename_i a6 es l;split at he
     . rename_i c aU;have ap:cs=[c]:=by
        unfold yx at aU;grind
       subst ap;obtain⟨rfl,rfl,rfl⟩:=he;obtain⟨T,U,rfl,G,aG⟩:=aj;have h1:=(cl R u V T).1.iM;have q:=cl R ab W U;obtain⟨g,A⟩:=nE q.1 L q.2;have X:k=1:=by rw[<-Y];rfl
       obtain⟨s,K,I⟩:=aw g;have ae:=R.bD.blk _ _ l;obtain⟨h0,vs,E,xs,aa,ad,aQ,B,an,aq,ai⟩:=F6 ae G;obtain⟨g1,g2,g3,g4,am⟩:=ae;obtain⟨a8,aJ,ag,aT,au,Q⟩:=am h0;rw[aa]at ag;cases ag;rw[h3]at ai;have H:i*sz+f<vs.length:=(by omega);obtain⟨w',d,bb,bq,bU,cu,cW,da⟩:=mC (P:=P) [s] (i*sz+f) 0 vs w aa (by simp;omega) (λx u=>by rw[pn.1 u];exact bn.iR I);refine⟨undef,φ,S,w',.inr ⟨Z _ _ _ w' h1 K (by simp[X]) d,rfl⟩,.undef,rfl,Rel.more ?_ λ_ h=>kD h⟩;have F:c.ay n=true:=(by simpa using A);refine R.rewrite l h0 (by simpa[bP.ay]using F) bb bq bU cu da (λm=>?_);refine⟨⟨g1,g2,g3,g4,G,by omega⟩,⟨_,E,cW,by rw[pa (by simp;omega)];exact ad,λD j e t he ht O=>?_,s,?_,bn.mono m (λ_ _=>rfl) F I⟩,Q⟩
       . obtain⟨v,r,d⟩:=au _ _ _ _ he ht;have z:j<sz:=by rw[<-g3 _ (e7 he)];exact(dV.1 ht).1
         rw[uD H,al (λe=>O (x4 z (by omega) e))];exact⟨v,r,bM.mono m d⟩
       . rw[uD H,af rfl]
     simp only[bf,dP,ef]at he;obtain⟨ts,aH,rfl,rfl,rfl⟩:=he;obtain⟨T,U,rfl,G,aG⟩:=aj;have h1:=(cl R u V T).1.iM;have q:=cl R ab W U;obtain⟨g,A⟩:=nE q.1 L q.2;have aY:=qd aH g;have bi:=uo aH;have ae:=R.bD.blk _ _ l;obtain⟨h0,vs,E,xs,aa,ad,aQ,B,an,aq,ai⟩:=F6 ae G;obtain⟨g1,g2,g3,g4,am⟩:=ae;obtain⟨a8,aJ,ag,aT,au,Q⟩:=am h0;rw[aa]at ag;cases ag;rw[h3]at ai;have a0:(a.eval y).cells.toList.length=k:=by rw[<-g.length,Y]
     obtain⟨w',d,bb,bq,bU,cu,cW,da⟩:=mC (P:=P) _ (i*sz+f) 0 vs w aa (by omega) (G7 g);have aW:=d;refine⟨undef,φ,S,w',.inr ⟨Z _ _ _ w' h1 rfl a0 aW,rfl⟩,.undef,rfl,Rel.more ?_ λ_ h=>kD h⟩;refine R.rewrite l h0 rfl bb bq bU cu da (λm=>?_);refine⟨by simpa using g1,by simpa using g2,?_,g4,λ_=>⟨_,E,cW,by rw[pa (by omega)];exact ad,?_,Q⟩⟩
     . intro e he;rcases AF he with he|rfl
       . exact g3 e he
       . simp;omega
     . intro D j e t he ht;rw[sQ,nH (by omega)];rw[x5]at he;by_cases N:i=D
       . subst N;rw[af rfl,af G]at he;cases he;have aS:=(dV.1 ht).1;simp at aS;have z:j<sz:=(by omega);have M:=(nH (vs:=el es i) (off:=f) (xs:=ts) (by omega) j)
         unfold iN at M;rw[show f+ts.length=f+k by omega]at M;rw[M]at ht;by_cases c1:j<f
         . rw[af c1]at ht;rw[gh,aq j z];obtain⟨v,r,d⟩:=an.get ht;exact⟨v,r,bM.mono m d⟩
         . rw[al c1]at ht;rw[bR];by_cases c2:j<f+k
           . rw[gh]at ht;rw[gh,show i*sz+j-(i*sz+f)=j-f by omega];obtain⟨v,r,d⟩:=aY.get ht;exact⟨v,r,bM.mono m d⟩
           . rw[bR]at ht;rw[bR,aq j z];obtain⟨v,r,d⟩:=an.get ht;exact⟨v,r,bM.mono m d⟩
       . rw[al N]at he;obtain⟨v,r,d⟩:=au _ _ _ _ he ht;have z:j<sz:=by rw[<-g3 _ (e7 he)];exact(dV.1 ht).1
         have:D*sz+j<i*sz+f\/i*sz+f+k<=D*sz+j:=by
          rcases Nat.lt_or_gt_of_ne N with h|h
          . right;have:=eV sz (show i+1<=D from h);grind
          . left;have:=eV sz (show D+1<=i from h);grind
         rcases this with h|h
         . rw[af h];exact⟨v,r,bM.mono m d⟩
         . rw[bR,bR];exact⟨v,r,bM.mono m d⟩
   . rename_i a6 es bk bl aA l;obtain⟨⟨a1,a2,a3,a4,a5,ah⟩,⟨vs,E,b1,b2,ak,aN,aK,aL⟩,az⟩:=R.bD.blk _ _ l;have aC:aA.ay n=true:=(by simpa[bP.ay]using(R.dG _ _ l).2);have h0:(φ b).2≠0:=(by omega);split at he
     . rename_i c;have X:k=1:=by rw[<-Y];rfl
       split at he
       . rename_i ar;subst ar;obtain⟨rfl,rfl,rfl⟩:=he;obtain⟨T,U,rfl,rfl⟩:=aj;have h1:=(cl R u V T).1.iM;have q:=cl R ab W U;obtain⟨g,A⟩:=nE q.1 L q.2;obtain⟨s,K,I⟩:=aw g;have H:i*sz+f<vs.length:=by
          rw[b2];have:=eV sz (show i+1<=(φ b).2 by omega);rw[h3]at this;omega
         obtain⟨w',d,bb,bq,bU,cu,cW,da⟩:=mC (P:=P) [s] (i*sz+f) 0 vs w b1 (by simp;omega) (λx u=>by rw[pn.1 u];exact bn.iR I);refine⟨undef,φ,S,w',.inr ⟨Z _ _ _ w' h1 K (by simp[X]) d,rfl⟩,.undef,rfl,Rel.more ?_ λ_ h=>kD h⟩;have F:c.ay n=true:=(by simpa using A);refine R.rewrite l h0 (by simpa[bP.ay]using F) bb bq bU cu da (λm=>?_);refine⟨⟨a1,a2,a3,a4,a5,ah⟩,⟨_,E,cW,by rw[pa (by simp;omega)];exact b2,λD j e t he ht O=>?_,s,?_,bn.mono m (λ_ _=>rfl) F I⟩,az⟩
         . obtain⟨v,r,d⟩:=ak _ _ _ _ he ht O;have z:j<sz:=by rw[<-a3 _ (e7 he)];exact(dV.1 ht).1
           rw[uD H,al (λe=>O (x4 z ah e))];exact⟨v,r,bM.mono m d⟩
         . rw[uD H,af rfl]
       . rename_i ar;simp only[bf,dP,ef]at he;obtain⟨t,aP,rfl,rfl,rfl⟩:=he;obtain⟨T,U,rfl,G,aG⟩:=aj;have h1:=(cl R u V T).1.iM;have q:=cl R ab W U;obtain⟨g,A⟩:=nE q.1 L q.2;obtain⟨s,K,I⟩:=aw g;have aZ:bM w S t s:=by
          have h1:=qd (cs:=[c]) (ts:=[t]) (xs:=[s]) (by simp[toTs,aP]) (.cons I .nil);cases h1 with|cons h _=>grind
         have H:i*sz+f<vs.length:=by
          have:=eV sz (show i+1<=(φ b).2 by omega);rw[h3]at this;omega
         obtain⟨w',d,bb,bq,bU,cu,cW,da⟩:=mC (P:=P) [s] (i*sz+f) 0 vs w b1 (by simp;omega) (λx u=>by rw[pn.1 u];exact bn.iR I);refine⟨undef,φ,S,w',.inr ⟨Z _ _ _ w' h1 K (by simp[X]) d,rfl⟩,.undef,rfl,Rel.more ?_ λ_ h=>kD h⟩;refine R.rewrite l h0 (by simpa[bP.ay]using aC) bb bq bU cu da (λm=>?_);have aE:es[i]?=some (el es i):=by unfold el;rw[List.getD,eF G];rfl
         have aR:(el es i).length=sz:=a3 _ (e7 aE);refine⟨⟨by grind,by simpa using a2,λe he=>?_,a4,by simpa using a5,ah⟩,⟨_,E,cW,by rw[pa (by simp;omega)];exact b2,λD j e a7 he ht O=>?_,aN,?_,bn.mono m (λ_ _=>rfl) aC aL⟩,az⟩
         . rcases AF he with he|rfl
           . exact a3 e he
           . simp;omega
         . rw[uD H];rw[x5]at he;by_cases N:i=D
           . subst N;rw[af rfl,af G]at he;cases he;have M:=(nH (vs:=el es i) (off:=f) (xs:=[t]) (by simp;omega) j)
             unfold iN at M;rw[show f+[t].length=f+k by simp[X]]at M;rw[M]at ht;by_cases c1:j=f
             . subst c1;rw[bR,gh,Nat.sub_self]at ht;cases ht;rw[af rfl];exact⟨s,rfl,bM.mono m aZ⟩
             . have aF:(el es i)[j]?=some a7:=by
                by_cases c2:j<f
                . rwa [af c2]at ht
                . rwa [al c2,bR]at ht
               have z:j<sz:=by rw[<-aR];exact(dV.1 aF).1
               obtain⟨v,r,d⟩:=ak _ _ _ _ aE aF O;rw[al (λe=>c1 (x4 z (by omega) e).2)];exact⟨v,r,bM.mono m d⟩
           . rw[al N]at he;obtain⟨v,r,d⟩:=ak _ _ _ _ he ht O;have z:j<sz:=by rw[<-a3 _ (e7 he)];exact(dV.1 ht).1
             rw[al (λe=>N (x4 z (by omega) e).1.symm)];exact⟨v,r,bM.mono m d⟩
         . rw[uD H,al (λe=>ar (x4 ah (by omega) e).2.symm)];exact aK
     . cases he
   . cases he
 . cases he
theorem Ru:∀(xs:List Value) (k off:Nat) (cs:Array Value),off+k+xs.length<=cs.size->
 (((xs.zipIdx k).foldl (λcs (c,j)=>cs.setIfInBounds (off+j) c) cs):Array Value).toList=iN cs.toList (off+k) xs
 |[],k,off,cs,h=>by simp[iN]
 |x::xs,k,off,cs,h=>by
  rw[List.zipIdx_cons,List.foldl_cons,Ru xs _ _ _ (by grind)];grind[Rt]
theorem Gx{a:Array Value}{i:Nat}{r:List (Nat×Value)}{sz:Nat}(aj:place i=some (off,sz))(h1:v.cells.size=sz)(b:off+sz<=a.size):
 Instr.fill place a ((i,v)::r)=Instr.fill place (iN a.toList off v.cells.toList).toArray r:=by
 simp only[Instr.fill,aj];rw[al (by grind)]
 congr 1
 have:=Ru v.cells.toList 0 off a (by grind);rw[<-Array.foldl_toList];grind
theorem QE {fs:Array Field}{place:Nat->Option (Nat×Nat)}(R:Rel av nt φ S env J n a w)
 (m:∀(j:Nat) f k,fs[j]?=some f->eg P f.type=some k->place j=some (f.offset,k)):
 ∀{parts:List (Nat×Operand)} {ps:List (Nat×Nat×aO)} {cs:List C} {vs:List Value} {p:Prop} {b:List C},uu P fs parts=some ps->kW env cs ps=some (p,b)->p->
  aX (bn φ w S) cs vs->cs.all (C.ay n)=true->
  ∃us:List Value,Instr.fill place vs.toArray (parts.map λ(i,x)=>(i,a.eval x))=some us.toArray/\aX (bn φ w S) b us/\b.all (C.ay n)=true
 |[],ps,cs,vs,p,b,e,d,aj,c,g=>by
  grind[uu,kW,Instr.fill]
 |(j,x)::r,ps,cs,vs,p,b,e,d,aj,c,g=>by
  simp[uu,bf,bu]at e;obtain⟨f,u,k,y,D,B,K,z,rfl⟩:=e;simp only[kW,bf,ey,bu]at d;obtain⟨⟨q,v⟩,ak,es,t,⟨h1,F⟩,⟨L,E⟩,s,rfl,rfl⟩:=d;have l:=cl R B ak aj.1;obtain⟨o,A⟩:=nE l.1 t l.2;have ad:=c.length;have I:=o.length;obtain⟨us,G,H,bp⟩:=QE R m z s aj.2 (by exact c.fill o _) (F7 g A _);simp;rw[Gx (m j f k u y) (by grind) (by grind)];grind
theorem Pt{place:Nat->Option (Nat×Nat)}{m:Nat}(R:Rel av nt φ S env J n a w)(k:∀j,place j=some (j*m,m)):
 ∀{parts:List (Nat×Operand)} {ps:List (Nat×Nat×aO)} {cs:List C} {vs:List Value} {p:Prop} {b:List C},uC m parts=some ps->kW env cs ps=some (p,b)->p->
  aX (bn φ w S) cs vs->cs.all (C.ay n)=true->
  ∃us:List Value,Instr.fill place vs.toArray (parts.map λ(i,x)=>(i,a.eval x))=some us.toArray/\aX (bn φ w S) b us/\b.all (C.ay n)=true
 |[],ps,cs,vs,p,b,e,d,aj,c,f=>by
  grind[uC,kW,Instr.fill]
 |(j,x)::r,ps,cs,vs,p,b,e,d,aj,c,f=>by
  simp[uC,bf,bu]at e;obtain⟨z,y,G,t,rfl⟩:=e;simp only[kW,bf,ey,bu]at d;obtain⟨⟨q,v⟩,ak,es,s,⟨h1,B⟩,⟨H,A⟩,o,rfl,rfl⟩:=d;have g:=cl R y ak aj.1;obtain⟨l,u⟩:=nE g.1 s g.2;have ad:=c.length;have F:=l.length;obtain⟨us,D,E,bp⟩:=Pt R k t o aj.2 (by exact c.fill l _) (F7 f u _);simp;rw[Gx (k j) (by grind) (by grind)];grind
theorem VM{fs:List Field}(h:∀f,f∈fs->∃k,eg P f.type=some k):
 ∃ps:List (Nat×Nat),(fs.mapM λf=>do pure (f.offset,<-sizeOf f.type):Sem (List (Nat×Nat))).run P w= .ok ps w/\ps.length=fs.length/\∀(j:Nat) f k,fs[j]?=some f->eg P f.type=some k->ps[j]?=some (f.offset,k):=by
 induction fs with
 |nil=>simp
 |cons f fs ih=>
  obtain⟨ps,h1,ad,a⟩:=ih λf b=>h f (by grind);obtain⟨k,c⟩:=h f (by simp);refine⟨(f.offset,k)::ps,?_,by grind,?_⟩
  . simp_all[i']
  grind
theorem V6(R:Rel av nt φ S env J n a w){ty:TypeId}{parts:Array (Nat×Operand)}(l:o.op= .build ty parts)(r:P.underlying ty=some (.struct fs))(y:FR P fs=true)
 {z:List C}(s:jO P ty=some z){ps:List (Nat×Nat×aO)}(m:uu P fs parts.toList=some ps)
 {p v J'}(g:n key=false)(h:aM (.build z ps) env J key=some (p,v,J'))(aj:p):Good P av nt env J' (ins n key) a v ((execOp a.eval o).run P w):=by
 simp only[aM,bu]at h;obtain⟨⟨q,t⟩,d,rfl,rfl,rfl⟩:=h;obtain⟨i,H,A,G,c,e⟩:=rB s
 obtain⟨pl,B,E,F⟩:=VM (P:=P) (w:=w) (fs:=fs.toList) (by
  grind[FR,Option.isSome_iff_exists])
 have D:(fs.mapM λf=>do pure (f.offset,<-sizeOf f.type):Sem _).run P w= .ok pl.toArray w:=by
  simp_all[Array.mapM_eq_mapM_toList]
 obtain⟨us,h1,b,u⟩:=QE (place:=(pl.toArray[·]?)) R (λj f k x g=>by grind) m d aj c e;refine Good.pure R ?_ (.agg b) (by grind[V.ay]);simp only[execOp,l,Instr.build,zeroValue,typeInfo,Sem.run_bind,run_program,Result.andThen_ok,Sem.run_pure,underlying,r];simp_all
theorem Vl(R:Rel av nt φ S env J n a w){ty:TypeId}{parts:Array (Nat×Operand)}(r:o.op= .build ty parts){len:Nat}(t:P.underlying ty=some (.array len e)){m:Nat}(l:eg P e=some m)
 {z:List C}(u:jO P ty=some z){ps:List (Nat×Nat×aO)}(s:uC m parts.toList=some ps)
 {p v J'}(E:n key=false)(h:aM (.build z ps) env J key=some (p,v,J'))(aj:p):Good P av nt env J' (ins n key) a v ((execOp a.eval o).run P w):=by
 simp only[aM,bu]at h;obtain⟨⟨q,B⟩,f,rfl,rfl,rfl⟩:=h;obtain⟨i,A,k,y,d,g⟩:=rB u;obtain⟨us,h1,c,D⟩:=Pt R (λj=>rfl) s f aj d g;refine Good.pure R ?_ (.agg c) (by grind[V.ay]);have b:Instr.fill (λi=>some (i*m,m)) A.cells ((parts.map λ(i,x)=>(i,a.eval x)).toList)=some us.toArray:=by simp_all
 simp at b;simp[execOp,r,Instr.build,zeroValue,typeInfo,k,y,underlying,t,i' l,b]
def h'(w:World)(S:c0)(sz:Nat)(es:List (List T))(vs:List Value):Prop:=
 ∀(i j:Nat) e t,es[i]?=some e->e[j]?=some t->∃v,vs[i*sz+j]?=some v/\bM w S t v
theorem FI{sz:Nat}(R:Rel av nt φ S env J n a w)(h0:0<sz):
 ∀{parts:List (Nat×Operand)} {ps:List (Nat×aO)} {es:List (List T)} {vs:List Value} {p:Prop} {c:List (List T)},oL parts=some ps->jB env sz es ps=some (p,c)->p->
  (∀e,e∈es->e.length=sz)->vs.length=es.length*sz->h' w S sz es vs->
  ∃us:List Value,Instr.fill (λi=>some (i*sz,sz)) vs.toArray (parts.map λ(i,x)=>(i,a.eval x))=some us.toArray/\(∀e,e∈c->e.length=sz)/\c.length=es.length/\us.length=vs.length/\h' w S sz c us/\(∀u,u∈us->u∈us)
 |[],ps,es,vs,p,c,g,d,aj,y,ad,k=>by
  grind[oL,jB,Instr.fill]
 |(b,x)::r,ps,es,vs,p,c,g,d,aj,y,ad,k=>by
  simp[oL,bf,bu]at g;obtain⟨H,G,Q,D,rfl⟩:=g;simp only[jB,bf,ey,bu]at d;obtain⟨⟨q,v⟩,ak,cs,C,ts,E,⟨h1,l⟩,⟨U,I⟩,B,rfl,rfl⟩:=d;have m:=cl R G ak aj.1;obtain⟨F,O⟩:=nE m.1 C m.2;have s:=qd E F;have P:=s.length;have N:b*sz+sz<=vs.length:=by
   have:=eV sz (show b+1<=es.length from l);grind
  obtain ⟨us,K,z,bp,L,A,M⟩:= FI R h0 D B aj.2 (vs:= iN vs (b*sz) (a.eval x).cells.toList) (by
   grind) (by grind[pa]) (by
   intro i j e t he ht;rw[nH (by omega)];rw[x5]at he;by_cases f:b=i
   . subst f;rw[af rfl,af l]at he;cases he;have o:=(dV.1 ht).1;rw[ch,gh,show b*sz+j-b*sz=j by simp];exact s.get ht
   . rw[al f]at he;have o:=(dV.1 ht).1;rw[y _ (e7 he)]at o;rcases Nat.lt_or_gt_of_ne f with h|h
     . have:=eV sz (show b+1<=i from h);rw[h3]at this;rw[bR,bR];exact k _ _ _ _ he ht
     . have:=eV sz (show i+1<=b from h);rw[h3]at this;rw[gh]
       exact k _ _ _ _ he ht)
  refine⟨us,?_,z,by grind,by grind[pa],A,λ_ h=>h⟩;simp only[kd];rw[Gx rfl (by grind) (by grind)];grind
theorem FV{z:Array Value}{sz len:Nat}(c:z.size=sz)(h0:0<sz)(i j:Nat)(a:i<len)(b:j<sz):
 ((Array.range (len*sz)).map (z[· % z.size]!))[i*sz+j]?=z[j]?:=by
 have aE:i*sz+j<len*sz:=by
  have:=eV sz (show i+1<=len from a);grind
 simp_all[po]
theorem Pu{ty:TypeId}{len:Nat}{parts:Array (Nat×Value)}(g:P.underlying ty=some (.slice e)){sz:Nat}(f:eg P e=some sz){i:TypeInfo}{a:Value}(n:P.info? e=some i)(p:i.zero=some a)
 (h0:sz≠0)(o:len*sz<=2^24){b:Array Value}(k:b=(Array.range (len*sz)).map (a.cells[· % a.cells.size]!)){us:List Value}(c:Instr.fill (λi=>some (i*sz,sz)) b parts.toList=some us.toArray):
 (Instr.buildSlice ty len parts).run P w= .ok (.slice (some ⟨w.heap.size,0,none⟩) len len) (w.alloc (.cells us.toArray e)):=by
 have d:¬(len*sz>2^24):=by omega
 have m:∀w,(zeroValue e).run P w= .ok a w:=by simp_all[zeroValue,typeInfo]
 by_cases ad:len*sz=0
 . have l:b=#[]:=(by grind);subst l;have j:(Array.map (λx=>(#[]:Array Value)[x%(#[]:Array Value).size]!) (Array.range (len*sz)))=#[]:=(by grind);unfold Instr.buildSlice;simp only[Sem.run_bind,run_underlying g,Result.andThen_ok,i' f,al d,af ad,Sem.run_pure,j,c];rfl
 . unfold Instr.buildSlice;subst k;simp only[Sem.run_bind,run_underlying g,Result.andThen_ok,i' f,al d,al ad,Sem.run_pure,m,c];rfl
theorem U1(R:Rel av nt φ S env J n a w){ty:TypeId}{len:Nat}{parts:Array (Nat×Operand)}(Z:o.op= .buildSlice ty len parts)(ab:P.underlying ty=some (.slice e)){sz:Nat}(aa:eg P e=some sz)
 {z:List C}(K:jO P e=some z){ps:List (Nat×aO)}(F:oL parts.toList=some ps)(h0:sz≠0)(L:z.length=sz)(X:len*sz<=2^24)
 {p v J'}(E:n key=false)(h:aM (.bslice sz len z ps) env J key=some (p,v,J'))(aj:p):Good P av nt env J' (ins n key) a v ((execOp a.eval o).run P w):=by
 simp only[aM,bf,bu]at h;obtain⟨l,O,⟨q,u⟩,D,rfl,rfl,rfl⟩:=h;obtain⟨i,f,d,ag,g,U⟩:=rB (φ:=φ) (w:=w) (S:=S) (n:=n) K;have N:=qd O g;have M:f.cells.size=sz:=by rw[<-As,<-g.length,L]
 have b:0<sz:=by omega
 have af:l.length=sz:=by grind[uo]
 obtain ⟨us,h1,A,B,T,bp,_⟩:= FI R b F D aj (vs:= ((Array.range (len*sz)).map _).toList) (by
  grind) (by simp) (by
  intro i j e t he ht;have d:=(dV.1 he).1;simp at d;have:e=l:=by
   grind
  subst this;have W:=(dV.1 ht).1;obtain⟨x,ae,G⟩:=N.get ht;rw[DQ,FV M b i j d (by omega)]
  grind)
 simp at B;have H:us.length=len*sz:=by grind
 have r:=R.alloc (.cells us.toArray e);have m:=R.va (.cells us.toArray e);have Y:len<=dm:=by
  have:=DO len b;grind[dm]
 have s:=r.je E (x:= .arr sz u) (w.heap.size,len) rfl (by
  simp only[cP,dn];refine⟨by omega,by omega,A,b,λ_=>⟨us,e,heap_alloc_new,H,λi j e t he ht=>?_,λj h=>?_⟩⟩
  . obtain⟨v,ad,G⟩:=bp i j e t he ht;grind[bM.mono]
  . have:=R.bD.st _ _ h
    omega) (λ_=>⟨λk y I h0=>by
     have:=(R.bD.blk k y I).jk h0
     grind,.inr R.ext.size⟩)
 refine⟨.slice (some ⟨w.heap.size,0,none⟩) len len,_,S,_,.inl ?_,.c ⟨some ⟨w.heap.size,0,none⟩,by simp[dn],by simp[dn],by simp[dn]⟩,by simp[V.ay,C.ay,ins],s⟩;have Q:Instr.fill (λi=>some (i*sz,sz)) ((Array.range (len*sz)).map (f.cells[· % f.cells.size]!)) ((parts.map λ(i,x)=>(i,a.eval x)).toList)=some us.toArray:=by
  rw[Array.toList_map];omega
 simp_all[Pu,execOp,Sem.run_bind,Result.andThen_ok]
theorem H8(a:Nat):∀(r c:Nat),c<=2*a+192->Builtin.growBy a r c<=2*a+192
 |0,c,h=>h
 |r+1,c,h=>by
  unfold Builtin.growBy;split
  . grind
  . exact H8 _ r _ (by omega)
theorem Ug{a b:Nat}(h:b<a):Builtin.nextslicecap a b<=2*a+192:=by
 grind[Builtin.nextslicecap,H8]
theorem Rv(a:Nat):∀(r c:Nat),c<=a+a/4+512->Builtin.growBy a r c<=a+a/4+512
 |0,c,h=>h
 |r+1,c,h=>by
  unfold Builtin.growBy;split
  . grind
  . exact Rv _ r _ (by omega)
theorem UA{a b:Nat}(h:b<a):Builtin.nextslicecap a b<=a+a/4+512:=by
 grind[Builtin.nextslicecap,Rv]
theorem jC.not{e bytes:Nat}(h:f<e)(c:jC e bytes):¬(Builtin.nextslicecap e f*bytes>2^48):=by
 have a:=eV bytes (Ug h);have b:=eV bytes (UA h);rcases c with c|c<;>unfold hr at c<;>omega
theorem V7{p:α->Prop}{l m:List α}(h:∀x,x∈l->p x)(k:∀x,x∈m->p x):∀x,x∈l++m->p x:=by grind
def q7(P:Program)(w:World)(S:c0)(sz:Nat)(v:Value)(ys:List (List T))(b:Option Nat):Prop:=
 (Builtin.lenOf v).run P w= .ok ys.length w/\∃xs:List Value,(Builtin.firstCells sz ys.length v).run P w= .ok xs.toArray w/\xs.length=ys.length*sz/\h' w S sz ys xs/\∀x,x∈xs->x.oneCell'=true
theorem Rw{sz k len:Nat}(h0:0<sz)(a:k<len*sz):k/sz<len/\k%sz<sz/\(k/sz)*sz+k%sz=k:=
 ⟨Nat.div_lt_of_lt_mul (by grind),Nat.mod_lt _ h0,by grind[Nat.div_add_mod]⟩
theorem h'.one{sz:Nat}(h0:0<sz)(a:∀e,e∈ys->e.length=sz)(ad:xs.length=ys.length*sz)(h:h' w S sz ys xs):∀x,x∈xs->x.oneCell'=true:=by
 intro x c;obtain⟨k,o,p⟩:=jf c;obtain⟨h1,f,g⟩:=Rw h0 (by rw[<-ad];omega);have he:=eF h1;have j:=a _ (x6 h1);have ht:(ys[k/sz])[k%sz]?=some _:=eF (by omega);obtain⟨v,t,q⟩:=h _ _ _ _ he ht;grind[bM.iR]
theorem xL{b o m:Nat}(ad:xs.length=m)(h:∀j,j<m->w.cell? ⟨b,o+j,none⟩=xs[j]?):(loadCells ⟨b,o,none⟩ m).run P w= .ok xs.toArray w:=by
 grind[run_loadCells_list,Addr.add]
theorem WZ{sz:Nat}(h0:0<sz)(s:bM w S (.slice ys) v)(m:∀e,e∈ys->e.length=sz):q7 P w S sz v ys none:=by
 obtain⟨a,cap,c,b,o,f,rfl,x,z,B,n,u,A⟩:=bM.jm s;refine⟨by rfl,?_⟩;by_cases d:ys=[]
 . subst d;refine⟨[],?_,by simp,by intro i j e t he;grind,by simp⟩;cases a with
   |none=>rfl
   |some a=>simp[Builtin.firstCells,loadCells,loadCellsFrom]
 . have r:c=sz:=by
    obtain⟨dh,y⟩:=AE ys d;grind
   subst r;rw[n d];have g:((List.range (ys.length*c)).map λk=>f (k/c) (k%c)).length=ys.length*c:=(by simp);have l:h' w S c ys ((List.range (ys.length*c)).map λk=>f (k/c) (k%c)):=by
    intro i j e t he ht;have p:=(dV.1 he).1;have q:=(dV.1 ht).1;rw[m _ (e7 he)]at q;have aE:i*c+j<ys.length*c:=by
     have:=eV c (show i+1<=ys.length from p);grind
    simp_all[Nat.add_comm,Nat.add_mul_div_right,Nat.div_eq_of_lt,po]
   refine⟨_,?_,g,l,h'.one h0 m g l⟩;refine xL g ?_;grind[Rw]
theorem W0{sz:Nat}(b:bn φ w S .aL v):q7 P w S sz v [] none:=by
 obtain⟨a,rfl⟩:=b;refine⟨by rfl,[],?_,by simp,by intro i j e t he;grind,by simp⟩;cases a with
 |none=>rfl
 |some a=>simp[Builtin.firstCells,loadCells,loadCellsFrom]
theorem H9{sz b:Nat}(di:cP φ w S b (.arr sz ys))(n:bn φ w S (.arr b sz 0 ys.length) v):q7 P w S sz v ys (some b):=by
 obtain⟨a,rfl,k,p⟩:=bn.g' n;obtain⟨h1,o,f,g,bp⟩:=di;refine⟨by rfl,?_⟩;by_cases h0:(φ b).2=0
 . have:ys=[]:=lb (by omega);subst this;refine⟨[],?_,by simp,by intro i j e t he;grind,by simp⟩;cases a with
   |none=>rfl
   |some a=>simp[Builtin.firstCells,loadCells,loadCellsFrom]
 . obtain⟨vs,E,aa,ad,r,_⟩:=bp h0;rw[k h0];have q:ys.length*sz<=vs.length:=(by simp_all[eV]);have c:(vs.take (ys.length*sz)).length=ys.length*sz:=(by grind);have d:h' w S sz ys (vs.take (ys.length*sz)):=by
    intro i j e t he ht;have l:=(dV.1 he).1;have aE:i*sz+j<ys.length*sz:=by
     have:=eV sz (show i+1<=ys.length from l);grind
    grind
   refine⟨_,?_,c,d,h'.one g f c d⟩;rw[AA];refine xL c ?_;intro j m;rw[hx,iH aa,vu,af m]
theorem q7.world{sz:Nat}{b:Option Nat}(h:q7 P w S sz v ys b){m:Nat}:∃xs:List Value,xs.length=ys.length*sz/\h' w S sz ys xs/\(∀x,x∈xs->x.oneCell'=true):=by
 obtain⟨_,xs,_,h1,a,c⟩:=h;grind
theorem Pv(z:Array Value)(m:Nat):(Builtin.zeroCells z m).size=m*z.size:=by simp[Builtin.zeroCells]
theorem EC{st x:TypeId}{i:TypeInfo}{c:Value}(p:P.underlying st=some (.slice e))(u:P.underlying yt=some (.slice x))(g:P.info? e=some i)(C:i.zero=some c)(D:c.cells.size=i.size)
 {base:Option Addr}{sl sc a:Nat}{y:Value}{xs d:List Value}(t:(Builtin.lenOf y).run P w= .ok a w)
 (q:(Builtin.firstCells i.size sl (.slice base sl sc)).run P w.drew= .ok xs.toArray w.drew)(s:(Builtin.firstCells i.size a y).run P w.drew= .ok d.toArray w.drew)
 (n:sc<sl+a)(k:jC (sl+a) i.bytes)(A:sl+a<=dm){tt:TypeId}:
 ∃(b:Nat) (r:List Value),sl+a<=b/\r.length=(b-(sl+a))*i.size/\
  (Builtin.append_ #[st,yt] tt #[.slice base sl sc,y]).run P w= .ok (.slice (some ⟨w.heap.size,0,none⟩) (sl+a) b) (w.drew.alloc (.cells (xs++d++r).toArray e)):=by
 have o:∀w,(sizeOf e).run P w= .ok i.size w:=λw=>by simp[sizeOf,typeInfo,g]
 have f:∀w,(typeInfo e).run P w= .ok i w:=λw=>by simp[typeInfo,g]
 have v:∀w,(zeroValue e).run P w= .ok c w:=λw=>by simp_all[zeroValue]
 generalize B:(Question.appendCap (sl+a) sc e).cut (w.tape w.drawn (Question.appendCap (sl+a) sc e))=b;have m:sl+a<=b:=by grind[Question.cut]
 have h1:¬(sl+a<=sc):=by omega
 have z:¬(sl+a>IntKind.i64.max/\(False\/i.bytes=0)):=by grind[IntKind.max,IntKind.bits,dm]
 have j:=by
  exact k.not n
 refine⟨b,(Builtin.zeroCells c.cells (b-(sl+a))).toList,m,by grind[Pv],?_⟩;have l:(choose (.appendCap (sl+a) sc e)).run P w= .ok b w.drew:=by simp_all[Question.forced]
 have aK:(xs++d++(Builtin.zeroCells c.cells (b-(sl+a))).toList).toArray=xs.toArray++d.toArray++Builtin.zeroCells c.cells (b-(sl+a)):=by simp
 rw[aK];unfold Builtin.append_;simp only[Ap,AH,AI,Sem.run_bind,run_underlying p,run_underlying u,Result.andThen_ok,o,Sem.run_pure,ca,b4,t,al h1,f];rw[al (by grind)];simp only[Sem.run_bind,Result.andThen_ok,f];rw[al j];simp only[Sem.run_bind,Result.andThen_ok,f,l,run_askRoom,q,s,v,fz,b7];rfl
theorem uR{st l:TypeId}{i:TypeInfo}(g:P.underlying st=some (.slice e))(k:P.underlying yt=some (.slice l))(d:P.info? e=some i)
 {base:Option Addr}{sl sc a:Nat}{y:Value}{c:List Value}(j:(Builtin.lenOf y).run P w= .ok a w)(o:(Builtin.firstCells i.size a y).run P w= .ok c.toArray w)(n:sl+a<=sc){w':World}
 (hs:∀b,base=some b->(storeCells (b.add (sl*i.size)) c 0).run P w= .ok () w') (m:base=none->w'=w) {tt:TypeId}:
  (Builtin.append_ #[st,yt] tt #[.slice base sl sc,y]).run P w= .ok (.slice base (sl+a) sc) w':=by
 have f:∀w,(sizeOf e).run P w= .ok i.size w:=λw=>by simp[sizeOf,typeInfo,d]
 unfold Builtin.append_;simp only[Ap,AH,AI,Sem.run_bind,run_underlying g,run_underlying k,Result.andThen_ok,f,Sem.run_pure,ca,b4,j];cases base<;>simp_all
theorem h'.append{sz:Nat}{c r:List Value}(h0:0<sz)(p:∀e,e∈es->e.length=sz)(v:∀e,e∈ys->e.length=sz)(y:xs.length=es.length*sz)(A:c.length=ys.length*sz)
 (h1:h' w S sz es xs)(g:h' w S sz ys c):h' w S sz (es++ys) (xs++c++r):=by
 intro i j e t he ht;by_cases f:i<es.length
 . rw[vo f]at he;have a:=(dV.1 ht).1;rw[p _ (e7 he)]at a;have:=eV sz (show i+1<=es.length from f);rw[h3]at this;rw[jh,vo (by omega)];exact h1 _ _ _ _ he ht
 . rw[yd (by omega)]at he;have a:=(dV.1 ht).1;rw[v _ (e7 he)]at a;have q:=(dV.1 he).1;have x:=eV sz (show es.length<=i by omega);have o:=eV sz (show(i-es.length)+1<=ys.length from q);have bp:(i-es.length)*sz=i*sz-es.length*sz:=Nat.sub_mul _ _ _;rw[h3]at o;rw[jh,yd (by omega),vo (by omega),show i*sz+j-xs.length=(i-es.length)*sz+j by omega];exact g _ _ _ _ he ht
theorem Rel.drew(R:Rel av nt φ S env J n a w):Rel av nt φ S env J n a w.drew:=
 R.world (λ_=>False) rfl rfl rfl (e9 _) (λ_ _ _=>rfl) (λ_ h=>h.elim)
theorem tX(R:Rel av nt φ S env J n a w){d:aO}(q:bB y=some d){v:V}(ak:d.get env=some (p,v))(aj:p){sz:Nat}(h0:0<sz){ys:List (List T)×Option Nat}
 (h:lp J v=some ys)(l:∀e,e∈ys.1->e.length=sz):q7 P w S sz (a.eval y) ys.1 ys.2:=by
 have c:=(cl R q ak aj).1;unfold lp at h;split at h
 . cases h;exact WZ h0 c.dT l
 . cases h;exact W0 c.dT
 . split at h
   . rename_i b r x u _ z s f;simp at h;obtain⟨⟨h1,rfl,rfl⟩,rfl⟩:=h;subst h1;by_cases k:s=[]
     . subst k;obtain⟨bX,o,_⟩:=bn.g' c.dT;rw[o];refine⟨by rfl,[],?_,by simp,by intro i j e t he;grind,by simp⟩;cases bX with
       |none=>rfl
       |some a=>simp[Builtin.firstCells,loadCells,loadCellsFrom]
     . have m:r=sz:=by
        obtain⟨dh,g⟩:=AE _ k;rw[<-(R.bD.blk _ _ f).2.2.1 _ g,l _ g]
       subst m;exact H9 (R.bD.blk _ _ f) c.dT
   grind
 grind
theorem X8{sz b len:Nat}(di:cP φ w S b (.arr sz es))(p:bn φ w S (.fL b sz off len) v)(r:off+len<=es.length):q7 P w S sz v ((es.drop off).take len) none:=by
 obtain⟨a,cap,rfl,l,s⟩:=p;obtain⟨h1,q,g,k,bp⟩:=di;have f:((es.drop off).take len).length=len:=by grind
 refine⟨by simp[Builtin.lenOf,f],?_⟩;rw[f];by_cases h0:len=0
 . subst h0;refine⟨[],?_,by simp,by intro i j e t he;grind,by simp⟩;cases a with
   |none=>rfl
   |some a=>simp[Builtin.firstCells,loadCells,loadCellsFrom]
 . obtain⟨vs,E,aa,ad,x,_⟩:=bp (by omega);rw[l h0];have u:off*sz+len*sz<=vs.length:=by rw[ad,<-h3];exact eV _ (by omega)
   have d:((vs.drop (off*sz)).take (len*sz)).length=len*sz:=(by grind);have o:∀e,e∈(es.drop off).take len->e.length=sz:=λe he=>g e (DS (sT he));have c:h' w S sz ((es.drop off).take len) ((vs.drop (off*sz)).take (len*sz)):=by
    intro i j e t he ht;have m:i<len:=(by grind);have aE:i*sz+j<len*sz:=by
     have:=eV sz (show i+1<=len from m);grind
    grind
   refine⟨_,?_,d,c,h'.one k o (by grind) c⟩;refine xL d ?_;intro j n;rw[iH aa,vu,af n,DZ]
theorem W1(R:Rel av nt φ S env J n a w){x y:Operand}{st yt e aP:TypeId}(aF:o.op= .call {callee:= .builtin .append,args:=#[x,y],argTypes:=#[st,yt]})
 (ae:P.underlying st=some (.slice e))(ah:P.underlying yt=some (.slice aP)){i:TypeInfo}(Y:P.info? e=some i)(aV:i.size≠0)
 {O Q:aO}(aJ:bB x=some O)(f:bB y=some Q){ai ak:Prop}{al am:V}(ax:O.get env=some (ai,al))(ay:Q.get env=some (ak,am)){r}
 {p v J'}(B:l3 al am=some r)(g:n key=false)(h:tz J key i.size ai ak r=some (p,v,J'))(aj:p):Good P av nt env J' (ins n key) a v ((execOp a.eval o).run P w):=by
 have ab:∀r w',(Builtin.append_ #[st,yt] o.type #[a.eval x,a.eval y]).run P w= .ok r w'->(execOp a.eval o).run P w= .ok (.value r) w':=by
  intro r w' d;simp[execOp,aF,Go.resolve,invoke,builtin,d]
 unfold l3 at B;split at B
 . rename_i b s1 off len aQ aW F s;split at B
   . rename_i au;subst au;cases B;unfold tz at h;dsimp only at h;split at h
     . rename_i aX es u;obtain⟨rfl,rfl,rfl⟩:=h;obtain⟨aG,aH,rfl,rfl,rfl,rfl,aS,aD⟩:=aj;have aw:=cl R aJ ax aG;obtain⟨base,D,ar,aT⟩:=bn.g' aw.1.dT;have az:=cl R f ay aH;have z:=R.bD.blk _ _ u;obtain⟨K,N,L,M,aM,aL⟩:=X8 (P:=P) z az.1.dT aD;obtain⟨g1,g2,g3,g4,aq⟩:=z;have aK:((es.drop F).take s).length=s:=by simp;omega
       rw[aK]at K L M;rw[Nat.sub_zero]at D;have A:len+s<=(φ b).2:=(by omega);have h0:0<i.size:=(by omega);have G:(es.take len++(es.drop F).take s).length=len+s:=(by grind);have Z:∀T,T∈es.take len++(es.drop F).take s->T.length=i.size:=by
        grind
       by_cases l:(φ b).2=0
       . have aB:len=0:=(by omega);have aC:s=0:=(by omega);subst aB aC;have aN:N=[]:=lb (by grind);subst aN;have d:=uR (tt:=o.type) ae ah Y (base:=base) (sl:=0) (sc:=(φ b).2) K L A (w':=w) (λap _=>by simp[storeCells]) (λ_=>rfl);rw[<-D]at d;have R':=(R.del b).je g (x:= .arr i.size (es.take 0++(es.drop F).take 0)) (0,0) rfl (by simp only[cP,dn];exact⟨by simp,by simp,by simp,h0,by simp⟩) (by simp);refine⟨_,_,S,w,.inl (ab _ _ d),.c ?_,by simp[V.ay,C.ay,ins],R'⟩;exact⟨base,by simp[dn,l,D],by simp[dn],by simp[dn]⟩
       . obtain⟨vs,E,aa,ag,aI,aE⟩:=aq l;have z:=R.bD.blk _ _ u;have X:len*i.size+N.length<=vs.length:=by rw[M,ag,<-h3];exact eV _ A
         obtain⟨w',aU,bb,bq,bU,cu,cW,da⟩:=mC (P:=P) N (len*i.size) 0 vs w aa (by omega) aL;rw[sQ]at cW;have W:=ar l
         have d:=uR (tt:=o.type) ae ah Y (base:=base) (sl:=len) (sc:=(φ b).2) K L A (w':=w') (λap aR=>by
          grind[Addr.add]) (λU=>by rw[W]at U;cases U)
         rw[<-D]at d
         have an:=(R.del b).world (w':=w') (λk=>k=(φ b).1) bb bq bU (sR cu.symm) (λk _ g=>da k g) (λk g=>by
          subst g;refine⟨z.ph l,λk y f g=>?_,R.own b _ u l⟩;rw[fk]at f;split at f
          . cases f
          . rename_i H
            exactλe=>R.bD.inj k b y _ f u (dx H) g l e)
         have m:gq w S w' S:=⟨λ_ _ h=>h,λk j h=>p5 (da k (λe=>z.ph l j (e▸h))) j⟩
         have ao:=an.je g (x:= .arr i.size _) (φ b) rfl (by
          simp only[cP,dn];refine⟨by rw[G];exact A,by rw[G];omega,Z,h0,λ_=>⟨_,E,cW,by rw[pa X];exact ag,λq j e t he ht=>?_,aE⟩⟩;have aA:=(dV.1 ht).1;rw[Z _ (e7 he)]at aA;rw[nH X,M];by_cases c1:q<len
          . have:=eV i.size (show q+1<=len from c1);rw[h3]at this;rw[gh];rw[vo (by simp;omega),vu,af c1]at he;obtain⟨v,I,d⟩:=aI _ _ _ _ he ht;exact⟨v,I,bM.mono m d⟩
          . have h1:=eV i.size (show len<=q by omega);have c2:q<len+s:=by rw[<-G];exact(dV.1 he).1
            have:=eV i.size (show q+1<=len+s from c2);rw[h3,h3]at this;rw[bR,gh];have ad:(es.take len).length=len:=by simp;omega
            rw[yd (by omega),ad]at he;have bp:(q-len)*i.size=q*i.size-len*i.size:=Nat.sub_mul _ _ _;obtain⟨v,I,d⟩:=aM _ _ _ _ he ht;rw[show q*i.size+j-len*i.size=(q-len)*i.size+j by omega]
            exact⟨v,I,bM.mono m d⟩) (λ_=>⟨λk y f g=>by
            rw[fk]at f;split at f
            . cases f
            . rename_i H
              exact R.bD.inj k b y _ f u (dx H) g l,R.own b _ u l⟩)
         refine⟨_,_,S,w',.inl (ab _ _ d),.c ?_,by simp[V.ay,C.ay,ins],ao⟩;exact⟨base,by simp[dn],by simp[dn,W],by simp[dn];omega⟩
     grind
   grind
 grind
theorem U2(R:Rel av nt φ S env J n a w){x y:Operand}{st yt e a1:TypeId}(aY:o.op= .call {callee:= .builtin .append,args:=#[x,y],argTypes:=#[st,yt]})
 (W:P.underlying st=some (.slice e))(X:P.underlying yt=some (.slice a1)){i:TypeInfo}(Q:P.info? e=some i)(a6:i.size≠0)(aJ:(i.zero.map (·.cells.size))=some i.size)
 {ai ay:aO}(aq:bB x=some ai)(f:bB y=some ay)
 {p v J'}(g:n key=false)(h:aM (.append e i.size i.bytes ai ay) env J key=some (p,v,J'))(aW:∀q b l,ai.get env≠some (q,.c (.cb b l)))(aj:p):Good P av nt env J' (ins n key) a v ((execOp a.eval o).run P w):=by
 simp only[aM,bf]at h;obtain⟨⟨a8,bc⟩,Z,⟨a9,bd⟩,ab,he⟩:=h;split at he
 . grind[W1]
 rename_i a7;simp only[bf]at he;obtain⟨ys,af,he⟩:=he;simp only[bu]at aJ;obtain⟨be,aL,aK⟩:=aJ;have h0:0<i.size:=by omega
 have U:∀r w',(Builtin.append_ #[st,yt] o.type #[a.eval x,a.eval y]).run P w= .ok r w'->(execOp a.eval o).run P w= .ok (.value r) w':=by
  intro r w' d;simp[execOp,aY,Go.resolve,invoke,builtin,d]
 have aE:∀b,w.heap.size<=b->∀j,¬S b j:=λb am j aA=>by have:=R.bD.st _ _ aA;omega
 split at he
 ·
  obtain⟨rfl,rfl,rfl⟩:=he;obtain⟨ad,T,D,aB,ap⟩:=aj;obtain⟨base,I⟩:=(cl R aq Z ad).1.dT;have dY:=tX (P:=P) R f ab T h0 af D;by_cases H:ys.1=[]
  . obtain⟨B,A,F,s,N,ag⟩:=dY;rw[H]at B F s;have au:A=[]:=lb (by simpa using s);subst au;have d:=uR (tt:=o.type) W X Q (base:=base) (sl:=0) (sc:=0) B F (by simp) (w':=w) (λax _=>by simp[storeCells]) (λ_=>rfl);rw[<-I]at d;have R':=R.je g (x:= .arr i.size ys.1) (0,0) rfl (by rw[H];simp only[cP,dn];exact⟨by simp,by simp,by simp,h0,by simp⟩) (by simp);refine⟨_,_,S,w,.inl (U _ _ d),.c ?_,by simp[V.ay,C.ay,ins],R'⟩;rw[H];exact⟨base,by simp[dn],by simp[dn],by simp[dn]⟩
  . have z:=R.drew;obtain⟨B,_⟩:=dY;obtain⟨_,A,F,s,N,ag⟩:=tX (P:=P) z f ab T h0 af D;have a4:0<ys.1.length:=yg.2 H;have ae:(Builtin.firstCells i.size 0 (.slice base 0 0)).run P w.drew= .ok ([]:List Value).toArray w.drew:=by
     cases base with
     |none=>rfl
     |some a=>simp[Builtin.firstCells,loadCells,loadCellsFrom]
    obtain⟨aw,r,h1,ak,d⟩:=EC (tt:=o.type) W X Q aL aK B ae F (by omega) (by grind) (by grind);rw[<-I]at d;have O:=z.alloc (.cells ([]++A++r).toArray e);have m:=z.va (.cells ([]++A++r).toArray e)
    have ah:=O.je g (x:= .arr i.size ys.1) (w.heap.size,aw) rfl (by
     simp only[cP,dn];refine⟨by omega,ap,D,h0,λ_=>⟨_,e,heap_alloc_new,?_,?_,aE _ (e9 _)⟩⟩
     . simp only[db,kc,s,ak,hx,<-h3];congr 1;omega
     . have:=h'.append (S:=S) (w:=w.drew) (r:=r) (es:=[]) (xs:=[]) h0 (by simp) D (by simp) s (by intro i j e t he;simp at he) N;intro u j K t he ht;obtain⟨v,L,d⟩:=this u j K t (by simpa using he) ht
       exact⟨v,L,bM.mono m d⟩) (λ_=>⟨λk y f h0=>by
        have:=(R.bD.blk k y f).jk h0
        omega,.inr R.ext.size⟩)
    refine⟨_,_,S,_,.inl (U _ _ d),.c ?_,by simp[V.ay,C.ay,ins],ah⟩;exact⟨some ⟨w.heap.size,0,none⟩,by simp[dn],by simp[dn],by simp[dn];omega⟩
 . rename_i b a' off len;split at he
   . rename_i ba es M;split at he
     . grind
     . obtain⟨rfl,rfl,rfl⟩:=he;obtain⟨ad,T,rfl,rfl,rfl,rfl,D,aB,ap⟩:=aj;have aT:=cl R aq Z ad;have aR:=aT.1.dT;obtain⟨base,I,aS,aV⟩:=bn.g' aR;have dY:=tX (P:=P) R f ab T h0 af D;have al:=R.bD.blk _ _ M;have aQ:=al;obtain⟨g1,g2,g3,g4,aN⟩:=aQ;rw[Nat.sub_zero]at I;rw[hx]at aV;have aG:∀K,K∈es++ys.1->K.length=i.size:=V7 g3 D;by_cases aF:es.length+ys.1.length<=(φ b).2
       . obtain⟨B,A,F,s,N,ag⟩:=dY;by_cases G:(φ b).2=0
         . have an:es=[]:=lb (by omega);have ar:ys.1=[]:=lb (by omega);rw[ar]at B F s;have au:A=[]:=lb (by simpa using s);subst au;have d:=uR (tt:=o.type) W X Q (base:=base) (sl:=es.length) (sc:=(φ b).2) B F (by simp[an]) (w':=w) (λax _=>by simp[storeCells]) (λ_=>rfl);rw[<-I]at d;have R':=(R.del b).je g (x:= .arr i.size (es++ys.1)) (0,0) rfl (by rw[ar,an];simp only[cP,dn];exact⟨by simp,by simp,by simp,h0,by simp⟩) (by simp);refine⟨_,_,S,w,.inl (U _ _ d),.c ?_,by simp[V.ay,C.ay,ins],R'⟩;rw[ar,an];exact⟨base,by simp[dn,G],by simp[dn],by simp[dn]⟩
         . obtain⟨vs,E,aa,aH,aZ,aX⟩:=aN G;have aC:es.length*i.size+A.length<=vs.length:=by rw[s,aH,<-h3];exact eV _ aF
           obtain⟨w',a5,bb,bq,bU,cu,cW,da⟩:=mC (P:=P) A (es.length*i.size) 0 vs w aa (by omega) ag;rw[sQ]at cW;have Y:=aS G;rw[AA]at Y
           have d:=uR (tt:=o.type) W X Q (base:=base) (sl:=es.length) (sc:=(φ b).2) B F aF (w':=w') (λax az=>by
            rw[Y]at az;cases az;have a3:Addr.add ⟨(φ b).1,0,none⟩ (es.length*i.size)=⟨(φ b).1,es.length*i.size,none⟩:=by unfold Addr.add;split<;>simp_all
            grind) (λam=>by rw[Y]at am;cases am)
           rw[<-I]at d
           have z:=(R.del b).world (w':=w') (λk=>k=(φ b).1) bb bq bU (sR cu.symm) (λk _ g=>da k g) (λk g=>by
            subst g;refine⟨al.ph G,λk y f g=>?_,R.own b _ M G⟩;rw[fk]at f;split at f
            . cases f
            . rename_i H
              exactλe=>R.bD.inj k b y _ f M (dx H) g G e)
           have m:gq w S w' S:=⟨λ_ _ h=>h,λk j h=>p5 (da k (λe=>al.ph G j (e▸h))) j⟩
           have O:=z.je g (x:= .arr i.size (es++ys.1)) (φ b) rfl (by
            simp only[cP,dn];refine⟨by simp;omega,by simp;omega,aG,h0,λ_=>⟨_,E,cW,by rw[pa aC];exact aH,?_,aX⟩⟩;intro u j K t he ht;rw[nH aC];by_cases aD:u<es.length
            . rw[vo aD]at he;have ao:=(dV.1 ht).1;rw[g3 _ (e7 he)]at ao;have:=eV i.size (show u+1<=es.length from aD);rw[h3]at this;rw[gh];obtain⟨v,L,d⟩:=aZ _ _ _ _ he ht;exact⟨v,L,bM.mono m d⟩
            . rw[yd (by omega)]at he;have ao:=(dV.1 ht).1;rw[D _ (e7 he)]at ao;have aU:=(dV.1 he).1;have a2:=eV i.size (show es.length<=u by omega);have aP:=eV i.size (show(u-es.length)+1<=ys.1.length from aU);have bp:(u-es.length)*i.size=u*i.size-es.length*i.size:=Nat.sub_mul _ _ _;rw[h3]at aP;rw[bR,gh,show u*i.size+j-es.length*i.size=(u-es.length)*i.size+j by omega];obtain⟨v,L,d⟩:=N _ _ _ _ he ht
              exact⟨v,L,bM.mono m d⟩) (λ_=>⟨λk y f g=>by
              rw[fk]at f;split at f
              . cases f
              . rename_i H
                exact R.bD.inj k b y _ f M (dx H) g G,R.own b _ M G⟩)
           refine⟨_,_,S,w',.inl (U _ _ d),.c ?_,by simp[V.ay,C.ay,ins],O⟩;exact⟨base,by simp[dn],by simp[dn,Y],by simp[dn];omega⟩
       . have z:=R.drew;obtain⟨B,_⟩:=dY;obtain⟨_,A,F,s,N,ag⟩:=tX (P:=P) z f ab T h0 af D;obtain⟨_,xs,ae,aI,a0,_⟩:=H9 (P:=P) (z.bD.blk _ _ M) (cl z aq Z ad).1.dT;rw[I]at ae;obtain⟨aw,r,h1,ak,d⟩:=EC (tt:=o.type) W X Q aL aK B ae F (by omega) aB ap;rw[<-I]at d;have O:=(z.del b).alloc (.cells (xs++A++r).toArray e);have m:=z.va (.cells (xs++A++r).toArray e)
         have ah:=O.je g (x:= .arr i.size (es++ys.1)) (w.heap.size,aw) rfl (by
          simp only[cP,dn];refine⟨by simp;omega,by simp;omega,aG,h0,λ_=>⟨_,e,heap_alloc_new,?_,?_,aE _ (e9 _)⟩⟩
          . simp only[db,aI,s,ak,<-h3];congr 1;omega
          . have:=h'.append (S:=S) (w:=w.drew) (r:=r) h0 g3 D aI s a0 N;intro u j K t he ht;obtain⟨v,L,d⟩:=this u j K t he ht
            exact⟨v,L,bM.mono m d⟩) (λ_=>⟨λk y f h0=>by
             rw[fk]at f;split at f
             . cases f
             . have:=(R.bD.blk k y f).jk h0
               omega,.inr R.ext.size⟩)
         refine⟨_,_,S,_,.inl (U _ _ d),.c ?_,by simp[V.ay,C.ay,ins],ah⟩;exact⟨some ⟨w.heap.size,0,none⟩,by simp[dn],by simp[dn],by simp[dn];omega⟩
   grind
 . exact absurd Z (aW _ _ _)
 grind
theorem U3:∀{ts:List T} {vs:List Value},aX R ts vs->∀(i j:Nat) e t,(ts.map λt=>[t])[i]?=some e->e[j]?=some t->∃v,vs[i*1+j]?=some v/\R t v:=by
 intro ts vs h i j e t he ht;rw[qP,bu]at he;obtain⟨t0,h0,rfl⟩:=he;cases j with
 |zero=>
  obtain⟨v,b,a⟩:=h.get h0;grind
 |succ j=>grind
theorem U4(R:Rel av nt φ S env J n a w){ty:TypeId}(D:o.op= .alloc ty)(f:jO P ty=some cs)(B:cs.length≠0)(A:cs.length<=2^24)
 {p v J'}(q:n key=false)(h:aM (.allocA cs) env J key=some (p,v,J'))(aj:p):Good P av nt env J' (ins n key) a v ((execOp a.eval o).run P w):=by
 simp only[aM,bu]at h;obtain⟨ts,d,rfl,rfl,rfl⟩:=h;obtain⟨i,z,u,f,b,s⟩:=rB (φ:=φ) (w:=w) (S:=S) (n:=n) f;have G:=qd d b;have E:=uo d;have g:=R.alloc (.cells z.cells.toList.toArray ty);have m:=R.va (.cells z.cells.toList.toArray ty);have F:=b.length.symm
 have l:=g.je q (x:= .arr 1 (ts.map λt=>[t])) (w.heap.size,cs.length) rfl (by
  simp only[cP,dn,sU];refine⟨by omega,by grind[dm],?_,by simp,λ_=>⟨z.cells.toList,ty,heap_alloc_new,by omega,λi j e t he ht=>?_,λj h=>?_⟩⟩
  . simp
  . grind[U3,bM.mono]
  . have:=R.bD.st _ _ h
    omega) (λ_=>⟨λk y r h0=>by
     have:=(R.bD.blk k y r).jk h0
     grind,.inr R.ext.size⟩)
 refine⟨.pointer (some ⟨w.heap.size,0,none⟩),_,S,_,.inl ?_,.c ?_,by simp[V.ay,C.ay,ins],l⟩
 . simp_all[execOp,Instr.alloc,zeroValue,typeInfo,newVar,newRow]
 grind[bn,dn]
theorem W2(R:Rel av nt φ S env J n a w){ty:TypeId}{i:Operand}(u:o.op= .indexAddr ty x i){k:Nat}(B:P.underlying ty=some (.array k e))(A:eg P e=some 1)
 {f d:aO}(D:bB x=some f)(s:bB i=some d)
 {p v J'}(E:n key=false)(h:aM (.idxP k f d) env J key=some (p,v,J'))(aj:p):Good P av nt env J' (ins n key) a v ((execOp a.eval o).run P w):=by
 simp only[aM,bf]at h;obtain⟨⟨H,K⟩,r,⟨G,I⟩,q,he⟩:=h;simp at he;split at he
 . rename_i b kk m;obtain⟨rfl,rfl,rfl⟩:=he;obtain⟨y,z,t,F⟩:=aj;have ak:=cl R D r y;have h1:=ak.1.gU;have g:=(cl R s q z).1.fp;have j:Addr.add ⟨(φ b).1,0,none⟩ (m.toNat*1)=⟨(φ b).1,m.toNat*1+0,none⟩:=by
    grind[Addr.add]
   refine Good.pure R (x:= .pointer (some ⟨(φ b).1,m.toNat*1+0,none⟩)) ?_ (.c ?_) (by grind[V.ay,C.ay])
   . have l:0<=m/\m<k:=⟨t,by omega⟩
     simp only[execOp,u,h1,g,Instr.indexAt,asIntOf,Instr.sureAddr,Sem.run_bind,run_underlying B,Result.andThen_ok,Sem.run_pure,af l,i' A,j]
   rfl
 grind
theorem W3(R:Rel av nt φ S env J n a w){ty:TypeId}{i:IntKind}{m:Int}(t:o.op= .indexAddr ty x (.const (.int i m))){k:Nat}(u:P.underlying ty=some (.array k e))
 (h0:0<=m/\m.toNat<k){s:Nat}(hs:eg P e=some s){g:aO}(y:bB x=some g)
 {p v J'}(z:n key=false)(h:aM (.fldA (m.toNat*s) g) env J key=some (p,v,J'))(aj:p):Good P av nt env J' (ins n key) a v ((execOp a.eval o).run P w):=by
 simp only[aM,bf]at h;obtain⟨⟨A,B⟩,r,he⟩:=h;simp at he;have j:a.eval (.const _)= .int i m:=rfl;have q:0<=m/\m<(k:Int):=⟨h0.1,by omega⟩
 have d:∀(b off:Nat),a.eval x= .pointer (some ⟨b,off,none⟩)->(execOp a.eval o).run P w= .ok (.value (.pointer (some ⟨b,off+m.toNat*s,none⟩))) w:=by
  intro b off e;have l:Addr.add ⟨b,off,none⟩ (m.toNat*s)=⟨b,off+m.toNat*s,none⟩:=by
   grind[Addr.add]
  simp only[execOp,t,e,j,Instr.indexAt,asIntOf,Instr.sureAddr,Sem.run_bind,run_underlying u,Result.andThen_ok,Sem.run_pure,af q,i' hs,l]
 split at he<;>simp only[dP,reduceCtorEq]at he
 all_goals
  obtain⟨rfl,rfl,rfl⟩:=he;have ak:=cl R y r aj;have h1:=ak.1.dT
 . exact Good.pure R (d _ _ h1) (.c rfl) ak.2
 . exact Good.pure R (d _ _ h1) (.c (by simp[bn,Nat.add_assoc])) ak.2
 . obtain⟨blk,off,f,h1,aa⟩:=h1;exact Good.pure R (d _ _ h1) (.c ⟨blk,off,f,by grind,aa⟩) ak.2
theorem W4(R:Rel av nt φ S env J n a w){ty:TypeId}{i:Option Operand}(A:o.op= .slice ty x j i none){k:Nat}(G:P.underlying ty=some (.array k e))(F:eg P e=some 1)
 {g:aO}{f d:Option aO}(I:bB x=some g)(z:ke j=some f)(y:ke i=some d)
 {p v J'}(O:n key=false)(h:aM (.slcP k g f d) env J key=some (p,v,J'))(aj:p):Good P av nt env J' (ins n key) a v ((execOp a.eval o).run P w):=by
 simp only[aM,bf]at h;obtain⟨⟨U,W⟩,u,⟨pl,l⟩,t,⟨T,h⟩,s,he⟩:=h;simp at he;split at he
 . rename_i b;obtain⟨rfl,rfl,rfl⟩:=he;obtain⟨B,D,E,h0,h1,m⟩:=aj;have ak:=cl R I u B;have K:=ak.1.gU;have ad:=qc R z t D;have aa:=qc R y s E;have r:=By (P:=P) (w:=w) (isSlice:=false) ad aa h0 h1 m (e9 _);generalize N:(l.getD 0).toNat=L at*;generalize M:(h.getD _).toNat=H at*;have q:Addr.add ⟨(φ b).1,0,none⟩ (L*1)=⟨(φ b).1,L*1,none⟩:=by
    unfold Addr.add;split
    . grind
    . simp
   refine Good.pure R (x:= .slice (some (if k=L then⟨(φ b).1,0,none⟩else(Addr.add ⟨(φ b).1,0,none⟩ (L*1)))) _ (k-L)) ?_ (.c ⟨_,_,rfl,?_,by omega⟩) (by simpa[V.ay,C.ay]using ak.2)
   . simp[execOp,A,Instr.sliceAt,Instr.sureAddr,underlying,G,K,r,i' F]
   . intro Q;rw[bR,q]
 grind
theorem W5{s:ao}(a:bytesOf es=some s):∀{xs:List Value},(∀(i:Nat) t,es[i]?=some [t]->∃v,xs[i]?=some v/\bM w S t v)->xs.length=es.length->
 ∃aH:au,xs=aH.map (Value.int .u8)/\s=aH.map λm=>UInt8.ofNat m.toNat:=by
 induction es generalizing s with
 |nil=>simp_all[bytesOf]
 |cons e es ih=>
  intro xs b ad;unfold bytesOf at a;split at a
  . grind
  . rename_i m r d;cases d;simp at a;obtain⟨s',g,rfl⟩:=a;cases xs with
    |nil=>grind
    |cons x xs=>
     obtain⟨v,c,f⟩:=b 0 _ rfl;simp at c;subst c;cases f;obtain⟨aH,rfl,rfl⟩:=ih g (λi t j=>by simpa using b (i+1) t (by grind)) (by grind);exact⟨m::aH,rfl,rfl⟩
  grind
theorem W6(aH:au):∀(s:ByteArray),(aH.foldl (λr m=>r.push (UInt8.ofNat m.toNat)) s).data.toList=s.data.toList++aH.map λm=>UInt8.ofNat m.toNat:=by
 induction aH<;>simp_all
theorem Qi{s:ao}(a:bytesOf es=some s):∀(i:Nat) e,es[i]?=some e->∃t,e=[t]:=by
 induction es generalizing s with
 |nil=>simp
 |cons dh es ih=>
  unfold bytesOf at a;grind[bu]
theorem Cy{g c:TypeId}(hs:P.underlying g=some (.slice e))(he:P.underlying e=some (.int .u8))(k:P.underlying c=some .string){str:ao}{a:Option Addr}{len cap b:Nat}
 (ad:es.length=len)(f:bytesOf es=some str)(r:len≠0->a=some ⟨b,off,none⟩)(s:∀(i:Nat) t,es[i]?=some [t]->∃v,w.cell? ⟨b,off+i,none⟩=some v/\bM w S t v):
 ∃bs:ByteArray,(convert g c (.slice a len cap)).run P w= .ok (.string bs) w/\bs.data.toList=str:=by
 rw[run_convert_bytes_string w _ _ e a _ _ hs he k];by_cases h0:len=0
 . have m:es=[]:=lb (by omega);subst m;simp[bytesOf]at f;cases a with
   |none=>simp_all[Conv.bytesToString]
   |some a0=>
    simp_all[run_bytesToString,loadCells,loadCellsFrom]
 . have u:∀i,i<len->∃t v,es[i]?=some [t]/\w.cell? ⟨b,off+i,none⟩=some v/\bM w S t v:=by
    intro i n;have h1:=eF (l:=es) (i:=i) (by omega);grind[Qi]
   have ak:∀i,i<len->((List.range len).map λi=>(w.cell? ⟨b,off+i,none⟩).getD undef)[i]?=w.cell? ⟨b,off+i,none⟩:=(by grind);obtain⟨aH,h1,p⟩:=W5 (w:=w) (S:=S) f (xs:=(List.range len).map λi=>(w.cell? ⟨b,off+i,none⟩).getD undef) (λi t n=>by grind) (by grind);have d:=xL (P:=P) (by simp) (λj o=>(ak j o).symm);rw[h1]at d;have q:=run_bytesToString w _ _ cap aH d;simp_all[W6]
theorem ED:∀{es:List (List T)} {s:ao},bytesOf es=some s->s.length=es.length
 |[],s,h=>by grind[bytesOf]
 |e::es,s,h=>by
  unfold bytesOf at h;split at h
  . grind
  . rename_i m r a;cases a;simp at h;obtain⟨s',b,rfl⟩:=h;simp[ED b]
  grind
theorem Xr(R:Rel av nt φ S env J n a w){A r:TypeId}(ab:o.op= .convert A r x)(hs:P.underlying A=some (.slice e))(he:P.underlying e=some (.int .u8))(u:P.underlying r=some .string){D:aO}(U:bB x=some D)
 {p v J'}(Y:n key=false)(h:aM (.b2s D) env J key=some (p,v,J'))(aj:p):Good P av nt env J' (ins n key) a v ((execOp a.eval o).run P w):=by
 simp only[aM,bf,bu,ef]at h;obtain⟨⟨al,am⟩,H,⟨q,str⟩,g,rfl,rfl,rfl⟩:=h;obtain⟨O,y⟩:=aj;have ak:=cl R U H O
 suffices aa:∃d len cap,a.eval x= .slice d len cap/\str.length<=dm/\∃bs:ByteArray,(convert A r (.slice d len cap)).run P w= .ok (.string bs) w/\bs.data.toList=str by
  obtain⟨d,len,cap,h1,F,bs,K,G⟩:=aa;have N:bs.size<=eo:=by grind[uw,dm,eo]
  refine Good.pure R (x:= .string bs) ?_ (.c ?_) rfl
  . simp_all[execOp]
  . rw[<-G];exact .str bs N
 have z:∀ (b off len:Nat) (es:List (List T)) (d:Option Addr) (cap:Nat),aR J b = some (.arr 1 es)->off+len<=es.length->bytesOf ((es.drop off).take len) = some str->(len≠0->d = some ⟨(φ b).1,off*1,none⟩)->((φ b).2≠0\/len = 0)->a.eval x = .slice d len cap->
  ∃d len cap,a.eval x= .slice d len cap/\str.length<=dm/\∃bs:ByteArray,(convert A r (.slice d len cap)).run P w= .ok (.string bs) w/\bs.data.toList=str:=by
  intro b off len es d cap M I j L h0 C;obtain⟨h1,F,K,G,bp⟩:=R.bD.blk b _ M;have ad:((es.drop off).take len).length=len:=by grind
  refine⟨d,len,cap,C,by grind[ED],?_⟩;refine Cy (S:=S) hs he u ad j L ?_;intro i t m;rw[vu]at m;split at m
  . rw[DZ]at m;rcases h0 with h0|h0
    . obtain⟨vs,E,aa,ai,Q,_⟩:=bp h0;obtain⟨v,ag,ah⟩:=Q _ 0 _ t m rfl;grind[iH]
    grind
  grind
 dsimp only at g H ak;unfold mX at g;split at g
 . rename_i es;simp only[bu,ef]at g;obtain⟨s,j,rfl,rfl⟩:=g;obtain⟨d,cap,sz,b,off,f,h1,W,Z,af,k,V,C⟩:=bM.jm ak.1.dT;refine⟨d,es.length,cap,h1,by grind[ED],?_⟩;by_cases B:es=[]
   . subst B;exact Cy (S:=S) (b:=0) (off:=0) hs he u rfl j (by simp) (by simp)
   . have ae:sz=1:=by
      obtain⟨dh,X⟩:=AE es B;grind[List.mem_iff_getElem?,Qi]
     refine Cy (S:=S) (b:=b) (off:=off) hs he u rfl j (λ_=>k B) ?_;intro i t m;exact⟨f i 0,by grind,C i 0 _ t m rfl⟩
 . cases g;obtain⟨d,h1⟩:=ak.1.dT;exact⟨d,0,0,h1,by simp,Cy (S:=S) (es:=[]) (b:=0) (off:=0) hs he u rfl rfl (by simp) (by simp)⟩
 . rename_i b off len;split at g
   . rename_i es l;simp only[bu,ef]at g;obtain⟨s,j,rfl,rfl⟩:=g;obtain⟨d,h1,k,I⟩:=bn.g' ak.1.dT;by_cases h0:(φ b).2=0
     . exact z b off len es d _ l y j (λh=>by omega) (.inr (by omega)) h1
     . exact z b off len es d _ l y j (λ_=>k h0) (.inl h0) h1
   . cases g
 . rename_i b off len;split at g
   . rename_i es l;simp only[bu,ef]at g;obtain⟨s,j,rfl,rfl⟩:=g;obtain⟨d,cap,h1,k,I⟩:=ak.1.dT;obtain⟨F,_⟩:=R.bD.blk b _ l;by_cases h0:len=0
     . exact z b off len es d _ l y j k (.inr h0) h1
     . exact z b off len es d _ l y j k (.inl (by omega)) h1
   . cases g
 . cases g
end
end
end Go.Proofs.YtkbmjabicjpmjaaGreatDoor.Shv
