/- The library of this proof, part A: an abstract machine for the code of the program, and its soundness. -/
import Derived.LoopN
import Derived.Calls
import Derived.Laws.Sem
import Derived.Laws.World
import Derived.Laws.Cells
import Derived.Below
import Derived.Laws.Strings
import Derived.Laws.StructEq
import Derived.Laws.BytesString

namespace Go.Proofs.YtklfhpkljddjbaaGreatDoor.Shv
set_option linter.all false
section
def af:=@if_pos
def ah:=@if_neg
def dK:=@Bool.false_eq_true
def gn:=@Option.ite_none_right_eq_some
def fv:=@List.getElem?_eq_some_iff
def dM:=@Bool.and_eq_true
def gQ:=@List.getElem?_eq_getElem
def fp:=@List.length_append
def fa:=@Option.some.injEq
def hj:=@Nat.mul_le_mul_right
def hp:=@List.mem_of_getElem?
def fu:=@Prod.mk.injEq
def dB:=@if_false
def fz:=@List.mem_cons
def dc:=@if_true
def fg:=@decide_true
def ij:=@decide_eq_true_eq
def gN:=@Bool.not_true
def ik:=@List.all_eq_true
def gL:=@decide_false
def mc:=@List.drop_eq_nil_of_le
def gO:=@List.mem_map
def eL:=@congrArg
def la:=@List.getElem_of_mem
def gP:=@Nat.le_refl
def ju:=@List.mem_append
def lb:=@Int.toNat_natCast
def lK:=@of_decide_eq_true
def rF:=@List.eq_nil_of_length_eq_zero
def eW:=@Ne.symm
def lf:=@List.length_cons
def me:=@List.flatMap_cons
def p1:=@Option.bind_eq_some_iff
def j7:=@Bool.not_false
def nh:=@List.pairwise_cons
def jJ:=@Nat.le_trans
def lL:=@decide_eq_true
def mF:=@List.length_set
def rG:=@Option.map_eq_some_iff
def pd:=@Nat.lt_of_lt_of_le
def kt:=@Nat.zero_add
def qL:=@beq_eq_false_iff_ne
def vd:=@List.drop_eq_getElem_cons
def p2:=@List.contains_nil
def ox:=@List.nil_append
def rH:=@List.contains_cons
def nU:=@Bool.or_false
def p3:=@List.length_map
def rI:=@List.append_assoc
def sG:=@Int.emod_lt_of_pos
def zc:=@Decidable.byContradiction
def ni:=@Nat.add_mul
def nj:=@Nat.zero_le
def rJ:=@List.length_nil
def qM:=@List.drop_zero
def p4:=@List.map_cons
def tI:=@List.pairwise_map
def ve:=@List.mem_singleton
def D':=@Array.getElem?_setIfInBounds
def sH:=@Option.map_some
def sI:=@Int.emod_nonneg
def tJ:=@List.length_drop
def nV:=@beq_iff_eq
def tK:=@Bool.or_eq_true
def nk:=@cond_true
def pe:=@cond_false
def sJ:=@List.all_cons
def BA:=@Nat.le_of_ble_eq_true
def Ea:=@List.take_of_length_le
def Hs:=@List.getElem?_append_left
def w3:=@Option.some.inj
def Ht:=@List.pairwise_iff_getElem
def zd:=@List.any_eq_true
def BB:=@List.getElem?_map
def Eb:=@List.length_pos_iff
def Ec:=@List.getD_cons_zero
def Hu:=@List.drop_of_length_le
def L7:=@Array.getElem?_eq_some_iff
def L8:=@List.getElem?_append_right
def BC:=@Nat.mod_eq_of_lt
def BD:=@List.length_take
def Hv:=@List.mem_of_mem_take
def BE:=@List.foldl_cons
def L9:=@List.eq_of_mem_replicate
def L':=@Option.isSome_iff_exists
def Hw:=@Bool.or_eq_false_iff
def BF:=@List.mem_filter
def BG:=@List.map_append
def BH:=@List.append_nil
def Hx:=@BitVec.ofInt_natCast
def Hy:=@List.mem_iff_getElem
def Ma:=@Bool.eq_false_or_eq_true
def QL:=@Option.ite_none_left_eq_some
def Ed:=@List.cons_append
def Mb:=@Array.getElem?_toList
def Hz:=@List.ext_getElem?
def QM:=@List.exists_mem_of_ne_nil
def QN:=@List.mem_or_eq_of_mem_set
def QO:=@Array.getElem?_eq_getElem
def QP:=@List.mem_of_find?_eq_some
def By:=@Nat.add_zero
def Hm:=@List.getElem_mem
def Bz:=@List.map_nil
def LX:=@Array.length_toList
def Qu:=@List.getElem?_cons_zero
def Qv:=@List.getElem?_cons_succ
def LY:=@List.getElem?_take
def LZ:=@BitVec.toNat_ofNat
def WO:=@List.find?_eq_some_iff_getElem
def L0:=@Bool.not_eq_true'
def Hn:=@List.drop_drop
def D5:=@Nat.le_of_eq
def Qw:=@List.getElem?_toArray
def Ho:=@List.nodup_nil
def zb:=@and_false
def Qx:=@List.getElem?_zipIdx
def Qy:=@List.mem_cons_of_mem
def L1:=@List.mem_nil_iff
def Qz:=@Nat.pow_le_pow_right
def D6:=@Nat.mul_one
def QA:=@Array.toList_modify
def QB:=@Int.toNat_of_nonneg
def L2:=@Nat.not_lt_zero
def L3:=@Bool.eq_iff_iff
def Hp:=@Bool.true_or
def Hq:=@List.sum_nil
def WQ:=@Nat.le_mul_of_pos_right
def WR:=@decide_eq_false_iff_not
def QC:=@List.getElem?_set
def Hr:=@Nat.le_succ
def L4:=@List.sum_cons
def QD:=@Nat.le_of_not_lt
def QE:=@List.range'_succ
def QF:=@Option.getD_some
def WS:=@Array.getElem?_modify
def WT:=@List.take_append_drop
def WU:=@List.mem_iff_getElem?
def WV:=@List.mem_of_mem_drop
def L5:=@exists_false
def aje:=@List.eq_nil_iff_forall_not_mem
def WW:=@List.mem_append_left
def L6:=@Bool.or_true
def WX:=@List.pairwise_append
def QG:=@decide_eq_false
def D7:=@and_true
def QH:=@UInt8.toNat_lt
def D8:=@Prod.ext
def D9:=@or_false
def QI:=@Int.toNat_zero
def QJ:=@Int.mul_nonneg
def WY:=@List.mem_filterMap
def WZ:=@List.mem_cons_self
def W0:=@Array.toList_push
def W1:=@List.take_add_one
def QK:=@Nat.zero_mul
def W2:=@List.ext_getElem
def W3:=@Bool.cond_eq_ite
theorem bV{α:Type _}{b:α}{β:Type _}{x:Option β}{f:β->α}:Option.map f x=some b↔∃a,x=some a/\f a=b:=rG
theorem bK{α:Type _}{b:α}{β:Type _}{x:Option β}{f:β->Option α}:x.bind f=some b↔∃a,x=some a/\f a=some b:=p1
theorem aK{α:Type _}{β:Type _}(a:α)(f:α->Option β):(some a).bind f=f a:=Option.bind_some ..
theorem bL.{u}{α β:Type u}:(bind:Option α->(α->Option β)->Option β)=Option.bind:=Option.bind_eq_bind
open Go
inductive T where
 |bool (b:Bool)
 |int (k:IntKind)(n:Int)
 |str (s:List UInt8)
 |slice (es:List (List T))
inductive C where
 |t (x:T)
 |ptr (b o:Nat)
 |dw (b sz i o:Nat)
 |ft (ts:List T)(o:Nat)
 |arr (b sz off len:Nat)
 |je (b sz off len:Nat)
 |mp (b:Nat)
 |gw (b:Nat)
 |df (b len:Nat)
 |aT
 |hE
 |hD
 |fn (f:Nat)(caps:List Nat)
 |dead
inductive V where
 |c (x:C)
 |agg (cs:List C)
 |bn (vs:List V)
inductive ck where
 |box (cs:List C)
 |arr (sz:Nat)(es:List (List T))
 |set (ks:List (List UInt8))
 |buf (E:TypeId)(s:List UInt8)
 |cL (E:TypeId)(c:C)
 |dr (sz:Nat)(es:List (List T))(i o:Nat)(c:C)
abbrev dV:=Nat->Nat->Prop
abbrev ea:=Nat->Nat×Nat
def iQ:Nat:=9223372036854775807
def en:Nat:=281474976710656
inductive cl (w:World)(S:dV):T->Value->Prop
 |bool (b:Bool):cl w S (.bool b) (.bool b)
 |int (k:IntKind) (n:Int):cl w S (.int k n) (.int k n)
 |str (s:ByteArray) (h:s.size<=iQ):cl w S (.str s.data.toList) (.string s)
 |slice (es:List (List T)) (a:Option Addr) (cap sz b o:Nat) (f:Nat->Nat->Value)
  (na:es.length<=cap) (kn:es.length<=en)
  (b8:∀e,e∈es->e.length=sz)
  (aC:es≠[]->a=some ⟨b,o,none⟩)
  (ay:∀i j,i<es.length->j<sz->S b (o+i*sz+j)/\w.cell? ⟨b,o+i*sz+j,none⟩=some (f i j))
  (aF:∀i j e t,es[i]?=some e->e[j]?=some t->cl w S t (f i j)):
  cl w S (.slice es) (.slice a es.length cap)
structure jV (w:World)(S:dV)(w':World)(bC:dV):Prop where
 sub:∀b j,S b j->bC b j
 cell:∀b j,S b j->w'.cell? ⟨b,j,none⟩=w.cell? ⟨b,j,none⟩
theorem jV.refl(w:World)(S:dV):jV w S w S:=⟨λ_ _ h=>h,λ_ _ _=>rfl⟩
theorem jV.trans{w S w' bC akI EP}(h:jV w S w' bC)(k:jV w' bC akI EP):jV w S akI EP:=
 ⟨λb j ag=>k.sub b j (h.sub b j ag),λb j ag=>(k.cell b j (h.sub b j ag)).trans (h.cell b j ag)⟩
theorem cl.mono{w S w' bC}(m:jV w S w' bC){t v}(h:cl w S t v):cl w' bC t v:=by
 induction h with
 |bool b=>exact .bool b
 |int k n=>exact .int k n
 |str s h=>exact .str s h
 |slice es a cap sz b o f na kn b8 aC ay aF ih=>
  exact .slice es a _ sz b o f na kn b8 aC
   (λi j ak aM=>⟨m.sub _ _ (ay i j ak aM).1,by rw[m.cell _ _ (ay i j ak aM).1];grind⟩) ih
theorem cl.oy{w S t v}(h:cl w S t v):v.oneCell'=true:=by cases h<;>rfl
def bP(φ:ea)(w:World)(S:dV):C->Value->Prop
 |.t x,v=>cl w S x v
 |.ptr b o,v=>v= .pointer (some ⟨(φ b).1,o,none⟩)
 |.dw b sz i o,v=>v= .pointer (some ⟨(φ b).1,i*sz+o,none⟩)
 |.ft ts o,v=>∃ (blk off:Nat) (f:Nat->Value),v = .pointer (some ⟨blk,off+o,none⟩)/\
  ∀j t,ts[j]?=some t->S blk (off+j)/\w.cell? ⟨blk,off+j,none⟩=some (f j)/\cl w S t (f j)
 |.arr b sz off len,v=>∃a,v= .slice a len ((φ b).2-off)/\((φ b).2≠0->a=some ⟨(φ b).1,off*sz,none⟩)/\off+len<=(φ b).2
 |.je b sz off len,v=>∃a cap,v= .slice a len cap/\(len≠0->a=some ⟨(φ b).1,off*sz,none⟩)/\len<=cap
 |.mp b,v=>v= .map (some (φ b).1)
 |.df b len,v=>len<=(φ b).2/\((φ b).2=0->v= .slice none 0 0)/\((φ b).2≠0->v= .slice (some ⟨(φ b).1,0,none⟩) len (φ b).2)
 |.gw b,v=>∃p,v= .pointer p/\((φ b).2≠0->p=some ⟨(φ b).1,0,none⟩)
 |.aT,v=>∃a,v= .slice a 0 0
 |.hE,v=>v= .pointer none
 |.hD,v=>v= .nilFunc
 |.fn f caps,v=>v= .func (.func f) #[] (caps.map λb=>Value.pointer (some ⟨(φ b).1,0,none⟩)).toArray
 |.dead,v=>v.oneCell'=true
theorem bP.oy{φ w S c v}(h:bP φ w S c v):v.oneCell'=true:=by
 cases c with
 |t x=>exact cl.oy h
 |ft ts o=>obtain⟨_,_,_,rfl,_⟩:=h;rfl
 |arr b sz off len=>obtain⟨_,rfl,_⟩:=h;rfl
 |je b sz off len=>obtain⟨_,_,rfl,_⟩:=h;rfl
 |gw b=>obtain⟨_,rfl,_⟩:=h;rfl
 |df b len=>
  by_cases h0:(φ b).2=0
  . rw[h.2.1 h0];rfl
  . rw[h.2.2 h0];rfl
 |aT=>obtain⟨_,rfl⟩:=h;rfl
 |dead=>exact h
 |_=>cases h;rfl
def C.aP(n:Nat->Bool):C->Bool
 |.ptr b _=>n b
 |.dw b _ _ _=>n b
 |.arr b _ _ _=>n b
 |.je b _ _ _=>n b
 |.mp b=>n b
 |.gw b=>n b
 |.df b _=>n b
 |.fn _ caps=>caps.all λb=>n b
 |_=>true
def V.aP(n:Nat->Bool):V->Bool
 |.c x=>x.aP n
 |.agg cs=>cs.all (C.aP n)
 |.bn vs=>V.e3 n vs
where V.e3 (n:Nat->Bool):List V->Bool
 |[]=>true
 |v::vs=>v.aP n&&V.e3 n vs
theorem bP.mono{φ bB:ea}{w S w' bC}(m:jV w S w' bC){n:Nat->Bool}(fQ:∀b,n b=true->bB b=φ b){c v}(ag:c.aP n=true)(h:bP φ w S c v):bP bB w' bC c v:=by
 cases c with
 |t x=>exact cl.mono m h
 |ptr b o=>grind[C.aP,bP]
 |dw b sz i o=>grind[C.aP,bP]
 |ft ts o=>
  obtain⟨blk,off,f,rfl,ab⟩:=h;exact⟨blk,off,f,rfl,λj t ht=>⟨m.sub _ _ (ab j t ht).1,by rw[m.cell _ _ (ab j t ht).1];grind,cl.mono m (ab j t ht).2.2⟩⟩
 |arr b sz off len=>grind[C.aP,bP]
 |je b sz off len=>grind[C.aP,bP]
 |mp b=>grind[C.aP,bP]
 |gw b=>grind[C.aP,bP]
 |df b len=>grind[C.aP,bP]
 |aT=>exact h
 |hE=>exact h
 |hD=>exact h
 |fn f caps=>
  grind[bP,List.map_congr_left,C.aP]
 |dead=>exact h
inductive bk {α β:Type}(R:α->β->Prop):List α->List β->Prop
 |nil:bk R [] []
 |cons {a b l m}:R a b->bk R l m->bk R (a::l) (b::m)
theorem bk.imp{α β:Type}{R R':α->β->Prop}{l m}(h:bk R l m)(k:∀a b,a∈l->R a b->R' a b):bk R' l m:=by
 induction h with
 |nil=>exact .nil
 |cons j0 _ ih=>exact .cons (k _ _ (by simp) j0) (ih λa b aC=>k a b (by grind))
theorem bk.length{α β:Type}{R:α->β->Prop}{l:List α}{m:List β}(h:bk R l m):l.length=m.length:=by
 induction h<;>grind
theorem bk.get{α β:Type}{R:α->β->Prop}{l:List α}{m:List β}(h:bk R l m){i:Nat}{a:α}(aC:l[i]?=some a):∃b,m[i]?=some b/\R a b:=by
 induction h generalizing i<;>grind
theorem bk.rK{α β:Type}{R:α->β->Prop}:∀{l:List α} {m:List β},l.length=m.length->(∀(i:Nat) a b,l[i]?=some a->m[i]?=some b->R a b)->bk R l m
 |[],[],_,_=>.nil
 |[],_::_,h,_=>by grind
 |_::_,[],h,_=>by grind
 |a::l,b::m,h,k=>.cons (k 0 a b (by rfl) (by rfl)) (bk.rK (by grind) λi x y I ao=>k (i+1) x y (by grind) (by grind))
theorem bk.append{α β:Type}{R:α->β->Prop}{l fm:List α}{m j5:List β}(h:bk R l m)(bg:bk R fm j5):bk R (l++fm) (m++j5):=by
 induction h with
 |nil=>grind
 |cons j0 _ ih=>exact .cons j0 ih
theorem bk.drop{α β:Type}{R:α->β->Prop}{l:List α}{m:List β}(h:bk R l m)(k:Nat):bk R (l.drop k) (m.drop k):=by
 induction h generalizing k with
 |nil=>simp;exact .nil
 |cons j0 ht ih=>cases k with
  |zero=>exact .cons j0 ht
  |succ k=>grind
theorem bk.take{α β:Type}{R:α->β->Prop}{l:List α}{m:List β}(h:bk R l m)(k:Nat):bk R (l.take k) (m.take k):=by
 induction h generalizing k with
 |nil=>simp;exact .nil
 |cons j0 _ ih=>cases k with
  |zero=>exact .nil
  |succ k=>exact .cons j0 (ih k)
inductive cy (φ:ea)(w:World)(S:dV):V->Value->Prop
 |c {x v}:bP φ w S x v->cy φ w S (.c x) v
 |agg {cs vs}:bk (bP φ w S) cs vs->cy φ w S (.agg cs) (.agg vs.toArray)
 |bn (vs:List V) (xs:List Value) (aj:vs.length = xs.length) (h:∀ (i:Nat) v x,vs[i]? = some v->xs[i]? = some x->cy φ w S v x):
  cy φ w S (.bn vs) (.tuple xs.toArray)
theorem uN{n:Nat->Bool}:∀{vs:List V} {i:Nat} {v:V},V.aP.V.e3 n vs=true->vs[i]?=some v->v.aP n=true
 |[],_,_,_,h=>by grind
 |x::vs,0,v,ag,h=>by grind[V.aP.V.e3]
 |x::vs,i+1,v,ag,h=>by simp[V.aP.V.e3]at ag;exact uN ag.2 (by simpa using h)
theorem cy.mono{φ bB:ea}{w S w' bC}(m:jV w S w' bC){n:Nat->Bool}(fQ:∀b,n b=true->bB b=φ b){x v}(ag:V.aP n x=true)(h:cy φ w S x v):cy bB w' bC x v:=by
 induction h with
 |c h=>exact .c (bP.mono m fQ (by grind[V.aP]) h)
 |agg h=>exact .agg (h.imp λa b aC j0=>bP.mono m fQ (by grind[V.aP]) j0)
 |bn vs xs aj h ih=>exact .bn vs xs aj λi v x aF I=>ih i v x aF I (uN (by grind[V.aP]) aF)
end
section
open Go
inductive ba where
 |tmp (t:Nat)
 |const (v:V)
inductive dG where
 |mov (x:ba)
 |pick (c x y:ba)
 |alloc (cs:List C)
 |box (x:ba)
 |build (zero:List C)(parts:List (Nat×Nat×ba))
 |bslice (sz:Nat)(len:Nat)(zero:List C)(parts:List (Nat×ba))
 |load (agg:Bool)(n:Nat)(x:ba)
 |store (n:Nat)(x v:ba)
 |nilCheck (x:ba)
 |bin (op:BinOp)(x y:ba)
 |eqAgg (neg:Bool)(ks:List Nat)(x y:ba)
 |eqBool (neg:Bool)(x y:ba)
 |eqNil (neg:Bool)(x:ba)
 |not (x:ba)
 |conv (k:IntKind)(x:ba)
 |i2s (x:ba)
 |s2s (x:ba)
 |fldA (off:Nat)(x:ba)
 |fld (agg:Bool)(off n:Nat)(x:ba)
 |idxA (sz:Nat)(x i:ba)
 |idxS (x i:ba)
 |slcS (x:ba)(bE ak:Option ba)
 |slc (sz:Nat)(x:ba)(bE ak:Option ba)
 |slc0 (x:ba)
 |allocA (cs:List C)
 |idxP (n:Nat)(x i:ba)
 |idxV (n:Nat)(x i:ba)
 |mslice (sz bytes:Nat)(zero:List C)(x:ba)
 |slcP (n:Nat)(x:ba)(bE ak:Option ba)
 |b2s (x:ba)
 |allocS (e e8:Nat)
 |bsliceT (e sz len:Nat)(zero:List C)(parts:List (Nat×ba))
 |mkset
 |lkset (x k:ba)
 |upset (x k:ba)
 |appendB (e bytes:Nat)(x y:ba)
 |sdata (x:ba)
 |ustr (e:Nat)(x n:ba)
 |mkfn (f:Nat)(caps:List ba)
 |ext (x:ba)(i:Nat)
 |len (str:Bool)(x:ba)
 |append (e sz bytes:Nat)(x y:ba)
 |max2 (x y:ba)
 |min2 (x y:ba)
 |call (f:Nat)(args:List ba)
 |mV (x:ba)(args:List ba)
structure cF where
 dst:Option Nat
 op:dG
 guard:Option (Nat×Bool)
def QQ:Value->Option C
 |.bool b=>some (.t (.bool b))
 |.int k n=>some (.t (.int k n))
 |.string s=>if s.size<=iQ then some (.t (.str s.data.toList))else none
 |.slice none 0 0=>some .aT
 |.pointer none=>some .hE
 |.nilFunc=>some .hD
 |.nilIface=>some .dead
 |_=>none
def Gs:List Value->Option (List C)
 |[]=>some []
 |v::vs=>(QQ v).bind λc=>(Gs vs).map (c::·)
def aaG:Value->Option V
 |.agg cs=>(Gs cs.toList).map .agg
 |v=>(QQ v).map .c
def b7:Operand->Option ba
 |.tmp t=>some (.tmp t)
 |.const v=>(aaG v).map .const
 |.func f=>some (.const (.c (.fn f [])))
 |.global _=>some (.const (.c .dead))
def vf:List Operand->Option (List ba)
 |[]=>some []
 |x::xs=>(b7 x).bind λa=>(vf xs).map (a::·)
def qN:Option Operand->Option (Option ba)
 |none=>some none
 |some x=>(b7 x).map some
def qe(P:Program)(t:TypeId):Option (List C):=
 (P.info? t).bind λi=>i.zero.bind λz=>Gs z.cells.toList
def yH(P:Program)(t:TypeId):Option Bool:=
 match P.underlying t with
 |some (.struct _)|some (.array _ _)=>some true
 |some _=>some false
 |none=>none
def fZ(P:Program)(t:TypeId):Option Nat:=(P.info? t).map (·.size)
def uY(P:Program)(t:TypeId):Option (Bool×Nat):=
 (yH P t).bind λg=>(fZ P t).bind λn=>if g=false->n=1 then some (g,n)else none
def kL(P:Program)(f:Nat):Bool:=
 match P.funcs[f]? with
 |some fn=>fn.body.isSome && !(fn.name == "runtime.NumGoroutine")
 |none=>false
def y6(P:Program)(t:TypeId):Option Nat:=
 match P.underlying t with
 |some .bool=>some 0
 |some (.int _)=>some 1
 |some .string=>some 2
 |_=>none
def KX(P:Program):Nat->List Field->Option (List Nat)
 |_,[]=>some []
 |i,f::fs=>if f.offset = i/\f.name≠ "_" then (y6 P f.type).bind λk=>(KX P (i+1) fs).map (k :: ·) else none
def YR(P:Program)(t:TypeId):Option (List Nat):=
 match P.underlying t with
 |some (.struct fs)=>if P.stoodInHeld t=false/\P.eqGuardType P.depth t=false then KX P 0 fs.toList else none
 |_=>none
def aaH(P:Program)(t:TypeId):Option (List Nat):=
 match P.underlying t with
 |some (.array n e)=>if fZ P e=some 1/\P.eqGuardType P.depth t=false then(y6 P e).map (List.replicate n)else none
 |_=>none
def Zg(P:Program)(fs:Array Field):Bool:=fs.toList.all λf=>(fZ P f.type).isSome
def G4(P:Program)(fs:Array Field):List (Nat×Operand)->Option (List (Nat×Nat×ba))
 |[]=>some []
 |(j,x)::r=>(fs[j]?).bind λf=>(fZ P f.type).bind λn=>(b7 x).bind λa=>(G4 P fs r).map ((f.offset,n,a)::·)
def GC(n:Nat):List (Nat×Operand)->Option (List (Nat×Nat×ba))
 |[]=>some []
 |(j,x)::r=>(b7 x).bind λa=>(GC n r).map ((j*n,n,a)::·)
def yz:List (Nat×Operand)->Option (List (Nat×ba))
 |[]=>some []
 |(j,x)::r=>(b7 x).bind λa=>(yz r).map ((j,a)::·)
def uH(P:Program)(c:Call):Option dG:=
 match c.callee with
 |.builtin .len=>match c.args.toList,c.argTypes.toList with
  |[x],[t]=>match P.underlying t with
   |some .string=>(b7 x).map (.len true)
   |some (.slice _)=>(b7 x).map (.len false)
   |_=>none
  |_,_=>none
 |.builtin .append=>match c.args.toList,c.argTypes.toList with
  |[x,y],[t,u]=>match P.underlying t,P.underlying u with
   |some (.slice e),some .string=>(P.info? e).bind λi=>(b7 x).bind λa=>(b7 y).bind λb=>
    if i.size=1/\(i.zero.map (·.cells.size))=some 1/\(match P.underlying e with|some (.int .u8)=>true|_=>false)=true then some (.appendB e i.bytes a b)else none
   |some (.slice e),some (.slice _)=>(P.info? e).bind λi=>(b7 x).bind λa=>(b7 y).bind λb=>
    if i.size≠0/\(i.zero.map (·.cells.size))=some i.size then some (.append e i.size i.bytes a b)else none
   |_,_=>none
  |_,_=>none
 |.builtin .max=>match c.args.toList with
  |[x,y]=>(b7 x).bind λa=>(b7 y).map λb=>.max2 a b
  |_=>none
 |.builtin .min=>match c.args.toList with
  |[x,y]=>(b7 x).bind λa=>(b7 y).map λb=>.min2 a b
  |_=>none
 |.builtin .unsafeSliceData=>match c.args.toList,c.argTypes.toList with
  |[x],[t]=>match P.underlying t with
   |some (.slice e)=>if fZ P e=some 1 then(b7 x).map .sdata else none
   |_=>none
  |_,_=>none
 |.builtin .unsafeString=>match c.args.toList,c.argTypes.toList with
  |[x,n],[t,_]=>match P.underlying t with
   |some (.pointer e)=>if(match P.underlying e with|some (.int .u8)=>true|_=>false)=true/\fZ P e=some 1/\P.cellsOf e=1 then(b7 x).bind λa=>(b7 n).map λb=>.ustr e a b else none
   |_=>none
  |_,_=>none
 |.value (.func f)=>if kL P f then(vf c.args.toList).map (.call f)else none
 |.value (.tmp t)=>(vf c.args.toList).map (.mV (.tmp t))
 |_=>none
def ar7(P:Program)(t:TypeId):Bool:=
 match P.info? t with
 |some i=>(match i.desc with|.named n _=>n == "strings.Builder" |_=>false)
 |none=>false
def alW:List Value->Bool
 |[.pointer none,.slice none 0 0]=>true
 |_=>false
def aem(P:Program)(t:TypeId):Bool:=
 match (P.info? t).bind (·.zero)with
 |some z=>alW z.cells.toList
 |none=>false
def Lm(P:Program)(t:TypeId):Option Nat:=
 if ar7 P t=true/\aem P t=true then match P.underlying t with
  |some (.struct fs)=>(fs[1]?).bind λf=>match P.underlying f.type with
   |some (.slice e)=>some e
   |_=>none
  |_=>none
 else none
def CW(P:Program)(t:TypeId):Bool:=
 match P.underlying t with
 |some (.map k v)=>(match P.underlying k,P.underlying v with|some .string,some .bool=>true|_,_=>false)&&(match (P.info? v).bind (·.zero)with|some (.bool false)=>true|_=>false)
 |_=>false
def Zh:Operand->Bool
 |.const (.bool true)=>true
 |_=>false
def YS:Operand->Bool
 |.const (.slice none 0 0)=>true
 |_=>false
def XT:Operand->Operand->Bool
 |.tmp s,.tmp t=>s==t
 |_,_=>false
def eh(P:Program)(o:Op):Option dG:=
 match o with
 |.move x|.assign x=>(b7 x).map .mov
 |.pick c a b=>(b7 c).bind λc=>(b7 a).bind λa=>(b7 b).map λb=>.pick c a b
 |.alloc e=>match Lm P e with
  |some e8=>some (.allocS e e8)
  |none=>(qe P e).bind λcs=>match P.underlying e with
   |some (.array n t)=>if fZ P t=some 1/\n=cs.length/\4<n/\n<=2^24 then some (.allocA cs)else some (.alloc cs)
   |_=>some (.alloc cs)
 |.box _ x=>(b7 x).map .box
 |.build t parts=>match P.underlying t with
  |some (.struct fs)=>if Zg P fs then(qe P t).bind λz=>(G4 P fs parts.toList).map λps=>.build z ps else none
  |some (.array _ e)=>(qe P t).bind λz=>(fZ P e).bind λn=>(GC n parts.toList).map λps=>.build z ps
  |_=>none
 |.buildSlice t len parts=>match P.underlying t with
  |some (.slice e)=>(fZ P e).bind λn=>(qe P e).bind λz=>(yz parts.toList).bind λps=>
   if n≠0/\z.length=n/\len*n<=2^24 then some (.bslice n len z ps)else none
  |_=>none
 |.load t a=>(uY P t).bind λg=>(b7 a).map λx=>.load g.1 g.2 x
 |.store t a v=>(fZ P t).bind λn=>(b7 a).bind λx=>(b7 v).map λy=>.store n x y
 |.nilCheck x=>(b7 x).map .nilCheck
 |.binOp op t x y _=>
  if op= .eql\/op= .neq then match P.underlying t with
   |some (.array _ _)=>(aaH P t).bind λks=>(b7 x).bind λa=>(b7 y).map λb=>.eqAgg (op== .neq) ks a b
   |some (.struct _)=>(YR P t).bind λks=>(b7 x).bind λa=>(b7 y).map λb=>.eqAgg (op== .neq) ks a b
   |some (.slice _)=>if YS y then(b7 x).map (.eqNil (op== .neq))else none
   |some .bool=>(b7 x).bind λa=>(b7 y).map λb=>.eqBool (op== .neq) a b
   |some (.int _)|some .string=>(b7 x).bind λa=>(b7 y).map λb=>.bin op a b
   |_=>none
  else(b7 x).bind λa=>(b7 y).map λb=>.bin op a b
 |.unOp .not _ x=>(b7 x).map .not
 |.unOp .neg t x=>match P.underlying t with
  |some (.int k)=>(b7 x).map (.bin .sub (.const (.c (.t (.int k 0)))))
  |_=>none
 |.unOp .xor t x=>match P.underlying t with
  |some (.int k)=>(b7 x).map (.bin .xor (.const (.c (.t (.int k (if k.signed then -1 else k.max))))))
  |_=>none
 |.convert s d x=>match P.underlying s,P.underlying d with
  |some (.int _),some (.int k)=>(b7 x).map (.conv k)
  |some (.int _),some .string=>(b7 x).map .i2s
  |some .string,some .string=>(b7 x).map .s2s
  |some (.slice e),some .string=>if(match P.underlying e with|some (.int .u8)=>true|_=>false)=true/\fZ P e=some 1 then(b7 x).map .b2s else none
  |_,_=>none
 |.fieldAddr t x f=>match P.underlying t with
  |some (.struct fs)=>(fs[f]?).bind λfd=>(fZ P fd.type).bind λn=>if n=0 then none else(b7 x).map (.fldA fd.offset)
  |_=>none
 |.field t x f=>match P.underlying t with
  |some (.struct fs)=>(fs[f]?).bind λfd=>(uY P fd.type).bind λg=>(b7 x).map (.fld g.1 fd.offset g.2)
  |_=>none
 |.indexAddr t x i=>match P.underlying t with
  |some (.slice e)=>(fZ P e).bind λn=>if n=0 then none else(b7 x).bind λa=>(b7 i).map λb=>.idxA n a b
  |some (.array n e)=>match i with
   |.const (.int _ m)=>if 0<=m/\m.toNat<n then(fZ P e).bind λs=>(b7 x).map (.fldA (m.toNat*s))else none
   |i=>if fZ P e=some 1 then(b7 x).bind λa=>(b7 i).map λb=>.idxP n a b else none
  |_=>none
 |.index t x i=>match P.underlying t with
  |some .string=>(b7 x).bind λa=>(b7 i).map λb=>.idxS a b
  |some (.array n e)=>if uY P e=some (false,1)then(b7 x).bind λa=>(b7 i).map λb=>.idxV n a b else none
  |_=>none
 |.slice t x bE ak Qp=>match P.underlying t with
  |some .string=>if Qp.isNone then(b7 x).bind λa=>(qN bE).bind λl=>(qN ak).map λh=>.slcS a l h else none
  |some (.slice e)=>match Qp with
   |none=>(fZ P e).bind λn=>if n=0 then none else(b7 x).bind λa=>(qN bE).bind λl=>(qN ak).map λh=>.slc n a l h
   |some (.const (.int _ 0))=>match bE,ak with
    |none,some (.const (.int _ 0))=>if(fZ P e).isSome then(b7 x).map .slc0 else none
    |_,_=>none
   |_=>none
  |some (.array n e)=>if Qp.isNone/\fZ P e=some 1 then(b7 x).bind λa=>(qN bE).bind λl=>(qN ak).map λh=>.slcP n a l h else none
  |_=>none
 |.makeFunc (.func f) first caps=>if first.isEmpty then(vf caps.toList).map (.mkfn f)else none
 |.extract x i=>(b7 x).map λa=>.ext a i
 |.makeSlice t x y=>match P.underlying t with
  |some (.slice e)=>if XT x y=true then(P.info? e).bind λi=>(qe P e).bind λz=>if i.size≠0/\z.length=i.size then(b7 x).map (.mslice i.size i.bytes z)else none else none
  |_=>none
 |.makeMap t none=>if CW P t=true then some .mkset else none
 |.lookup t x i false=>if CW P t=true then(b7 x).bind λa=>(b7 i).map λb=>.lkset a b else none
 |.mapUpdate t m k v=>if CW P t=true/\Zh v=true then(b7 m).bind λa=>(b7 k).map λb=>.upset a b else none
 |.call c=>uH P c
 |_=>none
def Dc(ops:Array Oper):Option (Nat×Bool)->Option (Option (Nat×Bool))
 |none=>some none
 |some (j,b)=>((ops[j]?).bind (·.dst)).map λd=>some (d,b)
def F7(d:Nat):Operand->Bool
 |.tmp t=>t==d
 |_=>false
def Mi(d:Nat):Op->Bool
 |.call c=>match c.callee with
  |.builtin .append=>(c.args.toList.drop 1).any (F7 d)
  |.value (.func _)=>c.args.toList.any (F7 d)
  |_=>false
 |.build _ ps=>ps.toList.any λp=>F7 d p.2
 |.buildSlice _ _ ps=>ps.toList.any λp=>F7 d p.2
 |.convert _ _ x=>F7 d x
 |.indexAddr _ x _=>F7 d x
 |_=>false
def am'(ops:Array Oper)(o:Oper):Bool:=
 match o.dst with
 |some d=>ops.toList.any λq=>Mi d q.op
 |none=>false
def G5(P:Program)(o3:Bool)(o:Op):Option dG:=
 match o,o3 with
 |.buildSlice t len parts,true=>match P.underlying t with
  |some (.slice e)=>(fZ P e).bind λn=>(qe P e).bind λz=>(yz parts.toList).bind λps=>
   if n≠0/\z.length=n/\len*n<=2^24 then some (.bsliceT e n len z ps)else none
  |_=>none
 |o,_=>eh P o
def GZ(P:Program)(nt:Nat)(ops:Array Oper)(o:Oper):Option cF:=
 (G5 P (am' ops o) o.op).bind λp=>(Dc ops o.guard).bind λg=>
  match o.dst with
  |none=>some ⟨none,p,g⟩
  |some d=>if d<nt then some ⟨some d,p,g⟩else none
def kH(P:Program)(nt:Nat)(ops:Array Oper):List Oper->Option (List cF)
 |[]=>some []
 |o::r=>(GZ P nt ops o).bind λa=>(kH P nt ops r).map (a::·)
inductive eY where
 |skip
 |region (ops:List cF)
 |xc (ops:List cF)(hg:List (Nat×Nat))
 |seq (a b:eY)
 |cond (c:ba)(x y:eY)
 |block (id:Nat)(b:eY)
 |loop (b:eY)
 |exit (id:Nat)
 |ret
def dG.neutral:dG->Bool
 |.alloc _|.allocA _|.box _|.bslice .. |.mslice .. |.store .. |.append .. |.call .. |.mV .. |.eqNil .. =>false
 |.allocS .. |.mkset|.upset .. |.appendB .. |.ustr .. =>false
 |_=>true
def dG.ns:dG->Bool
 |.alloc _|.allocA _|.b2s _|.box _|.bslice .. |.mslice .. |.store .. |.append .. |.load .. =>true
 |.allocS .. |.mkset|.lkset .. |.upset .. |.appendB .. |.ustr .. |.call .. =>true
 |_=>false
def dG.drawn:dG->Bool
 |.eqNil .. =>false
 |_=>true
def ba.tmps:ba->List Nat
 |.tmp t=>[t]
 |.const _=>[]
def D4:Option ba->List Nat
 |none=>[]
 |some x=>x.tmps
def dG.reads:dG->List Nat
 |.mov x=>x.tmps
 |.pick c x y=>c.tmps++x.tmps++y.tmps
 |.alloc _|.allocA _=>[]
 |.box x=>x.tmps
 |.build _ ps=>ps.flatMap λp=>p.2.2.tmps
 |.bslice _ _ _ ps=>ps.flatMap λp=>p.2.tmps
 |.load _ _ x=>x.tmps
 |.store _ x v=>x.tmps++v.tmps
 |.nilCheck x=>x.tmps
 |.bin _ x y=>x.tmps++y.tmps
 |.eqAgg _ _ x y=>x.tmps++y.tmps
 |.eqBool _ x y=>x.tmps++y.tmps
 |.eqNil _ x=>x.tmps
 |.not x=>x.tmps
 |.conv _ x=>x.tmps
 |.i2s x=>x.tmps
 |.s2s x=>x.tmps
 |.fldA _ x=>x.tmps
 |.fld _ _ _ x=>x.tmps
 |.idxA _ x i=>x.tmps++i.tmps
 |.idxS x i=>x.tmps++i.tmps
 |.slcS x bE ak=>x.tmps++D4 bE++D4 ak
 |.slc _ x bE ak=>x.tmps++D4 bE++D4 ak
 |.slc0 x=>x.tmps
 |.b2s x=>x.tmps
 |.allocS .. |.mkset=>[]
 |.bsliceT _ _ _ _ ps=>ps.flatMap λp=>p.2.tmps
 |.lkset x k=>x.tmps++k.tmps
 |.upset x k=>x.tmps++k.tmps
 |.appendB _ _ x y=>x.tmps++y.tmps
 |.sdata x=>x.tmps
 |.ustr _ x k=>x.tmps++k.tmps
 |.idxP _ x i=>x.tmps++i.tmps
 |.idxV _ x i=>x.tmps++i.tmps
 |.mslice _ _ _ x=>x.tmps
 |.slcP _ x bE ak=>x.tmps++D4 bE++D4 ak
 |.mkfn _ caps=>caps.flatMap ba.tmps
 |.ext x _=>x.tmps
 |.len _ x=>x.tmps
 |.append _ _ _ x y=>x.tmps++y.tmps
 |.max2 x y=>x.tmps++y.tmps
 |.min2 x y=>x.tmps++y.tmps
 |.call _ args=>args.flatMap ba.tmps
 |.mV x args=>x.tmps++args.flatMap ba.tmps
def cF.rd(o:cF):List Nat:=o.op.reads++(match o.guard with|none=>[]|some (t,_)=>[t])
def ly(o:Oper):List Nat:=(o.after.toList.filter (Region.binds .any)).map (·.on)
def ahead(l:List (cF×List Nat))(j i:Nat):Bool:=decide (j<i)&&((l[i]?).map λx=>x.2.contains j).getD false
def Sg:Nat->List (cF×List Nat)->Bool
 |_,[]=>true
 |i,x::r=>x.2.all (· < i)&&Sg (i+1) r
def ajO(l:List (cF×List Nat)):Bool:=
 l.zipIdx.all λx=>l.zipIdx.all λy=>
  match y.1.1.dst with
  |none=>true
  |some d=>(!(x.1.1.rd.contains d)||ahead l y.2 x.2||(x.1.1.op.neutral && !x.1.1.op.ns&&ahead l x.2 y.2))&&(x.2==y.2 || !(x.1.1.dst==some d))
def vT:List (cF×List Nat)->List (List Nat)->List (List Nat)
 |[],acc=>acc
 |x::r,acc=>vT r (acc++[(x.2++x.2.flatMap λe=>acc.getD e []).eraseDups])
def wI(N2:List (List Nat))(j i:Nat):Bool:=decide (j<i)&&(N2.getD i []).contains j
def Uw(N2:List (List Nat))(l:List (cF×List Nat)):List (Nat×Nat):=
 l.zipIdx.flatMap λx=>if x.1.1.op.neutral then[]else l.zipIdx.filterMap λy=>
  if y.1.1.op.ns && !(x.2==y.2) && !(wI N2 x.2 y.2) && !(wI N2 y.2 x.2)then some (x.2,y.2)else none
def si(l:List (cF×List Nat)):List (Nat×Nat):=Uw (vT l []) l
def Tj(l:List (cF×List Nat)):Bool:=(List.range (l.length-1)).all λi=>l.zipIdx.any λy=>decide (i<y.2)&&y.1.2.contains i
def DU(l:List (cF×List Nat)):Bool:=Sg 0 l&&ajO l&&l.all λx=>x.1.op.drawn
def Cs(l:List (cF×List Nat)):List (Nat×Nat):=
 if decide (2<=l.length)&&Tj l&&DU l.dropLast then(l.length,0)::(si l++si l.dropLast)else si l
def iz(ops:Array Oper)(bp:List cF):List (cF×List Nat):=bp.zip (ops.toList.map ly)
def resolve(P:Program)(nt:Nat):Code->Option eY
 |.skip=>some .skip
 |.region _ ops draw=>(kH P nt ops ops.toList).bind λbp=>
  if draw then(if DU (iz ops bp)&&P.follows .mixedOrders then some (.xc bp (Cs (iz ops bp)))else none)else some (.region bp)
 |.seq a b=>(resolve P nt a).bind λx=>(resolve P nt b).map λy=>.seq x y
 |.cond c a b=>(b7 c).bind λo=>(resolve P nt a).bind λx=>(resolve P nt b).map λy=>.cond o x y
 |.block id b=>(resolve P nt b).map (.block id)
 |.loop b=>(resolve P nt b).map .loop
 |.exit id=>some (.exit id)
 |.ret=>some .ret
 |_=>none
abbrev Env:=List (Nat×Bool×V)
abbrev br:=List (Nat×ck)
def look:Env->Nat->Option (Bool×V)
 |[],_=>none
 |(k,x)::r,i=>if k=i then some x else look r i
def bf:br->Nat->Option ck
 |[],_=>none
 |(k,x)::r,i=>if k=i then some x else bf r i
def ee:br->Nat->ck->br
 |[],b,x=>[(b,x)]
 |(k,y)::r,b,x=>if k=b then(k,x)::r else(k,y)::ee r b x
def lh:br->Nat->br
 |[],_=>[]
 |(k,y)::r,b=>if k=b then lh r b else(k,y)::lh r b
theorem dX(J:br)(b:Nat)(x:ck)(i:Nat):bf (ee J b x) i=if b=i then some x else bf J i:=by
 induction J with
 |nil=>rfl
 |cons y r ih=>
  obtain⟨k,y⟩:=y;by_cases hk:k=b
  . grind[ee,bf]
  . simp[ee,ah hk,bf]
    grind
theorem ib(J:br)(b:Nat)(i:Nat):bf (lh J b) i=if b=i then none else bf J i:=by
 induction J with
 |nil=>simp[lh,bf]
 |cons y r ih=>
  obtain⟨k,y⟩:=y;by_cases hk:k=b
  . grind[lh,bf]
  . simp[lh,ah hk,bf]
    grind
def ba.get(env:Env):ba->Option (Prop×V)
 |.const v=>some (True,v)
 |.tmp t=>(look env t).map λx=>(x.1=true,x.2)
def l4(env:Env):List ba->Option (Prop×List V)
 |[]=>some (True,[])
 |x::xs=>(x.get env).bind λa=>(l4 env xs).map λb=>(a.1/\b.1,a.2::b.2)
def pQ(env:Env):Option ba->Option (Prop×Option Int)
 |none=>some (True,none)
 |some x=>(x.get env).bind λa=>match a.2 with
  |.c (.t (.int _ n))=>some (a.1,some n)
  |_=>none
def yI:V->Option (List C)
 |.c x=>some [x]
 |.agg cs=>some cs
 |.bn _=>none
def toT:C->Option T
 |.t x=>some x
 |.aT=>some (.slice [])
 |_=>none
def toTs:List C->Option (List T)
 |[]=>some []
 |c::cs=>(toT c).bind λt=>(toTs cs).map (t::·)
def el(es:List (List T))(i:Nat):List T:=es.getD i []
def CE(cells:List C)(off:Nat)(cs:List C):List C:=cells.take off++cs++cells.drop (off+cs.length)
def sj(env:Env):List C->List (Nat×Nat×ba)->Option (Prop×List C)
 |cells,[]=>some (True,cells)
 |cells,(off,n,x):: r=>(x.get env).bind λa=>(yI a.2).bind λcs=>
  if cs.length=n/\off+n<=cells.length then(sj env (CE cells off cs) r).map λb=>(a.1/\b.1,b.2)else none
def pJ(env:Env)(sz:Nat):List (List T)->List (Nat×ba)->Option (Prop×List (List T))
 |es,[]=>some (True,es)
 |es,(i,x):: r=>(x.get env).bind λa=>(yI a.2).bind λcs=>(toTs cs).bind λts=>
  if ts.length=sz/\i<es.length then(pJ env sz (es.set i ts) r).map λb=>(a.1/\b.1,b.2)else none
def zQ:BinOp->T->T->Option (Prop×T)
 |.add,.int k a,.int cI b=>if k=cI then some (True,.int k (k.wrap (a+b)))else none
 |.sub,.int k a,.int cI b=>if k=cI then some (True,.int k (k.wrap (a-b)))else none
 |.mul,.int k a,.int cI b=>if k=cI then some (True,.int k (k.wrap (a*b)))else none
 |.quo,.int k a,.int cI b=>if k=cI then some (b≠0,.int k (k.wrap (a.tdiv b)))else none
 |.rem,.int k a,.int cI b=>if k=cI then some (b≠0,.int k (a.tmod b))else none
 |.and,.int k a,.int cI b=>if k=cI then some (True,.int k (k.wrap (BitVec.ofInt k.bits a &&& BitVec.ofInt k.bits b).toNat))else none
 |.or,.int k a,.int cI b=>if k=cI then some (True,.int k (k.wrap (BitVec.ofInt k.bits a ||| BitVec.ofInt k.bits b).toNat))else none
 |.xor,.int k a,.int cI b=>if k=cI then some (True,.int k (k.wrap (BitVec.ofInt k.bits a ^^^ BitVec.ofInt k.bits b).toNat))else none
 |.andNot,.int k a,.int cI b=>if k=cI then some (True,.int k (k.wrap (BitVec.ofInt k.bits a &&& ~~~ BitVec.ofInt k.bits b).toNat))else none
 |.shl,.int k a,.int _ b=>some (0<=b,.int k (k.wrap (a*2^min b.toNat k.bits)))
 |.shr,.int k a,.int _ b=>some (0<=b,.int k (a.fdiv (2^min b.toNat k.bits)))
 |.eql,.int k a,.int cI b=>if k=cI then some (True,.bool (decide (a=b)))else none
 |.neq,.int k a,.int cI b=>if k=cI then some (True,.bool (!decide (a=b)))else none
 |.lss,.int k a,.int cI b=>if k=cI then some (True,.bool (decide (a<b)))else none
 |.leq,.int k a,.int cI b=>if k=cI then some (True,.bool (decide (a<=b)))else none
 |.gtr,.int k a,.int cI b=>if k=cI then some (True,.bool (decide (b<a)))else none
 |.geq,.int k a,.int cI b=>if k=cI then some (True,.bool (decide (b<=a)))else none
 |.add,.str a,.str b=>some (a.length+b.length<=iQ,.str (a++b))
 |.eql,.str a,.str b=>some (True,.bool (decide (a=b)))
 |.neq,.str a,.str b=>some (True,.bool (!decide (a=b)))
 |.lss,.str a,.str b=>some (True,.bool (Op.bytesLess a b))
 |.leq,.str a,.str b=>some (True,.bool (Op.bytesLess a b||decide (a=b)))
 |.gtr,.str a,.str b=>some (True,.bool (!(Op.bytesLess a b||decide (a=b))))
 |.geq,.str a,.str b=>some (True,.bool (!(Op.bytesLess a b)))
 |_,_,_=>none
def Jp:Nat->T->T->Option Bool
 |0,.bool a,.bool b=>some (a==b)
 |1,.int k a,.int cI b=>if k=cI then some (decide (a=b))else none
 |2,.str a,.str b=>some (decide (a=b))
 |_,_,_=>none
def sr:List Nat->List C->List C->Option Bool
 |[],[],[]=>some true
 |k::ks,.t x::xs,.t y::bG=>(Jp k x y).bind λb=>(sr ks xs bG).map λr=>b&&r
 |_,_,_=>none
abbrev Nr:=Option (Prop×V×br)
def loadT(agg:Bool)(n:Nat)(ts:List T)(o:Nat):Option V:=
 if agg then(if o+n<=ts.length then some (.agg (((ts.drop o).take n).map .t))else none)else(ts[o]?).map λt=>.c (.t t)
def pb(agg:Bool)(n:Nat)(cs:List C)(o:Nat):Option V:=
 if agg then(if o+n<=cs.length then some (.agg ((cs.drop o).take n))else none)else(cs[o]?).map .c
def kJ:Nat:=281474976710656
def pK(n bytes:Nat):Prop:=(2*n+192)*bytes<=kJ\/(n+n/4+512)*bytes<=kJ
def sV(J:br):V->Option (List (List T)×Option Nat)
 |.c (.t (.slice bG))=>some (bG,none)
 |.c .aT=>some ([],none)
 |.c (.arr b dp off len)=>match bf J b with
  |some (.arr MQ bG)=>if dp=MQ/\off=0/\len=bG.length then some (bG,some b)else none
  |_=>none
 |_=>none
def bytesOf:List (List T)->Option (List UInt8)
 |[]=>some []
 |[.int .u8 m]::r=>(bytesOf r).map λs=>UInt8.ofNat m.toNat::s
 |_=>none
def vL(J:br):V->Option (Prop×List UInt8)
 |.c (.t (.slice es))=>(bytesOf es).map λs=>(True,s)
 |.c .aT=>some (True,[])
 |.c (.arr b 1 off len)=>match bf J b with
  |some (.arr 1 es)=>(bytesOf ((es.drop off).take len)).map λs=>(off+len<=es.length,s)
  |_=>none
 |.c (.je b 1 off len)=>match bf J b with
  |some (.arr 1 es)=>(bytesOf ((es.drop off).take len)).map λs=>(off+len<=es.length,s)
  |_=>none
 |_=>none
def ki(ks:List (List UInt8))(s:List UInt8):Bool:=ks.any λk=>decide (k=s)
def n2(ks:List (List UInt8))(s:List UInt8):List (List UInt8):=if ki ks s=true then ks else ks++[s]
def Mq:List C->Option C
 |[.arr b sz off len]=>some (.arr b sz off len)
 |_=>none
def tV:V->V->Option (Nat×Nat×Nat×Nat×Nat×Nat×Nat)
 |.c (.arr b sz off len),.c (.je bI dp tL nS)=>if b=bI then some (b,sz,off,len,dp,tL,nS)else none
 |_,_=>none
def EW(J:br)(n sz:Nat)(p q:Prop):Nat×Nat×Nat×Nat×Nat×Nat×Nat->Nr
 |(b,s1,off,len,s2,tL,nS)=>match bf J b with
  |some (.arr p8 es)=>some (p/\q/\s1 = sz/\s2 = sz/\p8 = sz/\off = 0/\len+nS<=es.length/\tL+nS<=es.length,
   .c (.arr n sz 0 (len+nS)),ee (lh J b) n (.arr sz (es.take len++(es.drop tL).take nS)))
  |_=>none
def vS:List C->Bool
 |[.aT]=>true
 |_=>false
def a7(o:dG)(env:Env)(J:br)(n:Nat):Nr:=
 match o with
 |.mov x=>(x.get env).map λa=>(a.1,a.2,J)
 |.pick c x y=>(c.get env).bind λc=>(x.get env).bind λx=>(y.get env).bind λy=>
  match c.2,x.2,y.2 with
  |.c (.t (.bool b)),.c (.t (.bool p)),.c (.t (.bool q))=>
   some (c.1/\(b=true->x.1)/\(b=false->y.1),.c (.t (.bool (bif b then p else q))),J)
  |_,_,_=>none
 |.alloc cs=>some (True,.c (.ptr n 0),ee J n (.box cs))
 |.allocA cs=>(toTs cs).map λts=>(True,.c (.ptr n 0),ee J n (.arr 1 (ts.map λt=>[t])))
 |.idxP k x i=>(x.get env).bind λa=>(i.get env).bind λj=>match a.2,j.2 with
  |.c (.ptr b 0),.c (.t (.int _ m))=>some (a.1/\j.1/\0<=m/\m.toNat<k,.c (.dw b 1 m.toNat 0),J)
  |_,_=>none
 |.idxV k x i=>(x.get env).bind λa=>(i.get env).bind λj=>match a.2,j.2 with
  |.agg cs,.c (.t (.int _ m))=>if cs.length=k then some (a.1/\j.1/\0<=m/\m.toNat<k,.c (cs.getD m.toNat .dead),J)else none
  |_,_=>none
 |.mslice sz bytes z x=>(x.get env).bind λa=>(toTs z).bind λj9=>match a.2 with
  |.c (.t (.int _ m))=>some (a.1/\0<=m/\m.toNat*bytes<=kJ/\m.toNat<=en/\(vS z=true->m.toNat≠0),.c (.arr n sz 0 m.toNat),ee J n (if vS z=true then .box (List.replicate m.toNat .aT)else .arr sz (List.replicate m.toNat j9)))
  |_=>none
 |.slcP k x bE ak=>(x.get env).bind λa=>(pQ env bE).bind λl=>(pQ env ak).bind λh=>match a.2 with
  |.c (.ptr b 0)=>
   let e:=h.2.getD k
   let c:=l.2.getD 0
   some (a.1/\l.1/\h.1/\0<=c/\c<=e/\e<=k,.c (.je b 1 c.toNat (e.toNat-c.toNat)),J)
  |_=>none
 |.b2s x=>(x.get env).bind λa=>(vL J a.2).map λr=>(a.1/\r.1,.c (.t (.str r.2)),J)
 |.box x=>(x.get env).bind λa=>(yI a.2).map λcs=>(a.1,.c (.ptr n 0),ee J n (.box cs))
 |.build z parts=>(sj env z parts).map λa=>(a.1,.agg a.2,J)
 |.bslice sz len z parts=>(toTs z).bind λj9=>(pJ env sz (List.replicate len j9) parts).map λa=>
  (a.1,.c (.arr n sz 0 len),ee J n (.arr sz a.2))
 |.load agg k x=>(x.get env).bind λa=>match a.2 with
  |.c (.ptr b o)=>match bf J b with
   |some (.box cs)=>(pb agg k cs o).map λv=>(a.1,v,J)
   |some (.cL _ c)=>if agg=false/\o=1 then some (a.1,.c c,J)else none
   |_=>none
  |.c (.dw b sz i o)=>match bf J b with
   |some (.arr dp es)=>(loadT agg k (el es i) o).map λv=>(a.1/\sz=dp/\i<es.length,v,J)
   |some (.box cs)=>(pb agg k cs (i*sz+o)).map λv=>(a.1,v,J)
   |some (.dr dp es dk ed c)=>if agg=true then none else if o=ed then some (a.1/\sz=dp/\i=dk,.c c,J)else(loadT false k (el es i) o).map λv=>(a.1/\sz=dp/\i<es.length,v,J)
   |_=>none
  |.c (.ft ts o)=>(loadT agg k ts o).map λv=>(a.1,v,J)
  |_=>none
 |.store k x v=>(x.get env).bind λa=>(v.get env).bind λd=>(yI d.2).bind λcs=>
  if cs.length=k then match a.2 with
   |.c (.ptr b o)=>match bf J b with
    |some (.box bc)=>if o+k<=bc.length then some (a.1/\d.1,.bn [],ee J b (.box (CE bc o cs)))else none
    |some (.cL e _)=>match o,cs with
     |1,[c]=>some (a.1/\d.1,.bn [],ee J b (.cL e c))
     |_,_=>none
    |_=>none
   |.c (.dw b sz i o)=>match bf J b with
    |some (.arr dp es)=>match Mq cs with
     |some c=>some (a.1/\d.1/\sz=dp/\i<es.length/\o+k<=sz,.bn [],ee J b (.dr dp es i o c))
     |none=>(toTs cs).bind λts=>
      some (a.1/\d.1/\sz=dp/\i<es.length/\o+k<=sz,.bn [],
       ee J b (.arr dp (es.set i ((el es i).take o++ts++(el es i).drop (o+k)))))
    |some (.box bc)=>if i*sz+o+k<=bc.length then some (a.1/\d.1,.bn [],ee J b (.box (CE bc (i*sz+o) cs)))else none
    |some (.dr dp es dk ed gA)=>match cs with
     |[c]=>if o=ed then some (a.1/\d.1/\sz=dp/\i=dk,.bn [],ee J b (.dr dp es dk ed c))
      else(toT c).bind λt=>some (a.1/\d.1/\sz=dp/\i<es.length/\o+k<=sz,.bn [],
       ee J b (.dr dp (es.set i ((el es i).take o++[t]++(el es i).drop (o+k))) dk ed gA))
     |_=>none
    |_=>none
   |_=>none
  else none
 |.nilCheck x=>(x.get env).bind λa=>match a.2 with
  |.c (.ptr ..)|.c (.dw ..)|.c (.ft ..)=>some (a.1,a.2,J)
  |_=>none
 |.bin op x y=>(x.get env).bind λa=>(y.get env).bind λb=>match a.2,b.2 with
  |.c (.t p),.c (.t q)=>(zQ op p q).map λr=>(a.1/\b.1/\r.1,.c (.t r.2),J)
  |_,_=>none
 |.eqAgg neg ks x y=>(x.get env).bind λa=>(y.get env).bind λb=>match a.2,b.2 with
  |.agg p,.agg q=>(sr ks p q).map λr=>(a.1/\b.1,.c (.t (.bool (if neg then !r else r))),J)
  |_,_=>none
 |.eqBool neg x y=>(x.get env).bind λa=>(y.get env).bind λb=>match a.2,b.2 with
  |.c (.t (.bool p)),.c (.t (.bool q))=>some (a.1/\b.1,.c (.t (.bool (if neg then !(p==q)else(p==q)))),J)
  |_,_=>none
 |.not x=>(x.get env).bind λa=>match a.2 with
  |.c (.t (.bool b))=>some (a.1,.c (.t (.bool (!b))),J)
  |_=>none
 |.conv k x=>(x.get env).bind λa=>match a.2 with
  |.c (.t (.int _ m))=>some (a.1,.c (.t (.int k (k.wrap m))),J)
  |_=>none
 |.i2s x=>(x.get env).bind λa=>match a.2 with
  |.c (.t (.int _ m))=>some (a.1,.c (.t (.str (Utf8.encode m).data.toList)),J)
  |_=>none
 |.s2s x=>(x.get env).bind λa=>match a.2 with
  |.c (.t (.str s))=>some (a.1,.c (.t (.str s)),J)
  |_=>none
 |.fldA off x=>(x.get env).bind λa=>match a.2 with
  |.c (.ptr b o)=>some (a.1,.c (.ptr b (o+off)),J)
  |.c (.dw b sz i o)=>some (a.1,.c (.dw b sz i (o+off)),J)
  |.c (.ft ts o)=>some (a.1,.c (.ft ts (o+off)),J)
  |_=>none
 |.fld agg off k x=>(x.get env).bind λa=>match a.2 with
  |.agg cs=>(pb agg k cs off).map λv=>(a.1,v,J)
  |_=>none
 |.idxA sz x i=>(x.get env).bind λa=>(i.get env).bind λj=>match a.2,j.2 with
  |.c (.t (.slice es)),.c (.t (.int _ m))=>some (a.1/\j.1/\0<=m/\m.toNat<es.length/\(el es m.toNat).length=sz,.c (.ft (el es m.toNat) 0),J)
  |.c (.arr b dp off len),.c (.t (.int _ m))=>some (a.1/\j.1/\0<=m/\m.toNat<len/\sz=dp,.c (.dw b sz (off+m.toNat) 0),J)
  |_,_=>none
 |.idxS x i=>(x.get env).bind λa=>(i.get env).bind λj=>match a.2,j.2 with
  |.c (.t (.str s)),.c (.t (.int _ m))=>some (a.1/\j.1/\0<=m/\m.toNat<s.length,.c (.t (.int .u8 (s.getD m.toNat 0).toNat)),J)
  |_,_=>none
 |.slcS x bE ak=>(x.get env).bind λa=>(pQ env bE).bind λl=>(pQ env ak).bind λh=>match a.2 with
  |.c (.t (.str s))=>
   let b:=h.2.getD s.length
   let c:=l.2.getD 0
   some (a.1/\l.1/\h.1/\0<=c/\c<=b/\b<=s.length,.c (.t (.str ((s.take b.toNat).drop c.toNat))),J)
  |_=>none
 |.slc sz x bE ak=>(x.get env).bind λa=>(pQ env bE).bind λl=>(pQ env ak).bind λh=>match a.2 with
  |.c (.t (.slice es))=>
   let b:=h.2.getD es.length
   let c:=l.2.getD 0
   some (a.1/\l.1/\h.1/\0<=c/\c<=b/\b<=es.length/\(∀e,e∈es->e.length=sz),.c (.t (.slice ((es.take b.toNat).drop c.toNat))),J)
  |.c (.arr b dp off len)=>
   some (a.1/\l.1/\h.1/\0<=l.2.getD 0/\l.2.getD 0<=h.2.getD len/\h.2.getD len<=len/\sz=dp,
    .c (if bE.isNone then .arr b dp off (h.2.getD len).toNat else .je b dp (off+(l.2.getD 0).toNat) ((h.2.getD len).toNat-(l.2.getD 0).toNat)),J)
  |_=>none
 |.slc0 x=>(x.get env).bind λa=>match a.2 with
  |.c (.t (.slice _))|.c .aT|.c (.arr ..)=>some (a.1,.c .aT,J)
  |_=>none
 |.mkfn f caps=>(l4 env caps).bind λa=>match Cp a.2 with
  |some l=>some (a.1,.c (.fn f l),J)
  |none=>none
 |.ext x i=>(x.get env).bind λa=>match a.2 with
  |.bn vs=>(vs[i]?).map λv=>(a.1,v,J)
  |_=>none
 |.len str x=>(x.get env).bind λa=>match str,a.2 with
  |false,.c (.t (.slice es))=>some (a.1,.c (.t (.int .i64 es.length)),J)
  |false,.c (.arr _ _ _ l)=>some (a.1,.c (.t (.int .i64 l)),J)
  |false,.c .aT=>some (a.1,.c (.t (.int .i64 0)),J)
  |false,.c (.df _ l)=>some (a.1,.c (.t (.int .i64 l)),J)
  |true,.c (.t (.str s))=>some (a.1,.c (.t (.int .i64 s.length)),J)
  |_,_=>none
 |.append te sz bytes x y=>(x.get env).bind λa=>(y.get env).bind λd=>
  match tV a.2 d.2 with
  |some r=>EW J n sz a.1 d.1 r
  |none=>
  (sV J d.2).bind λbG=>
  match a.2 with
  |.c .aT=>some (a.1/\d.1/\(∀ e,e∈bG.1->e.length = sz)/\pK bG.1.length bytes/\bG.1.length<=en,
   .c (.arr n sz 0 bG.1.length),ee J n (.arr sz bG.1))
  |.c (.arr b dp off len)=>match bf J b with
   |some (.arr MQ es)=>
    if bG.2=some b then none else some (a.1/\d.1/\dp=sz/\MQ=sz/\off=0/\len=es.length/\(∀e,e∈bG.1->e.length=sz)/\pK (es.length+bG.1.length) bytes/\es.length+bG.1.length<=en,
     .c (.arr n sz 0 (len+bG.1.length)),ee (lh J b) n (.arr sz (es++bG.1)))
   |_=>none
  |.c (.df b len)=>match bf J b with
   |some (.buf c7 es)=>(bytesOf bG.1).map λs=>
    (a.1/\d.1/\c7=te/\sz=1/\len=es.length/\bG.1=s.map (λc=>[.int .u8 c.toNat])/\pK (es.length+s.length) bytes/\es.length+s.length<=en,
     .c (.df n (len+s.length)),ee (lh J b) n (.buf c7 (es++s)))
   |_=>none
  |_=>none
 |.max2 x y=>(x.get env).bind λa=>(y.get env).bind λb=>match a.2,b.2 with
  |.c (.t (.int k p)),.c (.t (.int cI q))=>if k=cI then some (a.1/\b.1,.c (.t (.int k (max p q))),J)else none
  |_,_=>none
 |.min2 x y=>(x.get env).bind λa=>(y.get env).bind λb=>match a.2,b.2 with
  |.c (.t (.int k p)),.c (.t (.int cI q))=>if k=cI then some (a.1/\b.1,.c (.t (.int k (min p q))),J)else none
  |_,_=>none
 |.allocS e e8=>some (True,.c (.ptr n 0),ee (ee J (n+1) (.buf e8 [])) n (.cL e (.df (n+1) 0)))
 |.bsliceT _ sz len z parts=>(toTs z).bind λj9=>(pJ env sz (List.replicate len j9) parts).map λa=>(a.1,.c (.t (.slice a.2)),J)
 |.mkset=>some (True,.c (.mp n),ee J n (.set []))
 |.lkset x k=>(x.get env).bind λa=>(k.get env).bind λd=>match a.2,d.2 with
  |.c (.mp b),.c (.t (.str s))=>match bf J b with
   |some (.set ks)=>some (a.1/\d.1,.c (.t (.bool (ki ks s))),J)
   |_=>none
  |_,_=>none
 |.upset x k=>(x.get env).bind λa=>(k.get env).bind λd=>match a.2,d.2 with
  |.c (.mp b),.c (.t (.str s))=>match bf J b with
   |some (.set ks)=>some (a.1/\d.1,.bn [],ee J b (.set (n2 ks s)))
   |_=>none
  |_,_=>none
 |.appendB e bytes x y=>(x.get env).bind λa=>(y.get env).bind λd=>match a.2,d.2 with
  |.c (.df b len),.c (.t (.str s))=>match bf J b with
   |some (.buf c7 es)=>
    some (a.1/\d.1/\c7=e/\len=es.length/\pK (es.length+s.length) bytes/\es.length+s.length<=en,
     .c (.df n (len+s.length)),ee (lh J b) n (.buf e (es++s)))
   |_=>none
  |_,_=>none
 |.sdata x=>(x.get env).bind λa=>match a.2 with
  |.c (.df b _)=>some (a.1,.c (.gw b),J)
  |_=>none
 |.ustr e x k=>(x.get env).bind λa=>(k.get env).bind λd=>match a.2,d.2 with
  |.c (.gw b),.c (.t (.int .i64 m))=>match bf J b with
   |some (.buf c7 es)=>some (a.1/\d.1/\c7=e/\m=es.length,.c (.t (.str es)),lh J b)
   |_=>none
  |_,_=>none
 |.eqNil .. |.call .. |.mV .. =>none
where Cp:List V->Option (List Nat)
 |[]=>some []
 |.c (.ptr b 0)::r=>(Cp r).map (b::·)
 |_=>none
def MN(ks:List (List UInt8))(es:List MapEntry):Prop:=bk (λk e=>e.key= .string ⟨k.toArray⟩/\e.val= .bool true) ks es
def dU(φ:ea)(w:World)(S:dV)(b:Nat):ck->Prop
 |.box cs=>(φ b).2≠0/\∃(vs:List Value) (E:TypeId),w.heap[(φ b).1]?=some (.cells vs.toArray E (0,0))/\bk (bP φ w S) cs vs/\∀j,¬S (φ b).1 j
 |.arr sz es=>es.length<=(φ b).2/\es.length<=en/\(∀ e,e∈es->e.length = sz)/\0<sz/\
  ((φ b).2≠0->∃(vs:List Value) (E:TypeId),w.heap[(φ b).1]?=some (.cells vs.toArray E (0,0))/\vs.length=(φ b).2*sz/\
   (∀(i j:Nat) e t,es[i]?=some e->e[j]?=some t->∃v,vs[i*sz+j]?=some v/\cl w S t v)/\∀j,¬S (φ b).1 j)
 |.set ks=>(φ b).2≠0/\(∃(es:List MapEntry) (clock:Nat),w.heap[(φ b).1]?=some (.map es.toArray clock)/\MN ks es)/\∀j,¬S (φ b).1 j
 |.buf E s=>s.length<=(φ b).2/\s.length<=en/\
  ((φ b).2≠0->(∃vs:List Value,w.heap[(φ b).1]?=some (.cells vs.toArray E (0,0))/\vs.length=(φ b).2/\
   ∀(i:Nat) c,s[i]?=some c->vs[i]?=some (.int .u8 (UInt8.toNat c)))/\∀j,¬S (φ b).1 j)
 |.cL E c=>(φ b).2≠0/\(∃p v:Value,w.heap[(φ b).1]?=some (.cells #[p,v] E (0,0))/\(p= .pointer none\/p= .pointer (some ⟨(φ b).1,0,none⟩))/\bP φ w S c v)/\∀j,¬S (φ b).1 j
 |.dr sz es i o c=>(es.length<=(φ b).2/\es.length<=en/\(∀ e,e∈es->e.length = sz)/\0<sz/\i<es.length/\o<sz)/\
  (∃(vs:List Value) (E:TypeId),w.heap[(φ b).1]?=some (.cells vs.toArray E (0,0))/\vs.length=(φ b).2*sz/\
   (∀(dk j:Nat) e t,es[dk]?=some e->e[j]?=some t->¬(dk=i/\j=o)->∃v,vs[dk*sz+j]?=some v/\cl w S t v)/\∃v,vs[i*sz+o]?=some v/\bP φ w S c v)/\∀j,¬S (φ b).1 j
structure xA (φ:ea)(w:World)(S:dV)(J:br):Prop where
 blk:∀b x,bf J b=some x->dU φ w S b x
 inj:∀b bI x y,bf J b=some x->bf J bI=some y->b≠bI->(φ b).2≠0->(φ bI).2≠0->(φ b).1≠(φ bI).1
 st:∀b j,S b j->b<w.heap.size
structure Ext (B:Nat->Prop)(S bC:dV)(w w':World):Prop where
 os:w'.os=w.os
 tape:w'.tape=w.tape
 output:w'.output=w.output
 size:w.heap.size<=w'.heap.size
 block:∀b:Nat,b<w.heap.size->¬B b->w'.heap[b]?=w.heap[b]?
 mono:jV w S w' bC
 rO:∀b j,bC b j->S b j\/B b\/w.heap.size<=b
def ck.aP(n:Nat->Bool):ck->Bool
 |.box cs=>cs.all (C.aP n)
 |.arr _ _=>true
 |.set _=>true
 |.buf _ _=>true
 |.cL _ c=>c.aP n
 |.dr _ _ _ _ c=>c.aP n
def ins(n:Nat->Bool)(k:Nat):Nat->Bool:=λb=>n b||b==k
structure Ctx where
 oE:World
 zG:dV
 B:Nat->Prop
 sW:ea
 k:Nat
structure Rel (aG:Ctx)(nt:Nat)(φ:ea)(S:dV)(env:Env)(J:br)(n:Nat->Bool)(a:Act)(w:World):Prop where
 b':xA φ w S J
 jE:∀(k:Nat) g v,look env k=some (g,v)->g=true->∃x,a.tmps[k]?=some x/\cy φ w S v x
 kQ:∀(k:Nat) g v,look env k=some (g,v)->g=false->a.tmps[k]?=some undef
 jD:∀(k:Nat) g v,look env k=some (g,v)->g=true->v.aP n=true
 eX:∀(b:Nat) x,bf J b=some x->n b=true/\x.aP n=true
 size:a.tmps.size=nt
 defers:a.defers=[]
 ext:Ext aG.B aG.zG S aG.oE w
 own:∀(b:Nat) x,bf J b=some x->(φ b).2≠0->aG.B (φ b).1\/aG.oE.heap.size<=(φ b).1
 fix:∀b:Nat,b<aG.k->φ b=aG.sW b
 j4:∀b:Nat,b<aG.k->n b=true
section
variable {P:Program}{aG:Ctx}{nt:Nat}{φ:ea}{S:dV}{env:Env}{J:br}{n:Nat->Bool}{key:Nat}{a:Act}{w:World}
def Good(P:Program)(aG:Ctx)(nt:Nat)(env:Env)(J':br)(dY:Nat->Bool)(a:Act)(v:V)(r:Result Next):Prop:=
 ∃x bB bC w',(r= .ok (.value x) w'\/(r= .ok .skip w'/\x=undef))/\cy bB w' bC v x/\v.aP dY=true/\Rel aG nt bB bC env J' dY a w'
theorem auG{n:Nat->Bool}{k:Nat}:ins n k k=true:=by simp[ins]
theorem qz{n:Nat->Bool}{k b:Nat}(h:n b=true):ins n k b=true:=by grind[ins]
theorem C.lB{n dY:Nat->Bool}(h:∀b,n b=true->dY b=true){c:C}(ay:c.aP n=true):c.aP dY=true:=by
 cases c<;>simp[C.aP]at*<;>first|exact h _ ay|exactλb ag=>h b (ay b ag)
theorem De{n:Nat->Bool}:∀{vs:List V},(∀(i:Nat) v,vs[i]?=some v->v.aP n=true)->V.aP.V.e3 n vs=true
 |[],_=>rfl
 |v::vs,h=>by
  simp[V.aP.V.e3];exact⟨h 0 v rfl,De λi v aF=>h (i+1) v aF⟩
theorem V.lB{n dY:Nat->Bool}(h:∀b,n b=true->dY b=true):∀{v:V},v.aP n=true->v.aP dY=true
 |.c x,aF=>by grind[V.aP,C.lB]
 |.agg cs,aF=>by
  grind[V.aP,C.lB]
 |.bn vs,aF=>by
  exact go vs aF
where go:∀vs,V.aP.V.e3 n vs=true->V.aP.V.e3 dY vs=true
 |[],_=>rfl
 |v::vs,aF=>by
  simp[V.aP.V.e3]at aF⊢;exact⟨V.lB h aF.1,go vs aF.2⟩
theorem ck.lB{n dY:Nat->Bool}(h:∀b,n b=true->dY b=true){x:ck}(I:x.aP n=true):x.aP dY=true:=by
 cases x with
 |box cs=>
  grind[ck.aP,C.lB]
 |arr=>rfl
 |set=>rfl
 |buf=>rfl
 |cL E c=>grind[ck.aP,C.lB]
 |dr sz es i o c=>grind[ck.aP,C.lB]
theorem Rel.more(R:Rel aG nt φ S env J n a w){dY:Nat->Bool}(h:∀b,n b=true->dY b=true):Rel aG nt φ S env J dY a w:=
 ⟨R.b',R.jE,R.kQ,λk g v aj az=>V.lB h (R.jD k g v aj az),λb x I=>⟨h b (R.eX b x I).1,ck.lB h (R.eX b x I).2⟩,R.size,R.defers,R.ext,R.own,R.fix,λb ag=>h b (R.j4 b ag)⟩
theorem Good.pure(R:Rel aG nt φ S env J n a w){v:V}{x:Value}{r:Result Next}(ai:r= .ok (.value x) w)(aF:cy φ w S v x)(ag:v.aP n=true):
 Good P aG nt env J (ins n key) a v r:=⟨x,φ,S,w,.inl ai,aF,V.lB (λ_ h=>qz h) ag,R.more λ_ h=>qz h⟩
theorem alX{v:Value}{c:C}(h:QQ v=some c):bP φ w S c v/\c.aP n=true:=by
 unfold QQ at h;split at h<;>simp at h
 . subst h;exact⟨.bool _,rfl⟩
 . subst h;exact⟨.int _ _,rfl⟩
 . obtain⟨hs,rfl⟩:=h;exact⟨.str _ hs,rfl⟩
 . subst h;exact⟨⟨_,rfl⟩,rfl⟩
 . subst h;exact⟨rfl,rfl⟩
 . subst h;exact⟨rfl,rfl⟩
 . subst h;exact⟨rfl,rfl⟩
theorem Yj:∀{vs:List Value} {cs:List C},Gs vs=some cs->bk (bP φ w S) cs vs/\cs.all (C.aP n)=true
 |[],cs,h=>by simp[Gs]at h;subst h;exact⟨.nil,rfl⟩
 |v::vs,cs,h=>by
  simp[Gs,bK,bV]at h;obtain⟨c,ay,kP,eJ,rfl⟩:=h;have h1:=alX (φ:=φ) (w:=w) (S:=S) (n:=n) ay;have aa:=Yj eJ;exact⟨.cons h1.1 aa.1,by grind⟩
theorem apF{v:Value}{NG:V}(h:aaG v=some NG):cy φ w S NG v/\NG.aP n=true:=by
 unfold aaG at h;split at h
 . simp at h;obtain⟨l,aj,rfl⟩:=h;have:=Yj (φ:=φ) (w:=w) (S:=S) (n:=n) aj;refine⟨?_,by grind[V.aP]⟩;have e:=cy.agg this.1;omega
 . simp at h;obtain⟨l,aj,rfl⟩:=h;have:=alX (φ:=φ) (w:=w) (S:=S) (n:=n) aj;exact⟨.c this.1,by grind[V.aP]⟩
theorem c4(R:Rel aG nt φ S env J n a w){x:Operand}{eo:ba}(I:b7 x=some eo){p:Prop}{v:V}(h:eo.get env=some (p,v))(ar:p):
 cy φ w S v (a.eval x)/\v.aP n=true:=by
 cases x with
 |tmp t=>
  simp[b7]at I;subst I;simp only[ba.get,bV]at h;obtain⟨⟨g,iI⟩,aj,he⟩:=h;obtain⟨rfl,rfl⟩:=he;obtain⟨y,ao,ai⟩:=R.jE t g iI aj ar;refine⟨?_,R.jD t g iI aj ar⟩;simp_all[Act.eval]
 |const c=>
  simp[b7]at I;obtain⟨NG,mx,rfl⟩:=I;obtain⟨_,rfl⟩:=h;exact apF mx
 |global g=>
  simp[b7]at I;subst I;obtain⟨_,rfl⟩:=h;exact⟨.c (by rfl),by rfl⟩
 |func f=>
  simp[b7]at I;subst I;obtain⟨_,rfl⟩:=h;exact⟨.c (by rfl),by rfl⟩
theorem AS(R:Rel aG nt φ S env J n a w):∀{xs:List Operand} {bp:List ba} (_:vf xs=some bp) {p:Prop} {vs:List V} (_:l4 env bp=some (p,vs)) (_:p),
 bk (cy φ w S) vs (xs.map a.eval)/\V.aP.V.e3 n vs=true
 |[],bp,I,p,vs,h,ar=>by simp[vf]at I;subst I;obtain⟨_,rfl⟩:=h;exact⟨.nil,rfl⟩
 |x::xs,bp,I,p,vs,h,ar=>by
  simp[vf,bK,bV]at I;obtain⟨eo,oq,q3,CG,rfl⟩:=I;simp only[l4,bK,bV]at h;obtain⟨⟨q,v⟩,aE,⟨w6,sQ⟩,qI,he⟩:=h;obtain⟨rfl,rfl⟩:=he;have h1:=c4 R oq aE ar.1;have aa:=AS R CG qI ar.2;exact⟨.cons h1.1 aa.1,by grind[V.aP.V.e3]⟩
theorem cy.oX{b:Bool}{x:Value}(h:cy φ w S (.c (.t (.bool b))) x):x= .bool b:=by cases h with|c h=>cases h;rfl
theorem cy.hM{k:IntKind}{m:Int}{x:Value}(h:cy φ w S (.c (.t (.int k m))) x):x= .int k m:=by cases h with|c h=>cases h;rfl
theorem cy.qR{s:List UInt8}{x:Value}(h:cy φ w S (.c (.t (.str s))) x):∃bs:ByteArray,x= .string bs/\bs.data.toList=s/\bs.size<=iQ:=by cases h with|c h=>cases h<;>grind
theorem cy.lg{b o:Nat}{x:Value}(h:cy φ w S (.c (.ptr b o)) x):x= .pointer (some ⟨(φ b).1,o,none⟩):=by cases h with|c h=>exact h
theorem cy.l3{b sz i o:Nat}{x:Value}(h:cy φ w S (.c (.dw b sz i o)) x):x= .pointer (some ⟨(φ b).1,i*sz+o,none⟩):=by cases h with|c h=>exact h
theorem cy.s0{cs:List C}{x:Value}(h:cy φ w S (.agg cs) x):∃vs:List Value,x= .agg vs.toArray/\bk (bP φ w S) cs vs:=by cases h<;>grind
theorem cy.fy{c:C}{x:Value}(h:cy φ w S (.c c) x):bP φ w S c x:=by cases h<;>grind
theorem cy.xL(b:Bool):cy φ w S (.c (.t (.bool b))) (.bool b):= .c (.bool b)
theorem cy.vb(k:IntKind)(m:Int):cy φ w S (.c (.t (.int k m))) (.int k m):= .c (.int k m)
theorem abZ (R:Rel aG nt φ S env J n a w){o:Oper}{x:Operand}(aO:o.op= .move x\/o.op= .assign x){eo:ba}(I:b7 x=some eo)
 {p v J'}(hk:n key=false)(h:a7 (.mov eo) env J key=some (p,v,J'))(ar:p):Good P aG nt env J' (ins n key) a v ((execOp a.eval o).run P w):=by
 simp only[a7,bV]at h;obtain⟨⟨q,u⟩,aE,he⟩:=h;obtain⟨rfl,rfl,rfl⟩:=he;have az:=c4 R I aE ar;refine Good.pure R ?_ az.1 az.2;rcases aO with aO|aO<;>simp[execOp,aO]
theorem art (R:Rel aG nt φ S env J n a w){o:Oper}{c x y:Operand}(aO:o.op= .pick c x y){ac bO fc:ba}(ay:b7 c=some ac)(I:b7 x=some bO)(ao:b7 y=some fc)
 {p v J'}(hk:n key=false)(h:a7 (.pick ac bO fc) env J key=some (p,v,J'))(ar:p):Good P aG nt env J' (ins n key) a v ((execOp a.eval o).run P w):=by
 simp only[a7,bK]at h;obtain⟨⟨fA,ZZ⟩,azJ,⟨fY,gR⟩,cv,⟨rM,qT⟩,hA,he⟩:=h;simp at he;split at he
 . rename_i b c3 dE;obtain⟨rfl,rfl,rfl⟩:=he;obtain⟨h1,aa,aA⟩:=ar;have Pv:=(c4 R ay azJ h1).1.oX;cases b with
   |true=>
    have ex:=(c4 R I cv (aa rfl)).1.oX;exact Good.pure R (by simp[execOp,aO,Pv,asBool,ex]) (.xL _) rfl
   |false=>
    have U4:=(c4 R ao hA (aA rfl)).1.oX;exact Good.pure R (by simp[execOp,aO,Pv,asBool,U4]) (.xL _) rfl
 grind
theorem G8(b:ByteArray):b.data.toList.length=b.size:=by rfl
theorem aru{op:BinOp}{s t r:T}{p:Prop}(h:zQ op s t=some (p,r))(ar:p){ty:TypeId}{x y:Value}(I:cl w S s x)(ao:cl w S t y):
 ∃z,(binOp op ty x y).run P w= .ok z w/\cl w S r z:=by
 have ayG:∀a b:List UInt8,(a==b)=decide (a=b):=λa b=>by grind
 unfold zQ at h;split at h<;>(first|simp only[gn,fa]at h|cases h)
 all_goals cases I;cases ao
 case h_1=>obtain⟨rfl,rfl,rfl⟩:=h;exact⟨_,by simp[binOp,Op.intArith],.int _ _⟩
 case h_2=>obtain⟨rfl,rfl,rfl⟩:=h;exact⟨_,by simp[binOp,Op.intArith],.int _ _⟩
 case h_3=>obtain⟨rfl,rfl,rfl⟩:=h;exact⟨_,by simp[binOp,Op.intArith],.int _ _⟩
 case h_4=>obtain⟨rfl,rfl,rfl⟩:=h;exact⟨_,by simp[binOp,Op.intDiv,ar],.int _ _⟩
 case h_5=>obtain⟨rfl,rfl,rfl⟩:=h;exact⟨_,by simp[binOp,Op.intDiv,ar],.int _ _⟩
 case h_6=>obtain⟨rfl,rfl,rfl⟩:=h;exact⟨_,by simp[binOp,Op.intBits],.int _ _⟩
 case h_7=>obtain⟨rfl,rfl,rfl⟩:=h;exact⟨_,by simp[binOp,Op.intBits],.int _ _⟩
 case h_8=>obtain⟨rfl,rfl,rfl⟩:=h;exact⟨_,by simp[binOp,Op.intBits],.int _ _⟩
 case h_9=>obtain⟨rfl,rfl,rfl⟩:=h;exact⟨_,by simp[binOp,Op.intBits],.int _ _⟩
 case h_10=>obtain⟨rfl,rfl⟩:=h;exact⟨_,by simp_all[binOp,Op.shift,ah],.int _ _⟩
 case h_11=>obtain⟨rfl,rfl⟩:=h;exact⟨_,by simp_all[binOp,Op.shift,ah],.int _ _⟩
 case h_12=>obtain⟨rfl,rfl,rfl⟩:=h;exact⟨_,by simp[binOp,Op.intCmp];rfl,.bool _⟩
 case h_13=>obtain⟨rfl,rfl,rfl⟩:=h;exact⟨_,by simp[binOp,Op.intCmp,bne,BEq.beq],.bool _⟩
 case h_14=>obtain⟨rfl,rfl,rfl⟩:=h;exact⟨_,by simp[binOp,Op.intCmp],.bool _⟩
 case h_15=>obtain⟨rfl,rfl,rfl⟩:=h;exact⟨_,by simp[binOp,Op.intCmp],.bool _⟩
 case h_16=>obtain⟨rfl,rfl,rfl⟩:=h;exact⟨_,by simp[binOp,Op.intCmp],.bool _⟩
 case h_17=>obtain⟨rfl,rfl,rfl⟩:=h;exact⟨_,by simp[binOp,Op.intCmp],.bool _⟩
 case h_18 s hs t ht=>
  obtain⟨rfl,rfl⟩:=h;simp only[G8]at ar;have e:(s++t).data.toList=s.data.toList++t.data.toList:=by rfl
  refine⟨.string (s++t),?_,e▸.str _ (by grind)⟩;have:¬(((s.size+t.size:Nat):Int)>IntKind.i64.max):=by grind[IntKind.max,iQ,IntKind.signed,IntKind.bits]
  simp_all[binOp,Op.stringOp,ah]
 case h_19 s hs t ht=>obtain⟨rfl,rfl⟩:=h;exact⟨_,by simp_all[binOp,Op.stringOp,ByteArray.toList_eq],.bool _⟩
 case h_20 s hs t ht=>obtain⟨rfl,rfl⟩:=h;exact⟨_,by simp_all[binOp,Op.stringOp,ByteArray.toList_eq],.bool _⟩
 case h_21 s hs t ht=>obtain⟨rfl,rfl⟩:=h;exact⟨_,by simp_all[binOp,Op.stringOp,ByteArray.toList_eq],.bool _⟩
 case h_22 s hs t ht=>obtain⟨rfl,rfl⟩:=h;exact⟨_,by simp_all[binOp,Op.stringOp,ByteArray.toList_eq],.bool _⟩
 case h_23 s hs t ht=>obtain⟨rfl,rfl⟩:=h;exact⟨_,by simp_all[binOp,Op.stringOp,ByteArray.toList_eq],.bool _⟩
 case h_24 s hs t ht=>obtain⟨rfl,rfl⟩:=h;exact⟨_,by simp_all[binOp,Op.stringOp,ByteArray.toList_eq],.bool _⟩
theorem Zi{op:BinOp}{ty:TypeId}{x y:Operand}{u v:Value}(h1:u≠.nilIface)(aa:∀cs,u≠.agg cs):(eqGuard op ty x y u v).run P w= .ok () w:=by
 simp_all[eqGuard]
theorem cl.guard{t:T}{u:Value}(h:cl w S t u):u≠.nilIface/\∀cs,u≠.agg cs:=by
 cases h<;>exact⟨by simp,by simp⟩
theorem ana{ty:TypeId}(dI:P.underlying ty=some .bool)(b1 b2:Bool):(Op.equal ty (.bool b1) (.bool b2)).run P w= .ok (b1==b2) w:=by
 obtain⟨d,av⟩:∃d,Op.maxDepth=d+1:=⟨9999,rfl⟩
 unfold Op.equal;rw[av];unfold Op.equalIn;simp only[Sem.run_bind,run_underlying dI];rfl
theorem YP (R:Rel aG nt φ S env J n a w){o:Oper}{op:BinOp}{ty yt:TypeId}{x y:Operand}(aO:o.op= .binOp op ty x y yt){bO fc:ba}(I:b7 x=some bO)(ao:b7 y=some fc)
 {p v J'}(hk:n key=false)(h:a7 (.bin op bO fc) env J key=some (p,v,J'))(ar:p):Good P aG nt env J' (ins n key) a v ((execOp a.eval o).run P w):=by
 simp only[a7,bK]at h;obtain⟨⟨fY,gR⟩,cv,⟨rM,qT⟩,hA,he⟩:=h;simp at he;split at he
 . simp only[bV]at he;obtain⟨⟨lM,r⟩,ai,rfl,rfl,rfl⟩:=he;have h1:=(c4 R I cv ar.1).1.fy;have aa:=(c4 R ao hA ar.2.1).1.fy;obtain⟨z,bq,jI⟩:=aru (P:=P) (ty:=ty) ai ar.2.2 h1 aa;refine Good.pure R ?_ (.c jI) rfl;have wA:(eqGuard op ty x y _ (a.eval y)).run P w= .ok _ w:=Zi (cl.guard h1).1 (cl.guard h1).2;simp_all[execOp]
 grind
theorem ara (R:Rel aG nt φ S env J n a w){o:Oper}{op:BinOp}{ty yt:TypeId}{x y:Operand}(aO:o.op= .binOp op ty x y yt)(eb:op= .eql\/op= .neq)(dI:P.underlying ty=some .bool)
 {bO fc:ba}(I:b7 x=some bO)(ao:b7 y=some fc)
 {p v J'}(hk:n key=false)(h:a7 (.eqBool (op== .neq) bO fc) env J key=some (p,v,J'))(ar:p):Good P aG nt env J' (ins n key) a v ((execOp a.eval o).run P w):=by
 simp only[a7,bK]at h;obtain⟨⟨fY,gR⟩,cv,⟨rM,qT⟩,hA,he⟩:=h;simp at he;split at he
 . rename_i b1 b2;obtain⟨rfl,rfl,rfl⟩:=he;have h1:=(c4 R I cv ar.1).1.oX;have aa:=(c4 R ao hA ar.2).1.oX;refine Good.pure R ?_ (.xL _) rfl;have wA:(eqGuard op ty x y (a.eval x) (a.eval y)).run P w= .ok _ w:=Zi (by grind) (by grind);have CD:(binOp op ty (a.eval x) (a.eval y)).run P w= .ok (.bool (if(op== .neq)then !(b1==b2)else(b1==b2))) w:=by
    rcases eb with rfl|rfl
    . simp_all[binOp,ana]
    simp_all[binOp,ana]
   simp_all[execOp]
 grind
theorem ar8 (R:Rel aG nt φ S env J n a w){o:Oper}{ty:TypeId}{x:Operand}(aO:o.op= .unOp .not ty x){bO:ba}(I:b7 x=some bO)
 {p v J'}(hk:n key=false)(h:a7 (.not bO) env J key=some (p,v,J'))(ar:p):Good P aG nt env J' (ins n key) a v ((execOp a.eval o).run P w):=by
 simp only[a7,bK]at h;obtain⟨⟨fY,gR⟩,cv,he⟩:=h;simp at he;split at he
 . obtain⟨rfl,rfl,rfl⟩:=he;have h1:=(c4 R I cv ar).1.oX;exact Good.pure R (by simp[execOp,aO,h1,Op.unary]) (.xL _) rfl
 grind
theorem ar9 (R:Rel aG nt φ S env J n a w){o:Oper}{ty:TypeId}{x:Operand}{k:IntKind}(aO:o.op= .unOp .neg ty x){bO:ba}(I:b7 x=some bO)
 {p v J'}(hk:n key=false)(h:a7 (.bin .sub (.const (.c (.t (.int k 0)))) bO) env J key=some (p,v,J'))(ar:p):Good P aG nt env J' (ins n key) a v ((execOp a.eval o).run P w):=by
 simp only[a7,ba.get,aK,bK]at h;obtain⟨⟨fY,gR⟩,cv,he⟩:=h;simp only at he;split at he
 . rename_i t1 t2 aR;cases aR;simp only[bV]at he;obtain⟨⟨lM,r⟩,ai,rfl,rfl,rfl⟩:=he;have aa:=(c4 R I cv ar.2.1).1;cases t2<;>simp only[zQ,reduceCtorEq,gn]at ai
   obtain⟨rfl,rfl,rfl⟩:=ai;have aA:=aa.hM;exact Good.pure R (by simp[execOp,aO,aA,Op.unary,Op.intArith]) (.vb _ _) rfl
 grind
theorem ar' (R:Rel aG nt φ S env J n a w){o:Oper}{ty:TypeId}{x:Operand}{k:IntKind}(aO:o.op= .unOp .xor ty x){bO:ba}(I:b7 x=some bO)
 {p v J'}(hk:n key=false)(h:a7 (.bin .xor (.const (.c (.t (.int k (if k.signed then -1 else k.max))))) bO) env J key=some (p,v,J'))(ar:p):Good P aG nt env J' (ins n key) a v ((execOp a.eval o).run P w):=by
 simp only[a7,ba.get,aK,bK]at h;obtain⟨⟨fY,gR⟩,cv,he⟩:=h;simp only at he;split at he
 . rename_i t1 t2 aR;cases aR;simp only[bV]at he;obtain⟨⟨lM,r⟩,ai,rfl,rfl,rfl⟩:=he;have aa:=(c4 R I cv ar.2.1).1;cases t2<;>simp only[zQ,reduceCtorEq,gn]at ai
   obtain⟨rfl,rfl,rfl⟩:=ai;have aA:=aa.hM;exact Good.pure R (by simp[execOp,aO,aA,Op.unary,Op.intBits]) (.vb _ _) rfl
 grind
theorem arv (R:Rel aG nt φ S env J n a w){o:Oper}{s d:TypeId}{x:Operand}(aO:o.op= .convert s d x){js k:IntKind}(hs:P.underlying s=some (.int js))(av:P.underlying d=some (.int k)){bO:ba}(I:b7 x=some bO)
 {p v J'}(hk:n key=false)(h:a7 (.conv k bO) env J key=some (p,v,J'))(ar:p):Good P aG nt env J' (ins n key) a v ((execOp a.eval o).run P w):=by
 simp only[a7,bK]at h;obtain⟨⟨fY,gR⟩,cv,he⟩:=h;simp at he;split at he
 . obtain⟨rfl,rfl,rfl⟩:=he;have h1:=(c4 R I cv ar).1.hM;exact Good.pure R (by simp[execOp,aO,h1,convert,underlying,hs,av,Conv.intToInt]) (.vb _ _) rfl
 grind
theorem arb(m:Int):(Utf8.encode m).size<=iQ:=by
 unfold iQ Utf8.encode;dsimp
 (repeat' split)<;>simp[ByteArray.size]
theorem asa (R:Rel aG nt φ S env J n a w){o:Oper}{s d:TypeId}{x:Operand}(aO:o.op= .convert s d x){js:IntKind}(hs:P.underlying s=some (.int js))(av:P.underlying d=some .string){bO:ba}(I:b7 x=some bO)
 {p v J'}(hk:n key=false)(h:a7 (.i2s bO) env J key=some (p,v,J'))(ar:p):Good P aG nt env J' (ins n key) a v ((execOp a.eval o).run P w):=by
 simp only[a7,bK]at h;obtain⟨⟨fY,gR⟩,cv,he⟩:=h;simp at he;split at he
 . obtain⟨rfl,rfl,rfl⟩:=he;have h1:=(c4 R I cv ar).1.hM;exact Good.pure R (by simp[execOp,aO,h1,convert,underlying,hs,av,Conv.intToString]) (.c (.str _ (arb _))) rfl
 grind
theorem atq (R:Rel aG nt φ S env J n a w){o:Oper}{s d:TypeId}{x:Operand}(aO:o.op= .convert s d x)(hs:P.underlying s=some .string)(av:P.underlying d=some .string){bO:ba}(I:b7 x=some bO)
 {p v J'}(hk:n key=false)(h:a7 (.s2s bO) env J key=some (p,v,J'))(ar:p):Good P aG nt env J' (ins n key) a v ((execOp a.eval o).run P w):=by
 simp only[a7,bK]at h;obtain⟨⟨fY,gR⟩,cv,he⟩:=h;simp at he;split at he
 . obtain⟨rfl,rfl,rfl⟩:=he;have az:=c4 R I cv ar;obtain⟨bs,h1,rfl,_⟩:=az.1.qR;refine Good.pure R ?_ (h1▸az.1) rfl;simp[execOp,aO,h1,convert,underlying,hs,av]
 grind
theorem ap1 (R:Rel aG nt φ S env J n a w){o:Oper}{x:Operand}(aO:o.op= .nilCheck x){bO:ba}(I:b7 x=some bO)
 {p v J'}(hk:n key=false)(h:a7 (.nilCheck bO) env J key=some (p,v,J'))(ar:p):Good P aG nt env J' (ins n key) a v ((execOp a.eval o).run P w):=by
 simp only[a7,bK]at h;obtain⟨⟨fY,gR⟩,cv,he⟩:=h;simp at he;split at he<;>simp only[fa,reduceCtorEq]at he
 all_goals
  obtain⟨rfl,rfl,rfl⟩:=he;have az:=c4 R I cv ar;have h1:=az.1.fy;refine Good.pure R ?_ az.1 az.2
 . simp_all[bP,execOp]
 . simp_all[bP,execOp]
 . obtain⟨_,_,_,h1,_⟩:=h1;simp_all[execOp]
theorem arw (R:Rel aG nt φ S env J n a w){o:Oper}{ty:TypeId}{x:Operand}{f:Nat}(aO:o.op= .fieldAddr ty x f){fs:Array Field}(dI:P.underlying ty=some (.struct fs)){fd:Field}(aJ:fs[f]?=some fd)
 {m:Nat}(hm:fZ P fd.type=some m)(o7:m≠0){bO:ba}(I:b7 x=some bO)
 {p v J'}(hk:n key=false)(h:a7 (.fldA fd.offset bO) env J key=some (p,v,J'))(ar:p):Good P aG nt env J' (ins n key) a v ((execOp a.eval o).run P w):=by
 simp only[a7,bK]at h;obtain⟨⟨fY,gR⟩,cv,he⟩:=h;simp at he;have hu:∀w,(underlying ty).run P w= .ok (.struct fs) w:=by simp_all[underlying]
 have b8:∀w,(sizeOf fd.type).run P w= .ok m w:=by simp[fZ]at hm;obtain⟨i,ak,rfl⟩:=hm;simp[sizeOf,typeInfo,ak]
 have eQ:∀(b off:Nat),a.eval x= .pointer (some ⟨b,off,none⟩)->(execOp a.eval o).run P w= .ok (.value (.pointer (some ⟨b,off+fd.offset,none⟩))) w:=by
  simp_all[execOp,Instr.fieldAt,Instr.sureAddr,fieldPlace,Addr.add]
 split at he<;>simp only[fa,reduceCtorEq]at he
 all_goals
  obtain⟨rfl,rfl,rfl⟩:=he;have az:=c4 R I cv ar;have h1:=az.1.fy
 . exact Good.pure R (eQ _ _ h1) (.c rfl) az.2
 . exact Good.pure R (eQ _ _ h1) (.c (by simp[bP,Nat.add_assoc])) az.2
 . obtain⟨blk,off,f,h1,ab⟩:=h1;exact Good.pure R (eQ _ _ h1) (.c ⟨blk,off,f,by grind,ab⟩) az.2
theorem bk.aBZ{w:World}{S:dV}{φ:ea}{ts:List T}{vs:List Value}(h:bk (cl w S) ts vs):bk (bP φ w S) (ts.map .t) vs:=by
 induction h with
 |nil=>exact .nil
 |cons h _ ih=>exact .cons h ih
theorem abg(n:Nat->Bool)(ts:List T):(ts.map C.t).all (C.aP n)=true:=by simp[C.aP]
theorem Dg{ty:TypeId}{g:Bool}(az:yH P ty=some g)(w:World):(isAgg ty).run P w= .ok g w:=by
 unfold yH at az;split at az<;>simp_all [isAgg,underlying]
theorem oY{ty:TypeId}{k:Nat}(hk:fZ P ty=some k)(w:World):(sizeOf ty).run P w= .ok k w:=by
 simp[fZ]at hk;obtain⟨i,ak,rfl⟩:=hk;simp[sizeOf,typeInfo,ak]
theorem YT{ty:TypeId}{g:Bool×Nat}(h:uY P ty=some g):yH P ty=some g.1/\fZ P ty=some g.2/\(g.1=false->g.2=1):=by
 grind[uY,bK]
theorem alY {ty:TypeId}{g:Bool}{k:Nat}(az:yH P ty=some g)(hk:fZ P ty=some k){b o:Nat}{vs:List Value}
 (ay:∀j,j<k->w.cell? ⟨b,o+j,none⟩=vs[j]?)(aj:vs.length=k)(h1:g=false->k=1):
 (loadVar ty ⟨b,o,none⟩).run P w= .ok (if g then .agg vs.toArray else vs.getD 0 undef) w:=by
 cases g with
 |true=>
  have:=run_loadCells_list (P:=P) w ⟨b,o,none⟩ vs (λj v aM=>by
   grind[Addr.add])
  simp_all[loadVar,Dg,oY]
 |false=>
  simp_all[loadVar,Dg]
theorem bP.single{c:C}{v:Value}(h:bP φ w S c v):v.cells=#[v]:=by
 have:=bP.oy h;cases v<;>simp[Value.oneCell']at this<;>rfl
theorem uF{v:V}{x:Value}{cs:List C}(h:cy φ w S v x)(ay:yI v=some cs)(ag:v.aP n=true):bk (bP φ w S) cs x.cells.toList/\cs.all (C.aP n)=true:=by
 cases h with
 |c h=>
  simp[yI]at ay;subst ay;rw[bP.single h];exact⟨.cons h .nil,by grind[V.aP]⟩
 |agg h=>
  grind[yI,Value.cells,V.aP]
 |bn=>grind[yI]
theorem alZ{agg:Bool}{k o:Nat}{cs:List C}{vs:List Value}{v:V}(h:bk (bP φ w S) cs vs)(ag:cs.all (C.aP n)=true)(aj:pb agg k cs o=some v)(h1:agg=false->k=1):
 o+k<=cs.length/\cy φ w S v (if agg then .agg ((vs.drop o).take k).toArray else((vs.drop o).take k).getD 0 undef)/\v.aP n=true:=by
 unfold pb at aj;cases agg with
 |true=>
  simp at aj;obtain⟨hle,rfl⟩:=aj;refine⟨hle,?_,by grind[V.aP]⟩
  simpa using cy.agg ((h.drop o).take k)
 |false=>
  have:=h1 rfl;subst this;simp at aj;obtain⟨c,ay,rfl⟩:=aj;obtain⟨x,I,ai⟩:=h.get ay;have aV:=(fv.1 ay).1;refine⟨by omega,?_,?_⟩
  . have:((vs.drop o).take 1).getD 0 undef=x:=by grind
    simp only[this];exact .c ai
  grind[V.aP]
theorem ach{agg:Bool}{k o:Nat}{ts:List T}{v:V}(aj:loadT agg k ts o=some v):pb agg k (ts.map .t) o=some v:=by
 unfold loadT at aj;unfold pb;cases agg<;>simp_all
theorem atW{ty:TypeId}{g:Bool}{k off:Nat}{vs:List Value}(az:yH P ty=some g)(hk:fZ P ty=some k)(h1:g=false->k=1)(hle:off+k<=vs.length):
 (part ty vs.toArray off).run P w= .ok (if g then .agg ((vs.drop off).take k).toArray else((vs.drop off).take k).getD 0 undef) w:=by
 cases g with
 |true=>
  simp_all[part,Dg,oY]
 |false=>
  have:=h1 rfl;have aV:off<vs.length:=by omega
  simp_all[part,Dg]
theorem atr (R:Rel aG nt φ S env J n a w){o:Oper}{ty:TypeId}{x:Operand}{f:Nat}(aO:o.op= .field ty x f){fs:Array Field}(dI:P.underlying ty=some (.struct fs)){fd:Field}(aJ:fs[f]?=some fd)
 {m:Nat}(hm:fZ P fd.type=some m){g:Bool}(az:yH P fd.type=some g)(h1:g=false->m=1){bO:ba}(I:b7 x=some bO)
 {p v J'}(hk:n key=false)(h:a7 (.fld g fd.offset m bO) env J key=some (p,v,J'))(ar:p):Good P aG nt env J' (ins n key) a v ((execOp a.eval o).run P w):=by
 simp only[a7,bK]at h;obtain⟨⟨fY,gR⟩,cv,he⟩:=h;simp at he;split at he
 . simp only[bV]at he;obtain⟨v0,eK,rfl,rfl,rfl⟩:=he;have hX:=c4 R I cv ar;obtain⟨vs,fP,c8⟩:=hX.1.s0;obtain⟨hle,k',ag⟩:=alZ c8 (by simpa[V.aP]using hX.2) eK h1;have ai:=atW (w:=w) az hm h1 (by rw[<-c8.length];exact hle);exact Good.pure R (by simp[execOp,aO,fP,Instr.field,underlying,dI,aJ,asAgg,ai]) k' ag
 grind
theorem ats (R:Rel aG nt φ S env J n a w){o:Oper}{x:Operand}{i:Nat}(aO:o.op= .extract x i){bO:ba}(I:b7 x=some bO)
 {p v J'}(hk:n key=false)(h:a7 (.ext bO i) env J key=some (p,v,J'))(ar:p):Good P aG nt env J' (ins n key) a v ((execOp a.eval o).run P w):=by
 simp only[a7,bK]at h;obtain⟨⟨fY,gR⟩,cv,he⟩:=h;simp at he;split at he
 . simp only[bV]at he;obtain⟨v0,eK,rfl,rfl,rfl⟩:=he;have hX:=c4 R I cv ar;generalize aC:a.eval x=y at hX;obtain⟨ai,ag⟩:=hX;cases ai with
   |bn _ xs aj ab=>
    have aV:i<xs.length:=by grind
    have ov:=gQ aV;refine Good.pure R ?_ (ab i _ _ eK ov) (uN (by grind[V.aP]) eK);simp_all[execOp,Instr.extract]
 grind
theorem arx (R:Rel aG nt φ S env J n a w){o:Oper}{x y:Operand}{Uo:Array TypeId}(aO:o.op= .call {callee:= .builtin .max,args:=#[x,y],argTypes:=Uo}){bO fc:ba}(I:b7 x=some bO)(ao:b7 y=some fc)
 {p v J'}(hk:n key=false)(h:a7 (.max2 bO fc) env J key=some (p,v,J'))(ar:p):Good P aG nt env J' (ins n key) a v ((execOp a.eval o).run P w):=by
 simp only[a7,bK]at h;obtain⟨⟨fY,gR⟩,cv,⟨rM,qT⟩,hA,he⟩:=h;simp at he;split at he
 . rename_i k p cI q;simp only[gn]at he;obtain⟨rfl,rfl,rfl,rfl⟩:=he;have h1:=(c4 R I cv ar.1).1.hM;have aa:=(c4 R ao hA ar.2).1.hM;refine Good.pure R ?_ (.vb _ _) rfl;have:(if p<q then q else p)=max p q:=by omega
   simp[execOp,aO,invoke,builtin,Builtin.max_,Builtin.max2,h1,aa,Go.resolve,this]
 grind
theorem ary (R:Rel aG nt φ S env J n a w){o:Oper}{x y:Operand}{Uo:Array TypeId}(aO:o.op= .call {callee:= .builtin .min,args:=#[x,y],argTypes:=Uo}){bO fc:ba}(I:b7 x=some bO)(ao:b7 y=some fc)
 {p v J'}(hk:n key=false)(h:a7 (.min2 bO fc) env J key=some (p,v,J'))(ar:p):Good P aG nt env J' (ins n key) a v ((execOp a.eval o).run P w):=by
 simp only[a7,bK]at h;obtain⟨⟨fY,gR⟩,cv,⟨rM,qT⟩,hA,he⟩:=h;simp at he;split at he
 . rename_i k p cI q;simp only[gn]at he;obtain⟨rfl,rfl,rfl,rfl⟩:=he;have h1:=(c4 R I cv ar.1).1.hM;have aa:=(c4 R ao hA ar.2).1.hM;refine Good.pure R ?_ (.vb _ _) rfl;have:(if q<p then q else p)=min p q:=by omega
   simp[execOp,aO,invoke,builtin,Builtin.min_,Builtin.min2,h1,aa,Go.resolve,this]
 grind
theorem cl.pj{es:List (List T)}{v:Value}(h:cl w S (.slice es) v):∃(a:Option Addr) (cap sz b o:Nat) (f:Nat->Nat->Value),v= .slice a es.length cap/\es.length<=cap/\es.length<=en/\(∀e,e∈es->e.length=sz)/\(es≠[]->a=some ⟨b,o,none⟩)/\
 (∀i j:Nat,i<es.length->j<sz->S b (o+i*sz+j)/\w.cell? ⟨b,o+i*sz+j,none⟩=some (f i j))/\(∀(i j:Nat) e t,es[i]?=some e->e[j]?=some t->cl w S t (f i j)):=by
 cases h;exact⟨_,_,_,_,_,_,rfl,by grind,by grind,by omega,by omega,by omega,by grind⟩
theorem bP.kd{b sz off len:Nat}{v:Value}(h:bP φ w S (.arr b sz off len) v):∃a,v= .slice a len ((φ b).2-off)/\((φ b).2≠0->a=some ⟨(φ b).1,off*sz,none⟩)/\off+len<=(φ b).2:=h
theorem att (R:Rel aG nt φ S env J n a w){o:Oper}{x:Operand}{ty:TypeId}(aO:o.op= .call {callee:= .builtin .len,args:=#[x],argTypes:=#[ty]}){str:Bool}
 (dI:if str then P.underlying ty=some .string else ∃e,P.underlying ty=some (.slice e)){bO:ba}(I:b7 x=some bO)
 {p v J'}(hk:n key=false)(h:a7 (.len str bO) env J key=some (p,v,J'))(ar:p):Good P aG nt env J' (ins n key) a v ((execOp a.eval o).run P w):=by
 simp only[a7,bK]at h;obtain⟨⟨fY,gR⟩,cv,he⟩:=h;simp at he;split at he<;>simp only[fa,fu,reduceCtorEq]at he
 all_goals
  obtain⟨rfl,rfl,rfl⟩:=he;have h1:=(c4 R I cv ar).1.fy
 . obtain⟨e,dI⟩:=dI;obtain⟨cx,cap,_,_,_,_,h1,_⟩:=cl.pj h1;exact Good.pure R (by simp[execOp,aO,Go.resolve,invoke,builtin,Builtin.len_,underlying,dI,h1,goInt]) (.vb _ _) rfl
 . obtain⟨e,dI⟩:=dI;obtain⟨cx,h1,_⟩:=bP.kd h1;exact Good.pure R (by simp[execOp,aO,Go.resolve,invoke,builtin,Builtin.len_,underlying,dI,h1,goInt]) (.vb _ _) rfl
 . obtain⟨e,dI⟩:=dI;obtain⟨cx,h1⟩:=h1;exact Good.pure R (by simp[execOp,aO,Go.resolve,invoke,builtin,Builtin.len_,underlying,dI,h1,goInt]) (.vb _ _) rfl
 . obtain⟨e,dI⟩:=dI;rename_i b l;obtain⟨cx,cap,h1⟩:∃cx cap,a.eval x= .slice cx l cap:=by
    obtain⟨hle,js,k1⟩:=h1
    grind
   exact Good.pure R (by simp[execOp,aO,Go.resolve,invoke,builtin,Builtin.len_,underlying,dI,h1,goInt]) (.vb _ _) rfl
 . simp at dI;obtain⟨bs,pT,rfl,_⟩:=cy.qR (.c h1);exact Good.pure R (x:= .int .i64 bs.size) (by simp[execOp,aO,Go.resolve,invoke,builtin,Builtin.len_,underlying,dI,pT,goInt]) (by exact .vb _ _) rfl
theorem arz (R:Rel aG nt φ S env J n a w){o:Oper}{ty:TypeId}{x i:Operand}(aO:o.op= .indexAddr ty x i){e:TypeId}(dI:P.underlying ty=some (.slice e)){sz:Nat}(b8:fZ P e=some sz)(h0:sz≠0)
 {bO qh:ba}(I:b7 x=some bO)(ak:b7 i=some qh)
 {p v J'}(hk:n key=false)(h:a7 (.idxA sz bO qh) env J key=some (p,v,J'))(ar:p):Good P aG nt env J' (ins n key) a v ((execOp a.eval o).run P w):=by
 simp only[a7,bK]at h;obtain⟨⟨fY,gR⟩,cv,⟨pi,tS⟩,ry,he⟩:=h;simp only at he;have iU:∀(b off m:Nat),Addr.add ⟨b,off,none⟩ (m*sz)=⟨b,off+m*sz,none⟩:=by
  grind[Addr.add]
 split at he
 . rename_i es k m;obtain⟨rfl,rfl,rfl⟩:=he;obtain⟨eV,e5,o7,u3,my⟩:=ar;have h1:=(c4 R I cv eV).1.fy;have aa:=(c4 R ak ry e5).1.hM;obtain⟨cx,cap,dp,b,off,f,h1,na,kn,Wg,aC,ay,aF⟩:=cl.pj h1;have b4:es≠[]:=by grind
   have aEI:es[m.toNat]?=some (el es m.toNat):=by grind[el]
   have CS:dp=sz:=by grind
   subst CS;rw[aC b4]at h1;refine Good.pure R (x:= .pointer (some ⟨b,off+m.toNat*dp,none⟩)) ?_ ?_ rfl
   . have nL:0<=m/\m<es.length:=⟨o7,by omega⟩
     simp[execOp,aO,h1,aa,Instr.indexAt,asIntOf,underlying,dI,nL,oY b8,iU]
   . refine .c ⟨b,off+m.toNat*dp,λj=>f m.toNat j,by rfl,λj t ht=>?_⟩
     grind
 . rename_i b dp off len k m;obtain⟨rfl,rfl,rfl⟩:=he;obtain⟨eV,e5,o7,u3,rfl⟩:=ar;have az:=c4 R I cv eV;have h1:=az.1.fy;have aa:=(c4 R ak ry e5).1.hM;obtain⟨cx,h1,aC,hle⟩:=bP.kd h1;rw[aC (by omega)]at h1;refine Good.pure R (x:= .pointer (some ⟨(φ b).1,off*sz+m.toNat*sz,none⟩)) ?_ (.c ?_) (by grind[V.aP,C.aP])
   . have nL:0<=m/\m<len:=⟨o7,by omega⟩
     simp[execOp,aO,h1,aa,Instr.indexAt,asIntOf,underlying,dI,nL,oY b8,iU]
   grind[bP]
 grind
theorem arA (R:Rel aG nt φ S env J n a w){o:Oper}{ty:TypeId}{x i:Operand}(aO:o.op= .index ty x i)(dI:P.underlying ty=some .string)
 {bO qh:ba}(I:b7 x=some bO)(ak:b7 i=some qh)
 {p v J'}(hk:n key=false)(h:a7 (.idxS bO qh) env J key=some (p,v,J'))(ar:p):Good P aG nt env J' (ins n key) a v ((execOp a.eval o).run P w):=by
 simp only[a7,bK]at h;obtain⟨⟨fY,gR⟩,cv,⟨pi,tS⟩,ry,he⟩:=h;simp at he;split at he
 . rename_i s k m;obtain⟨rfl,rfl,rfl⟩:=he;obtain⟨eV,e5,o7,u3⟩:=ar;obtain⟨bs,h1,rfl,hs⟩:=(c4 R I cv eV).1.qR;have aa:=(c4 R ak ry e5).1.hM;have aV:m.toNat<bs.size:=by simp_all
   refine Good.pure R ?_ (.vb _ _) rfl;have ag:bs[m.toNat]?=some (bs.data.toList.getD m.toNat 0):=by
    rw[getElem?_pos bs _ _];simp[gQ u3];rfl
   simp[execOp,aO,h1,aa,Instr.index,asIntOf,underlying,dI,o7,ag]
 grind
theorem amg:∀{vs:List V} {l:List Nat} {xs:List Value},a7.Cp vs=some l->bk (cy φ w S) vs xs->V.aP.V.e3 n vs=true->
 xs=l.map (λb=>Value.pointer (some ⟨(φ b).1,0,none⟩))/\(l.all λb=>n b)=true
 |[],l,xs,h,aC,ag=>by simp[a7.Cp]at h;subst h;cases aC;simp
 |v::vs,l,xs,h,aC,ag=>by
  cases aC with
  |cons j0 ht=>
   unfold a7.Cp at h;split at h
   . grind
   . rename_i b r e;cases e;simp at h;obtain⟨fm,kX,rfl⟩:=h;simp[V.aP.V.e3]at ag;obtain⟨rfl,aa⟩:=amg kX ht ag.2;have:=j0.lg
     grind[V.aP,C.aP]
   grind
theorem arB (R:Rel aG nt φ S env J n a w){o:Oper}{f:Nat}{caps:Array Operand}(aO:o.op= .makeFunc (.func f) #[] caps){n3:List ba}(I:vf caps.toList=some n3)
 {p v J'}(hk:n key=false)(h:a7 (.mkfn f n3) env J key=some (p,v,J'))(ar:p):Good P aG nt env J' (ins n key) a v ((execOp a.eval o).run P w):=by
 simp only[a7,bK]at h;obtain⟨⟨fY,vs⟩,cv,he⟩:=h;split at he
 . rename_i l aj;obtain⟨rfl,rfl,rfl⟩:=he;have az:=AS R I cv ar;obtain⟨h1,aa⟩:=amg aj az.1 az.2;refine Good.pure R ?_ (.c rfl) (by grind[V.aP,C.aP]);have:caps.map a.eval=(l.map λb=>Value.pointer (some ⟨(φ b).1,0,none⟩)).toArray:=by grind
   simp_all[execOp,Instr.makeFunc]
 grind
theorem AT(R:Rel aG nt φ S env J n a w){x:Option Operand}{bO:Option ba}(I:qN x=some bO){p:Prop}{m:Option Int}(h:pQ env bO=some (p,m))(ar:p):
 (x.map a.eval=none/\m=none)\/∃k i,x.map a.eval=some (.int k i)/\m=some i:=by
 cases x with
 |none=>grind[qN,pQ]
 |some x=>
  simp[qN]at I;obtain⟨eo,oq,rfl⟩:=I;simp only[pQ,bK]at h;obtain⟨⟨q,v⟩,aE,he⟩:=h;simp at he;split at he
  . obtain⟨rfl,rfl⟩:=he;have:=(c4 R oq aE ar).1.hM
    grind
  grind
theorem RF {isSlice:Bool}{len cap:Nat}{bE ak:Option Value}{l h:Option Int}(km:(bE=none/\l=none)\/∃k i,bE=some (.int k i)/\l=some i)(AA:(ak=none/\h=none)\/∃k i,ak=some (.int k i)/\h=some i)
 (h0:0<=l.getD 0)(h1:l.getD 0<=h.getD len)(aa:h.getD len<=len)(aA:len<=cap):
 (Instr.sliceBounds isSlice len cap bE ak none).run P w= .ok ((l.getD 0).toNat,(h.getD len).toNat,cap) w:=by
 have aU:h.getD len<=cap:=by omega
 rcases km with⟨rfl,rfl⟩|⟨k,i,rfl,rfl⟩<;>rcases AA with⟨rfl,rfl⟩|⟨cI,dk,rfl,rfl⟩<;>simp_all [Instr.sliceBounds,Instr.sliceBound,asIntOf]
 grind
theorem arC (R:Rel aG nt φ S env J n a w){o:Oper}{ty:TypeId}{x:Operand}{bE ak:Option Operand}(aO:o.op= .slice ty x bE ak none)(dI:P.underlying ty=some .string)
 {bO:ba}{n3 vI:Option ba}(I:b7 x=some bO)(km:qN bE=some n3)(AA:qN ak=some vI)
 {p v J'}(hk:n key=false)(h:a7 (.slcS bO n3 vI) env J key=some (p,v,J'))(ar:p):Good P aG nt env J' (ins n key) a v ((execOp a.eval o).run P w):=by
 simp only[a7,bK]at h;obtain⟨⟨fY,gR⟩,cv,⟨pl,l⟩,FM,⟨ajs,h⟩,FL,he⟩:=h;simp at he;split at he
 . obtain⟨rfl,rfl,rfl⟩:=he;obtain⟨eV,e5,y0,h0,h1,aa⟩:=ar;obtain⟨bs,o',rfl,hs⟩:=(c4 R I cv eV).1.qR;have aj:=AT R km FM e5;have ab:=AT R AA FL y0;rw[G8]at h1 aa;have ag:=RF (P:=P) (w:=w) (isSlice:=false) aj ab h0 h1 aa (gP _);rw[G8]
   have e:(bs.extract (l.getD 0).toNat (h.getD bs.size).toNat).data.toList=(bs.data.toList.take (h.getD bs.size).toNat).drop (l.getD 0).toNat:=by grind[ByteArray.data_extract,Array.toList_extract,List.drop_take]
   refine Good.pure R (x:= .string (bs.extract (l.getD 0).toNat (h.getD bs.size).toNat)) ?_ (.c ?_) rfl
   . simp[execOp,aO,Instr.sliceAt,Instr.slice,underlying,dI,o',ag]
   . rw[<-e];refine .str _ ?_;rw[ByteArray.size_extract];omega
 grind
theorem atu (R:Rel aG nt φ S env J n a w){o:Oper}{ty:TypeId}{x:Operand}{bE ak:Option Operand}(aO:o.op= .slice ty x bE ak none){e:TypeId}(dI:P.underlying ty=some (.slice e)){sz:Nat}(b8:fZ P e=some sz)
 {bO:ba}{n3 vI:Option ba}(I:b7 x=some bO)(km:qN bE=some n3)(AA:qN ak=some vI)
 {p v J'}(hk:n key=false)(h:a7 (.slc sz bO n3 vI) env J key=some (p,v,J'))(ar:p):Good P aG nt env J' (ins n key) a v ((execOp a.eval o).run P w):=by
 simp only[a7,bK]at h;obtain⟨⟨fY,gR⟩,cv,⟨pl,l⟩,FM,⟨ajs,h⟩,FL,he⟩:=h;simp only at he;split at he
 . rename_i es;obtain⟨rfl,rfl,rfl⟩:=he;obtain⟨eV,e5,y0,h0,h1,aa,my⟩:=ar;obtain⟨cx,cap,dp,b,off,f,o',na,kn,Wg,aC,ay,aF⟩:=cl.pj (c4 R I cv eV).1.fy;have aj:=AT R km FM e5;have ab:=AT R AA FL y0;have ag:=RF (P:=P) (w:=w) (isSlice:=true) (cap:=cap) aj ab h0 h1 aa na;generalize gB:(l.getD 0).toNat=L at*
   generalize hH:(h.getD (es.length:Int)).toNat=H at*;have hlen:((es.take H).drop L).length=H-L:=by simp;omega
   refine Good.pure R (x:= .slice (if cap=L then cx else cx.map (·.add (L*sz))) (H-L) (cap-L)) ?_ (.c ?_) rfl
   . simp[execOp,aO,Instr.sliceAt,Instr.slice,underlying,dI,o',ag,oY b8]
   . show cl w S _ _;rw[<-hlen];have eU:∀(i:Nat) e,((es.take H).drop L)[i]?=some e->es[L+i]?=some e/\L+i<H:=by grind
     by_cases b4:es=[]
     . subst b4;simp;exact cl.slice [] _ _ 0 0 0 (λ_ _=>undef) (by simp) (by simp[en]) (by simp) (by simp) (by simp) (by simp)
     . have CS:dp=sz:=by
        obtain⟨e0,pW⟩:=QM es b4
        grind
       subst CS;refine cl.slice _ _ _ dp b (off+L*dp) (λi j=>f (L+i) j) (by rw[hlen];omega) (by rw[hlen];omega) (λe he=>my e (Hv (WV he))) ?_ ?_ ?_
       . intro a';have:L<H:=by grind
         rw[ah (by omega),aC b4];unfold Addr.add;split
         . rename_i h;simp[h]
         . rfl
       . intro i j ak aM;rw[hlen]at ak;have:=ay (L+i) j (by omega) aM;rw[show off+L*dp+i*dp+j=off+(L+i)*dp+j by rw[ni];omega];exact this
       . intro i j e t he ht;exact aF _ _ _ _ (eU i e he).1 ht
 . rename_i b dp off len;obtain⟨rfl,rfl,rfl⟩:=he;obtain⟨eV,e5,y0,h0,h1,aa,rfl⟩:=ar;have az:=c4 R I cv eV;obtain⟨cx,o',aC,hle⟩:=bP.kd az.1.fy;have aj:=AT R km FM e5;have ab:=AT R AA FL y0;have ag:=RF (P:=P) (w:=w) (isSlice:=true) (cap:=(φ b).2-off) aj ab h0 h1 aa (by omega)
   have iU:∀(q o m:Nat),(Addr.add ⟨q,o,none⟩ m:Addr)=⟨q,o+m,none⟩:=by
    grind[Addr.add]
   have ah6:n3.isNone=true->l.getD 0=0:=by
    intro a';cases n3 with
    |some _=>grind
    |none=>grind[pQ,Option.some.injEq,Prod.mk.injEq]
   generalize l.getD 0=L at*;generalize h.getD (len:Int)=H at*;refine Good.pure R (x:= .slice (if(φ b).2-off=L.toNat then cx else cx.map (·.add (L.toNat*sz))) (H.toNat-L.toNat) ((φ b).2-off-L.toNat)) ?_ (.c ?_) ?_
   . simp[execOp,aO,Instr.sliceAt,Instr.slice,underlying,dI,o',ag,oY b8]
   . by_cases a':n3.isNone=true
     . rw[af a'];have:=ah6 a';subst this;refine⟨_,rfl,λay=>?_,by omega⟩
       grind
     . rw[ah a'];refine⟨_,_,rfl,λay=>?_,by omega⟩
       grind
   grind[V.aP,C.aP]
 grind
theorem arD (R:Rel aG nt φ S env J n a w){o:Oper}{ty:TypeId}{x:Operand}{k cI:IntKind}(aO:o.op= .slice ty x none (some (.const (.int k 0))) (some (.const (.int cI 0)))){e:TypeId}(dI:P.underlying ty=some (.slice e))
 {sz:Nat}(b8:fZ P e=some sz){bO:ba}(I:b7 x=some bO)
 {p v J'}(hk:n key=false)(h:a7 (.slc0 bO) env J key=some (p,v,J'))(ar:p):Good P aG nt env J' (ins n key) a v ((execOp a.eval o).run P w):=by
 simp only[a7,bK]at h;obtain⟨⟨fY,gR⟩,cv,he⟩:=h;simp at he;have eQ:∀(cx:Option _) (l c:Nat),a.eval x= .slice cx l c->∃a2,(execOp a.eval o).run P w= .ok (.value (.slice a2 0 0)) w:=by
  intro cx l c o';have e0:∀v,a.eval (.const v)=v:=λ_=>rfl
  exact⟨_,by simp[execOp,aO,Instr.sliceAt,Instr.slice,underlying,dI,o',oY b8];rfl⟩
 split at he<;>simp only[fa,reduceCtorEq]at he
 all_goals
  obtain⟨rfl,rfl,rfl⟩:=he;have h1:=(c4 R I cv ar).1.fy
 . obtain⟨cx,cap,dp,b,off,f,o',_⟩:=cl.pj h1;obtain⟨a2,aa⟩:=eQ _ _ _ o';exact Good.pure R aa (.c ⟨a2,rfl⟩) rfl
 . obtain⟨cx,o'⟩:=h1;obtain⟨a2,aa⟩:=eQ _ _ _ o';exact Good.pure R aa (.c ⟨a2,rfl⟩) rfl
 . obtain⟨cx,o',_⟩:=bP.kd h1;obtain⟨a2,aa⟩:=eQ _ _ _ o';exact Good.pure R aa (.c ⟨a2,rfl⟩) rfl
theorem nB{b:Nat}{vs:List Value}{E:TypeId}{PA:Nat×Nat}(h:w.heap[b]?=some (.cells vs.toArray E PA))(j:Nat):w.cell? ⟨b,j,none⟩=vs[j]?:=by
 grind[World.cell?]
theorem A2 {ty:TypeId}{g:Bool×Nat}(az:uY P ty=some g){blk off0 o:Nat}{cs:List C}{vs:List Value}{v:V}
 (c8:bk (bP φ w S) cs vs)(ag:cs.all (C.aP n)=true)(ay:∀j,j<vs.length->w.cell? ⟨blk,off0+j,none⟩=vs[j]?)(aj:pb g.1 g.2 cs o=some v):
 ∃x,(loadVar ty ⟨blk,off0+o,none⟩).run P w= .ok x w/\cy φ w S v x/\v.aP n=true:=by
 obtain⟨h1,aa,aA⟩:=YT az;obtain⟨hle,k',sv⟩:=alZ c8 ag aj aA;rw[c8.length]at hle
 grind[alY]
theorem bk.ajD{ts:List T}{xs:List Value}(h:bk (cl w S) ts xs):bk (bP φ w S) (ts.map .t) xs:=bk.aBZ h
theorem ZH{b sz i:Nat}{es:List (List T)}(h:dU φ w S b (.arr sz es))(ak:i<es.length):
 (φ b).2≠0/\∃(vs:List Value) (E:TypeId) (xs:List Value),w.heap[(φ b).1]?=some (.cells vs.toArray E (0,0))/\vs.length=(φ b).2*sz/\(el es i).length=sz/\xs.length=sz/\bk (cl w S) (el es i) xs/\
  (∀j,j<sz->vs[i*sz+j]?=xs[j]?)/\(i+1)*sz<=vs.length:=by
 obtain⟨h1,aa,aA,aU,bN⟩:=h;have h0:(φ b).2≠0:=by omega
 obtain⟨vs,E,ab,aj,aF,hs⟩:=bN h0;have my:es[i]?=some (el es i):=by grind[el]
 have hlen:=aA _ (hp my);have hle:(i+1)*sz<=vs.length:=by rw[aj];exact hj _ (by omega)
 refine⟨h0,vs,E,(vs.drop (i*sz)).take sz,ab,aj,hlen,by grind,?_,?_,hle⟩
 . grind[bk.rK]
 grind
theorem arE (R:Rel aG nt φ S env J n a w){o:Oper}{ty:TypeId}{x:Operand}(aO:o.op= .load ty x){g:Bool×Nat}(az:uY P ty=some g){bO:ba}(I:b7 x=some bO)
 {p v J'}(hk:n key=false)(h:a7 (.load g.1 g.2 bO) env J key=some (p,v,J'))(ar:p):Good P aG nt env J' (ins n key) a v ((execOp a.eval o).run P w):=by
 simp only[a7,bK]at h;obtain⟨⟨fY,gR⟩,cv,he⟩:=h;simp only at he;have eQ:∀(blk off:Nat) (y:Value),a.eval x= .pointer (some ⟨blk,off,none⟩)->(loadVar ty ⟨blk,off,none⟩).run P w= .ok y w->(execOp a.eval o).run P w= .ok (.value y) w:=by
  simp_all[execOp,Instr.loadAt,Instr.sureAddr]
 split at he
 . split at he
   . rename_i cs cQ;simp only[bV]at he;obtain⟨v0,eK,rfl,rfl,rfl⟩:=he;have h1:=(c4 R I cv ar).1.lg;obtain⟨_,vs,E,ab,c8,_⟩:=R.b'.blk _ _ cQ;have ag:=(R.eX _ _ cQ).2;obtain⟨y,ao,k',sv⟩:=A2 (n:=n) az c8 ag (λj _=>by rw[nB ab,kt]) eK
     grind[Good.pure]
   . rename_i E c cQ;split at he
     . rename_i rz;obtain⟨azM,rfl⟩:=rz;obtain⟨rfl,rfl,rfl⟩:=he;have h1:=(c4 R I cv ar).1.lg;obtain⟨_,⟨MB,zx,ab,V9,FT⟩,_⟩:=R.b'.blk _ _ cQ;have ag:=(R.eX _ _ cQ).2;have P0:MB.oneCell'=true:=by rcases V9 with rfl|rfl<;>rfl
       have c8:bk _ [.dead,c] [MB,zx]:= .cons P0 (.cons FT .nil);obtain⟨y,ao,k',sv⟩:=A2 (n:=n) (off0:=0) (o:=1) (v:= .c c) az c8 (by simp only[sJ,List.all_nil,Bool.and_true];exact ag) (λj _=>by rw[nB ab,kt]) (by simp[pb,azM])
       grind[Good.pure]
     grind
   grind
 . rename_i b sz i ed;split at he
   . rename_i dp es cQ;simp only[bV,fu]at he;obtain⟨v0,eK,rfl,rfl,rfl⟩:=he;obtain⟨eV,rfl,ak⟩:=ar;have h1:=(c4 R I cv eV).1.l3;obtain⟨_,vs,E,xs,ab,aj,hlen,mD,c8,eU,_⟩:=ZH (R.b'.blk _ _ cQ) ak
     obtain⟨y,ao,k',sv⟩:=A2 (n:=n) az (bk.ajD c8) (abg n _) (λj aM=>by rw[nB ab,eU j (by omega)]) (ach eK);exact Good.pure R (eQ _ _ _ h1 ao) k' sv
   . rename_i cs cQ;simp only[bV]at he;obtain⟨v0,eK,rfl,rfl,rfl⟩:=he;have h1:=(c4 R I cv ar).1.l3;obtain⟨_,vs,E,ab,c8,_⟩:=R.b'.blk _ _ cQ;have ag:=(R.eX _ _ cQ).2;obtain⟨y,ao,k',sv⟩:=A2 (n:=n) az c8 ag (λj _=>by rw[nB ab,kt]) eK;rw[kt]at ao;exact Good.pure R (eQ _ _ _ h1 ao) k' sv
   . rename_i dp es i2 iF c cQ;split at he
     . grind
     . rename_i qD;obtain⟨⟨a1,a2,a3,a4,a5,bx⟩,⟨vs,E,k1,k2,k3,I3,k4,k5⟩,k6⟩:=R.b'.blk _ _ cQ;have ag:=(R.eX _ _ cQ).2;split at he
       . rename_i jq;subst jq;obtain⟨rfl,rfl,rfl⟩:=he;obtain⟨eV,rfl,rfl⟩:=ar;have h1:=(c4 R I cv eV).1.l3
         obtain⟨y,ao,k',sv⟩:=A2 (n:=n) (vs:=[I3]) (o:=0) (v:= .c c) az (.cons k5 .nil) (by simpa[ck.aP]using ag) (λj aM=>by
          have:j=0:=by simpa using aM
          subst this
          rw[nB k1,By,k4];rfl) (by simp[pb,qD])
         exact Good.pure R (eQ _ _ _ h1 ao) k' sv
       . rename_i jq;simp only[bV,fu]at he;obtain⟨v0,eK,rfl,rfl,rfl⟩:=he;obtain⟨eV,rfl,ak⟩:=ar;have h1:=(c4 R I cv eV).1.l3;simp only[loadT,dK,dB,bV]at eK;obtain⟨t,ht,rfl⟩:=eK;have my:es[i]?=some (el es i):=by unfold el;rw[List.getD,gQ ak];rfl
         obtain⟨pr,h2,sC⟩:=k3 i ed _ t my ht (λh=>jq h.2)
         obtain⟨y,ao,k',sv⟩:=A2 (n:=n) (φ:=φ) (cs:=[.t t]) (o:=0) (v:= .c (.t t)) az (.cons sC .nil) rfl (λj aM=>by
          have:j=0:=by simpa using aM
          subst this
          rw[nB k1,By,h2];rfl) (by simp[pb,qD])
         exact Good.pure R (eQ _ _ _ h1 ao) k' sv
   grind
 . rename_i ts ed;simp only[bV,fu]at he;obtain⟨v0,eK,rfl,rfl,rfl⟩:=he;obtain⟨blk,off,f,h1,ab⟩:=(c4 R I cv ar).1.fy;have c8:bk (cl w S) ts ((List.range ts.length).map f):=by
    grind[bk.rK]
   obtain⟨y,ao,k',sv⟩:=A2 (n:=n) az (bk.ajD c8) (abg n _) (blk:=blk) (off0:=off) (λj aM=>by simp_all) (ach eK);exact Good.pure R (eQ _ _ _ h1 ao) k' sv
 grind
theorem abh{k:Nat}{s t:T}{b:Bool}(h:Jp k s t=some b){ty:TypeId}(dI:y6 P ty=some k){x y:Value}(I:cl w S s x)(ao:cl w S t y)(d:Nat):
 (Op.equalIn (d+1) ty x y).run P w= .ok b w:=by
 have ayG:∀a b:List UInt8,(a==b)=decide (a=b):=λa b=>by grind
 unfold y6 at dI;unfold Jp at h;split at h
 . cases h;cases I;cases ao;split at dI<;>simp at dI
   rename_i hu;unfold Op.equalIn;simp only[Sem.run_bind,run_underlying hu];rfl
 . simp at h;obtain⟨rfl,rfl⟩:=h;cases I;cases ao;split at dI<;>simp at dI
   rename_i hu;unfold Op.equalIn;simp only[Sem.run_bind,run_underlying hu,Result.andThen_ok];rfl
 . cases I with|str s1 h1=>cases ao with|str s2 aa=>
   split at dI<;>simp at dI
   rename_i hu;unfold Op.equalIn;simp only[Sem.run_bind,run_underlying hu,Result.andThen_ok];simp_all[beq_toListBytes,ByteArray.toList_eq]
 grind
theorem abi{ty:TypeId}{k:Nat}(h:y6 P ty=some k):yH P ty=some false:=by
 grind[y6,yH]
theorem ak'{d:Nat}{xs bG:Array Value}:∀{fs:List Field} {i:Nat} {ks:List Nat} {ps qs:List C} {us vs:List Value} {r:Bool},KX P i fs=some ks->sr ks ps qs=some r->
 bk (bP φ w S) ps us->bk (bP φ w S) qs vs->xs.toList.drop i=us->bG.toList.drop i=vs->(Op.eqFields (d+1) xs bG fs).run P w= .ok r w
 |[],i,ks,ps,qs,us,vs,r,aJ,he,h1,aa,aR,bw=>by
  simp[KX]at aJ;subst aJ;cases ps<;>cases qs<;>simp[sr]at he
  subst he;rfl
 |f::fs,i,ks,ps,qs,us,vs,r,aJ,he,h1,aa,aR,bw=>by
  simp[KX,bK]at aJ;obtain⟨⟨aEW,aih⟩,k,hk,y7,jo,rfl⟩:=aJ;unfold sr at he;split at he
  . grind
  . rename_i cI aFp x Xj y aFD heq;cases heq;simp only[bK,bV]at he;obtain⟨b,ag,fw,y2,rfl⟩:=he;cases h1 with|cons h1 jm=>
    cases aa with|cons aa tv=>
    rename_i u akF v sQ;have ex:xs[i]?=some u:=by have:=eL (·[0]?) aR;grind
    have U4:bG[i]?=some v:=by have:=eL (·[0]?) bw;grind
    have ih:=ak' (d:=d) jo y2 jm tv (by rw[<-Hn,aR];rfl) (by rw[<-Hn,bw];rfl);have Mw:∀(dW:Array _) (z:Value),dW[i]?=some z->(part f.type dW f.offset).run P w= .ok z w:=by
     simp_all[part,Dg,abi]
    simp[Op.eqFields,Mw _ _ ex,Mw _ _ U4,abh ag hk h1 aa d];cases b
    all_goals simp_all
  grind
theorem aqq (R:Rel aG nt φ S env J n a w){o:Oper}{op:BinOp}{ty yt:TypeId}{x y:Operand}(aO:o.op= .binOp op ty x y yt)(eb:op= .eql\/op= .neq){ks:List Nat}(dI:YR P ty=some ks)
 {bO fc:ba}(I:b7 x=some bO)(ao:b7 y=some fc)
 {p v J'}(hk:n key=false)(h:a7 (.eqAgg (op== .neq) ks bO fc) env J key=some (p,v,J'))(ar:p):Good P aG nt env J' (ins n key) a v ((execOp a.eval o).run P w):=by
 simp only[a7,bK]at h;obtain⟨⟨fY,gR⟩,cv,⟨rM,qT⟩,hA,he⟩:=h;simp at he;split at he
 . simp only[bV]at he;obtain⟨r,ai,rfl,rfl,rfl⟩:=he;obtain⟨us,hu,CF⟩:=(c4 R I cv ar.1).1.s0;obtain⟨vs,aF,FD⟩:=(c4 R ao hA ar.2).1.s0;unfold YR at dI;split at dI
   . rename_i fs o5;have wA:(eqGuard op ty x y (a.eval x) (a.eval y)).run P w= .ok () w:=by simp_all[eqGuard]
     have dH:P.fieldsOf ty=fs:=by grind[Program.fieldsOf]
     have zY:(Op.equal ty (.agg us.toArray) (.agg vs.toArray)).run P w= .ok r w:=by
      obtain⟨d,av⟩:∃d,Op.maxDepth=d+2:=⟨9998,rfl⟩
      grind[Op.equal,run_equalIn_struct,ak']
     have CD:(binOp op ty (a.eval x) (a.eval y)).run P w= .ok (.bool (if(op== .neq)then !r else r)) w:=by
      rcases eb with rfl|rfl
      . simp_all[binOp]
      simp_all[binOp]
     refine Good.pure R ?_ (.xL _) rfl;simp_all[execOp]
   grind
 grind
theorem Bq{w w':World}{b:Nat}(h:w'.heap[b]?=w.heap[b]?)(j:Nat):w'.cell? ⟨b,j,none⟩=w.cell? ⟨b,j,none⟩:=by
 grind[World.cell?]
theorem wu{w:World}{b:Nat}{o:Obj}(h:w.heap[b]?=some o):b<w.heap.size:=(L7.1 h).1
theorem dU.pg{b:Nat}{x:ck}(h:dU φ w S b x)(h0:(φ b).2≠0):(φ b).1<w.heap.size:=by
 cases x with
 |box cs=>obtain⟨_,_,_,ab,_⟩:=h;grind
 |arr sz es=>obtain⟨_,_,_,_,bN⟩:=h;grind
 |set ks=>obtain⟨_,⟨_,_,ab,_⟩,_⟩:=h;grind
 |buf E s=>obtain⟨_,_,bN⟩:=h;grind
 |cL E c=>obtain⟨_,⟨_,_,ab,_⟩,_⟩:=h;grind
 |dr sz es i o c=>obtain⟨_,⟨_,_,ab,_⟩,_⟩:=h;grind
theorem dU.za{b:Nat}{x:ck}(h:dU φ w S b x)(h0:(φ b).2≠0):∀j,¬S (φ b).1 j:=by
 cases x with
 |box cs=>obtain⟨_,_,_,_,_,hs⟩:=h;grind
 |arr sz es=>obtain⟨_,_,_,_,bN⟩:=h;grind
 |set ks=>exact h.2.2
 |buf E s=>exact(h.2.2 h0).2
 |cL E c=>exact h.2.2
 |dr sz es i o c=>exact h.2.2
theorem dU.mono {bB:ea}{w':World}{b:Nat}{x:ck}(m:jV w S w' S)(fQ:∀b,n b=true->bB b=φ b)(ag:n b=true)(I:x.aP n=true)(ab:(φ b).2≠0->w'.heap[(φ b).1]?=w.heap[(φ b).1]?)
 (h:dU φ w S b x):dU bB w' S b x:=by
 cases x with
 |box cs=>
  obtain⟨h0,vs,E,h1,aa,aA⟩:=h;simp only[dU,fQ b ag];refine⟨h0,vs,E,(ab h0).trans h1,aa.imp λc v ay ai=>bP.mono m fQ (by grind[ck.aP]) ai,aA⟩
 |arr sz es=>
  obtain⟨h1,aa,aA,aU,bN⟩:=h;simp only[dU,fQ b ag];refine⟨h1,aa,aA,aU,λh0=>?_⟩;obtain⟨vs,E,k1,k2,k3,k4⟩:=bN h0;exact⟨vs,E,(ab h0).trans k1,k2,λi j e t he ht=>let⟨v,aF,ai⟩:=k3 i j e t he ht;⟨v,aF,cl.mono m ai⟩,k4⟩
 |set ks=>
  grind[dU]
 |buf E s=>
  grind[dU]
 |cL E c=>
  grind[dU,bP.mono,ck.aP]
 |dr sz es i o c=>
  grind[dU,cl.mono,bP.mono,ck.aP]
theorem Rel.world (R:Rel aG nt φ S env J n a w){w':World}(W:Nat->Prop)(V7:w'.os=w.os)(ht:w'.tape=w.tape)(aO:w'.output=w.output)(hs:w.heap.size<=w'.heap.size)
 (ag:∀b:Nat,b<w.heap.size->¬W b->w'.heap[b]?=w.heap[b]?)
 (hy:∀b,W b->(∀j,¬S b j)/\(∀k y,bf J k=some y->(φ k).2≠0->(φ k).1≠b)/\(aG.B b\/aG.oE.heap.size<=b)):Rel aG nt φ S env J n a w':=by
 have m:jV w S w' S:=⟨λ_ _ h=>h,λb j h=>Bq (ag b (R.b'.st b j h) (λhw=>(hy b hw).1 j h)) j⟩
 refine⟨⟨λb x I=>?_,R.b'.inj,λb j h=>pd (R.b'.st b j h) hs⟩,λk g v aj az=>?_,R.kQ,R.jD,R.eX,R.size,R.defers,?_,R.own,R.fix,R.j4⟩
 . have fG:=R.b'.blk b x I;exact dU.mono m (λ_ _=>rfl) (R.eX b x I).1 (R.eX b x I).2 (λh0=>ag _ (fG.pg h0) (λhw=>(hy _ hw).2.1 b x I h0 rfl)) fG
 . obtain⟨x,I,ai⟩:=R.jE k g v aj az;exact⟨x,I,cy.mono m (λ_ _=>rfl) (R.jD k g v aj az) ai⟩
 . refine⟨V7.trans R.ext.os,ht.trans R.ext.tape,aO.trans R.ext.output,jJ R.ext.size hs,λb aV eF=>?_,R.ext.mono.trans m,R.ext.rO⟩;rw[ag b (pd aV R.ext.size) _]
   . exact R.ext.block b aV eF
   grind
theorem Rel.congr(R:Rel aG nt φ S env J n a w){J':br}(h:∀b,bf J' b=bf J b):Rel aG nt φ S env J' n a w:=
 ⟨⟨λb x I=>R.b'.blk b x (h b▸I),λb bI x y I ao=>R.b'.inj b bI x y (h b▸I) (h bI▸ao),R.b'.st⟩,R.jE,R.kQ,R.jD,λb x I=>R.eX b x (h b▸I),R.size,R.defers,R.ext,λb x I=>R.own b x (h b▸I),R.fix,R.j4⟩
theorem Rel.sub(R:Rel aG nt φ S env J n a w){J':br}(h:∀b x,bf J' b=some x->bf J b=some x):Rel aG nt φ S env J' n a w:=
 ⟨⟨λb x I=>R.b'.blk b x (h b x I),λb bI x y I ao=>R.b'.inj b bI x y (h b x I) (h bI y ao),R.b'.st⟩,R.jE,R.kQ,R.jD,λb x I=>R.eX b x (h b x I),R.size,R.defers,R.ext,λb x I=>R.own b x (h b x I),R.fix,R.j4⟩
theorem Rel.del(R:Rel aG nt φ S env J n a w)(b:Nat):Rel aG nt φ S env (lh J b) n a w:=
 R.sub λk x I=>by grind[ib]
theorem Rel.Ee(R:Rel aG nt φ S env J n a w){bB:ea}(fQ:∀b,n b=true->bB b=φ b):Rel aG nt bB S env J n a w:=by
 refine⟨⟨λb x I=>?_,λb bI x y I ao=>?_,R.b'.st⟩,λk g v aj az=>?_,R.kQ,R.jD,R.eX,R.size,R.defers,R.ext,λb x I h0=>?_,λb ag=>(fQ b (R.j4 b ag)).trans (R.fix b ag),R.j4⟩
 . exact dU.mono (jV.refl w S) fQ (R.eX b x I).1 (R.eX b x I).2 (λ_=>rfl) (R.b'.blk b x I)
 . rw[fQ b (R.eX b x I).1,fQ bI (R.eX bI y ao).1];exact R.b'.inj b bI x y I ao
 . obtain⟨x,I,ai⟩:=R.jE k g v aj az;exact⟨x,I,cy.mono (jV.refl w S) fQ (R.jD k g v aj az) ai⟩
 . rw[fQ b (R.eX b x I).1]at h0⊢;exact R.own b x I h0
theorem Rel.put (R:Rel aG nt φ S env J n a w){b:Nat}{x:ck}(ag:n b=true)(I:x.aP n=true)(fG:dU φ w S b x)
 (aJ:(φ b).2≠0->(∀k y,bf J k=some y->k≠b->(φ k).2≠0->(φ k).1≠(φ b).1)/\(aG.B (φ b).1\/aG.oE.heap.size<=(φ b).1)):Rel aG nt φ S env (ee J b x) n a w:=by
 refine⟨⟨λk y ao=>?_,λk cI y mM ao l' b4 h0 fF=>?_,R.b'.st⟩,R.jE,R.kQ,R.jD,λk y ao=>?_,R.size,R.defers,R.ext,λk y ao h0=>?_,R.fix,R.j4⟩
 . rw[dX]at ao;split at ao
   . grind
   . exact R.b'.blk k y ao
 . rw[dX]at ao l';split at ao
   . grind
   . split at l'
     . grind
     . exact R.b'.inj k cI y mM ao l' b4 h0 fF
 . rw[dX]at ao;split at ao
   . grind
   . exact R.eX k y ao
 . rw[dX]at ao;split at ao
   . grind
   . exact R.own k y ao h0
def ga(φ:ea)(n:Nat)(q:Nat×Nat):ea:=λb=>if b=n then q else φ b
theorem DV{b:Nat}{q:Nat×Nat}(hk:n key=false)(h:n b=true):ga φ key q b=φ b:=by grind[ga]
theorem eP{k:Nat}{q:Nat×Nat}:ga φ k q k=q:=by simp[ga]
theorem Rel.pc (R:Rel aG nt φ S env J n a w)(hk:n key=false){x:ck}(q:Nat×Nat)(I:x.aP n=true)(fG:dU (ga φ key q) w S key x)
 (aJ:q.2≠0->(∀k y,bf J k=some y->(φ k).2≠0->(φ k).1≠q.1)/\(aG.B q.1\/aG.oE.heap.size<=q.1)):Rel aG nt (ga φ key q) S env (ee J key x) (ins n key) a w:=by
 refine((R.Ee (λb h=>DV hk h)).more (λ_ h=>qz h)).put auG (ck.lB (λ_ h=>qz h) I) fG ?_;rw[eP];intro h0;refine⟨λk y ao b4 h=>?_,(aJ h0).2⟩;rw[DV hk (R.eX k y ao).1]at h⊢
 grind
theorem Ay{w:World}{o:Obj}{b:Nat}(h:b<w.heap.size):(w.alloc o).heap[b]?=w.heap[b]?:=by
 show(w.heap.push o)[b]?=_
 grind
theorem heap_alloc_new{w:World}{o:Obj}:(w.alloc o).heap[w.heap.size]?=some o:=by
 show(w.heap.push o)[w.heap.size]?=_;simp
theorem Rel.alloc(R:Rel aG nt φ S env J n a w)(o:Obj):Rel aG nt φ S env J n a (w.alloc o):=
 R.world (λ_=>False) rfl rfl rfl (by simp) (λb ag _=>Ay ag) (λ_ h=>h.elim)
theorem Rel.Hk(R:Rel aG nt φ S env J n a w)(o:Obj):jV w S (w.alloc o) S:=
 ⟨λ_ _ h=>h,λb j h=>Bq (Ay (R.b'.st b j h)) j⟩
theorem Rel.ajb(R:Rel aG nt φ S env J n a w)(hk:n key=false){cs:List C}{vs:List Value}(c8:bk (bP φ w S) cs vs)(ag:cs.all (C.aP n)=true)(E:TypeId):
 Rel aG nt (ga φ key (w.heap.size,1)) S env (ee J key (.box cs)) (ins n key) a (w.alloc (.cells vs.toArray E)):=by
 have m:=R.Hk (.cells vs.toArray E);refine(R.alloc _).pc hk _ ag ?_ ?_
 . simp only[dU,eP];refine⟨by simp,vs,E,heap_alloc_new,c8.imp λc v ay ai=>bP.mono m (λb h=>DV hk h) (by grind) ai,λj h=>?_⟩;have:=R.b'.st _ _ h
   grind
 . intro _;refine⟨λk y ao h0=>?_,.inr R.ext.size⟩;have:=(R.b'.blk k y ao).pg h0
   grind
theorem Df{ty:TypeId}{cs:List C}(h:qe P ty=some cs):∃i z,P.info? ty=some i/\i.zero=some z/\bk (bP φ w S) cs z.cells.toList/\cs.all (C.aP n)=true:=by
 grind[qe,bK,Yj]
theorem al0 (R:Rel aG nt φ S env J n a w){o:Oper}{ty:TypeId}(aO:o.op= .alloc ty){cs:List C}(bq:qe P ty=some cs)
 {p v J'}(hk:n key=false)(h:a7 (.alloc cs) env J key=some (p,v,J'))(ar:p):Good P aG nt env J' (ins n key) a v ((execOp a.eval o).run P w):=by
 obtain⟨rfl,rfl,rfl⟩:=h;obtain⟨i,z,ak,bq,c8,ag⟩:=Df bq;have R':=R.ajb hk c8 ag ty;refine⟨.pointer (some ⟨w.heap.size,0,none⟩),_,S,_,.inl ?_,.c ?_,by simp[V.aP,C.aP,ins],R'⟩
 . simp_all[execOp,Instr.alloc,zeroValue,typeInfo,newVar,newRow]
 grind[bP,eP]
theorem atv (R:Rel aG nt φ S env J n a w){o:Oper}{ty:TypeId}{x:Operand}(aO:o.op= .box ty x){bO:ba}(I:b7 x=some bO)
 {p v J'}(hk:n key=false)(h:a7 (.box bO) env J key=some (p,v,J'))(ar:p):Good P aG nt env J' (ins n key) a v ((execOp a.eval o).run P w):=by
 simp only[a7,bK,bV]at h;obtain⟨⟨fY,gR⟩,cv,cs,eJ,rfl,rfl,rfl⟩:=h;have az:=c4 R I cv ar;obtain⟨c8,ag⟩:=uF az.1 eJ az.2;have R':=R.ajb hk c8 ag ty;refine⟨.pointer (some ⟨w.heap.size,0,none⟩),_,S,_,.inl ?_,.c ?_,by simp[V.aP,C.aP,ins],R'⟩
 . simp[execOp,aO,Instr.box,newVar,newRow]
 grind[bP,eP]
def oo{α:Type}(vs:List α)(off:Nat)(xs:List α):List α:=vs.take off++xs++vs.drop (off+xs.length)
theorem wx{α:Type}{vs:List α}{off:Nat}{xs:List α}(h:off+xs.length<=vs.length)(k:Nat):
 (oo vs off xs)[k]?=if k<off then vs[k]? else if k<off+xs.length then xs[k-off]? else vs[k]?:=by
 unfold oo;by_cases h1:k<off
 . grind
 grind
theorem yg{α:Type}{vs:List α}{off:Nat}{xs:List α}(h:off+xs.length<=vs.length):(oo vs off xs).length=vs.length:=by
 grind[oo]
theorem amr{α:Type}{vs:List α}{off:Nat}{x:α}{xs:List α}(h:off+(x::xs).length<=vs.length):oo (vs.set off x) (off+1) xs=oo vs off (x::xs):=by
 apply Hz
 grind[wx]
theorem amh{w:World}{b:Nat}{vs:List Value}{E:TypeId}(h:w.heap[b]?=some (.cells vs.toArray E (0,0)))(off:Nat)(v:Value):
 (w.setCell ⟨b,off,none⟩ v).heap[b]?=some (.cells (vs.set off v).toArray E (0,0))/\∀bI,bI≠b->(w.setCell ⟨b,off,none⟩ v).heap[bI]?=w.heap[bI]?:=by
 simp_all[World.setCell,WS,eW]
theorem tb{b:Nat}{E:TypeId}:∀(xs:List Value) (off i:Nat) (vs:List Value) (w:World),w.heap[b]?=some (.cells vs.toArray E (0,0))->off+i+xs.length<=vs.length->(∀x,x∈xs->x.oneCell'=true)->
 ∃w',(storeCells ⟨b,off,none⟩ xs i).run P w= .ok () w'/\w'.os=w.os/\w'.tape=w.tape/\w'.output=w.output/\w'.heap.size=w.heap.size/\
  w'.heap[b]?=some (.cells (oo vs (off+i) xs).toArray E (0,0))/\∀bI:Nat,bI≠b->w'.heap[bI]?=w.heap[bI]?
 |[],off,i,vs,w,h,aj,aO=>⟨w,rfl,rfl,rfl,rfl,rfl,by simp[oo,h],λ_ _=>rfl⟩
 |x::xs,off,i,vs,w,h,aj,aO=>by
  have iU:Addr.add ⟨b,off,none⟩ i=⟨b,off+i,none⟩:=by grind[Addr.add]
  have aV:off+i<vs.length:=by grind
  have ay:w.cell? ⟨b,off+i,none⟩=some vs[off+i]:=by rw[nB h];simp
  have aJ:w.frozen? ⟨b,off+i,none⟩=false:=by grind[World.frozen?]
  have hs:=amh h (off+i) x;obtain⟨w',h1,aa,aA,aU,bN,dO,hV⟩:=tb xs off (i+1) _ _ hs.1 (by grind) (λy ao=>aO y (by grind));refine⟨w',?_,aa,aA,aU,by simp_all,?_,λbI ag=>(hV bI ag).trans (hs.2 bI ag)⟩
  . simp_all[storeCells,run_store]
  grind[amr]
theorem bk.fill{α β:Type}{R:α->β->Prop}{cs bc:List α}{vs xs:List β}(h:bk R cs vs)(k:bk R bc xs)(o:Nat):bk R (cs.take o++bc++cs.drop (o+bc.length)) (oo vs o xs):=by
 rw[k.length];exact((h.take o).append k).append (h.drop _)
theorem Sy{cs:List C}{xs:List Value}(h:bk (bP φ w S) cs xs):∀x,x∈xs->x.oneCell'=true:=by
 induction h with
 |nil=>simp
 |cons h _ ih=>
  intro x I;rcases fz.1 I with rfl|I
  . exact bP.oy h
  grind
theorem cy.undef:cy φ w S (.bn []) undef:= .bn [] [] rfl (by simp)
theorem AU:∀{cs:List C} {ts:List T} {xs:List Value},toTs cs=some ts->bk (bP φ w S) cs xs->bk (cl w S) ts xs
 |[],ts,xs,h,aC=>by simp[toTs]at h;subst h;cases aC;exact .nil
 |c::cs,ts,xs,h,aC=>by
  simp[toTs,bK,bV]at h;obtain⟨t,ht,YI,hK,rfl⟩:=h;cases aC with
  |cons h1 aa=>
   refine .cons ?_ (AU hK aa);unfold toT at ht;split at ht<;>simp at ht
   . subst ht;exact h1
   . subst ht;obtain⟨a,rfl⟩:=h1;exact cl.slice [] a 0 0 0 0 (λ_ _=>undef) (by simp) (by simp) (by simp) (by simp) (by simp) (by simp)
theorem G0:∀{cs:List C} {ts:List T},toTs cs=some ts->ts.length=cs.length
 |[],ts,h=>by grind[toTs]
 |c::cs,ts,h=>by
  simp[toTs,bK,bV]at h;obtain⟨t,ht,YI,hK,rfl⟩:=h;simp[G0 hK]
theorem Sh{n:Nat->Bool}{cs bc:List C}(h:cs.all (C.aP n)=true)(k:bc.all (C.aP n)=true)(o:Nat):(CE cs o bc).all (C.aP n)=true:=by
 grind[CE]
theorem GD{α:Type}{vs:List α}{p:Nat}{x:α}(h:p<vs.length)(q:Nat):(oo vs (p+0) [x])[q]?=if q=p then some x else vs[q]?:=by
 grind[wx]
theorem Mj{sz i j dk Bt:Nat}(aM:j<sz)(o6:Bt<sz)(h:i*sz+j=dk*sz+Bt):i=dk/\j=Bt:=by
 rcases Nat.lt_trichotomy i dk with c|c|c
 . have:=hj sz (show i+1<=dk from c)
   grind
 . grind
 . have:=hj sz (show dk+1<=i from c)
   grind
theorem Rel.rewrite (R:Rel aG nt φ S env J n a w){b:Nat}{x cH:ck}(cQ:bf J b=some x)(h0:(φ b).2≠0)(hB:cH.aP n=true){w':World}
 (V7:w'.os=w.os)(ht:w'.tape=w.tape)(aO:w'.output=w.output)(hs:w'.heap.size=w.heap.size)(ag:∀bI:Nat,bI≠(φ b).1->w'.heap[bI]?=w.heap[bI]?)
 (fG:jV w S w' S->dU φ w' S b cH):Rel aG nt φ S env (ee J b cH) n a w':=by
 have hblk:=R.b'.blk b x cQ
 have cS:=(R.del b).world _ V7 ht aO (D5 hs.symm) (λk _ hk=>ag k hk) (λk hk=>by
  subst hk;refine⟨hblk.za h0,λk y ao hk=>?_,R.own b x cQ h0⟩;rw[ib]at ao;split at ao
  . grind
  . rename_i b4
    exactλe=>R.b'.inj k b y x ao cQ (eW b4) hk h0 e)
 have m:jV w S w' S:=⟨λ_ _ h=>h,λk j h=>Bq (ag k (λe=>hblk.za h0 j (e▸h))) j⟩
 have eI:=cS.put (R.eX b x cQ).1 hB (fG m) (λ_=>⟨λk y ao b4 hk=>by
  rw[ib]at ao;split at ao
  . grind
  . exact R.b'.inj k b y x ao cQ b4 hk h0,R.own b x cQ h0⟩)
 refine eI.congr λk=>?_
 grind[dX,ib]
theorem aqr (R:Rel aG nt φ S env J n a w){o:Oper}{ty:TypeId}{x y:Operand}(aO:o.op= .store ty x y){k:Nat}(jo:fZ P ty=some k){bO fc:ba}(I:b7 x=some bO)(ao:b7 y=some fc)
 {p v J'}(hk:n key=false)(h:a7 (.store k bO fc) env J key=some (p,v,J'))(ar:p):Good P aG nt env J' (ins n key) a v ((execOp a.eval o).run P w):=by
 simp only [a7,bK,gn] at h;obtain ⟨⟨fY,gR⟩,cv,⟨rM,qT⟩,hA,cs,eJ,hlen,he⟩:= h;simp only at he eJ;have eQ:∀ (blk off:Nat) (xs:List Value) (w':World),a.eval x = .pointer (some ⟨blk,off,none⟩)->(a.eval y).cells.toList = xs->xs.length = k->(storeCells ⟨blk,off,none⟩ xs 0).run P w = .ok () w'->
  (execOp a.eval o).run P w= .ok .skip w':=by
  intro blk off xs w' h1 aa aA aU;have bN:(a.eval y).cells.size=k:=by grind
  simp_all[execOp,Instr.storeAt,Instr.sureAddr,storeVar,oY]
 split at he
 . rename_i b ed;split at he
   . rename_i bc cQ;simp only[gn,fa,fu]at he;obtain⟨hle,rfl,rfl,rfl⟩:=he;have h1:=(c4 R I cv ar.1).1.lg;have kV:=c4 R ao hA ar.2;obtain⟨c8,ag⟩:=uF kV.1 eJ kV.2;obtain⟨h0,vs,E,ab,l7,gv⟩:=R.b'.blk _ _ cQ;have ou:=l7.length
     have mD:(a.eval y).cells.toList.length=k:=by rw[<-c8.length,hlen]
     obtain⟨w',ai,k1,k2,k3,k4,k5,k6⟩:=tb (P:=P) _ ed 0 vs w ab (by omega) (Sy c8);refine⟨undef,φ,S,w',.inr ⟨eQ _ _ _ w' h1 rfl mD ai,rfl⟩,.undef,rfl,Rel.more ?_ λ_ h=>qz h⟩;refine R.rewrite cQ h0 (by simpa[ck.aP]using Sh ((R.eX _ _ cQ).2) ag ed) k1 k2 k3 k4 k6 (λm=>?_);refine⟨h0,_,E,k5,?_,gv⟩
     exact(l7.imp λc v ay ai=>bP.mono m (λ_ _=>rfl) (ik.1 (R.eX _ _ cQ).2 c ay) ai).fill (c8.imp λc v ay ai=>bP.mono m (λ_ _=>rfl) (ik.1 ag c ay) ai) ed
   . rename_i E gA cQ;split at he
     . rename_i c;simp only[fa,fu]at he;obtain⟨rfl,rfl,rfl⟩:=he;have h1:=(c4 R I cv ar.1).1.lg;have kV:=c4 R ao hA ar.2;obtain⟨c8,ag⟩:=uF kV.1 eJ kV.2;obtain⟨h0,⟨MB,zx,ab,V9,FT⟩,gv⟩:=R.b'.blk _ _ cQ;have mD:(a.eval y).cells.toList.length=k:=by rw[<-c8.length,hlen]
       have nN:k=1:=by rw[<-hlen];rfl
       obtain⟨pr,h2⟩:∃pr,(a.eval y).cells.toList=[pr]:=by
        match h:(a.eval y).cells.toList with
        |[pr]=>exact⟨pr,rfl⟩
        |[]=>rw[h]at mD;simp at mD;omega
        |_::_::_=>rw[h]at mD;simp at mD;omega
       obtain⟨w',ai,k1,k2,k3,k4,k5,k6⟩:=tb (P:=P) (a.eval y).cells.toList 1 0 [MB,zx] w (b:=(φ b).1) (E:=E) ab (by rw[h2];simp) (Sy c8);rw[h2]at c8 k5;cases c8 with|cons pU _=>
       have kl:c.aP n=true:=by simpa using ag
       refine⟨undef,φ,S,w',.inr ⟨eQ _ _ _ w' h1 rfl mD ai,rfl⟩,.undef,rfl,Rel.more ?_ λ_ h=>qz h⟩;refine R.rewrite cQ h0 (by simpa[ck.aP]using kl) k1 k2 k3 k4 k6 (λm=>?_);exact⟨h0,⟨MB,pr,k5,V9,bP.mono m (λ_ _=>rfl) kl pU⟩,gv⟩
     . cases he
   grind
 . rename_i b sz i ed;have Xb:∀{c:C} {xs:List Value},bk (bP φ w S) [c] xs->∃x,xs=[x]/\bP φ w S c x:=by
    intro c xs h;cases h with|cons h1 aa=>cases aa;grind
   split at he
   rotate_left
   . rename_i bc cQ;simp only[gn,fa,fu]at he;obtain⟨hle,rfl,rfl,rfl⟩:=he;have h1:=(c4 R I cv ar.1).1.l3;have kV:=c4 R ao hA ar.2;obtain⟨c8,ag⟩:=uF kV.1 eJ kV.2;obtain⟨h0,vs,E,ab,l7,gv⟩:=R.b'.blk _ _ cQ;have ou:=l7.length
     have mD:(a.eval y).cells.toList.length=k:=by rw[<-c8.length,hlen]
     obtain⟨w',ai,k1,k2,k3,k4,k5,k6⟩:=tb (P:=P) _ (i*sz+ed) 0 vs w ab (by omega) (Sy c8);refine⟨undef,φ,S,w',.inr ⟨eQ _ _ _ w' h1 rfl mD ai,rfl⟩,.undef,rfl,Rel.more ?_ λ_ h=>qz h⟩;refine R.rewrite cQ h0 (by simpa[ck.aP]using Sh ((R.eX _ _ cQ).2) ag (i*sz+ed)) k1 k2 k3 k4 k6 (λm=>?_);refine⟨h0,_,E,k5,?_,gv⟩
     exact(l7.imp λc v ay ai=>bP.mono m (λ_ _=>rfl) (ik.1 (R.eX _ _ cQ).2 c ay) ai).fill (c8.imp λc v ay ai=>bP.mono m (λ_ _=>rfl) (ik.1 ag c ay) ai) (i*sz+ed)
   rotate_left
   rotate_left
   . rename_i dp es cQ;split at he
     . rename_i c aAi;have pU:cs=[c]:=by
        unfold Mq at aAi
        grind
       subst pU;obtain⟨rfl,rfl,rfl⟩:=he;obtain⟨eV,e5,rfl,ak,ot⟩:=ar;have h1:=(c4 R I cv eV).1.l3;have kV:=c4 R ao hA e5;obtain⟨c8,ag⟩:=uF kV.1 eJ kV.2;have nN:k=1:=by rw[<-hlen];rfl
       obtain⟨pr,h2,sC⟩:=Xb c8;have nJ:=R.b'.blk _ _ cQ;obtain⟨h0,vs,E,xs,ab,aj,my,mD,FD,eU,hle⟩:=ZH nJ ak;obtain⟨g1,g2,g3,g4,g5⟩:=nJ;obtain⟨sQ,vC,Az,kX,wV,gv⟩:=g5 h0;rw[ab]at Az;cases Az;rw[ni]at hle;have et:i*sz+ed<vs.length:=by omega
       obtain⟨w',ai,k1,k2,k3,k4,k5,k6⟩:=tb (P:=P) [pr] (i*sz+ed) 0 vs w ab (by simp;omega) (λx I=>by rw[ve.1 I];exact bP.oy sC);refine⟨undef,φ,S,w',.inr ⟨eQ _ _ _ w' h1 h2 (by simp[nN]) ai,rfl⟩,.undef,rfl,Rel.more ?_ λ_ h=>qz h⟩;have kl:c.aP n=true:=by simpa using ag
       refine R.rewrite cQ h0 (by simpa[ck.aP]using kl) k1 k2 k3 k4 k6 (λm=>?_);refine⟨⟨g1,g2,g3,g4,ak,by omega⟩,⟨_,E,k5,by rw[yg (by simp;omega)];exact aj,λdk j e t he ht b4=>?_,pr,?_,bP.mono m (λ_ _=>rfl) kl sC⟩,gv⟩
       . obtain⟨v,aF,ai⟩:=wV _ _ _ _ he ht;have u1:j<sz:=by rw[<-g3 _ (hp he)];exact(fv.1 ht).1
         rw[GD et,ah (λe=>b4 (Mj u1 (by omega) e))];exact⟨v,aF,cl.mono m ai⟩
       . rw[GD et,af rfl]
     simp only[bK,fa,fu]at he;obtain⟨ts,hK,rfl,rfl,rfl⟩:=he;obtain⟨eV,e5,rfl,ak,ot⟩:=ar;have h1:=(c4 R I cv eV).1.l3;have kV:=c4 R ao hA e5;obtain⟨c8,ag⟩:=uF kV.1 eJ kV.2;have u6:=AU hK c8;have aAM:=G0 hK;have nJ:=R.b'.blk _ _ cQ
     obtain⟨h0,vs,E,xs,ab,aj,my,mD,FD,eU,hle⟩:=ZH nJ ak;obtain⟨g1,g2,g3,g4,g5⟩:=nJ;obtain⟨sQ,vC,Az,kX,wV,gv⟩:=g5 h0;rw[ab]at Az;cases Az;rw[ni]at hle;have hL:(a.eval y).cells.toList.length=k:=by rw[<-c8.length,hlen]
     obtain⟨w',ai,k1,k2,k3,k4,k5,k6⟩:=tb (P:=P) _ (i*sz+ed) 0 vs w ab (by omega) (Sy c8);have y2:=ai;refine⟨undef,φ,S,w',.inr ⟨eQ _ _ _ w' h1 rfl hL y2,rfl⟩,.undef,rfl,Rel.more ?_ λ_ h=>qz h⟩;refine R.rewrite cQ h0 rfl k1 k2 k3 k4 k6 (λm=>?_)
     refine⟨by simpa using g1,by simpa using g2,?_,g4,λ_=>⟨_,E,k5,by rw[yg (by omega)];exact aj,?_,gv⟩⟩
     . intro e he;rcases QN he with he|rfl
       . exact g3 e he
       . simp;omega
     . intro dk j e t he ht;rw[By,wx (by omega)];rw[QC]at he;by_cases jH:i=dk
       . subst jH;rw[af rfl,af ak]at he;cases he;have lG:=(fv.1 ht).1;simp at lG;have u1:j<sz:=by omega
         have jF:=(wx (vs:=el es i) (off:=ed) (xs:=ts) (by omega) j)
         unfold oo at jF;rw[show ed+ts.length=ed+k by omega]at jF;rw[jF]at ht;by_cases bD:j<ed
         . rw[af bD]at ht;rw[af (by omega),eU j u1];obtain⟨v,aF,ai⟩:=FD.get ht;exact⟨v,aF,cl.mono m ai⟩
         . rw[ah bD]at ht;rw[ah (by omega)];by_cases bJ:j<ed+k
           . rw[af (by omega)]at ht;rw[af (by omega),show i*sz+j-(i*sz+ed)=j-ed by omega];obtain⟨v,aF,ai⟩:=u6.get ht;exact⟨v,aF,cl.mono m ai⟩
           . rw[ah (by omega)]at ht;rw[ah (by omega),eU j u1];obtain⟨v,aF,ai⟩:=FD.get ht;exact⟨v,aF,cl.mono m ai⟩
       . rw[ah jH]at he;obtain⟨v,aF,ai⟩:=wV _ _ _ _ he ht;have u1:j<sz:=by rw[<-g3 _ (hp he)];exact(fv.1 ht).1
         have:dk*sz+j<i*sz+ed\/i*sz+ed+k<=dk*sz+j:=by
          rcases Nat.lt_or_gt_of_ne jH with h|h
          . right;have:=hj sz (show i+1<=dk from h)
            grind
          . left;have:=hj sz (show dk+1<=i from h)
            grind
         rcases this with h|h
         . rw[af h];exact⟨v,aF,cl.mono m ai⟩
         . rw[ah (by omega),ah (by omega)];exact⟨v,aF,cl.mono m ai⟩
   . rename_i dp es i2 iF gA cQ;obtain⟨⟨a1,a2,a3,a4,a5,bx⟩,⟨vs,E,b1,b2,cf,I3,hI,hn⟩,ny⟩:=R.b'.blk _ _ cQ;have ahD:gA.aP n=true:=by simpa[ck.aP]using(R.eX _ _ cQ).2
     have h0:(φ b).2≠0:=by omega
     split at he
     . rename_i c;have nN:k=1:=by rw[<-hlen];rfl
       split at he
       . rename_i jq;subst jq;obtain⟨rfl,rfl,rfl⟩:=he;obtain⟨eV,e5,rfl,rfl⟩:=ar;have h1:=(c4 R I cv eV).1.l3;have kV:=c4 R ao hA e5;obtain⟨c8,ag⟩:=uF kV.1 eJ kV.2;obtain⟨pr,h2,sC⟩:=Xb c8;have et:i*sz+ed<vs.length:=by
          rw[b2];have:=hj sz (show i+1<=(φ b).2 by omega);rw[ni]at this;omega
         obtain⟨w',ai,k1,k2,k3,k4,k5,k6⟩:=tb (P:=P) [pr] (i*sz+ed) 0 vs w b1 (by simp;omega) (λx I=>by rw[ve.1 I];exact bP.oy sC);refine⟨undef,φ,S,w',.inr ⟨eQ _ _ _ w' h1 h2 (by simp[nN]) ai,rfl⟩,.undef,rfl,Rel.more ?_ λ_ h=>qz h⟩;have kl:c.aP n=true:=by simpa using ag
         refine R.rewrite cQ h0 (by simpa[ck.aP]using kl) k1 k2 k3 k4 k6 (λm=>?_);refine⟨⟨a1,a2,a3,a4,a5,bx⟩,⟨_,E,k5,by rw[yg (by simp;omega)];exact b2,λdk j e t he ht b4=>?_,pr,?_,bP.mono m (λ_ _=>rfl) kl sC⟩,ny⟩
         . obtain⟨v,aF,ai⟩:=cf _ _ _ _ he ht b4;have u1:j<sz:=by rw[<-a3 _ (hp he)];exact(fv.1 ht).1
           rw[GD et,ah (λe=>b4 (Mj u1 bx e))];exact⟨v,aF,cl.mono m ai⟩
         . rw[GD et,af rfl]
       . rename_i jq;simp only[bK,fa,fu]at he;obtain⟨t,JI,rfl,rfl,rfl⟩:=he;obtain⟨eV,e5,rfl,ak,ot⟩:=ar;have h1:=(c4 R I cv eV).1.l3;have kV:=c4 R ao hA e5;obtain⟨c8,ag⟩:=uF kV.1 eJ kV.2;obtain⟨pr,h2,sC⟩:=Xb c8;have aAZ:cl w S t pr:=by
          have h1:=AU (cs:=[c]) (ts:=[t]) (xs:=[pr]) (by simp[toTs,JI]) (.cons sC .nil);cases h1 with|cons h _=>grind
         have et:i*sz+ed<vs.length:=by
          have:=hj sz (show i+1<=(φ b).2 by omega);rw[ni]at this;omega
         obtain⟨w',ai,k1,k2,k3,k4,k5,k6⟩:=tb (P:=P) [pr] (i*sz+ed) 0 vs w b1 (by simp;omega) (λx I=>by rw[ve.1 I];exact bP.oy sC);refine⟨undef,φ,S,w',.inr ⟨eQ _ _ _ w' h1 h2 (by simp[nN]) ai,rfl⟩,.undef,rfl,Rel.more ?_ λ_ h=>qz h⟩;refine R.rewrite cQ h0 (by simpa[ck.aP]using ahD) k1 k2 k3 k4 k6 (λm=>?_)
         have PO:es[i]?=some (el es i):=by unfold el;rw[List.getD,gQ ak];rfl
         have ahI:(el es i).length=sz:=a3 _ (hp PO);refine⟨⟨by grind,by simpa using a2,λe he=>?_,a4,by simpa using a5,bx⟩,⟨_,E,k5,by rw[yg (by simp;omega)];exact b2,λdk j e hF he ht b4=>?_,I3,?_,bP.mono m (λ_ _=>rfl) ahD hn⟩,ny⟩
         . rcases QN he with he|rfl
           . exact a3 e he
           . simp;omega
         . rw[GD et];rw[QC]at he;by_cases jH:i=dk
           . subst jH;rw[af rfl,af ak]at he;cases he;have jF:=(wx (vs:=el es i) (off:=ed) (xs:=[t]) (by simp;omega) j)
             unfold oo at jF;rw[show ed+[t].length=ed+k by simp[nN]]at jF;rw[jF]at ht;by_cases bD:j=ed
             . subst bD;rw[ah (by omega),af (by omega),Nat.sub_self]at ht;cases ht;rw[af rfl];exact⟨pr,rfl,cl.mono m aAZ⟩
             . have VN:(el es i)[j]?=some hF:=by
                by_cases bJ:j<ed
                . rwa [af bJ]at ht
                . rwa [ah bJ,ah (by omega)]at ht
               have u1:j<sz:=by rw[<-ahI];exact(fv.1 VN).1
               obtain⟨v,aF,ai⟩:=cf _ _ _ _ PO VN b4;rw[ah (λe=>bD (Mj u1 (by omega) e).2)];exact⟨v,aF,cl.mono m ai⟩
           . rw[ah jH]at he;obtain⟨v,aF,ai⟩:=cf _ _ _ _ he ht b4;have u1:j<sz:=by rw[<-a3 _ (hp he)];exact(fv.1 ht).1
             rw[ah (λe=>jH (Mj u1 (by omega) e).1.symm)];exact⟨v,aF,cl.mono m ai⟩
         . rw[GD et,ah (λe=>jq (Mj bx (by omega) e).2.symm)];exact hI
     . cases he
   . cases he
 . cases he
theorem ams:∀(xs:List Value) (k off:Nat) (cs:Array Value),off+k+xs.length<=cs.size->
 (((xs.zipIdx k).foldl (λcs (c,j)=>cs.setIfInBounds (off+j) c) cs):Array Value).toList=oo cs.toList (off+k) xs
 |[],k,off,cs,h=>by simp[oo]
 |x::xs,k,off,cs,h=>by
  rw[List.zipIdx_cons,BE,ams xs _ _ _ (by grind)]
  grind[amr]
theorem YQ{place:Nat->Option (Nat×Nat)}{cells:Array Value}{i:Nat}{v:Value}{r:List (Nat×Value)}{off sz:Nat}(ar:place i=some (off,sz))(h1:v.cells.size=sz)(aa:off+sz<=cells.size):
 Instr.fill place cells ((i,v)::r)=Instr.fill place (oo cells.toList off v.cells.toList).toArray r:=by
 simp only[Instr.fill,ar];rw[ah (by grind)]
 congr 1
 have:=ams v.cells.toList 0 off cells (by grind);rw[<-Array.foldl_toList]
 grind
theorem ami {fs:Array Field}{place:Nat->Option (Nat×Nat)}(R:Rel aG nt φ S env J n a w)
 (kY:∀(j:Nat) f k,fs[j]?=some f->fZ P f.type=some k->place j=some (f.offset,k)):
 ∀{parts:List (Nat×Operand)} {ps:List (Nat×Nat×ba)} {cs:List C} {vs:List Value} {p:Prop} {bc:List C},G4 P fs parts=some ps->sj env cs ps=some (p,bc)->p->
  bk (bP φ w S) cs vs->cs.all (C.aP n)=true->
  ∃us:List Value,Instr.fill place vs.toArray (parts.map λ(i,x)=>(i,a.eval x))=some us.toArray/\bk (bP φ w S) bc us/\bc.all (C.aP n)=true
 |[],ps,cs,vs,p,bc,iC,ag,ar,c8,iV=>by
  grind[G4,sj,Instr.fill]
 |(j,x)::r,ps,cs,vs,p,bc,iC,ag,ar,c8,iV=>by
  simp[G4,bK,bV]at iC;obtain⟨f,aJ,k,hk,bO,I,Xj,JZ,rfl⟩:=iC;simp only[sj,bK,gn,bV]at ag;obtain⟨⟨q,v⟩,az,es,fO,⟨h1,aa⟩,⟨w6,gj⟩,m',rfl,rfl⟩:=ag;have hX:=c4 R I az ar.1;obtain⟨aF,FX⟩:=uF hX.1 fO hX.2;have aj:=c8.length
  have ou:=aF.length;obtain⟨us,aA,aU,bN⟩:=ami R kY JZ m' ar.2 (by exact c8.fill aF _) (Sh iV FX _);simp;rw[YQ (kY j f k aJ hk) (by grind) (by grind)]
  grind
theorem ala{place:Nat->Option (Nat×Nat)}{m:Nat}(R:Rel aG nt φ S env J n a w)(kY:∀j,place j=some (j*m,m)):
 ∀{parts:List (Nat×Operand)} {ps:List (Nat×Nat×ba)} {cs:List C} {vs:List Value} {p:Prop} {bc:List C},GC m parts=some ps->sj env cs ps=some (p,bc)->p->
  bk (bP φ w S) cs vs->cs.all (C.aP n)=true->
  ∃us:List Value,Instr.fill place vs.toArray (parts.map λ(i,x)=>(i,a.eval x))=some us.toArray/\bk (bP φ w S) bc us/\bc.all (C.aP n)=true
 |[],ps,cs,vs,p,bc,iC,ag,ar,c8,iV=>by
  grind[GC,sj,Instr.fill]
 |(j,x)::r,ps,cs,vs,p,bc,iC,ag,ar,c8,iV=>by
  simp[GC,bK,bV]at iC;obtain⟨bO,I,Xj,JZ,rfl⟩:=iC;simp only[sj,bK,gn,bV]at ag;obtain⟨⟨q,v⟩,az,es,fO,⟨h1,aa⟩,⟨w6,gj⟩,m',rfl,rfl⟩:=ag;have hX:=c4 R I az ar.1;obtain⟨aF,FX⟩:=uF hX.1 fO hX.2;have aj:=c8.length;have ou:=aF.length
  obtain⟨us,aA,aU,bN⟩:=ala R kY JZ m' ar.2 (by exact c8.fill aF _) (Sh iV FX _);simp;rw[YQ (kY j) (by grind) (by grind)]
  grind
theorem arf{fs:List Field}(h:∀f,f∈fs->∃k,fZ P f.type=some k):
 ∃ps:List (Nat×Nat),(fs.mapM λf=>do pure (f.offset,<-sizeOf f.type):Sem (List (Nat×Nat))).run P w= .ok ps w/\ps.length=fs.length/\∀(j:Nat) f k,fs[j]?=some f->fZ P f.type=some k->ps[j]?=some (f.offset,k):=by
 induction fs with
 |nil=>simp
 |cons f fs ih=>
  obtain⟨ps,h1,aj,aa⟩:=ih λf aJ=>h f (by grind)
  obtain⟨k,hk⟩:=h f (by simp);refine⟨(f.offset,k)::ps,?_,by grind,?_⟩
  . simp_all[oY]
  grind
theorem aqs (R:Rel aG nt φ S env J n a w){o:Oper}{ty:TypeId}{parts:Array (Nat×Operand)}(aO:o.op= .build ty parts){fs:Array Field}(dI:P.underlying ty=some (.struct fs))(o5:Zg P fs=true)
 {z:List C}(bq:qe P ty=some z){ps:List (Nat×Nat×ba)}(iC:G4 P fs parts.toList=some ps)
 {p v J'}(hk:n key=false)(h:a7 (.build z ps) env J key=some (p,v,J'))(ar:p):Good P aG nt env J' (ins n key) a v ((execOp a.eval o).run P w):=by
 simp only[a7,bV]at h;obtain⟨⟨q,bc⟩,ag,rfl,rfl,rfl⟩:=h;obtain⟨i,fi,ak,pZ,c8,iV⟩:=Df bq
 obtain⟨pl,kY,aEY,aEZ⟩:=arf (P:=P) (w:=w) (fs:=fs.toList) (by
  grind[Zg,Option.isSome_iff_exists])
 have aEX:(fs.mapM λf=>do pure (f.offset,<-sizeOf f.type):Sem _).run P w= .ok pl.toArray w:=by
  simp_all[Array.mapM_eq_mapM_toList]
 obtain⟨us,h1,aa,aA⟩:=ami (place:=(pl.toArray[·]?)) R (λj f k aJ hk=>by grind) iC ag ar c8 iV;refine Good.pure R ?_ (.agg aa) (by grind[V.aP]);simp only[execOp,aO,Instr.build,zeroValue,typeInfo,Sem.run_bind,run_program,Result.andThen_ok,Sem.run_pure,underlying,dI];simp_all
theorem ap2 (R:Rel aG nt φ S env J n a w){o:Oper}{ty:TypeId}{parts:Array (Nat×Operand)}(aO:o.op= .build ty parts){len:Nat}{e:TypeId}(dI:P.underlying ty=some (.array len e)){m:Nat}(hm:fZ P e=some m)
 {z:List C}(bq:qe P ty=some z){ps:List (Nat×Nat×ba)}(iC:GC m parts.toList=some ps)
 {p v J'}(hk:n key=false)(h:a7 (.build z ps) env J key=some (p,v,J'))(ar:p):Good P aG nt env J' (ins n key) a v ((execOp a.eval o).run P w):=by
 simp only[a7,bV]at h;obtain⟨⟨q,bc⟩,ag,rfl,rfl,rfl⟩:=h;obtain⟨i,fi,ak,pZ,c8,iV⟩:=Df bq;obtain⟨us,h1,aa,aA⟩:=ala R (λj=>rfl) iC ag ar c8 iV;refine Good.pure R ?_ (.agg aa) (by grind[V.aP]);have jm:Instr.fill (λi=>some (i*m,m)) fi.cells ((parts.map λ(i,x)=>(i,a.eval x)).toList)=some us.toArray:=by simp_all
 simp at jm;simp[execOp,aO,Instr.build,zeroValue,typeInfo,ak,pZ,underlying,dI,oY hm,jm]
def nw(w:World)(S:dV)(sz:Nat)(es:List (List T))(vs:List Value):Prop:=
 ∀(i j:Nat) e t,es[i]?=some e->e[j]?=some t->∃v,vs[i*sz+j]?=some v/\cl w S t v
theorem Yk{sz:Nat}(R:Rel aG nt φ S env J n a w)(h0:0<sz):
 ∀{parts:List (Nat×Operand)} {ps:List (Nat×ba)} {es:List (List T)} {vs:List Value} {p:Prop} {bc:List (List T)},yz parts=some ps->pJ env sz es ps=some (p,bc)->p->
  (∀e,e∈es->e.length=sz)->vs.length=es.length*sz->nw w S sz es vs->
  ∃us:List Value,Instr.fill (λi=>some (i*sz,sz)) vs.toArray (parts.map λ(i,x)=>(i,a.eval x))=some us.toArray/\(∀e,e∈bc->e.length=sz)/\bc.length=es.length/\us.length=vs.length/\nw w S sz bc us/\(∀u,u∈us->u∈us)
 |[],ps,es,vs,p,bc,iC,ag,ar,b8,aj,ai=>by
  grind[yz,pJ,Instr.fill]
 |(i0,x)::r,ps,es,vs,p,bc,iC,ag,ar,b8,aj,ai=>by
  simp[yz,bK,bV]at iC;obtain⟨bO,I,Xj,JZ,rfl⟩:=iC;simp only[pJ,bK,gn,bV]at ag;obtain⟨⟨q,v⟩,az,cs,eJ,ts,hK,⟨h1,aa⟩,⟨w6,gj⟩,m',rfl,rfl⟩:=ag;have hX:=c4 R I az ar.1;obtain⟨aF,FX⟩:=uF hX.1 eJ hX.2;have u6:=AU hK aF
  have ou:=u6.length;have hle:i0*sz+sz<=vs.length:=by
   have:=hj sz (show i0+1<=es.length from aa)
   grind
  obtain ⟨us,aA,aU,bN,dO,hV,hW⟩:= Yk R h0 JZ m' ar.2 (vs:= oo vs (i0*sz) (a.eval x).cells.toList) (by
   grind) (by grind[yg]) (by
   intro i j e t he ht;rw[wx (by omega)];rw[QC]at he;by_cases jH:i0=i
   . subst jH;rw[af rfl,af aa]at he;cases he;have aM:=(fv.1 ht).1;rw[ah (by simp),af (by omega),show i0*sz+j-i0*sz=j by simp];exact u6.get ht
   . rw[ah jH]at he;have aM:=(fv.1 ht).1;rw[b8 _ (hp he)]at aM;rcases Nat.lt_or_gt_of_ne jH with h|h
     . have:=hj sz (show i0+1<=i from h);rw[ni]at this;rw[ah (by omega),ah (by omega)];exact ai _ _ _ _ he ht
     . have:=hj sz (show i+1<=i0 from h);rw[ni]at this;rw[af (by omega)]
       exact ai _ _ _ _ he ht)
  refine⟨us,?_,aU,by grind,by grind[yg],hV,λ_ h=>h⟩;simp only[p4];rw[YQ rfl (by grind) (by grind)]
  grind
theorem R9{z:Array Value}{sz len:Nat}(bq:z.size=sz)(h0:0<sz)(i j:Nat)(ak:i<len)(aM:j<sz):
 ((Array.range (len*sz)).map (z[· % z.size]!))[i*sz+j]?=z[j]?:=by
 have aV:i*sz+j<len*sz:=by
  have:=hj sz (show i+1<=len from ak)
  grind
 simp_all[BC]
theorem alb {ty:TypeId}{len:Nat}{parts:Array (Nat×Value)}{e:TypeId}(dI:P.underlying ty=some (.slice e)){sz:Nat}(b8:fZ P e=some sz){i:TypeInfo}{fi:Value}(ak:P.info? e=some i)(pZ:i.zero=some fi)
 (h0:sz≠0)(hle:len*sz<=2^24){Z:Array Value}(ay7:Z=(Array.range (len*sz)).map (fi.cells[· % fi.cells.size]!)){us:List Value}(aJ:Instr.fill (λi=>some (i*sz,sz)) Z parts.toList=some us.toArray):
 (Instr.buildSlice ty len parts).run P w= .ok (.slice (some ⟨w.heap.size,0,none⟩) len len) (w.alloc (.cells us.toArray e)):=by
 have aik:¬(len*sz>2^24):=by omega
 have jI:∀w,(zeroValue e).run P w= .ok fi w:=by simp_all[zeroValue,typeInfo]
 by_cases aj:len*sz=0
 . have ay8:Z=#[]:=by grind
   subst ay8;have bw:(Array.map (λx=>(#[]:Array Value)[x%(#[]:Array Value).size]!) (Array.range (len*sz)))=#[]:=by grind
   unfold Instr.buildSlice;simp only[Sem.run_bind,run_underlying dI,Result.andThen_ok,oY b8,ah aik,af aj,Sem.run_pure,bw,aJ];rfl
 . unfold Instr.buildSlice;subst ay7;simp only[Sem.run_bind,run_underlying dI,Result.andThen_ok,oY b8,ah aik,ah aj,Sem.run_pure,jI,aJ];rfl
theorem arc (R:Rel aG nt φ S env J n a w){o:Oper}{ty:TypeId}{len:Nat}{parts:Array (Nat×Operand)}(aO:o.op= .buildSlice ty len parts){e:TypeId}(dI:P.underlying ty=some (.slice e)){sz:Nat}(b8:fZ P e=some sz)
 {z:List C}(bq:qe P e=some z){ps:List (Nat×ba)}(iC:yz parts.toList=some ps)(h0:sz≠0)(gT:z.length=sz)(hle:len*sz<=2^24)
 {p v J'}(hk:n key=false)(h:a7 (.bslice sz len z ps) env J key=some (p,v,J'))(ar:p):Good P aG nt env J' (ins n key) a v ((execOp a.eval o).run P w):=by
 simp only[a7,bK,bV]at h;obtain⟨j9,tA,⟨q,bc⟩,ag,rfl,rfl,rfl⟩:=h;obtain⟨i,fi,ak,pZ,c8,iV⟩:=Df (φ:=φ) (w:=w) (S:=S) (n:=n) bq;have jI:=AU tA c8;have CV:fi.cells.size=sz:=by rw[<-LX,<-c8.length,gT]
 have va:0<sz:=by omega
 have Wu:j9.length=sz:=by grind[G0]
 obtain ⟨us,h1,aa,aA,aU,bN,_⟩:= Yk R va iC ag ar (vs:= ((Array.range (len*sz)).map _).toList) (by
  grind) (by simp) (by
  intro i j e t he ht;have ak:=(fv.1 he).1;simp at ak;have:e=j9:=by
   grind
  subst this;have aM:=(fv.1 ht).1;obtain⟨x,I,ai⟩:=jI.get ht;rw[Mb,R9 CV va i j ak (by omega)]
  grind)
 simp at aA;have Wj:us.length=len*sz:=by grind
 have cS:=R.alloc (.cells us.toArray e);have m:=R.Hk (.cells us.toArray e);have hlen:len<=en:=by
  have:=WQ len va
  grind[en]
 have eI:=cS.pc hk (x:= .arr sz bc) (w.heap.size,len) rfl (by
  simp only[dU,eP];refine⟨by omega,by omega,aa,va,λ_=>⟨us,e,heap_alloc_new,Wj,λi j e t he ht=>?_,λj h=>?_⟩⟩
  . obtain⟨v,aF,ai⟩:=bN i j e t he ht
    grind[cl.mono]
  . have:=R.b'.st _ _ h
    omega) (λ_=>⟨λk y ao h0=>by
     have:=(R.b'.blk k y ao).pg h0
     grind,.inr R.ext.size⟩)
 refine⟨.slice (some ⟨w.heap.size,0,none⟩) len len,_,S,_,.inl ?_,.c ⟨some ⟨w.heap.size,0,none⟩,by simp[eP],by simp[eP],by simp[eP]⟩,by simp[V.aP,C.aP,ins],eI⟩;have jm:Instr.fill (λi=>some (i*sz,sz)) ((Array.range (len*sz)).map (fi.cells[· % fi.cells.size]!)) ((parts.map λ(i,x)=>(i,a.eval x)).toList)=some us.toArray:=by
  rw[Array.toList_map];omega
 simp_all[alb,execOp,Sem.run_bind,Result.andThen_ok]
theorem abj(ma:Nat):∀(r c:Nat),c<=2*ma+192->Builtin.growBy ma r c<=2*ma+192
 |0,c,h=>h
 |r+1,c,h=>by
  unfold Builtin.growBy;split
  . grind
  . exact abj _ r _ (by omega)
theorem aqe{ma sK:Nat}(h:sK<ma):Builtin.nextslicecap ma sK<=2*ma+192:=by
 grind[Builtin.nextslicecap,abj]
theorem amt(ma:Nat):∀(r c:Nat),c<=ma+ma/4+512->Builtin.growBy ma r c<=ma+ma/4+512
 |0,c,h=>h
 |r+1,c,h=>by
  unfold Builtin.growBy;split
  . grind
  . exact amt _ r _ (by omega)
theorem ao6{ma sK:Nat}(h:sK<ma):Builtin.nextslicecap ma sK<=ma+ma/4+512:=by
 grind[Builtin.nextslicecap,amt]
theorem pK.not{ma sK bytes:Nat}(h:sK<ma)(ay:pK ma bytes):¬(Builtin.nextslicecap ma sK*bytes>2^48):=by
 have a:=hj bytes (aqe h);have b:=hj bytes (ao6 h);rcases ay with ay|ay<;>unfold kJ at ay<;>omega
theorem aqt{α:Type}{p:α->Prop}{l m:List α}(h:∀x,x∈l->p x)(k:∀x,x∈m->p x):∀x,x∈l++m->p x:=by grind
def B'(P:Program)(w:World)(S:dV)(sz:Nat)(v:Value)(bG:List (List T))(b:Option Nat):Prop:=
 (Builtin.lenOf v).run P w= .ok bG.length w/\∃xs:List Value,(Builtin.firstCells sz bG.length v).run P w= .ok xs.toArray w/\xs.length=bG.length*sz/\nw w S sz bG xs/\∀x,x∈xs->x.oneCell'=true
theorem amu{sz k len:Nat}(h0:0<sz)(hk:k<len*sz):k/sz<len/\k%sz<sz/\(k/sz)*sz+k%sz=k:=
 ⟨Nat.div_lt_of_lt_mul (by grind),Nat.mod_lt _ h0,by grind[Nat.div_add_mod]⟩
theorem nw.one{sz:Nat}{bG:List (List T)}{xs:List Value}(h0:0<sz)(b8:∀e,e∈bG->e.length=sz)(aj:xs.length=bG.length*sz)(h:nw w S sz bG xs):∀x,x∈xs->x.oneCell'=true:=by
 intro x I;obtain⟨k,hk,PU⟩:=la I;obtain⟨h1,aa,aA⟩:=amu h0 (by rw[<-aj];omega);have he:=gQ h1;have my:=b8 _ (Hm h1);have ht:(bG[k/sz])[k%sz]?=some _:=gQ (by omega);obtain⟨v,aF,ai⟩:=h _ _ _ _ he ht
 grind[cl.oy]
theorem K7{b o m:Nat}{xs:List Value}(aj:xs.length=m)(h:∀j,j<m->w.cell? ⟨b,o+j,none⟩=xs[j]?):(loadCells ⟨b,o,none⟩ m).run P w= .ok xs.toArray w:=by
 grind[run_loadCells_list,Addr.add]
theorem arh{sz:Nat}(h0:0<sz){bG:List (List T)}{v:Value}(aF:cl w S (.slice bG) v)(b8:∀e,e∈bG->e.length=sz):B' P w S sz v bG none:=by
 obtain⟨a,cap,dp,b,o,f,rfl,na,kn,Wg,aC,ay,ai⟩:=cl.pj aF;refine⟨by rfl,?_⟩;by_cases b4:bG=[]
 . subst b4;refine⟨[],?_,by simp,by intro i j e t he;grind,by simp⟩;cases a with
   |none=>rfl
   |some a=>simp[Builtin.firstCells,loadCells,loadCellsFrom]
 . have CS:dp=sz:=by
    obtain⟨e0,pW⟩:=QM bG b4
    grind
   subst CS;rw[aC b4];have I:((List.range (bG.length*dp)).map λk=>f (k/dp) (k%dp)).length=bG.length*dp:=by simp
   have k0:nw w S dp bG ((List.range (bG.length*dp)).map λk=>f (k/dp) (k%dp)):=by
    intro i j e t he ht;have ak:=(fv.1 he).1;have aM:=(fv.1 ht).1;rw[b8 _ (hp he)]at aM;have aV:i*dp+j<bG.length*dp:=by
     have:=hj dp (show i+1<=bG.length from ak)
     grind
    simp_all[Nat.add_comm,Nat.add_mul_div_right,Nat.div_eq_of_lt,BC]
   refine⟨_,?_,I,k0,nw.one h0 b8 I k0⟩;refine K7 I ?_
   grind[amu]
theorem ari{sz:Nat}{v:Value}(aF:bP φ w S .aT v):B' P w S sz v [] none:=by
 obtain⟨a,rfl⟩:=aF;refine⟨by rfl,[],?_,by simp,by intro i j e t he;grind,by simp⟩;cases a with
 |none=>rfl
 |some a=>simp[Builtin.firstCells,loadCells,loadCellsFrom]
theorem abk{sz b:Nat}{bG:List (List T)}{v:Value}(eF:dU φ w S b (.arr sz bG))(aF:bP φ w S (.arr b sz 0 bG.length) v):B' P w S sz v bG (some b):=by
 obtain⟨a,rfl,aC,hle⟩:=bP.kd aF;obtain⟨h1,aa,aA,aU,bN⟩:=eF;refine⟨by rfl,?_⟩;by_cases h0:(φ b).2=0
 . have:bG=[]:=rF (by omega);subst this;refine⟨[],?_,by simp,by intro i j e t he;grind,by simp⟩;cases a with
   |none=>rfl
   |some a=>simp[Builtin.firstCells,loadCells,loadCellsFrom]
 . obtain⟨vs,E,ab,aj,ai,_⟩:=bN h0;rw[aC h0];have u2:bG.length*sz<=vs.length:=by simp_all[hj]
   have I:(vs.take (bG.length*sz)).length=bG.length*sz:=by grind
   have k0:nw w S sz bG (vs.take (bG.length*sz)):=by
    intro i j e t he ht;have ak:=(fv.1 he).1;have aV:i*sz+j<bG.length*sz:=by
     have:=hj sz (show i+1<=bG.length from ak)
     grind
    grind
   refine⟨_,?_,I,k0,nw.one aU aA I k0⟩;rw[QK];refine K7 I ?_;intro j aM;rw[kt,nB ab,LY,af aM]
theorem B'.world{sz:Nat}{v:Value}{bG:List (List T)}{b:Option Nat}(h:B' P w S sz v bG b){m:Nat}:∃xs:List Value,xs.length=bG.length*sz/\nw w S sz bG xs/\(∀x,x∈xs->x.oneCell'=true):=by
 obtain⟨_,xs,_,h1,aa,aA⟩:=h;grind
theorem alc(z:Array Value)(m:Nat):(Builtin.zeroCells z m).size=m*z.size:=by simp[Builtin.zeroCells]
theorem YA {st yt e qd:TypeId}{i:TypeInfo}{fi:Value}(ec:P.underlying st=some (.slice e))(hh:P.underlying yt=some (.slice qd))(ak:P.info? e=some i)(bq:i.zero=some fi)(AO:fi.cells.size=i.size)
 {base:Option Addr}{sl sc fX:Nat}{y:Value}{xs dW:List Value}(hL:(Builtin.lenOf y).run P w= .ok fX w)
 (I:(Builtin.firstCells i.size sl (.slice base sl sc)).run P w.drew= .ok xs.toArray w.drew)(ao:(Builtin.firstCells i.size fX y).run P w.drew= .ok dW.toArray w.drew)
 (kZ:sc<sl+fX)(na:pK (sl+fX) i.bytes)(kn:sl+fX<=en){tt:TypeId}:
 ∃(iD:Nat) (r:List Value),sl+fX<=iD/\r.length=(iD-(sl+fX))*i.size/\
  (Builtin.append_ #[st,yt] tt #[.slice base sl sc,y]).run P w= .ok (.slice (some ⟨w.heap.size,0,none⟩) (sl+fX) iD) (w.drew.alloc (.cells (xs++dW++r).toArray e)):=by
 have CP:∀w,(sizeOf e).run P w= .ok i.size w:=λw=>by simp[sizeOf,typeInfo,ak]
 have CJ:∀w,(typeInfo e).run P w= .ok i w:=λw=>by simp[typeInfo,ak]
 have hzero:∀w,(zeroValue e).run P w= .ok fi w:=λw=>by simp_all[zeroValue]
 generalize aAc:(Question.appendCap (sl+fX) sc e).cut (w.tape w.drawn (Question.appendCap (sl+fX) sc e))=iD;have V2:sl+fX<=iD:=by grind[Question.cut]
 have h1:¬(sl+fX<=sc):=by omega
 have aa:¬(sl+fX>IntKind.i64.max/\(False\/i.bytes=0)):=by grind[IntKind.max,IntKind.bits,en]
 have aA:=by
  exact na.not kZ
 refine⟨iD,(Builtin.zeroCells fi.cells (iD-(sl+fX))).toList,V2,by grind[alc],?_⟩;have Vx:(choose (.appendCap (sl+fX) sc e)).run P w= .ok iD w.drew:=by simp_all[Question.forced]
 have aR:(xs++dW++(Builtin.zeroCells fi.cells (iD-(sl+fX))).toList).toArray=xs.toArray++dW.toArray++Builtin.zeroCells fi.cells (iD-(sl+fX)):=by simp
 rw[aR];unfold Builtin.append_;simp only[Qw,Qu,Qv,Sem.run_bind,run_underlying ec,run_underlying hh,Result.andThen_ok,CP,Sem.run_pure,dK,dB,hL,ah h1,CJ];rw[ah (by grind)];simp only[Sem.run_bind,Result.andThen_ok,CJ];rw[ah aA]
 simp only[Sem.run_bind,Result.andThen_ok,CJ,Vx,run_askRoom,I,ao,hzero,j7,dc];rfl
theorem Gj {st yt e qd:TypeId}{i:TypeInfo}(ec:P.underlying st=some (.slice e))(hh:P.underlying yt=some (.slice qd))(ak:P.info? e=some i)
 {base:Option Addr}{sl sc fX:Nat}{y:Value}{dW:List Value}(hL:(Builtin.lenOf y).run P w= .ok fX w)(ao:(Builtin.firstCells i.size fX y).run P w= .ok dW.toArray w)(kZ:sl+fX<=sc){w':World}
 (hs:∀cK,base=some cK->(storeCells (cK.add (sl*i.size)) dW 0).run P w= .ok () w') (ag:base=none->w'=w) {tt:TypeId}:
  (Builtin.append_ #[st,yt] tt #[.slice base sl sc,y]).run P w= .ok (.slice base (sl+fX) sc) w':=by
 have CP:∀w,(sizeOf e).run P w= .ok i.size w:=λw=>by simp[sizeOf,typeInfo,ak]
 unfold Builtin.append_;simp only[Qw,Qu,Qv,Sem.run_bind,run_underlying ec,run_underlying hh,Result.andThen_ok,CP,Sem.run_pure,dK,dB,hL];cases base<;>simp_all
theorem nw.append {sz:Nat}{es bG:List (List T)}{xs dW r:List Value}(h0:0<sz)(fO:∀e,e∈es->e.length=sz)(sD:∀e,e∈bG->e.length=sz)(I:xs.length=es.length*sz)(bq:dW.length=bG.length*sz)
 (h1:nw w S sz es xs)(aa:nw w S sz bG dW):nw w S sz (es++bG) (xs++dW++r):=by
 intro i j e t he ht;by_cases ak:i<es.length
 . rw[Hs ak]at he;have aM:=(fv.1 ht).1;rw[fO _ (hp he)]at aM;have:=hj sz (show i+1<=es.length from ak);rw[ni]at this;rw[rI,Hs (by omega)];exact h1 _ _ _ _ he ht
 . rw[L8 (by omega)]at he;have aM:=(fv.1 ht).1;rw[sD _ (hp he)]at aM;have AB:=(fv.1 he).1;have aA:=hj sz (show es.length<=i by omega);have aU:=hj sz (show(i-es.length)+1<=bG.length from AB)
   have bN:(i-es.length)*sz=i*sz-es.length*sz:=Nat.sub_mul _ _ _;rw[ni]at aU;rw[rI,L8 (by omega),Hs (by omega),show i*sz+j-xs.length=(i-es.length)*sz+j by omega];exact aa _ _ _ _ he ht
theorem Rel.drew(R:Rel aG nt φ S env J n a w):Rel aG nt φ S env J n a w.drew:=
 R.world (λ_=>False) rfl rfl rfl (gP _) (λ_ _ _=>rfl) (λ_ h=>h.elim)
theorem GF (R:Rel aG nt φ S env J n a w){y:Operand}{fc:ba}(ao:b7 y=some fc){p:Prop}{v:V}(az:fc.get env=some (p,v))(ar:p){sz:Nat}(h0:0<sz){bG:List (List T)×Option Nat}
 (h:sV J v=some bG)(b8:∀e,e∈bG.1->e.length=sz):B' P w S sz (a.eval y) bG.1 bG.2:=by
 have hX:=(c4 R ao az ar).1;unfold sV at h;split at h
 . cases h;exact arh h0 hX.fy b8
 . cases h;exact ari hX.fy
 . split at h
   . rename_i b aDa aFA aFs _ aFH aD4 cQ;simp at h;obtain⟨⟨h1,rfl,rfl⟩,rfl⟩:=h;subst h1;by_cases b4:aD4=[]
     . subst b4;obtain⟨cx,aF,_⟩:=bP.kd hX.fy;rw[aF];refine⟨by rfl,[],?_,by simp,by intro i j e t he;grind,by simp⟩;cases cx with
       |none=>rfl
       |some a=>simp[Builtin.firstCells,loadCells,loadCellsFrom]
     . have CS:aDa=sz:=by
        obtain⟨e0,pW⟩:=QM _ b4;rw[<-(R.b'.blk _ _ cQ).2.2.1 _ pW,b8 _ pW]
       subst CS;exact abk (R.b'.blk _ _ cQ) hX.fy
   grind
 grind
theorem atw{sz b off len:Nat}{es:List (List T)}{v:Value}(eF:dU φ w S b (.arr sz es))(aF:bP φ w S (.je b sz off len) v)(et:off+len<=es.length):B' P w S sz v ((es.drop off).take len) none:=by
 obtain⟨a,cap,rfl,aC,hle⟩:=aF;obtain⟨h1,aa,aA,aU,bN⟩:=eF;have hL:((es.drop off).take len).length=len:=by grind
 refine⟨by simp[Builtin.lenOf,hL],?_⟩;rw[hL];by_cases h0:len=0
 . subst h0;refine⟨[],?_,by simp,by intro i j e t he;grind,by simp⟩;cases a with
   |none=>rfl
   |some a=>simp[Builtin.firstCells,loadCells,loadCellsFrom]
 . obtain⟨vs,E,ab,aj,ai,_⟩:=bN (by omega);rw[aC h0];have u2:off*sz+len*sz<=vs.length:=by rw[aj,<-ni];exact hj _ (by omega)
   have I:((vs.drop (off*sz)).take (len*sz)).length=len*sz:=by grind
   have b8:∀e,e∈(es.drop off).take len->e.length=sz:=λe he=>aA e (WV (Hv he))
   have k0:nw w S sz ((es.drop off).take len) ((vs.drop (off*sz)).take (len*sz)):=by
    intro i j e t he ht;have ak:i<len:=by grind
    have aV:i*sz+j<len*sz:=by
     have:=hj sz (show i+1<=len from ak)
     grind
    grind
   refine⟨_,?_,I,k0,nw.one aU b8 (by grind) k0⟩;refine K7 I ?_;intro j aM;rw[nB ab,LY,af aM,List.getElem?_drop]
theorem arj (R:Rel aG nt φ S env J n a w){o:Oper}{x y:Operand}{st yt e qd:TypeId}(aO:o.op= .call {callee:= .builtin .append,args:=#[x,y],argTypes:=#[st,yt]})
 (ec:P.underlying st=some (.slice e))(hh:P.underlying yt=some (.slice qd)){i:TypeInfo}(ak:P.info? e=some i)(l9:i.size≠0)
 {bO fc:ba}(I:b7 x=some bO)(ao:b7 y=some fc){fY rM:Prop}{gR qT:V}(cv:bO.get env=some (fY,gR))(hA:fc.get env=some (rM,qT)){r}
 {p v J'}(hw:tV gR qT=some r)(hk:n key=false)(h:EW J key i.size fY rM r=some (p,v,J'))(ar:p):Good P aG nt env J' (ins n key) a v ((execOp a.eval o).run P w):=by
 have eQ:∀r w',(Builtin.append_ #[st,yt] o.type #[a.eval x,a.eval y]).run P w= .ok r w'->(execOp a.eval o).run P w= .ok (.value r) w':=by
  intro r w' ai;simp[execOp,aO,Go.resolve,invoke,builtin,ai]
 unfold tV at hw;split at hw
 . rename_i b s1 off len bI s2 tL nS;split at hw
   . rename_i pS;subst pS;cases hw;unfold EW at h;dsimp only at h;split at h
     . rename_i p8 es cQ;obtain⟨rfl,rfl,rfl⟩:=h;obtain⟨eV,e5,rfl,rfl,rfl,rfl,nO,e4⟩:=ar;have hX:=c4 R I cv eV;obtain⟨base,h2,Vm,hle⟩:=bP.kd hX.1.fy;have azN:=c4 R ao hA e5;have nJ:=R.b'.blk _ _ cQ;obtain⟨hL,dW,mE,gT,jI,F2⟩:=atw (P:=P) nJ azN.1.fy e4;obtain⟨g1,g2,g3,g4,g5⟩:=nJ
       have Kd:((es.drop tL).take nS).length=nS:=by simp;omega
       rw[Kd]at hL mE gT;rw[Nat.sub_zero]at h2;have kZ:len+nS<=(φ b).2:=by omega
       have h0:0<i.size:=by omega
       have hlen:(es.take len++(es.drop tL).take nS).length=len+nS:=by grind
       have dx:∀c7,c7∈es.take len++(es.drop tL).take nS->c7.length=i.size:=by
        grind
       by_cases eK:(φ b).2=0
       . have l8:len=0:=by omega
         have azX:nS=0:=by omega
         subst l8 azX;have Kf:dW=[]:=rF (by grind);subst Kf;have ai:=Gj (tt:=o.type) ec hh ak (base:=base) (sl:=0) (sc:=(φ b).2) hL mE kZ (w':=w) (λcK _=>by simp[storeCells]) (λ_=>rfl);rw[<-h2]at ai
         have R':=(R.del b).pc hk (x:= .arr i.size (es.take 0++(es.drop tL).take 0)) (0,0) rfl (by simp only[dU,eP];exact⟨by simp,by simp,by simp,h0,by simp⟩) (by simp);refine⟨_,_,S,w,.inl (eQ _ _ ai),.c ?_,by simp[V.aP,C.aP,ins],R'⟩;exact⟨base,by simp[eP,eK,h2],by simp[eP],by simp[eP]⟩
       . obtain⟨vs,E,ab,ou,FY,gv⟩:=g5 eK;have nJ:=R.b'.blk _ _ cQ;have qF:len*i.size+dW.length<=vs.length:=by rw[gT,ou,<-ni];exact hj _ kZ
         obtain⟨w',nd,k1,k2,k3,k4,k5,k6⟩:=tb (P:=P) dW (len*i.size) 0 vs w ab (by omega) F2;rw[By]at k5;have yP:=Vm eK
         have ai:=Gj (tt:=o.type) ec hh ak (base:=base) (sl:=len) (sc:=(φ b).2) hL mE kZ (w':=w') (λcK yO=>by
          grind[Addr.add]) (λwN=>by rw[yP]at wN;cases wN)
         rw[<-h2]at ai
         have cS:=(R.del b).world (w':=w') (λk=>k=(φ b).1) k1 k2 k3 (D5 k4.symm) (λk _ hk=>k6 k hk) (λk hk=>by
          subst hk;refine⟨nJ.za eK,λk y ao hk=>?_,R.own b _ cQ eK⟩;rw[ib]at ao;split at ao
          . cases ao
          . rename_i b4
            exactλe=>R.b'.inj k b y _ ao cQ (eW b4) hk eK e)
         have m:jV w S w' S:=⟨λ_ _ h=>h,λk j h=>Bq (k6 k (λe=>nJ.za eK j (e▸h))) j⟩
         have eI:=cS.pc hk (x:= .arr i.size _) (φ b) rfl (by
          simp only[dU,eP];refine⟨by rw[hlen];exact kZ,by rw[hlen];omega,dx,h0,λ_=>⟨_,E,k5,by rw[yg qF];exact ou,λdk j e t he ht=>?_,gv⟩⟩;have aM:=(fv.1 ht).1;rw[dx _ (hp he)]at aM;rw[wx qF,gT];by_cases bD:dk<len
          . have:=hj i.size (show dk+1<=len from bD);rw[ni]at this;rw[af (by omega)];rw[Hs (by simp;omega),LY,af bD]at he;obtain⟨v,aF,ai⟩:=FY _ _ _ _ he ht;exact⟨v,aF,cl.mono m ai⟩
          . have h1:=hj i.size (show len<=dk by omega);have bJ:dk<len+nS:=by rw[<-hlen];exact(fv.1 he).1
            have:=hj i.size (show dk+1<=len+nS from bJ);rw[ni,ni]at this;rw[ah (by omega),af (by omega)];have aj:(es.take len).length=len:=by simp;omega
            rw[L8 (by omega),aj]at he;have bN:(dk-len)*i.size=dk*i.size-len*i.size:=Nat.sub_mul _ _ _;obtain⟨v,aF,ai⟩:=jI _ _ _ _ he ht;rw[show dk*i.size+j-len*i.size=(dk-len)*i.size+j by omega]
            exact⟨v,aF,cl.mono m ai⟩) (λ_=>⟨λk y ao hk=>by
            rw[ib]at ao;split at ao
            . cases ao
            . rename_i b4
              exact R.b'.inj k b y _ ao cQ (eW b4) hk eK,R.own b _ cQ eK⟩)
         refine⟨_,_,S,w',.inl (eQ _ _ ai),.c ?_,by simp[V.aP,C.aP,ins],eI⟩;exact⟨base,by simp[eP],by simp[eP,yP],by simp[eP];omega⟩
     grind
   grind
 grind
theorem ard (R:Rel aG nt φ S env J n a w){o:Oper}{x y:Operand}{st yt e qd:TypeId}(aO:o.op= .call {callee:= .builtin .append,args:=#[x,y],argTypes:=#[st,yt]})
 (ec:P.underlying st=some (.slice e))(hh:P.underlying yt=some (.slice qd)){i:TypeInfo}(ak:P.info? e=some i)(l9:i.size≠0)(bq:(i.zero.map (·.cells.size))=some i.size)
 {bO fc:ba}(I:b7 x=some bO)(ao:b7 y=some fc)
 {p v J'}(hk:n key=false)(h:a7 (.append e i.size i.bytes bO fc) env J key=some (p,v,J'))(mz:∀q b l,bO.get env≠some (q,.c (.df b l)))(ar:p):Good P aG nt env J' (ins n key) a v ((execOp a.eval o).run P w):=by
 simp only[a7,bK]at h;obtain⟨⟨fY,gR⟩,cv,⟨rM,qT⟩,hA,he⟩:=h;split at he
 . grind[arj]
 rename_i hw;simp only[bK]at he;obtain⟨bG,sD,he⟩:=he;simp only[bV]at bq;obtain⟨fi,pZ,AO⟩:=bq;have h0:0<i.size:=by omega
 have eQ:∀r w',(Builtin.append_ #[st,yt] o.type #[a.eval x,a.eval y]).run P w= .ok r w'->(execOp a.eval o).run P w= .ok (.value r) w':=by
  intro r w' ai;simp[execOp,aO,Go.resolve,invoke,builtin,ai]
 have CM:∀b,w.heap.size<=b->∀j,¬S b j:=λb ag j aN=>by have:=R.b'.st _ _ aN;omega
 split at he
 ·
  obtain⟨rfl,rfl,rfl⟩:=he;obtain⟨eV,e5,wX,na,kn⟩:=ar;obtain⟨base,h2⟩:=(c4 R I cv eV).1.fy;have fe:=GF (P:=P) R ao hA e5 h0 sD wX;by_cases b4:bG.1=[]
  . obtain⟨hL,dW,mE,gT,jI,F2⟩:=fe;rw[b4]at hL mE gT;have Kf:dW=[]:=rF (by simpa using gT);subst Kf;have ai:=Gj (tt:=o.type) ec hh ak (base:=base) (sl:=0) (sc:=0) hL mE (by simp) (w':=w) (λcK _=>by simp[storeCells]) (λ_=>rfl);rw[<-h2]at ai
    have R':=R.pc hk (x:= .arr i.size bG.1) (0,0) rfl (by rw[b4];simp only[dU,eP];exact⟨by simp,by simp,by simp,h0,by simp⟩) (by simp);refine⟨_,_,S,w,.inl (eQ _ _ ai),.c ?_,by simp[V.aP,C.aP,ins],R'⟩;rw[b4];exact⟨base,by simp[eP],by simp[eP],by simp[eP]⟩
  . have cS:=R.drew;obtain⟨hL,_⟩:=fe;obtain⟨_,dW,mE,gT,jI,F2⟩:=GF (P:=P) cS ao hA e5 h0 sD wX;have mA:0<bG.1.length:=Eb.2 b4;have F1:(Builtin.firstCells i.size 0 (.slice base 0 0)).run P w.drew= .ok ([]:List Value).toArray w.drew:=by
     cases base with
     |none=>rfl
     |some a=>simp[Builtin.firstCells,loadCells,loadCellsFrom]
    obtain⟨iD,r,h1,aa,ai⟩:=YA (tt:=o.type) ec hh ak pZ AO hL F1 mE (by omega) (by grind) (by grind);rw[<-h2]at ai;have eI:=cS.alloc (.cells ([]++dW++r).toArray e);have m:=cS.Hk (.cells ([]++dW++r).toArray e)
    have Iv:=eI.pc hk (x:= .arr i.size bG.1) (w.heap.size,iD) rfl (by
     simp only[dU,eP];refine⟨by omega,kn,wX,h0,λ_=>⟨_,e,heap_alloc_new,?_,?_,CM _ (gP _)⟩⟩
     . simp only[fp,rJ,gT,aa,kt,<-ni];congr 1;omega
     . have:=nw.append (S:=S) (w:=w.drew) (r:=r) (es:=[]) (xs:=[]) h0 (by simp) wX (by simp) gT (by intro i j e t he;simp at he) jI;intro dk j c7 t he ht;obtain⟨v,aF,ai⟩:=this dk j c7 t (by simpa using he) ht
       exact⟨v,aF,cl.mono m ai⟩) (λ_=>⟨λk y ao h0=>by
        have:=(R.b'.blk k y ao).pg h0
        omega,.inr R.ext.size⟩)
    refine⟨_,_,S,_,.inl (eQ _ _ ai),.c ?_,by simp[V.aP,C.aP,ins],Iv⟩;exact⟨some ⟨w.heap.size,0,none⟩,by simp[eP],by simp[eP],by simp[eP];omega⟩
 . rename_i b dp off len;split at he
   . rename_i MQ es cQ;split at he
     . grind
     . obtain⟨rfl,rfl,rfl⟩:=he;obtain⟨eV,e5,rfl,rfl,rfl,rfl,wX,na,kn⟩:=ar;have hX:=c4 R I cv eV;have ayZ:=hX.1.fy;obtain⟨base,h2,Vm,hle⟩:=bP.kd ayZ;have fe:=GF (P:=P) R ao hA e5 h0 sD wX;have nJ:=R.b'.blk _ _ cQ;have ayY:=nJ;obtain⟨g1,g2,g3,g4,g5⟩:=ayY;rw[Nat.sub_zero]at h2;rw[kt]at hle
       have aiz:∀c7,c7∈es++bG.1->c7.length=i.size:=aqt g3 wX;by_cases kZ:es.length+bG.1.length<=(φ b).2
       . obtain⟨hL,dW,mE,gT,jI,F2⟩:=fe;by_cases eK:(φ b).2=0
         . have pW:es=[]:=rF (by omega);have AM:bG.1=[]:=rF (by omega);rw[AM]at hL mE gT;have Kf:dW=[]:=rF (by simpa using gT);subst Kf
           have ai:=Gj (tt:=o.type) ec hh ak (base:=base) (sl:=es.length) (sc:=(φ b).2) hL mE (by simp[pW]) (w':=w) (λcK _=>by simp[storeCells]) (λ_=>rfl);rw[<-h2]at ai;have R':=(R.del b).pc hk (x:= .arr i.size (es++bG.1)) (0,0) rfl (by rw[AM,pW];simp only[dU,eP];exact⟨by simp,by simp,by simp,h0,by simp⟩) (by simp)
           refine⟨_,_,S,w,.inl (eQ _ _ ai),.c ?_,by simp[V.aP,C.aP,ins],R'⟩;rw[AM,pW];exact⟨base,by simp[eP,eK],by simp[eP],by simp[eP]⟩
         . obtain⟨vs,E,ab,ou,FY,gv⟩:=g5 eK;have qF:es.length*i.size+dW.length<=vs.length:=by rw[gT,ou,<-ni];exact hj _ kZ
           obtain⟨w',nd,k1,k2,k3,k4,k5,k6⟩:=tb (P:=P) dW (es.length*i.size) 0 vs w ab (by omega) F2;rw[By]at k5;have yP:=Vm eK;rw[QK]at yP
           have ai:=Gj (tt:=o.type) ec hh ak (base:=base) (sl:=es.length) (sc:=(φ b).2) hL mE kZ (w':=w') (λcK yO=>by
            rw[yP]at yO;cases yO;have iU:Addr.add ⟨(φ b).1,0,none⟩ (es.length*i.size)=⟨(φ b).1,es.length*i.size,none⟩:=by unfold Addr.add;split<;>simp_all
            grind) (λag=>by rw[yP]at ag;cases ag)
           rw[<-h2]at ai
           have cS:=(R.del b).world (w':=w') (λk=>k=(φ b).1) k1 k2 k3 (D5 k4.symm) (λk _ hk=>k6 k hk) (λk hk=>by
            subst hk;refine⟨nJ.za eK,λk y ao hk=>?_,R.own b _ cQ eK⟩;rw[ib]at ao;split at ao
            . cases ao
            . rename_i b4
              exactλe=>R.b'.inj k b y _ ao cQ (eW b4) hk eK e)
           have m:jV w S w' S:=⟨λ_ _ h=>h,λk j h=>Bq (k6 k (λe=>nJ.za eK j (e▸h))) j⟩
           have eI:=cS.pc hk (x:= .arr i.size (es++bG.1)) (φ b) rfl (by
            simp only[dU,eP];refine⟨by simp;omega,by simp;omega,aiz,h0,λ_=>⟨_,E,k5,by rw[yg qF];exact ou,?_,gv⟩⟩;intro dk j c7 t he ht;rw[wx qF];by_cases hY:dk<es.length
            . rw[Hs hY]at he;have aM:=(fv.1 ht).1;rw[g3 _ (hp he)]at aM;have:=hj i.size (show dk+1<=es.length from hY);rw[ni]at this;rw[af (by omega)];obtain⟨v,aF,ai⟩:=FY _ _ _ _ he ht;exact⟨v,aF,cl.mono m ai⟩
            . rw[L8 (by omega)]at he;have aM:=(fv.1 ht).1;rw[wX _ (hp he)]at aM;have AB:=(fv.1 he).1;have aA:=hj i.size (show es.length<=dk by omega);have aU:=hj i.size (show(dk-es.length)+1<=bG.1.length from AB)
              have bN:(dk-es.length)*i.size=dk*i.size-es.length*i.size:=Nat.sub_mul _ _ _;rw[ni]at aU;rw[ah (by omega),af (by omega),show dk*i.size+j-es.length*i.size=(dk-es.length)*i.size+j by omega];obtain⟨v,aF,ai⟩:=jI _ _ _ _ he ht
              exact⟨v,aF,cl.mono m ai⟩) (λ_=>⟨λk y ao hk=>by
              rw[ib]at ao;split at ao
              . cases ao
              . rename_i b4
                exact R.b'.inj k b y _ ao cQ (eW b4) hk eK,R.own b _ cQ eK⟩)
           refine⟨_,_,S,w',.inl (eQ _ _ ai),.c ?_,by simp[V.aP,C.aP,ins],eI⟩;exact⟨base,by simp[eP],by simp[eP,yP],by simp[eP];omega⟩
       . have cS:=R.drew;obtain⟨hL,_⟩:=fe;obtain⟨_,dW,mE,gT,jI,F2⟩:=GF (P:=P) cS ao hA e5 h0 sD wX;obtain⟨_,xs,F1,mD,sC,_⟩:=abk (P:=P) (cS.b'.blk _ _ cQ) (c4 cS I cv eV).1.fy;rw[h2]at F1;obtain⟨iD,r,h1,aa,ai⟩:=YA (tt:=o.type) ec hh ak pZ AO hL F1 mE (by omega) na kn;rw[<-h2]at ai
         have eI:=(cS.del b).alloc (.cells (xs++dW++r).toArray e);have m:=cS.Hk (.cells (xs++dW++r).toArray e)
         have Iv:=eI.pc hk (x:= .arr i.size (es++bG.1)) (w.heap.size,iD) rfl (by
          simp only[dU,eP];refine⟨by simp;omega,by simp;omega,aiz,h0,λ_=>⟨_,e,heap_alloc_new,?_,?_,CM _ (gP _)⟩⟩
          . simp only[fp,mD,gT,aa,<-ni];congr 1;omega
          . have:=nw.append (S:=S) (w:=w.drew) (r:=r) h0 g3 wX mD gT sC jI;intro dk j c7 t he ht;obtain⟨v,aF,ai⟩:=this dk j c7 t he ht
            exact⟨v,aF,cl.mono m ai⟩) (λ_=>⟨λk y ao h0=>by
             rw[ib]at ao;split at ao
             . cases ao
             . have:=(R.b'.blk k y ao).pg h0
               omega,.inr R.ext.size⟩)
         refine⟨_,_,S,_,.inl (eQ _ _ ai),.c ?_,by simp[V.aP,C.aP,ins],Iv⟩;exact⟨some ⟨w.heap.size,0,none⟩,by simp[eP],by simp[eP],by simp[eP];omega⟩
   grind
 . exact absurd cv (mz _ _ _)
 grind
theorem aqv{R:T->Value->Prop}:∀{ts:List T} {vs:List Value},bk R ts vs->∀(i j:Nat) e t,(ts.map λt=>[t])[i]?=some e->e[j]?=some t->∃v,vs[i*1+j]?=some v/\R t v:=by
 intro ts vs h i j e t he ht;rw[BB,bV]at he;obtain⟨t0,h0,rfl⟩:=he;cases j with
 |zero=>
  obtain⟨v,aF,ai⟩:=h.get h0
  grind
 |succ j=>grind
theorem aqw (R:Rel aG nt φ S env J n a w){o:Oper}{ty:TypeId}(aO:o.op= .alloc ty){cs:List C}(bq:qe P ty=some cs)(aES:cs.length≠0)(hle:cs.length<=2^24)
 {p v J'}(hk:n key=false)(h:a7 (.allocA cs) env J key=some (p,v,J'))(ar:p):Good P aG nt env J' (ins n key) a v ((execOp a.eval o).run P w):=by
 simp only[a7,bV]at h;obtain⟨ts,hK,rfl,rfl,rfl⟩:=h;obtain⟨i,z,ak,bq,c8,ag⟩:=Df (φ:=φ) (w:=w) (S:=S) (n:=n) bq;have jI:=AU hK c8;have aAM:=G0 hK;have cS:=R.alloc (.cells z.cells.toList.toArray ty);have m:=R.Hk (.cells z.cells.toList.toArray ty);have Wj:=c8.length.symm
 have eI:=cS.pc hk (x:= .arr 1 (ts.map λt=>[t])) (w.heap.size,cs.length) rfl (by
  simp only[dU,eP,p3];refine⟨by omega,by grind[en],?_,by simp,λ_=>⟨z.cells.toList,ty,heap_alloc_new,by omega,λi j e t he ht=>?_,λj h=>?_⟩⟩
  . simp
  . grind[aqv,cl.mono]
  . have:=R.b'.st _ _ h
    omega) (λ_=>⟨λk y ao h0=>by
     have:=(R.b'.blk k y ao).pg h0
     grind,.inr R.ext.size⟩)
 refine⟨.pointer (some ⟨w.heap.size,0,none⟩),_,S,_,.inl ?_,.c ?_,by simp[V.aP,C.aP,ins],eI⟩
 . simp_all[execOp,Instr.alloc,zeroValue,typeInfo,newVar,newRow]
 grind[bP,eP]
theorem ark (R:Rel aG nt φ S env J n a w){o:Oper}{ty:TypeId}{x i:Operand}(aO:o.op= .indexAddr ty x i){k:Nat}{e:TypeId}(dI:P.underlying ty=some (.array k e))(b8:fZ P e=some 1)
 {bO qh:ba}(I:b7 x=some bO)(ak:b7 i=some qh)
 {p v J'}(hk:n key=false)(h:a7 (.idxP k bO qh) env J key=some (p,v,J'))(ar:p):Good P aG nt env J' (ins n key) a v ((execOp a.eval o).run P w):=by
 simp only[a7,bK]at h;obtain⟨⟨fY,gR⟩,cv,⟨pi,tS⟩,ry,he⟩:=h;simp at he;split at he
 . rename_i b kk m;obtain⟨rfl,rfl,rfl⟩:=he;obtain⟨eV,e5,o7,u3⟩:=ar;have az:=c4 R I cv eV;have h1:=az.1.lg;have aa:=(c4 R ak ry e5).1.hM;have iU:Addr.add ⟨(φ b).1,0,none⟩ (m.toNat*1)=⟨(φ b).1,m.toNat*1+0,none⟩:=by
    grind[Addr.add]
   refine Good.pure R (x:= .pointer (some ⟨(φ b).1,m.toNat*1+0,none⟩)) ?_ (.c ?_) (by grind[V.aP,C.aP])
   . have nL:0<=m/\m<k:=⟨o7,by omega⟩
     simp only[execOp,aO,h1,aa,Instr.indexAt,asIntOf,Instr.sureAddr,Sem.run_bind,run_underlying dI,Result.andThen_ok,Sem.run_pure,af nL,oY b8,iU]
   rfl
 grind
theorem arl (R:Rel aG nt φ S env J n a w){o:Oper}{ty:TypeId}{x:Operand}{Gq:IntKind}{m:Int}(aO:o.op= .indexAddr ty x (.const (.int Gq m))){k:Nat}{e:TypeId}(dI:P.underlying ty=some (.array k e))
 (h0:0<=m/\m.toNat<k){s:Nat}(hs:fZ P e=some s){bO:ba}(I:b7 x=some bO)
 {p v J'}(hk:n key=false)(h:a7 (.fldA (m.toNat*s) bO) env J key=some (p,v,J'))(ar:p):Good P aG nt env J' (ins n key) a v ((execOp a.eval o).run P w):=by
 simp only[a7,bK]at h;obtain⟨⟨fY,gR⟩,cv,he⟩:=h;simp at he;have aa:a.eval (.const _)= .int Gq m:=rfl;have nL:0<=m/\m<(k:Int):=⟨h0.1,by omega⟩
 have eQ:∀(b off:Nat),a.eval x= .pointer (some ⟨b,off,none⟩)->(execOp a.eval o).run P w= .ok (.value (.pointer (some ⟨b,off+m.toNat*s,none⟩))) w:=by
  intro b off e;have iU:Addr.add ⟨b,off,none⟩ (m.toNat*s)=⟨b,off+m.toNat*s,none⟩:=by
   grind[Addr.add]
  simp only[execOp,aO,e,aa,Instr.indexAt,asIntOf,Instr.sureAddr,Sem.run_bind,run_underlying dI,Result.andThen_ok,Sem.run_pure,af nL,oY hs,iU]
 split at he<;>simp only[fa,reduceCtorEq]at he
 all_goals
  obtain⟨rfl,rfl,rfl⟩:=he;have az:=c4 R I cv ar;have h1:=az.1.fy
 . exact Good.pure R (eQ _ _ h1) (.c rfl) az.2
 . exact Good.pure R (eQ _ _ h1) (.c (by simp[bP,Nat.add_assoc])) az.2
 . obtain⟨blk,off,f,h1,ab⟩:=h1;exact Good.pure R (eQ _ _ h1) (.c ⟨blk,off,f,by grind,ab⟩) az.2
theorem arn (R:Rel aG nt φ S env J n a w){o:Oper}{ty:TypeId}{x:Operand}{bE ak:Option Operand}(aO:o.op= .slice ty x bE ak none){k:Nat}{e:TypeId}(dI:P.underlying ty=some (.array k e))(b8:fZ P e=some 1)
 {bO:ba}{n3 vI:Option ba}(I:b7 x=some bO)(km:qN bE=some n3)(AA:qN ak=some vI)
 {p v J'}(hk:n key=false)(h:a7 (.slcP k bO n3 vI) env J key=some (p,v,J'))(ar:p):Good P aG nt env J' (ins n key) a v ((execOp a.eval o).run P w):=by
 simp only[a7,bK]at h;obtain⟨⟨fY,gR⟩,cv,⟨pl,l⟩,FM,⟨ajs,h⟩,FL,he⟩:=h;simp at he;split at he
 . rename_i b;obtain⟨rfl,rfl,rfl⟩:=he;obtain⟨eV,e5,y0,h0,h1,aa⟩:=ar;have az:=c4 R I cv eV;have o':=az.1.lg;have aj:=AT R km FM e5;have ab:=AT R AA FL y0;have ag:=RF (P:=P) (w:=w) (isSlice:=false) aj ab h0 h1 aa (gP _);generalize gB:(l.getD 0).toNat=L at*;generalize hH:(h.getD _).toNat=H at*
   have iU:Addr.add ⟨(φ b).1,0,none⟩ (L*1)=⟨(φ b).1,L*1,none⟩:=by
    unfold Addr.add;split
    . grind
    . simp
   refine Good.pure R (x:= .slice (some (if k=L then⟨(φ b).1,0,none⟩else(Addr.add ⟨(φ b).1,0,none⟩ (L*1)))) _ (k-L)) ?_ (.c ⟨_,_,rfl,?_,by omega⟩) (by simpa[V.aP,C.aP]using az.2)
   . simp[execOp,aO,Instr.sliceAt,Instr.sureAddr,underlying,dI,o',ag,oY b8]
   . intro b4;rw[ah (by omega),iU]
 grind
theorem asB{es:List (List T)}{s:List UInt8}(ag:bytesOf es=some s):∀{xs:List Value},(∀(i:Nat) t,es[i]?=some [t]->∃v,xs[i]?=some v/\cl w S t v)->xs.length=es.length->
 ∃aW:List Int,xs=aW.map (Value.int .u8)/\s=aW.map λm=>UInt8.ofNat m.toNat:=by
 induction es generalizing s with
 |nil=>simp_all[bytesOf]
 |cons e es ih=>
  intro xs ai aj;unfold bytesOf at ag;split at ag
  . grind
  . rename_i m r heq;cases heq;simp at ag;obtain⟨s',ko,rfl⟩:=ag;cases xs with
    |nil=>grind
    |cons x xs=>
     obtain⟨v,aF,u6⟩:=ai 0 _ rfl;simp at aF;subst aF;cases u6;obtain⟨aW,rfl,rfl⟩:=ih ko (λi t ak=>by simpa using ai (i+1) t (by grind)) (by grind);exact⟨m::aW,rfl,rfl⟩
  grind
theorem asC(aW:List Int):∀(s:ByteArray),(aW.foldl (λr m=>r.push (UInt8.ofNat m.toNat)) s).data.toList=s.data.toList++aW.map λm=>UInt8.ofNat m.toNat:=by
 induction aW<;>simp_all
theorem al1{es:List (List T)}{s:List UInt8}(ag:bytesOf es=some s):∀(i:Nat) e,es[i]?=some e->∃t,e=[t]:=by
 induction es generalizing s with
 |nil=>simp
 |cons e0 es ih=>
  unfold bytesOf at ag
  grind[bV]
theorem Si {Ep Ct e:TypeId}(hs:P.underlying Ep=some (.slice e))(he:P.underlying e=some (.int .u8))(av:P.underlying Ct=some .string){es:List (List T)}{str:List UInt8}{cK:Option Addr}{len cap b off:Nat}
 (aj:es.length=len)(ag:bytesOf es=some str)(yO:len≠0->cK=some ⟨b,off,none⟩)(ay:∀(i:Nat) t,es[i]?=some [t]->∃v,w.cell? ⟨b,off+i,none⟩=some v/\cl w S t v):
 ∃bs:ByteArray,(convert Ep Ct (.slice cK len cap)).run P w= .ok (.string bs) w/\bs.data.toList=str:=by
 rw[run_convert_bytes_string w _ _ e cK _ _ hs he av];by_cases h0:len=0
 . have fO:es=[]:=rF (by omega);subst fO;simp[bytesOf]at ag;cases cK with
   |none=>simp_all[Conv.bytesToString]
   |some a0=>
    simp_all[run_bytesToString,loadCells,loadCellsFrom]
 . have I:∀i,i<len->∃t v,es[i]?=some [t]/\w.cell? ⟨b,off+i,none⟩=some v/\cl w S t v:=by
    intro i ak;have h1:=gQ (l:=es) (i:=i) (by omega)
    grind[al1]
   have az:∀i,i<len->((List.range len).map λi=>(w.cell? ⟨b,off+i,none⟩).getD undef)[i]?=w.cell? ⟨b,off+i,none⟩:=by grind
   obtain⟨aW,h1,aa⟩:=asB (w:=w) (S:=S) ag (xs:=(List.range len).map λi=>(w.cell? ⟨b,off+i,none⟩).getD undef) (λi t ak=>by grind) (by grind);have aA:=K7 (P:=P) (by simp) (λj aM=>(az j aM).symm);rw[h1]at aA;have aU:=run_bytesToString w _ _ cap aW aA;simp_all[asC]
theorem YB:∀{es:List (List T)} {s:List UInt8},bytesOf es=some s->s.length=es.length
 |[],s,h=>by grind[bytesOf]
 |e::es,s,h=>by
  unfold bytesOf at h;split at h
  . grind
  . rename_i m r heq;cases heq;simp at h;obtain⟨s',ko,rfl⟩:=h;simp[YB ko]
  grind
theorem atx (R:Rel aG nt φ S env J n a w){o:Oper}{Ep Ct e:TypeId}{x:Operand}(aO:o.op= .convert Ep Ct x)(hs:P.underlying Ep=some (.slice e))(he:P.underlying e=some (.int .u8))(av:P.underlying Ct=some .string){bO:ba}(I:b7 x=some bO)
 {p v J'}(hk:n key=false)(h:a7 (.b2s bO) env J key=some (p,v,J'))(ar:p):Good P aG nt env J' (ins n key) a v ((execOp a.eval o).run P w):=by
 simp only[a7,bK,bV,fu]at h;obtain⟨⟨fY,gR⟩,cv,⟨q,str⟩,aE,rfl,rfl,rfl⟩:=h;obtain⟨eV,e5⟩:=ar;have az:=c4 R I cv eV
 suffices ab:∃cK len cap,a.eval x= .slice cK len cap/\str.length<=en/\∃bs:ByteArray,(convert Ep Ct (.slice cK len cap)).run P w= .ok (.string bs) w/\bs.data.toList=str by
  obtain⟨cK,len,cap,h1,aa,bs,aA,aU⟩:=ab;have pT:bs.size<=iQ:=by grind[G8,en,iQ]
  refine Good.pure R (x:= .string bs) ?_ (.c ?_) rfl
  . simp_all[execOp]
  . rw[<-aU];exact .str bs pT
 have P':∀ (b off len:Nat) (es:List (List T)) (cK:Option Addr) (cap:Nat),bf J b = some (.arr 1 es)->off+len<=es.length->bytesOf ((es.drop off).take len) = some str->(len≠0->cK = some ⟨(φ b).1,off*1,none⟩)->((φ b).2≠0\/len = 0)->a.eval x = .slice cK len cap->
  ∃cK len cap,a.eval x= .slice cK len cap/\str.length<=en/\∃bs:ByteArray,(convert Ep Ct (.slice cK len cap)).run P w= .ok (.string bs) w/\bs.data.toList=str:=by
  intro b off len es cK cap ag hle wO yO h0 aF;obtain⟨h1,aa,aA,aU,bN⟩:=R.b'.blk b _ ag;have aj:((es.drop off).take len).length=len:=by grind
  refine⟨cK,len,cap,aF,by grind[YB],?_⟩;refine Si (S:=S) hs he av aj wO yO ?_;intro i t ak;rw[LY]at ak;split at ak
  . rw[List.getElem?_drop]at ak;rcases h0 with h0|h0
    . obtain⟨vs,E,ab,ou,ai,_⟩:=bN h0;obtain⟨v,u7,wW⟩:=ai _ 0 _ t ak rfl
      grind[nB]
    grind
  grind
 dsimp only at aE cv az;unfold vL at aE;split at aE
 . rename_i es;simp only[bV,fu]at aE;obtain⟨s,wO,rfl,rfl⟩:=aE;obtain⟨cK,cap,sz,b,off,f,h1,na,kn,Wg,aC,ay,aF⟩:=cl.pj az.1.fy;refine⟨cK,es.length,cap,h1,by grind[YB],?_⟩;by_cases b4:es=[]
   . subst b4;exact Si (S:=S) (b:=0) (off:=0) hs he av rfl wO (by simp) (by simp)
   . have P6:sz=1:=by
      obtain⟨e0,pW⟩:=QM es b4
      grind[List.mem_iff_getElem?,al1]
     refine Si (S:=S) (b:=b) (off:=off) hs he av rfl wO (λ_=>aC b4) ?_;intro i t ak;exact⟨f i 0,by grind,aF i 0 _ t ak rfl⟩
 . cases aE;obtain⟨cK,h1⟩:=az.1.fy;exact⟨cK,0,0,h1,by simp,Si (S:=S) (es:=[]) (b:=0) (off:=0) hs he av rfl rfl (by simp) (by simp)⟩
 . rename_i b off len;split at aE
   . rename_i es fO;simp only[bV,fu]at aE;obtain⟨s,wO,rfl,rfl⟩:=aE;obtain⟨cK,h1,aC,hle⟩:=bP.kd az.1.fy;by_cases h0:(φ b).2=0
     . exact P' b off len es cK _ fO e5 wO (λh=>by omega) (.inr (by omega)) h1
     . exact P' b off len es cK _ fO e5 wO (λ_=>aC h0) (.inl h0) h1
   . cases aE
 . rename_i b off len;split at aE
   . rename_i es fO;simp only[bV,fu]at aE;obtain⟨s,wO,rfl,rfl⟩:=aE;obtain⟨cK,cap,h1,aC,hle⟩:=az.1.fy;obtain⟨aa,_⟩:=R.b'.blk b _ fO;by_cases h0:len=0
     . exact P' b off len es cK _ fO e5 wO aC (.inr h0) h1
     . exact P' b off len es cK _ fO e5 wO aC (.inl (by omega)) h1
   . cases aE
 . cases aE
end
end
end Go.Proofs.YtklfhpkljddjbaaGreatDoor.Shv
