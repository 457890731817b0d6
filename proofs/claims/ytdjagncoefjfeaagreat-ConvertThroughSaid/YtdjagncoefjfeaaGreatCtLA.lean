/- The library of this proof, part A: an abstract machine for the code of the program, and its soundness. -/
import Derived.LoopN
import Derived.Calls
import Derived.Laws.Sem
import Derived.Laws.World
import Derived.Laws.Cells
import Derived.Below
import Derived.Laws.Strings
import Derived.Laws.StructEq
import Derived.Laws.BytesString

namespace Go.Proofs.YtdjagncoefjfeaaGreat.Shv
set_option linter.all false
abbrev ak:=List UInt8
abbrev ar:=List Int
abbrev a7:=List Nat
section
def ae:=@if_pos
def al:=@if_neg
def bY:=@Bool.false_eq_true
def cq:=@List.length_append
def dS:=@List.getElem?_eq_some_iff
def eG:=@Option.ite_none_right_eq_some
def c5:=@Bool.and_eq_true
def en:=@List.drop_eq_nil_of_le
def dG:=@Option.some.injEq
def b6:=@if_false
def c8:=@Bool.not_true
def e9:=@List.getElem?_eq_getElem
def b5:=@if_true
def eX:=@Nat.mul_le_mul_right
def dk:=@decide_false
def dd:=@decide_true
def e1:=@List.getElem_of_mem
def fp:=@List.mem_of_getElem?
def eT:=@decide_eq_true_eq
def eY:=@List.flatMap_cons
def dV:=@Prod.mk.injEq
def eJ:=@List.mem_cons
def eU:=@Bool.not_false
def d':=@Nat.le_refl
def ju:=@List.eq_nil_of_length_eq_zero
def fK:=@List.all_eq_true
def dW:=@cond_false
def gM:=@of_decide_eq_true
def fS:=@List.nil_append
def e':=@List.mem_map
def gA:=@List.length_cons
def fT:=@List.drop_zero
def et:=@cond_true
def h6:=@List.pairwise_cons
def eu:=@congrArg
def ir:=@List.append_assoc
def gB:=@List.map_cons
def hQ:=@List.mem_append
def ea:=@Ne.symm
def lB:=@List.drop_eq_getElem_cons
def gp:=@Nat.le_trans
def jv:=@List.getD_cons_zero
def kQ:=@Option.map_eq_some_iff
def iu:=@List.length_set
def kR:=@beq_eq_false_iff_ne
def jw:=@List.length_nil
def h7:=@Nat.zero_add
def hR:=@Nat.zero_le
def kS:=@List.contains_nil
def jb:=@Bool.or_false
def km:=@List.length_map
def jX:=@decide_eq_true
def iv:=@Nat.add_mul
def l9:=@Nat.lt_of_lt_of_le
def l':=@List.contains_cons
def ma:=@Int.emod_lt_of_pos
def mb:=@Int.toNat_natCast
def qk:=@List.take_of_length_le
def mc:=@List.length_drop
def oC:=@List.mem_singleton
def me:=@Bool.or_eq_true
def mf:=@Option.map_some
def mg:=@List.append_nil
def mh:=@Option.some.inj
def mi:=@Int.emod_nonneg
def jx:=@beq_iff_eq
def oD:=@List.pairwise_map
def uw:=@Option.bind_eq_some_iff
def r0:=@List.mem_of_mem_take
def oE:=@Nat.mod_eq_of_lt
def oF:=@List.length_take
def wL:=@List.getElem?_append_right
def wM:=@List.getElem?_append_left
def wN:=@List.pairwise_iff_getElem
def mj:=@List.map_nil
def nd:=@Bool.true_and
def r1:=@List.getElem?_map
def ux:=@List.length_pos_iff
def oG:=@List.sum_cons
def r2:=@List.mem_filter
def r3:=@List.map_append
def wO:=@BitVec.ofInt_natCast
def wP:=@Nat.pow_le_pow_right
def Cd:=@List.find?_eq_some_iff_getElem
def uy:=@Bool.not_eq_true'
def wQ:=@List.getD_cons_succ
def Ce:=@Option.ite_none_left_eq_some
def uz:=@List.cons_append
def r4:=@Int.toNat_zero
def yM:=@List.take_append_drop
def uA:=@decide_eq_false
def r5:=@List.all_cons
def Cf:=@Array.getElem?_eq_some_iff
def Cg:=@Int.tdiv_eq_ediv_of_nonneg
def Ch:=@List.exists_mem_of_ne_nil
def Ci:=@List.mem_or_eq_of_mem_set
def yN:=@Bool.or_eq_false_iff
def Cj:=@Array.getElem?_eq_getElem
def Ck:=@List.mem_of_find?_eq_some
def uB:=@List.drop_drop
def wI:=@Option.getD_some
def yA:=@Int.toNat_of_nonneg
def BV:=@List.getElem?_cons_zero
def BW:=@List.getElem?_cons_succ
def BX:=@Int.eq_ofNat_of_zero_le
def yB:=@List.getElem?_take
def oB:=@and_false
def yC:=@BitVec.toNat_ofNat
def yD:=@List.find?_eq_none
def yE:=@List.ext_getElem?
def BY:=@List.getElem?_toArray
def wJ:=@List.nodup_nil
def uv:=@List.sum_nil
def yF:=@List.getElem_mem
def BZ:=@List.getElem?_zipIdx
def B0:=@List.mem_cons_of_mem
def B1:=@List.mem_append_left
def yG:=@Bool.cond_eq_ite
def FR:=@List.getD_eq_getElem?_getD
def B2:=@Array.length_toList
def B3:=@List.flatMap_append
def wK:=@Nat.le_of_eq
def FT:=@List.eq_of_mem_replicate
def FU:=@Option.isSome_iff_exists
def qj:=@and_true
def B4:=@List.mem_cons_self
def FV:=@Nat.le_mul_of_pos_right
def FW:=@decide_eq_false_iff_not
def FX:=@List.filter_cons_of_neg
def FY:=@List.filter_cons_of_pos
def B5:=@List.getElem?_set
def B6:=@List.range'_succ
def B7:=@List.ext_getElem
def rZ:=@true_and
def FZ:=@Array.getElem?_modify
def F0:=@Array.getElem?_toList
def F1:=@Nat.le_of_ble_eq_true
def F2:=@List.mem_of_mem_drop
def yH:=@Nat.add_zero
def yI:=@Nat.mul_comm
def yJ:=@exists_false
def SP:=@List.eq_nil_iff_forall_not_mem
def yK:=@Nat.pow_succ
def F3:=@List.pairwise_append
def B8:=@List.headD_cons
def B9:=@UInt8.toNat_lt
def B':=@Bool.and_true
def F4:=@List.take_add_one
def F5:=@Bool.eq_false_iff
def yL:=@Nat.mod_lt
def Ca:=@Nat.sub_self
def Cb:=@Nat.zero_mul
def F6:=@List.any_eq_true
def Cc:=@Bool.true_or
variable{c:Prop}{α a:Type}{R:α->a->Prop}
theorem fz{h:Decidable c}(a:c:=by omega){α:Sort _}{t e:α}:ite c t e=t:=if_pos a
theorem br{h:Decidable c}(a:c:=by simp;omega){α:Sort _}{t e:α}:ite c t e=t:=if_pos a
theorem hO{h:Decidable c}(a:c:=by simp){α:Sort _}{t e:α}:ite c t e=t:=if_pos a
theorem bB{h:Decidable c}(a:¬c:=by omega){α:Sort _}{t e:α}:ite c t e=e:=if_neg a
theorem b'{h:Decidable c}(a:¬c:=by simp;omega){α:Sort _}{t e:α}:ite c t e=e:=if_neg a
theorem bw{h:Decidable c}(a:¬c:=by simp){α:Sort _}{t e:α}:ite c t e=e:=if_neg a
theorem bz{α:Type _}{b:α}{c:Type _}{x:Option c}{f:c->α}:Option.map f x=some b↔∃a,x=some a/\f a=b:=kQ
theorem bn{α:Type _}{b:α}{c:Type _}{x:Option c}{f:c->Option α}:x.bind f=some b↔∃a,x=some a/\f a=some b:=uw
theorem ao{α:Type _}{b:Type _}(a:α)(f:α->Option b):(some a).bind f=f a:=Option.bind_some ..
theorem aS.{u}{α a:Type u}:(bind:Option α->(α->Option a)->Option a)=Option.bind:=Option.bind_eq_bind
open Go
inductive T where
 |bool (b:Bool)
 |int (k:IntKind)(n:Int)
 |str (s:ak)
 |slice (es:List (List T))
inductive C where
 |t (x:T)
 |ptr (b o:Nat)
 |cJ (b sz i o:Nat)
 |dM (ts:List T)(o:Nat)
 |arr (b sz off len:Nat)
 |fL (b sz off len:Nat)
 |mp (b:Nat)
 |ew (b:Nat)
 |cP (b len:Nat)
 |aA
 |e7
 |e6
 |fn (f:Nat)(caps:a7)
 |dead
inductive V where
 |c (x:C)
 |agg (cs:List C)
 |aY (vs:List V)
inductive bR where
 |box (cs:List C)
 |arr (sz:Nat)(es:List (List T))
 |set (ks:List ak)
 |buf (E:TypeId)(s:ak)
 |b9 (E:TypeId)(c:C)
 |cA (sz:Nat)(es:List (List T))(i o:Nat)(c:C)
abbrev dU:=Nat->Nat->Prop
abbrev dD:=Nat->Nat×Nat
def eF:Nat:=9223372036854775807
def dY:Nat:=281474976710656
inductive cj (w:World)(S:dU):T->Value->Prop
 |bool (b:Bool):cj w S (.bool b) (.bool b)
 |int (k:IntKind) (n:Int):cj w S (.int k n) (.int k n)
 |str (s:ByteArray) (h:s.size<=eF):cj w S (.str s.data.toList) (.string s)
 |slice (es:List (List T)) (a:Option Addr) (cap sz b o:Nat) (f:Nat->Nat->Value)
  (aiG:es.length<=cap) (aiK:es.length<=dY)
  (aiO:∀e,e∈es->e.length=sz)
  (ya:es≠[]->a=some ⟨b,o,none⟩)
  (SE:∀i j,i<es.length->j<sz->S b (o+i*sz+j)/\w.cell? ⟨b,o+i*sz+j,none⟩=some (f i j))
  (SF:∀i j e t,es[i]?=some e->e[j]?=some t->cj w S t (f i j)):
  cj w S (.slice es) (.slice a es.length cap)
structure gr (w:World)(S:dU)(w':World)(bP:dU):Prop where
 sub:∀b j,S b j->bP b j
 cell:∀b j,S b j->w'.cell? ⟨b,j,none⟩=w.cell? ⟨b,j,none⟩
theorem gr.refl(w:World)(S:dU):gr w S w S:=⟨λ_ _ h=>h,λ_ _ _=>rfl⟩
theorem gr.trans{w S w' bP e c}(h:gr w S w' bP)(k:gr w' bP e c):gr w S e c:=
 ⟨λb j a=>k.sub b j (h.sub b j a),λb j a=>(k.cell b j (h.sub b j a)).trans (h.cell b j a)⟩
theorem cj.mono{w S w' bP}(m:gr w S w' bP){t v}(h:cj w S t v):cj w' bP t v:=by
 induction h with
 |bool b=>exact .bool b
 |int k n=>exact .int k n
 |str s h=>exact .str s h
 |slice es a cap sz b o f x y A q c B ih=>
  exact .slice es a _ sz b o f x y A q
   (λi j e p=>⟨m.sub _ _ (c i j e p).1,by rw[m.cell _ _ (c i j e p).1];grind⟩) ih
theorem cj.jc{w S t v}(h:cj w S t v):v.oneCell'=true:=by cases h<;>rfl
def bp(φ:dD)(w:World)(S:dU):C->Value->Prop
 |.t x,v=>cj w S x v
 |.ptr b o,v=>v= .pointer (some ⟨(φ b).1,o,none⟩)
 |.cJ b sz i o,v=>v= .pointer (some ⟨(φ b).1,i*sz+o,none⟩)
 |.dM ts o,v=>∃ (blk off:Nat) (f:Nat->Value),v = .pointer (some ⟨blk,off+o,none⟩)/\
  ∀j t,ts[j]?=some t->S blk (off+j)/\w.cell? ⟨blk,off+j,none⟩=some (f j)/\cj w S t (f j)
 |.arr b sz off len,v=>∃a,v= .slice a len ((φ b).2-off)/\((φ b).2≠0->a=some ⟨(φ b).1,off*sz,none⟩)/\off+len<=(φ b).2
 |.fL b sz off len,v=>∃a cap,v= .slice a len cap/\(len≠0->a=some ⟨(φ b).1,off*sz,none⟩)/\len<=cap
 |.mp b,v=>v= .map (some (φ b).1)
 |.cP b len,v=>len<=(φ b).2/\((φ b).2=0->v= .slice none 0 0)/\((φ b).2≠0->v= .slice (some ⟨(φ b).1,0,none⟩) len (φ b).2)
 |.ew b,v=>∃p,v= .pointer p/\((φ b).2≠0->p=some ⟨(φ b).1,0,none⟩)
 |.aA,v=>∃a,v= .slice a 0 0
 |.e7,v=>v= .pointer none
 |.e6,v=>v= .nilFunc
 |.fn f caps,v=>v= .func (.func f) #[] (caps.map λb=>Value.pointer (some ⟨(φ b).1,0,none⟩)).toArray
 |.dead,v=>v.oneCell'=true
theorem bp.jc{φ w S c v}(h:bp φ w S c v):v.oneCell'=true:=by
 cases c with
 |t x=>exact cj.jc h
 |dM ts o=>obtain⟨_,_,_,rfl,_⟩:=h;rfl
 |arr b sz off len=>obtain⟨_,rfl,_⟩:=h;rfl
 |fL b sz off len=>obtain⟨_,_,rfl,_⟩:=h;rfl
 |ew b=>obtain⟨_,rfl,_⟩:=h;rfl
 |cP b len=>
  by_cases h0:(φ b).2=0
  . rw[h.2.1 h0];rfl
  . rw[h.2.2 h0];rfl
 |aA=>obtain⟨_,rfl⟩:=h;rfl
 |dead=>exact h
 |_=>cases h;rfl
def C.aE(n:Nat->Bool):C->Bool
 |.ptr b _=>n b
 |.cJ b _ _ _=>n b
 |.arr b _ _ _=>n b
 |.fL b _ _ _=>n b
 |.mp b=>n b
 |.ew b=>n b
 |.cP b _=>n b
 |.fn _ caps=>caps.all λb=>n b
 |_=>true
def V.aE(n:Nat->Bool):V->Bool
 |.c x=>x.aE n
 |.agg cs=>cs.all (C.aE n)
 |.aY vs=>V.dF n vs
where V.dF (n:Nat->Bool):List V->Bool
 |[]=>true
 |v::vs=>v.aE n&&V.dF n vs
theorem bp.mono{φ a:dD}{w S w' bP}(m:gr w S w' bP){n:Nat->Bool}(p:∀b,n b=true->a b=φ b){c v}(e:c.aE n=true)(h:bp φ w S c v):bp a w' bP c v:=by
 cases c with
 |t x=>exact cj.mono m h
 |ptr b o=>grind[C.aE,bp]
 |cJ b sz i o=>grind[C.aE,bp]
 |dM ts o=>
  obtain⟨blk,off,f,rfl,aa⟩:=h;exact⟨blk,off,f,rfl,λj t ht=>⟨m.sub _ _ (aa j t ht).1,by rw[m.cell _ _ (aa j t ht).1];grind,cj.mono m (aa j t ht).2.2⟩⟩
 |arr b sz off len=>grind[C.aE,bp]
 |fL b sz off len=>grind[C.aE,bp]
 |mp b=>grind[C.aE,bp]
 |ew b=>grind[C.aE,bp]
 |cP b len=>grind[C.aE,bp]
 |aA=>exact h
 |e7=>exact h
 |e6=>exact h
 |fn f caps=>
  grind[bp,List.map_congr_left,C.aE]
 |dead=>exact h
inductive a' {α β:Type}(R:α->β->Prop):List α->List β->Prop
 |nil:a' R [] []
 |cons {a b l m}:R a b->a' R l m->a' R (a::l) (b::m)
variable{e:Type}
theorem a'.imp{R R':α->e->Prop}{l m}(h:a' R l m)(k:∀a b,a∈l->R a b->R' a b):a' R' l m:=by
 induction h with
 |nil=>exact .nil
 |cons c _ ih=>exact .cons (k _ _ (by simp) c) (ih λa b f=>k a b (by grind))
theorem a'.length{l:List α}{m:List a}(h:a' R l m):l.length=m.length:=by
 induction h<;>grind
theorem a'.get{c:Type}{R:α->c->Prop}{l:List α}{m:List c}(h:a' R l m){i:Nat}{a:α}(e:l[i]?=some a):∃b,m[i]?=some b/\R a b:=by
 induction h generalizing i<;>grind
theorem a'.lC{c:Type}{R:α->c->Prop}:∀{l:List α} {m:List c},l.length=m.length->(∀(i:Nat) a b,l[i]?=some a->m[i]?=some b->R a b)->a' R l m
 |[],[],_,_=>.nil
 |[],_::_,h,_=>by grind
 |_::_,[],h,_=>by grind
 |a::l,b::m,h,k=>.cons (k 0 a b (by rfl) (by rfl)) (a'.lC (by grind) λi x y e f=>k (i+1) x y (by grind) (by grind))
theorem a'.append{R:α->e->Prop}{l a:List α}{m c:List e}(h:a' R l m)(j:a' R a c):a' R (l++a) (m++c):=by
 induction h with
 |nil=>grind
 |cons f _ ih=>exact .cons f ih
theorem a'.drop{l:List α}{m:List a}(h:a' R l m)(k:Nat):a' R (l.drop k) (m.drop k):=by
 induction h generalizing k with
 |nil=>simp;exact .nil
 |cons c ht ih=>cases k with
  |zero=>exact .cons c ht
  |succ k=>grind
theorem a'.take{l:List α}{m:List a}(h:a' R l m)(k:Nat):a' R (l.take k) (m.take k):=by
 induction h generalizing k with
 |nil=>simp;exact .nil
 |cons c _ ih=>cases k with
  |zero=>exact .nil
  |succ k=>exact .cons c (ih k)
inductive cl (φ:dD)(w:World)(S:dU):V->Value->Prop
 |c {x v}:bp φ w S x v->cl φ w S (.c x) v
 |agg {cs vs}:a' (bp φ w S) cs vs->cl φ w S (.agg cs) (.agg vs.toArray)
 |aY (vs:List V) (xs:List Value) (af:vs.length = xs.length) (h:∀ (i:Nat) v x,vs[i]? = some v->xs[i]? = some x->cl φ w S v x):
  cl φ w S (.aY vs) (.tuple xs.toArray)
theorem nZ{n:Nat->Bool}:∀{vs:List V} {i:Nat} {v:V},V.aE.V.dF n vs=true->vs[i]?=some v->v.aE n=true
 |[],_,_,_,h=>by grind
 |x::vs,0,v,a,h=>by grind[V.aE.V.dF]
 |x::vs,i+1,v,a,h=>by simp[V.aE.V.dF]at a;exact nZ a.2 (by simpa using h)
theorem cl.mono{φ j:dD}{w S w' bP}(m:gr w S w' bP){n:Nat->Bool}(f:∀b,n b=true->j b=φ b){x v}(t:V.aE n x=true)(h:cl φ w S x v):cl j w' bP x v:=by
 induction h with
 |c h=>exact .c (bp.mono m f (by grind[V.aE]) h)
 |agg h=>exact .agg (h.imp λa b q o=>bp.mono m f (by grind[V.aE]) o)
 |aY vs xs af h ih=>exact .aY vs xs af λi v x e p=>ih i v x e p (nZ (by grind[V.aE]) e)
end
section
open Go
inductive aR where
 |tmp (t:Nat)
 |const (v:V)
inductive cR where
 |mov (x:aR)
 |pick (c x y:aR)
 |alloc (cs:List C)
 |box (x:aR)
 |build (zero:List C)(parts:List (Nat×Nat×aR))
 |bslice (sz:Nat)(len:Nat)(zero:List C)(parts:List (Nat×aR))
 |load (agg:Bool)(n:Nat)(x:aR)
 |store (n:Nat)(x v:aR)
 |nilCheck (x:aR)
 |bin (op:BinOp)(x y:aR)
 |eqAgg (neg:Bool)(ks:a7)(x y:aR)
 |eqBool (neg:Bool)(x y:aR)
 |eqNil (neg:Bool)(x:aR)
 |not (x:aR)
 |conv (k:IntKind)(x:aR)
 |i2s (x:aR)
 |s2s (x:aR)
 |fldA (off:Nat)(x:aR)
 |fld (agg:Bool)(off n:Nat)(x:aR)
 |idxA (sz:Nat)(x i:aR)
 |idxS (x i:aR)
 |slcS (x:aR)(oA BQ:Option aR)
 |slc (sz:Nat)(x:aR)(oA BQ:Option aR)
 |slc0 (x:aR)
 |allocA (cs:List C)
 |idxP (n:Nat)(x i:aR)
 |idxV (n:Nat)(x i:aR)
 |mslice (sz bytes:Nat)(zero:List C)(x:aR)
 |slcP (n:Nat)(x:aR)(oA BQ:Option aR)
 |b2s (x:aR)
 |allocS (e e8:Nat)
 |bsliceT (e sz len:Nat)(zero:List C)(parts:List (Nat×aR))
 |mkset
 |lkset (x k:aR)
 |upset (x k:aR)
 |appendB (e bytes:Nat)(x y:aR)
 |sdata (x:aR)
 |ustr (e:Nat)(x n:aR)
 |mkfn (f:Nat)(caps:List aR)
 |ext (x:aR)(i:Nat)
 |len (str:Bool)(x:aR)
 |append (sz bytes:Nat)(x y:aR)
 |max2 (x y:aR)
 |min2 (x y:aR)
 |call (f:Nat)(args:List aR)
 |ic (x:aR)(args:List aR)
structure ca where
 dst:Option Nat
 op:cR
 guard:Option (Nat×Bool)
def Cl:Value->Option C
 |.bool b=>some (.t (.bool b))
 |.int k n=>some (.t (.int k n))
 |.string s=>if s.size<=eF then some (.t (.str s.data.toList))else none
 |.slice none 0 0=>some .aA
 |.pointer none=>some .e7
 |.nilFunc=>some .e6
 |.nilIface=>some .dead
 |_=>none
def w0:List Value->Option (List C)
 |[]=>some []
 |v::vs=>(Cl v).bind λc=>(w0 vs).map (c::·)
def Jb:Value->Option V
 |.agg cs=>(w0 cs.toList).map .agg
 |v=>(Cl v).map .c
def bF:Operand->Option aR
 |.tmp t=>some (.tmp t)
 |.const v=>(Jb v).map .const
 |.func f=>some (.const (.c (.fn f [])))
 |.global _=>none
def ng:List Operand->Option (List aR)
 |[]=>some []
 |x::xs=>(bF x).bind λa=>(ng xs).map (a::·)
def kn:Option Operand->Option (Option aR)
 |none=>some none
 |some x=>(bF x).map some
def j3(P:Program)(t:TypeId):Option (List C):=
 (P.info? t).bind λi=>i.zero.bind λz=>w0 z.cells.toList
def pX(P:Program)(t:TypeId):Option Bool:=
 match P.underlying t with
 |some (.struct _)|some (.array _ _)=>some true
 |some _=>some false
 |none=>none
def ev(P:Program)(t:TypeId):Option Nat:=(P.info? t).map (·.size)
def ot(P:Program)(t:TypeId):Option (Bool×Nat):=
 (pX P t).bind λg=>(ev P t).bind λn=>if g=false->n=1 then some (g,n)else none
def hi(P:Program)(f:Nat):Bool:=
 match P.funcs[f]? with
 |some fn=>fn.body.isSome && !(fn.name == "runtime.NumGoroutine")
 |none=>false
def s'(P:Program)(t:TypeId):Option Nat:=
 match P.underlying t with
 |some .bool=>some 0
 |some (.int _)=>some 1
 |some .string=>some 2
 |_=>none
def zS(P:Program):Nat->List Field->Option a7
 |_,[]=>some []
 |i,f::fs=>if f.offset = i/\f.name≠ "_" then (s' P f.type).bind λk=>(zS P (i+1) fs).map (k :: ·) else none
def G4(P:Program)(t:TypeId):Option a7:=
 match P.underlying t with
 |some (.struct fs)=>if P.stoodInHeld t=false/\P.eqGuardType P.depth t=false then zS P 0 fs.toList else none
 |_=>none
def Jd(P:Program)(t:TypeId):Option a7:=
 match P.underlying t with
 |some (.array n e)=>if ev P e=some 1/\P.eqGuardType P.depth t=false then(s' P e).map (List.replicate n)else none
 |_=>none
def Hd(P:Program)(fs:Array Field):Bool:=fs.toList.all λf=>(ev P f.type).isSome
def vO(P:Program)(fs:Array Field):List (Nat×Operand)->Option (List (Nat×Nat×aR))
 |[]=>some []
 |(j,x)::r=>(fs[j]?).bind λf=>(ev P f.type).bind λn=>(bF x).bind λa=>(vO P fs r).map ((f.offset,n,a)::·)
def vV(n:Nat):List (Nat×Operand)->Option (List (Nat×Nat×aR))
 |[]=>some []
 |(j,x)::r=>(bF x).bind λa=>(vV n r).map ((j*n,n,a)::·)
def pS:List (Nat×Operand)->Option (List (Nat×aR))
 |[]=>some []
 |(j,x)::r=>(bF x).bind λa=>(pS r).map ((j,a)::·)
def mR(P:Program)(c:Call):Option cR:=
 match c.callee with
 |.builtin .len=>match c.args.toList,c.argTypes.toList with
  |[x],[t]=>match P.underlying t with
   |some .string=>(bF x).map (.len true)
   |some (.slice _)=>(bF x).map (.len false)
   |_=>none
  |_,_=>none
 |.builtin .append=>match c.args.toList,c.argTypes.toList with
  |[x,y],[t,u]=>match P.underlying t,P.underlying u with
   |some (.slice e),some .string=>(P.info? e).bind λi=>(bF x).bind λa=>(bF y).bind λb=>
    if i.size=1/\(i.zero.map (·.cells.size))=some 1/\(match P.underlying e with|some (.int .u8)=>true|_=>false)=true then some (.appendB e i.bytes a b)else none
   |some (.slice e),some (.slice _)=>(P.info? e).bind λi=>(bF x).bind λa=>(bF y).bind λb=>
    if i.size≠0/\(i.zero.map (·.cells.size))=some i.size then some (.append i.size i.bytes a b)else none
   |_,_=>none
  |_,_=>none
 |.builtin .max=>match c.args.toList with
  |[x,y]=>(bF x).bind λa=>(bF y).map λb=>.max2 a b
  |_=>none
 |.builtin .min=>match c.args.toList with
  |[x,y]=>(bF x).bind λa=>(bF y).map λb=>.min2 a b
  |_=>none
 |.builtin .unsafeSliceData=>match c.args.toList,c.argTypes.toList with
  |[x],[t]=>match P.underlying t with
   |some (.slice e)=>if ev P e=some 1 then(bF x).map .sdata else none
   |_=>none
  |_,_=>none
 |.builtin .unsafeString=>match c.args.toList,c.argTypes.toList with
  |[x,n],[t,_]=>match P.underlying t with
   |some (.pointer e)=>if(match P.underlying e with|some (.int .u8)=>true|_=>false)=true/\ev P e=some 1/\P.cellsOf e=1 then(bF x).bind λa=>(bF n).map λb=>.ustr e a b else none
   |_=>none
  |_,_=>none
 |.value (.func f)=>if hi P f then(ng c.args.toList).map (.call f)else none
 |.value (.tmp t)=>(ng c.args.toList).map (.ic (.tmp t))
 |_=>none
def aaA(P:Program)(t:TypeId):Bool:=
 match P.info? t with
 |some i=>(match i.desc with|.named n _=>n == "strings.Builder" |_=>false)
 |none=>false
def JK:List Value->Bool
 |[.pointer none,.slice none 0 0]=>true
 |_=>false
def Oz(P:Program)(t:TypeId):Bool:=
 match (P.info? t).bind (·.zero)with
 |some z=>JK z.cells.toList
 |none=>false
def zb(P:Program)(t:TypeId):Option Nat:=
 if aaA P t=true/\Oz P t=true then match P.underlying t with
  |some (.struct fs)=>(fs[1]?).bind λf=>match P.underlying f.type with
   |some (.slice e)=>some e
   |_=>none
  |_=>none
 else none
def tK(P:Program)(t:TypeId):Bool:=
 match P.underlying t with
 |some (.map k v)=>(match P.underlying k,P.underlying v with|some .string,some .bool=>true|_,_=>false)&&(match (P.info? v).bind (·.zero)with|some (.bool false)=>true|_=>false)
 |_=>false
def He:Operand->Bool
 |.const (.bool true)=>true
 |_=>false
def G5:Operand->Bool
 |.const (.slice none 0 0)=>true
 |_=>false
def Gj:Operand->Operand->Bool
 |.tmp s,.tmp t=>s==t
 |_,_=>false
def c7(P:Program)(o:Op):Option cR:=
 match o with
 |.move x|.assign x=>(bF x).map .mov
 |.pick c a b=>(bF c).bind λc=>(bF a).bind λa=>(bF b).map λb=>.pick c a b
 |.alloc e=>match zb P e with
  |some e8=>some (.allocS e e8)
  |none=>(j3 P e).bind λcs=>match P.underlying e with
   |some (.array n t)=>if ev P t=some 1/\n=cs.length/\n≠0/\n<=2^24 then some (.allocA cs)else some (.alloc cs)
   |_=>some (.alloc cs)
 |.box _ x=>(bF x).map .box
 |.build t parts=>match P.underlying t with
  |some (.struct fs)=>if Hd P fs then(j3 P t).bind λz=>(vO P fs parts.toList).map λps=>.build z ps else none
  |some (.array _ e)=>(j3 P t).bind λz=>(ev P e).bind λn=>(vV n parts.toList).map λps=>.build z ps
  |_=>none
 |.buildSlice t len parts=>match P.underlying t with
  |some (.slice e)=>(ev P e).bind λn=>(j3 P e).bind λz=>(pS parts.toList).bind λps=>
   if n≠0/\z.length=n/\len*n<=2^24 then some (.bslice n len z ps)else none
  |_=>none
 |.load t a=>(ot P t).bind λg=>(bF a).map λx=>.load g.1 g.2 x
 |.store t a v=>(ev P t).bind λn=>(bF a).bind λx=>(bF v).map λy=>.store n x y
 |.nilCheck x=>(bF x).map .nilCheck
 |.binOp op t x y _=>
  if op= .eql\/op= .neq then match P.underlying t with
   |some (.array _ _)=>(Jd P t).bind λks=>(bF x).bind λa=>(bF y).map λb=>.eqAgg (op== .neq) ks a b
   |some (.struct _)=>(G4 P t).bind λks=>(bF x).bind λa=>(bF y).map λb=>.eqAgg (op== .neq) ks a b
   |some (.slice _)=>if G5 y then(bF x).map (.eqNil (op== .neq))else none
   |some .bool=>(bF x).bind λa=>(bF y).map λb=>.eqBool (op== .neq) a b
   |some (.int _)|some .string=>(bF x).bind λa=>(bF y).map λb=>.bin op a b
   |_=>none
  else(bF x).bind λa=>(bF y).map λb=>.bin op a b
 |.unOp .not _ x=>(bF x).map .not
 |.unOp .neg t x=>match P.underlying t with
  |some (.int k)=>(bF x).map (.bin .sub (.const (.c (.t (.int k 0)))))
  |_=>none
 |.unOp .xor t x=>match P.underlying t with
  |some (.int k)=>(bF x).map (.bin .xor (.const (.c (.t (.int k (if k.signed then -1 else k.max))))))
  |_=>none
 |.convert s d x=>match P.underlying s,P.underlying d with
  |some (.int _),some (.int k)=>(bF x).map (.conv k)
  |some (.int _),some .string=>(bF x).map .i2s
  |some .string,some .string=>(bF x).map .s2s
  |some (.slice e),some .string=>if(match P.underlying e with|some (.int .u8)=>true|_=>false)=true/\ev P e=some 1 then(bF x).map .b2s else none
  |_,_=>none
 |.fieldAddr t x f=>match P.underlying t with
  |some (.struct fs)=>(fs[f]?).bind λj=>(ev P j.type).bind λn=>if n=0 then none else(bF x).map (.fldA j.offset)
  |_=>none
 |.field t x f=>match P.underlying t with
  |some (.struct fs)=>(fs[f]?).bind λj=>(ot P j.type).bind λg=>(bF x).map (.fld g.1 j.offset g.2)
  |_=>none
 |.indexAddr t x i=>match P.underlying t with
  |some (.slice e)=>(ev P e).bind λn=>if n=0 then none else(bF x).bind λa=>(bF i).map λb=>.idxA n a b
  |some (.array n e)=>match i with
   |.const (.int _ m)=>if 0<=m/\m.toNat<n then(ev P e).bind λs=>(bF x).map (.fldA (m.toNat*s))else none
   |i=>if ev P e=some 1 then(bF x).bind λa=>(bF i).map λb=>.idxP n a b else none
  |_=>none
 |.index t x i=>match P.underlying t with
  |some .string=>(bF x).bind λa=>(bF i).map λb=>.idxS a b
  |some (.array n e)=>if ot P e=some (false,1)then(bF x).bind λa=>(bF i).map λb=>.idxV n a b else none
  |_=>none
 |.slice t x q p r=>match P.underlying t with
  |some .string=>if r.isNone then(bF x).bind λa=>(kn q).bind λl=>(kn p).map λh=>.slcS a l h else none
  |some (.slice e)=>match r with
   |none=>(ev P e).bind λn=>if n=0 then none else(bF x).bind λa=>(kn q).bind λl=>(kn p).map λh=>.slc n a l h
   |some (.const (.int _ 0))=>match q,p with
    |none,some (.const (.int _ 0))=>if(ev P e).isSome then(bF x).map .slc0 else none
    |_,_=>none
   |_=>none
  |some (.array n e)=>if r.isNone/\ev P e=some 1 then(bF x).bind λa=>(kn q).bind λl=>(kn p).map λh=>.slcP n a l h else none
  |_=>none
 |.makeFunc (.func f) first caps=>if first.isEmpty then(ng caps.toList).map (.mkfn f)else none
 |.extract x i=>(bF x).map λa=>.ext a i
 |.makeSlice t x y=>match P.underlying t with
  |some (.slice e)=>if Gj x y then(P.info? e).bind λi=>(j3 P e).bind λz=>if i.size≠0/\z.length=i.size then(bF x).map (.mslice i.size i.bytes z)else none else none
  |_=>none
 |.makeMap t none=>if tK P t then some .mkset else none
 |.lookup t x i false=>if tK P t then(bF x).bind λa=>(bF i).map λb=>.lkset a b else none
 |.mapUpdate t m k v=>if tK P t=true/\He v=true then(bF m).bind λa=>(bF k).map λb=>.upset a b else none
 |.call c=>mR P c
 |_=>none
def tx(ops:Array Oper):Option (Nat×Bool)->Option (Option (Nat×Bool))
 |none=>some none
 |some (j,b)=>((ops[j]?).bind (·.dst)).map λd=>some (d,b)
def vi(d:Nat):Operand->Bool
 |.tmp t=>t==d
 |_=>false
def zH(d:Nat):Op->Bool
 |.call c=>match c.callee with
  |.builtin .append=>(c.args.toList.drop 1).any (vi d)
  |.value (.func _)=>c.args.toList.any (vi d)
  |_=>false
 |.build _ ps=>ps.toList.any λp=>vi d p.2
 |.buildSlice _ _ ps=>ps.toList.any λp=>vi d p.2
 |.convert _ _ x=>vi d x
 |.indexAddr _ x _=>vi d x
 |_=>false
def K9(ops:Array Oper)(o:Oper):Bool:=
 match o.dst with
 |some d=>ops.toList.any λq=>zH d q.op
 |none=>false
def vP(P:Program)(a:Bool)(o:Op):Option cR:=
 match o,a with
 |.buildSlice t len parts,true=>match P.underlying t with
  |some (.slice e)=>(ev P e).bind λn=>(j3 P e).bind λz=>(pS parts.toList).bind λps=>
   if n≠0/\z.length=n/\len*n<=2^24 then some (.bsliceT e n len z ps)else none
  |_=>none
 |o,_=>c7 P o
def wz(P:Program)(nt:Nat)(ops:Array Oper)(o:Oper):Option ca:=
 (vP P (K9 ops o) o.op).bind λp=>(tx ops o.guard).bind λg=>
  match o.dst with
  |none=>some ⟨none,p,g⟩
  |some d=>if d<nt then some ⟨some d,p,g⟩else none
def jn(P:Program)(nt:Nat)(ops:Array Oper):List Oper->Option (List ca)
 |[]=>some []
 |o::r=>(wz P nt ops o).bind λa=>(jn P nt ops r).map (a::·)
inductive dz where
 |skip
 |region (ops:List ca)
 |oI (ops:List ca)(gg:List (Nat×Nat))
 |seq (a b:dz)
 |cond (c:aR)(x y:dz)
 |block (id:Nat)(b:dz)
 |loop (b:dz)
 |exit (id:Nat)
 |ret
def cR.neutral:cR->Bool
 |.alloc _|.allocA _|.box _|.bslice .. |.mslice .. |.store .. |.append .. |.call .. |.ic .. |.eqNil .. =>false
 |.allocS .. |.mkset|.upset .. |.appendB .. |.ustr .. =>false
 |_=>true
def cR.h':cR->Bool
 |.alloc _|.allocA _|.b2s _|.box _|.bslice .. |.mslice .. |.store .. |.append .. |.load .. =>true
 |.allocS .. |.mkset|.lkset .. |.upset .. |.appendB .. |.ustr .. |.call .. =>true
 |_=>false
def cR.drawn:cR->Bool
 |.eqNil .. =>false
 |_=>true
def aR.tmps:aR->a7
 |.tmp t=>[t]
 |.const _=>[]
def uu:Option aR->a7
 |none=>[]
 |some x=>x.tmps
def cR.reads:cR->a7
 |.mov x=>x.tmps
 |.pick c x y=>c.tmps++x.tmps++y.tmps
 |.alloc _|.allocA _=>[]
 |.box x=>x.tmps
 |.build _ ps=>ps.flatMap λp=>p.2.2.tmps
 |.bslice _ _ _ ps=>ps.flatMap λp=>p.2.tmps
 |.load _ _ x=>x.tmps
 |.store _ x v=>x.tmps++v.tmps
 |.nilCheck x=>x.tmps
 |.bin _ x y=>x.tmps++y.tmps
 |.eqAgg _ _ x y=>x.tmps++y.tmps
 |.eqBool _ x y=>x.tmps++y.tmps
 |.eqNil _ x=>x.tmps
 |.not x=>x.tmps
 |.conv _ x=>x.tmps
 |.i2s x=>x.tmps
 |.s2s x=>x.tmps
 |.fldA _ x=>x.tmps
 |.fld _ _ _ x=>x.tmps
 |.idxA _ x i=>x.tmps++i.tmps
 |.idxS x i=>x.tmps++i.tmps
 |.slcS x e a=>x.tmps++uu e++uu a
 |.slc _ x e a=>x.tmps++uu e++uu a
 |.slc0 x=>x.tmps
 |.b2s x=>x.tmps
 |.allocS .. |.mkset=>[]
 |.bsliceT _ _ _ _ ps=>ps.flatMap λp=>p.2.tmps
 |.lkset x k=>x.tmps++k.tmps
 |.upset x k=>x.tmps++k.tmps
 |.appendB _ _ x y=>x.tmps++y.tmps
 |.sdata x=>x.tmps
 |.ustr _ x k=>x.tmps++k.tmps
 |.idxP _ x i=>x.tmps++i.tmps
 |.idxV _ x i=>x.tmps++i.tmps
 |.mslice _ _ _ x=>x.tmps
 |.slcP _ x e a=>x.tmps++uu e++uu a
 |.mkfn _ caps=>caps.flatMap aR.tmps
 |.ext x _=>x.tmps
 |.len _ x=>x.tmps
 |.append _ _ x y=>x.tmps++y.tmps
 |.max2 x y=>x.tmps++y.tmps
 |.min2 x y=>x.tmps++y.tmps
 |.call _ args=>args.flatMap aR.tmps
 |.ic x args=>x.tmps++args.flatMap aR.tmps
def ca.rd(o:ca):a7:=o.op.reads++(match o.guard with|none=>[]|some (t,_)=>[t])
def hl(o:Oper):a7:=(o.after.toList.filter (Region.binds .any)).map (·.on)
def ahead(l:List (ca×a7))(j i:Nat):Bool:=decide (j<i)&&((l[i]?).map λx=>x.2.contains j).getD false
def Ex:Nat->List (ca×a7)->Bool
 |_,[]=>true
 |i,x::r=>x.2.all (· < i)&&Ex (i+1) r
def Tl(l:List (ca×a7)):Bool:=
 l.zipIdx.all λx=>l.zipIdx.all λy=>
  match y.1.1.dst with
  |none=>true
  |some d=>(!(x.1.1.rd.contains d)||ahead l y.2 x.2||(x.1.1.op.neutral && !x.1.1.op.h'&&ahead l x.2 y.2))&&(x.2==y.2 || !(x.1.1.dst==some d))
def nB:List (ca×a7)->List a7->List a7
 |[],acc=>acc
 |x::r,acc=>nB r (acc++[(x.2++x.2.flatMap λe=>acc.getD e []).eraseDups])
def ou(a:List a7)(j i:Nat):Bool:=decide (j<i)&&(a.getD i []).contains j
def Fi(a:List a7)(l:List (ca×a7)):List (Nat×Nat):=
 l.zipIdx.flatMap λx=>if x.1.1.op.neutral then[]else l.zipIdx.filterMap λy=>
  if y.1.1.op.h' && !(x.2==y.2) && !(ou a x.2 y.2) && !(ou a y.2 x.2)then some (x.2,y.2)else none
def lq(l:List (ca×a7)):List (Nat×Nat):=Fi (nB l []) l
def Eg(l:List (ca×a7)):Bool:=(List.range (l.length-1)).all λi=>l.zipIdx.any λy=>decide (i<y.2)&&y.1.2.contains i
def ub(l:List (ca×a7)):Bool:=Ex 0 l&&Tl l&&l.all λx=>x.1.op.drawn
def sF(l:List (ca×a7)):List (Nat×Nat):=
 if decide (2<=l.length)&&Eg l&&ub l.dropLast then(l.length,0)::(lq l++lq l.dropLast)else lq l
def fw(ops:Array Oper)(bb:List ca):List (ca×a7):=bb.zip (ops.toList.map hl)
def resolve(P:Program)(nt:Nat):Code->Option dz
 |.skip=>some .skip
 |.region _ ops d=>(jn P nt ops ops.toList).bind λbb=>
  if d then(if ub (fw ops bb)&&P.follows .mixedOrders then some (.oI bb (sF (fw ops bb)))else none)else some (.region bb)
 |.seq a b=>(resolve P nt a).bind λx=>(resolve P nt b).map λy=>.seq x y
 |.cond c a b=>(bF c).bind λo=>(resolve P nt a).bind λx=>(resolve P nt b).map λy=>.cond o x y
 |.block id b=>(resolve P nt b).map (.block id)
 |.loop b=>(resolve P nt b).map .loop
 |.exit id=>some (.exit id)
 |.ret=>some .ret
 |_=>none
abbrev Env:=List (Nat×Bool×V)
abbrev ba:=List (Nat×bR)
def look:Env->Nat->Option (Bool×V)
 |[],_=>none
 |(k,x)::r,i=>if k=i then some x else look r i
def aX:ba->Nat->Option bR
 |[],_=>none
 |(k,x)::r,i=>if k=i then some x else aX r i
def df:ba->Nat->bR->ba
 |[],b,x=>[(b,x)]
 |(k,y)::r,b,x=>if k=b then(k,x)::r else(k,y)::df r b x
def h9:ba->Nat->ba
 |[],_=>[]
 |(k,y)::r,b=>if k=b then h9 r b else(k,y)::h9 r b
theorem c2(J:ba)(b:Nat)(x:bR)(i:Nat):aX (df J b x) i=if b=i then some x else aX J i:=by
 induction J with
 |nil=>rfl
 |cons y r ih=>
  obtain⟨k,y⟩:=y;by_cases a:k=b
  . grind[df,aX]
  . simp[df,al a,aX];grind
theorem fQ(J:ba)(b:Nat)(i:Nat):aX (h9 J b) i=if b=i then none else aX J i:=by
 induction J with
 |nil=>simp[h9,aX]
 |cons y r ih=>
  obtain⟨k,y⟩:=y;by_cases a:k=b
  . grind[h9,aX]
  . simp[h9,al a,aX];grind
def aR.get(env:Env):aR->Option (Prop×V)
 |.const v=>some (True,v)
 |.tmp t=>(look env t).map λx=>(x.1=true,x.2)
def hN(env:Env):List aR->Option (Prop×List V)
 |[]=>some (True,[])
 |x::xs=>(x.get env).bind λa=>(hN env xs).map λb=>(a.1/\b.1,a.2::b.2)
def jV(env:Env):Option aR->Option (Prop×Option Int)
 |none=>some (True,none)
 |some x=>(x.get env).bind λa=>match a.2 with
  |.c (.t (.int _ n))=>some (a.1,some n)
  |_=>none
def pY:V->Option (List C)
 |.c x=>some [x]
 |.agg cs=>some cs
 |.aY _=>none
def toT:C->Option T
 |.t x=>some x
 |.aA=>some (.slice [])
 |_=>none
def toTs:List C->Option (List T)
 |[]=>some []
 |c::cs=>(toT c).bind λt=>(toTs cs).map (t::·)
def el(es:List (List T))(i:Nat):List T:=es.getD i []
def vc(a:List C)(off:Nat)(cs:List C):List C:=a.take off++cs++a.drop (off+cs.length)
def lr(env:Env):List C->List (Nat×Nat×aR)->Option (Prop×List C)
 |c,[]=>some (True,c)
 |c,(off,n,x):: r=>(x.get env).bind λa=>(pY a.2).bind λcs=>
  if cs.length=n/\off+n<=c.length then(lr env (vc c off cs) r).map λb=>(a.1/\b.1,b.2)else none
def jQ(env:Env)(sz:Nat):List (List T)->List (Nat×aR)->Option (Prop×List (List T))
 |es,[]=>some (True,es)
 |es,(i,x):: r=>(x.get env).bind λa=>(pY a.2).bind λcs=>(toTs cs).bind λts=>
  if ts.length=sz/\i<es.length then(jQ env sz (es.set i ts) r).map λb=>(a.1/\b.1,b.2)else none
def qC:BinOp->T->T->Option (Prop×T)
 |.add,.int k a,.int c b=>if k=c then some (True,.int k (k.wrap (a+b)))else none
 |.sub,.int k a,.int c b=>if k=c then some (True,.int k (k.wrap (a-b)))else none
 |.mul,.int k a,.int c b=>if k=c then some (True,.int k (k.wrap (a*b)))else none
 |.quo,.int k a,.int c b=>if k=c then some (b≠0,.int k (k.wrap (a.tdiv b)))else none
 |.rem,.int k a,.int c b=>if k=c then some (b≠0,.int k (a.tmod b))else none
 |.and,.int k a,.int c b=>if k=c then some (True,.int k (k.wrap (BitVec.ofInt k.bits a &&& BitVec.ofInt k.bits b).toNat))else none
 |.or,.int k a,.int c b=>if k=c then some (True,.int k (k.wrap (BitVec.ofInt k.bits a ||| BitVec.ofInt k.bits b).toNat))else none
 |.xor,.int k a,.int c b=>if k=c then some (True,.int k (k.wrap (BitVec.ofInt k.bits a ^^^ BitVec.ofInt k.bits b).toNat))else none
 |.andNot,.int k a,.int c b=>if k=c then some (True,.int k (k.wrap (BitVec.ofInt k.bits a &&& ~~~ BitVec.ofInt k.bits b).toNat))else none
 |.shl,.int k a,.int _ b=>some (0<=b,.int k (k.wrap (a*2^min b.toNat k.bits)))
 |.shr,.int k a,.int _ b=>some (0<=b,.int k (a.fdiv (2^min b.toNat k.bits)))
 |.eql,.int k a,.int c b=>if k=c then some (True,.bool (decide (a=b)))else none
 |.neq,.int k a,.int c b=>if k=c then some (True,.bool (!decide (a=b)))else none
 |.lss,.int k a,.int c b=>if k=c then some (True,.bool (decide (a<b)))else none
 |.leq,.int k a,.int c b=>if k=c then some (True,.bool (decide (a<=b)))else none
 |.gtr,.int k a,.int c b=>if k=c then some (True,.bool (decide (b<a)))else none
 |.geq,.int k a,.int c b=>if k=c then some (True,.bool (decide (b<=a)))else none
 |.add,.str a,.str b=>some (a.length+b.length<=eF,.str (a++b))
 |.eql,.str a,.str b=>some (True,.bool (decide (a=b)))
 |.neq,.str a,.str b=>some (True,.bool (!decide (a=b)))
 |.lss,.str a,.str b=>some (True,.bool (Op.bytesLess a b))
 |.leq,.str a,.str b=>some (True,.bool (Op.bytesLess a b||decide (a=b)))
 |.gtr,.str a,.str b=>some (True,.bool (!(Op.bytesLess a b||decide (a=b))))
 |.geq,.str a,.str b=>some (True,.bool (!(Op.bytesLess a b)))
 |_,_,_=>none
def BM:Nat->T->T->Option Bool
 |0,.bool a,.bool b=>some (a==b)
 |1,.int k a,.int c b=>if k=c then some (decide (a=b))else none
 |2,.str a,.str b=>some (decide (a=b))
 |_,_,_=>none
def l1:a7->List C->List C->Option Bool
 |[],[],[]=>some true
 |k::ks,.t x::xs,.t y::a=>(BM k x y).bind λb=>(l1 ks xs a).map λr=>b&&r
 |_,_,_=>none
abbrev Bb:=Option (Prop×V×ba)
def loadT(agg:Bool)(n:Nat)(ts:List T)(o:Nat):Option V:=
 if agg then(if o+n<=ts.length then some (.agg (((ts.drop o).take n).map .t))else none)else(ts[o]?).map λt=>.c (.t t)
def jW(agg:Bool)(n:Nat)(cs:List C)(o:Nat):Option V:=
 if agg then(if o+n<=cs.length then some (.agg ((cs.drop o).take n))else none)else(cs[o]?).map .c
def hZ:Nat:=281474976710656
def lP(n bytes:Nat):Prop:=(2*n+192)*bytes<=hZ\/(n+n/4+512)*bytes<=hZ
def mr(J:ba):V->Option (List (List T)×Option Nat)
 |.c (.t (.slice a))=>some (a,none)
 |.c .aA=>some ([],none)
 |.c (.arr b d off len)=>match aX J b with
  |some (.arr e a)=>if d=e/\off=0/\len=a.length then some (a,some b)else none
  |_=>none
 |_=>none
def bytesOf:List (List T)->Option ak
 |[]=>some []
 |[.int .u8 m]::r=>(bytesOf r).map λs=>UInt8.ofNat m.toNat::s
 |_=>none
def nA(J:ba):V->Option (Prop×ak)
 |.c (.t (.slice es))=>(bytesOf es).map λs=>(True,s)
 |.c .aA=>some (True,[])
 |.c (.arr b 1 off len)=>match aX J b with
  |some (.arr 1 es)=>(bytesOf ((es.drop off).take len)).map λs=>(off+len<=es.length,s)
  |_=>none
 |.c (.fL b 1 off len)=>match aX J b with
  |some (.arr 1 es)=>(bytesOf ((es.drop off).take len)).map λs=>(off+len<=es.length,s)
  |_=>none
 |_=>none
def js(ks:List ak)(s:ak):Bool:=ks.any λk=>decide (k=s)
def iN(ks:List ak)(s:ak):List ak:=if js ks s then ks else ks++[s]
def yP:List C->Option C
 |[.arr b sz off len]=>some (.arr b sz off len)
 |_=>none
def oP:V->V->Option (Nat×Nat×Nat×Nat×Nat×Nat×Nat)
 |.c (.arr b sz off len),.c (.fL a f e d)=>if b=a then some (b,sz,off,len,f,e,d)else none
 |_,_=>none
def u0(J:ba)(n sz:Nat)(p q:Prop):Nat×Nat×Nat×Nat×Nat×Nat×Nat->Bb
 |(b,s1,off,len,e,d,a)=>match aX J b with
  |some (.arr f es)=>some (p/\q/\s1 = sz/\e = sz/\f = sz/\off = 0/\len+a<=es.length/\d+a<=es.length,
   .c (.arr n sz 0 (len+a)),df (h9 J b) n (.arr sz (es.take len++(es.drop d).take a)))
  |_=>none
def aQ(o:cR)(env:Env)(J:ba)(n:Nat):Bb:=
 match o with
 |.mov x=>(x.get env).map λa=>(a.1,a.2,J)
 |.pick c x y=>(c.get env).bind λc=>(x.get env).bind λx=>(y.get env).bind λy=>
  match c.2,x.2,y.2 with
  |.c (.t (.bool b)),.c (.t (.bool p)),.c (.t (.bool q))=>
   some (c.1/\(b=true->x.1)/\(b=false->y.1),.c (.t (.bool (bif b then p else q))),J)
  |_,_,_=>none
 |.alloc cs=>some (True,.c (.ptr n 0),df J n (.box cs))
 |.allocA cs=>(toTs cs).map λts=>(True,.c (.ptr n 0),df J n (.arr 1 (ts.map λt=>[t])))
 |.idxP k x i=>(x.get env).bind λa=>(i.get env).bind λj=>match a.2,j.2 with
  |.c (.ptr b 0),.c (.t (.int _ m))=>some (a.1/\j.1/\0<=m/\m.toNat<k,.c (.cJ b 1 m.toNat 0),J)
  |_,_=>none
 |.idxV k x i=>(x.get env).bind λa=>(i.get env).bind λj=>match a.2,j.2 with
  |.agg cs,.c (.t (.int _ m))=>if cs.length=k then some (a.1/\j.1/\0<=m/\m.toNat<k,.c (cs.getD m.toNat .dead),J)else none
  |_,_=>none
 |.mslice sz bytes z x=>(x.get env).bind λa=>(toTs z).bind λD=>match a.2 with
  |.c (.t (.int _ m))=>some (a.1/\0<=m/\m.toNat*bytes<=hZ/\m.toNat<=dY,.c (.arr n sz 0 m.toNat),df J n (.arr sz (List.replicate m.toNat D)))
  |_=>none
 |.slcP k x w A=>(x.get env).bind λa=>(jV env w).bind λl=>(jV env A).bind λh=>match a.2 with
  |.c (.ptr b 0)=>
   let e:=h.2.getD k;let c:=l.2.getD 0
   some (a.1/\l.1/\h.1/\0<=c/\c<=e/\e<=k,.c (.fL b 1 c.toNat (e.toNat-c.toNat)),J)
  |_=>none
 |.b2s x=>(x.get env).bind λa=>(nA J a.2).map λr=>(a.1/\r.1,.c (.t (.str r.2)),J)
 |.box x=>(x.get env).bind λa=>(pY a.2).map λcs=>(a.1,.c (.ptr n 0),df J n (.box cs))
 |.build z parts=>(lr env z parts).map λa=>(a.1,.agg a.2,J)
 |.bslice sz len z parts=>(toTs z).bind λD=>(jQ env sz (List.replicate len D) parts).map λa=>
  (a.1,.c (.arr n sz 0 len),df J n (.arr sz a.2))
 |.load agg k x=>(x.get env).bind λa=>match a.2 with
  |.c (.ptr b o)=>match aX J b with
   |some (.box cs)=>(jW agg k cs o).map λv=>(a.1,v,J)
   |some (.b9 _ c)=>if agg=false/\o=1 then some (a.1,.c c,J)else none
   |_=>none
  |.c (.cJ b sz i o)=>match aX J b with
   |some (.arr g es)=>(loadT agg k (el es i) o).map λv=>(a.1/\sz=g/\i<es.length,v,J)
   |some (.cA g es B C c)=>if agg then none else if o=C then some (a.1/\sz=g/\i=B,.c c,J)else(loadT false k (el es i) o).map λv=>(a.1/\sz=g/\i<es.length,v,J)
   |_=>none
  |.c (.dM ts o)=>(loadT agg k ts o).map λv=>(a.1,v,J)
  |_=>none
 |.store k x v=>(x.get env).bind λa=>(v.get env).bind λd=>(pY d.2).bind λcs=>
  if cs.length=k then match a.2 with
   |.c (.ptr b o)=>match aX J b with
    |some (.box G)=>if o+k<=G.length then some (a.1/\d.1,.aY [],df J b (.box (vc G o cs)))else none
    |some (.b9 e _)=>match o,cs with
     |1,[c]=>some (a.1/\d.1,.aY [],df J b (.b9 e c))
     |_,_=>none
    |_=>none
   |.c (.cJ b sz i o)=>match aX J b with
    |some (.arr g es)=>match yP cs with
     |some c=>some (a.1/\d.1/\sz=g/\i<es.length/\o+k<=sz,.aY [],df J b (.cA g es i o c))
     |none=>(toTs cs).bind λts=>
      some (a.1/\d.1/\sz=g/\i<es.length/\o+k<=sz,.aY [],
       df J b (.arr g (es.set i ((el es i).take o++ts++(el es i).drop (o+k)))))
    |some (.cA g es B C H)=>match cs with
     |[c]=>if o=C then some (a.1/\d.1/\sz=g/\i=B,.aY [],df J b (.cA g es B C c))
      else(toT c).bind λt=>some (a.1/\d.1/\sz=g/\i<es.length/\o+k<=sz,.aY [],
       df J b (.cA g (es.set i ((el es i).take o++[t]++(el es i).drop (o+k))) B C H))
     |_=>none
    |_=>none
   |_=>none
  else none
 |.nilCheck x=>(x.get env).bind λa=>match a.2 with
  |.c (.ptr ..)|.c (.cJ ..)|.c (.dM ..)=>some (a.1,a.2,J)
  |_=>none
 |.bin op x y=>(x.get env).bind λa=>(y.get env).bind λb=>match a.2,b.2 with
  |.c (.t p),.c (.t q)=>(qC op p q).map λr=>(a.1/\b.1/\r.1,.c (.t r.2),J)
  |_,_=>none
 |.eqAgg neg ks x y=>(x.get env).bind λa=>(y.get env).bind λb=>match a.2,b.2 with
  |.agg p,.agg q=>(l1 ks p q).map λr=>(a.1/\b.1,.c (.t (.bool (if neg then !r else r))),J)
  |_,_=>none
 |.eqBool neg x y=>(x.get env).bind λa=>(y.get env).bind λb=>match a.2,b.2 with
  |.c (.t (.bool p)),.c (.t (.bool q))=>some (a.1/\b.1,.c (.t (.bool (if neg then !(p==q)else(p==q)))),J)
  |_,_=>none
 |.not x=>(x.get env).bind λa=>match a.2 with
  |.c (.t (.bool b))=>some (a.1,.c (.t (.bool (!b))),J)
  |_=>none
 |.conv k x=>(x.get env).bind λa=>match a.2 with
  |.c (.t (.int _ m))=>some (a.1,.c (.t (.int k (k.wrap m))),J)
  |_=>none
 |.i2s x=>(x.get env).bind λa=>match a.2 with
  |.c (.t (.int _ m))=>some (a.1,.c (.t (.str (Utf8.encode m).data.toList)),J)
  |_=>none
 |.s2s x=>(x.get env).bind λa=>match a.2 with
  |.c (.t (.str s))=>some (a.1,.c (.t (.str s)),J)
  |_=>none
 |.fldA off x=>(x.get env).bind λa=>match a.2 with
  |.c (.ptr b o)=>some (a.1,.c (.ptr b (o+off)),J)
  |.c (.cJ b sz i o)=>some (a.1,.c (.cJ b sz i (o+off)),J)
  |.c (.dM ts o)=>some (a.1,.c (.dM ts (o+off)),J)
  |_=>none
 |.fld agg off k x=>(x.get env).bind λa=>match a.2 with
  |.agg cs=>(jW agg k cs off).map λv=>(a.1,v,J)
  |_=>none
 |.idxA sz x i=>(x.get env).bind λa=>(i.get env).bind λj=>match a.2,j.2 with
  |.c (.t (.slice es)),.c (.t (.int _ m))=>some (a.1/\j.1/\0<=m/\m.toNat<es.length/\(el es m.toNat).length=sz,.c (.dM (el es m.toNat) 0),J)
  |.c (.arr b g off len),.c (.t (.int _ m))=>some (a.1/\j.1/\0<=m/\m.toNat<len/\sz=g,.c (.cJ b sz (off+m.toNat) 0),J)
  |_,_=>none
 |.idxS x i=>(x.get env).bind λa=>(i.get env).bind λj=>match a.2,j.2 with
  |.c (.t (.str s)),.c (.t (.int _ m))=>some (a.1/\j.1/\0<=m/\m.toNat<s.length,.c (.t (.int .u8 (s.getD m.toNat 0).toNat)),J)
  |_,_=>none
 |.slcS x w A=>(x.get env).bind λa=>(jV env w).bind λl=>(jV env A).bind λh=>match a.2 with
  |.c (.t (.str s))=>
   let b:=h.2.getD s.length;let c:=l.2.getD 0
   some (a.1/\l.1/\h.1/\0<=c/\c<=b/\b<=s.length,.c (.t (.str ((s.take b.toNat).drop c.toNat))),J)
  |_=>none
 |.slc sz x w A=>(x.get env).bind λa=>(jV env w).bind λl=>(jV env A).bind λh=>match a.2 with
  |.c (.t (.slice es))=>
   let b:=h.2.getD es.length;let c:=l.2.getD 0
   some (a.1/\l.1/\h.1/\0<=c/\c<=b/\b<=es.length/\(∀e,e∈es->e.length=sz),.c (.t (.slice ((es.take b.toNat).drop c.toNat))),J)
  |.c (.arr b g off len)=>
   some (a.1/\l.1/\h.1/\0<=l.2.getD 0/\l.2.getD 0<=h.2.getD len/\h.2.getD len<=len/\sz=g,
    .c (if w.isNone then .arr b g off (h.2.getD len).toNat else .fL b g (off+(l.2.getD 0).toNat) ((h.2.getD len).toNat-(l.2.getD 0).toNat)),J)
  |_=>none
 |.slc0 x=>(x.get env).bind λa=>match a.2 with
  |.c (.t (.slice _))|.c .aA|.c (.arr ..)=>some (a.1,.c .aA,J)
  |_=>none
 |.mkfn f caps=>(hN env caps).bind λa=>match sD a.2 with
  |some l=>some (a.1,.c (.fn f l),J)
  |none=>none
 |.ext x i=>(x.get env).bind λa=>match a.2 with
  |.aY vs=>(vs[i]?).map λv=>(a.1,v,J)
  |_=>none
 |.len str x=>(x.get env).bind λa=>match str,a.2 with
  |false,.c (.t (.slice es))=>some (a.1,.c (.t (.int .i64 es.length)),J)
  |false,.c (.arr _ _ _ l)=>some (a.1,.c (.t (.int .i64 l)),J)
  |false,.c .aA=>some (a.1,.c (.t (.int .i64 0)),J)
  |false,.c (.cP _ l)=>some (a.1,.c (.t (.int .i64 l)),J)
  |true,.c (.t (.str s))=>some (a.1,.c (.t (.int .i64 s.length)),J)
  |_,_=>none
 |.append sz bytes x y=>(x.get env).bind λa=>(y.get env).bind λd=>
  match oP a.2 d.2 with
  |some r=>u0 J n sz a.1 d.1 r
  |none=>
  (mr J d.2).bind λu=>
  match a.2 with
  |.c .aA=>some (a.1/\d.1/\(∀ e,e∈u.1->e.length = sz)/\lP u.1.length bytes/\u.1.length<=dY,
   .c (.arr n sz 0 u.1.length),df J n (.arr sz u.1))
  |.c (.arr b g off len)=>match aX J b with
   |some (.arr I es)=>
    if u.2=some b then none else some (a.1/\d.1/\g=sz/\I=sz/\off=0/\len=es.length/\(∀e,e∈u.1->e.length=sz)/\lP (es.length+u.1.length) bytes/\es.length+u.1.length<=dY,
     .c (.arr n sz 0 (len+u.1.length)),df (h9 J b) n (.arr sz (es++u.1)))
   |_=>none
  |_=>none
 |.max2 x y=>(x.get env).bind λa=>(y.get env).bind λb=>match a.2,b.2 with
  |.c (.t (.int k p)),.c (.t (.int F q))=>if k=F then some (a.1/\b.1,.c (.t (.int k (max p q))),J)else none
  |_,_=>none
 |.min2 x y=>(x.get env).bind λa=>(y.get env).bind λb=>match a.2,b.2 with
  |.c (.t (.int k p)),.c (.t (.int F q))=>if k=F then some (a.1/\b.1,.c (.t (.int k (min p q))),J)else none
  |_,_=>none
 |.allocS e e8=>some (True,.c (.ptr n 0),df (df J (n+1) (.buf e8 [])) n (.b9 e (.cP (n+1) 0)))
 |.bsliceT _ sz len z parts=>(toTs z).bind λD=>(jQ env sz (List.replicate len D) parts).map λa=>(a.1,.c (.t (.slice a.2)),J)
 |.mkset=>some (True,.c (.mp n),df J n (.set []))
 |.lkset x k=>(x.get env).bind λa=>(k.get env).bind λd=>match a.2,d.2 with
  |.c (.mp b),.c (.t (.str s))=>match aX J b with
   |some (.set ks)=>some (a.1/\d.1,.c (.t (.bool (js ks s))),J)
   |_=>none
  |_,_=>none
 |.upset x k=>(x.get env).bind λa=>(k.get env).bind λd=>match a.2,d.2 with
  |.c (.mp b),.c (.t (.str s))=>match aX J b with
   |some (.set ks)=>some (a.1/\d.1,.aY [],df J b (.set (iN ks s)))
   |_=>none
  |_,_=>none
 |.appendB e bytes x y=>(x.get env).bind λa=>(y.get env).bind λd=>match a.2,d.2 with
  |.c (.cP b len),.c (.t (.str s))=>match aX J b with
   |some (.buf E es)=>
    some (a.1/\d.1/\E=e/\len=es.length/\lP (es.length+s.length) bytes/\es.length+s.length<=dY,
     .c (.cP n (len+s.length)),df (h9 J b) n (.buf e (es++s)))
   |_=>none
  |_,_=>none
 |.sdata x=>(x.get env).bind λa=>match a.2 with
  |.c (.cP b _)=>some (a.1,.c (.ew b),J)
  |_=>none
 |.ustr e x k=>(x.get env).bind λa=>(k.get env).bind λd=>match a.2,d.2 with
  |.c (.ew b),.c (.t (.int .i64 m))=>match aX J b with
   |some (.buf E es)=>some (a.1/\d.1/\E=e/\m=es.length,.c (.t (.str es)),h9 J b)
   |_=>none
  |_,_=>none
 |.eqNil .. |.call .. |.ic .. =>none
where sD:List V->Option a7
 |[]=>some []
 |.c (.ptr b 0)::r=>(sD r).map (b::·)
 |_=>none
def AZ(ks:List ak)(es:List MapEntry):Prop:=a' (λk e=>e.key= .string ⟨k.toArray⟩/\e.val= .bool true) ks es
def cZ(φ:dD)(w:World)(S:dU)(b:Nat):bR->Prop
 |.box cs=>(φ b).2≠0/\∃(vs:List Value) (E:TypeId),w.heap[(φ b).1]?=some (.cells vs.toArray E (0,0))/\a' (bp φ w S) cs vs/\∀j,¬S (φ b).1 j
 |.arr sz es=>es.length<=(φ b).2/\es.length<=dY/\(∀ e,e∈es->e.length = sz)/\0<sz/\
  ((φ b).2≠0->∃(vs:List Value) (E:TypeId),w.heap[(φ b).1]?=some (.cells vs.toArray E (0,0))/\vs.length=(φ b).2*sz/\
   (∀(i j:Nat) e t,es[i]?=some e->e[j]?=some t->∃v,vs[i*sz+j]?=some v/\cj w S t v)/\∀j,¬S (φ b).1 j)
 |.set ks=>(φ b).2≠0/\(∃(es:List MapEntry) (d:Nat),w.heap[(φ b).1]?=some (.map es.toArray d)/\AZ ks es)/\∀j,¬S (φ b).1 j
 |.buf E s=>s.length<=(φ b).2/\s.length<=dY/\
  ((φ b).2≠0->(∃vs:List Value,w.heap[(φ b).1]?=some (.cells vs.toArray E (0,0))/\vs.length=(φ b).2/\
   ∀(i:Nat) c,s[i]?=some c->vs[i]?=some (.int .u8 (UInt8.toNat c)))/\∀j,¬S (φ b).1 j)
 |.b9 E c=>(φ b).2≠0/\(∃p v:Value,w.heap[(φ b).1]?=some (.cells #[p,v] E (0,0))/\(p= .pointer none\/p= .pointer (some ⟨(φ b).1,0,none⟩))/\bp φ w S c v)/\∀j,¬S (φ b).1 j
 |.cA sz es i o c=>(es.length<=(φ b).2/\es.length<=dY/\(∀ e,e∈es->e.length = sz)/\0<sz/\i<es.length/\o<sz)/\
  (∃(vs:List Value) (E:TypeId),w.heap[(φ b).1]?=some (.cells vs.toArray E (0,0))/\vs.length=(φ b).2*sz/\
   (∀(a j:Nat) e t,es[a]?=some e->e[j]?=some t->¬(a=i/\j=o)->∃v,vs[a*sz+j]?=some v/\cj w S t v)/\∃v,vs[i*sz+o]?=some v/\bp φ w S c v)/\∀j,¬S (φ b).1 j
structure qB (φ:dD)(w:World)(S:dU)(J:ba):Prop where
 blk:∀b x,aX J b=some x->cZ φ w S b x
 inj:∀b Bl x y,aX J b=some x->aX J Bl=some y->b≠Bl->(φ b).2≠0->(φ Bl).2≠0->(φ b).1≠(φ Bl).1
 st:∀b j,S b j->b<w.heap.size
structure Ext (B:Nat->Prop)(S bP:dU)(w w':World):Prop where
 os:w'.os=w.os
 tape:w'.tape=w.tape
 output:w'.output=w.output
 size:w.heap.size<=w'.heap.size
 block:∀b:Nat,b<w.heap.size->¬B b->w'.heap[b]?=w.heap[b]?
 mono:gr w S w' bP
 r':∀b j,bP b j->S b j\/B b\/w.heap.size<=b
def bR.aE(n:Nat->Bool):bR->Bool
 |.box cs=>cs.all (C.aE n)
 |.arr _ _=>true
 |.set _=>true
 |.buf _ _=>true
 |.b9 _ c=>c.aE n
 |.cA _ _ _ _ c=>c.aE n
def ins(n:Nat->Bool)(k:Nat):Nat->Bool:=λb=>n b||b==k
structure Ctx where
 jB:World
 E':dU
 B:Nat->Prop
 Us:dD
 k:Nat
structure Rel (aD:Ctx)(nt:Nat)(φ:dD)(S:dU)(env:Env)(J:ba)(n:Nat->Bool)(a:Act)(w:World):Prop where
 bO:qB φ w S J
 gL:∀(k:Nat) g v,look env k=some (g,v)->g=true->∃x,a.tmps[k]?=some x/\cl φ w S v x
 hJ:∀(k:Nat) g v,look env k=some (g,v)->g=false->a.tmps[k]?=some undef
 gK:∀(k:Nat) g v,look env k=some (g,v)->g=true->v.aE n=true
 dX:∀(b:Nat) x,aX J b=some x->n b=true/\x.aE n=true
 size:a.tmps.size=nt
 defers:a.defers=[]
 ext:Ext aD.B aD.E' S aD.jB w
 own:∀(b:Nat) x,aX J b=some x->(φ b).2≠0->aD.B (φ b).1\/aD.jB.heap.size<=(φ b).1
 fix:∀b:Nat,b<aD.k->φ b=aD.Us b
 fR:∀b:Nat,b<aD.k->n b=true
variable{c:C}{v:Value}{x y:Operand}{p:Prop}{cs:List C}{o:Oper}{ty e E:TypeId}{op:BinOp}{fs:Array Field}{f off:Nat}{vs xs:List Value}{ts:List T}{w w':World}{agg:Bool}{es:List (List T)}{j:Option Operand}{J':ba}{q:Nat×Nat}{α:Type}{place:Nat->Option (Nat×Nat)}{R:T->Value->Prop}
section
variable {P:Program}{aD:Ctx}{nt:Nat}{φ:dD}{S:dU}{env:Env}{J:ba}{n:Nat->Bool}{key:Nat}{a:Act}{w:World}
def Good(P:Program)(aD:Ctx)(nt:Nat)(env:Env)(J':ba)(b:Nat->Bool)(a:Act)(v:V)(r:Result Next):Prop:=
 ∃x c bP w',(r= .ok (.value x) w'\/(r= .ok .skip w'/\x=undef))/\cl c w' bP v x/\v.aE b=true/\Rel aD nt c bP env J' b a w'
theorem acB{n:Nat->Bool}{k:Nat}:ins n k k=true:=by simp[ins]
theorem kz{n:Nat->Bool}{k b:Nat}(h:n b=true):ins n k b=true:=by grind[ins]
theorem C.ho{n e:Nat->Bool}(h:∀b,n b=true->e b=true)(a:c.aE n=true):c.aE e=true:=by
 cases c<;>simp[C.aE]at*<;>first|exact h _ a|exactλb f=>h b (a b f)
theorem tz{n:Nat->Bool}:∀{vs:List V},(∀(i:Nat) v,vs[i]?=some v->v.aE n=true)->V.aE.V.dF n vs=true
 |[],_=>rfl
 |v::vs,h=>by
  simp[V.aE.V.dF];exact⟨h 0 v rfl,tz λi v a=>h (i+1) v a⟩
theorem V.ho{n e:Nat->Bool}(h:∀b,n b=true->e b=true):∀{v:V},v.aE n=true->v.aE e=true
 |.c x,a=>by grind[V.aE,C.ho]
 |.agg cs,a=>by
  grind[V.aE,C.ho]
 |.aY vs,a=>by
  exact go vs a
where go:∀vs,V.aE.V.dF n vs=true->V.aE.V.dF e vs=true
 |[],_=>rfl
 |v::vs,a=>by
  simp[V.aE.V.dF]at a⊢;exact⟨V.ho h a.1,go vs a.2⟩
theorem bR.ho{n a:Nat->Bool}(h:∀b,n b=true->a b=true){x:bR}(e:x.aE n=true):x.aE a=true:=by
 cases x with
 |box cs=>
  grind[bR.aE,C.ho]
 |arr=>rfl
 |set=>rfl
 |buf=>rfl
 |b9 E c=>grind[bR.aE,C.ho]
 |cA sz es i o c=>grind[bR.aE,C.ho]
theorem Rel.more(R:Rel aD nt φ S env J n a w){e:Nat->Bool}(h:∀b,n b=true->e b=true):Rel aD nt φ S env J e a w:=
 ⟨R.bO,R.gL,R.hJ,λk g v af aq=>V.ho h (R.gK k g v af aq),λb x c=>⟨h b (R.dX b x c).1,bR.ho h (R.dX b x c).2⟩,R.size,R.defers,R.ext,R.own,R.fix,λb f=>h b (R.fR b f)⟩
theorem Good.pure(R:Rel aD nt φ S env J n a w){v:V}{x:Value}{r:Result Next}(ag:r= .ok (.value x) w)(e:cl φ w S v x)(c:v.aE n=true):
 Good P aD nt env J (ins n key) a v r:=⟨x,φ,S,w,.inl ag,e,V.ho (λ_ h=>kz h) c,R.more λ_ h=>kz h⟩
theorem JL(h:Cl v=some c):bp φ w S c v/\c.aE n=true:=by
 unfold Cl at h;split at h<;>simp at h
 . subst h;exact⟨.bool _,rfl⟩
 . subst h;exact⟨.int _ _,rfl⟩
 . obtain⟨hs,rfl⟩:=h;exact⟨.str _ hs,rfl⟩
 . subst h;exact⟨⟨_,rfl⟩,rfl⟩
 . subst h;exact⟨rfl,rfl⟩
 . subst h;exact⟨rfl,rfl⟩
 . subst h;exact⟨rfl,rfl⟩
theorem HE:∀{vs:List Value} {cs:List C},w0 vs=some cs->a' (bp φ w S) cs vs/\cs.all (C.aE n)=true
 |[],cs,h=>by simp[w0]at h;subst h;exact⟨.nil,rfl⟩
 |v::vs,cs,h=>by
  simp[w0,bn,bz]at h;obtain⟨c,b,e,d,rfl⟩:=h;have h1:=JL (φ:=φ) (w:=w) (S:=S) (n:=n) b;have a:=HE d;exact⟨.cons h1.1 a.1,by grind⟩
theorem XZ{a:V}(h:Jb v=some a):cl φ w S a v/\a.aE n=true:=by
 unfold Jb at h;split at h
 . simp at h;obtain⟨l,af,rfl⟩:=h;have:=HE (φ:=φ) (w:=w) (S:=S) (n:=n) af;refine⟨?_,by grind[V.aE]⟩;have e:=cl.agg this.1;omega
 . simp at h;obtain⟨l,af,rfl⟩:=h;have:=JL (φ:=φ) (w:=w) (S:=S) (n:=n) af;exact⟨.c this.1,by grind[V.aE]⟩
theorem ct(R:Rel aD nt φ S env J n a w){d:aR}(b:bF x=some d){v:V}(h:d.get env=some (p,v))(e:p):
 cl φ w S v (a.eval x)/\v.aE n=true:=by
 cases x with
 |tmp t=>
  simp[bF]at b;subst b;simp only[aR.get,bz]at h;obtain⟨⟨g,i⟩,af,he⟩:=h;obtain⟨rfl,rfl⟩:=he;obtain⟨y,k,ag⟩:=R.gL t g i af e;refine⟨?_,R.gK t g i af e⟩;simp_all[Act.eval]
 |const c=>
  simp[bF]at b;obtain⟨j,gW,rfl⟩:=b;obtain⟨_,rfl⟩:=h;exact XZ gW
 |global g=>grind[bF]
 |func f=>
  simp[bF]at b;subst b;obtain⟨_,rfl⟩:=h;exact⟨.c (by rfl),by rfl⟩
theorem re(R:Rel aD nt φ S env J n a w):∀{xs:List Operand} {bb:List aR} (_:ng xs=some bb) {p:Prop} {vs:List V} (_:hN env bb=some (p,vs)) (_:p),
 a' (cl φ w S) vs (xs.map a.eval)/\V.aE.V.dF n vs=true
 |[],bb,b,p,vs,h,c=>by simp[ng]at b;subst b;obtain⟨_,rfl⟩:=h;exact⟨.nil,rfl⟩
 |x::xs,bb,b,p,vs,h,c=>by
  simp[ng,bn,bz]at b;obtain⟨j,e,k,f,rfl⟩:=b;simp only[hN,bn,bz]at h;obtain⟨⟨q,v⟩,g,⟨l,m⟩,i,he⟩:=h;obtain⟨rfl,rfl⟩:=he;have h1:=ct R e g c.1;have d:=re R f i c.2;exact⟨.cons h1.1 d.1,by grind[V.aE.V.dF]⟩
theorem cl.jk{b:Bool}{x:Value}(h:cl φ w S (.c (.t (.bool b))) x):x= .bool b:=by cases h with|c h=>cases h;rfl
theorem cl.fA{k:IntKind}{m:Int}{x:Value}(h:cl φ w S (.c (.t (.int k m))) x):x= .int k m:=by cases h with|c h=>cases h;rfl
theorem cl.kq{s:ak}{x:Value}(h:cl φ w S (.c (.t (.str s))) x):∃bs:ByteArray,x= .string bs/\bs.data.toList=s/\bs.size<=eF:=by cases h with|c h=>cases h<;>grind
theorem cl.hS{b o:Nat}{x:Value}(h:cl φ w S (.c (.ptr b o)) x):x= .pointer (some ⟨(φ b).1,o,none⟩):=by cases h with|c h=>exact h
theorem cl.iZ{b sz i o:Nat}{x:Value}(h:cl φ w S (.c (.cJ b sz i o)) x):x= .pointer (some ⟨(φ b).1,i*sz+o,none⟩):=by cases h with|c h=>exact h
theorem cl.mz{x:Value}(h:cl φ w S (.agg cs) x):∃vs:List Value,x= .agg vs.toArray/\a' (bp φ w S) cs vs:=by cases h<;>grind
theorem cl.ed{x:Value}(h:cl φ w S (.c c) x):bp φ w S c x:=by cases h<;>grind
theorem cl.qD(b:Bool):cl φ w S (.c (.t (.bool b))) (.bool b):= .c (.bool b)
theorem cl.nc(k:IntKind)(m:Int):cl φ w S (.c (.t (.int k m))) (.int k m):= .c (.int k m)
theorem L6(R:Rel aD nt φ S env J n a w)(b:o.op= .move x\/o.op= .assign x){c:aR}(f:bF x=some c)
 {p v J'}(g:n key=false)(h:aQ (.mov c) env J key=some (p,v,J'))(d:p):Good P aD nt env J' (ins n key) a v ((execOp a.eval o).run P w):=by
 simp only[aQ,bz]at h;obtain⟨⟨q,u⟩,e,he⟩:=h;obtain⟨rfl,rfl,rfl⟩:=he;have aq:=ct R f e d;refine Good.pure R ?_ aq.1 aq.2;rcases b with b|b<;>simp[execOp,b]
theorem ZQ(R:Rel aD nt φ S env J n a w){c:Operand}(g:o.op= .pick c x y){ac d e:aR}(m:bF c=some ac)(u:bF x=some d)(z:bF y=some e)
 {p v J'}(A:n key=false)(h:aQ (.pick ac d e) env J key=some (p,v,J'))(t:p):Good P aD nt env J' (ins n key) a v ((execOp a.eval o).run P w):=by
 simp only[aQ,bn]at h;obtain⟨⟨B,G⟩,q,⟨C,H⟩,r,⟨D,I⟩,s,he⟩:=h;simp at he;split at he
 . rename_i b E F;obtain⟨rfl,rfl,rfl⟩:=he;obtain⟨h1,k,l⟩:=t;have f:=(ct R m q h1).1.jk;cases b with
   |true=>
    have i:=(ct R u r (k rfl)).1.jk;exact Good.pure R (by simp[execOp,g,f,asBool,i]) (.qD _) rfl
   |false=>
    have j:=(ct R z s (l rfl)).1.jk;exact Good.pure R (by simp[execOp,g,f,asBool,j]) (.qD _) rfl
 grind
theorem vR(b:ByteArray):b.data.toList.length=b.size:=by rfl
theorem ZR{s t r:T}(h:qC op s t=some (p,r))(c:p){x y:Value}(d:cj w S s x)(f:cj w S t y):
 ∃z,(binOp op ty x y).run P w= .ok z w/\cj w S r z:=by
 have g:∀a b:ak,(a==b)=decide (a=b):=λa b=>by grind
 unfold qC at h;split at h<;>(first|simp only[eG,dG]at h|cases h)
 all_goals cases d;cases f
 case h_1=>obtain⟨rfl,rfl,rfl⟩:=h;exact⟨_,by simp[binOp,Op.intArith],.int _ _⟩
 case h_2=>obtain⟨rfl,rfl,rfl⟩:=h;exact⟨_,by simp[binOp,Op.intArith],.int _ _⟩
 case h_3=>obtain⟨rfl,rfl,rfl⟩:=h;exact⟨_,by simp[binOp,Op.intArith],.int _ _⟩
 case h_4=>obtain⟨rfl,rfl,rfl⟩:=h;exact⟨_,by simp[binOp,Op.intDiv,c],.int _ _⟩
 case h_5=>obtain⟨rfl,rfl,rfl⟩:=h;exact⟨_,by simp[binOp,Op.intDiv,c],.int _ _⟩
 case h_6=>obtain⟨rfl,rfl,rfl⟩:=h;exact⟨_,by simp[binOp,Op.intBits],.int _ _⟩
 case h_7=>obtain⟨rfl,rfl,rfl⟩:=h;exact⟨_,by simp[binOp,Op.intBits],.int _ _⟩
 case h_8=>obtain⟨rfl,rfl,rfl⟩:=h;exact⟨_,by simp[binOp,Op.intBits],.int _ _⟩
 case h_9=>obtain⟨rfl,rfl,rfl⟩:=h;exact⟨_,by simp[binOp,Op.intBits],.int _ _⟩
 case h_10=>obtain⟨rfl,rfl⟩:=h;exact⟨_,by simp_all[binOp,Op.shift,al],.int _ _⟩
 case h_11=>obtain⟨rfl,rfl⟩:=h;exact⟨_,by simp_all[binOp,Op.shift,al],.int _ _⟩
 case h_12=>obtain⟨rfl,rfl,rfl⟩:=h;exact⟨_,by simp[binOp,Op.intCmp];rfl,.bool _⟩
 case h_13=>obtain⟨rfl,rfl,rfl⟩:=h;exact⟨_,by simp[binOp,Op.intCmp,bne,BEq.beq],.bool _⟩
 case h_14=>obtain⟨rfl,rfl,rfl⟩:=h;exact⟨_,by simp[binOp,Op.intCmp],.bool _⟩
 case h_15=>obtain⟨rfl,rfl,rfl⟩:=h;exact⟨_,by simp[binOp,Op.intCmp],.bool _⟩
 case h_16=>obtain⟨rfl,rfl,rfl⟩:=h;exact⟨_,by simp[binOp,Op.intCmp],.bool _⟩
 case h_17=>obtain⟨rfl,rfl,rfl⟩:=h;exact⟨_,by simp[binOp,Op.intCmp],.bool _⟩
 case h_18 s hs t ht=>
  obtain⟨rfl,rfl⟩:=h;simp only[vR]at c;have e:(s++t).data.toList=s.data.toList++t.data.toList:=by rfl
  refine⟨.string (s++t),?_,e▸.str _ (by grind)⟩;have:¬(((s.size+t.size:Nat):Int)>IntKind.i64.max):=by grind[IntKind.max,eF,IntKind.signed,IntKind.bits]
  simp_all[binOp,Op.stringOp,al]
 case h_19 s hs t ht=>obtain⟨rfl,rfl⟩:=h;exact⟨_,by simp_all[binOp,Op.stringOp,ByteArray.toList_eq],.bool _⟩
 case h_20 s hs t ht=>obtain⟨rfl,rfl⟩:=h;exact⟨_,by simp_all[binOp,Op.stringOp,ByteArray.toList_eq],.bool _⟩
 case h_21 s hs t ht=>obtain⟨rfl,rfl⟩:=h;exact⟨_,by simp_all[binOp,Op.stringOp,ByteArray.toList_eq],.bool _⟩
 case h_22 s hs t ht=>obtain⟨rfl,rfl⟩:=h;exact⟨_,by simp_all[binOp,Op.stringOp,ByteArray.toList_eq],.bool _⟩
 case h_23 s hs t ht=>obtain⟨rfl,rfl⟩:=h;exact⟨_,by simp_all[binOp,Op.stringOp,ByteArray.toList_eq],.bool _⟩
 case h_24 s hs t ht=>obtain⟨rfl,rfl⟩:=h;exact⟨_,by simp_all[binOp,Op.stringOp,ByteArray.toList_eq],.bool _⟩
theorem Hf{u:Value}(h1:u≠.nilIface)(a:∀cs,u≠.agg cs):(eqGuard op ty x y u v).run P w= .ok () w:=by
 simp_all[eqGuard]
theorem cj.guard{t:T}{u:Value}(h:cj w S t u):u≠.nilIface/\∀cs,u≠.agg cs:=by
 cases h<;>exact⟨by simp,by simp⟩
theorem K'(b:P.underlying ty=some .bool)(b1 b2:Bool):(Op.equal ty (.bool b1) (.bool b2)).run P w= .ok (b1==b2) w:=by
 obtain⟨d,a⟩:∃d,Op.maxDepth=d+1:=⟨9999,rfl⟩
 unfold Op.equal;rw[a];unfold Op.equalIn;simp only[Sem.run_bind,run_underlying b];rfl
theorem IF(R:Rel aD nt φ S env J n a w){m:TypeId}(t:o.op= .binOp op ty x y m){d e:aR}(j:bF x=some d)(k:bF y=some e)
 {p v J'}(s:n key=false)(h:aQ (.bin op d e) env J key=some (p,v,J'))(b:p):Good P aD nt env J' (ins n key) a v ((execOp a.eval o).run P w):=by
 simp only[aQ,bn]at h;obtain⟨⟨B,D⟩,g,⟨C,E⟩,i,he⟩:=h;simp at he;split at he
 . simp only[bz]at he;obtain⟨⟨A,r⟩,ag,rfl,rfl,rfl⟩:=he;have h1:=(ct R j g b.1).1.ed;have f:=(ct R k i b.2.1).1.ed;obtain⟨z,u,l⟩:=ZR (P:=P) (ty:=ty) ag b.2.2 h1 f;refine Good.pure R ?_ (.c l) rfl;have q:(eqGuard op ty x y _ (a.eval y)).run P w= .ok _ w:=Hf (cj.guard h1).1 (cj.guard h1).2;simp_all[execOp]
 grind
theorem Yf(R:Rel aD nt φ S env J n a w){k:TypeId}(s:o.op= .binOp op ty x y k)(g:op= .eql\/op= .neq)(t:P.underlying ty=some .bool)
 {b c:aR}(i:bF x=some b)(j:bF y=some c)
 {p v J'}(r:n key=false)(h:aQ (.eqBool (op== .neq) b c) env J key=some (p,v,J'))(d:p):Good P aD nt env J' (ins n key) a v ((execOp a.eval o).run P w):=by
 simp only[aQ,bn]at h;obtain⟨⟨u,A⟩,e,⟨z,B⟩,f,he⟩:=h;simp at he;split at he
 . rename_i b1 b2;obtain⟨rfl,rfl,rfl⟩:=he;have h1:=(ct R i e d.1).1.jk;have q:=(ct R j f d.2).1.jk;refine Good.pure R ?_ (.qD _) rfl;have l:(eqGuard op ty x y (a.eval x) (a.eval y)).run P w= .ok _ w:=Hf (by grind) (by grind);have m:(binOp op ty (a.eval x) (a.eval y)).run P w= .ok (.bool (if(op== .neq)then !(b1==b2)else(b1==b2))) w:=by
    rcases g with rfl|rfl
    . simp_all[binOp,K']
    simp_all[binOp,K']
   simp_all[execOp]
 grind
theorem aaB(R:Rel aD nt φ S env J n a w)(d:o.op= .unOp .not ty x){b:aR}(f:bF x=some b)
 {p v J'}(g:n key=false)(h:aQ (.not b) env J key=some (p,v,J'))(e:p):Good P aD nt env J' (ins n key) a v ((execOp a.eval o).run P w):=by
 simp only[aQ,bn]at h;obtain⟨⟨i,j⟩,c,he⟩:=h;simp at he;split at he
 . obtain⟨rfl,rfl,rfl⟩:=he;have h1:=(ct R f c e).1.jk;exact Good.pure R (by simp[execOp,d,h1,Op.unary]) (.qD _) rfl
 grind
theorem aaC(R:Rel aD nt φ S env J n a w){k:IntKind}(g:o.op= .unOp .neg ty x){b:aR}(j:bF x=some b)
 {p v J'}(l:n key=false)(h:aQ (.bin .sub (.const (.c (.t (.int k 0)))) b) env J key=some (p,v,J'))(i:p):Good P aD nt env J' (ins n key) a v ((execOp a.eval o).run P w):=by
 simp only[aQ,aR.get,ao,bn]at h;obtain⟨⟨q,s⟩,f,he⟩:=h;simp only at he;split at he
 . rename_i t1 t2 aN;cases aN;simp only[bz]at he;obtain⟨⟨m,r⟩,ag,rfl,rfl,rfl⟩:=he;have d:=(ct R j f i.2.1).1;cases t2<;>simp only[qC,reduceCtorEq,eG]at ag;obtain⟨rfl,rfl,rfl⟩:=ag;have e:=d.fA;exact Good.pure R (by simp[execOp,g,e,Op.unary,Op.intArith]) (.nc _ _) rfl
 grind
theorem aaD(R:Rel aD nt φ S env J n a w){k:IntKind}(g:o.op= .unOp .xor ty x){b:aR}(j:bF x=some b)
 {p v J'}(l:n key=false)(h:aQ (.bin .xor (.const (.c (.t (.int k (if k.signed then -1 else k.max))))) b) env J key=some (p,v,J'))(i:p):Good P aD nt env J' (ins n key) a v ((execOp a.eval o).run P w):=by
 simp only[aQ,aR.get,ao,bn]at h;obtain⟨⟨q,s⟩,f,he⟩:=h;simp only at he;split at he
 . rename_i t1 t2 aN;cases aN;simp only[bz]at he;obtain⟨⟨m,r⟩,ag,rfl,rfl,rfl⟩:=he;have d:=(ct R j f i.2.1).1;cases t2<;>simp only[qC,reduceCtorEq,eG]at ag;obtain⟨rfl,rfl,rfl⟩:=ag;have e:=d.fA;exact Good.pure R (by simp[execOp,g,e,Op.unary,Op.intBits]) (.nc _ _) rfl
 grind
theorem ZS(R:Rel aD nt φ S env J n a w){s d:TypeId}(f:o.op= .convert s d x){j k:IntKind}(hs:P.underlying s=some (.int j))(c:P.underlying d=some (.int k)){b:aR}(i:bF x=some b)
 {p v J'}(l:n key=false)(h:aQ (.conv k b) env J key=some (p,v,J'))(g:p):Good P aD nt env J' (ins n key) a v ((execOp a.eval o).run P w):=by
 simp only[aQ,bn]at h;obtain⟨⟨m,q⟩,e,he⟩:=h;simp at he;split at he
 . obtain⟨rfl,rfl,rfl⟩:=he;have h1:=(ct R i e g).1.fA;exact Good.pure R (by simp[execOp,f,h1,convert,underlying,hs,c,Conv.intToInt]) (.nc _ _) rfl
 grind
theorem Yg(m:Int):(Utf8.encode m).size<=eF:=by
 unfold eF Utf8.encode;dsimp
 (repeat' split)<;>simp[ByteArray.size]
theorem aaE(R:Rel aD nt φ S env J n a w){s d:TypeId}(g:o.op= .convert s d x){k:IntKind}(hs:P.underlying s=some (.int k))(e:P.underlying d=some .string){b:aR}(j:bF x=some b)
 {p v J'}(l:n key=false)(h:aQ (.i2s b) env J key=some (p,v,J'))(i:p):Good P aD nt env J' (ins n key) a v ((execOp a.eval o).run P w):=by
 simp only[aQ,bn]at h;obtain⟨⟨m,q⟩,f,he⟩:=h;simp at he;split at he
 . obtain⟨rfl,rfl,rfl⟩:=he;have h1:=(ct R j f i).1.fA;exact Good.pure R (by simp[execOp,g,h1,convert,underlying,hs,e,Conv.intToString]) (.c (.str _ (Yg _))) rfl
 grind
theorem aaF(R:Rel aD nt φ S env J n a w){s d:TypeId}(f:o.op= .convert s d x)(hs:P.underlying s=some .string)(c:P.underlying d=some .string){b:aR}(i:bF x=some b)
 {p v J'}(j:n key=false)(h:aQ (.s2s b) env J key=some (p,v,J'))(g:p):Good P aD nt env J' (ins n key) a v ((execOp a.eval o).run P w):=by
 simp only[aQ,bn]at h;obtain⟨⟨k,l⟩,e,he⟩:=h;simp at he;split at he
 . obtain⟨rfl,rfl,rfl⟩:=he;have aq:=ct R i e g;obtain⟨bs,h1,rfl,_⟩:=aq.1.kq;refine Good.pure R ?_ (h1▸aq.1) rfl;simp[execOp,f,h1,convert,underlying,hs,c]
 grind
theorem YA(R:Rel aD nt φ S env J n a w)(g:o.op= .nilCheck x){b:aR}(e:bF x=some b)
 {p v J'}(f:n key=false)(h:aQ (.nilCheck b) env J key=some (p,v,J'))(d:p):Good P aD nt env J' (ins n key) a v ((execOp a.eval o).run P w):=by
 simp only[aQ,bn]at h;obtain⟨⟨i,j⟩,c,he⟩:=h;simp at he;split at he<;>simp only[dG,reduceCtorEq]at he
 all_goals
  obtain⟨rfl,rfl,rfl⟩:=he;have aq:=ct R e c d;have h1:=aq.1.ed;refine Good.pure R ?_ aq.1 aq.2
 . simp_all[bp,execOp]
 . simp_all[bp,execOp]
 . obtain⟨_,_,_,h1,_⟩:=h1;simp_all[execOp]
theorem ZT(R:Rel aD nt φ S env J n a w)(y:o.op= .fieldAddr ty x f)(A:P.underlying ty=some (.struct fs)){d:Field}(s:fs[f]?=some d)
 {m:Nat}(j:ev P d.type=some m)(u:m≠0){g:aR}(r:bF x=some g)
 {p v J'}(t:n key=false)(h:aQ (.fldA d.offset g) env J key=some (p,v,J'))(q:p):Good P aD nt env J' (ins n key) a v ((execOp a.eval o).run P w):=by
 simp only[aQ,bn]at h;obtain⟨⟨C,D⟩,k,he⟩:=h;simp at he;have B:∀w,(underlying ty).run P w= .ok (.struct fs) w:=by simp_all[underlying]
 have z:∀w,(sizeOf d.type).run P w= .ok m w:=by simp[ev]at j;obtain⟨i,l,rfl⟩:=j;simp[sizeOf,typeInfo,l]
 have e:∀(b off:Nat),a.eval x= .pointer (some ⟨b,off,none⟩)->(execOp a.eval o).run P w= .ok (.value (.pointer (some ⟨b,off+d.offset,none⟩))) w:=by
  simp_all[execOp,Instr.fieldAt,Instr.sureAddr,fieldPlace,Addr.add]
 split at he<;>simp only[dG,reduceCtorEq]at he
 all_goals
  obtain⟨rfl,rfl,rfl⟩:=he;have aq:=ct R r k q;have h1:=aq.1.ed
 . exact Good.pure R (e _ _ h1) (.c rfl) aq.2
 . exact Good.pure R (e _ _ h1) (.c (by simp[bp,Nat.add_assoc])) aq.2
 . obtain⟨blk,off,f,h1,aa⟩:=h1;exact Good.pure R (e _ _ h1) (.c ⟨blk,off,f,by grind,aa⟩) aq.2
theorem a'.ahD(h:a' (cj w S) ts vs):a' (bp φ w S) (ts.map .t) vs:=by
 induction h with
 |nil=>exact .nil
 |cons h _ ih=>exact .cons h ih
theorem L7(n:Nat->Bool)(ts:List T):(ts.map C.t).all (C.aE n)=true:=by simp[C.aE]
theorem tD{g:Bool}(aq:pX P ty=some g)(w:World):(isAgg ty).run P w= .ok g w:=by
 unfold pX at aq;split at aq<;>simp_all [isAgg,underlying]
theorem jL{k:Nat}(a:ev P ty=some k)(w:World):(sizeOf ty).run P w= .ok k w:=by
 simp[ev]at a;obtain⟨i,b,rfl⟩:=a;simp[sizeOf,typeInfo,b]
theorem La{g:Bool×Nat}(h:ot P ty=some g):pX P ty=some g.1/\ev P ty=some g.2/\(g.1=false->g.2=1):=by
 grind[ot,bn]
theorem YP{g:Bool}{k:Nat}(aq:pX P ty=some g)(d:ev P ty=some k){b o:Nat}
 (a:∀j,j<k->w.cell? ⟨b,o+j,none⟩=vs[j]?)(af:vs.length=k)(h1:g=false->k=1):
 (loadVar ty ⟨b,o,none⟩).run P w= .ok (if g then .agg vs.toArray else vs.getD 0 undef) w:=by
 cases g with
 |true=>
  have:=run_loadCells_list (P:=P) w ⟨b,o,none⟩ vs (λj v c=>by
   grind[Addr.add])
  simp_all[loadVar,tD,jL]
 |false=>
  simp_all[loadVar,tD]
theorem bp.single(h:bp φ w S c v):v.cells=#[v]:=by
 have:=bp.jc h;cases v<;>simp[Value.oneCell']at this<;>rfl
theorem nV{v:V}{x:Value}(h:cl φ w S v x)(a:pY v=some cs)(b:v.aE n=true):a' (bp φ w S) cs x.cells.toList/\cs.all (C.aE n)=true:=by
 cases h with
 |c h=>
  simp[pY]at a;subst a;rw[bp.single h];exact⟨.cons h .nil,by grind[V.aE]⟩
 |agg h=>
  grind[pY,Value.cells,V.aE]
 |aY=>grind[pY]
theorem JM{k o:Nat}{v:V}(h:a' (bp φ w S) cs vs)(d:cs.all (C.aE n)=true)(af:jW agg k cs o=some v)(h1:agg=false->k=1):
 o+k<=cs.length/\cl φ w S v (if agg then .agg ((vs.drop o).take k).toArray else((vs.drop o).take k).getD 0 undef)/\v.aE n=true:=by
 unfold jW at af;cases agg with
 |true=>
  simp at af;obtain⟨b,rfl⟩:=af;refine⟨b,?_,by grind[V.aE]⟩;simpa using cl.agg ((h.drop o).take k)
 |false=>
  have:=h1 rfl;subst this;simp at af;obtain⟨c,a,rfl⟩:=af;obtain⟨x,e,ag⟩:=h.get a;have aB:=(dS.1 a).1;refine⟨by omega,?_,?_⟩
  . have:((vs.drop o).take 1).getD 0 undef=x:=(by grind);simp only[this];exact .c ag
  grind[V.aE]
theorem Mu{k o:Nat}{v:V}(af:loadT agg k ts o=some v):jW agg k (ts.map .t) o=some v:=by
 unfold loadT at af;unfold jW;cases agg<;>simp_all
theorem acC{g:Bool}{k:Nat}(aq:pX P ty=some g)(a:ev P ty=some k)(h1:g=false->k=1)(b:off+k<=vs.length):
 (part ty vs.toArray off).run P w= .ok (if g then .agg ((vs.drop off).take k).toArray else((vs.drop off).take k).getD 0 undef) w:=by
 cases g with
 |true=>
  simp_all[part,tD,jL]
 |false=>
  have:=h1 rfl;have aB:off<vs.length:=by omega
  simp_all[part,tD]
theorem aaG(R:Rel aD nt φ S env J n a w)(r:o.op= .field ty x f)(u:P.underlying ty=some (.struct fs)){b:Field}(j:fs[f]?=some b)
 {m:Nat}(q:ev P b.type=some m){g:Bool}(aq:pX P b.type=some g)(h1:g=false->m=1){c:aR}(A:bF x=some c)
 {p v J'}(B:n key=false)(h:aQ (.fld g b.offset m c) env J key=some (p,v,J'))(s:p):Good P aD nt env J' (ins n key) a v ((execOp a.eval o).run P w):=by
 simp only[aQ,bn]at h;obtain⟨⟨C,D⟩,k,he⟩:=h;simp at he;split at he
 . simp only[bz]at he;obtain⟨v0,y,rfl,rfl,rfl⟩:=he;have e:=ct R A k s;obtain⟨vs,z,d⟩:=e.1.mz;obtain⟨l,t,i⟩:=JM d (by simpa[V.aE]using e.2) y h1;have ag:=acC (w:=w) aq q h1 (by rw[<-d.length];exact l);exact Good.pure R (by simp[execOp,r,z,Instr.field,underlying,u,j,asAgg,ag]) t i
 grind
theorem aaH(R:Rel aD nt φ S env J n a w){i:Nat}(q:o.op= .extract x i){b:aR}(g:bF x=some b)
 {p v J'}(m:n key=false)(h:aQ (.ext b i) env J key=some (p,v,J'))(f:p):Good P aD nt env J' (ins n key) a v ((execOp a.eval o).run P w):=by
 simp only[aQ,bn]at h;obtain⟨⟨r,s⟩,e,he⟩:=h;simp at he;split at he
 . simp only[bz]at he;obtain⟨v0,d,rfl,rfl,rfl⟩:=he;have c:=ct R g e f;generalize k:a.eval x=y at c;obtain⟨ag,l⟩:=c;cases ag with
   |aY _ xs af aa=>
    have aB:i<xs.length:=(by grind);have j:=e9 aB;refine Good.pure R ?_ (aa i _ _ d j) (nZ (by grind[V.aE]) d);simp_all[execOp,Instr.extract]
 grind
theorem ZU(R:Rel aD nt φ S env J n a w){x y:Operand}{e:Array TypeId}(j:o.op= .call {callee:= .builtin .max,args:=#[x,y],argTypes:=e}){b c:aR}(l:bF x=some b)(m:bF y=some c)
 {p v J'}(r:n key=false)(h:aQ (.max2 b c) env J key=some (p,v,J'))(d:p):Good P aD nt env J' (ins n key) a v ((execOp a.eval o).run P w):=by
 simp only[aQ,bn]at h;obtain⟨⟨t,z⟩,g,⟨u,A⟩,i,he⟩:=h;simp at he;split at he
 . rename_i k p s q;simp only[eG]at he;obtain⟨rfl,rfl,rfl,rfl⟩:=he;have h1:=(ct R l g d.1).1.fA;have f:=(ct R m i d.2).1.fA;refine Good.pure R ?_ (.nc _ _) rfl;have:(if p<q then q else p)=max p q:=(by omega);simp[execOp,j,invoke,builtin,Builtin.max_,Builtin.max2,h1,f,Go.resolve,this]
 grind
theorem ZV(R:Rel aD nt φ S env J n a w){x y:Operand}{e:Array TypeId}(j:o.op= .call {callee:= .builtin .min,args:=#[x,y],argTypes:=e}){b c:aR}(l:bF x=some b)(m:bF y=some c)
 {p v J'}(r:n key=false)(h:aQ (.min2 b c) env J key=some (p,v,J'))(d:p):Good P aD nt env J' (ins n key) a v ((execOp a.eval o).run P w):=by
 simp only[aQ,bn]at h;obtain⟨⟨t,z⟩,g,⟨u,A⟩,i,he⟩:=h;simp at he;split at he
 . rename_i k p s q;simp only[eG]at he;obtain⟨rfl,rfl,rfl,rfl⟩:=he;have h1:=(ct R l g d.1).1.fA;have f:=(ct R m i d.2).1.fA;refine Good.pure R ?_ (.nc _ _) rfl;have:(if q<p then q else p)=min p q:=(by omega);simp[execOp,j,invoke,builtin,Builtin.min_,Builtin.min2,h1,f,Go.resolve,this]
 grind
theorem cj.kp(h:cj w S (.slice es) v):∃(a:Option Addr) (cap sz b o:Nat) (f:Nat->Nat->Value),v= .slice a es.length cap/\es.length<=cap/\es.length<=dY/\(∀e,e∈es->e.length=sz)/\(es≠[]->a=some ⟨b,o,none⟩)/\
 (∀i j:Nat,i<es.length->j<sz->S b (o+i*sz+j)/\w.cell? ⟨b,o+i*sz+j,none⟩=some (f i j))/\(∀(i j:Nat) e t,es[i]?=some e->e[j]?=some t->cj w S t (f i j)):=by
 cases h;exact⟨_,_,_,_,_,_,rfl,by grind,by grind,by omega,by omega,by omega,by grind⟩
theorem bp.hc{b sz len:Nat}(h:bp φ w S (.arr b sz off len) v):∃a,v= .slice a len ((φ b).2-off)/\((φ b).2≠0->a=some ⟨(φ b).1,off*sz,none⟩)/\off+len<=(φ b).2:=h
theorem aaI(R:Rel aD nt φ S env J n a w){x:Operand}{ty:TypeId}(g:o.op= .call {callee:= .builtin .len,args:=#[x],argTypes:=#[ty]}){str:Bool}
 (d:if str then P.underlying ty=some .string else ∃e,P.underlying ty=some (.slice e)){i:aR}(q:bF x=some i)
 {p v J'}(r:n key=false)(h:aQ (.len str i) env J key=some (p,v,J'))(m:p):Good P aD nt env J' (ins n key) a v ((execOp a.eval o).run P w):=by
 simp only[aQ,bn]at h;obtain⟨⟨u,y⟩,k,he⟩:=h;simp at he;split at he<;>simp only[dG,dV,reduceCtorEq]at he
 all_goals
  obtain⟨rfl,rfl,rfl⟩:=he;have h1:=(ct R q k m).1.ed
 . obtain⟨e,d⟩:=d;obtain⟨f,cap,_,_,_,_,h1,_⟩:=cj.kp h1;exact Good.pure R (by simp[execOp,g,Go.resolve,invoke,builtin,Builtin.len_,underlying,d,h1,goInt]) (.nc _ _) rfl
 . obtain⟨e,d⟩:=d;obtain⟨f,h1,_⟩:=bp.hc h1;exact Good.pure R (by simp[execOp,g,Go.resolve,invoke,builtin,Builtin.len_,underlying,d,h1,goInt]) (.nc _ _) rfl
 . obtain⟨e,d⟩:=d;obtain⟨f,h1⟩:=h1;exact Good.pure R (by simp[execOp,g,Go.resolve,invoke,builtin,Builtin.len_,underlying,d,h1,goInt]) (.nc _ _) rfl
 . obtain⟨e,d⟩:=d;rename_i b l;obtain⟨f,cap,h1⟩:∃f cap,a.eval x= .slice f l cap:=by
    obtain⟨s,t,k1⟩:=h1;grind
   exact Good.pure R (by simp[execOp,g,Go.resolve,invoke,builtin,Builtin.len_,underlying,d,h1,goInt]) (.nc _ _) rfl
 . simp at d;obtain⟨bs,j,rfl,_⟩:=cl.kq (.c h1);exact Good.pure R (x:= .int .i64 bs.size) (by simp[execOp,g,Go.resolve,invoke,builtin,Builtin.len_,underlying,d,j,goInt]) (by exact .nc _ _) rfl
theorem ZW(R:Rel aD nt φ S env J n a w){i:Operand}(F:o.op= .indexAddr ty x i)(I:P.underlying ty=some (.slice e)){sz:Nat}(H:ev P e=some sz)(h0:sz≠0)
 {z y:aR}(K:bF x=some z)(E:bF i=some y)
 {p v J'}(X:n key=false)(h:aQ (.idxA sz z y) env J key=some (p,v,J'))(G:p):Good P aD nt env J' (ins n key) a v ((execOp a.eval o).run P w):=by
 simp only[aQ,bn]at h;obtain⟨⟨ae,ag⟩,D,⟨ad,af⟩,B,he⟩:=h;simp only at he;have A:∀(b off m:Nat),Addr.add ⟨b,off,none⟩ (m*sz)=⟨b,off+m*sz,none⟩:=by
  grind[Addr.add]
 split at he
 . rename_i es k m;obtain⟨rfl,rfl,rfl⟩:=he;obtain⟨s,u,r,M,U⟩:=G;have h1:=(ct R K D s).1.ed;have g:=(ct R E B u).1.fA;obtain⟨L,cap,d,b,off,f,h1,T,Z,aa,l,Q,ab⟩:=cj.kp h1;have N:es≠[]:=(by grind);have W:es[m.toNat]?=some (el es m.toNat):=(by grind[el]);have O:d=sz:=(by grind);subst O;rw[l N]at h1;refine Good.pure R (x:= .pointer (some ⟨b,off+m.toNat*d,none⟩)) ?_ ?_ rfl
   . have q:0<=m/\m<es.length:=⟨r,by omega⟩
     simp[execOp,F,h1,g,Instr.indexAt,asIntOf,underlying,I,q,jL H,A]
   . refine .c ⟨b,off+m.toNat*d,λj=>f m.toNat j,by rfl,λj t ht=>?_⟩;grind
 . rename_i b d off len k m;obtain⟨rfl,rfl,rfl⟩:=he;obtain⟨s,u,r,M,rfl⟩:=G;have aq:=ct R K D s;have h1:=aq.1.ed;have g:=(ct R E B u).1.fA;obtain⟨L,h1,l,Y⟩:=bp.hc h1;rw[l (by omega)]at h1;refine Good.pure R (x:= .pointer (some ⟨(φ b).1,off*sz+m.toNat*sz,none⟩)) ?_ (.c ?_) (by grind[V.aE,C.aE])
   . have q:0<=m/\m<len:=⟨r,by omega⟩
     simp[execOp,F,h1,g,Instr.indexAt,asIntOf,underlying,I,q,jL H,A]
   grind[bp]
 grind
theorem ZX(R:Rel aD nt φ S env J n a w){i:Operand}(r:o.op= .index ty x i)(z:P.underlying ty=some .string)
 {c b:aR}(A:bF x=some c)(j:bF i=some b)
 {p v J'}(B:n key=false)(h:aQ (.idxS c b) env J key=some (p,v,J'))(t:p):Good P aD nt env J' (ins n key) a v ((execOp a.eval o).run P w):=by
 simp only[aQ,bn]at h;obtain⟨⟨D,F⟩,g,⟨C,E⟩,f,he⟩:=h;simp at he;split at he
 . rename_i s k m;obtain⟨rfl,rfl,rfl⟩:=he;obtain⟨u,y,l,q⟩:=t;obtain⟨bs,h1,rfl,hs⟩:=(ct R A g u).1.kq;have d:=(ct R j f y).1.fA;have aB:m.toNat<bs.size:=(by simp_all);refine Good.pure R ?_ (.nc _ _) rfl;have e:bs[m.toNat]?=some (bs.data.toList.getD m.toNat 0):=by
    rw[getElem?_pos bs _ _];simp[e9 q];rfl
   simp[execOp,r,h1,d,Instr.index,asIntOf,underlying,z,l,e]
 grind
theorem J9:∀{vs:List V} {l:a7} {xs:List Value},aQ.sD vs=some l->a' (cl φ w S) vs xs->V.aE.V.dF n vs=true->
 xs=l.map (λb=>Value.pointer (some ⟨(φ b).1,0,none⟩))/\(l.all λb=>n b)=true
 |[],l,xs,h,a,c=>by simp[aQ.sD]at h;subst h;cases a;simp
 |v::vs,l,xs,h,a,c=>by
  cases a with
  |cons d ht=>
   unfold aQ.sD at h;split at h
   . grind
   . rename_i b r e;cases e;simp at h;obtain⟨i,f,rfl⟩:=h;simp[V.aE.V.dF]at c;obtain⟨rfl,g⟩:=J9 f ht c.2;have:=d.hS;grind[V.aE,C.aE]
   grind
theorem ZY(R:Rel aD nt φ S env J n a w){caps:Array Operand}(m:o.op= .makeFunc (.func f) #[] caps){d:List aR}(i:ng caps.toList=some d)
 {p v J'}(k:n key=false)(h:aQ (.mkfn f d) env J key=some (p,v,J'))(g:p):Good P aD nt env J' (ins n key) a v ((execOp a.eval o).run P w):=by
 simp only[aQ,bn]at h;obtain⟨⟨q,vs⟩,e,he⟩:=h;split at he
 . rename_i l af;obtain⟨rfl,rfl,rfl⟩:=he;have aq:=re R i e g;obtain⟨h1,j⟩:=J9 af aq.1 aq.2;refine Good.pure R ?_ (.c rfl) (by grind[V.aE,C.aE]);have:caps.map a.eval=(l.map λb=>Value.pointer (some ⟨(φ b).1,0,none⟩)).toArray:=(by grind);simp_all[execOp,Instr.makeFunc]
 grind
theorem rf(R:Rel aD nt φ S env J n a w){x:Option Operand}{b:Option aR}(c:kn x=some b){m:Option Int}(h:jV env b=some (p,m))(e:p):
 (x.map a.eval=none/\m=none)\/∃k i,x.map a.eval=some (.int k i)/\m=some i:=by
 cases x with
 |none=>grind[kn,jV]
 |some x=>
  simp[kn]at c;obtain⟨g,d,rfl⟩:=c;simp only[jV,bn]at h;obtain⟨⟨q,v⟩,f,he⟩:=h;simp at he;split at he
  . obtain⟨rfl,rfl⟩:=he;have:=(ct R d f e).1.fA;grind
  grind
theorem Dh {isSlice:Bool}{len cap:Nat}{b a:Option Value}{l h:Option Int}(d:(b=none/\l=none)\/∃k i,b=some (.int k i)/\l=some i)(c:(a=none/\h=none)\/∃k i,a=some (.int k i)/\h=some i)
 (h0:0<=l.getD 0)(h1:l.getD 0<=h.getD len)(e:h.getD len<=len)(f:len<=cap):
 (Instr.sliceBounds isSlice len cap b a none).run P w= .ok ((l.getD 0).toNat,(h.getD len).toNat,cap) w:=by
 have g:h.getD len<=cap:=by omega
 rcases d with⟨rfl,rfl⟩|⟨k,i,rfl,rfl⟩<;>rcases c with⟨rfl,rfl⟩|⟨m,j,rfl,rfl⟩<;>simp_all [Instr.sliceBounds,Instr.sliceBound,asIntOf];grind
theorem ZZ(R:Rel aD nt φ S env J n a w){i:Option Operand}(u:o.op= .slice ty x j i none)(C:P.underlying ty=some .string)
 {f:aR}{d b:Option aR}(D:bF x=some f)(t:kn j=some d)(s:kn i=some b)
 {p v J'}(F:n key=false)(h:aQ (.slcS f d b) env J key=some (p,v,J'))(y:p):Good P aD nt env J' (ins n key) a v ((execOp a.eval o).run P w):=by
 simp only[aQ,bn]at h;obtain⟨⟨H,I⟩,r,⟨pl,l⟩,q,⟨G,h⟩,m,he⟩:=h;simp at he;split at he
 . obtain⟨rfl,rfl,rfl⟩:=he;obtain⟨z,A,B,h0,h1,g⟩:=y;obtain⟨bs,E,rfl,hs⟩:=(ct R D r z).1.kq;have af:=rf R t q A;have aa:=rf R s m B;rw[vR]at h1 g;have k:=Dh (P:=P) (w:=w) (isSlice:=false) af aa h0 h1 g (d' _);rw[vR];have e:(bs.extract (l.getD 0).toNat (h.getD bs.size).toNat).data.toList=(bs.data.toList.take (h.getD bs.size).toNat).drop (l.getD 0).toNat:=(by grind[ByteArray.data_extract,Array.toList_extract,List.drop_take]);refine Good.pure R (x:= .string (bs.extract (l.getD 0).toNat (h.getD bs.size).toNat)) ?_ (.c ?_) rfl
   . simp[execOp,u,Instr.sliceAt,Instr.slice,underlying,C,E,k]
   . rw[<-e];refine .str _ ?_;rw[ByteArray.size_extract];omega
 grind
theorem aac(R:Rel aD nt φ S env J n a w){ab r:Option Operand}(U:o.op= .slice ty x ab r none)(Y:P.underlying ty=some (.slice e)){sz:Nat}(X:ev P e=some sz)
 {I:aR}{k G:Option aR}(Z:bF x=some I)(T:kn ab=some k)(Q:kn r=some G)
 {p v J'}(ar:n key=false)(h:aQ (.slc sz I k G) env J key=some (p,v,J'))(W:p):Good P aD nt env J' (ins n key) a v ((execOp a.eval o).run P w):=by
 simp only[aQ,bn]at h;obtain⟨⟨ay,az⟩,O,⟨pl,l⟩,N,⟨ax,h⟩,M,he⟩:=h;simp only at he;split at he
 . rename_i es;obtain⟨rfl,rfl,rfl⟩:=he;obtain⟨B,D,E,h0,h1,u,ag⟩:=W;obtain⟨g,cap,d,b,off,f,F,ad,av,aw,K,z,am⟩:=cj.kp (ct R Z O B).1.ed;have af:=rf R T N D;have aa:=rf R Q M E;have y:=Dh (P:=P) (w:=w) (isSlice:=true) (cap:=cap) af aa h0 h1 u ad;generalize cX:(l.getD 0).toNat=L at*;generalize an:(h.getD (es.length:Int)).toNat=H at*;have s:((es.take H).drop L).length=H-L:=by simp;omega
   refine Good.pure R (x:= .slice (if cap=L then g else g.map (·.add (L*sz))) (H-L) (cap-L)) ?_ (.c ?_) rfl
   . simp[execOp,U,Instr.sliceAt,Instr.slice,underlying,Y,F,y,jL X]
   . show cj w S _ _;rw[<-s];have ah:∀(i:Nat) e,((es.take H).drop L)[i]?=some e->es[L+i]?=some e/\L+i<H:=(by grind);by_cases A:es=[]
     . subst A;simp;exact cj.slice [] _ _ 0 0 0 (λ_ _=>undef) (by simp) (by simp[dY]) (by simp) (by simp) (by simp) (by simp)
     . have ak:d=sz:=by
        obtain⟨c4,ap⟩:=Ch es A;grind
       subst ak;refine cj.slice _ _ _ d b (off+L*d) (λi j=>f (L+i) j) (by rw[s];omega) (by rw[s];omega) (λe he=>ag e (r0 (F2 he))) ?_ ?_ ?_
       . intro aH;have:L<H:=(by grind);rw[bB,K A];unfold Addr.add;split
         . rename_i h;simp[h]
         . rfl
       . intro i j r ai;rw[s]at r;have:=z (L+i) j (by omega) ai;rw[show off+L*d+i*d+j=off+(L+i)*d+j by rw[iv];omega];exact this
       . intro i j e t he ht;exact am _ _ _ _ (ah i e he).1 ht
 . rename_i b d off len;obtain⟨rfl,rfl,rfl⟩:=he;obtain⟨B,D,E,h0,h1,u,rfl⟩:=W;have aq:=ct R Z O B;obtain⟨g,F,K,au⟩:=bp.hc aq.1.ed;have af:=rf R T N D;have aa:=rf R Q M E;have y:=Dh (P:=P) (w:=w) (isSlice:=true) (cap:=(φ b).2-off) af aa h0 h1 u (by omega);have ao:∀(q o m:Nat),(Addr.add ⟨q,o,none⟩ m:Addr)=⟨q,o+m,none⟩:=by
    grind[Addr.add]
   have aj:k.isNone=true->l.getD 0=0:=by
    intro aH;cases k with
    |some _=>grind
    |none=>grind[jV,Option.some.injEq,Prod.mk.injEq]
   generalize l.getD 0=L at*;generalize h.getD (len:Int)=H at*;refine Good.pure R (x:= .slice (if(φ b).2-off=L.toNat then g else g.map (·.add (L.toNat*sz))) (H.toNat-L.toNat) ((φ b).2-off-L.toNat)) ?_ (.c ?_) ?_
   . simp[execOp,U,Instr.sliceAt,Instr.slice,underlying,Y,F,y,jL X]
   . by_cases aH:k.isNone=true
     . rw[ae aH];have:=aj aH;subst this;refine⟨_,rfl,λz=>?_,by omega⟩;grind
     . rw[al aH];refine⟨_,_,rfl,λz=>?_,by omega⟩;grind
   grind[V.aE,C.aE]
 grind
theorem Z0(R:Rel aD nt φ S env J n a w){k z:IntKind}(r:o.op= .slice ty x none (some (.const (.int k 0))) (some (.const (.int z 0))))(u:P.underlying ty=some (.slice e))
 {sz:Nat}(t:ev P e=some sz){m:aR}(y:bF x=some m)
 {p v J'}(A:n key=false)(h:aQ (.slc0 m) env J key=some (p,v,J'))(s:p):Good P aD nt env J' (ins n key) a v ((execOp a.eval o).run P w):=by
 simp only[aQ,bn]at h;obtain⟨⟨B,D⟩,q,he⟩:=h;simp at he;have j:∀(g:Option _) (l c:Nat),a.eval x= .slice g l c->∃a2,(execOp a.eval o).run P w= .ok (.value (.slice a2 0 0)) w:=by
  intro g l c d;have c4:∀v,a.eval (.const v)=v:=λ_=>rfl;exact⟨_,by simp[execOp,r,Instr.sliceAt,Instr.slice,underlying,u,d,jL t];rfl⟩
 split at he<;>simp only[dG,reduceCtorEq]at he
 all_goals
  obtain⟨rfl,rfl,rfl⟩:=he;have h1:=(ct R y q s).1.ed
 . obtain⟨g,cap,C,b,off,f,d,_⟩:=cj.kp h1;obtain⟨a2,i⟩:=j _ _ _ d;exact Good.pure R i (.c ⟨a2,rfl⟩) rfl
 . obtain⟨g,d⟩:=h1;obtain⟨a2,i⟩:=j _ _ _ d;exact Good.pure R i (.c ⟨a2,rfl⟩) rfl
 . obtain⟨g,d,_⟩:=bp.hc h1;obtain⟨a2,i⟩:=j _ _ _ d;exact Good.pure R i (.c ⟨a2,rfl⟩) rfl
theorem jm{b:Nat}{a:Nat×Nat}(h:w.heap[b]?=some (.cells vs.toArray E a))(j:Nat):w.cell? ⟨b,j,none⟩=vs[j]?:=by
 grind[World.cell?]
theorem tL{g:Bool×Nat}(aq:ot P ty=some g){blk off0 o:Nat}{v:V}
 (a:a' (bp φ w S) cs vs)(c:cs.all (C.aE n)=true)(i:∀j,j<vs.length->w.cell? ⟨blk,off0+j,none⟩=vs[j]?)(af:jW g.1 g.2 cs o=some v):
 ∃x,(loadVar ty ⟨blk,off0+o,none⟩).run P w= .ok x w/\cl φ w S v x/\v.aE n=true:=by
 obtain⟨h1,e,b⟩:=La aq;obtain⟨d,k,f⟩:=JM a c af b;rw[a.length]at d;grind[YP]
theorem a'.S'(h:a' (cj w S) ts xs):a' (bp φ w S) (ts.map .t) xs:=a'.ahD h
theorem H6{b sz i:Nat}(h:cZ φ w S b (.arr sz es))(k:i<es.length):
 (φ b).2≠0/\∃(vs:List Value) (E:TypeId) (xs:List Value),w.heap[(φ b).1]?=some (.cells vs.toArray E (0,0))/\vs.length=(φ b).2*sz/\(el es i).length=sz/\xs.length=sz/\a' (cj w S) (el es i) xs/\
  (∀j,j<sz->vs[i*sz+j]?=xs[j]?)/\(i+1)*sz<=vs.length:=by
 obtain⟨h1,f,a,g,bf⟩:=h;have h0:(φ b).2≠0:=by omega
 obtain⟨vs,E,aa,af,l,hs⟩:=bf h0;have c:es[i]?=some (el es i):=by grind[el]
 have e:=a _ (fp c);have d:(i+1)*sz<=vs.length:=by rw[af];exact eX _ (by omega)
 refine⟨h0,vs,E,(vs.drop (i*sz)).take sz,aa,af,e,by grind,?_,?_,d⟩
 . grind[a'.lC]
 grind
theorem Z1(R:Rel aD nt φ S env J n a w)(ag:o.op= .load ty x){g:Bool×Nat}(aq:ot P ty=some g){G:aR}(u:bF x=some G)
 {p v J'}(ad:n key=false)(h:aQ (.load g.1 g.2 G) env J key=some (p,v,J'))(s:p):Good P aD nt env J' (ins n key) a v ((execOp a.eval o).run P w):=by
 simp only[aQ,bn]at h;obtain⟨⟨ak,al⟩,r,he⟩:=h;simp only at he;have C:∀(blk off:Nat) (y:Value),a.eval x= .pointer (some ⟨blk,off,none⟩)->(loadVar ty ⟨blk,off,none⟩).run P w= .ok y w->(execOp a.eval o).run P w= .ok (.value y) w:=by
  simp_all[execOp,Instr.loadAt,Instr.sureAddr]
 split at he
 . split at he
   . rename_i cs d;simp only[bz]at he;obtain⟨v0,m,rfl,rfl,rfl⟩:=he;have h1:=(ct R u r s).1.hS;obtain⟨_,vs,E,aa,q,_⟩:=R.bO.blk _ _ d;have z:=(R.dX _ _ d).2;obtain⟨y,l,k,e⟩:=tL (n:=n) aq q z (λj _=>by rw[jm aa,h7]) m;grind[Good.pure]
   . rename_i E c d;split at he
     . rename_i O;obtain⟨Q,rfl⟩:=O;obtain⟨rfl,rfl,rfl⟩:=he;have h1:=(ct R u r s).1.hS;obtain⟨_,⟨K,Z,aa,U,V⟩,_⟩:=R.bO.blk _ _ d;have z:=(R.dX _ _ d).2;have T:K.oneCell'=true:=by rcases U with rfl|rfl<;>rfl
       have q:a' _ [.dead,c] [K,Z]:= .cons T (.cons V .nil);obtain⟨y,l,k,e⟩:=tL (n:=n) (off0:=0) (o:=1) (v:= .c c) aq q (by simp only[r5,List.all_nil,B'];exact z) (λj _=>by rw[jm aa,h7]) (by simp[jW,Q]);grind[Good.pure]
     grind
   grind
 . rename_i b sz i I;split at he
   . rename_i Y es d;simp only[bz,dV]at he;obtain⟨v0,m,rfl,rfl,rfl⟩:=he;obtain⟨B,rfl,D⟩:=s;have h1:=(ct R u r B).1.iZ;obtain⟨_,vs,E,xs,aa,af,ae,ah,q,N,_⟩:=H6 (R.bO.blk _ _ d) D;obtain⟨y,l,k,e⟩:=tL (n:=n) aq (a'.S' q) (L7 n _) (λj A=>by rw[jm aa,N j (by omega)]) (Mu m);exact Good.pure R (C _ _ _ h1 l) k e
   . rename_i Y es ai aj c d;split at he
     . grind
     . rename_i H;obtain⟨⟨a1,a2,a3,a4,a5,ab⟩,⟨vs,E,k1,k2,k3,L,k4,k5⟩,k6⟩:=R.bO.blk _ _ d;have z:=(R.dX _ _ d).2;split at he
       . rename_i F;subst F;obtain⟨rfl,rfl,rfl⟩:=he;obtain⟨B,rfl,rfl⟩:=s;have h1:=(ct R u r B).1.iZ
         obtain⟨y,l,k,e⟩:=tL (n:=n) (vs:=[L]) (o:=0) (v:= .c c) aq (.cons k5 .nil) (by simpa[bR.aE]using z) (λj A=>by
          have:j=0:=(by simpa using A);subst this
          rw[jm k1,yH,k4];rfl) (by simp[jW,H])
         exact Good.pure R (C _ _ _ h1 l) k e
       . rename_i F;simp only[bz,dV]at he;obtain⟨v0,m,rfl,rfl,rfl⟩:=he;obtain⟨B,rfl,D⟩:=s;have h1:=(ct R u r B).1.iZ;simp only[loadT,bY,b6,bz]at m;obtain⟨t,ht,rfl⟩:=m;have M:es[i]?=some (el es i):=by unfold el;rw[List.getD,e9 D];rfl
         obtain⟨am,X,W⟩:=k3 i I _ t M ht (λh=>F h.2)
         obtain⟨y,l,k,e⟩:=tL (n:=n) (φ:=φ) (cs:=[.t t]) (o:=0) (v:= .c (.t t)) aq (.cons W .nil) rfl (λj A=>by
          have:j=0:=(by simpa using A);subst this
          rw[jm k1,yH,X];rfl) (by simp[jW,H])
         exact Good.pure R (C _ _ _ h1 l) k e
   grind
 . rename_i ts I;simp only[bz,dV]at he;obtain⟨v0,m,rfl,rfl,rfl⟩:=he;obtain⟨blk,off,f,h1,aa⟩:=(ct R u r s).1.ed;have q:a' (cj w S) ts ((List.range ts.length).map f):=by
    grind[a'.lC]
   obtain⟨y,l,k,e⟩:=tL (n:=n) aq (a'.S' q) (L7 n _) (blk:=blk) (off0:=off) (λj A=>by simp_all) (Mu m);exact Good.pure R (C _ _ _ h1 l) k e
 grind
theorem L8{k:Nat}{s t:T}{b:Bool}(h:BM k s t=some b)(c:s' P ty=some k){x y:Value}(f:cj w S s x)(g:cj w S t y)(d:Nat):
 (Op.equalIn (d+1) ty x y).run P w= .ok b w:=by
 have i:∀a b:ak,(a==b)=decide (a=b):=λa b=>by grind
 unfold s' at c;unfold BM at h;split at h
 . cases h;cases f;cases g;split at c<;>simp at c;rename_i e;unfold Op.equalIn;simp only[Sem.run_bind,run_underlying e];rfl
 . simp at h;obtain⟨rfl,rfl⟩:=h;cases f;cases g;split at c<;>simp at c;rename_i e;unfold Op.equalIn;simp only[Sem.run_bind,run_underlying e,Result.andThen_ok];rfl
 . cases f with|str s1 h1=>cases g with|str l j=>
   split at c<;>simp at c;rename_i e;unfold Op.equalIn;simp only[Sem.run_bind,run_underlying e,Result.andThen_ok];simp_all[beq_toListBytes,ByteArray.toList_eq]
 grind
theorem L9{k:Nat}(h:s' P ty=some k):pX P ty=some false:=by
 grind[s',pX]
theorem TV{d:Nat}{xs j:Array Value}:∀{fs:List Field} {i:Nat} {ks:a7} {ps c:List C} {us vs:List Value} {r:Bool},zS P i fs=some ks->l1 ks ps c=some r->
 a' (bp φ w S) ps us->a' (bp φ w S) c vs->xs.toList.drop i=us->j.toList.drop i=vs->(Op.eqFields (d+1) xs j fs).run P w= .ok r w
 |[],i,ks,ps,c,us,vs,r,a,he,h1,e,aN,g=>by
  simp[zS]at a;subst a;cases ps<;>cases c<;>simp[l1]at he;subst he;rfl
 |f::fs,i,ks,ps,c,us,vs,r,a,he,h1,e,aN,g=>by
  simp[zS,bn]at a;obtain⟨⟨F,E⟩,k,A,H,B,rfl⟩:=a;unfold l1 at he;split at he
  . grind
  . rename_i G I x J y K t;cases t;simp only[bn,bz]at he;obtain⟨b,s,L,D,rfl⟩:=he;cases h1 with|cons h1 p=>
    cases e with|cons e q=>
    rename_i u M v N;have n:xs[i]?=some u:=by have:=eu (·[0]?) aN;grind
    have o:j[i]?=some v:=by have:=eu (·[0]?) g;grind
    have ih:=TV (d:=d) B D p q (by rw[<-uB,aN];rfl) (by rw[<-uB,g];rfl);have l:∀(m:Array _) (z:Value),m[i]?=some z->(part f.type m f.offset).run P w= .ok z w:=by
     simp_all[part,tD,L9]
    simp[Op.eqFields,l _ _ n,l _ _ o,L8 s A h1 e d];cases b
    all_goals simp_all
  grind
theorem YQ(R:Rel aD nt φ S env J n a w){m:TypeId}(E:o.op= .binOp op ty x y m)(j:op= .eql\/op= .neq){ks:a7}(f:G4 P ty=some ks)
 {b c:aR}(k:bF x=some b)(l:bF y=some c)
 {p v J'}(D:n key=false)(h:aQ (.eqAgg (op== .neq) ks b c) env J key=some (p,v,J'))(e:p):Good P aD nt env J' (ins n key) a v ((execOp a.eval o).run P w):=by
 simp only[aQ,bn]at h;obtain⟨⟨H,K⟩,g,⟨I,L⟩,i,he⟩:=h;simp at he;split at he
 . simp only[bz]at he;obtain⟨r,ag,rfl,rfl,rfl⟩:=he;obtain⟨us,F,u⟩:=(ct R k g e.1).1.mz;obtain⟨vs,G,z⟩:=(ct R l i e.2).1.mz;unfold G4 at f;split at f
   . rename_i fs C;have s:(eqGuard op ty x y (a.eval x) (a.eval y)).run P w= .ok () w:=(by simp_all[eqGuard]);have B:P.fieldsOf ty=fs:=(by grind[Program.fieldsOf]);have q:(Op.equal ty (.agg us.toArray) (.agg vs.toArray)).run P w= .ok r w:=by
      obtain⟨d,A⟩:∃d,Op.maxDepth=d+2:=⟨9998,rfl⟩
      grind[Op.equal,run_equalIn_struct,TV]
     have t:(binOp op ty (a.eval x) (a.eval y)).run P w= .ok (.bool (if(op== .neq)then !r else r)) w:=by
      rcases j with rfl|rfl
      . simp_all[binOp]
      simp_all[binOp]
     refine Good.pure R ?_ (.qD _) rfl;simp_all[execOp]
   grind
 grind
theorem q7{b:Nat}(h:w'.heap[b]?=w.heap[b]?)(j:Nat):w'.cell? ⟨b,j,none⟩=w.cell? ⟨b,j,none⟩:=by
 grind[World.cell?]
theorem vQ{b:Nat}{o:Obj}(h:w.heap[b]?=some o):b<w.heap.size:=(Cf.1 h).1
theorem cZ.jZ{b:Nat}{x:bR}(h:cZ φ w S b x)(h0:(φ b).2≠0):(φ b).1<w.heap.size:=by
 cases x with
 |box cs=>obtain⟨_,_,_,aa,_⟩:=h;grind
 |arr sz es=>obtain⟨_,_,_,_,bf⟩:=h;grind
 |set ks=>obtain⟨_,⟨_,_,aa,_⟩,_⟩:=h;grind
 |buf E s=>obtain⟨_,_,bf⟩:=h;grind
 |b9 E c=>obtain⟨_,⟨_,_,aa,_⟩,_⟩:=h;grind
 |cA sz es i o c=>obtain⟨_,⟨_,_,aa,_⟩,_⟩:=h;grind
theorem cZ.qi{b:Nat}{x:bR}(h:cZ φ w S b x)(h0:(φ b).2≠0):∀j,¬S (φ b).1 j:=by
 cases x with
 |box cs=>obtain⟨_,_,_,_,_,hs⟩:=h;grind
 |arr sz es=>obtain⟨_,_,_,_,bf⟩:=h;grind
 |set ks=>exact h.2.2
 |buf E s=>exact(h.2.2 h0).2
 |b9 E c=>exact h.2.2
 |cA sz es i o c=>exact h.2.2
theorem cZ.mono{y:dD}{b:Nat}{x:bR}(m:gr w S w' S)(p:∀b,n b=true->y b=φ b)(q:n b=true)(F:x.aE n=true)(aa:(φ b).2≠0->w'.heap[(φ b).1]?=w.heap[(φ b).1]?)
 (h:cZ φ w S b x):cZ y w' S b x:=by
 cases x with
 |box cs=>
  obtain⟨h0,vs,E,h1,a,f⟩:=h;simp only[cZ,p b q];refine⟨h0,vs,E,(aa h0).trans h1,a.imp λc v D ag=>bp.mono m p (by grind[bR.aE]) ag,f⟩
 |arr sz es=>
  obtain⟨h1,a,f,A,bf⟩:=h;simp only[cZ,p b q];refine⟨h1,a,f,A,λh0=>?_⟩;obtain⟨vs,E,k1,k2,k3,k4⟩:=bf h0;exact⟨vs,E,(aa h0).trans k1,k2,λi j e t he ht=>let⟨v,B,ag⟩:=k3 i j e t he ht;⟨v,B,cj.mono m ag⟩,k4⟩
 |set ks=>
  grind[cZ]
 |buf E s=>
  grind[cZ]
 |b9 E c=>
  grind[cZ,bp.mono,bR.aE]
 |cA sz es i o c=>
  grind[cZ,cj.mono,bp.mono,bR.aE]
theorem Rel.world(R:Rel aD nt φ S env J n a w)(W:Nat->Prop)(q:w'.os=w.os)(ht:w'.tape=w.tape)(p:w'.output=w.output)(hs:w.heap.size<=w'.heap.size)
 (e:∀b:Nat,b<w.heap.size->¬W b->w'.heap[b]?=w.heap[b]?)
 (dp:∀b,W b->(∀j,¬S b j)/\(∀k y,aX J k=some y->(φ k).2≠0->(φ k).1≠b)/\(aD.B b\/aD.jB.heap.size<=b)):Rel aD nt φ S env J n a w':=by
 have m:gr w S w' S:=⟨λ_ _ h=>h,λb j h=>q7 (e b (R.bO.st b j h) (λf=>(dp b f).1 j h)) j⟩
 refine⟨⟨λb x c=>?_,R.bO.inj,λb j h=>l9 (R.bO.st b j h) hs⟩,λk g v af aq=>?_,R.hJ,R.gK,R.dX,R.size,R.defers,?_,R.own,R.fix,R.fR⟩
 . have o:=R.bO.blk b x c;exact cZ.mono m (λ_ _=>rfl) (R.dX b x c).1 (R.dX b x c).2 (λh0=>e _ (o.jZ h0) (λf=>(dp _ f).2.1 b x c h0 rfl)) o
 . obtain⟨x,c,ag⟩:=R.gL k g v af aq;exact⟨x,c,cl.mono m (λ_ _=>rfl) (R.gK k g v af aq) ag⟩
 . refine⟨q.trans R.ext.os,ht.trans R.ext.tape,p.trans R.ext.output,gp R.ext.size hs,λb aB dj=>?_,R.ext.mono.trans m,R.ext.r'⟩;rw[e b (l9 aB R.ext.size) _]
   . exact R.ext.block b aB dj
   grind
theorem Rel.congr(R:Rel aD nt φ S env J n a w)(h:∀b,aX J' b=aX J b):Rel aD nt φ S env J' n a w:=
 ⟨⟨λb x c=>R.bO.blk b x (h b▸c),λb e x y c f=>R.bO.inj b e x y (h b▸c) (h e▸f),R.bO.st⟩,R.gL,R.hJ,R.gK,λb x c=>R.dX b x (h b▸c),R.size,R.defers,R.ext,λb x c=>R.own b x (h b▸c),R.fix,R.fR⟩
theorem Rel.sub(R:Rel aD nt φ S env J n a w)(h:∀b x,aX J' b=some x->aX J b=some x):Rel aD nt φ S env J' n a w:=
 ⟨⟨λb x c=>R.bO.blk b x (h b x c),λb e x y c f=>R.bO.inj b e x y (h b x c) (h e y f),R.bO.st⟩,R.gL,R.hJ,R.gK,λb x c=>R.dX b x (h b x c),R.size,R.defers,R.ext,λb x c=>R.own b x (h b x c),R.fix,R.fR⟩
theorem Rel.del(R:Rel aD nt φ S env J n a w)(b:Nat):Rel aD nt φ S env (h9 J b) n a w:=
 R.sub λk x c=>by grind[fQ]
theorem Rel.zj(R:Rel aD nt φ S env J n a w){p:dD}(e:∀b,n b=true->p b=φ b):Rel aD nt p S env J n a w:=by
 refine⟨⟨λb x c=>?_,λb f x y c o=>?_,R.bO.st⟩,λk g v af aq=>?_,R.hJ,R.gK,R.dX,R.size,R.defers,R.ext,λb x c h0=>?_,λb j=>(e b (R.fR b j)).trans (R.fix b j),R.fR⟩
 . exact cZ.mono (gr.refl w S) e (R.dX b x c).1 (R.dX b x c).2 (λ_=>rfl) (R.bO.blk b x c)
 . rw[e b (R.dX b x c).1,e f (R.dX f y o).1];exact R.bO.inj b f x y c o
 . obtain⟨x,c,ag⟩:=R.gL k g v af aq;exact⟨x,c,cl.mono (gr.refl w S) e (R.gK k g v af aq) ag⟩
 . rw[e b (R.dX b x c).1]at h0⊢;exact R.own b x c h0
theorem Rel.put (R:Rel aD nt φ S env J n a w){b:Nat}{x:bR}(t:n b=true)(A:x.aE n=true)(q:cZ φ w S b x)
 (v:(φ b).2≠0->(∀k y,aX J k=some y->k≠b->(φ k).2≠0->(φ k).1≠(φ b).1)/\(aD.B (φ b).1\/aD.jB.heap.size<=(φ b).1)):Rel aD nt φ S env (df J b x) n a w:=by
 refine⟨⟨λk y c=>?_,λk o y p c e j h0 f=>?_,R.bO.st⟩,R.gL,R.hJ,R.gK,λk y c=>?_,R.size,R.defers,R.ext,λk y c h0=>?_,R.fix,R.fR⟩
 . rw[c2]at c;split at c
   . grind
   . exact R.bO.blk k y c
 . rw[c2]at c e;split at c
   . grind
   . split at e
     . grind
     . exact R.bO.inj k o y p c e j h0 f
 . rw[c2]at c;split at c
   . grind
   . exact R.dX k y c
 . rw[c2]at c;split at c
   . grind
   . exact R.own k y c h0
def fV(φ:dD)(n:Nat)(q:Nat×Nat):dD:=λb=>if b=n then q else φ b
theorem IN{b:Nat}(a:n key=false)(h:n b=true):fV φ key q b=φ b:=by grind[fV]
theorem dw{k:Nat}:fV φ k q k=q:=by simp[fV]
theorem Rel.jt (R:Rel aD nt φ S env J n a w)(c:n key=false){x:bR}(q:Nat×Nat)(j:x.aE n=true)(e:cZ (fV φ key q) w S key x)
 (f:q.2≠0->(∀k y,aX J k=some y->(φ k).2≠0->(φ k).1≠q.1)/\(aD.B q.1\/aD.jB.heap.size<=q.1)):Rel aD nt (fV φ key q) S env (df J key x) (ins n key) a w:=by
 refine((R.zj (λb h=>IN c h)).more (λ_ h=>kz h)).put acB (bR.ho (λ_ h=>kz h) j) e ?_;rw[dw];intro h0;refine⟨λk y o p h=>?_,(f h0).2⟩;rw[IN c (R.dX k y o).1]at h⊢;grind
theorem CT{o:Obj}{b:Nat}(h:b<w.heap.size):(w.alloc o).heap[b]?=w.heap[b]?:=by
 show(w.heap.push o)[b]?=_;grind
theorem nR{o:Obj}:(w.alloc o).heap[w.heap.size]?=some o:=by
 show(w.heap.push o)[w.heap.size]?=_;simp
theorem Rel.alloc(R:Rel aD nt φ S env J n a w)(o:Obj):Rel aD nt φ S env J n a (w.alloc o):=
 R.world (λ_=>False) rfl rfl rfl (by simp) (λb c _=>CT c) (λ_ h=>h.elim)
theorem Rel.vH(R:Rel aD nt φ S env J n a w)(o:Obj):gr w S (w.alloc o) S:=
 ⟨λ_ _ h=>h,λb j h=>q7 (CT (R.bO.st b j h)) j⟩
theorem Rel.SN(R:Rel aD nt φ S env J n a w)(e:n key=false)(f:a' (bp φ w S) cs vs)(o:cs.all (C.aE n)=true)(E:TypeId):
 Rel aD nt (fV φ key (w.heap.size,1)) S env (df J key (.box cs)) (ins n key) a (w.alloc (.cells vs.toArray E)):=by
 have m:=R.vH (.cells vs.toArray E);refine(R.alloc _).jt e _ o ?_ ?_
 . simp only[cZ,dw];refine⟨by simp,vs,E,nR,f.imp λc v q ag=>bp.mono m (λb h=>IN e h) (by grind) ag,λj h=>?_⟩;have:=R.bO.st _ _ h;grind
 . intro _;refine⟨λk y p h0=>?_,.inr R.ext.size⟩;have:=(R.bO.blk k y p).jZ h0;grind
theorem tA(h:j3 P ty=some cs):∃i z,P.info? ty=some i/\i.zero=some z/\a' (bp φ w S) cs z.cells.toList/\cs.all (C.aE n)=true:=by
 grind[j3,bn,HE]
theorem JN(R:Rel aD nt φ S env J n a w)(j:o.op= .alloc ty)(b:j3 P ty=some cs)
 {p v J'}(f:n key=false)(h:aQ (.alloc cs) env J key=some (p,v,J'))(k:p):Good P aD nt env J' (ins n key) a v ((execOp a.eval o).run P w):=by
 obtain⟨rfl,rfl,rfl⟩:=h;obtain⟨i,z,g,b,d,e⟩:=tA b;have R':=R.SN f d e ty;refine⟨.pointer (some ⟨w.heap.size,0,none⟩),_,S,_,.inl ?_,.c ?_,by simp[V.aE,C.aE,ins],R'⟩
 . simp_all[execOp,Instr.alloc,zeroValue,typeInfo,newVar,newRow]
 grind[bp,dw]
theorem aad(R:Rel aD nt φ S env J n a w)(j:o.op= .box ty x){b:aR}(l:bF x=some b)
 {p v J'}(i:n key=false)(h:aQ (.box b) env J key=some (p,v,J'))(k:p):Good P aD nt env J' (ins n key) a v ((execOp a.eval o).run P w):=by
 simp only[aQ,bn,bz]at h;obtain⟨⟨m,q⟩,g,cs,f,rfl,rfl,rfl⟩:=h;have aq:=ct R l g k;obtain⟨d,e⟩:=nV aq.1 f aq.2;have R':=R.SN i d e ty;refine⟨.pointer (some ⟨w.heap.size,0,none⟩),_,S,_,.inl ?_,.c ?_,by simp[V.aE,C.aE,ins],R'⟩
 . simp[execOp,j,Instr.box,newVar,newRow]
 grind[bp,dw]
def jr{α:Type}(vs:List α)(off:Nat)(xs:List α):List α:=vs.take off++xs++vs.drop (off+xs.length)
theorem nX{vs:List α}{xs:List α}(h:off+xs.length<=vs.length)(k:Nat):
 (jr vs off xs)[k]?=if k<off then vs[k]? else if k<off+xs.length then xs[k-off]? else vs[k]?:=by
 unfold jr;by_cases h1:k<off
 . grind
 grind
theorem qg{vs:List α}{xs:List α}(h:off+xs.length<=vs.length):(jr vs off xs).length=vs.length:=by
 grind[jr]
theorem Lb{vs:List α}{x:α}{xs:List α}(h:off+(x::xs).length<=vs.length):jr (vs.set off x) (off+1) xs=jr vs off (x::xs):=by
 apply yE;grind[nX]
theorem Ka{b:Nat}(h:w.heap[b]?=some (.cells vs.toArray E (0,0)))(off:Nat)(v:Value):
 (w.setCell ⟨b,off,none⟩ v).heap[b]?=some (.cells (vs.set off v).toArray E (0,0))/\∀a,a≠b->(w.setCell ⟨b,off,none⟩ v).heap[a]?=w.heap[a]?:=by
 simp_all[World.setCell,FZ,ea]
theorem nS{b:Nat}{E:TypeId}:∀(xs:List Value) (off i:Nat) (vs:List Value) (w:World),w.heap[b]?=some (.cells vs.toArray E (0,0))->off+i+xs.length<=vs.length->(∀x,x∈xs->x.oneCell'=true)->
 ∃w',(storeCells ⟨b,off,none⟩ xs i).run P w= .ok () w'/\w'.os=w.os/\w'.tape=w.tape/\w'.output=w.output/\w'.heap.size=w.heap.size/\
  w'.heap[b]?=some (.cells (jr vs (off+i) xs).toArray E (0,0))/\∀a:Nat,a≠b->w'.heap[a]?=w.heap[a]?
 |[],off,i,vs,w,h,af,d=>⟨w,rfl,rfl,rfl,rfl,rfl,by simp[jr,h],λ_ _=>rfl⟩
 |x::xs,off,i,vs,w,h,af,d=>by
  have l:Addr.add ⟨b,off,none⟩ i=⟨b,off+i,none⟩:=by grind[Addr.add]
  have aB:off+i<vs.length:=by grind
  have m:w.cell? ⟨b,off+i,none⟩=some vs[off+i]:=by rw[jm h];simp
  have n:w.frozen? ⟨b,off+i,none⟩=false:=by grind[World.frozen?]
  have hs:=Ka h (off+i) x;obtain⟨w',h1,e,f,g,bf,k,j⟩:=nS xs off (i+1) _ _ hs.1 (by grind) (λy o=>d y (by grind));refine⟨w',?_,e,f,g,by simp_all,?_,λa c=>(j a c).trans (hs.2 a c)⟩
  . simp_all[storeCells,run_store]
  grind[Lb]
theorem a'.fill{c:Type}{R:α->c->Prop}{cs a:List α}{vs xs:List c}(h:a' R cs vs)(k:a' R a xs)(o:Nat):a' R (cs.take o++a++cs.drop (o+a.length)) (jr vs o xs):=by
 rw[k.length];exact((h.take o).append k).append (h.drop _)
theorem Je(h:a' (bp φ w S) cs xs):∀x,x∈xs->x.oneCell'=true:=by
 induction h with
 |nil=>simp
 |cons h _ ih=>
  intro x a;rcases eJ.1 a with rfl|a
  . exact bp.jc h
  grind
theorem cl.undef:cl φ w S (.aY []) undef:= .aY [] [] rfl (by simp)
theorem rh:∀{cs:List C} {ts:List T} {xs:List Value},toTs cs=some ts->a' (bp φ w S) cs xs->a' (cj w S) ts xs
 |[],ts,xs,h,b=>by simp[toTs]at h;subst h;cases b;exact .nil
 |c::cs,ts,xs,h,b=>by
  simp[toTs,bn,bz]at h;obtain⟨t,ht,f,e,rfl⟩:=h;cases b with
  |cons h1 d=>
   refine .cons ?_ (rh e d);unfold toT at ht;split at ht<;>simp at ht
   . subst ht;exact h1
   . subst ht;obtain⟨a,rfl⟩:=h1;exact cj.slice [] a 0 0 0 0 (λ_ _=>undef) (by simp) (by simp) (by simp) (by simp) (by simp) (by simp)
theorem wA:∀{cs:List C} {ts:List T},toTs cs=some ts->ts.length=cs.length
 |[],ts,h=>by grind[toTs]
 |c::cs,ts,h=>by
  simp[toTs,bn,bz]at h;obtain⟨t,ht,b,a,rfl⟩:=h;simp[wA a]
theorem H7{n:Nat->Bool}{cs a:List C}(h:cs.all (C.aE n)=true)(k:a.all (C.aE n)=true)(o:Nat):(vc cs o a).all (C.aE n)=true:=by
 grind[vc]
theorem vW{vs:List α}{p:Nat}{x:α}(h:p<vs.length)(q:Nat):(jr vs (p+0) [x])[q]?=if q=p then some x else vs[q]?:=by
 grind[nX]
theorem zI{sz i j a b:Nat}(d:j<sz)(e:b<sz)(h:i*sz+j=a*sz+b):i=a/\j=b:=by
 rcases Nat.lt_trichotomy i a with c|c|c
 . have:=eX sz (show i+1<=a from c);grind
 . grind
 . have:=eX sz (show a+1<=i from c);grind
theorem Rel.rewrite(R:Rel aD nt φ S env J n a w){b:Nat}{x t:bR}(o:aX J b=some x)(h0:(φ b).2≠0)(H:t.aE n=true)
 (G:w'.os=w.os)(ht:w'.tape=w.tape)(F:w'.output=w.output)(hs:w'.heap.size=w.heap.size)(v:∀p:Nat,p≠(φ b).1->w'.heap[p]?=w.heap[p]?)
 (E:gr w S w' S->cZ φ w' S b t):Rel aD nt φ S env (df J b t) n a w':=by
 have A:=R.bO.blk b x o
 have B:=(R.del b).world _ G ht F (wK hs.symm) (λk _ c=>v k c) (λk c=>by
  subst c;refine⟨A.qi h0,λk y f c=>?_,R.own b x o h0⟩;rw[fQ]at f;split at f
  . grind
  . rename_i q
    exactλe=>R.bO.inj k b y x f o (ea q) c h0 e)
 have m:gr w S w' S:=⟨λ_ _ h=>h,λk j h=>q7 (v k (λe=>A.qi h0 j (e▸h))) j⟩
 have D:=B.put (R.dX b x o).1 H (E m) (λ_=>⟨λk y f q c=>by
  rw[fQ]at f;split at f
  . grind
  . exact R.bO.inj k b y x f o q c h0,R.own b x o h0⟩)
 refine D.congr λk=>?_;grind[c2,fQ]
theorem YR(R:Rel aD nt φ S env J n a w)(bj:o.op= .store ty x y){k:Nat}(bi:ev P ty=some k){aB aC:aR}(s:bF x=some aB)(ab:bF y=some aC)
 {p v J'}(bh:n key=false)(h:aQ (.store k aB aC) env J key=some (p,v,J'))(H:p):Good P aD nt env J' (ins n key) a v ((execOp a.eval o).run P w):=by
 simp only [aQ,bn,eG] at h;obtain ⟨⟨br,bt⟩,V,⟨bs,bu⟩,W,cs,L,Y,he⟩:= h;simp only at he L;have Z:∀ (blk off:Nat) (xs:List Value) (w':World),a.eval x = .pointer (some ⟨blk,off,none⟩)->(a.eval y).cells.toList = xs->xs.length = k->(storeCells ⟨blk,off,none⟩ xs 0).run P w = .ok () w'->
  (execOp a.eval o).run P w= .ok .skip w':=by
  intro blk off xs w' h1 aG be bg;have bf:(a.eval y).cells.size=k:=by grind
  simp_all[execOp,Instr.storeAt,Instr.sureAddr,storeVar,jL]
 split at he
 . rename_i b d;split at he
   . rename_i bd g;simp only[eG,dG,dV]at he;obtain⟨am,rfl,rfl,rfl⟩:=he;have h1:=(ct R s V H.1).1.hS;have l:=ct R ab W H.2;obtain⟨f,z⟩:=nV l.1 L l.2;obtain⟨h0,vs,E,aa,aI,Q⟩:=R.bO.blk _ _ g;have bm:=aI.length;have A:(a.eval y).cells.toList.length=k:=by rw[<-f.length,Y]
     obtain⟨w',ag,k1,k2,k3,k4,k5,k6⟩:=nS (P:=P) _ d 0 vs w aa (by omega) (Je f);refine⟨undef,φ,S,w',.inr ⟨Z _ _ _ w' h1 rfl A ag,rfl⟩,.undef,rfl,Rel.more ?_ λ_ h=>kz h⟩;refine R.rewrite g h0 (by simpa[bR.aE]using H7 ((R.dX _ _ g).2) z d) k1 k2 k3 k4 k6 (λm=>?_);refine⟨h0,_,E,k5,?_,Q⟩;exact(aI.imp λc v av ag=>bp.mono m (λ_ _=>rfl) (fK.1 (R.dX _ _ g).2 c av) ag).fill (f.imp λc v av ag=>bp.mono m (λ_ _=>rfl) (fK.1 z c av) ag) d
   . rename_i E aF g;split at he
     . rename_i c;simp only[dG,dV]at he;obtain⟨rfl,rfl,rfl⟩:=he;have h1:=(ct R s V H.1).1.hS;have l:=ct R ab W H.2;obtain⟨f,z⟩:=nV l.1 L l.2;obtain⟨h0,⟨aN,bc,aa,aZ,bk⟩,Q⟩:=R.bO.blk _ _ g;have A:(a.eval y).cells.toList.length=k:=by rw[<-f.length,Y]
       have X:k=1:=by rw[<-Y];rfl
       obtain⟨r,K⟩:∃r,(a.eval y).cells.toList=[r]:=by
        match h:(a.eval y).cells.toList with
        |[r]=>exact⟨r,rfl⟩
        |[]=>rw[h]at A;simp at A;omega
        |_::_::_=>rw[h]at A;simp at A;omega
       obtain⟨w',ag,k1,k2,k3,k4,k5,k6⟩:=nS (P:=P) (a.eval y).cells.toList 1 0 [aN,bc] w (b:=(φ b).1) (E:=E) aa (by rw[K];simp) (Je f);rw[K]at f k5;cases f with|cons aw _=>
       have D:c.aE n=true:=(by simpa using z);refine⟨undef,φ,S,w',.inr ⟨Z _ _ _ w' h1 rfl A ag,rfl⟩,.undef,rfl,Rel.more ?_ λ_ h=>kz h⟩;refine R.rewrite g h0 (by simpa[bR.aE]using D) k1 k2 k3 k4 k6 (λm=>?_);exact⟨h0,⟨aN,r,k5,aZ,bp.mono m (λ_ _=>rfl) D aw⟩,Q⟩
     . cases he
   grind
 . rename_i b sz i d;have aA:∀{c:C} {xs:List Value},a' (bp φ w S) [c] xs->∃x,xs=[x]/\bp φ w S c x:=by
    intro c xs h;cases h with|cons h1 aG=>cases aG;grind
   split at he
   . rename_i a9 es g;split at he
     . rename_i c aY;have aw:cs=[c]:=by
        unfold yP at aY;grind
       subst aw;obtain⟨rfl,rfl,rfl⟩:=he;obtain⟨T,U,rfl,F,aL⟩:=H;have h1:=(ct R s V T).1.iZ;have l:=ct R ab W U;obtain⟨f,z⟩:=nV l.1 L l.2;have X:k=1:=by rw[<-Y];rfl
       obtain⟨r,K,I⟩:=aA f;have ai:=R.bO.blk _ _ g;obtain⟨h0,vs,E,xs,aa,af,aU,A,au,ax,am⟩:=H6 ai F;obtain⟨ao,ap,ah,aq,ar⟩:=ai;obtain⟨bb,aO,aj,aX,az,Q⟩:=ar h0;rw[aa]at aj;cases aj;rw[iv]at am;have G:i*sz+d<vs.length:=(by omega);obtain⟨w',ag,k1,k2,k3,k4,k5,k6⟩:=nS (P:=P) [r] (i*sz+d) 0 vs w aa (by simp;omega) (λx s=>by rw[oC.1 s];exact bp.jc I);refine⟨undef,φ,S,w',.inr ⟨Z _ _ _ w' h1 K (by simp[X]) ag,rfl⟩,.undef,rfl,Rel.more ?_ λ_ h=>kz h⟩;have D:c.aE n=true:=(by simpa using z);refine R.rewrite g h0 (by simpa[bR.aE]using D) k1 k2 k3 k4 k6 (λm=>?_);refine⟨⟨ao,ap,ah,aq,F,by omega⟩,⟨_,E,k5,by rw[qg (by simp;omega)];exact af,λB j e t he ht O=>?_,r,?_,bp.mono m (λ_ _=>rfl) D I⟩,Q⟩
       . obtain⟨v,q,ag⟩:=az _ _ _ _ he ht;have u:j<sz:=by rw[<-ah _ (fp he)];exact(dS.1 ht).1
         rw[vW G,al (λe=>O (zI u (by omega) e))];exact⟨v,q,cj.mono m ag⟩
       . rw[vW G,ae rfl]
     simp only[bn,dG,dV]at he;obtain⟨ts,aM,rfl,rfl,rfl⟩:=he;obtain⟨T,U,rfl,F,aL⟩:=H;have h1:=(ct R s V T).1.iZ;have l:=ct R ab W U;obtain⟨f,z⟩:=nV l.1 L l.2;have a6:=rh aM f;have bl:=wA aM;have ai:=R.bO.blk _ _ g;obtain⟨h0,vs,E,xs,aa,af,aU,A,au,ax,am⟩:=H6 ai F;obtain⟨ao,ap,ah,aq,ar⟩:=ai;obtain⟨bb,aO,aj,aX,az,Q⟩:=ar h0;rw[aa]at aj;cases aj;rw[iv]at am;have a8:(a.eval y).cells.toList.length=k:=by rw[<-f.length,Y]
     obtain⟨w',ag,k1,k2,k3,k4,k5,k6⟩:=nS (P:=P) _ (i*sz+d) 0 vs w aa (by omega) (Je f);have a0:=ag;refine⟨undef,φ,S,w',.inr ⟨Z _ _ _ w' h1 rfl a8 a0,rfl⟩,.undef,rfl,Rel.more ?_ λ_ h=>kz h⟩;refine R.rewrite g h0 rfl k1 k2 k3 k4 k6 (λm=>?_);refine⟨by simpa using ao,by simpa using ap,?_,aq,λ_=>⟨_,E,k5,by rw[qg (by omega)];exact af,?_,Q⟩⟩
     . intro e he;rcases Ci he with he|rfl
       . exact ah e he
       . simp;omega
     . intro B j e t he ht;rw[yH,nX (by omega)];rw[B5]at he;by_cases N:i=B
       . subst N;rw[ae rfl,ae F]at he;cases he;have aW:=(dS.1 ht).1;simp at aW;have u:j<sz:=(by omega);have M:=(nX (vs:=el es i) (off:=d) (xs:=ts) (by omega) j)
         unfold jr at M;rw[show d+ts.length=d+k by omega]at M;rw[M]at ht;by_cases ad:j<d
         . rw[ae ad]at ht;rw[fz,ax j u];obtain⟨v,q,ag⟩:=au.get ht;exact⟨v,q,cj.mono m ag⟩
         . rw[al ad]at ht;rw[bB];by_cases an:j<d+k
           . rw[fz]at ht;rw[fz,show i*sz+j-(i*sz+d)=j-d by omega];obtain⟨v,q,ag⟩:=a6.get ht;exact⟨v,q,cj.mono m ag⟩
           . rw[bB]at ht;rw[bB,ax j u];obtain⟨v,q,ag⟩:=au.get ht;exact⟨v,q,cj.mono m ag⟩
       . rw[al N]at he;obtain⟨v,q,ag⟩:=az _ _ _ _ he ht;have u:j<sz:=by rw[<-ah _ (fp he)];exact(dS.1 ht).1
         have:B*sz+j<i*sz+d\/i*sz+d+k<=B*sz+j:=by
          rcases Nat.lt_or_gt_of_ne N with h|h
          . right;have:=eX sz (show i+1<=B from h);grind
          . left;have:=eX sz (show B+1<=i from h);grind
         rcases this with h|h
         . rw[ae h];exact⟨v,q,cj.mono m ag⟩
         . rw[bB,bB];exact⟨v,q,cj.mono m ag⟩
   . rename_i a9 es bo bq aF g;obtain⟨⟨a1,a2,a3,a4,a5,ak⟩,⟨vs,E,b1,b2,b3,aS,b4,aP⟩,aE⟩:=R.bO.blk _ _ g;have aH:aF.aE n=true:=(by simpa[bR.aE]using(R.dX _ _ g).2);have h0:(φ b).2≠0:=(by omega);split at he
     . rename_i c;have X:k=1:=by rw[<-Y];rfl
       split at he
       . rename_i ay;subst ay;obtain⟨rfl,rfl,rfl⟩:=he;obtain⟨T,U,rfl,rfl⟩:=H;have h1:=(ct R s V T).1.iZ;have l:=ct R ab W U;obtain⟨f,z⟩:=nV l.1 L l.2;obtain⟨r,K,I⟩:=aA f;have G:i*sz+d<vs.length:=by
          rw[b2];have:=eX sz (show i+1<=(φ b).2 by omega);rw[iv]at this;omega
         obtain⟨w',ag,k1,k2,k3,k4,k5,k6⟩:=nS (P:=P) [r] (i*sz+d) 0 vs w b1 (by simp;omega) (λx s=>by rw[oC.1 s];exact bp.jc I);refine⟨undef,φ,S,w',.inr ⟨Z _ _ _ w' h1 K (by simp[X]) ag,rfl⟩,.undef,rfl,Rel.more ?_ λ_ h=>kz h⟩;have D:c.aE n=true:=(by simpa using z);refine R.rewrite g h0 (by simpa[bR.aE]using D) k1 k2 k3 k4 k6 (λm=>?_);refine⟨⟨a1,a2,a3,a4,a5,ak⟩,⟨_,E,k5,by rw[qg (by simp;omega)];exact b2,λB j e t he ht O=>?_,r,?_,bp.mono m (λ_ _=>rfl) D I⟩,aE⟩
         . obtain⟨v,q,ag⟩:=b3 _ _ _ _ he ht O;have u:j<sz:=by rw[<-a3 _ (fp he)];exact(dS.1 ht).1
           rw[vW G,al (λe=>O (zI u ak e))];exact⟨v,q,cj.mono m ag⟩
         . rw[vW G,ae rfl]
       . rename_i ay;simp only[bn,dG,dV]at he;obtain⟨t,aT,rfl,rfl,rfl⟩:=he;obtain⟨T,U,rfl,F,aL⟩:=H;have h1:=(ct R s V T).1.iZ;have l:=ct R ab W U;obtain⟨f,z⟩:=nV l.1 L l.2;obtain⟨r,K,I⟩:=aA f;have a7:cj w S t r:=by
          have h1:=rh (cs:=[c]) (ts:=[t]) (xs:=[r]) (by simp[toTs,aT]) (.cons I .nil);cases h1 with|cons h _=>grind
         have G:i*sz+d<vs.length:=by
          have:=eX sz (show i+1<=(φ b).2 by omega);rw[iv]at this;omega
         obtain⟨w',ag,k1,k2,k3,k4,k5,k6⟩:=nS (P:=P) [r] (i*sz+d) 0 vs w b1 (by simp;omega) (λx s=>by rw[oC.1 s];exact bp.jc I);refine⟨undef,φ,S,w',.inr ⟨Z _ _ _ w' h1 K (by simp[X]) ag,rfl⟩,.undef,rfl,Rel.more ?_ λ_ h=>kz h⟩;refine R.rewrite g h0 (by simpa[bR.aE]using aH) k1 k2 k3 k4 k6 (λm=>?_);have aJ:es[i]?=some (el es i):=by unfold el;rw[List.getD,e9 F];rfl
         have aV:(el es i).length=sz:=a3 _ (fp aJ);refine⟨⟨by grind,by simpa using a2,λe he=>?_,a4,by simpa using a5,ak⟩,⟨_,E,k5,by rw[qg (by simp;omega)];exact b2,λB j e ba he ht O=>?_,aS,?_,bp.mono m (λ_ _=>rfl) aH aP⟩,aE⟩
         . rcases Ci he with he|rfl
           . exact a3 e he
           . simp;omega
         . rw[vW G];rw[B5]at he;by_cases N:i=B
           . subst N;rw[ae rfl,ae F]at he;cases he;have M:=(nX (vs:=el es i) (off:=d) (xs:=[t]) (by simp;omega) j)
             unfold jr at M;rw[show d+[t].length=d+k by simp[X]]at M;rw[M]at ht;by_cases ad:j=d
             . subst ad;rw[bB,fz,Ca]at ht;cases ht;rw[ae rfl];exact⟨r,rfl,cj.mono m a7⟩
             . have aK:(el es i)[j]?=some ba:=by
                by_cases an:j<d
                . rwa [ae an]at ht
                . rwa [al an,bB]at ht
               have u:j<sz:=by rw[<-aV];exact(dS.1 aK).1
               obtain⟨v,q,ag⟩:=b3 _ _ _ _ aJ aK O;rw[al (λe=>ad (zI u (by omega) e).2)];exact⟨v,q,cj.mono m ag⟩
           . rw[al N]at he;obtain⟨v,q,ag⟩:=b3 _ _ _ _ he ht O;have u:j<sz:=by rw[<-a3 _ (fp he)];exact(dS.1 ht).1
             rw[al (λe=>N (zI u (by omega) e).1.symm)];exact⟨v,q,cj.mono m ag⟩
         . rw[vW G,al (λe=>ay (zI ak (by omega) e).2.symm)];exact b4
     . cases he
   . cases he
 . cases he
theorem Lc:∀(xs:List Value) (k off:Nat) (cs:Array Value),off+k+xs.length<=cs.size->
 (((xs.zipIdx k).foldl (λcs (c,j)=>cs.setIfInBounds (off+j) c) cs):Array Value).toList=jr cs.toList (off+k) xs
 |[],k,off,cs,h=>by simp[jr]
 |x::xs,k,off,cs,h=>by
  rw[List.zipIdx_cons,List.foldl_cons,Lc xs _ _ _ (by grind)];grind[Lb]
theorem IG{a:Array Value}{i:Nat}{r:List (Nat×Value)}{sz:Nat}(b:place i=some (off,sz))(h1:v.cells.size=sz)(c:off+sz<=a.size):
 Instr.fill place a ((i,v)::r)=Instr.fill place (jr a.toList off v.cells.toList).toArray r:=by
 simp only[Instr.fill,b];rw[al (by grind)]
 congr 1
 have:=Lc v.cells.toList 0 off a (by grind);rw[<-Array.foldl_toList];grind
theorem Kb {fs:Array Field}{place:Nat->Option (Nat×Nat)}(R:Rel aD nt φ S env J n a w)
 (o:∀(j:Nat) f k,fs[j]?=some f->ev P f.type=some k->place j=some (f.offset,k)):
 ∀{parts:List (Nat×Operand)} {ps:List (Nat×Nat×aR)} {cs:List C} {vs:List Value} {p:Prop} {b:List C},vO P fs parts=some ps->lr env cs ps=some (p,b)->p->
  a' (bp φ w S) cs vs->cs.all (C.aE n)=true->
  ∃us:List Value,Instr.fill place vs.toArray (parts.map λ(i,x)=>(i,a.eval x))=some us.toArray/\a' (bp φ w S) b us/\b.all (C.aE n)=true
 |[],ps,cs,vs,p,b,g,d,e,c,l=>by
  grind[vO,lr,Instr.fill]
 |(j,x)::r,ps,cs,vs,p,b,g,d,e,c,l=>by
  simp[vO,bn,bz]at g;obtain⟨f,y,k,z,E,D,L,A,rfl⟩:=g;simp only[lr,bn,eG,bz]at d;obtain⟨⟨q,v⟩,aq,es,u,⟨h1,G⟩,⟨M,F⟩,t,rfl,rfl⟩:=d;have m:=ct R D aq e.1;obtain⟨s,B⟩:=nV m.1 u m.2;have af:=c.length;have K:=s.length;obtain⟨us,H,I,bf⟩:=Kb R o A t e.2 (by exact c.fill s _) (H7 l B _);simp;rw[IG (o j f k y z) (by grind) (by grind)];grind
theorem TW{place:Nat->Option (Nat×Nat)}{m:Nat}(R:Rel aD nt φ S env J n a w)(l:∀j,place j=some (j*m,m)):
 ∀{parts:List (Nat×Operand)} {ps:List (Nat×Nat×aR)} {cs:List C} {vs:List Value} {p:Prop} {b:List C},vV m parts=some ps->lr env cs ps=some (p,b)->p->
  a' (bp φ w S) cs vs->cs.all (C.aE n)=true->
  ∃us:List Value,Instr.fill place vs.toArray (parts.map λ(i,x)=>(i,a.eval x))=some us.toArray/\a' (bp φ w S) b us/\b.all (C.aE n)=true
 |[],ps,cs,vs,p,b,f,d,e,c,g=>by
  grind[vV,lr,Instr.fill]
 |(j,x)::r,ps,cs,vs,p,b,f,d,e,c,g=>by
  simp[vV,bn,bz]at f;obtain⟨A,z,H,u,rfl⟩:=f;simp only[lr,bn,eG,bz]at d;obtain⟨⟨q,v⟩,aq,es,t,⟨h1,D⟩,⟨I,B⟩,s,rfl,rfl⟩:=d;have k:=ct R z aq e.1;obtain⟨o,y⟩:=nV k.1 t k.2;have af:=c.length;have G:=o.length;obtain⟨us,E,F,bf⟩:=TW R l u s e.2 (by exact c.fill o _) (H7 g y _);simp;rw[IG (l j) (by grind) (by grind)];grind
theorem Z2{fs:List Field}(h:∀f,f∈fs->∃k,ev P f.type=some k):
 ∃ps:List (Nat×Nat),(fs.mapM λf=>do pure (f.offset,<-sizeOf f.type):Sem (List (Nat×Nat))).run P w= .ok ps w/\ps.length=fs.length/\∀(j:Nat) f k,fs[j]?=some f->ev P f.type=some k->ps[j]?=some (f.offset,k):=by
 induction fs with
 |nil=>simp
 |cons f fs ih=>
  obtain⟨ps,h1,af,a⟩:=ih λf b=>h f (by grind);obtain⟨k,c⟩:=h f (by simp);refine⟨(f.offset,k)::ps,?_,by grind,?_⟩
  . simp_all[jL]
  grind
theorem YS(R:Rel aD nt φ S env J n a w){parts:Array (Nat×Operand)}(l:o.op= .build ty parts)(s:P.underlying ty=some (.struct fs))(A:Hd P fs=true)
 {z:List C}(t:j3 P ty=some z){ps:List (Nat×Nat×aR)}(r:vO P fs parts.toList=some ps)
 {p v J'}(g:n key=false)(h:aQ (.build z ps) env J key=some (p,v,J'))(m:p):Good P aD nt env J' (ins n key) a v ((execOp a.eval o).run P w):=by
 simp only[aQ,bz]at h;obtain⟨⟨q,u⟩,d,rfl,rfl,rfl⟩:=h;obtain⟨i,I,B,H,c,e⟩:=tA t
 obtain⟨pl,D,F,G⟩:=Z2 (P:=P) (w:=w) (fs:=fs.toList) (by
  grind[Hd,Option.isSome_iff_exists])
 have E:(fs.mapM λf=>do pure (f.offset,<-sizeOf f.type):Sem _).run P w= .ok pl.toArray w:=by
  simp_all[Array.mapM_eq_mapM_toList]
 obtain⟨us,h1,b,x⟩:=Kb (place:=(pl.toArray[·]?)) R (λj f k y g=>by grind) r d m c e;refine Good.pure R ?_ (.agg b) (by grind[V.aE]);simp only[execOp,l,Instr.build,zeroValue,typeInfo,Sem.run_bind,run_program,Result.andThen_ok,Sem.run_pure,underlying,s];simp_all
theorem YB(R:Rel aD nt φ S env J n a w){parts:Array (Nat×Operand)}(r:o.op= .build ty parts){len:Nat}(u:P.underlying ty=some (.array len e)){m:Nat}(l:ev P e=some m)
 {z:List C}(y:j3 P ty=some z){ps:List (Nat×Nat×aR)}(t:vV m parts.toList=some ps)
 {p v J'}(F:n key=false)(h:aQ (.build z ps) env J key=some (p,v,J'))(s:p):Good P aD nt env J' (ins n key) a v ((execOp a.eval o).run P w):=by
 simp only[aQ,bz]at h;obtain⟨⟨q,D⟩,f,rfl,rfl,rfl⟩:=h;obtain⟨i,B,k,A,d,g⟩:=tA y;obtain⟨us,h1,c,E⟩:=TW R (λj=>rfl) t f s d g;refine Good.pure R ?_ (.agg c) (by grind[V.aE]);have b:Instr.fill (λi=>some (i*m,m)) B.cells ((parts.map λ(i,x)=>(i,a.eval x)).toList)=some us.toArray:=by simp_all
 simp at b;simp[execOp,r,Instr.build,zeroValue,typeInfo,k,A,underlying,u,jL l,b]
def iK(w:World)(S:dU)(sz:Nat)(es:List (List T))(vs:List Value):Prop:=
 ∀(i j:Nat) e t,es[i]?=some e->e[j]?=some t->∃v,vs[i*sz+j]?=some v/\cj w S t v
theorem HF{sz:Nat}(R:Rel aD nt φ S env J n a w)(h0:0<sz):
 ∀{parts:List (Nat×Operand)} {ps:List (Nat×aR)} {es:List (List T)} {vs:List Value} {p:Prop} {c:List (List T)},pS parts=some ps->jQ env sz es ps=some (p,c)->p->
  (∀e,e∈es->e.length=sz)->vs.length=es.length*sz->iK w S sz es vs->
  ∃us:List Value,Instr.fill (λi=>some (i*sz,sz)) vs.toArray (parts.map λ(i,x)=>(i,a.eval x))=some us.toArray/\(∀e,e∈c->e.length=sz)/\c.length=es.length/\us.length=vs.length/\iK w S sz c us/\(∀u,u∈us->u∈us)
 |[],ps,es,vs,p,c,k,d,g,y,af,ag=>by
  grind[pS,jQ,Instr.fill]
 |(b,x)::r,ps,es,vs,p,c,k,d,g,y,af,ag=>by
  simp[pS,bn,bz]at k;obtain⟨H,G,Q,D,rfl⟩:=k;simp only[jQ,bn,eG,bz]at d;obtain⟨⟨q,v⟩,aq,cs,C,ts,E,⟨h1,l⟩,⟨U,I⟩,B,rfl,rfl⟩:=d;have m:=ct R G aq g.1;obtain⟨F,O⟩:=nV m.1 C m.2;have s:=rh E F;have P:=s.length;have N:b*sz+sz<=vs.length:=by
   have:=eX sz (show b+1<=es.length from l);grind
  obtain ⟨us,K,z,bf,L,A,M⟩:= HF R h0 D B g.2 (vs:= jr vs (b*sz) (a.eval x).cells.toList) (by
   grind) (by grind[qg]) (by
   intro i j e t he ht;rw[nX (by omega)];rw[B5]at he;by_cases f:b=i
   . subst f;rw[ae rfl,ae l]at he;cases he;have o:=(dS.1 ht).1;rw[bw,fz,show b*sz+j-b*sz=j by simp];exact s.get ht
   . rw[al f]at he;have o:=(dS.1 ht).1;rw[y _ (fp he)]at o;rcases Nat.lt_or_gt_of_ne f with h|h
     . have:=eX sz (show b+1<=i from h);rw[iv]at this;rw[bB,bB];exact ag _ _ _ _ he ht
     . have:=eX sz (show i+1<=b from h);rw[iv]at this;rw[fz]
       exact ag _ _ _ _ he ht)
  refine⟨us,?_,z,by grind,by grind[qg],A,λ_ h=>h⟩;simp only[gB];rw[IG rfl (by grind) (by grind)];grind
theorem Hg{z:Array Value}{sz len:Nat}(c:z.size=sz)(h0:0<sz)(i j:Nat)(a:i<len)(b:j<sz):
 ((Array.range (len*sz)).map (z[· % z.size]!))[i*sz+j]?=z[j]?:=by
 have aB:i*sz+j<len*sz:=by
  have:=eX sz (show i+1<=len from a);grind
 simp_all[oE]
theorem TX{len:Nat}{parts:Array (Nat×Value)}(g:P.underlying ty=some (.slice e)){sz:Nat}(f:ev P e=some sz){i:TypeInfo}{a:Value}(n:P.info? e=some i)(p:i.zero=some a)
 (h0:sz≠0)(o:len*sz<=2^24){b:Array Value}(k:b=(Array.range (len*sz)).map (a.cells[· % a.cells.size]!)){us:List Value}(c:Instr.fill (λi=>some (i*sz,sz)) b parts.toList=some us.toArray):
 (Instr.buildSlice ty len parts).run P w= .ok (.slice (some ⟨w.heap.size,0,none⟩) len len) (w.alloc (.cells us.toArray e)):=by
 have d:¬(len*sz>2^24):=by omega
 have m:∀w,(zeroValue e).run P w= .ok a w:=by simp_all[zeroValue,typeInfo]
 by_cases af:len*sz=0
 . have l:b=#[]:=(by grind);subst l;have j:(Array.map (λx=>(#[]:Array Value)[x%(#[]:Array Value).size]!) (Array.range (len*sz)))=#[]:=(by grind);unfold Instr.buildSlice;simp only[Sem.run_bind,run_underlying g,Result.andThen_ok,jL f,al d,ae af,Sem.run_pure,j,c];rfl
 . unfold Instr.buildSlice;subst k;simp only[Sem.run_bind,run_underlying g,Result.andThen_ok,jL f,al d,al af,Sem.run_pure,m,c];rfl
theorem Yh(R:Rel aD nt φ S env J n a w){len:Nat}{parts:Array (Nat×Operand)}(Z:o.op= .buildSlice ty len parts)(ab:P.underlying ty=some (.slice e)){sz:Nat}(aa:ev P e=some sz)
 {z:List C}(K:j3 P e=some z){ps:List (Nat×aR)}(G:pS parts.toList=some ps)(h0:sz≠0)(L:z.length=sz)(X:len*sz<=2^24)
 {p v J'}(E:n key=false)(h:aQ (.bslice sz len z ps) env J key=some (p,v,J'))(F:p):Good P aD nt env J' (ins n key) a v ((execOp a.eval o).run P w):=by
 simp only[aQ,bn,bz]at h;obtain⟨l,O,⟨q,u⟩,D,rfl,rfl,rfl⟩:=h;obtain⟨i,f,d,ah,g,U⟩:=tA (φ:=φ) (w:=w) (S:=S) (n:=n) K;have N:=rh O g;have M:f.cells.size=sz:=by rw[<-B2,<-g.length,L]
 have b:0<sz:=by omega
 have af:l.length=sz:=by grind[wA]
 obtain ⟨us,h1,A,B,T,bf,_⟩:= HF R b G D F (vs:= ((Array.range (len*sz)).map _).toList) (by
  grind) (by simp) (by
  intro i j e t he ht;have d:=(dS.1 he).1;simp at d;have:e=l:=by
   grind
  subst this;have W:=(dS.1 ht).1;obtain⟨x,ae,ag⟩:=N.get ht;rw[F0,Hg M b i j d (by omega)]
  grind)
 simp at B;have H:us.length=len*sz:=by grind
 have r:=R.alloc (.cells us.toArray e);have m:=R.vH (.cells us.toArray e);have Y:len<=dY:=by
  have:=FV len b;grind[dY]
 have s:=r.jt E (x:= .arr sz u) (w.heap.size,len) rfl (by
  simp only[cZ,dw];refine⟨by omega,by omega,A,b,λ_=>⟨us,e,nR,H,λi j e t he ht=>?_,λj h=>?_⟩⟩
  . obtain⟨v,ad,ag⟩:=bf i j e t he ht;grind[cj.mono]
  . have:=R.bO.st _ _ h
    omega) (λ_=>⟨λk y I h0=>by
     have:=(R.bO.blk k y I).jZ h0
     grind,.inr R.ext.size⟩)
 refine⟨.slice (some ⟨w.heap.size,0,none⟩) len len,_,S,_,.inl ?_,.c ⟨some ⟨w.heap.size,0,none⟩,by simp[dw],by simp[dw],by simp[dw]⟩,by simp[V.aE,C.aE,ins],s⟩;have Q:Instr.fill (λi=>some (i*sz,sz)) ((Array.range (len*sz)).map (f.cells[· % f.cells.size]!)) ((parts.map λ(i,x)=>(i,a.eval x)).toList)=some us.toArray:=by
  rw[Array.toList_map];omega
 simp_all[TX,execOp,Sem.run_bind,Result.andThen_ok]
theorem Ln(a:Nat):∀(r c:Nat),c<=2*a+192->Builtin.growBy a r c<=2*a+192
 |0,c,h=>h
 |r+1,c,h=>by
  unfold Builtin.growBy;split
  . grind
  . exact Ln _ r _ (by omega)
theorem WZ{a b:Nat}(h:b<a):Builtin.nextslicecap a b<=2*a+192:=by
 grind[Builtin.nextslicecap,Ln]
theorem Ld(a:Nat):∀(r c:Nat),c<=a+a/4+512->Builtin.growBy a r c<=a+a/4+512
 |0,c,h=>h
 |r+1,c,h=>by
  unfold Builtin.growBy;split
  . grind
  . exact Ld _ r _ (by omega)
theorem Xd{a b:Nat}(h:b<a):Builtin.nextslicecap a b<=a+a/4+512:=by
 grind[Builtin.nextslicecap,Ld]
theorem lP.not{e bytes:Nat}(h:f<e)(c:lP e bytes):¬(Builtin.nextslicecap e f*bytes>2^48):=by
 have a:=eX bytes (WZ h);have b:=eX bytes (Xd h);rcases c with c|c<;>unfold hZ at c<;>omega
theorem YT{p:α->Prop}{l m:List α}(h:∀x,x∈l->p x)(k:∀x,x∈m->p x):∀x,x∈l++m->p x:=by grind
def sn(P:Program)(w:World)(S:dU)(sz:Nat)(v:Value)(a:List (List T))(b:Option Nat):Prop:=
 (Builtin.lenOf v).run P w= .ok a.length w/\∃xs:List Value,(Builtin.firstCells sz a.length v).run P w= .ok xs.toArray w/\xs.length=a.length*sz/\iK w S sz a xs/\∀x,x∈xs->x.oneCell'=true
theorem Le{sz k len:Nat}(h0:0<sz)(a:k<len*sz):k/sz<len/\k%sz<sz/\(k/sz)*sz+k%sz=k:=
 ⟨Nat.div_lt_of_lt_mul (by grind),yL _ h0,by grind[Nat.div_add_mod]⟩
theorem iK.one{sz:Nat}{a:List (List T)}(h0:0<sz)(c:∀e,e∈a->e.length=sz)(af:xs.length=a.length*sz)(h:iK w S sz a xs):∀x,x∈xs->x.oneCell'=true:=by
 intro x f;obtain⟨k,q,t⟩:=e1 f;obtain⟨h1,j,o⟩:=Le h0 (by rw[<-af];omega);have he:=e9 h1;have p:=c _ (yF h1);have ht:(a[k/sz])[k%sz]?=some _:=e9 (by omega);obtain⟨v,y,ag⟩:=h _ _ _ _ he ht;grind[cj.jc]
theorem z'{b o m:Nat}(af:xs.length=m)(h:∀j,j<m->w.cell? ⟨b,o+j,none⟩=xs[j]?):(loadCells ⟨b,o,none⟩ m).run P w= .ok xs.toArray w:=by
 grind[run_loadCells_list,Addr.add]
theorem Z3{sz:Nat}(h0:0<sz){d:List (List T)}(u:cj w S (.slice d) v)(n:∀e,e∈d->e.length=sz):sn P w S sz v d none:=by
 obtain⟨a,cap,c,b,o,f,rfl,y,A,B,p,x,ag⟩:=cj.kp u;refine⟨by rfl,?_⟩;by_cases g:d=[]
 . subst g;refine⟨[],?_,by simp,by intro i j e t he;grind,by simp⟩;cases a with
   |none=>rfl
   |some a=>simp[Builtin.firstCells,loadCells,loadCellsFrom]
 . have s:c=sz:=by
    obtain⟨c4,z⟩:=Ch d g;grind
   subst s;rw[p g];have l:((List.range (d.length*c)).map λk=>f (k/c) (k%c)).length=d.length*c:=(by simp);have m:iK w S c d ((List.range (d.length*c)).map λk=>f (k/c) (k%c)):=by
    intro i j e t he ht;have q:=(dS.1 he).1;have r:=(dS.1 ht).1;rw[n _ (fp he)]at r;have aB:i*c+j<d.length*c:=by
     have:=eX c (show i+1<=d.length from q);grind
    simp_all[Nat.add_comm,Nat.add_mul_div_right,Nat.div_eq_of_lt,oE]
   refine⟨_,?_,l,m,iK.one h0 n l m⟩;refine z' l ?_;grind[Le]
theorem Z4{sz:Nat}(b:bp φ w S .aA v):sn P w S sz v [] none:=by
 obtain⟨a,rfl⟩:=b;refine⟨by rfl,[],?_,by simp,by intro i j e t he;grind,by simp⟩;cases a with
 |none=>rfl
 |some a=>simp[Builtin.firstCells,loadCells,loadCellsFrom]
theorem Lo{sz b:Nat}{c:List (List T)}(dj:cZ φ w S b (.arr sz c))(o:bp φ w S (.arr b sz 0 c.length) v):sn P w S sz v c (some b):=by
 obtain⟨a,rfl,l,q⟩:=bp.hc o;obtain⟨h1,p,g,k,bf⟩:=dj;refine⟨by rfl,?_⟩;by_cases h0:(φ b).2=0
 . have:c=[]:=ju (by omega);subst this;refine⟨[],?_,by simp,by intro i j e t he;grind,by simp⟩;cases a with
   |none=>rfl
   |some a=>simp[Builtin.firstCells,loadCells,loadCellsFrom]
 . obtain⟨vs,E,aa,af,ag,_⟩:=bf h0;rw[l h0];have r:c.length*sz<=vs.length:=(by simp_all[eX]);have d:(vs.take (c.length*sz)).length=c.length*sz:=(by grind);have f:iK w S sz c (vs.take (c.length*sz)):=by
    intro i j e t he ht;have m:=(dS.1 he).1;have aB:i*sz+j<c.length*sz:=by
     have:=eX sz (show i+1<=c.length from m);grind
    grind
   refine⟨_,?_,d,f,iK.one k g d f⟩;rw[Cb];refine z' d ?_;intro j n;rw[h7,jm aa,yB,ae n]
theorem sn.world{sz:Nat}{a:List (List T)}{b:Option Nat}(h:sn P w S sz v a b){m:Nat}:∃xs:List Value,xs.length=a.length*sz/\iK w S sz a xs/\(∀x,x∈xs->x.oneCell'=true):=by
 obtain⟨_,xs,_,h1,c,e⟩:=h;grind
theorem TY(z:Array Value)(m:Nat):(Builtin.zeroCells z m).size=m*z.size:=by simp[Builtin.zeroCells]
theorem TZ{st j z:TypeId}{i:TypeInfo}{c:Value}(q:P.underlying st=some (.slice e))(v:P.underlying j=some (.slice z))(g:P.info? e=some i)(D:i.zero=some c)(E:c.cells.size=i.size)
 {base:Option Addr}{sl sc a:Nat}{y:Value}{xs d:List Value}(u:(Builtin.lenOf y).run P w= .ok a w)
 (s:(Builtin.firstCells i.size sl (.slice base sl sc)).run P w.drew= .ok xs.toArray w.drew)(t:(Builtin.firstCells i.size a y).run P w.drew= .ok d.toArray w.drew)
 (o:sc<sl+a)(l:lP (sl+a) i.bytes)(B:sl+a<=dY){tt:TypeId}:
 ∃(b:Nat) (r:List Value),sl+a<=b/\r.length=(b-(sl+a))*i.size/\
  (Builtin.append_ #[st,j] tt #[.slice base sl sc,y]).run P w= .ok (.slice (some ⟨w.heap.size,0,none⟩) (sl+a) b) (w.drew.alloc (.cells (xs++d++r).toArray e)):=by
 have p:∀w,(sizeOf e).run P w= .ok i.size w:=λw=>by simp[sizeOf,typeInfo,g]
 have f:∀w,(typeInfo e).run P w= .ok i w:=λw=>by simp[typeInfo,g]
 have x:∀w,(zeroValue e).run P w= .ok c w:=λw=>by simp_all[zeroValue]
 generalize C:(Question.appendCap (sl+a) sc e).cut (w.tape w.drawn (Question.appendCap (sl+a) sc e))=b;have n:sl+a<=b:=by grind[Question.cut]
 have h1:¬(sl+a<=sc):=by omega
 have A:¬(sl+a>IntKind.i64.max/\(False\/i.bytes=0)):=by grind[IntKind.max,IntKind.bits,dY]
 have k:=by
  exact l.not o
 refine⟨b,(Builtin.zeroCells c.cells (b-(sl+a))).toList,n,by grind[TY],?_⟩;have m:(choose (.appendCap (sl+a) sc e)).run P w= .ok b w.drew:=by simp_all[Question.forced]
 have aN:(xs++d++(Builtin.zeroCells c.cells (b-(sl+a))).toList).toArray=xs.toArray++d.toArray++Builtin.zeroCells c.cells (b-(sl+a)):=by simp
 rw[aN];unfold Builtin.append_;simp only[BY,BV,BW,Sem.run_bind,run_underlying q,run_underlying v,Result.andThen_ok,p,Sem.run_pure,bY,b6,u,al h1,f];rw[al (by grind)];simp only[Sem.run_bind,Result.andThen_ok,f];rw[al k];simp only[Sem.run_bind,Result.andThen_ok,f,m,run_askRoom,s,t,x,eU,b5];rfl
theorem yV{st c m:TypeId}{i:TypeInfo}(j:P.underlying st=some (.slice e))(l:P.underlying c=some (.slice m))(f:P.info? e=some i)
 {base:Option Addr}{sl sc a:Nat}{y:Value}{d:List Value}(k:(Builtin.lenOf y).run P w= .ok a w)(p:(Builtin.firstCells i.size a y).run P w= .ok d.toArray w)(o:sl+a<=sc){w':World}
 (hs:∀b,base=some b->(storeCells (b.add (sl*i.size)) d 0).run P w= .ok () w') (n:base=none->w'=w) {tt:TypeId}:
  (Builtin.append_ #[st,c] tt #[.slice base sl sc,y]).run P w= .ok (.slice base (sl+a) sc) w':=by
 have g:∀w,(sizeOf e).run P w= .ok i.size w:=λw=>by simp[sizeOf,typeInfo,f]
 unfold Builtin.append_;simp only[BY,BV,BW,Sem.run_bind,run_underlying j,run_underlying l,Result.andThen_ok,g,Sem.run_pure,bY,b6,k];cases base<;>simp_all
theorem iK.append{sz:Nat}{a:List (List T)}{f r:List Value}(h0:0<sz)(v:∀e,e∈es->e.length=sz)(y:∀e,e∈a->e.length=sz)(B:xs.length=es.length*sz)(D:f.length=a.length*sz)
 (h1:iK w S sz es xs)(p:iK w S sz a f):iK w S sz (es++a) (xs++f++r):=by
 intro i j e t he ht;by_cases o:i<es.length
 . rw[wM o]at he;have c:=(dS.1 ht).1;rw[v _ (fp he)]at c;have:=eX sz (show i+1<=es.length from o);rw[iv]at this;rw[ir,wM (by omega)];exact h1 _ _ _ _ he ht
 . rw[wL (by omega)]at he;have c:=(dS.1 ht).1;rw[y _ (fp he)]at c;have x:=(dS.1 he).1;have A:=eX sz (show es.length<=i by omega);have q:=eX sz (show(i-es.length)+1<=a.length from x);have bf:(i-es.length)*sz=i*sz-es.length*sz:=Nat.sub_mul _ _ _;rw[iv]at q;rw[ir,wL (by omega),wM (by omega),show i*sz+j-xs.length=(i-es.length)*sz+j by omega];exact p _ _ _ _ he ht
theorem Rel.drew(R:Rel aD nt φ S env J n a w):Rel aD nt φ S env J n a w.drew:=
 R.world (λ_=>False) rfl rfl rfl (d' _) (λ_ _ _=>rfl) (λ_ h=>h.elim)
theorem Ey(R:Rel aD nt φ S env J n a w){f:aR}(u:bF y=some f){v:V}(aq:f.get env=some (p,v))(q:p){sz:Nat}(h0:0<sz){d:List (List T)×Option Nat}
 (h:mr J v=some d)(m:∀e,e∈d.1->e.length=sz):sn P w S sz (a.eval y) d.1 d.2:=by
 have c:=(ct R u aq q).1;unfold mr at h;split at h
 . cases h;exact Z3 h0 c.ed m
 . cases h;exact Z4 c.ed
 . split at h
   . rename_i b x B A _ C z g;simp at h;obtain⟨⟨h1,rfl,rfl⟩,rfl⟩:=h;subst h1;by_cases l:z=[]
     . subst l;obtain⟨o,s,_⟩:=bp.hc c.ed;rw[s];refine⟨by rfl,[],?_,by simp,by intro i j e t he;grind,by simp⟩;cases o with
       |none=>rfl
       |some a=>simp[Builtin.firstCells,loadCells,loadCellsFrom]
     . have r:x=sz:=by
        obtain⟨c4,k⟩:=Ch _ l;rw[<-(R.bO.blk _ _ g).2.2.1 _ k,m _ k]
       subst r;exact Lo (R.bO.blk _ _ g) c.ed
   grind
 grind
theorem aae{sz b len:Nat}(dj:cZ φ w S b (.arr sz es))(p:bp φ w S (.fL b sz off len) v)(r:off+len<=es.length):sn P w S sz v ((es.drop off).take len) none:=by
 obtain⟨a,cap,rfl,l,s⟩:=p;obtain⟨h1,q,g,k,bf⟩:=dj;have f:((es.drop off).take len).length=len:=by grind
 refine⟨by simp[Builtin.lenOf,f],?_⟩;rw[f];by_cases h0:len=0
 . subst h0;refine⟨[],?_,by simp,by intro i j e t he;grind,by simp⟩;cases a with
   |none=>rfl
   |some a=>simp[Builtin.firstCells,loadCells,loadCellsFrom]
 . obtain⟨vs,E,aa,af,ag,_⟩:=bf (by omega);rw[l h0];have u:off*sz+len*sz<=vs.length:=by rw[af,<-iv];exact eX _ (by omega)
   have d:((vs.drop (off*sz)).take (len*sz)).length=len*sz:=(by grind);have o:∀e,e∈(es.drop off).take len->e.length=sz:=λe he=>g e (F2 (r0 he));have c:iK w S sz ((es.drop off).take len) ((vs.drop (off*sz)).take (len*sz)):=by
    intro i j e t he ht;have m:i<len:=(by grind);have aB:i*sz+j<len*sz:=by
     have:=eX sz (show i+1<=len from m);grind
    grind
   refine⟨_,?_,d,c,iK.one k o (by grind) c⟩;refine z' d ?_;intro j n;rw[jm aa,yB,ae n,List.getElem?_drop]
theorem Z5(R:Rel aD nt φ S env J n a w){x y:Operand}{st M e aS:TypeId}(aH:o.op= .call {callee:= .builtin .append,args:=#[x,y],argTypes:=#[st,M]})
 (ah:P.underlying st=some (.slice e))(aj:P.underlying M=some (.slice aS)){i:TypeInfo}(Z:P.info? e=some i)(a2:i.size≠0)
 {O Q:aR}(aM:bF x=some O)(d:bF y=some Q){ak al:Prop}{am an:V}(ay:O.get env=some (ak,am))(az:Q.get env=some (al,an)){r}
 {p v J'}(A:oP am an=some r)(f:n key=false)(h:u0 J key i.size ak al r=some (p,v,J'))(aI:p):Good P aD nt env J' (ins n key) a v ((execOp a.eval o).run P w):=by
 have ad:∀r w',(Builtin.append_ #[st,M] o.type #[a.eval x,a.eval y]).run P w= .ok r w'->(execOp a.eval o).run P w= .ok (.value r) w':=by
  intro r w' ag;simp[execOp,aH,Go.resolve,invoke,builtin,ag]
 unfold oP at A;split at A
 . rename_i b s1 off len aT a3 D q;split at A
   . rename_i aw;subst aw;cases A;unfold u0 at h;dsimp only at h;split at h
     . rename_i a4 es s;obtain⟨rfl,rfl,rfl⟩:=h;obtain⟨aJ,aK,rfl,rfl,rfl,rfl,aZ,aF⟩:=aI;have ax:=ct R aM ay aJ;obtain⟨base,B,av,a0⟩:=bp.hc ax.1.ed;have aA:=ct R d az aK;have u:=R.bO.blk _ _ s;obtain⟨I,N,K,L,aP,aO⟩:=aae (P:=P) u aA.1.ed aF;obtain⟨aU,aV,aW,aX,au⟩:=u;have aN:((es.drop D).take q).length=q:=by simp;omega
       rw[aN]at I K L;rw[Nat.sub_zero]at B;have z:len+q<=(φ b).2:=(by omega);have h0:0<i.size:=(by omega);have F:(es.take len++(es.drop D).take q).length=len+q:=(by grind);have ab:∀U,U∈es.take len++(es.drop D).take q->U.length=i.size:=by
        grind
       by_cases g:(φ b).2=0
       . have aC:len=0:=(by omega);have aE:q=0:=(by omega);subst aC aE;have aQ:N=[]:=ju (by grind);subst aQ;have ag:=yV (tt:=o.type) ah aj Z (base:=base) (sl:=0) (sc:=(φ b).2) I K z (w':=w) (λaq _=>by simp[storeCells]) (λ_=>rfl);rw[<-B]at ag;have R':=(R.del b).jt f (x:= .arr i.size (es.take 0++(es.drop D).take 0)) (0,0) rfl (by simp only[cZ,dw];exact⟨by simp,by simp,by simp,h0,by simp⟩) (by simp);refine⟨_,_,S,w,.inl (ad _ _ ag),.c ?_,by simp[V.aE,C.aE,ins],R'⟩;exact⟨base,by simp[dw,g,B],by simp[dw],by simp[dw]⟩
       . obtain⟨vs,E,aa,ai,aL,aG⟩:=au g;have u:=R.bO.blk _ _ s;have Y:len*i.size+N.length<=vs.length:=by rw[L,ai,<-iv];exact eX _ z
         obtain⟨w',a1,k1,k2,k3,k4,k5,k6⟩:=nS (P:=P) N (len*i.size) 0 vs w aa (by omega) aO;rw[yH]at k5;have X:=av g
         have ag:=yV (tt:=o.type) ah aj Z (base:=base) (sl:=len) (sc:=(φ b).2) I K z (w':=w') (λaq aY=>by
          grind[Addr.add]) (λW=>by rw[X]at W;cases W)
         rw[<-B]at ag
         have ao:=(R.del b).world (w':=w') (λk=>k=(φ b).1) k1 k2 k3 (wK k4.symm) (λk _ f=>k6 k f) (λk f=>by
          subst f;refine⟨u.qi g,λk y d f=>?_,R.own b _ s g⟩;rw[fQ]at d;split at d
          . cases d
          . rename_i G
            exactλe=>R.bO.inj k b y _ d s (ea G) f g e)
         have m:gr w S w' S:=⟨λ_ _ h=>h,λk j h=>q7 (k6 k (λe=>u.qi g j (e▸h))) j⟩
         have ap:=ao.jt f (x:= .arr i.size _) (φ b) rfl (by
          simp only[cZ,dw];refine⟨by rw[F];exact z,by rw[F];omega,ab,h0,λ_=>⟨_,E,k5,by rw[qg Y];exact ai,λl j e t he ht=>?_,aG⟩⟩;have aB:=(dS.1 ht).1;rw[ab _ (fp he)]at aB;rw[nX Y,L];by_cases T:l<len
          . have:=eX i.size (show l+1<=len from T);rw[iv]at this;rw[fz];rw[wM (by simp;omega),yB,ae T]at he;obtain⟨v,H,ag⟩:=aL _ _ _ _ he ht;exact⟨v,H,cj.mono m ag⟩
          . have h1:=eX i.size (show len<=l by omega);have ar:l<len+q:=by rw[<-F];exact(dS.1 he).1
            have:=eX i.size (show l+1<=len+q from ar);rw[iv,iv]at this;rw[bB,fz];have af:(es.take len).length=len:=by simp;omega
            rw[wL (by omega),af]at he;have bf:(l-len)*i.size=l*i.size-len*i.size:=Nat.sub_mul _ _ _;obtain⟨v,H,ag⟩:=aP _ _ _ _ he ht;rw[show l*i.size+j-len*i.size=(l-len)*i.size+j by omega]
            exact⟨v,H,cj.mono m ag⟩) (λ_=>⟨λk y d f=>by
            rw[fQ]at d;split at d
            . cases d
            . rename_i G
              exact R.bO.inj k b y _ d s (ea G) f g,R.own b _ s g⟩)
         refine⟨_,_,S,w',.inl (ad _ _ ag),.c ?_,by simp[V.aE,C.aE,ins],ap⟩;exact⟨base,by simp[dw],by simp[dw,X],by simp[dw];omega⟩
     grind
   grind
 grind
theorem XQ(R:Rel aD nt φ S env J n a w){x y:Operand}{st au e a1:TypeId}(aY:o.op= .call {callee:= .builtin .append,args:=#[x,y],argTypes:=#[st,au]})
 (T:P.underlying st=some (.slice e))(U:P.underlying au=some (.slice a1)){i:TypeInfo}(N:P.info? e=some i)(a9:i.size≠0)(aK:(i.zero.map (·.cells.size))=some i.size)
 {aw ax:aR}(ao:bF x=some aw)(d:bF y=some ax)
 {p v J'}(f:n key=false)(h:aQ (.append i.size i.bytes aw ax) env J key=some (p,v,J'))(aE:p):Good P aD nt env J' (ins n key) a v ((execOp a.eval o).run P w):=by
 simp only[aQ,bn]at h;obtain⟨⟨ba,be⟩,al,⟨bb,bg⟩,X,he⟩:=h;split at he
 . grind[Z5]
 rename_i a';simp only[bn]at he;obtain⟨s,ab,he⟩:=he;simp only[bz]at aK;obtain⟨bh,aM,aL⟩:=aK;have h0:0<i.size:=by omega
 have Q:∀r w',(Builtin.append_ #[st,au] o.type #[a.eval x,a.eval y]).run P w= .ok r w'->(execOp a.eval o).run P w= .ok (.value r) w':=by
  intro r w' ag;simp[execOp,aY,Go.resolve,invoke,builtin,ag]
 have aC:∀b,w.heap.size<=b->∀j,¬S b j:=λb aj j aI=>by have:=R.bO.st _ _ aI;omega
 split at he
 ·
  obtain⟨rfl,rfl,rfl⟩:=he;obtain⟨Y,O,A,az,an⟩:=aE;obtain⟨base,G⟩:=(ct R ao al Y).1.ed;have dL:=Ey (P:=P) R d X O h0 ab A;by_cases F:s.1=[]
  . obtain⟨z,u,B,g,L,ad⟩:=dL;rw[F]at z B g;have aq:u=[]:=ju (by simpa using g);subst aq;have ag:=yV (tt:=o.type) T U N (base:=base) (sl:=0) (sc:=0) z B (by simp) (w':=w) (λav _=>by simp[storeCells]) (λ_=>rfl);rw[<-G]at ag;have R':=R.jt f (x:= .arr i.size s.1) (0,0) rfl (by rw[F];simp only[cZ,dw];exact⟨by simp,by simp,by simp,h0,by simp⟩) (by simp);refine⟨_,_,S,w,.inl (Q _ _ ag),.c ?_,by simp[V.aE,C.aE,ins],R'⟩;rw[F];exact⟨base,by simp[dw],by simp[dw],by simp[dw]⟩
  . have q:=R.drew;obtain⟨z,_⟩:=dL;obtain⟨_,u,B,g,L,ad⟩:=Ey (P:=P) q d X O h0 ab A;have a7:0<s.1.length:=ux.2 F;have Z:(Builtin.firstCells i.size 0 (.slice base 0 0)).run P w.drew= .ok ([]:List Value).toArray w.drew:=by
     cases base with
     |none=>rfl
     |some a=>simp[Builtin.firstCells,loadCells,loadCellsFrom]
    obtain⟨ar,r,h1,ah,ag⟩:=TZ (tt:=o.type) T U N aM aL z Z B (by omega) (by grind) (by grind);rw[<-G]at ag;have M:=q.alloc (.cells ([]++u++r).toArray e);have m:=q.vH (.cells ([]++u++r).toArray e)
    have ae:=M.jt f (x:= .arr i.size s.1) (w.heap.size,ar) rfl (by
     simp only[cZ,dw];refine⟨by omega,an,A,h0,λ_=>⟨_,e,nR,?_,?_,aC _ (d' _)⟩⟩
     . simp only[cq,jw,g,ah,h7,<-iv];congr 1;omega
     . have:=iK.append (S:=S) (w:=w.drew) (r:=r) (es:=[]) (xs:=[]) h0 (by simp) A (by simp) g (by intro i j e t he;simp at he) L;intro l j H t he ht;obtain⟨v,I,ag⟩:=this l j H t (by simpa using he) ht
       exact⟨v,I,cj.mono m ag⟩) (λ_=>⟨λk y d h0=>by
        have:=(R.bO.blk k y d).jZ h0
        omega,.inr R.ext.size⟩)
    refine⟨_,_,S,_,.inl (Q _ _ ag),.c ?_,by simp[V.aE,C.aE,ins],ae⟩;exact⟨some ⟨w.heap.size,0,none⟩,by simp[dw],by simp[dw],by simp[dw];omega⟩
 . rename_i b bc off len;split at he
   . rename_i bd es K;split at he
     . grind
     . obtain⟨rfl,rfl,rfl⟩:=he;obtain⟨Y,O,rfl,rfl,rfl,rfl,A,az,an⟩:=aE;have aU:=ct R ao al Y;have aS:=aU.1.ed;obtain⟨base,G,aT,aW⟩:=bp.hc aS;have dL:=Ey (P:=P) R d X O h0 ab A;have ai:=R.bO.blk _ _ K;have aP:=ai;obtain⟨a2,a3,af,a4,aN⟩:=aP;rw[Nat.sub_zero]at G;rw[h7]at aW;have aG:∀H,H∈es++s.1->H.length=i.size:=YT af A;by_cases aF:es.length+s.1.length<=(φ b).2
       . obtain⟨z,u,B,g,L,ad⟩:=dL;by_cases D:(φ b).2=0
         . have ak:es=[]:=ju (by omega);have ap:s.1=[]:=ju (by omega);rw[ap]at z B g;have aq:u=[]:=ju (by simpa using g);subst aq;have ag:=yV (tt:=o.type) T U N (base:=base) (sl:=es.length) (sc:=(φ b).2) z B (by simp[ak]) (w':=w) (λav _=>by simp[storeCells]) (λ_=>rfl);rw[<-G]at ag;have R':=(R.del b).jt f (x:= .arr i.size (es++s.1)) (0,0) rfl (by rw[ap,ak];simp only[cZ,dw];exact⟨by simp,by simp,by simp,h0,by simp⟩) (by simp);refine⟨_,_,S,w,.inl (Q _ _ ag),.c ?_,by simp[V.aE,C.aE,ins],R'⟩;rw[ap,ak];exact⟨base,by simp[dw,D],by simp[dw],by simp[dw]⟩
         . obtain⟨vs,E,aa,aH,aZ,aX⟩:=aN D;have aA:es.length*i.size+u.length<=vs.length:=by rw[g,aH,<-iv];exact eX _ aF
           obtain⟨w',a8,k1,k2,k3,k4,k5,k6⟩:=nS (P:=P) u (es.length*i.size) 0 vs w aa (by omega) ad;rw[yH]at k5;have W:=aT D;rw[Cb]at W
           have ag:=yV (tt:=o.type) T U N (base:=base) (sl:=es.length) (sc:=(φ b).2) z B aF (w':=w') (λav ay=>by
            rw[W]at ay;cases ay;have a6:Addr.add ⟨(φ b).1,0,none⟩ (es.length*i.size)=⟨(φ b).1,es.length*i.size,none⟩:=by unfold Addr.add;split<;>simp_all
            grind) (λaj=>by rw[W]at aj;cases aj)
           rw[<-G]at ag
           have q:=(R.del b).world (w':=w') (λk=>k=(φ b).1) k1 k2 k3 (wK k4.symm) (λk _ f=>k6 k f) (λk f=>by
            subst f;refine⟨ai.qi D,λk y d f=>?_,R.own b _ K D⟩;rw[fQ]at d;split at d
            . cases d
            . rename_i F
              exactλe=>R.bO.inj k b y _ d K (ea F) f D e)
           have m:gr w S w' S:=⟨λ_ _ h=>h,λk j h=>q7 (k6 k (λe=>ai.qi D j (e▸h))) j⟩
           have M:=q.jt f (x:= .arr i.size (es++s.1)) (φ b) rfl (by
            simp only[cZ,dw];refine⟨by simp;omega,by simp;omega,aG,h0,λ_=>⟨_,E,k5,by rw[qg aA];exact aH,?_,aX⟩⟩;intro l j H t he ht;rw[nX aA];by_cases aB:l<es.length
            . rw[wM aB]at he;have am:=(dS.1 ht).1;rw[af _ (fp he)]at am;have:=eX i.size (show l+1<=es.length from aB);rw[iv]at this;rw[fz];obtain⟨v,I,ag⟩:=aZ _ _ _ _ he ht;exact⟨v,I,cj.mono m ag⟩
            . rw[wL (by omega)]at he;have am:=(dS.1 ht).1;rw[A _ (fp he)]at am;have aV:=(dS.1 he).1;have a5:=eX i.size (show es.length<=l by omega);have aO:=eX i.size (show(l-es.length)+1<=s.1.length from aV);have bf:(l-es.length)*i.size=l*i.size-es.length*i.size:=Nat.sub_mul _ _ _;rw[iv]at aO;rw[bB,fz,show l*i.size+j-es.length*i.size=(l-es.length)*i.size+j by omega];obtain⟨v,I,ag⟩:=L _ _ _ _ he ht
              exact⟨v,I,cj.mono m ag⟩) (λ_=>⟨λk y d f=>by
              rw[fQ]at d;split at d
              . cases d
              . rename_i F
                exact R.bO.inj k b y _ d K (ea F) f D,R.own b _ K D⟩)
           refine⟨_,_,S,w',.inl (Q _ _ ag),.c ?_,by simp[V.aE,C.aE,ins],M⟩;exact⟨base,by simp[dw],by simp[dw,W],by simp[dw];omega⟩
       . have q:=R.drew;obtain⟨z,_⟩:=dL;obtain⟨_,u,B,g,L,ad⟩:=Ey (P:=P) q d X O h0 ab A;obtain⟨_,xs,Z,aJ,a0,_⟩:=Lo (P:=P) (q.bO.blk _ _ K) (ct q ao al Y).1.ed;rw[G]at Z;obtain⟨ar,r,h1,ah,ag⟩:=TZ (tt:=o.type) T U N aM aL z Z B (by omega) az an;rw[<-G]at ag;have M:=(q.del b).alloc (.cells (xs++u++r).toArray e);have m:=q.vH (.cells (xs++u++r).toArray e)
         have ae:=M.jt f (x:= .arr i.size (es++s.1)) (w.heap.size,ar) rfl (by
          simp only[cZ,dw];refine⟨by simp;omega,by simp;omega,aG,h0,λ_=>⟨_,e,nR,?_,?_,aC _ (d' _)⟩⟩
          . simp only[cq,aJ,g,ah,<-iv];congr 1;omega
          . have:=iK.append (S:=S) (w:=w.drew) (r:=r) h0 af A aJ g a0 L;intro l j H t he ht;obtain⟨v,I,ag⟩:=this l j H t he ht
            exact⟨v,I,cj.mono m ag⟩) (λ_=>⟨λk y d h0=>by
             rw[fQ]at d;split at d
             . cases d
             . have:=(R.bO.blk k y d).jZ h0
               omega,.inr R.ext.size⟩)
         refine⟨_,_,S,_,.inl (Q _ _ ag),.c ?_,by simp[V.aE,C.aE,ins],ae⟩;exact⟨some ⟨w.heap.size,0,none⟩,by simp[dw],by simp[dw],by simp[dw];omega⟩
   grind
 grind
theorem XR:∀{ts:List T} {vs:List Value},a' R ts vs->∀(i j:Nat) e t,(ts.map λt=>[t])[i]?=some e->e[j]?=some t->∃v,vs[i*1+j]?=some v/\R t v:=by
 intro ts vs h i j e t he ht;rw[r1,bz]at he;obtain⟨t0,h0,rfl⟩:=he;cases j with
 |zero=>
  obtain⟨v,a,ag⟩:=h.get h0;grind
 |succ j=>grind
theorem XS(R:Rel aD nt φ S env J n a w)(D:o.op= .alloc ty)(f:j3 P ty=some cs)(B:cs.length≠0)(A:cs.length<=2^24)
 {p v J'}(q:n key=false)(h:aQ (.allocA cs) env J key=some (p,v,J'))(E:p):Good P aD nt env J' (ins n key) a v ((execOp a.eval o).run P w):=by
 simp only[aQ,bz]at h;obtain⟨ts,d,rfl,rfl,rfl⟩:=h;obtain⟨i,z,u,f,b,s⟩:=tA (φ:=φ) (w:=w) (S:=S) (n:=n) f;have H:=rh d b;have F:=wA d;have g:=R.alloc (.cells z.cells.toList.toArray ty);have m:=R.vH (.cells z.cells.toList.toArray ty);have G:=b.length.symm
 have l:=g.jt q (x:= .arr 1 (ts.map λt=>[t])) (w.heap.size,cs.length) rfl (by
  simp only[cZ,dw,km];refine⟨by omega,by grind[dY],?_,by simp,λ_=>⟨z.cells.toList,ty,nR,by omega,λi j e t he ht=>?_,λj h=>?_⟩⟩
  . simp
  . grind[XR,cj.mono]
  . have:=R.bO.st _ _ h
    omega) (λ_=>⟨λk y r h0=>by
     have:=(R.bO.blk k y r).jZ h0
     grind,.inr R.ext.size⟩)
 refine⟨.pointer (some ⟨w.heap.size,0,none⟩),_,S,_,.inl ?_,.c ?_,by simp[V.aE,C.aE,ins],l⟩
 . simp_all[execOp,Instr.alloc,zeroValue,typeInfo,newVar,newRow]
 grind[bp,dw]
theorem Z6(R:Rel aD nt φ S env J n a w){i:Operand}(u:o.op= .indexAddr ty x i){k:Nat}(D:P.underlying ty=some (.array k e))(B:ev P e=some 1)
 {f d:aR}(E:bF x=some f)(s:bF i=some d)
 {p v J'}(F:n key=false)(h:aQ (.idxP k f d) env J key=some (p,v,J'))(y:p):Good P aD nt env J' (ins n key) a v ((execOp a.eval o).run P w):=by
 simp only[aQ,bn]at h;obtain⟨⟨I,L⟩,r,⟨H,K⟩,q,he⟩:=h;simp at he;split at he
 . rename_i b kk m;obtain⟨rfl,rfl,rfl⟩:=he;obtain⟨z,A,t,G⟩:=y;have aq:=ct R E r z;have h1:=aq.1.hS;have g:=(ct R s q A).1.fA;have j:Addr.add ⟨(φ b).1,0,none⟩ (m.toNat*1)=⟨(φ b).1,m.toNat*1+0,none⟩:=by
    grind[Addr.add]
   refine Good.pure R (x:= .pointer (some ⟨(φ b).1,m.toNat*1+0,none⟩)) ?_ (.c ?_) (by grind[V.aE,C.aE])
   . have l:0<=m/\m<k:=⟨t,by omega⟩
     simp only[execOp,u,h1,g,Instr.indexAt,asIntOf,Instr.sureAddr,Sem.run_bind,run_underlying D,Result.andThen_ok,Sem.run_pure,ae l,jL B,j]
   rfl
 grind
theorem Z7(R:Rel aD nt φ S env J n a w){i:IntKind}{m:Int}(t:o.op= .indexAddr ty x (.const (.int i m))){k:Nat}(y:P.underlying ty=some (.array k e))
 (h0:0<=m/\m.toNat<k){s:Nat}(hs:ev P e=some s){g:aR}(z:bF x=some g)
 {p v J'}(A:n key=false)(h:aQ (.fldA (m.toNat*s) g) env J key=some (p,v,J'))(u:p):Good P aD nt env J' (ins n key) a v ((execOp a.eval o).run P w):=by
 simp only[aQ,bn]at h;obtain⟨⟨B,C⟩,r,he⟩:=h;simp at he;have j:a.eval (.const _)= .int i m:=rfl;have q:0<=m/\m<(k:Int):=⟨h0.1,by omega⟩
 have d:∀(b off:Nat),a.eval x= .pointer (some ⟨b,off,none⟩)->(execOp a.eval o).run P w= .ok (.value (.pointer (some ⟨b,off+m.toNat*s,none⟩))) w:=by
  intro b off e;have l:Addr.add ⟨b,off,none⟩ (m.toNat*s)=⟨b,off+m.toNat*s,none⟩:=by
   grind[Addr.add]
  simp only[execOp,t,e,j,Instr.indexAt,asIntOf,Instr.sureAddr,Sem.run_bind,run_underlying y,Result.andThen_ok,Sem.run_pure,ae q,jL hs,l]
 split at he<;>simp only[dG,reduceCtorEq]at he
 all_goals
  obtain⟨rfl,rfl,rfl⟩:=he;have aq:=ct R z r u;have h1:=aq.1.ed
 . exact Good.pure R (d _ _ h1) (.c rfl) aq.2
 . exact Good.pure R (d _ _ h1) (.c (by simp[bp,Nat.add_assoc])) aq.2
 . obtain⟨blk,off,f,h1,aa⟩:=h1;exact Good.pure R (d _ _ h1) (.c ⟨blk,off,f,by grind,aa⟩) aq.2
theorem Z8(R:Rel aD nt φ S env J n a w){i:Option Operand}(A:o.op= .slice ty x j i none){k:Nat}(I:P.underlying ty=some (.array k e))(G:ev P e=some 1)
 {g:aR}{f d:Option aR}(K:bF x=some g)(z:kn j=some f)(y:kn i=some d)
 {p v J'}(O:n key=false)(h:aQ (.slcP k g f d) env J key=some (p,v,J'))(B:p):Good P aD nt env J' (ins n key) a v ((execOp a.eval o).run P w):=by
 simp only[aQ,bn]at h;obtain⟨⟨U,W⟩,u,⟨pl,l⟩,t,⟨T,h⟩,s,he⟩:=h;simp at he;split at he
 . rename_i b;obtain⟨rfl,rfl,rfl⟩:=he;obtain⟨D,E,F,h0,h1,m⟩:=B;have aq:=ct R K u D;have M:=aq.1.hS;have af:=rf R z t E;have aa:=rf R y s F;have r:=Dh (P:=P) (w:=w) (isSlice:=false) af aa h0 h1 m (d' _);generalize cX:(l.getD 0).toNat=L at*;generalize N:(h.getD _).toNat=H at*;have q:Addr.add ⟨(φ b).1,0,none⟩ (L*1)=⟨(φ b).1,L*1,none⟩:=by
    unfold Addr.add;split
    . grind
    . simp
   refine Good.pure R (x:= .slice (some (if k=L then⟨(φ b).1,0,none⟩else(Addr.add ⟨(φ b).1,0,none⟩ (L*1)))) _ (k-L)) ?_ (.c ⟨_,_,rfl,?_,by omega⟩) (by simpa[V.aE,C.aE]using aq.2)
   . simp[execOp,A,Instr.sliceAt,Instr.sureAddr,underlying,I,M,r,jL G]
   . intro Q;rw[bB,q]
 grind
theorem Z9{s:ak}(a:bytesOf es=some s):∀{xs:List Value},(∀(i:Nat) t,es[i]?=some [t]->∃v,xs[i]?=some v/\cj w S t v)->xs.length=es.length->
 ∃aJ:ar,xs=aJ.map (Value.int .u8)/\s=aJ.map λm=>UInt8.ofNat m.toNat:=by
 induction es generalizing s with
 |nil=>simp_all[bytesOf]
 |cons e es ih=>
  intro xs ag af;unfold bytesOf at a;split at a
  . grind
  . rename_i m r c;cases c;simp at a;obtain⟨j,f,rfl⟩:=a;cases xs with
    |nil=>grind
    |cons x xs=>
     obtain⟨v,b,d⟩:=ag 0 _ rfl;simp at b;subst b;cases d;obtain⟨aJ,rfl,rfl⟩:=ih f (λi t g=>by simpa using ag (i+1) t (by grind)) (by grind);exact⟨m::aJ,rfl,rfl⟩
  grind
theorem Z'(aJ:ar):∀(s:ByteArray),(aJ.foldl (λr m=>r.push (UInt8.ofNat m.toNat)) s).data.toList=s.data.toList++aJ.map λm=>UInt8.ofNat m.toNat:=by
 induction aJ<;>simp_all
theorem JO{s:ak}(a:bytesOf es=some s):∀(i:Nat) e,es[i]?=some e->∃t,e=[t]:=by
 induction es generalizing s with
 |nil=>simp
 |cons c4 es ih=>
  unfold bytesOf at a;grind[bz]
theorem Ez{g c:TypeId}(hs:P.underlying g=some (.slice e))(he:P.underlying e=some (.int .u8))(k:P.underlying c=some .string){str:ak}{a:Option Addr}{len cap b:Nat}
 (af:es.length=len)(f:bytesOf es=some str)(r:len≠0->a=some ⟨b,off,none⟩)(s:∀(i:Nat) t,es[i]?=some [t]->∃v,w.cell? ⟨b,off+i,none⟩=some v/\cj w S t v):
 ∃bs:ByteArray,(convert g c (.slice a len cap)).run P w= .ok (.string bs) w/\bs.data.toList=str:=by
 rw[run_convert_bytes_string w _ _ e a _ _ hs he k];by_cases h0:len=0
 . have m:es=[]:=ju (by omega);subst m;simp[bytesOf]at f;cases a with
   |none=>simp_all[Conv.bytesToString]
   |some a0=>
    simp_all[run_bytesToString,loadCells,loadCellsFrom]
 . have u:∀i,i<len->∃t v,es[i]?=some [t]/\w.cell? ⟨b,off+i,none⟩=some v/\cj w S t v:=by
    intro i n;have h1:=e9 (l:=es) (i:=i) (by omega);grind[JO]
   have aq:∀i,i<len->((List.range len).map λi=>(w.cell? ⟨b,off+i,none⟩).getD undef)[i]?=w.cell? ⟨b,off+i,none⟩:=(by grind);obtain⟨aJ,h1,p⟩:=Z9 (w:=w) (S:=S) f (xs:=(List.range len).map λi=>(w.cell? ⟨b,off+i,none⟩).getD undef) (λi t n=>by grind) (by grind);have d:=z' (P:=P) (by simp) (λj o=>(aq j o).symm);rw[h1]at d;have q:=run_bytesToString w _ _ cap aJ d;simp_all[Z']
theorem GR:∀{es:List (List T)} {s:ak},bytesOf es=some s->s.length=es.length
 |[],s,h=>by grind[bytesOf]
 |e::es,s,h=>by
  unfold bytesOf at h;split at h
  . grind
  . rename_i m r a;cases a;simp at h;obtain⟨c,b,rfl⟩:=h;simp[GR b]
  grind
theorem aaf(R:Rel aD nt φ S env J n a w){A r:TypeId}(ab:o.op= .convert A r x)(hs:P.underlying A=some (.slice e))(he:P.underlying e=some (.int .u8))(u:P.underlying r=some .string){D:aR}(U:bF x=some D)
 {p v J'}(Y:n key=false)(h:aQ (.b2s D) env J key=some (p,v,J'))(O:p):Good P aD nt env J' (ins n key) a v ((execOp a.eval o).run P w):=by
 simp only[aQ,bn,bz,dV]at h;obtain⟨⟨ak,al⟩,H,⟨q,str⟩,g,rfl,rfl,rfl⟩:=h;obtain⟨Q,y⟩:=O;have aq:=ct R U H Q
 suffices aa:∃d len cap,a.eval x= .slice d len cap/\str.length<=dY/\∃bs:ByteArray,(convert A r (.slice d len cap)).run P w= .ok (.string bs) w/\bs.data.toList=str by
  obtain⟨d,len,cap,h1,F,bs,K,G⟩:=aa;have N:bs.size<=eF:=by grind[vR,dY,eF]
  refine Good.pure R (x:= .string bs) ?_ (.c ?_) rfl
  . simp_all[execOp]
  . rw[<-G];exact .str bs N
 have z:∀ (b off len:Nat) (es:List (List T)) (d:Option Addr) (cap:Nat),aX J b = some (.arr 1 es)->off+len<=es.length->bytesOf ((es.drop off).take len) = some str->(len≠0->d = some ⟨(φ b).1,off*1,none⟩)->((φ b).2≠0\/len = 0)->a.eval x = .slice d len cap->
  ∃d len cap,a.eval x= .slice d len cap/\str.length<=dY/\∃bs:ByteArray,(convert A r (.slice d len cap)).run P w= .ok (.string bs) w/\bs.data.toList=str:=by
  intro b off len es d cap M I j L h0 C;obtain⟨h1,F,K,G,bf⟩:=R.bO.blk b _ M;have af:((es.drop off).take len).length=len:=by grind
  refine⟨d,len,cap,C,by grind[GR],?_⟩;refine Ez (S:=S) hs he u af j L ?_;intro i t m;rw[yB]at m;split at m
  . rw[List.getElem?_drop]at m;rcases h0 with h0|h0
    . obtain⟨vs,E,aa,aj,ag,_⟩:=bf h0;obtain⟨v,ah,ai⟩:=ag _ 0 _ t m rfl;grind[jm]
    grind
  grind
 dsimp only at g H aq;unfold nA at g;split at g
 . rename_i es;simp only[bz,dV]at g;obtain⟨s,j,rfl,rfl⟩:=g;obtain⟨d,cap,sz,b,off,f,h1,W,Z,ae,k,V,C⟩:=cj.kp aq.1.ed;refine⟨d,es.length,cap,h1,by grind[GR],?_⟩;by_cases B:es=[]
   . subst B;exact Ez (S:=S) (b:=0) (off:=0) hs he u rfl j (by simp) (by simp)
   . have ad:sz=1:=by
      obtain⟨c4,X⟩:=Ch es B;grind[List.mem_iff_getElem?,JO]
     refine Ez (S:=S) (b:=b) (off:=off) hs he u rfl j (λ_=>k B) ?_;intro i t m;exact⟨f i 0,by grind,C i 0 _ t m rfl⟩
 . cases g;obtain⟨d,h1⟩:=aq.1.ed;exact⟨d,0,0,h1,by simp,Ez (S:=S) (es:=[]) (b:=0) (off:=0) hs he u rfl rfl (by simp) (by simp)⟩
 . rename_i b off len;split at g
   . rename_i es l;simp only[bz,dV]at g;obtain⟨s,j,rfl,rfl⟩:=g;obtain⟨d,h1,k,I⟩:=bp.hc aq.1.ed;by_cases h0:(φ b).2=0
     . exact z b off len es d _ l y j (λh=>by omega) (.inr (by omega)) h1
     . exact z b off len es d _ l y j (λ_=>k h0) (.inl h0) h1
   . cases g
 . rename_i b off len;split at g
   . rename_i es l;simp only[bz,dV]at g;obtain⟨s,j,rfl,rfl⟩:=g;obtain⟨d,cap,h1,k,I⟩:=aq.1.ed;obtain⟨F,_⟩:=R.bO.blk b _ l;by_cases h0:len=0
     . exact z b off len es d _ l y j k (.inr h0) h1
     . exact z b off len es d _ l y j k (.inl (by omega)) h1
   . cases g
 . cases g
end
end
end Go.Proofs.YtdjagncoefjfeaaGreat.Shv
