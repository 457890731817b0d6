/- The library of this proof, part A: an abstract machine for the code of the program, and its soundness. -/
import Derived.LoopN
import Derived.Calls
import Derived.Laws.Sem
import Derived.Laws.World
import Derived.Laws.Cells
import Derived.Below
import Derived.Laws.Strings
import Derived.Laws.StructEq
import Derived.Laws.BytesString

namespace Go.Proofs.YtopcfbelfjclmaaGreatDoor.Shv
set_option linter.all false
abbrev I.{u}:Type u→Type u:=List
abbrev ag.{u}:Type u→Type u:=Option
abbrev J:Type:=Bool
abbrev aq:=I UInt8
abbrev az:=I Int
abbrev ba:=I Nat
section
def ah:=@if_pos
def au:=@if_neg
def cx:=@Bool.false_eq_true
def ed:=@List.getElem?_eq_some_iff
def eM:=@Option.ite_none_right_eq_some
def dh:=@Bool.and_eq_true
def e0:=@List.getElem?_eq_getElem
def dc:=@Bool.not_true
def dW:=@Option.some.injEq
def eh:=@List.length_append
def fx:=@List.drop_eq_nil_of_le
def cF:=@if_false
def fg:=@Nat.mul_le_mul_right
def cl:=@if_true
def fr:=@List.mem_of_getElem?
def e3:=@Int.toNat_natCast
def eg:=@Prod.mk.injEq
def eL:=@Bool.not_false
def ee:=@decide_false
def dS:=@decide_true
def eZ:=@List.drop_zero
def eE:=@List.mem_cons
def fI:=@decide_eq_true_eq
def ek:=@Nat.le_refl
def gT:=@List.getElem_of_mem
def gU:=@of_decide_eq_true
def dA:=@congrArg
def gk:=@List.all_eq_true
def j3:=@List.eq_nil_of_length_eq_zero
def et:=@cond_false
def hd:=@List.flatMap_cons
def dN:=@Ne.symm
def fY:=@List.mem_map
def kx:=@List.drop_of_length_le
def fh:=@cond_true
def lb:=@Option.bind_eq_some_iff
def h3:=@decide_eq_true
def jD:=@Nat.lt_of_lt_of_le
def iB:=@List.mem_append
def mz:=@List.drop_eq_getElem_cons
def ky:=@beq_eq_false_iff_ne
def hN:=@Nat.le_trans
def ig:=@Bool.true_and
def j4:=@List.contains_nil
def kz:=@List.pairwise_cons
def iC:=@Bool.or_false
def jE:=@List.nil_append
def ij:=@Nat.zero_add
def lf:=@List.contains_cons
def h4:=@Nat.add_mul
def lg:=@List.length_cons
def lL:=@List.append_assoc
def oV:=@Option.map_eq_some_iff
def iD:=@Nat.zero_le
def kB:=@List.all_cons
def lM:=@List.length_nil
def lN:=@Bool.or_eq_true
def iS:=@beq_iff_eq
def mA:=@Option.map_some
def sq:=@List.take_of_length_le
def nE:=@List.length_drop
def mB:=@List.map_cons
def nF:=@List.append_nil
def oW:=@Nat.mod_eq_of_lt
def qu:=@List.getElem?_map
def sr:=@List.getD_cons_zero
def xr:=@List.getElem?_append_left
def oX:=@Option.some.inj
def xt:=@List.pairwise_iff_getElem
def xu:=@List.mem_of_find?_eq_some
def uT:=@Nat.le_of_ble_eq_true
def mC:=@Bool.true_or
def qv:=@decide_eq_false
def uU:=@List.getD_cons_succ
def zF:=@Array.getElem?_eq_some_iff
def zG:=@List.getElem?_append_right
def su:=@List.any_eq_true
def sv:=@List.length_map
def xv:=@Bool.or_eq_false_iff
def xw:=@BitVec.ofInt_natCast
def xx:=@Nat.pow_le_pow_right
def jF:=@Iff.rfl
def xy:=@List.length_pos_iff
def C4:=@Option.ite_none_left_eq_some
def uV:=@Option.getD_some
def uW:=@List.foldl_cons
def uX:=@List.mem_filter
def xz:=@List.ext_getElem?
def C5:=@List.exists_mem_of_ne_nil
def C6:=@Array.getElem?_eq_getElem
def zH:=@List.mem_iff_getElem
def uY:=@List.drop_drop
def uZ:=@Int.mul_nonneg
def xA:=@List.cons_append
def C7:=@List.getElem?_cons_zero
def C8:=@List.getElem?_cons_succ
def C9:=@Int.eq_ofNat_of_zero_le
def u0:=@Bool.and_true
def xB:=@List.sum_cons
def zI:=@List.mem_singleton
def zr:=@List.getElem?_take
def xk:=@List.map_append
def xl:=@Bool.eq_iff_iff
def zs:=@BitVec.toNat_ofNat
def GZ:=@List.find?_eq_some_iff_getElem
def uR:=@Nat.add_zero
def uS:=@Nat.le_of_eq
def CR:=@List.getElem?_toArray
def xm:=@List.nodup_nil
def G0:=@Array.getElem?_setIfInBounds
def xn:=@Int.toNat_zero
def qt:=@and_false
def zt:=@List.getElem_mem
def zu:=@Nat.le_of_not_lt
def zv:=@List.range'_succ
def zw:=@List.ext_getElem
def CS:=@List.getElem?_zipIdx
def CT:=@List.mem_cons_of_mem
def zx:=@List.length_take
def zy:=@Bool.cond_eq_ite
def G1:=@Int.tdiv_eq_ediv_of_nonneg
def CU:=@Array.length_toList
def CV:=@Array.toList_modify
def G2:=@List.eq_of_mem_replicate
def G3:=@Option.isSome_iff_exists
def G4:=@Bool.eq_false_or_eq_true
def zz:=@Bool.false_and
def G5:=@Nat.le_mul_of_pos_right
def G6:=@decide_eq_false_iff_not
def CW:=@List.getElem?_set
def CX:=@Bool.not_eq_true'
def CY:=@List.foldl_append
def xo:=@Nat.le_succ
def G7:=@List.length_eq_one_iff
def xp:=@Int.le_refl
def zA:=@List.any_cons
def zB:=@Bool.false_or
def CZ:=@Int.natCast_zero
def G8:=@Array.getElem?_modify
def G9:=@Array.getElem?_toList
def G':=@List.mem_append_right
def Ha:=@List.take_append_drop
def Hb:=@List.mem_of_mem_take
def zC:=@exists_false
def Vq:=@List.eq_nil_iff_forall_not_mem
def C0:=@List.find?_some
def Hc:=@List.flatMap_append
def Hd:=@List.mem_map_of_mem
def C1:=@UInt8.toNat_lt
def C2:=@Int.mul_le_mul
def zD:=@Nat.mul_one
def He:=@List.mem_cons_self
def Hf:=@List.filter_append
def Hg:=@not_false_eq_true
def Hh:=@Array.toList_push
def Hi:=@List.pairwise_map
def zE:=@Nat.mod_lt
def C3:=@Nat.zero_mul
def xq:=@and_true
variable{c:Prop}{α a:Type}
theorem jB{h:Decidable c}(a:c:=by omega){α:Sort _}{t e:α}:ite c t e=t:=if_pos a
theorem cJ{h:Decidable c}(a:c:=by simp;omega){α:Sort _}{t e:α}:ite c t e=t:=if_pos a
theorem j1{h:Decidable c}(a:c:=by simp){α:Sort _}{t e:α}:ite c t e=t:=if_pos a
theorem cb{h:Decidable c}(a:¬c:=by omega){α:Sort _}{t e:α}:ite c t e=e:=if_neg a
theorem dC{h:Decidable c}(a:¬c:=by simp;omega){α:Sort _}{t e:α}:ite c t e=e:=if_neg a
theorem cq{h:Decidable c}(a:¬c:=by simp){α:Sort _}{t e:α}:ite c t e=e:=if_neg a
theorem bF{α:Type _}{b:α}{c:Type _}{x:ag c}{f:c->α}:Option.map f x=some b↔∃a,x=some a/\f a=b:=oV
theorem bw{α:Type _}{b:α}{c:Type _}{x:ag c}{f:c->ag α}:x.bind f=some b↔∃a,x=some a/\f a=some b:=lb
theorem ay{α:Type _}{b:Type _}(a:α)(f:α->ag b):(some a).bind f=f a:=Option.bind_some ..
theorem aW.{u}{α a:Type u}:(bind:ag α->(α->ag a)->ag a)=Option.bind:=Option.bind_eq_bind
open Go
inductive T where
 |bool (b:Bool)
 |int (k:IntKind)(n:Int)
 |str (s:aq)
 |slice (es:List (List T))
inductive C where
 |t (x:T)
 |ptr (b o:Nat)
 |cW (b sz i o:Nat)
 |dY (ts:List T)(o:Nat)
 |arr (b sz off len:Nat)
 |gf (b sz off len:Nat)
 |mp (b:Nat)
 |eF (b:Nat)
 |cN (b len:Nat)
 |bV
 |fp
 |fm
 |fn (f:Nat)(caps:ba)
 |dead
inductive V where
 |c (x:C)
 |agg (cs:List C)
 |bf (vs:List V)
inductive b9 where
 |box (cs:List C)
 |arr (sz:Nat)(es:List (List T))
 |set (ks:List aq)
 |buf (E:TypeId)(s:aq)
 |cm (E:TypeId)(c:C)
 |cR (sz:Nat)(es:List (List T))(i o:Nat)(c:C)
abbrev dm:=Nat->Nat->Prop
abbrev dk:=Nat->Nat×Nat
def eS:Nat:=9223372036854775807
def dB:Nat:=281474976710656
inductive b6 (w:World)(S:dm):T->Value->Prop
 |bool (b:Bool):b6 w S (.bool b) (.bool b)
 |int (k:IntKind) (n:Int):b6 w S (.int k n) (.int k n)
 |str (s:ByteArray) (h:s.size<=eS):b6 w S (.str s.data.toList) (.string s)
 |slice (es:List (List T)) (a:Option Addr) (cap sz b o:Nat) (f:Nat->Nat->Value)
  (ak5:es.length<=cap) (ak9:es.length<=dB)
  (alc:∀e,e∈es->e.length=sz)
  (yW:es≠[]->a=some ⟨b,o,none⟩)
  (Va:∀i j,i<es.length->j<sz->S b (o+i*sz+j)/\w.cell? ⟨b,o+i*sz+j,none⟩=some (f i j))
  (Vb:∀i j e t,es[i]?=some e->e[j]?=some t->b6 w S t (f i j)):
  b6 w S (.slice es) (.slice a es.length cap)
structure gN (w:World)(S:dm)(w':World)(bu:dm):Prop where
 sub:∀b j,S b j->bu b j
 cell:∀b j,S b j->w'.cell? ⟨b,j,none⟩=w.cell? ⟨b,j,none⟩
theorem gN.refl(w:World)(S:dm):gN w S w S:=⟨λ_ _ h=>h,λ_ _ _=>rfl⟩
theorem gN.trans{w S w' bu e c}(h:gN w S w' bu)(k:gN w' bu e c):gN w S e c:=
 ⟨λb j a=>k.sub b j (h.sub b j a),λb j a=>(k.cell b j (h.sub b j a)).trans (h.cell b j a)⟩
theorem b6.mono{w S w' bu}(m:gN w S w' bu){t v}(h:b6 w S t v):b6 w' bu t v:=by
 induction h with
 |bool b=>exact .bool b
 |int k n=>exact .int k n
 |str s h=>exact .str s h
 |slice es a cap sz b o f q u x p c y ih=>
  exact .slice es a _ sz b o f q u x p
   (λi j e g=>⟨m.sub _ _ (c i j e g).1,by rw[m.cell _ _ (c i j e g).1];grind⟩) ih
theorem b6.jk{w S t v}(h:b6 w S t v):v.oneCell':=by cases h<;>rfl
def bD(φ:dk)(w:World)(S:dm):C->Value->Prop
 |.t x,v=>b6 w S x v
 |.ptr b o,v=>v= .pointer (some ⟨(φ b).1,o,none⟩)
 |.cW b sz i o,v=>v= .pointer (some ⟨(φ b).1,i*sz+o,none⟩)
 |.dY ts o,v=>∃ (blk off:Nat) (f:Nat->Value),v = .pointer (some ⟨blk,off+o,none⟩)/\
  ∀j t,ts[j]?=some t->S blk (off+j)/\w.cell? ⟨blk,off+j,none⟩=some (f j)/\b6 w S t (f j)
 |.arr b sz off len,v=>∃a,v= .slice a len ((φ b).2-off)/\((φ b).2≠0->a=some ⟨(φ b).1,off*sz,none⟩)/\off+len<=(φ b).2
 |.gf b sz off len,v=>∃a cap,v= .slice a len cap/\(len≠0->a=some ⟨(φ b).1,off*sz,none⟩)/\len<=cap
 |.mp b,v=>v= .map (some (φ b).1)
 |.cN b len,v=>len<=(φ b).2/\((φ b).2=0->v= .slice none 0 0)/\((φ b).2≠0->v= .slice (some ⟨(φ b).1,0,none⟩) len (φ b).2)
 |.eF b,v=>∃p,v= .pointer p/\((φ b).2≠0->p=some ⟨(φ b).1,0,none⟩)
 |.bV,v=>∃a,v= .slice a 0 0
 |.fp,v=>v= .pointer none
 |.fm,v=>v= .nilFunc
 |.fn f caps,v=>v= .func (.func f) #[] (caps.map λb=>Value.pointer (some ⟨(φ b).1,0,none⟩)).toArray
 |.dead,v=>v.oneCell'=true
theorem bD.jk{φ w S c v}(h:bD φ w S c v):v.oneCell':=by
 cases c with
 |t x=>exact b6.jk h
 |dY ts o=>obtain⟨_,_,_,rfl,_⟩:=h;rfl
 |arr b sz off len=>obtain⟨_,rfl,_⟩:=h;rfl
 |gf b sz off len=>obtain⟨_,_,rfl,_⟩:=h;rfl
 |eF b=>obtain⟨_,rfl,_⟩:=h;rfl
 |cN b len=>
  by_cases h0:(φ b).2=0;rw[h.2.1 h0];rfl;rw[h.2.2 h0];rfl
 |bV=>obtain⟨_,rfl⟩:=h;rfl
 |dead=>exact h
 |_=>cases h;rfl
def C.aK(n:Nat->J):C->J
 |.ptr b _=>n b
 |.cW b _ _ _=>n b
 |.arr b _ _ _=>n b
 |.gf b _ _ _=>n b
 |.mp b=>n b
 |.eF b=>n b
 |.cN b _=>n b
 |.fn _ caps=>caps.all λb=>n b
 |_=>true
def V.aK(n:Nat->J):V->J
 |.c x=>x.aK n
 |.agg cs=>cs.all (C.aK n)
 |.bf vs=>V.dI n vs
where V.dI (n:Nat->J):I V->J
 |[]=>true
 |v::vs=>v.aK n&&V.dI n vs
theorem bD.mono{φ bq:dk}{w S w' bu}(m:gN w S w' bu){n:Nat->J}(e:∀b,n b->bq b=φ b){c v}(a:c.aK n)(h:bD φ w S c v):bD bq w' bu c v:=by
 cases c with
 |t x=>exact b6.mono m h
 |ptr b o=>grind[C.aK,bD]
 |cW b sz i o=>grind[C.aK,bD]
 |dY ts o=>
  obtain⟨blk,off,f,rfl,ad⟩:=h;exact⟨blk,off,f,rfl,λj t ht=>⟨m.sub _ _ (ad j t ht).1,by rw[m.cell _ _ (ad j t ht).1];grind,b6.mono m (ad j t ht).2.2⟩⟩
 |arr b sz off len=>grind[C.aK,bD]
 |gf b sz off len=>grind[C.aK,bD]
 |mp b=>grind[C.aK,bD]
 |eF b=>grind[C.aK,bD]
 |cN b len=>grind[C.aK,bD]
 |bV=>exact h
 |fp=>exact h
 |fm=>exact h
 |fn f caps=>
  grind[bD,List.map_congr_left,C.aK]
 |dead=>exact h
inductive bb {α β:Type}(R:α->β->Prop):List α->List β->Prop
 |nil:bb R [] []
 |cons {a b l m}:R a b->bb R l m->bb R (a::l) (b::m)
variable{e:Type}
theorem bb.imp{R R':α->e->Prop}{l m}(h:bb R l m)(k:∀a b,a∈l->R a b->R' a b):bb R' l m:=by
 induction h with
 |nil=>exact .nil
 |cons c _ ih=>exact .cons (k _ _ (by simp) c) (ih λa b f=>k a b (by grind))
theorem bb.length{R:α->a->Prop}{l:I α}{m:I a}(h:bb R l m):l.length=m.length:=by
 induction h<;>grind
theorem bb.get{c:Type}{R:α->c->Prop}{l:I α}{m:I c}(h:bb R l m){i:Nat}{a:α}(e:l[i]?=some a):∃b,m[i]?=some b/\R a b:=by
 induction h generalizing i<;>grind
theorem bb.lO{c:Type}{R:α->c->Prop}:∀{l:I α} {m:I c},l.length=m.length->(∀(i:Nat) a b,l[i]?=some a->m[i]?=some b->R a b)->bb R l m
 |[],[],_,_=>.nil
 |[],_::_,h,_=>by grind
 |_::_,[],h,_=>by grind
 |a::l,b::m,h,k=>.cons (k 0 a b (by rfl) (by rfl)) (bb.lO (by grind) λi x y aa al=>k (i+1) x y (by grind) (by grind))
theorem bb.append{R:α->e->Prop}{l a:I α}{m c:I e}(h:bb R l m)(g:bb R a c):bb R (l++a) (m++c):=by
 induction h with
 |nil=>grind
 |cons f _ ih=>exact .cons f ih
theorem bb.drop{R:α->a->Prop}{l:I α}{m:I a}(h:bb R l m)(k:Nat):bb R (l.drop k) (m.drop k):=by
 induction h generalizing k with
 |nil=>simp;exact .nil
 |cons c ht ih=>cases k with
  |zero=>exact .cons c ht
  |succ k=>grind
theorem bb.take{R:α->a->Prop}{l:I α}{m:I a}(h:bb R l m)(k:Nat):bb R (l.take k) (m.take k):=by
 induction h generalizing k with
 |nil=>simp;exact .nil
 |cons c _ ih=>cases k with
  |zero=>exact .nil
  |succ k=>exact .cons c (ih k)
inductive cc (φ:dk)(w:World)(S:dm):V->Value->Prop
 |c {x v}:bD φ w S x v->cc φ w S (.c x) v
 |agg {cs vs}:bb (bD φ w S) cs vs->cc φ w S (.agg cs) (.agg vs.toArray)
 |bf (vs:List V) (xs:List Value) (ak:vs.length = xs.length) (h:∀ (i:Nat) v x,vs[i]? = some v->xs[i]? = some x->cc φ w S v x):
  cc φ w S (.bf vs) (.tuple xs.toArray)
theorem nn{n:Nat->J}:∀{vs:I V} {i:Nat} {v:V},V.aK.V.dI n vs->vs[i]?=some v->v.aK n=true
 |[],_,_,_,h=>by grind
 |x::vs,0,v,a,h=>by grind[V.aK.V.dI]
 |x::vs,i+1,v,a,h=>by simp[V.aK.V.dI]at a;exact nn a.2 (by simpa using h)
theorem cc.mono{φ bq:dk}{w S w' bu}(m:gN w S w' bu){n:Nat->J}(f:∀b,n b->bq b=φ b){x v}(o:V.aK n x)(h:cc φ w S x v):cc bq w' bu x v:=by
 induction h with
 |c h=>exact .c (bD.mono m f (by grind[V.aK]) h)
 |agg h=>exact .agg (h.imp λa b j g=>bD.mono m f (by grind[V.aK]) g)
 |bf vs xs ak h ih=>exact .bf vs xs ak λi v x e aa=>ih i v x e aa (nn (by grind[V.aK]) e)
end
section
open Go
inductive aS where
 |tmp (t:Nat)
 |const (v:V)
inductive c0 where
 |mov (x:aS)
 |pick (c x y:aS)
 |alloc (cs:List C)
 |box (x:aS)
 |build (zero:List C)(parts:List (Nat×Nat×aS))
 |bslice (sz:Nat)(len:Nat)(zero:List C)(parts:List (Nat×aS))
 |load (agg:Bool)(n:Nat)(x:aS)
 |store (n:Nat)(x v:aS)
 |nilCheck (x:aS)
 |bin (op:BinOp)(x y:aS)
 |eqAgg (neg:Bool)(ks:ba)(x y:aS)
 |eqBool (neg:Bool)(x y:aS)
 |eqNil (neg:Bool)(x:aS)
 |not (x:aS)
 |conv (k:IntKind)(x:aS)
 |i2s (x:aS)
 |s2s (x:aS)
 |fldA (off:Nat)(x:aS)
 |fld (agg:Bool)(off n:Nat)(x:aS)
 |idxA (sz:Nat)(x i:aS)
 |idxS (x i:aS)
 |slcS (x:aS)(oT CL:Option aS)
 |slc (sz:Nat)(x:aS)(oT CL:Option aS)
 |slc0 (x:aS)
 |allocA (cs:List C)
 |idxP (n:Nat)(x i:aS)
 |idxV (n:Nat)(x i:aS)
 |mslice (sz bytes:Nat)(zero:List C)(x:aS)
 |slcP (n:Nat)(x:aS)(oT CL:Option aS)
 |b2s (x:aS)
 |allocS (e e8:Nat)
 |bsliceT (e sz len:Nat)(zero:List C)(parts:List (Nat×aS))
 |mkset
 |lkset (x k:aS)
 |upset (x k:aS)
 |appendB (e bytes:Nat)(x y:aS)
 |sdata (x:aS)
 |ustr (e:Nat)(x n:aS)
 |mkfn (f:Nat)(caps:List aS)
 |ext (x:aS)(i:Nat)
 |len (str:Bool)(x:aS)
 |append (e sz bytes:Nat)(x y:aS)
 |max2 (x y:aS)
 |min2 (x y:aS)
 |call (f:Nat)(args:List aS)
 |iv (x:aS)(args:List aS)
structure cf where
 dst:Option Nat
 op:c0
 guard:Option (Nat×Bool)
def C':Value->ag C
 |.bool b=>some (.t (.bool b))
 |.int k n=>some (.t (.int k n))
 |.string s=>ite (s.size<=eS) (some (.t (.str s.data.toList))) none
 |.slice none 0 0=>some .bV
 |.pointer none=>some .fp
 |.nilFunc=>some .fm
 |.nilIface=>some .dead
 |_=>none
def xD:I Value->ag (I C)
 |[]=>some []
 |v::vs=>(C' v).bind λc=>(xD vs).map (c::·)
def JO:Value->ag V
 |.agg cs=>(xD cs.toList).map .agg
 |v=>(C' v).map .c
def bO:Operand->ag aS
 |.tmp t=>some (.tmp t)
 |.const v=>(JO v).map .const
 |.func f=>some (.const (.c (.fn f [])))
 |.global _=>none
def nG:I Operand->ag (I aS)
 |[]=>some []
 |x::xs=>(bO x).bind λa=>(nG xs).map (a::·)
def kC:ag Operand->ag (ag aS)
 |none=>some none
 |some x=>(bO x).map some
def kb(P:Program)(t:TypeId):ag (I C):=
 (P.info? t).bind λi=>i.zero.bind λz=>xD z.cells.toList
def qe(P:Program)(t:TypeId):ag J:=
 match P.underlying t with
 |some (.struct _)|some (.array _ _)=>some true
 |some _=>some false
 |none=>none
def ev(P:Program)(t:TypeId):ag Nat:=(P.info? t).map (·.size)
def nr(P:Program)(t:TypeId):ag (J×Nat):=
 (qe P t).bind λg=>(ev P t).bind λn=>ite (g=false->n=1) (some (g,n)) none
def hE(P:Program)(f:Nat):J:=
 match P.funcs[f]? with
 |some fn=>fn.body.isSome && !(fn.name == "runtime.NumGoroutine")
 |none=>false
def qm(P:Program)(t:TypeId):ag Nat:=
 match P.underlying t with
 |some .bool=>some 0
 |some (.int _)=>some 1
 |some .string=>some 2
 |_=>none
def AY(P:Program):Nat->I Field->ag ba
 |_,[]=>some []
 |i,f::fs=>if f.offset = i/\f.name≠ "_" then (qm P f.type).bind λk=>(AY P (i+1) fs).map (k :: ·) else none
def II(P:Program)(t:TypeId):ag ba:=
 match P.underlying t with
 |some (.struct fs)=>ite (P.stoodInHeld t=false/\P.eqGuardType P.depth t=false) (AY P 0 fs.toList) none
 |_=>none
def JP(P:Program)(t:TypeId):ag ba:=
 match P.underlying t with
 |some (.array n e)=>ite (ev P e=some 1/\P.eqGuardType P.depth t=false) ((qm P e).map (List.replicate n)) none
 |_=>none
def Jc(P:Program)(fs:Array Field):J:=fs.toList.all λf=>(ev P f.type).isSome
def w8(P:Program)(fs:Array Field):I (Nat×Operand)->ag (I (Nat×Nat×aS))
 |[]=>some []
 |(j,x)::r=>(fs[j]?).bind λf=>(ev P f.type).bind λn=>(bO x).bind λa=>(w8 P fs r).map ((f.offset,n,a)::·)
def wJ(n:Nat):I (Nat×Operand)->ag (I (Nat×Nat×aS))
 |[]=>some []
 |(j,x)::r=>(bO x).bind λa=>(wJ n r).map ((j*n,n,a)::·)
def p9:I (Nat×Operand)->ag (I (Nat×aS))
 |[]=>some []
 |(j,x)::r=>(bO x).bind λa=>(p9 r).map ((j,a)::·)
def nd(P:Program)(c:Call):ag c0:=
 match c.callee with
 |.builtin .len=>match c.args.toList,c.argTypes.toList with
  |[x],[t]=>match P.underlying t with
   |some .string=>(bO x).map (.len true)
   |some (.slice _)=>(bO x).map (.len false)
   |_=>none
  |_,_=>none
 |.builtin .append=>match c.args.toList,c.argTypes.toList with
  |[x,y],[t,u]=>match P.underlying t,P.underlying u with
   |some (.slice e),some .string=>(P.info? e).bind λi=>(bO x).bind λa=>(bO y).bind λb=>
    ite (i.size=1/\(i.zero.map (·.cells.size))=some 1/\(match P.underlying e with|some (.int .u8)=>true|_=>false)=true) (some (.appendB e i.bytes a b)) none
   |some (.slice e),some (.slice _)=>(P.info? e).bind λi=>(bO x).bind λa=>(bO y).bind λb=>
    ite (i.size≠0/\(i.zero.map (·.cells.size))=some i.size) (some (.append e i.size i.bytes a b)) none
   |_,_=>none
  |_,_=>none
 |.builtin .max=>match c.args.toList with
  |[x,y]=>(bO x).bind λa=>(bO y).map λb=>.max2 a b
  |_=>none
 |.builtin .min=>match c.args.toList with
  |[x,y]=>(bO x).bind λa=>(bO y).map λb=>.min2 a b
  |_=>none
 |.builtin .unsafeSliceData=>match c.args.toList,c.argTypes.toList with
  |[x],[t]=>match P.underlying t with
   |some (.slice e)=>ite (ev P e=some 1) ((bO x).map .sdata) none
   |_=>none
  |_,_=>none
 |.builtin .unsafeString=>match c.args.toList,c.argTypes.toList with
  |[x,n],[t,_]=>match P.underlying t with
   |some (.pointer e)=>ite ((match P.underlying e with|some (.int .u8)=>true|_=>false)=true/\ev P e=some 1/\P.cellsOf e=1) ((bO x).bind λa=>(bO n).map λb=>.ustr e a b) none
   |_=>none
  |_,_=>none
 |.value (.func f)=>ite (hE P f) ((nG c.args.toList).map (.call f)) none
 |.value (.tmp t)=>(nG c.args.toList).map (.iv (.tmp t))
 |_=>none
def ac1(P:Program)(t:TypeId):J:=
 match P.info? t with
 |some i=>(match i.desc with|.named n _=>n == "strings.Builder" |_=>false)
 |none=>false
def Mj:I Value->J
 |[.pointer none,.slice none 0 0]=>true
 |_=>false
def PT(P:Program)(t:TypeId):J:=
 match (P.info? t).bind (·.zero)with
 |some z=>Mj z.cells.toList
 |none=>false
def Ad(P:Program)(t:TypeId):ag Nat:=
 ite (ac1 P t=true/\PT P t=true) (match P.underlying t with
  |some (.struct fs)=>(fs[1]?).bind λf=>match P.underlying f.type with
   |some (.slice e)=>some e
   |_=>none
  |_=>none) none
def ug(P:Program)(t:TypeId):J:=
 match P.underlying t with
 |some (.map k v)=>(match P.underlying k,P.underlying v with|some .string,some .bool=>true|_,_=>false)&&(match (P.info? v).bind (·.zero)with|some (.bool false)=>true|_=>false)
 |_=>false
def Jd:Operand->J
 |.const (.bool true)=>true
 |_=>false
def IJ:Operand->J
 |.const (.slice none 0 0)=>true
 |_=>false
def Hw:Operand->Operand->J
 |.tmp s,.tmp t=>s==t
 |_,_=>false
def de(P:Program)(o:Op):ag c0:=
 match o with
 |.move x|.assign x=>(bO x).map .mov
 |.pick c a b=>(bO c).bind λc=>(bO a).bind λa=>(bO b).map λb=>.pick c a b
 |.alloc e=>match Ad P e with
  |some e8=>some (.allocS e e8)
  |none=>(kb P e).bind λcs=>match P.underlying e with
   |some (.array n t)=>if ev P t=some 1/\n=cs.length/\4<n/\n<=2^24 then some (.allocA cs)else some (.alloc cs)
   |_=>some (.alloc cs)
 |.box _ x=>(bO x).map .box
 |.build t parts=>match P.underlying t with
  |some (.struct fs)=>ite (Jc P fs) ((kb P t).bind λz=>(w8 P fs parts.toList).map λps=>.build z ps) none
  |some (.array _ e)=>(kb P t).bind λz=>(ev P e).bind λn=>(wJ n parts.toList).map λps=>.build z ps
  |_=>none
 |.buildSlice t len parts=>match P.underlying t with
  |some (.slice e)=>(ev P e).bind λn=>(kb P e).bind λz=>(p9 parts.toList).bind λps=>
   ite (n≠0/\z.length=n/\len*n<=2^24) (some (.bslice n len z ps)) none
  |_=>none
 |.load t a=>(nr P t).bind λg=>(bO a).map λx=>.load g.1 g.2 x
 |.store t a v=>(ev P t).bind λn=>(bO a).bind λx=>(bO v).map λy=>.store n x y
 |.nilCheck x=>(bO x).map .nilCheck
 |.binOp op t x y _=>
  if op= .eql\/op= .neq then match P.underlying t with
   |some (.array _ _)=>(JP P t).bind λks=>(bO x).bind λa=>(bO y).map λb=>.eqAgg (op== .neq) ks a b
   |some (.struct _)=>(II P t).bind λks=>(bO x).bind λa=>(bO y).map λb=>.eqAgg (op== .neq) ks a b
   |some (.slice _)=>ite (IJ y) ((bO x).map (.eqNil (op== .neq))) none
   |some .bool=>(bO x).bind λa=>(bO y).map λb=>.eqBool (op== .neq) a b
   |some (.int _)|some .string=>(bO x).bind λa=>(bO y).map λb=>.bin op a b
   |_=>none
  else(bO x).bind λa=>(bO y).map λb=>.bin op a b
 |.unOp .not _ x=>(bO x).map .not
 |.unOp .neg t x=>match P.underlying t with
  |some (.int k)=>(bO x).map (.bin .sub (.const (.c (.t (.int k 0)))))
  |_=>none
 |.unOp .xor t x=>match P.underlying t with
  |some (.int k)=>(bO x).map (.bin .xor (.const (.c (.t (.int k (if k.signed then -1 else k.max))))))
  |_=>none
 |.convert s d x=>match P.underlying s,P.underlying d with
  |some (.int _),some (.int k)=>(bO x).map (.conv k)
  |some (.int _),some .string=>(bO x).map .i2s
  |some .string,some .string=>(bO x).map .s2s
  |some (.slice e),some .string=>ite ((match P.underlying e with|some (.int .u8)=>true|_=>false)=true/\ev P e=some 1) ((bO x).map .b2s) none
  |_,_=>none
 |.fieldAddr t x f=>match P.underlying t with
  |some (.struct fs)=>(fs[f]?).bind λj=>(ev P j.type).bind λn=>if n=0 then none else(bO x).map (.fldA j.offset)
  |_=>none
 |.field t x f=>match P.underlying t with
  |some (.struct fs)=>(fs[f]?).bind λj=>(nr P j.type).bind λg=>(bO x).map (.fld g.1 j.offset g.2)
  |_=>none
 |.indexAddr t x i=>match P.underlying t with
  |some (.slice e)=>(ev P e).bind λn=>if n=0 then none else(bO x).bind λa=>(bO i).map λb=>.idxA n a b
  |some (.array n e)=>match i with
   |.const (.int _ m)=>ite (0<=m/\m.toNat<n) ((ev P e).bind λs=>(bO x).map (.fldA (m.toNat*s))) none
   |i=>ite (ev P e=some 1) ((bO x).bind λa=>(bO i).map λb=>.idxP n a b) none
  |_=>none
 |.index t x i=>match P.underlying t with
  |some .string=>(bO x).bind λa=>(bO i).map λb=>.idxS a b
  |some (.array n e)=>ite (nr P e=some (false,1)) ((bO x).bind λa=>(bO i).map λb=>.idxV n a b) none
  |_=>none
 |.slice t x q p r=>match P.underlying t with
  |some .string=>ite r.isNone ((bO x).bind λa=>(kC q).bind λl=>(kC p).map λh=>.slcS a l h) none
  |some (.slice e)=>match r with
   |none=>(ev P e).bind λn=>if n=0 then none else(bO x).bind λa=>(kC q).bind λl=>(kC p).map λh=>.slc n a l h
   |some (.const (.int _ 0))=>match q,p with
    |none,some (.const (.int _ 0))=>ite ((ev P e).isSome) ((bO x).map .slc0) none
    |_,_=>none
   |_=>none
  |some (.array n e)=>ite (r.isNone/\ev P e=some 1) ((bO x).bind λa=>(kC q).bind λl=>(kC p).map λh=>.slcP n a l h) none
  |_=>none
 |.makeFunc (.func f) first caps=>ite first.isEmpty ((nG caps.toList).map (.mkfn f)) none
 |.extract x i=>(bO x).map λa=>.ext a i
 |.makeSlice t x y=>match P.underlying t with
  |some (.slice e)=>ite (Hw x y) ((P.info? e).bind λi=>(kb P e).bind λz=>ite (i.size≠0/\z.length=i.size) ((bO x).map (.mslice i.size i.bytes z)) none) none
  |_=>none
 |.makeMap t none=>ite (ug P t) (some .mkset) none
 |.lookup t x i false=>ite (ug P t) ((bO x).bind λa=>(bO i).map λb=>.lkset a b) none
 |.mapUpdate t m k v=>ite (ug P t=true/\Jd v=true) ((bO m).bind λa=>(bO k).map λb=>.upset a b) none
 |.call c=>nd P c
 |_=>none
def tX(ops:Array Oper):ag (Nat×J)->ag (ag (Nat×J))
 |none=>some none
 |some (j,b)=>((ops[j]?).bind (·.dst)).map λd=>some (d,b)
def vR(d:Nat):Operand->J
 |.tmp t=>t==d
 |_=>false
def AJ(d:Nat):Op->J
 |.call c=>match c.callee with
  |.builtin .append=>(c.args.toList.drop 1).any (vR d)
  |.value (.func _)=>c.args.toList.any (vR d)
  |_=>false
 |.build _ ps=>ps.toList.any λp=>vR d p.2
 |.buildSlice _ _ ps=>ps.toList.any λp=>vR d p.2
 |.convert _ _ x=>vR d x
 |.indexAddr _ x _=>vR d x
 |_=>false
def L8(ops:Array Oper)(o:Oper):J:=
 match o.dst with
 |some d=>ops.toList.any λq=>AJ d q.op
 |none=>false
def w9(P:Program)(a:J)(o:Op):ag c0:=
 match o,a with
 |.buildSlice t len parts,true=>match P.underlying t with
  |some (.slice e)=>(ev P e).bind λn=>(kb P e).bind λz=>(p9 parts.toList).bind λps=>
   ite (n≠0/\z.length=n/\len*n<=2^24) (some (.bsliceT e n len z ps)) none
  |_=>none
 |o,_=>de P o
def w5(P:Program)(nt:Nat)(ops:Array Oper)(o:Oper):ag cf:=
 (w9 P (L8 ops o) o.op).bind λp=>(tX ops o.guard).bind λg=>
  match o.dst with
  |none=>some ⟨none,p,g⟩
  |some d=>if d<nt then some ⟨some d,p,g⟩else none
def hh(P:Program)(nt:Nat)(ops:Array Oper):I Oper->ag (I cf)
 |[]=>some []
 |o::r=>(w5 P nt ops o).bind λa=>(hh P nt ops r).map (a::·)
inductive dG where
 |skip
 |region (ops:List cf)
 |o2 (ops:List cf)(fw:List (Nat×Nat))
 |seq (a b:dG)
 |cond (c:aS)(x y:dG)
 |block (id:Nat)(b:dG)
 |loop (b:dG)
 |exit (id:Nat)
 |ret
def c0.cE:c0->J
 |.alloc _|.allocA _|.box _|.bslice .. |.mslice .. |.store .. |.append .. |.call .. |.iv .. |.eqNil .. =>false
 |.allocS .. |.mkset|.upset .. |.appendB .. |.ustr .. =>false
 |_=>true
def c0.il:c0->J
 |.alloc _|.allocA _|.b2s _|.box _|.bslice .. |.mslice .. |.store .. |.append .. |.load .. =>true
 |.allocS .. |.mkset|.lkset .. |.upset .. |.appendB .. |.ustr .. |.call .. =>true
 |_=>false
def c0.drawn:c0->J
 |.eqNil .. =>false
 |_=>true
def aS.tmps:aS->ba
 |.tmp t=>[t]
 |.const _=>[]
def uQ:ag aS->ba
 |none=>[]
 |some x=>x.tmps
def c0.reads:c0->ba
 |.mov x=>x.tmps
 |.pick c x y=>c.tmps++x.tmps++y.tmps
 |.alloc _|.allocA _=>[]
 |.box x=>x.tmps
 |.build _ ps=>ps.flatMap λp=>p.2.2.tmps
 |.bslice _ _ _ ps=>ps.flatMap λp=>p.2.tmps
 |.load _ _ x=>x.tmps
 |.store _ x v=>x.tmps++v.tmps
 |.nilCheck x=>x.tmps
 |.bin _ x y=>x.tmps++y.tmps
 |.eqAgg _ _ x y=>x.tmps++y.tmps
 |.eqBool _ x y=>x.tmps++y.tmps
 |.eqNil _ x=>x.tmps
 |.not x=>x.tmps
 |.conv _ x=>x.tmps
 |.i2s x=>x.tmps
 |.s2s x=>x.tmps
 |.fldA _ x=>x.tmps
 |.fld _ _ _ x=>x.tmps
 |.idxA _ x i=>x.tmps++i.tmps
 |.idxS x i=>x.tmps++i.tmps
 |.slcS x e a=>x.tmps++uQ e++uQ a
 |.slc _ x e a=>x.tmps++uQ e++uQ a
 |.slc0 x=>x.tmps
 |.b2s x=>x.tmps
 |.allocS .. |.mkset=>[]
 |.bsliceT _ _ _ _ ps=>ps.flatMap λp=>p.2.tmps
 |.lkset x k=>x.tmps++k.tmps
 |.upset x k=>x.tmps++k.tmps
 |.appendB _ _ x y=>x.tmps++y.tmps
 |.sdata x=>x.tmps
 |.ustr _ x k=>x.tmps++k.tmps
 |.idxP _ x i=>x.tmps++i.tmps
 |.idxV _ x i=>x.tmps++i.tmps
 |.mslice _ _ _ x=>x.tmps
 |.slcP _ x e a=>x.tmps++uQ e++uQ a
 |.mkfn _ caps=>caps.flatMap aS.tmps
 |.ext x _=>x.tmps
 |.len _ x=>x.tmps
 |.append _ _ _ x y=>x.tmps++y.tmps
 |.max2 x y=>x.tmps++y.tmps
 |.min2 x y=>x.tmps++y.tmps
 |.call _ args=>args.flatMap aS.tmps
 |.iv x args=>x.tmps++args.flatMap aS.tmps
def cf.rd(o:cf):ba:=o.op.reads++(match o.guard with|none=>[]|some (t,_)=>[t])
def hG(o:Oper):ba:=(o.after.toList.filter (Region.binds .any)).map (·.on)
def ahead(l:I (cf×ba))(j i:Nat):J:=(j<i:J)&&((l[i]?).map λx=>x.2.contains j).getD false
def EK:Nat->I (cf×ba)->J
 |_,[]=>true
 |i,x::r=>x.2.all (· < i)&&EK (i+1) r
def VZ(l:I (cf×ba)):J:=
 l.zipIdx.all λx=>l.zipIdx.all λy=>
  match y.1.1.dst with
  |none=>true
  |some d=>(!(x.1.1.rd.contains d)||ahead l y.2 x.2||(x.1.1.op.cE && !x.1.1.op.il&&ahead l x.2 y.2))&&(x.2==y.2 || !(x.1.1.dst==some d))
def n0:I (cf×ba)->I ba->I ba
 |[],acc=>acc
 |x::r,acc=>n0 r (acc++[(x.2++x.2.flatMap λe=>acc.getD e []).eraseDups])
def oB(a:I ba)(j i:Nat):J:=(j<i:J)&&(a.getD i []).contains j
def Gk(a:I ba)(l:I (cf×ba)):I (Nat×Nat):=
 l.zipIdx.flatMap λx=>if x.1.1.op.cE then[]else l.zipIdx.filterMap λy=>
  ite (y.1.1.op.il && !(x.2==y.2) && !(oB a x.2 y.2) && !(oB a y.2 x.2)) (some (x.2,y.2)) none
def lu(l:I (cf×ba)):I (Nat×Nat):=Gk (n0 l []) l
def FG(l:I (cf×ba)):J:=(List.range (l.length-1)).all λi=>l.zipIdx.any λy=>(i<y.2:J)&&y.1.2.contains i
def tQ(l:I (cf×ba)):J:=EK 0 l&&VZ l&&l.all λx=>x.1.op.drawn
def s3(l:I (cf×ba)):I (Nat×Nat):=
 if (2<=l.length:J)&&FG l&&tQ l.dropLast then(l.length,0)::(lu l++lu l.dropLast)else lu l
def fL(ops:Array Oper)(bd:I cf):I (cf×ba):=bd.zip (ops.toList.map hG)
def resolve(P:Program)(nt:Nat):Code->ag dG
 |.skip=>some .skip
 |.region _ ops d=>(hh P nt ops ops.toList).bind λbd=>
  if d then(ite (tQ (fL ops bd)&&P.follows .mixedOrders) (some (.o2 bd (s3 (fL ops bd)))) none)else some (.region bd)
 |.seq a b=>(resolve P nt a).bind λx=>(resolve P nt b).map λy=>.seq x y
 |.cond c a b=>(bO c).bind λo=>(resolve P nt a).bind λx=>(resolve P nt b).map λy=>.cond o x y
 |.block id b=>(resolve P nt b).map (.block id)
 |.loop b=>(resolve P nt b).map .loop
 |.exit id=>some (.exit id)
 |.ret=>some .ret
 |_=>none
abbrev Env:=I (Nat×J×V)
abbrev bg:=I (Nat×b9)
def look:Env->Nat->ag (J×V)
 |[],_=>none
 |(k,x)::r,i=>if k=i then some x else look r i
def aV:bg->Nat->ag b9
 |[],_=>none
 |(k,x)::r,i=>if k=i then some x else aV r i
def dn:bg->Nat->b9->bg
 |[],b,x=>[(b,x)]
 |(k,y)::r,b,x=>if k=b then(k,x)::r else(k,y)::dn r b x
def hx:bg->Nat->bg
 |[],_=>[]
 |(k,y)::r,b=>if k=b then hx r b else(k,y)::hx r b
theorem c9(σ:bg)(b:Nat)(x:b9)(i:Nat):aV (dn σ b x) i=if b=i then some x else aV σ i:=by
 induction σ with
 |nil=>rfl
 |cons y r ih=>
  obtain⟨k,y⟩:=y;by_cases a:k=b;grind[dn,aV];simp[dn,au a,aV];grind
theorem fD(σ:bg)(b:Nat)(i:Nat):aV (hx σ b) i=if b=i then none else aV σ i:=by
 induction σ with
 |nil=>simp[hx,aV]
 |cons y r ih=>
  obtain⟨k,y⟩:=y;by_cases a:k=b;grind[hx,aV];simp[hx,au a,aV];grind
def aS.get(env:Env):aS->ag (Prop×V)
 |.const v=>some (True,v)
 |.tmp t=>(look env t).map λx=>(x.1=true,x.2)
def h2(env:Env):I aS->ag (Prop×I V)
 |[]=>some (True,[])
 |x::xs=>(x.get env).bind λa=>(h2 env xs).map λb=>(a.1/\b.1,a.2::b.2)
def j0(env:Env):ag aS->ag (Prop×ag Int)
 |none=>some (True,none)
 |some x=>(x.get env).bind λa=>match a.2 with
  |.c (.t (.int _ n))=>some (a.1,some n)
  |_=>none
def qg:V->ag (I C)
 |.c x=>some [x]
 |.agg cs=>some cs
 |.bf _=>none
def toT:C->ag T
 |.t x=>some x
 |.bV=>some (.slice [])
 |_=>none
def toTs:I C->ag (I T)
 |[]=>some []
 |c::cs=>(toT c).bind λt=>(toTs cs).map (t::·)
def el(es:I (I T))(i:Nat):I T:=es.getD i []
def vN(a:I C)(off:Nat)(cs:I C):I C:=a.take off++cs++a.drop (off+cs.length)
def lv(env:Env):I C->I (Nat×Nat×aS)->ag (Prop×I C)
 |c,[]=>some (True,c)
 |c,(off,n,x):: r=>(x.get env).bind λa=>(qg a.2).bind λcs=>
  ite (cs.length=n/\off+n<=c.length) ((lv env (vN c off cs) r).map λb=>(a.1/\b.1,b.2)) none
def jU(env:Env)(sz:Nat):I (I T)->I (Nat×aS)->ag (Prop×I (I T))
 |es,[]=>some (True,es)
 |es,(i,x):: r=>(x.get env).bind λa=>(qg a.2).bind λcs=>(toTs cs).bind λts=>
  ite (ts.length=sz/\i<es.length) ((jU env sz (es.set i ts) r).map λb=>(a.1/\b.1,b.2)) none
def qR:BinOp->T->T->ag (Prop×T)
 |.add,.int k a,.int c b=>ite (k=c) (some (True,.int k (k.wrap (a+b)))) none
 |.sub,.int k a,.int c b=>ite (k=c) (some (True,.int k (k.wrap (a-b)))) none
 |.mul,.int k a,.int c b=>ite (k=c) (some (True,.int k (k.wrap (a*b)))) none
 |.quo,.int k a,.int c b=>ite (k=c) (some (b≠0,.int k (k.wrap (a.tdiv b)))) none
 |.rem,.int k a,.int c b=>ite (k=c) (some (b≠0,.int k (a.tmod b))) none
 |.and,.int k a,.int c b=>ite (k=c) (some (True,.int k (k.wrap (BitVec.ofInt k.bits a &&& BitVec.ofInt k.bits b).toNat))) none
 |.or,.int k a,.int c b=>ite (k=c) (some (True,.int k (k.wrap (BitVec.ofInt k.bits a ||| BitVec.ofInt k.bits b).toNat))) none
 |.xor,.int k a,.int c b=>ite (k=c) (some (True,.int k (k.wrap (BitVec.ofInt k.bits a ^^^ BitVec.ofInt k.bits b).toNat))) none
 |.andNot,.int k a,.int c b=>ite (k=c) (some (True,.int k (k.wrap (BitVec.ofInt k.bits a &&& ~~~ BitVec.ofInt k.bits b).toNat))) none
 |.shl,.int k a,.int _ b=>some (0<=b,.int k (k.wrap (a*2^min b.toNat k.bits)))
 |.shr,.int k a,.int _ b=>some (0<=b,.int k (a.fdiv (2^min b.toNat k.bits)))
 |.eql,.int k a,.int c b=>ite (k=c) (some (True,.bool (a=b:J))) none
 |.neq,.int k a,.int c b=>ite (k=c) (some (True,.bool (!(a=b:J)))) none
 |.lss,.int k a,.int c b=>ite (k=c) (some (True,.bool (a<b:J))) none
 |.leq,.int k a,.int c b=>ite (k=c) (some (True,.bool (a<=b:J))) none
 |.gtr,.int k a,.int c b=>ite (k=c) (some (True,.bool (b<a:J))) none
 |.geq,.int k a,.int c b=>ite (k=c) (some (True,.bool (b<=a:J))) none
 |.add,.str a,.str b=>some (a.length+b.length<=eS,.str (a++b))
 |.eql,.str a,.str b=>some (True,.bool (a=b:J))
 |.neq,.str a,.str b=>some (True,.bool (!(a=b:J)))
 |.lss,.str a,.str b=>some (True,.bool (Op.bytesLess a b))
 |.leq,.str a,.str b=>some (True,.bool (Op.bytesLess a b||(a=b:J)))
 |.gtr,.str a,.str b=>some (True,.bool (!(Op.bytesLess a b||(a=b:J))))
 |.geq,.str a,.str b=>some (True,.bool (!(Op.bytesLess a b)))
 |_,_,_=>none
def yO:Nat->T->T->ag J
 |0,.bool a,.bool b=>some (a==b)
 |1,.int k a,.int c b=>ite (k=c) (some (a=b:J)) none
 |2,.str a,.str b=>some (a=b:J)
 |_,_,_=>none
def lJ:ba->I C->I C->ag J
 |[],[],[]=>some true
 |k::ks,.t x::xs,.t y::a=>(yO k x y).bind λb=>(lJ ks xs a).map λr=>b&&r
 |_,_,_=>none
abbrev Cf:=ag (Prop×V×bg)
def loadT(agg:J)(n:Nat)(ts:I T)(o:Nat):ag V:=
 if agg then(ite (o+n<=ts.length) (some (.agg (((ts.drop o).take n).map .t))) none)else(ts[o]?).map λt=>.c (.t t)
def j2(agg:J)(n:Nat)(cs:I C)(o:Nat):ag V:=
 if agg then(ite (o+n<=cs.length) (some (.agg ((cs.drop o).take n))) none)else(cs[o]?).map .c
def hD:Nat:=281474976710656
def jW(n bytes:Nat):Prop:=(2*n+192)*bytes<=hD\/(n+n/4+512)*bytes<=hD
def lW(σ:bg):V->ag (I (I T)×ag Nat)
 |.c (.t (.slice a))=>some (a,none)
 |.c .bV=>some ([],none)
 |.c (.arr b d off len)=>match aV σ b with
  |some (.arr e a)=>ite (d=e/\off=0/\len=a.length) (some (a,some b)) none
  |_=>none
 |_=>none
def bytesOf:I (I T)->ag aq
 |[]=>some []
 |[.int .u8 m]::r=>(bytesOf r).map λs=>UInt8.ofNat m.toNat::s
 |_=>none
def nZ(σ:bg):V->ag (Prop×aq)
 |.c (.t (.slice es))=>(bytesOf es).map λs=>(True,s)
 |.c .bV=>some (True,[])
 |.c (.arr b 1 off len)=>match aV σ b with
  |some (.arr 1 es)=>(bytesOf ((es.drop off).take len)).map λs=>(off+len<=es.length,s)
  |_=>none
 |.c (.gf b 1 off len)=>match aV σ b with
  |some (.arr 1 es)=>(bytesOf ((es.drop off).take len)).map λs=>(off+len<=es.length,s)
  |_=>none
 |_=>none
def hc(ks:I aq)(s:aq):J:=ks.any λk=>(k=s:J)
def iY(ks:I aq)(s:aq):I aq:=if hc ks s then ks else ks++[s]
def zK:I C->ag C
 |[.arr b sz off len]=>some (.arr b sz off len)
 |_=>none
def mI:V->V->ag (Nat×Nat×Nat×Nat×Nat×Nat×Nat)
 |.c (.arr b sz off len),.c (.gf a f e d)=>ite (b=a) (some (b,sz,off,len,f,e,d)) none
 |_,_=>none
def vx(σ:bg)(n sz:Nat)(p q:Prop):Nat×Nat×Nat×Nat×Nat×Nat×Nat->Cf
 |(b,s1,off,len,e,d,a)=>match aV σ b with
  |some (.arr f es)=>some (p/\q/\s1 = sz/\e = sz/\f = sz/\off = 0/\len+a<=es.length/\d+a<=es.length,
   .c (.arr n sz 0 (len+a)),dn (hx σ b) n (.arr sz (es.take len++(es.drop d).take a)))
  |_=>none
def aQ(o:c0)(env:Env)(σ:bg)(n:Nat):Cf:=
 match o with
 |.mov x=>(x.get env).map λa=>(a.1,a.2,σ)
 |.pick c x y=>(c.get env).bind λc=>(x.get env).bind λx=>(y.get env).bind λy=>
  match c.2,x.2,y.2 with
  |.c (.t (.bool b)),.c (.t (.bool p)),.c (.t (.bool q))=>
   some (c.1/\(b=true->x.1)/\(b=false->y.1),.c (.t (.bool (bif b then p else q))),σ)
  |_,_,_=>none
 |.alloc cs=>some (True,.c (.ptr n 0),dn σ n (.box cs))
 |.allocA cs=>(toTs cs).map λts=>(True,.c (.ptr n 0),dn σ n (.arr 1 (ts.map λt=>[t])))
 |.idxP k x i=>(x.get env).bind λa=>(i.get env).bind λj=>match a.2,j.2 with
  |.c (.ptr b 0),.c (.t (.int _ m))=>some (a.1/\j.1/\0<=m/\m.toNat<k,.c (.cW b 1 m.toNat 0),σ)
  |_,_=>none
 |.idxV k x i=>(x.get env).bind λa=>(i.get env).bind λj=>match a.2,j.2 with
  |.agg cs,.c (.t (.int _ m))=>if cs.length=k then some (a.1/\j.1/\0<=m/\m.toNat<k,.c (cs.getD m.toNat .dead),σ)else none
  |_,_=>none
 |.mslice sz bytes z x=>(x.get env).bind λa=>(toTs z).bind λE=>match a.2 with
  |.c (.t (.int _ m))=>some (a.1/\0<=m/\m.toNat*bytes<=hD/\m.toNat<=dB,.c (.arr n sz 0 m.toNat),dn σ n (.arr sz (List.replicate m.toNat E)))
  |_=>none
 |.slcP k x A B=>(x.get env).bind λa=>(j0 env A).bind λl=>(j0 env B).bind λh=>match a.2 with
  |.c (.ptr b 0)=>
   let e:=h.2.getD k;let c:=l.2.getD 0
   some (a.1/\l.1/\h.1/\0<=c/\c<=e/\e<=k,.c (.gf b 1 c.toNat (e.toNat-c.toNat)),σ)
  |_=>none
 |.b2s x=>(x.get env).bind λa=>(nZ σ a.2).map λr=>(a.1/\r.1,.c (.t (.str r.2)),σ)
 |.box x=>(x.get env).bind λa=>(qg a.2).map λcs=>(a.1,.c (.ptr n 0),dn σ n (.box cs))
 |.build z parts=>(lv env z parts).map λa=>(a.1,.agg a.2,σ)
 |.bslice sz len z parts=>(toTs z).bind λE=>(jU env sz (List.replicate len E) parts).map λa=>
  (a.1,.c (.arr n sz 0 len),dn σ n (.arr sz a.2))
 |.load agg k x=>(x.get env).bind λa=>match a.2 with
  |.c (.ptr b o)=>match aV σ b with
   |some (.box cs)=>(j2 agg k cs o).map λv=>(a.1,v,σ)
   |some (.cm _ c)=>if agg=false/\o=1 then some (a.1,.c c,σ)else none
   |_=>none
  |.c (.cW b sz i o)=>match aV σ b with
   |some (.arr g es)=>(loadT agg k (el es i) o).map λv=>(a.1/\sz=g/\i<es.length,v,σ)
   |some (.cR g es C D c)=>if agg then none else if o=D then some (a.1/\sz=g/\i=C,.c c,σ)else(loadT false k (el es i) o).map λv=>(a.1/\sz=g/\i<es.length,v,σ)
   |_=>none
  |.c (.dY ts o)=>(loadT agg k ts o).map λv=>(a.1,v,σ)
  |_=>none
 |.store k x v=>(x.get env).bind λa=>(v.get env).bind λd=>(qg d.2).bind λcs=>
  if cs.length=k then match a.2 with
   |.c (.ptr b o)=>match aV σ b with
    |some (.box ds)=>if o+k<=ds.length then some (a.1/\d.1,.bf [],dn σ b (.box (vN ds o cs)))else none
    |some (.cm e _)=>match o,cs with
     |1,[c]=>some (a.1/\d.1,.bf [],dn σ b (.cm e c))
     |_,_=>none
    |_=>none
   |.c (.cW b sz i o)=>match aV σ b with
    |some (.arr g es)=>match zK cs with
     |some c=>some (a.1/\d.1/\sz=g/\i<es.length/\o+k<=sz,.bf [],dn σ b (.cR g es i o c))
     |none=>(toTs cs).bind λts=>
      some (a.1/\d.1/\sz=g/\i<es.length/\o+k<=sz,.bf [],
       dn σ b (.arr g (es.set i ((el es i).take o++ts++(el es i).drop (o+k)))))
    |some (.cR g es C D G)=>match cs with
     |[c]=>if o=D then some (a.1/\d.1/\sz=g/\i=C,.bf [],dn σ b (.cR g es C D c))
      else(toT c).bind λt=>some (a.1/\d.1/\sz=g/\i<es.length/\o+k<=sz,.bf [],
       dn σ b (.cR g (es.set i ((el es i).take o++[t]++(el es i).drop (o+k))) C D G))
     |_=>none
    |_=>none
   |_=>none
  else none
 |.nilCheck x=>(x.get env).bind λa=>match a.2 with
  |.c (.ptr ..)|.c (.cW ..)|.c (.dY ..)=>some (a.1,a.2,σ)
  |_=>none
 |.bin op x y=>(x.get env).bind λa=>(y.get env).bind λb=>match a.2,b.2 with
  |.c (.t p),.c (.t q)=>(qR op p q).map λr=>(a.1/\b.1/\r.1,.c (.t r.2),σ)
  |_,_=>none
 |.eqAgg neg ks x y=>(x.get env).bind λa=>(y.get env).bind λb=>match a.2,b.2 with
  |.agg p,.agg q=>(lJ ks p q).map λr=>(a.1/\b.1,.c (.t (.bool (if neg then !r else r))),σ)
  |_,_=>none
 |.eqBool neg x y=>(x.get env).bind λa=>(y.get env).bind λb=>match a.2,b.2 with
  |.c (.t (.bool p)),.c (.t (.bool q))=>some (a.1/\b.1,.c (.t (.bool (if neg then !(p==q)else(p==q)))),σ)
  |_,_=>none
 |.not x=>(x.get env).bind λa=>match a.2 with
  |.c (.t (.bool b))=>some (a.1,.c (.t (.bool (!b))),σ)
  |_=>none
 |.conv k x=>(x.get env).bind λa=>match a.2 with
  |.c (.t (.int _ m))=>some (a.1,.c (.t (.int k (k.wrap m))),σ)
  |_=>none
 |.i2s x=>(x.get env).bind λa=>match a.2 with
  |.c (.t (.int _ m))=>some (a.1,.c (.t (.str (Utf8.encode m).data.toList)),σ)
  |_=>none
 |.s2s x=>(x.get env).bind λa=>match a.2 with
  |.c (.t (.str s))=>some (a.1,.c (.t (.str s)),σ)
  |_=>none
 |.fldA off x=>(x.get env).bind λa=>match a.2 with
  |.c (.ptr b o)=>some (a.1,.c (.ptr b (o+off)),σ)
  |.c (.cW b sz i o)=>some (a.1,.c (.cW b sz i (o+off)),σ)
  |.c (.dY ts o)=>some (a.1,.c (.dY ts (o+off)),σ)
  |_=>none
 |.fld agg off k x=>(x.get env).bind λa=>match a.2 with
  |.agg cs=>(j2 agg k cs off).map λv=>(a.1,v,σ)
  |_=>none
 |.idxA sz x i=>(x.get env).bind λa=>(i.get env).bind λj=>match a.2,j.2 with
  |.c (.t (.slice es)),.c (.t (.int _ m))=>some (a.1/\j.1/\0<=m/\m.toNat<es.length/\(el es m.toNat).length=sz,.c (.dY (el es m.toNat) 0),σ)
  |.c (.arr b g off len),.c (.t (.int _ m))=>some (a.1/\j.1/\0<=m/\m.toNat<len/\sz=g,.c (.cW b sz (off+m.toNat) 0),σ)
  |_,_=>none
 |.idxS x i=>(x.get env).bind λa=>(i.get env).bind λj=>match a.2,j.2 with
  |.c (.t (.str s)),.c (.t (.int _ m))=>some (a.1/\j.1/\0<=m/\m.toNat<s.length,.c (.t (.int .u8 (s.getD m.toNat 0).toNat)),σ)
  |_,_=>none
 |.slcS x A B=>(x.get env).bind λa=>(j0 env A).bind λl=>(j0 env B).bind λh=>match a.2 with
  |.c (.t (.str s))=>
   let b:=h.2.getD s.length;let c:=l.2.getD 0
   some (a.1/\l.1/\h.1/\0<=c/\c<=b/\b<=s.length,.c (.t (.str ((s.take b.toNat).drop c.toNat))),σ)
  |_=>none
 |.slc sz x A B=>(x.get env).bind λa=>(j0 env A).bind λl=>(j0 env B).bind λh=>match a.2 with
  |.c (.t (.slice es))=>
   let b:=h.2.getD es.length;let c:=l.2.getD 0
   some (a.1/\l.1/\h.1/\0<=c/\c<=b/\b<=es.length/\(∀e,e∈es->e.length=sz),.c (.t (.slice ((es.take b.toNat).drop c.toNat))),σ)
  |.c (.arr b g off len)=>
   some (a.1/\l.1/\h.1/\0<=l.2.getD 0/\l.2.getD 0<=h.2.getD len/\h.2.getD len<=len/\sz=g,
    .c (if A.isNone then .arr b g off (h.2.getD len).toNat else .gf b g (off+(l.2.getD 0).toNat) ((h.2.getD len).toNat-(l.2.getD 0).toNat)),σ)
  |_=>none
 |.slc0 x=>(x.get env).bind λa=>match a.2 with
  |.c (.t (.slice _))|.c .bV|.c (.arr ..)=>some (a.1,.c .bV,σ)
  |_=>none
 |.mkfn f caps=>(h2 env caps).bind λa=>match sZ a.2 with
  |some l=>some (a.1,.c (.fn f l),σ)
  |none=>none
 |.ext x i=>(x.get env).bind λa=>match a.2 with
  |.bf vs=>(vs[i]?).map λv=>(a.1,v,σ)
  |_=>none
 |.len str x=>(x.get env).bind λa=>match str,a.2 with
  |false,.c (.t (.slice es))=>some (a.1,.c (.t (.int .i64 es.length)),σ)
  |false,.c (.arr _ _ _ l)=>some (a.1,.c (.t (.int .i64 l)),σ)
  |false,.c .bV=>some (a.1,.c (.t (.int .i64 0)),σ)
  |false,.c (.cN _ l)=>some (a.1,.c (.t (.int .i64 l)),σ)
  |true,.c (.t (.str s))=>some (a.1,.c (.t (.int .i64 s.length)),σ)
  |_,_=>none
 |.append te sz bytes x y=>(x.get env).bind λa=>(y.get env).bind λd=>
  match mI a.2 d.2 with
  |some r=>vx σ n sz a.1 d.1 r
  |none=>
  (lW σ d.2).bind λu=>
  match a.2 with
  |.c .bV=>some (a.1/\d.1/\(∀ e,e∈u.1->e.length = sz)/\jW u.1.length bytes/\u.1.length<=dB,
   .c (.arr n sz 0 u.1.length),dn σ n (.arr sz u.1))
  |.c (.arr b g off len)=>match aV σ b with
   |some (.arr H es)=>
    if u.2=some b then none else some (a.1/\d.1/\g=sz/\H=sz/\off=0/\len=es.length/\(∀e,e∈u.1->e.length=sz)/\jW (es.length+u.1.length) bytes/\es.length+u.1.length<=dB,
     .c (.arr n sz 0 (len+u.1.length)),dn (hx σ b) n (.arr sz (es++u.1)))
   |_=>none
  |.c (.cN b len)=>match aV σ b with
   |some (.buf w es)=>(bytesOf u.1).map λs=>
    (a.1/\d.1/\w=te/\sz=1/\len=es.length/\u.1=s.map (λc=>[.int .u8 c.toNat])/\jW (es.length+s.length) bytes/\es.length+s.length<=dB,
     .c (.cN n (len+s.length)),dn (hx σ b) n (.buf w (es++s)))
   |_=>none
  |_=>none
 |.max2 x y=>(x.get env).bind λa=>(y.get env).bind λb=>match a.2,b.2 with
  |.c (.t (.int k p)),.c (.t (.int F q))=>if k=F then some (a.1/\b.1,.c (.t (.int k (max p q))),σ)else none
  |_,_=>none
 |.min2 x y=>(x.get env).bind λa=>(y.get env).bind λb=>match a.2,b.2 with
  |.c (.t (.int k p)),.c (.t (.int F q))=>if k=F then some (a.1/\b.1,.c (.t (.int k (min p q))),σ)else none
  |_,_=>none
 |.allocS e e8=>some (True,.c (.ptr n 0),dn (dn σ (n+1) (.buf e8 [])) n (.cm e (.cN (n+1) 0)))
 |.bsliceT _ sz len z parts=>(toTs z).bind λE=>(jU env sz (List.replicate len E) parts).map λa=>(a.1,.c (.t (.slice a.2)),σ)
 |.mkset=>some (True,.c (.mp n),dn σ n (.set []))
 |.lkset x k=>(x.get env).bind λa=>(k.get env).bind λd=>match a.2,d.2 with
  |.c (.mp b),.c (.t (.str s))=>match aV σ b with
   |some (.set ks)=>some (a.1/\d.1,.c (.t (.bool (hc ks s))),σ)
   |_=>none
  |_,_=>none
 |.upset x k=>(x.get env).bind λa=>(k.get env).bind λd=>match a.2,d.2 with
  |.c (.mp b),.c (.t (.str s))=>match aV σ b with
   |some (.set ks)=>some (a.1/\d.1,.bf [],dn σ b (.set (iY ks s)))
   |_=>none
  |_,_=>none
 |.appendB e bytes x y=>(x.get env).bind λa=>(y.get env).bind λd=>match a.2,d.2 with
  |.c (.cN b len),.c (.t (.str s))=>match aV σ b with
   |some (.buf w es)=>
    some (a.1/\d.1/\w=e/\len=es.length/\jW (es.length+s.length) bytes/\es.length+s.length<=dB,
     .c (.cN n (len+s.length)),dn (hx σ b) n (.buf e (es++s)))
   |_=>none
  |_,_=>none
 |.sdata x=>(x.get env).bind λa=>match a.2 with
  |.c (.cN b _)=>some (a.1,.c (.eF b),σ)
  |_=>none
 |.ustr e x k=>(x.get env).bind λa=>(k.get env).bind λd=>match a.2,d.2 with
  |.c (.eF b),.c (.t (.int .i64 m))=>match aV σ b with
   |some (.buf w es)=>some (a.1/\d.1/\w=e/\m=es.length,.c (.t (.str es)),hx σ b)
   |_=>none
  |_,_=>none
 |.eqNil .. |.call .. |.iv .. =>none
where sZ:I V->ag ba
 |[]=>some []
 |.c (.ptr b 0)::r=>(sZ r).map (b::·)
 |_=>none
def BS(ks:I aq)(es:I MapEntry):Prop:=bb (λk e=>e.key= .string ⟨k.toArray⟩/\e.val= .bool true) ks es
def c8(φ:dk)(w:World)(S:dm)(b:Nat):b9->Prop
 |.box cs=>(φ b).2≠0/\∃(vs:I Value) (E:TypeId),w.heap[(φ b).1]?=some (.cells vs.toArray E (0,0))/\bb (bD φ w S) cs vs/\∀j,¬S (φ b).1 j
 |.arr sz es=>es.length<=(φ b).2/\es.length<=dB/\(∀ e,e∈es->e.length = sz)/\0<sz/\
  ((φ b).2≠0->∃(vs:I Value) (E:TypeId),w.heap[(φ b).1]?=some (.cells vs.toArray E (0,0))/\vs.length=(φ b).2*sz/\
   (∀(i j:Nat) e t,es[i]?=some e->e[j]?=some t->∃v,vs[i*sz+j]?=some v/\b6 w S t v)/\∀j,¬S (φ b).1 j)
 |.set ks=>(φ b).2≠0/\(∃(es:I MapEntry) (d:Nat),w.heap[(φ b).1]?=some (.map es.toArray d)/\BS ks es)/\∀j,¬S (φ b).1 j
 |.buf E s=>s.length<=(φ b).2/\s.length<=dB/\
  ((φ b).2≠0->(∃vs:I Value,w.heap[(φ b).1]?=some (.cells vs.toArray E (0,0))/\vs.length=(φ b).2/\
   ∀(i:Nat) c,s[i]?=some c->vs[i]?=some (.int .u8 (UInt8.toNat c)))/\∀j,¬S (φ b).1 j)
 |.cm E c=>(φ b).2≠0/\(∃p v:Value,w.heap[(φ b).1]?=some (.cells #[p,v] E (0,0))/\(p= .pointer none\/p= .pointer (some ⟨(φ b).1,0,none⟩))/\bD φ w S c v)/\∀j,¬S (φ b).1 j
 |.cR sz es i o c=>(es.length<=(φ b).2/\es.length<=dB/\(∀ e,e∈es->e.length = sz)/\0<sz/\i<es.length/\o<sz)/\
  (∃(vs:I Value) (E:TypeId),w.heap[(φ b).1]?=some (.cells vs.toArray E (0,0))/\vs.length=(φ b).2*sz/\
   (∀(a j:Nat) e t,es[a]?=some e->e[j]?=some t->¬(a=i/\j=o)->∃v,vs[a*sz+j]?=some v/\b6 w S t v)/\∃v,vs[i*sz+o]?=some v/\bD φ w S c v)/\∀j,¬S (φ b).1 j
structure qO (φ:dk)(w:World)(S:dm)(σ:bg):Prop where
 blk:∀b x,aV σ b=some x->c8 φ w S b x
 inj:∀b Cp x y,aV σ b=some x->aV σ Cp=some y->b≠Cp->(φ b).2≠0->(φ Cp).2≠0->(φ b).1≠(φ Cp).1
 st:∀b j,S b j->b<w.heap.size
structure Ext (B:Nat->Prop)(S bu:dm)(w w':World):Prop where
 os:w'.os=w.os
 tape:w'.tape=w.tape
 output:w'.output=w.output
 size:w.heap.size<=w'.heap.size
 block:∀b:Nat,b<w.heap.size->¬B b->w'.heap[b]?=w.heap[b]?
 mono:gN w S w' bu
 lQ:∀b j,bu b j->S b j\/B b\/w.heap.size<=b
def b9.aK(n:Nat->J):b9->J
 |.box cs=>cs.all (C.aK n)
 |.arr _ _=>true
 |.set _=>true
 |.buf _ _=>true
 |.cm _ c=>c.aK n
 |.cR _ _ _ _ c=>c.aK n
def ins(n:Nat->J)(k:Nat):Nat->J:=λb=>n b||b==k
structure Ctx where
 mH:World
 yi:dm
 B:Nat->Prop
 W3:dk
 k:Nat
structure Rel (aA:Ctx)(nt:Nat)(φ:dk)(S:dm)(env:Env)(σ:bg)(n:Nat->Bool)(a:Act)(w:World):Prop where
 bS:qO φ w S σ
 gx:∀(k:Nat) g v,look env k=some (g,v)->g=true->∃x,a.tmps[k]?=some x/\cc φ w S v x
 hl:∀(k:Nat) g v,look env k=some (g,v)->g=false->a.tmps[k]?=some undef
 gw:∀(k:Nat) g v,look env k=some (g,v)->g=true->v.aK n=true
 dT:∀(b:Nat) x,aV σ b=some x->n b/\x.aK n=true
 size:a.tmps.size=nt
 defers:a.defers=[]
 ext:Ext aA.B aA.yi S aA.mH w
 own:∀(b:Nat) x,aV σ b=some x->(φ b).2≠0->aA.B (φ b).1\/aA.mH.heap.size<=(φ b).1
 fix:∀b:Nat,b<aA.k->φ b=aA.W3 b
 gS:∀b:Nat,b<aA.k->n b=true
variable{c:C}{c5:Nat->J}{v u:Value}{x y:Operand}{p:Prop}{cs:I C}{o:Oper}{yt e E:TypeId}{fs:Array Field}{f off:Nat}{vs xs:I Value}{ts:I T}{w w':World}{g:J×Nat}{es:I (I T)}{j:ag Operand}{bq:dk}{σ':bg}{q:Nat×Nat}{α:Type}
section
variable {P:Program}{aA:Ctx}{nt:Nat}{φ:dk}{S:dm}{env:Env}{σ:bg}{n:Nat->J}{key:Nat}{a:Act}{w:World}
def b'(P:Program)(aA:Ctx)(nt:Nat)(env:Env)(σ':bg)(c5:Nat->J)(a:Act)(v:V)(r:Result Next):Prop:=
 ∃x bq bu w',(r= .ok (.value x) w'\/(r= .ok .skip w'/\x=undef))/\cc bq w' bu v x/\v.aK c5/\Rel aA nt bq bu env σ' c5 a w'
theorem aew{n:Nat->J}{k:Nat}:ins n k k:=by simp[ins]
theorem kY{n:Nat->J}{k b:Nat}(h:n b):ins n k b:=by grind[ins]
theorem C.hJ{n:Nat->J}(h:∀b,n b->c5 b)(a:c.aK n):c.aK c5:=by
 cases c<;>simp[C.aK]at*<;>first|exact h _ a|exactλb e=>h b (a b e)
theorem tY{n:Nat->J}:∀{vs:I V},(∀(i:Nat) v,vs[i]?=some v->v.aK n)->V.aK.V.dI n vs=true
 |[],_=>rfl
 |v::vs,h=>by
  simp[V.aK.V.dI];exact⟨h 0 v rfl,tY λi v a=>h (i+1) v a⟩
theorem V.hJ{n c5:Nat->J}(h:∀b,n b->c5 b):∀{v:V},v.aK n->v.aK c5=true
 |.c x,a=>by grind[V.aK,C.hJ]
 |.agg cs,a=>by
  grind[V.aK,C.hJ]
 |.bf vs,a=>by
  exact go vs a
where go:∀vs,V.aK.V.dI n vs->V.aK.V.dI c5 vs=true
 |[],_=>rfl
 |v::vs,a=>by
  simp[V.aK.V.dI]at a⊢;exact⟨V.hJ h a.1,go vs a.2⟩
theorem b9.hJ{n:Nat->J}(h:∀b,n b->c5 b){x:b9}(aa:x.aK n):x.aK c5:=by
 cases x with
 |box cs=>
  grind[b9.aK,C.hJ]
 |arr=>rfl
 |set=>rfl
 |buf=>rfl
 |cm E c=>grind[b9.aK,C.hJ]
 |cR sz es i o c=>grind[b9.aK,C.hJ]
theorem Rel.more(R:Rel aA nt φ S env σ n a w)(h:∀b,n b->c5 b):Rel aA nt φ S env σ c5 a w:=
 ⟨R.bS,R.gx,R.hl,λk g v ak av=>V.hJ h (R.gw k g v ak av),λb x aa=>⟨h b (R.dT b x aa).1,b9.hJ h (R.dT b x aa).2⟩,R.size,R.defers,R.ext,R.own,R.fix,λb c=>h b (R.gS b c)⟩
theorem b'.pure(R:Rel aA nt φ S env σ n a w){v:V}{x:Value}{r:Result Next}(e:r= .ok (.value x) w)(f:cc φ w S v x)(c:v.aK n):
 b' P aA nt env σ (ins n key) a v r:=⟨x,φ,S,w,.inl e,f,V.hJ (λ_ h=>kY h) c,R.more λ_ h=>kY h⟩
theorem Mk(h:C' v=some c):bD φ w S c v/\c.aK n:=by
 unfold C' at h;split at h<;>simp at h;subst h;exact⟨.bool _,rfl⟩;subst h;exact⟨.int _ _,rfl⟩;obtain⟨hs,rfl⟩:=h;exact⟨.str _ hs,rfl⟩;subst h;exact⟨⟨_,rfl⟩,rfl⟩;subst h;exact⟨rfl,rfl⟩;subst h;exact⟨rfl,rfl⟩;subst h;exact⟨rfl,rfl⟩
theorem Ie:∀{vs:I Value} {cs:I C},xD vs=some cs->bb (bD φ w S) cs vs/\cs.all (C.aK n)=true
 |[],cs,h=>by simp[xD]at h;subst h;exact⟨.nil,rfl⟩
 |v::vs,cs,h=>by
  simp[xD,bw,bF]at h;obtain⟨c,b,e,d,rfl⟩:=h;have h1:=Mk (φ:=φ) (w:=w) (S:=S) (n:=n) b;have a:=Ie d;exact⟨.cons h1.1 a.1,by grind⟩
theorem aaR{a:V}(h:JO v=some a):cc φ w S a v/\a.aK n:=by
 unfold JO at h;split at h;simp at h;obtain⟨l,ak,rfl⟩:=h;have:=Ie (φ:=φ) (w:=w) (S:=S) (n:=n) ak;refine⟨?_,by grind[V.aK]⟩;have e:=cc.agg this.1;omega;simp at h;obtain⟨l,ak,rfl⟩:=h;have:=Mk (φ:=φ) (w:=w) (S:=S) (n:=n) ak;exact⟨.c this.1,by grind[V.aK]⟩
theorem cI(R:Rel aA nt φ S env σ n a w){b:aS}(aa:bO x=some b){v:V}(h:b.get env=some (p,v))(ar:p):
 cc φ w S v (a.eval x)/\v.aK n:=by
 cases x with
 |tmp t=>
  simp[bO]at aa;subst aa;simp only[aS.get,bF]at h;obtain⟨⟨g,d⟩,ak,he⟩:=h;obtain⟨rfl,rfl⟩:=he;obtain⟨y,al,i⟩:=R.gx t g d ak ar;refine⟨?_,R.gw t g d ak ar⟩;simp_all[Act.eval]
 |const c=>
  simp[bO]at aa;obtain⟨e,iQ,rfl⟩:=aa;obtain⟨_,rfl⟩:=h;exact aaR iQ
 |global g=>grind[bO]
 |func f=>
  simp[bO]at aa;subst aa;obtain⟨_,rfl⟩:=h;exact⟨.c (by rfl),by rfl⟩
theorem rA(R:Rel aA nt φ S env σ n a w):∀{xs:I Operand} {bd:I aS} (_:nG xs=some bd) {p:Prop} {vs:I V} (_:h2 env bd=some (p,vs)) (_:p),
 bb (cc φ w S) vs (xs.map a.eval)/\V.aK.V.dI n vs=true
 |[],bd,aa,p,vs,h,ar=>by simp[nG]at aa;subst aa;obtain⟨_,rfl⟩:=h;exact⟨.nil,rfl⟩
 |x::xs,bd,aa,p,vs,h,ar=>by
  simp[nG,bw,bF]at aa;obtain⟨g,c,i,d,rfl⟩:=aa;simp only[h2,bw,bF]at h;obtain⟨⟨q,v⟩,e,⟨j,k⟩,f,he⟩:=h;obtain⟨rfl,rfl⟩:=he;have h1:=cI R c e ar.1;have b:=rA R d f ar.2;exact⟨.cons h1.1 b.1,by grind[V.aK.V.dI]⟩
theorem cc.js{b:J}{x:Value}(h:cc φ w S (.c (.t (.bool b))) x):x= .bool b:=by cases h with|c h=>cases h;rfl
theorem cc.fG{k:IntKind}{m:Int}{x:Value}(h:cc φ w S (.c (.t (.int k m))) x):x= .int k m:=by cases h with|c h=>cases h;rfl
theorem cc.kF{s:aq}{x:Value}(h:cc φ w S (.c (.t (.str s))) x):∃bs:ByteArray,x= .string bs/\bs.data.toList=s/\bs.size<=eS:=by cases h with|c h=>cases h<;>grind
theorem cc.hr{b o:Nat}{x:Value}(h:cc φ w S (.c (.ptr b o)) x):x= .pointer (some ⟨(φ b).1,o,none⟩):=by cases h with|c h=>exact h
theorem cc.jh{b sz i o:Nat}{x:Value}(h:cc φ w S (.c (.cW b sz i o)) x):x= .pointer (some ⟨(φ b).1,i*sz+o,none⟩):=by cases h with|c h=>exact h
theorem cc.l1{x:Value}(h:cc φ w S (.agg cs) x):∃vs:I Value,x= .agg vs.toArray/\bb (bD φ w S) cs vs:=by cases h<;>grind
theorem cc.ea{x:Value}(h:cc φ w S (.c c) x):bD φ w S c x:=by cases h<;>grind
theorem cc.ph(b:J):cc φ w S (.c (.t (.bool b))) (.bool b):= .c (.bool b)
theorem cc.nC(k:IntKind)(m:Int):cc φ w S (.c (.t (.int k m))) (.int k m):= .c (.int k m)
theorem M8(R:Rel aA nt φ S env σ n a w)(b:o.op= .move x\/o.op= .assign x){c:aS}(aa:bO x=some c)
 {p v σ'}(e:n key=false)(h:aQ (.mov c) env σ key=some (p,v,σ'))(ar:p):b' P aA nt env σ' (ins n key) a v ((execOp a.eval o).run P w):=by
 simp only[aQ,bF]at h;obtain⟨⟨q,u⟩,d,he⟩:=h;obtain⟨rfl,rfl,rfl⟩:=he;have av:=cI R aa d ar;refine b'.pure R ?_ av.1 av.2;rcases b with b|b<;>simp[execOp,b]
theorem acW(R:Rel aA nt φ S env σ n a w){c:Operand}(g:o.op= .pick c x y){ac d e:aS}(l:bO c=some ac)(aa:bO x=some d)(al:bO y=some e)
 {p v σ'}(s:n key=false)(h:aQ (.pick ac d e) env σ key=some (p,v,σ'))(ar:p):b' P aA nt env σ' (ins n key) a v ((execOp a.eval o).run P w):=by
 simp only[aQ,bw]at h;obtain⟨⟨t,C⟩,m,⟨u,D⟩,q,⟨z,E⟩,r,he⟩:=h;simp at he;split at he
 . rename_i b A B;obtain⟨rfl,rfl,rfl⟩:=he;obtain⟨h1,j,k⟩:=ar;have f:=(cI R l m h1).1.js;cases b with
   |true=>
    have ex:=(cI R aa q (j rfl)).1.js;exact b'.pure R (by simp[execOp,g,f,asBool,ex]) (.ph _) rfl
   |false=>
    have i:=(cI R al r (k rfl)).1.js;exact b'.pure R (by simp[execOp,g,f,asBool,i]) (.ph _) rfl
 grind
theorem xf(b:ByteArray):b.data.toList.length=b.size:=by rfl
theorem acX{op:BinOp}{s t r:T}(h:qR op s t=some (p,r))(ar:p){ty:TypeId}{x y:Value}(aa:b6 w S s x)(al:b6 w S t y):
 ∃z,(binOp op ty x y).run P w= .ok z w/\b6 w S r z:=by
 have c:∀a b:aq,(a==b)=(a=b:J):=λa b=>by grind
 unfold qR at h;split at h<;>(first|simp only[eM,dW]at h|cases h)
 all_goals cases aa;cases al
 case h_1=>obtain⟨rfl,rfl,rfl⟩:=h;exact⟨_,by simp[binOp,Op.intArith],.int _ _⟩
 case h_2=>obtain⟨rfl,rfl,rfl⟩:=h;exact⟨_,by simp[binOp,Op.intArith],.int _ _⟩
 case h_3=>obtain⟨rfl,rfl,rfl⟩:=h;exact⟨_,by simp[binOp,Op.intArith],.int _ _⟩
 case h_4=>obtain⟨rfl,rfl,rfl⟩:=h;exact⟨_,by simp[binOp,Op.intDiv,ar],.int _ _⟩
 case h_5=>obtain⟨rfl,rfl,rfl⟩:=h;exact⟨_,by simp[binOp,Op.intDiv,ar],.int _ _⟩
 case h_6=>obtain⟨rfl,rfl,rfl⟩:=h;exact⟨_,by simp[binOp,Op.intBits],.int _ _⟩
 case h_7=>obtain⟨rfl,rfl,rfl⟩:=h;exact⟨_,by simp[binOp,Op.intBits],.int _ _⟩
 case h_8=>obtain⟨rfl,rfl,rfl⟩:=h;exact⟨_,by simp[binOp,Op.intBits],.int _ _⟩
 case h_9=>obtain⟨rfl,rfl,rfl⟩:=h;exact⟨_,by simp[binOp,Op.intBits],.int _ _⟩
 case h_10=>obtain⟨rfl,rfl⟩:=h;exact⟨_,by simp_all[binOp,Op.shift,au],.int _ _⟩
 case h_11=>obtain⟨rfl,rfl⟩:=h;exact⟨_,by simp_all[binOp,Op.shift,au],.int _ _⟩
 case h_12=>obtain⟨rfl,rfl,rfl⟩:=h;exact⟨_,by simp[binOp,Op.intCmp];rfl,.bool _⟩
 case h_13=>obtain⟨rfl,rfl,rfl⟩:=h;exact⟨_,by simp[binOp,Op.intCmp,bne,BEq.beq],.bool _⟩
 case h_14=>obtain⟨rfl,rfl,rfl⟩:=h;exact⟨_,by simp[binOp,Op.intCmp],.bool _⟩
 case h_15=>obtain⟨rfl,rfl,rfl⟩:=h;exact⟨_,by simp[binOp,Op.intCmp],.bool _⟩
 case h_16=>obtain⟨rfl,rfl,rfl⟩:=h;exact⟨_,by simp[binOp,Op.intCmp],.bool _⟩
 case h_17=>obtain⟨rfl,rfl,rfl⟩:=h;exact⟨_,by simp[binOp,Op.intCmp],.bool _⟩
 case h_18 s hs t ht=>
  obtain⟨rfl,rfl⟩:=h;simp only[xf]at ar;have e:(s++t).data.toList=s.data.toList++t.data.toList:=by rfl
  refine⟨.string (s++t),?_,e▸.str _ (by grind)⟩;have:¬(((s.size+t.size:Nat):Int)>IntKind.i64.max):=by grind[IntKind.max,eS,IntKind.signed,IntKind.bits]
  simp_all[binOp,Op.stringOp,au]
 case h_19 s hs t ht=>obtain⟨rfl,rfl⟩:=h;exact⟨_,by simp_all[binOp,Op.stringOp,ByteArray.toList_eq],.bool _⟩
 case h_20 s hs t ht=>obtain⟨rfl,rfl⟩:=h;exact⟨_,by simp_all[binOp,Op.stringOp,ByteArray.toList_eq],.bool _⟩
 case h_21 s hs t ht=>obtain⟨rfl,rfl⟩:=h;exact⟨_,by simp_all[binOp,Op.stringOp,ByteArray.toList_eq],.bool _⟩
 case h_22 s hs t ht=>obtain⟨rfl,rfl⟩:=h;exact⟨_,by simp_all[binOp,Op.stringOp,ByteArray.toList_eq],.bool _⟩
 case h_23 s hs t ht=>obtain⟨rfl,rfl⟩:=h;exact⟨_,by simp_all[binOp,Op.stringOp,ByteArray.toList_eq],.bool _⟩
 case h_24 s hs t ht=>obtain⟨rfl,rfl⟩:=h;exact⟨_,by simp_all[binOp,Op.stringOp,ByteArray.toList_eq],.bool _⟩
theorem Je{op:BinOp}{ty:TypeId}(h1:u≠.nilIface)(a:∀cs,u≠.agg cs):(eqGuard op ty x y u v).run P w= .ok () w:=by
 simp_all[eqGuard]
theorem b6.guard{t:T}(h:b6 w S t u):u≠.nilIface/\∀cs,u≠.agg cs:=by
 cases h<;>exact⟨by simp,by simp⟩
theorem L9{ty:TypeId}(b:P.underlying ty=some .bool)(b1 b2:J):(Op.equal ty (.bool b1) (.bool b2)).run P w= .ok (b1==b2) w:=by
 obtain⟨d,a⟩:∃d,Op.maxDepth=d+1:=⟨9999,rfl⟩;unfold Op.equal;rw[a];unfold Op.equalIn;simp only[Sem.run_bind,run_underlying b];rfl
theorem I3(R:Rel aA nt φ S env σ n a w){op:BinOp}{ty:TypeId}(m:o.op= .binOp op ty x y yt){b d:aS}(aa:bO x=some b)(al:bO y=some d)
 {p v σ'}(l:n key=false)(h:aQ (.bin op b d) env σ key=some (p,v,σ'))(ar:p):b' P aA nt env σ' (ins n key) a v ((execOp a.eval o).run P w):=by
 simp only[aQ,bw]at h;obtain⟨⟨t,A⟩,f,⟨u,B⟩,g,he⟩:=h;simp at he;split at he
 . simp only[bF]at he;obtain⟨⟨s,r⟩,i,rfl,rfl,rfl⟩:=he;have h1:=(cI R aa f ar.1).1.ea;have e:=(cI R al g ar.2.1).1.ea;obtain⟨z,q,j⟩:=acX (P:=P) (ty:=ty) i ar.2.2 h1 e;refine b'.pure R ?_ (.c j) rfl;have k:(eqGuard op ty x y _ (a.eval y)).run P w= .ok _ w:=Je (b6.guard h1).1 (b6.guard h1).2;simp_all[execOp]
 grind
theorem abD(R:Rel aA nt φ S env σ n a w){op:BinOp}{ty:TypeId}(l:o.op= .binOp op ty x y yt)(f:op= .eql\/op= .neq)(m:P.underlying ty=some .bool)
 {b c:aS}(aa:bO x=some b)(al:bO y=some c)
 {p v σ'}(k:n key=false)(h:aQ (.eqBool (op== .neq) b c) env σ key=some (p,v,σ'))(ar:p):b' P aA nt env σ' (ins n key) a v ((execOp a.eval o).run P w):=by
 simp only[aQ,bw]at h;obtain⟨⟨q,s⟩,d,⟨r,t⟩,e,he⟩:=h;simp at he;split at he
 . rename_i b1 b2;obtain⟨rfl,rfl,rfl⟩:=he;have h1:=(cI R aa d ar.1).1.js;have j:=(cI R al e ar.2).1.js;refine b'.pure R ?_ (.ph _) rfl;have g:(eqGuard op ty x y (a.eval x) (a.eval y)).run P w= .ok _ w:=Je (by grind) (by grind);have i:(binOp op ty (a.eval x) (a.eval y)).run P w= .ok (.bool (if(op== .neq)then !(b1==b2)else(b1==b2))) w:=by
    rcases f with rfl|rfl;simp_all[binOp,L9];simp_all[binOp,L9]
   simp_all[execOp]
 grind
theorem ac2(R:Rel aA nt φ S env σ n a w){ty:TypeId}(d:o.op= .unOp .not ty x){b:aS}(aa:bO x=some b)
 {p v σ'}(e:n key=false)(h:aQ (.not b) env σ key=some (p,v,σ'))(ar:p):b' P aA nt env σ' (ins n key) a v ((execOp a.eval o).run P w):=by
 simp only[aQ,bw]at h;obtain⟨⟨f,g⟩,c,he⟩:=h;simp at he;split at he;obtain⟨rfl,rfl,rfl⟩:=he;have h1:=(cI R aa c ar).1.js;exact b'.pure R (by simp[execOp,d,h1,Op.unary]) (.ph _) rfl;grind
theorem ac3(R:Rel aA nt φ S env σ n a w){ty:TypeId}{k:IntKind}(i:o.op= .unOp .neg ty x){b:aS}(aa:bO x=some b)
 {p v σ'}(j:n key=false)(h:aQ (.bin .sub (.const (.c (.t (.int k 0)))) b) env σ key=some (p,v,σ'))(ar:p):b' P aA nt env σ' (ins n key) a v ((execOp a.eval o).run P w):=by
 simp only[aQ,aS.get,ay,bw]at h;obtain⟨⟨m,q⟩,g,he⟩:=h;simp only at he;split at he;rename_i t1 t2 aJ;cases aJ;simp only[bF]at he;obtain⟨⟨l,r⟩,d,rfl,rfl,rfl⟩:=he;have e:=(cI R aa g ar.2.1).1;cases t2<;>simp only[qR,reduceCtorEq,eM]at d;obtain⟨rfl,rfl,rfl⟩:=d;have f:=e.fG;exact b'.pure R (by simp[execOp,i,f,Op.unary,Op.intArith]) (.nC _ _) rfl;grind
theorem ad0(R:Rel aA nt φ S env σ n a w){ty:TypeId}{k:IntKind}(i:o.op= .unOp .xor ty x){b:aS}(aa:bO x=some b)
 {p v σ'}(j:n key=false)(h:aQ (.bin .xor (.const (.c (.t (.int k (if k.signed then -1 else k.max))))) b) env σ key=some (p,v,σ'))(ar:p):b' P aA nt env σ' (ins n key) a v ((execOp a.eval o).run P w):=by
 simp only[aQ,aS.get,ay,bw]at h;obtain⟨⟨m,q⟩,g,he⟩:=h;simp only at he;split at he;rename_i t1 t2 aJ;cases aJ;simp only[bF]at he;obtain⟨⟨l,r⟩,d,rfl,rfl,rfl⟩:=he;have e:=(cI R aa g ar.2.1).1;cases t2<;>simp only[qR,reduceCtorEq,eM]at d;obtain⟨rfl,rfl,rfl⟩:=d;have f:=e.fG;exact b'.pure R (by simp[execOp,i,f,Op.unary,Op.intBits]) (.nC _ _) rfl;grind
theorem ab'(R:Rel aA nt φ S env σ n a w){s d:TypeId}(f:o.op= .convert s d x){g k:IntKind}(hs:P.underlying s=some (.int g))(c:P.underlying d=some (.int k)){b:aS}(aa:bO x=some b)
 {p v σ'}(i:n key=false)(h:aQ (.conv k b) env σ key=some (p,v,σ'))(ar:p):b' P aA nt env σ' (ins n key) a v ((execOp a.eval o).run P w):=by
 simp only[aQ,bw]at h;obtain⟨⟨j,l⟩,e,he⟩:=h;simp at he;split at he;obtain⟨rfl,rfl,rfl⟩:=he;have h1:=(cI R aa e ar).1.fG;exact b'.pure R (by simp[execOp,f,h1,convert,underlying,hs,c,Conv.intToInt]) (.nC _ _) rfl;grind
theorem abE(m:Int):(Utf8.encode m).size<=eS:=by
 unfold eS Utf8.encode;dsimp
 (repeat' split)<;>simp[ByteArray.size]
theorem ad1(R:Rel aA nt φ S env σ n a w){s d:TypeId}(g:o.op= .convert s d x){i:IntKind}(hs:P.underlying s=some (.int i))(e:P.underlying d=some .string){b:aS}(aa:bO x=some b)
 {p v σ'}(j:n key=false)(h:aQ (.i2s b) env σ key=some (p,v,σ'))(ar:p):b' P aA nt env σ' (ins n key) a v ((execOp a.eval o).run P w):=by
 simp only[aQ,bw]at h;obtain⟨⟨k,l⟩,f,he⟩:=h;simp at he;split at he;obtain⟨rfl,rfl,rfl⟩:=he;have h1:=(cI R aa f ar).1.fG;exact b'.pure R (by simp[execOp,g,h1,convert,underlying,hs,e,Conv.intToString]) (.c (.str _ (abE _))) rfl;grind
theorem ad2(R:Rel aA nt φ S env σ n a w){s d:TypeId}(f:o.op= .convert s d x)(hs:P.underlying s=some .string)(c:P.underlying d=some .string){b:aS}(aa:bO x=some b)
 {p v σ'}(g:n key=false)(h:aQ (.s2s b) env σ key=some (p,v,σ'))(ar:p):b' P aA nt env σ' (ins n key) a v ((execOp a.eval o).run P w):=by
 simp only[aQ,bw]at h;obtain⟨⟨i,j⟩,e,he⟩:=h;simp at he;split at he
 . obtain⟨rfl,rfl,rfl⟩:=he;have av:=cI R aa e ar;obtain⟨bs,h1,rfl,_⟩:=av.1.kF;refine b'.pure R ?_ (h1▸av.1) rfl;simp[execOp,f,h1,convert,underlying,hs,c]
 grind
theorem aaJ(R:Rel aA nt φ S env σ n a w)(e:o.op= .nilCheck x){b:aS}(aa:bO x=some b)
 {p v σ'}(d:n key=false)(h:aQ (.nilCheck b) env σ key=some (p,v,σ'))(ar:p):b' P aA nt env σ' (ins n key) a v ((execOp a.eval o).run P w):=by
 simp only[aQ,bw]at h;obtain⟨⟨f,g⟩,c,he⟩:=h;simp at he;split at he<;>simp only[dW,reduceCtorEq]at he
 all_goals
  obtain⟨rfl,rfl,rfl⟩:=he;have av:=cI R aa c ar;have h1:=av.1.ea;refine b'.pure R ?_ av.1 av.2
 simp_all[bD,execOp];simp_all[bD,execOp];obtain⟨_,_,_,h1,_⟩:=h1;simp_all[execOp]
theorem aca(R:Rel aA nt φ S env σ n a w){ty:TypeId}(t:o.op= .fieldAddr ty x f)(y:P.underlying ty=some (.struct fs)){d:Field}(q:fs[f]?=some d)
 {m:Nat}(j:ev P d.type=some m)(s:m≠0){g:aS}(aa:bO x=some g)
 {p v σ'}(r:n key=false)(h:aQ (.fldA d.offset g) env σ key=some (p,v,σ'))(ar:p):b' P aA nt env σ' (ins n key) a v ((execOp a.eval o).run P w):=by
 simp only[aQ,bw]at h;obtain⟨⟨A,B⟩,k,he⟩:=h;simp at he;have z:∀w,(underlying ty).run P w= .ok (.struct fs) w:=by simp_all[underlying]
 have u:∀w,(sizeOf d.type).run P w= .ok m w:=by simp[ev]at j;obtain⟨i,l,rfl⟩:=j;simp[sizeOf,typeInfo,l]
 have e:∀(b off:Nat),a.eval x= .pointer (some ⟨b,off,none⟩)->(execOp a.eval o).run P w= .ok (.value (.pointer (some ⟨b,off+d.offset,none⟩))) w:=by
  simp_all[execOp,Instr.fieldAt,Instr.sureAddr,fieldPlace,Addr.add]
 split at he<;>simp only[dW,reduceCtorEq]at he
 all_goals
  obtain⟨rfl,rfl,rfl⟩:=he;have av:=cI R aa k ar;have h1:=av.1.ea
 exact b'.pure R (e _ _ h1) (.c rfl) av.2;exact b'.pure R (e _ _ h1) (.c (by simp[bD,Nat.add_assoc])) av.2;obtain⟨blk,off,f,h1,ad⟩:=h1;exact b'.pure R (e _ _ h1) (.c ⟨blk,off,f,by grind,ad⟩) av.2
theorem bb.ajX(h:bb (b6 w S) ts vs):bb (bD φ w S) (ts.map .t) vs:=by
 induction h with
 |nil=>exact .nil
 |cons h _ ih=>exact .cons h ih
theorem M9(n:Nat->J)(ts:I T):(ts.map C.t).all (C.aK n):=by simp[C.aK]
theorem ua{ty:TypeId}{g:J}(av:qe P ty=some g)(w:World):(isAgg ty).run P w= .ok g w:=by
 unfold qe at av;split at av<;>simp_all [isAgg,underlying]
theorem ju{ty:TypeId}{k:Nat}(a:ev P ty=some k)(w:World):(sizeOf ty).run P w= .ok k w:=by
 simp[ev]at a;obtain⟨i,b,rfl⟩:=a;simp[sizeOf,typeInfo,b]
theorem IK{ty:TypeId}(h:nr P ty=some g):qe P ty=some g.1/\ev P ty=some g.2/\(g.1=false->g.2=1):=by
 grind[nr,bw]
theorem Ml{ty:TypeId}{g:J}{k:Nat}(av:qe P ty=some g)(d:ev P ty=some k){b o:Nat}
 (a:∀j,j<k->w.cell? ⟨b,o+j,none⟩=vs[j]?)(ak:vs.length=k)(h1:g=false->k=1):
 (loadVar ty ⟨b,o,none⟩).run P w= .ok (if g then .agg vs.toArray else vs.getD 0 undef) w:=by
 cases g with
 |true=>
  have:=run_loadCells_list (P:=P) w ⟨b,o,none⟩ vs (λj v c=>by
   grind[Addr.add])
  simp_all[loadVar,ua,ju]
 |false=>
  simp_all[loadVar,ua]
theorem bD.single(h:bD φ w S c v):v.cells=#[v]:=by
 have:=bD.jk h;cases v<;>simp[Value.oneCell']at this<;>rfl
theorem oj{v:V}{x:Value}(h:cc φ w S v x)(a:qg v=some cs)(b:v.aK n):bb (bD φ w S) cs x.cells.toList/\cs.all (C.aK n):=by
 cases h with
 |c h=>
  simp[qg]at a;subst a;rw[bD.single h];exact⟨.cons h .nil,by grind[V.aK]⟩
 |agg h=>
  grind[qg,Value.cells,V.aK]
 |bf=>grind[qg]
theorem Mm{agg:J}{k o:Nat}{v:V}(h:bb (bD φ w S) cs vs)(e:cs.all (C.aK n))(ak:j2 agg k cs o=some v)(h1:agg=false->k=1):
 o+k<=cs.length/\cc φ w S v (if agg then .agg ((vs.drop o).take k).toArray else((vs.drop o).take k).getD 0 undef)/\v.aK n:=by
 unfold j2 at ak;cases agg with
 |true=>
  simp at ak;obtain⟨b,rfl⟩:=ak;refine⟨b,?_,by grind[V.aK]⟩;simpa using cc.agg ((h.drop o).take k)
 |false=>
  have:=h1 rfl;subst this;simp at ak;obtain⟨c,a,rfl⟩:=ak;obtain⟨x,aa,d⟩:=h.get a;have aD:=(ed.1 a).1;refine⟨by omega,?_,?_⟩;have:((vs.drop o).take 1).getD 0 undef=x:=(by grind);simp only[this];exact .c d;grind[V.aK]
theorem O7{agg:J}{k o:Nat}{v:V}(ak:loadT agg k ts o=some v):j2 agg k (ts.map .t) o=some v:=by
 unfold loadT at ak;unfold j2;cases agg<;>simp_all
theorem aex{ty:TypeId}{g:J}{k:Nat}(av:qe P ty=some g)(a:ev P ty=some k)(h1:g=false->k=1)(b:off+k<=vs.length):
 (part ty vs.toArray off).run P w= .ok (if g then .agg ((vs.drop off).take k).toArray else((vs.drop off).take k).getD 0 undef) w:=by
 cases g with
 |true=>
  simp_all[part,ua,ju]
 |false=>
  have:=h1 rfl;have aD:off<vs.length:=by omega
  simp_all[part,ua]
theorem ad3(R:Rel aA nt φ S env σ n a w){ty:TypeId}(r:o.op= .field ty x f)(u:P.underlying ty=some (.struct fs)){b:Field}(j:fs[f]?=some b)
 {m:Nat}(q:ev P b.type=some m){g:J}(av:qe P b.type=some g)(h1:g=false->m=1){c:aS}(aa:bO x=some c)
 {p v σ'}(A:n key=false)(h:aQ (.fld g b.offset m c) env σ key=some (p,v,σ'))(ar:p):b' P aA nt env σ' (ins n key) a v ((execOp a.eval o).run P w):=by
 simp only[aQ,bw]at h;obtain⟨⟨B,C⟩,k,he⟩:=h;simp at he;split at he;simp only[bF]at he;obtain⟨v0,y,rfl,rfl,rfl⟩:=he;have e:=cI R aa k ar;obtain⟨vs,z,d⟩:=e.1.l1;obtain⟨l,t,i⟩:=Mm d (by simpa[V.aK]using e.2) y h1;have s:=aex (w:=w) av q h1 (by rw[<-d.length];exact l);exact b'.pure R (by simp[execOp,r,z,Instr.field,underlying,u,j,asAgg,s]) t i;grind
theorem ad4(R:Rel aA nt φ S env σ n a w){i:Nat}(m:o.op= .extract x i){b:aS}(aa:bO x=some b)
 {p v σ'}(l:n key=false)(h:aQ (.ext b i) env σ key=some (p,v,σ'))(ar:p):b' P aA nt env σ' (ins n key) a v ((execOp a.eval o).run P w):=by
 simp only[aQ,bw]at h;obtain⟨⟨q,r⟩,e,he⟩:=h;simp at he;split at he
 . simp only[bF]at he;obtain⟨v0,d,rfl,rfl,rfl⟩:=he;have c:=cI R aa e ar;generalize j:a.eval x=y at c;obtain⟨f,k⟩:=c;cases f with
   |bf _ xs ak ad=>
    have aD:i<xs.length:=(by grind);have g:=e0 aD;refine b'.pure R ?_ (ad i _ _ d g) (nn (by grind[V.aK]) d);simp_all[execOp,Instr.extract]
 grind
theorem acb(R:Rel aA nt φ S env σ n a w){x y:Operand}{d:Array TypeId}(i:o.op= .call {callee:= .builtin .max,args:=#[x,y],argTypes:=d}){b c:aS}(aa:bO x=some b)(al:bO y=some c)
 {p v σ'}(j:n key=false)(h:aQ (.max2 b c) env σ key=some (p,v,σ'))(ar:p):b' P aA nt env σ' (ins n key) a v ((execOp a.eval o).run P w):=by
 simp only[aQ,bw]at h;obtain⟨⟨m,s⟩,f,⟨r,t⟩,g,he⟩:=h;simp at he;split at he
 . rename_i k p l q;simp only[eM]at he;obtain⟨rfl,rfl,rfl,rfl⟩:=he;have h1:=(cI R aa f ar.1).1.fG;have e:=(cI R al g ar.2).1.fG;refine b'.pure R ?_ (.nC _ _) rfl;have:(if p<q then q else p)=max p q:=(by omega);simp[execOp,i,invoke,builtin,Builtin.max_,Builtin.max2,h1,e,Go.resolve,this]
 grind
theorem acd(R:Rel aA nt φ S env σ n a w){x y:Operand}{d:Array TypeId}(i:o.op= .call {callee:= .builtin .min,args:=#[x,y],argTypes:=d}){b c:aS}(aa:bO x=some b)(al:bO y=some c)
 {p v σ'}(j:n key=false)(h:aQ (.min2 b c) env σ key=some (p,v,σ'))(ar:p):b' P aA nt env σ' (ins n key) a v ((execOp a.eval o).run P w):=by
 simp only[aQ,bw]at h;obtain⟨⟨m,s⟩,f,⟨r,t⟩,g,he⟩:=h;simp at he;split at he
 . rename_i k p l q;simp only[eM]at he;obtain⟨rfl,rfl,rfl,rfl⟩:=he;have h1:=(cI R aa f ar.1).1.fG;have e:=(cI R al g ar.2).1.fG;refine b'.pure R ?_ (.nC _ _) rfl;have:(if q<p then q else p)=min p q:=(by omega);simp[execOp,i,invoke,builtin,Builtin.min_,Builtin.min2,h1,e,Go.resolve,this]
 grind
theorem b6.jI(h:b6 w S (.slice es) v):∃(a:ag Addr) (cap sz b o:Nat) (f:Nat->Nat->Value),v= .slice a es.length cap/\es.length<=cap/\es.length<=dB/\(∀e,e∈es->e.length=sz)/\(es≠[]->a=some ⟨b,o,none⟩)/\
 (∀i j:Nat,i<es.length->j<sz->S b (o+i*sz+j)/\w.cell? ⟨b,o+i*sz+j,none⟩=some (f i j))/\(∀(i j:Nat) e t,es[i]?=some e->e[j]?=some t->b6 w S t (f i j)):=by
 cases h;exact⟨_,_,_,_,_,_,rfl,by grind,by grind,by omega,by omega,by omega,by grind⟩
theorem bD.hA{b sz len:Nat}(h:bD φ w S (.arr b sz off len) v):∃a,v= .slice a len ((φ b).2-off)/\((φ b).2≠0->a=some ⟨(φ b).1,off*sz,none⟩)/\off+len<=(φ b).2:=h
theorem ad5(R:Rel aA nt φ S env σ n a w){x:Operand}{ty:TypeId}(f:o.op= .call {callee:= .builtin .len,args:=#[x],argTypes:=#[ty]}){str:J}
 (d:if str then P.underlying ty=some .string else ∃e,P.underlying ty=some (.slice e)){g:aS}(aa:bO x=some g)
 {p v σ'}(k:n key=false)(h:aQ (.len str g) env σ key=some (p,v,σ'))(ar:p):b' P aA nt env σ' (ins n key) a v ((execOp a.eval o).run P w):=by
 simp only[aQ,bw]at h;obtain⟨⟨r,s⟩,j,he⟩:=h;simp at he;split at he<;>simp only[dW,eg,reduceCtorEq]at he
 all_goals
  obtain⟨rfl,rfl,rfl⟩:=he;have h1:=(cI R aa j ar).1.ea
 obtain⟨e,d⟩:=d;obtain⟨ca,cap,_,_,_,_,h1,_⟩:=b6.jI h1;exact b'.pure R (by simp[execOp,f,Go.resolve,invoke,builtin,Builtin.len_,underlying,d,h1,goInt]) (.nC _ _) rfl;obtain⟨e,d⟩:=d;obtain⟨ca,h1,_⟩:=bD.hA h1;exact b'.pure R (by simp[execOp,f,Go.resolve,invoke,builtin,Builtin.len_,underlying,d,h1,goInt]) (.nC _ _) rfl;obtain⟨e,d⟩:=d;obtain⟨ca,h1⟩:=h1;exact b'.pure R (by simp[execOp,f,Go.resolve,invoke,builtin,Builtin.len_,underlying,d,h1,goInt]) (.nC _ _) rfl
 . obtain⟨e,d⟩:=d;rename_i b l;obtain⟨ca,cap,h1⟩:∃ca cap,a.eval x= .slice ca l cap:=by
    obtain⟨m,q,k1⟩:=h1;grind
   exact b'.pure R (by simp[execOp,f,Go.resolve,invoke,builtin,Builtin.len_,underlying,d,h1,goInt]) (.nC _ _) rfl
 simp at d;obtain⟨bs,i,rfl,_⟩:=cc.kF (.c h1);exact b'.pure R (x:= .int .i64 bs.size) (by simp[execOp,f,Go.resolve,invoke,builtin,Builtin.len_,underlying,d,i,goInt]) (by exact .nC _ _) rfl
theorem ace(R:Rel aA nt φ S env σ n a w){ty:TypeId}{i:Operand}(F:o.op= .indexAddr ty x i)(H:P.underlying ty=some (.slice e)){sz:Nat}(G:ev P e=some sz)(h0:sz≠0)
 {z y:aS}(aa:bO x=some z)(E:bO i=some y)
 {p v σ'}(Q:n key=false)(h:aQ (.idxA sz z y) env σ key=some (p,v,σ'))(ar:p):b' P aA nt env σ' (ins n key) a v ((execOp a.eval o).run P w):=by
 simp only[aQ,bw]at h;obtain⟨⟨Z,ad⟩,D,⟨Y,ab⟩,B,he⟩:=h;simp only at he;have A:∀(b off m:Nat),Addr.add ⟨b,off,none⟩ (m*sz)=⟨b,off+m*sz,none⟩:=by
  grind[Addr.add]
 split at he
 . rename_i es k m;obtain⟨rfl,rfl,rfl⟩:=he;obtain⟨s,u,r,I,N⟩:=ar;have h1:=(cI R aa D s).1.ea;have g:=(cI R E B u).1.fG;obtain⟨ca,cap,d,b,off,f,h1,M,U,W,l,L,X⟩:=b6.jI h1;have J:es≠[]:=(by grind);have O:es[m.toNat]?=some (el es m.toNat):=(by grind[el]);have K:d=sz:=(by grind);subst K;rw[l J]at h1;refine b'.pure R (x:= .pointer (some ⟨b,off+m.toNat*d,none⟩)) ?_ ?_ rfl
   . have q:0<=m/\m<es.length:=⟨r,by omega⟩
     simp[execOp,F,h1,g,Instr.indexAt,asIntOf,underlying,H,q,ju G,A]
   refine .c ⟨b,off+m.toNat*d,λj=>f m.toNat j,by rfl,λj t ht=>?_⟩;grind
 . rename_i b d off len k m;obtain⟨rfl,rfl,rfl⟩:=he;obtain⟨s,u,r,I,rfl⟩:=ar;have av:=cI R aa D s;have h1:=av.1.ea;have g:=(cI R E B u).1.fG;obtain⟨ca,h1,l,T⟩:=bD.hA h1;rw[l (by omega)]at h1;refine b'.pure R (x:= .pointer (some ⟨(φ b).1,off*sz+m.toNat*sz,none⟩)) ?_ (.c ?_) (by grind[V.aK,C.aK])
   . have q:0<=m/\m<len:=⟨r,by omega⟩
     simp[execOp,F,h1,g,Instr.indexAt,asIntOf,underlying,H,q,ju G,A]
   grind[bD]
 grind
theorem acf(R:Rel aA nt φ S env σ n a w){ty:TypeId}{i:Operand}(r:o.op= .index ty x i)(y:P.underlying ty=some .string)
 {c b:aS}(aa:bO x=some c)(j:bO i=some b)
 {p v σ'}(z:n key=false)(h:aQ (.idxS c b) env σ key=some (p,v,σ'))(ar:p):b' P aA nt env σ' (ins n key) a v ((execOp a.eval o).run P w):=by
 simp only[aQ,bw]at h;obtain⟨⟨B,D⟩,g,⟨A,C⟩,f,he⟩:=h;simp at he;split at he
 . rename_i s k m;obtain⟨rfl,rfl,rfl⟩:=he;obtain⟨t,u,l,q⟩:=ar;obtain⟨bs,h1,rfl,hs⟩:=(cI R aa g t).1.kF;have d:=(cI R j f u).1.fG;have aD:m.toNat<bs.size:=(by simp_all);refine b'.pure R ?_ (.nC _ _) rfl;have e:bs[m.toNat]?=some (bs.data.toList.getD m.toNat 0):=by
    rw[getElem?_pos bs _ _];simp[e0 q];rfl
   simp[execOp,r,h1,d,Instr.index,asIntOf,underlying,y,l,e]
 grind
theorem K':∀{vs:I V} {l:ba} {xs:I Value},aQ.sZ vs=some l->bb (cc φ w S) vs xs->V.aK.V.dI n vs->
 xs=l.map (λb=>Value.pointer (some ⟨(φ b).1,0,none⟩))/\(l.all λb=>n b)=true
 |[],l,xs,h,a,c=>by simp[aQ.sZ]at h;subst h;cases a;simp
 |v::vs,l,xs,h,a,c=>by
  cases a with
  |cons d ht=>
   unfold aQ.sZ at h;split at h;grind;rename_i b r e;cases e;simp at h;obtain⟨i,f,rfl⟩:=h;simp[V.aK.V.dI]at c;obtain⟨rfl,g⟩:=K' f ht c.2;have:=d.hr;grind[V.aK,C.aK];grind
theorem acg(R:Rel aA nt φ S env σ n a w){caps:Array Operand}(j:o.op= .makeFunc (.func f) #[] caps){d:I aS}(aa:nG caps.toList=some d)
 {p v σ'}(i:n key=false)(h:aQ (.mkfn f d) env σ key=some (p,v,σ'))(ar:p):b' P aA nt env σ' (ins n key) a v ((execOp a.eval o).run P w):=by
 simp only[aQ,bw]at h;obtain⟨⟨k,vs⟩,e,he⟩:=h;split at he
 . rename_i l ak;obtain⟨rfl,rfl,rfl⟩:=he;have av:=rA R aa e ar;obtain⟨h1,g⟩:=K' ak av.1 av.2;refine b'.pure R ?_ (.c rfl) (by grind[V.aK,C.aK]);have:caps.map a.eval=(l.map λb=>Value.pointer (some ⟨(φ b).1,0,none⟩)).toArray:=(by grind);simp_all[execOp,Instr.makeFunc]
 grind
theorem rB(R:Rel aA nt φ S env σ n a w){x:ag Operand}{b:ag aS}(aa:kC x=some b){m:ag Int}(h:j0 env b=some (p,m))(ar:p):
 (x.map a.eval=none/\m=none)\/∃k i,x.map a.eval=some (.int k i)/\m=some i:=by
 cases x with
 |none=>grind[kC,j0]
 |some x=>
  simp[kC]at aa;obtain⟨e,c,rfl⟩:=aa;simp only[j0,bw]at h;obtain⟨⟨q,v⟩,d,he⟩:=h;simp at he;split at he;obtain⟨rfl,rfl⟩:=he;have:=(cI R c d ar).1.fG;grind;grind
theorem Ec {isSlice:J}{len cap:Nat}{b a:ag Value}{l h:ag Int}(d:(b=none/\l=none)\/∃k i,b=some (.int k i)/\l=some i)(c:(a=none/\h=none)\/∃k i,a=some (.int k i)/\h=some i)
 (h0:0<=l.getD 0)(h1:l.getD 0<=h.getD len)(e:h.getD len<=len)(f:len<=cap):
 (Instr.sliceBounds isSlice len cap b a none).run P w= .ok ((l.getD 0).toNat,(h.getD len).toNat,cap) w:=by
 have g:h.getD len<=cap:=by omega
 rcases d with⟨rfl,rfl⟩|⟨k,i,rfl,rfl⟩<;>rcases c with⟨rfl,rfl⟩|⟨m,j,rfl,rfl⟩<;>simp_all [Instr.sliceBounds,Instr.sliceBound,asIntOf];grind
theorem ach(R:Rel aA nt φ S env σ n a w){ty:TypeId}{i:ag Operand}(u:o.op= .slice ty x j i none)(B:P.underlying ty=some .string)
 {f:aS}{d b:ag aS}(aa:bO x=some f)(t:kC j=some d)(s:kC i=some b)
 {p v σ'}(D:n key=false)(h:aQ (.slcS f d b) env σ key=some (p,v,σ'))(ar:p):b' P aA nt env σ' (ins n key) a v ((execOp a.eval o).run P w):=by
 simp only[aQ,bw]at h;obtain⟨⟨F,G⟩,r,⟨pl,l⟩,q,⟨E,h⟩,m,he⟩:=h;simp at he;split at he
 . obtain⟨rfl,rfl,rfl⟩:=he;obtain⟨y,z,A,h0,h1,g⟩:=ar;obtain⟨bs,C,rfl,hs⟩:=(cI R aa r y).1.kF;have ak:=rB R t q z;have ad:=rB R s m A;rw[xf]at h1 g;have k:=Ec (P:=P) (w:=w) (isSlice:=false) ak ad h0 h1 g (ek _);rw[xf];have e:(bs.extract (l.getD 0).toNat (h.getD bs.size).toNat).data.toList=(bs.data.toList.take (h.getD bs.size).toNat).drop (l.getD 0).toNat:=(by grind[ByteArray.data_extract,Array.toList_extract,List.drop_take]);refine b'.pure R (x:= .string (bs.extract (l.getD 0).toNat (h.getD bs.size).toNat)) ?_ (.c ?_) rfl
   simp[execOp,u,Instr.sliceAt,Instr.slice,underlying,B,C,k]
   . rw[<-e];refine .str _ ?_;rw[ByteArray.size_extract];omega
 grind
theorem ad6(R:Rel aA nt φ S env σ n a w){ty:TypeId}{W k:ag Operand}(Q:o.op= .slice ty x W k none)(U:P.underlying ty=some (.slice e)){sz:Nat}(T:ev P e=some sz)
 {G:aS}{g F:ag aS}(aa:bO x=some G)(O:kC W=some g)(N:kC k=some F)
 {p v σ'}(ao:n key=false)(h:aQ (.slc sz G g F) env σ key=some (p,v,σ'))(ar:p):b' P aA nt env σ' (ins n key) a v ((execOp a.eval o).run P w):=by
 simp only[aQ,bw]at h;obtain⟨⟨ay,az⟩,M,⟨pl,l⟩,K,⟨ax,h⟩,J,he⟩:=h;simp only at he;split at he
 . rename_i es;obtain⟨rfl,rfl,rfl⟩:=he;obtain⟨A,B,D,h0,h1,s,Y⟩:=ar;obtain⟨ca,cap,d,b,off,f,E,X,aq,aw,I,y,ai⟩:=b6.jI (cI R aa M A).1.ea;have ak:=rB R O K B;have ad:=rB R N J D;have u:=Ec (P:=P) (w:=w) (isSlice:=true) (cap:=cap) ak ad h0 h1 s X;generalize al:(l.getD 0).toNat=L at*;generalize aj:(h.getD (es.length:Int)).toNat=H at*;have r:((es.take H).drop L).length=H-L:=by simp;omega
   refine b'.pure R (x:= .slice (if cap=L then ca else ca.map (·.add (L*sz))) (H-L) (cap-L)) ?_ (.c ?_) rfl
   simp[execOp,Q,Instr.sliceAt,Instr.slice,underlying,U,E,u,ju T]
   . show b6 w S _ _;rw[<-r];have Z:∀(i:Nat) e,((es.take H).drop L)[i]?=some e->es[L+i]?=some e/\L+i<H:=(by grind);by_cases z:es=[]
     subst z;simp;exact b6.slice [] _ _ 0 0 0 (λ_ _=>undef) (by simp) (by simp[dB]) (by simp) (by simp) (by simp) (by simp)
     . have af:d=sz:=by
        obtain⟨dp,an⟩:=C5 es z;grind
       subst af;refine b6.slice _ _ _ d b (off+L*d) (λi j=>f (L+i) j) (by rw[r];omega) (by rw[r];omega) (λe he=>Y e (Hb (List.mem_of_mem_drop he))) ?_ ?_ ?_
       . intro aI;have:L<H:=(by grind);rw[cb,I z];unfold Addr.add;split
         rename_i h;simp[h];rfl
       intro i j k ab;rw[r]at k;have:=y (L+i) j (by omega) ab;rw[show off+L*d+i*d+j=off+(L+i)*d+j by rw[h4];omega];exact this;intro i j e t he ht;exact ai _ _ _ _ (Z i e he).1 ht
 . rename_i b d off len;obtain⟨rfl,rfl,rfl⟩:=he;obtain⟨A,B,D,h0,h1,s,rfl⟩:=ar;have av:=cI R aa M A;obtain⟨ca,E,I,ap⟩:=bD.hA av.1.ea;have ak:=rB R O K B;have ad:=rB R N J D;have u:=Ec (P:=P) (w:=w) (isSlice:=true) (cap:=(φ b).2-off) ak ad h0 h1 s (by omega);have am:∀(q o m:Nat),(Addr.add ⟨q,o,none⟩ m:Addr)=⟨q,o+m,none⟩:=by
    grind[Addr.add]
   have ae:g.isNone->l.getD 0=0:=by
    intro aI;cases g with
    |some _=>grind
    |none=>grind[j0,Option.some.injEq,Prod.mk.injEq]
   generalize l.getD 0=L at*;generalize h.getD (len:Int)=H at*;refine b'.pure R (x:= .slice (if(φ b).2-off=L.toNat then ca else ca.map (·.add (L.toNat*sz))) (H.toNat-L.toNat) ((φ b).2-off-L.toNat)) ?_ (.c ?_) ?_
   simp[execOp,Q,Instr.sliceAt,Instr.slice,underlying,U,E,u,ju T]
   . by_cases aI:g.isNone=true
     rw[ah aI];have:=ae aI;subst this;refine⟨_,rfl,λy=>?_,by omega⟩;grind;rw[au aI];refine⟨_,_,rfl,λy=>?_,by omega⟩;grind
   grind[V.aK,C.aK]
 grind
theorem aci(R:Rel aA nt φ S env σ n a w){ty:TypeId}{k t:IntKind}(q:o.op= .slice ty x none (some (.const (.int k 0))) (some (.const (.int t 0))))(s:P.underlying ty=some (.slice e))
 {sz:Nat}(r:ev P e=some sz){j:aS}(aa:bO x=some j)
 {p v σ'}(u:n key=false)(h:aQ (.slc0 j) env σ key=some (p,v,σ'))(ar:p):b' P aA nt env σ' (ins n key) a v ((execOp a.eval o).run P w):=by
 simp only[aQ,bw]at h;obtain⟨⟨y,A⟩,m,he⟩:=h;simp at he;have i:∀(ca:ag _) (l c:Nat),a.eval x= .slice ca l c->∃a2,(execOp a.eval o).run P w= .ok (.value (.slice a2 0 0)) w:=by
  intro ca l c d;have dp:∀v,a.eval (.const v)=v:=λ_=>rfl;exact⟨_,by simp[execOp,q,Instr.sliceAt,Instr.slice,underlying,s,d,ju r];rfl⟩
 split at he<;>simp only[dW,reduceCtorEq]at he
 all_goals
  obtain⟨rfl,rfl,rfl⟩:=he;have h1:=(cI R aa m ar).1.ea
 obtain⟨ca,cap,z,b,off,f,d,_⟩:=b6.jI h1;obtain⟨a2,g⟩:=i _ _ _ d;exact b'.pure R g (.c ⟨a2,rfl⟩) rfl;obtain⟨ca,d⟩:=h1;obtain⟨a2,g⟩:=i _ _ _ d;exact b'.pure R g (.c ⟨a2,rfl⟩) rfl;obtain⟨ca,d,_⟩:=bD.hA h1;obtain⟨a2,g⟩:=i _ _ _ d;exact b'.pure R g (.c ⟨a2,rfl⟩) rfl
theorem jd{b:Nat}{a:Nat×Nat}(h:w.heap[b]?=some (.cells vs.toArray E a))(j:Nat):w.cell? ⟨b,j,none⟩=vs[j]?:=by
 grind[World.cell?]
theorem uh{ty:TypeId}(av:nr P ty=some g){blk off0 o:Nat}{v:V}
 (a:bb (bD φ w S) cs vs)(c:cs.all (C.aK n))(i:∀j,j<vs.length->w.cell? ⟨blk,off0+j,none⟩=vs[j]?)(ak:j2 g.1 g.2 cs o=some v):
 ∃x,(loadVar ty ⟨blk,off0+o,none⟩).run P w= .ok x w/\cc φ w S v x/\v.aK n:=by
 obtain⟨h1,e,b⟩:=IK av;obtain⟨d,k,f⟩:=Mm a c ak b;rw[a.length]at d;grind[Ml]
theorem bb.VI(h:bb (b6 w S) ts xs):bb (bD φ w S) (ts.map .t) xs:=bb.ajX h
theorem Kc{b sz i:Nat}(h:c8 φ w S b (.arr sz es))(l:i<es.length):
 (φ b).2≠0/\∃(vs:I Value) (E:TypeId) (xs:I Value),w.heap[(φ b).1]?=some (.cells vs.toArray E (0,0))/\vs.length=(φ b).2*sz/\(el es i).length=sz/\xs.length=sz/\bb (b6 w S) (el es i) xs/\
  (∀j,j<sz->vs[i*sz+j]?=xs[j]?)/\(i+1)*sz<=vs.length:=by
 obtain⟨h1,g,a,k,c⟩:=h;have h0:(φ b).2≠0:=by omega
 obtain⟨vs,E,ad,ak,m,hs⟩:=c h0;have d:es[i]?=some (el es i):=by grind[el]
 have f:=a _ (fr d);have e:(i+1)*sz<=vs.length:=by rw[ak];exact fg _ (by omega)
 refine⟨h0,vs,E,(vs.drop (i*sz)).take sz,ad,ak,f,by grind,?_,?_,e⟩;grind[bb.lO];grind
theorem acj(R:Rel aA nt φ S env σ n a w){ty:TypeId}(ab:o.op= .load ty x)(av:nr P ty=some g){C:aS}(aa:bO x=some C)
 {p v σ'}(Y:n key=false)(h:aQ (.load g.1 g.2 C) env σ key=some (p,v,σ'))(ar:p):b' P aA nt env σ' (ins n key) a v ((execOp a.eval o).run P w):=by
 simp only[aQ,bw]at h;obtain⟨⟨ah,ai⟩,q,he⟩:=h;simp only at he;have z:∀(blk off:Nat) (y:Value),a.eval x= .pointer (some ⟨blk,off,none⟩)->(loadVar ty ⟨blk,off,none⟩).run P w= .ok y w->(execOp a.eval o).run P w= .ok (.value y) w:=by
  simp_all[execOp,Instr.loadAt,Instr.sureAddr]
 split at he
 . split at he
   rename_i cs d;simp only[bF]at he;obtain⟨v0,l,rfl,rfl,rfl⟩:=he;have h1:=(cI R aa q ar).1.hr;obtain⟨_,vs,E,ad,m,_⟩:=R.bS.blk _ _ d;have r:=(R.dT _ _ d).2;obtain⟨y,al,k,e⟩:=uh (n:=n) av m r (λj _=>by rw[jd ad,ij]) l;grind[b'.pure]
   . rename_i E c d;split at he
     . rename_i L;obtain⟨M,rfl⟩:=L;obtain⟨rfl,rfl,rfl⟩:=he;have h1:=(cI R aa q ar).1.hr;obtain⟨_,⟨G,W,ad,O,Q⟩,_⟩:=R.bS.blk _ _ d;have r:=(R.dT _ _ d).2;have N:G.oneCell':=by rcases O with rfl|rfl<;>rfl
       have m:bb _ [.dead,c] [G,W]:= .cons N (.cons Q .nil);obtain⟨y,al,k,e⟩:=uh (n:=n) (off0:=0) (o:=1) (v:= .c c) av m (by simp only[kB,List.all_nil,u0];exact r) (λj _=>by rw[jd ad,ij]) (by simp[j2,M]);grind[b'.pure]
     grind
   grind
 . rename_i b sz i F;split at he
   rename_i V es d;simp only[bF,eg]at he;obtain⟨v0,l,rfl,rfl,rfl⟩:=he;obtain⟨u,rfl,A⟩:=ar;have h1:=(cI R aa q u).1.jh;obtain⟨_,vs,E,xs,ad,ak,Z,ae,m,K,_⟩:=Kc (R.bS.blk _ _ d) A;obtain⟨y,al,k,e⟩:=uh (n:=n) av (bb.VI m) (M9 n _) (λj s=>by rw[jd ad,K j (by omega)]) (O7 l);exact b'.pure R (z _ _ _ h1 al) k e
   . rename_i V es af ag c d;split at he
     grind
     . rename_i D;obtain⟨⟨a1,a2,a3,a4,a5,X⟩,⟨vs,E,k1,k2,k3,H,k4,k5⟩,k6⟩:=R.bS.blk _ _ d;have r:=(R.dT _ _ d).2;split at he
       . rename_i B;subst B;obtain⟨rfl,rfl,rfl⟩:=he;obtain⟨u,rfl,rfl⟩:=ar;have h1:=(cI R aa q u).1.jh
         obtain⟨y,al,k,e⟩:=uh (n:=n) (vs:=[H]) (o:=0) (v:= .c c) av (.cons k5 .nil) (by simpa[b9.aK]using r) (λj s=>by
          have:j=0:=(by simpa using s);subst this
          rw[jd k1,uR,k4];rfl) (by simp[j2,D])
         exact b'.pure R (z _ _ _ h1 al) k e
       . rename_i B;simp only[bF,eg]at he;obtain⟨v0,l,rfl,rfl,rfl⟩:=he;obtain⟨u,rfl,A⟩:=ar;have h1:=(cI R aa q u).1.jh;simp only[loadT,cx,cF,bF]at l;obtain⟨t,ht,rfl⟩:=l;have I:es[i]?=some (el es i):=by unfold el;rw[List.getD,e0 A];rfl
         obtain⟨aj,U,T⟩:=k3 i F _ t I ht (λh=>B h.2)
         obtain⟨y,al,k,e⟩:=uh (n:=n) (φ:=φ) (cs:=[.t t]) (o:=0) (v:= .c (.t t)) av (.cons T .nil) rfl (λj s=>by
          have:j=0:=(by simpa using s);subst this
          rw[jd k1,uR,U];rfl) (by simp[j2,D])
         exact b'.pure R (z _ _ _ h1 al) k e
   grind
 . rename_i ts F;simp only[bF,eg]at he;obtain⟨v0,l,rfl,rfl,rfl⟩:=he;obtain⟨blk,off,f,h1,ad⟩:=(cI R aa q ar).1.ea;have m:bb (b6 w S) ts ((List.range ts.length).map f):=by
    grind[bb.lO]
   obtain⟨y,al,k,e⟩:=uh (n:=n) av (bb.VI m) (M9 n _) (blk:=blk) (off0:=off) (λj s=>by simp_all) (O7 l);exact b'.pure R (z _ _ _ h1 al) k e
 grind
theorem M'{k:Nat}{s t:T}{b:J}(h:yO k s t=some b){ty:TypeId}(c:qm P ty=some k){x y:Value}(aa:b6 w S s x)(al:b6 w S t y)(d:Nat):
 (Op.equalIn (d+1) ty x y).run P w= .ok b w:=by
 have f:∀a b:aq,(a==b)=(a=b:J):=λa b=>by grind
 unfold qm at c;unfold yO at h;split at h;cases h;cases aa;cases al;split at c<;>simp at c;rename_i e;unfold Op.equalIn;simp only[Sem.run_bind,run_underlying e];rfl;simp at h;obtain⟨rfl,rfl⟩:=h;cases aa;cases al;split at c<;>simp at c;rename_i e;unfold Op.equalIn;simp only[Sem.run_bind,run_underlying e,Result.andThen_ok];rfl
 . cases aa with|str s1 h1=>cases al with|str i g=>
   split at c<;>simp at c;rename_i e;unfold Op.equalIn;simp only[Sem.run_bind,run_underlying e,Result.andThen_ok];simp_all[beq_toListBytes,ByteArray.toList_eq]
 grind
theorem MF{ty:TypeId}{k:Nat}(h:qm P ty=some k):qe P ty=some false:=by
 grind[qm,qe]
theorem Ly{d:Nat}{xs g:Array Value}:∀{fs:I Field} {i:Nat} {ks:ba} {ps qs:I C} {us vs:I Value} {r:J},AY P i fs=some ks->lJ ks ps qs=some r->
 bb (bD φ w S) ps us->bb (bD φ w S) qs vs->xs.toList.drop i=us->g.toList.drop i=vs->(Op.eqFields (d+1) xs g fs).run P w= .ok r w
 |[],i,ks,ps,qs,us,vs,r,a,he,h1,c,aJ,e=>by
  simp[AY]at a;subst a;cases ps<;>cases qs<;>simp[lJ]at he;subst he;rfl
 |f::fs,i,ks,ps,qs,us,vs,r,a,he,h1,c,aJ,e=>by
  simp[AY,bw]at a;obtain⟨⟨D,B⟩,k,s,F,t,rfl⟩:=a;unfold lJ at he;split at he;grind
  . rename_i E G x H y K q;cases q;simp only[bw,bF]at he;obtain⟨b,p,L,A,rfl⟩:=he;cases h1 with|cons h1 n=>
    cases c with|cons c o=>
    rename_i u M v N;have ex:xs[i]?=some u:=by have:=dA (·[0]?) aJ;grind
    have m:g[i]?=some v:=by have:=dA (·[0]?) e;grind
    have ih:=Ly (d:=d) t A n o (by rw[<-uY,aJ];rfl) (by rw[<-uY,e];rfl);have j:∀(l:Array _) (z:Value),l[i]?=some z->(part f.type l f.offset).run P w= .ok z w:=by
     simp_all[part,ua,MF]
    simp[Op.eqFields,j _ _ ex,j _ _ m,M' p s h1 c d];cases b
    all_goals simp_all
  grind
theorem abv(R:Rel aA nt φ S env σ n a w){op:BinOp}{ty:TypeId}(A:o.op= .binOp op ty x y yt)(i:op= .eql\/op= .neq){ks:ba}(e:II P ty=some ks)
 {b c:aS}(aa:bO x=some b)(al:bO y=some c)
 {p v σ'}(z:n key=false)(h:aQ (.eqAgg (op== .neq) ks b c) env σ key=some (p,v,σ'))(ar:p):b' P aA nt env σ' (ins n key) a v ((execOp a.eval o).run P w):=by
 simp only[aQ,bw]at h;obtain⟨⟨E,G⟩,f,⟨F,H⟩,g,he⟩:=h;simp at he;split at he
 . simp only[bF]at he;obtain⟨r,B,rfl,rfl,rfl⟩:=he;obtain⟨us,C,m⟩:=(cI R aa f ar.1).1.l1;obtain⟨vs,D,q⟩:=(cI R al g ar.2).1.l1;unfold II at e;split at e
   . rename_i fs u;have k:(eqGuard op ty x y (a.eval x) (a.eval y)).run P w= .ok () w:=(by simp_all[eqGuard]);have t:P.fieldsOf ty=fs:=(by grind[Program.fieldsOf]);have j:(Op.equal ty (.agg us.toArray) (.agg vs.toArray)).run P w= .ok r w:=by
      obtain⟨d,s⟩:∃d,Op.maxDepth=d+2:=⟨9998,rfl⟩;grind[Op.equal,run_equalIn_struct,Ly]
     have l:(binOp op ty (a.eval x) (a.eval y)).run P w= .ok (.bool (if(op== .neq)then !r else r)) w:=by
      rcases i with rfl|rfl;simp_all[binOp];simp_all[binOp]
     refine b'.pure R ?_ (.ph _) rfl;simp_all[execOp]
   grind
 grind
theorem sb{b:Nat}(h:w'.heap[b]?=w.heap[b]?)(j:Nat):w'.cell? ⟨b,j,none⟩=w.cell? ⟨b,j,none⟩:=by
 grind[World.cell?]
theorem om{b:Nat}{o:Obj}(h:w.heap[b]?=some o):b<w.heap.size:=(zF.1 h).1
theorem c8.jG{b:Nat}{x:b9}(h:c8 φ w S b x)(h0:(φ b).2≠0):(φ b).1<w.heap.size:=by
 cases x with
 |box cs=>obtain⟨_,_,_,ad,_⟩:=h;grind
 |arr sz es=>obtain⟨_,_,_,_,a⟩:=h;grind
 |set ks=>obtain⟨_,⟨_,_,ad,_⟩,_⟩:=h;grind
 |buf E s=>obtain⟨_,_,a⟩:=h;grind
 |cm E c=>obtain⟨_,⟨_,_,ad,_⟩,_⟩:=h;grind
 |cR sz es i o c=>obtain⟨_,⟨_,_,ad,_⟩,_⟩:=h;grind
theorem c8.qq{b:Nat}{x:b9}(h:c8 φ w S b x)(h0:(φ b).2≠0):∀j,¬S (φ b).1 j:=by
 cases x with
 |box cs=>obtain⟨_,_,_,_,_,hs⟩:=h;grind
 |arr sz es=>obtain⟨_,_,_,_,a⟩:=h;grind
 |set ks=>exact h.2.2
 |buf E s=>exact(h.2.2 h0).2
 |cm E c=>exact h.2.2
 |cR sz es i o c=>exact h.2.2
theorem c8.mono{b:Nat}{x:b9}(m:gN w S w' S)(p:∀b,n b->bq b=φ b)(q:n b)(aa:x.aK n)(ad:(φ b).2≠0->w'.heap[(φ b).1]?=w.heap[(φ b).1]?)
 (h:c8 φ w S b x):c8 bq w' S b x:=by
 cases x with
 |box cs=>
  obtain⟨h0,vs,E,h1,a,f⟩:=h;simp only[c8,p b q];refine⟨h0,vs,E,(ad h0).trans h1,a.imp λc v A g=>bD.mono m p (by grind[b9.aK]) g,f⟩
 |arr sz es=>
  obtain⟨h1,a,f,u,y⟩:=h;simp only[c8,p b q];refine⟨h1,a,f,u,λh0=>?_⟩;obtain⟨vs,E,k1,k2,k3,k4⟩:=y h0;exact⟨vs,E,(ad h0).trans k1,k2,λi j e t he ht=>let⟨v,z,g⟩:=k3 i j e t he ht;⟨v,z,b6.mono m g⟩,k4⟩
 |set ks=>
  grind[c8]
 |buf E s=>
  grind[c8]
 |cm E c=>
  grind[c8,bD.mono,b9.aK]
 |cR sz es i o c=>
  grind[c8,b6.mono,bD.mono,b9.aK]
theorem Rel.world(R:Rel aA nt φ S env σ n a w)(W:Nat->Prop)(p:w'.os=w.os)(ht:w'.tape=w.tape)(o:w'.output=w.output)(hs:w.heap.size<=w'.heap.size)
 (c:∀b:Nat,b<w.heap.size->¬W b->w'.heap[b]?=w.heap[b]?)
 (dJ:∀b,W b->(∀j,¬S b j)/\(∀k y,aV σ k=some y->(φ k).2≠0->(φ k).1≠b)/\(aA.B b\/aA.mH.heap.size<=b)):Rel aA nt φ S env σ n a w':=by
 have m:gN w S w' S:=⟨λ_ _ h=>h,λb j h=>sb (c b (R.bS.st b j h) (λe=>(dJ b e).1 j h)) j⟩;refine⟨⟨λb x aa=>?_,R.bS.inj,λb j h=>jD (R.bS.st b j h) hs⟩,λk g v ak av=>?_,R.hl,R.gw,R.dT,R.size,R.defers,?_,R.own,R.fix,R.gS⟩;have f:=R.bS.blk b x aa;exact c8.mono m (λ_ _=>rfl) (R.dT b x aa).1 (R.dT b x aa).2 (λh0=>c _ (f.jG h0) (λe=>(dJ _ e).2.1 b x aa h0 rfl)) f;obtain⟨x,aa,q⟩:=R.gx k g v ak av;exact⟨x,aa,cc.mono m (λ_ _=>rfl) (R.gw k g v ak av) q⟩
 . refine⟨p.trans R.ext.os,ht.trans R.ext.tape,o.trans R.ext.output,hN R.ext.size hs,λb aD cZ=>?_,R.ext.mono.trans m,R.ext.lQ⟩;rw[c b (jD aD R.ext.size) _]
   exact R.ext.block b aD cZ;grind
theorem Rel.congr(R:Rel aA nt φ S env σ n a w)(h:∀b,aV σ' b=aV σ b):Rel aA nt φ S env σ' n a w:=
 ⟨⟨λb x aa=>R.bS.blk b x (h b▸aa),λb c x y aa al=>R.bS.inj b c x y (h b▸aa) (h c▸al),R.bS.st⟩,R.gx,R.hl,R.gw,λb x aa=>R.dT b x (h b▸aa),R.size,R.defers,R.ext,λb x aa=>R.own b x (h b▸aa),R.fix,R.gS⟩
theorem Rel.sub(R:Rel aA nt φ S env σ n a w)(h:∀b x,aV σ' b=some x->aV σ b=some x):Rel aA nt φ S env σ' n a w:=
 ⟨⟨λb x aa=>R.bS.blk b x (h b x aa),λb c x y aa al=>R.bS.inj b c x y (h b x aa) (h c y al),R.bS.st⟩,R.gx,R.hl,R.gw,λb x aa=>R.dT b x (h b x aa),R.size,R.defers,R.ext,λb x aa=>R.own b x (h b x aa),R.fix,R.gS⟩
theorem Rel.del(R:Rel aA nt φ S env σ n a w)(b:Nat):Rel aA nt φ S env (hx σ b) n a w:=
 R.sub λk x aa=>by grind[fD]
theorem Rel.u3(R:Rel aA nt φ S env σ n a w)(c:∀b,n b->bq b=φ b):Rel aA nt bq S env σ n a w:=by
 refine⟨⟨λb x aa=>?_,λb e x y aa al=>?_,R.bS.st⟩,λk g v ak av=>?_,R.hl,R.gw,R.dT,R.size,R.defers,R.ext,λb x aa h0=>?_,λb f=>(c b (R.gS b f)).trans (R.fix b f),R.gS⟩;exact c8.mono (gN.refl w S) c (R.dT b x aa).1 (R.dT b x aa).2 (λ_=>rfl) (R.bS.blk b x aa);rw[c b (R.dT b x aa).1,c e (R.dT e y al).1];exact R.bS.inj b e x y aa al;obtain⟨x,aa,j⟩:=R.gx k g v ak av;exact⟨x,aa,cc.mono (gN.refl w S) c (R.gw k g v ak av) j⟩;rw[c b (R.dT b x aa).1]at h0⊢;exact R.own b x aa h0
theorem Rel.put (R:Rel aA nt φ S env σ n a w){b:Nat}{x:b9}(p:n b)(aa:x.aK n)(o:c8 φ w S b x)
 (q:(φ b).2≠0->(∀k y,aV σ k=some y->k≠b->(φ k).2≠0->(φ k).1≠(φ b).1)/\(aA.B (φ b).1\/aA.mH.heap.size<=(φ b).1)):Rel aA nt φ S env (dn σ b x) n a w:=by
 refine⟨⟨λk y al=>?_,λk g y j al c f h0 e=>?_,R.bS.st⟩,R.gx,R.hl,R.gw,λk y al=>?_,R.size,R.defers,R.ext,λk y al h0=>?_,R.fix,R.gS⟩
 . rw[c9]at al;split at al
   grind;exact R.bS.blk k y al
 . rw[c9]at al c;split at al
   grind
   . split at c
     grind;exact R.bS.inj k g y j al c f h0 e
 . rw[c9]at al;split at al
   grind;exact R.dT k y al
 . rw[c9]at al;split at al
   grind;exact R.own k y al h0
def eN(φ:dk)(n:Nat)(q:Nat×Nat):dk:=λb=>if b=n then q else φ b
theorem tR{b:Nat}(a:n key=false)(h:n b):eN φ key q b=φ b:=by grind[eN]
theorem dE{k:Nat}:eN φ k q k=q:=by simp[eN]
theorem Rel.jC (R:Rel aA nt φ S env σ n a w)(c:n key=false){x:b9}(q:Nat×Nat)(aa:x.aK n)(e:c8 (eN φ key q) w S key x)
 (f:q.2≠0->(∀k y,aV σ k=some y->(φ k).2≠0->(φ k).1≠q.1)/\(aA.B q.1\/aA.mH.heap.size<=q.1)):Rel aA nt (eN φ key q) S env (dn σ key x) (ins n key) a w:=by
 refine((R.u3 (λb h=>tR c h)).more (λ_ h=>kY h)).put aew (b9.hJ (λ_ h=>kY h) aa) e ?_;rw[dE];intro h0;refine⟨λk y al g h=>?_,(f h0).2⟩;rw[tR c (R.dT k y al).1]at h⊢;grind
theorem s9{o:Obj}{b:Nat}(h:b<w.heap.size):(w.alloc o).heap[b]?=w.heap[b]?:=by
 show(w.heap.push o)[b]?=_;grind
theorem heap_alloc_new{o:Obj}:(w.alloc o).heap[w.heap.size]?=some o:=by
 show(w.heap.push o)[w.heap.size]?=_;simp
theorem Rel.alloc(R:Rel aA nt φ S env σ n a w)(o:Obj):Rel aA nt φ S env σ n a (w.alloc o):=
 R.world (λ_=>False) rfl rfl rfl (by simp) (λb c _=>s9 c) (λ_ h=>h.elim)
theorem Rel.wA(R:Rel aA nt φ S env σ n a w)(o:Obj):gN w S (w.alloc o) S:=
 ⟨λ_ _ h=>h,λb j h=>sb (s9 (R.bS.st b j h)) j⟩
theorem Rel.Vn(R:Rel aA nt φ S env σ n a w)(e:n key=false)(f:bb (bD φ w S) cs vs)(g:cs.all (C.aK n))(E:TypeId):
 Rel aA nt (eN φ key (w.heap.size,1)) S env (dn σ key (.box cs)) (ins n key) a (w.alloc (.cells vs.toArray E)):=by
 have m:=R.wA (.cells vs.toArray E);refine(R.alloc _).jC e _ g ?_ ?_
 simp only[c8,dE];refine⟨by simp,vs,E,heap_alloc_new,f.imp λc v p o=>bD.mono m (λb h=>tR e h) (by grind) o,λj h=>?_⟩;have:=R.bS.st _ _ h;grind;intro _;refine⟨λk y al h0=>?_,.inr R.ext.size⟩;have:=(R.bS.blk k y al).jG h0;grind
theorem tZ{ty:TypeId}(h:kb P ty=some cs):∃i z,P.info? ty=some i/\i.zero=some z/\bb (bD φ w S) cs z.cells.toList/\cs.all (C.aK n):=by
 grind[kb,bw,Ie]
theorem Mn(R:Rel aA nt φ S env σ n a w){ty:TypeId}(j:o.op= .alloc ty)(b:kb P ty=some cs)
 {p v σ'}(f:n key=false)(h:aQ (.alloc cs) env σ key=some (p,v,σ'))(ar:p):b' P aA nt env σ' (ins n key) a v ((execOp a.eval o).run P w):=by
 obtain⟨rfl,rfl,rfl⟩:=h;obtain⟨i,z,g,b,d,e⟩:=tZ b;have R':=R.Vn f d e ty;refine⟨.pointer (some ⟨w.heap.size,0,none⟩),_,S,_,.inl ?_,.c ?_,by simp[V.aK,C.aK,ins],R'⟩;simp_all[execOp,Instr.alloc,zeroValue,typeInfo,newVar,newRow];grind[bD,dE]
theorem ad7(R:Rel aA nt φ S env σ n a w){ty:TypeId}(j:o.op= .box ty x){b:aS}(aa:bO x=some b)
 {p v σ'}(i:n key=false)(h:aQ (.box b) env σ key=some (p,v,σ'))(ar:p):b' P aA nt env σ' (ins n key) a v ((execOp a.eval o).run P w):=by
 simp only[aQ,bw,bF]at h;obtain⟨⟨k,l⟩,g,cs,f,rfl,rfl,rfl⟩:=h;have av:=cI R aa g ar;obtain⟨d,e⟩:=oj av.1 f av.2;have R':=R.Vn i d e ty;refine⟨.pointer (some ⟨w.heap.size,0,none⟩),_,S,_,.inl ?_,.c ?_,by simp[V.aK,C.aK,ins],R'⟩;simp[execOp,j,Instr.box,newVar,newRow];grind[bD,dE]
def ji{α:Type}(vs:I α)(off:Nat)(xs:I α):I α:=vs.take off++xs++vs.drop (off+xs.length)
theorem oo{vs:I α}{xs:I α}(h:off+xs.length<=vs.length)(k:Nat):
 (ji vs off xs)[k]?=if k<off then vs[k]? else if k<off+xs.length then xs[k-off]? else vs[k]?:=by
 unfold ji;by_cases h1:k<off;grind;grind
theorem pO{vs:I α}{xs:I α}(h:off+xs.length<=vs.length):(ji vs off xs).length=vs.length:=by
 grind[ji]
theorem Ma{vs:I α}{x:α}{xs:I α}(h:off+(x::xs).length<=vs.length):ji (vs.set off x) (off+1) xs=ji vs off (x::xs):=by
 apply xz;grind[oo]
theorem La{b:Nat}(h:w.heap[b]?=some (.cells vs.toArray E (0,0)))(off:Nat)(v:Value):
 (w.setCell ⟨b,off,none⟩ v).heap[b]?=some (.cells (vs.set off v).toArray E (0,0))/\∀a,a≠b->(w.setCell ⟨b,off,none⟩ v).heap[a]?=w.heap[a]?:=by
 simp_all[World.setCell,G8,dN]
theorem m'{b:Nat}{E:TypeId}:∀(xs:I Value) (off i:Nat) (vs:I Value) (w:World),w.heap[b]?=some (.cells vs.toArray E (0,0))->off+i+xs.length<=vs.length->(∀x,x∈xs->x.oneCell')->
 ∃w',(storeCells ⟨b,off,none⟩ xs i).run P w= .ok () w'/\w'.os=w.os/\w'.tape=w.tape/\w'.output=w.output/\w'.heap.size=w.heap.size/\
  w'.heap[b]?=some (.cells (ji vs (off+i) xs).toArray E (0,0))/\∀a:Nat,a≠b->w'.heap[a]?=w.heap[a]?
 |[],off,i,vs,w,h,ak,d=>⟨w,rfl,rfl,rfl,rfl,rfl,by simp[ji,h],λ_ _=>rfl⟩
 |x::xs,off,i,vs,w,h,ak,d=>by
  have m:Addr.add ⟨b,off,none⟩ i=⟨b,off+i,none⟩:=by grind[Addr.add]
  have aD:off+i<vs.length:=by grind
  have n:w.cell? ⟨b,off+i,none⟩=some vs[off+i]:=by rw[jd h];simp
  have o:w.frozen? ⟨b,off+i,none⟩=false:=by grind[World.frozen?]
  have hs:=La h (off+i) x;obtain⟨w',h1,e,f,g,k,l,j⟩:=m' xs off (i+1) _ _ hs.1 (by grind) (λy al=>d y (by grind));refine⟨w',?_,e,f,g,by simp_all,?_,λa c=>(j a c).trans (hs.2 a c)⟩;simp_all[storeCells,run_store];grind[Ma]
theorem bb.fill{a:Type}{R:α->a->Prop}{cs ds:I α}{vs xs:I a}(h:bb R cs vs)(k:bb R ds xs)(o:Nat):bb R (cs.take o++ds++cs.drop (o+ds.length)) (ji vs o xs):=by
 rw[k.length];exact((h.take o).append k).append (h.drop _)
theorem JQ(h:bb (bD φ w S) cs xs):∀x,x∈xs->x.oneCell':=by
 induction h with
 |nil=>simp
 |cons h _ ih=>
  intro x aa;rcases eE.1 aa with rfl|aa;exact bD.jk h;grind
theorem cc.undef:cc φ w S (.bf []) undef:= .bf [] [] rfl (by simp)
theorem rC:∀{cs:I C} {ts:I T} {xs:I Value},toTs cs=some ts->bb (bD φ w S) cs xs->bb (b6 w S) ts xs
 |[],ts,xs,h,b=>by simp[toTs]at h;subst h;cases b;exact .nil
 |c::cs,ts,xs,h,b=>by
  simp[toTs,bw,bF]at h;obtain⟨t,ht,f,e,rfl⟩:=h;cases b with
  |cons h1 d=>
   refine .cons ?_ (rC e d);unfold toT at ht;split at ht<;>simp at ht
   subst ht;exact h1;subst ht;obtain⟨a,rfl⟩:=h1;exact b6.slice [] a 0 0 0 0 (λ_ _=>undef) (by simp) (by simp) (by simp) (by simp) (by simp) (by simp)
theorem w6:∀{cs:I C} {ts:I T},toTs cs=some ts->ts.length=cs.length
 |[],ts,h=>by grind[toTs]
 |c::cs,ts,h=>by
  simp[toTs,bw,bF]at h;obtain⟨t,ht,b,a,rfl⟩:=h;simp[w6 a]
theorem Kd{n:Nat->J}{cs ds:I C}(h:cs.all (C.aK n))(k:ds.all (C.aK n))(o:Nat):(vN cs o ds).all (C.aK n):=by
 grind[vN]
theorem wK{vs:I α}{p:Nat}{x:α}(h:p<vs.length)(q:Nat):(ji vs (p+0) [x])[q]?=if q=p then some x else vs[q]?:=by
 grind[oo]
theorem AK{sz i j a b:Nat}(d:j<sz)(e:b<sz)(h:i*sz+j=a*sz+b):i=a/\j=b:=by
 rcases Nat.lt_trichotomy i a with c|c|c;have:=fg sz (show i+1<=a from c);grind;grind;have:=fg sz (show a+1<=i from c);grind
theorem Rel.rewrite(R:Rel aA nt φ S env σ n a w){b:Nat}{x p:b9}(f:aV σ b=some x)(h0:(φ b).2≠0)(D:p.aK n)
 (B:w'.os=w.os)(ht:w'.tape=w.tape)(A:w'.output=w.output)(hs:w'.heap.size=w.heap.size)(q:∀g:Nat,g≠(φ b).1->w'.heap[g]?=w.heap[g]?)
 (z:gN w S w' S->c8 φ w' S b p):Rel aA nt φ S env (dn σ b p) n a w':=by
 have t:=R.bS.blk b x f
 have u:=(R.del b).world _ B ht A (uS hs.symm) (λk _ c=>q k c) (λk c=>by
  subst c;refine⟨t.qq h0,λk y al c=>?_,R.own b x f h0⟩;rw[fD]at al;split at al;grind
  . rename_i o
    exactλe=>R.bS.inj k b y x al f (dN o) c h0 e)
 have m:gN w S w' S:=⟨λ_ _ h=>h,λk j h=>sb (q k (λe=>t.qq h0 j (e▸h))) j⟩
 have v:=u.put (R.dT b x f).1 D (z m) (λ_=>⟨λk y al o c=>by
  rw[fD]at al;split at al;grind
  . exact R.bS.inj k b y x al f o c h0,R.own b x f h0⟩)
 refine v.congr λk=>?_;grind[c9,fD]
theorem abw(R:Rel aA nt φ S env σ n a w){ty:TypeId}(bg:o.op= .store ty x y){k:Nat}(bf:ev P ty=some k){ay az:aS}(aa:bO x=some ay)(al:bO y=some az)
 {p v σ'}(be:n key=false)(h:aQ (.store k ay az) env σ key=some (p,v,σ'))(ar:p):b' P aA nt env σ' (ins n key) a v ((execOp a.eval o).run P w):=by
 simp only [aQ,bw,eM] at h;obtain ⟨⟨bm,bo⟩,U,⟨bn,bp⟩,V,cs,K,X,he⟩:= h;simp only at he K;have Y:∀ (blk off:Nat) (xs:I Value) (w':World),a.eval x = .pointer (some ⟨blk,off,none⟩)->(a.eval y).cells.toList = xs->xs.length = k->(storeCells ⟨blk,off,none⟩ xs 0).run P w = .ok () w'->
  (execOp a.eval o).run P w= .ok .skip w':=by
  intro blk off xs w' h1 aD ba bc;have bd:(a.eval y).cells.size=k:=by grind
  simp_all[execOp,Instr.storeAt,Instr.sureAddr,storeVar,ju]
 split at he
 . rename_i b f;split at he
   . rename_i ds q;simp only[eM,dW,eg]at he;obtain⟨ag,rfl,rfl,rfl⟩:=he;have h1:=(cI R aa U ar.1).1.hr;have l:=cI R al V ar.2;obtain⟨g,z⟩:=oj l.1 K l.2;obtain⟨h0,vs,E,ad,aF,O⟩:=R.bS.blk _ _ q;have bj:=aF.length;have A:(a.eval y).cells.toList.length=k:=by rw[<-g.length,X]
     obtain⟨w',d,k1,k2,k3,k4,k5,k6⟩:=m' (P:=P) _ f 0 vs w ad (by omega) (JQ g);refine⟨undef,φ,S,w',.inr ⟨Y _ _ _ w' h1 rfl A d,rfl⟩,.undef,rfl,Rel.more ?_ λ_ h=>kY h⟩;refine R.rewrite q h0 (by simpa[b9.aK]using Kd ((R.dT _ _ q).2) z f) k1 k2 k3 k4 k6 (λm=>?_);refine⟨h0,_,E,k5,?_,O⟩;exact(aF.imp λc v ao d=>bD.mono m (λ_ _=>rfl) (gk.1 (R.dT _ _ q).2 c ao) d).fill (g.imp λc v ao d=>bD.mono m (λ_ _=>rfl) (gk.1 z c ao) d) f
   . rename_i E aC q;split at he
     . rename_i c;simp only[dW,eg]at he;obtain⟨rfl,rfl,rfl⟩:=he;have h1:=(cI R aa U ar.1).1.hr;have l:=cI R al V ar.2;obtain⟨g,z⟩:=oj l.1 K l.2;obtain⟨h0,⟨aK,a',ad,aX,bh⟩,O⟩:=R.bS.blk _ _ q;have A:(a.eval y).cells.toList.length=k:=by rw[<-g.length,X]
       have W:k=1:=by rw[<-X];rfl
       obtain⟨s,J⟩:∃s,(a.eval y).cells.toList=[s]:=by
        match h:(a.eval y).cells.toList with
        |[s]=>exact⟨s,rfl⟩
        |[]=>rw[h]at A;simp at A;omega
        |_::_::_=>rw[h]at A;simp at A;omega
       obtain⟨w',d,k1,k2,k3,k4,k5,k6⟩:=m' (P:=P) (a.eval y).cells.toList 1 0 [aK,a'] w (b:=(φ b).1) (E:=E) ad (by rw[J];simp) (JQ g);rw[J]at g k5;cases g with|cons ap _=>
       have D:c.aK n:=(by simpa using z);refine⟨undef,φ,S,w',.inr ⟨Y _ _ _ w' h1 rfl A d,rfl⟩,.undef,rfl,Rel.more ?_ λ_ h=>kY h⟩;refine R.rewrite q h0 (by simpa[b9.aK]using D) k1 k2 k3 k4 k6 (λm=>?_);exact⟨h0,⟨aK,s,k5,aX,bD.mono m (λ_ _=>rfl) D ap⟩,O⟩
     cases he
   grind
 . rename_i b sz i f;have ax:∀{c:C} {xs:I Value},bb (bD φ w S) [c] xs->∃x,xs=[x]/\bD φ w S c x:=by
    intro c xs h;cases h with|cons h1 aD=>cases aD;grind
   split at he
   . rename_i a7 es q;split at he
     . rename_i c aW;have ap:cs=[c]:=by
        unfold zK at aW;grind
       subst ap;obtain⟨rfl,rfl,rfl⟩:=he;obtain⟨Q,T,rfl,F,aI⟩:=ar;have h1:=(cI R aa U Q).1.jh;have l:=cI R al V T;obtain⟨g,z⟩:=oj l.1 K l.2;have W:k=1:=by rw[<-X];rfl
       obtain⟨s,J,H⟩:=ax g;have ab:=R.bS.blk _ _ q;obtain⟨h0,vs,E,xs,ad,ak,aR,A,an,aq,ag⟩:=Kc ab F;obtain⟨g1,g2,g3,g4,am⟩:=ab;obtain⟨a9,aL,ae,aV,aw,O⟩:=am h0;rw[ad]at ae;cases ae;rw[h4]at ag;have G:i*sz+f<vs.length:=(by omega);obtain⟨w',d,k1,k2,k3,k4,k5,k6⟩:=m' (P:=P) [s] (i*sz+f) 0 vs w ad (by simp;omega) (λx aa=>by rw[zI.1 aa];exact bD.jk H);refine⟨undef,φ,S,w',.inr ⟨Y _ _ _ w' h1 J (by simp[W]) d,rfl⟩,.undef,rfl,Rel.more ?_ λ_ h=>kY h⟩;have D:c.aK n:=(by simpa using z);refine R.rewrite q h0 (by simpa[b9.aK]using D) k1 k2 k3 k4 k6 (λm=>?_);refine⟨⟨g1,g2,g3,g4,F,by omega⟩,⟨_,E,k5,by rw[pO (by simp;omega)];exact ak,λB j e t he ht N=>?_,s,?_,bD.mono m (λ_ _=>rfl) D H⟩,O⟩
       . obtain⟨v,r,d⟩:=aw _ _ _ _ he ht;have u:j<sz:=by rw[<-g3 _ (fr he)];exact(ed.1 ht).1
         rw[wK G,au (λe=>N (AK u (by omega) e))];exact⟨v,r,b6.mono m d⟩
       rw[wK G,ah rfl]
     simp only[bw,dW,eg]at he;obtain⟨ts,aJ,rfl,rfl,rfl⟩:=he;obtain⟨Q,T,rfl,F,aI⟩:=ar;have h1:=(cI R aa U Q).1.jh;have l:=cI R al V T;obtain⟨g,z⟩:=oj l.1 K l.2;have aZ:=rC aJ g;have bi:=w6 aJ;have ab:=R.bS.blk _ _ q;obtain⟨h0,vs,E,xs,ad,ak,aR,A,an,aq,ag⟩:=Kc ab F;obtain⟨g1,g2,g3,g4,am⟩:=ab;obtain⟨a9,aL,ae,aV,aw,O⟩:=am h0;rw[ad]at ae;cases ae;rw[h4]at ag;have a6:(a.eval y).cells.toList.length=k:=by rw[<-g.length,X]
     obtain⟨w',d,k1,k2,k3,k4,k5,k6⟩:=m' (P:=P) _ (i*sz+f) 0 vs w ad (by omega) (JQ g);have aY:=d;refine⟨undef,φ,S,w',.inr ⟨Y _ _ _ w' h1 rfl a6 aY,rfl⟩,.undef,rfl,Rel.more ?_ λ_ h=>kY h⟩;refine R.rewrite q h0 rfl k1 k2 k3 k4 k6 (λm=>?_);refine⟨by simpa using g1,by simpa using g2,?_,g4,λ_=>⟨_,E,k5,by rw[pO (by omega)];exact ak,?_,O⟩⟩
     . intro e he;rcases List.mem_or_eq_of_mem_set he with he|rfl
       exact g3 e he;simp;omega
     . intro B j e t he ht;rw[uR,oo (by omega)];rw[CW]at he;by_cases M:i=B
       . subst M;rw[ah rfl,ah F]at he;cases he;have aU:=(ed.1 ht).1;simp at aU;have u:j<sz:=(by omega);have L:=(oo (vs:=el es i) (off:=f) (xs:=ts) (by omega) j)
         unfold ji at L;rw[show f+ts.length=f+k by omega]at L;rw[L]at ht;by_cases Z:j<f;rw[ah Z]at ht;rw[jB,aq j u];obtain⟨v,r,d⟩:=an.get ht;exact⟨v,r,b6.mono m d⟩
         . rw[au Z]at ht;rw[cb];by_cases aj:j<f+k
           rw[jB]at ht;rw[jB,show i*sz+j-(i*sz+f)=j-f by omega];obtain⟨v,r,d⟩:=aZ.get ht;exact⟨v,r,b6.mono m d⟩;rw[cb]at ht;rw[cb,aq j u];obtain⟨v,r,d⟩:=an.get ht;exact⟨v,r,b6.mono m d⟩
       . rw[au M]at he;obtain⟨v,r,d⟩:=aw _ _ _ _ he ht;have u:j<sz:=by rw[<-g3 _ (fr he)];exact(ed.1 ht).1
         have:B*sz+j<i*sz+f\/i*sz+f+k<=B*sz+j:=by
          rcases Nat.lt_or_gt_of_ne M with h|h;right;have:=fg sz (show i+1<=B from h);grind;left;have:=fg sz (show B+1<=i from h);grind
         rcases this with h|h;rw[ah h];exact⟨v,r,b6.mono m d⟩;rw[cb,cb];exact⟨v,r,b6.mono m d⟩
   . rename_i a7 es bk bl aC q;obtain⟨⟨a1,a2,a3,a4,a5,af⟩,⟨vs,E,b1,b2,ai,aO,aM,aN⟩,aB⟩:=R.bS.blk _ _ q;have aE:aC.aK n:=(by simpa[b9.aK]using(R.dT _ _ q).2);have h0:(φ b).2≠0:=(by omega);split at he
     . rename_i c;have W:k=1:=by rw[<-X];rfl
       split at he
       . rename_i av;subst av;obtain⟨rfl,rfl,rfl⟩:=he;obtain⟨Q,T,rfl,rfl⟩:=ar;have h1:=(cI R aa U Q).1.jh;have l:=cI R al V T;obtain⟨g,z⟩:=oj l.1 K l.2;obtain⟨s,J,H⟩:=ax g;have G:i*sz+f<vs.length:=by
          rw[b2];have:=fg sz (show i+1<=(φ b).2 by omega);rw[h4]at this;omega
         obtain⟨w',d,k1,k2,k3,k4,k5,k6⟩:=m' (P:=P) [s] (i*sz+f) 0 vs w b1 (by simp;omega) (λx aa=>by rw[zI.1 aa];exact bD.jk H);refine⟨undef,φ,S,w',.inr ⟨Y _ _ _ w' h1 J (by simp[W]) d,rfl⟩,.undef,rfl,Rel.more ?_ λ_ h=>kY h⟩;have D:c.aK n:=(by simpa using z);refine R.rewrite q h0 (by simpa[b9.aK]using D) k1 k2 k3 k4 k6 (λm=>?_);refine⟨⟨a1,a2,a3,a4,a5,af⟩,⟨_,E,k5,by rw[pO (by simp;omega)];exact b2,λB j e t he ht N=>?_,s,?_,bD.mono m (λ_ _=>rfl) D H⟩,aB⟩
         . obtain⟨v,r,d⟩:=ai _ _ _ _ he ht N;have u:j<sz:=by rw[<-a3 _ (fr he)];exact(ed.1 ht).1
           rw[wK G,au (λe=>N (AK u af e))];exact⟨v,r,b6.mono m d⟩
         rw[wK G,ah rfl]
       . rename_i av;simp only[bw,dW,eg]at he;obtain⟨t,aP,rfl,rfl,rfl⟩:=he;obtain⟨Q,T,rfl,F,aI⟩:=ar;have h1:=(cI R aa U Q).1.jh;have l:=cI R al V T;obtain⟨g,z⟩:=oj l.1 K l.2;obtain⟨s,J,H⟩:=ax g;have a0:b6 w S t s:=by
          have h1:=rC (cs:=[c]) (ts:=[t]) (xs:=[s]) (by simp[toTs,aP]) (.cons H .nil);cases h1 with|cons h _=>grind
         have G:i*sz+f<vs.length:=by
          have:=fg sz (show i+1<=(φ b).2 by omega);rw[h4]at this;omega
         obtain⟨w',d,k1,k2,k3,k4,k5,k6⟩:=m' (P:=P) [s] (i*sz+f) 0 vs w b1 (by simp;omega) (λx aa=>by rw[zI.1 aa];exact bD.jk H);refine⟨undef,φ,S,w',.inr ⟨Y _ _ _ w' h1 J (by simp[W]) d,rfl⟩,.undef,rfl,Rel.more ?_ λ_ h=>kY h⟩;refine R.rewrite q h0 (by simpa[b9.aK]using aE) k1 k2 k3 k4 k6 (λm=>?_);have aG:es[i]?=some (el es i):=by unfold el;rw[List.getD,e0 F];rfl
         have aT:(el es i).length=sz:=a3 _ (fr aG);refine⟨⟨by grind,by simpa using a2,λe he=>?_,a4,by simpa using a5,af⟩,⟨_,E,k5,by rw[pO (by simp;omega)];exact b2,λB j e a8 he ht N=>?_,aO,?_,bD.mono m (λ_ _=>rfl) aE aN⟩,aB⟩
         . rcases List.mem_or_eq_of_mem_set he with he|rfl
           exact a3 e he;simp;omega
         . rw[wK G];rw[CW]at he;by_cases M:i=B
           . subst M;rw[ah rfl,ah F]at he;cases he;have L:=(oo (vs:=el es i) (off:=f) (xs:=[t]) (by simp;omega) j)
             unfold ji at L;rw[show f+[t].length=f+k by simp[W]]at L;rw[L]at ht;by_cases Z:j=f;subst Z;rw[cb,jB,Nat.sub_self]at ht;cases ht;rw[ah rfl];exact⟨s,rfl,b6.mono m a0⟩
             . have aH:(el es i)[j]?=some a8:=by
                by_cases aj:j<f;rwa [ah aj]at ht;rwa [au aj,cb]at ht
               have u:j<sz:=by rw[<-aT];exact(ed.1 aH).1
               obtain⟨v,r,d⟩:=ai _ _ _ _ aG aH N;rw[au (λe=>Z (AK u (by omega) e).2)];exact⟨v,r,b6.mono m d⟩
           . rw[au M]at he;obtain⟨v,r,d⟩:=ai _ _ _ _ he ht N;have u:j<sz:=by rw[<-a3 _ (fr he)];exact(ed.1 ht).1
             rw[au (λe=>M (AK u (by omega) e).1.symm)];exact⟨v,r,b6.mono m d⟩
         rw[wK G,au (λe=>av (AK af (by omega) e).2.symm)];exact aM
     cases he
   cases he
 cases he
theorem Mb:∀(xs:I Value) (k off:Nat) (cs:Array Value),off+k+xs.length<=cs.size->
 (((xs.zipIdx k).foldl (λcs (c,j)=>cs.setIfInBounds (off+j) c) cs):Array Value).toList=ji cs.toList (off+k) xs
 |[],k,off,cs,h=>by simp[ji]
 |x::xs,k,off,cs,h=>by
  rw[List.zipIdx_cons,uW,Mb xs _ _ _ (by grind)];grind[Ma]
theorem I4{place:Nat->ag (Nat×Nat)}{a:Array Value}{i:Nat}{r:I (Nat×Value)}{sz:Nat}(ar:place i=some (off,sz))(h1:v.cells.size=sz)(b:off+sz<=a.size):
 Instr.fill place a ((i,v)::r)=Instr.fill place (ji a.toList off v.cells.toList).toArray r:=by
 simp only[Instr.fill,ar];rw[au (by grind)];congr 1;have:=Mb v.cells.toList 0 off a (by grind);rw[<-Array.foldl_toList];grind
theorem Lb {fs:Array Field}{place:Nat->ag (Nat×Nat)}(R:Rel aA nt φ S env σ n a w)
 (l:∀(j:Nat) f k,fs[j]?=some f->ev P f.type=some k->place j=some (f.offset,k)):
 ∀{parts:I (Nat×Operand)} {ps:I (Nat×Nat×aS)} {cs:I C} {vs:I Value} {p:Prop} {ds:I C},w8 P fs parts=some ps->lv env cs ps=some (p,ds)->p->
  bb (bD φ w S) cs vs->cs.all (C.aK n)->
  ∃us:I Value,Instr.fill place vs.toArray (parts.map λ(i,x)=>(i,a.eval x))=some us.toArray/\bb (bD φ w S) ds us/\ds.all (C.aK n)=true
 |[],ps,cs,vs,p,ds,d,c,ar,b,e=>by
  grind[w8,lv,Instr.fill]
 |(j,x)::r,ps,cs,vs,p,ds,d,c,ar,b,e=>by
  simp[w8,bw,bF]at d;obtain⟨f,t,k,u,A,aa,J,y,rfl⟩:=d;simp only[lv,bw,eM,bF]at c;obtain⟨⟨q,v⟩,av,es,s,⟨h1,D⟩,⟨K,B⟩,o,rfl,rfl⟩:=c;have g:=cI R aa av ar.1;obtain⟨m,z⟩:=oj g.1 s g.2;have ak:=b.length;have H:=m.length;obtain⟨us,E,F,G⟩:=Lb R l y o ar.2 (by exact b.fill m _) (Kd e z _);simp;rw[I4 (l j f k t u) (by grind) (by grind)];grind
theorem Lz{place:Nat->ag (Nat×Nat)}{m:Nat}(R:Rel aA nt φ S env σ n a w)(g:∀j,place j=some (j*m,m)):
 ∀{parts:I (Nat×Operand)} {ps:I (Nat×Nat×aS)} {cs:I C} {vs:I Value} {p:Prop} {ds:I C},wJ m parts=some ps->lv env cs ps=some (p,ds)->p->
  bb (bD φ w S) cs vs->cs.all (C.aK n)->
  ∃us:I Value,Instr.fill place vs.toArray (parts.map λ(i,x)=>(i,a.eval x))=some us.toArray/\bb (bD φ w S) ds us/\ds.all (C.aK n)=true
 |[],ps,cs,vs,p,ds,d,c,ar,b,e=>by
  grind[wJ,lv,Instr.fill]
 |(j,x)::r,ps,cs,vs,p,ds,d,c,ar,b,e=>by
  simp[wJ,bw,bF]at d;obtain⟨u,aa,F,s,rfl⟩:=d;simp only[lv,bw,eM,bF]at c;obtain⟨⟨q,v⟩,av,es,o,⟨h1,z⟩,⟨G,y⟩,l,rfl,rfl⟩:=c;have f:=cI R aa av ar.1;obtain⟨k,t⟩:=oj f.1 o f.2;have ak:=b.length;have E:=k.length;obtain⟨us,A,B,D⟩:=Lz R g s l ar.2 (by exact b.fill k _) (Kd e t _);simp;rw[I4 (g j) (by grind) (by grind)];grind
theorem ack{fs:I Field}(h:∀f,f∈fs->∃k,ev P f.type=some k):
 ∃ps:I (Nat×Nat),(fs.mapM λf=>do pure (f.offset,<-sizeOf f.type):Sem (I (Nat×Nat))).run P w= .ok ps w/\ps.length=fs.length/\∀(j:Nat) f k,fs[j]?=some f->ev P f.type=some k->ps[j]?=some (f.offset,k):=by
 induction fs with
 |nil=>simp
 |cons f fs ih=>
  obtain⟨ps,h1,ak,a⟩:=ih λf b=>h f (by grind);obtain⟨k,c⟩:=h f (by simp);refine⟨(f.offset,k)::ps,?_,by grind,?_⟩;simp_all[ju];grind
theorem abx(R:Rel aA nt φ S env σ n a w){ty:TypeId}{parts:Array (Nat×Operand)}(l:o.op= .build ty parts)(r:P.underlying ty=some (.struct fs))(x:Jc P fs)
 {z:I C}(s:kb P ty=some z){ps:I (Nat×Nat×aS)}(m:w8 P fs parts.toList=some ps)
 {p v σ'}(g:n key=false)(h:aQ (.build z ps) env σ key=some (p,v,σ'))(ar:p):b' P aA nt env σ' (ins n key) a v ((execOp a.eval o).run P w):=by
 simp only[aQ,bF]at h;obtain⟨⟨q,ds⟩,d,rfl,rfl,rfl⟩:=h;obtain⟨i,G,y,F,c,e⟩:=tZ s
 obtain⟨pl,A,D,E⟩:=ack (P:=P) (w:=w) (fs:=fs.toList) (by
  grind[Jc,Option.isSome_iff_exists])
 have B:(fs.mapM λf=>do pure (f.offset,<-sizeOf f.type):Sem _).run P w= .ok pl.toArray w:=by
  simp_all[Array.mapM_eq_mapM_toList]
 obtain⟨us,h1,b,t⟩:=Lb (place:=(pl.toArray[·]?)) R (λj f k u g=>by grind) m d ar c e;refine b'.pure R ?_ (.agg b) (by grind[V.aK]);simp only[execOp,l,Instr.build,zeroValue,typeInfo,Sem.run_bind,run_program,Result.andThen_ok,Sem.run_pure,underlying,r];simp_all
theorem aaK(R:Rel aA nt φ S env σ n a w){ty:TypeId}{parts:Array (Nat×Operand)}(r:o.op= .build ty parts){len:Nat}(t:P.underlying ty=some (.array len e)){m:Nat}(l:ev P e=some m)
 {z:I C}(u:kb P ty=some z){ps:I (Nat×Nat×aS)}(s:wJ m parts.toList=some ps)
 {p v σ'}(D:n key=false)(h:aQ (.build z ps) env σ key=some (p,v,σ'))(ar:p):b' P aA nt env σ' (ins n key) a v ((execOp a.eval o).run P w):=by
 simp only[aQ,bF]at h;obtain⟨⟨q,ds⟩,f,rfl,rfl,rfl⟩:=h;obtain⟨i,A,k,y,d,g⟩:=tZ u;obtain⟨us,h1,c,B⟩:=Lz R (λj=>rfl) s f ar d g;refine b'.pure R ?_ (.agg c) (by grind[V.aK]);have b:Instr.fill (λi=>some (i*m,m)) A.cells ((parts.map λ(i,x)=>(i,a.eval x)).toList)=some us.toArray:=by simp_all
 simp at b;simp[execOp,r,Instr.build,zeroValue,typeInfo,k,y,underlying,t,ju l,b]
def iK(w:World)(S:dm)(sz:Nat)(es:I (I T))(vs:I Value):Prop:=
 ∀(i j:Nat) e t,es[i]?=some e->e[j]?=some t->∃v,vs[i*sz+j]?=some v/\b6 w S t v
theorem Ig{sz:Nat}(R:Rel aA nt φ S env σ n a w)(h0:0<sz):
 ∀{parts:I (Nat×Operand)} {ps:I (Nat×aS)} {es:I (I T)} {vs:I Value} {p:Prop} {ds:I (I T)},p9 parts=some ps->jU env sz es ps=some (p,ds)->p->
  (∀e,e∈es->e.length=sz)->vs.length=es.length*sz->iK w S sz es vs->
  ∃us:I Value,Instr.fill (λi=>some (i*sz,sz)) vs.toArray (parts.map λ(i,x)=>(i,a.eval x))=some us.toArray/\(∀e,e∈ds->e.length=sz)/\ds.length=es.length/\us.length=vs.length/\iK w S sz ds us/\(∀u,u∈us->u∈us)
 |[],ps,es,vs,p,ds,f,c,ar,s,ak,g=>by
  grind[p9,jU,Instr.fill]
 |(b,x)::r,ps,es,vs,p,ds,f,c,ar,s,ak,g=>by
  simp[p9,bw,bF]at f;obtain⟨F,aa,P,C,rfl⟩:=f;simp only[jU,bw,eM,bF]at c;obtain⟨⟨q,v⟩,av,cs,B,ts,D,⟨h1,k⟩,⟨Q,G⟩,A,rfl,rfl⟩:=c;have l:=cI R aa av ar.1;obtain⟨E,N⟩:=oj l.1 B l.2;have o:=rC D E;have O:=o.length;have M:b*sz+sz<=vs.length:=by
   have:=fg sz (show b+1<=es.length from k);grind
  obtain ⟨us,H,y,J,K,z,L⟩:= Ig R h0 C A ar.2 (vs:= ji vs (b*sz) (a.eval x).cells.toList) (by
   grind) (by grind[pO]) (by
   intro i j e t he ht;rw[oo (by omega)];rw[CW]at he;by_cases d:b=i;subst d;rw[ah rfl,ah k]at he;cases he;have m:=(ed.1 ht).1;rw[cq,jB,show b*sz+j-b*sz=j by simp];exact o.get ht
   . rw[au d]at he;have m:=(ed.1 ht).1;rw[s _ (fr he)]at m;rcases Nat.lt_or_gt_of_ne d with h|h
     have:=fg sz (show b+1<=i from h);rw[h4]at this;rw[cb,cb];exact g _ _ _ _ he ht
     . have:=fg sz (show i+1<=b from h);rw[h4]at this;rw[jB]
       exact g _ _ _ _ he ht)
  refine⟨us,?_,y,by grind,by grind[pO],z,λ_ h=>h⟩;simp only[mB];rw[I4 rfl (by grind) (by grind)];grind
theorem Jf{z:Array Value}{sz len:Nat}(c:z.size=sz)(h0:0<sz)(i j:Nat)(a:i<len)(b:j<sz):
 ((Array.range (len*sz)).map (z[· % z.size]!))[i*sz+j]?=z[j]?:=by
 have aD:i*sz+j<len*sz:=by
  have:=fg sz (show i+1<=len from a);grind
 simp_all[oW]
theorem LA{ty:TypeId}{len:Nat}{parts:Array (Nat×Value)}(g:P.underlying ty=some (.slice e)){sz:Nat}(f:ev P e=some sz){i:TypeInfo}{a:Value}(n:P.info? e=some i)(p:i.zero=some a)
 (h0:sz≠0)(o:len*sz<=2^24){b:Array Value}(k:b=(Array.range (len*sz)).map (a.cells[· % a.cells.size]!)){us:I Value}(c:Instr.fill (λi=>some (i*sz,sz)) b parts.toList=some us.toArray):
 (Instr.buildSlice ty len parts).run P w= .ok (.slice (some ⟨w.heap.size,0,none⟩) len len) (w.alloc (.cells us.toArray e)):=by
 have d:¬(len*sz>2^24):=by omega
 have m:∀w,(zeroValue e).run P w= .ok a w:=by simp_all[zeroValue,typeInfo]
 by_cases ak:len*sz=0;have l:b=#[]:=(by grind);subst l;have j:(Array.map (λx=>(#[]:Array Value)[x%(#[]:Array Value).size]!) (Array.range (len*sz)))=#[]:=(by grind);unfold Instr.buildSlice;simp only[Sem.run_bind,run_underlying g,Result.andThen_ok,ju f,au d,ah ak,Sem.run_pure,j,c];rfl;unfold Instr.buildSlice;subst k;simp only[Sem.run_bind,run_underlying g,Result.andThen_ok,ju f,au d,au ak,Sem.run_pure,m,c];rfl
theorem abF(R:Rel aA nt φ S env σ n a w){ty:TypeId}{len:Nat}{parts:Array (Nat×Operand)}(Y:o.op= .buildSlice ty len parts)(ab:P.underlying ty=some (.slice e)){sz:Nat}(Z:ev P e=some sz)
 {z:I C}(J:kb P e=some z){ps:I (Nat×aS)}(F:p9 parts.toList=some ps)(h0:sz≠0)(K:z.length=sz)(W:len*sz<=2^24)
 {p v σ'}(E:n key=false)(h:aQ (.bslice sz len z ps) env σ key=some (p,v,σ'))(ar:p):b' P aA nt env σ' (ins n key) a v ((execOp a.eval o).run P w):=by
 simp only[aQ,bw,bF]at h;obtain⟨l,N,⟨q,ds⟩,D,rfl,rfl,rfl⟩:=h;obtain⟨i,f,d,af,g,T⟩:=tZ (φ:=φ) (w:=w) (S:=S) (n:=n) J;have M:=rC N g;have L:f.cells.size=sz:=by rw[<-CU,<-g.length,K]
 have b:0<sz:=by omega
 have ae:l.length=sz:=by grind[w6]
 obtain ⟨us,h1,u,A,Q,B,_⟩:= Ig R b F D ar (vs:= ((Array.range (len*sz)).map _).toList) (by
  grind) (by simp) (by
  intro i j e t he ht;have d:=(ed.1 he).1;simp at d;have:e=l:=by
   grind
  subst this;have U:=(ed.1 ht).1;obtain⟨x,aa,G⟩:=M.get ht;rw[G9,Jf L b i j d (by omega)]
  grind)
 simp at A;have H:us.length=len*sz:=by grind
 have r:=R.alloc (.cells us.toArray e);have m:=R.wA (.cells us.toArray e);have X:len<=dB:=by
  have:=G5 len b;grind[dB]
 have s:=r.jC E (x:= .arr sz ds) (w.heap.size,len) rfl (by
  simp only[c8,dE];refine⟨by omega,by omega,u,b,λ_=>⟨us,e,heap_alloc_new,H,λi j e t he ht=>?_,λj h=>?_⟩⟩;obtain⟨v,ad,G⟩:=B i j e t he ht;grind[b6.mono]
  . have:=R.bS.st _ _ h
    omega) (λ_=>⟨λk y al h0=>by
     have:=(R.bS.blk k y al).jG h0
     grind,.inr R.ext.size⟩)
 refine⟨.slice (some ⟨w.heap.size,0,none⟩) len len,_,S,_,.inl ?_,.c ⟨some ⟨w.heap.size,0,none⟩,by simp[dE],by simp[dE],by simp[dE]⟩,by simp[V.aK,C.aK,ins],s⟩;have O:Instr.fill (λi=>some (i*sz,sz)) ((Array.range (len*sz)).map (f.cells[· % f.cells.size]!)) ((parts.map λ(i,x)=>(i,a.eval x)).toList)=some us.toArray:=by
  rw[Array.toList_map];omega
 simp_all[LA,execOp,Sem.run_bind,Result.andThen_ok]
theorem MG(a:Nat):∀(r c:Nat),c<=2*a+192->Builtin.growBy a r c<=2*a+192
 |0,c,h=>h
 |r+1,c,h=>by
  unfold Builtin.growBy;split;grind;exact MG _ r _ (by omega)
theorem aa7{a b:Nat}(h:b<a):Builtin.nextslicecap a b<=2*a+192:=by
 grind[Builtin.nextslicecap,MG]
theorem Mc(a:Nat):∀(r c:Nat),c<=a+a/4+512->Builtin.growBy a r c<=a+a/4+512
 |0,c,h=>h
 |r+1,c,h=>by
  unfold Builtin.growBy;split;grind;exact Mc _ r _ (by omega)
theorem ZX{a b:Nat}(h:b<a):Builtin.nextslicecap a b<=a+a/4+512:=by
 grind[Builtin.nextslicecap,Mc]
theorem jW.not{e bytes:Nat}(h:f<e)(c:jW e bytes):¬(Builtin.nextslicecap e f*bytes>2^48):=by
 have a:=fg bytes (aa7 h);have b:=fg bytes (ZX h);rcases c with c|c<;>unfold hD at c<;>omega
theorem aby{p:α->Prop}{l m:I α}(h:∀x,x∈l->p x)(k:∀x,x∈m->p x):∀x,x∈l++m->p x:=by grind
def sO(P:Program)(w:World)(S:dm)(sz:Nat)(v:Value)(a:I (I T))(b:ag Nat):Prop:=
 (Builtin.lenOf v).run P w= .ok a.length w/\∃xs:I Value,(Builtin.firstCells sz a.length v).run P w= .ok xs.toArray w/\xs.length=a.length*sz/\iK w S sz a xs/\∀x,x∈xs->x.oneCell'=true
theorem Md{sz k len:Nat}(h0:0<sz)(a:k<len*sz):k/sz<len/\k%sz<sz/\(k/sz)*sz+k%sz=k:=
 ⟨Nat.div_lt_of_lt_mul (by grind),zE _ h0,by grind[Nat.div_add_mod]⟩
theorem iK.one{sz:Nat}{a:I (I T)}(h0:0<sz)(c:∀e,e∈a->e.length=sz)(ak:xs.length=a.length*sz)(h:iK w S sz a xs):∀x,x∈xs->x.oneCell':=by
 intro x aa;obtain⟨k,o,p⟩:=gT aa;obtain⟨h1,f,g⟩:=Md h0 (by rw[<-ak];omega);have he:=e0 h1;have j:=c _ (zt h1);have ht:(a[k/sz])[k%sz]?=some _:=e0 (by omega);obtain⟨v,t,q⟩:=h _ _ _ _ he ht;grind[b6.jk]
theorem A8{b o m:Nat}(ak:xs.length=m)(h:∀j,j<m->w.cell? ⟨b,o+j,none⟩=xs[j]?):(loadCells ⟨b,o,none⟩ m).run P w= .ok xs.toArray w:=by
 grind[run_loadCells_list,Addr.add]
theorem acm{sz:Nat}(h0:0<sz){d:I (I T)}(s:b6 w S (.slice d) v)(m:∀e,e∈d->e.length=sz):sO P w S sz v d none:=by
 obtain⟨a,cap,c,b,o,f,rfl,x,z,B,n,u,A⟩:=b6.jI s;refine⟨by rfl,?_⟩;by_cases g:d=[]
 . subst g;refine⟨[],?_,by simp,by intro i j e t he;grind,by simp⟩;cases a with
   |none=>rfl
   |some a=>simp[Builtin.firstCells,loadCells,loadCellsFrom]
 . have r:c=sz:=by
    obtain⟨dp,y⟩:=C5 d g;grind
   subst r;rw[n g];have aa:((List.range (d.length*c)).map λk=>f (k/c) (k%c)).length=d.length*c:=(by simp);have l:iK w S c d ((List.range (d.length*c)).map λk=>f (k/c) (k%c)):=by
    intro i j e t he ht;have p:=(ed.1 he).1;have q:=(ed.1 ht).1;rw[m _ (fr he)]at q;have aD:i*c+j<d.length*c:=by
     have:=fg c (show i+1<=d.length from p);grind
    simp_all[Nat.add_comm,Nat.add_mul_div_right,Nat.div_eq_of_lt,oW]
   refine⟨_,?_,aa,l,iK.one h0 m aa l⟩;refine A8 aa ?_;grind[Md]
theorem acn{sz:Nat}(b:bD φ w S .bV v):sO P w S sz v [] none:=by
 obtain⟨a,rfl⟩:=b;refine⟨by rfl,[],?_,by simp,by intro i j e t he;grind,by simp⟩;cases a with
 |none=>rfl
 |some a=>simp[Builtin.firstCells,loadCells,loadCellsFrom]
theorem MH{sz b:Nat}{c:I (I T)}(cZ:c8 φ w S b (.arr sz c))(o:bD φ w S (.arr b sz 0 c.length) v):sO P w S sz v c (some b):=by
 obtain⟨a,rfl,l,q⟩:=bD.hA o;obtain⟨h1,p,f,g,k⟩:=cZ;refine⟨by rfl,?_⟩;by_cases h0:(φ b).2=0
 . have:c=[]:=j3 (by omega);subst this;refine⟨[],?_,by simp,by intro i j e t he;grind,by simp⟩;cases a with
   |none=>rfl
   |some a=>simp[Builtin.firstCells,loadCells,loadCellsFrom]
 . obtain⟨vs,E,ad,ak,s,_⟩:=k h0;rw[l h0];have r:c.length*sz<=vs.length:=(by simp_all[fg]);have aa:(vs.take (c.length*sz)).length=c.length*sz:=(by grind);have d:iK w S sz c (vs.take (c.length*sz)):=by
    intro i j e t he ht;have m:=(ed.1 he).1;have aD:i*sz+j<c.length*sz:=by
     have:=fg sz (show i+1<=c.length from m);grind
    grind
   refine⟨_,?_,aa,d,iK.one g f aa d⟩;rw[C3];refine A8 aa ?_;intro j n;rw[ij,jd ad,zr,ah n]
theorem sO.world{sz:Nat}{a:I (I T)}{b:ag Nat}(h:sO P w S sz v a b){m:Nat}:∃xs:I Value,xs.length=a.length*sz/\iK w S sz a xs/\(∀x,x∈xs->x.oneCell'):=by
 obtain⟨_,xs,_,h1,c,e⟩:=h;grind
theorem LB(z:Array Value)(m:Nat):(Builtin.zeroCells z m).size=m*z.size:=by simp[Builtin.zeroCells]
theorem HW{st u:TypeId}{i:TypeInfo}{c:Value}(p:P.underlying st=some (.slice e))(s:P.underlying yt=some (.slice u))(g:P.info? e=some i)(A:i.zero=some c)(B:c.cells.size=i.size)
 {base:ag Addr}{sl sc a:Nat}{y:Value}{xs d:I Value}(q:(Builtin.lenOf y).run P w= .ok a w)
 (aa:(Builtin.firstCells i.size sl (.slice base sl sc)).run P w.drew= .ok xs.toArray w.drew)(al:(Builtin.firstCells i.size a y).run P w.drew= .ok d.toArray w.drew)
 (n:sc<sl+a)(k:jW (sl+a) i.bytes)(x:sl+a<=dB){tt:TypeId}:
 ∃(b:Nat) (r:I Value),sl+a<=b/\r.length=(b-(sl+a))*i.size/\
  (Builtin.append_ #[st,yt] tt #[.slice base sl sc,y]).run P w= .ok (.slice (some ⟨w.heap.size,0,none⟩) (sl+a) b) (w.drew.alloc (.cells (xs++d++r).toArray e)):=by
 have o:∀w,(sizeOf e).run P w= .ok i.size w:=λw=>by simp[sizeOf,typeInfo,g]
 have f:∀w,(typeInfo e).run P w= .ok i w:=λw=>by simp[typeInfo,g]
 have t:∀w,(zeroValue e).run P w= .ok c w:=λw=>by simp_all[zeroValue]
 generalize z:(Question.appendCap (sl+a) sc e).cut (w.tape w.drawn (Question.appendCap (sl+a) sc e))=b;have m:sl+a<=b:=by grind[Question.cut]
 have h1:¬(sl+a<=sc):=by omega
 have v:¬(sl+a>IntKind.i64.max/\(False\/i.bytes=0)):=by grind[IntKind.max,IntKind.bits,dB]
 have j:=by
  exact k.not n
 refine⟨b,(Builtin.zeroCells c.cells (b-(sl+a))).toList,m,by grind[LB],?_⟩;have l:(choose (.appendCap (sl+a) sc e)).run P w= .ok b w.drew:=by simp_all[Question.forced]
 have aJ:(xs++d++(Builtin.zeroCells c.cells (b-(sl+a))).toList).toArray=xs.toArray++d.toArray++Builtin.zeroCells c.cells (b-(sl+a)):=by simp
 rw[aJ];unfold Builtin.append_;simp only[CR,C7,C8,Sem.run_bind,run_underlying p,run_underlying s,Result.andThen_ok,o,Sem.run_pure,cx,cF,q,au h1,f];rw[au (by grind)];simp only[Sem.run_bind,Result.andThen_ok,f];rw[au j];simp only[Sem.run_bind,Result.andThen_ok,f,l,run_askRoom,aa,al,t,eL,cl];rfl
theorem wa{st l:TypeId}{i:TypeInfo}(g:P.underlying st=some (.slice e))(k:P.underlying yt=some (.slice l))(d:P.info? e=some i)
 {base:ag Addr}{sl sc a:Nat}{y:Value}{c:I Value}(j:(Builtin.lenOf y).run P w= .ok a w)(al:(Builtin.firstCells i.size a y).run P w= .ok c.toArray w)(n:sl+a<=sc){w':World}
 (hs:∀b,base=some b->(storeCells (b.add (sl*i.size)) c 0).run P w= .ok () w') (m:base=none->w'=w) {tt:TypeId}:
  (Builtin.append_ #[st,yt] tt #[.slice base sl sc,y]).run P w= .ok (.slice base (sl+a) sc) w':=by
 have f:∀w,(sizeOf e).run P w= .ok i.size w:=λw=>by simp[sizeOf,typeInfo,d]
 unfold Builtin.append_;simp only[CR,C7,C8,Sem.run_bind,run_underlying g,run_underlying k,Result.andThen_ok,f,Sem.run_pure,cx,cF,j];cases base<;>simp_all
theorem iK.append{sz:Nat}{a:I (I T)}{f r:I Value}(h0:0<sz)(q:∀e,e∈es->e.length=sz)(v:∀e,e∈a->e.length=sz)(aa:xs.length=es.length*sz)(z:f.length=a.length*sz)
 (h1:iK w S sz es xs)(o:iK w S sz a f):iK w S sz (es++a) (xs++f++r):=by
 intro i j e t he ht;by_cases g:i<es.length;rw[xr g]at he;have c:=(ed.1 ht).1;rw[q _ (fr he)]at c;have:=fg sz (show i+1<=es.length from g);rw[h4]at this;rw[lL,xr (by omega)];exact h1 _ _ _ _ he ht;rw[zG (by omega)]at he;have c:=(ed.1 ht).1;rw[v _ (fr he)]at c;have u:=(ed.1 he).1;have x:=fg sz (show es.length<=i by omega);have p:=fg sz (show(i-es.length)+1<=a.length from u);have y:(i-es.length)*sz=i*sz-es.length*sz:=Nat.sub_mul _ _ _;rw[h4]at p;rw[lL,zG (by omega),xr (by omega),show i*sz+j-xs.length=(i-es.length)*sz+j by omega];exact o _ _ _ _ he ht
theorem Rel.drew(R:Rel aA nt φ S env σ n a w):Rel aA nt φ S env σ n a w.drew:=
 R.world (λ_=>False) rfl rfl rfl (ek _) (λ_ _ _=>rfl) (λ_ h=>h.elim)
theorem wL(R:Rel aA nt φ S env σ n a w){f:aS}(al:bO y=some f){v:V}(av:f.get env=some (p,v))(ar:p){sz:Nat}(h0:0<sz){d:I (I T)×ag Nat}
 (h:lW σ v=some d)(l:∀e,e∈d.1->e.length=sz):sO P w S sz (a.eval y) d.1 d.2:=by
 have c:=(cI R al av ar).1;unfold lW at h;split at h;cases h;exact acm h0 c.ea l;cases h;exact acn c.ea
 . split at h
   . rename_i b r x u _ z s m;simp at h;obtain⟨⟨h1,rfl,rfl⟩,rfl⟩:=h;subst h1;by_cases k:s=[]
     . subst k;obtain⟨ca,q,_⟩:=bD.hA c.ea;rw[q];refine⟨by rfl,[],?_,by simp,by intro i j e t he;grind,by simp⟩;cases ca with
       |none=>rfl
       |some a=>simp[Builtin.firstCells,loadCells,loadCellsFrom]
     . have o:r=sz:=by
        obtain⟨dp,g⟩:=C5 _ k;rw[<-(R.bS.blk _ _ m).2.2.1 _ g,l _ g]
       subst o;exact MH (R.bS.blk _ _ m) c.ea
   grind
 grind
theorem ad8{sz b len:Nat}(cZ:c8 φ w S b (.arr sz es))(p:bD φ w S (.gf b sz off len) v)(r:off+len<=es.length):sO P w S sz v ((es.drop off).take len) none:=by
 obtain⟨a,cap,rfl,l,s⟩:=p;obtain⟨h1,q,f,g,k⟩:=cZ;have d:((es.drop off).take len).length=len:=by grind
 refine⟨by simp[Builtin.lenOf,d],?_⟩;rw[d];by_cases h0:len=0
 . subst h0;refine⟨[],?_,by simp,by intro i j e t he;grind,by simp⟩;cases a with
   |none=>rfl
   |some a=>simp[Builtin.firstCells,loadCells,loadCellsFrom]
 . obtain⟨vs,E,ad,ak,x,_⟩:=k (by omega);rw[l h0];have u:off*sz+len*sz<=vs.length:=by rw[ak,<-h4];exact fg _ (by omega)
   have aa:((vs.drop (off*sz)).take (len*sz)).length=len*sz:=(by grind);have o:∀e,e∈(es.drop off).take len->e.length=sz:=λe he=>f e (List.mem_of_mem_drop (Hb he));have c:iK w S sz ((es.drop off).take len) ((vs.drop (off*sz)).take (len*sz)):=by
    intro i j e t he ht;have m:i<len:=(by grind);have aD:i*sz+j<len*sz:=by
     have:=fg sz (show i+1<=len from m);grind
    grind
   refine⟨_,?_,aa,c,iK.one g o (by grind) c⟩;refine A8 aa ?_;intro j n;rw[jd ad,zr,ah n,List.getElem?_drop]
theorem aco(R:Rel aA nt φ S env σ n a w){x y:Operand}{st yt e aP:TypeId}(aH:o.op= .call {callee:= .builtin .append,args:=#[x,y],argTypes:=#[st,yt]})
 (ab:P.underlying st=some (.slice e))(af:P.underlying yt=some (.slice aP)){i:TypeInfo}(X:P.info? e=some i)(aX:i.size≠0)
 {M N:aS}(aa:bO x=some M)(al:bO y=some N){ag ai:Prop}{aj am:V}(ay:M.get env=some (ag,aj))(az:N.get env=some (ai,am)){r}
 {p v σ'}(A:mI aj am=some r)(f:n key=false)(h:vx σ key i.size ag ai r=some (p,v,σ'))(ar:p):b' P aA nt env σ' (ins n key) a v ((execOp a.eval o).run P w):=by
 have Z:∀r w',(Builtin.append_ #[st,yt] o.type #[a.eval x,a.eval y]).run P w= .ok r w'->(execOp a.eval o).run P w= .ok (.value r) w':=by
  intro r w' d;simp[execOp,aH,Go.resolve,invoke,builtin,d]
 unfold mI at A;split at A
 . rename_i b s1 off len aQ aY D q;split at A
   . rename_i aw;subst aw;cases A;unfold vx at h;dsimp only at h;split at h
     . rename_i aZ es s;obtain⟨rfl,rfl,rfl⟩:=h;obtain⟨aI,aJ,rfl,rfl,rfl,rfl,aU,aF⟩:=ar;have ax:=cI R aa ay aI;obtain⟨base,B,av,aV⟩:=bD.hA ax.1.ea;have aB:=cI R al az aJ;have u:=R.bS.blk _ _ s;obtain⟨I,L,J,K,aN,aM⟩:=ad8 (P:=P) u aB.1.ea aF;obtain⟨g1,g2,g3,g4,au⟩:=u;have aL:((es.drop D).take q).length=q:=by simp;omega
       rw[aL]at I J K;rw[Nat.sub_zero]at B;have z:len+q<=(φ b).2:=(by omega);have h0:0<i.size:=(by omega);have F:(es.take len++(es.drop D).take q).length=len+q:=(by grind);have Y:∀Q,Q∈es.take len++(es.drop D).take q->Q.length=i.size:=by
        grind
       by_cases g:(φ b).2=0;have aD:len=0:=(by omega);have aE:q=0:=(by omega);subst aD aE;have aO:L=[]:=j3 (by grind);subst aO;have d:=wa (tt:=o.type) ab af X (base:=base) (sl:=0) (sc:=(φ b).2) I J z (w':=w) (λap _=>by simp[storeCells]) (λ_=>rfl);rw[<-B]at d;have R':=(R.del b).jC f (x:= .arr i.size (es.take 0++(es.drop D).take 0)) (0,0) rfl (by simp only[c8,dE];exact⟨by simp,by simp,by simp,h0,by simp⟩) (by simp);refine⟨_,_,S,w,.inl (Z _ _ d),.c ?_,by simp[V.aK,C.aK,ins],R'⟩;exact⟨base,by simp[dE,g,B],by simp[dE],by simp[dE]⟩
       . obtain⟨vs,E,ad,ae,aK,aG⟩:=au g;have u:=R.bS.blk _ _ s;have W:len*i.size+L.length<=vs.length:=by rw[K,ae,<-h4];exact fg _ z
         obtain⟨w',aW,k1,k2,k3,k4,k5,k6⟩:=m' (P:=P) L (len*i.size) 0 vs w ad (by omega) aM;rw[uR]at k5;have U:=av g
         have d:=wa (tt:=o.type) ab af X (base:=base) (sl:=len) (sc:=(φ b).2) I J z (w':=w') (λap aT=>by
          grind[Addr.add]) (λT=>by rw[U]at T;cases T)
         rw[<-B]at d
         have an:=(R.del b).world (w':=w') (λk=>k=(φ b).1) k1 k2 k3 (uS k4.symm) (λk _ f=>k6 k f) (λk f=>by
          subst f;refine⟨u.qq g,λk y al f=>?_,R.own b _ s g⟩;rw[fD]at al;split at al;cases al
          . rename_i G
            exactλe=>R.bS.inj k b y _ al s (dN G) f g e)
         have m:gN w S w' S:=⟨λ_ _ h=>h,λk j h=>sb (k6 k (λe=>u.qq g j (e▸h))) j⟩
         have ao:=an.jC f (x:= .arr i.size _) (φ b) rfl (by
          simp only[c8,dE];refine⟨by rw[F];exact z,by rw[F];omega,Y,h0,λ_=>⟨_,E,k5,by rw[pO W];exact ae,λl j e t he ht=>?_,aG⟩⟩;have aC:=(ed.1 ht).1;rw[Y _ (fr he)]at aC;rw[oo W,K];by_cases O:l<len;have:=fg i.size (show l+1<=len from O);rw[h4]at this;rw[jB];rw[xr (by simp;omega),zr,ah O]at he;obtain⟨v,H,d⟩:=aK _ _ _ _ he ht;exact⟨v,H,b6.mono m d⟩
          . have h1:=fg i.size (show len<=l by omega);have aq:l<len+q:=by rw[<-F];exact(ed.1 he).1
            have:=fg i.size (show l+1<=len+q from aq);rw[h4,h4]at this;rw[cb,jB];have ak:(es.take len).length=len:=by simp;omega
            rw[zG (by omega),ak]at he;have aR:(l-len)*i.size=l*i.size-len*i.size:=Nat.sub_mul _ _ _;obtain⟨v,H,d⟩:=aN _ _ _ _ he ht;rw[show l*i.size+j-len*i.size=(l-len)*i.size+j by omega]
            exact⟨v,H,b6.mono m d⟩) (λ_=>⟨λk y al f=>by
            rw[fD]at al;split at al;cases al
            . rename_i G
              exact R.bS.inj k b y _ al s (dN G) f g,R.own b _ s g⟩)
         refine⟨_,_,S,w',.inl (Z _ _ d),.c ?_,by simp[V.aK,C.aK,ins],ao⟩;exact⟨base,by simp[dE],by simp[dE,U],by simp[dE];omega⟩
     grind
   grind
 grind
theorem abG(R:Rel aA nt φ S env σ n a w){x y:Operand}{st yt e a2:TypeId}(aZ:o.op= .call {callee:= .builtin .append,args:=#[x,y],argTypes:=#[st,yt]})
 (W:P.underlying st=some (.slice e))(X:P.underlying yt=some (.slice a2)){i:TypeInfo}(Q:P.info? e=some i)(a8:i.size≠0)(aK:(i.zero.map (·.cells.size))=some i.size)
 {aj ay:aS}(aa:bO x=some aj)(al:bO y=some ay)
 {p v σ'}(f:n key=false)(h:aQ (.append e i.size i.bytes aj ay) env σ key=some (p,v,σ'))(aX:∀q b l,aj.get env≠some (q,.c (.cN b l)))(ar:p):b' P aA nt env σ' (ins n key) a v ((execOp a.eval o).run P w):=by
 simp only[aQ,bw]at h;obtain⟨⟨a',bd⟩,Z,⟨ba,be⟩,ab,he⟩:=h;split at he;grind[aco]
 rename_i a9;simp only[bw]at he;obtain⟨z,ag,he⟩:=he;simp only[bF]at aK;obtain⟨bf,aM,aL⟩:=aK;have h0:0<i.size:=by omega
 have U:∀r w',(Builtin.append_ #[st,yt] o.type #[a.eval x,a.eval y]).run P w= .ok r w'->(execOp a.eval o).run P w= .ok (.value r) w':=by
  intro r w' d;simp[execOp,aZ,Go.resolve,invoke,builtin,d]
 have aE:∀b,w.heap.size<=b->∀j,¬S b j:=λb an j aG=>by have:=R.bS.st _ _ aG;omega
 split at he
 ·
  obtain⟨rfl,rfl,rfl⟩:=he;obtain⟨ae,T,D,aB,aq⟩:=ar;obtain⟨base,J⟩:=(cI R aa Z ae).1.ea;have er:=wL (P:=P) R al ab T h0 ag D;by_cases H:z.1=[];obtain⟨B,A,F,g,M,ah⟩:=er;rw[H]at B F g;have av:A=[]:=j3 (by simpa using g);subst av;have d:=wa (tt:=o.type) W X Q (base:=base) (sl:=0) (sc:=0) B F (by simp) (w':=w) (λax _=>by simp[storeCells]) (λ_=>rfl);rw[<-J]at d;have R':=R.jC f (x:= .arr i.size z.1) (0,0) rfl (by rw[H];simp only[c8,dE];exact⟨by simp,by simp,by simp,h0,by simp⟩) (by simp);refine⟨_,_,S,w,.inl (U _ _ d),.c ?_,by simp[V.aK,C.aK,ins],R'⟩;rw[H];exact⟨base,by simp[dE],by simp[dE],by simp[dE]⟩
  . have u:=R.drew;obtain⟨B,_⟩:=er;obtain⟨_,A,F,g,M,ah⟩:=wL (P:=P) u al ab T h0 ag D;have a6:0<z.1.length:=xy.2 H;have af:(Builtin.firstCells i.size 0 (.slice base 0 0)).run P w.drew= .ok ([]:I Value).toArray w.drew:=by
     cases base with
     |none=>rfl
     |some a=>simp[Builtin.firstCells,loadCells,loadCellsFrom]
    obtain⟨aw,r,h1,ak,d⟩:=HW (tt:=o.type) W X Q aM aL B af F (by omega) (by grind) (by grind);rw[<-J]at d;have O:=u.alloc (.cells ([]++A++r).toArray e);have m:=u.wA (.cells ([]++A++r).toArray e)
    have ai:=O.jC f (x:= .arr i.size z.1) (w.heap.size,aw) rfl (by
     simp only[c8,dE];refine⟨by omega,aq,D,h0,λ_=>⟨_,e,heap_alloc_new,?_,?_,aE _ (ek _)⟩⟩;simp only[eh,lM,g,ak,ij,<-h4];congr 1;omega
     . have:=iK.append (S:=S) (w:=w.drew) (r:=r) (es:=[]) (xs:=[]) h0 (by simp) D (by simp) g (by intro i j e t he;simp at he) M;intro s j K t he ht;obtain⟨v,L,d⟩:=this s j K t (by simpa using he) ht
       exact⟨v,L,b6.mono m d⟩) (λ_=>⟨λk y al h0=>by
        have:=(R.bS.blk k y al).jG h0
        omega,.inr R.ext.size⟩)
    refine⟨_,_,S,_,.inl (U _ _ d),.c ?_,by simp[V.aK,C.aK,ins],ai⟩;exact⟨some ⟨w.heap.size,0,none⟩,by simp[dE],by simp[dE],by simp[dE];omega⟩
 . rename_i b bb off len;split at he
   . rename_i bc es N;split at he
     grind
     . obtain⟨rfl,rfl,rfl⟩:=he;obtain⟨ae,T,rfl,rfl,rfl,rfl,D,aB,aq⟩:=ar;have aU:=cI R aa Z ae;have aR:=aU.1.ea;obtain⟨base,J,aT,aW⟩:=bD.hA aR;have er:=wL (P:=P) R al ab T h0 ag D;have am:=R.bS.blk _ _ N;have aP:=am;obtain⟨g1,g2,g3,g4,aN⟩:=aP;rw[Nat.sub_zero]at J;rw[ij]at aW;have aH:∀K,K∈es++z.1->K.length=i.size:=aby g3 D;by_cases aF:es.length+z.1.length<=(φ b).2
       . obtain⟨B,A,F,g,M,ah⟩:=er;by_cases G:(φ b).2=0
         have ao:es=[]:=j3 (by omega);have au:z.1=[]:=j3 (by omega);rw[au]at B F g;have av:A=[]:=j3 (by simpa using g);subst av;have d:=wa (tt:=o.type) W X Q (base:=base) (sl:=es.length) (sc:=(φ b).2) B F (by simp[ao]) (w':=w) (λax _=>by simp[storeCells]) (λ_=>rfl);rw[<-J]at d;have R':=(R.del b).jC f (x:= .arr i.size (es++z.1)) (0,0) rfl (by rw[au,ao];simp only[c8,dE];exact⟨by simp,by simp,by simp,h0,by simp⟩) (by simp);refine⟨_,_,S,w,.inl (U _ _ d),.c ?_,by simp[V.aK,C.aK,ins],R'⟩;rw[au,ao];exact⟨base,by simp[dE,G],by simp[dE],by simp[dE]⟩
         . obtain⟨vs,E,ad,aI,a0,aY⟩:=aN G;have aC:es.length*i.size+A.length<=vs.length:=by rw[g,aI,<-h4];exact fg _ aF
           obtain⟨w',a7,k1,k2,k3,k4,k5,k6⟩:=m' (P:=P) A (es.length*i.size) 0 vs w ad (by omega) ah;rw[uR]at k5;have Y:=aT G;rw[C3]at Y
           have d:=wa (tt:=o.type) W X Q (base:=base) (sl:=es.length) (sc:=(φ b).2) B F aF (w':=w') (λax az=>by
            rw[Y]at az;cases az;have a5:Addr.add ⟨(φ b).1,0,none⟩ (es.length*i.size)=⟨(φ b).1,es.length*i.size,none⟩:=by unfold Addr.add;split<;>simp_all
            grind) (λan=>by rw[Y]at an;cases an)
           rw[<-J]at d
           have u:=(R.del b).world (w':=w') (λk=>k=(φ b).1) k1 k2 k3 (uS k4.symm) (λk _ f=>k6 k f) (λk f=>by
            subst f;refine⟨am.qq G,λk y al f=>?_,R.own b _ N G⟩;rw[fD]at al;split at al;cases al
            . rename_i H
              exactλe=>R.bS.inj k b y _ al N (dN H) f G e)
           have m:gN w S w' S:=⟨λ_ _ h=>h,λk j h=>sb (k6 k (λe=>am.qq G j (e▸h))) j⟩
           have O:=u.jC f (x:= .arr i.size (es++z.1)) (φ b) rfl (by
            simp only[c8,dE];refine⟨by simp;omega,by simp;omega,aH,h0,λ_=>⟨_,E,k5,by rw[pO aC];exact aI,?_,aY⟩⟩;intro s j K t he ht;rw[oo aC];by_cases aD:s<es.length;rw[xr aD]at he;have ap:=(ed.1 ht).1;rw[g3 _ (fr he)]at ap;have:=fg i.size (show s+1<=es.length from aD);rw[h4]at this;rw[jB];obtain⟨v,L,d⟩:=a0 _ _ _ _ he ht;exact⟨v,L,b6.mono m d⟩
            . rw[zG (by omega)]at he;have ap:=(ed.1 ht).1;rw[D _ (fr he)]at ap;have aV:=(ed.1 he).1;have a3:=fg i.size (show es.length<=s by omega);have aO:=fg i.size (show(s-es.length)+1<=z.1.length from aV);have a4:(s-es.length)*i.size=s*i.size-es.length*i.size:=Nat.sub_mul _ _ _;rw[h4]at aO;rw[cb,jB,show s*i.size+j-es.length*i.size=(s-es.length)*i.size+j by omega];obtain⟨v,L,d⟩:=M _ _ _ _ he ht
              exact⟨v,L,b6.mono m d⟩) (λ_=>⟨λk y al f=>by
              rw[fD]at al;split at al;cases al
              . rename_i H
                exact R.bS.inj k b y _ al N (dN H) f G,R.own b _ N G⟩)
           refine⟨_,_,S,w',.inl (U _ _ d),.c ?_,by simp[V.aK,C.aK,ins],O⟩;exact⟨base,by simp[dE],by simp[dE,Y],by simp[dE];omega⟩
       . have u:=R.drew;obtain⟨B,_⟩:=er;obtain⟨_,A,F,g,M,ah⟩:=wL (P:=P) u al ab T h0 ag D;obtain⟨_,xs,af,aJ,a1,_⟩:=MH (P:=P) (u.bS.blk _ _ N) (cI u aa Z ae).1.ea;rw[J]at af;obtain⟨aw,r,h1,ak,d⟩:=HW (tt:=o.type) W X Q aM aL B af F (by omega) aB aq;rw[<-J]at d;have O:=(u.del b).alloc (.cells (xs++A++r).toArray e);have m:=u.wA (.cells (xs++A++r).toArray e)
         have ai:=O.jC f (x:= .arr i.size (es++z.1)) (w.heap.size,aw) rfl (by
          simp only[c8,dE];refine⟨by simp;omega,by simp;omega,aH,h0,λ_=>⟨_,e,heap_alloc_new,?_,?_,aE _ (ek _)⟩⟩;simp only[eh,aJ,g,ak,<-h4];congr 1;omega
          . have:=iK.append (S:=S) (w:=w.drew) (r:=r) h0 g3 D aJ g a1 M;intro s j K t he ht;obtain⟨v,L,d⟩:=this s j K t he ht
            exact⟨v,L,b6.mono m d⟩) (λ_=>⟨λk y al h0=>by
             rw[fD]at al;split at al;cases al
             . have:=(R.bS.blk k y al).jG h0
               omega,.inr R.ext.size⟩)
         refine⟨_,_,S,_,.inl (U _ _ d),.c ?_,by simp[V.aK,C.aK,ins],ai⟩;exact⟨some ⟨w.heap.size,0,none⟩,by simp[dE],by simp[dE],by simp[dE];omega⟩
   grind
 exact absurd Z (aX _ _ _);grind
theorem abH{R:T->Value->Prop}:∀{ts:I T} {vs:I Value},bb R ts vs->∀(i j:Nat) e t,(ts.map λt=>[t])[i]?=some e->e[j]?=some t->∃v,vs[i*1+j]?=some v/\R t v:=by
 intro ts vs h i j e t he ht;rw[qu,bF]at he;obtain⟨t0,h0,rfl⟩:=he;cases j with
 |zero=>
  obtain⟨v,b,a⟩:=h.get h0;grind
 |succ j=>grind
theorem abI(R:Rel aA nt φ S env σ n a w){ty:TypeId}(B:o.op= .alloc ty)(f:kb P ty=some cs)(A:cs.length≠0)(u:cs.length<=2^24)
 {p v σ'}(q:n key=false)(h:aQ (.allocA cs) env σ key=some (p,v,σ'))(ar:p):b' P aA nt env σ' (ins n key) a v ((execOp a.eval o).run P w):=by
 simp only[aQ,bF]at h;obtain⟨ts,d,rfl,rfl,rfl⟩:=h;obtain⟨i,z,s,f,b,r⟩:=tZ (φ:=φ) (w:=w) (S:=S) (n:=n) f;have F:=rC d b;have D:=w6 d;have g:=R.alloc (.cells z.cells.toList.toArray ty);have m:=R.wA (.cells z.cells.toList.toArray ty);have E:=b.length.symm
 have l:=g.jC q (x:= .arr 1 (ts.map λt=>[t])) (w.heap.size,cs.length) rfl (by
  simp only[c8,dE,sv];refine⟨by omega,by grind[dB],?_,by simp,λ_=>⟨z.cells.toList,ty,heap_alloc_new,by omega,λi j e t he ht=>?_,λj h=>?_⟩⟩;simp;grind[abH,b6.mono]
  . have:=R.bS.st _ _ h
    omega) (λ_=>⟨λk y al h0=>by
     have:=(R.bS.blk k y al).jG h0
     grind,.inr R.ext.size⟩)
 refine⟨.pointer (some ⟨w.heap.size,0,none⟩),_,S,_,.inl ?_,.c ?_,by simp[V.aK,C.aK,ins],l⟩;simp_all[execOp,Instr.alloc,zeroValue,typeInfo,newVar,newRow];grind[bD,dE]
theorem acp(R:Rel aA nt φ S env σ n a w){ty:TypeId}{i:Operand}(u:o.op= .indexAddr ty x i){k:Nat}(B:P.underlying ty=some (.array k e))(A:ev P e=some 1)
 {f d:aS}(aa:bO x=some f)(s:bO i=some d)
 {p v σ'}(D:n key=false)(h:aQ (.idxP k f d) env σ key=some (p,v,σ'))(ar:p):b' P aA nt env σ' (ins n key) a v ((execOp a.eval o).run P w):=by
 simp only[aQ,bw]at h;obtain⟨⟨G,I⟩,r,⟨F,H⟩,q,he⟩:=h;simp at he;split at he
 . rename_i b kk m;obtain⟨rfl,rfl,rfl⟩:=he;obtain⟨y,z,t,E⟩:=ar;have av:=cI R aa r y;have h1:=av.1.hr;have g:=(cI R s q z).1.fG;have j:Addr.add ⟨(φ b).1,0,none⟩ (m.toNat*1)=⟨(φ b).1,m.toNat*1+0,none⟩:=by
    grind[Addr.add]
   refine b'.pure R (x:= .pointer (some ⟨(φ b).1,m.toNat*1+0,none⟩)) ?_ (.c ?_) (by grind[V.aK,C.aK])
   . have l:0<=m/\m<k:=⟨t,by omega⟩
     simp only[execOp,u,h1,g,Instr.indexAt,asIntOf,Instr.sureAddr,Sem.run_bind,run_underlying B,Result.andThen_ok,Sem.run_pure,ah l,ju A,j]
   rfl
 grind
theorem acq(R:Rel aA nt φ S env σ n a w){ty:TypeId}{i:IntKind}{m:Int}(t:o.op= .indexAddr ty x (.const (.int i m))){k:Nat}(u:P.underlying ty=some (.array k e))
 (h0:0<=m/\m.toNat<k){s:Nat}(hs:ev P e=some s){g:aS}(aa:bO x=some g)
 {p v σ'}(y:n key=false)(h:aQ (.fldA (m.toNat*s) g) env σ key=some (p,v,σ'))(ar:p):b' P aA nt env σ' (ins n key) a v ((execOp a.eval o).run P w):=by
 simp only[aQ,bw]at h;obtain⟨⟨z,A⟩,r,he⟩:=h;simp at he;have j:a.eval (.const _)= .int i m:=rfl;have q:0<=m/\m<(k:Int):=⟨h0.1,by omega⟩
 have d:∀(b off:Nat),a.eval x= .pointer (some ⟨b,off,none⟩)->(execOp a.eval o).run P w= .ok (.value (.pointer (some ⟨b,off+m.toNat*s,none⟩))) w:=by
  intro b off e;have l:Addr.add ⟨b,off,none⟩ (m.toNat*s)=⟨b,off+m.toNat*s,none⟩:=by
   grind[Addr.add]
  simp only[execOp,t,e,j,Instr.indexAt,asIntOf,Instr.sureAddr,Sem.run_bind,run_underlying u,Result.andThen_ok,Sem.run_pure,ah q,ju hs,l]
 split at he<;>simp only[dW,reduceCtorEq]at he
 all_goals
  obtain⟨rfl,rfl,rfl⟩:=he;have av:=cI R aa r ar;have h1:=av.1.ea
 exact b'.pure R (d _ _ h1) (.c rfl) av.2;exact b'.pure R (d _ _ h1) (.c (by simp[bD,Nat.add_assoc])) av.2;obtain⟨blk,off,f,h1,ad⟩:=h1;exact b'.pure R (d _ _ h1) (.c ⟨blk,off,f,by grind,ad⟩) av.2
theorem acr(R:Rel aA nt φ S env σ n a w){ty:TypeId}{i:ag Operand}(A:o.op= .slice ty x j i none){k:Nat}(G:P.underlying ty=some (.array k e))(F:ev P e=some 1)
 {g:aS}{f d:ag aS}(aa:bO x=some g)(z:kC j=some f)(y:kC i=some d)
 {p v σ'}(M:n key=false)(h:aQ (.slcP k g f d) env σ key=some (p,v,σ'))(ar:p):b' P aA nt env σ' (ins n key) a v ((execOp a.eval o).run P w):=by
 simp only[aQ,bw]at h;obtain⟨⟨Q,T⟩,u,⟨pl,l⟩,t,⟨O,h⟩,s,he⟩:=h;simp at he;split at he
 . rename_i b;obtain⟨rfl,rfl,rfl⟩:=he;obtain⟨B,D,E,h0,h1,m⟩:=ar;have av:=cI R aa u B;have I:=av.1.hr;have ak:=rB R z t D;have ad:=rB R y s E;have r:=Ec (P:=P) (w:=w) (isSlice:=false) ak ad h0 h1 m (ek _);generalize K:(l.getD 0).toNat=L at*;generalize J:(h.getD _).toNat=H at*;have q:Addr.add ⟨(φ b).1,0,none⟩ (L*1)=⟨(φ b).1,L*1,none⟩:=by
    unfold Addr.add;split;grind;simp
   refine b'.pure R (x:= .slice (some (if k=L then⟨(φ b).1,0,none⟩else(Addr.add ⟨(φ b).1,0,none⟩ (L*1)))) _ (k-L)) ?_ (.c ⟨_,_,rfl,?_,by omega⟩) (by simpa[V.aK,C.aK]using av.2)
   simp[execOp,A,Instr.sliceAt,Instr.sureAddr,underlying,G,I,r,ju F];intro N;rw[cb,q]
 grind
theorem acs{s:aq}(a:bytesOf es=some s):∀{xs:I Value},(∀(i:Nat) t,es[i]?=some [t]->∃v,xs[i]?=some v/\b6 w S t v)->xs.length=es.length->
 ∃b:az,xs=b.map (Value.int .u8)/\s=b.map λm=>UInt8.ofNat m.toNat:=by
 induction es generalizing s with
 |nil=>simp_all[bytesOf]
 |cons e es ih=>
  intro xs c ak;unfold bytesOf at a;split at a;grind
  . rename_i m r f;cases f;simp at a;obtain⟨s',j,rfl⟩:=a;cases xs with
    |nil=>grind
    |cons x xs=>
     obtain⟨v,d,g⟩:=c 0 _ rfl;simp at d;subst d;cases g;obtain⟨b,rfl,rfl⟩:=ih j (λi t k=>by simpa using c (i+1) t (by grind)) (by grind);exact⟨m::b,rfl,rfl⟩
  grind
theorem acu(a:az):∀(s:ByteArray),(a.foldl (λr m=>r.push (UInt8.ofNat m.toNat)) s).data.toList=s.data.toList++a.map λm=>UInt8.ofNat m.toNat:=by
 induction a<;>simp_all
theorem Mo{s:aq}(a:bytesOf es=some s):∀(i:Nat) e,es[i]?=some e->∃t,e=[t]:=by
 induction es generalizing s with
 |nil=>simp
 |cons dp es ih=>
  unfold bytesOf at a;grind[bF]
theorem EL{g c:TypeId}(hs:P.underlying g=some (.slice e))(he:P.underlying e=some (.int .u8))(k:P.underlying c=some .string){str:aq}{a:ag Addr}{len cap b:Nat}
 (ak:es.length=len)(f:bytesOf es=some str)(s:len≠0->a=some ⟨b,off,none⟩)(u:∀(i:Nat) t,es[i]?=some [t]->∃v,w.cell? ⟨b,off+i,none⟩=some v/\b6 w S t v):
 ∃bs:ByteArray,(convert g c (.slice a len cap)).run P w= .ok (.string bs) w/\bs.data.toList=str:=by
 rw[run_convert_bytes_string w _ _ e a _ _ hs he k];by_cases h0:len=0
 . have m:es=[]:=j3 (by omega);subst m;simp[bytesOf]at f;cases a with
   |none=>simp_all[Conv.bytesToString]
   |some a0=>
    simp_all[run_bytesToString,loadCells,loadCellsFrom]
 . have aa:∀i,i<len->∃t v,es[i]?=some [t]/\w.cell? ⟨b,off+i,none⟩=some v/\b6 w S t v:=by
    intro i n;have h1:=e0 (l:=es) (i:=i) (by omega);grind[Mo]
   have av:∀i,i<len->((List.range len).map λi=>(w.cell? ⟨b,off+i,none⟩).getD undef)[i]?=w.cell? ⟨b,off+i,none⟩:=(by grind);obtain⟨p,h1,q⟩:=acs (w:=w) (S:=S) f (xs:=(List.range len).map λi=>(w.cell? ⟨b,off+i,none⟩).getD undef) (λi t n=>by grind) (by grind);have d:=A8 (P:=P) (by simp) (λj o=>(av j o).symm);rw[h1]at d;have r:=run_bytesToString w _ _ cap p d;simp_all[acu]
theorem HX:∀{es:I (I T)} {s:aq},bytesOf es=some s->s.length=es.length
 |[],s,h=>by grind[bytesOf]
 |e::es,s,h=>by
  unfold bytesOf at h;split at h;grind;rename_i m r a;cases a;simp at h;obtain⟨s',b,rfl⟩:=h;simp[HX b];grind
theorem ad9(R:Rel aA nt φ S env σ n a w){A r:TypeId}(ab:o.op= .convert A r x)(hs:P.underlying A=some (.slice e))(he:P.underlying e=some (.int .u8))(u:P.underlying r=some .string){D:aS}(aa:bO x=some D)
 {p v σ'}(Y:n key=false)(h:aQ (.b2s D) env σ key=some (p,v,σ'))(ar:p):b' P aA nt env σ' (ins n key) a v ((execOp a.eval o).run P w):=by
 simp only[aQ,bw,bF,eg]at h;obtain⟨⟨al,am⟩,H,⟨q,str⟩,g,rfl,rfl,rfl⟩:=h;obtain⟨Q,y⟩:=ar;have av:=cI R aa H Q
 suffices ad:∃d len cap,a.eval x= .slice d len cap/\str.length<=dB/\∃bs:ByteArray,(convert A r (.slice d len cap)).run P w= .ok (.string bs) w/\bs.data.toList=str by
  obtain⟨d,len,cap,h1,F,bs,K,G⟩:=ad;have O:bs.size<=eS:=by grind[xf,dB,eS]
  refine b'.pure R (x:= .string bs) ?_ (.c ?_) rfl
  simp_all[execOp];rw[<-G];exact .str bs O
 have z:∀ (b off len:Nat) (es:I (I T)) (d:ag Addr) (cap:Nat),aV σ b = some (.arr 1 es)->off+len<=es.length->bytesOf ((es.drop off).take len) = some str->(len≠0->d = some ⟨(φ b).1,off*1,none⟩)->((φ b).2≠0\/len = 0)->a.eval x = .slice d len cap->
  ∃d len cap,a.eval x= .slice d len cap/\str.length<=dB/\∃bs:ByteArray,(convert A r (.slice d len cap)).run P w= .ok (.string bs) w/\bs.data.toList=str:=by
  intro b off len es d cap N J j M h0 C;obtain⟨h1,F,K,G,L⟩:=R.bS.blk b _ N;have ak:((es.drop off).take len).length=len:=by grind
  refine⟨d,len,cap,C,by grind[HX],?_⟩;refine EL (S:=S) hs he u ak j M ?_;intro i t m;rw[zr]at m;split at m
  . rw[List.getElem?_drop]at m;rcases h0 with h0|h0
    obtain⟨vs,E,ad,aj,U,_⟩:=L h0;obtain⟨v,ah,ai⟩:=U _ 0 _ t m rfl;grind[jd];grind
  grind
 dsimp only at g H av;unfold nZ at g;split at g
 . rename_i es;simp only[bF,eg]at g;obtain⟨s,j,rfl,rfl⟩:=g;obtain⟨d,cap,sz,b,off,f,h1,W,Z,af,k,V,C⟩:=b6.jI av.1.ea;refine⟨d,es.length,cap,h1,by grind[HX],?_⟩;by_cases B:es=[]
   subst B;exact EL (S:=S) (b:=0) (off:=0) hs he u rfl j (by simp) (by simp)
   . have ae:sz=1:=by
      obtain⟨dp,X⟩:=C5 es B;grind[List.mem_iff_getElem?,Mo]
     refine EL (S:=S) (b:=b) (off:=off) hs he u rfl j (λ_=>k B) ?_;intro i t m;exact⟨f i 0,by grind,C i 0 _ t m rfl⟩
 cases g;obtain⟨d,h1⟩:=av.1.ea;exact⟨d,0,0,h1,by simp,EL (S:=S) (es:=[]) (b:=0) (off:=0) hs he u rfl rfl (by simp) (by simp)⟩
 . rename_i b off len;split at g
   . rename_i es l;simp only[bF,eg]at g;obtain⟨s,j,rfl,rfl⟩:=g;obtain⟨d,h1,k,J⟩:=bD.hA av.1.ea;by_cases h0:(φ b).2=0
     exact z b off len es d _ l y j (λh=>by omega) (.inr (by omega)) h1;exact z b off len es d _ l y j (λ_=>k h0) (.inl h0) h1
   cases g
 . rename_i b off len;split at g
   . rename_i es l;simp only[bF,eg]at g;obtain⟨s,j,rfl,rfl⟩:=g;obtain⟨d,cap,h1,k,J⟩:=av.1.ea;obtain⟨F,_⟩:=R.bS.blk b _ l;by_cases h0:len=0
     exact z b off len es d _ l y j k (.inr h0) h1;exact z b off len es d _ l y j k (.inl (by omega)) h1
   cases g
 cases g
end
end
end Go.Proofs.YtopcfbelfjclmaaGreatDoor.Shv
