/- The library of this proof, part A: an abstract machine for the code of the program, and its soundness. -/
import Derived.LoopN
import Derived.Calls
import Derived.Laws.Sem
import Derived.Laws.World
import Derived.Laws.Cells
import Derived.Below
import Derived.Laws.Strings
import Derived.Laws.StructEq
import Derived.Laws.BytesString

namespace Go.Proofs.YtkbmjabicjpmjaaGreatDoor.Shv
set_option linter.all false
abbrev I.{u}:Type u→Type u:=List
abbrev ai.{u}:Type u→Type u:=Option
abbrev J:Type:=Bool
abbrev au:=I UInt8
abbrev az:=I Int
abbrev bb:=I Nat
section
def ag:=@if_pos
def aq:=@if_neg
def cm:=@Bool.false_eq_true
def ev:=@List.getElem?_eq_some_iff
def e2:=@Option.ite_none_right_eq_some
def dr:=@Bool.and_eq_true
def ea:=@List.length_append
def fm:=@List.getElem?_eq_getElem
def eo:=@Option.some.injEq
def fA:=@List.drop_eq_nil_of_le
def cw:=@if_false
def cg:=@if_true
def dz:=@decide_false
def di:=@decide_true
def dX:=@Bool.not_true
def fG:=@Nat.mul_le_mul_right
def fQ:=@List.mem_of_getElem?
def fH:=@Int.toNat_natCast
def eB:=@Prod.mk.injEq
def fk:=@List.mem_cons
def gF:=@List.all_eq_true
def gP:=@decide_eq_true_eq
def dN:=@congrArg
def gj:=@List.mem_append
def hE:=@List.getElem_of_mem
def eC:=@cond_false
def fl:=@List.mem_map
def ko:=@List.eq_nil_of_length_eq_zero
def fY:=@Bool.not_false
def hf:=@List.flatMap_cons
def e':=@Nat.le_refl
def gk:=@List.drop_zero
def hx:=@of_decide_eq_true
def ee:=@Ne.symm
def fe:=@cond_true
def lp:=@Option.bind_eq_some_iff
def ia:=@decide_eq_true
def j0:=@Nat.lt_of_lt_of_le
def hF:=@Nat.le_trans
def iY:=@List.nil_append
def mK:=@List.drop_eq_getElem_cons
def iZ:=@List.length_set
def j1:=@List.append_assoc
def kP:=@beq_eq_false_iff_ne
def kp:=@List.contains_nil
def kQ:=@List.pairwise_cons
def iy:=@Nat.zero_add
def i':=@Bool.or_false
def lq:=@List.contains_cons
def kR:=@List.length_cons
def qO:=@Decidable.byContradiction
def o8:=@Option.map_eq_some_iff
def ja:=@Nat.add_mul
def o9:=@List.drop_of_length_le
def nQ:=@List.mem_singleton
def nR:=@Int.emod_lt_of_pos
def lW:=@Bool.or_eq_true
def mL:=@List.length_drop
def jl:=@beq_iff_eq
def j2:=@Nat.zero_le
def nS:=@List.pairwise_map
def mM:=@Option.map_some
def o':=@Option.some.inj
def vh:=@List.pairwise_iff_getElem
def qP:=@List.length_pos_iff
def qQ:=@List.getD_cons_zero
def nT:=@List.append_nil
def nU:=@Int.emod_nonneg
def pa:=@Nat.mod_eq_of_lt
def mN:=@Bool.true_and
def xQ:=@List.getElem?_append_left
def pb:=@List.length_nil
def xR:=@List.mem_of_find?_eq_some
def vi:=@Nat.le_of_ble_eq_true
def qR:=@Option.getD_some
def nV:=@List.all_cons
def sP:=@List.getElem?_map
def qS:=@List.foldl_cons
def vj:=@List.getD_cons_succ
def xS:=@List.take_of_length_le
def zB:=@Array.getElem?_eq_some_iff
def zC:=@List.getElem?_append_right
def sQ:=@List.length_map
def zD:=@Option.isSome_iff_exists
def xT:=@Bool.or_eq_false_iff
def xU:=@BitVec.ofInt_natCast
def xV:=@List.mem_iff_getElem
def xW:=@Nat.pow_le_pow_right
def pc:=@Bool.true_or
def zE:=@Bool.eq_false_or_eq_true
def qT:=@List.map_cons
def Dr:=@Option.ite_none_left_eq_some
def vk:=@List.length_take
def vl:=@List.mem_filter
def vm:=@decide_eq_false
def sR:=@Bool.and_true
def xX:=@List.ext_getElem?
def Ds:=@List.exists_mem_of_ne_nil
def zF:=@List.mem_of_mem_take
def Dt:=@List.mem_or_eq_of_mem_set
def C':=@Array.getElem?_eq_getElem
def vd:=@List.drop_drop
def xI:=@List.cons_append
def xJ:=@List.any_eq_true
def Da:=@List.getElem?_cons_zero
def Db:=@List.getElem?_cons_succ
def Dc:=@Int.eq_ofNat_of_zero_le
def zt:=@List.getElem?_take
def xK:=@List.map_append
def xL:=@Nat.not_lt_zero
def zu:=@BitVec.toNat_ofNat
def Ho:=@List.find?_eq_some_iff_getElem
def Dd:=@Bool.not_eq_true'
def ve:=@Nat.add_zero
def vf:=@Nat.le_of_eq
def De:=@List.getElem?_toArray
def xM:=@List.nodup_nil
def Hp:=@Array.getElem?_setIfInBounds
def xN:=@Int.toNat_zero
def xO:=@Int.mul_nonneg
def qN:=@and_false
def zv:=@List.getElem_mem
def zw:=@Nat.le_of_not_lt
def zx:=@List.range'_succ
def Df:=@List.getElem?_zipIdx
def Hq:=@List.getD_eq_getElem?_getD
def Hr:=@Int.tdiv_eq_ediv_of_nonneg
def Dg:=@Array.length_toList
def Dh:=@Array.toList_modify
def Hs:=@List.eq_of_mem_replicate
def Ht:=@Nat.le_mul_of_pos_right
def Hu:=@decide_eq_false_iff_not
def Di:=@List.getElem?_set
def Dj:=@List.foldl_append
def xP:=@Nat.le_succ
def Hv:=@List.length_eq_one_iff
def Dk:=@List.ext_getElem
def Dl:=@Bool.cond_eq_ite
def Hw:=@Array.getElem?_modify
def Hx:=@Array.getElem?_toList
def Hy:=@List.mem_append_right
def Hz:=@List.take_append_drop
def HA:=@List.mem_iff_getElem?
def HB:=@List.mem_of_mem_drop
def zy:=@exists_false
def Wh:=@List.eq_nil_iff_forall_not_mem
def HC:=@List.mem_cons_of_mem
def HD:=@List.pairwise_append
def Dm:=@List.find?_some
def HE:=@List.flatMap_append
def HF:=@List.mem_map_of_mem
def vg:=@and_true
def Dn:=@UInt8.toNat_lt
def Dp:=@Int.mul_le_mul
def zz:=@Nat.mul_one
def HG:=@List.mem_filterMap
def HH:=@List.mem_cons_self
def HI:=@List.filter_append
def HJ:=@not_false_eq_true
def HK:=@Array.toList_push
def zA:=@Nat.mod_lt
def Dq:=@Nat.zero_mul
variable{c:Prop}{α a:Type}{R:α->a->Prop}
theorem jE{h:Decidable c}(a:c:=by omega){α:Sort _}{t e:α}:ite c t e=t:=if_pos a
theorem c'{h:Decidable c}(a:c:=by simp;omega){α:Sort _}{t e:α}:ite c t e=t:=if_pos a
theorem jY{h:Decidable c}(a:c:=by simp){α:Sort _}{t e:α}:ite c t e=t:=if_pos a
theorem b9{h:Decidable c}(a:¬c:=by omega){α:Sort _}{t e:α}:ite c t e=e:=if_neg a
theorem eF{h:Decidable c}(a:¬c:=by simp;omega){α:Sort _}{t e:α}:ite c t e=e:=if_neg a
theorem cN{h:Decidable c}(a:¬c:=by simp){α:Sort _}{t e:α}:ite c t e=e:=if_neg a
theorem bL{α:Type _}{b:α}{c:Type _}{x:ai c}{f:c->α}:Option.map f x=some b↔∃a,x=some a/\f a=b:=o8
theorem bz{α:Type _}{b:α}{c:Type _}{x:ai c}{f:c->ai α}:x.bind f=some b↔∃a,x=some a/\f a=some b:=lp
theorem ay{α:Type _}{b:Type _}(a:α)(f:α->ai b):(some a).bind f=f a:=Option.bind_some ..
theorem a7.{u}{α a:Type u}:(bind:ai α->(α->ai a)->ai a)=Option.bind:=Option.bind_eq_bind
open Go
inductive T where
 |bool (b:Bool)
 |int (k:IntKind)(n:Int)
 |str (s:au)
 |slice (es:List (List T))
inductive C where
 |t (x:T)
 |ptr (b o:Nat)
 |c9 (b sz i o:Nat)
 |ep (ts:List T)(o:Nat)
 |arr (b sz off len:Nat)
 |gK (b sz off len:Nat)
 |mp (b:Nat)
 |eV (b:Nat)
 |cQ (b len:Nat)
 |bX
 |fN
 |fM
 |fn (f:Nat)(caps:bb)
 |dead
inductive V where
 |c (x:C)
 |agg (cs:List C)
 |bd (vs:List V)
inductive cd where
 |box (cs:List C)
 |arr (sz:Nat)(es:List (List T))
 |set (ks:List au)
 |buf (E:TypeId)(s:au)
 |cu (E:TypeId)(c:C)
 |cV (sz:Nat)(es:List (List T))(i o:Nat)(c:C)
abbrev dy:=Nat->Nat->Prop
abbrev dx:=Nat->Nat×Nat
def eT:Nat:=9223372036854775807
def dT:Nat:=281474976710656
inductive ca (w:World)(S:dy):T->Value->Prop
 |bool (b:Bool):ca w S (.bool b) (.bool b)
 |int (k:IntKind) (n:Int):ca w S (.int k n) (.int k n)
 |str (s:ByteArray) (h:s.size<=eT):ca w S (.str s.data.toList) (.string s)
 |slice (es:List (List T)) (a:Option Addr) (cap sz b o:Nat) (f:Nat->Nat->Value)
  (al7:es.length<=cap) (ama:es.length<=dT)
  (amg:∀e,e∈es->e.length=sz)
  (ze:es≠[]->a=some ⟨b,o,none⟩)
  (V3:∀i j,i<es.length->j<sz->S b (o+i*sz+j)/\w.cell? ⟨b,o+i*sz+j,none⟩=some (f i j))
  (V4:∀i j e t,es[i]?=some e->e[j]?=some t->ca w S t (f i j)):
  ca w S (.slice es) (.slice a es.length cap)
structure hj (w:World)(S:dy)(w':World)(bx:dy):Prop where
 sub:∀b j,S b j->bx b j
 cell:∀b j,S b j->w'.cell? ⟨b,j,none⟩=w.cell? ⟨b,j,none⟩
theorem hj.refl(w:World)(S:dy):hj w S w S:=⟨λ_ _ h=>h,λ_ _ _=>rfl⟩
theorem hj.trans{w S w' bx e c}(h:hj w S w' bx)(k:hj w' bx e c):hj w S e c:=
 ⟨λb j a=>k.sub b j (h.sub b j a),λb j a=>(k.cell b j (h.sub b j a)).trans (h.cell b j a)⟩
theorem ca.mono{w S w' bx}(m:hj w S w' bx){t v}(h:ca w S t v):ca w' bx t v:=by
 induction h with
 |bool b=>exact .bool b
 |int k n=>exact .int k n
 |str s h=>exact .str s h
 |slice es a cap sz b o f q x y p c A ih=>
  exact .slice es a _ sz b o f q x y p
   (λi j e g=>⟨m.sub _ _ (c i j e g).1,by rw[m.cell _ _ (c i j e g).1];grind⟩) ih
theorem ca.jG{w S t v}(h:ca w S t v):v.oneCell':=by cases h<;>rfl
def bG(φ:dx)(w:World)(S:dy):C->Value->Prop
 |.t x,v=>ca w S x v
 |.ptr b o,v=>v= .pointer (some ⟨(φ b).1,o,none⟩)
 |.c9 b sz i o,v=>v= .pointer (some ⟨(φ b).1,i*sz+o,none⟩)
 |.ep ts o,v=>∃ (blk off:Nat) (f:Nat->Value),v = .pointer (some ⟨blk,off+o,none⟩)/\
  ∀j t,ts[j]?=some t->S blk (off+j)/\w.cell? ⟨blk,off+j,none⟩=some (f j)/\ca w S t (f j)
 |.arr b sz off len,v=>∃a,v= .slice a len ((φ b).2-off)/\((φ b).2≠0->a=some ⟨(φ b).1,off*sz,none⟩)/\off+len<=(φ b).2
 |.gK b sz off len,v=>∃a cap,v= .slice a len cap/\(len≠0->a=some ⟨(φ b).1,off*sz,none⟩)/\len<=cap
 |.mp b,v=>v= .map (some (φ b).1)
 |.cQ b len,v=>len<=(φ b).2/\((φ b).2=0->v= .slice none 0 0)/\((φ b).2≠0->v= .slice (some ⟨(φ b).1,0,none⟩) len (φ b).2)
 |.eV b,v=>∃p,v= .pointer p/\((φ b).2≠0->p=some ⟨(φ b).1,0,none⟩)
 |.bX,v=>∃a,v= .slice a 0 0
 |.fN,v=>v= .pointer none
 |.fM,v=>v= .nilFunc
 |.fn f caps,v=>v= .func (.func f) #[] (caps.map λb=>Value.pointer (some ⟨(φ b).1,0,none⟩)).toArray
 |.dead,v=>v.oneCell'=true
theorem bG.jG{φ w S c v}(h:bG φ w S c v):v.oneCell':=by
 cases c with
 |t x=>exact ca.jG h
 |ep ts o=>obtain⟨_,_,_,rfl,_⟩:=h;rfl
 |arr b sz off len=>obtain⟨_,rfl,_⟩:=h;rfl
 |gK b sz off len=>obtain⟨_,_,rfl,_⟩:=h;rfl
 |eV b=>obtain⟨_,rfl,_⟩:=h;rfl
 |cQ b len=>
  by_cases h0:(φ b).2=0;rw[h.2.1 h0];rfl;rw[h.2.2 h0];rfl
 |bX=>obtain⟨_,rfl⟩:=h;rfl
 |dead=>exact h
 |_=>cases h;rfl
def C.aJ(n:Nat->J):C->J
 |.ptr b _=>n b
 |.c9 b _ _ _=>n b
 |.arr b _ _ _=>n b
 |.gK b _ _ _=>n b
 |.mp b=>n b
 |.eV b=>n b
 |.cQ b _=>n b
 |.fn _ caps=>caps.all λb=>n b
 |_=>true
def V.aJ(n:Nat->J):V->J
 |.c x=>x.aJ n
 |.agg cs=>cs.all (C.aJ n)
 |.bd vs=>V.d' n vs
where V.d' (n:Nat->J):I V->J
 |[]=>true
 |v::vs=>v.aJ n&&V.d' n vs
theorem bG.mono{φ bw:dx}{w S w' bx}(m:hj w S w' bx){n:Nat->J}(e:∀b,n b->bw b=φ b){c v}(a:c.aJ n)(h:bG φ w S c v):bG bw w' bx c v:=by
 cases c with
 |t x=>exact ca.mono m h
 |ptr b o=>grind[C.aJ,bG]
 |c9 b sz i o=>grind[C.aJ,bG]
 |ep ts o=>
  obtain⟨blk,off,f,rfl,ad⟩:=h;exact⟨blk,off,f,rfl,λj t ht=>⟨m.sub _ _ (ad j t ht).1,by rw[m.cell _ _ (ad j t ht).1];grind,ca.mono m (ad j t ht).2.2⟩⟩
 |arr b sz off len=>grind[C.aJ,bG]
 |gK b sz off len=>grind[C.aJ,bG]
 |mp b=>grind[C.aJ,bG]
 |eV b=>grind[C.aJ,bG]
 |cQ b len=>grind[C.aJ,bG]
 |bX=>exact h
 |fN=>exact h
 |fM=>exact h
 |fn f caps=>
  grind[bG,List.map_congr_left,C.aJ]
 |dead=>exact h
inductive bc {α β:Type}(R:α->β->Prop):List α->List β->Prop
 |nil:bc R [] []
 |cons {a b l m}:R a b->bc R l m->bc R (a::l) (b::m)
variable{e:Type}
theorem bc.imp{R R':α->e->Prop}{l m}(h:bc R l m)(k:∀a b,a∈l->R a b->R' a b):bc R' l m:=by
 induction h with
 |nil=>exact .nil
 |cons c _ ih=>exact .cons (k _ _ (by simp) c) (ih λa b f=>k a b (by grind))
theorem bc.length{l:I α}{m:I a}(h:bc R l m):l.length=m.length:=by
 induction h<;>grind
theorem bc.get{c:Type}{R:α->c->Prop}{l:I α}{m:I c}(h:bc R l m){i:Nat}{a:α}(e:l[i]?=some a):∃b,m[i]?=some b/\R a b:=by
 induction h generalizing i<;>grind
theorem bc.lX{c:Type}{R:α->c->Prop}:∀{l:I α} {m:I c},l.length=m.length->(∀(i:Nat) a b,l[i]?=some a->m[i]?=some b->R a b)->bc R l m
 |[],[],_,_=>.nil
 |[],_::_,h,_=>by grind
 |_::_,[],h,_=>by grind
 |a::l,b::m,h,k=>.cons (k 0 a b (by rfl) (by rfl)) (bc.lX (by grind) λi x y aa al=>k (i+1) x y (by grind) (by grind))
theorem bc.append{R:α->e->Prop}{l a:I α}{m c:I e}(h:bc R l m)(g:bc R a c):bc R (l++a) (m++c):=by
 induction h with
 |nil=>grind
 |cons f _ ih=>exact .cons f ih
theorem bc.drop{l:I α}{m:I a}(h:bc R l m)(k:Nat):bc R (l.drop k) (m.drop k):=by
 induction h generalizing k with
 |nil=>simp;exact .nil
 |cons c ht ih=>cases k with
  |zero=>exact .cons c ht
  |succ k=>grind
theorem bc.take{l:I α}{m:I a}(h:bc R l m)(k:Nat):bc R (l.take k) (m.take k):=by
 induction h generalizing k with
 |nil=>simp;exact .nil
 |cons c _ ih=>cases k with
  |zero=>exact .nil
  |succ k=>exact .cons c (ih k)
inductive ch (φ:dx)(w:World)(S:dy):V->Value->Prop
 |c {x v}:bG φ w S x v->ch φ w S (.c x) v
 |agg {cs vs}:bc (bG φ w S) cs vs->ch φ w S (.agg cs) (.agg vs.toArray)
 |bd (vs:List V) (xs:List Value) (ak:vs.length = xs.length) (h:∀ (i:Nat) v x,vs[i]? = some v->xs[i]? = some x->ch φ w S v x):
  ch φ w S (.bd vs) (.tuple xs.toArray)
theorem nG{n:Nat->J}:∀{vs:I V} {i:Nat} {v:V},V.aJ.V.d' n vs->vs[i]?=some v->v.aJ n=true
 |[],_,_,_,h=>by grind
 |x::vs,0,v,a,h=>by grind[V.aJ.V.d']
 |x::vs,i+1,v,a,h=>by simp[V.aJ.V.d']at a;exact nG a.2 (by simpa using h)
theorem ch.mono{φ bw:dx}{w S w' bx}(m:hj w S w' bx){n:Nat->J}(f:∀b,n b->bw b=φ b){x v}(o:V.aJ n x)(h:ch φ w S x v):ch bw w' bx x v:=by
 induction h with
 |c h=>exact .c (bG.mono m f (by grind[V.aJ]) h)
 |agg h=>exact .agg (h.imp λa b j g=>bG.mono m f (by grind[V.aJ]) g)
 |bd vs xs ak h ih=>exact .bd vs xs ak λi v x e aa=>ih i v x e aa (nG (by grind[V.aJ]) e)
end
section
open Go
inductive aV where
 |tmp (t:Nat)
 |const (v:V)
inductive db where
 |mov (x:aV)
 |pick (c x y:aV)
 |alloc (cs:List C)
 |box (x:aV)
 |build (zero:List C)(parts:List (Nat×Nat×aV))
 |bslice (sz:Nat)(len:Nat)(zero:List C)(parts:List (Nat×aV))
 |load (agg:Bool)(n:Nat)(x:aV)
 |store (n:Nat)(x v:aV)
 |nilCheck (x:aV)
 |bin (op:BinOp)(x y:aV)
 |eqAgg (neg:Bool)(ks:bb)(x y:aV)
 |eqBool (neg:Bool)(x y:aV)
 |eqNil (neg:Bool)(x:aV)
 |not (x:aV)
 |conv (k:IntKind)(x:aV)
 |i2s (x:aV)
 |s2s (x:aV)
 |fldA (off:Nat)(x:aV)
 |fld (agg:Bool)(off n:Nat)(x:aV)
 |idxA (sz:Nat)(x i:aV)
 |idxS (x i:aV)
 |slcS (x:aV)(o6 G':Option aV)
 |slc (sz:Nat)(x:aV)(o6 G':Option aV)
 |slc0 (x:aV)
 |allocA (cs:List C)
 |idxP (n:Nat)(x i:aV)
 |idxV (n:Nat)(x i:aV)
 |mslice (sz bytes:Nat)(zero:List C)(x:aV)
 |slcP (n:Nat)(x:aV)(o6 G':Option aV)
 |b2s (x:aV)
 |allocS (e e8:Nat)
 |bsliceT (e sz len:Nat)(zero:List C)(parts:List (Nat×aV))
 |mkset
 |lkset (x k:aV)
 |upset (x k:aV)
 |appendB (e bytes:Nat)(x y:aV)
 |sdata (x:aV)
 |ustr (e:Nat)(x n:aV)
 |mkfn (f:Nat)(caps:List aV)
 |ext (x:aV)(i:Nat)
 |len (str:Bool)(x:aV)
 |append (e sz bytes:Nat)(x y:aV)
 |max2 (x y:aV)
 |min2 (x y:aV)
 |call (f:Nat)(args:List aV)
 |iO (x:aV)(args:List aV)
structure cl where
 dst:Option Nat
 op:db
 guard:Option (Nat×Bool)
def Du:Value->ai C
 |.bool b=>some (.t (.bool b))
 |.int k n=>some (.t (.int k n))
 |.string s=>ite (s.size<=eT) (some (.t (.str s.data.toList))) none
 |.slice none 0 0=>some .bX
 |.pointer none=>some .fN
 |.nilFunc=>some .fM
 |.nilIface=>some .dead
 |_=>none
def xy:I Value->ai (I C)
 |[]=>some []
 |v::vs=>(Du v).bind λc=>(xy vs).map (c::·)
def Lq:Value->ai V
 |.agg cs=>(xy cs.toList).map .agg
 |v=>(Du v).map .c
def bT:Operand->ai aV
 |.tmp t=>some (.tmp t)
 |.const v=>(Lq v).map .const
 |.func f=>some (.const (.c (.fn f [])))
 |.global _=>none
def nW:I Operand->ai (I aV)
 |[]=>some []
 |x::xs=>(bT x).bind λa=>(nW xs).map (a::·)
def kS:ai Operand->ai (ai aV)
 |none=>some none
 |some x=>(bT x).map some
def kx(P:Program)(t:TypeId):ai (I C):=
 (P.info? t).bind λi=>i.zero.bind λz=>xy z.cells.toList
def ql(P:Program)(t:TypeId):ai J:=
 match P.underlying t with
 |some (.struct _)|some (.array _ _)=>some true
 |some _=>some false
 |none=>none
def eK(P:Program)(t:TypeId):ai Nat:=(P.info? t).map (·.size)
def nL(P:Program)(t:TypeId):ai (J×Nat):=
 (ql P t).bind λg=>(eK P t).bind λn=>ite (g=false->n=1) (some (g,n)) none
def h5(P:Program)(f:Nat):J:=
 match P.funcs[f]? with
 |some fn=>fn.body.isSome && !(fn.name == "runtime.NumGoroutine")
 |none=>false
def qK(P:Program)(t:TypeId):ai Nat:=
 match P.underlying t with
 |some .bool=>some 0
 |some (.int _)=>some 1
 |some .string=>some 2
 |_=>none
def Bb(P:Program):Nat->I Field->ai bb
 |_,[]=>some []
 |i,f::fs=>if f.offset = i/\f.name≠ "_" then (qK P f.type).bind λk=>(Bb P (i+1) fs).map (k :: ·) else none
def I1(P:Program)(t:TypeId):ai bb:=
 match P.underlying t with
 |some (.struct fs)=>ite (P.stoodInHeld t=false/\P.eqGuardType P.depth t=false) (Bb P 0 fs.toList) none
 |_=>none
def Lr(P:Program)(t:TypeId):ai bb:=
 match P.underlying t with
 |some (.array n e)=>ite (eK P e=some 1/\P.eqGuardType P.depth t=false) ((qK P e).map (List.replicate n)) none
 |_=>none
def Jc(P:Program)(fs:Array Field):J:=fs.toList.all λf=>(eK P f.type).isSome
def w3(P:Program)(fs:Array Field):I (Nat×Operand)->ai (I (Nat×Nat×aV))
 |[]=>some []
 |(j,x)::r=>(fs[j]?).bind λf=>(eK P f.type).bind λn=>(bT x).bind λa=>(w3 P fs r).map ((f.offset,n,a)::·)
def xZ(n:Nat):I (Nat×Operand)->ai (I (Nat×Nat×aV))
 |[]=>some []
 |(j,x)::r=>(bT x).bind λa=>(xZ n r).map ((j*n,n,a)::·)
def qd:I (Nat×Operand)->ai (I (Nat×aV))
 |[]=>some []
 |(j,x)::r=>(bT x).bind λa=>(qd r).map ((j,a)::·)
def nA(P:Program)(c:Call):ai db:=
 match c.callee with
 |.builtin .len=>match c.args.toList,c.argTypes.toList with
  |[x],[t]=>match P.underlying t with
   |some .string=>(bT x).map (.len true)
   |some (.slice _)=>(bT x).map (.len false)
   |_=>none
  |_,_=>none
 |.builtin .append=>match c.args.toList,c.argTypes.toList with
  |[x,y],[t,u]=>match P.underlying t,P.underlying u with
   |some (.slice e),some .string=>(P.info? e).bind λi=>(bT x).bind λa=>(bT y).bind λb=>
    ite (i.size=1/\(i.zero.map (·.cells.size))=some 1/\(match P.underlying e with|some (.int .u8)=>true|_=>false)=true) (some (.appendB e i.bytes a b)) none
   |some (.slice e),some (.slice _)=>(P.info? e).bind λi=>(bT x).bind λa=>(bT y).bind λb=>
    ite (i.size≠0/\(i.zero.map (·.cells.size))=some i.size) (some (.append e i.size i.bytes a b)) none
   |_,_=>none
  |_,_=>none
 |.builtin .max=>match c.args.toList with
  |[x,y]=>(bT x).bind λa=>(bT y).map λb=>.max2 a b
  |_=>none
 |.builtin .min=>match c.args.toList with
  |[x,y]=>(bT x).bind λa=>(bT y).map λb=>.min2 a b
  |_=>none
 |.builtin .unsafeSliceData=>match c.args.toList,c.argTypes.toList with
  |[x],[t]=>match P.underlying t with
   |some (.slice e)=>ite (eK P e=some 1) ((bT x).map .sdata) none
   |_=>none
  |_,_=>none
 |.builtin .unsafeString=>match c.args.toList,c.argTypes.toList with
  |[x,n],[t,_]=>match P.underlying t with
   |some (.pointer e)=>ite ((match P.underlying e with|some (.int .u8)=>true|_=>false)=true/\eK P e=some 1/\P.cellsOf e=1) ((bT x).bind λa=>(bT n).map λb=>.ustr e a b) none
   |_=>none
  |_,_=>none
 |.value (.func f)=>ite (h5 P f) ((nW c.args.toList).map (.call f)) none
 |.value (.tmp t)=>(nW c.args.toList).map (.iO (.tmp t))
 |_=>none
def ady(P:Program)(t:TypeId):J:=
 match P.info? t with
 |some i=>(match i.desc with|.named n _=>n == "strings.Builder" |_=>false)
 |none=>false
def MI:I Value->J
 |[.pointer none,.slice none 0 0]=>true
 |_=>false
def Q1(P:Program)(t:TypeId):J:=
 match (P.info? t).bind (·.zero)with
 |some z=>MI z.cells.toList
 |none=>false
def A3(P:Program)(t:TypeId):ai Nat:=
 ite (ady P t=true/\Q1 P t=true) (match P.underlying t with
  |some (.struct fs)=>(fs[1]?).bind λf=>match P.underlying f.type with
   |some (.slice e)=>some e
   |_=>none
  |_=>none) none
def u2(P:Program)(t:TypeId):J:=
 match P.underlying t with
 |some (.map k v)=>(match P.underlying k,P.underlying v with|some .string,some .bool=>true|_,_=>false)&&(match (P.info? v).bind (·.zero)with|some (.bool false)=>true|_=>false)
 |_=>false
def Jd:Operand->J
 |.const (.bool true)=>true
 |_=>false
def Kk:Operand->J
 |.const (.slice none 0 0)=>true
 |_=>false
def H':Operand->Operand->J
 |.tmp s,.tmp t=>s==t
 |_,_=>false
def du(P:Program)(o:Op):ai db:=
 match o with
 |.move x|.assign x=>(bT x).map .mov
 |.pick c a b=>(bT c).bind λc=>(bT a).bind λa=>(bT b).map λb=>.pick c a b
 |.alloc e=>match A3 P e with
  |some e8=>some (.allocS e e8)
  |none=>(kx P e).bind λcs=>match P.underlying e with
   |some (.array n t)=>if eK P t=some 1/\n=cs.length/\4<n/\n<=2^24 then some (.allocA cs)else some (.alloc cs)
   |_=>some (.alloc cs)
 |.box _ x=>(bT x).map .box
 |.build t parts=>match P.underlying t with
  |some (.struct fs)=>ite (Jc P fs) ((kx P t).bind λz=>(w3 P fs parts.toList).map λps=>.build z ps) none
  |some (.array _ e)=>(kx P t).bind λz=>(eK P e).bind λn=>(xZ n parts.toList).map λps=>.build z ps
  |_=>none
 |.buildSlice t len parts=>match P.underlying t with
  |some (.slice e)=>(eK P e).bind λn=>(kx P e).bind λz=>(qd parts.toList).bind λps=>
   ite (n≠0/\z.length=n/\len*n<=2^24) (some (.bslice n len z ps)) none
  |_=>none
 |.load t a=>(nL P t).bind λg=>(bT a).map λx=>.load g.1 g.2 x
 |.store t a v=>(eK P t).bind λn=>(bT a).bind λx=>(bT v).map λy=>.store n x y
 |.nilCheck x=>(bT x).map .nilCheck
 |.binOp op t x y _=>
  if op= .eql\/op= .neq then match P.underlying t with
   |some (.array _ _)=>(Lr P t).bind λks=>(bT x).bind λa=>(bT y).map λb=>.eqAgg (op== .neq) ks a b
   |some (.struct _)=>(I1 P t).bind λks=>(bT x).bind λa=>(bT y).map λb=>.eqAgg (op== .neq) ks a b
   |some (.slice _)=>ite (Kk y) ((bT x).map (.eqNil (op== .neq))) none
   |some .bool=>(bT x).bind λa=>(bT y).map λb=>.eqBool (op== .neq) a b
   |some (.int _)|some .string=>(bT x).bind λa=>(bT y).map λb=>.bin op a b
   |_=>none
  else(bT x).bind λa=>(bT y).map λb=>.bin op a b
 |.unOp .not _ x=>(bT x).map .not
 |.unOp .neg t x=>match P.underlying t with
  |some (.int k)=>(bT x).map (.bin .sub (.const (.c (.t (.int k 0)))))
  |_=>none
 |.unOp .xor t x=>match P.underlying t with
  |some (.int k)=>(bT x).map (.bin .xor (.const (.c (.t (.int k (if k.signed then -1 else k.max))))))
  |_=>none
 |.convert s d x=>match P.underlying s,P.underlying d with
  |some (.int _),some (.int k)=>(bT x).map (.conv k)
  |some (.int _),some .string=>(bT x).map .i2s
  |some .string,some .string=>(bT x).map .s2s
  |some (.slice e),some .string=>ite ((match P.underlying e with|some (.int .u8)=>true|_=>false)=true/\eK P e=some 1) ((bT x).map .b2s) none
  |_,_=>none
 |.fieldAddr t x f=>match P.underlying t with
  |some (.struct fs)=>(fs[f]?).bind λj=>(eK P j.type).bind λn=>if n=0 then none else(bT x).map (.fldA j.offset)
  |_=>none
 |.field t x f=>match P.underlying t with
  |some (.struct fs)=>(fs[f]?).bind λj=>(nL P j.type).bind λg=>(bT x).map (.fld g.1 j.offset g.2)
  |_=>none
 |.indexAddr t x i=>match P.underlying t with
  |some (.slice e)=>(eK P e).bind λn=>if n=0 then none else(bT x).bind λa=>(bT i).map λb=>.idxA n a b
  |some (.array n e)=>match i with
   |.const (.int _ m)=>ite (0<=m/\m.toNat<n) ((eK P e).bind λs=>(bT x).map (.fldA (m.toNat*s))) none
   |i=>ite (eK P e=some 1) ((bT x).bind λa=>(bT i).map λb=>.idxP n a b) none
  |_=>none
 |.index t x i=>match P.underlying t with
  |some .string=>(bT x).bind λa=>(bT i).map λb=>.idxS a b
  |some (.array n e)=>ite (nL P e=some (false,1)) ((bT x).bind λa=>(bT i).map λb=>.idxV n a b) none
  |_=>none
 |.slice t x q p r=>match P.underlying t with
  |some .string=>ite r.isNone ((bT x).bind λa=>(kS q).bind λl=>(kS p).map λh=>.slcS a l h) none
  |some (.slice e)=>match r with
   |none=>(eK P e).bind λn=>if n=0 then none else(bT x).bind λa=>(kS q).bind λl=>(kS p).map λh=>.slc n a l h
   |some (.const (.int _ 0))=>match q,p with
    |none,some (.const (.int _ 0))=>ite ((eK P e).isSome) ((bT x).map .slc0) none
    |_,_=>none
   |_=>none
  |some (.array n e)=>ite (r.isNone/\eK P e=some 1) ((bT x).bind λa=>(kS q).bind λl=>(kS p).map λh=>.slcP n a l h) none
  |_=>none
 |.makeFunc (.func f) first caps=>ite first.isEmpty ((nW caps.toList).map (.mkfn f)) none
 |.extract x i=>(bT x).map λa=>.ext a i
 |.makeSlice t x y=>match P.underlying t with
  |some (.slice e)=>ite (H' x y) ((P.info? e).bind λi=>(kx P e).bind λz=>ite (i.size≠0/\z.length=i.size) ((bT x).map (.mslice i.size i.bytes z)) none) none
  |_=>none
 |.makeMap t none=>ite (u2 P t) (some .mkset) none
 |.lookup t x i false=>ite (u2 P t) ((bT x).bind λa=>(bT i).map λb=>.lkset a b) none
 |.mapUpdate t m k v=>ite (u2 P t=true/\Jd v=true) ((bT m).bind λa=>(bT k).map λb=>.upset a b) none
 |.call c=>nA P c
 |_=>none
def tR(ops:Array Oper):ai (Nat×J)->ai (ai (Nat×J))
 |none=>some none
 |some (j,b)=>((ops[j]?).bind (·.dst)).map λd=>some (d,b)
def wA(d:Nat):Operand->J
 |.tmp t=>t==d
 |_=>false
def BK(d:Nat):Op->J
 |.call c=>match c.callee with
  |.builtin .append=>(c.args.toList.drop 1).any (wA d)
  |.value (.func _)=>c.args.toList.any (wA d)
  |_=>false
 |.build _ ps=>ps.toList.any λp=>wA d p.2
 |.buildSlice _ _ ps=>ps.toList.any λp=>wA d p.2
 |.convert _ _ x=>wA d x
 |.indexAddr _ x _=>wA d x
 |_=>false
def Ns(ops:Array Oper)(o:Oper):J:=
 match o.dst with
 |some d=>ops.toList.any λq=>BK d q.op
 |none=>false
def w4(P:Program)(a:J)(o:Op):ai db:=
 match o,a with
 |.buildSlice t len parts,true=>match P.underlying t with
  |some (.slice e)=>(eK P e).bind λn=>(kx P e).bind λz=>(qd parts.toList).bind λps=>
   ite (n≠0/\z.length=n/\len*n<=2^24) (some (.bsliceT e n len z ps)) none
  |_=>none
 |o,_=>du P o
def w0(P:Program)(nt:Nat)(ops:Array Oper)(o:Oper):ai cl:=
 (w4 P (Ns ops o) o.op).bind λp=>(tR ops o.guard).bind λg=>
  match o.dst with
  |none=>some ⟨none,p,g⟩
  |some d=>if d<nt then some ⟨some d,p,g⟩else none
def hJ(P:Program)(nt:Nat)(ops:Array Oper):I Oper->ai (I cl)
 |[]=>some []
 |o::r=>(w0 P nt ops o).bind λa=>(hJ P nt ops r).map (a::·)
inductive dY where
 |skip
 |region (ops:List cl)
 |pf (ops:List cl)(fq:List (Nat×Nat))
 |seq (a b:dY)
 |cond (c:aV)(x y:dY)
 |block (id:Nat)(b:dY)
 |loop (b:dY)
 |exit (id:Nat)
 |ret
def db.cG:db->J
 |.alloc _|.allocA _|.box _|.bslice .. |.mslice .. |.store .. |.append .. |.call .. |.iO .. |.eqNil .. =>false
 |.allocS .. |.mkset|.upset .. |.appendB .. |.ustr .. =>false
 |_=>true
def db.iL:db->J
 |.alloc _|.allocA _|.b2s _|.box _|.bslice .. |.mslice .. |.store .. |.append .. |.load .. =>true
 |.allocS .. |.mkset|.lkset .. |.upset .. |.appendB .. |.ustr .. |.call .. =>true
 |_=>false
def db.drawn:db->J
 |.eqNil .. =>false
 |_=>true
def aV.tmps:aV->bb
 |.tmp t=>[t]
 |.const _=>[]
def vc:ai aV->bb
 |none=>[]
 |some x=>x.tmps
def db.reads:db->bb
 |.mov x=>x.tmps
 |.pick c x y=>c.tmps++x.tmps++y.tmps
 |.alloc _|.allocA _=>[]
 |.box x=>x.tmps
 |.build _ ps=>ps.flatMap λp=>p.2.2.tmps
 |.bslice _ _ _ ps=>ps.flatMap λp=>p.2.tmps
 |.load _ _ x=>x.tmps
 |.store _ x v=>x.tmps++v.tmps
 |.nilCheck x=>x.tmps
 |.bin _ x y=>x.tmps++y.tmps
 |.eqAgg _ _ x y=>x.tmps++y.tmps
 |.eqBool _ x y=>x.tmps++y.tmps
 |.eqNil _ x=>x.tmps
 |.not x=>x.tmps
 |.conv _ x=>x.tmps
 |.i2s x=>x.tmps
 |.s2s x=>x.tmps
 |.fldA _ x=>x.tmps
 |.fld _ _ _ x=>x.tmps
 |.idxA _ x i=>x.tmps++i.tmps
 |.idxS x i=>x.tmps++i.tmps
 |.slcS x e a=>x.tmps++vc e++vc a
 |.slc _ x e a=>x.tmps++vc e++vc a
 |.slc0 x=>x.tmps
 |.b2s x=>x.tmps
 |.allocS .. |.mkset=>[]
 |.bsliceT _ _ _ _ ps=>ps.flatMap λp=>p.2.tmps
 |.lkset x k=>x.tmps++k.tmps
 |.upset x k=>x.tmps++k.tmps
 |.appendB _ _ x y=>x.tmps++y.tmps
 |.sdata x=>x.tmps
 |.ustr _ x k=>x.tmps++k.tmps
 |.idxP _ x i=>x.tmps++i.tmps
 |.idxV _ x i=>x.tmps++i.tmps
 |.mslice _ _ _ x=>x.tmps
 |.slcP _ x e a=>x.tmps++vc e++vc a
 |.mkfn _ caps=>caps.flatMap aV.tmps
 |.ext x _=>x.tmps
 |.len _ x=>x.tmps
 |.append _ _ _ x y=>x.tmps++y.tmps
 |.max2 x y=>x.tmps++y.tmps
 |.min2 x y=>x.tmps++y.tmps
 |.call _ args=>args.flatMap aV.tmps
 |.iO x args=>x.tmps++args.flatMap aV.tmps
def cl.rd(o:cl):bb:=o.op.reads++(match o.guard with|none=>[]|some (t,_)=>[t])
def h6(o:Oper):bb:=(o.after.toList.filter (Region.binds .any)).map (·.on)
def ahead(l:I (cl×bb))(j i:Nat):J:=(j<i:J)&&((l[i]?).map λx=>x.2.contains j).getD false
def E1:Nat->I (cl×bb)->J
 |_,[]=>true
 |i,x::r=>x.2.all (· < i)&&E1 (i+1) r
def WK(l:I (cl×bb)):J:=
 l.zipIdx.all λx=>l.zipIdx.all λy=>
  match y.1.1.dst with
  |none=>true
  |some d=>(!(x.1.1.rd.contains d)||ahead l y.2 x.2||(x.1.1.op.cG && !x.1.1.op.iL&&ahead l x.2 y.2))&&(x.2==y.2 || !(x.1.1.dst==some d))
def oi:I (cl×bb)->I bb->I bb
 |[],acc=>acc
 |x::r,acc=>oi r (acc++[(x.2++x.2.flatMap λe=>acc.getD e []).eraseDups])
def o1(a:I bb)(j i:Nat):J:=(j<i:J)&&(a.getD i []).contains j
def GR(a:I bb)(l:I (cl×bb)):I (Nat×Nat):=
 l.zipIdx.flatMap λx=>if x.1.1.op.cG then[]else l.zipIdx.filterMap λy=>
  ite (y.1.1.op.iL && !(x.2==y.2) && !(o1 a x.2 y.2) && !(o1 a y.2 x.2)) (some (x.2,y.2)) none
def lN(l:I (cl×bb)):I (Nat×Nat):=GR (oi l []) l
def Fz(l:I (cl×bb)):J:=(List.range (l.length-1)).all λi=>l.zipIdx.any λy=>(i<y.2:J)&&y.1.2.contains i
def uJ(l:I (cl×bb)):J:=E1 0 l&&WK l&&l.all λx=>x.1.op.drawn
def tn(l:I (cl×bb)):I (Nat×Nat):=
 if (2<=l.length:J)&&Fz l&&uJ l.dropLast then(l.length,0)::(lN l++lN l.dropLast)else lN l
def gn(ops:Array Oper)(bg:I cl):I (cl×bb):=bg.zip (ops.toList.map h6)
def resolve(P:Program)(nt:Nat):Code->ai dY
 |.skip=>some .skip
 |.region _ ops d=>(hJ P nt ops ops.toList).bind λbg=>
  if d then(ite (uJ (gn ops bg)&&P.follows .mixedOrders) (some (.pf bg (tn (gn ops bg)))) none)else some (.region bg)
 |.seq a b=>(resolve P nt a).bind λx=>(resolve P nt b).map λy=>.seq x y
 |.cond c a b=>(bT c).bind λo=>(resolve P nt a).bind λx=>(resolve P nt b).map λy=>.cond o x y
 |.block id b=>(resolve P nt b).map (.block id)
 |.loop b=>(resolve P nt b).map .loop
 |.exit id=>some (.exit id)
 |.ret=>some .ret
 |_=>none
abbrev Env:=I (Nat×J×V)
abbrev bh:=I (Nat×cd)
def look:Env->Nat->ai (J×V)
 |[],_=>none
 |(k,x)::r,i=>if k=i then some x else look r i
def aZ:bh->Nat->ai cd
 |[],_=>none
 |(k,x)::r,i=>if k=i then some x else aZ r i
def dA:bh->Nat->cd->bh
 |[],b,x=>[(b,x)]
 |(k,y)::r,b,x=>if k=b then(k,x)::r else(k,y)::dA r b x
def hS:bh->Nat->bh
 |[],_=>[]
 |(k,y)::r,b=>if k=b then hS r b else(k,y)::hS r b
theorem dk(σ:bh)(b:Nat)(x:cd)(i:Nat):aZ (dA σ b x) i=if b=i then some x else aZ σ i:=by
 induction σ with
 |nil=>rfl
 |cons y r ih=>
  obtain⟨k,y⟩:=y;by_cases a:k=b;grind[dA,aZ];simp[dA,aq a,aZ];grind
theorem gb(σ:bh)(b:Nat)(i:Nat):aZ (hS σ b) i=if b=i then none else aZ σ i:=by
 induction σ with
 |nil=>simp[hS,aZ]
 |cons y r ih=>
  obtain⟨k,y⟩:=y;by_cases a:k=b;grind[hS,aZ];simp[hS,aq a,aZ];grind
def aV.get(env:Env):aV->ai (Prop×V)
 |.const v=>some (True,v)
 |.tmp t=>(look env t).map λx=>(x.1=true,x.2)
def ix(env:Env):I aV->ai (Prop×I V)
 |[]=>some (True,[])
 |x::xs=>(x.get env).bind λa=>(ix env xs).map λb=>(a.1/\b.1,a.2::b.2)
def km(env:Env):ai aV->ai (Prop×ai Int)
 |none=>some (True,none)
 |some x=>(x.get env).bind λa=>match a.2 with
  |.c (.t (.int _ n))=>some (a.1,some n)
  |_=>none
def qm:V->ai (I C)
 |.c x=>some [x]
 |.agg cs=>some cs
 |.bd _=>none
def toT:C->ai T
 |.t x=>some x
 |.bX=>some (.slice [])
 |_=>none
def toTs:I C->ai (I T)
 |[]=>some []
 |c::cs=>(toT c).bind λt=>(toTs cs).map (t::·)
def el(es:I (I T))(i:Nat):I T:=es.getD i []
def wq(a:I C)(off:Nat)(cs:I C):I C:=a.take off++cs++a.drop (off+cs.length)
def lO(env:Env):I C->I (Nat×Nat×aV)->ai (Prop×I C)
 |c,[]=>some (True,c)
 |c,(off,n,x):: r=>(x.get env).bind λa=>(qm a.2).bind λcs=>
  ite (cs.length=n/\off+n<=c.length) ((lO env (wq c off cs) r).map λb=>(a.1/\b.1,b.2)) none
def kg(env:Env)(sz:Nat):I (I T)->I (Nat×aV)->ai (Prop×I (I T))
 |es,[]=>some (True,es)
 |es,(i,x):: r=>(x.get env).bind λa=>(qm a.2).bind λcs=>(toTs cs).bind λts=>
  ite (ts.length=sz/\i<es.length) ((kg env sz (es.set i ts) r).map λb=>(a.1/\b.1,b.2)) none
def rj:BinOp->T->T->ai (Prop×T)
 |.add,.int k a,.int c b=>ite (k=c) (some (True,.int k (k.wrap (a+b)))) none
 |.sub,.int k a,.int c b=>ite (k=c) (some (True,.int k (k.wrap (a-b)))) none
 |.mul,.int k a,.int c b=>ite (k=c) (some (True,.int k (k.wrap (a*b)))) none
 |.quo,.int k a,.int c b=>ite (k=c) (some (b≠0,.int k (k.wrap (a.tdiv b)))) none
 |.rem,.int k a,.int c b=>ite (k=c) (some (b≠0,.int k (a.tmod b))) none
 |.and,.int k a,.int c b=>ite (k=c) (some (True,.int k (k.wrap (BitVec.ofInt k.bits a &&& BitVec.ofInt k.bits b).toNat))) none
 |.or,.int k a,.int c b=>ite (k=c) (some (True,.int k (k.wrap (BitVec.ofInt k.bits a ||| BitVec.ofInt k.bits b).toNat))) none
 |.xor,.int k a,.int c b=>ite (k=c) (some (True,.int k (k.wrap (BitVec.ofInt k.bits a ^^^ BitVec.ofInt k.bits b).toNat))) none
 |.andNot,.int k a,.int c b=>ite (k=c) (some (True,.int k (k.wrap (BitVec.ofInt k.bits a &&& ~~~ BitVec.ofInt k.bits b).toNat))) none
 |.shl,.int k a,.int _ b=>some (0<=b,.int k (k.wrap (a*2^min b.toNat k.bits)))
 |.shr,.int k a,.int _ b=>some (0<=b,.int k (a.fdiv (2^min b.toNat k.bits)))
 |.eql,.int k a,.int c b=>ite (k=c) (some (True,.bool (a=b:J))) none
 |.neq,.int k a,.int c b=>ite (k=c) (some (True,.bool (!(a=b:J)))) none
 |.lss,.int k a,.int c b=>ite (k=c) (some (True,.bool (a<b:J))) none
 |.leq,.int k a,.int c b=>ite (k=c) (some (True,.bool (a<=b:J))) none
 |.gtr,.int k a,.int c b=>ite (k=c) (some (True,.bool (b<a:J))) none
 |.geq,.int k a,.int c b=>ite (k=c) (some (True,.bool (b<=a:J))) none
 |.add,.str a,.str b=>some (a.length+b.length<=eT,.str (a++b))
 |.eql,.str a,.str b=>some (True,.bool (a=b:J))
 |.neq,.str a,.str b=>some (True,.bool (!(a=b:J)))
 |.lss,.str a,.str b=>some (True,.bool (Op.bytesLess a b))
 |.leq,.str a,.str b=>some (True,.bool (Op.bytesLess a b||(a=b:J)))
 |.gtr,.str a,.str b=>some (True,.bool (!(Op.bytesLess a b||(a=b:J))))
 |.geq,.str a,.str b=>some (True,.bool (!(Op.bytesLess a b)))
 |_,_,_=>none
def y7:Nat->T->T->ai J
 |0,.bool a,.bool b=>some (a==b)
 |1,.int k a,.int c b=>ite (k=c) (some (a=b:J)) none
 |2,.str a,.str b=>some (a=b:J)
 |_,_,_=>none
def lU:bb->I C->I C->ai J
 |[],[],[]=>some true
 |k::ks,.t x::xs,.t y::a=>(y7 k x y).bind λb=>(lU ks xs a).map λr=>b&&r
 |_,_,_=>none
abbrev Ct:=ai (Prop×V×bh)
def loadT(agg:J)(n:Nat)(ts:I T)(o:Nat):ai V:=
 if agg then(ite (o+n<=ts.length) (some (.agg (((ts.drop o).take n).map .t))) none)else(ts[o]?).map λt=>.c (.t t)
def kn(agg:J)(n:Nat)(cs:I C)(o:Nat):ai V:=
 if agg then(ite (o+n<=cs.length) (some (.agg ((cs.drop o).take n))) none)else(cs[o]?).map .c
def h4:Nat:=281474976710656
def ki(n bytes:Nat):Prop:=(2*n+192)*bytes<=h4\/(n+n/4+512)*bytes<=h4
def l8(σ:bh):V->ai (I (I T)×ai Nat)
 |.c (.t (.slice a))=>some (a,none)
 |.c .bX=>some ([],none)
 |.c (.arr b d off len)=>match aZ σ b with
  |some (.arr e a)=>ite (d=e/\off=0/\len=a.length) (some (a,some b)) none
  |_=>none
 |_=>none
def bytesOf:I (I T)->ai au
 |[]=>some []
 |[.int .u8 m]::r=>(bytesOf r).map λs=>UInt8.ofNat m.toNat::s
 |_=>none
def oh(σ:bh):V->ai (Prop×au)
 |.c (.t (.slice es))=>(bytesOf es).map λs=>(True,s)
 |.c .bX=>some (True,[])
 |.c (.arr b 1 off len)=>match aZ σ b with
  |some (.arr 1 es)=>(bytesOf ((es.drop off).take len)).map λs=>(off+len<=es.length,s)
  |_=>none
 |.c (.gK b 1 off len)=>match aZ σ b with
  |some (.arr 1 es)=>(bytesOf ((es.drop off).take len)).map λs=>(off+len<=es.length,s)
  |_=>none
 |_=>none
def hr(ks:I au)(s:au):J:=ks.any λk=>(k=s:J)
def jr(ks:I au)(s:au):I au:=if hr ks s then ks else ks++[s]
def zH:I C->ai C
 |[.arr b sz off len]=>some (.arr b sz off len)
 |_=>none
def mS:V->V->ai (Nat×Nat×Nat×Nat×Nat×Nat×Nat)
 |.c (.arr b sz off len),.c (.gK a f e d)=>ite (b=a) (some (b,sz,off,len,f,e,d)) none
 |_,_=>none
def vZ(σ:bh)(n sz:Nat)(p q:Prop):Nat×Nat×Nat×Nat×Nat×Nat×Nat->Ct
 |(b,s1,off,len,e,d,a)=>match aZ σ b with
  |some (.arr f es)=>some (p/\q/\s1 = sz/\e = sz/\f = sz/\off = 0/\len+a<=es.length/\d+a<=es.length,
   .c (.arr n sz 0 (len+a)),dA (hS σ b) n (.arr sz (es.take len++(es.drop d).take a)))
  |_=>none
def aU(o:db)(env:Env)(σ:bh)(n:Nat):Ct:=
 match o with
 |.mov x=>(x.get env).map λa=>(a.1,a.2,σ)
 |.pick c x y=>(c.get env).bind λc=>(x.get env).bind λx=>(y.get env).bind λy=>
  match c.2,x.2,y.2 with
  |.c (.t (.bool b)),.c (.t (.bool p)),.c (.t (.bool q))=>
   some (c.1/\(b=true->x.1)/\(b=false->y.1),.c (.t (.bool (bif b then p else q))),σ)
  |_,_,_=>none
 |.alloc cs=>some (True,.c (.ptr n 0),dA σ n (.box cs))
 |.allocA cs=>(toTs cs).map λts=>(True,.c (.ptr n 0),dA σ n (.arr 1 (ts.map λt=>[t])))
 |.idxP k x i=>(x.get env).bind λa=>(i.get env).bind λj=>match a.2,j.2 with
  |.c (.ptr b 0),.c (.t (.int _ m))=>some (a.1/\j.1/\0<=m/\m.toNat<k,.c (.c9 b 1 m.toNat 0),σ)
  |_,_=>none
 |.idxV k x i=>(x.get env).bind λa=>(i.get env).bind λj=>match a.2,j.2 with
  |.agg cs,.c (.t (.int _ m))=>if cs.length=k then some (a.1/\j.1/\0<=m/\m.toNat<k,.c (cs.getD m.toNat .dead),σ)else none
  |_,_=>none
 |.mslice sz bytes z x=>(x.get env).bind λa=>(toTs z).bind λE=>match a.2 with
  |.c (.t (.int _ m))=>some (a.1/\0<=m/\m.toNat*bytes<=h4/\m.toNat<=dT,.c (.arr n sz 0 m.toNat),dA σ n (.arr sz (List.replicate m.toNat E)))
  |_=>none
 |.slcP k x A B=>(x.get env).bind λa=>(km env A).bind λl=>(km env B).bind λh=>match a.2 with
  |.c (.ptr b 0)=>
   let e:=h.2.getD k;let c:=l.2.getD 0
   some (a.1/\l.1/\h.1/\0<=c/\c<=e/\e<=k,.c (.gK b 1 c.toNat (e.toNat-c.toNat)),σ)
  |_=>none
 |.b2s x=>(x.get env).bind λa=>(oh σ a.2).map λr=>(a.1/\r.1,.c (.t (.str r.2)),σ)
 |.box x=>(x.get env).bind λa=>(qm a.2).map λcs=>(a.1,.c (.ptr n 0),dA σ n (.box cs))
 |.build z parts=>(lO env z parts).map λa=>(a.1,.agg a.2,σ)
 |.bslice sz len z parts=>(toTs z).bind λE=>(kg env sz (List.replicate len E) parts).map λa=>
  (a.1,.c (.arr n sz 0 len),dA σ n (.arr sz a.2))
 |.load agg k x=>(x.get env).bind λa=>match a.2 with
  |.c (.ptr b o)=>match aZ σ b with
   |some (.box cs)=>(kn agg k cs o).map λv=>(a.1,v,σ)
   |some (.cu _ c)=>if agg=false/\o=1 then some (a.1,.c c,σ)else none
   |_=>none
  |.c (.c9 b sz i o)=>match aZ σ b with
   |some (.arr g es)=>(loadT agg k (el es i) o).map λv=>(a.1/\sz=g/\i<es.length,v,σ)
   |some (.cV g es C D c)=>if agg then none else if o=D then some (a.1/\sz=g/\i=C,.c c,σ)else(loadT false k (el es i) o).map λv=>(a.1/\sz=g/\i<es.length,v,σ)
   |_=>none
  |.c (.ep ts o)=>(loadT agg k ts o).map λv=>(a.1,v,σ)
  |_=>none
 |.store k x v=>(x.get env).bind λa=>(v.get env).bind λd=>(qm d.2).bind λcs=>
  if cs.length=k then match a.2 with
   |.c (.ptr b o)=>match aZ σ b with
    |some (.box G)=>if o+k<=G.length then some (a.1/\d.1,.bd [],dA σ b (.box (wq G o cs)))else none
    |some (.cu e _)=>match o,cs with
     |1,[c]=>some (a.1/\d.1,.bd [],dA σ b (.cu e c))
     |_,_=>none
    |_=>none
   |.c (.c9 b sz i o)=>match aZ σ b with
    |some (.arr g es)=>match zH cs with
     |some c=>some (a.1/\d.1/\sz=g/\i<es.length/\o+k<=sz,.bd [],dA σ b (.cV g es i o c))
     |none=>(toTs cs).bind λts=>
      some (a.1/\d.1/\sz=g/\i<es.length/\o+k<=sz,.bd [],
       dA σ b (.arr g (es.set i ((el es i).take o++ts++(el es i).drop (o+k)))))
    |some (.cV g es C D H)=>match cs with
     |[c]=>if o=D then some (a.1/\d.1/\sz=g/\i=C,.bd [],dA σ b (.cV g es C D c))
      else(toT c).bind λt=>some (a.1/\d.1/\sz=g/\i<es.length/\o+k<=sz,.bd [],
       dA σ b (.cV g (es.set i ((el es i).take o++[t]++(el es i).drop (o+k))) C D H))
     |_=>none
    |_=>none
   |_=>none
  else none
 |.nilCheck x=>(x.get env).bind λa=>match a.2 with
  |.c (.ptr ..)|.c (.c9 ..)|.c (.ep ..)=>some (a.1,a.2,σ)
  |_=>none
 |.bin op x y=>(x.get env).bind λa=>(y.get env).bind λb=>match a.2,b.2 with
  |.c (.t p),.c (.t q)=>(rj op p q).map λr=>(a.1/\b.1/\r.1,.c (.t r.2),σ)
  |_,_=>none
 |.eqAgg neg ks x y=>(x.get env).bind λa=>(y.get env).bind λb=>match a.2,b.2 with
  |.agg p,.agg q=>(lU ks p q).map λr=>(a.1/\b.1,.c (.t (.bool (if neg then !r else r))),σ)
  |_,_=>none
 |.eqBool neg x y=>(x.get env).bind λa=>(y.get env).bind λb=>match a.2,b.2 with
  |.c (.t (.bool p)),.c (.t (.bool q))=>some (a.1/\b.1,.c (.t (.bool (if neg then !(p==q)else(p==q)))),σ)
  |_,_=>none
 |.not x=>(x.get env).bind λa=>match a.2 with
  |.c (.t (.bool b))=>some (a.1,.c (.t (.bool (!b))),σ)
  |_=>none
 |.conv k x=>(x.get env).bind λa=>match a.2 with
  |.c (.t (.int _ m))=>some (a.1,.c (.t (.int k (k.wrap m))),σ)
  |_=>none
 |.i2s x=>(x.get env).bind λa=>match a.2 with
  |.c (.t (.int _ m))=>some (a.1,.c (.t (.str (Utf8.encode m).data.toList)),σ)
  |_=>none
 |.s2s x=>(x.get env).bind λa=>match a.2 with
  |.c (.t (.str s))=>some (a.1,.c (.t (.str s)),σ)
  |_=>none
 |.fldA off x=>(x.get env).bind λa=>match a.2 with
  |.c (.ptr b o)=>some (a.1,.c (.ptr b (o+off)),σ)
  |.c (.c9 b sz i o)=>some (a.1,.c (.c9 b sz i (o+off)),σ)
  |.c (.ep ts o)=>some (a.1,.c (.ep ts (o+off)),σ)
  |_=>none
 |.fld agg off k x=>(x.get env).bind λa=>match a.2 with
  |.agg cs=>(kn agg k cs off).map λv=>(a.1,v,σ)
  |_=>none
 |.idxA sz x i=>(x.get env).bind λa=>(i.get env).bind λj=>match a.2,j.2 with
  |.c (.t (.slice es)),.c (.t (.int _ m))=>some (a.1/\j.1/\0<=m/\m.toNat<es.length/\(el es m.toNat).length=sz,.c (.ep (el es m.toNat) 0),σ)
  |.c (.arr b g off len),.c (.t (.int _ m))=>some (a.1/\j.1/\0<=m/\m.toNat<len/\sz=g,.c (.c9 b sz (off+m.toNat) 0),σ)
  |_,_=>none
 |.idxS x i=>(x.get env).bind λa=>(i.get env).bind λj=>match a.2,j.2 with
  |.c (.t (.str s)),.c (.t (.int _ m))=>some (a.1/\j.1/\0<=m/\m.toNat<s.length,.c (.t (.int .u8 (s.getD m.toNat 0).toNat)),σ)
  |_,_=>none
 |.slcS x A B=>(x.get env).bind λa=>(km env A).bind λl=>(km env B).bind λh=>match a.2 with
  |.c (.t (.str s))=>
   let b:=h.2.getD s.length;let c:=l.2.getD 0
   some (a.1/\l.1/\h.1/\0<=c/\c<=b/\b<=s.length,.c (.t (.str ((s.take b.toNat).drop c.toNat))),σ)
  |_=>none
 |.slc sz x A B=>(x.get env).bind λa=>(km env A).bind λl=>(km env B).bind λh=>match a.2 with
  |.c (.t (.slice es))=>
   let b:=h.2.getD es.length;let c:=l.2.getD 0
   some (a.1/\l.1/\h.1/\0<=c/\c<=b/\b<=es.length/\(∀e,e∈es->e.length=sz),.c (.t (.slice ((es.take b.toNat).drop c.toNat))),σ)
  |.c (.arr b g off len)=>
   some (a.1/\l.1/\h.1/\0<=l.2.getD 0/\l.2.getD 0<=h.2.getD len/\h.2.getD len<=len/\sz=g,
    .c (if A.isNone then .arr b g off (h.2.getD len).toNat else .gK b g (off+(l.2.getD 0).toNat) ((h.2.getD len).toNat-(l.2.getD 0).toNat)),σ)
  |_=>none
 |.slc0 x=>(x.get env).bind λa=>match a.2 with
  |.c (.t (.slice _))|.c .bX|.c (.arr ..)=>some (a.1,.c .bX,σ)
  |_=>none
 |.mkfn f caps=>(ix env caps).bind λa=>match tl a.2 with
  |some l=>some (a.1,.c (.fn f l),σ)
  |none=>none
 |.ext x i=>(x.get env).bind λa=>match a.2 with
  |.bd vs=>(vs[i]?).map λv=>(a.1,v,σ)
  |_=>none
 |.len str x=>(x.get env).bind λa=>match str,a.2 with
  |false,.c (.t (.slice es))=>some (a.1,.c (.t (.int .i64 es.length)),σ)
  |false,.c (.arr _ _ _ l)=>some (a.1,.c (.t (.int .i64 l)),σ)
  |false,.c .bX=>some (a.1,.c (.t (.int .i64 0)),σ)
  |false,.c (.cQ _ l)=>some (a.1,.c (.t (.int .i64 l)),σ)
  |true,.c (.t (.str s))=>some (a.1,.c (.t (.int .i64 s.length)),σ)
  |_,_=>none
 |.append te sz bytes x y=>(x.get env).bind λa=>(y.get env).bind λd=>
  match mS a.2 d.2 with
  |some r=>vZ σ n sz a.1 d.1 r
  |none=>
  (l8 σ d.2).bind λu=>
  match a.2 with
  |.c .bX=>some (a.1/\d.1/\(∀ e,e∈u.1->e.length = sz)/\ki u.1.length bytes/\u.1.length<=dT,
   .c (.arr n sz 0 u.1.length),dA σ n (.arr sz u.1))
  |.c (.arr b g off len)=>match aZ σ b with
   |some (.arr J es)=>
    if u.2=some b then none else some (a.1/\d.1/\g=sz/\J=sz/\off=0/\len=es.length/\(∀e,e∈u.1->e.length=sz)/\ki (es.length+u.1.length) bytes/\es.length+u.1.length<=dT,
     .c (.arr n sz 0 (len+u.1.length)),dA (hS σ b) n (.arr sz (es++u.1)))
   |_=>none
  |.c (.cQ b len)=>match aZ σ b with
   |some (.buf w es)=>(bytesOf u.1).map λs=>
    (a.1/\d.1/\w=te/\sz=1/\len=es.length/\u.1=s.map (λc=>[.int .u8 c.toNat])/\ki (es.length+s.length) bytes/\es.length+s.length<=dT,
     .c (.cQ n (len+s.length)),dA (hS σ b) n (.buf w (es++s)))
   |_=>none
  |_=>none
 |.max2 x y=>(x.get env).bind λa=>(y.get env).bind λb=>match a.2,b.2 with
  |.c (.t (.int k p)),.c (.t (.int F q))=>if k=F then some (a.1/\b.1,.c (.t (.int k (max p q))),σ)else none
  |_,_=>none
 |.min2 x y=>(x.get env).bind λa=>(y.get env).bind λb=>match a.2,b.2 with
  |.c (.t (.int k p)),.c (.t (.int F q))=>if k=F then some (a.1/\b.1,.c (.t (.int k (min p q))),σ)else none
  |_,_=>none
 |.allocS e e8=>some (True,.c (.ptr n 0),dA (dA σ (n+1) (.buf e8 [])) n (.cu e (.cQ (n+1) 0)))
 |.bsliceT _ sz len z parts=>(toTs z).bind λE=>(kg env sz (List.replicate len E) parts).map λa=>(a.1,.c (.t (.slice a.2)),σ)
 |.mkset=>some (True,.c (.mp n),dA σ n (.set []))
 |.lkset x k=>(x.get env).bind λa=>(k.get env).bind λd=>match a.2,d.2 with
  |.c (.mp b),.c (.t (.str s))=>match aZ σ b with
   |some (.set ks)=>some (a.1/\d.1,.c (.t (.bool (hr ks s))),σ)
   |_=>none
  |_,_=>none
 |.upset x k=>(x.get env).bind λa=>(k.get env).bind λd=>match a.2,d.2 with
  |.c (.mp b),.c (.t (.str s))=>match aZ σ b with
   |some (.set ks)=>some (a.1/\d.1,.bd [],dA σ b (.set (jr ks s)))
   |_=>none
  |_,_=>none
 |.appendB e bytes x y=>(x.get env).bind λa=>(y.get env).bind λd=>match a.2,d.2 with
  |.c (.cQ b len),.c (.t (.str s))=>match aZ σ b with
   |some (.buf w es)=>
    some (a.1/\d.1/\w=e/\len=es.length/\ki (es.length+s.length) bytes/\es.length+s.length<=dT,
     .c (.cQ n (len+s.length)),dA (hS σ b) n (.buf e (es++s)))
   |_=>none
  |_,_=>none
 |.sdata x=>(x.get env).bind λa=>match a.2 with
  |.c (.cQ b _)=>some (a.1,.c (.eV b),σ)
  |_=>none
 |.ustr e x k=>(x.get env).bind λa=>(k.get env).bind λd=>match a.2,d.2 with
  |.c (.eV b),.c (.t (.int .i64 m))=>match aZ σ b with
   |some (.buf w es)=>some (a.1/\d.1/\w=e/\m=es.length,.c (.t (.str es)),hS σ b)
   |_=>none
  |_,_=>none
 |.eqNil .. |.call .. |.iO .. =>none
where tl:I V->ai bb
 |[]=>some []
 |.c (.ptr b 0)::r=>(tl r).map (b::·)
 |_=>none
def B2(ks:I au)(es:I MapEntry):Prop:=bc (λk e=>e.key= .string ⟨k.toArray⟩/\e.val= .bool true) ks es
def dj(φ:dx)(w:World)(S:dy)(b:Nat):cd->Prop
 |.box cs=>(φ b).2≠0/\∃(vs:I Value) (E:TypeId),w.heap[(φ b).1]?=some (.cells vs.toArray E (0,0))/\bc (bG φ w S) cs vs/\∀j,¬S (φ b).1 j
 |.arr sz es=>es.length<=(φ b).2/\es.length<=dT/\(∀ e,e∈es->e.length = sz)/\0<sz/\
  ((φ b).2≠0->∃(vs:I Value) (E:TypeId),w.heap[(φ b).1]?=some (.cells vs.toArray E (0,0))/\vs.length=(φ b).2*sz/\
   (∀(i j:Nat) e t,es[i]?=some e->e[j]?=some t->∃v,vs[i*sz+j]?=some v/\ca w S t v)/\∀j,¬S (φ b).1 j)
 |.set ks=>(φ b).2≠0/\(∃(es:I MapEntry) (d:Nat),w.heap[(φ b).1]?=some (.map es.toArray d)/\B2 ks es)/\∀j,¬S (φ b).1 j
 |.buf E s=>s.length<=(φ b).2/\s.length<=dT/\
  ((φ b).2≠0->(∃vs:I Value,w.heap[(φ b).1]?=some (.cells vs.toArray E (0,0))/\vs.length=(φ b).2/\
   ∀(i:Nat) c,s[i]?=some c->vs[i]?=some (.int .u8 (UInt8.toNat c)))/\∀j,¬S (φ b).1 j)
 |.cu E c=>(φ b).2≠0/\(∃p v:Value,w.heap[(φ b).1]?=some (.cells #[p,v] E (0,0))/\(p= .pointer none\/p= .pointer (some ⟨(φ b).1,0,none⟩))/\bG φ w S c v)/\∀j,¬S (φ b).1 j
 |.cV sz es i o c=>(es.length<=(φ b).2/\es.length<=dT/\(∀ e,e∈es->e.length = sz)/\0<sz/\i<es.length/\o<sz)/\
  (∃(vs:I Value) (E:TypeId),w.heap[(φ b).1]?=some (.cells vs.toArray E (0,0))/\vs.length=(φ b).2*sz/\
   (∀(a j:Nat) e t,es[a]?=some e->e[j]?=some t->¬(a=i/\j=o)->∃v,vs[a*sz+j]?=some v/\ca w S t v)/\∃v,vs[i*sz+o]?=some v/\bG φ w S c v)/\∀j,¬S (φ b).1 j
structure rf (φ:dx)(w:World)(S:dy)(σ:bh):Prop where
 blk:∀b x,aZ σ b=some x->dj φ w S b x
 inj:∀b CG x y,aZ σ b=some x->aZ σ CG=some y->b≠CG->(φ b).2≠0->(φ CG).2≠0->(φ b).1≠(φ CG).1
 st:∀b j,S b j->b<w.heap.size
structure Ext (B:Nat->Prop)(S bx:dy)(w w':World):Prop where
 os:w'.os=w.os
 tape:w'.tape=w.tape
 output:w'.output=w.output
 size:w.heap.size<=w'.heap.size
 block:∀b:Nat,b<w.heap.size->¬B b->w'.heap[b]?=w.heap[b]?
 mono:hj w S w' bx
 l0:∀b j,bx b j->S b j\/B b\/w.heap.size<=b
def cd.aJ(n:Nat->J):cd->J
 |.box cs=>cs.all (C.aJ n)
 |.arr _ _=>true
 |.set _=>true
 |.buf _ _=>true
 |.cu _ c=>c.aJ n
 |.cV _ _ _ _ c=>c.aJ n
def ins(n:Nat->J)(k:Nat):Nat->J:=λb=>n b||b==k
structure Ctx where
 kV:World
 yJ:dy
 B:Nat->Prop
 Xs:dx
 k:Nat
structure Rel (aB:Ctx)(nt:Nat)(φ:dx)(S:dy)(env:Env)(σ:bh)(n:Nat->Bool)(a:Act)(w:World):Prop where
 b3:rf φ w S σ
 gY:∀(k:Nat) g v,look env k=some (g,v)->g=true->∃x,a.tmps[k]?=some x/\ch φ w S v x
 hL:∀(k:Nat) g v,look env k=some (g,v)->g=false->a.tmps[k]?=some undef
 gX:∀(k:Nat) g v,look env k=some (g,v)->g=true->v.aJ n=true
 ei:∀(b:Nat) x,aZ σ b=some x->n b/\x.aJ n=true
 size:a.tmps.size=nt
 defers:a.defers=[]
 ext:Ext aB.B aB.yJ S aB.kV w
 own:∀(b:Nat) x,aZ σ b=some x->(φ b).2≠0->aB.B (φ b).1\/aB.kV.heap.size<=(φ b).1
 fix:∀b:Nat,b<aB.k->φ b=aB.Xs b
 hv:∀b:Nat,b<aB.k->n b=true
variable{cS:Nat->J}{c:C}{v:Value}{x y:Operand}{p:Prop}{cs:I C}{o:Oper}{yt e E:TypeId}{f off:Nat}{fs:Array Field}{vs xs:I Value}{ts:I T}{w w':World}{g:J×Nat}{es:I (I T)}{j:ai Operand}{bw:dx}{σ':bh}{q:Nat×Nat}{α:Type}{R:T->Value->Prop}
section
variable {P:Program}{aB:Ctx}{nt:Nat}{φ:dx}{S:dy}{env:Env}{σ:bh}{n:Nat->J}{key:Nat}{a:Act}{w:World}
def cf(P:Program)(aB:Ctx)(nt:Nat)(env:Env)(σ':bh)(cS:Nat->J)(a:Act)(v:V)(r:Result Next):Prop:=
 ∃x bw bx w',(r= .ok (.value x) w'\/(r= .ok .skip w'/\x=undef))/\ch bw w' bx v x/\v.aJ cS/\Rel aB nt bw bx env σ' cS a w'
theorem afJ{n:Nat->J}{k:Nat}:ins n k k:=by simp[ins]
theorem ll{n:Nat->J}{k b:Nat}(h:n b):ins n k b:=by grind[ins]
theorem C.h8{n:Nat->J}(h:∀b,n b->cS b)(a:c.aJ n):c.aJ cS:=by
 cases c<;>simp[C.aJ]at*<;>first|exact h _ a|exactλb e=>h b (a b e)
theorem tS{n:Nat->J}:∀{vs:I V},(∀(i:Nat) v,vs[i]?=some v->v.aJ n)->V.aJ.V.d' n vs=true
 |[],_=>rfl
 |v::vs,h=>by
  simp[V.aJ.V.d'];exact⟨h 0 v rfl,tS λi v a=>h (i+1) v a⟩
theorem V.h8{n cS:Nat->J}(h:∀b,n b->cS b):∀{v:V},v.aJ n->v.aJ cS=true
 |.c x,a=>by grind[V.aJ,C.h8]
 |.agg cs,a=>by
  grind[V.aJ,C.h8]
 |.bd vs,a=>by
  exact go vs a
where go:∀vs,V.aJ.V.d' n vs->V.aJ.V.d' cS vs=true
 |[],_=>rfl
 |v::vs,a=>by
  simp[V.aJ.V.d']at a⊢;exact⟨V.h8 h a.1,go vs a.2⟩
theorem cd.h8{n:Nat->J}(h:∀b,n b->cS b){x:cd}(aa:x.aJ n):x.aJ cS:=by
 cases x with
 |box cs=>
  grind[cd.aJ,C.h8]
 |arr=>rfl
 |set=>rfl
 |buf=>rfl
 |cu E c=>grind[cd.aJ,C.h8]
 |cV sz es i o c=>grind[cd.aJ,C.h8]
theorem Rel.more(R:Rel aB nt φ S env σ n a w)(h:∀b,n b->cS b):Rel aB nt φ S env σ cS a w:=
 ⟨R.b3,R.gY,R.hL,λk g v ak av=>V.h8 h (R.gX k g v ak av),λb x aa=>⟨h b (R.ei b x aa).1,cd.h8 h (R.ei b x aa).2⟩,R.size,R.defers,R.ext,R.own,R.fix,λb c=>h b (R.hv b c)⟩
theorem cf.pure(R:Rel aB nt φ S env σ n a w){v:V}{x:Value}{r:Result Next}(e:r= .ok (.value x) w)(f:ch φ w S v x)(c:v.aJ n):
 cf P aB nt env σ (ins n key) a v r:=⟨x,φ,S,w,.inl e,f,V.h8 (λ_ h=>ll h) c,R.more λ_ h=>ll h⟩
theorem MJ(h:Du v=some c):bG φ w S c v/\c.aJ n:=by
 unfold Du at h;split at h<;>simp at h;subst h;exact⟨.bool _,rfl⟩;subst h;exact⟨.int _ _,rfl⟩;obtain⟨hs,rfl⟩:=h;exact⟨.str _ hs,rfl⟩;subst h;exact⟨⟨_,rfl⟩,rfl⟩;subst h;exact⟨rfl,rfl⟩;subst h;exact⟨rfl,rfl⟩;subst h;exact⟨rfl,rfl⟩
theorem I2:∀{vs:I Value} {cs:I C},xy vs=some cs->bc (bG φ w S) cs vs/\cs.all (C.aJ n)=true
 |[],cs,h=>by simp[xy]at h;subst h;exact⟨.nil,rfl⟩
 |v::vs,cs,h=>by
  simp[xy,bz,bL]at h;obtain⟨c,b,e,d,rfl⟩:=h;have h1:=MJ (φ:=φ) (w:=w) (S:=S) (n:=n) b;have a:=I2 d;exact⟨.cons h1.1 a.1,by grind⟩
theorem abx{a:V}(h:Lq v=some a):ch φ w S a v/\a.aJ n:=by
 unfold Lq at h;split at h;simp at h;obtain⟨l,ak,rfl⟩:=h;have:=I2 (φ:=φ) (w:=w) (S:=S) (n:=n) ak;refine⟨?_,by grind[V.aJ]⟩;have e:=ch.agg this.1;omega;simp at h;obtain⟨l,ak,rfl⟩:=h;have:=MJ (φ:=φ) (w:=w) (S:=S) (n:=n) ak;exact⟨.c this.1,by grind[V.aJ]⟩
theorem cK(R:Rel aB nt φ S env σ n a w){b:aV}(aa:bT x=some b){v:V}(h:b.get env=some (p,v))(ar:p):
 ch φ w S v (a.eval x)/\v.aJ n:=by
 cases x with
 |tmp t=>
  simp[bT]at aa;subst aa;simp only[aV.get,bL]at h;obtain⟨⟨g,d⟩,ak,he⟩:=h;obtain⟨rfl,rfl⟩:=he;obtain⟨y,al,i⟩:=R.gY t g d ak ar;refine⟨?_,R.gX t g d ak ar⟩;simp_all[Act.eval]
 |const c=>
  simp[bT]at aa;obtain⟨e,jX,rfl⟩:=aa;obtain⟨_,rfl⟩:=h;exact abx jX
 |global g=>grind[bT]
 |func f=>
  simp[bT]at aa;subst aa;obtain⟨_,rfl⟩:=h;exact⟨.c (by rfl),by rfl⟩
theorem rA(R:Rel aB nt φ S env σ n a w):∀{xs:I Operand} {bg:I aV} (_:nW xs=some bg) {p:Prop} {vs:I V} (_:ix env bg=some (p,vs)) (_:p),
 bc (ch φ w S) vs (xs.map a.eval)/\V.aJ.V.d' n vs=true
 |[],bg,aa,p,vs,h,ar=>by simp[nW]at aa;subst aa;obtain⟨_,rfl⟩:=h;exact⟨.nil,rfl⟩
 |x::xs,bg,aa,p,vs,h,ar=>by
  simp[nW,bz,bL]at aa;obtain⟨g,c,i,d,rfl⟩:=aa;simp only[ix,bz,bL]at h;obtain⟨⟨q,v⟩,e,⟨j,k⟩,f,he⟩:=h;obtain⟨rfl,rfl⟩:=he;have h1:=cK R c e ar.1;have b:=rA R d f ar.2;exact⟨.cons h1.1 b.1,by grind[V.aJ.V.d']⟩
theorem ch.jO{b:J}{x:Value}(h:ch φ w S (.c (.t (.bool b))) x):x= .bool b:=by cases h with|c h=>cases h;rfl
theorem ch.gh{k:IntKind}{m:Int}{x:Value}(h:ch φ w S (.c (.t (.int k m))) x):x= .int k m:=by cases h with|c h=>cases h;rfl
theorem ch.kU{s:au}{x:Value}(h:ch φ w S (.c (.t (.str s))) x):∃bs:ByteArray,x= .string bs/\bs.data.toList=s/\bs.size<=eT:=by cases h with|c h=>cases h<;>grind
theorem ch.hQ{b o:Nat}{x:Value}(h:ch φ w S (.c (.ptr b o)) x):x= .pointer (some ⟨(φ b).1,o,none⟩):=by cases h with|c h=>exact h
theorem ch.jB{b sz i o:Nat}{x:Value}(h:ch φ w S (.c (.c9 b sz i o)) x):x= .pointer (some ⟨(φ b).1,i*sz+o,none⟩):=by cases h with|c h=>exact h
theorem ch.mb{x:Value}(h:ch φ w S (.agg cs) x):∃vs:I Value,x= .agg vs.toArray/\bc (bG φ w S) cs vs:=by cases h<;>grind
theorem ch.et{x:Value}(h:ch φ w S (.c c) x):bG φ w S c x:=by cases h<;>grind
theorem ch.pC(b:J):ch φ w S (.c (.t (.bool b))) (.bool b):= .c (.bool b)
theorem ch.nO(k:IntKind)(m:Int):ch φ w S (.c (.t (.int k m))) (.int k m):= .c (.int k m)
theorem Ov(R:Rel aB nt φ S env σ n a w)(b:o.op= .move x\/o.op= .assign x){c:aV}(aa:bT x=some c)
 {p v σ'}(e:n key=false)(h:aU (.mov c) env σ key=some (p,v,σ'))(ar:p):cf P aB nt env σ' (ins n key) a v ((execOp a.eval o).run P w):=by
 simp only[aU,bL]at h;obtain⟨⟨q,u⟩,d,he⟩:=h;obtain⟨rfl,rfl,rfl⟩:=he;have av:=cK R aa d ar;refine cf.pure R ?_ av.1 av.2;rcases b with b|b<;>simp[execOp,b]
theorem abM(R:Rel aB nt φ S env σ n a w){c:Operand}(g:o.op= .pick c x y){ac d e:aV}(l:bT c=some ac)(aa:bT x=some d)(al:bT y=some e)
 {p v σ'}(s:n key=false)(h:aU (.pick ac d e) env σ key=some (p,v,σ'))(ar:p):cf P aB nt env σ' (ins n key) a v ((execOp a.eval o).run P w):=by
 simp only[aU,bz]at h;obtain⟨⟨t,C⟩,m,⟨u,D⟩,q,⟨z,E⟩,r,he⟩:=h;simp at he;split at he
 . rename_i b A B;obtain⟨rfl,rfl,rfl⟩:=he;obtain⟨h1,j,k⟩:=ar;have f:=(cK R l m h1).1.jO;cases b with
   |true=>
    have ex:=(cK R aa q (j rfl)).1.jO;exact cf.pure R (by simp[execOp,g,f,asBool,ex]) (.pC _) rfl
   |false=>
    have i:=(cK R al r (k rfl)).1.jO;exact cf.pure R (by simp[execOp,g,f,asBool,i]) (.pC _) rfl
 grind
theorem w8(b:ByteArray):b.data.toList.length=b.size:=by rfl
theorem abN{op:BinOp}{s t r:T}(h:rj op s t=some (p,r))(ar:p){ty:TypeId}{x y:Value}(aa:ca w S s x)(al:ca w S t y):
 ∃z,(binOp op ty x y).run P w= .ok z w/\ca w S r z:=by
 have c:∀a b:au,(a==b)=(a=b:J):=λa b=>by grind
 unfold rj at h;split at h<;>(first|simp only[e2,eo]at h|cases h)
 all_goals cases aa;cases al
 case h_1=>obtain⟨rfl,rfl,rfl⟩:=h;exact⟨_,by simp[binOp,Op.intArith],.int _ _⟩
 case h_2=>obtain⟨rfl,rfl,rfl⟩:=h;exact⟨_,by simp[binOp,Op.intArith],.int _ _⟩
 case h_3=>obtain⟨rfl,rfl,rfl⟩:=h;exact⟨_,by simp[binOp,Op.intArith],.int _ _⟩
 case h_4=>obtain⟨rfl,rfl,rfl⟩:=h;exact⟨_,by simp[binOp,Op.intDiv,ar],.int _ _⟩
 case h_5=>obtain⟨rfl,rfl,rfl⟩:=h;exact⟨_,by simp[binOp,Op.intDiv,ar],.int _ _⟩
 case h_6=>obtain⟨rfl,rfl,rfl⟩:=h;exact⟨_,by simp[binOp,Op.intBits],.int _ _⟩
 case h_7=>obtain⟨rfl,rfl,rfl⟩:=h;exact⟨_,by simp[binOp,Op.intBits],.int _ _⟩
 case h_8=>obtain⟨rfl,rfl,rfl⟩:=h;exact⟨_,by simp[binOp,Op.intBits],.int _ _⟩
 case h_9=>obtain⟨rfl,rfl,rfl⟩:=h;exact⟨_,by simp[binOp,Op.intBits],.int _ _⟩
 case h_10=>obtain⟨rfl,rfl⟩:=h;exact⟨_,by simp_all[binOp,Op.shift,aq],.int _ _⟩
 case h_11=>obtain⟨rfl,rfl⟩:=h;exact⟨_,by simp_all[binOp,Op.shift,aq],.int _ _⟩
 case h_12=>obtain⟨rfl,rfl,rfl⟩:=h;exact⟨_,by simp[binOp,Op.intCmp];rfl,.bool _⟩
 case h_13=>obtain⟨rfl,rfl,rfl⟩:=h;exact⟨_,by simp[binOp,Op.intCmp,bne,BEq.beq],.bool _⟩
 case h_14=>obtain⟨rfl,rfl,rfl⟩:=h;exact⟨_,by simp[binOp,Op.intCmp],.bool _⟩
 case h_15=>obtain⟨rfl,rfl,rfl⟩:=h;exact⟨_,by simp[binOp,Op.intCmp],.bool _⟩
 case h_16=>obtain⟨rfl,rfl,rfl⟩:=h;exact⟨_,by simp[binOp,Op.intCmp],.bool _⟩
 case h_17=>obtain⟨rfl,rfl,rfl⟩:=h;exact⟨_,by simp[binOp,Op.intCmp],.bool _⟩
 case h_18 s hs t ht=>
  obtain⟨rfl,rfl⟩:=h;simp only[w8]at ar;have e:(s++t).data.toList=s.data.toList++t.data.toList:=by rfl
  refine⟨.string (s++t),?_,e▸.str _ (by grind)⟩;have:¬(((s.size+t.size:Nat):Int)>IntKind.i64.max):=by grind[IntKind.max,eT,IntKind.signed,IntKind.bits]
  simp_all[binOp,Op.stringOp,aq]
 case h_19 s hs t ht=>obtain⟨rfl,rfl⟩:=h;exact⟨_,by simp_all[binOp,Op.stringOp,ByteArray.toList_eq],.bool _⟩
 case h_20 s hs t ht=>obtain⟨rfl,rfl⟩:=h;exact⟨_,by simp_all[binOp,Op.stringOp,ByteArray.toList_eq],.bool _⟩
 case h_21 s hs t ht=>obtain⟨rfl,rfl⟩:=h;exact⟨_,by simp_all[binOp,Op.stringOp,ByteArray.toList_eq],.bool _⟩
 case h_22 s hs t ht=>obtain⟨rfl,rfl⟩:=h;exact⟨_,by simp_all[binOp,Op.stringOp,ByteArray.toList_eq],.bool _⟩
 case h_23 s hs t ht=>obtain⟨rfl,rfl⟩:=h;exact⟨_,by simp_all[binOp,Op.stringOp,ByteArray.toList_eq],.bool _⟩
 case h_24 s hs t ht=>obtain⟨rfl,rfl⟩:=h;exact⟨_,by simp_all[binOp,Op.stringOp,ByteArray.toList_eq],.bool _⟩
theorem Je{op:BinOp}{ty:TypeId}{u:Value}(h1:u≠.nilIface)(a:∀cs,u≠.agg cs):(eqGuard op ty x y u v).run P w= .ok () w:=by
 simp_all[eqGuard]
theorem ca.guard{t:T}{u:Value}(h:ca w S t u):u≠.nilIface/\∀cs,u≠.agg cs:=by
 cases h<;>exact⟨by simp,by simp⟩
theorem Nt{ty:TypeId}(b:P.underlying ty=some .bool)(b1 b2:J):(Op.equal ty (.bool b1) (.bool b2)).run P w= .ok (b1==b2) w:=by
 obtain⟨d,a⟩:∃d,Op.maxDepth=d+1:=⟨9999,rfl⟩;unfold Op.equal;rw[a];unfold Op.equalIn;simp only[Sem.run_bind,run_underlying b];rfl
theorem KD(R:Rel aB nt φ S env σ n a w){op:BinOp}{ty:TypeId}(m:o.op= .binOp op ty x y yt){b d:aV}(aa:bT x=some b)(al:bT y=some d)
 {p v σ'}(l:n key=false)(h:aU (.bin op b d) env σ key=some (p,v,σ'))(ar:p):cf P aB nt env σ' (ins n key) a v ((execOp a.eval o).run P w):=by
 simp only[aU,bz]at h;obtain⟨⟨t,A⟩,f,⟨u,B⟩,g,he⟩:=h;simp at he;split at he
 . simp only[bL]at he;obtain⟨⟨s,r⟩,i,rfl,rfl,rfl⟩:=he;have h1:=(cK R aa f ar.1).1.et;have e:=(cK R al g ar.2.1).1.et;obtain⟨z,q,j⟩:=abN (P:=P) (ty:=ty) i ar.2.2 h1 e;refine cf.pure R ?_ (.c j) rfl;have k:(eqGuard op ty x y _ (a.eval y)).run P w= .ok _ w:=Je (ca.guard h1).1 (ca.guard h1).2;simp_all[execOp]
 grind
theorem aa9(R:Rel aB nt φ S env σ n a w){op:BinOp}{ty:TypeId}(l:o.op= .binOp op ty x y yt)(f:op= .eql\/op= .neq)(m:P.underlying ty=some .bool)
 {b c:aV}(aa:bT x=some b)(al:bT y=some c)
 {p v σ'}(k:n key=false)(h:aU (.eqBool (op== .neq) b c) env σ key=some (p,v,σ'))(ar:p):cf P aB nt env σ' (ins n key) a v ((execOp a.eval o).run P w):=by
 simp only[aU,bz]at h;obtain⟨⟨q,s⟩,d,⟨r,t⟩,e,he⟩:=h;simp at he;split at he
 . rename_i b1 b2;obtain⟨rfl,rfl,rfl⟩:=he;have h1:=(cK R aa d ar.1).1.jO;have j:=(cK R al e ar.2).1.jO;refine cf.pure R ?_ (.pC _) rfl;have g:(eqGuard op ty x y (a.eval x) (a.eval y)).run P w= .ok _ w:=Je (by grind) (by grind);have i:(binOp op ty (a.eval x) (a.eval y)).run P w= .ok (.bool (if(op== .neq)then !(b1==b2)else(b1==b2))) w:=by
    rcases f with rfl|rfl;simp_all[binOp,Nt];simp_all[binOp,Nt]
   simp_all[execOp]
 grind
theorem adz(R:Rel aB nt φ S env σ n a w){ty:TypeId}(d:o.op= .unOp .not ty x){b:aV}(aa:bT x=some b)
 {p v σ'}(e:n key=false)(h:aU (.not b) env σ key=some (p,v,σ'))(ar:p):cf P aB nt env σ' (ins n key) a v ((execOp a.eval o).run P w):=by
 simp only[aU,bz]at h;obtain⟨⟨f,g⟩,c,he⟩:=h;simp at he;split at he;obtain⟨rfl,rfl,rfl⟩:=he;have h1:=(cK R aa c ar).1.jO;exact cf.pure R (by simp[execOp,d,h1,Op.unary]) (.pC _) rfl;grind
theorem adA(R:Rel aB nt φ S env σ n a w){ty:TypeId}{k:IntKind}(i:o.op= .unOp .neg ty x){b:aV}(aa:bT x=some b)
 {p v σ'}(j:n key=false)(h:aU (.bin .sub (.const (.c (.t (.int k 0)))) b) env σ key=some (p,v,σ'))(ar:p):cf P aB nt env σ' (ins n key) a v ((execOp a.eval o).run P w):=by
 simp only[aU,aV.get,ay,bz]at h;obtain⟨⟨m,q⟩,g,he⟩:=h;simp only at he;split at he;rename_i t1 t2 aK;cases aK;simp only[bL]at he;obtain⟨⟨l,r⟩,d,rfl,rfl,rfl⟩:=he;have e:=(cK R aa g ar.2.1).1;cases t2<;>simp only[rj,reduceCtorEq,e2]at d;obtain⟨rfl,rfl,rfl⟩:=d;have f:=e.gh;exact cf.pure R (by simp[execOp,i,f,Op.unary,Op.intArith]) (.nO _ _) rfl;grind
theorem adB(R:Rel aB nt φ S env σ n a w){ty:TypeId}{k:IntKind}(i:o.op= .unOp .xor ty x){b:aV}(aa:bT x=some b)
 {p v σ'}(j:n key=false)(h:aU (.bin .xor (.const (.c (.t (.int k (if k.signed then -1 else k.max))))) b) env σ key=some (p,v,σ'))(ar:p):cf P aB nt env σ' (ins n key) a v ((execOp a.eval o).run P w):=by
 simp only[aU,aV.get,ay,bz]at h;obtain⟨⟨m,q⟩,g,he⟩:=h;simp only at he;split at he;rename_i t1 t2 aK;cases aK;simp only[bL]at he;obtain⟨⟨l,r⟩,d,rfl,rfl,rfl⟩:=he;have e:=(cK R aa g ar.2.1).1;cases t2<;>simp only[rj,reduceCtorEq,e2]at d;obtain⟨rfl,rfl,rfl⟩:=d;have f:=e.gh;exact cf.pure R (by simp[execOp,i,f,Op.unary,Op.intBits]) (.nO _ _) rfl;grind
theorem abO(R:Rel aB nt φ S env σ n a w){s d:TypeId}(f:o.op= .convert s d x){g k:IntKind}(hs:P.underlying s=some (.int g))(c:P.underlying d=some (.int k)){b:aV}(aa:bT x=some b)
 {p v σ'}(i:n key=false)(h:aU (.conv k b) env σ key=some (p,v,σ'))(ar:p):cf P aB nt env σ' (ins n key) a v ((execOp a.eval o).run P w):=by
 simp only[aU,bz]at h;obtain⟨⟨j,l⟩,e,he⟩:=h;simp at he;split at he;obtain⟨rfl,rfl,rfl⟩:=he;have h1:=(cK R aa e ar).1.gh;exact cf.pure R (by simp[execOp,f,h1,convert,underlying,hs,c,Conv.intToInt]) (.nO _ _) rfl;grind
theorem aa'(m:Int):(Utf8.encode m).size<=eT:=by
 unfold eT Utf8.encode;dsimp
 (repeat' split)<;>simp[ByteArray.size]
theorem adC(R:Rel aB nt φ S env σ n a w){s d:TypeId}(g:o.op= .convert s d x){i:IntKind}(hs:P.underlying s=some (.int i))(e:P.underlying d=some .string){b:aV}(aa:bT x=some b)
 {p v σ'}(j:n key=false)(h:aU (.i2s b) env σ key=some (p,v,σ'))(ar:p):cf P aB nt env σ' (ins n key) a v ((execOp a.eval o).run P w):=by
 simp only[aU,bz]at h;obtain⟨⟨k,l⟩,f,he⟩:=h;simp at he;split at he;obtain⟨rfl,rfl,rfl⟩:=he;have h1:=(cK R aa f ar).1.gh;exact cf.pure R (by simp[execOp,g,h1,convert,underlying,hs,e,Conv.intToString]) (.c (.str _ (aa' _))) rfl;grind
theorem adD(R:Rel aB nt φ S env σ n a w){s d:TypeId}(f:o.op= .convert s d x)(hs:P.underlying s=some .string)(c:P.underlying d=some .string){b:aV}(aa:bT x=some b)
 {p v σ'}(g:n key=false)(h:aU (.s2s b) env σ key=some (p,v,σ'))(ar:p):cf P aB nt env σ' (ins n key) a v ((execOp a.eval o).run P w):=by
 simp only[aU,bz]at h;obtain⟨⟨i,j⟩,e,he⟩:=h;simp at he;split at he
 . obtain⟨rfl,rfl,rfl⟩:=he;have av:=cK R aa e ar;obtain⟨bs,h1,rfl,_⟩:=av.1.kU;refine cf.pure R ?_ (h1▸av.1) rfl;simp[execOp,f,h1,convert,underlying,hs,c]
 grind
theorem abo(R:Rel aB nt φ S env σ n a w)(e:o.op= .nilCheck x){b:aV}(aa:bT x=some b)
 {p v σ'}(d:n key=false)(h:aU (.nilCheck b) env σ key=some (p,v,σ'))(ar:p):cf P aB nt env σ' (ins n key) a v ((execOp a.eval o).run P w):=by
 simp only[aU,bz]at h;obtain⟨⟨f,g⟩,c,he⟩:=h;simp at he;split at he<;>simp only[eo,reduceCtorEq]at he
 all_goals
  obtain⟨rfl,rfl,rfl⟩:=he;have av:=cK R aa c ar;have h1:=av.1.et;refine cf.pure R ?_ av.1 av.2
 simp_all[bG,execOp];simp_all[bG,execOp];obtain⟨_,_,_,h1,_⟩:=h1;simp_all[execOp]
theorem abP(R:Rel aB nt φ S env σ n a w){ty:TypeId}(t:o.op= .fieldAddr ty x f)(y:P.underlying ty=some (.struct fs)){d:Field}(q:fs[f]?=some d)
 {m:Nat}(j:eK P d.type=some m)(s:m≠0){g:aV}(aa:bT x=some g)
 {p v σ'}(r:n key=false)(h:aU (.fldA d.offset g) env σ key=some (p,v,σ'))(ar:p):cf P aB nt env σ' (ins n key) a v ((execOp a.eval o).run P w):=by
 simp only[aU,bz]at h;obtain⟨⟨A,B⟩,k,he⟩:=h;simp at he;have z:∀w,(underlying ty).run P w= .ok (.struct fs) w:=by simp_all[underlying]
 have u:∀w,(sizeOf d.type).run P w= .ok m w:=by simp[eK]at j;obtain⟨i,l,rfl⟩:=j;simp[sizeOf,typeInfo,l]
 have e:∀(b off:Nat),a.eval x= .pointer (some ⟨b,off,none⟩)->(execOp a.eval o).run P w= .ok (.value (.pointer (some ⟨b,off+d.offset,none⟩))) w:=by
  simp_all[execOp,Instr.fieldAt,Instr.sureAddr,fieldPlace,Addr.add]
 split at he<;>simp only[eo,reduceCtorEq]at he
 all_goals
  obtain⟨rfl,rfl,rfl⟩:=he;have av:=cK R aa k ar;have h1:=av.1.et
 exact cf.pure R (e _ _ h1) (.c rfl) av.2;exact cf.pure R (e _ _ h1) (.c (by simp[bG,Nat.add_assoc])) av.2;obtain⟨blk,off,f,h1,ad⟩:=h1;exact cf.pure R (e _ _ h1) (.c ⟨blk,off,f,by grind,ad⟩) av.2
theorem bc.akX(h:bc (ca w S) ts vs):bc (bG φ w S) (ts.map .t) vs:=by
 induction h with
 |nil=>exact .nil
 |cons h _ ih=>exact .cons h ih
theorem Ow(n:Nat->J)(ts:I T):(ts.map C.t).all (C.aJ n):=by simp[C.aJ]
theorem uU{ty:TypeId}{g:J}(av:ql P ty=some g)(w:World):(isAgg ty).run P w= .ok g w:=by
 unfold ql at av;split at av<;>simp_all [isAgg,underlying]
theorem jQ{ty:TypeId}{k:Nat}(a:eK P ty=some k)(w:World):(sizeOf ty).run P w= .ok k w:=by
 simp[eK]at a;obtain⟨i,b,rfl⟩:=a;simp[sizeOf,typeInfo,b]
theorem Kl{ty:TypeId}(h:nL P ty=some g):ql P ty=some g.1/\eK P ty=some g.2/\(g.1=false->g.2=1):=by
 grind[nL,bz]
theorem MK{ty:TypeId}{g:J}{k:Nat}(av:ql P ty=some g)(d:eK P ty=some k){b o:Nat}
 (a:∀j,j<k->w.cell? ⟨b,o+j,none⟩=vs[j]?)(ak:vs.length=k)(h1:g=false->k=1):
 (loadVar ty ⟨b,o,none⟩).run P w= .ok (if g then .agg vs.toArray else vs.getD 0 undef) w:=by
 cases g with
 |true=>
  have:=run_loadCells_list (P:=P) w ⟨b,o,none⟩ vs (λj v c=>by
   grind[Addr.add])
  simp_all[loadVar,uU,jQ]
 |false=>
  simp_all[loadVar,uU]
theorem bG.single(h:bG φ w S c v):v.cells=#[v]:=by
 have:=bG.jG h;cases v<;>simp[Value.oneCell']at this<;>rfl
theorem oJ{v:V}{x:Value}(h:ch φ w S v x)(a:qm v=some cs)(b:v.aJ n):bc (bG φ w S) cs x.cells.toList/\cs.all (C.aJ n):=by
 cases h with
 |c h=>
  simp[qm]at a;subst a;rw[bG.single h];exact⟨.cons h .nil,by grind[V.aJ]⟩
 |agg h=>
  grind[qm,Value.cells,V.aJ]
 |bd=>grind[qm]
theorem Mf{agg:J}{k o:Nat}{v:V}(h:bc (bG φ w S) cs vs)(e:cs.all (C.aJ n))(ak:kn agg k cs o=some v)(h1:agg=false->k=1):
 o+k<=cs.length/\ch φ w S v (if agg then .agg ((vs.drop o).take k).toArray else((vs.drop o).take k).getD 0 undef)/\v.aJ n:=by
 unfold kn at ak;cases agg with
 |true=>
  simp at ak;obtain⟨b,rfl⟩:=ak;refine⟨b,?_,by grind[V.aJ]⟩;simpa using ch.agg ((h.drop o).take k)
 |false=>
  have:=h1 rfl;subst this;simp at ak;obtain⟨c,a,rfl⟩:=ak;obtain⟨x,aa,d⟩:=h.get a;have aD:=(ev.1 a).1;refine⟨by omega,?_,?_⟩;have:((vs.drop o).take 1).getD 0 undef=x:=(by grind);simp only[this];exact .c d;grind[V.aJ]
theorem PB{agg:J}{k o:Nat}{v:V}(ak:loadT agg k ts o=some v):kn agg k (ts.map .t) o=some v:=by
 unfold loadT at ak;unfold kn;cases agg<;>simp_all
theorem afK{ty:TypeId}{g:J}{k:Nat}(av:ql P ty=some g)(a:eK P ty=some k)(h1:g=false->k=1)(b:off+k<=vs.length):
 (part ty vs.toArray off).run P w= .ok (if g then .agg ((vs.drop off).take k).toArray else((vs.drop off).take k).getD 0 undef) w:=by
 cases g with
 |true=>
  simp_all[part,uU,jQ]
 |false=>
  have:=h1 rfl;have aD:off<vs.length:=by omega
  simp_all[part,uU]
theorem adE(R:Rel aB nt φ S env σ n a w){ty:TypeId}(r:o.op= .field ty x f)(u:P.underlying ty=some (.struct fs)){b:Field}(j:fs[f]?=some b)
 {m:Nat}(q:eK P b.type=some m){g:J}(av:ql P b.type=some g)(h1:g=false->m=1){c:aV}(aa:bT x=some c)
 {p v σ'}(A:n key=false)(h:aU (.fld g b.offset m c) env σ key=some (p,v,σ'))(ar:p):cf P aB nt env σ' (ins n key) a v ((execOp a.eval o).run P w):=by
 simp only[aU,bz]at h;obtain⟨⟨B,C⟩,k,he⟩:=h;simp at he;split at he;simp only[bL]at he;obtain⟨v0,y,rfl,rfl,rfl⟩:=he;have e:=cK R aa k ar;obtain⟨vs,z,d⟩:=e.1.mb;obtain⟨l,t,i⟩:=Mf d (by simpa[V.aJ]using e.2) y h1;have s:=afK (w:=w) av q h1 (by rw[<-d.length];exact l);exact cf.pure R (by simp[execOp,r,z,Instr.field,underlying,u,j,asAgg,s]) t i;grind
theorem adF(R:Rel aB nt φ S env σ n a w){i:Nat}(m:o.op= .extract x i){b:aV}(aa:bT x=some b)
 {p v σ'}(l:n key=false)(h:aU (.ext b i) env σ key=some (p,v,σ'))(ar:p):cf P aB nt env σ' (ins n key) a v ((execOp a.eval o).run P w):=by
 simp only[aU,bz]at h;obtain⟨⟨q,r⟩,e,he⟩:=h;simp at he;split at he
 . simp only[bL]at he;obtain⟨v0,d,rfl,rfl,rfl⟩:=he;have c:=cK R aa e ar;generalize j:a.eval x=y at c;obtain⟨f,k⟩:=c;cases f with
   |bd _ xs ak ad=>
    have aD:i<xs.length:=(by grind);have g:=fm aD;refine cf.pure R ?_ (ad i _ _ d g) (nG (by grind[V.aJ]) d);simp_all[execOp,Instr.extract]
 grind
theorem abQ(R:Rel aB nt φ S env σ n a w){x y:Operand}{d:Array TypeId}(i:o.op= .call {callee:= .builtin .max,args:=#[x,y],argTypes:=d}){b c:aV}(aa:bT x=some b)(al:bT y=some c)
 {p v σ'}(j:n key=false)(h:aU (.max2 b c) env σ key=some (p,v,σ'))(ar:p):cf P aB nt env σ' (ins n key) a v ((execOp a.eval o).run P w):=by
 simp only[aU,bz]at h;obtain⟨⟨m,s⟩,f,⟨r,t⟩,g,he⟩:=h;simp at he;split at he
 . rename_i k p l q;simp only[e2]at he;obtain⟨rfl,rfl,rfl,rfl⟩:=he;have h1:=(cK R aa f ar.1).1.gh;have e:=(cK R al g ar.2).1.gh;refine cf.pure R ?_ (.nO _ _) rfl;have:(if p<q then q else p)=max p q:=(by omega);simp[execOp,i,invoke,builtin,Builtin.max_,Builtin.max2,h1,e,Go.resolve,this]
 grind
theorem abR(R:Rel aB nt φ S env σ n a w){x y:Operand}{d:Array TypeId}(i:o.op= .call {callee:= .builtin .min,args:=#[x,y],argTypes:=d}){b c:aV}(aa:bT x=some b)(al:bT y=some c)
 {p v σ'}(j:n key=false)(h:aU (.min2 b c) env σ key=some (p,v,σ'))(ar:p):cf P aB nt env σ' (ins n key) a v ((execOp a.eval o).run P w):=by
 simp only[aU,bz]at h;obtain⟨⟨m,s⟩,f,⟨r,t⟩,g,he⟩:=h;simp at he;split at he
 . rename_i k p l q;simp only[e2]at he;obtain⟨rfl,rfl,rfl,rfl⟩:=he;have h1:=(cK R aa f ar.1).1.gh;have e:=(cK R al g ar.2).1.gh;refine cf.pure R ?_ (.nO _ _) rfl;have:(if q<p then q else p)=min p q:=(by omega);simp[execOp,i,invoke,builtin,Builtin.min_,Builtin.min2,h1,e,Go.resolve,this]
 grind
theorem ca.j5(h:ca w S (.slice es) v):∃(a:ai Addr) (cap sz b o:Nat) (f:Nat->Nat->Value),v= .slice a es.length cap/\es.length<=cap/\es.length<=dT/\(∀e,e∈es->e.length=sz)/\(es≠[]->a=some ⟨b,o,none⟩)/\
 (∀i j:Nat,i<es.length->j<sz->S b (o+i*sz+j)/\w.cell? ⟨b,o+i*sz+j,none⟩=some (f i j))/\(∀(i j:Nat) e t,es[i]?=some e->e[j]?=some t->ca w S t (f i j)):=by
 cases h;exact⟨_,_,_,_,_,_,rfl,by grind,by grind,by omega,by omega,by omega,by grind⟩
theorem bG.hZ{b sz len:Nat}(h:bG φ w S (.arr b sz off len) v):∃a,v= .slice a len ((φ b).2-off)/\((φ b).2≠0->a=some ⟨(φ b).1,off*sz,none⟩)/\off+len<=(φ b).2:=h
theorem adG(R:Rel aB nt φ S env σ n a w){x:Operand}{ty:TypeId}(f:o.op= .call {callee:= .builtin .len,args:=#[x],argTypes:=#[ty]}){str:J}
 (d:if str then P.underlying ty=some .string else ∃e,P.underlying ty=some (.slice e)){g:aV}(aa:bT x=some g)
 {p v σ'}(k:n key=false)(h:aU (.len str g) env σ key=some (p,v,σ'))(ar:p):cf P aB nt env σ' (ins n key) a v ((execOp a.eval o).run P w):=by
 simp only[aU,bz]at h;obtain⟨⟨r,s⟩,j,he⟩:=h;simp at he;split at he<;>simp only[eo,eB,reduceCtorEq]at he
 all_goals
  obtain⟨rfl,rfl,rfl⟩:=he;have h1:=(cK R aa j ar).1.et
 obtain⟨e,d⟩:=d;obtain⟨cj,cap,_,_,_,_,h1,_⟩:=ca.j5 h1;exact cf.pure R (by simp[execOp,f,Go.resolve,invoke,builtin,Builtin.len_,underlying,d,h1,goInt]) (.nO _ _) rfl;obtain⟨e,d⟩:=d;obtain⟨cj,h1,_⟩:=bG.hZ h1;exact cf.pure R (by simp[execOp,f,Go.resolve,invoke,builtin,Builtin.len_,underlying,d,h1,goInt]) (.nO _ _) rfl;obtain⟨e,d⟩:=d;obtain⟨cj,h1⟩:=h1;exact cf.pure R (by simp[execOp,f,Go.resolve,invoke,builtin,Builtin.len_,underlying,d,h1,goInt]) (.nO _ _) rfl
 . obtain⟨e,d⟩:=d;rename_i b l;obtain⟨cj,cap,h1⟩:∃cj cap,a.eval x= .slice cj l cap:=by
    obtain⟨m,q,bj⟩:=h1;grind
   exact cf.pure R (by simp[execOp,f,Go.resolve,invoke,builtin,Builtin.len_,underlying,d,h1,goInt]) (.nO _ _) rfl
 simp at d;obtain⟨bs,i,rfl,_⟩:=ch.kU (.c h1);exact cf.pure R (x:= .int .i64 bs.size) (by simp[execOp,f,Go.resolve,invoke,builtin,Builtin.len_,underlying,d,i,goInt]) (by exact .nO _ _) rfl
theorem abS(R:Rel aB nt φ S env σ n a w){ty:TypeId}{i:Operand}(F:o.op= .indexAddr ty x i)(H:P.underlying ty=some (.slice e)){sz:Nat}(G:eK P e=some sz)(h0:sz≠0)
 {z y:aV}(aa:bT x=some z)(E:bT i=some y)
 {p v σ'}(Q:n key=false)(h:aU (.idxA sz z y) env σ key=some (p,v,σ'))(ar:p):cf P aB nt env σ' (ins n key) a v ((execOp a.eval o).run P w):=by
 simp only[aU,bz]at h;obtain⟨⟨Z,ad⟩,D,⟨Y,ab⟩,B,he⟩:=h;simp only at he;have A:∀(b off m:Nat),Addr.add ⟨b,off,none⟩ (m*sz)=⟨b,off+m*sz,none⟩:=by
  grind[Addr.add]
 split at he
 . rename_i es k m;obtain⟨rfl,rfl,rfl⟩:=he;obtain⟨s,u,r,I,N⟩:=ar;have h1:=(cK R aa D s).1.et;have g:=(cK R E B u).1.gh;obtain⟨cj,cap,d,b,off,f,h1,M,U,W,l,L,X⟩:=ca.j5 h1;have J:es≠[]:=(by grind);have O:es[m.toNat]?=some (el es m.toNat):=(by grind[el]);have K:d=sz:=(by grind);subst K;rw[l J]at h1;refine cf.pure R (x:= .pointer (some ⟨b,off+m.toNat*d,none⟩)) ?_ ?_ rfl
   . have q:0<=m/\m<es.length:=⟨r,by omega⟩
     simp[execOp,F,h1,g,Instr.indexAt,asIntOf,underlying,H,q,jQ G,A]
   refine .c ⟨b,off+m.toNat*d,λj=>f m.toNat j,by rfl,λj t ht=>?_⟩;grind
 . rename_i b d off len k m;obtain⟨rfl,rfl,rfl⟩:=he;obtain⟨s,u,r,I,rfl⟩:=ar;have av:=cK R aa D s;have h1:=av.1.et;have g:=(cK R E B u).1.gh;obtain⟨cj,h1,l,T⟩:=bG.hZ h1;rw[l (by omega)]at h1;refine cf.pure R (x:= .pointer (some ⟨(φ b).1,off*sz+m.toNat*sz,none⟩)) ?_ (.c ?_) (by grind[V.aJ,C.aJ])
   . have q:0<=m/\m<len:=⟨r,by omega⟩
     simp[execOp,F,h1,g,Instr.indexAt,asIntOf,underlying,H,q,jQ G,A]
   grind[bG]
 grind
theorem abT(R:Rel aB nt φ S env σ n a w){ty:TypeId}{i:Operand}(r:o.op= .index ty x i)(y:P.underlying ty=some .string)
 {c b:aV}(aa:bT x=some c)(j:bT i=some b)
 {p v σ'}(z:n key=false)(h:aU (.idxS c b) env σ key=some (p,v,σ'))(ar:p):cf P aB nt env σ' (ins n key) a v ((execOp a.eval o).run P w):=by
 simp only[aU,bz]at h;obtain⟨⟨B,D⟩,g,⟨A,C⟩,f,he⟩:=h;simp at he;split at he
 . rename_i s k m;obtain⟨rfl,rfl,rfl⟩:=he;obtain⟨t,u,l,q⟩:=ar;obtain⟨bs,h1,rfl,hs⟩:=(cK R aa g t).1.kU;have d:=(cK R j f u).1.gh;have aD:m.toNat<bs.size:=(by simp_all);refine cf.pure R ?_ (.nO _ _) rfl;have e:bs[m.toNat]?=some (bs.data.toList.getD m.toNat 0):=by
    rw[getElem?_pos bs _ _];simp[fm q];rfl
   simp[execOp,r,h1,d,Instr.index,asIntOf,underlying,y,l,e]
 grind
theorem Mo:∀{vs:I V} {l:bb} {xs:I Value},aU.tl vs=some l->bc (ch φ w S) vs xs->V.aJ.V.d' n vs->
 xs=l.map (λb=>Value.pointer (some ⟨(φ b).1,0,none⟩))/\(l.all λb=>n b)=true
 |[],l,xs,h,a,c=>by simp[aU.tl]at h;subst h;cases a;simp
 |v::vs,l,xs,h,a,c=>by
  cases a with
  |cons d ht=>
   unfold aU.tl at h;split at h;grind;rename_i b r e;cases e;simp at h;obtain⟨i,f,rfl⟩:=h;simp[V.aJ.V.d']at c;obtain⟨rfl,g⟩:=Mo f ht c.2;have:=d.hQ;grind[V.aJ,C.aJ];grind
theorem abU(R:Rel aB nt φ S env σ n a w){caps:Array Operand}(j:o.op= .makeFunc (.func f) #[] caps){d:I aV}(aa:nW caps.toList=some d)
 {p v σ'}(i:n key=false)(h:aU (.mkfn f d) env σ key=some (p,v,σ'))(ar:p):cf P aB nt env σ' (ins n key) a v ((execOp a.eval o).run P w):=by
 simp only[aU,bz]at h;obtain⟨⟨k,vs⟩,e,he⟩:=h;split at he
 . rename_i l ak;obtain⟨rfl,rfl,rfl⟩:=he;have av:=rA R aa e ar;obtain⟨h1,g⟩:=Mo ak av.1 av.2;refine cf.pure R ?_ (.c rfl) (by grind[V.aJ,C.aJ]);have:caps.map a.eval=(l.map λb=>Value.pointer (some ⟨(φ b).1,0,none⟩)).toArray:=(by grind);simp_all[execOp,Instr.makeFunc]
 grind
theorem rB(R:Rel aB nt φ S env σ n a w){x:ai Operand}{b:ai aV}(aa:kS x=some b){m:ai Int}(h:km env b=some (p,m))(ar:p):
 (x.map a.eval=none/\m=none)\/∃k i,x.map a.eval=some (.int k i)/\m=some i:=by
 cases x with
 |none=>grind[kS,km]
 |some x=>
  simp[kS]at aa;obtain⟨e,c,rfl⟩:=aa;simp only[km,bz]at h;obtain⟨⟨q,v⟩,d,he⟩:=h;simp at he;split at he;obtain⟨rfl,rfl⟩:=he;have:=(cK R c d ar).1.gh;grind;grind
theorem Fb {isSlice:J}{len cap:Nat}{b a:ai Value}{l h:ai Int}(d:(b=none/\l=none)\/∃k i,b=some (.int k i)/\l=some i)(c:(a=none/\h=none)\/∃k i,a=some (.int k i)/\h=some i)
 (h0:0<=l.getD 0)(h1:l.getD 0<=h.getD len)(e:h.getD len<=len)(f:len<=cap):
 (Instr.sliceBounds isSlice len cap b a none).run P w= .ok ((l.getD 0).toNat,(h.getD len).toNat,cap) w:=by
 have g:h.getD len<=cap:=by omega
 rcases d with⟨rfl,rfl⟩|⟨k,i,rfl,rfl⟩<;>rcases c with⟨rfl,rfl⟩|⟨m,j,rfl,rfl⟩<;>simp_all [Instr.sliceBounds,Instr.sliceBound,asIntOf];grind
theorem abV(R:Rel aB nt φ S env σ n a w){ty:TypeId}{i:ai Operand}(u:o.op= .slice ty x j i none)(B:P.underlying ty=some .string)
 {f:aV}{d b:ai aV}(aa:bT x=some f)(t:kS j=some d)(s:kS i=some b)
 {p v σ'}(D:n key=false)(h:aU (.slcS f d b) env σ key=some (p,v,σ'))(ar:p):cf P aB nt env σ' (ins n key) a v ((execOp a.eval o).run P w):=by
 simp only[aU,bz]at h;obtain⟨⟨F,G⟩,r,⟨pl,l⟩,q,⟨E,h⟩,m,he⟩:=h;simp at he;split at he
 . obtain⟨rfl,rfl,rfl⟩:=he;obtain⟨y,z,A,h0,h1,g⟩:=ar;obtain⟨bs,C,rfl,hs⟩:=(cK R aa r y).1.kU;have ak:=rB R t q z;have ad:=rB R s m A;rw[w8]at h1 g;have k:=Fb (P:=P) (w:=w) (isSlice:=false) ak ad h0 h1 g (e' _);rw[w8];have e:(bs.extract (l.getD 0).toNat (h.getD bs.size).toNat).data.toList=(bs.data.toList.take (h.getD bs.size).toNat).drop (l.getD 0).toNat:=(by grind[ByteArray.data_extract,Array.toList_extract,List.drop_take]);refine cf.pure R (x:= .string (bs.extract (l.getD 0).toNat (h.getD bs.size).toNat)) ?_ (.c ?_) rfl
   simp[execOp,u,Instr.sliceAt,Instr.slice,underlying,B,C,k]
   . rw[<-e];refine .str _ ?_;rw[ByteArray.size_extract];omega
 grind
theorem adH(R:Rel aB nt φ S env σ n a w){ty:TypeId}{W k:ai Operand}(Q:o.op= .slice ty x W k none)(U:P.underlying ty=some (.slice e)){sz:Nat}(T:eK P e=some sz)
 {G:aV}{g F:ai aV}(aa:bT x=some G)(O:kS W=some g)(N:kS k=some F)
 {p v σ'}(ao:n key=false)(h:aU (.slc sz G g F) env σ key=some (p,v,σ'))(ar:p):cf P aB nt env σ' (ins n key) a v ((execOp a.eval o).run P w):=by
 simp only[aU,bz]at h;obtain⟨⟨ay,az⟩,M,⟨pl,l⟩,K,⟨ax,h⟩,J,he⟩:=h;simp only at he;split at he
 . rename_i es;obtain⟨rfl,rfl,rfl⟩:=he;obtain⟨A,B,D,h0,h1,s,Y⟩:=ar;obtain⟨cj,cap,d,b,off,f,E,X,au,aw,I,y,ah⟩:=ca.j5 (cK R aa M A).1.et;have ak:=rB R O K B;have ad:=rB R N J D;have u:=Fb (P:=P) (w:=w) (isSlice:=true) (cap:=cap) ak ad h0 h1 s X;generalize al:(l.getD 0).toNat=L at*;generalize aj:(h.getD (es.length:Int)).toNat=H at*;have r:((es.take H).drop L).length=H-L:=by simp;omega
   refine cf.pure R (x:= .slice (if cap=L then cj else cj.map (·.add (L*sz))) (H-L) (cap-L)) ?_ (.c ?_) rfl
   simp[execOp,Q,Instr.sliceAt,Instr.slice,underlying,U,E,u,jQ T]
   . show ca w S _ _;rw[<-r];have Z:∀(i:Nat) e,((es.take H).drop L)[i]?=some e->es[L+i]?=some e/\L+i<H:=(by grind);by_cases z:es=[]
     subst z;simp;exact ca.slice [] _ _ 0 0 0 (λ_ _=>undef) (by simp) (by simp[dT]) (by simp) (by simp) (by simp) (by simp)
     . have af:d=sz:=by
        obtain⟨dw,an⟩:=Ds es z;grind
       subst af;refine ca.slice _ _ _ d b (off+L*d) (λi j=>f (L+i) j) (by rw[r];omega) (by rw[r];omega) (λe he=>Y e (zF (HB he))) ?_ ?_ ?_
       . intro aL;have:L<H:=(by grind);rw[b9,I z];unfold Addr.add;split
         rename_i h;simp[h];rfl
       intro i j k ab;rw[r]at k;have:=y (L+i) j (by omega) ab;rw[show off+L*d+i*d+j=off+(L+i)*d+j by rw[ja];omega];exact this;intro i j e t he ht;exact ah _ _ _ _ (Z i e he).1 ht
 . rename_i b d off len;obtain⟨rfl,rfl,rfl⟩:=he;obtain⟨A,B,D,h0,h1,s,rfl⟩:=ar;have av:=cK R aa M A;obtain⟨cj,E,I,ap⟩:=bG.hZ av.1.et;have ak:=rB R O K B;have ad:=rB R N J D;have u:=Fb (P:=P) (w:=w) (isSlice:=true) (cap:=(φ b).2-off) ak ad h0 h1 s (by omega);have am:∀(q o m:Nat),(Addr.add ⟨q,o,none⟩ m:Addr)=⟨q,o+m,none⟩:=by
    grind[Addr.add]
   have ae:g.isNone->l.getD 0=0:=by
    intro aL;cases g with
    |some _=>grind
    |none=>grind[km,Option.some.injEq,Prod.mk.injEq]
   generalize l.getD 0=L at*;generalize h.getD (len:Int)=H at*;refine cf.pure R (x:= .slice (if(φ b).2-off=L.toNat then cj else cj.map (·.add (L.toNat*sz))) (H.toNat-L.toNat) ((φ b).2-off-L.toNat)) ?_ (.c ?_) ?_
   simp[execOp,Q,Instr.sliceAt,Instr.slice,underlying,U,E,u,jQ T]
   . by_cases aL:g.isNone=true
     rw[ag aL];have:=ae aL;subst this;refine⟨_,rfl,λy=>?_,by omega⟩;grind;rw[aq aL];refine⟨_,_,rfl,λy=>?_,by omega⟩;grind
   grind[V.aJ,C.aJ]
 grind
theorem ac7(R:Rel aB nt φ S env σ n a w){ty:TypeId}{k t:IntKind}(q:o.op= .slice ty x none (some (.const (.int k 0))) (some (.const (.int t 0))))(s:P.underlying ty=some (.slice e))
 {sz:Nat}(r:eK P e=some sz){j:aV}(aa:bT x=some j)
 {p v σ'}(u:n key=false)(h:aU (.slc0 j) env σ key=some (p,v,σ'))(ar:p):cf P aB nt env σ' (ins n key) a v ((execOp a.eval o).run P w):=by
 simp only[aU,bz]at h;obtain⟨⟨y,A⟩,m,he⟩:=h;simp at he;have i:∀(cj:ai _) (l c:Nat),a.eval x= .slice cj l c->∃a2,(execOp a.eval o).run P w= .ok (.value (.slice a2 0 0)) w:=by
  intro cj l c d;have dw:∀v,a.eval (.const v)=v:=λ_=>rfl;exact⟨_,by simp[execOp,q,Instr.sliceAt,Instr.slice,underlying,s,d,jQ r];rfl⟩
 split at he<;>simp only[eo,reduceCtorEq]at he
 all_goals
  obtain⟨rfl,rfl,rfl⟩:=he;have h1:=(cK R aa m ar).1.et
 obtain⟨cj,cap,z,b,off,f,d,_⟩:=ca.j5 h1;obtain⟨a2,g⟩:=i _ _ _ d;exact cf.pure R g (.c ⟨a2,rfl⟩) rfl;obtain⟨cj,d⟩:=h1;obtain⟨a2,g⟩:=i _ _ _ d;exact cf.pure R g (.c ⟨a2,rfl⟩) rfl;obtain⟨cj,d,_⟩:=bG.hZ h1;obtain⟨a2,g⟩:=i _ _ _ d;exact cf.pure R g (.c ⟨a2,rfl⟩) rfl
theorem jv{b:Nat}{a:Nat×Nat}(h:w.heap[b]?=some (.cells vs.toArray E a))(j:Nat):w.cell? ⟨b,j,none⟩=vs[j]?:=by
 grind[World.cell?]
theorem u3{ty:TypeId}(av:nL P ty=some g){blk off0 o:Nat}{v:V}
 (a:bc (bG φ w S) cs vs)(c:cs.all (C.aJ n))(i:∀j,j<vs.length->w.cell? ⟨blk,off0+j,none⟩=vs[j]?)(ak:kn g.1 g.2 cs o=some v):
 ∃x,(loadVar ty ⟨blk,off0+o,none⟩).run P w= .ok x w/\ch φ w S v x/\v.aJ n:=by
 obtain⟨h1,e,b⟩:=Kl av;obtain⟨d,k,f⟩:=Mf a c ak b;rw[a.length]at d;grind[MK]
theorem bc.Wz(h:bc (ca w S) ts xs):bc (bG φ w S) (ts.map .t) xs:=bc.akX h
theorem Ki{b sz i:Nat}(h:dj φ w S b (.arr sz es))(k:i<es.length):
 (φ b).2≠0/\∃(vs:I Value) (E:TypeId) (xs:I Value),w.heap[(φ b).1]?=some (.cells vs.toArray E (0,0))/\vs.length=(φ b).2*sz/\(el es i).length=sz/\xs.length=sz/\bc (ca w S) (el es i) xs/\
  (∀j,j<sz->vs[i*sz+j]?=xs[j]?)/\(i+1)*sz<=vs.length:=by
 obtain⟨h1,f,a,g,bu⟩:=h;have h0:(φ b).2≠0:=by omega
 obtain⟨vs,E,ad,ak,l,hs⟩:=bu h0;have c:es[i]?=some (el es i):=by grind[el]
 have e:=a _ (fQ c);have d:(i+1)*sz<=vs.length:=by rw[ak];exact fG _ (by omega)
 refine⟨h0,vs,E,(vs.drop (i*sz)).take sz,ad,ak,e,by grind,?_,?_,d⟩;grind[bc.lX];grind
theorem ac8(R:Rel aB nt φ S env σ n a w){ty:TypeId}(ab:o.op= .load ty x)(av:nL P ty=some g){C:aV}(aa:bT x=some C)
 {p v σ'}(Y:n key=false)(h:aU (.load g.1 g.2 C) env σ key=some (p,v,σ'))(ar:p):cf P aB nt env σ' (ins n key) a v ((execOp a.eval o).run P w):=by
 simp only[aU,bz]at h;obtain⟨⟨ah,ai⟩,q,he⟩:=h;simp only at he;have z:∀(blk off:Nat) (y:Value),a.eval x= .pointer (some ⟨blk,off,none⟩)->(loadVar ty ⟨blk,off,none⟩).run P w= .ok y w->(execOp a.eval o).run P w= .ok (.value y) w:=by
  simp_all[execOp,Instr.loadAt,Instr.sureAddr]
 split at he
 . split at he
   rename_i cs d;simp only[bL]at he;obtain⟨v0,l,rfl,rfl,rfl⟩:=he;have h1:=(cK R aa q ar).1.hQ;obtain⟨_,vs,E,ad,m,_⟩:=R.b3.blk _ _ d;have r:=(R.ei _ _ d).2;obtain⟨y,al,k,e⟩:=u3 (n:=n) av m r (λj _=>by rw[jv ad,iy]) l;grind[cf.pure]
   . rename_i E c d;split at he
     . rename_i L;obtain⟨M,rfl⟩:=L;obtain⟨rfl,rfl,rfl⟩:=he;have h1:=(cK R aa q ar).1.hQ;obtain⟨_,⟨G,W,ad,O,Q⟩,_⟩:=R.b3.blk _ _ d;have r:=(R.ei _ _ d).2;have N:G.oneCell':=by rcases O with rfl|rfl<;>rfl
       have m:bc _ [.dead,c] [G,W]:= .cons N (.cons Q .nil);obtain⟨y,al,k,e⟩:=u3 (n:=n) (off0:=0) (o:=1) (v:= .c c) av m (by simp only[nV,List.all_nil,sR];exact r) (λj _=>by rw[jv ad,iy]) (by simp[kn,M]);grind[cf.pure]
     grind
   grind
 . rename_i b sz i F;split at he
   rename_i V es d;simp only[bL,eB]at he;obtain⟨v0,l,rfl,rfl,rfl⟩:=he;obtain⟨u,rfl,A⟩:=ar;have h1:=(cK R aa q u).1.jB;obtain⟨_,vs,E,xs,ad,ak,Z,ae,m,K,_⟩:=Ki (R.b3.blk _ _ d) A;obtain⟨y,al,k,e⟩:=u3 (n:=n) av (bc.Wz m) (Ow n _) (λj s=>by rw[jv ad,K j (by omega)]) (PB l);exact cf.pure R (z _ _ _ h1 al) k e
   . rename_i V es af ag c d;split at he
     grind
     . rename_i D;obtain⟨⟨a1,a2,a3,a4,a5,X⟩,⟨vs,E,bj,bq,b4,H,cv,cZ⟩,c7⟩:=R.b3.blk _ _ d;have r:=(R.ei _ _ d).2;split at he
       . rename_i B;subst B;obtain⟨rfl,rfl,rfl⟩:=he;obtain⟨u,rfl,rfl⟩:=ar;have h1:=(cK R aa q u).1.jB
         obtain⟨y,al,k,e⟩:=u3 (n:=n) (vs:=[H]) (o:=0) (v:= .c c) av (.cons cZ .nil) (by simpa[cd.aJ]using r) (λj s=>by
          have:j=0:=(by simpa using s);subst this
          rw[jv bj,ve,cv];rfl) (by simp[kn,D])
         exact cf.pure R (z _ _ _ h1 al) k e
       . rename_i B;simp only[bL,eB]at he;obtain⟨v0,l,rfl,rfl,rfl⟩:=he;obtain⟨u,rfl,A⟩:=ar;have h1:=(cK R aa q u).1.jB;simp only[loadT,cm,cw,bL]at l;obtain⟨t,ht,rfl⟩:=l;have I:es[i]?=some (el es i):=by unfold el;rw[List.getD,fm A];rfl
         obtain⟨aj,U,T⟩:=b4 i F _ t I ht (λh=>B h.2)
         obtain⟨y,al,k,e⟩:=u3 (n:=n) (φ:=φ) (cs:=[.t t]) (o:=0) (v:= .c (.t t)) av (.cons T .nil) rfl (λj s=>by
          have:j=0:=(by simpa using s);subst this
          rw[jv bj,ve,U];rfl) (by simp[kn,D])
         exact cf.pure R (z _ _ _ h1 al) k e
   grind
 . rename_i ts F;simp only[bL,eB]at he;obtain⟨v0,l,rfl,rfl,rfl⟩:=he;obtain⟨blk,off,f,h1,ad⟩:=(cK R aa q ar).1.et;have m:bc (ca w S) ts ((List.range ts.length).map f):=by
    grind[bc.lX]
   obtain⟨y,al,k,e⟩:=u3 (n:=n) av (bc.Wz m) (Ow n _) (blk:=blk) (off0:=off) (λj s=>by simp_all) (PB l);exact cf.pure R (z _ _ _ h1 al) k e
 grind
theorem Ox{k:Nat}{s t:T}{b:J}(h:y7 k s t=some b){ty:TypeId}(c:qK P ty=some k){x y:Value}(aa:ca w S s x)(al:ca w S t y)(d:Nat):
 (Op.equalIn (d+1) ty x y).run P w= .ok b w:=by
 have f:∀a b:au,(a==b)=(a=b:J):=λa b=>by grind
 unfold qK at c;unfold y7 at h;split at h;cases h;cases aa;cases al;split at c<;>simp at c;rename_i e;unfold Op.equalIn;simp only[Sem.run_bind,run_underlying e];rfl;simp at h;obtain⟨rfl,rfl⟩:=h;cases aa;cases al;split at c<;>simp at c;rename_i e;unfold Op.equalIn;simp only[Sem.run_bind,run_underlying e,Result.andThen_ok];rfl
 . cases aa with|str s1 h1=>cases al with|str i g=>
   split at c<;>simp at c;rename_i e;unfold Op.equalIn;simp only[Sem.run_bind,run_underlying e,Result.andThen_ok];simp_all[beq_toListBytes,ByteArray.toList_eq]
 grind
theorem Oy{ty:TypeId}{k:Nat}(h:qK P ty=some k):ql P ty=some false:=by
 grind[qK,ql]
theorem MP{d:Nat}{xs g:Array Value}:∀{fs:I Field} {i:Nat} {ks:bb} {ps qs:I C} {us vs:I Value} {r:J},Bb P i fs=some ks->lU ks ps qs=some r->
 bc (bG φ w S) ps us->bc (bG φ w S) qs vs->xs.toList.drop i=us->g.toList.drop i=vs->(Op.eqFields (d+1) xs g fs).run P w= .ok r w
 |[],i,ks,ps,qs,us,vs,r,a,he,h1,c,aK,e=>by
  simp[Bb]at a;subst a;cases ps<;>cases qs<;>simp[lU]at he;subst he;rfl
 |f::fs,i,ks,ps,qs,us,vs,r,a,he,h1,c,aK,e=>by
  simp[Bb,bz]at a;obtain⟨⟨D,B⟩,k,s,F,t,rfl⟩:=a;unfold lU at he;split at he;grind
  . rename_i E G x H y K q;cases q;simp only[bz,bL]at he;obtain⟨b,p,L,A,rfl⟩:=he;cases h1 with|cons h1 n=>
    cases c with|cons c o=>
    rename_i u M v N;have ex:xs[i]?=some u:=by have:=dN (·[0]?) aK;grind
    have m:g[i]?=some v:=by have:=dN (·[0]?) e;grind
    have ih:=MP (d:=d) t A n o (by rw[<-vd,aK];rfl) (by rw[<-vd,e];rfl);have j:∀(l:Array _) (z:Value),l[i]?=some z->(part f.type l f.offset).run P w= .ok z w:=by
     simp_all[part,uU,Oy]
    simp[Op.eqFields,j _ _ ex,j _ _ m,Ox p s h1 c d];cases b
    all_goals simp_all
  grind
theorem acz(R:Rel aB nt φ S env σ n a w){op:BinOp}{ty:TypeId}(A:o.op= .binOp op ty x y yt)(i:op= .eql\/op= .neq){ks:bb}(e:I1 P ty=some ks)
 {b c:aV}(aa:bT x=some b)(al:bT y=some c)
 {p v σ'}(z:n key=false)(h:aU (.eqAgg (op== .neq) ks b c) env σ key=some (p,v,σ'))(ar:p):cf P aB nt env σ' (ins n key) a v ((execOp a.eval o).run P w):=by
 simp only[aU,bz]at h;obtain⟨⟨E,G⟩,f,⟨F,H⟩,g,he⟩:=h;simp at he;split at he
 . simp only[bL]at he;obtain⟨r,B,rfl,rfl,rfl⟩:=he;obtain⟨us,C,m⟩:=(cK R aa f ar.1).1.mb;obtain⟨vs,D,q⟩:=(cK R al g ar.2).1.mb;unfold I1 at e;split at e
   . rename_i fs u;have k:(eqGuard op ty x y (a.eval x) (a.eval y)).run P w= .ok () w:=(by simp_all[eqGuard]);have t:P.fieldsOf ty=fs:=(by grind[Program.fieldsOf]);have j:(Op.equal ty (.agg us.toArray) (.agg vs.toArray)).run P w= .ok r w:=by
      obtain⟨d,s⟩:∃d,Op.maxDepth=d+2:=⟨9998,rfl⟩;grind[Op.equal,run_equalIn_struct,MP]
     have l:(binOp op ty (a.eval x) (a.eval y)).run P w= .ok (.bool (if(op== .neq)then !r else r)) w:=by
      rcases i with rfl|rfl;simp_all[binOp];simp_all[binOp]
     refine cf.pure R ?_ (.pC _) rfl;simp_all[execOp]
   grind
 grind
theorem rW{b:Nat}(h:w'.heap[b]?=w.heap[b]?)(j:Nat):w'.cell? ⟨b,j,none⟩=w.cell? ⟨b,j,none⟩:=by
 grind[World.cell?]
theorem w5{b:Nat}{o:Obj}(h:w.heap[b]?=some o):b<w.heap.size:=(zB.1 h).1
theorem dj.j3{b:Nat}{x:cd}(h:dj φ w S b x)(h0:(φ b).2≠0):(φ b).1<w.heap.size:=by
 cases x with
 |box cs=>obtain⟨_,_,_,ad,_⟩:=h;grind
 |arr sz es=>obtain⟨_,_,_,_,bu⟩:=h;grind
 |set ks=>obtain⟨_,⟨_,_,ad,_⟩,_⟩:=h;grind
 |buf E s=>obtain⟨_,_,bu⟩:=h;grind
 |cu E c=>obtain⟨_,⟨_,_,ad,_⟩,_⟩:=h;grind
 |cV sz es i o c=>obtain⟨_,⟨_,_,ad,_⟩,_⟩:=h;grind
theorem dj.qM{b:Nat}{x:cd}(h:dj φ w S b x)(h0:(φ b).2≠0):∀j,¬S (φ b).1 j:=by
 cases x with
 |box cs=>obtain⟨_,_,_,_,_,hs⟩:=h;grind
 |arr sz es=>obtain⟨_,_,_,_,bu⟩:=h;grind
 |set ks=>exact h.2.2
 |buf E s=>exact(h.2.2 h0).2
 |cu E c=>exact h.2.2
 |cV sz es i o c=>exact h.2.2
theorem dj.mono{b:Nat}{x:cd}(m:hj w S w' S)(p:∀b,n b->bw b=φ b)(q:n b)(aa:x.aJ n)(ad:(φ b).2≠0->w'.heap[(φ b).1]?=w.heap[(φ b).1]?)
 (h:dj φ w S b x):dj bw w' S b x:=by
 cases x with
 |box cs=>
  obtain⟨h0,vs,E,h1,a,f⟩:=h;simp only[dj,p b q];refine⟨h0,vs,E,(ad h0).trans h1,a.imp λc v B g=>bG.mono m p (by grind[cd.aJ]) g,f⟩
 |arr sz es=>
  obtain⟨h1,a,f,y,bu⟩:=h;simp only[dj,p b q];refine⟨h1,a,f,y,λh0=>?_⟩;obtain⟨vs,E,bj,bq,b4,cv⟩:=bu h0;exact⟨vs,E,(ad h0).trans bj,bq,λi j e t he ht=>let⟨v,A,g⟩:=b4 i j e t he ht;⟨v,A,ca.mono m g⟩,cv⟩
 |set ks=>
  grind[dj]
 |buf E s=>
  grind[dj]
 |cu E c=>
  grind[dj,bG.mono,cd.aJ]
 |cV sz es i o c=>
  grind[dj,ca.mono,bG.mono,cd.aJ]
theorem Rel.world(R:Rel aB nt φ S env σ n a w)(W:Nat->Prop)(p:w'.os=w.os)(ht:w'.tape=w.tape)(o:w'.output=w.output)(hs:w.heap.size<=w'.heap.size)
 (c:∀b:Nat,b<w.heap.size->¬W b->w'.heap[b]?=w.heap[b]?)
 (eh:∀b,W b->(∀j,¬S b j)/\(∀k y,aZ σ k=some y->(φ k).2≠0->(φ k).1≠b)/\(aB.B b\/aB.kV.heap.size<=b)):Rel aB nt φ S env σ n a w':=by
 have m:hj w S w' S:=⟨λ_ _ h=>h,λb j h=>rW (c b (R.b3.st b j h) (λe=>(eh b e).1 j h)) j⟩;refine⟨⟨λb x aa=>?_,R.b3.inj,λb j h=>j0 (R.b3.st b j h) hs⟩,λk g v ak av=>?_,R.hL,R.gX,R.ei,R.size,R.defers,?_,R.own,R.fix,R.hv⟩;have f:=R.b3.blk b x aa;exact dj.mono m (λ_ _=>rfl) (R.ei b x aa).1 (R.ei b x aa).2 (λh0=>c _ (f.j3 h0) (λe=>(eh _ e).2.1 b x aa h0 rfl)) f;obtain⟨x,aa,q⟩:=R.gY k g v ak av;exact⟨x,aa,ch.mono m (λ_ _=>rfl) (R.gX k g v ak av) q⟩
 . refine⟨p.trans R.ext.os,ht.trans R.ext.tape,o.trans R.ext.output,hF R.ext.size hs,λb aD dM=>?_,R.ext.mono.trans m,R.ext.l0⟩;rw[c b (j0 aD R.ext.size) _]
   exact R.ext.block b aD dM;grind
theorem Rel.congr(R:Rel aB nt φ S env σ n a w)(h:∀b,aZ σ' b=aZ σ b):Rel aB nt φ S env σ' n a w:=
 ⟨⟨λb x aa=>R.b3.blk b x (h b▸aa),λb c x y aa al=>R.b3.inj b c x y (h b▸aa) (h c▸al),R.b3.st⟩,R.gY,R.hL,R.gX,λb x aa=>R.ei b x (h b▸aa),R.size,R.defers,R.ext,λb x aa=>R.own b x (h b▸aa),R.fix,R.hv⟩
theorem Rel.sub(R:Rel aB nt φ S env σ n a w)(h:∀b x,aZ σ' b=some x->aZ σ b=some x):Rel aB nt φ S env σ' n a w:=
 ⟨⟨λb x aa=>R.b3.blk b x (h b x aa),λb c x y aa al=>R.b3.inj b c x y (h b x aa) (h c y al),R.b3.st⟩,R.gY,R.hL,R.gX,λb x aa=>R.ei b x (h b x aa),R.size,R.defers,R.ext,λb x aa=>R.own b x (h b x aa),R.fix,R.hv⟩
theorem Rel.del(R:Rel aB nt φ S env σ n a w)(b:Nat):Rel aB nt φ S env (hS σ b) n a w:=
 R.sub λk x aa=>by grind[gb]
theorem Rel.vp(R:Rel aB nt φ S env σ n a w)(c:∀b,n b->bw b=φ b):Rel aB nt bw S env σ n a w:=by
 refine⟨⟨λb x aa=>?_,λb e x y aa al=>?_,R.b3.st⟩,λk g v ak av=>?_,R.hL,R.gX,R.ei,R.size,R.defers,R.ext,λb x aa h0=>?_,λb f=>(c b (R.hv b f)).trans (R.fix b f),R.hv⟩;exact dj.mono (hj.refl w S) c (R.ei b x aa).1 (R.ei b x aa).2 (λ_=>rfl) (R.b3.blk b x aa);rw[c b (R.ei b x aa).1,c e (R.ei e y al).1];exact R.b3.inj b e x y aa al;obtain⟨x,aa,j⟩:=R.gY k g v ak av;exact⟨x,aa,ch.mono (hj.refl w S) c (R.gX k g v ak av) j⟩;rw[c b (R.ei b x aa).1]at h0⊢;exact R.own b x aa h0
theorem Rel.put (R:Rel aB nt φ S env σ n a w){b:Nat}{x:cd}(p:n b)(aa:x.aJ n)(o:dj φ w S b x)
 (q:(φ b).2≠0->(∀k y,aZ σ k=some y->k≠b->(φ k).2≠0->(φ k).1≠(φ b).1)/\(aB.B (φ b).1\/aB.kV.heap.size<=(φ b).1)):Rel aB nt φ S env (dA σ b x) n a w:=by
 refine⟨⟨λk y al=>?_,λk g y j al c f h0 e=>?_,R.b3.st⟩,R.gY,R.hL,R.gX,λk y al=>?_,R.size,R.defers,R.ext,λk y al h0=>?_,R.fix,R.hv⟩
 . rw[dk]at al;split at al
   grind;exact R.b3.blk k y al
 . rw[dk]at al c;split at al
   grind
   . split at c
     grind;exact R.b3.inj k g y j al c f h0 e
 . rw[dk]at al;split at al
   grind;exact R.ei k y al
 . rw[dk]at al;split at al
   grind;exact R.own k y al h0
def e3(φ:dx)(n:Nat)(q:Nat×Nat):dx:=λb=>if b=n then q else φ b
theorem uK{b:Nat}(a:n key=false)(h:n b):e3 φ key q b=φ b:=by grind[e3]
theorem dU{k:Nat}:e3 φ k q k=q:=by simp[e3]
theorem Rel.jZ (R:Rel aB nt φ S env σ n a w)(c:n key=false){x:cd}(q:Nat×Nat)(aa:x.aJ n)(e:dj (e3 φ key q) w S key x)
 (f:q.2≠0->(∀k y,aZ σ k=some y->(φ k).2≠0->(φ k).1≠q.1)/\(aB.B q.1\/aB.kV.heap.size<=q.1)):Rel aB nt (e3 φ key q) S env (dA σ key x) (ins n key) a w:=by
 refine((R.vp (λb h=>uK c h)).more (λ_ h=>ll h)).put afJ (cd.h8 (λ_ h=>ll h) aa) e ?_;rw[dU];intro h0;refine⟨λk y al g h=>?_,(f h0).2⟩;rw[uK c (R.ei k y al).1]at h⊢;grind
theorem tB{o:Obj}{b:Nat}(h:b<w.heap.size):(w.alloc o).heap[b]?=w.heap[b]?:=by
 show(w.heap.push o)[b]?=_;grind
theorem heap_alloc_new{o:Obj}:(w.alloc o).heap[w.heap.size]?=some o:=by
 show(w.heap.push o)[w.heap.size]?=_;simp
theorem Rel.alloc(R:Rel aB nt φ S env σ n a w)(o:Obj):Rel aB nt φ S env σ n a (w.alloc o):=
 R.world (λ_=>False) rfl rfl rfl (by simp) (λb c _=>tB c) (λ_ h=>h.elim)
theorem Rel.wN(R:Rel aB nt φ S env σ n a w)(o:Obj):hj w S (w.alloc o) S:=
 ⟨λ_ _ h=>h,λb j h=>rW (tB (R.b3.st b j h)) j⟩
theorem Rel.Wf(R:Rel aB nt φ S env σ n a w)(e:n key=false)(f:bc (bG φ w S) cs vs)(g:cs.all (C.aJ n))(E:TypeId):
 Rel aB nt (e3 φ key (w.heap.size,1)) S env (dA σ key (.box cs)) (ins n key) a (w.alloc (.cells vs.toArray E)):=by
 have m:=R.wN (.cells vs.toArray E);refine(R.alloc _).jZ e _ g ?_ ?_
 simp only[dj,dU];refine⟨by simp,vs,E,heap_alloc_new,f.imp λc v p o=>bG.mono m (λb h=>uK e h) (by grind) o,λj h=>?_⟩;have:=R.b3.st _ _ h;grind;intro _;refine⟨λk y al h0=>?_,.inr R.ext.size⟩;have:=(R.b3.blk k y al).j3 h0;grind
theorem tT{ty:TypeId}(h:kx P ty=some cs):∃i z,P.info? ty=some i/\i.zero=some z/\bc (bG φ w S) cs z.cells.toList/\cs.all (C.aJ n):=by
 grind[kx,bz,I2]
theorem Mg(R:Rel aB nt φ S env σ n a w){ty:TypeId}(j:o.op= .alloc ty)(b:kx P ty=some cs)
 {p v σ'}(f:n key=false)(h:aU (.alloc cs) env σ key=some (p,v,σ'))(ar:p):cf P aB nt env σ' (ins n key) a v ((execOp a.eval o).run P w):=by
 obtain⟨rfl,rfl,rfl⟩:=h;obtain⟨i,z,g,b,d,e⟩:=tT b;have R':=R.Wf f d e ty;refine⟨.pointer (some ⟨w.heap.size,0,none⟩),_,S,_,.inl ?_,.c ?_,by simp[V.aJ,C.aJ,ins],R'⟩;simp_all[execOp,Instr.alloc,zeroValue,typeInfo,newVar,newRow];grind[bG,dU]
theorem adI(R:Rel aB nt φ S env σ n a w){ty:TypeId}(j:o.op= .box ty x){b:aV}(aa:bT x=some b)
 {p v σ'}(i:n key=false)(h:aU (.box b) env σ key=some (p,v,σ'))(ar:p):cf P aB nt env σ' (ins n key) a v ((execOp a.eval o).run P w):=by
 simp only[aU,bz,bL]at h;obtain⟨⟨k,l⟩,g,cs,f,rfl,rfl,rfl⟩:=h;have av:=cK R aa g ar;obtain⟨d,e⟩:=oJ av.1 f av.2;have R':=R.Wf i d e ty;refine⟨.pointer (some ⟨w.heap.size,0,none⟩),_,S,_,.inl ?_,.c ?_,by simp[V.aJ,C.aJ,ins],R'⟩;simp[execOp,j,Instr.box,newVar,newRow];grind[bG,dU]
def jC{α:Type}(vs:I α)(off:Nat)(xs:I α):I α:=vs.take off++xs++vs.drop (off+xs.length)
theorem oK{vs:I α}{xs:I α}(h:off+xs.length<=vs.length)(k:Nat):
 (jC vs off xs)[k]?=if k<off then vs[k]? else if k<off+xs.length then xs[k-off]? else vs[k]?:=by
 unfold jC;by_cases h1:k<off;grind;grind
theorem p5{vs:I α}{xs:I α}(h:off+xs.length<=vs.length):(jC vs off xs).length=vs.length:=by
 grind[jC]
theorem Nu{vs:I α}{x:α}{xs:I α}(h:off+(x::xs).length<=vs.length):jC (vs.set off x) (off+1) xs=jC vs off (x::xs):=by
 apply xX;grind[oK]
theorem Mp{b:Nat}(h:w.heap[b]?=some (.cells vs.toArray E (0,0)))(off:Nat)(v:Value):
 (w.setCell ⟨b,off,none⟩ v).heap[b]?=some (.cells (vs.set off v).toArray E (0,0))/\∀a,a≠b->(w.setCell ⟨b,off,none⟩ v).heap[a]?=w.heap[a]?:=by
 simp_all[World.setCell,Hw,ee]
theorem nw{b:Nat}{E:TypeId}:∀(xs:I Value) (off i:Nat) (vs:I Value) (w:World),w.heap[b]?=some (.cells vs.toArray E (0,0))->off+i+xs.length<=vs.length->(∀x,x∈xs->x.oneCell')->
 ∃w',(storeCells ⟨b,off,none⟩ xs i).run P w= .ok () w'/\w'.os=w.os/\w'.tape=w.tape/\w'.output=w.output/\w'.heap.size=w.heap.size/\
  w'.heap[b]?=some (.cells (jC vs (off+i) xs).toArray E (0,0))/\∀a:Nat,a≠b->w'.heap[a]?=w.heap[a]?
 |[],off,i,vs,w,h,ak,d=>⟨w,rfl,rfl,rfl,rfl,rfl,by simp[jC,h],λ_ _=>rfl⟩
 |x::xs,off,i,vs,w,h,ak,d=>by
  have l:Addr.add ⟨b,off,none⟩ i=⟨b,off+i,none⟩:=by grind[Addr.add]
  have aD:off+i<vs.length:=by grind
  have m:w.cell? ⟨b,off+i,none⟩=some vs[off+i]:=by rw[jv h];simp
  have n:w.frozen? ⟨b,off+i,none⟩=false:=by grind[World.frozen?]
  have hs:=Mp h (off+i) x;obtain⟨w',h1,e,f,g,bu,k,j⟩:=nw xs off (i+1) _ _ hs.1 (by grind) (λy al=>d y (by grind));refine⟨w',?_,e,f,g,by simp_all,?_,λa c=>(j a c).trans (hs.2 a c)⟩;simp_all[storeCells,run_store];grind[Nu]
theorem bc.fill{c:Type}{R:α->c->Prop}{cs a:I α}{vs xs:I c}(h:bc R cs vs)(k:bc R a xs)(o:Nat):bc R (cs.take o++a++cs.drop (o+a.length)) (jC vs o xs):=by
 rw[k.length];exact((h.take o).append k).append (h.drop _)
theorem Ls(h:bc (bG φ w S) cs xs):∀x,x∈xs->x.oneCell':=by
 induction h with
 |nil=>simp
 |cons h _ ih=>
  intro x aa;rcases fk.1 aa with rfl|aa;exact bG.jG h;grind
theorem ch.undef:ch φ w S (.bd []) undef:= .bd [] [] rfl (by simp)
theorem sA:∀{cs:I C} {ts:I T} {xs:I Value},toTs cs=some ts->bc (bG φ w S) cs xs->bc (ca w S) ts xs
 |[],ts,xs,h,b=>by simp[toTs]at h;subst h;cases b;exact .nil
 |c::cs,ts,xs,h,b=>by
  simp[toTs,bz,bL]at h;obtain⟨t,ht,f,e,rfl⟩:=h;cases b with
  |cons h1 d=>
   refine .cons ?_ (sA e d);unfold toT at ht;split at ht<;>simp at ht
   subst ht;exact h1;subst ht;obtain⟨a,rfl⟩:=h1;exact ca.slice [] a 0 0 0 0 (λ_ _=>undef) (by simp) (by simp) (by simp) (by simp) (by simp) (by simp)
theorem w1:∀{cs:I C} {ts:I T},toTs cs=some ts->ts.length=cs.length
 |[],ts,h=>by grind[toTs]
 |c::cs,ts,h=>by
  simp[toTs,bz,bL]at h;obtain⟨t,ht,b,a,rfl⟩:=h;simp[w1 a]
theorem Kj{n:Nat->J}{cs a:I C}(h:cs.all (C.aJ n))(k:a.all (C.aJ n))(o:Nat):(wq cs o a).all (C.aJ n):=by
 grind[wq]
theorem x0{vs:I α}{p:Nat}{x:α}(h:p<vs.length)(q:Nat):(jC vs (p+0) [x])[q]?=if q=p then some x else vs[q]?:=by
 grind[oK]
theorem BL{sz i j a b:Nat}(d:j<sz)(e:b<sz)(h:i*sz+j=a*sz+b):i=a/\j=b:=by
 rcases Nat.lt_trichotomy i a with c|c|c;have:=fG sz (show i+1<=a from c);grind;grind;have:=fG sz (show a+1<=i from c);grind
theorem Rel.rewrite(R:Rel aB nt φ S env σ n a w){b:Nat}{x p:cd}(f:aZ σ b=some x)(h0:(φ b).2≠0)(F:p.aJ n)
 (E:w'.os=w.os)(ht:w'.tape=w.tape)(D:w'.output=w.output)(hs:w'.heap.size=w.heap.size)(q:∀g:Nat,g≠(φ b).1->w'.heap[g]?=w.heap[g]?)
 (B:hj w S w' S->dj φ w' S b p):Rel aB nt φ S env (dA σ b p) n a w':=by
 have t:=R.b3.blk b x f
 have v:=(R.del b).world _ E ht D (vf hs.symm) (λk _ c=>q k c) (λk c=>by
  subst c;refine⟨t.qM h0,λk y al c=>?_,R.own b x f h0⟩;rw[gb]at al;split at al;grind
  . rename_i o
    exactλe=>R.b3.inj k b y x al f (ee o) c h0 e)
 have m:hj w S w' S:=⟨λ_ _ h=>h,λk j h=>rW (q k (λe=>t.qM h0 j (e▸h))) j⟩
 have A:=v.put (R.ei b x f).1 F (B m) (λ_=>⟨λk y al o c=>by
  rw[gb]at al;split at al;grind
  . exact R.b3.inj k b y x al f o c h0,R.own b x f h0⟩)
 refine A.congr λk=>?_;grind[dk,gb]
theorem acA(R:Rel aB nt φ S env σ n a w){ty:TypeId}(be:o.op= .store ty x y){k:Nat}(bd:eK P ty=some k){aw ax:aV}(aa:bT x=some aw)(al:bT y=some ax)
 {p v σ'}(bb:n key=false)(h:aU (.store k aw ax) env σ key=some (p,v,σ'))(ar:p):cf P aB nt env σ' (ins n key) a v ((execOp a.eval o).run P w):=by
 simp only [aU,bz,e2] at h;obtain ⟨⟨bl,bn⟩,U,⟨bm,bo⟩,V,cs,K,X,he⟩:= h;simp only at he K;have Y:∀ (blk off:Nat) (xs:I Value) (w':World),a.eval x = .pointer (some ⟨blk,off,none⟩)->(a.eval y).cells.toList = xs->xs.length = k->(storeCells ⟨blk,off,none⟩ xs 0).run P w = .ok () w'->
  (execOp a.eval o).run P w= .ok .skip w':=by
  intro blk off xs w' h1 aA a' ba;have bu:(a.eval y).cells.size=k:=by grind
  simp_all[execOp,Instr.storeAt,Instr.sureAddr,storeVar,jQ]
 split at he
 . rename_i b f;split at he
   . rename_i a9 q;simp only[e2,eo,eB]at he;obtain⟨af,rfl,rfl,rfl⟩:=he;have h1:=(cK R aa U ar.1).1.hQ;have l:=cK R al V ar.2;obtain⟨g,z⟩:=oJ l.1 K l.2;obtain⟨h0,vs,E,ad,aD,O⟩:=R.b3.blk _ _ q;have bh:=aD.length;have A:(a.eval y).cells.toList.length=k:=by rw[<-g.length,X]
     obtain⟨w',d,bj,bq,b4,cv,cZ,c7⟩:=nw (P:=P) _ f 0 vs w ad (by omega) (Ls g);refine⟨undef,φ,S,w',.inr ⟨Y _ _ _ w' h1 rfl A d,rfl⟩,.undef,rfl,Rel.more ?_ λ_ h=>ll h⟩;refine R.rewrite q h0 (by simpa[cd.aJ]using Kj ((R.ei _ _ q).2) z f) bj bq b4 cv c7 (λm=>?_);refine⟨h0,_,E,cZ,?_,O⟩;exact(aD.imp λc v am d=>bG.mono m (λ_ _=>rfl) (gF.1 (R.ei _ _ q).2 c am) d).fill (g.imp λc v am d=>bG.mono m (λ_ _=>rfl) (gF.1 z c am) d) f
   . rename_i E az q;split at he
     . rename_i c;simp only[eo,eB]at he;obtain⟨rfl,rfl,rfl⟩:=he;have h1:=(cK R aa U ar.1).1.hQ;have l:=cK R al V ar.2;obtain⟨g,z⟩:=oJ l.1 K l.2;obtain⟨h0,⟨aI,a8,ad,aT,bf⟩,O⟩:=R.b3.blk _ _ q;have A:(a.eval y).cells.toList.length=k:=by rw[<-g.length,X]
       have W:k=1:=by rw[<-X];rfl
       obtain⟨s,J⟩:∃s,(a.eval y).cells.toList=[s]:=by
        match h:(a.eval y).cells.toList with
        |[s]=>exact⟨s,rfl⟩
        |[]=>rw[h]at A;simp at A;omega
        |_::_::_=>rw[h]at A;simp at A;omega
       obtain⟨w',d,bj,bq,b4,cv,cZ,c7⟩:=nw (P:=P) (a.eval y).cells.toList 1 0 [aI,a8] w (b:=(φ b).1) (E:=E) ad (by rw[J];simp) (Ls g);rw[J]at g cZ;cases g with|cons an _=>
       have D:c.aJ n:=(by simpa using z);refine⟨undef,φ,S,w',.inr ⟨Y _ _ _ w' h1 rfl A d,rfl⟩,.undef,rfl,Rel.more ?_ λ_ h=>ll h⟩;refine R.rewrite q h0 (by simpa[cd.aJ]using D) bj bq b4 cv c7 (λm=>?_);exact⟨h0,⟨aI,s,cZ,aT,bG.mono m (λ_ _=>rfl) D an⟩,O⟩
     cases he
   grind
 . rename_i b sz i f;have av:∀{c:C} {xs:I Value},bc (bG φ w S) [c] xs->∃x,xs=[x]/\bG φ w S c x:=by
    intro c xs h;cases h with|cons h1 aA=>cases aA;grind
   split at he
   . rename_i a0 es q;split at he
     . rename_i c aS;have an:cs=[c]:=by
        unfold zH at aS;grind
       subst an;obtain⟨rfl,rfl,rfl⟩:=he;obtain⟨Q,T,rfl,F,aG⟩:=ar;have h1:=(cK R aa U Q).1.jB;have l:=cK R al V T;obtain⟨g,z⟩:=oJ l.1 K l.2;have W:k=1:=by rw[<-X];rfl
       obtain⟨s,J,H⟩:=av g;have Z:=R.b3.blk _ _ q;obtain⟨h0,vs,E,xs,ad,ak,aO,A,aj,ao,af⟩:=Ki Z F;obtain⟨g1,g2,g3,g4,ai⟩:=Z;obtain⟨a7,aJ,ab,aR,au,O⟩:=ai h0;rw[ad]at ab;cases ab;rw[ja]at af;have G:i*sz+f<vs.length:=(by omega);obtain⟨w',d,bj,bq,b4,cv,cZ,c7⟩:=nw (P:=P) [s] (i*sz+f) 0 vs w ad (by simp;omega) (λx aa=>by rw[nQ.1 aa];exact bG.jG H);refine⟨undef,φ,S,w',.inr ⟨Y _ _ _ w' h1 J (by simp[W]) d,rfl⟩,.undef,rfl,Rel.more ?_ λ_ h=>ll h⟩;have D:c.aJ n:=(by simpa using z);refine R.rewrite q h0 (by simpa[cd.aJ]using D) bj bq b4 cv c7 (λm=>?_);refine⟨⟨g1,g2,g3,g4,F,by omega⟩,⟨_,E,cZ,by rw[p5 (by simp;omega)];exact ak,λB j e t he ht N=>?_,s,?_,bG.mono m (λ_ _=>rfl) D H⟩,O⟩
       . obtain⟨v,r,d⟩:=au _ _ _ _ he ht;have u:j<sz:=by rw[<-g3 _ (fQ he)];exact(ev.1 ht).1
         rw[x0 G,aq (λe=>N (BL u (by omega) e))];exact⟨v,r,ca.mono m d⟩
       rw[x0 G,ag rfl]
     simp only[bz,eo,eB]at he;obtain⟨ts,aH,rfl,rfl,rfl⟩:=he;obtain⟨Q,T,rfl,F,aG⟩:=ar;have h1:=(cK R aa U Q).1.jB;have l:=cK R al V T;obtain⟨g,z⟩:=oJ l.1 K l.2;have aX:=sA aH g;have bg:=w1 aH;have Z:=R.b3.blk _ _ q;obtain⟨h0,vs,E,xs,ad,ak,aO,A,aj,ao,af⟩:=Ki Z F;obtain⟨g1,g2,g3,g4,ai⟩:=Z;obtain⟨a7,aJ,ab,aR,au,O⟩:=ai h0;rw[ad]at ab;cases ab;rw[ja]at af;have aZ:(a.eval y).cells.toList.length=k:=by rw[<-g.length,X]
     obtain⟨w',d,bj,bq,b4,cv,cZ,c7⟩:=nw (P:=P) _ (i*sz+f) 0 vs w ad (by omega) (Ls g);have aW:=d;refine⟨undef,φ,S,w',.inr ⟨Y _ _ _ w' h1 rfl aZ aW,rfl⟩,.undef,rfl,Rel.more ?_ λ_ h=>ll h⟩;refine R.rewrite q h0 rfl bj bq b4 cv c7 (λm=>?_);refine⟨by simpa using g1,by simpa using g2,?_,g4,λ_=>⟨_,E,cZ,by rw[p5 (by omega)];exact ak,?_,O⟩⟩
     . intro e he;rcases Dt he with he|rfl
       exact g3 e he;simp;omega
     . intro B j e t he ht;rw[ve,oK (by omega)];rw[Di]at he;by_cases M:i=B
       . subst M;rw[ag rfl,ag F]at he;cases he;have aQ:=(ev.1 ht).1;simp at aQ;have u:j<sz:=(by omega);have L:=(oK (vs:=el es i) (off:=f) (xs:=ts) (by omega) j)
         unfold jC at L;rw[show f+ts.length=f+k by omega]at L;rw[L]at ht;by_cases c1:j<f;rw[ag c1]at ht;rw[jE,ao j u];obtain⟨v,r,d⟩:=aj.get ht;exact⟨v,r,ca.mono m d⟩
         . rw[aq c1]at ht;rw[b9];by_cases c2:j<f+k
           rw[jE]at ht;rw[jE,show i*sz+j-(i*sz+f)=j-f by omega];obtain⟨v,r,d⟩:=aX.get ht;exact⟨v,r,ca.mono m d⟩;rw[b9]at ht;rw[b9,ao j u];obtain⟨v,r,d⟩:=aj.get ht;exact⟨v,r,ca.mono m d⟩
       . rw[aq M]at he;obtain⟨v,r,d⟩:=au _ _ _ _ he ht;have u:j<sz:=by rw[<-g3 _ (fQ he)];exact(ev.1 ht).1
         have:B*sz+j<i*sz+f\/i*sz+f+k<=B*sz+j:=by
          rcases Nat.lt_or_gt_of_ne M with h|h;right;have:=fG sz (show i+1<=B from h);grind;left;have:=fG sz (show B+1<=i from h);grind
         rcases this with h|h;rw[ag h];exact⟨v,r,ca.mono m d⟩;rw[b9,b9];exact⟨v,r,ca.mono m d⟩
   . rename_i a0 es bi bk az q;obtain⟨⟨a1,a2,a3,a4,a5,ae⟩,⟨vs,E,b1,b2,ah,aM,aK,aL⟩,ay⟩:=R.b3.blk _ _ q;have aC:az.aJ n:=(by simpa[cd.aJ]using(R.ei _ _ q).2);have h0:(φ b).2≠0:=(by omega);split at he
     . rename_i c;have W:k=1:=by rw[<-X];rfl
       split at he
       . rename_i ap;subst ap;obtain⟨rfl,rfl,rfl⟩:=he;obtain⟨Q,T,rfl,rfl⟩:=ar;have h1:=(cK R aa U Q).1.jB;have l:=cK R al V T;obtain⟨g,z⟩:=oJ l.1 K l.2;obtain⟨s,J,H⟩:=av g;have G:i*sz+f<vs.length:=by
          rw[b2];have:=fG sz (show i+1<=(φ b).2 by omega);rw[ja]at this;omega
         obtain⟨w',d,bj,bq,b4,cv,cZ,c7⟩:=nw (P:=P) [s] (i*sz+f) 0 vs w b1 (by simp;omega) (λx aa=>by rw[nQ.1 aa];exact bG.jG H);refine⟨undef,φ,S,w',.inr ⟨Y _ _ _ w' h1 J (by simp[W]) d,rfl⟩,.undef,rfl,Rel.more ?_ λ_ h=>ll h⟩;have D:c.aJ n:=(by simpa using z);refine R.rewrite q h0 (by simpa[cd.aJ]using D) bj bq b4 cv c7 (λm=>?_);refine⟨⟨a1,a2,a3,a4,a5,ae⟩,⟨_,E,cZ,by rw[p5 (by simp;omega)];exact b2,λB j e t he ht N=>?_,s,?_,bG.mono m (λ_ _=>rfl) D H⟩,ay⟩
         . obtain⟨v,r,d⟩:=ah _ _ _ _ he ht N;have u:j<sz:=by rw[<-a3 _ (fQ he)];exact(ev.1 ht).1
           rw[x0 G,aq (λe=>N (BL u ae e))];exact⟨v,r,ca.mono m d⟩
         rw[x0 G,ag rfl]
       . rename_i ap;simp only[bz,eo,eB]at he;obtain⟨t,aN,rfl,rfl,rfl⟩:=he;obtain⟨Q,T,rfl,F,aG⟩:=ar;have h1:=(cK R aa U Q).1.jB;have l:=cK R al V T;obtain⟨g,z⟩:=oJ l.1 K l.2;obtain⟨s,J,H⟩:=av g;have aY:ca w S t s:=by
          have h1:=sA (cs:=[c]) (ts:=[t]) (xs:=[s]) (by simp[toTs,aN]) (.cons H .nil);cases h1 with|cons h _=>grind
         have G:i*sz+f<vs.length:=by
          have:=fG sz (show i+1<=(φ b).2 by omega);rw[ja]at this;omega
         obtain⟨w',d,bj,bq,b4,cv,cZ,c7⟩:=nw (P:=P) [s] (i*sz+f) 0 vs w b1 (by simp;omega) (λx aa=>by rw[nQ.1 aa];exact bG.jG H);refine⟨undef,φ,S,w',.inr ⟨Y _ _ _ w' h1 J (by simp[W]) d,rfl⟩,.undef,rfl,Rel.more ?_ λ_ h=>ll h⟩;refine R.rewrite q h0 (by simpa[cd.aJ]using aC) bj bq b4 cv c7 (λm=>?_);have aE:es[i]?=some (el es i):=by unfold el;rw[List.getD,fm F];rfl
         have aP:(el es i).length=sz:=a3 _ (fQ aE);refine⟨⟨by grind,by simpa using a2,λe he=>?_,a4,by simpa using a5,ae⟩,⟨_,E,cZ,by rw[p5 (by simp;omega)];exact b2,λB j e a6 he ht N=>?_,aM,?_,bG.mono m (λ_ _=>rfl) aC aL⟩,ay⟩
         . rcases Dt he with he|rfl
           exact a3 e he;simp;omega
         . rw[x0 G];rw[Di]at he;by_cases M:i=B
           . subst M;rw[ag rfl,ag F]at he;cases he;have L:=(oK (vs:=el es i) (off:=f) (xs:=[t]) (by simp;omega) j)
             unfold jC at L;rw[show f+[t].length=f+k by simp[W]]at L;rw[L]at ht;by_cases c1:j=f;subst c1;rw[b9,jE,Nat.sub_self]at ht;cases ht;rw[ag rfl];exact⟨s,rfl,ca.mono m aY⟩
             . have aF:(el es i)[j]?=some a6:=by
                by_cases c2:j<f;rwa [ag c2]at ht;rwa [aq c2,b9]at ht
               have u:j<sz:=by rw[<-aP];exact(ev.1 aF).1
               obtain⟨v,r,d⟩:=ah _ _ _ _ aE aF N;rw[aq (λe=>c1 (BL u (by omega) e).2)];exact⟨v,r,ca.mono m d⟩
           . rw[aq M]at he;obtain⟨v,r,d⟩:=ah _ _ _ _ he ht N;have u:j<sz:=by rw[<-a3 _ (fQ he)];exact(ev.1 ht).1
             rw[aq (λe=>M (BL u (by omega) e).1.symm)];exact⟨v,r,ca.mono m d⟩
         rw[x0 G,aq (λe=>ap (BL ae (by omega) e).2.symm)];exact aK
     cases he
   cases he
 cases he
theorem Nv:∀(xs:I Value) (k off:Nat) (cs:Array Value),off+k+xs.length<=cs.size->
 (((xs.zipIdx k).foldl (λcs (c,j)=>cs.setIfInBounds (off+j) c) cs):Array Value).toList=jC cs.toList (off+k) xs
 |[],k,off,cs,h=>by simp[jC]
 |x::xs,k,off,cs,h=>by
  rw[List.zipIdx_cons,qS,Nv xs _ _ _ (by grind)];grind[Nu]
theorem JW{place:Nat->ai (Nat×Nat)}{a:Array Value}{i:Nat}{r:I (Nat×Value)}{sz:Nat}(ar:place i=some (off,sz))(h1:v.cells.size=sz)(b:off+sz<=a.size):
 Instr.fill place a ((i,v)::r)=Instr.fill place (jC a.toList off v.cells.toList).toArray r:=by
 simp only[Instr.fill,ar];rw[aq (by grind)];congr 1;have:=Nv v.cells.toList 0 off a (by grind);rw[<-Array.foldl_toList];grind
theorem Mq {fs:Array Field}{place:Nat->ai (Nat×Nat)}(R:Rel aB nt φ S env σ n a w)
 (m:∀(j:Nat) f k,fs[j]?=some f->eK P f.type=some k->place j=some (f.offset,k)):
 ∀{parts:I (Nat×Operand)} {ps:I (Nat×Nat×aV)} {cs:I C} {vs:I Value} {p:Prop} {b:I C},w3 P fs parts=some ps->lO env cs ps=some (p,b)->p->
  bc (bG φ w S) cs vs->cs.all (C.aJ n)->
  ∃us:I Value,Instr.fill place vs.toArray (parts.map λ(i,x)=>(i,a.eval x))=some us.toArray/\bc (bG φ w S) b us/\b.all (C.aJ n)=true
 |[],ps,cs,vs,p,b,e,d,ar,c,g=>by
  grind[w3,lO,Instr.fill]
 |(j,x)::r,ps,cs,vs,p,b,e,d,ar,c,g=>by
  simp[w3,bz,bL]at e;obtain⟨f,u,k,y,B,aa,J,z,rfl⟩:=e;simp only[lO,bz,e2,bL]at d;obtain⟨⟨q,v⟩,av,es,t,⟨h1,E⟩,⟨K,D⟩,s,rfl,rfl⟩:=d;have l:=cK R aa av ar.1;obtain⟨o,A⟩:=oJ l.1 t l.2;have ak:=c.length;have H:=o.length;obtain⟨us,F,G,bu⟩:=Mq R m z s ar.2 (by exact c.fill o _) (Kj g A _);simp;rw[JW (m j f k u y) (by grind) (by grind)];grind
theorem MQ{place:Nat->ai (Nat×Nat)}{m:Nat}(R:Rel aB nt φ S env σ n a w)(k:∀j,place j=some (j*m,m)):
 ∀{parts:I (Nat×Operand)} {ps:I (Nat×Nat×aV)} {cs:I C} {vs:I Value} {p:Prop} {b:I C},xZ m parts=some ps->lO env cs ps=some (p,b)->p->
  bc (bG φ w S) cs vs->cs.all (C.aJ n)->
  ∃us:I Value,Instr.fill place vs.toArray (parts.map λ(i,x)=>(i,a.eval x))=some us.toArray/\bc (bG φ w S) b us/\b.all (C.aJ n)=true
 |[],ps,cs,vs,p,b,e,d,ar,c,f=>by
  grind[xZ,lO,Instr.fill]
 |(j,x)::r,ps,cs,vs,p,b,e,d,ar,c,f=>by
  simp[xZ,bz,bL]at e;obtain⟨y,aa,F,t,rfl⟩:=e;simp only[lO,bz,e2,bL]at d;obtain⟨⟨q,v⟩,av,es,s,⟨h1,A⟩,⟨G,z⟩,o,rfl,rfl⟩:=d;have g:=cK R aa av ar.1;obtain⟨l,u⟩:=oJ g.1 s g.2;have ak:=c.length;have E:=l.length;obtain⟨us,B,D,bu⟩:=MQ R k t o ar.2 (by exact c.fill l _) (Kj f u _);simp;rw[JW (k j) (by grind) (by grind)];grind
theorem ac9{fs:I Field}(h:∀f,f∈fs->∃k,eK P f.type=some k):
 ∃ps:I (Nat×Nat),(fs.mapM λf=>do pure (f.offset,<-sizeOf f.type):Sem (I (Nat×Nat))).run P w= .ok ps w/\ps.length=fs.length/\∀(j:Nat) f k,fs[j]?=some f->eK P f.type=some k->ps[j]?=some (f.offset,k):=by
 induction fs with
 |nil=>simp
 |cons f fs ih=>
  obtain⟨ps,h1,ak,a⟩:=ih λf b=>h f (by grind);obtain⟨k,c⟩:=h f (by simp);refine⟨(f.offset,k)::ps,?_,by grind,?_⟩;simp_all[jQ];grind
theorem acB(R:Rel aB nt φ S env σ n a w){ty:TypeId}{parts:Array (Nat×Operand)}(l:o.op= .build ty parts)(r:P.underlying ty=some (.struct fs))(y:Jc P fs)
 {z:I C}(s:kx P ty=some z){ps:I (Nat×Nat×aV)}(m:w3 P fs parts.toList=some ps)
 {p v σ'}(g:n key=false)(h:aU (.build z ps) env σ key=some (p,v,σ'))(ar:p):cf P aB nt env σ' (ins n key) a v ((execOp a.eval o).run P w):=by
 simp only[aU,bL]at h;obtain⟨⟨q,t⟩,d,rfl,rfl,rfl⟩:=h;obtain⟨i,H,A,G,c,e⟩:=tT s
 obtain⟨pl,B,E,F⟩:=ac9 (P:=P) (w:=w) (fs:=fs.toList) (by
  grind[Jc,Option.isSome_iff_exists])
 have D:(fs.mapM λf=>do pure (f.offset,<-sizeOf f.type):Sem _).run P w= .ok pl.toArray w:=by
  simp_all[Array.mapM_eq_mapM_toList]
 obtain⟨us,h1,b,u⟩:=Mq (place:=(pl.toArray[·]?)) R (λj f k x g=>by grind) m d ar c e;refine cf.pure R ?_ (.agg b) (by grind[V.aJ]);simp only[execOp,l,Instr.build,zeroValue,typeInfo,Sem.run_bind,run_program,Result.andThen_ok,Sem.run_pure,underlying,r];simp_all
theorem abp(R:Rel aB nt φ S env σ n a w){ty:TypeId}{parts:Array (Nat×Operand)}(r:o.op= .build ty parts){len:Nat}(t:P.underlying ty=some (.array len e)){m:Nat}(l:eK P e=some m)
 {z:I C}(u:kx P ty=some z){ps:I (Nat×Nat×aV)}(s:xZ m parts.toList=some ps)
 {p v σ'}(E:n key=false)(h:aU (.build z ps) env σ key=some (p,v,σ'))(ar:p):cf P aB nt env σ' (ins n key) a v ((execOp a.eval o).run P w):=by
 simp only[aU,bL]at h;obtain⟨⟨q,B⟩,f,rfl,rfl,rfl⟩:=h;obtain⟨i,A,k,y,d,g⟩:=tT u;obtain⟨us,h1,c,D⟩:=MQ R (λj=>rfl) s f ar d g;refine cf.pure R ?_ (.agg c) (by grind[V.aJ]);have b:Instr.fill (λi=>some (i*m,m)) A.cells ((parts.map λ(i,x)=>(i,a.eval x)).toList)=some us.toArray:=by simp_all
 simp at b;simp[execOp,r,Instr.build,zeroValue,typeInfo,k,y,underlying,t,jQ l,b]
def jf(w:World)(S:dy)(sz:Nat)(es:I (I T))(vs:I Value):Prop:=
 ∀(i j:Nat) e t,es[i]?=some e->e[j]?=some t->∃v,vs[i*sz+j]?=some v/\ca w S t v
theorem I3{sz:Nat}(R:Rel aB nt φ S env σ n a w)(h0:0<sz):
 ∀{parts:I (Nat×Operand)} {ps:I (Nat×aV)} {es:I (I T)} {vs:I Value} {p:Prop} {c:I (I T)},qd parts=some ps->kg env sz es ps=some (p,c)->p->
  (∀e,e∈es->e.length=sz)->vs.length=es.length*sz->jf w S sz es vs->
  ∃us:I Value,Instr.fill (λi=>some (i*sz,sz)) vs.toArray (parts.map λ(i,x)=>(i,a.eval x))=some us.toArray/\(∀e,e∈c->e.length=sz)/\c.length=es.length/\us.length=vs.length/\jf w S sz c us/\(∀u,u∈us->u∈us)
 |[],ps,es,vs,p,c,g,d,ar,y,ak,k=>by
  grind[qd,kg,Instr.fill]
 |(b,x)::r,ps,es,vs,p,c,g,d,ar,y,ak,k=>by
  simp[qd,bz,bL]at g;obtain⟨G,aa,P,D,rfl⟩:=g;simp only[kg,bz,e2,bL]at d;obtain⟨⟨q,v⟩,av,cs,C,ts,E,⟨h1,l⟩,⟨Q,H⟩,B,rfl,rfl⟩:=d;have m:=cK R aa av ar.1;obtain⟨F,N⟩:=oJ m.1 C m.2;have s:=sA E F;have O:=s.length;have M:b*sz+sz<=vs.length:=by
   have:=fG sz (show b+1<=es.length from l);grind
  obtain ⟨us,J,z,bu,K,A,L⟩:= I3 R h0 D B ar.2 (vs:= jC vs (b*sz) (a.eval x).cells.toList) (by
   grind) (by grind[p5]) (by
   intro i j e t he ht;rw[oK (by omega)];rw[Di]at he;by_cases f:b=i;subst f;rw[ag rfl,ag l]at he;cases he;have o:=(ev.1 ht).1;rw[cN,jE,show b*sz+j-b*sz=j by simp];exact s.get ht
   . rw[aq f]at he;have o:=(ev.1 ht).1;rw[y _ (fQ he)]at o;rcases Nat.lt_or_gt_of_ne f with h|h
     have:=fG sz (show b+1<=i from h);rw[ja]at this;rw[b9,b9];exact k _ _ _ _ he ht
     . have:=fG sz (show i+1<=b from h);rw[ja]at this;rw[jE]
       exact k _ _ _ _ he ht)
  refine⟨us,?_,z,by grind,by grind[p5],A,λ_ h=>h⟩;simp only[qT];rw[JW rfl (by grind) (by grind)];grind
theorem Jf{z:Array Value}{sz len:Nat}(c:z.size=sz)(h0:0<sz)(i j:Nat)(a:i<len)(b:j<sz):
 ((Array.range (len*sz)).map (z[· % z.size]!))[i*sz+j]?=z[j]?:=by
 have aD:i*sz+j<len*sz:=by
  have:=fG sz (show i+1<=len from a);grind
 simp_all[pa]
theorem MR{ty:TypeId}{len:Nat}{parts:Array (Nat×Value)}(g:P.underlying ty=some (.slice e)){sz:Nat}(f:eK P e=some sz){i:TypeInfo}{a:Value}(n:P.info? e=some i)(p:i.zero=some a)
 (h0:sz≠0)(o:len*sz<=2^24){b:Array Value}(k:b=(Array.range (len*sz)).map (a.cells[· % a.cells.size]!)){us:I Value}(c:Instr.fill (λi=>some (i*sz,sz)) b parts.toList=some us.toArray):
 (Instr.buildSlice ty len parts).run P w= .ok (.slice (some ⟨w.heap.size,0,none⟩) len len) (w.alloc (.cells us.toArray e)):=by
 have d:¬(len*sz>2^24):=by omega
 have m:∀w,(zeroValue e).run P w= .ok a w:=by simp_all[zeroValue,typeInfo]
 by_cases ak:len*sz=0;have l:b=#[]:=(by grind);subst l;have j:(Array.map (λx=>(#[]:Array Value)[x%(#[]:Array Value).size]!) (Array.range (len*sz)))=#[]:=(by grind);unfold Instr.buildSlice;simp only[Sem.run_bind,run_underlying g,Result.andThen_ok,jQ f,aq d,ag ak,Sem.run_pure,j,c];rfl;unfold Instr.buildSlice;subst k;simp only[Sem.run_bind,run_underlying g,Result.andThen_ok,jQ f,aq d,aq ak,Sem.run_pure,m,c];rfl
theorem aba(R:Rel aB nt φ S env σ n a w){ty:TypeId}{len:Nat}{parts:Array (Nat×Operand)}(Y:o.op= .buildSlice ty len parts)(ab:P.underlying ty=some (.slice e)){sz:Nat}(Z:eK P e=some sz)
 {z:I C}(J:kx P e=some z){ps:I (Nat×aV)}(F:qd parts.toList=some ps)(h0:sz≠0)(K:z.length=sz)(W:len*sz<=2^24)
 {p v σ'}(E:n key=false)(h:aU (.bslice sz len z ps) env σ key=some (p,v,σ'))(ar:p):cf P aB nt env σ' (ins n key) a v ((execOp a.eval o).run P w):=by
 simp only[aU,bz,bL]at h;obtain⟨l,N,⟨q,u⟩,D,rfl,rfl,rfl⟩:=h;obtain⟨i,f,d,af,g,T⟩:=tT (φ:=φ) (w:=w) (S:=S) (n:=n) J;have M:=sA N g;have L:f.cells.size=sz:=by rw[<-Dg,<-g.length,K]
 have b:0<sz:=by omega
 have ae:l.length=sz:=by grind[w1]
 obtain ⟨us,h1,A,B,Q,bu,_⟩:= I3 R b F D ar (vs:= ((Array.range (len*sz)).map _).toList) (by
  grind) (by simp) (by
  intro i j e t he ht;have d:=(ev.1 he).1;simp at d;have:e=l:=by
   grind
  subst this;have U:=(ev.1 ht).1;obtain⟨x,aa,G⟩:=M.get ht;rw[Hx,Jf L b i j d (by omega)]
  grind)
 simp at B;have H:us.length=len*sz:=by grind
 have r:=R.alloc (.cells us.toArray e);have m:=R.wN (.cells us.toArray e);have X:len<=dT:=by
  have:=Ht len b;grind[dT]
 have s:=r.jZ E (x:= .arr sz u) (w.heap.size,len) rfl (by
  simp only[dj,dU];refine⟨by omega,by omega,A,b,λ_=>⟨us,e,heap_alloc_new,H,λi j e t he ht=>?_,λj h=>?_⟩⟩;obtain⟨v,ad,G⟩:=bu i j e t he ht;grind[ca.mono]
  . have:=R.b3.st _ _ h
    omega) (λ_=>⟨λk y al h0=>by
     have:=(R.b3.blk k y al).j3 h0
     grind,.inr R.ext.size⟩)
 refine⟨.slice (some ⟨w.heap.size,0,none⟩) len len,_,S,_,.inl ?_,.c ⟨some ⟨w.heap.size,0,none⟩,by simp[dU],by simp[dU],by simp[dU]⟩,by simp[V.aJ,C.aJ,ins],s⟩;have O:Instr.fill (λi=>some (i*sz,sz)) ((Array.range (len*sz)).map (f.cells[· % f.cells.size]!)) ((parts.map λ(i,x)=>(i,a.eval x)).toList)=some us.toArray:=by
  rw[Array.toList_map];omega
 simp_all[MR,execOp,Sem.run_bind,Result.andThen_ok]
theorem Oz(a:Nat):∀(r c:Nat),c<=2*a+192->Builtin.growBy a r c<=2*a+192
 |0,c,h=>h
 |r+1,c,h=>by
  unfold Builtin.growBy;split;grind;exact Oz _ r _ (by omega)
theorem aax{a b:Nat}(h:b<a):Builtin.nextslicecap a b<=2*a+192:=by
 grind[Builtin.nextslicecap,Oz]
theorem Nw(a:Nat):∀(r c:Nat),c<=a+a/4+512->Builtin.growBy a r c<=a+a/4+512
 |0,c,h=>h
 |r+1,c,h=>by
  unfold Builtin.growBy;split;grind;exact Nw _ r _ (by omega)
theorem aaU{a b:Nat}(h:b<a):Builtin.nextslicecap a b<=a+a/4+512:=by
 grind[Builtin.nextslicecap,Nw]
theorem ki.not{e bytes:Nat}(h:f<e)(c:ki e bytes):¬(Builtin.nextslicecap e f*bytes>2^48):=by
 have a:=fG bytes (aax h);have b:=fG bytes (aaU h);rcases c with c|c<;>unfold h4 at c<;>omega
theorem acC{p:α->Prop}{l m:I α}(h:∀x,x∈l->p x)(k:∀x,x∈m->p x):∀x,x∈l++m->p x:=by grind
def ta(P:Program)(w:World)(S:dy)(sz:Nat)(v:Value)(a:I (I T))(b:ai Nat):Prop:=
 (Builtin.lenOf v).run P w= .ok a.length w/\∃xs:I Value,(Builtin.firstCells sz a.length v).run P w= .ok xs.toArray w/\xs.length=a.length*sz/\jf w S sz a xs/\∀x,x∈xs->x.oneCell'=true
theorem Nx{sz k len:Nat}(h0:0<sz)(a:k<len*sz):k/sz<len/\k%sz<sz/\(k/sz)*sz+k%sz=k:=
 ⟨Nat.div_lt_of_lt_mul (by grind),zA _ h0,by grind[Nat.div_add_mod]⟩
theorem jf.one{sz:Nat}{a:I (I T)}(h0:0<sz)(c:∀e,e∈a->e.length=sz)(ak:xs.length=a.length*sz)(h:jf w S sz a xs):∀x,x∈xs->x.oneCell':=by
 intro x aa;obtain⟨k,o,p⟩:=hE aa;obtain⟨h1,f,g⟩:=Nx h0 (by rw[<-ak];omega);have he:=fm h1;have j:=c _ (zv h1);have ht:(a[k/sz])[k%sz]?=some _:=fm (by omega);obtain⟨v,t,q⟩:=h _ _ _ _ he ht;grind[ca.jG]
theorem AF{b o m:Nat}(ak:xs.length=m)(h:∀j,j<m->w.cell? ⟨b,o+j,none⟩=xs[j]?):(loadCells ⟨b,o,none⟩ m).run P w= .ok xs.toArray w:=by
 grind[run_loadCells_list,Addr.add]
theorem ac'{sz:Nat}(h0:0<sz){d:I (I T)}(s:ca w S (.slice d) v)(m:∀e,e∈d->e.length=sz):ta P w S sz v d none:=by
 obtain⟨a,cap,c,b,o,f,rfl,x,z,B,n,u,A⟩:=ca.j5 s;refine⟨by rfl,?_⟩;by_cases g:d=[]
 . subst g;refine⟨[],?_,by simp,by intro i j e t he;grind,by simp⟩;cases a with
   |none=>rfl
   |some a=>simp[Builtin.firstCells,loadCells,loadCellsFrom]
 . have r:c=sz:=by
    obtain⟨dw,y⟩:=Ds d g;grind
   subst r;rw[n g];have aa:((List.range (d.length*c)).map λk=>f (k/c) (k%c)).length=d.length*c:=(by simp);have l:jf w S c d ((List.range (d.length*c)).map λk=>f (k/c) (k%c)):=by
    intro i j e t he ht;have p:=(ev.1 he).1;have q:=(ev.1 ht).1;rw[m _ (fQ he)]at q;have aD:i*c+j<d.length*c:=by
     have:=fG c (show i+1<=d.length from p);grind
    simp_all[Nat.add_comm,Nat.add_mul_div_right,Nat.div_eq_of_lt,pa]
   refine⟨_,?_,aa,l,jf.one h0 m aa l⟩;refine AF aa ?_;grind[Nx]
theorem ada{sz:Nat}(b:bG φ w S .bX v):ta P w S sz v [] none:=by
 obtain⟨a,rfl⟩:=b;refine⟨by rfl,[],?_,by simp,by intro i j e t he;grind,by simp⟩;cases a with
 |none=>rfl
 |some a=>simp[Builtin.firstCells,loadCells,loadCellsFrom]
theorem OA{sz b:Nat}{c:I (I T)}(dM:dj φ w S b (.arr sz c))(n:bG φ w S (.arr b sz 0 c.length) v):ta P w S sz v c (some b):=by
 obtain⟨a,rfl,k,p⟩:=bG.hZ n;obtain⟨h1,o,f,g,bu⟩:=dM;refine⟨by rfl,?_⟩;by_cases h0:(φ b).2=0
 . have:c=[]:=ko (by omega);subst this;refine⟨[],?_,by simp,by intro i j e t he;grind,by simp⟩;cases a with
   |none=>rfl
   |some a=>simp[Builtin.firstCells,loadCells,loadCellsFrom]
 . obtain⟨vs,E,ad,ak,r,_⟩:=bu h0;rw[k h0];have q:c.length*sz<=vs.length:=(by simp_all[fG]);have aa:(vs.take (c.length*sz)).length=c.length*sz:=(by grind);have d:jf w S sz c (vs.take (c.length*sz)):=by
    intro i j e t he ht;have l:=(ev.1 he).1;have aD:i*sz+j<c.length*sz:=by
     have:=fG sz (show i+1<=c.length from l);grind
    grind
   refine⟨_,?_,aa,d,jf.one g f aa d⟩;rw[Dq];refine AF aa ?_;intro j m;rw[iy,jv ad,zt,ag m]
theorem ta.world{sz:Nat}{a:I (I T)}{b:ai Nat}(h:ta P w S sz v a b){m:Nat}:∃xs:I Value,xs.length=a.length*sz/\jf w S sz a xs/\(∀x,x∈xs->x.oneCell'):=by
 obtain⟨_,xs,_,h1,c,e⟩:=h;grind
theorem MS(z:Array Value)(m:Nat):(Builtin.zeroCells z m).size=m*z.size:=by simp[Builtin.zeroCells]
theorem IJ{st u:TypeId}{i:TypeInfo}{c:Value}(p:P.underlying st=some (.slice e))(s:P.underlying yt=some (.slice u))(g:P.info? e=some i)(A:i.zero=some c)(B:c.cells.size=i.size)
 {base:ai Addr}{sl sc a:Nat}{y:Value}{xs d:I Value}(q:(Builtin.lenOf y).run P w= .ok a w)
 (aa:(Builtin.firstCells i.size sl (.slice base sl sc)).run P w.drew= .ok xs.toArray w.drew)(al:(Builtin.firstCells i.size a y).run P w.drew= .ok d.toArray w.drew)
 (n:sc<sl+a)(k:ki (sl+a) i.bytes)(x:sl+a<=dT){tt:TypeId}:
 ∃(b:Nat) (r:I Value),sl+a<=b/\r.length=(b-(sl+a))*i.size/\
  (Builtin.append_ #[st,yt] tt #[.slice base sl sc,y]).run P w= .ok (.slice (some ⟨w.heap.size,0,none⟩) (sl+a) b) (w.drew.alloc (.cells (xs++d++r).toArray e)):=by
 have o:∀w,(sizeOf e).run P w= .ok i.size w:=λw=>by simp[sizeOf,typeInfo,g]
 have f:∀w,(typeInfo e).run P w= .ok i w:=λw=>by simp[typeInfo,g]
 have t:∀w,(zeroValue e).run P w= .ok c w:=λw=>by simp_all[zeroValue]
 generalize z:(Question.appendCap (sl+a) sc e).cut (w.tape w.drawn (Question.appendCap (sl+a) sc e))=b;have m:sl+a<=b:=by grind[Question.cut]
 have h1:¬(sl+a<=sc):=by omega
 have v:¬(sl+a>IntKind.i64.max/\(False\/i.bytes=0)):=by grind[IntKind.max,IntKind.bits,dT]
 have j:=by
  exact k.not n
 refine⟨b,(Builtin.zeroCells c.cells (b-(sl+a))).toList,m,by grind[MS],?_⟩;have l:(choose (.appendCap (sl+a) sc e)).run P w= .ok b w.drew:=by simp_all[Question.forced]
 have aK:(xs++d++(Builtin.zeroCells c.cells (b-(sl+a))).toList).toArray=xs.toArray++d.toArray++Builtin.zeroCells c.cells (b-(sl+a)):=by simp
 rw[aK];unfold Builtin.append_;simp only[De,Da,Db,Sem.run_bind,run_underlying p,run_underlying s,Result.andThen_ok,o,Sem.run_pure,cm,cw,q,aq h1,f];rw[aq (by grind)];simp only[Sem.run_bind,Result.andThen_ok,f];rw[aq j];simp only[Sem.run_bind,Result.andThen_ok,f,l,run_askRoom,aa,al,t,fY,cg];rfl
theorem xn{st l:TypeId}{i:TypeInfo}(g:P.underlying st=some (.slice e))(k:P.underlying yt=some (.slice l))(d:P.info? e=some i)
 {base:ai Addr}{sl sc a:Nat}{y:Value}{c:I Value}(j:(Builtin.lenOf y).run P w= .ok a w)(al:(Builtin.firstCells i.size a y).run P w= .ok c.toArray w)(n:sl+a<=sc){w':World}
 (hs:∀b,base=some b->(storeCells (b.add (sl*i.size)) c 0).run P w= .ok () w') (m:base=none->w'=w) {tt:TypeId}:
  (Builtin.append_ #[st,yt] tt #[.slice base sl sc,y]).run P w= .ok (.slice base (sl+a) sc) w':=by
 have f:∀w,(sizeOf e).run P w= .ok i.size w:=λw=>by simp[sizeOf,typeInfo,d]
 unfold Builtin.append_;simp only[De,Da,Db,Sem.run_bind,run_underlying g,run_underlying k,Result.andThen_ok,f,Sem.run_pure,cm,cw,j];cases base<;>simp_all
theorem jf.append{sz:Nat}{a:I (I T)}{f r:I Value}(h0:0<sz)(q:∀e,e∈es->e.length=sz)(x:∀e,e∈a->e.length=sz)(aa:xs.length=es.length*sz)(A:f.length=a.length*sz)
 (h1:jf w S sz es xs)(o:jf w S sz a f):jf w S sz (es++a) (xs++f++r):=by
 intro i j e t he ht;by_cases g:i<es.length;rw[xQ g]at he;have c:=(ev.1 ht).1;rw[q _ (fQ he)]at c;have:=fG sz (show i+1<=es.length from g);rw[ja]at this;rw[j1,xQ (by omega)];exact h1 _ _ _ _ he ht;rw[zC (by omega)]at he;have c:=(ev.1 ht).1;rw[x _ (fQ he)]at c;have v:=(ev.1 he).1;have y:=fG sz (show es.length<=i by omega);have p:=fG sz (show(i-es.length)+1<=a.length from v);have bu:(i-es.length)*sz=i*sz-es.length*sz:=Nat.sub_mul _ _ _;rw[ja]at p;rw[j1,zC (by omega),xQ (by omega),show i*sz+j-xs.length=(i-es.length)*sz+j by omega];exact o _ _ _ _ he ht
theorem Rel.drew(R:Rel aB nt φ S env σ n a w):Rel aB nt φ S env σ n a w.drew:=
 R.world (λ_=>False) rfl rfl rfl (e' _) (λ_ _ _=>rfl) (λ_ h=>h.elim)
theorem x1(R:Rel aB nt φ S env σ n a w){f:aV}(al:bT y=some f){v:V}(av:f.get env=some (p,v))(ar:p){sz:Nat}(h0:0<sz){d:I (I T)×ai Nat}
 (h:l8 σ v=some d)(l:∀e,e∈d.1->e.length=sz):ta P w S sz (a.eval y) d.1 d.2:=by
 have c:=(cK R al av ar).1;unfold l8 at h;split at h;cases h;exact ac' h0 c.et l;cases h;exact ada c.et
 . split at h
   . rename_i b r x u _ z s m;simp at h;obtain⟨⟨h1,rfl,rfl⟩,rfl⟩:=h;subst h1;by_cases k:s=[]
     . subst k;obtain⟨cj,q,_⟩:=bG.hZ c.et;rw[q];refine⟨by rfl,[],?_,by simp,by intro i j e t he;grind,by simp⟩;cases cj with
       |none=>rfl
       |some a=>simp[Builtin.firstCells,loadCells,loadCellsFrom]
     . have o:r=sz:=by
        obtain⟨dw,g⟩:=Ds _ k;rw[<-(R.b3.blk _ _ m).2.2.1 _ g,l _ g]
       subst o;exact OA (R.b3.blk _ _ m) c.et
   grind
 grind
theorem adJ{sz b len:Nat}(dM:dj φ w S b (.arr sz es))(o:bG φ w S (.gK b sz off len) v)(q:off+len<=es.length):ta P w S sz v ((es.drop off).take len) none:=by
 obtain⟨a,cap,rfl,k,r⟩:=o;obtain⟨h1,p,f,g,bu⟩:=dM;have d:((es.drop off).take len).length=len:=by grind
 refine⟨by simp[Builtin.lenOf,d],?_⟩;rw[d];by_cases h0:len=0
 . subst h0;refine⟨[],?_,by simp,by intro i j e t he;grind,by simp⟩;cases a with
   |none=>rfl
   |some a=>simp[Builtin.firstCells,loadCells,loadCellsFrom]
 . obtain⟨vs,E,ad,ak,u,_⟩:=bu (by omega);rw[k h0];have s:off*sz+len*sz<=vs.length:=by rw[ak,<-ja];exact fG _ (by omega)
   have aa:((vs.drop (off*sz)).take (len*sz)).length=len*sz:=(by grind);have n:∀e,e∈(es.drop off).take len->e.length=sz:=λe he=>f e (HB (zF he));have c:jf w S sz ((es.drop off).take len) ((vs.drop (off*sz)).take (len*sz)):=by
    intro i j e t he ht;have l:i<len:=(by grind);have aD:i*sz+j<len*sz:=by
     have:=fG sz (show i+1<=len from l);grind
    grind
   refine⟨_,?_,aa,c,jf.one g n (by grind) c⟩;refine AF aa ?_;intro j m;rw[jv ad,zt,ag m,List.getElem?_drop]
theorem adb(R:Rel aB nt φ S env σ n a w){x y:Operand}{st yt e aN:TypeId}(aF:o.op= .call {callee:= .builtin .append,args:=#[x,y],argTypes:=#[st,yt]})
 (Z:P.underlying st=some (.slice e))(ae:P.underlying yt=some (.slice aN)){i:TypeInfo}(W:P.info? e=some i)(aT:i.size≠0)
 {M N:aV}(aa:bT x=some M)(al:bT y=some N){af ah:Prop}{ai aj:V}(aw:M.get env=some (af,ai))(ax:N.get env=some (ah,aj)){r}
 {p v σ'}(A:mS ai aj=some r)(f:n key=false)(h:vZ σ key i.size af ah r=some (p,v,σ'))(ar:p):cf P aB nt env σ' (ins n key) a v ((execOp a.eval o).run P w):=by
 have Y:∀r w',(Builtin.append_ #[st,yt] o.type #[a.eval x,a.eval y]).run P w= .ok r w'->(execOp a.eval o).run P w= .ok (.value r) w':=by
  intro r w' d;simp[execOp,aF,Go.resolve,invoke,builtin,d]
 unfold mS at A;split at A
 . rename_i b s1 off len aO aU D q;split at A
   . rename_i au;subst au;cases A;unfold vZ at h;dsimp only at h;split at h
     . rename_i aW es s;obtain⟨rfl,rfl,rfl⟩:=h;obtain⟨aG,aH,rfl,rfl,rfl,rfl,aQ,aD⟩:=ar;have av:=cK R aa aw aG;obtain⟨base,B,aq,aR⟩:=bG.hZ av.1.et;have ay:=cK R al ax aH;have u:=R.b3.blk _ _ s;obtain⟨I,L,J,K,aL,aK⟩:=adJ (P:=P) u ay.1.et aD;obtain⟨g1,g2,g3,g4,ap⟩:=u;have aJ:((es.drop D).take q).length=q:=by simp;omega
       rw[aJ]at I J K;rw[Nat.sub_zero]at B;have z:len+q<=(φ b).2:=(by omega);have h0:0<i.size:=(by omega);have F:(es.take len++(es.drop D).take q).length=len+q:=(by grind);have X:∀O,O∈es.take len++(es.drop D).take q->O.length=i.size:=by
        grind
       by_cases g:(φ b).2=0;have aA:len=0:=(by omega);have aC:q=0:=(by omega);subst aA aC;have aM:L=[]:=ko (by grind);subst aM;have d:=xn (tt:=o.type) Z ae W (base:=base) (sl:=0) (sc:=(φ b).2) I J z (w':=w) (λao _=>by simp[storeCells]) (λ_=>rfl);rw[<-B]at d;have R':=(R.del b).jZ f (x:= .arr i.size (es.take 0++(es.drop D).take 0)) (0,0) rfl (by simp only[dj,dU];exact⟨by simp,by simp,by simp,h0,by simp⟩) (by simp);refine⟨_,_,S,w,.inl (Y _ _ d),.c ?_,by simp[V.aJ,C.aJ,ins],R'⟩;exact⟨base,by simp[dU,g,B],by simp[dU],by simp[dU]⟩
       . obtain⟨vs,E,ad,ab,aI,aE⟩:=ap g;have u:=R.b3.blk _ _ s;have U:len*i.size+L.length<=vs.length:=by rw[K,ab,<-ja];exact fG _ z
         obtain⟨w',aS,bj,bq,b4,cv,cZ,c7⟩:=nw (P:=P) L (len*i.size) 0 vs w ad (by omega) aK;rw[ve]at cZ;have T:=aq g
         have d:=xn (tt:=o.type) Z ae W (base:=base) (sl:=len) (sc:=(φ b).2) I J z (w':=w') (λao aP=>by
          grind[Addr.add]) (λQ=>by rw[T]at Q;cases Q)
         rw[<-B]at d
         have am:=(R.del b).world (w':=w') (λk=>k=(φ b).1) bj bq b4 (vf cv.symm) (λk _ f=>c7 k f) (λk f=>by
          subst f;refine⟨u.qM g,λk y al f=>?_,R.own b _ s g⟩;rw[gb]at al;split at al;cases al
          . rename_i G
            exactλe=>R.b3.inj k b y _ al s (ee G) f g e)
         have m:hj w S w' S:=⟨λ_ _ h=>h,λk j h=>rW (c7 k (λe=>u.qM g j (e▸h))) j⟩
         have an:=am.jZ f (x:= .arr i.size _) (φ b) rfl (by
          simp only[dj,dU];refine⟨by rw[F];exact z,by rw[F];omega,X,h0,λ_=>⟨_,E,cZ,by rw[p5 U];exact ab,λl j e t he ht=>?_,aE⟩⟩;have az:=(ev.1 ht).1;rw[X _ (fQ he)]at az;rw[oK U,K];by_cases c1:l<len;have:=fG i.size (show l+1<=len from c1);rw[ja]at this;rw[jE];rw[xQ (by simp;omega),zt,ag c1]at he;obtain⟨v,H,d⟩:=aI _ _ _ _ he ht;exact⟨v,H,ca.mono m d⟩
          . have h1:=fG i.size (show len<=l by omega);have c2:l<len+q:=by rw[<-F];exact(ev.1 he).1
            have:=fG i.size (show l+1<=len+q from c2);rw[ja,ja]at this;rw[b9,jE];have ak:(es.take len).length=len:=by simp;omega
            rw[zC (by omega),ak]at he;have bu:(l-len)*i.size=l*i.size-len*i.size:=Nat.sub_mul _ _ _;obtain⟨v,H,d⟩:=aL _ _ _ _ he ht;rw[show l*i.size+j-len*i.size=(l-len)*i.size+j by omega]
            exact⟨v,H,ca.mono m d⟩) (λ_=>⟨λk y al f=>by
            rw[gb]at al;split at al;cases al
            . rename_i G
              exact R.b3.inj k b y _ al s (ee G) f g,R.own b _ s g⟩)
         refine⟨_,_,S,w',.inl (Y _ _ d),.c ?_,by simp[V.aJ,C.aJ,ins],an⟩;exact⟨base,by simp[dU],by simp[dU,T],by simp[dU];omega⟩
     grind
   grind
 grind
theorem abb(R:Rel aB nt φ S env σ n a w){x y:Operand}{st yt e a2:TypeId}(aZ:o.op= .call {callee:= .builtin .append,args:=#[x,y],argTypes:=#[st,yt]})
 (W:P.underlying st=some (.slice e))(X:P.underlying yt=some (.slice a2)){i:TypeInfo}(Q:P.info? e=some i)(a7:i.size≠0)(aK:(i.zero.map (·.cells.size))=some i.size)
 {aj ay:aV}(aa:bT x=some aj)(al:bT y=some ay)
 {p v σ'}(f:n key=false)(h:aU (.append e i.size i.bytes aj ay) env σ key=some (p,v,σ'))(aX:∀q b l,aj.get env≠some (q,.c (.cQ b l)))(ar:p):cf P aB nt env σ' (ins n key) a v ((execOp a.eval o).run P w):=by
 simp only[aU,bz]at h;obtain⟨⟨a9,bc⟩,Z,⟨a',bd⟩,ab,he⟩:=h;split at he;grind[adb]
 rename_i a8;simp only[bz]at he;obtain⟨z,ag,he⟩:=he;simp only[bL]at aK;obtain⟨be,aM,aL⟩:=aK;have h0:0<i.size:=by omega
 have U:∀r w',(Builtin.append_ #[st,yt] o.type #[a.eval x,a.eval y]).run P w= .ok r w'->(execOp a.eval o).run P w= .ok (.value r) w':=by
  intro r w' d;simp[execOp,aZ,Go.resolve,invoke,builtin,d]
 have aE:∀b,w.heap.size<=b->∀j,¬S b j:=λb an j aH=>by have:=R.b3.st _ _ aH;omega
 split at he
 ·
  obtain⟨rfl,rfl,rfl⟩:=he;obtain⟨ae,T,D,aA,aq⟩:=ar;obtain⟨base,J⟩:=(cK R aa Z ae).1.et;have eI:=x1 (P:=P) R al ab T h0 ag D;by_cases H:z.1=[];obtain⟨B,A,F,g,M,ah⟩:=eI;rw[H]at B F g;have av:A=[]:=ko (by simpa using g);subst av;have d:=xn (tt:=o.type) W X Q (base:=base) (sl:=0) (sc:=0) B F (by simp) (w':=w) (λax _=>by simp[storeCells]) (λ_=>rfl);rw[<-J]at d;have R':=R.jZ f (x:= .arr i.size z.1) (0,0) rfl (by rw[H];simp only[dj,dU];exact⟨by simp,by simp,by simp,h0,by simp⟩) (by simp);refine⟨_,_,S,w,.inl (U _ _ d),.c ?_,by simp[V.aJ,C.aJ,ins],R'⟩;rw[H];exact⟨base,by simp[dU],by simp[dU],by simp[dU]⟩
  . have u:=R.drew;obtain⟨B,_⟩:=eI;obtain⟨_,A,F,g,M,ah⟩:=x1 (P:=P) u al ab T h0 ag D;have a5:0<z.1.length:=qP.2 H;have af:(Builtin.firstCells i.size 0 (.slice base 0 0)).run P w.drew= .ok ([]:I Value).toArray w.drew:=by
     cases base with
     |none=>rfl
     |some a=>simp[Builtin.firstCells,loadCells,loadCellsFrom]
    obtain⟨aw,r,h1,ak,d⟩:=IJ (tt:=o.type) W X Q aM aL B af F (by omega) (by grind) (by grind);rw[<-J]at d;have O:=u.alloc (.cells ([]++A++r).toArray e);have m:=u.wN (.cells ([]++A++r).toArray e)
    have ai:=O.jZ f (x:= .arr i.size z.1) (w.heap.size,aw) rfl (by
     simp only[dj,dU];refine⟨by omega,aq,D,h0,λ_=>⟨_,e,heap_alloc_new,?_,?_,aE _ (e' _)⟩⟩;simp only[ea,pb,g,ak,iy,<-ja];congr 1;omega
     . have:=jf.append (S:=S) (w:=w.drew) (r:=r) (es:=[]) (xs:=[]) h0 (by simp) D (by simp) g (by intro i j e t he;simp at he) M;intro s j K t he ht;obtain⟨v,L,d⟩:=this s j K t (by simpa using he) ht
       exact⟨v,L,ca.mono m d⟩) (λ_=>⟨λk y al h0=>by
        have:=(R.b3.blk k y al).j3 h0
        omega,.inr R.ext.size⟩)
    refine⟨_,_,S,_,.inl (U _ _ d),.c ?_,by simp[V.aJ,C.aJ,ins],ai⟩;exact⟨some ⟨w.heap.size,0,none⟩,by simp[dU],by simp[dU],by simp[dU];omega⟩
 . rename_i b ba off len;split at he
   . rename_i bb es N;split at he
     grind
     . obtain⟨rfl,rfl,rfl⟩:=he;obtain⟨ae,T,rfl,rfl,rfl,rfl,D,aA,aq⟩:=ar;have aS:=cK R aa Z ae;have aQ:=aS.1.et;obtain⟨base,J,aR,aW⟩:=bG.hZ aQ;have eI:=x1 (P:=P) R al ab T h0 ag D;have am:=R.b3.blk _ _ N;have aP:=am;obtain⟨g1,g2,g3,g4,aN⟩:=aP;rw[Nat.sub_zero]at J;rw[iy]at aW;have aG:∀K,K∈es++z.1->K.length=i.size:=acC g3 D;by_cases aF:es.length+z.1.length<=(φ b).2
       . obtain⟨B,A,F,g,M,ah⟩:=eI;by_cases G:(φ b).2=0
         have ao:es=[]:=ko (by omega);have au:z.1=[]:=ko (by omega);rw[au]at B F g;have av:A=[]:=ko (by simpa using g);subst av;have d:=xn (tt:=o.type) W X Q (base:=base) (sl:=es.length) (sc:=(φ b).2) B F (by simp[ao]) (w':=w) (λax _=>by simp[storeCells]) (λ_=>rfl);rw[<-J]at d;have R':=(R.del b).jZ f (x:= .arr i.size (es++z.1)) (0,0) rfl (by rw[au,ao];simp only[dj,dU];exact⟨by simp,by simp,by simp,h0,by simp⟩) (by simp);refine⟨_,_,S,w,.inl (U _ _ d),.c ?_,by simp[V.aJ,C.aJ,ins],R'⟩;rw[au,ao];exact⟨base,by simp[dU,G],by simp[dU],by simp[dU]⟩
         . obtain⟨vs,E,ad,aI,a0,aY⟩:=aN G;have aC:es.length*i.size+A.length<=vs.length:=by rw[g,aI,<-ja];exact fG _ aF
           obtain⟨w',a6,bj,bq,b4,cv,cZ,c7⟩:=nw (P:=P) A (es.length*i.size) 0 vs w ad (by omega) ah;rw[ve]at cZ;have Y:=aR G;rw[Dq]at Y
           have d:=xn (tt:=o.type) W X Q (base:=base) (sl:=es.length) (sc:=(φ b).2) B F aF (w':=w') (λax az=>by
            rw[Y]at az;cases az;have a4:Addr.add ⟨(φ b).1,0,none⟩ (es.length*i.size)=⟨(φ b).1,es.length*i.size,none⟩:=by unfold Addr.add;split<;>simp_all
            grind) (λan=>by rw[Y]at an;cases an)
           rw[<-J]at d
           have u:=(R.del b).world (w':=w') (λk=>k=(φ b).1) bj bq b4 (vf cv.symm) (λk _ f=>c7 k f) (λk f=>by
            subst f;refine⟨am.qM G,λk y al f=>?_,R.own b _ N G⟩;rw[gb]at al;split at al;cases al
            . rename_i H
              exactλe=>R.b3.inj k b y _ al N (ee H) f G e)
           have m:hj w S w' S:=⟨λ_ _ h=>h,λk j h=>rW (c7 k (λe=>am.qM G j (e▸h))) j⟩
           have O:=u.jZ f (x:= .arr i.size (es++z.1)) (φ b) rfl (by
            simp only[dj,dU];refine⟨by simp;omega,by simp;omega,aG,h0,λ_=>⟨_,E,cZ,by rw[p5 aC];exact aI,?_,aY⟩⟩;intro s j K t he ht;rw[oK aC];by_cases aD:s<es.length;rw[xQ aD]at he;have ap:=(ev.1 ht).1;rw[g3 _ (fQ he)]at ap;have:=fG i.size (show s+1<=es.length from aD);rw[ja]at this;rw[jE];obtain⟨v,L,d⟩:=a0 _ _ _ _ he ht;exact⟨v,L,ca.mono m d⟩
            . rw[zC (by omega)]at he;have ap:=(ev.1 ht).1;rw[D _ (fQ he)]at ap;have aT:=(ev.1 he).1;have a3:=fG i.size (show es.length<=s by omega);have aO:=fG i.size (show(s-es.length)+1<=z.1.length from aT);have bu:(s-es.length)*i.size=s*i.size-es.length*i.size:=Nat.sub_mul _ _ _;rw[ja]at aO;rw[b9,jE,show s*i.size+j-es.length*i.size=(s-es.length)*i.size+j by omega];obtain⟨v,L,d⟩:=M _ _ _ _ he ht
              exact⟨v,L,ca.mono m d⟩) (λ_=>⟨λk y al f=>by
              rw[gb]at al;split at al;cases al
              . rename_i H
                exact R.b3.inj k b y _ al N (ee H) f G,R.own b _ N G⟩)
           refine⟨_,_,S,w',.inl (U _ _ d),.c ?_,by simp[V.aJ,C.aJ,ins],O⟩;exact⟨base,by simp[dU],by simp[dU,Y],by simp[dU];omega⟩
       . have u:=R.drew;obtain⟨B,_⟩:=eI;obtain⟨_,A,F,g,M,ah⟩:=x1 (P:=P) u al ab T h0 ag D;obtain⟨_,xs,af,aJ,a1,_⟩:=OA (P:=P) (u.b3.blk _ _ N) (cK u aa Z ae).1.et;rw[J]at af;obtain⟨aw,r,h1,ak,d⟩:=IJ (tt:=o.type) W X Q aM aL B af F (by omega) aA aq;rw[<-J]at d;have O:=(u.del b).alloc (.cells (xs++A++r).toArray e);have m:=u.wN (.cells (xs++A++r).toArray e)
         have ai:=O.jZ f (x:= .arr i.size (es++z.1)) (w.heap.size,aw) rfl (by
          simp only[dj,dU];refine⟨by simp;omega,by simp;omega,aG,h0,λ_=>⟨_,e,heap_alloc_new,?_,?_,aE _ (e' _)⟩⟩;simp only[ea,aJ,g,ak,<-ja];congr 1;omega
          . have:=jf.append (S:=S) (w:=w.drew) (r:=r) h0 g3 D aJ g a1 M;intro s j K t he ht;obtain⟨v,L,d⟩:=this s j K t he ht
            exact⟨v,L,ca.mono m d⟩) (λ_=>⟨λk y al h0=>by
             rw[gb]at al;split at al;cases al
             . have:=(R.b3.blk k y al).j3 h0
               omega,.inr R.ext.size⟩)
         refine⟨_,_,S,_,.inl (U _ _ d),.c ?_,by simp[V.aJ,C.aJ,ins],ai⟩;exact⟨some ⟨w.heap.size,0,none⟩,by simp[dU],by simp[dU],by simp[dU];omega⟩
   grind
 exact absurd Z (aX _ _ _);grind
theorem abc:∀{ts:I T} {vs:I Value},bc R ts vs->∀(i j:Nat) e t,(ts.map λt=>[t])[i]?=some e->e[j]?=some t->∃v,vs[i*1+j]?=some v/\R t v:=by
 intro ts vs h i j e t he ht;rw[sP,bL]at he;obtain⟨t0,h0,rfl⟩:=he;cases j with
 |zero=>
  obtain⟨v,b,a⟩:=h.get h0;grind
 |succ j=>grind
theorem abd(R:Rel aB nt φ S env σ n a w){ty:TypeId}(B:o.op= .alloc ty)(f:kx P ty=some cs)(A:cs.length≠0)(u:cs.length<=2^24)
 {p v σ'}(q:n key=false)(h:aU (.allocA cs) env σ key=some (p,v,σ'))(ar:p):cf P aB nt env σ' (ins n key) a v ((execOp a.eval o).run P w):=by
 simp only[aU,bL]at h;obtain⟨ts,d,rfl,rfl,rfl⟩:=h;obtain⟨i,z,s,f,b,r⟩:=tT (φ:=φ) (w:=w) (S:=S) (n:=n) f;have F:=sA d b;have D:=w1 d;have g:=R.alloc (.cells z.cells.toList.toArray ty);have m:=R.wN (.cells z.cells.toList.toArray ty);have E:=b.length.symm
 have l:=g.jZ q (x:= .arr 1 (ts.map λt=>[t])) (w.heap.size,cs.length) rfl (by
  simp only[dj,dU,sQ];refine⟨by omega,by grind[dT],?_,by simp,λ_=>⟨z.cells.toList,ty,heap_alloc_new,by omega,λi j e t he ht=>?_,λj h=>?_⟩⟩;simp;grind[abc,ca.mono]
  . have:=R.b3.st _ _ h
    omega) (λ_=>⟨λk y al h0=>by
     have:=(R.b3.blk k y al).j3 h0
     grind,.inr R.ext.size⟩)
 refine⟨.pointer (some ⟨w.heap.size,0,none⟩),_,S,_,.inl ?_,.c ?_,by simp[V.aJ,C.aJ,ins],l⟩;simp_all[execOp,Instr.alloc,zeroValue,typeInfo,newVar,newRow];grind[bG,dU]
theorem ade(R:Rel aB nt φ S env σ n a w){ty:TypeId}{i:Operand}(u:o.op= .indexAddr ty x i){k:Nat}(B:P.underlying ty=some (.array k e))(A:eK P e=some 1)
 {f d:aV}(aa:bT x=some f)(s:bT i=some d)
 {p v σ'}(D:n key=false)(h:aU (.idxP k f d) env σ key=some (p,v,σ'))(ar:p):cf P aB nt env σ' (ins n key) a v ((execOp a.eval o).run P w):=by
 simp only[aU,bz]at h;obtain⟨⟨G,I⟩,r,⟨F,H⟩,q,he⟩:=h;simp at he;split at he
 . rename_i b kk m;obtain⟨rfl,rfl,rfl⟩:=he;obtain⟨y,z,t,E⟩:=ar;have av:=cK R aa r y;have h1:=av.1.hQ;have g:=(cK R s q z).1.gh;have j:Addr.add ⟨(φ b).1,0,none⟩ (m.toNat*1)=⟨(φ b).1,m.toNat*1+0,none⟩:=by
    grind[Addr.add]
   refine cf.pure R (x:= .pointer (some ⟨(φ b).1,m.toNat*1+0,none⟩)) ?_ (.c ?_) (by grind[V.aJ,C.aJ])
   . have l:0<=m/\m<k:=⟨t,by omega⟩
     simp only[execOp,u,h1,g,Instr.indexAt,asIntOf,Instr.sureAddr,Sem.run_bind,run_underlying B,Result.andThen_ok,Sem.run_pure,ag l,jQ A,j]
   rfl
 grind
theorem adf(R:Rel aB nt φ S env σ n a w){ty:TypeId}{i:IntKind}{m:Int}(t:o.op= .indexAddr ty x (.const (.int i m))){k:Nat}(u:P.underlying ty=some (.array k e))
 (h0:0<=m/\m.toNat<k){s:Nat}(hs:eK P e=some s){g:aV}(aa:bT x=some g)
 {p v σ'}(y:n key=false)(h:aU (.fldA (m.toNat*s) g) env σ key=some (p,v,σ'))(ar:p):cf P aB nt env σ' (ins n key) a v ((execOp a.eval o).run P w):=by
 simp only[aU,bz]at h;obtain⟨⟨z,A⟩,r,he⟩:=h;simp at he;have j:a.eval (.const _)= .int i m:=rfl;have q:0<=m/\m<(k:Int):=⟨h0.1,by omega⟩
 have d:∀(b off:Nat),a.eval x= .pointer (some ⟨b,off,none⟩)->(execOp a.eval o).run P w= .ok (.value (.pointer (some ⟨b,off+m.toNat*s,none⟩))) w:=by
  intro b off e;have l:Addr.add ⟨b,off,none⟩ (m.toNat*s)=⟨b,off+m.toNat*s,none⟩:=by
   grind[Addr.add]
  simp only[execOp,t,e,j,Instr.indexAt,asIntOf,Instr.sureAddr,Sem.run_bind,run_underlying u,Result.andThen_ok,Sem.run_pure,ag q,jQ hs,l]
 split at he<;>simp only[eo,reduceCtorEq]at he
 all_goals
  obtain⟨rfl,rfl,rfl⟩:=he;have av:=cK R aa r ar;have h1:=av.1.et
 exact cf.pure R (d _ _ h1) (.c rfl) av.2;exact cf.pure R (d _ _ h1) (.c (by simp[bG,Nat.add_assoc])) av.2;obtain⟨blk,off,f,h1,ad⟩:=h1;exact cf.pure R (d _ _ h1) (.c ⟨blk,off,f,by grind,ad⟩) av.2
theorem adg(R:Rel aB nt φ S env σ n a w){ty:TypeId}{i:ai Operand}(A:o.op= .slice ty x j i none){k:Nat}(G:P.underlying ty=some (.array k e))(F:eK P e=some 1)
 {g:aV}{f d:ai aV}(aa:bT x=some g)(z:kS j=some f)(y:kS i=some d)
 {p v σ'}(M:n key=false)(h:aU (.slcP k g f d) env σ key=some (p,v,σ'))(ar:p):cf P aB nt env σ' (ins n key) a v ((execOp a.eval o).run P w):=by
 simp only[aU,bz]at h;obtain⟨⟨Q,T⟩,u,⟨pl,l⟩,t,⟨O,h⟩,s,he⟩:=h;simp at he;split at he
 . rename_i b;obtain⟨rfl,rfl,rfl⟩:=he;obtain⟨B,D,E,h0,h1,m⟩:=ar;have av:=cK R aa u B;have I:=av.1.hQ;have ak:=rB R z t D;have ad:=rB R y s E;have r:=Fb (P:=P) (w:=w) (isSlice:=false) ak ad h0 h1 m (e' _);generalize K:(l.getD 0).toNat=L at*;generalize J:(h.getD _).toNat=H at*;have q:Addr.add ⟨(φ b).1,0,none⟩ (L*1)=⟨(φ b).1,L*1,none⟩:=by
    unfold Addr.add;split;grind;simp
   refine cf.pure R (x:= .slice (some (if k=L then⟨(φ b).1,0,none⟩else(Addr.add ⟨(φ b).1,0,none⟩ (L*1)))) _ (k-L)) ?_ (.c ⟨_,_,rfl,?_,by omega⟩) (by simpa[V.aJ,C.aJ]using av.2)
   simp[execOp,A,Instr.sliceAt,Instr.sureAddr,underlying,G,I,r,jQ F];intro N;rw[b9,q]
 grind
theorem adh{s:au}(a:bytesOf es=some s):∀{xs:I Value},(∀(i:Nat) t,es[i]?=some [t]->∃v,xs[i]?=some v/\ca w S t v)->xs.length=es.length->
 ∃aP:az,xs=aP.map (Value.int .u8)/\s=aP.map λm=>UInt8.ofNat m.toNat:=by
 induction es generalizing s with
 |nil=>simp_all[bytesOf]
 |cons e es ih=>
  intro xs b ak;unfold bytesOf at a;split at a;grind
  . rename_i m r d;cases d;simp at a;obtain⟨s',g,rfl⟩:=a;cases xs with
    |nil=>grind
    |cons x xs=>
     obtain⟨v,c,f⟩:=b 0 _ rfl;simp at c;subst c;cases f;obtain⟨aP,rfl,rfl⟩:=ih g (λi t j=>by simpa using b (i+1) t (by grind)) (by grind);exact⟨m::aP,rfl,rfl⟩
  grind
theorem adi(aP:az):∀(s:ByteArray),(aP.foldl (λr m=>r.push (UInt8.ofNat m.toNat)) s).data.toList=s.data.toList++aP.map λm=>UInt8.ofNat m.toNat:=by
 induction aP<;>simp_all
theorem Mh{s:au}(a:bytesOf es=some s):∀(i:Nat) e,es[i]?=some e->∃t,e=[t]:=by
 induction es generalizing s with
 |nil=>simp
 |cons dw es ih=>
  unfold bytesOf at a;grind[bL]
theorem E2{g c:TypeId}(hs:P.underlying g=some (.slice e))(he:P.underlying e=some (.int .u8))(k:P.underlying c=some .string){str:au}{a:ai Addr}{len cap b:Nat}
 (ak:es.length=len)(f:bytesOf es=some str)(r:len≠0->a=some ⟨b,off,none⟩)(s:∀(i:Nat) t,es[i]?=some [t]->∃v,w.cell? ⟨b,off+i,none⟩=some v/\ca w S t v):
 ∃bs:ByteArray,(convert g c (.slice a len cap)).run P w= .ok (.string bs) w/\bs.data.toList=str:=by
 rw[run_convert_bytes_string w _ _ e a _ _ hs he k];by_cases h0:len=0
 . have m:es=[]:=ko (by omega);subst m;simp[bytesOf]at f;cases a with
   |none=>simp_all[Conv.bytesToString]
   |some a0=>
    simp_all[run_bytesToString,loadCells,loadCellsFrom]
 . have aa:∀i,i<len->∃t v,es[i]?=some [t]/\w.cell? ⟨b,off+i,none⟩=some v/\ca w S t v:=by
    intro i n;have h1:=fm (l:=es) (i:=i) (by omega);grind[Mh]
   have av:∀i,i<len->((List.range len).map λi=>(w.cell? ⟨b,off+i,none⟩).getD undef)[i]?=w.cell? ⟨b,off+i,none⟩:=(by grind);obtain⟨aP,h1,p⟩:=adh (w:=w) (S:=S) f (xs:=(List.range len).map λi=>(w.cell? ⟨b,off+i,none⟩).getD undef) (λi t n=>by grind) (by grind);have d:=AF (P:=P) (by simp) (λj o=>(av j o).symm);rw[h1]at d;have q:=run_bytesToString w _ _ cap aP d;simp_all[adi]
theorem Jq:∀{es:I (I T)} {s:au},bytesOf es=some s->s.length=es.length
 |[],s,h=>by grind[bytesOf]
 |e::es,s,h=>by
  unfold bytesOf at h;split at h;grind;rename_i m r a;cases a;simp at h;obtain⟨s',b,rfl⟩:=h;simp[Jq b];grind
theorem adK(R:Rel aB nt φ S env σ n a w){A r:TypeId}(Z:o.op= .convert A r x)(hs:P.underlying A=some (.slice e))(he:P.underlying e=some (.int .u8))(u:P.underlying r=some .string){D:aV}(aa:bT x=some D)
 {p v σ'}(X:n key=false)(h:aU (.b2s D) env σ key=some (p,v,σ'))(ar:p):cf P aB nt env σ' (ins n key) a v ((execOp a.eval o).run P w):=by
 simp only[aU,bz,bL,eB]at h;obtain⟨⟨aj,al⟩,H,⟨q,str⟩,g,rfl,rfl,rfl⟩:=h;obtain⟨O,y⟩:=ar;have av:=cK R aa H O
 suffices ad:∃d len cap,a.eval x= .slice d len cap/\str.length<=dT/\∃bs:ByteArray,(convert A r (.slice d len cap)).run P w= .ok (.string bs) w/\bs.data.toList=str by
  obtain⟨d,len,cap,h1,F,bs,K,G⟩:=ad;have N:bs.size<=eT:=by grind[w8,dT,eT]
  refine cf.pure R (x:= .string bs) ?_ (.c ?_) rfl
  simp_all[execOp];rw[<-G];exact .str bs N
 have z:∀ (b off len:Nat) (es:I (I T)) (d:ai Addr) (cap:Nat),aZ σ b = some (.arr 1 es)->off+len<=es.length->bytesOf ((es.drop off).take len) = some str->(len≠0->d = some ⟨(φ b).1,off*1,none⟩)->((φ b).2≠0\/len = 0)->a.eval x = .slice d len cap->
  ∃d len cap,a.eval x= .slice d len cap/\str.length<=dT/\∃bs:ByteArray,(convert A r (.slice d len cap)).run P w= .ok (.string bs) w/\bs.data.toList=str:=by
  intro b off len es d cap M J j L h0 C;obtain⟨h1,F,K,G,bu⟩:=R.b3.blk b _ M;have ak:((es.drop off).take len).length=len:=by grind
  refine⟨d,len,cap,C,by grind[Jq],?_⟩;refine E2 (S:=S) hs he u ak j L ?_;intro i t m;rw[zt]at m;split at m
  . rw[List.getElem?_drop]at m;rcases h0 with h0|h0
    obtain⟨vs,E,ad,ah,Q,_⟩:=bu h0;obtain⟨v,af,ag⟩:=Q _ 0 _ t m rfl;grind[jv];grind
  grind
 dsimp only at g H av;unfold oh at g;split at g
 . rename_i es;simp only[bL,eB]at g;obtain⟨s,j,rfl,rfl⟩:=g;obtain⟨d,cap,sz,b,off,f,h1,V,Y,ae,k,U,C⟩:=ca.j5 av.1.et;refine⟨d,es.length,cap,h1,by grind[Jq],?_⟩;by_cases B:es=[]
   subst B;exact E2 (S:=S) (b:=0) (off:=0) hs he u rfl j (by simp) (by simp)
   . have ab:sz=1:=by
      obtain⟨dw,W⟩:=Ds es B;grind[List.mem_iff_getElem?,Mh]
     refine E2 (S:=S) (b:=b) (off:=off) hs he u rfl j (λ_=>k B) ?_;intro i t m;exact⟨f i 0,by grind,C i 0 _ t m rfl⟩
 cases g;obtain⟨d,h1⟩:=av.1.et;exact⟨d,0,0,h1,by simp,E2 (S:=S) (es:=[]) (b:=0) (off:=0) hs he u rfl rfl (by simp) (by simp)⟩
 . rename_i b off len;split at g
   . rename_i es l;simp only[bL,eB]at g;obtain⟨s,j,rfl,rfl⟩:=g;obtain⟨d,h1,k,J⟩:=bG.hZ av.1.et;by_cases h0:(φ b).2=0
     exact z b off len es d _ l y j (λh=>by omega) (.inr (by omega)) h1;exact z b off len es d _ l y j (λ_=>k h0) (.inl h0) h1
   cases g
 . rename_i b off len;split at g
   . rename_i es l;simp only[bL,eB]at g;obtain⟨s,j,rfl,rfl⟩:=g;obtain⟨d,cap,h1,k,J⟩:=av.1.et;obtain⟨F,_⟩:=R.b3.blk b _ l;by_cases h0:len=0
     exact z b off len es d _ l y j k (.inr h0) h1;exact z b off len es d _ l y j k (.inl (by omega)) h1
   cases g
 cases g
end
end
end Go.Proofs.YtkbmjabicjpmjaaGreatDoor.Shv
