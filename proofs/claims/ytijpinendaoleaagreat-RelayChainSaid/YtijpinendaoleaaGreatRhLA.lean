/- The library of this proof, part A: an abstract machine for the code of the program, and its soundness. -/
import Derived.LoopN
import Derived.Calls
import Derived.Laws.Sem
import Derived.Laws.World
import Derived.Laws.Cells
import Derived.Below
import Derived.Laws.Strings
import Derived.Laws.StructEq
import Derived.Laws.BytesString

namespace Go.Proofs.YtijpinendaoleaaGreat.Shv
set_option linter.all false
section
def ao:=@if_pos
def aJ:=@if_neg
def hQ:=@Option.some.injEq
def hO:=@Prod.mk.injEq
def sb:=@List.getElem?_eq_some_iff
def k0:=@Bool.and_eq_true
def A':=@Option.ite_none_right_eq_some
def q2:=@Bool.false_eq_true
def r0:=@List.all_eq_true
def vx:=@List.length_append
def ye:=@decide_eq_true_eq
def J9:=@List.getElem?_eq_getElem
def JX:=@List.mem_of_getElem?
def K0:=@Nat.mul_le_mul_right
def MR:=@List.drop_eq_nil_of_le
def MS:=@List.flatMap_cons
def qb:=@if_true
def uJ:=@if_false
def Uu:=@List.eq_nil_of_length_eq_zero
def JK:=@Nat.le_refl
def OR:=@List.getElem_of_mem
def LJ:=@List.mem_cons
def Nw:=@List.mem_append
def Lp:=@List.mem_map
def LV:=@decide_false
def Oh:=@Option.map_some
def Pg:=@List.length_cons
def EI:=@Ne.symm
def N2:=@Bool.not_true
def NI:=@Nat.zero_add
def PX:=@List.nil_append
def M6:=@decide_true
def JQ:=@congrArg
def Ph:=@List.drop_zero
def Qo:=@List.length_nil
def Qp:=@Bool.or_eq_true
def NJ:=@Nat.add_mul
def SY:=@List.append_assoc
def QW:=@List.length_set
def Vj:=@List.getD_cons_zero
def Ze:=@List.drop_eq_getElem_cons
def SZ:=@List.length_map
def Vk:=@List.pairwise_cons
def QX:=@List.map_cons
def aag:=@List.getElem?_append_left
def OB:=@cond_false
def Xm:=@beq_eq_false_iff_ne
def Wg:=@List.contains_nil
def Xn:=@List.getElem?_take
def S0:=@Bool.or_false
def RD:=@Nat.le_trans
def Uw:=@Bool.not_false
def Ya:=@Nat.lt_of_lt_of_le
def Yb:=@List.contains_cons
def Yc:=@Int.emod_lt_of_pos
def RE:=@Nat.zero_le
def Xo:=@Option.getD_some
def adU:=@List.getElem?_append_right
def adV:=@List.pairwise_iff_getElem
def Yd:=@List.length_drop
def RF:=@beq_iff_eq
def aah:=@of_decide_eq_true
def ab4:=@List.mem_of_mem_take
def ab5:=@Bool.or_eq_false_iff
def Ye:=@Int.emod_nonneg
def adW:=@List.take_of_length_le
def agv:=@List.mem_or_eq_of_mem_set
def agw:=@List.getElem?_eq_none_iff
def RG:=@cond_true
def aai:=@List.getElem?_map
def aaj:=@Int.toNat_natCast
def agx:=@Option.bind_eq_some_iff
def aak:=@Nat.mod_eq_of_lt
def aal:=@List.length_take
def ab6:=@Bool.not_eq_true'
def adX:=@Array.length_toList
def aam:=@List.append_nil
def aan:=@Option.some.inj
def adY:=@List.getElem?_drop
def Yf:=@Nat.add_zero
def ab7:=@List.cons_append
def Zf:=@Bool.true_and
def agy:=@List.length_pos_iff
def ajp:=@Option.map_eq_some_iff
def Zg:=@exists_false
def Zh:=@List.all_map
def aao:=@List.all_cons
def an':=@Array.getElem?_eq_some_iff
def aoa:=@Int.tdiv_eq_ediv_of_nonneg
def Wh:=@and_false
def aob:=@Option.isSome_iff_exists
def adZ:=@List.mem_filter
def ajq:=@BitVec.ofInt_natCast
def ajr:=@Nat.pow_le_pow_right
def asu:=@List.find?_eq_some_iff_getElem
def agz:=@List.pairwise_map
def ab8:=@Nat.add_assoc
def aoc:=@List.getElem?_cons_zero
def aod:=@decide_eq_false_iff_not
def asv:=@Option.ite_none_left_eq_some
def adR:=@Int.toNat_zero
def ase:=@Array.getD_eq_getD_getElem?
def aje:=@List.mem_singleton
def ajf:=@BitVec.toNat_ofNat
def anW:=@List.take_append_drop
def adS:=@List.sum_cons
def asf:=@List.exists_mem_of_ne_nil
def asg:=@Array.getElem?_eq_getElem
def ash:=@List.eq_of_mem_replicate
def ajg:=@List.any_eq_true
def anX:=@List.getD_cons_succ
def anY:=@Int.toNat_of_nonneg
def asi:=@List.getElem?_cons_succ
def ajh:=@List.map_append
def anZ:=@List.find?_eq_none
def an0:=@List.ext_getElem?
def asj:=@Array.getElem?_modify
def asl:=@List.getElem?_toArray
def aji:=@List.mem_range
def agu:=@List.map_nil
def asm:=@Nat.le_of_ble_eq_true
def ajj:=@List.nodup_nil
def ajk:=@decide_eq_true
def asn:=@List.mem_of_mem_drop
def aso:=@List.getElem?_zipIdx
def an1:=@Bool.cond_eq_ite
def an2:=@List.cons.injEq
def ayP:=@List.mem_of_find?_eq_some
def ajl:=@Nat.le_of_eq
def ajm:=@Nat.mul_comm
def ajn:=@exists_const
def ab3:=@and_true
def ajo:=@List.sum_nil
def an3:=@List.drop_drop
def ayQ:=@Nat.le_mul_of_pos_right
def ayR:=@List.filter_cons_of_neg
def ayS:=@List.filter_cons_of_pos
def ayT:=@Int.eq_ofNat_of_zero_le
def asp:=@List.getElem?_set
def an4:=@List.map_take
def adT:=@true_and
def ayU:=@Array.getElem?_toList
def ayV:=@List.mem_iff_getElem?
def ayW:=@Bool.and_eq_false_iff
def an5:=@Nat.add_comm
def an6:=@Nat.zero_mul
def ayX:=@List.contains_eq_mem
def aKZ:=@List.eq_nil_iff_forall_not_mem
def ayY:=@List.mem_cons_of_mem
def an7:=@Nat.beq_refl
def ayZ:=@List.mem_append_left
def an8:=@Nat.pow_succ
def ay0:=@List.pairwise_append
def asq:=@decide_eq_false
def ay1:=@List.flatMap_append
def aK0:=@Array.getElem?_setIfInBounds
def ay2:=@List.mem_cons_self
def asr:=@List.map_drop
def ay3:=@Nat.lt_trichotomy
def ay4:=@List.any_eq_false
def ay5:=@Bool.eq_false_iff
def an9:=@Nat.mod_lt
def ay6:=@List.getElem_mem
def ay7:=@List.range'_succ
def ay8:=@List.mem_flatMap
def ay9:=@List.nodup_range
def ass:=@Bool.true_or
theorem gC{α:Type _}{b:α}{β:Type _}{x:Option β}{f:β -> α}:Option.map f x=some b↔∃a,x=some a /\ f a=b:=ajp
theorem hC{α:Type _}{b:α}{β:Type _}{x:Option β}{f:β -> Option α}:x.bind f=some b↔∃a,x=some a /\ f a=some b:=agx
theorem cm{α:Type _}{β:Type _}(a:α)(f:α -> Option β):(some a).bind f=f a:=Option.bind_some ..
theorem g'.{u}{α β:Type u}:(bind:Option α -> (α -> Option β) -> Option β)=Option.bind:=Option.bind_eq_bind
open Go
inductive T where
 | bool (b:Bool)
 | int (k:IntKind) (n:Int)
 | str (s:List UInt8)
 | slice (es:List (List T))
inductive C where
 | t (x:T)
 | ptr (b o:Nat)
 | pr (b sz i o:Nat)
 | IJ (ts:List T) (o:Nat)
 | arr (b sz off len:Nat)
 | MW (b sz off len:Nat)
 | mp (b:Nat)
 | Jx (b:Nat)
 | pq (b len:Nat)
 | ee
 | Ln
 | Lm
 | fn (f:Nat) (caps:List Nat)
 | dead
inductive V where
 | c (x:C)
 | agg (cs:List C)
 | gJ (vs:List V)
inductive h2 where
 | box (cs:List C)
 | arr (sz:Nat) (es:List (List T))
 | set (ks:List (List UInt8))
 | buf (E:TypeId) (s:List UInt8)
 | kn (E:TypeId) (c:C)
 | nJ (sz:Nat) (es:List (List T)) (i o:Nat) (c:C)
abbrev y0 :=Nat->Nat->Prop
abbrev vt :=Nat->Nat×Nat
def Lh :Nat:=9223372036854775807
def KJ :Nat:=281474976710656
inductive k1 (w:World) (S:y0):T->Value->Prop
 | bool (b:Bool):k1 w S (.bool b) (.bool b)
 | int (k:IntKind) (n:Int):k1 w S (.int k n) (.int k n)
 | str (s:ByteArray) (h:s.size<=Lh):k1 w S (.str s.data.toList) (.string s)
 | slice (es : List (List T)) (a : Option Addr) (cap sz b o : Nat) (f : Nat -> Nat -> Value)
  (SJ:es.length<=cap) (NX:es.length<=KJ)
  (h6:∀e,e∈es->e.length=sz)
  (ch:es≠[]->a=some ⟨b,o,none⟩)
  (b7:∀i j,i < es.length->j < sz->S b (o+i*sz+j)/\w.cell? ⟨b,o+i*sz+j,none⟩=some (f i j))
  (cv:∀i j e t,es[i]?=some e->e[j]?=some t->k1 w S t (f i j)):
  k1 w S (.slice es) (.slice a es.length cap)
structure N7 (w:World) (S:y0) (w':World) (ik:y0):Prop where
 sub:∀b j,S b j->ik b j
 cell:∀b j,S b j->w'.cell? ⟨b,j,none⟩=w.cell? ⟨b,j,none⟩
theorem N7.refl(w:World)(S:y0):N7 w S w S:=⟨λ_ _ h=>h,λ_ _ _=>rfl⟩
theorem N7.trans{w S w' ik aMA ag1}(h:N7 w S w' ik)(k:N7 w' ik aMA ag1):N7 w S aMA ag1:=
 ⟨λb j al=>k.sub b j (h.sub b j al),λb j al=>(k.cell b j (h.sub b j al)).trans (h.cell b j al)⟩
theorem k1.mono{w S w' ik}(m:N7 w S w' ik){t v}(h:k1 w S t v):k1 w' ik t v:=by
 induction h with
 | bool b=>exact .bool b
 | int k n=>exact .int k n
 | str s h=>exact .str s h
 | slice es a cap sz b o f SJ NX h6 ch b7 cv ih=>
  exact .slice es a cap sz b o f SJ NX h6 ch
   (λi j ay c7=>⟨m.sub _ _ (b7 i j ay c7).1,by rw[m.cell _ _ (b7 i j ay c7).1];exact(b7 i j ay c7).2⟩) ih
theorem k1.S1{w S t v}(h:k1 w S t v):v.oneCell'=true:=by cases h <;> rfl
def ho(φ:vt)(w:World)(S:y0):C->Value->Prop
 | .t x,v=>k1 w S x v
 | .ptr b o,v=>v= .pointer (some ⟨(φ b).1,o,none⟩)
 | .pr b sz i o,v=>v= .pointer (some ⟨(φ b).1,i*sz+o,none⟩)
 | .IJ ts o, v => ∃ (blk off : Nat) (f : Nat -> Value), v = .pointer (some ⟨blk, off + o, none⟩) /\
  ∀j t,ts[j]?=some t->S blk (off+j)/\w.cell? ⟨blk,off+j,none⟩=some (f j)/\k1 w S t (f j)
 | .arr b sz off len,v=>∃a,v= .slice a len ((φ b).2 - off)/\((φ b).2≠0->a=some ⟨(φ b).1,off*sz,none⟩)/\off+len<=(φ b).2
 | .MW b sz off len,v=>∃a cap,v= .slice a len cap/\(len≠0->a=some ⟨(φ b).1,off*sz,none⟩)/\len<=cap
 | .mp b,v=>v= .map (some (φ b).1)
 | .pq b len,v=>len<=(φ b).2/\((φ b).2=0->v= .slice none 0 0)/\((φ b).2≠0->v= .slice (some ⟨(φ b).1,0,none⟩) len (φ b).2)
 | .Jx b,v=>∃p,v= .pointer p/\((φ b).2≠0->p=some ⟨(φ b).1,0,none⟩)
 | .ee,v=>∃a,v= .slice a 0 0
 | .Ln,v=>v= .pointer none
 | .Lm,v=>v= .nilFunc
 | .fn f caps,v=>v= .func (.func f) #[] (caps.map λb=>Value.pointer (some ⟨(φ b).1,0,none⟩)).toArray
 | .dead,v=>v.oneCell'=true
theorem ho.S1{φ w S c v}(h:ho φ w S c v):v.oneCell'=true:=by
 cases c with
 | t x=>exact k1.S1 h
 | IJ ts o=>obtain⟨_,_,_,rfl,_⟩:=h;rfl
 | arr b sz off len=>obtain⟨_,rfl,_⟩:=h;rfl
 | MW b sz off len=>obtain⟨_,_,rfl,_⟩:=h;rfl
 | Jx b=>obtain⟨_,rfl,_⟩:=h;rfl
 | pq b len=>
  by_cases h0:(φ b).2=0
  . rw[h.2.1 h0];rfl
  . rw[h.2.2 h0];rfl
 | ee=>obtain⟨_,rfl⟩:=h;rfl
 | dead=>exact h
 | _=>cases h;rfl
def C.c'(n:Nat->Bool):C->Bool
 | .ptr b _=>n b
 | .pr b _ _ _=>n b
 | .arr b _ _ _=>n b
 | .MW b _ _ _=>n b
 | .mp b=>n b
 | .Jx b=>n b
 | .pq b _=>n b
 | .fn _ caps=>caps.all λb=>n b
 | _=>true
def V.c'(n:Nat->Bool):V->Bool
 | .c x=>x.c' n
 | .agg cs=>cs.all (C.c' n)
 | .gJ vs=>V.Is n vs
where V.Is (n:Nat->Bool):List V->Bool
 | []=>true
 | v::vs=>v.c' n && V.Is n vs
theorem ho.mono{φ hK:vt}{w S w' ik}(m:N7 w S w' ik){n:Nat->Bool}(n1:∀b,n b=true->hK b=φ b){c v}(al:c.c' n=true)(h:ho φ w S c v):ho hK w' ik c v:=by
 cases c with
 | t x=>exact k1.mono m h
 | ptr b o=>simp only[C.c']at al;simp only[ho,n1 b al]at h ⊢;exact h
 | pr b sz i o=>simp only[C.c']at al;simp only[ho,n1 b al]at h ⊢;exact h
 | IJ ts o=>
  obtain⟨blk,off,f,rfl,ai⟩:=h;exact⟨blk,off,f,rfl,λj t ht=>⟨m.sub _ _ (ai j t ht).1,by rw[m.cell _ _ (ai j t ht).1];exact(ai j t ht).2.1,k1.mono m (ai j t ht).2.2⟩⟩
 | arr b sz off len=>simp only[C.c']at al;simp only[ho,n1 b al]at h ⊢;exact h
 | MW b sz off len=>simp only[C.c']at al;simp only[ho,n1 b al]at h ⊢;exact h
 | mp b=>simp only[C.c']at al;simp only[ho,n1 b al]at h ⊢;exact h
 | Jx b=>simp only[C.c']at al;simp only[ho,n1 b al]at h ⊢;exact h
 | pq b len=>simp only[C.c']at al;simp only[ho,n1 b al]at h ⊢;exact h
 | ee=>exact h
 | Ln=>exact h
 | Lm=>exact h
 | fn f caps=>
  simp only[ho]at h ⊢;rw[h]
  congr 2
  apply List.map_congr_left;intro b aJH;simp only[C.c',r0]at al
  grind
 | dead=>exact h
inductive f' {α β:Type} (R:α->β->Prop):List α->List β->Prop
 | nil:f' R [] []
 | cons {a b l m}:R a b->f' R l m->f' R (a::l) (b::m)
theorem f'.imp{α β:Type}{R R':α->β->Prop}{l m}(h:f' R l m)(k:∀a b,a∈l->R a b->R' a b):f' R' l m:=by
 induction h with
 | nil=>exact .nil
 | cons JC _ ih=>exact .cons (k _ _ (by simp) JC) (ih λa b ch=>k a b (by simp[ch]))
theorem f'.length{α β:Type}{R:α->β->Prop}{l:List α}{m:List β}(h:f' R l m):l.length=m.length:=by
 induction h with
 | nil=>rfl
 | cons _ _ ih=>simp[ih]
theorem f'.get{α β:Type}{R:α->β->Prop}{l:List α}{m:List β}(h:f' R l m){i:Nat}{a:α}(ch:l[i]?=some a):∃b,m[i]?=some b/\R a b:=by
 induction h generalizing i with
 | nil=>simp at ch
 | cons JC _ ih=>cases i with
  | zero=>simp at ch;subst ch;exact⟨_,by simp,JC⟩
  | succ i=>simp at ch;simpa using ih ch
theorem f'.Xp{α β:Type}{R:α->β->Prop}:∀{l:List α} {m:List β},l.length=m.length->(∀(i:Nat) a b,l[i]?=some a->m[i]?=some b->R a b)->f' R l m
 | [],[],_,_=>.nil
 | [],_::_,h,_=>by simp at h
 | _::_,[],h,_=>by simp at h
 | a::l,b::m,h,k=>.cons (k 0 a b (by simp) (by simp)) (f'.Xp (by simpa using h) λi x y ad bJ=>k (i+1) x y (by simpa using ad) (by simpa using bJ))
theorem f'.append{α β:Type}{R:α->β->Prop}{l z':List α}{m K7:List β}(h:f' R l m)(rz:f' R z' K7):f' R (l++z') (m++K7):=by
 induction h with
 | nil=>exact rz
 | cons JC _ ih=>exact .cons JC ih
theorem f'.drop{α β:Type}{R:α->β->Prop}{l:List α}{m:List β}(h:f' R l m)(k:Nat):f' R (l.drop k) (m.drop k):=by
 induction h generalizing k with
 | nil=>simp;exact .nil
 | cons JC ht ih=>cases k with
  | zero=>exact .cons JC ht
  | succ k=>simpa using ih k
theorem f'.take{α β:Type}{R:α->β->Prop}{l:List α}{m:List β}(h:f' R l m)(k:Nat):f' R (l.take k) (m.take k):=by
 induction h generalizing k with
 | nil=>simp;exact .nil
 | cons JC _ ih=>cases k with
  | zero=>exact .nil
  | succ k=>exact .cons JC (ih k)
inductive k' (φ:vt) (w:World) (S:y0):V->Value->Prop
 | c {x v}:ho φ w S x v->k' φ w S (.c x) v
 | agg {cs vs}:f' (ho φ w S) cs vs->k' φ w S (.agg cs) (.agg vs.toArray)
 | gJ (vs : List V) (xs : List Value) (a6 : vs.length = xs.length) (h : ∀ (i : Nat) v x, vs[i]? = some v -> xs[i]? = some x -> k' φ w S v x):
  k' φ w S (.gJ vs) (.tuple xs.toArray)
theorem ZL{n:Nat->Bool}:∀{vs:List V} {i:Nat} {v:V},V.c'.V.Is n vs=true->vs[i]?=some v->v.c' n=true
 | [],_,_,_,h=>by simp at h
 | x::vs,0,v,al,h=>by simp at h;subst h;simp[V.c'.V.Is]at al;exact al.1
 | x::vs,i+1,v,al,h=>by simp[V.c'.V.Is]at al;exact ZL al.2 (by simpa using h)
theorem k'.mono{φ hK:vt}{w S w' ik}(m:N7 w S w' ik){n:Nat->Bool}(n1:∀b,n b=true->hK b=φ b){x v}(al:V.c' n x=true)(h:k' φ w S x v):k' hK w' ik x v:=by
 induction h with
 | c h=>exact .c (ho.mono m n1 (by simpa[V.c']using al) h)
 | agg h=>exact .agg (h.imp λa b ch JC=>ho.mono m n1 (by simp[V.c']at al;exact al a ch) JC)
 | gJ vs xs a6 h ih=>exact .gJ vs xs a6 λi v x cv ad=>ih i v x cv ad (ZL (by simpa[V.c']using al) cv)
end
section
open Go
inductive er where
 | tmp (t:Nat)
 | const (v:V)
inductive py where
 | mov (x:er)
 | pick (c x y:er)
 | alloc (cs:List C)
 | box (x:er)
 | build (zero:List C) (parts:List (Nat×Nat×er))
 | bslice (sz:Nat) (len:Nat) (zero:List C) (parts:List (Nat×er))
 | load (agg:Bool) (n:Nat) (x:er)
 | store (n:Nat) (x v:er)
 | nilCheck (x:er)
 | bin (op:BinOp) (x y:er)
 | eqAgg (neg:Bool) (ks:List Nat) (x y:er)
 | eqBool (neg:Bool) (x y:er)
 | eqNil (neg:Bool) (x:er)
 | not (x:er)
 | conv (k:IntKind) (x:er)
 | i2s (x:er)
 | s2s (x:er)
 | fldA (off:Nat) (x:er)
 | fld (agg:Bool) (off n:Nat) (x:er)
 | idxA (sz:Nat) (x i:er)
 | idxS (x i:er)
 | slcS (x:er) (hi ay:Option er)
 | slc (sz:Nat) (x:er) (hi ay:Option er)
 | slc0 (x:er)
 | allocA (cs:List C)
 | idxP (n:Nat) (x i:er)
 | slcP (n:Nat) (x:er) (hi ay:Option er)
 | b2s (x:er)
 | allocS (e e8:Nat)
 | bsliceT (e sz len:Nat) (zero:List C) (parts:List (Nat×er))
 | mkset
 | lkset (x k:er)
 | upset (x k:er)
 | appendB (e bytes:Nat) (x y:er)
 | sdata (x:er)
 | ustr (e:Nat) (x n:er)
 | mkfn (f:Nat) (caps:List er)
 | ext (x:er) (i:Nat)
 | len (str:Bool) (x:er)
 | append (sz bytes:Nat) (x y:er)
 | max2 (x y:er)
 | min2 (x y:er)
 | call (f:Nat) (args:List er)
 | Re (x:er) (args:List er)
structure kx where
 dst:Option Nat
 op:py
 guard:Option (Nat×Bool)
def asx :Value->Option C
 | .bool b=>some (.t (.bool b))
 | .int k n=>some (.t (.int k n))
 | .string s=>if s.size<=Lh then some (.t (.str s.data.toList))else none
 | .slice none 0 0=>some .ee
 | .pointer none=>some .Ln
 | .nilFunc=>some .Lm
 | .nilIface=>some .dead
 | _=>none
def ahF :List Value->Option (List C)
 | []=>some []
 | v::vs=>(asx v).bind λc=>(ahF vs).map (c::·)
def aws :Value->Option V
 | .agg cs=>(ahF cs.toList).map .agg
 | v=>(asx v).map .c
def hT :Operand->Option er
 | .tmp t=>some (.tmp t)
 | .const v=>(aws v).map .const
 | .func f=>some (.const (.c (.fn f [])))
 | .global _=>none
def Zi :List Operand->Option (List er)
 | []=>some []
 | x::xs=>(hT x).bind λa=>(Zi xs).map (a::·)
def Vm :Option Operand->Option (Option er)
 | none=>some none
 | some x=>(hT x).map some
def Ww(P:Program)(t:TypeId):Option (List C):=
 (P.info? t).bind λi=>i.zero.bind λz=>ahF z.cells.toList
def abh(P:Program)(t:TypeId):Option Bool:=
 match P.underlying t with
 | some (.struct _) | some (.array _ _)=>some true
 | some _=>some false
 | none=>none
def JR(P:Program)(t:TypeId):Option Nat:=(P.info? t).map (·.size)
def afl(P:Program)(t:TypeId):Option (Bool×Nat):=
 (abh P t).bind λg=>(JR P t).bind λn=>if g=false->n=1 then some (g,n)else none
def PE(P:Program)(f:Nat):Bool:=
 match P.funcs[f]? with
 | some fn => fn.body.isSome && !(fn.name == "runtime.NumGoroutine")
 | none=>false
def anQ(P:Program)(t:TypeId):Option Nat:=
 match P.underlying t with
 | some .bool=>some 0
 | some (.int _)=>some 1
 | some .string=>some 2
 | _=>none
def akL(P:Program):Nat->List Field->Option (List Nat)
 | _,[]=>some []
 | i, f :: fs => if f.offset = i /\ f.name ≠ "_" then (anQ P f.type).bind λk => (akL P (i + 1) fs).map (k :: ·) else none
def aug(P:Program)(t:TypeId):Option (List Nat):=
 match P.underlying t with
 | some (.struct fs)=>if P.stoodInHeld t=false/\P.eqGuardType P.depth t=false then akL P 0 fs.toList else none
 | _=>none
def atW(P:Program)(fs:Array Field):Bool:=fs.toList.all λf=>(JR P f.type).isSome
def ahp(P:Program)(fs:Array Field):List (Nat×Operand)->Option (List (Nat×Nat×er))
 | []=>some []
 | (j,x)::r=>(fs[j]?).bind λf=>(JR P f.type).bind λn=>(hT x).bind λa=>(ahp P fs r).map ((f.offset,n,a)::·)
def ahV(n:Nat):List (Nat×Operand)->Option (List (Nat×Nat×er))
 | []=>some []
 | (j,x)::r=>(hT x).bind λa=>(ahV n r).map ((j*n,n,a)::·)
def abd :List (Nat×Operand)->Option (List (Nat×er))
 | []=>some []
 | (j,x)::r=>(hT x).bind λa=>(abd r).map ((j,a)::·)
def Yz(P:Program)(c:Call):Option py:=
 match c.callee with
 | .builtin .len=>match c.args.toList,c.argTypes.toList with
  | [x],[t]=>match P.underlying t with
   | some .string=>(hT x).map (.len true)
   | some (.slice _)=>(hT x).map (.len false)
   | _=>none
  | _,_=>none
 | .builtin .append=>match c.args.toList,c.argTypes.toList with
  | [x,y],[t,u]=>match P.underlying t,P.underlying u with
   | some (.slice e), some .string => (P.info? e).bind λi => (hT x).bind λa => (hT y).bind λb =>
    if i.size=1/\(i.zero.map (·.cells.size))=some 1/\(match P.underlying e with | some (.int .u8)=>true | _=>false)=true then some (.appendB e i.bytes a b)else none
   | some (.slice e), some (.slice _) => (P.info? e).bind λi => (hT x).bind λa => (hT y).bind λb =>
    if i.size≠0/\(i.zero.map (·.cells.size))=some i.size then some (.append i.size i.bytes a b)else none
   | _,_=>none
  | _,_=>none
 | .builtin .max=>match c.args.toList with
  | [x,y]=>(hT x).bind λa=>(hT y).map λb=>.max2 a b
  | _=>none
 | .builtin .min=>match c.args.toList with
  | [x,y]=>(hT x).bind λa=>(hT y).map λb=>.min2 a b
  | _=>none
 | .builtin .unsafeSliceData=>match c.args.toList,c.argTypes.toList with
  | [x],[t]=>match P.underlying t with
   | some (.slice e)=>if JR P e=some 1 then(hT x).map .sdata else none
   | _=>none
  | _,_=>none
 | .builtin .unsafeString=>match c.args.toList,c.argTypes.toList with
  | [x,n],[t,_]=>match P.underlying t with
   | some (.pointer e)=>if(match P.underlying e with | some (.int .u8)=>true | _=>false)=true/\JR P e=some 1/\P.cellsOf e=1 then(hT x).bind λa=>(hT n).map λb=>.ustr e a b else none
   | _=>none
  | _,_=>none
 | .value (.func f)=>if PE P f then(Zi c.args.toList).map (.call f)else none
 | .value (.tmp t)=>(Zi c.args.toList).map (.Re (.tmp t))
 | _=>none
def aFV(P:Program)(t:TypeId):Bool:=
 match P.info? t with
 | some i => (match i.desc with | .named n _ => n == "strings.Builder" | _ => false)
 | none=>false
def aDJ :List Value->Bool
 | [.pointer none,.slice none 0 0]=>true
 | _=>false
def awt(P:Program)(t:TypeId):Bool:=
 match (P.info? t).bind (·.zero)with
 | some z=>aDJ z.cells.toList
 | none=>false
def akB(P:Program)(t:TypeId):Option Nat:=
 if aFV P t=true/\awt P t=true then match P.underlying t with
  | some (.struct fs)=>(fs[1]?).bind λf=>match P.underlying f.type with
   | some (.slice e)=>some e
   | _=>none
  | _=>none
 else none
def afb(P:Program)(t:TypeId):Bool:=
 match P.underlying t with
 | some (.map k v)=>(match P.underlying k,P.underlying v with | some .string,some .bool=>true | _,_=>false) && (match (P.info? v).bind (·.zero)with | some (.bool false)=>true | _=>false)
 | _=>false
def atX :Operand->Bool
 | .const (.bool true)=>true
 | _=>false
def auh :Operand->Bool
 | .const (.slice none 0 0)=>true
 | _=>false
def s'(P:Program)(o:Op):Option py:=
 match o with
 | .move x | .assign x=>(hT x).map .mov
 | .pick c a b=>(hT c).bind λc=>(hT a).bind λa=>(hT b).map λb=>.pick c a b
 | .alloc e=>match akB P e with
  | some e8=>some (.allocS e e8)
  | none=>(Ww P e).bind λcs=>match P.underlying e with
   | some (.array n t)=>if JR P t=some 1/\n=cs.length/\n≠0/\n<=2 ^ 24 then some (.allocA cs)else some (.alloc cs)
   | _=>some (.alloc cs)
 | .box _ x=>(hT x).map .box
 | .build t parts=>match P.underlying t with
  | some (.struct fs)=>if atW P fs then(Ww P t).bind λz=>(ahp P fs parts.toList).map λps=>.build z ps else none
  | some (.array _ e)=>(Ww P t).bind λz=>(JR P e).bind λn=>(ahV n parts.toList).map λps=>.build z ps
  | _=>none
 | .buildSlice t len parts=>match P.underlying t with
  | some (.slice e) => (JR P e).bind λn => (Ww P e).bind λz => (abd parts.toList).bind λps =>
   if n≠0/\z.length=n/\len*n<=2 ^ 24 then some (.bslice n len z ps)else none
  | _=>none
 | .load t a=>(afl P t).bind λg=>(hT a).map λx=>.load g.1 g.2 x
 | .store t a v=>(JR P t).bind λn=>(hT a).bind λx=>(hT v).map λy=>.store n x y
 | .nilCheck x=>(hT x).map .nilCheck
 | .binOp op t x y _=>
  if op= .eql\/op= .neq then match P.underlying t with
   | some (.struct _)=>(aug P t).bind λks=>(hT x).bind λa=>(hT y).map λb=>.eqAgg (op== .neq) ks a b
   | some (.slice _)=>if auh y then(hT x).map (.eqNil (op== .neq))else none
   | some .bool=>(hT x).bind λa=>(hT y).map λb=>.eqBool (op== .neq) a b
   | some (.int _) | some .string=>(hT x).bind λa=>(hT y).map λb=>.bin op a b
   | _=>none
  else(hT x).bind λa=>(hT y).map λb=>.bin op a b
 | .unOp .not _ x=>(hT x).map .not
 | .unOp .neg t x=>match P.underlying t with
  | some (.int k)=>(hT x).map (.bin .sub (.const (.c (.t (.int k 0)))))
  | _=>none
 | .unOp .xor t x=>match P.underlying t with
  | some (.int k)=>(hT x).map (.bin .xor (.const (.c (.t (.int k (if k.signed then -1 else k.max))))))
  | _=>none
 | .convert s d x=>match P.underlying s,P.underlying d with
  | some (.int _),some (.int k)=>(hT x).map (.conv k)
  | some (.int _),some .string=>(hT x).map .i2s
  | some .string,some .string=>(hT x).map .s2s
  | some (.slice e),some .string=>if(match P.underlying e with | some (.int .u8)=>true | _=>false)=true/\JR P e=some 1 then(hT x).map .b2s else none
  | _,_=>none
 | .fieldAddr t x f=>match P.underlying t with
  | some (.struct fs)=>(fs[f]?).bind λfd=>(JR P fd.type).bind λn=>if n=0 then none else(hT x).map (.fldA fd.offset)
  | _=>none
 | .field t x f=>match P.underlying t with
  | some (.struct fs)=>(fs[f]?).bind λfd=>(afl P fd.type).bind λg=>(hT x).map (.fld g.1 fd.offset g.2)
  | _=>none
 | .indexAddr t x i=>match P.underlying t with
  | some (.slice e)=>(JR P e).bind λn=>if n=0 then none else(hT x).bind λa=>(hT i).map λb=>.idxA n a b
  | some (.array n e)=>match i with
   | .const (.int _ m)=>if 0<=m/\m.toNat < n then(JR P e).bind λs=>(hT x).map (.fldA (m.toNat*s))else none
   | i=>if JR P e=some 1 then(hT x).bind λa=>(hT i).map λb=>.idxP n a b else none
  | _=>none
 | .index t x i=>match P.underlying t with
  | some .string=>(hT x).bind λa=>(hT i).map λb=>.idxS a b
  | _=>none
 | .slice t x hi ay asa=>match P.underlying t with
  | some .string=>if asa.isNone then(hT x).bind λa=>(Vm hi).bind λl=>(Vm ay).map λh=>.slcS a l h else none
  | some (.slice e)=>match asa with
   | none=>(JR P e).bind λn=>if n=0 then none else(hT x).bind λa=>(Vm hi).bind λl=>(Vm ay).map λh=>.slc n a l h
   | some (.const (.int _ 0))=>match hi,ay with
    | none,some (.const (.int _ 0))=>if(JR P e).isSome then(hT x).map .slc0 else none
    | _,_=>none
   | _=>none
  | some (.array n e)=>if asa.isNone/\JR P e=some 1 then(hT x).bind λa=>(Vm hi).bind λl=>(Vm ay).map λh=>.slcP n a l h else none
  | _=>none
 | .makeFunc (.func f) first caps=>if first.isEmpty then(Zi caps.toList).map (.mkfn f)else none
 | .extract x i=>(hT x).map λa=>.ext a i
 | .makeMap t none=>if afb P t=true then some .mkset else none
 | .lookup t x i false=>if afb P t=true then(hT x).bind λa=>(hT i).map λb=>.lkset a b else none
 | .mapUpdate t m k v=>if afb P t=true/\atX v=true then(hT m).bind λa=>(hT k).map λb=>.upset a b else none
 | .call c=>Yz P c
 | _=>none
def aet(ops:Array Oper):Option (Nat×Bool)->Option (Option (Nat×Bool))
 | none=>some none
 | some (j,b)=>((ops[j]?).bind (·.dst)).map λd=>some (d,b)
def ajb(d:Nat):Operand->Bool
 | .tmp t=>t==d
 | _=>false
def alK(d:Nat):Op->Bool
 | .call c=>match c.callee with
  | .builtin .append=>(c.args.toList.drop 1).any (ajb d)
  | .value (.func _)=>c.args.toList.any (ajb d)
  | _=>false
 | .build _ ps=>ps.toList.any λp=>ajb d p.2
 | .buildSlice _ _ ps=>ps.toList.any λp=>ajb d p.2
 | .convert _ _ x=>ajb d x
 | .indexAddr _ x _=>ajb d x
 | _=>false
def aE4(ops:Array Oper)(o:Oper):Bool:=
 match o.dst with
 | some d=>ops.toList.any λq=>alK d q.op
 | none=>false
def ahq(P:Program)(Ri:Bool)(o:Op):Option py:=
 match o,Ri with
 | .buildSlice t len parts,true=>match P.underlying t with
  | some (.slice e) => (JR P e).bind λn => (Ww P e).bind λz => (abd parts.toList).bind λps =>
   if n≠0/\z.length=n/\len*n<=2 ^ 24 then some (.bsliceT e n len z ps)else none
  | _=>none
 | o,_=>s' P o
def ahm(P:Program)(nt:Nat)(ops:Array Oper)(o:Oper):Option kx:=
 (ahq P (aE4 ops o) o.op).bind λp=>(aet ops o.guard).bind λg=>
  match o.dst with
  | none=>some ⟨none,p,g⟩
  | some d=>if d < nt then some ⟨some d,p,g⟩else none
def To(P:Program)(nt:Nat)(ops:Array Oper):List Oper->Option (List kx)
 | []=>some []
 | o::r=>(ahm P nt ops o).bind λa=>(To P nt ops r).map (a::·)
inductive y' where
 | skip
 | region (ops:List kx)
 | aar (ops:List kx) (ND:List (Nat×Nat))
 | seq (a b:y')
 | cond (c:er) (x y:y')
 | block (id:Nat) (b:y')
 | loop (b:y')
 | exit (id:Nat)
 | ret
def py.neutral :py->Bool
 | .alloc _ | .allocA _ | .box _ | .bslice .. | .store .. | .append .. | .call .. | .Re .. | .eqNil .. =>false
 | .allocS .. | .mkset | .upset .. | .appendB .. | .ustr .. =>false
 | _=>true
def py.QZ :py->Bool
 | .alloc _ | .allocA _ | .b2s _ | .box _ | .bslice .. | .store .. | .append .. | .load .. =>true
 | .allocS .. | .mkset | .lkset .. | .upset .. | .appendB .. | .ustr .. | .call .. =>true
 | _=>false
def py.drawn :py->Bool
 | .eqNil .. =>false
 | _=>true
def er.tmps :er->List Nat
 | .tmp t=>[t]
 | .const _=>[]
def agt :Option er->List Nat
 | none=>[]
 | some x=>x.tmps
def py.reads :py->List Nat
 | .mov x=>x.tmps
 | .pick c x y=>c.tmps++x.tmps++y.tmps
 | .alloc _ | .allocA _=>[]
 | .box x=>x.tmps
 | .build _ ps=>ps.flatMap λp=>p.2.2.tmps
 | .bslice _ _ _ ps=>ps.flatMap λp=>p.2.tmps
 | .load _ _ x=>x.tmps
 | .store _ x v=>x.tmps++v.tmps
 | .nilCheck x=>x.tmps
 | .bin _ x y=>x.tmps++y.tmps
 | .eqAgg _ _ x y=>x.tmps++y.tmps
 | .eqBool _ x y=>x.tmps++y.tmps
 | .eqNil _ x=>x.tmps
 | .not x=>x.tmps
 | .conv _ x=>x.tmps
 | .i2s x=>x.tmps
 | .s2s x=>x.tmps
 | .fldA _ x=>x.tmps
 | .fld _ _ _ x=>x.tmps
 | .idxA _ x i=>x.tmps++i.tmps
 | .idxS x i=>x.tmps++i.tmps
 | .slcS x hi ay=>x.tmps++agt hi++agt ay
 | .slc _ x hi ay=>x.tmps++agt hi++agt ay
 | .slc0 x=>x.tmps
 | .b2s x=>x.tmps
 | .allocS .. | .mkset=>[]
 | .bsliceT _ _ _ _ ps=>ps.flatMap λp=>p.2.tmps
 | .lkset x k=>x.tmps++k.tmps
 | .upset x k=>x.tmps++k.tmps
 | .appendB _ _ x y=>x.tmps++y.tmps
 | .sdata x=>x.tmps
 | .ustr _ x k=>x.tmps++k.tmps
 | .idxP _ x i=>x.tmps++i.tmps
 | .slcP _ x hi ay=>x.tmps++agt hi++agt ay
 | .mkfn _ caps=>caps.flatMap er.tmps
 | .ext x _=>x.tmps
 | .len _ x=>x.tmps
 | .append _ _ x y=>x.tmps++y.tmps
 | .max2 x y=>x.tmps++y.tmps
 | .min2 x y=>x.tmps++y.tmps
 | .call _ args=>args.flatMap er.tmps
 | .Re x args=>x.tmps++args.flatMap er.tmps
def kx.rd(o:kx):List Nat:=o.op.reads++(match o.guard with | none=>[] | some (t,_)=>[t])
def OZ(o:Oper):List Nat:=(o.after.toList.filter (Region.binds .any)).map (·.on)
def ahead(l:List (kx×List Nat))(j i:Nat):Bool:=decide (j < i) && ((l[i]?).map λx=>x.2.contains j).getD false
def aqY :Nat->List (kx×List Nat)->Bool
 | _,[]=>true
 | i,x::r=>x.2.all (· < i) && aqY (i+1) r
def aLF(l:List (kx×List Nat)):Bool:=
 l.zipIdx.all λx=>l.zipIdx.all λy=>
  match y.1.1.dst with
  | none=>true
  | some d=>(!(x.1.1.rd.contains d) || ahead l y.2 x.2 || (x.1.1.op.neutral && !x.1.1.op.QZ && ahead l x.2 y.2)) && (x.2==y.2 || !(x.1.1.dst==some d))
def YU :List (kx×List Nat)->List (List Nat)->List (List Nat)
 | [],acc=>acc
 | x::r,acc=>YU r (acc++[(x.2++x.2.flatMap λe=>acc.getD e []).eraseDups])
def ZR(arj:List (List Nat))(j i:Nat):Bool:=decide (j < i) && (arj.getD i []).contains j
def auT(arj:List (List Nat))(l:List (kx×List Nat)):List (Nat×Nat):=
 l.zipIdx.flatMap λx=>if x.1.1.op.neutral then[]else l.zipIdx.filterMap λy=>
  if y.1.1.op.QZ && !(x.2==y.2) && !(ZR arj x.2 y.2) && !(ZR arj y.2 x.2)then some (x.2,y.2)else none
def WQ(l:List (kx×List Nat)):List (Nat×Nat):=auT (YU l []) l
def aqv(l:List (kx×List Nat)):Bool:=(List.range (l.length - 1)).all λi=>l.zipIdx.any λy=>decide (i < y.2) && y.1.2.contains i
def ae0(l:List (kx×List Nat)):Bool:=aqY 0 l && aLF l && l.all λx=>x.1.op.drawn
def afL(l:List (kx×List Nat)):List (Nat×Nat):=
 if decide (2<=l.length) && aqv l && ae0 l.dropLast then(l.length,0)::(WQ l++WQ l.dropLast)else WQ l
def LX(ops:Array Oper)(fJ:List kx):List (kx×List Nat):=fJ.zip (ops.toList.map OZ)
def resolve(P:Program)(nt:Nat):Code->Option y'
 | .skip=>some .skip
 | .region _ ops draw => (To P nt ops ops.toList).bind λfJ =>
  if draw then(if ae0 (LX ops fJ) && P.follows .mixedOrders then some (.aar fJ (afL (LX ops fJ)))else none)else some (.region fJ)
 | .seq a b=>(resolve P nt a).bind λx=>(resolve P nt b).map λy=>.seq x y
 | .cond c a b=>(hT c).bind λo=>(resolve P nt a).bind λx=>(resolve P nt b).map λy=>.cond o x y
 | .block id b=>(resolve P nt b).map (.block id)
 | .loop b=>(resolve P nt b).map .loop
 | .exit id=>some (.exit id)
 | .ret=>some .ret
 | _=>none
abbrev Env :=List (Nat×Bool×V)
abbrev fu :=List (Nat×h2)
def look :Env->Nat->Option (Bool×V)
 | [],_=>none
 | (k,x)::r,i=>if k=i then some x else look r i
def e1 :fu->Nat->Option h2
 | [],_=>none
 | (k,x)::r,i=>if k=i then some x else e1 r i
def vc :fu->Nat->h2->fu
 | [],b,x=>[(b,x)]
 | (k,y)::r,b,x=>if k=b then(k,x)::r else(k,y)::vc r b x
def Qr :fu->Nat->fu
 | [],_=>[]
 | (k,y)::r,b=>if k=b then Qr r b else(k,y)::Qr r b
theorem q6(J:fu)(b:Nat)(x:h2)(i:Nat):e1 (vc J b x) i=if b=i then some x else e1 J i:=by
 induction J with
 | nil=>simp[vc,e1]
 | cons y r ih=>
  obtain⟨k,y⟩:=y;by_cases hk:k=b
  . subst hk;simp only[vc,qb,e1];split <;> rfl
  . simp only[vc,aJ hk,e1,ih]
    grind
theorem Nb(J:fu)(b:Nat)(i:Nat):e1 (Qr J b) i=if b=i then none else e1 J i:=by
 induction J with
 | nil=>simp[Qr,e1]
 | cons y r ih=>
  obtain⟨k,y⟩:=y;by_cases hk:k=b
  . subst hk;simp only[Qr,qb,e1,ih];by_cases ay:k=i <;> simp[ay]
  . simp only[Qr,aJ hk,e1,ih]
    grind
def er.get(env:Env):er->Option (Prop×V)
 | .const v=>some (True,v)
 | .tmp t=>(look env t).map λx=>(x.1=true,x.2)
def O7(env:Env):List er->Option (Prop×List V)
 | []=>some (True,[])
 | x::xs=>(x.get env).bind λa=>(O7 env xs).map λb=>(a.1/\b.1,a.2::b.2)
def Ug(env:Env):Option er->Option (Prop×Option Int)
 | none=>some (True,none)
 | some x=>(x.get env).bind λa=>match a.2 with
  | .c (.t (.int _ n))=>some (a.1,some n)
  | _=>none
def abi :V->Option (List C)
 | .c x=>some [x]
 | .agg cs=>some cs
 | .gJ _=>none
def toT :C->Option T
 | .t x=>some x
 | .ee=>some (.slice [])
 | _=>none
def toTs :List C->Option (List T)
 | []=>some []
 | c::cs=>(toT c).bind λt=>(toTs cs).map (t::·)
def el(es:List (List T))(i:Nat):List T:=es.getD i []
def abE(cells:List C)(off:Nat)(cs:List C):List C:=cells.take off++cs++cells.drop (off+cs.length)
def WR(env:Env):List C->List (Nat×Nat×er)->Option (Prop×List C)
 | cells,[]=>some (True,cells)
 | cells, (off, n, x):: r => (x.get env).bind λa => (abi a.2).bind λcs =>
  if cs.length=n/\off+n<=cells.length then(WR env (abE cells off cs) r).map λb=>(a.1/\b.1,b.2)else none
def T0(env:Env)(sz:Nat):List (List T)->List (Nat×er)->Option (Prop×List (List T))
 | es,[]=>some (True,es)
 | es, (i, x):: r => (x.get env).bind λa => (abi a.2).bind λcs => (toTs cs).bind λts =>
  if ts.length=sz/\i < es.length then(T0 env sz (es.set i ts) r).map λb=>(a.1/\b.1,b.2)else none
def Xb :BinOp->T->T->Option (Prop×T)
 | .add,.int k a,.int ka b=>if k=ka then some (True,.int k (k.wrap (a+b)))else none
 | .sub,.int k a,.int ka b=>if k=ka then some (True,.int k (k.wrap (a - b)))else none
 | .mul,.int k a,.int ka b=>if k=ka then some (True,.int k (k.wrap (a*b)))else none
 | .quo,.int k a,.int ka b=>if k=ka then some (b≠0,.int k (k.wrap (a.tdiv b)))else none
 | .rem,.int k a,.int ka b=>if k=ka then some (b≠0,.int k (a.tmod b))else none
 | .and,.int k a,.int ka b=>if k=ka then some (True,.int k (k.wrap (BitVec.ofInt k.bits a &&& BitVec.ofInt k.bits b).toNat))else none
 | .or,.int k a,.int ka b=>if k=ka then some (True,.int k (k.wrap (BitVec.ofInt k.bits a ||| BitVec.ofInt k.bits b).toNat))else none
 | .xor,.int k a,.int ka b=>if k=ka then some (True,.int k (k.wrap (BitVec.ofInt k.bits a ^^^ BitVec.ofInt k.bits b).toNat))else none
 | .andNot,.int k a,.int ka b=>if k=ka then some (True,.int k (k.wrap (BitVec.ofInt k.bits a &&& ~~~ BitVec.ofInt k.bits b).toNat))else none
 | .shl,.int k a,.int _ b=>some (0<=b,.int k (k.wrap (a*2 ^ min b.toNat k.bits)))
 | .shr,.int k a,.int _ b=>some (0<=b,.int k (a.fdiv (2 ^ min b.toNat k.bits)))
 | .eql,.int k a,.int ka b=>if k=ka then some (True,.bool (decide (a=b)))else none
 | .neq,.int k a,.int ka b=>if k=ka then some (True,.bool (!decide (a=b)))else none
 | .lss,.int k a,.int ka b=>if k=ka then some (True,.bool (decide (a < b)))else none
 | .leq,.int k a,.int ka b=>if k=ka then some (True,.bool (decide (a<=b)))else none
 | .gtr,.int k a,.int ka b=>if k=ka then some (True,.bool (decide (b < a)))else none
 | .geq,.int k a,.int ka b=>if k=ka then some (True,.bool (decide (b<=a)))else none
 | .add,.str a,.str b=>some (a.length+b.length<=Lh,.str (a++b))
 | .eql,.str a,.str b=>some (True,.bool (decide (a=b)))
 | .neq,.str a,.str b=>some (True,.bool (!decide (a=b)))
 | .lss,.str a,.str b=>some (True,.bool (Op.bytesLess a b))
 | .leq,.str a,.str b=>some (True,.bool (Op.bytesLess a b || decide (a=b)))
 | .gtr,.str a,.str b=>some (True,.bool (!(Op.bytesLess a b || decide (a=b))))
 | .geq,.str a,.str b=>some (True,.bool (!(Op.bytesLess a b)))
 | _,_,_=>none
def aru :Nat->T->T->Option Bool
 | 0,.bool a,.bool b=>some (a==b)
 | 1,.int k a,.int ka b=>if k=ka then some (decide (a=b))else none
 | 2,.str a,.str b=>some (decide (a=b))
 | _,_,_=>none
def afS :List Nat->List C->List C->Option Bool
 | [],[],[]=>some true
 | k::ks,.t x::xs,.t y::ys=>(aru k x y).bind λb=>(afS ks xs ys).map λr=>b && r
 | _,_,_=>none
abbrev ao4 :=Option (Prop×V×fu)
def loadT(agg:Bool)(n:Nat)(ts:List T)(o:Nat):Option V:=
 if agg then(if o+n<=ts.length then some (.agg (((ts.drop o).take n).map .t))else none)else(ts[o]?).map λt=>.c (.t t)
def Us(agg:Bool)(n:Nat)(cs:List C)(o:Nat):Option V:=
 if agg then(if o+n<=cs.length then some (.agg ((cs.drop o).take n))else none)else(cs[o]?).map .c
def Qy :Nat:=281474976710656
def Yn(J:fu):V->Option (List (List T)×Option Nat)
 | .c (.t (.slice ys))=>some (ys,none)
 | .c .ee=>some ([],none)
 | .c (.arr b lJ off len)=>match e1 J b with
  | some (.arr aoy ys)=>if lJ=aoy/\off=0/\len=ys.length then some (ys,some b)else none
  | _=>none
 | _=>none
def bytesOf :List (List T)->Option (List UInt8)
 | []=>some []
 | [.int .u8 m]::r=>(bytesOf r).map λs=>UInt8.ofNat m.toNat::s
 | _=>none
def Z1(J:fu):V->Option (Prop×List UInt8)
 | .c (.t (.slice es))=>(bytesOf es).map λs=>(True,s)
 | .c .ee=>some (True,[])
 | .c (.arr b 1 off len)=>match e1 J b with
  | some (.arr 1 es)=>(bytesOf ((es.drop off).take len)).map λs=>(off+len<=es.length,s)
  | _=>none
 | .c (.MW b 1 off len)=>match e1 J b with
  | some (.arr 1 es)=>(bytesOf ((es.drop off).take len)).map λs=>(off+len<=es.length,s)
  | _=>none
 | _=>none
def SI(ks:List (List UInt8))(s:List UInt8):Bool:=ks.any λk=>decide (k=s)
def Sr(ks:List (List UInt8))(s:List UInt8):List (List UInt8):=if SI ks s=true then ks else ks++[s]
def aoh :List C->Option C
 | [.arr b sz off len]=>some (.arr b sz off len)
 | _=>none
def Zq :V->V->Option (Nat×Nat×Nat×Nat×Nat×Nat×Nat)
 | .c (.arr b sz off len),.c (.MW hq lJ Xq QV)=>if b=hq then some (b,sz,off,len,lJ,Xq,QV)else none
 | _,_=>none
def aii(J:fu)(n sz:Nat)(p q:Prop):Nat×Nat×Nat×Nat×Nat×Nat×Nat->ao4
 | (b,s1,off,len,s2,Xq,QV)=>match e1 J b with
  | some (.arr Wm es) => some (p /\ q /\ s1 = sz /\ s2 = sz /\ Wm = sz /\ off = 0 /\ len + QV <= es.length /\ Xq + QV <= es.length,
   .c (.arr n sz 0 (len+QV)),vc (Qr J b) n (.arr sz (es.take len++(es.drop Xq).take QV)))
  | _=>none
def ep(o:py)(env:Env)(J:fu)(n:Nat):ao4:=
 match o with
 | .mov x=>(x.get env).map λa=>(a.1,a.2,J)
 | .pick c x y => (c.get env).bind λc => (x.get env).bind λx => (y.get env).bind λy =>
  match c.2,x.2,y.2 with
  | .c (.t (.bool b)),.c (.t (.bool p)),.c (.t (.bool q))=>
   some (c.1/\(b=true->x.1)/\(b=false->y.1),.c (.t (.bool (bif b then p else q))),J)
  | _,_,_=>none
 | .alloc cs=>some (True,.c (.ptr n 0),vc J n (.box cs))
 | .allocA cs=>(toTs cs).map λts=>(True,.c (.ptr n 0),vc J n (.arr 1 (ts.map λt=>[t])))
 | .idxP k x i => (x.get env).bind λa => (i.get env).bind λj => match a.2, j.2 with
  | .c (.ptr b 0),.c (.t (.int _ m))=>some (a.1/\j.1/\0<=m/\m.toNat < k,.c (.pr b 1 m.toNat 0),J)
  | _,_=>none
 | .slcP k x hi ay => (x.get env).bind λa => (Ug env hi).bind λl => (Ug env ay).bind λh => match a.2 with
  | .c (.ptr b 0)=>
   let e:=h.2.getD k
   let c:=l.2.getD 0
   some (a.1/\l.1/\h.1/\0<=c/\c<=e/\e<=k,.c (.MW b 1 c.toNat (e.toNat - c.toNat)),J)
  | _=>none
 | .b2s x=>(x.get env).bind λa=>(Z1 J a.2).map λr=>(a.1/\r.1,.c (.t (.str r.2)),J)
 | .box x=>(x.get env).bind λa=>(abi a.2).map λcs=>(a.1,.c (.ptr n 0),vc J n (.box cs))
 | .build z parts=>(WR env z parts).map λa=>(a.1,.agg a.2,J)
 | .bslice sz len z parts => (toTs z).bind λQw => (T0 env sz (List.replicate len Qw) parts).map λa =>
  (a.1,.c (.arr n sz 0 len),vc J n (.arr sz a.2))
 | .load agg k x => (x.get env).bind λa => match a.2 with
  | .c (.ptr b o)=>match e1 J b with
   | some (.box cs)=>(Us agg k cs o).map λv=>(a.1,v,J)
   | some (.kn _ c)=>if agg=false/\o=1 then some (a.1,.c c,J)else none
   | _=>none
  | .c (.pr b sz i o)=>match e1 J b with
   | some (.arr lJ es)=>(loadT agg k (el es i) o).map λv=>(a.1/\sz=lJ/\i < es.length,v,J)
   | some (.nJ lJ es ny q1 c)=>if agg=true then none else if o=q1 then some (a.1/\sz=lJ/\i=ny,.c c,J)else(loadT false k (el es i) o).map λv=>(a.1/\sz=lJ/\i < es.length,v,J)
   | _=>none
  | .c (.IJ ts o)=>(loadT agg k ts o).map λv=>(a.1,v,J)
  | _=>none
 | .store k x v => (x.get env).bind λa => (v.get env).bind λd => (abi d.2).bind λcs =>
  if cs.length=k then match a.2 with
   | .c (.ptr b o)=>match e1 J b with
    | some (.box ds)=>if o+k<=ds.length then some (a.1/\d.1,.gJ [],vc J b (.box (abE ds o cs)))else none
    | some (.kn e _)=>match o,cs with
     | 1,[c]=>some (a.1/\d.1,.gJ [],vc J b (.kn e c))
     | _,_=>none
    | _=>none
   | .c (.pr b sz i o)=>match e1 J b with
    | some (.arr lJ es)=>match aoh cs with
     | some c=>some (a.1/\d.1/\sz=lJ/\i < es.length/\o+k<=sz,.gJ [],vc J b (.nJ lJ es i o c))
     | none=>(toTs cs).bind λts=>
      some (a.1/\d.1/\sz=lJ/\i < es.length/\o+k<=sz,.gJ [],
       vc J b (.arr lJ (es.set i ((el es i).take o++ts++(el es i).drop (o+k)))))
    | some (.nJ lJ es ny q1 MH)=>match cs with
     | [c]=>if o=q1 then some (a.1/\d.1/\sz=lJ/\i=ny,.gJ [],vc J b (.nJ lJ es ny q1 c))
      else(toT c).bind λt=>some (a.1/\d.1/\sz=lJ/\i < es.length/\o+k<=sz,.gJ [],
       vc J b (.nJ lJ (es.set i ((el es i).take o++[t]++(el es i).drop (o+k))) ny q1 MH))
     | _=>none
    | _=>none
   | _=>none
  else none
 | .nilCheck x => (x.get env).bind λa => match a.2 with
  | .c (.ptr ..) | .c (.pr ..) | .c (.IJ ..)=>some (a.1,a.2,J)
  | _=>none
 | .bin op x y => (x.get env).bind λa => (y.get env).bind λb => match a.2, b.2 with
  | .c (.t p),.c (.t q)=>(Xb op p q).map λr=>(a.1/\b.1/\r.1,.c (.t r.2),J)
  | _,_=>none
 | .eqAgg neg ks x y => (x.get env).bind λa => (y.get env).bind λb => match a.2, b.2 with
  | .agg p,.agg q=>(afS ks p q).map λr=>(a.1/\b.1,.c (.t (.bool (if neg then !r else r))),J)
  | _,_=>none
 | .eqBool neg x y => (x.get env).bind λa => (y.get env).bind λb => match a.2, b.2 with
  | .c (.t (.bool p)),.c (.t (.bool q))=>some (a.1/\b.1,.c (.t (.bool (if neg then !(p==q)else(p==q)))),J)
  | _,_=>none
 | .not x => (x.get env).bind λa => match a.2 with
  | .c (.t (.bool b))=>some (a.1,.c (.t (.bool (!b))),J)
  | _=>none
 | .conv k x => (x.get env).bind λa => match a.2 with
  | .c (.t (.int _ m))=>some (a.1,.c (.t (.int k (k.wrap m))),J)
  | _=>none
 | .i2s x => (x.get env).bind λa => match a.2 with
  | .c (.t (.int _ m))=>some (a.1,.c (.t (.str (Utf8.encode m).data.toList)),J)
  | _=>none
 | .s2s x => (x.get env).bind λa => match a.2 with
  | .c (.t (.str s))=>some (a.1,.c (.t (.str s)),J)
  | _=>none
 | .fldA off x => (x.get env).bind λa => match a.2 with
  | .c (.ptr b o)=>some (a.1,.c (.ptr b (o+off)),J)
  | .c (.pr b sz i o)=>some (a.1,.c (.pr b sz i (o+off)),J)
  | .c (.IJ ts o)=>some (a.1,.c (.IJ ts (o+off)),J)
  | _=>none
 | .fld agg off k x => (x.get env).bind λa => match a.2 with
  | .agg cs=>(Us agg k cs off).map λv=>(a.1,v,J)
  | _=>none
 | .idxA sz x i => (x.get env).bind λa => (i.get env).bind λj => match a.2, j.2 with
  | .c (.t (.slice es)),.c (.t (.int _ m))=>some (a.1/\j.1/\0<=m/\m.toNat < es.length/\(el es m.toNat).length=sz,.c (.IJ (el es m.toNat) 0),J)
  | .c (.arr b lJ off len),.c (.t (.int _ m))=>some (a.1/\j.1/\0<=m/\m.toNat < len/\sz=lJ,.c (.pr b sz (off+m.toNat) 0),J)
  | _,_=>none
 | .idxS x i => (x.get env).bind λa => (i.get env).bind λj => match a.2, j.2 with
  | .c (.t (.str s)),.c (.t (.int _ m))=>some (a.1/\j.1/\0<=m/\m.toNat < s.length,.c (.t (.int .u8 (s.getD m.toNat 0).toNat)),J)
  | _,_=>none
 | .slcS x hi ay => (x.get env).bind λa => (Ug env hi).bind λl => (Ug env ay).bind λh => match a.2 with
  | .c (.t (.str s))=>
   let b:=h.2.getD s.length
   let c:=l.2.getD 0
   some (a.1/\l.1/\h.1/\0<=c/\c<=b/\b<=s.length,.c (.t (.str ((s.take b.toNat).drop c.toNat))),J)
  | _=>none
 | .slc sz x hi ay => (x.get env).bind λa => (Ug env hi).bind λl => (Ug env ay).bind λh => match a.2 with
  | .c (.t (.slice es))=>
   let b:=h.2.getD es.length
   let c:=l.2.getD 0
   some (a.1/\l.1/\h.1/\0<=c/\c<=b/\b<=es.length/\(∀e,e∈es->e.length=sz),.c (.t (.slice ((es.take b.toNat).drop c.toNat))),J)
  | .c (.arr b lJ off len)=>
   some (a.1/\l.1/\h.1/\0<=l.2.getD 0/\l.2.getD 0<=h.2.getD len/\h.2.getD len<=len/\sz=lJ,
    .c (if hi.isNone then .arr b lJ off (h.2.getD len).toNat else .MW b lJ (off+(l.2.getD 0).toNat) ((h.2.getD len).toNat - (l.2.getD 0).toNat)),J)
  | _=>none
 | .slc0 x => (x.get env).bind λa => match a.2 with
  | .c (.t (.slice _)) | .c .ee | .c (.arr ..)=>some (a.1,.c .ee,J)
  | _=>none
 | .mkfn f caps => (O7 env caps).bind λa => match afH a.2 with
  | some l=>some (a.1,.c (.fn f l),J)
  | none=>none
 | .ext x i => (x.get env).bind λa => match a.2 with
  | .gJ vs=>(vs[i]?).map λv=>(a.1,v,J)
  | _=>none
 | .len str x => (x.get env).bind λa => match str, a.2 with
  | false,.c (.t (.slice es))=>some (a.1,.c (.t (.int .i64 es.length)),J)
  | false,.c (.arr _ _ _ l)=>some (a.1,.c (.t (.int .i64 l)),J)
  | false,.c .ee=>some (a.1,.c (.t (.int .i64 0)),J)
  | false,.c (.pq _ l)=>some (a.1,.c (.t (.int .i64 l)),J)
  | true,.c (.t (.str s))=>some (a.1,.c (.t (.int .i64 s.length)),J)
  | _,_=>none
 | .append sz bytes x y => (x.get env).bind λa => (y.get env).bind λd =>
  match Zq a.2 d.2 with
  | some r=>aii J n sz a.1 d.1 r
  | none=>
  (Yn J d.2).bind λys=>
  match a.2 with
  | .c .ee => some (a.1 /\ d.1 /\ (∀ e, e ∈ ys.1 -> e.length = sz) /\ (2 * ys.1.length + 192) * bytes <= Qy /\ ys.1.length <= KJ,
   .c (.arr n sz 0 ys.1.length),vc J n (.arr sz ys.1))
  | .c (.arr b lJ off len)=>match e1 J b with
   | some (.arr aoy es)=>
    if ys.2=some b then none else some (a.1/\d.1/\lJ=sz/\aoy=sz/\off=0/\len=es.length/\(∀e,e∈ys.1->e.length=sz)/\(2*(es.length+ys.1.length)+192)*bytes<=Qy/\es.length+ys.1.length<=KJ,
     .c (.arr n sz 0 (len+ys.1.length)),vc (Qr J b) n (.arr sz (es++ys.1)))
   | _=>none
  | _=>none
 | .max2 x y => (x.get env).bind λa => (y.get env).bind λb => match a.2, b.2 with
  | .c (.t (.int k p)),.c (.t (.int ka q))=>if k=ka then some (a.1/\b.1,.c (.t (.int k (max p q))),J)else none
  | _,_=>none
 | .min2 x y => (x.get env).bind λa => (y.get env).bind λb => match a.2, b.2 with
  | .c (.t (.int k p)),.c (.t (.int ka q))=>if k=ka then some (a.1/\b.1,.c (.t (.int k (min p q))),J)else none
  | _,_=>none
 | .allocS e e8=>some (True,.c (.ptr n 0),vc (vc J (n+1) (.buf e8 [])) n (.kn e (.pq (n+1) 0)))
 | .bsliceT _ sz len z parts=>(toTs z).bind λQw=>(T0 env sz (List.replicate len Qw) parts).map λa=>(a.1,.c (.t (.slice a.2)),J)
 | .mkset=>some (True,.c (.mp n),vc J n (.set []))
 | .lkset x k => (x.get env).bind λa => (k.get env).bind λd => match a.2, d.2 with
  | .c (.mp b),.c (.t (.str s))=>match e1 J b with
   | some (.set ks)=>some (a.1/\d.1,.c (.t (.bool (SI ks s))),J)
   | _=>none
  | _,_=>none
 | .upset x k => (x.get env).bind λa => (k.get env).bind λd => match a.2, d.2 with
  | .c (.mp b),.c (.t (.str s))=>match e1 J b with
   | some (.set ks)=>some (a.1/\d.1,.gJ [],vc J b (.set (Sr ks s)))
   | _=>none
  | _,_=>none
 | .appendB e bytes x y => (x.get env).bind λa => (y.get env).bind λd => match a.2, d.2 with
  | .c (.pq b len),.c (.t (.str s))=>match e1 J b with
   | some (.buf sK es)=>
    some (a.1/\d.1/\sK=e/\len=es.length/\(2*(es.length+s.length)+192)*bytes<=Qy/\es.length+s.length<=KJ,
     .c (.pq n (len+s.length)),vc (Qr J b) n (.buf e (es++s)))
   | _=>none
  | _,_=>none
 | .sdata x => (x.get env).bind λa => match a.2 with
  | .c (.pq b _)=>some (a.1,.c (.Jx b),J)
  | _=>none
 | .ustr e x k => (x.get env).bind λa => (k.get env).bind λd => match a.2, d.2 with
  | .c (.Jx b),.c (.t (.int .i64 m))=>match e1 J b with
   | some (.buf sK es)=>some (a.1/\d.1/\sK=e/\m=es.length,.c (.t (.str es)),Qr J b)
   | _=>none
  | _,_=>none
 | .eqNil .. | .call .. | .Re .. =>none
where afH:List V->Option (List Nat)
 | []=>some []
 | .c (.ptr b 0)::r=>(afH r).map (b::·)
 | _=>none
def aow(ks:List (List UInt8))(es:List MapEntry):Prop:=f' (λk e=>e.key= .string ⟨k.toArray⟩/\e.val= .bool true) ks es
def r2(φ:vt)(w:World)(S:y0)(b:Nat):h2->Prop
 | .box cs=>(φ b).2≠0/\∃(vs:List Value) (E:TypeId),w.heap[(φ b).1]?=some (.cells vs.toArray E (0,0))/\f' (ho φ w S) cs vs/\∀j,¬S (φ b).1 j
 | .arr sz es => es.length <= (φ b).2 /\ es.length <= KJ /\ (∀ e, e ∈ es -> e.length = sz) /\ 0 < sz /\
  ((φ b).2≠0->∃(vs:List Value) (E:TypeId),w.heap[(φ b).1]?=some (.cells vs.toArray E (0,0))/\vs.length=(φ b).2*sz/\
   (∀(i j:Nat) e t,es[i]?=some e->e[j]?=some t->∃v,vs[i*sz+j]?=some v/\k1 w S t v)/\∀j,¬S (φ b).1 j)
 | .set ks=>(φ b).2≠0/\(∃(es:List MapEntry) (clock:Nat),w.heap[(φ b).1]?=some (.map es.toArray clock)/\aow ks es)/\∀j,¬S (φ b).1 j
 | .buf E s => s.length <= (φ b).2 /\ s.length <= KJ /\
  ((φ b).2≠0->(∃vs:List Value,w.heap[(φ b).1]?=some (.cells vs.toArray E (0,0))/\vs.length=(φ b).2/\
   ∀(i:Nat) c,s[i]?=some c->vs[i]?=some (.int .u8 (UInt8.toNat c)))/\∀j,¬S (φ b).1 j)
 | .kn E c=>(φ b).2≠0/\(∃p v:Value,w.heap[(φ b).1]?=some (.cells #[p,v] E (0,0))/\(p= .pointer none\/p= .pointer (some ⟨(φ b).1,0,none⟩))/\ho φ w S c v)/\∀j,¬S (φ b).1 j
 | .nJ sz es i o c => (es.length <= (φ b).2 /\ es.length <= KJ /\ (∀ e, e ∈ es -> e.length = sz) /\ 0 < sz /\ i < es.length /\ o < sz) /\
  (∃(vs:List Value) (E:TypeId),w.heap[(φ b).1]?=some (.cells vs.toArray E (0,0))/\vs.length=(φ b).2*sz/\
   (∀(ny j:Nat) e t,es[ny]?=some e->e[j]?=some t->¬(ny=i/\j=o)->∃v,vs[ny*sz+j]?=some v/\k1 w S t v)/\∃v,vs[i*sz+o]?=some v/\ho φ w S c v)/\∀j,¬S (φ b).1 j
structure ac6 (φ:vt) (w:World) (S:y0) (J:fu):Prop where
 blk:∀b x,e1 J b=some x->r2 φ w S b x
 inj:∀b hq x y,e1 J b=some x->e1 J hq=some y->b≠hq->(φ b).2≠0->(φ hq).2≠0->(φ b).1≠(φ hq).1
 st:∀b j,S b j->b < w.heap.size
structure Ext (B:Nat->Prop) (S ik:y0) (w w':World):Prop where
 os:w'.os=w.os
 tape:w'.tape=w.tape
 output:w'.output=w.output
 size:w.heap.size<=w'.heap.size
 block:∀b:Nat,b < w.heap.size->¬B b->w'.heap[b]?=w.heap[b]?
 mono:N7 w S w' ik
 ad':∀b j,ik b j->S b j\/B b\/w.heap.size<=b
def h2.c'(n:Nat->Bool):h2->Bool
 | .box cs=>cs.all (C.c' n)
 | .arr _ _=>true
 | .set _=>true
 | .buf _ _=>true
 | .kn _ c=>c.c' n
 | .nJ _ _ _ _ c=>c.c' n
def ins(n:Nat->Bool)(k:Nat):Nat->Bool:=λb=>n b || b==k
structure Ctx where
 TP:World
 atq:y0
 B:Nat->Prop
 acj:vt
 k:Nat
structure Rel (c9:Ctx) (nt:Nat) (φ:vt) (S:y0) (env:Env) (J:fu) (n:Nat->Bool) (a:Act) (w:World):Prop where
 h':ac6 φ w S J
 Ot:∀(k:Nat) g v,look env k=some (g,v)->g=true->∃x,a.tmps[k]?=some x/\k' φ w S v x
 PK:∀(k:Nat) g v,look env k=some (g,v)->g=false->a.tmps[k]?=some undef
 Oq:∀(k:Nat) g v,look env k=some (g,v)->g=true->v.c' n=true
 HJ:∀(b:Nat) x,e1 J b=some x->n b=true/\x.c' n=true
 size:a.tmps.size=nt
 defers:a.defers=[]
 ext:Ext c9.B c9.atq S c9.TP w
 own:∀(b:Nat) x,e1 J b=some x->(φ b).2≠0->c9.B (φ b).1\/c9.TP.heap.size<=(φ b).1
 fix:∀b:Nat,b < c9.k->φ b=c9.acj b
 Nu:∀b:Nat,b < c9.k->n b=true
section
variable {P:Program} {c9:Ctx} {nt:Nat} {φ:vt} {S:y0} {env:Env} {J:fu} {n:Nat->Bool} {key:Nat} {a:Act} {w:World}
def Good(P:Program)(c9:Ctx)(nt:Nat)(env:Env)(J':fu)(DI:Nat->Bool)(a:Act)(v:V)(r:Result Next):Prop:=
 ∃x hK ik w',(r= .ok (.value x) w'\/(r= .ok .skip w'/\x=undef))/\k' hK w' ik v x/\v.c' DI=true/\Rel c9 nt hK ik env J' DI a w'
theorem aVM{n:Nat->Bool}{k:Nat}:ins n k k=true:=by simp[ins]
theorem VP{n:Nat->Bool}{k b:Nat}(h:n b=true):ins n k b=true:=by simp[ins,h]
theorem C.O5{n DI:Nat->Bool}(h:∀b,n b=true->DI b=true){c:C}(b7:c.c' n=true):c.c' DI=true:=by
 cases c <;> simp only[C.c',r0]at* <;> first | exact h _ b7 | exactλb al=>h b (b7 b al)
theorem aeu{n:Nat->Bool}:∀{vs:List V},(∀(i:Nat) v,vs[i]?=some v->v.c' n=true)->V.c'.V.Is n vs=true
 | [],_=>rfl
 | v::vs,h=>by
  simp only[V.c'.V.Is,k0];exact⟨h 0 v rfl,aeu λi v cv=>h (i+1) v cv⟩
theorem V.O5{n DI:Nat->Bool}(h:∀b,n b=true->DI b=true):∀{v:V},v.c' n=true->v.c' DI=true
 | .c x,cv=>by simp only[V.c']at cv ⊢;exact C.O5 h cv
 | .agg cs,cv=>by
  simp only[V.c',r0]at cv ⊢;exactλc b7=>C.O5 h (cv c b7)
 | .gJ vs,cv=>by
  simp only[V.c']at cv ⊢;exact go vs cv
where go:∀vs,V.c'.V.Is n vs=true->V.c'.V.Is DI vs=true
 | [],_=>rfl
 | v::vs,cv=>by
  simp only[V.c'.V.Is,k0]at cv ⊢;exact⟨V.O5 h cv.1,go vs cv.2⟩
theorem h2.O5{n DI:Nat->Bool}(h:∀b,n b=true->DI b=true){x:h2}(ad:x.c' n=true):x.c' DI=true:=by
 cases x with
 | box cs=>
  simp only[h2.c',r0]at ad ⊢;exactλc b7=>C.O5 h (ad c b7)
 | arr=>rfl
 | set=>rfl
 | buf=>rfl
 | kn E c=>simp only[h2.c']at ad ⊢;exact C.O5 h ad
 | nJ sz es i o c=>simp only[h2.c']at ad ⊢;exact C.O5 h ad
theorem Rel.more(R:Rel c9 nt φ S env J n a w){DI:Nat->Bool}(h:∀b,n b=true->DI b=true):Rel c9 nt φ S env J DI a w:=
 ⟨R.h',R.Ot,R.PK,λk g v a6 b9=>V.O5 h (R.Oq k g v a6 b9),λb x ad=>⟨h b (R.HJ b x ad).1,h2.O5 h (R.HJ b x ad).2⟩,R.size,R.defers,R.ext,R.own,R.fix,λb al=>h b (R.Nu b al)⟩
theorem Good.pure(R:Rel c9 nt φ S env J n a w){v:V}{x:Value}{r:Result Next}(ar:r= .ok (.value x) w)(cv:k' φ w S v x)(al:v.c' n=true):
 Good P c9 nt env J (ins n key) a v r:=⟨x,φ,S,w,.inl ar,cv,V.O5 (λ_ h=>VP h) al,R.more λ_ h=>VP h⟩
theorem aDK{v:Value}{c:C}(h:asx v=some c):ho φ w S c v/\c.c' n=true:=by
 unfold asx at h;split at h <;> simp at h
 . subst h;exact⟨.bool _,rfl⟩
 . subst h;exact⟨.int _ _,rfl⟩
 . obtain⟨hs,rfl⟩:=h;exact⟨.str _ hs,rfl⟩
 . subst h;exact⟨⟨_,rfl⟩,rfl⟩
 . subst h;exact⟨rfl,rfl⟩
 . subst h;exact⟨rfl,rfl⟩
 . subst h;exact⟨rfl,rfl⟩
theorem auH :∀{vs:List Value} {cs:List C},ahF vs=some cs->f' (ho φ w S) cs vs/\cs.all (C.c' n)=true
 | [],cs,h=>by simp[ahF]at h;subst h;exact⟨.nil,rfl⟩
 | v::vs,cs,h=>by
  simp only[ahF,hC,gC]at h;obtain⟨c,b7,OH,y1,rfl⟩:=h;have h1:=aDK (φ:=φ) (w:=w) (S:=S) (n:=n) b7;have ah:=auH y1;exact⟨.cons h1.1 ah.1,by simp[h1.2];simpa using ah.2⟩
theorem aRx{v:Value}{apd:V}(h:aws v=some apd):k' φ w S apd v/\apd.c' n=true:=by
 unfold aws at h;split at h
 . rename_i cs;simp only[gC]at h;obtain⟨l,a6,rfl⟩:=h;have:=auH (φ:=φ) (w:=w) (S:=S) (n:=n) a6;refine⟨?_,by simpa[V.c']using this.2⟩;have e:=k'.agg (φ:=φ) (w:=w) (S:=S) this.1;omega
 . simp only[gC]at h;obtain⟨l,a6,rfl⟩:=h;have:=aDK (φ:=φ) (w:=w) (S:=S) (n:=n) a6;exact⟨.c this.1,by simpa[V.c']using this.2⟩
theorem ni(R:Rel c9 nt φ S env J n a w){x:Operand}{tw:er}(ad:hT x=some tw){p:Prop}{v:V}(h:tw.get env=some (p,v))(bo:p):
 k' φ w S v (a.eval x)/\v.c' n=true:=by
 cases x with
 | tmp t=>
  simp[hT]at ad;subst ad;simp only[er.get,gC]at h;obtain⟨⟨g,Lr⟩,a6,he⟩:=h;simp only[hQ,hO]at he;obtain⟨rfl,rfl⟩:=he;obtain⟨y,bJ,ar⟩:=R.Ot t g Lr a6 bo;refine⟨?_,R.Oq t g Lr a6 bo⟩;simp only[Act.eval,ase,bJ,Xo];exact ar
 | const c=>
  simp only[hT,gC]at ad;obtain⟨apd,QM,rfl⟩:=ad;simp[er.get]at h;obtain⟨_,rfl⟩:=h;exact aRx QM
 | global g=>simp[hT]at ad
 | func f=>
  simp[hT]at ad;subst ad;simp[er.get]at h;obtain⟨_,rfl⟩:=h;exact⟨.c (by simp[ho,Act.eval]),by simp[V.c',C.c']⟩
theorem acP(R:Rel c9 nt φ S env J n a w):∀{xs:List Operand} {fJ:List er} (_:Zi xs=some fJ) {p:Prop} {vs:List V} (_:O7 env fJ=some (p,vs)) (_:p),
 f' (k' φ w S) vs (xs.map a.eval)/\V.c'.V.Is n vs=true
 | [],fJ,ad,p,vs,h,bo=>by simp[Zi]at ad;subst ad;simp[O7]at h;obtain⟨_,rfl⟩:=h;exact⟨.nil,rfl⟩
 | x::xs,fJ,ad,p,vs,h,bo=>by
  simp only[Zi,hC,gC]at ad;obtain⟨tw,TE,ZZ,amW,rfl⟩:=ad;simp only[O7,hC,gC]at h;obtain⟨⟨q,v⟩,eg,⟨ad4,Xx⟩,abU,he⟩:=h;simp only[hQ,hO]at he;obtain⟨rfl,rfl⟩:=he;have h1:=ni R TE eg bo.1;have ah:=acP R amW abU bo.2
  exact⟨.cons h1.1 ah.1,by simp[V.c'.V.Is,h1.2,ah.2]⟩
theorem k'.TC{b:Bool}{x:Value}(h:k' φ w S (.c (.t (.bool b))) x):x= .bool b:=by cases h with | c h=>cases h;rfl
theorem k'.NY{k:IntKind}{m:Int}{x:Value}(h:k' φ w S (.c (.t (.int k m))) x):x= .int k m:=by cases h with | c h=>cases h;rfl
theorem k'.Vt{s:List UInt8}{x:Value}(h:k' φ w S (.c (.t (.str s))) x):∃bs:ByteArray,x= .string bs/\bs.data.toList=s/\bs.size<=Lh:=by cases h with | c h=>cases h with | str s h=>exact⟨s,rfl,rfl,h⟩
theorem k'.PZ{b o:Nat}{x:Value}(h:k' φ w S (.c (.ptr b o)) x):x= .pointer (some ⟨(φ b).1,o,none⟩):=by cases h with | c h=>exact h
theorem k'.SH{b sz i o:Nat}{x:Value}(h:k' φ w S (.c (.pr b sz i o)) x):x= .pointer (some ⟨(φ b).1,i*sz+o,none⟩):=by cases h with | c h=>exact h
theorem k'.afy{cs:List C}{x:Value}(h:k' φ w S (.agg cs) x):∃vs:List Value,x= .agg vs.toArray/\f' (ho φ w S) cs vs:=by cases h with | agg h=>exact⟨_,rfl,h⟩
theorem k'.Ji{c:C}{x:Value}(h:k' φ w S (.c c) x):ho φ w S c x:=by cases h with | c h=>exact h
theorem k'.afF(b:Bool):k' φ w S (.c (.t (.bool b))) (.bool b):= .c (.bool b)
theorem k'.Zb(k:IntKind)(m:Int):k' φ w S (.c (.t (.int k m))) (.int k m):= .c (.int k m)
theorem aFW (R:Rel c9 nt φ S env J n a w) {o:Oper} {x:Operand} (c8:o.op= .move x \/ o.op= .assign x) {tw:er} (ad:hT x=some tw)
 {p v J'} (hk:n key=false) (h:ep (.mov tw) env J key=some (p,v,J')) (bo:p):Good P c9 nt env J' (ins n key) a v ((execOp a.eval o).run P w):=by
 simp only[ep,gC]at h;obtain⟨⟨q,u⟩,eg,he⟩:=h;simp only[hQ,hO]at he;obtain⟨rfl,rfl,rfl⟩:=he;have b9:=ni R ad eg bo;refine Good.pure R ?_ b9.1 b9.2;rcases c8 with c8 | c8 <;> simp[execOp,c8]
theorem aSh (R:Rel c9 nt φ S env J n a w) {o:Oper} {c x y:Operand} (c8:o.op= .pick c x y) {ac hD Ja:er} (b7:hT c=some ac) (ad:hT x=some hD) (bJ:hT y=some Ja)
 {p v J'} (hk:n key=false) (h:ep (.pick ac hD Ja) env J key=some (p,v,J')) (bo:p):Good P c9 nt env J' (ins n key) a v ((execOp a.eval o).run P w):=by
 simp only[ep,hC]at h;obtain⟨⟨asB,azY⟩,aZR,⟨KT,K4⟩,k3,⟨Yh,Yk⟩,M3,he⟩:=h;simp only at he;split at he
 . rename_i b s4 qi;simp only[hQ,hO]at he;obtain⟨rfl,rfl,rfl⟩:=he;obtain⟨h1,ah,b'⟩:=bo;have art:=(ni R b7 aZR h1).1.TC;cases b with
   | true=>
    have ex:=(ni R ad k3 (ah rfl)).1.TC;exact Good.pure R (x:= .bool s4) (by simp[execOp,c8,art,asBool,ex]) (.afF _) rfl
   | false=>
    have avX:=(ni R bJ M3 (b' rfl)).1.TC;exact Good.pure R (x:= .bool qi) (by simp[execOp,c8,art,asBool,avX]) (.afF _) rfl
 . cases he
theorem acT(b:ByteArray):b.data.toList.length=b.size:=by cases b;simp[ByteArray.size]
theorem aSi{op:BinOp}{s t r:T}{p:Prop}(h:Xb op s t=some (p,r))(bo:p){ty:TypeId}{x y:Value}(ad:k1 w S s x)(bJ:k1 w S t y):
 ∃z,(binOp op ty x y).run P w= .ok z w/\k1 w S r z:=by
 have aiH:∀a b:List UInt8,(a==b)=decide (a=b):=λa b=>by by_cases h:a=b <;> simp[h]
 unfold Xb at h;split at h <;> (first | simp only[A',hQ,hO]at h | cases h)
 all_goals cases ad;cases bJ
 case h_1=>obtain⟨rfl,rfl,rfl⟩:=h;exact⟨_,by simp[binOp,Op.intArith],.int _ _⟩
 case h_2=>obtain⟨rfl,rfl,rfl⟩:=h;exact⟨_,by simp[binOp,Op.intArith],.int _ _⟩
 case h_3=>obtain⟨rfl,rfl,rfl⟩:=h;exact⟨_,by simp[binOp,Op.intArith],.int _ _⟩
 case h_4=>obtain⟨rfl,rfl,rfl⟩:=h;exact⟨_,by simp[binOp,Op.intDiv,bo],.int _ _⟩
 case h_5=>obtain⟨rfl,rfl,rfl⟩:=h;exact⟨_,by simp[binOp,Op.intDiv,bo],.int _ _⟩
 case h_6=>obtain⟨rfl,rfl,rfl⟩:=h;exact⟨_,by simp[binOp,Op.intBits],.int _ _⟩
 case h_7=>obtain⟨rfl,rfl,rfl⟩:=h;exact⟨_,by simp[binOp,Op.intBits],.int _ _⟩
 case h_8=>obtain⟨rfl,rfl,rfl⟩:=h;exact⟨_,by simp[binOp,Op.intBits],.int _ _⟩
 case h_9=>obtain⟨rfl,rfl,rfl⟩:=h;exact⟨_,by simp[binOp,Op.intBits],.int _ _⟩
 case h_10=>obtain⟨rfl,rfl⟩:=h;exact⟨_,by simp only[binOp,Op.shift];rw[aJ (by omega)];rfl,.int _ _⟩
 case h_11=>obtain⟨rfl,rfl⟩:=h;exact⟨_,by simp only[binOp,Op.shift];rw[aJ (by omega)];rfl,.int _ _⟩
 case h_12=>obtain⟨rfl,rfl,rfl⟩:=h;exact⟨_,by simp[binOp,Op.intCmp];rfl,.bool _⟩
 case h_13=>obtain⟨rfl,rfl,rfl⟩:=h;exact⟨_,by simp[binOp,Op.intCmp,bne,BEq.beq],.bool _⟩
 case h_14=>obtain⟨rfl,rfl,rfl⟩:=h;exact⟨_,by simp[binOp,Op.intCmp],.bool _⟩
 case h_15=>obtain⟨rfl,rfl,rfl⟩:=h;exact⟨_,by simp[binOp,Op.intCmp],.bool _⟩
 case h_16=>obtain⟨rfl,rfl,rfl⟩:=h;exact⟨_,by simp[binOp,Op.intCmp],.bool _⟩
 case h_17=>obtain⟨rfl,rfl,rfl⟩:=h;exact⟨_,by simp[binOp,Op.intCmp],.bool _⟩
 case h_18 s hs t ht=>
  obtain⟨rfl,rfl⟩:=h;simp only[acT]at bo;have e:(s++t).data.toList=s.data.toList++t.data.toList:=by simp
  refine⟨.string (s++t),?_,e▸.str _ (by rw[ByteArray.size_append];exact bo)⟩;have:¬(((s.size+t.size:Nat):Int) > IntKind.i64.max):=by simp only[IntKind.max];unfold Lh at bo;simp[IntKind.signed,IntKind.bits];omega
  simp only[binOp,Op.stringOp,aJ this];rfl
 case h_19 s hs t ht=>obtain⟨rfl,rfl⟩:=h;exact⟨_,by simp only[binOp,Op.stringOp,ByteArray.toList_eq,aiH];rfl,.bool _⟩
 case h_20 s hs t ht=>obtain⟨rfl,rfl⟩:=h;exact⟨_,by simp only[binOp,Op.stringOp,ByteArray.toList_eq,aiH];rfl,.bool _⟩
 case h_21 s hs t ht=>obtain⟨rfl,rfl⟩:=h;exact⟨_,by simp only[binOp,Op.stringOp,ByteArray.toList_eq];rfl,.bool _⟩
 case h_22 s hs t ht=>obtain⟨rfl,rfl⟩:=h;exact⟨_,by simp only[binOp,Op.stringOp,ByteArray.toList_eq,aiH];rfl,.bool _⟩
 case h_23 s hs t ht=>obtain⟨rfl,rfl⟩:=h;exact⟨_,by simp only[binOp,Op.stringOp,ByteArray.toList_eq,aiH];rfl,.bool _⟩
 case h_24 s hs t ht=>obtain⟨rfl,rfl⟩:=h;exact⟨_,by simp only[binOp,Op.stringOp,ByteArray.toList_eq];rfl,.bool _⟩
theorem atY{op:BinOp}{ty:TypeId}{x y:Operand}{u v:Value}(h1:u≠.nilIface)(ah:∀cs,u≠.agg cs):(eqGuard op ty x y u v).run P w= .ok () w:=by
 unfold eqGuard;simp_all
theorem k1.guard{t:T}{u:Value}(h:k1 w S t u):u≠.nilIface/\∀cs,u≠.agg cs:=by
 cases h <;> exact⟨by simp,by simp⟩
theorem aE5{ty:TypeId}(rJ:P.underlying ty=some .bool)(b1 b2:Bool):(Op.equal ty (.bool b1) (.bool b2)).run P w= .ok (b1==b2) w:=by
 obtain⟨d,a7⟩:∃d,Op.maxDepth=d+1:=⟨9999,rfl⟩
 unfold Op.equal;rw[a7];unfold Op.equalIn;simp only[Sem.run_bind,run_underlying rJ,Result.andThen_ok];rfl
theorem awG (R:Rel c9 nt φ S env J n a w) {o:Oper} {op:BinOp} {ty K':TypeId} {x y:Operand} (c8:o.op= .binOp op ty x y K') {hD Ja:er} (ad:hT x=some hD) (bJ:hT y=some Ja)
 {p v J'} (hk:n key=false) (h:ep (.bin op hD Ja) env J key=some (p,v,J')) (bo:p):Good P c9 nt env J' (ins n key) a v ((execOp a.eval o).run P w):=by
 simp only[ep,hC]at h;obtain⟨⟨KT,K4⟩,k3,⟨Yh,Yk⟩,M3,he⟩:=h;simp only at he;split at he
 . rename_i t1 t2;simp only[gC,hO]at he;obtain⟨⟨Oi,r⟩,ar,rfl,rfl,rfl⟩:=he;have h1:=(ni R ad k3 bo.1).1.Ji;have ah:=(ni R bJ M3 bo.2.1).1.Ji;obtain⟨z,ga,QS⟩:=aSi (P:=P) (ty:=ty) ar bo.2.2 h1 ah;refine Good.pure R (x:=z) ?_ (.c QS) rfl
   have abB:(eqGuard op ty x y (a.eval x) (a.eval y)).run P w= .ok () w:=atY (k1.guard h1).1 (k1.guard h1).2;simp[execOp,c8,abB,ga]
 . cases he
theorem aRO (R:Rel c9 nt φ S env J n a w) {o:Oper} {op:BinOp} {ty K':TypeId} {x y:Operand} (c8:o.op= .binOp op ty x y K') (s0:op= .eql \/ op= .neq) (rJ:P.underlying ty=some .bool)
 {hD Ja:er} (ad:hT x=some hD) (bJ:hT y=some Ja)
 {p v J'} (hk:n key=false) (h:ep (.eqBool (op== .neq) hD Ja) env J key=some (p,v,J')) (bo:p):Good P c9 nt env J' (ins n key) a v ((execOp a.eval o).run P w):=by
 simp only[ep,hC]at h;obtain⟨⟨KT,K4⟩,k3,⟨Yh,Yk⟩,M3,he⟩:=h;simp only at he;split at he
 . rename_i b1 b2;simp only[hQ,hO]at he;obtain⟨rfl,rfl,rfl⟩:=he;have h1:=(ni R ad k3 bo.1).1.TC;have ah:=(ni R bJ M3 bo.2).1.TC;refine Good.pure R (x:= .bool (if(op== .neq)then !(b1==b2)else(b1==b2))) ?_ (.afF _) rfl;have abB:(eqGuard op ty x y (a.eval x) (a.eval y)).run P w= .ok () w:=atY (by rw[h1];simp) (by rw[h1];simp)
   have abC:(binOp op ty (a.eval x) (a.eval y)).run P w= .ok (.bool (if(op== .neq)then !(b1==b2)else(b1==b2))) w:=by
    rcases s0 with rfl | rfl
    . rw[h1,ah];simp only[binOp,Sem.run_bind,aE5 rJ];rfl
    . rw[h1,ah];simp only[binOp,Sem.run_bind,aE5 rJ];rfl
   simp[execOp,c8,abB,abC]
 . cases he
theorem aUH (R:Rel c9 nt φ S env J n a w) {o:Oper} {ty:TypeId} {x:Operand} (c8:o.op= .unOp .not ty x) {hD:er} (ad:hT x=some hD)
 {p v J'} (hk:n key=false) (h:ep (.not hD) env J key=some (p,v,J')) (bo:p):Good P c9 nt env J' (ins n key) a v ((execOp a.eval o).run P w):=by
 simp only[ep,hC]at h;obtain⟨⟨KT,K4⟩,k3,he⟩:=h;simp only at he;split at he
 . simp only[hQ,hO]at he;obtain⟨rfl,rfl,rfl⟩:=he;have h1:=(ni R ad k3 bo).1.TC;exact Good.pure R (by simp[execOp,c8,h1,Op.unary]) (.afF _) rfl
 . cases he
theorem aUI (R:Rel c9 nt φ S env J n a w) {o:Oper} {ty:TypeId} {x:Operand} {k:IntKind} (c8:o.op= .unOp .neg ty x) {hD:er} (ad:hT x=some hD)
 {p v J'} (hk:n key=false) (h:ep (.bin .sub (.const (.c (.t (.int k 0)))) hD) env J key=some (p,v,J')) (bo:p):Good P c9 nt env J' (ins n key) a v ((execOp a.eval o).run P w):=by
 simp only[ep,er.get,cm,hC]at h;obtain⟨⟨KT,K4⟩,k3,he⟩:=h;simp only at he;split at he
 . rename_i t1 t2 eh;cases eh;simp only[gC,hO]at he;obtain⟨⟨Oi,r⟩,ar,rfl,rfl,rfl⟩:=he;have ah:=(ni R ad k3 bo.2.1).1;cases t2 <;> simp only[Xb,reduceCtorEq,A',hQ,hO]at ar
   obtain⟨rfl,rfl,rfl⟩:=ar;have b':=ah.NY;exact Good.pure R (by simp[execOp,c8,b',Op.unary,Op.intArith]) (.Zb _ _) rfl
 . cases he
theorem aUJ (R:Rel c9 nt φ S env J n a w) {o:Oper} {ty:TypeId} {x:Operand} {k:IntKind} (c8:o.op= .unOp .xor ty x) {hD:er} (ad:hT x=some hD)
 {p v J'} (hk:n key=false) (h:ep (.bin .xor (.const (.c (.t (.int k (if k.signed then -1 else k.max))))) hD) env J key=some (p,v,J')) (bo:p):Good P c9 nt env J' (ins n key) a v ((execOp a.eval o).run P w):=by
 simp only[ep,er.get,cm,hC]at h;obtain⟨⟨KT,K4⟩,k3,he⟩:=h;simp only at he;split at he
 . rename_i t1 t2 eh;cases eh;simp only[gC,hO]at he;obtain⟨⟨Oi,r⟩,ar,rfl,rfl,rfl⟩:=he;have ah:=(ni R ad k3 bo.2.1).1;cases t2 <;> simp only[Xb,reduceCtorEq,A',hQ,hO]at ar
   obtain⟨rfl,rfl,rfl⟩:=ar;have b':=ah.NY;exact Good.pure R (by simp[execOp,c8,b',Op.unary,Op.intBits]) (.Zb _ _) rfl
 . cases he
theorem aSj (R:Rel c9 nt φ S env J n a w) {o:Oper} {s d:TypeId} {x:Operand} (c8:o.op= .convert s d x) {Nr k:IntKind} (hs:P.underlying s=some (.int Nr)) (a7:P.underlying d=some (.int k)) {hD:er} (ad:hT x=some hD)
 {p v J'} (hk:n key=false) (h:ep (.conv k hD) env J key=some (p,v,J')) (bo:p):Good P c9 nt env J' (ins n key) a v ((execOp a.eval o).run P w):=by
 simp only[ep,hC]at h;obtain⟨⟨KT,K4⟩,k3,he⟩:=h;simp only at he;split at he
 . simp only[hQ,hO]at he;obtain⟨rfl,rfl,rfl⟩:=he;have h1:=(ni R ad k3 bo).1.NY;exact Good.pure R (by simp[execOp,c8,h1,convert,underlying,hs,a7,Conv.intToInt]) (.Zb _ _) rfl
 . cases he
theorem aRP(m:Int):(Utf8.encode m).size<=Lh:=by
 unfold Lh Utf8.encode;generalize (if Utf8.valid m=true then m.toNat else Utf8.runeError)=c;dsimp only
 (repeat' split) <;> simp[ByteArray.size]
theorem aUK (R:Rel c9 nt φ S env J n a w) {o:Oper} {s d:TypeId} {x:Operand} (c8:o.op= .convert s d x) {Nr:IntKind} (hs:P.underlying s=some (.int Nr)) (a7:P.underlying d=some .string) {hD:er} (ad:hT x=some hD)
 {p v J'} (hk:n key=false) (h:ep (.i2s hD) env J key=some (p,v,J')) (bo:p):Good P c9 nt env J' (ins n key) a v ((execOp a.eval o).run P w):=by
 simp only[ep,hC]at h;obtain⟨⟨KT,K4⟩,k3,he⟩:=h;simp only at he;split at he
 . simp only[hQ,hO]at he;obtain⟨rfl,rfl,rfl⟩:=he;have h1:=(ni R ad k3 bo).1.NY;exact Good.pure R (by simp[execOp,c8,h1,convert,underlying,hs,a7,Conv.intToString]) (.c (.str _ (aRP _))) rfl
 . cases he
theorem aUL (R:Rel c9 nt φ S env J n a w) {o:Oper} {s d:TypeId} {x:Operand} (c8:o.op= .convert s d x) (hs:P.underlying s=some .string) (a7:P.underlying d=some .string) {hD:er} (ad:hT x=some hD)
 {p v J'} (hk:n key=false) (h:ep (.s2s hD) env J key=some (p,v,J')) (bo:p):Good P c9 nt env J' (ins n key) a v ((execOp a.eval o).run P w):=by
 simp only[ep,hC]at h;obtain⟨⟨KT,K4⟩,k3,he⟩:=h;simp only at he;split at he
 . simp only[hQ,hO]at he;obtain⟨rfl,rfl,rfl⟩:=he;have b9:=ni R ad k3 bo;obtain⟨bs,h1,rfl,_⟩:=b9.1.Vt;refine Good.pure R (x:= .string bs) ?_ (h1▸b9.1) rfl;simp[execOp,c8,h1,convert,underlying,hs,a7]
 . cases he
theorem aSf (R:Rel c9 nt φ S env J n a w) {o:Oper} {x:Operand} (c8:o.op= .nilCheck x) {hD:er} (ad:hT x=some hD)
 {p v J'} (hk:n key=false) (h:ep (.nilCheck hD) env J key=some (p,v,J')) (bo:p):Good P c9 nt env J' (ins n key) a v ((execOp a.eval o).run P w):=by
 simp only[ep,hC]at h;obtain⟨⟨KT,K4⟩,k3,he⟩:=h;simp only at he;split at he <;> simp only[hQ,hO,reduceCtorEq]at he
 all_goals
  obtain⟨rfl,rfl,rfl⟩:=he;have b9:=ni R ad k3 bo;have h1:=b9.1.Ji;refine Good.pure R (x:=a.eval x) ?_ b9.1 b9.2
 . simp only[ho]at h1;simp[execOp,c8,h1]
 . simp only[ho]at h1;simp[execOp,c8,h1]
 . obtain⟨_,_,_,h1,_⟩:=h1;simp[execOp,c8,h1]
theorem aSk (R:Rel c9 nt φ S env J n a w) {o:Oper} {ty:TypeId} {x:Operand} {f:Nat} (c8:o.op= .fieldAddr ty x f) {fs:Array Field} (rJ:P.underlying ty=some (.struct fs)) {fd:Field} (cJ:fs[f]?=some fd)
 {m:Nat} (hm:JR P fd.type=some m) (V':m≠0) {hD:er} (ad:hT x=some hD)
 {p v J'} (hk:n key=false) (h:ep (.fldA fd.offset hD) env J key=some (p,v,J')) (bo:p):Good P c9 nt env J' (ins n key) a v ((execOp a.eval o).run P w):=by
 simp only[ep,hC]at h;obtain⟨⟨KT,K4⟩,k3,he⟩:=h;simp only at he;have hu:∀w,(underlying ty).run P w= .ok (.struct fs) w:=by intro w;simp[underlying,rJ]
 have h6:∀w,(sizeOf fd.type).run P w= .ok m w:=by intro w;simp only[JR,gC]at hm;obtain⟨i,ay,rfl⟩:=hm;simp[sizeOf,typeInfo,ay]
 have C':∀(b off:Nat),a.eval x= .pointer (some ⟨b,off,none⟩)->(execOp a.eval o).run P w= .ok (.value (.pointer (some ⟨b,off+fd.offset,none⟩))) w:=by
  intro b off e;simp[execOp,c8,e,Instr.fieldAt,hu,cJ,Instr.sureAddr,fieldPlace,h6,V',Addr.add]
  try (split <;> simp_all)
 split at he <;> simp only[hQ,hO,reduceCtorEq]at he
 all_goals
  obtain⟨rfl,rfl,rfl⟩:=he;have b9:=ni R ad k3 bo;have h1:=b9.1.Ji
 . simp only[ho]at h1;exact Good.pure R (C' _ _ h1) (.c rfl) b9.2
 . simp only[ho]at h1;exact Good.pure R (C' _ _ h1) (.c (by simp[ho,ab8])) b9.2
 . obtain⟨blk,off,f,h1,ai⟩:=h1;exact Good.pure R (C' _ _ h1) (.c ⟨blk,off,f,by simp[ab8],ai⟩) b9.2
theorem f'.a1b{w:World}{S:y0}{φ:vt}{ts:List T}{vs:List Value}(h:f' (k1 w S) ts vs):f' (ho φ w S) (ts.map .t) vs:=by
 induction h with
 | nil=>exact .nil
 | cons h _ ih=>exact .cons h ih
theorem aFX(n:Nat->Bool)(ts:List T):(ts.map C.t).all (C.c' n)=true:=by simp[C.c']
theorem aRy{n:Nat->Bool}{cs:List C}(h:cs.all (C.c' n)=true)(o k:Nat):((cs.drop o).take k).all (C.c' n)=true:=by grind
theorem akM{ty:TypeId}{g:Bool}(b9:abh P ty=some g)(w:World):(isAgg ty).run P w= .ok g w:=by
 unfold abh at b9;split at b9 <;> simp_all [isAgg,underlying]
theorem UI{ty:TypeId}{k:Nat}(hk:JR P ty=some k)(w:World):(sizeOf ty).run P w= .ok k w:=by
 simp only[JR,gC]at hk;obtain⟨i,ay,rfl⟩:=hk;simp[sizeOf,typeInfo,ay]
theorem aE6{ty:TypeId}{g:Bool×Nat}(h:afl P ty=some g):abh P ty=some g.1/\JR P ty=some g.2/\(g.1=false->g.2=1):=by
 simp only[afl,hC,A',hQ]at h
 grind
theorem gmt {ty:TypeId} {g:Bool} {k:Nat} (b9:abh P ty=some g) (hk:JR P ty=some k) {b o:Nat} {vs:List Value}
 (b7:∀j,j < k->w.cell? ⟨b,o+j,none⟩=vs[j]?) (a6:vs.length=k) (h1:g=false->k=1):
 (loadVar ty ⟨b,o,none⟩).run P w= .ok (if g then .agg vs.toArray else vs.getD 0 undef) w:=by
 cases g with
 | true=>
  have:=run_loadCells_list (P:=P) w ⟨b,o,none⟩ vs (λj v c7=>by
   have SN:j < k:=by rw[<-a6];exact(sb.1 c7).1
   rw[<-c7,<-b7 j SN];unfold Addr.add;split
   . grind
   . rfl)
  rw[a6]at this;simp[loadVar,akM b9,UI hk,this]
 | false=>
  have Oy:=h1 rfl;subst Oy;obtain⟨v,rfl⟩:∃v,vs=[v]:=by
   match vs,a6 with
   | [v],_=>exact⟨v,rfl⟩
  have:=b7 0 (by omega);simp at this;simp[loadVar,akM b9,this]
end
section
variable {P:Program} {c9:Ctx} {nt:Nat} {φ:vt} {S:y0} {env:Env} {J:fu} {n:Nat->Bool} {key:Nat} {a:Act} {w:World}
theorem ho.single{c:C}{v:Value}(h:ho φ w S c v):v.cells=#[v]:=by
 have:=ho.S1 h;cases v <;> simp[Value.oneCell']at this <;> rfl
theorem ZI{v:V}{x:Value}{cs:List C}(h:k' φ w S v x)(b7:abi v=some cs)(al:v.c' n=true):f' (ho φ w S) cs x.cells.toList/\cs.all (C.c' n)=true:=by
 cases h with
 | c h=>
  simp[abi]at b7;subst b7;rw[ho.single h];exact⟨.cons h .nil,by simpa[V.c']using al⟩
 | agg h=>
  simp[abi]at b7;subst b7;exact⟨by simpa[Value.cells]using h,by simpa[V.c']using al⟩
 | gJ=>simp[abi]at b7
theorem aDL{agg:Bool}{k o:Nat}{cs:List C}{vs:List Value}{v:V}(h:f' (ho φ w S) cs vs)(al:cs.all (C.c' n)=true)(a6:Us agg k cs o=some v)(h1:agg=false -> k=1):
 o+k<=cs.length/\k' φ w S v (if agg then .agg ((vs.drop o).take k).toArray else((vs.drop o).take k).getD 0 undef)/\v.c' n=true:=by
 unfold Us at a6;cases agg with
 | true=>
  simp only[qb,A',hQ]at a6;obtain⟨hle,rfl⟩:=a6;refine⟨hle,?_,by simpa[V.c']using aRy al o k⟩
  simpa using k'.agg ((h.drop o).take k)
 | false=>
  have:=h1 rfl;subst this;simp only[q2,uJ,gC]at a6;obtain⟨c,b7,rfl⟩:=a6;obtain⟨x,ad,ar⟩:=h.get b7;have ec:o < cs.length:=(sb.1 b7).1;refine⟨by omega,?_,?_⟩
  . have:((vs.drop o).take 1).getD 0 undef=x:=by grind
    simp only[q2,uJ,this];exact .c ar
  . simp only[r0]at al
    simpa[V.c']using al c (JX b7)
theorem aGQ{agg:Bool}{k o:Nat}{ts:List T}{v:V}(a6:loadT agg k ts o=some v):Us agg k (ts.map .t) o=some v:=by
 unfold loadT at a6;unfold Us;cases agg with
 | true=>simpa using a6
 | false=>simpa[Option.map_map]using a6
theorem aVN{ty:TypeId}{g:Bool}{k off:Nat}{vs:List Value}(b9:abh P ty=some g)(hk:JR P ty=some k)(h1:g=false -> k=1)(hle:off+k <=vs.length):
 (part ty vs.toArray off).run P w= .ok (if g then .agg ((vs.drop off).take k).toArray else((vs.drop off).take k).getD 0 undef) w:=by
 cases g with
 | true=>
  simp only[part,Sem.run_bind,akM b9,Result.andThen_ok,qb,UI hk,Sem.run_pure]
  congr 2
  apply Array.ext';simp[Array.toList_extract,List.extract,List.take_drop]
 | false=>
  have:=h1 rfl;subst this;have ec:off < vs.length:=by omega
  simp[part,akM b9,J9 ec,List.getD,Xn]
theorem aUM (R:Rel c9 nt φ S env J n a w) {o:Oper} {ty:TypeId} {x:Operand} {f:Nat} (c8:o.op= .field ty x f) {fs:Array Field} (rJ:P.underlying ty=some (.struct fs)) {fd:Field} (cJ:fs[f]?=some fd)
 {m:Nat} (hm:JR P fd.type=some m) {g:Bool} (b9:abh P fd.type=some g) (h1:g=false->m=1) {hD:er} (ad:hT x=some hD)
 {p v J'} (hk:n key=false) (h:ep (.fld g fd.offset m hD) env J key=some (p,v,J')) (bo:p):Good P c9 nt env J' (ins n key) a v ((execOp a.eval o).run P w):=by
 simp only[ep,hC]at h;obtain⟨⟨KT,K4⟩,k3,he⟩:=h;simp only at he;split at he
 . rename_i cs;simp only[gC,hO]at he;obtain⟨v0,ri,rfl,rfl,rfl⟩:=he;have LR:=ni R ad k3 bo;obtain⟨vs,Jl,oj⟩:=LR.1.afy;obtain⟨hle,OA,al⟩:=aDL oj (by simpa[V.c']using LR.2) ri h1;have ar:=aVN (P:=P) (w:=w) (vs:=vs) b9 hm h1 (by rw[<-oj.length];exact hle)
   exact Good.pure R (by simp[execOp,c8,Jl,Instr.field,underlying,rJ,cJ,asAgg,ar]) OA al
 . cases he
theorem aUN (R:Rel c9 nt φ S env J n a w) {o:Oper} {x:Operand} {i:Nat} (c8:o.op= .extract x i) {hD:er} (ad:hT x=some hD)
 {p v J'} (hk:n key=false) (h:ep (.ext hD i) env J key=some (p,v,J')) (bo:p):Good P c9 nt env J' (ins n key) a v ((execOp a.eval o).run P w):=by
 simp only[ep,hC]at h;obtain⟨⟨KT,K4⟩,k3,he⟩:=h;simp only at he;split at he
 . rename_i vs;simp only[gC,hO]at he;obtain⟨v0,ri,rfl,rfl,rfl⟩:=he;have LR:=ni R ad k3 bo;generalize ch:a.eval x=y at LR;obtain⟨ar,al⟩:=LR;cases ar with
   | gJ _ xs a6 ai=>
    have ec:i < xs.length:=by rw[<-a6];exact(sb.1 ri).1
    have TM:xs[i]?=some xs[i]:=J9 ec;refine Good.pure R (x:=xs[i]) ?_ (ai i _ _ ri TM) (ZL (by simpa[V.c']using al) ri);simp[execOp,c8,ch,Instr.extract,TM]
 . cases he
theorem aSl (R:Rel c9 nt φ S env J n a w) {o:Oper} {x y:Operand} {auM:Array TypeId} (c8:o.op= .call {callee:= .builtin .max,args:=#[x,y],argTypes:=auM}) {hD Ja:er} (ad:hT x=some hD) (bJ:hT y=some Ja)
 {p v J'} (hk:n key=false) (h:ep (.max2 hD Ja) env J key=some (p,v,J')) (bo:p):Good P c9 nt env J' (ins n key) a v ((execOp a.eval o).run P w):=by
 simp only[ep,hC]at h;obtain⟨⟨KT,K4⟩,k3,⟨Yh,Yk⟩,M3,he⟩:=h;simp only at he;split at he
 . rename_i k p ka q;simp only[A',hQ,hO]at he;obtain⟨rfl,rfl,rfl,rfl⟩:=he;have h1:=(ni R ad k3 bo.1).1.NY;have ah:=(ni R bJ M3 bo.2).1.NY;refine Good.pure R (x:= .int k (max p q)) ?_ (.Zb _ _) rfl;have:(if p < q then q else p)=max p q:=by omega
   simp[execOp,c8,resolve,invoke,builtin,Builtin.max_,Builtin.max2,h1,ah,Go.resolve,this]
 . cases he
theorem aSm (R:Rel c9 nt φ S env J n a w) {o:Oper} {x y:Operand} {auM:Array TypeId} (c8:o.op= .call {callee:= .builtin .min,args:=#[x,y],argTypes:=auM}) {hD Ja:er} (ad:hT x=some hD) (bJ:hT y=some Ja)
 {p v J'} (hk:n key=false) (h:ep (.min2 hD Ja) env J key=some (p,v,J')) (bo:p):Good P c9 nt env J' (ins n key) a v ((execOp a.eval o).run P w):=by
 simp only[ep,hC]at h;obtain⟨⟨KT,K4⟩,k3,⟨Yh,Yk⟩,M3,he⟩:=h;simp only at he;split at he
 . rename_i k p ka q;simp only[A',hQ,hO]at he;obtain⟨rfl,rfl,rfl,rfl⟩:=he;have h1:=(ni R ad k3 bo.1).1.NY;have ah:=(ni R bJ M3 bo.2).1.NY;refine Good.pure R (x:= .int k (min p q)) ?_ (.Zb _ _) rfl;have:(if q < p then q else p)=min p q:=by omega
   simp[execOp,c8,invoke,builtin,Builtin.min_,Builtin.min2,h1,ah,Go.resolve,this]
 . cases he
theorem k1.Vs{es:List (List T)}{v:Value}(h:k1 w S (.slice es) v):∃(a:Option Addr) (cap sz b o:Nat) (f:Nat -> Nat -> Value),v= .slice a es.length cap /\ es.length <=cap /\ es.length <=KJ /\ (∀e,e∈es -> e.length=sz) /\ (es≠[] -> a=some ⟨b,o,none⟩) /\
 (∀i j:Nat,i < es.length->j < sz->S b (o+i*sz+j)/\w.cell? ⟨b,o+i*sz+j,none⟩=some (f i j))/\(∀(i j:Nat) e t,es[i]?=some e->e[j]?=some t->k1 w S t (f i j)):=by
 cases h;exact⟨_,_,_,_,_,_,rfl,by assumption,by assumption,by assumption,by assumption,by assumption,by assumption⟩
theorem ho.O3{b sz off len:Nat}{v:Value}(h:ho φ w S (.arr b sz off len) v):∃a,v= .slice a len ((φ b).2 - off)/\((φ b).2≠0->a=some ⟨(φ b).1,off*sz,none⟩)/\off+len<=(φ b).2:=h
theorem aFY (R:Rel c9 nt φ S env J n a w) {o:Oper} {x:Operand} {ty:TypeId} (c8:o.op= .call {callee:= .builtin .len,args:=#[x],argTypes:=#[ty]}) {str:Bool}
 (rJ:if str then P.underlying ty=some .string else ∃e,P.underlying ty=some (.slice e)) {hD:er} (ad:hT x=some hD)
 {p v J'} (hk:n key=false) (h:ep (.len str hD) env J key=some (p,v,J')) (bo:p):Good P c9 nt env J' (ins n key) a v ((execOp a.eval o).run P w):=by
 simp only[ep,hC]at h;obtain⟨⟨KT,K4⟩,k3,he⟩:=h;simp only at he;split at he <;> simp only[hQ,hO,reduceCtorEq]at he
 all_goals
  obtain⟨rfl,rfl,rfl⟩:=he;have h1:=(ni R ad k3 bo).1.Ji
 . obtain⟨e,rJ⟩:=rJ;obtain⟨q',cap,_,_,_,_,h1,_⟩:=k1.Vs h1;exact Good.pure R (by simp[execOp,c8,Go.resolve,invoke,builtin,Builtin.len_,underlying,rJ,h1,goInt]) (.Zb _ _) rfl
 . obtain⟨e,rJ⟩:=rJ;obtain⟨q',h1,_⟩:=ho.O3 h1;exact Good.pure R (by simp[execOp,c8,Go.resolve,invoke,builtin,Builtin.len_,underlying,rJ,h1,goInt]) (.Zb _ _) rfl
 . obtain⟨e,rJ⟩:=rJ;obtain⟨q',h1⟩:=h1;exact Good.pure R (by simp[execOp,c8,Go.resolve,invoke,builtin,Builtin.len_,underlying,rJ,h1,goInt]) (.Zb _ _) rfl
 . obtain⟨e,rJ⟩:=rJ;rename_i b l;obtain⟨q',cap,h1⟩:∃q' cap,a.eval x= .slice q' l cap:=by
    obtain⟨hle,Nr,hg⟩:=h1
    grind
   exact Good.pure R (by simp[execOp,c8,Go.resolve,invoke,builtin,Builtin.len_,underlying,rJ,h1,goInt]) (.Zb _ _) rfl
 . simp only[qb]at rJ;obtain⟨bs,QN,rfl,_⟩:=k'.Vt (.c h1);exact Good.pure R (x:= .int .i64 bs.size) (by simp[execOp,c8,Go.resolve,invoke,builtin,Builtin.len_,underlying,rJ,QN,goInt]) (by rw[acT];exact .Zb _ _) rfl
theorem aSn (R:Rel c9 nt φ S env J n a w) {o:Oper} {ty:TypeId} {x i:Operand} (c8:o.op= .indexAddr ty x i) {e:TypeId} (rJ:P.underlying ty=some (.slice e)) {sz:Nat} (h6:JR P e=some sz) (h0:sz≠0)
 {hD WX:er} (ad:hT x=some hD) (ay:hT i=some WX)
 {p v J'} (hk:n key=false) (h:ep (.idxA sz hD WX) env J key=some (p,v,J')) (bo:p):Good P c9 nt env J' (ins n key) a v ((execOp a.eval o).run P w):=by
 simp only[ep,hC]at h;obtain⟨⟨KT,K4⟩,k3,⟨pi,aMx⟩,X6,he⟩:=h;simp only at he;have Qk:∀(b off m:Nat),(Addr.add ⟨b,off,none⟩ (m*sz):Addr)=⟨b,off+m*sz,none⟩:=by
  intro b off m;unfold Addr.add;split
  . grind
  . rfl
 split at he
 . rename_i es k m;simp only[hQ,hO]at he;obtain⟨rfl,rfl,rfl⟩:=he;obtain⟨Jk,E',V',aaa,O9⟩:=bo;have h1:=(ni R ad k3 Jk).1.Ji;have ah:=(ni R ay X6 E').1.NY;obtain⟨q',cap,lJ,b,off,f,h1,SJ,NX,ar0,ch,b7,cv⟩:=k1.Vs h1;have hG:es≠[]:=by intro h;subst h;simp at aaa
   have aJP:es[m.toNat]?=some (el es m.toNat):=by unfold el;rw[List.getD,J9 aaa];rfl
   have agc:lJ=sz:=by rw[<-O9];exact(ar0 _ (JX aJP)).symm
   subst agc;rw[ch hG]at h1;refine Good.pure R (x:= .pointer (some ⟨b,off+m.toNat*lJ,none⟩)) ?_ ?_ rfl
   . have O8:0<=m/\m < (es.length:Int):=⟨V',by omega⟩
     simp[execOp,c8,h1,ah,Instr.indexAt,asIntOf,underlying,rJ,O8,UI h6,Qk]
   . refine .c ⟨b,off+m.toNat*lJ,λj=>f m.toNat j,by simp,λj t ht=>?_⟩;have c7:j < lJ:=by rw[<-O9];exact(sb.1 ht).1
     exact⟨(b7 _ _ aaa c7).1,(b7 _ _ aaa c7).2,cv _ _ _ _ aJP ht⟩
 . rename_i b lJ off len k m;simp only[hQ,hO]at he;obtain⟨rfl,rfl,rfl⟩:=he;obtain⟨Jk,E',V',aaa,rfl⟩:=bo;have b9:=ni R ad k3 Jk;have h1:=b9.1.Ji;have ah:=(ni R ay X6 E').1.NY;obtain⟨q',h1,ch,hle⟩:=ho.O3 h1;rw[ch (by omega)]at h1
   refine Good.pure R (x:= .pointer (some ⟨(φ b).1,off*sz+m.toNat*sz,none⟩)) ?_ (.c ?_) (by simpa[V.c',C.c']using b9.2)
   . have O8:0<=m/\m < (len:Int):=⟨V',by omega⟩
     simp[execOp,c8,h1,ah,Instr.indexAt,asIntOf,underlying,rJ,O8,UI h6,Qk]
   . simp[ho,NJ]
 . cases he
theorem aSo (R:Rel c9 nt φ S env J n a w) {o:Oper} {ty:TypeId} {x i:Operand} (c8:o.op= .index ty x i) (rJ:P.underlying ty=some .string)
 {hD WX:er} (ad:hT x=some hD) (ay:hT i=some WX)
 {p v J'} (hk:n key=false) (h:ep (.idxS hD WX) env J key=some (p,v,J')) (bo:p):Good P c9 nt env J' (ins n key) a v ((execOp a.eval o).run P w):=by
 simp only[ep,hC]at h;obtain⟨⟨KT,K4⟩,k3,⟨pi,aMx⟩,X6,he⟩:=h;simp only at he;split at he
 . rename_i s k m;simp only[hQ,hO]at he;obtain⟨rfl,rfl,rfl⟩:=he;obtain⟨Jk,E',V',aaa⟩:=bo;obtain⟨bs,h1,rfl,hs⟩:=(ni R ad k3 Jk).1.Vt;have ah:=(ni R ay X6 E').1.NY;have ec:m.toNat < bs.size:=by rw[<-acT];exact aaa
   refine Good.pure R (x:= .int .u8 (bs.data.toList.getD m.toNat 0).toNat) ?_ (.Zb _ _) rfl;have al:bs[m.toNat]?=some (bs.data.toList.getD m.toNat 0):=by
    rw[getElem?_pos bs m.toNat ec]
    congr 1
    simp only[List.getD,J9 aaa,Xo,Array.getElem_toList];rfl
   simp[execOp,c8,h1,ah,Instr.index,asIntOf,underlying,rJ,V',al]
 . cases he
theorem aEd :∀{vs:List V} {l:List Nat} {xs:List Value},ep.afH vs=some l -> f' (k' φ w S) vs xs -> V.c'.V.Is n vs=true ->
 xs=l.map (λb=>Value.pointer (some ⟨(φ b).1,0,none⟩))/\(l.all λb=>n b)=true
 | [],l,xs,h,ch,al=>by simp[ep.afH]at h;subst h;cases ch;simp
 | v::vs,l,xs,h,ch,al=>by
  cases ch with
  | cons JC ht=>
   unfold ep.afH at h;split at h
   . grind
   . rename_i b r e;cases e;simp only[gC]at h;obtain⟨z',L1,rfl⟩:=h;simp only[V.c'.V.Is,k0]at al;obtain⟨rfl,ah⟩:=aEd L1 ht al.2;have:=JC.PZ;subst this;refine⟨by simp,?_⟩;simp only[aao,ah,Bool.and_true]
     simpa[V.c',C.c']using al.1
   . cases h
theorem aSp (R:Rel c9 nt φ S env J n a w) {o:Oper} {f:Nat} {caps:Array Operand} (c8:o.op= .makeFunc (.func f) #[] caps) {Ss:List er} (ad:Zi caps.toList=some Ss)
 {p v J'} (hk:n key=false) (h:ep (.mkfn f Ss) env J key=some (p,v,J')) (bo:p):Good P c9 nt env J' (ins n key) a v ((execOp a.eval o).run P w):=by
 simp only[ep,hC]at h;obtain⟨⟨KT,vs⟩,k3,he⟩:=h;simp only at he;split at he
 . rename_i l a6;simp only[hQ,hO]at he;obtain⟨rfl,rfl,rfl⟩:=he;have b9:=acP R ad k3 bo;obtain⟨h1,ah⟩:=aEd a6 b9.1 b9.2;refine Good.pure R (x:= .func (.func f) #[] (l.map λb=>Value.pointer (some ⟨(φ b).1,0,none⟩)).toArray) ?_ (.c rfl) (by simpa[V.c',C.c']using ah)
   have:caps.map a.eval=(l.map λb=>Value.pointer (some ⟨(φ b).1,0,none⟩)).toArray:=by grind
   simp[execOp,c8,Instr.makeFunc,this]
 . cases he
theorem acQ(R:Rel c9 nt φ S env J n a w){x:Option Operand}{hD:Option er}(ad:Vm x=some hD){p:Prop}{m:Option Int}(h:Ug env hD=some (p,m))(bo:p):
 (x.map a.eval=none/\m=none)\/∃k i,x.map a.eval=some (.int k i)/\m=some i:=by
 cases x with
 | none=>simp[Vm]at ad;subst ad;simp[Ug]at h;exact .inl ⟨rfl,h.2.symm⟩
 | some x=>
  simp only[Vm,gC]at ad;obtain⟨tw,TE,rfl⟩:=ad;simp only[Ug,hC]at h;obtain⟨⟨q,v⟩,eg,he⟩:=h;simp only at he;split at he
  . simp only[hQ,hO]at he;obtain⟨rfl,rfl⟩:=he;have:=(ni R TE eg bo).1.NY;exact .inr ⟨_,_,JQ some this,rfl⟩
  . cases he
theorem apr {isSlice:Bool} {len cap:Nat} {hi ay:Option Value} {l h:Option Int} (OL:(hi=none /\ l=none) \/ ∃k i,hi=some (.int k i) /\ l=some i) (adB:(ay=none /\ h=none) \/ ∃k i,ay=some (.int k i) /\ h=some i)
 (h0:0<=l.getD 0) (h1:l.getD 0<=h.getD len) (ah:h.getD len<=len) (b':len<=cap):
 (Instr.sliceBounds isSlice len cap hi ay none).run P w= .ok ((l.getD 0).toNat,(h.getD len).toNat,cap) w:=by
 have ea:h.getD len<=(cap:Int):=by omega
 have hf:0<=h.getD (len:Int):=by omega
 rcases OL with⟨rfl,rfl⟩ | ⟨k,i,rfl,rfl⟩ <;> rcases adB with⟨rfl,rfl⟩ | ⟨ka,ny,rfl,rfl⟩ <;> simp_all [Instr.sliceBounds,Instr.sliceBound,asIntOf]
 . omega
theorem aSq (R:Rel c9 nt φ S env J n a w) {o:Oper} {ty:TypeId} {x:Operand} {hi ay:Option Operand} (c8:o.op= .slice ty x hi ay none) (rJ:P.underlying ty=some .string)
 {hD:er} {Ss YK:Option er} (ad:hT x=some hD) (OL:Vm hi=some Ss) (adB:Vm ay=some YK)
 {p v J'} (hk:n key=false) (h:ep (.slcS hD Ss YK) env J key=some (p,v,J')) (bo:p):Good P c9 nt env J' (ins n key) a v ((execOp a.eval o).run P w):=by
 simp only[ep,hC]at h;obtain⟨⟨KT,K4⟩,k3,⟨pl,l⟩,adz,⟨aLc,h⟩,aiP,he⟩:=h;simp only at he;split at he
 . rename_i s;simp only[hQ,hO]at he;obtain⟨rfl,rfl,rfl⟩:=he;obtain⟨Jk,E',abT,h0,h1,ah⟩:=bo;obtain⟨bs,TK,rfl,hs⟩:=(ni R ad k3 Jk).1.Vt;have a6:=acQ R OL adz E';have ai:=acQ R adB aiP abT;rw[acT]at h1 ah;have al:=apr (P:=P) (w:=w) (isSlice:=false) (cap:=bs.size) a6 ai h0 h1 ah (JK _);rw[acT]
   have e:(bs.extract (l.getD 0).toNat (h.getD bs.size).toNat).data.toList=(bs.data.toList.take (h.getD bs.size).toNat).drop (l.getD 0).toNat:=by simp[ByteArray.data_extract,Array.toList_extract,List.extract,List.drop_take]
   refine Good.pure R (x:= .string (bs.extract (l.getD 0).toNat (h.getD bs.size).toNat)) ?_ (.c ?_) rfl
   . simp[execOp,c8,Instr.sliceAt,Instr.slice,underlying,rJ,TK,al]
   . show k1 w S _ _;rw[<-e];refine .str _ ?_;rw[ByteArray.size_extract];omega
 . cases he
theorem aUO (R:Rel c9 nt φ S env J n a w) {o:Oper} {ty:TypeId} {x:Operand} {hi ay:Option Operand} (c8:o.op= .slice ty x hi ay none) {e:TypeId} (rJ:P.underlying ty=some (.slice e)) {sz:Nat} (h6:JR P e=some sz)
 {hD:er} {Ss YK:Option er} (ad:hT x=some hD) (OL:Vm hi=some Ss) (adB:Vm ay=some YK)
 {p v J'} (hk:n key=false) (h:ep (.slc sz hD Ss YK) env J key=some (p,v,J')) (bo:p):Good P c9 nt env J' (ins n key) a v ((execOp a.eval o).run P w):=by
 simp only[ep,hC]at h;obtain⟨⟨KT,K4⟩,k3,⟨pl,l⟩,adz,⟨aLc,h⟩,aiP,he⟩:=h;simp only at he;split at he
 . rename_i es;simp only[hQ,hO]at he;obtain⟨rfl,rfl,rfl⟩:=he;obtain⟨Jk,E',abT,h0,h1,ah,O9⟩:=bo;obtain⟨q',cap,lJ,b,off,f,TK,SJ,NX,ar0,ch,b7,cv⟩:=k1.Vs (ni R ad k3 Jk).1.Ji;have a6:=acQ R OL adz E';have ai:=acQ R adB aiP abT;have al:=apr (P:=P) (w:=w) (isSlice:=true) (cap:=cap) a6 ai h0 h1 ah SJ
   generalize vK:(l.getD 0).toNat=L at*;generalize hH:(h.getD (es.length:Int)).toNat=H at*;have aY7:L<=H:=by omega
   have a3l:H<=es.length:=by omega
   have hlen:((es.take H).drop L).length=H - L:=by simp;omega
   refine Good.pure R (x:= .slice (if cap=L then q' else q'.map (·.add (L*sz))) (H - L) (cap - L)) ?_ (.c ?_) rfl
   . simp[execOp,c8,Instr.sliceAt,Instr.slice,underlying,rJ,TK,al,UI h6]
   . show k1 w S _ _;rw[<-hlen];have x':∀(i:Nat) e,((es.take H).drop L)[i]?=some e->es[L+i]?=some e/\L+i < H:=by grind
     by_cases hG:es=[]
     . subst hG;simp;exact k1.slice [] _ _ 0 0 0 (λ_ _=>undef) (by simp) (by simp[KJ]) (by simp) (by simp) (by simp) (by simp)
     . have agc:lJ=sz:=by
        obtain⟨u1,Rn⟩:=asf es hG
        grind
       subst agc;refine k1.slice _ _ _ lJ b (off+L*lJ) (λi j=>f (L+i) j) (by rw[hlen];omega) (by rw[hlen];omega) (λe he=>O9 e (ab4 (asn he))) ?_ ?_ ?_
       . intro dy;have:L < H:=by grind
         rw[aJ (by omega),ch hG];simp only[Oh,hQ];unfold Addr.add;split
         . rename_i h;simp[h]
         . rfl
       . intro i j ay c7;rw[hlen]at ay;have:=b7 (L+i) j (by omega) c7;rw[show off+L*lJ+i*lJ+j=off+(L+i)*lJ+j by rw[NJ];omega];exact this
       . intro i j e t he ht;exact cv _ _ _ _ (x' i e he).1 ht
 . rename_i b lJ off len;simp only[hQ,hO]at he;obtain⟨rfl,rfl,rfl⟩:=he;obtain⟨Jk,E',abT,h0,h1,ah,rfl⟩:=bo;have b9:=ni R ad k3 Jk;have NV:n b=true:=by simpa[V.c',C.c']using b9.2
   obtain⟨q',TK,ch,hle⟩:=ho.O3 b9.1.Ji;have a6:=acQ R OL adz E';have ai:=acQ R adB aiP abT;have al:=apr (P:=P) (w:=w) (isSlice:=true) (cap:=(φ b).2 - off) a6 ai h0 h1 ah (by omega);have Qk:∀(q o m:Nat),(Addr.add ⟨q,o,none⟩ m:Addr)=⟨q,o+m,none⟩:=by
    intro q o m;unfold Addr.add;split
    . grind
    . rfl
   have aZ9:Ss.isNone=true->l.getD 0=0:=by
    intro dy;cases Ss with
    | some _=>cases dy
    | none=>simp only[Ug,hQ,hO]at adz;rw[<-adz.2];rfl
   generalize l.getD 0=L at*;generalize h.getD (len:Int)=H at*;refine Good.pure R (x:= .slice (if(φ b).2 - off=L.toNat then q' else q'.map (·.add (L.toNat*sz))) (H.toNat - L.toNat) ((φ b).2 - off - L.toNat)) ?_ (.c ?_) ?_
   . simp[execOp,c8,Instr.sliceAt,Instr.slice,underlying,rJ,TK,al,UI h6]
   . by_cases dy:Ss.isNone=true
     . rw[ao dy];have:=aZ9 dy;subst this;refine⟨_,rfl,λb7=>?_,by omega⟩;split
       . exact ch b7
       . rw[ch b7];simp[Qk]
     . rw[aJ dy];refine⟨_,_,rfl,λb7=>?_,by omega⟩;rw[aJ (by omega),ch (by omega)];simp[Qk,NJ]
   . split <;> simpa[V.c',C.c']using NV
 . cases he
theorem aTN (R:Rel c9 nt φ S env J n a w) {o:Oper} {ty:TypeId} {x:Operand} {k ka:IntKind} (c8:o.op= .slice ty x none (some (.const (.int k 0))) (some (.const (.int ka 0)))) {e:TypeId} (rJ:P.underlying ty=some (.slice e))
 {sz:Nat} (h6:JR P e=some sz) {hD:er} (ad:hT x=some hD)
 {p v J'} (hk:n key=false) (h:ep (.slc0 hD) env J key=some (p,v,J')) (bo:p):Good P c9 nt env J' (ins n key) a v ((execOp a.eval o).run P w):=by
 simp only[ep,hC]at h;obtain⟨⟨KT,K4⟩,k3,he⟩:=h;simp only at he;have C':∀(q':Option Addr) (l c:Nat),a.eval x= .slice q' l c->∃a2,(execOp a.eval o).run P w= .ok (.value (.slice a2 0 0)) w:=by
  intro q' l c TK;have u1:∀v,a.eval (.const v)=v:=λ_=>rfl
  exact⟨_,by simp[execOp,c8,Instr.sliceAt,Instr.slice,underlying,rJ,TK,UI h6,Instr.sliceBounds,Instr.sliceBound,asIntOf,u1];rfl⟩
 split at he <;> simp only[hQ,hO,reduceCtorEq]at he
 all_goals
  obtain⟨rfl,rfl,rfl⟩:=he;have h1:=(ni R ad k3 bo).1.Ji
 . obtain⟨q',cap,lJ,b,off,f,TK,_⟩:=k1.Vs h1;obtain⟨a2,ah⟩:=C' _ _ _ TK;exact Good.pure R ah (.c ⟨a2,rfl⟩) rfl
 . obtain⟨q',TK⟩:=h1;obtain⟨a2,ah⟩:=C' _ _ _ TK;exact Good.pure R ah (.c ⟨a2,rfl⟩) rfl
 . obtain⟨q',TK,_⟩:=ho.O3 h1;obtain⟨a2,ah⟩:=C' _ _ _ TK;exact Good.pure R ah (.c ⟨a2,rfl⟩) rfl
end
section
variable {P:Program} {c9:Ctx} {nt:Nat} {φ:vt} {S:y0} {env:Env} {J:fu} {n:Nat->Bool} {key:Nat} {a:Act} {w:World}
theorem Tn{b:Nat}{vs:List Value}{E:TypeId}{arx:Nat×Nat}(h:w.heap[b]?=some (.cells vs.toArray E arx))(j:Nat):w.cell? ⟨b,j,none⟩=vs[j]?:=by
 simp[World.cell?,h]
theorem afc {ty:TypeId} {g:Bool×Nat} (b9:afl P ty=some g) {blk off0 o:Nat} {cs:List C} {vs:List Value} {v:V}
 (oj:f' (ho φ w S) cs vs) (al:cs.all (C.c' n)=true) (b7:∀j,j < vs.length->w.cell? ⟨blk,off0+j,none⟩=vs[j]?) (a6:Us g.1 g.2 cs o=some v):
 ∃x,(loadVar ty ⟨blk,off0+o,none⟩).run P w= .ok x w/\k' φ w S v x/\v.c' n=true:=by
 obtain⟨h1,ah,b'⟩:=aE6 b9;obtain⟨hle,OA,U'⟩:=aDL oj al a6 b';rw[oj.length]at hle;refine⟨_,gmt h1 ah (vs:=(vs.drop o).take g.2) ?_ (by simp;omega) b',OA,U'⟩;intro j c7;rw[Xn,ao c7,adY,<-b7 (o+j) (by omega),ab8]
theorem f'.aLs{ts:List T}{xs:List Value}(h:f' (k1 w S) ts xs):f' (ho φ w S) (ts.map .t) xs:=f'.a1b h
theorem axa{b sz i:Nat}{es:List (List T)}(h:r2 φ w S b (.arr sz es))(ay:i < es.length):
 (φ b).2≠0/\∃(vs:List Value) (E:TypeId) (xs:List Value),w.heap[(φ b).1]?=some (.cells vs.toArray E (0,0))/\vs.length=(φ b).2*sz/\(el es i).length=sz/\xs.length=sz/\f' (k1 w S) (el es i) xs/\
  (∀j,j < sz->vs[i*sz+j]?=xs[j]?)/\(i+1)*sz<=vs.length:=by
 obtain⟨h1,ah,b',ea,hf⟩:=h;have h0:(φ b).2≠0:=by omega
 obtain⟨vs,E,ai,a6,cv,hs⟩:=hf h0;have O9:es[i]?=some (el es i):=by unfold el;rw[List.getD,J9 ay];rfl
 have hlen:(el es i).length=sz:=b' _ (JX O9);have hle:(i+1)*sz<=vs.length:=by rw[a6];exact K0 _ (by omega)
 have aZ5:i*sz+sz<=vs.length:=by rw[NJ]at hle;omega
 refine⟨h0,vs,E,(vs.drop (i*sz)).take sz,ai,a6,hlen,by simp;omega,?_,?_,hle⟩
 . refine f'.Xp (by simp;omega) ?_;intro j t x ht ad;obtain⟨y,bJ,ar⟩:=cv _ _ _ _ O9 ht;rw[Xn]at ad;split at ad
   . rw[adY,bJ]at ad;cases ad;exact ar
   . cases ad
 . intro j c7;rw[Xn,ao c7,adY]
theorem aTO (R:Rel c9 nt φ S env J n a w) {o:Oper} {ty:TypeId} {x:Operand} (c8:o.op= .load ty x) {g:Bool×Nat} (b9:afl P ty=some g) {hD:er} (ad:hT x=some hD)
 {p v J'} (hk:n key=false) (h:ep (.load g.1 g.2 hD) env J key=some (p,v,J')) (bo:p):Good P c9 nt env J' (ins n key) a v ((execOp a.eval o).run P w):=by
 simp only[ep,hC]at h;obtain⟨⟨KT,K4⟩,k3,he⟩:=h;simp only at he;have C':∀(blk off:Nat) (y:Value),a.eval x= .pointer (some ⟨blk,off,none⟩)->(loadVar ty ⟨blk,off,none⟩).run P w= .ok y w->(execOp a.eval o).run P w= .ok (.value y) w:=by
  intro blk off y h1 ah;simp[execOp,c8,Instr.loadAt,Instr.sureAddr,h1,ah]
 split at he
 . rename_i b q1;split at he
   . rename_i cs l1;simp only[gC,hO]at he;obtain⟨v0,ri,rfl,rfl,rfl⟩:=he;have h1:=(ni R ad k3 bo).1.PZ;obtain⟨_,vs,E,ai,oj,_⟩:=R.h'.blk _ _ l1;have al:=(R.HJ _ _ l1).2;obtain⟨y,bJ,OA,U'⟩:=afc (n:=n) b9 oj al (λj _=>by rw[Tn ai,NI]) ri;rw[NI]at bJ
     exact Good.pure R (C' _ _ _ h1 bJ) OA U'
   . rename_i E c l1;split at he
     . rename_i afZ;obtain⟨aZT,rfl⟩:=afZ;simp only[hQ,hO]at he;obtain⟨rfl,rfl,rfl⟩:=he;have h1:=(ni R ad k3 bo).1.PZ;obtain⟨_,⟨agE,Zo,ai,aym,aiW⟩,_⟩:=R.h'.blk _ _ l1;have al:=(R.HJ _ _ l1).2;have adE:agE.oneCell'=true:=by rcases aym with rfl | rfl <;> rfl
       have oj:f' (ho φ w S) [.dead,c] [agE,Zo]:= .cons adE (.cons aiW .nil);obtain⟨y,bJ,OA,U'⟩:=afc (n:=n) (vs:=[agE,Zo]) (blk:=(φ b).1) (off0:=0) (o:=1) (v:= .c c) b9 oj (by simp only[aao,List.all_nil,Bool.and_true];exact al) (λj _=>by rw[Tn (vs:=[agE,Zo]) ai,NI]) (by simp[Us,aZT]);rw[NI]at bJ
       exact Good.pure R (C' _ _ _ h1 bJ) OA U'
     . cases he
   . cases he
 . rename_i b sz i q1;split at he
   . rename_i lJ es l1;simp only[gC,hO]at he;obtain⟨v0,ri,rfl,rfl,rfl⟩:=he;obtain⟨Jk,rfl,ay⟩:=bo;have h1:=(ni R ad k3 Jk).1.SH;obtain⟨_,vs,E,xs,ai,a6,hlen,TL,oj,x',_⟩:=axa (R.h'.blk _ _ l1) ay
     obtain⟨y,bJ,OA,U'⟩:=afc (n:=n) b9 (f'.aLs oj) (aFX n _) (off0:=i*sz) (λj c7=>by rw[Tn ai,x' j (by omega)]) (aGQ ri);exact Good.pure R (C' _ _ _ h1 bJ) OA U'
   . rename_i lJ es i2 KZ c l1;split at he
     . cases he
     . rename_i U7;have U7:g.1=false:=by simpa using U7
       obtain⟨⟨a1,a2,a3,a4,a5,MG⟩,⟨vs,E,hg,hv,h3,amk,oo,u2⟩,s3⟩:=R.h'.blk _ _ l1;have al:=(R.HJ _ _ l1).2;split at he
       . rename_i LS;subst LS;simp only[hQ,hO]at he;obtain⟨rfl,rfl,rfl⟩:=he;obtain⟨Jk,rfl,rfl⟩:=bo;have h1:=(ni R ad k3 Jk).1.SH
         obtain⟨y,bJ,OA,U'⟩:=afc (n:=n) (vs:=[amk]) (blk:=(φ b).1) (off0:=i*sz+q1) (o:=0) (v:= .c c) b9 (.cons u2 .nil) (by simpa[h2.c']using al) (λj c7=>by
          have:j=0:=by simpa using c7
          subst this
          rw[Tn hg,Yf,oo];rfl) (by simp[Us,U7])
         exact Good.pure R (C' _ _ _ h1 bJ) OA U'
       . rename_i LS;simp only[gC,hO]at he;obtain⟨v0,ri,rfl,rfl,rfl⟩:=he;obtain⟨Jk,rfl,ay⟩:=bo;have h1:=(ni R ad k3 Jk).1.SH;simp only[loadT,q2,uJ,gC]at ri;obtain⟨t,ht,rfl⟩:=ri;have O9:es[i]?=some (el es i):=by unfold el;rw[List.getD,J9 ay];rfl
         obtain⟨S9,LU,Xj⟩:=h3 i q1 _ t O9 ht (λh=>LS h.2)
         obtain⟨y,bJ,OA,U'⟩:=afc (n:=n) (φ:=φ) (cs:=[.t t]) (vs:=[S9]) (blk:=(φ b).1) (off0:=i*sz+q1) (o:=0) (v:= .c (.t t)) b9 (.cons Xj .nil) rfl (λj c7=>by
          have:j=0:=by simpa using c7
          subst this
          rw[Tn hg,Yf,LU];rfl) (by simp[Us,U7])
         exact Good.pure R (C' _ _ _ h1 bJ) OA U'
   . cases he
 . rename_i ts q1;simp only[gC,hO]at he;obtain⟨v0,ri,rfl,rfl,rfl⟩:=he;obtain⟨blk,off,f,h1,ai⟩:=(ni R ad k3 bo).1.Ji;have oj:f' (k1 w S) ts ((List.range ts.length).map f):=by
    refine f'.Xp (by simp) ?_
    grind
   obtain⟨y,bJ,OA,U'⟩:=afc (n:=n) b9 (f'.aLs oj) (aFX n _) (blk:=blk) (off0:=off) (λj c7=>by simp_all) (aGQ ri);exact Good.pure R (C' _ _ _ h1 bJ) OA U'
 . cases he
theorem aUP{k:Nat}{s t:T}{b:Bool}(h:aru k s t=some b){ty:TypeId}(rJ:anQ P ty=some k){x y:Value}(ad:k1 w S s x)(bJ:k1 w S t y)(d:Nat):
 (Op.equalIn (d+1) ty x y).run P w= .ok b w:=by
 have aiH:∀a b:List UInt8,(a==b)=decide (a=b):=λa b=>by by_cases h:a=b <;> simp[h]
 unfold anQ at rJ;unfold aru at h;split at h
 . cases h;cases ad;cases bJ;split at rJ <;> simp at rJ
   rename_i hu;unfold Op.equalIn;simp only[Sem.run_bind,run_underlying hu,Result.andThen_ok];rfl
 . simp only[A',hQ]at h;obtain⟨rfl,rfl⟩:=h;cases ad;cases bJ;split at rJ <;> simp at rJ
   rename_i hu;unfold Op.equalIn;simp only[Sem.run_bind,run_underlying hu,Result.andThen_ok,qb];rfl
 . cases h;cases ad with | str s1 h1=>cases bJ with | str s2 ah=>
   split at rJ <;> simp at rJ
   rename_i hu;unfold Op.equalIn;simp only[Sem.run_bind,run_underlying hu,Result.andThen_ok];rw[beq_toListBytes,ByteArray.toList_eq,ByteArray.toList_eq,aiH];rfl
 . cases h
theorem aUQ{ty:TypeId}{k:Nat}(h:anQ P ty=some k):abh P ty=some false:=by
 unfold anQ at h;unfold abh
 grind
theorem aCO{d:Nat}{xs ys:Array Value}:∀{fs:List Field} {i:Nat} {ks:List Nat} {ps ajs:List C} {us vs:List Value} {r:Bool},akL P i fs=some ks -> afS ks ps ajs=some r ->
 f' (ho φ w S) ps us->f' (ho φ w S) ajs vs->xs.toList.drop i=us->ys.toList.drop i=vs->(Op.eqFields (d+1) xs ys fs).run P w= .ok r w
 | [],i,ks,ps,ajs,us,vs,r,cJ,he,h1,ah,eh,hj=>by
  simp[akL]at cJ;subst cJ;cases ps <;> cases ajs <;> simp[afS]at he
  subst he;rfl
 | f::fs,i,ks,ps,ajs,us,vs,r,cJ,he,h1,ah,eh,hj=>by
  simp only[akL,A',hC,gC]at cJ;obtain⟨⟨a0g,ayd⟩,k,hk,abX,Pe,rfl⟩:=cJ;unfold afS at he;split at he
  . simp_all
  . rename_i ka a3W x azm y a4c heq;cases heq;simp only[hC,gC]at he;obtain⟨b,al,I1,af6,rfl⟩:=he;cases h1 with | cons h1 KR=>
    cases ah with | cons ah Xd=>
    rename_i u a4e v Xx;have ex:xs[i]?=some u:=by have:=JQ (·[0]?) eh;simp at this;exact this
    have avX:ys[i]?=some v:=by have:=JQ (·[0]?) hj;simp at this;exact this
    have ih:=aCO (d:=d) (xs:=xs) (ys:=ys) Pe af6 KR Xd (by rw[<-an3,eh];rfl) (by rw[<-an3,hj];rfl);have aK':∀(B':Array Value) (z:Value),B'[i]?=some z->(part f.type B' f.offset).run P w= .ok z w:=by
     intro B' z ga;simp[part,akM (aUQ hk),a0g,ga]
    simp only[Op.eqFields,ao ayd,Sem.run_bind,aK' _ _ ex,aK' _ _ avX,Result.andThen_ok,aUP al hk h1 ah d,Sem.run_ite];cases b
    . simp
    . simp[ih]
  . cases he
theorem aS9 (R:Rel c9 nt φ S env J n a w) {o:Oper} {op:BinOp} {ty K':TypeId} {x y:Operand} (c8:o.op= .binOp op ty x y K') (s0:op= .eql \/ op= .neq) {ks:List Nat} (rJ:aug P ty=some ks)
 {hD Ja:er} (ad:hT x=some hD) (bJ:hT y=some Ja)
 {p v J'} (hk:n key=false) (h:ep (.eqAgg (op== .neq) ks hD Ja) env J key=some (p,v,J')) (bo:p):Good P c9 nt env J' (ins n key) a v ((execOp a.eval o).run P w):=by
 simp only[ep,hC]at h;obtain⟨⟨KT,K4⟩,k3,⟨Yh,Yk⟩,M3,he⟩:=h;simp only at he;split at he
 . rename_i ps ajs;simp only[gC,hO]at he;obtain⟨r,ar,rfl,rfl,rfl⟩:=he;obtain⟨us,hu,aZk⟩:=(ni R ad k3 bo.1).1.afy;obtain⟨vs,cv,amU⟩:=(ni R bJ M3 bo.2).1.afy;unfold aug at rJ;split at rJ
   . rename_i fs Y4;simp only[A']at rJ;obtain⟨⟨hs,b9⟩,cJ⟩:=rJ;have abB:(eqGuard op ty x y (a.eval x) (a.eval y)).run P w= .ok () w:=by rcases s0 with rfl | rfl <;> simp[eqGuard,hu,cv,b9]
     have wk:P.fieldsOf ty=fs:=by simp[Program.fieldsOf,Y4]
     have amI:(Op.equal ty (.agg us.toArray) (.agg vs.toArray)).run P w= .ok r w:=by
      obtain⟨d,a7⟩:∃d,Op.maxDepth=d+2:=⟨9998,rfl⟩
      unfold Op.equal;rw[a7,run_equalIn_struct w (d+1) ty _ _ (by rw[wk];exact Y4) hs,wk];exact aCO cJ ar aZk amU (by simp) (by simp)
     have abC:(binOp op ty (a.eval x) (a.eval y)).run P w= .ok (.bool (if(op== .neq)then !r else r)) w:=by
      rcases s0 with rfl | rfl
      . rw[hu,cv];simp only[binOp,Sem.run_bind,amI];rfl
      . rw[hu,cv];simp only[binOp,Sem.run_bind,amI];rfl
     refine Good.pure R (x:= .bool (if(op== .neq)then !r else r)) ?_ (.afF _) rfl;simp[execOp,c8,abB,abC]
   . cases rJ
 . cases he
end
section
variable {P:Program} {c9:Ctx} {nt:Nat} {φ:vt} {S:y0} {env:Env} {J:fu} {n:Nat->Bool} {key:Nat} {a:Act} {w:World}
theorem acM{w w':World}{b:Nat}(h:w'.heap[b]?=w.heap[b]?)(j:Nat):w'.cell? ⟨b,j,none⟩=w.cell? ⟨b,j,none⟩:=by
 simp[World.cell?,h]
theorem XA{w:World}{b:Nat}{o:Obj}(h:w.heap[b]?=some o):b < w.heap.size:=(an'.1 h).1
theorem r2.Vq{b:Nat}{x:h2}(h:r2 φ w S b x)(h0:(φ b).2≠0):(φ b).1 < w.heap.size:=by
 cases x with
 | box cs=>obtain⟨_,_,_,ai,_⟩:=h;exact XA ai
 | arr sz es=>obtain⟨_,_,_,_,hf⟩:=h;obtain⟨_,_,ai,_⟩:=hf h0;exact XA ai
 | set ks=>obtain⟨_,⟨_,_,ai,_⟩,_⟩:=h;exact XA ai
 | buf E s=>obtain⟨_,_,hf⟩:=h;obtain⟨⟨_,ai,_⟩,_⟩:=hf h0;exact XA ai
 | kn E c=>obtain⟨_,⟨_,_,ai,_⟩,_⟩:=h;exact XA ai
 | nJ sz es i o c=>obtain⟨_,⟨_,_,ai,_⟩,_⟩:=h;exact XA ai
theorem r2.ab2{b:Nat}{x:h2}(h:r2 φ w S b x)(h0:(φ b).2≠0):∀j,¬S (φ b).1 j:=by
 cases x with
 | box cs=>obtain⟨_,_,_,_,_,hs⟩:=h;exact hs
 | arr sz es=>obtain⟨_,_,_,_,hf⟩:=h;obtain⟨_,_,_,_,_,hs⟩:=hf h0;exact hs
 | set ks=>exact h.2.2
 | buf E s=>exact(h.2.2 h0).2
 | kn E c=>exact h.2.2
 | nJ sz es i o c=>exact h.2.2
theorem r2.mono {hK:vt} {w':World} {b:Nat} {x:h2} (m:N7 w S w' S) (n1:∀b,n b=true -> hK b=φ b) (al:n b=true) (ad:x.c' n=true) (ai:(φ b).2≠0 -> w'.heap[(φ b).1]?=w.heap[(φ b).1]?)
 (h:r2 φ w S b x):r2 hK w' S b x:=by
 cases x with
 | box cs=>
  obtain⟨h0,vs,E,h1,ah,b'⟩:=h;simp only[r2,n1 b al];refine⟨h0,vs,E,(ai h0).trans h1,ah.imp λc v b7 ar=>ho.mono m n1 (by simp[h2.c']at ad;exact ad c b7) ar,b'⟩
 | arr sz es=>
  obtain⟨h1,ah,b',ea,hf⟩:=h;simp only[r2,n1 b al];refine⟨h1,ah,b',ea,λh0=>?_⟩;obtain⟨vs,E,hg,hv,h3,oo⟩:=hf h0;exact⟨vs,E,(ai h0).trans hg,hv,λi j e t he ht=>let⟨v,cv,ar⟩:=h3 i j e t he ht;⟨v,cv,k1.mono m ar⟩,oo⟩
 | set ks=>
  obtain⟨h0,⟨es,c,h1,ah⟩,b'⟩:=h;simp only[r2,n1 b al];exact⟨h0,⟨es,c,(ai h0).trans h1,ah⟩,b'⟩
 | buf E s=>
  obtain⟨h1,ah,b'⟩:=h;simp only[r2,n1 b al];refine⟨h1,ah,λh0=>?_⟩;obtain⟨⟨vs,hg,hv,h3⟩,oo⟩:=b' h0;exact⟨⟨vs,(ai h0).trans hg,hv,h3⟩,oo⟩
 | kn E c=>
  obtain⟨h0,⟨p,v,h1,ah,b'⟩,ea⟩:=h;simp only[r2,n1 b al];exact⟨h0,⟨p,v,(ai h0).trans h1,ah,ho.mono m n1 (by simpa[h2.c']using ad) b'⟩,ea⟩
 | nJ sz es i o c=>
  obtain⟨⟨h1,ah,b',ea,hf,tJ⟩,⟨vs,E,hg,hv,h3,v,oo,u2⟩,s3⟩:=h;simp only[r2,n1 b al];exact⟨⟨h1,ah,b',ea,hf,tJ⟩,⟨vs,E,(ai (by omega)).trans hg,hv,λi j e t he ht dy=>let⟨v,cv,ar⟩:=h3 i j e t he ht dy;⟨v,cv,k1.mono m ar⟩,v,oo,ho.mono m n1 (by simpa[h2.c']using ad) u2⟩,s3⟩
theorem Rel.world (R:Rel c9 nt φ S env J n a w) {w':World} (W:Nat -> Prop) (ayg:w'.os=w.os) (ht:w'.tape=w.tape) (c8:w'.output=w.output) (hs:w.heap.size <=w'.heap.size)
 (al:∀b:Nat,b < w.heap.size->¬W b->w'.heap[b]?=w.heap[b]?)
 (v':∀b,W b->(∀j,¬S b j)/\(∀k y,e1 J k=some y->(φ k).2≠0->(φ k).1≠b)/\(c9.B b\/c9.TP.heap.size<=b)):Rel c9 nt φ S env J n a w':=by
 have m:N7 w S w' S:=⟨λ_ _ h=>h,λb j h=>acM (al b (R.h'.st b j h) (λhw=>(v' b hw).1 j h)) j⟩
 refine⟨⟨λb x ad=>?_,R.h'.inj,λb j h=>Ya (R.h'.st b j h) hs⟩,λk g v a6 b9=>?_,R.PK,R.Oq,R.HJ,R.size,R.defers,?_,R.own,R.fix,R.Nu⟩
 . have JG:=R.h'.blk b x ad;exact r2.mono m (λ_ _=>rfl) (R.HJ b x ad).1 (R.HJ b x ad).2 (λh0=>al _ (JG.Vq h0) (λhw=>(v' _ hw).2.1 b x ad h0 rfl)) JG
 . obtain⟨x,ad,ar⟩:=R.Ot k g v a6 b9;exact⟨x,ad,k'.mono m (λ_ _=>rfl) (R.Oq k g v a6 b9) ar⟩
 . refine⟨ayg.trans R.ext.os,ht.trans R.ext.tape,c8.trans R.ext.output,RD R.ext.size hs,λb ec E1=>?_,R.ext.mono.trans m,R.ext.ad'⟩;rw[al b (Ya ec R.ext.size) (λhw=>?_)]
   . exact R.ext.block b ec E1
   . rcases (v' b hw).2.2 with h | h
     . exact E1 h
     . omega
theorem Rel.congr(R:Rel c9 nt φ S env J n a w){J':fu}(h:∀b,e1 J' b=e1 J b):Rel c9 nt φ S env J' n a w:=
 ⟨⟨λb x ad=>R.h'.blk b x (h b▸ad),λb hq x y ad bJ=>R.h'.inj b hq x y (h b▸ad) (h hq▸bJ),R.h'.st⟩,R.Ot,R.PK,R.Oq,λb x ad=>R.HJ b x (h b▸ad),R.size,R.defers,R.ext,λb x ad=>R.own b x (h b▸ad),R.fix,R.Nu⟩
theorem Rel.sub(R:Rel c9 nt φ S env J n a w){J':fu}(h:∀b x,e1 J' b=some x->e1 J b=some x):Rel c9 nt φ S env J' n a w:=
 ⟨⟨λb x ad=>R.h'.blk b x (h b x ad),λb hq x y ad bJ=>R.h'.inj b hq x y (h b x ad) (h hq y bJ),R.h'.st⟩,R.Ot,R.PK,R.Oq,λb x ad=>R.HJ b x (h b x ad),R.size,R.defers,R.ext,λb x ad=>R.own b x (h b x ad),R.fix,R.Nu⟩
theorem Rel.del(R:Rel c9 nt φ S env J n a w)(b:Nat):Rel c9 nt φ S env (Qr J b) n a w:=
 R.sub λk x ad=>by rw[Nb]at ad;split at ad <;> simp_all
theorem Rel.aok(R:Rel c9 nt φ S env J n a w){hK:vt}(n1:∀b,n b=true->hK b=φ b):Rel c9 nt hK S env J n a w:=by
 refine⟨⟨λb x ad=>?_,λb hq x y ad bJ=>?_,R.h'.st⟩,λk g v a6 b9=>?_,R.PK,R.Oq,R.HJ,R.size,R.defers,R.ext,λb x ad h0=>?_,λb al=>(n1 b (R.Nu b al)).trans (R.fix b al),R.Nu⟩
 . exact r2.mono (N7.refl w S) n1 (R.HJ b x ad).1 (R.HJ b x ad).2 (λ_=>rfl) (R.h'.blk b x ad)
 . rw[n1 b (R.HJ b x ad).1,n1 hq (R.HJ hq y bJ).1];exact R.h'.inj b hq x y ad bJ
 . obtain⟨x,ad,ar⟩:=R.Ot k g v a6 b9;exact⟨x,ad,k'.mono (N7.refl w S) n1 (R.Oq k g v a6 b9) ar⟩
 . rw[n1 b (R.HJ b x ad).1]at h0 ⊢;exact R.own b x ad h0
theorem Rel.put (R:Rel c9 nt φ S env J n a w) {b:Nat} {x:h2} (al:n b=true) (ad:x.c' n=true) (JG:r2 φ w S b x)
 (cJ:(φ b).2≠0->(∀k y,e1 J k=some y->k≠b->(φ k).2≠0->(φ k).1≠(φ b).1)/\(c9.B (φ b).1\/c9.TP.heap.size<=(φ b).1)):Rel c9 nt φ S env (vc J b x) n a w:=by
 refine⟨⟨λk y bJ=>?_,λk ka y P4 bJ ON hG h0 Jj=>?_,R.h'.st⟩,R.Ot,R.PK,R.Oq,λk y bJ=>?_,R.size,R.defers,R.ext,λk y bJ h0=>?_,R.fix,R.Nu⟩
 . rw[q6]at bJ;split at bJ
   . rename_i e;cases bJ;subst e;exact JG
   . exact R.h'.blk k y bJ
 . rw[q6]at bJ ON;split at bJ
   . rename_i e;subst e;rw[aJ hG]at ON;exactλe=>(cJ h0).1 ka P4 ON (EI hG) Jj e.symm
   . split at ON
     . rename_i e;subst e;exact(cJ Jj).1 k y bJ hG h0
     . exact R.h'.inj k ka y P4 bJ ON hG h0 Jj
 . rw[q6]at bJ;split at bJ
   . rename_i e;cases bJ;subst e;exact⟨al,ad⟩
   . exact R.HJ k y bJ
 . rw[q6]at bJ;split at bJ
   . rename_i e;subst e;exact(cJ h0).2
   . exact R.own k y bJ h0
def M7(φ:vt)(n:Nat)(q:Nat×Nat):vt:=λb=>if b=n then q else φ b
theorem av9{b:Nat}{q:Nat×Nat}(hk:n key=false)(h:n b=true):M7 φ key q b=φ b:=by simp only[M7];rw[aJ];intro e;subst e;rw[hk]at h;cases h
theorem ze{k:Nat}{q:Nat×Nat}:M7 φ k q k=q:=by simp[M7]
theorem Rel.Ut (R:Rel c9 nt φ S env J n a w) (hk:n key=false) {x:h2} (q:Nat×Nat) (ad:x.c' n=true) (JG:r2 (M7 φ key q) w S key x)
 (cJ:q.2≠0->(∀k y,e1 J k=some y->(φ k).2≠0->(φ k).1≠q.1)/\(c9.B q.1\/c9.TP.heap.size<=q.1)):Rel c9 nt (M7 φ key q) S env (vc J key x) (ins n key) a w:=by
 refine((R.aok (λb h=>av9 hk h)).more (λ_ h=>VP h)).put aVM (h2.O5 (λ_ h=>VP h) ad) JG ?_;rw[ze];intro h0;refine⟨λk y bJ hG h=>?_,(cJ h0).2⟩;rw[av9 hk (R.HJ k y bJ).1]at h ⊢;exact(cJ h0).1 k y bJ h
theorem aqe{w:World}{o:Obj}{b:Nat}(h:b < w.heap.size):(w.alloc o).heap[b]?=w.heap[b]?:=by
 show(w.heap.push o)[b]?=_
 grind
theorem aaO{w:World}{o:Obj}:(w.alloc o).heap[w.heap.size]?=some o:=by
 show(w.heap.push o)[w.heap.size]?=_
 grind
theorem Rel.alloc(R:Rel c9 nt φ S env J n a w)(o:Obj):Rel c9 nt φ S env J n a (w.alloc o):=
 R.world (λ_=>False) rfl rfl rfl (by simp) (λb al _=>aqe al) (λ_ h=>h.elim)
theorem Rel.anT(R:Rel c9 nt φ S env J n a w)(o:Obj):N7 w S (w.alloc o) S:=
 ⟨λ_ _ h=>h,λb j h=>acM (aqe (R.h'.st b j h)) j⟩
theorem Rel.aKX(R:Rel c9 nt φ S env J n a w)(hk:n key=false){cs:List C}{vs:List Value}(oj:f' (ho φ w S) cs vs)(al:cs.all (C.c' n)=true)(E:TypeId):
 Rel c9 nt (M7 φ key (w.heap.size,1)) S env (vc J key (.box cs)) (ins n key) a (w.alloc (.cells vs.toArray E)):=by
 have m:=R.anT (.cells vs.toArray E);refine(R.alloc _).Ut hk (w.heap.size,1) al ?_ ?_
 . simp only[r2,ze];refine⟨by simp,vs,E,aaO,oj.imp λc v b7 ar=>ho.mono m (λb h=>av9 hk h) (by simp only[r0]at al;exact al c b7) ar,λj h=>?_⟩;have:=R.h'.st _ _ h;simp at this
 . intro _;refine⟨λk y bJ h0=>?_,.inr R.ext.size⟩;have:=(R.h'.blk k y bJ).Vq h0;simp;omega
theorem ahn{ty:TypeId}{cs:List C}(h:Ww P ty=some cs):∃i z,P.info? ty=some i/\i.zero=some z/\f' (ho φ w S) cs z.cells.toList/\cs.all (C.c' n)=true:=by
 simp only[Ww,hC]at h;obtain⟨i,ay,z,ga,cv⟩:=h;have:=auH (φ:=φ) (w:=w) (S:=S) (n:=n) cv
 grind
theorem aDM (R:Rel c9 nt φ S env J n a w) {o:Oper} {ty:TypeId} (c8:o.op= .alloc ty) {cs:List C} (ga:Ww P ty=some cs)
 {p v J'} (hk:n key=false) (h:ep (.alloc cs) env J key=some (p,v,J')) (bo:p):Good P c9 nt env J' (ins n key) a v ((execOp a.eval o).run P w):=by
 simp only[ep,hQ,hO]at h;obtain⟨rfl,rfl,rfl⟩:=h;obtain⟨i,z,ay,ga,oj,al⟩:=ahn (φ:=φ) (w:=w) (S:=S) (n:=n) ga;have R':=R.aKX hk oj al ty;refine⟨.pointer (some ⟨w.heap.size,0,none⟩),_,S,_,.inl ?_,.c ?_,by simp[V.c',C.c',ins],R'⟩
 . simp[execOp,c8,Instr.alloc,zeroValue,typeInfo,ay,ga,newVar,newRow]
 . simp[ho,ze]
theorem aUR (R:Rel c9 nt φ S env J n a w) {o:Oper} {ty:TypeId} {x:Operand} (c8:o.op= .box ty x) {hD:er} (ad:hT x=some hD)
 {p v J'} (hk:n key=false) (h:ep (.box hD) env J key=some (p,v,J')) (bo:p):Good P c9 nt env J' (ins n key) a v ((execOp a.eval o).run P w):=by
 simp only[ep,hC,gC,hO]at h;obtain⟨⟨KT,K4⟩,k3,cs,y1,rfl,rfl,rfl⟩:=h;have b9:=ni R ad k3 bo;obtain⟨oj,al⟩:=ZI b9.1 y1 b9.2;have R':=R.aKX hk oj al ty;refine⟨.pointer (some ⟨w.heap.size,0,none⟩),_,S,_,.inl ?_,.c ?_,by simp[V.c',C.c',ins],R'⟩
 . simp[execOp,c8,Instr.box,newVar,newRow]
 . simp[ho,ze]
end
section
variable {P:Program} {c9:Ctx} {nt:Nat} {φ:vt} {S:y0} {env:Env} {J:fu} {n:Nat->Bool} {key:Nat} {a:Act} {w:World}
def QJ{α:Type}(vs:List α)(off:Nat)(xs:List α):List α:=vs.take off++xs++vs.drop (off+xs.length)
theorem YB{α:Type}{vs:List α}{off:Nat}{xs:List α}(h:off+xs.length <=vs.length)(k:Nat):
 (QJ vs off xs)[k]?=if k < off then vs[k]? else if k < off+xs.length then xs[k - off]? else vs[k]?:=by
 unfold QJ;rw[SY];by_cases h1:k < off
 . rw[ao h1,aag (by simp;omega),Xn,ao h1]
 . rw[aJ h1,adU (by simp;omega)];have e:(vs.take off).length=off:=by simp;omega
   rw[e];by_cases ah:k < off+xs.length
   . rw[ao ah,aag (by omega)]
   . rw[aJ ah,adU (by omega),adY]
     congr 1;omega
theorem aaS{α:Type}{vs:List α}{off:Nat}{xs:List α}(h:off+xs.length<=vs.length):(QJ vs off xs).length=vs.length:=by
 simp[QJ];omega
theorem aE7{α:Type}{vs:List α}{off:Nat}{x:α}{xs:List α}(h:off+(x::xs).length<=vs.length):QJ (vs.set off x) (off+1) xs=QJ vs off (x::xs):=by
 apply an0;intro k;simp at h;rw[YB (by simp;omega),YB (by simp;omega)]
 grind
theorem aEe{w:World}{b:Nat}{vs:List Value}{E:TypeId}(h:w.heap[b]?=some (.cells vs.toArray E (0,0)))(off:Nat)(v:Value):
 (w.setCell ⟨b,off,none⟩ v).heap[b]?=some (.cells (vs.set off v).toArray E (0,0))/\∀hq,hq≠b->(w.setCell ⟨b,off,none⟩ v).heap[hq]?=w.heap[hq]?:=by
 constructor
 . simp[World.setCell,asj,h]
 . intro hq al;simp[World.setCell,asj,EI al]
theorem ZH{b:Nat}{E:TypeId}:∀(xs:List Value) (off i:Nat) (vs:List Value) (w:World),w.heap[b]?=some (.cells vs.toArray E (0,0)) -> off+i+xs.length <=vs.length -> (∀x,x∈xs -> x.oneCell'=true) ->
 ∃w',(storeCells ⟨b,off,none⟩ xs i).run P w= .ok () w'/\w'.os=w.os/\w'.tape=w.tape/\w'.output=w.output/\w'.heap.size=w.heap.size/\
  w'.heap[b]?=some (.cells (QJ vs (off+i) xs).toArray E (0,0))/\∀hq:Nat,hq≠b->w'.heap[hq]?=w.heap[hq]?
 | [],off,i,vs,w,h,a6,c8=>⟨w,rfl,rfl,rfl,rfl,rfl,by simp[QJ,h],λ_ _=>rfl⟩
 | x::xs,off,i,vs,w,h,a6,c8=>by
  have Qk:Addr.add ⟨b,off,none⟩ i=⟨b,off+i,none⟩:=by unfold Addr.add;split <;> simp_all
  have ec:off+i < vs.length:=by simp at a6;omega
  have b7:w.cell? ⟨b,off+i,none⟩=some vs[off+i]:=by rw[Tn h];exact J9 ec
  have cJ:w.frozen? ⟨b,off+i,none⟩=false:=by simp[World.frozen?,h]
  have hs:=aEe h (off+i) x;obtain⟨w',h1,ah,b',ea,hf,tJ,M1⟩:=ZH xs off (i+1) (vs.set (off+i) x) (w.setCell ⟨b,off+i,none⟩ x) hs.1 (by simp at a6 ⊢;omega) (λy bJ=>c8 y (by simp[bJ]));refine⟨w',?_,ah,b',ea,by rw[hf];simp,?_,λhq al=>(M1 hq al).trans (hs.2 hq al)⟩
  . simp only[storeCells,Sem.run_bind,Qk,run_store P w _ x _ (c8 x (by simp)),b7,cJ];simp_all
  . rw[tJ,<-aE7 (by simp at a6 ⊢;omega)]
    congr 3
theorem f'.fill{α β:Type}{R:α->β->Prop}{cs ds:List α}{vs xs:List β}(h:f' R cs vs)(k:f' R ds xs)(o:Nat):f' R (cs.take o++ds++cs.drop (o+ds.length)) (QJ vs o xs):=by
 unfold QJ;rw[k.length];exact((h.take o).append k).append (h.drop _)
theorem awu{cs:List C}{xs:List Value}(h:f' (ho φ w S) cs xs):∀x,x∈xs->x.oneCell'=true:=by
 induction h with
 | nil=>simp
 | cons h _ ih=>
  intro x ad;rcases LJ.1 ad with rfl | ad
  . exact ho.S1 h
  grind
theorem k'.undef :k' φ w S (.gJ []) undef:= .gJ [] [] rfl (by simp)
theorem afq :∀{cs:List C} {ts:List T} {xs:List Value},toTs cs=some ts->f' (ho φ w S) cs xs->f' (k1 w S) ts xs
 | [],ts,xs,h,ch=>by simp[toTs]at h;subst h;cases ch;exact .nil
 | c::cs,ts,xs,h,ch=>by
  simp only[toTs,hC,gC]at h;obtain⟨t,ht,azW,M4,rfl⟩:=h;cases ch with
  | cons h1 ah=>
   refine .cons ?_ (afq M4 ah);unfold toT at ht;split at ht <;> simp at ht
   . subst ht;exact h1
   . subst ht;obtain⟨a,rfl⟩:=h1;exact k1.slice [] a 0 0 0 0 (λ_ _=>undef) (by simp) (by simp) (by simp) (by simp) (by simp) (by simp)
theorem akF :∀{cs:List C} {ts:List T},toTs cs=some ts->ts.length=cs.length
 | [],ts,h=>by simp[toTs]at h;subst h;rfl
 | c::cs,ts,h=>by
  simp only[toTs,hC,gC]at h;obtain⟨t,ht,azW,M4,rfl⟩:=h;simp[akF M4]
theorem awa{n:Nat->Bool}{cs ds:List C}(h:cs.all (C.c' n)=true)(k:ds.all (C.c' n)=true)(o:Nat):(abE cs o ds).all (C.c' n)=true:=by
 simp only[r0]at h k ⊢;intro x ad;simp only[abE,Nw]at ad
 grind
theorem ahW{α:Type}{vs:List α}{p:Nat}{x:α}(h:p < vs.length)(q:Nat):(QJ vs (p+0) [x])[q]?=if q=p then some x else vs[q]?:=by
 rw[Yf,YB (by simp;omega)];by_cases hN:q=p
 . subst hN;simp
 . rw[aJ hN];by_cases hR:q < p
   . rw[ao hR]
   . rw[aJ hR,aJ (by simp;omega)]
theorem alL{sz i j ny Vh:Nat}(c7:j < sz)(SN:Vh < sz)(h:i*sz+j=ny*sz+Vh):i=ny/\j=Vh:=by
 rcases ay3 i ny with c | c | c
 . have:=K0 sz (show i+1<=ny from c);rw[NJ]at this;omega
 . subst c;exact⟨rfl,by omega⟩
 . have:=K0 sz (show ny+1<=i from c);rw[NJ]at this;omega
theorem Rel.rewrite (R:Rel c9 nt φ S env J n a w) {b:Nat} {x jb:h2} (l1:e1 J b=some x) (h0:(φ b).2≠0) (Ly:jb.c' n=true) {w':World}
 (ayg:w'.os=w.os) (ht:w'.tape=w.tape) (c8:w'.output=w.output) (hs:w'.heap.size=w.heap.size) (al:∀hq:Nat,hq≠(φ b).1->w'.heap[hq]?=w.heap[hq]?)
 (JG:N7 w S w' S->r2 φ w' S b jb):Rel c9 nt φ S env (vc J b jb) n a w':=by
 have hblk:=R.h'.blk b x l1
 have k2:=(R.del b).world (w':=w') (λk=>k=(φ b).1) ayg ht c8 (ajl hs.symm) (λk _ hk=>al k hk) (λk hk=>by
  subst hk;refine⟨hblk.ab2 h0,λk y bJ hk=>?_,R.own b x l1 h0⟩;rw[Nb]at bJ;split at bJ
  . cases bJ
  . rename_i hG
    exactλe=>R.h'.inj k b y x bJ l1 (EI hG) hk h0 e)
 have m:N7 w S w' S:=⟨λ_ _ h=>h,λk j h=>acM (al k (λe=>hblk.ab2 h0 j (e▸h))) j⟩
 have C0:=k2.put (b:=b) (x:=jb) (R.HJ b x l1).1 Ly (JG m) (λ_=>⟨λk y bJ hG hk=>by
  rw[Nb]at bJ;split at bJ
  . cases bJ
  . exact R.h'.inj k b y x bJ l1 hG hk h0,R.own b x l1 h0⟩)
 refine C0.congr λk=>?_
 rw[q6,q6,Nb];split <;> rfl
theorem aS' (R:Rel c9 nt φ S env J n a w) {o:Oper} {ty:TypeId} {x y:Operand} (c8:o.op= .store ty x y) {k:Nat} (Pe:JR P ty=some k) {hD Ja:er} (ad:hT x=some hD) (bJ:hT y=some Ja)
 {p v J'} (hk:n key=false) (h:ep (.store k hD Ja) env J key=some (p,v,J')) (bo:p):Good P c9 nt env J' (ins n key) a v ((execOp a.eval o).run P w):=by
 simp only [ep, hC, A'] at h;obtain ⟨⟨KT, K4⟩, k3, ⟨Yh, Yk⟩, M3, cs, y1, hlen, he⟩ := h;simp only at he y1;have C' : ∀ (blk off : Nat) (xs : List Value) (w' : World), a.eval x = .pointer (some ⟨blk, off, none⟩) -> (a.eval y).cells.toList = xs -> xs.length = k -> (storeCells ⟨blk, off, none⟩ xs 0).run P w = .ok () w' ->
  (execOp a.eval o).run P w= .ok .skip w':=by
  intro blk off xs w' h1 ah b' ea;have hf:(a.eval y).cells.size=k:=by rw[<-b',<-ah];simp
  simp[execOp,c8,Instr.storeAt,Instr.sureAddr,h1,storeVar,UI Pe,hf,ah,ea]
 split at he
 . rename_i b q1;split at he
   . rename_i ds l1;simp only[A',hQ,hO]at he;obtain⟨hle,rfl,rfl,rfl⟩:=he;have h1:=(ni R ad k3 bo.1).1.PZ;have TF:=ni R bJ M3 bo.2;obtain⟨oj,al⟩:=ZI TF.1 y1 TF.2;obtain⟨h0,vs,E,ai,V7,JP⟩:=R.h'.blk _ _ l1;have PU:=V7.length
     have TL:(a.eval y).cells.toList.length=k:=by rw[<-oj.length,hlen]
     obtain⟨w',ar,hg,hv,h3,oo,u2,s3⟩:=ZH (P:=P) _ q1 0 vs w ai (by omega) (awu oj);refine⟨undef,φ,S,w',.inr ⟨C' _ _ _ w' h1 rfl TL ar,rfl⟩,.undef,rfl,Rel.more ?_ λ_ h=>VP h⟩;refine R.rewrite l1 h0 (by simpa[h2.c']using awa ((R.HJ _ _ l1).2) al q1) hg hv h3 oo s3 (λm=>?_);refine⟨h0,_,E,u2,?_,JP⟩;rw[Yf]
     exact(V7.imp λc v b7 ar=>ho.mono m (λ_ _=>rfl) (r0.1 (R.HJ _ _ l1).2 c b7) ar).fill (oj.imp λc v b7 ar=>ho.mono m (λ_ _=>rfl) (r0.1 al c b7) ar) q1
   . rename_i E MH l1;split at he
     . rename_i c;simp only[hQ,hO]at he;obtain⟨rfl,rfl,rfl⟩:=he;have h1:=(ni R ad k3 bo.1).1.PZ;have TF:=ni R bJ M3 bo.2;obtain⟨oj,al⟩:=ZI TF.1 y1 TF.2;obtain⟨h0,⟨agE,Zo,ai,aym,aiW⟩,JP⟩:=R.h'.blk _ _ l1;have TL:(a.eval y).cells.toList.length=k:=by rw[<-oj.length,hlen]
       have Oy:k=1:=by rw[<-hlen];rfl
       obtain⟨S9,LU⟩:∃S9,(a.eval y).cells.toList=[S9]:=by
        match h:(a.eval y).cells.toList with
        | [S9]=>exact⟨S9,rfl⟩
        | []=>rw[h]at TL;simp at TL;omega
        | _::_::_=>rw[h]at TL;simp at TL;omega
       obtain⟨w',ar,hg,hv,h3,oo,u2,s3⟩:=ZH (P:=P) (a.eval y).cells.toList 1 0 [agE,Zo] w (b:=(φ b).1) (E:=E) ai (by rw[LU];simp) (awu oj);rw[LU]at oj u2;cases oj with | cons V6 _=>
       have NW:c.c' n=true:=by simpa using al
       refine⟨undef,φ,S,w',.inr ⟨C' _ _ _ w' h1 rfl TL ar,rfl⟩,.undef,rfl,Rel.more ?_ λ_ h=>VP h⟩;refine R.rewrite l1 h0 (by simpa[h2.c']using NW) hg hv h3 oo s3 (λm=>?_);exact⟨h0,⟨agE,S9,u2,aym,ho.mono m (λ_ _=>rfl) NW V6⟩,JP⟩
     . cases he
   . cases he
 . rename_i b sz i q1;have azg:∀{c:C} {xs:List Value},f' (ho φ w S) [c] xs->∃x,xs=[x]/\ho φ w S c x:=by
    intro c xs h;cases h with | cons h1 ah=>cases ah;exact⟨_,rfl,h1⟩
   split at he
   . rename_i lJ es l1;split at he
     . rename_i c arU;have V6:cs=[c]:=by
        unfold aoh at arU;split at arU <;> cases arU
        rfl
       subst V6;simp only[hQ,hO]at he;obtain⟨rfl,rfl,rfl⟩:=he;obtain⟨Jk,E',rfl,ay,Np⟩:=bo;have h1:=(ni R ad k3 Jk).1.SH;have TF:=ni R bJ M3 E';obtain⟨oj,al⟩:=ZI TF.1 y1 TF.2;have Oy:k=1:=by rw[<-hlen];rfl
       obtain⟨S9,LU,Xj⟩:=azg oj;have Rj:=R.h'.blk _ _ l1;obtain⟨h0,vs,E,xs,ai,a6,O9,TL,amU,x',hle⟩:=axa Rj ay;obtain⟨g1,g2,g3,g4,g5⟩:=Rj;obtain⟨Xx,ajY,adA,L1,ayu,JP⟩:=g5 h0;rw[ai]at adA;cases adA;rw[NJ]at hle;have yb:i*sz+q1 < vs.length:=by omega
       obtain⟨w',ar,hg,hv,h3,oo,u2,s3⟩:=ZH (P:=P) [S9] (i*sz+q1) 0 vs w ai (by simp;omega) (λx ad=>by rw[aje.1 ad];exact ho.S1 Xj);refine⟨undef,φ,S,w',.inr ⟨C' _ _ _ w' h1 LU (by simp[Oy]) ar,rfl⟩,.undef,rfl,Rel.more ?_ λ_ h=>VP h⟩;have NW:c.c' n=true:=by simpa using al
       refine R.rewrite l1 h0 (by simpa[h2.c']using NW) hg hv h3 oo s3 (λm=>?_);refine⟨⟨g1,g2,g3,g4,ay,by omega⟩,⟨_,E,u2,by rw[aaS (by simp;omega)];exact a6,λny j e t he ht hG=>?_,S9,?_,ho.mono m (λ_ _=>rfl) NW Xj⟩,JP⟩
       . obtain⟨v,cv,ar⟩:=ayu _ _ _ _ he ht;have Y5:j < sz:=by rw[<-g3 _ (JX he)];exact(sb.1 ht).1
         rw[ahW yb,aJ (λe=>hG (alL Y5 (by omega) e))];exact⟨v,cv,k1.mono m ar⟩
       . rw[ahW yb,ao rfl]
     rename_i arU;simp only[hC,hQ,hO]at he;obtain⟨ts,M4,rfl,rfl,rfl⟩:=he;obtain⟨Jk,E',rfl,ay,Np⟩:=bo;have h1:=(ni R ad k3 Jk).1.SH;have TF:=ni R bJ M3 E';obtain⟨oj,al⟩:=ZI TF.1 y1 TF.2;have Y9:=afq M4 oj;have a0B:=akF M4;have Rj:=R.h'.blk _ _ l1
     obtain⟨h0,vs,E,xs,ai,a6,O9,TL,amU,x',hle⟩:=axa Rj ay;obtain⟨g1,g2,g3,g4,g5⟩:=Rj;obtain⟨Xx,ajY,adA,L1,ayu,JP⟩:=g5 h0;rw[ai]at adA;cases adA;rw[NJ]at hle;have L8:(a.eval y).cells.toList.length=k:=by rw[<-oj.length,hlen]
     obtain⟨w',ar,hg,hv,h3,oo,u2,s3⟩:=ZH (P:=P) _ (i*sz+q1) 0 vs w ai (by omega) (awu oj);have af6:(storeCells ⟨(φ b).1,i*sz+q1,none⟩ (a.eval y).cells.toList 0).run P w= .ok () w':=ar;refine⟨undef,φ,S,w',.inr ⟨C' _ _ _ w' h1 rfl L8 af6,rfl⟩,.undef,rfl,Rel.more ?_ λ_ h=>VP h⟩;refine R.rewrite l1 h0 rfl hg hv h3 oo s3 (λm=>?_)
     refine⟨by simpa using g1,by simpa using g2,?_,g4,λ_=>⟨_,E,u2,by rw[aaS (by omega)];exact a6,?_,JP⟩⟩
     . intro e he;rcases agv he with he | rfl
       . exact g3 e he
       . simp;omega
     . intro ny j e t he ht;rw[Yf,YB (by omega)];rw[asp]at he;by_cases Va:i=ny
       . subst Va;rw[ao rfl,ao ay]at he;cases he;have TG:=(sb.1 ht).1;simp at TG;have Y5:j < sz:=by omega
         have L0:=(YB (vs:=el es i) (off:=q1) (xs:=ts) (by omega) j)
         unfold QJ at L0;rw[show q1+ts.length=q1+k by omega]at L0;rw[L0]at ht;by_cases hN:j < q1
         . rw[ao hN]at ht;rw[ao (by omega),x' j Y5];obtain⟨v,cv,ar⟩:=amU.get ht;exact⟨v,cv,k1.mono m ar⟩
         . rw[aJ hN]at ht;rw[aJ (by omega)];by_cases hR:j < q1+k
           . rw[ao (by omega)]at ht;rw[ao (by omega),show i*sz+j - (i*sz+q1)=j - q1 by omega];obtain⟨v,cv,ar⟩:=Y9.get ht;exact⟨v,cv,k1.mono m ar⟩
           . rw[aJ (by omega)]at ht;rw[aJ (by omega),x' j Y5];obtain⟨v,cv,ar⟩:=amU.get ht;exact⟨v,cv,k1.mono m ar⟩
       . rw[aJ Va]at he;obtain⟨v,cv,ar⟩:=ayu _ _ _ _ he ht;have Y5:j < sz:=by rw[<-g3 _ (JX he)];exact(sb.1 ht).1
         have:ny*sz+j < i*sz+q1\/i*sz+q1+k<=ny*sz+j:=by
          rcases Nat.lt_or_gt_of_ne Va with h | h
          . right;have:=K0 sz (show i+1<=ny from h)
            grind
          . left;have:=K0 sz (show ny+1<=i from h)
            grind
         rcases this with h | h
         . rw[ao h];exact⟨v,cv,k1.mono m ar⟩
         . rw[aJ (by omega),aJ (by omega)];exact⟨v,cv,k1.mono m ar⟩
   . rename_i lJ es i2 KZ MH l1;obtain⟨⟨a1,a2,a3,a4,a5,MG⟩,⟨vs,E,b1,b2,k9,amk,Oo,N8⟩,T9⟩:=R.h'.blk _ _ l1;have aJJ:MH.c' n=true:=by simpa[h2.c']using(R.HJ _ _ l1).2
     have h0:(φ b).2≠0:=by omega
     split at he
     . rename_i c;have Oy:k=1:=by rw[<-hlen];rfl
       split at he
       . rename_i LS;subst LS;simp only[hQ,hO]at he;obtain⟨rfl,rfl,rfl⟩:=he;obtain⟨Jk,E',rfl,rfl⟩:=bo;have h1:=(ni R ad k3 Jk).1.SH;have TF:=ni R bJ M3 E';obtain⟨oj,al⟩:=ZI TF.1 y1 TF.2;obtain⟨S9,LU,Xj⟩:=azg oj;have yb:i*sz+q1 < vs.length:=by
          rw[b2];have:=K0 sz (show i+1<=(φ b).2 by omega);rw[NJ]at this;omega
         obtain⟨w',ar,hg,hv,h3,oo,u2,s3⟩:=ZH (P:=P) [S9] (i*sz+q1) 0 vs w b1 (by simp;omega) (λx ad=>by rw[aje.1 ad];exact ho.S1 Xj);refine⟨undef,φ,S,w',.inr ⟨C' _ _ _ w' h1 LU (by simp[Oy]) ar,rfl⟩,.undef,rfl,Rel.more ?_ λ_ h=>VP h⟩;have NW:c.c' n=true:=by simpa using al
         refine R.rewrite l1 h0 (by simpa[h2.c']using NW) hg hv h3 oo s3 (λm=>?_);refine⟨⟨a1,a2,a3,a4,a5,MG⟩,⟨_,E,u2,by rw[aaS (by simp;omega)];exact b2,λny j e t he ht hG=>?_,S9,?_,ho.mono m (λ_ _=>rfl) NW Xj⟩,T9⟩
         . obtain⟨v,cv,ar⟩:=k9 _ _ _ _ he ht hG;have Y5:j < sz:=by rw[<-a3 _ (JX he)];exact(sb.1 ht).1
           rw[ahW yb,aJ (λe=>hG (alL Y5 MG e))];exact⟨v,cv,k1.mono m ar⟩
         . rw[ahW yb,ao rfl]
       . rename_i LS;simp only[hC,hQ,hO]at he;obtain⟨t,am2,rfl,rfl,rfl⟩:=he;obtain⟨Jk,E',rfl,ay,Np⟩:=bo;have h1:=(ni R ad k3 Jk).1.SH;have TF:=ni R bJ M3 E';obtain⟨oj,al⟩:=ZI TF.1 y1 TF.2;obtain⟨S9,LU,Xj⟩:=azg oj;have a0J:k1 w S t S9:=by
          have h1:=afq (cs:=[c]) (ts:=[t]) (xs:=[S9]) (by simp[toTs,am2]) (.cons Xj .nil);cases h1 with | cons h _=>exact h
         have yb:i*sz+q1 < vs.length:=by
          rw[b2];have:=K0 sz (show i+1<=(φ b).2 by omega);rw[NJ]at this;omega
         obtain⟨w',ar,hg,hv,h3,oo,u2,s3⟩:=ZH (P:=P) [S9] (i*sz+q1) 0 vs w b1 (by simp;omega) (λx ad=>by rw[aje.1 ad];exact ho.S1 Xj);refine⟨undef,φ,S,w',.inr ⟨C' _ _ _ w' h1 LU (by simp[Oy]) ar,rfl⟩,.undef,rfl,Rel.more ?_ λ_ h=>VP h⟩;refine R.rewrite l1 h0 (by simpa[h2.c']using aJJ) hg hv h3 oo s3 (λm=>?_)
         have am4:es[i]?=some (el es i):=by unfold el;rw[List.getD,J9 ay];rfl
         have aJQ:(el es i).length=sz:=a3 _ (JX am4);refine⟨⟨by simpa using a1,by simpa using a2,λe he=>?_,a4,by simpa using a5,MG⟩,⟨_,E,u2,by rw[aaS (by simp;omega)];exact b2,λny j e Lq he ht hG=>?_,amk,?_,ho.mono m (λ_ _=>rfl) aJJ N8⟩,T9⟩
         . rcases agv he with he | rfl
           . exact a3 e he
           . simp;omega
         . rw[ahW yb];rw[asp]at he;by_cases Va:i=ny
           . subst Va;rw[ao rfl,ao ay]at he;cases he;have L0:=(YB (vs:=el es i) (off:=q1) (xs:=[t]) (by simp;omega) j)
             unfold QJ at L0;rw[show q1+[t].length=q1+k by simp[Oy]]at L0;rw[L0]at ht;by_cases hN:j=q1
             . subst hN;rw[aJ (by omega),ao (by omega),Nat.sub_self]at ht;cases ht;rw[ao rfl];exact⟨S9,rfl,k1.mono m a0J⟩
             . have arN:(el es i)[j]?=some Lq:=by
                by_cases hR:j < q1
                . rwa [ao hR]at ht
                . rwa [aJ hR,aJ (by omega)]at ht
               have Y5:j < sz:=by rw[<-aJQ];exact(sb.1 arN).1
               obtain⟨v,cv,ar⟩:=k9 _ _ _ _ am4 arN hG;rw[aJ (λe=>hN (alL Y5 (by omega) e).2)];exact⟨v,cv,k1.mono m ar⟩
           . rw[aJ Va]at he;obtain⟨v,cv,ar⟩:=k9 _ _ _ _ he ht hG;have Y5:j < sz:=by rw[<-a3 _ (JX he)];exact(sb.1 ht).1
             rw[aJ (λe=>Va (alL Y5 (by omega) e).1.symm)];exact⟨v,cv,k1.mono m ar⟩
         . rw[ahW yb,aJ (λe=>LS (alL MG (by omega) e).2.symm)];exact Oo
     . cases he
   . cases he
 . cases he
end
section
variable {P:Program} {c9:Ctx} {nt:Nat} {φ:vt} {S:y0} {env:Env} {J:fu} {n:Nat->Bool} {key:Nat} {a:Act} {w:World}
theorem aE8 :∀(xs:List Value) (k off:Nat) (cs:Array Value),off+k+xs.length <=cs.size ->
 (((xs.zipIdx k).foldl (λcs (c,j)=>cs.setIfInBounds (off+j) c) cs):Array Value).toList=QJ cs.toList (off+k) xs
 | [],k,off,cs,h=>by simp[QJ]
 | x::xs,k,off,cs,h=>by
  simp at h;rw[List.zipIdx_cons,List.foldl_cons,aE8 xs (k+1) off _ (by simp;omega)];simp only[Array.toList_setIfInBounds];rw[show off+(k+1)=off+k+1 by omega,aE7 (by simp;omega)]
theorem awH{place:Nat -> Option (Nat×Nat)}{cells:Array Value}{i:Nat}{v:Value}{r:List (Nat×Value)}{off sz:Nat}(bo:place i=some (off,sz))(h1:v.cells.size=sz)(ah:off+sz <=cells.size):
 Instr.fill place cells ((i,v)::r)=Instr.fill place (QJ cells.toList off v.cells.toList).toArray r:=by
 simp only[Instr.fill,bo];rw[aJ (by simp[h1];omega)]
 congr 1
 apply Array.ext';have:=aE8 v.cells.toList 0 off cells (by simp;omega);rw[<-Array.foldl_toList];simp only[Array.toList_zipIdx]
 simpa using this
theorem aEf {fs:Array Field} {place:Nat -> Option (Nat×Nat)} (R:Rel c9 nt φ S env J n a w)
 (QQ:∀(j:Nat) f k,fs[j]?=some f->JR P f.type=some k->place j=some (f.offset,k)):
 ∀{parts:List (Nat×Operand)} {ps:List (Nat×Nat×er)} {cs:List C} {vs:List Value} {p:Prop} {ds:List C},ahp P fs parts=some ps->WR env cs ps=some (p,ds)->p->
  f' (ho φ w S) cs vs->cs.all (C.c' n)=true->
  ∃us:List Value,Instr.fill place vs.toArray (parts.map λ(i,x)=>(i,a.eval x))=some us.toArray/\f' (ho φ w S) ds us/\ds.all (C.c' n)=true
 | [],ps,cs,vs,p,ds,JH,al,bo,oj,NV=>by
  simp[ahp]at JH;subst JH;simp[WR]at al;obtain⟨_,rfl⟩:=al;exact⟨vs,by simp[Instr.fill],oj,NV⟩
 | (j,x)::r,ps,cs,vs,p,ds,JH,al,bo,oj,NV=>by
  simp only[ahp,hC,gC]at JH;obtain⟨f,cJ,k,hk,hD,ad,azm,ann,rfl⟩:=JH;simp only[WR,hC,A',gC,hO]at al;obtain⟨⟨q,v⟩,b9,es,JV,⟨h1,ah⟩,⟨ad4,Jq⟩,Oe,rfl,rfl⟩:=al;have LR:=ni R ad b9 bo.1;obtain⟨cv,ai3⟩:=ZI LR.1 JV LR.2
  have a6:=oj.length;have PU:=cv.length;obtain⟨us,b',ea,hf⟩:=aEf R QQ ann Oe bo.2 (vs:=QJ vs f.offset (a.eval x).cells.toList) (by unfold abE;exact oj.fill cv _) (awa NV ai3 _);refine⟨us,?_,ea,hf⟩;simp only[QX];rw[awH (QQ j f k cJ hk) (by rw[<-adX,<-PU,h1]) (by simp;omega)];exact b'
theorem aCP{place:Nat -> Option (Nat×Nat)}{m:Nat}(R:Rel c9 nt φ S env J n a w)(QQ:∀j,place j=some (j*m,m)):
 ∀{parts:List (Nat×Operand)} {ps:List (Nat×Nat×er)} {cs:List C} {vs:List Value} {p:Prop} {ds:List C},ahV m parts=some ps->WR env cs ps=some (p,ds)->p->
  f' (ho φ w S) cs vs->cs.all (C.c' n)=true->
  ∃us:List Value,Instr.fill place vs.toArray (parts.map λ(i,x)=>(i,a.eval x))=some us.toArray/\f' (ho φ w S) ds us/\ds.all (C.c' n)=true
 | [],ps,cs,vs,p,ds,JH,al,bo,oj,NV=>by
  simp[ahV]at JH;subst JH;simp[WR]at al;obtain⟨_,rfl⟩:=al;exact⟨vs,by simp[Instr.fill],oj,NV⟩
 | (j,x)::r,ps,cs,vs,p,ds,JH,al,bo,oj,NV=>by
  simp only[ahV,hC,gC]at JH;obtain⟨hD,ad,azm,ann,rfl⟩:=JH;simp only[WR,hC,A',gC,hO]at al;obtain⟨⟨q,v⟩,b9,es,JV,⟨h1,ah⟩,⟨ad4,Jq⟩,Oe,rfl,rfl⟩:=al;have LR:=ni R ad b9 bo.1;obtain⟨cv,ai3⟩:=ZI LR.1 JV LR.2;have a6:=oj.length
  have PU:=cv.length;obtain⟨us,b',ea,hf⟩:=aCP R QQ ann Oe bo.2 (vs:=QJ vs (j*m) (a.eval x).cells.toList) (by unfold abE;exact oj.fill cv _) (awa NV ai3 _);refine⟨us,?_,ea,hf⟩;simp only[QX];rw[awH (QQ j) (by rw[<-adX,<-PU,h1]) (by simp;omega)];exact b'
theorem aTP{fs:List Field}(h:∀f,f∈fs -> ∃k,JR P f.type=some k):
 ∃ps:List (Nat×Nat),(fs.mapM λf=>do pure (f.offset,<-sizeOf f.type):Sem (List (Nat×Nat))).run P w= .ok ps w/\ps.length=fs.length/\∀(j:Nat) f k,fs[j]?=some f->JR P f.type=some k->ps[j]?=some (f.offset,k):=by
 induction fs with
 | nil=>exact⟨[],by simp,rfl,by simp⟩
 | cons f fs ih=>
  obtain⟨ps,h1,a6,ah⟩:=ih λf cJ=>h f (by simp[cJ])
  obtain⟨k,hk⟩:=h f (by simp);refine⟨(f.offset,k)::ps,?_,by simp[a6],?_⟩
  . rw[List.mapM_cons];simp only[bind_pure_comp]at h1;simp[UI hk,h1]
  . intro j g ka b9 Uj;cases j with
    | zero=>simp at b9;subst b9;rw[hk]at Uj;cases Uj;rfl
    | succ j=>simpa using ah j g ka (by simpa using b9) Uj
theorem aTa (R:Rel c9 nt φ S env J n a w) {o:Oper} {ty:TypeId} {parts:Array (Nat×Operand)} (c8:o.op= .build ty parts) {fs:Array Field} (rJ:P.underlying ty=some (.struct fs)) (Y4:atW P fs=true)
 {z:List C} (ga:Ww P ty=some z) {ps:List (Nat×Nat×er)} (JH:ahp P fs parts.toList=some ps)
 {p v J'} (hk:n key=false) (h:ep (.build z ps) env J key=some (p,v,J')) (bo:p):Good P c9 nt env J' (ins n key) a v ((execOp a.eval o).run P w):=by
 simp only[ep,gC,hO]at h;obtain⟨⟨q,ds⟩,al,rfl,rfl,rfl⟩:=h;obtain⟨i,La,ay,Wb,oj,NV⟩:=ahn (φ:=φ) (w:=w) (S:=S) (n:=n) ga
 obtain⟨pl,QQ,a3C,a0j⟩:=aTP (P:=P) (w:=w) (fs:=fs.toList) (by
  simp only[atW,r0]at Y4;intro f cJ;have:=Y4 f cJ
  exact aob.1 this)
 have ayl:(fs.mapM λf=>do pure (f.offset,<-sizeOf f.type):Sem (Array (Nat×Nat))).run P w= .ok pl.toArray w:=by
  rw[Array.mapM_eq_mapM_toList];simp_all
 obtain⟨us,h1,ah,b'⟩:=aEf (place:=(pl.toArray[·]?)) R (λj f k cJ hk=>by simpa using a0j j f k (by simpa using cJ) hk) JH al bo oj NV;refine Good.pure R (x:= .agg us.toArray) ?_ (.agg ah) (by simpa[V.c']using b');have KR:Instr.fill (λx=>pl.toArray[x]?) La.cells ((parts.map λ(i,x)=>(i,a.eval x)).toList)=some us.toArray:=by simp_all
 simp only[execOp,c8,Instr.build,zeroValue,typeInfo,Sem.run_bind,run_program,Result.andThen_ok,ay,Sem.run_pure,Wb,underlying,rJ,ayl];simp only[bind_pure_comp]at ayl;simp[ayl];simp at KR;rw[KR];simp
theorem aSg (R:Rel c9 nt φ S env J n a w) {o:Oper} {ty:TypeId} {parts:Array (Nat×Operand)} (c8:o.op= .build ty parts) {len:Nat} {e:TypeId} (rJ:P.underlying ty=some (.array len e)) {m:Nat} (hm:JR P e=some m)
 {z:List C} (ga:Ww P ty=some z) {ps:List (Nat×Nat×er)} (JH:ahV m parts.toList=some ps)
 {p v J'} (hk:n key=false) (h:ep (.build z ps) env J key=some (p,v,J')) (bo:p):Good P c9 nt env J' (ins n key) a v ((execOp a.eval o).run P w):=by
 simp only[ep,gC,hO]at h;obtain⟨⟨q,ds⟩,al,rfl,rfl,rfl⟩:=h;obtain⟨i,La,ay,Wb,oj,NV⟩:=ahn (φ:=φ) (w:=w) (S:=S) (n:=n) ga;obtain⟨us,h1,ah,b'⟩:=aCP (place:=λi=>some (i*m,m)) R (λj=>rfl) JH al bo oj NV;refine Good.pure R (x:= .agg us.toArray) ?_ (.agg ah) (by simpa[V.c']using b')
 have KR:Instr.fill (λi=>some (i*m,m)) La.cells ((parts.map λ(i,x)=>(i,a.eval x)).toList)=some us.toArray:=by simp_all
 simp at KR;simp[execOp,c8,Instr.build,zeroValue,typeInfo,ay,Wb,underlying,rJ,UI hm,KR]
def Si(w:World)(S:y0)(sz:Nat)(es:List (List T))(vs:List Value):Prop:=
 ∀(i j:Nat) e t,es[i]?=some e->e[j]?=some t->∃v,vs[i*sz+j]?=some v/\k1 w S t v
theorem auI{sz:Nat}(R:Rel c9 nt φ S env J n a w)(h0:0 < sz):
 ∀{parts:List (Nat×Operand)} {ps:List (Nat×er)} {es:List (List T)} {vs:List Value} {p:Prop} {ds:List (List T)},abd parts=some ps->T0 env sz es ps=some (p,ds)->p->
  (∀e,e∈es->e.length=sz)->vs.length=es.length*sz->Si w S sz es vs->
  ∃us:List Value,Instr.fill (λi=>some (i*sz,sz)) vs.toArray (parts.map λ(i,x)=>(i,a.eval x))=some us.toArray/\(∀e,e∈ds->e.length=sz)/\ds.length=es.length/\us.length=vs.length/\Si w S sz ds us/\(∀u,u∈us->u∈us)
 | [],ps,es,vs,p,ds,JH,al,bo,h6,a6,ar=>by
  simp[abd]at JH;subst JH;simp[T0]at al;obtain⟨_,rfl⟩:=al;exact⟨vs,by simp[Instr.fill],h6,rfl,rfl,ar,λ_ h=>h⟩
 | (i0,x)::r,ps,es,vs,p,ds,JH,al,bo,h6,a6,ar=>by
  simp only[abd,hC,gC]at JH;obtain⟨hD,ad,azm,ann,rfl⟩:=JH;simp only[T0,hC,A',gC,hO]at al;obtain⟨⟨q,v⟩,b9,cs,y1,ts,M4,⟨h1,ah⟩,⟨ad4,Jq⟩,Oe,rfl,rfl⟩:=al;have LR:=ni R ad b9 bo.1;obtain⟨cv,ai3⟩:=ZI LR.1 y1 LR.2;have Y9:=afq M4 cv
  have PU:=Y9.length;have hle:i0*sz+sz<=vs.length:=by
   have:=K0 sz (show i0+1<=es.length from ah)
   grind
  obtain ⟨us, b', ea, hf, tJ, M1, Lu⟩ := auI R h0 ann Oe bo.2 (es := es.set i0 ts) (vs := QJ vs (i0 * sz) (a.eval x).cells.toList) (by
   grind) (by rw[aaS (by omega)];simpa using a6) (by
   intro i j e t he ht;rw[YB (by omega)];rw[asp]at he;by_cases Va:i0=i
   . subst Va;rw[ao rfl,ao ah]at he;cases he;have c7:=(sb.1 ht).1;rw[aJ (by omega),ao (by omega),show i0*sz+j - i0*sz=j by omega];exact Y9.get ht
   . rw[aJ Va]at he;have c7:=(sb.1 ht).1;rw[h6 _ (JX he)]at c7;rcases Nat.lt_or_gt_of_ne Va with h | h
     . have:=K0 sz (show i0+1<=i from h);rw[NJ]at this;rw[aJ (by omega),aJ (by omega)];exact ar _ _ _ _ he ht
     . have:=K0 sz (show i+1<=i0 from h);rw[NJ]at this;rw[ao (by omega)]
       exact ar _ _ _ _ he ht)
  refine⟨us,?_,ea,by simpa using hf,by rw[tJ,aaS (by omega)],M1,λ_ h=>h⟩;simp only[QX];rw[awH (place:=λi=>some (i*sz,sz)) rfl (by rw[<-adX,<-PU,h1]) (by simpa using hle)];exact b'
theorem aDN{z:Array Value}{sz len:Nat}(ga:z.size=sz)(h0:0 < sz)(i j:Nat)(ay:i < len)(c7:j < sz):
 ((Array.range (len*sz)).map (z[· % z.size]!))[i*sz+j]?=z[j]?:=by
 have ec:i*sz+j < len*sz:=by
  have:=K0 sz (show i+1<=len from ay)
  grind
 rw[Array.getElem?_map,Array.getElem?_range,ao ec];simp only[Oh,ga];have:(i*sz+j) % sz=j:=by rw[an5,Nat.add_mul_mod_self_right,aak c7]
 rw[this];have SN:j < z.size:=by omega
 simp[SN]
theorem aCQ {ty:TypeId} {len:Nat} {parts:Array (Nat×Value)} {e:TypeId} (rJ:P.underlying ty=some (.slice e)) {sz:Nat} (h6:JR P e=some sz) {i:TypeInfo} {La:Value} (ay:P.info? e=some i) (Wb:i.zero=some La)
 (h0:sz≠0) (hle:len*sz<=2 ^ 24) {Z:Array Value} (aJD:Z=(Array.range (len*sz)).map (La.cells[· % La.cells.size]!)) {us:List Value} (cJ:Instr.fill (λi=>some (i*sz,sz)) Z parts.toList=some us.toArray):
 (Instr.buildSlice ty len parts).run P w= .ok (.slice (some ⟨w.heap.size,0,none⟩) len len) (w.alloc (.cells us.toArray e)):=by
 have aJ9:¬(len*sz > 2 ^ 24):=by omega
 have QS:∀w,(zeroValue e).run P w= .ok La w:=by intro w;simp[zeroValue,typeInfo,ay,Wb]
 by_cases a6:len*sz=0
 . have aZg:Z=#[]:=by rw[aJD,a6];simp
   subst aZg;have hj:(Array.map (λx=>(#[]:Array Value)[x % (#[]:Array Value).size]!) (Array.range (len*sz)))=#[]:=by rw[a6];simp
   unfold Instr.buildSlice;simp only[Sem.run_bind,run_underlying rJ,Result.andThen_ok,UI h6,aJ aJ9,ao a6,Sem.run_pure,hj,cJ];rfl
 . unfold Instr.buildSlice;subst aJD;simp only[Sem.run_bind,run_underlying rJ,Result.andThen_ok,UI h6,aJ aJ9,aJ a6,Sem.run_pure,QS,cJ];rfl
theorem aRQ (R:Rel c9 nt φ S env J n a w) {o:Oper} {ty:TypeId} {len:Nat} {parts:Array (Nat×Operand)} (c8:o.op= .buildSlice ty len parts) {e:TypeId} (rJ:P.underlying ty=some (.slice e)) {sz:Nat} (h6:JR P e=some sz)
 {z:List C} (ga:Ww P e=some z) {ps:List (Nat×er)} (JH:abd parts.toList=some ps) (h0:sz≠0) (LF:z.length=sz) (hle:len*sz<=2 ^ 24)
 {p v J'} (hk:n key=false) (h:ep (.bslice sz len z ps) env J key=some (p,v,J')) (bo:p):Good P c9 nt env J' (ins n key) a v ((execOp a.eval o).run P w):=by
 simp only[ep,hC,gC,hO]at h;obtain⟨Qw,Wa,⟨q,ds⟩,al,rfl,rfl,rfl⟩:=h;obtain⟨i,La,ay,Wb,oj,NV⟩:=ahn (φ:=φ) (w:=w) (S:=S) (n:=n) ga;have QS:=afq Wa oj;have ayx:La.cells.size=sz:=by rw[<-adX,<-oj.length,LF]
 have adH:0 < sz:=by omega
 have a0N:Qw.length=sz:=by rw[akF Wa,LF]
 obtain ⟨us, h1, ah, b', ea, hf, _⟩ := auI R adH JH al bo (es := List.replicate len Qw) (vs := ((Array.range (len * sz)).map (La.cells[· % La.cells.size]!)).toList) (by
  grind) (by simp) (by
  intro i j e t he ht;have ay:=(sb.1 he).1;simp at ay;have:e=Qw:=by
   have:=JX he;exact ash this
  subst this;have c7:=(sb.1 ht).1;obtain⟨x,ad,ar⟩:=QS.get ht;refine⟨x,?_,ar⟩;rw[ayU,aDN ayx adH i j ay (by omega)]
  simpa using ad)
 simp at b';have ar2:us.length=len*sz:=by rw[ea];simp
 have k2:=R.alloc (.cells us.toArray e);have m:=R.anT (.cells us.toArray e);have hlen:len<=KJ:=by
  have:len<=len*sz:=ayQ len adH;unfold KJ;omega
 have C0:=k2.Ut hk (x:= .arr sz ds) (w.heap.size,len) rfl (by
  simp only[r2,ze];refine⟨by omega,by omega,ah,adH,λ_=>⟨us,e,aaO,ar2,λi j e t he ht=>?_,λj h=>?_⟩⟩
  . obtain⟨v,cv,ar⟩:=hf i j e t he ht;exact⟨v,cv,k1.mono m ar⟩
  . have:=R.h'.st _ _ h
    omega) (λ_=>⟨λk y bJ h0=>by
     have:=(R.h'.blk k y bJ).Vq h0
     simp;omega,.inr R.ext.size⟩)
 refine⟨.slice (some ⟨w.heap.size,0,none⟩) len len,_,S,_,.inl ?_,.c ⟨some ⟨w.heap.size,0,none⟩,by simp[ze],by simp[ze],by simp[ze]⟩,by simp[V.c',C.c',ins],C0⟩;have KR:Instr.fill (λi=>some (i*sz,sz)) ((Array.range (len*sz)).map (La.cells[· % La.cells.size]!)) ((parts.map λ(i,x)=>(i,a.eval x)).toList)=some us.toArray:=by
  rw[Array.toList_map];exact h1
 have ar:=aCQ (P:=P) (w:=w) rJ h6 ay Wb h0 hle rfl KR;simp only[execOp,c8,Sem.run_bind,ar,Result.andThen_ok];rfl
end
section
variable {P:Program} {c9:Ctx} {nt:Nat} {φ:vt} {S:y0} {env:Env} {J:fu} {n:Nat->Bool} {key:Nat} {a:Act} {w:World}
theorem aFZ(adP:Nat):∀(r c:Nat),c<=2*adP+192->Builtin.growBy adP r c<=2*adP+192
 | 0,c,h=>h
 | r+1,c,h=>by
  unfold Builtin.growBy;split
  . exact h
  . exact aFZ adP r _ (by omega)
theorem aDf{adP aoe:Nat}(h:aoe < adP):Builtin.nextslicecap adP aoe<=2*adP+192:=by
 unfold Builtin.nextslicecap;split
 . omega
 . split
   . omega
   . exact aFZ _ _ _ (by omega)
theorem aTb{α:Type}{p:α->Prop}{l m:List α}(h:∀x,x∈l->p x)(k:∀x,x∈m->p x):∀x,x∈l++m->p x:=by grind
def aep(P:Program)(w:World)(S:y0)(sz:Nat)(v:Value)(ys:List (List T))(b:Option Nat):Prop:=
 (Builtin.lenOf v).run P w= .ok ys.length w/\∃xs:List Value,(Builtin.firstCells sz ys.length v).run P w= .ok xs.toArray w/\xs.length=ys.length*sz/\Si w S sz ys xs/\∀x,x∈xs->x.oneCell'=true
theorem aE9{sz k len:Nat}(h0:0 < sz)(hk:k < len*sz):k / sz < len/\k % sz < sz/\(k / sz)*sz+k % sz=k:=
 ⟨Nat.div_lt_of_lt_mul (by rw[ajm];exact hk),an9 _ h0,by rw[ajm];exact Nat.div_add_mod k sz⟩
theorem Si.one{sz:Nat}{ys:List (List T)}{xs:List Value}(h0:0 < sz)(h6:∀e,e∈ys->e.length=sz)(a6:xs.length=ys.length*sz)(h:Si w S sz ys xs):∀x,x∈xs->x.oneCell'=true:=by
 intro x ad;obtain⟨k,hk,aZZ⟩:=OR ad;obtain⟨h1,ah,b'⟩:=aE9 h0 (by rw[<-a6];exact hk);have he:ys[k / sz]?=some ys[k / sz]:=J9 h1;have O9:ys[k / sz].length=sz:=h6 _ (ay6 h1);have ht:(ys[k / sz])[k % sz]?=some (ys[k / sz])[k % sz]:=J9 (by omega);obtain⟨v,cv,ar⟩:=h _ _ _ _ he ht
 rw[b',J9 hk,aZZ]at cv;cases cv;exact k1.S1 ar
theorem akU{b o m:Nat}{xs:List Value}(a6:xs.length=m)(h:∀j,j < m->w.cell? ⟨b,o+j,none⟩=xs[j]?):(loadCells ⟨b,o,none⟩ m).run P w= .ok xs.toArray w:=by
 have:=run_loadCells_list (P:=P) w ⟨b,o,none⟩ xs (λj v c7=>by
  have SN:j < m:=by rw[<-a6];exact(sb.1 c7).1
  rw[<-c7,<-h j SN];unfold Addr.add;split
  . grind
  . rfl)
 grind
theorem aTQ{sz:Nat}(h0:0 < sz){ys:List (List T)}{v:Value}(cv:k1 w S (.slice ys) v)(h6:∀e,e∈ys->e.length=sz):aep P w S sz v ys none:=by
 obtain⟨a,cap,lJ,b,o,f,rfl,SJ,NX,ar0,ch,b7,ar⟩:=k1.Vs cv;refine⟨by simp[Builtin.lenOf],?_⟩;by_cases hG:ys=[]
 . subst hG;refine⟨[],?_,by simp,by intro i j e t he;simp at he,by simp⟩;cases a with
   | none=>simp[Builtin.firstCells]
   | some a=>simp[Builtin.firstCells,loadCells,loadCellsFrom]
 . have agc:lJ=sz:=by
    obtain⟨u1,Rn⟩:=asf ys hG
    grind
   subst agc;rw[ch hG];have ad:((List.range (ys.length*lJ)).map λk=>f (k / lJ) (k % lJ)).length=ys.length*lJ:=by simp
   have Nq:Si w S lJ ys ((List.range (ys.length*lJ)).map λk=>f (k / lJ) (k % lJ)):=by
    intro i j e t he ht;have ay:=(sb.1 he).1;have c7:=(sb.1 ht).1;rw[h6 _ (JX he)]at c7;have ec:i*lJ+j < ys.length*lJ:=by
     have:=K0 lJ (show i+1<=ys.length from ay)
     grind
    refine⟨f i j,?_,ar _ _ _ _ he ht⟩;have eh:(i*lJ+j) / lJ=i:=by rw[an5,Nat.add_mul_div_right _ _ h0,Nat.div_eq_of_lt c7];omega
    have hj:(i*lJ+j) % lJ=j:=by rw[an5,Nat.add_mul_mod_self_right,aak c7]
    grind
   refine⟨_,?_,ad,Nq,Si.one h0 h6 ad Nq⟩;show(loadCells ⟨b,o,none⟩ (ys.length*lJ)).run P w=_;refine akU ad ?_;intro j c7;obtain⟨h1,ah,b'⟩:=aE9 h0 c7
   grind
theorem aTR{sz:Nat}{v:Value}(cv:ho φ w S .ee v):aep P w S sz v [] none:=by
 obtain⟨a,rfl⟩:=cv;refine⟨by simp[Builtin.lenOf],[],?_,by simp,by intro i j e t he;simp at he,by simp⟩;cases a with
 | none=>simp[Builtin.firstCells]
 | some a=>simp[Builtin.firstCells,loadCells,loadCellsFrom]
theorem aF0{sz b:Nat}{ys:List (List T)}{v:Value}(E1:r2 φ w S b (.arr sz ys))(cv:ho φ w S (.arr b sz 0 ys.length) v):aep P w S sz v ys (some b):=by
 obtain⟨a,rfl,ch,hle⟩:=ho.O3 cv;obtain⟨h1,ah,b',ea,hf⟩:=E1;refine⟨by simp[Builtin.lenOf],?_⟩;by_cases h0:(φ b).2=0
 . have:ys=[]:=Uu (by omega);subst this;refine⟨[],?_,by simp,by intro i j e t he;simp at he,by simp⟩;cases a with
   | none=>simp[Builtin.firstCells]
   | some a=>simp[Builtin.firstCells,loadCells,loadCellsFrom]
 . obtain⟨vs,E,ai,a6,ar,_⟩:=hf h0;rw[ch h0];have SO:ys.length*sz<=vs.length:=by rw[a6];exact K0 _ (by omega)
   have ad:(vs.take (ys.length*sz)).length=ys.length*sz:=by simp;omega
   have Nq:Si w S sz ys (vs.take (ys.length*sz)):=by
    intro i j e t he ht;have ay:=(sb.1 he).1;have c7:=(sb.1 ht).1;rw[b' _ (JX he)]at c7;have ec:i*sz+j < ys.length*sz:=by
     have:=K0 sz (show i+1<=ys.length from ay)
     grind
    grind
   refine⟨_,?_,ad,Nq,Si.one ea b' ad Nq⟩;rw[an6];show(loadCells ⟨(φ b).1,0,none⟩ (ys.length*sz)).run P w=_;refine akU ad ?_;intro j c7;rw[NI,Tn ai,Xn,ao c7]
theorem aep.world{sz:Nat}{v:Value}{ys:List (List T)}{b:Option Nat}(h:aep P w S sz v ys b){m:Nat}:∃xs:List Value,xs.length=ys.length*sz/\Si w S sz ys xs/\(∀x,x∈xs->x.oneCell'=true):=by
 obtain⟨_,xs,_,h1,ah,b'⟩:=h;exact⟨xs,h1,ah,b'⟩
theorem aCR(z:Array Value)(m:Nat):(Builtin.zeroCells z m).size=m*z.size:=by simp[Builtin.zeroCells]
theorem aCS {st K' e Wv:TypeId} {i:TypeInfo} {La:Value} (u':P.underlying st=some (.slice e)) (KX:P.underlying K'=some (.slice Wv)) (ay:P.info? e=some i) (ga:i.zero=some La) (adI:La.cells.size=i.size)
 {base:Option Addr} {sl sc Je:Nat} {y:Value} {xs B':List Value} (L8:(Builtin.lenOf y).run P w= .ok Je w)
 (ad:(Builtin.firstCells i.size sl (.slice base sl sc)).run P w.drew= .ok xs.toArray w.drew) (bJ:(Builtin.firstCells i.size Je y).run P w.drew= .ok B'.toArray w.drew)
 (MN:sc < sl+Je) (SJ:(2*(sl+Je)+192)*i.bytes<=Qy) (NX:sl+Je<=KJ) {tt:TypeId}:
 ∃(N1:Nat) (r:List Value),sl+Je<=N1/\r.length=(N1 - (sl+Je))*i.size/\
  (Builtin.append_ #[st,K'] tt #[.slice base sl sc,y]).run P w= .ok (.slice (some ⟨w.heap.size,0,none⟩) (sl+Je) N1) (w.drew.alloc (.cells (xs++B'++r).toArray e)):=by
 have af':∀w,(sizeOf e).run P w= .ok i.size w:=λw=>by simp[sizeOf,typeInfo,ay]
 have abP:∀w,(typeInfo e).run P w= .ok i w:=λw=>by simp[typeInfo,ay]
 have hzero:∀w,(zeroValue e).run P w= .ok La w:=λw=>by simp[zeroValue,abP,ga]
 generalize ani:(Question.appendCap (sl+Je) sc e).cut (w.tape w.drawn (Question.appendCap (sl+Je) sc e))=N1;have aye:sl+Je<=N1:=by rw[<-ani];simp[Question.cut]
 have h1:¬(sl+Je<=sc):=by omega
 have ah:¬(((sl+Je:Nat):Int) > IntKind.i64.max/\(False\/i.bytes=0)):=by intro h;have:=h.1;simp[IntKind.max,IntKind.signed,IntKind.bits]at this;unfold KJ at NX;omega
 have b':¬(Builtin.nextslicecap (sl+Je) sc*i.bytes > 2 ^ 48):=by
  have:=K0 i.bytes (aDf MN);unfold Qy at SJ;omega
 refine⟨N1,(Builtin.zeroCells La.cells (N1 - (sl+Je))).toList,aye,by simp[aCR,adI],?_⟩;have axS:(choose (.appendCap (sl+Je) sc e)).run P w= .ok N1 w.drew:=by rw[run_choose];simp only[Question.forced,q2,uJ,ani];rfl
 have eh:(xs++B'++(Builtin.zeroCells La.cells (N1 - (sl+Je))).toList).toArray=xs.toArray++B'.toArray++Builtin.zeroCells La.cells (N1 - (sl+Je)):=by grind
 rw[eh];unfold Builtin.append_;simp only[asl,aoc,asi,Sem.run_bind,run_underlying u',run_underlying KX,Result.andThen_ok,af',Sem.run_pure,q2,uJ,L8,aJ h1,abP];rw[aJ (by simpa using ah)];simp only[Sem.run_bind,Sem.run_pure,Result.andThen_ok,abP];rw[aJ b']
 simp only[Sem.run_bind,Sem.run_pure,Result.andThen_ok,abP,axS,run_askRoom,ad,bJ,hzero,Uw,qb];simp only[newRow,Sem.run_bind,run_newObj,Result.andThen_ok,Sem.run_pure];rfl
theorem ak4 {st K' e Wv:TypeId} {i:TypeInfo} (u':P.underlying st=some (.slice e)) (KX:P.underlying K'=some (.slice Wv)) (ay:P.info? e=some i)
 {base:Option Addr} {sl sc Je:Nat} {y:Value} {B':List Value} (L8:(Builtin.lenOf y).run P w= .ok Je w) (bJ:(Builtin.firstCells i.size Je y).run P w= .ok B'.toArray w) (MN:sl+Je<=sc) {w':World}
 (hs:∀kc,base=some kc->(storeCells (kc.add (sl*i.size)) B' 0).run P w= .ok () w') (al:base=none->w'=w) {tt:TypeId}:
  (Builtin.append_ #[st,K'] tt #[.slice base sl sc,y]).run P w= .ok (.slice base (sl+Je) sc) w':=by
 have af':∀w,(sizeOf e).run P w= .ok i.size w:=λw=>by simp[sizeOf,typeInfo,ay]
 unfold Builtin.append_;simp only[asl,aoc,asi,Sem.run_bind,run_underlying u',run_underlying KX,Result.andThen_ok,af',Sem.run_pure,q2,uJ,L8,ao MN,bJ,Uw,qb];cases base with
 | none=>rw[al rfl];rfl
 | some kc=>
  simp only[Sem.run_bind,hs kc rfl,Result.andThen_ok];rfl
theorem Si.append {sz:Nat} {es ys:List (List T)} {xs B' r:List Value} (h0:0 < sz) (JV:∀e,e∈es -> e.length=sz) (abW:∀e,e∈ys -> e.length=sz) (ad:xs.length=es.length*sz) (ga:B'.length=ys.length*sz)
 (h1:Si w S sz es xs) (ah:Si w S sz ys B'):Si w S sz (es++ys) (xs++B'++r):=by
 intro i j e t he ht;by_cases ay:i < es.length
 . rw[aag ay]at he;have c7:=(sb.1 ht).1;rw[JV _ (JX he)]at c7;have:=K0 sz (show i+1<=es.length from ay);rw[NJ]at this;rw[SY,aag (by omega)];exact h1 _ _ _ _ he ht
 . rw[adU (by omega)]at he;have c7:=(sb.1 ht).1;rw[abW _ (JX he)]at c7;have aiQ:=(sb.1 he).1;have b':=K0 sz (show es.length<=i by omega);have ea:=K0 sz (show(i - es.length)+1<=ys.length from aiQ)
   have hf:(i - es.length)*sz=i*sz - es.length*sz:=Nat.sub_mul _ _ _;rw[NJ]at ea;rw[SY,adU (by omega),aag (by omega),show i*sz+j - xs.length=(i - es.length)*sz+j by omega];exact ah _ _ _ _ he ht
theorem Rel.drew(R:Rel c9 nt φ S env J n a w):Rel c9 nt φ S env J n a w.drew:=
 R.world (λ_=>False) rfl rfl rfl (JK _) (λ_ _ _=>rfl) (λ_ h=>h.elim)
theorem aqZ (R:Rel c9 nt φ S env J n a w) {y:Operand} {Ja:er} (bJ:hT y=some Ja) {p:Prop} {v:V} (b9:Ja.get env=some (p,v)) (bo:p) {sz:Nat} (h0:0 < sz) {ys:List (List T)×Option Nat}
 (h:Yn J v=some ys) (h6:∀e,e∈ys.1->e.length=sz):aep P w S sz (a.eval y) ys.1 ys.2:=by
 have LR:=(ni R bJ b9 bo).1;unfold Yn at h;split at h
 . cases h;exact aTQ h0 LR.Ji h6
 . cases h;exact aTR LR.Ji
 . split at h
   . rename_i b a2i a36 a3Z _ a4d aMG l1;simp only[A',hQ]at h;obtain⟨⟨h1,rfl,rfl⟩,rfl⟩:=h;subst h1;by_cases hG:aMG=[]
     . subst hG;obtain⟨q',cv,_⟩:=ho.O3 LR.Ji;simp at cv;rw[cv];refine⟨by simp[Builtin.lenOf],[],?_,by simp,by intro i j e t he;simp at he,by simp⟩;cases q' with
       | none=>simp[Builtin.firstCells]
       | some a=>simp[Builtin.firstCells,loadCells,loadCellsFrom]
     . have agc:a2i=sz:=by
        obtain⟨u1,Rn⟩:=asf aMG hG;rw[<-(R.h'.blk _ _ l1).2.2.1 _ Rn,h6 _ Rn]
       subst agc;exact aF0 (R.h'.blk _ _ l1) LR.Ji
   . cases h
 . cases h
theorem aUS{sz b off len:Nat}{es:List (List T)}{v:Value}(E1:r2 φ w S b (.arr sz es))(cv:ho φ w S (.MW b sz off len) v)(yb:off+len<=es.length):aep P w S sz v ((es.drop off).take len) none:=by
 obtain⟨a,cap,rfl,ch,hle⟩:=cv;obtain⟨h1,ah,b',ea,hf⟩:=E1;have L8:((es.drop off).take len).length=len:=by simp;omega
 refine⟨by simp[Builtin.lenOf,L8],?_⟩;rw[L8];by_cases h0:len=0
 . subst h0;refine⟨[],?_,by simp,by intro i j e t he;simp at he,by simp⟩;cases a with
   | none=>simp[Builtin.firstCells]
   | some a=>simp[Builtin.firstCells,loadCells,loadCellsFrom]
 . obtain⟨vs,E,ai,a6,ar,_⟩:=hf (by omega);rw[ch h0];have SO:off*sz+len*sz<=vs.length:=by rw[a6,<-NJ];exact K0 _ (by omega)
   have ad:((vs.drop (off*sz)).take (len*sz)).length=len*sz:=by simp;omega
   have h6:∀e,e∈(es.drop off).take len->e.length=sz:=λe he=>b' e (asn (ab4 he))
   have Nq:Si w S sz ((es.drop off).take len) ((vs.drop (off*sz)).take (len*sz)):=by
    intro i j e t he ht;have ay:i < len:=by have:=(sb.1 he).1;omega
    rw[Xn,ao ay,adY]at he;have c7:=(sb.1 ht).1;rw[b' _ (JX he)]at c7;have ec:i*sz+j < len*sz:=by
     have:=K0 sz (show i+1<=len from ay);rw[NJ]at this;omega
    obtain⟨v,cv,abV⟩:=ar _ _ _ _ he ht;refine⟨v,?_,abV⟩;rw[Xn,ao ec,adY,<-ab8,<-NJ];exact cv
   refine⟨_,?_,ad,Nq,Si.one ea h6 (by rw[L8];exact ad) Nq⟩;show(loadCells ⟨(φ b).1,off*sz,none⟩ (len*sz)).run P w=_;refine akU ad ?_;intro j c7;rw[Tn ai,Xn,ao c7,adY]
theorem aTS (R:Rel c9 nt φ S env J n a w) {o:Oper} {x y:Operand} {st K' e Wv:TypeId} (c8:o.op= .call {callee:= .builtin .append,args:=#[x,y],argTypes:=#[st,K']})
 (u':P.underlying st=some (.slice e)) (KX:P.underlying K'=some (.slice Wv)) {i:TypeInfo} (ay:P.info? e=some i) (PT:i.size≠0)
 {hD Ja:er} (ad:hT x=some hD) (bJ:hT y=some Ja) {KT Yh:Prop} {K4 Yk:V} (k3:hD.get env=some (KT,K4)) (M3:Ja.get env=some (Yh,Yk)) {r}
 {p v J'} (hw:Zq K4 Yk=some r) (hk:n key=false) (h:aii J key i.size KT Yh r=some (p,v,J')) (bo:p):Good P c9 nt env J' (ins n key) a v ((execOp a.eval o).run P w):=by
 have C':∀r w',(Builtin.append_ #[st,K'] o.type #[a.eval x,a.eval y]).run P w= .ok r w'->(execOp a.eval o).run P w= .ok (.value r) w':=by
  intro r w' ar;simp[execOp,c8,Go.resolve,invoke,builtin,ar]
 unfold Zq at hw;split at hw
 . rename_i b s1 off len hq s2 Xq QV;split at hw
   . rename_i Rm;subst Rm;cases hw;unfold aii at h;dsimp only at h;split at h
     . rename_i Wm es l1;simp only[hQ,hO]at h;obtain⟨rfl,rfl,rfl⟩:=h;obtain⟨Jk,E',rfl,rfl,rfl,rfl,Ro,E8⟩:=bo;have LR:=ni R ad k3 Jk;obtain⟨base,LU,axH,hle⟩:=ho.O3 LR.1.Ji;have aZU:=ni R bJ M3 E';have Rj:=R.h'.blk _ _ l1;obtain⟨L8,B',SS,LF,QS,ai7⟩:=aUS (P:=P) Rj aZU.1.Ji E8
       obtain⟨g1,g2,g3,g4,g5⟩:=Rj;have a0L:((es.drop Xq).take QV).length=QV:=by simp;omega
       rw[a0L]at L8 SS LF;rw[Nat.sub_zero]at LU;have MN:len+QV<=(φ b).2:=by omega
       have h0:0 < i.size:=by omega
       have hlen:(es.take len++(es.drop Xq).take QV).length=len+QV:=by simp;omega
       have C3:∀sK,sK∈es.take len++(es.drop Xq).take QV->sK.length=i.size:=by
        intro sK L0;rcases Nw.1 L0 with L0 | L0
        . exact g3 sK (ab4 L0)
        . exact g3 sK (asn (ab4 L0))
       by_cases ri:(φ b).2=0
       . have Ql:len=0:=by omega
         have aZ0:QV=0:=by omega
         subst Ql aZ0;have anI:B'=[]:=Uu (by simpa using LF);subst anI;have ar:=ak4 (tt:=o.type) u' KX ay (base:=base) (sl:=0) (sc:=(φ b).2) L8 SS MN (w':=w) (λkc _=>by simp[storeCells]) (λ_=>rfl);rw[<-LU]at ar
         have R':=(R.del b).Ut hk (x:= .arr i.size (es.take 0++(es.drop Xq).take 0)) (0,0) rfl (by simp only[r2,ze];exact⟨by simp,by simp,by simp,h0,by simp⟩) (by simp);refine⟨_,_,S,w,.inl (C' _ _ ar),.c ?_,by simp[V.c',C.c',ins],R'⟩;exact⟨base,by simp[ze,ri,LU],by simp[ze],by simp[ze]⟩
       . obtain⟨vs,E,ai,PU,abV,JP⟩:=g5 ri;have Rj:=R.h'.blk _ _ l1;have Z':len*i.size+B'.length<=vs.length:=by rw[LF,PU,<-NJ];exact K0 _ MN
         obtain⟨w',Ru,hg,hv,h3,oo,u2,s3⟩:=ZH (P:=P) B' (len*i.size) 0 vs w ai (by omega) ai7;rw[Yf]at u2;have Y1:=axH ri;rw[an6]at Y1
         have ar:=ak4 (tt:=o.type) u' KX ay (base:=base) (sl:=len) (sc:=(φ b).2) L8 SS MN (w':=w') (λkc Xg=>by
          rw[Y1]at Xg;cases Xg;have Qk:Addr.add ⟨(φ b).1,0,none⟩ (len*i.size)=⟨(φ b).1,len*i.size,none⟩:=by unfold Addr.add;split <;> simp_all
          rw[Qk];exact Ru) (λZ8=>by rw[Y1]at Z8;cases Z8)
         rw[<-LU]at ar
         have k2:=(R.del b).world (w':=w') (λk=>k=(φ b).1) hg hv h3 (ajl oo.symm) (λk _ hk=>s3 k hk) (λk hk=>by
          subst hk;refine⟨Rj.ab2 ri,λk y bJ hk=>?_,R.own b _ l1 ri⟩;rw[Nb]at bJ;split at bJ
          . cases bJ
          . rename_i hG
            exactλe=>R.h'.inj k b y _ bJ l1 (EI hG) hk ri e)
         have m:N7 w S w' S:=⟨λ_ _ h=>h,λk j h=>acM (s3 k (λe=>Rj.ab2 ri j (e▸h))) j⟩
         have C0:=k2.Ut hk (x:= .arr i.size (es.take len++(es.drop Xq).take QV)) (φ b) rfl (by
          simp only[r2,ze];refine⟨by rw[hlen];exact MN,by rw[hlen];omega,C3,h0,λ_=>⟨_,E,u2,by rw[aaS Z'];exact PU,λny j e t he ht=>?_,JP⟩⟩;have c7:=(sb.1 ht).1;rw[C3 _ (JX he)]at c7;rw[YB Z',LF];by_cases hN:ny < len
          . have:=K0 i.size (show ny+1<=len from hN);rw[NJ]at this;rw[ao (by omega)];rw[aag (by simp;omega),Xn,ao hN]at he;obtain⟨v,cv,ar⟩:=abV _ _ _ _ he ht;exact⟨v,cv,k1.mono m ar⟩
          . have h1:=K0 i.size (show len<=ny by omega);have hR:ny < len+QV:=by rw[<-hlen];exact(sb.1 he).1
            have:=K0 i.size (show ny+1<=len+QV from hR);rw[NJ,NJ]at this;rw[aJ (by omega),ao (by omega)];have a6:(es.take len).length=len:=by simp;omega
            rw[adU (by omega),a6]at he;have hf:(ny - len)*i.size=ny*i.size - len*i.size:=Nat.sub_mul _ _ _;obtain⟨v,cv,ar⟩:=QS _ _ _ _ he ht;rw[show ny*i.size+j - len*i.size=(ny - len)*i.size+j by omega]
            exact⟨v,cv,k1.mono m ar⟩) (λ_=>⟨λk y bJ hk=>by
            rw[Nb]at bJ;split at bJ
            . cases bJ
            . rename_i hG
              exact R.h'.inj k b y _ bJ l1 (EI hG) hk ri,R.own b _ l1 ri⟩)
         refine⟨_,_,S,w',.inl (C' _ _ ar),.c ?_,by simp[V.c',C.c',ins],C0⟩;exact⟨base,by simp[ze],by simp[ze,Y1],by simp[ze];omega⟩
     . cases h
   . cases hw
 . cases hw
theorem aRR (R:Rel c9 nt φ S env J n a w) {o:Oper} {x y:Operand} {st K' e Wv:TypeId} (c8:o.op= .call {callee:= .builtin .append,args:=#[x,y],argTypes:=#[st,K']})
 (u':P.underlying st=some (.slice e)) (KX:P.underlying K'=some (.slice Wv)) {i:TypeInfo} (ay:P.info? e=some i) (PT:i.size≠0) (ga:(i.zero.map (·.cells.size))=some i.size)
 {hD Ja:er} (ad:hT x=some hD) (bJ:hT y=some Ja)
 {p v J'} (hk:n key=false) (h:ep (.append i.size i.bytes hD Ja) env J key=some (p,v,J')) (bo:p):Good P c9 nt env J' (ins n key) a v ((execOp a.eval o).run P w):=by
 simp only[ep,hC]at h;obtain⟨⟨KT,K4⟩,k3,⟨Yh,Yk⟩,M3,he⟩:=h;dsimp only at he;split at he
 . rename_i r hw;exact aTS R c8 u' KX ay PT ad bJ k3 M3 hw hk he bo
 rename_i hw;simp only[hC]at he;obtain⟨ys,abW,he⟩:=he;simp only[gC]at ga;obtain⟨La,Wb,adI⟩:=ga;have h0:0 < i.size:=by omega
 have C':∀r w',(Builtin.append_ #[st,K'] o.type #[a.eval x,a.eval y]).run P w= .ok r w'->(execOp a.eval o).run P w= .ok (.value r) w':=by
  intro r w' ar;simp[execOp,c8,Go.resolve,invoke,builtin,ar]
 have adD:∀b,w.heap.size<=b->∀j,¬S b j:=λb al j dx=>by have:=R.h'.st _ _ dx;omega
 split at he
 ·
  simp only[hQ,hO]at he;obtain⟨rfl,rfl,rfl⟩:=he;obtain⟨Jk,E',aad,SJ,NX⟩:=bo;obtain⟨base,LU⟩:=(ni R ad k3 Jk).1.Ji;have J7:=aqZ (P:=P) R bJ M3 E' h0 abW aad;by_cases hG:ys.1=[]
  . obtain⟨L8,B',SS,LF,QS,ai7⟩:=J7;rw[hG]at L8 SS LF;have anI:B'=[]:=Uu (by simpa using LF);subst anI;have ar:=ak4 (tt:=o.type) u' KX ay (base:=base) (sl:=0) (sc:=0) L8 SS (by simp) (w':=w) (λkc _=>by simp[storeCells]) (λ_=>rfl);rw[<-LU]at ar
    have R':=R.Ut hk (x:= .arr i.size ys.1) (0,0) rfl (by rw[hG];simp only[r2,ze];exact⟨by simp,by simp,by simp,h0,by simp⟩) (by simp);refine⟨_,_,S,w,.inl (C' _ _ ar),.c ?_,by simp[V.c',C.c',ins],R'⟩;rw[hG];exact⟨base,by simp[ze],by simp[ze],by simp[ze]⟩
  . have k2:=R.drew;obtain⟨L8,_⟩:=J7;obtain⟨_,B',SS,LF,QS,ai7⟩:=aqZ (P:=P) k2 bJ M3 E' h0 abW aad;have Rt:0 < ys.1.length:=agy.2 hG;have ai6:(Builtin.firstCells i.size 0 (.slice base 0 0)).run P w.drew= .ok ([]:List Value).toArray w.drew:=by
     cases base with
     | none=>simp[Builtin.firstCells]
     | some a=>simp[Builtin.firstCells,loadCells,loadCellsFrom]
    obtain⟨N1,r,h1,ah,ar⟩:=aCS (tt:=o.type) u' KX ay Wb adI L8 ai6 SS (by omega) (by simpa using SJ) (by simpa using NX);rw[<-LU]at ar;have C0:=k2.alloc (.cells ([]++B'++r).toArray e);have m:=k2.anT (.cells ([]++B'++r).toArray e)
    have ZY:=C0.Ut hk (x:= .arr i.size ys.1) (w.heap.size,N1) rfl (by
     simp only[r2,ze];refine⟨by omega,NX,aad,h0,λ_=>⟨_,e,aaO,?_,?_,adD _ (JK _)⟩⟩
     . simp only[vx,Qo,LF,ah,NI,<-NJ];congr 1;omega
     . have:=Si.append (S:=S) (w:=w.drew) (r:=r) (es:=[]) (xs:=[]) h0 (by simp) aad (by simp) LF (by intro i j e t he;simp at he) QS;intro ny j sK t he ht;obtain⟨v,cv,ar⟩:=this ny j sK t (by simpa using he) ht
       exact⟨v,cv,k1.mono m ar⟩) (λ_=>⟨λk y bJ h0=>by
        have:=(R.h'.blk k y bJ).Vq h0
        omega,.inr R.ext.size⟩)
    refine⟨_,_,S,_,.inl (C' _ _ ar),.c ?_,by simp[V.c',C.c',ins],ZY⟩;exact⟨some ⟨w.heap.size,0,none⟩,by simp[ze],by simp[ze],by simp[ze];omega⟩
 . rename_i b lJ off len;split at he
   . rename_i aoy es l1;split at he
     . cases he
     . rename_i Rr;simp only[hQ,hO]at he;obtain⟨rfl,rfl,rfl⟩:=he;obtain⟨Jk,E',rfl,rfl,rfl,rfl,aad,SJ,NX⟩:=bo;have LR:=ni R ad k3 Jk;have aY':=LR.1.Ji;obtain⟨base,LU,axH,hle⟩:=ho.O3 aY';have J7:=aqZ (P:=P) R bJ M3 E' h0 abW aad;have Rj:=R.h'.blk _ _ l1;have aY9:=Rj;obtain⟨g1,g2,g3,g4,g5⟩:=aY9
       rw[Nat.sub_zero]at LU;rw[NI]at hle;have aKs:∀sK,sK∈es++ys.1->sK.length=i.size:=aTb g3 aad;by_cases MN:es.length+ys.1.length<=(φ b).2
       . obtain⟨L8,B',SS,LF,QS,ai7⟩:=J7;by_cases ri:(φ b).2=0
         . have Rn:es=[]:=Uu (by omega);have Xk:ys.1=[]:=Uu (by omega);rw[Xk]at L8 SS LF;have anI:B'=[]:=Uu (by simpa using LF);subst anI
           have ar:=ak4 (tt:=o.type) u' KX ay (base:=base) (sl:=es.length) (sc:=(φ b).2) L8 SS (by simp[Rn]) (w':=w) (λkc _=>by simp[storeCells]) (λ_=>rfl);rw[<-LU]at ar;have R':=(R.del b).Ut hk (x:= .arr i.size (es++ys.1)) (0,0) rfl (by rw[Xk,Rn];simp only[r2,ze];exact⟨by simp,by simp,by simp,h0,by simp⟩) (by simp)
           refine⟨_,_,S,w,.inl (C' _ _ ar),.c ?_,by simp[V.c',C.c',ins],R'⟩;rw[Xk,Rn];exact⟨base,by simp[ze,ri],by simp[ze],by simp[ze]⟩
         . obtain⟨vs,E,ai,PU,abV,JP⟩:=g5 ri;have Z':es.length*i.size+B'.length<=vs.length:=by rw[LF,PU,<-NJ];exact K0 _ MN
           obtain⟨w',Ru,hg,hv,h3,oo,u2,s3⟩:=ZH (P:=P) B' (es.length*i.size) 0 vs w ai (by omega) ai7;rw[Yf]at u2;have Y1:=axH ri;rw[an6]at Y1
           have ar:=ak4 (tt:=o.type) u' KX ay (base:=base) (sl:=es.length) (sc:=(φ b).2) L8 SS MN (w':=w') (λkc Xg=>by
            rw[Y1]at Xg;cases Xg;have Qk:Addr.add ⟨(φ b).1,0,none⟩ (es.length*i.size)=⟨(φ b).1,es.length*i.size,none⟩:=by unfold Addr.add;split <;> simp_all
            grind) (λal=>by rw[Y1]at al;cases al)
           rw[<-LU]at ar
           have k2:=(R.del b).world (w':=w') (λk=>k=(φ b).1) hg hv h3 (ajl oo.symm) (λk _ hk=>s3 k hk) (λk hk=>by
            subst hk;refine⟨Rj.ab2 ri,λk y bJ hk=>?_,R.own b _ l1 ri⟩;rw[Nb]at bJ;split at bJ
            . cases bJ
            . rename_i hG
              exactλe=>R.h'.inj k b y _ bJ l1 (EI hG) hk ri e)
           have m:N7 w S w' S:=⟨λ_ _ h=>h,λk j h=>acM (s3 k (λe=>Rj.ab2 ri j (e▸h))) j⟩
           have C0:=k2.Ut hk (x:= .arr i.size (es++ys.1)) (φ b) rfl (by
            simp only[r2,ze];refine⟨by simp;omega,by simp;omega,aKs,h0,λ_=>⟨_,E,u2,by rw[aaS Z'];exact PU,?_,JP⟩⟩;intro ny j sK t he ht;rw[YB Z'];by_cases V8:ny < es.length
            . rw[aag V8]at he;have c7:=(sb.1 ht).1;rw[g3 _ (JX he)]at c7;have:=K0 i.size (show ny+1<=es.length from V8);rw[NJ]at this;rw[ao (by omega)];obtain⟨v,cv,ar⟩:=abV _ _ _ _ he ht;exact⟨v,cv,k1.mono m ar⟩
            . rw[adU (by omega)]at he;have c7:=(sb.1 ht).1;rw[aad _ (JX he)]at c7;have aiQ:=(sb.1 he).1;have b':=K0 i.size (show es.length<=ny by omega);have ea:=K0 i.size (show(ny - es.length)+1<=ys.1.length from aiQ)
              have hf:(ny - es.length)*i.size=ny*i.size - es.length*i.size:=Nat.sub_mul _ _ _;rw[NJ]at ea;rw[aJ (by omega),ao (by omega),show ny*i.size+j - es.length*i.size=(ny - es.length)*i.size+j by omega];obtain⟨v,cv,ar⟩:=QS _ _ _ _ he ht
              exact⟨v,cv,k1.mono m ar⟩) (λ_=>⟨λk y bJ hk=>by
              rw[Nb]at bJ;split at bJ
              . cases bJ
              . rename_i hG
                exact R.h'.inj k b y _ bJ l1 (EI hG) hk ri,R.own b _ l1 ri⟩)
           refine⟨_,_,S,w',.inl (C' _ _ ar),.c ?_,by simp[V.c',C.c',ins],C0⟩;exact⟨base,by simp[ze],by simp[ze,Y1],by simp[ze];omega⟩
       . have k2:=R.drew;obtain⟨L8,_⟩:=J7;obtain⟨_,B',SS,LF,QS,ai7⟩:=aqZ (P:=P) k2 bJ M3 E' h0 abW aad;obtain⟨_,xs,ai6,TL,Xj,_⟩:=aF0 (P:=P) (k2.h'.blk _ _ l1) (ni k2 ad k3 Jk).1.Ji;rw[LU]at ai6;obtain⟨N1,r,h1,ah,ar⟩:=aCS (tt:=o.type) u' KX ay Wb adI L8 ai6 SS (by omega) SJ NX;rw[<-LU]at ar
         have C0:=(k2.del b).alloc (.cells (xs++B'++r).toArray e);have m:=k2.anT (.cells (xs++B'++r).toArray e)
         have ZY:=C0.Ut hk (x:= .arr i.size (es++ys.1)) (w.heap.size,N1) rfl (by
          simp only[r2,ze];refine⟨by simp;omega,by simp;omega,aKs,h0,λ_=>⟨_,e,aaO,?_,?_,adD _ (JK _)⟩⟩
          . simp only[vx,TL,LF,ah,<-NJ];congr 1;omega
          . have:=Si.append (S:=S) (w:=w.drew) (r:=r) h0 g3 aad TL LF Xj QS;intro ny j sK t he ht;obtain⟨v,cv,ar⟩:=this ny j sK t he ht
            exact⟨v,cv,k1.mono m ar⟩) (λ_=>⟨λk y bJ h0=>by
             rw[Nb]at bJ;split at bJ
             . cases bJ
             . have:=(R.h'.blk k y bJ).Vq h0
               omega,.inr R.ext.size⟩)
         refine⟨_,_,S,_,.inl (C' _ _ ar),.c ?_,by simp[V.c',C.c',ins],ZY⟩;exact⟨some ⟨w.heap.size,0,none⟩,by simp[ze],by simp[ze],by simp[ze];omega⟩
   . cases he
 . cases he
end
section
variable {P:Program} {c9:Ctx} {nt:Nat} {φ:vt} {S:y0} {env:Env} {J:fu} {n:Nat->Bool} {key:Nat} {a:Act} {w:World}
theorem aRk{R:T->Value->Prop}:∀{ts:List T} {vs:List Value},f' R ts vs->∀(i j:Nat) e t,(ts.map λt=>[t])[i]?=some e->e[j]?=some t->∃v,vs[i*1+j]?=some v/\R t v:=by
 intro ts vs h i j e t he ht;rw[aai,gC]at he;obtain⟨t0,h0,rfl⟩:=he;cases j with
 | zero=>
  simp at ht;subst ht;obtain⟨v,cv,ar⟩:=h.get h0
  grind
 | succ j=>simp at ht
theorem aRl (R:Rel c9 nt φ S env J n a w) {o:Oper} {ty:TypeId} (c8:o.op= .alloc ty) {cs:List C} (ga:Ww P ty=some cs) (a3y:cs.length≠0) (hle:cs.length <=2 ^ 24)
 {p v J'} (hk:n key=false) (h:ep (.allocA cs) env J key=some (p,v,J')) (bo:p):Good P c9 nt env J' (ins n key) a v ((execOp a.eval o).run P w):=by
 simp only[ep,gC,hO]at h;obtain⟨ts,M4,rfl,rfl,rfl⟩:=h;obtain⟨i,z,ay,ga,oj,al⟩:=ahn (φ:=φ) (w:=w) (S:=S) (n:=n) ga;have QS:=afq M4 oj;have a0B:=akF M4;have k2:=R.alloc (.cells z.cells.toList.toArray ty);have m:=R.anT (.cells z.cells.toList.toArray ty);have ar2:z.cells.toList.length=cs.length:=oj.length.symm
 have C0:=k2.Ut hk (x:= .arr 1 (ts.map λt=>[t])) (w.heap.size,cs.length) rfl (by
  simp only[r2,ze,SZ];refine⟨by omega,by unfold KJ;omega,?_,by omega,λ_=>⟨z.cells.toList,ty,aaO,by omega,λi j e t he ht=>?_,λj h=>?_⟩⟩
  . grind
  . obtain⟨v,cv,ar⟩:=aRk QS i j e t he ht;exact⟨v,cv,k1.mono m ar⟩
  . have:=R.h'.st _ _ h
    omega) (λ_=>⟨λk y bJ h0=>by
     have:=(R.h'.blk k y bJ).Vq h0
     simp;omega,.inr R.ext.size⟩)
 refine⟨.pointer (some ⟨w.heap.size,0,none⟩),_,S,_,.inl ?_,.c ?_,by simp[V.c',C.c',ins],C0⟩
 . simp[execOp,c8,Instr.alloc,zeroValue,typeInfo,ay,ga,newVar,newRow]
 . simp[ho,ze]
theorem aTT (R:Rel c9 nt φ S env J n a w) {o:Oper} {ty:TypeId} {x i:Operand} (c8:o.op= .indexAddr ty x i) {k:Nat} {e:TypeId} (rJ:P.underlying ty=some (.array k e)) (h6:JR P e=some 1)
 {hD WX:er} (ad:hT x=some hD) (ay:hT i=some WX)
 {p v J'} (hk:n key=false) (h:ep (.idxP k hD WX) env J key=some (p,v,J')) (bo:p):Good P c9 nt env J' (ins n key) a v ((execOp a.eval o).run P w):=by
 simp only[ep,hC]at h;obtain⟨⟨KT,K4⟩,k3,⟨pi,aMx⟩,X6,he⟩:=h;simp only at he;split at he
 . rename_i b kk m;simp only[hQ,hO]at he;obtain⟨rfl,rfl,rfl⟩:=he;obtain⟨Jk,E',V',aaa⟩:=bo;have b9:=ni R ad k3 Jk;have h1:=b9.1.PZ;have ah:=(ni R ay X6 E').1.NY;have Qk:(Addr.add ⟨(φ b).1,0,none⟩ (m.toNat*1):Addr)=⟨(φ b).1,m.toNat*1+0,none⟩:=by
    unfold Addr.add;split
    . grind
    . simp
   refine Good.pure R (x:= .pointer (some ⟨(φ b).1,m.toNat*1+0,none⟩)) ?_ (.c ?_) (by simpa[V.c',C.c']using b9.2)
   . have O8:0<=m/\m < (k:Int):=⟨V',by omega⟩
     simp only[execOp,c8,h1,ah,Instr.indexAt,asIntOf,Instr.sureAddr,Sem.run_bind,run_underlying rJ,Result.andThen_ok,Sem.run_pure,ao O8,UI h6,Qk]
   . simp[ho]
 . cases he
theorem aTU (R:Rel c9 nt φ S env J n a w) {o:Oper} {ty:TypeId} {x:Operand} {anP:IntKind} {m:Int} (c8:o.op= .indexAddr ty x (.const (.int anP m))) {k:Nat} {e:TypeId} (rJ:P.underlying ty=some (.array k e))
 (h0:0<=m/\m.toNat < k) {s:Nat} (hs:JR P e=some s) {hD:er} (ad:hT x=some hD)
 {p v J'} (hk:n key=false) (h:ep (.fldA (m.toNat*s) hD) env J key=some (p,v,J')) (bo:p):Good P c9 nt env J' (ins n key) a v ((execOp a.eval o).run P w):=by
 simp only[ep,hC]at h;obtain⟨⟨KT,K4⟩,k3,he⟩:=h;simp only at he;have ah:a.eval (.const (.int anP m))= .int anP m:=rfl;have O8:0<=m/\m < (k:Int):=⟨h0.1,by omega⟩
 have C':∀(b off:Nat),a.eval x= .pointer (some ⟨b,off,none⟩)->(execOp a.eval o).run P w= .ok (.value (.pointer (some ⟨b,off+m.toNat*s,none⟩))) w:=by
  intro b off e;have Qk:(Addr.add ⟨b,off,none⟩ (m.toNat*s):Addr)=⟨b,off+m.toNat*s,none⟩:=by
   unfold Addr.add;split
   . rename_i q;rw[q];rfl
   . rfl
  simp only[execOp,c8,e,ah,Instr.indexAt,asIntOf,Instr.sureAddr,Sem.run_bind,run_underlying rJ,Result.andThen_ok,Sem.run_pure,ao O8,UI hs,Qk]
 split at he <;> simp only[hQ,hO,reduceCtorEq]at he
 all_goals
  obtain⟨rfl,rfl,rfl⟩:=he;have b9:=ni R ad k3 bo;have h1:=b9.1.Ji
 . simp only[ho]at h1;exact Good.pure R (C' _ _ h1) (.c rfl) b9.2
 . simp only[ho]at h1;exact Good.pure R (C' _ _ h1) (.c (by simp[ho,ab8])) b9.2
 . obtain⟨blk,off,f,h1,ai⟩:=h1;exact Good.pure R (C' _ _ h1) (.c ⟨blk,off,f,by simp[ab8],ai⟩) b9.2
theorem aTV (R:Rel c9 nt φ S env J n a w) {o:Oper} {ty:TypeId} {x:Operand} {hi ay:Option Operand} (c8:o.op= .slice ty x hi ay none) {k:Nat} {e:TypeId} (rJ:P.underlying ty=some (.array k e)) (h6:JR P e=some 1)
 {hD:er} {Ss YK:Option er} (ad:hT x=some hD) (OL:Vm hi=some Ss) (adB:Vm ay=some YK)
 {p v J'} (hk:n key=false) (h:ep (.slcP k hD Ss YK) env J key=some (p,v,J')) (bo:p):Good P c9 nt env J' (ins n key) a v ((execOp a.eval o).run P w):=by
 simp only[ep,hC]at h;obtain⟨⟨KT,K4⟩,k3,⟨pl,l⟩,adz,⟨aLc,h⟩,aiP,he⟩:=h;simp only at he;split at he
 . rename_i b;simp only[hQ,hO]at he;obtain⟨rfl,rfl,rfl⟩:=he;obtain⟨Jk,E',abT,h0,h1,ah⟩:=bo;have b9:=ni R ad k3 Jk;have TK:=b9.1.PZ;have a6:=acQ R OL adz E';have ai:=acQ R adB aiP abT;have al:=apr (P:=P) (w:=w) (isSlice:=false) (cap:=k) a6 ai h0 h1 ah (JK _);generalize vK:(l.getD 0).toNat=L at*
   generalize hH:(h.getD (k:Int)).toNat=H at*;have aY7:L<=H:=by omega
   have a3k:H<=k:=by omega
   have Qk:(Addr.add ⟨(φ b).1,0,none⟩ (L*1):Addr)=⟨(φ b).1,L*1,none⟩:=by
    unfold Addr.add;split
    . grind
    . simp
   refine Good.pure R (x:= .slice (some (if k=L then⟨(φ b).1,0,none⟩else(Addr.add ⟨(φ b).1,0,none⟩ (L*1)))) (H - L) (k - L)) ?_ (.c ⟨_,_,rfl,?_,by omega⟩) (by simpa[V.c',C.c']using b9.2)
   . simp[execOp,c8,Instr.sliceAt,Instr.sureAddr,underlying,rJ,TK,al,UI h6]
   . intro hG;rw[aJ (by omega),Qk]
 . cases he
theorem aTW{es:List (List T)}{s:List UInt8}(al:bytesOf es=some s):∀{xs:List Value},(∀(i:Nat) t,es[i]?=some [t] -> ∃v,xs[i]?=some v /\ k1 w S t v) -> xs.length=es.length ->
 ∃dJ:List Int,xs=dJ.map (Value.int .u8)/\s=dJ.map λm=>UInt8.ofNat m.toNat:=by
 induction es generalizing s with
 | nil=>intro xs _ a6;simp[bytesOf]at al;subst al;exact⟨[],by simpa using a6,rfl⟩
 | cons e es ih=>
  intro xs ar a6;unfold bytesOf at al;split at al
  . rename_i heq;cases heq
  . rename_i m r heq;cases heq;simp only[gC]at al;obtain⟨Wl,Ve,rfl⟩:=al;cases xs with
    | nil=>simp at a6
    | cons x xs=>
     obtain⟨v,cv,Y9⟩:=ar 0 _ rfl;simp at cv;subst cv;cases Y9;obtain⟨dJ,rfl,rfl⟩:=ih Ve (xs:=xs) (λi t ay=>by simpa using ar (i+1) t (by simpa using ay)) (by simpa using a6);exact⟨m::dJ,rfl,rfl⟩
  . cases al
theorem aTX(dJ:List Int):∀(s:ByteArray),(dJ.foldl (λr m=>r.push (UInt8.ofNat m.toNat)) s).data.toList=s.data.toList++dJ.map λm=>UInt8.ofNat m.toNat:=by
 induction dJ with
 | nil=>intro s;simp
 | cons m dJ ih=>intro s;rw[List.foldl_cons,ih];simp[ByteArray.push]
theorem aDO{es:List (List T)}{s:List UInt8}(al:bytesOf es=some s):∀(i:Nat) e,es[i]?=some e->∃t,e=[t]:=by
 induction es generalizing s with
 | nil=>intro i e h;simp at h
 | cons u1 es ih=>
  unfold bytesOf at al;split at al
  . grind
  . rename_i m r heq;cases heq;simp only[gC]at al
    grind
  . cases al
theorem aq0 {aec adk e:TypeId} (hs:P.underlying aec=some (.slice e)) (he:P.underlying e=some (.int .u8)) (a7:P.underlying adk=some .string) {es:List (List T)} {str:List UInt8} {kc:Option Addr} {len cap b off:Nat}
 (a6:es.length=len) (al:bytesOf es=some str) (Xg:len≠0->kc=some ⟨b,off,none⟩) (b7:∀(i:Nat) t,es[i]?=some [t]->∃v,w.cell? ⟨b,off+i,none⟩=some v/\k1 w S t v):
 ∃bs:ByteArray,(convert aec adk (.slice kc len cap)).run P w= .ok (.string bs) w/\bs.data.toList=str:=by
 rw[run_convert_bytes_string w aec adk e kc len cap hs he a7];by_cases h0:len=0
 . have JV:es=[]:=Uu (by omega);subst JV;simp[bytesOf]at al;subst al;subst h0;cases kc with
   | none=>exact⟨.empty,by simp[Conv.bytesToString],rfl⟩
   | some a0=>
    have:=run_bytesToString (P:=P) w a0 0 cap [] (by simp[loadCells,loadCellsFrom]);exact⟨_,this,rfl⟩
 . rw[Xg h0];have ad:∀i,i < len->∃t v,es[i]?=some [t]/\w.cell? ⟨b,off+i,none⟩=some v/\k1 w S t v:=by
    intro i ay;have h1:=J9 (l:=es) (i:=i) (by omega);obtain⟨t,ht⟩:=aDO al i _ h1
    grind
   have b9:∀i,i < len->((List.range len).map λi=>(w.cell? ⟨b,off+i,none⟩).getD undef)[i]?=w.cell? ⟨b,off+i,none⟩:=by grind
   obtain⟨dJ,h1,ah⟩:=aTW (w:=w) (S:=S) al (xs:=(List.range len).map λi=>(w.cell? ⟨b,off+i,none⟩).getD undef) (λi t ay=>by grind) (by simp[a6]);have b':=akU (P:=P) (w:=w) (b:=b) (o:=off) (m:=len) (xs:=(List.range len).map λi=>(w.cell? ⟨b,off+i,none⟩).getD undef) (by simp) (λj c7=>(b9 j c7).symm);rw[h1]at b'
   have ea:=run_bytesToString (P:=P) w ⟨b,off,none⟩ len cap dJ b';exact⟨_,ea,by rw[aTX,ah];rfl⟩
theorem aut :∀{es:List (List T)} {s:List UInt8},bytesOf es=some s->s.length=es.length
 | [],s,h=>by simp[bytesOf]at h;subst h;rfl
 | e::es,s,h=>by
  unfold bytesOf at h;split at h
  . grind
  . rename_i m r heq;cases heq;simp only[gC]at h;obtain⟨Wl,Ve,rfl⟩:=h;simp[aut Ve]
  . cases h
theorem aUT (R:Rel c9 nt φ S env J n a w) {o:Oper} {aec adk e:TypeId} {x:Operand} (c8:o.op= .convert aec adk x) (hs:P.underlying aec=some (.slice e)) (he:P.underlying e=some (.int .u8)) (a7:P.underlying adk=some .string) {hD:er} (ad:hT x=some hD)
 {p v J'} (hk:n key=false) (h:ep (.b2s hD) env J key=some (p,v,J')) (bo:p):Good P c9 nt env J' (ins n key) a v ((execOp a.eval o).run P w):=by
 simp only[ep,hC,gC,hO]at h;obtain⟨⟨KT,K4⟩,k3,⟨q,str⟩,eg,rfl,rfl,rfl⟩:=h;obtain⟨Jk,E'⟩:=bo;have b9:=ni R ad k3 Jk
 suffices ai:∃kc len cap,a.eval x= .slice kc len cap/\str.length<=KJ/\∃bs:ByteArray,(convert aec adk (.slice kc len cap)).run P w= .ok (.string bs) w/\bs.data.toList=str by
  obtain⟨kc,len,cap,h1,ah,bs,b',ea⟩:=ai;have QN:bs.size<=Lh:=by rw[<-acT,ea];unfold KJ at ah;unfold Lh;omega
  refine Good.pure R (x:= .string bs) ?_ (.c ?_) rfl
  . simp[execOp,c8,h1,b']
  . show k1 w S _ _;rw[<-ea];exact .str bs QN
 have ar4 : ∀ (b off len : Nat) (es : List (List T)) (kc : Option Addr) (cap : Nat), e1 J b = some (.arr 1 es) -> off + len <= es.length -> bytesOf ((es.drop off).take len) = some str -> (len ≠ 0 -> kc = some ⟨(φ b).1, off * 1, none⟩) -> ((φ b).2 ≠ 0 \/ len = 0) -> a.eval x = .slice kc len cap ->
  ∃kc len cap,a.eval x= .slice kc len cap/\str.length<=KJ/\∃bs:ByteArray,(convert aec adk (.slice kc len cap)).run P w= .ok (.string bs) w/\bs.data.toList=str:=by
  intro b off len es kc cap al hle Xh Xg h0 cv;obtain⟨h1,ah,b',ea,hf⟩:=R.h'.blk b _ al;have a6:((es.drop off).take len).length=len:=by simp;omega
  refine⟨kc,len,cap,cv,by rw[aut Xh,a6];omega,?_⟩;refine aq0 (S:=S) hs he a7 a6 Xh Xg ?_;intro i t ay;rw[Xn]at ay;split at ay
  . rename_i OK;rw[adY]at ay;rcases h0 with h0 | h0
    . obtain⟨vs,E,ai,PU,ar,_⟩:=hf h0;obtain⟨v,X8,Y'⟩:=ar _ 0 _ t ay rfl;refine⟨v,?_,Y'⟩;rw[Tn ai]
      simpa using X8
    . omega
  . cases ay
 dsimp only at eg k3 b9;unfold Z1 at eg;split at eg
 . rename_i es;simp only[gC,hO]at eg;obtain⟨s,Xh,rfl,rfl⟩:=eg;obtain⟨kc,cap,sz,b,off,f,h1,SJ,NX,ar0,ch,b7,cv⟩:=k1.Vs b9.1.Ji;refine⟨kc,es.length,cap,h1,by rw[aut Xh];exact NX,?_⟩;by_cases hG:es=[]
   . subst hG;exact aq0 (S:=S) (b:=0) (off:=0) hs he a7 rfl Xh (by simp) (by simp)
   . have a0y:sz=1:=by
      obtain⟨u1,Rn⟩:=asf es hG;obtain⟨i,ay⟩:=ayV.1 Rn;obtain⟨t,rfl⟩:=aDO Xh i _ ay
      grind
     subst a0y;refine aq0 (S:=S) (b:=b) (off:=off) hs he a7 rfl Xh (λ_=>ch hG) ?_;intro i t ay;have ec:=(sb.1 ay).1;have ah:=b7 i 0 ec (by omega);exact⟨f i 0,by simpa using ah.2,cv i 0 _ t ay rfl⟩
 . cases eg;obtain⟨kc,h1⟩:=b9.1.Ji;exact⟨kc,0,0,h1,by simp,aq0 (S:=S) (es:=[]) (b:=0) (off:=0) hs he a7 rfl rfl (by simp) (by simp)⟩
 . rename_i b off len;split at eg
   . rename_i es JV;simp only[gC,hO]at eg;obtain⟨s,Xh,rfl,rfl⟩:=eg;obtain⟨kc,h1,ch,hle⟩:=ho.O3 b9.1.Ji;by_cases h0:(φ b).2=0
     . exact ar4 b off len es kc _ JV E' Xh (λh=>by omega) (.inr (by omega)) h1
     . exact ar4 b off len es kc _ JV E' Xh (λ_=>ch h0) (.inl h0) h1
   . cases eg
 . rename_i b off len;split at eg
   . rename_i es JV;simp only[gC,hO]at eg;obtain⟨s,Xh,rfl,rfl⟩:=eg;obtain⟨kc,cap,h1,ch,hle⟩:=b9.1.Ji;obtain⟨ah,_⟩:=R.h'.blk b _ JV;by_cases h0:len=0
     . exact ar4 b off len es kc _ JV E' Xh ch (.inr h0) h1
     . exact ar4 b off len es kc _ JV E' Xh ch (.inl (by omega)) h1
   . cases eg
 . cases eg
end
end
end Go.Proofs.YtijpinendaoleaaGreat.Shv
