/- The library of this proof, part A: an abstract machine for the code of the program, and its soundness. -/
import Derived.LoopN
import Derived.Calls
import Derived.Laws.Sem
import Derived.Laws.World
import Derived.Laws.Cells
import Derived.Below
import Derived.Laws.Strings
import Derived.Laws.StructEq
import Derived.Laws.BytesString

namespace Go.Proofs.YtijpinendaoleaaGreat.Shv
set_option linter.all false
section
def b6:=@if_pos
def b':=@if_neg
def hz:=@Option.some.injEq
def hy:=@Prod.mk.injEq
def pJ:=@List.getElem?_eq_some_iff
def sr:=@Option.ite_none_right_eq_some
def kc:=@Bool.and_eq_true
def qx:=@List.all_eq_true
def CJ:=@List.getElem?_eq_getElem
def u1:=@Bool.false_eq_true
def DJ:=@List.mem_of_getElem?
def Ji:=@Nat.mul_le_mul_right
def I2:=@decide_eq_true_eq
def K':=@List.getElem_of_mem
def JU:=@List.length_map
def MM:=@List.length_append
def q':=@if_true
def La:=@Option.map_some
def Jq:=@Nat.zero_add
def vv:=@if_false
def Sv:=@List.eq_nil_of_length_eq_zero
def tJ:=@Ne.symm
def JA:=@Nat.le_refl
def LU:=@List.mem_cons
def Nx:=@List.mem_append
def Q6:=@List.drop_eq_nil_of_le
def LV:=@List.mem_map
def Lc:=@Nat.add_mul
def Jj:=@congrArg
def OT:=@Bool.or_eq_true
def Ov:=@Bool.not_false
def V1:=@List.getElem?_append_right
def V2:=@List.getElem?_append_left
def SA:=@beq_eq_false_iff_ne
def UL:=@List.take_of_length_le
def Q7:=@List.contains_nil
def SD:=@List.getElem?_take
def SE:=@List.append_assoc
def Po:=@Bool.not_true
def TF:=@Nat.lt_of_lt_of_le
def TG:=@List.contains_cons
def Q8:=@List.append_nil
def SG:=@Option.getD_some
def PS:=@Bool.or_false
def TI:=@List.length_cons
def Ox:=@beq_iff_eq
def Pq:=@Nat.zero_le
def V3:=@of_decide_eq_true
def Q9:=@List.map_cons
def XG:=@Bool.or_eq_false_iff
def aaV:=@List.getElem?_eq_none_iff
def aaW:=@List.drop_eq_getElem_cons
def V4:=@List.getElem?_map
def V5:=@List.flatMap_cons
def aaX:=@Option.bind_eq_some_iff
def SH:=@Nat.le_trans
def UM:=@List.drop_zero
def Y7:=@Array.length_toList
def ac9:=@List.pairwise_iff_getElem
def Y8:=@List.getElem?_drop
def TJ:=@Nat.add_zero
def Y9:=@List.pairwise_cons
def XH:=@List.nil_append
def XI:=@Option.some.inj
def UN:=@exists_false
def UO:=@List.all_map
def V6:=@List.all_cons
def agx:=@Array.getElem?_eq_some_iff
def Q':=@and_false
def agy:=@List.mem_or_eq_of_mem_set
def UP:=@decide_true
def agz:=@Option.isSome_iff_exists
def Y':=@List.length_nil
def Za:=@List.map_append
def XJ:=@Nat.add_assoc
def agA:=@List.getElem?_cons_zero
def ajO:=@Option.ite_none_left_eq_some
def ajP:=@Array.getD_eq_getD_getElem?
def ajQ:=@List.exists_mem_of_ne_nil
def agB:=@List.mem_of_mem_take
def ajR:=@Array.getElem?_eq_getElem
def ajS:=@List.eq_of_mem_replicate
def ac':=@List.any_eq_true
def ada:=@List.cons_append
def ajT:=@List.getElem?_cons_succ
def aaY:=@Bool.true_and
def XL:=@cond_false
def agC:=@List.ext_getElem?
def agD:=@Bool.not_eq_true'
def ajU:=@Array.getElem?_modify
def ajV:=@List.getElem?_toArray
def adb:=@List.mem_range
def ajW:=@Nat.le_of_ble_eq_true
def ade:=@List.nodup_nil
def aaZ:=@decide_false
def ajX:=@List.getElem?_zipIdx
def ajY:=@List.mem_cons_of_mem
def agE:=@List.length_take
def agF:=@Bool.cond_eq_ite
def api:=@List.getD_eq_getElem?_getD
def ajF:=@List.getD_cons_succ
def ags:=@List.mem_filter
def agt:=@Bool.eq_iff_iff
def ac6:=@Nat.le_of_eq
def ac7:=@Nat.sub_self
def ac8:=@exists_const
def ajG:=@List.mem_cons_self
def ao5:=@Nat.le_mul_of_pos_right
def ajH:=@List.getElem?_set
def ajI:=@List.take_add_one
def agu:=@List.map_take
def ajJ:=@List.getElem_mem
def ao6:=@Array.getElem?_toList
def ao7:=@List.mem_iff_getElem?
def ao8:=@List.mem_of_mem_drop
def agv:=@Nat.zero_mul
def ao9:=@List.contains_eq_mem
def ax9:=@List.eq_nil_iff_forall_not_mem
def agw:=@Nat.beq_refl
def ao':=@List.length_pos_iff
def apa:=@List.getD_cons_zero
def apb:=@List.filterMap_cons
def ajK:=@List.drop_drop
def ax':=@Array.getElem?_setIfInBounds
def apc:=@List.mem_singleton
def ajL:=@List.map_drop
def apd:=@Nat.lt_trichotomy
def ape:=@List.any_eq_false
def ajM:=@Nat.add_comm
def apf:=@Nat.mod_eq_of_lt
def apg:=@List.mem_flatMap
def ajN:=@List.map_map
def aph:=@List.nodup_range
theorem fr{α:Type _}{b:α}{β:Type _}{x:Option β}{f:β -> α}:Option.map f x=some b↔∃a,x=some a /\ f a=b:=Option.map_eq_some_iff
theorem ha{α:Type _}{b:α}{β:Type _}{x:Option β}{f:β -> Option α}:x.bind f=some b↔∃a,x=some a /\ f a=some b:=aaX
theorem eg{α:Type _}{β:Type _}(a:α)(f:α -> Option β):(some a).bind f=f a:=Option.bind_some ..
theorem h'.{u}{α β:Type u}:(bind:Option α -> (α -> Option β) -> Option β)=Option.bind:=Option.bind_eq_bind
open Go
inductive T where
 | bool (b:Bool)
 | int (k:IntKind) (n:Int)
 | str (s:List UInt8)
 | slice (es:List (List T))
inductive C where
 | t (x:T)
 | ptr (b o:Nat)
 | mx (b sz i o:Nat)
 | vi (ts:List T) (o:Nat)
 | arr (b sz off len:Nat)
 | JK (b sz off len:Nat)
 | mp (b:Nat)
 | y2 (b:Nat)
 | l' (b len:Nat)
 | eI
 | I1
 | I0
 | fn (f:Nat) (caps:List Nat)
 | dead
inductive V where
 | c (x:C)
 | agg (cs:List C)
 | fz (vs:List V)
inductive hE where
 | box (cs:List C)
 | arr (sz:Nat) (es:List (List T))
 | set (ks:List (List UInt8))
 | buf (E:TypeId) (s:List UInt8)
 | h4 (E:TypeId) (c:C)
 | k6 (sz:Nat) (es:List (List T)) (i o:Nat) (c:C)
abbrev r3 :=Nat->Nat->Prop
abbrev q4 :=Nat->Nat×Nat
def SY :Nat:=9223372036854775807
def Jf :Nat:=281474976710656
inductive ik (w:World) (S:r3):T->Value->Prop
 | bool (b:Bool):ik w S (.bool b) (.bool b)
 | int (k:IntKind) (n:Int):ik w S (.int k n) (.int k n)
 | str (s:ByteArray) (h:s.size<=SY):ik w S (.str s.data.toList) (.string s)
 | slice (es : List (List T)) (a : Option Addr) (cap sz b o : Nat) (f : Nat -> Nat -> Value)
  (OP:es.length<=cap) (K5:es.length<=Jf)
  (hI:∀e,e∈es->e.length=sz)
  (ch:es≠[]->a=some ⟨b,o,none⟩)
  (ay:∀i j,i < es.length->j < sz->S b (o+i*sz+j)/\w.cell? ⟨b,o+i*sz+j,none⟩=some (f i j))
  (cJ:∀i j e t,es[i]?=some e->e[j]?=some t->ik w S t (f i j)):
  ik w S (.slice es) (.slice a es.length cap)
structure Lm (w:World) (S:r3) (w':World) (hK:r3):Prop where
 sub:∀b j,S b j->hK b j
 cell:∀b j,S b j->w'.cell? ⟨b,j,none⟩=w.cell? ⟨b,j,none⟩
theorem Lm.refl(w:World)(S:r3):Lm w S w S:=⟨λ_ _ h=>h,λ_ _ _=>rfl⟩
theorem Lm.trans{w S w' hK ay1 acj}(h:Lm w S w' hK)(k:Lm w' hK ay1 acj):Lm w S ay1 acj:=
 ⟨λb j ai=>k.sub b j (h.sub b j ai),λb j ai=>(k.cell b j (h.sub b j ai)).trans (h.cell b j ai)⟩
theorem ik.mono{w S w' hK}(m:Lm w S w' hK){t v}(h:ik w S t v):ik w' hK t v:=by
 induction h with
 | bool b=>exact .bool b
 | int k n=>exact .int k n
 | str s h=>exact .str s h
 | slice es a cap sz b o f OP K5 hI ch ay cJ ih=>
  exact .slice es a cap sz b o f OP K5 hI ch
   (λi j al dx=>⟨m.sub _ _ (ay i j al dx).1,by rw[m.cell _ _ (ay i j al dx).1];exact(ay i j al dx).2⟩) ih
theorem ik.OU{w S t v}(h:ik w S t v):v.oneCell'=true:=by cases h <;> rfl
def gb(φ:q4)(w:World)(S:r3):C->Value->Prop
 | .t x,v=>ik w S x v
 | .ptr b o,v=>v= .pointer (some ⟨(φ b).1,o,none⟩)
 | .mx b sz i o,v=>v= .pointer (some ⟨(φ b).1,i*sz+o,none⟩)
 | .vi ts o, v => ∃ (blk off : Nat) (f : Nat -> Value), v = .pointer (some ⟨blk, off + o, none⟩) /\
  ∀j t,ts[j]?=some t->S blk (off+j)/\w.cell? ⟨blk,off+j,none⟩=some (f j)/\ik w S t (f j)
 | .arr b sz off len,v=>∃a,v= .slice a len ((φ b).2 - off)/\((φ b).2≠0->a=some ⟨(φ b).1,off*sz,none⟩)/\off+len<=(φ b).2
 | .JK b sz off len,v=>∃a cap,v= .slice a len cap/\(len≠0->a=some ⟨(φ b).1,off*sz,none⟩)/\len<=cap
 | .mp b,v=>v= .map (some (φ b).1)
 | .l' b len,v=>len<=(φ b).2/\((φ b).2=0->v= .slice none 0 0)/\((φ b).2≠0->v= .slice (some ⟨(φ b).1,0,none⟩) len (φ b).2)
 | .y2 b,v=>∃p,v= .pointer p/\((φ b).2≠0->p=some ⟨(φ b).1,0,none⟩)
 | .eI,v=>∃a,v= .slice a 0 0
 | .I1,v=>v= .pointer none
 | .I0,v=>v= .nilFunc
 | .fn f caps,v=>v= .func (.func f) #[] (caps.map λb=>Value.pointer (some ⟨(φ b).1,0,none⟩)).toArray
 | .dead,v=>v.oneCell'=true
theorem gb.OU{φ w S c v}(h:gb φ w S c v):v.oneCell'=true:=by
 cases c with
 | t x=>exact ik.OU h
 | vi ts o=>obtain⟨_,_,_,rfl,_⟩:=h;rfl
 | arr b sz off len=>obtain⟨_,rfl,_⟩:=h;rfl
 | JK b sz off len=>obtain⟨_,_,rfl,_⟩:=h;rfl
 | y2 b=>obtain⟨_,rfl,_⟩:=h;rfl
 | l' b len=>
  by_cases h0:(φ b).2=0
  . rw[h.2.1 h0];rfl
  . rw[h.2.2 h0];rfl
 | eI=>obtain⟨_,rfl⟩:=h;rfl
 | dead=>exact h
 | _=>cases h;rfl
def C.cx(n:Nat->Bool):C->Bool
 | .ptr b _=>n b
 | .mx b _ _ _=>n b
 | .arr b _ _ _=>n b
 | .JK b _ _ _=>n b
 | .mp b=>n b
 | .y2 b=>n b
 | .l' b _=>n b
 | .fn _ caps=>caps.all λb=>n b
 | _=>true
def V.cx(n:Nat->Bool):V->Bool
 | .c x=>x.cx n
 | .agg cs=>cs.all (C.cx n)
 | .fz vs=>V.u' n vs
where V.u' (n:Nat->Bool):List V->Bool
 | []=>true
 | v::vs=>v.cx n && V.u' n vs
theorem gb.mono{φ hn:q4}{w S w' hK}(m:Lm w S w' hK){n:Nat->Bool}(k9:∀b,n b=true->hn b=φ b){c v}(ai:c.cx n=true)(h:gb φ w S c v):gb hn w' hK c v:=by
 cases c with
 | t x=>exact ik.mono m h
 | ptr b o=>simp only[C.cx]at ai;simp only[gb,k9 b ai]at h ⊢;exact h
 | mx b sz i o=>simp only[C.cx]at ai;simp only[gb,k9 b ai]at h ⊢;exact h
 | vi ts o=>
  obtain⟨blk,off,f,rfl,ak⟩:=h;exact⟨blk,off,f,rfl,λj t ht=>⟨m.sub _ _ (ak j t ht).1,by rw[m.cell _ _ (ak j t ht).1];exact(ak j t ht).2.1,ik.mono m (ak j t ht).2.2⟩⟩
 | arr b sz off len=>simp only[C.cx]at ai;simp only[gb,k9 b ai]at h ⊢;exact h
 | JK b sz off len=>simp only[C.cx]at ai;simp only[gb,k9 b ai]at h ⊢;exact h
 | mp b=>simp only[C.cx]at ai;simp only[gb,k9 b ai]at h ⊢;exact h
 | y2 b=>simp only[C.cx]at ai;simp only[gb,k9 b ai]at h ⊢;exact h
 | l' b len=>simp only[C.cx]at ai;simp only[gb,k9 b ai]at h ⊢;exact h
 | eI=>exact h
 | I1=>exact h
 | I0=>exact h
 | fn f caps=>
  simp only[gb]at h ⊢;rw[h]
  congr 2
  apply List.map_congr_left;intro b aw7;simp only[C.cx,qx]at ai
  grind
 | dead=>exact h
inductive ez {α β:Type} (R:α->β->Prop):List α->List β->Prop
 | nil:ez R [] []
 | cons {a b l m}:R a b->ez R l m->ez R (a::l) (b::m)
theorem ez.imp{α β:Type}{R R':α->β->Prop}{l m}(h:ez R l m)(k:∀a b,a∈l->R a b->R' a b):ez R' l m:=by
 induction h with
 | nil=>exact .nil
 | cons ze _ ih=>exact .cons (k _ _ (by simp) ze) (ih λa b ch=>k a b (by simp[ch]))
theorem ez.length{α β:Type}{R:α->β->Prop}{l:List α}{m:List β}(h:ez R l m):l.length=m.length:=by
 induction h with
 | nil=>rfl
 | cons _ _ ih=>simp[ih]
theorem ez.get{α β:Type}{R:α->β->Prop}{l:List α}{m:List β}(h:ez R l m){i:Nat}{a:α}(ch:l[i]?=some a):∃b,m[i]?=some b/\R a b:=by
 induction h generalizing i with
 | nil=>simp at ch
 | cons ze _ ih=>cases i with
  | zero=>simp at ch;subst ch;exact⟨_,by simp,ze⟩
  | succ i=>simp at ch;simpa using ih ch
theorem ez.SI{α β:Type}{R:α->β->Prop}:∀{l:List α} {m:List β},l.length=m.length->(∀(i:Nat) a b,l[i]?=some a->m[i]?=some b->R a b)->ez R l m
 | [],[],_,_=>.nil
 | [],_::_,h,_=>by simp at h
 | _::_,[],h,_=>by simp at h
 | a::l,b::m,h,k=>.cons (k 0 a b (by simp) (by simp)) (ez.SI (by simpa using h) λi x y aa b8=>k (i+1) x y (by simpa using aa) (by simpa using b8))
theorem ez.append{α β:Type}{R:α->β->Prop}{l Jg:List α}{m XA:List β}(h:ez R l m)(vc:ez R Jg XA):ez R (l++Jg) (m++XA):=by
 induction h with
 | nil=>exact vc
 | cons ze _ ih=>exact .cons ze ih
theorem ez.drop{α β:Type}{R:α->β->Prop}{l:List α}{m:List β}(h:ez R l m)(k:Nat):ez R (l.drop k) (m.drop k):=by
 induction h generalizing k with
 | nil=>simp;exact .nil
 | cons ze ht ih=>cases k with
  | zero=>exact .cons ze ht
  | succ k=>simpa using ih k
theorem ez.take{α β:Type}{R:α->β->Prop}{l:List α}{m:List β}(h:ez R l m)(k:Nat):ez R (l.take k) (m.take k):=by
 induction h generalizing k with
 | nil=>simp;exact .nil
 | cons ze _ ih=>cases k with
  | zero=>exact .nil
  | succ k=>exact .cons ze (ih k)
inductive km (φ:q4) (w:World) (S:r3):V->Value->Prop
 | c {x v}:gb φ w S x v->km φ w S (.c x) v
 | agg {cs vs}:ez (gb φ w S) cs vs->km φ w S (.agg cs) (.agg vs.toArray)
 | fz (vs : List V) (xs : List Value) (aJ : vs.length = xs.length) (h : ∀ (i : Nat) v x, vs[i]? = some v -> xs[i]? = some x -> km φ w S v x):
  km φ w S (.fz vs) (.tuple xs.toArray)
theorem Vn{n:Nat->Bool}:∀{vs:List V} {i:Nat} {v:V},V.cx.V.u' n vs=true->vs[i]?=some v->v.cx n=true
 | [],_,_,_,h=>by simp at h
 | x::vs,0,v,ai,h=>by simp at h;subst h;simp[V.cx.V.u']at ai;exact ai.1
 | x::vs,i+1,v,ai,h=>by simp[V.cx.V.u']at ai;exact Vn ai.2 (by simpa using h)
theorem km.mono{φ hn:q4}{w S w' hK}(m:Lm w S w' hK){n:Nat->Bool}(k9:∀b,n b=true->hn b=φ b){x v}(ai:V.cx n x=true)(h:km φ w S x v):km hn w' hK x v:=by
 induction h with
 | c h=>exact .c (gb.mono m k9 (by simpa[V.cx]using ai) h)
 | agg h=>exact .agg (h.imp λa b ch ze=>gb.mono m k9 (by simp[V.cx]at ai;exact ai a ch) ze)
 | fz vs xs aJ h ih=>exact .fz vs xs aJ λi v x cJ aa=>ih i v x cJ aa (Vn (by simpa[V.cx]using ai) cJ)
end
section
open Go
inductive dJ where
 | tmp (t:Nat)
 | const (v:V)
inductive m' where
 | mov (x:dJ)
 | pick (c x y:dJ)
 | alloc (cs:List C)
 | box (x:dJ)
 | build (zero:List C) (parts:List (Nat×Nat×dJ))
 | bslice (sz:Nat) (len:Nat) (zero:List C) (parts:List (Nat×dJ))
 | load (agg:Bool) (n:Nat) (x:dJ)
 | store (n:Nat) (x v:dJ)
 | nilCheck (x:dJ)
 | bin (op:BinOp) (x y:dJ)
 | eqAgg (neg:Bool) (ks:List Nat) (x y:dJ)
 | eqBool (neg:Bool) (x y:dJ)
 | eqNil (neg:Bool) (x:dJ)
 | not (x:dJ)
 | conv (k:IntKind) (x:dJ)
 | i2s (x:dJ)
 | s2s (x:dJ)
 | fldA (off:Nat) (x:dJ)
 | fld (agg:Bool) (off n:Nat) (x:dJ)
 | idxA (sz:Nat) (x i:dJ)
 | idxS (x i:dJ)
 | slcS (x:dJ) (f' al:Option dJ)
 | slc (sz:Nat) (x:dJ) (f' al:Option dJ)
 | slc0 (x:dJ)
 | allocA (cs:List C)
 | idxP (n:Nat) (x i:dJ)
 | slcP (n:Nat) (x:dJ) (f' al:Option dJ)
 | b2s (x:dJ)
 | allocS (e e8:Nat)
 | bsliceT (e sz len:Nat) (zero:List C) (parts:List (Nat×dJ))
 | mkset
 | lkset (x k:dJ)
 | upset (x k:dJ)
 | appendB (e bytes:Nat) (x y:dJ)
 | sdata (x:dJ)
 | ustr (e:Nat) (x n:dJ)
 | mkfn (f:Nat) (caps:List dJ)
 | ext (x:dJ) (i:Nat)
 | len (str:Bool) (x:dJ)
 | append (sz bytes:Nat) (x y:dJ)
 | max2 (x y:dJ)
 | min2 (x y:dJ)
 | call (f:Nat) (args:List dJ)
 | Oe (x:dJ) (args:List dJ)
structure h7 where
 dst:Option Nat
 op:m'
 guard:Option (Nat×Bool)
def aj0 :Value->Option C
 | .bool b=>some (.t (.bool b))
 | .int k n=>some (.t (.int k n))
 | .string s=>if s.size<=SY then some (.t (.str s.data.toList))else none
 | .slice none 0 0=>some .eI
 | .pointer none=>some .I1
 | .nilFunc=>some .I0
 | .nilIface=>some .dead
 | _=>none
def acf :List Value->Option (List C)
 | []=>some []
 | v::vs=>(aj0 v).bind λc=>(acf vs).map (c::·)
def al1 :Value->Option V
 | .agg cs=>(acf cs.toList).map .agg
 | v=>(aj0 v).map .c
def hC :Operand->Option dJ
 | .tmp t=>some (.tmp t)
 | .const v=>(al1 v).map .const
 | .func f=>some (.const (.c (.fn f [])))
 | .global _=>none
def UQ :List Operand->Option (List dJ)
 | []=>some []
 | x::xs=>(hC x).bind λa=>(UQ xs).map (a::·)
def Qk :Option Operand->Option (Option dJ)
 | none=>some none
 | some x=>(hC x).map some
def Rn(P:Program)(t:TypeId):Option (List C):=
 (P.info? t).bind λi=>i.zero.bind λz=>acf z.cells.toList
def WG(P:Program)(t:TypeId):Option Bool:=
 match P.underlying t with
 | some (.struct _) | some (.array _ _)=>some true
 | some _=>some false
 | none=>none
def C4(P:Program)(t:TypeId):Option Nat:=(P.info? t).map (·.size)
def Z2(P:Program)(t:TypeId):Option (Bool×Nat):=
 (WG P t).bind λg=>(C4 P t).bind λn=>if g=false->n=1 then some (g,n)else none
def Nb(P:Program)(f:Nat):Bool:=
 match P.funcs[f]? with
 | some fn => fn.body.isSome && !(fn.name == "runtime.NumGoroutine")
 | none=>false
def agl(P:Program)(t:TypeId):Option Nat:=
 match P.underlying t with
 | some .bool=>some 0
 | some (.int _)=>some 1
 | some .string=>some 2
 | _=>none
def aex(P:Program):Nat->List Field->Option (List Nat)
 | _,[]=>some []
 | i, f :: fs => if f.offset = i /\ f.name ≠ "_" then (agl P f.type).bind λk => (aex P (i + 1) fs).map (k :: ·) else none
def ald(P:Program)(t:TypeId):Option (List Nat):=
 match P.underlying t with
 | some (.struct fs)=>if P.stoodInHeld t=false/\P.eqGuardType P.depth t=false then aex P 0 fs.toList else none
 | _=>none
def ak0(P:Program)(fs:Array Field):Bool:=fs.toList.all λf=>(C4 P f.type).isSome
def abj(P:Program)(fs:Array Field):List (Nat×Operand)->Option (List (Nat×Nat×dJ))
 | []=>some []
 | (j,x)::r=>(fs[j]?).bind λf=>(C4 P f.type).bind λn=>(hC x).bind λa=>(abj P fs r).map ((f.offset,n,a)::·)
def abX(n:Nat):List (Nat×Operand)->Option (List (Nat×Nat×dJ))
 | []=>some []
 | (j,x)::r=>(hC x).bind λa=>(abX n r).map ((j*n,n,a)::·)
def Wz :List (Nat×Operand)->Option (List (Nat×dJ))
 | []=>some []
 | (j,x)::r=>(hC x).bind λa=>(Wz r).map ((j,a)::·)
def T8(P:Program)(c:Call):Option m':=
 match c.callee with
 | .builtin .len=>match c.args.toList,c.argTypes.toList with
  | [x],[t]=>match P.underlying t with
   | some .string=>(hC x).map (.len true)
   | some (.slice _)=>(hC x).map (.len false)
   | _=>none
  | _,_=>none
 | .builtin .append=>match c.args.toList,c.argTypes.toList with
  | [x,y],[t,u]=>match P.underlying t,P.underlying u with
   | some (.slice e), some .string => (P.info? e).bind λi => (hC x).bind λa => (hC y).bind λb =>
    if i.size=1/\(i.zero.map (·.cells.size))=some 1/\(match P.underlying e with | some (.int .u8)=>true | _=>false)=true then some (.appendB e i.bytes a b)else none
   | some (.slice e), some (.slice _) => (P.info? e).bind λi => (hC x).bind λa => (hC y).bind λb =>
    if i.size≠0/\(i.zero.map (·.cells.size))=some i.size then some (.append i.size i.bytes a b)else none
   | _,_=>none
  | _,_=>none
 | .builtin .max=>match c.args.toList with
  | [x,y]=>(hC x).bind λa=>(hC y).map λb=>.max2 a b
  | _=>none
 | .builtin .min=>match c.args.toList with
  | [x,y]=>(hC x).bind λa=>(hC y).map λb=>.min2 a b
  | _=>none
 | .builtin .unsafeSliceData=>match c.args.toList,c.argTypes.toList with
  | [x],[t]=>match P.underlying t with
   | some (.slice e)=>if C4 P e=some 1 then(hC x).map .sdata else none
   | _=>none
  | _,_=>none
 | .builtin .unsafeString=>match c.args.toList,c.argTypes.toList with
  | [x,n],[t,_]=>match P.underlying t with
   | some (.pointer e)=>if(match P.underlying e with | some (.int .u8)=>true | _=>false)=true/\C4 P e=some 1/\P.cellsOf e=1 then(hC x).bind λa=>(hC n).map λb=>.ustr e a b else none
   | _=>none
  | _,_=>none
 | .value (.func f)=>if Nb P f then(UQ c.args.toList).map (.call f)else none
 | .value (.tmp t)=>(UQ c.args.toList).map (.Oe (.tmp t))
 | _=>none
def atp(P:Program)(t:TypeId):Bool:=
 match P.info? t with
 | some i => (match i.desc with | .named n _ => n == "strings.Builder" | _ => false)
 | none=>false
def asb :List Value->Bool
 | [.pointer none,.slice none 0 0]=>true
 | _=>false
def al2(P:Program)(t:TypeId):Bool:=
 match (P.info? t).bind (·.zero)with
 | some z=>asb z.cells.toList
 | none=>false
def aeq(P:Program)(t:TypeId):Option Nat:=
 if atp P t=true/\al2 P t=true then match P.underlying t with
  | some (.struct fs)=>(fs[1]?).bind λf=>match P.underlying f.type with
   | some (.slice e)=>some e
   | _=>none
  | _=>none
 else none
def Zy(P:Program)(t:TypeId):Bool:=
 match P.underlying t with
 | some (.map k v)=>(match P.underlying k,P.underlying v with | some .string,some .bool=>true | _,_=>false) && (match (P.info? v).bind (·.zero)with | some (.bool false)=>true | _=>false)
 | _=>false
def ak1 :Operand->Bool
 | .const (.bool true)=>true
 | _=>false
def ale :Operand->Bool
 | .const (.slice none 0 0)=>true
 | _=>false
def qs(P:Program)(o:Op):Option m':=
 match o with
 | .move x | .assign x=>(hC x).map .mov
 | .pick c a b=>(hC c).bind λc=>(hC a).bind λa=>(hC b).map λb=>.pick c a b
 | .alloc e=>match aeq P e with
  | some e8=>some (.allocS e e8)
  | none=>(Rn P e).bind λcs=>match P.underlying e with
   | some (.array n t)=>if C4 P t=some 1/\n=cs.length/\n≠0/\n<=2 ^ 24 then some (.allocA cs)else some (.alloc cs)
   | _=>some (.alloc cs)
 | .box _ x=>(hC x).map .box
 | .build t parts=>match P.underlying t with
  | some (.struct fs)=>if ak0 P fs then(Rn P t).bind λz=>(abj P fs parts.toList).map λps=>.build z ps else none
  | some (.array _ e)=>(Rn P t).bind λz=>(C4 P e).bind λn=>(abX n parts.toList).map λps=>.build z ps
  | _=>none
 | .buildSlice t len parts=>match P.underlying t with
  | some (.slice e) => (C4 P e).bind λn => (Rn P e).bind λz => (Wz parts.toList).bind λps =>
   if n≠0/\z.length=n/\len*n<=2 ^ 24 then some (.bslice n len z ps)else none
  | _=>none
 | .load t a=>(Z2 P t).bind λg=>(hC a).map λx=>.load g.1 g.2 x
 | .store t a v=>(C4 P t).bind λn=>(hC a).bind λx=>(hC v).map λy=>.store n x y
 | .nilCheck x=>(hC x).map .nilCheck
 | .binOp op t x y _=>
  if op= .eql\/op= .neq then match P.underlying t with
   | some (.struct _)=>(ald P t).bind λks=>(hC x).bind λa=>(hC y).map λb=>.eqAgg (op== .neq) ks a b
   | some (.slice _)=>if ale y then(hC x).map (.eqNil (op== .neq))else none
   | some .bool=>(hC x).bind λa=>(hC y).map λb=>.eqBool (op== .neq) a b
   | some (.int _) | some .string=>(hC x).bind λa=>(hC y).map λb=>.bin op a b
   | _=>none
  else(hC x).bind λa=>(hC y).map λb=>.bin op a b
 | .unOp .not _ x=>(hC x).map .not
 | .unOp .neg t x=>match P.underlying t with
  | some (.int k)=>(hC x).map (.bin .sub (.const (.c (.t (.int k 0)))))
  | _=>none
 | .unOp .xor t x=>match P.underlying t with
  | some (.int k)=>(hC x).map (.bin .xor (.const (.c (.t (.int k (if k.signed then -1 else k.max))))))
  | _=>none
 | .convert s d x=>match P.underlying s,P.underlying d with
  | some (.int _),some (.int k)=>(hC x).map (.conv k)
  | some (.int _),some .string=>(hC x).map .i2s
  | some .string,some .string=>(hC x).map .s2s
  | some (.slice e),some .string=>if(match P.underlying e with | some (.int .u8)=>true | _=>false)=true/\C4 P e=some 1 then(hC x).map .b2s else none
  | _,_=>none
 | .fieldAddr t x f=>match P.underlying t with
  | some (.struct fs)=>(fs[f]?).bind λfd=>(C4 P fd.type).bind λn=>if n=0 then none else(hC x).map (.fldA fd.offset)
  | _=>none
 | .field t x f=>match P.underlying t with
  | some (.struct fs)=>(fs[f]?).bind λfd=>(Z2 P fd.type).bind λg=>(hC x).map (.fld g.1 fd.offset g.2)
  | _=>none
 | .indexAddr t x i=>match P.underlying t with
  | some (.slice e)=>(C4 P e).bind λn=>if n=0 then none else(hC x).bind λa=>(hC i).map λb=>.idxA n a b
  | some (.array n e)=>match i with
   | .const (.int _ m)=>if 0<=m/\m.toNat < n then(C4 P e).bind λs=>(hC x).map (.fldA (m.toNat*s))else none
   | i=>if C4 P e=some 1 then(hC x).bind λa=>(hC i).map λb=>.idxP n a b else none
  | _=>none
 | .index t x i=>match P.underlying t with
  | some .string=>(hC x).bind λa=>(hC i).map λb=>.idxS a b
  | _=>none
 | .slice t x f' al ajA=>match P.underlying t with
  | some .string=>if ajA.isNone then(hC x).bind λa=>(Qk f').bind λl=>(Qk al).map λh=>.slcS a l h else none
  | some (.slice e)=>match ajA with
   | none=>(C4 P e).bind λn=>if n=0 then none else(hC x).bind λa=>(Qk f').bind λl=>(Qk al).map λh=>.slc n a l h
   | some (.const (.int _ 0))=>match f',al with
    | none,some (.const (.int _ 0))=>if(C4 P e).isSome then(hC x).map .slc0 else none
    | _,_=>none
   | _=>none
  | some (.array n e)=>if ajA.isNone/\C4 P e=some 1 then(hC x).bind λa=>(Qk f').bind λl=>(Qk al).map λh=>.slcP n a l h else none
  | _=>none
 | .makeFunc (.func f) first caps=>if first.isEmpty then(UQ caps.toList).map (.mkfn f)else none
 | .extract x i=>(hC x).map λa=>.ext a i
 | .makeMap t none=>if Zy P t=true then some .mkset else none
 | .lookup t x i false=>if Zy P t=true then(hC x).bind λa=>(hC i).map λb=>.lkset a b else none
 | .mapUpdate t m k v=>if Zy P t=true/\ak1 v=true then(hC m).bind λa=>(hC k).map λb=>.upset a b else none
 | .call c=>T8 P c
 | _=>none
def ZW(ops:Array Oper):Option (Nat×Bool)->Option (Option (Nat×Bool))
 | none=>some none
 | some (j,b)=>((ops[j]?).bind (·.dst)).map λd=>some (d,b)
def ac2(d:Nat):Operand->Bool
 | .tmp t=>t==d
 | _=>false
def aeW(d:Nat):Op->Bool
 | .call c=>match c.callee with
  | .builtin .append=>(c.args.toList.drop 1).any (ac2 d)
  | .value (.func _)=>c.args.toList.any (ac2 d)
  | _=>false
 | .build _ ps=>ps.toList.any λp=>ac2 d p.2
 | .buildSlice _ _ ps=>ps.toList.any λp=>ac2 d p.2
 | .convert _ _ x=>ac2 d x
 | .indexAddr _ x _=>ac2 d x
 | _=>false
def arT(ops:Array Oper)(o:Oper):Bool:=
 match o.dst with
 | some d=>ops.toList.any λq=>aeW d q.op
 | none=>false
def abk(P:Program)(Oh:Bool)(o:Op):Option m':=
 match o,Oh with
 | .buildSlice t len parts,true=>match P.underlying t with
  | some (.slice e) => (C4 P e).bind λn => (Rn P e).bind λz => (Wz parts.toList).bind λps =>
   if n≠0/\z.length=n/\len*n<=2 ^ 24 then some (.bsliceT e n len z ps)else none
  | _=>none
 | o,_=>qs P o
def abz(P:Program)(nt:Nat)(ops:Array Oper)(o:Oper):Option h7:=
 (abk P (arT ops o) o.op).bind λp=>(ZW ops o.guard).bind λg=>
  match o.dst with
  | none=>some ⟨none,p,g⟩
  | some d=>if d < nt then some ⟨some d,p,g⟩else none
def O1(P:Program)(nt:Nat)(ops:Array Oper):List Oper->Option (List h7)
 | []=>some []
 | o::r=>(abz P nt ops o).bind λa=>(O1 P nt ops r).map (a::·)
inductive sb where
 | skip
 | region (ops:List h7)
 | V8 (ops:List h7) (K1:List (Nat×Nat))
 | seq (a b:sb)
 | cond (c:dJ) (x y:sb)
 | block (id:Nat) (b:sb)
 | loop (b:sb)
 | exit (id:Nat)
 | ret
def m'.neutral :m'->Bool
 | .alloc _ | .allocA _ | .box _ | .bslice .. | .store .. | .append .. | .call .. | .Oe .. | .eqNil .. =>false
 | .allocS .. | .mkset | .upset .. | .appendB .. | .ustr .. =>false
 | _=>true
def m'.N5 :m'->Bool
 | .alloc _ | .allocA _ | .b2s _ | .box _ | .bslice .. | .store .. | .append .. | .load .. =>true
 | .allocS .. | .mkset | .lkset .. | .upset .. | .appendB .. | .ustr .. | .call .. =>true
 | _=>false
def m'.drawn :m'->Bool
 | .eqNil .. =>false
 | _=>true
def dJ.tmps :dJ->List Nat
 | .tmp t=>[t]
 | .const _=>[]
def aaU :Option dJ->List Nat
 | none=>[]
 | some x=>x.tmps
def m'.reads :m'->List Nat
 | .mov x=>x.tmps
 | .pick c x y=>c.tmps++x.tmps++y.tmps
 | .alloc _ | .allocA _=>[]
 | .box x=>x.tmps
 | .build _ ps=>ps.flatMap λp=>p.2.2.tmps
 | .bslice _ _ _ ps=>ps.flatMap λp=>p.2.tmps
 | .load _ _ x=>x.tmps
 | .store _ x v=>x.tmps++v.tmps
 | .nilCheck x=>x.tmps
 | .bin _ x y=>x.tmps++y.tmps
 | .eqAgg _ _ x y=>x.tmps++y.tmps
 | .eqBool _ x y=>x.tmps++y.tmps
 | .eqNil _ x=>x.tmps
 | .not x=>x.tmps
 | .conv _ x=>x.tmps
 | .i2s x=>x.tmps
 | .s2s x=>x.tmps
 | .fldA _ x=>x.tmps
 | .fld _ _ _ x=>x.tmps
 | .idxA _ x i=>x.tmps++i.tmps
 | .idxS x i=>x.tmps++i.tmps
 | .slcS x f' al=>x.tmps++aaU f'++aaU al
 | .slc _ x f' al=>x.tmps++aaU f'++aaU al
 | .slc0 x=>x.tmps
 | .b2s x=>x.tmps
 | .allocS .. | .mkset=>[]
 | .bsliceT _ _ _ _ ps=>ps.flatMap λp=>p.2.tmps
 | .lkset x k=>x.tmps++k.tmps
 | .upset x k=>x.tmps++k.tmps
 | .appendB _ _ x y=>x.tmps++y.tmps
 | .sdata x=>x.tmps
 | .ustr _ x k=>x.tmps++k.tmps
 | .idxP _ x i=>x.tmps++i.tmps
 | .slcP _ x f' al=>x.tmps++aaU f'++aaU al
 | .mkfn _ caps=>caps.flatMap dJ.tmps
 | .ext x _=>x.tmps
 | .len _ x=>x.tmps
 | .append _ _ x y=>x.tmps++y.tmps
 | .max2 x y=>x.tmps++y.tmps
 | .min2 x y=>x.tmps++y.tmps
 | .call _ args=>args.flatMap dJ.tmps
 | .Oe x args=>x.tmps++args.flatMap dJ.tmps
def h7.rd(o:h7):List Nat:=o.op.reads++(match o.guard with | none=>[] | some (t,_)=>[t])
def MO(o:Oper):List Nat:=(o.after.toList.filter (Region.binds .any)).map (·.on)
def ahead(l:List (h7×List Nat))(j i:Nat):Bool:=decide (j < i) && ((l[i]?).map λx=>x.2.contains j).getD false
def aiy :Nat->List (h7×List Nat)->Bool
 | _,[]=>true
 | i,x::r=>x.2.all (· < i) && aiy (i+1) r
def ayw(l:List (h7×List Nat)):Bool:=
 l.zipIdx.all λx=>l.zipIdx.all λy=>
  match y.1.1.dst with
  | none=>true
  | some d=>(!(x.1.1.rd.contains d) || ahead l y.2 x.2 || (x.1.1.op.neutral && !x.1.1.op.N5 && ahead l x.2 y.2)) && (x.2==y.2 || !(x.1.1.dst==some d))
def Ur :List (h7×List Nat)->List (List Nat)->List (List Nat)
 | [],acc=>acc
 | x::r,acc=>Ur r (acc++[(x.2++x.2.flatMap λe=>acc.getD e []).eraseDups])
def Vs(aiU:List (List Nat))(j i:Nat):Bool:=decide (j < i) && (aiU.getD i []).contains j
def amO(aiU:List (List Nat))(l:List (h7×List Nat)):List (Nat×Nat):=
 l.zipIdx.flatMap λx=>if x.1.1.op.neutral then[]else l.zipIdx.filterMap λy=>
  if y.1.1.op.N5 && !(x.2==y.2) && !(Vs aiU x.2 y.2) && !(Vs aiU y.2 x.2)then some (x.2,y.2)else none
def RE(l:List (h7×List Nat)):List (Nat×Nat):=amO (Ur l []) l
def ah'(l:List (h7×List Nat)):Bool:=(List.range (l.length - 1)).all λi=>l.zipIdx.any λy=>decide (i < y.2) && y.1.2.contains i
def Z3(l:List (h7×List Nat)):Bool:=aiy 0 l && ayw l && l.all λx=>x.1.op.drawn
def aaj(l:List (h7×List Nat)):List (Nat×Nat):=
 if decide (2<=l.length) && ah' l && Z3 l.dropLast then(l.length,0)::(RE l++RE l.dropLast)else RE l
def mt(ops:Array Oper)(ev:List h7):List (h7×List Nat):=ev.zip (ops.toList.map MO)
def resolve(P:Program)(nt:Nat):Code->Option sb
 | .skip=>some .skip
 | .region _ ops draw => (O1 P nt ops ops.toList).bind λev =>
  if draw then(if Z3 (mt ops ev) && P.follows .mixedOrders then some (.V8 ev (aaj (mt ops ev)))else none)else some (.region ev)
 | .seq a b=>(resolve P nt a).bind λx=>(resolve P nt b).map λy=>.seq x y
 | .cond c a b=>(hC c).bind λo=>(resolve P nt a).bind λx=>(resolve P nt b).map λy=>.cond o x y
 | .block id b=>(resolve P nt b).map (.block id)
 | .loop b=>(resolve P nt b).map .loop
 | .exit id=>some (.exit id)
 | .ret=>some .ret
 | _=>none
abbrev Env :=List (Nat×Bool×V)
abbrev ep :=List (Nat×hE)
def look :Env->Nat->Option (Bool×V)
 | [],_=>none
 | (k,x)::r,i=>if k=i then some x else look r i
def ec :ep->Nat->Option hE
 | [],_=>none
 | (k,x)::r,i=>if k=i then some x else ec r i
def q1 :ep->Nat->hE->ep
 | [],b,x=>[(b,x)]
 | (k,y)::r,b,x=>if k=b then(k,x)::r else(k,y)::q1 r b x
def NA :ep->Nat->ep
 | [],_=>[]
 | (k,y)::r,b=>if k=b then NA r b else(k,y)::NA r b
theorem o'(J:ep)(b:Nat)(x:hE)(i:Nat):ec (q1 J b x) i=if b=i then some x else ec J i:=by
 induction J with
 | nil=>simp[q1,ec]
 | cons y r ih=>
  obtain⟨k,y⟩:=y;by_cases hk:k=b
  . subst hk;simp only[q1,q',ec];split <;> rfl
  . simp only[q1,b' hk,ec,ih]
    grind
theorem J8(J:ep)(b:Nat)(i:Nat):ec (NA J b) i=if b=i then none else ec J i:=by
 induction J with
 | nil=>simp[NA,ec]
 | cons y r ih=>
  obtain⟨k,y⟩:=y;by_cases hk:k=b
  . subst hk;simp only[NA,q',ec,ih];by_cases al:k=i <;> simp[al]
  . simp only[NA,b' hk,ec,ih]
    grind
def dJ.get(env:Env):dJ->Option (Prop×V)
 | .const v=>some (True,v)
 | .tmp t=>(look env t).map λx=>(x.1=true,x.2)
def MF(env:Env):List dJ->Option (Prop×List V)
 | []=>some (True,[])
 | x::xs=>(x.get env).bind λa=>(MF env xs).map λb=>(a.1/\b.1,a.2::b.2)
def PG(env:Env):Option dJ->Option (Prop×Option Int)
 | none=>some (True,none)
 | some x=>(x.get env).bind λa=>match a.2 with
  | .c (.t (.int _ n))=>some (a.1,some n)
  | _=>none
def WH :V->Option (List C)
 | .c x=>some [x]
 | .agg cs=>some cs
 | .fz _=>none
def toT :C->Option T
 | .t x=>some x
 | .eI=>some (.slice [])
 | _=>none
def toTs :List C->Option (List T)
 | []=>some []
 | c::cs=>(toT c).bind λt=>(toTs cs).map (t::·)
def el(es:List (List T))(i:Nat):List T:=es.getD i []
def Xj(cells:List C)(off:Nat)(cs:List C):List C:=cells.take off++cs++cells.drop (off+cs.length)
def RF(env:Env):List C->List (Nat×Nat×dJ)->Option (Prop×List C)
 | cells,[]=>some (True,cells)
 | cells, (off, n, x):: r => (x.get env).bind λa => (WH a.2).bind λcs =>
  if cs.length=n/\off+n<=cells.length then(RF env (Xj cells off cs) r).map λb=>(a.1/\b.1,b.2)else none
def PC(env:Env)(sz:Nat):List (List T)->List (Nat×dJ)->Option (Prop×List (List T))
 | es,[]=>some (True,es)
 | es, (i, x):: r => (x.get env).bind λa => (WH a.2).bind λcs => (toTs cs).bind λts =>
  if ts.length=sz/\i < es.length then(PC env sz (es.set i ts) r).map λb=>(a.1/\b.1,b.2)else none
def RR :BinOp->T->T->Option (Prop×T)
 | .add,.int k a,.int ix b=>if k=ix then some (True,.int k (k.wrap (a+b)))else none
 | .sub,.int k a,.int ix b=>if k=ix then some (True,.int k (k.wrap (a - b)))else none
 | .mul,.int k a,.int ix b=>if k=ix then some (True,.int k (k.wrap (a*b)))else none
 | .quo,.int k a,.int ix b=>if k=ix then some (b≠0,.int k (k.wrap (a.tdiv b)))else none
 | .rem,.int k a,.int ix b=>if k=ix then some (b≠0,.int k (a.tmod b))else none
 | .and,.int k a,.int ix b=>if k=ix then some (True,.int k (k.wrap (BitVec.ofInt k.bits a &&& BitVec.ofInt k.bits b).toNat))else none
 | .or,.int k a,.int ix b=>if k=ix then some (True,.int k (k.wrap (BitVec.ofInt k.bits a ||| BitVec.ofInt k.bits b).toNat))else none
 | .xor,.int k a,.int ix b=>if k=ix then some (True,.int k (k.wrap (BitVec.ofInt k.bits a ^^^ BitVec.ofInt k.bits b).toNat))else none
 | .andNot,.int k a,.int ix b=>if k=ix then some (True,.int k (k.wrap (BitVec.ofInt k.bits a &&& ~~~ BitVec.ofInt k.bits b).toNat))else none
 | .shl,.int k a,.int _ b=>some (0<=b,.int k (k.wrap (a*2 ^ min b.toNat k.bits)))
 | .shr,.int k a,.int _ b=>some (0<=b,.int k (a.fdiv (2 ^ min b.toNat k.bits)))
 | .eql,.int k a,.int ix b=>if k=ix then some (True,.bool (decide (a=b)))else none
 | .neq,.int k a,.int ix b=>if k=ix then some (True,.bool (!decide (a=b)))else none
 | .lss,.int k a,.int ix b=>if k=ix then some (True,.bool (decide (a < b)))else none
 | .leq,.int k a,.int ix b=>if k=ix then some (True,.bool (decide (a<=b)))else none
 | .gtr,.int k a,.int ix b=>if k=ix then some (True,.bool (decide (b < a)))else none
 | .geq,.int k a,.int ix b=>if k=ix then some (True,.bool (decide (b<=a)))else none
 | .add,.str a,.str b=>some (a.length+b.length<=SY,.str (a++b))
 | .eql,.str a,.str b=>some (True,.bool (decide (a=b)))
 | .neq,.str a,.str b=>some (True,.bool (!decide (a=b)))
 | .lss,.str a,.str b=>some (True,.bool (Op.bytesLess a b))
 | .leq,.str a,.str b=>some (True,.bool (Op.bytesLess a b || decide (a=b)))
 | .gtr,.str a,.str b=>some (True,.bool (!(Op.bytesLess a b || decide (a=b))))
 | .geq,.str a,.str b=>some (True,.bool (!(Op.bytesLess a b)))
 | _,_,_=>none
def ai4 :Nat->T->T->Option Bool
 | 0,.bool a,.bool b=>some (a==b)
 | 1,.int k a,.int ix b=>if k=ix then some (decide (a=b))else none
 | 2,.str a,.str b=>some (decide (a=b))
 | _,_,_=>none
def aat :List Nat->List C->List C->Option Bool
 | [],[],[]=>some true
 | k::ks,.t x::xs,.t y::ys=>(ai4 k x y).bind λb=>(aat ks xs ys).map λr=>b && r
 | _,_,_=>none
abbrev ahe :=Option (Prop×V×ep)
def loadT(agg:Bool)(n:Nat)(ts:List T)(o:Nat):Option V:=
 if agg then(if o+n<=ts.length then some (.agg (((ts.drop o).take n).map .t))else none)else(ts[o]?).map λt=>.c (.t t)
def PQ(agg:Bool)(n:Nat)(cs:List C)(o:Nat):Option V:=
 if agg then(if o+n<=cs.length then some (.agg ((cs.drop o).take n))else none)else(cs[o]?).map .c
def Pz :Nat:=281474976710656
def TS(J:ep):V->Option (List (List T)×Option Nat)
 | .c (.t (.slice ys))=>some (ys,none)
 | .c .eI=>some ([],none)
 | .c (.arr b kp off len)=>match ec J b with
  | some (.arr agU ys)=>if kp=agU/\off=0/\len=ys.length then some (ys,some b)else none
  | _=>none
 | _=>none
def bytesOf :List (List T)->Option (List UInt8)
 | []=>some []
 | [.int .u8 m]::r=>(bytesOf r).map λs=>UInt8.ofNat m.toNat::s
 | _=>none
def VG(J:ep):V->Option (Prop×List UInt8)
 | .c (.t (.slice es))=>(bytesOf es).map λs=>(True,s)
 | .c .eI=>some (True,[])
 | .c (.arr b 1 off len)=>match ec J b with
  | some (.arr 1 es)=>(bytesOf ((es.drop off).take len)).map λs=>(off+len<=es.length,s)
  | _=>none
 | .c (.JK b 1 off len)=>match ec J b with
  | some (.arr 1 es)=>(bytesOf ((es.drop off).take len)).map λs=>(off+len<=es.length,s)
  | _=>none
 | _=>none
def OO(ks:List (List UInt8))(s:List UInt8):Bool:=ks.any λk=>decide (k=s)
def OH(ks:List (List UInt8))(s:List UInt8):List (List UInt8):=if OO ks s=true then ks else ks++[s]
def agH :List C->Option C
 | [.arr b sz off len]=>some (.arr b sz off len)
 | _=>none
def UW :V->V->Option (Nat×Nat×Nat×Nat×Nat×Nat×Nat)
 | .c (.arr b sz off len),.c (.JK hj kp SJ N3)=>if b=hj then some (b,sz,off,len,kp,SJ,N3)else none
 | _,_=>none
def acn(J:ep)(n sz:Nat)(p q:Prop):Nat×Nat×Nat×Nat×Nat×Nat×Nat->ahe
 | (b,s1,off,len,s2,SJ,N3)=>match ec J b with
  | some (.arr TP es) => some (p /\ q /\ s1 = sz /\ s2 = sz /\ TP = sz /\ off = 0 /\ len + N3 <= es.length /\ SJ + N3 <= es.length,
   .c (.arr n sz 0 (len+N3)),q1 (NA J b) n (.arr sz (es.take len++(es.drop SJ).take N3)))
  | _=>none
def dy(o:m')(env:Env)(J:ep)(n:Nat):ahe:=
 match o with
 | .mov x=>(x.get env).map λa=>(a.1,a.2,J)
 | .pick c x y => (c.get env).bind λc => (x.get env).bind λx => (y.get env).bind λy =>
  match c.2,x.2,y.2 with
  | .c (.t (.bool b)),.c (.t (.bool p)),.c (.t (.bool q))=>
   some (c.1/\(b=true->x.1)/\(b=false->y.1),.c (.t (.bool (bif b then p else q))),J)
  | _,_,_=>none
 | .alloc cs=>some (True,.c (.ptr n 0),q1 J n (.box cs))
 | .allocA cs=>(toTs cs).map λts=>(True,.c (.ptr n 0),q1 J n (.arr 1 (ts.map λt=>[t])))
 | .idxP k x i => (x.get env).bind λa => (i.get env).bind λj => match a.2, j.2 with
  | .c (.ptr b 0),.c (.t (.int _ m))=>some (a.1/\j.1/\0<=m/\m.toNat < k,.c (.mx b 1 m.toNat 0),J)
  | _,_=>none
 | .slcP k x f' al => (x.get env).bind λa => (PG env f').bind λl => (PG env al).bind λh => match a.2 with
  | .c (.ptr b 0)=>
   let e:=h.2.getD k
   let c:=l.2.getD 0
   some (a.1/\l.1/\h.1/\0<=c/\c<=e/\e<=k,.c (.JK b 1 c.toNat (e.toNat - c.toNat)),J)
  | _=>none
 | .b2s x=>(x.get env).bind λa=>(VG J a.2).map λr=>(a.1/\r.1,.c (.t (.str r.2)),J)
 | .box x=>(x.get env).bind λa=>(WH a.2).map λcs=>(a.1,.c (.ptr n 0),q1 J n (.box cs))
 | .build z parts=>(RF env z parts).map λa=>(a.1,.agg a.2,J)
 | .bslice sz len z parts => (toTs z).bind λNL => (PC env sz (List.replicate len NL) parts).map λa =>
  (a.1,.c (.arr n sz 0 len),q1 J n (.arr sz a.2))
 | .load agg k x => (x.get env).bind λa => match a.2 with
  | .c (.ptr b o)=>match ec J b with
   | some (.box cs)=>(PQ agg k cs o).map λv=>(a.1,v,J)
   | some (.h4 _ c)=>if agg=false/\o=1 then some (a.1,.c c,J)else none
   | _=>none
  | .c (.mx b sz i o)=>match ec J b with
   | some (.arr kp es)=>(loadT agg k (el es i) o).map λv=>(a.1/\sz=kp/\i < es.length,v,J)
   | some (.k6 kp es qi q5 c)=>if agg=true then none else if o=q5 then some (a.1/\sz=kp/\i=qi,.c c,J)else(loadT false k (el es i) o).map λv=>(a.1/\sz=kp/\i < es.length,v,J)
   | _=>none
  | .c (.vi ts o)=>(loadT agg k ts o).map λv=>(a.1,v,J)
  | _=>none
 | .store k x v => (x.get env).bind λa => (v.get env).bind λd => (WH d.2).bind λcs =>
  if cs.length=k then match a.2 with
   | .c (.ptr b o)=>match ec J b with
    | some (.box ds)=>if o+k<=ds.length then some (a.1/\d.1,.fz [],q1 J b (.box (Xj ds o cs)))else none
    | some (.h4 e _)=>match o,cs with
     | 1,[c]=>some (a.1/\d.1,.fz [],q1 J b (.h4 e c))
     | _,_=>none
    | _=>none
   | .c (.mx b sz i o)=>match ec J b with
    | some (.arr kp es)=>match agH cs with
     | some c=>some (a.1/\d.1/\sz=kp/\i < es.length/\o+k<=sz,.fz [],q1 J b (.k6 kp es i o c))
     | none=>(toTs cs).bind λts=>
      some (a.1/\d.1/\sz=kp/\i < es.length/\o+k<=sz,.fz [],
       q1 J b (.arr kp (es.set i ((el es i).take o++ts++(el es i).drop (o+k)))))
    | some (.k6 kp es qi q5 K0)=>match cs with
     | [c]=>if o=q5 then some (a.1/\d.1/\sz=kp/\i=qi,.fz [],q1 J b (.k6 kp es qi q5 c))
      else(toT c).bind λt=>some (a.1/\d.1/\sz=kp/\i < es.length/\o+k<=sz,.fz [],
       q1 J b (.k6 kp (es.set i ((el es i).take o++[t]++(el es i).drop (o+k))) qi q5 K0))
     | _=>none
    | _=>none
   | _=>none
  else none
 | .nilCheck x => (x.get env).bind λa => match a.2 with
  | .c (.ptr ..) | .c (.mx ..) | .c (.vi ..)=>some (a.1,a.2,J)
  | _=>none
 | .bin op x y => (x.get env).bind λa => (y.get env).bind λb => match a.2, b.2 with
  | .c (.t p),.c (.t q)=>(RR op p q).map λr=>(a.1/\b.1/\r.1,.c (.t r.2),J)
  | _,_=>none
 | .eqAgg neg ks x y => (x.get env).bind λa => (y.get env).bind λb => match a.2, b.2 with
  | .agg p,.agg q=>(aat ks p q).map λr=>(a.1/\b.1,.c (.t (.bool (if neg then !r else r))),J)
  | _,_=>none
 | .eqBool neg x y => (x.get env).bind λa => (y.get env).bind λb => match a.2, b.2 with
  | .c (.t (.bool p)),.c (.t (.bool q))=>some (a.1/\b.1,.c (.t (.bool (if neg then !(p==q)else(p==q)))),J)
  | _,_=>none
 | .not x => (x.get env).bind λa => match a.2 with
  | .c (.t (.bool b))=>some (a.1,.c (.t (.bool (!b))),J)
  | _=>none
 | .conv k x => (x.get env).bind λa => match a.2 with
  | .c (.t (.int _ m))=>some (a.1,.c (.t (.int k (k.wrap m))),J)
  | _=>none
 | .i2s x => (x.get env).bind λa => match a.2 with
  | .c (.t (.int _ m))=>some (a.1,.c (.t (.str (Utf8.encode m).data.toList)),J)
  | _=>none
 | .s2s x => (x.get env).bind λa => match a.2 with
  | .c (.t (.str s))=>some (a.1,.c (.t (.str s)),J)
  | _=>none
 | .fldA off x => (x.get env).bind λa => match a.2 with
  | .c (.ptr b o)=>some (a.1,.c (.ptr b (o+off)),J)
  | .c (.mx b sz i o)=>some (a.1,.c (.mx b sz i (o+off)),J)
  | .c (.vi ts o)=>some (a.1,.c (.vi ts (o+off)),J)
  | _=>none
 | .fld agg off k x => (x.get env).bind λa => match a.2 with
  | .agg cs=>(PQ agg k cs off).map λv=>(a.1,v,J)
  | _=>none
 | .idxA sz x i => (x.get env).bind λa => (i.get env).bind λj => match a.2, j.2 with
  | .c (.t (.slice es)),.c (.t (.int _ m))=>some (a.1/\j.1/\0<=m/\m.toNat < es.length/\(el es m.toNat).length=sz,.c (.vi (el es m.toNat) 0),J)
  | .c (.arr b kp off len),.c (.t (.int _ m))=>some (a.1/\j.1/\0<=m/\m.toNat < len/\sz=kp,.c (.mx b sz (off+m.toNat) 0),J)
  | _,_=>none
 | .idxS x i => (x.get env).bind λa => (i.get env).bind λj => match a.2, j.2 with
  | .c (.t (.str s)),.c (.t (.int _ m))=>some (a.1/\j.1/\0<=m/\m.toNat < s.length,.c (.t (.int .u8 (s.getD m.toNat 0).toNat)),J)
  | _,_=>none
 | .slcS x f' al => (x.get env).bind λa => (PG env f').bind λl => (PG env al).bind λh => match a.2 with
  | .c (.t (.str s))=>
   let b:=h.2.getD s.length
   let c:=l.2.getD 0
   some (a.1/\l.1/\h.1/\0<=c/\c<=b/\b<=s.length,.c (.t (.str ((s.take b.toNat).drop c.toNat))),J)
  | _=>none
 | .slc sz x f' al => (x.get env).bind λa => (PG env f').bind λl => (PG env al).bind λh => match a.2 with
  | .c (.t (.slice es))=>
   let b:=h.2.getD es.length
   let c:=l.2.getD 0
   some (a.1/\l.1/\h.1/\0<=c/\c<=b/\b<=es.length/\(∀e,e∈es->e.length=sz),.c (.t (.slice ((es.take b.toNat).drop c.toNat))),J)
  | .c (.arr b kp off len)=>
   some (a.1/\l.1/\h.1/\0<=l.2.getD 0/\l.2.getD 0<=h.2.getD len/\h.2.getD len<=len/\sz=kp,
    .c (if f'.isNone then .arr b kp off (h.2.getD len).toNat else .JK b kp (off+(l.2.getD 0).toNat) ((h.2.getD len).toNat - (l.2.getD 0).toNat)),J)
  | _=>none
 | .slc0 x => (x.get env).bind λa => match a.2 with
  | .c (.t (.slice _)) | .c .eI | .c (.arr ..)=>some (a.1,.c .eI,J)
  | _=>none
 | .mkfn f caps => (MF env caps).bind λa => match aag a.2 with
  | some l=>some (a.1,.c (.fn f l),J)
  | none=>none
 | .ext x i => (x.get env).bind λa => match a.2 with
  | .fz vs=>(vs[i]?).map λv=>(a.1,v,J)
  | _=>none
 | .len str x => (x.get env).bind λa => match str, a.2 with
  | false,.c (.t (.slice es))=>some (a.1,.c (.t (.int .i64 es.length)),J)
  | false,.c (.arr _ _ _ l)=>some (a.1,.c (.t (.int .i64 l)),J)
  | false,.c .eI=>some (a.1,.c (.t (.int .i64 0)),J)
  | false,.c (.l' _ l)=>some (a.1,.c (.t (.int .i64 l)),J)
  | true,.c (.t (.str s))=>some (a.1,.c (.t (.int .i64 s.length)),J)
  | _,_=>none
 | .append sz bytes x y => (x.get env).bind λa => (y.get env).bind λd =>
  match UW a.2 d.2 with
  | some r=>acn J n sz a.1 d.1 r
  | none=>
  (TS J d.2).bind λys=>
  match a.2 with
  | .c .eI => some (a.1 /\ d.1 /\ (∀ e, e ∈ ys.1 -> e.length = sz) /\ (2 * ys.1.length + 192) * bytes <= Pz /\ ys.1.length <= Jf,
   .c (.arr n sz 0 ys.1.length),q1 J n (.arr sz ys.1))
  | .c (.arr b kp off len)=>match ec J b with
   | some (.arr agU es)=>
    if ys.2=some b then none else some (a.1/\d.1/\kp=sz/\agU=sz/\off=0/\len=es.length/\(∀e,e∈ys.1->e.length=sz)/\(2*(es.length+ys.1.length)+192)*bytes<=Pz/\es.length+ys.1.length<=Jf,
     .c (.arr n sz 0 (len+ys.1.length)),q1 (NA J b) n (.arr sz (es++ys.1)))
   | _=>none
  | _=>none
 | .max2 x y => (x.get env).bind λa => (y.get env).bind λb => match a.2, b.2 with
  | .c (.t (.int k p)),.c (.t (.int ix q))=>if k=ix then some (a.1/\b.1,.c (.t (.int k (max p q))),J)else none
  | _,_=>none
 | .min2 x y => (x.get env).bind λa => (y.get env).bind λb => match a.2, b.2 with
  | .c (.t (.int k p)),.c (.t (.int ix q))=>if k=ix then some (a.1/\b.1,.c (.t (.int k (min p q))),J)else none
  | _,_=>none
 | .allocS e e8=>some (True,.c (.ptr n 0),q1 (q1 J (n+1) (.buf e8 [])) n (.h4 e (.l' (n+1) 0)))
 | .bsliceT _ sz len z parts=>(toTs z).bind λNL=>(PC env sz (List.replicate len NL) parts).map λa=>(a.1,.c (.t (.slice a.2)),J)
 | .mkset=>some (True,.c (.mp n),q1 J n (.set []))
 | .lkset x k => (x.get env).bind λa => (k.get env).bind λd => match a.2, d.2 with
  | .c (.mp b),.c (.t (.str s))=>match ec J b with
   | some (.set ks)=>some (a.1/\d.1,.c (.t (.bool (OO ks s))),J)
   | _=>none
  | _,_=>none
 | .upset x k => (x.get env).bind λa => (k.get env).bind λd => match a.2, d.2 with
  | .c (.mp b),.c (.t (.str s))=>match ec J b with
   | some (.set ks)=>some (a.1/\d.1,.fz [],q1 J b (.set (OH ks s)))
   | _=>none
  | _,_=>none
 | .appendB e bytes x y => (x.get env).bind λa => (y.get env).bind λd => match a.2, d.2 with
  | .c (.l' b len),.c (.t (.str s))=>match ec J b with
   | some (.buf qa es)=>
    some (a.1/\d.1/\qa=e/\len=es.length/\(2*(es.length+s.length)+192)*bytes<=Pz/\es.length+s.length<=Jf,
     .c (.l' n (len+s.length)),q1 (NA J b) n (.buf e (es++s)))
   | _=>none
  | _,_=>none
 | .sdata x => (x.get env).bind λa => match a.2 with
  | .c (.l' b _)=>some (a.1,.c (.y2 b),J)
  | _=>none
 | .ustr e x k => (x.get env).bind λa => (k.get env).bind λd => match a.2, d.2 with
  | .c (.y2 b),.c (.t (.int .i64 m))=>match ec J b with
   | some (.buf qa es)=>some (a.1/\d.1/\qa=e/\m=es.length,.c (.t (.str es)),NA J b)
   | _=>none
  | _,_=>none
 | .eqNil .. | .call .. | .Oe .. =>none
where aag:List V->Option (List Nat)
 | []=>some []
 | .c (.ptr b 0)::r=>(aag r).map (b::·)
 | _=>none
def agS(ks:List (List UInt8))(es:List MapEntry):Prop:=ez (λk e=>e.key= .string ⟨k.toArray⟩/\e.val= .bool true) ks es
def pr(φ:q4)(w:World)(S:r3)(b:Nat):hE->Prop
 | .box cs=>(φ b).2≠0/\∃(vs:List Value) (E:TypeId),w.heap[(φ b).1]?=some (.cells vs.toArray E (0,0))/\ez (gb φ w S) cs vs/\∀j,¬S (φ b).1 j
 | .arr sz es => es.length <= (φ b).2 /\ es.length <= Jf /\ (∀ e, e ∈ es -> e.length = sz) /\ 0 < sz /\
  ((φ b).2≠0->∃(vs:List Value) (E:TypeId),w.heap[(φ b).1]?=some (.cells vs.toArray E (0,0))/\vs.length=(φ b).2*sz/\
   (∀(i j:Nat) e t,es[i]?=some e->e[j]?=some t->∃v,vs[i*sz+j]?=some v/\ik w S t v)/\∀j,¬S (φ b).1 j)
 | .set ks=>(φ b).2≠0/\(∃(es:List MapEntry) (clock:Nat),w.heap[(φ b).1]?=some (.map es.toArray clock)/\agS ks es)/\∀j,¬S (φ b).1 j
 | .buf E s => s.length <= (φ b).2 /\ s.length <= Jf /\
  ((φ b).2≠0->(∃vs:List Value,w.heap[(φ b).1]?=some (.cells vs.toArray E (0,0))/\vs.length=(φ b).2/\
   ∀(i:Nat) c,s[i]?=some c->vs[i]?=some (.int .u8 (UInt8.toNat c)))/\∀j,¬S (φ b).1 j)
 | .h4 E c=>(φ b).2≠0/\(∃p v:Value,w.heap[(φ b).1]?=some (.cells #[p,v] E (0,0))/\(p= .pointer none\/p= .pointer (some ⟨(φ b).1,0,none⟩))/\gb φ w S c v)/\∀j,¬S (φ b).1 j
 | .k6 sz es i o c => (es.length <= (φ b).2 /\ es.length <= Jf /\ (∀ e, e ∈ es -> e.length = sz) /\ 0 < sz /\ i < es.length /\ o < sz) /\
  (∃(vs:List Value) (E:TypeId),w.heap[(φ b).1]?=some (.cells vs.toArray E (0,0))/\vs.length=(φ b).2*sz/\
   (∀(qi j:Nat) e t,es[qi]?=some e->e[j]?=some t->¬(qi=i/\j=o)->∃v,vs[qi*sz+j]?=some v/\ik w S t v)/\∃v,vs[i*sz+o]?=some v/\gb φ w S c v)/\∀j,¬S (φ b).1 j
structure Yv (φ:q4) (w:World) (S:r3) (J:ep):Prop where
 blk:∀b x,ec J b=some x->pr φ w S b x
 inj:∀b hj x y,ec J b=some x->ec J hj=some y->b≠hj->(φ b).2≠0->(φ hj).2≠0->(φ b).1≠(φ hj).1
 st:∀b j,S b j->b < w.heap.size
structure Ext (B:Nat->Prop) (S hK:r3) (w w':World):Prop where
 os:w'.os=w.os
 tape:w'.tape=w.tape
 output:w'.output=w.output
 size:w.heap.size<=w'.heap.size
 block:∀b:Nat,b < w.heap.size->¬B b->w'.heap[b]?=w.heap[b]?
 mono:Lm w S w' hK
 Zi:∀b j,hK b j->S b j\/B b\/w.heap.size<=b
def hE.cx(n:Nat->Bool):hE->Bool
 | .box cs=>cs.all (C.cx n)
 | .arr _ _=>true
 | .set _=>true
 | .buf _ _=>true
 | .h4 _ c=>c.cx n
 | .k6 _ _ _ _ c=>c.cx n
def ins(n:Nat->Bool)(k:Nat):Nat->Bool:=λb=>n b || b==k
structure Ctx where
 abc:World
 akA:r3
 B:Nat->Prop
 XW:q4
 k:Nat
structure Rel (cv:Ctx) (nt:Nat) (φ:q4) (S:r3) (env:Env) (J:ep) (n:Nat->Bool) (a:Act) (w:World):Prop where
 hJ:Yv φ w S J
 LM:∀(k:Nat) g v,look env k=some (g,v)->g=true->∃x,a.tmps[k]?=some x/\km φ w S v x
 MY:∀(k:Nat) g v,look env k=some (g,v)->g=false->a.tmps[k]?=some undef
 LL:∀(k:Nat) g v,look env k=some (g,v)->g=true->v.cx n=true
 u2:∀(b:Nat) x,ec J b=some x->n b=true/\x.cx n=true
 size:a.tmps.size=nt
 defers:a.defers=[]
 ext:Ext cv.B cv.akA S cv.abc w
 own:∀(b:Nat) x,ec J b=some x->(φ b).2≠0->cv.B (φ b).1\/cv.abc.heap.size<=(φ b).1
 fix:∀b:Nat,b < cv.k->φ b=cv.XW b
 J7:∀b:Nat,b < cv.k->n b=true
section
variable {P:Program} {cv:Ctx} {nt:Nat} {φ:q4} {S:r3} {env:Env} {J:ep} {n:Nat->Bool} {key:Nat} {a:Act} {w:World}
def Good(P:Program)(cv:Ctx)(nt:Nat)(env:Env)(J':ep)(ML:Nat->Bool)(a:Act)(v:V)(r:Result Next):Prop:=
 ∃x hn hK w',(r= .ok (.value x) w'\/(r= .ok .skip w'/\x=undef))/\km hn w' hK v x/\v.cx ML=true/\Rel cv nt hn hK env J' ML a w'
theorem aGt{n:Nat->Bool}{k:Nat}:ins n k k=true:=by simp[ins]
theorem QH{n:Nat->Bool}{k b:Nat}(h:n b=true):ins n k b=true:=by simp[ins,h]
theorem C.MD{n ML:Nat->Bool}(h:∀b,n b=true->ML b=true){c:C}(ay:c.cx n=true):c.cx ML=true:=by
 cases c <;> simp only[C.cx,qx]at* <;> first | exact h _ ay | exactλb ai=>h b (ay b ai)
theorem ZX{n:Nat->Bool}:∀{vs:List V},(∀(i:Nat) v,vs[i]?=some v->v.cx n=true)->V.cx.V.u' n vs=true
 | [],_=>rfl
 | v::vs,h=>by
  simp only[V.cx.V.u',kc];exact⟨h 0 v rfl,ZX λi v cJ=>h (i+1) v cJ⟩
theorem V.MD{n ML:Nat->Bool}(h:∀b,n b=true->ML b=true):∀{v:V},v.cx n=true->v.cx ML=true
 | .c x,cJ=>by simp only[V.cx]at cJ ⊢;exact C.MD h cJ
 | .agg cs,cJ=>by
  simp only[V.cx,qx]at cJ ⊢;exactλc ay=>C.MD h (cJ c ay)
 | .fz vs,cJ=>by
  simp only[V.cx]at cJ ⊢;exact go vs cJ
where go:∀vs,V.cx.V.u' n vs=true->V.cx.V.u' ML vs=true
 | [],_=>rfl
 | v::vs,cJ=>by
  simp only[V.cx.V.u',kc]at cJ ⊢;exact⟨V.MD h cJ.1,go vs cJ.2⟩
theorem hE.MD{n ML:Nat->Bool}(h:∀b,n b=true->ML b=true){x:hE}(aa:x.cx n=true):x.cx ML=true:=by
 cases x with
 | box cs=>
  simp only[hE.cx,qx]at aa ⊢;exactλc ay=>C.MD h (aa c ay)
 | arr=>rfl
 | set=>rfl
 | buf=>rfl
 | h4 E c=>simp only[hE.cx]at aa ⊢;exact C.MD h aa
 | k6 sz es i o c=>simp only[hE.cx]at aa ⊢;exact C.MD h aa
theorem Rel.more(R:Rel cv nt φ S env J n a w){ML:Nat->Bool}(h:∀b,n b=true->ML b=true):Rel cv nt φ S env J ML a w:=
 ⟨R.hJ,R.LM,R.MY,λk g v aJ a8=>V.MD h (R.LL k g v aJ a8),λb x aa=>⟨h b (R.u2 b x aa).1,hE.MD h (R.u2 b x aa).2⟩,R.size,R.defers,R.ext,R.own,R.fix,λb ai=>h b (R.J7 b ai)⟩
theorem Good.pure(R:Rel cv nt φ S env J n a w){v:V}{x:Value}{r:Result Next}(ar:r= .ok (.value x) w)(cJ:km φ w S v x)(ai:v.cx n=true):
 Good P cv nt env J (ins n key) a v r:=⟨x,φ,S,w,.inl ar,cJ,V.MD (λ_ h=>QH h) ai,R.more λ_ h=>QH h⟩
theorem asc{v:Value}{c:C}(h:aj0 v=some c):gb φ w S c v/\c.cx n=true:=by
 unfold aj0 at h;split at h <;> simp at h
 . subst h;exact⟨.bool _,rfl⟩
 . subst h;exact⟨.int _ _,rfl⟩
 . obtain⟨hs,rfl⟩:=h;exact⟨.str _ hs,rfl⟩
 . subst h;exact⟨⟨_,rfl⟩,rfl⟩
 . subst h;exact⟨rfl,rfl⟩
 . subst h;exact⟨rfl,rfl⟩
 . subst h;exact⟨rfl,rfl⟩
theorem alA :∀{vs:List Value} {cs:List C},acf vs=some cs->ez (gb φ w S) cs vs/\cs.all (C.cx n)=true
 | [],cs,h=>by simp[acf]at h;subst h;exact⟨.nil,rfl⟩
 | v::vs,cs,h=>by
  simp only[acf,ha,fr]at h;obtain⟨c,ay,L0,r',rfl⟩:=h;have h1:=asc (φ:=φ) (w:=w) (S:=S) (n:=n) ay;have ah:=alA r';exact⟨.cons h1.1 ah.1,by simp[h1.2];simpa using ah.2⟩
theorem aEa{v:Value}{aiH:V}(h:al1 v=some aiH):km φ w S aiH v/\aiH.cx n=true:=by
 unfold al1 at h;split at h
 . rename_i cs;simp only[fr]at h;obtain⟨l,aJ,rfl⟩:=h;have:=alA (φ:=φ) (w:=w) (S:=S) (n:=n) aJ;refine⟨?_,by simpa[V.cx]using this.2⟩;have e:=km.agg (φ:=φ) (w:=w) (S:=S) this.1;omega
 . simp only[fr]at h;obtain⟨l,aJ,rfl⟩:=h;have:=asc (φ:=φ) (w:=w) (S:=S) (n:=n) aJ;exact⟨.c this.1,by simpa[V.cx]using this.2⟩
theorem f5(R:Rel cv nt φ S env J n a w){x:Operand}{qy:dJ}(aa:hC x=some qy){p:Prop}{v:V}(h:qy.get env=some (p,v))(a7:p):
 km φ w S v (a.eval x)/\v.cx n=true:=by
 cases x with
 | tmp t=>
  simp[hC]at aa;subst aa;simp only[dJ.get,fr]at h;obtain⟨⟨g,LG⟩,aJ,he⟩:=h;simp only[hz,hy]at he;obtain⟨rfl,rfl⟩:=he;obtain⟨y,b8,ar⟩:=R.LM t g LG aJ a7;refine⟨?_,R.LL t g LG aJ a7⟩;simp only[Act.eval,ajP,b8,SG];exact ar
 | const c=>
  simp only[hC,fr]at aa;obtain⟨aiH,PH,rfl⟩:=aa;simp[dJ.get]at h;obtain⟨_,rfl⟩:=h;exact aEa PH
 | global g=>simp[hC]at aa
 | func f=>
  simp[hC]at aa;subst aa;simp[dJ.get]at h;obtain⟨_,rfl⟩:=h;exact⟨.c (by simp[gb,Act.eval]),by simp[V.cx,C.cx]⟩
theorem Yl(R:Rel cv nt φ S env J n a w):∀{xs:List Operand} {ev:List dJ} (_:UQ xs=some ev) {p:Prop} {vs:List V} (_:MF env ev=some (p,vs)) (_:p),
 ez (km φ w S) vs (xs.map a.eval)/\V.cx.V.u' n vs=true
 | [],ev,aa,p,vs,h,a7=>by simp[UQ]at aa;subst aa;simp[MF]at h;obtain⟨_,rfl⟩:=h;exact⟨.nil,rfl⟩
 | x::xs,ev,aa,p,vs,h,a7=>by
  simp only[UQ,ha,fr]at aa;obtain⟨qy,O',VE,afE,rfl⟩:=aa;simp only[MF,ha,fr]at h;obtain⟨⟨q,v⟩,ee,⟨Zd,SN⟩,acO,he⟩:=h;simp only[hz,hy]at he;obtain⟨rfl,rfl⟩:=he;have h1:=f5 R O' ee a7.1;have ah:=Yl R afE acO a7.2
  exact⟨.cons h1.1 ah.1,by simp[V.cx.V.u',h1.2,ah.2]⟩
theorem km.O8{b:Bool}{x:Value}(h:km φ w S (.c (.t (.bool b))) x):x= .bool b:=by cases h with | c h=>cases h;rfl
theorem km.K7{k:IntKind}{m:Int}{x:Value}(h:km φ w S (.c (.t (.int k m))) x):x= .int k m:=by cases h with | c h=>cases h;rfl
theorem km.Qr{s:List UInt8}{x:Value}(h:km φ w S (.c (.t (.str s))) x):∃bs:ByteArray,x= .string bs/\bs.data.toList=s/\bs.size<=SY:=by cases h with | c h=>cases h with | str s h=>exact⟨s,rfl,rfl,h⟩
theorem km.M8{b o:Nat}{x:Value}(h:km φ w S (.c (.ptr b o)) x):x= .pointer (some ⟨(φ b).1,o,none⟩):=by cases h with | c h=>exact h
theorem km.OK{b sz i o:Nat}{x:Value}(h:km φ w S (.c (.mx b sz i o)) x):x= .pointer (some ⟨(φ b).1,i*sz+o,none⟩):=by cases h with | c h=>exact h
theorem km.aab{cs:List C}{x:Value}(h:km φ w S (.agg cs) x):∃vs:List Value,x= .agg vs.toArray/\ez (gb φ w S) cs vs:=by cases h with | agg h=>exact⟨_,rfl,h⟩
theorem km.xn{c:C}{x:Value}(h:km φ w S (.c c) x):gb φ w S c x:=by cases h with | c h=>exact h
theorem km.aae(b:Bool):km φ w S (.c (.t (.bool b))) (.bool b):= .c (.bool b)
theorem km.UJ(k:IntKind)(m:Int):km φ w S (.c (.t (.int k m))) (.int k m):= .c (.int k m)
theorem asC (R:Rel cv nt φ S env J n a w) {o:Oper} {x:Operand} (c7:o.op= .move x \/ o.op= .assign x) {qy:dJ} (aa:hC x=some qy)
 {p v J'} (hk:n key=false) (h:dy (.mov qy) env J key=some (p,v,J')) (a7:p):Good P cv nt env J' (ins n key) a v ((execOp a.eval o).run P w):=by
 simp only[dy,fr]at h;obtain⟨⟨q,u⟩,ee,he⟩:=h;simp only[hz,hy]at he;obtain⟨rfl,rfl,rfl⟩:=he;have a8:=f5 R aa ee a7;refine Good.pure R ?_ a8.1 a8.2;rcases c7 with c7 | c7 <;> simp[execOp,c7]
theorem aEx (R:Rel cv nt φ S env J n a w) {o:Oper} {c x y:Operand} (c7:o.op= .pick c x y) {ac hc vy:dJ} (ay:hC c=some ac) (aa:hC x=some hc) (b8:hC y=some vy)
 {p v J'} (hk:n key=false) (h:dy (.pick ac hc vy) env J key=some (p,v,J')) (a7:p):Good P cv nt env J' (ins n key) a v ((execOp a.eval o).run P w):=by
 simp only[dy,ha]at h;obtain⟨⟨aj3,Wa⟩,aKn,⟨EJ,Hr⟩,iJ,⟨TM,TQ⟩,JP,he⟩:=h;simp only at he;split at he
 . rename_i b y0 t';simp only[hz,hy]at he;obtain⟨rfl,rfl,rfl⟩:=he;obtain⟨h1,ah,bJ⟩:=a7;have ai3:=(f5 R ay aKn h1).1.O8;cases b with
   | true=>
    have ex:=(f5 R aa iJ (ah rfl)).1.O8;exact Good.pure R (x:= .bool y0) (by simp[execOp,c7,ai3,asBool,ex]) (.aae _) rfl
   | false=>
    have anI:=(f5 R b8 JP (bJ rfl)).1.O8;exact Good.pure R (x:= .bool t') (by simp[execOp,c7,ai3,asBool,anI]) (.aae _) rfl
 . cases he
theorem Yo(b:ByteArray):b.data.toList.length=b.size:=by cases b;simp[ByteArray.size]
theorem aEy{op:BinOp}{s t r:T}{p:Prop}(h:RR op s t=some (p,r))(a7:p){ty:TypeId}{x y:Value}(aa:ik w S s x)(b8:ik w S t y):
 ∃z,(binOp op ty x y).run P w= .ok z w/\ik w S r z:=by
 have acF:∀a b:List UInt8,(a==b)=decide (a=b):=λa b=>by by_cases h:a=b <;> simp[h]
 unfold RR at h;split at h <;> (first | simp only[sr,hz,hy]at h | cases h)
 all_goals cases aa;cases b8
 case h_1=>obtain⟨rfl,rfl,rfl⟩:=h;exact⟨_,by simp[binOp,Op.intArith],.int _ _⟩
 case h_2=>obtain⟨rfl,rfl,rfl⟩:=h;exact⟨_,by simp[binOp,Op.intArith],.int _ _⟩
 case h_3=>obtain⟨rfl,rfl,rfl⟩:=h;exact⟨_,by simp[binOp,Op.intArith],.int _ _⟩
 case h_4=>obtain⟨rfl,rfl,rfl⟩:=h;exact⟨_,by simp[binOp,Op.intDiv,a7],.int _ _⟩
 case h_5=>obtain⟨rfl,rfl,rfl⟩:=h;exact⟨_,by simp[binOp,Op.intDiv,a7],.int _ _⟩
 case h_6=>obtain⟨rfl,rfl,rfl⟩:=h;exact⟨_,by simp[binOp,Op.intBits],.int _ _⟩
 case h_7=>obtain⟨rfl,rfl,rfl⟩:=h;exact⟨_,by simp[binOp,Op.intBits],.int _ _⟩
 case h_8=>obtain⟨rfl,rfl,rfl⟩:=h;exact⟨_,by simp[binOp,Op.intBits],.int _ _⟩
 case h_9=>obtain⟨rfl,rfl,rfl⟩:=h;exact⟨_,by simp[binOp,Op.intBits],.int _ _⟩
 case h_10=>obtain⟨rfl,rfl⟩:=h;exact⟨_,by simp only[binOp,Op.shift];rw[b' (by omega)];rfl,.int _ _⟩
 case h_11=>obtain⟨rfl,rfl⟩:=h;exact⟨_,by simp only[binOp,Op.shift];rw[b' (by omega)];rfl,.int _ _⟩
 case h_12=>obtain⟨rfl,rfl,rfl⟩:=h;exact⟨_,by simp[binOp,Op.intCmp];rfl,.bool _⟩
 case h_13=>obtain⟨rfl,rfl,rfl⟩:=h;exact⟨_,by simp[binOp,Op.intCmp,bne,BEq.beq],.bool _⟩
 case h_14=>obtain⟨rfl,rfl,rfl⟩:=h;exact⟨_,by simp[binOp,Op.intCmp],.bool _⟩
 case h_15=>obtain⟨rfl,rfl,rfl⟩:=h;exact⟨_,by simp[binOp,Op.intCmp],.bool _⟩
 case h_16=>obtain⟨rfl,rfl,rfl⟩:=h;exact⟨_,by simp[binOp,Op.intCmp],.bool _⟩
 case h_17=>obtain⟨rfl,rfl,rfl⟩:=h;exact⟨_,by simp[binOp,Op.intCmp],.bool _⟩
 case h_18 s hs t ht=>
  obtain⟨rfl,rfl⟩:=h;simp only[Yo]at a7;have e:(s++t).data.toList=s.data.toList++t.data.toList:=by simp
  refine⟨.string (s++t),?_,e▸.str _ (by rw[ByteArray.size_append];exact a7)⟩;have:¬(((s.size+t.size:Nat):Int) > IntKind.i64.max):=by simp only[IntKind.max];unfold SY at a7;simp[IntKind.signed,IntKind.bits];omega
  simp only[binOp,Op.stringOp,b' this];rfl
 case h_19 s hs t ht=>obtain⟨rfl,rfl⟩:=h;exact⟨_,by simp only[binOp,Op.stringOp,ByteArray.toList_eq,acF];rfl,.bool _⟩
 case h_20 s hs t ht=>obtain⟨rfl,rfl⟩:=h;exact⟨_,by simp only[binOp,Op.stringOp,ByteArray.toList_eq,acF];rfl,.bool _⟩
 case h_21 s hs t ht=>obtain⟨rfl,rfl⟩:=h;exact⟨_,by simp only[binOp,Op.stringOp,ByteArray.toList_eq];rfl,.bool _⟩
 case h_22 s hs t ht=>obtain⟨rfl,rfl⟩:=h;exact⟨_,by simp only[binOp,Op.stringOp,ByteArray.toList_eq,acF];rfl,.bool _⟩
 case h_23 s hs t ht=>obtain⟨rfl,rfl⟩:=h;exact⟨_,by simp only[binOp,Op.stringOp,ByteArray.toList_eq,acF];rfl,.bool _⟩
 case h_24 s hs t ht=>obtain⟨rfl,rfl⟩:=h;exact⟨_,by simp only[binOp,Op.stringOp,ByteArray.toList_eq];rfl,.bool _⟩
theorem ak2{op:BinOp}{ty:TypeId}{x y:Operand}{u v:Value}(h1:u≠.nilIface)(ah:∀cs,u≠.agg cs):(eqGuard op ty x y u v).run P w= .ok () w:=by
 unfold eqGuard;simp_all
theorem ik.guard{t:T}{u:Value}(h:ik w S t u):u≠.nilIface/\∀cs,u≠.agg cs:=by
 cases h <;> exact⟨by simp,by simp⟩
theorem arU{ty:TypeId}(pq:P.underlying ty=some .bool)(b1 b2:Bool):(Op.equal ty (.bool b1) (.bool b2)).run P w= .ok (b1==b2) w:=by
 obtain⟨d,a6⟩:∃d,Op.maxDepth=d+1:=⟨9999,rfl⟩
 unfold Op.equal;rw[a6];unfold Op.equalIn;simp only[Sem.run_bind,run_underlying pq,Result.andThen_ok];rfl
theorem amg (R:Rel cv nt φ S env J n a w) {o:Oper} {op:BinOp} {ty HW:TypeId} {x y:Operand} (c7:o.op= .binOp op ty x y HW) {hc vy:dJ} (aa:hC x=some hc) (b8:hC y=some vy)
 {p v J'} (hk:n key=false) (h:dy (.bin op hc vy) env J key=some (p,v,J')) (a7:p):Good P cv nt env J' (ins n key) a v ((execOp a.eval o).run P w):=by
 simp only[dy,ha]at h;obtain⟨⟨EJ,Hr⟩,iJ,⟨TM,TQ⟩,JP,he⟩:=h;simp only at he;split at he
 . rename_i t1 t2;simp only[fr,hy]at he;obtain⟨⟨Lt,r⟩,ar,rfl,rfl,rfl⟩:=he;have h1:=(f5 R aa iJ a7.1).1.xn;have ah:=(f5 R b8 JP a7.2.1).1.xn;obtain⟨z,gA,N1⟩:=aEy (P:=P) (ty:=ty) ar a7.2.2 h1 ah;refine Good.pure R (x:=z) ?_ (.c N1) rfl
   have Xi:(eqGuard op ty x y (a.eval x) (a.eval y)).run P w= .ok () w:=ak2 (ik.guard h1).1 (ik.guard h1).2;simp[execOp,c7,Xi,gA]
 . cases he
theorem aDK (R:Rel cv nt φ S env J n a w) {o:Oper} {op:BinOp} {ty HW:TypeId} {x y:Operand} (c7:o.op= .binOp op ty x y HW) (qb:op= .eql \/ op= .neq) (pq:P.underlying ty=some .bool)
 {hc vy:dJ} (aa:hC x=some hc) (b8:hC y=some vy)
 {p v J'} (hk:n key=false) (h:dy (.eqBool (op== .neq) hc vy) env J key=some (p,v,J')) (a7:p):Good P cv nt env J' (ins n key) a v ((execOp a.eval o).run P w):=by
 simp only[dy,ha]at h;obtain⟨⟨EJ,Hr⟩,iJ,⟨TM,TQ⟩,JP,he⟩:=h;simp only at he;split at he
 . rename_i b1 b2;simp only[hz,hy]at he;obtain⟨rfl,rfl,rfl⟩:=he;have h1:=(f5 R aa iJ a7.1).1.O8;have ah:=(f5 R b8 JP a7.2).1.O8;refine Good.pure R (x:= .bool (if(op== .neq)then !(b1==b2)else(b1==b2))) ?_ (.aae _) rfl;have Xi:(eqGuard op ty x y (a.eval x) (a.eval y)).run P w= .ok () w:=ak2 (by rw[h1];simp) (by rw[h1];simp)
   have afv:(binOp op ty (a.eval x) (a.eval y)).run P w= .ok (.bool (if(op== .neq)then !(b1==b2)else(b1==b2))) w:=by
    rcases qb with rfl | rfl
    . rw[h1,ah];simp only[binOp,Sem.run_bind,arU pq];rfl
    . rw[h1,ah];simp only[binOp,Sem.run_bind,arU pq];rfl
   simp[execOp,c7,Xi,afv]
 . cases he
theorem aFv (R:Rel cv nt φ S env J n a w) {o:Oper} {ty:TypeId} {x:Operand} (c7:o.op= .unOp .not ty x) {hc:dJ} (aa:hC x=some hc)
 {p v J'} (hk:n key=false) (h:dy (.not hc) env J key=some (p,v,J')) (a7:p):Good P cv nt env J' (ins n key) a v ((execOp a.eval o).run P w):=by
 simp only[dy,ha]at h;obtain⟨⟨EJ,Hr⟩,iJ,he⟩:=h;simp only at he;split at he
 . simp only[hz,hy]at he;obtain⟨rfl,rfl,rfl⟩:=he;have h1:=(f5 R aa iJ a7).1.O8;exact Good.pure R (by simp[execOp,c7,h1,Op.unary]) (.aae _) rfl
 . cases he
theorem aFw (R:Rel cv nt φ S env J n a w) {o:Oper} {ty:TypeId} {x:Operand} {k:IntKind} (c7:o.op= .unOp .neg ty x) {hc:dJ} (aa:hC x=some hc)
 {p v J'} (hk:n key=false) (h:dy (.bin .sub (.const (.c (.t (.int k 0)))) hc) env J key=some (p,v,J')) (a7:p):Good P cv nt env J' (ins n key) a v ((execOp a.eval o).run P w):=by
 simp only[dy,dJ.get,eg,ha]at h;obtain⟨⟨EJ,Hr⟩,iJ,he⟩:=h;simp only at he;split at he
 . rename_i t1 t2 e';cases e';simp only[fr,hy]at he;obtain⟨⟨Lt,r⟩,ar,rfl,rfl,rfl⟩:=he;have ah:=(f5 R aa iJ a7.2.1).1;cases t2 <;> simp only[RR,reduceCtorEq,sr,hz,hy]at ar
   obtain⟨rfl,rfl,rfl⟩:=ar;have bJ:=ah.K7;exact Good.pure R (by simp[execOp,c7,bJ,Op.unary,Op.intArith]) (.UJ _ _) rfl
 . cases he
theorem aFx (R:Rel cv nt φ S env J n a w) {o:Oper} {ty:TypeId} {x:Operand} {k:IntKind} (c7:o.op= .unOp .xor ty x) {hc:dJ} (aa:hC x=some hc)
 {p v J'} (hk:n key=false) (h:dy (.bin .xor (.const (.c (.t (.int k (if k.signed then -1 else k.max))))) hc) env J key=some (p,v,J')) (a7:p):Good P cv nt env J' (ins n key) a v ((execOp a.eval o).run P w):=by
 simp only[dy,dJ.get,eg,ha]at h;obtain⟨⟨EJ,Hr⟩,iJ,he⟩:=h;simp only at he;split at he
 . rename_i t1 t2 e';cases e';simp only[fr,hy]at he;obtain⟨⟨Lt,r⟩,ar,rfl,rfl,rfl⟩:=he;have ah:=(f5 R aa iJ a7.2.1).1;cases t2 <;> simp only[RR,reduceCtorEq,sr,hz,hy]at ar
   obtain⟨rfl,rfl,rfl⟩:=ar;have bJ:=ah.K7;exact Good.pure R (by simp[execOp,c7,bJ,Op.unary,Op.intBits]) (.UJ _ _) rfl
 . cases he
theorem aEz (R:Rel cv nt φ S env J n a w) {o:Oper} {s d:TypeId} {x:Operand} (c7:o.op= .convert s d x) {MK k:IntKind} (hs:P.underlying s=some (.int MK)) (a6:P.underlying d=some (.int k)) {hc:dJ} (aa:hC x=some hc)
 {p v J'} (hk:n key=false) (h:dy (.conv k hc) env J key=some (p,v,J')) (a7:p):Good P cv nt env J' (ins n key) a v ((execOp a.eval o).run P w):=by
 simp only[dy,ha]at h;obtain⟨⟨EJ,Hr⟩,iJ,he⟩:=h;simp only at he;split at he
 . simp only[hz,hy]at he;obtain⟨rfl,rfl,rfl⟩:=he;have h1:=(f5 R aa iJ a7).1.K7;exact Good.pure R (by simp[execOp,c7,h1,convert,underlying,hs,a6,Conv.intToInt]) (.UJ _ _) rfl
 . cases he
theorem aDL(m:Int):(Utf8.encode m).size<=SY:=by
 unfold SY Utf8.encode;generalize (if Utf8.valid m=true then m.toNat else Utf8.runeError)=c;dsimp only
 (repeat' split) <;> simp[ByteArray.size]
theorem aFy (R:Rel cv nt φ S env J n a w) {o:Oper} {s d:TypeId} {x:Operand} (c7:o.op= .convert s d x) {MK:IntKind} (hs:P.underlying s=some (.int MK)) (a6:P.underlying d=some .string) {hc:dJ} (aa:hC x=some hc)
 {p v J'} (hk:n key=false) (h:dy (.i2s hc) env J key=some (p,v,J')) (a7:p):Good P cv nt env J' (ins n key) a v ((execOp a.eval o).run P w):=by
 simp only[dy,ha]at h;obtain⟨⟨EJ,Hr⟩,iJ,he⟩:=h;simp only at he;split at he
 . simp only[hz,hy]at he;obtain⟨rfl,rfl,rfl⟩:=he;have h1:=(f5 R aa iJ a7).1.K7;exact Good.pure R (by simp[execOp,c7,h1,convert,underlying,hs,a6,Conv.intToString]) (.c (.str _ (aDL _))) rfl
 . cases he
theorem aFz (R:Rel cv nt φ S env J n a w) {o:Oper} {s d:TypeId} {x:Operand} (c7:o.op= .convert s d x) (hs:P.underlying s=some .string) (a6:P.underlying d=some .string) {hc:dJ} (aa:hC x=some hc)
 {p v J'} (hk:n key=false) (h:dy (.s2s hc) env J key=some (p,v,J')) (a7:p):Good P cv nt env J' (ins n key) a v ((execOp a.eval o).run P w):=by
 simp only[dy,ha]at h;obtain⟨⟨EJ,Hr⟩,iJ,he⟩:=h;simp only at he;split at he
 . simp only[hz,hy]at he;obtain⟨rfl,rfl,rfl⟩:=he;have a8:=f5 R aa iJ a7;obtain⟨bs,h1,rfl,_⟩:=a8.1.Qr;refine Good.pure R (x:= .string bs) ?_ (h1▸a8.1) rfl;simp[execOp,c7,h1,convert,underlying,hs,a6]
 . cases he
theorem aD4 (R:Rel cv nt φ S env J n a w) {o:Oper} {x:Operand} (c7:o.op= .nilCheck x) {hc:dJ} (aa:hC x=some hc)
 {p v J'} (hk:n key=false) (h:dy (.nilCheck hc) env J key=some (p,v,J')) (a7:p):Good P cv nt env J' (ins n key) a v ((execOp a.eval o).run P w):=by
 simp only[dy,ha]at h;obtain⟨⟨EJ,Hr⟩,iJ,he⟩:=h;simp only at he;split at he <;> simp only[hz,hy,reduceCtorEq]at he
 all_goals
  obtain⟨rfl,rfl,rfl⟩:=he;have a8:=f5 R aa iJ a7;have h1:=a8.1.xn;refine Good.pure R (x:=a.eval x) ?_ a8.1 a8.2
 . simp only[gb]at h1;simp[execOp,c7,h1]
 . simp only[gb]at h1;simp[execOp,c7,h1]
 . obtain⟨_,_,_,h1,_⟩:=h1;simp[execOp,c7,h1]
theorem aEA (R:Rel cv nt φ S env J n a w) {o:Oper} {ty:TypeId} {x:Operand} {f:Nat} (c7:o.op= .fieldAddr ty x f) {fs:Array Field} (pq:P.underlying ty=some (.struct fs)) {fd:Field} (c6:fs[f]?=some fd)
 {m:Nat} (hm:C4 P fd.type=some m) (Q3:m≠0) {hc:dJ} (aa:hC x=some hc)
 {p v J'} (hk:n key=false) (h:dy (.fldA fd.offset hc) env J key=some (p,v,J')) (a7:p):Good P cv nt env J' (ins n key) a v ((execOp a.eval o).run P w):=by
 simp only[dy,ha]at h;obtain⟨⟨EJ,Hr⟩,iJ,he⟩:=h;simp only at he;have hu:∀w,(underlying ty).run P w= .ok (.struct fs) w:=by intro w;simp[underlying,pq]
 have hI:∀w,(sizeOf fd.type).run P w= .ok m w:=by intro w;simp only[C4,fr]at hm;obtain⟨i,al,rfl⟩:=hm;simp[sizeOf,typeInfo,al]
 have s':∀(b off:Nat),a.eval x= .pointer (some ⟨b,off,none⟩)->(execOp a.eval o).run P w= .ok (.value (.pointer (some ⟨b,off+fd.offset,none⟩))) w:=by
  intro b off e;simp[execOp,c7,e,Instr.fieldAt,hu,c6,Instr.sureAddr,fieldPlace,hI,Q3,Addr.add]
  try (split <;> simp_all)
 split at he <;> simp only[hz,hy,reduceCtorEq]at he
 all_goals
  obtain⟨rfl,rfl,rfl⟩:=he;have a8:=f5 R aa iJ a7;have h1:=a8.1.xn
 . simp only[gb]at h1;exact Good.pure R (s' _ _ h1) (.c rfl) a8.2
 . simp only[gb]at h1;exact Good.pure R (s' _ _ h1) (.c (by simp[gb,XJ])) a8.2
 . obtain⟨blk,off,f,h1,ak⟩:=h1;exact Good.pure R (s' _ _ h1) (.c ⟨blk,off,f,by simp[XJ],ak⟩) a8.2
theorem ez.aLz{w:World}{S:r3}{φ:q4}{ts:List T}{vs:List Value}(h:ez (ik w S) ts vs):ez (gb φ w S) (ts.map .t) vs:=by
 induction h with
 | nil=>exact .nil
 | cons h _ ih=>exact .cons h ih
theorem asD(n:Nat->Bool)(ts:List T):(ts.map C.t).all (C.cx n)=true:=by simp[C.cx]
theorem aEb{n:Nat->Bool}{cs:List C}(h:cs.all (C.cx n)=true)(o k:Nat):((cs.drop o).take k).all (C.cx n)=true:=by grind
theorem aey{ty:TypeId}{g:Bool}(a8:WG P ty=some g)(w:World):(isAgg ty).run P w= .ok g w:=by
 unfold WG at a8;split at a8 <;> simp_all [isAgg,underlying]
theorem PZ{ty:TypeId}{k:Nat}(hk:C4 P ty=some k)(w:World):(sizeOf ty).run P w= .ok k w:=by
 simp only[C4,fr]at hk;obtain⟨i,al,rfl⟩:=hk;simp[sizeOf,typeInfo,al]
theorem arV{ty:TypeId}{g:Bool×Nat}(h:Z2 P ty=some g):WG P ty=some g.1/\C4 P ty=some g.2/\(g.1=false->g.2=1):=by
 simp only[Z2,ha,sr,hz]at h
 grind
theorem aEW {ty:TypeId} {g:Bool} {k:Nat} (a8:WG P ty=some g) (hk:C4 P ty=some k) {b o:Nat} {vs:List Value}
 (ay:∀j,j < k->w.cell? ⟨b,o+j,none⟩=vs[j]?) (aJ:vs.length=k) (h1:g=false->k=1):
 (loadVar ty ⟨b,o,none⟩).run P w= .ok (if g then .agg vs.toArray else vs.getD 0 undef) w:=by
 cases g with
 | true=>
  have:=run_loadCells_list (P:=P) w ⟨b,o,none⟩ vs (λj v dx=>by
   have Qb:j < k:=by rw[<-aJ];exact(pJ.1 dx).1
   rw[<-dx,<-ay j Qb];unfold Addr.add;split
   . grind
   . rfl)
  rw[aJ]at this;simp[loadVar,aey a8,PZ hk,this]
 | false=>
  have LR:=h1 rfl;subst LR;obtain⟨v,rfl⟩:∃v,vs=[v]:=by
   match vs,aJ with
   | [v],_=>exact⟨v,rfl⟩
  have:=ay 0 (by omega);simp at this;simp[loadVar,aey a8,this]
end
section
variable {P:Program} {cv:Ctx} {nt:Nat} {φ:q4} {S:r3} {env:Env} {J:ep} {n:Nat->Bool} {key:Nat} {a:Act} {w:World}
theorem gb.single{c:C}{v:Value}(h:gb φ w S c v):v.cells=#[v]:=by
 have:=gb.OU h;cases v <;> simp[Value.oneCell']at this <;> rfl
theorem Vk{v:V}{x:Value}{cs:List C}(h:km φ w S v x)(ay:WH v=some cs)(ai:v.cx n=true):ez (gb φ w S) cs x.cells.toList/\cs.all (C.cx n)=true:=by
 cases h with
 | c h=>
  simp[WH]at ay;subst ay;rw[gb.single h];exact⟨.cons h .nil,by simpa[V.cx]using ai⟩
 | agg h=>
  simp[WH]at ay;subst ay;exact⟨by simpa[Value.cells]using h,by simpa[V.cx]using ai⟩
 | fz=>simp[WH]at ay
theorem asd{agg:Bool}{k o:Nat}{cs:List C}{vs:List Value}{v:V}(h:ez (gb φ w S) cs vs)(ai:cs.all (C.cx n)=true)(aJ:PQ agg k cs o=some v)(h1:agg=false -> k=1):
 o+k<=cs.length/\km φ w S v (if agg then .agg ((vs.drop o).take k).toArray else((vs.drop o).take k).getD 0 undef)/\v.cx n=true:=by
 unfold PQ at aJ;cases agg with
 | true=>
  simp only[q',sr,hz]at aJ;obtain⟨hle,rfl⟩:=aJ;refine⟨hle,?_,by simpa[V.cx]using aEb ai o k⟩
  simpa using km.agg ((h.drop o).take k)
 | false=>
  have:=h1 rfl;subst this;simp only[u1,vv,fr]at aJ;obtain⟨c,ay,rfl⟩:=aJ;obtain⟨x,aa,ar⟩:=h.get ay;have ey:o < cs.length:=(pJ.1 ay).1;refine⟨by omega,?_,?_⟩
  . have:((vs.drop o).take 1).getD 0 undef=x:=by grind
    simp only[u1,vv,this];exact .c ar
  . simp only[qx]at ai
    simpa[V.cx]using ai c (DJ ay)
theorem avz{agg:Bool}{k o:Nat}{ts:List T}{v:V}(aJ:loadT agg k ts o=some v):PQ agg k (ts.map .t) o=some v:=by
 unfold loadT at aJ;unfold PQ;cases agg with
 | true=>simpa using aJ
 | false=>simpa[Option.map_map]using aJ
theorem aGu{ty:TypeId}{g:Bool}{k off:Nat}{vs:List Value}(a8:WG P ty=some g)(hk:C4 P ty=some k)(h1:g=false -> k=1)(hle:off+k <=vs.length):
 (part ty vs.toArray off).run P w= .ok (if g then .agg ((vs.drop off).take k).toArray else((vs.drop off).take k).getD 0 undef) w:=by
 cases g with
 | true=>
  simp only[part,Sem.run_bind,aey a8,Result.andThen_ok,q',PZ hk,Sem.run_pure]
  congr 2
  apply Array.ext';simp[Array.toList_extract,List.extract,List.take_drop]
 | false=>
  have:=h1 rfl;subst this;have ey:off < vs.length:=by omega
  simp[part,aey a8,CJ ey,List.getD,SD]
theorem aFA (R:Rel cv nt φ S env J n a w) {o:Oper} {ty:TypeId} {x:Operand} {f:Nat} (c7:o.op= .field ty x f) {fs:Array Field} (pq:P.underlying ty=some (.struct fs)) {fd:Field} (c6:fs[f]?=some fd)
 {m:Nat} (hm:C4 P fd.type=some m) {g:Bool} (a8:WG P fd.type=some g) (h1:g=false->m=1) {hc:dJ} (aa:hC x=some hc)
 {p v J'} (hk:n key=false) (h:dy (.fld g fd.offset m hc) env J key=some (p,v,J')) (a7:p):Good P cv nt env J' (ins n key) a v ((execOp a.eval o).run P w):=by
 simp only[dy,ha]at h;obtain⟨⟨EJ,Hr⟩,iJ,he⟩:=h;simp only at he;split at he
 . rename_i cs;simp only[fr,hy]at he;obtain⟨v0,nk,rfl,rfl,rfl⟩:=he;have Jm:=f5 R aa iJ a7;obtain⟨vs,x0,ny⟩:=Jm.1.aab;obtain⟨hle,LS,ai⟩:=asd ny (by simpa[V.cx]using Jm.2) nk h1;have ar:=aGu (P:=P) (w:=w) (vs:=vs) a8 hm h1 (by rw[<-ny.length];exact hle)
   exact Good.pure R (by simp[execOp,c7,x0,Instr.field,underlying,pq,c6,asAgg,ar]) LS ai
 . cases he
theorem aFB (R:Rel cv nt φ S env J n a w) {o:Oper} {x:Operand} {i:Nat} (c7:o.op= .extract x i) {hc:dJ} (aa:hC x=some hc)
 {p v J'} (hk:n key=false) (h:dy (.ext hc i) env J key=some (p,v,J')) (a7:p):Good P cv nt env J' (ins n key) a v ((execOp a.eval o).run P w):=by
 simp only[dy,ha]at h;obtain⟨⟨EJ,Hr⟩,iJ,he⟩:=h;simp only at he;split at he
 . rename_i vs;simp only[fr,hy]at he;obtain⟨v0,nk,rfl,rfl,rfl⟩:=he;have Jm:=f5 R aa iJ a7;generalize ch:a.eval x=y at Jm;obtain⟨ar,ai⟩:=Jm;cases ar with
   | fz _ xs aJ ak=>
    have ey:i < xs.length:=by rw[<-aJ];exact(pJ.1 nk).1
    have Pn:xs[i]?=some xs[i]:=CJ ey;refine Good.pure R (x:=xs[i]) ?_ (ak i _ _ nk Pn) (Vn (by simpa[V.cx]using ai) nk);simp[execOp,c7,ch,Instr.extract,Pn]
 . cases he
theorem aEB (R:Rel cv nt φ S env J n a w) {o:Oper} {x y:Operand} {amD:Array TypeId} (c7:o.op= .call {callee:= .builtin .max,args:=#[x,y],argTypes:=amD}) {hc vy:dJ} (aa:hC x=some hc) (b8:hC y=some vy)
 {p v J'} (hk:n key=false) (h:dy (.max2 hc vy) env J key=some (p,v,J')) (a7:p):Good P cv nt env J' (ins n key) a v ((execOp a.eval o).run P w):=by
 simp only[dy,ha]at h;obtain⟨⟨EJ,Hr⟩,iJ,⟨TM,TQ⟩,JP,he⟩:=h;simp only at he;split at he
 . rename_i k p ix q;simp only[sr,hz,hy]at he;obtain⟨rfl,rfl,rfl,rfl⟩:=he;have h1:=(f5 R aa iJ a7.1).1.K7;have ah:=(f5 R b8 JP a7.2).1.K7;refine Good.pure R (x:= .int k (max p q)) ?_ (.UJ _ _) rfl;have:(if p < q then q else p)=max p q:=by omega
   simp[execOp,c7,resolve,invoke,builtin,Builtin.max_,Builtin.max2,h1,ah,Go.resolve,this]
 . cases he
theorem aEC (R:Rel cv nt φ S env J n a w) {o:Oper} {x y:Operand} {amD:Array TypeId} (c7:o.op= .call {callee:= .builtin .min,args:=#[x,y],argTypes:=amD}) {hc vy:dJ} (aa:hC x=some hc) (b8:hC y=some vy)
 {p v J'} (hk:n key=false) (h:dy (.min2 hc vy) env J key=some (p,v,J')) (a7:p):Good P cv nt env J' (ins n key) a v ((execOp a.eval o).run P w):=by
 simp only[dy,ha]at h;obtain⟨⟨EJ,Hr⟩,iJ,⟨TM,TQ⟩,JP,he⟩:=h;simp only at he;split at he
 . rename_i k p ix q;simp only[sr,hz,hy]at he;obtain⟨rfl,rfl,rfl,rfl⟩:=he;have h1:=(f5 R aa iJ a7.1).1.K7;have ah:=(f5 R b8 JP a7.2).1.K7;refine Good.pure R (x:= .int k (min p q)) ?_ (.UJ _ _) rfl;have:(if q < p then q else p)=min p q:=by omega
   simp[execOp,c7,invoke,builtin,Builtin.min_,Builtin.min2,h1,ah,Go.resolve,this]
 . cases he
theorem ik.Qq{es:List (List T)}{v:Value}(h:ik w S (.slice es) v):∃(a:Option Addr) (cap sz b o:Nat) (f:Nat -> Nat -> Value),v= .slice a es.length cap /\ es.length <=cap /\ es.length <=Jf /\ (∀e,e∈es -> e.length=sz) /\ (es≠[] -> a=some ⟨b,o,none⟩) /\
 (∀i j:Nat,i < es.length->j < sz->S b (o+i*sz+j)/\w.cell? ⟨b,o+i*sz+j,none⟩=some (f i j))/\(∀(i j:Nat) e t,es[i]?=some e->e[j]?=some t->ik w S t (f i j)):=by
 cases h;exact⟨_,_,_,_,_,_,rfl,by assumption,by assumption,by assumption,by assumption,by assumption,by assumption⟩
theorem gb.MB{b sz off len:Nat}{v:Value}(h:gb φ w S (.arr b sz off len) v):∃a,v= .slice a len ((φ b).2 - off)/\((φ b).2≠0->a=some ⟨(φ b).1,off*sz,none⟩)/\off+len<=(φ b).2:=h
theorem asE (R:Rel cv nt φ S env J n a w) {o:Oper} {x:Operand} {ty:TypeId} (c7:o.op= .call {callee:= .builtin .len,args:=#[x],argTypes:=#[ty]}) {str:Bool}
 (pq:if str then P.underlying ty=some .string else ∃e,P.underlying ty=some (.slice e)) {hc:dJ} (aa:hC x=some hc)
 {p v J'} (hk:n key=false) (h:dy (.len str hc) env J key=some (p,v,J')) (a7:p):Good P cv nt env J' (ins n key) a v ((execOp a.eval o).run P w):=by
 simp only[dy,ha]at h;obtain⟨⟨EJ,Hr⟩,iJ,he⟩:=h;simp only at he;split at he <;> simp only[hz,hy,reduceCtorEq]at he
 all_goals
  obtain⟨rfl,rfl,rfl⟩:=he;have h1:=(f5 R aa iJ a7).1.xn
 . obtain⟨e,pq⟩:=pq;obtain⟨pa,cap,_,_,_,_,h1,_⟩:=ik.Qq h1;exact Good.pure R (by simp[execOp,c7,Go.resolve,invoke,builtin,Builtin.len_,underlying,pq,h1,goInt]) (.UJ _ _) rfl
 . obtain⟨e,pq⟩:=pq;obtain⟨pa,h1,_⟩:=gb.MB h1;exact Good.pure R (by simp[execOp,c7,Go.resolve,invoke,builtin,Builtin.len_,underlying,pq,h1,goInt]) (.UJ _ _) rfl
 . obtain⟨e,pq⟩:=pq;obtain⟨pa,h1⟩:=h1;exact Good.pure R (by simp[execOp,c7,Go.resolve,invoke,builtin,Builtin.len_,underlying,pq,h1,goInt]) (.UJ _ _) rfl
 . obtain⟨e,pq⟩:=pq;rename_i b l;obtain⟨pa,cap,h1⟩:∃pa cap,a.eval x= .slice pa l cap:=by
    obtain⟨hle,MK,hg⟩:=h1
    grind
   exact Good.pure R (by simp[execOp,c7,Go.resolve,invoke,builtin,Builtin.len_,underlying,pq,h1,goInt]) (.UJ _ _) rfl
 . simp only[q']at pq;obtain⟨bs,NU,rfl,_⟩:=km.Qr (.c h1);exact Good.pure R (x:= .int .i64 bs.size) (by simp[execOp,c7,Go.resolve,invoke,builtin,Builtin.len_,underlying,pq,NU,goInt]) (by rw[Yo];exact .UJ _ _) rfl
theorem aED (R:Rel cv nt φ S env J n a w) {o:Oper} {ty:TypeId} {x i:Operand} (c7:o.op= .indexAddr ty x i) {e:TypeId} (pq:P.underlying ty=some (.slice e)) {sz:Nat} (hI:C4 P e=some sz) (h0:sz≠0)
 {hc RP:dJ} (aa:hC x=some hc) (al:hC i=some RP)
 {p v J'} (hk:n key=false) (h:dy (.idxA sz hc RP) env J key=some (p,v,J')) (a7:p):Good P cv nt env J' (ins n key) a v ((execOp a.eval o).run P w):=by
 simp only[dy,ha]at h;obtain⟨⟨EJ,Hr⟩,iJ,⟨pi,ayZ⟩,TB,he⟩:=h;simp only at he;have Oj:∀(b off m:Nat),(Addr.add ⟨b,off,none⟩ (m*sz):Addr)=⟨b,off+m*sz,none⟩:=by
  intro b off m;unfold Addr.add;split
  . grind
  . rfl
 split at he
 . rename_i es k m;simp only[hz,hy]at he;obtain⟨rfl,rfl,rfl⟩:=he;obtain⟨xJ,vt,Q3,Xt,R7⟩:=a7;have h1:=(f5 R aa iJ xJ).1.xn;have ah:=(f5 R al TB vt).1.K7;obtain⟨pa,cap,kp,b,off,f,h1,OP,K5,ajs,ch,ay,cJ⟩:=ik.Qq h1;have hv:es≠[]:=by intro h;subst h;simp at Xt
   have axd:es[m.toNat]?=some (el es m.toNat):=by unfold el;rw[List.getD,CJ Xt];rfl
   have aaK:kp=sz:=by rw[<-R7];exact(ajs _ (DJ axd)).symm
   subst aaK;rw[ch hv]at h1;refine Good.pure R (x:= .pointer (some ⟨b,off+m.toNat*kp,none⟩)) ?_ ?_ rfl
   . have Om:0<=m/\m < (es.length:Int):=⟨Q3,by omega⟩
     simp[execOp,c7,h1,ah,Instr.indexAt,asIntOf,underlying,pq,Om,PZ hI,Oj]
   . refine .c ⟨b,off+m.toNat*kp,λj=>f m.toNat j,by simp,λj t ht=>?_⟩;have dx:j < kp:=by rw[<-R7];exact(pJ.1 ht).1
     exact⟨(ay _ _ Xt dx).1,(ay _ _ Xt dx).2,cJ _ _ _ _ axd ht⟩
 . rename_i b kp off len k m;simp only[hz,hy]at he;obtain⟨rfl,rfl,rfl⟩:=he;obtain⟨xJ,vt,Q3,Xt,rfl⟩:=a7;have a8:=f5 R aa iJ xJ;have h1:=a8.1.xn;have ah:=(f5 R al TB vt).1.K7;obtain⟨pa,h1,ch,hle⟩:=gb.MB h1;rw[ch (by omega)]at h1
   refine Good.pure R (x:= .pointer (some ⟨(φ b).1,off*sz+m.toNat*sz,none⟩)) ?_ (.c ?_) (by simpa[V.cx,C.cx]using a8.2)
   . have Om:0<=m/\m < (len:Int):=⟨Q3,by omega⟩
     simp[execOp,c7,h1,ah,Instr.indexAt,asIntOf,underlying,pq,Om,PZ hI,Oj]
   . simp[gb,Lc]
 . cases he
theorem aEE (R:Rel cv nt φ S env J n a w) {o:Oper} {ty:TypeId} {x i:Operand} (c7:o.op= .index ty x i) (pq:P.underlying ty=some .string)
 {hc RP:dJ} (aa:hC x=some hc) (al:hC i=some RP)
 {p v J'} (hk:n key=false) (h:dy (.idxS hc RP) env J key=some (p,v,J')) (a7:p):Good P cv nt env J' (ins n key) a v ((execOp a.eval o).run P w):=by
 simp only[dy,ha]at h;obtain⟨⟨EJ,Hr⟩,iJ,⟨pi,ayZ⟩,TB,he⟩:=h;simp only at he;split at he
 . rename_i s k m;simp only[hz,hy]at he;obtain⟨rfl,rfl,rfl⟩:=he;obtain⟨xJ,vt,Q3,Xt⟩:=a7;obtain⟨bs,h1,rfl,hs⟩:=(f5 R aa iJ xJ).1.Qr;have ah:=(f5 R al TB vt).1.K7;have ey:m.toNat < bs.size:=by rw[<-Yo];exact Xt
   refine Good.pure R (x:= .int .u8 (bs.data.toList.getD m.toNat 0).toNat) ?_ (.UJ _ _) rfl;have ai:bs[m.toNat]?=some (bs.data.toList.getD m.toNat 0):=by
    rw[getElem?_pos bs m.toNat ey]
    congr 1
    simp only[List.getD,CJ Xt,SG,Array.getElem_toList];rfl
   simp[execOp,c7,h1,ah,Instr.index,asIntOf,underlying,pq,Q3,ai]
 . cases he
theorem aqv :∀{vs:List V} {l:List Nat} {xs:List Value},dy.aag vs=some l -> ez (km φ w S) vs xs -> V.cx.V.u' n vs=true ->
 xs=l.map (λb=>Value.pointer (some ⟨(φ b).1,0,none⟩))/\(l.all λb=>n b)=true
 | [],l,xs,h,ch,ai=>by simp[dy.aag]at h;subst h;cases ch;simp
 | v::vs,l,xs,h,ch,ai=>by
  cases ch with
  | cons ze ht=>
   unfold dy.aag at h;split at h
   . grind
   . rename_i b r e;cases e;simp only[fr]at h;obtain⟨Jg,MI,rfl⟩:=h;simp only[V.cx.V.u',kc]at ai;obtain⟨rfl,ah⟩:=aqv MI ht ai.2;have:=ze.M8;subst this;refine⟨by simp,?_⟩;simp only[V6,ah,Bool.and_true]
     simpa[V.cx,C.cx]using ai.1
   . cases h
theorem aEF (R:Rel cv nt φ S env J n a w) {o:Oper} {f:Nat} {caps:Array Operand} (c7:o.op= .makeFunc (.func f) #[] caps) {OI:List dJ} (aa:UQ caps.toList=some OI)
 {p v J'} (hk:n key=false) (h:dy (.mkfn f OI) env J key=some (p,v,J')) (a7:p):Good P cv nt env J' (ins n key) a v ((execOp a.eval o).run P w):=by
 simp only[dy,ha]at h;obtain⟨⟨EJ,vs⟩,iJ,he⟩:=h;simp only at he;split at he
 . rename_i l aJ;simp only[hz,hy]at he;obtain⟨rfl,rfl,rfl⟩:=he;have a8:=Yl R aa iJ a7;obtain⟨h1,ah⟩:=aqv aJ a8.1 a8.2;refine Good.pure R (x:= .func (.func f) #[] (l.map λb=>Value.pointer (some ⟨(φ b).1,0,none⟩)).toArray) ?_ (.c rfl) (by simpa[V.cx,C.cx]using ah)
   have:caps.map a.eval=(l.map λb=>Value.pointer (some ⟨(φ b).1,0,none⟩)).toArray:=by grind
   simp[execOp,c7,Instr.makeFunc,this]
 . cases he
theorem Ym(R:Rel cv nt φ S env J n a w){x:Option Operand}{hc:Option dJ}(aa:Qk x=some hc){p:Prop}{m:Option Int}(h:PG env hc=some (p,m))(a7:p):
 (x.map a.eval=none/\m=none)\/∃k i,x.map a.eval=some (.int k i)/\m=some i:=by
 cases x with
 | none=>simp[Qk]at aa;subst aa;simp[PG]at h;exact .inl ⟨rfl,h.2.symm⟩
 | some x=>
  simp only[Qk,fr]at aa;obtain⟨qy,O',rfl⟩:=aa;simp only[PG,ha]at h;obtain⟨⟨q,v⟩,ee,he⟩:=h;simp only at he;split at he
  . simp only[hz,hy]at he;obtain⟨rfl,rfl⟩:=he;have:=(f5 R O' ee a7).1.K7;exact .inr ⟨_,_,Jj some this,rfl⟩
  . cases he
theorem ahn {isSlice:Bool} {len cap:Nat} {f' al:Option Value} {l h:Option Int} (L6:(f'=none /\ l=none) \/ ∃k i,f'=some (.int k i) /\ l=some i) (YS:(al=none /\ h=none) \/ ∃k i,al=some (.int k i) /\ h=some i)
 (h0:0<=l.getD 0) (h1:l.getD 0<=h.getD len) (ah:h.getD len<=len) (bJ:len<=cap):
 (Instr.sliceBounds isSlice len cap f' al none).run P w= .ok ((l.getD 0).toNat,(h.getD len).toNat,cap) w:=by
 have ea:h.getD len<=(cap:Int):=by omega
 have hi:0<=h.getD (len:Int):=by omega
 rcases L6 with⟨rfl,rfl⟩ | ⟨k,i,rfl,rfl⟩ <;> rcases YS with⟨rfl,rfl⟩ | ⟨ix,qi,rfl,rfl⟩ <;> simp_all [Instr.sliceBounds,Instr.sliceBound,asIntOf]
 . omega
theorem aEG (R:Rel cv nt φ S env J n a w) {o:Oper} {ty:TypeId} {x:Operand} {f' al:Option Operand} (c7:o.op= .slice ty x f' al none) (pq:P.underlying ty=some .string)
 {hc:dJ} {OI Ug:Option dJ} (aa:hC x=some hc) (L6:Qk f'=some OI) (YS:Qk al=some Ug)
 {p v J'} (hk:n key=false) (h:dy (.slcS hc OI Ug) env J key=some (p,v,J')) (a7:p):Good P cv nt env J' (ins n key) a v ((execOp a.eval o).run P w):=by
 simp only[dy,ha]at h;obtain⟨⟨EJ,Hr⟩,iJ,⟨pl,l⟩,YQ,⟨ayg,h⟩,acJ,he⟩:=h;simp only at he;split at he
 . rename_i s;simp only[hz,hy]at he;obtain⟨rfl,rfl,rfl⟩:=he;obtain⟨xJ,vt,Xv,h0,h1,ah⟩:=a7;obtain⟨bs,Pl,rfl,hs⟩:=(f5 R aa iJ xJ).1.Qr;have aJ:=Ym R L6 YQ vt;have ak:=Ym R YS acJ Xv;rw[Yo]at h1 ah;have ai:=ahn (P:=P) (w:=w) (isSlice:=false) (cap:=bs.size) aJ ak h0 h1 ah (JA _);rw[Yo]
   have e:(bs.extract (l.getD 0).toNat (h.getD bs.size).toNat).data.toList=(bs.data.toList.take (h.getD bs.size).toNat).drop (l.getD 0).toNat:=by simp[ByteArray.data_extract,Array.toList_extract,List.extract,List.drop_take]
   refine Good.pure R (x:= .string (bs.extract (l.getD 0).toNat (h.getD bs.size).toNat)) ?_ (.c ?_) rfl
   . simp[execOp,c7,Instr.sliceAt,Instr.slice,underlying,pq,Pl,ai]
   . show ik w S _ _;rw[<-e];refine .str _ ?_;rw[ByteArray.size_extract];omega
 . cases he
theorem aFC (R:Rel cv nt φ S env J n a w) {o:Oper} {ty:TypeId} {x:Operand} {f' al:Option Operand} (c7:o.op= .slice ty x f' al none) {e:TypeId} (pq:P.underlying ty=some (.slice e)) {sz:Nat} (hI:C4 P e=some sz)
 {hc:dJ} {OI Ug:Option dJ} (aa:hC x=some hc) (L6:Qk f'=some OI) (YS:Qk al=some Ug)
 {p v J'} (hk:n key=false) (h:dy (.slc sz hc OI Ug) env J key=some (p,v,J')) (a7:p):Good P cv nt env J' (ins n key) a v ((execOp a.eval o).run P w):=by
 simp only[dy,ha]at h;obtain⟨⟨EJ,Hr⟩,iJ,⟨pl,l⟩,YQ,⟨ayg,h⟩,acJ,he⟩:=h;simp only at he;split at he
 . rename_i es;simp only[hz,hy]at he;obtain⟨rfl,rfl,rfl⟩:=he;obtain⟨xJ,vt,Xv,h0,h1,ah,R7⟩:=a7;obtain⟨pa,cap,kp,b,off,f,Pl,OP,K5,ajs,ch,ay,cJ⟩:=ik.Qq (f5 R aa iJ xJ).1.xn;have aJ:=Ym R L6 YQ vt;have ak:=Ym R YS acJ Xv;have ai:=ahn (P:=P) (w:=w) (isSlice:=true) (cap:=cap) aJ ak h0 h1 ah OP
   generalize s4:(l.getD 0).toNat=L at*;generalize hH:(h.getD (es.length:Int)).toNat=H at*;have aJD:L<=H:=by omega
   have aM3:H<=es.length:=by omega
   have hlen:((es.take H).drop L).length=H - L:=by simp;omega
   refine Good.pure R (x:= .slice (if cap=L then pa else pa.map (·.add (L*sz))) (H - L) (cap - L)) ?_ (.c ?_) rfl
   . simp[execOp,c7,Instr.sliceAt,Instr.slice,underlying,pq,Pl,ai,PZ hI]
   . show ik w S _ _;rw[<-hlen];have sK:∀(i:Nat) e,((es.take H).drop L)[i]?=some e->es[L+i]?=some e/\L+i < H:=by grind
     by_cases hv:es=[]
     . subst hv;simp;exact ik.slice [] _ _ 0 0 0 (λ_ _=>undef) (by simp) (by simp[Jf]) (by simp) (by simp) (by simp) (by simp)
     . have aaK:kp=sz:=by
        obtain⟨vK,On⟩:=ajQ es hv
        grind
       subst aaK;refine ik.slice _ _ _ kp b (off+L*kp) (λi j=>f (L+i) j) (by rw[hlen];omega) (by rw[hlen];omega) (λe he=>R7 e (agB (ao8 he))) ?_ ?_ ?_
       . intro g';have:L < H:=by grind
         rw[b' (by omega),ch hv];simp only[La,hz];unfold Addr.add;split
         . rename_i h;simp[h]
         . rfl
       . intro i j al dx;rw[hlen]at al;have:=ay (L+i) j (by omega) dx;rw[show off+L*kp+i*kp+j=off+(L+i)*kp+j by rw[Lc];omega];exact this
       . intro i j e t he ht;exact cJ _ _ _ _ (sK i e he).1 ht
 . rename_i b kp off len;simp only[hz,hy]at he;obtain⟨rfl,rfl,rfl⟩:=he;obtain⟨xJ,vt,Xv,h0,h1,ah,rfl⟩:=a7;have a8:=f5 R aa iJ xJ;have K3:n b=true:=by simpa[V.cx,C.cx]using a8.2
   obtain⟨pa,Pl,ch,hle⟩:=gb.MB a8.1.xn;have aJ:=Ym R L6 YQ vt;have ak:=Ym R YS acJ Xv;have ai:=ahn (P:=P) (w:=w) (isSlice:=true) (cap:=(φ b).2 - off) aJ ak h0 h1 ah (by omega);have Oj:∀(q o m:Nat),(Addr.add ⟨q,o,none⟩ m:Addr)=⟨q,o+m,none⟩:=by
    intro q o m;unfold Addr.add;split
    . grind
    . rfl
   have aKD:OI.isNone=true->l.getD 0=0:=by
    intro g';cases OI with
    | some _=>cases g'
    | none=>simp only[PG,hz,hy]at YQ;rw[<-YQ.2];rfl
   generalize l.getD 0=L at*;generalize h.getD (len:Int)=H at*;refine Good.pure R (x:= .slice (if(φ b).2 - off=L.toNat then pa else pa.map (·.add (L.toNat*sz))) (H.toNat - L.toNat) ((φ b).2 - off - L.toNat)) ?_ (.c ?_) ?_
   . simp[execOp,c7,Instr.sliceAt,Instr.slice,underlying,pq,Pl,ai,PZ hI]
   . by_cases g':OI.isNone=true
     . rw[b6 g'];have:=aKD g';subst this;refine⟨_,rfl,λay=>?_,by omega⟩;split
       . exact ch ay
       . rw[ch ay];simp[Oj]
     . rw[b' g'];refine⟨_,_,rfl,λay=>?_,by omega⟩;rw[b' (by omega),ch (by omega)];simp[Oj,Lc]
   . split <;> simpa[V.cx,C.cx]using K3
 . cases he
theorem aEH (R:Rel cv nt φ S env J n a w) {o:Oper} {ty:TypeId} {x:Operand} {k ix:IntKind} (c7:o.op= .slice ty x none (some (.const (.int k 0))) (some (.const (.int ix 0)))) {e:TypeId} (pq:P.underlying ty=some (.slice e))
 {sz:Nat} (hI:C4 P e=some sz) {hc:dJ} (aa:hC x=some hc)
 {p v J'} (hk:n key=false) (h:dy (.slc0 hc) env J key=some (p,v,J')) (a7:p):Good P cv nt env J' (ins n key) a v ((execOp a.eval o).run P w):=by
 simp only[dy,ha]at h;obtain⟨⟨EJ,Hr⟩,iJ,he⟩:=h;simp only at he;have s':∀(pa:Option Addr) (l c:Nat),a.eval x= .slice pa l c->∃a2,(execOp a.eval o).run P w= .ok (.value (.slice a2 0 0)) w:=by
  intro pa l c Pl;have vK:∀v,a.eval (.const v)=v:=λ_=>rfl
  exact⟨_,by simp[execOp,c7,Instr.sliceAt,Instr.slice,underlying,pq,Pl,PZ hI,Instr.sliceBounds,Instr.sliceBound,asIntOf,vK];rfl⟩
 split at he <;> simp only[hz,hy,reduceCtorEq]at he
 all_goals
  obtain⟨rfl,rfl,rfl⟩:=he;have h1:=(f5 R aa iJ a7).1.xn
 . obtain⟨pa,cap,kp,b,off,f,Pl,_⟩:=ik.Qq h1;obtain⟨a2,ah⟩:=s' _ _ _ Pl;exact Good.pure R ah (.c ⟨a2,rfl⟩) rfl
 . obtain⟨pa,Pl⟩:=h1;obtain⟨a2,ah⟩:=s' _ _ _ Pl;exact Good.pure R ah (.c ⟨a2,rfl⟩) rfl
 . obtain⟨pa,Pl,_⟩:=gb.MB h1;obtain⟨a2,ah⟩:=s' _ _ _ Pl;exact Good.pure R ah (.c ⟨a2,rfl⟩) rfl
end
section
variable {P:Program} {cv:Ctx} {nt:Nat} {φ:q4} {S:r3} {env:Env} {J:ep} {n:Nat->Bool} {key:Nat} {a:Act} {w:World}
theorem OZ{b:Nat}{vs:List Value}{E:TypeId}{ai7:Nat×Nat}(h:w.heap[b]?=some (.cells vs.toArray E ai7))(j:Nat):w.cell? ⟨b,j,none⟩=vs[j]?:=by
 simp[World.cell?,h]
theorem Zz {ty:TypeId} {g:Bool×Nat} (a8:Z2 P ty=some g) {blk off0 o:Nat} {cs:List C} {vs:List Value} {v:V}
 (ny:ez (gb φ w S) cs vs) (ai:cs.all (C.cx n)=true) (ay:∀j,j < vs.length->w.cell? ⟨blk,off0+j,none⟩=vs[j]?) (aJ:PQ g.1 g.2 cs o=some v):
 ∃x,(loadVar ty ⟨blk,off0+o,none⟩).run P w= .ok x w/\km φ w S v x/\v.cx n=true:=by
 obtain⟨h1,ah,bJ⟩:=arV a8;obtain⟨hle,LS,P'⟩:=asd ny ai aJ bJ;rw[ny.length]at hle;refine⟨_,aEW h1 ah (vs:=(vs.drop o).take g.2) ?_ (by simp;omega) bJ,LS,P'⟩;intro j dx;rw[SD,b6 dx,Y8,<-ay (o+j) (by omega),XJ]
theorem ez.ayp{ts:List T}{xs:List Value}(h:ez (ik w S) ts xs):ez (gb φ w S) (ts.map .t) xs:=ez.aLz h
theorem amv{b sz i:Nat}{es:List (List T)}(h:pr φ w S b (.arr sz es))(al:i < es.length):
 (φ b).2≠0/\∃(vs:List Value) (E:TypeId) (xs:List Value),w.heap[(φ b).1]?=some (.cells vs.toArray E (0,0))/\vs.length=(φ b).2*sz/\(el es i).length=sz/\xs.length=sz/\ez (ik w S) (el es i) xs/\
  (∀j,j < sz->vs[i*sz+j]?=xs[j]?)/\(i+1)*sz<=vs.length:=by
 obtain⟨h1,ah,bJ,ea,hi⟩:=h;have h0:(φ b).2≠0:=by omega
 obtain⟨vs,E,ak,aJ,cJ,hs⟩:=hi h0;have R7:es[i]?=some (el es i):=by unfold el;rw[List.getD,CJ al];rfl
 have hlen:(el es i).length=sz:=bJ _ (DJ R7);have hle:(i+1)*sz<=vs.length:=by rw[aJ];exact Ji _ (by omega)
 have aKA:i*sz+sz<=vs.length:=by rw[Lc]at hle;omega
 refine⟨h0,vs,E,(vs.drop (i*sz)).take sz,ak,aJ,hlen,by simp;omega,?_,?_,hle⟩
 . refine ez.SI (by simp;omega) ?_;intro j t x ht aa;obtain⟨y,b8,ar⟩:=cJ _ _ _ _ R7 ht;rw[SD]at aa;split at aa
   . rw[Y8,b8]at aa;cases aa;exact ar
   . cases aa
 . intro j dx;rw[SD,b6 dx,Y8]
theorem aEI (R:Rel cv nt φ S env J n a w) {o:Oper} {ty:TypeId} {x:Operand} (c7:o.op= .load ty x) {g:Bool×Nat} (a8:Z2 P ty=some g) {hc:dJ} (aa:hC x=some hc)
 {p v J'} (hk:n key=false) (h:dy (.load g.1 g.2 hc) env J key=some (p,v,J')) (a7:p):Good P cv nt env J' (ins n key) a v ((execOp a.eval o).run P w):=by
 simp only[dy,ha]at h;obtain⟨⟨EJ,Hr⟩,iJ,he⟩:=h;simp only at he;have s':∀(blk off:Nat) (y:Value),a.eval x= .pointer (some ⟨blk,off,none⟩)->(loadVar ty ⟨blk,off,none⟩).run P w= .ok y w->(execOp a.eval o).run P w= .ok (.value y) w:=by
  intro blk off y h1 ah;simp[execOp,c7,Instr.loadAt,Instr.sureAddr,h1,ah]
 split at he
 . rename_i b q5;split at he
   . rename_i cs kx;simp only[fr,hy]at he;obtain⟨v0,nk,rfl,rfl,rfl⟩:=he;have h1:=(f5 R aa iJ a7).1.M8;obtain⟨_,vs,E,ak,ny,_⟩:=R.hJ.blk _ _ kx;have ai:=(R.u2 _ _ kx).2;obtain⟨y,b8,LS,P'⟩:=Zz (n:=n) a8 ny ai (λj _=>by rw[OZ ak,Jq]) nk;rw[Jq]at b8
     exact Good.pure R (s' _ _ _ h1 b8) LS P'
   . rename_i E c kx;split at he
     . rename_i Q1;obtain⟨aKo,rfl⟩:=Q1;simp only[hz,hy]at he;obtain⟨rfl,rfl,rfl⟩:=he;have h1:=(f5 R aa iJ a7).1.M8;obtain⟨_,⟨aa2,UU,ak,aov,acQ⟩,_⟩:=R.hJ.blk _ _ kx;have ai:=(R.u2 _ _ kx).2;have ajo:aa2.oneCell'=true:=by rcases aov with rfl | rfl <;> rfl
       have ny:ez (gb φ w S) [.dead,c] [aa2,UU]:= .cons ajo (.cons acQ .nil);obtain⟨y,b8,LS,P'⟩:=Zz (n:=n) (vs:=[aa2,UU]) (blk:=(φ b).1) (off0:=0) (o:=1) (v:= .c c) a8 ny (by simp only[V6,List.all_nil,Bool.and_true];exact ai) (λj _=>by rw[OZ (vs:=[aa2,UU]) ak,Jq]) (by simp[PQ,aKo]);rw[Jq]at b8
       exact Good.pure R (s' _ _ _ h1 b8) LS P'
     . cases he
   . cases he
 . rename_i b sz i q5;split at he
   . rename_i kp es kx;simp only[fr,hy]at he;obtain⟨v0,nk,rfl,rfl,rfl⟩:=he;obtain⟨xJ,rfl,al⟩:=a7;have h1:=(f5 R aa iJ xJ).1.OK;obtain⟨_,vs,E,xs,ak,aJ,hlen,Pm,ny,sK,_⟩:=amv (R.hJ.blk _ _ kx) al
     obtain⟨y,b8,LS,P'⟩:=Zz (n:=n) a8 (ez.ayp ny) (asD n _) (off0:=i*sz) (λj dx=>by rw[OZ ak,sK j (by omega)]) (avz nk);exact Good.pure R (s' _ _ _ h1 b8) LS P'
   . rename_i kp es i2 V0 c kx;split at he
     . cases he
     . rename_i P8;have P8:g.1=false:=by simpa using P8
       obtain⟨⟨a1,a2,a3,a4,a5,n'⟩,⟨vs,E,hg,hl,j2,ae9,px,mJ⟩,nJ⟩:=R.hJ.blk _ _ kx;have ai:=(R.u2 _ _ kx).2;split at he
       . rename_i Jn;subst Jn;simp only[hz,hy]at he;obtain⟨rfl,rfl,rfl⟩:=he;obtain⟨xJ,rfl,rfl⟩:=a7;have h1:=(f5 R aa iJ xJ).1.OK
         obtain⟨y,b8,LS,P'⟩:=Zz (n:=n) (vs:=[ae9]) (blk:=(φ b).1) (off0:=i*sz+q5) (o:=0) (v:= .c c) a8 (.cons mJ .nil) (by simpa[hE.cx]using ai) (λj dx=>by
          have:j=0:=by simpa using dx
          subst this
          rw[OZ hg,TJ,px];rfl) (by simp[PQ,P8])
         exact Good.pure R (s' _ _ _ h1 b8) LS P'
       . rename_i Jn;simp only[fr,hy]at he;obtain⟨v0,nk,rfl,rfl,rfl⟩:=he;obtain⟨xJ,rfl,al⟩:=a7;have h1:=(f5 R aa iJ xJ).1.OK;simp only[loadT,u1,vv,fr]at nk;obtain⟨t,ht,rfl⟩:=nk;have R7:es[i]?=some (el es i):=by unfold el;rw[List.getD,CJ al];rfl
         obtain⟨OV,Jo,Sl⟩:=j2 i q5 _ t R7 ht (λh=>Jn h.2)
         obtain⟨y,b8,LS,P'⟩:=Zz (n:=n) (φ:=φ) (cs:=[.t t]) (vs:=[OV]) (blk:=(φ b).1) (off0:=i*sz+q5) (o:=0) (v:= .c (.t t)) a8 (.cons Sl .nil) rfl (λj dx=>by
          have:j=0:=by simpa using dx
          subst this
          rw[OZ hg,TJ,Jo];rfl) (by simp[PQ,P8])
         exact Good.pure R (s' _ _ _ h1 b8) LS P'
   . cases he
 . rename_i ts q5;simp only[fr,hy]at he;obtain⟨v0,nk,rfl,rfl,rfl⟩:=he;obtain⟨blk,off,f,h1,ak⟩:=(f5 R aa iJ a7).1.xn;have ny:ez (ik w S) ts ((List.range ts.length).map f):=by
    refine ez.SI (by simp) ?_
    grind
   obtain⟨y,b8,LS,P'⟩:=Zz (n:=n) a8 (ez.ayp ny) (asD n _) (blk:=blk) (off0:=off) (λj dx=>by simp_all) (avz nk);exact Good.pure R (s' _ _ _ h1 b8) LS P'
 . cases he
theorem aFD{k:Nat}{s t:T}{b:Bool}(h:ai4 k s t=some b){ty:TypeId}(pq:agl P ty=some k){x y:Value}(aa:ik w S s x)(b8:ik w S t y)(d:Nat):
 (Op.equalIn (d+1) ty x y).run P w= .ok b w:=by
 have acF:∀a b:List UInt8,(a==b)=decide (a=b):=λa b=>by by_cases h:a=b <;> simp[h]
 unfold agl at pq;unfold ai4 at h;split at h
 . cases h;cases aa;cases b8;split at pq <;> simp at pq
   rename_i hu;unfold Op.equalIn;simp only[Sem.run_bind,run_underlying hu,Result.andThen_ok];rfl
 . simp only[sr,hz]at h;obtain⟨rfl,rfl⟩:=h;cases aa;cases b8;split at pq <;> simp at pq
   rename_i hu;unfold Op.equalIn;simp only[Sem.run_bind,run_underlying hu,Result.andThen_ok,q'];rfl
 . cases h;cases aa with | str s1 h1=>cases b8 with | str s2 ah=>
   split at pq <;> simp at pq
   rename_i hu;unfold Op.equalIn;simp only[Sem.run_bind,run_underlying hu,Result.andThen_ok];rw[beq_toListBytes,ByteArray.toList_eq,ByteArray.toList_eq,acF];rfl
 . cases h
theorem aFE{ty:TypeId}{k:Nat}(h:agl P ty=some k):WG P ty=some false:=by
 unfold agl at h;unfold WG
 grind
theorem arl{d:Nat}{xs ys:Array Value}:∀{fs:List Field} {i:Nat} {ks:List Nat} {ps adf:List C} {us vs:List Value} {r:Bool},aex P i fs=some ks -> aat ks ps adf=some r ->
 ez (gb φ w S) ps us->ez (gb φ w S) adf vs->xs.toList.drop i=us->ys.toList.drop i=vs->(Op.eqFields (d+1) xs ys fs).run P w= .ok r w
 | [],i,ks,ps,adf,us,vs,r,c6,he,h1,ah,e',hf=>by
  simp[aex]at c6;subst c6;cases ps <;> cases adf <;> simp[aat]at he
  subst he;rfl
 | f::fs,i,ks,ps,adf,us,vs,r,c6,he,h1,ah,e',hf=>by
  simp only[aex,sr,ha,fr]at c6;obtain⟨⟨aKJ,aKH⟩,k,hk,aNk,J5,rfl⟩:=c6;unfold aat at he;split at he
  . simp_all
  . rename_i ix aNl x apw y aNt heq;cases heq;simp only[ha,fr]at he;obtain⟨b,ai,I',Xw,rfl⟩:=he;cases h1 with | cons h1 J3=>
    cases ah with | cons ah Tq=>
    rename_i u aNy v SN;have ex:xs[i]?=some u:=by have:=Jj (·[0]?) e';simp at this;exact this
    have anI:ys[i]?=some v:=by have:=Jj (·[0]?) hf;simp at this;exact this
    have ih:=arl (d:=d) (xs:=xs) (ys:=ys) J5 Xw J3 Tq (by rw[<-ajK,e'];rfl) (by rw[<-ajK,hf];rfl);have ayf:∀(sJ:Array Value) (z:Value),sJ[i]?=some z->(part f.type sJ f.offset).run P w= .ok z w:=by
     intro sJ z gA;simp[part,aey (aFE hk),aKJ,gA]
    simp only[Op.eqFields,b6 aKH,Sem.run_bind,ayf _ _ ex,ayf _ _ anI,Result.andThen_ok,aFD ai hk h1 ah d,Sem.run_ite];cases b
    . simp
    . simp[ih]
  . cases he
theorem aEX (R:Rel cv nt φ S env J n a w) {o:Oper} {op:BinOp} {ty HW:TypeId} {x y:Operand} (c7:o.op= .binOp op ty x y HW) (qb:op= .eql \/ op= .neq) {ks:List Nat} (pq:ald P ty=some ks)
 {hc vy:dJ} (aa:hC x=some hc) (b8:hC y=some vy)
 {p v J'} (hk:n key=false) (h:dy (.eqAgg (op== .neq) ks hc vy) env J key=some (p,v,J')) (a7:p):Good P cv nt env J' (ins n key) a v ((execOp a.eval o).run P w):=by
 simp only[dy,ha]at h;obtain⟨⟨EJ,Hr⟩,iJ,⟨TM,TQ⟩,JP,he⟩:=h;simp only at he;split at he
 . rename_i ps adf;simp only[fr,hy]at he;obtain⟨r,ar,rfl,rfl,rfl⟩:=he;obtain⟨us,hu,aJN⟩:=(f5 R aa iJ a7.1).1.aab;obtain⟨vs,cJ,afC⟩:=(f5 R b8 JP a7.2).1.aab;unfold ald at pq;split at pq
   . rename_i fs UE;simp only[sr]at pq;obtain⟨⟨hs,a8⟩,c6⟩:=pq;have Xi:(eqGuard op ty x y (a.eval x) (a.eval y)).run P w= .ok () w:=by rcases qb with rfl | rfl <;> simp[eqGuard,hu,cJ,a8]
     have n1:P.fieldsOf ty=fs:=by simp[Program.fieldsOf,UE]
     have afu:(Op.equal ty (.agg us.toArray) (.agg vs.toArray)).run P w= .ok r w:=by
      obtain⟨d,a6⟩:∃d,Op.maxDepth=d+2:=⟨9998,rfl⟩
      unfold Op.equal;rw[a6,run_equalIn_struct w (d+1) ty _ _ (by rw[n1];exact UE) hs,n1];exact arl c6 ar aJN afC (by simp) (by simp)
     have afv:(binOp op ty (a.eval x) (a.eval y)).run P w= .ok (.bool (if(op== .neq)then !r else r)) w:=by
      rcases qb with rfl | rfl
      . rw[hu,cJ];simp only[binOp,Sem.run_bind,afu];rfl
      . rw[hu,cJ];simp only[binOp,Sem.run_bind,afu];rfl
     refine Good.pure R (x:= .bool (if(op== .neq)then !r else r)) ?_ (.aae _) rfl;simp[execOp,c7,Xi,afv]
   . cases pq
 . cases he
end
section
variable {P:Program} {cv:Ctx} {nt:Nat} {φ:q4} {S:r3} {env:Env} {J:ep} {n:Nat->Bool} {key:Nat} {a:Act} {w:World}
theorem Yh{w w':World}{b:Nat}(h:w'.heap[b]?=w.heap[b]?)(j:Nat):w'.cell? ⟨b,j,none⟩=w.cell? ⟨b,j,none⟩:=by
 simp[World.cell?,h]
theorem SS{w:World}{b:Nat}{o:Obj}(h:w.heap[b]?=some o):b < w.heap.size:=(agx.1 h).1
theorem pr.Qo{b:Nat}{x:hE}(h:pr φ w S b x)(h0:(φ b).2≠0):(φ b).1 < w.heap.size:=by
 cases x with
 | box cs=>obtain⟨_,_,_,ak,_⟩:=h;exact SS ak
 | arr sz es=>obtain⟨_,_,_,_,hi⟩:=h;obtain⟨_,_,ak,_⟩:=hi h0;exact SS ak
 | set ks=>obtain⟨_,⟨_,_,ak,_⟩,_⟩:=h;exact SS ak
 | buf E s=>obtain⟨_,_,hi⟩:=h;obtain⟨⟨_,ak,_⟩,_⟩:=hi h0;exact SS ak
 | h4 E c=>obtain⟨_,⟨_,_,ak,_⟩,_⟩:=h;exact SS ak
 | k6 sz es i o c=>obtain⟨_,⟨_,_,ak,_⟩,_⟩:=h;exact SS ak
theorem pr.XF{b:Nat}{x:hE}(h:pr φ w S b x)(h0:(φ b).2≠0):∀j,¬S (φ b).1 j:=by
 cases x with
 | box cs=>obtain⟨_,_,_,_,_,hs⟩:=h;exact hs
 | arr sz es=>obtain⟨_,_,_,_,hi⟩:=h;obtain⟨_,_,_,_,_,hs⟩:=hi h0;exact hs
 | set ks=>exact h.2.2
 | buf E s=>exact(h.2.2 h0).2
 | h4 E c=>exact h.2.2
 | k6 sz es i o c=>exact h.2.2
theorem pr.mono {hn:q4} {w':World} {b:Nat} {x:hE} (m:Lm w S w' S) (k9:∀b,n b=true -> hn b=φ b) (ai:n b=true) (aa:x.cx n=true) (ak:(φ b).2≠0 -> w'.heap[(φ b).1]?=w.heap[(φ b).1]?)
 (h:pr φ w S b x):pr hn w' S b x:=by
 cases x with
 | box cs=>
  obtain⟨h0,vs,E,h1,ah,bJ⟩:=h;simp only[pr,k9 b ai];refine⟨h0,vs,E,(ak h0).trans h1,ah.imp λc v ay ar=>gb.mono m k9 (by simp[hE.cx]at aa;exact aa c ay) ar,bJ⟩
 | arr sz es=>
  obtain⟨h1,ah,bJ,ea,hi⟩:=h;simp only[pr,k9 b ai];refine⟨h1,ah,bJ,ea,λh0=>?_⟩;obtain⟨vs,E,hg,hl,j2,px⟩:=hi h0;exact⟨vs,E,(ak h0).trans hg,hl,λi j e t he ht=>let⟨v,cJ,ar⟩:=j2 i j e t he ht;⟨v,cJ,ik.mono m ar⟩,px⟩
 | set ks=>
  obtain⟨h0,⟨es,c,h1,ah⟩,bJ⟩:=h;simp only[pr,k9 b ai];exact⟨h0,⟨es,c,(ak h0).trans h1,ah⟩,bJ⟩
 | buf E s=>
  obtain⟨h1,ah,bJ⟩:=h;simp only[pr,k9 b ai];refine⟨h1,ah,λh0=>?_⟩;obtain⟨⟨vs,hg,hl,j2⟩,px⟩:=bJ h0;exact⟨⟨vs,(ak h0).trans hg,hl,j2⟩,px⟩
 | h4 E c=>
  obtain⟨h0,⟨p,v,h1,ah,bJ⟩,ea⟩:=h;simp only[pr,k9 b ai];exact⟨h0,⟨p,v,(ak h0).trans h1,ah,gb.mono m k9 (by simpa[hE.cx]using aa) bJ⟩,ea⟩
 | k6 sz es i o c=>
  obtain⟨⟨h1,ah,bJ,ea,hi,q0⟩,⟨vs,E,hg,hl,j2,v,px,mJ⟩,nJ⟩:=h;simp only[pr,k9 b ai];exact⟨⟨h1,ah,bJ,ea,hi,q0⟩,⟨vs,E,(ak (by omega)).trans hg,hl,λi j e t he ht g'=>let⟨v,cJ,ar⟩:=j2 i j e t he ht g';⟨v,cJ,ik.mono m ar⟩,v,px,gb.mono m k9 (by simpa[hE.cx]using aa) mJ⟩,nJ⟩
theorem Rel.world (R:Rel cv nt φ S env J n a w) {w':World} (W:Nat -> Prop) (aop:w'.os=w.os) (ht:w'.tape=w.tape) (c7:w'.output=w.output) (hs:w.heap.size <=w'.heap.size)
 (ai:∀b:Nat,b < w.heap.size->¬W b->w'.heap[b]?=w.heap[b]?)
 (QZ:∀b,W b->(∀j,¬S b j)/\(∀k y,ec J k=some y->(φ k).2≠0->(φ k).1≠b)/\(cv.B b\/cv.abc.heap.size<=b)):Rel cv nt φ S env J n a w':=by
 have m:Lm w S w' S:=⟨λ_ _ h=>h,λb j h=>Yh (ai b (R.hJ.st b j h) (λhw=>(QZ b hw).1 j h)) j⟩
 refine⟨⟨λb x aa=>?_,R.hJ.inj,λb j h=>TF (R.hJ.st b j h) hs⟩,λk g v aJ a8=>?_,R.MY,R.LL,R.u2,R.size,R.defers,?_,R.own,R.fix,R.J7⟩
 . have Jw:=R.hJ.blk b x aa;exact pr.mono m (λ_ _=>rfl) (R.u2 b x aa).1 (R.u2 b x aa).2 (λh0=>ai _ (Jw.Qo h0) (λhw=>(QZ _ hw).2.1 b x aa h0 rfl)) Jw
 . obtain⟨x,aa,ar⟩:=R.LM k g v aJ a8;exact⟨x,aa,km.mono m (λ_ _=>rfl) (R.LL k g v aJ a8) ar⟩
 . refine⟨aop.trans R.ext.os,ht.trans R.ext.tape,c7.trans R.ext.output,SH R.ext.size hs,λb ey u0=>?_,R.ext.mono.trans m,R.ext.Zi⟩;rw[ai b (TF ey R.ext.size) (λhw=>?_)]
   . exact R.ext.block b ey u0
   . rcases (QZ b hw).2.2 with h | h
     . exact u0 h
     . omega
theorem Rel.congr(R:Rel cv nt φ S env J n a w){J':ep}(h:∀b,ec J' b=ec J b):Rel cv nt φ S env J' n a w:=
 ⟨⟨λb x aa=>R.hJ.blk b x (h b▸aa),λb hj x y aa b8=>R.hJ.inj b hj x y (h b▸aa) (h hj▸b8),R.hJ.st⟩,R.LM,R.MY,R.LL,λb x aa=>R.u2 b x (h b▸aa),R.size,R.defers,R.ext,λb x aa=>R.own b x (h b▸aa),R.fix,R.J7⟩
theorem Rel.sub(R:Rel cv nt φ S env J n a w){J':ep}(h:∀b x,ec J' b=some x->ec J b=some x):Rel cv nt φ S env J' n a w:=
 ⟨⟨λb x aa=>R.hJ.blk b x (h b x aa),λb hj x y aa b8=>R.hJ.inj b hj x y (h b x aa) (h hj y b8),R.hJ.st⟩,R.LM,R.MY,R.LL,λb x aa=>R.u2 b x (h b x aa),R.size,R.defers,R.ext,λb x aa=>R.own b x (h b x aa),R.fix,R.J7⟩
theorem Rel.del(R:Rel cv nt φ S env J n a w)(b:Nat):Rel cv nt φ S env (NA J b) n a w:=
 R.sub λk x aa=>by rw[J8]at aa;split at aa <;> simp_all
theorem Rel.agI(R:Rel cv nt φ S env J n a w){hn:q4}(k9:∀b,n b=true->hn b=φ b):Rel cv nt hn S env J n a w:=by
 refine⟨⟨λb x aa=>?_,λb hj x y aa b8=>?_,R.hJ.st⟩,λk g v aJ a8=>?_,R.MY,R.LL,R.u2,R.size,R.defers,R.ext,λb x aa h0=>?_,λb ai=>(k9 b (R.J7 b ai)).trans (R.fix b ai),R.J7⟩
 . exact pr.mono (Lm.refl w S) k9 (R.u2 b x aa).1 (R.u2 b x aa).2 (λ_=>rfl) (R.hJ.blk b x aa)
 . rw[k9 b (R.u2 b x aa).1,k9 hj (R.u2 hj y b8).1];exact R.hJ.inj b hj x y aa b8
 . obtain⟨x,aa,ar⟩:=R.LM k g v aJ a8;exact⟨x,aa,km.mono (Lm.refl w S) k9 (R.LL k g v aJ a8) ar⟩
 . rw[k9 b (R.u2 b x aa).1]at h0 ⊢;exact R.own b x aa h0
theorem Rel.put (R:Rel cv nt φ S env J n a w) {b:Nat} {x:hE} (ai:n b=true) (aa:x.cx n=true) (Jw:pr φ w S b x)
 (c6:(φ b).2≠0->(∀k y,ec J k=some y->k≠b->(φ k).2≠0->(φ k).1≠(φ b).1)/\(cv.B (φ b).1\/cv.abc.heap.size<=(φ b).1)):Rel cv nt φ S env (q1 J b x) n a w:=by
 refine⟨⟨λk y b8=>?_,λk ix y Ni b8 L8 hv h0 yJ=>?_,R.hJ.st⟩,R.LM,R.MY,R.LL,λk y b8=>?_,R.size,R.defers,R.ext,λk y b8 h0=>?_,R.fix,R.J7⟩
 . rw[o']at b8;split at b8
   . rename_i e;cases b8;subst e;exact Jw
   . exact R.hJ.blk k y b8
 . rw[o']at b8 L8;split at b8
   . rename_i e;subst e;rw[b' hv]at L8;exactλe=>(c6 h0).1 ix Ni L8 (tJ hv) yJ e.symm
   . split at L8
     . rename_i e;subst e;exact(c6 yJ).1 k y b8 hv h0
     . exact R.hJ.inj k ix y Ni b8 L8 hv h0 yJ
 . rw[o']at b8;split at b8
   . rename_i e;cases b8;subst e;exact⟨ai,aa⟩
   . exact R.u2 k y b8
 . rw[o']at b8;split at b8
   . rename_i e;subst e;exact(c6 h0).2
   . exact R.own k y b8 h0
def JV(φ:q4)(n:Nat)(q:Nat×Nat):q4:=λb=>if b=n then q else φ b
theorem amd{b:Nat}{q:Nat×Nat}(hk:n key=false)(h:n b=true):JV φ key q b=φ b:=by simp only[JV];rw[b'];intro e;subst e;rw[hk]at h;cases h
theorem ii{k:Nat}{q:Nat×Nat}:JV φ k q k=q:=by simp[JV]
theorem Rel.PR (R:Rel cv nt φ S env J n a w) (hk:n key=false) {x:hE} (q:Nat×Nat) (aa:x.cx n=true) (Jw:pr (JV φ key q) w S key x)
 (c6:q.2≠0->(∀k y,ec J k=some y->(φ k).2≠0->(φ k).1≠q.1)/\(cv.B q.1\/cv.abc.heap.size<=q.1)):Rel cv nt (JV φ key q) S env (q1 J key x) (ins n key) a w:=by
 refine((R.agI (λb h=>amd hk h)).more (λ_ h=>QH h)).put aGt (hE.MD (λ_ h=>QH h) aa) Jw ?_;rw[ii];intro h0;refine⟨λk y b8 hv h=>?_,(c6 h0).2⟩;rw[amd hk (R.u2 k y b8).1]at h ⊢;exact(c6 h0).1 k y b8 h
theorem ahr{w:World}{o:Obj}{b:Nat}(h:b < w.heap.size):(w.alloc o).heap[b]?=w.heap[b]?:=by
 show(w.heap.push o)[b]?=_
 grind
theorem W1{w:World}{o:Obj}:(w.alloc o).heap[w.heap.size]?=some o:=by
 show(w.heap.push o)[w.heap.size]?=_
 grind
theorem Rel.alloc(R:Rel cv nt φ S env J n a w)(o:Obj):Rel cv nt φ S env J n a (w.alloc o):=
 R.world (λ_=>False) rfl rfl rfl (by simp) (λb ai _=>ahr ai) (λ_ h=>h.elim)
theorem Rel.agn(R:Rel cv nt φ S env J n a w)(o:Obj):Lm w S (w.alloc o) S:=
 ⟨λ_ _ h=>h,λb j h=>Yh (ahr (R.hJ.st b j h)) j⟩
theorem Rel.ax8(R:Rel cv nt φ S env J n a w)(hk:n key=false){cs:List C}{vs:List Value}(ny:ez (gb φ w S) cs vs)(ai:cs.all (C.cx n)=true)(E:TypeId):
 Rel cv nt (JV φ key (w.heap.size,1)) S env (q1 J key (.box cs)) (ins n key) a (w.alloc (.cells vs.toArray E)):=by
 have m:=R.agn (.cells vs.toArray E);refine(R.alloc _).PR hk (w.heap.size,1) ai ?_ ?_
 . simp only[pr,ii];refine⟨by simp,vs,E,W1,ny.imp λc v ay ar=>gb.mono m (λb h=>amd hk h) (by simp only[qx]at ai;exact ai c ay) ar,λj h=>?_⟩;have:=R.hJ.st _ _ h;simp at this
 . intro _;refine⟨λk y b8 h0=>?_,.inr R.ext.size⟩;have:=(R.hJ.blk k y b8).Qo h0;simp;omega
theorem abA{ty:TypeId}{cs:List C}(h:Rn P ty=some cs):∃i z,P.info? ty=some i/\i.zero=some z/\ez (gb φ w S) cs z.cells.toList/\cs.all (C.cx n)=true:=by
 simp only[Rn,ha]at h;obtain⟨i,al,z,gA,cJ⟩:=h;have:=alA (φ:=φ) (w:=w) (S:=S) (n:=n) cJ
 grind
theorem ase (R:Rel cv nt φ S env J n a w) {o:Oper} {ty:TypeId} (c7:o.op= .alloc ty) {cs:List C} (gA:Rn P ty=some cs)
 {p v J'} (hk:n key=false) (h:dy (.alloc cs) env J key=some (p,v,J')) (a7:p):Good P cv nt env J' (ins n key) a v ((execOp a.eval o).run P w):=by
 simp only[dy,hz,hy]at h;obtain⟨rfl,rfl,rfl⟩:=h;obtain⟨i,z,al,gA,ny,ai⟩:=abA (φ:=φ) (w:=w) (S:=S) (n:=n) gA;have R':=R.ax8 hk ny ai ty;refine⟨.pointer (some ⟨w.heap.size,0,none⟩),_,S,_,.inl ?_,.c ?_,by simp[V.cx,C.cx,ins],R'⟩
 . simp[execOp,c7,Instr.alloc,zeroValue,typeInfo,al,gA,newVar,newRow]
 . simp[gb,ii]
theorem aFF (R:Rel cv nt φ S env J n a w) {o:Oper} {ty:TypeId} {x:Operand} (c7:o.op= .box ty x) {hc:dJ} (aa:hC x=some hc)
 {p v J'} (hk:n key=false) (h:dy (.box hc) env J key=some (p,v,J')) (a7:p):Good P cv nt env J' (ins n key) a v ((execOp a.eval o).run P w):=by
 simp only[dy,ha,fr,hy]at h;obtain⟨⟨EJ,Hr⟩,iJ,cs,r',rfl,rfl,rfl⟩:=h;have a8:=f5 R aa iJ a7;obtain⟨ny,ai⟩:=Vk a8.1 r' a8.2;have R':=R.ax8 hk ny ai ty;refine⟨.pointer (some ⟨w.heap.size,0,none⟩),_,S,_,.inl ?_,.c ?_,by simp[V.cx,C.cx,ins],R'⟩
 . simp[execOp,c7,Instr.box,newVar,newRow]
 . simp[gb,ii]
end
section
variable {P:Program} {cv:Ctx} {nt:Nat} {φ:q4} {S:r3} {env:Env} {J:ep} {n:Nat->Bool} {key:Nat} {a:Act} {w:World}
def NR{α:Type}(vs:List α)(off:Nat)(xs:List α):List α:=vs.take off++xs++vs.drop (off+xs.length)
theorem Uc{α:Type}{vs:List α}{off:Nat}{xs:List α}(h:off+xs.length <=vs.length)(k:Nat):
 (NR vs off xs)[k]?=if k < off then vs[k]? else if k < off+xs.length then xs[k - off]? else vs[k]?:=by
 unfold NR;rw[SE];by_cases h1:k < off
 . rw[b6 h1,V2 (by simp;omega),SD,b6 h1]
 . rw[b' h1,V1 (by simp;omega)];have e:(vs.take off).length=off:=by simp;omega
   rw[e];by_cases ah:k < off+xs.length
   . rw[b6 ah,V2 (by omega)]
   . rw[b' ah,V1 (by omega),Y8]
     congr 1;omega
theorem W4{α:Type}{vs:List α}{off:Nat}{xs:List α}(h:off+xs.length<=vs.length):(NR vs off xs).length=vs.length:=by
 simp[NR];omega
theorem arW{α:Type}{vs:List α}{off:Nat}{x:α}{xs:List α}(h:off+(x::xs).length<=vs.length):NR (vs.set off x) (off+1) xs=NR vs off (x::xs):=by
 apply agC;intro k;simp at h;rw[Uc (by simp;omega),Uc (by simp;omega)]
 grind
theorem aqw{w:World}{b:Nat}{vs:List Value}{E:TypeId}(h:w.heap[b]?=some (.cells vs.toArray E (0,0)))(off:Nat)(v:Value):
 (w.setCell ⟨b,off,none⟩ v).heap[b]?=some (.cells (vs.set off v).toArray E (0,0))/\∀hj,hj≠b->(w.setCell ⟨b,off,none⟩ v).heap[hj]?=w.heap[hj]?:=by
 constructor
 . simp[World.setCell,ajU,h]
 . intro hj ai;simp[World.setCell,ajU,tJ ai]
theorem Vh{b:Nat}{E:TypeId}:∀(xs:List Value) (off i:Nat) (vs:List Value) (w:World),w.heap[b]?=some (.cells vs.toArray E (0,0)) -> off+i+xs.length <=vs.length -> (∀x,x∈xs -> x.oneCell'=true) ->
 ∃w',(storeCells ⟨b,off,none⟩ xs i).run P w= .ok () w'/\w'.os=w.os/\w'.tape=w.tape/\w'.output=w.output/\w'.heap.size=w.heap.size/\
  w'.heap[b]?=some (.cells (NR vs (off+i) xs).toArray E (0,0))/\∀hj:Nat,hj≠b->w'.heap[hj]?=w.heap[hj]?
 | [],off,i,vs,w,h,aJ,c7=>⟨w,rfl,rfl,rfl,rfl,rfl,by simp[NR,h],λ_ _=>rfl⟩
 | x::xs,off,i,vs,w,h,aJ,c7=>by
  have Oj:Addr.add ⟨b,off,none⟩ i=⟨b,off+i,none⟩:=by unfold Addr.add;split <;> simp_all
  have ey:off+i < vs.length:=by simp at aJ;omega
  have ay:w.cell? ⟨b,off+i,none⟩=some vs[off+i]:=by rw[OZ h];exact CJ ey
  have c6:w.frozen? ⟨b,off+i,none⟩=false:=by simp[World.frozen?,h]
  have hs:=aqw h (off+i) x;obtain⟨w',h1,ah,bJ,ea,hi,q0,Tt⟩:=Vh xs off (i+1) (vs.set (off+i) x) (w.setCell ⟨b,off+i,none⟩ x) hs.1 (by simp at aJ ⊢;omega) (λy b8=>c7 y (by simp[b8]));refine⟨w',?_,ah,bJ,ea,by rw[hi];simp,?_,λhj ai=>(Tt hj ai).trans (hs.2 hj ai)⟩
  . simp only[storeCells,Sem.run_bind,Oj,run_store P w _ x _ (c7 x (by simp)),ay,c6];simp_all
  . rw[q0,<-arW (by simp at aJ ⊢;omega)]
    congr 3
theorem ez.fill{α β:Type}{R:α->β->Prop}{cs ds:List α}{vs xs:List β}(h:ez R cs vs)(k:ez R ds xs)(o:Nat):ez R (cs.take o++ds++cs.drop (o+ds.length)) (NR vs o xs):=by
 unfold NR;rw[k.length];exact((h.take o).append k).append (h.drop _)
theorem al3{cs:List C}{xs:List Value}(h:ez (gb φ w S) cs xs):∀x,x∈xs->x.oneCell'=true:=by
 induction h with
 | nil=>simp
 | cons h _ ih=>
  intro x aa;rcases LU.1 aa with rfl | aa
  . exact gb.OU h
  grind
theorem km.undef :km φ w S (.fz []) undef:= .fz [] [] rfl (by simp)
theorem Zv :∀{cs:List C} {ts:List T} {xs:List Value},toTs cs=some ts->ez (gb φ w S) cs xs->ez (ik w S) ts xs
 | [],ts,xs,h,ch=>by simp[toTs]at h;subst h;cases ch;exact .nil
 | c::cs,ts,xs,h,ch=>by
  simp only[toTs,ha,fr]at h;obtain⟨t,ht,apO,JR,rfl⟩:=h;cases ch with
  | cons h1 ah=>
   refine .cons ?_ (Zv JR ah);unfold toT at ht;split at ht <;> simp at ht
   . subst ht;exact h1
   . subst ht;obtain⟨a,rfl⟩:=h1;exact ik.slice [] a 0 0 0 0 (λ_ _=>undef) (by simp) (by simp) (by simp) (by simp) (by simp) (by simp)
theorem aet :∀{cs:List C} {ts:List T},toTs cs=some ts->ts.length=cs.length
 | [],ts,h=>by simp[toTs]at h;subst h;rfl
 | c::cs,ts,h=>by
  simp only[toTs,ha,fr]at h;obtain⟨t,ht,apO,JR,rfl⟩:=h;simp[aet JR]
theorem amw{n:Nat->Bool}{cs ds:List C}(h:cs.all (C.cx n)=true)(k:ds.all (C.cx n)=true)(o:Nat):(Xj cs o ds).all (C.cx n)=true:=by
 simp only[qx]at h k ⊢;intro x aa;simp only[Xj,Nx]at aa
 grind
theorem abY{α:Type}{vs:List α}{p:Nat}{x:α}(h:p < vs.length)(q:Nat):(NR vs (p+0) [x])[q]?=if q=p then some x else vs[q]?:=by
 rw[TJ,Uc (by simp;omega)];by_cases h5:q=p
 . subst h5;simp
 . rw[b' h5];by_cases js:q < p
   . rw[b6 js]
   . rw[b' js,b' (by simp;omega)]
theorem aeX{sz i j qi PO:Nat}(dx:j < sz)(Qb:PO < sz)(h:i*sz+j=qi*sz+PO):i=qi/\j=PO:=by
 rcases apd i qi with c | c | c
 . have:=Ji sz (show i+1<=qi from c);rw[Lc]at this;omega
 . subst c;exact⟨rfl,by omega⟩
 . have:=Ji sz (show qi+1<=i from c);rw[Lc]at this;omega
theorem Rel.rewrite (R:Rel cv nt φ S env J n a w) {b:Nat} {x hQ:hE} (kx:ec J b=some x) (h0:(φ b).2≠0) (Je:hQ.cx n=true) {w':World}
 (aop:w'.os=w.os) (ht:w'.tape=w.tape) (c7:w'.output=w.output) (hs:w'.heap.size=w.heap.size) (ai:∀hj:Nat,hj≠(φ b).1->w'.heap[hj]?=w.heap[hj]?)
 (Jw:Lm w S w' S->pr φ w' S b hQ):Rel cv nt φ S env (q1 J b hQ) n a w':=by
 have hblk:=R.hJ.blk b x kx
 have jJ:=(R.del b).world (w':=w') (λk=>k=(φ b).1) aop ht c7 (ac6 hs.symm) (λk _ hk=>ai k hk) (λk hk=>by
  subst hk;refine⟨hblk.XF h0,λk y b8 hk=>?_,R.own b x kx h0⟩;rw[J8]at b8;split at b8
  . cases b8
  . rename_i hv
    exactλe=>R.hJ.inj k b y x b8 kx (tJ hv) hk h0 e)
 have m:Lm w S w' S:=⟨λ_ _ h=>h,λk j h=>Yh (ai k (λe=>hblk.XF h0 j (e▸h))) j⟩
 have u4:=jJ.put (b:=b) (x:=hQ) (R.u2 b x kx).1 Je (Jw m) (λ_=>⟨λk y b8 hv hk=>by
  rw[J8]at b8;split at b8
  . cases b8
  . exact R.hJ.inj k b y x b8 kx hv hk h0,R.own b x kx h0⟩)
 refine u4.congr λk=>?_
 rw[o',o',J8];split <;> rfl
theorem aEY (R:Rel cv nt φ S env J n a w) {o:Oper} {ty:TypeId} {x y:Operand} (c7:o.op= .store ty x y) {k:Nat} (J5:C4 P ty=some k) {hc vy:dJ} (aa:hC x=some hc) (b8:hC y=some vy)
 {p v J'} (hk:n key=false) (h:dy (.store k hc vy) env J key=some (p,v,J')) (a7:p):Good P cv nt env J' (ins n key) a v ((execOp a.eval o).run P w):=by
 simp only [dy, ha, sr] at h;obtain ⟨⟨EJ, Hr⟩, iJ, ⟨TM, TQ⟩, JP, cs, r', hlen, he⟩ := h;simp only at he r';have s' : ∀ (blk off : Nat) (xs : List Value) (w' : World), a.eval x = .pointer (some ⟨blk, off, none⟩) -> (a.eval y).cells.toList = xs -> xs.length = k -> (storeCells ⟨blk, off, none⟩ xs 0).run P w = .ok () w' ->
  (execOp a.eval o).run P w= .ok .skip w':=by
  intro blk off xs w' h1 ah bJ ea;have hi:(a.eval y).cells.size=k:=by rw[<-bJ,<-ah];simp
  simp[execOp,c7,Instr.storeAt,Instr.sureAddr,h1,storeVar,PZ J5,hi,ah,ea]
 split at he
 . rename_i b q5;split at he
   . rename_i ds kx;simp only[sr,hz,hy]at he;obtain⟨hle,rfl,rfl,rfl⟩:=he;have h1:=(f5 R aa iJ a7.1).1.M8;have Pe:=f5 R b8 JP a7.2;obtain⟨ny,ai⟩:=Vk Pe.1 r' Pe.2;obtain⟨h0,vs,E,ak,Q0,DI⟩:=R.hJ.blk _ _ kx;have M4:=Q0.length
     have Pm:(a.eval y).cells.toList.length=k:=by rw[<-ny.length,hlen]
     obtain⟨w',ar,hg,hl,j2,px,mJ,nJ⟩:=Vh (P:=P) _ q5 0 vs w ak (by omega) (al3 ny);refine⟨undef,φ,S,w',.inr ⟨s' _ _ _ w' h1 rfl Pm ar,rfl⟩,.undef,rfl,Rel.more ?_ λ_ h=>QH h⟩;refine R.rewrite kx h0 (by simpa[hE.cx]using amw ((R.u2 _ _ kx).2) ai q5) hg hl j2 px nJ (λm=>?_);refine⟨h0,_,E,mJ,?_,DI⟩;rw[TJ]
     exact(Q0.imp λc v ay ar=>gb.mono m (λ_ _=>rfl) (qx.1 (R.u2 _ _ kx).2 c ay) ar).fill (ny.imp λc v ay ar=>gb.mono m (λ_ _=>rfl) (qx.1 ai c ay) ar) q5
   . rename_i E K0 kx;split at he
     . rename_i c;simp only[hz,hy]at he;obtain⟨rfl,rfl,rfl⟩:=he;have h1:=(f5 R aa iJ a7.1).1.M8;have Pe:=f5 R b8 JP a7.2;obtain⟨ny,ai⟩:=Vk Pe.1 r' Pe.2;obtain⟨h0,⟨aa2,UU,ak,aov,acQ⟩,DI⟩:=R.hJ.blk _ _ kx;have Pm:(a.eval y).cells.toList.length=k:=by rw[<-ny.length,hlen]
       have LR:k=1:=by rw[<-hlen];rfl
       obtain⟨OV,Jo⟩:∃OV,(a.eval y).cells.toList=[OV]:=by
        match h:(a.eval y).cells.toList with
        | [OV]=>exact⟨OV,rfl⟩
        | []=>rw[h]at Pm;simp at Pm;omega
        | _::_::_=>rw[h]at Pm;simp at Pm;omega
       obtain⟨w',ar,hg,hl,j2,px,mJ,nJ⟩:=Vh (P:=P) (a.eval y).cells.toList 1 0 [aa2,UU] w (b:=(φ b).1) (E:=E) ak (by rw[Jo];simp) (al3 ny);rw[Jo]at ny mJ;cases ny with | cons Tv _=>
       have K4:c.cx n=true:=by simpa using ai
       refine⟨undef,φ,S,w',.inr ⟨s' _ _ _ w' h1 rfl Pm ar,rfl⟩,.undef,rfl,Rel.more ?_ λ_ h=>QH h⟩;refine R.rewrite kx h0 (by simpa[hE.cx]using K4) hg hl j2 px nJ (λm=>?_);exact⟨h0,⟨aa2,OV,mJ,aov,gb.mono m (λ_ _=>rfl) K4 Tv⟩,DI⟩
     . cases he
   . cases he
 . rename_i b sz i q5;have apq:∀{c:C} {xs:List Value},ez (gb φ w S) [c] xs->∃x,xs=[x]/\gb φ w S c x:=by
    intro c xs h;cases h with | cons h1 ah=>cases ah;exact⟨_,rfl,h1⟩
   split at he
   . rename_i kp es kx;split at he
     . rename_i c ajn;have Tv:cs=[c]:=by
        unfold agH at ajn;split at ajn <;> cases ajn
        rfl
       subst Tv;simp only[hz,hy]at he;obtain⟨rfl,rfl,rfl⟩:=he;obtain⟨xJ,vt,rfl,al,NY⟩:=a7;have h1:=(f5 R aa iJ xJ).1.OK;have Pe:=f5 R b8 JP vt;obtain⟨ny,ai⟩:=Vk Pe.1 r' Pe.2;have LR:k=1:=by rw[<-hlen];rfl
       obtain⟨OV,Jo,Sl⟩:=apq ny;have Oi:=R.hJ.blk _ _ kx;obtain⟨h0,vs,E,xs,ak,aJ,R7,Pm,afC,sK,hle⟩:=amv Oi al;obtain⟨g1,g2,g3,g4,g5⟩:=Oi;obtain⟨SN,adB,YR,MI,aoI,DI⟩:=g5 h0;rw[ak]at YR;cases YR;rw[Lc]at hle;have tw:i*sz+q5 < vs.length:=by omega
       obtain⟨w',ar,hg,hl,j2,px,mJ,nJ⟩:=Vh (P:=P) [OV] (i*sz+q5) 0 vs w ak (by simp;omega) (λx aa=>by rw[apc.1 aa];exact gb.OU Sl);refine⟨undef,φ,S,w',.inr ⟨s' _ _ _ w' h1 Jo (by simp[LR]) ar,rfl⟩,.undef,rfl,Rel.more ?_ λ_ h=>QH h⟩;have K4:c.cx n=true:=by simpa using ai
       refine R.rewrite kx h0 (by simpa[hE.cx]using K4) hg hl j2 px nJ (λm=>?_);refine⟨⟨g1,g2,g3,g4,al,by omega⟩,⟨_,E,mJ,by rw[W4 (by simp;omega)];exact aJ,λqi j e t he ht hv=>?_,OV,?_,gb.mono m (λ_ _=>rfl) K4 Sl⟩,DI⟩
       . obtain⟨v,cJ,ar⟩:=aoI _ _ _ _ he ht;have UF:j < sz:=by rw[<-g3 _ (DJ he)];exact(pJ.1 ht).1
         rw[abY tw,b' (λe=>hv (aeX UF (by omega) e))];exact⟨v,cJ,ik.mono m ar⟩
       . rw[abY tw,b6 rfl]
     rename_i ajn;simp only[ha,hz,hy]at he;obtain⟨ts,JR,rfl,rfl,rfl⟩:=he;obtain⟨xJ,vt,rfl,al,NY⟩:=a7;have h1:=(f5 R aa iJ xJ).1.OK;have Pe:=f5 R b8 JP vt;obtain⟨ny,ai⟩:=Vk Pe.1 r' Pe.2;have VV:=Zv JR ny;have aK4:=aet JR;have Oi:=R.hJ.blk _ _ kx
     obtain⟨h0,vs,E,xs,ak,aJ,R7,Pm,afC,sK,hle⟩:=amv Oi al;obtain⟨g1,g2,g3,g4,g5⟩:=Oi;obtain⟨SN,adB,YR,MI,aoI,DI⟩:=g5 h0;rw[ak]at YR;cases YR;rw[Lc]at hle;have Jz:(a.eval y).cells.toList.length=k:=by rw[<-ny.length,hlen]
     obtain⟨w',ar,hg,hl,j2,px,mJ,nJ⟩:=Vh (P:=P) _ (i*sz+q5) 0 vs w ak (by omega) (al3 ny);have Xw:(storeCells ⟨(φ b).1,i*sz+q5,none⟩ (a.eval y).cells.toList 0).run P w= .ok () w':=ar;refine⟨undef,φ,S,w',.inr ⟨s' _ _ _ w' h1 rfl Jz Xw,rfl⟩,.undef,rfl,Rel.more ?_ λ_ h=>QH h⟩;refine R.rewrite kx h0 rfl hg hl j2 px nJ (λm=>?_)
     refine⟨by simpa using g1,by simpa using g2,?_,g4,λ_=>⟨_,E,mJ,by rw[W4 (by omega)];exact aJ,?_,DI⟩⟩
     . intro e he;rcases agy he with he | rfl
       . exact g3 e he
       . simp;omega
     . intro qi j e t he ht;rw[TJ,Uc (by omega)];rw[ajH]at he;by_cases Qa:i=qi
       . subst Qa;rw[b6 rfl,b6 al]at he;cases he;have VS:=(pJ.1 ht).1;simp at VS;have UF:j < sz:=by omega
         have Jx:=(Uc (vs:=el es i) (off:=q5) (xs:=ts) (by omega) j)
         unfold NR at Jx;rw[show q5+ts.length=q5+k by omega]at Jx;rw[Jx]at ht;by_cases h5:j < q5
         . rw[b6 h5]at ht;rw[b6 (by omega),sK j UF];obtain⟨v,cJ,ar⟩:=afC.get ht;exact⟨v,cJ,ik.mono m ar⟩
         . rw[b' h5]at ht;rw[b' (by omega)];by_cases js:j < q5+k
           . rw[b6 (by omega)]at ht;rw[b6 (by omega),show i*sz+j - (i*sz+q5)=j - q5 by omega];obtain⟨v,cJ,ar⟩:=VV.get ht;exact⟨v,cJ,ik.mono m ar⟩
           . rw[b' (by omega)]at ht;rw[b' (by omega),sK j UF];obtain⟨v,cJ,ar⟩:=afC.get ht;exact⟨v,cJ,ik.mono m ar⟩
       . rw[b' Qa]at he;obtain⟨v,cJ,ar⟩:=aoI _ _ _ _ he ht;have UF:j < sz:=by rw[<-g3 _ (DJ he)];exact(pJ.1 ht).1
         have:qi*sz+j < i*sz+q5\/i*sz+q5+k<=qi*sz+j:=by
          rcases Nat.lt_or_gt_of_ne Qa with h | h
          . right;have:=Ji sz (show i+1<=qi from h)
            grind
          . left;have:=Ji sz (show qi+1<=i from h)
            grind
         rcases this with h | h
         . rw[b6 h];exact⟨v,cJ,ik.mono m ar⟩
         . rw[b' (by omega),b' (by omega)];exact⟨v,cJ,ik.mono m ar⟩
   . rename_i kp es i2 V0 K0 kx;obtain⟨⟨a1,a2,a3,a4,a5,n'⟩,⟨vs,E,b1,b2,b3,ae9,b4,amF⟩,atv⟩:=R.hJ.blk _ _ kx;have aw9:K0.cx n=true:=by simpa[hE.cx]using(R.u2 _ _ kx).2
     have h0:(φ b).2≠0:=by omega
     split at he
     . rename_i c;have LR:k=1:=by rw[<-hlen];rfl
       split at he
       . rename_i Jn;subst Jn;simp only[hz,hy]at he;obtain⟨rfl,rfl,rfl⟩:=he;obtain⟨xJ,vt,rfl,rfl⟩:=a7;have h1:=(f5 R aa iJ xJ).1.OK;have Pe:=f5 R b8 JP vt;obtain⟨ny,ai⟩:=Vk Pe.1 r' Pe.2;obtain⟨OV,Jo,Sl⟩:=apq ny;have tw:i*sz+q5 < vs.length:=by
          rw[b2];have:=Ji sz (show i+1<=(φ b).2 by omega);rw[Lc]at this;omega
         obtain⟨w',ar,hg,hl,j2,px,mJ,nJ⟩:=Vh (P:=P) [OV] (i*sz+q5) 0 vs w b1 (by simp;omega) (λx aa=>by rw[apc.1 aa];exact gb.OU Sl);refine⟨undef,φ,S,w',.inr ⟨s' _ _ _ w' h1 Jo (by simp[LR]) ar,rfl⟩,.undef,rfl,Rel.more ?_ λ_ h=>QH h⟩;have K4:c.cx n=true:=by simpa using ai
         refine R.rewrite kx h0 (by simpa[hE.cx]using K4) hg hl j2 px nJ (λm=>?_);refine⟨⟨a1,a2,a3,a4,a5,n'⟩,⟨_,E,mJ,by rw[W4 (by simp;omega)];exact b2,λqi j e t he ht hv=>?_,OV,?_,gb.mono m (λ_ _=>rfl) K4 Sl⟩,atv⟩
         . obtain⟨v,cJ,ar⟩:=b3 _ _ _ _ he ht hv;have UF:j < sz:=by rw[<-a3 _ (DJ he)];exact(pJ.1 ht).1
           rw[abY tw,b' (λe=>hv (aeX UF n' e))];exact⟨v,cJ,ik.mono m ar⟩
         . rw[abY tw,b6 rfl]
       . rename_i Jn;simp only[ha,hz,hy]at he;obtain⟨t,afJ,rfl,rfl,rfl⟩:=he;obtain⟨xJ,vt,rfl,al,NY⟩:=a7;have h1:=(f5 R aa iJ xJ).1.OK;have Pe:=f5 R b8 JP vt;obtain⟨ny,ai⟩:=Vk Pe.1 r' Pe.2;obtain⟨OV,Jo,Sl⟩:=apq ny;have aLf:ik w S t OV:=by
          have h1:=Zv (cs:=[c]) (ts:=[t]) (xs:=[OV]) (by simp[toTs,afJ]) (.cons Sl .nil);cases h1 with | cons h _=>exact h
         have tw:i*sz+q5 < vs.length:=by
          rw[b2];have:=Ji sz (show i+1<=(φ b).2 by omega);rw[Lc]at this;omega
         obtain⟨w',ar,hg,hl,j2,px,mJ,nJ⟩:=Vh (P:=P) [OV] (i*sz+q5) 0 vs w b1 (by simp;omega) (λx aa=>by rw[apc.1 aa];exact gb.OU Sl);refine⟨undef,φ,S,w',.inr ⟨s' _ _ _ w' h1 Jo (by simp[LR]) ar,rfl⟩,.undef,rfl,Rel.more ?_ λ_ h=>QH h⟩;refine R.rewrite kx h0 (by simpa[hE.cx]using aw9) hg hl j2 px nJ (λm=>?_)
         have afL:es[i]?=some (el es i):=by unfold el;rw[List.getD,CJ al];rfl
         have axe:(el es i).length=sz:=a3 _ (DJ afL);refine⟨⟨by simpa using a1,by simpa using a2,λe he=>?_,a4,by simpa using a5,n'⟩,⟨_,E,mJ,by rw[W4 (by simp;omega)];exact b2,λqi j e Ja he ht hv=>?_,ae9,?_,gb.mono m (λ_ _=>rfl) aw9 amF⟩,atv⟩
         . rcases agy he with he | rfl
           . exact a3 e he
           . simp;omega
         . rw[abY tw];rw[ajH]at he;by_cases Qa:i=qi
           . subst Qa;rw[b6 rfl,b6 al]at he;cases he;have Jx:=(Uc (vs:=el es i) (off:=q5) (xs:=[t]) (by simp;omega) j)
             unfold NR at Jx;rw[show q5+[t].length=q5+k by simp[LR]]at Jx;rw[Jx]at ht;by_cases h5:j=q5
             . subst h5;rw[b' (by omega),b6 (by omega),ac7]at ht;cases ht;rw[b6 rfl];exact⟨OV,rfl,ik.mono m aLf⟩
             . have ajh:(el es i)[j]?=some Ja:=by
                by_cases js:j < q5
                . rwa [b6 js]at ht
                . rwa [b' js,b' (by omega)]at ht
               have UF:j < sz:=by rw[<-axe];exact(pJ.1 ajh).1
               obtain⟨v,cJ,ar⟩:=b3 _ _ _ _ afL ajh hv;rw[b' (λe=>h5 (aeX UF (by omega) e).2)];exact⟨v,cJ,ik.mono m ar⟩
           . rw[b' Qa]at he;obtain⟨v,cJ,ar⟩:=b3 _ _ _ _ he ht hv;have UF:j < sz:=by rw[<-a3 _ (DJ he)];exact(pJ.1 ht).1
             rw[b' (λe=>Qa (aeX UF (by omega) e).1.symm)];exact⟨v,cJ,ik.mono m ar⟩
         . rw[abY tw,b' (λe=>Jn (aeX n' (by omega) e).2.symm)];exact b4
     . cases he
   . cases he
 . cases he
end
section
variable {P:Program} {cv:Ctx} {nt:Nat} {φ:q4} {S:r3} {env:Env} {J:ep} {n:Nat->Bool} {key:Nat} {a:Act} {w:World}
theorem arX :∀(xs:List Value) (k off:Nat) (cs:Array Value),off+k+xs.length <=cs.size ->
 (((xs.zipIdx k).foldl (λcs (c,j)=>cs.setIfInBounds (off+j) c) cs):Array Value).toList=NR cs.toList (off+k) xs
 | [],k,off,cs,h=>by simp[NR]
 | x::xs,k,off,cs,h=>by
  simp at h;rw[List.zipIdx_cons,List.foldl_cons,arX xs (k+1) off _ (by simp;omega)];simp only[Array.toList_setIfInBounds];rw[show off+(k+1)=off+k+1 by omega,arW (by simp;omega)]
theorem amh{place:Nat -> Option (Nat×Nat)}{cells:Array Value}{i:Nat}{v:Value}{r:List (Nat×Value)}{off sz:Nat}(a7:place i=some (off,sz))(h1:v.cells.size=sz)(ah:off+sz <=cells.size):
 Instr.fill place cells ((i,v)::r)=Instr.fill place (NR cells.toList off v.cells.toList).toArray r:=by
 simp only[Instr.fill,a7];rw[b' (by simp[h1];omega)]
 congr 1
 apply Array.ext';have:=arX v.cells.toList 0 off cells (by simp;omega);rw[<-Array.foldl_toList];simp only[Array.toList_zipIdx]
 simpa using this
theorem aqx {fs:Array Field} {place:Nat -> Option (Nat×Nat)} (R:Rel cv nt φ S env J n a w)
 (YW:∀(j:Nat) f k,fs[j]?=some f->C4 P f.type=some k->place j=some (f.offset,k)):
 ∀{parts:List (Nat×Operand)} {ps:List (Nat×Nat×dJ)} {cs:List C} {vs:List Value} {p:Prop} {ds:List C},abj P fs parts=some ps->RF env cs ps=some (p,ds)->p->
  ez (gb φ w S) cs vs->cs.all (C.cx n)=true->
  ∃us:List Value,Instr.fill place vs.toArray (parts.map λ(i,x)=>(i,a.eval x))=some us.toArray/\ez (gb φ w S) ds us/\ds.all (C.cx n)=true
 | [],ps,cs,vs,p,ds,BJ,ai,a7,ny,K3=>by
  simp[abj]at BJ;subst BJ;simp[RF]at ai;obtain⟨_,rfl⟩:=ai;exact⟨vs,by simp[Instr.fill],ny,K3⟩
 | (j,x)::r,ps,cs,vs,p,ds,BJ,ai,a7,ny,K3=>by
  simp only[abj,ha,fr]at BJ;obtain⟨f,c6,k,hk,hc,aa,apw,af0,rfl⟩:=BJ;simp only[RF,ha,sr,fr,hy]at ai;obtain⟨⟨q,v⟩,a8,es,C',⟨h1,ah⟩,⟨Zd,ye⟩,LO,rfl,rfl⟩:=ai;have Jm:=f5 R aa a8 a7.1;obtain⟨cJ,acV⟩:=Vk Jm.1 C' Jm.2
  have aJ:=ny.length;have M4:=cJ.length;obtain⟨us,bJ,ea,hi⟩:=aqx R YW af0 LO a7.2 (vs:=NR vs f.offset (a.eval x).cells.toList) (by unfold Xj;exact ny.fill cJ _) (amw K3 acV _);refine⟨us,?_,ea,hi⟩;simp only[Q9];rw[amh (YW j f k c6 hk) (by rw[<-Y7,<-M4,h1]) (by simp;omega)];exact bJ
theorem arn{place:Nat -> Option (Nat×Nat)}{m:Nat}(R:Rel cv nt φ S env J n a w)(YW:∀j,place j=some (j*m,m)):
 ∀{parts:List (Nat×Operand)} {ps:List (Nat×Nat×dJ)} {cs:List C} {vs:List Value} {p:Prop} {ds:List C},abX m parts=some ps->RF env cs ps=some (p,ds)->p->
  ez (gb φ w S) cs vs->cs.all (C.cx n)=true->
  ∃us:List Value,Instr.fill place vs.toArray (parts.map λ(i,x)=>(i,a.eval x))=some us.toArray/\ez (gb φ w S) ds us/\ds.all (C.cx n)=true
 | [],ps,cs,vs,p,ds,BJ,ai,a7,ny,K3=>by
  simp[abX]at BJ;subst BJ;simp[RF]at ai;obtain⟨_,rfl⟩:=ai;exact⟨vs,by simp[Instr.fill],ny,K3⟩
 | (j,x)::r,ps,cs,vs,p,ds,BJ,ai,a7,ny,K3=>by
  simp only[abX,ha,fr]at BJ;obtain⟨hc,aa,apw,af0,rfl⟩:=BJ;simp only[RF,ha,sr,fr,hy]at ai;obtain⟨⟨q,v⟩,a8,es,C',⟨h1,ah⟩,⟨Zd,ye⟩,LO,rfl,rfl⟩:=ai;have Jm:=f5 R aa a8 a7.1;obtain⟨cJ,acV⟩:=Vk Jm.1 C' Jm.2;have aJ:=ny.length
  have M4:=cJ.length;obtain⟨us,bJ,ea,hi⟩:=arn R YW af0 LO a7.2 (vs:=NR vs (j*m) (a.eval x).cells.toList) (by unfold Xj;exact ny.fill cJ _) (amw K3 acV _);refine⟨us,?_,ea,hi⟩;simp only[Q9];rw[amh (YW j) (by rw[<-Y7,<-M4,h1]) (by simp;omega)];exact bJ
theorem aEJ{fs:List Field}(h:∀f,f∈fs -> ∃k,C4 P f.type=some k):
 ∃ps:List (Nat×Nat),(fs.mapM λf=>do pure (f.offset,<-sizeOf f.type):Sem (List (Nat×Nat))).run P w= .ok ps w/\ps.length=fs.length/\∀(j:Nat) f k,fs[j]?=some f->C4 P f.type=some k->ps[j]?=some (f.offset,k):=by
 induction fs with
 | nil=>exact⟨[],by simp,rfl,by simp⟩
 | cons f fs ih=>
  obtain⟨ps,h1,aJ,ah⟩:=ih λf c6=>h f (by simp[c6])
  obtain⟨k,hk⟩:=h f (by simp);refine⟨(f.offset,k)::ps,?_,by simp[aJ],?_⟩
  . rw[List.mapM_cons];simp only[bind_pure_comp]at h1;simp[PZ hk,h1]
  . intro j g ix a8 YT;cases j with
    | zero=>simp at a8;subst a8;rw[hk]at YT;cases YT;rfl
    | succ j=>simpa using ah j g ix (by simpa using a8) YT
theorem aEZ (R:Rel cv nt φ S env J n a w) {o:Oper} {ty:TypeId} {parts:Array (Nat×Operand)} (c7:o.op= .build ty parts) {fs:Array Field} (pq:P.underlying ty=some (.struct fs)) (UE:ak0 P fs=true)
 {z:List C} (gA:Rn P ty=some z) {ps:List (Nat×Nat×dJ)} (BJ:abj P fs parts.toList=some ps)
 {p v J'} (hk:n key=false) (h:dy (.build z ps) env J key=some (p,v,J')) (a7:p):Good P cv nt env J' (ins n key) a v ((execOp a.eval o).run P w):=by
 simp only[dy,fr,hy]at h;obtain⟨⟨q,ds⟩,ai,rfl,rfl,rfl⟩:=h;obtain⟨i,H',al,Q5,ny,K3⟩:=abA (φ:=φ) (w:=w) (S:=S) (n:=n) gA
 obtain⟨pl,YW,aNb,aKL⟩:=aEJ (P:=P) (w:=w) (fs:=fs.toList) (by
  simp only[ak0,qx]at UE;intro f c6;have:=UE f c6
  exact agz.1 this)
 have aou:(fs.mapM λf=>do pure (f.offset,<-sizeOf f.type):Sem (Array (Nat×Nat))).run P w= .ok pl.toArray w:=by
  rw[Array.mapM_eq_mapM_toList];simp_all
 obtain⟨us,h1,ah,bJ⟩:=aqx (place:=(pl.toArray[·]?)) R (λj f k c6 hk=>by simpa using aKL j f k (by simpa using c6) hk) BJ ai a7 ny K3;refine Good.pure R (x:= .agg us.toArray) ?_ (.agg ah) (by simpa[V.cx]using bJ);have J3:Instr.fill (λx=>pl.toArray[x]?) H'.cells ((parts.map λ(i,x)=>(i,a.eval x)).toList)=some us.toArray:=by simp_all
 simp only[execOp,c7,Instr.build,zeroValue,typeInfo,Sem.run_bind,run_program,Result.andThen_ok,al,Sem.run_pure,Q5,underlying,pq,aou];simp only[bind_pure_comp]at aou;simp[aou];simp at J3;rw[J3];simp
theorem gen (R:Rel cv nt φ S env J n a w) {o:Oper} {ty:TypeId} {parts:Array (Nat×Operand)} (c7:o.op= .build ty parts) {len:Nat} {e:TypeId} (pq:P.underlying ty=some (.array len e)) {m:Nat} (hm:C4 P e=some m)
 {z:List C} (gA:Rn P ty=some z) {ps:List (Nat×Nat×dJ)} (BJ:abX m parts.toList=some ps)
 {p v J'} (hk:n key=false) (h:dy (.build z ps) env J key=some (p,v,J')) (a7:p):Good P cv nt env J' (ins n key) a v ((execOp a.eval o).run P w):=by
 simp only[dy,fr,hy]at h;obtain⟨⟨q,ds⟩,ai,rfl,rfl,rfl⟩:=h;obtain⟨i,H',al,Q5,ny,K3⟩:=abA (φ:=φ) (w:=w) (S:=S) (n:=n) gA;obtain⟨us,h1,ah,bJ⟩:=arn (place:=λi=>some (i*m,m)) R (λj=>rfl) BJ ai a7 ny K3;refine Good.pure R (x:= .agg us.toArray) ?_ (.agg ah) (by simpa[V.cx]using bJ)
 have J3:Instr.fill (λi=>some (i*m,m)) H'.cells ((parts.map λ(i,x)=>(i,a.eval x)).toList)=some us.toArray:=by simp_all
 simp at J3;simp[execOp,c7,Instr.build,zeroValue,typeInfo,al,Q5,underlying,pq,PZ hm,J3]
def OF(w:World)(S:r3)(sz:Nat)(es:List (List T))(vs:List Value):Prop:=
 ∀(i j:Nat) e t,es[i]?=some e->e[j]?=some t->∃v,vs[i*sz+j]?=some v/\ik w S t v
theorem alB{sz:Nat}(R:Rel cv nt φ S env J n a w)(h0:0 < sz):
 ∀{parts:List (Nat×Operand)} {ps:List (Nat×dJ)} {es:List (List T)} {vs:List Value} {p:Prop} {ds:List (List T)},Wz parts=some ps->PC env sz es ps=some (p,ds)->p->
  (∀e,e∈es->e.length=sz)->vs.length=es.length*sz->OF w S sz es vs->
  ∃us:List Value,Instr.fill (λi=>some (i*sz,sz)) vs.toArray (parts.map λ(i,x)=>(i,a.eval x))=some us.toArray/\(∀e,e∈ds->e.length=sz)/\ds.length=es.length/\us.length=vs.length/\OF w S sz ds us/\(∀u,u∈us->u∈us)
 | [],ps,es,vs,p,ds,BJ,ai,a7,hI,aJ,ar=>by
  simp[Wz]at BJ;subst BJ;simp[PC]at ai;obtain⟨_,rfl⟩:=ai;exact⟨vs,by simp[Instr.fill],hI,rfl,rfl,ar,λ_ h=>h⟩
 | (i0,x)::r,ps,es,vs,p,ds,BJ,ai,a7,hI,aJ,ar=>by
  simp only[Wz,ha,fr]at BJ;obtain⟨hc,aa,apw,af0,rfl⟩:=BJ;simp only[PC,ha,sr,fr,hy]at ai;obtain⟨⟨q,v⟩,a8,cs,r',ts,JR,⟨h1,ah⟩,⟨Zd,ye⟩,LO,rfl,rfl⟩:=ai;have Jm:=f5 R aa a8 a7.1;obtain⟨cJ,acV⟩:=Vk Jm.1 r' Jm.2;have VV:=Zv JR cJ
  have M4:=VV.length;have hle:i0*sz+sz<=vs.length:=by
   have:=Ji sz (show i0+1<=es.length from ah)
   grind
  obtain ⟨us, bJ, ea, hi, q0, Tt, OM⟩ := alB R h0 af0 LO a7.2 (es := es.set i0 ts) (vs := NR vs (i0 * sz) (a.eval x).cells.toList) (by
   grind) (by rw[W4 (by omega)];simpa using aJ) (by
   intro i j e t he ht;rw[Uc (by omega)];rw[ajH]at he;by_cases Qa:i0=i
   . subst Qa;rw[b6 rfl,b6 ah]at he;cases he;have dx:=(pJ.1 ht).1;rw[b' (by omega),b6 (by omega),show i0*sz+j - i0*sz=j by omega];exact VV.get ht
   . rw[b' Qa]at he;have dx:=(pJ.1 ht).1;rw[hI _ (DJ he)]at dx;rcases Nat.lt_or_gt_of_ne Qa with h | h
     . have:=Ji sz (show i0+1<=i from h);rw[Lc]at this;rw[b' (by omega),b' (by omega)];exact ar _ _ _ _ he ht
     . have:=Ji sz (show i+1<=i0 from h);rw[Lc]at this;rw[b6 (by omega)]
       exact ar _ _ _ _ he ht)
  refine⟨us,?_,ea,by simpa using hi,by rw[q0,W4 (by omega)],Tt,λ_ h=>h⟩;simp only[Q9];rw[amh (place:=λi=>some (i*sz,sz)) rfl (by rw[<-Y7,<-M4,h1]) (by simpa using hle)];exact bJ
theorem asf{z:Array Value}{sz len:Nat}(gA:z.size=sz)(h0:0 < sz)(i j:Nat)(al:i < len)(dx:j < sz):
 ((Array.range (len*sz)).map (z[· % z.size]!))[i*sz+j]?=z[j]?:=by
 have ey:i*sz+j < len*sz:=by
  have:=Ji sz (show i+1<=len from al)
  grind
 rw[Array.getElem?_map,Array.getElem?_range,b6 ey];simp only[La,gA];have:(i*sz+j) % sz=j:=by rw[ajM,Nat.add_mul_mod_self_right,apf dx]
 rw[this];have Qb:j < z.size:=by omega
 simp[Qb]
theorem aro {ty:TypeId} {len:Nat} {parts:Array (Nat×Value)} {e:TypeId} (pq:P.underlying ty=some (.slice e)) {sz:Nat} (hI:C4 P e=some sz) {i:TypeInfo} {H':Value} (al:P.info? e=some i) (Q5:i.zero=some H')
 (h0:sz≠0) (hle:len*sz<=2 ^ 24) {Z:Array Value} (awW:Z=(Array.range (len*sz)).map (H'.cells[· % H'.cells.size]!)) {us:List Value} (c6:Instr.fill (λi=>some (i*sz,sz)) Z parts.toList=some us.toArray):
 (Instr.buildSlice ty len parts).run P w= .ok (.slice (some ⟨w.heap.size,0,none⟩) len len) (w.alloc (.cells us.toArray e)):=by
 have axw:¬(len*sz > 2 ^ 24):=by omega
 have N1:∀w,(zeroValue e).run P w= .ok H' w:=by intro w;simp[zeroValue,typeInfo,al,Q5]
 by_cases aJ:len*sz=0
 . have aJL:Z=#[]:=by rw[awW,aJ];simp
   subst aJL;have hf:(Array.map (λx=>(#[]:Array Value)[x % (#[]:Array Value).size]!) (Array.range (len*sz)))=#[]:=by rw[aJ];simp
   unfold Instr.buildSlice;simp only[Sem.run_bind,run_underlying pq,Result.andThen_ok,PZ hI,b' axw,b6 aJ,Sem.run_pure,hf,c6];rfl
 . unfold Instr.buildSlice;subst awW;simp only[Sem.run_bind,run_underlying pq,Result.andThen_ok,PZ hI,b' axw,b' aJ,Sem.run_pure,N1,c6];rfl
theorem aDM (R:Rel cv nt φ S env J n a w) {o:Oper} {ty:TypeId} {len:Nat} {parts:Array (Nat×Operand)} (c7:o.op= .buildSlice ty len parts) {e:TypeId} (pq:P.underlying ty=some (.slice e)) {sz:Nat} (hI:C4 P e=some sz)
 {z:List C} (gA:Rn P e=some z) {ps:List (Nat×dJ)} (BJ:Wz parts.toList=some ps) (h0:sz≠0) (MJ:z.length=sz) (hle:len*sz<=2 ^ 24)
 {p v J'} (hk:n key=false) (h:dy (.bslice sz len z ps) env J key=some (p,v,J')) (a7:p):Good P cv nt env J' (ins n key) a v ((execOp a.eval o).run P w):=by
 simp only[dy,ha,fr,hy]at h;obtain⟨NL,Q4,⟨q,ds⟩,ai,rfl,rfl,rfl⟩:=h;obtain⟨i,H',al,Q5,ny,K3⟩:=abA (φ:=φ) (w:=w) (S:=S) (n:=n) gA;have N1:=Zv Q4 ny;have aoN:H'.cells.size=sz:=by rw[<-Y7,<-ny.length,MJ]
 have YY:0 < sz:=by omega
 have aLk:NL.length=sz:=by rw[aet Q4,MJ]
 obtain ⟨us, h1, ah, bJ, ea, hi, _⟩ := alB R YY BJ ai a7 (es := List.replicate len NL) (vs := ((Array.range (len * sz)).map (H'.cells[· % H'.cells.size]!)).toList) (by
  grind) (by simp) (by
  intro i j e t he ht;have al:=(pJ.1 he).1;simp at al;have:e=NL:=by
   have:=DJ he;exact ajS this
  subst this;have dx:=(pJ.1 ht).1;obtain⟨x,aa,ar⟩:=N1.get ht;refine⟨x,?_,ar⟩;rw[ao6,asf aoN YY i j al (by omega)]
  simpa using aa)
 simp at bJ;have aju:us.length=len*sz:=by rw[ea];simp
 have jJ:=R.alloc (.cells us.toArray e);have m:=R.agn (.cells us.toArray e);have hlen:len<=Jf:=by
  have:len<=len*sz:=ao5 len YY;unfold Jf;omega
 have u4:=jJ.PR hk (x:= .arr sz ds) (w.heap.size,len) rfl (by
  simp only[pr,ii];refine⟨by omega,by omega,ah,YY,λ_=>⟨us,e,W1,aju,λi j e t he ht=>?_,λj h=>?_⟩⟩
  . obtain⟨v,cJ,ar⟩:=hi i j e t he ht;exact⟨v,cJ,ik.mono m ar⟩
  . have:=R.hJ.st _ _ h
    omega) (λ_=>⟨λk y b8 h0=>by
     have:=(R.hJ.blk k y b8).Qo h0
     simp;omega,.inr R.ext.size⟩)
 refine⟨.slice (some ⟨w.heap.size,0,none⟩) len len,_,S,_,.inl ?_,.c ⟨some ⟨w.heap.size,0,none⟩,by simp[ii],by simp[ii],by simp[ii]⟩,by simp[V.cx,C.cx,ins],u4⟩;have J3:Instr.fill (λi=>some (i*sz,sz)) ((Array.range (len*sz)).map (H'.cells[· % H'.cells.size]!)) ((parts.map λ(i,x)=>(i,a.eval x)).toList)=some us.toArray:=by
  rw[Array.toList_map];exact h1
 have ar:=aro (P:=P) (w:=w) pq hI al Q5 h0 hle rfl J3;simp only[execOp,c7,Sem.run_bind,ar,Result.andThen_ok];rfl
end
section
variable {P:Program} {cv:Ctx} {nt:Nat} {φ:q4} {S:r3} {env:Env} {J:ep} {n:Nat->Bool} {key:Nat} {a:Act} {w:World}
theorem asF(Y6:Nat):∀(r c:Nat),c<=2*Y6+192->Builtin.growBy Y6 r c<=2*Y6+192
 | 0,c,h=>h
 | r+1,c,h=>by
  unfold Builtin.growBy;split
  . exact h
  . exact asF Y6 r _ (by omega)
theorem arh{Y6 JJ:Nat}(h:JJ < Y6):Builtin.nextslicecap Y6 JJ<=2*Y6+192:=by
 unfold Builtin.nextslicecap;split
 . omega
 . split
   . omega
   . exact asF _ _ _ (by omega)
theorem aE0{α:Type}{p:α->Prop}{l m:List α}(h:∀x,x∈l->p x)(k:∀x,x∈m->p x):∀x,x∈l++m->p x:=by grind
def Zq(P:Program)(w:World)(S:r3)(sz:Nat)(v:Value)(ys:List (List T))(b:Option Nat):Prop:=
 (Builtin.lenOf v).run P w= .ok ys.length w/\∃xs:List Value,(Builtin.firstCells sz ys.length v).run P w= .ok xs.toArray w/\xs.length=ys.length*sz/\OF w S sz ys xs/\∀x,x∈xs->x.oneCell'=true
theorem arY{sz k len:Nat}(h0:0 < sz)(hk:k < len*sz):k / sz < len/\k % sz < sz/\(k / sz)*sz+k % sz=k:=
 ⟨Nat.div_lt_of_lt_mul (by rw[Nat.mul_comm];exact hk),Nat.mod_lt _ h0,by rw[Nat.mul_comm];exact Nat.div_add_mod k sz⟩
theorem OF.one{sz:Nat}{ys:List (List T)}{xs:List Value}(h0:0 < sz)(hI:∀e,e∈ys->e.length=sz)(aJ:xs.length=ys.length*sz)(h:OF w S sz ys xs):∀x,x∈xs->x.oneCell'=true:=by
 intro x aa;obtain⟨k,hk,aKw⟩:=K' aa;obtain⟨h1,ah,bJ⟩:=arY h0 (by rw[<-aJ];exact hk);have he:ys[k / sz]?=some ys[k / sz]:=CJ h1;have R7:ys[k / sz].length=sz:=hI _ (ajJ h1);have ht:(ys[k / sz])[k % sz]?=some (ys[k / sz])[k % sz]:=CJ (by omega);obtain⟨v,cJ,ar⟩:=h _ _ _ _ he ht
 rw[bJ,CJ hk,aKw]at cJ;cases cJ;exact ik.OU ar
theorem aea{b o m:Nat}{xs:List Value}(aJ:xs.length=m)(h:∀j,j < m->w.cell? ⟨b,o+j,none⟩=xs[j]?):(loadCells ⟨b,o,none⟩ m).run P w= .ok xs.toArray w:=by
 have:=run_loadCells_list (P:=P) w ⟨b,o,none⟩ xs (λj v dx=>by
  have Qb:j < m:=by rw[<-aJ];exact(pJ.1 dx).1
  rw[<-dx,<-h j Qb];unfold Addr.add;split
  . grind
  . rfl)
 grind
theorem aEK{sz:Nat}(h0:0 < sz){ys:List (List T)}{v:Value}(cJ:ik w S (.slice ys) v)(hI:∀e,e∈ys->e.length=sz):Zq P w S sz v ys none:=by
 obtain⟨a,cap,kp,b,o,f,rfl,OP,K5,ajs,ch,ay,ar⟩:=ik.Qq cJ;refine⟨by simp[Builtin.lenOf],?_⟩;by_cases hv:ys=[]
 . subst hv;refine⟨[],?_,by simp,by intro i j e t he;simp at he,by simp⟩;cases a with
   | none=>simp[Builtin.firstCells]
   | some a=>simp[Builtin.firstCells,loadCells,loadCellsFrom]
 . have aaK:kp=sz:=by
    obtain⟨vK,On⟩:=ajQ ys hv
    grind
   subst aaK;rw[ch hv];have aa:((List.range (ys.length*kp)).map λk=>f (k / kp) (k % kp)).length=ys.length*kp:=by simp
   have J6:OF w S kp ys ((List.range (ys.length*kp)).map λk=>f (k / kp) (k % kp)):=by
    intro i j e t he ht;have al:=(pJ.1 he).1;have dx:=(pJ.1 ht).1;rw[hI _ (DJ he)]at dx;have ey:i*kp+j < ys.length*kp:=by
     have:=Ji kp (show i+1<=ys.length from al)
     grind
    refine⟨f i j,?_,ar _ _ _ _ he ht⟩;have e':(i*kp+j) / kp=i:=by rw[ajM,Nat.add_mul_div_right _ _ h0,Nat.div_eq_of_lt dx];omega
    have hf:(i*kp+j) % kp=j:=by rw[ajM,Nat.add_mul_mod_self_right,apf dx]
    grind
   refine⟨_,?_,aa,J6,OF.one h0 hI aa J6⟩;show(loadCells ⟨b,o,none⟩ (ys.length*kp)).run P w=_;refine aea aa ?_;intro j dx;obtain⟨h1,ah,bJ⟩:=arY h0 dx
   grind
theorem aEL{sz:Nat}{v:Value}(cJ:gb φ w S .eI v):Zq P w S sz v [] none:=by
 obtain⟨a,rfl⟩:=cJ;refine⟨by simp[Builtin.lenOf],[],?_,by simp,by intro i j e t he;simp at he,by simp⟩;cases a with
 | none=>simp[Builtin.firstCells]
 | some a=>simp[Builtin.firstCells,loadCells,loadCellsFrom]
theorem asG{sz b:Nat}{ys:List (List T)}{v:Value}(u0:pr φ w S b (.arr sz ys))(cJ:gb φ w S (.arr b sz 0 ys.length) v):Zq P w S sz v ys (some b):=by
 obtain⟨a,rfl,ch,hle⟩:=gb.MB cJ;obtain⟨h1,ah,bJ,ea,hi⟩:=u0;refine⟨by simp[Builtin.lenOf],?_⟩;by_cases h0:(φ b).2=0
 . have:ys=[]:=Sv (by omega);subst this;refine⟨[],?_,by simp,by intro i j e t he;simp at he,by simp⟩;cases a with
   | none=>simp[Builtin.firstCells]
   | some a=>simp[Builtin.firstCells,loadCells,loadCellsFrom]
 . obtain⟨vs,E,ak,aJ,ar,_⟩:=hi h0;rw[ch h0];have aoi:ys.length*sz<=vs.length:=by rw[aJ];exact Ji _ (by omega)
   have aa:(vs.take (ys.length*sz)).length=ys.length*sz:=by simp;omega
   have J6:OF w S sz ys (vs.take (ys.length*sz)):=by
    intro i j e t he ht;have al:=(pJ.1 he).1;have dx:=(pJ.1 ht).1;rw[bJ _ (DJ he)]at dx;have ey:i*sz+j < ys.length*sz:=by
     have:=Ji sz (show i+1<=ys.length from al)
     grind
    grind
   refine⟨_,?_,aa,J6,OF.one ea bJ aa J6⟩;rw[agv];show(loadCells ⟨(φ b).1,0,none⟩ (ys.length*sz)).run P w=_;refine aea aa ?_;intro j dx;rw[Jq,OZ ak,SD,b6 dx]
theorem Zq.world{sz:Nat}{v:Value}{ys:List (List T)}{b:Option Nat}(h:Zq P w S sz v ys b){m:Nat}:∃xs:List Value,xs.length=ys.length*sz/\OF w S sz ys xs/\(∀x,x∈xs->x.oneCell'=true):=by
 obtain⟨_,xs,_,h1,ah,bJ⟩:=h;exact⟨xs,h1,ah,bJ⟩
theorem aqE(z:Array Value)(m:Nat):(Builtin.zeroCells z m).size=m*z.size:=by simp[Builtin.zeroCells]
theorem aqF {st HW e Rm:TypeId} {i:TypeInfo} {H':Value} (n2:P.underlying st=some (.slice e)) (G2:P.underlying HW=some (.slice Rm)) (al:P.info? e=some i) (gA:i.zero=some H') (YZ:H'.cells.size=i.size)
 {base:Option Addr} {sl sc wJ:Nat} {y:Value} {xs sJ:List Value} (Jz:(Builtin.lenOf y).run P w= .ok wJ w)
 (aa:(Builtin.firstCells i.size sl (.slice base sl sc)).run P w.drew= .ok xs.toArray w.drew) (b8:(Builtin.firstCells i.size wJ y).run P w.drew= .ok sJ.toArray w.drew)
 (Lp:sc < sl+wJ) (OP:(2*(sl+wJ)+192)*i.bytes<=Pz) (K5:sl+wJ<=Jf) {tt:TypeId}:
 ∃(K9:Nat) (r:List Value),sl+wJ<=K9/\r.length=(K9 - (sl+wJ))*i.size/\
  (Builtin.append_ #[st,HW] tt #[.slice base sl sc,y]).run P w= .ok (.slice (some ⟨w.heap.size,0,none⟩) (sl+wJ) K9) (w.drew.alloc (.cells (xs++sJ++r).toArray e)):=by
 have aaH:∀w,(sizeOf e).run P w= .ok i.size w:=λw=>by simp[sizeOf,typeInfo,al]
 have Xr:∀w,(typeInfo e).run P w= .ok i w:=λw=>by simp[typeInfo,al]
 have hzero:∀w,(zeroValue e).run P w= .ok H' w:=λw=>by simp[zeroValue,Xr,gA]
 generalize afZ:(Question.appendCap (sl+wJ) sc e).cut (w.tape w.drawn (Question.appendCap (sl+wJ) sc e))=K9;have aom:sl+wJ<=K9:=by rw[<-afZ];simp[Question.cut]
 have h1:¬(sl+wJ<=sc):=by omega
 have ah:¬(((sl+wJ:Nat):Int) > IntKind.i64.max/\(False\/i.bytes=0)):=by intro h;have:=h.1;simp[IntKind.max,IntKind.signed,IntKind.bits]at this;unfold Jf at K5;omega
 have bJ:¬(Builtin.nextslicecap (sl+wJ) sc*i.bytes > 2 ^ 48):=by
  have:=Ji i.bytes (arh Lp);unfold Pz at OP;omega
 refine⟨K9,(Builtin.zeroCells H'.cells (K9 - (sl+wJ))).toList,aom,by simp[aqE,YZ],?_⟩;have an5:(choose (.appendCap (sl+wJ) sc e)).run P w= .ok K9 w.drew:=by rw[run_choose];simp only[Question.forced,u1,vv,afZ];rfl
 have e':(xs++sJ++(Builtin.zeroCells H'.cells (K9 - (sl+wJ))).toList).toArray=xs.toArray++sJ.toArray++Builtin.zeroCells H'.cells (K9 - (sl+wJ)):=by grind
 rw[e'];unfold Builtin.append_;simp only[ajV,agA,ajT,Sem.run_bind,run_underlying n2,run_underlying G2,Result.andThen_ok,aaH,Sem.run_pure,u1,vv,Jz,b' h1,Xr];rw[b' (by simpa using ah)];simp only[Sem.run_bind,Sem.run_pure,Result.andThen_ok,Xr];rw[b' bJ]
 simp only[Sem.run_bind,Sem.run_pure,Result.andThen_ok,Xr,an5,run_askRoom,aa,b8,hzero,Ov,q'];simp only[newRow,Sem.run_bind,run_newObj,Result.andThen_ok,Sem.run_pure];rfl
theorem adI {st HW e Rm:TypeId} {i:TypeInfo} (n2:P.underlying st=some (.slice e)) (G2:P.underlying HW=some (.slice Rm)) (al:P.info? e=some i)
 {base:Option Addr} {sl sc wJ:Nat} {y:Value} {sJ:List Value} (Jz:(Builtin.lenOf y).run P w= .ok wJ w) (b8:(Builtin.firstCells i.size wJ y).run P w= .ok sJ.toArray w) (Lp:sl+wJ<=sc) {w':World}
 (hs:∀hY,base=some hY->(storeCells (hY.add (sl*i.size)) sJ 0).run P w= .ok () w') (ai:base=none->w'=w) {tt:TypeId}:
  (Builtin.append_ #[st,HW] tt #[.slice base sl sc,y]).run P w= .ok (.slice base (sl+wJ) sc) w':=by
 have aaH:∀w,(sizeOf e).run P w= .ok i.size w:=λw=>by simp[sizeOf,typeInfo,al]
 unfold Builtin.append_;simp only[ajV,agA,ajT,Sem.run_bind,run_underlying n2,run_underlying G2,Result.andThen_ok,aaH,Sem.run_pure,u1,vv,Jz,b6 Lp,b8,Ov,q'];cases base with
 | none=>rw[ai rfl];rfl
 | some hY=>
  simp only[Sem.run_bind,hs hY rfl,Result.andThen_ok];rfl
theorem OF.append {sz:Nat} {es ys:List (List T)} {xs sJ r:List Value} (h0:0 < sz) (C':∀e,e∈es -> e.length=sz) (Xz:∀e,e∈ys -> e.length=sz) (aa:xs.length=es.length*sz) (gA:sJ.length=ys.length*sz)
 (h1:OF w S sz es xs) (ah:OF w S sz ys sJ):OF w S sz (es++ys) (xs++sJ++r):=by
 intro i j e t he ht;by_cases al:i < es.length
 . rw[V2 al]at he;have dx:=(pJ.1 ht).1;rw[C' _ (DJ he)]at dx;have:=Ji sz (show i+1<=es.length from al);rw[Lc]at this;rw[SE,V2 (by omega)];exact h1 _ _ _ _ he ht
 . rw[V1 (by omega)]at he;have dx:=(pJ.1 ht).1;rw[Xz _ (DJ he)]at dx;have acK:=(pJ.1 he).1;have bJ:=Ji sz (show es.length<=i by omega);have ea:=Ji sz (show(i - es.length)+1<=ys.length from acK)
   have hi:(i - es.length)*sz=i*sz - es.length*sz:=Nat.sub_mul _ _ _;rw[Lc]at ea;rw[SE,V1 (by omega),V2 (by omega),show i*sz+j - xs.length=(i - es.length)*sz+j by omega];exact ah _ _ _ _ he ht
theorem Rel.drew(R:Rel cv nt φ S env J n a w):Rel cv nt φ S env J n a w.drew:=
 R.world (λ_=>False) rfl rfl rfl (JA _) (λ_ _ _=>rfl) (λ_ h=>h.elim)
theorem aiz (R:Rel cv nt φ S env J n a w) {y:Operand} {vy:dJ} (b8:hC y=some vy) {p:Prop} {v:V} (a8:vy.get env=some (p,v)) (a7:p) {sz:Nat} (h0:0 < sz) {ys:List (List T)×Option Nat}
 (h:TS J v=some ys) (hI:∀e,e∈ys.1->e.length=sz):Zq P w S sz (a.eval y) ys.1 ys.2:=by
 have Jm:=(f5 R b8 a8 a7).1;unfold TS at h;split at h
 . cases h;exact aEK h0 Jm.xn hI
 . cases h;exact aEL Jm.xn
 . split at h
   . rename_i b aMk aNp aNm _ aNv ay8 kx;simp only[sr,hz]at h;obtain⟨⟨h1,rfl,rfl⟩,rfl⟩:=h;subst h1;by_cases hv:ay8=[]
     . subst hv;obtain⟨pa,cJ,_⟩:=gb.MB Jm.xn;simp at cJ;rw[cJ];refine⟨by simp[Builtin.lenOf],[],?_,by simp,by intro i j e t he;simp at he,by simp⟩;cases pa with
       | none=>simp[Builtin.firstCells]
       | some a=>simp[Builtin.firstCells,loadCells,loadCellsFrom]
     . have aaK:aMk=sz:=by
        obtain⟨vK,On⟩:=ajQ ay8 hv;rw[<-(R.hJ.blk _ _ kx).2.2.1 _ On,hI _ On]
       subst aaK;exact asG (R.hJ.blk _ _ kx) Jm.xn
   . cases h
 . cases h
theorem aFG{sz b off len:Nat}{es:List (List T)}{v:Value}(u0:pr φ w S b (.arr sz es))(cJ:gb φ w S (.JK b sz off len) v)(tw:off+len<=es.length):Zq P w S sz v ((es.drop off).take len) none:=by
 obtain⟨a,cap,rfl,ch,hle⟩:=cJ;obtain⟨h1,ah,bJ,ea,hi⟩:=u0;have Jz:((es.drop off).take len).length=len:=by simp;omega
 refine⟨by simp[Builtin.lenOf,Jz],?_⟩;rw[Jz];by_cases h0:len=0
 . subst h0;refine⟨[],?_,by simp,by intro i j e t he;simp at he,by simp⟩;cases a with
   | none=>simp[Builtin.firstCells]
   | some a=>simp[Builtin.firstCells,loadCells,loadCellsFrom]
 . obtain⟨vs,E,ak,aJ,ar,_⟩:=hi (by omega);rw[ch h0];have aoi:off*sz+len*sz<=vs.length:=by rw[aJ,<-Lc];exact Ji _ (by omega)
   have aa:((vs.drop (off*sz)).take (len*sz)).length=len*sz:=by simp;omega
   have hI:∀e,e∈(es.drop off).take len->e.length=sz:=λe he=>bJ e (ao8 (agB he))
   have J6:OF w S sz ((es.drop off).take len) ((vs.drop (off*sz)).take (len*sz)):=by
    intro i j e t he ht;have al:i < len:=by have:=(pJ.1 he).1;omega
    rw[SD,b6 al,Y8]at he;have dx:=(pJ.1 ht).1;rw[bJ _ (DJ he)]at dx;have ey:i*sz+j < len*sz:=by
     have:=Ji sz (show i+1<=len from al);rw[Lc]at this;omega
    obtain⟨v,cJ,Xy⟩:=ar _ _ _ _ he ht;refine⟨v,?_,Xy⟩;rw[SD,b6 ey,Y8,<-XJ,<-Lc];exact cJ
   refine⟨_,?_,aa,J6,OF.one ea hI (by rw[Jz];exact aa) J6⟩;show(loadCells ⟨(φ b).1,off*sz,none⟩ (len*sz)).run P w=_;refine aea aa ?_;intro j dx;rw[OZ ak,SD,b6 dx,Y8]
theorem aEd (R:Rel cv nt φ S env J n a w) {o:Oper} {x y:Operand} {st HW e Rm:TypeId} (c7:o.op= .call {callee:= .builtin .append,args:=#[x,y],argTypes:=#[st,HW]})
 (n2:P.underlying st=some (.slice e)) (G2:P.underlying HW=some (.slice Rm)) {i:TypeInfo} (al:P.info? e=some i) (Pj:i.size≠0)
 {hc vy:dJ} (aa:hC x=some hc) (b8:hC y=some vy) {EJ TM:Prop} {Hr TQ:V} (iJ:hc.get env=some (EJ,Hr)) (JP:vy.get env=some (TM,TQ)) {r}
 {p v J'} (hw:UW Hr TQ=some r) (hk:n key=false) (h:acn J key i.size EJ TM r=some (p,v,J')) (a7:p):Good P cv nt env J' (ins n key) a v ((execOp a.eval o).run P w):=by
 have s':∀r w',(Builtin.append_ #[st,HW] o.type #[a.eval x,a.eval y]).run P w= .ok r w'->(execOp a.eval o).run P w= .ok (.value r) w':=by
  intro r w' ar;simp[execOp,c7,Go.resolve,invoke,builtin,ar]
 unfold UW at hw;split at hw
 . rename_i b s1 off len hj s2 SJ N3;split at hw
   . rename_i Ol;subst Ol;cases hw;unfold acn at h;dsimp only at h;split at h
     . rename_i TP es kx;simp only[hz,hy]at h;obtain⟨rfl,rfl,rfl⟩:=h;obtain⟨xJ,vt,rfl,rfl,rfl,rfl,Qc,JH⟩:=a7;have Jm:=f5 R aa iJ xJ;obtain⟨base,Jo,anV,hle⟩:=gb.MB Jm.1.xn;have aKp:=f5 R b8 JP vt;have Oi:=R.hJ.blk _ _ kx;obtain⟨Jz,sJ,OR,MJ,N1,acZ⟩:=aFG (P:=P) Oi aKp.1.xn JH
       obtain⟨g1,g2,g3,g4,g5⟩:=Oi;have aLh:((es.drop SJ).take N3).length=N3:=by simp;omega
       rw[aLh]at Jz OR MJ;rw[Nat.sub_zero]at Jo;have Lp:len+N3<=(φ b).2:=by omega
       have h0:0 < i.size:=by omega
       have hlen:(es.take len++(es.drop SJ).take N3).length=len+N3:=by simp;omega
       have K6:∀qa,qa∈es.take len++(es.drop SJ).take N3->qa.length=i.size:=by
        intro qa Jx;rcases Nx.1 Jx with Jx | Jx
        . exact g3 qa (agB Jx)
        . exact g3 qa (ao8 (agB Jx))
       by_cases nk:(φ b).2=0
       . have Nr:len=0:=by omega
         have aKx:N3=0:=by omega
         subst Nr aKx;have agd:sJ=[]:=Sv (by simpa using MJ);subst agd;have ar:=adI (tt:=o.type) n2 G2 al (base:=base) (sl:=0) (sc:=(φ b).2) Jz OR Lp (w':=w) (λhY _=>by simp[storeCells]) (λ_=>rfl);rw[<-Jo]at ar
         have R':=(R.del b).PR hk (x:= .arr i.size (es.take 0++(es.drop SJ).take 0)) (0,0) rfl (by simp only[pr,ii];exact⟨by simp,by simp,by simp,h0,by simp⟩) (by simp);refine⟨_,_,S,w,.inl (s' _ _ ar),.c ?_,by simp[V.cx,C.cx,ins],R'⟩;exact⟨base,by simp[ii,nk,Jo],by simp[ii],by simp[ii]⟩
       . obtain⟨vs,E,ak,M4,Xy,DI⟩:=g5 nk;have Oi:=R.hJ.blk _ _ kx;have YO:len*i.size+sJ.length<=vs.length:=by rw[MJ,M4,<-Lc];exact Ji _ Lp
         obtain⟨w',Xx,hg,hl,j2,px,mJ,nJ⟩:=Vh (P:=P) sJ (len*i.size) 0 vs w ak (by omega) acZ;rw[TJ]at mJ;have UA:=anV nk;rw[agv]at UA
         have ar:=adI (tt:=o.type) n2 G2 al (base:=base) (sl:=len) (sc:=(φ b).2) Jz OR Lp (w':=w') (λhY R1=>by
          rw[UA]at R1;cases R1;have Oj:Addr.add ⟨(φ b).1,0,none⟩ (len*i.size)=⟨(φ b).1,len*i.size,none⟩:=by unfold Addr.add;split <;> simp_all
          rw[Oj];exact Xx) (λVP=>by rw[UA]at VP;cases VP)
         rw[<-Jo]at ar
         have jJ:=(R.del b).world (w':=w') (λk=>k=(φ b).1) hg hl j2 (ac6 px.symm) (λk _ hk=>nJ k hk) (λk hk=>by
          subst hk;refine⟨Oi.XF nk,λk y b8 hk=>?_,R.own b _ kx nk⟩;rw[J8]at b8;split at b8
          . cases b8
          . rename_i hv
            exactλe=>R.hJ.inj k b y _ b8 kx (tJ hv) hk nk e)
         have m:Lm w S w' S:=⟨λ_ _ h=>h,λk j h=>Yh (nJ k (λe=>Oi.XF nk j (e▸h))) j⟩
         have u4:=jJ.PR hk (x:= .arr i.size (es.take len++(es.drop SJ).take N3)) (φ b) rfl (by
          simp only[pr,ii];refine⟨by rw[hlen];exact Lp,by rw[hlen];omega,K6,h0,λ_=>⟨_,E,mJ,by rw[W4 YO];exact M4,λqi j e t he ht=>?_,DI⟩⟩;have dx:=(pJ.1 ht).1;rw[K6 _ (DJ he)]at dx;rw[Uc YO,MJ];by_cases h5:qi < len
          . have:=Ji i.size (show qi+1<=len from h5);rw[Lc]at this;rw[b6 (by omega)];rw[V2 (by simp;omega),SD,b6 h5]at he;obtain⟨v,cJ,ar⟩:=Xy _ _ _ _ he ht;exact⟨v,cJ,ik.mono m ar⟩
          . have h1:=Ji i.size (show len<=qi by omega);have js:qi < len+N3:=by rw[<-hlen];exact(pJ.1 he).1
            have:=Ji i.size (show qi+1<=len+N3 from js);rw[Lc,Lc]at this;rw[b' (by omega),b6 (by omega)];have aJ:(es.take len).length=len:=by simp;omega
            rw[V1 (by omega),aJ]at he;have hi:(qi - len)*i.size=qi*i.size - len*i.size:=Nat.sub_mul _ _ _;obtain⟨v,cJ,ar⟩:=N1 _ _ _ _ he ht;rw[show qi*i.size+j - len*i.size=(qi - len)*i.size+j by omega]
            exact⟨v,cJ,ik.mono m ar⟩) (λ_=>⟨λk y b8 hk=>by
            rw[J8]at b8;split at b8
            . cases b8
            . rename_i hv
              exact R.hJ.inj k b y _ b8 kx (tJ hv) hk nk,R.own b _ kx nk⟩)
         refine⟨_,_,S,w',.inl (s' _ _ ar),.c ?_,by simp[V.cx,C.cx,ins],u4⟩;exact⟨base,by simp[ii],by simp[ii,UA],by simp[ii];omega⟩
     . cases h
   . cases hw
 . cases hw
theorem aDN (R:Rel cv nt φ S env J n a w) {o:Oper} {x y:Operand} {st HW e Rm:TypeId} (c7:o.op= .call {callee:= .builtin .append,args:=#[x,y],argTypes:=#[st,HW]})
 (n2:P.underlying st=some (.slice e)) (G2:P.underlying HW=some (.slice Rm)) {i:TypeInfo} (al:P.info? e=some i) (Pj:i.size≠0) (gA:(i.zero.map (·.cells.size))=some i.size)
 {hc vy:dJ} (aa:hC x=some hc) (b8:hC y=some vy)
 {p v J'} (hk:n key=false) (h:dy (.append i.size i.bytes hc vy) env J key=some (p,v,J')) (a7:p):Good P cv nt env J' (ins n key) a v ((execOp a.eval o).run P w):=by
 simp only[dy,ha]at h;obtain⟨⟨EJ,Hr⟩,iJ,⟨TM,TQ⟩,JP,he⟩:=h;dsimp only at he;split at he
 . rename_i r hw;exact aEd R c7 n2 G2 al Pj aa b8 iJ JP hw hk he a7
 rename_i hw;simp only[ha]at he;obtain⟨ys,Xz,he⟩:=he;simp only[fr]at gA;obtain⟨H',Q5,YZ⟩:=gA;have h0:0 < i.size:=by omega
 have s':∀r w',(Builtin.append_ #[st,HW] o.type #[a.eval x,a.eval y]).run P w= .ok r w'->(execOp a.eval o).run P w= .ok (.value r) w':=by
  intro r w' ar;simp[execOp,c7,Go.resolve,invoke,builtin,ar]
 have YV:∀b,w.heap.size<=b->∀j,¬S b j:=λb ai j c8=>by have:=R.hJ.st _ _ c8;omega
 split at he
 ·
  simp only[hz,hy]at he;obtain⟨rfl,rfl,rfl⟩:=he;obtain⟨xJ,vt,VX,OP,K5⟩:=a7;obtain⟨base,Jo⟩:=(f5 R aa iJ xJ).1.xn;have JO:=aiz (P:=P) R b8 JP vt h0 Xz VX;by_cases hv:ys.1=[]
  . obtain⟨Jz,sJ,OR,MJ,N1,acZ⟩:=JO;rw[hv]at Jz OR MJ;have agd:sJ=[]:=Sv (by simpa using MJ);subst agd;have ar:=adI (tt:=o.type) n2 G2 al (base:=base) (sl:=0) (sc:=0) Jz OR (by simp) (w':=w) (λhY _=>by simp[storeCells]) (λ_=>rfl);rw[<-Jo]at ar
    have R':=R.PR hk (x:= .arr i.size ys.1) (0,0) rfl (by rw[hv];simp only[pr,ii];exact⟨by simp,by simp,by simp,h0,by simp⟩) (by simp);refine⟨_,_,S,w,.inl (s' _ _ ar),.c ?_,by simp[V.cx,C.cx,ins],R'⟩;rw[hv];exact⟨base,by simp[ii],by simp[ii],by simp[ii]⟩
  . have jJ:=R.drew;obtain⟨Jz,_⟩:=JO;obtain⟨_,sJ,OR,MJ,N1,acZ⟩:=aiz (P:=P) jJ b8 JP vt h0 Xz VX;have UH:0 < ys.1.length:=ao'.2 hv;have acY:(Builtin.firstCells i.size 0 (.slice base 0 0)).run P w.drew= .ok ([]:List Value).toArray w.drew:=by
     cases base with
     | none=>simp[Builtin.firstCells]
     | some a=>simp[Builtin.firstCells,loadCells,loadCellsFrom]
    obtain⟨K9,r,h1,ah,ar⟩:=aqF (tt:=o.type) n2 G2 al Q5 YZ Jz acY OR (by omega) (by simpa using OP) (by simpa using K5);rw[<-Jo]at ar;have u4:=jJ.alloc (.cells ([]++sJ++r).toArray e);have m:=jJ.agn (.cells ([]++sJ++r).toArray e)
    have VB:=u4.PR hk (x:= .arr i.size ys.1) (w.heap.size,K9) rfl (by
     simp only[pr,ii];refine⟨by omega,K5,VX,h0,λ_=>⟨_,e,W1,?_,?_,YV _ (JA _)⟩⟩
     . simp only[MM,Y',MJ,ah,Jq,<-Lc];congr 1;omega
     . have:=OF.append (S:=S) (w:=w.drew) (r:=r) (es:=[]) (xs:=[]) h0 (by simp) VX (by simp) MJ (by intro i j e t he;simp at he) N1;intro qi j qa t he ht;obtain⟨v,cJ,ar⟩:=this qi j qa t (by simpa using he) ht
       exact⟨v,cJ,ik.mono m ar⟩) (λ_=>⟨λk y b8 h0=>by
        have:=(R.hJ.blk k y b8).Qo h0
        omega,.inr R.ext.size⟩)
    refine⟨_,_,S,_,.inl (s' _ _ ar),.c ?_,by simp[V.cx,C.cx,ins],VB⟩;exact⟨some ⟨w.heap.size,0,none⟩,by simp[ii],by simp[ii],by simp[ii];omega⟩
 . rename_i b kp off len;split at he
   . rename_i agU es kx;split at he
     . cases he
     . rename_i Oo;simp only[hz,hy]at he;obtain⟨rfl,rfl,rfl⟩:=he;obtain⟨xJ,vt,rfl,rfl,rfl,rfl,VX,OP,K5⟩:=a7;have Jm:=f5 R aa iJ xJ;have aJG:=Jm.1.xn;obtain⟨base,Jo,anV,hle⟩:=gb.MB aJG;have JO:=aiz (P:=P) R b8 JP vt h0 Xz VX;have Oi:=R.hJ.blk _ _ kx;have aJF:=Oi;obtain⟨g1,g2,g3,g4,g5⟩:=aJF
       rw[Nat.sub_zero]at Jo;rw[Jq]at hle;have axK:∀qa,qa∈es++ys.1->qa.length=i.size:=aE0 g3 VX;by_cases Lp:es.length+ys.1.length<=(φ b).2
       . obtain⟨Jz,sJ,OR,MJ,N1,acZ⟩:=JO;by_cases nk:(φ b).2=0
         . have On:es=[]:=Sv (by omega);have Sr:ys.1=[]:=Sv (by omega);rw[Sr]at Jz OR MJ;have agd:sJ=[]:=Sv (by simpa using MJ);subst agd
           have ar:=adI (tt:=o.type) n2 G2 al (base:=base) (sl:=es.length) (sc:=(φ b).2) Jz OR (by simp[On]) (w':=w) (λhY _=>by simp[storeCells]) (λ_=>rfl);rw[<-Jo]at ar;have R':=(R.del b).PR hk (x:= .arr i.size (es++ys.1)) (0,0) rfl (by rw[Sr,On];simp only[pr,ii];exact⟨by simp,by simp,by simp,h0,by simp⟩) (by simp)
           refine⟨_,_,S,w,.inl (s' _ _ ar),.c ?_,by simp[V.cx,C.cx,ins],R'⟩;rw[Sr,On];exact⟨base,by simp[ii,nk],by simp[ii],by simp[ii]⟩
         . obtain⟨vs,E,ak,M4,Xy,DI⟩:=g5 nk;have YO:es.length*i.size+sJ.length<=vs.length:=by rw[MJ,M4,<-Lc];exact Ji _ Lp
           obtain⟨w',Xx,hg,hl,j2,px,mJ,nJ⟩:=Vh (P:=P) sJ (es.length*i.size) 0 vs w ak (by omega) acZ;rw[TJ]at mJ;have UA:=anV nk;rw[agv]at UA
           have ar:=adI (tt:=o.type) n2 G2 al (base:=base) (sl:=es.length) (sc:=(φ b).2) Jz OR Lp (w':=w') (λhY R1=>by
            rw[UA]at R1;cases R1;have Oj:Addr.add ⟨(φ b).1,0,none⟩ (es.length*i.size)=⟨(φ b).1,es.length*i.size,none⟩:=by unfold Addr.add;split <;> simp_all
            grind) (λai=>by rw[UA]at ai;cases ai)
           rw[<-Jo]at ar
           have jJ:=(R.del b).world (w':=w') (λk=>k=(φ b).1) hg hl j2 (ac6 px.symm) (λk _ hk=>nJ k hk) (λk hk=>by
            subst hk;refine⟨Oi.XF nk,λk y b8 hk=>?_,R.own b _ kx nk⟩;rw[J8]at b8;split at b8
            . cases b8
            . rename_i hv
              exactλe=>R.hJ.inj k b y _ b8 kx (tJ hv) hk nk e)
           have m:Lm w S w' S:=⟨λ_ _ h=>h,λk j h=>Yh (nJ k (λe=>Oi.XF nk j (e▸h))) j⟩
           have u4:=jJ.PR hk (x:= .arr i.size (es++ys.1)) (φ b) rfl (by
            simp only[pr,ii];refine⟨by simp;omega,by simp;omega,axK,h0,λ_=>⟨_,E,mJ,by rw[W4 YO];exact M4,?_,DI⟩⟩;intro qi j qa t he ht;rw[Uc YO];by_cases JG:qi < es.length
            . rw[V2 JG]at he;have dx:=(pJ.1 ht).1;rw[g3 _ (DJ he)]at dx;have:=Ji i.size (show qi+1<=es.length from JG);rw[Lc]at this;rw[b6 (by omega)];obtain⟨v,cJ,ar⟩:=Xy _ _ _ _ he ht;exact⟨v,cJ,ik.mono m ar⟩
            . rw[V1 (by omega)]at he;have dx:=(pJ.1 ht).1;rw[VX _ (DJ he)]at dx;have acK:=(pJ.1 he).1;have bJ:=Ji i.size (show es.length<=qi by omega);have ea:=Ji i.size (show(qi - es.length)+1<=ys.1.length from acK)
              have hi:(qi - es.length)*i.size=qi*i.size - es.length*i.size:=Nat.sub_mul _ _ _;rw[Lc]at ea;rw[b' (by omega),b6 (by omega),show qi*i.size+j - es.length*i.size=(qi - es.length)*i.size+j by omega];obtain⟨v,cJ,ar⟩:=N1 _ _ _ _ he ht
              exact⟨v,cJ,ik.mono m ar⟩) (λ_=>⟨λk y b8 hk=>by
              rw[J8]at b8;split at b8
              . cases b8
              . rename_i hv
                exact R.hJ.inj k b y _ b8 kx (tJ hv) hk nk,R.own b _ kx nk⟩)
           refine⟨_,_,S,w',.inl (s' _ _ ar),.c ?_,by simp[V.cx,C.cx,ins],u4⟩;exact⟨base,by simp[ii],by simp[ii,UA],by simp[ii];omega⟩
       . have jJ:=R.drew;obtain⟨Jz,_⟩:=JO;obtain⟨_,sJ,OR,MJ,N1,acZ⟩:=aiz (P:=P) jJ b8 JP vt h0 Xz VX;obtain⟨_,xs,acY,Pm,Sl,_⟩:=asG (P:=P) (jJ.hJ.blk _ _ kx) (f5 jJ aa iJ xJ).1.xn;rw[Jo]at acY;obtain⟨K9,r,h1,ah,ar⟩:=aqF (tt:=o.type) n2 G2 al Q5 YZ Jz acY OR (by omega) OP K5;rw[<-Jo]at ar
         have u4:=(jJ.del b).alloc (.cells (xs++sJ++r).toArray e);have m:=jJ.agn (.cells (xs++sJ++r).toArray e)
         have VB:=u4.PR hk (x:= .arr i.size (es++ys.1)) (w.heap.size,K9) rfl (by
          simp only[pr,ii];refine⟨by simp;omega,by simp;omega,axK,h0,λ_=>⟨_,e,W1,?_,?_,YV _ (JA _)⟩⟩
          . simp only[MM,Pm,MJ,ah,<-Lc];congr 1;omega
          . have:=OF.append (S:=S) (w:=w.drew) (r:=r) h0 g3 VX Pm MJ Sl N1;intro qi j qa t he ht;obtain⟨v,cJ,ar⟩:=this qi j qa t he ht
            exact⟨v,cJ,ik.mono m ar⟩) (λ_=>⟨λk y b8 h0=>by
             rw[J8]at b8;split at b8
             . cases b8
             . have:=(R.hJ.blk k y b8).Qo h0
               omega,.inr R.ext.size⟩)
         refine⟨_,_,S,_,.inl (s' _ _ ar),.c ?_,by simp[V.cx,C.cx,ins],VB⟩;exact⟨some ⟨w.heap.size,0,none⟩,by simp[ii],by simp[ii],by simp[ii];omega⟩
   . cases he
 . cases he
end
section
variable {P:Program} {cv:Ctx} {nt:Nat} {φ:q4} {S:r3} {env:Env} {J:ep} {n:Nat->Bool} {key:Nat} {a:Act} {w:World}
theorem aDO{R:T->Value->Prop}:∀{ts:List T} {vs:List Value},ez R ts vs->∀(i j:Nat) e t,(ts.map λt=>[t])[i]?=some e->e[j]?=some t->∃v,vs[i*1+j]?=some v/\R t v:=by
 intro ts vs h i j e t he ht;rw[V4,fr]at he;obtain⟨t0,h0,rfl⟩:=he;cases j with
 | zero=>
  simp at ht;subst ht;obtain⟨v,cJ,ar⟩:=h.get h0
  grind
 | succ j=>simp at ht
theorem aDP (R:Rel cv nt φ S env J n a w) {o:Oper} {ty:TypeId} (c7:o.op= .alloc ty) {cs:List C} (gA:Rn P ty=some cs) (aM9:cs.length≠0) (hle:cs.length <=2 ^ 24)
 {p v J'} (hk:n key=false) (h:dy (.allocA cs) env J key=some (p,v,J')) (a7:p):Good P cv nt env J' (ins n key) a v ((execOp a.eval o).run P w):=by
 simp only[dy,fr,hy]at h;obtain⟨ts,JR,rfl,rfl,rfl⟩:=h;obtain⟨i,z,al,gA,ny,ai⟩:=abA (φ:=φ) (w:=w) (S:=S) (n:=n) gA;have N1:=Zv JR ny;have aK4:=aet JR;have jJ:=R.alloc (.cells z.cells.toList.toArray ty);have m:=R.agn (.cells z.cells.toList.toArray ty);have aju:z.cells.toList.length=cs.length:=ny.length.symm
 have u4:=jJ.PR hk (x:= .arr 1 (ts.map λt=>[t])) (w.heap.size,cs.length) rfl (by
  simp only[pr,ii,JU];refine⟨by omega,by unfold Jf;omega,?_,by omega,λ_=>⟨z.cells.toList,ty,W1,by omega,λi j e t he ht=>?_,λj h=>?_⟩⟩
  . grind
  . obtain⟨v,cJ,ar⟩:=aDO N1 i j e t he ht;exact⟨v,cJ,ik.mono m ar⟩
  . have:=R.hJ.st _ _ h
    omega) (λ_=>⟨λk y b8 h0=>by
     have:=(R.hJ.blk k y b8).Qo h0
     simp;omega,.inr R.ext.size⟩)
 refine⟨.pointer (some ⟨w.heap.size,0,none⟩),_,S,_,.inl ?_,.c ?_,by simp[V.cx,C.cx,ins],u4⟩
 . simp[execOp,c7,Instr.alloc,zeroValue,typeInfo,al,gA,newVar,newRow]
 . simp[gb,ii]
theorem aEe (R:Rel cv nt φ S env J n a w) {o:Oper} {ty:TypeId} {x i:Operand} (c7:o.op= .indexAddr ty x i) {k:Nat} {e:TypeId} (pq:P.underlying ty=some (.array k e)) (hI:C4 P e=some 1)
 {hc RP:dJ} (aa:hC x=some hc) (al:hC i=some RP)
 {p v J'} (hk:n key=false) (h:dy (.idxP k hc RP) env J key=some (p,v,J')) (a7:p):Good P cv nt env J' (ins n key) a v ((execOp a.eval o).run P w):=by
 simp only[dy,ha]at h;obtain⟨⟨EJ,Hr⟩,iJ,⟨pi,ayZ⟩,TB,he⟩:=h;simp only at he;split at he
 . rename_i b kk m;simp only[hz,hy]at he;obtain⟨rfl,rfl,rfl⟩:=he;obtain⟨xJ,vt,Q3,Xt⟩:=a7;have a8:=f5 R aa iJ xJ;have h1:=a8.1.M8;have ah:=(f5 R al TB vt).1.K7;have Oj:(Addr.add ⟨(φ b).1,0,none⟩ (m.toNat*1):Addr)=⟨(φ b).1,m.toNat*1+0,none⟩:=by
    unfold Addr.add;split
    . grind
    . simp
   refine Good.pure R (x:= .pointer (some ⟨(φ b).1,m.toNat*1+0,none⟩)) ?_ (.c ?_) (by simpa[V.cx,C.cx]using a8.2)
   . have Om:0<=m/\m < (k:Int):=⟨Q3,by omega⟩
     simp only[execOp,c7,h1,ah,Instr.indexAt,asIntOf,Instr.sureAddr,Sem.run_bind,run_underlying pq,Result.andThen_ok,Sem.run_pure,b6 Om,PZ hI,Oj]
   . simp[gb]
 . cases he
theorem aEf (R:Rel cv nt φ S env J n a w) {o:Oper} {ty:TypeId} {x:Operand} {aoV:IntKind} {m:Int} (c7:o.op= .indexAddr ty x (.const (.int aoV m))) {k:Nat} {e:TypeId} (pq:P.underlying ty=some (.array k e))
 (h0:0<=m/\m.toNat < k) {s:Nat} (hs:C4 P e=some s) {hc:dJ} (aa:hC x=some hc)
 {p v J'} (hk:n key=false) (h:dy (.fldA (m.toNat*s) hc) env J key=some (p,v,J')) (a7:p):Good P cv nt env J' (ins n key) a v ((execOp a.eval o).run P w):=by
 simp only[dy,ha]at h;obtain⟨⟨EJ,Hr⟩,iJ,he⟩:=h;simp only at he;have ah:a.eval (.const (.int aoV m))= .int aoV m:=rfl;have Om:0<=m/\m < (k:Int):=⟨h0.1,by omega⟩
 have s':∀(b off:Nat),a.eval x= .pointer (some ⟨b,off,none⟩)->(execOp a.eval o).run P w= .ok (.value (.pointer (some ⟨b,off+m.toNat*s,none⟩))) w:=by
  intro b off e;have Oj:(Addr.add ⟨b,off,none⟩ (m.toNat*s):Addr)=⟨b,off+m.toNat*s,none⟩:=by
   unfold Addr.add;split
   . rename_i q;rw[q];rfl
   . rfl
  simp only[execOp,c7,e,ah,Instr.indexAt,asIntOf,Instr.sureAddr,Sem.run_bind,run_underlying pq,Result.andThen_ok,Sem.run_pure,b6 Om,PZ hs,Oj]
 split at he <;> simp only[hz,hy,reduceCtorEq]at he
 all_goals
  obtain⟨rfl,rfl,rfl⟩:=he;have a8:=f5 R aa iJ a7;have h1:=a8.1.xn
 . simp only[gb]at h1;exact Good.pure R (s' _ _ h1) (.c rfl) a8.2
 . simp only[gb]at h1;exact Good.pure R (s' _ _ h1) (.c (by simp[gb,XJ])) a8.2
 . obtain⟨blk,off,f,h1,ak⟩:=h1;exact Good.pure R (s' _ _ h1) (.c ⟨blk,off,f,by simp[XJ],ak⟩) a8.2
theorem aEg (R:Rel cv nt φ S env J n a w) {o:Oper} {ty:TypeId} {x:Operand} {f' al:Option Operand} (c7:o.op= .slice ty x f' al none) {k:Nat} {e:TypeId} (pq:P.underlying ty=some (.array k e)) (hI:C4 P e=some 1)
 {hc:dJ} {OI Ug:Option dJ} (aa:hC x=some hc) (L6:Qk f'=some OI) (YS:Qk al=some Ug)
 {p v J'} (hk:n key=false) (h:dy (.slcP k hc OI Ug) env J key=some (p,v,J')) (a7:p):Good P cv nt env J' (ins n key) a v ((execOp a.eval o).run P w):=by
 simp only[dy,ha]at h;obtain⟨⟨EJ,Hr⟩,iJ,⟨pl,l⟩,YQ,⟨ayg,h⟩,acJ,he⟩:=h;simp only at he;split at he
 . rename_i b;simp only[hz,hy]at he;obtain⟨rfl,rfl,rfl⟩:=he;obtain⟨xJ,vt,Xv,h0,h1,ah⟩:=a7;have a8:=f5 R aa iJ xJ;have Pl:=a8.1.M8;have aJ:=Ym R L6 YQ vt;have ak:=Ym R YS acJ Xv;have ai:=ahn (P:=P) (w:=w) (isSlice:=false) (cap:=k) aJ ak h0 h1 ah (JA _);generalize s4:(l.getD 0).toNat=L at*
   generalize hH:(h.getD (k:Int)).toNat=H at*;have aJD:L<=H:=by omega
   have aM2:H<=k:=by omega
   have Oj:(Addr.add ⟨(φ b).1,0,none⟩ (L*1):Addr)=⟨(φ b).1,L*1,none⟩:=by
    unfold Addr.add;split
    . grind
    . simp
   refine Good.pure R (x:= .slice (some (if k=L then⟨(φ b).1,0,none⟩else(Addr.add ⟨(φ b).1,0,none⟩ (L*1)))) (H - L) (k - L)) ?_ (.c ⟨_,_,rfl,?_,by omega⟩) (by simpa[V.cx,C.cx]using a8.2)
   . simp[execOp,c7,Instr.sliceAt,Instr.sureAddr,underlying,pq,Pl,ai,PZ hI]
   . intro hv;rw[b' (by omega),Oj]
 . cases he
theorem aEh{es:List (List T)}{s:List UInt8}(ai:bytesOf es=some s):∀{xs:List Value},(∀(i:Nat) t,es[i]?=some [t] -> ∃v,xs[i]?=some v /\ ik w S t v) -> xs.length=es.length ->
 ∃s0:List Int,xs=s0.map (Value.int .u8)/\s=s0.map λm=>UInt8.ofNat m.toNat:=by
 induction es generalizing s with
 | nil=>intro xs _ aJ;simp[bytesOf]at ai;subst ai;exact⟨[],by simpa using aJ,rfl⟩
 | cons e es ih=>
  intro xs ar aJ;unfold bytesOf at ai;split at ai
  . rename_i heq;cases heq
  . rename_i m r heq;cases heq;simp only[fr]at ai;obtain⟨XO,Sj,rfl⟩:=ai;cases xs with
    | nil=>simp at aJ
    | cons x xs=>
     obtain⟨v,cJ,VV⟩:=ar 0 _ rfl;simp at cJ;subst cJ;cases VV;obtain⟨s0,rfl,rfl⟩:=ih Sj (xs:=xs) (λi t al=>by simpa using ar (i+1) t (by simpa using al)) (by simpa using aJ);exact⟨m::s0,rfl,rfl⟩
  . cases ai
theorem aEi(s0:List Int):∀(s:ByteArray),(s0.foldl (λr m=>r.push (UInt8.ofNat m.toNat)) s).data.toList=s.data.toList++s0.map λm=>UInt8.ofNat m.toNat:=by
 induction s0 with
 | nil=>intro s;simp
 | cons m s0 ih=>intro s;rw[List.foldl_cons,ih];simp[ByteArray.push]
theorem asg{es:List (List T)}{s:List UInt8}(ai:bytesOf es=some s):∀(i:Nat) e,es[i]?=some e->∃t,e=[t]:=by
 induction es generalizing s with
 | nil=>intro i e h;simp at h
 | cons vK es ih=>
  unfold bytesOf at ai;split at ai
  . grind
  . rename_i m r heq;cases heq;simp only[fr]at ai
    grind
  . cases ai
theorem aiA {Zj YF e:TypeId} (hs:P.underlying Zj=some (.slice e)) (he:P.underlying e=some (.int .u8)) (a6:P.underlying YF=some .string) {es:List (List T)} {str:List UInt8} {hY:Option Addr} {len cap b off:Nat}
 (aJ:es.length=len) (ai:bytesOf es=some str) (R1:len≠0->hY=some ⟨b,off,none⟩) (ay:∀(i:Nat) t,es[i]?=some [t]->∃v,w.cell? ⟨b,off+i,none⟩=some v/\ik w S t v):
 ∃bs:ByteArray,(convert Zj YF (.slice hY len cap)).run P w= .ok (.string bs) w/\bs.data.toList=str:=by
 rw[run_convert_bytes_string w Zj YF e hY len cap hs he a6];by_cases h0:len=0
 . have C':es=[]:=Sv (by omega);subst C';simp[bytesOf]at ai;subst ai;subst h0;cases hY with
   | none=>exact⟨.empty,by simp[Conv.bytesToString],rfl⟩
   | some a0=>
    have:=run_bytesToString (P:=P) w a0 0 cap [] (by simp[loadCells,loadCellsFrom]);exact⟨_,this,rfl⟩
 . rw[R1 h0];have aa:∀i,i < len->∃t v,es[i]?=some [t]/\w.cell? ⟨b,off+i,none⟩=some v/\ik w S t v:=by
    intro i al;have h1:=CJ (l:=es) (i:=i) (by omega);obtain⟨t,ht⟩:=asg ai i _ h1
    grind
   have a8:∀i,i < len->((List.range len).map λi=>(w.cell? ⟨b,off+i,none⟩).getD undef)[i]?=w.cell? ⟨b,off+i,none⟩:=by grind
   obtain⟨s0,h1,ah⟩:=aEh (w:=w) (S:=S) ai (xs:=(List.range len).map λi=>(w.cell? ⟨b,off+i,none⟩).getD undef) (λi t al=>by grind) (by simp[aJ]);have bJ:=aea (P:=P) (w:=w) (b:=b) (o:=off) (m:=len) (xs:=(List.range len).map λi=>(w.cell? ⟨b,off+i,none⟩).getD undef) (by simp) (λj dx=>(a8 j dx).symm);rw[h1]at bJ
   have ea:=run_bytesToString (P:=P) w ⟨b,off,none⟩ len cap s0 bJ;exact⟨_,ea,by rw[aEi,ah];rfl⟩
theorem alq :∀{es:List (List T)} {s:List UInt8},bytesOf es=some s->s.length=es.length
 | [],s,h=>by simp[bytesOf]at h;subst h;rfl
 | e::es,s,h=>by
  unfold bytesOf at h;split at h
  . grind
  . rename_i m r heq;cases heq;simp only[fr]at h;obtain⟨XO,Sj,rfl⟩:=h;simp[alq Sj]
  . cases h
theorem aFb (R:Rel cv nt φ S env J n a w) {o:Oper} {Zj YF e:TypeId} {x:Operand} (c7:o.op= .convert Zj YF x) (hs:P.underlying Zj=some (.slice e)) (he:P.underlying e=some (.int .u8)) (a6:P.underlying YF=some .string) {hc:dJ} (aa:hC x=some hc)
 {p v J'} (hk:n key=false) (h:dy (.b2s hc) env J key=some (p,v,J')) (a7:p):Good P cv nt env J' (ins n key) a v ((execOp a.eval o).run P w):=by
 simp only[dy,ha,fr,hy]at h;obtain⟨⟨EJ,Hr⟩,iJ,⟨q,str⟩,ee,rfl,rfl,rfl⟩:=h;obtain⟨xJ,vt⟩:=a7;have a8:=f5 R aa iJ xJ
 suffices ak:∃hY len cap,a.eval x= .slice hY len cap/\str.length<=Jf/\∃bs:ByteArray,(convert Zj YF (.slice hY len cap)).run P w= .ok (.string bs) w/\bs.data.toList=str by
  obtain⟨hY,len,cap,h1,ah,bs,bJ,ea⟩:=ak;have NU:bs.size<=SY:=by rw[<-Yo,ea];unfold Jf at ah;unfold SY;omega
  refine Good.pure R (x:= .string bs) ?_ (.c ?_) rfl
  . simp[execOp,c7,h1,bJ]
  . show ik w S _ _;rw[<-ea];exact .str bs NU
 have ajv : ∀ (b off len : Nat) (es : List (List T)) (hY : Option Addr) (cap : Nat), ec J b = some (.arr 1 es) -> off + len <= es.length -> bytesOf ((es.drop off).take len) = some str -> (len ≠ 0 -> hY = some ⟨(φ b).1, off * 1, none⟩) -> ((φ b).2 ≠ 0 \/ len = 0) -> a.eval x = .slice hY len cap ->
  ∃hY len cap,a.eval x= .slice hY len cap/\str.length<=Jf/\∃bs:ByteArray,(convert Zj YF (.slice hY len cap)).run P w= .ok (.string bs) w/\bs.data.toList=str:=by
  intro b off len es hY cap ai hle R2 R1 h0 cJ;obtain⟨h1,ah,bJ,ea,hi⟩:=R.hJ.blk b _ ai;have aJ:((es.drop off).take len).length=len:=by simp;omega
  refine⟨hY,len,cap,cJ,by rw[alq R2,aJ];omega,?_⟩;refine aiA (S:=S) hs he a6 aJ R2 R1 ?_;intro i t al;rw[SD]at al;split at al
  . rename_i acL;rw[Y8]at al;rcases h0 with h0 | h0
    . obtain⟨vs,E,ak,M4,ar,_⟩:=hi h0;obtain⟨v,VW,af6⟩:=ar _ 0 _ t al rfl;refine⟨v,?_,af6⟩;rw[OZ ak]
      simpa using VW
    . omega
  . cases al
 dsimp only at ee iJ a8;unfold VG at ee;split at ee
 . rename_i es;simp only[fr,hy]at ee;obtain⟨s,R2,rfl,rfl⟩:=ee;obtain⟨hY,cap,sz,b,off,f,h1,OP,K5,ajs,ch,ay,cJ⟩:=ik.Qq a8.1.xn;refine⟨hY,es.length,cap,h1,by rw[alq R2];exact K5,?_⟩;by_cases hv:es=[]
   . subst hv;exact aiA (S:=S) (b:=0) (off:=0) hs he a6 rfl R2 (by simp) (by simp)
   . have aK1:sz=1:=by
      obtain⟨vK,On⟩:=ajQ es hv;obtain⟨i,al⟩:=ao7.1 On;obtain⟨t,rfl⟩:=asg R2 i _ al
      grind
     subst aK1;refine aiA (S:=S) (b:=b) (off:=off) hs he a6 rfl R2 (λ_=>ch hv) ?_;intro i t al;have ey:=(pJ.1 al).1;have ah:=ay i 0 ey (by omega);exact⟨f i 0,by simpa using ah.2,cJ i 0 _ t al rfl⟩
 . cases ee;obtain⟨hY,h1⟩:=a8.1.xn;exact⟨hY,0,0,h1,by simp,aiA (S:=S) (es:=[]) (b:=0) (off:=0) hs he a6 rfl rfl (by simp) (by simp)⟩
 . rename_i b off len;split at ee
   . rename_i es C';simp only[fr,hy]at ee;obtain⟨s,R2,rfl,rfl⟩:=ee;obtain⟨hY,h1,ch,hle⟩:=gb.MB a8.1.xn;by_cases h0:(φ b).2=0
     . exact ajv b off len es hY _ C' vt R2 (λh=>by omega) (.inr (by omega)) h1
     . exact ajv b off len es hY _ C' vt R2 (λ_=>ch h0) (.inl h0) h1
   . cases ee
 . rename_i b off len;split at ee
   . rename_i es C';simp only[fr,hy]at ee;obtain⟨s,R2,rfl,rfl⟩:=ee;obtain⟨hY,cap,h1,ch,hle⟩:=a8.1.xn;obtain⟨ah,_⟩:=R.hJ.blk b _ C';by_cases h0:len=0
     . exact ajv b off len es hY _ C' vt R2 ch (.inr h0) h1
     . exact ajv b off len es hY _ C' vt R2 ch (.inl (by omega)) h1
   . cases ee
 . cases ee
end
end
end Go.Proofs.YtijpinendaoleaaGreat.Shv
