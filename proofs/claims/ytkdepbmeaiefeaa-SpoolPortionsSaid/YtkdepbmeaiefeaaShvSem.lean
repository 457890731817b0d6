/- The abstract machine, part 3: what an operation does to the abstract state; the relation with a frame and a world of the model. -/
import Derived.Test.YtkdepbmeaiefeaaShvOps
namespace Go.Proofs.Ytkdepbmeaiefeaa.Shv
set_option linter.all false
open Go

abbrev Env := List (Nat × Bool × V)
abbrev Store := List (Nat × Blk)

def look : Env → Nat → Option (Bool × V)
  | [], _ => none
  | (k, x) :: r, i => if k = i then some x else look r i

def sget : Store → Nat → Option Blk
  | [], _ => none
  | (k, x) :: r, i => if k = i then some x else sget r i

def sput : Store → Nat → Blk → Store
  | [], b, x => [(b, x)]
  | (k, y) :: r, b, x => if k = b then (k, x) :: r else (k, y) :: sput r b x

def sdel : Store → Nat → Store
  | [], _ => []
  | (k, y) :: r, b => if k = b then sdel r b else (k, y) :: sdel r b

theorem sget_sput (σ : Store) (b : Nat) (x : Blk) (i : Nat) : sget (sput σ b x) i = if b = i then some x else sget σ i := by
  induction σ with
  | nil => simp [sput, sget]
  | cons y r ih =>
    obtain ⟨k, y⟩ := y
    by_cases hk : k = b
    · subst hk; simp only [sput, if_true, sget]; split <;> rfl
    · simp only [sput, if_neg hk, sget, ih]
      by_cases hi : k = i
      · subst hi; simp; intro h; exact absurd h.symm hk
      · simp [hi]

theorem sget_sdel (σ : Store) (b : Nat) (i : Nat) : sget (sdel σ b) i = if b = i then none else sget σ i := by
  induction σ with
  | nil => simp [sdel, sget]
  | cons y r ih =>
    obtain ⟨k, y⟩ := y
    by_cases hk : k = b
    · subst hk; simp only [sdel, if_true, sget, ih]; by_cases hi : k = i <;> simp [hi]
    · simp only [sdel, if_neg hk, sget, ih]
      by_cases hi : k = i
      · subst hi; simp; intro h; exact absurd h.symm hk
      · simp [hi]

def AO.get (env : Env) : AO → Option (Prop × V)
  | .const v => some (True, v)
  | .tmp t => (look env t).map fun x => (x.1 = true, x.2)

def gets (env : Env) : List AO → Option (Prop × List V)
  | [] => some (True, [])
  | x :: xs => (x.get env).bind fun a => (gets env xs).map fun b => (a.1 ∧ b.1, a.2 :: b.2)

def getO (env : Env) : Option AO → Option (Prop × Option Int)
  | none => some (True, none)
  | some x => (x.get env).bind fun a => match a.2 with
    | .c (.t (.int _ n)) => some (a.1, some n)
    | _ => none

def vcells : V → Option (List C)
  | .c x => some [x]
  | .agg cs => some cs
  | .tup _ => none

def toT : C → Option T
  | .t x => some x
  | .cap0 => some (.slice [])
  | _ => none

def toTs : List C → Option (List T)
  | [] => some []
  | c :: cs => (toT c).bind fun t => (toTs cs).map (t :: ·)

def el (es : List (List T)) (i : Nat) : List T := es.getD i []

def fillC (cells : List C) (off : Nat) (cs : List C) : List C := cells.take off ++ cs ++ cells.drop (off + cs.length)

def buildC (env : Env) : List C → List (Nat × Nat × AO) → Option (Prop × List C)
  | cells, [] => some (True, cells)
  | cells, (off, n, x) :: r => (x.get env).bind fun a => (vcells a.2).bind fun cs =>
      if cs.length = n ∧ off + n ≤ cells.length then (buildC env (fillC cells off cs) r).map fun b => (a.1 ∧ b.1, b.2) else none

def buildS (env : Env) (sz : Nat) : List (List T) → List (Nat × AO) → Option (Prop × List (List T))
  | es, [] => some (True, es)
  | es, (i, x) :: r => (x.get env).bind fun a => (vcells a.2).bind fun cs => (toTs cs).bind fun ts =>
      if ts.length = sz ∧ i < es.length then (buildS env sz (es.set i ts) r).map fun b => (a.1 ∧ b.1, b.2) else none

def binT : BinOp → T → T → Option (Prop × T)
  | .add, .int k a, .int k' b => if k = k' then some (True, .int k (k.wrap (a + b))) else none
  | .sub, .int k a, .int k' b => if k = k' then some (True, .int k (k.wrap (a - b))) else none
  | .mul, .int k a, .int k' b => if k = k' then some (True, .int k (k.wrap (a * b))) else none
  | .quo, .int k a, .int k' b => if k = k' then some (b ≠ 0, .int k (k.wrap (a.tdiv b))) else none
  | .rem, .int k a, .int k' b => if k = k' then some (b ≠ 0, .int k (a.tmod b)) else none
  | .and, .int k a, .int k' b => if k = k' then some (True, .int k (k.wrap (BitVec.ofInt k.bits a &&& BitVec.ofInt k.bits b).toNat)) else none
  | .or, .int k a, .int k' b => if k = k' then some (True, .int k (k.wrap (BitVec.ofInt k.bits a ||| BitVec.ofInt k.bits b).toNat)) else none
  | .xor, .int k a, .int k' b => if k = k' then some (True, .int k (k.wrap (BitVec.ofInt k.bits a ^^^ BitVec.ofInt k.bits b).toNat)) else none
  | .andNot, .int k a, .int k' b => if k = k' then some (True, .int k (k.wrap (BitVec.ofInt k.bits a &&& ~~~ BitVec.ofInt k.bits b).toNat)) else none
  | .shl, .int k a, .int _ b => some (0 ≤ b, .int k (k.wrap (a * 2 ^ min b.toNat k.bits)))
  | .shr, .int k a, .int _ b => some (0 ≤ b, .int k (a.fdiv (2 ^ min b.toNat k.bits)))
  | .eql, .int k a, .int k' b => if k = k' then some (True, .bool (decide (a = b))) else none
  | .neq, .int k a, .int k' b => if k = k' then some (True, .bool (!decide (a = b))) else none
  | .lss, .int k a, .int k' b => if k = k' then some (True, .bool (decide (a < b))) else none
  | .leq, .int k a, .int k' b => if k = k' then some (True, .bool (decide (a ≤ b))) else none
  | .gtr, .int k a, .int k' b => if k = k' then some (True, .bool (decide (b < a))) else none
  | .geq, .int k a, .int k' b => if k = k' then some (True, .bool (decide (b ≤ a))) else none
  | .add, .str a, .str b => some (a.length + b.length ≤ strMax, .str (a ++ b))
  | .eql, .str a, .str b => some (True, .bool (decide (a = b)))
  | .neq, .str a, .str b => some (True, .bool (!decide (a = b)))
  | .lss, .str a, .str b => some (True, .bool (Op.bytesLess a b))
  | .leq, .str a, .str b => some (True, .bool (Op.bytesLess a b || decide (a = b)))
  | .gtr, .str a, .str b => some (True, .bool (!(Op.bytesLess a b || decide (a = b))))
  | .geq, .str a, .str b => some (True, .bool (!(Op.bytesLess a b)))
  | _, _, _ => none

def eqT : Nat → T → T → Option Bool
  | 0, .bool a, .bool b => some (a == b)
  | 1, .int k a, .int k' b => if k = k' then some (decide (a = b)) else none
  | 2, .str a, .str b => some (decide (a = b))
  | _, _, _ => none

def eqCs : List Nat → List C → List C → Option Bool
  | [], [], [] => some true
  | k :: ks, .t x :: xs, .t y :: ys => (eqT k x y).bind fun b => (eqCs ks xs ys).map fun r => b && r
  | _, _, _ => none

abbrev ARes := Option (Prop × V × Store)

def loadT (agg : Bool) (n : Nat) (ts : List T) (o : Nat) : Option V :=
  if agg then (if o + n ≤ ts.length then some (.agg (((ts.drop o).take n).map .t)) else none) else (ts[o]?).map fun t => .c (.t t)

def loadC (agg : Bool) (n : Nat) (cs : List C) (o : Nat) : Option V :=
  if agg then (if o + n ≤ cs.length then some (.agg ((cs.drop o).take n)) else none) else (cs[o]?).map .c

def capBytes : Nat := 281474976710656

/-- the elements of a slice, and the block that owns them -/
def ysOf (σ : Store) : V → Option (List (List T) × Option Nat)
  | .c (.t (.slice ys)) => some (ys, none)
  | .c .cap0 => some ([], none)
  | .c (.arr b sz' off len) => match sget σ b with
    | some (.arr sz'' ys) => if sz' = sz'' ∧ off = 0 ∧ len = ys.length then some (ys, some b) else none
    | _ => none
  | _ => none

/-- an operation that calls nothing -/
def aval (o : AOp) (env : Env) (σ : Store) (n : Nat) : ARes :=
  match o with
  | .mov x => (x.get env).map fun a => (a.1, a.2, σ)
  | .pick c x y => (c.get env).bind fun c => (x.get env).bind fun x => (y.get env).bind fun y =>
      match c.2, x.2, y.2 with
      | .c (.t (.bool b)), .c (.t (.bool p)), .c (.t (.bool q)) =>
        some (c.1 ∧ (b = true → x.1) ∧ (b = false → y.1), .c (.t (.bool (bif b then p else q))), σ)
      | _, _, _ => none
  | .alloc cs => some (True, .c (.ptr n 0), sput σ n (.box cs))
  | .box x => (x.get env).bind fun a => (vcells a.2).map fun cs => (a.1, .c (.ptr n 0), sput σ n (.box cs))
  | .build z parts => (buildC env z parts).map fun a => (a.1, .agg a.2, σ)
  | .bslice sz len z parts => (toTs z).bind fun zt => (buildS env sz (List.replicate len zt) parts).map fun a =>
      (a.1, .c (.arr n sz 0 len), sput σ n (.arr sz a.2))
  | .load agg k x => (x.get env).bind fun a => match a.2 with
      | .c (.ptr b o) => match sget σ b with
        | some (.box cs) => (loadC agg k cs o).map fun v => (a.1, v, σ)
        | _ => none
      | .c (.eptr b sz i o) => match sget σ b with
        | some (.arr sz' es) => (loadT agg k (el es i) o).map fun v => (a.1 ∧ sz = sz' ∧ i < es.length, v, σ)
        | _ => none
      | .c (.iptr ts o) => (loadT agg k ts o).map fun v => (a.1, v, σ)
      | _ => none
  | .store k x v => (x.get env).bind fun a => (v.get env).bind fun d => (vcells d.2).bind fun cs =>
      if cs.length = k then
        match a.2 with
        | .c (.ptr b o) => match sget σ b with
          | some (.box ds) => if o + k ≤ ds.length then some (a.1 ∧ d.1, .tup [], sput σ b (.box (fillC ds o cs))) else none
          | _ => none
        | .c (.eptr b sz i o) => match sget σ b with
          | some (.arr sz' es) => (toTs cs).bind fun ts =>
              some (a.1 ∧ d.1 ∧ sz = sz' ∧ i < es.length ∧ o + k ≤ sz, .tup [],
                sput σ b (.arr sz' (es.set i ((el es i).take o ++ ts ++ (el es i).drop (o + k)))))
          | _ => none
        | _ => none
      else none
  | .nilCheck x => (x.get env).bind fun a => match a.2 with
      | .c (.ptr ..) | .c (.eptr ..) | .c (.iptr ..) => some (a.1, a.2, σ)
      | _ => none
  | .bin op x y => (x.get env).bind fun a => (y.get env).bind fun b => match a.2, b.2 with
      | .c (.t p), .c (.t q) => (binT op p q).map fun r => (a.1 ∧ b.1 ∧ r.1, .c (.t r.2), σ)
      | _, _ => none
  | .eqAgg neg ks x y => (x.get env).bind fun a => (y.get env).bind fun b => match a.2, b.2 with
      | .agg p, .agg q => (eqCs ks p q).map fun r => (a.1 ∧ b.1, .c (.t (.bool (if neg then !r else r))), σ)
      | _, _ => none
  | .eqBool neg x y => (x.get env).bind fun a => (y.get env).bind fun b => match a.2, b.2 with
      | .c (.t (.bool p)), .c (.t (.bool q)) => some (a.1 ∧ b.1, .c (.t (.bool (if neg then !(p == q) else (p == q)))), σ)
      | _, _ => none
  | .not x => (x.get env).bind fun a => match a.2 with
      | .c (.t (.bool b)) => some (a.1, .c (.t (.bool (!b))), σ)
      | _ => none
  | .conv k x => (x.get env).bind fun a => match a.2 with
      | .c (.t (.int _ m)) => some (a.1, .c (.t (.int k (k.wrap m))), σ)
      | _ => none
  | .i2s x => (x.get env).bind fun a => match a.2 with
      | .c (.t (.int _ m)) => some (a.1, .c (.t (.str (Utf8.encode m).data.toList)), σ)
      | _ => none
  | .s2s x => (x.get env).bind fun a => match a.2 with
      | .c (.t (.str s)) => some (a.1, .c (.t (.str s)), σ)
      | _ => none
  | .fldA off x => (x.get env).bind fun a => match a.2 with
      | .c (.ptr b o) => some (a.1, .c (.ptr b (o + off)), σ)
      | .c (.eptr b sz i o) => some (a.1, .c (.eptr b sz i (o + off)), σ)
      | .c (.iptr ts o) => some (a.1, .c (.iptr ts (o + off)), σ)
      | _ => none
  | .fld agg off k x => (x.get env).bind fun a => match a.2 with
      | .agg cs => (loadC agg k cs off).map fun v => (a.1, v, σ)
      | _ => none
  | .idxA sz x i => (x.get env).bind fun a => (i.get env).bind fun j => match a.2, j.2 with
      | .c (.t (.slice es)), .c (.t (.int _ m)) => some (a.1 ∧ j.1 ∧ 0 ≤ m ∧ m.toNat < es.length ∧ (el es m.toNat).length = sz, .c (.iptr (el es m.toNat) 0), σ)
      | .c (.arr b sz' off len), .c (.t (.int _ m)) => some (a.1 ∧ j.1 ∧ 0 ≤ m ∧ m.toNat < len ∧ sz = sz', .c (.eptr b sz (off + m.toNat) 0), σ)
      | _, _ => none
  | .idxS x i => (x.get env).bind fun a => (i.get env).bind fun j => match a.2, j.2 with
      | .c (.t (.str s)), .c (.t (.int _ m)) => some (a.1 ∧ j.1 ∧ 0 ≤ m ∧ m.toNat < s.length, .c (.t (.int .u8 (s.getD m.toNat 0).toNat)), σ)
      | _, _ => none
  | .slcS x lo hi => (x.get env).bind fun a => (getO env lo).bind fun l => (getO env hi).bind fun h => match a.2 with
      | .c (.t (.str s)) =>
        let b := h.2.getD s.length
        let c := l.2.getD 0
        some (a.1 ∧ l.1 ∧ h.1 ∧ 0 ≤ c ∧ c ≤ b ∧ b ≤ s.length, .c (.t (.str ((s.take b.toNat).drop c.toNat))), σ)
      | _ => none
  | .slc sz x lo hi => (x.get env).bind fun a => (getO env lo).bind fun l => (getO env hi).bind fun h => match a.2 with
      | .c (.t (.slice es)) =>
        let b := h.2.getD es.length
        let c := l.2.getD 0
        some (a.1 ∧ l.1 ∧ h.1 ∧ 0 ≤ c ∧ c ≤ b ∧ b ≤ es.length ∧ (∀ e, e ∈ es → e.length = sz), .c (.t (.slice ((es.take b.toNat).drop c.toNat))), σ)
      | _ => none
  | .slc0 x => (x.get env).bind fun a => match a.2 with
      | .c (.t (.slice _)) | .c .cap0 | .c (.arr ..) => some (a.1, .c .cap0, σ)
      | _ => none
  | .mkfn f caps => (gets env caps).bind fun a => match capsOf a.2 with
      | some l => some (a.1, .c (.fn f l), σ)
      | none => none
  | .ext x i => (x.get env).bind fun a => match a.2 with
      | .tup vs => (vs[i]?).map fun v => (a.1, v, σ)
      | _ => none
  | .len str x => (x.get env).bind fun a => match str, a.2 with
      | false, .c (.t (.slice es)) => some (a.1, .c (.t (.int .i64 es.length)), σ)
      | false, .c (.arr _ _ _ l) => some (a.1, .c (.t (.int .i64 l)), σ)
      | false, .c .cap0 => some (a.1, .c (.t (.int .i64 0)), σ)
      | true, .c (.t (.str s)) => some (a.1, .c (.t (.int .i64 s.length)), σ)
      | _, _ => none
  | .append sz bytes x y => (x.get env).bind fun a => (y.get env).bind fun d =>
      (ysOf σ d.2).bind fun ys =>
      match a.2 with
      | .c .cap0 => some (a.1 ∧ d.1 ∧ (∀ e, e ∈ ys.1 → e.length = sz) ∧ (2 * ys.1.length + 192) * bytes ≤ capBytes ∧ ys.1.length ≤ sliceMax,
          .c (.arr n sz 0 ys.1.length), sput σ n (.arr sz ys.1))
      | .c (.arr b sz' off len) => match sget σ b with
        | some (.arr sz'' es) =>
          if ys.2 = some b then none else
          some (a.1 ∧ d.1 ∧ sz' = sz ∧ sz'' = sz ∧ off = 0 ∧ len = es.length ∧ (∀ e, e ∈ ys.1 → e.length = sz) ∧ (2 * (es.length + ys.1.length) + 192) * bytes ≤ capBytes ∧ es.length + ys.1.length ≤ sliceMax,
            .c (.arr n sz 0 (len + ys.1.length)), sput (sdel σ b) n (.arr sz (es ++ ys.1)))
        | _ => none
      | _ => none
  | .max2 x y => (x.get env).bind fun a => (y.get env).bind fun b => match a.2, b.2 with
      | .c (.t (.int k p)), .c (.t (.int k' q)) => if k = k' then some (a.1 ∧ b.1, .c (.t (.int k (max p q))), σ) else none
      | _, _ => none
  | .min2 x y => (x.get env).bind fun a => (y.get env).bind fun b => match a.2, b.2 with
      | .c (.t (.int k p)), .c (.t (.int k' q)) => if k = k' then some (a.1 ∧ b.1, .c (.t (.int k (min p q))), σ) else none
      | _, _ => none
  | .eqNil .. | .call .. | .callv .. => none
where capsOf : List V → Option (List Nat)
  | [] => some []
  | .c (.ptr b 0) :: r => (capsOf r).map (b :: ·)
  | _ => none

/-- what stands for a block -/
def RB (φ : Phi) (w : World) (S : Stab) (b : Nat) : Blk → Prop
  | .box cs => (φ b).2 ≠ 0 ∧ ∃ (vs : List Value) (E : TypeId), w.heap[(φ b).1]? = some (.cells vs.toArray E (0, 0)) ∧ All2 (RC φ w S) cs vs ∧ ∀ j, ¬ S (φ b).1 j
  | .arr sz es => es.length ≤ (φ b).2 ∧ es.length ≤ sliceMax ∧ (∀ e, e ∈ es → e.length = sz) ∧ 0 < sz ∧
      ((φ b).2 ≠ 0 → ∃ (vs : List Value) (E : TypeId), w.heap[(φ b).1]? = some (.cells vs.toArray E (0, 0)) ∧ vs.length = (φ b).2 * sz ∧
        (∀ (i j : Nat) e t, es[i]? = some e → e[j]? = some t → ∃ v, vs[i * sz + j]? = some v ∧ RT w S t v) ∧ ∀ j, ¬ S (φ b).1 j)

structure Sim (φ : Phi) (w : World) (S : Stab) (σ : Store) : Prop where
  blk : ∀ b x, sget σ b = some x → RB φ w S b x
  inj : ∀ b b' x y, sget σ b = some x → sget σ b' = some y → b ≠ b' → (φ b).2 ≠ 0 → (φ b').2 ≠ 0 → (φ b).1 ≠ (φ b').1
  st : ∀ b j, S b j → b < w.heap.size

structure Ext (B : Nat → Prop) (S S' : Stab) (w w' : World) : Prop where
  os : w'.os = w.os
  tape : w'.tape = w.tape
  output : w'.output = w.output
  size : w.heap.size ≤ w'.heap.size
  block : ∀ b : Nat, b < w.heap.size → ¬ B b → w'.heap[b]? = w.heap[b]?
  mono : Mono w S w' S'
  snew : ∀ b j, S' b j → S b j ∨ B b ∨ w.heap.size ≤ b

def Blk.bnd (n : Nat → Bool) : Blk → Bool
  | .box cs => cs.all (C.bnd n)
  | .arr _ _ => true

def ins (n : Nat → Bool) (k : Nat) : Nat → Bool := fun b => n b || b == k

structure Ctx where
  w0 : World
  S0 : Stab
  B : Nat → Prop
  φ0 : Phi
  k : Nat

structure Rel (Γ : Ctx) (nt : Nat) (φ : Phi) (S : Stab) (env : Env) (σ : Store) (n : Nat → Bool) (a : Act) (w : World) : Prop where
  sim : Sim φ w S σ
  envs : ∀ (k : Nat) g v, look env k = some (g, v) → g = true → ∃ x, a.tmps[k]? = some x ∧ RV φ w S v x
  envn : ∀ (k : Nat) g v, look env k = some (g, v) → g = false → a.tmps[k]? = some undef
  ebnd : ∀ (k : Nat) g v, look env k = some (g, v) → g = true → v.bnd n = true
  sbnd : ∀ (b : Nat) x, sget σ b = some x → n b = true ∧ x.bnd n = true
  size : a.tmps.size = nt
  defers : a.defers = []
  ext : Ext Γ.B Γ.S0 S Γ.w0 w
  own : ∀ (b : Nat) x, sget σ b = some x → (φ b).2 ≠ 0 → Γ.B (φ b).1 ∨ Γ.w0.heap.size ≤ (φ b).1
  fix : ∀ b : Nat, b < Γ.k → φ b = Γ.φ0 b
  kn : ∀ b : Nat, b < Γ.k → n b = true

end Go.Proofs.Ytkdepbmeaiefeaa.Shv
