/- The abstract machine, part 2: the operations of a region, resolved against the table of types, and what they do to the abstract state. -/
import Derived.Test.YtkdepbmeaiefeaaShvCore
namespace Go.Proofs.Ytkdepbmeaiefeaa.Shv
set_option linter.all false
open Go

/-- an operand -/
inductive AO where
  | tmp (t : Nat)
  | const (v : V)

inductive AOp where
  | mov (x : AO)
  | pick (c x y : AO)
  | alloc (cs : List C)
  | box (x : AO)
  | build (zero : List C) (parts : List (Nat × Nat × AO))
  | bslice (sz : Nat) (len : Nat) (zero : List C) (parts : List (Nat × AO))
  | load (agg : Bool) (n : Nat) (x : AO)
  | store (n : Nat) (x v : AO)
  | nilCheck (x : AO)
  | bin (op : BinOp) (x y : AO)
  | eqAgg (neg : Bool) (ks : List Nat) (x y : AO)
  | eqBool (neg : Bool) (x y : AO)
  | eqNil (neg : Bool) (x : AO)
  | not (x : AO)
  | conv (k : IntKind) (x : AO)
  | i2s (x : AO)
  | s2s (x : AO)
  | fldA (off : Nat) (x : AO)
  | fld (agg : Bool) (off n : Nat) (x : AO)
  | idxA (sz : Nat) (x i : AO)
  | idxS (x i : AO)
  | slcS (x : AO) (lo hi : Option AO)
  | slc (sz : Nat) (x : AO) (lo hi : Option AO)
  | slc0 (x : AO)
  | mkfn (f : Nat) (caps : List AO)
  | ext (x : AO) (i : Nat)
  | len (str : Bool) (x : AO)
  | append (sz bytes : Nat) (x y : AO)
  | max2 (x y : AO)
  | min2 (x y : AO)
  | call (f : Nat) (args : List AO)
  | callv (x : AO) (args : List AO)

structure AOper where
  dst : Option Nat
  op : AOp
  guard : Option (Nat × Bool)

/-- a constant of the program as a cell -/
def ofVal : Value → Option C
  | .bool b => some (.t (.bool b))
  | .int k n => some (.t (.int k n))
  | .string s => if s.size ≤ strMax then some (.t (.str s.data.toList)) else none
  | .slice none 0 0 => some .cap0
  | .pointer none => some .nilp
  | .nilFunc => some .nilfn
  | _ => none

def ofVals : List Value → Option (List C)
  | [] => some []
  | v :: vs => (ofVal v).bind fun c => (ofVals vs).map (c :: ·)

def ofConst : Value → Option V
  | .agg cs => (ofVals cs.toList).map .agg
  | v => (ofVal v).map .c

def opd : Operand → Option AO
  | .tmp t => some (.tmp t)
  | .const v => (ofConst v).map .const
  | .func f => some (.const (.c (.fn f [])))
  | .global _ => none

def opds : List Operand → Option (List AO)
  | [] => some []
  | x :: xs => (opd x).bind fun a => (opds xs).map (a :: ·)

def opdO : Option Operand → Option (Option AO)
  | none => some none
  | some x => (opd x).map some

/-- the cells of a type's zero value -/
def zeroC (P : Program) (t : TypeId) : Option (List C) :=
  (P.info? t).bind fun i => i.zero.bind fun z => ofVals z.cells.toList

def isAggT (P : Program) (t : TypeId) : Option Bool :=
  match P.underlying t with
  | some (.struct _) | some (.array _ _) => some true
  | some _ => some false
  | none => none

def sizeT (P : Program) (t : TypeId) : Option Nat := (P.info? t).map (·.size)

/-- is the type's value loaded as a row of cells, and of how many? -/
def loadOf (P : Program) (t : TypeId) : Option (Bool × Nat) :=
  (isAggT P t).bind fun g => (sizeT P t).bind fun n => if g = false → n = 1 then some (g, n) else none

def hasBody (P : Program) (f : Nat) : Bool :=
  match P.funcs[f]? with
  | some fn => fn.body.isSome && !(fn.name == "runtime.NumGoroutine")
  | none => false

/-- 0: bool, 1: an integer, 2: string -/
def kindT (P : Program) (t : TypeId) : Option Nat :=
  match P.underlying t with
  | some .bool => some 0
  | some (.int _) => some 1
  | some .string => some 2
  | _ => none

def flatFields (P : Program) : Nat → List Field → Option (List Nat)
  | _, [] => some []
  | i, f :: fs => if f.offset = i ∧ f.name ≠ "_" then (kindT P f.type).bind fun k => (flatFields P (i + 1) fs).map (k :: ·) else none

def structFlat (P : Program) (t : TypeId) : Option (List Nat) :=
  match P.underlying t with
  | some (.struct fs) => if P.stoodInHeld t = false ∧ P.eqGuardType P.depth t = false then flatFields P 0 fs.toList else none
  | _ => none

/-- every field's type has a row in the table -/
def sizedFields (P : Program) (fs : Array Field) : Bool := fs.toList.all fun f => (sizeT P f.type).isSome

def buildParts (P : Program) (fs : Array Field) : List (Nat × Operand) → Option (List (Nat × Nat × AO))
  | [] => some []
  | (j, x) :: r => (fs[j]?).bind fun f => (sizeT P f.type).bind fun n => (opd x).bind fun a => (buildParts P fs r).map ((f.offset, n, a) :: ·)

def arrParts (n : Nat) : List (Nat × Operand) → Option (List (Nat × Nat × AO))
  | [] => some []
  | (j, x) :: r => (opd x).bind fun a => (arrParts n r).map ((j * n, n, a) :: ·)

def slcParts : List (Nat × Operand) → Option (List (Nat × AO))
  | [] => some []
  | (j, x) :: r => (opd x).bind fun a => (slcParts r).map ((j, a) :: ·)

def resolveCall (P : Program) (c : Call) : Option AOp :=
  match c.callee with
  | .builtin .len => match c.args.toList, c.argTypes.toList with
    | [x], [t] => match P.underlying t with
      | some .string => (opd x).map (.len true)
      | some (.slice _) => (opd x).map (.len false)
      | _ => none
    | _, _ => none
  | .builtin .append => match c.args.toList, c.argTypes.toList with
    | [x, y], [t, u] => match P.underlying t, P.underlying u with
      | some (.slice e), some (.slice _) => (P.info? e).bind fun i => (opd x).bind fun a => (opd y).bind fun b =>
          if i.size ≠ 0 ∧ (i.zero.map (·.cells.size)) = some i.size then some (.append i.size i.bytes a b) else none
      | _, _ => none
    | _, _ => none
  | .builtin .max => match c.args.toList with
    | [x, y] => (opd x).bind fun a => (opd y).map fun b => .max2 a b
    | _ => none
  | .builtin .min => match c.args.toList with
    | [x, y] => (opd x).bind fun a => (opd y).map fun b => .min2 a b
    | _ => none
  | .value (.func f) => if hasBody P f then (opds c.args.toList).map (.call f) else none
  | .value (.tmp t) => (opds c.args.toList).map (.callv (.tmp t))
  | _ => none

def isNilConst : Operand → Bool
  | .const (.slice none 0 0) => true
  | _ => false

def resolveOp (P : Program) (o : Op) : Option AOp :=
  match o with
  | .move x | .assign x => (opd x).map .mov
  | .pick c a b => (opd c).bind fun c => (opd a).bind fun a => (opd b).map fun b => .pick c a b
  | .alloc e => (zeroC P e).map .alloc
  | .box _ x => (opd x).map .box
  | .build t parts => match P.underlying t with
    | some (.struct fs) => if sizedFields P fs then (zeroC P t).bind fun z => (buildParts P fs parts.toList).map fun ps => .build z ps else none
    | some (.array _ e) => (zeroC P t).bind fun z => (sizeT P e).bind fun n => (arrParts n parts.toList).map fun ps => .build z ps
    | _ => none
  | .buildSlice t len parts => match P.underlying t with
    | some (.slice e) => (sizeT P e).bind fun n => (zeroC P e).bind fun z => (slcParts parts.toList).bind fun ps =>
        if n ≠ 0 ∧ z.length = n ∧ len * n ≤ 2 ^ 24 then some (.bslice n len z ps) else none
    | _ => none
  | .load t a => (loadOf P t).bind fun g => (opd a).map fun x => .load g.1 g.2 x
  | .store t a v => (sizeT P t).bind fun n => (opd a).bind fun x => (opd v).map fun y => .store n x y
  | .nilCheck x => (opd x).map .nilCheck
  | .binOp op t x y _ =>
    if op = .eql ∨ op = .neq then
      match P.underlying t with
      | some (.struct _) => (structFlat P t).bind fun ks => (opd x).bind fun a => (opd y).map fun b => .eqAgg (op == .neq) ks a b
      | some (.slice _) => if isNilConst y then (opd x).map (.eqNil (op == .neq)) else none
      | some .bool => (opd x).bind fun a => (opd y).map fun b => .eqBool (op == .neq) a b
      | some (.int _) | some .string => (opd x).bind fun a => (opd y).map fun b => .bin op a b
      | _ => none
    else (opd x).bind fun a => (opd y).map fun b => .bin op a b
  | .unOp .not _ x => (opd x).map .not
  | .convert s d x => match P.underlying s, P.underlying d with
    | some (.int _), some (.int k) => (opd x).map (.conv k)
    | some (.int _), some .string => (opd x).map .i2s
    | some .string, some .string => (opd x).map .s2s
    | _, _ => none
  | .fieldAddr t x f => match P.underlying t with
    | some (.struct fs) => (fs[f]?).bind fun fd => (sizeT P fd.type).bind fun n => if n = 0 then none else (opd x).map (.fldA fd.offset)
    | _ => none
  | .field t x f => match P.underlying t with
    | some (.struct fs) => (fs[f]?).bind fun fd => (loadOf P fd.type).bind fun g => (opd x).map (.fld g.1 fd.offset g.2)
    | _ => none
  | .indexAddr t x i => match P.underlying t with
    | some (.slice e) => (sizeT P e).bind fun n => if n = 0 then none else (opd x).bind fun a => (opd i).map fun b => .idxA n a b
    | _ => none
  | .index t x i => match P.underlying t with
    | some .string => (opd x).bind fun a => (opd i).map fun b => .idxS a b
    | _ => none
  | .slice t x lo hi mx => match P.underlying t with
    | some .string => if mx.isNone then (opd x).bind fun a => (opdO lo).bind fun l => (opdO hi).map fun h => .slcS a l h else none
    | some (.slice e) => match mx with
      | none => (sizeT P e).bind fun n => if n = 0 then none else (opd x).bind fun a => (opdO lo).bind fun l => (opdO hi).map fun h => .slc n a l h
      | some (.const (.int _ 0)) => match lo, hi with
        | none, some (.const (.int _ 0)) => if (sizeT P e).isSome then (opd x).map .slc0 else none
        | _, _ => none
      | _ => none
    | _ => none
  | .makeFunc (.func f) first caps => if first.isEmpty then (opds caps.toList).map (.mkfn f) else none
  | .extract x i => (opd x).map fun a => .ext a i
  | .call c => resolveCall P c
  | _ => none

def resolveGuard (ops : Array Oper) : Option (Nat × Bool) → Option (Option (Nat × Bool))
  | none => some none
  | some (j, b) => ((ops[j]?).bind (·.dst)).map fun d => some (d, b)

def resolveOper (P : Program) (nt : Nat) (ops : Array Oper) (o : Oper) : Option AOper :=
  (resolveOp P o.op).bind fun p => (resolveGuard ops o.guard).bind fun g =>
    match o.dst with
    | none => some ⟨none, p, g⟩
    | some d => if d < nt then some ⟨some d, p, g⟩ else none

def resolveOps (P : Program) (nt : Nat) (ops : Array Oper) : List Oper → Option (List AOper)
  | [] => some []
  | o :: r => (resolveOper P nt ops o).bind fun a => (resolveOps P nt ops r).map (a :: ·)

inductive ACode where
  | skip
  | region (ops : List AOper)
  | regionD (ops : List AOper) (crit : List (Nat × Nat))
  | seq (a b : ACode)
  | cond (c : AO) (x y : ACode)
  | block (id : Nat) (b : ACode)
  | loop (b : ACode)
  | exit (id : Nat)
  | ret

/-- does the operation leave the store alone? -/
def AOp.neutral : AOp → Bool
  | .alloc _ | .box _ | .bslice .. | .store .. | .append .. | .call .. | .callv .. | .eqNil .. => false
  | _ => true

/-- does it look into the store? -/
def AOp.touches : AOp → Bool
  | .alloc _ | .box _ | .bslice .. | .store .. | .append .. | .load .. => true
  | _ => false

/-- may it stand in a region that draws its order? -/
def AOp.drawn : AOp → Bool
  | .callv .. | .eqNil .. => false
  | _ => true

def AO.tmps : AO → List Nat
  | .tmp t => [t]
  | .const _ => []

def oTmps : Option AO → List Nat
  | none => []
  | some x => x.tmps

/-- the slots that an operation reads -/
def AOp.reads : AOp → List Nat
  | .mov x => x.tmps
  | .pick c x y => c.tmps ++ x.tmps ++ y.tmps
  | .alloc _ => []
  | .box x => x.tmps
  | .build _ ps => ps.flatMap fun p => p.2.2.tmps
  | .bslice _ _ _ ps => ps.flatMap fun p => p.2.tmps
  | .load _ _ x => x.tmps
  | .store _ x v => x.tmps ++ v.tmps
  | .nilCheck x => x.tmps
  | .bin _ x y => x.tmps ++ y.tmps
  | .eqAgg _ _ x y => x.tmps ++ y.tmps
  | .eqBool _ x y => x.tmps ++ y.tmps
  | .eqNil _ x => x.tmps
  | .not x => x.tmps
  | .conv _ x => x.tmps
  | .i2s x => x.tmps
  | .s2s x => x.tmps
  | .fldA _ x => x.tmps
  | .fld _ _ _ x => x.tmps
  | .idxA _ x i => x.tmps ++ i.tmps
  | .idxS x i => x.tmps ++ i.tmps
  | .slcS x lo hi => x.tmps ++ oTmps lo ++ oTmps hi
  | .slc _ x lo hi => x.tmps ++ oTmps lo ++ oTmps hi
  | .slc0 x => x.tmps
  | .mkfn _ caps => caps.flatMap AO.tmps
  | .ext x _ => x.tmps
  | .len _ x => x.tmps
  | .append _ _ x y => x.tmps ++ y.tmps
  | .max2 x y => x.tmps ++ y.tmps
  | .min2 x y => x.tmps ++ y.tmps
  | .call _ args => args.flatMap AO.tmps
  | .callv x args => x.tmps ++ args.flatMap AO.tmps

def AOper.rd (o : AOper) : List Nat := o.op.reads ++ (match o.guard with | none => [] | some (t, _) => [t])

/-- the operations that stand ahead of one, by every reading of the order -/
def depsOf (o : Oper) : List Nat := (o.after.toList.filter (Region.binds .any)).map (·.on)

/-- must j stand ahead of i? -/
def ahead (l : List (AOper × List Nat)) (j i : Nat) : Bool := decide (j < i) && ((l[i]?).map fun x => x.2.contains j).getD false

def depsBack : Nat → List (AOper × List Nat) → Bool
  | _, [] => true
  | i, x :: r => x.2.all (· < i) && depsBack (i + 1) r

/-- every slot that an operation reads is written ahead of it, if at all; no slot is written twice -/
def ssaOk (l : List (AOper × List Nat)) : Bool :=
  l.zipIdx.all fun x => l.zipIdx.all fun y =>
    match y.1.1.dst with
    | none => true
    | some d => (!(x.1.1.rd.contains d) || ahead l y.2 x.2 || (x.1.1.op.neutral && !x.1.1.op.touches && ahead l x.2 y.2)) && (x.2 == y.2 || !(x.1.1.dst == some d))

def critOf (l : List (AOper × List Nat)) : List (Nat × Nat) :=
  l.zipIdx.flatMap fun x => if x.1.1.op.neutral then [] else l.zipIdx.filterMap fun y =>
    if y.1.1.op.touches && !(x.2 == y.2) && !(ahead l x.2 y.2) && !(ahead l y.2 x.2) then some (x.2, y.2) else none

def drawOk (l : List (AOper × List Nat)) : Bool := depsBack 0 l && ssaOk l && l.all fun x => x.1.op.drawn

def withDeps (ops : Array Oper) (aos : List AOper) : List (AOper × List Nat) := aos.zip (ops.toList.map depsOf)

def resolve (P : Program) (nt : Nat) : Code → Option ACode
  | .skip => some .skip
  | .region _ ops draw => (resolveOps P nt ops ops.toList).bind fun aos =>
      if draw then (if drawOk (withDeps ops aos) && P.follows .mixedOrders then some (.regionD aos (critOf (withDeps ops aos))) else none) else some (.region aos)
  | .seq a b => (resolve P nt a).bind fun x => (resolve P nt b).map fun y => .seq x y
  | .cond c a b => (opd c).bind fun o => (resolve P nt a).bind fun x => (resolve P nt b).map fun y => .cond o x y
  | .block id b => (resolve P nt b).map (.block id)
  | .loop b => (resolve P nt b).map .loop
  | .exit id => some (.exit id)
  | .ret => some .ret
  | _ => none

end Go.Proofs.Ytkdepbmeaiefeaa.Shv
