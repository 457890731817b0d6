/- Typed data over the abstract machine: types, rows, cells, and the trees that they stand for. -/
import Derived.Test.YtkdepbmeaiefeaaShvRaw
namespace Go.Proofs.Ytkdepbmeaiefeaa.Shv
set_option linter.all false
open Go

/-- a type of data; 'nm n': a struct that the table of structs names -/
inductive Ty where
  | bool
  | int (k : IntKind)
  | str
  | slice (t : Ty)
  | nm (n : Nat)

def Ty.beq : Ty → Ty → Bool
  | .bool, .bool => true
  | .int k, .int k' => decide (k = k')
  | .str, .str => true
  | .slice r, .slice r' => Ty.beq r r'
  | .nm n, .nm m => Nat.beq n m
  | _, _ => false

theorem Ty.beq_eq : ∀ {a b : Ty}, Ty.beq a b = true → a = b
  | .bool, .bool, _ => rfl
  | .int k, .int k', h => by simp [Ty.beq] at h; rw [h]
  | .str, .str, _ => rfl
  | .slice r, .slice r', h => by simp only [Ty.beq] at h; rw [Ty.beq_eq h]
  | .nm n, .nm m, h => by simp only [Ty.beq] at h; rw [Nat.eq_of_beq_eq_true h]
  | .bool, .int _, h | .bool, .str, h | .bool, .slice _, h | .bool, .nm _, h => by simp [Ty.beq] at h
  | .int _, .bool, h | .int _, .str, h | .int _, .slice _, h | .int _, .nm _, h => by simp [Ty.beq] at h
  | .str, .int _, h | .str, .bool, h | .str, .slice _, h | .str, .nm _, h => by simp [Ty.beq] at h
  | .slice _, .int _, h | .slice _, .str, h | .slice _, .bool, h | .slice _, .nm _, h => by simp [Ty.beq] at h
  | .nm _, .int _, h | .nm _, .str, h | .nm _, .bool, h | .nm _, .slice _, h => by simp [Ty.beq] at h

theorem Ty.beq_refl : ∀ (a : Ty), Ty.beq a a = true
  | .bool => rfl
  | .int k => by simp [Ty.beq]
  | .str => rfl
  | .slice r => by simp only [Ty.beq]; exact Ty.beq_refl r
  | .nm n => by simp only [Ty.beq]; exact Nat.beq_refl n

def Ty.dec (a b : Ty) : Decidable (a = b) :=
  match h : Ty.beq a b with
  | true => .isTrue (Ty.beq_eq h)
  | false => .isFalse fun e => by rw [e, Ty.beq_refl] at h; cases h

def Ty.den (D : Nat → Type) : Ty → Type
  | .bool => Bool
  | .int _ => Int
  | .str => List UInt8
  | .slice t => List (Ty.den D t)
  | .nm n => D n

structure Cell (D : Nat → Type) where
  ty : Ty
  val : ty.den D

def Cell.as {D : Nat → Type} (t : Ty) (c : Cell D) : Option (t.den D) :=
  match Ty.dec c.ty t with
  | .isTrue h => some (Eq.rec (motive := fun t _ => Ty.den D t) c.val h)
  | .isFalse _ => none

theorem Cell.as_some {D : Nat → Type} {t : Ty} {c : Cell D} {x : t.den D} (h : c.as t = some x) : c = ⟨t, x⟩ := by
  obtain ⟨u, v⟩ := c
  unfold Cell.as at h
  split at h
  · rename_i e _; dsimp only at e; subst e; simp at h; rw [h]
  · cases h

theorem Cell.as_mk {D : Nat → Type} {t : Ty} {x : t.den D} : Cell.as t (⟨t, x⟩ : Cell D) = some x := by
  unfold Cell.as
  split
  · rfl
  · rename_i h _; exact absurd rfl h

def encR (D : Nat → Type) (enc : ∀ n, D n → List T) : (t : Ty) → t.den D → List T
  | .bool, b => [.bool b]
  | .int k, n => [.int k n]
  | .str, s => [.str s]
  | .slice t, l => [.slice (List.map (encR D enc t) l)]
  | .nm n, x => enc n x

def encC (D : Nat → Type) (enc : ∀ n, D n → List T) : Cell D → T
  | ⟨.bool, b⟩ => .bool b
  | ⟨.int k, n⟩ => .int k n
  | ⟨.str, s⟩ => .str s
  | ⟨.slice t, l⟩ => .slice (List.map (encR D enc t) l)
  | ⟨.nm _, _⟩ => .bool false

/-- the table of structs -/
structure Uni where
  D : Nat → Type
  dfl : ∀ n, D n
  flds : ∀ n, D n → List (Cell D)
  make : ∀ n, List (Cell D) → Option (D n)
  tys : Nat → List Ty
  enc : ∀ n, D n → List T
  enc_eq : ∀ n x, enc n x = (flds n x).map (encC D enc)
  mk_eq : ∀ n l x, make n l = some x → flds n x = l
  tys_eq : ∀ n x, (flds n x).map Cell.ty = tys n
  pos : ∀ n, 0 < (tys n).length

variable {U : Uni}

abbrev Uni.C (U : Uni) := Cell U.D
abbrev Ty.d (U : Uni) (t : Ty) := t.den U.D

def Ty.dfl (U : Uni) : (t : Ty) → t.den U.D
  | .bool => false
  | .int _ => (0 : Int)
  | .str => ([] : List UInt8)
  | .slice t => ([] : List (t.den U.D))
  | .nm n => U.dfl n

def Ty.isNm : Ty → Bool
  | .nm _ => true
  | _ => false

/-- the cells of a row -/
def Ty.row (U : Uni) : (t : Ty) → t.den U.D → List (Cell U.D)
  | .bool, b => [⟨.bool, b⟩]
  | .int k, n => [⟨.int k, n⟩]
  | .str, s => [⟨.str, s⟩]
  | .slice t, l => [⟨.slice t, l⟩]
  | .nm n, x => U.flds n x

def Ty.cells (U : Uni) : Ty → List Ty
  | .nm n => U.tys n
  | t => [t]

def Ty.sz (U : Uni) (t : Ty) : Nat := (t.cells U).length

/-- a row out of its cells -/
def oneCell (U : Uni) (t : Ty) : List (Cell U.D) → Option (t.den U.D)
  | [c] => c.as t
  | _ => none

def Ty.mk (U : Uni) : (t : Ty) → List (Cell U.D) → Option (t.den U.D)
  | .nm n, l => U.make n l
  | .bool, l => oneCell U .bool l
  | .int k, l => oneCell U (.int k) l
  | .str, l => oneCell U .str l
  | .slice t, l => oneCell U (.slice t) l

theorem oneCell_some {t : Ty} {l : List (Cell U.D)} {x : t.den U.D} (h : oneCell U t l = some x) : l = [⟨t, x⟩] := by
  unfold oneCell at h
  split at h
  · rw [Cell.as_some h]
  · cases h

def Cell.enc (U : Uni) (c : Cell U.D) : T := encC U.D U.enc c
def Ty.enc (U : Uni) (t : Ty) (x : t.den U.D) : List T := encR U.D U.enc t x

theorem Ty.enc_row {t : Ty} {x : t.den U.D} : t.enc U x = (t.row U x).map (Cell.enc U) := by
  cases t <;> first | rfl | skip
  case nm n => exact U.enc_eq n x

theorem Ty.row_ty {t : Ty} {x : t.den U.D} : (t.row U x).map Cell.ty = t.cells U := by
  cases t <;> first | rfl | skip
  case nm n => exact U.tys_eq n x

theorem Ty.row_length {t : Ty} {x : t.den U.D} : (t.row U x).length = t.sz U := by
  rw [← List.length_map (f := Cell.ty), Ty.row_ty]; rfl

theorem Ty.enc_length {t : Ty} {x : t.den U.D} : (t.enc U x).length = t.sz U := by
  rw [Ty.enc_row, List.length_map, Ty.row_length]

theorem Ty.sz_pos {t : Ty} : 0 < t.sz U := by
  cases t <;> simp [Ty.sz, Ty.cells]
  exact U.pos _

theorem Ty.mk_row : ∀ {t : Ty} {l : List (Cell U.D)} {x : t.den U.D}, t.mk U l = some x → t.row U x = l
  | .nm n, l, x, h => U.mk_eq n l x h
  | .bool, l, x, h => (oneCell_some (t := .bool) h).symm
  | .int k, l, x, h => (oneCell_some (t := .int k) h).symm
  | .str, l, x, h => (oneCell_some (t := .str) h).symm
  | .slice t, l, x, h => (oneCell_some (t := .slice t) h).symm

/-- an element -/
def Ty.at (U : Uni) (t : Ty) (l : List (t.den U.D)) (i : Nat) : t.den U.D := l.getD i (t.dfl U)

theorem el_map {t : Ty} {l : List (t.den U.D)} {i : Nat} (h : i < l.length) : el (l.map (t.enc U)) i = t.enc U (t.at U l i) := by
  simp [el, Ty.at, List.getD, List.getElem?_eq_getElem h]

end Go.Proofs.Ytkdepbmeaiefeaa.Shv
