/- The abstract machine, part 1: trees, cells, values, and when they stand for values of the model. -/
import Derived.LoopN
import Derived.Calls
import Derived.Laws.Sem
import Derived.Laws.World
import Derived.Laws.Cells
import Derived.Below
namespace Go.Proofs.Ytkdepbmeaiefeaa.Shv
set_option linter.all false
open Go

/-- an immutable cell -/
inductive T where
  | bool (b : Bool)
  | int (k : IntKind) (n : Int)
  | str (s : List UInt8)
  | slice (es : List (List T))

/-- a cell -/
inductive C where
  | t (x : T)
  | ptr (b o : Nat)
  | eptr (b sz i o : Nat)
  | iptr (ts : List T) (o : Nat)
  | arr (b sz off len : Nat)
  | cap0
  | nilp
  | nilfn
  | fn (f : Nat) (caps : List Nat)
  | dead

inductive V where
  | c (x : C)
  | agg (cs : List C)
  | tup (vs : List V)

inductive Blk where
  | box (cs : List C)
  | arr (sz : Nat) (es : List (List T))

abbrev Stab := Nat → Nat → Prop
abbrev Phi := Nat → Nat × Nat

def strMax : Nat := 9223372036854775807
def sliceMax : Nat := 281474976710656

inductive RT (w : World) (S : Stab) : T → Value → Prop
  | bool (b : Bool) : RT w S (.bool b) (.bool b)
  | int (k : IntKind) (n : Int) : RT w S (.int k n) (.int k n)
  | str (s : ByteArray) (h : s.size ≤ strMax) : RT w S (.str s.data.toList) (.string s)
  | slice (es : List (List T)) (a : Option Addr) (cap sz b o : Nat) (f : Nat → Nat → Value)
      (hcap : es.length ≤ cap) (hmax : es.length ≤ sliceMax)
      (hsz : ∀ e, e ∈ es → e.length = sz)
      (ha : es ≠ [] → a = some ⟨b, o, none⟩)
      (hc : ∀ i j, i < es.length → j < sz → S b (o + i * sz + j) ∧ w.cell? ⟨b, o + i * sz + j, none⟩ = some (f i j))
      (hv : ∀ i j e t, es[i]? = some e → e[j]? = some t → RT w S t (f i j)) :
      RT w S (.slice es) (.slice a es.length cap)

structure Mono (w : World) (S : Stab) (w' : World) (S' : Stab) : Prop where
  sub : ∀ b j, S b j → S' b j
  cell : ∀ b j, S b j → w'.cell? ⟨b, j, none⟩ = w.cell? ⟨b, j, none⟩

theorem Mono.refl (w : World) (S : Stab) : Mono w S w S := ⟨fun _ _ h => h, fun _ _ _ => rfl⟩
theorem Mono.trans {w S w' S' w'' S''} (h : Mono w S w' S') (k : Mono w' S' w'' S'') : Mono w S w'' S'' :=
  ⟨fun b j hb => k.sub b j (h.sub b j hb), fun b j hb => (k.cell b j (h.sub b j hb)).trans (h.cell b j hb)⟩

theorem RT.mono {w S w' S'} (m : Mono w S w' S') {t v} (h : RT w S t v) : RT w' S' t v := by
  induction h with
  | bool b => exact .bool b
  | int k n => exact .int k n
  | str s h => exact .str s h
  | slice es a cap sz b o f hcap hmax hsz ha hc hv ih =>
    exact .slice es a cap sz b o f hcap hmax hsz ha
      (fun i j hi hj => ⟨m.sub _ _ (hc i j hi hj).1, by rw [m.cell _ _ (hc i j hi hj).1]; exact (hc i j hi hj).2⟩) ih

theorem RT.oneCell {w S t v} (h : RT w S t v) : v.oneCell' = true := by cases h <;> rfl

def RC (φ : Phi) (w : World) (S : Stab) : C → Value → Prop
  | .t x, v => RT w S x v
  | .ptr b o, v => v = .pointer (some ⟨(φ b).1, o, none⟩)
  | .eptr b sz i o, v => v = .pointer (some ⟨(φ b).1, i * sz + o, none⟩)
  | .iptr ts o, v => ∃ (blk off : Nat) (f : Nat → Value), v = .pointer (some ⟨blk, off + o, none⟩) ∧
      ∀ j t, ts[j]? = some t → S blk (off + j) ∧ w.cell? ⟨blk, off + j, none⟩ = some (f j) ∧ RT w S t (f j)
  | .arr b sz off len, v => ∃ a, v = .slice a len ((φ b).2 - off) ∧ ((φ b).2 ≠ 0 → a = some ⟨(φ b).1, off * sz, none⟩) ∧ off + len ≤ (φ b).2
  | .cap0, v => ∃ a, v = .slice a 0 0
  | .nilp, v => v = .pointer none
  | .nilfn, v => v = .nilFunc
  | .fn f caps, v => v = .func (.func f) #[] (caps.map fun b => Value.pointer (some ⟨(φ b).1, 0, none⟩)).toArray
  | .dead, v => v.oneCell' = true

theorem RC.oneCell {φ w S c v} (h : RC φ w S c v) : v.oneCell' = true := by
  cases c with
  | t x => exact RT.oneCell h
  | iptr ts o => obtain ⟨_, _, _, rfl, _⟩ := h; rfl
  | arr b sz off len => obtain ⟨_, rfl, _⟩ := h; rfl
  | cap0 => obtain ⟨_, rfl⟩ := h; rfl
  | dead => exact h
  | _ => cases h; rfl

/-- keys mentioned: all are in use -/
def C.bnd (n : Nat → Bool) : C → Bool
  | .ptr b _ => n b
  | .eptr b _ _ _ => n b
  | .arr b _ _ _ => n b
  | .fn _ caps => caps.all fun b => n b
  | _ => true

def V.bnd (n : Nat → Bool) : V → Bool
  | .c x => x.bnd n
  | .agg cs => cs.all (C.bnd n)
  | .tup vs => V.bnds n vs
where V.bnds (n : Nat → Bool) : List V → Bool
  | [] => true
  | v :: vs => v.bnd n && V.bnds n vs

theorem RC.mono {φ φ' : Phi} {w S w' S'} (m : Mono w S w' S') {n : Nat → Bool} (hφ : ∀ b, n b = true → φ' b = φ b) {c v} (hb : c.bnd n = true) (h : RC φ w S c v) : RC φ' w' S' c v := by
  cases c with
  | t x => exact RT.mono m h
  | ptr b o => simp only [C.bnd] at hb; simp only [RC, hφ b hb] at h ⊢; exact h
  | eptr b sz i o => simp only [C.bnd] at hb; simp only [RC, hφ b hb] at h ⊢; exact h
  | iptr ts o =>
    obtain ⟨blk, off, f, rfl, hh⟩ := h
    exact ⟨blk, off, f, rfl, fun j t ht => ⟨m.sub _ _ (hh j t ht).1, by rw [m.cell _ _ (hh j t ht).1]; exact (hh j t ht).2.1, RT.mono m (hh j t ht).2.2⟩⟩
  | arr b sz off len => simp only [C.bnd] at hb; simp only [RC, hφ b hb] at h ⊢; exact h
  | cap0 => exact h
  | nilp => exact h
  | nilfn => exact h
  | fn f caps =>
    simp only [RC] at h ⊢
    rw [h]
    congr 2
    apply List.map_congr_left
    intro b hbm
    simp only [C.bnd, List.all_eq_true] at hb
    rw [hφ b (hb b hbm)]
  | dead => exact h

inductive All2 {α β : Type} (R : α → β → Prop) : List α → List β → Prop
  | nil : All2 R [] []
  | cons {a b l m} : R a b → All2 R l m → All2 R (a :: l) (b :: m)

theorem All2.imp {α β : Type} {R R' : α → β → Prop} {l m} (h : All2 R l m) (k : ∀ a b, a ∈ l → R a b → R' a b) : All2 R' l m := by
  induction h with
  | nil => exact .nil
  | cons hab _ ih => exact .cons (k _ _ (by simp) hab) (ih fun a b ha => k a b (by simp [ha]))

theorem All2.length {α β : Type} {R : α → β → Prop} {l : List α} {m : List β} (h : All2 R l m) : l.length = m.length := by
  induction h with
  | nil => rfl
  | cons _ _ ih => simp [ih]

theorem All2.get {α β : Type} {R : α → β → Prop} {l : List α} {m : List β} (h : All2 R l m) {i : Nat} {a : α} (ha : l[i]? = some a) : ∃ b, m[i]? = some b ∧ R a b := by
  induction h generalizing i with
  | nil => simp at ha
  | cons hab _ ih => cases i with
    | zero => simp at ha; subst ha; exact ⟨_, by simp, hab⟩
    | succ i => simp at ha; simpa using ih ha

theorem All2.of_get {α β : Type} {R : α → β → Prop} : ∀ {l : List α} {m : List β}, l.length = m.length → (∀ (i : Nat) a b, l[i]? = some a → m[i]? = some b → R a b) → All2 R l m
  | [], [], _, _ => .nil
  | [], _ :: _, h, _ => by simp at h
  | _ :: _, [], h, _ => by simp at h
  | a :: l, b :: m, h, k => .cons (k 0 a b (by simp) (by simp)) (All2.of_get (by simpa using h) fun i x y hx hy => k (i + 1) x y (by simpa using hx) (by simpa using hy))

theorem All2.append {α β : Type} {R : α → β → Prop} {l l' : List α} {m m' : List β} (h : All2 R l m) (h' : All2 R l' m') : All2 R (l ++ l') (m ++ m') := by
  induction h with
  | nil => exact h'
  | cons hab _ ih => exact .cons hab ih

theorem All2.drop {α β : Type} {R : α → β → Prop} {l : List α} {m : List β} (h : All2 R l m) (k : Nat) : All2 R (l.drop k) (m.drop k) := by
  induction h generalizing k with
  | nil => simp; exact .nil
  | cons hab ht ih => cases k with
    | zero => exact .cons hab ht
    | succ k => simpa using ih k

theorem All2.take {α β : Type} {R : α → β → Prop} {l : List α} {m : List β} (h : All2 R l m) (k : Nat) : All2 R (l.take k) (m.take k) := by
  induction h generalizing k with
  | nil => simp; exact .nil
  | cons hab _ ih => cases k with
    | zero => exact .nil
    | succ k => exact .cons hab (ih k)

inductive RV (φ : Phi) (w : World) (S : Stab) : V → Value → Prop
  | c {x v} : RC φ w S x v → RV φ w S (.c x) v
  | agg {cs vs} : All2 (RC φ w S) cs vs → RV φ w S (.agg cs) (.agg vs.toArray)
  | tup (vs : List V) (xs : List Value) (hl : vs.length = xs.length) (h : ∀ (i : Nat) v x, vs[i]? = some v → xs[i]? = some x → RV φ w S v x) :
      RV φ w S (.tup vs) (.tuple xs.toArray)

theorem bnds_get {n : Nat → Bool} : ∀ {vs : List V} {i : Nat} {v : V}, V.bnd.V.bnds n vs = true → vs[i]? = some v → v.bnd n = true
  | [], _, _, _, h => by simp at h
  | x :: vs, 0, v, hb, h => by simp at h; subst h; simp [V.bnd.V.bnds] at hb; exact hb.1
  | x :: vs, i + 1, v, hb, h => by simp [V.bnd.V.bnds] at hb; exact bnds_get hb.2 (by simpa using h)

theorem RV.mono {φ φ' : Phi} {w S w' S'} (m : Mono w S w' S') {n : Nat → Bool} (hφ : ∀ b, n b = true → φ' b = φ b) {x v} (hb : V.bnd n x = true) (h : RV φ w S x v) : RV φ' w' S' x v := by
  induction h with
  | c h => exact .c (RC.mono m hφ (by simpa [V.bnd] using hb) h)
  | agg h => exact .agg (h.imp fun a b ha hab => RC.mono m hφ (by simp [V.bnd] at hb; exact hb a ha) hab)
  | tup vs xs hl h ih => exact .tup vs xs hl fun i v x hv hx => ih i v x hv hx (bnds_get (by simpa [V.bnd] using hb) hv)

end Go.Proofs.Ytkdepbmeaiefeaa.Shv
