/- Written by program: the functions of the program as functions of Lean, and that the program's code does what they say. -/
import Derived.Test.YtkdepbmeaiefeaaProg
import Derived.Test.YtkdepbmeaiefeaaShvZ2
import Derived.KernelRfl
namespace Go.Proofs.Ytkdepbmeaiefeaa
open Go Go.Proofs.Ytkdepbmeaiefeaa.Shv
set_option maxRecDepth 100000
set_option linter.all false

structure Item where
  ID : Int
  Version : Int
  Data : List UInt8
structure Spool where
  Items : List Item
  Next : Int
  Cursor : Int
structure Sheavelaw51Numbers where
  Running : Int
  Version : Int
  N : Int
structure Sheaveref51Draft where
  Versions : List Int
  Taken : Int
  Point : Int
def dItem : Item := ⟨0, 0, []⟩
def dSpool : Spool := ⟨[], 0, 0⟩
def dSheavelaw51Numbers : Sheavelaw51Numbers := ⟨0, 0, 0⟩
def dSheaveref51Draft : Sheaveref51Draft := ⟨[], 0, 0⟩
def uD : Nat → Type
  | 0 => Spool
  | 1 => Item
  | 2 => Sheavelaw51Numbers
  | 3 => Sheaveref51Draft
  | _ => Bool
def uTys : Nat → List Ty
  | 0 => [.slice (.nm 1), .int .i64, .int .i64]
  | 1 => [.int .i64, .int .i64, .str]
  | 2 => [.int .u8, .int .i64, .int .i64]
  | 3 => [.slice (.int .u8), .int .u8, .int .u8]
  | _ => [.bool]
def uFlds : (n : Nat) → uD n → List (Cell uD)
  | 0, (x : Spool) => [⟨.slice (.nm 1), x.Items⟩, ⟨.int .i64, x.Next⟩, ⟨.int .i64, x.Cursor⟩]
  | 1, (x : Item) => [⟨.int .i64, x.ID⟩, ⟨.int .i64, x.Version⟩, ⟨.str, x.Data⟩]
  | 2, (x : Sheavelaw51Numbers) => [⟨.int .u8, x.Running⟩, ⟨.int .i64, x.Version⟩, ⟨.int .i64, x.N⟩]
  | 3, (x : Sheaveref51Draft) => [⟨.slice (.int .u8), x.Versions⟩, ⟨.int .u8, x.Taken⟩, ⟨.int .u8, x.Point⟩]
  | _ + 4, (x : Bool) => [⟨.bool, x⟩]
def uMake : (n : Nat) → List (Cell uD) → Option (uD n)
  | 0, l => match Hs.dec uD (uTys 0) l with
    | some h => some (⟨h.1, h.2.1, h.2.2⟩ : Spool)
    | none => none
  | 1, l => match Hs.dec uD (uTys 1) l with
    | some h => some (⟨h.1, h.2.1, h.2.2⟩ : Item)
    | none => none
  | 2, l => match Hs.dec uD (uTys 2) l with
    | some h => some (⟨h.1, h.2.1, h.2.2⟩ : Sheavelaw51Numbers)
    | none => none
  | 3, l => match Hs.dec uD (uTys 3) l with
    | some h => some (⟨h.1, h.2.1, h.2.2⟩ : Sheaveref51Draft)
    | none => none
  | _ + 4, l => match Hs.dec uD [.bool] l with
    | some (h : Bool) => some h
    | none => none
def eItem (x : Item) : List T := [.int .i64 x.ID, .int .i64 x.Version, .str x.Data]
def eSpool (x : Spool) : List T := [.slice (x.Items.map eItem), .int .i64 x.Next, .int .i64 x.Cursor]
def eSheavelaw51Numbers (x : Sheavelaw51Numbers) : List T := [.int .u8 x.Running, .int .i64 x.Version, .int .i64 x.N]
def eSheaveref51Draft (x : Sheaveref51Draft) : List T := [.slice (x.Versions.map (fun y => [.int .u8 y])), .int .u8 x.Taken, .int .u8 x.Point]
def uEnc : (n : Nat) → uD n → List T
  | 0, x => eSpool x
  | 1, x => eItem x
  | 2, x => eSheavelaw51Numbers x
  | 3, x => eSheaveref51Draft x
  | _ + 4, (x : Bool) => [.bool x]
def Un : Uni where
  D := uD
  dfl := fun n => match n with
    | 0 => dSpool
    | 1 => dItem
    | 2 => dSheavelaw51Numbers
    | 3 => dSheaveref51Draft
    | _ + 4 => false
  flds := uFlds
  make := uMake
  tys := uTys
  enc := uEnc
  enc_eq := fun n x => match n, x with
    | 0, _ => rfl
    | 1, _ => rfl
    | 2, _ => rfl
    | 3, _ => rfl
    | _ + 4, _ => rfl
  mk_eq := fun n l x h => match n, x, h with
    | 0, x, h => by
      simp only [uMake] at h
      split at h
      · rename_i hh hd; cases h; exact Hs.dec_cells hd
      · cases h
    | 1, x, h => by
      simp only [uMake] at h
      split at h
      · rename_i hh hd; cases h; exact Hs.dec_cells hd
      · cases h
    | 2, x, h => by
      simp only [uMake] at h
      split at h
      · rename_i hh hd; cases h; exact Hs.dec_cells hd
      · cases h
    | 3, x, h => by
      simp only [uMake] at h
      split at h
      · rename_i hh hd; cases h; exact Hs.dec_cells hd
      · cases h
    | _ + 4, x, h => by
      simp only [uMake] at h
      split at h
      · rename_i hh hd; cases h; exact Hs.dec_cells hd
      · cases h
  tys_eq := fun n x => match n, x with
    | 0, _ => rfl
    | 1, _ => rfl
    | 2, _ => rfl
    | 3, _ => rfl
    | _ + 4, _ => rfl
  pos := fun n => match n with
    | 0 => by decide
    | 1 => by decide
    | 2 => by decide
    | 3 => by decide
    | _ + 4 => Nat.zero_lt_one
theorem un_total : Un.Total := fun n l h => match n, h with
  | 0, h => by
    obtain ⟨x, hx⟩ := Hs.dec_ty (D := uD) (ts := uTys 0) h
    exact ⟨_, by show uMake 0 l = _; simp only [uMake, hx]; rfl⟩
  | 1, h => by
    obtain ⟨x, hx⟩ := Hs.dec_ty (D := uD) (ts := uTys 1) h
    exact ⟨_, by show uMake 1 l = _; simp only [uMake, hx]; rfl⟩
  | 2, h => by
    obtain ⟨x, hx⟩ := Hs.dec_ty (D := uD) (ts := uTys 2) h
    exact ⟨_, by show uMake 2 l = _; simp only [uMake, hx]; rfl⟩
  | 3, h => by
    obtain ⟨x, hx⟩ := Hs.dec_ty (D := uD) (ts := uTys 3) h
    exact ⟨_, by show uMake 3 l = _; simp only [uMake, hx]; rfl⟩
  | m + 4, h => by
    obtain ⟨x, hx⟩ := Hs.dec_ty (D := uD) (ts := [.bool]) h
    exact ⟨x, by show uMake (m + 4) l = _; simp only [uMake, hx]; rfl⟩
def unStrs : Nat → Option Nat
  | 24 => some 0
  | 34 => some 2
  | 42 => some 3
  | 46 => some 1
  | _ => none
end Go.Proofs.Ytkdepbmeaiefeaa
