/- The functions of the program as functions of Lean, that its code does what they say, and what they answer; part A. -/
import Derived.Test.YthnmepafpikaiaaGreatProg
import Derived.KernelRfl
import Derived.Shelf.SlGeneric
import Derived.Shelf.SlLaysF0
import Derived.Shelf.SlSortCmp.WholeK
import Derived.Lib.Small
import Derived.Test.YthnmepafpikaiaaGreatLibD

namespace Go.Proofs.YthnmepafpikaiaaGreat
open Go Go.Proofs.YthnmepafpikaiaaGreat.Shv
set_option maxRecDepth 100000
set_option linter.all false

structure SRaw where
  ID : Int
  Data : List UInt8
structure SValue where
  Kind : Int
  Bool_ : Bool
  Int_ : Int
  Str : List UInt8
  ID : Int
  Keys : List SValue
  Items : List SValue
  Rest : List SRaw
structure SMember where
  ID : Int
  Name : List UInt8
  Type_ : Int
  Critical : Bool
  HasDefault : Bool
  Default : SValue
structure SSymbol where
  ID : Int
  Name : List UInt8
structure SType where
  Kind : Int
  Name : List UInt8
  Low : Int
  High : Int
  Max : Int
  Symbols : List SSymbol
  Members : List SMember
  Key : Int
  Elem : Int
  Open : Bool
structure SSchema where
  Types : List SType
structure EncodeEntry where
  id : Int
  text : List UInt8
structure EncodeReader where
  s : SSchema
structure SField where
  ID : Int
  Critical : Bool
  Data : List UInt8
def dSRaw : SRaw := ⟨0, []⟩
def dSValue : SValue := ⟨0, false, 0, [], 0, [], [], []⟩
def dSMember : SMember := ⟨0, [], 0, false, false, dSValue⟩
def dSSymbol : SSymbol := ⟨0, []⟩
def dSType : SType := ⟨0, [], 0, 0, 0, [], [], 0, 0, false⟩
def dSSchema : SSchema := ⟨[]⟩
def dEncodeEntry : EncodeEntry := ⟨0, []⟩
def dEncodeReader : EncodeReader := ⟨dSSchema⟩
def dSField : SField := ⟨0, false, []⟩
def uD : Nat → Type
  | 0 => SMember
  | 1 => SValue
  | 2 => SRaw
  | 3 => SType
  | 4 => SSymbol
  | 5 => SSchema
  | 6 => EncodeEntry
  | 7 => EncodeReader
  | 8 => SField
  | _ => Bool
def uTys : Nat → List Ty
  | 0 => [.int .i64, .str, .int .i64, .bool, .bool, .int .i64, .bool, .int .i64, .str, .int .i64, .slice (.nm 1), .slice (.nm 1), .slice (.nm 2)]
  | 1 => [.int .i64, .bool, .int .i64, .str, .int .i64, .slice (.nm 1), .slice (.nm 1), .slice (.nm 2)]
  | 2 => [.int .i64, .str]
  | 3 => [.int .i64, .str, .int .i64, .int .i64, .int .i64, .slice (.nm 4), .slice (.nm 0), .int .i64, .int .i64, .bool]
  | 4 => [.int .i64, .str]
  | 5 => [.slice (.nm 3)]
  | 6 => [.int .i64, .str]
  | 7 => [.slice (.nm 3)]
  | 8 => [.int .i64, .bool, .str]
  | _ => [.bool]
def uFlds : (n : Nat) → uD n → List (Cell uD)
  | 0, (x : SMember) => [⟨.int .i64, x.ID⟩, ⟨.str, x.Name⟩, ⟨.int .i64, x.Type_⟩, ⟨.bool, x.Critical⟩, ⟨.bool, x.HasDefault⟩, ⟨.int .i64, x.Default.Kind⟩, ⟨.bool, x.Default.Bool_⟩, ⟨.int .i64, x.Default.Int_⟩, ⟨.str, x.Default.Str⟩, ⟨.int .i64, x.Default.ID⟩, ⟨.slice (.nm 1), x.Default.Keys⟩, ⟨.slice (.nm 1), x.Default.Items⟩, ⟨.slice (.nm 2), x.Default.Rest⟩]
  | 1, (x : SValue) => [⟨.int .i64, x.Kind⟩, ⟨.bool, x.Bool_⟩, ⟨.int .i64, x.Int_⟩, ⟨.str, x.Str⟩, ⟨.int .i64, x.ID⟩, ⟨.slice (.nm 1), x.Keys⟩, ⟨.slice (.nm 1), x.Items⟩, ⟨.slice (.nm 2), x.Rest⟩]
  | 2, (x : SRaw) => [⟨.int .i64, x.ID⟩, ⟨.str, x.Data⟩]
  | 3, (x : SType) => [⟨.int .i64, x.Kind⟩, ⟨.str, x.Name⟩, ⟨.int .i64, x.Low⟩, ⟨.int .i64, x.High⟩, ⟨.int .i64, x.Max⟩, ⟨.slice (.nm 4), x.Symbols⟩, ⟨.slice (.nm 0), x.Members⟩, ⟨.int .i64, x.Key⟩, ⟨.int .i64, x.Elem⟩, ⟨.bool, x.Open⟩]
  | 4, (x : SSymbol) => [⟨.int .i64, x.ID⟩, ⟨.str, x.Name⟩]
  | 5, (x : SSchema) => [⟨.slice (.nm 3), x.Types⟩]
  | 6, (x : EncodeEntry) => [⟨.int .i64, x.id⟩, ⟨.str, x.text⟩]
  | 7, (x : EncodeReader) => [⟨.slice (.nm 3), x.s.Types⟩]
  | 8, (x : SField) => [⟨.int .i64, x.ID⟩, ⟨.bool, x.Critical⟩, ⟨.str, x.Data⟩]
  | _ + 9, (x : Bool) => [⟨.bool, x⟩]
def uMake : (n : Nat) → List (Cell uD) → Option (uD n)
  | 0, l => match Hs.dec uD (uTys 0) l with
    | some h => some (⟨h.1, h.2.1, h.2.2.1, h.2.2.2.1, h.2.2.2.2.1, (⟨h.2.2.2.2.2.1, h.2.2.2.2.2.2.1, h.2.2.2.2.2.2.2.1, h.2.2.2.2.2.2.2.2.1, h.2.2.2.2.2.2.2.2.2.1, h.2.2.2.2.2.2.2.2.2.2.1, h.2.2.2.2.2.2.2.2.2.2.2.1, h.2.2.2.2.2.2.2.2.2.2.2.2⟩ : SValue)⟩ : SMember)
    | none => none
  | 1, l => match Hs.dec uD (uTys 1) l with
    | some h => some (⟨h.1, h.2.1, h.2.2.1, h.2.2.2.1, h.2.2.2.2.1, h.2.2.2.2.2.1, h.2.2.2.2.2.2.1, h.2.2.2.2.2.2.2⟩ : SValue)
    | none => none
  | 2, l => match Hs.dec uD (uTys 2) l with
    | some h => some (⟨h.1, h.2⟩ : SRaw)
    | none => none
  | 3, l => match Hs.dec uD (uTys 3) l with
    | some h => some (⟨h.1, h.2.1, h.2.2.1, h.2.2.2.1, h.2.2.2.2.1, h.2.2.2.2.2.1, h.2.2.2.2.2.2.1, h.2.2.2.2.2.2.2.1, h.2.2.2.2.2.2.2.2.1, h.2.2.2.2.2.2.2.2.2⟩ : SType)
    | none => none
  | 4, l => match Hs.dec uD (uTys 4) l with
    | some h => some (⟨h.1, h.2⟩ : SSymbol)
    | none => none
  | 5, l => match Hs.dec uD (uTys 5) l with
    | some h => some (⟨h⟩ : SSchema)
    | none => none
  | 6, l => match Hs.dec uD (uTys 6) l with
    | some h => some (⟨h.1, h.2⟩ : EncodeEntry)
    | none => none
  | 7, l => match Hs.dec uD (uTys 7) l with
    | some h => some (⟨(⟨h⟩ : SSchema)⟩ : EncodeReader)
    | none => none
  | 8, l => match Hs.dec uD (uTys 8) l with
    | some h => some (⟨h.1, h.2.1, h.2.2⟩ : SField)
    | none => none
  | _ + 9, l => match Hs.dec uD [.bool] l with
    | some (h : Bool) => some h
    | none => none
def eSRaw (x : SRaw) : List T := [.int .i64 x.ID, .str x.Data]
def SValue.eta (x : SValue) : SValue := ⟨x.Kind, x.Bool_, x.Int_, x.Str, x.ID, x.Keys, x.Items, x.Rest⟩
theorem SValue.eta_eq (x : SValue) : x.eta = x := by cases x; rfl
mutual
def eSValue : SValue → List T
  | ⟨a0, a1, a2, a3, a4, a5, a6, a7⟩ => [.int .i64 a0, .bool a1, .int .i64 a2, .str a3, .int .i64 a4, .slice (eSValueL a5), .slice (eSValueL a6), .slice (a7.map eSRaw)]
def eSValueL : List SValue → List (List T)
  | [] => []
  | v :: r => eSValue v :: eSValueL r
end
theorem eSValueL_map : ∀ l, eSValueL l = l.map eSValue
  | [] => rfl
  | v :: r => by simp only [eSValueL, List.map]; rw [eSValueL_map r]
theorem eSValue_eq (x : SValue) : eSValue x = [.int .i64 x.Kind, .bool x.Bool_, .int .i64 x.Int_, .str x.Str, .int .i64 x.ID, .slice (x.Keys.map eSValue), .slice (x.Items.map eSValue), .slice (x.Rest.map eSRaw)] := by cases x; simp only [eSValue, eSValueL_map]
def eSMember (x : SMember) : List T := [.int .i64 x.ID, .str x.Name, .int .i64 x.Type_, .bool x.Critical, .bool x.HasDefault, .int .i64 x.Default.Kind, .bool x.Default.Bool_, .int .i64 x.Default.Int_, .str x.Default.Str, .int .i64 x.Default.ID, .slice (x.Default.Keys.map eSValue), .slice (x.Default.Items.map eSValue), .slice (x.Default.Rest.map eSRaw)]
def eSSymbol (x : SSymbol) : List T := [.int .i64 x.ID, .str x.Name]
def eSType (x : SType) : List T := [.int .i64 x.Kind, .str x.Name, .int .i64 x.Low, .int .i64 x.High, .int .i64 x.Max, .slice (x.Symbols.map eSSymbol), .slice (x.Members.map eSMember), .int .i64 x.Key, .int .i64 x.Elem, .bool x.Open]
def eSSchema (x : SSchema) : List T := [.slice (x.Types.map eSType)]
def eEncodeEntry (x : EncodeEntry) : List T := [.int .i64 x.id, .str x.text]
def eEncodeReader (x : EncodeReader) : List T := [.slice (x.s.Types.map eSType)]
def eSField (x : SField) : List T := [.int .i64 x.ID, .bool x.Critical, .str x.Data]
def uEnc : (n : Nat) → uD n → List T
  | 0, x => eSMember x
  | 1, x => eSValue x
  | 2, x => eSRaw x
  | 3, x => eSType x
  | 4, x => eSSymbol x
  | 5, x => eSSchema x
  | 6, x => eEncodeEntry x
  | 7, x => eEncodeReader x
  | 8, x => eSField x
  | _ + 9, (x : Bool) => [.bool x]
def Un : Uni where
  D := uD
  dfl := fun n => match n with
    | 0 => dSMember
    | 1 => dSValue
    | 2 => dSRaw
    | 3 => dSType
    | 4 => dSSymbol
    | 5 => dSSchema
    | 6 => dEncodeEntry
    | 7 => dEncodeReader
    | 8 => dSField
    | _ + 9 => false
  flds := uFlds
  make := uMake
  tys := uTys
  enc := uEnc
  enc_eq := fun n x => match n, x with
    | 0, _ => rfl
    | 1, x => eSValue_eq x
    | 2, _ => rfl
    | 3, _ => rfl
    | 4, _ => rfl
    | 5, _ => rfl
    | 6, _ => rfl
    | 7, _ => rfl
    | 8, _ => rfl
    | _ + 9, _ => rfl
  mk_eq := fun n l x h => match n, x, h with
    | 0, x, h => by
      simp only [uMake] at h
      split at h
      · rename_i hh hd; cases h; exact Hs.dec_cells hd
      · cases h
    | 1, x, h => by
      simp only [uMake] at h
      split at h
      · rename_i hh hd; cases h; exact Hs.dec_cells hd
      · cases h
    | 2, x, h => by
      simp only [uMake] at h
      split at h
      · rename_i hh hd; cases h; exact Hs.dec_cells hd
      · cases h
    | 3, x, h => by
      simp only [uMake] at h
      split at h
      · rename_i hh hd; cases h; exact Hs.dec_cells hd
      · cases h
    | 4, x, h => by
      simp only [uMake] at h
      split at h
      · rename_i hh hd; cases h; exact Hs.dec_cells hd
      · cases h
    | 5, x, h => by
      simp only [uMake] at h
      split at h
      · rename_i hh hd; cases h; exact Hs.dec_cells hd
      · cases h
    | 6, x, h => by
      simp only [uMake] at h
      split at h
      · rename_i hh hd; cases h; exact Hs.dec_cells hd
      · cases h
    | 7, x, h => by
      simp only [uMake] at h
      split at h
      · rename_i hh hd; cases h; exact Hs.dec_cells hd
      · cases h
    | 8, x, h => by
      simp only [uMake] at h
      split at h
      · rename_i hh hd; cases h; exact Hs.dec_cells hd
      · cases h
    | _ + 9, x, h => by
      simp only [uMake] at h
      split at h
      · rename_i hh hd; cases h; exact Hs.dec_cells hd
      · cases h
  tys_eq := fun n x => match n, x with
    | 0, _ => rfl
    | 1, _ => rfl
    | 2, _ => rfl
    | 3, _ => rfl
    | 4, _ => rfl
    | 5, _ => rfl
    | 6, _ => rfl
    | 7, _ => rfl
    | 8, _ => rfl
    | _ + 9, _ => rfl
  tyOf := fun e => match e with
    | 3 => some (.int .i64)
    | 5 => some (.int .u8)
    | 9 => some .str
    | 53 => some (.nm 1)
    | 72 => some (.nm 8)
    | 77 => some (.nm 3)
    | 119 => some (.nm 0)
    | 183 => some (.nm 6)
    | _ => none
  pos := fun n => match n with
    | 0 => by decide
    | 1 => by decide
    | 2 => by decide
    | 3 => by decide
    | 4 => by decide
    | 5 => by decide
    | 6 => by decide
    | 7 => by decide
    | 8 => by decide
    | _ + 9 => Nat.zero_lt_one
theorem un_total : Un.Total := fun n l h => match n, h with
  | 0, h => by
    obtain ⟨x, hx⟩ := Hs.dec_ty (D := uD) (ts := uTys 0) h
    exact ⟨_, by show uMake 0 l = _; simp only [uMake, hx]; rfl⟩
  | 1, h => by
    obtain ⟨x, hx⟩ := Hs.dec_ty (D := uD) (ts := uTys 1) h
    exact ⟨_, by show uMake 1 l = _; simp only [uMake, hx]; rfl⟩
  | 2, h => by
    obtain ⟨x, hx⟩ := Hs.dec_ty (D := uD) (ts := uTys 2) h
    exact ⟨_, by show uMake 2 l = _; simp only [uMake, hx]; rfl⟩
  | 3, h => by
    obtain ⟨x, hx⟩ := Hs.dec_ty (D := uD) (ts := uTys 3) h
    exact ⟨_, by show uMake 3 l = _; simp only [uMake, hx]; rfl⟩
  | 4, h => by
    obtain ⟨x, hx⟩ := Hs.dec_ty (D := uD) (ts := uTys 4) h
    exact ⟨_, by show uMake 4 l = _; simp only [uMake, hx]; rfl⟩
  | 5, h => by
    obtain ⟨x, hx⟩ := Hs.dec_ty (D := uD) (ts := uTys 5) h
    exact ⟨_, by show uMake 5 l = _; simp only [uMake, hx]; rfl⟩
  | 6, h => by
    obtain ⟨x, hx⟩ := Hs.dec_ty (D := uD) (ts := uTys 6) h
    exact ⟨_, by show uMake 6 l = _; simp only [uMake, hx]; rfl⟩
  | 7, h => by
    obtain ⟨x, hx⟩ := Hs.dec_ty (D := uD) (ts := uTys 7) h
    exact ⟨_, by show uMake 7 l = _; simp only [uMake, hx]; rfl⟩
  | 8, h => by
    obtain ⟨x, hx⟩ := Hs.dec_ty (D := uD) (ts := uTys 8) h
    exact ⟨_, by show uMake 8 l = _; simp only [uMake, hx]; rfl⟩
  | m + 9, h => by
    obtain ⟨x, hx⟩ := Hs.dec_ty (D := uD) (ts := [.bool]) h
    exact ⟨x, by show uMake (m + 9) l = _; simp only [uMake, hx]; rfl⟩
def unStrs : Nat → Option Nat
  | 40 => some 5
  | 53 => some 1
  | 72 => some 8
  | 77 => some 3
  | 98 => some 4
  | 103 => some 7
  | 119 => some 0
  | 154 => some 2
  | 183 => some 6
  | _ => none
end Go.Proofs.YthnmepafpikaiaaGreat

namespace Go.Proofs.YthnmepafpikaiaaGreat
open Go Go.Proofs.YthnmepafpikaiaaGreat.Shv
set_option maxRecDepth 100000
set_option linter.all false

open Go.Proofs Go.Proofs.YthnmepafpikaiaaGreat Go.Shelf
instance : Inhabited EncodeEntry := ⟨dEncodeEntry⟩
instance : Inhabited (Un.D 6) := ⟨dEncodeEntry⟩
def sortLt (x y : EncodeEntry) : Bool := decide (x.id < y.id)
def sortF_134 (l : List EncodeEntry) : Option (List EncodeEntry) := some (pdqBy sortLt l)
section
open Go.Proofs Go.Proofs.YthnmepafpikaiaaGreat Go.Sort Go.RowKit Go.Lib
theorem sortNaN (x : Int) (w : World) : Calls Tryz.prog 162 #[.int .i64 x] w fun e w' => e = .returned (.bool false) ∧ w' = w := by
  go_enter Tryz.func162, Tryz.ntmps162
  go_wp2
  go_ret
  exact ⟨by simp, rfl⟩
set_option maxHeartbeats 1000000 in
theorem sortCmp (x y : Int) (w : World) : Calls Tryz.prog 136 #[.int .i64 x, .int .i64 y] w fun e w' => e = .returned (.int .i64 (Lib.compareInt x y)) ∧ w' = w := by
  go_enter Tryz.func136, Tryz.ntmps136
  go_wp2_with (go_at_call 162; refine (sortNaN _ _).mono ?_; rintro e w' ⟨rfl, hw⟩; rw [hw])
  all_goals (go_ret; refine ⟨?_, rfl⟩; unfold Lib.compareInt; (repeat' split) <;> first | rfl | (exfalso; omega))
def sortEnc (x : EncodeEntry) : List Value := [.int .i64 x.id, .string ⟨x.text.toArray⟩]
set_option maxHeartbeats 1000000 in
theorem sortClo (x y : Int) (s t : ByteArray) (W : World) : Calls Tryz.prog 135 #[.agg #[.int .i64 x, .string s], .agg #[.int .i64 y, .string t]] W fun e w' => e = .returned (.int .i64 (Lib.compareInt x y)) ∧ ∃ q os', w' = grow (W.drewN q) os' := by
  have hcon := fun W' => sortCmp x y W'
  generalize Lib.compareInt x y = r at hcon ⊢
  go_enter Tryz.func135, Tryz.ntmps135
  go_wp2_with (go_at_call 136; refine (hcon _).mono ?_; rintro e w' ⟨rfl, rfl⟩)
  go_ret
  exact ⟨rfl, 0, _, by rw [alloc_eq_grow, alloc_eq_grow, grow_grow]; rfl⟩
def layS_ren : Go.Shelf.Ren := ⟨fun | 6 => 134 | 15 => 161 | 14 => 160 | 28 => 187 | 29 => 188 | 20 => 179 | 21 => 180 | 22 => 181 | 23 => 182 | 24 => 183 | 25 => 184 | 26 => 185 | 27 => 186 | 46 => 192 | 47 => 193 | 48 => 194 | 49 => 195 | 50 => 196 | 57 => 197 | n => n, fun | 22 => 180 | 24 => 183 | 25 => 186 | 3 => 3 | 39 => 124 | 0 => 0 | 53 => 167 | 55 => 82 | 4 => 4 | 46 => 215 | 45 => 214 | 50 => 144 | 5 => 5 | 9 => 9 | 66 => 224 | 70 => 228 | 76 => 230 | 77 => 231 | n => n, fun | n => n⟩
theorem layS : SlLaysF0.n6 Tryz.prog layS_ren := {
  mixed := by kernel_rfl
  f6 := ⟨Tryz.f134.name, by decide, Tryz.func134.trans (congrArg some (by kernel_rfl))⟩
  f14 := ⟨Tryz.f160.name, by decide, Tryz.func160.trans (congrArg some (by kernel_rfl))⟩
  f15 := Tryz.func161.trans (congrArg some (by kernel_rfl))
  f20 := ⟨Tryz.f179.name, by decide, Tryz.func179.trans (congrArg some (by kernel_rfl))⟩
  f21 := ⟨Tryz.f180.name, by decide, Tryz.func180.trans (congrArg some (by kernel_rfl))⟩
  f22 := ⟨Tryz.f181.name, by decide, Tryz.func181.trans (congrArg some (by kernel_rfl))⟩
  f23 := ⟨Tryz.f182.name, by decide, Tryz.func182.trans (congrArg some (by kernel_rfl))⟩
  f24 := ⟨Tryz.f183.name, by decide, Tryz.func183.trans (congrArg some (by kernel_rfl))⟩
  f25 := ⟨Tryz.f184.name, by decide, Tryz.func184.trans (congrArg some (by kernel_rfl))⟩
  f26 := ⟨Tryz.f185.name, by decide, Tryz.func185.trans (congrArg some (by kernel_rfl))⟩
  f27 := ⟨Tryz.f186.name, by decide, Tryz.func186.trans (congrArg some (by kernel_rfl))⟩
  f28 := Tryz.func187.trans (congrArg some (by kernel_rfl))
  f29 := Tryz.func188.trans (congrArg some (by kernel_rfl))
  f46 := ⟨Tryz.f192.name, by decide, Tryz.func192.trans (congrArg some (by kernel_rfl))⟩
  f47 := Tryz.func193.trans (congrArg some (by kernel_rfl))
  f48 := Tryz.func194.trans (congrArg some (by kernel_rfl))
  f49 := ⟨Tryz.f195.name, by decide, Tryz.func195.trans (congrArg some (by kernel_rfl))⟩
  f50 := ⟨Tryz.f196.name, by decide, Tryz.func196.trans (congrArg some (by kernel_rfl))⟩
  f57 := ⟨Tryz.f197.name, by decide, Tryz.func197.trans (congrArg some (by kernel_rfl))⟩
  t0 := Tryz.underlying0
  a0 := Tryz.isAgg0
  z0 := Tryz.sizeOf0
  v0 := Tryz.zeroValue0
  t3 := Tryz.underlying3
  a3 := Tryz.isAgg3
  z3 := Tryz.sizeOf3
  v3 := Tryz.zeroValue3
  t4 := Tryz.underlying4
  a4 := Tryz.isAgg4
  z4 := Tryz.sizeOf4
  v4 := Tryz.zeroValue4
  t5 := Tryz.underlying5
  a5 := Tryz.isAgg5
  z5 := Tryz.sizeOf5
  v5 := Tryz.zeroValue5
  t9 := Tryz.underlying9
  a9 := Tryz.isAgg9
  z9 := Tryz.sizeOf9
  v9 := Tryz.zeroValue9
  t22 := Tryz.underlying180
  a22 := Tryz.isAgg180
  z22 := Tryz.sizeOf180
  v22 := Tryz.zeroValue180
  t25 := Tryz.underlying186
  a25 := Tryz.isAgg186
  z25 := Tryz.sizeOf186
  v25 := Tryz.zeroValue186
  t39 := Tryz.underlying124
  a39 := Tryz.isAgg124
  z39 := Tryz.sizeOf124
  v39 := Tryz.zeroValue124
  t45 := Tryz.underlying214
  a45 := Tryz.isAgg214
  z45 := Tryz.sizeOf214
  v45 := Tryz.zeroValue214
  t46 := Tryz.underlying215
  a46 := Tryz.isAgg215
  z46 := Tryz.sizeOf215
  v46 := Tryz.zeroValue215
  t50 := Tryz.underlying144
  a50 := Tryz.isAgg144
  z50 := Tryz.sizeOf144
  v50 := Tryz.zeroValue144
  t53 := Tryz.underlying167
  a53 := Tryz.isAgg167
  z53 := Tryz.sizeOf167
  v53 := Tryz.zeroValue167
  t55 := Tryz.underlying82
  a55 := Tryz.isAgg82
  z55 := Tryz.sizeOf82
  v55 := Tryz.zeroValue82
  t66 := Tryz.underlying224
  a66 := Tryz.isAgg224
  z66 := Tryz.sizeOf224
  v66 := Tryz.zeroValue224
  t70 := Tryz.underlying228
  a70 := Tryz.isAgg228
  z70 := Tryz.sizeOf228
  v70 := Tryz.zeroValue228
  t76 := Tryz.underlying230
  a76 := Tryz.isAgg230
  z76 := Tryz.sizeOf230
  v76 := Tryz.zeroValue230
  t77 := Tryz.underlying231
  a77 := Tryz.isAgg231
  z77 := Tryz.sizeOf231
  v77 := Tryz.zeroValue231 }

theorem sortLt_eq : ltOf (fun x y : EncodeEntry => Lib.compareInt x.id y.id) = sortLt := by
  funext x y
  unfold ltOf sortLt Lib.compareInt
  by_cases h1 : x.id < y.id
  · simp [h1]
  · by_cases h2 : y.id < x.id <;> simp [h1, h2]
theorem sortSWO : SWO sortLt := swo_key (fun x : EncodeEntry => x.id)
set_option maxHeartbeats 2000000 in
theorem sortNoneI (p : Option Addr) (cap : Nat) (fv : Value) (w : World) : Calls Tryz.prog 179 #[.slice p 0 cap, .int .i64 0, .int .i64 0, fv] w fun e w' => e = .returned (.tuple #[]) ∧ w' = w := by
  go_enter Tryz.func179, Tryz.ntmps179
  go_wp2
  refine wp_loop_rounds 1 ?_
  rw [rounds_succ]
  go_wp2
  go_end0
  exact ⟨rfl, rfl⟩
set_option maxHeartbeats 2000000 in
theorem sortNoneP (p : Option Addr) (cap : Nat) (lim : Int) (fv : Value) (w : World) : Calls Tryz.prog 160 #[.slice p 0 cap, .int .i64 0, .int .i64 0, .int .i64 lim, fv] w fun e w' => e = .returned (.tuple #[]) ∧ w' = w := by
  have hi := fun W => sortNoneI p cap fv W
  go_enter Tryz.func160, Tryz.ntmps160
  go_wp2
  refine wp_loop_rounds 1 ?_
  rw [rounds_succ]
  go_wp2_with (go_at_call 179; refine (hi _).mono ?_; rintro e w' ⟨rfl, rfl⟩)
  (try simp only [Exit.inBlock, Exit.then]); refine bodyPost_ret (results_none rfl _ _ _) rfl ?_
  exact ⟨rfl, rfl⟩
set_option maxHeartbeats 2000000 in
theorem sortNone (p : Option Addr) (cap : Nat) (fv : Value) (w : World) : Calls Tryz.prog 134 #[.slice p 0 cap, fv] w fun e w' => e = .returned (.tuple #[]) ∧ w' = w := by
  have hp := fun lim W => sortNoneP p cap lim fv W
  have hl : ∀ W, Calls Tryz.prog 161 #[.int .u64 0] W fun e w' => e = .returned (.int .i64 (Lib.bitLen 0 : Nat)) ∧ w' = W := fun W => by
    have h := Any.bits_Len (SlLaysF0.n15.bits (P := Tryz.prog) (ρ := layS_ren) { layS with }) 0 W (by omega) (by omega)
    exact h
  go_enter Tryz.func134, Tryz.ntmps134
  go_wp2_with (first | (go_at_call 161; refine (hl _).mono ?_; rintro e w' ⟨rfl, rfl⟩) | (go_at_call 160; refine (hp _ _).mono ?_; rintro e w' ⟨rfl, rfl⟩))
  go_end0
  exact ⟨rfl, rfl⟩
theorem sortWhole (blk off cap : Nat) (d : Array (Un.D 6)) (w : World) (hH : HoldsK sortEnc 2 w blk off d) (hblk : blk < w.heap.size) (hsz : d.size < 4611686018427387904) :
    Calls Tryz.prog 134 #[.slice (some ⟨blk, off, none⟩) d.size cap, .func (.func 135) #[] #[]] w fun e w' => e = .returned (.tuple #[]) ∧ ∃ n os, w' = sortWorldK sortEnc 2 w blk off n (pdq sortLt d 0 d.size (Lib.bitLen d.size) true true) os := by
  have eg : ∀ args w, (callFunc 135 args).run Tryz.prog w = .ok (.enter 135 args) w := enters_of Tryz.func135 (by kernel_rfl) rfl
  have h := AnyQ.slices_SortFunc_eq (α := EncodeEntry) layS 2 Tryz.isAgg183 Tryz.sizeOf183 sortEnc (fun _ => rfl) (fun x v hv => by simp [sortEnc] at hv; rcases hv with rfl | rfl <;> rfl) (fun x y => Lib.compareInt x.id y.id) (by rw [sortLt_eq]; exact sortSWO) 135 #[] blk off cap d w eg (fun _ _ _ _ x y => sortClo x.id y.id _ _ _) hH hblk hsz
  rw [sortLt_eq] at h
  exact h
theorem F134_b : hasBody Tryz.prog 134 = true := by kernel_rfl
def SortFunc_134_s : FSpec Un := sortS Un 134 6 135 (pdqBy (α := Un.D 6) sortLt)
theorem SortFunc_134_snd : FSnd Tryz.prog SortFunc_134_s := sort_snd (U := Un) (n := 6) sortEnc sortLt sortSWO (fun _ => rfl) (fun w S x j t v h hr => pair_cells w S x.id x.text j t v h hr) sortWhole sortNone
end

def lay240_ren : Go.Shelf.Ren := ⟨fun | 240 => 117 | 276 => 145 | n => n, fun | 0 => 0 | 4 => 4 | 9 => 9 | 20 => 20 | 37 => 45 | 70 => 128 | 72 => 130 | 164 => 194 | n => n, fun n => n⟩
theorem lay240 : Lays.n240 Tryz.prog lay240_ren := {
  mixed := by kernel_rfl
  f240 := Tryz.func117.trans (congrArg some (by kernel_rfl))
  f276 := Tryz.func145.trans (congrArg some (by kernel_rfl))
  t0 := Tryz.underlying0
  a0 := Tryz.isAgg0
  z0 := Tryz.sizeOf0
  v0 := Tryz.zeroValue0
  t4 := Tryz.underlying4
  a4 := Tryz.isAgg4
  z4 := Tryz.sizeOf4
  v4 := Tryz.zeroValue4
  t9 := Tryz.underlying9
  a9 := Tryz.isAgg9
  z9 := Tryz.sizeOf9
  v9 := Tryz.zeroValue9
  t20 := Tryz.underlying20
  a20 := Tryz.isAgg20
  z20 := Tryz.sizeOf20
  v20 := Tryz.zeroValue20
  t70 := Tryz.underlying128
  a70 := Tryz.isAgg128
  z70 := Tryz.sizeOf128
  v70 := Tryz.zeroValue128
  t72 := Tryz.underlying130
  a72 := Tryz.isAgg130
  z72 := Tryz.sizeOf130
  v72 := Tryz.zeroValue130
  t164 := Tryz.underlying194
  a164 := Tryz.isAgg194
  z164 := Tryz.sizeOf194
  v164 := Tryz.zeroValue194 }
theorem layX72 : Builder.X72 Tryz.prog lay240_ren := {
  sizeBuilder := by kernel_rfl
  liesBuilder := by kernel_rfl }
theorem F117_b : hasBody Tryz.prog 117 = true := by kernel_rfl
def copyCheck_117_s : FSpec Un := checkS Un 117 130 5
theorem copyCheck_117_snd : FSnd Tryz.prog copyCheck_117_s := check_snd lay240 layX72 rfl rfl
end Go.Proofs.YthnmepafpikaiaaGreat

namespace Go.Proofs.YthnmepafpikaiaaGreat
open Go Go.Proofs.YthnmepafpikaiaaGreat.Shv
set_option maxRecDepth 100000
set_option linter.all false

def sheavelaw09_example (_ : Unit) : Option (SSchema) :=
  some (⟨[(⟨2, [], (-10), 10, 0, [], [], 0, 0, false⟩ : SType), (⟨2, [], 0, 5, 0, [], [], 0, 0, false⟩ : SType), (⟨3, [], 0, 0, 8, [], [], 0, 0, false⟩ : SType), (⟨5, [80, 111, 105, 110, 116], 0, 0, 0, [], [(⟨1, [120], 0, false, false, (⟨0, false, 0, [], 0, [], [], []⟩ : SValue)⟩ : SMember), (⟨2, [121], 1, false, true, (⟨2, false, 3, [], 0, [], [], []⟩ : SValue)⟩ : SMember), (⟨3, [116, 97, 103], 2, true, false, (⟨0, false, 0, [], 0, [], [], []⟩ : SValue)⟩ : SMember)], 0, 0, false⟩ : SType)]⟩ : SSchema)
theorem F38_b : hasBody Tryz.prog 38 = true := by kernel_rfl
theorem F38_ok : Tryz.f38.body.bind (Go.Proofs.YthnmepafpikaiaaGreat.Shv.resolve Tryz.prog Tryz.f38.ntmps) = some (codeOf Tryz.prog Tryz.f38) := by kernel_rfl
theorem F38_res : resolveRes Tryz.prog Tryz.f38.results.toList = some [.cell 0 true 1] := by kernel_rfl
def sheavelaw09_example_p (F : Hs Un.D [] → Option (Hs Un.D [.nm 5])) : FSpec Un := ⟨38, [], [], [], .row 5, [], [.nm 5], F⟩
def sheavelaw09_example_s : FSpec Un := sheavelaw09_example_p sheavelaw09_example
theorem sheavelaw09_example_snd : FSnd Tryz.prog sheavelaw09_example_s := FSnd.of fun h r hr => FAt.of_body (s := sheavelaw09_example_s) (fo := foS []) (lo := loL []) Tryz.func38 F38_ok F38_res (by kernel_rfl) FoSnd.nil (LoOk.snd LoOk.nil) (Eq.trans (by kernel_rfl) hr)
def sheavelaw09_point (x_ : Int × Int) : Option (SValue) :=
  match x_ with
  | (x0, y) =>
  some (⟨5, false, 0, [], 0, [], [(⟨2, false, x0, [], 0, [], [], []⟩ : SValue), (⟨2, false, y, [], 0, [], [], []⟩ : SValue), (⟨3, false, 0, [97, 98], 0, [], [], []⟩ : SValue)], []⟩ : SValue)
theorem F39_b : hasBody Tryz.prog 39 = true := by kernel_rfl
theorem F39_ok : Tryz.f39.body.bind (Go.Proofs.YthnmepafpikaiaaGreat.Shv.resolve Tryz.prog Tryz.f39.ntmps) = some (codeOf Tryz.prog Tryz.f39) := by kernel_rfl
theorem F39_res : resolveRes Tryz.prog Tryz.f39.results.toList = some [.cell 4 true 8] := by kernel_rfl
def sheavelaw09_point_p (F : Hs Un.D [.int .i64, .int .i64] → Option (Hs Un.D [.nm 1])) : FSpec Un := ⟨39, [.c (.hole (.int .i64)), .c (.hole (.int .i64))], [], [.int .i64, .int .i64], .row 1, [], [.nm 1], F⟩
def sheavelaw09_point_s : FSpec Un := sheavelaw09_point_p sheavelaw09_point
theorem sheavelaw09_point_snd : FSnd Tryz.prog sheavelaw09_point_s := FSnd.of fun h r hr => FAt.of_body (s := sheavelaw09_point_s) (fo := foS []) (lo := loL []) Tryz.func39 F39_ok F39_res (by kernel_rfl) FoSnd.nil (LoOk.snd LoOk.nil) (Eq.trans (by kernel_rfl) hr)
def slices_Equalapi_Symbol_api_Symbol_l0 (x_ : List SSymbol × List SSymbol × Int × Int) : Option ((Bool) ⊕ (Unit)) :=
  match x_ with
  | (s1_1, s2_1, t12_1, t13) =>
  if decide (t13 < t12_1) = true then
    if inR t13 s1_1.length = true then
      some (s1_1.getD t13.toNat dSSymbol) >>= fun x0 =>
      if inR t13 s2_1.length = true then
        some (s2_1.getD t13.toNat dSSymbol) >>= fun x0_1 =>
        if (!(eqI x0.ID x0_1.ID && (eqS x0.Name x0_1.Name && true))) = true then
          some (.inl false)
        else
          slices_Equalapi_Symbol_api_Symbol_l0 (s1_1, s2_1, t12_1, addI .i64 t13 1)
      else none
    else none
  else
    some (.inr ())
  partial_fixpoint
theorem F167_b : hasBody Tryz.prog 167 = true := by kernel_rfl
theorem F167_ok : Tryz.f167.body.bind (Go.Proofs.YthnmepafpikaiaaGreat.Shv.resolve Tryz.prog Tryz.f167.ntmps) = some (codeOf Tryz.prog Tryz.f167) := by kernel_rfl
theorem F167_res : resolveRes Tryz.prog Tryz.f167.results.toList = some [.tmp 4] := by kernel_rfl
def slices_Equalapi_Symbol_api_Symbol_l0_sh : Shape := ⟨[(0, .c (.hole (.slice (.nm 4)))), (1, .c (.hole (.slice (.nm 4)))), (12, .c (.hole (.int .i64))), (13, .c (.hole (.int .i64)))], []⟩
def slices_Equalapi_Symbol_api_Symbol_l0_ts : List Ty := [.slice (.nm 4), .slice (.nm 4), .int .i64, .int .i64]
def slices_Equalapi_Symbol_api_Symbol_l0_outs : List OSpec := [⟨.ret, ⟨[(4, .c (.hole .bool))], []⟩, [], [.bool]⟩, ⟨.exit 0, ⟨[], []⟩, [], []⟩]
def slices_Equalapi_Symbol_api_Symbol_l0_p (F : Hs Un.D slices_Equalapi_Symbol_api_Symbol_l0_ts → Option (OSum Un slices_Equalapi_Symbol_api_Symbol_l0_outs)) : LSpec Un := ⟨slices_Equalapi_Symbol_api_Symbol_l0_sh, [], slices_Equalapi_Symbol_api_Symbol_l0_ts, slices_Equalapi_Symbol_api_Symbol_l0_outs, F⟩
def slices_Equalapi_Symbol_api_Symbol_l0_s : LSpec Un := slices_Equalapi_Symbol_api_Symbol_l0_p slices_Equalapi_Symbol_api_Symbol_l0
theorem slices_Equalapi_Symbol_api_Symbol_l0_snd : LSnd Tryz.prog Tryz.f167.ntmps 0 (loopOf (codeOf Tryz.prog Tryz.f167) 0) slices_Equalapi_Symbol_api_Symbol_l0_s := fun h o ho => slices_Equalapi_Symbol_api_Symbol_l0.partial_correctness (fun h o => LAt (U := Un) Tryz.prog Tryz.f167.ntmps 0 (loopOf (codeOf Tryz.prog Tryz.f167) 0) slices_Equalapi_Symbol_api_Symbol_l0_sh slices_Equalapi_Symbol_api_Symbol_l0_ts slices_Equalapi_Symbol_api_Symbol_l0_outs h o) (fun F1 HF1 h o ho => LAt.of_round (fo := foS []) (lo := loL []) (own := []) (F' := F1) FoSnd.nil (LoOk.snd LoOk.nil) HF1 (Eq.trans (by kernel_rfl) ho)) h o ho
def slices_Equalapi_Symbol_api_Symbol (x_ : List SSymbol × List SSymbol) : Option (Bool) :=
  match x_ with
  | (s1, s2) =>
  if (!(decide ((s1.length : Int) = (s2.length : Int)))) = true then
    some false
  else
    slices_Equalapi_Symbol_api_Symbol_l0 (s1, s2, (s1.length : Int), 0) >>= fun o =>
    match o with
    | .inl o_1 =>
      some o_1
    | .inr o_2 =>
      some true
def slices_Equalapi_Symbol_api_Symbol_p (F : Hs Un.D [.slice (.nm 4), .slice (.nm 4)] → Option (Hs Un.D [.bool])) : FSpec Un := ⟨167, [.c (.hole (.slice (.nm 4))), .c (.hole (.slice (.nm 4)))], [], [.slice (.nm 4), .slice (.nm 4)], .c (.hole .bool), [], [.bool], F⟩
def slices_Equalapi_Symbol_api_Symbol_s : FSpec Un := slices_Equalapi_Symbol_api_Symbol_p slices_Equalapi_Symbol_api_Symbol
theorem slices_Equalapi_Symbol_api_Symbol_snd : FSnd Tryz.prog slices_Equalapi_Symbol_api_Symbol_s := FSnd.of fun h r hr => FAt.of_body (s := slices_Equalapi_Symbol_api_Symbol_s) (fo := foS []) (lo := loL [(0, slices_Equalapi_Symbol_api_Symbol_l0_s)]) Tryz.func167 F167_ok F167_res (by kernel_rfl) FoSnd.nil (LoOk.snd (LoOk.cons slices_Equalapi_Symbol_api_Symbol_l0_snd LoOk.nil)) (Eq.trans (by kernel_rfl) hr)
def slices_Equalapi_Raw_api_Raw_l0 (x_ : List SRaw × List SRaw × Int × Int) : Option ((Bool) ⊕ (Unit)) :=
  match x_ with
  | (s1_1, s2_1, t12_1, t13) =>
  if decide (t13 < t12_1) = true then
    if inR t13 s1_1.length = true then
      some (s1_1.getD t13.toNat dSRaw) >>= fun x0 =>
      if inR t13 s2_1.length = true then
        some (s2_1.getD t13.toNat dSRaw) >>= fun x0_1 =>
        if (!(eqI x0.ID x0_1.ID && (eqS x0.Data x0_1.Data && true))) = true then
          some (.inl false)
        else
          slices_Equalapi_Raw_api_Raw_l0 (s1_1, s2_1, t12_1, addI .i64 t13 1)
      else none
    else none
  else
    some (.inr ())
  partial_fixpoint
theorem F177_b : hasBody Tryz.prog 177 = true := by kernel_rfl
theorem F177_ok : Tryz.f177.body.bind (Go.Proofs.YthnmepafpikaiaaGreat.Shv.resolve Tryz.prog Tryz.f177.ntmps) = some (codeOf Tryz.prog Tryz.f177) := by kernel_rfl
theorem F177_res : resolveRes Tryz.prog Tryz.f177.results.toList = some [.tmp 4] := by kernel_rfl
def slices_Equalapi_Raw_api_Raw_l0_sh : Shape := ⟨[(0, .c (.hole (.slice (.nm 2)))), (1, .c (.hole (.slice (.nm 2)))), (12, .c (.hole (.int .i64))), (13, .c (.hole (.int .i64)))], []⟩
def slices_Equalapi_Raw_api_Raw_l0_ts : List Ty := [.slice (.nm 2), .slice (.nm 2), .int .i64, .int .i64]
def slices_Equalapi_Raw_api_Raw_l0_outs : List OSpec := [⟨.ret, ⟨[(4, .c (.hole .bool))], []⟩, [], [.bool]⟩, ⟨.exit 0, ⟨[], []⟩, [], []⟩]
def slices_Equalapi_Raw_api_Raw_l0_p (F : Hs Un.D slices_Equalapi_Raw_api_Raw_l0_ts → Option (OSum Un slices_Equalapi_Raw_api_Raw_l0_outs)) : LSpec Un := ⟨slices_Equalapi_Raw_api_Raw_l0_sh, [], slices_Equalapi_Raw_api_Raw_l0_ts, slices_Equalapi_Raw_api_Raw_l0_outs, F⟩
def slices_Equalapi_Raw_api_Raw_l0_s : LSpec Un := slices_Equalapi_Raw_api_Raw_l0_p slices_Equalapi_Raw_api_Raw_l0
theorem slices_Equalapi_Raw_api_Raw_l0_snd : LSnd Tryz.prog Tryz.f177.ntmps 0 (loopOf (codeOf Tryz.prog Tryz.f177) 0) slices_Equalapi_Raw_api_Raw_l0_s := fun h o ho => slices_Equalapi_Raw_api_Raw_l0.partial_correctness (fun h o => LAt (U := Un) Tryz.prog Tryz.f177.ntmps 0 (loopOf (codeOf Tryz.prog Tryz.f177) 0) slices_Equalapi_Raw_api_Raw_l0_sh slices_Equalapi_Raw_api_Raw_l0_ts slices_Equalapi_Raw_api_Raw_l0_outs h o) (fun F1 HF1 h o ho => LAt.of_round (fo := foS []) (lo := loL []) (own := []) (F' := F1) FoSnd.nil (LoOk.snd LoOk.nil) HF1 (Eq.trans (by kernel_rfl) ho)) h o ho
def slices_Equalapi_Raw_api_Raw (x_ : List SRaw × List SRaw) : Option (Bool) :=
  match x_ with
  | (s1, s2) =>
  if (!(decide ((s1.length : Int) = (s2.length : Int)))) = true then
    some false
  else
    slices_Equalapi_Raw_api_Raw_l0 (s1, s2, (s1.length : Int), 0) >>= fun o =>
    match o with
    | .inl o_1 =>
      some o_1
    | .inr o_2 =>
      some true
def slices_Equalapi_Raw_api_Raw_p (F : Hs Un.D [.slice (.nm 2), .slice (.nm 2)] → Option (Hs Un.D [.bool])) : FSpec Un := ⟨177, [.c (.hole (.slice (.nm 2))), .c (.hole (.slice (.nm 2)))], [], [.slice (.nm 2), .slice (.nm 2)], .c (.hole .bool), [], [.bool], F⟩
def slices_Equalapi_Raw_api_Raw_s : FSpec Un := slices_Equalapi_Raw_api_Raw_p slices_Equalapi_Raw_api_Raw
theorem slices_Equalapi_Raw_api_Raw_snd : FSnd Tryz.prog slices_Equalapi_Raw_api_Raw_s := FSnd.of fun h r hr => FAt.of_body (s := slices_Equalapi_Raw_api_Raw_s) (fo := foS []) (lo := loL [(0, slices_Equalapi_Raw_api_Raw_l0_s)]) Tryz.func177 F177_ok F177_res (by kernel_rfl) FoSnd.nil (LoOk.snd (LoOk.cons slices_Equalapi_Raw_api_Raw_l0_snd LoOk.nil)) (Eq.trans (by kernel_rfl) hr)
mutual
def schema_same (x_ : SValue × SValue) : Option (Bool) :=
  match x_ with
  | (a, b) =>
  some (bif bif bif bif decide (a.Kind = b.Kind) then eqB a.Bool_ b.Bool_ else false then decide (a.Int_ = b.Int_) else false then decide (a.Str = b.Str) else false then decide (a.ID = b.ID) else false) >>= fun t37 =>
  (if t37 = true then slices_Equalapi_Raw_api_Raw (a.Rest, b.Rest) else some false) >>= fun r =>
  some (bif t37 then r else false) >>= fun t44 =>
  (if t44 = true then slices_EqualFuncapi_Value_api_Value_api_Value_api_Value (a.Keys, b.Keys) else some false) >>= fun r_1 =>
  some (bif t44 then r_1 else false) >>= fun t51 =>
  (if t51 = true then slices_EqualFuncapi_Value_api_Value_api_Value_api_Value (a.Items, b.Items) else some false) >>= fun r_2 =>
  some (bif t51 then r_2 else false)
  partial_fixpoint
def slices_EqualFuncapi_Value_api_Value_api_Value_api_Value (x_ : List SValue × List SValue) : Option (Bool) :=
  match x_ with
  | (s1, s2) =>
  if (!(decide ((s1.length : Int) = (s2.length : Int)))) = true then
    some false
  else
    slices_EqualFuncapi_Value_api_Value_api_Value_api_Value_l0 (s2, s1, (s1.length : Int), 0) >>= fun o =>
    match o with
    | .inl o_1 =>
      some o_1
    | .inr o_2 =>
      some true
  partial_fixpoint
def slices_EqualFuncapi_Value_api_Value_api_Value_api_Value_l0 (x_ : List SValue × List SValue × Int × Int) : Option ((Bool) ⊕ (Unit)) :=
  match x_ with
  | (s2_1, t15, t16_1, t17) =>
  if decide (t17 < t16_1) = true then
    if inR t17 t15.length = true then
      if inR t17 s2_1.length = true then
        schema_same (SValue.eta (t15.getD t17.toNat dSValue), SValue.eta (s2_1.getD t17.toNat dSValue)) >>= fun r =>
        if (!r) = true then
          some (.inl false)
        else
          slices_EqualFuncapi_Value_api_Value_api_Value_api_Value_l0 (s2_1, t15, t16_1, addI .i64 t17 1)
      else none
    else none
  else
    some (.inr ())
  partial_fixpoint
end
theorem F170_b : hasBody Tryz.prog 170 = true := by kernel_rfl
theorem F170_ok : Tryz.f170.body.bind (Go.Proofs.YthnmepafpikaiaaGreat.Shv.resolve Tryz.prog Tryz.f170.ntmps) = some (codeOf Tryz.prog Tryz.f170) := by kernel_rfl
theorem F170_res : resolveRes Tryz.prog Tryz.f170.results.toList = some [.tmp 4] := by kernel_rfl
def schema_same_p (F : Hs Un.D [.nm 1, .nm 1] → Option (Hs Un.D [.bool])) : FSpec Un := ⟨170, [.row 1, .row 1], [], [.nm 1, .nm 1], .c (.hole .bool), [], [.bool], F⟩
def schema_same_s : FSpec Un := schema_same_p schema_same
theorem F178_b : hasBody Tryz.prog 178 = true := by kernel_rfl
theorem F178_ok : Tryz.f178.body.bind (Go.Proofs.YthnmepafpikaiaaGreat.Shv.resolve Tryz.prog Tryz.f178.ntmps) = some (codeOf Tryz.prog Tryz.f178) := by kernel_rfl
theorem F178_res : resolveRes Tryz.prog Tryz.f178.results.toList = some [.tmp 6] := by kernel_rfl
def slices_EqualFuncapi_Value_api_Value_api_Value_api_Value_p (F : Hs Un.D [.slice (.nm 1), .slice (.nm 1)] → Option (Hs Un.D [.bool])) : FSpec Un := ⟨178, [.c (.hole (.slice (.nm 1))), .c (.hole (.slice (.nm 1))), .c (.fn 170 [])], [], [.slice (.nm 1), .slice (.nm 1)], .c (.hole .bool), [], [.bool], F⟩
def slices_EqualFuncapi_Value_api_Value_api_Value_api_Value_s : FSpec Un := slices_EqualFuncapi_Value_api_Value_api_Value_api_Value_p slices_EqualFuncapi_Value_api_Value_api_Value_api_Value
def slices_EqualFuncapi_Value_api_Value_api_Value_api_Value_l0_sh : Shape := ⟨[(1, .c (.hole (.slice (.nm 1)))), (2, .c (.fn 170 [])), (15, .c (.hole (.slice (.nm 1)))), (16, .c (.hole (.int .i64))), (17, .c (.hole (.int .i64)))], []⟩
def slices_EqualFuncapi_Value_api_Value_api_Value_api_Value_l0_ts : List Ty := [.slice (.nm 1), .slice (.nm 1), .int .i64, .int .i64]
def slices_EqualFuncapi_Value_api_Value_api_Value_api_Value_l0_outs : List OSpec := [⟨.ret, ⟨[(6, .c (.hole .bool))], []⟩, [], [.bool]⟩, ⟨.exit 0, ⟨[], []⟩, [], []⟩]
def slices_EqualFuncapi_Value_api_Value_api_Value_api_Value_l0_p (F : Hs Un.D slices_EqualFuncapi_Value_api_Value_api_Value_api_Value_l0_ts → Option (OSum Un slices_EqualFuncapi_Value_api_Value_api_Value_api_Value_l0_outs)) : LSpec Un := ⟨slices_EqualFuncapi_Value_api_Value_api_Value_api_Value_l0_sh, [], slices_EqualFuncapi_Value_api_Value_api_Value_api_Value_l0_ts, slices_EqualFuncapi_Value_api_Value_api_Value_api_Value_l0_outs, F⟩
def slices_EqualFuncapi_Value_api_Value_api_Value_api_Value_l0_s : LSpec Un := slices_EqualFuncapi_Value_api_Value_api_Value_api_Value_l0_p slices_EqualFuncapi_Value_api_Value_api_Value_api_Value_l0
theorem schema_same_all : (FSnd Tryz.prog schema_same_s) ∧ (FSnd Tryz.prog slices_EqualFuncapi_Value_api_Value_api_Value_api_Value_s) ∧ (LSnd Tryz.prog Tryz.f178.ntmps 0 (loopOf (codeOf Tryz.prog Tryz.f178) 0) slices_EqualFuncapi_Value_api_Value_api_Value_api_Value_l0_s) := schema_same.mutual_partial_correctness (fun h r => FAt Tryz.prog schema_same_s h r) (fun h r => FAt Tryz.prog slices_EqualFuncapi_Value_api_Value_api_Value_api_Value_s h r) (fun h o => LAt (U := Un) Tryz.prog Tryz.f178.ntmps 0 (loopOf (codeOf Tryz.prog Tryz.f178) 0) slices_EqualFuncapi_Value_api_Value_api_Value_api_Value_l0_sh slices_EqualFuncapi_Value_api_Value_api_Value_api_Value_l0_ts slices_EqualFuncapi_Value_api_Value_api_Value_api_Value_l0_outs h o)
  (fun F2 HF2 h o ho => FAt.of_body (s := schema_same_s) (fo := foS [slices_Equalapi_Raw_api_Raw_s, slices_EqualFuncapi_Value_api_Value_api_Value_api_Value_p F2]) (lo := loL []) Tryz.func170 F170_ok F170_res (by kernel_rfl) (FoSnd.cons F177_b slices_Equalapi_Raw_api_Raw_snd (FoSnd.cons F178_b HF2 FoSnd.nil)) (LoOk.snd LoOk.nil) (Eq.trans (by kernel_rfl) ho))
  (fun F3 HF3 h o ho => FAt.of_body (s := slices_EqualFuncapi_Value_api_Value_api_Value_api_Value_s) (fo := foS []) (lo := loL [(0, slices_EqualFuncapi_Value_api_Value_api_Value_api_Value_l0_p F3)]) Tryz.func178 F178_ok F178_res (by kernel_rfl) FoSnd.nil (LoOk.snd (LoOk.cons HF3 LoOk.nil)) (Eq.trans (by kernel_rfl) ho))
  (fun F1 F3 HF1 HF3 h o ho => LAt.of_round (fo := foS [schema_same_p F1]) (lo := loL []) (own := []) (F' := F3) (FoSnd.cons F170_b HF1 FoSnd.nil) (LoOk.snd LoOk.nil) HF3 (Eq.trans (by kernel_rfl) ho))
theorem schema_same_snd : FSnd Tryz.prog schema_same_s := schema_same_all.1
theorem slices_EqualFuncapi_Value_api_Value_api_Value_api_Value_snd : FSnd Tryz.prog slices_EqualFuncapi_Value_api_Value_api_Value_api_Value_s := schema_same_all.2.1
theorem slices_EqualFuncapi_Value_api_Value_api_Value_api_Value_l0_snd : LSnd Tryz.prog Tryz.f178.ntmps 0 (loopOf (codeOf Tryz.prog Tryz.f178) 0) slices_EqualFuncapi_Value_api_Value_api_Value_api_Value_l0_s := schema_same_all.2.2
def schema_equal_1 (x_ : SMember × SMember) : Option (Bool) :=
  match x_ with
  | (x0, y) =>
  some (bif bif bif bif decide (x0.ID = y.ID) then decide (x0.Name = y.Name) else false then decide (x0.Type_ = y.Type_) else false then eqB x0.Critical y.Critical else false then eqB x0.HasDefault y.HasDefault else false) >>= fun t37 =>
  (if t37 = true then schema_same ((⟨x0.Default.Kind, x0.Default.Bool_, x0.Default.Int_, x0.Default.Str, x0.Default.ID, x0.Default.Keys, x0.Default.Items, x0.Default.Rest⟩ : SValue), SValue.eta y.Default) else some false) >>= fun r =>
  some (bif t37 then r else false)
theorem F169_b : hasBody Tryz.prog 169 = true := by kernel_rfl
theorem F169_ok : Tryz.f169.body.bind (Go.Proofs.YthnmepafpikaiaaGreat.Shv.resolve Tryz.prog Tryz.f169.ntmps) = some (codeOf Tryz.prog Tryz.f169) := by kernel_rfl
theorem F169_res : resolveRes Tryz.prog Tryz.f169.results.toList = some [.tmp 4] := by kernel_rfl
def schema_equal_1_p (F : Hs Un.D [.nm 0, .nm 0] → Option (Hs Un.D [.bool])) : FSpec Un := ⟨169, [.row 0, .row 0], [], [.nm 0, .nm 0], .c (.hole .bool), [], [.bool], F⟩
def schema_equal_1_s : FSpec Un := schema_equal_1_p schema_equal_1
theorem schema_equal_1_snd : FSnd Tryz.prog schema_equal_1_s := FSnd.of fun h r hr => FAt.of_body (s := schema_equal_1_s) (fo := foS [schema_same_s]) (lo := loL []) Tryz.func169 F169_ok F169_res (by kernel_rfl) (FoSnd.cons F170_b schema_same_snd FoSnd.nil) (LoOk.snd LoOk.nil) (Eq.trans (by kernel_rfl) hr)
def slices_EqualFuncapi_Member_api_Member_api_Member_api_Member_l0 (x_ : List SMember × List SMember × Int × Int) : Option ((Bool) ⊕ (Unit)) :=
  match x_ with
  | (s2_1, t15, t16_1, t17) =>
  if decide (t17 < t16_1) = true then
    if inR t17 t15.length = true then
      some (t15.getD t17.toNat dSMember) >>= fun x0 =>
      if inR t17 s2_1.length = true then
        some (s2_1.getD t17.toNat dSMember) >>= fun x0_1 =>
        schema_equal_1 ((⟨x0.ID, x0.Name, x0.Type_, x0.Critical, x0.HasDefault, SValue.eta x0.Default⟩ : SMember), (⟨x0_1.ID, x0_1.Name, x0_1.Type_, x0_1.Critical, x0_1.HasDefault, SValue.eta x0_1.Default⟩ : SMember)) >>= fun r =>
        if (!r) = true then
          some (.inl false)
        else
          slices_EqualFuncapi_Member_api_Member_api_Member_api_Member_l0 (s2_1, t15, t16_1, addI .i64 t17 1)
      else none
    else none
  else
    some (.inr ())
  partial_fixpoint
theorem F168_b : hasBody Tryz.prog 168 = true := by kernel_rfl
theorem F168_ok : Tryz.f168.body.bind (Go.Proofs.YthnmepafpikaiaaGreat.Shv.resolve Tryz.prog Tryz.f168.ntmps) = some (codeOf Tryz.prog Tryz.f168) := by kernel_rfl
theorem F168_res : resolveRes Tryz.prog Tryz.f168.results.toList = some [.tmp 6] := by kernel_rfl
def slices_EqualFuncapi_Member_api_Member_api_Member_api_Member_l0_sh : Shape := ⟨[(1, .c (.hole (.slice (.nm 0)))), (2, .c (.fn 169 [])), (15, .c (.hole (.slice (.nm 0)))), (16, .c (.hole (.int .i64))), (17, .c (.hole (.int .i64)))], []⟩
def slices_EqualFuncapi_Member_api_Member_api_Member_api_Member_l0_ts : List Ty := [.slice (.nm 0), .slice (.nm 0), .int .i64, .int .i64]
def slices_EqualFuncapi_Member_api_Member_api_Member_api_Member_l0_outs : List OSpec := [⟨.ret, ⟨[(6, .c (.hole .bool))], []⟩, [], [.bool]⟩, ⟨.exit 0, ⟨[], []⟩, [], []⟩]
def slices_EqualFuncapi_Member_api_Member_api_Member_api_Member_l0_p (F : Hs Un.D slices_EqualFuncapi_Member_api_Member_api_Member_api_Member_l0_ts → Option (OSum Un slices_EqualFuncapi_Member_api_Member_api_Member_api_Member_l0_outs)) : LSpec Un := ⟨slices_EqualFuncapi_Member_api_Member_api_Member_api_Member_l0_sh, [], slices_EqualFuncapi_Member_api_Member_api_Member_api_Member_l0_ts, slices_EqualFuncapi_Member_api_Member_api_Member_api_Member_l0_outs, F⟩
def slices_EqualFuncapi_Member_api_Member_api_Member_api_Member_l0_s : LSpec Un := slices_EqualFuncapi_Member_api_Member_api_Member_api_Member_l0_p slices_EqualFuncapi_Member_api_Member_api_Member_api_Member_l0
theorem slices_EqualFuncapi_Member_api_Member_api_Member_api_Member_l0_snd : LSnd Tryz.prog Tryz.f168.ntmps 0 (loopOf (codeOf Tryz.prog Tryz.f168) 0) slices_EqualFuncapi_Member_api_Member_api_Member_api_Member_l0_s := fun h o ho => slices_EqualFuncapi_Member_api_Member_api_Member_api_Member_l0.partial_correctness (fun h o => LAt (U := Un) Tryz.prog Tryz.f168.ntmps 0 (loopOf (codeOf Tryz.prog Tryz.f168) 0) slices_EqualFuncapi_Member_api_Member_api_Member_api_Member_l0_sh slices_EqualFuncapi_Member_api_Member_api_Member_api_Member_l0_ts slices_EqualFuncapi_Member_api_Member_api_Member_api_Member_l0_outs h o) (fun F1 HF1 h o ho => LAt.of_round (fo := foS [schema_equal_1_s]) (lo := loL []) (own := []) (F' := F1) (FoSnd.cons F169_b schema_equal_1_snd FoSnd.nil) (LoOk.snd LoOk.nil) HF1 (Eq.trans (by kernel_rfl) ho)) h o ho
def slices_EqualFuncapi_Member_api_Member_api_Member_api_Member (x_ : List SMember × List SMember) : Option (Bool) :=
  match x_ with
  | (s1, s2) =>
  if (!(decide ((s1.length : Int) = (s2.length : Int)))) = true then
    some false
  else
    slices_EqualFuncapi_Member_api_Member_api_Member_api_Member_l0 (s2, s1, (s1.length : Int), 0) >>= fun o =>
    match o with
    | .inl o_1 =>
      some o_1
    | .inr o_2 =>
      some true
def slices_EqualFuncapi_Member_api_Member_api_Member_api_Member_p (F : Hs Un.D [.slice (.nm 0), .slice (.nm 0)] → Option (Hs Un.D [.bool])) : FSpec Un := ⟨168, [.c (.hole (.slice (.nm 0))), .c (.hole (.slice (.nm 0))), .c (.fn 169 [])], [], [.slice (.nm 0), .slice (.nm 0)], .c (.hole .bool), [], [.bool], F⟩
def slices_EqualFuncapi_Member_api_Member_api_Member_api_Member_s : FSpec Un := slices_EqualFuncapi_Member_api_Member_api_Member_api_Member_p slices_EqualFuncapi_Member_api_Member_api_Member_api_Member
theorem slices_EqualFuncapi_Member_api_Member_api_Member_api_Member_snd : FSnd Tryz.prog slices_EqualFuncapi_Member_api_Member_api_Member_api_Member_s := FSnd.of fun h r hr => FAt.of_body (s := slices_EqualFuncapi_Member_api_Member_api_Member_api_Member_s) (fo := foS []) (lo := loL [(0, slices_EqualFuncapi_Member_api_Member_api_Member_api_Member_l0_s)]) Tryz.func168 F168_ok F168_res (by kernel_rfl) FoSnd.nil (LoOk.snd (LoOk.cons slices_EqualFuncapi_Member_api_Member_api_Member_api_Member_l0_snd LoOk.nil)) (Eq.trans (by kernel_rfl) hr)
def schema_equal (x_ : SType × SType) : Option (Bool) :=
  match x_ with
  | (a, b) =>
  some (bif bif bif bif bif bif bif decide (a.Kind = b.Kind) then decide (a.Name = b.Name) else false then decide (a.Low = b.Low) else false then decide (a.High = b.High) else false then decide (a.Max = b.Max) else false then decide (a.Key = b.Key) else false then decide (a.Elem = b.Elem) else false then eqB a.Open b.Open else false) >>= fun t58 =>
  (if t58 = true then slices_Equalapi_Symbol_api_Symbol (a.Symbols, b.Symbols) else some false) >>= fun r =>
  some (bif t58 then r else false) >>= fun t65 =>
  (if t65 = true then slices_EqualFuncapi_Member_api_Member_api_Member_api_Member (a.Members, b.Members) else some false) >>= fun r_1 =>
  some (bif t65 then r_1 else false)
theorem F150_b : hasBody Tryz.prog 150 = true := by kernel_rfl
theorem F150_ok : Tryz.f150.body.bind (Go.Proofs.YthnmepafpikaiaaGreat.Shv.resolve Tryz.prog Tryz.f150.ntmps) = some (codeOf Tryz.prog Tryz.f150) := by kernel_rfl
theorem F150_res : resolveRes Tryz.prog Tryz.f150.results.toList = some [.tmp 4] := by kernel_rfl
def schema_equal_p (F : Hs Un.D [.nm 3, .nm 3] → Option (Hs Un.D [.bool])) : FSpec Un := ⟨150, [.row 3, .row 3], [], [.nm 3, .nm 3], .c (.hole .bool), [], [.bool], F⟩
def schema_equal_s : FSpec Un := schema_equal_p schema_equal
theorem schema_equal_snd : FSnd Tryz.prog schema_equal_s := FSnd.of fun h r hr => FAt.of_body (s := schema_equal_s) (fo := foS [slices_Equalapi_Symbol_api_Symbol_s, slices_EqualFuncapi_Member_api_Member_api_Member_api_Member_s]) (lo := loL []) Tryz.func150 F150_ok F150_res (by kernel_rfl) (FoSnd.cons F167_b slices_Equalapi_Symbol_api_Symbol_snd (FoSnd.cons F168_b slices_EqualFuncapi_Member_api_Member_api_Member_api_Member_snd FoSnd.nil)) (LoOk.snd LoOk.nil) (Eq.trans (by kernel_rfl) hr)
def lexer_isLetter (c : Int) : Option (Bool) :=
  some (bif bif decide (c = 95) then true else bif decide (97 ≤ c) then decide (c ≤ 122) else false then true else bif decide (65 ≤ c) then decide (c ≤ 90) else false)
theorem F163_b : hasBody Tryz.prog 163 = true := by kernel_rfl
theorem F163_ok : Tryz.f163.body.bind (Go.Proofs.YthnmepafpikaiaaGreat.Shv.resolve Tryz.prog Tryz.f163.ntmps) = some (codeOf Tryz.prog Tryz.f163) := by kernel_rfl
theorem F163_res : resolveRes Tryz.prog Tryz.f163.results.toList = some [.tmp 2] := by kernel_rfl
def lexer_isLetter_p (F : Hs Un.D [.int .u8] → Option (Hs Un.D [.bool])) : FSpec Un := ⟨163, [.c (.hole (.int .u8))], [], [.int .u8], .c (.hole .bool), [], [.bool], F⟩
def lexer_isLetter_s : FSpec Un := lexer_isLetter_p lexer_isLetter
theorem lexer_isLetter_snd : FSnd Tryz.prog lexer_isLetter_s := FSnd.of fun h r hr => FAt.of_body (s := lexer_isLetter_s) (fo := foS []) (lo := loL []) Tryz.func163 F163_ok F163_res (by kernel_rfl) FoSnd.nil (LoOk.snd LoOk.nil) (Eq.trans (by kernel_rfl) hr)
end Go.Proofs.YthnmepafpikaiaaGreat

namespace Go.Proofs.YthnmepafpikaiaaGreat
open Go Go.Proofs.YthnmepafpikaiaaGreat.Shv
set_option maxRecDepth 100000
set_option linter.all false

def lexer_isDigit (c : Int) : Option (Bool) :=
  some (bif decide (48 ≤ c) then decide (c ≤ 57) else false)
theorem F164_b : hasBody Tryz.prog 164 = true := by kernel_rfl
theorem F164_ok : Tryz.f164.body.bind (Go.Proofs.YthnmepafpikaiaaGreat.Shv.resolve Tryz.prog Tryz.f164.ntmps) = some (codeOf Tryz.prog Tryz.f164) := by kernel_rfl
theorem F164_res : resolveRes Tryz.prog Tryz.f164.results.toList = some [.tmp 2] := by kernel_rfl
def lexer_isDigit_p (F : Hs Un.D [.int .u8] → Option (Hs Un.D [.bool])) : FSpec Un := ⟨164, [.c (.hole (.int .u8))], [], [.int .u8], .c (.hole .bool), [], [.bool], F⟩
def lexer_isDigit_s : FSpec Un := lexer_isDigit_p lexer_isDigit
theorem lexer_isDigit_snd : FSnd Tryz.prog lexer_isDigit_s := FSnd.of fun h r hr => FAt.of_body (s := lexer_isDigit_s) (fo := foS []) (lo := loL []) Tryz.func164 F164_ok F164_res (by kernel_rfl) FoSnd.nil (LoOk.snd LoOk.nil) (Eq.trans (by kernel_rfl) hr)
def lexer_IsName_l0 (x_ : List UInt8 × Int × Int) : Option ((Bool) ⊕ (Unit)) :=
  match x_ with
  | (s_1, t18_1, t19) =>
  if decide (t19 < t18_1) = true then
    if inR t19 s_1.length = true then
      lexer_isLetter (byteAt s_1 t19) >>= fun r_1 =>
      some (!r_1) >>= fun t26 =>
      if (inR t19 s_1.length || (!t26)) = true then
        (if t26 = true then lexer_isDigit (byteAt s_1 t19) else some false) >>= fun r_2 =>
        if (bif t26 then (!r_2) else false) = true then
          some (.inl false)
        else
          lexer_IsName_l0 (s_1, t18_1, addI .i64 t19 1)
      else none
    else none
  else
    some (.inr ())
  partial_fixpoint
theorem F147_b : hasBody Tryz.prog 147 = true := by kernel_rfl
theorem F147_ok : Tryz.f147.body.bind (Go.Proofs.YthnmepafpikaiaaGreat.Shv.resolve Tryz.prog Tryz.f147.ntmps) = some (codeOf Tryz.prog Tryz.f147) := by kernel_rfl
theorem F147_res : resolveRes Tryz.prog Tryz.f147.results.toList = some [.tmp 2] := by kernel_rfl
def lexer_IsName_l0_sh : Shape := ⟨[(0, .c (.hole .str)), (18, .c (.hole (.int .i64))), (19, .c (.hole (.int .i64)))], []⟩
def lexer_IsName_l0_ts : List Ty := [.str, .int .i64, .int .i64]
def lexer_IsName_l0_outs : List OSpec := [⟨.ret, ⟨[(2, .c (.hole .bool))], []⟩, [], [.bool]⟩, ⟨.exit 0, ⟨[], []⟩, [], []⟩]
def lexer_IsName_l0_p (F : Hs Un.D lexer_IsName_l0_ts → Option (OSum Un lexer_IsName_l0_outs)) : LSpec Un := ⟨lexer_IsName_l0_sh, [], lexer_IsName_l0_ts, lexer_IsName_l0_outs, F⟩
def lexer_IsName_l0_s : LSpec Un := lexer_IsName_l0_p lexer_IsName_l0
theorem lexer_IsName_l0_snd : LSnd Tryz.prog Tryz.f147.ntmps 0 (loopOf (codeOf Tryz.prog Tryz.f147) 0) lexer_IsName_l0_s := fun h o ho => lexer_IsName_l0.partial_correctness (fun h o => LAt (U := Un) Tryz.prog Tryz.f147.ntmps 0 (loopOf (codeOf Tryz.prog Tryz.f147) 0) lexer_IsName_l0_sh lexer_IsName_l0_ts lexer_IsName_l0_outs h o) (fun F1 HF1 h o ho => LAt.of_round (fo := foS [lexer_isLetter_s, lexer_isDigit_s]) (lo := loL []) (own := []) (F' := F1) (FoSnd.cons F163_b lexer_isLetter_snd (FoSnd.cons F164_b lexer_isDigit_snd FoSnd.nil)) (LoOk.snd LoOk.nil) HF1 (Eq.trans (by kernel_rfl) ho)) h o ho
def lexer_IsName (s : List UInt8) : Option (Bool) :=
  some (bif decide (s = []) then true else decide (24 < (s.length : Int))) >>= fun t10 =>
  if (inR 0 s.length || (!(!t10))) = true then
    (if (!t10) = true then lexer_isLetter (byteAt s 0) else some false) >>= fun r =>
    if (bif t10 then true else (!r)) = true then
      some false
    else
      lexer_IsName_l0 (s, (s.length : Int), 0) >>= fun o =>
      match o with
      | .inl o_1 =>
        some o_1
      | .inr o_2 =>
        some true
  else none
def lexer_IsName_p (F : Hs Un.D [.str] → Option (Hs Un.D [.bool])) : FSpec Un := ⟨147, [.c (.hole .str)], [], [.str], .c (.hole .bool), [], [.bool], F⟩
def lexer_IsName_s : FSpec Un := lexer_IsName_p lexer_IsName
theorem lexer_IsName_snd : FSnd Tryz.prog lexer_IsName_s := FSnd.of fun h r hr => FAt.of_body (s := lexer_IsName_s) (fo := foS [lexer_isLetter_s]) (lo := loL [(0, lexer_IsName_l0_s)]) Tryz.func147 F147_ok F147_res (by kernel_rfl) (FoSnd.cons F163_b lexer_isLetter_snd FoSnd.nil) (LoOk.snd (LoOk.cons lexer_IsName_l0_snd LoOk.nil)) (Eq.trans (by kernel_rfl) hr)
def schema_ids_l0 (x_ : List Int × List (List UInt8) × List Int × Int × Int × List (List UInt8)) : Option ((Bool) ⊕ (List Int)) :=
  match x_ with
  | (l_2, names_1, t9, t10_1, t11, b) =>
  if decide (t11 < t10_1) = true then
    if inR t11 t9.length = true then
      some (t9.getD t11.toNat 0) >>= fun x0 =>
      some (bif decide (x0 < 1) then true else decide (1000 < x0)) >>= fun t21 =>
      some (decide (0 < t11)) >>= fun t24 =>
      some (subI .i64 t11 1) >>= fun t29 =>
      if (inR t29 l_2.length || (!((!t21) && t24))) = true then
        some (bif t21 then true else bif t24 then decide (x0 ≤ l_2.getD t29.toNat 0) else false) >>= fun t34 =>
        if (inR t11 names_1.length || (!(!t34))) = true then
          some (bif t34 then true else hasS b (names_1.getD t11.toNat [])) >>= fun t42 =>
          if (inR t11 names_1.length || (!(!t42))) = true then
            (if (!t42) = true then lexer_IsName (names_1.getD t11.toNat []) else some false) >>= fun r =>
            if (bif t42 then true else (!r)) = true then
              some (.inl false)
            else
              if inR t11 names_1.length = true then
                schema_ids_l0 (l_2, names_1, t9, t10_1, addI .i64 t11 1, addS b (names_1.getD t11.toNat []))
              else none
          else none
        else none
      else none
    else none
  else
    some (.inr l_2)
  partial_fixpoint
theorem F165_b : hasBody Tryz.prog 165 = true := by kernel_rfl
theorem F165_ok : Tryz.f165.body.bind (Go.Proofs.YthnmepafpikaiaaGreat.Shv.resolve Tryz.prog Tryz.f165.ntmps) = some (codeOf Tryz.prog Tryz.f165) := by kernel_rfl
theorem F165_res : resolveRes Tryz.prog Tryz.f165.results.toList = some [.tmp 4] := by kernel_rfl
def schema_ids_l0_sh : Shape := ⟨[(0, .c (.hole (.slice (.int .i64)))), (1, .c (.hole (.slice .str))), (5, .c (.mp 0)), (9, .c (.hole (.slice (.int .i64)))), (10, .c (.hole (.int .i64))), (11, .c (.hole (.int .i64)))], [.set]⟩
def schema_ids_l0_ts : List Ty := [.slice (.int .i64), .slice .str, .slice (.int .i64), .int .i64, .int .i64, .slice .str]
def schema_ids_l0_outs : List OSpec := [⟨.ret, ⟨[(4, .c (.hole .bool))], []⟩, [], [.bool]⟩, ⟨.exit 0, ⟨[(0, .c (.hole (.slice (.int .i64))))], []⟩, [], [.slice (.int .i64)]⟩]
def schema_ids_l0_p (F : Hs Un.D schema_ids_l0_ts → Option (OSum Un schema_ids_l0_outs)) : LSpec Un := ⟨schema_ids_l0_sh, [], schema_ids_l0_ts, schema_ids_l0_outs, F⟩
def schema_ids_l0_s : LSpec Un := schema_ids_l0_p schema_ids_l0
theorem schema_ids_l0_snd : LSnd Tryz.prog Tryz.f165.ntmps 0 (loopOf (codeOf Tryz.prog Tryz.f165) 0) schema_ids_l0_s := fun h o ho => schema_ids_l0.partial_correctness (fun h o => LAt (U := Un) Tryz.prog Tryz.f165.ntmps 0 (loopOf (codeOf Tryz.prog Tryz.f165) 0) schema_ids_l0_sh schema_ids_l0_ts schema_ids_l0_outs h o) (fun F1 HF1 h o ho => LAt.of_round (fo := foS [lexer_IsName_s]) (lo := loL []) (own := []) (F' := F1) (FoSnd.cons F147_b lexer_IsName_snd FoSnd.nil) (LoOk.snd LoOk.nil) HF1 (Eq.trans (by kernel_rfl) ho)) h o ho
def schema_ids (x_ : List Int × List (List UInt8)) : Option (Bool) :=
  match x_ with
  | (l, names) =>
  schema_ids_l0 (l, names, l, (l.length : Int), 0, []) >>= fun o =>
  match o with
  | .inl o_1 =>
    some o_1
  | .inr o_2 =>
    some (decide ((o_2.length : Int) ≤ 16))
def schema_ids_p (F : Hs Un.D [.slice (.int .i64), .slice .str] → Option (Hs Un.D [.bool])) : FSpec Un := ⟨165, [.c (.hole (.slice (.int .i64))), .c (.hole (.slice .str))], [], [.slice (.int .i64), .slice .str], .c (.hole .bool), [], [.bool], F⟩
def schema_ids_s : FSpec Un := schema_ids_p schema_ids
theorem schema_ids_snd : FSnd Tryz.prog schema_ids_s := FSnd.of fun h r hr => FAt.of_body (s := schema_ids_s) (fo := foS []) (lo := loL [(0, schema_ids_l0_s)]) Tryz.func165 F165_ok F165_res (by kernel_rfl) FoSnd.nil (LoOk.snd (LoOk.cons schema_ids_l0_snd LoOk.nil)) (Eq.trans (by kernel_rfl) hr)
def schema_symbols_l0 (x_ : List SSymbol × List SSymbol × Int × Int × List Int × List (List UInt8)) : Option (List SSymbol × List Int × List (List UInt8)) :=
  match x_ with
  | (l_2, t7, t8_1, t9, b_2, b_3) =>
  if decide (t9 < t8_1) = true then
    if inR t9 t7.length = true then
      some (t7.getD t9.toNat dSSymbol) >>= fun x0 =>
      some [x0.ID] >>= fun t16 =>
      if room 8 (b_2 ++ t16).length = true then
        some [x0.Name] >>= fun t21 =>
        if room 16 (b_3 ++ t21).length = true then
          schema_symbols_l0 (l_2, t7, t8_1, addI .i64 t9 1, b_2 ++ t16, b_3 ++ t21)
        else none
      else none
    else none
  else
    some (l_2, b_2, b_3)
  partial_fixpoint
theorem F148_b : hasBody Tryz.prog 148 = true := by kernel_rfl
theorem F148_ok : Tryz.f148.body.bind (Go.Proofs.YthnmepafpikaiaaGreat.Shv.resolve Tryz.prog Tryz.f148.ntmps) = some (codeOf Tryz.prog Tryz.f148) := by kernel_rfl
theorem F148_res : resolveRes Tryz.prog Tryz.f148.results.toList = some [.tmp 2] := by kernel_rfl
def schema_symbols_l0_sh : Shape := ⟨[(0, .c (.hole (.slice (.nm 4)))), (3, .c (.arr 0)), (4, .c (.arr 1)), (7, .c (.hole (.slice (.nm 4)))), (8, .c (.hole (.int .i64))), (9, .c (.hole (.int .i64)))], [.arr (.int .i64), .arr .str]⟩
def schema_symbols_l0_ts : List Ty := [.slice (.nm 4), .slice (.nm 4), .int .i64, .int .i64, .slice (.int .i64), .slice .str]
def schema_symbols_l0_outs : List OSpec := [⟨.exit 0, ⟨[(0, .c (.hole (.slice (.nm 4)))), (3, .c (.arr 0)), (4, .c (.arr 1))], [.arr (.int .i64), .arr .str]⟩, [], [.slice (.nm 4), .slice (.int .i64), .slice .str]⟩]
def schema_symbols_l0_p (F : Hs Un.D schema_symbols_l0_ts → Option (OSum Un schema_symbols_l0_outs)) : LSpec Un := ⟨schema_symbols_l0_sh, [(.slot 3, .int .i64), (.slot 4, .str)], schema_symbols_l0_ts, schema_symbols_l0_outs, F⟩
def schema_symbols_l0_s : LSpec Un := schema_symbols_l0_p schema_symbols_l0
theorem schema_symbols_l0_snd : LSnd Tryz.prog Tryz.f148.ntmps 0 (loopOf (codeOf Tryz.prog Tryz.f148) 0) schema_symbols_l0_s := fun h o ho => schema_symbols_l0.partial_correctness (fun h o => LAt (U := Un) Tryz.prog Tryz.f148.ntmps 0 (loopOf (codeOf Tryz.prog Tryz.f148) 0) schema_symbols_l0_sh schema_symbols_l0_ts schema_symbols_l0_outs h o) (fun F1 HF1 h o ho => LAt.of_round (fo := foS []) (lo := loL []) (own := [(.slot 3, .int .i64), (.slot 4, .str)]) (F' := F1) FoSnd.nil (LoOk.snd LoOk.nil) HF1 (Eq.trans (by kernel_rfl) ho)) h o ho
def schema_symbols (l : List SSymbol) : Option (Bool) :=
  schema_symbols_l0 (l, l, (l.length : Int), 0, [], []) >>= fun o =>
  some (decide (0 < (o.1.length : Int))) >>= fun t26 =>
  (if t26 = true then schema_ids (o.2.1, o.2.2) else some false) >>= fun r =>
  some (bif t26 then r else false)
def schema_symbols_p (F : Hs Un.D [.slice (.nm 4)] → Option (Hs Un.D [.bool])) : FSpec Un := ⟨148, [.c (.hole (.slice (.nm 4)))], [], [.slice (.nm 4)], .c (.hole .bool), [], [.bool], F⟩
def schema_symbols_s : FSpec Un := schema_symbols_p schema_symbols
theorem schema_symbols_snd : FSnd Tryz.prog schema_symbols_s := FSnd.of fun h r hr => FAt.of_body (s := schema_symbols_s) (fo := foS [schema_ids_s]) (lo := loL [(0, schema_symbols_l0_s)]) Tryz.func148 F148_ok F148_res (by kernel_rfl) (FoSnd.cons F165_b schema_ids_snd FoSnd.nil) (LoOk.snd (LoOk.cons schema_symbols_l0_snd LoOk.nil)) (Eq.trans (by kernel_rfl) hr)
def schema_blank (v : SValue) : Option (Bool) :=
  schema_same (SValue.eta v, (⟨0, false, 0, [], 0, [], [], []⟩ : SValue)) >>= fun r =>
  some r
theorem F166_b : hasBody Tryz.prog 166 = true := by kernel_rfl
theorem F166_ok : Tryz.f166.body.bind (Go.Proofs.YthnmepafpikaiaaGreat.Shv.resolve Tryz.prog Tryz.f166.ntmps) = some (codeOf Tryz.prog Tryz.f166) := by kernel_rfl
theorem F166_res : resolveRes Tryz.prog Tryz.f166.results.toList = some [.tmp 2] := by kernel_rfl
def schema_blank_p (F : Hs Un.D [.nm 1] → Option (Hs Un.D [.bool])) : FSpec Un := ⟨166, [.row 1], [], [.nm 1], .c (.hole .bool), [], [.bool], F⟩
def schema_blank_s : FSpec Un := schema_blank_p schema_blank
theorem schema_blank_snd : FSnd Tryz.prog schema_blank_s := FSnd.of fun h r hr => FAt.of_body (s := schema_blank_s) (fo := foS [schema_same_s]) (lo := loL []) Tryz.func166 F166_ok F166_res (by kernel_rfl) (FoSnd.cons F170_b schema_same_snd FoSnd.nil) (LoOk.snd LoOk.nil) (Eq.trans (by kernel_rfl) hr)
def schema_members_l0 (x_ : List SMember × Int × Int × SType × List Int × List (List UInt8)) : Option ((Bool) ⊕ (SType × List Int × List (List UInt8))) :=
  match x_ with
  | (t8, t9_1, t10, b_3, b_4, b_5) =>
  if decide (t10 < t9_1) = true then
    if inR t10 t8.length = true then
      some (t8.getD t10.toNat dSMember) >>= fun x0 =>
      some [x0.ID] >>= fun t17 =>
      if room 8 (b_4 ++ t17).length = true then
        some [x0.Name] >>= fun t22 =>
        if room 16 (b_5 ++ t22).length = true then
          some (bif bif decide (b_3.Kind = 6) then bif x0.Critical then true else x0.HasDefault else false then true else bif x0.Critical then x0.HasDefault else false) >>= fun t42 =>
          some (!x0.HasDefault) >>= fun t46 =>
          (if ((!t42) && t46) = true then schema_blank (SValue.eta x0.Default) else some false) >>= fun r_1 =>
          if (bif t42 then true else bif t46 then (!r_1) else false) = true then
            some (.inl false)
          else
            schema_members_l0 (t8, t9_1, addI .i64 t10 1, b_3, b_4 ++ t17, b_5 ++ t22)
        else none
      else none
    else none
  else
    some (.inr (b_3, b_4, b_5))
  partial_fixpoint
theorem F149_b : hasBody Tryz.prog 149 = true := by kernel_rfl
theorem F149_ok : Tryz.f149.body.bind (Go.Proofs.YthnmepafpikaiaaGreat.Shv.resolve Tryz.prog Tryz.f149.ntmps) = some (codeOf Tryz.prog Tryz.f149) := by kernel_rfl
theorem F149_res : resolveRes Tryz.prog Tryz.f149.results.toList = some [.tmp 2] := by kernel_rfl
def schema_members_l0_sh : Shape := ⟨[(1, .c (.ptr 0 0)), (3, .c (.arr 1)), (4, .c (.arr 2)), (8, .c (.hole (.slice (.nm 0)))), (9, .c (.hole (.int .i64))), (10, .c (.hole (.int .i64)))], [.brow 3, .arr (.int .i64), .arr .str]⟩
def schema_members_l0_ts : List Ty := [.slice (.nm 0), .int .i64, .int .i64, .nm 3, .slice (.int .i64), .slice .str]
def schema_members_l0_outs : List OSpec := [⟨.ret, ⟨[(2, .c (.hole .bool))], []⟩, [], [.bool]⟩, ⟨.exit 0, ⟨[(1, .c (.ptr 0 0)), (3, .c (.arr 1)), (4, .c (.arr 2))], [.brow 3, .arr (.int .i64), .arr .str]⟩, [], [.nm 3, .slice (.int .i64), .slice .str]⟩]
def schema_members_l0_p (F : Hs Un.D schema_members_l0_ts → Option (OSum Un schema_members_l0_outs)) : LSpec Un := ⟨schema_members_l0_sh, [(.slot 3, .int .i64), (.slot 4, .str)], schema_members_l0_ts, schema_members_l0_outs, F⟩
def schema_members_l0_s : LSpec Un := schema_members_l0_p schema_members_l0
theorem schema_members_l0_snd : LSnd Tryz.prog Tryz.f149.ntmps 0 (loopOf (codeOf Tryz.prog Tryz.f149) 0) schema_members_l0_s := fun h o ho => schema_members_l0.partial_correctness (fun h o => LAt (U := Un) Tryz.prog Tryz.f149.ntmps 0 (loopOf (codeOf Tryz.prog Tryz.f149) 0) schema_members_l0_sh schema_members_l0_ts schema_members_l0_outs h o) (fun F1 HF1 h o ho => LAt.of_round (fo := foS [schema_blank_s]) (lo := loL []) (own := [(.slot 3, .int .i64), (.slot 4, .str)]) (F' := F1) (FoSnd.cons F166_b schema_blank_snd FoSnd.nil) (LoOk.snd LoOk.nil) HF1 (Eq.trans (by kernel_rfl) ho)) h o ho
def schema_members (t : SType) : Option (Bool) :=
  schema_members_l0 (t.Members, (t.Members.length : Int), 0, t, [], []) >>= fun o =>
  match o with
  | .inl o_1 =>
    some o_1
  | .inr o_2 =>
    some (bif decide (o_2.1.Kind = 5) then true else decide (0 < (o_2.2.1.length : Int))) >>= fun t62 =>
    (if t62 = true then schema_ids (o_2.2.1, o_2.2.2) else some false) >>= fun r =>
    some (bif t62 then r else false)
def schema_members_p (F : Hs Un.D [.nm 3] → Option (Hs Un.D [.bool])) : FSpec Un := ⟨149, [.row 3], [], [.nm 3], .c (.hole .bool), [], [.bool], F⟩
def schema_members_s : FSpec Un := schema_members_p schema_members
theorem schema_members_snd : FSnd Tryz.prog schema_members_s := FSnd.of fun h r hr => FAt.of_body (s := schema_members_s) (fo := foS [schema_ids_s]) (lo := loL [(0, schema_members_l0_s)]) Tryz.func149 F149_ok F149_res (by kernel_rfl) (FoSnd.cons F165_b schema_ids_snd FoSnd.nil) (LoOk.snd (LoOk.cons schema_members_l0_snd LoOk.nil)) (Eq.trans (by kernel_rfl) hr)
def schema_form (t : SType) : Option (Bool) :=
  if decide (t.Kind = 1) = true then
    schema_equal ((⟨0, t.Name, t.Low, t.High, t.Max, t.Symbols, t.Members, t.Key, t.Elem, t.Open⟩ : SType), (⟨0, [], 0, 0, 0, [], [], 0, 0, false⟩ : SType)) >>= fun r =>
    some r
  else
    if decide (t.Kind = 2) = true then
      some (decide (t.Low ≤ t.High)) >>= fun t17 =>
      (if t17 = true then schema_equal ((⟨0, t.Name, 0, 0, t.Max, t.Symbols, t.Members, t.Key, t.Elem, t.Open⟩ : SType), (⟨0, [], 0, 0, 0, [], [], 0, 0, false⟩ : SType)) else some false) >>= fun r_1 =>
      some (bif t17 then r_1 else false)
    else
      if decide (t.Kind = 3) = true then
        some (bif decide (0 ≤ t.Max) then decide (t.Max ≤ 200) else false) >>= fun t29 =>
        (if t29 = true then schema_equal ((⟨0, t.Name, t.Low, t.High, 0, t.Symbols, t.Members, t.Key, t.Elem, t.Open⟩ : SType), (⟨0, [], 0, 0, 0, [], [], 0, 0, false⟩ : SType)) else some false) >>= fun r_2 =>
        some (bif t29 then r_2 else false)
      else
        if decide (t.Kind = 4) = true then
          lexer_IsName t.Name >>= fun r_3 =>
          (if r_3 = true then schema_symbols t.Symbols else some false) >>= fun r_4 =>
          some (bif r_3 then r_4 else false) >>= fun t40 =>
          (if t40 = true then schema_equal ((⟨0, [], t.Low, t.High, t.Max, [], t.Members, t.Key, t.Elem, false⟩ : SType), (⟨0, [], 0, 0, 0, [], [], 0, 0, false⟩ : SType)) else some false) >>= fun r_5 =>
          some (bif t40 then r_5 else false)
        else
          some (decide (t.Kind = 5)) >>= fun t45 =>
          if t45 = true then
            if t45 = true then
              lexer_IsName t.Name >>= fun r_6 =>
              (if r_6 = true then schema_members t else some false) >>= fun r_7 =>
              some (bif r_6 then r_7 else false) >>= fun t53 =>
              (if t53 = true then schema_equal ((⟨0, [], t.Low, t.High, t.Max, t.Symbols, [], t.Key, t.Elem, bif t.Open then decide (t.Kind = 5) else false⟩ : SType), (⟨0, [], 0, 0, 0, [], [], 0, 0, false⟩ : SType)) else some false) >>= fun r_8 =>
              some (bif t53 then r_8 else false)
            else
              some (decide (t.Kind = 7)) >>= fun t65 =>
              if t65 = true then
                if t65 = true then
                  some (bif decide (0 ≤ t.Max) then decide (t.Max ≤ 50) else false) >>= fun t74 =>
                  if decide (t.Kind = 8) = true then
                    (if t74 = true then schema_equal ((⟨0, t.Name, t.Low, t.High, 0, t.Symbols, t.Members, 0, 0, t.Open⟩ : SType), (⟨0, [], 0, 0, 0, [], [], 0, 0, false⟩ : SType)) else some false) >>= fun r_9 =>
                    some (bif t74 then r_9 else false)
                  else
                    (if t74 = true then schema_equal ((⟨0, t.Name, t.Low, t.High, 0, t.Symbols, t.Members, t.Key, 0, t.Open⟩ : SType), (⟨0, [], 0, 0, 0, [], [], 0, 0, false⟩ : SType)) else some false) >>= fun r_10 =>
                    some (bif t74 then r_10 else false)
                else
                  if decide (t.Kind = 9) = true then
                    schema_equal ((⟨0, t.Name, t.Low, t.High, t.Max, t.Symbols, t.Members, t.Key, 0, t.Open⟩ : SType), (⟨0, [], 0, 0, 0, [], [], 0, 0, false⟩ : SType)) >>= fun r_11 =>
                    some r_11
                  else
                    some false
              else
                if decide (t.Kind = 8) = true then
                  some (bif decide (0 ≤ t.Max) then decide (t.Max ≤ 50) else false) >>= fun t74_1 =>
                  if decide (t.Kind = 8) = true then
                    (if t74_1 = true then schema_equal ((⟨0, t.Name, t.Low, t.High, 0, t.Symbols, t.Members, 0, 0, t.Open⟩ : SType), (⟨0, [], 0, 0, 0, [], [], 0, 0, false⟩ : SType)) else some false) >>= fun r_12 =>
                    some (bif t74_1 then r_12 else false)
                  else
                    (if t74_1 = true then schema_equal ((⟨0, t.Name, t.Low, t.High, 0, t.Symbols, t.Members, t.Key, 0, t.Open⟩ : SType), (⟨0, [], 0, 0, 0, [], [], 0, 0, false⟩ : SType)) else some false) >>= fun r_13 =>
                    some (bif t74_1 then r_13 else false)
                else
                  if decide (t.Kind = 9) = true then
                    schema_equal ((⟨0, t.Name, t.Low, t.High, t.Max, t.Symbols, t.Members, t.Key, 0, t.Open⟩ : SType), (⟨0, [], 0, 0, 0, [], [], 0, 0, false⟩ : SType)) >>= fun r_14 =>
                    some r_14
                  else
                    some false
          else
            if decide (t.Kind = 6) = true then
              lexer_IsName t.Name >>= fun r_15 =>
              (if r_15 = true then schema_members t else some false) >>= fun r_16 =>
              some (bif r_15 then r_16 else false) >>= fun t53_1 =>
              (if t53_1 = true then schema_equal ((⟨0, [], t.Low, t.High, t.Max, t.Symbols, [], t.Key, t.Elem, bif t.Open then decide (t.Kind = 5) else false⟩ : SType), (⟨0, [], 0, 0, 0, [], [], 0, 0, false⟩ : SType)) else some false) >>= fun r_17 =>
              some (bif t53_1 then r_17 else false)
            else
              some (decide (t.Kind = 7)) >>= fun t65_1 =>
              if t65_1 = true then
                if t65_1 = true then
                  some (bif decide (0 ≤ t.Max) then decide (t.Max ≤ 50) else false) >>= fun t74_2 =>
                  if decide (t.Kind = 8) = true then
                    (if t74_2 = true then schema_equal ((⟨0, t.Name, t.Low, t.High, 0, t.Symbols, t.Members, 0, 0, t.Open⟩ : SType), (⟨0, [], 0, 0, 0, [], [], 0, 0, false⟩ : SType)) else some false) >>= fun r_18 =>
                    some (bif t74_2 then r_18 else false)
                  else
                    (if t74_2 = true then schema_equal ((⟨0, t.Name, t.Low, t.High, 0, t.Symbols, t.Members, t.Key, 0, t.Open⟩ : SType), (⟨0, [], 0, 0, 0, [], [], 0, 0, false⟩ : SType)) else some false) >>= fun r_19 =>
                    some (bif t74_2 then r_19 else false)
                else
                  if decide (t.Kind = 9) = true then
                    schema_equal ((⟨0, t.Name, t.Low, t.High, t.Max, t.Symbols, t.Members, t.Key, 0, t.Open⟩ : SType), (⟨0, [], 0, 0, 0, [], [], 0, 0, false⟩ : SType)) >>= fun r_20 =>
                    some r_20
                  else
                    some false
              else
                if decide (t.Kind = 8) = true then
                  some (bif decide (0 ≤ t.Max) then decide (t.Max ≤ 50) else false) >>= fun t74_3 =>
                  if decide (t.Kind = 8) = true then
                    (if t74_3 = true then schema_equal ((⟨0, t.Name, t.Low, t.High, 0, t.Symbols, t.Members, 0, 0, t.Open⟩ : SType), (⟨0, [], 0, 0, 0, [], [], 0, 0, false⟩ : SType)) else some false) >>= fun r_21 =>
                    some (bif t74_3 then r_21 else false)
                  else
                    (if t74_3 = true then schema_equal ((⟨0, t.Name, t.Low, t.High, 0, t.Symbols, t.Members, t.Key, 0, t.Open⟩ : SType), (⟨0, [], 0, 0, 0, [], [], 0, 0, false⟩ : SType)) else some false) >>= fun r_22 =>
                    some (bif t74_3 then r_22 else false)
                else
                  if decide (t.Kind = 9) = true then
                    schema_equal ((⟨0, t.Name, t.Low, t.High, t.Max, t.Symbols, t.Members, t.Key, 0, t.Open⟩ : SType), (⟨0, [], 0, 0, 0, [], [], 0, 0, false⟩ : SType)) >>= fun r_23 =>
                    some r_23
                  else
                    some false
theorem F120_b : hasBody Tryz.prog 120 = true := by kernel_rfl
theorem F120_ok : Tryz.f120.body.bind (Go.Proofs.YthnmepafpikaiaaGreat.Shv.resolve Tryz.prog Tryz.f120.ntmps) = some (codeOf Tryz.prog Tryz.f120) := by kernel_rfl
theorem F120_res : resolveRes Tryz.prog Tryz.f120.results.toList = some [.tmp 2] := by kernel_rfl
def schema_form_p (F : Hs Un.D [.nm 3] → Option (Hs Un.D [.bool])) : FSpec Un := ⟨120, [.row 3], [], [.nm 3], .c (.hole .bool), [], [.bool], F⟩
def schema_form_s : FSpec Un := schema_form_p schema_form
theorem schema_form_snd : FSnd Tryz.prog schema_form_s := FSnd.of fun h r hr => FAt.of_body (s := schema_form_s) (fo := foS [schema_equal_s, lexer_IsName_s, schema_symbols_s, schema_members_s]) (lo := loL []) Tryz.func120 F120_ok F120_res (by kernel_rfl) (FoSnd.cons F150_b schema_equal_snd (FoSnd.cons F147_b lexer_IsName_snd (FoSnd.cons F148_b schema_symbols_snd (FoSnd.cons F149_b schema_members_snd FoSnd.nil)))) (LoOk.snd LoOk.nil) (Eq.trans (by kernel_rfl) hr)
def schema_uses_l0 (x_ : List SMember × Int × Int × SType × List Int) : Option (SType × List Int) :=
  match x_ with
  | (t7, t8_1, t9, b_2, b_3) =>
  if decide (t9 < t8_1) = true then
    if inR t9 t7.length = true then
      some [(t7.getD t9.toNat dSMember).Type_] >>= fun t16 =>
      if room 8 (b_3 ++ t16).length = true then
        schema_uses_l0 (t7, t8_1, addI .i64 t9 1, b_2, b_3 ++ t16)
      else none
    else none
  else
    some (b_2, b_3)
  partial_fixpoint
theorem F121_b : hasBody Tryz.prog 121 = true := by kernel_rfl
theorem F121_ok : Tryz.f121.body.bind (Go.Proofs.YthnmepafpikaiaaGreat.Shv.resolve Tryz.prog Tryz.f121.ntmps) = some (codeOf Tryz.prog Tryz.f121) := by kernel_rfl
theorem F121_res : resolveRes Tryz.prog Tryz.f121.results.toList = some [.tmp 2] := by kernel_rfl
def schema_uses_l0_sh : Shape := ⟨[(1, .c (.ptr 0 0)), (3, .c (.arr 1)), (7, .c (.hole (.slice (.nm 0)))), (8, .c (.hole (.int .i64))), (9, .c (.hole (.int .i64)))], [.brow 3, .arr (.int .i64)]⟩
def schema_uses_l0_ts : List Ty := [.slice (.nm 0), .int .i64, .int .i64, .nm 3, .slice (.int .i64)]
def schema_uses_l0_outs : List OSpec := [⟨.exit 0, ⟨[(1, .c (.ptr 0 0)), (3, .c (.arr 1))], [.brow 3, .arr (.int .i64)]⟩, [], [.nm 3, .slice (.int .i64)]⟩]
def schema_uses_l0_p (F : Hs Un.D schema_uses_l0_ts → Option (OSum Un schema_uses_l0_outs)) : LSpec Un := ⟨schema_uses_l0_sh, [(.slot 3, .int .i64)], schema_uses_l0_ts, schema_uses_l0_outs, F⟩
def schema_uses_l0_s : LSpec Un := schema_uses_l0_p schema_uses_l0
theorem schema_uses_l0_snd : LSnd Tryz.prog Tryz.f121.ntmps 0 (loopOf (codeOf Tryz.prog Tryz.f121) 0) schema_uses_l0_s := fun h o ho => schema_uses_l0.partial_correctness (fun h o => LAt (U := Un) Tryz.prog Tryz.f121.ntmps 0 (loopOf (codeOf Tryz.prog Tryz.f121) 0) schema_uses_l0_sh schema_uses_l0_ts schema_uses_l0_outs h o) (fun F1 HF1 h o ho => LAt.of_round (fo := foS []) (lo := loL []) (own := [(.slot 3, .int .i64)]) (F' := F1) FoSnd.nil (LoOk.snd LoOk.nil) HF1 (Eq.trans (by kernel_rfl) ho)) h o ho
def schema_uses (t : SType) : Option (List Int) :=
  schema_uses_l0 (t.Members, (t.Members.length : Int), 0, t, []) >>= fun o =>
  if decide (o.1.Kind = 8) = true then
    some [o.1.Key] >>= fun t25 =>
    if room 8 (o.2 ++ t25).length = true then
      some (o.2 ++ t25) >>= fun l =>
      if decide (7 ≤ o.1.Kind) = true then
        some [o.1.Elem] >>= fun t33 =>
        if room 8 (l ++ t33).length = true then
          some (l ++ t33)
        else none
      else
        some l
    else none
  else
    if decide (7 ≤ o.1.Kind) = true then
      some [o.1.Elem] >>= fun t33_1 =>
      if room 8 (o.2 ++ t33_1).length = true then
        some (o.2 ++ t33_1)
      else none
    else
      some o.2
def schema_uses_p (F : Hs Un.D [.nm 3] → Option (Hs Un.D [.slice (.int .i64)])) : FSpec Un := ⟨121, [.row 3], [], [.nm 3], .c (.hole (.slice (.int .i64))), [], [.slice (.int .i64)], F⟩
def schema_uses_s : FSpec Un := schema_uses_p schema_uses
theorem schema_uses_snd : FSnd Tryz.prog schema_uses_s := FSnd.of fun h r hr => FAt.of_body (s := schema_uses_s) (fo := foS []) (lo := loL [(0, schema_uses_l0_s)]) Tryz.func121 F121_ok F121_res (by kernel_rfl) FoSnd.nil (LoOk.snd (LoOk.cons schema_uses_l0_snd LoOk.nil)) (Eq.trans (by kernel_rfl) hr)
def schema_Valid_l0_0 (x_ : List SType × Int × Int × List Int × Int × Int × List SType × List (List UInt8) × Int × List UInt8 × Int × Int × Int × List SSymbol × List SMember × Int × Int × Bool) : Option ((Int) ⊕ (List SType × Int × Int × List SType × List (List UInt8) × Int × List UInt8 × Int × Int × Int × List SSymbol × List SMember × Int × Int × Bool)) :=
  match x_ with
  | (t14_2, t15_3, t16_2, t38, t39_1, t40, b_14, b_15, b_16, b_17, b_18, b_19, b_20, b_21, b_22, b_23, b_24, b_25) =>
  if decide (t40 < t39_1) = true then
    if inR t40 t38.length = true then
      some (t38.getD t40.toNat 0) >>= fun x0_3 =>
      if (bif decide (x0_3 < 0) then true else decide ((b_14.length : Int) ≤ x0_3)) = true then
        some (.inl 4)
      else
        schema_Valid_l0_0 (t14_2, t15_3, t16_2, t38, t39_1, addI .i64 t40 1, b_14, b_15, b_16, b_17, b_18, b_19, b_20, b_21, b_22, b_23, b_24, b_25)
    else none
  else
    some (.inr (t14_2, t15_3, t16_2, b_14, b_15, b_16, b_17, b_18, b_19, b_20, b_21, b_22, b_23, b_24, b_25))
  partial_fixpoint
theorem F79_b : hasBody Tryz.prog 79 = true := by kernel_rfl
theorem F79_ok : Tryz.f79.body.bind (Go.Proofs.YthnmepafpikaiaaGreat.Shv.resolve Tryz.prog Tryz.f79.ntmps) = some (codeOf Tryz.prog Tryz.f79) := by kernel_rfl
theorem F79_res : resolveRes Tryz.prog Tryz.f79.results.toList = some [.tmp 2] := by kernel_rfl
def schema_Valid_l0_0_sh : Shape := ⟨[(1, .c (.ptr 0 0)), (3, .c (.mp 1)), (5, .c (.ptr 2 0)), (14, .c (.hole (.slice (.nm 3)))), (15, .c (.hole (.int .i64))), (16, .c (.hole (.int .i64))), (38, .c (.hole (.slice (.int .i64)))), (39, .c (.hole (.int .i64))), (40, .c (.hole (.int .i64)))], [.box [.hole (.slice (.nm 3))], .set, .box [.hole (.int .i64), .hole .str, .hole (.int .i64), .hole (.int .i64), .hole (.int .i64), .hole (.slice (.nm 4)), .hole (.slice (.nm 0)), .hole (.int .i64), .hole (.int .i64), .hole .bool]]⟩
def schema_Valid_l0_0_ts : List Ty := [.slice (.nm 3), .int .i64, .int .i64, .slice (.int .i64), .int .i64, .int .i64, .slice (.nm 3), .slice .str, .int .i64, .str, .int .i64, .int .i64, .int .i64, .slice (.nm 4), .slice (.nm 0), .int .i64, .int .i64, .bool]
def schema_Valid_l0_0_outs : List OSpec := [⟨.ret, ⟨[(2, .c (.hole (.int .i64)))], []⟩, [], [.int .i64]⟩, ⟨.exit 2, ⟨[(1, .c (.ptr 0 0)), (3, .c (.mp 1)), (5, .c (.ptr 2 0)), (14, .c (.hole (.slice (.nm 3)))), (15, .c (.hole (.int .i64))), (16, .c (.hole (.int .i64)))], [.box [.hole (.slice (.nm 3))], .set, .box [.hole (.int .i64), .hole .str, .hole (.int .i64), .hole (.int .i64), .hole (.int .i64), .hole (.slice (.nm 4)), .hole (.slice (.nm 0)), .hole (.int .i64), .hole (.int .i64), .hole .bool]]⟩, [], [.slice (.nm 3), .int .i64, .int .i64, .slice (.nm 3), .slice .str, .int .i64, .str, .int .i64, .int .i64, .int .i64, .slice (.nm 4), .slice (.nm 0), .int .i64, .int .i64, .bool]⟩]
def schema_Valid_l0_0_p (F : Hs Un.D schema_Valid_l0_0_ts → Option (OSum Un schema_Valid_l0_0_outs)) : LSpec Un := ⟨schema_Valid_l0_0_sh, [], schema_Valid_l0_0_ts, schema_Valid_l0_0_outs, F⟩
def schema_Valid_l0_0_s : LSpec Un := schema_Valid_l0_0_p schema_Valid_l0_0
theorem schema_Valid_l0_0_snd : LSnd Tryz.prog Tryz.f79.ntmps 0 (loopOf (loopOf (codeOf Tryz.prog Tryz.f79) 0) 0) schema_Valid_l0_0_s := fun h o ho => schema_Valid_l0_0.partial_correctness (fun h o => LAt (U := Un) Tryz.prog Tryz.f79.ntmps 0 (loopOf (loopOf (codeOf Tryz.prog Tryz.f79) 0) 0) schema_Valid_l0_0_sh schema_Valid_l0_0_ts schema_Valid_l0_0_outs h o) (fun F1 HF1 h o ho => LAt.of_round (fo := foS []) (lo := loL []) (own := []) (F' := F1) FoSnd.nil (LoOk.snd LoOk.nil) HF1 (Eq.trans (by kernel_rfl) ho)) h o ho
end Go.Proofs.YthnmepafpikaiaaGreat

namespace Go.Proofs.YthnmepafpikaiaaGreat
open Go Go.Proofs.YthnmepafpikaiaaGreat.Shv
set_option maxRecDepth 100000
set_option linter.all false

def schema_Valid_l0 (x_ : List SType × Int × Int × List SType × List (List UInt8)) : Option ((Int) ⊕ (Unit)) :=
  match x_ with
  | (t14, t15_1, t16, b, b_1) =>
  if decide (t16 < t15_1) = true then
    if inR t16 t14.length = true then
      some (t14.getD t16.toNat dSType) >>= fun x0 =>
      schema_form x0 >>= fun r =>
      if (bif (!r) then true else bif (!(decide (x0.Name = []))) then hasS b_1 x0.Name else false) = true then
        some (.inl 1)
      else
        schema_uses x0 >>= fun r_1 =>
        schema_Valid_l0_0 (t14, t15_1, t16, r_1, (r_1.length : Int), 0, b, addS b_1 x0.Name, x0.Kind, x0.Name, x0.Low, x0.High, x0.Max, x0.Symbols, x0.Members, x0.Key, x0.Elem, x0.Open) >>= fun o_3 =>
        match o_3 with
        | .inl o_4 =>
          some (.inl o_4)
        | .inr o_5 =>
          some (decide (o_5.2.2.2.2.2.1 = 8)) >>= fun t56 =>
          if (inR o_5.2.2.2.2.2.2.2.2.2.2.2.2.1 o_5.2.2.2.1.length || (!t56)) = true then
            some (decide ((o_5.2.2.2.1.getD o_5.2.2.2.2.2.2.2.2.2.2.2.2.1.toNat dSType).Kind < 1)) >>= fun t65 =>
            if (inR o_5.2.2.2.2.2.2.2.2.2.2.2.2.1 o_5.2.2.2.1.length || (!(t56 && (!t65)))) = true then
              if (bif t56 then bif t65 then true else decide (4 < (o_5.2.2.2.1.getD o_5.2.2.2.2.2.2.2.2.2.2.2.2.1.toNat dSType).Kind) else false) = true then
                some (.inl 1)
              else
                schema_Valid_l0 (o_5.1, o_5.2.1, addI .i64 o_5.2.2.1 1, o_5.2.2.2.1, o_5.2.2.2.2.1)
            else none
          else none
    else none
  else
    some (.inr ())
  partial_fixpoint
def schema_Valid_l0_sh : Shape := ⟨[(1, .c (.ptr 0 0)), (3, .c (.mp 1)), (14, .c (.hole (.slice (.nm 3)))), (15, .c (.hole (.int .i64))), (16, .c (.hole (.int .i64)))], [.box [.hole (.slice (.nm 3))], .set]⟩
def schema_Valid_l0_ts : List Ty := [.slice (.nm 3), .int .i64, .int .i64, .slice (.nm 3), .slice .str]
def schema_Valid_l0_outs : List OSpec := [⟨.ret, ⟨[(2, .c (.hole (.int .i64)))], []⟩, [], [.int .i64]⟩, ⟨.exit 0, ⟨[], []⟩, [], []⟩]
def schema_Valid_l0_p (F : Hs Un.D schema_Valid_l0_ts → Option (OSum Un schema_Valid_l0_outs)) : LSpec Un := ⟨schema_Valid_l0_sh, [], schema_Valid_l0_ts, schema_Valid_l0_outs, F⟩
def schema_Valid_l0_s : LSpec Un := schema_Valid_l0_p schema_Valid_l0
theorem schema_Valid_l0_snd : LSnd Tryz.prog Tryz.f79.ntmps 0 (loopOf (codeOf Tryz.prog Tryz.f79) 0) schema_Valid_l0_s := fun h o ho => schema_Valid_l0.partial_correctness (fun h o => LAt (U := Un) Tryz.prog Tryz.f79.ntmps 0 (loopOf (codeOf Tryz.prog Tryz.f79) 0) schema_Valid_l0_sh schema_Valid_l0_ts schema_Valid_l0_outs h o) (fun F1 HF1 h o ho => LAt.of_round (fo := foS [schema_form_s, schema_uses_s]) (lo := loL [(0, schema_Valid_l0_0_s)]) (own := []) (F' := F1) (FoSnd.cons F120_b schema_form_snd (FoSnd.cons F121_b schema_uses_snd FoSnd.nil)) (LoOk.snd (LoOk.cons schema_Valid_l0_0_snd LoOk.nil)) HF1 (Eq.trans (by kernel_rfl) ho)) h o ho
def schema_Valid (s : SSchema) : Option (Int) :=
  if decide (32 < (s.Types.length : Int)) = true then
    some 3
  else
    schema_Valid_l0 (s.Types, (s.Types.length : Int), 0, s.Types, []) >>= fun o =>
    match o with
    | .inl o_1 =>
      some o_1
    | .inr o_2 =>
      some 0
def schema_Valid_p (F : Hs Un.D [.nm 5] → Option (Hs Un.D [.int .i64])) : FSpec Un := ⟨79, [.row 5], [], [.nm 5], .c (.hole (.int .i64)), [], [.int .i64], F⟩
def schema_Valid_s : FSpec Un := schema_Valid_p schema_Valid
theorem schema_Valid_snd : FSnd Tryz.prog schema_Valid_s := FSnd.of fun h r hr => FAt.of_body (s := schema_Valid_s) (fo := foS []) (lo := loL [(0, schema_Valid_l0_s)]) Tryz.func79 F79_ok F79_res (by kernel_rfl) FoSnd.nil (LoOk.snd (LoOk.cons schema_Valid_l0_snd LoOk.nil)) (Eq.trans (by kernel_rfl) hr)
def encode_errorOf (x_ : SSchema × Int) : Option (Int) :=
  match x_ with
  | (s, t) =>
  schema_Valid (⟨s.Types⟩ : SSchema) >>= fun r =>
  if (!(decide (r = 0))) = true then
    some r
  else
    if (bif decide (t < 0) then true else decide ((s.Types.length : Int) ≤ t)) = true then
      some 4
    else
      some 0
theorem F52_b : hasBody Tryz.prog 52 = true := by kernel_rfl
theorem F52_ok : Tryz.f52.body.bind (Go.Proofs.YthnmepafpikaiaaGreat.Shv.resolve Tryz.prog Tryz.f52.ntmps) = some (codeOf Tryz.prog Tryz.f52) := by kernel_rfl
theorem F52_res : resolveRes Tryz.prog Tryz.f52.results.toList = some [.tmp 4] := by kernel_rfl
def encode_errorOf_p (F : Hs Un.D [.nm 5, .int .i64] → Option (Hs Un.D [.int .i64])) : FSpec Un := ⟨52, [.row 5, .c (.hole (.int .i64))], [], [.nm 5, .int .i64], .c (.hole (.int .i64)), [], [.int .i64], F⟩
def encode_errorOf_s : FSpec Un := encode_errorOf_p encode_errorOf
theorem encode_errorOf_snd : FSnd Tryz.prog encode_errorOf_s := FSnd.of fun h r hr => FAt.of_body (s := encode_errorOf_s) (fo := foS [schema_Valid_s]) (lo := loL []) Tryz.func52 F52_ok F52_res (by kernel_rfl) (FoSnd.cons F79_b schema_Valid_snd FoSnd.nil) (LoOk.snd LoOk.nil) (Eq.trans (by kernel_rfl) hr)
def value_bare (v : SValue) : Option (SValue) :=
  if decide (v.Kind = 1) = true then
    some (⟨v.Kind, v.Bool_, 0, [], 0, [], [], []⟩ : SValue)
  else
    if decide (v.Kind = 2) = true then
      some (⟨v.Kind, false, v.Int_, [], 0, [], [], []⟩ : SValue)
    else
      if decide (v.Kind = 3) = true then
        some (⟨v.Kind, false, 0, v.Str, 0, [], [], []⟩ : SValue)
      else
        if decide (v.Kind = 4) = true then
          some (⟨v.Kind, false, 0, [], v.ID, [], [], []⟩ : SValue)
        else
          if decide (v.Kind = 5) = true then
            some (⟨v.Kind, false, 0, [], 0, [], v.Items, v.Rest⟩ : SValue)
          else
            if decide (v.Kind = 6) = true then
              some (⟨v.Kind, false, 0, [], v.ID, [], v.Items, v.Rest⟩ : SValue)
            else
              if decide (v.Kind = 8) = true then
                some (⟨v.Kind, false, 0, [], 0, v.Keys, v.Items, []⟩ : SValue)
              else
                some (decide (v.Kind = 7)) >>= fun t57 =>
                if t57 = true then
                  if t57 = true then
                    some (⟨v.Kind, false, 0, [], 0, [], v.Items, []⟩ : SValue)
                  else
                    some (⟨v.Kind, false, 0, [], 0, [], [], []⟩ : SValue)
                else
                  if decide (v.Kind = 9) = true then
                    some (⟨v.Kind, false, 0, [], 0, [], v.Items, []⟩ : SValue)
                  else
                    some (⟨v.Kind, false, 0, [], 0, [], [], []⟩ : SValue)
theorem F171_b : hasBody Tryz.prog 171 = true := by kernel_rfl
theorem F171_ok : Tryz.f171.body.bind (Go.Proofs.YthnmepafpikaiaaGreat.Shv.resolve Tryz.prog Tryz.f171.ntmps) = some (codeOf Tryz.prog Tryz.f171) := by kernel_rfl
theorem F171_res : resolveRes Tryz.prog Tryz.f171.results.toList = some [.cell 2 true 8] := by kernel_rfl
def value_bare_p (F : Hs Un.D [.nm 1] → Option (Hs Un.D [.nm 1])) : FSpec Un := ⟨171, [.row 1], [], [.nm 1], .row 1, [], [.nm 1], F⟩
def value_bare_s : FSpec Un := value_bare_p value_bare
theorem value_bare_snd : FSnd Tryz.prog value_bare_s := FSnd.of fun h r hr => FAt.of_body (s := value_bare_s) (fo := foS []) (lo := loL []) Tryz.func171 F171_ok F171_res (by kernel_rfl) FoSnd.nil (LoOk.snd LoOk.nil) (Eq.trans (by kernel_rfl) hr)
def value_proper (v : SValue) : Option (Bool) :=
  value_bare (SValue.eta v) >>= fun r =>
  some (bif bif bif bif bif bif eqB v.Bool_ r.Bool_ then decide (v.Int_ = r.Int_) else false then decide (v.Str = r.Str) else false then decide (v.ID = r.ID) else false then decide ((v.Keys.length : Int) = (r.Keys.length : Int)) else false then decide ((v.Items.length : Int) = (r.Items.length : Int)) else false then decide ((v.Rest.length : Int) = (r.Rest.length : Int)) else false)
theorem F155_b : hasBody Tryz.prog 155 = true := by kernel_rfl
theorem F155_ok : Tryz.f155.body.bind (Go.Proofs.YthnmepafpikaiaaGreat.Shv.resolve Tryz.prog Tryz.f155.ntmps) = some (codeOf Tryz.prog Tryz.f155) := by kernel_rfl
theorem F155_res : resolveRes Tryz.prog Tryz.f155.results.toList = some [.tmp 2] := by kernel_rfl
def value_proper_p (F : Hs Un.D [.nm 1] → Option (Hs Un.D [.bool])) : FSpec Un := ⟨155, [.row 1], [], [.nm 1], .c (.hole .bool), [], [.bool], F⟩
def value_proper_s : FSpec Un := value_proper_p value_proper
theorem value_proper_snd : FSnd Tryz.prog value_proper_s := FSnd.of fun h r hr => FAt.of_body (s := value_proper_s) (fo := foS [value_bare_s]) (lo := loL []) Tryz.func155 F155_ok F155_res (by kernel_rfl) (FoSnd.cons F171_b value_bare_snd FoSnd.nil) (LoOk.snd LoOk.nil) (Eq.trans (by kernel_rfl) hr)
def schema_Symbol_1 (x_ : SSymbol × Int) : Option (Bool × Int) :=
  match x_ with
  | (x0, b) =>
  some (decide (x0.ID = b), b)
theorem F153_b : hasBody Tryz.prog 153 = true := by kernel_rfl
theorem F153_ok : Tryz.f153.body.bind (Go.Proofs.YthnmepafpikaiaaGreat.Shv.resolve Tryz.prog Tryz.f153.ntmps) = some (codeOf Tryz.prog Tryz.f153) := by kernel_rfl
theorem F153_res : resolveRes Tryz.prog Tryz.f153.results.toList = some [.tmp 3] := by kernel_rfl
def schema_Symbol_1_p (F : Hs Un.D [.nm 4, .int .i64] → Option (Hs Un.D [.bool, .int .i64])) : FSpec Un := ⟨153, [.row 4, .c (.ptr 0 0)], [.box [.hole (.int .i64)]], [.nm 4, .int .i64], .c (.hole .bool), [.box [.hole (.int .i64)]], [.bool, .int .i64], F⟩
def schema_Symbol_1_s : FSpec Un := schema_Symbol_1_p schema_Symbol_1
theorem schema_Symbol_1_snd : FSnd Tryz.prog schema_Symbol_1_s := FSnd.of fun h r hr => FAt.of_body (s := schema_Symbol_1_s) (fo := foS []) (lo := loL []) Tryz.func153 F153_ok F153_res (by kernel_rfl) FoSnd.nil (LoOk.snd LoOk.nil) (Eq.trans (by kernel_rfl) hr)
def slices_IndexFuncapi_Symbol_api_Symbol_l0 (x_ : List SSymbol × Int × Int × Int) : Option ((Int × Int) ⊕ (Int)) :=
  match x_ with
  | (s_1, t7_1, t8, b_3) =>
  if decide (t8 < t7_1) = true then
    if inR t8 s_1.length = true then
      schema_Symbol_1 (s_1.getD t8.toNat dSSymbol, b_3) >>= fun r =>
      if r.1 = true then
        some (.inl (t8, r.2))
      else
        slices_IndexFuncapi_Symbol_api_Symbol_l0 (s_1, t7_1, addI .i64 t8 1, r.2)
    else none
  else
    some (.inr b_3)
  partial_fixpoint
theorem F152_b : hasBody Tryz.prog 152 = true := by kernel_rfl
theorem F152_ok : Tryz.f152.body.bind (Go.Proofs.YthnmepafpikaiaaGreat.Shv.resolve Tryz.prog Tryz.f152.ntmps) = some (codeOf Tryz.prog Tryz.f152) := by kernel_rfl
theorem F152_res : resolveRes Tryz.prog Tryz.f152.results.toList = some [.tmp 4] := by kernel_rfl
def slices_IndexFuncapi_Symbol_api_Symbol_l0_sh : Shape := ⟨[(0, .c (.hole (.slice (.nm 4)))), (1, .c (.fn 153 [0])), (7, .c (.hole (.int .i64))), (8, .c (.hole (.int .i64)))], [.box [.hole (.int .i64)]]⟩
def slices_IndexFuncapi_Symbol_api_Symbol_l0_ts : List Ty := [.slice (.nm 4), .int .i64, .int .i64, .int .i64]
def slices_IndexFuncapi_Symbol_api_Symbol_l0_outs : List OSpec := [⟨.ret, ⟨[(4, .c (.hole (.int .i64)))], [.box [.hole (.int .i64)]]⟩, [], [.int .i64, .int .i64]⟩, ⟨.exit 0, ⟨[], [.box [.hole (.int .i64)]]⟩, [], [.int .i64]⟩]
def slices_IndexFuncapi_Symbol_api_Symbol_l0_p (F : Hs Un.D slices_IndexFuncapi_Symbol_api_Symbol_l0_ts → Option (OSum Un slices_IndexFuncapi_Symbol_api_Symbol_l0_outs)) : LSpec Un := ⟨slices_IndexFuncapi_Symbol_api_Symbol_l0_sh, [], slices_IndexFuncapi_Symbol_api_Symbol_l0_ts, slices_IndexFuncapi_Symbol_api_Symbol_l0_outs, F⟩
def slices_IndexFuncapi_Symbol_api_Symbol_l0_s : LSpec Un := slices_IndexFuncapi_Symbol_api_Symbol_l0_p slices_IndexFuncapi_Symbol_api_Symbol_l0
theorem slices_IndexFuncapi_Symbol_api_Symbol_l0_snd : LSnd Tryz.prog Tryz.f152.ntmps 1 (loopOf (codeOf Tryz.prog Tryz.f152) 0) slices_IndexFuncapi_Symbol_api_Symbol_l0_s := fun h o ho => slices_IndexFuncapi_Symbol_api_Symbol_l0.partial_correctness (fun h o => LAt (U := Un) Tryz.prog Tryz.f152.ntmps 1 (loopOf (codeOf Tryz.prog Tryz.f152) 0) slices_IndexFuncapi_Symbol_api_Symbol_l0_sh slices_IndexFuncapi_Symbol_api_Symbol_l0_ts slices_IndexFuncapi_Symbol_api_Symbol_l0_outs h o) (fun F1 HF1 h o ho => LAt.of_round (fo := foS [schema_Symbol_1_s]) (lo := loL []) (own := []) (F' := F1) (FoSnd.cons F153_b schema_Symbol_1_snd FoSnd.nil) (LoOk.snd LoOk.nil) HF1 (Eq.trans (by kernel_rfl) ho)) h o ho
def slices_IndexFuncapi_Symbol_api_Symbol (x_ : List SSymbol × Int) : Option (Int × Int) :=
  match x_ with
  | (s, b) =>
  slices_IndexFuncapi_Symbol_api_Symbol_l0 (s, (s.length : Int), 0, b) >>= fun o =>
  match o with
  | .inl o_1 =>
    some (o_1.1, o_1.2)
  | .inr o_2 =>
    some ((-1), o_2)
def slices_IndexFuncapi_Symbol_api_Symbol_p (F : Hs Un.D [.slice (.nm 4), .int .i64] → Option (Hs Un.D [.int .i64, .int .i64])) : FSpec Un := ⟨152, [.c (.hole (.slice (.nm 4))), .c (.fn 153 [0])], [.box [.hole (.int .i64)]], [.slice (.nm 4), .int .i64], .c (.hole (.int .i64)), [.box [.hole (.int .i64)]], [.int .i64, .int .i64], F⟩
def slices_IndexFuncapi_Symbol_api_Symbol_s : FSpec Un := slices_IndexFuncapi_Symbol_api_Symbol_p slices_IndexFuncapi_Symbol_api_Symbol
theorem slices_IndexFuncapi_Symbol_api_Symbol_snd : FSnd Tryz.prog slices_IndexFuncapi_Symbol_api_Symbol_s := FSnd.of fun h r hr => FAt.of_body (s := slices_IndexFuncapi_Symbol_api_Symbol_s) (fo := foS []) (lo := loL [(0, slices_IndexFuncapi_Symbol_api_Symbol_l0_s)]) Tryz.func152 F152_ok F152_res (by kernel_rfl) FoSnd.nil (LoOk.snd (LoOk.cons slices_IndexFuncapi_Symbol_api_Symbol_l0_snd LoOk.nil)) (Eq.trans (by kernel_rfl) hr)
def schema_Symbol (x_ : SType × Int) : Option (Int × Bool) :=
  match x_ with
  | (t, id) =>
  slices_IndexFuncapi_Symbol_api_Symbol (t.Symbols, id) >>= fun r =>
  some (maxI r.1 0, decide (0 ≤ r.1))
theorem F129_b : hasBody Tryz.prog 129 = true := by kernel_rfl
theorem F129_ok : Tryz.f129.body.bind (Go.Proofs.YthnmepafpikaiaaGreat.Shv.resolve Tryz.prog Tryz.f129.ntmps) = some (codeOf Tryz.prog Tryz.f129) := by kernel_rfl
theorem F129_res : resolveRes Tryz.prog Tryz.f129.results.toList = some [.tmp 4, .tmp 5] := by kernel_rfl
def schema_Symbol_p (F : Hs Un.D [.nm 3, .int .i64] → Option (Hs Un.D [.int .i64, .bool])) : FSpec Un := ⟨129, [.row 3, .c (.hole (.int .i64))], [], [.nm 3, .int .i64], .tup [.c (.hole (.int .i64)), .c (.hole .bool)], [], [.int .i64, .bool], F⟩
def schema_Symbol_s : FSpec Un := schema_Symbol_p schema_Symbol
theorem schema_Symbol_snd : FSnd Tryz.prog schema_Symbol_s := FSnd.of fun h r hr => FAt.of_body (s := schema_Symbol_s) (fo := foS [slices_IndexFuncapi_Symbol_api_Symbol_s]) (lo := loL []) Tryz.func129 F129_ok F129_res (by kernel_rfl) (FoSnd.cons F152_b slices_IndexFuncapi_Symbol_api_Symbol_snd FoSnd.nil) (LoOk.snd LoOk.nil) (Eq.trans (by kernel_rfl) hr)
def value_free (id : Int) : Option (Bool) :=
  some (bif decide (1 ≤ id) then decide (id ≤ 1000) else false)
theorem F156_b : hasBody Tryz.prog 156 = true := by kernel_rfl
theorem F156_ok : Tryz.f156.body.bind (Go.Proofs.YthnmepafpikaiaaGreat.Shv.resolve Tryz.prog Tryz.f156.ntmps) = some (codeOf Tryz.prog Tryz.f156) := by kernel_rfl
theorem F156_res : resolveRes Tryz.prog Tryz.f156.results.toList = some [.tmp 2] := by kernel_rfl
def value_free_p (F : Hs Un.D [.int .i64] → Option (Hs Un.D [.bool])) : FSpec Un := ⟨156, [.c (.hole (.int .i64))], [], [.int .i64], .c (.hole .bool), [], [.bool], F⟩
def value_free_s : FSpec Un := value_free_p value_free
theorem value_free_snd : FSnd Tryz.prog value_free_s := FSnd.of fun h r hr => FAt.of_body (s := value_free_s) (fo := foS []) (lo := loL []) Tryz.func156 F156_ok F156_res (by kernel_rfl) FoSnd.nil (LoOk.snd LoOk.nil) (Eq.trans (by kernel_rfl) hr)
def schema_Member_1 (x_ : SMember × Int) : Option (Bool × Int) :=
  match x_ with
  | (m, b) =>
  some (decide (m.ID = b), b)
theorem F126_b : hasBody Tryz.prog 126 = true := by kernel_rfl
theorem F126_ok : Tryz.f126.body.bind (Go.Proofs.YthnmepafpikaiaaGreat.Shv.resolve Tryz.prog Tryz.f126.ntmps) = some (codeOf Tryz.prog Tryz.f126) := by kernel_rfl
theorem F126_res : resolveRes Tryz.prog Tryz.f126.results.toList = some [.tmp 3] := by kernel_rfl
def schema_Member_1_p (F : Hs Un.D [.nm 0, .int .i64] → Option (Hs Un.D [.bool, .int .i64])) : FSpec Un := ⟨126, [.row 0, .c (.ptr 0 0)], [.box [.hole (.int .i64)]], [.nm 0, .int .i64], .c (.hole .bool), [.box [.hole (.int .i64)]], [.bool, .int .i64], F⟩
def schema_Member_1_s : FSpec Un := schema_Member_1_p schema_Member_1
theorem schema_Member_1_snd : FSnd Tryz.prog schema_Member_1_s := FSnd.of fun h r hr => FAt.of_body (s := schema_Member_1_s) (fo := foS []) (lo := loL []) Tryz.func126 F126_ok F126_res (by kernel_rfl) FoSnd.nil (LoOk.snd LoOk.nil) (Eq.trans (by kernel_rfl) hr)
def slices_IndexFuncapi_Member_api_Member_l0 (x_ : List SMember × Int × Int × Int) : Option ((Int × Int) ⊕ (Int)) :=
  match x_ with
  | (s_1, t7_1, t8, b_3) =>
  if decide (t8 < t7_1) = true then
    if inR t8 s_1.length = true then
      some (s_1.getD t8.toNat dSMember) >>= fun x0 =>
      schema_Member_1 ((⟨x0.ID, x0.Name, x0.Type_, x0.Critical, x0.HasDefault, SValue.eta x0.Default⟩ : SMember), b_3) >>= fun r =>
      if r.1 = true then
        some (.inl (t8, r.2))
      else
        slices_IndexFuncapi_Member_api_Member_l0 (s_1, t7_1, addI .i64 t8 1, r.2)
    else none
  else
    some (.inr b_3)
  partial_fixpoint
theorem F125_b : hasBody Tryz.prog 125 = true := by kernel_rfl
theorem F125_ok : Tryz.f125.body.bind (Go.Proofs.YthnmepafpikaiaaGreat.Shv.resolve Tryz.prog Tryz.f125.ntmps) = some (codeOf Tryz.prog Tryz.f125) := by kernel_rfl
theorem F125_res : resolveRes Tryz.prog Tryz.f125.results.toList = some [.tmp 4] := by kernel_rfl
def slices_IndexFuncapi_Member_api_Member_l0_sh : Shape := ⟨[(0, .c (.hole (.slice (.nm 0)))), (1, .c (.fn 126 [0])), (7, .c (.hole (.int .i64))), (8, .c (.hole (.int .i64)))], [.box [.hole (.int .i64)]]⟩
def slices_IndexFuncapi_Member_api_Member_l0_ts : List Ty := [.slice (.nm 0), .int .i64, .int .i64, .int .i64]
def slices_IndexFuncapi_Member_api_Member_l0_outs : List OSpec := [⟨.ret, ⟨[(4, .c (.hole (.int .i64)))], [.box [.hole (.int .i64)]]⟩, [], [.int .i64, .int .i64]⟩, ⟨.exit 0, ⟨[], [.box [.hole (.int .i64)]]⟩, [], [.int .i64]⟩]
def slices_IndexFuncapi_Member_api_Member_l0_p (F : Hs Un.D slices_IndexFuncapi_Member_api_Member_l0_ts → Option (OSum Un slices_IndexFuncapi_Member_api_Member_l0_outs)) : LSpec Un := ⟨slices_IndexFuncapi_Member_api_Member_l0_sh, [], slices_IndexFuncapi_Member_api_Member_l0_ts, slices_IndexFuncapi_Member_api_Member_l0_outs, F⟩
def slices_IndexFuncapi_Member_api_Member_l0_s : LSpec Un := slices_IndexFuncapi_Member_api_Member_l0_p slices_IndexFuncapi_Member_api_Member_l0
theorem slices_IndexFuncapi_Member_api_Member_l0_snd : LSnd Tryz.prog Tryz.f125.ntmps 1 (loopOf (codeOf Tryz.prog Tryz.f125) 0) slices_IndexFuncapi_Member_api_Member_l0_s := fun h o ho => slices_IndexFuncapi_Member_api_Member_l0.partial_correctness (fun h o => LAt (U := Un) Tryz.prog Tryz.f125.ntmps 1 (loopOf (codeOf Tryz.prog Tryz.f125) 0) slices_IndexFuncapi_Member_api_Member_l0_sh slices_IndexFuncapi_Member_api_Member_l0_ts slices_IndexFuncapi_Member_api_Member_l0_outs h o) (fun F1 HF1 h o ho => LAt.of_round (fo := foS [schema_Member_1_s]) (lo := loL []) (own := []) (F' := F1) (FoSnd.cons F126_b schema_Member_1_snd FoSnd.nil) (LoOk.snd LoOk.nil) HF1 (Eq.trans (by kernel_rfl) ho)) h o ho
def slices_IndexFuncapi_Member_api_Member (x_ : List SMember × Int) : Option (Int × Int) :=
  match x_ with
  | (s, b) =>
  slices_IndexFuncapi_Member_api_Member_l0 (s, (s.length : Int), 0, b) >>= fun o =>
  match o with
  | .inl o_1 =>
    some (o_1.1, o_1.2)
  | .inr o_2 =>
    some ((-1), o_2)
def slices_IndexFuncapi_Member_api_Member_p (F : Hs Un.D [.slice (.nm 0), .int .i64] → Option (Hs Un.D [.int .i64, .int .i64])) : FSpec Un := ⟨125, [.c (.hole (.slice (.nm 0))), .c (.fn 126 [0])], [.box [.hole (.int .i64)]], [.slice (.nm 0), .int .i64], .c (.hole (.int .i64)), [.box [.hole (.int .i64)]], [.int .i64, .int .i64], F⟩
def slices_IndexFuncapi_Member_api_Member_s : FSpec Un := slices_IndexFuncapi_Member_api_Member_p slices_IndexFuncapi_Member_api_Member
theorem slices_IndexFuncapi_Member_api_Member_snd : FSnd Tryz.prog slices_IndexFuncapi_Member_api_Member_s := FSnd.of fun h r hr => FAt.of_body (s := slices_IndexFuncapi_Member_api_Member_s) (fo := foS []) (lo := loL [(0, slices_IndexFuncapi_Member_api_Member_l0_s)]) Tryz.func125 F125_ok F125_res (by kernel_rfl) FoSnd.nil (LoOk.snd (LoOk.cons slices_IndexFuncapi_Member_api_Member_l0_snd LoOk.nil)) (Eq.trans (by kernel_rfl) hr)
def schema_Member (x_ : SType × Int) : Option (Int × Bool) :=
  match x_ with
  | (t, id) =>
  slices_IndexFuncapi_Member_api_Member (t.Members, id) >>= fun r =>
  some (maxI r.1 0, decide (0 ≤ r.1))
theorem F82_b : hasBody Tryz.prog 82 = true := by kernel_rfl
theorem F82_ok : Tryz.f82.body.bind (Go.Proofs.YthnmepafpikaiaaGreat.Shv.resolve Tryz.prog Tryz.f82.ntmps) = some (codeOf Tryz.prog Tryz.f82) := by kernel_rfl
theorem F82_res : resolveRes Tryz.prog Tryz.f82.results.toList = some [.tmp 4, .tmp 5] := by kernel_rfl
def schema_Member_p (F : Hs Un.D [.nm 3, .int .i64] → Option (Hs Un.D [.int .i64, .bool])) : FSpec Un := ⟨82, [.row 3, .c (.hole (.int .i64))], [], [.nm 3, .int .i64], .tup [.c (.hole (.int .i64)), .c (.hole .bool)], [], [.int .i64, .bool], F⟩
def schema_Member_s : FSpec Un := schema_Member_p schema_Member
theorem schema_Member_snd : FSnd Tryz.prog schema_Member_s := FSnd.of fun h r hr => FAt.of_body (s := schema_Member_s) (fo := foS [slices_IndexFuncapi_Member_api_Member_s]) (lo := loL []) Tryz.func82 F82_ok F82_res (by kernel_rfl) (FoSnd.cons F125_b slices_IndexFuncapi_Member_api_Member_snd FoSnd.nil) (LoOk.snd LoOk.nil) (Eq.trans (by kernel_rfl) hr)
end Go.Proofs.YthnmepafpikaiaaGreat

namespace Go.Proofs.YthnmepafpikaiaaGreat
open Go Go.Proofs.YthnmepafpikaiaaGreat.Shv
set_option maxRecDepth 100000
set_option linter.all false

def value_fits_l0 (x_ : Bool × List SRaw × Int × Int × List SType × SValue × Int × List UInt8 × Int × Int × Int × List SSymbol × List SMember × Int × Int × Bool) : Option ((Bool) ⊕ (Bool × List SType × Int × Bool × Int × List UInt8 × Int × List SValue × List SValue × List SRaw × Int × List UInt8 × Int × Int × Int × List SSymbol × List SMember × Int × Int × Bool)) :=
  match x_ with
  | (plain_3, t111, t112_1, t113, b_31, b_32, b_33, b_34, b_35, b_36, b_37, b_38, b_39, b_40, b_41, b_42) =>
  if decide (t113 < t112_1) = true then
    if inR t113 t111.length = true then
      some (t111.getD t113.toNat dSRaw) >>= fun x0_4 =>
      schema_Member ((⟨b_33, b_34, b_35, b_36, b_37, b_38, b_39, b_40, b_41, b_42⟩ : SType), x0_4.ID) >>= fun r_14 =>
      (if (!r_14.2) = true then value_free x0_4.ID else some false) >>= fun r_17 =>
      some (bif r_14.2 then true else (!r_17)) >>= fun t131 =>
      some (decide (0 < t113)) >>= fun t134 =>
      some (subI .i64 t113 1) >>= fun t141 =>
      if (inR t141 b_32.Rest.length || (!((!t131) && t134))) = true then
        if (bif t131 then true else bif t134 then decide (x0_4.ID ≤ (b_32.Rest.getD t141.toNat dSRaw).ID) else false) = true then
          some (.inl false)
        else
          value_fits_l0 (plain_3, t111, t112_1, addI .i64 t113 1, b_31, SValue.eta b_32, b_33, b_34, b_35, b_36, b_37, b_38, b_39, b_40, b_41, b_42)
      else none
    else none
  else
    some (.inr (plain_3, b_31, b_32.Kind, b_32.Bool_, b_32.Int_, b_32.Str, b_32.ID, b_32.Keys, b_32.Items, b_32.Rest, b_33, b_34, b_35, b_36, b_37, b_38, b_39, b_40, b_41, b_42))
  partial_fixpoint
theorem F132_b : hasBody Tryz.prog 132 = true := by kernel_rfl
theorem F132_ok : Tryz.f132.body.bind (Go.Proofs.YthnmepafpikaiaaGreat.Shv.resolve Tryz.prog Tryz.f132.ntmps) = some (codeOf Tryz.prog Tryz.f132) := by kernel_rfl
theorem F132_res : resolveRes Tryz.prog Tryz.f132.results.toList = some [.tmp 8] := by kernel_rfl
def value_fits_l0_sh : Shape := ⟨[(3, .c (.hole .bool)), (4, .c (.ptr 0 0)), (6, .c (.ptr 1 0)), (9, .c (.ptr 2 0)), (111, .c (.hole (.slice (.nm 2)))), (112, .c (.hole (.int .i64))), (113, .c (.hole (.int .i64)))], [.box [.hole (.slice (.nm 3))], .brow 1, .box [.hole (.int .i64), .hole .str, .hole (.int .i64), .hole (.int .i64), .hole (.int .i64), .hole (.slice (.nm 4)), .hole (.slice (.nm 0)), .hole (.int .i64), .hole (.int .i64), .hole .bool]]⟩
def value_fits_l0_ts : List Ty := [.bool, .slice (.nm 2), .int .i64, .int .i64, .slice (.nm 3), .nm 1, .int .i64, .str, .int .i64, .int .i64, .int .i64, .slice (.nm 4), .slice (.nm 0), .int .i64, .int .i64, .bool]
def value_fits_l0_outs : List OSpec := [⟨.ret, ⟨[(8, .c (.hole .bool))], []⟩, [], [.bool]⟩, ⟨.exit 1, ⟨[(3, .c (.hole .bool)), (4, .c (.ptr 0 0)), (6, .c (.ptr 1 0)), (9, .c (.ptr 2 0))], [.box [.hole (.slice (.nm 3))], .box [.hole (.int .i64), .hole .bool, .hole (.int .i64), .hole .str, .hole (.int .i64), .hole (.slice (.nm 1)), .hole (.slice (.nm 1)), .hole (.slice (.nm 2))], .box [.hole (.int .i64), .hole .str, .hole (.int .i64), .hole (.int .i64), .hole (.int .i64), .hole (.slice (.nm 4)), .hole (.slice (.nm 0)), .hole (.int .i64), .hole (.int .i64), .hole .bool]]⟩, [], [.bool, .slice (.nm 3), .int .i64, .bool, .int .i64, .str, .int .i64, .slice (.nm 1), .slice (.nm 1), .slice (.nm 2), .int .i64, .str, .int .i64, .int .i64, .int .i64, .slice (.nm 4), .slice (.nm 0), .int .i64, .int .i64, .bool]⟩]
def value_fits_l0_p (F : Hs Un.D value_fits_l0_ts → Option (OSum Un value_fits_l0_outs)) : LSpec Un := ⟨value_fits_l0_sh, [], value_fits_l0_ts, value_fits_l0_outs, F⟩
def value_fits_l0_s : LSpec Un := value_fits_l0_p value_fits_l0
theorem value_fits_l0_snd : LSnd Tryz.prog Tryz.f132.ntmps 0 (loopOf (codeOf Tryz.prog Tryz.f132) 0) value_fits_l0_s := fun h o ho => value_fits_l0.partial_correctness (fun h o => LAt (U := Un) Tryz.prog Tryz.f132.ntmps 0 (loopOf (codeOf Tryz.prog Tryz.f132) 0) value_fits_l0_sh value_fits_l0_ts value_fits_l0_outs h o) (fun F1 HF1 h o ho => LAt.of_round (fo := foS [schema_Member_s, value_free_s]) (lo := loL []) (own := []) (F' := F1) (FoSnd.cons F82_b schema_Member_snd (FoSnd.cons F156_b value_free_snd FoSnd.nil)) (LoOk.snd LoOk.nil) HF1 (Eq.trans (by kernel_rfl) ho)) h o ho
def cmp_isNaN (x0 : Int) : Option (Bool) :=
  some (!(decide (x0 = x0)))
theorem F190_b : hasBody Tryz.prog 190 = true := by kernel_rfl
theorem F190_ok : Tryz.f190.body.bind (Go.Proofs.YthnmepafpikaiaaGreat.Shv.resolve Tryz.prog Tryz.f190.ntmps) = some (codeOf Tryz.prog Tryz.f190) := by kernel_rfl
theorem F190_res : resolveRes Tryz.prog Tryz.f190.results.toList = some [.tmp 2] := by kernel_rfl
def cmp_isNaN_p (F : Hs Un.D [.int .u64] → Option (Hs Un.D [.bool])) : FSpec Un := ⟨190, [.c (.hole (.int .u64))], [], [.int .u64], .c (.hole .bool), [], [.bool], F⟩
def cmp_isNaN_s : FSpec Un := cmp_isNaN_p cmp_isNaN
theorem cmp_isNaN_snd : FSnd Tryz.prog cmp_isNaN_s := FSnd.of fun h r hr => FAt.of_body (s := cmp_isNaN_s) (fo := foS []) (lo := loL []) Tryz.func190 F190_ok F190_res (by kernel_rfl) FoSnd.nil (LoOk.snd LoOk.nil) (Eq.trans (by kernel_rfl) hr)
def cmp_Compare (x_ : Int × Int) : Option (Int) :=
  match x_ with
  | (x0, y) =>
  cmp_isNaN x0 >>= fun r =>
  cmp_isNaN y >>= fun r_1 =>
  if r = true then
    if r_1 = true then
      some 0
    else
      some (-1)
  else
    if r_1 = true then
      some 1
    else
      if decide (x0 < y) = true then
        some (-1)
      else
        if decide (y < x0) = true then
          some 1
        else
          some 0
theorem F174_b : hasBody Tryz.prog 174 = true := by kernel_rfl
theorem F174_ok : Tryz.f174.body.bind (Go.Proofs.YthnmepafpikaiaaGreat.Shv.resolve Tryz.prog Tryz.f174.ntmps) = some (codeOf Tryz.prog Tryz.f174) := by kernel_rfl
theorem F174_res : resolveRes Tryz.prog Tryz.f174.results.toList = some [.tmp 4] := by kernel_rfl
def cmp_Compare_p (F : Hs Un.D [.int .u64, .int .u64] → Option (Hs Un.D [.int .i64])) : FSpec Un := ⟨174, [.c (.hole (.int .u64)), .c (.hole (.int .u64))], [], [.int .u64, .int .u64], .c (.hole (.int .i64)), [], [.int .i64], F⟩
def cmp_Compare_s : FSpec Un := cmp_Compare_p cmp_Compare
theorem cmp_Compare_snd : FSnd Tryz.prog cmp_Compare_s := FSnd.of fun h r hr => FAt.of_body (s := cmp_Compare_s) (fo := foS [cmp_isNaN_s]) (lo := loL []) Tryz.func174 F174_ok F174_res (by kernel_rfl) (FoSnd.cons F190_b cmp_isNaN_snd FoSnd.nil) (LoOk.snd LoOk.nil) (Eq.trans (by kernel_rfl) hr)
def cmp_isNaN_2 (x0 : Int) : Option (Bool) :=
  some (!(decide (x0 = x0)))
theorem F162_b : hasBody Tryz.prog 162 = true := by kernel_rfl
theorem F162_ok : Tryz.f162.body.bind (Go.Proofs.YthnmepafpikaiaaGreat.Shv.resolve Tryz.prog Tryz.f162.ntmps) = some (codeOf Tryz.prog Tryz.f162) := by kernel_rfl
theorem F162_res : resolveRes Tryz.prog Tryz.f162.results.toList = some [.tmp 2] := by kernel_rfl
def cmp_isNaN_2_p (F : Hs Un.D [.int .i64] → Option (Hs Un.D [.bool])) : FSpec Un := ⟨162, [.c (.hole (.int .i64))], [], [.int .i64], .c (.hole .bool), [], [.bool], F⟩
def cmp_isNaN_2_s : FSpec Un := cmp_isNaN_2_p cmp_isNaN_2
theorem cmp_isNaN_2_snd : FSnd Tryz.prog cmp_isNaN_2_s := FSnd.of fun h r hr => FAt.of_body (s := cmp_isNaN_2_s) (fo := foS []) (lo := loL []) Tryz.func162 F162_ok F162_res (by kernel_rfl) FoSnd.nil (LoOk.snd LoOk.nil) (Eq.trans (by kernel_rfl) hr)
def cmp_Compare_2 (x_ : Int × Int) : Option (Int) :=
  match x_ with
  | (x0, y) =>
  cmp_isNaN_2 x0 >>= fun r =>
  cmp_isNaN_2 y >>= fun r_1 =>
  if r = true then
    if r_1 = true then
      some 0
    else
      some (-1)
  else
    if r_1 = true then
      some 1
    else
      if decide (x0 < y) = true then
        some (-1)
      else
        if decide (y < x0) = true then
          some 1
        else
          some 0
theorem F136_b : hasBody Tryz.prog 136 = true := by kernel_rfl
theorem F136_ok : Tryz.f136.body.bind (Go.Proofs.YthnmepafpikaiaaGreat.Shv.resolve Tryz.prog Tryz.f136.ntmps) = some (codeOf Tryz.prog Tryz.f136) := by kernel_rfl
theorem F136_res : resolveRes Tryz.prog Tryz.f136.results.toList = some [.tmp 4] := by kernel_rfl
def cmp_Compare_2_p (F : Hs Un.D [.int .i64, .int .i64] → Option (Hs Un.D [.int .i64])) : FSpec Un := ⟨136, [.c (.hole (.int .i64)), .c (.hole (.int .i64))], [], [.int .i64, .int .i64], .c (.hole (.int .i64)), [], [.int .i64], F⟩
def cmp_Compare_2_s : FSpec Un := cmp_Compare_2_p cmp_Compare_2
theorem cmp_Compare_2_snd : FSnd Tryz.prog cmp_Compare_2_s := FSnd.of fun h r hr => FAt.of_body (s := cmp_Compare_2_s) (fo := foS [cmp_isNaN_2_s]) (lo := loL []) Tryz.func136 F136_ok F136_res (by kernel_rfl) (FoSnd.cons F162_b cmp_isNaN_2_snd FoSnd.nil) (LoOk.snd LoOk.nil) (Eq.trans (by kernel_rfl) hr)
def cmp_isNaN_3 (x0 : List UInt8) : Option (Bool) :=
  some (!(decide (x0 = x0)))
theorem F191_b : hasBody Tryz.prog 191 = true := by kernel_rfl
theorem F191_ok : Tryz.f191.body.bind (Go.Proofs.YthnmepafpikaiaaGreat.Shv.resolve Tryz.prog Tryz.f191.ntmps) = some (codeOf Tryz.prog Tryz.f191) := by kernel_rfl
theorem F191_res : resolveRes Tryz.prog Tryz.f191.results.toList = some [.tmp 2] := by kernel_rfl
def cmp_isNaN_3_p (F : Hs Un.D [.str] → Option (Hs Un.D [.bool])) : FSpec Un := ⟨191, [.c (.hole .str)], [], [.str], .c (.hole .bool), [], [.bool], F⟩
def cmp_isNaN_3_s : FSpec Un := cmp_isNaN_3_p cmp_isNaN_3
theorem cmp_isNaN_3_snd : FSnd Tryz.prog cmp_isNaN_3_s := FSnd.of fun h r hr => FAt.of_body (s := cmp_isNaN_3_s) (fo := foS []) (lo := loL []) Tryz.func191 F191_ok F191_res (by kernel_rfl) FoSnd.nil (LoOk.snd LoOk.nil) (Eq.trans (by kernel_rfl) hr)
def cmp_Compare_3 (x_ : List UInt8 × List UInt8) : Option (Int) :=
  match x_ with
  | (x0, y) =>
  cmp_isNaN_3 x0 >>= fun r =>
  cmp_isNaN_3 y >>= fun r_1 =>
  if r = true then
    if r_1 = true then
      some 0
    else
      some (-1)
  else
    if r_1 = true then
      some 1
    else
      if Op.bytesLess x0 y = true then
        some (-1)
      else
        if (!(Op.bytesLess x0 y || decide (x0 = y))) = true then
          some 1
        else
          some 0
theorem F176_b : hasBody Tryz.prog 176 = true := by kernel_rfl
theorem F176_ok : Tryz.f176.body.bind (Go.Proofs.YthnmepafpikaiaaGreat.Shv.resolve Tryz.prog Tryz.f176.ntmps) = some (codeOf Tryz.prog Tryz.f176) := by kernel_rfl
theorem F176_res : resolveRes Tryz.prog Tryz.f176.results.toList = some [.tmp 4] := by kernel_rfl
def cmp_Compare_3_p (F : Hs Un.D [.str, .str] → Option (Hs Un.D [.int .i64])) : FSpec Un := ⟨176, [.c (.hole .str), .c (.hole .str)], [], [.str, .str], .c (.hole (.int .i64)), [], [.int .i64], F⟩
def cmp_Compare_3_s : FSpec Un := cmp_Compare_3_p cmp_Compare_3
theorem cmp_Compare_3_snd : FSnd Tryz.prog cmp_Compare_3_s := FSnd.of fun h r hr => FAt.of_body (s := cmp_Compare_3_s) (fo := foS [cmp_isNaN_3_s]) (lo := loL []) Tryz.func176 F176_ok F176_res (by kernel_rfl) (FoSnd.cons F191_b cmp_isNaN_3_snd FoSnd.nil) (LoOk.snd LoOk.nil) (Eq.trans (by kernel_rfl) hr)
def cmp_Or_l0 (x_ : Int × List Int × Int × Int) : Option ((Int) ⊕ (Int)) :=
  match x_ with
  | (zero_1, t6, t7_1, t8) =>
  if decide (t8 < t7_1) = true then
    if inR t8 t6.length = true then
      some (t6.getD t8.toNat 0) >>= fun x0 =>
      if (!(decide (x0 = zero_1))) = true then
        some (.inl x0)
      else
        cmp_Or_l0 (zero_1, t6, t7_1, addI .i64 t8 1)
    else none
  else
    some (.inr zero_1)
  partial_fixpoint
theorem F175_b : hasBody Tryz.prog 175 = true := by kernel_rfl
theorem F175_ok : Tryz.f175.body.bind (Go.Proofs.YthnmepafpikaiaaGreat.Shv.resolve Tryz.prog Tryz.f175.ntmps) = some (codeOf Tryz.prog Tryz.f175) := by kernel_rfl
theorem F175_res : resolveRes Tryz.prog Tryz.f175.results.toList = some [.tmp 2] := by kernel_rfl
def cmp_Or_l0_sh : Shape := ⟨[(3, .c (.hole (.int .i64))), (6, .c (.hole (.slice (.int .i64)))), (7, .c (.hole (.int .i64))), (8, .c (.hole (.int .i64)))], []⟩
def cmp_Or_l0_ts : List Ty := [.int .i64, .slice (.int .i64), .int .i64, .int .i64]
def cmp_Or_l0_outs : List OSpec := [⟨.ret, ⟨[(2, .c (.hole (.int .i64)))], []⟩, [], [.int .i64]⟩, ⟨.exit 0, ⟨[(3, .c (.hole (.int .i64)))], []⟩, [], [.int .i64]⟩]
def cmp_Or_l0_p (F : Hs Un.D cmp_Or_l0_ts → Option (OSum Un cmp_Or_l0_outs)) : LSpec Un := ⟨cmp_Or_l0_sh, [], cmp_Or_l0_ts, cmp_Or_l0_outs, F⟩
def cmp_Or_l0_s : LSpec Un := cmp_Or_l0_p cmp_Or_l0
theorem cmp_Or_l0_snd : LSnd Tryz.prog Tryz.f175.ntmps 0 (loopOf (codeOf Tryz.prog Tryz.f175) 0) cmp_Or_l0_s := fun h o ho => cmp_Or_l0.partial_correctness (fun h o => LAt (U := Un) Tryz.prog Tryz.f175.ntmps 0 (loopOf (codeOf Tryz.prog Tryz.f175) 0) cmp_Or_l0_sh cmp_Or_l0_ts cmp_Or_l0_outs h o) (fun F1 HF1 h o ho => LAt.of_round (fo := foS []) (lo := loL []) (own := []) (F' := F1) FoSnd.nil (LoOk.snd LoOk.nil) HF1 (Eq.trans (by kernel_rfl) ho)) h o ho
def cmp_Or (vals : List Int) : Option (Int) :=
  cmp_Or_l0 (0, vals, (vals.length : Int), 0) >>= fun o =>
  match o with
  | .inl o_1 =>
    some o_1
  | .inr o_2 =>
    some o_2
def cmp_Or_p (F : Hs Un.D [.slice (.int .i64)] → Option (Hs Un.D [.int .i64])) : FSpec Un := ⟨175, [.c (.hole (.slice (.int .i64)))], [], [.slice (.int .i64)], .c (.hole (.int .i64)), [], [.int .i64], F⟩
def cmp_Or_s : FSpec Un := cmp_Or_p cmp_Or
theorem cmp_Or_snd : FSnd Tryz.prog cmp_Or_s := FSnd.of fun h r hr => FAt.of_body (s := cmp_Or_s) (fo := foS []) (lo := loL [(0, cmp_Or_l0_s)]) Tryz.func175 F175_ok F175_res (by kernel_rfl) FoSnd.nil (LoOk.snd (LoOk.cons cmp_Or_l0_snd LoOk.nil)) (Eq.trans (by kernel_rfl) hr)
def varint_Zigzag (n : Int) : Option (Int) :=
  some (xorI .u64 (shlI .u64 (wrp .u64 n) 1) (wrp .u64 (shrI .i64 n 63)))
theorem F97_b : hasBody Tryz.prog 97 = true := by kernel_rfl
theorem F97_ok : Tryz.f97.body.bind (Go.Proofs.YthnmepafpikaiaaGreat.Shv.resolve Tryz.prog Tryz.f97.ntmps) = some (codeOf Tryz.prog Tryz.f97) := by kernel_rfl
theorem F97_res : resolveRes Tryz.prog Tryz.f97.results.toList = some [.tmp 2] := by kernel_rfl
def varint_Zigzag_p (F : Hs Un.D [.int .i64] → Option (Hs Un.D [.int .u64])) : FSpec Un := ⟨97, [.c (.hole (.int .i64))], [], [.int .i64], .c (.hole (.int .u64)), [], [.int .u64], F⟩
def varint_Zigzag_s : FSpec Un := varint_Zigzag_p varint_Zigzag
theorem varint_Zigzag_snd : FSnd Tryz.prog varint_Zigzag_s := FSnd.of fun h r hr => FAt.of_body (s := varint_Zigzag_s) (fo := foS []) (lo := loL []) Tryz.func97 F97_ok F97_res (by kernel_rfl) FoSnd.nil (LoOk.snd LoOk.nil) (Eq.trans (by kernel_rfl) hr)
def value_Compare (x_ : SValue × SValue) : Option (Int) :=
  match x_ with
  | (a, b) =>
  if (!(decide (a.Kind = b.Kind))) = true then
    some 0
  else
    if decide (a.Kind = 1) = true then
      if eqB a.Bool_ b.Bool_ = true then
        some 0
      else
        if b.Bool_ = true then
          some (-1)
        else
          some 1
    else
      if decide (a.Kind = 2) = true then
        varint_Zigzag a.Int_ >>= fun r =>
        varint_Zigzag b.Int_ >>= fun r_1 =>
        cmp_Compare (r, r_1) >>= fun r_2 =>
        some r_2
      else
        if decide (a.Kind = 3) = true then
          cmp_Compare_2 ((a.Str.length : Int), (b.Str.length : Int)) >>= fun r_3 =>
          cmp_Compare_3 (a.Str, b.Str) >>= fun r_4 =>
          cmp_Or [r_3, r_4] >>= fun r_5 =>
          some r_5
        else
          if decide (a.Kind = 4) = true then
            cmp_Compare_2 (a.ID, b.ID) >>= fun r_6 =>
            some r_6
          else
            some 0
theorem F158_b : hasBody Tryz.prog 158 = true := by kernel_rfl
theorem F158_ok : Tryz.f158.body.bind (Go.Proofs.YthnmepafpikaiaaGreat.Shv.resolve Tryz.prog Tryz.f158.ntmps) = some (codeOf Tryz.prog Tryz.f158) := by kernel_rfl
theorem F158_res : resolveRes Tryz.prog Tryz.f158.results.toList = some [.tmp 4] := by kernel_rfl
def value_Compare_p (F : Hs Un.D [.nm 1, .nm 1] → Option (Hs Un.D [.int .i64])) : FSpec Un := ⟨158, [.row 1, .row 1], [], [.nm 1, .nm 1], .c (.hole (.int .i64)), [], [.int .i64], F⟩
def value_Compare_s : FSpec Un := value_Compare_p value_Compare
theorem value_Compare_snd : FSnd Tryz.prog value_Compare_s := FSnd.of fun h r hr => FAt.of_body (s := value_Compare_s) (fo := foS [varint_Zigzag_s, cmp_Compare_s, cmp_Compare_2_s, cmp_Compare_3_s, cmp_Or_s]) (lo := loL []) Tryz.func158 F158_ok F158_res (by kernel_rfl) (FoSnd.cons F97_b varint_Zigzag_snd (FoSnd.cons F174_b cmp_Compare_snd (FoSnd.cons F136_b cmp_Compare_2_snd (FoSnd.cons F176_b cmp_Compare_3_snd (FoSnd.cons F175_b cmp_Or_snd FoSnd.nil))))) (LoOk.snd LoOk.nil) (Eq.trans (by kernel_rfl) hr)
def value_fits_l2 (x_ : Bool × Int × List SType × SValue × Int × List UInt8 × Int × Int × Int × List SSymbol × List SMember × Int × Int × Bool) : Option ((Bool) ⊕ (Bool × List SType × SValue × Int × List UInt8 × Int × Int × Int × List SSymbol × List SMember × Int × Int × Bool)) :=
  match x_ with
  | (plain_5, i, b_52, b_53, b_54, b_55, b_56, b_57, b_58, b_59, b_60, b_61, b_62, b_63) =>
  if decide (i < (b_53.Keys.length : Int)) = true then
    some (subI .i64 i 1) >>= fun t291 =>
    if inR t291 b_53.Keys.length = true then
      if inR i b_53.Keys.length = true then
        value_Compare (SValue.eta (b_53.Keys.getD t291.toNat dSValue), SValue.eta (b_53.Keys.getD i.toNat dSValue)) >>= fun r_19 =>
        if decide (0 ≤ r_19) = true then
          some (.inl false)
        else
          value_fits_l2 (plain_5, addI .i64 i 1, b_52, SValue.eta b_53, b_54, b_55, b_56, b_57, b_58, b_59, b_60, b_61, b_62, b_63)
      else none
    else none
  else
    some (.inr (plain_5, b_52, SValue.eta b_53, b_54, b_55, b_56, b_57, b_58, b_59, b_60, b_61, b_62, b_63))
  partial_fixpoint
def value_fits_l2_sh : Shape := ⟨[(3, .c (.hole .bool)), (4, .c (.ptr 0 0)), (6, .c (.ptr 1 0)), (9, .c (.ptr 2 0)), (20, .c (.hole (.int .i64)))], [.box [.hole (.slice (.nm 3))], .brow 1, .box [.hole (.int .i64), .hole .str, .hole (.int .i64), .hole (.int .i64), .hole (.int .i64), .hole (.slice (.nm 4)), .hole (.slice (.nm 0)), .hole (.int .i64), .hole (.int .i64), .hole .bool]]⟩
def value_fits_l2_ts : List Ty := [.bool, .int .i64, .slice (.nm 3), .nm 1, .int .i64, .str, .int .i64, .int .i64, .int .i64, .slice (.nm 4), .slice (.nm 0), .int .i64, .int .i64, .bool]
def value_fits_l2_outs : List OSpec := [⟨.ret, ⟨[(8, .c (.hole .bool))], []⟩, [], [.bool]⟩, ⟨.exit 5, ⟨[(3, .c (.hole .bool)), (4, .c (.ptr 0 0)), (6, .c (.ptr 1 0)), (9, .c (.ptr 2 0))], [.box [.hole (.slice (.nm 3))], .brow 1, .box [.hole (.int .i64), .hole .str, .hole (.int .i64), .hole (.int .i64), .hole (.int .i64), .hole (.slice (.nm 4)), .hole (.slice (.nm 0)), .hole (.int .i64), .hole (.int .i64), .hole .bool]]⟩, [], [.bool, .slice (.nm 3), .nm 1, .int .i64, .str, .int .i64, .int .i64, .int .i64, .slice (.nm 4), .slice (.nm 0), .int .i64, .int .i64, .bool]⟩]
def value_fits_l2_p (F : Hs Un.D value_fits_l2_ts → Option (OSum Un value_fits_l2_outs)) : LSpec Un := ⟨value_fits_l2_sh, [], value_fits_l2_ts, value_fits_l2_outs, F⟩
def value_fits_l2_s : LSpec Un := value_fits_l2_p value_fits_l2
theorem value_fits_l2_snd : LSnd Tryz.prog Tryz.f132.ntmps 0 (loopOf (codeOf Tryz.prog Tryz.f132) 2) value_fits_l2_s := fun h o ho => value_fits_l2.partial_correctness (fun h o => LAt (U := Un) Tryz.prog Tryz.f132.ntmps 0 (loopOf (codeOf Tryz.prog Tryz.f132) 2) value_fits_l2_sh value_fits_l2_ts value_fits_l2_outs h o) (fun F1 HF1 h o ho => LAt.of_round (fo := foS [value_Compare_s]) (lo := loL []) (own := []) (F' := F1) (FoSnd.cons F158_b value_Compare_snd FoSnd.nil) (LoOk.snd LoOk.nil) HF1 (Eq.trans (by kernel_rfl) ho)) h o ho
mutual
def slices_ContainsFuncapi_Value_api_Value (x_ : List SValue × List SType × Int × Bool) : Option (Bool × List SType × Int × Bool) :=
  match x_ with
  | (s, b, b_1, b_2) =>
  slices_IndexFuncapi_Value_api_Value (s, b, b_1, b_2) >>= fun r =>
  some (decide (0 ≤ r.1), r.2.1, r.2.2.1, r.2.2.2)
  partial_fixpoint
def slices_IndexFuncapi_Value_api_Value (x_ : List SValue × List SType × Int × Bool) : Option (Int × List SType × Int × Bool) :=
  match x_ with
  | (s, b, b_1, b_2) =>
  slices_IndexFuncapi_Value_api_Value_l0 (s, (s.length : Int), 0, b, b_1, b_2) >>= fun o =>
  match o with
  | .inl o_1 =>
    some (o_1.1, o_1.2.1, o_1.2.2.1, o_1.2.2.2)
  | .inr o_2 =>
    some ((-1), o_2.1, o_2.2.1, o_2.2.2)
  partial_fixpoint
def value_each (x_ : SSchema × Int × List SValue × Bool) : Option (Bool) :=
  match x_ with
  | (s, t, l, plain) =>
  slices_ContainsFuncapi_Value_api_Value (l, s.Types, t, plain) >>= fun r =>
  some (!r.1)
  partial_fixpoint
def value_each_1 (x_ : SValue × List SType × Int × Bool) : Option (Bool × List SType × Int × Bool) :=
  match x_ with
  | (v, b, b_1, b_2) =>
  value_fits ((⟨b⟩ : SSchema), b_1, SValue.eta v, b_2) >>= fun r =>
  some ((!r), b, b_1, b_2)
  partial_fixpoint
def value_fits (x_ : SSchema × Int × SValue × Bool) : Option (Bool) :=
  match x_ with
  | (s, t, v, plain) =>
  if (bif decide (t < 0) then true else decide ((s.Types.length : Int) ≤ t)) = true then
    some false
  else
    if inR t s.Types.length = true then
      some (s.Types.getD t.toNat dSType) >>= fun x0 =>
      some (!(decide (v.Kind = x0.Kind))) >>= fun t39 =>
      (if (!t39) = true then value_proper (SValue.eta v) else some false) >>= fun r =>
      if (bif t39 then true else (!r)) = true then
        some false
      else
        if decide (x0.Kind = 2) = true then
          some (bif decide (x0.Low ≤ v.Int_) then decide (v.Int_ ≤ x0.High) else false)
        else
          if decide (x0.Kind = 3) = true then
            some (decide ((v.Str.length : Int) ≤ x0.Max))
          else
            if decide (x0.Kind = 4) = true then
              schema_Symbol (x0, v.ID) >>= fun r_1 =>
              some (bif x0.Open then (!plain) else false) >>= fun t85 =>
              (if ((!r_1.2) && t85) = true then value_free v.ID else some false) >>= fun r_4 =>
              some (bif r_1.2 then true else bif t85 then r_4 else false)
            else
              if decide (x0.Kind = 5) = true then
                if (bif (!(decide ((v.Items.length : Int) = (x0.Members.length : Int)))) then true else bif plain then decide (0 < (v.Rest.length : Int)) else false) = true then
                  some false
                else
                  value_fits_l0 (plain, v.Rest, (v.Rest.length : Int), 0, s.Types, SValue.eta v, x0.Kind, x0.Name, x0.Low, x0.High, x0.Max, x0.Symbols, x0.Members, x0.Key, x0.Elem, x0.Open) >>= fun o =>
                  match o with
                  | .inl o_1 =>
                    some o_1
                  | .inr o_2 =>
                    value_fits_l1 (o_2.1, o_2.2.2.2.2.2.2.2.2.2.2.2.2.2.2.2.2.1, (o_2.2.2.2.2.2.2.2.2.2.2.2.2.2.2.2.2.1.length : Int), 0, o_2.2.1, o_2.2.2.1, o_2.2.2.2.1, o_2.2.2.2.2.1, o_2.2.2.2.2.2.1, o_2.2.2.2.2.2.2.1, o_2.2.2.2.2.2.2.2.1, o_2.2.2.2.2.2.2.2.2.1, o_2.2.2.2.2.2.2.2.2.2.1) >>= fun o_3 =>
                    match o_3 with
                    | .inl o_4 =>
                      some o_4
                    | .inr o_5 =>
                      some true
              else
                if decide (x0.Kind = 6) = true then
                  schema_Member (x0, v.ID) >>= fun r_5 =>
                  if r_5.2 = true then
                    some (bif decide ((v.Items.length : Int) = 1) then decide ((v.Rest.length : Int) = 0) else false) >>= fun t188 =>
                    if (inR r_5.1 x0.Members.length || (!t188)) = true then
                      if (inR 0 v.Items.length || (!t188)) = true then
                        (if t188 = true then value_fits ((⟨s.Types⟩ : SSchema), (x0.Members.getD r_5.1.toNat dSMember).Type_, SValue.eta (v.Items.getD (0 : Int).toNat dSValue), plain) else some false) >>= fun r_8 =>
                        some (bif t188 then r_8 else false)
                      else none
                    else none
                  else
                    some (bif x0.Open then (!plain) else false) >>= fun t209 =>
                    (if t209 = true then value_free v.ID else some false) >>= fun r_9 =>
                    some (bif bif bif t209 then r_9 else false then decide ((v.Items.length : Int) = 0) else false then decide ((v.Rest.length : Int) = 1) else false) >>= fun t226 =>
                    if (inR 0 v.Rest.length || (!t226)) = true then
                      some (bif t226 then decide ((v.Rest.getD (0 : Int).toNat dSRaw).ID = v.ID) else false)
                    else none
                else
                  if decide (x0.Kind = 7) = true then
                    some (decide ((v.Items.length : Int) ≤ x0.Max)) >>= fun t244 =>
                    (if t244 = true then value_each ((⟨s.Types⟩ : SSchema), x0.Elem, v.Items, plain) else some false) >>= fun r_10 =>
                    some (bif t244 then r_10 else false)
                  else
                    if decide (x0.Kind = 8) = true then
                      some (bif decide (x0.Max < (v.Keys.length : Int)) then true else (!(decide ((v.Items.length : Int) = (v.Keys.length : Int))))) >>= fun t270 =>
                      (if (!t270) = true then value_each ((⟨s.Types⟩ : SSchema), x0.Key, v.Keys, plain) else some false) >>= fun r_11 =>
                      if (bif t270 then true else (!r_11)) = true then
                        some false
                      else
                        value_fits_l2 (plain, 1, s.Types, SValue.eta v, x0.Kind, x0.Name, x0.Low, x0.High, x0.Max, x0.Symbols, x0.Members, x0.Key, x0.Elem, x0.Open) >>= fun o_6 =>
                        match o_6 with
                        | .inl o_7 =>
                          some o_7
                        | .inr o_8 =>
                          value_each ((⟨o_8.2.1⟩ : SSchema), o_8.2.2.2.2.2.2.2.2.2.2.2.1, o_8.2.2.1.Items, o_8.1) >>= fun r_12 =>
                          some r_12
                    else
                      if decide (x0.Kind = 9) = true then
                        some (decide ((v.Items.length : Int) ≤ 1)) >>= fun t313 =>
                        (if t313 = true then value_each ((⟨s.Types⟩ : SSchema), x0.Elem, v.Items, plain) else some false) >>= fun r_13 =>
                        some (bif t313 then r_13 else false)
                      else
                        some true
    else none
  partial_fixpoint
def slices_IndexFuncapi_Value_api_Value_l0 (x_ : List SValue × Int × Int × List SType × Int × Bool) : Option ((Int × List SType × Int × Bool) ⊕ (List SType × Int × Bool)) :=
  match x_ with
  | (s_1, t7_1, t8, b_9, b_10, b_11) =>
  if decide (t8 < t7_1) = true then
    if inR t8 s_1.length = true then
      value_each_1 (SValue.eta (s_1.getD t8.toNat dSValue), b_9, b_10, b_11) >>= fun r =>
      if r.1 = true then
        some (.inl (t8, r.2.1, r.2.2.1, r.2.2.2))
      else
        slices_IndexFuncapi_Value_api_Value_l0 (s_1, t7_1, addI .i64 t8 1, r.2.1, r.2.2.1, r.2.2.2)
    else none
  else
    some (.inr (b_9, b_10, b_11))
  partial_fixpoint
def value_fits_l1 (x_ : Bool × List SMember × Int × Int × List SType × Int × Bool × Int × List UInt8 × Int × List SValue × List SValue × List SRaw) : Option ((Bool) ⊕ (Unit)) :=
  match x_ with
  | (plain_4, t150, t151_1, t152, b_43, b_44, b_45, b_46, b_47, b_48, b_49, b_50, b_51) =>
  if decide (t152 < t151_1) = true then
    if inR t152 t150.length = true then
      if inR t152 b_50.length = true then
        value_fits ((⟨b_43⟩ : SSchema), (t150.getD t152.toNat dSMember).Type_, SValue.eta (b_50.getD t152.toNat dSValue), plain_4) >>= fun r_18 =>
        if (!r_18) = true then
          some (.inl false)
        else
          value_fits_l1 (plain_4, t150, t151_1, addI .i64 t152 1, b_43, b_44, b_45, b_46, b_47, b_48, b_49, b_50, b_51)
      else none
    else none
  else
    some (.inr ())
  partial_fixpoint
end
theorem F172_b : hasBody Tryz.prog 172 = true := by kernel_rfl
theorem F172_ok : Tryz.f172.body.bind (Go.Proofs.YthnmepafpikaiaaGreat.Shv.resolve Tryz.prog Tryz.f172.ntmps) = some (codeOf Tryz.prog Tryz.f172) := by kernel_rfl
theorem F172_res : resolveRes Tryz.prog Tryz.f172.results.toList = some [.tmp 4] := by kernel_rfl
def slices_ContainsFuncapi_Value_api_Value_p (F : Hs Un.D [.slice (.nm 1), .slice (.nm 3), .int .i64, .bool] → Option (Hs Un.D [.bool, .slice (.nm 3), .int .i64, .bool])) : FSpec Un := ⟨172, [.c (.hole (.slice (.nm 1))), .c (.fn 173 [0, 1, 2])], [.box [.hole (.slice (.nm 3))], .box [.hole (.int .i64)], .box [.hole .bool]], [.slice (.nm 1), .slice (.nm 3), .int .i64, .bool], .c (.hole .bool), [.box [.hole (.slice (.nm 3))], .box [.hole (.int .i64)], .box [.hole .bool]], [.bool, .slice (.nm 3), .int .i64, .bool], F⟩
def slices_ContainsFuncapi_Value_api_Value_s : FSpec Un := slices_ContainsFuncapi_Value_api_Value_p slices_ContainsFuncapi_Value_api_Value
theorem F189_b : hasBody Tryz.prog 189 = true := by kernel_rfl
theorem F189_ok : Tryz.f189.body.bind (Go.Proofs.YthnmepafpikaiaaGreat.Shv.resolve Tryz.prog Tryz.f189.ntmps) = some (codeOf Tryz.prog Tryz.f189) := by kernel_rfl
theorem F189_res : resolveRes Tryz.prog Tryz.f189.results.toList = some [.tmp 4] := by kernel_rfl
def slices_IndexFuncapi_Value_api_Value_p (F : Hs Un.D [.slice (.nm 1), .slice (.nm 3), .int .i64, .bool] → Option (Hs Un.D [.int .i64, .slice (.nm 3), .int .i64, .bool])) : FSpec Un := ⟨189, [.c (.hole (.slice (.nm 1))), .c (.fn 173 [0, 1, 2])], [.box [.hole (.slice (.nm 3))], .box [.hole (.int .i64)], .box [.hole .bool]], [.slice (.nm 1), .slice (.nm 3), .int .i64, .bool], .c (.hole (.int .i64)), [.box [.hole (.slice (.nm 3))], .box [.hole (.int .i64)], .box [.hole .bool]], [.int .i64, .slice (.nm 3), .int .i64, .bool], F⟩
def slices_IndexFuncapi_Value_api_Value_s : FSpec Un := slices_IndexFuncapi_Value_api_Value_p slices_IndexFuncapi_Value_api_Value
def slices_IndexFuncapi_Value_api_Value_l0_sh : Shape := ⟨[(0, .c (.hole (.slice (.nm 1)))), (1, .c (.fn 173 [0, 1, 2])), (7, .c (.hole (.int .i64))), (8, .c (.hole (.int .i64)))], [.box [.hole (.slice (.nm 3))], .box [.hole (.int .i64)], .box [.hole .bool]]⟩
def slices_IndexFuncapi_Value_api_Value_l0_ts : List Ty := [.slice (.nm 1), .int .i64, .int .i64, .slice (.nm 3), .int .i64, .bool]
def slices_IndexFuncapi_Value_api_Value_l0_outs : List OSpec := [⟨.ret, ⟨[(4, .c (.hole (.int .i64)))], [.box [.hole (.slice (.nm 3))], .box [.hole (.int .i64)], .box [.hole .bool]]⟩, [], [.int .i64, .slice (.nm 3), .int .i64, .bool]⟩, ⟨.exit 0, ⟨[], [.box [.hole (.slice (.nm 3))], .box [.hole (.int .i64)], .box [.hole .bool]]⟩, [], [.slice (.nm 3), .int .i64, .bool]⟩]
def slices_IndexFuncapi_Value_api_Value_l0_p (F : Hs Un.D slices_IndexFuncapi_Value_api_Value_l0_ts → Option (OSum Un slices_IndexFuncapi_Value_api_Value_l0_outs)) : LSpec Un := ⟨slices_IndexFuncapi_Value_api_Value_l0_sh, [], slices_IndexFuncapi_Value_api_Value_l0_ts, slices_IndexFuncapi_Value_api_Value_l0_outs, F⟩
def slices_IndexFuncapi_Value_api_Value_l0_s : LSpec Un := slices_IndexFuncapi_Value_api_Value_l0_p slices_IndexFuncapi_Value_api_Value_l0
theorem F173_b : hasBody Tryz.prog 173 = true := by kernel_rfl
theorem F173_ok : Tryz.f173.body.bind (Go.Proofs.YthnmepafpikaiaaGreat.Shv.resolve Tryz.prog Tryz.f173.ntmps) = some (codeOf Tryz.prog Tryz.f173) := by kernel_rfl
theorem F173_res : resolveRes Tryz.prog Tryz.f173.results.toList = some [.tmp 5] := by kernel_rfl
def value_each_1_p (F : Hs Un.D [.nm 1, .slice (.nm 3), .int .i64, .bool] → Option (Hs Un.D [.bool, .slice (.nm 3), .int .i64, .bool])) : FSpec Un := ⟨173, [.row 1, .c (.ptr 0 0), .c (.ptr 1 0), .c (.ptr 2 0)], [.box [.hole (.slice (.nm 3))], .box [.hole (.int .i64)], .box [.hole .bool]], [.nm 1, .slice (.nm 3), .int .i64, .bool], .c (.hole .bool), [.box [.hole (.slice (.nm 3))], .box [.hole (.int .i64)], .box [.hole .bool]], [.bool, .slice (.nm 3), .int .i64, .bool], F⟩
def value_each_1_s : FSpec Un := value_each_1_p value_each_1
def value_fits_p (F : Hs Un.D [.nm 5, .int .i64, .nm 1, .bool] → Option (Hs Un.D [.bool])) : FSpec Un := ⟨132, [.row 5, .c (.hole (.int .i64)), .row 1, .c (.hole .bool)], [], [.nm 5, .int .i64, .nm 1, .bool], .c (.hole .bool), [], [.bool], F⟩
def value_fits_s : FSpec Un := value_fits_p value_fits
theorem F157_b : hasBody Tryz.prog 157 = true := by kernel_rfl
theorem F157_ok : Tryz.f157.body.bind (Go.Proofs.YthnmepafpikaiaaGreat.Shv.resolve Tryz.prog Tryz.f157.ntmps) = some (codeOf Tryz.prog Tryz.f157) := by kernel_rfl
theorem F157_res : resolveRes Tryz.prog Tryz.f157.results.toList = some [.tmp 8] := by kernel_rfl
def value_each_p (F : Hs Un.D [.nm 5, .int .i64, .slice (.nm 1), .bool] → Option (Hs Un.D [.bool])) : FSpec Un := ⟨157, [.row 5, .c (.hole (.int .i64)), .c (.hole (.slice (.nm 1))), .c (.hole .bool)], [], [.nm 5, .int .i64, .slice (.nm 1), .bool], .c (.hole .bool), [], [.bool], F⟩
def value_each_s : FSpec Un := value_each_p value_each
def value_fits_l1_sh : Shape := ⟨[(3, .c (.hole .bool)), (4, .c (.ptr 0 0)), (6, .c (.ptr 1 0)), (150, .c (.hole (.slice (.nm 0)))), (151, .c (.hole (.int .i64))), (152, .c (.hole (.int .i64)))], [.box [.hole (.slice (.nm 3))], .box [.hole (.int .i64), .hole .bool, .hole (.int .i64), .hole .str, .hole (.int .i64), .hole (.slice (.nm 1)), .hole (.slice (.nm 1)), .hole (.slice (.nm 2))]]⟩
def value_fits_l1_ts : List Ty := [.bool, .slice (.nm 0), .int .i64, .int .i64, .slice (.nm 3), .int .i64, .bool, .int .i64, .str, .int .i64, .slice (.nm 1), .slice (.nm 1), .slice (.nm 2)]
def value_fits_l1_outs : List OSpec := [⟨.ret, ⟨[(8, .c (.hole .bool))], []⟩, [], [.bool]⟩, ⟨.exit 3, ⟨[], []⟩, [], []⟩]
def value_fits_l1_p (F : Hs Un.D value_fits_l1_ts → Option (OSum Un value_fits_l1_outs)) : LSpec Un := ⟨value_fits_l1_sh, [], value_fits_l1_ts, value_fits_l1_outs, F⟩
def value_fits_l1_s : LSpec Un := value_fits_l1_p value_fits_l1
theorem slices_ContainsFuncapi_Value_api_Value_all : (FSnd Tryz.prog slices_ContainsFuncapi_Value_api_Value_s) ∧ (FSnd Tryz.prog slices_IndexFuncapi_Value_api_Value_s) ∧ (LSnd Tryz.prog Tryz.f189.ntmps 3 (loopOf (codeOf Tryz.prog Tryz.f189) 0) slices_IndexFuncapi_Value_api_Value_l0_s) ∧ (FSnd Tryz.prog value_each_1_s) ∧ (FSnd Tryz.prog value_fits_s) ∧ (FSnd Tryz.prog value_each_s) ∧ (LSnd Tryz.prog Tryz.f132.ntmps 0 (loopOf (codeOf Tryz.prog Tryz.f132) 1) value_fits_l1_s) := slices_ContainsFuncapi_Value_api_Value.mutual_partial_correctness (fun h r => FAt Tryz.prog slices_ContainsFuncapi_Value_api_Value_s h r) (fun h r => FAt Tryz.prog slices_IndexFuncapi_Value_api_Value_s h r) (fun h o => LAt (U := Un) Tryz.prog Tryz.f189.ntmps 3 (loopOf (codeOf Tryz.prog Tryz.f189) 0) slices_IndexFuncapi_Value_api_Value_l0_sh slices_IndexFuncapi_Value_api_Value_l0_ts slices_IndexFuncapi_Value_api_Value_l0_outs h o) (fun h r => FAt Tryz.prog value_each_1_s h r) (fun h r => FAt Tryz.prog value_fits_s h r) (fun h r => FAt Tryz.prog value_each_s h r) (fun h o => LAt (U := Un) Tryz.prog Tryz.f132.ntmps 0 (loopOf (codeOf Tryz.prog Tryz.f132) 1) value_fits_l1_sh value_fits_l1_ts value_fits_l1_outs h o)
  (fun F2 HF2 h o ho => FAt.of_body (s := slices_ContainsFuncapi_Value_api_Value_s) (fo := foS [slices_IndexFuncapi_Value_api_Value_p F2]) (lo := loL []) Tryz.func172 F172_ok F172_res (by kernel_rfl) (FoSnd.cons F189_b HF2 FoSnd.nil) (LoOk.snd LoOk.nil) (Eq.trans (by kernel_rfl) ho))
  (fun F3 HF3 h o ho => FAt.of_body (s := slices_IndexFuncapi_Value_api_Value_s) (fo := foS []) (lo := loL [(0, slices_IndexFuncapi_Value_api_Value_l0_p F3)]) Tryz.func189 F189_ok F189_res (by kernel_rfl) FoSnd.nil (LoOk.snd (LoOk.cons HF3 LoOk.nil)) (Eq.trans (by kernel_rfl) ho))
  (fun F3 F4 HF3 HF4 h o ho => LAt.of_round (fo := foS [value_each_1_p F4]) (lo := loL []) (own := []) (F' := F3) (FoSnd.cons F173_b HF4 FoSnd.nil) (LoOk.snd LoOk.nil) HF3 (Eq.trans (by kernel_rfl) ho))
  (fun F5 HF5 h o ho => FAt.of_body (s := value_each_1_s) (fo := foS [value_fits_p F5]) (lo := loL []) Tryz.func173 F173_ok F173_res (by kernel_rfl) (FoSnd.cons F132_b HF5 FoSnd.nil) (LoOk.snd LoOk.nil) (Eq.trans (by kernel_rfl) ho))
  (fun F5 F6 F7 HF5 HF6 HF7 h o ho => FAt.of_body (s := (value_fits_p F5)) (fo := foS [value_proper_s, schema_Symbol_s, value_free_s, schema_Member_s, value_fits_p F5, value_each_p F6]) (lo := loL [(0, value_fits_l0_s), (1, value_fits_l1_p F7), (2, value_fits_l2_s)]) Tryz.func132 F132_ok F132_res (by kernel_rfl) (FoSnd.cons F155_b value_proper_snd (FoSnd.cons F129_b schema_Symbol_snd (FoSnd.cons F156_b value_free_snd (FoSnd.cons F82_b schema_Member_snd (FoSnd.cons F132_b HF5 (FoSnd.cons F157_b HF6 FoSnd.nil)))))) (LoOk.snd (LoOk.cons value_fits_l0_snd (LoOk.cons HF7 (LoOk.cons value_fits_l2_snd LoOk.nil)))) (Eq.trans (by kernel_rfl) ho))
  (fun F1 HF1 h o ho => FAt.of_body (s := value_each_s) (fo := foS [slices_ContainsFuncapi_Value_api_Value_p F1]) (lo := loL []) Tryz.func157 F157_ok F157_res (by kernel_rfl) (FoSnd.cons F172_b HF1 FoSnd.nil) (LoOk.snd LoOk.nil) (Eq.trans (by kernel_rfl) ho))
  (fun F5 F7 HF5 HF7 h o ho => LAt.of_round (fo := foS [value_fits_p F5]) (lo := loL []) (own := []) (F' := F7) (FoSnd.cons F132_b HF5 FoSnd.nil) (LoOk.snd LoOk.nil) HF7 (Eq.trans (by kernel_rfl) ho))
theorem slices_ContainsFuncapi_Value_api_Value_snd : FSnd Tryz.prog slices_ContainsFuncapi_Value_api_Value_s := slices_ContainsFuncapi_Value_api_Value_all.1
theorem slices_IndexFuncapi_Value_api_Value_snd : FSnd Tryz.prog slices_IndexFuncapi_Value_api_Value_s := slices_ContainsFuncapi_Value_api_Value_all.2.1
theorem slices_IndexFuncapi_Value_api_Value_l0_snd : LSnd Tryz.prog Tryz.f189.ntmps 3 (loopOf (codeOf Tryz.prog Tryz.f189) 0) slices_IndexFuncapi_Value_api_Value_l0_s := slices_ContainsFuncapi_Value_api_Value_all.2.2.1
theorem value_each_1_snd : FSnd Tryz.prog value_each_1_s := slices_ContainsFuncapi_Value_api_Value_all.2.2.2.1
theorem value_fits_snd : FSnd Tryz.prog value_fits_s := slices_ContainsFuncapi_Value_api_Value_all.2.2.2.2.1
theorem value_each_snd : FSnd Tryz.prog value_each_s := slices_ContainsFuncapi_Value_api_Value_all.2.2.2.2.2.1
theorem value_fits_l1_snd : LSnd Tryz.prog Tryz.f132.ntmps 0 (loopOf (codeOf Tryz.prog Tryz.f132) 1) value_fits_l1_s := slices_ContainsFuncapi_Value_api_Value_all.2.2.2.2.2.2
end Go.Proofs.YthnmepafpikaiaaGreat

namespace Go.Proofs.YthnmepafpikaiaaGreat
open Go Go.Proofs.YthnmepafpikaiaaGreat.Shv
set_option maxRecDepth 100000
set_option linter.all false

def value_Fits (x_ : SSchema × Int × SValue) : Option (Bool) :=
  match x_ with
  | (s, t, v) =>
  value_fits ((⟨s.Types⟩ : SSchema), t, SValue.eta v, false) >>= fun r =>
  some r
theorem F95_b : hasBody Tryz.prog 95 = true := by kernel_rfl
theorem F95_ok : Tryz.f95.body.bind (Go.Proofs.YthnmepafpikaiaaGreat.Shv.resolve Tryz.prog Tryz.f95.ntmps) = some (codeOf Tryz.prog Tryz.f95) := by kernel_rfl
theorem F95_res : resolveRes Tryz.prog Tryz.f95.results.toList = some [.tmp 6] := by kernel_rfl
def value_Fits_p (F : Hs Un.D [.nm 5, .int .i64, .nm 1] → Option (Hs Un.D [.bool])) : FSpec Un := ⟨95, [.row 5, .c (.hole (.int .i64)), .row 1], [], [.nm 5, .int .i64, .nm 1], .c (.hole .bool), [], [.bool], F⟩
def value_Fits_s : FSpec Un := value_Fits_p value_Fits
theorem value_Fits_snd : FSnd Tryz.prog value_Fits_s := FSnd.of fun h r hr => FAt.of_body (s := value_Fits_s) (fo := foS [value_fits_s]) (lo := loL []) Tryz.func95 F95_ok F95_res (by kernel_rfl) (FoSnd.cons F132_b value_fits_snd FoSnd.nil) (LoOk.snd LoOk.nil) (Eq.trans (by kernel_rfl) hr)
def encode_checked (x_ : SSchema × Int × SValue) : Option (Int) :=
  match x_ with
  | (s, t, v) =>
  encode_errorOf ((⟨s.Types⟩ : SSchema), t) >>= fun r =>
  if (!(decide (r = 0))) = true then
    some r
  else
    value_Fits ((⟨s.Types⟩ : SSchema), t, SValue.eta v) >>= fun r_1 =>
    if (!r_1) = true then
      some 1
    else
      some 0
theorem F56_b : hasBody Tryz.prog 56 = true := by kernel_rfl
theorem F56_ok : Tryz.f56.body.bind (Go.Proofs.YthnmepafpikaiaaGreat.Shv.resolve Tryz.prog Tryz.f56.ntmps) = some (codeOf Tryz.prog Tryz.f56) := by kernel_rfl
theorem F56_res : resolveRes Tryz.prog Tryz.f56.results.toList = some [.tmp 6] := by kernel_rfl
def encode_checked_p (F : Hs Un.D [.nm 5, .int .i64, .nm 1] → Option (Hs Un.D [.int .i64])) : FSpec Un := ⟨56, [.row 5, .c (.hole (.int .i64)), .row 1], [], [.nm 5, .int .i64, .nm 1], .c (.hole (.int .i64)), [], [.int .i64], F⟩
def encode_checked_s : FSpec Un := encode_checked_p encode_checked
theorem encode_checked_snd : FSnd Tryz.prog encode_checked_s := FSnd.of fun h r hr => FAt.of_body (s := encode_checked_s) (fo := foS [encode_errorOf_s, value_Fits_s]) (lo := loL []) Tryz.func56 F56_ok F56_res (by kernel_rfl) (FoSnd.cons F52_b encode_errorOf_snd (FoSnd.cons F95_b value_Fits_snd FoSnd.nil)) (LoOk.snd LoOk.nil) (Eq.trans (by kernel_rfl) hr)
def varint_Big_l0 (x_ : Int × Int × List Int) : Option (Int × List Int) :=
  match x_ with
  | (n_1, i_1, b_1) =>
  if decide (0 < n_1) = true then
    some (subI .i64 i_1 1) >>= fun t10 =>
    if inR t10 8 = true then
      if decide (t10.toNat < b_1.length) = true then
        varint_Big_l0 (shrI .u64 n_1 8, t10, b_1.set t10.toNat (wrp .u8 n_1))
      else none
    else none
  else
    some (i_1, b_1)
  partial_fixpoint
theorem F96_b : hasBody Tryz.prog 96 = true := by kernel_rfl
theorem F96_ok : Tryz.f96.body.bind (Go.Proofs.YthnmepafpikaiaaGreat.Shv.resolve Tryz.prog Tryz.f96.ntmps) = some (codeOf Tryz.prog Tryz.f96) := by kernel_rfl
theorem F96_res : resolveRes Tryz.prog Tryz.f96.results.toList = some [.tmp 2] := by kernel_rfl
def varint_Big_l0_sh : Shape := ⟨[(0, .c (.hole (.int .u64))), (3, .c (.ptr 0 0)), (4, .c (.hole (.int .i64)))], [.arr (.int .u8)]⟩
def varint_Big_l0_ts : List Ty := [.int .u64, .int .i64, .slice (.int .u8)]
def varint_Big_l0_outs : List OSpec := [⟨.exit 0, ⟨[(3, .c (.ptr 0 0)), (4, .c (.hole (.int .i64)))], [.arr (.int .u8)]⟩, [], [.int .i64, .slice (.int .u8)]⟩]
def varint_Big_l0_p (F : Hs Un.D varint_Big_l0_ts → Option (OSum Un varint_Big_l0_outs)) : LSpec Un := ⟨varint_Big_l0_sh, [], varint_Big_l0_ts, varint_Big_l0_outs, F⟩
def varint_Big_l0_s : LSpec Un := varint_Big_l0_p varint_Big_l0
theorem varint_Big_l0_snd : LSnd Tryz.prog Tryz.f96.ntmps 0 (loopOf (codeOf Tryz.prog Tryz.f96) 0) varint_Big_l0_s := fun h o ho => varint_Big_l0.partial_correctness (fun h o => LAt (U := Un) Tryz.prog Tryz.f96.ntmps 0 (loopOf (codeOf Tryz.prog Tryz.f96) 0) varint_Big_l0_sh varint_Big_l0_ts varint_Big_l0_outs h o) (fun F1 HF1 h o ho => LAt.of_round (fo := foS []) (lo := loL []) (own := []) (F' := F1) FoSnd.nil (LoOk.snd LoOk.nil) HF1 (Eq.trans (by kernel_rfl) ho)) h o ho
def varint_Big (n : Int) : Option (List UInt8) :=
  varint_Big_l0 (n, 8, [0, 0, 0, 0, 0, 0, 0, 0]) >>= fun o =>
  if slR o.1 8 8 = true then
    if subR o.1.toNat ((8 : Int).toNat - o.1.toNat) o.2.length = true then
      some (strOf ((o.2.drop o.1.toNat).take ((8 : Int).toNat - o.1.toNat)))
    else none
  else none
def varint_Big_p (F : Hs Un.D [.int .u64] → Option (Hs Un.D [.str])) : FSpec Un := ⟨96, [.c (.hole (.int .u64))], [], [.int .u64], .c (.hole .str), [], [.str], F⟩
def varint_Big_s : FSpec Un := varint_Big_p varint_Big
theorem varint_Big_snd : FSnd Tryz.prog varint_Big_s := FSnd.of fun h r hr => FAt.of_body (s := varint_Big_s) (fo := foS []) (lo := loL [(0, varint_Big_l0_s)]) Tryz.func96 F96_ok F96_res (by kernel_rfl) FoSnd.nil (LoOk.snd (LoOk.cons varint_Big_l0_snd LoOk.nil)) (Eq.trans (by kernel_rfl) hr)
mutual
def slices_EqualFuncapi_Value_api_Value_api_Value_api_Value_2 (x_ : List SValue × List SValue) : Option (Bool) :=
  match x_ with
  | (s1, s2) =>
  if (!(decide ((s1.length : Int) = (s2.length : Int)))) = true then
    some false
  else
    slices_EqualFuncapi_Value_api_Value_api_Value_api_Value_2_l0 (s2, s1, (s1.length : Int), 0) >>= fun o =>
    match o with
    | .inl o_1 =>
      some o_1
    | .inr o_2 =>
      some true
  partial_fixpoint
def value_Equal (x_ : SValue × SValue) : Option (Bool) :=
  match x_ with
  | (a, b) =>
  some (bif bif bif bif decide (a.Kind = b.Kind) then eqB a.Bool_ b.Bool_ else false then decide (a.Int_ = b.Int_) else false then decide (a.Str = b.Str) else false then decide (a.ID = b.ID) else false) >>= fun t37 =>
  (if t37 = true then slices_Equalapi_Raw_api_Raw (a.Rest, b.Rest) else some false) >>= fun r =>
  some (bif t37 then r else false) >>= fun t44 =>
  (if t44 = true then slices_EqualFuncapi_Value_api_Value_api_Value_api_Value_2 (a.Keys, b.Keys) else some false) >>= fun r_1 =>
  some (bif t44 then r_1 else false) >>= fun t51 =>
  (if t51 = true then slices_EqualFuncapi_Value_api_Value_api_Value_api_Value_2 (a.Items, b.Items) else some false) >>= fun r_2 =>
  some (bif t51 then r_2 else false)
  partial_fixpoint
def slices_EqualFuncapi_Value_api_Value_api_Value_api_Value_2_l0 (x_ : List SValue × List SValue × Int × Int) : Option ((Bool) ⊕ (Unit)) :=
  match x_ with
  | (s2_1, t15, t16_1, t17) =>
  if decide (t17 < t16_1) = true then
    if inR t17 t15.length = true then
      if inR t17 s2_1.length = true then
        value_Equal (SValue.eta (t15.getD t17.toNat dSValue), SValue.eta (s2_1.getD t17.toNat dSValue)) >>= fun r =>
        if (!r) = true then
          some (.inl false)
        else
          slices_EqualFuncapi_Value_api_Value_api_Value_api_Value_2_l0 (s2_1, t15, t16_1, addI .i64 t17 1)
      else none
    else none
  else
    some (.inr ())
  partial_fixpoint
end
def slices_EqualFuncapi_Value_api_Value_api_Value_api_Value_2_p (F : Hs Un.D [.slice (.nm 1), .slice (.nm 1)] → Option (Hs Un.D [.bool])) : FSpec Un := ⟨178, [.c (.hole (.slice (.nm 1))), .c (.hole (.slice (.nm 1))), .c (.fn 159 [])], [], [.slice (.nm 1), .slice (.nm 1)], .c (.hole .bool), [], [.bool], F⟩
def slices_EqualFuncapi_Value_api_Value_api_Value_api_Value_2_s : FSpec Un := slices_EqualFuncapi_Value_api_Value_api_Value_api_Value_2_p slices_EqualFuncapi_Value_api_Value_api_Value_api_Value_2
def slices_EqualFuncapi_Value_api_Value_api_Value_api_Value_2_l0_sh : Shape := ⟨[(1, .c (.hole (.slice (.nm 1)))), (2, .c (.fn 159 [])), (15, .c (.hole (.slice (.nm 1)))), (16, .c (.hole (.int .i64))), (17, .c (.hole (.int .i64)))], []⟩
def slices_EqualFuncapi_Value_api_Value_api_Value_api_Value_2_l0_ts : List Ty := [.slice (.nm 1), .slice (.nm 1), .int .i64, .int .i64]
def slices_EqualFuncapi_Value_api_Value_api_Value_api_Value_2_l0_outs : List OSpec := [⟨.ret, ⟨[(6, .c (.hole .bool))], []⟩, [], [.bool]⟩, ⟨.exit 0, ⟨[], []⟩, [], []⟩]
def slices_EqualFuncapi_Value_api_Value_api_Value_api_Value_2_l0_p (F : Hs Un.D slices_EqualFuncapi_Value_api_Value_api_Value_api_Value_2_l0_ts → Option (OSum Un slices_EqualFuncapi_Value_api_Value_api_Value_api_Value_2_l0_outs)) : LSpec Un := ⟨slices_EqualFuncapi_Value_api_Value_api_Value_api_Value_2_l0_sh, [], slices_EqualFuncapi_Value_api_Value_api_Value_api_Value_2_l0_ts, slices_EqualFuncapi_Value_api_Value_api_Value_api_Value_2_l0_outs, F⟩
def slices_EqualFuncapi_Value_api_Value_api_Value_api_Value_2_l0_s : LSpec Un := slices_EqualFuncapi_Value_api_Value_api_Value_api_Value_2_l0_p slices_EqualFuncapi_Value_api_Value_api_Value_api_Value_2_l0
theorem F159_b : hasBody Tryz.prog 159 = true := by kernel_rfl
theorem F159_ok : Tryz.f159.body.bind (Go.Proofs.YthnmepafpikaiaaGreat.Shv.resolve Tryz.prog Tryz.f159.ntmps) = some (codeOf Tryz.prog Tryz.f159) := by kernel_rfl
theorem F159_res : resolveRes Tryz.prog Tryz.f159.results.toList = some [.tmp 4] := by kernel_rfl
def value_Equal_p (F : Hs Un.D [.nm 1, .nm 1] → Option (Hs Un.D [.bool])) : FSpec Un := ⟨159, [.row 1, .row 1], [], [.nm 1, .nm 1], .c (.hole .bool), [], [.bool], F⟩
def value_Equal_s : FSpec Un := value_Equal_p value_Equal
theorem slices_EqualFuncapi_Value_api_Value_api_Value_api_Value_2_all : (FSnd Tryz.prog slices_EqualFuncapi_Value_api_Value_api_Value_api_Value_2_s) ∧ (LSnd Tryz.prog Tryz.f178.ntmps 0 (loopOf (codeOf Tryz.prog Tryz.f178) 0) slices_EqualFuncapi_Value_api_Value_api_Value_api_Value_2_l0_s) ∧ (FSnd Tryz.prog value_Equal_s) := slices_EqualFuncapi_Value_api_Value_api_Value_api_Value_2.mutual_partial_correctness (fun h r => FAt Tryz.prog slices_EqualFuncapi_Value_api_Value_api_Value_api_Value_2_s h r) (fun h o => LAt (U := Un) Tryz.prog Tryz.f178.ntmps 0 (loopOf (codeOf Tryz.prog Tryz.f178) 0) slices_EqualFuncapi_Value_api_Value_api_Value_api_Value_2_l0_sh slices_EqualFuncapi_Value_api_Value_api_Value_api_Value_2_l0_ts slices_EqualFuncapi_Value_api_Value_api_Value_api_Value_2_l0_outs h o) (fun h r => FAt Tryz.prog value_Equal_s h r)
  (fun F2 HF2 h o ho => FAt.of_body (s := slices_EqualFuncapi_Value_api_Value_api_Value_api_Value_2_s) (fo := foS []) (lo := loL [(0, slices_EqualFuncapi_Value_api_Value_api_Value_api_Value_2_l0_p F2)]) Tryz.func178 F178_ok F178_res (by kernel_rfl) FoSnd.nil (LoOk.snd (LoOk.cons HF2 LoOk.nil)) (Eq.trans (by kernel_rfl) ho))
  (fun F2 F3 HF2 HF3 h o ho => LAt.of_round (fo := foS [value_Equal_p F3]) (lo := loL []) (own := []) (F' := F2) (FoSnd.cons F159_b HF3 FoSnd.nil) (LoOk.snd LoOk.nil) HF2 (Eq.trans (by kernel_rfl) ho))
  (fun F1 HF1 h o ho => FAt.of_body (s := value_Equal_s) (fo := foS [slices_Equalapi_Raw_api_Raw_s, slices_EqualFuncapi_Value_api_Value_api_Value_api_Value_2_p F1]) (lo := loL []) Tryz.func159 F159_ok F159_res (by kernel_rfl) (FoSnd.cons F177_b slices_Equalapi_Raw_api_Raw_snd (FoSnd.cons F178_b HF1 FoSnd.nil)) (LoOk.snd LoOk.nil) (Eq.trans (by kernel_rfl) ho))
theorem slices_EqualFuncapi_Value_api_Value_api_Value_api_Value_2_snd : FSnd Tryz.prog slices_EqualFuncapi_Value_api_Value_api_Value_api_Value_2_s := slices_EqualFuncapi_Value_api_Value_api_Value_api_Value_2_all.1
theorem slices_EqualFuncapi_Value_api_Value_api_Value_api_Value_2_l0_snd : LSnd Tryz.prog Tryz.f178.ntmps 0 (loopOf (codeOf Tryz.prog Tryz.f178) 0) slices_EqualFuncapi_Value_api_Value_api_Value_api_Value_2_l0_s := slices_EqualFuncapi_Value_api_Value_api_Value_api_Value_2_all.2.1
theorem value_Equal_snd : FSnd Tryz.prog value_Equal_s := slices_EqualFuncapi_Value_api_Value_api_Value_api_Value_2_all.2.2
def encode_omitted (x_ : SMember × SValue) : Option (Bool) :=
  match x_ with
  | (m, v) =>
  (if m.HasDefault = true then value_Equal (SValue.eta m.Default, SValue.eta v) else some false) >>= fun r =>
  some (bif m.HasDefault then r else false)
theorem F133_b : hasBody Tryz.prog 133 = true := by kernel_rfl
theorem F133_ok : Tryz.f133.body.bind (Go.Proofs.YthnmepafpikaiaaGreat.Shv.resolve Tryz.prog Tryz.f133.ntmps) = some (codeOf Tryz.prog Tryz.f133) := by kernel_rfl
theorem F133_res : resolveRes Tryz.prog Tryz.f133.results.toList = some [.tmp 4] := by kernel_rfl
def encode_omitted_p (F : Hs Un.D [.nm 0, .nm 1] → Option (Hs Un.D [.bool])) : FSpec Un := ⟨133, [.row 0, .row 1], [], [.nm 0, .nm 1], .c (.hole .bool), [], [.bool], F⟩
def encode_omitted_s : FSpec Un := encode_omitted_p encode_omitted
theorem encode_omitted_snd : FSnd Tryz.prog encode_omitted_s := FSnd.of fun h r hr => FAt.of_body (s := encode_omitted_s) (fo := foS [value_Equal_s]) (lo := loL []) Tryz.func133 F133_ok F133_res (by kernel_rfl) (FoSnd.cons F159_b value_Equal_snd FoSnd.nil) (LoOk.snd LoOk.nil) (Eq.trans (by kernel_rfl) hr)
def varint_Put_l0 (x_ : Int × Int × List Int) : Option (Int × Int × List Int) :=
  match x_ with
  | (n_2, i_1, b_1) =>
  if decide (128 ≤ n_2) = true then
    if inR i_1 10 = true then
      if decide (i_1.toNat < b_1.length) = true then
        varint_Put_l0 (shrI .u64 n_2 7, addI .i64 i_1 1, b_1.set i_1.toNat (orI .u8 (wrp .u8 n_2) 128))
      else none
    else none
  else
    some (n_2, i_1, b_1)
  partial_fixpoint
theorem F113_b : hasBody Tryz.prog 113 = true := by kernel_rfl
theorem F113_ok : Tryz.f113.body.bind (Go.Proofs.YthnmepafpikaiaaGreat.Shv.resolve Tryz.prog Tryz.f113.ntmps) = some (codeOf Tryz.prog Tryz.f113) := by kernel_rfl
theorem F113_res : resolveRes Tryz.prog Tryz.f113.results.toList = some [.tmp 2] := by kernel_rfl
def varint_Put_l0_sh : Shape := ⟨[(0, .c (.hole (.int .u64))), (3, .c (.ptr 0 0)), (4, .c (.hole (.int .i64)))], [.arr (.int .u8)]⟩
def varint_Put_l0_ts : List Ty := [.int .u64, .int .i64, .slice (.int .u8)]
def varint_Put_l0_outs : List OSpec := [⟨.exit 0, ⟨[(0, .c (.hole (.int .u64))), (3, .c (.ptr 0 0)), (4, .c (.hole (.int .i64)))], [.arr (.int .u8)]⟩, [], [.int .u64, .int .i64, .slice (.int .u8)]⟩]
def varint_Put_l0_p (F : Hs Un.D varint_Put_l0_ts → Option (OSum Un varint_Put_l0_outs)) : LSpec Un := ⟨varint_Put_l0_sh, [], varint_Put_l0_ts, varint_Put_l0_outs, F⟩
def varint_Put_l0_s : LSpec Un := varint_Put_l0_p varint_Put_l0
theorem varint_Put_l0_snd : LSnd Tryz.prog Tryz.f113.ntmps 0 (loopOf (codeOf Tryz.prog Tryz.f113) 0) varint_Put_l0_s := fun h o ho => varint_Put_l0.partial_correctness (fun h o => LAt (U := Un) Tryz.prog Tryz.f113.ntmps 0 (loopOf (codeOf Tryz.prog Tryz.f113) 0) varint_Put_l0_sh varint_Put_l0_ts varint_Put_l0_outs h o) (fun F1 HF1 h o ho => LAt.of_round (fo := foS []) (lo := loL []) (own := []) (F' := F1) FoSnd.nil (LoOk.snd LoOk.nil) HF1 (Eq.trans (by kernel_rfl) ho)) h o ho
def varint_Put (n : Int) : Option (List UInt8) :=
  varint_Put_l0 (n, 0, [0, 0, 0, 0, 0, 0, 0, 0, 0, 0]) >>= fun o =>
  if inR o.2.1 10 = true then
    if decide (o.2.1.toNat < o.2.2.length) = true then
      some (o.2.2.set o.2.1.toNat (wrp .u8 o.1)) >>= fun l_1 =>
      some (addI .i64 o.2.1 1) >>= fun t21 =>
      if slR 0 t21 10 = true then
        if subR (0 : Int).toNat t21.toNat l_1.length = true then
          some (strOf ((l_1.drop (0 : Int).toNat).take t21.toNat))
        else none
      else none
    else none
  else none
def varint_Put_p (F : Hs Un.D [.int .u64] → Option (Hs Un.D [.str])) : FSpec Un := ⟨113, [.c (.hole (.int .u64))], [], [.int .u64], .c (.hole .str), [], [.str], F⟩
def varint_Put_s : FSpec Un := varint_Put_p varint_Put
theorem varint_Put_snd : FSnd Tryz.prog varint_Put_s := FSnd.of fun h r hr => FAt.of_body (s := varint_Put_s) (fo := foS []) (lo := loL [(0, varint_Put_l0_s)]) Tryz.func113 F113_ok F113_res (by kernel_rfl) FoSnd.nil (LoOk.snd (LoOk.cons varint_Put_l0_snd LoOk.nil)) (Eq.trans (by kernel_rfl) hr)
def encode_sized (p : List UInt8) : Option (List UInt8) :=
  varint_Put (wrp .u64 (p.length : Int)) >>= fun r =>
  if decide (r.length + p.length ≤ strMax) = true then
    some (r ++ p)
  else none
theorem F100_b : hasBody Tryz.prog 100 = true := by kernel_rfl
theorem F100_ok : Tryz.f100.body.bind (Go.Proofs.YthnmepafpikaiaaGreat.Shv.resolve Tryz.prog Tryz.f100.ntmps) = some (codeOf Tryz.prog Tryz.f100) := by kernel_rfl
theorem F100_res : resolveRes Tryz.prog Tryz.f100.results.toList = some [.tmp 2] := by kernel_rfl
def encode_sized_p (F : Hs Un.D [.str] → Option (Hs Un.D [.str])) : FSpec Un := ⟨100, [.c (.hole .str)], [], [.str], .c (.hole .str), [], [.str], F⟩
def encode_sized_s : FSpec Un := encode_sized_p encode_sized
theorem encode_sized_snd : FSnd Tryz.prog encode_sized_s := FSnd.of fun h r hr => FAt.of_body (s := encode_sized_s) (fo := foS [varint_Put_s]) (lo := loL []) Tryz.func100 F100_ok F100_res (by kernel_rfl) (FoSnd.cons F113_b varint_Put_snd FoSnd.nil) (LoOk.snd LoOk.nil) (Eq.trans (by kernel_rfl) hr)
def encode_field (x_ : Int × Bool × List UInt8) : Option (List UInt8) :=
  match x_ with
  | (id, critical, p) =>
  some (mulI .u64 2 (wrp .u64 id)) >>= fun t10 =>
  if critical = true then
    varint_Put (addI .u64 t10 1) >>= fun r =>
    encode_sized p >>= fun r_1 =>
    if decide (r.length + r_1.length ≤ strMax) = true then
      some (r ++ r_1)
    else none
  else
    varint_Put t10 >>= fun r_2 =>
    encode_sized p >>= fun r_3 =>
    if decide (r_2.length + r_3.length ≤ strMax) = true then
      some (r_2 ++ r_3)
    else none
theorem F68_b : hasBody Tryz.prog 68 = true := by kernel_rfl
theorem F68_ok : Tryz.f68.body.bind (Go.Proofs.YthnmepafpikaiaaGreat.Shv.resolve Tryz.prog Tryz.f68.ntmps) = some (codeOf Tryz.prog Tryz.f68) := by kernel_rfl
theorem F68_res : resolveRes Tryz.prog Tryz.f68.results.toList = some [.tmp 6] := by kernel_rfl
def encode_field_p (F : Hs Un.D [.int .i64, .bool, .str] → Option (Hs Un.D [.str])) : FSpec Un := ⟨68, [.c (.hole (.int .i64)), .c (.hole .bool), .c (.hole .str)], [], [.int .i64, .bool, .str], .c (.hole .str), [], [.str], F⟩
def encode_field_s : FSpec Un := encode_field_p encode_field
theorem encode_field_snd : FSnd Tryz.prog encode_field_s := FSnd.of fun h r hr => FAt.of_body (s := encode_field_s) (fo := foS [varint_Put_s, encode_sized_s]) (lo := loL []) Tryz.func68 F68_ok F68_res (by kernel_rfl) (FoSnd.cons F113_b varint_Put_snd (FoSnd.cons F100_b encode_sized_snd FoSnd.nil)) (LoOk.snd LoOk.nil) (Eq.trans (by kernel_rfl) hr)
def strings_Builder_WriteString (x_ : List UInt8 × List UInt8) : Option (Int × List UInt8) :=
  match x_ with
  | (s, b) =>
  some b >>= fun r =>
  if (decide (r.length = b.length) && true) = true then
    if room 1 (r.length + s.length) = true then
      some ((s.length : Int), catS r s)
    else none
  else none
theorem F73_b : hasBody Tryz.prog 73 = true := by kernel_rfl
theorem F73_ok : Tryz.f73.body.bind (Go.Proofs.YthnmepafpikaiaaGreat.Shv.resolve Tryz.prog Tryz.f73.ntmps) = some (codeOf Tryz.prog Tryz.f73) := by kernel_rfl
theorem F73_res : resolveRes Tryz.prog Tryz.f73.results.toList = some [.tmp 4, .tmp 5] := by kernel_rfl
def strings_Builder_WriteString_p (F : Hs Un.D [.str, .str] → Option (Hs Un.D [.int .i64, .str])) : FSpec Un := ⟨73, [.c (.ptr 0 0), .c (.hole .str)], [.bld 130 ((.bufc 1)), .buf 5], [.str, .str], .tup [.c (.hole (.int .i64)), .c (.dead)], [.bld 130 ((.bufc 2)), .gone, .buf 5], [.int .i64, .str], F⟩
def strings_Builder_WriteString_s : FSpec Un := strings_Builder_WriteString_p strings_Builder_WriteString
theorem strings_Builder_WriteString_snd : FSnd Tryz.prog strings_Builder_WriteString_s := FSnd.of fun h r hr => FAt.of_body (s := strings_Builder_WriteString_s) (fo := foS [copyCheck_117_s]) (lo := loL []) Tryz.func73 F73_ok F73_res (by kernel_rfl) (FoSnd.cons F117_b copyCheck_117_snd FoSnd.nil) (LoOk.snd LoOk.nil) (Eq.trans (by kernel_rfl) hr)
def strings_Builder_String (b : List UInt8) : Option (List UInt8) :=
  if eqI (b.length : Int) (b.length : Int) = true then
    some b
  else none
theorem F75_b : hasBody Tryz.prog 75 = true := by kernel_rfl
theorem F75_ok : Tryz.f75.body.bind (Go.Proofs.YthnmepafpikaiaaGreat.Shv.resolve Tryz.prog Tryz.f75.ntmps) = some (codeOf Tryz.prog Tryz.f75) := by kernel_rfl
theorem F75_res : resolveRes Tryz.prog Tryz.f75.results.toList = some [.tmp 2] := by kernel_rfl
def strings_Builder_String_p (F : Hs Un.D [.str] → Option (Hs Un.D [.str])) : FSpec Un := ⟨75, [.c (.ptr 0 0)], [.bld 130 ((.bufc 1)), .buf 5], [.str], .c (.hole .str), [.bld 130 ((.bufc 1)), .gone], [.str], F⟩
def strings_Builder_String_s : FSpec Un := strings_Builder_String_p strings_Builder_String
theorem strings_Builder_String_snd : FSnd Tryz.prog strings_Builder_String_s := FSnd.of fun h r hr => FAt.of_body (s := strings_Builder_String_s) (fo := foS []) (lo := loL []) Tryz.func75 F75_ok F75_res (by kernel_rfl) FoSnd.nil (LoOk.snd LoOk.nil) (Eq.trans (by kernel_rfl) hr)
end Go.Proofs.YthnmepafpikaiaaGreat

namespace Go.Proofs.YthnmepafpikaiaaGreat
open Go Go.Proofs.YthnmepafpikaiaaGreat.Shv
set_option maxRecDepth 100000
set_option linter.all false

def encode_writer_record_l1 (x_ : List SRaw × Int × Int × List SType × Int × List EncodeEntry) : Option (List SType × Int × List EncodeEntry) :=
  match x_ with
  | (t57, t58_1, t59, b_16, b_17, b_18) =>
  if decide (t59 < t58_1) = true then
    if inR t59 t57.length = true then
      some (t57.getD t59.toNat dSRaw) >>= fun x0_4 =>
      encode_field (x0_4.ID, false, x0_4.Data) >>= fun r_8 =>
      some [(⟨x0_4.ID, r_8⟩ : EncodeEntry)] >>= fun t72 =>
      if room 24 (b_18 ++ t72).length = true then
        encode_writer_record_l1 (t57, t58_1, addI .i64 t59 1, b_16, b_17, b_18 ++ t72)
      else none
    else none
  else
    some (b_16, b_17, b_18)
  partial_fixpoint
theorem F98_b : hasBody Tryz.prog 98 = true := by kernel_rfl
theorem F98_ok : Tryz.f98.body.bind (Go.Proofs.YthnmepafpikaiaaGreat.Shv.resolve Tryz.prog Tryz.f98.ntmps) = some (codeOf Tryz.prog Tryz.f98) := by kernel_rfl
theorem F98_res : resolveRes Tryz.prog Tryz.f98.results.toList = some [.tmp 8] := by kernel_rfl
def encode_writer_record_l1_sh : Shape := ⟨[(9, .c (.arr 1)), (57, .c (.hole (.slice (.nm 2)))), (58, .c (.hole (.int .i64))), (59, .c (.hole (.int .i64)))], [.box [.hole (.slice (.nm 3)), .hole (.int .i64)], .arr (.nm 6)]⟩
def encode_writer_record_l1_ts : List Ty := [.slice (.nm 2), .int .i64, .int .i64, .slice (.nm 3), .int .i64, .slice (.nm 6)]
def encode_writer_record_l1_outs : List OSpec := [⟨.exit 2, ⟨[(9, .c (.arr 1))], [.box [.hole (.slice (.nm 3)), .hole (.int .i64)], .arr (.nm 6)]⟩, [], [.slice (.nm 3), .int .i64, .slice (.nm 6)]⟩]
def encode_writer_record_l1_p (F : Hs Un.D encode_writer_record_l1_ts → Option (OSum Un encode_writer_record_l1_outs)) : LSpec Un := ⟨encode_writer_record_l1_sh, [], encode_writer_record_l1_ts, encode_writer_record_l1_outs, F⟩
def encode_writer_record_l1_s : LSpec Un := encode_writer_record_l1_p encode_writer_record_l1
theorem encode_writer_record_l1_snd : LSnd Tryz.prog Tryz.f98.ntmps 1 (loopOf (codeOf Tryz.prog Tryz.f98) 1) encode_writer_record_l1_s := fun h o ho => encode_writer_record_l1.partial_correctness (fun h o => LAt (U := Un) Tryz.prog Tryz.f98.ntmps 1 (loopOf (codeOf Tryz.prog Tryz.f98) 1) encode_writer_record_l1_sh encode_writer_record_l1_ts encode_writer_record_l1_outs h o) (fun F1 HF1 h o ho => LAt.of_round (fo := foS [encode_field_s]) (lo := loL []) (own := []) (F' := F1) (FoSnd.cons F68_b encode_field_snd FoSnd.nil) (LoOk.snd LoOk.nil) HF1 (Eq.trans (by kernel_rfl) ho)) h o ho
def encode_writer_record_l2 (x_ : Int × Int × List SType × Int × List EncodeEntry × List UInt8) : Option (List SType × Int × List UInt8) :=
  match x_ with
  | (t78_1, t79, b_19, b_20, b_21, b_22) =>
  if decide (t79 < t78_1) = true then
    if inR t79 b_21.length = true then
      if decide (t79.toNat < b_21.length) = true then
        strings_Builder_WriteString ((b_21.getD t79.toNat dEncodeEntry).text, b_22) >>= fun r_9 =>
        encode_writer_record_l2 (t78_1, addI .i64 t79 1, b_19, b_20, b_21, r_9.2)
      else none
    else none
  else
    some (b_19, b_20, b_22)
  partial_fixpoint
def encode_writer_record_l2_sh : Shape := ⟨[(14, .c (.ptr 1 0)), (77, .c (.arr 2)), (78, .c (.hole (.int .i64))), (79, .c (.hole (.int .i64)))], [.box [.hole (.slice (.nm 3)), .hole (.int .i64)], .bld 130 ((.bufc 3)), .arr (.nm 6), .buf 5]⟩
def encode_writer_record_l2_ts : List Ty := [.int .i64, .int .i64, .slice (.nm 3), .int .i64, .slice (.nm 6), .str]
def encode_writer_record_l2_outs : List OSpec := [⟨.exit 4, ⟨[(14, .c (.ptr 1 0))], [.box [.hole (.slice (.nm 3)), .hole (.int .i64)], .bld 130 ((.bufc 2)), .buf 5]⟩, [], [.slice (.nm 3), .int .i64, .str]⟩]
def encode_writer_record_l2_p (F : Hs Un.D encode_writer_record_l2_ts → Option (OSum Un encode_writer_record_l2_outs)) : LSpec Un := ⟨encode_writer_record_l2_sh, [], encode_writer_record_l2_ts, encode_writer_record_l2_outs, F⟩
def encode_writer_record_l2_s : LSpec Un := encode_writer_record_l2_p encode_writer_record_l2
theorem encode_writer_record_l2_snd : LSnd Tryz.prog Tryz.f98.ntmps 1 (loopOf (codeOf Tryz.prog Tryz.f98) 2) encode_writer_record_l2_s := fun h o ho => encode_writer_record_l2.partial_correctness (fun h o => LAt (U := Un) Tryz.prog Tryz.f98.ntmps 1 (loopOf (codeOf Tryz.prog Tryz.f98) 2) encode_writer_record_l2_sh encode_writer_record_l2_ts encode_writer_record_l2_outs h o) (fun F1 HF1 h o ho => LAt.of_round (fo := foS [strings_Builder_WriteString_s]) (lo := loL []) (own := []) (F' := F1) (FoSnd.cons F73_b strings_Builder_WriteString_snd FoSnd.nil) (LoOk.snd LoOk.nil) HF1 (Eq.trans (by kernel_rfl) ho)) h o ho
mutual
def encode_writer_payload (x_ : Int × SValue × Int × List SType × Int) : Option (List UInt8 × List SType × Int) :=
  match x_ with
  | (t, v, level, b, b_1) =>
  some (maxI b_1 level) >>= fun t19 =>
  if inR t b.length = true then
    some (b.getD t.toNat dSType) >>= fun x0 =>
    if decide (x0.Kind = 1) = true then
      if v.Bool_ = true then
        some ([1], b, t19)
      else
        some ([], b, t19)
    else
      if decide (x0.Kind = 2) = true then
        varint_Zigzag v.Int_ >>= fun r =>
        varint_Big r >>= fun r_1 =>
        some (r_1, b, t19)
      else
        if decide (x0.Kind = 3) = true then
          some (v.Str, b, t19)
        else
          if decide (x0.Kind = 4) = true then
            varint_Big (wrp .u64 v.ID) >>= fun r_2 =>
            some (r_2, b, t19)
          else
            if decide (x0.Kind = 5) = true then
              encode_writer_record (x0, SValue.eta v, level, b, t19) >>= fun r_3 =>
              some (r_3.1, r_3.2.1, r_3.2.2)
            else
              if decide (x0.Kind = 6) = true then
                encode_writer_union (x0, SValue.eta v, level, b, t19) >>= fun r_7 =>
                some (r_7.1, r_7.2.1, r_7.2.2)
              else
                if decide (x0.Kind = 9) = true then
                  if decide ((v.Items.length : Int) = 0) = true then
                    some ([], b, t19)
                  else
                    if inR 0 v.Items.length = true then
                      encode_writer_payload (x0.Elem, SValue.eta (v.Items.getD (0 : Int).toNat dSValue), addI .i64 level 1, b, t19) >>= fun r_11 =>
                      if decide ([1].length + r_11.1.length ≤ strMax) = true then
                        some ([1] ++ r_11.1, r_11.2.1, r_11.2.2)
                      else none
                    else none
                else
                  encode_writer_payload_l0 (level, v.Items, (v.Items.length : Int), 0, b, t19, SValue.eta v, x0, []) >>= fun o =>
                  strings_Builder_String o.2.2 >>= fun r_15 =>
                  some (r_15, o.1, o.2.1)
  else none
  partial_fixpoint
def encode_writer_record (x_ : SType × SValue × Int × List SType × Int) : Option (List UInt8 × List SType × Int) :=
  match x_ with
  | (x0, v, level, b, b_1) =>
  encode_writer_record_l0 (level, x0.Members, (x0.Members.length : Int), 0, b, b_1, SValue.eta v, []) >>= fun o =>
  encode_writer_record_l1 (o.2.2.1.Rest, (o.2.2.1.Rest.length : Int), 0, o.1, o.2.1, o.2.2.2) >>= fun o_1 =>
  sortF_134 o_1.2.2 >>= fun r =>
  if (decide (r.length = o_1.2.2.length) && true) = true then
    encode_writer_record_l2 ((r.length : Int), 0, o_1.1, o_1.2.1, r, []) >>= fun o_2 =>
    strings_Builder_String o_2.2.2 >>= fun r_1 =>
    some (r_1, o_2.1, o_2.2.1)
  else none
  partial_fixpoint
def encode_writer_union (x_ : SType × SValue × Int × List SType × Int) : Option (List UInt8 × List SType × Int) :=
  match x_ with
  | (x0, v, level, b, b_1) =>
  varint_Put (wrp .u64 v.ID) >>= fun r =>
  schema_Member (x0, v.ID) >>= fun r_1 =>
  if (!r_1.2) = true then
    if inR 0 v.Rest.length = true then
      some (v.Rest.getD (0 : Int).toNat dSRaw) >>= fun x0_1 =>
      if decide (r.length + x0_1.Data.length ≤ strMax) = true then
        some (r ++ x0_1.Data, b, b_1)
      else none
    else none
  else
    if inR r_1.1 x0.Members.length = true then
      if inR 0 v.Items.length = true then
        encode_writer_payload ((x0.Members.getD r_1.1.toNat dSMember).Type_, SValue.eta (v.Items.getD (0 : Int).toNat dSValue), addI .i64 level 1, b, b_1) >>= fun r_4 =>
        if decide (r.length + r_4.1.length ≤ strMax) = true then
          some (r ++ r_4.1, r_4.2.1, r_4.2.2)
        else none
      else none
    else none
  partial_fixpoint
def encode_writer_payload_l0 (x_ : Int × List SValue × Int × Int × List SType × Int × SValue × SType × List UInt8) : Option (List SType × Int × List UInt8) :=
  match x_ with
  | (level_1, t84, t85_1, t86, b_5, b_6, b_7, b_8, b_9) =>
  if decide (t86 < t85_1) = true then
    if inR t86 t84.length = true then
      some (t84.getD t86.toNat dSValue) >>= fun x0_2 =>
      if decide (b_8.Kind = 8) = true then
        if inR t86 b_7.Keys.length = true then
          encode_writer_payload (b_8.Key, SValue.eta (b_7.Keys.getD t86.toNat dSValue), addI .i64 level_1 1, b_5, b_6) >>= fun r_16 =>
          encode_sized r_16.1 >>= fun r_20 =>
          strings_Builder_WriteString (r_20, b_9) >>= fun r_21 =>
          encode_writer_payload (b_8.Elem, SValue.eta x0_2, addI .i64 level_1 1, r_16.2.1, r_16.2.2) >>= fun r_24 =>
          encode_sized r_24.1 >>= fun r_28 =>
          strings_Builder_WriteString (r_28, r_21.2) >>= fun r_29 =>
          encode_writer_payload_l0 (level_1, t84, t85_1, addI .i64 t86 1, r_24.2.1, r_24.2.2, SValue.eta b_7, b_8, r_29.2)
        else none
      else
        encode_writer_payload (b_8.Elem, SValue.eta x0_2, addI .i64 level_1 1, b_5, b_6) >>= fun r_32 =>
        encode_sized r_32.1 >>= fun r_36 =>
        strings_Builder_WriteString (r_36, b_9) >>= fun r_37 =>
        encode_writer_payload_l0 (level_1, t84, t85_1, addI .i64 t86 1, r_32.2.1, r_32.2.2, SValue.eta b_7, b_8, r_37.2)
    else none
  else
    some (b_5, b_6, b_9)
  partial_fixpoint
def encode_writer_record_l0 (x_ : Int × List SMember × Int × Int × List SType × Int × SValue × List EncodeEntry) : Option (List SType × Int × SValue × List EncodeEntry) :=
  match x_ with
  | (level_1, t18, t19_1, t20, b_12, b_13, b_14, b_15) =>
  if decide (t20 < t19_1) = true then
    if inR t20 t18.length = true then
      some (t18.getD t20.toNat dSMember) >>= fun x0_1 =>
      if inR t20 b_14.Items.length = true then
        encode_omitted ((⟨x0_1.ID, x0_1.Name, x0_1.Type_, x0_1.Critical, x0_1.HasDefault, SValue.eta x0_1.Default⟩ : SMember), SValue.eta (b_14.Items.getD t20.toNat dSValue)) >>= fun r_2 =>
        if (!r_2) = true then
          if inR t20 b_14.Items.length = true then
            encode_writer_payload (x0_1.Type_, SValue.eta (b_14.Items.getD t20.toNat dSValue), addI .i64 level_1 1, b_12, b_13) >>= fun r_3 =>
            encode_field (x0_1.ID, x0_1.Critical, r_3.1) >>= fun r_7 =>
            some [(⟨x0_1.ID, r_7⟩ : EncodeEntry)] >>= fun t53 =>
            if room 24 (b_15 ++ t53).length = true then
              encode_writer_record_l0 (level_1, t18, t19_1, addI .i64 t20 1, r_3.2.1, r_3.2.2, SValue.eta b_14, b_15 ++ t53)
            else none
          else none
        else
          encode_writer_record_l0 (level_1, t18, t19_1, addI .i64 t20 1, b_12, b_13, SValue.eta b_14, b_15)
      else none
    else none
  else
    some (b_12, b_13, SValue.eta b_14, b_15)
  partial_fixpoint
end
theorem F57_b : hasBody Tryz.prog 57 = true := by kernel_rfl
theorem F57_ok : Tryz.f57.body.bind (Go.Proofs.YthnmepafpikaiaaGreat.Shv.resolve Tryz.prog Tryz.f57.ntmps) = some (codeOf Tryz.prog Tryz.f57) := by kernel_rfl
theorem F57_res : resolveRes Tryz.prog Tryz.f57.results.toList = some [.tmp 8] := by kernel_rfl
def encode_writer_payload_p (F : Hs Un.D [.int .i64, .nm 1, .int .i64, .slice (.nm 3), .int .i64] → Option (Hs Un.D [.str, .slice (.nm 3), .int .i64])) : FSpec Un := ⟨57, [.c (.ptr 0 0), .c (.hole (.int .i64)), .row 1, .c (.hole (.int .i64))], [.box [.hole (.slice (.nm 3)), .hole (.int .i64)]], [.int .i64, .nm 1, .int .i64, .slice (.nm 3), .int .i64], .c (.hole .str), [.box [.hole (.slice (.nm 3)), .hole (.int .i64)]], [.str, .slice (.nm 3), .int .i64], F⟩
def encode_writer_payload_s : FSpec Un := encode_writer_payload_p encode_writer_payload
def encode_writer_payload_l0_sh : Shape := ⟨[(0, .c (.ptr 0 0)), (3, .c (.hole (.int .i64))), (6, .c (.ptr 1 0)), (9, .c (.ptr 2 0)), (10, .c (.ptr 3 0)), (84, .c (.hole (.slice (.nm 1)))), (85, .c (.hole (.int .i64))), (86, .c (.hole (.int .i64)))], [.box [.hole (.slice (.nm 3)), .hole (.int .i64)], .brow 1, .brow 3, .bld 130 ((.bufc 4)), .buf 5]⟩
def encode_writer_payload_l0_ts : List Ty := [.int .i64, .slice (.nm 1), .int .i64, .int .i64, .slice (.nm 3), .int .i64, .nm 1, .nm 3, .str]
def encode_writer_payload_l0_outs : List OSpec := [⟨.exit 1, ⟨[(10, .c (.ptr 1 0))], [.box [.hole (.slice (.nm 3)), .hole (.int .i64)], .bld 130 ((.bufc 2)), .buf 5]⟩, [], [.slice (.nm 3), .int .i64, .str]⟩]
def encode_writer_payload_l0_p (F : Hs Un.D encode_writer_payload_l0_ts → Option (OSum Un encode_writer_payload_l0_outs)) : LSpec Un := ⟨encode_writer_payload_l0_sh, [], encode_writer_payload_l0_ts, encode_writer_payload_l0_outs, F⟩
def encode_writer_payload_l0_s : LSpec Un := encode_writer_payload_l0_p encode_writer_payload_l0
theorem F99_b : hasBody Tryz.prog 99 = true := by kernel_rfl
theorem F99_ok : Tryz.f99.body.bind (Go.Proofs.YthnmepafpikaiaaGreat.Shv.resolve Tryz.prog Tryz.f99.ntmps) = some (codeOf Tryz.prog Tryz.f99) := by kernel_rfl
theorem F99_res : resolveRes Tryz.prog Tryz.f99.results.toList = some [.tmp 8] := by kernel_rfl
def encode_writer_union_p (F : Hs Un.D [.nm 3, .nm 1, .int .i64, .slice (.nm 3), .int .i64] → Option (Hs Un.D [.str, .slice (.nm 3), .int .i64])) : FSpec Un := ⟨99, [.c (.ptr 0 0), .row 3, .row 1, .c (.hole (.int .i64))], [.box [.hole (.slice (.nm 3)), .hole (.int .i64)]], [.nm 3, .nm 1, .int .i64, .slice (.nm 3), .int .i64], .c (.hole .str), [.box [.hole (.slice (.nm 3)), .hole (.int .i64)]], [.str, .slice (.nm 3), .int .i64], F⟩
def encode_writer_union_s : FSpec Un := encode_writer_union_p encode_writer_union
def encode_writer_record_p (F : Hs Un.D [.nm 3, .nm 1, .int .i64, .slice (.nm 3), .int .i64] → Option (Hs Un.D [.str, .slice (.nm 3), .int .i64])) : FSpec Un := ⟨98, [.c (.ptr 0 0), .row 3, .row 1, .c (.hole (.int .i64))], [.box [.hole (.slice (.nm 3)), .hole (.int .i64)]], [.nm 3, .nm 1, .int .i64, .slice (.nm 3), .int .i64], .c (.hole .str), [.box [.hole (.slice (.nm 3)), .hole (.int .i64)]], [.str, .slice (.nm 3), .int .i64], F⟩
def encode_writer_record_s : FSpec Un := encode_writer_record_p encode_writer_record
def encode_writer_record_l0_sh : Shape := ⟨[(0, .c (.ptr 0 0)), (3, .c (.hole (.int .i64))), (6, .c (.ptr 1 0)), (9, .c (.arr 2)), (18, .c (.hole (.slice (.nm 0)))), (19, .c (.hole (.int .i64))), (20, .c (.hole (.int .i64)))], [.box [.hole (.slice (.nm 3)), .hole (.int .i64)], .brow 1, .arr (.nm 6)]⟩
def encode_writer_record_l0_ts : List Ty := [.int .i64, .slice (.nm 0), .int .i64, .int .i64, .slice (.nm 3), .int .i64, .nm 1, .slice (.nm 6)]
def encode_writer_record_l0_outs : List OSpec := [⟨.exit 0, ⟨[(6, .c (.ptr 1 0)), (9, .c (.arr 2))], [.box [.hole (.slice (.nm 3)), .hole (.int .i64)], .brow 1, .arr (.nm 6)]⟩, [], [.slice (.nm 3), .int .i64, .nm 1, .slice (.nm 6)]⟩]
def encode_writer_record_l0_p (F : Hs Un.D encode_writer_record_l0_ts → Option (OSum Un encode_writer_record_l0_outs)) : LSpec Un := ⟨encode_writer_record_l0_sh, [(.slot 9, .nm 6)], encode_writer_record_l0_ts, encode_writer_record_l0_outs, F⟩
def encode_writer_record_l0_s : LSpec Un := encode_writer_record_l0_p encode_writer_record_l0
theorem encode_writer_payload_all : (FSnd Tryz.prog encode_writer_payload_s) ∧ (LSnd Tryz.prog Tryz.f57.ntmps 1 (loopOf (codeOf Tryz.prog Tryz.f57) 0) encode_writer_payload_l0_s) ∧ (FSnd Tryz.prog encode_writer_union_s) ∧ (FSnd Tryz.prog encode_writer_record_s) ∧ (LSnd Tryz.prog Tryz.f98.ntmps 1 (loopOf (codeOf Tryz.prog Tryz.f98) 0) encode_writer_record_l0_s) := encode_writer_payload.mutual_partial_correctness (fun h r => FAt Tryz.prog encode_writer_payload_s h r) (fun h o => LAt (U := Un) Tryz.prog Tryz.f57.ntmps 1 (loopOf (codeOf Tryz.prog Tryz.f57) 0) encode_writer_payload_l0_sh encode_writer_payload_l0_ts encode_writer_payload_l0_outs h o) (fun h r => FAt Tryz.prog encode_writer_union_s h r) (fun h r => FAt Tryz.prog encode_writer_record_s h r) (fun h o => LAt (U := Un) Tryz.prog Tryz.f98.ntmps 1 (loopOf (codeOf Tryz.prog Tryz.f98) 0) encode_writer_record_l0_sh encode_writer_record_l0_ts encode_writer_record_l0_outs h o)
  (fun F1 F2 F3 F4 HF1 HF2 HF3 HF4 h o ho => FAt.of_body (s := (encode_writer_payload_p F1)) (fo := foS [varint_Zigzag_s, varint_Big_s, encode_writer_record_p F4, encode_writer_union_p F3, encode_writer_payload_p F1, strings_Builder_String_s]) (lo := loL [(0, encode_writer_payload_l0_p F2)]) Tryz.func57 F57_ok F57_res (by kernel_rfl) (FoSnd.cons F97_b varint_Zigzag_snd (FoSnd.cons F96_b varint_Big_snd (FoSnd.cons F98_b HF4 (FoSnd.cons F99_b HF3 (FoSnd.cons F57_b HF1 (FoSnd.cons F75_b strings_Builder_String_snd FoSnd.nil)))))) (LoOk.snd (LoOk.cons HF2 LoOk.nil)) (Eq.trans (by kernel_rfl) ho))
  (fun F1 F2 HF1 HF2 h o ho => LAt.of_round (fo := foS [encode_writer_payload_p F1, encode_sized_s, strings_Builder_WriteString_s]) (lo := loL []) (own := []) (F' := F2) (FoSnd.cons F57_b HF1 (FoSnd.cons F100_b encode_sized_snd (FoSnd.cons F73_b strings_Builder_WriteString_snd FoSnd.nil))) (LoOk.snd LoOk.nil) HF2 (Eq.trans (by kernel_rfl) ho))
  (fun F1 HF1 h o ho => FAt.of_body (s := encode_writer_union_s) (fo := foS [varint_Put_s, schema_Member_s, encode_writer_payload_p F1]) (lo := loL []) Tryz.func99 F99_ok F99_res (by kernel_rfl) (FoSnd.cons F113_b varint_Put_snd (FoSnd.cons F82_b schema_Member_snd (FoSnd.cons F57_b HF1 FoSnd.nil))) (LoOk.snd LoOk.nil) (Eq.trans (by kernel_rfl) ho))
  (fun F5 HF5 h o ho => FAt.of_body (s := encode_writer_record_s) (fo := foS [SortFunc_134_s, strings_Builder_String_s]) (lo := loL [(0, encode_writer_record_l0_p F5), (1, encode_writer_record_l1_s), (2, encode_writer_record_l2_s)]) Tryz.func98 F98_ok F98_res (by kernel_rfl) (FoSnd.cons F134_b SortFunc_134_snd (FoSnd.cons F75_b strings_Builder_String_snd FoSnd.nil)) (LoOk.snd (LoOk.cons HF5 (LoOk.cons encode_writer_record_l1_snd (LoOk.cons encode_writer_record_l2_snd LoOk.nil)))) (Eq.trans (by kernel_rfl) ho))
  (fun F1 F5 HF1 HF5 h o ho => LAt.of_round (fo := foS [encode_omitted_s, encode_writer_payload_p F1, encode_field_s]) (lo := loL []) (own := [(.slot 9, .nm 6)]) (F' := F5) (FoSnd.cons F133_b encode_omitted_snd (FoSnd.cons F57_b HF1 (FoSnd.cons F68_b encode_field_snd FoSnd.nil))) (LoOk.snd LoOk.nil) HF5 (Eq.trans (by kernel_rfl) ho))
theorem encode_writer_payload_snd : FSnd Tryz.prog encode_writer_payload_s := encode_writer_payload_all.1
theorem encode_writer_payload_l0_snd : LSnd Tryz.prog Tryz.f57.ntmps 1 (loopOf (codeOf Tryz.prog Tryz.f57) 0) encode_writer_payload_l0_s := encode_writer_payload_all.2.1
theorem encode_writer_union_snd : FSnd Tryz.prog encode_writer_union_s := encode_writer_payload_all.2.2.1
theorem encode_writer_record_snd : FSnd Tryz.prog encode_writer_record_s := encode_writer_payload_all.2.2.2.1
theorem encode_writer_record_l0_snd : LSnd Tryz.prog Tryz.f98.ntmps 1 (loopOf (codeOf Tryz.prog Tryz.f98) 0) encode_writer_record_l0_s := encode_writer_payload_all.2.2.2.2
def encode_Encode (x_ : SSchema × Int × SValue) : Option (List UInt8 × Int) :=
  match x_ with
  | (s, t, v) =>
  encode_checked ((⟨s.Types⟩ : SSchema), t, SValue.eta v) >>= fun r =>
  if (!(decide (r = 0))) = true then
    some ([], r)
  else
    encode_writer_payload (t, SValue.eta v, 1, s.Types, 0) >>= fun r_1 =>
    if (bif decide (4096 < (r_1.1.length : Int)) then true else decide (200 < r_1.2.2)) = true then
      some ([], 3)
    else
      some (r_1.1, 0)
theorem F26_b : hasBody Tryz.prog 26 = true := by kernel_rfl
theorem F26_ok : Tryz.f26.body.bind (Go.Proofs.YthnmepafpikaiaaGreat.Shv.resolve Tryz.prog Tryz.f26.ntmps) = some (codeOf Tryz.prog Tryz.f26) := by kernel_rfl
theorem F26_res : resolveRes Tryz.prog Tryz.f26.results.toList = some [.tmp 6, .tmp 7] := by kernel_rfl
def encode_Encode_p (F : Hs Un.D [.nm 5, .int .i64, .nm 1] → Option (Hs Un.D [.str, .int .i64])) : FSpec Un := ⟨26, [.row 5, .c (.hole (.int .i64)), .row 1], [], [.nm 5, .int .i64, .nm 1], .tup [.c (.hole .str), .c (.hole (.int .i64))], [], [.str, .int .i64], F⟩
def encode_Encode_s : FSpec Un := encode_Encode_p encode_Encode
theorem encode_Encode_snd : FSnd Tryz.prog encode_Encode_s := FSnd.of fun h r hr => FAt.of_body (s := encode_Encode_s) (fo := foS [encode_checked_s, encode_writer_payload_s]) (lo := loL []) Tryz.func26 F26_ok F26_res (by kernel_rfl) (FoSnd.cons F56_b encode_checked_snd (FoSnd.cons F57_b encode_writer_payload_snd FoSnd.nil)) (LoOk.snd LoOk.nil) (Eq.trans (by kernel_rfl) hr)
def varint_Get_l0 (x_ : List UInt8 × Int × Int × Int) : Option ((Int × Int × Int) ⊕ (Unit)) :=
  match x_ with
  | (s_1, n, t10_1, t11) =>
  if decide (t11 < t10_1) = true then
    if inR t11 s_1.length = true then
      some (byteAt s_1 t11) >>= fun t16 =>
      if (bif decide (t11 = 9) then decide (1 < t16) else false) = true then
        some (.inl (0, 0, 7))
      else
        if decide (128 ≤ t16) = true then
          some (mulI .i64 7 t11) >>= fun t41 =>
          if decide (0 ≤ t41) = true then
            varint_Get_l0 (s_1, orI .u64 n (shlI .u64 (wrp .u64 (andI .u8 t16 127)) t41), t10_1, addI .i64 t11 1)
          else none
        else
          if (bif decide (t16 = 0) then decide (0 < t11) else false) = true then
            some (.inl (0, 0, 2))
          else
            some (mulI .i64 7 t11) >>= fun t21 =>
            if decide (0 ≤ t21) = true then
              some (.inl (orI .u64 n (shlI .u64 (wrp .u64 t16) t21), addI .i64 t11 1, 0))
            else none
    else none
  else
    some (.inr ())
  partial_fixpoint
theorem F76_b : hasBody Tryz.prog 76 = true := by kernel_rfl
theorem F76_ok : Tryz.f76.body.bind (Go.Proofs.YthnmepafpikaiaaGreat.Shv.resolve Tryz.prog Tryz.f76.ntmps) = some (codeOf Tryz.prog Tryz.f76) := by kernel_rfl
theorem F76_res : resolveRes Tryz.prog Tryz.f76.results.toList = some [.tmp 2, .tmp 3, .tmp 4] := by kernel_rfl
def varint_Get_l0_sh : Shape := ⟨[(0, .c (.hole .str)), (5, .c (.hole (.int .u64))), (10, .c (.hole (.int .i64))), (11, .c (.hole (.int .i64)))], []⟩
def varint_Get_l0_ts : List Ty := [.str, .int .u64, .int .i64, .int .i64]
def varint_Get_l0_outs : List OSpec := [⟨.ret, ⟨[(2, .c (.hole (.int .u64))), (3, .c (.hole (.int .i64))), (4, .c (.hole (.int .i64)))], []⟩, [], [.int .u64, .int .i64, .int .i64]⟩, ⟨.exit 0, ⟨[], []⟩, [], []⟩]
def varint_Get_l0_p (F : Hs Un.D varint_Get_l0_ts → Option (OSum Un varint_Get_l0_outs)) : LSpec Un := ⟨varint_Get_l0_sh, [], varint_Get_l0_ts, varint_Get_l0_outs, F⟩
def varint_Get_l0_s : LSpec Un := varint_Get_l0_p varint_Get_l0
theorem varint_Get_l0_snd : LSnd Tryz.prog Tryz.f76.ntmps 0 (loopOf (codeOf Tryz.prog Tryz.f76) 0) varint_Get_l0_s := fun h o ho => varint_Get_l0.partial_correctness (fun h o => LAt (U := Un) Tryz.prog Tryz.f76.ntmps 0 (loopOf (codeOf Tryz.prog Tryz.f76) 0) varint_Get_l0_sh varint_Get_l0_ts varint_Get_l0_outs h o) (fun F1 HF1 h o ho => LAt.of_round (fo := foS []) (lo := loL []) (own := []) (F' := F1) FoSnd.nil (LoOk.snd LoOk.nil) HF1 (Eq.trans (by kernel_rfl) ho)) h o ho
def varint_Get (s : List UInt8) : Option (Int × Int × Int) :=
  varint_Get_l0 (s, 0, minI 10 (s.length : Int), 0) >>= fun o =>
  match o with
  | .inl o_1 =>
    some (o_1.1, o_1.2.1, o_1.2.2)
  | .inr o_2 =>
    some (0, 0, 10)
def varint_Get_p (F : Hs Un.D [.str] → Option (Hs Un.D [.int .u64, .int .i64, .int .i64])) : FSpec Un := ⟨76, [.c (.hole .str)], [], [.str], .tup [.c (.hole (.int .u64)), .c (.hole (.int .i64)), .c (.hole (.int .i64))], [], [.int .u64, .int .i64, .int .i64], F⟩
def varint_Get_s : FSpec Un := varint_Get_p varint_Get
theorem varint_Get_snd : FSnd Tryz.prog varint_Get_s := FSnd.of fun h r hr => FAt.of_body (s := varint_Get_s) (fo := foS []) (lo := loL [(0, varint_Get_l0_s)]) Tryz.func76 F76_ok F76_res (by kernel_rfl) FoSnd.nil (LoOk.snd (LoOk.cons varint_Get_l0_snd LoOk.nil)) (Eq.trans (by kernel_rfl) hr)
def encode_next (s : List UInt8) : Option (Int × List UInt8 × Bool) :=
  varint_Get s >>= fun r =>
  if (!(decide (r.2.2 = 0))) = true then
    some (0, [], false)
  else
    if slR r.2.1 (s.length : Int) s.length = true then
      some (r.1, cutL s r.2.1 (s.length : Int), true)
    else none
theorem F41_b : hasBody Tryz.prog 41 = true := by kernel_rfl
theorem F41_ok : Tryz.f41.body.bind (Go.Proofs.YthnmepafpikaiaaGreat.Shv.resolve Tryz.prog Tryz.f41.ntmps) = some (codeOf Tryz.prog Tryz.f41) := by kernel_rfl
theorem F41_res : resolveRes Tryz.prog Tryz.f41.results.toList = some [.tmp 2, .tmp 3, .tmp 4] := by kernel_rfl
def encode_next_p (F : Hs Un.D [.str] → Option (Hs Un.D [.int .u64, .str, .bool])) : FSpec Un := ⟨41, [.c (.hole .str)], [], [.str], .tup [.c (.hole (.int .u64)), .c (.hole .str), .c (.hole .bool)], [], [.int .u64, .str, .bool], F⟩
def encode_next_s : FSpec Un := encode_next_p encode_next
theorem encode_next_snd : FSnd Tryz.prog encode_next_s := FSnd.of fun h r hr => FAt.of_body (s := encode_next_s) (fo := foS [varint_Get_s]) (lo := loL []) Tryz.func41 F41_ok F41_res (by kernel_rfl) (FoSnd.cons F76_b varint_Get_snd FoSnd.nil) (LoOk.snd LoOk.nil) (Eq.trans (by kernel_rfl) hr)
def encode_part (s : List UInt8) : Option (List UInt8 × List UInt8 × Bool) :=
  encode_next s >>= fun r =>
  if (bif (!r.2.2) then true else decide (wrp .u64 (r.2.1.length : Int) < r.1)) = true then
    some ([], [], false)
  else
    if slR 0 r.1 r.2.1.length = true then
      if slR r.1 (r.2.1.length : Int) r.2.1.length = true then
        some (cutL r.2.1 0 r.1, cutL r.2.1 r.1 (r.2.1.length : Int), true)
      else none
    else none
theorem F42_b : hasBody Tryz.prog 42 = true := by kernel_rfl
theorem F42_ok : Tryz.f42.body.bind (Go.Proofs.YthnmepafpikaiaaGreat.Shv.resolve Tryz.prog Tryz.f42.ntmps) = some (codeOf Tryz.prog Tryz.f42) := by kernel_rfl
theorem F42_res : resolveRes Tryz.prog Tryz.f42.results.toList = some [.tmp 2, .tmp 3, .tmp 4] := by kernel_rfl
def encode_part_p (F : Hs Un.D [.str] → Option (Hs Un.D [.str, .str, .bool])) : FSpec Un := ⟨42, [.c (.hole .str)], [], [.str], .tup [.c (.hole .str), .c (.hole .str), .c (.hole .bool)], [], [.str, .str, .bool], F⟩
def encode_part_s : FSpec Un := encode_part_p encode_part
theorem encode_part_snd : FSnd Tryz.prog encode_part_s := FSnd.of fun h r hr => FAt.of_body (s := encode_part_s) (fo := foS [encode_next_s]) (lo := loL []) Tryz.func42 F42_ok F42_res (by kernel_rfl) (FoSnd.cons F41_b encode_next_snd FoSnd.nil) (LoOk.snd LoOk.nil) (Eq.trans (by kernel_rfl) hr)
def encode_Items_l0 (x_ : List UInt8 × List (List UInt8)) : Option ((Int) ⊕ (List (List UInt8))) :=
  match x_ with
  | (s, b_1) =>
  if (!(decide (s = []))) = true then
    encode_part s >>= fun r =>
    if (!r.2.2) = true then
      some (.inl 12)
    else
      some [r.1] >>= fun t22 =>
      if room 16 (b_1 ++ t22).length = true then
        encode_Items_l0 (r.2.1, b_1 ++ t22)
      else none
  else
    some (.inr b_1)
  partial_fixpoint
theorem F14_b : hasBody Tryz.prog 14 = true := by kernel_rfl
theorem F14_ok : Tryz.f14.body.bind (Go.Proofs.YthnmepafpikaiaaGreat.Shv.resolve Tryz.prog Tryz.f14.ntmps) = some (codeOf Tryz.prog Tryz.f14) := by kernel_rfl
theorem F14_res : resolveRes Tryz.prog Tryz.f14.results.toList = some [.tmp 2, .tmp 3] := by kernel_rfl
def encode_Items_l0_sh : Shape := ⟨[(4, .c (.arr 0)), (5, .c (.hole .str))], [.arr .str]⟩
def encode_Items_l0_ts : List Ty := [.str, .slice .str]
def encode_Items_l0_outs : List OSpec := [⟨.ret, ⟨[(2, .c (.cap0)), (3, .c (.hole (.int .i64)))], []⟩, [], [.int .i64]⟩, ⟨.exit 0, ⟨[(4, .c (.arr 0))], [.arr .str]⟩, [], [.slice .str]⟩]
def encode_Items_l0_p (F : Hs Un.D encode_Items_l0_ts → Option (OSum Un encode_Items_l0_outs)) : LSpec Un := ⟨encode_Items_l0_sh, [(.slot 4, .str)], encode_Items_l0_ts, encode_Items_l0_outs, F⟩
def encode_Items_l0_s : LSpec Un := encode_Items_l0_p encode_Items_l0
theorem encode_Items_l0_snd : LSnd Tryz.prog Tryz.f14.ntmps 0 (loopOf (codeOf Tryz.prog Tryz.f14) 0) encode_Items_l0_s := fun h o ho => encode_Items_l0.partial_correctness (fun h o => LAt (U := Un) Tryz.prog Tryz.f14.ntmps 0 (loopOf (codeOf Tryz.prog Tryz.f14) 0) encode_Items_l0_sh encode_Items_l0_ts encode_Items_l0_outs h o) (fun F1 HF1 h o ho => LAt.of_round (fo := foS [encode_part_s]) (lo := loL []) (own := [(.slot 4, .str)]) (F' := F1) (FoSnd.cons F42_b encode_part_snd FoSnd.nil) (LoOk.snd LoOk.nil) HF1 (Eq.trans (by kernel_rfl) ho)) h o ho
def encode_Items (payload : List UInt8) : Option (List (List UInt8) × Int) :=
  encode_Items_l0 (payload, []) >>= fun o =>
  match o with
  | .inl o_1 =>
    some ([], o_1)
  | .inr o_2 =>
    some (o_2, 0)
def encode_Items_p (F : Hs Un.D [.str] → Option (Hs Un.D [.slice .str, .int .i64])) : FSpec Un := ⟨14, [.c (.hole .str)], [], [.str], .tup [.c (.hole (.slice .str)), .c (.hole (.int .i64))], [], [.slice .str, .int .i64], F⟩
def encode_Items_s : FSpec Un := encode_Items_p encode_Items
theorem encode_Items_snd : FSnd Tryz.prog encode_Items_s := FSnd.of fun h r hr => FAt.of_body (s := encode_Items_s) (fo := foS []) (lo := loL [(0, encode_Items_l0_s)]) Tryz.func14 F14_ok F14_res (by kernel_rfl) FoSnd.nil (LoOk.snd (LoOk.cons encode_Items_l0_snd LoOk.nil)) (Eq.trans (by kernel_rfl) hr)
end Go.Proofs.YthnmepafpikaiaaGreat

namespace Go.Proofs.YthnmepafpikaiaaGreat
open Go Go.Proofs.YthnmepafpikaiaaGreat.Shv
set_option maxRecDepth 100000
set_option linter.all false

def slices_Equalstring_string_l0 (x_ : List (List UInt8) × List (List UInt8) × Int × Int) : Option ((Bool) ⊕ (Unit)) :=
  match x_ with
  | (s1_1, s2_1, t12_1, t13) =>
  if decide (t13 < t12_1) = true then
    if inR t13 s1_1.length = true then
      if inR t13 s2_1.length = true then
        if (!(decide (s1_1.getD t13.toNat [] = s2_1.getD t13.toNat []))) = true then
          some (.inl false)
        else
          slices_Equalstring_string_l0 (s1_1, s2_1, t12_1, addI .i64 t13 1)
      else none
    else none
  else
    some (.inr ())
  partial_fixpoint
theorem F40_b : hasBody Tryz.prog 40 = true := by kernel_rfl
theorem F40_ok : Tryz.f40.body.bind (Go.Proofs.YthnmepafpikaiaaGreat.Shv.resolve Tryz.prog Tryz.f40.ntmps) = some (codeOf Tryz.prog Tryz.f40) := by kernel_rfl
theorem F40_res : resolveRes Tryz.prog Tryz.f40.results.toList = some [.tmp 4] := by kernel_rfl
def slices_Equalstring_string_l0_sh : Shape := ⟨[(0, .c (.hole (.slice .str))), (1, .c (.hole (.slice .str))), (12, .c (.hole (.int .i64))), (13, .c (.hole (.int .i64)))], []⟩
def slices_Equalstring_string_l0_ts : List Ty := [.slice .str, .slice .str, .int .i64, .int .i64]
def slices_Equalstring_string_l0_outs : List OSpec := [⟨.ret, ⟨[(4, .c (.hole .bool))], []⟩, [], [.bool]⟩, ⟨.exit 0, ⟨[], []⟩, [], []⟩]
def slices_Equalstring_string_l0_p (F : Hs Un.D slices_Equalstring_string_l0_ts → Option (OSum Un slices_Equalstring_string_l0_outs)) : LSpec Un := ⟨slices_Equalstring_string_l0_sh, [], slices_Equalstring_string_l0_ts, slices_Equalstring_string_l0_outs, F⟩
def slices_Equalstring_string_l0_s : LSpec Un := slices_Equalstring_string_l0_p slices_Equalstring_string_l0
theorem slices_Equalstring_string_l0_snd : LSnd Tryz.prog Tryz.f40.ntmps 0 (loopOf (codeOf Tryz.prog Tryz.f40) 0) slices_Equalstring_string_l0_s := fun h o ho => slices_Equalstring_string_l0.partial_correctness (fun h o => LAt (U := Un) Tryz.prog Tryz.f40.ntmps 0 (loopOf (codeOf Tryz.prog Tryz.f40) 0) slices_Equalstring_string_l0_sh slices_Equalstring_string_l0_ts slices_Equalstring_string_l0_outs h o) (fun F1 HF1 h o ho => LAt.of_round (fo := foS []) (lo := loL []) (own := []) (F' := F1) FoSnd.nil (LoOk.snd LoOk.nil) HF1 (Eq.trans (by kernel_rfl) ho)) h o ho
def slices_Equalstring_string (x_ : List (List UInt8) × List (List UInt8)) : Option (Bool) :=
  match x_ with
  | (s1, s2) =>
  if (!(decide ((s1.length : Int) = (s2.length : Int)))) = true then
    some false
  else
    slices_Equalstring_string_l0 (s1, s2, (s1.length : Int), 0) >>= fun o =>
    match o with
    | .inl o_1 =>
      some o_1
    | .inr o_2 =>
      some true
def slices_Equalstring_string_p (F : Hs Un.D [.slice .str, .slice .str] → Option (Hs Un.D [.bool])) : FSpec Un := ⟨40, [.c (.hole (.slice .str)), .c (.hole (.slice .str))], [], [.slice .str, .slice .str], .c (.hole .bool), [], [.bool], F⟩
def slices_Equalstring_string_s : FSpec Un := slices_Equalstring_string_p slices_Equalstring_string
theorem slices_Equalstring_string_snd : FSnd Tryz.prog slices_Equalstring_string_s := FSnd.of fun h r hr => FAt.of_body (s := slices_Equalstring_string_s) (fo := foS []) (lo := loL [(0, slices_Equalstring_string_l0_s)]) Tryz.func40 F40_ok F40_res (by kernel_rfl) FoSnd.nil (LoOk.snd (LoOk.cons slices_Equalstring_string_l0_snd LoOk.nil)) (Eq.trans (by kernel_rfl) hr)
def encode_Fields_l0 (x_ : Int × List UInt8 × List SField) : Option ((Int) ⊕ (List SField)) :=
  match x_ with
  | (last, s, b_1) =>
  if (!(decide (s = []))) = true then
    encode_next s >>= fun r =>
    if (bif bif (!r.2.2) then true else decide (quoI .u64 r.1 2 ≤ last) then true else decide (1000 < quoI .u64 r.1 2)) = true then
      some (.inl 12)
    else
      encode_part r.2.1 >>= fun r_4 =>
      if (!r_4.2.2) = true then
        some (.inl 12)
      else
        some [(⟨wrp .i64 (quoI .u64 r.1 2), decide (remI r.1 2 = 1), r_4.1⟩ : SField)] >>= fun t50 =>
        if room 32 (b_1 ++ t50).length = true then
          encode_Fields_l0 (quoI .u64 r.1 2, r_4.2.1, b_1 ++ t50)
        else none
  else
    some (.inr b_1)
  partial_fixpoint
theorem F12_b : hasBody Tryz.prog 12 = true := by kernel_rfl
theorem F12_ok : Tryz.f12.body.bind (Go.Proofs.YthnmepafpikaiaaGreat.Shv.resolve Tryz.prog Tryz.f12.ntmps) = some (codeOf Tryz.prog Tryz.f12) := by kernel_rfl
theorem F12_res : resolveRes Tryz.prog Tryz.f12.results.toList = some [.tmp 2, .tmp 3] := by kernel_rfl
def encode_Fields_l0_sh : Shape := ⟨[(4, .c (.arr 0)), (5, .c (.hole (.int .u64))), (6, .c (.hole .str))], [.arr (.nm 8)]⟩
def encode_Fields_l0_ts : List Ty := [.int .u64, .str, .slice (.nm 8)]
def encode_Fields_l0_outs : List OSpec := [⟨.ret, ⟨[(2, .c (.cap0)), (3, .c (.hole (.int .i64)))], []⟩, [], [.int .i64]⟩, ⟨.exit 0, ⟨[(4, .c (.arr 0))], [.arr (.nm 8)]⟩, [], [.slice (.nm 8)]⟩]
def encode_Fields_l0_p (F : Hs Un.D encode_Fields_l0_ts → Option (OSum Un encode_Fields_l0_outs)) : LSpec Un := ⟨encode_Fields_l0_sh, [(.slot 4, .nm 8)], encode_Fields_l0_ts, encode_Fields_l0_outs, F⟩
def encode_Fields_l0_s : LSpec Un := encode_Fields_l0_p encode_Fields_l0
theorem encode_Fields_l0_snd : LSnd Tryz.prog Tryz.f12.ntmps 0 (loopOf (codeOf Tryz.prog Tryz.f12) 0) encode_Fields_l0_s := fun h o ho => encode_Fields_l0.partial_correctness (fun h o => LAt (U := Un) Tryz.prog Tryz.f12.ntmps 0 (loopOf (codeOf Tryz.prog Tryz.f12) 0) encode_Fields_l0_sh encode_Fields_l0_ts encode_Fields_l0_outs h o) (fun F1 HF1 h o ho => LAt.of_round (fo := foS [encode_next_s, encode_part_s]) (lo := loL []) (own := [(.slot 4, .nm 8)]) (F' := F1) (FoSnd.cons F41_b encode_next_snd (FoSnd.cons F42_b encode_part_snd FoSnd.nil)) (LoOk.snd LoOk.nil) HF1 (Eq.trans (by kernel_rfl) ho)) h o ho
def encode_Fields (payload : List UInt8) : Option (List SField × Int) :=
  encode_Fields_l0 (0, payload, []) >>= fun o =>
  match o with
  | .inl o_1 =>
    some ([], o_1)
  | .inr o_2 =>
    some (o_2, 0)
def encode_Fields_p (F : Hs Un.D [.str] → Option (Hs Un.D [.slice (.nm 8), .int .i64])) : FSpec Un := ⟨12, [.c (.hole .str)], [], [.str], .tup [.c (.hole (.slice (.nm 8))), .c (.hole (.int .i64))], [], [.slice (.nm 8), .int .i64], F⟩
def encode_Fields_s : FSpec Un := encode_Fields_p encode_Fields
theorem encode_Fields_snd : FSnd Tryz.prog encode_Fields_s := FSnd.of fun h r hr => FAt.of_body (s := encode_Fields_s) (fo := foS []) (lo := loL [(0, encode_Fields_l0_s)]) Tryz.func12 F12_ok F12_res (by kernel_rfl) FoSnd.nil (LoOk.snd (LoOk.cons encode_Fields_l0_snd LoOk.nil)) (Eq.trans (by kernel_rfl) hr)
def encode_Arm (payload : List UInt8) : Option (Int × List UInt8 × Int) :=
  encode_next payload >>= fun r =>
  if (bif bif (!r.2.2) then true else decide (r.1 < 1) then true else decide (1000 < r.1)) = true then
    some (0, [], 12)
  else
    some (wrp .i64 r.1, r.2.1, 0)
theorem F16_b : hasBody Tryz.prog 16 = true := by kernel_rfl
theorem F16_ok : Tryz.f16.body.bind (Go.Proofs.YthnmepafpikaiaaGreat.Shv.resolve Tryz.prog Tryz.f16.ntmps) = some (codeOf Tryz.prog Tryz.f16) := by kernel_rfl
theorem F16_res : resolveRes Tryz.prog Tryz.f16.results.toList = some [.tmp 2, .tmp 3, .tmp 4] := by kernel_rfl
def encode_Arm_p (F : Hs Un.D [.str] → Option (Hs Un.D [.int .i64, .str, .int .i64])) : FSpec Un := ⟨16, [.c (.hole .str)], [], [.str], .tup [.c (.hole (.int .i64)), .c (.hole .str), .c (.hole (.int .i64))], [], [.int .i64, .str, .int .i64], F⟩
def encode_Arm_s : FSpec Un := encode_Arm_p encode_Arm
theorem encode_Arm_snd : FSnd Tryz.prog encode_Arm_s := FSnd.of fun h r hr => FAt.of_body (s := encode_Arm_s) (fo := foS [encode_next_s]) (lo := loL []) Tryz.func16 F16_ok F16_res (by kernel_rfl) (FoSnd.cons F41_b encode_next_snd FoSnd.nil) (LoOk.snd LoOk.nil) (Eq.trans (by kernel_rfl) hr)
def encode_before (x_ : List UInt8 × List UInt8) : Option (Bool) :=
  match x_ with
  | (a, b) =>
  some (bif decide ((a.length : Int) < (b.length : Int)) then true else bif decide ((a.length : Int) = (b.length : Int)) then Op.bytesLess a b else false)
theorem F124_b : hasBody Tryz.prog 124 = true := by kernel_rfl
theorem F124_ok : Tryz.f124.body.bind (Go.Proofs.YthnmepafpikaiaaGreat.Shv.resolve Tryz.prog Tryz.f124.ntmps) = some (codeOf Tryz.prog Tryz.f124) := by kernel_rfl
theorem F124_res : resolveRes Tryz.prog Tryz.f124.results.toList = some [.tmp 4] := by kernel_rfl
def encode_before_p (F : Hs Un.D [.str, .str] → Option (Hs Un.D [.bool])) : FSpec Un := ⟨124, [.c (.hole .str), .c (.hole .str)], [], [.str, .str], .c (.hole .bool), [], [.bool], F⟩
def encode_before_s : FSpec Un := encode_before_p encode_before
theorem encode_before_snd : FSnd Tryz.prog encode_before_s := FSnd.of fun h r hr => FAt.of_body (s := encode_before_s) (fo := foS []) (lo := loL []) Tryz.func124 F124_ok F124_res (by kernel_rfl) FoSnd.nil (LoOk.snd LoOk.nil) (Eq.trans (by kernel_rfl) hr)
def varint_FromBig_l0 (x_ : List UInt8 × Int × Int × Int) : Option (Int) :=
  match x_ with
  | (s_1, n_1, t17_1, t18) =>
  if decide (t18 < t17_1) = true then
    if inR t18 s_1.length = true then
      varint_FromBig_l0 (s_1, orI .u64 (shlI .u64 n_1 8) (wrp .u64 (byteAt s_1 t18)), t17_1, addI .i64 t18 1)
    else none
  else
    some n_1
  partial_fixpoint
theorem F127_b : hasBody Tryz.prog 127 = true := by kernel_rfl
theorem F127_ok : Tryz.f127.body.bind (Go.Proofs.YthnmepafpikaiaaGreat.Shv.resolve Tryz.prog Tryz.f127.ntmps) = some (codeOf Tryz.prog Tryz.f127) := by kernel_rfl
theorem F127_res : resolveRes Tryz.prog Tryz.f127.results.toList = some [.tmp 2, .tmp 3] := by kernel_rfl
def varint_FromBig_l0_sh : Shape := ⟨[(0, .c (.hole .str)), (4, .c (.hole (.int .u64))), (17, .c (.hole (.int .i64))), (18, .c (.hole (.int .i64)))], []⟩
def varint_FromBig_l0_ts : List Ty := [.str, .int .u64, .int .i64, .int .i64]
def varint_FromBig_l0_outs : List OSpec := [⟨.exit 0, ⟨[(4, .c (.hole (.int .u64)))], []⟩, [], [.int .u64]⟩]
def varint_FromBig_l0_p (F : Hs Un.D varint_FromBig_l0_ts → Option (OSum Un varint_FromBig_l0_outs)) : LSpec Un := ⟨varint_FromBig_l0_sh, [], varint_FromBig_l0_ts, varint_FromBig_l0_outs, F⟩
def varint_FromBig_l0_s : LSpec Un := varint_FromBig_l0_p varint_FromBig_l0
theorem varint_FromBig_l0_snd : LSnd Tryz.prog Tryz.f127.ntmps 0 (loopOf (codeOf Tryz.prog Tryz.f127) 0) varint_FromBig_l0_s := fun h o ho => varint_FromBig_l0.partial_correctness (fun h o => LAt (U := Un) Tryz.prog Tryz.f127.ntmps 0 (loopOf (codeOf Tryz.prog Tryz.f127) 0) varint_FromBig_l0_sh varint_FromBig_l0_ts varint_FromBig_l0_outs h o) (fun F1 HF1 h o ho => LAt.of_round (fo := foS []) (lo := loL []) (own := []) (F' := F1) FoSnd.nil (LoOk.snd LoOk.nil) HF1 (Eq.trans (by kernel_rfl) ho)) h o ho
def varint_FromBig (s : List UInt8) : Option (Int × Int) :=
  some (!(decide (s = []))) >>= fun t7 =>
  if (inR 0 s.length || (!t7)) = true then
    if (bif t7 then decide (byteAt s 0 = 0) else false) = true then
      some (0, 2)
    else
      if decide (8 < (s.length : Int)) = true then
        some (0, 7)
      else
        varint_FromBig_l0 (s, 0, (s.length : Int), 0) >>= fun o =>
        some (o, 0)
  else none
def varint_FromBig_p (F : Hs Un.D [.str] → Option (Hs Un.D [.int .u64, .int .i64])) : FSpec Un := ⟨127, [.c (.hole .str)], [], [.str], .tup [.c (.hole (.int .u64)), .c (.hole (.int .i64))], [], [.int .u64, .int .i64], F⟩
def varint_FromBig_s : FSpec Un := varint_FromBig_p varint_FromBig
theorem varint_FromBig_snd : FSnd Tryz.prog varint_FromBig_s := FSnd.of fun h r hr => FAt.of_body (s := varint_FromBig_s) (fo := foS []) (lo := loL [(0, varint_FromBig_l0_s)]) Tryz.func127 F127_ok F127_res (by kernel_rfl) FoSnd.nil (LoOk.snd (LoOk.cons varint_FromBig_l0_snd LoOk.nil)) (Eq.trans (by kernel_rfl) hr)
def varint_Unzigzag (n : Int) : Option (Int) :=
  some (xorI .i64 (wrp .i64 (shrI .u64 n 1)) (subI .i64 0 (wrp .i64 (andI .u64 n 1))))
theorem F128_b : hasBody Tryz.prog 128 = true := by kernel_rfl
theorem F128_ok : Tryz.f128.body.bind (Go.Proofs.YthnmepafpikaiaaGreat.Shv.resolve Tryz.prog Tryz.f128.ntmps) = some (codeOf Tryz.prog Tryz.f128) := by kernel_rfl
theorem F128_res : resolveRes Tryz.prog Tryz.f128.results.toList = some [.tmp 2] := by kernel_rfl
def varint_Unzigzag_p (F : Hs Un.D [.int .u64] → Option (Hs Un.D [.int .i64])) : FSpec Un := ⟨128, [.c (.hole (.int .u64))], [], [.int .u64], .c (.hole (.int .i64)), [], [.int .i64], F⟩
def varint_Unzigzag_s : FSpec Un := varint_Unzigzag_p varint_Unzigzag
theorem varint_Unzigzag_snd : FSnd Tryz.prog varint_Unzigzag_s := FSnd.of fun h r hr => FAt.of_body (s := varint_Unzigzag_s) (fo := foS []) (lo := loL []) Tryz.func128 F128_ok F128_res (by kernel_rfl) FoSnd.nil (LoOk.snd LoOk.nil) (Eq.trans (by kernel_rfl) hr)
def encode_simple (x_ : SType × List UInt8) : Option (Bool) :=
  match x_ with
  | (x0, p) =>
  if decide (x0.Kind = 1) = true then
    some (bif decide (p = []) then true else decide (p = [1]))
  else
    if decide (x0.Kind = 3) = true then
      some (decide ((p.length : Int) ≤ x0.Max))
    else
      varint_FromBig p >>= fun r =>
      if (!(decide (r.2 = 0))) = true then
        some false
      else
        if decide (x0.Kind = 2) = true then
          varint_Unzigzag r.1 >>= fun r_3 =>
          some (bif decide (x0.Low ≤ r_3) then decide (r_3 ≤ x0.High) else false)
        else
          if (bif decide (r.1 < 1) then true else decide (1000 < r.1)) = true then
            some false
          else
            schema_Symbol (x0, wrp .i64 r.1) >>= fun r_4 =>
            some (bif r_4.2 then true else x0.Open)
theorem F83_b : hasBody Tryz.prog 83 = true := by kernel_rfl
theorem F83_ok : Tryz.f83.body.bind (Go.Proofs.YthnmepafpikaiaaGreat.Shv.resolve Tryz.prog Tryz.f83.ntmps) = some (codeOf Tryz.prog Tryz.f83) := by kernel_rfl
theorem F83_res : resolveRes Tryz.prog Tryz.f83.results.toList = some [.tmp 4] := by kernel_rfl
def encode_simple_p (F : Hs Un.D [.nm 3, .str] → Option (Hs Un.D [.bool])) : FSpec Un := ⟨83, [.row 3, .c (.hole .str)], [], [.nm 3, .str], .c (.hole .bool), [], [.bool], F⟩
def encode_simple_s : FSpec Un := encode_simple_p encode_simple
theorem encode_simple_snd : FSnd Tryz.prog encode_simple_s := FSnd.of fun h r hr => FAt.of_body (s := encode_simple_s) (fo := foS [varint_FromBig_s, varint_Unzigzag_s, schema_Symbol_s]) (lo := loL []) Tryz.func83 F83_ok F83_res (by kernel_rfl) (FoSnd.cons F127_b varint_FromBig_snd (FoSnd.cons F128_b varint_Unzigzag_snd (FoSnd.cons F129_b schema_Symbol_snd FoSnd.nil))) (LoOk.snd LoOk.nil) (Eq.trans (by kernel_rfl) hr)
def encode_reader_record_l1 (x_ : Int × List SMember × Int × Int) : Option (Int) :=
  match x_ with
  | (seen_3, t93, t94_1, t95) =>
  if decide (t95 < t94_1) = true then
    if inR t95 t93.length = true then
      if (!(t93.getD t95.toNat dSMember).HasDefault) = true then
        encode_reader_record_l1 (subI .i64 seen_3 1, t93, t94_1, addI .i64 t95 1)
      else
        encode_reader_record_l1 (seen_3, t93, t94_1, addI .i64 t95 1)
    else none
  else
    some seen_3
  partial_fixpoint
theorem F80_b : hasBody Tryz.prog 80 = true := by kernel_rfl
theorem F80_ok : Tryz.f80.body.bind (Go.Proofs.YthnmepafpikaiaaGreat.Shv.resolve Tryz.prog Tryz.f80.ntmps) = some (codeOf Tryz.prog Tryz.f80) := by kernel_rfl
theorem F80_res : resolveRes Tryz.prog Tryz.f80.results.toList = some [.tmp 8] := by kernel_rfl
def encode_reader_record_l1_sh : Shape := ⟨[(11, .c (.hole (.int .i64))), (93, .c (.hole (.slice (.nm 0)))), (94, .c (.hole (.int .i64))), (95, .c (.hole (.int .i64)))], []⟩
def encode_reader_record_l1_ts : List Ty := [.int .i64, .slice (.nm 0), .int .i64, .int .i64]
def encode_reader_record_l1_outs : List OSpec := [⟨.exit 2, ⟨[(11, .c (.hole (.int .i64)))], []⟩, [], [.int .i64]⟩]
def encode_reader_record_l1_p (F : Hs Un.D encode_reader_record_l1_ts → Option (OSum Un encode_reader_record_l1_outs)) : LSpec Un := ⟨encode_reader_record_l1_sh, [], encode_reader_record_l1_ts, encode_reader_record_l1_outs, F⟩
def encode_reader_record_l1_s : LSpec Un := encode_reader_record_l1_p encode_reader_record_l1
theorem encode_reader_record_l1_snd : LSnd Tryz.prog Tryz.f80.ntmps 0 (loopOf (codeOf Tryz.prog Tryz.f80) 1) encode_reader_record_l1_s := fun h o ho => encode_reader_record_l1.partial_correctness (fun h o => LAt (U := Un) Tryz.prog Tryz.f80.ntmps 0 (loopOf (codeOf Tryz.prog Tryz.f80) 1) encode_reader_record_l1_sh encode_reader_record_l1_ts encode_reader_record_l1_outs h o) (fun F1 HF1 h o ho => LAt.of_round (fo := foS []) (lo := loL []) (own := []) (F' := F1) FoSnd.nil (LoOk.snd LoOk.nil) HF1 (Eq.trans (by kernel_rfl) ho)) h o ho
mutual
def encode_reader_canonical (x_ : EncodeReader × Int × List UInt8 × Int) : Option (Bool) :=
  match x_ with
  | (r, t, p, level) =>
  if inR t r.s.Types.length = true then
    some (r.s.Types.getD t.toNat dSType) >>= fun x0 =>
    if decide (200 < level) = true then
      some false
    else
      if decide (x0.Kind = 5) = true then
        encode_reader_record ((⟨(⟨r.s.Types⟩ : SSchema)⟩ : EncodeReader), x0, p, level) >>= fun r_1 =>
        some r_1
      else
        some (decide (x0.Kind = 7)) >>= fun t33 =>
        if t33 = true then
          if t33 = true then
            encode_reader_items ((⟨(⟨r.s.Types⟩ : SSchema)⟩ : EncodeReader), x0, p, level) >>= fun r_2 =>
            some r_2
          else
            if decide (x0.Kind = 9) = true then
              some (decide (p = [])) >>= fun t43 =>
              if (inR 0 p.length || (!(!t43))) = true then
                some (decide (byteAt p 0 = 1)) >>= fun t47 =>
                if (slR 1 (p.length : Int) p.length || (!((!t43) && t47))) = true then
                  (if ((!t43) && t47) = true then encode_reader_canonical ((⟨(⟨r.s.Types⟩ : SSchema)⟩ : EncodeReader), x0.Elem, cutL p 1 (p.length : Int), addI .i64 level 1) else some false) >>= fun r_3 =>
                  some (bif t43 then true else bif t47 then r_3 else false)
                else none
              else none
            else
              if decide (x0.Kind = 6) = true then
                encode_Arm p >>= fun r_4 =>
                if (!(decide (r_4.2.2 = 0))) = true then
                  some false
                else
                  schema_Member (x0, r_4.1) >>= fun r_8 =>
                  some (bif (!r_8.2) then x0.Open else false) >>= fun t80 =>
                  if (inR r_8.1 x0.Members.length || (!((!t80) && r_8.2))) = true then
                    (if ((!t80) && r_8.2) = true then encode_reader_canonical ((⟨(⟨r.s.Types⟩ : SSchema)⟩ : EncodeReader), (x0.Members.getD r_8.1.toNat dSMember).Type_, r_4.2.1, addI .i64 level 1) else some false) >>= fun r_11 =>
                    some (bif t80 then true else bif r_8.2 then r_11 else false)
                  else none
              else
                encode_simple (x0, p) >>= fun r_12 =>
                some r_12
        else
          if decide (x0.Kind = 8) = true then
            encode_reader_items ((⟨(⟨r.s.Types⟩ : SSchema)⟩ : EncodeReader), x0, p, level) >>= fun r_13 =>
            some r_13
          else
            if decide (x0.Kind = 9) = true then
              some (decide (p = [])) >>= fun t43_1 =>
              if (inR 0 p.length || (!(!t43_1))) = true then
                some (decide (byteAt p 0 = 1)) >>= fun t47_1 =>
                if (slR 1 (p.length : Int) p.length || (!((!t43_1) && t47_1))) = true then
                  (if ((!t43_1) && t47_1) = true then encode_reader_canonical ((⟨(⟨r.s.Types⟩ : SSchema)⟩ : EncodeReader), x0.Elem, cutL p 1 (p.length : Int), addI .i64 level 1) else some false) >>= fun r_14 =>
                  some (bif t43_1 then true else bif t47_1 then r_14 else false)
                else none
              else none
            else
              if decide (x0.Kind = 6) = true then
                encode_Arm p >>= fun r_15 =>
                if (!(decide (r_15.2.2 = 0))) = true then
                  some false
                else
                  schema_Member (x0, r_15.1) >>= fun r_19 =>
                  some (bif (!r_19.2) then x0.Open else false) >>= fun t80_1 =>
                  if (inR r_19.1 x0.Members.length || (!((!t80_1) && r_19.2))) = true then
                    (if ((!t80_1) && r_19.2) = true then encode_reader_canonical ((⟨(⟨r.s.Types⟩ : SSchema)⟩ : EncodeReader), (x0.Members.getD r_19.1.toNat dSMember).Type_, r_15.2.1, addI .i64 level 1) else some false) >>= fun r_22 =>
                    some (bif t80_1 then true else bif r_19.2 then r_22 else false)
                  else none
              else
                encode_simple (x0, p) >>= fun r_23 =>
                some r_23
  else none
  partial_fixpoint
def encode_reader_items (x_ : EncodeReader × SType × List UInt8 × Int) : Option (Bool) :=
  match x_ with
  | (r, x0, p, level) =>
  encode_Items p >>= fun r_1 =>
  if (!(decide (r_1.2 = 0))) = true then
    some false
  else
    if decide (x0.Kind = 7) = true then
      some (decide ((r_1.1.length : Int) ≤ x0.Max)) >>= fun t26 =>
      if t26 = true then
        slices_ContainsFuncstring_string_2 (r_1.1, r.s.Types, x0.Kind, x0.Name, x0.Low, x0.High, x0.Max, x0.Symbols, x0.Members, x0.Key, x0.Elem, x0.Open, level) >>= fun r_4 =>
        some (bif t26 then (!r_4.1) else false)
      else
        some (bif t26 then false else false)
    else
      if (bif decide (remI (r_1.1.length : Int) 2 = 1) then true else decide (x0.Max < quoI .i64 (r_1.1.length : Int) 2)) = true then
        some false
      else
        encode_reader_items_l0 (r_1.1, 0, r.s.Types, x0.Kind, x0.Name, x0.Low, x0.High, x0.Max, x0.Symbols, x0.Members, x0.Key, x0.Elem, x0.Open, level) >>= fun o =>
        match o with
        | .inl o_1 =>
          some o_1
        | .inr o_2 =>
          some true
  partial_fixpoint
def encode_reader_items_1_2 (x_ : List UInt8 × List SType × Int × List UInt8 × Int × Int × Int × List SSymbol × List SMember × Int × Int × Bool × Int) : Option (Bool × List SType × Int × List UInt8 × Int × Int × Int × List SSymbol × List SMember × Int × Int × Bool × Int) :=
  match x_ with
  | (p, b, b_1, b_2, b_3, b_4, b_5, b_6, b_7, b_8, b_9, b_10, b_11) =>
  encode_reader_canonical ((⟨(⟨b⟩ : SSchema)⟩ : EncodeReader), b_9, p, addI .i64 b_11 1) >>= fun r =>
  some ((!r), b, b_1, b_2, b_3, b_4, b_5, b_6, b_7, b_8, b_9, b_10, b_11)
  partial_fixpoint
def encode_reader_record (x_ : EncodeReader × SType × List UInt8 × Int) : Option (Bool) :=
  match x_ with
  | (r, x0, p, level) =>
  encode_Fields p >>= fun r_1 =>
  if (!(decide (r_1.2 = 0))) = true then
    some false
  else
    encode_reader_record_l0 (level, 0, r_1.1, (r_1.1.length : Int), 0, r.s.Types, x0) >>= fun o =>
    match o with
    | .inl o_1 =>
      some o_1
    | .inr o_2 =>
      encode_reader_record_l1 (o_2.1, o_2.2.Members, (o_2.2.Members.length : Int), 0) >>= fun o_3 =>
      some (decide (o_3 = 0))
  partial_fixpoint
def slices_ContainsFuncstring_string_2 (x_ : List (List UInt8) × List SType × Int × List UInt8 × Int × Int × Int × List SSymbol × List SMember × Int × Int × Bool × Int) : Option (Bool × List SType × Int × List UInt8 × Int × Int × Int × List SSymbol × List SMember × Int × Int × Bool × Int) :=
  match x_ with
  | (s, b, b_1, b_2, b_3, b_4, b_5, b_6, b_7, b_8, b_9, b_10, b_11) =>
  slices_IndexFuncstring_string_2 (s, b, b_1, b_2, b_3, b_4, b_5, b_6, b_7, b_8, b_9, b_10, b_11) >>= fun r =>
  some (decide (0 ≤ r.1), r.2.1, r.2.2.1, r.2.2.2.1, r.2.2.2.2.1, r.2.2.2.2.2.1, r.2.2.2.2.2.2.1, r.2.2.2.2.2.2.2.1, r.2.2.2.2.2.2.2.2.1, r.2.2.2.2.2.2.2.2.2.1, r.2.2.2.2.2.2.2.2.2.2.1, r.2.2.2.2.2.2.2.2.2.2.2.1, r.2.2.2.2.2.2.2.2.2.2.2.2)
  partial_fixpoint
def slices_IndexFuncstring_string_2 (x_ : List (List UInt8) × List SType × Int × List UInt8 × Int × Int × Int × List SSymbol × List SMember × Int × Int × Bool × Int) : Option (Int × List SType × Int × List UInt8 × Int × Int × Int × List SSymbol × List SMember × Int × Int × Bool × Int) :=
  match x_ with
  | (s, b, b_1, b_2, b_3, b_4, b_5, b_6, b_7, b_8, b_9, b_10, b_11) =>
  slices_IndexFuncstring_string_2_l0 (s, (s.length : Int), 0, b, b_1, b_2, b_3, b_4, b_5, b_6, b_7, b_8, b_9, b_10, b_11) >>= fun o =>
  match o with
  | .inl o_1 =>
    some (o_1.1, o_1.2.1, o_1.2.2.1, o_1.2.2.2.1, o_1.2.2.2.2.1, o_1.2.2.2.2.2.1, o_1.2.2.2.2.2.2.1, o_1.2.2.2.2.2.2.2.1, o_1.2.2.2.2.2.2.2.2.1, o_1.2.2.2.2.2.2.2.2.2.1, o_1.2.2.2.2.2.2.2.2.2.2.1, o_1.2.2.2.2.2.2.2.2.2.2.2.1, o_1.2.2.2.2.2.2.2.2.2.2.2.2)
  | .inr o_2 =>
    some ((-1), o_2.1, o_2.2.1, o_2.2.2.1, o_2.2.2.2.1, o_2.2.2.2.2.1, o_2.2.2.2.2.2.1, o_2.2.2.2.2.2.2.1, o_2.2.2.2.2.2.2.2.1, o_2.2.2.2.2.2.2.2.2.1, o_2.2.2.2.2.2.2.2.2.2.1, o_2.2.2.2.2.2.2.2.2.2.2.1, o_2.2.2.2.2.2.2.2.2.2.2.2)
  partial_fixpoint
def encode_reader_items_l0 (x_ : List (List UInt8) × Int × List SType × Int × List UInt8 × Int × Int × Int × List SSymbol × List SMember × Int × Int × Bool × Int) : Option ((Bool) ⊕ (Unit)) :=
  match x_ with
  | (l, i, b, b_1, b_2, b_3, b_4, b_5, b_6, b_7, b_8, b_9, b_10, b_11) =>
  if decide (i < (l.length : Int)) = true then
    if inR i l.length = true then
      encode_reader_canonical ((⟨(⟨b⟩ : SSchema)⟩ : EncodeReader), b_8, l.getD i.toNat [], addI .i64 b_11 1) >>= fun r_18 =>
      some (!r_18) >>= fun t61 =>
      some (addI .i64 i 1) >>= fun t68 =>
      if (inR t68 l.length || (!(!t61))) = true then
        (if (!t61) = true then encode_reader_canonical ((⟨(⟨b⟩ : SSchema)⟩ : EncodeReader), b_9, l.getD t68.toNat [], addI .i64 b_11 1) else some false) >>= fun r_19 =>
        some (bif t61 then true else (!r_19)) >>= fun t75 =>
        some (decide (0 < i)) >>= fun t78 =>
        some (subI .i64 i 2) >>= fun t82 =>
        if (inR t82 l.length || (!((!t75) && t78))) = true then
          if (inR i l.length || (!((!t75) && t78))) = true then
            (if ((!t75) && t78) = true then encode_before (l.getD t82.toNat [], l.getD i.toNat []) else some false) >>= fun r_20 =>
            if (bif t75 then true else bif t78 then (!r_20) else false) = true then
              some (.inl false)
            else
              encode_reader_items_l0 (l, addI .i64 i 2, b, b_1, b_2, b_3, b_4, b_5, b_6, b_7, b_8, b_9, b_10, b_11)
          else none
        else none
      else none
    else none
  else
    some (.inr ())
  partial_fixpoint
def encode_reader_record_l0 (x_ : Int × Int × List SField × Int × Int × List SType × SType) : Option ((Bool) ⊕ (Int × SType)) :=
  match x_ with
  | (level_1, seen_2, t27, t28_1, t29, b_1, b_2) =>
  if decide (t29 < t28_1) = true then
    if inR t29 t27.length = true then
      some (t27.getD t29.toNat dSField) >>= fun x0_1 =>
      schema_Member (b_2, x0_1.ID) >>= fun r_4 =>
      if (!r_4.2) = true then
        if x0_1.Critical = true then
          some (.inl false)
        else
          encode_reader_record_l0 (level_1, seen_2, t27, t28_1, addI .i64 t29 1, b_1, b_2)
      else
        if inR r_4.1 b_2.Members.length = true then
          some (b_2.Members.getD r_4.1.toNat dSMember) >>= fun x0_2 =>
          some (!(eqB x0_1.Critical x0_2.Critical)) >>= fun t53 =>
          (if (!t53) = true then encode_reader_canonical ((⟨(⟨b_1⟩ : SSchema)⟩ : EncodeReader), x0_2.Type_, x0_1.Data, addI .i64 level_1 1) else some false) >>= fun r_7 =>
          if (bif t53 then true else (!r_7)) = true then
            some (.inl false)
          else
            if x0_2.HasDefault = true then
              value_Fits ((⟨b_1⟩ : SSchema), x0_2.Type_, SValue.eta x0_2.Default) >>= fun r_8 =>
              if r_8 = true then
                encode_writer_payload (x0_2.Type_, SValue.eta x0_2.Default, 1, b_1, 0) >>= fun r_9 =>
                if (bif r_8 then decide (r_9.1 = x0_1.Data) else false) = true then
                  some (.inl false)
                else
                  encode_reader_record_l0 (level_1, seen_2, t27, t28_1, addI .i64 t29 1, b_1, b_2)
              else
                if (bif r_8 then false else false) = true then
                  some (.inl false)
                else
                  encode_reader_record_l0 (level_1, seen_2, t27, t28_1, addI .i64 t29 1, b_1, b_2)
            else
              encode_reader_record_l0 (level_1, addI .i64 seen_2 1, t27, t28_1, addI .i64 t29 1, b_1, b_2)
        else none
    else none
  else
    some (.inr (seen_2, b_2))
  partial_fixpoint
def slices_IndexFuncstring_string_2_l0 (x_ : List (List UInt8) × Int × Int × List SType × Int × List UInt8 × Int × Int × Int × List SSymbol × List SMember × Int × Int × Bool × Int) : Option ((Int × List SType × Int × List UInt8 × Int × Int × Int × List SSymbol × List SMember × Int × Int × Bool × Int) ⊕ (List SType × Int × List UInt8 × Int × Int × Int × List SSymbol × List SMember × Int × Int × Bool × Int)) :=
  match x_ with
  | (s_1, t7_1, t8, b_36, b_37, b_38, b_39, b_40, b_41, b_42, b_43, b_44, b_45, b_46, b_47) =>
  if decide (t8 < t7_1) = true then
    if inR t8 s_1.length = true then
      encode_reader_items_1_2 (s_1.getD t8.toNat [], b_36, b_37, b_38, b_39, b_40, b_41, b_42, b_43, b_44, b_45, b_46, b_47) >>= fun r =>
      if r.1 = true then
        some (.inl (t8, r.2.1, r.2.2.1, r.2.2.2.1, r.2.2.2.2.1, r.2.2.2.2.2.1, r.2.2.2.2.2.2.1, r.2.2.2.2.2.2.2.1, r.2.2.2.2.2.2.2.2.1, r.2.2.2.2.2.2.2.2.2.1, r.2.2.2.2.2.2.2.2.2.2.1, r.2.2.2.2.2.2.2.2.2.2.2.1, r.2.2.2.2.2.2.2.2.2.2.2.2))
      else
        slices_IndexFuncstring_string_2_l0 (s_1, t7_1, addI .i64 t8 1, r.2.1, r.2.2.1, r.2.2.2.1, r.2.2.2.2.1, r.2.2.2.2.2.1, r.2.2.2.2.2.2.1, r.2.2.2.2.2.2.2.1, r.2.2.2.2.2.2.2.2.1, r.2.2.2.2.2.2.2.2.2.1, r.2.2.2.2.2.2.2.2.2.2.1, r.2.2.2.2.2.2.2.2.2.2.2.1, r.2.2.2.2.2.2.2.2.2.2.2.2)
    else none
  else
    some (.inr (b_36, b_37, b_38, b_39, b_40, b_41, b_42, b_43, b_44, b_45, b_46, b_47))
  partial_fixpoint
end
theorem F53_b : hasBody Tryz.prog 53 = true := by kernel_rfl
theorem F53_ok : Tryz.f53.body.bind (Go.Proofs.YthnmepafpikaiaaGreat.Shv.resolve Tryz.prog Tryz.f53.ntmps) = some (codeOf Tryz.prog Tryz.f53) := by kernel_rfl
theorem F53_res : resolveRes Tryz.prog Tryz.f53.results.toList = some [.tmp 8] := by kernel_rfl
def encode_reader_canonical_p (F : Hs Un.D [.nm 7, .int .i64, .str, .int .i64] → Option (Hs Un.D [.bool])) : FSpec Un := ⟨53, [.row 7, .c (.hole (.int .i64)), .c (.hole .str), .c (.hole (.int .i64))], [], [.nm 7, .int .i64, .str, .int .i64], .c (.hole .bool), [], [.bool], F⟩
def encode_reader_canonical_s : FSpec Un := encode_reader_canonical_p encode_reader_canonical
theorem F81_b : hasBody Tryz.prog 81 = true := by kernel_rfl
theorem F81_ok : Tryz.f81.body.bind (Go.Proofs.YthnmepafpikaiaaGreat.Shv.resolve Tryz.prog Tryz.f81.ntmps) = some (codeOf Tryz.prog Tryz.f81) := by kernel_rfl
theorem F81_res : resolveRes Tryz.prog Tryz.f81.results.toList = some [.tmp 8] := by kernel_rfl
def encode_reader_items_p (F : Hs Un.D [.nm 7, .nm 3, .str, .int .i64] → Option (Hs Un.D [.bool])) : FSpec Un := ⟨81, [.row 7, .row 3, .c (.hole .str), .c (.hole (.int .i64))], [], [.nm 7, .nm 3, .str, .int .i64], .c (.hole .bool), [], [.bool], F⟩
def encode_reader_items_s : FSpec Un := encode_reader_items_p encode_reader_items
def encode_reader_items_l0_sh : Shape := ⟨[(4, .c (.ptr 0 0)), (5, .c (.ptr 1 0)), (7, .c (.ptr 2 0)), (9, .c (.hole (.slice .str))), (11, .c (.hole (.int .i64)))], [.box [.hole (.slice (.nm 3))], .box [.hole (.int .i64), .hole .str, .hole (.int .i64), .hole (.int .i64), .hole (.int .i64), .hole (.slice (.nm 4)), .hole (.slice (.nm 0)), .hole (.int .i64), .hole (.int .i64), .hole .bool], .box [.hole (.int .i64)]]⟩
def encode_reader_items_l0_ts : List Ty := [.slice .str, .int .i64, .slice (.nm 3), .int .i64, .str, .int .i64, .int .i64, .int .i64, .slice (.nm 4), .slice (.nm 0), .int .i64, .int .i64, .bool, .int .i64]
def encode_reader_items_l0_outs : List OSpec := [⟨.ret, ⟨[(8, .c (.hole .bool))], []⟩, [], [.bool]⟩, ⟨.exit 0, ⟨[], []⟩, [], []⟩]
def encode_reader_items_l0_p (F : Hs Un.D encode_reader_items_l0_ts → Option (OSum Un encode_reader_items_l0_outs)) : LSpec Un := ⟨encode_reader_items_l0_sh, [], encode_reader_items_l0_ts, encode_reader_items_l0_outs, F⟩
def encode_reader_items_l0_s : LSpec Un := encode_reader_items_l0_p encode_reader_items_l0
theorem F122_b : hasBody Tryz.prog 122 = true := by kernel_rfl
theorem F122_ok : Tryz.f122.body.bind (Go.Proofs.YthnmepafpikaiaaGreat.Shv.resolve Tryz.prog Tryz.f122.ntmps) = some (codeOf Tryz.prog Tryz.f122) := by kernel_rfl
theorem F122_res : resolveRes Tryz.prog Tryz.f122.results.toList = some [.tmp 4] := by kernel_rfl
def slices_ContainsFuncstring_string_2_p (F : Hs Un.D [.slice .str, .slice (.nm 3), .int .i64, .str, .int .i64, .int .i64, .int .i64, .slice (.nm 4), .slice (.nm 0), .int .i64, .int .i64, .bool, .int .i64] → Option (Hs Un.D [.bool, .slice (.nm 3), .int .i64, .str, .int .i64, .int .i64, .int .i64, .slice (.nm 4), .slice (.nm 0), .int .i64, .int .i64, .bool, .int .i64])) : FSpec Un := ⟨122, [.c (.hole (.slice .str)), .c (.fn 123 [0, 1, 2])], [.box [.hole (.slice (.nm 3))], .box [.hole (.int .i64), .hole .str, .hole (.int .i64), .hole (.int .i64), .hole (.int .i64), .hole (.slice (.nm 4)), .hole (.slice (.nm 0)), .hole (.int .i64), .hole (.int .i64), .hole .bool], .box [.hole (.int .i64)]], [.slice .str, .slice (.nm 3), .int .i64, .str, .int .i64, .int .i64, .int .i64, .slice (.nm 4), .slice (.nm 0), .int .i64, .int .i64, .bool, .int .i64], .c (.hole .bool), [.box [.hole (.slice (.nm 3))], .box [.hole (.int .i64), .hole .str, .hole (.int .i64), .hole (.int .i64), .hole (.int .i64), .hole (.slice (.nm 4)), .hole (.slice (.nm 0)), .hole (.int .i64), .hole (.int .i64), .hole .bool], .box [.hole (.int .i64)]], [.bool, .slice (.nm 3), .int .i64, .str, .int .i64, .int .i64, .int .i64, .slice (.nm 4), .slice (.nm 0), .int .i64, .int .i64, .bool, .int .i64], F⟩
def slices_ContainsFuncstring_string_2_s : FSpec Un := slices_ContainsFuncstring_string_2_p slices_ContainsFuncstring_string_2
theorem F151_b : hasBody Tryz.prog 151 = true := by kernel_rfl
theorem F151_ok : Tryz.f151.body.bind (Go.Proofs.YthnmepafpikaiaaGreat.Shv.resolve Tryz.prog Tryz.f151.ntmps) = some (codeOf Tryz.prog Tryz.f151) := by kernel_rfl
theorem F151_res : resolveRes Tryz.prog Tryz.f151.results.toList = some [.tmp 4] := by kernel_rfl
def slices_IndexFuncstring_string_2_p (F : Hs Un.D [.slice .str, .slice (.nm 3), .int .i64, .str, .int .i64, .int .i64, .int .i64, .slice (.nm 4), .slice (.nm 0), .int .i64, .int .i64, .bool, .int .i64] → Option (Hs Un.D [.int .i64, .slice (.nm 3), .int .i64, .str, .int .i64, .int .i64, .int .i64, .slice (.nm 4), .slice (.nm 0), .int .i64, .int .i64, .bool, .int .i64])) : FSpec Un := ⟨151, [.c (.hole (.slice .str)), .c (.fn 123 [0, 1, 2])], [.box [.hole (.slice (.nm 3))], .box [.hole (.int .i64), .hole .str, .hole (.int .i64), .hole (.int .i64), .hole (.int .i64), .hole (.slice (.nm 4)), .hole (.slice (.nm 0)), .hole (.int .i64), .hole (.int .i64), .hole .bool], .box [.hole (.int .i64)]], [.slice .str, .slice (.nm 3), .int .i64, .str, .int .i64, .int .i64, .int .i64, .slice (.nm 4), .slice (.nm 0), .int .i64, .int .i64, .bool, .int .i64], .c (.hole (.int .i64)), [.box [.hole (.slice (.nm 3))], .box [.hole (.int .i64), .hole .str, .hole (.int .i64), .hole (.int .i64), .hole (.int .i64), .hole (.slice (.nm 4)), .hole (.slice (.nm 0)), .hole (.int .i64), .hole (.int .i64), .hole .bool], .box [.hole (.int .i64)]], [.int .i64, .slice (.nm 3), .int .i64, .str, .int .i64, .int .i64, .int .i64, .slice (.nm 4), .slice (.nm 0), .int .i64, .int .i64, .bool, .int .i64], F⟩
def slices_IndexFuncstring_string_2_s : FSpec Un := slices_IndexFuncstring_string_2_p slices_IndexFuncstring_string_2
def slices_IndexFuncstring_string_2_l0_sh : Shape := ⟨[(0, .c (.hole (.slice .str))), (1, .c (.fn 123 [0, 1, 2])), (7, .c (.hole (.int .i64))), (8, .c (.hole (.int .i64)))], [.box [.hole (.slice (.nm 3))], .box [.hole (.int .i64), .hole .str, .hole (.int .i64), .hole (.int .i64), .hole (.int .i64), .hole (.slice (.nm 4)), .hole (.slice (.nm 0)), .hole (.int .i64), .hole (.int .i64), .hole .bool], .box [.hole (.int .i64)]]⟩
def slices_IndexFuncstring_string_2_l0_ts : List Ty := [.slice .str, .int .i64, .int .i64, .slice (.nm 3), .int .i64, .str, .int .i64, .int .i64, .int .i64, .slice (.nm 4), .slice (.nm 0), .int .i64, .int .i64, .bool, .int .i64]
def slices_IndexFuncstring_string_2_l0_outs : List OSpec := [⟨.ret, ⟨[(4, .c (.hole (.int .i64)))], [.box [.hole (.slice (.nm 3))], .box [.hole (.int .i64), .hole .str, .hole (.int .i64), .hole (.int .i64), .hole (.int .i64), .hole (.slice (.nm 4)), .hole (.slice (.nm 0)), .hole (.int .i64), .hole (.int .i64), .hole .bool], .box [.hole (.int .i64)]]⟩, [], [.int .i64, .slice (.nm 3), .int .i64, .str, .int .i64, .int .i64, .int .i64, .slice (.nm 4), .slice (.nm 0), .int .i64, .int .i64, .bool, .int .i64]⟩, ⟨.exit 0, ⟨[], [.box [.hole (.slice (.nm 3))], .box [.hole (.int .i64), .hole .str, .hole (.int .i64), .hole (.int .i64), .hole (.int .i64), .hole (.slice (.nm 4)), .hole (.slice (.nm 0)), .hole (.int .i64), .hole (.int .i64), .hole .bool], .box [.hole (.int .i64)]]⟩, [], [.slice (.nm 3), .int .i64, .str, .int .i64, .int .i64, .int .i64, .slice (.nm 4), .slice (.nm 0), .int .i64, .int .i64, .bool, .int .i64]⟩]
def slices_IndexFuncstring_string_2_l0_p (F : Hs Un.D slices_IndexFuncstring_string_2_l0_ts → Option (OSum Un slices_IndexFuncstring_string_2_l0_outs)) : LSpec Un := ⟨slices_IndexFuncstring_string_2_l0_sh, [], slices_IndexFuncstring_string_2_l0_ts, slices_IndexFuncstring_string_2_l0_outs, F⟩
def slices_IndexFuncstring_string_2_l0_s : LSpec Un := slices_IndexFuncstring_string_2_l0_p slices_IndexFuncstring_string_2_l0
theorem F123_b : hasBody Tryz.prog 123 = true := by kernel_rfl
theorem F123_ok : Tryz.f123.body.bind (Go.Proofs.YthnmepafpikaiaaGreat.Shv.resolve Tryz.prog Tryz.f123.ntmps) = some (codeOf Tryz.prog Tryz.f123) := by kernel_rfl
theorem F123_res : resolveRes Tryz.prog Tryz.f123.results.toList = some [.tmp 5] := by kernel_rfl
def encode_reader_items_1_2_p (F : Hs Un.D [.str, .slice (.nm 3), .int .i64, .str, .int .i64, .int .i64, .int .i64, .slice (.nm 4), .slice (.nm 0), .int .i64, .int .i64, .bool, .int .i64] → Option (Hs Un.D [.bool, .slice (.nm 3), .int .i64, .str, .int .i64, .int .i64, .int .i64, .slice (.nm 4), .slice (.nm 0), .int .i64, .int .i64, .bool, .int .i64])) : FSpec Un := ⟨123, [.c (.hole .str), .c (.ptr 0 0), .c (.ptr 1 0), .c (.ptr 2 0)], [.box [.hole (.slice (.nm 3))], .box [.hole (.int .i64), .hole .str, .hole (.int .i64), .hole (.int .i64), .hole (.int .i64), .hole (.slice (.nm 4)), .hole (.slice (.nm 0)), .hole (.int .i64), .hole (.int .i64), .hole .bool], .box [.hole (.int .i64)]], [.str, .slice (.nm 3), .int .i64, .str, .int .i64, .int .i64, .int .i64, .slice (.nm 4), .slice (.nm 0), .int .i64, .int .i64, .bool, .int .i64], .c (.hole .bool), [.box [.hole (.slice (.nm 3))], .box [.hole (.int .i64), .hole .str, .hole (.int .i64), .hole (.int .i64), .hole (.int .i64), .hole (.slice (.nm 4)), .hole (.slice (.nm 0)), .hole (.int .i64), .hole (.int .i64), .hole .bool], .box [.hole (.int .i64)]], [.bool, .slice (.nm 3), .int .i64, .str, .int .i64, .int .i64, .int .i64, .slice (.nm 4), .slice (.nm 0), .int .i64, .int .i64, .bool, .int .i64], F⟩
def encode_reader_items_1_2_s : FSpec Un := encode_reader_items_1_2_p encode_reader_items_1_2
def encode_reader_record_p (F : Hs Un.D [.nm 7, .nm 3, .str, .int .i64] → Option (Hs Un.D [.bool])) : FSpec Un := ⟨80, [.row 7, .row 3, .c (.hole .str), .c (.hole (.int .i64))], [], [.nm 7, .nm 3, .str, .int .i64], .c (.hole .bool), [], [.bool], F⟩
def encode_reader_record_s : FSpec Un := encode_reader_record_p encode_reader_record
def encode_reader_record_l0_sh : Shape := ⟨[(3, .c (.hole (.int .i64))), (4, .c (.ptr 0 0)), (5, .c (.ptr 1 0)), (11, .c (.hole (.int .i64))), (27, .c (.hole (.slice (.nm 8)))), (28, .c (.hole (.int .i64))), (29, .c (.hole (.int .i64)))], [.box [.hole (.slice (.nm 3))], .brow 3]⟩
def encode_reader_record_l0_ts : List Ty := [.int .i64, .int .i64, .slice (.nm 8), .int .i64, .int .i64, .slice (.nm 3), .nm 3]
def encode_reader_record_l0_outs : List OSpec := [⟨.ret, ⟨[(8, .c (.hole .bool))], []⟩, [], [.bool]⟩, ⟨.exit 0, ⟨[(5, .c (.ptr 0 0)), (11, .c (.hole (.int .i64)))], [.brow 3]⟩, [], [.int .i64, .nm 3]⟩]
def encode_reader_record_l0_p (F : Hs Un.D encode_reader_record_l0_ts → Option (OSum Un encode_reader_record_l0_outs)) : LSpec Un := ⟨encode_reader_record_l0_sh, [], encode_reader_record_l0_ts, encode_reader_record_l0_outs, F⟩
def encode_reader_record_l0_s : LSpec Un := encode_reader_record_l0_p encode_reader_record_l0
theorem encode_reader_canonical_all : (FSnd Tryz.prog encode_reader_canonical_s) ∧ (FSnd Tryz.prog encode_reader_items_s) ∧ (LSnd Tryz.prog Tryz.f81.ntmps 0 (loopOf (codeOf Tryz.prog Tryz.f81) 0) encode_reader_items_l0_s) ∧ (FSnd Tryz.prog slices_ContainsFuncstring_string_2_s) ∧ (FSnd Tryz.prog slices_IndexFuncstring_string_2_s) ∧ (LSnd Tryz.prog Tryz.f151.ntmps 3 (loopOf (codeOf Tryz.prog Tryz.f151) 0) slices_IndexFuncstring_string_2_l0_s) ∧ (FSnd Tryz.prog encode_reader_items_1_2_s) ∧ (FSnd Tryz.prog encode_reader_record_s) ∧ (LSnd Tryz.prog Tryz.f80.ntmps 0 (loopOf (codeOf Tryz.prog Tryz.f80) 0) encode_reader_record_l0_s) := encode_reader_canonical.mutual_partial_correctness (fun h r => FAt Tryz.prog encode_reader_canonical_s h r) (fun h r => FAt Tryz.prog encode_reader_items_s h r) (fun h o => LAt (U := Un) Tryz.prog Tryz.f81.ntmps 0 (loopOf (codeOf Tryz.prog Tryz.f81) 0) encode_reader_items_l0_sh encode_reader_items_l0_ts encode_reader_items_l0_outs h o) (fun h r => FAt Tryz.prog slices_ContainsFuncstring_string_2_s h r) (fun h r => FAt Tryz.prog slices_IndexFuncstring_string_2_s h r) (fun h o => LAt (U := Un) Tryz.prog Tryz.f151.ntmps 3 (loopOf (codeOf Tryz.prog Tryz.f151) 0) slices_IndexFuncstring_string_2_l0_sh slices_IndexFuncstring_string_2_l0_ts slices_IndexFuncstring_string_2_l0_outs h o) (fun h r => FAt Tryz.prog encode_reader_items_1_2_s h r) (fun h r => FAt Tryz.prog encode_reader_record_s h r) (fun h o => LAt (U := Un) Tryz.prog Tryz.f80.ntmps 0 (loopOf (codeOf Tryz.prog Tryz.f80) 0) encode_reader_record_l0_sh encode_reader_record_l0_ts encode_reader_record_l0_outs h o)
  (fun F1 F2 F8 HF1 HF2 HF8 h o ho => FAt.of_body (s := (encode_reader_canonical_p F1)) (fo := foS [encode_reader_record_p F8, encode_reader_items_p F2, encode_reader_canonical_p F1, encode_Arm_s, schema_Member_s, encode_simple_s]) (lo := loL []) Tryz.func53 F53_ok F53_res (by kernel_rfl) (FoSnd.cons F80_b HF8 (FoSnd.cons F81_b HF2 (FoSnd.cons F53_b HF1 (FoSnd.cons F16_b encode_Arm_snd (FoSnd.cons F82_b schema_Member_snd (FoSnd.cons F83_b encode_simple_snd FoSnd.nil)))))) (LoOk.snd LoOk.nil) (Eq.trans (by kernel_rfl) ho))
  (fun F3 F4 HF3 HF4 h o ho => FAt.of_body (s := encode_reader_items_s) (fo := foS [encode_Items_s, slices_ContainsFuncstring_string_2_p F4]) (lo := loL [(0, encode_reader_items_l0_p F3)]) Tryz.func81 F81_ok F81_res (by kernel_rfl) (FoSnd.cons F14_b encode_Items_snd (FoSnd.cons F122_b HF4 FoSnd.nil)) (LoOk.snd (LoOk.cons HF3 LoOk.nil)) (Eq.trans (by kernel_rfl) ho))
  (fun F1 F3 HF1 HF3 h o ho => LAt.of_round (fo := foS [encode_reader_canonical_p F1, encode_before_s]) (lo := loL []) (own := []) (F' := F3) (FoSnd.cons F53_b HF1 (FoSnd.cons F124_b encode_before_snd FoSnd.nil)) (LoOk.snd LoOk.nil) HF3 (Eq.trans (by kernel_rfl) ho))
  (fun F5 HF5 h o ho => FAt.of_body (s := slices_ContainsFuncstring_string_2_s) (fo := foS [slices_IndexFuncstring_string_2_p F5]) (lo := loL []) Tryz.func122 F122_ok F122_res (by kernel_rfl) (FoSnd.cons F151_b HF5 FoSnd.nil) (LoOk.snd LoOk.nil) (Eq.trans (by kernel_rfl) ho))
  (fun F6 HF6 h o ho => FAt.of_body (s := slices_IndexFuncstring_string_2_s) (fo := foS []) (lo := loL [(0, slices_IndexFuncstring_string_2_l0_p F6)]) Tryz.func151 F151_ok F151_res (by kernel_rfl) FoSnd.nil (LoOk.snd (LoOk.cons HF6 LoOk.nil)) (Eq.trans (by kernel_rfl) ho))
  (fun F6 F7 HF6 HF7 h o ho => LAt.of_round (fo := foS [encode_reader_items_1_2_p F7]) (lo := loL []) (own := []) (F' := F6) (FoSnd.cons F123_b HF7 FoSnd.nil) (LoOk.snd LoOk.nil) HF6 (Eq.trans (by kernel_rfl) ho))
  (fun F1 HF1 h o ho => FAt.of_body (s := encode_reader_items_1_2_s) (fo := foS [encode_reader_canonical_p F1]) (lo := loL []) Tryz.func123 F123_ok F123_res (by kernel_rfl) (FoSnd.cons F53_b HF1 FoSnd.nil) (LoOk.snd LoOk.nil) (Eq.trans (by kernel_rfl) ho))
  (fun F9 HF9 h o ho => FAt.of_body (s := encode_reader_record_s) (fo := foS [encode_Fields_s]) (lo := loL [(0, encode_reader_record_l0_p F9), (1, encode_reader_record_l1_s)]) Tryz.func80 F80_ok F80_res (by kernel_rfl) (FoSnd.cons F12_b encode_Fields_snd FoSnd.nil) (LoOk.snd (LoOk.cons HF9 (LoOk.cons encode_reader_record_l1_snd LoOk.nil))) (Eq.trans (by kernel_rfl) ho))
  (fun F1 F9 HF1 HF9 h o ho => LAt.of_round (fo := foS [schema_Member_s, encode_reader_canonical_p F1, value_Fits_s, encode_writer_payload_s]) (lo := loL []) (own := []) (F' := F9) (FoSnd.cons F82_b schema_Member_snd (FoSnd.cons F53_b HF1 (FoSnd.cons F95_b value_Fits_snd (FoSnd.cons F57_b encode_writer_payload_snd FoSnd.nil)))) (LoOk.snd LoOk.nil) HF9 (Eq.trans (by kernel_rfl) ho))
theorem encode_reader_canonical_snd : FSnd Tryz.prog encode_reader_canonical_s := encode_reader_canonical_all.1
theorem encode_reader_items_snd : FSnd Tryz.prog encode_reader_items_s := encode_reader_canonical_all.2.1
theorem encode_reader_items_l0_snd : LSnd Tryz.prog Tryz.f81.ntmps 0 (loopOf (codeOf Tryz.prog Tryz.f81) 0) encode_reader_items_l0_s := encode_reader_canonical_all.2.2.1
theorem slices_ContainsFuncstring_string_2_snd : FSnd Tryz.prog slices_ContainsFuncstring_string_2_s := encode_reader_canonical_all.2.2.2.1
theorem slices_IndexFuncstring_string_2_snd : FSnd Tryz.prog slices_IndexFuncstring_string_2_s := encode_reader_canonical_all.2.2.2.2.1
theorem slices_IndexFuncstring_string_2_l0_snd : LSnd Tryz.prog Tryz.f151.ntmps 3 (loopOf (codeOf Tryz.prog Tryz.f151) 0) slices_IndexFuncstring_string_2_l0_s := encode_reader_canonical_all.2.2.2.2.2.1
theorem encode_reader_items_1_2_snd : FSnd Tryz.prog encode_reader_items_1_2_s := encode_reader_canonical_all.2.2.2.2.2.2.1
theorem encode_reader_record_snd : FSnd Tryz.prog encode_reader_record_s := encode_reader_canonical_all.2.2.2.2.2.2.2.1
theorem encode_reader_record_l0_snd : LSnd Tryz.prog Tryz.f80.ntmps 0 (loopOf (codeOf Tryz.prog Tryz.f80) 0) encode_reader_record_l0_s := encode_reader_canonical_all.2.2.2.2.2.2.2.2
end Go.Proofs.YthnmepafpikaiaaGreat
