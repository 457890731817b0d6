/- The functions of the program as functions of Lean, that its code does what they say, and what they answer; part A. -/
import Derived.Test.YthnmepafpikaiaaGreatProg
import Derived.KernelRfl
import Derived.Shelf.SlGeneric
import Derived.Shelf.SlLaysF0
import Derived.Shelf.SlSortCmp.WholeK
import Derived.Lib.Small
import Derived.Test.YthnmepafpikaiaaGreatErLD

namespace Go.Proofs.YthnmepafpikaiaaGreat
set_option linter.all false
section
open Go Go.Proofs.YthnmepafpikaiaaGreat.Shv
open Tryz
set_option maxRecDepth 100000
structure SSymbol where
 ID : Int
 Name : List UInt8
structure SRaw where
 ID : Int
 Data : List UInt8
structure SValue where
 Kind : Int
 Bool_ : Bool
 Int_ : Int
 Str : List UInt8
 ID : Int
 Keys : List SValue
 Items : List SValue
 Rest : List SRaw
structure SMember where
 ID : Int
 Name : List UInt8
 Type_ : Int
 Critical : Bool
 HasDefault : Bool
 Default : SValue
structure SType where
 Kind : Int
 Name : List UInt8
 Low : Int
 High : Int
 Max : Int
 Symbols : List SSymbol
 Members : List SMember
 Key : Int
 Elem : Int
 Open : Bool
structure SSchema where
 Types : List SType
structure EncodeEntry where
 id : Int
 text : List UInt8
structure EncodeReader where
 s : SSchema
structure SField where
 ID : Int
 Critical : Bool
 Data : List UInt8
abbrev ixSSchema : Nat := 0
abbrev ixSType : Nat := 1
abbrev ixSSymbol : Nat := 2
abbrev ixSMember : Nat := 3
abbrev ixSValue : Nat := 4
abbrev ixSRaw : Nat := 5
def dSSymbol : SSymbol := ⟨0, []⟩
def dSRaw : SRaw := ⟨0, []⟩
def dSValue : SValue := ⟨0, false, 0, [], 0, [], [], []⟩
def dSMember : SMember := ⟨0, [], 0, false, false, dSValue⟩
def dSType : SType := ⟨0, [], 0, 0, 0, [], [], 0, 0, false⟩
def dSSchema : SSchema := ⟨[]⟩
def dEncodeEntry : EncodeEntry := ⟨0, []⟩
def dEncodeReader : EncodeReader := ⟨dSSchema⟩
def dSField : SField := ⟨0, false, []⟩
def uD : Nat → Type
 | 0 => SSchema
 | 1 => SType
 | 2 => SSymbol
 | 3 => SMember
 | 4 => SValue
 | 5 => SRaw
 | 6 => EncodeEntry
 | 7 => EncodeReader
 | 8 => SField
 | _ => Bool
def uTys : Nat → List Ty
 | 0 => [.slice (.nm 1)]
 | 1 => [.int .i64, .str, .int .i64, .int .i64, .int .i64, .slice (.nm 2), .slice (.nm 3), .int .i64, .int .i64, .bool]
 | 2 => [.int .i64, .str]
 | 3 => [.int .i64, .str, .int .i64, .bool, .bool, .int .i64, .bool, .int .i64, .str, .int .i64, .slice (.nm 4), .slice (.nm 4), .slice (.nm 5)]
 | 4 => [.int .i64, .bool, .int .i64, .str, .int .i64, .slice (.nm 4), .slice (.nm 4), .slice (.nm 5)]
 | 5 => [.int .i64, .str]
 | 6 => [.int .i64, .str]
 | 7 => [.slice (.nm 1)]
 | 8 => [.int .i64, .bool, .str]
 | _ => [.bool]
def uFlds : (n : Nat) → uD n → List (Cell uD)
 | 0, (x : SSchema) => [⟨.slice (.nm 1), x.Types⟩]
 | 1, (x : SType) => [⟨.int .i64, x.Kind⟩, ⟨.str, x.Name⟩, ⟨.int .i64, x.Low⟩, ⟨.int .i64, x.High⟩, ⟨.int .i64, x.Max⟩, ⟨.slice (.nm 2), x.Symbols⟩, ⟨.slice (.nm 3), x.Members⟩, ⟨.int .i64, x.Key⟩, ⟨.int .i64, x.Elem⟩, ⟨.bool, x.Open⟩]
 | 2, (x : SSymbol) => [⟨.int .i64, x.ID⟩, ⟨.str, x.Name⟩]
 | 3, (x : SMember) => [⟨.int .i64, x.ID⟩, ⟨.str, x.Name⟩, ⟨.int .i64, x.Type_⟩, ⟨.bool, x.Critical⟩, ⟨.bool, x.HasDefault⟩, ⟨.int .i64, x.Default.Kind⟩, ⟨.bool, x.Default.Bool_⟩, ⟨.int .i64, x.Default.Int_⟩, ⟨.str, x.Default.Str⟩, ⟨.int .i64, x.Default.ID⟩, ⟨.slice (.nm 4), x.Default.Keys⟩, ⟨.slice (.nm 4), x.Default.Items⟩, ⟨.slice (.nm 5), x.Default.Rest⟩]
 | 4, (x : SValue) => [⟨.int .i64, x.Kind⟩, ⟨.bool, x.Bool_⟩, ⟨.int .i64, x.Int_⟩, ⟨.str, x.Str⟩, ⟨.int .i64, x.ID⟩, ⟨.slice (.nm 4), x.Keys⟩, ⟨.slice (.nm 4), x.Items⟩, ⟨.slice (.nm 5), x.Rest⟩]
 | 5, (x : SRaw) => [⟨.int .i64, x.ID⟩, ⟨.str, x.Data⟩]
 | 6, (x : EncodeEntry) => [⟨.int .i64, x.id⟩, ⟨.str, x.text⟩]
 | 7, (x : EncodeReader) => [⟨.slice (.nm 1), x.s.Types⟩]
 | 8, (x : SField) => [⟨.int .i64, x.ID⟩, ⟨.bool, x.Critical⟩, ⟨.str, x.Data⟩]
 | _ + 9, (x : Bool) => [⟨.bool, x⟩]
def uMake : (n : Nat) → List (Cell uD) → Option (uD n)
 | 0, l => match Hs.dec uD (uTys 0) l with
   | some h => some (⟨h⟩ : SSchema)
   | none => none
 | 1, l => match Hs.dec uD (uTys 1) l with
   | some h => some (⟨h.1, h.2.1, h.2.2.1, h.2.2.2.1, h.2.2.2.2.1, h.2.2.2.2.2.1, h.2.2.2.2.2.2.1, h.2.2.2.2.2.2.2.1, h.2.2.2.2.2.2.2.2.1, h.2.2.2.2.2.2.2.2.2⟩ : SType)
   | none => none
 | 2, l => match Hs.dec uD (uTys 2) l with
   | some h => some (⟨h.1, h.2⟩ : SSymbol)
   | none => none
 | 3, l => match Hs.dec uD (uTys 3) l with
   | some h => some (⟨h.1, h.2.1, h.2.2.1, h.2.2.2.1, h.2.2.2.2.1, (⟨h.2.2.2.2.2.1, h.2.2.2.2.2.2.1, h.2.2.2.2.2.2.2.1, h.2.2.2.2.2.2.2.2.1, h.2.2.2.2.2.2.2.2.2.1, h.2.2.2.2.2.2.2.2.2.2.1, h.2.2.2.2.2.2.2.2.2.2.2.1, h.2.2.2.2.2.2.2.2.2.2.2.2⟩ : SValue)⟩ : SMember)
   | none => none
 | 4, l => match Hs.dec uD (uTys 4) l with
   | some h => some (⟨h.1, h.2.1, h.2.2.1, h.2.2.2.1, h.2.2.2.2.1, h.2.2.2.2.2.1, h.2.2.2.2.2.2.1, h.2.2.2.2.2.2.2⟩ : SValue)
   | none => none
 | 5, l => match Hs.dec uD (uTys 5) l with
   | some h => some (⟨h.1, h.2⟩ : SRaw)
   | none => none
 | 6, l => match Hs.dec uD (uTys 6) l with
   | some h => some (⟨h.1, h.2⟩ : EncodeEntry)
   | none => none
 | 7, l => match Hs.dec uD (uTys 7) l with
   | some h => some (⟨(⟨h⟩ : SSchema)⟩ : EncodeReader)
   | none => none
 | 8, l => match Hs.dec uD (uTys 8) l with
   | some h => some (⟨h.1, h.2.1, h.2.2⟩ : SField)
   | none => none
 | _ + 9, l => match Hs.dec uD [.bool] l with
   | some (h : Bool) => some h
   | none => none
def eSSymbol (x : SSymbol) : List T := [.int .i64 x.ID, .str x.Name]
def eSRaw (x : SRaw) : List T := [.int .i64 x.ID, .str x.Data]
def SValue.eta (x : SValue) : SValue := ⟨x.Kind, x.Bool_, x.Int_, x.Str, x.ID, x.Keys, x.Items, x.Rest⟩
theorem SValue.gh (x : SValue) : x.eta = x := by cases x; rfl
mutual
def eSValue : SValue → List T
 | ⟨a0, a1, a2, a3, a4, a5, a6, a7⟩ => [.int .i64 a0, .bool a1, .int .i64 a2, .str a3, .int .i64 a4, .slice (eSValueL a5), .slice (eSValueL a6), .slice (a7.map eSRaw)]
def eSValueL : List SValue → List (List T)
 | [] => []
 | v :: r => eSValue v :: eSValueL r
end
theorem gt2 : ∀ l, eSValueL l = l.map eSValue
 | [] => rfl
 | v :: r => by simp only [eSValueL, List.map]; rw [gt2 r]
theorem gxw (x : SValue) : eSValue x = [.int .i64 x.Kind, .bool x.Bool_, .int .i64 x.Int_, .str x.Str, .int .i64 x.ID, .slice (x.Keys.map eSValue), .slice (x.Items.map eSValue), .slice (x.Rest.map eSRaw)] := by cases x; simp only [eSValue, gt2]
def eSMember (x : SMember) : List T := [.int .i64 x.ID, .str x.Name, .int .i64 x.Type_, .bool x.Critical, .bool x.HasDefault, .int .i64 x.Default.Kind, .bool x.Default.Bool_, .int .i64 x.Default.Int_, .str x.Default.Str, .int .i64 x.Default.ID, .slice (x.Default.Keys.map eSValue), .slice (x.Default.Items.map eSValue), .slice (x.Default.Rest.map eSRaw)]
def eSType (x : SType) : List T := [.int .i64 x.Kind, .str x.Name, .int .i64 x.Low, .int .i64 x.High, .int .i64 x.Max, .slice (x.Symbols.map eSSymbol), .slice (x.Members.map eSMember), .int .i64 x.Key, .int .i64 x.Elem, .bool x.Open]
def eSSchema (x : SSchema) : List T := [.slice (x.Types.map eSType)]
def eEncodeEntry (x : EncodeEntry) : List T := [.int .i64 x.id, .str x.text]
def eEncodeReader (x : EncodeReader) : List T := [.slice (x.s.Types.map eSType)]
def eSField (x : SField) : List T := [.int .i64 x.ID, .bool x.Critical, .str x.Data]
def uEnc : (n : Nat) → uD n → List T
 | 0, x => eSSchema x
 | 1, x => eSType x
 | 2, x => eSSymbol x
 | 3, x => eSMember x
 | 4, x => eSValue x
 | 5, x => eSRaw x
 | 6, x => eEncodeEntry x
 | 7, x => eEncodeReader x
 | 8, x => eSField x
 | _ + 9, (x : Bool) => [.bool x]
def Un : Uni where
 D := uD
 dfl := fun n => match n with
   | 0 => dSSchema
   | 1 => dSType
   | 2 => dSSymbol
   | 3 => dSMember
   | 4 => dSValue
   | 5 => dSRaw
   | 6 => dEncodeEntry
   | 7 => dEncodeReader
   | 8 => dSField
   | _ + 9 => false
 flds := uFlds
 make := uMake
 tys := uTys
 enc := uEnc
 enc_eq := fun n x => match n, x with
   | 0, _ => rfl
   | 1, _ => rfl
   | 2, _ => rfl
   | 3, _ => rfl
   | 4, x => gxw x
   | 5, _ => rfl
   | 6, _ => rfl
   | 7, _ => rfl
   | 8, _ => rfl
   | _ + 9, _ => rfl
 mk_eq := fun n l x h => match n, x, h with
   | 0, x, h => by
     simp only [uMake] at h;split at h
     · rename_i hh hd; cases h; exact Hs.dec_cells hd
     · cases h
   | 1, x, h => by
     simp only [uMake] at h;split at h
     · rename_i hh hd; cases h; exact Hs.dec_cells hd
     · cases h
   | 2, x, h => by
     simp only [uMake] at h;split at h
     · rename_i hh hd; cases h; exact Hs.dec_cells hd
     · cases h
   | 3, x, h => by
     simp only [uMake] at h;split at h
     · rename_i hh hd; cases h; exact Hs.dec_cells hd
     · cases h
   | 4, x, h => by
     simp only [uMake] at h;split at h
     · rename_i hh hd; cases h; exact Hs.dec_cells hd
     · cases h
   | 5, x, h => by
     simp only [uMake] at h;split at h
     · rename_i hh hd; cases h; exact Hs.dec_cells hd
     · cases h
   | 6, x, h => by
     simp only [uMake] at h;split at h
     · rename_i hh hd; cases h; exact Hs.dec_cells hd
     · cases h
   | 7, x, h => by
     simp only [uMake] at h;split at h
     · rename_i hh hd; cases h; exact Hs.dec_cells hd
     · cases h
   | 8, x, h => by
     simp only [uMake] at h;split at h
     · rename_i hh hd; cases h; exact Hs.dec_cells hd
     · cases h
   | _ + 9, x, h => by
     simp only [uMake] at h;split at h
     · rename_i hh hd; cases h; exact Hs.dec_cells hd
     · cases h
 tys_eq := fun n x => match n, x with
   | 0, _ => rfl
   | 1, _ => rfl
   | 2, _ => rfl
   | 3, _ => rfl
   | 4, _ => rfl
   | 5, _ => rfl
   | 6, _ => rfl
   | 7, _ => rfl
   | 8, _ => rfl
   | _ + 9, _ => rfl
 tyOf := fun e => match e with
   | 3 => some (.int .i64)
   | 5 => some (.int .u8)
   | 9 => some .str
   | 53 => some (.nm 4)
   | 72 => some (.nm 8)
   | 77 => some (.nm 1)
   | 119 => some (.nm 3)
   | 183 => some (.nm 6)
   | _ => none
 pos := fun n => match n with
   | 0 => by decide
   | 1 => by decide
   | 2 => by decide
   | 3 => by decide
   | 4 => by decide
   | 5 => by decide
   | 6 => by decide
   | 7 => by decide
   | 8 => by decide
   | _ + 9 => Nat.zero_lt_one
theorem g16d : Un.Total := fun n l h => match n, h with
 | 0, h => by
   obtain ⟨x, hx⟩ := Hs.dec_ty (D := uD) (ts := uTys 0) h;exact ⟨_, by show uMake 0 l = _; simp only [uMake, hx]; rfl⟩
 | 1, h => by
   obtain ⟨x, hx⟩ := Hs.dec_ty (D := uD) (ts := uTys 1) h;exact ⟨_, by show uMake 1 l = _; simp only [uMake, hx]; rfl⟩
 | 2, h => by
   obtain ⟨x, hx⟩ := Hs.dec_ty (D := uD) (ts := uTys 2) h;exact ⟨_, by show uMake 2 l = _; simp only [uMake, hx]; rfl⟩
 | 3, h => by
   obtain ⟨x, hx⟩ := Hs.dec_ty (D := uD) (ts := uTys 3) h;exact ⟨_, by show uMake 3 l = _; simp only [uMake, hx]; rfl⟩
 | 4, h => by
   obtain ⟨x, hx⟩ := Hs.dec_ty (D := uD) (ts := uTys 4) h;exact ⟨_, by show uMake 4 l = _; simp only [uMake, hx]; rfl⟩
 | 5, h => by
   obtain ⟨x, hx⟩ := Hs.dec_ty (D := uD) (ts := uTys 5) h;exact ⟨_, by show uMake 5 l = _; simp only [uMake, hx]; rfl⟩
 | 6, h => by
   obtain ⟨x, hx⟩ := Hs.dec_ty (D := uD) (ts := uTys 6) h;exact ⟨_, by show uMake 6 l = _; simp only [uMake, hx]; rfl⟩
 | 7, h => by
   obtain ⟨x, hx⟩ := Hs.dec_ty (D := uD) (ts := uTys 7) h;exact ⟨_, by show uMake 7 l = _; simp only [uMake, hx]; rfl⟩
 | 8, h => by
   obtain ⟨x, hx⟩ := Hs.dec_ty (D := uD) (ts := uTys 8) h;exact ⟨_, by show uMake 8 l = _; simp only [uMake, hx]; rfl⟩
 | m + 9, h => by
   obtain ⟨x, hx⟩ := Hs.dec_ty (D := uD) (ts := [.bool]) h;exact ⟨x, by show uMake (m + 9) l = _; simp only [uMake, hx]; rfl⟩
end
section
open Go Go.Proofs.YthnmepafpikaiaaGreat.Shv
open Tryz
set_option maxRecDepth 100000
open Go.Proofs Go.Proofs.YthnmepafpikaiaaGreat Go.Shelf
instance : Inhabited EncodeEntry := ⟨dEncodeEntry⟩
instance : Inhabited (Un.D 6) := ⟨dEncodeEntry⟩
def sortLt (x y : EncodeEntry) : Bool := decide (x.id < y.id)
def gt3 (l : List EncodeEntry) : Option (List EncodeEntry) := some (pdqBy sortLt l)
section
open Go.Proofs Go.Proofs.YthnmepafpikaiaaGreat Go.Sort Go.RowKit Go.Lib
theorem sortNaN (x : Int) (w : World) : Calls prog 162 #[.int .i64 x] w fun e w' => e = .returned (.bool false) ∧ w' = w := by
 go_enter func162, ntmps162
 go_wp2
 go_ret
 exact ⟨by simp, rfl⟩
set_option maxHeartbeats 1000000 in
theorem sortCmp (x y : Int) (w : World) : Calls prog 136 #[.int .i64 x, .int .i64 y] w fun e w' => e = .returned (.int .i64 (Lib.compareInt x y)) ∧ w' = w := by
 go_enter func136, ntmps136
 go_wp2_with (go_at_call 162; refine (sortNaN _ _).mono ?_; rintro e w' ⟨rfl, hw⟩; rw [hw])
 all_goals (go_ret; refine ⟨?_, rfl⟩; unfold Lib.compareInt; (repeat' split) <;> first | rfl | (exfalso; omega))
def sortEnc (x : EncodeEntry) : List Value := [.int .i64 x.id, .string ⟨x.text.toArray⟩]
set_option maxHeartbeats 1000000 in
theorem sortClo (x y : Int) (s t : ByteArray) (W : World) : Calls prog 135 #[.agg #[.int .i64 x, .string s], .agg #[.int .i64 y, .string t]] W fun e w' => e = .returned (.int .i64 (Lib.compareInt x y)) ∧ ∃ q os', w' = grow (W.drewN q) os' := by
 have hcon := fun W' => sortCmp x y W'
 generalize Lib.compareInt x y = r at hcon ⊢
 go_enter func135, ntmps135
 go_wp2_with (go_at_call 136; refine (hcon _).mono ?_; rintro e w' ⟨rfl, rfl⟩)
 go_ret
 exact ⟨rfl, 0, _, by rw [alloc_eq_grow, alloc_eq_grow, grow_grow]; rfl⟩
def gxc : Go.Shelf.Ren := ⟨fun | 6 => 134 | 15 => 161 | 14 => 160 | 28 => 187 | 29 => 188 | 20 => 179 | 21 => 180 | 22 => 181 | 23 => 182 | 24 => 183 | 25 => 184 | 26 => 185 | 27 => 186 | 46 => 192 | 47 => 193 | 48 => 194 | 49 => 195 | 50 => 196 | 57 => 197 | n => n, fun | 22 => 180 | 24 => 183 | 25 => 186 | 3 => 3 | 39 => 124 | 0 => 0 | 53 => 167 | 55 => 82 | 4 => 4 | 46 => 215 | 45 => 214 | 50 => 144 | 5 => 5 | 9 => 9 | 66 => 224 | 70 => 228 | 76 => 230 | 77 => 231 | n => n, fun | n => n⟩
theorem layS : SlLaysF0.n6 prog gxc := {
 mixed := by kernel_rfl
 f6 := ⟨f134.name, by decide, func134.trans (congrArg some (by kernel_rfl))⟩
 f14 := ⟨f160.name, by decide, func160.trans (congrArg some (by kernel_rfl))⟩
 f15 := func161.trans (congrArg some (by kernel_rfl))
 f20 := ⟨f179.name, by decide, func179.trans (congrArg some (by kernel_rfl))⟩
 f21 := ⟨f180.name, by decide, func180.trans (congrArg some (by kernel_rfl))⟩
 f22 := ⟨f181.name, by decide, func181.trans (congrArg some (by kernel_rfl))⟩
 f23 := ⟨f182.name, by decide, func182.trans (congrArg some (by kernel_rfl))⟩
 f24 := ⟨f183.name, by decide, func183.trans (congrArg some (by kernel_rfl))⟩
 f25 := ⟨f184.name, by decide, func184.trans (congrArg some (by kernel_rfl))⟩
 f26 := ⟨f185.name, by decide, func185.trans (congrArg some (by kernel_rfl))⟩
 f27 := ⟨f186.name, by decide, func186.trans (congrArg some (by kernel_rfl))⟩
 f28 := func187.trans (congrArg some (by kernel_rfl))
 f29 := func188.trans (congrArg some (by kernel_rfl))
 f46 := ⟨f192.name, by decide, func192.trans (congrArg some (by kernel_rfl))⟩
 f47 := func193.trans (congrArg some (by kernel_rfl))
 f48 := func194.trans (congrArg some (by kernel_rfl))
 f49 := ⟨f195.name, by decide, func195.trans (congrArg some (by kernel_rfl))⟩
 f50 := ⟨f196.name, by decide, func196.trans (congrArg some (by kernel_rfl))⟩
 f57 := ⟨f197.name, by decide, func197.trans (congrArg some (by kernel_rfl))⟩
 t0 := underlying0
 a0 := isAgg0
 z0 := sizeOf0
 v0 := zeroValue0
 t3 := underlying3
 a3 := isAgg3
 z3 := sizeOf3
 v3 := zeroValue3
 t4 := underlying4
 a4 := isAgg4
 z4 := sizeOf4
 v4 := zeroValue4
 t5 := underlying5
 a5 := isAgg5
 z5 := sizeOf5
 v5 := zeroValue5
 t9 := underlying9
 a9 := isAgg9
 z9 := sizeOf9
 v9 := zeroValue9
 t22 := underlying180
 a22 := isAgg180
 z22 := sizeOf180
 v22 := zeroValue180
 t25 := underlying186
 a25 := isAgg186
 z25 := sizeOf186
 v25 := zeroValue186
 t39 := underlying124
 a39 := isAgg124
 z39 := sizeOf124
 v39 := zeroValue124
 t45 := underlying214
 a45 := isAgg214
 z45 := sizeOf214
 v45 := zeroValue214
 t46 := underlying215
 a46 := isAgg215
 z46 := sizeOf215
 v46 := zeroValue215
 t50 := underlying144
 a50 := isAgg144
 z50 := sizeOf144
 v50 := zeroValue144
 t53 := underlying167
 a53 := isAgg167
 z53 := sizeOf167
 v53 := zeroValue167
 t55 := underlying82
 a55 := isAgg82
 z55 := sizeOf82
 v55 := zeroValue82
 t66 := underlying224
 a66 := isAgg224
 z66 := sizeOf224
 v66 := zeroValue224
 t70 := underlying228
 a70 := isAgg228
 z70 := sizeOf228
 v70 := zeroValue228
 t76 := underlying230
 a76 := isAgg230
 z76 := sizeOf230
 v76 := zeroValue230
 t77 := underlying231
 a77 := isAgg231
 z77 := sizeOf231
 v77 := zeroValue231 }
theorem gwy : ltOf (fun x y : EncodeEntry => Lib.compareInt x.id y.id) = sortLt := by
 funext x y
 unfold ltOf sortLt Lib.compareInt;by_cases h1 : x.id < y.id
 · simp [h1]
 · by_cases h2 : y.id < x.id <;> simp [h1, h2]
theorem sortSWO : SWO sortLt := g1sk (fun x : EncodeEntry => x.id)
set_option maxHeartbeats 2000000 in
theorem sortNoneI (p : Option Addr) (cap : Nat) (fv : Value) (w : World) : Calls prog 179 #[.slice p 0 cap, .int .i64 0, .int .i64 0, fv] w fun e w' => e = .returned (.tuple #[]) ∧ w' = w := by
 go_enter func179, ntmps179
 go_wp2
 refine wp_loop_rounds 1 ?_;rw [rounds_succ]
 go_wp2
 go_end0
 exact ⟨rfl, rfl⟩
set_option maxHeartbeats 2000000 in
theorem sortNoneP (p : Option Addr) (cap : Nat) (lim : Int) (fv : Value) (w : World) : Calls prog 160 #[.slice p 0 cap, .int .i64 0, .int .i64 0, .int .i64 lim, fv] w fun e w' => e = .returned (.tuple #[]) ∧ w' = w := by
 have hi := fun W => sortNoneI p cap fv W
 go_enter func160, ntmps160
 go_wp2
 refine wp_loop_rounds 1 ?_;rw [rounds_succ]
 go_wp2_with (go_at_call 179; refine (hi _).mono ?_; rintro e w' ⟨rfl, rfl⟩)
 (try simp only [Exit.inBlock, Exit.then]); refine bodyPost_ret (results_none rfl _ _ _) rfl ?_
 exact ⟨rfl, rfl⟩
set_option maxHeartbeats 2000000 in
theorem sortNone (p : Option Addr) (cap : Nat) (fv : Value) (w : World) : Calls prog 134 #[.slice p 0 cap, fv] w fun e w' => e = .returned (.tuple #[]) ∧ w' = w := by
 have hp := fun lim W => sortNoneP p cap lim fv W
 have hl : ∀ W, Calls prog 161 #[.int .u64 0] W fun e w' => e = .returned (.int .i64 (Lib.bitLen 0 : Nat)) ∧ w' = W := fun W => by
   have h := Any.bits_Len (SlLaysF0.n15.bits (P := prog) (ρ := gxc) { layS with }) 0 W (by omega) (by omega);exact h
 go_enter func134, ntmps134
 go_wp2_with (first | (go_at_call 161; refine (hl _).mono ?_; rintro e w' ⟨rfl, rfl⟩) | (go_at_call 160; refine (hp _ _).mono ?_; rintro e w' ⟨rfl, rfl⟩))
 go_end0
 exact ⟨rfl, rfl⟩
theorem sortWhole (blk off cap : Nat) (d : Array (Un.D 6)) (w : World) (hH : HoldsK sortEnc 2 w blk off d) (hblk : blk < w.heap.size) (hsz : d.size < 4611686018427387904) :
   Calls prog 134 #[.slice (some ⟨blk, off, none⟩) d.size cap, .func (.func 135) #[] #[]] w fun e w' => e = .returned (.tuple #[]) ∧ ∃ n os, w' = sortWorldK sortEnc 2 w blk off n (pdq sortLt d 0 d.size (Lib.bitLen d.size) true true) os := by
 have eg : ∀ args w, (callFunc 135 args).run prog w = .ok (.enter 135 args) w := enters_of func135 (by kernel_rfl) rfl
 have h := AnyQ.slices_SortFunc_eq (α := EncodeEntry) layS 2 isAgg183 sizeOf183 sortEnc (fun _ => rfl) (fun x v hv => by simp [sortEnc] at hv; rcases hv with rfl | rfl <;> rfl) (fun x y => Lib.compareInt x.id y.id) (by rw [gwy]; exact sortSWO) 135 #[] blk off cap d w eg (fun _ _ _ _ x y => sortClo x.id y.id _ _ _) hH hblk hsz;rw [gwy] at h;exact h
theorem g13j : g16h prog 134 = true := by kernel_rfl
def gq5 : FSpec Un := sortS Un 134 6 135 (pdqBy (α := Un.D 6) sortLt)
theorem gut : FSnd prog gq5 := g1rr (U := Un) (n := 6) sortEnc sortLt sortSWO (fun _ => rfl) (fun w S x j t v h hr => g1oy w S x.id x.text j t v h hr) sortWhole sortNone
end
def gvl : Go.Shelf.Ren := ⟨fun | 240 => 117 | 276 => 145 | n => n, fun | 0 => 0 | 4 => 4 | 9 => 9 | 20 => 20 | 37 => 45 | 70 => 128 | 72 => 130 | 164 => 194 | n => n, fun n => n⟩
theorem lay240 : Lays.n240 prog gvl := {
 mixed := by kernel_rfl
 f240 := func117.trans (congrArg some (by kernel_rfl))
 f276 := func145.trans (congrArg some (by kernel_rfl))
 t0 := underlying0
 a0 := isAgg0
 z0 := sizeOf0
 v0 := zeroValue0
 t4 := underlying4
 a4 := isAgg4
 z4 := sizeOf4
 v4 := zeroValue4
 t9 := underlying9
 a9 := isAgg9
 z9 := sizeOf9
 v9 := zeroValue9
 t20 := underlying20
 a20 := isAgg20
 z20 := sizeOf20
 v20 := zeroValue20
 t70 := underlying128
 a70 := isAgg128
 z70 := sizeOf128
 v70 := zeroValue128
 t72 := underlying130
 a72 := isAgg130
 z72 := sizeOf130
 v72 := zeroValue130
 t164 := underlying194
 a164 := isAgg194
 z164 := sizeOf194
 v164 := zeroValue194 }
theorem layX72 : Builder.X72 prog gvl := {
 sizeBuilder := by kernel_rfl
 liesBuilder := by kernel_rfl }
theorem g13k : g16h prog 117 = true := by kernel_rfl
def gp3 : FSpec Un := g1i1 Un 117 130 5
theorem gtx : FSnd prog gp3 := g1qc lay240 layX72 rfl rfl
end
section
open Go Go.Proofs.YthnmepafpikaiaaGreat.Shv
open Tryz
set_option maxRecDepth 100000
def g52 (_ : Unit) : Option (SSchema) :=
 some (⟨[(⟨2, [], (-10), 10, 0, [], [], 0, 0, false⟩ : SType), (⟨2, [], 0, 5, 0, [], [], 0, 0, false⟩ : SType), (⟨3, [], 0, 0, 8, [], [], 0, 0, false⟩ : SType), (⟨5, [80, 111, 105, 110, 116], 0, 0, 0, [], [(⟨1, [120], 0, false, false, (⟨0, false, 0, [], 0, [], [], []⟩ : SValue)⟩ : SMember), (⟨2, [121], 1, false, true, (⟨2, false, 3, [], 0, [], [], []⟩ : SValue)⟩ : SMember), (⟨3, [116, 97, 103], 2, true, false, (⟨0, false, 0, [], 0, [], [], []⟩ : SValue)⟩ : SMember)], 0, 0, false⟩ : SType)]⟩ : SSchema)
theorem F38_b : g16h prog 38 = true := by kernel_rfl
theorem g13l : f38.body.bind (Shv.resolve prog f38.ntmps) = some (g16e prog f38) := by kernel_rfl
theorem g109 : g16f prog f38.results.toList = some [.cell 0 true 1] := by kernel_rfl
def gq6 (F : Hs Un.D [] → Option (Hs Un.D [.nm 0])) : FSpec Un := ⟨38, [], [], [], .row 0, [], [.nm 0], F⟩
def gbd : FSpec Un := gq6 g52
theorem gop : FSnd prog gbd := FSnd.of fun h r hr => FAt.of_body (s := gbd) (fo := foS []) (lo := loL []) func38 g13l g109 (by kernel_rfl) FoSnd.nil (LoOk.snd LoOk.nil) (Eq.trans (by kernel_rfl) hr)
def gb9 (x_ : Int × Int) : Option (SValue) :=
 match x_ with
 | (x0, y) =>
 some (⟨5, false, 0, [], 0, [], [(⟨2, false, x0, [], 0, [], [], []⟩ : SValue), (⟨2, false, y, [], 0, [], [], []⟩ : SValue), (⟨3, false, 0, [97, 98], 0, [], [], []⟩ : SValue)], []⟩ : SValue)
theorem F39_b : g16h prog 39 = true := by kernel_rfl
theorem g13m : f39.body.bind (Shv.resolve prog f39.ntmps) = some (g16e prog f39) := by kernel_rfl
theorem g10a : g16f prog f39.results.toList = some [.cell 4 true 8] := by kernel_rfl
def gsb (F : Hs Un.D [.int .i64, .int .i64] → Option (Hs Un.D [.nm 4])) : FSpec Un := ⟨39, [.c (.hole (.int .i64)), .c (.hole (.int .i64))], [], [.int .i64, .int .i64], .row 4, [], [.nm 4], F⟩
def gdm : FSpec Un := gsb gb9
theorem gq7 : FSnd prog gdm := FSnd.of fun h r hr => FAt.of_body (s := gdm) (fo := foS []) (lo := loL []) func39 g13m g10a (by kernel_rfl) FoSnd.nil (LoOk.snd LoOk.nil) (Eq.trans (by kernel_rfl) hr)
def gk (x_ : List SSymbol × List SSymbol × Int × Int) : Option ((Bool) ⊕ (Unit)) :=
 match x_ with
 | (s1_1, s2_1, t12_1, t13) =>
 if decide (t13 < t12_1) = true then
 if inR t13 s1_1.length = true then
 some (s1_1.getD t13.toNat dSSymbol) >>= fun x0 =>
 if inR t13 s2_1.length = true then
 some (s2_1.getD t13.toNat dSSymbol) >>= fun x0_1 =>
 if (!(eqI x0.ID x0_1.ID && (eqS x0.Name x0_1.Name && true))) = true then
 some (.inl false)
 else
 gk (s1_1, s2_1, t12_1, addI .i64 t13 1)
 else none
 else none
 else
 some (.inr ())
  partial_fixpoint
theorem g13n : g16h prog 167 = true := by kernel_rfl
theorem g10b : f167.body.bind (Shv.resolve prog f167.ntmps) = some (g16e prog f167) := by kernel_rfl
theorem gyc : g16f prog f167.results.toList = some [.tmp 4] := by kernel_rfl
def g6m : Shape := ⟨[(0, .c (.hole (.slice (.nm 2)))), (1, .c (.hole (.slice (.nm 2)))), (12, .c (.hole (.int .i64))), (13, .c (.hole (.int .i64)))], []⟩
def g41 : List Ty := [.slice (.nm 2), .slice (.nm 2), .int .i64, .int .i64]
def g3s : List OSpec := [⟨.ret, ⟨[(4, .c (.hole .bool))], []⟩, [], [.bool]⟩, ⟨.exit 0, ⟨[], []⟩, [], []⟩]
def gdn (F : Hs Un.D g41 → Option (OSum Un g3s)) : LSpec Un := ⟨g6m, [], g41, g3s, F⟩
def g6x : LSpec Un := gdn gk
theorem gce : LSnd prog f167.ntmps 0 (g16g (g16e prog f167) 0) g6x := fun h o ho => gk.partial_correctness (fun h o => LAt (U := Un) prog f167.ntmps 0 (g16g (g16e prog f167) 0) g6m g41 g3s h o) (fun F1 HF1 h o ho => LAt.of_round (fo := foS []) (lo := loL []) (own := []) (F' := F1) FoSnd.nil (LoOk.snd LoOk.nil) HF1 (Eq.trans (by kernel_rfl) ho)) h o ho
def g2n (x_ : List SSymbol × List SSymbol) : Option (Bool) :=
 match x_ with
 | (s1, s2) =>
 if (!(decide ((s1.length : Int) = (s2.length : Int)))) = true then
 some false
 else
 gk (s1, s2, (s1.length : Int), 0) >>= fun o =>
 match o with
 | .inl o_1 =>
 some o_1
 | .inr o_2 =>
 some true
def gg7 (F : Hs Un.D [.slice (.nm 2), .slice (.nm 2)] → Option (Hs Un.D [.bool])) : FSpec Un := ⟨167, [.c (.hole (.slice (.nm 2))), .c (.hole (.slice (.nm 2)))], [], [.slice (.nm 2), .slice (.nm 2)], .c (.hole .bool), [], [.bool], F⟩
def g4t : FSpec Un := gg7 g2n
theorem gez : FSnd prog g4t := FSnd.of fun h r hr => FAt.of_body (s := g4t) (fo := foS []) (lo := loL [(0, g6x)]) func167 g10b gyc (by kernel_rfl) FoSnd.nil (LoOk.snd (LoOk.cons gce LoOk.nil)) (Eq.trans (by kernel_rfl) hr)
def gu (x_ : List SRaw × List SRaw × Int × Int) : Option ((Bool) ⊕ (Unit)) :=
 match x_ with
 | (s1_1, s2_1, t12_1, t13) =>
 if decide (t13 < t12_1) = true then
 if inR t13 s1_1.length = true then
 some (s1_1.getD t13.toNat dSRaw) >>= fun x0 =>
 if inR t13 s2_1.length = true then
 some (s2_1.getD t13.toNat dSRaw) >>= fun x0_1 =>
 if (!(eqI x0.ID x0_1.ID && (eqS x0.Data x0_1.Data && true))) = true then
 some (.inl false)
 else
 gu (s1_1, s2_1, t12_1, addI .i64 t13 1)
 else none
 else none
 else
 some (.inr ())
  partial_fixpoint
theorem gxy : g16h prog 177 = true := by kernel_rfl
theorem g10c : f177.body.bind (Shv.resolve prog f177.ntmps) = some (g16e prog f177) := by kernel_rfl
theorem gyd : g16f prog f177.results.toList = some [.tmp 4] := by kernel_rfl
def g9b : Shape := ⟨[(0, .c (.hole (.slice (.nm 5)))), (1, .c (.hole (.slice (.nm 5)))), (12, .c (.hole (.int .i64))), (13, .c (.hole (.int .i64)))], []⟩
def g54 : List Ty := [.slice (.nm 5), .slice (.nm 5), .int .i64, .int .i64]
def g4u : List OSpec := [⟨.ret, ⟨[(4, .c (.hole .bool))], []⟩, [], [.bool]⟩, ⟨.exit 0, ⟨[], []⟩, [], []⟩]
def ghs (F : Hs Un.D g54 → Option (OSum Un g4u)) : LSpec Un := ⟨g9b, [], g54, g4u, F⟩
def g9h : LSpec Un := ghs gu
theorem ggo : LSnd prog f177.ntmps 0 (g16g (g16e prog f177) 0) g9h := fun h o ho => gu.partial_correctness (fun h o => LAt (U := Un) prog f177.ntmps 0 (g16g (g16e prog f177) 0) g9b g54 g4u h o) (fun F1 HF1 h o ho => LAt.of_round (fo := foS []) (lo := loL []) (own := []) (F' := F1) FoSnd.nil (LoOk.snd LoOk.nil) HF1 (Eq.trans (by kernel_rfl) ho)) h o ho
def g2u (x_ : List SRaw × List SRaw) : Option (Bool) :=
 match x_ with
 | (s1, s2) =>
 if (!(decide ((s1.length : Int) = (s2.length : Int)))) = true then
 some false
 else
 gu (s1, s2, (s1.length : Int), 0) >>= fun o =>
 match o with
 | .inl o_1 =>
 some o_1
 | .inr o_2 =>
 some true
def gk2 (F : Hs Un.D [.slice (.nm 5), .slice (.nm 5)] → Option (Hs Un.D [.bool])) : FSpec Un := ⟨177, [.c (.hole (.slice (.nm 5))), .c (.hole (.slice (.nm 5)))], [], [.slice (.nm 5), .slice (.nm 5)], .c (.hole .bool), [], [.bool], F⟩
def g4j : FSpec Un := gk2 g2u
theorem ga1 : FSnd prog g4j := FSnd.of fun h r hr => FAt.of_body (s := g4j) (fo := foS []) (lo := loL [(0, g9h)]) func177 g10c gyd (by kernel_rfl) FoSnd.nil (LoOk.snd (LoOk.cons ggo LoOk.nil)) (Eq.trans (by kernel_rfl) hr)
mutual
def g46 (x_ : SValue × SValue) : Option (Bool) :=
 match x_ with
 | (a, b) =>
 some (bif bif bif bif decide (a.Kind = b.Kind) then eqB a.Bool_ b.Bool_ else false then decide (a.Int_ = b.Int_) else false then decide (a.Str = b.Str) else false then decide (a.ID = b.ID) else false) >>= fun t37 =>
 (if t37 = true then g2u (a.Rest, b.Rest) else some false) >>= fun r =>
 some (bif t37 then r else false) >>= fun t44 =>
 (if t44 = true then gn (a.Keys, b.Keys) else some false) >>= fun r_1 =>
 some (bif t44 then r_1 else false) >>= fun t51 =>
 (if t51 = true then gn (a.Items, b.Items) else some false) >>= fun r_2 =>
 some (bif t51 then r_2 else false)
  partial_fixpoint
def gn (x_ : List SValue × List SValue) : Option (Bool) :=
 match x_ with
 | (s1, s2) =>
 if (!(decide ((s1.length : Int) = (s2.length : Int)))) = true then
 some false
 else
 gf (s2, s1, (s1.length : Int), 0) >>= fun o =>
 match o with
 | .inl o_1 =>
 some o_1
 | .inr o_2 =>
 some true
  partial_fixpoint
def gf (x_ : List SValue × List SValue × Int × Int) : Option ((Bool) ⊕ (Unit)) :=
 match x_ with
 | (s2_1, t15, t16_1, t17) =>
 if decide (t17 < t16_1) = true then
 if inR t17 t15.length = true then
 if inR t17 s2_1.length = true then
 g46 (SValue.eta (t15.getD t17.toNat dSValue), SValue.eta (s2_1.getD t17.toNat dSValue)) >>= fun r =>
 if (!r) = true then
 some (.inl false)
 else
 gf (s2_1, t15, t16_1, addI .i64 t17 1)
 else none
 else none
 else
 some (.inr ())
  partial_fixpoint
end
theorem gxd : g16h prog 170 = true := by kernel_rfl
theorem g10d : f170.body.bind (Shv.resolve prog f170.ntmps) = some (g16e prog f170) := by kernel_rfl
theorem gye : g16f prog f170.results.toList = some [.tmp 4] := by kernel_rfl
def gs1 (F : Hs Un.D [.nm 4, .nm 4] → Option (Hs Un.D [.bool])) : FSpec Un := ⟨170, [.row 4, .row 4], [], [.nm 4, .nm 4], .c (.hole .bool), [], [.bool], F⟩
def gad : FSpec Un := gs1 g46
theorem gxz : g16h prog 178 = true := by kernel_rfl
theorem gxv : f178.body.bind (Shv.resolve prog f178.ntmps) = some (g16e prog f178) := by kernel_rfl
theorem gxe : g16f prog f178.results.toList = some [.tmp 6] := by kernel_rfl
def g3i (F : Hs Un.D [.slice (.nm 4), .slice (.nm 4)] → Option (Hs Un.D [.bool])) : FSpec Un := ⟨178, [.c (.hole (.slice (.nm 4))), .c (.hole (.slice (.nm 4))), .c (.fn 170 [])], [], [.slice (.nm 4), .slice (.nm 4)], .c (.hole .bool), [], [.bool], F⟩
def g22 : FSpec Un := g3i gn
def g30 : Shape := ⟨[(1, .c (.hole (.slice (.nm 4)))), (2, .c (.fn 170 [])), (15, .c (.hole (.slice (.nm 4)))), (16, .c (.hole (.int .i64))), (17, .c (.hole (.int .i64)))], []⟩
def g1r : List Ty := [.slice (.nm 4), .slice (.nm 4), .int .i64, .int .i64]
def g1o : List OSpec := [⟨.ret, ⟨[(6, .c (.hole .bool))], []⟩, [], [.bool]⟩, ⟨.exit 0, ⟨[], []⟩, [], []⟩]
def g32 (F : Hs Un.D g1r → Option (OSum Un g1o)) : LSpec Un := ⟨g30, [], g1r, g1o, F⟩
def g67 : LSpec Un := g32 gf
theorem gvm : (FSnd prog gad) ∧ (FSnd prog g22) ∧ (LSnd prog f178.ntmps 0 (g16g (g16e prog f178) 0) g67) := g46.mutual_partial_correctness (fun h r => FAt prog gad h r) (fun h r => FAt prog g22 h r) (fun h o => LAt (U := Un) prog f178.ntmps 0 (g16g (g16e prog f178) 0) g30 g1r g1o h o)
 (fun F2 HF2 h o ho => FAt.of_body (s := gad) (fo := foS [g4j, g3i F2]) (lo := loL []) func170 g10d gye (by kernel_rfl) (FoSnd.cons gxy ga1 (FoSnd.cons gxz HF2 FoSnd.nil)) (LoOk.snd LoOk.nil) (Eq.trans (by kernel_rfl) ho))
 (fun F3 HF3 h o ho => FAt.of_body (s := g22) (fo := foS []) (lo := loL [(0, g32 F3)]) func178 gxv gxe (by kernel_rfl) FoSnd.nil (LoOk.snd (LoOk.cons HF3 LoOk.nil)) (Eq.trans (by kernel_rfl) ho))
 (fun F1 F3 HF1 HF3 h o ho => LAt.of_round (fo := foS [gs1 F1]) (lo := loL []) (own := []) (F' := F3) (FoSnd.cons gxd HF1 FoSnd.nil) (LoOk.snd LoOk.nil) HF3 (Eq.trans (by kernel_rfl) ho))
theorem gp4 : FSnd prog gad := gvm.1
def g9e (x_ : SMember × SMember) : Option (Bool) :=
 match x_ with
 | (x0, y) =>
 some (bif bif bif bif decide (x0.ID = y.ID) then decide (x0.Name = y.Name) else false then decide (x0.Type_ = y.Type_) else false then eqB x0.Critical y.Critical else false then eqB x0.HasDefault y.HasDefault else false) >>= fun t37 =>
 (if t37 = true then g46 ((⟨x0.Default.Kind, x0.Default.Bool_, x0.Default.Int_, x0.Default.Str, x0.Default.ID, x0.Default.Keys, x0.Default.Items, x0.Default.Rest⟩ : SValue), SValue.eta y.Default) else some false) >>= fun r =>
 some (bif t37 then r else false)
theorem g13o : g16h prog 169 = true := by kernel_rfl
theorem g10e : f169.body.bind (Shv.resolve prog f169.ntmps) = some (g16e prog f169) := by kernel_rfl
theorem gyf : g16f prog f169.results.toList = some [.tmp 4] := by kernel_rfl
def guu (F : Hs Un.D [.nm 3, .nm 3] → Option (Hs Un.D [.bool])) : FSpec Un := ⟨169, [.row 3, .row 3], [], [.nm 3, .nm 3], .c (.hole .bool), [], [.bool], F⟩
def ght : FSpec Un := guu g9e
theorem gt4 : FSnd prog ght := FSnd.of fun h r hr => FAt.of_body (s := ght) (fo := foS [gad]) (lo := loL []) func169 g10e gyf (by kernel_rfl) (FoSnd.cons gxd gp4 FoSnd.nil) (LoOk.snd LoOk.nil) (Eq.trans (by kernel_rfl) hr)
def g8 (x_ : List SMember × List SMember × Int × Int) : Option ((Bool) ⊕ (Unit)) :=
 match x_ with
 | (s2_1, t15, t16_1, t17) =>
 if decide (t17 < t16_1) = true then
 if inR t17 t15.length = true then
 some (t15.getD t17.toNat dSMember) >>= fun x0 =>
 if inR t17 s2_1.length = true then
 some (s2_1.getD t17.toNat dSMember) >>= fun x0_1 =>
 g9e ((⟨x0.ID, x0.Name, x0.Type_, x0.Critical, x0.HasDefault, SValue.eta x0.Default⟩ : SMember), (⟨x0_1.ID, x0_1.Name, x0_1.Type_, x0_1.Critical, x0_1.HasDefault, SValue.eta x0_1.Default⟩ : SMember)) >>= fun r =>
 if (!r) = true then
 some (.inl false)
 else
 g8 (s2_1, t15, t16_1, addI .i64 t17 1)
 else none
 else none
 else
 some (.inr ())
  partial_fixpoint
theorem g13p : g16h prog 168 = true := by kernel_rfl
theorem g10f : f168.body.bind (Shv.resolve prog f168.ntmps) = some (g16e prog f168) := by kernel_rfl
theorem gyg : g16f prog f168.results.toList = some [.tmp 6] := by kernel_rfl
def g2p : Shape := ⟨[(1, .c (.hole (.slice (.nm 3)))), (2, .c (.fn 169 [])), (15, .c (.hole (.slice (.nm 3)))), (16, .c (.hole (.int .i64))), (17, .c (.hole (.int .i64)))], []⟩
def g1j : List Ty := [.slice (.nm 3), .slice (.nm 3), .int .i64, .int .i64]
def g1f : List OSpec := [⟨.ret, ⟨[(6, .c (.hole .bool))], []⟩, [], [.bool]⟩, ⟨.exit 0, ⟨[], []⟩, [], []⟩]
def g5g (F : Hs Un.D g1j → Option (OSum Un g1f)) : LSpec Un := ⟨g2p, [], g1j, g1f, F⟩
def g2s : LSpec Un := g5g g8
theorem g55 : LSnd prog f168.ntmps 0 (g16g (g16e prog f168) 0) g2s := fun h o ho => g8.partial_correctness (fun h o => LAt (U := Un) prog f168.ntmps 0 (g16g (g16e prog f168) 0) g2p g1j g1f h o) (fun F1 HF1 h o ho => LAt.of_round (fo := foS [ght]) (lo := loL []) (own := []) (F' := F1) (FoSnd.cons g13o gt4 FoSnd.nil) (LoOk.snd LoOk.nil) HF1 (Eq.trans (by kernel_rfl) ho)) h o ho
def gx (x_ : List SMember × List SMember) : Option (Bool) :=
 match x_ with
 | (s1, s2) =>
 if (!(decide ((s1.length : Int) = (s2.length : Int)))) = true then
 some false
 else
 g8 (s2, s1, (s1.length : Int), 0) >>= fun o =>
 match o with
 | .inl o_1 =>
 some o_1
 | .inr o_2 =>
 some true
def g65 (F : Hs Un.D [.slice (.nm 3), .slice (.nm 3)] → Option (Hs Un.D [.bool])) : FSpec Un := ⟨168, [.c (.hole (.slice (.nm 3))), .c (.hole (.slice (.nm 3))), .c (.fn 169 [])], [], [.slice (.nm 3), .slice (.nm 3)], .c (.hole .bool), [], [.bool], F⟩
def g1s : FSpec Un := g65 gx
theorem g5l : FSnd prog g1s := FSnd.of fun h r hr => FAt.of_body (s := g1s) (fo := foS []) (lo := loL [(0, g2s)]) func168 g10f gyg (by kernel_rfl) FoSnd.nil (LoOk.snd (LoOk.cons g55 LoOk.nil)) (Eq.trans (by kernel_rfl) hr)
def g1a (x_ : SType × SType) : Option (Bool) :=
 match x_ with
 | (a, b) =>
 some (bif bif bif bif bif bif bif decide (a.Kind = b.Kind) then decide (a.Name = b.Name) else false then decide (a.Low = b.Low) else false then decide (a.High = b.High) else false then decide (a.Max = b.Max) else false then decide (a.Key = b.Key) else false then decide (a.Elem = b.Elem) else false then eqB a.Open b.Open else false) >>= fun t58 =>
 (if t58 = true then g2n (a.Symbols, b.Symbols) else some false) >>= fun r =>
 some (bif t58 then r else false) >>= fun t65 =>
 (if t65 = true then gx (a.Members, b.Members) else some false) >>= fun r_1 =>
 some (bif t65 then r_1 else false)
theorem g13q : g16h prog 150 = true := by kernel_rfl
theorem g10g : f150.body.bind (Shv.resolve prog f150.ntmps) = some (g16e prog f150) := by kernel_rfl
theorem gyh : g16f prog f150.results.toList = some [.tmp 4] := by kernel_rfl
def gwg (F : Hs Un.D [.nm 1, .nm 1] → Option (Hs Un.D [.bool])) : FSpec Un := ⟨150, [.row 1, .row 1], [], [.nm 1, .nm 1], .c (.hole .bool), [], [.bool], F⟩
def gki : FSpec Un := gwg g1a
theorem guv : FSnd prog gki := FSnd.of fun h r hr => FAt.of_body (s := gki) (fo := foS [g4t, g1s]) (lo := loL []) func150 g10g gyh (by kernel_rfl) (FoSnd.cons g13n gez (FoSnd.cons g13p g5l FoSnd.nil)) (LoOk.snd LoOk.nil) (Eq.trans (by kernel_rfl) hr)
def g9f (c : Int) : Option (Bool) :=
 some (bif bif decide (c = 95) then true else bif decide (97 ≤ c) then decide (c ≤ 122) else false then true else bif decide (65 ≤ c) then decide (c ≤ 90) else false)
theorem gy0 : g16h prog 163 = true := by kernel_rfl
theorem g10h : f163.body.bind (Shv.resolve prog f163.ntmps) = some (g16e prog f163) := by kernel_rfl
theorem gyi : g16f prog f163.results.toList = some [.tmp 2] := by kernel_rfl
def guw (F : Hs Un.D [.int .u8] → Option (Hs Un.D [.bool])) : FSpec Un := ⟨163, [.c (.hole (.int .u8))], [], [.int .u8], .c (.hole .bool), [], [.bool], F⟩
def gcf : FSpec Un := guw g9f
theorem gkz : FSnd prog gcf := FSnd.of fun h r hr => FAt.of_body (s := gcf) (fo := foS []) (lo := loL []) func163 g10h gyi (by kernel_rfl) FoSnd.nil (LoOk.snd LoOk.nil) (Eq.trans (by kernel_rfl) hr)
end
section
open Go Go.Proofs.YthnmepafpikaiaaGreat.Shv
open Tryz
set_option maxRecDepth 100000
def gd0 (c : Int) : Option (Bool) :=
 some (bif decide (48 ≤ c) then decide (c ≤ 57) else false)
theorem g13r : g16h prog 164 = true := by kernel_rfl
theorem g10i : f164.body.bind (Shv.resolve prog f164.ntmps) = some (g16e prog f164) := by kernel_rfl
theorem gyj : g16f prog f164.results.toList = some [.tmp 2] := by kernel_rfl
def gvn (F : Hs Un.D [.int .u8] → Option (Hs Un.D [.bool])) : FSpec Un := ⟨164, [.c (.hole (.int .u8))], [], [.int .u8], .c (.hole .bool), [], [.bool], F⟩
def giw : FSpec Un := gvn gd0
theorem gty : FSnd prog giw := FSnd.of fun h r hr => FAt.of_body (s := giw) (fo := foS []) (lo := loL []) func164 g10i gyj (by kernel_rfl) FoSnd.nil (LoOk.snd LoOk.nil) (Eq.trans (by kernel_rfl) hr)
def g2q (x_ : List UInt8 × Int × Int) : Option ((Bool) ⊕ (Unit)) :=
 match x_ with
 | (s_1, t18_1, t19) =>
 if decide (t19 < t18_1) = true then
 if inR t19 s_1.length = true then
 g9f (g17g s_1 t19) >>= fun r_1 =>
 some (!r_1) >>= fun t26 =>
 if (inR t19 s_1.length || (!t26)) = true then
 (if t26 = true then gd0 (g17g s_1 t19) else some false) >>= fun r_2 =>
 if (bif t26 then (!r_2) else false) = true then
 some (.inl false)
 else
 g2q (s_1, t18_1, addI .i64 t19 1)
 else none
 else none
 else
 some (.inr ())
  partial_fixpoint
theorem gy1 : g16h prog 147 = true := by kernel_rfl
theorem g10j : f147.body.bind (Shv.resolve prog f147.ntmps) = some (g16e prog f147) := by kernel_rfl
theorem gyk : g16f prog f147.results.toList = some [.tmp 2] := by kernel_rfl
def gl0 : Shape := ⟨[(0, .c (.hole .str)), (18, .c (.hole (.int .i64))), (19, .c (.hole (.int .i64)))], []⟩
def gf0 : List Ty := [.str, .int .i64, .int .i64]
def gcg : List OSpec := [⟨.ret, ⟨[(2, .c (.hole .bool))], []⟩, [], [.bool]⟩, ⟨.exit 0, ⟨[], []⟩, [], []⟩]
def gtz (F : Hs Un.D gf0 → Option (OSum Un gcg)) : LSpec Un := ⟨gl0, [], gf0, gcg, F⟩
def gmk : LSpec Un := gtz g2q
theorem gsc : LSnd prog f147.ntmps 0 (g16g (g16e prog f147) 0) gmk := fun h o ho => g2q.partial_correctness (fun h o => LAt (U := Un) prog f147.ntmps 0 (g16g (g16e prog f147) 0) gl0 gf0 gcg h o) (fun F1 HF1 h o ho => LAt.of_round (fo := foS [gcf, giw]) (lo := loL []) (own := []) (F' := F1) (FoSnd.cons gy0 gkz (FoSnd.cons g13r gty FoSnd.nil)) (LoOk.snd LoOk.nil) HF1 (Eq.trans (by kernel_rfl) ho)) h o ho
def g33 (s : List UInt8) : Option (Bool) :=
 some (bif decide (s = []) then true else decide (24 < (s.length : Int))) >>= fun t10 =>
 if (inR 0 s.length || (!(!t10))) = true then
 (if (!t10) = true then g9f (g17g s 0) else some false) >>= fun r =>
 if (bif t10 then true else (!r)) = true then
 some false
 else
 g2q (s, (s.length : Int), 0) >>= fun o =>
 match o with
 | .inl o_1 =>
 some o_1
 | .inr o_2 =>
 some true
 else none
def gwh (F : Hs Un.D [.str] → Option (Hs Un.D [.bool])) : FSpec Un := ⟨147, [.c (.hole .str)], [], [.str], .c (.hole .bool), [], [.bool], F⟩
def gg8 : FSpec Un := gwh g33
theorem gnf : FSnd prog gg8 := FSnd.of fun h r hr => FAt.of_body (s := gg8) (fo := foS [gcf]) (lo := loL [(0, gmk)]) func147 g10j gyk (by kernel_rfl) (FoSnd.cons gy0 gkz FoSnd.nil) (LoOk.snd (LoOk.cons gsc LoOk.nil)) (Eq.trans (by kernel_rfl) hr)
def g3n (x_ : List Int × List (List UInt8) × List Int × Int × Int × List (List UInt8)) : Option ((Bool) ⊕ (List Int)) :=
 match x_ with
 | (l_2, names_1, t9, t10_1, t11, b) =>
 if decide (t11 < t10_1) = true then
 if inR t11 t9.length = true then
 some (t9.getD t11.toNat 0) >>= fun x0 =>
 some (bif decide (x0 < 1) then true else decide (1000 < x0)) >>= fun t21 =>
 some (decide (0 < t11)) >>= fun t24 =>
 some (subI .i64 t11 1) >>= fun t29 =>
 if (inR t29 l_2.length || (!((!t21) && t24))) = true then
 some (bif t21 then true else bif t24 then decide (x0 ≤ l_2.getD t29.toNat 0) else false) >>= fun t34 =>
 if (inR t11 names_1.length || (!(!t34))) = true then
 some (bif t34 then true else hasS b (names_1.getD t11.toNat [])) >>= fun t42 =>
 if (inR t11 names_1.length || (!(!t42))) = true then
 (if (!t42) = true then g33 (names_1.getD t11.toNat []) else some false) >>= fun r =>
 if (bif t42 then true else (!r)) = true then
 some (.inl false)
 else
 if inR t11 names_1.length = true then
 g3n (l_2, names_1, t9, t10_1, addI .i64 t11 1, addS b (names_1.getD t11.toNat []))
 else none
 else none
 else none
 else none
 else none
 else
 some (.inr l_2)
  partial_fixpoint
theorem gy2 : g16h prog 165 = true := by kernel_rfl
theorem g10k : f165.body.bind (Shv.resolve prog f165.ntmps) = some (g16e prog f165) := by kernel_rfl
theorem gyl : g16f prog f165.results.toList = some [.tmp 4] := by kernel_rfl
def gng : Shape := ⟨[(0, .c (.hole (.slice (.int .i64)))), (1, .c (.hole (.slice .str))), (5, .c (.mp 0)), (9, .c (.hole (.slice (.int .i64)))), (10, .c (.hole (.int .i64))), (11, .c (.hole (.int .i64)))], [.set]⟩
def ghu : List Ty := [.slice (.int .i64), .slice .str, .slice (.int .i64), .int .i64, .int .i64, .slice .str]
def gf1 : List OSpec := [⟨.ret, ⟨[(4, .c (.hole .bool))], []⟩, [], [.bool]⟩, ⟨.exit 0, ⟨[(0, .c (.hole (.slice (.int .i64))))], []⟩, [], [.slice (.int .i64)]⟩]
def gvo (F : Hs Un.D ghu → Option (OSum Un gf1)) : LSpec Un := ⟨gng, [], ghu, gf1, F⟩
def gp5 : LSpec Un := gvo g3n
theorem gu0 : LSnd prog f165.ntmps 0 (g16g (g16e prog f165) 0) gp5 := fun h o ho => g3n.partial_correctness (fun h o => LAt (U := Un) prog f165.ntmps 0 (g16g (g16e prog f165) 0) gng ghu gf1 h o) (fun F1 HF1 h o ho => LAt.of_round (fo := foS [gg8]) (lo := loL []) (own := []) (F' := F1) (FoSnd.cons gy1 gnf FoSnd.nil) (LoOk.snd LoOk.nil) HF1 (Eq.trans (by kernel_rfl) ho)) h o ho
def gg9 (x_ : List Int × List (List UInt8)) : Option (Bool) :=
 match x_ with
 | (l, names) =>
 g3n (l, names, l, (l.length : Int), 0, []) >>= fun o =>
 match o with
 | .inl o_1 =>
 some o_1
 | .inr o_2 =>
 some (decide ((o_2.length : Int) ≤ 16))
def gxf (F : Hs Un.D [.slice (.int .i64), .slice .str] → Option (Hs Un.D [.bool])) : FSpec Un := ⟨165, [.c (.hole (.slice (.int .i64))), .c (.hole (.slice .str))], [], [.slice (.int .i64), .slice .str], .c (.hole .bool), [], [.bool], F⟩
def gix : FSpec Un := gxf gg9
theorem gq8 : FSnd prog gix := FSnd.of fun h r hr => FAt.of_body (s := gix) (fo := foS []) (lo := loL [(0, gp5)]) func165 g10k gyl (by kernel_rfl) FoSnd.nil (LoOk.snd (LoOk.cons gu0 LoOk.nil)) (Eq.trans (by kernel_rfl) hr)
def g2i (x_ : List SSymbol × List SSymbol × Int × Int × List Int × List (List UInt8)) : Option (List SSymbol × List Int × List (List UInt8)) :=
 match x_ with
 | (l_2, t7, t8_1, t9, b_2, b_3) =>
 if decide (t9 < t8_1) = true then
 if inR t9 t7.length = true then
 some (t7.getD t9.toNat dSSymbol) >>= fun x0 =>
 some [x0.ID] >>= fun t16 =>
 if room 8 (b_2 ++ t16).length = true then
 some [x0.Name] >>= fun t21 =>
 if room 16 (b_3 ++ t21).length = true then
 g2i (l_2, t7, t8_1, addI .i64 t9 1, b_2 ++ t16, b_3 ++ t21)
 else none
 else none
 else none
 else
 some (l_2, b_2, b_3)
  partial_fixpoint
theorem g13s : g16h prog 148 = true := by kernel_rfl
theorem g10l : f148.body.bind (Shv.resolve prog f148.ntmps) = some (g16e prog f148) := by kernel_rfl
theorem gym : g16f prog f148.results.toList = some [.tmp 2] := by kernel_rfl
def giy : Shape := ⟨[(0, .c (.hole (.slice (.nm 2)))), (3, .c (.arr 0)), (4, .c (.arr 1)), (7, .c (.hole (.slice (.nm 2)))), (8, .c (.hole (.int .i64))), (9, .c (.hole (.int .i64)))], [.arr (.int .i64), .arr .str]⟩
def gch : List Ty := [.slice (.nm 2), .slice (.nm 2), .int .i64, .int .i64, .slice (.int .i64), .slice .str]
def gan : List OSpec := [⟨.exit 0, ⟨[(0, .c (.hole (.slice (.nm 2)))), (3, .c (.arr 0)), (4, .c (.arr 1))], [.arr (.int .i64), .arr .str]⟩, [], [.slice (.nm 2), .slice (.int .i64), .slice .str]⟩]
def gsd (F : Hs Un.D gch → Option (OSum Un gan)) : LSpec Un := ⟨giy, [(.slot 3, .int .i64), (.slot 4, .str)], gch, gan, F⟩
def gk6 : LSpec Un := gsd g2i
theorem gq9 : LSnd prog f148.ntmps 0 (g16g (g16e prog f148) 0) gk6 := fun h o ho => g2i.partial_correctness (fun h o => LAt (U := Un) prog f148.ntmps 0 (g16g (g16e prog f148) 0) giy gch gan h o) (fun F1 HF1 h o ho => LAt.of_round (fo := foS []) (lo := loL []) (own := [(.slot 3, .int .i64), (.slot 4, .str)]) (F' := F1) FoSnd.nil (LoOk.snd LoOk.nil) HF1 (Eq.trans (by kernel_rfl) ho)) h o ho
def g73 (l : List SSymbol) : Option (Bool) :=
 g2i (l, l, (l.length : Int), 0, [], []) >>= fun o =>
 some (decide (0 < (o.1.length : Int))) >>= fun t26 =>
 (if t26 = true then gg9 (o.2.1, o.2.2) else some false) >>= fun r =>
 some (bif t26 then r else false)
def gux (F : Hs Un.D [.slice (.nm 2)] → Option (Hs Un.D [.bool])) : FSpec Un := ⟨148, [.c (.hole (.slice (.nm 2)))], [], [.slice (.nm 2)], .c (.hole .bool), [], [.bool], F⟩
def ghv : FSpec Un := gux g73
theorem gt5 : FSnd prog ghv := FSnd.of fun h r hr => FAt.of_body (s := ghv) (fo := foS [gix]) (lo := loL [(0, gk6)]) func148 g10l gym (by kernel_rfl) (FoSnd.cons gy2 gq8 FoSnd.nil) (LoOk.snd (LoOk.cons gq9 LoOk.nil)) (Eq.trans (by kernel_rfl) hr)
def gf2 (v : SValue) : Option (Bool) :=
 g46 (SValue.eta v, (⟨0, false, 0, [], 0, [], [], []⟩ : SValue)) >>= fun r =>
 some r
theorem g13t : g16h prog 166 = true := by kernel_rfl
theorem g10m : f166.body.bind (Shv.resolve prog f166.ntmps) = some (g16e prog f166) := by kernel_rfl
theorem gyn : g16f prog f166.results.toList = some [.tmp 2] := by kernel_rfl
def gwi (F : Hs Un.D [.nm 4] → Option (Hs Un.D [.bool])) : FSpec Un := ⟨166, [.row 4], [], [.nm 4], .c (.hole .bool), [], [.bool], F⟩
def gkj : FSpec Un := gwi gf2
theorem guy : FSnd prog gkj := FSnd.of fun h r hr => FAt.of_body (s := gkj) (fo := foS [gad]) (lo := loL []) func166 g10m gyn (by kernel_rfl) (FoSnd.cons gxd gp4 FoSnd.nil) (LoOk.snd LoOk.nil) (Eq.trans (by kernel_rfl) hr)
def g24 (x_ : List SMember × Int × Int × SType × List Int × List (List UInt8)) : Option ((Bool) ⊕ (SType × List Int × List (List UInt8))) :=
 match x_ with
 | (t8, t9_1, t10, b_3, b_4, b_5) =>
 if decide (t10 < t9_1) = true then
 if inR t10 t8.length = true then
 some (t8.getD t10.toNat dSMember) >>= fun x0 =>
 some [x0.ID] >>= fun t17 =>
 if room 8 (b_4 ++ t17).length = true then
 some [x0.Name] >>= fun t22 =>
 if room 16 (b_5 ++ t22).length = true then
 some (bif bif decide (b_3.Kind = 6) then bif x0.Critical then true else x0.HasDefault else false then true else bif x0.Critical then x0.HasDefault else false) >>= fun t42 =>
 some (!x0.HasDefault) >>= fun t46 =>
 (if ((!t42) && t46) = true then gf2 (SValue.eta x0.Default) else some false) >>= fun r_1 =>
 if (bif t42 then true else bif t46 then (!r_1) else false) = true then
 some (.inl false)
 else
 g24 (t8, t9_1, addI .i64 t10 1, b_3, b_4 ++ t17, b_5 ++ t22)
 else none
 else none
 else none
 else
 some (.inr (b_3, b_4, b_5))
  partial_fixpoint
theorem g13u : g16h prog 149 = true := by kernel_rfl
theorem g10n : f149.body.bind (Shv.resolve prog f149.ntmps) = some (g16e prog f149) := by kernel_rfl
theorem gyo : g16f prog f149.results.toList = some [.tmp 2] := by kernel_rfl
def giz : Shape := ⟨[(1, .c (.ptr 0 0)), (3, .c (.arr 1)), (4, .c (.arr 2)), (8, .c (.hole (.slice (.nm 3)))), (9, .c (.hole (.int .i64))), (10, .c (.hole (.int .i64)))], [.brow 1, .arr (.int .i64), .arr .str]⟩
def gci : List Ty := [.slice (.nm 3), .int .i64, .int .i64, .nm 1, .slice (.int .i64), .slice .str]
def gao : List OSpec := [⟨.ret, ⟨[(2, .c (.hole .bool))], []⟩, [], [.bool]⟩, ⟨.exit 0, ⟨[(1, .c (.ptr 0 0)), (3, .c (.arr 1)), (4, .c (.arr 2))], [.brow 1, .arr (.int .i64), .arr .str]⟩, [], [.nm 1, .slice (.int .i64), .slice .str]⟩]
def gse (F : Hs Un.D gci → Option (OSum Un gao)) : LSpec Un := ⟨giz, [(.slot 3, .int .i64), (.slot 4, .str)], gci, gao, F⟩
def gk7 : LSpec Un := gse g24
theorem gqa : LSnd prog f149.ntmps 0 (g16g (g16e prog f149) 0) gk7 := fun h o ho => g24.partial_correctness (fun h o => LAt (U := Un) prog f149.ntmps 0 (g16g (g16e prog f149) 0) giz gci gao h o) (fun F1 HF1 h o ho => LAt.of_round (fo := foS [gkj]) (lo := loL []) (own := [(.slot 3, .int .i64), (.slot 4, .str)]) (F' := F1) (FoSnd.cons g13t guy FoSnd.nil) (LoOk.snd LoOk.nil) HF1 (Eq.trans (by kernel_rfl) ho)) h o ho
def g5m (t : SType) : Option (Bool) :=
 g24 (t.Members, (t.Members.length : Int), 0, t, [], []) >>= fun o =>
 match o with
 | .inl o_1 =>
 some o_1
 | .inr o_2 =>
 some (bif decide (o_2.1.Kind = 5) then true else decide (0 < (o_2.2.1.length : Int))) >>= fun t62 =>
 (if t62 = true then gg9 (o_2.2.1, o_2.2.2) else some false) >>= fun r =>
 some (bif t62 then r else false)
def guz (F : Hs Un.D [.nm 1] → Option (Hs Un.D [.bool])) : FSpec Un := ⟨149, [.row 1], [], [.nm 1], .c (.hole .bool), [], [.bool], F⟩
def ghw : FSpec Un := guz g5m
theorem gt6 : FSnd prog ghw := FSnd.of fun h r hr => FAt.of_body (s := ghw) (fo := foS [gix]) (lo := loL [(0, gk7)]) func149 g10n gyo (by kernel_rfl) (FoSnd.cons gy2 gq8 FoSnd.nil) (LoOk.snd (LoOk.cons gqa LoOk.nil)) (Eq.trans (by kernel_rfl) hr)
def g12 (t : SType) : Option (Bool) :=
 if decide (t.Kind = 1) = true then
 g1a ((⟨0, t.Name, t.Low, t.High, t.Max, t.Symbols, t.Members, t.Key, t.Elem, t.Open⟩ : SType), (⟨0, [], 0, 0, 0, [], [], 0, 0, false⟩ : SType)) >>= fun r =>
 some r
 else
 if decide (t.Kind = 2) = true then
 some (decide (t.Low ≤ t.High)) >>= fun t17 =>
 (if t17 = true then g1a ((⟨0, t.Name, 0, 0, t.Max, t.Symbols, t.Members, t.Key, t.Elem, t.Open⟩ : SType), (⟨0, [], 0, 0, 0, [], [], 0, 0, false⟩ : SType)) else some false) >>= fun r_1 =>
 some (bif t17 then r_1 else false)
 else
 if decide (t.Kind = 3) = true then
 some (bif decide (0 ≤ t.Max) then decide (t.Max ≤ 200) else false) >>= fun t29 =>
 (if t29 = true then g1a ((⟨0, t.Name, t.Low, t.High, 0, t.Symbols, t.Members, t.Key, t.Elem, t.Open⟩ : SType), (⟨0, [], 0, 0, 0, [], [], 0, 0, false⟩ : SType)) else some false) >>= fun r_2 =>
 some (bif t29 then r_2 else false)
 else
 if decide (t.Kind = 4) = true then
 g33 t.Name >>= fun r_3 =>
 (if r_3 = true then g73 t.Symbols else some false) >>= fun r_4 =>
 some (bif r_3 then r_4 else false) >>= fun t40 =>
 (if t40 = true then g1a ((⟨0, [], t.Low, t.High, t.Max, [], t.Members, t.Key, t.Elem, false⟩ : SType), (⟨0, [], 0, 0, 0, [], [], 0, 0, false⟩ : SType)) else some false) >>= fun r_5 =>
 some (bif t40 then r_5 else false)
 else
 some (decide (t.Kind = 5)) >>= fun t45 =>
 if t45 = true then
 if t45 = true then
 g33 t.Name >>= fun r_6 =>
 (if r_6 = true then g5m t else some false) >>= fun r_7 =>
 some (bif r_6 then r_7 else false) >>= fun t53 =>
 (if t53 = true then g1a ((⟨0, [], t.Low, t.High, t.Max, t.Symbols, [], t.Key, t.Elem, bif t.Open then decide (t.Kind = 5) else false⟩ : SType), (⟨0, [], 0, 0, 0, [], [], 0, 0, false⟩ : SType)) else some false) >>= fun r_8 =>
 some (bif t53 then r_8 else false)
 else
 some (decide (t.Kind = 7)) >>= fun t65 =>
 if t65 = true then
 if t65 = true then
 some (bif decide (0 ≤ t.Max) then decide (t.Max ≤ 50) else false) >>= fun t74 =>
 if decide (t.Kind = 8) = true then
 (if t74 = true then g1a ((⟨0, t.Name, t.Low, t.High, 0, t.Symbols, t.Members, 0, 0, t.Open⟩ : SType), (⟨0, [], 0, 0, 0, [], [], 0, 0, false⟩ : SType)) else some false) >>= fun r_9 =>
 some (bif t74 then r_9 else false)
 else
 (if t74 = true then g1a ((⟨0, t.Name, t.Low, t.High, 0, t.Symbols, t.Members, t.Key, 0, t.Open⟩ : SType), (⟨0, [], 0, 0, 0, [], [], 0, 0, false⟩ : SType)) else some false) >>= fun r_10 =>
 some (bif t74 then r_10 else false)
 else
 if decide (t.Kind = 9) = true then
 g1a ((⟨0, t.Name, t.Low, t.High, t.Max, t.Symbols, t.Members, t.Key, 0, t.Open⟩ : SType), (⟨0, [], 0, 0, 0, [], [], 0, 0, false⟩ : SType)) >>= fun r_11 =>
 some r_11
 else
 some false
 else
 if decide (t.Kind = 8) = true then
 some (bif decide (0 ≤ t.Max) then decide (t.Max ≤ 50) else false) >>= fun t74_1 =>
 if decide (t.Kind = 8) = true then
 (if t74_1 = true then g1a ((⟨0, t.Name, t.Low, t.High, 0, t.Symbols, t.Members, 0, 0, t.Open⟩ : SType), (⟨0, [], 0, 0, 0, [], [], 0, 0, false⟩ : SType)) else some false) >>= fun r_12 =>
 some (bif t74_1 then r_12 else false)
 else
 (if t74_1 = true then g1a ((⟨0, t.Name, t.Low, t.High, 0, t.Symbols, t.Members, t.Key, 0, t.Open⟩ : SType), (⟨0, [], 0, 0, 0, [], [], 0, 0, false⟩ : SType)) else some false) >>= fun r_13 =>
 some (bif t74_1 then r_13 else false)
 else
 if decide (t.Kind = 9) = true then
 g1a ((⟨0, t.Name, t.Low, t.High, t.Max, t.Symbols, t.Members, t.Key, 0, t.Open⟩ : SType), (⟨0, [], 0, 0, 0, [], [], 0, 0, false⟩ : SType)) >>= fun r_14 =>
 some r_14
 else
 some false
 else
 if decide (t.Kind = 6) = true then
 g33 t.Name >>= fun r_15 =>
 (if r_15 = true then g5m t else some false) >>= fun r_16 =>
 some (bif r_15 then r_16 else false) >>= fun t53_1 =>
 (if t53_1 = true then g1a ((⟨0, [], t.Low, t.High, t.Max, t.Symbols, [], t.Key, t.Elem, bif t.Open then decide (t.Kind = 5) else false⟩ : SType), (⟨0, [], 0, 0, 0, [], [], 0, 0, false⟩ : SType)) else some false) >>= fun r_17 =>
 some (bif t53_1 then r_17 else false)
 else
 some (decide (t.Kind = 7)) >>= fun t65_1 =>
 if t65_1 = true then
 if t65_1 = true then
 some (bif decide (0 ≤ t.Max) then decide (t.Max ≤ 50) else false) >>= fun t74_2 =>
 if decide (t.Kind = 8) = true then
 (if t74_2 = true then g1a ((⟨0, t.Name, t.Low, t.High, 0, t.Symbols, t.Members, 0, 0, t.Open⟩ : SType), (⟨0, [], 0, 0, 0, [], [], 0, 0, false⟩ : SType)) else some false) >>= fun r_18 =>
 some (bif t74_2 then r_18 else false)
 else
 (if t74_2 = true then g1a ((⟨0, t.Name, t.Low, t.High, 0, t.Symbols, t.Members, t.Key, 0, t.Open⟩ : SType), (⟨0, [], 0, 0, 0, [], [], 0, 0, false⟩ : SType)) else some false) >>= fun r_19 =>
 some (bif t74_2 then r_19 else false)
 else
 if decide (t.Kind = 9) = true then
 g1a ((⟨0, t.Name, t.Low, t.High, t.Max, t.Symbols, t.Members, t.Key, 0, t.Open⟩ : SType), (⟨0, [], 0, 0, 0, [], [], 0, 0, false⟩ : SType)) >>= fun r_20 =>
 some r_20
 else
 some false
 else
 if decide (t.Kind = 8) = true then
 some (bif decide (0 ≤ t.Max) then decide (t.Max ≤ 50) else false) >>= fun t74_3 =>
 if decide (t.Kind = 8) = true then
 (if t74_3 = true then g1a ((⟨0, t.Name, t.Low, t.High, 0, t.Symbols, t.Members, 0, 0, t.Open⟩ : SType), (⟨0, [], 0, 0, 0, [], [], 0, 0, false⟩ : SType)) else some false) >>= fun r_21 =>
 some (bif t74_3 then r_21 else false)
 else
 (if t74_3 = true then g1a ((⟨0, t.Name, t.Low, t.High, 0, t.Symbols, t.Members, t.Key, 0, t.Open⟩ : SType), (⟨0, [], 0, 0, 0, [], [], 0, 0, false⟩ : SType)) else some false) >>= fun r_22 =>
 some (bif t74_3 then r_22 else false)
 else
 if decide (t.Kind = 9) = true then
 g1a ((⟨0, t.Name, t.Low, t.High, t.Max, t.Symbols, t.Members, t.Key, 0, t.Open⟩ : SType), (⟨0, [], 0, 0, 0, [], [], 0, 0, false⟩ : SType)) >>= fun r_23 =>
 some r_23
 else
 some false
theorem g13v : g16h prog 120 = true := by kernel_rfl
theorem g10o : f120.body.bind (Shv.resolve prog f120.ntmps) = some (g16e prog f120) := by kernel_rfl
theorem gyp : g16f prog f120.results.toList = some [.tmp 2] := by kernel_rfl
def gwz (F : Hs Un.D [.nm 1] → Option (Hs Un.D [.bool])) : FSpec Un := ⟨120, [.row 1], [], [.nm 1], .c (.hole .bool), [], [.bool], F⟩
def gls : FSpec Un := gwz g12
theorem gvp : FSnd prog gls := FSnd.of fun h r hr => FAt.of_body (s := gls) (fo := foS [gki, gg8, ghv, ghw]) (lo := loL []) func120 g10o gyp (by kernel_rfl) (FoSnd.cons g13q guv (FoSnd.cons gy1 gnf (FoSnd.cons g13s gt5 (FoSnd.cons g13u gt6 FoSnd.nil)))) (LoOk.snd LoOk.nil) (Eq.trans (by kernel_rfl) hr)
def g3o (x_ : List SMember × Int × Int × SType × List Int) : Option (SType × List Int) :=
 match x_ with
 | (t7, t8_1, t9, b_2, b_3) =>
 if decide (t9 < t8_1) = true then
 if inR t9 t7.length = true then
 some [(t7.getD t9.toNat dSMember).Type_] >>= fun t16 =>
 if room 8 (b_3 ++ t16).length = true then
 g3o (t7, t8_1, addI .i64 t9 1, b_2, b_3 ++ t16)
 else none
 else none
 else
 some (b_2, b_3)
  partial_fixpoint
theorem g13w : g16h prog 121 = true := by kernel_rfl
theorem g10p : f121.body.bind (Shv.resolve prog f121.ntmps) = some (g16e prog f121) := by kernel_rfl
theorem gyq : g16f prog f121.results.toList = some [.tmp 2] := by kernel_rfl
def gml : Shape := ⟨[(1, .c (.ptr 0 0)), (3, .c (.arr 1)), (7, .c (.hole (.slice (.nm 3)))), (8, .c (.hole (.int .i64))), (9, .c (.hole (.int .i64)))], [.brow 1, .arr (.int .i64)]⟩
def ggp : List Ty := [.slice (.nm 3), .int .i64, .int .i64, .nm 1, .slice (.int .i64)]
def gdo : List OSpec := [⟨.exit 0, ⟨[(1, .c (.ptr 0 0)), (3, .c (.arr 1))], [.brow 1, .arr (.int .i64)]⟩, [], [.nm 1, .slice (.int .i64)]⟩]
def gv0 (F : Hs Un.D ggp → Option (OSum Un gdo)) : LSpec Un := ⟨gml, [(.slot 3, .int .i64)], ggp, gdo, F⟩
def gnh : LSpec Un := gv0 g3o
theorem gt7 : LSnd prog f121.ntmps 0 (g16g (g16e prog f121) 0) gnh := fun h o ho => g3o.partial_correctness (fun h o => LAt (U := Un) prog f121.ntmps 0 (g16g (g16e prog f121) 0) gml ggp gdo h o) (fun F1 HF1 h o ho => LAt.of_round (fo := foS []) (lo := loL []) (own := [(.slot 3, .int .i64)]) (F' := F1) FoSnd.nil (LoOk.snd LoOk.nil) HF1 (Eq.trans (by kernel_rfl) ho)) h o ho
def gh0 (t : SType) : Option (List Int) :=
 g3o (t.Members, (t.Members.length : Int), 0, t, []) >>= fun o =>
 if decide (o.1.Kind = 8) = true then
 some [o.1.Key] >>= fun t25 =>
 if room 8 (o.2 ++ t25).length = true then
 some (o.2 ++ t25) >>= fun l =>
 if decide (7 ≤ o.1.Kind) = true then
 some [o.1.Elem] >>= fun t33 =>
 if room 8 (l ++ t33).length = true then
 some (l ++ t33)
 else none
 else
 some l
 else none
 else
 if decide (7 ≤ o.1.Kind) = true then
 some [o.1.Elem] >>= fun t33_1 =>
 if room 8 (o.2 ++ t33_1).length = true then
 some (o.2 ++ t33_1)
 else none
 else
 some o.2
def gx0 (F : Hs Un.D [.nm 1] → Option (Hs Un.D [.slice (.int .i64)])) : FSpec Un := ⟨121, [.row 1], [], [.nm 1], .c (.hole (.slice (.int .i64))), [], [.slice (.int .i64)], F⟩
def glt : FSpec Un := gx0 gh0
theorem gvq : FSnd prog glt := FSnd.of fun h r hr => FAt.of_body (s := glt) (fo := foS []) (lo := loL [(0, gnh)]) func121 g10p gyq (by kernel_rfl) FoSnd.nil (LoOk.snd (LoOk.cons gt7 LoOk.nil)) (Eq.trans (by kernel_rfl) hr)
def g25 (x_ : List SType × Int × Int × List Int × Int × Int × List SType × List (List UInt8) × Int × List UInt8 × Int × Int × Int × List SSymbol × List SMember × Int × Int × Bool) : Option ((Int) ⊕ (List SType × Int × Int × List SType × List (List UInt8) × Int × List UInt8 × Int × Int × Int × List SSymbol × List SMember × Int × Int × Bool)) :=
 match x_ with
 | (t14_2, t15_3, t16_2, t38, t39_1, t40, b_14, b_15, b_16, b_17, b_18, b_19, b_20, b_21, b_22, b_23, b_24, b_25) =>
 if decide (t40 < t39_1) = true then
 if inR t40 t38.length = true then
 some (t38.getD t40.toNat 0) >>= fun x0_3 =>
 if (bif decide (x0_3 < 0) then true else decide ((b_14.length : Int) ≤ x0_3)) = true then
 some (.inl 4)
 else
 g25 (t14_2, t15_3, t16_2, t38, t39_1, addI .i64 t40 1, b_14, b_15, b_16, b_17, b_18, b_19, b_20, b_21, b_22, b_23, b_24, b_25)
 else none
 else
 some (.inr (t14_2, t15_3, t16_2, b_14, b_15, b_16, b_17, b_18, b_19, b_20, b_21, b_22, b_23, b_24, b_25))
  partial_fixpoint
theorem F79_b : g16h prog 79 = true := by kernel_rfl
theorem g13x : f79.body.bind (Shv.resolve prog f79.ntmps) = some (g16e prog f79) := by kernel_rfl
theorem g10q : g16f prog f79.results.toList = some [.tmp 2] := by kernel_rfl
def gj0 : Shape := ⟨[(1, .c (.ptr 0 0)), (3, .c (.mp 1)), (5, .c (.ptr 2 0)), (14, .c (.hole (.slice (.nm 1)))), (15, .c (.hole (.int .i64))), (16, .c (.hole (.int .i64))), (38, .c (.hole (.slice (.int .i64)))), (39, .c (.hole (.int .i64))), (40, .c (.hole (.int .i64)))], [.box [.hole (.slice (.nm 1))], .set, .box [.hole (.int .i64), .hole .str, .hole (.int .i64), .hole (.int .i64), .hole (.int .i64), .hole (.slice (.nm 2)), .hole (.slice (.nm 3)), .hole (.int .i64), .hole (.int .i64), .hole .bool]]⟩
def gcj : List Ty := [.slice (.nm 1), .int .i64, .int .i64, .slice (.int .i64), .int .i64, .int .i64, .slice (.nm 1), .slice .str, .int .i64, .str, .int .i64, .int .i64, .int .i64, .slice (.nm 2), .slice (.nm 3), .int .i64, .int .i64, .bool]
def gap : List OSpec := [⟨.ret, ⟨[(2, .c (.hole (.int .i64)))], []⟩, [], [.int .i64]⟩, ⟨.exit 2, ⟨[(1, .c (.ptr 0 0)), (3, .c (.mp 1)), (5, .c (.ptr 2 0)), (14, .c (.hole (.slice (.nm 1)))), (15, .c (.hole (.int .i64))), (16, .c (.hole (.int .i64)))], [.box [.hole (.slice (.nm 1))], .set, .box [.hole (.int .i64), .hole .str, .hole (.int .i64), .hole (.int .i64), .hole (.int .i64), .hole (.slice (.nm 2)), .hole (.slice (.nm 3)), .hole (.int .i64), .hole (.int .i64), .hole .bool]]⟩, [], [.slice (.nm 1), .int .i64, .int .i64, .slice (.nm 1), .slice .str, .int .i64, .str, .int .i64, .int .i64, .int .i64, .slice (.nm 2), .slice (.nm 3), .int .i64, .int .i64, .bool]⟩]
def gsf (F : Hs Un.D gcj → Option (OSum Un gap)) : LSpec Un := ⟨gj0, [], gcj, gap, F⟩
def gk8 : LSpec Un := gsf g25
theorem gqb : LSnd prog f79.ntmps 0 (g16g (g16g (g16e prog f79) 0) 0) gk8 := fun h o ho => g25.partial_correctness (fun h o => LAt (U := Un) prog f79.ntmps 0 (g16g (g16g (g16e prog f79) 0) 0) gj0 gcj gap h o) (fun F1 HF1 h o ho => LAt.of_round (fo := foS []) (lo := loL []) (own := []) (F' := F1) FoSnd.nil (LoOk.snd LoOk.nil) HF1 (Eq.trans (by kernel_rfl) ho)) h o ho
end
section
open Go Go.Proofs.YthnmepafpikaiaaGreat.Shv
open Tryz
set_option maxRecDepth 100000
def g34 (x_ : List SType × Int × Int × List SType × List (List UInt8)) : Option ((Int) ⊕ (Unit)) :=
 match x_ with
 | (t14, t15_1, t16, b, b_1) =>
 if decide (t16 < t15_1) = true then
 if inR t16 t14.length = true then
 some (t14.getD t16.toNat dSType) >>= fun x0 =>
 g12 x0 >>= fun r =>
 if (bif (!r) then true else bif (!(decide (x0.Name = []))) then hasS b_1 x0.Name else false) = true then
 some (.inl 1)
 else
 gh0 x0 >>= fun r_1 =>
 g25 (t14, t15_1, t16, r_1, (r_1.length : Int), 0, b, addS b_1 x0.Name, x0.Kind, x0.Name, x0.Low, x0.High, x0.Max, x0.Symbols, x0.Members, x0.Key, x0.Elem, x0.Open) >>= fun o_3 =>
 match o_3 with
 | .inl o_4 =>
 some (.inl o_4)
 | .inr o_5 =>
 some (decide (o_5.2.2.2.2.2.1 = 8)) >>= fun t56 =>
 if (inR o_5.2.2.2.2.2.2.2.2.2.2.2.2.1 o_5.2.2.2.1.length || (!t56)) = true then
 some (decide ((o_5.2.2.2.1.getD o_5.2.2.2.2.2.2.2.2.2.2.2.2.1.toNat dSType).Kind < 1)) >>= fun t65 =>
 if (inR o_5.2.2.2.2.2.2.2.2.2.2.2.2.1 o_5.2.2.2.1.length || (!(t56 && (!t65)))) = true then
 if (bif t56 then bif t65 then true else decide (4 < (o_5.2.2.2.1.getD o_5.2.2.2.2.2.2.2.2.2.2.2.2.1.toNat dSType).Kind) else false) = true then
 some (.inl 1)
 else
 g34 (o_5.1, o_5.2.1, addI .i64 o_5.2.2.1 1, o_5.2.2.2.1, o_5.2.2.2.2.1)
 else none
 else none
 else none
 else
 some (.inr ())
  partial_fixpoint
def gl1 : Shape := ⟨[(1, .c (.ptr 0 0)), (3, .c (.mp 1)), (14, .c (.hole (.slice (.nm 1)))), (15, .c (.hole (.int .i64))), (16, .c (.hole (.int .i64)))], [.box [.hole (.slice (.nm 1))], .set]⟩
def gf3 : List Ty := [.slice (.nm 1), .int .i64, .int .i64, .slice (.nm 1), .slice .str]
def gck : List OSpec := [⟨.ret, ⟨[(2, .c (.hole (.int .i64)))], []⟩, [], [.int .i64]⟩, ⟨.exit 0, ⟨[], []⟩, [], []⟩]
def gu1 (F : Hs Un.D gf3 → Option (OSum Un gck)) : LSpec Un := ⟨gl1, [], gf3, gck, F⟩
def gmm : LSpec Un := gu1 g34
theorem gsg : LSnd prog f79.ntmps 0 (g16g (g16e prog f79) 0) gmm := fun h o ho => g34.partial_correctness (fun h o => LAt (U := Un) prog f79.ntmps 0 (g16g (g16e prog f79) 0) gl1 gf3 gck h o) (fun F1 HF1 h o ho => LAt.of_round (fo := foS [gls, glt]) (lo := loL [(0, gk8)]) (own := []) (F' := F1) (FoSnd.cons g13v gvp (FoSnd.cons g13w gvq FoSnd.nil)) (LoOk.snd (LoOk.cons gqb LoOk.nil)) HF1 (Eq.trans (by kernel_rfl) ho)) h o ho
def gf4 (s : SSchema) : Option (Int) :=
 if decide (32 < (s.Types.length : Int)) = true then
 some 3
 else
 g34 (s.Types, (s.Types.length : Int), 0, s.Types, []) >>= fun o =>
 match o with
 | .inl o_1 =>
 some o_1
 | .inr o_2 =>
 some 0
def gwj (F : Hs Un.D [.nm 0] → Option (Hs Un.D [.int .i64])) : FSpec Un := ⟨79, [.row 0], [], [.nm 0], .c (.hole (.int .i64)), [], [.int .i64], F⟩
def gkk : FSpec Un := gwj gf4
theorem gv1 : FSnd prog gkk := FSnd.of fun h r hr => FAt.of_body (s := gkk) (fo := foS []) (lo := loL [(0, gmm)]) func79 g13x g10q (by kernel_rfl) FoSnd.nil (LoOk.snd (LoOk.cons gsg LoOk.nil)) (Eq.trans (by kernel_rfl) hr)
def gbe (x_ : SSchema × Int) : Option (Int) :=
 match x_ with
 | (s, t) =>
 gf4 (⟨s.Types⟩ : SSchema) >>= fun r =>
 if (!(decide (r = 0))) = true then
 some r
 else
 if (bif decide (t < 0) then true else decide ((s.Types.length : Int) ≤ t)) = true then
 some 4
 else
 some 0
theorem F52_b : g16h prog 52 = true := by kernel_rfl
theorem g13y : f52.body.bind (Shv.resolve prog f52.ntmps) = some (g16e prog f52) := by kernel_rfl
theorem g10r : g16f prog f52.results.toList = some [.tmp 4] := by kernel_rfl
def gv2 (F : Hs Un.D [.nm 0, .int .i64] → Option (Hs Un.D [.int .i64])) : FSpec Un := ⟨52, [.row 0, .c (.hole (.int .i64))], [], [.nm 0, .int .i64], .c (.hole (.int .i64)), [], [.int .i64], F⟩
def gcl : FSpec Un := gv2 gbe
theorem gl3 : FSnd prog gcl := FSnd.of fun h r hr => FAt.of_body (s := gcl) (fo := foS [gkk]) (lo := loL []) func52 g13y g10r (by kernel_rfl) (FoSnd.cons F79_b gv1 FoSnd.nil) (LoOk.snd LoOk.nil) (Eq.trans (by kernel_rfl) hr)
def gj1 (v : SValue) : Option (SValue) :=
 if decide (v.Kind = 1) = true then
 some (⟨v.Kind, v.Bool_, 0, [], 0, [], [], []⟩ : SValue)
 else
 if decide (v.Kind = 2) = true then
 some (⟨v.Kind, false, v.Int_, [], 0, [], [], []⟩ : SValue)
 else
 if decide (v.Kind = 3) = true then
 some (⟨v.Kind, false, 0, v.Str, 0, [], [], []⟩ : SValue)
 else
 if decide (v.Kind = 4) = true then
 some (⟨v.Kind, false, 0, [], v.ID, [], [], []⟩ : SValue)
 else
 if decide (v.Kind = 5) = true then
 some (⟨v.Kind, false, 0, [], 0, [], v.Items, v.Rest⟩ : SValue)
 else
 if decide (v.Kind = 6) = true then
 some (⟨v.Kind, false, 0, [], v.ID, [], v.Items, v.Rest⟩ : SValue)
 else
 if decide (v.Kind = 8) = true then
 some (⟨v.Kind, false, 0, [], 0, v.Keys, v.Items, []⟩ : SValue)
 else
 some (decide (v.Kind = 7)) >>= fun t57 =>
 if t57 = true then
 if t57 = true then
 some (⟨v.Kind, false, 0, [], 0, [], v.Items, []⟩ : SValue)
 else
 some (⟨v.Kind, false, 0, [], 0, [], [], []⟩ : SValue)
 else
 if decide (v.Kind = 9) = true then
 some (⟨v.Kind, false, 0, [], 0, [], v.Items, []⟩ : SValue)
 else
 some (⟨v.Kind, false, 0, [], 0, [], [], []⟩ : SValue)
theorem g13z : g16h prog 171 = true := by kernel_rfl
theorem g10s : f171.body.bind (Shv.resolve prog f171.ntmps) = some (g16e prog f171) := by kernel_rfl
theorem gyr : g16f prog f171.results.toList = some [.cell 2 true 8] := by kernel_rfl
def gxg (F : Hs Un.D [.nm 4] → Option (Hs Un.D [.nm 4])) : FSpec Un := ⟨171, [.row 4], [], [.nm 4], .row 4, [], [.nm 4], F⟩
def gni : FSpec Un := gxg gj1
theorem gwk : FSnd prog gni := FSnd.of fun h r hr => FAt.of_body (s := gni) (fo := foS []) (lo := loL []) func171 g10s gyr (by kernel_rfl) FoSnd.nil (LoOk.snd LoOk.nil) (Eq.trans (by kernel_rfl) hr)
def gf5 (v : SValue) : Option (Bool) :=
 gj1 (SValue.eta v) >>= fun r =>
 some (bif bif bif bif bif bif eqB v.Bool_ r.Bool_ then decide (v.Int_ = r.Int_) else false then decide (v.Str = r.Str) else false then decide (v.ID = r.ID) else false then decide ((v.Keys.length : Int) = (r.Keys.length : Int)) else false then decide ((v.Items.length : Int) = (r.Items.length : Int)) else false then decide ((v.Rest.length : Int) = (r.Rest.length : Int)) else false)
theorem g140 : g16h prog 155 = true := by kernel_rfl
theorem g10t : f155.body.bind (Shv.resolve prog f155.ntmps) = some (g16e prog f155) := by kernel_rfl
theorem gys : g16f prog f155.results.toList = some [.tmp 2] := by kernel_rfl
def gwl (F : Hs Un.D [.nm 4] → Option (Hs Un.D [.bool])) : FSpec Un := ⟨155, [.row 4], [], [.nm 4], .c (.hole .bool), [], [.bool], F⟩
def gkl : FSpec Un := gwl gf5
theorem gv3 : FSnd prog gkl := FSnd.of fun h r hr => FAt.of_body (s := gkl) (fo := foS [gni]) (lo := loL []) func155 g10t gys (by kernel_rfl) (FoSnd.cons g13z gwk FoSnd.nil) (LoOk.snd LoOk.nil) (Eq.trans (by kernel_rfl) hr)
def ge3 (x_ : SSymbol × Int) : Option (Bool × Int) :=
 match x_ with
 | (x0, b) =>
 some (decide (x0.ID = b), b)
theorem g141 : g16h prog 153 = true := by kernel_rfl
theorem g10u : f153.body.bind (Shv.resolve prog f153.ntmps) = some (g16e prog f153) := by kernel_rfl
theorem gyt : g16f prog f153.results.toList = some [.tmp 3] := by kernel_rfl
def gu2 (F : Hs Un.D [.nm 2, .int .i64] → Option (Hs Un.D [.bool, .int .i64])) : FSpec Un := ⟨153, [.row 2, .c (.ptr 0 0)], [.box [.hole (.int .i64)]], [.nm 2, .int .i64], .c (.hole .bool), [.box [.hole (.int .i64)]], [.bool, .int .i64], F⟩
def ggq : FSpec Un := gu2 ge3
theorem gsh : FSnd prog ggq := FSnd.of fun h r hr => FAt.of_body (s := ggq) (fo := foS []) (lo := loL []) func153 g10u gyt (by kernel_rfl) FoSnd.nil (LoOk.snd LoOk.nil) (Eq.trans (by kernel_rfl) hr)
def gc (x_ : List SSymbol × Int × Int × Int) : Option ((Int × Int) ⊕ (Int)) :=
 match x_ with
 | (s_1, t7_1, t8, b_3) =>
 if decide (t8 < t7_1) = true then
 if inR t8 s_1.length = true then
 ge3 (s_1.getD t8.toNat dSSymbol, b_3) >>= fun r =>
 if r.1 = true then
 some (.inl (t8, r.2))
 else
 gc (s_1, t7_1, addI .i64 t8 1, r.2)
 else none
 else
 some (.inr b_3)
  partial_fixpoint
theorem g142 : g16h prog 152 = true := by kernel_rfl
theorem g10v : f152.body.bind (Shv.resolve prog f152.ntmps) = some (g16e prog f152) := by kernel_rfl
theorem gyu : g16f prog f152.results.toList = some [.tmp 4] := by kernel_rfl
def g5e : Shape := ⟨[(0, .c (.hole (.slice (.nm 2)))), (1, .c (.fn 153 [0])), (7, .c (.hole (.int .i64))), (8, .c (.hole (.int .i64)))], [.box [.hole (.int .i64)]]⟩
def g3f : List Ty := [.slice (.nm 2), .int .i64, .int .i64, .int .i64]
def g35 : List OSpec := [⟨.ret, ⟨[(4, .c (.hole (.int .i64)))], [.box [.hole (.int .i64)]]⟩, [], [.int .i64, .int .i64]⟩, ⟨.exit 0, ⟨[], [.box [.hole (.int .i64)]]⟩, [], [.int .i64]⟩]
def gbf (F : Hs Un.D g3f → Option (OSum Un g35)) : LSpec Un := ⟨g5e, [], g3f, g35, F⟩
def g5n : LSpec Un := gbf gc
theorem gaq : LSnd prog f152.ntmps 1 (g16g (g16e prog f152) 0) g5n := fun h o ho => gc.partial_correctness (fun h o => LAt (U := Un) prog f152.ntmps 1 (g16g (g16e prog f152) 0) g5e g3f g35 h o) (fun F1 HF1 h o ho => LAt.of_round (fo := foS [ggq]) (lo := loL []) (own := []) (F' := F1) (FoSnd.cons g141 gsh FoSnd.nil) (LoOk.snd LoOk.nil) HF1 (Eq.trans (by kernel_rfl) ho)) h o ho
def g2y (x_ : List SSymbol × Int) : Option (Int × Int) :=
 match x_ with
 | (s, b) =>
 gc (s, (s.length : Int), 0, b) >>= fun o =>
 match o with
 | .inl o_1 =>
 some (o_1.1, o_1.2)
 | .inr o_2 =>
 some ((-1), o_2)
def gd1 (F : Hs Un.D [.slice (.nm 2), .int .i64] → Option (Hs Un.D [.int .i64, .int .i64])) : FSpec Un := ⟨152, [.c (.hole (.slice (.nm 2))), .c (.fn 153 [0])], [.box [.hole (.int .i64)]], [.slice (.nm 2), .int .i64], .c (.hole (.int .i64)), [.box [.hole (.int .i64)]], [.int .i64, .int .i64], F⟩
def g42 : FSpec Un := gd1 g2y
theorem gc4 : FSnd prog g42 := FSnd.of fun h r hr => FAt.of_body (s := g42) (fo := foS []) (lo := loL [(0, g5n)]) func152 g10v gyu (by kernel_rfl) FoSnd.nil (LoOk.snd (LoOk.cons gaq LoOk.nil)) (Eq.trans (by kernel_rfl) hr)
def gae (x_ : SType × Int) : Option (Int × Bool) :=
 match x_ with
 | (t, id) =>
 g2y (t.Symbols, id) >>= fun r =>
 some (maxI r.1 0, decide (0 ≤ r.1))
theorem gy3 : g16h prog 129 = true := by kernel_rfl
theorem g10w : f129.body.bind (Shv.resolve prog f129.ntmps) = some (g16e prog f129) := by kernel_rfl
theorem gyv : g16f prog f129.results.toList = some [.tmp 4, .tmp 5] := by kernel_rfl
def gvr (F : Hs Un.D [.nm 1, .int .i64] → Option (Hs Un.D [.int .i64, .bool])) : FSpec Un := ⟨129, [.row 1, .c (.hole (.int .i64))], [], [.nm 1, .int .i64], .tup [.c (.hole (.int .i64)), .c (.hole .bool)], [], [.int .i64, .bool], F⟩
def ge4 : FSpec Un := gvr gae
theorem gmn : FSnd prog ge4 := FSnd.of fun h r hr => FAt.of_body (s := ge4) (fo := foS [g42]) (lo := loL []) func129 g10w gyv (by kernel_rfl) (FoSnd.cons g142 gc4 FoSnd.nil) (LoOk.snd LoOk.nil) (Eq.trans (by kernel_rfl) hr)
def gga (id : Int) : Option (Bool) :=
 some (bif decide (1 ≤ id) then decide (id ≤ 1000) else false)
theorem gy4 : g16h prog 156 = true := by kernel_rfl
theorem g10x : f156.body.bind (Shv.resolve prog f156.ntmps) = some (g16e prog f156) := by kernel_rfl
theorem gyw : g16f prog f156.results.toList = some [.tmp 2] := by kernel_rfl
def gxh (F : Hs Un.D [.int .i64] → Option (Hs Un.D [.bool])) : FSpec Un := ⟨156, [.c (.hole (.int .i64))], [], [.int .i64], .c (.hole .bool), [], [.bool], F⟩
def gj2 : FSpec Un := gxh gga
theorem gqc : FSnd prog gj2 := FSnd.of fun h r hr => FAt.of_body (s := gj2) (fo := foS []) (lo := loL []) func156 g10x gyw (by kernel_rfl) FoSnd.nil (LoOk.snd LoOk.nil) (Eq.trans (by kernel_rfl) hr)
def ge5 (x_ : SMember × Int) : Option (Bool × Int) :=
 match x_ with
 | (m, b) =>
 some (decide (m.ID = b), b)
theorem g143 : g16h prog 126 = true := by kernel_rfl
theorem g10y : f126.body.bind (Shv.resolve prog f126.ntmps) = some (g16e prog f126) := by kernel_rfl
theorem gyx : g16f prog f126.results.toList = some [.tmp 3] := by kernel_rfl
def gu3 (F : Hs Un.D [.nm 3, .int .i64] → Option (Hs Un.D [.bool, .int .i64])) : FSpec Un := ⟨126, [.row 3, .c (.ptr 0 0)], [.box [.hole (.int .i64)]], [.nm 3, .int .i64], .c (.hole .bool), [.box [.hole (.int .i64)]], [.bool, .int .i64], F⟩
def ggr : FSpec Un := gu3 ge5
theorem gsi : FSnd prog ggr := FSnd.of fun h r hr => FAt.of_body (s := ggr) (fo := foS []) (lo := loL []) func126 g10y gyx (by kernel_rfl) FoSnd.nil (LoOk.snd LoOk.nil) (Eq.trans (by kernel_rfl) hr)
def gg (x_ : List SMember × Int × Int × Int) : Option ((Int × Int) ⊕ (Int)) :=
 match x_ with
 | (s_1, t7_1, t8, b_3) =>
 if decide (t8 < t7_1) = true then
 if inR t8 s_1.length = true then
 some (s_1.getD t8.toNat dSMember) >>= fun x0 =>
 ge5 ((⟨x0.ID, x0.Name, x0.Type_, x0.Critical, x0.HasDefault, SValue.eta x0.Default⟩ : SMember), b_3) >>= fun r =>
 if r.1 = true then
 some (.inl (t8, r.2))
 else
 gg (s_1, t7_1, addI .i64 t8 1, r.2)
 else none
 else
 some (.inr b_3)
  partial_fixpoint
theorem g144 : g16h prog 125 = true := by kernel_rfl
theorem g10z : f125.body.bind (Shv.resolve prog f125.ntmps) = some (g16e prog f125) := by kernel_rfl
theorem gyy : g16f prog f125.results.toList = some [.tmp 4] := by kernel_rfl
def g5f : Shape := ⟨[(0, .c (.hole (.slice (.nm 3)))), (1, .c (.fn 126 [0])), (7, .c (.hole (.int .i64))), (8, .c (.hole (.int .i64)))], [.box [.hole (.int .i64)]]⟩
def g3g : List Ty := [.slice (.nm 3), .int .i64, .int .i64, .int .i64]
def g36 : List OSpec := [⟨.ret, ⟨[(4, .c (.hole (.int .i64)))], [.box [.hole (.int .i64)]]⟩, [], [.int .i64, .int .i64]⟩, ⟨.exit 0, ⟨[], [.box [.hole (.int .i64)]]⟩, [], [.int .i64]⟩]
def gbg (F : Hs Un.D g3g → Option (OSum Un g36)) : LSpec Un := ⟨g5f, [], g3g, g36, F⟩
def g5o : LSpec Un := gbg gg
theorem gar : LSnd prog f125.ntmps 1 (g16g (g16e prog f125) 0) g5o := fun h o ho => gg.partial_correctness (fun h o => LAt (U := Un) prog f125.ntmps 1 (g16g (g16e prog f125) 0) g5f g3g g36 h o) (fun F1 HF1 h o ho => LAt.of_round (fo := foS [ggr]) (lo := loL []) (own := []) (F' := F1) (FoSnd.cons g143 gsi FoSnd.nil) (LoOk.snd LoOk.nil) HF1 (Eq.trans (by kernel_rfl) ho)) h o ho
def g2z (x_ : List SMember × Int) : Option (Int × Int) :=
 match x_ with
 | (s, b) =>
 gg (s, (s.length : Int), 0, b) >>= fun o =>
 match o with
 | .inl o_1 =>
 some (o_1.1, o_1.2)
 | .inr o_2 =>
 some ((-1), o_2)
def gd2 (F : Hs Un.D [.slice (.nm 3), .int .i64] → Option (Hs Un.D [.int .i64, .int .i64])) : FSpec Un := ⟨125, [.c (.hole (.slice (.nm 3))), .c (.fn 126 [0])], [.box [.hole (.int .i64)]], [.slice (.nm 3), .int .i64], .c (.hole (.int .i64)), [.box [.hole (.int .i64)]], [.int .i64, .int .i64], F⟩
def g43 : FSpec Un := gd2 g2z
theorem gc5 : FSnd prog g43 := FSnd.of fun h r hr => FAt.of_body (s := g43) (fo := foS []) (lo := loL [(0, g5o)]) func125 g10z gyy (by kernel_rfl) FoSnd.nil (LoOk.snd (LoOk.cons gar LoOk.nil)) (Eq.trans (by kernel_rfl) hr)
def g2e (x_ : SType × Int) : Option (Int × Bool) :=
 match x_ with
 | (t, id) =>
 g2z (t.Members, id) >>= fun r =>
 some (maxI r.1 0, decide (0 ≤ r.1))
theorem F82_b : g16h prog 82 = true := by kernel_rfl
theorem g145 : f82.body.bind (Shv.resolve prog f82.ntmps) = some (g16e prog f82) := by kernel_rfl
theorem g110 : g16f prog f82.results.toList = some [.tmp 4, .tmp 5] := by kernel_rfl
def gvs (F : Hs Un.D [.nm 1, .int .i64] → Option (Hs Un.D [.int .i64, .bool])) : FSpec Un := ⟨82, [.row 1, .c (.hole (.int .i64))], [], [.nm 1, .int .i64], .tup [.c (.hole (.int .i64)), .c (.hole .bool)], [], [.int .i64, .bool], F⟩
def g68 : FSpec Un := gvs g2e
theorem g8l : FSnd prog g68 := FSnd.of fun h r hr => FAt.of_body (s := g68) (fo := foS [g43]) (lo := loL []) func82 g145 g110 (by kernel_rfl) (FoSnd.cons g144 gc5 FoSnd.nil) (LoOk.snd LoOk.nil) (Eq.trans (by kernel_rfl) hr)
end
section
open Go Go.Proofs.YthnmepafpikaiaaGreat.Shv
open Tryz
set_option maxRecDepth 100000
def g26 (x_ : Bool × List SRaw × Int × Int × List SType × SValue × Int × List UInt8 × Int × Int × Int × List SSymbol × List SMember × Int × Int × Bool) : Option ((Bool) ⊕ (Bool × List SType × Int × Bool × Int × List UInt8 × Int × List SValue × List SValue × List SRaw × Int × List UInt8 × Int × Int × Int × List SSymbol × List SMember × Int × Int × Bool)) :=
 match x_ with
 | (plain_3, t111, t112_1, t113, b_31, b_32, b_33, b_34, b_35, b_36, b_37, b_38, b_39, b_40, b_41, b_42) =>
 if decide (t113 < t112_1) = true then
 if inR t113 t111.length = true then
 some (t111.getD t113.toNat dSRaw) >>= fun x0_4 =>
 g2e ((⟨b_33, b_34, b_35, b_36, b_37, b_38, b_39, b_40, b_41, b_42⟩ : SType), x0_4.ID) >>= fun r_14 =>
 (if (!r_14.2) = true then gga x0_4.ID else some false) >>= fun r_17 =>
 some (bif r_14.2 then true else (!r_17)) >>= fun t131 =>
 some (decide (0 < t113)) >>= fun t134 =>
 some (subI .i64 t113 1) >>= fun t141 =>
 if (inR t141 b_32.Rest.length || (!((!t131) && t134))) = true then
 if (bif t131 then true else bif t134 then decide (x0_4.ID ≤ (b_32.Rest.getD t141.toNat dSRaw).ID) else false) = true then
 some (.inl false)
 else
 g26 (plain_3, t111, t112_1, addI .i64 t113 1, b_31, SValue.eta b_32, b_33, b_34, b_35, b_36, b_37, b_38, b_39, b_40, b_41, b_42)
 else none
 else none
 else
 some (.inr (plain_3, b_31, b_32.Kind, b_32.Bool_, b_32.Int_, b_32.Str, b_32.ID, b_32.Keys, b_32.Items, b_32.Rest, b_33, b_34, b_35, b_36, b_37, b_38, b_39, b_40, b_41, b_42))
  partial_fixpoint
theorem gvt : g16h prog 132 = true := by kernel_rfl
theorem g111 : f132.body.bind (Shv.resolve prog f132.ntmps) = some (g16e prog f132) := by kernel_rfl
theorem gyz : g16f prog f132.results.toList = some [.tmp 8] := by kernel_rfl
def gnj : Shape := ⟨[(3, .c (.hole .bool)), (4, .c (.ptr 0 0)), (6, .c (.ptr 1 0)), (9, .c (.ptr 2 0)), (111, .c (.hole (.slice (.nm 5)))), (112, .c (.hole (.int .i64))), (113, .c (.hole (.int .i64)))], [.box [.hole (.slice (.nm 1))], .brow 4, .box [.hole (.int .i64), .hole .str, .hole (.int .i64), .hole (.int .i64), .hole (.int .i64), .hole (.slice (.nm 2)), .hole (.slice (.nm 3)), .hole (.int .i64), .hole (.int .i64), .hole .bool]]⟩
def ghx : List Ty := [.bool, .slice (.nm 5), .int .i64, .int .i64, .slice (.nm 1), .nm 4, .int .i64, .str, .int .i64, .int .i64, .int .i64, .slice (.nm 2), .slice (.nm 3), .int .i64, .int .i64, .bool]
def gf6 : List OSpec := [⟨.ret, ⟨[(8, .c (.hole .bool))], []⟩, [], [.bool]⟩, ⟨.exit 1, ⟨[(3, .c (.hole .bool)), (4, .c (.ptr 0 0)), (6, .c (.ptr 1 0)), (9, .c (.ptr 2 0))], [.box [.hole (.slice (.nm 1))], .box [.hole (.int .i64), .hole .bool, .hole (.int .i64), .hole .str, .hole (.int .i64), .hole (.slice (.nm 4)), .hole (.slice (.nm 4)), .hole (.slice (.nm 5))], .box [.hole (.int .i64), .hole .str, .hole (.int .i64), .hole (.int .i64), .hole (.int .i64), .hole (.slice (.nm 2)), .hole (.slice (.nm 3)), .hole (.int .i64), .hole (.int .i64), .hole .bool]]⟩, [], [.bool, .slice (.nm 1), .int .i64, .bool, .int .i64, .str, .int .i64, .slice (.nm 4), .slice (.nm 4), .slice (.nm 5), .int .i64, .str, .int .i64, .int .i64, .int .i64, .slice (.nm 2), .slice (.nm 3), .int .i64, .int .i64, .bool]⟩]
def gvu (F : Hs Un.D ghx → Option (OSum Un gf6)) : LSpec Un := ⟨gnj, [], ghx, gf6, F⟩
def gp6 : LSpec Un := gvu g26
theorem gu4 : LSnd prog f132.ntmps 0 (g16g (g16e prog f132) 0) gp6 := fun h o ho => g26.partial_correctness (fun h o => LAt (U := Un) prog f132.ntmps 0 (g16g (g16e prog f132) 0) gnj ghx gf6 h o) (fun F1 HF1 h o ho => LAt.of_round (fo := foS [g68, gj2]) (lo := loL []) (own := []) (F' := F1) (FoSnd.cons F82_b g8l (FoSnd.cons gy4 gqc FoSnd.nil)) (LoOk.snd LoOk.nil) HF1 (Eq.trans (by kernel_rfl) ho)) h o ho
def gl4 (x0 : Int) : Option (Bool) :=
 some (!(decide (x0 = x0)))
theorem g146 : g16h prog 190 = true := by kernel_rfl
theorem g112 : f190.body.bind (Shv.resolve prog f190.ntmps) = some (g16e prog f190) := by kernel_rfl
theorem gz0 : g16f prog f190.results.toList = some [.tmp 2] := by kernel_rfl
def gxt (F : Hs Un.D [.int .u64] → Option (Hs Un.D [.bool])) : FSpec Un := ⟨190, [.c (.hole (.int .u64))], [], [.int .u64], .c (.hole .bool), [], [.bool], F⟩
def gpq : FSpec Un := gxt gl4
theorem gx1 : FSnd prog gpq := FSnd.of fun h r hr => FAt.of_body (s := gpq) (fo := foS []) (lo := loL []) func190 g112 gz0 (by kernel_rfl) FoSnd.nil (LoOk.snd LoOk.nil) (Eq.trans (by kernel_rfl) hr)
def gh1 (x_ : Int × Int) : Option (Int) :=
 match x_ with
 | (x0, y) =>
 gl4 x0 >>= fun r =>
 gl4 y >>= fun r_1 =>
 if r = true then
 if r_1 = true then
 some 0
 else
 some (-1)
 else
 if r_1 = true then
 some 1
 else
 if decide (x0 < y) = true then
 some (-1)
 else
 if decide (y < x0) = true then
 some 1
 else
 some 0
theorem g147 : g16h prog 174 = true := by kernel_rfl
theorem g113 : f174.body.bind (Shv.resolve prog f174.ntmps) = some (g16e prog f174) := by kernel_rfl
theorem gz1 : g16f prog f174.results.toList = some [.tmp 4] := by kernel_rfl
def gx2 (F : Hs Un.D [.int .u64, .int .u64] → Option (Hs Un.D [.int .i64])) : FSpec Un := ⟨174, [.c (.hole (.int .u64)), .c (.hole (.int .u64))], [], [.int .u64, .int .u64], .c (.hole (.int .i64)), [], [.int .i64], F⟩
def glu : FSpec Un := gx2 gh1
theorem gvv : FSnd prog glu := FSnd.of fun h r hr => FAt.of_body (s := glu) (fo := foS [gpq]) (lo := loL []) func174 g113 gz1 (by kernel_rfl) (FoSnd.cons g146 gx1 FoSnd.nil) (LoOk.snd LoOk.nil) (Eq.trans (by kernel_rfl) hr)
def gh2 (x0 : Int) : Option (Bool) :=
 some (!(decide (x0 = x0)))
theorem g148 : g16h prog 162 = true := by kernel_rfl
theorem g114 : f162.body.bind (Shv.resolve prog f162.ntmps) = some (g16e prog f162) := by kernel_rfl
theorem gz2 : g16f prog f162.results.toList = some [.tmp 2] := by kernel_rfl
def gx3 (F : Hs Un.D [.int .i64] → Option (Hs Un.D [.bool])) : FSpec Un := ⟨162, [.c (.hole (.int .i64))], [], [.int .i64], .c (.hole .bool), [], [.bool], F⟩
def glv : FSpec Un := gx3 gh2
theorem gvw : FSnd prog glv := FSnd.of fun h r hr => FAt.of_body (s := glv) (fo := foS []) (lo := loL []) func162 g114 gz2 (by kernel_rfl) FoSnd.nil (LoOk.snd LoOk.nil) (Eq.trans (by kernel_rfl) hr)
def gaf (x_ : Int × Int) : Option (Int) :=
 match x_ with
 | (x0, y) =>
 gh2 x0 >>= fun r =>
 gh2 y >>= fun r_1 =>
 if r = true then
 if r_1 = true then
 some 0
 else
 some (-1)
 else
 if r_1 = true then
 some 1
 else
 if decide (x0 < y) = true then
 some (-1)
 else
 if decide (y < x0) = true then
 some 1
 else
 some 0
theorem g149 : g16h prog 136 = true := by kernel_rfl
theorem g115 : f136.body.bind (Shv.resolve prog f136.ntmps) = some (g16e prog f136) := by kernel_rfl
theorem gz3 : g16f prog f136.results.toList = some [.tmp 4] := by kernel_rfl
def gvx (F : Hs Un.D [.int .i64, .int .i64] → Option (Hs Un.D [.int .i64])) : FSpec Un := ⟨136, [.c (.hole (.int .i64)), .c (.hole (.int .i64))], [], [.int .i64, .int .i64], .c (.hole (.int .i64)), [], [.int .i64], F⟩
def gj3 : FSpec Un := gvx gaf
theorem gu5 : FSnd prog gj3 := FSnd.of fun h r hr => FAt.of_body (s := gj3) (fo := foS [glv]) (lo := loL []) func136 g115 gz3 (by kernel_rfl) (FoSnd.cons g148 gvw FoSnd.nil) (LoOk.snd LoOk.nil) (Eq.trans (by kernel_rfl) hr)
def gh3 (x0 : List UInt8) : Option (Bool) :=
 some (!(decide (x0 = x0)))
theorem g14a : g16h prog 191 = true := by kernel_rfl
theorem g116 : f191.body.bind (Shv.resolve prog f191.ntmps) = some (g16e prog f191) := by kernel_rfl
theorem gz4 : g16f prog f191.results.toList = some [.tmp 2] := by kernel_rfl
def gx4 (F : Hs Un.D [.str] → Option (Hs Un.D [.bool])) : FSpec Un := ⟨191, [.c (.hole .str)], [], [.str], .c (.hole .bool), [], [.bool], F⟩
def glw : FSpec Un := gx4 gh3
theorem gvy : FSnd prog glw := FSnd.of fun h r hr => FAt.of_body (s := glw) (fo := foS []) (lo := loL []) func191 g116 gz4 (by kernel_rfl) FoSnd.nil (LoOk.snd LoOk.nil) (Eq.trans (by kernel_rfl) hr)
def gd3 (x_ : List UInt8 × List UInt8) : Option (Int) :=
 match x_ with
 | (x0, y) =>
 gh3 x0 >>= fun r =>
 gh3 y >>= fun r_1 =>
 if r = true then
 if r_1 = true then
 some 0
 else
 some (-1)
 else
 if r_1 = true then
 some 1
 else
 if Op.bytesLess x0 y = true then
 some (-1)
 else
 if (!(Op.bytesLess x0 y || decide (x0 = y))) = true then
 some 1
 else
 some 0
theorem g14b : g16h prog 176 = true := by kernel_rfl
theorem g117 : f176.body.bind (Shv.resolve prog f176.ntmps) = some (g16e prog f176) := by kernel_rfl
theorem gz5 : g16f prog f176.results.toList = some [.tmp 4] := by kernel_rfl
def gvz (F : Hs Un.D [.str, .str] → Option (Hs Un.D [.int .i64])) : FSpec Un := ⟨176, [.c (.hole .str), .c (.hole .str)], [], [.str, .str], .c (.hole (.int .i64)), [], [.int .i64], F⟩
def gj4 : FSpec Un := gvz gd3
theorem gu6 : FSnd prog gj4 := FSnd.of fun h r hr => FAt.of_body (s := gj4) (fo := foS [glw]) (lo := loL []) func176 g117 gz5 (by kernel_rfl) (FoSnd.cons g14a gvy FoSnd.nil) (LoOk.snd LoOk.nil) (Eq.trans (by kernel_rfl) hr)
def g5p (x_ : Int × List Int × Int × Int) : Option ((Int) ⊕ (Int)) :=
 match x_ with
 | (zero_1, t6, t7_1, t8) =>
 if decide (t8 < t7_1) = true then
 if inR t8 t6.length = true then
 some (t6.getD t8.toNat 0) >>= fun x0 =>
 if (!(decide (x0 = zero_1))) = true then
 some (.inl x0)
 else
 g5p (zero_1, t6, t7_1, addI .i64 t8 1)
 else none
 else
 some (.inr zero_1)
  partial_fixpoint
theorem g14c : g16h prog 175 = true := by kernel_rfl
theorem g118 : f175.body.bind (Shv.resolve prog f175.ntmps) = some (g16e prog f175) := by kernel_rfl
theorem gz6 : g16f prog f175.results.toList = some [.tmp 2] := by kernel_rfl
def gt8 : Shape := ⟨[(3, .c (.hole (.int .i64))), (6, .c (.hole (.slice (.int .i64)))), (7, .c (.hole (.int .i64))), (8, .c (.hole (.int .i64)))], []⟩
def gnk : List Ty := [.int .i64, .slice (.int .i64), .int .i64, .int .i64]
def gkm : List OSpec := [⟨.ret, ⟨[(2, .c (.hole (.int .i64)))], []⟩, [], [.int .i64]⟩, ⟨.exit 0, ⟨[(3, .c (.hole (.int .i64)))], []⟩, [], [.int .i64]⟩]
def gxu (F : Hs Un.D gnk → Option (OSum Un gkm)) : LSpec Un := ⟨gt8, [], gnk, gkm, F⟩
def gur : LSpec Un := gxu g5p
theorem gx5 : LSnd prog f175.ntmps 0 (g16g (g16e prog f175) 0) gur := fun h o ho => g5p.partial_correctness (fun h o => LAt (U := Un) prog f175.ntmps 0 (g16g (g16e prog f175) 0) gt8 gnk gkm h o) (fun F1 HF1 h o ho => LAt.of_round (fo := foS []) (lo := loL []) (own := []) (F' := F1) FoSnd.nil (LoOk.snd LoOk.nil) HF1 (Eq.trans (by kernel_rfl) ho)) h o ho
def gt9 (vals : List Int) : Option (Int) :=
 g5p (0, vals, (vals.length : Int), 0) >>= fun o =>
 match o with
 | .inl o_1 =>
 some o_1
 | .inr o_2 =>
 some o_2
def gz7 (F : Hs Un.D [.slice (.int .i64)] → Option (Hs Un.D [.int .i64])) : FSpec Un := ⟨175, [.c (.hole (.slice (.int .i64)))], [], [.slice (.int .i64)], .c (.hole (.int .i64)), [], [.int .i64], F⟩
def gv4 : FSpec Un := gz7 gt9
theorem gxx : FSnd prog gv4 := FSnd.of fun h r hr => FAt.of_body (s := gv4) (fo := foS []) (lo := loL [(0, gur)]) func175 g118 gz6 (by kernel_rfl) FoSnd.nil (LoOk.snd (LoOk.cons gx5 LoOk.nil)) (Eq.trans (by kernel_rfl) hr)
def g87 (n : Int) : Option (Int) :=
 some (xorI .u64 (shlI .u64 (wrp .u64 n) 1) (wrp .u64 (shrI .i64 n 63)))
theorem F97_b : g16h prog 97 = true := by kernel_rfl
theorem g14d : f97.body.bind (Shv.resolve prog f97.ntmps) = some (g16e prog f97) := by kernel_rfl
theorem g119 : g16f prog f97.results.toList = some [.tmp 2] := by kernel_rfl
def gw0 (F : Hs Un.D [.int .i64] → Option (Hs Un.D [.int .u64])) : FSpec Un := ⟨97, [.c (.hole (.int .i64))], [], [.int .i64], .c (.hole (.int .u64)), [], [.int .u64], F⟩
def ge6 : FSpec Un := gw0 g87
theorem gmo : FSnd prog ge6 := FSnd.of fun h r hr => FAt.of_body (s := ge6) (fo := foS []) (lo := loL []) func97 g14d g119 (by kernel_rfl) FoSnd.nil (LoOk.snd LoOk.nil) (Eq.trans (by kernel_rfl) hr)
def g6n (x_ : SValue × SValue) : Option (Int) :=
 match x_ with
 | (a, b) =>
 if (!(decide (a.Kind = b.Kind))) = true then
 some 0
 else
 if decide (a.Kind = 1) = true then
 if eqB a.Bool_ b.Bool_ = true then
 some 0
 else
 if b.Bool_ = true then
 some (-1)
 else
 some 1
 else
 if decide (a.Kind = 2) = true then
 g87 a.Int_ >>= fun r =>
 g87 b.Int_ >>= fun r_1 =>
 gh1 (r, r_1) >>= fun r_2 =>
 some r_2
 else
 if decide (a.Kind = 3) = true then
 gaf ((a.Str.length : Int), (b.Str.length : Int)) >>= fun r_3 =>
 gd3 (a.Str, b.Str) >>= fun r_4 =>
 gt9 [r_3, r_4] >>= fun r_5 =>
 some r_5
 else
 if decide (a.Kind = 4) = true then
 gaf (a.ID, b.ID) >>= fun r_6 =>
 some r_6
 else
 some 0
theorem g14e : g16h prog 158 = true := by kernel_rfl
theorem g11a : f158.body.bind (Shv.resolve prog f158.ntmps) = some (g16e prog f158) := by kernel_rfl
theorem gz8 : g16f prog f158.results.toList = some [.tmp 4] := by kernel_rfl
def gw1 (F : Hs Un.D [.nm 4, .nm 4] → Option (Hs Un.D [.int .i64])) : FSpec Un := ⟨158, [.row 4, .row 4], [], [.nm 4, .nm 4], .c (.hole (.int .i64)), [], [.int .i64], F⟩
def gj5 : FSpec Un := gw1 g6n
theorem gu7 : FSnd prog gj5 := FSnd.of fun h r hr => FAt.of_body (s := gj5) (fo := foS [ge6, glu, gj3, gj4, gv4]) (lo := loL []) func158 g11a gz8 (by kernel_rfl) (FoSnd.cons F97_b gmo (FoSnd.cons g147 gvv (FoSnd.cons g149 gu5 (FoSnd.cons g14b gu6 (FoSnd.cons g14c gxx FoSnd.nil))))) (LoOk.snd LoOk.nil) (Eq.trans (by kernel_rfl) hr)
def g1y (x_ : Bool × Int × List SType × SValue × Int × List UInt8 × Int × Int × Int × List SSymbol × List SMember × Int × Int × Bool) : Option ((Bool) ⊕ (Bool × List SType × SValue × Int × List UInt8 × Int × Int × Int × List SSymbol × List SMember × Int × Int × Bool)) :=
 match x_ with
 | (plain_5, i, b_52, b_53, b_54, b_55, b_56, b_57, b_58, b_59, b_60, b_61, b_62, b_63) =>
 if decide (i < (b_53.Keys.length : Int)) = true then
 some (subI .i64 i 1) >>= fun t291 =>
 if inR t291 b_53.Keys.length = true then
 if inR i b_53.Keys.length = true then
 g6n (SValue.eta (b_53.Keys.getD t291.toNat dSValue), SValue.eta (b_53.Keys.getD i.toNat dSValue)) >>= fun r_19 =>
 if decide (0 ≤ r_19) = true then
 some (.inl false)
 else
 g1y (plain_5, addI .i64 i 1, b_52, SValue.eta b_53, b_54, b_55, b_56, b_57, b_58, b_59, b_60, b_61, b_62, b_63)
 else none
 else none
 else
 some (.inr (plain_5, b_52, SValue.eta b_53, b_54, b_55, b_56, b_57, b_58, b_59, b_60, b_61, b_62, b_63))
  partial_fixpoint
def gnl : Shape := ⟨[(3, .c (.hole .bool)), (4, .c (.ptr 0 0)), (6, .c (.ptr 1 0)), (9, .c (.ptr 2 0)), (20, .c (.hole (.int .i64)))], [.box [.hole (.slice (.nm 1))], .brow 4, .box [.hole (.int .i64), .hole .str, .hole (.int .i64), .hole (.int .i64), .hole (.int .i64), .hole (.slice (.nm 2)), .hole (.slice (.nm 3)), .hole (.int .i64), .hole (.int .i64), .hole .bool]]⟩
def ghy : List Ty := [.bool, .int .i64, .slice (.nm 1), .nm 4, .int .i64, .str, .int .i64, .int .i64, .int .i64, .slice (.nm 2), .slice (.nm 3), .int .i64, .int .i64, .bool]
def gf7 : List OSpec := [⟨.ret, ⟨[(8, .c (.hole .bool))], []⟩, [], [.bool]⟩, ⟨.exit 5, ⟨[(3, .c (.hole .bool)), (4, .c (.ptr 0 0)), (6, .c (.ptr 1 0)), (9, .c (.ptr 2 0))], [.box [.hole (.slice (.nm 1))], .brow 4, .box [.hole (.int .i64), .hole .str, .hole (.int .i64), .hole (.int .i64), .hole (.int .i64), .hole (.slice (.nm 2)), .hole (.slice (.nm 3)), .hole (.int .i64), .hole (.int .i64), .hole .bool]]⟩, [], [.bool, .slice (.nm 1), .nm 4, .int .i64, .str, .int .i64, .int .i64, .int .i64, .slice (.nm 2), .slice (.nm 3), .int .i64, .int .i64, .bool]⟩]
def gw2 (F : Hs Un.D ghy → Option (OSum Un gf7)) : LSpec Un := ⟨gnl, [], ghy, gf7, F⟩
def gp7 : LSpec Un := gw2 g1y
theorem gu8 : LSnd prog f132.ntmps 0 (g16g (g16e prog f132) 2) gp7 := fun h o ho => g1y.partial_correctness (fun h o => LAt (U := Un) prog f132.ntmps 0 (g16g (g16e prog f132) 2) gnl ghy gf7 h o) (fun F1 HF1 h o ho => LAt.of_round (fo := foS [gj5]) (lo := loL []) (own := []) (F' := F1) (FoSnd.cons g14e gu7 FoSnd.nil) (LoOk.snd LoOk.nil) HF1 (Eq.trans (by kernel_rfl) ho)) h o ho
mutual
def g1g (x_ : List SValue × List SType × Int × Bool) : Option (Bool × List SType × Int × Bool) :=
 match x_ with
 | (s, b, b_1, b_2) =>
 g2b (s, b, b_1, b_2) >>= fun r =>
 some (decide (0 ≤ r.1), r.2.1, r.2.2.1, r.2.2.2)
  partial_fixpoint
def g2b (x_ : List SValue × List SType × Int × Bool) : Option (Int × List SType × Int × Bool) :=
 match x_ with
 | (s, b, b_1, b_2) =>
 gq (s, (s.length : Int), 0, b, b_1, b_2) >>= fun o =>
 match o with
 | .inl o_1 =>
 some (o_1.1, o_1.2.1, o_1.2.2.1, o_1.2.2.2)
 | .inr o_2 =>
 some ((-1), o_2.1, o_2.2.1, o_2.2.2)
  partial_fixpoint
def g69 (x_ : SSchema × Int × List SValue × Bool) : Option (Bool) :=
 match x_ with
 | (s, t, l, plain) =>
 g1g (l, s.Types, t, plain) >>= fun r =>
 some (!r.1)
  partial_fixpoint
def gf8 (x_ : SValue × List SType × Int × Bool) : Option (Bool × List SType × Int × Bool) :=
 match x_ with
 | (v, b, b_1, b_2) =>
 g37 ((⟨b⟩ : SSchema), b_1, SValue.eta v, b_2) >>= fun r =>
 some ((!r), b, b_1, b_2)
  partial_fixpoint
def g37 (x_ : SSchema × Int × SValue × Bool) : Option (Bool) :=
 match x_ with
 | (s, t, v, plain) =>
 if (bif decide (t < 0) then true else decide ((s.Types.length : Int) ≤ t)) = true then
 some false
 else
 if inR t s.Types.length = true then
 some (s.Types.getD t.toNat dSType) >>= fun x0 =>
 some (!(decide (v.Kind = x0.Kind))) >>= fun t39 =>
 (if (!t39) = true then gf5 (SValue.eta v) else some false) >>= fun r =>
 if (bif t39 then true else (!r)) = true then
 some false
 else
 if decide (x0.Kind = 2) = true then
 some (bif decide (x0.Low ≤ v.Int_) then decide (v.Int_ ≤ x0.High) else false)
 else
 if decide (x0.Kind = 3) = true then
 some (decide ((v.Str.length : Int) ≤ x0.Max))
 else
 if decide (x0.Kind = 4) = true then
 gae (x0, v.ID) >>= fun r_1 =>
 some (bif x0.Open then (!plain) else false) >>= fun t85 =>
 (if ((!r_1.2) && t85) = true then gga v.ID else some false) >>= fun r_4 =>
 some (bif r_1.2 then true else bif t85 then r_4 else false)
 else
 if decide (x0.Kind = 5) = true then
 if (bif (!(decide ((v.Items.length : Int) = (x0.Members.length : Int)))) then true else bif plain then decide (0 < (v.Rest.length : Int)) else false) = true then
 some false
 else
 g26 (plain, v.Rest, (v.Rest.length : Int), 0, s.Types, SValue.eta v, x0.Kind, x0.Name, x0.Low, x0.High, x0.Max, x0.Symbols, x0.Members, x0.Key, x0.Elem, x0.Open) >>= fun o =>
 match o with
 | .inl o_1 =>
 some o_1
 | .inr o_2 =>
 g2r (o_2.1, o_2.2.2.2.2.2.2.2.2.2.2.2.2.2.2.2.2.1, (o_2.2.2.2.2.2.2.2.2.2.2.2.2.2.2.2.2.1.length : Int), 0, o_2.2.1, o_2.2.2.1, o_2.2.2.2.1, o_2.2.2.2.2.1, o_2.2.2.2.2.2.1, o_2.2.2.2.2.2.2.1, o_2.2.2.2.2.2.2.2.1, o_2.2.2.2.2.2.2.2.2.1, o_2.2.2.2.2.2.2.2.2.2.1) >>= fun o_3 =>
 match o_3 with
 | .inl o_4 =>
 some o_4
 | .inr o_5 =>
 some true
 else
 if decide (x0.Kind = 6) = true then
 g2e (x0, v.ID) >>= fun r_5 =>
 if r_5.2 = true then
 some (bif decide ((v.Items.length : Int) = 1) then decide ((v.Rest.length : Int) = 0) else false) >>= fun t188 =>
 if (inR r_5.1 x0.Members.length || (!t188)) = true then
 if (inR 0 v.Items.length || (!t188)) = true then
 (if t188 = true then g37 ((⟨s.Types⟩ : SSchema), (x0.Members.getD r_5.1.toNat dSMember).Type_, SValue.eta (v.Items.getD (0 : Int).toNat dSValue), plain) else some false) >>= fun r_8 =>
 some (bif t188 then r_8 else false)
 else none
 else none
 else
 some (bif x0.Open then (!plain) else false) >>= fun t209 =>
 (if t209 = true then gga v.ID else some false) >>= fun r_9 =>
 some (bif bif bif t209 then r_9 else false then decide ((v.Items.length : Int) = 0) else false then decide ((v.Rest.length : Int) = 1) else false) >>= fun t226 =>
 if (inR 0 v.Rest.length || (!t226)) = true then
 some (bif t226 then decide ((v.Rest.getD (0 : Int).toNat dSRaw).ID = v.ID) else false)
 else none
 else
 if decide (x0.Kind = 7) = true then
 some (decide ((v.Items.length : Int) ≤ x0.Max)) >>= fun t244 =>
 (if t244 = true then g69 ((⟨s.Types⟩ : SSchema), x0.Elem, v.Items, plain) else some false) >>= fun r_10 =>
 some (bif t244 then r_10 else false)
 else
 if decide (x0.Kind = 8) = true then
 some (bif decide (x0.Max < (v.Keys.length : Int)) then true else (!(decide ((v.Items.length : Int) = (v.Keys.length : Int))))) >>= fun t270 =>
 (if (!t270) = true then g69 ((⟨s.Types⟩ : SSchema), x0.Key, v.Keys, plain) else some false) >>= fun r_11 =>
 if (bif t270 then true else (!r_11)) = true then
 some false
 else
 g1y (plain, 1, s.Types, SValue.eta v, x0.Kind, x0.Name, x0.Low, x0.High, x0.Max, x0.Symbols, x0.Members, x0.Key, x0.Elem, x0.Open) >>= fun o_6 =>
 match o_6 with
 | .inl o_7 =>
 some o_7
 | .inr o_8 =>
 g69 ((⟨o_8.2.1⟩ : SSchema), o_8.2.2.2.2.2.2.2.2.2.2.2.1, o_8.2.2.1.Items, o_8.1) >>= fun r_12 =>
 some r_12
 else
 if decide (x0.Kind = 9) = true then
 some (decide ((v.Items.length : Int) ≤ 1)) >>= fun t313 =>
 (if t313 = true then g69 ((⟨s.Types⟩ : SSchema), x0.Elem, v.Items, plain) else some false) >>= fun r_13 =>
 some (bif t313 then r_13 else false)
 else
 some true
 else none
  partial_fixpoint
def gq (x_ : List SValue × Int × Int × List SType × Int × Bool) : Option ((Int × List SType × Int × Bool) ⊕ (List SType × Int × Bool)) :=
 match x_ with
 | (s_1, t7_1, t8, b_9, b_10, b_11) =>
 if decide (t8 < t7_1) = true then
 if inR t8 s_1.length = true then
 gf8 (SValue.eta (s_1.getD t8.toNat dSValue), b_9, b_10, b_11) >>= fun r =>
 if r.1 = true then
 some (.inl (t8, r.2.1, r.2.2.1, r.2.2.2))
 else
 gq (s_1, t7_1, addI .i64 t8 1, r.2.1, r.2.2.1, r.2.2.2)
 else none
 else
 some (.inr (b_9, b_10, b_11))
  partial_fixpoint
def g2r (x_ : Bool × List SMember × Int × Int × List SType × Int × Bool × Int × List UInt8 × Int × List SValue × List SValue × List SRaw) : Option ((Bool) ⊕ (Unit)) :=
 match x_ with
 | (plain_4, t150, t151_1, t152, b_43, b_44, b_45, b_46, b_47, b_48, b_49, b_50, b_51) =>
 if decide (t152 < t151_1) = true then
 if inR t152 t150.length = true then
 if inR t152 b_50.length = true then
 g37 ((⟨b_43⟩ : SSchema), (t150.getD t152.toNat dSMember).Type_, SValue.eta (b_50.getD t152.toNat dSValue), plain_4) >>= fun r_18 =>
 if (!r_18) = true then
 some (.inl false)
 else
 g2r (plain_4, t150, t151_1, addI .i64 t152 1, b_43, b_44, b_45, b_46, b_47, b_48, b_49, b_50, b_51)
 else none
 else none
 else
 some (.inr ())
  partial_fixpoint
end
theorem g14f : g16h prog 172 = true := by kernel_rfl
theorem g11b : f172.body.bind (Shv.resolve prog f172.ntmps) = some (g16e prog f172) := by kernel_rfl
theorem gz9 : g16f prog f172.results.toList = some [.tmp 4] := by kernel_rfl
def g6a (F : Hs Un.D [.slice (.nm 4), .slice (.nm 1), .int .i64, .bool] → Option (Hs Un.D [.bool, .slice (.nm 1), .int .i64, .bool])) : FSpec Un := ⟨172, [.c (.hole (.slice (.nm 4))), .c (.fn 173 [0, 1, 2])], [.box [.hole (.slice (.nm 1))], .box [.hole (.int .i64)], .box [.hole .bool]], [.slice (.nm 4), .slice (.nm 1), .int .i64, .bool], .c (.hole .bool), [.box [.hole (.slice (.nm 1))], .box [.hole (.int .i64)], .box [.hole .bool]], [.bool, .slice (.nm 1), .int .i64, .bool], F⟩
def g3x : FSpec Un := g6a g1g
theorem g14g : g16h prog 189 = true := by kernel_rfl
theorem g11c : f189.body.bind (Shv.resolve prog f189.ntmps) = some (g16e prog f189) := by kernel_rfl
theorem gza : g16f prog f189.results.toList = some [.tmp 4] := by kernel_rfl
def g7h (F : Hs Un.D [.slice (.nm 4), .slice (.nm 1), .int .i64, .bool] → Option (Hs Un.D [.int .i64, .slice (.nm 1), .int .i64, .bool])) : FSpec Un := ⟨189, [.c (.hole (.slice (.nm 4))), .c (.fn 173 [0, 1, 2])], [.box [.hole (.slice (.nm 1))], .box [.hole (.int .i64)], .box [.hole .bool]], [.slice (.nm 4), .slice (.nm 1), .int .i64, .bool], .c (.hole (.int .i64)), [.box [.hole (.slice (.nm 1))], .box [.hole (.int .i64)], .box [.hole .bool]], [.int .i64, .slice (.nm 1), .int .i64, .bool], F⟩
def g4g : FSpec Un := g7h g2b
def g63 : Shape := ⟨[(0, .c (.hole (.slice (.nm 4)))), (1, .c (.fn 173 [0, 1, 2])), (7, .c (.hole (.int .i64))), (8, .c (.hole (.int .i64)))], [.box [.hole (.slice (.nm 1))], .box [.hole (.int .i64)], .box [.hole .bool]]⟩
def g3t : List Ty := [.slice (.nm 4), .int .i64, .int .i64, .slice (.nm 1), .int .i64, .bool]
def g3h : List OSpec := [⟨.ret, ⟨[(4, .c (.hole (.int .i64)))], [.box [.hole (.slice (.nm 1))], .box [.hole (.int .i64)], .box [.hole .bool]]⟩, [], [.int .i64, .slice (.nm 1), .int .i64, .bool]⟩, ⟨.exit 0, ⟨[], [.box [.hole (.slice (.nm 1))], .box [.hole (.int .i64)], .box [.hole .bool]]⟩, [], [.slice (.nm 1), .int .i64, .bool]⟩]
def g6b (F : Hs Un.D g3t → Option (OSum Un g3h)) : LSpec Un := ⟨g63, [], g3t, g3h, F⟩
def gcm : LSpec Un := g6b gq
theorem g14h : g16h prog 173 = true := by kernel_rfl
theorem g11d : f173.body.bind (Shv.resolve prog f173.ntmps) = some (g16e prog f173) := by kernel_rfl
theorem gzb : g16f prog f173.results.toList = some [.tmp 5] := by kernel_rfl
def gqd (F : Hs Un.D [.nm 4, .slice (.nm 1), .int .i64, .bool] → Option (Hs Un.D [.bool, .slice (.nm 1), .int .i64, .bool])) : FSpec Un := ⟨173, [.row 4, .c (.ptr 0 0), .c (.ptr 1 0), .c (.ptr 2 0)], [.box [.hole (.slice (.nm 1))], .box [.hole (.int .i64)], .box [.hole .bool]], [.nm 4, .slice (.nm 1), .int .i64, .bool], .c (.hole .bool), [.box [.hole (.slice (.nm 1))], .box [.hole (.int .i64)], .box [.hole .bool]], [.bool, .slice (.nm 1), .int .i64, .bool], F⟩
def gkn : FSpec Un := gqd gf8
def gf9 (F : Hs Un.D [.nm 0, .int .i64, .nm 4, .bool] → Option (Hs Un.D [.bool])) : FSpec Un := ⟨132, [.row 0, .c (.hole (.int .i64)), .row 4, .c (.hole .bool)], [], [.nm 0, .int .i64, .nm 4, .bool], .c (.hole .bool), [], [.bool], F⟩
def gj6 : FSpec Un := gf9 g37
theorem g14i : g16h prog 157 = true := by kernel_rfl
theorem g11e : f157.body.bind (Shv.resolve prog f157.ntmps) = some (g16e prog f157) := by kernel_rfl
theorem gzc : g16f prog f157.results.toList = some [.tmp 8] := by kernel_rfl
def gta (F : Hs Un.D [.nm 0, .int .i64, .slice (.nm 4), .bool] → Option (Hs Un.D [.bool])) : FSpec Un := ⟨157, [.row 0, .c (.hole (.int .i64)), .c (.hole (.slice (.nm 4))), .c (.hole .bool)], [], [.nm 0, .int .i64, .slice (.nm 4), .bool], .c (.hole .bool), [], [.bool], F⟩
def gnm : FSpec Un := gta g69
def gnn : Shape := ⟨[(3, .c (.hole .bool)), (4, .c (.ptr 0 0)), (6, .c (.ptr 1 0)), (150, .c (.hole (.slice (.nm 3)))), (151, .c (.hole (.int .i64))), (152, .c (.hole (.int .i64)))], [.box [.hole (.slice (.nm 1))], .box [.hole (.int .i64), .hole .bool, .hole (.int .i64), .hole .str, .hole (.int .i64), .hole (.slice (.nm 4)), .hole (.slice (.nm 4)), .hole (.slice (.nm 5))]]⟩
def ghz : List Ty := [.bool, .slice (.nm 3), .int .i64, .int .i64, .slice (.nm 1), .int .i64, .bool, .int .i64, .str, .int .i64, .slice (.nm 4), .slice (.nm 4), .slice (.nm 5)]
def gfa : List OSpec := [⟨.ret, ⟨[(8, .c (.hole .bool))], []⟩, [], [.bool]⟩, ⟨.exit 3, ⟨[], []⟩, [], []⟩]
def gp8 (F : Hs Un.D ghz → Option (OSum Un gfa)) : LSpec Un := ⟨gnn, [], ghz, gfa, F⟩
def gw3 : LSpec Un := gp8 g2r
theorem gbh : (FSnd prog g3x) ∧ (FSnd prog g4g) ∧ (LSnd prog f189.ntmps 3 (g16g (g16e prog f189) 0) gcm) ∧ (FSnd prog gkn) ∧ (FSnd prog gj6) ∧ (FSnd prog gnm) ∧ (LSnd prog f132.ntmps 0 (g16g (g16e prog f132) 1) gw3) := g1g.mutual_partial_correctness (fun h r => FAt prog g3x h r) (fun h r => FAt prog g4g h r) (fun h o => LAt (U := Un) prog f189.ntmps 3 (g16g (g16e prog f189) 0) g63 g3t g3h h o) (fun h r => FAt prog gkn h r) (fun h r => FAt prog gj6 h r) (fun h r => FAt prog gnm h r) (fun h o => LAt (U := Un) prog f132.ntmps 0 (g16g (g16e prog f132) 1) gnn ghz gfa h o)
 (fun F2 HF2 h o ho => FAt.of_body (s := g3x) (fo := foS [g7h F2]) (lo := loL []) func172 g11b gz9 (by kernel_rfl) (FoSnd.cons g14g HF2 FoSnd.nil) (LoOk.snd LoOk.nil) (Eq.trans (by kernel_rfl) ho))
 (fun F3 HF3 h o ho => FAt.of_body (s := g4g) (fo := foS []) (lo := loL [(0, g6b F3)]) func189 g11c gza (by kernel_rfl) FoSnd.nil (LoOk.snd (LoOk.cons HF3 LoOk.nil)) (Eq.trans (by kernel_rfl) ho))
 (fun F3 F4 HF3 HF4 h o ho => LAt.of_round (fo := foS [gqd F4]) (lo := loL []) (own := []) (F' := F3) (FoSnd.cons g14h HF4 FoSnd.nil) (LoOk.snd LoOk.nil) HF3 (Eq.trans (by kernel_rfl) ho))
 (fun F5 HF5 h o ho => FAt.of_body (s := gkn) (fo := foS [gf9 F5]) (lo := loL []) func173 g11d gzb (by kernel_rfl) (FoSnd.cons gvt HF5 FoSnd.nil) (LoOk.snd LoOk.nil) (Eq.trans (by kernel_rfl) ho))
 (fun F5 F6 F7 HF5 HF6 HF7 h o ho => FAt.of_body (s := (gf9 F5)) (fo := foS [gkl, ge4, gj2, g68, gf9 F5, gta F6]) (lo := loL [(0, gp6), (1, gp8 F7), (2, gp7)]) func132 g111 gyz (by kernel_rfl) (FoSnd.cons g140 gv3 (FoSnd.cons gy3 gmn (FoSnd.cons gy4 gqc (FoSnd.cons F82_b g8l (FoSnd.cons gvt HF5 (FoSnd.cons g14i HF6 FoSnd.nil)))))) (LoOk.snd (LoOk.cons gu4 (LoOk.cons HF7 (LoOk.cons gu8 LoOk.nil)))) (Eq.trans (by kernel_rfl) ho))
 (fun F1 HF1 h o ho => FAt.of_body (s := gnm) (fo := foS [g6a F1]) (lo := loL []) func157 g11e gzc (by kernel_rfl) (FoSnd.cons g14f HF1 FoSnd.nil) (LoOk.snd LoOk.nil) (Eq.trans (by kernel_rfl) ho))
 (fun F5 F7 HF5 HF7 h o ho => LAt.of_round (fo := foS [gf9 F5]) (lo := loL []) (own := []) (F' := F7) (FoSnd.cons gvt HF5 FoSnd.nil) (LoOk.snd LoOk.nil) HF7 (Eq.trans (by kernel_rfl) ho))
theorem gwm : FSnd prog gj6 := gbh.2.2.2.2.1
end
section
open Go Go.Proofs.YthnmepafpikaiaaGreat.Shv
open Tryz
set_option maxRecDepth 100000
def ggb (x_ : SSchema × Int × SValue) : Option (Bool) :=
 match x_ with
 | (s, t, v) =>
 g37 ((⟨s.Types⟩ : SSchema), t, SValue.eta v, false) >>= fun r =>
 some r
theorem F95_b : g16h prog 95 = true := by kernel_rfl
theorem g14j : f95.body.bind (Shv.resolve prog f95.ntmps) = some (g16e prog f95) := by kernel_rfl
theorem g11f : g16f prog f95.results.toList = some [.tmp 6] := by kernel_rfl
def gxi (F : Hs Un.D [.nm 0, .int .i64, .nm 4] → Option (Hs Un.D [.bool])) : FSpec Un := ⟨95, [.row 0, .c (.hole (.int .i64)), .row 4], [], [.nm 0, .int .i64, .nm 4], .c (.hole .bool), [], [.bool], F⟩
def gj7 : FSpec Un := gxi ggb
theorem gqe : FSnd prog gj7 := FSnd.of fun h r hr => FAt.of_body (s := gj7) (fo := foS [gj6]) (lo := loL []) func95 g14j g11f (by kernel_rfl) (FoSnd.cons gvt gwm FoSnd.nil) (LoOk.snd LoOk.nil) (Eq.trans (by kernel_rfl) hr)
def g47 (x_ : SSchema × Int × SValue) : Option (Int) :=
 match x_ with
 | (s, t, v) =>
 gbe ((⟨s.Types⟩ : SSchema), t) >>= fun r =>
 if (!(decide (r = 0))) = true then
 some r
 else
 ggb ((⟨s.Types⟩ : SSchema), t, SValue.eta v) >>= fun r_1 =>
 if (!r_1) = true then
 some 1
 else
 some 0
theorem F56_b : g16h prog 56 = true := by kernel_rfl
theorem g14k : f56.body.bind (Shv.resolve prog f56.ntmps) = some (g16e prog f56) := by kernel_rfl
theorem g11g : g16f prog f56.results.toList = some [.tmp 6] := by kernel_rfl
def gv5 (F : Hs Un.D [.nm 0, .int .i64, .nm 4] → Option (Hs Un.D [.int .i64])) : FSpec Un := ⟨56, [.row 0, .c (.hole (.int .i64)), .row 4], [], [.nm 0, .int .i64, .nm 4], .c (.hole (.int .i64)), [], [.int .i64], F⟩
def gcn : FSpec Un := gv5 g47
theorem gl5 : FSnd prog gcn := FSnd.of fun h r hr => FAt.of_body (s := gcn) (fo := foS [gcl, gj7]) (lo := loL []) func56 g14k g11g (by kernel_rfl) (FoSnd.cons F52_b gl3 (FoSnd.cons F95_b gqe FoSnd.nil)) (LoOk.snd LoOk.nil) (Eq.trans (by kernel_rfl) hr)
def g4q (x_ : Int × Int × List Int) : Option (Int × List Int) :=
 match x_ with
 | (n_1, i_1, b_1) =>
 if decide (0 < n_1) = true then
 some (subI .i64 i_1 1) >>= fun t10 =>
 if inR t10 8 = true then
 if decide (t10.toNat < b_1.length) = true then
 g4q (shrI .u64 n_1 8, t10, b_1.set t10.toNat (wrp .u8 n_1))
 else none
 else none
 else
 some (i_1, b_1)
  partial_fixpoint
theorem F96_b : g16h prog 96 = true := by kernel_rfl
theorem g14l : f96.body.bind (Shv.resolve prog f96.ntmps) = some (g16e prog f96) := by kernel_rfl
theorem g11h : g16f prog f96.results.toList = some [.tmp 2] := by kernel_rfl
def gno : Shape := ⟨[(0, .c (.hole (.int .u64))), (3, .c (.ptr 0 0)), (4, .c (.hole (.int .i64)))], [.arr (.int .u8)]⟩
def gi0 : List Ty := [.int .u64, .int .i64, .slice (.int .u8)]
def gfb : List OSpec := [⟨.exit 0, ⟨[(3, .c (.ptr 0 0)), (4, .c (.hole (.int .i64)))], [.arr (.int .u8)]⟩, [], [.int .i64, .slice (.int .u8)]⟩]
def gw4 (F : Hs Un.D gi0 → Option (OSum Un gfb)) : LSpec Un := ⟨gno, [], gi0, gfb, F⟩
def gp9 : LSpec Un := gw4 g4q
theorem gu9 : LSnd prog f96.ntmps 0 (g16g (g16e prog f96) 0) gp9 := fun h o ho => g4q.partial_correctness (fun h o => LAt (U := Un) prog f96.ntmps 0 (g16g (g16e prog f96) 0) gno gi0 gfb h o) (fun F1 HF1 h o ho => LAt.of_round (fo := foS []) (lo := loL []) (own := []) (F' := F1) FoSnd.nil (LoOk.snd LoOk.nil) HF1 (Eq.trans (by kernel_rfl) ho)) h o ho
def ggc (n : Int) : Option (List UInt8) :=
 g4q (n, 8, [0, 0, 0, 0, 0, 0, 0, 0]) >>= fun o =>
 if slR o.1 8 8 = true then
 if subR o.1.toNat ((8 : Int).toNat - o.1.toNat) o.2.length = true then
 some (strOf ((o.2.drop o.1.toNat).take ((8 : Int).toNat - o.1.toNat)))
 else none
 else none
def gxj (F : Hs Un.D [.int .u64] → Option (Hs Un.D [.str])) : FSpec Un := ⟨96, [.c (.hole (.int .u64))], [], [.int .u64], .c (.hole .str), [], [.str], F⟩
def gnp : FSpec Un := gxj ggc
theorem gwn : FSnd prog gnp := FSnd.of fun h r hr => FAt.of_body (s := gnp) (fo := foS []) (lo := loL [(0, gp9)]) func96 g14l g11h (by kernel_rfl) FoSnd.nil (LoOk.snd (LoOk.cons gu9 LoOk.nil)) (Eq.trans (by kernel_rfl) hr)
mutual
def gi (x_ : List SValue × List SValue) : Option (Bool) :=
 match x_ with
 | (s1, s2) =>
 if (!(decide ((s1.length : Int) = (s2.length : Int)))) = true then
 some false
 else
 ge (s2, s1, (s1.length : Int), 0) >>= fun o =>
 match o with
 | .inl o_1 =>
 some o_1
 | .inr o_2 =>
 some true
  partial_fixpoint
def g7j (x_ : SValue × SValue) : Option (Bool) :=
 match x_ with
 | (a, b) =>
 some (bif bif bif bif decide (a.Kind = b.Kind) then eqB a.Bool_ b.Bool_ else false then decide (a.Int_ = b.Int_) else false then decide (a.Str = b.Str) else false then decide (a.ID = b.ID) else false) >>= fun t37 =>
 (if t37 = true then g2u (a.Rest, b.Rest) else some false) >>= fun r =>
 some (bif t37 then r else false) >>= fun t44 =>
 (if t44 = true then gi (a.Keys, b.Keys) else some false) >>= fun r_1 =>
 some (bif t44 then r_1 else false) >>= fun t51 =>
 (if t51 = true then gi (a.Items, b.Items) else some false) >>= fun r_2 =>
 some (bif t51 then r_2 else false)
  partial_fixpoint
def ge (x_ : List SValue × List SValue × Int × Int) : Option ((Bool) ⊕ (Unit)) :=
 match x_ with
 | (s2_1, t15, t16_1, t17) =>
 if decide (t17 < t16_1) = true then
 if inR t17 t15.length = true then
 if inR t17 s2_1.length = true then
 g7j (SValue.eta (t15.getD t17.toNat dSValue), SValue.eta (s2_1.getD t17.toNat dSValue)) >>= fun r =>
 if (!r) = true then
 some (.inl false)
 else
 ge (s2_1, t15, t16_1, addI .i64 t17 1)
 else none
 else none
 else
 some (.inr ())
  partial_fixpoint
end
def g39 (F : Hs Un.D [.slice (.nm 4), .slice (.nm 4)] → Option (Hs Un.D [.bool])) : FSpec Un := ⟨178, [.c (.hole (.slice (.nm 4))), .c (.hole (.slice (.nm 4))), .c (.fn 159 [])], [], [.slice (.nm 4), .slice (.nm 4)], .c (.hole .bool), [], [.bool], F⟩
def g1x : FSpec Un := g39 gi
def g2v : Shape := ⟨[(1, .c (.hole (.slice (.nm 4)))), (2, .c (.fn 159 [])), (15, .c (.hole (.slice (.nm 4)))), (16, .c (.hole (.int .i64))), (17, .c (.hole (.int .i64)))], []⟩
def g1p : List Ty := [.slice (.nm 4), .slice (.nm 4), .int .i64, .int .i64]
def g1k : List OSpec := [⟨.ret, ⟨[(6, .c (.hole .bool))], []⟩, [], [.bool]⟩, ⟨.exit 0, ⟨[], []⟩, [], []⟩]
def g2x (F : Hs Un.D g1p → Option (OSum Un g1k)) : LSpec Un := ⟨g2v, [], g1p, g1k, F⟩
def g60 : LSpec Un := g2x ge
theorem gy5 : g16h prog 159 = true := by kernel_rfl
theorem g11i : f159.body.bind (Shv.resolve prog f159.ntmps) = some (g16e prog f159) := by kernel_rfl
theorem gzd : g16f prog f159.results.toList = some [.tmp 4] := by kernel_rfl
def gs2 (F : Hs Un.D [.nm 4, .nm 4] → Option (Hs Un.D [.bool])) : FSpec Un := ⟨159, [.row 4, .row 4], [], [.nm 4, .nm 4], .c (.hole .bool), [], [.bool], F⟩
def gd4 : FSpec Un := gs2 g7j
theorem g66 : (FSnd prog g1x) ∧ (LSnd prog f178.ntmps 0 (g16g (g16e prog f178) 0) g60) ∧ (FSnd prog gd4) := gi.mutual_partial_correctness (fun h r => FAt prog g1x h r) (fun h o => LAt (U := Un) prog f178.ntmps 0 (g16g (g16e prog f178) 0) g2v g1p g1k h o) (fun h r => FAt prog gd4 h r)
 (fun F2 HF2 h o ho => FAt.of_body (s := g1x) (fo := foS []) (lo := loL [(0, g2x F2)]) func178 gxv gxe (by kernel_rfl) FoSnd.nil (LoOk.snd (LoOk.cons HF2 LoOk.nil)) (Eq.trans (by kernel_rfl) ho))
 (fun F2 F3 HF2 HF3 h o ho => LAt.of_round (fo := foS [gs2 F3]) (lo := loL []) (own := []) (F' := F2) (FoSnd.cons gy5 HF3 FoSnd.nil) (LoOk.snd LoOk.nil) HF2 (Eq.trans (by kernel_rfl) ho))
 (fun F1 HF1 h o ho => FAt.of_body (s := gd4) (fo := foS [g4j, g39 F1]) (lo := loL []) func159 g11i gzd (by kernel_rfl) (FoSnd.cons gxy ga1 (FoSnd.cons gxz HF1 FoSnd.nil)) (LoOk.snd LoOk.nil) (Eq.trans (by kernel_rfl) ho))
theorem gw5 : FSnd prog gd4 := g66.2.2
def gbi (x_ : SMember × SValue) : Option (Bool) :=
 match x_ with
 | (m, v) =>
 (if m.HasDefault = true then g7j (SValue.eta m.Default, SValue.eta v) else some false) >>= fun r =>
 some (bif m.HasDefault then r else false)
theorem g14m : g16h prog 133 = true := by kernel_rfl
theorem g11j : f133.body.bind (Shv.resolve prog f133.ntmps) = some (g16e prog f133) := by kernel_rfl
theorem gze : g16f prog f133.results.toList = some [.tmp 4] := by kernel_rfl
def gv6 (F : Hs Un.D [.nm 3, .nm 4] → Option (Hs Un.D [.bool])) : FSpec Un := ⟨133, [.row 3, .row 4], [], [.nm 3, .nm 4], .c (.hole .bool), [], [.bool], F⟩
def gi1 : FSpec Un := gv6 gbi
theorem gtb : FSnd prog gi1 := FSnd.of fun h r hr => FAt.of_body (s := gi1) (fo := foS [gd4]) (lo := loL []) func133 g11j gze (by kernel_rfl) (FoSnd.cons gy5 gw5 FoSnd.nil) (LoOk.snd LoOk.nil) (Eq.trans (by kernel_rfl) hr)
def g4r (x_ : Int × Int × List Int) : Option (Int × Int × List Int) :=
 match x_ with
 | (n_2, i_1, b_1) =>
 if decide (128 ≤ n_2) = true then
 if inR i_1 10 = true then
 if decide (i_1.toNat < b_1.length) = true then
 g4r (shrI .u64 n_2 7, addI .i64 i_1 1, b_1.set i_1.toNat (orI .u8 (wrp .u8 n_2) 128))
 else none
 else none
 else
 some (n_2, i_1, b_1)
  partial_fixpoint
theorem gxk : g16h prog 113 = true := by kernel_rfl
theorem g11k : f113.body.bind (Shv.resolve prog f113.ntmps) = some (g16e prog f113) := by kernel_rfl
theorem gzf : g16f prog f113.results.toList = some [.tmp 2] := by kernel_rfl
def gnq : Shape := ⟨[(0, .c (.hole (.int .u64))), (3, .c (.ptr 0 0)), (4, .c (.hole (.int .i64)))], [.arr (.int .u8)]⟩
def gi2 : List Ty := [.int .u64, .int .i64, .slice (.int .u8)]
def gfc : List OSpec := [⟨.exit 0, ⟨[(0, .c (.hole (.int .u64))), (3, .c (.ptr 0 0)), (4, .c (.hole (.int .i64)))], [.arr (.int .u8)]⟩, [], [.int .u64, .int .i64, .slice (.int .u8)]⟩]
def gw6 (F : Hs Un.D gi2 → Option (OSum Un gfc)) : LSpec Un := ⟨gnq, [], gi2, gfc, F⟩
def gpa : LSpec Un := gw6 g4r
theorem gua : LSnd prog f113.ntmps 0 (g16g (g16e prog f113) 0) gpa := fun h o ho => g4r.partial_correctness (fun h o => LAt (U := Un) prog f113.ntmps 0 (g16g (g16e prog f113) 0) gnq gi2 gfc h o) (fun F1 HF1 h o ho => LAt.of_round (fo := foS []) (lo := loL []) (own := []) (F' := F1) FoSnd.nil (LoOk.snd LoOk.nil) HF1 (Eq.trans (by kernel_rfl) ho)) h o ho
def gag (n : Int) : Option (List UInt8) :=
 g4r (n, 0, [0, 0, 0, 0, 0, 0, 0, 0, 0, 0]) >>= fun o =>
 if inR o.2.1 10 = true then
 if decide (o.2.1.toNat < o.2.2.length) = true then
 some (o.2.2.set o.2.1.toNat (wrp .u8 o.1)) >>= fun l_1 =>
 some (addI .i64 o.2.1 1) >>= fun t21 =>
 if slR 0 t21 10 = true then
 if subR (0 : Int).toNat t21.toNat l_1.length = true then
 some (strOf ((l_1.drop (0 : Int).toNat).take t21.toNat))
 else none
 else none
 else none
 else none
def gxl (F : Hs Un.D [.int .u64] → Option (Hs Un.D [.str])) : FSpec Un := ⟨113, [.c (.hole (.int .u64))], [], [.int .u64], .c (.hole .str), [], [.str], F⟩
def gfd : FSpec Un := gxl gag
theorem gko : FSnd prog gfd := FSnd.of fun h r hr => FAt.of_body (s := gfd) (fo := foS []) (lo := loL [(0, gpa)]) func113 g11k gzf (by kernel_rfl) FoSnd.nil (LoOk.snd (LoOk.cons gua LoOk.nil)) (Eq.trans (by kernel_rfl) hr)
def g6c (p : List UInt8) : Option (List UInt8) :=
 gag (wrp .u64 (p.length : Int)) >>= fun r =>
 if decide (r.length + p.length ≤ g16z) = true then
 some (r ++ p)
 else none
theorem gy6 : g16h prog 100 = true := by kernel_rfl
theorem g11l : f100.body.bind (Shv.resolve prog f100.ntmps) = some (g16e prog f100) := by kernel_rfl
theorem gzg : g16f prog f100.results.toList = some [.tmp 2] := by kernel_rfl
def gwo (F : Hs Un.D [.str] → Option (Hs Un.D [.str])) : FSpec Un := ⟨100, [.c (.hole .str)], [], [.str], .c (.hole .str), [], [.str], F⟩
def ggd : FSpec Un := gwo g6c
theorem gnr : FSnd prog ggd := FSnd.of fun h r hr => FAt.of_body (s := ggd) (fo := foS [gfd]) (lo := loL []) func100 g11l gzg (by kernel_rfl) (FoSnd.cons gxk gko FoSnd.nil) (LoOk.snd LoOk.nil) (Eq.trans (by kernel_rfl) hr)
def gbj (x_ : Int × Bool × List UInt8) : Option (List UInt8) :=
 match x_ with
 | (id, critical, p) =>
 some (mulI .u64 2 (wrp .u64 id)) >>= fun t10 =>
 if critical = true then
 gag (addI .u64 t10 1) >>= fun r =>
 g6c p >>= fun r_1 =>
 if decide (r.length + r_1.length ≤ g16z) = true then
 some (r ++ r_1)
 else none
 else
 gag t10 >>= fun r_2 =>
 g6c p >>= fun r_3 =>
 if decide (r_2.length + r_3.length ≤ g16z) = true then
 some (r_2 ++ r_3)
 else none
theorem F68_b : g16h prog 68 = true := by kernel_rfl
theorem g14n : f68.body.bind (Shv.resolve prog f68.ntmps) = some (g16e prog f68) := by kernel_rfl
theorem g11m : g16f prog f68.results.toList = some [.tmp 6] := by kernel_rfl
def gwp (F : Hs Un.D [.int .i64, .bool, .str] → Option (Hs Un.D [.str])) : FSpec Un := ⟨68, [.c (.hole (.int .i64)), .c (.hole .bool), .c (.hole .str)], [], [.int .i64, .bool, .str], .c (.hole .str), [], [.str], F⟩
def gge : FSpec Un := gwp gbj
theorem gns : FSnd prog gge := FSnd.of fun h r hr => FAt.of_body (s := gge) (fo := foS [gfd, ggd]) (lo := loL []) func68 g14n g11m (by kernel_rfl) (FoSnd.cons gxk gko (FoSnd.cons gy6 gnr FoSnd.nil)) (LoOk.snd LoOk.nil) (Eq.trans (by kernel_rfl) hr)
def g1t (x_ : List UInt8 × List UInt8) : Option (Int × List UInt8) :=
 match x_ with
 | (s, b) =>
 some b >>= fun r =>
 if (decide (r.length = b.length) && true) = true then
 if room 1 (r.length + s.length) = true then
 some ((s.length : Int), catS r s)
 else none
 else none
theorem F73_b : g16h prog 73 = true := by kernel_rfl
theorem g14o : f73.body.bind (Shv.resolve prog f73.ntmps) = some (g16e prog f73) := by kernel_rfl
theorem g11n : g16f prog f73.results.toList = some [.tmp 4, .tmp 5] := by kernel_rfl
def gk3 (F : Hs Un.D [.str, .str] → Option (Hs Un.D [.int .i64, .str])) : FSpec Un := ⟨73, [.c (.ptr 0 0), .c (.hole .str)], [.bld 130 ((.bufc 1)), .buf 5], [.str, .str], .tup [.c (.hole (.int .i64)), .c (.dead)], [.bld 130 ((.bufc 2)), .gone, .buf 5], [.int .i64, .str], F⟩
def g4k : FSpec Un := gk3 g1t
theorem ga2 : FSnd prog g4k := FSnd.of fun h r hr => FAt.of_body (s := g4k) (fo := foS [gp3]) (lo := loL []) func73 g14o g11n (by kernel_rfl) (FoSnd.cons g13k gtx FoSnd.nil) (LoOk.snd LoOk.nil) (Eq.trans (by kernel_rfl) hr)
def g48 (b : List UInt8) : Option (List UInt8) :=
 if eqI (b.length : Int) (b.length : Int) = true then
 some b
 else none
theorem F75_b : g16h prog 75 = true := by kernel_rfl
theorem g14p : f75.body.bind (Shv.resolve prog f75.ntmps) = some (g16e prog f75) := by kernel_rfl
theorem g11o : g16f prog f75.results.toList = some [.tmp 2] := by kernel_rfl
def gnt (F : Hs Un.D [.str] → Option (Hs Un.D [.str])) : FSpec Un := ⟨75, [.c (.ptr 0 0)], [.bld 130 ((.bufc 1)), .buf 5], [.str], .c (.hole .str), [.bld 130 ((.bufc 1)), .gone], [.str], F⟩
def g6d : FSpec Un := gnt g48
theorem gd5 : FSnd prog g6d := FSnd.of fun h r hr => FAt.of_body (s := g6d) (fo := foS []) (lo := loL []) func75 g14p g11o (by kernel_rfl) FoSnd.nil (LoOk.snd LoOk.nil) (Eq.trans (by kernel_rfl) hr)
end
section
open Go Go.Proofs.YthnmepafpikaiaaGreat.Shv
open Tryz
set_option maxRecDepth 100000
def g1b (x_ : List SRaw × Int × Int × List SType × Int × List EncodeEntry) : Option (List SType × Int × List EncodeEntry) :=
 match x_ with
 | (t57, t58_1, t59, b_16, b_17, b_18) =>
 if decide (t59 < t58_1) = true then
 if inR t59 t57.length = true then
 some (t57.getD t59.toNat dSRaw) >>= fun x0_4 =>
 gbj (x0_4.ID, false, x0_4.Data) >>= fun r_8 =>
 some [(⟨x0_4.ID, r_8⟩ : EncodeEntry)] >>= fun t72 =>
 if room 24 (b_18 ++ t72).length = true then
 g1b (t57, t58_1, addI .i64 t59 1, b_16, b_17, b_18 ++ t72)
 else none
 else none
 else
 some (b_16, b_17, b_18)
  partial_fixpoint
theorem F98_b : g16h prog 98 = true := by kernel_rfl
theorem g14q : f98.body.bind (Shv.resolve prog f98.ntmps) = some (g16e prog f98) := by kernel_rfl
theorem g11p : g16f prog f98.results.toList = some [.tmp 8] := by kernel_rfl
def gd6 : Shape := ⟨[(9, .c (.arr 1)), (57, .c (.hole (.slice (.nm 5)))), (58, .c (.hole (.int .i64))), (59, .c (.hole (.int .i64)))], [.box [.hole (.slice (.nm 1)), .hole (.int .i64)], .arr (.nm 6)]⟩
def g88 : List Ty := [.slice (.nm 5), .int .i64, .int .i64, .slice (.nm 1), .int .i64, .slice (.nm 6)]
def g74 : List OSpec := [⟨.exit 2, ⟨[(9, .c (.arr 1))], [.box [.hole (.slice (.nm 1)), .hole (.int .i64)], .arr (.nm 6)]⟩, [], [.slice (.nm 1), .int .i64, .slice (.nm 6)]⟩]
def gn1 (F : Hs Un.D g88 → Option (OSum Un g74)) : LSpec Un := ⟨gd6, [], g88, g74, F⟩
def ge7 : LSpec Un := gn1 g1b
theorem gl6 : LSnd prog f98.ntmps 1 (g16g (g16e prog f98) 1) ge7 := fun h o ho => g1b.partial_correctness (fun h o => LAt (U := Un) prog f98.ntmps 1 (g16g (g16e prog f98) 1) gd6 g88 g74 h o) (fun F1 HF1 h o ho => LAt.of_round (fo := foS [gge]) (lo := loL []) (own := []) (F' := F1) (FoSnd.cons F68_b gns FoSnd.nil) (LoOk.snd LoOk.nil) HF1 (Eq.trans (by kernel_rfl) ho)) h o ho
def g1c (x_ : Int × Int × List SType × Int × List EncodeEntry × List UInt8) : Option (List SType × Int × List UInt8) :=
 match x_ with
 | (t78_1, t79, b_19, b_20, b_21, b_22) =>
 if decide (t79 < t78_1) = true then
 if inR t79 b_21.length = true then
 if decide (t79.toNat < b_21.length) = true then
 g1t ((b_21.getD t79.toNat dEncodeEntry).text, b_22) >>= fun r_9 =>
 g1c (t78_1, addI .i64 t79 1, b_19, b_20, b_21, r_9.2)
 else none
 else none
 else
 some (b_19, b_20, b_22)
  partial_fixpoint
def gd7 : Shape := ⟨[(14, .c (.ptr 1 0)), (77, .c (.arr 2)), (78, .c (.hole (.int .i64))), (79, .c (.hole (.int .i64)))], [.box [.hole (.slice (.nm 1)), .hole (.int .i64)], .bld 130 ((.bufc 3)), .arr (.nm 6), .buf 5]⟩
def g89 : List Ty := [.int .i64, .int .i64, .slice (.nm 1), .int .i64, .slice (.nm 6), .str]
def g75 : List OSpec := [⟨.exit 4, ⟨[(14, .c (.ptr 1 0))], [.box [.hole (.slice (.nm 1)), .hole (.int .i64)], .bld 130 ((.bufc 2)), .buf 5]⟩, [], [.slice (.nm 1), .int .i64, .str]⟩]
def gn2 (F : Hs Un.D g89 → Option (OSum Un g75)) : LSpec Un := ⟨gd7, [], g89, g75, F⟩
def ge8 : LSpec Un := gn2 g1c
theorem gl7 : LSnd prog f98.ntmps 1 (g16g (g16e prog f98) 2) ge8 := fun h o ho => g1c.partial_correctness (fun h o => LAt (U := Un) prog f98.ntmps 1 (g16g (g16e prog f98) 2) gd7 g89 g75 h o) (fun F1 HF1 h o ho => LAt.of_round (fo := foS [g4k]) (lo := loL []) (own := []) (F' := F1) (FoSnd.cons F73_b ga2 FoSnd.nil) (LoOk.snd LoOk.nil) HF1 (Eq.trans (by kernel_rfl) ho)) h o ho
mutual
def gv (x_ : Int × SValue × Int × List SType × Int) : Option (List UInt8 × List SType × Int) :=
 match x_ with
 | (t, v, level, b, b_1) =>
 some (maxI b_1 level) >>= fun t19 =>
 if inR t b.length = true then
 some (b.getD t.toNat dSType) >>= fun x0 =>
 if decide (x0.Kind = 1) = true then
 if v.Bool_ = true then
 some ([1], b, t19)
 else
 some ([], b, t19)
 else
 if decide (x0.Kind = 2) = true then
 g87 v.Int_ >>= fun r =>
 ggc r >>= fun r_1 =>
 some (r_1, b, t19)
 else
 if decide (x0.Kind = 3) = true then
 some (v.Str, b, t19)
 else
 if decide (x0.Kind = 4) = true then
 ggc (wrp .u64 v.ID) >>= fun r_2 =>
 some (r_2, b, t19)
 else
 if decide (x0.Kind = 5) = true then
 g4v (x0, SValue.eta v, level, b, t19) >>= fun r_3 =>
 some (r_3.1, r_3.2.1, r_3.2.2)
 else
 if decide (x0.Kind = 6) = true then
 g49 (x0, SValue.eta v, level, b, t19) >>= fun r_7 =>
 some (r_7.1, r_7.2.1, r_7.2.2)
 else
 if decide (x0.Kind = 9) = true then
 if decide ((v.Items.length : Int) = 0) = true then
 some ([], b, t19)
 else
 if inR 0 v.Items.length = true then
 gv (x0.Elem, SValue.eta (v.Items.getD (0 : Int).toNat dSValue), addI .i64 level 1, b, t19) >>= fun r_11 =>
 if decide ([1].length + r_11.1.length ≤ g16z) = true then
 some ([1] ++ r_11.1, r_11.2.1, r_11.2.2)
 else none
 else none
 else
 gw (level, v.Items, (v.Items.length : Int), 0, b, t19, SValue.eta v, x0, []) >>= fun o =>
 g48 o.2.2 >>= fun r_15 =>
 some (r_15, o.1, o.2.1)
 else none
  partial_fixpoint
def g4v (x_ : SType × SValue × Int × List SType × Int) : Option (List UInt8 × List SType × Int) :=
 match x_ with
 | (x0, v, level, b, b_1) =>
 g1m (level, x0.Members, (x0.Members.length : Int), 0, b, b_1, SValue.eta v, []) >>= fun o =>
 g1b (o.2.2.1.Rest, (o.2.2.1.Rest.length : Int), 0, o.1, o.2.1, o.2.2.2) >>= fun o_1 =>
 gt3 o_1.2.2 >>= fun r =>
 if (decide (r.length = o_1.2.2.length) && true) = true then
 g1c ((r.length : Int), 0, o_1.1, o_1.2.1, r, []) >>= fun o_2 =>
 g48 o_2.2.2 >>= fun r_1 =>
 some (r_1, o_2.1, o_2.2.1)
 else none
  partial_fixpoint
def g49 (x_ : SType × SValue × Int × List SType × Int) : Option (List UInt8 × List SType × Int) :=
 match x_ with
 | (x0, v, level, b, b_1) =>
 gag (wrp .u64 v.ID) >>= fun r =>
 g2e (x0, v.ID) >>= fun r_1 =>
 if (!r_1.2) = true then
 if inR 0 v.Rest.length = true then
 some (v.Rest.getD (0 : Int).toNat dSRaw) >>= fun x0_1 =>
 if decide (r.length + x0_1.Data.length ≤ g16z) = true then
 some (r ++ x0_1.Data, b, b_1)
 else none
 else none
 else
 if inR r_1.1 x0.Members.length = true then
 if inR 0 v.Items.length = true then
 gv ((x0.Members.getD r_1.1.toNat dSMember).Type_, SValue.eta (v.Items.getD (0 : Int).toNat dSValue), addI .i64 level 1, b, b_1) >>= fun r_4 =>
 if decide (r.length + r_4.1.length ≤ g16z) = true then
 some (r ++ r_4.1, r_4.2.1, r_4.2.2)
 else none
 else none
 else none
  partial_fixpoint
def gw (x_ : Int × List SValue × Int × Int × List SType × Int × SValue × SType × List UInt8) : Option (List SType × Int × List UInt8) :=
 match x_ with
 | (level_1, t84, t85_1, t86, b_5, b_6, b_7, b_8, b_9) =>
 if decide (t86 < t85_1) = true then
 if inR t86 t84.length = true then
 some (t84.getD t86.toNat dSValue) >>= fun x0_2 =>
 if decide (b_8.Kind = 8) = true then
 if inR t86 b_7.Keys.length = true then
 gv (b_8.Key, SValue.eta (b_7.Keys.getD t86.toNat dSValue), addI .i64 level_1 1, b_5, b_6) >>= fun r_16 =>
 g6c r_16.1 >>= fun r_20 =>
 g1t (r_20, b_9) >>= fun r_21 =>
 gv (b_8.Elem, SValue.eta x0_2, addI .i64 level_1 1, r_16.2.1, r_16.2.2) >>= fun r_24 =>
 g6c r_24.1 >>= fun r_28 =>
 g1t (r_28, r_21.2) >>= fun r_29 =>
 gw (level_1, t84, t85_1, addI .i64 t86 1, r_24.2.1, r_24.2.2, SValue.eta b_7, b_8, r_29.2)
 else none
 else
 gv (b_8.Elem, SValue.eta x0_2, addI .i64 level_1 1, b_5, b_6) >>= fun r_32 =>
 g6c r_32.1 >>= fun r_36 =>
 g1t (r_36, b_9) >>= fun r_37 =>
 gw (level_1, t84, t85_1, addI .i64 t86 1, r_32.2.1, r_32.2.2, SValue.eta b_7, b_8, r_37.2)
 else none
 else
 some (b_5, b_6, b_9)
  partial_fixpoint
def g1m (x_ : Int × List SMember × Int × Int × List SType × Int × SValue × List EncodeEntry) : Option (List SType × Int × SValue × List EncodeEntry) :=
 match x_ with
 | (level_1, t18, t19_1, t20, b_12, b_13, b_14, b_15) =>
 if decide (t20 < t19_1) = true then
 if inR t20 t18.length = true then
 some (t18.getD t20.toNat dSMember) >>= fun x0_1 =>
 if inR t20 b_14.Items.length = true then
 gbi ((⟨x0_1.ID, x0_1.Name, x0_1.Type_, x0_1.Critical, x0_1.HasDefault, SValue.eta x0_1.Default⟩ : SMember), SValue.eta (b_14.Items.getD t20.toNat dSValue)) >>= fun r_2 =>
 if (!r_2) = true then
 if inR t20 b_14.Items.length = true then
 gv (x0_1.Type_, SValue.eta (b_14.Items.getD t20.toNat dSValue), addI .i64 level_1 1, b_12, b_13) >>= fun r_3 =>
 gbj (x0_1.ID, x0_1.Critical, r_3.1) >>= fun r_7 =>
 some [(⟨x0_1.ID, r_7⟩ : EncodeEntry)] >>= fun t53 =>
 if room 24 (b_15 ++ t53).length = true then
 g1m (level_1, t18, t19_1, addI .i64 t20 1, r_3.2.1, r_3.2.2, SValue.eta b_14, b_15 ++ t53)
 else none
 else none
 else
 g1m (level_1, t18, t19_1, addI .i64 t20 1, b_12, b_13, SValue.eta b_14, b_15)
 else none
 else none
 else
 some (b_12, b_13, SValue.eta b_14, b_15)
  partial_fixpoint
end
theorem F57_b : g16h prog 57 = true := by kernel_rfl
theorem g14r : f57.body.bind (Shv.resolve prog f57.ntmps) = some (g16e prog f57) := by kernel_rfl
theorem g11q : g16f prog f57.results.toList = some [.tmp 8] := by kernel_rfl
def g3v (F : Hs Un.D [.int .i64, .nm 4, .int .i64, .slice (.nm 1), .int .i64] → Option (Hs Un.D [.str, .slice (.nm 1), .int .i64])) : FSpec Un := ⟨57, [.c (.ptr 0 0), .c (.hole (.int .i64)), .row 4, .c (.hole (.int .i64))], [.box [.hole (.slice (.nm 1)), .hole (.int .i64)]], [.int .i64, .nm 4, .int .i64, .slice (.nm 1), .int .i64], .c (.hole .str), [.box [.hole (.slice (.nm 1)), .hole (.int .i64)]], [.str, .slice (.nm 1), .int .i64], F⟩
def g3w : FSpec Un := g3v gv
def gc6 : Shape := ⟨[(0, .c (.ptr 0 0)), (3, .c (.hole (.int .i64))), (6, .c (.ptr 1 0)), (9, .c (.ptr 2 0)), (10, .c (.ptr 3 0)), (84, .c (.hole (.slice (.nm 4)))), (85, .c (.hole (.int .i64))), (86, .c (.hole (.int .i64)))], [.box [.hole (.slice (.nm 1)), .hole (.int .i64)], .brow 4, .brow 1, .bld 130 ((.bufc 4)), .buf 5]⟩
def g7l : List Ty := [.int .i64, .slice (.nm 4), .int .i64, .int .i64, .slice (.nm 1), .int .i64, .nm 4, .nm 1, .str]
def g6q : List OSpec := [⟨.exit 1, ⟨[(10, .c (.ptr 1 0))], [.box [.hole (.slice (.nm 1)), .hole (.int .i64)], .bld 130 ((.bufc 2)), .buf 5]⟩, [], [.slice (.nm 1), .int .i64, .str]⟩]
def gd8 (F : Hs Un.D g7l → Option (OSum Un g6q)) : LSpec Un := ⟨gc6, [], g7l, g6q, F⟩
def glx : LSpec Un := gd8 gw
theorem F99_b : g16h prog 99 = true := by kernel_rfl
theorem g14s : f99.body.bind (Shv.resolve prog f99.ntmps) = some (g16e prog f99) := by kernel_rfl
theorem g11r : g16f prog f99.results.toList = some [.tmp 8] := by kernel_rfl
def gib (F : Hs Un.D [.nm 1, .nm 4, .int .i64, .slice (.nm 1), .int .i64] → Option (Hs Un.D [.str, .slice (.nm 1), .int .i64])) : FSpec Un := ⟨99, [.c (.ptr 0 0), .row 1, .row 4, .c (.hole (.int .i64))], [.box [.hole (.slice (.nm 1)), .hole (.int .i64)]], [.nm 1, .nm 4, .int .i64, .slice (.nm 1), .int .i64], .c (.hole .str), [.box [.hole (.slice (.nm 1)), .hole (.int .i64)]], [.str, .slice (.nm 1), .int .i64], F⟩
def gbk : FSpec Un := gib g49
def gh4 (F : Hs Un.D [.nm 1, .nm 4, .int .i64, .slice (.nm 1), .int .i64] → Option (Hs Un.D [.str, .slice (.nm 1), .int .i64])) : FSpec Un := ⟨98, [.c (.ptr 0 0), .row 1, .row 4, .c (.hole (.int .i64))], [.box [.hole (.slice (.nm 1)), .hole (.int .i64)]], [.nm 1, .nm 4, .int .i64, .slice (.nm 1), .int .i64], .c (.hole .str), [.box [.hole (.slice (.nm 1)), .hole (.int .i64)]], [.str, .slice (.nm 1), .int .i64], F⟩
def gas : FSpec Un := gh4 g4v
def gd9 : Shape := ⟨[(0, .c (.ptr 0 0)), (3, .c (.hole (.int .i64))), (6, .c (.ptr 1 0)), (9, .c (.arr 2)), (18, .c (.hole (.slice (.nm 3)))), (19, .c (.hole (.int .i64))), (20, .c (.hole (.int .i64)))], [.box [.hole (.slice (.nm 1)), .hole (.int .i64)], .brow 4, .arr (.nm 6)]⟩
def g8a : List Ty := [.int .i64, .slice (.nm 3), .int .i64, .int .i64, .slice (.nm 1), .int .i64, .nm 4, .slice (.nm 6)]
def g76 : List OSpec := [⟨.exit 0, ⟨[(6, .c (.ptr 1 0)), (9, .c (.arr 2))], [.box [.hole (.slice (.nm 1)), .hole (.int .i64)], .brow 4, .arr (.nm 6)]⟩, [], [.slice (.nm 1), .int .i64, .nm 4, .slice (.nm 6)]⟩]
def ge9 (F : Hs Un.D g8a → Option (OSum Un g76)) : LSpec Un := ⟨gd9, [(.slot 9, .nm 6)], g8a, g76, F⟩
def gn3 : LSpec Un := ge9 g1m
theorem gn4 : (FSnd prog g3w) ∧ (LSnd prog f57.ntmps 1 (g16g (g16e prog f57) 0) glx) ∧ (FSnd prog gbk) ∧ (FSnd prog gas) ∧ (LSnd prog f98.ntmps 1 (g16g (g16e prog f98) 0) gn3) := gv.mutual_partial_correctness (fun h r => FAt prog g3w h r) (fun h o => LAt (U := Un) prog f57.ntmps 1 (g16g (g16e prog f57) 0) gc6 g7l g6q h o) (fun h r => FAt prog gbk h r) (fun h r => FAt prog gas h r) (fun h o => LAt (U := Un) prog f98.ntmps 1 (g16g (g16e prog f98) 0) gd9 g8a g76 h o)
 (fun F1 F2 F3 F4 HF1 HF2 HF3 HF4 h o ho => FAt.of_body (s := (g3v F1)) (fo := foS [ge6, gnp, gh4 F4, gib F3, g3v F1, g6d]) (lo := loL [(0, gd8 F2)]) func57 g14r g11q (by kernel_rfl) (FoSnd.cons F97_b gmo (FoSnd.cons F96_b gwn (FoSnd.cons F98_b HF4 (FoSnd.cons F99_b HF3 (FoSnd.cons F57_b HF1 (FoSnd.cons F75_b gd5 FoSnd.nil)))))) (LoOk.snd (LoOk.cons HF2 LoOk.nil)) (Eq.trans (by kernel_rfl) ho))
 (fun F1 F2 HF1 HF2 h o ho => LAt.of_round (fo := foS [g3v F1, ggd, g4k]) (lo := loL []) (own := []) (F' := F2) (FoSnd.cons F57_b HF1 (FoSnd.cons gy6 gnr (FoSnd.cons F73_b ga2 FoSnd.nil))) (LoOk.snd LoOk.nil) HF2 (Eq.trans (by kernel_rfl) ho))
 (fun F1 HF1 h o ho => FAt.of_body (s := gbk) (fo := foS [gfd, g68, g3v F1]) (lo := loL []) func99 g14s g11r (by kernel_rfl) (FoSnd.cons gxk gko (FoSnd.cons F82_b g8l (FoSnd.cons F57_b HF1 FoSnd.nil))) (LoOk.snd LoOk.nil) (Eq.trans (by kernel_rfl) ho))
 (fun F5 HF5 h o ho => FAt.of_body (s := gas) (fo := foS [gq5, g6d]) (lo := loL [(0, ge9 F5), (1, ge7), (2, ge8)]) func98 g14q g11p (by kernel_rfl) (FoSnd.cons g13j gut (FoSnd.cons F75_b gd5 FoSnd.nil)) (LoOk.snd (LoOk.cons HF5 (LoOk.cons gl6 (LoOk.cons gl7 LoOk.nil)))) (Eq.trans (by kernel_rfl) ho))
 (fun F1 F5 HF1 HF5 h o ho => LAt.of_round (fo := foS [gi1, g3v F1, gge]) (lo := loL []) (own := [(.slot 9, .nm 6)]) (F' := F5) (FoSnd.cons g14m gtb (FoSnd.cons F57_b HF1 (FoSnd.cons F68_b gns FoSnd.nil))) (LoOk.snd LoOk.nil) HF5 (Eq.trans (by kernel_rfl) ho))
theorem g8r : FSnd prog g3w := gn4.1
def g4s (x_ : SSchema × Int × SValue) : Option (List UInt8 × Int) :=
 match x_ with
 | (s, t, v) =>
 g47 ((⟨s.Types⟩ : SSchema), t, SValue.eta v) >>= fun r =>
 if (!(decide (r = 0))) = true then
 some ([], r)
 else
 gv (t, SValue.eta v, 1, s.Types, 0) >>= fun r_1 =>
 if (bif decide (4096 < (r_1.1.length : Int)) then true else decide (200 < r_1.2.2)) = true then
 some ([], 3)
 else
 some (r_1.1, 0)
theorem F26_b : g16h prog 26 = true := by kernel_rfl
theorem g14t : f26.body.bind (Shv.resolve prog f26.ntmps) = some (g16e prog f26) := by kernel_rfl
theorem g11s : g16f prog f26.results.toList = some [.tmp 6, .tmp 7] := by kernel_rfl
def gw7 (F : Hs Un.D [.nm 0, .int .i64, .nm 4] → Option (Hs Un.D [.str, .int .i64])) : FSpec Un := ⟨26, [.row 0, .c (.hole (.int .i64)), .row 4], [], [.nm 0, .int .i64, .nm 4], .tup [.c (.hole .str), .c (.hole (.int .i64))], [], [.str, .int .i64], F⟩
def gea : FSpec Un := gw7 g4s
theorem gmp : FSnd prog gea := FSnd.of fun h r hr => FAt.of_body (s := gea) (fo := foS [gcn, g3w]) (lo := loL []) func26 g14t g11s (by kernel_rfl) (FoSnd.cons F56_b gl5 (FoSnd.cons F57_b g8r FoSnd.nil)) (LoOk.snd LoOk.nil) (Eq.trans (by kernel_rfl) hr)
def g8b (x_ : List UInt8 × Int × Int × Int) : Option ((Int × Int × Int) ⊕ (Unit)) :=
 match x_ with
 | (s_1, n, t10_1, t11) =>
 if decide (t11 < t10_1) = true then
 if inR t11 s_1.length = true then
 some (g17g s_1 t11) >>= fun t16 =>
 if (bif decide (t11 = 9) then decide (1 < t16) else false) = true then
 some (.inl (0, 0, 7))
 else
 if decide (128 ≤ t16) = true then
 some (mulI .i64 7 t11) >>= fun t41 =>
 if decide (0 ≤ t41) = true then
 g8b (s_1, orI .u64 n (shlI .u64 (wrp .u64 (andI .u8 t16 127)) t41), t10_1, addI .i64 t11 1)
 else none
 else
 if (bif decide (t16 = 0) then decide (0 < t11) else false) = true then
 some (.inl (0, 0, 2))
 else
 some (mulI .i64 7 t11) >>= fun t21 =>
 if decide (0 ≤ t21) = true then
 some (.inl (orI .u64 n (shlI .u64 (wrp .u64 t16) t21), addI .i64 t11 1, 0))
 else none
 else none
 else
 some (.inr ())
  partial_fixpoint
theorem F76_b : g16h prog 76 = true := by kernel_rfl
theorem g14u : f76.body.bind (Shv.resolve prog f76.ntmps) = some (g16e prog f76) := by kernel_rfl
theorem g11t : g16f prog f76.results.toList = some [.tmp 2, .tmp 3, .tmp 4] := by kernel_rfl
def gnu : Shape := ⟨[(0, .c (.hole .str)), (5, .c (.hole (.int .u64))), (10, .c (.hole (.int .i64))), (11, .c (.hole (.int .i64)))], []⟩
def gi3 : List Ty := [.str, .int .u64, .int .i64, .int .i64]
def gfe : List OSpec := [⟨.ret, ⟨[(2, .c (.hole (.int .u64))), (3, .c (.hole (.int .i64))), (4, .c (.hole (.int .i64)))], []⟩, [], [.int .u64, .int .i64, .int .i64]⟩, ⟨.exit 0, ⟨[], []⟩, [], []⟩]
def gw8 (F : Hs Un.D gi3 → Option (OSum Un gfe)) : LSpec Un := ⟨gnu, [], gi3, gfe, F⟩
def gpb : LSpec Un := gw8 g8b
theorem gub : LSnd prog f76.ntmps 0 (g16g (g16e prog f76) 0) gpb := fun h o ho => g8b.partial_correctness (fun h o => LAt (U := Un) prog f76.ntmps 0 (g16g (g16e prog f76) 0) gnu gi3 gfe h o) (fun F1 HF1 h o ho => LAt.of_round (fo := foS []) (lo := loL []) (own := []) (F' := F1) FoSnd.nil (LoOk.snd LoOk.nil) HF1 (Eq.trans (by kernel_rfl) ho)) h o ho
def gr7 (s : List UInt8) : Option (Int × Int × Int) :=
 g8b (s, 0, minI 10 (s.length : Int), 0) >>= fun o =>
 match o with
 | .inl o_1 =>
 some (o_1.1, o_1.2.1, o_1.2.2)
 | .inr o_2 =>
 some (0, 0, 10)
def gxm (F : Hs Un.D [.str] → Option (Hs Un.D [.int .u64, .int .i64, .int .i64])) : FSpec Un := ⟨76, [.c (.hole .str)], [], [.str], .tup [.c (.hole (.int .u64)), .c (.hole (.int .i64)), .c (.hole (.int .i64))], [], [.int .u64, .int .i64, .int .i64], F⟩
def gnv : FSpec Un := gxm gr7
theorem gwq : FSnd prog gnv := FSnd.of fun h r hr => FAt.of_body (s := gnv) (fo := foS []) (lo := loL [(0, gpb)]) func76 g14u g11t (by kernel_rfl) FoSnd.nil (LoOk.snd (LoOk.cons gub LoOk.nil)) (Eq.trans (by kernel_rfl) hr)
def gh5 (s : List UInt8) : Option (Int × List UInt8 × Bool) :=
 gr7 s >>= fun r =>
 if (!(decide (r.2.2 = 0))) = true then
 some (0, [], false)
 else
 if slR r.2.1 (s.length : Int) s.length = true then
 some (r.1, cutL s r.2.1 (s.length : Int), true)
 else none
theorem F41_b : g16h prog 41 = true := by kernel_rfl
theorem g14v : f41.body.bind (Shv.resolve prog f41.ntmps) = some (g16e prog f41) := by kernel_rfl
theorem g11u : g16f prog f41.results.toList = some [.tmp 2, .tmp 3, .tmp 4] := by kernel_rfl
def gx6 (F : Hs Un.D [.str] → Option (Hs Un.D [.int .u64, .str, .bool])) : FSpec Un := ⟨41, [.c (.hole .str)], [], [.str], .tup [.c (.hole (.int .u64)), .c (.hole .str), .c (.hole .bool)], [], [.int .u64, .str, .bool], F⟩
def gda : FSpec Un := gx6 gh5
theorem gj8 : FSnd prog gda := FSnd.of fun h r hr => FAt.of_body (s := gda) (fo := foS [gnv]) (lo := loL []) func41 g14v g11u (by kernel_rfl) (FoSnd.cons F76_b gwq FoSnd.nil) (LoOk.snd LoOk.nil) (Eq.trans (by kernel_rfl) hr)
def gky (s : List UInt8) : Option (List UInt8 × List UInt8 × Bool) :=
 gh5 s >>= fun r =>
 if (bif (!r.2.2) then true else decide (wrp .u64 (r.2.1.length : Int) < r.1)) = true then
 some ([], [], false)
 else
 if slR 0 r.1 r.2.1.length = true then
 if slR r.1 (r.2.1.length : Int) r.2.1.length = true then
 some (cutL r.2.1 0 r.1, cutL r.2.1 r.1 (r.2.1.length : Int), true)
 else none
 else none
theorem F42_b : g16h prog 42 = true := by kernel_rfl
theorem g14w : f42.body.bind (Shv.resolve prog f42.ntmps) = some (g16e prog f42) := by kernel_rfl
theorem g11v : g16f prog f42.results.toList = some [.tmp 2, .tmp 3, .tmp 4] := by kernel_rfl
def gx7 (F : Hs Un.D [.str] → Option (Hs Un.D [.str, .str, .bool])) : FSpec Un := ⟨42, [.c (.hole .str)], [], [.str], .tup [.c (.hole .str), .c (.hole .str), .c (.hole .bool)], [], [.str, .str, .bool], F⟩
def gho : FSpec Un := gx7 gky
theorem gpc : FSnd prog gho := FSnd.of fun h r hr => FAt.of_body (s := gho) (fo := foS [gda]) (lo := loL []) func42 g14w g11v (by kernel_rfl) (FoSnd.cons F41_b gj8 FoSnd.nil) (LoOk.snd LoOk.nil) (Eq.trans (by kernel_rfl) hr)
def g6e (x_ : List UInt8 × List (List UInt8)) : Option ((Int) ⊕ (List (List UInt8))) :=
 match x_ with
 | (s, b_1) =>
 if (!(decide (s = []))) = true then
 gky s >>= fun r =>
 if (!r.2.2) = true then
 some (.inl 12)
 else
 some [r.1] >>= fun t22 =>
 if room 16 (b_1 ++ t22).length = true then
 g6e (r.2.1, b_1 ++ t22)
 else none
 else
 some (.inr b_1)
  partial_fixpoint
theorem F14_b : g16h prog 14 = true := by kernel_rfl
theorem g14x : f14.body.bind (Shv.resolve prog f14.ntmps) = some (g16e prog f14) := by kernel_rfl
theorem g11w : g16f prog f14.results.toList = some [.tmp 2, .tmp 3] := by kernel_rfl
def gl8 : Shape := ⟨[(4, .c (.arr 0)), (5, .c (.hole .str))], [.arr .str]⟩
def gff : List Ty := [.str, .slice .str]
def gco : List OSpec := [⟨.ret, ⟨[(2, .c (.cap0)), (3, .c (.hole (.int .i64)))], []⟩, [], [.int .i64]⟩, ⟨.exit 0, ⟨[(4, .c (.arr 0))], [.arr .str]⟩, [], [.slice .str]⟩]
def guc (F : Hs Un.D gff → Option (OSum Un gco)) : LSpec Un := ⟨gl8, [(.slot 4, .str)], gff, gco, F⟩
def gmq : LSpec Un := guc g6e
theorem gsj : LSnd prog f14.ntmps 0 (g16g (g16e prog f14) 0) gmq := fun h o ho => g6e.partial_correctness (fun h o => LAt (U := Un) prog f14.ntmps 0 (g16g (g16e prog f14) 0) gl8 gff gco h o) (fun F1 HF1 h o ho => LAt.of_round (fo := foS [gho]) (lo := loL []) (own := [(.slot 4, .str)]) (F' := F1) (FoSnd.cons F42_b gpc FoSnd.nil) (LoOk.snd LoOk.nil) HF1 (Eq.trans (by kernel_rfl) ho)) h o ho
def gj9 (payload : List UInt8) : Option (List (List UInt8) × Int) :=
 g6e (payload, []) >>= fun o =>
 match o with
 | .inl o_1 =>
 some ([], o_1)
 | .inr o_2 =>
 some (o_2, 0)
def gwr (F : Hs Un.D [.str] → Option (Hs Un.D [.slice .str, .int .i64])) : FSpec Un := ⟨14, [.c (.hole .str)], [], [.str], .tup [.c (.hole (.slice .str)), .c (.hole (.int .i64))], [], [.slice .str, .int .i64], F⟩
def ggf : FSpec Un := gwr gj9
theorem gnw : FSnd prog ggf := FSnd.of fun h r hr => FAt.of_body (s := ggf) (fo := foS []) (lo := loL [(0, gmq)]) func14 g14x g11w (by kernel_rfl) FoSnd.nil (LoOk.snd (LoOk.cons gsj LoOk.nil)) (Eq.trans (by kernel_rfl) hr)
end
section
open Go Go.Proofs.YthnmepafpikaiaaGreat.Shv
open Tryz
set_option maxRecDepth 100000
def g23 (x_ : List (List UInt8) × List (List UInt8) × Int × Int) : Option ((Bool) ⊕ (Unit)) :=
 match x_ with
 | (s1_1, s2_1, t12_1, t13) =>
 if decide (t13 < t12_1) = true then
 if inR t13 s1_1.length = true then
 if inR t13 s2_1.length = true then
 if (!(decide (s1_1.getD t13.toNat [] = s2_1.getD t13.toNat []))) = true then
 some (.inl false)
 else
 g23 (s1_1, s2_1, t12_1, addI .i64 t13 1)
 else none
 else none
 else
 some (.inr ())
  partial_fixpoint
theorem F40_b : g16h prog 40 = true := by kernel_rfl
theorem g14y : f40.body.bind (Shv.resolve prog f40.ntmps) = some (g16e prog f40) := by kernel_rfl
theorem g11x : g16f prog f40.results.toList = some [.tmp 4] := by kernel_rfl
def ga3 : Shape := ⟨[(0, .c (.hole (.slice .str))), (1, .c (.hole (.slice .str))), (12, .c (.hole (.int .i64))), (13, .c (.hole (.int .i64)))], []⟩
def g61 : List Ty := [.slice .str, .slice .str, .int .i64, .int .i64]
def g56 : List OSpec := [⟨.ret, ⟨[(4, .c (.hole .bool))], []⟩, [], [.bool]⟩, ⟨.exit 0, ⟨[], []⟩, [], []⟩]
def gja (F : Hs Un.D g61 → Option (OSum Un g56)) : LSpec Un := ⟨ga3, [], g61, g56, F⟩
def gah : LSpec Un := gja g23
theorem gi4 : LSnd prog f40.ntmps 0 (g16g (g16e prog f40) 0) gah := fun h o ho => g23.partial_correctness (fun h o => LAt (U := Un) prog f40.ntmps 0 (g16g (g16e prog f40) 0) ga3 g61 g56 h o) (fun F1 HF1 h o ho => LAt.of_round (fo := foS []) (lo := loL []) (own := []) (F' := F1) FoSnd.nil (LoOk.snd LoOk.nil) HF1 (Eq.trans (by kernel_rfl) ho)) h o ho
def g8s (x_ : List (List UInt8) × List (List UInt8)) : Option (Bool) :=
 match x_ with
 | (s1, s2) =>
 if (!(decide ((s1.length : Int) = (s2.length : Int)))) = true then
 some false
 else
 g23 (s1, s2, (s1.length : Int), 0) >>= fun o =>
 match o with
 | .inl o_1 =>
 some o_1
 | .inr o_2 =>
 some true
def gl9 (F : Hs Un.D [.slice .str, .slice .str] → Option (Hs Un.D [.bool])) : FSpec Un := ⟨40, [.c (.hole (.slice .str)), .c (.hole (.slice .str))], [], [.slice .str, .slice .str], .c (.hole .bool), [], [.bool], F⟩
def g7m : FSpec Un := gl9 g8s
theorem gk4 : FSnd prog g7m := FSnd.of fun h r hr => FAt.of_body (s := g7m) (fo := foS []) (lo := loL [(0, gah)]) func40 g14y g11x (by kernel_rfl) FoSnd.nil (LoOk.snd (LoOk.cons gi4 LoOk.nil)) (Eq.trans (by kernel_rfl) hr)
def g5h (x_ : Int × List UInt8 × List SField) : Option ((Int) ⊕ (List SField)) :=
 match x_ with
 | (last, s, b_1) =>
 if (!(decide (s = []))) = true then
 gh5 s >>= fun r =>
 if (bif bif (!r.2.2) then true else decide (quoI .u64 r.1 2 ≤ last) then true else decide (1000 < quoI .u64 r.1 2)) = true then
 some (.inl 12)
 else
 gky r.2.1 >>= fun r_4 =>
 if (!r_4.2.2) = true then
 some (.inl 12)
 else
 some [(⟨wrp .i64 (quoI .u64 r.1 2), decide (remI r.1 2 = 1), r_4.1⟩ : SField)] >>= fun t50 =>
 if room 32 (b_1 ++ t50).length = true then
 g5h (quoI .u64 r.1 2, r_4.2.1, b_1 ++ t50)
 else none
 else
 some (.inr b_1)
  partial_fixpoint
theorem F12_b : g16h prog 12 = true := by kernel_rfl
theorem g14z : f12.body.bind (Shv.resolve prog f12.ntmps) = some (g16e prog f12) := by kernel_rfl
theorem g11y : g16f prog f12.results.toList = some [.tmp 2, .tmp 3] := by kernel_rfl
def gk9 : Shape := ⟨[(4, .c (.arr 0)), (5, .c (.hole (.int .u64))), (6, .c (.hole .str))], [.arr (.nm 8)]⟩
def gdp : List Ty := [.int .u64, .str, .slice (.nm 8)]
def gbl : List OSpec := [⟨.ret, ⟨[(2, .c (.cap0)), (3, .c (.hole (.int .i64)))], []⟩, [], [.int .i64]⟩, ⟨.exit 0, ⟨[(4, .c (.arr 0))], [.arr (.nm 8)]⟩, [], [.slice (.nm 8)]⟩]
def gtc (F : Hs Un.D gdp → Option (OSum Un gbl)) : LSpec Un := ⟨gk9, [(.slot 4, .nm 8)], gdp, gbl, F⟩
def gla : LSpec Un := gtc g5h
theorem gr8 : LSnd prog f12.ntmps 0 (g16g (g16e prog f12) 0) gla := fun h o ho => g5h.partial_correctness (fun h o => LAt (U := Un) prog f12.ntmps 0 (g16g (g16e prog f12) 0) gk9 gdp gbl h o) (fun F1 HF1 h o ho => LAt.of_round (fo := foS [gda, gho]) (lo := loL []) (own := [(.slot 4, .nm 8)]) (F' := F1) (FoSnd.cons F41_b gj8 (FoSnd.cons F42_b gpc FoSnd.nil)) (LoOk.snd LoOk.nil) HF1 (Eq.trans (by kernel_rfl) ho)) h o ho
def gly (payload : List UInt8) : Option (List SField × Int) :=
 g5h (0, payload, []) >>= fun o =>
 match o with
 | .inl o_1 =>
 some ([], o_1)
 | .inr o_2 =>
 some (o_2, 0)
def gw9 (F : Hs Un.D [.str] → Option (Hs Un.D [.slice (.nm 8), .int .i64])) : FSpec Un := ⟨12, [.c (.hole .str)], [], [.str], .tup [.c (.hole (.slice (.nm 8))), .c (.hole (.int .i64))], [], [.slice (.nm 8), .int .i64], F⟩
def gjb : FSpec Un := gw9 gly
theorem gud : FSnd prog gjb := FSnd.of fun h r hr => FAt.of_body (s := gjb) (fo := foS []) (lo := loL [(0, gla)]) func12 g14z g11y (by kernel_rfl) FoSnd.nil (LoOk.snd (LoOk.cons gr8 LoOk.nil)) (Eq.trans (by kernel_rfl) hr)
def gn5 (payload : List UInt8) : Option (Int × List UInt8 × Int) :=
 gh5 payload >>= fun r =>
 if (bif bif (!r.2.2) then true else decide (r.1 < 1) then true else decide (1000 < r.1)) = true then
 some (0, [], 12)
 else
 some (wrp .i64 r.1, r.2.1, 0)
theorem F16_b : g16h prog 16 = true := by kernel_rfl
theorem g150 : f16.body.bind (Shv.resolve prog f16.ntmps) = some (g16e prog f16) := by kernel_rfl
theorem g11z : g16f prog f16.results.toList = some [.tmp 2, .tmp 3, .tmp 4] := by kernel_rfl
def gxn (F : Hs Un.D [.str] → Option (Hs Un.D [.int .i64, .str, .int .i64])) : FSpec Un := ⟨16, [.c (.hole .str)], [], [.str], .tup [.c (.hole (.int .i64)), .c (.hole .str), .c (.hole (.int .i64))], [], [.int .i64, .str, .int .i64], F⟩
def gnx : FSpec Un := gxn gn5
theorem gws : FSnd prog gnx := FSnd.of fun h r hr => FAt.of_body (s := gnx) (fo := foS [gda]) (lo := loL []) func16 g150 g11z (by kernel_rfl) (FoSnd.cons F41_b gj8 FoSnd.nil) (LoOk.snd LoOk.nil) (Eq.trans (by kernel_rfl) hr)
def glz (x_ : List UInt8 × List UInt8) : Option (Bool) :=
 match x_ with
 | (a, b) =>
 some (bif decide ((a.length : Int) < (b.length : Int)) then true else bif decide ((a.length : Int) = (b.length : Int)) then Op.bytesLess a b else false)
theorem g151 : g16h prog 124 = true := by kernel_rfl
theorem g120 : f124.body.bind (Shv.resolve prog f124.ntmps) = some (g16e prog f124) := by kernel_rfl
theorem gzh : g16f prog f124.results.toList = some [.tmp 4] := by kernel_rfl
def gwa (F : Hs Un.D [.str, .str] → Option (Hs Un.D [.bool])) : FSpec Un := ⟨124, [.c (.hole .str), .c (.hole .str)], [], [.str, .str], .c (.hole .bool), [], [.bool], F⟩
def gjc : FSpec Un := gwa glz
theorem gue : FSnd prog gjc := FSnd.of fun h r hr => FAt.of_body (s := gjc) (fo := foS []) (lo := loL []) func124 g120 gzh (by kernel_rfl) FoSnd.nil (LoOk.snd LoOk.nil) (Eq.trans (by kernel_rfl) hr)
def g4w (x_ : List UInt8 × Int × Int × Int) : Option (Int) :=
 match x_ with
 | (s_1, n_1, t17_1, t18) =>
 if decide (t18 < t17_1) = true then
 if inR t18 s_1.length = true then
 g4w (s_1, orI .u64 (shlI .u64 n_1 8) (wrp .u64 (g17g s_1 t18)), t17_1, addI .i64 t18 1)
 else none
 else
 some n_1
  partial_fixpoint
theorem g152 : g16h prog 127 = true := by kernel_rfl
theorem g121 : f127.body.bind (Shv.resolve prog f127.ntmps) = some (g16e prog f127) := by kernel_rfl
theorem gzi : g16f prog f127.results.toList = some [.tmp 2, .tmp 3] := by kernel_rfl
def gjd : Shape := ⟨[(0, .c (.hole .str)), (4, .c (.hole (.int .u64))), (17, .c (.hole (.int .i64))), (18, .c (.hole (.int .i64)))], []⟩
def gcp : List Ty := [.str, .int .u64, .int .i64, .int .i64]
def gat : List OSpec := [⟨.exit 0, ⟨[(4, .c (.hole (.int .u64)))], []⟩, [], [.int .u64]⟩]
def gsk (F : Hs Un.D gcp → Option (OSum Un gat)) : LSpec Un := ⟨gjd, [], gcp, gat, F⟩
def gka : LSpec Un := gsk g4w
theorem gqf : LSnd prog f127.ntmps 0 (g16g (g16e prog f127) 0) gka := fun h o ho => g4w.partial_correctness (fun h o => LAt (U := Un) prog f127.ntmps 0 (g16g (g16e prog f127) 0) gjd gcp gat h o) (fun F1 HF1 h o ho => LAt.of_round (fo := foS []) (lo := loL []) (own := []) (F' := F1) FoSnd.nil (LoOk.snd LoOk.nil) HF1 (Eq.trans (by kernel_rfl) ho)) h o ho
def gkp (s : List UInt8) : Option (Int × Int) :=
 some (!(decide (s = []))) >>= fun t7 =>
 if (inR 0 s.length || (!t7)) = true then
 if (bif t7 then decide (g17g s 0 = 0) else false) = true then
 some (0, 2)
 else
 if decide (8 < (s.length : Int)) = true then
 some (0, 7)
 else
 g4w (s, 0, (s.length : Int), 0) >>= fun o =>
 some (o, 0)
 else none
def gv7 (F : Hs Un.D [.str] → Option (Hs Un.D [.int .u64, .int .i64])) : FSpec Un := ⟨127, [.c (.hole .str)], [], [.str], .tup [.c (.hole (.int .u64)), .c (.hole (.int .i64))], [], [.int .u64, .int .i64], F⟩
def gi5 : FSpec Un := gv7 gkp
theorem gtd : FSnd prog gi5 := FSnd.of fun h r hr => FAt.of_body (s := gi5) (fo := foS []) (lo := loL [(0, gka)]) func127 g121 gzi (by kernel_rfl) FoSnd.nil (LoOk.snd (LoOk.cons gqf LoOk.nil)) (Eq.trans (by kernel_rfl) hr)
def gje (n : Int) : Option (Int) :=
 some (xorI .i64 (wrp .i64 (shrI .u64 n 1)) (subI .i64 0 (wrp .i64 (andI .u64 n 1))))
theorem g153 : g16h prog 128 = true := by kernel_rfl
theorem g122 : f128.body.bind (Shv.resolve prog f128.ntmps) = some (g16e prog f128) := by kernel_rfl
theorem gzj : g16f prog f128.results.toList = some [.tmp 2] := by kernel_rfl
def guf (F : Hs Un.D [.int .u64] → Option (Hs Un.D [.int .i64])) : FSpec Un := ⟨128, [.c (.hole (.int .u64))], [], [.int .u64], .c (.hole (.int .i64)), [], [.int .i64], F⟩
def ggs : FSpec Un := guf gje
theorem gsl : FSnd prog ggs := FSnd.of fun h r hr => FAt.of_body (s := ggs) (fo := foS []) (lo := loL []) func128 g122 gzj (by kernel_rfl) FoSnd.nil (LoOk.snd LoOk.nil) (Eq.trans (by kernel_rfl) hr)
def ghp (x_ : SType × List UInt8) : Option (Bool) :=
 match x_ with
 | (x0, p) =>
 if decide (x0.Kind = 1) = true then
 some (bif decide (p = []) then true else decide (p = [1]))
 else
 if decide (x0.Kind = 3) = true then
 some (decide ((p.length : Int) ≤ x0.Max))
 else
 gkp p >>= fun r =>
 if (!(decide (r.2 = 0))) = true then
 some false
 else
 if decide (x0.Kind = 2) = true then
 gje r.1 >>= fun r_3 =>
 some (bif decide (x0.Low ≤ r_3) then decide (r_3 ≤ x0.High) else false)
 else
 if (bif decide (r.1 < 1) then true else decide (1000 < r.1)) = true then
 some false
 else
 gae (x0, wrp .i64 r.1) >>= fun r_4 =>
 some (bif r_4.2 then true else x0.Open)
theorem F83_b : g16h prog 83 = true := by kernel_rfl
theorem g154 : f83.body.bind (Shv.resolve prog f83.ntmps) = some (g16e prog f83) := by kernel_rfl
theorem g123 : g16f prog f83.results.toList = some [.tmp 4] := by kernel_rfl
def gwb (F : Hs Un.D [.nm 1, .str] → Option (Hs Un.D [.bool])) : FSpec Un := ⟨83, [.row 1, .c (.hole .str)], [], [.nm 1, .str], .c (.hole .bool), [], [.bool], F⟩
def gjf : FSpec Un := gwb ghp
theorem gug : FSnd prog gjf := FSnd.of fun h r hr => FAt.of_body (s := gjf) (fo := foS [gi5, ggs, ge4]) (lo := loL []) func83 g154 g123 (by kernel_rfl) (FoSnd.cons g152 gtd (FoSnd.cons g153 gsl (FoSnd.cons gy3 gmn FoSnd.nil))) (LoOk.snd LoOk.nil) (Eq.trans (by kernel_rfl) hr)
def g2f (x_ : Int × List SMember × Int × Int) : Option (Int) :=
 match x_ with
 | (seen_3, t93, t94_1, t95) =>
 if decide (t95 < t94_1) = true then
 if inR t95 t93.length = true then
 if (!(t93.getD t95.toNat dSMember).HasDefault) = true then
 g2f (subI .i64 seen_3 1, t93, t94_1, addI .i64 t95 1)
 else
 g2f (seen_3, t93, t94_1, addI .i64 t95 1)
 else none
 else
 some seen_3
  partial_fixpoint
theorem F80_b : g16h prog 80 = true := by kernel_rfl
theorem g155 : f80.body.bind (Shv.resolve prog f80.ntmps) = some (g16e prog f80) := by kernel_rfl
theorem g124 : g16f prog f80.results.toList = some [.tmp 8] := by kernel_rfl
def gdb : Shape := ⟨[(11, .c (.hole (.int .i64))), (93, .c (.hole (.slice (.nm 3)))), (94, .c (.hole (.int .i64))), (95, .c (.hole (.int .i64)))], []⟩
def g8c : List Ty := [.int .i64, .slice (.nm 3), .int .i64, .int .i64]
def g77 : List OSpec := [⟨.exit 2, ⟨[(11, .c (.hole (.int .i64)))], []⟩, [], [.int .i64]⟩]
def gn6 (F : Hs Un.D g8c → Option (OSum Un g77)) : LSpec Un := ⟨gdb, [], g8c, g77, F⟩
def geb : LSpec Un := gn6 g2f
theorem glb : LSnd prog f80.ntmps 0 (g16g (g16e prog f80) 1) geb := fun h o ho => g2f.partial_correctness (fun h o => LAt (U := Un) prog f80.ntmps 0 (g16g (g16e prog f80) 1) gdb g8c g77 h o) (fun F1 HF1 h o ho => LAt.of_round (fo := foS []) (lo := loL []) (own := []) (F' := F1) FoSnd.nil (LoOk.snd LoOk.nil) HF1 (Eq.trans (by kernel_rfl) ho)) h o ho
mutual
def gy (x_ : EncodeReader × Int × List UInt8 × Int) : Option (Bool) :=
 match x_ with
 | (r, t, p, level) =>
 if inR t r.s.Types.length = true then
 some (r.s.Types.getD t.toNat dSType) >>= fun x0 =>
 if decide (200 < level) = true then
 some false
 else
 if decide (x0.Kind = 5) = true then
 g8t ((⟨(⟨r.s.Types⟩ : SSchema)⟩ : EncodeReader), x0, p, level) >>= fun r_1 =>
 some r_1
 else
 some (decide (x0.Kind = 7)) >>= fun t33 =>
 if t33 = true then
 if t33 = true then
 g6y ((⟨(⟨r.s.Types⟩ : SSchema)⟩ : EncodeReader), x0, p, level) >>= fun r_2 =>
 some r_2
 else
 if decide (x0.Kind = 9) = true then
 some (decide (p = [])) >>= fun t43 =>
 if (inR 0 p.length || (!(!t43))) = true then
 some (decide (g17g p 0 = 1)) >>= fun t47 =>
 if (slR 1 (p.length : Int) p.length || (!((!t43) && t47))) = true then
 (if ((!t43) && t47) = true then gy ((⟨(⟨r.s.Types⟩ : SSchema)⟩ : EncodeReader), x0.Elem, cutL p 1 (p.length : Int), addI .i64 level 1) else some false) >>= fun r_3 =>
 some (bif t43 then true else bif t47 then r_3 else false)
 else none
 else none
 else
 if decide (x0.Kind = 6) = true then
 gn5 p >>= fun r_4 =>
 if (!(decide (r_4.2.2 = 0))) = true then
 some false
 else
 g2e (x0, r_4.1) >>= fun r_8 =>
 some (bif (!r_8.2) then x0.Open else false) >>= fun t80 =>
 if (inR r_8.1 x0.Members.length || (!((!t80) && r_8.2))) = true then
 (if ((!t80) && r_8.2) = true then gy ((⟨(⟨r.s.Types⟩ : SSchema)⟩ : EncodeReader), (x0.Members.getD r_8.1.toNat dSMember).Type_, r_4.2.1, addI .i64 level 1) else some false) >>= fun r_11 =>
 some (bif t80 then true else bif r_8.2 then r_11 else false)
 else none
 else
 ghp (x0, p) >>= fun r_12 =>
 some r_12
 else
 if decide (x0.Kind = 8) = true then
 g6y ((⟨(⟨r.s.Types⟩ : SSchema)⟩ : EncodeReader), x0, p, level) >>= fun r_13 =>
 some r_13
 else
 if decide (x0.Kind = 9) = true then
 some (decide (p = [])) >>= fun t43_1 =>
 if (inR 0 p.length || (!(!t43_1))) = true then
 some (decide (g17g p 0 = 1)) >>= fun t47_1 =>
 if (slR 1 (p.length : Int) p.length || (!((!t43_1) && t47_1))) = true then
 (if ((!t43_1) && t47_1) = true then gy ((⟨(⟨r.s.Types⟩ : SSchema)⟩ : EncodeReader), x0.Elem, cutL p 1 (p.length : Int), addI .i64 level 1) else some false) >>= fun r_14 =>
 some (bif t43_1 then true else bif t47_1 then r_14 else false)
 else none
 else none
 else
 if decide (x0.Kind = 6) = true then
 gn5 p >>= fun r_15 =>
 if (!(decide (r_15.2.2 = 0))) = true then
 some false
 else
 g2e (x0, r_15.1) >>= fun r_19 =>
 some (bif (!r_19.2) then x0.Open else false) >>= fun t80_1 =>
 if (inR r_19.1 x0.Members.length || (!((!t80_1) && r_19.2))) = true then
 (if ((!t80_1) && r_19.2) = true then gy ((⟨(⟨r.s.Types⟩ : SSchema)⟩ : EncodeReader), (x0.Members.getD r_19.1.toNat dSMember).Type_, r_15.2.1, addI .i64 level 1) else some false) >>= fun r_22 =>
 some (bif t80_1 then true else bif r_19.2 then r_22 else false)
 else none
 else
 ghp (x0, p) >>= fun r_23 =>
 some r_23
 else none
  partial_fixpoint
def g6y (x_ : EncodeReader × SType × List UInt8 × Int) : Option (Bool) :=
 match x_ with
 | (r, x0, p, level) =>
 gj9 p >>= fun r_1 =>
 if (!(decide (r_1.2 = 0))) = true then
 some false
 else
 if decide (x0.Kind = 7) = true then
 some (decide ((r_1.1.length : Int) ≤ x0.Max)) >>= fun t26 =>
 if t26 = true then
 g3m (r_1.1, r.s.Types, x0.Kind, x0.Name, x0.Low, x0.High, x0.Max, x0.Symbols, x0.Members, x0.Key, x0.Elem, x0.Open, level) >>= fun r_4 =>
 some (bif t26 then (!r_4.1) else false)
 else
 some (bif t26 then false else false)
 else
 if (bif decide (remI (r_1.1.length : Int) 2 = 1) then true else decide (x0.Max < quoI .i64 (r_1.1.length : Int) 2)) = true then
 some false
 else
 g57 (r_1.1, 0, r.s.Types, x0.Kind, x0.Name, x0.Low, x0.High, x0.Max, x0.Symbols, x0.Members, x0.Key, x0.Elem, x0.Open, level) >>= fun o =>
 match o with
 | .inl o_1 =>
 some o_1
 | .inr o_2 =>
 some true
  partial_fixpoint
def g6w (x_ : List UInt8 × List SType × Int × List UInt8 × Int × Int × Int × List SSymbol × List SMember × Int × Int × Bool × Int) : Option (Bool × List SType × Int × List UInt8 × Int × Int × Int × List SSymbol × List SMember × Int × Int × Bool × Int) :=
 match x_ with
 | (p, b, b_1, b_2, b_3, b_4, b_5, b_6, b_7, b_8, b_9, b_10, b_11) =>
 gy ((⟨(⟨b⟩ : SSchema)⟩ : EncodeReader), b_9, p, addI .i64 b_11 1) >>= fun r =>
 some ((!r), b, b_1, b_2, b_3, b_4, b_5, b_6, b_7, b_8, b_9, b_10, b_11)
  partial_fixpoint
def g8t (x_ : EncodeReader × SType × List UInt8 × Int) : Option (Bool) :=
 match x_ with
 | (r, x0, p, level) =>
 gly p >>= fun r_1 =>
 if (!(decide (r_1.2 = 0))) = true then
 some false
 else
 g2g (level, 0, r_1.1, (r_1.1.length : Int), 0, r.s.Types, x0) >>= fun o =>
 match o with
 | .inl o_1 =>
 some o_1
 | .inr o_2 =>
 g2f (o_2.1, o_2.2.Members, (o_2.2.Members.length : Int), 0) >>= fun o_3 =>
 some (decide (o_3 = 0))
  partial_fixpoint
def g3m (x_ : List (List UInt8) × List SType × Int × List UInt8 × Int × Int × Int × List SSymbol × List SMember × Int × Int × Bool × Int) : Option (Bool × List SType × Int × List UInt8 × Int × Int × Int × List SSymbol × List SMember × Int × Int × Bool × Int) :=
 match x_ with
 | (s, b, b_1, b_2, b_3, b_4, b_5, b_6, b_7, b_8, b_9, b_10, b_11) =>
 g45 (s, b, b_1, b_2, b_3, b_4, b_5, b_6, b_7, b_8, b_9, b_10, b_11) >>= fun r =>
 some (decide (0 ≤ r.1), r.2.1, r.2.2.1, r.2.2.2.1, r.2.2.2.2.1, r.2.2.2.2.2.1, r.2.2.2.2.2.2.1, r.2.2.2.2.2.2.2.1, r.2.2.2.2.2.2.2.2.1, r.2.2.2.2.2.2.2.2.2.1, r.2.2.2.2.2.2.2.2.2.2.1, r.2.2.2.2.2.2.2.2.2.2.2.1, r.2.2.2.2.2.2.2.2.2.2.2.2)
  partial_fixpoint
def g45 (x_ : List (List UInt8) × List SType × Int × List UInt8 × Int × Int × Int × List SSymbol × List SMember × Int × Int × Bool × Int) : Option (Int × List SType × Int × List UInt8 × Int × Int × Int × List SSymbol × List SMember × Int × Int × Bool × Int) :=
 match x_ with
 | (s, b, b_1, b_2, b_3, b_4, b_5, b_6, b_7, b_8, b_9, b_10, b_11) =>
 g2j (s, (s.length : Int), 0, b, b_1, b_2, b_3, b_4, b_5, b_6, b_7, b_8, b_9, b_10, b_11) >>= fun o =>
 match o with
 | .inl o_1 =>
 some (o_1.1, o_1.2.1, o_1.2.2.1, o_1.2.2.2.1, o_1.2.2.2.2.1, o_1.2.2.2.2.2.1, o_1.2.2.2.2.2.2.1, o_1.2.2.2.2.2.2.2.1, o_1.2.2.2.2.2.2.2.2.1, o_1.2.2.2.2.2.2.2.2.2.1, o_1.2.2.2.2.2.2.2.2.2.2.1, o_1.2.2.2.2.2.2.2.2.2.2.2.1, o_1.2.2.2.2.2.2.2.2.2.2.2.2)
 | .inr o_2 =>
 some ((-1), o_2.1, o_2.2.1, o_2.2.2.1, o_2.2.2.2.1, o_2.2.2.2.2.1, o_2.2.2.2.2.2.1, o_2.2.2.2.2.2.2.1, o_2.2.2.2.2.2.2.2.1, o_2.2.2.2.2.2.2.2.2.1, o_2.2.2.2.2.2.2.2.2.2.1, o_2.2.2.2.2.2.2.2.2.2.2.1, o_2.2.2.2.2.2.2.2.2.2.2.2)
  partial_fixpoint
def g57 (x_ : List (List UInt8) × Int × List SType × Int × List UInt8 × Int × Int × Int × List SSymbol × List SMember × Int × Int × Bool × Int) : Option ((Bool) ⊕ (Unit)) :=
 match x_ with
 | (l, i, b, b_1, b_2, b_3, b_4, b_5, b_6, b_7, b_8, b_9, b_10, b_11) =>
 if decide (i < (l.length : Int)) = true then
 if inR i l.length = true then
 gy ((⟨(⟨b⟩ : SSchema)⟩ : EncodeReader), b_8, l.getD i.toNat [], addI .i64 b_11 1) >>= fun r_18 =>
 some (!r_18) >>= fun t61 =>
 some (addI .i64 i 1) >>= fun t68 =>
 if (inR t68 l.length || (!(!t61))) = true then
 (if (!t61) = true then gy ((⟨(⟨b⟩ : SSchema)⟩ : EncodeReader), b_9, l.getD t68.toNat [], addI .i64 b_11 1) else some false) >>= fun r_19 =>
 some (bif t61 then true else (!r_19)) >>= fun t75 =>
 some (decide (0 < i)) >>= fun t78 =>
 some (subI .i64 i 2) >>= fun t82 =>
 if (inR t82 l.length || (!((!t75) && t78))) = true then
 if (inR i l.length || (!((!t75) && t78))) = true then
 (if ((!t75) && t78) = true then glz (l.getD t82.toNat [], l.getD i.toNat []) else some false) >>= fun r_20 =>
 if (bif t75 then true else bif t78 then (!r_20) else false) = true then
 some (.inl false)
 else
 g57 (l, addI .i64 i 2, b, b_1, b_2, b_3, b_4, b_5, b_6, b_7, b_8, b_9, b_10, b_11)
 else none
 else none
 else none
 else none
 else
 some (.inr ())
  partial_fixpoint
def g2g (x_ : Int × Int × List SField × Int × Int × List SType × SType) : Option ((Bool) ⊕ (Int × SType)) :=
 match x_ with
 | (level_1, seen_2, t27, t28_1, t29, b_1, b_2) =>
 if decide (t29 < t28_1) = true then
 if inR t29 t27.length = true then
 some (t27.getD t29.toNat dSField) >>= fun x0_1 =>
 g2e (b_2, x0_1.ID) >>= fun r_4 =>
 if (!r_4.2) = true then
 if x0_1.Critical = true then
 some (.inl false)
 else
 g2g (level_1, seen_2, t27, t28_1, addI .i64 t29 1, b_1, b_2)
 else
 if inR r_4.1 b_2.Members.length = true then
 some (b_2.Members.getD r_4.1.toNat dSMember) >>= fun x0_2 =>
 some (!(eqB x0_1.Critical x0_2.Critical)) >>= fun t53 =>
 (if (!t53) = true then gy ((⟨(⟨b_1⟩ : SSchema)⟩ : EncodeReader), x0_2.Type_, x0_1.Data, addI .i64 level_1 1) else some false) >>= fun r_7 =>
 if (bif t53 then true else (!r_7)) = true then
 some (.inl false)
 else
 if x0_2.HasDefault = true then
 ggb ((⟨b_1⟩ : SSchema), x0_2.Type_, SValue.eta x0_2.Default) >>= fun r_8 =>
 if r_8 = true then
 gv (x0_2.Type_, SValue.eta x0_2.Default, 1, b_1, 0) >>= fun r_9 =>
 if (bif r_8 then decide (r_9.1 = x0_1.Data) else false) = true then
 some (.inl false)
 else
 g2g (level_1, seen_2, t27, t28_1, addI .i64 t29 1, b_1, b_2)
 else
 if (bif r_8 then false else false) = true then
 some (.inl false)
 else
 g2g (level_1, seen_2, t27, t28_1, addI .i64 t29 1, b_1, b_2)
 else
 g2g (level_1, addI .i64 seen_2 1, t27, t28_1, addI .i64 t29 1, b_1, b_2)
 else none
 else none
 else
 some (.inr (seen_2, b_2))
  partial_fixpoint
def g2j (x_ : List (List UInt8) × Int × Int × List SType × Int × List UInt8 × Int × Int × Int × List SSymbol × List SMember × Int × Int × Bool × Int) : Option ((Int × List SType × Int × List UInt8 × Int × Int × Int × List SSymbol × List SMember × Int × Int × Bool × Int) ⊕ (List SType × Int × List UInt8 × Int × Int × Int × List SSymbol × List SMember × Int × Int × Bool × Int)) :=
 match x_ with
 | (s_1, t7_1, t8, b_36, b_37, b_38, b_39, b_40, b_41, b_42, b_43, b_44, b_45, b_46, b_47) =>
 if decide (t8 < t7_1) = true then
 if inR t8 s_1.length = true then
 g6w (s_1.getD t8.toNat [], b_36, b_37, b_38, b_39, b_40, b_41, b_42, b_43, b_44, b_45, b_46, b_47) >>= fun r =>
 if r.1 = true then
 some (.inl (t8, r.2.1, r.2.2.1, r.2.2.2.1, r.2.2.2.2.1, r.2.2.2.2.2.1, r.2.2.2.2.2.2.1, r.2.2.2.2.2.2.2.1, r.2.2.2.2.2.2.2.2.1, r.2.2.2.2.2.2.2.2.2.1, r.2.2.2.2.2.2.2.2.2.2.1, r.2.2.2.2.2.2.2.2.2.2.2.1, r.2.2.2.2.2.2.2.2.2.2.2.2))
 else
 g2j (s_1, t7_1, addI .i64 t8 1, r.2.1, r.2.2.1, r.2.2.2.1, r.2.2.2.2.1, r.2.2.2.2.2.1, r.2.2.2.2.2.2.1, r.2.2.2.2.2.2.2.1, r.2.2.2.2.2.2.2.2.1, r.2.2.2.2.2.2.2.2.2.1, r.2.2.2.2.2.2.2.2.2.2.1, r.2.2.2.2.2.2.2.2.2.2.2.1, r.2.2.2.2.2.2.2.2.2.2.2.2)
 else none
 else
 some (.inr (b_36, b_37, b_38, b_39, b_40, b_41, b_42, b_43, b_44, b_45, b_46, b_47))
  partial_fixpoint
end
theorem F53_b : g16h prog 53 = true := by kernel_rfl
theorem g156 : f53.body.bind (Shv.resolve prog f53.ntmps) = some (g16e prog f53) := by kernel_rfl
theorem g125 : g16f prog f53.results.toList = some [.tmp 8] := by kernel_rfl
def g3c (F : Hs Un.D [.nm 7, .int .i64, .str, .int .i64] → Option (Hs Un.D [.bool])) : FSpec Un := ⟨53, [.row 7, .c (.hole (.int .i64)), .c (.hole .str), .c (.hole (.int .i64))], [], [.nm 7, .int .i64, .str, .int .i64], .c (.hole .bool), [], [.bool], F⟩
def g5x : FSpec Un := g3c gy
theorem F81_b : g16h prog 81 = true := by kernel_rfl
theorem g157 : f81.body.bind (Shv.resolve prog f81.ntmps) = some (g16e prog f81) := by kernel_rfl
theorem g126 : g16f prog f81.results.toList = some [.tmp 8] := by kernel_rfl
def gic (F : Hs Un.D [.nm 7, .nm 1, .str, .int .i64] → Option (Hs Un.D [.bool])) : FSpec Un := ⟨81, [.row 7, .row 1, .c (.hole .str), .c (.hole (.int .i64))], [], [.nm 7, .nm 1, .str, .int .i64], .c (.hole .bool), [], [.bool], F⟩
def gbm : FSpec Un := gic g6y
def gec : Shape := ⟨[(4, .c (.ptr 0 0)), (5, .c (.ptr 1 0)), (7, .c (.ptr 2 0)), (9, .c (.hole (.slice .str))), (11, .c (.hole (.int .i64)))], [.box [.hole (.slice (.nm 1))], .box [.hole (.int .i64), .hole .str, .hole (.int .i64), .hole (.int .i64), .hole (.int .i64), .hole (.slice (.nm 2)), .hole (.slice (.nm 3)), .hole (.int .i64), .hole (.int .i64), .hole .bool], .box [.hole (.int .i64)]]⟩
def g8u : List Ty := [.slice .str, .int .i64, .slice (.nm 1), .int .i64, .str, .int .i64, .int .i64, .int .i64, .slice (.nm 2), .slice (.nm 3), .int .i64, .int .i64, .bool, .int .i64]
def g7n : List OSpec := [⟨.ret, ⟨[(8, .c (.hole .bool))], []⟩, [], [.bool]⟩, ⟨.exit 0, ⟨[], []⟩, [], []⟩]
def gfg (F : Hs Un.D g8u → Option (OSum Un g7n)) : LSpec Un := ⟨gec, [], g8u, g7n, F⟩
def gny : LSpec Un := gfg g57
theorem g158 : g16h prog 122 = true := by kernel_rfl
theorem g127 : f122.body.bind (Shv.resolve prog f122.ntmps) = some (g16e prog f122) := by kernel_rfl
theorem gzk : g16f prog f122.results.toList = some [.tmp 4] := by kernel_rfl
def g7o (F : Hs Un.D [.slice .str, .slice (.nm 1), .int .i64, .str, .int .i64, .int .i64, .int .i64, .slice (.nm 2), .slice (.nm 3), .int .i64, .int .i64, .bool, .int .i64] → Option (Hs Un.D [.bool, .slice (.nm 1), .int .i64, .str, .int .i64, .int .i64, .int .i64, .slice (.nm 2), .slice (.nm 3), .int .i64, .int .i64, .bool, .int .i64])) : FSpec Un := ⟨122, [.c (.hole (.slice .str)), .c (.fn 123 [0, 1, 2])], [.box [.hole (.slice (.nm 1))], .box [.hole (.int .i64), .hole .str, .hole (.int .i64), .hole (.int .i64), .hole (.int .i64), .hole (.slice (.nm 2)), .hole (.slice (.nm 3)), .hole (.int .i64), .hole (.int .i64), .hole .bool], .box [.hole (.int .i64)]], [.slice .str, .slice (.nm 1), .int .i64, .str, .int .i64, .int .i64, .int .i64, .slice (.nm 2), .slice (.nm 3), .int .i64, .int .i64, .bool, .int .i64], .c (.hole .bool), [.box [.hole (.slice (.nm 1))], .box [.hole (.int .i64), .hole .str, .hole (.int .i64), .hole (.int .i64), .hole (.int .i64), .hole (.slice (.nm 2)), .hole (.slice (.nm 3)), .hole (.int .i64), .hole (.int .i64), .hole .bool], .box [.hole (.int .i64)]], [.bool, .slice (.nm 1), .int .i64, .str, .int .i64, .int .i64, .int .i64, .slice (.nm 2), .slice (.nm 3), .int .i64, .int .i64, .bool, .int .i64], F⟩
def g4l : FSpec Un := g7o g3m
theorem g159 : g16h prog 151 = true := by kernel_rfl
theorem g128 : f151.body.bind (Shv.resolve prog f151.ntmps) = some (g16e prog f151) := by kernel_rfl
theorem gzl : g16f prog f151.results.toList = some [.tmp 4] := by kernel_rfl
def g9c (F : Hs Un.D [.slice .str, .slice (.nm 1), .int .i64, .str, .int .i64, .int .i64, .int .i64, .slice (.nm 2), .slice (.nm 3), .int .i64, .int .i64, .bool, .int .i64] → Option (Hs Un.D [.int .i64, .slice (.nm 1), .int .i64, .str, .int .i64, .int .i64, .int .i64, .slice (.nm 2), .slice (.nm 3), .int .i64, .int .i64, .bool, .int .i64])) : FSpec Un := ⟨151, [.c (.hole (.slice .str)), .c (.fn 123 [0, 1, 2])], [.box [.hole (.slice (.nm 1))], .box [.hole (.int .i64), .hole .str, .hole (.int .i64), .hole (.int .i64), .hole (.int .i64), .hole (.slice (.nm 2)), .hole (.slice (.nm 3)), .hole (.int .i64), .hole (.int .i64), .hole .bool], .box [.hole (.int .i64)]], [.slice .str, .slice (.nm 1), .int .i64, .str, .int .i64, .int .i64, .int .i64, .slice (.nm 2), .slice (.nm 3), .int .i64, .int .i64, .bool, .int .i64], .c (.hole (.int .i64)), [.box [.hole (.slice (.nm 1))], .box [.hole (.int .i64), .hole .str, .hole (.int .i64), .hole (.int .i64), .hole (.int .i64), .hole (.slice (.nm 2)), .hole (.slice (.nm 3)), .hole (.int .i64), .hole (.int .i64), .hole .bool], .box [.hole (.int .i64)]], [.int .i64, .slice (.nm 1), .int .i64, .str, .int .i64, .int .i64, .int .i64, .slice (.nm 2), .slice (.nm 3), .int .i64, .int .i64, .bool, .int .i64], F⟩
def g58 : FSpec Un := g9c g45
def g7i : Shape := ⟨[(0, .c (.hole (.slice .str))), (1, .c (.fn 123 [0, 1, 2])), (7, .c (.hole (.int .i64))), (8, .c (.hole (.int .i64)))], [.box [.hole (.slice (.nm 1))], .box [.hole (.int .i64), .hole .str, .hole (.int .i64), .hole (.int .i64), .hole (.int .i64), .hole (.slice (.nm 2)), .hole (.slice (.nm 3)), .hole (.int .i64), .hole (.int .i64), .hole .bool], .box [.hole (.int .i64)]]⟩
def g4h : List Ty := [.slice .str, .int .i64, .int .i64, .slice (.nm 1), .int .i64, .str, .int .i64, .int .i64, .int .i64, .slice (.nm 2), .slice (.nm 3), .int .i64, .int .i64, .bool, .int .i64]
def g44 : List OSpec := [⟨.ret, ⟨[(4, .c (.hole (.int .i64)))], [.box [.hole (.slice (.nm 1))], .box [.hole (.int .i64), .hole .str, .hole (.int .i64), .hole (.int .i64), .hole (.int .i64), .hole (.slice (.nm 2)), .hole (.slice (.nm 3)), .hole (.int .i64), .hole (.int .i64), .hole .bool], .box [.hole (.int .i64)]]⟩, [], [.int .i64, .slice (.nm 1), .int .i64, .str, .int .i64, .int .i64, .int .i64, .slice (.nm 2), .slice (.nm 3), .int .i64, .int .i64, .bool, .int .i64]⟩, ⟨.exit 0, ⟨[], [.box [.hole (.slice (.nm 1))], .box [.hole (.int .i64), .hole .str, .hole (.int .i64), .hole (.int .i64), .hole (.int .i64), .hole (.slice (.nm 2)), .hole (.slice (.nm 3)), .hole (.int .i64), .hole (.int .i64), .hole .bool], .box [.hole (.int .i64)]]⟩, [], [.slice (.nm 1), .int .i64, .str, .int .i64, .int .i64, .int .i64, .slice (.nm 2), .slice (.nm 3), .int .i64, .int .i64, .bool, .int .i64]⟩]
def g7p (F : Hs Un.D g4h → Option (OSum Un g44)) : LSpec Un := ⟨g7i, [], g4h, g44, F⟩
def gfh : LSpec Un := g7p g2j
theorem g15a : g16h prog 123 = true := by kernel_rfl
theorem g129 : f123.body.bind (Shv.resolve prog f123.ntmps) = some (g16e prog f123) := by kernel_rfl
theorem gzm : g16f prog f123.results.toList = some [.tmp 5] := by kernel_rfl
def ged (F : Hs Un.D [.str, .slice (.nm 1), .int .i64, .str, .int .i64, .int .i64, .int .i64, .slice (.nm 2), .slice (.nm 3), .int .i64, .int .i64, .bool, .int .i64] → Option (Hs Un.D [.bool, .slice (.nm 1), .int .i64, .str, .int .i64, .int .i64, .int .i64, .slice (.nm 2), .slice (.nm 3), .int .i64, .int .i64, .bool, .int .i64])) : FSpec Un := ⟨123, [.c (.hole .str), .c (.ptr 0 0), .c (.ptr 1 0), .c (.ptr 2 0)], [.box [.hole (.slice (.nm 1))], .box [.hole (.int .i64), .hole .str, .hole (.int .i64), .hole (.int .i64), .hole (.int .i64), .hole (.slice (.nm 2)), .hole (.slice (.nm 3)), .hole (.int .i64), .hole (.int .i64), .hole .bool], .box [.hole (.int .i64)]], [.str, .slice (.nm 1), .int .i64, .str, .int .i64, .int .i64, .int .i64, .slice (.nm 2), .slice (.nm 3), .int .i64, .int .i64, .bool, .int .i64], .c (.hole .bool), [.box [.hole (.slice (.nm 1))], .box [.hole (.int .i64), .hole .str, .hole (.int .i64), .hole (.int .i64), .hole (.int .i64), .hole (.slice (.nm 2)), .hole (.slice (.nm 3)), .hole (.int .i64), .hole (.int .i64), .hole .bool], .box [.hole (.int .i64)]], [.bool, .slice (.nm 1), .int .i64, .str, .int .i64, .int .i64, .int .i64, .slice (.nm 2), .slice (.nm 3), .int .i64, .int .i64, .bool, .int .i64], F⟩
def g8v : FSpec Un := ged g6w
def gh6 (F : Hs Un.D [.nm 7, .nm 1, .str, .int .i64] → Option (Hs Un.D [.bool])) : FSpec Un := ⟨80, [.row 7, .row 1, .c (.hole .str), .c (.hole (.int .i64))], [], [.nm 7, .nm 1, .str, .int .i64], .c (.hole .bool), [], [.bool], F⟩
def gau : FSpec Un := gh6 g8t
def gdc : Shape := ⟨[(3, .c (.hole (.int .i64))), (4, .c (.ptr 0 0)), (5, .c (.ptr 1 0)), (11, .c (.hole (.int .i64))), (27, .c (.hole (.slice (.nm 8)))), (28, .c (.hole (.int .i64))), (29, .c (.hole (.int .i64)))], [.box [.hole (.slice (.nm 1))], .brow 1]⟩
def g8d : List Ty := [.int .i64, .int .i64, .slice (.nm 8), .int .i64, .int .i64, .slice (.nm 1), .nm 1]
def g78 : List OSpec := [⟨.ret, ⟨[(8, .c (.hole .bool))], []⟩, [], [.bool]⟩, ⟨.exit 0, ⟨[(5, .c (.ptr 0 0)), (11, .c (.hole (.int .i64)))], [.brow 1]⟩, [], [.int .i64, .nm 1]⟩]
def gee (F : Hs Un.D g8d → Option (OSum Un g78)) : LSpec Un := ⟨gdc, [], g8d, g78, F⟩
def gn7 : LSpec Un := gee g2g
theorem glc : (FSnd prog g5x) ∧ (FSnd prog gbm) ∧ (LSnd prog f81.ntmps 0 (g16g (g16e prog f81) 0) gny) ∧ (FSnd prog g4l) ∧ (FSnd prog g58) ∧ (LSnd prog f151.ntmps 3 (g16g (g16e prog f151) 0) gfh) ∧ (FSnd prog g8v) ∧ (FSnd prog gau) ∧ (LSnd prog f80.ntmps 0 (g16g (g16e prog f80) 0) gn7) := gy.mutual_partial_correctness (fun h r => FAt prog g5x h r) (fun h r => FAt prog gbm h r) (fun h o => LAt (U := Un) prog f81.ntmps 0 (g16g (g16e prog f81) 0) gec g8u g7n h o) (fun h r => FAt prog g4l h r) (fun h r => FAt prog g58 h r) (fun h o => LAt (U := Un) prog f151.ntmps 3 (g16g (g16e prog f151) 0) g7i g4h g44 h o) (fun h r => FAt prog g8v h r) (fun h r => FAt prog gau h r) (fun h o => LAt (U := Un) prog f80.ntmps 0 (g16g (g16e prog f80) 0) gdc g8d g78 h o)
 (fun F1 F2 F8 HF1 HF2 HF8 h o ho => FAt.of_body (s := (g3c F1)) (fo := foS [gh6 F8, gic F2, g3c F1, gnx, g68, gjf]) (lo := loL []) func53 g156 g125 (by kernel_rfl) (FoSnd.cons F80_b HF8 (FoSnd.cons F81_b HF2 (FoSnd.cons F53_b HF1 (FoSnd.cons F16_b gws (FoSnd.cons F82_b g8l (FoSnd.cons F83_b gug FoSnd.nil)))))) (LoOk.snd LoOk.nil) (Eq.trans (by kernel_rfl) ho))
 (fun F3 F4 HF3 HF4 h o ho => FAt.of_body (s := gbm) (fo := foS [ggf, g7o F4]) (lo := loL [(0, gfg F3)]) func81 g157 g126 (by kernel_rfl) (FoSnd.cons F14_b gnw (FoSnd.cons g158 HF4 FoSnd.nil)) (LoOk.snd (LoOk.cons HF3 LoOk.nil)) (Eq.trans (by kernel_rfl) ho))
 (fun F1 F3 HF1 HF3 h o ho => LAt.of_round (fo := foS [g3c F1, gjc]) (lo := loL []) (own := []) (F' := F3) (FoSnd.cons F53_b HF1 (FoSnd.cons g151 gue FoSnd.nil)) (LoOk.snd LoOk.nil) HF3 (Eq.trans (by kernel_rfl) ho))
 (fun F5 HF5 h o ho => FAt.of_body (s := g4l) (fo := foS [g9c F5]) (lo := loL []) func122 g127 gzk (by kernel_rfl) (FoSnd.cons g159 HF5 FoSnd.nil) (LoOk.snd LoOk.nil) (Eq.trans (by kernel_rfl) ho))
 (fun F6 HF6 h o ho => FAt.of_body (s := g58) (fo := foS []) (lo := loL [(0, g7p F6)]) func151 g128 gzl (by kernel_rfl) FoSnd.nil (LoOk.snd (LoOk.cons HF6 LoOk.nil)) (Eq.trans (by kernel_rfl) ho))
 (fun F6 F7 HF6 HF7 h o ho => LAt.of_round (fo := foS [ged F7]) (lo := loL []) (own := []) (F' := F6) (FoSnd.cons g15a HF7 FoSnd.nil) (LoOk.snd LoOk.nil) HF6 (Eq.trans (by kernel_rfl) ho))
 (fun F1 HF1 h o ho => FAt.of_body (s := g8v) (fo := foS [g3c F1]) (lo := loL []) func123 g129 gzm (by kernel_rfl) (FoSnd.cons F53_b HF1 FoSnd.nil) (LoOk.snd LoOk.nil) (Eq.trans (by kernel_rfl) ho))
 (fun F9 HF9 h o ho => FAt.of_body (s := gau) (fo := foS [gjb]) (lo := loL [(0, gee F9), (1, geb)]) func80 g155 g124 (by kernel_rfl) (FoSnd.cons F12_b gud FoSnd.nil) (LoOk.snd (LoOk.cons HF9 (LoOk.cons glb LoOk.nil))) (Eq.trans (by kernel_rfl) ho))
 (fun F1 F9 HF1 HF9 h o ho => LAt.of_round (fo := foS [g68, g3c F1, gj7, g3w]) (lo := loL []) (own := []) (F' := F9) (FoSnd.cons F82_b g8l (FoSnd.cons F53_b HF1 (FoSnd.cons F95_b gqe (FoSnd.cons F57_b g8r FoSnd.nil)))) (LoOk.snd LoOk.nil) HF9 (Eq.trans (by kernel_rfl) ho))
theorem gld : FSnd prog g5x := glc.1
end
section
open Go Go.Proofs.YthnmepafpikaiaaGreat.Shv
open Tryz
set_option maxRecDepth 100000
def gcq (x_ : SSchema × Int × List UInt8) : Option (Bool) :=
 match x_ with
 | (s, t, m) =>
 gbe ((⟨s.Types⟩ : SSchema), t) >>= fun r =>
 some (bif decide (r = 0) then decide ((m.length : Int) ≤ 4096) else false) >>= fun t15 =>
 (if t15 = true then gy ((⟨(⟨s.Types⟩ : SSchema)⟩ : EncodeReader), t, m, 1) else some false) >>= fun r_1 =>
 some (bif t15 then r_1 else false)
theorem F21_b : g16h prog 21 = true := by kernel_rfl
theorem g15b : f21.body.bind (Shv.resolve prog f21.ntmps) = some (g16e prog f21) := by kernel_rfl
theorem g12a : g16f prog f21.results.toList = some [.tmp 6] := by kernel_rfl
def gte (F : Hs Un.D [.nm 0, .int .i64, .str] → Option (Hs Un.D [.bool])) : FSpec Un := ⟨21, [.row 0, .c (.hole (.int .i64)), .c (.hole .str)], [], [.nm 0, .int .i64, .str], .c (.hole .bool), [], [.bool], F⟩
def gfi : FSpec Un := gte gcq
theorem gr9 : FSnd prog gfi := FSnd.of fun h r hr => FAt.of_body (s := gfi) (fo := foS [gcl, g5x]) (lo := loL []) func21 g15b g12a (by kernel_rfl) (FoSnd.cons F52_b gl3 (FoSnd.cons F53_b gld FoSnd.nil)) (LoOk.snd LoOk.nil) (Eq.trans (by kernel_rfl) hr)
def g8m (_ : Unit) : Option (Bool) :=
 g52 () >>= fun r =>
 gb9 ((-2), 3) >>= fun r_1 =>
 g4s (r, 3, SValue.eta r_1) >>= fun r_2 =>
 g52 () >>= fun r_5 =>
 gb9 ((-2), 0) >>= fun r_6 =>
 g4s (r_5, 3, SValue.eta r_6) >>= fun r_7 =>
 gj9 [1, 97, 0] >>= fun r_10 =>
 some (bif bif bif bif decide (r_2.2 = 0) then decide (r_7.2 = 0) else false then decide (r_10.2 = 0) else false then decide (r_2.1 = [2, 1, 3, 7, 2, 97, 98]) else false then decide (r_7.1 = [2, 1, 3, 4, 0, 7, 2, 97, 98]) else false) >>= fun t40 =>
 (if t40 = true then g8s (r_10.1, [[97], []]) else some false) >>= fun r_13 =>
 some (bif t40 then r_13 else false) >>= fun t45 =>
 (if t45 = true then g52 () else some dSSchema) >>= fun r_14 =>
 (if t45 = true then gcq (r_14, 3, r_2.1) else some false) >>= fun r_15 =>
 some (bif t45 then r_15 else false) >>= fun t50 =>
 (if t50 = true then g52 () else some dSSchema) >>= fun r_16 =>
 (if t50 = true then gcq (r_16, 3, [2, 1, 3, 4, 1, 6, 7, 2, 97, 98]) else some false) >>= fun r_17 =>
 some (bif t50 then (!r_17) else false)
theorem F11_b : g16h prog 11 = true := by kernel_rfl
theorem g15c : f11.body.bind (Shv.resolve prog f11.ntmps) = some (g16e prog f11) := by kernel_rfl
theorem g12b : g16f prog f11.results.toList = some [.tmp 0] := by kernel_rfl
def gsm (F : Hs Un.D [] → Option (Hs Un.D [.bool])) : FSpec Un := ⟨11, [], [], [], .c (.hole .bool), [], [.bool], F⟩
def gdq : FSpec Un := gsm g8m
theorem gqg : FSnd prog gdq := FSnd.of fun h r hr => FAt.of_body (s := gdq) (fo := foS [gbd, gdm, gea, ggf, g7m, gfi]) (lo := loL []) func11 g15c g12b (by kernel_rfl) (FoSnd.cons F38_b gop (FoSnd.cons F39_b gq7 (FoSnd.cons F26_b gmp (FoSnd.cons F14_b gnw (FoSnd.cons F40_b gk4 (FoSnd.cons F21_b gr9 FoSnd.nil)))))) (LoOk.snd LoOk.nil) (Eq.trans (by kernel_rfl) hr)
def g3j (x_ : Int × Int × SValue) : Option (Int) :=
 match x_ with
 | (n_5, i_2, b_4) =>
 if decide (i_2 < (b_4.Rest.length : Int)) = true then
 if inR i_2 b_4.Rest.length = true then
 g3j (addI .i64 (addI .i64 n_5 1) ((b_4.Rest.getD i_2.toNat dSRaw).Data.length : Int), addI .i64 i_2 1, SValue.eta b_4)
 else none
 else
 some n_5
  partial_fixpoint
theorem F62_b : g16h prog 62 = true := by kernel_rfl
theorem g15d : f62.body.bind (Shv.resolve prog f62.ntmps) = some (g16e prog f62) := by kernel_rfl
theorem g12c : g16f prog f62.results.toList = some [.tmp 2] := by kernel_rfl
def gh7 : Shape := ⟨[(1, .c (.ptr 0 0)), (3, .c (.hole (.int .i64))), (6, .c (.hole (.int .i64)))], [.brow 4]⟩
def gav : List Ty := [.int .i64, .int .i64, .nm 4]
def g9i : List OSpec := [⟨.exit 4, ⟨[(3, .c (.hole (.int .i64)))], []⟩, [], [.int .i64]⟩]
def gqh (F : Hs Un.D gav → Option (OSum Un g9i)) : LSpec Un := ⟨gh7, [], gav, g9i, F⟩
def gid : LSpec Un := gqh g3j
theorem goq : LSnd prog f62.ntmps 0 (g16g (g16e prog f62) 2) gid := fun h o ho => g3j.partial_correctness (fun h o => LAt (U := Un) prog f62.ntmps 0 (g16g (g16e prog f62) 2) gh7 gav g9i h o) (fun F1 HF1 h o ho => LAt.of_round (fo := foS []) (lo := loL []) (own := []) (F' := F1) FoSnd.nil (LoOk.snd LoOk.nil) HF1 (Eq.trans (by kernel_rfl) ho)) h o ho
mutual
def g3y (v : SValue) : Option (Int) :=
 g4a (addI .i64 1 (v.Str.length : Int), 0, SValue.eta v) >>= fun o =>
 g4b (o.1, 0, SValue.eta o.2) >>= fun o_1 =>
 g3j (o_1.1, 0, SValue.eta o_1.2) >>= fun o_2 =>
 some o_2
  partial_fixpoint
def g4a (x_ : Int × Int × SValue) : Option (Int × SValue) :=
 match x_ with
 | (n_3, i, b_2) =>
 if decide (i < (b_2.Keys.length : Int)) = true then
 if inR i b_2.Keys.length = true then
 g3y (SValue.eta (b_2.Keys.getD i.toNat dSValue)) >>= fun r =>
 g4a (addI .i64 n_3 r, addI .i64 i 1, SValue.eta b_2)
 else none
 else
 some (n_3, SValue.eta b_2)
  partial_fixpoint
def g4b (x_ : Int × Int × SValue) : Option (Int × SValue) :=
 match x_ with
 | (n_4, i_1, b_3) =>
 if decide (i_1 < (b_3.Items.length : Int)) = true then
 if inR i_1 b_3.Items.length = true then
 g3y (SValue.eta (b_3.Items.getD i_1.toNat dSValue)) >>= fun r_1 =>
 g4b (addI .i64 n_4 r_1, addI .i64 i_1 1, SValue.eta b_3)
 else none
 else
 some (n_4, SValue.eta b_3)
  partial_fixpoint
end
def gfj (F : Hs Un.D [.nm 4] → Option (Hs Un.D [.int .i64])) : FSpec Un := ⟨62, [.row 4], [], [.nm 4], .c (.hole (.int .i64)), [], [.int .i64], F⟩
def g7q : FSpec Un := gfj g3y
def gh8 : Shape := ⟨[(1, .c (.ptr 0 0)), (3, .c (.hole (.int .i64))), (5, .c (.hole (.int .i64)))], [.brow 4]⟩
def gaw : List Ty := [.int .i64, .int .i64, .nm 4]
def g9j : List OSpec := [⟨.exit 2, ⟨[(1, .c (.ptr 0 0)), (3, .c (.hole (.int .i64)))], [.brow 4]⟩, [], [.int .i64, .nm 4]⟩]
def gie (F : Hs Un.D gaw → Option (OSum Un g9j)) : LSpec Un := ⟨gh8, [], gaw, g9j, F⟩
def gqi : LSpec Un := gie g4b
def gh9 : Shape := ⟨[(1, .c (.ptr 0 0)), (3, .c (.hole (.int .i64))), (4, .c (.hole (.int .i64)))], [.brow 4]⟩
def gax : List Ty := [.int .i64, .int .i64, .nm 4]
def g9k : List OSpec := [⟨.exit 0, ⟨[(1, .c (.ptr 0 0)), (3, .c (.hole (.int .i64)))], [.brow 4]⟩, [], [.int .i64, .nm 4]⟩]
def gif (F : Hs Un.D gax → Option (OSum Un g9k)) : LSpec Un := ⟨gh9, [], gax, g9k, F⟩
def gqj : LSpec Un := gif g4a
theorem gra : (FSnd prog g7q) ∧ (LSnd prog f62.ntmps 0 (g16g (g16e prog f62) 1) gqi) ∧ (LSnd prog f62.ntmps 0 (g16g (g16e prog f62) 0) gqj) := g3y.mutual_partial_correctness (fun h r => FAt prog g7q h r) (fun h o => LAt (U := Un) prog f62.ntmps 0 (g16g (g16e prog f62) 1) gh8 gaw g9j h o) (fun h o => LAt (U := Un) prog f62.ntmps 0 (g16g (g16e prog f62) 0) gh9 gax g9k h o)
 (fun F2 F3 HF2 HF3 h o ho => FAt.of_body (s := g7q) (fo := foS []) (lo := loL [(0, gif F3), (1, gie F2), (2, gid)]) func62 g15d g12c (by kernel_rfl) FoSnd.nil (LoOk.snd (LoOk.cons HF3 (LoOk.cons HF2 (LoOk.cons goq LoOk.nil)))) (Eq.trans (by kernel_rfl) ho))
 (fun F1 F2 HF1 HF2 h o ho => LAt.of_round (fo := foS [gfj F1]) (lo := loL []) (own := []) (F' := F2) (FoSnd.cons F62_b HF1 FoSnd.nil) (LoOk.snd LoOk.nil) HF2 (Eq.trans (by kernel_rfl) ho))
 (fun F1 F3 HF1 HF3 h o ho => LAt.of_round (fo := foS [gfj F1]) (lo := loL []) (own := []) (F' := F3) (FoSnd.cons F62_b HF1 FoSnd.nil) (LoOk.snd LoOk.nil) HF3 (Eq.trans (by kernel_rfl) ho))
theorem grb : FSnd prog g7q := gra.1
def g38 (x_ : Int × Int × Int × List SType × SType) : Option (Int × Int × List SType) :=
 match x_ with
 | (n_3, i_2, k, b_2, b_3) =>
 if (bif decide (k < (b_3.Members.length : Int)) then decide (k < 100) else false) = true then
 if inR k b_3.Members.length = true then
 g3y (SValue.eta (b_3.Members.getD k.toNat dSMember).Default) >>= fun r =>
 if inR k b_3.Members.length = true then
 g38 (addI .i64 (addI .i64 n_3 r) ((b_3.Members.getD k.toNat dSMember).Name.length : Int), i_2, addI .i64 k 1, b_2, b_3)
 else none
 else none
 else
 some (n_3, i_2, b_2)
  partial_fixpoint
theorem F30_b : g16h prog 30 = true := by kernel_rfl
theorem g15e : f30.body.bind (Shv.resolve prog f30.ntmps) = some (g16e prog f30) := by kernel_rfl
theorem g12d : g16f prog f30.results.toList = some [.tmp 2] := by kernel_rfl
def ggg : Shape := ⟨[(1, .c (.ptr 0 0)), (3, .c (.hole (.int .i64))), (4, .c (.hole (.int .i64))), (5, .c (.ptr 1 0)), (6, .c (.hole (.int .i64)))], [.box [.hole (.slice (.nm 1))], .brow 1]⟩
def ga4 : List Ty := [.int .i64, .int .i64, .int .i64, .slice (.nm 1), .nm 1]
def g8w : List OSpec := [⟨.exit 2, ⟨[(1, .c (.ptr 0 0)), (3, .c (.hole (.int .i64))), (4, .c (.hole (.int .i64)))], [.box [.hole (.slice (.nm 1))]]⟩, [], [.int .i64, .int .i64, .slice (.nm 1)]⟩]
def gpr (F : Hs Un.D ga4 → Option (OSum Un g8w)) : LSpec Un := ⟨ggg, [], ga4, g8w, F⟩
def gha : LSpec Un := gpr g38
theorem gnz : LSnd prog f30.ntmps 0 (g16g (g16g (g16e prog f30) 0) 0) gha := fun h o ho => g38.partial_correctness (fun h o => LAt (U := Un) prog f30.ntmps 0 (g16g (g16g (g16e prog f30) 0) 0) ggg ga4 g8w h o) (fun F1 HF1 h o ho => LAt.of_round (fo := foS [g7q]) (lo := loL []) (own := []) (F' := F1) (FoSnd.cons F62_b grb FoSnd.nil) (LoOk.snd LoOk.nil) HF1 (Eq.trans (by kernel_rfl) ho)) h o ho
def g3u (x_ : Int × Int × List SType) : Option (Int) :=
 match x_ with
 | (n_1, i, b) =>
 if decide (i < (b.length : Int)) = true then
 if inR i b.length = true then
 some (b.getD i.toNat dSType) >>= fun x0 =>
 g38 (addI .i64 (addI .i64 (addI .i64 n_1 (x0.Members.length : Int)) (x0.Symbols.length : Int)) (x0.Name.length : Int), i, 0, b, x0) >>= fun o_1 =>
 g3u (o_1.1, addI .i64 o_1.2.1 1, o_1.2.2)
 else none
 else
 some n_1
  partial_fixpoint
def gig : Shape := ⟨[(1, .c (.ptr 0 0)), (3, .c (.hole (.int .i64))), (4, .c (.hole (.int .i64)))], [.box [.hole (.slice (.nm 1))]]⟩
def gbn : List Ty := [.int .i64, .int .i64, .slice (.nm 1)]
def ga5 : List OSpec := [⟨.exit 0, ⟨[(3, .c (.hole (.int .i64)))], []⟩, [], [.int .i64]⟩]
def grc (F : Hs Un.D gbn → Option (OSum Un ga5)) : LSpec Un := ⟨gig, [], gbn, ga5, F⟩
def gjg : LSpec Un := grc g3u
theorem gps : LSnd prog f30.ntmps 0 (g16g (g16e prog f30) 0) gjg := fun h o ho => g3u.partial_correctness (fun h o => LAt (U := Un) prog f30.ntmps 0 (g16g (g16e prog f30) 0) gig gbn ga5 h o) (fun F1 HF1 h o ho => LAt.of_round (fo := foS []) (lo := loL [(0, gha)]) (own := []) (F' := F1) FoSnd.nil (LoOk.snd (LoOk.cons gnz LoOk.nil)) HF1 (Eq.trans (by kernel_rfl) ho)) h o ho
def gef (s : SSchema) : Option (Bool) :=
 if decide (40 < (s.Types.length : Int)) = true then
 some false
 else
 g3u (0, 0, s.Types) >>= fun o =>
 some (decide (o ≤ 400))
def guh (F : Hs Un.D [.nm 0] → Option (Hs Un.D [.bool])) : FSpec Un := ⟨30, [.row 0], [], [.nm 0], .c (.hole .bool), [], [.bool], F⟩
def ggt : FSpec Un := guh gef
theorem gsn : FSnd prog ggt := FSnd.of fun h r hr => FAt.of_body (s := ggt) (fo := foS []) (lo := loL [(0, gjg)]) func30 g15e g12d (by kernel_rfl) FoSnd.nil (LoOk.snd (LoOk.cons gps LoOk.nil)) (Eq.trans (by kernel_rfl) hr)
def g3k (x_ : Int × Int × SValue) : Option (Int × SValue) :=
 match x_ with
 | (n_4, i, b_2) =>
 if (bif decide (i < (b_2.Rest.length : Int)) then decide (0 ≤ n_4) else false) = true then
 if inR i b_2.Rest.length = true then
 g3k (subI .i64 n_4 ((b_2.Rest.getD i.toNat dSRaw).Data.length : Int), addI .i64 i 1, SValue.eta b_2)
 else none
 else
 some (n_4, SValue.eta b_2)
  partial_fixpoint
theorem F63_b : g16h prog 63 = true := by kernel_rfl
theorem g15f : f63.body.bind (Shv.resolve prog f63.ntmps) = some (g16e prog f63) := by kernel_rfl
theorem g12e : g16f prog f63.results.toList = some [.tmp 4] := by kernel_rfl
def ghb : Shape := ⟨[(1, .c (.hole (.int .i64))), (2, .c (.ptr 0 0)), (5, .c (.hole (.int .i64)))], [.brow 4]⟩
def gay : List Ty := [.int .i64, .int .i64, .nm 4]
def g9l : List OSpec := [⟨.exit 0, ⟨[(1, .c (.hole (.int .i64))), (2, .c (.ptr 0 0))], [.brow 4]⟩, [], [.int .i64, .nm 4]⟩]
def gqk (F : Hs Un.D gay → Option (OSum Un g9l)) : LSpec Un := ⟨ghb, [], gay, g9l, F⟩
def gih : LSpec Un := gqk g3k
theorem gor : LSnd prog f63.ntmps 0 (g16g (g16e prog f63) 0) gih := fun h o ho => g3k.partial_correctness (fun h o => LAt (U := Un) prog f63.ntmps 0 (g16g (g16e prog f63) 0) ghb gay g9l h o) (fun F1 HF1 h o ho => LAt.of_round (fo := foS []) (lo := loL []) (own := []) (F' := F1) FoSnd.nil (LoOk.snd LoOk.nil) HF1 (Eq.trans (by kernel_rfl) ho)) h o ho
end
section
open Go Go.Proofs.YthnmepafpikaiaaGreat.Shv
open Tryz
set_option maxRecDepth 100000
mutual
def g3z (x_ : SValue × Int) : Option (Int) :=
 match x_ with
 | (v, n) =>
 g3k (subI .i64 n (addI .i64 (addI .i64 10 (v.Str.length : Int)) (v.Rest.length : Int)), 0, SValue.eta v) >>= fun o =>
 g4c (o.1, 0, SValue.eta o.2) >>= fun o_1 =>
 g4d (o_1.1, 0, SValue.eta o_1.2) >>= fun o_2 =>
 some o_2
  partial_fixpoint
def g4c (x_ : Int × Int × SValue) : Option (Int × SValue) :=
 match x_ with
 | (n_5, i_1, b_3) =>
 if (bif decide (i_1 < (b_3.Keys.length : Int)) then decide (0 ≤ n_5) else false) = true then
 if inR i_1 b_3.Keys.length = true then
 g3z (SValue.eta (b_3.Keys.getD i_1.toNat dSValue), n_5) >>= fun r =>
 g4c (r, addI .i64 i_1 1, SValue.eta b_3)
 else none
 else
 some (n_5, SValue.eta b_3)
  partial_fixpoint
def g4d (x_ : Int × Int × SValue) : Option (Int) :=
 match x_ with
 | (n_6, i_2, b_4) =>
 if (bif decide (i_2 < (b_4.Items.length : Int)) then decide (0 ≤ n_6) else false) = true then
 if inR i_2 b_4.Items.length = true then
 g3z (SValue.eta (b_4.Items.getD i_2.toNat dSValue), n_6) >>= fun r_1 =>
 g4d (r_1, addI .i64 i_2 1, SValue.eta b_4)
 else none
 else
 some n_6
  partial_fixpoint
end
def gfk (F : Hs Un.D [.nm 4, .int .i64] → Option (Hs Un.D [.int .i64])) : FSpec Un := ⟨63, [.row 4, .c (.hole (.int .i64))], [], [.nm 4, .int .i64], .c (.hole (.int .i64)), [], [.int .i64], F⟩
def g7r : FSpec Un := gfk g3z
def ghc : Shape := ⟨[(1, .c (.hole (.int .i64))), (2, .c (.ptr 0 0)), (7, .c (.hole (.int .i64)))], [.brow 4]⟩
def gaz : List Ty := [.int .i64, .int .i64, .nm 4]
def g9m : List OSpec := [⟨.exit 4, ⟨[(1, .c (.hole (.int .i64)))], []⟩, [], [.int .i64]⟩]
def gii (F : Hs Un.D gaz → Option (OSum Un g9m)) : LSpec Un := ⟨ghc, [], gaz, g9m, F⟩
def gql : LSpec Un := gii g4d
def ghd : Shape := ⟨[(1, .c (.hole (.int .i64))), (2, .c (.ptr 0 0)), (6, .c (.hole (.int .i64)))], [.brow 4]⟩
def gb0 : List Ty := [.int .i64, .int .i64, .nm 4]
def g9n : List OSpec := [⟨.exit 2, ⟨[(1, .c (.hole (.int .i64))), (2, .c (.ptr 0 0))], [.brow 4]⟩, [], [.int .i64, .nm 4]⟩]
def gij (F : Hs Un.D gb0 → Option (OSum Un g9n)) : LSpec Un := ⟨ghd, [], gb0, g9n, F⟩
def gqm : LSpec Un := gij g4c
theorem grd : (FSnd prog g7r) ∧ (LSnd prog f63.ntmps 0 (g16g (g16e prog f63) 2) gql) ∧ (LSnd prog f63.ntmps 0 (g16g (g16e prog f63) 1) gqm) := g3z.mutual_partial_correctness (fun h r => FAt prog g7r h r) (fun h o => LAt (U := Un) prog f63.ntmps 0 (g16g (g16e prog f63) 2) ghc gaz g9m h o) (fun h o => LAt (U := Un) prog f63.ntmps 0 (g16g (g16e prog f63) 1) ghd gb0 g9n h o)
 (fun F2 F3 HF2 HF3 h o ho => FAt.of_body (s := g7r) (fo := foS []) (lo := loL [(0, gih), (1, gij F3), (2, gii F2)]) func63 g15f g12e (by kernel_rfl) FoSnd.nil (LoOk.snd (LoOk.cons gor (LoOk.cons HF3 (LoOk.cons HF2 LoOk.nil)))) (Eq.trans (by kernel_rfl) ho))
 (fun F1 F2 HF1 HF2 h o ho => LAt.of_round (fo := foS [gfk F1]) (lo := loL []) (own := []) (F' := F2) (FoSnd.cons F63_b HF1 FoSnd.nil) (LoOk.snd LoOk.nil) HF2 (Eq.trans (by kernel_rfl) ho))
 (fun F1 F3 HF1 HF3 h o ho => LAt.of_round (fo := foS [gfk F1]) (lo := loL []) (own := []) (F' := F3) (FoSnd.cons F63_b HF1 FoSnd.nil) (LoOk.snd LoOk.nil) HF3 (Eq.trans (by kernel_rfl) ho))
theorem gre : FSnd prog g7r := grd.1
def gba (v : SValue) : Option (Bool) :=
 g3z (SValue.eta v, 3000) >>= fun r =>
 some (decide (0 ≤ r))
theorem F31_b : g16h prog 31 = true := by kernel_rfl
theorem g15g : f31.body.bind (Shv.resolve prog f31.ntmps) = some (g16e prog f31) := by kernel_rfl
theorem g12f : g16f prog f31.results.toList = some [.tmp 2] := by kernel_rfl
def gso (F : Hs Un.D [.nm 4] → Option (Hs Un.D [.bool])) : FSpec Un := ⟨31, [.row 4], [], [.nm 4], .c (.hole .bool), [], [.bool], F⟩
def gdr : FSpec Un := gso gba
theorem gqn : FSnd prog gdr := FSnd.of fun h r hr => FAt.of_body (s := gdr) (fo := foS [g7r]) (lo := loL []) func31 g15g g12f (by kernel_rfl) (FoSnd.cons F63_b gre FoSnd.nil) (LoOk.snd LoOk.nil) (Eq.trans (by kernel_rfl) hr)
def g2k (t : SType) : Option (SType) :=
 if decide (t.Kind = 1) = true then
 some (⟨t.Kind, [], 0, 0, 0, [], [], 0, 0, false⟩ : SType)
 else
 if decide (t.Kind = 2) = true then
 some (⟨t.Kind, [], t.Low, t.High, 0, [], [], 0, 0, false⟩ : SType)
 else
 if decide (t.Kind = 3) = true then
 some (⟨t.Kind, [], 0, 0, t.Max, [], [], 0, 0, false⟩ : SType)
 else
 if decide (t.Kind = 4) = true then
 some (⟨t.Kind, t.Name, 0, 0, 0, t.Symbols, [], 0, 0, t.Open⟩ : SType)
 else
 if decide (t.Kind = 5) = true then
 some (⟨t.Kind, t.Name, 0, 0, 0, [], t.Members, 0, 0, false⟩ : SType)
 else
 if decide (t.Kind = 6) = true then
 some (⟨t.Kind, t.Name, 0, 0, 0, [], t.Members, 0, 0, t.Open⟩ : SType)
 else
 if decide (t.Kind = 7) = true then
 some (⟨t.Kind, [], 0, 0, t.Max, [], [], 0, t.Elem, false⟩ : SType)
 else
 if decide (t.Kind = 8) = true then
 some (⟨t.Kind, [], 0, 0, t.Max, [], [], t.Key, t.Elem, false⟩ : SType)
 else
 some (⟨t.Kind, [], 0, 0, 0, [], [], 0, t.Elem, false⟩ : SType)
theorem g15h : g16h prog 109 = true := by kernel_rfl
theorem g12g : f109.body.bind (Shv.resolve prog f109.ntmps) = some (g16e prog f109) := by kernel_rfl
theorem gzn : g16f prog f109.results.toList = some [.cell 2 true 10] := by kernel_rfl
def gsp (F : Hs Un.D [.nm 1] → Option (Hs Un.D [.nm 1])) : FSpec Un := ⟨109, [.row 1], [], [.nm 1], .row 1, [], [.nm 1], F⟩
def gds : FSpec Un := gsp g2k
theorem gqo : FSnd prog gds := FSnd.of fun h r hr => FAt.of_body (s := gds) (fo := foS []) (lo := loL []) func109 g12g gzn (by kernel_rfl) FoSnd.nil (LoOk.snd LoOk.nil) (Eq.trans (by kernel_rfl) hr)
def g1v (x_ : Int × SValue × SValue) : Option ((Bool) ⊕ (SValue × SValue)) :=
 match x_ with
 | (i, b_3, b_4) =>
 if decide (i < (b_3.Rest.length : Int)) = true then
 if inR i b_3.Rest.length = true then
 some (b_3.Rest.getD i.toNat dSRaw) >>= fun x0 =>
 if inR i b_4.Rest.length = true then
 some (b_4.Rest.getD i.toNat dSRaw) >>= fun x0_1 =>
 if (!(eqI x0.ID x0_1.ID && (eqS x0.Data x0_1.Data && true))) = true then
 some (.inl false)
 else
 g1v (addI .i64 i 1, SValue.eta b_3, SValue.eta b_4)
 else none
 else none
 else
 some (.inr (SValue.eta b_3, SValue.eta b_4))
  partial_fixpoint
theorem F58_b : g16h prog 58 = true := by kernel_rfl
theorem g15i : f58.body.bind (Shv.resolve prog f58.ntmps) = some (g16e prog f58) := by kernel_rfl
theorem g12h : g16f prog f58.results.toList = some [.tmp 4] := by kernel_rfl
def gc7 : Shape := ⟨[(2, .c (.ptr 0 0)), (3, .c (.ptr 1 0)), (5, .c (.hole (.int .i64)))], [.brow 4, .brow 4]⟩
def g7s : List Ty := [.int .i64, .nm 4, .nm 4]
def g6r : List OSpec := [⟨.ret, ⟨[(4, .c (.hole .bool))], []⟩, [], [.bool]⟩, ⟨.exit 0, ⟨[(2, .c (.ptr 0 0)), (3, .c (.ptr 1 0))], [.brow 4, .brow 4]⟩, [], [.nm 4, .nm 4]⟩]
def gm0 (F : Hs Un.D g7s → Option (OSum Un g6r)) : LSpec Un := ⟨gc7, [], g7s, g6r, F⟩
def gdd : LSpec Un := gm0 g1v
theorem gkq : LSnd prog f58.ntmps 0 (g16g (g16e prog f58) 0) gdd := fun h o ho => g1v.partial_correctness (fun h o => LAt (U := Un) prog f58.ntmps 0 (g16g (g16e prog f58) 0) gc7 g7s g6r h o) (fun F1 HF1 h o ho => LAt.of_round (fo := foS []) (lo := loL []) (own := []) (F' := F1) FoSnd.nil (LoOk.snd LoOk.nil) HF1 (Eq.trans (by kernel_rfl) ho)) h o ho
mutual
def g11 (x_ : SValue × SValue) : Option (Bool) :=
 match x_ with
 | (a, b) =>
 if (bif bif bif bif bif (!(decide (a.Kind = b.Kind))) then true else (!(eqB a.Bool_ b.Bool_)) then true else (!(decide (a.Int_ = b.Int_))) then true else (!(decide (a.Str = b.Str))) then true else (!(decide (a.ID = b.ID))) then true else (!(decide ((a.Rest.length : Int) = (b.Rest.length : Int))))) = true then
 some false
 else
 g1v (0, (⟨a.Kind, a.Bool_, a.Int_, a.Str, a.ID, a.Keys, a.Items, a.Rest⟩ : SValue), (⟨b.Kind, b.Bool_, b.Int_, b.Str, b.ID, b.Keys, b.Items, b.Rest⟩ : SValue)) >>= fun o =>
 match o with
 | .inl o_1 =>
 some o_1
 | .inr o_2 =>
 g59 (o_2.1.Keys, o_2.2.Keys) >>= fun r =>
 (if r = true then g59 (o_2.1.Items, o_2.2.Items) else some false) >>= fun r_1 =>
 some (bif r then r_1 else false)
  partial_fixpoint
def g59 (x_ : List SValue × List SValue) : Option (Bool) :=
 match x_ with
 | (a, b) =>
 if (!(decide ((a.length : Int) = (b.length : Int)))) = true then
 some false
 else
 g3d (a, b, 0) >>= fun o =>
 match o with
 | .inl o_1 =>
 some o_1
 | .inr o_2 =>
 some true
  partial_fixpoint
def g3d (x_ : List SValue × List SValue × Int) : Option ((Bool) ⊕ (Unit)) :=
 match x_ with
 | (a_1, b_1, i) =>
 if decide (i < (a_1.length : Int)) = true then
 if inR i a_1.length = true then
 if inR i b_1.length = true then
 g11 (SValue.eta (a_1.getD i.toNat dSValue), SValue.eta (b_1.getD i.toNat dSValue)) >>= fun r =>
 if (!r) = true then
 some (.inl false)
 else
 g3d (a_1, b_1, addI .i64 i 1)
 else none
 else none
 else
 some (.inr ())
  partial_fixpoint
end
def ggh (F : Hs Un.D [.nm 4, .nm 4] → Option (Hs Un.D [.bool])) : FSpec Un := ⟨58, [.row 4, .row 4], [], [.nm 4, .nm 4], .c (.hole .bool), [], [.bool], F⟩
def g2h : FSpec Un := ggh g11
theorem g15j : g16h prog 101 = true := by kernel_rfl
theorem g12i : f101.body.bind (Shv.resolve prog f101.ntmps) = some (g16e prog f101) := by kernel_rfl
theorem gzo : g16f prog f101.results.toList = some [.tmp 4] := by kernel_rfl
def gfl (F : Hs Un.D [.slice (.nm 4), .slice (.nm 4)] → Option (Hs Un.D [.bool])) : FSpec Un := ⟨101, [.c (.hole (.slice (.nm 4))), .c (.hole (.slice (.nm 4)))], [], [.slice (.nm 4), .slice (.nm 4)], .c (.hole .bool), [], [.bool], F⟩
def g9o : FSpec Un := gfl g59
def gbo : Shape := ⟨[(0, .c (.hole (.slice (.nm 4)))), (1, .c (.hole (.slice (.nm 4)))), (5, .c (.hole (.int .i64)))], []⟩
def g79 : List Ty := [.slice (.nm 4), .slice (.nm 4), .int .i64]
def g6f : List OSpec := [⟨.ret, ⟨[(4, .c (.hole .bool))], []⟩, [], [.bool]⟩, ⟨.exit 0, ⟨[], []⟩, [], []⟩]
def gc8 (F : Hs Un.D g79 → Option (OSum Un g6f)) : LSpec Un := ⟨gbo, [], g79, g6f, F⟩
def gle : LSpec Un := gc8 g3d
theorem gn8 : (FSnd prog g2h) ∧ (FSnd prog g9o) ∧ (LSnd prog f101.ntmps 0 (g16g (g16e prog f101) 0) gle) := g11.mutual_partial_correctness (fun h r => FAt prog g2h h r) (fun h r => FAt prog g9o h r) (fun h o => LAt (U := Un) prog f101.ntmps 0 (g16g (g16e prog f101) 0) gbo g79 g6f h o)
 (fun F2 HF2 h o ho => FAt.of_body (s := g2h) (fo := foS [gfl F2]) (lo := loL [(0, gdd)]) func58 g15i g12h (by kernel_rfl) (FoSnd.cons g15j HF2 FoSnd.nil) (LoOk.snd (LoOk.cons gkq LoOk.nil)) (Eq.trans (by kernel_rfl) ho))
 (fun F3 HF3 h o ho => FAt.of_body (s := g9o) (fo := foS []) (lo := loL [(0, gc8 F3)]) func101 g12i gzo (by kernel_rfl) FoSnd.nil (LoOk.snd (LoOk.cons HF3 LoOk.nil)) (Eq.trans (by kernel_rfl) ho))
 (fun F1 F3 HF1 HF3 h o ho => LAt.of_round (fo := foS [ggh F1]) (lo := loL []) (own := []) (F' := F3) (FoSnd.cons F58_b HF1 FoSnd.nil) (LoOk.snd LoOk.nil) HF3 (Eq.trans (by kernel_rfl) ho))
theorem g5y : FSnd prog g2h := gn8.1
def g5a (x_ : SMember × SMember) : Option (Bool) :=
 match x_ with
 | (a, b) =>
 some (bif bif bif bif decide (a.ID = b.ID) then decide (a.Name = b.Name) else false then decide (a.Type_ = b.Type_) else false then eqB a.Critical b.Critical else false then eqB a.HasDefault b.HasDefault else false) >>= fun t37 =>
 (if t37 = true then g11 ((⟨a.Default.Kind, a.Default.Bool_, a.Default.Int_, a.Default.Str, a.Default.ID, a.Default.Keys, a.Default.Items, a.Default.Rest⟩ : SValue), (⟨b.Default.Kind, b.Default.Bool_, b.Default.Int_, b.Default.Str, b.Default.ID, b.Default.Keys, b.Default.Items, b.Default.Rest⟩ : SValue)) else some false) >>= fun r =>
 some (bif t37 then r else false)
theorem g15k : g16h prog 141 = true := by kernel_rfl
theorem g12j : f141.body.bind (Shv.resolve prog f141.ntmps) = some (g16e prog f141) := by kernel_rfl
theorem gzp : g16f prog f141.results.toList = some [.tmp 4] := by kernel_rfl
def go0 (F : Hs Un.D [.nm 3, .nm 3] → Option (Hs Un.D [.bool])) : FSpec Un := ⟨141, [.row 3, .row 3], [], [.nm 3, .nm 3], .c (.hole .bool), [], [.bool], F⟩
def g9p : FSpec Un := go0 g5a
theorem gm1 : FSnd prog g9p := FSnd.of fun h r hr => FAt.of_body (s := g9p) (fo := foS [g2h]) (lo := loL []) func141 g12j gzp (by kernel_rfl) (FoSnd.cons F58_b g5y FoSnd.nil) (LoOk.snd LoOk.nil) (Eq.trans (by kernel_rfl) hr)
def g20 (x_ : Int × SType × SType) : Option ((Bool) ⊕ (SType × SType)) :=
 match x_ with
 | (i, b_3, b_4) =>
 if decide (i < (b_3.Symbols.length : Int)) = true then
 if inR i b_3.Symbols.length = true then
 some (b_3.Symbols.getD i.toNat dSSymbol) >>= fun x0 =>
 if inR i b_4.Symbols.length = true then
 some (b_4.Symbols.getD i.toNat dSSymbol) >>= fun x0_1 =>
 if (!(eqI x0.ID x0_1.ID && (eqS x0.Name x0_1.Name && true))) = true then
 some (.inl false)
 else
 g20 (addI .i64 i 1, b_3, b_4)
 else none
 else none
 else
 some (.inr (b_3, b_4))
  partial_fixpoint
theorem g15l : g16h prog 108 = true := by kernel_rfl
theorem g12k : f108.body.bind (Shv.resolve prog f108.ntmps) = some (g16e prog f108) := by kernel_rfl
theorem gzq : g16f prog f108.results.toList = some [.tmp 4] := by kernel_rfl
def gde : Shape := ⟨[(2, .c (.ptr 0 0)), (3, .c (.ptr 1 0)), (5, .c (.hole (.int .i64)))], [.brow 1, .brow 1]⟩
def g8e : List Ty := [.int .i64, .nm 1, .nm 1]
def g7a : List OSpec := [⟨.ret, ⟨[(4, .c (.hole .bool))], []⟩, [], [.bool]⟩, ⟨.exit 0, ⟨[(2, .c (.ptr 0 0)), (3, .c (.ptr 1 0))], [.brow 1, .brow 1]⟩, [], [.nm 1, .nm 1]⟩]
def gn9 (F : Hs Un.D g8e → Option (OSum Un g7a)) : LSpec Un := ⟨gde, [], g8e, g7a, F⟩
def geg : LSpec Un := gn9 g20
theorem glf : LSnd prog f108.ntmps 0 (g16g (g16e prog f108) 0) geg := fun h o ho => g20.partial_correctness (fun h o => LAt (U := Un) prog f108.ntmps 0 (g16g (g16e prog f108) 0) gde g8e g7a h o) (fun F1 HF1 h o ho => LAt.of_round (fo := foS []) (lo := loL []) (own := []) (F' := F1) FoSnd.nil (LoOk.snd LoOk.nil) HF1 (Eq.trans (by kernel_rfl) ho)) h o ho
def g21 (x_ : Int × SType × SType) : Option ((Bool) ⊕ (Unit)) :=
 match x_ with
 | (i_1, b_5, b_6) =>
 if decide (i_1 < (b_5.Members.length : Int)) = true then
 if inR i_1 b_5.Members.length = true then
 some (b_5.Members.getD i_1.toNat dSMember) >>= fun x0_2 =>
 if inR i_1 b_6.Members.length = true then
 some (b_6.Members.getD i_1.toNat dSMember) >>= fun x0_3 =>
 g5a ((⟨x0_2.ID, x0_2.Name, x0_2.Type_, x0_2.Critical, x0_2.HasDefault, SValue.eta x0_2.Default⟩ : SMember), (⟨x0_3.ID, x0_3.Name, x0_3.Type_, x0_3.Critical, x0_3.HasDefault, SValue.eta x0_3.Default⟩ : SMember)) >>= fun r =>
 if (!r) = true then
 some (.inl false)
 else
 g21 (addI .i64 i_1 1, b_5, b_6)
 else none
 else none
 else
 some (.inr ())
  partial_fixpoint
def gdf : Shape := ⟨[(2, .c (.ptr 0 0)), (3, .c (.ptr 1 0)), (6, .c (.hole (.int .i64)))], [.brow 1, .brow 1]⟩
def g8f : List Ty := [.int .i64, .nm 1, .nm 1]
def g7b : List OSpec := [⟨.ret, ⟨[(4, .c (.hole .bool))], []⟩, [], [.bool]⟩, ⟨.exit 2, ⟨[], []⟩, [], []⟩]
def gna (F : Hs Un.D g8f → Option (OSum Un g7b)) : LSpec Un := ⟨gdf, [], g8f, g7b, F⟩
def geh : LSpec Un := gna g21
theorem glg : LSnd prog f108.ntmps 0 (g16g (g16e prog f108) 1) geh := fun h o ho => g21.partial_correctness (fun h o => LAt (U := Un) prog f108.ntmps 0 (g16g (g16e prog f108) 1) gdf g8f g7b h o) (fun F1 HF1 h o ho => LAt.of_round (fo := foS [g9p]) (lo := loL []) (own := []) (F' := F1) (FoSnd.cons g15k gm1 FoSnd.nil) (LoOk.snd LoOk.nil) HF1 (Eq.trans (by kernel_rfl) ho)) h o ho
def g8x (x_ : SType × SType) : Option (Bool) :=
 match x_ with
 | (a, b) =>
 if (bif bif bif bif bif bif bif bif bif (!(decide (a.Kind = b.Kind))) then true else (!(decide (a.Name = b.Name))) then true else (!(decide (a.Low = b.Low))) then true else (!(decide (a.High = b.High))) then true else (!(decide (a.Max = b.Max))) then true else (!(decide (a.Key = b.Key))) then true else (!(decide (a.Elem = b.Elem))) then true else (!(eqB a.Open b.Open)) then true else (!(decide ((a.Symbols.length : Int) = (b.Symbols.length : Int)))) then true else (!(decide ((a.Members.length : Int) = (b.Members.length : Int))))) = true then
 some false
 else
 g20 (0, (⟨a.Kind, a.Name, a.Low, a.High, a.Max, a.Symbols, a.Members, a.Key, a.Elem, a.Open⟩ : SType), (⟨b.Kind, b.Name, b.Low, b.High, b.Max, b.Symbols, b.Members, b.Key, b.Elem, b.Open⟩ : SType)) >>= fun o =>
 match o with
 | .inl o_1 =>
 some o_1
 | .inr o_2 =>
 g21 (0, o_2.1, o_2.2) >>= fun o_3 =>
 match o_3 with
 | .inl o_4 =>
 some o_4
 | .inr o_5 =>
 some true
def gpt (F : Hs Un.D [.nm 1, .nm 1] → Option (Hs Un.D [.bool])) : FSpec Un := ⟨108, [.row 1, .row 1], [], [.nm 1, .nm 1], .c (.hole .bool), [], [.bool], F⟩
def gb1 : FSpec Un := gpt g8x
theorem go1 : FSnd prog gb1 := FSnd.of fun h r hr => FAt.of_body (s := gb1) (fo := foS []) (lo := loL [(0, geg), (1, geh)]) func108 g12k gzq (by kernel_rfl) FoSnd.nil (LoOk.snd (LoOk.cons glf (LoOk.cons glg LoOk.nil))) (Eq.trans (by kernel_rfl) hr)
def g1w (kind : Int) : Option (Bool) :=
 some (bif bif decide (kind = 4) then true else decide (kind = 5) then true else decide (kind = 6))
theorem F46_b : g16h prog 46 = true := by kernel_rfl
theorem g15m : f46.body.bind (Shv.resolve prog f46.ntmps) = some (g16e prog f46) := by kernel_rfl
theorem g12l : g16f prog f46.results.toList = some [.tmp 2] := by kernel_rfl
def gsq (F : Hs Un.D [.int .i64] → Option (Hs Un.D [.bool])) : FSpec Un := ⟨46, [.c (.hole (.int .i64))], [], [.int .i64], .c (.hole .bool), [], [.bool], F⟩
def g9y : FSpec Un := gsq g1w
theorem gik : FSnd prog g9y := FSnd.of fun h r hr => FAt.of_body (s := g9y) (fo := foS []) (lo := loL []) func46 g15m g12l (by kernel_rfl) FoSnd.nil (LoOk.snd LoOk.nil) (Eq.trans (by kernel_rfl) hr)
end
section
open Go Go.Proofs.YthnmepafpikaiaaGreat.Shv
open Tryz
set_option maxRecDepth 100000
def g7t (b : Int) : Option (Bool) :=
 some (bif bif bif decide (97 ≤ b) then decide (b ≤ 122) else false then true else bif decide (65 ≤ b) then decide (b ≤ 90) else false then true else decide (b = 95))
theorem gy7 : g16h prog 142 = true := by kernel_rfl
theorem g12m : f142.body.bind (Shv.resolve prog f142.ntmps) = some (g16e prog f142) := by kernel_rfl
theorem gzr : g16f prog f142.results.toList = some [.tmp 2] := by kernel_rfl
def grf (F : Hs Un.D [.int .u8] → Option (Hs Un.D [.bool])) : FSpec Un := ⟨142, [.c (.hole (.int .u8))], [], [.int .u8], .c (.hole .bool), [], [.bool], F⟩
def g8y : FSpec Un := grf g7t
theorem ghe : FSnd prog g8y := FSnd.of fun h r hr => FAt.of_body (s := g8y) (fo := foS []) (lo := loL []) func142 g12m gzr (by kernel_rfl) FoSnd.nil (LoOk.snd LoOk.nil) (Eq.trans (by kernel_rfl) hr)
def gbb (b : Int) : Option (Bool) :=
 some (bif decide (48 ≤ b) then decide (b ≤ 57) else false)
theorem g15n : g16h prog 143 = true := by kernel_rfl
theorem g12n : f143.body.bind (Shv.resolve prog f143.ntmps) = some (g16e prog f143) := by kernel_rfl
theorem gzs : g16f prog f143.results.toList = some [.tmp 2] := by kernel_rfl
def gsr (F : Hs Un.D [.int .u8] → Option (Hs Un.D [.bool])) : FSpec Un := ⟨143, [.c (.hole (.int .u8))], [], [.int .u8], .c (.hole .bool), [], [.bool], F⟩
def gdt : FSpec Un := gsr gbb
theorem gqp : FSnd prog gdt := FSnd.of fun h r hr => FAt.of_body (s := gdt) (fo := foS []) (lo := loL []) func143 g12n gzs (by kernel_rfl) FoSnd.nil (LoOk.snd LoOk.nil) (Eq.trans (by kernel_rfl) hr)
def g2c (x_ : List UInt8 × Int) : Option ((Bool) ⊕ (Unit)) :=
 match x_ with
 | (s_1, i) =>
 if decide (i < (s_1.length : Int)) = true then
 if inR i s_1.length = true then
 g7t (g17g s_1 i) >>= fun r_1 =>
 some (!r_1) >>= fun t27 =>
 if (inR i s_1.length || (!t27)) = true then
 (if t27 = true then gbb (g17g s_1 i) else some false) >>= fun r_2 =>
 if (bif t27 then (!r_2) else false) = true then
 some (.inl false)
 else
 g2c (s_1, addI .i64 i 1)
 else none
 else none
 else
 some (.inr ())
  partial_fixpoint
theorem gxo : g16h prog 110 = true := by kernel_rfl
theorem g12o : f110.body.bind (Shv.resolve prog f110.ntmps) = some (g16e prog f110) := by kernel_rfl
theorem gzt : g16f prog f110.results.toList = some [.tmp 2] := by kernel_rfl
def gfm : Shape := ⟨[(0, .c (.hole .str)), (3, .c (.hole (.int .i64)))], []⟩
def g9q : List Ty := [.str, .int .i64]
def g8g : List OSpec := [⟨.ret, ⟨[(2, .c (.hole .bool))], []⟩, [], [.bool]⟩, ⟨.exit 0, ⟨[], []⟩, [], []⟩]
def gos (F : Hs Un.D g9q → Option (OSum Un g8g)) : LSpec Un := ⟨gfm, [], g9q, g8g, F⟩
def ggi : LSpec Un := gos g2c
theorem gnb : LSnd prog f110.ntmps 0 (g16g (g16e prog f110) 0) ggi := fun h o ho => g2c.partial_correctness (fun h o => LAt (U := Un) prog f110.ntmps 0 (g16g (g16e prog f110) 0) gfm g9q g8g h o) (fun F1 HF1 h o ho => LAt.of_round (fo := foS [g8y, gdt]) (lo := loL []) (own := []) (F' := F1) (FoSnd.cons gy7 ghe (FoSnd.cons g15n gqp FoSnd.nil)) (LoOk.snd LoOk.nil) HF1 (Eq.trans (by kernel_rfl) ho)) h o ho
def g4m (s : List UInt8) : Option (Bool) :=
 some (bif decide (s = []) then true else decide (24 < (s.length : Int))) >>= fun t10 =>
 if (inR 0 s.length || (!(!t10))) = true then
 (if (!t10) = true then g7t (g17g s 0) else some false) >>= fun r =>
 if (bif t10 then true else (!r)) = true then
 some false
 else
 g2c (s, 0) >>= fun o =>
 match o with
 | .inl o_1 =>
 some o_1
 | .inr o_2 =>
 some true
 else none
def grg (F : Hs Un.D [.str] → Option (Hs Un.D [.bool])) : FSpec Un := ⟨110, [.c (.hole .str)], [], [.str], .c (.hole .bool), [], [.bool], F⟩
def g6g : FSpec Un := grg g4m
theorem gb2 : FSnd prog g6g := FSnd.of fun h r hr => FAt.of_body (s := g6g) (fo := foS [g8y]) (lo := loL [(0, ggi)]) func110 g12o gzt (by kernel_rfl) (FoSnd.cons gy7 ghe FoSnd.nil) (LoOk.snd (LoOk.cons gnb LoOk.nil)) (Eq.trans (by kernel_rfl) hr)
def gbp (x_ : Int × Int) : Option (Bool) :=
 match x_ with
 | (before, n) =>
 some (bif bif decide (before < n) then decide (1 ≤ n) else false then decide (n ≤ 1000) else false)
theorem gy8 : g16h prog 144 = true := by kernel_rfl
theorem g12p : f144.body.bind (Shv.resolve prog f144.ntmps) = some (g16e prog f144) := by kernel_rfl
theorem gzu : g16f prog f144.results.toList = some [.tmp 4] := by kernel_rfl
def gv8 (F : Hs Un.D [.int .i64, .int .i64] → Option (Hs Un.D [.bool])) : FSpec Un := ⟨144, [.c (.hole (.int .i64)), .c (.hole (.int .i64))], [], [.int .i64, .int .i64], .c (.hole .bool), [], [.bool], F⟩
def gcr : FSpec Un := gv8 gbp
theorem glh : FSnd prog gcr := FSnd.of fun h r hr => FAt.of_body (s := gcr) (fo := foS []) (lo := loL []) func144 g12p gzu (by kernel_rfl) FoSnd.nil (LoOk.snd LoOk.nil) (Eq.trans (by kernel_rfl) hr)
def g1h (x_ : List SSymbol × Int × Int) : Option ((Bool) ⊕ (List SSymbol × Int)) :=
 match x_ with
 | (l_4, i_2, k) =>
 if decide (k < i_2) = true then
 if inR k l_4.length = true then
 if inR i_2 l_4.length = true then
 if decide ((l_4.getD k.toNat dSSymbol).Name = (l_4.getD i_2.toNat dSSymbol).Name) = true then
 some (.inl false)
 else
 g1h (l_4, i_2, addI .i64 k 1)
 else none
 else none
 else
 some (.inr (l_4, i_2))
  partial_fixpoint
theorem g15o : g16h prog 111 = true := by kernel_rfl
theorem g12q : f111.body.bind (Shv.resolve prog f111.ntmps) = some (g16e prog f111) := by kernel_rfl
theorem gzv : g16f prog f111.results.toList = some [.tmp 2] := by kernel_rfl
def gc9 : Shape := ⟨[(0, .c (.hole (.slice (.nm 2)))), (4, .c (.hole (.int .i64))), (5, .c (.hole (.int .i64)))], []⟩
def g7u : List Ty := [.slice (.nm 2), .int .i64, .int .i64]
def g6s : List OSpec := [⟨.ret, ⟨[(2, .c (.hole .bool))], []⟩, [], [.bool]⟩, ⟨.exit 2, ⟨[(0, .c (.hole (.slice (.nm 2)))), (4, .c (.hole (.int .i64)))], []⟩, [], [.slice (.nm 2), .int .i64]⟩]
def gm2 (F : Hs Un.D g7u → Option (OSum Un g6s)) : LSpec Un := ⟨gc9, [], g7u, g6s, F⟩
def gdg : LSpec Un := gm2 g1h
theorem gkr : LSnd prog f111.ntmps 0 (g16g (g16g (g16e prog f111) 0) 0) gdg := fun h o ho => g1h.partial_correctness (fun h o => LAt (U := Un) prog f111.ntmps 0 (g16g (g16g (g16e prog f111) 0) 0) gc9 g7u g6s h o) (fun F1 HF1 h o ho => LAt.of_round (fo := foS []) (lo := loL []) (own := []) (F' := F1) FoSnd.nil (LoOk.snd LoOk.nil) HF1 (Eq.trans (by kernel_rfl) ho)) h o ho
def g27 (x_ : List SSymbol × Int × Int) : Option ((Bool) ⊕ (List SSymbol)) :=
 match x_ with
 | (l_2, before, i) =>
 if decide (i < (l_2.length : Int)) = true then
 if inR i l_2.length = true then
 gbp (before, (l_2.getD i.toNat dSSymbol).ID) >>= fun r =>
 some (!r) >>= fun t19 =>
 if (inR i l_2.length || (!(!t19))) = true then
 (if (!t19) = true then g4m (l_2.getD i.toNat dSSymbol).Name else some false) >>= fun r_1 =>
 if (bif t19 then true else (!r_1)) = true then
 some (.inl false)
 else
 g1h (l_2, i, 0) >>= fun o_3 =>
 match o_3 with
 | .inl o_4 =>
 some (.inl o_4)
 | .inr o_5 =>
 if inR o_5.2 o_5.1.length = true then
 g27 (o_5.1, (o_5.1.getD o_5.2.toNat dSSymbol).ID, addI .i64 o_5.2 1)
 else none
 else none
 else none
 else
 some (.inr l_2)
  partial_fixpoint
def gei : Shape := ⟨[(0, .c (.hole (.slice (.nm 2)))), (3, .c (.hole (.int .i64))), (4, .c (.hole (.int .i64)))], []⟩
def g8z : List Ty := [.slice (.nm 2), .int .i64, .int .i64]
def g7v : List OSpec := [⟨.ret, ⟨[(2, .c (.hole .bool))], []⟩, [], [.bool]⟩, ⟨.exit 0, ⟨[(0, .c (.hole (.slice (.nm 2))))], []⟩, [], [.slice (.nm 2)]⟩]
def go2 (F : Hs Un.D g8z → Option (OSum Un g7v)) : LSpec Un := ⟨gei, [], g8z, g7v, F⟩
def gfn : LSpec Un := go2 g27
theorem gm3 : LSnd prog f111.ntmps 0 (g16g (g16e prog f111) 0) gfn := fun h o ho => g27.partial_correctness (fun h o => LAt (U := Un) prog f111.ntmps 0 (g16g (g16e prog f111) 0) gei g8z g7v h o) (fun F1 HF1 h o ho => LAt.of_round (fo := foS [gcr, g6g]) (lo := loL [(0, gdg)]) (own := []) (F' := F1) (FoSnd.cons gy8 glh (FoSnd.cons gxo gb2 FoSnd.nil)) (LoOk.snd (LoOk.cons gkr LoOk.nil)) HF1 (Eq.trans (by kernel_rfl) ho)) h o ho
def g6z (l : List SSymbol) : Option (Bool) :=
 g27 (l, 0, 0) >>= fun o =>
 match o with
 | .inl o_1 =>
 some o_1
 | .inr o_2 =>
 some (bif decide (1 ≤ (o_2.length : Int)) then decide ((o_2.length : Int) ≤ 16) else false)
def gqq (F : Hs Un.D [.slice (.nm 2)] → Option (Hs Un.D [.bool])) : FSpec Un := ⟨111, [.c (.hole (.slice (.nm 2)))], [], [.slice (.nm 2)], .c (.hole .bool), [], [.bool], F⟩
def gbq : FSpec Un := gqq g6z
theorem got : FSnd prog gbq := FSnd.of fun h r hr => FAt.of_body (s := gbq) (fo := foS []) (lo := loL [(0, gfn)]) func111 g12q gzv (by kernel_rfl) FoSnd.nil (LoOk.snd (LoOk.cons gm3 LoOk.nil)) (Eq.trans (by kernel_rfl) hr)
def g1i (x_ : List SMember × Bool × Int × Int × SMember) : Option ((Bool) ⊕ (List SMember × Bool × Int × SMember)) :=
 match x_ with
 | (l_4, record_4, i_2, k, b_1) =>
 if decide (k < i_2) = true then
 if inR k l_4.length = true then
 if decide ((l_4.getD k.toNat dSMember).Name = b_1.Name) = true then
 some (.inl false)
 else
 g1i (l_4, record_4, i_2, addI .i64 k 1, (⟨b_1.ID, b_1.Name, b_1.Type_, b_1.Critical, b_1.HasDefault, SValue.eta b_1.Default⟩ : SMember))
 else none
 else
 some (.inr (l_4, record_4, i_2, (⟨b_1.ID, b_1.Name, b_1.Type_, b_1.Critical, b_1.HasDefault, SValue.eta b_1.Default⟩ : SMember)))
  partial_fixpoint
theorem g15p : g16h prog 112 = true := by kernel_rfl
theorem g12r : f112.body.bind (Shv.resolve prog f112.ntmps) = some (g16e prog f112) := by kernel_rfl
theorem gzw : g16f prog f112.results.toList = some [.tmp 4] := by kernel_rfl
def gca : Shape := ⟨[(0, .c (.hole (.slice (.nm 3)))), (1, .c (.hole .bool)), (6, .c (.hole (.int .i64))), (7, .c (.ptr 0 0)), (8, .c (.hole (.int .i64)))], [.brow 3]⟩
def g7w : List Ty := [.slice (.nm 3), .bool, .int .i64, .int .i64, .nm 3]
def g6t : List OSpec := [⟨.ret, ⟨[(4, .c (.hole .bool))], []⟩, [], [.bool]⟩, ⟨.exit 2, ⟨[(0, .c (.hole (.slice (.nm 3)))), (1, .c (.hole .bool)), (6, .c (.hole (.int .i64))), (7, .c (.ptr 0 0))], [.brow 3]⟩, [], [.slice (.nm 3), .bool, .int .i64, .nm 3]⟩]
def gm4 (F : Hs Un.D g7w → Option (OSum Un g6t)) : LSpec Un := ⟨gca, [], g7w, g6t, F⟩
def gdh : LSpec Un := gm4 g1i
theorem gks : LSnd prog f112.ntmps 0 (g16g (g16g (g16e prog f112) 0) 0) gdh := fun h o ho => g1i.partial_correctness (fun h o => LAt (U := Un) prog f112.ntmps 0 (g16g (g16g (g16e prog f112) 0) 0) gca g7w g6t h o) (fun F1 HF1 h o ho => LAt.of_round (fo := foS []) (lo := loL []) (own := []) (F' := F1) FoSnd.nil (LoOk.snd LoOk.nil) HF1 (Eq.trans (by kernel_rfl) ho)) h o ho
def g28 (x_ : List SMember × Bool × Int × Int) : Option ((Bool) ⊕ (List SMember × Bool)) :=
 match x_ with
 | (l_2, record_2, before, i) =>
 if decide (i < (l_2.length : Int)) = true then
 if inR i l_2.length = true then
 some (l_2.getD i.toNat dSMember) >>= fun x0 =>
 gbp (before, x0.ID) >>= fun r =>
 some (!r) >>= fun t23 =>
 (if (!t23) = true then g4m x0.Name else some false) >>= fun r_1 =>
 if (bif bif bif t23 then true else (!r_1) then true else bif x0.Critical then x0.HasDefault else false then true else bif (!record_2) then bif x0.Critical then true else x0.HasDefault else false) = true then
 some (.inl false)
 else
 some (!x0.HasDefault) >>= fun t52 =>
 (if t52 = true then g11 (SValue.eta x0.Default, (⟨0, false, 0, [], 0, [], [], []⟩ : SValue)) else some false) >>= fun r_2 =>
 if (bif t52 then (!r_2) else false) = true then
 some (.inl false)
 else
 g1i (l_2, record_2, i, 0, (⟨x0.ID, x0.Name, x0.Type_, x0.Critical, x0.HasDefault, SValue.eta x0.Default⟩ : SMember)) >>= fun o_3 =>
 match o_3 with
 | .inl o_4 =>
 some (.inl o_4)
 | .inr o_5 =>
 g28 (o_5.1, o_5.2.1, o_5.2.2.2.ID, addI .i64 o_5.2.2.1 1)
 else none
 else
 some (.inr (l_2, record_2))
  partial_fixpoint
def gej : Shape := ⟨[(0, .c (.hole (.slice (.nm 3)))), (1, .c (.hole .bool)), (5, .c (.hole (.int .i64))), (6, .c (.hole (.int .i64)))], []⟩
def g90 : List Ty := [.slice (.nm 3), .bool, .int .i64, .int .i64]
def g7x : List OSpec := [⟨.ret, ⟨[(4, .c (.hole .bool))], []⟩, [], [.bool]⟩, ⟨.exit 0, ⟨[(0, .c (.hole (.slice (.nm 3)))), (1, .c (.hole .bool))], []⟩, [], [.slice (.nm 3), .bool]⟩]
def go3 (F : Hs Un.D g90 → Option (OSum Un g7x)) : LSpec Un := ⟨gej, [], g90, g7x, F⟩
def gfo : LSpec Un := go3 g28
theorem gm5 : LSnd prog f112.ntmps 0 (g16g (g16e prog f112) 0) gfo := fun h o ho => g28.partial_correctness (fun h o => LAt (U := Un) prog f112.ntmps 0 (g16g (g16e prog f112) 0) gej g90 g7x h o) (fun F1 HF1 h o ho => LAt.of_round (fo := foS [gcr, g6g, g2h]) (lo := loL [(0, gdh)]) (own := []) (F' := F1) (FoSnd.cons gy8 glh (FoSnd.cons gxo gb2 (FoSnd.cons F58_b g5y FoSnd.nil))) (LoOk.snd (LoOk.cons gks LoOk.nil)) HF1 (Eq.trans (by kernel_rfl) ho)) h o ho
def g53 (x_ : List SMember × Bool) : Option (Bool) :=
 match x_ with
 | (l, record) =>
 g28 (l, record, 0, 0) >>= fun o =>
 match o with
 | .inl o_1 =>
 some o_1
 | .inr o_2 =>
 some (bif decide ((o_2.1.length : Int) ≤ 16) then bif o_2.2 then true else decide (1 ≤ (o_2.1.length : Int)) else false)
def gqr (F : Hs Un.D [.slice (.nm 3), .bool] → Option (Hs Un.D [.bool])) : FSpec Un := ⟨112, [.c (.hole (.slice (.nm 3))), .c (.hole .bool)], [], [.slice (.nm 3), .bool], .c (.hole .bool), [], [.bool], F⟩
def gbr : FSpec Un := gqr g53
theorem gou : FSnd prog gbr := FSnd.of fun h r hr => FAt.of_body (s := gbr) (fo := foS []) (lo := loL [(0, gfo)]) func112 g12r gzw (by kernel_rfl) FoSnd.nil (LoOk.snd (LoOk.cons gm5 LoOk.nil)) (Eq.trans (by kernel_rfl) hr)
def gz (t : SType) : Option (Bool) :=
 some (bif decide (t.Kind < 1) then true else decide (9 < t.Kind)) >>= fun t10 =>
 (if (!t10) = true then g2k t else some dSType) >>= fun r =>
 (if (!t10) = true then g8x (t, r) else some false) >>= fun r_1 =>
 some (bif t10 then true else (!r_1)) >>= fun t17 =>
 (if (!t17) = true then g1w t.Kind else some false) >>= fun r_2 =>
 (if ((!t17) && r_2) = true then g4m t.Name else some false) >>= fun r_3 =>
 if (bif t17 then true else bif r_2 then (!r_3) else false) = true then
 some false
 else
 if decide (t.Kind = 2) = true then
 some (decide (t.Low ≤ t.High))
 else
 if decide (t.Kind = 3) = true then
 some (bif decide (0 ≤ t.Max) then decide (t.Max ≤ 200) else false)
 else
 if decide (t.Kind = 4) = true then
 g6z t.Symbols >>= fun r_4 =>
 some r_4
 else
 some (decide (t.Kind = 5)) >>= fun t54 =>
 if t54 = true then
 if t54 = true then
 g53 (t.Members, decide (t.Kind = 5)) >>= fun r_5 =>
 some r_5
 else
 some (decide (t.Kind = 7)) >>= fun t63 =>
 if t63 = true then
 if t63 = true then
 some (bif decide (0 ≤ t.Max) then decide (t.Max ≤ 50) else false)
 else
 some true
 else
 if decide (t.Kind = 8) = true then
 some (bif decide (0 ≤ t.Max) then decide (t.Max ≤ 50) else false)
 else
 some true
 else
 if decide (t.Kind = 6) = true then
 g53 (t.Members, decide (t.Kind = 5)) >>= fun r_6 =>
 some r_6
 else
 some (decide (t.Kind = 7)) >>= fun t63_1 =>
 if t63_1 = true then
 if t63_1 = true then
 some (bif decide (0 ≤ t.Max) then decide (t.Max ≤ 50) else false)
 else
 some true
 else
 if decide (t.Kind = 8) = true then
 some (bif decide (0 ≤ t.Max) then decide (t.Max ≤ 50) else false)
 else
 some true
theorem F65_b : g16h prog 65 = true := by kernel_rfl
theorem g15q : f65.body.bind (Shv.resolve prog f65.ntmps) = some (g16e prog f65) := by kernel_rfl
theorem g12s : g16f prog f65.results.toList = some [.tmp 2] := by kernel_rfl
def gui (F : Hs Un.D [.nm 1] → Option (Hs Un.D [.bool])) : FSpec Un := ⟨65, [.row 1], [], [.nm 1], .c (.hole .bool), [], [.bool], F⟩
def ggu : FSpec Un := gui gz
theorem gss : FSnd prog ggu := FSnd.of fun h r hr => FAt.of_body (s := ggu) (fo := foS [gds, gb1, g9y, g6g, gbq, gbr]) (lo := loL []) func65 g15q g12s (by kernel_rfl) (FoSnd.cons g15h gqo (FoSnd.cons g15l go1 (FoSnd.cons F46_b gik (FoSnd.cons gxo gb2 (FoSnd.cons g15o got (FoSnd.cons g15p gou FoSnd.nil)))))) (LoOk.snd LoOk.nil) (Eq.trans (by kernel_rfl) hr)
def g3l (x_ : Int × SType × List Int) : Option (SType × List Int) :=
 match x_ with
 | (i, b_2, b_3) =>
 if decide (i < (b_2.Members.length : Int)) = true then
 if inR i b_2.Members.length = true then
 some [(b_2.Members.getD i.toNat dSMember).Type_] >>= fun t19 =>
 if room 8 (b_3 ++ t19).length = true then
 g3l (addI .i64 i 1, b_2, b_3 ++ t19)
 else none
 else none
 else
 some (b_2, b_3)
  partial_fixpoint
theorem F66_b : g16h prog 66 = true := by kernel_rfl
theorem g15r : f66.body.bind (Shv.resolve prog f66.ntmps) = some (g16e prog f66) := by kernel_rfl
theorem g12t : g16f prog f66.results.toList = some [.tmp 2] := by kernel_rfl
def ghf : Shape := ⟨[(1, .c (.ptr 0 0)), (3, .c (.arr 1)), (4, .c (.hole (.int .i64)))], [.brow 1, .arr (.int .i64)]⟩
def gb3 : List Ty := [.int .i64, .nm 1, .slice (.int .i64)]
def g9r : List OSpec := [⟨.exit 0, ⟨[(1, .c (.ptr 0 0)), (3, .c (.arr 1))], [.brow 1, .arr (.int .i64)]⟩, [], [.nm 1, .slice (.int .i64)]⟩]
def gqs (F : Hs Un.D gb3 → Option (OSum Un g9r)) : LSpec Un := ⟨ghf, [(.slot 3, .int .i64)], gb3, g9r, F⟩
def gil : LSpec Un := gqs g3l
theorem gov : LSnd prog f66.ntmps 0 (g16g (g16e prog f66) 0) gil := fun h o ho => g3l.partial_correctness (fun h o => LAt (U := Un) prog f66.ntmps 0 (g16g (g16e prog f66) 0) ghf gb3 g9r h o) (fun F1 HF1 h o ho => LAt.of_round (fo := foS []) (lo := loL []) (own := [(.slot 3, .int .i64)]) (F' := F1) FoSnd.nil (LoOk.snd LoOk.nil) HF1 (Eq.trans (by kernel_rfl) ho)) h o ho
def gcs (t : SType) : Option (List Int) :=
 g3l (0, t, []) >>= fun o =>
 if decide (o.1.Kind = 8) = true then
 some [o.1.Key] >>= fun t27 =>
 if room 8 (o.2 ++ t27).length = true then
 some (o.2 ++ t27) >>= fun l =>
 if (bif bif decide (o.1.Kind = 7) then true else decide (o.1.Kind = 8) then true else decide (o.1.Kind = 9)) = true then
 some [o.1.Elem] >>= fun t45 =>
 if room 8 (l ++ t45).length = true then
 some (l ++ t45)
 else none
 else
 some l
 else none
 else
 if (bif bif decide (o.1.Kind = 7) then true else decide (o.1.Kind = 8) then true else decide (o.1.Kind = 9)) = true then
 some [o.1.Elem] >>= fun t45_1 =>
 if room 8 (o.2 ++ t45_1).length = true then
 some (o.2 ++ t45_1)
 else none
 else
 some o.2
def gtf (F : Hs Un.D [.nm 1] → Option (Hs Un.D [.slice (.int .i64)])) : FSpec Un := ⟨66, [.row 1], [], [.nm 1], .c (.hole (.slice (.int .i64))), [], [.slice (.int .i64)], F⟩
def gfp : FSpec Un := gtf gcs
theorem grh : FSnd prog gfp := FSnd.of fun h r hr => FAt.of_body (s := gfp) (fo := foS []) (lo := loL [(0, gil)]) func66 g15r g12t (by kernel_rfl) FoSnd.nil (LoOk.snd (LoOk.cons gov LoOk.nil)) (Eq.trans (by kernel_rfl) hr)
end
section
open Go Go.Proofs.YthnmepafpikaiaaGreat.Shv
open Tryz
set_option maxRecDepth 100000
def gdu (kind : Int) : Option (Bool) :=
 some (bif decide (1 ≤ kind) then decide (kind ≤ 4) else false)
theorem F67_b : g16h prog 67 = true := by kernel_rfl
theorem g15s : f67.body.bind (Shv.resolve prog f67.ntmps) = some (g16e prog f67) := by kernel_rfl
theorem g12u : g16f prog f67.results.toList = some [.tmp 2] := by kernel_rfl
def gqt (F : Hs Un.D [.int .i64] → Option (Hs Un.D [.bool])) : FSpec Un := ⟨67, [.c (.hole (.int .i64))], [], [.int .i64], .c (.hole .bool), [], [.bool], F⟩
def gbs : FSpec Un := gqt gdu
theorem gow : FSnd prog gbs := FSnd.of fun h r hr => FAt.of_body (s := gbs) (fo := foS []) (lo := loL []) func67 g15s g12u (by kernel_rfl) FoSnd.nil (LoOk.snd LoOk.nil) (Eq.trans (by kernel_rfl) hr)
def g1u (x_ : Int × Int × List SType × Int × List UInt8 × Int × Int × Int × List SSymbol × List SMember × Int × Int × Bool) : Option ((Int) ⊕ (Int × List SType × Int × List UInt8 × Int × Int × Int × List SSymbol × List SMember × Int × Int × Bool)) :=
 match x_ with
 | (i_3, k, b_23, b_24, b_25, b_26, b_27, b_28, b_29, b_30, b_31, b_32, b_33) =>
 if decide (k < i_3) = true then
 g1w b_24 >>= fun r_3 =>
 if (inR k b_23.length || (!r_3)) = true then
 if (bif r_3 then decide ((b_23.getD k.toNat dSType).Name = b_25) else false) = true then
 some (.inl 1)
 else
 g1u (i_3, addI .i64 k 1, b_23, b_24, b_25, b_26, b_27, b_28, b_29, b_30, b_31, b_32, b_33)
 else none
 else
 some (.inr (i_3, b_23, b_24, b_25, b_26, b_27, b_28, b_29, b_30, b_31, b_32, b_33))
  partial_fixpoint
theorem F33_b : g16h prog 33 = true := by kernel_rfl
theorem g15t : f33.body.bind (Shv.resolve prog f33.ntmps) = some (g16e prog f33) := by kernel_rfl
theorem g12v : g16f prog f33.results.toList = some [.tmp 2] := by kernel_rfl
def gek : Shape := ⟨[(1, .c (.ptr 0 0)), (3, .c (.hole (.int .i64))), (4, .c (.ptr 1 0)), (5, .c (.hole (.int .i64)))], [.box [.hole (.slice (.nm 1))], .box [.hole (.int .i64), .hole .str, .hole (.int .i64), .hole (.int .i64), .hole (.int .i64), .hole (.slice (.nm 2)), .hole (.slice (.nm 3)), .hole (.int .i64), .hole (.int .i64), .hole .bool]]⟩
def g91 : List Ty := [.int .i64, .int .i64, .slice (.nm 1), .int .i64, .str, .int .i64, .int .i64, .int .i64, .slice (.nm 2), .slice (.nm 3), .int .i64, .int .i64, .bool]
def g7y : List OSpec := [⟨.ret, ⟨[(2, .c (.hole (.int .i64)))], []⟩, [], [.int .i64]⟩, ⟨.exit 2, ⟨[(1, .c (.ptr 0 0)), (3, .c (.hole (.int .i64))), (4, .c (.ptr 1 0))], [.box [.hole (.slice (.nm 1))], .box [.hole (.int .i64), .hole .str, .hole (.int .i64), .hole (.int .i64), .hole (.int .i64), .hole (.slice (.nm 2)), .hole (.slice (.nm 3)), .hole (.int .i64), .hole (.int .i64), .hole .bool]]⟩, [], [.int .i64, .slice (.nm 1), .int .i64, .str, .int .i64, .int .i64, .int .i64, .slice (.nm 2), .slice (.nm 3), .int .i64, .int .i64, .bool]⟩]
def go4 (F : Hs Un.D g91 → Option (OSum Un g7y)) : LSpec Un := ⟨gek, [], g91, g7y, F⟩
def gfq : LSpec Un := go4 g1u
theorem gm6 : LSnd prog f33.ntmps 0 (g16g (g16g (g16e prog f33) 0) 0) gfq := fun h o ho => g1u.partial_correctness (fun h o => LAt (U := Un) prog f33.ntmps 0 (g16g (g16g (g16e prog f33) 0) 0) gek g91 g7y h o) (fun F1 HF1 h o ho => LAt.of_round (fo := foS [g9y]) (lo := loL []) (own := []) (F' := F1) (FoSnd.cons F46_b gik FoSnd.nil) (LoOk.snd LoOk.nil) HF1 (Eq.trans (by kernel_rfl) ho)) h o ho
def g2o (x_ : Int × List Int × Int × List SType × Int × List UInt8 × Int × Int × Int × List SSymbol × List SMember × Int × Int × Bool) : Option ((Int) ⊕ (Int × List SType × Int × List UInt8 × Int × Int × Int × List SSymbol × List SMember × Int × Int × Bool)) :=
 match x_ with
 | (i_4, l, k_1, b_34, b_35, b_36, b_37, b_38, b_39, b_40, b_41, b_42, b_43, b_44) =>
 if decide (k_1 < (l.length : Int)) = true then
 if inR k_1 l.length = true then
 some (decide (l.getD k_1.toNat 0 < 0)) >>= fun t58 =>
 if (inR k_1 l.length || (!(!t58))) = true then
 if (bif t58 then true else decide ((b_34.length : Int) ≤ l.getD k_1.toNat 0)) = true then
 some (.inl 4)
 else
 g2o (i_4, l, addI .i64 k_1 1, b_34, b_35, b_36, b_37, b_38, b_39, b_40, b_41, b_42, b_43, b_44)
 else none
 else none
 else
 some (.inr (i_4, b_34, b_35, b_36, b_37, b_38, b_39, b_40, b_41, b_42, b_43, b_44))
  partial_fixpoint
def gel : Shape := ⟨[(1, .c (.ptr 0 0)), (3, .c (.hole (.int .i64))), (4, .c (.ptr 1 0)), (6, .c (.hole (.slice (.int .i64)))), (7, .c (.hole (.int .i64)))], [.box [.hole (.slice (.nm 1))], .box [.hole (.int .i64), .hole .str, .hole (.int .i64), .hole (.int .i64), .hole (.int .i64), .hole (.slice (.nm 2)), .hole (.slice (.nm 3)), .hole (.int .i64), .hole (.int .i64), .hole .bool]]⟩
def g92 : List Ty := [.int .i64, .slice (.int .i64), .int .i64, .slice (.nm 1), .int .i64, .str, .int .i64, .int .i64, .int .i64, .slice (.nm 2), .slice (.nm 3), .int .i64, .int .i64, .bool]
def g7z : List OSpec := [⟨.ret, ⟨[(2, .c (.hole (.int .i64)))], []⟩, [], [.int .i64]⟩, ⟨.exit 4, ⟨[(1, .c (.ptr 0 0)), (3, .c (.hole (.int .i64))), (4, .c (.ptr 1 0))], [.box [.hole (.slice (.nm 1))], .box [.hole (.int .i64), .hole .str, .hole (.int .i64), .hole (.int .i64), .hole (.int .i64), .hole (.slice (.nm 2)), .hole (.slice (.nm 3)), .hole (.int .i64), .hole (.int .i64), .hole .bool]]⟩, [], [.int .i64, .slice (.nm 1), .int .i64, .str, .int .i64, .int .i64, .int .i64, .slice (.nm 2), .slice (.nm 3), .int .i64, .int .i64, .bool]⟩]
def go5 (F : Hs Un.D g92 → Option (OSum Un g7z)) : LSpec Un := ⟨gel, [], g92, g7z, F⟩
def gfr : LSpec Un := go5 g2o
theorem gm7 : LSnd prog f33.ntmps 0 (g16g (g16g (g16e prog f33) 0) 1) gfr := fun h o ho => g2o.partial_correctness (fun h o => LAt (U := Un) prog f33.ntmps 0 (g16g (g16g (g16e prog f33) 0) 1) gel g92 g7z h o) (fun F1 HF1 h o ho => LAt.of_round (fo := foS []) (lo := loL []) (own := []) (F' := F1) FoSnd.nil (LoOk.snd LoOk.nil) HF1 (Eq.trans (by kernel_rfl) ho)) h o ho
def g2m (x_ : Int × List SType) : Option ((Int) ⊕ (Unit)) :=
 match x_ with
 | (i, b) =>
 if decide (i < (b.length : Int)) = true then
 if inR i b.length = true then
 some (b.getD i.toNat dSType) >>= fun x0 =>
 gz x0 >>= fun r =>
 if (!r) = true then
 some (.inl 1)
 else
 g1u (i, 0, b, x0.Kind, x0.Name, x0.Low, x0.High, x0.Max, x0.Symbols, x0.Members, x0.Key, x0.Elem, x0.Open) >>= fun o_3 =>
 match o_3 with
 | .inl o_4 =>
 some (.inl o_4)
 | .inr o_5 =>
 gcs (⟨o_5.2.2.1, o_5.2.2.2.1, o_5.2.2.2.2.1, o_5.2.2.2.2.2.1, o_5.2.2.2.2.2.2.1, o_5.2.2.2.2.2.2.2.1, o_5.2.2.2.2.2.2.2.2.1, o_5.2.2.2.2.2.2.2.2.2.1, o_5.2.2.2.2.2.2.2.2.2.2.1, o_5.2.2.2.2.2.2.2.2.2.2.2⟩ : SType) >>= fun r_1 =>
 g2o (o_5.1, r_1, 0, o_5.2.1, o_5.2.2.1, o_5.2.2.2.1, o_5.2.2.2.2.1, o_5.2.2.2.2.2.1, o_5.2.2.2.2.2.2.1, o_5.2.2.2.2.2.2.2.1, o_5.2.2.2.2.2.2.2.2.1, o_5.2.2.2.2.2.2.2.2.2.1, o_5.2.2.2.2.2.2.2.2.2.2.1, o_5.2.2.2.2.2.2.2.2.2.2.2) >>= fun o_6 =>
 match o_6 with
 | .inl o_7 =>
 some (.inl o_7)
 | .inr o_8 =>
 some (decide (o_8.2.2.1 = 8)) >>= fun t71 =>
 if (inR o_8.2.2.2.2.2.2.2.2.2.1 o_8.2.1.length || (!t71)) = true then
 (if t71 = true then gdu (o_8.2.1.getD o_8.2.2.2.2.2.2.2.2.2.1.toNat dSType).Kind else some false) >>= fun r_2 =>
 if (bif t71 then (!r_2) else false) = true then
 some (.inl 1)
 else
 g2m (addI .i64 o_8.1 1, o_8.2.1)
 else none
 else none
 else
 some (.inr ())
  partial_fixpoint
def ggj : Shape := ⟨[(1, .c (.ptr 0 0)), (3, .c (.hole (.int .i64)))], [.box [.hole (.slice (.nm 1))]]⟩
def ga6 : List Ty := [.int .i64, .slice (.nm 1)]
def g93 : List OSpec := [⟨.ret, ⟨[(2, .c (.hole (.int .i64)))], []⟩, [], [.int .i64]⟩, ⟨.exit 0, ⟨[], []⟩, [], []⟩]
def gpu (F : Hs Un.D ga6 → Option (OSum Un g93)) : LSpec Un := ⟨ggj, [], ga6, g93, F⟩
def ghg : LSpec Un := gpu g2m
theorem go6 : LSnd prog f33.ntmps 0 (g16g (g16e prog f33) 0) ghg := fun h o ho => g2m.partial_correctness (fun h o => LAt (U := Un) prog f33.ntmps 0 (g16g (g16e prog f33) 0) ggj ga6 g93 h o) (fun F1 HF1 h o ho => LAt.of_round (fo := foS [ggu, gfp, gbs]) (lo := loL [(0, gfq), (1, gfr)]) (own := []) (F' := F1) (FoSnd.cons F65_b gss (FoSnd.cons F66_b grh (FoSnd.cons F67_b gow FoSnd.nil))) (LoOk.snd (LoOk.cons gm6 (LoOk.cons gm7 LoOk.nil))) HF1 (Eq.trans (by kernel_rfl) ho)) h o ho
def g4x (s : SSchema) : Option (Int) :=
 if decide (32 < (s.Types.length : Int)) = true then
 some 3
 else
 g2m (0, s.Types) >>= fun o =>
 match o with
 | .inl o_1 =>
 some o_1
 | .inr o_2 =>
 some 0
def gst (F : Hs Un.D [.nm 0] → Option (Hs Un.D [.int .i64])) : FSpec Un := ⟨33, [.row 0], [], [.nm 0], .c (.hole (.int .i64)), [], [.int .i64], F⟩
def g70 : FSpec Un := gst g4x
theorem gbt : FSnd prog g70 := FSnd.of fun h r hr => FAt.of_body (s := g70) (fo := foS []) (lo := loL [(0, ghg)]) func33 g15t g12v (by kernel_rfl) FoSnd.nil (LoOk.snd (LoOk.cons go6 LoOk.nil)) (Eq.trans (by kernel_rfl) hr)
def g5i (v : SValue) : Option (Bool) :=
 some (bif bif bif bif bif bif bif decide (v.Kind = 1) then true else (!v.Bool_) then bif decide (v.Kind = 2) then true else decide (v.Int_ = 0) else false then bif decide (v.Kind = 3) then true else decide (v.Str = []) else false then bif bif decide (v.Kind = 4) then true else decide (v.Kind = 6) then true else decide (v.ID = 0) else false then bif decide (v.Kind = 8) then true else decide ((v.Keys.length : Int) = 0) else false then bif decide (5 ≤ v.Kind) then true else decide ((v.Items.length : Int) = 0) else false then bif bif decide (v.Kind = 5) then true else decide (v.Kind = 6) then true else decide ((v.Rest.length : Int) = 0) else false)
theorem g15u : g16h prog 137 = true := by kernel_rfl
theorem g12w : f137.body.bind (Shv.resolve prog f137.ntmps) = some (g16e prog f137) := by kernel_rfl
theorem gzx : g16f prog f137.results.toList = some [.tmp 2] := by kernel_rfl
def gtg (F : Hs Un.D [.nm 4] → Option (Hs Un.D [.bool])) : FSpec Un := ⟨137, [.row 4], [], [.nm 4], .c (.hole .bool), [], [.bool], F⟩
def gfs : FSpec Un := gtg g5i
theorem gri : FSnd prog gfs := FSnd.of fun h r hr => FAt.of_body (s := gfs) (fo := foS []) (lo := loL []) func137 g12w gzx (by kernel_rfl) FoSnd.nil (LoOk.snd LoOk.nil) (Eq.trans (by kernel_rfl) hr)
def g1z (x_ : Int × Int × SType) : Option ((Int × Bool) ⊕ (Unit)) :=
 match x_ with
 | (id_1, i, b) =>
 if decide (i < (b.Symbols.length : Int)) = true then
 if inR i b.Symbols.length = true then
 if decide ((b.Symbols.getD i.toNat dSSymbol).ID = id_1) = true then
 some (.inl (i, true))
 else
 g1z (id_1, addI .i64 i 1, b)
 else none
 else
 some (.inr ())
  partial_fixpoint
theorem F86_b : g16h prog 86 = true := by kernel_rfl
theorem g15v : f86.body.bind (Shv.resolve prog f86.ntmps) = some (g16e prog f86) := by kernel_rfl
theorem g12x : g16f prog f86.results.toList = some [.tmp 4, .tmp 5] := by kernel_rfl
def gft : Shape := ⟨[(1, .c (.hole (.int .i64))), (2, .c (.ptr 0 0)), (6, .c (.hole (.int .i64)))], [.brow 1]⟩
def g9s : List Ty := [.int .i64, .int .i64, .nm 1]
def g8h : List OSpec := [⟨.ret, ⟨[(4, .c (.hole (.int .i64))), (5, .c (.hole .bool))], []⟩, [], [.int .i64, .bool]⟩, ⟨.exit 0, ⟨[], []⟩, [], []⟩]
def gox (F : Hs Un.D g9s → Option (OSum Un g8h)) : LSpec Un := ⟨gft, [], g9s, g8h, F⟩
def ggk : LSpec Un := gox g1z
theorem gnc : LSnd prog f86.ntmps 0 (g16g (g16e prog f86) 0) ggk := fun h o ho => g1z.partial_correctness (fun h o => LAt (U := Un) prog f86.ntmps 0 (g16g (g16e prog f86) 0) gft g9s g8h h o) (fun F1 HF1 h o ho => LAt.of_round (fo := foS []) (lo := loL []) (own := []) (F' := F1) FoSnd.nil (LoOk.snd LoOk.nil) HF1 (Eq.trans (by kernel_rfl) ho)) h o ho
def gai (x_ : SType × Int) : Option (Int × Bool) :=
 match x_ with
 | (t, id) =>
 g1z (id, 0, t) >>= fun o =>
 match o with
 | .inl o_1 =>
 some (o_1.1, o_1.2)
 | .inr o_2 =>
 some (0, false)
def grj (F : Hs Un.D [.nm 1, .int .i64] → Option (Hs Un.D [.int .i64, .bool])) : FSpec Un := ⟨86, [.row 1, .c (.hole (.int .i64))], [], [.nm 1, .int .i64], .tup [.c (.hole (.int .i64)), .c (.hole .bool)], [], [.int .i64, .bool], F⟩
def gct : FSpec Un := grj gai
theorem gpv : FSnd prog gct := FSnd.of fun h r hr => FAt.of_body (s := gct) (fo := foS []) (lo := loL [(0, ggk)]) func86 g15v g12x (by kernel_rfl) FoSnd.nil (LoOk.snd (LoOk.cons gnc LoOk.nil)) (Eq.trans (by kernel_rfl) hr)
def g13 (x_ : Int × Bool) : Option (Bool) :=
 match x_ with
 | (n, known) =>
 some (bif bif (!known) then decide (1 ≤ n) else false then decide (n ≤ 1000) else false)
theorem gy9 : g16h prog 138 = true := by kernel_rfl
theorem g12y : f138.body.bind (Shv.resolve prog f138.ntmps) = some (g16e prog f138) := by kernel_rfl
theorem gzy : g16f prog f138.results.toList = some [.tmp 4] := by kernel_rfl
def gv9 (F : Hs Un.D [.int .i64, .bool] → Option (Hs Un.D [.bool])) : FSpec Un := ⟨138, [.c (.hole (.int .i64)), .c (.hole .bool)], [], [.int .i64, .bool], .c (.hole .bool), [], [.bool], F⟩
def gcu : FSpec Un := gv9 g13
theorem gli : FSnd prog gcu := FSnd.of fun h r hr => FAt.of_body (s := gcu) (fo := foS []) (lo := loL []) func138 g12y gzy (by kernel_rfl) FoSnd.nil (LoOk.snd LoOk.nil) (Eq.trans (by kernel_rfl) hr)
def g2d (x_ : Int × Int × SType) : Option ((Int × Bool) ⊕ (Unit)) :=
 match x_ with
 | (id_1, i, b) =>
 if decide (i < (b.Members.length : Int)) = true then
 if inR i b.Members.length = true then
 if decide ((b.Members.getD i.toNat dSMember).ID = id_1) = true then
 some (.inl (i, true))
 else
 g2d (id_1, addI .i64 i 1, b)
 else none
 else
 some (.inr ())
  partial_fixpoint
theorem F87_b : g16h prog 87 = true := by kernel_rfl
theorem g15w : f87.body.bind (Shv.resolve prog f87.ntmps) = some (g16e prog f87) := by kernel_rfl
theorem g12z : g16f prog f87.results.toList = some [.tmp 4, .tmp 5] := by kernel_rfl
def gfu : Shape := ⟨[(1, .c (.hole (.int .i64))), (2, .c (.ptr 0 0)), (6, .c (.hole (.int .i64)))], [.brow 1]⟩
def g9t : List Ty := [.int .i64, .int .i64, .nm 1]
def g8i : List OSpec := [⟨.ret, ⟨[(4, .c (.hole (.int .i64))), (5, .c (.hole .bool))], []⟩, [], [.int .i64, .bool]⟩, ⟨.exit 0, ⟨[], []⟩, [], []⟩]
def goy (F : Hs Un.D g9t → Option (OSum Un g8i)) : LSpec Un := ⟨gfu, [], g9t, g8i, F⟩
def ggl : LSpec Un := goy g2d
theorem gnd : LSnd prog f87.ntmps 0 (g16g (g16e prog f87) 0) ggl := fun h o ho => g2d.partial_correctness (fun h o => LAt (U := Un) prog f87.ntmps 0 (g16g (g16e prog f87) 0) gfu g9t g8i h o) (fun F1 HF1 h o ho => LAt.of_round (fo := foS []) (lo := loL []) (own := []) (F' := F1) FoSnd.nil (LoOk.snd LoOk.nil) HF1 (Eq.trans (by kernel_rfl) ho)) h o ho
def g1q (x_ : SType × Int) : Option (Int × Bool) :=
 match x_ with
 | (t, id) =>
 g2d (id, 0, t) >>= fun o =>
 match o with
 | .inl o_1 =>
 some (o_1.1, o_1.2)
 | .inr o_2 =>
 some (0, false)
def grk (F : Hs Un.D [.nm 1, .int .i64] → Option (Hs Un.D [.int .i64, .bool])) : FSpec Un := ⟨87, [.row 1, .c (.hole (.int .i64))], [], [.nm 1, .int .i64], .tup [.c (.hole (.int .i64)), .c (.hole .bool)], [], [.int .i64, .bool], F⟩
def g40 : FSpec Un := grk g1q
theorem g5b : FSnd prog g40 := FSnd.of fun h r hr => FAt.of_body (s := g40) (fo := foS []) (lo := loL [(0, ggl)]) func87 g15w g12z (by kernel_rfl) FoSnd.nil (LoOk.snd (LoOk.cons gnd LoOk.nil)) (Eq.trans (by kernel_rfl) hr)
def g14 (x_ : List SRaw × Int × SType) : Option ((Bool) ⊕ (Unit)) :=
 match x_ with
 | (l_1, i, b) =>
 if decide (i < (l_1.length : Int)) = true then
 if inR i l_1.length = true then
 g1q (b, (l_1.getD i.toNat dSRaw).ID) >>= fun r =>
 if inR i l_1.length = true then
 g13 ((l_1.getD i.toNat dSRaw).ID, r.2) >>= fun r_3 =>
 some (!r_3) >>= fun t31 =>
 some (decide (0 < i)) >>= fun t34 =>
 if (inR i l_1.length || (!((!t31) && t34))) = true then
 some (subI .i64 i 1) >>= fun t43 =>
 if (inR t43 l_1.length || (!((!t31) && t34))) = true then
 if (bif t31 then true else bif t34 then decide ((l_1.getD i.toNat dSRaw).ID ≤ (l_1.getD t43.toNat dSRaw).ID) else false) = true then
 some (.inl false)
 else
 g14 (l_1, addI .i64 i 1, b)
 else none
 else none
 else none
 else none
 else
 some (.inr ())
  partial_fixpoint
theorem g15x : g16h prog 139 = true := by kernel_rfl
theorem g130 : f139.body.bind (Shv.resolve prog f139.ntmps) = some (g16e prog f139) := by kernel_rfl
theorem gzz : g16f prog f139.results.toList = some [.tmp 4] := by kernel_rfl
def ghh : Shape := ⟨[(1, .c (.hole (.slice (.nm 5)))), (2, .c (.ptr 0 0)), (5, .c (.hole (.int .i64)))], [.brow 1]⟩
def gb4 : List Ty := [.slice (.nm 5), .int .i64, .nm 1]
def g9u : List OSpec := [⟨.ret, ⟨[(4, .c (.hole .bool))], []⟩, [], [.bool]⟩, ⟨.exit 0, ⟨[], []⟩, [], []⟩]
def gqu (F : Hs Un.D gb4 → Option (OSum Un g9u)) : LSpec Un := ⟨ghh, [], gb4, g9u, F⟩
def gim : LSpec Un := gqu g14
theorem goz : LSnd prog f139.ntmps 0 (g16g (g16e prog f139) 0) gim := fun h o ho => g14.partial_correctness (fun h o => LAt (U := Un) prog f139.ntmps 0 (g16g (g16e prog f139) 0) ghh gb4 g9u h o) (fun F1 HF1 h o ho => LAt.of_round (fo := foS [g40, gcu]) (lo := loL []) (own := []) (F' := F1) (FoSnd.cons F87_b g5b (FoSnd.cons gy9 gli FoSnd.nil)) (LoOk.snd LoOk.nil) HF1 (Eq.trans (by kernel_rfl) ho)) h o ho
def g4n (x_ : SType × List SRaw) : Option (Bool) :=
 match x_ with
 | (t, l) =>
 g14 (l, 0, t) >>= fun o =>
 match o with
 | .inl o_1 =>
 some o_1
 | .inr o_2 =>
 some true
def gth (F : Hs Un.D [.nm 1, .slice (.nm 5)] → Option (Hs Un.D [.bool])) : FSpec Un := ⟨139, [.row 1, .c (.hole (.slice (.nm 5)))], [], [.nm 1, .slice (.nm 5)], .c (.hole .bool), [], [.bool], F⟩
def gfv : FSpec Un := gth g4n
theorem grl : FSnd prog gfv := FSnd.of fun h r hr => FAt.of_body (s := gfv) (fo := foS []) (lo := loL [(0, gim)]) func139 g130 gzz (by kernel_rfl) FoSnd.nil (LoOk.snd (LoOk.cons goz LoOk.nil)) (Eq.trans (by kernel_rfl) hr)
def g5q (n : Int) : Option (Int) :=
 if decide (0 ≤ n) = true then
 some (mulI .u64 2 (wrp .u64 n))
 else
 some (addI .u64 (mulI .u64 2 (wrp .u64 (subI .i64 0 (addI .i64 n 1)))) 1)
theorem gya : g16h prog 104 = true := by kernel_rfl
theorem g131 : f104.body.bind (Shv.resolve prog f104.ntmps) = some (g16e prog f104) := by kernel_rfl
theorem g100 : g16f prog f104.results.toList = some [.tmp 2] := by kernel_rfl
def grm (F : Hs Un.D [.int .i64] → Option (Hs Un.D [.int .u64])) : FSpec Un := ⟨104, [.c (.hole (.int .i64))], [], [.int .i64], .c (.hole (.int .u64)), [], [.int .u64], F⟩
def g94 : FSpec Un := grm g5q
theorem ghi : FSnd prog g94 := FSnd.of fun h r hr => FAt.of_body (s := g94) (fo := foS []) (lo := loL []) func104 g131 g100 (by kernel_rfl) FoSnd.nil (LoOk.snd LoOk.nil) (Eq.trans (by kernel_rfl) hr)
end
end Go.Proofs.YthnmepafpikaiaaGreat
