/- Typed states over the abstract machine: shapes, reading a state by a shape, laying a state out of a shape. -/
import Derived.Test.YtkdepbmeaiefeaaShvY5
namespace Go.Proofs.Ytkdepbmeaiefeaa.Shv
set_option linter.all false
open Go

variable {U : Uni}

inductive SC where
  | hole (ty : Ty)
  | ptr (b o : Nat)
  | eptr (b : Nat) (ty : Ty) (o : Nat)
  | iptr (ty : Ty) (o : Nat)
  | arr (b : Nat)
  | cap0
  | nilp
  | nilfn
  | fn (f : Nat) (caps : List Nat)
  | dead

inductive SV where
  | c (s : SC)
  | agg (l : List SC)
  | row (n : Nat)
  | tup (l : List SV)

inductive SB where
  | box (l : List SC)
  | arr (ty : Ty)
  | brow (n : Nat)
  | gone

structure Shape where
  env : List (Nat × SV)
  st : List SB

abbrev Cs (U : Uni) := List (Cell U.D)

/-! laying out -/

def filC : SC → Cs U → XC U × Cs U
  | .hole _, c :: r => (.t c, r)
  | .hole _, [] => (.dead, [])
  | .ptr b o, r => (.ptr b o, r)
  | .eptr b ty o, ⟨.int _, n⟩ :: r => (.eptr b ty (Int.toNat n) o, r)
  | .eptr _ _ _, r => (.dead, r)
  | .iptr _ o, c :: r => (.iptr c.ty c.val o, r)
  | .iptr _ _, [] => (.dead, [])
  | .arr b, r => (.arr b, r)
  | .cap0, r => (.cap0, r)
  | .nilp, r => (.nilp, r)
  | .nilfn, r => (.nilfn, r)
  | .fn f caps, r => (.fn f caps, r)
  | .dead, r => (.dead, r)

def filCs : List SC → Cs U → List (XC U) × Cs U
  | [], r => ([], r)
  | s :: ss, r => match filC s r with
    | (x, r1) => match filCs ss r1 with
      | (xs, r2) => (x :: xs, r2)

mutual
def filV : SV → Cs U → XV U × Cs U
  | .c s, r => match filC s r with
    | (x, r1) => (.c x, r1)
  | .agg l, r => match filCs l r with
    | (xs, r1) => (.agg xs, r1)
  | .row _, c :: r => (.agg ((c.ty.row U c.val).map .t), r)
  | .row _, [] => (.tup [], [])
  | .tup l, r => match filVs l r with
    | (xs, r1) => (.tup xs, r1)
def filVs : List SV → Cs U → List (XV U) × Cs U
  | [], r => ([], r)
  | s :: ss, r => match filV s r with
    | (x, r1) => match filVs ss r1 with
      | (xs, r2) => (x :: xs, r2)
end

def filE : List (Nat × SV) → Cs U → XEnv U × Cs U
  | [], r => ([], r)
  | (k, s) :: ss, r => match filV s r with
    | (x, r1) => match filE ss r1 with
      | (xs, r2) => ((k, x) :: xs, r2)

def filB : SB → Cs U → Option (XB U) × Cs U
  | .box l, r => match filCs l r with
    | (xs, r1) => (some (.box xs), r1)
  | .arr _, ⟨.slice t, l⟩ :: r => (some (.arr t l), r)
  | .arr _, r => (none, r)
  | .brow _, c :: r => (some (.box ((c.ty.row U c.val).map .t)), r)
  | .brow _, [] => (none, [])
  | .gone, r => (none, r)

def filS : Nat → List SB → Cs U → XSt U
  | _, [], _ => []
  | j, s :: ss, r => match filB s r with
    | (some x, r1) => (j, x) :: filS (j + 1) ss r1
    | (none, r1) => filS (j + 1) ss r1

/-! reading -/

def getN {α : Type} : List α → Nat → Option α
  | [], _ => none
  | a :: _, 0 => some a
  | _ :: l, n + 1 => getN l n

theorem getN_eq {α : Type} : ∀ {l : List α} {n : Nat}, getN l n = l[n]?
  | [], n => by simp [getN]
  | a :: l, 0 => by simp [getN]
  | a :: l, n + 1 => by simp [getN, getN_eq (l := l)]

def isB (bs : List Nat) (j b : Nat) : Bool := match getN bs j with
  | some b' => Nat.beq b' b
  | none => false

def capsB (bs : List Nat) : List Nat → List Nat → Bool
  | [], [] => true
  | j :: js, c :: cs => isB bs j c && capsB bs js cs
  | _, _ => false

/-- a cell that is a tree -/
def thaw (ty : Ty) : XC U → Option (Cell U.D)
  | .t c => match Cell.as ty c with
    | some x => some ⟨ty, x⟩
    | none => none
  | .cap0 => match ty with
    | .slice t => some ⟨.slice t, ([] : List (t.den U.D))⟩
    | _ => none
  | _ => none

def chkC (bs : List Nat) : SC → XC U → Option (Cs U)
  | .hole ty, x => match thaw ty x with
    | some c => some [c]
    | none => none
  | .ptr j o, .ptr b o' => match isB bs j b && Nat.beq o o' with
    | true => some []
    | false => none
  | .eptr j ty o, .eptr b ty' i o' => match isB bs j b && (Nat.beq o o' && Ty.beq ty ty') with
    | true => some [⟨.int .i64, (i : Int)⟩]
    | false => none
  | .iptr ty o, .iptr ty' x o' => match Nat.beq o o', Cell.as ty (⟨ty', x⟩ : Cell U.D) with
    | true, some x => some [⟨ty, x⟩]
    | _, _ => none
  | .arr j, .arr b => match isB bs j b with
    | true => some []
    | false => none
  | .cap0, .cap0 => some []
  | .nilp, .nilp => some []
  | .nilfn, .nilfn => some []
  | .fn f js, .fn f' cs => match Nat.beq f f' && capsB bs js cs with
    | true => some []
    | false => none
  | .dead, _ => some []
  | _, _ => none

def chkCs (bs : List Nat) : List SC → List (XC U) → Option (Cs U)
  | [], [] => some []
  | s :: ss, x :: xs => match chkC bs s x, chkCs bs ss xs with
    | some a, some b => some (a ++ b)
    | _, _ => none
  | _, _ => none

mutual
def chkV (bs : List Nat) : SV → XV U → Option (Cs U)
  | .c s, .c x => chkC bs s x
  | .agg l, .agg xs => chkCs bs l xs
  | .row n, .agg xs => match xmk U (.nm n) xs with
    | some x => some [⟨.nm n, x⟩]
    | none => none
  | .tup l, .tup xs => chkVs bs l xs
  | _, _ => none
def chkVs (bs : List Nat) : List SV → List (XV U) → Option (Cs U)
  | [], [] => some []
  | s :: ss, x :: xs => match chkV bs s x, chkVs bs ss xs with
    | some a, some b => some (a ++ b)
    | _, _ => none
  | _, _ => none
end

def chkE (bs : List Nat) (env : XEnv U) : List (Nat × SV) → Option (Cs U)
  | [] => some []
  | (k, s) :: ss => match lk env k with
    | some x => match chkV bs s x, chkE bs env ss with
      | some a, some b => some (a ++ b)
      | _, _ => none
    | none => none

def chkB (bs : List Nat) : SB → XB U → Option (Cs U)
  | .box l, .box xs => chkCs bs l xs
  | .arr ty, .arr t l => match Cell.as (.slice ty) (⟨.slice t, l⟩ : Cell U.D) with
    | some l => some [⟨.slice ty, l⟩]
    | none => none
  | .arr ty, .rows sz r => match Nat.beq (ty.sz U) sz, xmks U ty r with
    | true, some l => some [⟨.slice ty, l⟩]
    | _, _ => none
  | .brow n, .box xs => match xmk U (.nm n) xs with
    | some x => some [⟨.nm n, x⟩]
    | none => none
  | _, _ => none

def chkS (bs : List Nat) (σ : XSt U) : Nat → List SB → Option (Cs U)
  | _, [] => some []
  | j, .gone :: ss => chkS bs σ (j + 1) ss
  | j, s :: ss => match getN bs j with
    | some b => match lk σ b with
      | some x => match chkB bs s x, chkS bs σ (j + 1) ss with
        | some a, some r => some (a ++ r)
        | _, _ => none
      | none => none
    | none => none

/-! soundness -/

section
variable {kk N : Nat} {σ σc : XSt U} {σ1 : Store} {env : XEnv U} {env1 : Env} {bs : List Nat}

/-- the canonical store's arrays are as long as what they stand for -/
def Can (bs : List Nat) (σ σc : XSt U) : Prop := ∀ j b x', bs[j]? = some b → lk σc j = some x' → ∃ x, lk σ b = some x ∧ ∀ p, x'.dim = some p → x.dim = some p

theorem pos_of {bs : List Nat} (hnd : bs.Nodup) {j b : Nat} (h : bs[j]? = some b) : pos bs b = some j := by
  induction bs generalizing j with
  | nil => simp at h
  | cons a bs ih =>
    simp only [pos]
    cases j with
    | zero => simp at h; rw [if_pos h]
    | succ j =>
      simp at h
      have hm := List.mem_of_getElem? h
      have hne : a ≠ b := fun e => (List.nodup_cons.1 hnd).1 (e ▸ hm)
      rw [if_neg hne, ih (List.nodup_cons.1 hnd).2 h]; rfl

theorem isB_some {j b : Nat} (h : isB bs j b = true) : bs[j]? = some b := by
  unfold isB at h
  rw [getN_eq] at h
  split at h
  · rename_i b' hb; rw [hb, beq_true h]
  · cases h

theorem capsB_some (hnd : bs.Nodup) : ∀ {js cs : List Nat}, capsB bs js cs = true → posAll bs cs = some js
  | [], [], _ => rfl
  | j :: js, c :: cs, h => by
    simp only [capsB, Bool.and_eq_true] at h
    simp [posAll, pos_of hnd (isB_some h.1), capsB_some hnd h.2]

theorem thaw_sound {ty : Ty} {x : XC U} {c : Cell U.D} {d : C} (h : thaw ty x = some c) (hr : CR N σ x d) : CSub (d.ren bs) (.t (c.enc U)) ∧ c.ty = ty := by
  unfold thaw at h
  split at h
  · split at h
    · rename_i c' y hy
      cases h
      rw [Cell.as_some hy] at hr
      cases hr
      exact ⟨CSub.refl _, rfl⟩
    · cases h
  · split at h
    · cases h
      cases hr
      exact ⟨CSub.cap0, rfl⟩
    · cases h
  · cases h

theorem chkC_sound (hnd : bs.Nodup) (hcan : Can bs σ σc) {s : SC} {x : XC U} {a : Cs U} (h : chkC bs s x = some a) :
    ∃ y, (∀ r, filC s (a ++ r) = (y, r)) ∧ ∀ d, CR N σ x d → ∃ d', CSub (d.ren bs) d' ∧ CR bs.length σc y d' := by
  unfold chkC at h
  split at h
  · split at h
    · rename_i c hc
      cases h
      exact ⟨.t c, fun r => rfl, fun d hd => ⟨_, (thaw_sound hc hd).1, .t c⟩⟩
    · cases h
  · rename_i j o b o'
    split at h
    · rename_i hb
      simp only [Bool.and_eq_true] at hb
      have := beq_true hb.2; subst this
      cases h
      refine ⟨.ptr j o, fun r => rfl, fun d hd => ⟨.ptr j o, ?_, .ptr j o⟩⟩
      cases hd
      simp only [C.ren, pos_of hnd (isB_some hb.1)]
      exact CSub.refl _
    · cases h
  · rename_i j ty o b ty' i o'
    split at h
    · rename_i hb
      simp only [Bool.and_eq_true] at hb
      have := beq_true hb.2.1; subst this
      have := Ty.beq_eq hb.2.2; subst this
      cases h
      refine ⟨.eptr j ty i o, fun r => rfl, fun d hd => ⟨.eptr j (ty.sz U) i o, ?_, .eptr j ty i o⟩⟩
      cases hd
      simp only [C.ren, pos_of hnd (isB_some hb.1)]
      exact CSub.refl _
    · cases h
  · rename_i ty o ty' x o'
    split at h
    · rename_i y ho hy
      have := beq_true ho; subst this
      cases h
      have e := Cell.as_some hy
      cases e
      refine ⟨.iptr ty y o, fun r => rfl, fun d hd => ⟨d, ?_, ?_⟩⟩
      · cases hd; exact CSub.refl _
      · cases hd; exact .iptr ty y o
    · cases h
  · rename_i j b
    split at h
    · rename_i hb
      cases h
      refine ⟨.arr j, fun r => rfl, fun d hd => ?_⟩
      cases hd with
      | arr _ sz n hbN hh =>
        have hj := isB_some hb
        refine ⟨.arr j sz 0 n, ?_, .arr j sz n (List.getElem?_eq_some_iff.1 hj).1 fun x hx p hp => ?_⟩
        · simp only [C.ren, pos_of hnd hj]; exact CSub.refl _
        · obtain ⟨x0, h1, h2⟩ := hcan j b x hj hx
          exact hh x0 h1 p (h2 p hp)
    · cases h
  · cases h; exact ⟨.cap0, fun r => rfl, fun d hd => by cases hd; exact ⟨.cap0, CSub.refl _, .cap0⟩⟩
  · cases h; exact ⟨.nilp, fun r => rfl, fun d hd => by cases hd; exact ⟨.nilp, CSub.refl _, .nilp⟩⟩
  · cases h; exact ⟨.nilfn, fun r => rfl, fun d hd => by cases hd; exact ⟨.nilfn, CSub.refl _, .nilfn⟩⟩
  · rename_i f js f' cs
    split at h
    · rename_i hb
      simp only [Bool.and_eq_true] at hb
      have := beq_true hb.1; subst this
      cases h
      refine ⟨.fn f js, fun r => rfl, fun d hd => ⟨.fn f js, ?_, .fn f js⟩⟩
      cases hd
      simp only [C.ren, capsB_some hnd hb.2]
      exact CSub.refl _
    · cases h
  · cases h; exact ⟨.dead, fun r => rfl, fun d hd => ⟨.dead, CSub.dead _, .dead _⟩⟩
  · cases h

theorem chkCs_sound (hnd : bs.Nodup) (hcan : Can bs σ σc) : ∀ {ss : List SC} {xs : List (XC U)} {a : Cs U}, chkCs bs ss xs = some a →
    ∃ ys, (∀ r, filCs ss (a ++ r) = (ys, r)) ∧ ∀ ds, All2 (CR N σ) xs ds → ∃ ds', All2 CSub (ds.map (C.ren bs)) ds' ∧ All2 (CR bs.length σc) ys ds'
  | [], [], a, h => by simp [chkCs] at h; subst h; exact ⟨[], fun r => rfl, fun ds hd => by cases hd; exact ⟨[], .nil, .nil⟩⟩
  | s :: ss, x :: xs, a, h => by
    simp only [chkCs] at h
    split at h
    · rename_i a1 a2 h1 h2
      cases h
      obtain ⟨y, f1, g1⟩ := chkC_sound (N := N) hnd hcan h1
      obtain ⟨ys, f2, g2⟩ := chkCs_sound hnd hcan h2
      refine ⟨y :: ys, fun r => by simp only [filCs, List.append_assoc, f1, f2], fun ds hd => ?_⟩
      cases hd with
      | cons hd1 hd2 =>
        obtain ⟨d', e1, e2⟩ := g1 _ hd1
        obtain ⟨ds', e3, e4⟩ := g2 _ hd2
        exact ⟨d' :: ds', .cons e1 e3, .cons e2 e4⟩
    · cases h
  | [], _ :: _, a, h => by simp [chkCs] at h
  | _ :: _, [], a, h => by simp [chkCs] at h

/-- a row -/
theorem row_sound {n : Nat} {xs : List (XC U)} {x : (Ty.nm n).den U.D} (h : xmk U (.nm n) xs = some x) : ∀ ds, All2 (CR N σ) xs ds → ∃ ds', All2 CSub (ds.map (C.ren bs)) ds' ∧ All2 (CR bs.length σc) (((Ty.nm n).row U x).map .t) ds' := by
  intro ds hd
  refine ⟨((Ty.nm n).enc U x).map .t, ?_, row_cells⟩
  unfold xmk at h
  split at h
  · rename_i row hrow
    rw [Ty.enc_row, Ty.mk_row h, List.map_map]
    clear h
    generalize (Ty.nm n).cells U = tys at hrow
    induction xs generalizing tys row ds with
    | nil =>
      cases hd
      cases tys <;> simp [xcellsOf] at hrow
      subst hrow; exact .nil
    | cons y ys ih =>
      cases hd with
      | @cons _ d _ ds h1 h2 =>
        cases tys with
        | nil => cases y <;> simp [xcellsOf] at hrow
        | cons ty tys =>
          cases h1 with
          | t c =>
            cases ty <;> simp only [xcellsOf] at hrow <;> (split at hrow <;> first | (cases hrow; done) | (rename_i q hq; cases hrow; exact .cons (CSub.refl _) (ih _ h2 _ _ hq)))
          | cap0 =>
            cases ty <;> simp only [xcellsOf, reduceCtorEq] at hrow
            split at hrow
            · rename_i q hq; cases hrow; exact .cons CSub.cap0 (ih _ h2 _ _ hq)
            · cases hrow
          | _ => cases ty <;> simp [xcellsOf] at hrow
  · cases h

mutual
theorem chkV_sound (hnd : bs.Nodup) (hcan : Can bs σ σc) : ∀ {s : SV} {x : XV U} {a : Cs U}, chkV bs s x = some a →
    ∃ y, (∀ r, filV s (a ++ r) = (y, r)) ∧ ∀ d, VR N σ x d → ∃ d', VSub (d.ren bs) d' ∧ VR bs.length σc y d'
  | .c s, .c x, a, h => by
    simp only [chkV] at h
    obtain ⟨y, f, g⟩ := chkC_sound (N := N) hnd hcan h
    refine ⟨.c y, fun r => by simp only [filV, f], fun d hd => ?_⟩
    cases hd with
    | c hd => obtain ⟨d', e1, e2⟩ := g _ hd; exact ⟨.c d', .c e1, .c e2⟩
  | .agg l, .agg xs, a, h => by
    simp only [chkV] at h
    obtain ⟨y, f, g⟩ := chkCs_sound (N := N) hnd hcan h
    refine ⟨.agg y, fun r => by simp only [filV, f], fun d hd => ?_⟩
    cases hd with
    | agg hd => obtain ⟨d', e1, e2⟩ := g _ hd; exact ⟨.agg d', .agg e1, .agg e2⟩
  | .row n, .agg xs, a, h => by
    simp only [chkV] at h
    split at h
    · rename_i x hx
      cases h
      refine ⟨.agg (((Ty.nm n).row U x).map .t), fun r => rfl, fun d hd => ?_⟩
      cases hd with
      | agg hd => obtain ⟨d', e1, e2⟩ := row_sound hx _ hd; exact ⟨.agg d', .agg e1, .agg e2⟩
    · cases h
  | .tup l, .tup xs, a, h => by
    simp only [chkV] at h
    obtain ⟨ys, f, hl, g⟩ := chkVs_sound hnd hcan h
    refine ⟨.tup ys, fun r => by simp only [filV, f], fun d hd => ?_⟩
    cases hd with
    | tup _ ds hl2 hd =>
      obtain ⟨ds', e1, e2, e3⟩ := g ds hl2 hd
      refine ⟨.tup ds', .tup _ _ (by rw [ren_go_length]; exact e1.symm) ?_, .tup _ _ (by omega) fun i x d hx hd' => (e3 i x d hx hd')⟩
      intro i x y hx hy
      rw [ren_go_get, Option.map_eq_some_iff] at hx
      obtain ⟨x0, hx0, rfl⟩ := hx
      exact e2 i x0 y hx0 hy
  | .c _, .agg _, a, h => by simp [chkV] at h
  | .c _, .tup _, a, h => by simp [chkV] at h
  | .agg _, .c _, a, h => by simp [chkV] at h
  | .agg _, .tup _, a, h => by simp [chkV] at h
  | .row _, .c _, a, h => by simp [chkV] at h
  | .row _, .tup _, a, h => by simp [chkV] at h
  | .tup _, .c _, a, h => by simp [chkV] at h
  | .tup _, .agg _, a, h => by simp [chkV] at h
theorem chkVs_sound (hnd : bs.Nodup) (hcan : Can bs σ σc) : ∀ {ss : List SV} {xs : List (XV U)} {a : Cs U}, chkVs bs ss xs = some a →
    ∃ ys : List (XV U), (∀ r, filVs ss (a ++ r) = (ys, r)) ∧ ys.length = xs.length ∧ ∀ ds : List V, xs.length = ds.length → (∀ (i : Nat) x d, xs[i]? = some x → ds[i]? = some d → VR N σ x d) →
      ∃ ds' : List V, ds'.length = ds.length ∧ (∀ (i : Nat) (d d' : V), ds[i]? = some d → ds'[i]? = some d' → VSub (d.ren bs) d') ∧ (∀ (i : Nat) y d', ys[i]? = some y → ds'[i]? = some d' → VR bs.length σc y d')
  | [], [], a, h => by simp [chkVs] at h; subst h; exact ⟨[], fun r => rfl, rfl, fun ds hl hd => ⟨[], by simpa using hl, by simp, by simp⟩⟩
  | s :: ss, x :: xs, a, h => by
    simp only [chkVs] at h
    split at h
    · rename_i a1 a2 h1 h2
      cases h
      obtain ⟨y, f1, g1⟩ := chkV_sound hnd hcan h1
      obtain ⟨ys, f2, hl, g2⟩ := chkVs_sound hnd hcan h2
      refine ⟨y :: ys, fun r => by simp only [filVs, List.append_assoc, f1, f2], by simp [hl], fun ds hlen hd => ?_⟩
      cases ds with
      | nil => simp at hlen
      | cons d ds =>
        obtain ⟨d', e1, e2⟩ := g1 d (hd 0 x d rfl rfl)
        obtain ⟨ds', e3, e4, e5⟩ := g2 ds (by simpa using hlen) fun i x d hx hd' => hd (i + 1) x d (by simpa using hx) (by simpa using hd')
        refine ⟨d' :: ds', by simp [e3], fun i => ?_, fun i => ?_⟩
        · cases i with
          | zero => intro a b h1 h2; simp at h1 h2; subst h1; subst h2; exact e1
          | succ i => intro a b h1 h2; exact e4 i a b (by simpa using h1) (by simpa using h2)
        · cases i with
          | zero => intro a b h1 h2; simp at h1 h2; subst h1; subst h2; exact e2
          | succ i => intro a b h1 h2; exact e5 i a b (by simpa using h1) (by simpa using h2)
    · cases h
  | [], _ :: _, a, h => by simp [chkVs] at h
  | _ :: _, [], a, h => by simp [chkVs] at h
end

theorem look_tidyEnv : ∀ {ks : List Nat} {k : Nat} {g : Bool} {v : V}, k ∈ ks → look env1 k = some (g, v) → look (tidyEnv bs env1 ks) k = some (g, v.ren bs)
  | x :: ks, k, g, v, hm, hl => by
    simp only [tidyEnv]
    by_cases h : x = k
    · subst h
      rw [hl]
      simp [look]
    · have hm' : k ∈ ks := by
        rcases List.mem_cons.1 hm with e | e
        · exact absurd e.symm h
        · exact e
      split
      · simp only [look, if_neg h]
        exact look_tidyEnv hm' hl
      · exact look_tidyEnv hm' hl

theorem chkE_sound (hnd : bs.Nodup) (hcan : Can bs σ σc) (he : ER N σ (fun _ => true) env env1) : ∀ {ss : List (Nat × SV)} {a : Cs U}, chkE bs env ss = some a →
    ∃ envc, (∀ r, filE ss (a ++ r) = (envc, r)) ∧ ∃ env1' : Env, ER bs.length σc (fun _ => true) envc env1' ∧ ∀ k g v', look env1' k = some (g, v') → k ∈ ss.map Prod.fst ∧ ∃ v, look env1 k = some (g, v) ∧ VSub (v.ren bs) v'
  | [], a, h => by simp [chkE] at h; subst h; exact ⟨[], fun r => rfl, [], fun k v hk => by simp [lk] at hk, fun k g v h => by simp [look] at h⟩
  | (k, s) :: ss, a, h => by
    simp only [chkE] at h
    split at h
    · rename_i x hx
      split at h
      · rename_i a1 a2 h1 h2
        cases h
        obtain ⟨y, f1, g1⟩ := chkV_sound (N := N) hnd hcan h1
        obtain ⟨envc, f2, env1', e1, e2⟩ := chkE_sound hnd hcan he h2
        obtain ⟨d, k1, k2⟩ := he k x hx
        obtain ⟨d', m1, m2⟩ := g1 d k2
        refine ⟨(k, y) :: envc, fun r => by simp only [filE, List.append_assoc, f1, f2], (k, true, d') :: env1', fun i v hi => ?_, fun i g v hi => ?_⟩
        · simp only [lk] at hi
          simp only [look]
          split at hi
          · rename_i hb; cases hi; rw [if_pos (beq_true hb)]; exact ⟨d', rfl, m2⟩
          · rename_i hb; rw [if_neg (beq_false hb)]; exact e1 i v hi
        · simp only [look] at hi
          split at hi
          · rename_i hb; cases hi; subst hb; exact ⟨by simp, d, k1, m1⟩
          · obtain ⟨n1, n2⟩ := e2 i g v hi
            exact ⟨by simp only [List.map_cons, List.mem_cons]; exact .inr n1, n2⟩
      · cases h
    · cases h

theorem chkB_sound (hnd : bs.Nodup) (hcan : Can bs σ σc) {s : SB} {x : XB U} {a : Cs U} (h : chkB bs s x = some a) :
    ∃ y, (∀ r, filB s (a ++ r) = (some y, r)) ∧ (∀ d, BR N σ x d → ∃ d', BSub (d.ren bs) d' ∧ BR bs.length σc y d') := by
  unfold chkB at h
  split at h
  · obtain ⟨ys, f, g⟩ := chkCs_sound (N := N) hnd hcan h
    refine ⟨.box ys, fun r => by simp only [filB, f], fun d hd => ?_⟩
    cases hd with
    | box hd => obtain ⟨ds', e1, e2⟩ := g _ hd; exact ⟨.box ds', .box e1, .box e2⟩
  · rename_i ty t l0
    split at h
    · rename_i l hl
      cases h
      have e := Cell.as_some hl
      cases e
      refine ⟨.arr ty l, fun r => rfl, fun d hd => ?_⟩
      cases hd
      exact ⟨_, .arr, .arr ty l⟩
    · cases h
  · rename_i ty sz r
    split at h
    · rename_i l hsz hl
      cases h
      have := beq_true hsz; subst this
      refine ⟨.arr ty l, fun r => rfl, fun d hd => ?_⟩
      cases hd with
      | rows h1 h2 =>
        refine ⟨_, .arr, ?_⟩
        rw [← xmks_ts hl h1]
        exact .arr ty l
    · cases h
  · rename_i n xs
    split at h
    · rename_i x hx
      cases h
      refine ⟨.box (((Ty.nm n).row U x).map .t), fun r => rfl, fun d hd => ?_⟩
      cases hd with
      | box hd => obtain ⟨ds', e1, e2⟩ := row_sound hx _ hd; exact ⟨.box ds', .box e1, .box e2⟩
    · cases h
  · cases h

theorem xmks_length {t : Ty} : ∀ {r : List (List (XC U))} {l : List (t.den U.D)}, xmks U t r = some l → l.length = r.length
  | [], l, h => by simp [xmks] at h; subst h; rfl
  | r :: rs, l, h => by
    simp only [xmks] at h
    split at h
    · rename_i x xs hx hxs; cases h; simp [xmks_length hxs]
    · cases h

theorem chkB_dim {s : SB} {x y : XB U} {a r : Cs U} (h : chkB bs s x = some a) (hf : filB s (a ++ r) = (some y, r)) : ∀ p, y.dim = some p → x.dim = some p := by
  unfold chkB at h
  split at h
  · intro p hp
    simp only [filB, Prod.mk.injEq, Option.some.injEq] at hf
    rw [← hf.1] at hp; simp [XB.dim] at hp
  · rename_i ty t l0
    split at h
    · rename_i l hl
      cases h
      have e := Cell.as_some hl
      cases e
      simp only [filB, List.cons_append, List.nil_append, Prod.mk.injEq, Option.some.injEq, and_true] at hf
      rw [← hf]; exact fun p h => h
    · cases h
  · rename_i ty sz r'
    split at h
    · rename_i l hsz hl
      cases h
      have := beq_true hsz; subst this
      simp only [filB, List.cons_append, List.nil_append, Prod.mk.injEq, Option.some.injEq, and_true] at hf
      rw [← hf]
      intro p hp
      simp only [XB.dim] at hp ⊢
      rw [← xmks_length hl]; exact hp
    · cases h
  · rename_i n xs
    split at h
    · rename_i x hx
      cases h
      intro p hp
      simp only [filB, List.cons_append, List.nil_append, Prod.mk.injEq, Option.some.injEq, and_true] at hf
      rw [← hf] at hp; simp [XB.dim] at hp
    · cases h
  · cases h

/-- the canonical store -/
theorem chkS_sound (hnd : bs.Nodup) : ∀ {ss : List SB} {j : Nat} {a : Cs U}, chkS bs σ j ss = some a →
    (∀ i x', lk (filS j ss a) i = some x' → j ≤ i ∧ i < j + ss.length ∧ ∃ b x, bs[i]? = some b ∧ lk σ b = some x ∧ ∃ s aa, chkB bs s x = some aa ∧ ∀ r, filB s (aa ++ r) = (some x', r))
  | [], j, a, h => by intro i x' hi; simp [filS, lk] at hi
  | .gone :: ss, j, a, h => by
    intro i x' hi
    simp only [chkS] at h
    simp only [filS, filB] at hi
    obtain ⟨h1, h2, h3⟩ := chkS_sound hnd h i x' hi
    exact ⟨by omega, by simp; omega, h3⟩
  | .box l :: ss, j, a, h => chkS_cons hnd (s := .box l) (fun {j a} => chkS_sound hnd (ss := ss) (j := j) (a := a)) (by simpa only [chkS] using h)
  | .arr l :: ss, j, a, h => chkS_cons hnd (s := .arr l) (fun {j a} => chkS_sound hnd (ss := ss) (j := j) (a := a)) (by simpa only [chkS] using h)
  | .brow l :: ss, j, a, h => chkS_cons hnd (s := .brow l) (fun {j a} => chkS_sound hnd (ss := ss) (j := j) (a := a)) (by simpa only [chkS] using h)
where
  chkS_cons (hnd : bs.Nodup) {s : SB} {ss : List SB} (ih : ∀ {j : Nat} {a : Cs U}, chkS bs σ j ss = some a →
    (∀ i x', lk (filS j ss a) i = some x' → j ≤ i ∧ i < j + ss.length ∧ ∃ b x, bs[i]? = some b ∧ lk σ b = some x ∧ ∃ s aa, chkB bs s x = some aa ∧ ∀ r, filB s (aa ++ r) = (some x', r))) {j : Nat} {a : Cs U} (h : (match getN bs j with
    | some b => match lk σ b with
      | some x => match chkB bs s x, chkS bs σ (j + 1) ss with
        | some a, some r => some (a ++ r)
        | _, _ => none
      | none => none
    | none => none) = some a) : (∀ i x', lk (filS j (s :: ss) a) i = some x' → j ≤ i ∧ i < j + (s :: ss).length ∧ ∃ b x, bs[i]? = some b ∧ lk σ b = some x ∧ ∃ s aa, chkB bs s x = some aa ∧ ∀ r, filB s (aa ++ r) = (some x', r)) := by
    intro i x' hi
    split at h
    · rename_i b hb
      rw [getN_eq] at hb
      split at h
      · rename_i x hx
        split at h
        · rename_i a1 a2 h1 h2
          cases h
          obtain ⟨y, f, _⟩ := chkB_sound (N := 0) (σ := σ) (σc := []) hnd (fun _ _ _ _ h => by simp [lk] at h) h1
          simp only [filS, f, lk] at hi
          split at hi
          · rename_i hji
            have := beq_true hji; subst this
            cases hi
            exact ⟨Nat.le_refl _, by simp, b, x, hb, hx, s, a1, h1, f⟩
          · obtain ⟨k1, k2, k3⟩ := ih h2 i x' hi
            exact ⟨by omega, by simp; omega, k3⟩
        · cases h
      · cases h
    · cases h

/-- a state by a shape -/
def fil (U : Uni) (sh : Shape) (a : Cs U) : XEnv U × XSt U :=
  match filE sh.env a with
  | (e, r) => (e, filS 0 sh.st r)

def chk (bs : List Nat) (sh : Shape) (env : XEnv U) (σ : XSt U) : Option (Cs U) :=
  match chkE bs env sh.env, chkS bs σ 0 sh.st with
  | some a, some b => some (a ++ b)
  | _, _ => none

theorem can_of (hnd : bs.Nodup) {ss : List SB} {b : Cs U} (hb : chkS bs σ 0 ss = some b) : Can bs σ (filS 0 ss b) := by
  intro j c x' hj hx'
  obtain ⟨_, _, b', x, h1, h2, s, aa, h3, h4⟩ := chkS_sound hnd hb j x' hx'
  rw [h1] at hj; cases hj
  exact ⟨x, h2, chkB_dim h3 (h4 [])⟩

theorem sget_tidySt {σ1 : Store} : ∀ {r : List Nat} {i j c : Nat} {x : Blk}, r[j]? = some c → sget σ1 c = some x → sget (tidySt bs σ1 i r) (i + j) = some (x.ren bs)
  | [], i, j, c, x, h, _ => by simp at h
  | b :: r, i, 0, c, x, h, hx => by
    simp at h; subst h
    simp only [tidySt, hx, sget, Nat.add_zero, if_true]
  | b :: r, i, j + 1, c, x, h, hx => by
    simp only [tidySt]
    have := sget_tidySt (i := i + 1) (j := j) (r := r) (by simpa using h) hx
    rw [show i + 1 + j = i + (j + 1) by omega] at this
    split
    · simp only [sget]; rw [if_neg (by omega)]; exact this
    · exact this

/-- the canonical store stands for the tidied one -/
theorem st_sound (hnd : bs.Nodup) (hS : SR N σ σ1) {ss : List SB} {b : Cs U} (hb : chkS bs σ 0 ss = some b) :
    ∃ σ1', StSub (tidySt bs σ1 0 bs) σ1' ∧ SR bs.length (filS 0 ss b) σ1' := by
  have hcan := can_of hnd hb
  have hx := chkS_sound hnd hb
  generalize filS 0 ss b = σc at *
  -- the blocks one by one
  have key : ∀ (l : XSt U), (∀ i x', lk l i = some x' → lk σc i = some x') → ∃ σ1' : Store, (∀ i x, sget σ1' i = some x → ∃ y, sget (tidySt bs σ1 0 bs) i = some y ∧ BSub y x) ∧ (∀ i x', lk l i = some x' → i < bs.length ∧ ∃ y, sget σ1' i = some y ∧ BR bs.length σc x' y) := by
    intro l
    induction l with
    | nil => intro _; exact ⟨[], fun i x h => by simp [sget] at h, fun i x h => by simp [lk] at h⟩
    | cons p l ih =>
      obtain ⟨i0, x0⟩ := p
      intro hl
      -- what lies under a later entry of the same number is never seen
      have : ∃ σ1' : Store, (∀ i x, sget σ1' i = some x → ∃ y, sget (tidySt bs σ1 0 bs) i = some y ∧ BSub y x) ∧ (∀ i x', i ≠ i0 → lk l i = some x' → i < bs.length ∧ ∃ y, sget σ1' i = some y ∧ BR bs.length σc x' y) := by
        have := ih
        have aux : ∀ (m : XSt U), (∀ i x', i ≠ i0 → lk m i = some x' → lk σc i = some x') → ∃ σ1' : Store, (∀ i x, sget σ1' i = some x → ∃ y, sget (tidySt bs σ1 0 bs) i = some y ∧ BSub y x) ∧ (∀ i x', i ≠ i0 → lk m i = some x' → i < bs.length ∧ ∃ y, sget σ1' i = some y ∧ BR bs.length σc x' y) := by
          intro m hm
          have hd : ∀ i x', lk (dl m i0) i = some x' → lk σc i = some x' := by
            intro i x' h
            rw [lk_dl] at h
            split at h
            · cases h
            · rename_i hne; exact hm i x' (fun e => hne e.symm) h
          -- build over all numbers below bs.length
          have build : ∀ n, ∃ σ1' : Store, (∀ i x, sget σ1' i = some x → ∃ y, sget (tidySt bs σ1 0 bs) i = some y ∧ BSub y x) ∧ (∀ i x', i < n → lk (dl m i0) i = some x' → i < bs.length ∧ ∃ y, sget σ1' i = some y ∧ BR bs.length σc x' y) := by
            intro n
            induction n with
            | zero => exact ⟨[], fun i x h => by simp [sget] at h, fun i x h => by omega⟩
            | succ n ihn =>
              obtain ⟨s, h1, h2⟩ := ihn
              cases hn : lk (dl m i0) n with
              | none => exact ⟨s, h1, fun i x' hi hlk => h2 i x' (by have : i ≠ n := fun e => by subst e; rw [hn] at hlk; cases hlk
                                                                     omega) hlk⟩
              | some xn =>
                obtain ⟨_, _, b', x, g1, g2, sb, aa, g3, g4⟩ := hx n xn (hd n xn hn)
                obtain ⟨_, y, k1, k2⟩ := hS b' x g2
                obtain ⟨z, f, q⟩ := chkB_sound (N := N) hnd hcan g3
                have : z = xn := by have := (f []).symm.trans (g4 []); simpa using this
                subst this
                obtain ⟨y', q1, q2⟩ := q y k2
                have ht := sget_tidySt (bs := bs) (i := 0) (j := n) g1 k1
                rw [Nat.zero_add] at ht
                refine ⟨sput s n y', fun i x hi => ?_, fun i x' hi hlk => ?_⟩
                · rw [sget_sput] at hi
                  split at hi
                  · rename_i e; cases hi; subst e; exact ⟨_, ht, q1⟩
                  · exact h1 i x hi
                · by_cases e : i = n
                  · subst e; rw [hn] at hlk; cases hlk
                    exact ⟨(List.getElem?_eq_some_iff.1 g1).1, y', by rw [sget_sput, if_pos rfl], q2⟩
                  · obtain ⟨r1, z, r2, r3⟩ := h2 i x' (by omega) hlk
                    exact ⟨r1, z, by rw [sget_sput, if_neg (fun e' => e e'.symm)]; exact r2, r3⟩
          obtain ⟨s, h1, h2⟩ := build bs.length
          refine ⟨s, h1, fun i x' hne hlk => ?_⟩
          have hlk' : lk (dl m i0) i = some x' := by rw [lk_dl, if_neg (fun e => hne e.symm)]; exact hlk
          obtain ⟨_, _, b', x, g1, _⟩ := hx i x' (hd i x' hlk')
          exact h2 i x' (List.getElem?_eq_some_iff.1 g1).1 hlk'
        exact aux l fun i x' hne h => hl i x' (by
          simp only [lk]
          cases hb : Nat.beq i0 i with
          | true => exact absurd (beq_true hb).symm hne
          | false => exact h)
      obtain ⟨s, h1, h2⟩ := this
      have hx0 : lk σc i0 = some x0 := hl i0 x0 (by simp [lk, Nat.beq_refl])
      obtain ⟨_, _, b', x, g1, g2, sb, aa, g3, g4⟩ := hx i0 x0 hx0
      obtain ⟨_, y, k1, k2⟩ := hS b' x g2
      obtain ⟨z, f, q⟩ := chkB_sound (N := N) hnd hcan g3
      have : z = x0 := by have := (f []).symm.trans (g4 []); simpa using this
      subst this
      obtain ⟨y', q1, q2⟩ := q y k2
      have ht := sget_tidySt (bs := bs) (i := 0) (j := i0) g1 k1
      rw [Nat.zero_add] at ht
      refine ⟨sput s i0 y', fun i x hi => ?_, fun i x' hlk => ?_⟩
      · rw [sget_sput] at hi
        split at hi
        · rename_i e; cases hi; subst e; exact ⟨_, ht, q1⟩
        · exact h1 i x hi
      · by_cases e : i = i0
        · subst e
          simp [lk, Nat.beq_refl] at hlk
          subst hlk
          exact ⟨(List.getElem?_eq_some_iff.1 g1).1, y', by rw [sget_sput, if_pos rfl], q2⟩
        · have hlk' : lk l i = some x' := by
            simp only [lk] at hlk
            cases hb : Nat.beq i0 i with
            | true => exact absurd (beq_true hb).symm e
            | false => rw [hb] at hlk; exact hlk
          obtain ⟨r1, z, r2, r3⟩ := h2 i x' e hlk'
          exact ⟨r1, z, by rw [sget_sput, if_neg (fun e' => e e'.symm)]; exact r2, r3⟩
  obtain ⟨s, h1, h2⟩ := key σc fun _ _ h => h
  exact ⟨s, fun i x hi => h1 i x hi, fun i x' hlk => h2 i x' hlk⟩

theorem chk_sound (hnd : bs.Nodup) (hk : keeps kk bs = true) (he : ER N σ (fun _ => true) env env1) (hS : SR N σ σ1) {sh : Shape} {a : Cs U} (h : chk bs sh env σ = some a) :
    ∃ env1' σ1', Conv kk N env1 σ1 bs.length env1' σ1' ∧ ER bs.length (fil U sh a).2 (fun _ => true) (fil U sh a).1 env1' ∧ SR bs.length (fil U sh a).2 σ1' := by
  unfold chk at h
  split at h
  · rename_i a1 b h1 h2
    cases h
    obtain ⟨envc, f, env1', e1, e2⟩ := chkE_sound hnd (can_of hnd h2) he h1
    obtain ⟨σ1', s1, s2⟩ := st_sound hnd hS h2
    have hf : fil U sh (a1 ++ b) = (envc, filS 0 sh.st b) := by simp only [fil, f]
    rw [hf]
    refine ⟨env1', σ1', (Conv.tidy (sh.env.map Prod.fst) bs hnd hk).trans (Conv.weaken (fun k g v' hl => ?_) s1), e1, s2⟩
    obtain ⟨hm, v, hv, hs⟩ := e2 k g v' hl
    exact ⟨_, look_tidyEnv hm hv, hs⟩
  · cases h

end
end Go.Proofs.Ytkdepbmeaiefeaa.Shv
