/- What the spool's functions answer. -/
import Derived.Test.YtkdepbmeaiefeaaSpoP4
import Derived.Test.YtkdepbmeaiefeaaShvL
namespace Go.Proofs.Ytkdepbmeaiefeaa
open Go Go.Proofs.Ytkdepbmeaiefeaa.Shv
set_option linter.all false

def okItem (nx before : Int) (x : Item) : Bool :=
  decide (before < x.ID) && decide (x.ID < nx) && (decide (0 ≤ x.Version) && decide (x.Version < 6)) && decide ((x.Data.length : Int) ≤ 4096)

def goodS (nx : Int) : Int → List Item → Bool
  | _, [] => true
  | before, x :: r => okItem nx before x && goodS nx x.ID r

def prevId (L : List Item) (k : Nat) : Int := if k = 0 then 0 else (L.getD (k - 1) dItem).ID

def headB (s : Spool) : Bool :=
  decide ((s.Items.length : Int) ≤ 1000) && decide (1 ≤ s.Next) && decide (s.Next ≤ 4611686018427387904) && decide (0 ≤ s.Cursor) && decide (s.Cursor ≤ (s.Items.length : Int))

def validB (s : Spool) : Bool := headB s && goodS s.Next 0 s.Items

abbrev Fits (s : Spool) : Prop := s.Items.length ≤ 140737488351232

def goodT (nx : Int) : Int → List Item → Bool
  | _, [] => true
  | before, x :: r => decide (1 ≤ x.ID) && okItem nx before x && goodT nx x.ID r

theorem goodT_eq {nx : Int} : ∀ {L : List Item} {before : Int}, 0 ≤ before → goodT nx before L = goodS nx before L
  | [], _, _ => rfl
  | x :: r, before, h => by
    unfold goodT goodS
    by_cases hx : 1 ≤ x.ID
    · rw [goodT_eq (by omega)]; simp [hx]
    · have : okItem nx before x = false := by unfold okItem; simp; omega
      simp [this]

theorem drop_cons {α : Type} {L : List α} {d : α} {k : Nat} (h : k < L.length) : L.drop k = L.getD k d :: L.drop (k + 1) := by
  rw [List.drop_eq_getElem_cons h]
  simp [List.getD, List.getElem?_eq_getElem h]

theorem valid_l0 (s : Spool) (hs : Fits s) : ∀ (m k : Nat) (ok : Bool), k + m = s.Items.length →
    spool_Valid_l0 (ok, s.Items, (s.Items.length : Int), (k : Int), s) = some (ok && goodT s.Next (prevId s.Items k) (s.Items.drop k)) := by
  intro m
  induction m with
  | zero =>
    intro k ok h
    rw [spool_Valid_l0.eq_1]
    rw [if_neg (by simp; omega), List.drop_eq_nil_of_le (by omega)]
    simp [goodT]
  | succ m ih =>
    intro k ok h
    have hk : k < s.Items.length := by omega
    unfold Fits at hs
    rw [spool_Valid_l0.eq_1]
    rw [if_pos (by simp; omega), if_pos (inR_nat hk)]
    simp only [Option.bind_eq_bind, Option.bind_some, spool_known, iteSome, toNat_nat]
    rw [if_pos ?_]
    · rw [addI64 (by omega) (by omega), show ((k : Int) + 1) = ((k + 1 : Nat) : Int) by simp, ih (k + 1) _ (by omega), drop_cons (d := dItem) hk]
      congr 1
      have e0 : prevId s.Items (k + 1) = (s.Items.getD k dItem).ID := by simp [prevId]
      rw [e0]
      simp only [goodT, okItem]
      by_cases hk0 : k = 0
      · subst hk0
        have e3 : ∀ x : Int, decide (0 < x) = decide (1 ≤ x) := fun x => by congr 1
        simp only [prevId, if_true, e3]
        generalize s.Items.getD 0 dItem = x
        by_cases a1 : 1 ≤ x.ID <;> by_cases a2 : x.ID < s.Next <;> by_cases a3 : 0 ≤ x.Version <;> by_cases a4 : x.Version < 6 <;> by_cases a5 : (x.Data.length : Int) ≤ 4096 <;> cases ok <;> simp [a1, a2, a3, a4, a5]
      · have e1 : (subI .i64 (k : Int) 1).toNat = k - 1 := by rw [subI64 (by omega) (by omega)]; omega
        have e2 : ¬ ((k : Int) = 0) := by omega
        simp only [e1, e2, prevId, hk0, if_false]
        generalize s.Items.getD k dItem = x
        generalize s.Items.getD (k - 1) dItem = y
        by_cases a0 : y.ID < x.ID <;> by_cases a1 : 1 ≤ x.ID <;> by_cases a2 : x.ID < s.Next <;> by_cases a3 : 0 ≤ x.Version <;> by_cases a4 : x.Version < 6 <;> by_cases a5 : (x.Data.length : Int) ≤ 4096 <;> cases ok <;> simp [a0, a1, a2, a3, a4, a5]
    · by_cases hk0 : k = 0
      · subst hk0; simp
      · rw [subI64 (by omega) (by omega), show ((k : Int) - 1) = ((k - 1 : Nat) : Int) by omega, inR_nat (by omega)]
        rfl

theorem condF {a b : Bool} : (bif a then b else false) = (a && b) := by cases a <;> rfl
theorem condT {a b : Bool} : (bif a then true else b) = (a || b) := by cases a <;> rfl

theorem spool_Valid_eq {s : Spool} (hs : Fits s) : spool_Valid s = some (if validB s = true then 0 else 1) := by
  have h := valid_l0 s hs s.Items.length 0 (headB s) (by omega)
  rw [List.drop_zero, goodT_eq (by simp [prevId]), show prevId s.Items 0 = 0 from rfl, Int.natCast_zero] at h
  unfold spool_Valid
  simp only [condF]
  change (spool_Valid_l0 (headB s, s.Items, (s.Items.length : Int), 0, s) >>= fun o => if (!o) = true then some 1 else some 0) = _
  rw [h]
  simp only [Option.bind_eq_bind, Option.bind_some]
  change (if (!validB s) = true then some 1 else some 0) = _
  cases validB s <;> rfl

theorem refValid_l0 (s : Spool) (hs : Fits s) : ∀ (m k : Nat) (before : Int), k + m = s.Items.length →
    sheaveref51_Valid_l0 (before, (k : Int), s) = some (if goodS s.Next before (s.Items.drop k) = true then .inr () else .inl 1) := by
  intro m
  induction m with
  | zero =>
    intro k before h
    rw [sheaveref51_Valid_l0.eq_1]
    rw [if_neg (by simp; omega), List.drop_eq_nil_of_le (by omega)]
    simp [goodS]
  | succ m ih =>
    intro k before h
    have hk : k < s.Items.length := by omega
    unfold Fits at hs
    rw [sheaveref51_Valid_l0.eq_1]
    rw [if_pos (by simp; omega), if_pos (inR_nat hk)]
    simp only [Option.bind_eq_bind, Option.bind_some, sheaveref51_version, iteSome, toNat_nat, condF, condT]
    rw [addI64 (by omega) (by omega), show ((k : Int) + 1) = ((k + 1 : Nat) : Int) by simp, ih (k + 1) _ (by omega), drop_cons (d := dItem) hk]
    simp only [goodS, okItem]
    generalize s.Items.getD k dItem = x
    by_cases a0 : before < x.ID <;> by_cases a2 : x.ID < s.Next <;> by_cases a3 : 0 ≤ x.Version <;> by_cases a4 : x.Version < 6 <;> by_cases a5 : (x.Data.length : Int) ≤ 4096 <;>
      simp [a0, a2, a3, a4, a5, Int.not_le.2, Int.not_lt.1] <;> omega

theorem refValid_eq {s : Spool} (hs : Fits s) : sheaveref51_Valid s = some (if validB s = true then 0 else 1) := by
  have h := refValid_l0 s hs s.Items.length 0 0 (by omega)
  rw [List.drop_zero, Int.natCast_zero] at h
  unfold sheaveref51_Valid
  simp only [condT, h, Option.bind_eq_bind, Option.bind_some]
  unfold validB headB
  cases goodS s.Next 0 s.Items <;> by_cases a1 : (s.Items.length : Int) ≤ 1000 <;> by_cases a2 : 1 ≤ s.Next <;> by_cases a3 : s.Next ≤ 4611686018427387904 <;> by_cases a4 : 0 ≤ s.Cursor <;> by_cases a5 : s.Cursor ≤ (s.Items.length : Int) <;>
    simp [a1, a2, a3, a4, a5, Int.not_le.2, Int.not_lt.1] <;> omega

theorem small_l0 (s : Spool) (hs : Fits s) : ∀ (m k : Nat) (n : Int), k + m = s.Items.length →
    ∃ n', sheavelaw51_small_l0 (n, s.Items, (s.Items.length : Int), (k : Int), s) = some (n', s) := by
  intro m
  induction m with
  | zero =>
    intro k n h
    rw [sheavelaw51_small_l0.eq_1]
    rw [if_neg (by simp; omega)]
    exact ⟨_, rfl⟩
  | succ m ih =>
    intro k n h
    have hk : k < s.Items.length := by omega
    unfold Fits at hs
    rw [sheavelaw51_small_l0.eq_1]
    rw [if_pos (by simp; omega), if_pos (inR_nat hk), addI64 (a := (k : Int)) (by omega) (by omega), show ((k : Int) + 1) = ((k + 1 : Nat) : Int) by simp]
    exact ih (k + 1) _ (by omega)

theorem small_some {s : Spool} (hs : Fits s) : ∃ b, sheavelaw51_small s = some b := by
  obtain ⟨n, hn⟩ := small_l0 s hs s.Items.length 0 0 (by omega)
  unfold sheavelaw51_small
  rw [Int.natCast_zero] at hn
  rw [hn]
  exact ⟨_, rfl⟩

/-! Put -/

def zSpool : Spool := ⟨[], 0, 0⟩
def putS (s : Spool) (v : Int) (d : List UInt8) : Spool × Int :=
  if validB s = true then
    if (decide (0 ≤ v) && decide (v < 6)) = true then
      if (decide (1000 ≤ (s.Items.length : Int)) || decide (4611686018427387904 ≤ s.Next) || decide (4096 < (d.length : Int))) = true then (zSpool, 3)
      else (⟨s.Items ++ [⟨s.Next, v, d⟩], s.Next + 1, s.Cursor⟩, 0)
    else (zSpool, 7)
  else (zSpool, 1)

theorem valid_bounds {s : Spool} (h : validB s = true) : s.Items.length ≤ 1000 ∧ 1 ≤ s.Next ∧ s.Next ≤ 4611686018427387904 ∧ 0 ≤ s.Cursor ∧ s.Cursor ≤ (s.Items.length : Int) ∧ goodS s.Next 0 s.Items = true := by
  unfold validB headB at h
  simp only [Bool.and_eq_true, decide_eq_true_eq] at h
  obtain ⟨⟨⟨⟨⟨h1, h2⟩, h3⟩, h4⟩, h5⟩, h6⟩ := h
  exact ⟨by omega, h2, h3, h4, h5, h6⟩

theorem spool_Put_eq {s : Spool} (hs : Fits s) (v : Int) (d : List UInt8) : spool_Put (s, v, d) = some (putS s v d) := by
  unfold spool_Put putS
  dsimp only
  rw [spool_Valid_eq hs]
  simp only [Option.bind_eq_bind, Option.bind_some, spool_known, condF, condT]
  by_cases hv : validB s = true
  · obtain ⟨h1, h2, h3, _⟩ := valid_bounds hv
    rw [if_pos hv, if_neg (by simp), if_pos hv]
    by_cases hk : (decide (0 ≤ v) && decide (v < 6)) = true
    · rw [if_neg (by simp [hk]), if_pos hk]
      split
      · rfl
      · rename_i hn
        simp only [Bool.or_eq_true, decide_eq_true_eq, not_or] at hn
        rw [cloneF, if_pos (room_small (by omega)), Option.bind_some, if_pos (room_small (by simp; omega)), addI64 (by omega) (by omega)]
    · rw [if_pos (by rw [Bool.not_eq_true] at hk; rw [hk]; rfl), if_neg hk]; rfl
  · rw [if_neg hv, if_pos (by simp), if_neg hv]; rfl

end Go.Proofs.Ytkdepbmeaiefeaa
