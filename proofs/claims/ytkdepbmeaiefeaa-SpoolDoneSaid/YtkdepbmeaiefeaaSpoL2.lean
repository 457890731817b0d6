/- What the spool's functions answer, part 2. -/
import Derived.Test.YtkdepbmeaiefeaaSpoL1
namespace Go.Proofs.Ytkdepbmeaiefeaa
open Go Go.Proofs.Ytkdepbmeaiefeaa.Shv
set_option linter.all false

def runsB (running v : Int) : Bool := decide (andI .u8 (shrI .u8 running v) 1 = 1)

theorem spool_runs_eq {r v : Int} (h : 0 ≤ v) : spool_runs (r, v) = some (runsB r v) := by
  unfold spool_runs; simp [h, runsB]
theorem ref_runs_eq {r v : Int} (h : 0 ≤ v) : sheaveref51_runs (r, v) = some (runsB r v) := by
  unfold sheaveref51_runs; simp [h, runsB]

/-- the rewriting of a row of items: how many were rewritten, how many were passed, the row -/
def rwL (running v n : Int) : Int → List Item → Int × Nat × List Item
  | done, [] => (done, 0, [])
  | done, x :: r =>
    if runsB running x.Version = true then
      ((rwL running v n done r).1, (rwL running v n done r).2.1 + 1, x :: (rwL running v n done r).2.2)
    else if done = n then (done, 0, x :: r)
    else ((rwL running v n (done + 1) r).1, (rwL running v n (done + 1) r).2.1 + 1, ⟨x.ID, v, x.Data⟩ :: (rwL running v n (done + 1) r).2.2)

theorem rwL_length {running v n : Int} : ∀ {L : List Item} {done : Int}, (rwL running v n done L).2.2.length = L.length
  | [], _ => rfl
  | x :: r, done => by
    unfold rwL
    split
    · simp [rwL_length]
    · split
      · rfl
      · simp [rwL_length]

theorem goodS_ver {nx : Int} : ∀ {L : List Item} {b : Int}, goodS nx b L = true → ∀ x, x ∈ L → 0 ≤ x.Version ∧ x.Version < 6
  | [], _, _, x, hx => by simp at hx
  | y :: r, b, h, x, hx => by
    simp only [goodS, okItem, Bool.and_eq_true, decide_eq_true_eq] at h
    rcases List.mem_cons.1 hx with rfl | hx
    · exact h.1.1.2
    · exact goodS_ver h.2 x hx

theorem take_set {L : List Item} {k : Nat} {y : Item} (h : k < L.length) (R : List Item) : (L.set k y).take (k + 1) ++ R = L.take k ++ y :: R := by
  rw [List.take_succ_eq_append_getElem (by simpa using h), List.append_assoc, List.take_set, List.set_eq_of_length_le (by rw [List.length_take]; exact Nat.min_le_left _ _)]
  simp
theorem take_one {L : List Item} {k : Nat} (h : k < L.length) (R : List Item) : L.take (k + 1) ++ R = L.take k ++ L.getD k dItem :: R := by
  have e : L.getD k dItem = L[k] := by simp [List.getD, List.getElem?_eq_getElem h]
  rw [e, List.take_succ_eq_append_getElem h, List.append_assoc]
  rfl

theorem advance_l0 {running n nx ver : Int} : ∀ (m k : Nat) (L : List Item) (done : Int), k + m = L.length → L.length ≤ 100000 → 0 ≤ done → done ≤ 100000 + k → (∀ x, x ∈ L.drop k → 0 ≤ x.Version) →
    spool_advance_l0 (running, n, done, nx, (k : Int), ver, L) =
      some (.inl ((rwL running ver n done (L.drop k)).1, nx, ((k + (rwL running ver n done (L.drop k)).2.1 : Nat) : Int), ver, L.take k ++ (rwL running ver n done (L.drop k)).2.2)) := by
  intro m
  induction m with
  | zero =>
    intro k L done h hL _ _ hv
    rw [spool_advance_l0.eq_1]
    rw [if_neg (by simp; omega), List.drop_eq_nil_of_le (by omega)]
    simp [rwL, List.take_of_length_le (show L.length ≤ k by omega)]
  | succ m ih =>
    intro k L done h hL hd hdk hv
    have hk : k < L.length := by omega
    have hdr := drop_cons (d := dItem) hk
    rw [hdr] at hv ⊢
    have hv0 := hv (L.getD k dItem) (by simp)
    rw [spool_advance_l0.eq_1]
    rw [if_pos (by simp; omega), if_pos (inR_nat hk), toNat_nat, if_pos (by simp; omega), spool_runs_eq hv0]
    simp only [Option.bind_eq_bind, Option.bind_some, rwL]
    rw [addI64 (by omega) (by omega), show ((k : Int) + 1) = ((k + 1 : Nat) : Int) by simp]
    by_cases hr : runsB running (L.getD k dItem).Version = true
    · rw [if_pos hr, if_pos hr, ih (k + 1) L done (by omega) hL hd (by omega) (fun x hx => hv x (by simp [hx])), take_one hk]
      simp only [Option.some.injEq, Sum.inl.injEq, Prod.mk.injEq, and_true, true_and]
      omega
    · rw [if_neg hr, if_neg hr]
      by_cases hn : done = n
      · rw [if_pos (by simpa using hn), if_pos hn, ← hdr]
        simp
      · rw [if_neg (by simpa using hn), if_neg hn]
        unfold spool_Rewrite_1
        simp only [toNat_nat]
        rw [if_pos (by simp; omega)]
        simp only [Option.bind_some]
        rw [if_pos (by simp), if_neg (by simp), addI64 (by omega) (by omega)]
        rw [ih (k + 1) (L.set k ⟨(L.getD k dItem).ID, ver, (L.getD k dItem).Data⟩) (done + 1) (by simp; omega) (by simpa using hL) (by omega) (by omega) (fun x hx => by
          rw [List.drop_set_of_lt (by omega)] at hx
          exact hv x (by simp [hx]))]
        rw [List.drop_set_of_lt (by omega), take_set hk]
        simp only [Option.some.injEq, Sum.inl.injEq, Prod.mk.injEq, and_true, true_and]
        omega

theorem refRewrite_l0 {running n nx ver b7 b8 : Int} : ∀ (m k : Nat) (L : List Item) (done : Int), k + m = L.length → L.length ≤ 100000 → 0 ≤ done → done ≤ 100000 + k → (∀ x, x ∈ L.drop k → 0 ≤ x.Version) →
    sheaveref51_Rewrite_l0 (running, ver, n, done, nx, (k : Int), b7, b8, L) =
      some ((rwL running ver n done (L.drop k)).1, nx, ((k + (rwL running ver n done (L.drop k)).2.1 : Nat) : Int), b7, b8, L.take k ++ (rwL running ver n done (L.drop k)).2.2) := by
  intro m
  induction m with
  | zero =>
    intro k L done h hL _ _ hv
    rw [sheaveref51_Rewrite_l0.eq_1]
    rw [if_neg (by simp; omega), List.drop_eq_nil_of_le (by omega)]
    simp [rwL, List.take_of_length_le (show L.length ≤ k by omega)]
  | succ m ih =>
    intro k L done h hL hd hdk hv
    have hk : k < L.length := by omega
    have hdr := drop_cons (d := dItem) hk
    rw [hdr] at hv ⊢
    have hv0 := hv (L.getD k dItem) (by simp)
    rw [sheaveref51_Rewrite_l0.eq_1]
    rw [if_pos (by simp; omega), if_pos (inR_nat hk), toNat_nat, if_pos (by simp; omega), ref_runs_eq hv0]
    simp only [Option.bind_eq_bind, Option.bind_some, rwL]
    rw [addI64 (a := (k : Int)) (by omega) (by omega), show ((k : Int) + 1) = ((k + 1 : Nat) : Int) by simp]
    by_cases hr : runsB running (L.getD k dItem).Version = true
    · rw [if_neg (by simp only [hr]; simp), if_pos hr, ih (k + 1) L done (by omega) hL hd (by omega) (fun x hx => hv x (by simp [hx])), take_one hk]
      simp only [Option.some.injEq, Prod.mk.injEq, and_true, true_and]
      omega
    · rw [if_pos (by rw [Bool.not_eq_true] at hr; rw [hr]; rfl), if_neg hr]
      by_cases hn : done = n
      · rw [if_pos (by simpa using hn), if_pos hn, ← hdr]
        simp
      · rw [if_neg (by simpa using hn), if_neg hn, if_pos (inR_nat hk), if_pos (by simp; omega), addI64 (by omega) (by omega)]
        rw [ih (k + 1) (L.set k ⟨(L.getD k dItem).ID, ver, (L.getD k dItem).Data⟩) (done + 1) (by simp; omega) (by simpa using hL) (by omega) (by omega) (fun x hx => by
          rw [List.drop_set_of_lt (by omega)] at hx
          exact hv x (by simp [hx]))]
        rw [List.drop_set_of_lt (by omega), take_set hk]
        simp only [Option.some.injEq, Prod.mk.injEq, and_true, true_and]
        omega

def rewriteS (s : Spool) (running v n : Int) : Spool × Int × Int :=
  if validB s = true then
    if (decide (0 ≤ v) && decide (v < 6) && decide (0 ≤ n)) = true then
      (⟨s.Items.take s.Cursor.toNat ++ (rwL running v n 0 (s.Items.drop s.Cursor.toNat)).2.2, s.Next, ((s.Cursor.toNat + (rwL running v n 0 (s.Items.drop s.Cursor.toNat)).2.1 : Nat) : Int)⟩,
        (rwL running v n 0 (s.Items.drop s.Cursor.toNat)).1, 0)
    else (zSpool, 0, 7)
  else (zSpool, 0, 1)

theorem spool_numbers_eq {s : Spool} (hs : Fits s) (v n : Int) : spool_numbers (s, v, n) = some (if validB s = true then (if (decide (0 ≤ v) && decide (v < 6) && decide (0 ≤ n)) = true then 0 else 7) else 1) := by
  unfold spool_numbers
  dsimp only
  rw [spool_Valid_eq hs]
  simp only [Option.bind_eq_bind, Option.bind_some, spool_known, condF, condT]
  by_cases hv : validB s = true
  · rw [if_pos hv, if_neg (by simp), if_pos hv]
    by_cases a1 : 0 ≤ v <;> by_cases a2 : v < 6 <;> by_cases a3 : 0 ≤ n <;> simp [a1, a2, a3, Int.not_lt.1, Int.not_le.2] <;> omega
  · rw [if_neg hv, if_pos (by simp), if_neg hv]

theorem spool_Rewrite_eq {s : Spool} (hs : Fits s) (running v n : Int) : spool_Rewrite (s, running, v, n) = some (rewriteS s running v n) := by
  unfold spool_Rewrite rewriteS
  dsimp only
  rw [spool_numbers_eq hs]
  simp only [Option.bind_eq_bind, Option.bind_some]
  by_cases hv : validB s = true
  · obtain ⟨h1, h2, h3, h4, h5, h6⟩ := valid_bounds hv
    rw [if_pos hv, if_pos hv]
    by_cases hk : (decide (0 ≤ v) && decide (v < 6) && decide (0 ≤ n)) = true
    · rw [if_pos hk, if_pos hk, if_neg (by simp)]
      have hc : s.Cursor = ((s.Cursor.toNat : Nat) : Int) := by omega
      have hadv := advance_l0 (running := running) (n := n) (nx := s.Next) (ver := v) (s.Items.length - s.Cursor.toNat) s.Cursor.toNat s.Items 0 (by omega) (by omega) (by omega) (by omega) (fun x hx => (goodS_ver h6 x (List.mem_of_mem_drop hx)).1)
      rw [← hc] at hadv
      rw [cloneF, if_pos (room_small (by omega))]
      simp only [Option.bind_some, spool_advance, hadv, Option.bind_eq_bind]
      rw [if_pos (by simp [rwL_length]; omega)]
    · rw [if_neg hk, if_neg hk, if_pos (by simp)]; rfl
  · rw [if_neg hv, if_neg hv, if_pos (by simp)]; rfl

theorem ref_check_eq {s : Spool} (hs : Fits s) (v n : Int) : sheaveref51_check (s, v, n) = some (if validB s = true then (if (decide (0 ≤ v) && decide (v < 6) && decide (0 ≤ n)) = true then 0 else 7) else 1) := by
  unfold sheaveref51_check
  dsimp only
  rw [refValid_eq hs]
  simp only [Option.bind_eq_bind, Option.bind_some, sheaveref51_version, condF, condT]
  by_cases hv : validB s = true
  · rw [if_pos hv, if_neg (by simp), if_pos hv]
    by_cases a1 : 0 ≤ v <;> by_cases a2 : v < 6 <;> by_cases a3 : 0 ≤ n <;> simp [a1, a2, a3, Int.not_lt.1, Int.not_le.2] <;> omega
  · rw [if_neg hv, if_pos (by simp), if_neg hv]

theorem ref_copied_eq {s : Spool} (hs : s.Items.length ≤ 1000) : sheaveref51_copied s = some (s.Next, s.Cursor, s.Items) := by
  unfold sheaveref51_copied
  rw [if_pos (room_small (by simp; omega))]; simp

theorem ref_Rewrite_eq {s : Spool} (hs : Fits s) (running v n : Int) : sheaveref51_Rewrite (s, running, v, n) = some (rewriteS s running v n) := by
  unfold sheaveref51_Rewrite rewriteS
  dsimp only
  rw [ref_check_eq hs]
  simp only [Option.bind_eq_bind, Option.bind_some]
  by_cases hv : validB s = true
  · obtain ⟨h1, h2, h3, h4, h5, h6⟩ := valid_bounds hv
    rw [if_pos hv, if_pos hv]
    by_cases hk : (decide (0 ≤ v) && decide (v < 6) && decide (0 ≤ n)) = true
    · rw [if_pos hk, if_pos hk, if_neg (by simp)]
      have hc : s.Cursor = ((s.Cursor.toNat : Nat) : Int) := by omega
      have hadv := refRewrite_l0 (running := running) (n := n) (nx := s.Next) (ver := v) (b7 := 0) (b8 := 0) (s.Items.length - s.Cursor.toNat) s.Cursor.toNat s.Items 0 (by omega) (by omega) (by omega) (by omega) (fun x hx => (goodS_ver h6 x (List.mem_of_mem_drop hx)).1)
      rw [← hc] at hadv
      rw [ref_copied_eq h1]
      simp only [Option.bind_some, hadv]
    · rw [if_neg hk, if_neg hk, if_pos (by simp)]; rfl
  · rw [if_neg hv, if_neg hv, if_pos (by simp)]; rfl

theorem ref_Put_eq {s : Spool} (hs : Fits s) (v : Int) (d : List UInt8) : sheaveref51_Put (s, v, d) = some (putS s v d) := by
  unfold sheaveref51_Put putS
  dsimp only
  rw [refValid_eq hs]
  simp only [Option.bind_eq_bind, Option.bind_some, sheaveref51_version, condF, condT]
  by_cases hv : validB s = true
  · obtain ⟨h1, h2, h3, _⟩ := valid_bounds hv
    rw [if_pos hv, if_neg (by simp), if_pos hv]
    by_cases hk : (decide (0 ≤ v) && decide (v < 6)) = true
    · rw [if_neg (by simp [hk]), if_pos hk]
      have e1 : decide ((s.Items.length : Int) = 1000) = decide (1000 ≤ (s.Items.length : Int)) := by congr 1; apply propext; omega
      have e2 : decide (s.Next = 4611686018427387904) = decide (4611686018427387904 ≤ s.Next) := by congr 1; apply propext; omega
      rw [e1, e2]
      split
      · rfl
      · rename_i hn
        simp only [Bool.or_eq_true, decide_eq_true_eq, not_or] at hn
        rw [ref_copied_eq h1, Option.bind_some]
        dsimp only
        rw [if_pos (room_small (by simp; omega)), addI64 (by omega) (by omega)]
    · rw [if_pos (by rw [Bool.not_eq_true] at hk; rw [hk]; rfl), if_neg hk]; rfl
  · rw [if_neg hv, if_pos (by simp), if_neg hv]; rfl

theorem same_l0 (s : Spool) (hs : Fits s) : ∀ (m k : Nat), k + m = s.Items.length → sheaveref51_Same_l0 ((k : Int), s, s) = some (.inr ()) := by
  intro m
  induction m with
  | zero =>
    intro k h
    rw [sheaveref51_Same_l0.eq_1]
    rw [if_neg (by simp; omega)]
  | succ m ih =>
    intro k h
    have hk : k < s.Items.length := by omega
    unfold Fits at hs
    rw [sheaveref51_Same_l0.eq_1]
    rw [if_pos (by simp; omega), if_pos (inR_nat hk)]
    simp only [Option.bind_eq_bind, Option.bind_some, toNat_nat, if_pos (inR_nat hk)]
    rw [if_neg (by simp [eqI, eqS]), addI64 (by omega) (by omega), show ((k : Int) + 1) = ((k + 1 : Nat) : Int) by simp, ih (k + 1) (by omega)]

theorem same_self {s : Spool} (hs : Fits s) : sheaveref51_Same (s, s) = some true := by
  have h := same_l0 s hs s.Items.length 0 (by omega)
  rw [Int.natCast_zero] at h
  unfold sheaveref51_Same
  dsimp only
  rw [if_neg (by simp), h]
  rfl

end Go.Proofs.Ytkdepbmeaiefeaa
