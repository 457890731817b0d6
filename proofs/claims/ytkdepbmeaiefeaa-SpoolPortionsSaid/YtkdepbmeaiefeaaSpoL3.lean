/- What the spool's functions answer, part 3; the first laws. -/
import Derived.Test.YtkdepbmeaiefeaaSpoL2
namespace Go.Proofs.Ytkdepbmeaiefeaa
open Go Go.Proofs.Ytkdepbmeaiefeaa.Shv
set_option linter.all false

def zItem : Item := ⟨0, 0, []⟩
def takeS (s : Spool) : Spool × Item × Int :=
  if validB s = true then
    if s.Items.length = 0 then (zSpool, zItem, 10)
    else (⟨s.Items.drop 1, s.Next, if 0 < s.Cursor then s.Cursor - 1 else s.Cursor⟩, s.Items.getD 0 dItem, 0)
  else (zSpool, zItem, 1)

theorem cutL_tail {L : List Item} : cutL L 1 (L.length : Int) = L.drop 1 := by
  unfold cutL; simp

theorem spool_Take_eq {s : Spool} (hs : Fits s) : spool_Take s = some (takeS s) := by
  unfold spool_Take takeS
  rw [spool_Valid_eq hs]
  simp only [Option.bind_eq_bind, Option.bind_some]
  by_cases hv : validB s = true
  · obtain ⟨h1, h2, h3, h4, h5, h6⟩ := valid_bounds hv
    rw [if_pos hv, if_pos hv, if_neg (by simp)]
    by_cases h0 : s.Items.length = 0
    · rw [if_pos (by simpa using h0), if_pos h0]; rfl
    · rw [if_neg (by simpa using h0), if_neg h0, if_pos (by simp [inR]; omega), if_pos (by simp [slR]; omega), cutL_tail, cloneF, if_pos (room_small (by simp; omega))]
      simp only [Option.bind_some]
      by_cases hc : 0 < s.Cursor
      · rw [if_pos (by simpa using hc), if_pos hc, subI64 (by omega) (by omega)]; rfl
      · rw [if_neg (by simpa using hc), if_neg hc]; rfl
  · rw [if_neg hv, if_neg hv, if_pos (by simp)]; rfl

theorem ref_Take_eq {s : Spool} (hs : Fits s) : sheaveref51_Take s = some (takeS s) := by
  unfold sheaveref51_Take takeS
  rw [refValid_eq hs]
  simp only [Option.bind_eq_bind, Option.bind_some]
  by_cases hv : validB s = true
  · obtain ⟨h1, h2, h3, h4, h5, h6⟩ := valid_bounds hv
    rw [if_pos hv, if_pos hv, if_neg (by simp)]
    by_cases h0 : s.Items.length = 0
    · rw [if_pos (by simpa using h0), if_pos h0]; rfl
    · rw [if_neg (by simpa using h0), if_neg h0, if_pos (by simp [inR]; omega), ref_copied_eq h1]
      simp only [Option.bind_some]
      rw [if_pos (by simp [slR]; omega), cutL_tail, subI64 (by omega) (by omega)]
      have e : maxI (s.Cursor - 1) 0 = if 0 < s.Cursor then s.Cursor - 1 else s.Cursor := by
        unfold maxI; split <;> omega
      rw [e]; rfl
  · rw [if_neg hv, if_neg hv, if_pos (by simp)]; rfl

def heldL : Int → List Item → Int
  | out, [] => out
  | out, x :: r => heldL (orI .u8 out (shlI .u8 1 x.Version)) r
def heldS (s : Spool) : Int := if validB s = true then heldL 0 s.Items else 0

theorem held_l0 (L : List Item) (hL : L.length ≤ 100000) : ∀ (m k : Nat) (out : Int), k + m = L.length → (∀ x, x ∈ L.drop k → 0 ≤ x.Version) →
    spool_Held_l0 (out, L, (L.length : Int), (k : Int)) = some (heldL out (L.drop k)) := by
  intro m
  induction m with
  | zero =>
    intro k out h _
    rw [spool_Held_l0.eq_1]
    rw [if_neg (by simp; omega), List.drop_eq_nil_of_le (by omega)]
    rfl
  | succ m ih =>
    intro k out h hv
    have hk : k < L.length := by omega
    have hdr := drop_cons (d := dItem) hk
    rw [hdr] at hv ⊢
    rw [spool_Held_l0.eq_1]
    rw [if_pos (by simp; omega), if_pos (inR_nat hk)]
    simp only [Option.bind_eq_bind, Option.bind_some, toNat_nat]
    rw [if_pos (by simpa using hv (L.getD k dItem) (by simp)), addI64 (by omega) (by omega), show ((k : Int) + 1) = ((k + 1 : Nat) : Int) by simp, ih (k + 1) _ (by omega) (fun x hx => hv x (by simp [hx]))]
    rfl

theorem refHeld_l0 (s : Spool) (hL : s.Items.length ≤ 100000) : ∀ (m k : Nat) (out : Int), k + m = s.Items.length → (∀ x, x ∈ s.Items.drop k → 0 ≤ x.Version) →
    sheaveref51_Held_l0 (out, (k : Int), s) = some (heldL out (s.Items.drop k)) := by
  intro m
  induction m with
  | zero =>
    intro k out h _
    rw [sheaveref51_Held_l0.eq_1]
    rw [if_neg (by simp; omega), List.drop_eq_nil_of_le (by omega)]
    rfl
  | succ m ih =>
    intro k out h hv
    have hk : k < s.Items.length := by omega
    have hdr := drop_cons (d := dItem) hk
    rw [hdr] at hv ⊢
    rw [sheaveref51_Held_l0.eq_1]
    rw [if_pos (by simp; omega), if_pos (inR_nat hk)]
    simp only [Option.bind_eq_bind, Option.bind_some, toNat_nat]
    rw [if_pos (by simpa using hv (s.Items.getD k dItem) (by simp)), addI64 (by omega) (by omega), show ((k : Int) + 1) = ((k + 1 : Nat) : Int) by simp, ih (k + 1) _ (by omega) (fun x hx => hv x (by simp [hx]))]
    rfl

theorem spool_Held_eq {s : Spool} (hs : Fits s) : spool_Held s = some (heldS s) := by
  unfold spool_Held heldS
  rw [spool_Valid_eq hs]
  simp only [Option.bind_eq_bind, Option.bind_some]
  by_cases hv : validB s = true
  · obtain ⟨h1, h2, h3, h4, h5, h6⟩ := valid_bounds hv
    have h := held_l0 s.Items (by omega) s.Items.length 0 0 (by omega) (fun x hx => (goodS_ver h6 x (List.mem_of_mem_drop hx)).1)
    rw [Int.natCast_zero, List.drop_zero] at h
    rw [if_pos hv, if_pos hv, if_neg (by simp), h]; rfl
  · rw [if_neg hv, if_neg hv, if_pos (by simp)]

theorem ref_Held_eq {s : Spool} (hs : Fits s) : sheaveref51_Held s = some (heldS s) := by
  unfold sheaveref51_Held heldS
  rw [refValid_eq hs]
  simp only [Option.bind_eq_bind, Option.bind_some]
  by_cases hv : validB s = true
  · obtain ⟨h1, h2, h3, h4, h5, h6⟩ := valid_bounds hv
    have h := refHeld_l0 s (by omega) s.Items.length 0 0 (by omega) (fun x hx => (goodS_ver h6 x (List.mem_of_mem_drop hx)).1)
    rw [Int.natCast_zero, List.drop_zero] at h
    rw [if_pos hv, if_pos hv, if_neg (by simp), h]; rfl
  · rw [if_neg hv, if_neg hv, if_pos (by simp)]

def rewrittenS (s : Spool) (running : Int) : Bool := validB s && decide (s.Cursor = (s.Items.length : Int)) && decide (andNotI .u8 (heldS s) running = 0)

theorem spool_Rewritten_eq {s : Spool} (hs : Fits s) (r : Int) : spool_Rewritten (s, r) = some (rewrittenS s r) := by
  unfold spool_Rewritten rewrittenS
  dsimp only
  rw [spool_Valid_eq hs, spool_Held_eq hs]
  simp only [Option.bind_eq_bind, Option.bind_some, condF]
  cases validB s <;> cases h : decide (s.Cursor = (s.Items.length : Int)) <;> simp

/-! the examples of the document -/

theorem awake_l0_put {s s' : Spool} {k : Nat} {vs : List Int} (hk : k < vs.length) (hs : Fits s) (hl : vs.length ≤ 1000) (h : putS s (vs.getD k 0) [120] = (s', 0)) :
    sheavelaw51_awake_l0 ((vs.length : Int), (k : Int), s.Items, s.Next, s.Cursor, vs) = sheavelaw51_awake_l0 ((vs.length : Int), ((k + 1 : Nat) : Int), s'.Items, s'.Next, s'.Cursor, vs) := by
  rw [sheavelaw51_awake_l0.eq_1]
  rw [if_pos (by simp; omega), if_pos (inR_nat hk), toNat_nat, if_pos (by simp; omega)]
  change (spool_Put (s, vs.getD k 0, [120]) >>= _) = _
  rw [spool_Put_eq hs, h]
  simp only [Option.bind_eq_bind, Option.bind_some]
  rw [if_neg (by simp), addI64 (by omega) (by omega)]
  rfl

def aw3 : Spool := ⟨[⟨1, 0, [120]⟩, ⟨2, 1, [120]⟩, ⟨3, 0, [120]⟩], 4, 0⟩

theorem awake_l0_eq : sheavelaw51_awake_l0 (3, 0, [], 1, 0, [0, 1, 0]) = some (.inr ([⟨1, 0, [120]⟩, ⟨2, 1, [120]⟩, ⟨3, 0, [120]⟩], 4, 0)) := by
  have h0 := awake_l0_put (s := ⟨[], 1, 0⟩) (s' := ⟨[⟨1, 0, [120]⟩], 2, 0⟩) (k := 0) (vs := [0, 1, 0]) (by decide) (by decide) (by decide) (by rfl)
  have h1 := awake_l0_put (s := ⟨[⟨1, 0, [120]⟩], 2, 0⟩) (s' := ⟨[⟨1, 0, [120]⟩, ⟨2, 1, [120]⟩], 3, 0⟩) (k := 1) (vs := [0, 1, 0]) (by decide) (by decide) (by decide) (by rfl)
  have h2 := awake_l0_put (s := ⟨[⟨1, 0, [120]⟩, ⟨2, 1, [120]⟩], 3, 0⟩) (s' := aw3) (k := 2) (vs := [0, 1, 0]) (by decide) (by decide) (by decide) (by rfl)
  refine h0.trans (h1.trans (h2.trans ?_))
  rw [sheavelaw51_awake_l0.eq_1]
  rw [if_neg (by simp)]
  rfl

theorem awake_eq : sheavelaw51_awake () = some true := by
  unfold sheavelaw51_awake
  rw [awake_l0_eq]
  simp only [Option.bind_eq_bind, Option.bind_some]
  rw [spool_Rewrite_eq (by decide), Option.bind_some]
  rw [spool_Rewrite_eq (by decide), Option.bind_some]
  rw [spool_Take_eq (by decide), Option.bind_some, spool_Held_eq (by decide), Option.bind_some]
  rw [spool_Rewritten_eq (by decide), spool_Rewritten_eq (by decide)]
  rfl

theorem SpoolValid_law {s : Spool} (hs : Fits s) : sheavelaw51_SpoolValid s = some true := by
  obtain ⟨b, hb⟩ := small_some hs
  unfold sheavelaw51_SpoolValid
  rw [awake_eq, hb]
  simp only [Option.bind_eq_bind, Option.bind_some, Bool.not_true, Bool.not_false, if_true, condT, Bool.false_or]
  cases b
  · rfl
  · rw [spool_Valid_eq hs, refValid_eq hs]; simp

end Go.Proofs.Ytkdepbmeaiefeaa
