/- The laws SpoolPut, SpoolRewrite and SpoolTake. -/
import Derived.Test.YtkdepbmeaiefeaaSpoL4
namespace Go.Proofs.Ytkdepbmeaiefeaa
open Go Go.Proofs.Ytkdepbmeaiefeaa.Shv
set_option linter.all false

theorem putS_fits {s : Spool} (hs : Fits s) (v : Int) (d : List UInt8) : Fits (putS s v d).1 := by
  unfold putS
  split
  · rename_i hv
    obtain ⟨h1, _⟩ := valid_bounds hv
    split
    · split
      · exact Nat.zero_le _
      · unfold Fits; simp; omega
    · exact Nat.zero_le _
  · exact Nat.zero_le _

theorem rewriteS_fits {s : Spool} (hs : Fits s) (r v n : Int) : Fits (rewriteS s r v n).1 := by
  unfold rewriteS
  split
  · rename_i hv
    obtain ⟨h1, _⟩ := valid_bounds hv
    split
    · unfold Fits; simp [rwL_length]; omega
    · exact Nat.zero_le _
  · exact Nat.zero_le _

theorem takeS_fits {s : Spool} (hs : Fits s) : Fits (takeS s).1 := by
  unfold Fits at *
  unfold takeS
  split
  · split
    · exact Nat.zero_le _
    · simp; omega
  · exact Nat.zero_le _

theorem SpoolPut_law {s : Spool} (hs : Fits s) (v : Int) (d : List UInt8) : sheavelaw51_SpoolPut (s, v, d) = some true := by
  obtain ⟨b, hb⟩ := small_some hs
  unfold sheavelaw51_SpoolPut
  dsimp only
  rw [awake_eq, hb]
  simp only [Option.bind_eq_bind, Option.bind_some, Bool.not_true, Bool.not_false, if_true, condT, Bool.false_or]
  cases h : (!b || decide (5000 < (d.length : Int)))
  · rw [if_neg (by simp), spool_Put_eq hs, ref_Put_eq hs]
    simp only [Option.bind_some]
    rw [same_self (putS_fits hs v d)]
    simp
  · rfl

/-! which versions run -/

theorem wrap_u8_nat {n : Nat} (h : n < 256) : IntKind.u8.wrap (n : Int) = (n : Int) := by
  rw [IntKind.wrap_u8]; omega

theorem andNot_zero {a b : Int} : andNotI .u8 a b = 0 ↔ BitVec.ofInt 8 a &&& ~~~ BitVec.ofInt 8 b = 0#8 := by
  unfold andNotI
  have h : (BitVec.ofInt 8 a &&& ~~~ BitVec.ofInt 8 b).toNat < 256 := (BitVec.ofInt 8 a &&& ~~~ BitVec.ofInt 8 b).isLt
  show IntKind.u8.wrap ((BitVec.ofInt 8 a &&& ~~~ BitVec.ofInt 8 b).toNat : Int) = 0 ↔ _
  rw [wrap_u8_nat h]
  constructor
  · intro h2
    apply BitVec.eq_of_toNat_eq
    simpa using h2
  · intro h2; rw [h2]; rfl

theorem orI_bv {a b : Int} : BitVec.ofInt 8 (orI .u8 a b) = BitVec.ofInt 8 a ||| BitVec.ofInt 8 b := by
  unfold orI
  have h : (BitVec.ofInt 8 a ||| BitVec.ofInt 8 b).toNat < 256 := (BitVec.ofInt 8 a ||| BitVec.ofInt 8 b).isLt
  show BitVec.ofInt 8 (IntKind.u8.wrap ((BitVec.ofInt 8 a ||| BitVec.ofInt 8 b).toNat : Int)) = _
  rw [wrap_u8_nat h, BitVec.ofInt_natCast, BitVec.ofNat_toNat]
  simp

theorem bit_runs : ∀ v : Fin 6, ∀ r : Fin 256, (decide (BitVec.ofInt 8 (shlI .u8 1 (v.val : Int)) &&& ~~~ BitVec.ofInt 8 (r.val : Int) = 0#8)) = runsB (r.val : Int) (v.val : Int) := by decide +kernel

abbrev isU8 (r : Int) : Prop := 0 ≤ r ∧ r < 256

theorem bit_runs' {v r : Int} (hv : 0 ≤ v ∧ v < 6) (hr : isU8 r) : (BitVec.ofInt 8 (shlI .u8 1 v) &&& ~~~ BitVec.ofInt 8 r = 0#8) ↔ runsB r v = true := by
  have h := bit_runs ⟨v.toNat, by omega⟩ ⟨r.toNat, by omega⟩
  have e1 : ((v.toNat : Nat) : Int) = v := by omega
  have e2 : ((r.toNat : Nat) : Int) = r := by omega
  simp only [e1, e2] at h
  rw [← h]; simp

theorem bv_or_zero {n : Nat} {a b : BitVec n} : a ||| b = 0#n ↔ a = 0#n ∧ b = 0#n := by
  constructor
  · intro h
    constructor
    · apply BitVec.eq_of_getLsbD_eq
      intro i hi
      have := congrArg (fun x => BitVec.getLsbD x i) h
      simp at this ⊢
      exact this.1
    · apply BitVec.eq_of_getLsbD_eq
      intro i hi
      have := congrArg (fun x => BitVec.getLsbD x i) h
      simp at this ⊢
      exact this.2
  · rintro ⟨rfl, rfl⟩; simp

theorem bv_and_or {n : Nat} {a b c : BitVec n} : (a ||| b) &&& c = (a &&& c) ||| (b &&& c) := by
  apply BitVec.eq_of_getLsbD_eq
  intro i hi
  simp [Bool.and_or_distrib_right]

theorem held_runs {r : Int} (hr : isU8 r) : ∀ {L : List Item} {out : Int}, (∀ x, x ∈ L → 0 ≤ x.Version ∧ x.Version < 6) →
    (BitVec.ofInt 8 (heldL out L) &&& ~~~ BitVec.ofInt 8 r = 0#8 ↔ (BitVec.ofInt 8 out &&& ~~~ BitVec.ofInt 8 r = 0#8) ∧ ∀ x, x ∈ L → runsB r x.Version = true)
  | [], out, _ => by simp [heldL]
  | x :: L, out, h => by
    unfold heldL
    rw [held_runs hr (fun y hy => h y (by simp [hy])), orI_bv, bv_and_or, bv_or_zero, bit_runs' (h x (by simp)) hr]
    simp only [List.mem_cons, forall_eq_or_imp]
    constructor
    · rintro ⟨⟨h1, h2⟩, h3⟩; exact ⟨h1, h2, h3⟩
    · rintro ⟨h1, h2, h3⟩; exact ⟨⟨h1, h2⟩, h3⟩

theorem heldS_runs {s : Spool} {r : Int} (hr : isU8 r) (hv : validB s = true) : andNotI .u8 (heldS s) r = 0 ↔ ∀ x, x ∈ s.Items → runsB r x.Version = true := by
  obtain ⟨h1, h2, h3, h4, h5, h6⟩ := valid_bounds hv
  rw [andNot_zero]
  unfold heldS
  rw [if_pos hv, held_runs hr (goodS_ver h6)]
  simp

theorem refRewritten_l0 (s : Spool) (r : Int) (hL : s.Items.length ≤ 100000) : ∀ (m k : Nat), k + m = s.Items.length → (∀ x, x ∈ s.Items.drop k → 0 ≤ x.Version) →
    sheaveref51_Rewritten_l0 (r, (k : Int), s) = some (if (s.Items.drop k).all (fun x => runsB r x.Version) = true then .inr () else .inl false) := by
  intro m
  induction m with
  | zero =>
    intro k h _
    rw [sheaveref51_Rewritten_l0.eq_1]
    rw [if_neg (by simp; omega), List.drop_eq_nil_of_le (by omega)]
    rfl
  | succ m ih =>
    intro k h hv
    have hk : k < s.Items.length := by omega
    have hdr := drop_cons (d := dItem) hk
    rw [hdr] at hv ⊢
    rw [sheaveref51_Rewritten_l0.eq_1]
    rw [if_pos (by simp; omega), if_pos (inR_nat hk), toNat_nat, ref_runs_eq (hv _ (by simp))]
    simp only [Option.bind_eq_bind, Option.bind_some]
    by_cases hr : runsB r (s.Items.getD k dItem).Version = true
    case neg => rw [if_pos (by simp only [hr]; rfl), if_neg (by rw [List.all_cons, Bool.and_eq_true]; exact fun h => hr h.1)]
    case pos =>
      rw [if_neg (by simp only [hr]; simp), addI64 (by omega) (by omega), show ((k : Int) + 1) = ((k + 1 : Nat) : Int) by simp, ih (k + 1) (by omega) (fun x hx => hv x (by simp [hx]))]
      by_cases ha : (s.Items.drop (k + 1)).all (fun x => runsB r x.Version) = true
      · rw [if_pos ha, if_pos (by rw [List.all_cons, hr, ha]; rfl)]
      · rw [if_neg ha, if_neg (by rw [List.all_cons, Bool.and_eq_true]; exact fun h => ha h.2)]

theorem ref_Rewritten_eq {s : Spool} (hs : Fits s) {r : Int} (hr : isU8 r) : sheaveref51_Rewritten (s, r) = some (rewrittenS s r) := by
  unfold sheaveref51_Rewritten rewrittenS
  dsimp only
  rw [refValid_eq hs]
  simp only [Option.bind_eq_bind, Option.bind_some, condT]
  by_cases hv : validB s = true
  · obtain ⟨h1, h2, h3, h4, h5, h6⟩ := valid_bounds hv
    rw [if_pos hv, hv]
    have h := refRewritten_l0 s r (by omega) s.Items.length 0 (by omega) (fun x hx => (goodS_ver h6 x (List.mem_of_mem_drop hx)).1)
    rw [Int.natCast_zero, List.drop_zero] at h
    by_cases hc : s.Cursor = (s.Items.length : Int)
    · rw [if_neg (by simp; omega), h]
      have e : (s.Items.all fun x => runsB r x.Version) = decide (andNotI .u8 (heldS s) r = 0) := by
        rw [Bool.eq_iff_iff, decide_eq_true_iff, heldS_runs hr hv, List.all_eq_true]
      rw [e]
      simp only [Option.bind_some, hc]
      cases decide (andNotI .u8 (heldS s) r = 0) <;> simp
    · rw [if_pos (by simp; omega)]
      simp [hc]
  · rw [if_neg hv]; simp [hv]

theorem SpoolRewrite_law {s : Spool} {x : Sheavelaw51Numbers} (hs : Fits s) (hr : isU8 x.Running) : sheavelaw51_SpoolRewrite (s, x) = some true := by
  obtain ⟨b, hb⟩ := small_some hs
  unfold sheavelaw51_SpoolRewrite
  dsimp only
  rw [awake_eq, hb]
  simp only [Option.bind_eq_bind, Option.bind_some, Bool.not_true, Bool.not_false, if_true, condT, condF, Bool.false_or]
  cases b
  · rfl
  · rw [if_neg (by simp), spool_Rewrite_eq hs, ref_Rewrite_eq hs]
    simp only [Option.bind_some]
    rw [same_self (rewriteS_fits hs _ _ _), spool_Rewritten_eq hs, ref_Rewritten_eq hs hr]
    simp [eqB]

/-! Get -/

def idxL (id : Int) : Nat → List Item → Option Nat
  | _, [] => none
  | k, x :: r => if x.ID = id then some k else idxL id (k + 1) r

theorem idxL_lt {id : Int} : ∀ {L : List Item} {k i : Nat}, idxL id k L = some i → k ≤ i ∧ i < k + L.length
  | [], _, _, h => by simp [idxL] at h
  | x :: r, k, i, h => by
    unfold idxL at h
    split at h
    · cases h; simp
    · have := idxL_lt h; simp; omega

theorem index_l0 (L : List Item) (hL : L.length ≤ 100000) (id : Int) : ∀ (m k : Nat), k + m = L.length →
    slices_IndexFuncapi_Item_api_Item_l0 (L, (L.length : Int), (k : Int), id) = some (match idxL id k (L.drop k) with | some i => .inl ((i : Int), id) | none => .inr id) := by
  intro m
  induction m with
  | zero =>
    intro k h
    rw [slices_IndexFuncapi_Item_api_Item_l0.eq_1]
    rw [if_neg (by simp; omega), List.drop_eq_nil_of_le (by omega)]
    rfl
  | succ m ih =>
    intro k h
    have hk : k < L.length := by omega
    rw [slices_IndexFuncapi_Item_api_Item_l0.eq_1]
    rw [if_pos (by simp; omega), if_pos (inR_nat hk), toNat_nat, drop_cons (d := dItem) hk]
    unfold spool_Get_1 idxL
    simp only [Option.bind_eq_bind, Option.bind_some]
    by_cases he : (L.getD k dItem).ID = id
    · rw [if_pos (by simpa using he), if_pos he]
    · rw [if_neg (by simpa using he), if_neg he, addI64 (by omega) (by omega), show ((k : Int) + 1) = ((k + 1 : Nat) : Int) by simp, ih (k + 1) (by omega)]

theorem refGet_l0 (s : Spool) (hL : s.Items.length ≤ 100000) (id a b : Int) (d : List UInt8) : ∀ (m k : Nat), k + m = s.Items.length →
    sheaveref51_Get_l0 (id, (k : Int), s, a, b, d) = some (match idxL id k (s.Items.drop k) with | some i => .inl (0, s.Items.getD i dItem) | none => .inr (a, b, d)) := by
  intro m
  induction m with
  | zero =>
    intro k h
    rw [sheaveref51_Get_l0.eq_1]
    rw [if_neg (by simp; omega), List.drop_eq_nil_of_le (by omega)]
    rfl
  | succ m ih =>
    intro k h
    have hk : k < s.Items.length := by omega
    rw [sheaveref51_Get_l0.eq_1]
    rw [if_pos (by simp; omega), if_pos (inR_nat hk), toNat_nat, drop_cons (d := dItem) hk]
    unfold idxL
    by_cases he : (s.Items.getD k dItem).ID = id
    · rw [if_pos (by simpa using he), if_pos he, if_pos (inR_nat hk)]
    · rw [if_neg (by simpa using he), if_neg he, addI64 (by omega) (by omega), show ((k : Int) + 1) = ((k + 1 : Nat) : Int) by simp, ih (k + 1) (by omega)]

def getS (s : Spool) (id : Int) : Item × Int :=
  if validB s = true then (match idxL id 0 s.Items with | some i => (s.Items.getD i dItem, 0) | none => (zItem, 4)) else (zItem, 1)

theorem spool_Get_eq {s : Spool} (hs : Fits s) (id : Int) : spool_Get (s, id) = some (getS s id) := by
  unfold spool_Get getS
  dsimp only
  change (spool_Valid s >>= _) = _
  rw [spool_Valid_eq hs]
  simp only [Option.bind_eq_bind, Option.bind_some]
  by_cases hv : validB s = true
  · obtain ⟨h1, h2, h3, h4, h5, h6⟩ := valid_bounds hv
    have h := index_l0 s.Items (by omega) id s.Items.length 0 (by omega)
    rw [Int.natCast_zero, List.drop_zero] at h
    rw [if_pos hv, if_pos hv, if_neg (by simp)]
    unfold slices_IndexFuncapi_Item_api_Item
    dsimp only
    rw [h]
    cases hi : idxL id 0 s.Items with
    | none => rfl
    | some i =>
      have := idxL_lt hi
      simp only [Option.bind_eq_bind, Option.bind_some]
      rw [if_neg (by simp), if_pos (inR_nat (by omega)), toNat_nat]
  · rw [if_neg hv, if_neg hv, if_pos (by simp)]; rfl

theorem ref_Get_eq {s : Spool} (hs : Fits s) (id : Int) : sheaveref51_Get (s, id) = some (getS s id) := by
  unfold sheaveref51_Get getS
  dsimp only
  rw [refValid_eq hs]
  simp only [Option.bind_eq_bind, Option.bind_some]
  by_cases hv : validB s = true
  · obtain ⟨h1, h2, h3, h4, h5, h6⟩ := valid_bounds hv
    have h := refGet_l0 s (by omega) id 0 0 [] s.Items.length 0 (by omega)
    rw [Int.natCast_zero, List.drop_zero] at h
    rw [if_pos hv, if_pos hv, if_neg (by simp), h]
    cases hi : idxL id 0 s.Items with
    | none => rfl
    | some i => rfl
  · rw [if_neg hv, if_neg hv, if_pos (by simp)]; rfl

def beginS (s : Spool) : Spool := if validB s = true then ⟨s.Items, s.Next, 0⟩ else zSpool

theorem spool_Begin_eq {s : Spool} (hs : Fits s) : spool_Begin s = some (beginS s) := by
  unfold spool_Begin beginS
  rw [spool_Valid_eq hs]
  simp only [Option.bind_eq_bind, Option.bind_some]
  by_cases hv : validB s = true
  · obtain ⟨h1, h2, h3, h4, h5, h6⟩ := valid_bounds hv
    rw [if_pos hv, if_pos hv, if_neg (by simp), cloneF, if_pos (room_small (by omega))]; rfl
  · rw [if_neg hv, if_neg hv, if_pos (by simp)]; rfl

theorem ref_Begin_eq {s : Spool} (hs : Fits s) : sheaveref51_Begin s = some (beginS s) := by
  unfold sheaveref51_Begin beginS
  rw [refValid_eq hs]
  simp only [Option.bind_eq_bind, Option.bind_some]
  by_cases hv : validB s = true
  · obtain ⟨h1, h2, h3, h4, h5, h6⟩ := valid_bounds hv
    rw [if_pos hv, if_pos hv, if_neg (by simp), ref_copied_eq h1]; rfl
  · rw [if_neg hv, if_neg hv, if_pos (by simp)]; rfl

theorem beginS_fits {s : Spool} (hs : Fits s) : Fits (beginS s) := by
  unfold Fits at *; unfold beginS
  split
  · exact hs
  · exact Nat.zero_le _

theorem SpoolTake_law {s : Spool} (id : Int) (hs : Fits s) : sheavelaw51_SpoolTake (s, id) = some true := by
  obtain ⟨b, hb⟩ := small_some hs
  unfold sheavelaw51_SpoolTake
  dsimp only
  rw [awake_eq, hb]
  simp only [Option.bind_eq_bind, Option.bind_some, Bool.not_true, Bool.not_false, if_true, condT, condF, Bool.false_or]
  cases b
  · rfl
  · rw [if_neg (by simp), spool_Take_eq hs, ref_Take_eq hs, spool_Get_eq hs, ref_Get_eq hs]
    simp only [Option.bind_some]
    rw [same_self (takeS_fits hs), spool_Held_eq hs, ref_Held_eq hs, spool_Begin_eq hs, ref_Begin_eq hs]
    simp only [eqI, eqS, Option.bind_some, decide_true, Bool.and_self, Bool.true_and, if_true]
    rw [same_self (beginS_fits hs)]
    rfl

/-! as the rows ask for them -/

theorem ok_head {t u : Ty} {r : List Ty} {h : Hs Un.D (t :: u :: r)} (hk : Ok Un (t :: u :: r) h) : ∀ d, d ∈ t.row Un h.1 → WF Un d := fun d hd => hk ⟨t, h.1⟩ (List.mem_cons_self ..) d hd
theorem ok_tail {t u : Ty} {r : List Ty} {h : Hs Un.D (t :: u :: r)} (hk : Ok Un (t :: u :: r) h) : Ok Un (u :: r) h.2 := fun c hc d hd => hk c (List.mem_cons_of_mem _ hc) d hd

theorem wf_u8 {n : Int} (h : WF Un ⟨.int .u8, n⟩) : isU8 n := by
  cases h with
  | int _ _ h =>
    simp only [Lit.wf, Bool.and_eq_true, decide_eq_true_eq] at h
    have h1 := h.1; have h2 := h.2
    simp [IntKind.min, IntKind.max, IntKind.signed, IntKind.bits] at h1 h2
    exact ⟨h1, by omega⟩

theorem lawSpoolPut (h : Hs Un.D [.nm 0, .int .i64, .str]) (hk : Ok Un [.nm 0, .int .i64, .str] h) : sheavelaw51_SpoolPut h = some true :=
  SpoolPut_law (fits_of (ok_head hk)) h.2.1 h.2.2
theorem lawSpoolRewrite (h : Hs Un.D [.nm 0, .nm 2]) (hk : Ok Un [.nm 0, .nm 2] h) : sheavelaw51_SpoolRewrite h = some true :=
  SpoolRewrite_law (s := h.1) (x := h.2) (fits_of (ok_head hk)) (wf_u8 (ok_one1 (t := .nm 2) (ok_tail hk) _ (List.mem_cons_self ..)))
theorem lawSpoolTake (h : Hs Un.D [.nm 0, .int .i64]) (hk : Ok Un [.nm 0, .int .i64] h) : sheavelaw51_SpoolTake h = some true :=
  SpoolTake_law (s := h.1) h.2 (fits_of (ok_head hk))

end Go.Proofs.Ytkdepbmeaiefeaa
