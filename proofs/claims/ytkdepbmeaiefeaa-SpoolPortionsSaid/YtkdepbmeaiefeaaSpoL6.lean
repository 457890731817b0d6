/- The laws SpoolQueue, SpoolPortions and SpoolDone. -/
import Derived.Test.YtkdepbmeaiefeaaSpoL5
import Derived.Laws.Cover4
namespace Go.Proofs.Ytkdepbmeaiefeaa
open Go Go.Proofs.Ytkdepbmeaiefeaa.Shv
set_option linter.all false

theorem rune_len (m : Int) : (runeStr m).length ≤ 4 := by
  have := encode_size_le m
  unfold runeStr
  rw [Array.length_toList]
  exact this

theorem goodS_mono {nx : Int} : ∀ {L : List Item} {b b' : Int}, b' ≤ b → goodS nx b L = true → goodS nx b' L = true
  | [], _, _, _, _ => rfl
  | x :: r, b, b', h, hg => by
    simp only [goodS, okItem, Bool.and_eq_true, decide_eq_true_eq] at hg ⊢
    exact ⟨⟨⟨⟨by omega, hg.1.1.1.2⟩, hg.1.1.2⟩, hg.1.2⟩, hg.2⟩

theorem goodS_snoc {nx v : Int} {d : List UInt8} (hv : 0 ≤ v ∧ v < 6) (hd : (d.length : Int) ≤ 4096) : ∀ {L : List Item} {b : Int}, b < nx → goodS nx b L = true → goodS (nx + 1) b (L ++ [⟨nx, v, d⟩]) = true
  | [], b, hb, _ => by
    simp only [List.nil_append, goodS, okItem, Bool.and_eq_true, decide_eq_true_eq, and_true]
    exact ⟨⟨⟨hb, by omega⟩, hv⟩, hd⟩
  | x :: r, b, hb, hg => by
    simp only [List.cons_append, goodS, okItem, Bool.and_eq_true, decide_eq_true_eq] at hg ⊢
    have h1 := goodS_snoc hv hd (L := r) (b := x.ID) hg.1.1.1.2 hg.2
    exact ⟨⟨⟨⟨hg.1.1.1.1, by omega⟩, hg.1.1.2⟩, hg.1.2⟩, h1⟩

theorem valid_of {s : Spool} (h1 : s.Items.length ≤ 1000) (h2 : 1 ≤ s.Next) (h3 : s.Next ≤ 4611686018427387904) (h4 : 0 ≤ s.Cursor) (h5 : s.Cursor ≤ (s.Items.length : Int)) (h6 : goodS s.Next 0 s.Items = true) : validB s = true := by
  unfold validB headB
  simp only [Bool.and_eq_true, decide_eq_true_eq]
  exact ⟨⟨⟨⟨⟨by omega, h2⟩, h3⟩, h4⟩, h5⟩, h6⟩

theorem put_ok {s : Spool} {v : Int} {d : List UInt8} (h : validB s = true) (hl : s.Items.length ≤ 100) (hn : s.Next ≤ 1000) (hv : 0 ≤ v ∧ v < 6) (hd : d.length ≤ 4096) :
    putS s v d = (⟨s.Items ++ [⟨s.Next, v, d⟩], s.Next + 1, s.Cursor⟩, 0) ∧ validB ⟨s.Items ++ [⟨s.Next, v, d⟩], s.Next + 1, s.Cursor⟩ = true := by
  obtain ⟨h1, h2, h3, h4, h5, h6⟩ := valid_bounds h
  constructor
  · unfold putS
    rw [if_pos h, if_pos (by simp [hv]), if_neg (by simp; omega)]
  · refine valid_of (by simp; omega) (by show 1 ≤ s.Next + 1; omega) (by show s.Next + 1 ≤ _; omega) h4 (by show s.Cursor ≤ _; simp; omega) ?_
    exact goodS_snoc hv (by omega) (by omega) h6

theorem take_ok {s : Spool} (h : validB s = true) (h0 : s.Items.length ≠ 0) :
    takeS s = (⟨s.Items.drop 1, s.Next, if 0 < s.Cursor then s.Cursor - 1 else s.Cursor⟩, s.Items.getD 0 dItem, 0) ∧ validB ⟨s.Items.drop 1, s.Next, if 0 < s.Cursor then s.Cursor - 1 else s.Cursor⟩ = true := by
  obtain ⟨h1, h2, h3, h4, h5, h6⟩ := valid_bounds h
  constructor
  · unfold takeS
    rw [if_pos h, if_neg h0]
  · refine valid_of (by simp; omega) h2 h3 (by dsimp only; split <;> omega) (by dsimp only; rw [List.length_drop]; split <;> omega) ?_
    show goodS s.Next 0 (s.Items.drop 1) = true
    match hI : s.Items with
    | [] => rw [hI] at h0; exact absurd rfl h0
    | x :: r =>
      rw [hI] at h6
      simp only [goodS, okItem, Bool.and_eq_true, decide_eq_true_eq] at h6
      exact goodS_mono (by omega) h6.2

theorem fits_valid {s : Spool} (h : validB s = true) : Fits s := by
  have := (valid_bounds h).1
  unfold Fits; omega

theorem rem6 {n : Int} (h : isU8 n) : 0 ≤ wrp .i64 (remI n 6) ∧ wrp .i64 (remI n 6) < 6 := by
  have e : remI n 6 = n % 6 := Int.tmod_eq_emod_of_nonneg h.1
  rw [e, wrp64 (by omega) (by omega)]
  omega

theorem u8_getD {L : List Int} (h : ∀ x, x ∈ L → isU8 x) (k : Nat) : isU8 (L.getD k 0) := by
  by_cases hk : k < L.length
  · rw [List.getD_eq_getElem?_getD, List.getElem?_eq_getElem hk]
    exact h _ (List.getElem_mem hk)
  · rw [List.getD_eq_getElem?_getD, List.getElem?_eq_none (by omega)]
    exact ⟨by decide, by decide⟩

/-! the spool of a draft -/

structure Small (n : Nat) (s : Spool) : Prop where
  v : validB s = true
  l : s.Items.length ≤ n
  x : s.Next ≤ (n : Int) + 1
  c : s.Cursor = 0

theorem of_l0 (d : Sheaveref51Draft) (hV : ∀ x, x ∈ d.Versions → isU8 x) (hl : d.Versions.length ≤ 140737488351232) (a b : Int) : ∀ (m i : Nat) (s : Spool), i + m = min d.Versions.length 40 → Small i s →
    ∃ s', Small 40 s' ∧ sheaveref51_Of_l0 ((i : Int), d, a, b, s.Items, s.Next, s.Cursor) = some (d, a, b, s'.Items, s'.Next, s'.Cursor) := by
  intro m
  induction m with
  | zero =>
    intro i s h hs
    rw [sheaveref51_Of_l0.eq_1]
    rw [if_neg (by simp [condF]; omega)]
    exact ⟨s, ⟨hs.v, by have := hs.l; omega, by have := hs.x; omega, hs.c⟩, rfl⟩
  | succ m ih =>
    intro i s h hs
    have hi : i < d.Versions.length := by omega
    rw [sheaveref51_Of_l0.eq_1]
    rw [if_pos (by simp [condF]; omega), if_pos (inR_nat hi), toNat_nat]
    simp only [Option.bind_eq_bind, Option.bind_some]
    obtain ⟨h1, h2⟩ := put_ok (s := s) (v := wrp .i64 (remI (d.Versions.getD i 0) 6)) (d := runeStr (wrp .i32 (addI .i64 97 (wrp .i64 (remI (d.Versions.getD i 0) 6))))) hs.v (by have := hs.l; omega) (by have := hs.x; omega) (rem6 (u8_getD hV i)) (by have := rune_len (wrp .i32 (addI .i64 97 (wrp .i64 (remI (d.Versions.getD i 0) 6)))); omega)
    change ∃ s', Small 40 s' ∧ ((sheaveref51_Put (s, wrp .i64 (remI (d.Versions.getD i 0) 6), runeStr (wrp .i32 (addI .i64 97 (wrp .i64 (remI (d.Versions.getD i 0) 6))))) : Option (Spool × Int)).bind _) = _
    rw [ref_Put_eq (fits_valid hs.v), h1, Option.bind_some, addI64 (a := (i : Int)) (by omega) (by omega), show ((i : Int) + 1) = ((i + 1 : Nat) : Int) by simp]
    exact ih (i + 1) ⟨_, _, _⟩ (by omega) ⟨h2, by simp; exact hs.l, by show s.Next + 1 ≤ _; have := hs.x; omega, hs.c⟩

theorem of_l1 (d : Sheaveref51Draft) (hT : isU8 d.Taken) (a b : Int) : ∀ (m i : Nat) (s : Spool), i + m = 8 → Small 40 s →
    ∃ s', Small 40 s' ∧ sheaveref51_Of_l1 ((i : Int), d, a, b, s.Items, s.Next, s.Cursor) = some (d, a, b, s'.Items, s'.Next, s'.Cursor) := by
  have hT8 : wrp .i64 (remI d.Taken 8) < 8 := by
    have e : remI d.Taken 8 = d.Taken % 8 := Int.tmod_eq_emod_of_nonneg hT.1
    have h0 := hT.1
    rw [e, wrp64 (by omega) (by omega)]; omega
  intro m
  induction m with
  | zero =>
    intro i s h hs
    rw [sheaveref51_Of_l1.eq_1]
    rw [if_neg (by simp only [condF, Bool.and_eq_true, decide_eq_true_eq]; omega)]
    exact ⟨s, hs, rfl⟩
  | succ m ih =>
    intro i s h hs
    rw [sheaveref51_Of_l1.eq_1]
    by_cases hc : (decide ((i : Int) < wrp .i64 (remI d.Taken 8)) && decide (0 < (s.Items.length : Int))) = true
    · rw [if_pos (by simpa only [condF] using hc)]
      simp only [Bool.and_eq_true, decide_eq_true_eq] at hc
      obtain ⟨h1, h2⟩ := take_ok hs.v (by omega)
      change ∃ s', Small 40 s' ∧ ((sheaveref51_Take s : Option (Spool × Item × Int)).bind _) = _
      rw [ref_Take_eq (fits_valid hs.v), h1, Option.bind_some, addI64 (a := (i : Int)) (by omega) (by omega), show ((i : Int) + 1) = ((i + 1 : Nat) : Int) by simp]
      exact ih (i + 1) ⟨_, _, _⟩ (by omega) ⟨h2, by simp; have := hs.l; omega, hs.x, by dsimp only; rw [if_neg (by have := hs.c; omega)]; exact hs.c⟩
    · rw [if_neg (by simpa only [condF] using hc)]
      exact ⟨s, hs, rfl⟩

structure DraftOk (d : Sheaveref51Draft) : Prop where
  v : ∀ x, x ∈ d.Versions → isU8 x
  l : d.Versions.length ≤ 140737488351232
  t : isU8 d.Taken
  p : isU8 d.Point

theorem of_eq {d : Sheaveref51Draft} (hd : DraftOk d) : ∃ s b, sheaveref51_Of d = some (s, b) ∧ validB s = true ∧ s.Items.length ≤ 40 ∧ s.Next ≤ 41 := by
  obtain ⟨s1, h1, e1⟩ := of_l0 d hd.v hd.l 0 0 (min d.Versions.length 40) 0 ⟨[], 1, 0⟩ (by omega) ⟨by decide, by decide, by decide, rfl⟩
  obtain ⟨s2, h2, e2⟩ := of_l1 d hd.t 0 0 8 0 s1 (by omega) h1
  rw [Int.natCast_zero] at e1 e2
  unfold sheaveref51_Of
  dsimp only at e1
  rw [e1]
  simp only [Option.bind_eq_bind, Option.bind_some]
  rw [e2]
  simp only [Option.bind_some]
  have hl := h2.l
  rw [addI64 (by omega) (by omega), if_pos (by simp; omega)]
  refine ⟨_, _, rfl, ?_, hl, by have := h2.x; show s2.Next ≤ 41; omega⟩
  obtain ⟨g1, g2, g3, g4, g5, g6⟩ := valid_bounds h2.v
  have hp := hd.p
  have e : remI (wrp .i64 d.Point) ((s2.Items.length : Int) + 1) = d.Point % ((s2.Items.length : Int) + 1) := by
    rw [wrp64 (by omega) (by omega)]; exact Int.tmod_eq_emod_of_nonneg hp.1
  rw [e]
  have h3 := Int.emod_nonneg d.Point (show ((s2.Items.length : Int) + 1) ≠ 0 by omega)
  have h4 := Int.emod_lt_of_pos d.Point (show 0 < ((s2.Items.length : Int) + 1) by omega)
  exact valid_of g1 g2 g3 h3 (by show d.Point % ((s2.Items.length : Int) + 1) ≤ (s2.Items.length : Int); omega) g6

/-! Queue -/

theorem queue_l0 (more : List Int) (hm : ∀ x, x ∈ more → isU8 x) (hl : more.length ≤ 40) : ∀ (m k : Nat) (s : Spool), k + m = more.length → validB s = true → s.Items.length ≤ 40 + k → s.Next ≤ 41 + (k : Int) →
    ∃ s', sheavelaw51_SpoolQueue_l0 (more, (more.length : Int), (k : Int), s, s.Items) = some (.inr (s', s'.Items)) ∧ validB s' = true ∧ s'.Items.length ≤ 80 := by
  intro m
  induction m with
  | zero =>
    intro k s h hv h1 h2
    rw [sheavelaw51_SpoolQueue_l0.eq_1]
    rw [if_neg (by simp; omega)]
    exact ⟨s, rfl, hv, by omega⟩
  | succ m ih =>
    intro k s h hv h1 h2
    have hk : k < more.length := by omega
    rw [sheavelaw51_SpoolQueue_l0.eq_1]
    rw [if_pos (by simp; omega), if_pos (inR_nat hk), toNat_nat]
    simp only [Option.bind_eq_bind, Option.bind_some]
    have l1 : s.Items.length + 1 ≤ 40 + (k + 1) := by omega
    have k1 : k + 1 + m = more.length := by omega
    have n1 : s.Next + 1 ≤ 41 + ((k + 1 : Nat) : Int) := by omega
    have hr := rem6 (u8_getD hm k)
    have hd : (runeStr (wrp .i32 (addI .i64 65 (k : Int)))).length ≤ 4096 := Nat.le_trans (rune_len _) (by decide)
    obtain ⟨p1, p2⟩ := put_ok (s := s) (v := wrp .i64 (remI (more.getD k 0) 6)) (d := runeStr (wrp .i32 (addI .i64 65 (k : Int)))) hv (by omega) (by omega) hr hd
    rw [spool_Put_eq (fits_valid hv), p1]
    simp only [Option.bind_some]
    rw [if_neg (by simp), if_pos (room_small (by simp; omega)), addI64 (a := (k : Int)) (by omega) (by omega), show ((k : Int) + 1) = ((k + 1 : Nat) : Int) by simp]
    have l2 : (s.Items ++ [(⟨s.Next, wrp .i64 (remI (more.getD k 0) 6), runeStr (wrp .i32 (addI .i64 65 (k : Int)))⟩ : Item)]).length ≤ 40 + (k + 1) := by
      rw [List.length_append, List.length_singleton]; exact l1
    have hx := ih (k + 1) _ k1 p2 l2 n1
    exact hx

theorem goodS_step {nx : Int} : ∀ {L : List Item} {b : Int} {k : Nat}, goodS nx b L = true → k + 1 < L.length → (L.getD k dItem).ID < (L.getD (k + 1) dItem).ID
  | [], _, _, _, h => by simp at h
  | [x], _, k, _, h => by simp at h
  | x :: y :: r, b, 0, hg, _ => by
    simp only [goodS, okItem, Bool.and_eq_true, decide_eq_true_eq] at hg
    exact hg.2.1.1.1.1
  | x :: y :: r, b, k + 1, hg, h => by
    have hg' : goodS nx x.ID (y :: r) = true := by
      unfold goodS at hg
      rw [Bool.and_eq_true] at hg
      exact hg.2
    have := goodS_step (k := k) hg' (by simpa using h)
    simpa using this

theorem queue_l1 (want : List Item) (hl : want.length ≤ 80) (nx : Int) (hg : goodS nx 0 want = true) : ∀ (m k : Nat) (s : Spool), k + m = want.length → validB s = true → s.Items = want.drop k →
    ∃ s', sheavelaw51_SpoolQueue_l1 ((want.length : Int), (k : Int), s, want) = some (.inr s') ∧ validB s' = true ∧ s'.Items = [] := by
  intro m
  induction m with
  | zero =>
    intro k s h hv hs
    rw [sheavelaw51_SpoolQueue_l1.eq_1]
    rw [if_neg (by simp; omega)]
    exact ⟨s, rfl, hv, by rw [hs]; exact List.drop_eq_nil_of_le (by omega)⟩
  | succ m ih =>
    intro k s h hv hs
    have hk : k < want.length := by omega
    obtain ⟨p1, p2⟩ := take_ok hv (by rw [hs, List.length_drop]; omega)
    have hy : s.Items.getD 0 dItem = want.getD k dItem := by rw [hs, drop_cons (d := dItem) hk]; rfl
    rw [sheavelaw51_SpoolQueue_l1.eq_1]
    rw [if_pos (by simp; omega), if_pos (inR_nat hk), toNat_nat, if_pos (by simp; omega), spool_Take_eq (fits_valid hv), p1]
    simp only [Option.bind_eq_bind, Option.bind_some, hy, condT, condF]
    simp only [decide_true, Bool.not_true, Bool.false_or]
    have e1 : (!(eqI (want.getD k dItem).ID (want.getD k dItem).ID && (eqI (want.getD k dItem).Version (want.getD k dItem).Version && (eqS (want.getD k dItem).Data (want.getD k dItem).Data && true)))) = false := by simp [eqI, eqS]
    rw [e1]
    have e3 : ((k : Int) + 1) = ((k + 1 : Nat) : Int) := by simp
    have hrest := ih (k + 1) ⟨s.Items.drop 1, s.Next, if 0 < s.Cursor then s.Cursor - 1 else s.Cursor⟩ (by omega) p2 (by show s.Items.drop 1 = _; rw [hs, List.drop_drop])
    by_cases hk0 : k = 0
    · subst hk0
      rw [if_pos (by simp), if_pos (by simp), if_neg (by simp), addI64 (by omega) (by omega), e3]
      exact hrest
    · have e2 : subI .i64 (k : Int) 1 = ((k - 1 : Nat) : Int) := by rw [subI64 (by omega) (by omega)]; omega
      rw [e2, if_pos (by rw [inR_nat (by omega)]; rfl), toNat_nat, if_pos (by simp; omega), addI64 (by omega) (by omega), e3]
      have hst := goodS_step (k := k - 1) hg (by omega)
      rw [show k - 1 + 1 = k by omega] at hst
      have hng : ¬ (false || decide (0 < (k : Int)) && decide ((want.getD k dItem).ID ≤ (want.getD (k - 1) dItem).ID)) = true := by
        simp only [Bool.false_or, Bool.and_eq_true, decide_eq_true_eq]; omega
      rw [if_neg hng]
      exact hrest

theorem SpoolQueue_law {d : Sheaveref51Draft} {more : List Int} (hd : DraftOk d) (hm : ∀ x, x ∈ more → isU8 x) : sheavelaw51_SpoolQueue (d, more) = some true := by
  obtain ⟨s, b, e, hv, hl, hn⟩ := of_eq hd
  unfold sheavelaw51_SpoolQueue
  dsimp only
  rw [e]
  simp only [Option.bind_eq_bind, Option.bind_some]
  rw [awake_eq]
  simp only [Option.bind_some, Bool.not_true, condT, Bool.false_or]
  by_cases hc : (!b || decide (40 < (more.length : Int))) = true
  · rw [if_pos hc]
  · rw [if_neg hc]
    simp only [Bool.or_eq_true, decide_eq_true_eq, not_or] at hc
    obtain ⟨s1, q1, q2, q3⟩ := queue_l0 more hm (by omega) more.length 0 s (by omega) hv (by omega) (by omega)
    rw [Int.natCast_zero] at q1
    rw [if_pos (room_small (by simp; omega)), List.nil_append, q1]
    simp only [Option.bind_some]
    obtain ⟨s2, r1, r2, r3⟩ := queue_l1 s1.Items q3 s1.Next (valid_bounds q2).2.2.2.2.2 s1.Items.length 0 s1 (by omega) q2 (by simp)
    rw [Int.natCast_zero] at r1
    rw [r1]
    simp only [Option.bind_some]
    rw [spool_Take_eq (fits_valid r2)]
    have : takeS s2 = (zSpool, zItem, 10) := by unfold takeS; rw [if_pos r2, if_pos (by rw [r3]; rfl)]
    rw [this]; rfl

theorem wf_u8s {l : List Int} (h : WF Un ⟨.slice (.int .u8), l⟩) : l.length ≤ 140737488351232 ∧ ∀ x, x ∈ l → isU8 x := by
  cases h with
  | slice _ _ h1 h2 => exact ⟨h1, fun x hx => wf_u8 (h2 x hx _ (List.mem_cons_self ..))⟩

theorem draft_ok {d : Sheaveref51Draft} (h : ∀ c, c ∈ (Ty.nm 3).row Un d → WF Un c) : DraftOk d := by
  have h1 := wf_u8s (h ⟨.slice (.int .u8), d.Versions⟩ (List.mem_cons_self ..))
  exact ⟨h1.2, h1.1, wf_u8 (h ⟨.int .u8, d.Taken⟩ (List.mem_cons_of_mem _ (List.mem_cons_self ..))), wf_u8 (h ⟨.int .u8, d.Point⟩ (List.mem_cons_of_mem _ (List.mem_cons_of_mem _ (List.mem_cons_self ..))))⟩

theorem lawSpoolQueue (h : Hs Un.D [.nm 3, .slice (.int .u8)]) (hk : Ok Un [.nm 3, .slice (.int .u8)] h) : sheavelaw51_SpoolQueue h = some true :=
  SpoolQueue_law (d := h.1) (more := h.2) (draft_ok (ok_head hk)) (wf_u8s (ok_one1 (t := .slice (.int .u8)) (ok_tail hk) _ (List.mem_cons_self ..))).2

end Go.Proofs.Ytkdepbmeaiefeaa
