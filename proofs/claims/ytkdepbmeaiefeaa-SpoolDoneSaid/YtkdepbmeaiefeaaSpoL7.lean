/- The laws SpoolPortions and SpoolDone. -/
import Derived.Test.YtkdepbmeaiefeaaSpoL6
namespace Go.Proofs.Ytkdepbmeaiefeaa
open Go Go.Proofs.Ytkdepbmeaiefeaa.Shv
set_option linter.all false

def allL (r v : Int) (L : List Item) : List Item := L.map fun x => if runsB r x.Version = true then x else ⟨x.ID, v, x.Data⟩
def cntL (r : Int) : List Item → Nat
  | [] => 0
  | x :: L => (if runsB r x.Version = true then 0 else 1) + cntL r L

theorem cntL_le {r : Int} : ∀ {L : List Item}, cntL r L ≤ L.length
  | [] => Nat.le_refl 0
  | x :: L => by
    have := cntL_le (r := r) (L := L)
    simp only [cntL, List.length_cons]
    split <;> omega

theorem rw_facts {r v n : Int} : ∀ {L : List Item} {done : Int}, done ≤ n →
    ((rwL r v n done L).2.2.take (rwL r v n done L).2.1 ++ allL r v ((rwL r v n done L).2.2.drop (rwL r v n done L).2.1) = allL r v L) ∧
    ((rwL r v n done L).1 + (cntL r ((rwL r v n done L).2.2.drop (rwL r v n done L).2.1) : Nat) = done + (cntL r L : Nat)) ∧
    done ≤ (rwL r v n done L).1 ∧ (rwL r v n done L).1 ≤ n ∧ (rwL r v n done L).2.1 ≤ L.length ∧ (done + (cntL r L : Nat) ≤ n → (rwL r v n done L).2.1 = L.length)
  | [], done, h => by simp [rwL, allL, cntL, h]
  | x :: L, done, h => by
    by_cases hr : runsB r x.Version = true
    · obtain ⟨a, b, c, d, e, f⟩ := rw_facts (r := r) (v := v) (n := n) (L := L) (done := done) h
      have e1 : rwL r v n done (x :: L) = ((rwL r v n done L).1, (rwL r v n done L).2.1 + 1, x :: (rwL r v n done L).2.2) := by
        rw [rwL, if_pos hr]
      rw [e1]
      generalize rwL r v n done L = q at *
      obtain ⟨q1, q2, q3⟩ := q
      dsimp only at *
      refine ⟨?_, ?_, c, d, by simpa using e, ?_⟩
      · rw [List.take_succ_cons, List.drop_succ_cons, List.cons_append, a]
        simp [allL, hr]
      · rw [List.drop_succ_cons, b]; simp [cntL, hr]
      · intro g
        have := f (by simpa [cntL, hr] using g)
        simp [this]
    · by_cases hn : done = n
      · have e1 : rwL r v n done (x :: L) = (done, 0, x :: L) := by rw [rwL, if_neg hr, if_pos hn]
        rw [e1]
        refine ⟨rfl, rfl, by omega, by omega, Nat.zero_le _, ?_⟩
        intro g
        simp only [cntL, if_neg hr] at g
        omega
      · obtain ⟨a, b, c, d, e, f⟩ := rw_facts (r := r) (v := v) (n := n) (L := L) (done := done + 1) (by omega)
        have e1 : rwL r v n done (x :: L) = ((rwL r v n (done + 1) L).1, (rwL r v n (done + 1) L).2.1 + 1, ⟨x.ID, v, x.Data⟩ :: (rwL r v n (done + 1) L).2.2) := by
          rw [rwL, if_neg hr, if_neg hn]
        rw [e1]
        generalize rwL r v n (done + 1) L = q at *
        obtain ⟨q1, q2, q3⟩ := q
        dsimp only at *
        refine ⟨?_, ?_, by omega, d, by simpa using e, ?_⟩
        · rw [List.take_succ_cons, List.drop_succ_cons, List.cons_append, a]
          simp [allL, hr]
        · rw [List.drop_succ_cons, b]; simp only [cntL, if_neg hr]; omega
        · intro g
          simp only [cntL, if_neg hr] at g
          have := f (by omega)
          simp [this]

theorem rw_good {r v n nx : Int} (hv : 0 ≤ v ∧ v < 6) : ∀ {L : List Item} {done b : Int}, goodS nx b L = true → goodS nx b (rwL r v n done L).2.2 = true
  | [], _, _, _ => rfl
  | x :: L, done, b, h => by
    have h' := h
    simp only [goodS, okItem, Bool.and_eq_true, decide_eq_true_eq] at h'
    rw [rwL]
    split
    · show goodS nx b (x :: _) = true
      simp only [goodS, okItem, Bool.and_eq_true, decide_eq_true_eq]
      exact ⟨h'.1, rw_good hv h'.2⟩
    · split
      · exact h
      · show goodS nx b ((⟨x.ID, v, x.Data⟩ : Item) :: _) = true
        simp only [goodS, okItem, Bool.and_eq_true, decide_eq_true_eq]
        exact ⟨⟨⟨h'.1.1.1, hv⟩, h'.1.2⟩, rw_good hv h'.2⟩

def lastId : Int → List Item → Int
  | b, [] => b
  | _, x :: L => lastId x.ID L

theorem good_append {nx : Int} : ∀ {A B : List Item} {b : Int}, goodS nx b (A ++ B) = (goodS nx b A && goodS nx (lastId b A) B)
  | [], B, b => by simp [goodS, lastId]
  | x :: A, B, b => by simp [goodS, lastId, good_append, Bool.and_assoc]

theorem take_app {A B : List Item} {c m : Nat} (h : A.length = c) : (A ++ B).take (c + m) = A ++ B.take m := by
  subst h; rw [List.take_append, List.take_of_length_le (Nat.le_add_right _ _), Nat.add_sub_cancel_left]
theorem drop_app {A B : List Item} {c m : Nat} (h : A.length = c) : (A ++ B).drop (c + m) = B.drop m := by
  subst h; rw [List.drop_append, List.drop_eq_nil_of_le (Nat.le_add_right _ _), Nat.add_sub_cancel_left, List.nil_append]

/-- one rewriting of a valid spool -/
theorem rewrite_ok {s : Spool} {r v n : Int} (h : validB s = true) (hv : 0 ≤ v ∧ v < 6) (hn : 0 ≤ n) :
    ∃ (s' : Spool) (d : Int), rewriteS s r v n = (s', d, 0) ∧ validB s' = true ∧ s'.Items.length = s.Items.length ∧ s'.Next = s.Next ∧ 0 ≤ d ∧ d ≤ n ∧
      s'.Items.take s'.Cursor.toNat ++ allL r v (s'.Items.drop s'.Cursor.toNat) = s.Items.take s.Cursor.toNat ++ allL r v (s.Items.drop s.Cursor.toNat) ∧
      d + (cntL r (s'.Items.drop s'.Cursor.toNat) : Nat) = (cntL r (s.Items.drop s.Cursor.toNat) : Nat) ∧
      ((cntL r (s.Items.drop s.Cursor.toNat) : Nat) ≤ n → s'.Cursor = (s'.Items.length : Int)) := by
  obtain ⟨h1, h2, h3, h4, h5, h6⟩ := valid_bounds h
  obtain ⟨a, b, c, d, e, f⟩ := rw_facts (r := r) (v := v) (n := n) (L := s.Items.drop s.Cursor.toNat) (done := 0) hn
  have hg : goodS s.Next 0 (s.Items.take s.Cursor.toNat ++ (rwL r v n 0 (s.Items.drop s.Cursor.toNat)).2.2) = true := by
    rw [← List.take_append_drop s.Cursor.toNat s.Items, good_append, Bool.and_eq_true] at h6
    rw [good_append, Bool.and_eq_true]
    exact ⟨h6.1, rw_good hv h6.2⟩
  have hlen := rwL_length (running := r) (v := v) (n := n) (L := s.Items.drop s.Cursor.toNat) (done := 0)
  have htk : (s.Items.take s.Cursor.toNat).length = s.Cursor.toNat := by rw [List.length_take]; omega
  have hll : (s.Items.take s.Cursor.toNat ++ (rwL r v n 0 (s.Items.drop s.Cursor.toNat)).2.2).length = s.Items.length := by
    rw [List.length_append, htk, hlen, List.length_drop]; omega
  have hdl : (s.Items.drop s.Cursor.toNat).length = s.Items.length - s.Cursor.toNat := List.length_drop
  refine ⟨⟨s.Items.take s.Cursor.toNat ++ (rwL r v n 0 (s.Items.drop s.Cursor.toNat)).2.2, s.Next, ((s.Cursor.toNat + (rwL r v n 0 (s.Items.drop s.Cursor.toNat)).2.1 : Nat) : Int)⟩, (rwL r v n 0 (s.Items.drop s.Cursor.toNat)).1, ?_, ?_, hll, rfl, c, d, ?_, ?_, ?_⟩
  · unfold rewriteS
    rw [if_pos h, if_pos (by simp [hv, hn])]
  · exact valid_of (by rw [hll]; exact h1) h2 h3 (Int.natCast_nonneg _) (by
      show ((s.Cursor.toNat + (rwL r v n 0 (s.Items.drop s.Cursor.toNat)).2.1 : Nat) : Int) ≤ ((List.length (s.Items.take s.Cursor.toNat ++ (rwL r v n 0 (s.Items.drop s.Cursor.toNat)).2.2) : Nat) : Int)
      rw [hll]; omega) hg
  · dsimp only
    rw [Int.toNat_natCast, take_app htk, drop_app htk, List.append_assoc, a]
  · dsimp only
    rw [Int.toNat_natCast, drop_app htk, b]
    omega
  · intro g
    dsimp only
    rw [hll, f (by omega), hdl]
    omega

/-! Portions -/

structure Going (r v : Int) (N : Nat) (nx : Int) (T : List Item) (tot : Int) (s : Spool) (done : Int) : Prop where
  hv : validB s = true
  hl : s.Items.length = N
  hx : s.Next = nx
  ht : s.Items.take s.Cursor.toNat ++ allL r v (s.Items.drop s.Cursor.toNat) = T
  hd : done + (cntL r (s.Items.drop s.Cursor.toNat) : Nat) = tot
  hp : 0 ≤ done

theorem portions_l0 {r v : Int} (hv : 0 ≤ v ∧ v < 6) {N : Nat} (hN : N ≤ 40) {nx : Int} {T : List Item} {tot : Int} (ht : tot ≤ 40) (P : List Int) (hP : ∀ x, x ∈ P → isU8 x) (hlast : P.getD (P.length - 1) 0 = 100) (hl : P.length ≤ 100) (n e0 : Int) (all : Spool) :
    ∀ (m k : Nat) (s : Spool) (done : Int), k + m = P.length → Going r v N nx T tot s done →
    ∃ s' done', sheavelaw51_SpoolPortions_l0 (v, r, n, e0, done, (P.length : Int), (k : Int), s, all, P) = some (.inr (n, e0, done', s', all)) ∧ Going r v N nx T tot s' done' ∧ (m ≠ 0 → s'.Cursor = (s'.Items.length : Int)) := by
  intro m
  induction m with
  | zero =>
    intro k s done h g
    rw [sheavelaw51_SpoolPortions_l0.eq_1]
    rw [if_neg (by simp; omega)]
    exact ⟨s, done, rfl, g, fun h => absurd rfl h⟩
  | succ m ih =>
    intro k s done h g
    have hk : k < P.length := by omega
    have hu := u8_getD hP k
    rw [sheavelaw51_SpoolPortions_l0.eq_1]
    rw [if_pos (by simp; omega), if_pos (inR_nat hk), toNat_nat, if_pos (by simp; omega)]
    simp only [Option.bind_eq_bind, Option.bind_some, condT]
    rw [wrp64 (by omega) (by omega), spool_Rewrite_eq (fits_valid g.hv)]
    obtain ⟨s', d, e1, e2, e3, e4, e5, e6, e7, e8, e9⟩ := rewrite_ok (r := r) g.hv hv hu.1
    rw [e1]
    simp only [Option.bind_some]
    have hd := g.hd
    have hp := g.hp
    rw [if_neg (by simp; rw [← List.getD_eq_getElem?_getD]; omega), addI64 (a := done) (by omega) (by omega), addI64 (a := (k : Int)) (by omega) (by omega), show ((k : Int) + 1) = ((k + 1 : Nat) : Int) by simp]
    have g' : Going r v N nx T tot s' (done + d) := ⟨e2, e3.trans g.hl, e4.trans g.hx, e7.trans g.ht, by omega, by omega⟩
    obtain ⟨s2, d2, q1, q2, q3⟩ := ih (k + 1) s' (done + d) (by omega) g'
    refine ⟨s2, d2, q1, q2, fun _ => ?_⟩
    by_cases hm : m = 0
    · subst hm
      have hk1 : k = P.length - 1 := by omega
      rw [sheavelaw51_SpoolPortions_l0.eq_1] at q1
      rw [if_neg (by simp; omega)] at q1
      simp only [Option.some.injEq, Sum.inr.injEq, Prod.mk.injEq, true_and, and_true] at q1
      rw [← q1.2]
      refine e9 ?_
      rw [hk1, hlast]
      have := cntL_le (r := r) (L := s.Items.drop s.Cursor.toNat)
      rw [List.length_drop] at this
      have := g.hl
      omega
    · exact q3 hm

theorem numbers_to {n : Int} : 0 ≤ wrp .i64 (remI (wrp .u64 n) 6) ∧ wrp .i64 (remI (wrp .u64 n) 6) < 6 := by
  have e0 : wrp .u64 n = n % 18446744073709551616 := by
    unfold wrp; simp [IntKind.wrap, IntKind.bits, IntKind.signed]
  have e : remI (wrp .u64 n) 6 = (wrp .u64 n) % 6 := Int.tmod_eq_emod_of_nonneg (by omega)
  rw [e, wrp64 (by omega) (by omega)]
  omega

theorem spool_ext {a b : Spool} (h1 : a.Items = b.Items) (h2 : a.Next = b.Next) (h3 : a.Cursor = b.Cursor) : a = b := by
  cases a; cases b; simp at *; exact ⟨h1, h2, h3⟩

theorem SpoolPortions_law {d : Sheaveref51Draft} {x : Sheavelaw51Numbers} {P : List Int} (hd : DraftOk d) (hP : ∀ y, y ∈ P → isU8 y) : sheavelaw51_SpoolPortions (d, x, P) = some true := by
  obtain ⟨s, b, e, hv, hl, hn⟩ := of_eq hd
  unfold sheavelaw51_SpoolPortions
  dsimp only
  rw [e]
  simp only [Option.bind_eq_bind, Option.bind_some]
  rw [awake_eq]
  simp only [Option.bind_some, Bool.not_true, condT, Bool.false_or]
  by_cases hc : (!b || decide (40 < (P.length : Int))) = true
  · rw [if_pos hc]
  · rw [if_neg hc]
    simp only [Bool.or_eq_true, decide_eq_true_eq, not_or] at hc
    have hto := numbers_to (n := x.Version)
    generalize wrp .i64 (remI (wrp .u64 x.Version) 6) = to at *
    rw [spool_Rewrite_eq (fits_valid hv)]
    obtain ⟨a, n, a1, a2, a3, a4, a5, a6, a7, a8, a9⟩ := rewrite_ok (r := x.Running) hv hto (show (0 : Int) ≤ 1000 by decide)
    rw [a1]
    simp only [Option.bind_some, List.nil_append]
    have r1 : ∀ k, k ≤ 1000 → room 1 k = true := by
      intro k hk; unfold room capBytes sliceMax; simp only [Bool.and_eq_true, decide_eq_true_eq]; omega
    rw [if_pos (r1 _ (by omega)), if_pos (r1 _ (by simp; omega))]
    have hcl := cntL_le (r := x.Running) (L := s.Items.drop s.Cursor.toNat)
    rw [List.length_drop] at hcl
    have ha := a9 (by omega)
    have hac : a.Items.drop a.Cursor.toNat = [] := by rw [ha, Int.toNat_natCast]; exact List.drop_eq_nil_of_le (Nat.le_refl _)
    have hat : a.Items.take a.Cursor.toNat = a.Items := by rw [ha, Int.toNat_natCast]; exact List.take_of_length_le (Nat.le_refl _)
    have hP2 : ∀ y, y ∈ P ++ [100] → isU8 y := by
      intro y hy
      rcases List.mem_append.1 hy with hy | hy
      · exact hP y hy
      · rw [List.mem_singleton] at hy; subst hy; exact ⟨by decide, by decide⟩
    have hlast : (P ++ [100]).getD ((P ++ [100]).length - 1) 0 = 100 := by simp [List.getD]
    obtain ⟨s2, d2, q1, q2, q3⟩ := portions_l0 (r := x.Running) hto (N := s.Items.length) hl (nx := s.Next) (T := s.Items.take s.Cursor.toNat ++ allL x.Running to (s.Items.drop s.Cursor.toNat)) (tot := (cntL x.Running (s.Items.drop s.Cursor.toNat) : Nat)) (by omega) (P ++ [100]) hP2 hlast (by simp; omega) n 0 a
      (P ++ [100]).length 0 s 0 (by omega) ⟨hv, rfl, rfl, rfl, by omega, by omega⟩
    rw [Int.natCast_zero] at q1
    rw [q1]
    simp only [Option.bind_some]
    have hs := q3 (by simp)
    have hsc : s2.Items.drop s2.Cursor.toNat = [] := by rw [hs, Int.toNat_natCast]; exact List.drop_eq_nil_of_le (Nat.le_refl _)
    have hst : s2.Items.take s2.Cursor.toNat = s2.Items := by rw [hs, Int.toNat_natCast]; exact List.take_of_length_le (Nat.le_refl _)
    have heq : s2 = a := by
      refine spool_ext ?_ ?_ ?_
      · have h1 := q2.ht
        rw [← a7, hac, hat, hsc, hst] at h1
        simpa [allL] using h1
      · rw [q2.hx, a4]
      · rw [hs, ha, q2.hl, a3]
    have hdn : d2 = n := by
      have h1 := q2.hd
      rw [hsc] at h1
      rw [hac] at a8
      simp only [cntL] at h1 a8
      omega
    subst heq
    subst hdn
    simp only [condF]
    rw [same_self (fits_valid q2.hv)]
    simp

/-! Done -/

theorem SpoolDone_law {d : Sheaveref51Draft} {running v : Int} (hd : DraftOk d) (hr : isU8 running) (hv0 : isU8 v) : sheavelaw51_SpoolDone (d, running, v) = some true := by
  obtain ⟨s, b, e, hv, hl, hn⟩ := of_eq hd
  unfold sheavelaw51_SpoolDone
  dsimp only
  rw [e]
  simp only [Option.bind_eq_bind, Option.bind_some]
  rw [awake_eq]
  simp only [Option.bind_some, Bool.not_true, condT, Bool.false_or]
  by_cases hc : (!b) = true
  · rw [if_pos hc]
  · rw [if_neg hc]
    have hto := rem6 hv0
    generalize wrp .i64 (remI v 6) = to at *
    rw [if_pos (by simpa using hto.1), spool_Begin_eq (fits_valid hv)]
    simp only [Option.bind_some]
    obtain ⟨h1, h2, h3, h4, h5, h6⟩ := valid_bounds hv
    have hb : beginS s = ⟨s.Items, s.Next, 0⟩ := by unfold beginS; rw [if_pos hv]
    have hbv : validB (beginS s) = true := by rw [hb]; exact valid_of h1 h2 h3 (Int.le_refl 0) (by show (0 : Int) ≤ _; omega) h6
    have hset : isU8 (orI .u8 running (shlI .u8 1 to)) := by
      unfold orI
      have h : (BitVec.ofInt 8 running ||| BitVec.ofInt 8 (shlI .u8 1 to)).toNat < 256 := (BitVec.ofInt 8 running ||| BitVec.ofInt 8 (shlI .u8 1 to)).isLt
      show isU8 (IntKind.u8.wrap ((BitVec.ofInt 8 running ||| BitVec.ofInt 8 (shlI .u8 1 to)).toNat : Int))
      rw [wrap_u8_nat h]
      exact ⟨Int.natCast_nonneg _, by omega⟩
    have hrun : runsB (orI .u8 running (shlI .u8 1 to)) to = true := by
      rw [← bit_runs' hto hset, orI_bv]
      apply BitVec.eq_of_getLsbD_eq
      intro i hi
      simp
      intro g _; simp [g]
    generalize orI .u8 running (shlI .u8 1 to) = set at *
    rw [spool_Rewrite_eq (fits_valid hbv)]
    obtain ⟨a, n, a1, a2, a3, a4, a5, a6, a7, a8, a9⟩ := rewrite_ok (r := set) hbv hto (show (0 : Int) ≤ 1000 by decide)
    rw [a1]
    simp only [Option.bind_some, decide_true, condF, Bool.true_and, if_true]
    have hcl := cntL_le (r := set) (L := (beginS s).Items.drop (beginS s).Cursor.toNat)
    rw [List.length_drop, hb] at hcl
    have hcl2 : (s.Items.length - Int.toNat 0) ≤ 40 := by have : (0 : Int).toNat = 0 := rfl; omega
    have ha := a9 (by rw [hb]; dsimp only at hcl ⊢; omega)
    have hac : a.Items.drop a.Cursor.toNat = [] := by rw [ha, Int.toNat_natCast]; exact List.drop_eq_nil_of_le (Nat.le_refl _)
    have hat : a.Items.take a.Cursor.toNat = a.Items := by rw [ha, Int.toNat_natCast]; exact List.take_of_length_le (Nat.le_refl _)
    have hai : a.Items = allL set to s.Items := by
      have h1 := a7
      rw [hac, hat, hb] at h1
      simpa [allL] using h1
    have hheld : andNotI .u8 (heldS a) set = 0 := by
      rw [heldS_runs hset a2, hai]
      intro x hx
      obtain ⟨y, hy, rfl⟩ := List.mem_map.1 hx
      show runsB set (if runsB set y.Version = true then y else (⟨y.ID, to, y.Data⟩ : Item)).Version = true
      split
      · rename_i g; exact g
      · exact hrun
    rw [spool_Rewritten_eq (fits_valid a2), spool_Held_eq (fits_valid a2)]
    have hrw : rewrittenS a set = true := by
      unfold rewrittenS
      rw [a2, hheld, ha]; simp
    rw [hrw]
    have hlen : a.Items.length = s.Items.length := by rw [a3, hb]
    simp [hheld, hlen]

theorem lawSpoolPortions (h : Hs Un.D [.nm 3, .nm 2, .slice (.int .u8)]) (hk : Ok Un [.nm 3, .nm 2, .slice (.int .u8)] h) : sheavelaw51_SpoolPortions h = some true :=
  SpoolPortions_law (d := h.1) (x := h.2.1) (P := h.2.2) (draft_ok (ok_head hk)) (wf_u8s (ok_one1 (t := .slice (.int .u8)) (ok_tail (ok_tail hk)) _ (List.mem_cons_self ..))).2
theorem lawSpoolDone (h : Hs Un.D [.nm 3, .int .u8, .int .u8]) (hk : Ok Un [.nm 3, .int .u8, .int .u8] h) : sheavelaw51_SpoolDone h = some true :=
  SpoolDone_law (d := h.1) (running := h.2.1) (v := h.2.2) (draft_ok (ok_head hk)) (wf_u8 (ok_head (ok_tail hk) _ (List.mem_cons_self ..))) (wf_u8 (ok_one1 (t := .int .u8) (ok_tail (ok_tail hk)) _ (List.mem_cons_self ..)))

end Go.Proofs.Ytkdepbmeaiefeaa
