/- Typed states over the abstract machine: every operation is sound. -/
import Derived.Test.YtkdepbmeaiefeaaShvY3
namespace Go.Proofs.Ytkdepbmeaiefeaa.Shv
set_option linter.all false
open Go

variable {U : Uni}

structure Snd (N : Nat) (σ : XSt U) (σ1 : Store) (o : AOp) (env1 : Env) (g c : Bool) (v : XV U) (σ' : XSt U) : Prop where
  val : ∃ v1, VR (N + 16) σ' v v1 ∧ (g = true → c = true → ∃ p σ1', aval o env1 σ1 N = some (p, v1, σ1') ∧ p ∧ SR (N + 16) σ' σ1')
  keep : Keep N σ (N + 16) σ'
  neu : o.neutral = true → σ' = σ

section
variable {N N' : Nat} {σ σ' : XSt U} {σ1 : Store} {env : XEnv U} {env1 : Env} {G : Nat → Bool} {gl : GL} {gd : Option (Nat × Bool)} {c : Bool} {v : XV U}

theorem SR.mono (h : SR N σ σ1) (hN : N ≤ N') : SR N' σ σ1 := fun b x hx =>
  let ⟨h1, y, h2, h3⟩ := h b x hx; ⟨Nat.lt_of_lt_of_le h1 hN, y, h2, h3.mono (Keep.more hN)⟩

theorem Snd.neutral {o : AOp} {g : Bool} (hS : SR N σ σ1) {v1 : V} (hv : VR N σ v v1) (ha : g = true → c = true → ∃ p, aval o env1 σ1 N = some (p, v1, σ1) ∧ p) : Snd N σ σ1 o env1 g c v σ :=
  ⟨⟨v1, hv.mono (Keep.more (by omega)), fun hg hc => let ⟨p, h1, h2⟩ := ha hg hc; ⟨p, σ1, h1, h2, hS.mono (by omega)⟩⟩, Keep.more (by omega), fun _ => rfl⟩

theorem Snd.store {o : AOp} {g : Bool} (hn : o.neutral = false) (hk : Keep N σ (N + 16) σ') {v1 : V} (hv : VR (N + 16) σ' v v1) (ha : g = true → c = true → ∃ p σ1', aval o env1 σ1 N = some (p, v1, σ1') ∧ p ∧ SR (N + 16) σ' σ1') : Snd N σ σ1 o env1 g c v σ' :=
  ⟨⟨v1, hv, ha⟩, hk, fun h => by rw [hn] at h; cases h⟩

theorem xloadC_sound {agg : Bool} {k o : Nat} {cs : List (XC U)} {ds : List C} (hc : All2 (CR N σ) cs ds) (h : xloadC agg k cs o = some v) : ∃ v1, loadC agg k ds o = some v1 ∧ VR N σ v v1 := by
  unfold xloadC at h
  split at h
  · split at h
    · rename_i hb
      cases h
      refine ⟨_, by simp only [loadC, if_true]; rw [if_pos (by rw [← hc.length]; exact ble_true hb)], .agg ((hc.drop o).take k)⟩
    · cases h
  · split at h
    · rename_i x hx
      cases h
      obtain ⟨d, h1, h2⟩ := hc.get hx
      exact ⟨_, by simp [loadC, h1], .c h2⟩
    · cases h

theorem All2.map_map {α β γ δ : Type} {R : γ → δ → Prop} {f : α → γ} {g : β → δ} : ∀ {l : List α} {m : List β}, All2 (fun a b => R (f a) (g b)) l m → All2 R (l.map f) (m.map g)
  | [], [], _ => .nil
  | _ :: _, _ :: _, .cons h1 h2 => .cons h1 (All2.map_map h2)

theorem All2.self {α : Type} {R : α → α → Prop} (h : ∀ a, R a a) : ∀ (l : List α), All2 R l l
  | [] => .nil
  | a :: l => .cons (h a) (All2.self h l)

theorem row_cells {t : Ty} {x : t.den U.D} : All2 (CR N σ) ((t.row U x).map .t) ((t.enc U x).map .t) := by
  rw [Ty.enc_row, List.map_map]
  exact All2.map_map (All2.self (R := fun a b => CR N σ (.t a) (.t (b.enc U))) (fun c => CR.t c) _)


theorem loadT_map {agg : Bool} {k o : Nat} {ts : List T} {v : V} (hl : loadC agg k (ts.map .t) o = some v) : loadT agg k ts o = some v := by
  unfold loadC at hl; unfold loadT
  cases agg with
  | true => simpa using hl
  | false => simpa [Option.map_map] using hl
theorem xbin_sound {op : BinOp} {p q : Cell U.D} {r : Cell U.D} (h : xbin op p q = some (c, r)) : ∃ pr, binT op (p.enc U) (q.enc U) = some (pr, r.enc U) ∧ (c = true → pr) := by
  unfold xbin at h
  split at h
  · rename_i k a k' b
    show ∃ pr, binT op (.int k a) (.int k' b) = some (pr, r.enc U) ∧ (c = true → pr)
    cases op <;> simp only [xbinI, reduceCtorEq, Option.ite_none_right_eq_some, Option.some.injEq, Prod.mk.injEq] at h
    all_goals first
      | (obtain ⟨rfl, rfl, rfl⟩ := h; exact ⟨_, by simp only [binT, if_true]; rfl, fun h => by simpa using h⟩)
      | (obtain ⟨rfl, rfl⟩ := h; exact ⟨_, by simp only [binT]; rfl, fun h => by simpa using h⟩)
      | (obtain ⟨rfl, rfl, rfl⟩ := h; exact ⟨_, by simp only [binT, if_true]; rfl, fun h => trivial⟩)
  · rename_i a b
    show ∃ pr, binT op (.str a) (.str b) = some (pr, r.enc U) ∧ (c = true → pr)
    cases op <;> simp only [xbinS, reduceCtorEq, Option.some.injEq, Prod.mk.injEq] at h
    all_goals first
      | (obtain ⟨rfl, rfl⟩ := h; exact ⟨_, by simp only [binT]; rfl, fun h => by simpa using h⟩)
      | (obtain ⟨rfl, rfl⟩ := h; exact ⟨_, by simp only [binT]; rfl, fun h => trivial⟩)
  · cases h

theorem xeqT_sound {k : Nat} {x y : Cell U.D} {b : Bool} (h : xeqT k x y = some b) : eqT k (x.enc U) (y.enc U) = some b := by
  unfold xeqT at h
  split at h
  · cases h; rfl
  · simp only [Option.ite_none_right_eq_some, Option.some.injEq] at h
    obtain ⟨rfl, rfl⟩ := h
    show (if _ then _ else _) = _
    rw [if_pos rfl]; rfl
  · cases h; rfl
  · cases h

theorem xeqCs_sound : ∀ {ks : List Nat} {xs ys : List (XC U)} {ds es : List C} {b : Bool}, xeqCs ks xs ys = some b → All2 (CR N σ) xs ds → All2 (CR N σ) ys es → eqCs ks ds es = some b
  | [], [], [], [], [], b, h, .nil, .nil => by simp [xeqCs] at h; subst h; rfl
  | k :: ks, .t x :: xs, .t y :: ys, d :: ds, e :: es, b, h, .cons h1 h2, .cons h3 h4 => by
    simp only [xeqCs] at h
    split at h
    · rename_i b1 r hb hr
      cases h
      cases h1; cases h3
      simp [eqCs, xeqT_sound hb, xeqCs_sound hr h2 h4]
    · cases h

theorem inR_iff {m : Int} {n : Nat} : inR m n = true ↔ 0 ≤ m ∧ m.toNat < n := by simp [inR]
theorem slR_iff {lo hi : Int} {n : Nat} : slR lo hi n = true ↔ 0 ≤ lo ∧ lo ≤ hi ∧ hi ≤ n := by simp [slR]

theorem slc_eq {t : Ty} {s : List (t.den U.D)} {l r : Option Int} {pp pl pr : Prop} {sz : Nat} {σ1 : Store} :
    (some (pp ∧ pl ∧ pr ∧ 0 ≤ l.getD 0 ∧ l.getD 0 ≤ r.getD ((List.map (t.enc U) s).length : Int) ∧ r.getD ((List.map (t.enc U) s).length : Int) ≤ ((List.map (t.enc U) s).length : Int) ∧ ∀ e, e ∈ List.map (t.enc U) s → e.length = sz,
      V.c (C.t (T.slice (((List.map (t.enc U) s).take (r.getD ((List.map (t.enc U) s).length : Int)).toNat).drop (l.getD 0).toNat))), σ1) : ARes) =
    some (pp ∧ pl ∧ pr ∧ 0 ≤ l.getD 0 ∧ l.getD 0 ≤ r.getD (s.length : Int) ∧ r.getD (s.length : Int) ≤ (s.length : Int) ∧ ∀ e, e ∈ List.map (t.enc U) s → e.length = sz,
      V.c (C.t (Cell.enc U ⟨.slice t, cutL s (l.getD 0) (r.getD (s.length : Int))⟩)), σ1) := by
  have : Cell.enc U ⟨.slice t, cutL s (l.getD 0) (r.getD (s.length : Int))⟩ = T.slice (List.map (t.enc U) (cutL s (l.getD 0) (r.getD (s.length : Int)))) := rfl
  rw [this, List.length_map]
  simp only [cutL, List.map_drop, List.map_take]

theorem len_eq {α β : Type} {f : α → β} {l : List α} {p : Prop} {σ1 : Store} : (some (p, V.c (C.t (T.int .i64 ((l.map f).length : Int))), σ1) : ARes) = some (p, V.c (C.t (.int .i64 (l.length : Int))), σ1) := by rw [List.length_map]

theorem lt_map {α β : Type} {f : α → β} {l : List α} {i : Nat} (h : i < l.length) : i < (l.map f).length := by rw [List.length_map]; exact h

theorem All2.replicate {α β : Type} {R : α → β → Prop} {a : α} {b : β} (h : R a b) : ∀ n : Nat, All2 R (List.replicate n a) (List.replicate n b)
  | 0 => .nil
  | n + 1 => .cons h (All2.replicate h n)

theorem xcellsOf_sound : ∀ {xs : List (XC U)} {tys : List Ty} {es : List C} {row : List (Cell U.D)}, xcellsOf tys xs = some row → All2 (CR N σ) xs es → toTs es = some (row.map (Cell.enc U))
  | [], tys, es, row, h1, h2 => by
    cases h2
    cases tys <;> simp [xcellsOf] at h1
    subst h1; rfl
  | y :: ys, [], es, row, h1, h2 => by simp [xcellsOf] at h1
  | y :: ys, ty :: tys, _ :: _, row, h1, .cons h2 h3 => by
    cases h2 with
    | t c =>
      cases ty <;> simp only [xcellsOf] at h1 <;> (split at h1 <;> first | (cases h1; done) | (rename_i q hq; cases h1; simp [toTs, toT, xcellsOf_sound hq h3]))
    | cap0 =>
      cases ty <;> simp only [xcellsOf, reduceCtorEq] at h1
      split at h1
      · rename_i q hq
        cases h1
        simp [toTs, toT, xcellsOf_sound hq h3]
        rfl
      · cases h1
    | _ => cases ty <;> simp [xcellsOf] at h1

theorem buildS_length {sz : Nat} : ∀ {ps : List (Nat × AO)} {es es' : List (List T)} {p : Prop}, buildS env1 sz es ps = some (p, es') → es'.length = es.length
  | [], es, es', p, h => by simp [buildS] at h; rw [h.2]
  | (i, x) :: ps, es, es', p, h => by
    simp only [buildS, Option.bind_eq_some_iff, Option.ite_none_right_eq_some, Option.map_eq_some_iff, Prod.mk.injEq] at h
    obtain ⟨a, _, cs, _, ts, _, _, b, hb, _, rfl⟩ := h
    have := buildS_length (p := b.1) (es' := b.2) hb
    rw [this, List.length_set]

theorem xset_sound {t : Ty} {l l' : List (t.den U.D)} {i o : Nat} {cs : List (XC U)} {ds : List C} (h : xset U t l i o cs = some l') (hi : i < l.length) (hc : All2 (CR N σ) cs ds) (hle : o + cs.length ≤ t.sz U) :
    ∃ ts, toTs ds = some ts ∧ l'.map (t.enc U) = (l.map (t.enc U)).set i ((el (l.map (t.enc U)) i).take o ++ ts ++ (el (l.map (t.enc U)) i).drop (o + cs.length)) := by
  unfold xset at h
  split at h
  · rename_i x hx
    cases h
    unfold xmk at hx
    split at hx
    · rename_i row hrow
      have hr := Ty.mk_row hx
      have key := @xcellsOf_sound U N σ
      have hrowR : All2 (CR N σ) ((t.row U (t.at U l i)).map .t) ((t.enc U (t.at U l i)).map .t) := row_cells
      have hfill := xfill_sound (o := o) hrowR hc
      have h1 := key hrow hfill
      -- what the filled cells are as trees
      have happ : ∀ {a b : List C} {r : List T}, toTs (a ++ b) = some r → ∃ p q, toTs a = some p ∧ toTs b = some q ∧ r = p ++ q := by
        intro a
        induction a with
        | nil => intro b r h; exact ⟨[], r, rfl, h, rfl⟩
        | cons c a ih =>
          intro b r h
          simp only [List.cons_append, toTs, Option.bind_eq_some_iff, Option.map_eq_some_iff] at h
          obtain ⟨t0, ht0, r0, hr0, rfl⟩ := h
          obtain ⟨p, q, e1, e2, rfl⟩ := ih hr0
          exact ⟨t0 :: p, q, by simp [toTs, ht0, e1], e2, rfl⟩
      have hmapT : ∀ (ts : List T), toTs (ts.map .t) = some ts := by
        intro ts
        induction ts with
        | nil => rfl
        | cons a ts ih => simp [toTs, toT, ih]
      unfold fillC at h1
      obtain ⟨p, q, e1, e2, e3⟩ := happ h1
      obtain ⟨p', q', f1, f2, f3⟩ := happ e1
      rw [← List.map_take, hmapT] at f1
      cases f1
      rw [← List.map_drop, hmapT] at e2
      cases e2
      refine ⟨q', f2, ?_⟩
      rw [List.map_set, el_map hi, Ty.enc_row (x := x), hr, e3, f3, hc.length]
    · cases hx
  · cases h


variable (he : ER N σ G env env1) (hg : HG gl env G) (hS : SR N σ σ1)

section
include he hg hS

theorem x_mov {x : AO} (h : xval gl gd env σ N (.mov x) = some (c, v, σ')) : Snd N σ σ1 (.mov x) env1 (GdV env G gd) c v σ' := by
  simp only [xval] at h
  split at h
  · rename_i w hw
    cases h
    obtain ⟨p, v1, a1, a2, a3⟩ := xop_sound he hg hw
    exact .neutral hS a2 fun hd _ => ⟨p, by simp [aval, a1], a3 hd⟩
  · cases h

theorem x_pick {x y z : AO} (h : xval gl gd env σ N (.pick x y z) = some (c, v, σ')) : Snd N σ σ1 (.pick x y z) env1 (GdV env G gd) c v σ' := by
  simp only [xval] at h
  split at h
  · rename_i b p q h1 h2 h3
    cases h
    obtain ⟨p1, v1, a1, a2, a3⟩ := xop_sound he hg h1
    obtain ⟨p2, v2, b1, b2, b3⟩ := xpk_sound he hg h1 rfl h2
    obtain ⟨p3, v3, c1, c2, c3⟩ := xpk_sound he hg h1 rfl h3
    have := a2.bool_inv; subst this
    have := b2.bool_inv; subst this
    have := c2.bool_inv; subst this
    refine .neutral hS (.c (.t (U := U) ⟨.bool, _⟩)) fun hd _ => ⟨p1 ∧ (b = true → p2) ∧ (b = false → p3), by simp only [aval, a1, b1, c1, Option.bind_some]; rfl, a3 hd, b3 hd, c3 hd⟩
  · cases h

theorem x_nilCheck {x : AO} (h : xval gl gd env σ N (.nilCheck x) = some (c, v, σ')) : Snd N σ σ1 (.nilCheck x) env1 (GdV env G gd) c v σ' := by
  simp only [xval] at h
  split at h
  · rename_i b o hw
    cases h
    obtain ⟨p, v1, a1, a2, a3⟩ := xop_sound he hg hw
    have := a2.ptr_inv; subst this
    exact .neutral hS a2 fun hd _ => ⟨p, by simp [aval, a1], a3 hd⟩
  · rename_i b t i o hw
    cases h
    obtain ⟨p, v1, a1, a2, a3⟩ := xop_sound he hg hw
    have := a2.eptr_inv; subst this
    exact .neutral hS a2 fun hd _ => ⟨p, by simp [aval, a1], a3 hd⟩
  · rename_i t x' o hw
    cases h
    obtain ⟨p, v1, a1, a2, a3⟩ := xop_sound he hg hw
    have := a2.iptr_inv; subst this
    exact .neutral hS a2 fun hd _ => ⟨p, by simp [aval, a1], a3 hd⟩
  · cases h

theorem x_not {x : AO} (h : xval gl gd env σ N (.not x) = some (c, v, σ')) : Snd N σ σ1 (.not x) env1 (GdV env G gd) c v σ' := by
  simp only [xval] at h
  split at h
  · rename_i b hw
    cases h
    obtain ⟨p, v1, a1, a2, a3⟩ := xop_sound he hg hw
    have := a2.bool_inv; subst this
    exact .neutral hS (.c (.t (U := U) ⟨.bool, _⟩)) fun hd _ => ⟨p, by simp [aval, a1]; rfl, a3 hd⟩
  · cases h

theorem x_conv {k : IntKind} {x : AO} (h : xval gl gd env σ N (.conv k x) = some (c, v, σ')) : Snd N σ σ1 (.conv k x) env1 (GdV env G gd) c v σ' := by
  simp only [xval] at h
  split at h
  · rename_i k' m hw
    cases h
    obtain ⟨p, v1, a1, a2, a3⟩ := xop_sound he hg hw
    have := a2.int_inv; subst this
    exact .neutral hS (.c (.t (U := U) ⟨.int k, _⟩)) fun hd _ => ⟨p, by simp [aval, a1]; rfl, a3 hd⟩
  · cases h

theorem x_i2s {x : AO} (h : xval gl gd env σ N (.i2s x) = some (c, v, σ')) : Snd N σ σ1 (.i2s x) env1 (GdV env G gd) c v σ' := by
  simp only [xval] at h
  split at h
  · rename_i k' m hw
    cases h
    obtain ⟨p, v1, a1, a2, a3⟩ := xop_sound he hg hw
    have := a2.int_inv; subst this
    exact .neutral hS (.c (.t (U := U) ⟨.str, _⟩)) fun hd _ => ⟨p, by simp [aval, a1]; rfl, a3 hd⟩
  · cases h

theorem x_s2s {x : AO} (h : xval gl gd env σ N (.s2s x) = some (c, v, σ')) : Snd N σ σ1 (.s2s x) env1 (GdV env G gd) c v σ' := by
  simp only [xval] at h
  split at h
  · rename_i s hw
    cases h
    obtain ⟨p, v1, a1, a2, a3⟩ := xop_sound he hg hw
    have := a2.str_inv; subst this
    exact .neutral hS a2 fun hd _ => ⟨p, by simp [aval, a1], a3 hd⟩
  · cases h

theorem x_fldA {off : Nat} {x : AO} (h : xval gl gd env σ N (.fldA off x) = some (c, v, σ')) : Snd N σ σ1 (.fldA off x) env1 (GdV env G gd) c v σ' := by
  simp only [xval] at h
  split at h
  · rename_i b o hw
    cases h
    obtain ⟨p, v1, a1, a2, a3⟩ := xop_sound he hg hw
    have := a2.ptr_inv; subst this
    exact .neutral hS (.c (.ptr _ _)) fun hd _ => ⟨p, by simp [aval, a1], a3 hd⟩
  · rename_i b t i o hw
    cases h
    obtain ⟨p, v1, a1, a2, a3⟩ := xop_sound he hg hw
    have := a2.eptr_inv; subst this
    exact .neutral hS (.c (.eptr _ _ _ _)) fun hd _ => ⟨p, by simp [aval, a1], a3 hd⟩
  · rename_i t x' o hw
    cases h
    obtain ⟨p, v1, a1, a2, a3⟩ := xop_sound he hg hw
    have := a2.iptr_inv; subst this
    exact .neutral hS (.c (.iptr _ _ _)) fun hd _ => ⟨p, by simp [aval, a1], a3 hd⟩
  · cases h

theorem x_fld {agg : Bool} {off k : Nat} {x : AO} (h : xval gl gd env σ N (.fld agg off k x) = some (c, v, σ')) : Snd N σ σ1 (.fld agg off k x) env1 (GdV env G gd) c v σ' := by
  simp only [xval] at h
  split at h
  · rename_i cs hw
    split at h
    · rename_i w hl
      cases h
      obtain ⟨p, v1, a1, a2, a3⟩ := xop_sound he hg hw
      obtain ⟨ds, rfl, b2⟩ := a2.agg_inv
      obtain ⟨v2, c1, c2⟩ := xloadC_sound b2 hl
      exact .neutral hS c2 fun hd _ => ⟨p, by simp [aval, a1, c1], a3 hd⟩
    · cases h
  · cases h

theorem x_load {agg : Bool} {k : Nat} {x : AO} (h : xval gl gd env σ N (.load agg k x) = some (c, v, σ')) : Snd N σ σ1 (.load agg k x) env1 (GdV env G gd) c v σ' := by
  simp only [xval] at h
  split at h
  · rename_i b o hw
    split at h
    · rename_i cs hcs
      split at h
      · rename_i w hl
        cases h
        obtain ⟨p, v1, a1, a2, a3⟩ := xop_sound he hg hw
        have := a2.ptr_inv; subst this
        obtain ⟨_, y, b1, b2⟩ := hS b _ hcs
        cases b2 with
        | box b2 =>
          obtain ⟨v2, c1, c2⟩ := xloadC_sound b2 hl
          exact .neutral hS c2 fun hd _ => ⟨p, by simp [aval, a1, b1, c1], a3 hd⟩
      · cases h
    · cases h
  · rename_i b t i o hw
    split at h
    · rename_i t' l' hcs
      split at h
      · rename_i l hl
        have e := Cell.as_some hl
        cases e
        split at h
        · rename_i w hl2
          cases h
          obtain ⟨p, v1, a1, a2, a3⟩ := xop_sound he hg hw
          have := a2.eptr_inv; subst this
          obtain ⟨_, y, b1, b2⟩ := hS b _ hcs
          cases b2 with
          | arr =>
            obtain ⟨v2, c1, c2⟩ := xloadC_sound row_cells hl2
            refine .neutral hS c2 fun hd hc => ⟨p ∧ t.sz U = t.sz U ∧ i < (List.map (t.enc U) l).length, ?_, a3 hd, rfl, lt_map (of_decide_eq_true hc)⟩
            simp only [decide_eq_true_eq] at hc
            have c1 := loadT_map c1
            simp only [aval, a1, Option.bind_some, b1]
            rw [el_map hc, c1]
            rfl
        · cases h
      · cases h
    · cases h
  · rename_i t x' o hw
    split at h
    · rename_i w hl
      cases h
      obtain ⟨p, v1, a1, a2, a3⟩ := xop_sound he hg hw
      have := a2.iptr_inv; subst this
      obtain ⟨v2, c1, c2⟩ := xloadC_sound row_cells hl
      have c1 := loadT_map c1
      exact .neutral hS c2 fun hd _ => ⟨p, by simp [aval, a1, c1], a3 hd⟩
    · cases h
  · cases h


theorem x_bin {op : BinOp} {x y : AO} (h : xval gl gd env σ N (.bin op x y) = some (c, v, σ')) : Snd N σ σ1 (.bin op x y) env1 (GdV env G gd) c v σ' := by
  simp only [xval] at h
  split at h
  · rename_i p q hp hq
    split at h
    · rename_i c' r hr
      cases h
      obtain ⟨pp, v1, a1, a2, a3⟩ := xop_sound he hg hp
      obtain ⟨pq, v2, b1, b2, b3⟩ := xop_sound he hg hq
      have := a2.t_inv; subst this
      have := b2.t_inv; subst this
      obtain ⟨pr, d1, d2⟩ := xbin_sound hr
      exact .neutral hS (.c (.t _)) fun hd hc => ⟨pp ∧ pq ∧ pr, by simp only [aval, a1, b1, Option.bind_some, d1]; rfl, a3 hd, b3 hd, d2 hc⟩
    · cases h
  · cases h

theorem x_eqAgg {neg : Bool} {ks : List Nat} {x y : AO} (h : xval gl gd env σ N (.eqAgg neg ks x y) = some (c, v, σ')) : Snd N σ σ1 (.eqAgg neg ks x y) env1 (GdV env G gd) c v σ' := by
  simp only [xval] at h
  split at h
  · rename_i p q hp hq
    split at h
    · rename_i r hr
      cases h
      obtain ⟨pp, v1, a1, a2, a3⟩ := xop_sound he hg hp
      obtain ⟨pq, v2, b1, b2, b3⟩ := xop_sound he hg hq
      obtain ⟨ds, rfl, d2⟩ := a2.agg_inv
      obtain ⟨es, rfl, e2⟩ := b2.agg_inv
      have := xeqCs_sound hr d2 e2
      exact .neutral hS (.c (.t (U := U) ⟨.bool, _⟩)) fun hd hc => ⟨pp ∧ pq, by simp only [aval, a1, b1, Option.bind_some, this]; cases neg <;> rfl, a3 hd, b3 hd⟩
    · cases h
  · cases h

theorem x_eqBool {neg : Bool} {x y : AO} (h : xval gl gd env σ N (.eqBool neg x y) = some (c, v, σ')) : Snd N σ σ1 (.eqBool neg x y) env1 (GdV env G gd) c v σ' := by
  simp only [xval] at h
  split at h
  · rename_i p q hp hq
    cases h
    obtain ⟨pp, v1, a1, a2, a3⟩ := xop_sound he hg hp
    obtain ⟨pq, v2, b1, b2, b3⟩ := xop_sound he hg hq
    have := a2.bool_inv; subst this
    have := b2.bool_inv; subst this
    exact .neutral hS (.c (.t (U := U) ⟨.bool, _⟩)) fun hd hc => ⟨pp ∧ pq, by simp only [aval, a1, b1, Option.bind_some]; cases neg <;> rfl, a3 hd, b3 hd⟩
  · cases h

theorem x_idxA {sz : Nat} {x y : AO} (h : xval gl gd env σ N (.idxA sz x y) = some (c, v, σ')) : Snd N σ σ1 (.idxA sz x y) env1 (GdV env G gd) c v σ' := by
  simp only [xval] at h
  split at h
  · rename_i t l k m hp hq
    split at h
    · rename_i hsz
      have hsz := beq_true hsz
      cases h
      obtain ⟨pp, v1, a1, a2, a3⟩ := xop_sound he hg hp
      obtain ⟨pq, v2, b1, b2, b3⟩ := xop_sound he hg hq
      have := a2.slice_inv; subst this
      have := b2.int_inv; subst this
      by_cases hr : inR m (List.length l) = true
      · obtain ⟨h1, h2⟩ := inR_iff.1 hr
        refine .neutral hS (v1 := .c (.iptr (el (List.map (t.enc U) l) (Int.toNat m)) 0)) ?_ fun hd hc => ⟨pp ∧ pq ∧ (0 : Int) ≤ m ∧ Int.toNat m < (List.map (t.enc U) l).length ∧ (el (List.map (t.enc U) l) (Int.toNat m)).length = sz, by simp only [aval, a1, b1, Option.bind_some], a3 hd, b3 hd, h1, lt_map h2, by rw [el_map h2, Ty.enc_length]; exact hsz⟩
        rw [el_map h2]
        exact .c (.iptr _ _ _)
      · exact .neutral hS (.c (.iptr _ _ _)) fun hd hc => absurd hc hr
    · cases h
  · rename_i b k m hp hq
    split at h
    · rename_i t l hb
      split at h
      · rename_i hsz
        have hsz := beq_true hsz
        cases h
        obtain ⟨pp, v1, a1, a2, a3⟩ := xop_sound he hg hp
        obtain ⟨pq, v2, b1, b2, b3⟩ := xop_sound he hg hq
        obtain ⟨sz', n, rfl, hbN, hd⟩ := a2.arr_inv
        have := b2.int_inv; subst this
        have := hd _ hb _ rfl
        cases this
        refine .neutral hS (.c (.eptr _ _ _ _)) fun hd hc => ⟨pp ∧ pq ∧ (0 : Int) ≤ m ∧ Int.toNat m < l.length ∧ sz = t.sz U, ?_, a3 hd, b3 hd, (inR_iff.1 hc).1, (inR_iff.1 hc).2, hsz.symm⟩
        simp only [aval, a1, b1, Option.bind_some, Nat.zero_add, hsz]
      · cases h
    · cases h
  · cases h

theorem x_idxS {x y : AO} (h : xval gl gd env σ N (.idxS x y) = some (c, v, σ')) : Snd N σ σ1 (.idxS x y) env1 (GdV env G gd) c v σ' := by
  simp only [xval] at h
  split at h
  · rename_i s k m hp hq
    cases h
    obtain ⟨pp, v1, a1, a2, a3⟩ := xop_sound he hg hp
    obtain ⟨pq, v2, b1, b2, b3⟩ := xop_sound he hg hq
    have := a2.str_inv; subst this
    have := b2.int_inv; subst this
    exact .neutral hS (.c (.t (U := U) ⟨.int .u8, _⟩)) fun hd hc => ⟨pp ∧ pq ∧ (0 : Int) ≤ m ∧ Int.toNat m < List.length s, by simp only [aval, a1, b1, Option.bind_some]; rfl, a3 hd, b3 hd, (inR_iff.1 hc).1, (inR_iff.1 hc).2⟩
  · cases h

theorem xbound_sound {x : Option AO} {l : Option Int} (h : xbound gl gd env x = some l) : ∃ p, getO env1 x = some (p, l) ∧ (GdV env G gd = true → p) := by
  unfold xbound at h
  split at h
  · cases h; exact ⟨True, rfl, fun _ => trivial⟩
  · split at h
    · rename_i k n hx
      cases h
      obtain ⟨pp, v1, a1, a2, a3⟩ := xop_sound he hg hx
      have := a2.int_inv; subst this
      exact ⟨pp, by simp only [getO, a1, Option.bind_some], a3⟩
    · cases h

theorem x_slcS {x : AO} {lo hi : Option AO} (h : xval gl gd env σ N (.slcS x lo hi) = some (c, v, σ')) : Snd N σ σ1 (.slcS x lo hi) env1 (GdV env G gd) c v σ' := by
  simp only [xval] at h
  split at h
  · rename_i s l r hp hl hr
    cases h
    obtain ⟨pp, v1, a1, a2, a3⟩ := xop_sound he hg hp
    obtain ⟨pl, l1, l2⟩ := xbound_sound he hg hS hl
    obtain ⟨pr, r1, r2⟩ := xbound_sound he hg hS hr
    have := a2.str_inv; subst this
    exact .neutral hS (.c (.t (U := U) ⟨.str, _⟩)) fun hd hc => ⟨pp ∧ pl ∧ pr ∧ 0 ≤ l.getD 0 ∧ l.getD 0 ≤ r.getD (List.length s : Int) ∧ r.getD (List.length s : Int) ≤ (List.length s : Int), by simp only [aval, a1, l1, r1, Option.bind_some]; rfl, a3 hd, l2 hd, r2 hd, slR_iff.1 hc⟩
  · cases h

theorem x_slc {sz : Nat} {x : AO} {lo hi : Option AO} (h : xval gl gd env σ N (.slc sz x lo hi) = some (c, v, σ')) : Snd N σ σ1 (.slc sz x lo hi) env1 (GdV env G gd) c v σ' := by
  simp only [xval] at h
  split at h
  · rename_i t s l r hp hl hr
    split at h
    · rename_i hsz
      have hsz := beq_true hsz
      cases h
      obtain ⟨pp, v1, a1, a2, a3⟩ := xop_sound he hg hp
      obtain ⟨pl, l1, l2⟩ := xbound_sound he hg hS hl
      obtain ⟨pr, r1, r2⟩ := xbound_sound he hg hS hr
      have := a2.slice_inv; subst this
      refine .neutral hS (.c (.t (U := U) ⟨.slice t, _⟩)) fun hd hc => ⟨pp ∧ pl ∧ pr ∧ 0 ≤ l.getD 0 ∧ l.getD 0 ≤ r.getD (List.length s : Int) ∧ r.getD (List.length s : Int) ≤ (List.length s : Int) ∧ ∀ e, e ∈ List.map (t.enc U) s → e.length = sz, ?_, a3 hd, l2 hd, r2 hd, (slR_iff.1 hc).1, (slR_iff.1 hc).2.1, (slR_iff.1 hc).2.2, ?_⟩
      · simp only [aval, a1, l1, r1, Option.bind_some]
        exact slc_eq
      · intro e hm
        obtain ⟨y, _, rfl⟩ := List.mem_map.1 hm
        rw [Ty.enc_length]; exact hsz
    · cases h
  · cases h

theorem x_slc0 {x : AO} (h : xval gl gd env σ N (.slc0 x) = some (c, v, σ')) : Snd N σ σ1 (.slc0 x) env1 (GdV env G gd) c v σ' := by
  simp only [xval] at h
  split at h
  · rename_i t l hw
    cases h
    obtain ⟨p, v1, a1, a2, a3⟩ := xop_sound he hg hw
    have := a2.slice_inv; subst this
    exact .neutral hS (.c .cap0) fun hd _ => ⟨p, by simp [aval, a1], a3 hd⟩
  · rename_i hw
    cases h
    obtain ⟨p, v1, a1, a2, a3⟩ := xop_sound he hg hw
    have := a2.cap0_inv; subst this
    exact .neutral hS (.c .cap0) fun hd _ => ⟨p, by simp [aval, a1], a3 hd⟩
  · rename_i b hw
    cases h
    obtain ⟨p, v1, a1, a2, a3⟩ := xop_sound he hg hw
    obtain ⟨sz, n, rfl, _⟩ := a2.arr_inv
    exact .neutral hS (.c .cap0) fun hd _ => ⟨p, by simp [aval, a1], a3 hd⟩
  · cases h

theorem xcaps_sound : ∀ {vs : List (XV U)} {ds : List V} {l : List Nat}, xcaps vs = some l → All2 (VR N σ) vs ds → aval.capsOf ds = some l
  | [], [], l, h, .nil => by simp [xcaps] at h; subst h; rfl
  | .c (.ptr b 0) :: vs, d :: ds, l, h, .cons h1 h2 => by
    simp only [xcaps] at h
    split at h
    · rename_i l' hl
      cases h
      have := h1.ptr_inv; subst this
      simp [aval.capsOf, xcaps_sound hl h2]
    · cases h

theorem x_mkfn {f : Nat} {caps : List AO} (h : xval gl gd env σ N (.mkfn f caps) = some (c, v, σ')) : Snd N σ σ1 (.mkfn f caps) env1 (GdV env G gd) c v σ' := by
  simp only [xval] at h
  split at h
  · rename_i vs hvs
    split at h
    · rename_i l hl
      cases h
      obtain ⟨p, ds, a1, a2, a3⟩ := xops_sound he hg hvs
      exact .neutral hS (.c (.fn _ _)) fun hd _ => ⟨p, by simp [aval, a1, xcaps_sound he hg hS hl a2], a3 hd⟩
    · cases h
  · cases h

theorem x_ext {x : AO} {i : Nat} (h : xval gl gd env σ N (.ext x i) = some (c, v, σ')) : Snd N σ σ1 (.ext x i) env1 (GdV env G gd) c v σ' := by
  simp only [xval] at h
  split at h
  · rename_i vs hvs
    split at h
    · rename_i w hw
      cases h
      obtain ⟨p, v1, a1, a2, a3⟩ := xop_sound he hg hvs
      cases a2 with
      | tup _ ds hl h2 =>
        have hi := (List.getElem?_eq_some_iff.1 hw).1
        have hd := List.getElem?_eq_getElem (l := ds) (i := i) (by omega)
        exact .neutral hS (h2 i _ _ hw hd) fun hg _ => ⟨p, by simp only [aval, a1, Option.bind_some, hd, Option.map_some], a3 hg⟩
    · cases h
  · cases h

theorem x_max2 {x y : AO} (h : xval gl gd env σ N (.max2 x y) = some (c, v, σ')) : Snd N σ σ1 (.max2 x y) env1 (GdV env G gd) c v σ' := by
  simp only [xval] at h
  split at h
  · rename_i k a k' b hp hq
    simp only [Option.ite_none_right_eq_some, Option.some.injEq, Prod.mk.injEq] at h
    obtain ⟨rfl, rfl, rfl, rfl⟩ := h
    obtain ⟨pp, v1, a1, a2, a3⟩ := xop_sound he hg hp
    obtain ⟨pq, v2, b1, b2, b3⟩ := xop_sound he hg hq
    have := a2.int_inv; subst this
    have := b2.int_inv; subst this
    exact .neutral hS (.c (.t (U := U) ⟨.int k, _⟩)) fun hd hc => ⟨pp ∧ pq, by simp only [aval, a1, b1, Option.bind_some, if_true]; rfl, a3 hd, b3 hd⟩
  · cases h

theorem x_min2 {x y : AO} (h : xval gl gd env σ N (.min2 x y) = some (c, v, σ')) : Snd N σ σ1 (.min2 x y) env1 (GdV env G gd) c v σ' := by
  simp only [xval] at h
  split at h
  · rename_i k a k' b hp hq
    simp only [Option.ite_none_right_eq_some, Option.some.injEq, Prod.mk.injEq] at h
    obtain ⟨rfl, rfl, rfl, rfl⟩ := h
    obtain ⟨pp, v1, a1, a2, a3⟩ := xop_sound he hg hp
    obtain ⟨pq, v2, b1, b2, b3⟩ := xop_sound he hg hq
    have := a2.int_inv; subst this
    have := b2.int_inv; subst this
    exact .neutral hS (.c (.t (U := U) ⟨.int k, _⟩)) fun hd hc => ⟨pp ∧ pq, by simp only [aval, a1, b1, Option.bind_some, if_true]; rfl, a3 hd, b3 hd⟩
  · cases h

theorem x_build {z : List C} {parts : List (Nat × Nat × AO)} (h : xval gl gd env σ N (.build z parts) = some (c, v, σ')) : Snd N σ σ1 (.build z parts) env1 (GdV env G gd) c v σ' := by
  simp only [xval] at h
  split at h
  · rename_i zs hz
    split at h
    · rename_i cs hcs
      cases h
      obtain ⟨p, ds, a1, a2, a3⟩ := xbuild_sound he hg hcs (xofCs_sound hz)
      exact .neutral hS (.agg a2) fun hd _ => ⟨p, by simp [aval, a1], a3 hd⟩
    · cases h
  · cases h


theorem x_alloc {cs : List C} (h : xval gl gd env σ N (.alloc cs) = some (c, v, σ')) : Snd N σ σ1 (.alloc cs) env1 (GdV env G gd) c v σ' := by
  simp only [xval] at h
  split at h
  · rename_i xs hxs
    cases h
    have k : Keep N σ (N + 16) (pt σ N (.box xs)) := keep_new (by omega)
    exact .store rfl k (.c (.ptr _ _)) fun hd _ => ⟨True, _, rfl, trivial, hS.put (by omega) k (.box (xofCs_sound hxs))⟩
  · cases h

theorem x_box {x : AO} (h : xval gl gd env σ N (.box x) = some (c, v, σ')) : Snd N σ σ1 (.box x) env1 (GdV env G gd) c v σ' := by
  simp only [xval] at h
  split at h
  · rename_i w hw
    split at h
    · rename_i cs hcs
      cases h
      obtain ⟨p, v1, a1, a2, a3⟩ := xop_sound he hg hw
      obtain ⟨ds, b1, b2⟩ := xcells_sound a2 hcs
      have k : Keep N σ (N + 16) (pt σ N (.box cs)) := keep_new (by omega)
      exact .store rfl k (.c (.ptr _ _)) fun hd _ => ⟨p, _, by simp only [aval, a1, Option.bind_some, b1, Option.map_some], a3 hd, hS.put (by omega) k (.box (b2.imp fun _ _ _ => CR.mono k))⟩
    · cases h
  · cases h

theorem x_bslice {sz len : Nat} {z : List C} {parts : List (Nat × AO)} (h : xval gl gd env σ N (.bslice sz len z parts) = some (c, v, σ')) : Snd N σ σ1 (.bslice sz len z parts) env1 (GdV env G gd) c v σ' := by
  simp only [xval] at h
  split at h
  · rename_i zs hz
    split at h
    · cases h
    · rename_i ts hts
      split at h
      · cases h
      · rename_i hsz
        have hsz := beq_true hsz
        split at h
        · rename_i rows hr
          cases h
          have hz1 := xofCs_sound (N := N) (σ := σ) hz
          obtain ⟨p, es, a1, a2, a4, a3⟩ := xrowsP_sound he hg hr (es := List.replicate len ts) (All2.replicate (R := fun r e => xts r = some e) hts len) (by intro r hr; rw [List.eq_of_mem_replicate hr]; exact hsz)
          have k : Keep N σ (N + 16) (pt σ N (.rows sz rows)) := keep_new (by omega)
          refine .store rfl k (.c (.arr N sz es.length (by omega) ?_)) fun hd _ => ⟨p, _, by simp only [aval, xts_sound hz1 hts, Option.bind_some, a1, Option.map_some]; rw [buildS_length a1, List.length_replicate], a3 hd, hS.put (by omega) k (.rows a2 a4)⟩
          intro x hx q hq
          rw [lk_pt, if_pos rfl] at hx
          cases hx
          simp only [XB.dim, Option.some.injEq] at hq
          rw [← hq, a2.length]
        · cases h
  · cases h

theorem x_store {k : Nat} {x y : AO} (h : xval gl gd env σ N (.store k x y) = some (c, v, σ')) : Snd N σ σ1 (.store k x y) env1 (GdV env G gd) c v σ' := by
  simp only [xval] at h
  split at h
  · rename_i b o w hx hy
    split at h
    · rename_i cs hcs
      split at h
      · rename_i hk
        have hk := beq_true hk
        split at h
        · rename_i ds hds
          split at h
          · rename_i hle
            have hle := ble_true hle
            cases h
            obtain ⟨p, v1, a1, a2, a3⟩ := xop_sound he hg hx
            obtain ⟨q, v2, b1, b2, b3⟩ := xop_sound he hg hy
            have := a2.ptr_inv; subst this
            obtain ⟨es, c1, c2⟩ := xcells_sound b2 hcs
            obtain ⟨hbN, z, d1, d2⟩ := hS b _ hds
            cases d2 with
            | @box _ fs d2 =>
              have kp : Keep N σ (N + 16) (pt σ b (.box (xfill ds o cs))) := keep_put (by omega) hds (fun p h => by simp [XB.dim] at h)
              refine .store rfl kp (.tup [] [] rfl (by simp)) fun hd _ => ⟨p ∧ q, _, ?_, ⟨a3 hd, b3 hd⟩, hS.put (by omega) kp (.box (xfill_sound (d2.imp fun _ _ _ => CR.mono kp) (c2.imp fun _ _ _ => CR.mono kp)))⟩
              simp only [aval, a1, b1, Option.bind_some, c1]
              rw [if_pos (by rw [← c2.length]; exact hk), d1]
              dsimp only
              rw [if_pos (by rw [← d2.length]; exact hle)]
          · cases h
        · cases h
      · cases h
    · cases h
  · rename_i b t i o w hx hy
    split at h
    · rename_i cs hcs
      split at h
      · rename_i hk
        simp only [Bool.and_eq_true] at hk
        have hk1 := beq_true hk.1
        have hk2 := ble_true hk.2
        split at h
        · rename_i t' l' hl'
          split at h
          · rename_i l hl
            have e := Cell.as_some hl
            cases e
            split at h
            · rename_i l2 hl2
              cases h
              obtain ⟨p, v1, a1, a2, a3⟩ := xop_sound he hg hx
              obtain ⟨q, v2, b1, b2, b3⟩ := xop_sound he hg hy
              have := a2.eptr_inv; subst this
              obtain ⟨es, c1, c2⟩ := xcells_sound b2 hcs
              obtain ⟨hbN, z, d1, d2⟩ := hS b _ hl'
              cases d2 with
              | arr =>
                have hlen : l2.length = List.length l := by
                  unfold xset at hl2
                  split at hl2
                  · cases hl2; exact List.length_set
                  · cases hl2
                have kp : Keep N σ (N + 16) (pt σ b (.arr t l2)) := keep_put (by omega) hl' (fun p h => by
                  simp only [XB.dim] at h ⊢
                  rw [← h, hlen])
                refine .store rfl kp (.tup [] [] rfl (by simp)) fun hd hc => ?_
                have hi : i < List.length l := of_decide_eq_true hc
                obtain ⟨ts, e1, e2⟩ := xset_sound hl2 hi c2 (by rw [hk1]; exact hk2)
                refine ⟨p ∧ q ∧ t.sz U = t.sz U ∧ i < (List.map (t.enc U) l).length ∧ o + k ≤ t.sz U, _, ?_, ⟨a3 hd, b3 hd, rfl, lt_map hi, hk2⟩, hS.put (by omega) kp (.arr t l2)⟩
                simp only [aval, a1, b1, Option.bind_some, c1]
                rw [if_pos (by rw [← c2.length]; exact hk1), d1]
                dsimp only
                rw [e1, Option.bind_some, e2, hk1]
                simp only [eq_self]
            · cases h
          · cases h
        · cases h
      · cases h
    · cases h
  · cases h


inductive ES : XE U → List (List T) → Prop
  | ty (t : Ty) (l : List (t.den U.D)) : ES (.ty t l) (l.map (t.enc U))
  | rows {r es} : All2 (fun r e => xts r = some e) r es → ES (.rows r) es
  | nil : ES .nil []

omit he hg hS in
theorem ES.length {e : XE U} {es : List (List T)} (h : ES e es) : es.length = e.len := by
  cases h with
  | ty t l => simp [XE.len]
  | rows h => simp [XE.len, h.length]
  | nil => rfl

omit he hg hS in
theorem toT_cell {x : XC U} {t : T} {c : C} (h : CR N σ x c) (ht : x.toT = some t) : Shv.toT c = some t := toT_sound h ht

omit he hg hS in
theorem xcellsOf_ts : ∀ {xs : List (XC U)} {tys : List Ty} {e : List T} {row : List (Cell U.D)}, xcellsOf tys xs = some row → xts xs = some e → e = row.map (Cell.enc U)
  | [], tys, e, row, h1, h2 => by
    cases tys <;> simp [xcellsOf] at h1
    simp [xts] at h2
    subst h1; subst h2; rfl
  | y :: ys, [], e, row, h1, h2 => by cases y <;> simp [xcellsOf] at h1
  | y :: ys, ty :: tys, e, row, h1, h2 => by
    simp only [xts] at h2
    split at h2
    · rename_i t ts ht hts
      cases h2
      cases y with
      | t c =>
        simp only [XC.toT] at ht
        split at ht
        · cases ht
        · cases ht
          cases ty <;> simp only [xcellsOf] at h1 <;> (split at h1 <;> first | (cases h1; done) | (rename_i q hq; cases h1; rw [xcellsOf_ts hq hts]; rfl))
      | cap0 =>
        simp only [XC.toT, Option.some.injEq] at ht
        subst ht
        cases ty <;> simp only [xcellsOf, reduceCtorEq] at h1
        split at h1
        · rename_i q hq
          cases h1
          rw [xcellsOf_ts hq hts]; rfl
        · cases h1
      | _ => simp [XC.toT] at ht
    · cases h2

omit he hg hS in
theorem xmk_ts {t : Ty} {r : List (XC U)} {x : t.den U.D} {e : List T} (h : xmk U t r = some x) (he : xts r = some e) : t.enc U x = e := by
  unfold xmk at h
  split at h
  · rename_i row hrow
    rw [Ty.enc_row, Ty.mk_row h, xcellsOf_ts hrow he]
  · cases h

omit he hg hS in
theorem xmks_ts {t : Ty} : ∀ {r : List (List (XC U))} {l : List (t.den U.D)} {es : List (List T)}, xmks U t r = some l → All2 (fun r e => xts r = some e) r es → l.map (t.enc U) = es
  | [], l, es, h, h2 => by cases h2; simp [xmks] at h; subst h; rfl
  | r :: rs, l, _ :: _, h, .cons h1 h2 => by
    simp only [xmks] at h
    split at h
    · rename_i x xs hx hxs
      cases h
      rw [List.map_cons, xmk_ts hx h1, xmks_ts hxs h2]
    · cases h

omit he hg hS in
theorem ES.as {t : Ty} {e : XE U} {es : List (List T)} {l : List (t.den U.D)} (h : ES e es) (ha : e.as t = some l) : l.map (t.enc U) = es := by
  cases h with
  | ty u l' =>
    simp only [XE.as] at ha
    have := Cell.as_some ha
    cases this; rfl
  | rows h => exact xmks_ts ha h
  | nil => simp [XE.as] at ha; subst ha; rfl

omit he hg hS in
theorem ES.join {x y z : XE U} {es fs : List (List T)} (hx : ES x es) (hy : ES y fs) (h : x.join y = some z) : ES z (es ++ fs) := by
  cases hx with
  | nil => simp [XE.join] at h; subst h; exact hy
  | ty t l =>
    simp only [XE.join] at h
    split at h
    · rename_i l' hl
      cases h
      rw [← hy.as hl, ← List.map_append]
      exact .ty t _
    · cases h
  | rows hr =>
    cases hy with
    | ty t l =>
      simp only [XE.join] at h
      split at h
      · rename_i l' hl
        cases h
        rw [← xmks_ts hl hr, ← List.map_append]
        exact .ty t _
      · cases h
    | rows hr' => simp [XE.join] at h; subst h; exact .rows (hr.append hr')
    | nil => simp [XE.join] at h; subst h; rw [List.append_nil]; exact .rows hr

omit he hg hS in
theorem ES.blk {e : XE U} {es : List (List T)} {sz : Nat} {b : XB U} (h : ES e es) (hb : e.blk sz = some b) : BR N' σ' b (.arr sz es) ∧ (∀ x, x ∈ es → x.length = sz) ∧ b.dim = some (sz, e.len) := by
  cases h with
  | ty t l =>
    simp only [XE.blk] at hb
    split at hb
    · rename_i hs
      have := beq_true hs; subst this
      cases hb
      refine ⟨.arr t l, fun x hx => ?_, rfl⟩
      obtain ⟨y, _, rfl⟩ := List.mem_map.1 hx
      exact Ty.enc_length
    · cases hb
  | @rows r es hr =>
    simp only [XE.blk] at hb
    split at hb
    · rename_i hs
      cases hb
      simp only [List.all_eq_true] at hs
      refine ⟨.rows hr fun x hx => beq_true (hs x hx), fun x hx => ?_, rfl⟩
      obtain ⟨i, hi, rfl⟩ := List.getElem_of_mem hx
      obtain ⟨y, h1, h2⟩ := (hr.flip (R' := fun e r => xts r = some e) fun _ _ h => h).get (List.getElem?_eq_getElem hi)
      rw [xts_length h2]
      exact beq_true (hs y (List.mem_of_getElem? h1))
    · cases hb
  | nil =>
    simp only [XE.blk, Option.some.injEq] at hb
    subst hb
    exact ⟨.rows .nil (by simp), by simp, rfl⟩

omit he hg in
theorem xes_sound {v : XV U} {v1 : V} {e : XE U} {ob : Option Nat} (hv : VR N σ v v1) (h : xes σ v = some (e, ob)) : ∃ es, ysOf σ1 v1 = some (es, ob) ∧ ES e es := by
  unfold xes at h
  split at h
  · rename_i t l
    cases h
    have := hv.slice_inv; subst this
    exact ⟨_, rfl, .ty t l⟩
  · cases h
    have := hv.cap0_inv; subst this
    exact ⟨_, rfl, .nil⟩
  · rename_i b
    obtain ⟨sz, n, rfl, hb, hd⟩ := hv.arr_inv
    split at h
    · rename_i t l hl
      cases h
      obtain ⟨_, y, h1, h2⟩ := hS b _ hl
      cases h2
      have := hd _ hl _ rfl
      cases this
      exact ⟨_, by simp [ysOf, h1], .ty t l⟩
    · rename_i sz' r hl
      cases h
      obtain ⟨_, y, h1, h2⟩ := hS b _ hl
      cases h2 with
      | rows h2 h3 =>
        have := hd _ hl _ rfl
        cases this
        exact ⟨_, by simp [ysOf, h1, h2.length], .rows h2⟩
    · cases h
  · cases h

theorem x_len {str : Bool} {x : AO} (h : xval gl gd env σ N (.len str x) = some (c, v, σ')) : Snd N σ σ1 (.len str x) env1 (GdV env G gd) c v σ' := by
  simp only [xval] at h
  split at h
  · rename_i s hw
    cases h
    obtain ⟨p, v1, a1, a2, a3⟩ := xop_sound he hg hw
    have := a2.str_inv; subst this
    exact .neutral hS (.c (.t (U := U) ⟨.int .i64, _⟩)) fun hd _ => ⟨p, by simp only [aval, a1, Option.bind_some]; rfl, a3 hd⟩
  · rename_i w hw
    split at h
    · rename_i e hE
      obtain ⟨e, ob⟩ := e
      cases h
      obtain ⟨p, v1, a1, a2, a3⟩ := xop_sound he hg hw
      refine .neutral hS (.c (.t (U := U) ⟨.int .i64, _⟩)) fun hd _ => ⟨p, ?_, a3 hd⟩
      unfold xes at hE
      split at hE
      · rename_i t l
        cases hE
        have := a2.slice_inv; subst this
        simp only [aval, a1, Option.bind_some]
        exact len_eq
      · cases hE
        have := a2.cap0_inv; subst this
        simp only [aval, a1, Option.bind_some]; rfl
      · rename_i b
        obtain ⟨sz, n, rfl, hb, hd'⟩ := a2.arr_inv
        simp only [aval, a1, Option.bind_some]
        split at hE
        · rename_i t l hl
          cases hE
          have := hd' _ hl _ rfl
          cases this; rfl
        · rename_i sz' r hl
          cases hE
          have := hd' _ hl _ rfl
          cases this; rfl
        · cases hE
      · cases hE
    · cases h
  · cases h

omit he hg hS in
theorem room_iff {bytes n : Nat} : room bytes n = true ↔ (2 * n + 192) * bytes ≤ capBytes ∧ n ≤ sliceMax := by simp [room]

theorem x_append {sz bytes : Nat} {x y : AO} (h : xval gl gd env σ N (.append sz bytes x y) = some (c, v, σ')) : Snd N σ σ1 (.append sz bytes x y) env1 (GdV env G gd) c v σ' := by
  simp only [xval] at h
  split at h
  · rename_i w hx hy
    split at h
    · rename_i ye ob hye
      split at h
      · rename_i blk hblk
        cases h
        obtain ⟨p, v1, a1, a2, a3⟩ := xop_sound he hg hx
        obtain ⟨q, v2, b1, b2, b3⟩ := xop_sound he hg hy
        have := a2.cap0_inv; subst this
        obtain ⟨ys, c1, c2⟩ := xes_sound hS b2 hye
        have k : Keep N σ (N + 16) (pt σ N blk) := keep_new (by omega)
        obtain ⟨d1, d2, d3⟩ := c2.blk (N' := N + 16) (σ' := pt σ N blk) hblk
        refine .store rfl k (.c (.arr N sz ys.length (by omega) ?_)) fun hd hc => ⟨p ∧ q ∧ (∀ e, e ∈ ys → e.length = sz) ∧ (2 * ys.length + 192) * bytes ≤ capBytes ∧ ys.length ≤ sliceMax, _, by simp only [aval, a1, b1, Option.bind_some, c1], ⟨a3 hd, b3 hd, d2, ?_⟩, hS.put (by omega) k d1⟩
        · intro x hx r hr
          rw [lk_pt, if_pos rfl] at hx
          cases hx
          rw [d3] at hr; cases hr
          rw [c2.length]
        · rw [c2.length]; exact room_iff.1 hc
      · cases h
    · cases h
  · rename_i b w hx hy
    split at h
    · rename_i xe xb ye yb hxe hye
      split at h
      · cases h
      · rename_i hyb
        split at h
        · cases h
        · rename_i hxsz
          split at h
          · rename_i ze hze
            split at h
            · rename_i blk hblk
              cases h
              obtain ⟨p, v1, a1, a2, a3⟩ := xop_sound he hg hx
              obtain ⟨q, v2, b1, b2, b3⟩ := xop_sound he hg hy
              obtain ⟨sz', n', hv1, hb, hdd⟩ := a2.arr_inv
              subst hv1
              obtain ⟨ys, c1, c2⟩ := xes_sound hS b2 hye
              obtain ⟨xs, e1, e2⟩ := xes_sound hS a2 hxe
              have hz := e2.join c2 hze
              have k0 : Keep N (dl σ b) (N + 16) (pt (dl σ b) N blk) := keep_new (by omega)
              have k : Keep N σ (N + 16) (pt (dl σ b) N blk) := Keep.trans keep_del k0
              obtain ⟨d1, d2, d3⟩ := hz.blk (N' := N + 16) (σ' := pt (dl σ b) N blk) hblk
              -- the block
              obtain ⟨hs, hn⟩ : sget σ1 b = some (.arr sz' xs) ∧ n' = xs.length := by
                simp only [ysOf] at e1
                split at e1
                · rename_i sz'' ys' hg'
                  split at e1
                  · rename_i hcond; cases e1; obtain ⟨rfl, _, h3⟩ := hcond; exact ⟨hg', h3⟩
                  · cases e1
                · cases e1
              have hsz' : sz' = sz := by
                unfold xsz at hxsz
                split at hxsz
                · rename_i z hz
                  split at hxsz
                  · rename_i r hr
                    have := hdd _ hz _ hr
                    rw [this] at hxsz
                    exact beq_true hxsz
                  · cases hxsz
                · cases hxsz
              subst hsz'
              have hS2 : SR N (dl σ b) (sdel σ1 b) := by
                intro i z hz
                rw [lk_dl] at hz
                split at hz
                · cases hz
                · rename_i hbi
                  obtain ⟨h1, y, h2, h3⟩ := hS i z hz
                  exact ⟨h1, y, by rw [sget_sdel, if_neg hbi]; exact h2, h3.mono keep_del⟩
              have hyb' : yb ≠ some b := by
                intro e
                subst e
                simp [Nat.beq_refl] at hyb
              refine .store rfl k (.c (.arr N sz' (xs ++ ys).length (by omega) ?_)) fun hd hc => ⟨p ∧ q ∧ sz' = sz' ∧ sz' = sz' ∧ 0 = 0 ∧ n' = xs.length ∧ (∀ e, e ∈ ys → e.length = sz') ∧ (2 * (xs.length + ys.length) + 192) * bytes ≤ capBytes ∧ xs.length + ys.length ≤ sliceMax, _, ?_, ⟨a3 hd, b3 hd, rfl, rfl, rfl, hn, fun e he => d2 e (by simp [he]), ?_⟩, hS2.put (by omega) k0 d1⟩
              · intro x hx r hr
                rw [lk_pt, if_pos rfl] at hx
                cases hx
                rw [d3] at hr; cases hr
                rw [hz.length]
              · simp only [aval, a1, b1, Option.bind_some, c1, hs]
                rw [if_neg hyb', List.length_append, hn]
              · have := room_iff.1 hc
                rw [← hz.length, List.length_append] at this
                exact this
            · cases h
          · cases h
    · cases h
  · cases h

/-- every operation that calls nothing -/
theorem xval_sound {o : AOp} (h : xval gl gd env σ N o = some (c, v, σ')) : Snd N σ σ1 o env1 (GdV env G gd) c v σ' := by
  cases o with
  | mov x => exact x_mov he hg hS h
  | pick c x y => exact x_pick he hg hS h
  | alloc cs => exact x_alloc he hg hS h
  | box x => exact x_box he hg hS h
  | build z parts => exact x_build he hg hS h
  | bslice sz len z parts => exact x_bslice he hg hS h
  | load agg n x => exact x_load he hg hS h
  | store n x v => exact x_store he hg hS h
  | nilCheck x => exact x_nilCheck he hg hS h
  | bin op x y => exact x_bin he hg hS h
  | eqAgg neg ks x y => exact x_eqAgg he hg hS h
  | eqBool neg x y => exact x_eqBool he hg hS h
  | eqNil neg x => simp [xval] at h
  | not x => exact x_not he hg hS h
  | conv k x => exact x_conv he hg hS h
  | i2s x => exact x_i2s he hg hS h
  | s2s x => exact x_s2s he hg hS h
  | fldA off x => exact x_fldA he hg hS h
  | fld agg off n x => exact x_fld he hg hS h
  | idxA sz x i => exact x_idxA he hg hS h
  | idxS x i => exact x_idxS he hg hS h
  | slcS x lo hi => exact x_slcS he hg hS h
  | slc sz x lo hi => exact x_slc he hg hS h
  | slc0 x => exact x_slc0 he hg hS h
  | mkfn f caps => exact x_mkfn he hg hS h
  | ext x i => exact x_ext he hg hS h
  | len str x => exact x_len he hg hS h
  | append sz bytes x y => exact x_append he hg hS h
  | max2 x y => exact x_max2 he hg hS h
  | min2 x y => exact x_min2 he hg hS h
  | call f args => simp [xval] at h
  | callv x args => simp [xval] at h

end
end
end Go.Proofs.Ytkdepbmeaiefeaa.Shv
