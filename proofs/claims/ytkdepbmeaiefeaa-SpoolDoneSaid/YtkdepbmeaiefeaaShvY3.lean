/- Typed states over the abstract machine: what they stand for; the operations are sound. -/
import Derived.Test.YtkdepbmeaiefeaaShvY2
namespace Go.Proofs.Ytkdepbmeaiefeaa.Shv
set_option linter.all false
open Go

variable {U : Uni}

inductive CR (N : Nat) (σ : XSt U) : XC U → C → Prop
  | t (c : Cell U.D) : CR N σ (.t c) (.t (c.enc U))
  | ptr (b o : Nat) : CR N σ (.ptr b o) (.ptr b o)
  | eptr (b : Nat) (t : Ty) (i o : Nat) : CR N σ (.eptr b t i o) (.eptr b (t.sz U) i o)
  | iptr (t : Ty) (x : t.den U.D) (o : Nat) : CR N σ (.iptr t x o) (.iptr (t.enc U x) o)
  | arr (b sz n : Nat) (hb : b < N) (h : ∀ x, lk σ b = some x → ∀ p, x.dim = some p → p = (sz, n)) : CR N σ (.arr b) (.arr b sz 0 n)
  | cap0 : CR N σ .cap0 .cap0
  | nilp : CR N σ .nilp .nilp
  | nilfn : CR N σ .nilfn .nilfn
  | fn (f : Nat) (caps : List Nat) : CR N σ (.fn f caps) (.fn f caps)
  | dead (d : C) : CR N σ .dead d

inductive VR (N : Nat) (σ : XSt U) : XV U → V → Prop
  | c {x d} : CR N σ x d → VR N σ (.c x) (.c d)
  | agg {xs ds} : All2 (CR N σ) xs ds → VR N σ (.agg xs) (.agg ds)
  | tup (xs : List (XV U)) (ds : List V) (hl : xs.length = ds.length) (h : ∀ (i : Nat) x d, xs[i]? = some x → ds[i]? = some d → VR N σ x d) : VR N σ (.tup xs) (.tup ds)

inductive BR (N : Nat) (σ : XSt U) : XB U → Blk → Prop
  | box {cs ds} : All2 (CR N σ) cs ds → BR N σ (.box cs) (.box ds)
  | arr (t : Ty) (l : List (t.den U.D)) : BR N σ (.arr t l) (.arr (t.sz U) (l.map (t.enc U)))
  | rows {sz r es} : All2 (fun r e => xts r = some e) r es → (∀ x, x ∈ r → x.length = sz) → BR N σ (.rows sz r) (.arr sz es)

def SR (N : Nat) (σ : XSt U) (σ1 : Store) : Prop := ∀ b x, lk σ b = some x → b < N ∧ ∃ y, sget σ1 b = some y ∧ BR N σ x y

def ER (N : Nat) (σ : XSt U) (G : Nat → Bool) (env : XEnv U) (env1 : Env) : Prop := ∀ k v, lk env k = some v → ∃ v1, look env1 k = some (G k, v1) ∧ VR N σ v v1

structure HG (gl : GL) (env : XEnv U) (G : Nat → Bool) : Prop where
  free : ∀ k, lk gl k = none → G k = true
  held : ∀ k t b, lk gl k = some (t, b) → ∃ y, bval env t b = some y ∧ G k = (G t && y)

def Keep (N : Nat) (σ : XSt U) (N' : Nat) (σ' : XSt U) : Prop := N ≤ N' ∧ ∀ b x', b < N → lk σ' b = some x' → ∃ x, lk σ b = some x ∧ ∀ p, x'.dim = some p → x.dim = some p

theorem Keep.refl {N : Nat} {σ : XSt U} : Keep N σ N σ := ⟨Nat.le_refl _, fun _ x _ h => ⟨x, h, fun _ h => h⟩⟩
theorem Keep.more {N N' : Nat} {σ : XSt U} (h : N ≤ N') : Keep N σ N' σ := ⟨h, fun _ x _ h => ⟨x, h, fun _ h => h⟩⟩
theorem Keep.trans {N1 N2 N3 : Nat} {s1 s2 s3 : XSt U} (h : Keep N1 s1 N2 s2) (k : Keep N2 s2 N3 s3) : Keep N1 s1 N3 s3 :=
  ⟨Nat.le_trans h.1 k.1, fun b x hb hx => let ⟨y, h1, h2⟩ := k.2 b x (Nat.lt_of_lt_of_le hb h.1) hx; let ⟨z, h3, h4⟩ := h.2 b y hb h1; ⟨z, h3, fun p hp => h4 p (h2 p hp)⟩⟩

section
variable {N N' : Nat} {σ σ' : XSt U} {σ1 : Store} {env : XEnv U} {env1 : Env} {G : Nat → Bool} {gl : GL} {gd : Option (Nat × Bool)}

theorem CR.mono (k : Keep N σ N' σ') {x : XC U} {d : C} (h : CR N σ x d) : CR N' σ' x d := by
  cases h with
  | t c => exact .t c
  | ptr b o => exact .ptr b o
  | eptr b t i o => exact .eptr b t i o
  | iptr t x o => exact .iptr t x o
  | arr b sz n hb h =>
    refine .arr b sz n (Nat.lt_of_lt_of_le hb k.1) fun x hx p hp => ?_
    obtain ⟨y, h1, h2⟩ := k.2 b x hb hx
    exact h y h1 p (h2 p hp)
  | cap0 => exact .cap0
  | nilp => exact .nilp
  | nilfn => exact .nilfn
  | fn f caps => exact .fn f caps
  | dead d => exact .dead d

theorem VR.mono (k : Keep N σ N' σ') {x : XV U} {d : V} (h : VR N σ x d) : VR N' σ' x d := by
  induction h with
  | c h => exact .c (h.mono k)
  | agg h => exact .agg (h.imp fun _ _ _ => CR.mono k)
  | tup xs ds hl h ih => exact .tup xs ds hl ih

theorem BR.mono (k : Keep N σ N' σ') {x : XB U} {d : Blk} (h : BR N σ x d) : BR N' σ' x d := by
  cases h with
  | box h => exact .box (h.imp fun _ _ _ => CR.mono k)
  | arr t l => exact .arr t l
  | rows h h2 => exact .rows h h2

theorem ER.mono (k : Keep N σ N' σ') (h : ER N σ G env env1) : ER N' σ' G env env1 := fun i v hi => let ⟨v1, h1, h2⟩ := h i v hi; ⟨v1, h1, h2.mono k⟩

/-- a block changes, or comes -/
theorem SR.put (h : SR N σ σ1) {b : Nat} {x : XB U} {y : Blk} (hb : b < N') (k : Keep N σ N' (pt σ b x)) (hr : BR N' (pt σ b x) x y) : SR N' (pt σ b x) (sput σ1 b y) := by
  intro c z hz
  rw [lk_pt] at hz
  rw [sget_sput]
  by_cases hbc : b = c
  · subst hbc; rw [if_pos rfl] at hz ⊢; cases hz; exact ⟨hb, y, rfl, hr⟩
  · rw [if_neg hbc] at hz ⊢
    obtain ⟨h1, y', h2, h3⟩ := h c z hz
    exact ⟨Nat.lt_of_lt_of_le h1 k.1, y', h2, h3.mono k⟩

theorem keep_new {x : XB U} (h : N ≤ N') : Keep N σ N' (pt σ N x) := by
  refine ⟨h, fun b x' hb hx => ?_⟩
  rw [lk_pt, if_neg (by omega)] at hx
  exact ⟨x', hx, fun _ h => h⟩

theorem keep_put {b : Nat} {x x0 : XB U} (h : N ≤ N') (h0 : lk σ b = some x0) (hd : ∀ p, x.dim = some p → x0.dim = some p) : Keep N σ N' (pt σ b x) := by
  refine ⟨h, fun c x' hb hx => ?_⟩
  rw [lk_pt] at hx
  by_cases hbc : b = c
  · subst hbc; rw [if_pos rfl] at hx; cases hx; exact ⟨x0, h0, hd⟩
  · rw [if_neg hbc] at hx; exact ⟨x', hx, fun _ h => h⟩

theorem keep_del {b : Nat} : Keep N σ N (dl σ b) := by
  refine ⟨Nat.le_refl _, fun c x' hb hx => ?_⟩
  rw [lk_dl] at hx
  split at hx
  · cases hx
  · exact ⟨x', hx, fun _ h => h⟩

/-! constants -/

theorem xofC_sound {d : C} {x : XC U} (h : xofC d = some x) : CR N σ x d := by
  unfold xofC at h
  split at h <;> cases h
  · exact CR.t (U := U) ⟨.bool, _⟩
  · exact CR.t (U := U) ⟨.int _, _⟩
  · exact CR.t (U := U) ⟨.str, _⟩
  · exact .cap0
  · exact .nilp
  · exact .nilfn
  · exact .fn _ _

theorem xofCs_sound : ∀ {ds : List C} {xs : List (XC U)}, xofCs ds = some xs → All2 (CR N σ) xs ds
  | [], xs, h => by simp [xofCs] at h; subst h; exact .nil
  | d :: ds, xs, h => by
    simp only [xofCs] at h
    split at h
    · rename_i x ys h1 h2
      cases h
      exact .cons (xofC_sound h1) (xofCs_sound h2)
    · cases h

theorem xofV_sound {d : V} {x : XV U} (h : xofV d = some x) : VR N σ x d := by
  cases d with
  | c d =>
    simp only [xofV] at h
    split at h
    · rename_i y hy; cases h; exact .c (xofC_sound hy)
    · cases h
  | agg ds =>
    simp only [xofV] at h
    split at h
    · rename_i y hy; cases h; exact .agg (xofCs_sound hy)
    · cases h
  | tup _ => simp [xofV] at h

/-! guards -/

def GdV (env : XEnv U) (G : Nat → Bool) : Option (Nat × Bool) → Bool
  | none => true
  | some (t, b) => G t && (bval env t b).getD false

theorem HG.lk (hg : HG gl env G) (k : Nat) : GdV env G (lk gl k) = G k := by
  cases h : Shv.lk gl k with
  | none => exact (hg.free k h).symm
  | some g =>
    obtain ⟨t, b⟩ := g
    obtain ⟨y, h1, h2⟩ := hg.held k t b h
    simp [GdV, h1, h2]

theorem gval_sound (hg : HG gl env G) : ∀ {fu : Nat} {gd : Option (Nat × Bool)} {g : Bool}, gval gl env fu gd = some g → g = GdV env G gd
  | _, none, g, h => by unfold gval at h; simp at h; subst h; rfl
  | 0, some _, g, h => by simp [gval] at h
  | fu + 1, some (t, b), g, h => by
    simp only [gval] at h
    split at h
    · rename_i x y h1 h2
      cases h
      rw [gval_sound hg h1, hg.lk t]
      simp [GdV, h2]
    · cases h

theorem gval_def : ∀ {fu : Nat} {t : Nat} {b : Bool} {g : Bool}, gval gl env fu (some (t, b)) = some g → ∃ y, bval env t b = some y
  | 0, t, b, g, h => by simp [gval] at h
  | fu + 1, t, b, g, h => by
    simp only [gval] at h
    split at h
    · rename_i x y h1 h2; exact ⟨y, h2⟩
    · cases h

theorem bool_eta : ∀ (c : Cell U.D), c.ty = .bool → ∃ b, c = ⟨.bool, b⟩
  | ⟨.bool, b⟩, _ => ⟨b, rfl⟩

theorem VR.c_inv {x : XC U} {v1 : V} (h : VR N σ (.c x) v1) : ∃ d, v1 = .c d ∧ CR N σ x d := by cases h with | c h => exact ⟨_, rfl, h⟩
theorem VR.agg_inv {xs : List (XC U)} {v1 : V} (h : VR N σ (.agg xs) v1) : ∃ ds, v1 = .agg ds ∧ All2 (CR N σ) xs ds := by cases h with | agg h => exact ⟨_, rfl, h⟩
theorem VR.t_inv {c : Cell U.D} {v1 : V} (h : VR N σ (.c (.t c)) v1) : v1 = .c (.t (c.enc U)) := by
  obtain ⟨d, rfl, hh⟩ := h.c_inv; cases hh; rfl
theorem VR.bool_inv {b : Bool} {v1 : V} (h : VR N σ (.c (.t ⟨.bool, b⟩)) v1) : v1 = .c (.t (.bool b)) := h.t_inv
theorem VR.int_inv {k : IntKind} {m : Int} {v1 : V} (h : VR N σ (.c (.t ⟨.int k, m⟩)) v1) : v1 = .c (.t (.int k m)) := h.t_inv
theorem VR.str_inv {s : List UInt8} {v1 : V} (h : VR N σ (.c (.t ⟨.str, s⟩)) v1) : v1 = .c (.t (.str s)) := h.t_inv
theorem VR.slice_inv {t : Ty} {l : List (t.den U.D)} {v1 : V} (h : VR N σ (.c (.t ⟨.slice t, l⟩)) v1) : v1 = .c (.t (.slice (l.map (t.enc U)))) := h.t_inv
theorem VR.ptr_inv {b o : Nat} {v1 : V} (h : VR N σ (.c (.ptr b o)) v1) : v1 = .c (.ptr b o) := by
  obtain ⟨d, rfl, hh⟩ := h.c_inv; cases hh; rfl
theorem VR.eptr_inv {b i o : Nat} {t : Ty} {v1 : V} (h : VR N σ (.c (.eptr b t i o)) v1) : v1 = .c (.eptr b (t.sz U) i o) := by
  obtain ⟨d, rfl, hh⟩ := h.c_inv; cases hh; rfl
theorem VR.iptr_inv {o : Nat} {t : Ty} {x : t.den U.D} {v1 : V} (h : VR N σ (.c (.iptr t x o)) v1) : v1 = .c (.iptr (t.enc U x) o) := by
  obtain ⟨d, rfl, hh⟩ := h.c_inv; cases hh; rfl
theorem VR.cap0_inv {v1 : V} (h : VR N σ (.c .cap0) v1) : v1 = .c .cap0 := by
  obtain ⟨d, rfl, hh⟩ := h.c_inv; cases hh; rfl
theorem VR.arr_inv {b : Nat} {v1 : V} (h : VR N σ (.c (.arr b)) v1) : ∃ sz n, v1 = .c (.arr b sz 0 n) ∧ b < N ∧ ∀ x, Shv.lk σ b = some x → ∀ p, x.dim = some p → p = (sz, n) := by
  obtain ⟨d, rfl, hh⟩ := h.c_inv
  cases hh with
  | arr _ sz n hb h2 => exact ⟨_, _, rfl, hb, h2⟩
theorem VR.fn_inv {f : Nat} {caps : List Nat} {v1 : V} (h : VR N σ (.c (.fn f caps)) v1) : v1 = .c (.fn f caps) := by
  obtain ⟨d, rfl, hh⟩ := h.c_inv; cases hh; rfl

theorem bval_inv {t : Nat} {b y : Bool} (he : ER N σ G env env1) (h : bval env t b = some y) : ∃ x, look env1 t = some (G t, .c (.t (.bool x))) ∧ y = (x == b) := by
  unfold bval at h
  split at h
  · rename_i x hx
    cases h
    obtain ⟨v1, h1, h2⟩ := he t _ hx
    have := h2.bool_inv
    subst this
    exact ⟨x, h1, by cases b <;> cases x <;> rfl⟩
  · cases h

theorem aguard_of (he : ER N σ G env env1) (h : gd = none ∨ ∃ t b y, gd = some (t, b) ∧ bval env t b = some y) : aguard env1 gd = some (GdV env G gd) := by
  rcases h with rfl | ⟨t, b, y, rfl, h⟩
  · rfl
  · obtain ⟨x, h1, rfl⟩ := bval_inv he h
    simp [aguard, h1, GdV, h]

theorem subG_sound (hg : HG gl env G) : ∀ {fu : Nat} {gd : Option (Nat × Bool)} {k : Nat}, GdV env G gd = true → subG gl fu gd k = true → G k = true
  | 0, gd, k, _, h => by simp [subG] at h
  | fu + 1, gd, k, hd, h => by
    simp only [subG] at h
    split at h
    · rename_i hk; exact hg.free k hk
    · rename_i g' hk
      split at h
      · cases h
      · rename_i g
        obtain ⟨t, b⟩ := g
        obtain ⟨t', b'⟩ := g'
        simp only [Bool.or_eq_true, Bool.and_eq_true, beq_iff_eq] at h
        rcases h with ⟨h1, h2⟩ | h
        · have := beq_true h1; subst this; subst h2
          obtain ⟨y, k1, k2⟩ := hg.held k t b hk
          simp only [GdV, k1, Option.getD_some] at hd
          rw [k2, hd]
        · refine subG_sound hg (gd := Shv.lk gl t) ?_ h
          rw [hg.lk t]
          simp only [GdV, Bool.and_eq_true] at hd
          exact hd.1

theorem xop_sound (he : ER N σ G env env1) (hg : HG gl env G) {x : AO} {v : XV U} (h : xop gl gd env x = some v) :
    ∃ p v1, x.get env1 = some (p, v1) ∧ VR N σ v v1 ∧ (GdV env G gd = true → p) := by
  cases x with
  | const d => exact ⟨True, d, rfl, xofV_sound h, fun _ => trivial⟩
  | tmp k =>
    simp only [xop] at h
    split at h
    · rename_i hs
      obtain ⟨v1, h1, h2⟩ := he k v h
      exact ⟨_, v1, by simp [AO.get, h1], h2, fun hd => subG_sound hg hd hs⟩
    · cases h

theorem xpk_sound (he : ER N σ G env env1) (hg : HG gl env G) {c x : AO} {b y : Bool} {v vc : XV U} (hc : xop gl gd env c = some vc) (hcb : vc = .c (.t ⟨.bool, y⟩)) (h : xpk gl gd env c b x = some v) :
    ∃ p v1, x.get env1 = some (p, v1) ∧ VR N σ v v1 ∧ (GdV env G gd = true → y = b → p) := by
  cases x with
  | const d => exact ⟨True, d, rfl, xofV_sound h, fun _ _ => trivial⟩
  | tmp k =>
    simp only [xpk] at h
    split at h
    · rename_i hs
      obtain ⟨v1, h1, h2⟩ := he k v h
      exact ⟨_, v1, by simp [AO.get, h1], h2, fun hd _ => subG_sound hg hd hs⟩
    · split at h
      · rename_i kc t b' hk
        split at h
        · rename_i hb
          simp only [Bool.and_eq_true, beq_iff_eq] at hb
          obtain ⟨h1, rfl⟩ := hb
          have := beq_true h1; subst this
          obtain ⟨v1, h1, h2⟩ := he k v h
          refine ⟨G k = true, v1, by simp [AO.get, h1], h2, fun hd hy => ?_⟩
          simp only [xop] at hc
          split at hc
          · rename_i hs
            have hG := subG_sound hg hd hs
            obtain ⟨y', k1, k2⟩ := hg.held k t b' hk
            simp only [bval, hc, hcb] at k1
            rw [k2, hG]
            subst hy
            cases y <;> simp at k1 <;> simp [← k1]
          · cases hc
        · cases h
      · cases h

theorem xops_sound (he : ER N σ G env env1) (hg : HG gl env G) : ∀ {xs : List AO} {vs : List (XV U)}, xops' gl gd env xs = some vs →
    ∃ p vs1, gets env1 xs = some (p, vs1) ∧ All2 (VR N σ) vs vs1 ∧ (GdV env G gd = true → p)
  | [], vs, h => by simp [xops'] at h; subst h; exact ⟨True, [], rfl, .nil, fun _ => trivial⟩
  | x :: xs, vs, h => by
    simp only [xops'] at h
    split at h
    · rename_i v vs' h1 h2
      cases h
      obtain ⟨p, v1, a1, a2, a3⟩ := xop_sound he hg h1
      obtain ⟨q, vs1, b1, b2, b3⟩ := xops_sound he hg h2
      exact ⟨p ∧ q, v1 :: vs1, by simp [gets, a1, b1], .cons a2 b2, fun hd => ⟨a3 hd, b3 hd⟩⟩
    · cases h

theorem xcells_sound {v : XV U} {v1 : V} {cs : List (XC U)} (h : VR N σ v v1) (hc : xcells v = some cs) : ∃ ds, vcells v1 = some ds ∧ All2 (CR N σ) cs ds := by
  cases h with
  | c h => simp [xcells] at hc; subst hc; exact ⟨_, rfl, .cons h .nil⟩
  | agg h => simp [xcells] at hc; subst hc; exact ⟨_, rfl, h⟩
  | tup => simp [xcells] at hc

theorem xfill_sound {cs cs' : List (XC U)} {ds ds' : List C} {o : Nat} (h : All2 (CR N σ) cs ds) (h' : All2 (CR N σ) cs' ds') : All2 (CR N σ) (xfill cs o cs') (fillC ds o ds') := by
  unfold xfill fillC
  rw [h'.length]
  exact ((h.take o).append h').append (h.drop _)

theorem ble_true {a b : Nat} (h : Nat.ble a b = true) : a ≤ b := Nat.le_of_ble_eq_true h

theorem xbuild_sound (he : ER N σ G env env1) (hg : HG gl env G) : ∀ {ps : List (Nat × Nat × AO)} {cs cs' : List (XC U)} {ds : List C}, xbuild gl gd env cs ps = some cs' → All2 (CR N σ) cs ds →
    ∃ p ds', buildC env1 ds ps = some (p, ds') ∧ All2 (CR N σ) cs' ds' ∧ (GdV env G gd = true → p)
  | [], cs, cs', ds, h, hd => by simp [xbuild] at h; subst h; exact ⟨True, ds, rfl, hd, fun _ => trivial⟩
  | (o, n, x) :: r, cs, cs', ds, h, hd => by
    simp only [xbuild] at h
    split at h
    · cases h
    · rename_i v hv
      split at h
      · cases h
      · rename_i es hes
        split at h
        · rename_i hb
          simp only [Bool.and_eq_true] at hb
          have hb1 := beq_true hb.1
          have hb2 := ble_true hb.2
          obtain ⟨p, v1, a1, a2, a3⟩ := xop_sound he hg hv
          obtain ⟨fs, b1, b2⟩ := xcells_sound a2 hes
          obtain ⟨q, ds', c1, c2, c3⟩ := xbuild_sound he hg h (xfill_sound (o := o) hd b2)
          refine ⟨p ∧ q, ds', ?_, c2, fun hd => ⟨a3 hd, c3 hd⟩⟩
          simp only [buildC, a1, Option.bind_some, b1]
          rw [if_pos ⟨by rw [← b2.length]; exact hb1, by rw [← hd.length]; exact hb2⟩, c1]
          rfl
        · cases h

theorem toT_sound {x : XC U} {d : C} {t : T} (h : CR N σ x d) (ht : x.toT = some t) : Shv.toT d = some t := by
  cases h <;> simp only [XC.toT, reduceCtorEq, Option.some.injEq] at ht
  · split at ht
    · cases ht
    · cases ht; rfl
  · subst ht; rfl

theorem xts_sound : ∀ {cs : List (XC U)} {ds : List C} {ts : List T}, All2 (CR N σ) cs ds → xts cs = some ts → toTs ds = some ts
  | [], [], ts, _, h => by simp [xts] at h; subst h; rfl
  | c :: cs, d :: ds, ts, .cons h1 h2, h => by
    simp only [xts] at h
    split at h
    · rename_i t ts' ht hts
      cases h
      simp [toTs, toT_sound h1 ht, xts_sound h2 hts]
    · cases h

theorem xts_length : ∀ {cs : List (XC U)} {ts : List T}, xts cs = some ts → ts.length = cs.length
  | [], ts, h => by simp [xts] at h; subst h; rfl
  | c :: cs, ts, h => by
    simp only [xts] at h
    split at h
    · rename_i t ts' ht hts
      cases h
      simp [xts_length hts]
    · cases h

theorem All2.set {α β : Type} {R : α → β → Prop} {l : List α} {m : List β} (h : All2 R l m) {i : Nat} {a : α} {b : β} (hab : R a b) : All2 R (l.set i a) (m.set i b) := by
  induction h generalizing i with
  | nil => exact .nil
  | cons h1 h2 ih => cases i with
    | zero => exact .cons hab h2
    | succ i => exact .cons h1 ih

theorem xrowsP_sound (he : ER N σ G env env1) (hg : HG gl env G) {sz : Nat} : ∀ {ps : List (Nat × AO)} {rs rs' : List (List (XC U))} {es : List (List T)}, xrowsP gl gd env sz rs ps = some rs' →
    All2 (fun r e => xts r = some e) rs es → (∀ r, r ∈ rs → r.length = sz) → ∃ p es', buildS env1 sz es ps = some (p, es') ∧ All2 (fun r e => xts r = some e) rs' es' ∧ (∀ r, r ∈ rs' → r.length = sz) ∧ (GdV env G gd = true → p)
  | [], rs, rs', es, h, hr, hl => by simp [xrowsP] at h; subst h; exact ⟨True, es, rfl, hr, hl, fun _ => trivial⟩
  | (i, x) :: ps, rs, rs', es, h, hr, hl => by
    simp only [xrowsP] at h
    split at h
    · cases h
    · rename_i v hv
      split at h
      · cases h
      · rename_i cs hcs
        split at h
        · cases h
        · rename_i ts hts
          split at h
          · rename_i hb
            simp only [Bool.and_eq_true] at hb
            have hb1 := beq_true hb.1
            have hb2 := ble_true hb.2
            obtain ⟨p, v1, a1, a2, a3⟩ := xop_sound he hg hv
            obtain ⟨ds, b1, b2⟩ := xcells_sound a2 hcs
            obtain ⟨q, es', c1, c2, c4, c3⟩ := xrowsP_sound he hg h (All2.set hr hts) (by
              intro r hr'
              rcases List.mem_or_eq_of_mem_set hr' with h | h
              · exact hl r h
              · rw [h]; exact hb1)
            refine ⟨p ∧ q, es', ?_, c2, c4, fun hd => ⟨a3 hd, c3 hd⟩⟩
            simp only [buildS, a1, Option.bind_some, b1, xts_sound b2 hts]
            rw [if_pos ⟨by rw [xts_length hts]; exact hb1, by rw [← hr.length]; omega⟩, c1]
            rfl
          · cases h

end
end Go.Proofs.Ytkdepbmeaiefeaa.Shv
