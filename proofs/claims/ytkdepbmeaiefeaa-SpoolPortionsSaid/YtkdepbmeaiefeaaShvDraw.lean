/- The abstract machine, part 17: regions that draw their order. -/
import Derived.Test.YtkdepbmeaiefeaaShvCon3
import Derived.Orders
namespace Go.Proofs.Ytkdepbmeaiefeaa.Shv
set_option linter.all false
open Go

section
variable {P : Program} {Γ : Ctx} {nt kk : Nat} {φ : Phi} {S : Stab} {env env' : Env} {σ σ' σ1 : Store} {N key : Nat} {n : Nat → Bool} {a : Act} {w : World}

theorem get_congr {x : AO} (h : ∀ t, t ∈ x.tmps → look env' t = look env t) : x.get env' = x.get env := by
  cases x with
  | const v => rfl
  | tmp t => simp only [AO.get]; rw [h t (by simp [AO.tmps])]

theorem gets_congr {xs : List AO} (h : ∀ t, t ∈ xs.flatMap AO.tmps → look env' t = look env t) : gets env' xs = gets env xs := by
  induction xs with
  | nil => rfl
  | cons x xs ih =>
    simp only [gets]
    rw [get_congr (fun t ht => h t (by simp [ht])), ih (fun t ht => h t (by simp only [List.flatMap_cons, List.mem_append]; exact .inr ht))]

theorem getO_congr {x : Option AO} (h : ∀ t, t ∈ oTmps x → look env' t = look env t) : getO env' x = getO env x := by
  cases x with
  | none => rfl
  | some x => simp only [getO]; rw [get_congr h]

theorem buildC_congr : ∀ {ps : List (Nat × Nat × AO)} {cs : List C}, (∀ t, t ∈ (ps.flatMap fun p => p.2.2.tmps) → look env' t = look env t) → buildC env' cs ps = buildC env cs ps
  | [], cs, h => rfl
  | (o, k, x) :: r, cs, h => by
    simp only [buildC]
    rw [get_congr (fun t ht => h t (by simp [ht]))]
    congr 1; funext a; congr 1; funext c
    split
    · rw [buildC_congr (fun t ht => h t (by simp only [List.flatMap_cons, List.mem_append]; exact .inr ht))]
    · rfl

theorem buildS_congr {sz : Nat} : ∀ {ps : List (Nat × AO)} {es : List (List T)}, (∀ t, t ∈ (ps.flatMap fun p => p.2.tmps) → look env' t = look env t) → buildS env' sz es ps = buildS env sz es ps
  | [], cs, h => rfl
  | (i, x) :: r, es, h => by
    simp only [buildS]
    rw [get_congr (fun t ht => h t (by simp [ht]))]
    congr 1; funext a; congr 1; funext c; congr 1; funext ts
    split
    · rw [buildS_congr (fun t ht => h t (by simp only [List.flatMap_cons, List.mem_append]; exact .inr ht))]
    · rfl

theorem aval_env {o : AOp} (h : ∀ t, t ∈ o.reads → look env' t = look env t) : aval o env' σ key = aval o env σ key := by
  cases o <;> simp only [AOp.reads, List.mem_append] at h
  case mov x => simp only [aval]; rw [get_congr h]
  case pick c x y => simp only [aval]; rw [get_congr fun t ht => h t (.inl (.inl ht)), get_congr fun t ht => h t (.inl (.inr ht)), get_congr fun t ht => h t (.inr ht)]
  case alloc => rfl
  case box x => simp only [aval]; rw [get_congr h]
  case build z ps => simp only [aval]; rw [buildC_congr h]
  case bslice sz len z ps => simp only [aval]; congr 1; funext zt; rw [buildS_congr h]
  case load g k x => simp only [aval]; rw [get_congr h]
  case store k x v => simp only [aval]; rw [get_congr fun t ht => h t (.inl ht), get_congr fun t ht => h t (.inr ht)]
  case nilCheck x => simp only [aval]; rw [get_congr h]
  case bin op x y => simp only [aval]; rw [get_congr fun t ht => h t (.inl ht), get_congr fun t ht => h t (.inr ht)]
  case eqAgg op ks x y => simp only [aval]; rw [get_congr fun t ht => h t (.inl ht), get_congr fun t ht => h t (.inr ht)]
  case eqBool op x y => simp only [aval]; rw [get_congr fun t ht => h t (.inl ht), get_congr fun t ht => h t (.inr ht)]
  case eqNil => rfl
  case not x => simp only [aval]; rw [get_congr h]
  case conv k x => simp only [aval]; rw [get_congr h]
  case i2s x => simp only [aval]; rw [get_congr h]
  case s2s x => simp only [aval]; rw [get_congr h]
  case fldA k x => simp only [aval]; rw [get_congr h]
  case fld g k m x => simp only [aval]; rw [get_congr h]
  case idxA op x y => simp only [aval]; rw [get_congr fun t ht => h t (.inl ht), get_congr fun t ht => h t (.inr ht)]
  case idxS x y => simp only [aval]; rw [get_congr fun t ht => h t (.inl ht), get_congr fun t ht => h t (.inr ht)]
  case slcS x l i => simp only [aval]; rw [get_congr fun t ht => h t (.inl (.inl ht)), getO_congr fun t ht => h t (.inl (.inr ht)), getO_congr fun t ht => h t (.inr ht)]
  case slc k x l i => simp only [aval]; rw [get_congr fun t ht => h t (.inl (.inl ht)), getO_congr fun t ht => h t (.inl (.inr ht)), getO_congr fun t ht => h t (.inr ht)]
  case slc0 x => simp only [aval]; rw [get_congr h]
  case mkfn f xs => simp only [aval]; rw [gets_congr h]
  case ext x i => simp only [aval]; rw [get_congr h]
  case len s x => simp only [aval]; rw [get_congr h]
  case append sz by' x y => simp only [aval]; rw [get_congr fun t ht => h t (.inl ht), get_congr fun t ht => h t (.inr ht)]
  case max2 x y => simp only [aval]; rw [get_congr fun t ht => h t (.inl ht), get_congr fun t ht => h t (.inr ht)]
  case min2 x y => simp only [aval]; rw [get_congr fun t ht => h t (.inl ht), get_congr fun t ht => h t (.inr ht)]
  case call => rfl
  case callv => rfl

/-- the block of an address or an array -/
def blkOf (env : Env) (x : AO) : List Nat :=
  match x.get env with
  | some (_, .c (.ptr b _)) => [b]
  | some (_, .c (.eptr b _ _ _)) => [b]
  | some (_, .c (.arr b _ _ _)) => [b]
  | _ => []

/-- the blocks that an operation looks into or writes -/
def tch (o : AOp) (env : Env) (key : Nat) : List Nat :=
  match o with
  | .alloc _ | .box _ | .bslice .. => [key]
  | .load _ _ x => blkOf env x
  | .store _ x _ => blkOf env x
  | .append _ _ x y => key :: (blkOf env x ++ blkOf env y)
  | _ => []

/-- does it write the block? -/
def wrB (o : AOp) (env : Env) (key b : Nat) : Bool :=
  match o with
  | .alloc _ | .box _ | .bslice .. => b == key
  | .store _ x _ => (blkOf env x).contains b
  | .append _ _ x _ => b == key || (blkOf env x).contains b
  | .call .. => decide (key ≤ b) && decide (b < key + 16)
  | _ => false

theorem aval_neutral {o : AOp} (hn : o.neutral = true) (ht : o.touches = false) {p v σ1} (ha : aval o env σ key = some (p, v, σ1)) : aval o env σ' key = some (p, v, σ') := by
  cases o <;> simp only [AOp.neutral, AOp.touches, reduceCtorEq, Bool.false_eq_true] at hn ht <;> simp only [aval, Option.bind_eq_some_iff, Option.map_eq_some_iff, Prod.mk.injEq] at ha ⊢
  all_goals
    (try (obtain ⟨a1, h1, ha⟩ := ha; refine ⟨a1, h1, ?_⟩))
    (try (obtain ⟨a2, h2, ha⟩ := ha; refine ⟨a2, h2, ?_⟩))
    (try (obtain ⟨a3, h3, ha⟩ := ha; refine ⟨a3, h3, ?_⟩))
    (try dsimp only at ha ⊢)
    (try split at ha)
    (try (simp_all; done))
  all_goals first
    | (cases ha; rfl)
    | (cases ha; done)
    | (simp only [Option.map_eq_some_iff, Prod.mk.injEq] at ha ⊢; obtain ⟨x, h1, h2, h3, _⟩ := ha; exact ⟨x, h1, h2, h3, rfl⟩)
    | (simp only [Option.map_eq_some_iff] at ha ⊢; obtain ⟨x, h1, h2⟩ := ha; simp only [Prod.mk.injEq] at h2 ⊢; exact ⟨x, h1, h2.1, h2.2.1, trivial⟩)
    | (simp only [Option.ite_none_right_eq_some, Option.some.injEq, Prod.mk.injEq] at ha ⊢; exact ⟨ha.1, ha.2.1, ha.2.2.1, trivial⟩)


theorem blkOf_ptr {x : AO} {p : Prop} {b o : Nat} (h : x.get env = some (p, .c (.ptr b o))) : blkOf env x = [b] := by simp [blkOf, h]
theorem blkOf_eptr {x : AO} {p : Prop} {b sz i o : Nat} (h : x.get env = some (p, .c (.eptr b sz i o))) : blkOf env x = [b] := by simp [blkOf, h]
theorem blkOf_arr {x : AO} {p : Prop} {b sz i o : Nat} (h : x.get env = some (p, .c (.arr b sz i o))) : blkOf env x = [b] := by simp [blkOf, h]

/-- what an operation does to the store, it does by the blocks that it touches alone -/
theorem aval_local {o : AOp} {p v} (ha : aval o env σ key = some (p, v, σ1)) (ht : ∀ b, b ∈ tch o env key → sget σ' b = sget σ b) :
    (∃ σ1', aval o env σ' key = some (p, v, σ1') ∧ ∀ b, sget σ1' b = if wrB o env key b then sget σ1 b else sget σ' b) ∧ ∀ b, wrB o env key b = false → sget σ1 b = sget σ b := by
  by_cases hnt : o.neutral = true ∧ o.touches = false
  · have hw : ∀ b, wrB o env key b = false := by
      intro b; cases o <;> simp only [AOp.neutral, AOp.touches, reduceCtorEq, Bool.false_eq_true, false_and, and_false, and_self] at hnt <;> rfl
    have := neutral_store hnt.1 ha
    subst this
    exact ⟨⟨σ', aval_neutral hnt.1 hnt.2 ha, fun b => by rw [hw b]; rfl⟩, fun b _ => rfl⟩
  · cases o <;> simp only [AOp.neutral, AOp.touches, reduceCtorEq, Bool.false_eq_true, false_and, and_false, and_self, not_true, not_false_eq_true] at hnt
    case alloc cs =>
      simp only [aval, Option.some.injEq, Prod.mk.injEq] at ha ⊢
      obtain ⟨rfl, rfl, rfl⟩ := ha
      refine ⟨⟨_, ⟨rfl, rfl, rfl⟩, fun b => ?_⟩, fun b hb => ?_⟩
      · simp only [sget_sput, wrB, beq_iff_eq]
        by_cases h : b = key
        · subst h; simp
        · rw [if_neg (Ne.symm h), if_neg h]
      · simp only [wrB, beq_eq_false_iff_ne] at hb
        rw [sget_sput, if_neg (Ne.symm hb)]
    case box x =>
      simp only [aval, Option.bind_eq_some_iff, Option.map_eq_some_iff, Prod.mk.injEq] at ha ⊢
      obtain ⟨x1, h1, cs, h2, rfl, rfl, rfl⟩ := ha
      refine ⟨⟨_, ⟨x1, h1, cs, h2, rfl, rfl, rfl⟩, fun b => ?_⟩, fun b hb => ?_⟩
      · simp only [sget_sput, wrB, beq_iff_eq]
        by_cases h : b = key
        · subst h; simp
        · rw [if_neg (Ne.symm h), if_neg h]
      · simp only [wrB, beq_eq_false_iff_ne] at hb
        rw [sget_sput, if_neg (Ne.symm hb)]
    case bslice sz len z ps =>
      simp only [aval, Option.bind_eq_some_iff, Option.map_eq_some_iff, Prod.mk.injEq] at ha ⊢
      obtain ⟨x1, h1, cs, h2, rfl, rfl, rfl⟩ := ha
      refine ⟨⟨_, ⟨x1, h1, cs, h2, rfl, rfl, rfl⟩, fun b => ?_⟩, fun b hb => ?_⟩
      · simp only [sget_sput, wrB, beq_iff_eq]
        by_cases h : b = key
        · subst h; simp
        · rw [if_neg (Ne.symm h), if_neg h]
      · simp only [wrB, beq_eq_false_iff_ne] at hb
        rw [sget_sput, if_neg (Ne.symm hb)]
    case load g k x =>
      have := neutral_store rfl ha
      subst this
      refine ⟨⟨σ', ?_, fun b => rfl⟩, fun b _ => rfl⟩
      simp only [aval, Option.bind_eq_some_iff] at ha ⊢
      obtain ⟨⟨p0, v0⟩, h1, ha⟩ := ha
      refine ⟨(p0, v0), h1, ?_⟩
      dsimp only at ha ⊢
      split at ha
      · rename_i b o
        rw [ht b (by simp [tch, blkOf_ptr h1])]
        split at ha
        · rename_i cs hcs
          simp only [Option.map_eq_some_iff] at ha ⊢
          obtain ⟨x, h2, h3⟩ := ha
          simp only [Prod.mk.injEq] at h3 ⊢
          exact ⟨x, h2, h3.1, h3.2.1, trivial⟩
        · cases ha
      · rename_i b sz i o
        rw [ht b (by simp [tch, blkOf_eptr h1])]
        split at ha
        · simp only [Option.map_eq_some_iff] at ha ⊢
          obtain ⟨x, h2, h3⟩ := ha
          simp only [Prod.mk.injEq] at h3 ⊢
          exact ⟨x, h2, h3.1, h3.2.1, trivial⟩
        · cases ha
      · simp only [Option.map_eq_some_iff] at ha ⊢
        obtain ⟨x, h2, h3⟩ := ha
        simp only [Prod.mk.injEq] at h3 ⊢
        exact ⟨x, h2, h3.1, h3.2.1, trivial⟩
      · cases ha
    case store k x y =>
      simp only [aval, Option.bind_eq_some_iff, Option.ite_none_right_eq_some] at ha ⊢
      obtain ⟨⟨p0, v0⟩, h1, d, h2, cs, h3, h4, ha⟩ := ha
      have fin : ∀ (b : Nat) (x0 : Blk), blkOf env x = [b] → σ1 = sput σ b x0 → (∀ c, sget (sput σ' b x0) c = if wrB (.store k x y) env key c then sget σ1 c else sget σ' c) ∧ ∀ c, wrB (.store k x y) env key c = false → sget σ1 c = sget σ c := by
        intro b x0 hb hs
        subst hs
        refine ⟨fun c => ?_, fun c hc => ?_⟩
        · simp only [wrB, hb, List.contains_cons, List.contains_nil, Bool.or_false, beq_iff_eq, sget_sput]
          by_cases h : c = b
          · subst h; simp
          · rw [if_neg (Ne.symm h), if_neg h]
        · simp only [wrB, hb, List.contains_cons, List.contains_nil, Bool.or_false, beq_eq_false_iff_ne] at hc
          rw [sget_sput, if_neg (Ne.symm hc)]
      dsimp only at ha ⊢
      split at ha
      · rename_i b o
        have hb := blkOf_ptr h1
        split at ha
        · rename_i ds hds
          simp only [Option.ite_none_right_eq_some, Option.some.injEq, Prod.mk.injEq] at ha
          obtain ⟨h5, rfl, rfl, h6⟩ := ha
          obtain ⟨f1, f2⟩ := fin b _ hb h6.symm
          refine ⟨⟨_, ⟨(p0, .c (.ptr b o)), h1, d, h2, cs, h3, h4, ?_⟩, f1⟩, f2⟩
          dsimp only
          rw [ht b (by simp [tch, hb]), hds]
          dsimp only
          rw [if_pos h5]
        · cases ha
      · rename_i b sz i o
        have hb := blkOf_eptr h1
        split at ha
        · rename_i sz' es hes
          simp only [Option.bind_eq_some_iff, Option.some.injEq, Prod.mk.injEq] at ha
          obtain ⟨ts, h5, rfl, rfl, h6⟩ := ha
          obtain ⟨f1, f2⟩ := fin b _ hb h6.symm
          refine ⟨⟨_, ⟨(p0, .c (.eptr b sz i o)), h1, d, h2, cs, h3, h4, ?_⟩, f1⟩, f2⟩
          dsimp only
          rw [ht b (by simp [tch, hb]), hes]
          dsimp only
          rw [h5]
          rfl
        · cases ha
      · cases ha
    case append sz by' x y =>
      simp only [aval, Option.bind_eq_some_iff] at ha ⊢
      obtain ⟨⟨p0, v0⟩, h1, ⟨d1, d2⟩, h2, ys, h3, ha⟩ := ha
      have hys : ysOf σ' d2 = some ys := by
        unfold ysOf at h3 ⊢
        dsimp only at h3
        split at h3
        · exact h3
        · exact h3
        · rename_i b sz' off len
          rw [ht b (by simp [tch, blkOf_arr h2])]
          exact h3
        · cases h3
      dsimp only at ha ⊢
      split at ha
      · have hbx : blkOf env x = [] := by simp [blkOf, h1]
        simp only [Option.some.injEq, Prod.mk.injEq] at ha
        obtain ⟨rfl, rfl, rfl⟩ := ha
        refine ⟨⟨_, ⟨(p0, .c .cap0), h1, (d1, d2), h2, ys, hys, rfl⟩, fun b => ?_⟩, fun b hb => ?_⟩
        · simp only [sget_sput, wrB, hbx, List.contains_nil, Bool.or_false, beq_iff_eq]
          by_cases h : b = key
          · subst h; simp
          · rw [if_neg (Ne.symm h), if_neg h]
        · simp only [wrB, hbx, List.contains_nil, Bool.or_false, beq_eq_false_iff_ne] at hb
          rw [sget_sput, if_neg (Ne.symm hb)]
      · rename_i b sz' off len
        have hbx := blkOf_arr h1
        split at ha
        · rename_i sz'' es hes
          split at ha
          · cases ha
          · rename_i hnb
            simp only [Option.some.injEq, Prod.mk.injEq] at ha
            obtain ⟨rfl, rfl, rfl⟩ := ha
            refine ⟨⟨_, ⟨(p0, .c (.arr b sz' off len)), h1, (d1, d2), h2, ys, hys, by
              dsimp only
              rw [ht b (by simp [tch, hbx]), hes]
              dsimp only
              rw [if_neg hnb]⟩, fun c => ?_⟩, fun c hc => ?_⟩
            · simp only [sget_sput, sget_sdel, wrB, hbx, List.contains_cons, List.contains_nil, Bool.or_false, Bool.or_eq_true, beq_iff_eq]
              by_cases h : c = key
              · subst h; simp
              · rw [if_neg (Ne.symm h)]
                by_cases h' : c = b
                · subst h'; simp [h, Ne.symm h]
                · rw [if_neg (Ne.symm h'), if_neg (by simp [h, h'])]
            · simp only [wrB, hbx, List.contains_cons, List.contains_nil, Bool.or_false, Bool.or_eq_false_iff, beq_eq_false_iff_ne] at hc
              rw [sget_sput, sget_sdel, if_neg (Ne.symm hc.1), if_neg (Ne.symm hc.2)]
        · cases ha
      · cases ha
    all_goals simp [aval] at ha


/-- an operation of a region that draws, in the text's order: what it yields -/
inductive DStep (P : Program) (o : AOper) (key : Nat) (env : Env) (σ : Store) (g : Bool) (v : V) : Store → Prop
  | op {p : Prop} {σ2 : Store} (hg : aguard env o.guard = some g) (hd : o.op.drawn = true) (ha : aval o.op env σ key = some (p, v, σ2)) (hp : g = true → p) (hne : o.op.neutral = true ∨ g = true) :
      DStep P o key env σ g v (if o.op.neutral then σ else σ2)
  | skip (hg : aguard env o.guard = some g) (hf : g = false) : DStep P o key env σ g v σ
  | call {p : Prop} {f : Nat} {args : List AO} {vs : List V} (ho : o.op = .call f args) (hg : aguard env o.guard = some g) (ha : gets env args = some (p, vs)) (hp : g = true → p ∧ V.bnd.V.bnds (lt 0) vs = true ∧ v.bnd (lt 0) = true ∧ Con P f vs [] 0 (fun r' _ _ => r' = v)) :
      DStep P o key env σ g v σ
  | own {p : Prop} {f : Nat} {args : List AO} {vs : List V} {r : V} {s : Store} {M : Nat} (ho : o.op = .call f args) (hg : aguard env o.guard = some g) (hn : o.guard = none) (ha : gets env args = some (p, vs)) (hp : p) (hb : V.bnd.V.bnds (lt 0) vs = true) (hM : M ≤ 16) (hk : s.all (fun x => x.1 < 16) = true)
      (hc : Con P f vs [] 0 (fun r' s' M' => r' = r ∧ s' = s ∧ M' = M)) (hv : v = r.sh key) : DStep P o key env σ g v (adopt σ key s)

theorem drawn_cases {o : AOp} (h : o.drawn = true) : (∀ x l, o ≠ .callv x l) ∧ ∀ b x, o ≠ .eqNil b x := by
  cases o <;> simp [AOp.drawn] at h ⊢

theorem DStep.astep {o : AOper} {g : Bool} {v : V} (h : DStep P o key env σ g v σ1) {K : Env → Store → Prop} (hK : K (bindDst env o.dst g v) σ1) : astep P o key env σ K := by
  cases h with
  | @op p σ2 hg hd ha hp hne =>
    have hc := drawn_cases hd
    unfold Shv.astep
    rw [hg]
    dsimp only
    refine .inr ?_
    split
    · rename_i f args ho; rw [ho] at ha; simp [aval] at ha
    · rename_i x args ho; exact absurd ho (hc.1 _ _)
    · rename_i neg x ho; exact absurd ho (hc.2 _ _)
    · rw [ha]; exact ⟨hp, hne, hK⟩
  | skip hg hf =>
    unfold Shv.astep
    rw [hg]
    dsimp only
    exact .inl ⟨hf, v, hK⟩
  | @call p f args vs ho hg ha hp =>
    unfold Shv.astep
    rw [hg]
    dsimp only
    refine .inr ?_
    rw [ho]
    dsimp only
    rw [ha]
    dsimp only
    split
    · rename_i hgn
      rw [hgn] at hg
      simp [aguard] at hg
      subst hg
      obtain ⟨h1, h2, h3, h4⟩ := hp rfl
      exact ⟨h1, ACall.of_pure h4 h2 h3 hK⟩
    · refine ⟨v, fun hgt => ?_, hK⟩
      obtain ⟨h1, h2, h3, h4⟩ := hp hgt
      exact ⟨h1, ACall.of_pure h4 h2 h3 ⟨rfl, rfl⟩⟩
  | @own p f args vs r s M ho hg hn ha hp hb hM hk hc hv =>
    unfold Shv.astep
    rw [hg]
    dsimp only
    refine .inr ?_
    rw [ho]
    dsimp only
    rw [ha]
    dsimp only
    rw [hn]
    dsimp only
    rw [hn] at hg
    simp [aguard] at hg
    subst hg
    subst hv
    refine ⟨hp, ACall.of_own hc hb ?_⟩
    rintro r' s' M' ⟨rfl, rfl, rfl⟩
    exact ⟨hM, hK⟩

theorem rd_reads {o : AOper} {t : Nat} (h : t ∈ o.op.reads) : t ∈ o.rd := by simp [AOper.rd, h]

theorem aguard_congr {o : AOper} (h : ∀ t, t ∈ o.rd → look env' t = look env t) : aguard env' o.guard = aguard env o.guard := by
  cases hg : o.guard with
  | none => rfl
  | some x =>
    obtain ⟨t, b⟩ := x
    simp only [aguard]
    rw [h t (by simp [AOper.rd, hg])]

theorem sget_adopt_range {s : Store} (hk : s.all (fun x => x.1 < 16) = true) {b : Nat} (hb : ¬ (key ≤ b ∧ b < key + 16)) (σ : Store) : sget (adopt σ key s) b = sget σ b := by
  rw [sget_adopt]
  by_cases h : key ≤ b
  · rw [if_pos h]
    have : sget s (b - key) = none := by
      cases hs : sget s (b - key) with
      | none => rfl
      | some x =>
        exfalso
        have : ∀ {s : Store} {c : Nat} {x : Blk}, sget s c = some x → s.all (fun x => x.1 < 16) = true → c < 16 := by
          intro s
          induction s with
          | nil => intro c x h; simp [sget] at h
          | cons y r ih =>
            obtain ⟨k, y⟩ := y
            intro c x h hall
            simp only [List.all_cons, Bool.and_eq_true, decide_eq_true_eq] at hall
            simp only [sget] at h
            split at h
            · rename_i e; omega
            · exact ih h hall.2
        have := this hs hk
        omega
    rw [this]
  · rw [if_neg h]

theorem blkOf_congr {x : AO} (h : ∀ t, t ∈ x.tmps → look env' t = look env t) : blkOf env' x = blkOf env x := by
  unfold blkOf; rw [get_congr h]

theorem wrB_congr {o : AOp} (h : ∀ t, t ∈ o.reads → look env' t = look env t) (b : Nat) : wrB o env' key b = wrB o env key b := by
  cases o <;> try rfl
  case store k x v => simp only [wrB]; rw [blkOf_congr fun t ht => h t (by simp [AOp.reads, ht])]
  case append sz by' x y => simp only [wrB]; rw [blkOf_congr fun t ht => h t (by simp [AOp.reads, ht])]

theorem tch_congr {o : AOp} (h : ∀ t, t ∈ o.reads → look env' t = look env t) : tch o env' key = tch o env key := by
  cases o <;> try rfl
  case load g k x => simp only [tch]; rw [blkOf_congr fun t ht => h t (by simp [AOp.reads, ht])]
  case store k x v => simp only [tch]; rw [blkOf_congr fun t ht => h t (by simp [AOp.reads, ht])]
  case append sz by' x y => simp only [tch]; rw [blkOf_congr (x := x) fun t ht => h t (by simp [AOp.reads, ht]), blkOf_congr (x := y) fun t ht => h t (by simp [AOp.reads, ht])]

/-- the same operation from another state that agrees where it looks -/
theorem DStep.local {o : AOper} {g : Bool} {v : V} (h : DStep P o key env σ g v σ1) (he : ∀ t, t ∈ o.rd → look env' t = look env t) (ht : ∀ b, b ∈ tch o.op env key ∨ wrB o.op env key b = true → sget σ' b = sget σ b) :
    (∃ σ1', DStep P o key env' σ' g v σ1' ∧ ∀ b, sget σ1' b = if wrB o.op env key b then sget σ1 b else sget σ' b) ∧ ∀ b, wrB o.op env key b = false → sget σ1 b = sget σ b := by
  have her : ∀ t, t ∈ o.op.reads → look env' t = look env t := fun t h => he t (rd_reads h)
  cases h with
  | @op p σ2 hg hd ha hp hne =>
    obtain ⟨⟨σ1', h1, h2⟩, h3⟩ := aval_local (σ' := σ') ha (fun b hb => ht b (.inl hb))
    have hn : o.op.neutral = true → ∀ b, wrB o.op env key b = false := by
      intro hn b; generalize o.op = oo at hn; cases oo <;> simp [AOp.neutral] at hn <;> rfl
    refine ⟨⟨_, DStep.op (σ2 := σ1') (p := p) (by rw [aguard_congr he]; exact hg) hd (by rw [aval_env her]; exact h1) hp hne, fun b => ?_⟩, fun b hb => ?_⟩
    · by_cases hneu : o.op.neutral = true
      · rw [if_pos hneu, hn hneu b]; rfl
      · rw [if_neg hneu, if_neg hneu]; exact h2 b
    · by_cases hneu : o.op.neutral = true
      · rw [if_pos hneu]
      · rw [if_neg hneu]; exact h3 b hb
  | skip hg hf =>
    refine ⟨⟨σ', DStep.skip (by rw [aguard_congr he]; exact hg) hf, fun b => ?_⟩, fun b _ => rfl⟩
    split
    · rename_i hw; exact ht b (.inr hw)
    · rfl
  | @call p f args vs ho hg ha hp =>
    refine ⟨⟨σ', DStep.call ho (by rw [aguard_congr he]; exact hg) (by rw [gets_congr fun t h => her t (by rw [ho]; exact h)]; exact ha) hp, fun b => ?_⟩, fun b _ => rfl⟩
    split
    · rename_i hw; exact ht b (.inr hw)
    · rfl
  | @own p f args vs r s M ho hg hn ha hp hb hM hk hc hv =>
    refine ⟨⟨_, DStep.own ho (by rw [aguard_congr he]; exact hg) hn (by rw [gets_congr fun t h => her t (by rw [ho]; exact h)]; exact ha) hp hb hM hk hc hv, fun b => ?_⟩, fun b hb' => ?_⟩
    · by_cases hr : key ≤ b ∧ b < key + 16
      · have hw : wrB o.op env key b = true := by rw [ho]; simp [wrB, hr.1, hr.2]
        rw [if_pos hw]
        have e := ht b (.inr hw)
        rw [sget_adopt, sget_adopt, e]
      · have hw : wrB o.op env key b = false := by rw [ho]; simp only [wrB, Bool.and_eq_false_iff, decide_eq_false_iff_not]; omega
        rw [hw, sget_adopt_range hk hr]; rfl
    · have hr : ¬ (key ≤ b ∧ b < key + 16) := by
        intro h; rw [ho] at hb'; simp [wrB, h.1, h.2] at hb'
      exact sget_adopt_range hk hr σ

/-- the operations of a region that draws, one behind the other -/
def dops (P : Program) : List AOper → Nat → Env → Store → (Env → Store → Prop) → Prop
  | [], _, env, σ, K => K env σ
  | o :: r, key, env, σ, K => ∃ g v σ1, DStep P o key env σ g v σ1 ∧ dops P r (key + 16) (bindDst env o.dst g v) σ1 K

/-- the run, as a sequence of states -/
structure DRun (P : Program) (aos : List AOper) (N : Nat) (E : Nat → Env) (T : Nat → Store) (G : Nat → Bool) (W : Nat → V) : Prop where
  step : ∀ (i : Nat) o, aos[i]? = some o → DStep P o (N + 16 * i) (E i) (T i) (G i) (W i) (T (i + 1)) ∧ E (i + 1) = bindDst (E i) o.dst (G i) (W i)

theorem dops_run : ∀ {aos : List AOper} {key : Nat} {env : Env} {σ : Store} {K : Env → Store → Prop}, dops P aos key env σ K → ∃ E T G W, DRun P aos key E T G W ∧ E 0 = env ∧ T 0 = σ ∧ K (E aos.length) (T aos.length)
  | [], key, env, σ, K, h => ⟨fun _ => env, fun _ => σ, fun _ => true, fun _ => .tup [], ⟨fun i o h => by simp at h⟩, rfl, rfl, h⟩
  | o :: r, key, env, σ, K, h => by
    obtain ⟨g, v, σ1, h1, h2⟩ := h
    obtain ⟨E, T, G, W, hr, e1, e2, hK⟩ := dops_run h2
    refine ⟨fun i => if i = 0 then env else E (i - 1), fun i => if i = 0 then σ else T (i - 1), fun i => if i = 0 then g else G (i - 1), fun i => if i = 0 then v else W (i - 1), ⟨fun i o' ho => ?_⟩, rfl, rfl, by simpa using hK⟩
    cases i with
    | zero =>
      simp at ho; subst ho
      simp only [if_true, Nat.mul_zero, Nat.add_zero, Nat.zero_add, Nat.one_ne_zero, if_false, Nat.sub_self, e1, e2]
      exact ⟨h1, trivial⟩
    | succ i =>
      have := hr.step i o' (by simpa using ho)
      simp only [Nat.add_one_ne_zero, if_false, Nat.add_sub_cancel]
      rw [show key + 16 * (i + 1) = key + 16 + 16 * i by omega]
      rw [show E (i + 1) = E (i + 1) from rfl]
      exact this

end
end Go.Proofs.Ytkdepbmeaiefeaa.Shv
