/- The abstract machine, part 18: a region that draws its order does what the text's order does. -/
import Derived.Test.YtkdepbmeaiefeaaShvDraw
namespace Go.Proofs.Ytkdepbmeaiefeaa.Shv
set_option linter.all false
open Go

theorem max_of {p : Nat → Bool} : ∀ {m : Nat}, (∃ i, i < m ∧ p i = true) → ∃ i, i < m ∧ p i = true ∧ ∀ j, j < m → p j = true → j ≤ i
  | 0, ⟨i, h, _⟩ => by omega
  | m + 1, ⟨i, h1, h2⟩ => by
    cases hm : p m with
    | true => exact ⟨m, by omega, hm, fun j hj _ => by omega⟩
    | false =>
      have : i < m := by
        rcases Nat.lt_or_ge i m with h | h
        · exact h
        · have : i = m := by omega
          subst this; rw [hm] at h2; cases h2
      obtain ⟨k, h3, h4, h5⟩ := max_of (m := m) ⟨i, this, h2⟩
      refine ⟨k, by omega, h4, fun j hj hp => ?_⟩
      rcases Nat.lt_or_ge j m with h | h
      · exact h5 j h hp
      · have : j = m := by omega
        subst this; rw [hm] at hp; cases hp

theorem resolveOps_length {P : Program} {nt : Nat} {ops : Array Oper} : ∀ {l : List Oper} {aos : List AOper}, resolveOps P nt ops l = some aos → aos.length = l.length
  | [], aos, h => by simp [resolveOps] at h; subst h; rfl
  | o :: l, aos, h => by
    simp only [resolveOps, Option.bind_eq_some_iff, Option.map_eq_some_iff] at h
    obtain ⟨ao, hao, r, hr, rfl⟩ := h
    simp [resolveOps_length hr]

theorem resolveOps_get {P : Program} {nt : Nat} {ops : Array Oper} : ∀ {l : List Oper} {aos : List AOper} {i : Nat} {o : Oper}, resolveOps P nt ops l = some aos → l[i]? = some o → ∃ ao, aos[i]? = some ao ∧ resolveOper P nt ops o = some ao
  | [], aos, i, o, h, ho => by simp at ho
  | x :: l, aos, i, o, h, ho => by
    simp only [resolveOps, Option.bind_eq_some_iff, Option.map_eq_some_iff] at h
    obtain ⟨ao, hao, r, hr, rfl⟩ := h
    cases i with
    | zero => simp at ho; subst ho; exact ⟨ao, rfl, hao⟩
    | succ i => simpa using resolveOps_get hr (by simpa using ho)

theorem depsBack_get : ∀ {l : List (AOper × List Nat)} {k i : Nat} {x : AOper × List Nat}, depsBack k l = true → l[i]? = some x → ∀ d, d ∈ x.2 → d < k + i
  | [], k, i, x, h, hx, d, hd => by simp at hx
  | y :: r, k, i, x, h, hx, d, hd => by
    simp only [depsBack, Bool.and_eq_true, List.all_eq_true, decide_eq_true_eq] at h
    cases i with
    | zero => simp at hx; subst hx; exact h.1 d hd
    | succ i =>
      have := depsBack_get h.2 (by simpa using hx) d hd
      omega

theorem ahead_inv {L : List (AOper × List Nat)} {j i : Nat} (h : ahead L j i = true) : j < i ∧ ∃ x, L[i]? = some x ∧ j ∈ x.2 := by
  simp only [ahead, Bool.and_eq_true, decide_eq_true_eq] at h
  obtain ⟨h1, h2⟩ := h
  cases hx : L[i]? with
  | none => rw [hx] at h2; simp at h2
  | some x => rw [hx] at h2; exact ⟨h1, x, rfl, by simpa using h2⟩

theorem touches_wr {o : AOp} {env : Env} {key b : Nat} (ht : o.touches = true) (hw : wrB o env key b = true) : b ∈ tch o env key := by
  cases o <;> simp [AOp.touches] at ht <;> simp [wrB, tch] at hw ⊢ <;> first | exact hw | (rcases hw with h | h; exact .inl h; exact .inr (.inl h))

theorem not_touches {o : AOp} {env : Env} {key : Nat} (ht : o.touches = false) : tch o env key = [] := by
  cases o <;> simp [AOp.touches] at ht <;> rfl

theorem wr_effect {o : AOp} {env : Env} {key b : Nat} (hw : wrB o env key b = true) : o.neutral = false := by
  cases o <;> simp [wrB] at hw <;> rfl

theorem wr_call {o : AOp} {env : Env} {key b : Nat} (ht : o.touches = false) (hw : wrB o env key b = true) : key ≤ b ∧ b < key + 16 := by
  cases o <;> simp [AOp.touches] at ht <;> simp [wrB] at hw <;> exact hw

section
variable {P : Program} {Γ : Ctx} {nt kk : Nat} {N : Nat} {ops : Array Oper} {aos : List AOper} {E : Nat → Env} {T : Nat → Store} {G : Nat → Bool} {W : Nat → V}

theorem Rel.env_congr {φ : Phi} {S : Stab} {env env' : Env} {σ : Store} {n : Nat → Bool} {a : Act} {w : World} (R : Rel Γ nt φ S env σ n a w) (h : ∀ t, look env' t = look env t) : Rel Γ nt φ S env' σ n a w :=
  ⟨R.sim, fun k g v hl => R.envs k g v (h k ▸ hl), fun k g v hl => R.envn k g v (h k ▸ hl), fun k g v hl => R.ebnd k g v (h k ▸ hl), R.sbnd, R.size, R.defers, R.ext, R.own, R.fix, R.kn⟩

/-- the blocks that operation i may write -/
def wrAt (aos : List AOper) (E : Nat → Env) (N i b : Nat) : Bool := match aos[i]? with | some o => wrB o.op (E i) (N + 16 * i) b | none => false

theorem run_look (hr : DRun P aos N E T G W) {t : Nat} {i : Nat} : ∀ {k : Nat}, i ≤ k → k ≤ aos.length → (∀ (j : Nat) (o : AOper), i ≤ j → j < k → aos[j]? = some o → o.dst ≠ some t) → look (E k) t = look (E i) t := by
  intro k
  induction k with
  | zero => intro h1 _ _; have : i = 0 := by omega
            subst this; rfl
  | succ k ih =>
    intro h1 h2 h3
    by_cases hik : i = k + 1
    · subst hik; rfl
    · have hk : k < aos.length := by omega
      have ho : aos[k]? = some aos[k] := List.getElem?_eq_getElem hk
      rw [(hr.step k _ ho).2, look_bind, if_neg (h3 k _ (by omega) (by omega) ho)]
      exact ih (by omega) (by omega) fun j o hj1 hj2 => h3 j o hj1 (by omega)

theorem run_sget (hr : DRun P aos N E T G W) {b : Nat} {i : Nat} : ∀ {k : Nat}, i ≤ k → k ≤ aos.length → (∀ j : Nat, i ≤ j → j < k → wrAt aos E N j b = false) → sget (T k) b = sget (T i) b := by
  intro k
  induction k with
  | zero => intro h1 _ _; have : i = 0 := by omega
            subst this; rfl
  | succ k ih =>
    intro h1 h2 h3
    by_cases hik : i = k + 1
    · subst hik; rfl
    · have hk : k < aos.length := by omega
      have ho : aos[k]? = some aos[k] := List.getElem?_eq_getElem hk
      have hw := h3 k (by omega) (by omega)
      unfold wrAt at hw
      rw [ho] at hw
      have := ((hr.step k _ ho).1.local (env' := E k) (σ' := T k) (fun _ _ => rfl) (fun _ _ => rfl)).2 b hw
      rw [this]
      exact ih (by omega) (by omega) fun j hj1 hj2 => h3 j hj1 (by omega)

/-- what the static look over the region tells -/
structure Stat (aos : List AOper) (D : Nat → List Nat) (E : Nat → Env) (N : Nat) : Prop where
  back : ∀ i d, i < aos.length → d ∈ D i → d < i
  ssa : ∀ (i j : Nat) (x y : AOper) (d : Nat), aos[i]? = some x → aos[j]? = some y → y.dst = some d → (d ∈ x.rd → (j < i ∧ j ∈ D i) ∨ (x.op.neutral = true ∧ x.op.touches = false ∧ i < j ∧ i ∈ D j)) ∧ (i = j ∨ x.dst ≠ some d)
  ord : ∀ i j b, i ≠ j → i < aos.length → j < aos.length → wrAt aos E N i b = true → ((∃ y : AOper, aos[j]? = some y ∧ b ∈ tch y.op (E j) (N + 16 * j)) ∨ wrAt aos E N j b = true) → (i < j ∧ i ∈ D j) ∨ (j < i ∧ j ∈ D i)

/-- the slots in use when some operations have been carried out -/
def used (N m : Nat) (listed : Array Bool) : Nat → Bool := fun b => lt N b || (List.range m).any fun i => listed.getD i false && (decide (N + 16 * i ≤ b) && decide (b < N + 16 * i + 16))

structure Inv (Γ : Ctx) (nt : Nat) (aos : List AOper) (D : Nat → List Nat) (N : Nat) (E : Nat → Env) (T : Nat → Store) (G : Nat → Bool) (W : Nat → V) (listed : Array Bool) (φ : Phi) (S : Stab) (env : Env) (σ : Store) (a : Act) (w : World) : Prop where
  rel : Rel Γ nt φ S env σ (used N aos.length listed) a w
  size : listed.size = aos.length
  down : ∀ i, i < aos.length → listed.getD i false = true → ∀ d, d ∈ D i → listed.getD d false = true
  e0 : ∀ t, (∀ (i : Nat) (o : AOper), aos[i]? = some o → listed.getD i false = true → o.dst ≠ some t) → look env t = look (E 0) t
  e1 : ∀ t (i : Nat) (o : AOper), aos[i]? = some o → listed.getD i false = true → o.dst = some t → look env t = some (G i, W i)
  s0 : ∀ b, (∀ i, i < aos.length → listed.getD i false = true → wrAt aos E N i b = false) → sget σ b = sget (T 0) b
  s1 : ∀ b i, i < aos.length → listed.getD i false = true → wrAt aos E N i b = true → (∀ j, j < aos.length → listed.getD j false = true → wrAt aos E N j b = true → j ≤ i) → sget σ b = sget (T (i + 1)) b

theorem getD_set {listed : Array Bool} {i j : Nat} (hi : i < listed.size) : (listed.setIfInBounds i true).getD j false = if j = i then true else listed.getD j false := by
  by_cases h : j = i
  · subst h; simp [hi]
  · rw [if_neg h, getD_set_ne false (Ne.symm h)]

/-- the state ahead of an operation agrees with the text's order where it looks -/
theorem Inv.agree {listed : Array Bool} {D : Nat → List Nat} {φ : Phi} {S : Stab} {env : Env} {σ : Store} {a : Act} {w : World} (I : Inv Γ nt aos D N E T G W listed φ S env σ a w) (st : Stat aos D E N) (hr : DRun P aos N E T G W)
    {i : Nat} {o : AOper} (ho : aos[i]? = some o) (hn : listed.getD i false = false) (hd : ∀ d, d ∈ D i → listed.getD d false = true) :
    (∀ t, t ∈ o.rd → look env t = look (E i) t) ∧ ∀ b, b ∈ tch o.op (E i) (N + 16 * i) ∨ wrB o.op (E i) (N + 16 * i) b = true → sget σ b = sget (T i) b := by
  have hi : i < aos.length := (List.getElem?_eq_some_iff.1 ho).1
  refine ⟨fun t ht => ?_, fun b hb => ?_⟩
  · by_cases hw : ∃ (j : Nat) (y : AOper), aos[j]? = some y ∧ y.dst = some t
    · obtain ⟨j, y, hy, hyt⟩ := hw
      rcases (st.ssa i j o y t ho hy hyt).1 ht with ⟨h1, h2⟩ | ⟨_, _, h1, h2⟩
      · rw [I.e1 t j y hy (hd j h2) hyt]
        have : look (E (j + 1)) t = some (G j, W j) := by rw [(hr.step j y hy).2, look_bind, if_pos hyt]
        rw [← this]
        symm
        refine run_look hr (by omega) (by omega) fun k z hk1 hk2 hz hzt => ?_
        rcases (st.ssa k j z y t hz hy hyt).2 with h | h
        · omega
        · exact h hzt
      · have hj : j < aos.length := (List.getElem?_eq_some_iff.1 hy).1
        have hone : ∀ (k : Nat) (z : AOper), aos[k]? = some z → z.dst = some t → k = j := by
          intro k z hz hzt
          rcases (st.ssa k j z y t hz hy hyt).2 with h | h
          · exact h
          · exact absurd hzt h
        rw [I.e0 t fun k z hz hl hzt => by
          have := hone k z hz hzt
          subst this
          have := I.down k hj hl i h2
          rw [hn] at this; cases this]
        symm
        refine run_look hr (Nat.zero_le _) (by omega) fun k z _ hk hz hzt => ?_
        have := hone k z hz hzt
        omega
    · have hno : ∀ (j : Nat) (y : AOper), aos[j]? = some y → y.dst ≠ some t := fun j y hy h => hw ⟨j, y, hy, h⟩
      rw [I.e0 t fun j y hy _ => hno j y hy]
      symm
      exact run_look hr (Nat.zero_le _) (by omega) fun j y _ _ hy => hno j y hy
  · have hwi : ∀ j, j ≠ i → j < aos.length → wrAt aos E N j b = true → (j < i ∧ j ∈ D i) ∨ (i < j ∧ i ∈ D j) := by
      intro j hj hjl hjw
      refine st.ord j i b hj hjl hi hjw ?_
      rcases hb with hb | hb
      · exact .inl ⟨o, ho, hb⟩
      · exact .inr (by unfold wrAt; rw [ho]; exact hb)
    have hl : ∀ j, j < aos.length → listed.getD j false = true → wrAt aos E N j b = true → j < i := by
      intro j hjl hlj hjw
      have hne : j ≠ i := by rintro rfl; rw [hn] at hlj; cases hlj
      rcases hwi j hne hjl hjw with h | h
      · exact h.1
      · have := I.down j hjl hlj i h.2
        rw [hn] at this; cases this
    have hl2 : ∀ j, j < i → wrAt aos E N j b = true → listed.getD j false = true := by
      intro j hji hjw
      rcases hwi j (by omega) (by omega) hjw with h | h
      · exact hd j h.2
      · omega
    by_cases hex : ∃ j, j < i ∧ wrAt aos E N j b = true
    · obtain ⟨j, hj1, hj2, hj3⟩ := max_of hex
      rw [I.s1 b j (by omega) (hl2 j hj1 hj2) hj2 (fun k hk1 hk2 hk3 => hj3 k (hl k hk1 hk2 hk3) hk3)]
      symm
      refine run_sget hr (by omega) (by omega) fun k hk1 hk2 => ?_
      cases hkw : wrAt aos E N k b with
      | false => rfl
      | true => have := hj3 k hk2 hkw; omega
    · have hno : ∀ j, j < i → wrAt aos E N j b = false := by
        intro j hj
        cases hkw : wrAt aos E N j b with
        | false => rfl
        | true => exact absurd ⟨j, hj, hkw⟩ hex
      rw [I.s0 b fun j hjl hlj => by
        cases hkw : wrAt aos E N j b with
        | false => rfl
        | true => rw [hno j (hl j hjl hlj hkw)] at hkw; cases hkw]
      symm
      exact run_sget hr (Nat.zero_le _) (by omega) fun j _ hj => hno j hj


theorem used_set {m : Nat} {listed : Array Bool} {i b : Nat} (hi : i < listed.size) (h : insR (used N m listed) (N + 16 * i) b = true) (him : i < m) : used N m (listed.setIfInBounds i true) b = true := by
  simp only [insR, used, Bool.or_eq_true, List.any_eq_true, List.mem_range, Bool.and_eq_true, decide_eq_true_eq] at h ⊢
  rcases h with (h | ⟨j, h1, h2, h3⟩) | h
  · exact .inl h
  · exact .inr ⟨j, h1, by rw [getD_set hi]; split; rfl; exact h2, h3⟩
  · exact .inr ⟨i, him, by rw [getD_set hi, if_pos rfl], h⟩

theorem used_fresh {m : Nat} {listed : Array Bool} {i : Nat} (hn : listed.getD i false = false) {b : Nat} (h1 : N + 16 * i ≤ b) (h2 : b < N + 16 * i + 16) : used N m listed b = false := by
  simp only [used, Bool.or_eq_false_iff, List.any_eq_false, List.mem_range, Bool.and_eq_true, decide_eq_true_eq]
  refine ⟨by simp [lt]; omega, fun j hj h => ?_⟩
  obtain ⟨h3, h4, h5⟩ := h
  have : j = i := by omega
  subst this
  rw [hn] at h3; cases h3

/-- an operation that is ready is carried out -/
theorem Inv.step {listed : Array Bool} {D : Nat → List Nat} {φ φ' : Phi} {S S' : Stab} {env : Env} {σ σ1' : Store} {a a' : Act} {w w' : World} (I : Inv Γ nt aos D N E T G W listed φ S env σ a w) (st : Stat aos D E N) (hr : DRun P aos N E T G W)
    {i : Nat} {o : AOper} (ho : aos[i]? = some o) (hn : listed.getD i false = false) (hd : ∀ d, d ∈ D i → listed.getD d false = true)
    (hσ : ∀ b, sget σ1' b = if wrB o.op (E i) (N + 16 * i) b then sget (T (i + 1)) b else sget σ b)
    (R : Rel Γ nt φ' S' (bindDst env o.dst (G i) (W i)) σ1' (insR (used N aos.length listed) (N + 16 * i)) a' w') :
    Inv Γ nt aos D N E T G W (listed.setIfInBounds i true) φ' S' (bindDst env o.dst (G i) (W i)) σ1' a' w' := by
  have hi : i < aos.length := (List.getElem?_eq_some_iff.1 ho).1
  have his : i < listed.size := by rw [I.size]; exact hi
  have hww : ∀ b, wrAt aos E N i b = wrB o.op (E i) (N + 16 * i) b := fun b => by unfold wrAt; rw [ho]
  refine ⟨R.more fun b hb => used_set his hb hi, by simp [I.size], fun j hj hl d hdd => ?_, fun t ht => ?_, fun t j y hy hl hyt => ?_, fun b hb => ?_, fun b j hj hl hw hmax => ?_⟩
  · rw [getD_set his] at hl ⊢
    split
    · rfl
    · split at hl
      · rename_i e; subst e; exact hd d hdd
      · exact I.down j hj hl d hdd
  · rw [look_bind, if_neg (ht i o ho (by rw [getD_set his, if_pos rfl]))]
    exact I.e0 t fun j y hy hl => ht j y hy (by rw [getD_set his]; split; rfl; exact hl)
  · rw [look_bind]
    rw [getD_set his] at hl
    by_cases hji : j = i
    · subst hji
      rw [ho] at hy; cases hy
      rw [if_pos hyt]
    · rw [if_neg hji] at hl
      rw [if_neg (fun h => ?_)]
      · exact I.e1 t j y hy hl hyt
      · rcases (st.ssa i j o y t ho hy hyt).2 with h' | h'
        · exact hji h'.symm
        · exact h' h
  · rw [hσ b]
    have hwi := hb i hi (by rw [getD_set his, if_pos rfl])
    rw [hww] at hwi
    rw [hwi]
    exact I.s0 b fun j hj hl => hb j hj (by rw [getD_set his]; split; rfl; exact hl)
  · rw [hσ b]
    rw [getD_set his] at hl
    by_cases hwi : wrB o.op (E i) (N + 16 * i) b = true
    · rw [if_pos hwi]
      have hij : i ≤ j := hmax i hi (by rw [getD_set his, if_pos rfl]) (by rw [hww]; exact hwi)
      by_cases hji : j = i
      · subst hji; rfl
      · -- an operation behind i that writes b cannot have been carried out
        exfalso
        rw [if_neg hji] at hl
        rcases st.ord i j b (Ne.symm hji) hi hj (by rw [hww]; exact hwi) (.inr hw) with h | h
        · have := I.down j hj hl i h.2
          rw [hn] at this; cases this
        · omega
    · rw [if_neg hwi]
      by_cases hji : j = i
      · subst hji; rw [hww] at hw; exact absurd hw hwi
      · rw [if_neg hji] at hl
        exact I.s1 b j hj hl hw fun k hk hlk hwk => hmax k hk (by rw [getD_set his]; split; rfl; exact hlk) hwk

theorem Inv.done {listed : Array Bool} {D : Nat → List Nat} {φ : Phi} {S : Stab} {env : Env} {σ : Store} {a : Act} {w : World} (I : Inv Γ nt aos D N E T G W listed φ S env σ a w) (st : Stat aos D E N) (hr : DRun P aos N E T G W)
    (hall : ∀ i, i < aos.length → listed.getD i false = true) : Rel Γ nt φ S (E aos.length) (T aos.length) (lt (N + 16 * aos.length)) a w := by
  refine ((I.rel.env_congr fun t => ?_).congr fun b => ?_).more fun b hb => ?_
  · by_cases hw : ∃ (j : Nat) (y : AOper), aos[j]? = some y ∧ y.dst = some t
    · obtain ⟨j, y, hy, hyt⟩ := hw
      have hj : j < aos.length := (List.getElem?_eq_some_iff.1 hy).1
      rw [I.e1 t j y hy (hall j hj) hyt]
      have : look (E (j + 1)) t = some (G j, W j) := by rw [(hr.step j y hy).2, look_bind, if_pos hyt]
      rw [← this]
      refine run_look hr (by omega) (Nat.le_refl _) fun k z hk1 hk2 hz hzt => ?_
      rcases (st.ssa k j z y t hz hy hyt).2 with h | h
      · omega
      · exact h hzt
    · have hno : ∀ (j : Nat) (y : AOper), aos[j]? = some y → y.dst ≠ some t := fun j y hy h => hw ⟨j, y, hy, h⟩
      rw [I.e0 t fun j y hy _ => hno j y hy]
      exact run_look hr (Nat.zero_le _) (Nat.le_refl _) fun j y _ _ hy => hno j y hy
  · by_cases hex : ∃ j, j < aos.length ∧ wrAt aos E N j b = true
    · obtain ⟨j, hj1, hj2, hj3⟩ := max_of hex
      rw [I.s1 b j hj1 (hall j hj1) hj2 (fun k hk1 _ hk3 => hj3 k hk1 hk3)]
      refine run_sget hr (by omega) (Nat.le_refl _) fun k hk1 hk2 => ?_
      cases hkw : wrAt aos E N k b with
      | false => rfl
      | true => have := hj3 k hk2 hkw; omega
    · have hno : ∀ j, j < aos.length → wrAt aos E N j b = false := by
        intro j hj
        cases hkw : wrAt aos E N j b with
        | false => rfl
        | true => exact absurd ⟨j, hj, hkw⟩ hex
      rw [I.s0 b fun j hjl _ => hno j hjl]
      exact run_sget hr (Nat.zero_le _) (Nat.le_refl _) fun j _ hj => hno j hj
  · simp only [used, lt, Bool.or_eq_true, List.any_eq_true, List.mem_range, Bool.and_eq_true, decide_eq_true_eq] at hb ⊢
    rcases hb with h | ⟨j, h1, h2, h3, h4⟩
    · omega
    · omega

theorem countP_set {l : List Bool} {i : Nat} (h : l[i]? = some false) : (l.set i true).countP (· == false) < l.countP (· == false) := by
  induction l generalizing i with
  | nil => simp at h
  | cons x l ih =>
    cases i with
    | zero => simp at h; subst h; simp
    | succ i =>
      have := ih (i := i) (by simpa using h)
      simp only [List.set_cons_succ, List.countP_cons]
      omega

/-- whatever order is drawn, the state at the end is that of the text's order -/
theorem wpAny_of_run {D : Nat → List Nat} (st : Stat aos D E N) (hr : DRun P aos N E T G W) (hres : resolveOps P nt ops ops.toList = some aos) (hD : ∀ (i : Nat) o, ops[i]? = some o → D i = depsOf o) {Q : Exit → Act → World → Prop}
    (hQ : ∀ φ S a w, Rel Γ nt φ S (E aos.length) (T aos.length) (lt (N + 16 * aos.length)) a w → Q .normal a w) :
    ∀ (fuel : Nat) (listed : Array Bool) φ S env σ a w, listed.toList.countP (· == false) ≤ fuel → Inv Γ nt aos D N E T G W listed φ S env σ a w → wpAny P .any ops Q fuel listed a w := by
  have hlen := resolveOps_length hres
  simp at hlen
  have hready : ∀ (listed : Array Bool) (φ : Phi) (S : Stab) (env : Env) (σ : Store) (a : Act) (w : World), Inv Γ nt aos D N E T G W listed φ S env σ a w → Region.ready .any ops listed = [] → ∀ i, i < aos.length → listed.getD i false = true := by
    intro listed φ S env σ a w I hnil i
    induction i using Nat.strongRecOn with
    | _ i ih =>
      intro hi
      cases hl : listed.getD i false with
      | true => rfl
      | false =>
        exfalso
        have hio : i < ops.size := by omega
        have ho : ops[i]? = some ops[i] := Array.getElem?_eq_getElem hio
        have : i ∈ Region.ready .any ops listed := by
          rw [mem_ready]
          refine ⟨?_, ops[i], ho, fun e he hb => ?_⟩
          · have his : i < listed.size := by rw [I.size]; exact hi
            simp [his] at hl ⊢; exact hl
          · have hd : e.on ∈ D i := by
              rw [hD i _ ho]
              simp only [depsOf, List.mem_map, List.mem_filter]
              exact ⟨e, ⟨by simpa using he, hb⟩, rfl⟩
            exact ih e.on (st.back i _ hi hd) (by have := st.back i _ hi hd; omega)
        rw [hnil] at this
        cases this
  have hdone : ∀ (listed : Array Bool) (φ : Phi) (S : Stab) (env : Env) (σ : Store) (a : Act) (w : World), Inv Γ nt aos D N E T G W listed φ S env σ a w → Region.ready .any ops listed = [] → Q .normal a w := by
    intro listed φ S env σ a w I hnil
    exact hQ φ S a w (I.done st hr (hready listed φ S env σ a w I hnil))
  intro fuel
  induction fuel with
  | zero =>
    intro listed φ S env σ a w hc I
    have hall : ∀ i, i < aos.length → listed.getD i false = true := by
      intro i hi
      have his : i < listed.size := by rw [I.size]; exact hi
      cases hl : listed.getD i false with
      | true => rfl
      | false =>
        exfalso
        have h0 : listed.toList.countP (· == false) = 0 := by omega
        rw [List.countP_eq_zero] at h0
        simp [his] at hl
        exact h0 listed[i] (by simp) (by simp [hl])
    have hnil : Region.ready .any ops listed = [] := by
      rw [List.eq_nil_iff_forall_not_mem]
      intro i hi
      rw [mem_ready] at hi
      obtain ⟨h1, o, ho, _⟩ := hi
      have hio : i < ops.size := (Array.getElem?_eq_some_iff.1 ho).1
      have h2 := hall i (by omega)
      have his : i < listed.size := by rw [I.size]; omega
      simp [his] at h1 h2
      rw [h1] at h2; cases h2
    exact ⟨hnil, hdone listed φ S env σ a w I hnil⟩
  | succ fuel ih =>
    intro listed φ S env σ a w hc I
    refine ⟨hdone listed φ S env σ a w I, fun i hi => ?_⟩
    rw [mem_ready] at hi
    obtain ⟨h1, o, ho, hdeps⟩ := hi
    have hio : i < ops.size := (Array.getElem?_eq_some_iff.1 ho).1
    have him : i < aos.length := by omega
    have his : i < listed.size := by rw [I.size]; exact him
    have hn : listed.getD i false = false := by simp [his] at h1 ⊢; exact h1
    obtain ⟨ao, hao, hro⟩ := resolveOps_get hres (i := i) (o := o) (by simpa using ho)
    have hd : ∀ d, d ∈ D i → listed.getD d false = true := by
      intro d hd
      rw [hD i o ho] at hd
      simp only [depsOf, List.mem_map, List.mem_filter] at hd
      obtain ⟨e, ⟨he, hb⟩, rfl⟩ := hd
      exact hdeps e (by simpa using he) hb
    obtain ⟨ha1, ha2⟩ := I.agree st hr hao hn hd
    obtain ⟨⟨σ1', hs, hσ⟩, _⟩ := (hr.step i ao hao).1.local (env' := env) (σ' := σ) ha1 ha2
    have hstep := step_sound I.rel (key := N + 16 * i) (fun b hb1 hb2 => used_fresh hn hb1 hb2) hro (K := fun e s => e = bindDst env ao.dst (G i) (W i) ∧ s = σ1') (hs.astep ⟨rfl, rfl⟩) (Q := Q)
    have next : ∀ a' w', Post Γ nt (insR (used N aos.length listed) (N + 16 * i)) (fun e s => e = bindDst env ao.dst (G i) (W i) ∧ s = σ1') a' w' → wpAny P .any ops Q fuel (listed.setIfInBounds i true) a' w' := by
      rintro a' w' ⟨φ', S', e, s, ⟨rfl, rfl⟩, R'⟩
      refine ih _ φ' S' _ _ a' w' ?_ (I.step st hr hao hn hd hσ R')
      have : listed.toList[i]? = some false := by simp [his] at hn ⊢; exact hn
      have := countP_set this
      simp only [Array.toList_setIfInBounds]
      omega
    unfold wpOp
    rw [ho]
    dsimp only
    split at hstep
    · rename_i hw; rw [if_pos hw]; exact .inl (Oper.wp_mono next hstep)
    · rename_i hw; rw [if_neg hw]; exact next _ _ hstep

end
end Go.Proofs.Ytkdepbmeaiefeaa.Shv
