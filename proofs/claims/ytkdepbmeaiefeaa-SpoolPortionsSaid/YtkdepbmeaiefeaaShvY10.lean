/- Typed states over the abstract machine: code, loops, functions. -/
import Derived.Test.YtkdepbmeaiefeaaShvY9
namespace Go.Proofs.Ytkdepbmeaiefeaa.Shv
set_option linter.all false
open Go

variable {U : Uni} {R : Type}

/-! the order that a region draws -/

def xblk (env : XEnv U) : AO → Option (List Nat)
  | .const (.c (.t _)) => some []
  | .const (.c .cap0) => some []
  | .const (.agg _) => some []
  | .const _ => none
  | .tmp k => match lk env k with
    | some (.c (.ptr b _)) => some [b]
    | some (.c (.eptr b _ _ _)) => some [b]
    | some (.c (.arr b)) => some [b]
    | some (.c .dead) => none
    | some _ => some []
    | none => none

def xtch (o : AOp) (env : XEnv U) (key : Nat) : Option (List Nat) :=
  match o with
  | .alloc _ | .box _ | .bslice .. => some [key]
  | .load _ _ x => xblk env x
  | .store _ x _ => xblk env x
  | .append _ _ x y => match xblk env x, xblk env y with
    | some a, some b => some (key :: (a ++ b))
    | _, _ => none
  | _ => some []

def hasN (l : List Nat) (b : Nat) : Bool := l.any fun c => Nat.beq c b

def xwrB (o : AOp) (env : XEnv U) (key b : Nat) : Option Bool :=
  match o with
  | .alloc _ | .box _ | .bslice .. => some (Nat.beq b key)
  | .store _ x _ => match xblk env x with
    | some l => some (hasN l b)
    | none => none
  | .append _ _ x _ => match xblk env x with
    | some l => some (Nat.beq b key || hasN l b)
    | none => none
  | .call .. => some (Nat.ble key b && Nat.ble (b + 1) (key + 16))
  | _ => some false

def xcrit (aos : List AOper) (env : XEnv U) (N : Nat) : List (Nat × Nat) → Bool
  | [] => true
  | (i, j) :: r => (match getN aos i, getN aos j with
    | some x, some y => match xtch y.op env (N + 16 * j) with
      | some l => l.all fun b => match xwrB x.op env (N + 16 * i) b with
        | some w => !w
        | none => false
      | none => false
    | _, _ => false) && xcrit aos env N r

section
variable {P : Program} {kk N key : Nat} {σ : XSt U} {σ1 : Store} {env : XEnv U} {env1 : Env} {G : Nat → Bool}

theorem xblk_sound (he : ER N σ G env env1) {x : AO} {l : List Nat} (h : xblk env x = some l) : blkOf env1 x = l := by
  unfold xblk at h
  split at h
  · cases h; rfl
  · cases h; rfl
  · cases h; rfl
  · cases h
  · rename_i k
    split at h
    all_goals (try (cases h; done))
    · rename_i b o hk
      cases h
      obtain ⟨v1, h1, h2⟩ := he k _ hk
      have := h2.ptr_inv; subst this
      simp [blkOf, AO.get, h1]
    · rename_i b t i o hk
      cases h
      obtain ⟨v1, h1, h2⟩ := he k _ hk
      have := h2.eptr_inv; subst this
      simp [blkOf, AO.get, h1]
    · rename_i b hk
      cases h
      obtain ⟨v1, h1, h2⟩ := he k _ hk
      obtain ⟨sz, n, rfl, _⟩ := h2.arr_inv
      simp [blkOf, AO.get, h1]
    · rename_i v n1 n2 n3 n4 hk
      cases h
      obtain ⟨v1, h1, h2⟩ := he k _ hk
      unfold blkOf
      simp only [AO.get, h1, Option.map_some]
      cases h2 with
      | c h2 =>
        cases h2 with
        | ptr b o => exact absurd rfl (n1 b o)
        | eptr b t i o => exact absurd rfl (n2 b t i o)
        | arr b sz n hb hh => exact absurd rfl (n3 b)
        | dead d => exact absurd rfl n4
        | _ => rfl
      | agg h2 => rfl
      | tup => rfl

theorem hasN_eq {l : List Nat} {b : Nat} : hasN l b = l.contains b := by
  unfold hasN
  rw [Bool.eq_iff_iff]
  simp only [List.any_eq_true, List.contains_iff_mem]
  exact ⟨fun ⟨c, h1, h2⟩ => by rw [← beq_true h2]; exact h1, fun h => ⟨b, h, Nat.beq_refl b⟩⟩

theorem xtch_sound (he : ER N σ G env env1) {o : AOp} {l : List Nat} (h : xtch o env key = some l) : tch o env1 key = l := by
  cases o <;> simp only [xtch, tch, Option.some.injEq] at h ⊢ <;> first | exact h | exact xblk_sound he h | skip
  split at h
  · rename_i a b h1 h2
    cases h
    rw [xblk_sound he h1, xblk_sound he h2]
  · cases h

theorem beq_eq (a b : Nat) : (a == b) = Nat.beq a b := by
  cases h : Nat.beq a b with
  | true => rw [beq_true h]; simp
  | false => simp [beq_false h]

theorem xwrB_sound (he : ER N σ G env env1) {o : AOp} {b : Nat} {w : Bool} (h : xwrB o env key b = some w) : wrB o env1 key b = w := by
  cases o with
  | alloc cs => simp only [xwrB, Option.some.injEq] at h; rw [← h]; simp only [wrB]; exact beq_eq _ _
  | box x => simp only [xwrB, Option.some.injEq] at h; rw [← h]; simp only [wrB]; exact beq_eq _ _
  | bslice a c d e => simp only [xwrB, Option.some.injEq] at h; rw [← h]; simp only [wrB]; exact beq_eq _ _
  | store n x y =>
    simp only [xwrB] at h
    split at h
    · rename_i l hl; cases h; simp only [wrB]; rw [xblk_sound he hl, hasN_eq]
    · cases h
  | append sz by' x y =>
    simp only [xwrB] at h
    split at h
    · rename_i l hl; cases h; simp only [wrB]; rw [xblk_sound he hl, hasN_eq, beq_eq]
    · cases h
  | call f args =>
    simp only [xwrB, Option.some.injEq] at h
    rw [← h, Bool.eq_iff_iff]
    simp only [wrB, Bool.and_eq_true, decide_eq_true_eq, Nat.ble_eq]
    exact ⟨fun h => ⟨h.1, h.2⟩, fun h => ⟨h.1, h.2⟩⟩
  | _ => simp only [xwrB, Option.some.injEq] at h; rw [← h]; rfl

theorem xcrit_sound (he : ER N σ G env env1) {aos : List AOper} {N0 : Nat} : ∀ {crit : List (Nat × Nat)}, xcrit aos env N0 crit = true → critOk aos env1 N0 crit = true
  | [], _ => rfl
  | (i, j) :: r, h => by
    simp only [xcrit, Bool.and_eq_true] at h
    simp only [critOk, Bool.and_eq_true]
    refine ⟨?_, xcrit_sound he h.2⟩
    have h1 := h.1
    rw [getN_eq, getN_eq] at h1
    split at h1
    · rename_i x y hx hy
      rw [hx, hy]
      split at h1
      · rename_i l hl
        dsimp only
        rw [xtch_sound he hl]
        simp only [List.all_eq_true] at h1 ⊢
        intro b hb
        have := h1 b hb
        split at this
        · rename_i w hw; rw [xwrB_sound he hw]; exact this
        · cases this
      · cases h1
    · cases h1

/-! regions -/

theorem xregion_plain {fo : Fo U} (hfo : FoSnd P fo) {k : GL → XEnv U → XSt U → Option R} {r : R} : ∀ {l : List AOper} {key : Nat} {gl : GL} {nf : NF} {env : XEnv U} {σ : XSt U} {env1 : Env} {σ1 : Store} {G : Nat → Bool} {K : Env → Store → Prop},
    RS key gl nf env σ env1 σ1 G → xregion fo false l key gl nf env σ k = some r →
    (∀ gl' nf' env' σ' env1' σ1' G', k gl' env' σ' = some r → RS (key + 16 * l.length) gl' nf' env' σ' env1' σ1' G' → K env1' σ1') → aopsC P kk l key env1 σ1 K
  | [], key, gl, nf, env, σ, env1, σ1, G, K, h, hx, hK => hK _ _ _ _ _ _ _ hx h
  | o :: l, key, gl, nf, env, σ, env1, σ1, G, K, h, hx, hK => by
    simp only [xregion] at hx
    simp only [aopsC]
    refine xstepF_plain hfo h hx fun gl' nf' env' σ' env1' σ1' G' h1 h2 => ?_
    refine xregion_plain hfo h2 h1 fun gl2 nf2 e2 s2 e12 s12 G2 h3 h4 => hK gl2 nf2 e2 s2 e12 s12 G2 h3 ?_
    rw [List.length_cons, show key + 16 * (l.length + 1) = key + 16 + 16 * l.length by omega]
    exact h4

theorem xregion_draw {fo : Fo U} (hfo : FoSnd P fo) {k : GL → XEnv U → XSt U → Option R} {r : R} : ∀ {l : List AOper} {key : Nat} {gl : GL} {nf : NF} {env : XEnv U} {σ : XSt U} {env1 : Env} {σ1 : Store} {G : Nat → Bool} {K : Env → Store → Prop},
    RS key gl nf env σ env1 σ1 G → xregion fo true l key gl nf env σ k = some r →
    (∀ gl' nf' env' σ' env1' σ1' G', k gl' env' σ' = some r → RS (key + 16 * l.length) gl' nf' env' σ' env1' σ1' G' → K env1' σ1') → dops P l key env1 σ1 K
  | [], key, gl, nf, env, σ, env1, σ1, G, K, h, hx, hK => hK _ _ _ _ _ _ _ hx h
  | o :: l, key, gl, nf, env, σ, env1, σ1, G, K, h, hx, hK => by
    simp only [xregion] at hx
    obtain ⟨g, v1, σ1', gl', nf', env', σ', G', h1, h2, h3⟩ := xstep_draw hfo h (by simpa only [xstepF] using hx)
    refine ⟨g, v1, σ1', h1, xregion_draw hfo h3 h2 fun gl2 nf2 e2 s2 e12 s12 G2 h4 h5 => hK gl2 nf2 e2 s2 e12 s12 G2 h4 ?_⟩
    rw [List.length_cons, show key + 16 * (l.length + 1) = key + 16 + 16 * l.length by omega]
    exact h5

theorem lk_clean {gl : GL} : ∀ {env : XEnv U} {k : Nat} {v : XV U}, lk (clean gl env) k = some v → lk env k = some v ∧ inGl gl k = false
  | [], k, v, h => by simp [clean, lk] at h
  | (i, w) :: r, k, v, h => by
    simp only [clean] at h
    split at h
    · rename_i hi
      obtain ⟨h1, h2⟩ := lk_clean h
      simp only [lk]
      cases hb : Nat.beq i k with
      | true => rw [beq_true hb] at hi; rw [hi] at h2; cases h2
      | false => exact ⟨h1, h2⟩
    · rename_i hi
      simp only [lk] at h ⊢
      cases hb : Nat.beq i k with
      | true => rw [hb] at h; cases h; rw [← beq_true hb]; exact ⟨rfl, hi⟩
      | false => rw [hb] at h; exact lk_clean h

theorem inGl_none {gl : GL} {k : Nat} (h : inGl gl k = false) : lk gl k = none := by
  induction gl with
  | nil => rfl
  | cons e r ih =>
    obtain ⟨i, e⟩ := e
    simp only [inGl, List.any_cons, Bool.or_eq_false_iff] at h
    simp only [lk, h.1]
    exact ih (by unfold inGl; exact h.2)

theorem RS.clean {gl : GL} {nf : NF} (h : RS key gl nf env σ env1 σ1 G) : ER key σ (fun _ => true) (cleanG gl env) env1 := by
  intro k v hk
  have : lk env k = some v ∧ G k = true := by
    unfold cleanG at hk
    split at hk
    · exact ⟨hk, h.hg.free k rfl⟩
    · obtain ⟨h1, h2⟩ := lk_clean hk
      exact ⟨h1, h.hg.free k (inGl_none h2)⟩
  obtain ⟨v1, h1, h2⟩ := h.er k v this.1
  exact ⟨v1, by rw [h1, this.2], h2⟩

theorem RS.begin (he : ER key σ (fun _ => true) env env1) (hS : SR key σ σ1) : RS key [] [] env σ env1 σ1 (fun _ => true) :=
  ⟨he, ⟨fun _ _ => rfl, fun k t b h => by simp [lk] at h⟩, hS, fun _ h => by simp at h⟩

end

/-! loops and code -/

structure OSpec where
  e : Exit
  sh : Shape
  own : List (Pos × Ty)
  us : List Ty

def OSum (U : Uni) : List OSpec → Type
  | [] => Empty
  | [a] => Hs U.D a.us
  | a :: b :: r => Hs U.D a.us ⊕ OSum U (b :: r)

structure LSpec (U : Uni) where
  sh : Shape
  own : List (Pos × Ty)
  ts : List Ty
  outs : List OSpec
  F : Hs U.D ts → Option (OSum U outs)

def exEq : Exit → Exit → Bool
  | .normal, .normal => true
  | .ret, .ret => true
  | .exit i, .exit j => Nat.beq i j
  | _, _ => false

theorem exEq_some {a b : Exit} (h : exEq a b = true) : a = b := by
  cases a <;> cases b <;> simp only [exEq, reduceCtorEq, Bool.false_eq_true] at h <;> try rfl
  rw [beq_true h]

abbrev XK (U : Uni) (R : Type) := Exit → XEnv U → XSt U → Nat → Option R

/-- the state behind a loop -/
def oout : (outs : List OSpec) → OSum U outs → Exit × XEnv U × XSt U × Nat
  | [], o => nomatch o
  | [a], h => (a.e, (fil U a.sh (Hs.cells U.D a.us h)).1, (fil U a.sh (Hs.cells U.D a.us h)).2, a.sh.st.length)
  | a :: b :: r, .inl h => (a.e, (fil U a.sh (Hs.cells U.D a.us h)).1, (fil U a.sh (Hs.cells U.D a.us h)).2, a.sh.st.length)
  | a :: b :: r, .inr o => oout (b :: r) o

def sumE {α β : Type} (o : α ⊕ β) (f : α → Option R) (g : β → Option R) : Option R :=
  match o with
  | .inl a => f a
  | .inr b => g b

def xoutC (k : XK U R) (a : OSpec) : (r : List OSpec) → (OSum U r → Option R) → OSum U (a :: r) → Option R
  | [], _ => fun h => k a.e (fil U a.sh (Hs.cells U.D a.us h)).1 (fil U a.sh (Hs.cells U.D a.us h)).2 a.sh.st.length
  | _ :: _, f => fun o => sumE o (fun h => k a.e (fil U a.sh (Hs.cells U.D a.us h)).1 (fil U a.sh (Hs.cells U.D a.us h)).2 a.sh.st.length) f

/-- the ways on behind a loop -/
def xout (k : XK U R) : (outs : List OSpec) → OSum U outs → Option R
  | [] => fun o => nomatch o
  | a :: r => xoutC k a r (xout k r)

theorem xout_eq (k : XK U R) : ∀ {outs : List OSpec} {o : OSum U outs}, xout k outs o = k (oout outs o).1 (oout outs o).2.1 (oout outs o).2.2.1 (oout outs o).2.2.2
  | [], o => nomatch o
  | [a], h => rfl
  | a :: b :: r, .inl h => rfl
  | a :: b :: r, .inr o => xout_eq k (outs := b :: r)

/-- a state at an exit, read -/
def oput (kk : Nat) : (outs : List OSpec) → Exit → XEnv U → XSt U → Nat → Option (OSum U outs)
  | [], _, _, _, _ => none
  | [a], e, env, σ, N => match exEq e a.e with
    | true => xgoto kk a.own a.sh a.us env σ N
    | false => none
  | a :: b :: r, e, env, σ, N => match exEq e a.e with
    | true => match xgoto (U := U) kk a.own a.sh a.us env σ N with
      | some h => some (.inl h)
      | none => none
    | false => match oput kk (b :: r) e env σ N with
      | some o => some (.inr o)
      | none => none

abbrev Lo (U : Uni) := Nat → Option (LSpec U)

def nloops : ACode → Nat
  | .seq a b => nloops a + nloops b
  | .cond _ a b => nloops a + nloops b
  | .block _ b => nloops b
  | .loop b => nloops b + 1
  | _ => 0

def ifB (x : Bool) (a b : Option R) : Option R := if x = true then a else b

def xexec (fo : Fo U) (lo : Lo U) (kk : Nat) : ACode → Nat → XEnv U → XSt U → Nat → XK U R → Option R
  | .skip, _, env, σ, N, k => k .normal env σ N
  | .ret, _, env, σ, N, k => k .ret env σ N
  | .exit i, _, env, σ, N, k => k (.exit i) env σ N
  | .region ops, _, env, σ, N, k => xregion fo false ops N [] [] env σ fun gl env σ => k .normal (cleanG gl env) σ (N + 16 * ops.length)
  | .regionD ops crit, _, env, σ, N, k => xregion fo true ops N [] [] env σ fun gl env σ => match xcrit ops env N crit with
    | true => k .normal (cleanG gl env) σ (N + 16 * ops.length)
    | false => none
  | .seq a b, pos, env, σ, N, k => xexec fo lo kk a pos env σ N fun e env σ N => match e with
    | .normal => xexec fo lo kk b (pos + nloops a) env σ N k
    | e => k e env σ N
  | .cond c a b, pos, env, σ, N, k => match xop [] none env c with
    | some (.c (.t ⟨.bool, x⟩)) => ifB x (xexec fo lo kk a pos env σ N k) (xexec fo lo kk b (pos + nloops a) env σ N k)
    | _ => none
  | .block id b, pos, env, σ, N, k => xexec fo lo kk b pos env σ N fun e env σ N => match e with
    | .exit i => match Nat.beq i id with
      | true => k .normal env σ N
      | false => k (.exit i) env σ N
    | e => k e env σ N
  | .loop b, pos, env, σ, N, k => match lo pos with
    | none => none
    | some L => match xgoto kk L.own L.sh L.ts env σ N with
      | none => none
      | some h => (L.F h) >>= fun o => xout k L.outs o

section
variable {P : Program} {nt kk N : Nat} {env : XEnv U} {σ : XSt U} {env1 : Env} {σ1 : Store}

/-- a claim on states that does not look behind a change that the machine does not see -/
def CC (kk : Nat) (Q : Exit → Env → Store → Nat → Prop) : Prop := ∀ e N env σ N' env' σ', Conv kk N env σ N' env' σ' → Q e env' σ' N' → Q e env σ N

/-- what one run of a loop owes -/
def LAt (P : Program) (nt kk : Nat) (body : ACode) (sh : Shape) (ts : List Ty) (outs : List OSpec) (h : Hs U.D ts) (o : OSum U outs) : Prop :=
  ∀ env1 σ1, ER sh.st.length (fil U sh (Hs.cells U.D ts h)).2 (fun _ => true) (fil U sh (Hs.cells U.D ts h)).1 env1 → SR sh.st.length (fil U sh (Hs.cells U.D ts h)).2 σ1 → kk ≤ sh.st.length →
    ∀ Q, CC kk Q → (∀ env1' σ1', ER (oout outs o).2.2.2 (oout outs o).2.2.1 (fun _ => true) (oout outs o).2.1 env1' → SR (oout outs o).2.2.2 (oout outs o).2.2.1 σ1' → kk ≤ (oout outs o).2.2.2 → Q (oout outs o).1 env1' σ1' (oout outs o).2.2.2) →
      AWL P nt kk body env1 σ1 sh.st.length Q

/-- what a loop's function owes -/
def LSnd (P : Program) (nt kk : Nat) (body : ACode) (L : LSpec U) : Prop :=
  ∀ h o, L.F h = some o → LAt P nt kk body L.sh L.ts L.outs h o

/-- the loops of a piece of code, from a number on -/
def LoSnd (P : Program) (nt kk : Nat) (lo : Lo U) : Nat → ACode → Prop
  | pos, .seq a b => LoSnd P nt kk lo pos a ∧ LoSnd P nt kk lo (pos + nloops a) b
  | pos, .cond _ a b => LoSnd P nt kk lo pos a ∧ LoSnd P nt kk lo (pos + nloops a) b
  | pos, .block _ b => LoSnd P nt kk lo pos b
  | pos, .loop b => (∀ L, lo pos = some L → LSnd P nt kk b L)
  | _, _ => True

theorem CC.andThen {Q : Exit → Env → Store → Nat → Prop} {next : Env → Store → Nat → Prop} (h : CC kk Q) (hn : ∀ N env σ N' env' σ', Conv kk N env σ N' env' σ' → next env' σ' N' → next env σ N) : CC kk (andThen next Q) := by
  intro e N env σ N' env' σ' hc hq
  cases e with
  | normal => exact hn _ _ _ _ _ _ hc hq
  | _ => exact h _ _ _ _ _ _ _ hc hq

theorem xexec_sound {fo : Fo U} (hfo : FoSnd P fo) {lo : Lo U} : ∀ {c : ACode} {pos : Nat} {env : XEnv U} {σ : XSt U} {N : Nat} {k : XK U R} {r : R} {env1 : Env} {σ1 : Store} {Q : Exit → Env → Store → Nat → Prop},
    LoSnd P nt kk lo pos c → xexec fo lo kk c pos env σ N k = some r → ER N σ (fun _ => true) env env1 → SR N σ σ1 → kk ≤ N → CC kk Q →
    (∀ e env' σ' N' env1' σ1', k e env' σ' N' = some r → ER N' σ' (fun _ => true) env' env1' → SR N' σ' σ1' → kk ≤ N' → Q e env1' σ1' N') → AW P nt kk c env1 σ1 N Q
  | .skip, pos, env, σ, N, k, r, env1, σ1, Q, hl, hx, he, hS, hkk, hQ, hk => AW.skip (hk _ _ _ _ _ _ hx he hS hkk)
  | .ret, pos, env, σ, N, k, r, env1, σ1, Q, hl, hx, he, hS, hkk, hQ, hk => AW.ret (hk _ _ _ _ _ _ hx he hS hkk)
  | .exit i, pos, env, σ, N, k, r, env1, σ1, Q, hl, hx, he, hS, hkk, hQ, hk => AW.exit (hk _ _ _ _ _ _ hx he hS hkk)
  | .region ops, pos, env, σ, N, k, r, env1, σ1, Q, hl, hx, he, hS, hkk, hQ, hk =>
    AW.regionC (xregion_plain hfo (RS.begin he hS) hx fun gl' nf' env' σ' env1' σ1' G' h1 h2 => hk _ _ _ _ _ _ h1 h2.clean h2.sr (by omega))
  | .regionD ops crit, pos, env, σ, N, k, r, env1, σ1, Q, hl, hx, he, hS, hkk, hQ, hk => by
    refine AW.regionD (xregion_draw hfo (RS.begin he hS) hx fun gl' nf' env' σ' env1' σ1' G' h1 h2 => ?_)
    split at h1
    · rename_i hc
      exact ⟨xcrit_sound h2.er hc, hk _ _ _ _ _ _ h1 h2.clean h2.sr (by omega)⟩
    · cases h1
  | .seq a b, pos, env, σ, N, k, r, env1, σ1, Q, hl, hx, he, hS, hkk, hQ, hk => by
    simp only [xexec] at hx
    refine AW.seq (xexec_sound hfo hl.1 hx he hS hkk (hQ.andThen fun N env σ N' env' σ' hc h => AW.conv hc h) fun e env' σ' N' env1' σ1' h1 h2 h3 h4 => ?_)
    cases e with
    | normal => exact xexec_sound hfo hl.2 h1 h2 h3 h4 hQ hk
    | _ => exact hk _ _ _ _ _ _ h1 h2 h3 h4
  | .cond c a b, pos, env, σ, N, k, r, env1, σ1, Q, hl, hx, he, hS, hkk, hQ, hk => by
    simp only [xexec] at hx
    split at hx
    · rename_i x hc
      have hg : HG [] env (fun _ => true) := ⟨fun _ _ => rfl, fun k t b h => by simp [lk] at h⟩
      obtain ⟨p, v1, a1, a2, a3⟩ := xop_sound he hg hc
      have := a2.bool_inv; subst this
      refine AW.cond a1 (a3 rfl) (fun hb => ?_) (fun hb => ?_)
      · subst hb
        exact xexec_sound hfo hl.1 hx he hS hkk hQ hk
      · subst hb
        exact xexec_sound hfo hl.2 hx he hS hkk hQ hk
    · cases hx
  | .block id b, pos, env, σ, N, k, r, env1, σ1, Q, hl, hx, he, hS, hkk, hQ, hk => by
    simp only [xexec] at hx
    refine AW.block (xexec_sound hfo hl hx he hS hkk ?_ fun e env' σ' N' env1' σ1' h1 h2 h3 h4 => ?_)
    · intro e N env σ N' env' σ' hc hq
      cases e with
      | exit i =>
        simp only [inBlock] at hq ⊢
        split at hq
        · rename_i hi; rw [if_pos hi]; exact hQ _ _ _ _ _ _ _ hc hq
        · rename_i hi; rw [if_neg hi]; exact hQ _ _ _ _ _ _ _ hc hq
      | _ => exact hQ _ _ _ _ _ _ _ hc hq
    · cases e with
      | exit i =>
        simp only [inBlock]
        simp only at h1
        split at h1
        · rename_i hb; rw [if_pos (beq_true hb)]; exact hk _ _ _ _ _ _ h1 h2 h3 h4
        · rename_i hb; rw [if_neg (beq_false hb)]; exact hk _ _ _ _ _ _ h1 h2 h3 h4
      | _ => exact hk _ _ _ _ _ _ h1 h2 h3 h4
  | .loop b, pos, env, σ, N, k, r, env1, σ1, Q, hl, hx, he, hS, hkk, hQ, hk => by
    simp only [xexec] at hx
    split at hx
    · cases hx
    · rename_i L hL
      split at hx
      · cases hx
      · rename_i h hgo
        obtain ⟨o, ho, hko⟩ := Option.bind_eq_some_iff.1 hx
        rw [xout_eq] at hko
        obtain ⟨env1', σ1', c1, c2, c3, c4⟩ := xgoto_sound hgo he hS hkk
        exact AW.conv c1 (AW.loop_of (hl L hL h o ho env1' σ1' c2 c3 c4 Q hQ fun env1'' σ1'' h1 h2 h3 => hk _ _ _ _ _ _ hko h1 h2 h3))

/-- a loop's function, out of one round: what the round does is what the function's equation says -/
theorem LAt.of_round {fo : Fo U} (hfo : FoSnd P fo) {lo : Lo U} {body : ACode} {sh : Shape} {own : List (Pos × Ty)} {ts : List Ty} {outs : List OSpec} {h : Hs U.D ts} {o : OSum U outs} {F' : Hs U.D ts → Option (OSum U outs)}
    (hlo : LoSnd P nt kk lo 0 body) (hF' : ∀ h o, F' h = some o → LAt P nt kk body sh ts outs h o)
    (hx : xexec fo lo kk body 0 (fil U sh (Hs.cells U.D ts h)).1 (fil U sh (Hs.cells U.D ts h)).2 sh.st.length (fun e env σ N => match e with
      | .normal => match xgoto kk own sh ts env σ N with
        | some h' => F' h'
        | none => none
      | e => oput kk outs e env σ N) = some o) : LAt P nt kk body sh ts outs h o := by
  intro env1 σ1 he hS hkk Q hQ hk
  refine AWL.round (xexec_sound hfo hlo hx he hS hkk (hQ.andThen fun N env σ N' env' σ' hc h => AWL.conv hc h) fun e env' σ' N' env1' σ1' h1 h2 h3 h4 => ?_)
  have hout : ∀ e', e' = e → e' ≠ .normal → oput kk outs e' env' σ' N' = some o → Q e env1' σ1' N' := by
    intro e' he' hne hp
    subst he'
    obtain ⟨e1, s1, c1, c2, c3, c4, c5⟩ := oput_sound hp h2 h3 h4
    exact hQ _ _ _ _ _ _ _ c1 (by rw [c5]; exact hk _ _ c2 c3 c4)
  cases e with
  | normal =>
    simp only at h1
    split at h1
    · rename_i h' hgo
      obtain ⟨e1, s1, c1, c2, c3, c4⟩ := xgoto_sound hgo h2 h3 h4
      exact AWL.conv c1 (hF' h' o h1 e1 s1 c2 c3 c4 Q hQ hk)
    · cases h1
  | exit i => exact hout _ rfl (by simp) h1
  | ret => exact hout _ rfl (by simp) h1
  | goto l => exact hout _ rfl (by simp) h1
  | panic ch => exact hout _ rfl (by simp) h1
  | outgrown => exact hout _ rfl (by simp) h1
where
  oput_sound {N : Nat} {env : XEnv U} {σ : XSt U} {env1 : Env} {σ1 : Store} : ∀ {outs : List OSpec} {e : Exit} {o : OSum U outs}, oput kk outs e env σ N = some o → ER N σ (fun _ => true) env env1 → SR N σ σ1 → kk ≤ N →
      ∃ env1' σ1', Conv kk N env1 σ1 (oout outs o).2.2.2 env1' σ1' ∧ ER (oout outs o).2.2.2 (oout outs o).2.2.1 (fun _ => true) (oout outs o).2.1 env1' ∧ SR (oout outs o).2.2.2 (oout outs o).2.2.1 σ1' ∧ kk ≤ (oout outs o).2.2.2 ∧ e = (oout outs o).1
    | [], e, o, h, _, _, _ => by simp [oput] at h
    | [a], e, o, h, he, hS, hkk => by
      simp only [oput] at h
      split at h
      · rename_i hee
        obtain ⟨e1, s1, c1, c2, c3, c4⟩ := xgoto_sound h he hS hkk
        exact ⟨e1, s1, c1, c2, c3, c4, exEq_some hee⟩
      · cases h
    | a :: b :: r, e, o, h, he, hS, hkk => by
      simp only [oput] at h
      split at h
      · rename_i hee
        split at h
        · rename_i hh hgo
          cases h
          obtain ⟨e1, s1, c1, c2, c3, c4⟩ := xgoto_sound hgo he hS hkk
          exact ⟨e1, s1, c1, c2, c3, c4, exEq_some hee⟩
        · cases h
      · split at h
        · rename_i o' ho
          cases h
          obtain ⟨e1, s1, c1, c2, c3, c4, c5⟩ := oput_sound ho he hS hkk
          exact ⟨e1, s1, c1, c2, c3, c4, c5⟩
        · cases h

end
end Go.Proofs.Ytkdepbmeaiefeaa.Shv
