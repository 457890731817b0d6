/- Typed states over the abstract machine: regions. -/
import Derived.Test.YtkdepbmeaiefeaaShvY8
namespace Go.Proofs.Ytkdepbmeaiefeaa.Shv
set_option linter.all false
open Go

variable {U : Uni} {R : Type}

def freshG (gl : GL) (gd : Option (Nat × Bool)) (dst : Option Nat) : Bool :=
  match dst with
  | none => true
  | some d => (gl.all fun e => !(Nat.beq e.1 d) && !(Nat.beq e.2.1 d)) && (match gd with
    | some g => !(Nat.beq g.1 d)
    | none => true)

def xbind (dst : Option Nat) (v : XV U) (env : XEnv U) : XEnv U :=
  match dst with
  | none => env
  | some d => (d, v) :: env

def glAdd (gl : GL) (gd : Option (Nat × Bool)) (dst : Option Nat) : GL :=
  match gd, dst with
  | some g, some d => (d, g) :: gl
  | _, _ => gl

abbrev Fo (U : Uni) := Nat → List (FSpec U)
abbrev Getv (U : Uni) := XEnv U → Option (List (XV U))

/-- the state at a call, by a specification of the callee -/
def prep (s : FSpec U) (getv : Getv U) (env : XEnv U) (σ : XSt U) (key : Nat) : Option (XEnv U × XSt U × List Nat × Hs U.D s.ts) :=
  match getv env with
  | none => none
  | some vs => match scS σ 0 0 s.st (scVs s.sa vs ([], [])) [] with
    | (bs, fz) => match xfz fz env σ with
      | none => none
      | some (env', σ') => match getv env' with
        | none => none
        | some vs' => match nodupB bs && ((bs.all fun b => Nat.ble (b + 1) key) && (Nat.beq bs.length s.st.length && Nat.ble s.rst.length (bs.length + 16))) with
          | false => none
          | true => match chkVs bs s.sa vs', chkS bs σ' 0 s.st with
            | some a, some b => match Hs.dec U.D s.ts (a ++ b) with
              | some h => some (env', σ', bs, h)
              | none => none
            | _, _ => none

def xraw (getv : Getv U) (env : XEnv U) (σ : XSt U) (key : Nat) (k : XEnv U → XSt U → XV U → Option R) : List (FSpec U) → Option R
  | [] => none
  | s :: r => match prep s getv env σ key with
    | none => xraw getv env σ key k r
    | some (env', σ', bs, h) => (s.F h) >>= fun res => match xdimc σ' (s.rest res) 0 bs with
      | none => none
      | some c => if c = true then k env' (xgive σ' bs (back bs key) (s.rest res)) ((s.res res).mb (back bs key)) else none

def isNil {α : Type} : List α → Bool
  | [] => true
  | _ => false

/-- a call without blocks -/
def prepP (s : FSpec U) (getv : Getv U) (env : XEnv U) : Option (Hs U.D s.ts) :=
  match isNil s.st && isNil s.rst, getv env with
  | true, some vs => match vs.all solidV, chkVs [] s.sa vs with
    | true, some a => Hs.dec U.D s.ts a
    | _, _ => none
  | _, _ => none

def xpure (getv : Getv U) (env : XEnv U) (g : Bool) (k : XV U → Option R) : List (FSpec U) → Option R
  | [] => none
  | s :: r => match prepP s getv env with
    | none => xpure getv env g k r
    | some h => (if g = true then s.F h else some (Hs.dfl U s.us)) >>= fun res => match solidV (s.res res) with
      | true => k (s.res res)
      | false => none

/-! calls that hand over fresh blocks, where a region draws its order -/

def hasB (σ : XSt U) (b : Nat) : Bool := match lk σ b with
  | some _ => true
  | none => false

def XC.solid2 (σ : XSt U) : XC U → Bool
  | .t _ | .iptr .. | .cap0 | .nilp | .nilfn => true
  | .ptr b _ => hasB σ b
  | .eptr b _ _ _ => hasB σ b
  | .fn _ caps => caps.all (hasB σ)
  | .arr b => match lk σ b with
    | some x => (match x.dim with
      | some _ => true
      | none => false)
    | none => false
  | .dead => false

def solidV2 (σ : XSt U) : XV U → Bool
  | .c x => x.solid2 σ
  | .agg cs => cs.all (XC.solid2 σ)
  | .tup vs => go σ vs
where go (σ : XSt U) : List (XV U) → Bool
  | [] => true
  | v :: vs => solidV2 σ v && go σ vs

def XC.conc2 (σ : XSt U) : XC U → C
  | .t c => .t (c.enc U)
  | .iptr ty x o => .iptr (ty.enc U x) o
  | .cap0 => .cap0
  | .nilp => .nilp
  | .nilfn => .nilfn
  | .fn f caps => .fn f caps
  | .ptr b o => .ptr b o
  | .eptr b ty i o => .eptr b (ty.sz U) i o
  | .arr b => match lk σ b with
    | some x => (match x.dim with
      | some p => .arr b p.1 0 p.2
      | none => .dead)
    | none => .dead
  | .dead => .dead

def concV2 (σ : XSt U) : XV U → V
  | .c x => .c (x.conc2 σ)
  | .agg cs => .agg (cs.map (XC.conc2 σ))
  | .tup vs => .tup (go σ vs)
where go (σ : XSt U) : List (XV U) → List V
  | [] => []
  | v :: vs => concV2 σ v :: go σ vs

def solidB (σ : XSt U) : XB U → Bool
  | .box cs => cs.all (XC.solid2 σ)
  | .arr _ _ => true
  | .rows .. => false

def concB (σ : XSt U) : XB U → Blk
  | .box cs => .box (cs.map (XC.conc2 σ))
  | .arr ty l => .arr (ty.sz U) (l.map (ty.enc U))
  | .rows sz _ => .arr sz []

def concS (σ : XSt U) : XSt U → Store
  | [] => []
  | (b, x) :: r => (b, concB σ x) :: concS σ r

def solidS (σ : XSt U) (l : XSt U) : Bool := l.all fun p => Nat.ble (p.1 + 1) 16 && solidB σ p.2

def prepD (s : FSpec U) (getv : Getv U) (env : XEnv U) : Option (Hs U.D s.ts) :=
  match isNil s.st && Nat.ble s.rst.length 16, getv env with
  | true, some vs => match vs.all solidV, chkVs [] s.sa vs with
    | true, some a => Hs.dec U.D s.ts a
    | _, _ => none
  | _, _ => none

def xdrawn (getv : Getv U) (env : XEnv U) (σ : XSt U) (key : Nat) (k : XSt U → XV U → Option R) : List (FSpec U) → Option R
  | [] => none
  | s :: r => match prepD s getv env with
    | none => xdrawn getv env σ key k r
    | some h => (s.F h) >>= fun res => match solidV2 (s.rest res) (s.res res) && solidS (s.rest res) (s.rest res) with
      | true => k (xgive σ [] (back [] key) (s.rest res)) ((s.res res).mb (back [] key))
      | false => none

def xcall (fo : Fo U) (d : Bool) (gd : Option (Nat × Bool)) (f : Nat) (getv : Getv U) (gl : GL) (env : XEnv U) (σ : XSt U) (key : Nat) (k : XEnv U → XSt U → XV U → Option R) : Option R :=
  match gd with
  | none => match d with
    | false => xraw getv env σ key k (fo f)
    | true => xdrawn getv env σ key (fun σ v => k env σ v) (fo f)
  | some _ => match gval gl env fuelG gd with
    | some g => xpure getv env g (fun v => k env σ v) (fo f)
    | none => none

abbrev NF := List (Nat × Bool)

/-- a guard that is known to fail -/
def isF (nf : NF) (gl : GL) : Nat → Option (Nat × Bool) → Bool
  | 0, _ => false
  | _, none => false
  | fu + 1, some (t, b) => (nf.any fun g => Nat.beq g.1 t && (g.2 == b)) || isF nf gl fu (lk gl t)

def freshN (nf : NF) (dst : Option Nat) : Bool :=
  match dst with
  | none => true
  | some d => nf.all fun g => !(Nat.beq g.1 d)

def xskip : XV U := .c (.t ⟨.bool, false⟩)

def xstep (fo : Fo U) (d : Bool) (o : AOper) (key : Nat) (gl : GL) (nf : NF) (env : XEnv U) (σ : XSt U) (k : GL → NF → XEnv U → XSt U → Option R) : Option R :=
  match freshG gl o.guard o.dst && freshN nf o.dst with
  | false => none
  | true => match isF nf gl fuelG o.guard with
    | true => match gval gl env fuelG o.guard with
      | some _ => k (glAdd gl o.guard o.dst) nf (xbind o.dst xskip env) σ
      | none => none
    | false => match o.op with
      | .call f args => xcall fo d o.guard f (fun e => xops' gl o.guard e args) gl env σ key fun env σ v => k (glAdd gl o.guard o.dst) nf (xbind o.dst v env) σ
      | .callv x args => match d, o.guard, xop gl none env x with
        | false, none, some (.c (.fn f _)) => xraw (fun e => match xop gl none e x, xops' gl none e args with
          | some (.c (.fn f' caps')), some vs => match Nat.beq f' f with
            | true => some (vs ++ caps'.map fun b => .c (.ptr b 0))
            | false => none
          | _, _ => none) env σ key (fun env σ v => k gl nf (xbind o.dst v env) σ) (fo f)
        | _, _, _ => none
      | op => match xval gl o.guard env σ key op with
        | none => none
        | some (c, v, σ') => match o.guard with
          | none => if c = true then k gl nf (xbind o.dst v env) σ' else none
          | some gd => match gval gl env fuelG (some gd) with
            | none => none
            | some g => match op.neutral with
              | true => if (c || !g) = true then k (glAdd gl o.guard o.dst) nf (xbind o.dst v env) σ else none
              | false => if g = true then (if c = true then k (glAdd gl o.guard o.dst) nf (xbind o.dst v env) σ' else none) else k (glAdd gl o.guard o.dst) (gd :: nf) (xbind o.dst xskip env) σ

/-- a part of an own array: the array is frozen first -/
def preFz (gl : GL) (o : AOper) (env : XEnv U) (σ : XSt U) : Option (XEnv U × XSt U) :=
  match o.op with
  | .slc _ x _ _ => match xop gl o.guard env x with
    | some (.c (.arr b)) => match lk σ b with
      | some (.arr t _) => xfz [(b, t)] env σ
      | _ => none
    | _ => none
  | _ => none

def xstepF (fo : Fo U) (d : Bool) (o : AOper) (key : Nat) (gl : GL) (nf : NF) (env : XEnv U) (σ : XSt U) (k : GL → NF → XEnv U → XSt U → Option R) : Option R :=
  match d with
  | true => xstep fo true o key gl nf env σ k
  | false => match preFz gl o env σ with
    | none => xstep fo false o key gl nf env σ k
    | some p => xstep fo false o key gl nf p.1 p.2 k

def xregion (fo : Fo U) (d : Bool) : List AOper → Nat → GL → NF → XEnv U → XSt U → (GL → XEnv U → XSt U → Option R) → Option R
  | [], _, gl, _, env, σ, k => k gl env σ
  | o :: r, key, gl, nf, env, σ, k => xstepF fo d o key gl nf env σ fun gl nf env σ => xregion fo d r (key + 16) gl nf env σ k

def inGl (gl : GL) (k : Nat) : Bool := gl.any fun e => Nat.beq e.1 k

/-- the slots that were bound under a guard are dropped at a region's end -/
def clean (gl : GL) : XEnv U → XEnv U
  | [] => []
  | (k, v) :: r => match inGl gl k with
    | true => clean gl r
    | false => (k, v) :: clean gl r

def cleanG (gl : GL) (env : XEnv U) : XEnv U :=
  match gl with
  | [] => env
  | _ => clean gl env

/-! soundness -/

structure RS (key : Nat) (gl : GL) (nf : NF) (env : XEnv U) (σ : XSt U) (env1 : Env) (σ1 : Store) (G : Nat → Bool) : Prop where
  er : ER key σ G env env1
  hg : HG gl env G
  sr : SR key σ σ1
  hn : ∀ g, g ∈ nf → GdV env G (some g) = false

section
variable {P : Program} {kk key : Nat} {σ σ' : XSt U} {σ1 σ1' : Store} {env : XEnv U} {env1 : Env} {G : Nat → Bool} {gl : GL} {gd : Option (Nat × Bool)} {nf : NF} {dst : Option Nat} {v : XV U} {v1 : V}

theorem lk_xbind {d : Option Nat} {v : XV U} {env : XEnv U} {k : Nat} : lk (xbind d v env) k = if d = some k then some v else lk env k := by
  cases d with
  | none => simp [xbind]
  | some d =>
    simp only [xbind, lk]
    cases h : Nat.beq d k with
    | true => rw [beq_true h]; simp
    | false =>
      have := beq_false h
      simp [this]

theorem gd_def {o : Option (Nat × Bool)} {g : Bool} (h : gval gl env fuelG o = some g) : o = none ∨ ∃ t b y, o = some (t, b) ∧ bval env t b = some y := by
  cases o with
  | none => exact .inl rfl
  | some x =>
    obtain ⟨t, b⟩ := x
    obtain ⟨y, hy⟩ := gval_def h
    exact .inr ⟨t, b, y, rfl, hy⟩

theorem isF_sound (hg : HG gl env G) (hn : ∀ g, g ∈ nf → GdV env G (some g) = false) : ∀ {fu : Nat} {gd : Option (Nat × Bool)}, isF nf gl fu gd = true → GdV env G gd = false
  | 0, gd, h => by simp [isF] at h
  | fu + 1, none, h => by simp [isF] at h
  | fu + 1, some (t, b), h => by
    simp only [isF, Bool.or_eq_true, List.any_eq_true, Bool.and_eq_true, beq_iff_eq] at h
    rcases h with ⟨⟨t', b'⟩, hm, h1, h2⟩ | h
    · have := beq_true h1
      simp only at this h2
      subst this; subst h2
      exact hn _ hm
    · have := isF_sound hg hn h
      rw [hg.lk t] at this
      simp [GdV, this]

theorem RS.bind (he : ER key σ' G env env1) (hg : HG gl env G) (hS : SR key σ' σ1') (hn : ∀ g, g ∈ nf → GdV env G (some g) = false) (hv : VR key σ' v v1) (hd : gd = none ∨ ∃ t b y, gd = some (t, b) ∧ bval env t b = some y) (hf : freshG gl gd dst = true) (hfn : freshN nf dst = true) :
    RS key (glAdd gl gd dst) nf (xbind dst v env) σ' (bindDst env1 dst (GdV env G gd) v1) σ1' (fun k => if dst = some k then GdV env G gd else G k) := by
  refine ⟨fun k w hk => ?_, ?_, hS, fun g hgm => ?_⟩
  · rw [lk_xbind] at hk
    rw [look_bind]
    split at hk
    · rename_i h; cases hk; rw [if_pos h, if_pos h]; exact ⟨v1, rfl, hv⟩
    · rename_i h; rw [if_neg h, if_neg h]; exact he k w hk
  · cases dst with
    | none =>
      have : glAdd gl gd none = gl := by cases gd <;> rfl
      rw [this]
      simp only [xbind, reduceCtorEq, if_false]
      exact hg
    | some d =>
      simp only [freshG, Bool.and_eq_true, List.all_eq_true, Bool.not_eq_true'] at hf
      have hfresh : ∀ k t b, lk gl k = some (t, b) → k ≠ d ∧ t ≠ d := by
        intro k t b hk
        have hm : ∀ {l : GL}, lk l k = some (t, b) → (k, t, b) ∈ l := by
          intro l
          induction l with
          | nil => intro h; simp [lk] at h
          | cons e r ih =>
            obtain ⟨k', e⟩ := e
            intro h
            simp only [lk] at h
            split at h
            · rename_i hb; cases h; rw [beq_true hb]; simp
            · exact List.mem_cons_of_mem _ (ih h)
        have := hf.1 _ (hm hk)
        exact ⟨beq_false this.1, beq_false this.2⟩
      have hbv : ∀ t b, t ≠ d → bval (xbind (some d) v env) t b = bval env t b := by
        intro t b ht
        unfold bval
        rw [lk_xbind, if_neg (by simp; exact fun e => ht e.symm)]
      have old : ∀ k t b, lk gl k = some (t, b) → ∃ y, bval (xbind (some d) v env) t b = some y ∧ (if some d = some k then GdV env G gd else G k) = ((if some d = some t then GdV env G gd else G t) && y) := by
        intro k t b hk
        obtain ⟨h1, h2⟩ := hfresh k t b hk
        obtain ⟨y, h3, h4⟩ := hg.held k t b hk
        refine ⟨y, by rw [hbv t b h2]; exact h3, ?_⟩
        rw [if_neg (by simp; exact fun e => h1 e.symm), if_neg (by simp; exact fun e => h2 e.symm)]
        exact h4
      cases gd with
      | none =>
        refine ⟨fun k hk => ?_, fun k t b hk => old k t b hk⟩
        by_cases hdk : some d = some k
        · rw [if_pos hdk]; rfl
        · rw [if_neg hdk]; exact hg.free k hk
      | some g =>
        obtain ⟨t0, b0⟩ := g
        have ht0 : t0 ≠ d := by
          have := hf.2
          simp only [Bool.not_eq_true'] at this
          exact beq_false this
        refine ⟨fun k hk => ?_, fun k t b hk => ?_⟩
        · simp only [glAdd, lk] at hk
          split at hk
          · cases hk
          · rename_i hb
            rw [if_neg (by simp; exact beq_false hb)]
            exact hg.free k hk
        · simp only [glAdd, lk] at hk
          split at hk
          · rename_i hb
            cases hk
            have := beq_true hb; subst this
            rcases hd with h | ⟨t, b, y, h, hy⟩
            · cases h
            · cases h
              refine ⟨y, by rw [hbv _ _ ht0]; exact hy, ?_⟩
              rw [if_pos rfl, if_neg (by simp; exact fun e => ht0 e.symm)]
              simp [GdV, hy]
          · exact old k t b hk
  · obtain ⟨t, b⟩ := g
    have h0 := hn _ hgm
    cases dst with
    | none => simpa [xbind] using h0
    | some d =>
      simp only [freshN, List.all_eq_true, Bool.not_eq_true'] at hfn
      have htd : t ≠ d := beq_false (hfn _ hgm)
      simp only [GdV] at h0 ⊢
      rw [if_neg (by simp; exact fun e => htd e.symm)]
      have : bval (xbind (some d) v env) t b = bval env t b := by
        unfold bval
        rw [lk_xbind, if_neg (by simp; exact fun e => htd e.symm)]
      rw [this]; exact h0

theorem skip_vr {N : Nat} {σ : XSt U} : VR N σ xskip (.c (.t (.bool false))) := .c (.t (U := U) ⟨.bool, false⟩)

/-- a step that is skipped -/
theorem skip_step {o : AOper} (h : RS key gl nf env σ env1 σ1 G) (hdef : o.guard = none ∨ ∃ t b y, o.guard = some (t, b) ∧ bval env t b = some y) (hg : GdV env G o.guard = false) (hf : freshG gl o.guard o.dst = true) (hfn : freshN nf o.dst = true) {v : XV U} {v1 : V} (hv : VR (key + 16) σ v v1) :
    DStep P o key env1 σ1 false v1 σ1 ∧ RS (key + 16) (glAdd gl o.guard o.dst) nf (xbind o.dst v env) σ (bindDst env1 o.dst false v1) σ1 (fun k => if o.dst = some k then false else G k) := by
  have hag := aguard_of h.er hdef
  rw [hg] at hag
  refine ⟨.skip hag rfl, ?_⟩
  have := RS.bind (dst := o.dst) (h.er.mono (Keep.more (by omega))) h.hg (h.sr.mono (Nat.le_add_right key 16)) h.hn hv hdef hf hfn
  rw [hg] at this
  exact this

/-- what a step that calls nothing owes -/
theorem op_step {o : AOper} {c : Bool} (h : RS key gl nf env σ env1 σ1 G) (hx : xval gl o.guard env σ key o.op = some (c, v, σ')) (hdef : o.guard = none ∨ ∃ t b y, o.guard = some (t, b) ∧ bval env t b = some y) (hf : freshG gl o.guard o.dst = true) (hfn : freshN nf o.dst = true) :
    (GdV env G o.guard = true → c = true → ∃ v1 σ1', DStep P o key env1 σ1 true v1 σ1' ∧ RS (key + 16) (glAdd gl o.guard o.dst) nf (xbind o.dst v env) σ' (bindDst env1 o.dst true v1) σ1' (fun k => if o.dst = some k then true else G k)) ∧
    (GdV env G o.guard = false → o.op.neutral = true → ∃ v1, DStep P o key env1 σ1 false v1 σ1 ∧ RS (key + 16) (glAdd gl o.guard o.dst) nf (xbind o.dst v env) σ (bindDst env1 o.dst false v1) σ1 (fun k => if o.dst = some k then false else G k)) := by
  obtain ⟨⟨v1, hv, ha⟩, hk, hn⟩ := xval_sound h.er h.hg h.sr hx
  have hag := aguard_of h.er hdef
  refine ⟨fun hg hc => ?_, fun hg hneu => ?_⟩
  · obtain ⟨p, σ1', h1, h2, h3⟩ := ha hg hc
    rw [hg] at hag
    have hd : o.op.drawn = true := by
      generalize o.op = oo at hx
      cases oo <;> first | rfl | (simp [xval] at hx)
    have hs : DStep P o key env1 σ1 true v1 (if o.op.neutral then σ1 else σ1') := .op hag hd h1 (fun _ => h2) (.inr rfl)
    have e : (if o.op.neutral = true then σ1 else σ1') = σ1' := by
      split
      · rename_i hneu; exact (neutral_store hneu h1).symm
      · rfl
    rw [e] at hs
    refine ⟨v1, σ1', hs, ?_⟩
    have := RS.bind (dst := o.dst) (h.er.mono hk) h.hg h3 h.hn hv hdef hf hfn
    rw [hg] at this
    exact this
  · rw [hn hneu] at hv
    obtain ⟨h1, h2⟩ := skip_step (P := P) h hdef hg hf hfn hv
    exact ⟨v1, h1, h2⟩

theorem ren_concC {x : XC U} (h : x.solid = true) : x.conc.ren [] = x.conc := by
  cases x <;> simp [XC.solid] at h <;> try rfl
  rename_i f caps
  cases caps with
  | nil => rfl
  | cons => simp [XC.solid] at h

theorem ren_conc : ∀ {x : XV U}, solidV x = true → (concV x).ren [] = concV x
  | .c x, h => by simp only [solidV] at h; simp only [concV, V.ren, ren_concC h]
  | .agg cs, h => by
    simp only [solidV, List.all_eq_true] at h
    simp only [concV, V.ren, List.map_map]
    congr 1
    exact List.map_congr_left fun c hc => ren_concC (h c hc)
  | .tup vs, h => by
    simp only [solidV] at h
    simp only [concV, V.ren]
    rw [go vs h]
where go : ∀ (vs : List (XV U)), solidV.go vs = true → V.ren.go [] (concV.go vs) = concV.go vs
  | [], _ => rfl
  | v :: vs, h => by
    simp only [solidV.go, Bool.and_eq_true] at h
    simp only [concV.go, V.ren.go, ren_conc h.1, go vs h.2]

/-- the specifications of the callees hold -/
def FoSnd (P : Program) (fo : Fo U) : Prop := ∀ f s, s ∈ fo f → s.f = f ∧ hasBody P f = true ∧ FSnd P s

theorem cr_conc2 {N : Nat} {σ0 : XSt U} {x : XC U} {d : C} (h : CR N σ0 x d) (hs : x.solid2 σ0 = true) : d = x.conc2 σ0 := by
  cases h <;> simp only [XC.solid2, Bool.false_eq_true] at hs <;> try rfl
  rename_i b sz n hb hh
  simp only [XC.conc2]
  split at hs
  · rename_i x hx
    split at hs
    · rename_i p hp
      have := hh x hx p hp
      subst this
      simp only [hp]
    · cases hs
  · cases hs

theorem concV2_go_get {σ0 : XSt U} : ∀ {vs : List (XV U)} {i : Nat}, (concV2.go σ0 vs)[i]? = (vs[i]?).map (concV2 σ0)
  | [], i => by simp [concV2.go]
  | v :: vs, 0 => by simp [concV2.go]
  | v :: vs, i + 1 => by simp [concV2.go, concV2_go_get]
theorem solidV2_go_get {σ0 : XSt U} : ∀ {vs : List (XV U)} {i : Nat} {v : XV U}, solidV2.go σ0 vs = true → vs[i]? = some v → solidV2 σ0 v = true
  | [], i, v, _, h => by simp at h
  | x :: vs, 0, v, hs, h => by simp [solidV2.go] at hs; simp at h; subst h; exact hs.1
  | x :: vs, i + 1, v, hs, h => by simp [solidV2.go] at hs; exact solidV2_go_get hs.2 (by simpa using h)

theorem crs_conc2 {N : Nat} {σ0 : XSt U} : ∀ {xs : List (XC U)} {ds : List C}, All2 (CR N σ0) xs ds → (∀ x, x ∈ xs → x.solid2 σ0 = true) → ds = xs.map (XC.conc2 σ0)
  | [], [], _, _ => rfl
  | x :: xs, d :: ds, .cons h1 h2, hs => by
    rw [List.map_cons, ← cr_conc2 h1 (hs x (by simp)), ← crs_conc2 h2 (fun x hx => hs x (by simp [hx]))]

theorem vr_conc2 {N : Nat} {σ0 : XSt U} {x : XV U} {d : V} (h : VR N σ0 x d) : solidV2 σ0 x = true → d = concV2 σ0 x := by
  induction h with
  | c h => intro hs; simp only [solidV2] at hs; rw [cr_conc2 h hs]; rfl
  | agg h =>
    intro hs
    simp only [solidV2, List.all_eq_true] at hs
    simp only [concV2]
    rw [crs_conc2 h hs]
  | tup xs ds hl h ih =>
    intro hs
    simp only [solidV2] at hs
    simp only [concV2]
    congr 1
    apply List.ext_getElem?
    intro i
    rw [concV2_go_get]
    cases hx : xs[i]? with
    | none =>
      have := List.getElem?_eq_none_iff.1 hx
      simp; omega
    | some x =>
      have hi := (List.getElem?_eq_some_iff.1 hx).1
      have hd := List.getElem?_eq_getElem (l := ds) (i := i) (by omega)
      rw [hd, Option.map_some]
      congr 1
      exact ih i x _ hx hd (solidV2_go_get hs hx)

theorem br_conc {N : Nat} {σ0 : XSt U} {x : XB U} {y : Blk} (h : BR N σ0 x y) (hs : solidB σ0 x = true) : y = concB σ0 x := by
  cases h with
  | box h => simp only [solidB, List.all_eq_true] at hs; simp only [concB]; rw [crs_conc2 h hs]
  | arr t l => rfl
  | rows => simp [solidB] at hs

theorem sget_concS {σ0 : XSt U} : ∀ {l : XSt U} {b : Nat}, sget (concS σ0 l) b = (lk l b).map (concB σ0)
  | [], b => rfl
  | (k, x) :: r, b => by
    simp only [concS, sget, lk]
    cases h : Nat.beq k b with
    | true => rw [if_pos (beq_true h)]; rfl
    | false => rw [if_neg (beq_false h)]; exact sget_concS

theorem mb_sh {k : Nat} {c : C} : c.mb (back [] k) = c.sh k := by
  have : back [] k = fun b => k + b := by funext b; simp [back]
  rw [this]
  cases c <;> rfl

theorem mbV_sh {k : Nat} : ∀ {v : V}, v.mb (back [] k) = v.sh k
  | .c x => by simp only [V.mb, V.sh, mb_sh]
  | .agg cs => by
    simp only [V.mb, V.sh]
    exact congrArg V.agg (List.map_congr_left fun c _ => mb_sh)
  | .tup vs => by simp only [V.mb, V.sh]; rw [go vs]
where go : ∀ (vs : List V), V.mb.go (back [] k) vs = V.sh.go k vs
  | [] => rfl
  | v :: vs => by simp only [V.mb.go, V.sh.go]; rw [mbV_sh, go vs]

theorem give_adopt {k : Nat} {σ1 : Store} : ∀ {s : Store}, giveSt σ1 [] (back [] k) s = adopt σ1 k s
  | [] => rfl
  | (b, x) :: r => by
    simp only [giveSt, adopt]
    rw [give_adopt]
    have : back [] k b = k + b := by simp [back]
    rw [this]
    refine congrArg _ ?_
    cases x with
    | box cs => exact congrArg Blk.box (List.map_congr_left fun c _ => mb_sh)
    | arr sz es => rfl

theorem lk_filS : ∀ {ss : List SB} {j : Nat} {a : Cs U} {i : Nat} {x : XB U}, lk (filS j ss a) i = some x → j ≤ i ∧ i < j + ss.length
  | [], j, a, i, x, h => by simp [filS, lk] at h
  | s :: ss, j, a, i, x, h => by
    simp only [filS] at h
    split at h
    · simp only [lk] at h
      split at h
      · rename_i hb; have := beq_true hb; subst this; simp
      · have := lk_filS h; simp; omega
    · have := lk_filS h; simp; omega

theorem posAll_self {bs : List Nat} : ∀ {caps : List Nat}, (∀ c, c ∈ caps → pos bs c = some c) → posAll bs caps = some caps
  | [], _ => rfl
  | c :: cs, h => by simp only [posAll, h c (by simp), posAll_self (caps := cs) (fun x hx => h x (by simp [hx]))]

theorem cr_self {N : Nat} {σ0 : XSt U} (hb : ∀ b x, lk σ0 b = some x → b < N) {x : XC U} (hs : x.solid2 σ0 = true) : CR N σ0 x (x.conc2 σ0) ∧ CSub ((x.conc2 σ0).ren (List.range N)) (x.conc2 σ0) := by
  have hp : ∀ b, hasB σ0 b = true → pos (List.range N) b = some b := by
    intro b h
    unfold hasB at h
    split at h
    · rename_i y hy; exact pos_of List.nodup_range (by simp [hb b y hy])
    · cases h
  cases x with
  | t c => exact ⟨.t c, CSub.refl _⟩
  | ptr b o =>
    simp only [XC.solid2] at hs
    refine ⟨.ptr b o, ?_⟩
    simp only [XC.conc2, C.ren, hp b hs]; exact CSub.refl _
  | eptr b ty i o =>
    simp only [XC.solid2] at hs
    refine ⟨.eptr b ty i o, ?_⟩
    simp only [XC.conc2, C.ren, hp b hs]; exact CSub.refl _
  | iptr ty x o => exact ⟨.iptr ty x o, CSub.refl _⟩
  | arr b =>
    simp only [XC.solid2] at hs
    split at hs
    · rename_i y hy
      split at hs
      · rename_i p hd
        simp only [XC.conc2, hy, hd]
        refine ⟨.arr b p.1 p.2 (hb b y hy) fun z hz q hq => ?_, ?_⟩
        · rw [hy] at hz; cases hz; rw [hd] at hq; cases hq; rfl
        · simp only [C.ren, hp b (by simp [hasB, hy])]; exact CSub.refl _
      · cases hs
    · cases hs
  | cap0 => exact ⟨.cap0, CSub.refl _⟩
  | nilp => exact ⟨.nilp, CSub.refl _⟩
  | nilfn => exact ⟨.nilfn, CSub.refl _⟩
  | fn f caps =>
    simp only [XC.solid2, List.all_eq_true] at hs
    refine ⟨.fn f caps, ?_⟩
    have : posAll (List.range N) caps = some caps := posAll_self fun c hc => hp c (hs c hc)
    simp only [XC.conc2, C.ren, this]; exact CSub.refl _
  | dead => simp [XC.solid2] at hs

theorem crs_self {N : Nat} {σ0 : XSt U} (hb : ∀ b x, lk σ0 b = some x → b < N) : ∀ {xs : List (XC U)}, (∀ x, x ∈ xs → x.solid2 σ0 = true) → All2 (CR N σ0) xs (xs.map (XC.conc2 σ0)) ∧ All2 CSub ((xs.map (XC.conc2 σ0)).map (C.ren (List.range N))) (xs.map (XC.conc2 σ0))
  | [], _ => ⟨.nil, .nil⟩
  | x :: xs, hs => by
    obtain ⟨h1, h2⟩ := cr_self hb (hs x (by simp))
    obtain ⟨h3, h4⟩ := crs_self hb (xs := xs) (fun x hx => hs x (by simp [hx]))
    exact ⟨.cons h1 h3, .cons h2 h4⟩

theorem concV2_go_length {σ0 : XSt U} : ∀ {vs : List (XV U)}, (concV2.go σ0 vs).length = vs.length
  | [] => rfl
  | v :: vs => by simp [concV2.go, concV2_go_length]

theorem vr_self {N : Nat} {σ0 : XSt U} (hb : ∀ b x, lk σ0 b = some x → b < N) : ∀ {x : XV U}, solidV2 σ0 x = true → VR N σ0 x (concV2 σ0 x) ∧ VSub ((concV2 σ0 x).ren (List.range N)) (concV2 σ0 x)
  | .c x, hs => by
    obtain ⟨h1, h2⟩ := cr_self hb (x := x) (by simpa [solidV2] using hs)
    exact ⟨.c h1, .c h2⟩
  | .agg cs, hs => by
    simp only [solidV2, List.all_eq_true] at hs
    obtain ⟨h1, h2⟩ := crs_self hb hs
    exact ⟨.agg h1, .agg h2⟩
  | .tup vs, hs => by
    simp only [solidV2] at hs
    have := go hb vs hs
    refine ⟨.tup _ _ (by rw [concV2_go_length]) fun i x d hx hd => ?_, .tup _ _ (by rw [ren_go_length]) fun i x y hx hy => ?_⟩
    · rw [concV2_go_get, hx] at hd
      simp at hd; subst hd
      exact (this x (List.mem_of_getElem? hx)).1
    · rw [ren_go_get, hy] at hx
      simp at hx; subst hx
      rw [concV2_go_get, Option.map_eq_some_iff] at hy
      obtain ⟨x0, hx0, rfl⟩ := hy
      exact (this x0 (List.mem_of_getElem? hx0)).2
where go {N : Nat} {σ0 : XSt U} (hb : ∀ b x, lk σ0 b = some x → b < N) : ∀ (vs : List (XV U)), solidV2.go σ0 vs = true → ∀ x, x ∈ vs → VR N σ0 x (concV2 σ0 x) ∧ VSub ((concV2 σ0 x).ren (List.range N)) (concV2 σ0 x)
  | [], _ => by simp
  | v :: vs, hs => by
    simp only [solidV2.go, Bool.and_eq_true] at hs
    have h1 := vr_self hb hs.1
    have h2 := go hb vs hs.2
    intro x hx
    rcases List.mem_cons.1 hx with rfl | hx
    · exact h1
    · exact h2 x hx

/-- a call of immutable data in a region that draws its order -/
theorem xdrawn_step {fo : Fo U} (hfo : FoSnd P fo) {o : AOper} {f : Nat} {args : List AO} (ho : o.op = .call f args) (h : RS key gl nf env σ env1 σ1 G) (hgn : o.guard = none) (hf : freshG gl o.guard o.dst = true) (hfn : freshN nf o.dst = true)
    {k : XSt U → XV U → Option R} {r : R} : ∀ {ss : List (FSpec U)}, (∀ s, s ∈ ss → s ∈ fo f) → xdrawn (fun e => xops' gl o.guard e args) env σ key k ss = some r →
    ∃ v v1 σ' σ1', k σ' v = some r ∧ DStep P o key env1 σ1 true v1 σ1' ∧ RS (key + 16) (glAdd gl o.guard o.dst) nf (xbind o.dst v env) σ' (bindDst env1 o.dst true v1) σ1' (fun i => if o.dst = some i then true else G i)
  | [], _, hx => by simp [xdrawn] at hx
  | s :: ss, hm, hx => by
    simp only [xdrawn] at hx
    split at hx
    · exact xdrawn_step hfo ho h hgn hf hfn (fun s hs => hm s (by simp [hs])) hx
    · rename_i hh hp
      unfold prepD at hp
      split at hp
      · rename_i vs hnil hvs
        simp only [Bool.and_eq_true] at hnil
        split at hp
        · rename_i a hsolid ha
          rw [List.all_eq_true] at hsolid
          obtain ⟨hsf, hbody, hsnd⟩ := hfo f s (hm s (by simp))
          obtain ⟨p, vs1, b1, b2, b3⟩ := xops_sound h.er h.hg hvs
          have hst : s.st = [] := by cases hst : s.st with | nil => rfl | cons => rw [hst] at hnil; simp [isNil] at hnil
          have hM := ble_true hnil.2
          obtain ⟨res, hres, hk⟩ := Option.bind_eq_some_iff.1 hx
          split at hk
          · rename_i hsol
            simp only [Bool.and_eq_true] at hsol
            obtain ⟨ys, f1, hl, g1⟩ := chkVs_sound (N := key) (σc := ([] : XSt U)) (List.nodup_nil) (fun j b x' hj => by simp at hj) ha
            obtain ⟨ds', e1, e2, e3⟩ := g1 vs1 b2.length (fun i x d hx hd => by
              obtain ⟨d', h1, h2⟩ := b2.get hx
              rw [hd] at h1; cases h1; exact h2)
            have hcell : Hs.cells U.D s.ts hh = a := Hs.dec_cells hp
            have hargs : s.args hh = ys := by
              unfold FSpec.args; rw [hcell]
              have := f1 []
              rw [List.append_nil] at this; rw [this]
            have hast : s.ast hh = [] := by unfold FSpec.ast; rw [hst]; rfl
            have hkn : s.st.length = 0 := by rw [hst]; rfl
            have hcon := hsnd hh res hres ds' [] (by
              rw [hargs, hast, hkn]
              refine All2.of_get (by rw [hl, e1, b2.length]) fun i x d hx hd => e3 i x d hx hd) (by rw [hast]; intro b x hx; simp [lk] at hx)
            rw [hsf, hkn] at hcon
            have hsub : All2 VSub vs1 ds' := by
              refine All2.of_get e1.symm fun i d d' hd hd' => ?_
              have hvs := e2 i d d' hd hd'
              obtain ⟨x, hx, hr⟩ := (b2.flip (R' := fun d x => VR key σ x d) fun _ _ h => h).get hd
              have hs := hsolid x (List.mem_of_getElem? hx)
              have := conc_eq hr hs
              subst this
              rw [ren_conc hs] at hvs
              exact hvs
            have hcon2 := Con.conv hsub (σ := []) (fun b x' hx => by simp [sget] at hx) hcon
            -- exactly one result
            have hsS : ∀ b x, lk (s.rest res) b = some x → b < 16 ∧ solidB (s.rest res) x = true := by
              intro b x hx
              have hm' : ∀ {l : XSt U}, lk l b = some x → (b, x) ∈ l := by
                intro l
                induction l with
                | nil => intro h; simp [lk] at h
                | cons e r ih =>
                  obtain ⟨k', e⟩ := e
                  intro h
                  simp only [lk] at h
                  split at h
                  · rename_i hb; cases h; rw [beq_true hb]; simp
                  · exact List.mem_cons_of_mem _ (ih h)
              have := hsol.2
              unfold solidS at this
              rw [List.all_eq_true] at this
              have h2 := this _ (hm' hx)
              simp only [Bool.and_eq_true] at h2
              exact ⟨by have := ble_true h2.1; omega, h2.2⟩
            have hbound : ∀ b x, lk (s.rest res) b = some x → b < s.rst.length := by
              intro b x hx
              have := (lk_filS hx).2
              omega
            have hcon3 : Con P f vs1 [] 0 (fun r' s' M' => r' = concV2 (s.rest res) (s.res res) ∧ s' = concS (s.rest res) (s.rest res) ∧ M' = s.rst.length) := by
              refine Con.tidy hcon2 ?_
              rintro r1 s1 N1 ⟨rfl, q1, q2⟩
              have hr1 := vr_conc2 q1 hsol.1
              subst hr1
              refine ⟨List.range s.rst.length, _, _, List.nodup_range, rfl, ?_, ?_, rfl, rfl, by simp⟩
              · exact (vr_self hbound hsol.1).2
              · intro b x hx
                rw [sget_concS, Option.map_eq_some_iff] at hx
                obtain ⟨x0, hx0, rfl⟩ := hx
                obtain ⟨h1, y, h2, h3⟩ := q2 b x0 hx0
                have hy := br_conc h3 (hsS b x0 hx0).2
                subst hy
                have ht := sget_tidySt (bs := List.range s.rst.length) (i := 0) (j := b) (r := List.range s.rst.length) (by simp [h1]) h2
                rw [Nat.zero_add] at ht
                refine ⟨_, ht, ?_⟩
                cases x0 with
                | box cs =>
                  have hsb := (hsS b _ hx0).2
                  simp only [solidB, List.all_eq_true] at hsb
                  exact .box (crs_self hbound hsb).2
                | arr ty l => exact .arr
                | rows sz l => have hsb := (hsS b _ hx0).2; simp [solidB] at hsb
            have hbnd : V.bnd.V.bnds (lt 0) vs1 = true := by
              refine bnds_of_get fun i d hd => ?_
              obtain ⟨x, hx, hr⟩ := (b2.flip (R' := fun d x => VR key σ x d) fun _ _ h => h).get hd
              have hs := hsolid x (List.mem_of_getElem? hx)
              have := conc_eq hr hs
              subst this
              exact (conc_vr (N := key) (σ := σ) hs).2 _
            have hg : aguard env1 o.guard = some true := by rw [hgn]; rfl
            have hkeys : (concS (s.rest res) (s.rest res)).all (fun x => decide (x.1 < 16)) = true := by
              have hh2 := hsol.2
              unfold solidS at hh2
              have : ∀ {l : XSt U}, (l.all fun p => Nat.ble (p.1 + 1) 16 && solidB (s.rest res) p.2) = true → (concS (s.rest res) l).all (fun x => decide (x.1 < 16)) = true := by
                intro l
                induction l with
                | nil => intro _; rfl
                | cons e r ih =>
                  obtain ⟨b, x⟩ := e
                  intro h
                  simp only [List.all_cons, Bool.and_eq_true] at h
                  simp only [concS, List.all_cons, Bool.and_eq_true, decide_eq_true_eq]
                  exact ⟨by have := ble_true h.1.1; omega, ih h.2⟩
              exact this hh2
            -- the blocks
            have hcr : VR s.rst.length (s.rest res) (s.res res) (concV2 (s.rest res) (s.res res)) ∧ SR s.rst.length (s.rest res) (concS (s.rest res) (s.rest res)) := by
              refine ⟨(vr_self hbound hsol.1).1, fun b x hx => ?_⟩
              refine ⟨hbound b x hx, concB (s.rest res) x, by rw [sget_concS, hx]; rfl, ?_⟩
              cases x with
              | box cs =>
                have hsb := (hsS b _ hx).2
                simp only [solidB, List.all_eq_true] at hsb
                exact .box (crs_self hbound hsb).1
              | arr ty l => exact .arr ty l
              | rows sz l => have hsb := (hsS b _ hx).2; simp [solidB] at hsb
            have hN : s.rst.length ≤ ([] : List Nat).length + 16 := by simpa using hM
            have hS' := SR.give (key := key) (bs := []) List.nodup_nil (by simp) hN h.sr rfl hcr.2
            have hV' := VR.mb (key := key) (bs := []) (σ := σ) List.nodup_nil (by simp) hN h.sr hcr.1
            have hK' := keep_give (key := key) (bs := []) (σr := s.rest res) List.nodup_nil (by simp) h.sr rfl
            rw [mbV_sh] at hV'
            rw [give_adopt] at hS'
            refine ⟨_, (concV2 (s.rest res) (s.res res)).sh key, _, adopt σ1 key (concS (s.rest res) (s.rest res)), hk, .own ho hg hgn b1 (b3 (by rw [hgn]; rfl)) hbnd hM hkeys hcon3 rfl, ?_⟩
            have := RS.bind (gd := o.guard) (dst := o.dst) (nf := nf) (h.er.mono hK') h.hg hS' h.hn hV' (.inl hgn) hf hfn
            rw [hgn] at this ⊢
            exact this
          · cases hk
        · cases hp
      · cases hp

theorem xpure_step {fo : Fo U} (hfo : FoSnd P fo) {o : AOper} {f : Nat} {args : List AO} (ho : o.op = .call f args) (h : RS key gl nf env σ env1 σ1 G) (hdef : o.guard = none ∨ ∃ t b y, o.guard = some (t, b) ∧ bval env t b = some y) (hf : freshG gl o.guard o.dst = true) (hfn : freshN nf o.dst = true)
    {g : Bool} (hg : g = GdV env G o.guard) {k : XV U → Option R} {r : R} : ∀ {ss : List (FSpec U)}, (∀ s, s ∈ ss → s ∈ fo f) → xpure (fun e => xops' gl o.guard e args) env g k ss = some r →
    ∃ v v1, k v = some r ∧ DStep P o key env1 σ1 g v1 σ1 ∧ RS (key + 16) (glAdd gl o.guard o.dst) nf (xbind o.dst v env) σ (bindDst env1 o.dst g v1) σ1 (fun i => if o.dst = some i then g else G i)
  | [], _, hx => by simp [xpure] at hx
  | s :: ss, hm, hx => by
    simp only [xpure] at hx
    split at hx
    · exact xpure_step hfo ho h hdef hf hfn hg (fun s hs => hm s (by simp [hs])) hx
    · rename_i hh hp
      unfold prepP at hp
      split at hp
      · rename_i vs hnil hvs
        simp only [Bool.and_eq_true] at hnil
        split at hp
        · rename_i a hsolid ha
          rw [List.all_eq_true] at hsolid
          obtain ⟨hsf, hbody, hsnd⟩ := hfo f s (hm s (by simp))
          obtain ⟨p, vs1, b1, b2, b3⟩ := xops_sound h.er h.hg hvs
          have hst : s.st = [] := by cases hst : s.st with | nil => rfl | cons => rw [hst] at hnil; simp [isNil] at hnil
          have hrst : s.rst = [] := by cases hst : s.rst with | nil => rfl | cons => rw [hst] at hnil; simp [isNil] at hnil
          obtain ⟨res, hres, hk⟩ := Option.bind_eq_some_iff.1 hx
          split at hk
          · rename_i hsol
            obtain ⟨hv1, hvb⟩ := conc_vr (N := key + 16) (σ := σ) hsol
            have hag := aguard_of h.er hdef
            rw [← hg] at hag
            have hRS : RS (key + 16) (glAdd gl o.guard o.dst) nf (xbind o.dst (s.res res) env) σ (bindDst env1 o.dst g (concV (s.res res))) σ1 (fun i => if o.dst = some i then g else G i) := by
              have := RS.bind (dst := o.dst) (h.er.mono (Keep.more (by omega : key ≤ key + 16))) h.hg (h.sr.mono (Nat.le_add_right key 16)) h.hn hv1 hdef hf hfn
              rw [← hg] at this
              exact this
            refine ⟨s.res res, concV (s.res res), hk, ?_, hRS⟩
            refine .call ho hag b1 fun hgt => ?_
            rw [if_pos hgt] at hres
            -- the arguments
            obtain ⟨ys, f1, hl, g1⟩ := chkVs_sound (N := key) (σc := ([] : XSt U)) (List.nodup_nil) (fun j b x' hj => by simp at hj) ha
            obtain ⟨ds', e1, e2, e3⟩ := g1 vs1 b2.length (fun i x d hx hd => by
              obtain ⟨d', h1, h2⟩ := b2.get hx
              rw [hd] at h1; cases h1; exact h2)
            have hcell : Hs.cells U.D s.ts hh = a := Hs.dec_cells hp
            have hargs : s.args hh = ys := by
              unfold FSpec.args; rw [hcell]
              have := f1 []
              rw [List.append_nil] at this; rw [this]
            have hast : s.ast hh = [] := by unfold FSpec.ast; rw [hst]; rfl
            have hkn : s.st.length = 0 := by rw [hst]; rfl
            have hcon := hsnd hh res hres ds' [] (by
              rw [hargs, hast, hkn]
              refine All2.of_get (by rw [hl, e1, b2.length]) fun i x d hx hd => e3 i x d hx hd) (by rw [hast]; intro b x hx; simp [lk] at hx)
            rw [hsf, hkn] at hcon
            have hsub : All2 VSub vs1 ds' := by
              refine All2.of_get e1.symm fun i d d' hd hd' => ?_
              have hvs := e2 i d d' hd hd'
              obtain ⟨x, hx, hr⟩ := (b2.flip (R' := fun d x => VR key σ x d) fun _ _ h => h).get hd
              -- no blocks: renaming by the empty list changes nothing that is used
              exact noblk (hsolid x (List.mem_of_getElem? hx)) hvs hr
            refine ⟨b3 (by rw [← hg]; exact hgt), ?_, hvb _, ?_⟩
            · refine bnds_of_get fun i d hd => ?_
              obtain ⟨x, hx, hr⟩ := (b2.flip (R' := fun d x => VR key σ x d) fun _ _ h => h).get hd
              exact noblk_bnd (hsolid x (List.mem_of_getElem? hx)) hr
            · refine Con.conv hsub (fun b x' hx => by simp [sget] at hx) (hcon.mono fun r1 σ1' N' hh' => ?_)
              exact conc_eq hh'.2.1 hsol
          · cases hk
        · cases hp
      · cases hp
where
  noblk {x : XV U} {d d' : V} (hs : solidV x = true) (hvs : VSub (d.ren []) d') (hr : VR key σ x d) : VSub d d' := by
    have := conc_eq hr hs
    subst this
    rw [ren_conc hs] at hvs
    exact hvs
  noblk_bnd {x : XV U} {d : V} (hs : solidV x = true) (hr : VR key σ x d) : d.bnd (lt 0) = true := by
    have := conc_eq hr hs
    subst this
    exact (conc_vr (N := key) (σ := σ) hs).2 _


/-- a call that may be handed blocks -/
theorem xraw_sound {fo : Fo U} (hfo : FoSnd P fo) {f : Nat} {getv : Getv U} {cal : Env → List V → Prop}
    (hgetv : ∀ {env' : XEnv U} {σ2 : XSt U} {env1' : Env} {vs : List (XV U)}, ER key σ2 G env' env1' → HG gl env' G → getv env' = some vs → ∃ vs1, All2 (VR key σ2) vs vs1 ∧ cal env1' vs1)
    (he : ER key σ G env env1) (hg : HG gl env G) (hS : SR key σ σ1) {k : XEnv U → XSt U → XV U → Option R} {r : R} : ∀ {ss : List (FSpec U)}, (∀ s, s ∈ ss → s ∈ fo f) → xraw getv env σ key k ss = some r →
    ∃ env' σ2 env1' σ1' vs1, Conv kk key env1 σ1 key env1' σ1' ∧ ER key σ2 G env' env1' ∧ HG gl env' G ∧ (∀ t b, bval env' t b = bval env t b) ∧ cal env1' vs1 ∧ hasBody P f = true ∧
      ACallN P f vs1 σ1' key env1' (fun r1 s1 => ∃ σ3 v, k env' σ3 v = some r ∧ ER (key + 16) σ3 G env' env1' ∧ SR (key + 16) σ3 s1 ∧ VR (key + 16) σ3 v r1)
  | [], _, hx => by simp [xraw] at hx
  | s :: ss, hm, hx => by
    simp only [xraw] at hx
    split at hx
    · exact xraw_sound hfo hgetv he hg hS (fun s hs => hm s (by simp [hs])) hx
    · rename_i env' σ2 bs h hp
      obtain ⟨hsf, hbody, hsnd⟩ := hfo f s (hm s (by simp))
      obtain ⟨res, hres, hk⟩ := Option.bind_eq_some_iff.1 hx
      unfold prep at hp
      split at hp
      · cases hp
      · rename_i vs0 _
        split at hp
        rename_i bs0 fz _
        split at hp
        · cases hp
        · rename_i env2 σ22 hfz
          split at hp
          · cases hp
          · rename_i vs hvs
            split at hp
            · cases hp
            · rename_i hb
              simp only [Bool.and_eq_true, List.all_eq_true] at hb
              obtain ⟨hb1, hb2, hb3, hb4⟩ := hb
              split at hp
              · rename_i a b ha hbs
                split at hp
                · rename_i hh hdec
                  cases hp
                  have hnd := nodupB_some hb1
                  have hlt : ∀ b, b ∈ bs → b < key := fun b hb => ble_true (hb2 b hb)
                  have hlen := beq_true hb3
                  have hrl := ble_true hb4
                  obtain ⟨env1', σ1', hconv, he', hS', hg'⟩ := xfz_sound (kk := kk) (gl := gl) hfz he hS
                  obtain ⟨vs1, b2, hcal⟩ := hgetv he' (hg' hg) hvs
                  have hcan := can_of hnd hbs
                  obtain ⟨ys, f1, hl, g1⟩ := chkVs_sound (N := key) hnd hcan ha
                  obtain ⟨ds', e1, e2, e3⟩ := g1 vs1 b2.length (fun i x d hx hd => by
                    obtain ⟨d', h1, h2⟩ := b2.get hx
                    rw [hd] at h1; cases h1; exact h2)
                  obtain ⟨s1', t1, t2⟩ := st_sound hnd hS' hbs
                  have hcell : Hs.cells U.D s.ts h = a ++ b := Hs.dec_cells hdec
                  have hargs : s.args h = ys := by unfold FSpec.args; rw [hcell, f1]
                  have hast : s.ast h = filS 0 s.st b := by unfold FSpec.ast; rw [hcell, f1]
                  have hcon := hsnd h res hres ds' s1' (by
                    rw [hargs, hast, ← hlen]
                    exact All2.of_get (by rw [hl, e1, b2.length]) fun i x d hx hd => e3 i x d hx hd) (by rw [hast, ← hlen]; exact t2)
                  rw [hsf, ← hlen] at hcon
                  have hsub : All2 VSub (vs1.map (V.ren bs)) ds' := by
                    refine All2.of_get (by simp [e1]) fun i d d' hd hd' => ?_
                    rw [List.getElem?_map, Option.map_eq_some_iff] at hd
                    obtain ⟨d0, hd0, rfl⟩ := hd
                    exact e2 i d0 d' hd0 hd'
                  have hcon2 := Con.conv hsub t1 hcon
                  split at hk
                  · cases hk
                  · rename_i c hc
                    split at hk
                    · rename_i hct
                      subst hct
                      have hN : s.rst.length ≤ bs.length + 16 := hrl
                      refine ⟨env', σ2, env1', σ1', vs1, hconv, he', hg' hg, fun t b => bval_fz hfz, hcal, hbody, ?_⟩
                      intro Γ nt φ S a w R hbn vv hvv
                      refine (ACall.raw (n := lt key) (key := key) hnd hlt hcon2 (K := fun r1 s1 => ∃ σ3 v, k env' σ3 v = some r ∧ ER (key + 16) σ3 G env' env1' ∧ SR (key + 16) σ3 s1 ∧ VR (key + 16) σ3 v r1) ?_ (fun b hb => by simp [lt]; exact hlt b hb) Γ nt φ S env1' a w R (fun b h1 _ => lt_fresh h1) hbn vv hvv)
                      rintro r1 s1 N' ⟨rfl, q1, q2⟩
                      refine ⟨hN, _, _, hk, he'.mono (keep_give hnd hlt hS' hc), SR.give hnd hlt hN hS' hc q2, VR.mb hnd hlt hN hS' q1⟩
                    · cases hk
                · cases hp
              · cases hp
where
  bval_key {env : XEnv U} {b0 : Nat} {ty : Ty} {l : List (ty.den U.D)} {t : Nat} {b : Bool} : bval (xfrzE b0 (⟨.slice ty, l⟩ : Cell U.D) env) t b = bval env t b := by
    unfold bval
    rw [lk_frzE]
    cases lk env t with
    | none => rfl
    | some v =>
      cases v with
      | c x =>
        cases x with
        | arr b' => simp only [Option.map_some, XV.frz, XC.frz]; cases Nat.beq b' b0 <;> rfl
        | eptr b' ty' i o => simp only [Option.map_some, XV.frz, XC.frz]; cases Nat.beq b' b0 <;> rfl
        | _ => rfl
      | agg cs => rfl
      | tup vs => rfl
  bval_fz {l : List (Nat × Ty)} {env env' : XEnv U} {σ σ' : XSt U} {t : Nat} {b : Bool} (h : xfz l env σ = some (env', σ')) : bval env' t b = bval env t b := by
    induction l generalizing env σ with
    | nil => simp [xfz] at h; rw [h.1]
    | cons p l ih =>
      obtain ⟨c, ty⟩ := p
      simp only [xfz] at h
      split at h
      · rename_i e s h1
        have h2 : bval e t b = bval env t b := by
          unfold xfz1 at h1
          split at h1
          · split at h1
            · cases h1; exact bval_key
            · cases h1
          · split at h1
            · cases h1; exact bval_key
            · cases h1
          · cases h1; rfl
        rw [ih h, h2]
      · cases h

/-- a step of a region that draws its order -/
theorem xstep_draw {fo : Fo U} (hfo : FoSnd P fo) {o : AOper} (h : RS key gl nf env σ env1 σ1 G) {k : GL → NF → XEnv U → XSt U → Option R} {r : R} (hx : xstep fo true o key gl nf env σ k = some r) :
    ∃ g v1 σ1' gl' nf' env' σ' G', DStep P o key env1 σ1 g v1 σ1' ∧ k gl' nf' env' σ' = some r ∧ RS (key + 16) gl' nf' env' σ' (bindDst env1 o.dst g v1) σ1' G' := by
  unfold xstep at hx
  split at hx
  · cases hx
  · rename_i hff
    simp only [Bool.and_eq_true] at hff
    obtain ⟨hf, hfn⟩ := hff
    split at hx
    · rename_i hF
      split at hx
      · rename_i g0 hg0
        have hfalse := isF_sound h.hg h.hn hF
        obtain ⟨h1, h2⟩ := skip_step (P := P) h (gd_def hg0) hfalse hf hfn (skip_vr (U := U) (N := key + 16) (σ := σ))
        exact ⟨_, _, _, _, _, _, _, _, h1, hx, h2⟩
      · cases hx
    · split at hx
      · rename_i f args ho
        unfold xcall at hx
        split at hx
        · rename_i hgn
          simp only at hx
          rw [hgn] at hx
          obtain ⟨v, v1, σ', σ1', h1, h2, h3⟩ := xdrawn_step (fo := fo) hfo ho h hgn hf hfn (k := fun σ v => k (glAdd gl o.guard o.dst) nf (xbind o.dst v env) σ) (fun s hs => hs) (by rw [hgn]; exact hx)
          exact ⟨_, _, _, _, _, _, _, _, h2, h1, h3⟩
        · rename_i gd hgn
          split at hx
          · rename_i g hg
            rw [hgn] at hx hg
            obtain ⟨v, v1, h1, h2, h3⟩ := xpure_step (fo := fo) hfo ho h (by rw [hgn]; exact gd_def hg) hf hfn (g := g) (by rw [hgn]; exact gval_sound h.hg hg) (fun s hs => hs) (by rw [hgn]; exact hx)
            rw [hgn] at h3
            exact ⟨_, _, _, _, _, _, _, _, h2, h1, h3⟩
          · cases hx
      · rename_i x args ho
        simp at hx
      · rename_i op hno1 hno2
        split at hx
        · cases hx
        · rename_i c v σ' hv
          split at hx
          · rename_i hgn
            split at hx
            · rename_i hc
              rw [hgn] at hv
              obtain ⟨v1, σ1', h1, h2⟩ := (op_step (P := P) (o := o) h (by rw [hgn]; exact hv) (.inl hgn) hf hfn).1 (by rw [hgn]; rfl) hc
              rw [hgn] at h2
              exact ⟨_, _, _, _, _, _, _, _, h1, hx, h2⟩
            · cases hx
          · rename_i gd hgn
            split at hx
            · cases hx
            · rename_i g hg
              have hdef : o.guard = none ∨ ∃ t b y, o.guard = some (t, b) ∧ bval env t b = some y := by rw [hgn]; exact gd_def hg
              have hgv : g = GdV env G o.guard := by rw [hgn]; exact gval_sound h.hg hg
              have hop := op_step (P := P) (o := o) h hv hdef hf hfn
              split at hx
              · rename_i hneu
                split at hx
                · rename_i hcg
                  cases hgb : g with
                  | true =>
                    rw [hgb] at hcg hgv
                    simp at hcg
                    obtain ⟨v1, σ1', h1, h2⟩ := hop.1 hgv.symm hcg
                    have hσ : σ' = σ := (xval_sound h.er h.hg h.sr hv).neu hneu
                    rw [hσ] at h2
                    exact ⟨_, _, _, _, _, _, _, _, h1, hx, h2⟩
                  | false =>
                    rw [hgb] at hgv
                    obtain ⟨v1, h1, h2⟩ := hop.2 hgv.symm hneu
                    exact ⟨_, _, _, _, _, _, _, _, h1, hx, h2⟩
                · cases hx
              · split at hx
                · rename_i hgt
                  split at hx
                  · rename_i hc
                    obtain ⟨v1, σ1', h1, h2⟩ := hop.1 (by rw [← hgv]; exact hgt) hc
                    exact ⟨_, _, _, _, _, _, _, _, h1, hx, h2⟩
                  · cases hx
                · rename_i hgt
                  have hgf : GdV env G o.guard = false := by rw [← hgv]; simpa using hgt
                  have h' : RS key gl (gd :: nf) env σ env1 σ1 G := ⟨h.er, h.hg, h.sr, fun g0 hg0 => by
                    rcases List.mem_cons.1 hg0 with rfl | hm
                    · rw [hgn] at hgf; exact hgf
                    · exact h.hn g0 hm⟩
                  have hfn' : freshN (gd :: nf) o.dst = true := by
                    cases hd : o.dst with
                    | none => rfl
                    | some d =>
                      rw [hd] at hfn hf
                      rw [hgn] at hf
                      simp only [freshN, List.all_cons, Bool.and_eq_true]
                      simp only [freshN] at hfn
                      simp only [freshG, Bool.and_eq_true] at hf
                      exact ⟨hf.2, hfn⟩
                  obtain ⟨h1, h2⟩ := skip_step (P := P) h' hdef hgf hf hfn' (skip_vr (U := U) (N := key + 16) (σ := σ))
                  exact ⟨_, _, _, _, _, _, _, _, h1, hx, h2⟩


/-- a step of a region in the text's order -/
theorem xstep_plain {fo : Fo U} (hfo : FoSnd P fo) {o : AOper} (h : RS key gl nf env σ env1 σ1 G) {k : GL → NF → XEnv U → XSt U → Option R} {r : R} (hx : xstep fo false o key gl nf env σ k = some r) {K : Env → Store → Prop}
    (hK : ∀ gl' nf' env' σ' env1' σ1' G', k gl' nf' env' σ' = some r → RS (key + 16) gl' nf' env' σ' env1' σ1' G' → K env1' σ1') :
    ∃ env0 σ0, Conv kk key env1 σ1 key env0 σ0 ∧ cstep P o key env0 σ0 K := by
  by_cases hraw : xstep fo true o key gl nf env σ k = some r
  · obtain ⟨g, v1, σ1', gl', nf', env', σ', G', h1, h2, h3⟩ := xstep_draw hfo h hraw
    exact ⟨env1, σ1, Conv.refl, .inl (h1.astep (hK _ _ _ _ _ _ _ h2 h3))⟩
  · unfold xstep at hx hraw
    split at hx
    · cases hx
    · rename_i hff
      rw [hff] at hraw
      simp only at hraw
      simp only [Bool.and_eq_true] at hff
      obtain ⟨hf, hfn⟩ := hff
      split at hx
      · rename_i hF
        rw [hF] at hraw
        exact absurd hx hraw
      · rename_i hF
        rw [hF] at hraw
        simp only at hraw
        split at hx
        · rename_i f args ho
          rw [ho] at hraw
          simp only at hraw
          unfold xcall at hx hraw
          split at hx
          · rename_i hgn
            simp only at hx
            rw [hgn] at hx
            obtain ⟨env', σ2, env1', σ1', vs1, c1, c2, c3, c4, ⟨p, hp1, hp2⟩, hb, hA⟩ := xraw_sound (kk := kk) (P := P) hfo (f := f) (getv := fun e => xops' gl none e args) (cal := fun e vs => ∃ p, gets e args = some (p, vs) ∧ p)
              (fun he hg hv => by
                obtain ⟨p, vs1, b1, b2, b3⟩ := xops_sound he hg hv
                exact ⟨vs1, b2, p, b1, b3 rfl⟩) h.er h.hg h.sr (fun s hs => hs) hx
            refine ⟨env1', σ1', c1, .inr ⟨by rw [hgn]; rfl, f, vs1, .inl ⟨args, p, ho, hp1, hp2⟩, ?_⟩⟩
            intro Γ nt φ S a w hR hbn vv hvv
            refine (hA Γ nt φ S a w hR hbn vv hvv).mono ?_
            rintro e w' ⟨v, r1, φ', S', s1, rfl, ⟨σ3, v3, k1, k2, k3, k4⟩, q1, q2, q3⟩
            refine ⟨v, r1, φ', S', s1, rfl, ?_, q1, q2, q3⟩
            have hbd := RS.bind (gd := none) (dst := o.dst) (nf := nf) k2 c3 k3 (fun g hg => by
              obtain ⟨t, b⟩ := g
              have h0 := h.hn _ hg
              simp only [GdV] at h0 ⊢
              rw [c4 t b]; exact h0) k4 (.inl rfl) (by rw [hgn] at hf; exact hf) hfn
            exact hK _ _ _ _ _ _ _ k1 hbd
          · rename_i gd hgn
            rw [hgn] at hraw hx
            exact absurd hx hraw
        · rename_i x args ho
          split at hx
          · rename_i f caps hd hgn hxv
            obtain ⟨env', σ2, env1', σ1', vs1, c1, c2, c3, c4, ⟨q, p, caps', vs0, hq0, hq1, hp1, hp2, hp3⟩, hb, hA⟩ := xraw_sound (kk := kk) (P := P) hfo (f := f) (getv := fun e => match xop gl none e x, xops' gl none e args with
          | some (.c (.fn f' caps')), some vs => match Nat.beq f' f with
            | true => some (vs ++ caps'.map fun b => .c (.ptr b 0))
            | false => none
          | _, _ => none) (cal := fun e vs => ∃ q p caps' vs0, x.get e = some (q, .c (.fn f caps')) ∧ q ∧ gets e args = some (p, vs0) ∧ p ∧ vs = vs0 ++ caps'.map fun b => V.c (.ptr b 0))
              (fun he hg hv => by
                split at hv
                · rename_i f' caps' vs' e1 e2
                  split at hv
                  · rename_i hfe
                    have := beq_true hfe; subst this
                    cases hv
                    obtain ⟨q, v1, a1, a2, a3⟩ := xop_sound he hg e1
                    have := a2.fn_inv; subst this
                    obtain ⟨p, vs1, b1, b2, b3⟩ := xops_sound he hg e2
                    refine ⟨vs1 ++ caps'.map fun b => V.c (.ptr b 0), b2.append ?_, q, p, caps', vs1, a1, a3 rfl, b1, b3 rfl, rfl⟩
                    exact All2.map_map (All2.self (R := fun a b => VR key _ (.c (.ptr a 0)) (.c (.ptr b 0))) (fun b => .c (.ptr b 0)) _)
                  · cases hv
                · cases hv) h.er h.hg h.sr (fun s hs => hs) hx
            refine ⟨env1', σ1', c1, .inr ⟨by rw [hgn]; rfl, f, vs1, .inr ⟨x, args, q, p, caps', vs0, ho, hq0, hq1, hp1, hp2, hb, hp3⟩, ?_⟩⟩
            intro Γ nt φ S a w hR hbn vv hvv
            refine (hA Γ nt φ S a w hR hbn vv hvv).mono ?_
            rintro e w' ⟨v, r1, φ', S', s1, rfl, ⟨σ3, v3, k1, k2, k3, k4⟩, q1, q2, q3⟩
            refine ⟨v, r1, φ', S', s1, rfl, ?_, q1, q2, q3⟩
            have hbd := RS.bind (gd := none) (dst := o.dst) (nf := nf) k2 c3 k3 (fun g hg => by
              obtain ⟨t, b⟩ := g
              have h0 := h.hn _ hg
              simp only [GdV] at h0 ⊢
              rw [c4 t b]; exact h0) k4 (.inl rfl) (by rw [hgn] at hf; exact hf) hfn
            exact hK _ _ _ _ _ _ _ k1 hbd
          · cases hx
        · rename_i op hno1 hno2
          exfalso
          refine hraw ?_
          split
          · rename_i f args ho; exact absurd ho (hno1 f args)
          · rename_i x args ho; exact absurd ho (hno2 x args)
          · exact hx


theorem preFz_some {o : AOper} {p : XEnv U × XSt U} (h : preFz gl o env σ = some p) : ∃ l, xfz l env σ = some p := by
  unfold preFz at h
  split at h
  · split at h
    · split at h
      · exact ⟨_, h⟩
      · cases h
    · cases h
  · cases h

theorem xstepF_plain {fo : Fo U} (hfo : FoSnd P fo) {o : AOper} (h : RS key gl nf env σ env1 σ1 G) {k : GL → NF → XEnv U → XSt U → Option R} {r : R} (hx : xstepF fo false o key gl nf env σ k = some r) {K : Env → Store → Prop}
    (hK : ∀ gl' nf' env' σ' env1' σ1' G', k gl' nf' env' σ' = some r → RS (key + 16) gl' nf' env' σ' env1' σ1' G' → K env1' σ1') :
    ∃ env0 σ0, Conv kk key env1 σ1 key env0 σ0 ∧ cstep P o key env0 σ0 K := by
  simp only [xstepF] at hx
  split at hx
  · exact xstep_plain hfo h hx hK
  · rename_i p hp
    obtain ⟨l, hl⟩ := preFz_some hp
    obtain ⟨e1, s1, c1, c2, c3, c4⟩ := xfz_sound (kk := kk) (gl := gl) hl h.er h.sr
    obtain ⟨e2, s2, d1, d2⟩ := xstep_plain (kk := kk) (P := P) hfo (⟨c2, c4 h.hg, c3, fun g hg => by
      obtain ⟨t, b⟩ := g
      have h0 := h.hn _ hg
      simp only [GdV] at h0 ⊢
      rw [xraw_sound.bval_fz hl]; exact h0⟩ : RS key gl nf p.1 p.2 e1 s1 G) hx hK
    exact ⟨e2, s2, c1.trans d1, d2⟩

end
end Go.Proofs.Ytkdepbmeaiefeaa.Shv
