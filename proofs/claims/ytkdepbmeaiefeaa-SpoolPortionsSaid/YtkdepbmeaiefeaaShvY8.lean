/- Typed states over the abstract machine: calls. -/
import Derived.Test.YtkdepbmeaiefeaaShvY7
namespace Go.Proofs.Ytkdepbmeaiefeaa.Shv
set_option linter.all false
open Go

variable {U : Uni}

section
variable {P : Program} {nt kk key N N' : Nat} {env : Env} {σ σ' : Store} {Q Q' : Exit → Env → Store → Nat → Prop}

/-- a call, at a number below which all blocks lie -/
def ACallN (P : Program) (f : Nat) (args : List V) (σ : Store) (key : Nat) (env : Env) (K : V → Store → Prop) : Prop :=
  ∀ Γ nt φ S a w, Rel Γ nt φ S env σ (lt key) a w → V.bnd.V.bnds (lt key) args = true → ∀ vs : List Value, All2 (RV φ w S) args vs →
    Calls P f vs.toArray w fun e w' => ∃ v r φ' S' σ', e = .returned v ∧ K r σ' ∧ RV φ' w' S' r v ∧ r.bnd (insR (lt key) key) = true ∧ Rel Γ nt φ' S' env σ' (insR (lt key) key) a w'

def Callee (P : Program) (o : AOper) (env : Env) (f : Nat) (vs : List V) : Prop :=
  (∃ args p, o.op = .call f args ∧ gets env args = some (p, vs) ∧ p) ∨
  (∃ x args q p caps vs0, o.op = .callv x args ∧ x.get env = some (q, .c (.fn f caps)) ∧ q ∧ gets env args = some (p, vs0) ∧ p ∧ hasBody P f = true ∧ vs = vs0 ++ caps.map fun b => V.c (.ptr b 0))

def cstep (P : Program) (o : AOper) (key : Nat) (env : Env) (σ : Store) (K : Env → Store → Prop) : Prop :=
  astep P o key env σ K ∨ (aguard env o.guard = some true ∧ ∃ f vs, Callee P o env f vs ∧ ACallN P f vs σ key env fun r σ' => K (bindDst env o.dst true r) σ')

def aopsC (P : Program) (kk : Nat) : List AOper → Nat → Env → Store → (Env → Store → Prop) → Prop
  | [], _, env, σ, K => K env σ
  | o :: r, key, env, σ, K => ∃ env0 σ0, Conv kk key env σ key env0 σ0 ∧ cstep P o key env0 σ0 fun e s => aopsC P kk r (key + 16) e s K

theorem cstep_sound {Γ : Ctx} {φ : Phi} {S : Stab} {a : Act} {w : World} (R : Rel Γ nt φ S env σ (lt key) a w) {ops : Array Oper} {o : Oper} {ao : AOper} (hr : resolveOper P nt ops o = some ao) {K : Env → Store → Prop} (h : cstep P ao key env σ K) {Q : Exit → Act → World → Prop} :
    if Region.wanted o (yielded ops a.tmps) then o.wp P a w (Post Γ nt (insR (lt key) key) K) Q else Post Γ nt (insR (lt key) key) K (a.put o.dst undef) w := by
  rcases h with h | ⟨hg, f, vs, hcal, hA⟩
  · exact step_sound R (fun b h1 _ => lt_fresh h1) hr h
  · obtain ⟨h1, h2, h3, h4⟩ := resolveOper_inv hr
    have hw := guard_sound R h2 hg
    rw [hw]
    simp only [if_true]
    rcases hcal with ⟨args, p, hop, hgs, hp⟩ | ⟨x, args, q, p, caps, vs0, hop, hgx, hq, hgs, hp, hb, rfl⟩
    · rw [hop] at h1
      obtain ⟨c, hc1, hr2⟩ := resolve_call_inv h1
      obtain ⟨hc2, hb, hargs⟩ := resolveCall_call hr2
      have hrun := run_call (P := P) (w := w) (a := a) hc1 hc2 (f := f) (caps := []) rfl hb
      simp only [List.append_nil] at hrun
      obtain ⟨g1, g2⟩ := gets_sound R hargs hgs hp
      exact Calls.next h3 h4 rfl (fun _ _ h => h) (hA Γ nt φ S a w R g2 _ g1) hrun
    · rw [hop] at h1
      obtain ⟨c, hc1, hr2⟩ := resolve_callv_inv h1
      obtain ⟨t, rfl, hc2, hargs⟩ := resolveCall_callv hr2
      obtain ⟨g1, g2⟩ := gets_sound R hargs hgs hp
      have hx := get_sound (x := .tmp t) R rfl hgx hq
      have hxe : a.eval (.tmp t) = .func (.func f) #[] (caps.map fun b => Value.pointer (some ⟨(φ b).1, 0, none⟩)).toArray := hx.1.c_inv
      have hcaps : All2 (RV φ w S) (caps.map fun b => V.c (.ptr b 0)) (caps.map fun b => Value.pointer (some ⟨(φ b).1, 0, none⟩)) := by
        refine All2.of_get (by simp) ?_
        intro i v x h1 h2
        simp only [List.getElem?_map, Option.map_eq_some_iff] at h1 h2
        obtain ⟨b, hb1, rfl⟩ := h1
        obtain ⟨b', hb2, rfl⟩ := h2
        rw [hb1] at hb2; cases hb2
        exact .c rfl
      have hcb : V.bnd.V.bnds (lt key) (vs0 ++ caps.map fun b => V.c (.ptr b 0)) = true := by
        refine bnds_of_get ?_
        intro i v hv
        by_cases hi : i < vs0.length
        · rw [List.getElem?_append_left hi] at hv; exact bnds_get g2 hv
        · rw [List.getElem?_append_right (by omega)] at hv
          simp only [List.getElem?_map, Option.map_eq_some_iff] at hv
          obtain ⟨b, hb1, rfl⟩ := hv
          have hh := hx.2
          simp only [V.bnd, C.bnd, List.all_eq_true] at hh ⊢
          exact hh b (List.mem_of_getElem? hb1)
      exact Calls.next h3 h4 rfl (fun _ _ h => h) (hA Γ nt φ S a w R hcb _ (g1.append hcaps)) (run_call hc1 hc2 hxe hb)

theorem opsC_sound {Γ : Ctx} (hkk : Γ.k = kk) {ops : Array Oper} {Q : Exit → Act → World → Prop} {K : Env → Store → Nat → Prop} : ∀ {l : List Oper} {aos : List AOper} {k N : Nat} {env : Env} {σ : Store} {φ : Phi} {S : Stab} {a : Act} {w : World}, resolveOps P nt ops l = some aos → (∀ i : Nat, i < l.length → l[i]? = ops[k + i]?) →
    Rel Γ nt φ S env σ (lt N) a w → aopsC P kk aos N env σ (fun e s => K e s (N + 16 * aos.length)) → (∀ φ S e s N a w, K e s N → Rel Γ nt φ S e s (lt N) a w → Q .normal a w) → wpOps P ops Q (List.range' k l.length) a w
  | [], aos, k, N, env, σ, φ, S, a, w, hr, hi, R, h, hQ => by
    simp [resolveOps] at hr; subst hr
    simp only [List.length_nil, List.range'_zero, wpOps]
    exact hQ _ _ _ _ _ _ _ h R
  | o :: l, aos, k, N, env, σ, φ, S, a, w, hr, hi, R, h, hQ => by
    simp only [resolveOps, Option.bind_eq_some_iff, Option.map_eq_some_iff] at hr
    obtain ⟨ao, hao, aos', haos, rfl⟩ := hr
    have ho : ops[k]? = some o := by have := hi 0 (by simp); simpa using this.symm
    rw [List.length_cons, List.range'_succ, wpOps_cons]
    unfold wpOp
    rw [ho]
    simp only
    obtain ⟨env0, σ0, hconv, hstep⟩ := h
    obtain ⟨φ0, S0, R0⟩ := hconv Γ nt φ S a w hkk R
    have hs := cstep_sound R0 hao (K := fun e s => aopsC P kk aos' (N + 16) e s fun e s => K e s (N + 16 * (aos'.length + 1))) (by
      simp only [List.length_cons] at hstep; exact hstep) (Q := Q)
    have next : ∀ a' w', Post Γ nt (insR (lt N) N) (fun e s => aopsC P kk aos' (N + 16) e s fun e s => K e s (N + 16 * (aos'.length + 1))) a' w' → wpOps P ops Q (List.range' (k + 1) l.length) a' w' := by
      rintro a' w' ⟨φ', S', e, s, hK, R'⟩
      refine opsC_sound hkk (k := k + 1) (N := N + 16) haos (fun i hlt => ?_) (R'.more fun _ h => lt_ins h) (K := K) ?_ hQ
      · have := hi (i + 1) (by simp; omega)
        rw [show k + 1 + i = k + (i + 1) by omega]
        simpa using this
      · rw [show N + 16 + 16 * aos'.length = N + 16 * (aos'.length + 1) by omega]; exact hK
    split at hs
    · rename_i hw; rw [if_pos hw]; exact .inl (Oper.wp_mono next hs)
    · rename_i hw; rw [if_neg hw]; exact next _ _ hs

theorem AW.regionC {aos : List AOper} (h : aopsC P kk aos N env σ (fun e s => Q .normal e s (N + 16 * aos.length))) : AW P nt kk (.region aos) env σ N Q := by
  intro code hc Γ φ S a w hkk R
  obtain ⟨id, ops, rfl, hr⟩ := resolve_region hc
  refine wp_region ?_
  have := opsC_sound (P := P) hkk (ops := ops) (K := fun e s N => Q .normal e s N) (Q := fun e a' w' => ∃ φ' S' env' σ' N', Q e env' σ' N' ∧ Rel Γ nt φ' S' env' σ' (lt N') a' w') (k := 0) hr (fun i hi => by simp) R h
    (fun φ S e s N a w hK hR => ⟨φ, S, e, s, N, hK, hR⟩)
  rw [List.range_eq_range']
  simpa using this

/-! contracts, weakened -/

theorem Con.conv {f k : Nat} {args args' : List V} {Q : V → Store → Nat → Prop} (ha : All2 VSub args args') (hs : StSub σ σ') (h : Con P f args' σ' k Q) : Con P f args σ k Q := by
  intro φ S w B hsim hsb hown hab vs hvs
  refine h φ S w B ⟨fun b x hx => ?_, fun b b' x y hx hy => ?_, hsim.st⟩ (fun b x hx => ?_) (fun b x hx => ?_) ?_ vs ?_
  · obtain ⟨x0, h1, h2⟩ := hs b x hx; exact h2.rb (hsim.blk b x0 h1)
  · obtain ⟨x0, h1, h2⟩ := hs b x hx
    obtain ⟨y0, k1, k2⟩ := hs b' y hy
    exact hsim.inj b b' x0 y0 h1 k1
  · obtain ⟨x0, h1, h2⟩ := hs b x hx; exact ⟨(hsb b x0 h1).1, h2.bnd _ (hsb b x0 h1).2⟩
  · obtain ⟨x0, h1, h2⟩ := hs b x hx; exact hown b x0 h1
  · refine bnds_of_get fun i v hv => ?_
    obtain ⟨v0, h1, h2⟩ := (ha.flip (R' := fun b a => VSub a b) fun _ _ h => h).get hv
    exact h2.bnd _ (bnds_get hab h1)
  · exact All2.comp (fun a b c h1 h2 => h1.rv h2) (ha.flip (R' := fun b a => VSub a b) fun _ _ h => h) hvs

theorem Con.mono {f k : Nat} {args : List V} {Q Q' : V → Store → Nat → Prop} (h : Con P f args σ k Q) (hq : ∀ r s n, Q r s n → Q' r s n) : Con P f args σ k Q' := by
  intro φ S w B h1 h2 h3 h4 vs h5
  refine (h φ S w B h1 h2 h3 h4 vs h5).mono ?_
  rintro e w' ⟨v, r, φ', S', σ', N', he, hQ, rest⟩
  exact ⟨v, r, φ', S', σ', N', he, hq _ _ _ hQ, rest⟩

theorem Con.tidy {f k : Nat} {args : List V} {σ : Store} {Q Q' : V → Store → Nat → Prop} (h : Con P f args σ k Q)
    (hq : ∀ r σ' N', Q r σ' N' → ∃ bs r2 σ2, bs.Nodup ∧ keeps k bs = true ∧ VSub (r.ren bs) r2 ∧ StSub (tidySt bs σ' 0 bs) σ2 ∧ Q' r2 σ2 bs.length) : Con P f args σ k Q' := by
  intro φ S w B h1 h2 h3 h4 vs h5
  refine (h φ S w B h1 h2 h3 h4 vs h5).mono ?_
  rintro e w' ⟨v, r, φ', S', σ', N', he, hQ, k1, k2, k3, k4, k5, k6, k7⟩
  obtain ⟨bs, r2, σ2, hnd, hkp, hr, hs, hQ'⟩ := hq r σ' N' hQ
  have hkeep : ∀ i : Nat, i < k → bs[i]? = some i := by
    intro i hi
    unfold keeps at hkp
    rw [List.all_eq_true] at hkp
    simpa using hkp i (List.mem_range.2 hi)
  let ψ : Phi := fun i => φ' ((bs[i]?).getD 0)
  have hψ : ∀ (i : Nat) b, bs[i]? = some b → ψ i = φ' b := by intro i b h; simp [ψ, h]
  have htidy : ∀ b x, sget (tidySt bs σ' 0 bs) b = some x → ∃ c x0, bs[b]? = some c ∧ sget σ' c = some x0 ∧ x = x0.ren bs := by
    intro b x hx
    obtain ⟨j, c, x0, rfl, h2, h3, rfl⟩ := sget_tidy hx
    exact ⟨c, x0, by simpa using h2, h3, rfl⟩
  have hren : ∀ (x0 : Blk), (x0.ren bs).bnd (lt bs.length) = true := by
    intro x0
    cases x0 with
    | box cs => simp only [Blk.ren, Blk.bnd, List.all_map, List.all_eq_true]; intro c _; exact C.ren_bnd c
    | arr sz es => rfl
  refine ⟨v, r2, ψ, S', σ2, bs.length, he, hQ', hr.rv (RV.ren hψ k1), hr.bnd _ (V.ren_bnd r), ⟨fun b x hx => ?_, fun b b' x y hx hy hne h0 h0' => ?_, k3.st⟩, fun b x hx => ?_, k5, fun b x hx h0 => ?_, fun b hb => ?_⟩
  · obtain ⟨y, hy, hb⟩ := hs b x hx
    obtain ⟨c, x0, e1, e2, rfl⟩ := htidy b y hy
    exact hb.rb (RB.ren hψ e1 (k3.blk c x0 e2))
  · obtain ⟨y1, hy1, _⟩ := hs b x hx
    obtain ⟨y2, hy2, _⟩ := hs b' y hy
    obtain ⟨c, x0, e1, e2, _⟩ := htidy b y1 hy1
    obtain ⟨c', x0', f1, f2, _⟩ := htidy b' y2 hy2
    rw [hψ b c e1] at h0 ⊢
    rw [hψ b' c' f1] at h0' ⊢
    refine k3.inj c c' x0 x0' e2 f2 ?_ h0 h0'
    intro e
    subst e
    have := pos_of hnd e1
    rw [pos_of hnd f1] at this
    cases this; exact hne rfl
  · obtain ⟨y, hy, hb⟩ := hs b x hx
    obtain ⟨c, x0, e1, e2, rfl⟩ := htidy b y hy
    exact ⟨(List.getElem?_eq_some_iff.1 e1).1, hb.bnd _ (hren x0)⟩
  · obtain ⟨y, hy, hb⟩ := hs b x hx
    obtain ⟨c, x0, e1, e2, rfl⟩ := htidy b y hy
    rw [hψ b c e1] at h0 ⊢
    exact k6 c x0 e2 h0
  · rw [hψ b b (hkeep b hb)]; exact k7 b hb


end

/-! blocks handed back -/

def XC.mb (f : Nat → Nat) : XC U → XC U
  | .ptr b o => .ptr (f b) o
  | .eptr b ty i o => .eptr (f b) ty i o
  | .arr b => .arr (f b)
  | .fn g caps => .fn g (caps.map f)
  | x => x

def XV.mb (f : Nat → Nat) : XV U → XV U
  | .c x => .c (x.mb f)
  | .agg cs => .agg (cs.map (XC.mb f))
  | .tup vs => .tup (go f vs)
where go (f : Nat → Nat) : List (XV U) → List (XV U)
  | [] => []
  | v :: vs => v.mb f :: go f vs

def XB.mb (f : Nat → Nat) : XB U → XB U
  | .box cs => .box (cs.map (XC.mb f))
  | .arr ty l => .arr ty l
  | .rows sz r => .rows sz r

def xdels (σ : XSt U) : List Nat → XSt U
  | [] => σ
  | b :: r => dl (xdels σ r) b

def xgive (σ : XSt U) (bs : List Nat) (f : Nat → Nat) : XSt U → XSt U
  | [] => xdels σ bs
  | (b, x) :: r => pt (xgive σ bs f r) (f b) (x.mb f)

/-- an array that is handed back is as long as it was -/
def xdimc (σ σr : XSt U) : Nat → List Nat → Option Bool
  | _, [] => some true
  | i, b :: r => match lk σr i with
    | none => xdimc σ σr (i + 1) r
    | some x' => match lk σ b with
      | none => none
      | some x => match x'.dim with
        | none => xdimc σ σr (i + 1) r
        | some p' => match x.dim with
          | none => none
          | some p => match Nat.beq p'.1 p.1, xdimc σ σr (i + 1) r with
            | true, some c => some (decide (p'.2 = p.2) && c)
            | _, _ => none

section
variable {key N' : Nat} {σ σr : XSt U} {σ1 σ1r : Store} {bs : List Nat}

theorem lk_xdels : ∀ {bs : List Nat} {b : Nat}, lk (xdels σ bs) b = if b ∈ bs then none else lk σ b
  | [], b => by simp [xdels]
  | c :: r, b => by
    simp only [xdels, lk_dl, lk_xdels (bs := r)]
    by_cases h : c = b
    · subst h; simp
    · rw [if_neg h]
      by_cases h2 : b ∈ r
      · simp [h2]
      · rw [if_neg h2, if_neg (by simp only [List.mem_cons, not_or]; exact ⟨fun e => h e.symm, h2⟩)]

theorem lk_xgive {f : Nat → Nat} : ∀ {σ0 : XSt U} {c : Nat} {x : XB U}, lk (xgive σ bs f σ0) c = some x → (∃ b x0, c = f b ∧ lk σ0 b = some x0 ∧ x = x0.mb f) ∨ (c ∉ bs ∧ lk σ c = some x)
  | [], c, x, h => by
    simp only [xgive, lk_xdels] at h
    split at h
    · cases h
    · rename_i hn; exact .inr ⟨hn, h⟩
  | (b, y) :: r, c, x, h => by
    simp only [xgive, lk_pt] at h
    split at h
    · rename_i hb; cases h; exact .inl ⟨b, y, hb.symm, by simp [lk, Nat.beq_refl], rfl⟩
    · rename_i hb
      rcases lk_xgive h with ⟨b', x0, h1, h2, h3⟩ | h
      · refine .inl ⟨b', x0, h1, ?_, h3⟩
        simp only [lk]
        cases hbb : Nat.beq b b' with
        | true => exact absurd (by rw [beq_true hbb]; exact h1.symm) hb
        | false => exact h2
      · exact .inr h

theorem back_inj (hnd : bs.Nodup) (hlt : ∀ b, b ∈ bs → b < key) {i j : Nat} (h : back bs key i = back bs key j) : i = j := by
  unfold back at h
  cases hi : bs[i]? with
  | some b =>
    rw [hi] at h
    have hbm := hlt b (List.mem_of_getElem? hi)
    cases hj : bs[j]? with
    | some c =>
      rw [hj] at h
      simp at h; subst h
      have := pos_of hnd hi
      rw [pos_of hnd hj] at this
      cases this; rfl
    | none => rw [hj] at h; simp at h; omega
  | none =>
    rw [hi] at h
    have hil := List.getElem?_eq_none_iff.1 hi
    cases hj : bs[j]? with
    | some c =>
      rw [hj] at h
      have hbm := hlt c (List.mem_of_getElem? hj)
      simp at h; omega
    | none =>
      rw [hj] at h
      have hjl := List.getElem?_eq_none_iff.1 hj
      simp at h; omega

theorem sget_give_in {f : Nat → Nat} (hf : ∀ i j, f i = f j → i = j) : ∀ {σ0 : Store} {b : Nat} {x : Blk}, sget σ0 b = some x → sget (giveSt σ1 bs f σ0) (f b) = some (x.mb f)
  | [], b, x, h => by simp [sget] at h
  | (c, y) :: r, b, x, h => by
    simp only [giveSt, sget_sput]
    simp only [sget] at h
    by_cases hcb : c = b
    · subst hcb; rw [if_pos rfl] at h ⊢; cases h; rfl
    · rw [if_neg hcb] at h
      rw [if_neg (fun e => hcb (hf _ _ e))]
      exact sget_give_in hf h

theorem sget_give_out {f : Nat → Nat} {c : Nat} (hc : c ∉ bs) (hf : ∀ b, f b ≠ c) : ∀ {σ0 : Store}, sget (giveSt σ1 bs f σ0) c = sget σ1 c
  | [] => by simp only [giveSt, sget_dels, if_neg hc]
  | (b, y) :: r => by
    simp only [giveSt, sget_sput]
    rw [if_neg (hf b)]
    exact sget_give_out hc hf

theorem XB.mb_dim {f : Nat → Nat} {x : XB U} : (x.mb f).dim = x.dim := by cases x <;> rfl

theorem xdimc_sound : ∀ {l : List Nat} {i0 : Nat} {c : Bool}, xdimc σ σr i0 l = some c → c = true → ∀ (j b : Nat) x', l[j]? = some b → lk σr (i0 + j) = some x' → ∃ x, lk σ b = some x ∧ ∀ p, x'.dim = some p → x.dim = some p
  | [], i0, c, h, hc, j, b, x', hj, hx => by simp at hj
  | a :: l, i0, c, h, hc, j, b, x', hj, hx => by
    simp only [xdimc] at h
    have next : ∀ {c'}, xdimc σ σr (i0 + 1) l = some c' → c' = true → ∀ j' , j = j' + 1 → ∃ x, lk σ b = some x ∧ ∀ p, x'.dim = some p → x.dim = some p := by
      intro c' h1 h2 j' e
      subst e
      exact xdimc_sound h1 h2 j' b x' (by simpa using hj) (by rw [show i0 + 1 + j' = i0 + (j' + 1) by omega]; exact hx)
    cases j with
    | zero =>
      simp at hj; subst hj
      simp only [Nat.add_zero] at hx
      rw [hx] at h
      simp only at h
      split at h
      · cases h
      · rename_i x hxx
        split at h
        · rename_i hd; exact ⟨x, hxx, fun p hp => by rw [hd] at hp; cases hp⟩
        · rename_i p' hd
          split at h
          · cases h
          · rename_i p hp0
            split at h
            · rename_i c' hb hcc
              cases h
              simp only [Bool.and_eq_true, decide_eq_true_eq] at hc
              refine ⟨x, hxx, fun q hq => ?_⟩
              rw [hd] at hq; cases hq
              rw [hp0]
              have := beq_true hb
              obtain ⟨p1, p2⟩ := p
              obtain ⟨q1, q2⟩ := p'
              simp at this hc ⊢
              exact ⟨this.symm, hc.1.symm⟩
            · cases h
    | succ j =>
      split at h
      · exact next h hc j rfl
      · split at h
        · cases h
        · split at h
          · exact next h hc j rfl
          · split at h
            · cases h
            · split at h
              · rename_i c' hb hcc
                cases h
                simp only [Bool.and_eq_true, decide_eq_true_eq] at hc
                exact next hcc hc.2 j rfl
              · cases h

variable (hnd : bs.Nodup) (hlt : ∀ b, b ∈ bs → b < key) (hN : N' ≤ bs.length + 16) (hS : SR key σ σ1)

include hnd hlt hN hS in
theorem CR.mb {x : XC U} {d : C} (h : CR N' σr x d) : CR (key + 16) (xgive σ bs (back bs key) σr) (x.mb (back bs key)) (d.mb (back bs key)) := by
  cases h with
  | t c => exact CR.t c
  | ptr b o => exact CR.ptr _ o
  | eptr b t i o => exact CR.eptr _ t i o
  | iptr t x o => exact CR.iptr t x o
  | arr b sz n hb h =>
    have hbk : back bs key b < key + 16 := by
      unfold back
      cases hi : bs[b]? with
      | some c => simp; have := hlt c (List.mem_of_getElem? hi); omega
      | none => have := List.getElem?_eq_none_iff.1 hi; simp; omega
    refine CR.arr _ sz n hbk fun x hx p hp => ?_
    rcases lk_xgive hx with ⟨b', x0, h1, h2, rfl⟩ | ⟨h1, h2⟩
    · have := back_inj hnd hlt h1; subst this
      rw [XB.mb_dim] at hp
      exact h x0 h2 p hp
    · exfalso
      have hk := (hS _ _ h2).1
      unfold back at h1 hk
      cases hi : bs[b]? with
      | some c => rw [hi] at h1; simp at h1; exact h1 (List.mem_of_getElem? hi)
      | none => rw [hi] at hk; simp at hk; omega
  | cap0 => exact .cap0
  | nilp => exact .nilp
  | nilfn => exact .nilfn
  | fn f caps => exact CR.fn f _
  | dead d => exact .dead _

theorem xmb_go_get {f : Nat → Nat} : ∀ {vs : List (XV U)} {i : Nat}, (XV.mb.go f vs)[i]? = (vs[i]?).map (XV.mb f)
  | [], i => by simp [XV.mb.go]
  | v :: vs, 0 => by simp [XV.mb.go]
  | v :: vs, i + 1 => by simp [XV.mb.go, xmb_go_get]
theorem xmb_go_length {f : Nat → Nat} : ∀ {vs : List (XV U)}, (XV.mb.go f vs).length = vs.length
  | [] => rfl
  | v :: vs => by simp [XV.mb.go, xmb_go_length]

include hnd hlt hN hS in
theorem VR.mb {x : XV U} {d : V} (h : VR N' σr x d) : VR (key + 16) (xgive σ bs (back bs key) σr) (x.mb (back bs key)) (d.mb (back bs key)) := by
  induction h with
  | c h => exact .c (CR.mb hnd hlt hN hS h)
  | agg h => exact .agg (All2.map_map (h.imp fun _ _ _ hh => CR.mb hnd hlt hN hS hh))
  | tup xs ds hl h ih =>
    refine .tup _ _ (by rw [xmb_go_length, mb_go_length]; exact hl) ?_
    intro i x d hx hd
    rw [xmb_go_get, Option.map_eq_some_iff] at hx
    rw [mb_go_get, Option.map_eq_some_iff] at hd
    obtain ⟨x', hx', rfl⟩ := hx
    obtain ⟨d', hd', rfl⟩ := hd
    exact ih i x' d' hx' hd'

include hnd hlt hS in
theorem keep_give (hd : xdimc σ σr 0 bs = some true) : Keep key σ (key + 16) (xgive σ bs (back bs key) σr) := by
  refine ⟨by omega, fun c x hc hx => ?_⟩
  rcases lk_xgive hx with ⟨b, x0, h1, h2, rfl⟩ | ⟨h1, h2⟩
  · unfold back at h1
    cases hi : bs[b]? with
    | some c' =>
      rw [hi] at h1; simp at h1; subst h1
      obtain ⟨x, k1, k2⟩ := xdimc_sound hd rfl b c x0 hi (by rw [Nat.zero_add]; exact h2)
      exact ⟨x, k1, fun p hp => k2 p (by rw [XB.mb_dim] at hp; exact hp)⟩
    | none => rw [hi] at h1; simp at h1; omega
  · exact ⟨x, h2, fun _ h => h⟩

include hnd hlt hN hS in
theorem SR.give (hd : xdimc σ σr 0 bs = some true) (hr : SR N' σr σ1r) : SR (key + 16) (xgive σ bs (back bs key) σr) (giveSt σ1 bs (back bs key) σ1r) := by
  intro c x hx
  have hbk : ∀ b, b < N' → back bs key b < key + 16 := by
    intro b hb
    unfold back
    cases hi : bs[b]? with
    | some c => simp; have := hlt c (List.mem_of_getElem? hi); omega
    | none => have := List.getElem?_eq_none_iff.1 hi; simp; omega
  rcases lk_xgive hx with ⟨b, x0, rfl, h2, rfl⟩ | ⟨h1, h2⟩
  · obtain ⟨h3, y, h4, h5⟩ := hr b x0 h2
    refine ⟨hbk b h3, y.mb (back bs key), sget_give_in (fun i j => back_inj hnd hlt) h4, ?_⟩
    cases h5 with
    | box h5 => exact .box (All2.map_map (h5.imp fun _ _ _ hh => CR.mb hnd hlt hN hS hh))
    | arr t l => exact .arr t l
    | rows h5 h6 => exact .rows h5 h6
  · obtain ⟨h3, y, h4, h5⟩ := hS c x h2
    refine ⟨by omega, y, ?_, ?_⟩
    · rw [sget_give_out h1 fun b => ?_]
      · exact h4
      · unfold back
        cases hi : bs[b]? with
        | some c' => simp; intro e; subst e; exact h1 (List.mem_of_getElem? hi)
        | none => simp; omega
    · exact h5.mono (keep_give hnd hlt hS hd)

end
end Go.Proofs.Ytkdepbmeaiefeaa.Shv
