/- The abstract machine, part 21: changes of the abstract state that the machine does not see; loops by their rounds; calls that are handed blocks. -/
import Derived.Test.YtkdepbmeaiefeaaShvLoop
namespace Go.Proofs.Ytkdepbmeaiefeaa.Shv
set_option linter.all false
open Go

/-- in a loop, at a round's head -/
def wpL (P : Program) (c : Code) (Q : Exit → Act → World → Prop) (a : Act) (w : World) : Prop :=
  ∀ (b : Frame) (k : List Item) (cs : List Frame), ∃ e a' w', Q e a' w' ∧ Arrives P (lone (b.at a (.code c :: .inLoop c :: k)) cs w) b k cs e a' w'

theorem wpL_round {P : Program} {c : Code} {Q : Exit → Act → World → Prop} {a : Act} {w : World} (h : c.wp P (Exit.then (wpL P c Q) Q) a w) : wpL P c Q a w := by
  intro b k cs
  obtain ⟨e, a₁, w₁, hq, harr⟩ := h b (.inLoop c :: k) cs
  cases e with
  | normal =>
    obtain ⟨e₂, a₂, w₂, hq₂, harr₂⟩ := hq b k cs
    exact ⟨e₂, a₂, w₂, hq₂, .of_steps (Steps.trans harr (.one step_inLoop)) harr₂⟩
  | exit id => exact ⟨_, a₁, w₁, hq, .pass (x := .inLoop c) rfl (fun _ _ => .inl (by simp)) harr⟩
  | goto l => exact ⟨_, a₁, w₁, hq, .pass (x := .inLoop c) rfl (fun _ _ => .inl (by simp)) harr⟩
  | ret => exact ⟨_, a₁, w₁, hq, .pass (x := .inLoop c) rfl (fun _ _ => .inl (by simp)) harr⟩
  | panic ch => exact ⟨_, a₁, w₁, hq, .pass (x := .inLoop c) rfl (fun _ _ => .inl (by simp)) harr⟩
  | outgrown => exact ⟨_, a₁, w₁, hq, .pass (x := .inLoop c) rfl (fun _ _ => .inl (by simp)) harr⟩

theorem wp_loop_of {P : Program} {c : Code} {Q : Exit → Act → World → Prop} {a : Act} {w : World} (h : wpL P c Q a w) : (Code.loop c).wp P Q a w := by
  intro b k cs
  obtain ⟨e, a', w', hq, harr⟩ := h b k cs
  exact ⟨e, a', w', hq, .of_steps (.one step_loop) harr⟩

section
variable {P : Program} {nt kk : Nat} {env env' : Env} {σ σ' : Store} {N N' : Nat} {Q Q' : Exit → Env → Store → Nat → Prop}

def AWL (P : Program) (nt kk : Nat) (c : ACode) (env : Env) (σ : Store) (N : Nat) (Q : Exit → Env → Store → Nat → Prop) : Prop :=
  ∀ code, resolve P nt code = some c → ∀ Γ φ S a w, Γ.k = kk → Rel Γ nt φ S env σ (lt N) a w → wpL P code (fun e a' w' => ∃ φ' S' env' σ' N', Q e env' σ' N' ∧ Rel Γ nt φ' S' env' σ' (lt N') a' w') a w

theorem AWL.round {c : ACode} (h : AW P nt kk c env σ N (andThen (fun env σ N => AWL P nt kk c env σ N Q) Q)) : AWL P nt kk c env σ N Q := by
  intro code hc Γ φ S a w hkk R
  refine wpL_round (wp_mono (h code hc Γ φ S a w hkk R) ?_)
  rintro e a' w' ⟨φ', S', env', σ', N', hq, R'⟩
  cases e with
  | normal => exact hq code hc Γ φ' S' a' w' hkk R'
  | _ => exact ⟨φ', S', env', σ', N', hq, R'⟩

theorem AW.loop_of {c : ACode} (h : AWL P nt kk c env σ N Q) : AW P nt kk (.loop c) env σ N Q := by
  intro code hc Γ φ S a w hkk R
  obtain ⟨b, rfl, hb⟩ := resolve_loop hc
  exact wp_loop_of (h b hb Γ φ S a w hkk R)

/-- a change of the abstract state that the machine does not see -/
def Conv (kk N : Nat) (env : Env) (σ : Store) (N' : Nat) (env' : Env) (σ' : Store) : Prop :=
  ∀ Γ nt φ S a w, Γ.k = kk → Rel Γ nt φ S env σ (lt N) a w → ∃ φ' S', Rel Γ nt φ' S' env' σ' (lt N') a w

theorem Conv.refl {kk N : Nat} : Conv kk N env σ N env σ := fun _ _ φ S _ _ _ R => ⟨φ, S, R⟩
theorem Conv.trans {kk N1 N2 N3 : Nat} {e1 e2 e3 : Env} {s1 s2 s3 : Store} (h : Conv kk N1 e1 s1 N2 e2 s2) (k : Conv kk N2 e2 s2 N3 e3 s3) : Conv kk N1 e1 s1 N3 e3 s3 :=
  fun Γ nt φ S a w hk R => let ⟨φ', S', R'⟩ := h Γ nt φ S a w hk R; k Γ nt φ' S' a w hk R'

theorem AW.conv {c : ACode} (hc : Conv kk N env σ N' env' σ') (h : AW P nt kk c env' σ' N' Q) : AW P nt kk c env σ N Q :=
  fun code hcode Γ φ S a w hkk R => let ⟨φ', S', R'⟩ := hc Γ nt φ S a w hkk R; h code hcode Γ φ' S' a w hkk R'
theorem AWL.conv {c : ACode} (hc : Conv kk N env σ N' env' σ') (h : AWL P nt kk c env' σ' N' Q) : AWL P nt kk c env σ N Q :=
  fun code hcode Γ φ S a w hkk R => let ⟨φ', S', R'⟩ := hc Γ nt φ S a w hkk R; h code hcode Γ φ' S' a w hkk R'

theorem Conv.tidy (ks bs : List Nat) (hnd : bs.Nodup) (hk : keeps kk bs = true) : Conv kk N env σ bs.length (tidyEnv bs env ks) (tidySt bs σ 0 bs) :=
  fun Γ nt φ S a w hkk R => let ⟨φ', R'⟩ := R.tidy ks bs hnd (by rw [hkk]; exact hk); ⟨φ', S, R'⟩

theorem Conv.freeze (b0 : Nat) {sz0 : Nat} {es : List (List T)} (hσ : sget σ b0 = some (.arr sz0 es)) : Conv kk N env σ N (frzEnv b0 sz0 es env) (frzSt b0 sz0 es σ) :=
  fun Γ nt φ S a w hkk R => ⟨φ, _, R.freeze hσ⟩

/-- a cell says less than another one -/
def CSub (c c' : C) : Prop := (∀ φ w S v, RC φ w S c v → RC φ w S c' v) ∧ ∀ n, c.bnd n = true → c'.bnd n = true
theorem CSub.refl (c : C) : CSub c c := ⟨fun _ _ _ _ h => h, fun _ h => h⟩
theorem CSub.dead (c : C) : CSub c .dead := ⟨fun _ _ _ _ h => h.oneCell, fun _ _ => rfl⟩
theorem CSub.cap0 : CSub .cap0 (.t (.slice [])) := by
  refine ⟨?_, fun _ _ => rfl⟩
  rintro φ w S v ⟨a, rfl⟩
  exact RT.slice [] a 0 0 0 0 (fun _ _ => undef) (by simp) (by simp) (by simp) (by simp) (by simp) (by simp)

inductive VSub : V → V → Prop
  | c {x y} : CSub x y → VSub (.c x) (.c y)
  | agg {xs ys} : All2 CSub xs ys → VSub (.agg xs) (.agg ys)
  | tup (xs ys : List V) (hl : xs.length = ys.length) (h : ∀ (i : Nat) x y, xs[i]? = some x → ys[i]? = some y → VSub x y) : VSub (.tup xs) (.tup ys)

theorem All2.comp {α β γ : Type} {R : α → β → Prop} {R' : β → γ → Prop} {R'' : α → γ → Prop} (h : ∀ a b c, R a b → R' b c → R'' a c) : ∀ {l : List α} {m : List β} {k : List γ}, All2 R l m → All2 R' m k → All2 R'' l k
  | [], [], [], _, _ => .nil
  | _ :: _, _ :: _, _ :: _, .cons h1 h2, .cons k1 k2 => .cons (h _ _ _ h1 k1) (All2.comp h h2 k2)

theorem All2.flip {α β : Type} {R : α → β → Prop} {R' : β → α → Prop} {l : List α} {m : List β} (h : All2 R l m) (k : ∀ a b, R a b → R' b a) : All2 R' m l := by
  induction h with
  | nil => exact .nil
  | cons h _ ih => exact .cons (k _ _ h) ih

theorem bnds_of_get' {n : Nat → Bool} : ∀ {vs : List V}, (∀ (i : Nat) v, vs[i]? = some v → v.bnd n = true) → V.bnd.V.bnds n vs = true
  | [], _ => rfl
  | v :: vs, h => by simp only [V.bnd.V.bnds, Bool.and_eq_true]; exact ⟨h 0 v rfl, bnds_of_get' fun i x hx => h (i + 1) x (by simpa using hx)⟩

theorem VSub.rv {φ : Phi} {w : World} {S : Stab} {v v' : V} (h : VSub v v') : ∀ {x}, RV φ w S v x → RV φ w S v' x := by
  induction h with
  | c h => intro x hx; cases hx with | c hx => exact .c (h.1 _ _ _ _ hx)
  | agg h =>
    intro x hx
    cases hx with
    | agg hx => exact .agg (All2.comp (fun a b c h1 h2 => h1.1 _ _ _ _ h2) (h.flip (R' := fun b a => CSub a b) fun _ _ h => h) hx)
  | tup xs ys hl h ih =>
    intro x hx
    cases hx with
    | tup _ zs hl2 h2 =>
      refine .tup _ zs (by omega) ?_
      intro i v z hv hz
      have hi : i < xs.length := by rw [hl]; exact (List.getElem?_eq_some_iff.1 hv).1
      exact ih i _ _ (List.getElem?_eq_getElem hi) hv (h2 i _ _ (List.getElem?_eq_getElem hi) hz)

theorem VSub.bnd {v v' : V} (h : VSub v v') (n : Nat → Bool) : v.bnd n = true → v'.bnd n = true := by
  induction h with
  | c h => intro hb; exact h.2 n hb
  | @agg xs ys h =>
    intro hb
    simp only [V.bnd, List.all_eq_true] at hb ⊢
    intro c hc
    obtain ⟨i, hi, rfl⟩ := List.getElem_of_mem hc
    obtain ⟨a, ha, hs⟩ := (h.flip (R' := fun b a => CSub a b) fun _ _ h => h).get (List.getElem?_eq_getElem hi)
    exact hs.2 n (hb a (List.mem_of_getElem? ha))
  | tup xs ys hl h ih =>
    intro hb
    simp only [V.bnd] at hb ⊢
    refine bnds_of_get' fun i v hv => ?_
    have hi : i < xs.length := by rw [hl]; exact (List.getElem?_eq_some_iff.1 hv).1
    exact ih i _ _ (List.getElem?_eq_getElem hi) hv (bnds_get hb (List.getElem?_eq_getElem hi))

inductive BSub : Blk → Blk → Prop
  | box {xs ys} : All2 CSub xs ys → BSub (.box xs) (.box ys)
  | arr {sz es} : BSub (.arr sz es) (.arr sz es)

def EnvSub (env env' : Env) : Prop := ∀ k g v', look env' k = some (g, v') → ∃ v, look env k = some (g, v) ∧ VSub v v'
def StSub (σ σ' : Store) : Prop := ∀ b x', sget σ' b = some x' → ∃ x, sget σ b = some x ∧ BSub x x'

theorem BSub.rb {φ : Phi} {w : World} {S : Stab} {b : Nat} {x x' : Blk} (h : BSub x x') (hr : RB φ w S b x) : RB φ w S b x' := by
  cases h with
  | arr => exact hr
  | box h =>
    obtain ⟨h0, vs, E, h1, h2, h3⟩ := hr
    exact ⟨h0, vs, E, h1, All2.comp (fun a b c h1 h2 => h1.1 _ _ _ _ h2) (h.flip (R' := fun b a => CSub a b) fun _ _ h => h) h2, h3⟩

theorem BSub.bnd {x x' : Blk} (h : BSub x x') (n : Nat → Bool) (hb : x.bnd n = true) : x'.bnd n = true := by
  cases h with
  | arr => exact hb
  | @box xs ys h =>
    have := VSub.bnd (.agg h) n (by simpa [V.bnd, Blk.bnd] using hb)
    simpa [V.bnd, Blk.bnd] using this

theorem Rel.weaken {Γ : Ctx} {φ : Phi} {S : Stab} {n : Nat → Bool} {a : Act} {w : World} (R : Rel Γ nt φ S env σ n a w) (he : EnvSub env env') (hs : StSub σ σ') : Rel Γ nt φ S env' σ' n a w := by
  refine ⟨⟨fun b x hx => ?_, fun b b' x y hx hy => ?_, R.sim.st⟩, fun k g v hl hg => ?_, fun k g v hl hg => ?_, fun k g v hl hg => ?_, fun b x hx => ?_, R.size, R.defers, R.ext, fun b x hx => ?_, R.fix, R.kn⟩
  · obtain ⟨x0, h1, h2⟩ := hs b x hx; exact h2.rb (R.sim.blk b x0 h1)
  · obtain ⟨x0, h1, h2⟩ := hs b x hx
    obtain ⟨y0, k1, k2⟩ := hs b' y hy
    exact R.sim.inj b b' x0 y0 h1 k1
  · obtain ⟨v0, h1, h2⟩ := he k g v hl
    obtain ⟨x, hx, hr⟩ := R.envs k g v0 h1 hg
    exact ⟨x, hx, h2.rv hr⟩
  · obtain ⟨v0, h1, h2⟩ := he k g v hl; exact R.envn k g v0 h1 hg
  · obtain ⟨v0, h1, h2⟩ := he k g v hl; exact h2.bnd n (R.ebnd k g v0 h1 hg)
  · obtain ⟨x0, h1, h2⟩ := hs b x hx; exact ⟨(R.sbnd b x0 h1).1, h2.bnd n (R.sbnd b x0 h1).2⟩
  · obtain ⟨x0, h1, h2⟩ := hs b x hx; exact R.own b x0 h1

theorem Conv.weaken (he : EnvSub env env') (hs : StSub σ σ') : Conv kk N env σ N env' σ' := fun Γ nt φ S a w _ R => ⟨φ, S, R.weaken he hs⟩

/-- a new empty array -/
theorem Rel.newArr {Γ : Ctx} {φ : Phi} {S : Stab} {a : Act} {w : World} (R : Rel Γ nt φ S env σ (lt N) a w) {sz : Nat} (hsz : 0 < sz) (hk : Γ.k ≤ N) :
    Rel Γ nt (upd φ N (0, 0)) S env (sput σ N (.arr sz [])) (lt (N + 1)) a w := by
  have hφ : ∀ b, lt N b = true → upd φ N (0, 0) b = φ b := by
    intro b hb
    simp only [lt, decide_eq_true_eq] at hb
    simp only [upd]
    rw [if_neg (by omega)]
  have hm : ∀ b, lt N b = true → lt (N + 1) b = true := fun b hb => lt_mono (by omega) hb
  have R1 := R.phi hφ
  have hN : (upd φ N (0, 0) N).2 = 0 := by simp [upd]
  have hget : ∀ b x, sget (sput σ N (.arr sz [])) b = some x → (b = N ∧ x = .arr sz []) ∨ (b ≠ N ∧ sget σ b = some x) := by
    intro b x hx
    rw [sget_sput] at hx
    split at hx
    · rename_i h; cases hx; exact .inl ⟨h.symm, rfl⟩
    · rename_i h; exact .inr ⟨fun e => h e.symm, hx⟩
  refine ⟨⟨fun b x hx => ?_, fun b b' x y hx hy hne h0 h0' => ?_, R1.sim.st⟩, R1.envs, R1.envn, fun k g v hl hg => V.bnd_mono hm (R1.ebnd k g v hl hg), fun b x hx => ?_, R1.size, R1.defers, R1.ext, fun b x hx h0 => ?_, R1.fix, fun b hb => by simp only [lt, decide_eq_true_eq]; omega⟩
  · rcases hget b x hx with ⟨rfl, rfl⟩ | ⟨_, hx⟩
    · exact ⟨by simp, by simp, by simp, hsz, fun h => absurd hN h⟩
    · exact R1.sim.blk b x hx
  · rcases hget b x hx with ⟨rfl, rfl⟩ | ⟨_, hx⟩
    · exact absurd hN h0
    · rcases hget b' y hy with ⟨rfl, rfl⟩ | ⟨_, hy⟩
      · exact absurd hN h0'
      · exact R1.sim.inj b b' x y hx hy hne h0 h0'
  · rcases hget b x hx with ⟨rfl, rfl⟩ | ⟨_, hx⟩
    · exact ⟨by simp [lt], rfl⟩
    · exact ⟨hm b (R1.sbnd b x hx).1, Blk.bnd_mono hm (R1.sbnd b x hx).2⟩
  · rcases hget b x hx with ⟨rfl, rfl⟩ | ⟨_, hx⟩
    · exact absurd hN h0
    · exact R1.own b x hx h0

end

/-! calls that are handed blocks -/

def C.mb (f : Nat → Nat) : C → C
  | .ptr b o => .ptr (f b) o
  | .eptr b sz i o => .eptr (f b) sz i o
  | .arr b sz off len => .arr (f b) sz off len
  | .fn g caps => .fn g (caps.map f)
  | c => c

def V.mb (f : Nat → Nat) : V → V
  | .c x => .c (x.mb f)
  | .agg cs => .agg (cs.map (C.mb f))
  | .tup vs => .tup (go f vs)
where go (f : Nat → Nat) : List V → List V
  | [] => []
  | v :: vs => v.mb f :: go f vs

def Blk.mb (f : Nat → Nat) : Blk → Blk
  | .box cs => .box (cs.map (C.mb f))
  | .arr sz es => .arr sz es

def dels (σ : Store) : List Nat → Store
  | [] => σ
  | b :: r => sdel (dels σ r) b

theorem sget_dels {σ : Store} : ∀ {bs : List Nat} {b : Nat}, sget (dels σ bs) b = if b ∈ bs then none else sget σ b
  | [], b => by simp [dels]
  | c :: r, b => by
    simp only [dels, sget_sdel, sget_dels (bs := r)]
    by_cases h : c = b
    · subst h; simp
    · rw [if_neg h]
      by_cases h2 : b ∈ r
      · simp [h2]
      · rw [if_neg h2, if_neg (by simp only [List.mem_cons, not_or]; exact ⟨fun e => h e.symm, h2⟩)]

/-- the number of a block of the callee for the caller -/
def back (bs : List Nat) (key : Nat) (b : Nat) : Nat := (bs[b]?).getD (key + (b - bs.length))

def giveSt (σ : Store) (bs : List Nat) (f : Nat → Nat) : Store → Store
  | [] => dels σ bs
  | (b, x) :: r => sput (giveSt σ bs f r) (f b) (x.mb f)

theorem sget_give {σ : Store} {bs : List Nat} {f : Nat → Nat} : ∀ {σ0 : Store} {c : Nat} {x : Blk}, sget (giveSt σ bs f σ0) c = some x → (∃ b x0, c = f b ∧ sget σ0 b = some x0 ∧ x = x0.mb f) ∨ (c ∉ bs ∧ sget σ c = some x)
  | [], c, x, h => by
    simp only [giveSt, sget_dels] at h
    split at h
    · cases h
    · rename_i hn; exact .inr ⟨hn, h⟩
  | (b, y) :: r, c, x, h => by
    simp only [giveSt, sget_sput] at h
    split at h
    · rename_i hb; cases h; exact .inl ⟨b, y, hb.symm, by simp [sget], rfl⟩
    · rename_i hb
      rcases sget_give h with ⟨b', x0, h1, h2, h3⟩ | h
      · refine .inl ⟨b', x0, h1, ?_, h3⟩
        simp only [sget]
        rw [if_neg (fun e => hb (by rw [e]; exact h1.symm))]
        exact h2
      · exact .inr h

section
variable {P : Program} {Γ : Ctx} {nt kk : Nat} {φ : Phi} {S S' : Stab} {env : Env} {σ : Store} {N key : Nat} {n : Nat → Bool} {a : Act} {w w' : World} {f : Nat → Nat}

theorem RC.mb {φ' : Phi} {n : Nat → Bool} (hφ : ∀ b, n b = true → φ' (f b) = φ b) {c : C} {v : Value} (hb : c.bnd n = true) (h : RC φ w S c v) : RC φ' w S (c.mb f) v := by
  cases c with
  | ptr b o => simp only [C.bnd] at hb; simp only [C.mb, RC, hφ b hb]; exact h
  | eptr b sz i o => simp only [C.bnd] at hb; simp only [C.mb, RC, hφ b hb]; exact h
  | arr b sz off len => simp only [C.bnd] at hb; simp only [C.mb, RC, hφ b hb]; exact h
  | fn g caps =>
    simp only [C.bnd, List.all_eq_true] at hb
    simp only [C.mb, RC] at h ⊢
    rw [h]
    congr 2
    rw [List.map_map]
    apply List.map_congr_left
    intro b hbm
    simp only [Function.comp, hφ b (hb b hbm)]
  | _ => exact h

theorem mb_go_get : ∀ {vs : List V} {i : Nat}, (V.mb.go f vs)[i]? = (vs[i]?).map (V.mb f)
  | [], i => by simp [V.mb.go]
  | v :: vs, 0 => by simp [V.mb.go]
  | v :: vs, i + 1 => by simp [V.mb.go, mb_go_get]

theorem mb_go_length : ∀ {vs : List V}, (V.mb.go f vs).length = vs.length
  | [] => rfl
  | v :: vs => by simp [V.mb.go, mb_go_length]

theorem RV.mb {φ' : Phi} {n : Nat → Bool} (hφ : ∀ b, n b = true → φ' (f b) = φ b) {v : V} {x : Value} (hb : v.bnd n = true) (h : RV φ w S v x) : RV φ' w S (v.mb f) x := by
  induction h with
  | c h => exact .c (RC.mb hφ (by simpa [V.bnd] using hb) h)
  | @agg cs vs h =>
    simp only [V.bnd, List.all_eq_true] at hb
    refine .agg ?_
    have := h.imp (R' := fun c v => RC φ' w S (C.mb f c) v) fun c v hc hr => RC.mb hφ (hb c hc) hr
    exact this.map_left fun _ _ h => h
  | tup vs xs hl h ih =>
    refine .tup _ xs (by rw [mb_go_length]; exact hl) ?_
    intro i v x hv hx
    rw [mb_go_get, Option.map_eq_some_iff] at hv
    obtain ⟨v0, hv0, rfl⟩ := hv
    exact ih i v0 x hv0 hx (bnds_get (by simpa [V.bnd] using hb) hv0)

theorem C.mb_bnd {n m : Nat → Bool} (hf : ∀ b, m b = true → n (f b) = true) {c : C} (h : c.bnd m = true) : (c.mb f).bnd n = true := by
  cases c <;> simp only [C.mb, C.bnd, List.all_eq_true, List.mem_map] at h ⊢
  · exact hf _ h
  · exact hf _ h
  · exact hf _ h
  · rintro b ⟨b0, h1, rfl⟩; exact hf _ (h b0 h1)

theorem V.mb_bnd {n m : Nat → Bool} (hf : ∀ b, m b = true → n (f b) = true) : ∀ {v : V}, v.bnd m = true → (v.mb f).bnd n = true
  | .c x, h => by simp only [V.mb, V.bnd] at h ⊢; exact C.mb_bnd hf h
  | .agg cs, h => by simp only [V.mb, V.bnd, List.all_map, List.all_eq_true] at h ⊢; intro c hc; exact C.mb_bnd hf (h c hc)
  | .tup vs, h => by simp only [V.mb, V.bnd] at h ⊢; exact go vs h
where go : ∀ vs, V.bnd.V.bnds m vs = true → V.bnd.V.bnds n (V.mb.go f vs) = true
  | [], _ => rfl
  | v :: vs, h => by simp only [V.mb.go, V.bnd.V.bnds, Bool.and_eq_true] at h ⊢; exact ⟨V.mb_bnd hf h.1, go vs h.2⟩

/-- the world changes at some blocks that are not spoken of any more -/
theorem Rel.extendB {B : Nat → Prop} (R : Rel Γ nt φ S env σ n a w) (e : Ext B S S' w w') (hst : ∀ b j, S' b j → b < w'.heap.size) (hnB : ∀ b x, sget σ b = some x → (φ b).2 ≠ 0 → ¬ B (φ b).1) (hB : ∀ b, B b → Γ.B b ∨ Γ.w0.heap.size ≤ b) : Rel Γ nt φ S' env σ n a w' := by
  have hh : ∀ b x, sget σ b = some x → (φ b).2 ≠ 0 → w'.heap[(φ b).1]? = w.heap[(φ b).1]? := fun b x hx h0 => e.block _ ((R.sim.blk b x hx).real_lt h0) (hnB b x hx h0)
  have hns : ∀ b x, sget σ b = some x → (φ b).2 ≠ 0 → ∀ j, ¬ S' (φ b).1 j := by
    intro b x hx h0 j hj
    have hb := R.sim.blk b x hx
    rcases e.snew _ _ hj with h | h | h
    · exact hb.notS h0 j h
    · exact hnB b x hx h0 h
    · have := hb.real_lt h0; omega
  refine ⟨⟨fun b x hx => ?_, R.sim.inj, hst⟩, fun k g v hl hg => ?_, R.envn, R.ebnd, R.sbnd, R.size, R.defers, ?_, R.own, R.fix, R.kn⟩
  · have hb := R.sim.blk b x hx
    cases x with
    | box cs =>
      obtain ⟨h0, vs, E, h1, h2, h3⟩ := hb
      refine ⟨h0, vs, E, (hh _ _ hx h0).trans h1, h2.imp fun c v hc hr => RC.mono (n := fun _ => true) e.mono (fun _ _ => rfl) (C.bnd_true _) hr, hns b _ hx h0⟩
    | arr sz es =>
      obtain ⟨h1, h2, h3, h4, h5⟩ := hb
      refine ⟨h1, h2, h3, h4, fun h0 => ?_⟩
      obtain ⟨vs, E, k1, k2, k3, k4⟩ := h5 h0
      exact ⟨vs, E, (hh _ _ hx h0).trans k1, k2, fun i j e' t he ht => let ⟨v, hv, hr⟩ := k3 i j e' t he ht; ⟨v, hv, RT.mono e.mono hr⟩, hns b _ hx h0⟩
  · obtain ⟨x, hx, hr⟩ := R.envs k g v hl hg
    exact ⟨x, hx, RV.mono e.mono (fun _ _ => rfl) (R.ebnd k g v hl hg) hr⟩
  · refine ⟨e.os.trans R.ext.os, e.tape.trans R.ext.tape, e.output.trans R.ext.output, Nat.le_trans R.ext.size e.size, fun b hlt hb => ?_, R.ext.mono.trans e.mono, fun b j hj => ?_⟩
    · refine (e.block b (Nat.lt_of_lt_of_le hlt R.ext.size) fun h => ?_).trans (R.ext.block b hlt hb)
      rcases hB b h with h | h
      · exact hb h
      · omega
    · rcases e.snew _ _ hj with h | h | h
      · exact R.ext.snew b j h
      · exact .inr (hB b h)
      · exact .inr (.inr (Nat.le_trans R.ext.size h))

theorem ACall.raw {fn : Nat} {args : List V} {bs : List Nat} {Q : V → Store → Nat → Prop} (hnd : bs.Nodup) (hlt : ∀ b, b ∈ bs → b < key) (h : Con P fn (args.map (V.ren bs)) (tidySt bs σ 0 bs) bs.length Q) {K : V → Store → Prop}
    (hK : ∀ r σ' N', Q r σ' N' → N' ≤ bs.length + 16 ∧ K (r.mb (back bs key)) (giveSt σ bs (back bs key) σ')) : (∀ b, b ∈ bs → n b = true) → ∀ Γ nt φ S env a w, Rel Γ nt φ S env σ n a w → (∀ b, key ≤ b → b < key + 16 → n b = false) → V.bnd.V.bnds n args = true → ∀ vs : List Value, All2 (RV φ w S) args vs →
    Calls P fn vs.toArray w fun e w' => ∃ v r φ' S' σ', e = .returned v ∧ K r σ' ∧ RV φ' w' S' r v ∧ r.bnd (insR n key) = true ∧ Rel Γ nt φ' S' env σ' (insR n key) a w' := by
  intro hnb Γ nt φ S env a w R hn hb' vs hvs
  let φ0 : Phi := fun i => φ ((bs[i]?).getD 0)
  have hφ0 : ∀ (i : Nat) b, bs[i]? = some b → φ0 i = φ b := by intro i b h; simp [φ0, h]
  let B : Nat → Prop := fun β => ∃ b x, b ∈ bs ∧ sget σ b = some x ∧ (φ b).2 ≠ 0 ∧ β = (φ b).1
  have hs0 : ∀ b x, sget (tidySt bs σ 0 bs) b = some x → ∃ c x0, bs[b]? = some c ∧ sget σ c = some x0 ∧ x = x0.ren bs := by
    intro b x hx
    obtain ⟨j, c, x0, rfl, h2, h3, rfl⟩ := sget_tidy hx
    exact ⟨c, x0, by simpa using h2, h3, rfl⟩
  have hsim : Sim φ0 w S (tidySt bs σ 0 bs) := by
    refine ⟨fun b x hx => ?_, fun b b' x y hx hy hne h0 h0' => ?_, R.sim.st⟩
    · obtain ⟨c, x0, h2, h3, rfl⟩ := hs0 b x hx
      exact RB.ren hφ0 h2 (R.sim.blk c x0 h3)
    · obtain ⟨c, x0, h2, h3, rfl⟩ := hs0 b x hx
      obtain ⟨c', x0', h2', h3', rfl⟩ := hs0 b' y hy
      rw [hφ0 b c h2] at h0 ⊢
      rw [hφ0 b' c' h2'] at h0' ⊢
      refine R.sim.inj c c' x0 x0' h3 h3' ?_ h0 h0'
      intro e
      subst e
      obtain ⟨a1, b1⟩ := List.getElem?_eq_some_iff.1 h2
      obtain ⟨a2, b2⟩ := List.getElem?_eq_some_iff.1 h2'
      have hp := List.pairwise_iff_getElem.1 hnd
      rcases Nat.lt_trichotomy b b' with h | h | h
      · exact hp b b' a1 a2 h (b1.trans b2.symm)
      · exact hne h
      · exact hp b' b a2 a1 h (b2.trans b1.symm)
  have hargs : All2 (RV φ0 w S) (args.map (V.ren bs)) vs := hvs.map_left fun _ _ => RV.ren hφ0
  have hbn : V.bnd.V.bnds (lt bs.length) (args.map (V.ren bs)) = true := by
    refine bnds_of_get' fun i v hv => ?_
    rw [List.getElem?_map, Option.map_eq_some_iff] at hv
    obtain ⟨v0, _, rfl⟩ := hv
    exact V.ren_bnd v0
  refine (h φ0 S w B hsim (fun b x hx => ?_) (fun b x hx h0 => ?_) hbn vs hargs).mono ?_
  · obtain ⟨c, x0, h2, h3, rfl⟩ := hs0 b x hx
    refine ⟨(List.getElem?_eq_some_iff.1 h2).1, ?_⟩
    cases x0 with
    | box cs => simp only [Blk.ren, Blk.bnd, List.all_map, List.all_eq_true]; intro c _; exact C.ren_bnd c
    | arr sz es => rfl
  · obtain ⟨c, x0, h2, h3, rfl⟩ := hs0 b x hx
    rw [hφ0 b c h2] at h0 ⊢
    exact ⟨c, x0, List.mem_of_getElem? h2, h3, h0, rfl⟩
  rintro e w' ⟨v, r', φ', S', σ', N', rfl, hQ, h1, h2, h3, h4, h5, h6, h7⟩
  obtain ⟨hN, hK⟩ := hK _ _ _ hQ
  -- what the caller keeps
  have hBown : ∀ b, B b → Γ.B b ∨ Γ.w0.heap.size ≤ b := by
    rintro β ⟨b, x, _, hx, h0, rfl⟩
    exact R.own b x hx h0
  have R0 : Rel Γ nt φ S env (dels σ bs) n a w := by
    have hsub : ∀ b x, sget (dels σ bs) b = some x → b ∉ bs ∧ sget σ b = some x := by
      intro b x hx
      rw [sget_dels] at hx
      split at hx
      · cases hx
      · rename_i h; exact ⟨h, hx⟩
    exact ⟨⟨fun b x hx => R.sim.blk b x (hsub b x hx).2, fun b b' x y hx hy => R.sim.inj b b' x y (hsub b x hx).2 (hsub b' y hy).2, R.sim.st⟩, R.envs, R.envn, R.ebnd, fun b x hx => R.sbnd b x (hsub b x hx).2, R.size, R.defers, R.ext, fun b x hx => R.own b x (hsub b x hx).2, R.fix, R.kn⟩
  have hnB : ∀ b x, b ∉ bs → sget σ b = some x → (φ b).2 ≠ 0 → ¬ B (φ b).1 := by
    rintro b x hnb hx h0 ⟨c, y, hc, hy, h0', he⟩
    exact R.sim.inj b c x y hx hy (fun e => hnb (e ▸ hc)) h0 h0' he
  have R1 := R0.extendB h5 h3.st (fun b x hx h0 => by
    rw [sget_dels] at hx
    split at hx
    · cases hx
    · rename_i h; exact hnB b x h hx h0) hBown
  let ψ : Phi := fun b => if key ≤ b ∧ b < key + 16 then φ' (bs.length + (b - key)) else φ b
  have hψn : ∀ b, n b = true → ψ b = φ b := by
    intro b hb
    simp only [ψ]
    rw [if_neg]
    rintro ⟨h1, h2⟩
    rw [hn b h1 h2] at hb; cases hb
  have hψk : ∀ b, lt N' b = true → ψ (back bs key b) = φ' b := by
    intro b hb
    simp only [lt, decide_eq_true_eq] at hb
    unfold back
    cases hg : bs[b]? with
    | some c =>
      have hcl := (List.getElem?_eq_some_iff.1 hg).1
      have hck := hlt c (List.mem_of_getElem? hg)
      simp only [Option.getD_some]
      rw [h7 b hcl, hφ0 b c hg]
      simp only [ψ]
      rw [if_neg (by omega)]
    | none =>
      have hcl := List.getElem?_eq_none_iff.1 hg
      simp only [Option.getD_none, ψ]
      rw [if_pos (by omega)]
      congr 1; omega
  have hins : ∀ b, lt N' b = true → insR n key (back bs key b) = true := by
    intro b hb
    simp only [lt, decide_eq_true_eq] at hb
    unfold back
    cases hg : bs[b]? with
    | some c => simp only [Option.getD_some]; exact insR_of (hnb c (List.mem_of_getElem? hg))
    | none =>
      have hcl := List.getElem?_eq_none_iff.1 hg
      simp only [Option.getD_none, insR, Bool.or_eq_true, Bool.and_eq_true, decide_eq_true_eq]
      right; omega
  have R2 := R1.phi hψn
  have hget : ∀ b x, sget (giveSt σ bs (back bs key) σ') b = some x → (∃ c x0, b = back bs key c ∧ sget σ' c = some x0 ∧ x = x0.mb (back bs key)) ∨ (b ∉ bs ∧ sget σ b = some x) := fun b x hx => sget_give hx
  have hdel : ∀ b x, b ∉ bs → sget σ b = some x → sget (dels σ bs) b = some x := by
    intro b x hnb hx; rw [sget_dels, if_neg hnb]; exact hx
  have hnew : ∀ c x0, sget σ' c = some x0 → (ψ (back bs key c)).2 ≠ 0 → B (ψ (back bs key c)).1 ∨ w.heap.size ≤ (ψ (back bs key c)).1 := by
    intro c x0 hc h0
    rw [hψk c (by simp [lt]; exact (h4 c x0 hc).1)] at h0 ⊢
    exact h6 c x0 hc h0
  have hold : ∀ b x, b ∉ bs → sget σ b = some x → (ψ b).2 ≠ 0 → (ψ b).1 < w.heap.size ∧ ¬ B (ψ b).1 := by
    intro b x hnb hx h0
    rw [hψn b (R.sbnd b x hx).1] at h0 ⊢
    exact ⟨(R.sim.blk b x hx).real_lt h0, hnB b x hnb hx h0⟩
  refine ⟨v, r'.mb (back bs key), ψ, S', giveSt σ bs (back bs key) σ', rfl, hK, RV.mb hψk h2 h1, V.mb_bnd hins h2, ⟨⟨fun b x hx => ?_, fun b b' x y hx hy hne h0 h0' => ?_, h3.st⟩, R2.envs, R2.envn, fun k g v hl hg => V.bnd_mono (fun _ h => insR_of h) (R2.ebnd k g v hl hg), fun b x hx => ?_, R2.size, R2.defers, R2.ext, fun b x hx h0 => ?_, R2.fix, fun b hb => insR_of (R2.kn b hb)⟩⟩
  · rcases hget b x hx with ⟨c, x0, rfl, hc, rfl⟩ | ⟨hnb, hx⟩
    · have hB := h3.blk c x0 hc
      have hcb := h4 c x0 hc
      have e1 := hψk c (by simp [lt]; exact hcb.1)
      cases x0 with
      | box cs =>
        obtain ⟨k0, vs, E, k1, k2, k3⟩ := hB
        simp only [Blk.mb, RB, e1]
        refine ⟨k0, vs, E, k1, ?_, k3⟩
        have hcs := hcb.2
        simp only [Blk.bnd, List.all_eq_true] at hcs
        have := k2.imp (R' := fun c v => RC ψ w' S' (C.mb (back bs key) c) v) fun c v hc hr => RC.mb hψk (hcs c hc) hr
        exact this.map_left fun _ _ h => h
      | arr sz es => simp only [Blk.mb, RB, e1]; exact hB
    · exact R2.sim.blk b x (hdel b x hnb hx)
  · rcases hget b x hx with ⟨c, x0, rfl, hc, rfl⟩ | ⟨hnb, hx⟩ <;> rcases hget b' y hy with ⟨c', x0', rfl, hc', rfl⟩ | ⟨hnb', hy⟩
    · have e1 := hψk c (by simp [lt]; exact (h4 c x0 hc).1)
      have e2 := hψk c' (by simp [lt]; exact (h4 c' x0' hc').1)
      rw [e1] at h0 ⊢
      rw [e2] at h0' ⊢
      exact h3.inj c c' x0 x0' hc hc' (by rintro rfl; exact hne rfl) h0 h0'
    · obtain ⟨k1, k2⟩ := hold b' y hnb' hy h0'
      rcases hnew c x0 hc h0 with h | h
      · intro e; rw [e] at h; exact k2 h
      · omega
    · obtain ⟨k1, k2⟩ := hold b x hnb hx h0
      rcases hnew c' x0' hc' h0' with h | h
      · intro e; rw [← e] at h; exact k2 h
      · omega
    · exact R2.sim.inj b b' x y (hdel b x hnb hx) (hdel b' y hnb' hy) hne h0 h0'
  · rcases hget b x hx with ⟨c, x0, rfl, hc, rfl⟩ | ⟨hnb, hx⟩
    · obtain ⟨k1, k2⟩ := h4 c x0 hc
      refine ⟨hins c (by simp [lt]; exact k1), ?_⟩
      cases x0 with
      | box cs =>
        simp only [Blk.mb, Blk.bnd, List.all_map, List.all_eq_true] at k2 ⊢
        intro c hc; exact C.mb_bnd hins (k2 c hc)
      | arr sz es => rfl
    · obtain ⟨k1, k2⟩ := R2.sbnd b x (hdel b x hnb hx)
      exact ⟨insR_of k1, Blk.bnd_mono (fun _ h => insR_of h) k2⟩
  · rcases hget b x hx with ⟨c, x0, rfl, hc, rfl⟩ | ⟨hnb, hx⟩
    · rcases hnew c x0 hc h0 with h | h
      · exact hBown _ h
      · exact .inr (Nat.le_trans R.ext.size h)
    · exact R2.own b x (hdel b x hnb hx) h0

end
end Go.Proofs.Ytkdepbmeaiefeaa.Shv
