/- The abstract machine, part 16: the use of a contract at a call. -/
import Derived.Test.YtkdepbmeaiefeaaShvCon2
namespace Go.Proofs.Ytkdepbmeaiefeaa.Shv
set_option linter.all false
open Go

def C.sh (k : Nat) : C → C
  | .ptr b o => .ptr (k + b) o
  | .eptr b sz i o => .eptr (k + b) sz i o
  | .arr b sz off len => .arr (k + b) sz off len
  | .fn f caps => .fn f (caps.map (k + ·))
  | c => c

def V.sh (k : Nat) : V → V
  | .c x => .c (x.sh k)
  | .agg cs => .agg (cs.map (C.sh k))
  | .tup vs => .tup (go k vs)
where go (k : Nat) : List V → List V
  | [] => []
  | v :: vs => v.sh k :: go k vs

def Blk.sh (k : Nat) : Blk → Blk
  | .box cs => .box (cs.map (C.sh k))
  | .arr sz es => .arr sz es

/-- the blocks that a call hands over -/
def adopt (σ : Store) (k : Nat) : Store → Store
  | [] => σ
  | (b, x) :: r => sput (adopt σ k r) (k + b) (x.sh k)

theorem sget_adopt {σ : Store} {k : Nat} : ∀ {σ0 : Store} {b : Nat}, sget (adopt σ k σ0) b = match (if k ≤ b then sget σ0 (b - k) else none) with | some x => some (x.sh k) | none => sget σ b
  | [], b => by simp [adopt, sget]
  | (c, x) :: r, b => by
    simp only [adopt, sget_sput, sget_adopt, sget]
    by_cases h : k + c = b
    · subst h
      rw [if_pos rfl, if_pos (by omega), if_pos (by omega)]
    · rw [if_neg h]
      by_cases h2 : k ≤ b
      · rw [if_pos h2, if_pos h2, if_neg (by omega)]
      · rw [if_neg h2, if_neg h2]

section
variable {P : Program} {Γ : Ctx} {nt kk : Nat} {φ : Phi} {S S' : Stab} {env : Env} {σ : Store} {N key : Nat} {n : Nat → Bool} {a : Act} {w w' : World}

/-- the world grows, and more of it is immutable -/
theorem Rel.extend (R : Rel Γ nt φ S env σ n a w) (e : Ext (fun _ => False) S S' w w') (hst : ∀ b j, S' b j → b < w'.heap.size) : Rel Γ nt φ S' env σ n a w' := by
  have hh : ∀ b : Nat, b < w.heap.size → w'.heap[b]? = w.heap[b]? := fun b hb => e.block b hb (fun h => h)
  have hns : ∀ b x, sget σ b = some x → (φ b).2 ≠ 0 → ∀ j, ¬ S' (φ b).1 j := by
    intro b x hx h0 j hj
    have hB := R.sim.blk b x hx
    rcases e.snew _ _ hj with h | h | h
    · exact hB.notS h0 j h
    · exact h
    · have := hB.real_lt h0; omega
  refine ⟨⟨fun b x hx => ?_, R.sim.inj, hst⟩, fun k g v hl hg => ?_, R.envn, R.ebnd, R.sbnd, R.size, R.defers, ?_, R.own, R.fix, R.kn⟩
  · have hB := R.sim.blk b x hx
    cases x with
    | box cs =>
      obtain ⟨h0, vs, E, h1, h2, h3⟩ := hB
      refine ⟨h0, vs, E, (hh _ (lt_of_heap h1)).trans h1, h2.imp fun c v hc hr => RC.mono (n := fun _ => true) e.mono (fun _ _ => rfl) (C.bnd_true _) hr, hns b _ hx h0⟩
    | arr sz es =>
      obtain ⟨h1, h2, h3, h4, h5⟩ := hB
      refine ⟨h1, h2, h3, h4, fun h0 => ?_⟩
      obtain ⟨vs, E, k1, k2, k3, k4⟩ := h5 h0
      exact ⟨vs, E, (hh _ (lt_of_heap k1)).trans k1, k2, fun i j e' t he ht => let ⟨v, hv, hr⟩ := k3 i j e' t he ht; ⟨v, hv, RT.mono e.mono hr⟩, hns b _ hx h0⟩
  · obtain ⟨x, hx, hr⟩ := R.envs k g v hl hg
    exact ⟨x, hx, RV.mono e.mono (fun _ _ => rfl) (R.ebnd k g v hl hg) hr⟩
  · refine ⟨e.os.trans R.ext.os, e.tape.trans R.ext.tape, e.output.trans R.ext.output, Nat.le_trans R.ext.size e.size, fun b hlt hB => ?_, R.ext.mono.trans e.mono, fun b j hj => ?_⟩
    · exact (hh b (Nat.lt_of_lt_of_le hlt R.ext.size)).trans (R.ext.block b hlt hB)
    · rcases e.snew _ _ hj with h | h | h
      · exact R.ext.snew b j h
      · exact h.elim
      · exact .inr (.inr (Nat.le_trans R.ext.size h))

theorem lt0_bnd {c : C} (h : c.bnd (lt 0) = true) (n : Nat → Bool) : c.bnd n = true := by
  cases c <;> simp_all [C.bnd, lt]

/-- a function of immutable data, with immutable data for its result -/
theorem ACall.of_pure {f : Nat} {args : List V} {r : V} (h : Con P f args [] 0 (fun r' _ _ => r' = r)) (hb : V.bnd.V.bnds (lt 0) args = true) (hr : r.bnd (lt 0) = true) {K : V → Store → Prop} (hK : K r σ) : ACall P f args σ key K := by
  intro Γ nt φ S env n a w R hn hb' vs hvs
  refine (h φ S w (fun _ => False) ⟨fun b x hx => by simp [sget] at hx, fun b b' x y hx => by simp [sget] at hx, R.sim.st⟩ (fun b x hx => by simp [sget] at hx) (fun b x hx => by simp [sget] at hx) hb vs hvs).mono ?_
  rintro e w' ⟨v, r', φ', S', σ', N', rfl, rfl, h1, h2, h3, h4, h5, h6, h7⟩
  refine ⟨v, r', φ, S', σ, rfl, hK, ?_, V.bnd_mono (fun b h => by simp [lt] at h) hr, (R.extend h5 h3.st).more fun _ h => insR_of h⟩
  exact RV.mono (Mono.refl _ _) (n := lt 0) (fun b h => by simp [lt] at h) hr h1

theorem RC.sh {φ' : Phi} {k : Nat} {n : Nat → Bool} (hφ : ∀ b, n b = true → φ' (k + b) = φ b) {c : C} {v : Value} (hb : c.bnd n = true) (h : RC φ w S c v) : RC φ' w S (c.sh k) v := by
  cases c with
  | ptr b o => simp only [C.bnd] at hb; simp only [C.sh, RC, hφ b hb]; exact h
  | eptr b sz i o => simp only [C.bnd] at hb; simp only [C.sh, RC, hφ b hb]; exact h
  | arr b sz off len => simp only [C.bnd] at hb; simp only [C.sh, RC, hφ b hb]; exact h
  | fn f caps =>
    simp only [C.bnd, List.all_eq_true] at hb
    simp only [C.sh, RC] at h ⊢
    rw [h]
    congr 2
    rw [List.map_map]
    apply List.map_congr_left
    intro b hbm
    simp only [Function.comp, hφ b (hb b hbm)]
  | _ => exact h

theorem sh_go_get {k : Nat} : ∀ {vs : List V} {i : Nat}, (V.sh.go k vs)[i]? = (vs[i]?).map (V.sh k)
  | [], i => by simp [V.sh.go]
  | v :: vs, 0 => by simp [V.sh.go]
  | v :: vs, i + 1 => by simp [V.sh.go, sh_go_get]

theorem sh_go_length {k : Nat} : ∀ {vs : List V}, (V.sh.go k vs).length = vs.length
  | [] => rfl
  | v :: vs => by simp [V.sh.go, sh_go_length]

theorem RV.sh {φ' : Phi} {k : Nat} {n : Nat → Bool} (hφ : ∀ b, n b = true → φ' (k + b) = φ b) {v : V} {x : Value} (hb : v.bnd n = true) (h : RV φ w S v x) : RV φ' w S (v.sh k) x := by
  induction h with
  | c h => exact .c (RC.sh hφ (by simpa [V.bnd] using hb) h)
  | @agg cs vs h =>
    simp only [V.bnd, List.all_eq_true] at hb
    refine .agg ?_
    have := h.imp (R' := fun c v => RC φ' w S (C.sh k c) v) fun c v hc hr => RC.sh hφ (hb c hc) hr
    exact this.map_left fun _ _ h => h
  | tup vs xs hl h ih =>
    refine .tup _ xs (by rw [sh_go_length]; exact hl) ?_
    intro i v x hv hx
    rw [sh_go_get, Option.map_eq_some_iff] at hv
    obtain ⟨v0, hv0, rfl⟩ := hv
    exact ih i v0 x hv0 hx (bnds_get (by simpa [V.bnd] using hb) hv0)

theorem C.sh_bnd {m : Nat} (hm : m ≤ 16) {c : C} (h : c.bnd (lt m) = true) : (c.sh key).bnd (insR n key) = true := by
  cases c <;> simp only [C.sh, C.bnd, lt, insR, decide_eq_true_eq, Bool.or_eq_true, Bool.and_eq_true, List.all_eq_true, List.mem_map] at h ⊢
  · right; omega
  · right; omega
  · right; omega
  · rintro b ⟨b0, h1, rfl⟩; right; have := h b0 h1; omega

theorem V.sh_bnd {m : Nat} (hm : m ≤ 16) : ∀ {v : V}, v.bnd (lt m) = true → (v.sh key).bnd (insR n key) = true
  | .c x, h => by simp only [V.sh, V.bnd] at h ⊢; exact C.sh_bnd hm h
  | .agg cs, h => by simp only [V.sh, V.bnd, List.all_map, List.all_eq_true] at h ⊢; intro c hc; exact C.sh_bnd hm (h c hc)
  | .tup vs, h => by simp only [V.sh, V.bnd] at h ⊢; exact go vs h
where go : ∀ vs, V.bnd.V.bnds (lt m) vs = true → V.bnd.V.bnds (insR n key) (V.sh.go key vs) = true
  | [], _ => rfl
  | v :: vs, h => by simp only [V.sh.go, V.bnd.V.bnds, Bool.and_eq_true] at h ⊢; exact ⟨V.sh_bnd hm h.1, go vs h.2⟩

/-- a function of immutable data, which may hand over blocks -/
theorem ACall.of_own {f : Nat} {args : List V} {Q : V → Store → Nat → Prop} (h : Con P f args [] 0 Q) (hb : V.bnd.V.bnds (lt 0) args = true) {K : V → Store → Prop}
    (hK : ∀ r σ' N', Q r σ' N' → N' ≤ 16 ∧ K (r.sh key) (adopt σ key σ')) : ACall P f args σ key K := by
  intro Γ nt φ S env n a w R hn hb' vs hvs
  refine (h φ S w (fun _ => False) ⟨fun b x hx => by simp [sget] at hx, fun b b' x y hx => by simp [sget] at hx, R.sim.st⟩ (fun b x hx => by simp [sget] at hx) (fun b x hx => by simp [sget] at hx) hb vs hvs).mono ?_
  rintro e w' ⟨v, r', φ', S', σ', N', rfl, hQ, h1, h2, h3, h4, h5, h6, h7⟩
  obtain ⟨hN, hK⟩ := hK _ _ _ hQ
  have R1 := R.extend h5 h3.st
  let ψ : Phi := fun b => if key ≤ b ∧ b < key + 16 then φ' (b - key) else φ b
  have hψn : ∀ b, n b = true → ψ b = φ b := by
    intro b hb
    simp only [ψ]
    rw [if_neg]
    rintro ⟨h1, h2⟩
    rw [hn b h1 h2] at hb; cases hb
  have hψk : ∀ b, lt N' b = true → ψ (key + b) = φ' b := by
    intro b hb
    simp only [lt, decide_eq_true_eq] at hb
    simp only [ψ]
    rw [if_pos (by omega)]
    congr 1; omega
  have R2 := R1.phi hψn
  have hget : ∀ b x, sget (adopt σ key σ') b = some x → (∃ c x0, b = key + c ∧ sget σ' c = some x0 ∧ x = x0.sh key) ∨ sget σ b = some x := by
    intro b x hx
    rw [sget_adopt] at hx
    by_cases hkb : key ≤ b
    · rw [if_pos hkb] at hx
      cases hs : sget σ' (b - key) with
      | none => rw [hs] at hx; exact .inr hx
      | some x0 => rw [hs] at hx; cases hx; exact .inl ⟨b - key, x0, by omega, hs, rfl⟩
    · rw [if_neg hkb] at hx; exact .inr hx
  have hnew : ∀ c x0, sget σ' c = some x0 → (ψ (key + c)).2 ≠ 0 → w.heap.size ≤ (ψ (key + c)).1 := by
    intro c x0 hc h0
    rw [hψk c (by simp [lt]; exact (h4 c x0 hc).1)] at h0 ⊢
    rcases h6 c x0 hc h0 with h | h
    · exact h.elim
    · exact h
  have hold : ∀ b x, sget σ b = some x → (ψ b).2 ≠ 0 → (ψ b).1 < w.heap.size := by
    intro b x hx h0
    rw [hψn b (R.sbnd b x hx).1] at h0 ⊢
    exact (R.sim.blk b x hx).real_lt h0
  refine ⟨v, r'.sh key, ψ, S', adopt σ key σ', rfl, hK, RV.sh hψk h2 h1, V.sh_bnd hN h2, ⟨⟨fun b x hx => ?_, fun b b' x y hx hy hne h0 h0' => ?_, h3.st⟩, R2.envs, R2.envn, fun k g v hl hg => V.bnd_mono (fun _ h => insR_of h) (R2.ebnd k g v hl hg), fun b x hx => ?_, R2.size, R2.defers, R2.ext, fun b x hx h0 => ?_, R2.fix, fun b hb => insR_of (R2.kn b hb)⟩⟩
  · rcases hget b x hx with ⟨c, x0, rfl, hc, rfl⟩ | hx
    · have hB := h3.blk c x0 hc
      have hcb := h4 c x0 hc
      have e1 := hψk c (by simp [lt]; exact hcb.1)
      cases x0 with
      | box cs =>
        obtain ⟨k0, vs, E, k1, k2, k3⟩ := hB
        simp only [Blk.sh, RB, e1]
        refine ⟨k0, vs, E, k1, ?_, k3⟩
        have hcs := hcb.2
        simp only [Blk.bnd, List.all_eq_true] at hcs
        have := k2.imp (R' := fun c v => RC ψ w' S' (C.sh key c) v) fun c v hc hr => RC.sh hψk (hcs c hc) hr
        exact this.map_left fun _ _ h => h
      | arr sz es => simp only [Blk.sh, RB, e1]; exact hB
    · exact R2.sim.blk b x hx
  · rcases hget b x hx with ⟨c, x0, rfl, hc, rfl⟩ | hx <;> rcases hget b' y hy with ⟨c', x0', rfl, hc', rfl⟩ | hy
    · have e1 := hψk c (by simp [lt]; exact (h4 c x0 hc).1)
      have e2 := hψk c' (by simp [lt]; exact (h4 c' x0' hc').1)
      rw [e1] at h0 ⊢
      rw [e2] at h0' ⊢
      exact h3.inj c c' x0 x0' hc hc' (by omega) h0 h0'
    · have := hnew c x0 hc h0
      have := hold b' y hy h0'
      omega
    · have := hnew c' x0' hc' h0'
      have := hold b x hx h0
      omega
    · exact R2.sim.inj b b' x y hx hy hne h0 h0'
  · rcases hget b x hx with ⟨c, x0, rfl, hc, rfl⟩ | hx
    · obtain ⟨k1, k2⟩ := h4 c x0 hc
      refine ⟨by simp [insR]; right; omega, ?_⟩
      cases x0 with
      | box cs =>
        simp only [Blk.sh, Blk.bnd, List.all_map, List.all_eq_true] at k2 ⊢
        intro c hc; exact C.sh_bnd hN (k2 c hc)
      | arr sz es => rfl
    · obtain ⟨k1, k2⟩ := R2.sbnd b x hx
      exact ⟨insR_of k1, Blk.bnd_mono (fun _ h => insR_of h) k2⟩
  · rcases hget b x hx with ⟨c, x0, rfl, hc, rfl⟩ | hx
    · exact .inr (Nat.le_trans R.ext.size (hnew c x0 hc h0))
    · exact R2.own b x hx h0

end
end Go.Proofs.Ytkdepbmeaiefeaa.Shv
namespace Go.Proofs.Ytkdepbmeaiefeaa.Shv
theorem Con.mk {P : Program} {f : Nat} {fn : Func} {c : ACode} {ars : List AR} {σ : Store} (hf : P.funcs[f]? = some fn) (hc : fn.body.bind (resolve P fn.ntmps) = some c) (hr : resolveRes P fn.results.toList = some ars)
    {args : List V} {nt : Nat} (hnt : fn.ntmps = nt) (hn : args.length ≤ nt) {k : Nat} {Q : V → Store → Nat → Prop} (h : AW P nt k c (env0 0 args) σ k (Done ars Q)) : Con P f args σ k Q := by
  subst hnt
  obtain ⟨code, h1, h2⟩ := Option.bind_eq_some_iff.1 hc
  exact Con.of_body hf h1 h2 hr hn h
end Go.Proofs.Ytkdepbmeaiefeaa.Shv
