/- The abstract machine, part 7: how the relation goes over a change of the world or of the abstract store. -/
import Derived.Test.YtkdepbmeaiefeaaShvSnd3
namespace Go.Proofs.Ytkdepbmeaiefeaa.Shv
set_option linter.all false
open Go

section
variable {P : Program} {Γ : Ctx} {nt : Nat} {φ : Phi} {S : Stab} {env : Env} {σ : Store} {n : Nat → Bool} {key : Nat} {a : Act} {w : World}

theorem cell?_of_heap {w w' : World} {b : Nat} (h : w'.heap[b]? = w.heap[b]?) (j : Nat) : w'.cell? ⟨b, j, none⟩ = w.cell? ⟨b, j, none⟩ := by
  simp [World.cell?, h]

theorem lt_of_heap {w : World} {b : Nat} {o : Obj} (h : w.heap[b]? = some o) : b < w.heap.size := (Array.getElem?_eq_some_iff.1 h).1

theorem RB.real_lt {b : Nat} {x : Blk} (h : RB φ w S b x) (h0 : (φ b).2 ≠ 0) : (φ b).1 < w.heap.size := by
  cases x with
  | box cs => obtain ⟨_, _, _, hh, _⟩ := h; exact lt_of_heap hh
  | arr sz es => obtain ⟨_, _, _, _, h5⟩ := h; obtain ⟨_, _, hh, _⟩ := h5 h0; exact lt_of_heap hh

theorem RB.notS {b : Nat} {x : Blk} (h : RB φ w S b x) (h0 : (φ b).2 ≠ 0) : ∀ j, ¬ S (φ b).1 j := by
  cases x with
  | box cs => obtain ⟨_, _, _, _, _, hs⟩ := h; exact hs
  | arr sz es => obtain ⟨_, _, _, _, h5⟩ := h; obtain ⟨_, _, _, _, _, hs⟩ := h5 h0; exact hs

theorem RB.mono {φ' : Phi} {w' : World} {b : Nat} {x : Blk} (m : Mono w S w' S) (hφ : ∀ b, n b = true → φ' b = φ b) (hb : n b = true) (hx : x.bnd n = true) (hh : (φ b).2 ≠ 0 → w'.heap[(φ b).1]? = w.heap[(φ b).1]?)
    (h : RB φ w S b x) : RB φ' w' S b x := by
  cases x with
  | box cs =>
    obtain ⟨h0, vs, E, h1, h2, h3⟩ := h
    simp only [RB, hφ b hb]
    refine ⟨h0, vs, E, (hh h0).trans h1, h2.imp fun c v hc hr => RC.mono m hφ (by simp [Blk.bnd] at hx; exact hx c hc) hr, h3⟩
  | arr sz es =>
    obtain ⟨h1, h2, h3, h4, h5⟩ := h
    simp only [RB, hφ b hb]
    refine ⟨h1, h2, h3, h4, fun h0 => ?_⟩
    obtain ⟨vs, E, k1, k2, k3, k4⟩ := h5 h0
    exact ⟨vs, E, (hh h0).trans k1, k2, fun i j e t he ht => let ⟨v, hv, hr⟩ := k3 i j e t he ht; ⟨v, hv, RT.mono m hr⟩, k4⟩

/-- the world changes outside of all that is known -/
theorem Rel.world (R : Rel Γ nt φ S env σ n a w) {w' : World} (W : Nat → Prop) (hos : w'.os = w.os) (ht : w'.tape = w.tape) (ho : w'.output = w.output) (hs : w.heap.size ≤ w'.heap.size)
    (hb : ∀ b : Nat, b < w.heap.size → ¬ W b → w'.heap[b]? = w.heap[b]?)
    (hW : ∀ b, W b → (∀ j, ¬ S b j) ∧ (∀ k y, sget σ k = some y → (φ k).2 ≠ 0 → (φ k).1 ≠ b) ∧ (Γ.B b ∨ Γ.w0.heap.size ≤ b)) : Rel Γ nt φ S env σ n a w' := by
  have m : Mono w S w' S := ⟨fun _ _ h => h, fun b j h => cell?_of_heap (hb b (R.sim.st b j h) (fun hw => (hW b hw).1 j h)) j⟩
  refine ⟨⟨fun b x hx => ?_, R.sim.inj, fun b j h => Nat.lt_of_lt_of_le (R.sim.st b j h) hs⟩, fun k g v hl hg => ?_, R.envn, R.ebnd, R.sbnd, R.size, R.defers, ?_, R.own, R.fix, R.kn⟩
  · have hR := R.sim.blk b x hx
    exact RB.mono m (fun _ _ => rfl) (R.sbnd b x hx).1 (R.sbnd b x hx).2 (fun h0 => hb _ (hR.real_lt h0) (fun hw => (hW _ hw).2.1 b x hx h0 rfl)) hR
  · obtain ⟨x, hx, hr⟩ := R.envs k g v hl hg
    exact ⟨x, hx, RV.mono m (fun _ _ => rfl) (R.ebnd k g v hl hg) hr⟩
  · refine ⟨hos.trans R.ext.os, ht.trans R.ext.tape, ho.trans R.ext.output, Nat.le_trans R.ext.size hs, fun b hlt hB => ?_, R.ext.mono.trans m, R.ext.snew⟩
    rw [hb b (Nat.lt_of_lt_of_le hlt R.ext.size) (fun hw => ?_)]
    · exact R.ext.block b hlt hB
    · rcases (hW b hw).2.2 with h | h
      · exact hB h
      · omega

theorem Rel.congr (R : Rel Γ nt φ S env σ n a w) {σ' : Store} (h : ∀ b, sget σ' b = sget σ b) : Rel Γ nt φ S env σ' n a w :=
  ⟨⟨fun b x hx => R.sim.blk b x (h b ▸ hx), fun b b' x y hx hy => R.sim.inj b b' x y (h b ▸ hx) (h b' ▸ hy), R.sim.st⟩, R.envs, R.envn, R.ebnd, fun b x hx => R.sbnd b x (h b ▸ hx), R.size, R.defers, R.ext, fun b x hx => R.own b x (h b ▸ hx), R.fix, R.kn⟩

theorem Rel.sub (R : Rel Γ nt φ S env σ n a w) {σ' : Store} (h : ∀ b x, sget σ' b = some x → sget σ b = some x) : Rel Γ nt φ S env σ' n a w :=
  ⟨⟨fun b x hx => R.sim.blk b x (h b x hx), fun b b' x y hx hy => R.sim.inj b b' x y (h b x hx) (h b' y hy), R.sim.st⟩, R.envs, R.envn, R.ebnd, fun b x hx => R.sbnd b x (h b x hx), R.size, R.defers, R.ext, fun b x hx => R.own b x (h b x hx), R.fix, R.kn⟩

theorem Rel.del (R : Rel Γ nt φ S env σ n a w) (b : Nat) : Rel Γ nt φ S env (sdel σ b) n a w :=
  R.sub fun k x hx => by rw [sget_sdel] at hx; split at hx <;> simp_all

theorem Rel.phi (R : Rel Γ nt φ S env σ n a w) {φ' : Phi} (hφ : ∀ b, n b = true → φ' b = φ b) : Rel Γ nt φ' S env σ n a w := by
  refine ⟨⟨fun b x hx => ?_, fun b b' x y hx hy => ?_, R.sim.st⟩, fun k g v hl hg => ?_, R.envn, R.ebnd, R.sbnd, R.size, R.defers, R.ext, fun b x hx h0 => ?_, fun b hb => (hφ b (R.kn b hb)).trans (R.fix b hb), R.kn⟩
  · exact RB.mono (Mono.refl w S) hφ (R.sbnd b x hx).1 (R.sbnd b x hx).2 (fun _ => rfl) (R.sim.blk b x hx)
  · rw [hφ b (R.sbnd b x hx).1, hφ b' (R.sbnd b' y hy).1]; exact R.sim.inj b b' x y hx hy
  · obtain ⟨x, hx, hr⟩ := R.envs k g v hl hg
    exact ⟨x, hx, RV.mono (Mono.refl w S) hφ (R.ebnd k g v hl hg) hr⟩
  · rw [hφ b (R.sbnd b x hx).1] at h0 ⊢; exact R.own b x hx h0

theorem Rel.put (R : Rel Γ nt φ S env σ n a w) {b : Nat} {x : Blk} (hb : n b = true) (hx : x.bnd n = true) (hR : RB φ w S b x)
    (hf : (φ b).2 ≠ 0 → (∀ k y, sget σ k = some y → k ≠ b → (φ k).2 ≠ 0 → (φ k).1 ≠ (φ b).1) ∧ (Γ.B (φ b).1 ∨ Γ.w0.heap.size ≤ (φ b).1)) : Rel Γ nt φ S env (sput σ b x) n a w := by
  refine ⟨⟨fun k y hy => ?_, fun k k' y y' hy hy' hne h0 h0' => ?_, R.sim.st⟩, R.envs, R.envn, R.ebnd, fun k y hy => ?_, R.size, R.defers, R.ext, fun k y hy h0 => ?_, R.fix, R.kn⟩
  · rw [sget_sput] at hy
    split at hy
    · rename_i e; cases hy; subst e; exact hR
    · exact R.sim.blk k y hy
  · rw [sget_sput] at hy hy'
    split at hy
    · rename_i e; subst e
      rw [if_neg hne] at hy'
      exact fun e => (hf h0).1 k' y' hy' (Ne.symm hne) h0' e.symm
    · split at hy'
      · rename_i e; subst e
        exact (hf h0').1 k y hy hne h0
      · exact R.sim.inj k k' y y' hy hy' hne h0 h0'
  · rw [sget_sput] at hy
    split at hy
    · rename_i e; cases hy; subst e; exact ⟨hb, hx⟩
    · exact R.sbnd k y hy
  · rw [sget_sput] at hy
    split at hy
    · rename_i e; subst e; exact (hf h0).2
    · exact R.own k y hy h0

def upd (φ : Phi) (n : Nat) (q : Nat × Nat) : Phi := fun b => if b = n then q else φ b

theorem upd_lt {b : Nat} {q : Nat × Nat} (hk : n key = false) (h : n b = true) : upd φ key q b = φ b := by
  simp only [upd]; rw [if_neg]; intro e; subst e; rw [hk] at h; cases h
theorem upd_eq {k : Nat} {q : Nat × Nat} : upd φ k q k = q := by simp [upd]

/-- a new key -/
theorem Rel.newkey (R : Rel Γ nt φ S env σ n a w) (hk : n key = false) {x : Blk} (q : Nat × Nat) (hx : x.bnd n = true) (hR : RB (upd φ key q) w S key x)
    (hf : q.2 ≠ 0 → (∀ k y, sget σ k = some y → (φ k).2 ≠ 0 → (φ k).1 ≠ q.1) ∧ (Γ.B q.1 ∨ Γ.w0.heap.size ≤ q.1)) : Rel Γ nt (upd φ key q) S env (sput σ key x) (ins n key) a w := by
  refine ((R.phi (fun b h => upd_lt hk h)).more (fun _ h => ins_of h)).put ins_self (Blk.bnd_mono (fun _ h => ins_of h) hx) hR ?_
  rw [upd_eq]
  intro h0
  refine ⟨fun k y hy hne h => ?_, (hf h0).2⟩
  rw [upd_lt hk (R.sbnd k y hy).1] at h ⊢
  exact (hf h0).1 k y hy h

theorem heap_alloc_lt {w : World} {o : Obj} {b : Nat} (h : b < w.heap.size) : (w.alloc o).heap[b]? = w.heap[b]? := by
  show (w.heap.push o)[b]? = _
  rw [Array.getElem?_push, if_neg (by omega)]
theorem heap_alloc_new {w : World} {o : Obj} : (w.alloc o).heap[w.heap.size]? = some o := by
  show (w.heap.push o)[w.heap.size]? = _
  rw [Array.getElem?_push, if_pos rfl]

theorem Rel.alloc (R : Rel Γ nt φ S env σ n a w) (o : Obj) : Rel Γ nt φ S env σ n a (w.alloc o) :=
  R.world (fun _ => False) rfl rfl rfl (by simp) (fun b hb _ => heap_alloc_lt hb) (fun _ h => h.elim)

theorem Rel.mono_alloc (R : Rel Γ nt φ S env σ n a w) (o : Obj) : Mono w S (w.alloc o) S :=
  ⟨fun _ _ h => h, fun b j h => cell?_of_heap (heap_alloc_lt (R.sim.st b j h)) j⟩

/-- a new box -/
theorem Rel.newbox (R : Rel Γ nt φ S env σ n a w) (hk : n key = false) {cs : List C} {vs : List Value} (hall : All2 (RC φ w S) cs vs) (hb : cs.all (C.bnd n) = true) (E : TypeId) :
    Rel Γ nt (upd φ key (w.heap.size, 1)) S env (sput σ key (.box cs)) (ins n key) a (w.alloc (.cells vs.toArray E)) := by
  have m := R.mono_alloc (.cells vs.toArray E)
  refine (R.alloc _).newkey hk (w.heap.size, 1) hb ?_ ?_
  · simp only [RB, upd_eq]
    refine ⟨by simp, vs, E, heap_alloc_new, hall.imp fun c v hc hr => RC.mono m (fun b h => upd_lt hk h) (by simp only [List.all_eq_true] at hb; exact hb c hc) hr, fun j h => ?_⟩
    have := R.sim.st _ _ h
    simp at this
  · intro _
    refine ⟨fun k y hy h0 => ?_, .inr R.ext.size⟩
    have := (R.sim.blk k y hy).real_lt h0
    simp; omega

theorem zeroC_sound {ty : TypeId} {cs : List C} (h : zeroC P ty = some cs) : ∃ i z, P.info? ty = some i ∧ i.zero = some z ∧ All2 (RC φ w S) cs z.cells.toList ∧ cs.all (C.bnd n) = true := by
  simp only [zeroC, Option.bind_eq_some_iff] at h
  obtain ⟨i, hi, z, hz, hv⟩ := h
  have := ofVals_sound (φ := φ) (w := w) (S := S) (n := n) hv
  exact ⟨i, z, hi, hz, this.1, this.2⟩

theorem sound_alloc (R : Rel Γ nt φ S env σ n a w) {o : Oper} {ty : TypeId} (ho : o.op = .alloc ty) {cs : List C} (hz : zeroC P ty = some cs)
    {p v σ'} (hk : n key = false) (h : aval (.alloc cs) env σ key = some (p, v, σ')) (hp : p) : Good P Γ nt env σ' (ins n key) a v ((execOp a.eval o).run P w) := by
  simp only [aval, Option.some.injEq, Prod.mk.injEq] at h
  obtain ⟨rfl, rfl, rfl⟩ := h
  obtain ⟨i, z, hi, hz, hall, hb⟩ := zeroC_sound (φ := φ) (w := w) (S := S) (n := n) hz
  have R' := R.newbox hk hall hb ty
  refine ⟨.pointer (some ⟨w.heap.size, 0, none⟩), _, S, _, .inl ?_, .c ?_, by simp [V.bnd, C.bnd, ins], R'⟩
  · simp [execOp, ho, Instr.alloc, zeroValue, typeInfo, hi, hz, newVar, newRow]
  · simp [RC, upd_eq]

theorem sound_box (R : Rel Γ nt φ S env σ n a w) {o : Oper} {ty : TypeId} {x : Operand} (ho : o.op = .box ty x) {ax : AO} (hx : opd x = some ax)
    {p v σ'} (hk : n key = false) (h : aval (.box ax) env σ key = some (p, v, σ')) (hp : p) : Good P Γ nt env σ' (ins n key) a v ((execOp a.eval o).run P w) := by
  simp only [aval, Option.bind_eq_some_iff, Option.map_eq_some_iff, Prod.mk.injEq] at h
  obtain ⟨⟨px, vx⟩, hgx, cs, hcs, rfl, rfl, rfl⟩ := h
  have hg := get_sound R hx hgx hp
  obtain ⟨hall, hb⟩ := vcells_sound hg.1 hcs hg.2
  have R' := R.newbox hk hall hb ty
  refine ⟨.pointer (some ⟨w.heap.size, 0, none⟩), _, S, _, .inl ?_, .c ?_, by simp [V.bnd, C.bnd, ins], R'⟩
  · simp [execOp, ho, Instr.box, newVar, newRow]
  · simp [RC, upd_eq]

end
end Go.Proofs.Ytkdepbmeaiefeaa.Shv
