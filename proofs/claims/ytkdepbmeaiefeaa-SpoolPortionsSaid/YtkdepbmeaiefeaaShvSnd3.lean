/- The abstract machine, part 6: loads, aggregates, and what makes or writes memory. -/
import Derived.Test.YtkdepbmeaiefeaaShvSnd2
namespace Go.Proofs.Ytkdepbmeaiefeaa.Shv
set_option linter.all false
open Go

section
variable {P : Program} {Γ : Ctx} {nt : Nat} {φ : Phi} {S : Stab} {env : Env} {σ : Store} {n : Nat → Bool} {key : Nat} {a : Act} {w : World}

theorem cell_of_heap {b : Nat} {vs : List Value} {E : TypeId} {fr : Nat × Nat} (h : w.heap[b]? = some (.cells vs.toArray E fr)) (j : Nat) : w.cell? ⟨b, j, none⟩ = vs[j]? := by
  simp [World.cell?, h]

theorem load_gen {ty : TypeId} {g : Bool × Nat} (hg : loadOf P ty = some g) {blk off0 o : Nat} {cs : List C} {vs : List Value} {v : V}
    (hall : All2 (RC φ w S) cs vs) (hb : cs.all (C.bnd n) = true) (hc : ∀ j, j < vs.length → w.cell? ⟨blk, off0 + j, none⟩ = vs[j]?) (hl : loadC g.1 g.2 cs o = some v) :
    ∃ x, (loadVar ty ⟨blk, off0 + o, none⟩).run P w = .ok x w ∧ RV φ w S v x ∧ v.bnd n = true := by
  obtain ⟨h1, h2, h3⟩ := loadOf_inv hg
  obtain ⟨hle, hrv, hbv⟩ := loadC_sound hall hb hl h3
  rw [hall.length] at hle
  refine ⟨_, run_loadVar h1 h2 (vs := (vs.drop o).take g.2) ?_ (by simp; omega) h3, hrv, hbv⟩
  intro j hj
  rw [List.getElem?_take, if_pos hj, List.getElem?_drop, ← hc (o + j) (by omega), Nat.add_assoc]

theorem All2.rc_of_rt {ts : List T} {xs : List Value} (h : All2 (RT w S) ts xs) : All2 (RC φ w S) (ts.map .t) xs := All2.map_t h

/-- an element of an owned array -/
theorem arr_elem {b sz i : Nat} {es : List (List T)} (h : RB φ w S b (.arr sz es)) (hi : i < es.length) :
    (φ b).2 ≠ 0 ∧ ∃ (vs : List Value) (E : TypeId) (xs : List Value), w.heap[(φ b).1]? = some (.cells vs.toArray E (0, 0)) ∧ vs.length = (φ b).2 * sz ∧ (el es i).length = sz ∧ xs.length = sz ∧ All2 (RT w S) (el es i) xs ∧
      (∀ j, j < sz → vs[i * sz + j]? = xs[j]?) ∧ (i + 1) * sz ≤ vs.length := by
  obtain ⟨h1, h2, h3, h4, h5⟩ := h
  have h0 : (φ b).2 ≠ 0 := by omega
  obtain ⟨vs, E, hh, hl, hv, hs⟩ := h5 h0
  have hel : es[i]? = some (el es i) := by unfold el; rw [List.getD, List.getElem?_eq_getElem hi]; rfl
  have hlen : (el es i).length = sz := h3 _ (List.mem_of_getElem? hel)
  have hle : (i + 1) * sz ≤ vs.length := by rw [hl]; exact Nat.mul_le_mul_right _ (by omega)
  have hle2 : i * sz + sz ≤ vs.length := by rw [Nat.add_mul] at hle; omega
  refine ⟨h0, vs, E, (vs.drop (i * sz)).take sz, hh, hl, hlen, by simp; omega, ?_, ?_, hle⟩
  · refine All2.of_get (by simp; omega) ?_
    intro j t x ht hx
    obtain ⟨y, hy, hr⟩ := hv _ _ _ _ hel ht
    rw [List.getElem?_take] at hx
    split at hx
    · rw [List.getElem?_drop, hy] at hx; cases hx; exact hr
    · cases hx
  · intro j hj
    rw [List.getElem?_take, if_pos hj, List.getElem?_drop]

theorem sound_load (R : Rel Γ nt φ S env σ n a w) {o : Oper} {ty : TypeId} {x : Operand} (ho : o.op = .load ty x) {g : Bool × Nat} (hg : loadOf P ty = some g) {ax : AO} (hx : opd x = some ax)
    {p v σ'} (hk : n key = false) (h : aval (.load g.1 g.2 ax) env σ key = some (p, v, σ')) (hp : p) : Good P Γ nt env σ' (ins n key) a v ((execOp a.eval o).run P w) := by
  simp only [aval, Option.bind_eq_some_iff] at h
  obtain ⟨⟨px, vx⟩, hgx, he⟩ := h
  simp only at he
  have hrun : ∀ (blk off : Nat) (y : Value), a.eval x = .pointer (some ⟨blk, off, none⟩) → (loadVar ty ⟨blk, off, none⟩).run P w = .ok y w → (execOp a.eval o).run P w = .ok (.value y) w := by
    intro blk off y h1 h2
    simp [execOp, ho, Instr.loadAt, Instr.sureAddr, h1, h2]
  split at he
  · rename_i b o'
    split at he
    · rename_i cs hσ
      simp only [Option.map_eq_some_iff, Prod.mk.injEq] at he
      obtain ⟨v0, hv0, rfl, rfl, rfl⟩ := he
      have h1 := (get_sound R hx hgx hp).1.ptr_inv
      obtain ⟨_, vs, E, hh, hall, _⟩ := R.sim.blk _ _ hσ
      have hb := (R.sbnd _ _ hσ).2
      obtain ⟨y, hy, hrv, hbv⟩ := load_gen (n := n) hg hall hb (fun j _ => by rw [cell_of_heap hh, Nat.zero_add]) hv0
      rw [Nat.zero_add] at hy
      exact Good.pure R (hrun _ _ _ h1 hy) hrv hbv
    · cases he
  · rename_i b sz i o'
    split at he
    · rename_i sz' es hσ
      simp only [Option.map_eq_some_iff, Prod.mk.injEq] at he
      obtain ⟨v0, hv0, rfl, rfl, rfl⟩ := he
      obtain ⟨hp1, rfl, hi⟩ := hp
      have h1 := (get_sound R hx hgx hp1).1.eptr_inv
      obtain ⟨_, vs, E, xs, hh, hl, hlen, hxl, hall, hget, _⟩ := arr_elem (R.sim.blk _ _ hσ) hi
      obtain ⟨y, hy, hrv, hbv⟩ := load_gen (n := n) hg (All2.rc_of_rt hall) (all_map_t n _) (off0 := i * sz) (fun j hj => by rw [cell_of_heap hh, hget j (by omega)]) (loadT_eq hv0)
      exact Good.pure R (hrun _ _ _ h1 hy) hrv hbv
    · cases he
  · rename_i ts o'
    simp only [Option.map_eq_some_iff, Prod.mk.injEq] at he
    obtain ⟨v0, hv0, rfl, rfl, rfl⟩ := he
    obtain ⟨blk, off, f, h1, hh⟩ := (get_sound R hx hgx hp).1.c_inv
    have hall : All2 (RT w S) ts ((List.range ts.length).map f) := by
      refine All2.of_get (by simp) ?_
      intro j t y ht hy
      have hj := (List.getElem?_eq_some_iff.1 ht).1
      simp [hj] at hy
      subst hy
      exact (hh j t ht).2.2
    obtain ⟨y, hy, hrv, hbv⟩ := load_gen (n := n) hg (All2.rc_of_rt hall) (all_map_t n _) (blk := blk) (off0 := off) (fun j hj => by
      simp at hj
      rw [(hh j _ (List.getElem?_eq_getElem hj)).2.1]; simp [hj]) (loadT_eq hv0)
    exact Good.pure R (hrun _ _ _ h1 hy) hrv hbv
  · cases he

theorem eqT_sound {k : Nat} {s t : T} {b : Bool} (h : eqT k s t = some b) {ty : TypeId} (hty : kindT P ty = some k) {x y : Value} (hx : RT w S s x) (hy : RT w S t y) (d : Nat) :
    (Op.equalIn (d + 1) ty x y).run P w = .ok b w := by
  have eqd : ∀ a b : List UInt8, (a == b) = decide (a = b) := fun a b => by by_cases h : a = b <;> simp [h]
  unfold kindT at hty
  unfold eqT at h
  split at h
  · cases h; cases hx; cases hy
    split at hty <;> simp at hty
    rename_i hu
    unfold Op.equalIn
    simp only [Sem.run_bind, run_underlying hu, Result.andThen_ok]; rfl
  · simp only [Option.ite_none_right_eq_some, Option.some.injEq] at h
    obtain ⟨rfl, rfl⟩ := h
    cases hx; cases hy
    split at hty <;> simp at hty
    rename_i hu
    unfold Op.equalIn
    simp only [Sem.run_bind, run_underlying hu, Result.andThen_ok, if_true]; rfl
  · cases h; cases hx with | str s1 h1 => cases hy with | str s2 h2 =>
    split at hty <;> simp at hty
    rename_i hu
    unfold Op.equalIn
    simp only [Sem.run_bind, run_underlying hu, Result.andThen_ok]
    rw [beq_toListBytes, ByteArray.toList_eq, ByteArray.toList_eq, eqd]; rfl
  · cases h

theorem kindT_agg {ty : TypeId} {k : Nat} (h : kindT P ty = some k) : isAggT P ty = some false := by
  unfold kindT at h; unfold isAggT
  split at h <;> simp_all

theorem eqFields_sound {d : Nat} {xs ys : Array Value} : ∀ {fs : List Field} {i : Nat} {ks : List Nat} {ps qs : List C} {us vs : List Value} {r : Bool}, flatFields P i fs = some ks → eqCs ks ps qs = some r →
    All2 (RC φ w S) ps us → All2 (RC φ w S) qs vs → xs.toList.drop i = us → ys.toList.drop i = vs → (Op.eqFields (d + 1) xs ys fs).run P w = .ok r w
  | [], i, ks, ps, qs, us, vs, r, hf, he, h1, h2, e1, e2 => by
    simp [flatFields] at hf; subst hf
    cases ps <;> cases qs <;> simp [eqCs] at he
    subst he
    rfl
  | f :: fs, i, ks, ps, qs, us, vs, r, hf, he, h1, h2, e1, e2 => by
    simp only [flatFields, Option.ite_none_right_eq_some, Option.bind_eq_some_iff, Option.map_eq_some_iff] at hf
    obtain ⟨⟨hoff, hname⟩, k, hk, ks', hks, rfl⟩ := hf
    unfold eqCs at he
    split at he
    · simp_all
    · rename_i k' ks'' x ps' y qs' heq
      cases heq
      simp only [Option.bind_eq_some_iff, Option.map_eq_some_iff] at he
      obtain ⟨b, hb, r', hr', rfl⟩ := he
      cases h1 with | cons h1 h1' =>
      cases h2 with | cons h2 h2' =>
      rename_i u us' v vs'
      have ex : xs[i]? = some u := by
        have := congrArg (·[0]?) e1; simp at this; exact this
      have ey : ys[i]? = some v := by
        have := congrArg (·[0]?) e2; simp at this; exact this
      have ih := eqFields_sound (d := d) (xs := xs) (ys := ys) hks hr' h1' h2' (by rw [← List.drop_drop, e1]; rfl) (by rw [← List.drop_drop, e2]; rfl)
      have pa : ∀ (zs : Array Value) (z : Value), zs[i]? = some z → (part f.type zs f.offset).run P w = .ok z w := by
        intro zs z hz
        simp [part, isAggT_agg (kindT_agg hk), hoff, hz]
      simp only [Op.eqFields, if_pos hname, Sem.run_bind, pa _ _ ex, pa _ _ ey, Result.andThen_ok, eqT_sound hb hk h1 h2 d, Sem.run_ite]
      cases b
      · simp
      · simp [ih]
    · cases he

theorem sound_eqAgg (R : Rel Γ nt φ S env σ n a w) {o : Oper} {op : BinOp} {ty yt : TypeId} {x y : Operand} (ho : o.op = .binOp op ty x y yt) (hop : op = .eql ∨ op = .neq) {ks : List Nat} (hty : structFlat P ty = some ks)
    {ax ay : AO} (hx : opd x = some ax) (hy : opd y = some ay)
    {p v σ'} (hk : n key = false) (h : aval (.eqAgg (op == .neq) ks ax ay) env σ key = some (p, v, σ')) (hp : p) : Good P Γ nt env σ' (ins n key) a v ((execOp a.eval o).run P w) := by
  simp only [aval, Option.bind_eq_some_iff] at h
  obtain ⟨⟨px, vx⟩, hgx, ⟨py, vy⟩, hgy, he⟩ := h
  simp only at he
  split at he
  · rename_i ps qs
    simp only [Option.map_eq_some_iff, Prod.mk.injEq] at he
    obtain ⟨r, hr, rfl, rfl, rfl⟩ := he
    obtain ⟨us, hu, hall1⟩ := (get_sound R hx hgx hp.1).1.agg_inv
    obtain ⟨vs, hv, hall2⟩ := (get_sound R hy hgy hp.2).1.agg_inv
    unfold structFlat at hty
    split at hty
    · rename_i fs hfs
      simp only [Option.ite_none_right_eq_some] at hty
      obtain ⟨⟨hs, hg⟩, hf⟩ := hty
      have eg : (eqGuard op ty x y (a.eval x) (a.eval y)).run P w = .ok () w := by
        rcases hop with rfl | rfl <;> simp [eqGuard, hu, hv, hg]
      have hfo : P.fieldsOf ty = fs := by simp [Program.fieldsOf, hfs]
      have ee : (Op.equal ty (.agg us.toArray) (.agg vs.toArray)).run P w = .ok r w := by
        obtain ⟨d, hd⟩ : ∃ d, Op.maxDepth = d + 2 := ⟨9998, rfl⟩
        unfold Op.equal
        rw [hd, run_equalIn_struct w (d + 1) ty _ _ (by rw [hfo]; exact hfs) hs, hfo]
        exact eqFields_sound hf hr hall1 hall2 (by simp) (by simp)
      have ev : (binOp op ty (a.eval x) (a.eval y)).run P w = .ok (.bool (if (op == .neq) then !r else r)) w := by
        rcases hop with rfl | rfl
        · rw [hu, hv]; simp only [binOp, Sem.run_bind, ee]; rfl
        · rw [hu, hv]; simp only [binOp, Sem.run_bind, ee]; rfl
      refine Good.pure R (x := .bool (if (op == .neq) then !r else r)) ?_ (.boolI _) rfl
      simp [execOp, ho, eg, ev]
    · cases hty
  · cases he

end
end Go.Proofs.Ytkdepbmeaiefeaa.Shv
