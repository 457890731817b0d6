/- The abstract machine, part 10: append. -/
import Derived.Test.YtkdepbmeaiefeaaShvSnd6
namespace Go.Proofs.Ytkdepbmeaiefeaa.Shv
set_option linter.all false
open Go

section
variable {P : Program} {Γ : Ctx} {nt : Nat} {φ : Phi} {S : Stab} {env : Env} {σ : Store} {n : Nat → Bool} {key : Nat} {a : Act} {w : World}

theorem growBy_le (need : Nat) : ∀ (r c : Nat), c ≤ 2 * need + 192 → Builtin.growBy need r c ≤ 2 * need + 192
  | 0, c, h => h
  | r + 1, c, h => by
    unfold Builtin.growBy
    split
    · exact h
    · exact growBy_le need r _ (by omega)

theorem nextslicecap_le {need old : Nat} (h : old < need) : Builtin.nextslicecap need old ≤ 2 * need + 192 := by
  unfold Builtin.nextslicecap
  split
  · omega
  · split
    · omega
    · exact growBy_le _ _ _ (by omega)

theorem forall2_all {α : Type} {p : α → Prop} {l m : List α} (h : ∀ x, x ∈ l → p x) (k : ∀ x, x ∈ m → p x) : ∀ x, x ∈ l ++ m → p x := by
  intro x hx; rcases List.mem_append.1 hx with h' | h'; exact h x h'; exact k x h'

/-- the elements of a slice value, as cells -/
def Elems (P : Program) (w : World) (S : Stab) (sz : Nat) (v : Value) (ys : List (List T)) (b : Option Nat) : Prop :=
  (Builtin.lenOf v).run P w = .ok ys.length w ∧ ∃ xs : List Value, (Builtin.firstCells sz ys.length v).run P w = .ok xs.toArray w ∧ xs.length = ys.length * sz ∧ RRow w S sz ys xs ∧ ∀ x, x ∈ xs → x.oneCell' = true

theorem idx_decomp {sz k len : Nat} (h0 : 0 < sz) (hk : k < len * sz) : k / sz < len ∧ k % sz < sz ∧ (k / sz) * sz + k % sz = k :=
  ⟨Nat.div_lt_of_lt_mul (by rw [Nat.mul_comm]; exact hk), Nat.mod_lt _ h0, by rw [Nat.mul_comm]; exact Nat.div_add_mod k sz⟩

theorem RRow.one {sz : Nat} {ys : List (List T)} {xs : List Value} (h0 : 0 < sz) (hsz : ∀ e, e ∈ ys → e.length = sz) (hl : xs.length = ys.length * sz) (h : RRow w S sz ys xs) : ∀ x, x ∈ xs → x.oneCell' = true := by
  intro x hx
  obtain ⟨k, hk, hkx⟩ := List.getElem_of_mem hx
  obtain ⟨h1, h2, h3⟩ := idx_decomp h0 (by rw [← hl]; exact hk)
  have he : ys[k / sz]? = some ys[k / sz] := List.getElem?_eq_getElem h1
  have hel : ys[k / sz].length = sz := hsz _ (List.getElem_mem h1)
  have ht : (ys[k / sz])[k % sz]? = some (ys[k / sz])[k % sz] := List.getElem?_eq_getElem (by omega)
  obtain ⟨v, hv, hr⟩ := h _ _ _ _ he ht
  rw [h3, List.getElem?_eq_getElem hk, hkx] at hv
  cases hv
  exact RT.oneCell hr

theorem run_cells {b o m : Nat} {xs : List Value} (hl : xs.length = m) (h : ∀ j, j < m → w.cell? ⟨b, o + j, none⟩ = xs[j]?) : (loadCells ⟨b, o, none⟩ m).run P w = .ok xs.toArray w := by
  have := run_loadCells_list (P := P) w ⟨b, o, none⟩ xs (fun j v hj => by
    have hj' : j < m := by rw [← hl]; exact (List.getElem?_eq_some_iff.1 hj).1
    rw [← hj, ← h j hj']
    unfold Addr.add; split
    · rename_i h0; subst h0; rfl
    · rfl)
  rw [hl] at this
  exact this

theorem elems_tree {sz : Nat} (h0 : 0 < sz) {ys : List (List T)} {v : Value} (hv : RT w S (.slice ys) v) (hsz : ∀ e, e ∈ ys → e.length = sz) : Elems P w S sz v ys none := by
  obtain ⟨a, cap, sz', b, o, f, rfl, hcap, hmax, hszs, ha, hc, hr⟩ := RT.slice_inv hv
  refine ⟨by simp [Builtin.lenOf], ?_⟩
  by_cases hne : ys = []
  · subst hne
    refine ⟨[], ?_, by simp, by intro i j e t he; simp at he, by simp⟩
    cases a with
    | none => simp [Builtin.firstCells]
    | some a => simp [Builtin.firstCells, loadCells, loadCellsFrom]
  · have hszz : sz' = sz := by
      obtain ⟨e0, he0⟩ := List.exists_mem_of_ne_nil ys hne
      rw [← hszs _ he0, hsz _ he0]
    subst hszz
    rw [ha hne]
    have hx : ((List.range (ys.length * sz')).map fun k => f (k / sz') (k % sz')).length = ys.length * sz' := by simp
    have hrow : RRow w S sz' ys ((List.range (ys.length * sz')).map fun k => f (k / sz') (k % sz')) := by
      intro i j e t he ht
      have hi := (List.getElem?_eq_some_iff.1 he).1
      have hj := (List.getElem?_eq_some_iff.1 ht).1
      rw [hsz _ (List.mem_of_getElem? he)] at hj
      have hlt : i * sz' + j < ys.length * sz' := by
        have := Nat.mul_le_mul_right sz' (show i + 1 ≤ ys.length from hi)
        rw [Nat.add_mul] at this; omega
      refine ⟨f i j, ?_, hr _ _ _ _ he ht⟩
      have e1 : (i * sz' + j) / sz' = i := by rw [Nat.add_comm, Nat.add_mul_div_right _ _ h0, Nat.div_eq_of_lt hj]; omega
      have e2 : (i * sz' + j) % sz' = j := by rw [Nat.add_comm, Nat.add_mul_mod_self_right, Nat.mod_eq_of_lt hj]
      simp [hlt, e1, e2]
    refine ⟨_, ?_, hx, hrow, RRow.one h0 hsz hx hrow⟩
    show (loadCells ⟨b, o, none⟩ (ys.length * sz')).run P w = _
    refine run_cells hx ?_
    intro j hj
    obtain ⟨h1, h2, h3⟩ := idx_decomp h0 hj
    have := (hc _ _ h1 h2).2
    rw [Nat.add_assoc, h3] at this
    rw [this]
    simp [hj]

theorem elems_cap0 {sz : Nat} {v : Value} (hv : RC φ w S .cap0 v) : Elems P w S sz v [] none := by
  obtain ⟨a, rfl⟩ := hv
  refine ⟨by simp [Builtin.lenOf], [], ?_, by simp, by intro i j e t he; simp at he, by simp⟩
  cases a with
  | none => simp [Builtin.firstCells]
  | some a => simp [Builtin.firstCells, loadCells, loadCellsFrom]

theorem elems_arr {sz b : Nat} {ys : List (List T)} {v : Value} (hB : RB φ w S b (.arr sz ys)) (hv : RC φ w S (.arr b sz 0 ys.length) v) : Elems P w S sz v ys (some b) := by
  obtain ⟨a, rfl, ha, hle⟩ := RC.arr_inv hv
  obtain ⟨h1, h2, h3, h4, h5⟩ := hB
  refine ⟨by simp [Builtin.lenOf], ?_⟩
  by_cases h0 : (φ b).2 = 0
  · have : ys = [] := List.eq_nil_of_length_eq_zero (by omega)
    subst this
    refine ⟨[], ?_, by simp, by intro i j e t he; simp at he, by simp⟩
    cases a with
    | none => simp [Builtin.firstCells]
    | some a => simp [Builtin.firstCells, loadCells, loadCellsFrom]
  · obtain ⟨vs, E, hh, hl, hr, _⟩ := h5 h0
    rw [ha h0]
    have hlv : ys.length * sz ≤ vs.length := by rw [hl]; exact Nat.mul_le_mul_right _ (by omega)
    have hx : (vs.take (ys.length * sz)).length = ys.length * sz := by simp; omega
    have hrow : RRow w S sz ys (vs.take (ys.length * sz)) := by
      intro i j e t he ht
      have hi := (List.getElem?_eq_some_iff.1 he).1
      have hj := (List.getElem?_eq_some_iff.1 ht).1
      rw [h3 _ (List.mem_of_getElem? he)] at hj
      have hlt : i * sz + j < ys.length * sz := by
        have := Nat.mul_le_mul_right sz (show i + 1 ≤ ys.length from hi)
        rw [Nat.add_mul] at this; omega
      rw [List.getElem?_take, if_pos hlt]
      exact hr _ _ _ _ he ht
    refine ⟨_, ?_, hx, hrow, RRow.one h4 h3 hx hrow⟩
    rw [Nat.zero_mul]
    show (loadCells ⟨(φ b).1, 0, none⟩ (ys.length * sz)).run P w = _
    refine run_cells hx ?_
    intro j hj
    rw [Nat.zero_add, cell_of_heap hh, List.getElem?_take, if_pos hj]

theorem Elems.world {sz : Nat} {v : Value} {ys : List (List T)} {b : Option Nat} (h : Elems P w S sz v ys b) {m : Nat} : ∃ xs : List Value, xs.length = ys.length * sz ∧ RRow w S sz ys xs ∧ (∀ x, x ∈ xs → x.oneCell' = true) := by
  obtain ⟨_, xs, _, h1, h2, h3⟩ := h; exact ⟨xs, h1, h2, h3⟩

theorem zeroCells_size (z : Array Value) (m : Nat) : (Builtin.zeroCells z m).size = m * z.size := by simp [Builtin.zeroCells]

/-- append where there is no room: a new row -/
theorem run_append_new {st yt e ye : TypeId} {i : TypeInfo} {zv : Value} (hst : P.underlying st = some (.slice e)) (hyt : P.underlying yt = some (.slice ye)) (hi : P.info? e = some i) (hz : i.zero = some zv) (hzs : zv.cells.size = i.size)
    {base : Option Addr} {sl sc ny : Nat} {y : Value} {xs zs : List Value} (hyl : (Builtin.lenOf y).run P w = .ok ny w)
    (hx : (Builtin.firstCells i.size sl (.slice base sl sc)).run P w.drew = .ok xs.toArray w.drew) (hy : (Builtin.firstCells i.size ny y).run P w.drew = .ok zs.toArray w.drew)
    (hroom : sc < sl + ny) (hcap : (2 * (sl + ny) + 192) * i.bytes ≤ capBytes) (hmax : sl + ny ≤ sliceMax) {tt : TypeId} :
    ∃ (nc : Nat) (r : List Value), sl + ny ≤ nc ∧ r.length = (nc - (sl + ny)) * i.size ∧
      (Builtin.append_ #[st, yt] tt #[.slice base sl sc, y]).run P w = .ok (.slice (some ⟨w.heap.size, 0, none⟩) (sl + ny) nc) (w.drew.alloc (.cells (xs ++ zs ++ r).toArray e)) := by
  have hsize : ∀ w, (sizeOf e).run P w = .ok i.size w := fun w => by simp [sizeOf, typeInfo, hi]
  have hinfo : ∀ w, (typeInfo e).run P w = .ok i w := fun w => by simp [typeInfo, hi]
  have hzero : ∀ w, (zeroValue e).run P w = .ok zv w := fun w => by simp [zeroValue, hinfo, hz]
  generalize hnc : (Question.appendCap (sl + ny) sc e).cut (w.tape w.drawn (Question.appendCap (sl + ny) sc e)) = nc
  have hncle : sl + ny ≤ nc := by rw [← hnc]; simp [Question.cut]
  have h1 : ¬ (sl + ny ≤ sc) := by omega
  have h2 : ¬ (((sl + ny : Nat) : Int) > IntKind.i64.max ∧ (False ∨ i.bytes = 0)) := by
    intro h; have := h.1; simp [IntKind.max, IntKind.signed, IntKind.bits] at this; unfold sliceMax at hmax; omega
  have h3 : ¬ (Builtin.nextslicecap (sl + ny) sc * i.bytes > 2 ^ 48) := by
    have := Nat.mul_le_mul_right i.bytes (nextslicecap_le hroom)
    unfold capBytes at hcap; omega
  refine ⟨nc, (Builtin.zeroCells zv.cells (nc - (sl + ny))).toList, hncle, by simp [zeroCells_size, hzs], ?_⟩
  have hch : (choose (.appendCap (sl + ny) sc e)).run P w = .ok nc w.drew := by
    rw [run_choose]; simp only [Question.forced, Bool.false_eq_true, if_false, hnc]; rfl
  have e1 : (xs ++ zs ++ (Builtin.zeroCells zv.cells (nc - (sl + ny))).toList).toArray = xs.toArray ++ zs.toArray ++ Builtin.zeroCells zv.cells (nc - (sl + ny)) := by
    apply Array.ext'; simp
  rw [e1]
  unfold Builtin.append_
  simp only [List.getElem?_toArray, List.getElem?_cons_zero, List.getElem?_cons_succ, Sem.run_bind, run_underlying hst, run_underlying hyt, Result.andThen_ok, hsize, Sem.run_pure, Bool.false_eq_true, if_false, hyl, if_neg h1, hinfo]
  rw [if_neg (by simpa using h2)]
  simp only [Sem.run_bind, Sem.run_pure, Result.andThen_ok, hinfo]
  rw [if_neg h3]
  simp only [Sem.run_bind, Sem.run_pure, Result.andThen_ok, hinfo, hch, run_askRoom, hx, hy, hzero, Bool.not_false, if_true]
  simp only [newRow, Sem.run_bind, run_newObj, Result.andThen_ok, Sem.run_pure]
  rfl

/-- append where there is room -/
theorem run_append_room {st yt e ye : TypeId} {i : TypeInfo} (hst : P.underlying st = some (.slice e)) (hyt : P.underlying yt = some (.slice ye)) (hi : P.info? e = some i)
    {base : Option Addr} {sl sc ny : Nat} {y : Value} {zs : List Value} (hyl : (Builtin.lenOf y).run P w = .ok ny w) (hy : (Builtin.firstCells i.size ny y).run P w = .ok zs.toArray w) (hroom : sl + ny ≤ sc) {w' : World}
    (hs : ∀ ad, base = some ad → (storeCells (ad.add (sl * i.size)) zs 0).run P w = .ok () w') (hb : base = none → w' = w) {tt : TypeId} :
      (Builtin.append_ #[st, yt] tt #[.slice base sl sc, y]).run P w = .ok (.slice base (sl + ny) sc) w' := by
  have hsize : ∀ w, (sizeOf e).run P w = .ok i.size w := fun w => by simp [sizeOf, typeInfo, hi]
  unfold Builtin.append_
  simp only [List.getElem?_toArray, List.getElem?_cons_zero, List.getElem?_cons_succ, Sem.run_bind, run_underlying hst, run_underlying hyt, Result.andThen_ok, hsize, Sem.run_pure, Bool.false_eq_true, if_false, hyl, if_pos hroom, hy, Bool.not_false, if_true]
  cases base with
  | none => rw [hb rfl]; rfl
  | some ad =>
    simp only [Sem.run_bind, hs ad rfl, Result.andThen_ok]
    rfl


theorem RRow.append {sz : Nat} {es ys : List (List T)} {xs zs r : List Value} (h0 : 0 < sz) (hes : ∀ e, e ∈ es → e.length = sz) (hys : ∀ e, e ∈ ys → e.length = sz) (hx : xs.length = es.length * sz) (hz : zs.length = ys.length * sz)
    (h1 : RRow w S sz es xs) (h2 : RRow w S sz ys zs) : RRow w S sz (es ++ ys) (xs ++ zs ++ r) := by
  intro i j e t he ht
  by_cases hi : i < es.length
  · rw [List.getElem?_append_left hi] at he
    have hj := (List.getElem?_eq_some_iff.1 ht).1
    rw [hes _ (List.mem_of_getElem? he)] at hj
    have := Nat.mul_le_mul_right sz (show i + 1 ≤ es.length from hi)
    rw [Nat.add_mul] at this
    rw [List.append_assoc, List.getElem?_append_left (by omega)]
    exact h1 _ _ _ _ he ht
  · rw [List.getElem?_append_right (by omega)] at he
    have hj := (List.getElem?_eq_some_iff.1 ht).1
    rw [hys _ (List.mem_of_getElem? he)] at hj
    have hi2 := (List.getElem?_eq_some_iff.1 he).1
    have h3 := Nat.mul_le_mul_right sz (show es.length ≤ i by omega)
    have h4 := Nat.mul_le_mul_right sz (show (i - es.length) + 1 ≤ ys.length from hi2)
    have h5 : (i - es.length) * sz = i * sz - es.length * sz := Nat.sub_mul _ _ _
    rw [Nat.add_mul] at h4
    rw [List.append_assoc, List.getElem?_append_right (by omega), List.getElem?_append_left (by omega), show i * sz + j - xs.length = (i - es.length) * sz + j by omega]
    exact h2 _ _ _ _ he ht

theorem Rel.drew (R : Rel Γ nt φ S env σ n a w) : Rel Γ nt φ S env σ n a w.drew :=
  R.world (fun _ => False) rfl rfl rfl (Nat.le_refl _) (fun _ _ _ => rfl) (fun _ h => h.elim)

/-- the elements of the second operand -/
theorem ys_sound (R : Rel Γ nt φ S env σ n a w) {y : Operand} {ay : AO} (hy : opd y = some ay) {p : Prop} {v : V} (hg : ay.get env = some (p, v)) (hp : p) {sz : Nat} (h0 : 0 < sz) {ys : List (List T) × Option Nat}
    (h : ysOf σ v = some ys) (hsz : ∀ e, e ∈ ys.1 → e.length = sz) : Elems P w S sz (a.eval y) ys.1 ys.2 := by
  have hgs := (get_sound R hy hg hp).1
  unfold ysOf at h
  split at h
  · cases h; exact elems_tree h0 hgs.c_inv hsz
  · cases h; exact elems_cap0 hgs.c_inv
  · split at h
    · rename_i b sz1 off1 len1 _ sz2 ys' hσ
      simp only [Option.ite_none_right_eq_some, Option.some.injEq] at h
      obtain ⟨⟨h1, rfl, rfl⟩, rfl⟩ := h
      subst h1
      by_cases hne : ys' = []
      · subst hne
        obtain ⟨a', hv, _⟩ := RC.arr_inv hgs.c_inv
        simp at hv
        rw [hv]
        refine ⟨by simp [Builtin.lenOf], [], ?_, by simp, by intro i j e t he; simp at he, by simp⟩
        cases a' with
        | none => simp [Builtin.firstCells]
        | some a => simp [Builtin.firstCells, loadCells, loadCellsFrom]
      · have hszz : sz1 = sz := by
          obtain ⟨e0, he0⟩ := List.exists_mem_of_ne_nil ys' hne
          rw [← (R.sim.blk _ _ hσ).2.2.1 _ he0, hsz _ he0]
        subst hszz
        exact elems_arr (R.sim.blk _ _ hσ) hgs.c_inv
    · cases h
  · cases h

theorem sound_append (R : Rel Γ nt φ S env σ n a w) {o : Oper} {x y : Operand} {st yt e ye : TypeId} (ho : o.op = .call { callee := .builtin .append, args := #[x, y], argTypes := #[st, yt] })
    (hst : P.underlying st = some (.slice e)) (hyt : P.underlying yt = some (.slice ye)) {i : TypeInfo} (hi : P.info? e = some i) (hs0 : i.size ≠ 0) (hz : (i.zero.map (·.cells.size)) = some i.size)
    {ax ay : AO} (hx : opd x = some ax) (hy : opd y = some ay)
    {p v σ'} (hk : n key = false) (h : aval (.append i.size i.bytes ax ay) env σ key = some (p, v, σ')) (hp : p) : Good P Γ nt env σ' (ins n key) a v ((execOp a.eval o).run P w) := by
  simp only [aval, Option.bind_eq_some_iff] at h
  obtain ⟨⟨px, vx⟩, hgx, ⟨py, vy⟩, hgy, ys, hys, he⟩ := h
  simp only at he hys
  simp only [Option.map_eq_some_iff] at hz
  obtain ⟨zv, hzv, hzs⟩ := hz
  have h0 : 0 < i.size := by omega
  have hrun : ∀ r w', (Builtin.append_ #[st, yt] o.type #[a.eval x, a.eval y]).run P w = .ok r w' → (execOp a.eval o).run P w = .ok (.value r) w' := by
    intro r w' hr
    simp [execOp, ho, Go.resolve, invoke, builtin, hr]
  have hnotS : ∀ b, w.heap.size ≤ b → ∀ j, ¬ S b j := fun b hb j hS => by have := R.sim.st _ _ hS; omega
  split at he
  · -- nothing there yet
    simp only [Option.some.injEq, Prod.mk.injEq] at he
    obtain ⟨rfl, rfl, rfl⟩ := he
    obtain ⟨hp1, hp2, hysz, hcap, hmax⟩ := hp
    obtain ⟨base, hxv⟩ := (get_sound R hx hgx hp1).1.c_inv
    have hE := ys_sound (P := P) R hy hgy hp2 h0 hys hysz
    by_cases hne : ys.1 = []
    · obtain ⟨hyl, zs, hzf, hzl, hzr, hzo⟩ := hE
      rw [hne] at hyl hzf hzl
      have hzs0 : zs = [] := List.eq_nil_of_length_eq_zero (by simpa using hzl)
      subst hzs0
      have hr := run_append_room (tt := o.type) hst hyt hi (base := base) (sl := 0) (sc := 0) hyl hzf (by simp) (w' := w) (fun ad _ => by simp [storeCells]) (fun _ => rfl)
      rw [← hxv] at hr
      have R' := R.newkey hk (x := .arr i.size ys.1) (0, 0) rfl (by rw [hne]; simp only [RB, upd_eq]; exact ⟨by simp, by simp, by simp, h0, by simp⟩) (by simp)
      refine ⟨_, _, S, w, .inl (hrun _ _ hr), .c ?_, by simp [V.bnd, C.bnd, ins], R'⟩
      rw [hne]
      exact ⟨base, by simp [upd_eq], by simp [upd_eq], by simp [upd_eq]⟩
    · have R1 := R.drew
      obtain ⟨hyl, _⟩ := hE
      obtain ⟨_, zs, hzf, hzl, hzr, hzo⟩ := ys_sound (P := P) R1 hy hgy hp2 h0 hys hysz
      have hpos : 0 < ys.1.length := List.length_pos_iff.2 hne
      have hxf : (Builtin.firstCells i.size 0 (.slice base 0 0)).run P w.drew = .ok ([] : List Value).toArray w.drew := by
        cases base with
        | none => simp [Builtin.firstCells]
        | some a => simp [Builtin.firstCells, loadCells, loadCellsFrom]
      obtain ⟨nc, r, h1, h2, hr⟩ := run_append_new (tt := o.type) hst hyt hi hzv hzs hyl hxf hzf (by omega) (by simpa using hcap) (by simpa using hmax)
      rw [← hxv] at hr
      have R2 := R1.alloc (.cells ([] ++ zs ++ r).toArray e)
      have m := R1.mono_alloc (.cells ([] ++ zs ++ r).toArray e)
      have R3 := R2.newkey hk (x := .arr i.size ys.1) (w.heap.size, nc) rfl (by
        simp only [RB, upd_eq]
        refine ⟨by omega, hmax, hysz, h0, fun _ => ⟨_, e, heap_alloc_new, ?_, ?_, hnotS _ (Nat.le_refl _)⟩⟩
        · simp only [List.length_append, List.length_nil, hzl, h2, Nat.zero_add, ← Nat.add_mul]; congr 1; omega
        · have := RRow.append (S := S) (w := w.drew) (r := r) (es := []) (xs := []) h0 (by simp) hysz (by simp) hzl (by intro i j e t he; simp at he) hzr
          intro i' j e' t he ht
          obtain ⟨v, hv, hr⟩ := this i' j e' t (by simpa using he) ht
          exact ⟨v, hv, RT.mono m hr⟩) (fun _ => ⟨fun k y hy h0 => by
            have := (R.sim.blk k y hy).real_lt h0
            simp; omega, .inr R.ext.size⟩)
      refine ⟨_, _, S, _, .inl (hrun _ _ hr), .c ?_, by simp [V.bnd, C.bnd, ins], R3⟩
      exact ⟨some ⟨w.heap.size, 0, none⟩, by simp [upd_eq], by simp [upd_eq], by simp [upd_eq]; omega⟩
  · rename_i b sz' off len
    split at he
    · rename_i sz'' es hσ
      split at he
      · cases he
      · rename_i hnb
        simp only [Option.some.injEq, Prod.mk.injEq] at he
        obtain ⟨rfl, rfl, rfl⟩ := he
        obtain ⟨hp1, hp2, rfl, rfl, rfl, rfl, hysz, hcap, hmax⟩ := hp
        have hgs := get_sound R hx hgx hp1
        have hRC := hgs.1.c_inv
        obtain ⟨base, hxv, hba, hle⟩ := RC.arr_inv hRC
        have hE := ys_sound (P := P) R hy hgy hp2 h0 hys hysz
        have hRB := R.sim.blk _ _ hσ
        have hRB' := hRB
        obtain ⟨g1, g2, g3, g4, g5⟩ := hRB'
        rw [Nat.sub_zero] at hxv
        rw [Nat.zero_add] at hle
        have hsz2 : ∀ e', e' ∈ es ++ ys.1 → e'.length = i.size := forall2_all g3 hysz
        by_cases hroom : es.length + ys.1.length ≤ (φ b).2
        · obtain ⟨hyl, zs, hzf, hzl, hzr, hzo⟩ := hE
          by_cases hv0 : (φ b).2 = 0
          · have he0 : es = [] := List.eq_nil_of_length_eq_zero (by omega)
            have hy0 : ys.1 = [] := List.eq_nil_of_length_eq_zero (by omega)
            rw [hy0] at hyl hzf hzl
            have hzs0 : zs = [] := List.eq_nil_of_length_eq_zero (by simpa using hzl)
            subst hzs0
            have hr := run_append_room (tt := o.type) hst hyt hi (base := base) (sl := es.length) (sc := (φ b).2) hyl hzf (by simp [he0]) (w' := w) (fun ad _ => by simp [storeCells]) (fun _ => rfl)
            rw [← hxv] at hr
            have R' := (R.del b).newkey hk (x := .arr i.size (es ++ ys.1)) (0, 0) rfl (by rw [hy0, he0]; simp only [RB, upd_eq]; exact ⟨by simp, by simp, by simp, h0, by simp⟩) (by simp)
            refine ⟨_, _, S, w, .inl (hrun _ _ hr), .c ?_, by simp [V.bnd, C.bnd, ins], R'⟩
            rw [hy0, he0]
            exact ⟨base, by simp [upd_eq, hv0], by simp [upd_eq], by simp [upd_eq]⟩
          · obtain ⟨vs, E, hh, hvl, hvr, hns⟩ := g5 hv0
            have hfit : es.length * i.size + zs.length ≤ vs.length := by
              rw [hzl, hvl, ← Nat.add_mul]; exact Nat.mul_le_mul_right _ hroom
            obtain ⟨w', hr1, k1, k2, k3, k4, k5, k6⟩ := run_storeCells (P := P) zs (es.length * i.size) 0 vs w hh (by omega) hzo
            rw [Nat.add_zero] at k5
            have hbase := hba hv0
            rw [Nat.zero_mul] at hbase
            have hr := run_append_room (tt := o.type) hst hyt hi (base := base) (sl := es.length) (sc := (φ b).2) hyl hzf hroom (w' := w') (fun ad had => by
              rw [hbase] at had; cases had
              have hadd : Addr.add ⟨(φ b).1, 0, none⟩ (es.length * i.size) = ⟨(φ b).1, es.length * i.size, none⟩ := by unfold Addr.add; split <;> simp_all
              rw [hadd]; exact hr1) (fun hb => by rw [hbase] at hb; cases hb)
            rw [← hxv] at hr
            have R1 := (R.del b).world (w' := w') (fun k => k = (φ b).1) k1 k2 k3 (Nat.le_of_eq k4.symm) (fun k _ hk => k6 k hk) (fun k hk => by
              subst hk
              refine ⟨hRB.notS hv0, fun k y hy hk => ?_, R.own b _ hσ hv0⟩
              rw [sget_sdel] at hy
              split at hy
              · cases hy
              · rename_i hne
                exact fun e => R.sim.inj k b y _ hy hσ (Ne.symm hne) hk hv0 e)
            have m : Mono w S w' S := ⟨fun _ _ h => h, fun k j h => cell?_of_heap (k6 k (fun e => hRB.notS hv0 j (e ▸ h))) j⟩
            have R2 := R1.newkey hk (x := .arr i.size (es ++ ys.1)) (φ b) rfl (by
              simp only [RB, upd_eq]
              refine ⟨by simp; omega, by simp; omega, hsz2, h0, fun _ => ⟨_, E, k5, by rw [fillV_length hfit]; exact hvl, ?_, hns⟩⟩
              intro i' j e' t he ht
              rw [fillV_get hfit]
              by_cases hi' : i' < es.length
              · rw [List.getElem?_append_left hi'] at he
                have hj := (List.getElem?_eq_some_iff.1 ht).1
                rw [g3 _ (List.mem_of_getElem? he)] at hj
                have := Nat.mul_le_mul_right i.size (show i' + 1 ≤ es.length from hi')
                rw [Nat.add_mul] at this
                rw [if_pos (by omega)]
                obtain ⟨v, hv, hr⟩ := hvr _ _ _ _ he ht
                exact ⟨v, hv, RT.mono m hr⟩
              · rw [List.getElem?_append_right (by omega)] at he
                have hj := (List.getElem?_eq_some_iff.1 ht).1
                rw [hysz _ (List.mem_of_getElem? he)] at hj
                have hi2 := (List.getElem?_eq_some_iff.1 he).1
                have h3 := Nat.mul_le_mul_right i.size (show es.length ≤ i' by omega)
                have h4 := Nat.mul_le_mul_right i.size (show (i' - es.length) + 1 ≤ ys.1.length from hi2)
                have h5 : (i' - es.length) * i.size = i' * i.size - es.length * i.size := Nat.sub_mul _ _ _
                rw [Nat.add_mul] at h4
                rw [if_neg (by omega), if_pos (by omega), show i' * i.size + j - es.length * i.size = (i' - es.length) * i.size + j by omega]
                obtain ⟨v, hv, hr⟩ := hzr _ _ _ _ he ht
                exact ⟨v, hv, RT.mono m hr⟩) (fun _ => ⟨fun k y hy hk => by
                rw [sget_sdel] at hy
                split at hy
                · cases hy
                · rename_i hne
                  exact R.sim.inj k b y _ hy hσ (Ne.symm hne) hk hv0, R.own b _ hσ hv0⟩)
            refine ⟨_, _, S, w', .inl (hrun _ _ hr), .c ?_, by simp [V.bnd, C.bnd, ins], R2⟩
            exact ⟨base, by simp [upd_eq], by simp [upd_eq, hbase], by simp [upd_eq]; omega⟩
        · have R1 := R.drew
          obtain ⟨hyl, _⟩ := hE
          obtain ⟨_, zs, hzf, hzl, hzr, hzo⟩ := ys_sound (P := P) R1 hy hgy hp2 h0 hys hysz
          obtain ⟨_, xs, hxf, hxl, hxr, _⟩ := elems_arr (P := P) (R1.sim.blk _ _ hσ) (get_sound R1 hx hgx hp1).1.c_inv
          rw [hxv] at hxf
          obtain ⟨nc, r, h1, h2, hr⟩ := run_append_new (tt := o.type) hst hyt hi hzv hzs hyl hxf hzf (by omega) hcap hmax
          rw [← hxv] at hr
          have R2 := (R1.del b).alloc (.cells (xs ++ zs ++ r).toArray e)
          have m := R1.mono_alloc (.cells (xs ++ zs ++ r).toArray e)
          have R3 := R2.newkey hk (x := .arr i.size (es ++ ys.1)) (w.heap.size, nc) rfl (by
            simp only [RB, upd_eq]
            refine ⟨by simp; omega, by simp; omega, hsz2, h0, fun _ => ⟨_, e, heap_alloc_new, ?_, ?_, hnotS _ (Nat.le_refl _)⟩⟩
            · simp only [List.length_append, hxl, hzl, h2, ← Nat.add_mul]; congr 1; omega
            · have := RRow.append (S := S) (w := w.drew) (r := r) h0 g3 hysz hxl hzl hxr hzr
              intro i' j e' t he ht
              obtain ⟨v, hv, hr⟩ := this i' j e' t he ht
              exact ⟨v, hv, RT.mono m hr⟩) (fun _ => ⟨fun k y hy h0 => by
                rw [sget_sdel] at hy
                split at hy
                · cases hy
                · have := (R.sim.blk k y hy).real_lt h0
                  simp; omega, .inr R.ext.size⟩)
          refine ⟨_, _, S, _, .inl (hrun _ _ hr), .c ?_, by simp [V.bnd, C.bnd, ins], R3⟩
          exact ⟨some ⟨w.heap.size, 0, none⟩, by simp [upd_eq], by simp [upd_eq], by simp [upd_eq]; omega⟩
    · cases he
  · cases he

end
end Go.Proofs.Ytkdepbmeaiefeaa.Shv
