/- The abstract machine, part 9: composite literals, append. -/
import Derived.Test.YtkdepbmeaiefeaaShvSnd5
namespace Go.Proofs.Ytkdepbmeaiefeaa.Shv
set_option linter.all false
open Go

section
variable {P : Program} {Γ : Ctx} {nt : Nat} {φ : Phi} {S : Stab} {env : Env} {σ : Store} {n : Nat → Bool} {key : Nat} {a : Act} {w : World}

theorem foldl_fill : ∀ (xs : List Value) (k off : Nat) (cs : Array Value), off + k + xs.length ≤ cs.size →
    (((xs.zipIdx k).foldl (fun cs (c, j) => cs.setIfInBounds (off + j) c) cs) : Array Value).toList = fillV cs.toList (off + k) xs
  | [], k, off, cs, h => by simp [fillV]
  | x :: xs, k, off, cs, h => by
    simp at h
    rw [List.zipIdx_cons, List.foldl_cons, foldl_fill xs (k + 1) off _ (by simp; omega)]
    simp only [Array.toList_setIfInBounds]
    rw [show off + (k + 1) = off + k + 1 by omega, fillV_cons (by simp; omega)]

/-- what 'fill' of the model does with one part -/
theorem fill_step {place : Nat → Option (Nat × Nat)} {cells : Array Value} {i : Nat} {v : Value} {r : List (Nat × Value)} {off sz : Nat} (hp : place i = some (off, sz)) (h1 : v.cells.size = sz) (h2 : off + sz ≤ cells.size) :
    Instr.fill place cells ((i, v) :: r) = Instr.fill place (fillV cells.toList off v.cells.toList).toArray r := by
  simp only [Instr.fill, hp]
  rw [if_neg (by simp [h1]; omega)]
  congr 1
  apply Array.ext'
  have := foldl_fill v.cells.toList 0 off cells (by simp; omega)
  rw [← Array.foldl_toList]
  simp only [Array.toList_zipIdx]
  simpa using this

theorem buildC_sound {fs : Array Field} {place : Nat → Option (Nat × Nat)} (R : Rel Γ nt φ S env σ n a w)
    (hpl : ∀ (j : Nat) f k, fs[j]? = some f → sizeT P f.type = some k → place j = some (f.offset, k)) :
    ∀ {parts : List (Nat × Operand)} {ps : List (Nat × Nat × AO)} {cs : List C} {vs : List Value} {p : Prop} {ds : List C}, buildParts P fs parts = some ps → buildC env cs ps = some (p, ds) → p →
      All2 (RC φ w S) cs vs → cs.all (C.bnd n) = true →
      ∃ us : List Value, Instr.fill place vs.toArray (parts.map fun (i, x) => (i, a.eval x)) = some us.toArray ∧ All2 (RC φ w S) ds us ∧ ds.all (C.bnd n) = true
  | [], ps, cs, vs, p, ds, hps, hb, hp, hall, hbn => by
    simp [buildParts] at hps; subst hps
    simp [buildC] at hb
    obtain ⟨_, rfl⟩ := hb
    exact ⟨vs, by simp [Instr.fill], hall, hbn⟩
  | (j, x) :: r, ps, cs, vs, p, ds, hps, hb, hp, hall, hbn => by
    simp only [buildParts, Option.bind_eq_some_iff, Option.map_eq_some_iff] at hps
    obtain ⟨f, hf, k, hk, ax, hx, ps', hps', rfl⟩ := hps
    simp only [buildC, Option.bind_eq_some_iff, Option.ite_none_right_eq_some, Option.map_eq_some_iff, Prod.mk.injEq] at hb
    obtain ⟨⟨q, v⟩, hg, es, hes, ⟨h1, h2⟩, ⟨q', ds'⟩, hb', rfl, rfl⟩ := hb
    have hgs := get_sound R hx hg hp.1
    obtain ⟨hv, hvb⟩ := vcells_sound hgs.1 hes hgs.2
    have hl := hall.length
    have hvl := hv.length
    obtain ⟨us, h3, h4, h5⟩ := buildC_sound R hpl hps' hb' hp.2 (vs := fillV vs f.offset (a.eval x).cells.toList) (by unfold fillC; exact hall.fill hv _) (all_fill hbn hvb _)
    refine ⟨us, ?_, h4, h5⟩
    simp only [List.map_cons]
    rw [fill_step (hpl j f k hf hk) (by rw [← Array.length_toList, ← hvl, h1]) (by simp; omega)]
    exact h3

theorem buildArr_sound {place : Nat → Option (Nat × Nat)} {m : Nat} (R : Rel Γ nt φ S env σ n a w) (hpl : ∀ j, place j = some (j * m, m)) :
    ∀ {parts : List (Nat × Operand)} {ps : List (Nat × Nat × AO)} {cs : List C} {vs : List Value} {p : Prop} {ds : List C}, arrParts m parts = some ps → buildC env cs ps = some (p, ds) → p →
      All2 (RC φ w S) cs vs → cs.all (C.bnd n) = true →
      ∃ us : List Value, Instr.fill place vs.toArray (parts.map fun (i, x) => (i, a.eval x)) = some us.toArray ∧ All2 (RC φ w S) ds us ∧ ds.all (C.bnd n) = true
  | [], ps, cs, vs, p, ds, hps, hb, hp, hall, hbn => by
    simp [arrParts] at hps; subst hps
    simp [buildC] at hb
    obtain ⟨_, rfl⟩ := hb
    exact ⟨vs, by simp [Instr.fill], hall, hbn⟩
  | (j, x) :: r, ps, cs, vs, p, ds, hps, hb, hp, hall, hbn => by
    simp only [arrParts, Option.bind_eq_some_iff, Option.map_eq_some_iff] at hps
    obtain ⟨ax, hx, ps', hps', rfl⟩ := hps
    simp only [buildC, Option.bind_eq_some_iff, Option.ite_none_right_eq_some, Option.map_eq_some_iff, Prod.mk.injEq] at hb
    obtain ⟨⟨q, v⟩, hg, es, hes, ⟨h1, h2⟩, ⟨q', ds'⟩, hb', rfl, rfl⟩ := hb
    have hgs := get_sound R hx hg hp.1
    obtain ⟨hv, hvb⟩ := vcells_sound hgs.1 hes hgs.2
    have hl := hall.length
    have hvl := hv.length
    obtain ⟨us, h3, h4, h5⟩ := buildArr_sound R hpl hps' hb' hp.2 (vs := fillV vs (j * m) (a.eval x).cells.toList) (by unfold fillC; exact hall.fill hv _) (all_fill hbn hvb _)
    refine ⟨us, ?_, h4, h5⟩
    simp only [List.map_cons]
    rw [fill_step (hpl j) (by rw [← Array.length_toList, ← hvl, h1]) (by simp; omega)]
    exact h3

theorem mapM_sizes {fs : List Field} (h : ∀ f, f ∈ fs → ∃ k, sizeT P f.type = some k) :
    ∃ ps : List (Nat × Nat), (fs.mapM fun f => do pure (f.offset, ← sizeOf f.type) : Sem (List (Nat × Nat))).run P w = .ok ps w ∧ ps.length = fs.length ∧ ∀ (j : Nat) f k, fs[j]? = some f → sizeT P f.type = some k → ps[j]? = some (f.offset, k) := by
  induction fs with
  | nil => exact ⟨[], by simp, rfl, by simp⟩
  | cons f fs ih =>
    obtain ⟨ps, h1, hl, h2⟩ := ih fun f hf => h f (by simp [hf])
    obtain ⟨k, hk⟩ := h f (by simp)
    refine ⟨(f.offset, k) :: ps, ?_, by simp [hl], ?_⟩
    · rw [List.mapM_cons]
      simp only [bind_pure_comp] at h1
      simp [sizeT_run hk, h1]
    · intro j g k' hg hk'
      cases j with
      | zero => simp at hg; subst hg; rw [hk] at hk'; cases hk'; rfl
      | succ j => simpa using h2 j g k' (by simpa using hg) hk'

theorem sound_build (R : Rel Γ nt φ S env σ n a w) {o : Oper} {ty : TypeId} {parts : Array (Nat × Operand)} (ho : o.op = .build ty parts) {fs : Array Field} (hty : P.underlying ty = some (.struct fs)) (hfs : sizedFields P fs = true)
    {z : List C} (hz : zeroC P ty = some z) {ps : List (Nat × Nat × AO)} (hps : buildParts P fs parts.toList = some ps)
    {p v σ'} (hk : n key = false) (h : aval (.build z ps) env σ key = some (p, v, σ')) (hp : p) : Good P Γ nt env σ' (ins n key) a v ((execOp a.eval o).run P w) := by
  simp only [aval, Option.map_eq_some_iff, Prod.mk.injEq] at h
  obtain ⟨⟨q, ds⟩, hb, rfl, rfl, rfl⟩ := h
  obtain ⟨i, zv, hi, hzv, hall, hbn⟩ := zeroC_sound (φ := φ) (w := w) (S := S) (n := n) hz
  obtain ⟨pl, hpl, hpll, hpls⟩ := mapM_sizes (P := P) (w := w) (fs := fs.toList) (by
    simp only [sizedFields, List.all_eq_true] at hfs
    intro f hf
    have := hfs f hf
    exact Option.isSome_iff_exists.1 this)
  have hpl' : (fs.mapM fun f => do pure (f.offset, ← sizeOf f.type) : Sem (Array (Nat × Nat))).run P w = .ok pl.toArray w := by
    rw [Array.mapM_eq_mapM_toList]
    simp only [Sem.run_map, hpl]; rfl
  obtain ⟨us, h1, h2, h3⟩ := buildC_sound (place := (pl.toArray[·]?)) R (fun j f k hf hk => by simpa using hpls j f k (by simpa using hf) hk) hps hb hp hall hbn
  refine Good.pure R (x := .agg us.toArray) ?_ (.agg h2) (by simpa [V.bnd] using h3)
  have h1' : Instr.fill (fun x => pl.toArray[x]?) zv.cells ((parts.map fun (i, x) => (i, a.eval x)).toList) = some us.toArray := by
    simpa using h1
  simp only [execOp, ho, Instr.build, zeroValue, typeInfo, Sem.run_bind, run_program, Result.andThen_ok, hi, Sem.run_pure, hzv, underlying, hty, hpl']
  simp only [bind_pure_comp] at hpl'
  simp [hpl']
  simp at h1'
  rw [h1']
  simp

theorem sound_buildArr (R : Rel Γ nt φ S env σ n a w) {o : Oper} {ty : TypeId} {parts : Array (Nat × Operand)} (ho : o.op = .build ty parts) {len : Nat} {e : TypeId} (hty : P.underlying ty = some (.array len e)) {m : Nat} (hm : sizeT P e = some m)
    {z : List C} (hz : zeroC P ty = some z) {ps : List (Nat × Nat × AO)} (hps : arrParts m parts.toList = some ps)
    {p v σ'} (hk : n key = false) (h : aval (.build z ps) env σ key = some (p, v, σ')) (hp : p) : Good P Γ nt env σ' (ins n key) a v ((execOp a.eval o).run P w) := by
  simp only [aval, Option.map_eq_some_iff, Prod.mk.injEq] at h
  obtain ⟨⟨q, ds⟩, hb, rfl, rfl, rfl⟩ := h
  obtain ⟨i, zv, hi, hzv, hall, hbn⟩ := zeroC_sound (φ := φ) (w := w) (S := S) (n := n) hz
  obtain ⟨us, h1, h2, h3⟩ := buildArr_sound (place := fun i => some (i * m, m)) R (fun j => rfl) hps hb hp hall hbn
  refine Good.pure R (x := .agg us.toArray) ?_ (.agg h2) (by simpa [V.bnd] using h3)
  have h1' : Instr.fill (fun i => some (i * m, m)) zv.cells ((parts.map fun (i, x) => (i, a.eval x)).toList) = some us.toArray := by
    simpa using h1
  simp at h1'
  simp [execOp, ho, Instr.build, zeroValue, typeInfo, hi, hzv, underlying, hty, sizeT_run hm, h1']


/-- rows of cells that stand for a list of elements -/
def RRow (w : World) (S : Stab) (sz : Nat) (es : List (List T)) (vs : List Value) : Prop :=
  ∀ (i j : Nat) e t, es[i]? = some e → e[j]? = some t → ∃ v, vs[i * sz + j]? = some v ∧ RT w S t v

theorem buildS_sound {sz : Nat} (R : Rel Γ nt φ S env σ n a w) (h0 : 0 < sz) :
    ∀ {parts : List (Nat × Operand)} {ps : List (Nat × AO)} {es : List (List T)} {vs : List Value} {p : Prop} {ds : List (List T)}, slcParts parts = some ps → buildS env sz es ps = some (p, ds) → p →
      (∀ e, e ∈ es → e.length = sz) → vs.length = es.length * sz → RRow w S sz es vs →
      ∃ us : List Value, Instr.fill (fun i => some (i * sz, sz)) vs.toArray (parts.map fun (i, x) => (i, a.eval x)) = some us.toArray ∧ (∀ e, e ∈ ds → e.length = sz) ∧ ds.length = es.length ∧ us.length = vs.length ∧ RRow w S sz ds us ∧ (∀ u, u ∈ us → u ∈ us)
  | [], ps, es, vs, p, ds, hps, hb, hp, hsz, hl, hr => by
    simp [slcParts] at hps; subst hps
    simp [buildS] at hb
    obtain ⟨_, rfl⟩ := hb
    exact ⟨vs, by simp [Instr.fill], hsz, rfl, rfl, hr, fun _ h => h⟩
  | (i0, x) :: r, ps, es, vs, p, ds, hps, hb, hp, hsz, hl, hr => by
    simp only [slcParts, Option.bind_eq_some_iff, Option.map_eq_some_iff] at hps
    obtain ⟨ax, hx, ps', hps', rfl⟩ := hps
    simp only [buildS, Option.bind_eq_some_iff, Option.ite_none_right_eq_some, Option.map_eq_some_iff, Prod.mk.injEq] at hb
    obtain ⟨⟨q, v⟩, hg, cs, hcs, ts, hts, ⟨h1, h2⟩, ⟨q', ds'⟩, hb', rfl, rfl⟩ := hb
    have hgs := get_sound R hx hg hp.1
    obtain ⟨hv, hvb⟩ := vcells_sound hgs.1 hcs hgs.2
    have hrt := toTs_sound hts hv
    have hvl := hrt.length
    have hle : i0 * sz + sz ≤ vs.length := by
      have := Nat.mul_le_mul_right sz (show i0 + 1 ≤ es.length from h2)
      rw [Nat.add_mul] at this; omega
    obtain ⟨us, h3, h4, h5, h6, h7, h8⟩ := buildS_sound R h0 hps' hb' hp.2 (es := es.set i0 ts) (vs := fillV vs (i0 * sz) (a.eval x).cells.toList) (by
        intro e he
        rcases List.mem_or_eq_of_mem_set he with he | rfl
        · exact hsz e he
        · exact h1) (by rw [fillV_length (by omega)]; simpa using hl) (by
        intro i j e t he ht
        rw [fillV_get (by omega)]
        rw [List.getElem?_set] at he
        by_cases hii : i0 = i
        · subst hii
          rw [if_pos rfl, if_pos h2] at he
          cases he
          have hj := (List.getElem?_eq_some_iff.1 ht).1
          rw [if_neg (by omega), if_pos (by omega), show i0 * sz + j - i0 * sz = j by omega]
          exact hrt.get ht
        · rw [if_neg hii] at he
          have hj := (List.getElem?_eq_some_iff.1 ht).1
          rw [hsz _ (List.mem_of_getElem? he)] at hj
          rcases Nat.lt_or_gt_of_ne hii with h | h
          · have := Nat.mul_le_mul_right sz (show i0 + 1 ≤ i from h)
            rw [Nat.add_mul] at this
            rw [if_neg (by omega), if_neg (by omega)]
            exact hr _ _ _ _ he ht
          · have := Nat.mul_le_mul_right sz (show i + 1 ≤ i0 from h)
            rw [Nat.add_mul] at this
            rw [if_pos (by omega)]
            exact hr _ _ _ _ he ht)
    refine ⟨us, ?_, h4, by simpa using h5, by rw [h6, fillV_length (by omega)], h7, fun _ h => h⟩
    simp only [List.map_cons]
    rw [fill_step (place := fun i => some (i * sz, sz)) rfl (by rw [← Array.length_toList, ← hvl, h1]) (by simpa using hle)]
    exact h3

theorem zeroRow_get {z : Array Value} {sz len : Nat} (hz : z.size = sz) (h0 : 0 < sz) (i j : Nat) (hi : i < len) (hj : j < sz) :
    ((Array.range (len * sz)).map (z[· % z.size]!))[i * sz + j]? = z[j]? := by
  have hlt : i * sz + j < len * sz := by
    have := Nat.mul_le_mul_right sz (show i + 1 ≤ len from hi)
    rw [Nat.add_mul] at this; omega
  rw [Array.getElem?_map, Array.getElem?_range, if_pos hlt]
  simp only [Option.map_some, hz]
  have : (i * sz + j) % sz = j := by rw [Nat.add_comm, Nat.add_mul_mod_self_right, Nat.mod_eq_of_lt hj]
  rw [this]
  have hj' : j < z.size := by omega
  simp [hj']

theorem run_buildSlice {ty : TypeId} {len : Nat} {parts : Array (Nat × Value)} {e : TypeId} (hty : P.underlying ty = some (.slice e)) {sz : Nat} (hsz : sizeT P e = some sz) {i : TypeInfo} {zv : Value} (hi : P.info? e = some i) (hzv : i.zero = some zv)
    (h0 : sz ≠ 0) (hle : len * sz ≤ 2 ^ 24) {Z : Array Value} (hZ : Z = (Array.range (len * sz)).map (zv.cells[· % zv.cells.size]!)) {us : List Value} (hf : Instr.fill (fun i => some (i * sz, sz)) Z parts.toList = some us.toArray) :
    (Instr.buildSlice ty len parts).run P w = .ok (.slice (some ⟨w.heap.size, 0, none⟩) len len) (w.alloc (.cells us.toArray e)) := by
  have hnot : ¬ (len * sz > 2 ^ 24) := by omega
  have hzr : ∀ w, (zeroValue e).run P w = .ok zv w := by intro w; simp [zeroValue, typeInfo, hi, hzv]
  by_cases hl : len * sz = 0
  · have hZ0 : Z = #[] := by rw [hZ, hl]; simp
    subst hZ0
    have e2 : (Array.map (fun x => (#[] : Array Value)[x % (#[] : Array Value).size]!) (Array.range (len * sz))) = #[] := by rw [hl]; simp
    unfold Instr.buildSlice
    simp only [Sem.run_bind, run_underlying hty, Result.andThen_ok, sizeT_run hsz, if_neg hnot, if_pos hl, Sem.run_pure, e2, hf]
    rfl
  · unfold Instr.buildSlice
    subst hZ
    simp only [Sem.run_bind, run_underlying hty, Result.andThen_ok, sizeT_run hsz, if_neg hnot, if_neg hl, Sem.run_pure, hzr, hf]
    rfl

theorem sound_bslice (R : Rel Γ nt φ S env σ n a w) {o : Oper} {ty : TypeId} {len : Nat} {parts : Array (Nat × Operand)} (ho : o.op = .buildSlice ty len parts) {e : TypeId} (hty : P.underlying ty = some (.slice e)) {sz : Nat} (hsz : sizeT P e = some sz)
    {z : List C} (hz : zeroC P e = some z) {ps : List (Nat × AO)} (hps : slcParts parts.toList = some ps) (h0 : sz ≠ 0) (hzl : z.length = sz) (hle : len * sz ≤ 2 ^ 24)
    {p v σ'} (hk : n key = false) (h : aval (.bslice sz len z ps) env σ key = some (p, v, σ')) (hp : p) : Good P Γ nt env σ' (ins n key) a v ((execOp a.eval o).run P w) := by
  simp only [aval, Option.bind_eq_some_iff, Option.map_eq_some_iff, Prod.mk.injEq] at h
  obtain ⟨zt, hzt, ⟨q, ds⟩, hb, rfl, rfl, rfl⟩ := h
  obtain ⟨i, zv, hi, hzv, hall, hbn⟩ := zeroC_sound (φ := φ) (w := w) (S := S) (n := n) hz
  have hzr := toTs_sound hzt hall
  have hzl' : zv.cells.size = sz := by rw [← Array.length_toList, ← hall.length, hzl]
  have hz0 : 0 < sz := by omega
  have hztl : zt.length = sz := by rw [toTs_length hzt, hzl]
  obtain ⟨us, h1, h2, h3, h4, h5, _⟩ := buildS_sound R hz0 hps hb hp (es := List.replicate len zt) (vs := ((Array.range (len * sz)).map (zv.cells[· % zv.cells.size]!)).toList) (by
      intro e he; rw [List.eq_of_mem_replicate he]; exact hztl) (by simp) (by
      intro i j e t he ht
      have hi := (List.getElem?_eq_some_iff.1 he).1
      simp at hi
      have : e = zt := by
        have := List.mem_of_getElem? he
        exact List.eq_of_mem_replicate this
      subst this
      have hj := (List.getElem?_eq_some_iff.1 ht).1
      obtain ⟨x, hx, hr⟩ := hzr.get ht
      refine ⟨x, ?_, hr⟩
      rw [Array.getElem?_toList, zeroRow_get hzl' hz0 i j hi (by omega)]
      simpa using hx)
  simp at h3
  have hul : us.length = len * sz := by rw [h4]; simp
  have R1 := R.alloc (.cells us.toArray e)
  have m := R.mono_alloc (.cells us.toArray e)
  have hlen : len ≤ sliceMax := by
    have : len ≤ len * sz := Nat.le_mul_of_pos_right len hz0
    unfold sliceMax; omega
  have R2 := R1.newkey hk (x := .arr sz ds) (w.heap.size, len) rfl (by
    simp only [RB, upd_eq]
    refine ⟨by omega, by omega, h2, hz0, fun _ => ⟨us, e, heap_alloc_new, hul, fun i j e t he ht => ?_, fun j h => ?_⟩⟩
    · obtain ⟨v, hv, hr⟩ := h5 i j e t he ht
      exact ⟨v, hv, RT.mono m hr⟩
    · have := R.sim.st _ _ h
      simp at this) (fun _ => ⟨fun k y hy h0 => by
        have := (R.sim.blk k y hy).real_lt h0
        simp; omega, .inr R.ext.size⟩)
  refine ⟨.slice (some ⟨w.heap.size, 0, none⟩) len len, _, S, _, .inl ?_, .c ⟨some ⟨w.heap.size, 0, none⟩, by simp [upd_eq], by simp [upd_eq], by simp [upd_eq]⟩, by simp [V.bnd, C.bnd, ins], R2⟩
  have h1' : Instr.fill (fun i => some (i * sz, sz)) ((Array.range (len * sz)).map (zv.cells[· % zv.cells.size]!)) ((parts.map fun (i, x) => (i, a.eval x)).toList) = some us.toArray := by
    rw [Array.toList_map]
    exact h1
  have hr := run_buildSlice (P := P) (w := w) hty hsz hi hzv h0 hle rfl h1'
  simp only [execOp, ho, Sem.run_bind, hr, Result.andThen_ok]
  rfl

end
end Go.Proofs.Ytkdepbmeaiefeaa.Shv
