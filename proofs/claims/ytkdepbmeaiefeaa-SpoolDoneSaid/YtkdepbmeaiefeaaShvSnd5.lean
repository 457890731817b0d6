/- The abstract machine, part 8: stores, composite literals, append. -/
import Derived.Test.YtkdepbmeaiefeaaShvSnd4
namespace Go.Proofs.Ytkdepbmeaiefeaa.Shv
set_option linter.all false
open Go

section
variable {P : Program} {Γ : Ctx} {nt : Nat} {φ : Phi} {S : Stab} {env : Env} {σ : Store} {n : Nat → Bool} {key : Nat} {a : Act} {w : World}

def fillV {α : Type} (vs : List α) (off : Nat) (xs : List α) : List α := vs.take off ++ xs ++ vs.drop (off + xs.length)

theorem fillV_get {α : Type} {vs : List α} {off : Nat} {xs : List α} (h : off + xs.length ≤ vs.length) (k : Nat) :
    (fillV vs off xs)[k]? = if k < off then vs[k]? else if k < off + xs.length then xs[k - off]? else vs[k]? := by
  unfold fillV
  rw [List.append_assoc]
  by_cases h1 : k < off
  · rw [if_pos h1, List.getElem?_append_left (by simp; omega), List.getElem?_take, if_pos h1]
  · rw [if_neg h1, List.getElem?_append_right (by simp; omega)]
    have e : (vs.take off).length = off := by simp; omega
    rw [e]
    by_cases h2 : k < off + xs.length
    · rw [if_pos h2, List.getElem?_append_left (by omega)]
    · rw [if_neg h2, List.getElem?_append_right (by omega), List.getElem?_drop]
      congr 1; omega

theorem fillV_length {α : Type} {vs : List α} {off : Nat} {xs : List α} (h : off + xs.length ≤ vs.length) : (fillV vs off xs).length = vs.length := by
  simp [fillV]; omega

theorem fillV_cons {α : Type} {vs : List α} {off : Nat} {x : α} {xs : List α} (h : off + (x :: xs).length ≤ vs.length) : fillV (vs.set off x) (off + 1) xs = fillV vs off (x :: xs) := by
  apply List.ext_getElem?
  intro k
  simp at h
  rw [fillV_get (by simp; omega), fillV_get (by simp; omega)]
  simp only [List.getElem?_set, List.length_cons]
  by_cases h1 : k < off
  · rw [if_pos (by omega), if_pos h1, if_neg (by omega)]
  · by_cases h2 : k = off
    · subst h2
      rw [if_pos (by omega), if_pos rfl, if_pos (by omega), if_neg (by omega), if_pos (by omega)]
      simp
    · rw [if_neg (by omega), if_neg h1]
      by_cases h3 : k < off + 1 + xs.length
      · rw [if_pos h3, if_pos (by omega), show k - off = (k - (off + 1)) + 1 by omega]; simp
      · rw [if_neg h3, if_neg (by omega), if_neg (by omega)]

theorem setCell_heap {w : World} {b : Nat} {vs : List Value} {E : TypeId} (h : w.heap[b]? = some (.cells vs.toArray E (0, 0))) (off : Nat) (v : Value) :
    (w.setCell ⟨b, off, none⟩ v).heap[b]? = some (.cells (vs.set off v).toArray E (0, 0)) ∧ ∀ b', b' ≠ b → (w.setCell ⟨b, off, none⟩ v).heap[b']? = w.heap[b']? := by
  constructor
  · simp [World.setCell, Array.getElem?_modify, h]
  · intro b' hb
    simp [World.setCell, Array.getElem?_modify, Ne.symm hb]

/-- a row of cells is stored -/
theorem run_storeCells {b : Nat} {E : TypeId} : ∀ (xs : List Value) (off i : Nat) (vs : List Value) (w : World), w.heap[b]? = some (.cells vs.toArray E (0, 0)) → off + i + xs.length ≤ vs.length → (∀ x, x ∈ xs → x.oneCell' = true) →
    ∃ w', (storeCells ⟨b, off, none⟩ xs i).run P w = .ok () w' ∧ w'.os = w.os ∧ w'.tape = w.tape ∧ w'.output = w.output ∧ w'.heap.size = w.heap.size ∧
      w'.heap[b]? = some (.cells (fillV vs (off + i) xs).toArray E (0, 0)) ∧ ∀ b' : Nat, b' ≠ b → w'.heap[b']? = w.heap[b']?
  | [], off, i, vs, w, h, hl, ho => ⟨w, rfl, rfl, rfl, rfl, rfl, by simp [fillV, h], fun _ _ => rfl⟩
  | x :: xs, off, i, vs, w, h, hl, ho => by
    have hadd : Addr.add ⟨b, off, none⟩ i = ⟨b, off + i, none⟩ := by unfold Addr.add; split <;> simp_all
    have hlt : off + i < vs.length := by simp at hl; omega
    have hc : w.cell? ⟨b, off + i, none⟩ = some vs[off + i] := by rw [cell_of_heap h]; exact List.getElem?_eq_getElem hlt
    have hf : w.frozen? ⟨b, off + i, none⟩ = false := by simp [World.frozen?, h]
    have hs := setCell_heap h (off + i) x
    obtain ⟨w', h1, h2, h3, h4, h5, h6, h7⟩ := run_storeCells xs off (i + 1) (vs.set (off + i) x) (w.setCell ⟨b, off + i, none⟩ x) hs.1 (by simp at hl ⊢; omega) (fun y hy => ho y (by simp [hy]))
    refine ⟨w', ?_, h2, h3, h4, by rw [h5]; simp, ?_, fun b' hb => (h7 b' hb).trans (hs.2 b' hb)⟩
    · simp only [storeCells, Sem.run_bind, hadd, run_store P w _ x _ (ho x (by simp)), hc, hf]
      simpa using h1
    · rw [h6, ← fillV_cons (by simp at hl ⊢; omega)]
      congr 3

theorem All2.fill {α β : Type} {R : α → β → Prop} {cs ds : List α} {vs xs : List β} (h : All2 R cs vs) (k : All2 R ds xs) (o : Nat) : All2 R (cs.take o ++ ds ++ cs.drop (o + ds.length)) (fillV vs o xs) := by
  unfold fillV
  rw [k.length]
  exact ((h.take o).append k).append (h.drop _)

theorem all_one {cs : List C} {xs : List Value} (h : All2 (RC φ w S) cs xs) : ∀ x, x ∈ xs → x.oneCell' = true := by
  induction h with
  | nil => simp
  | cons h _ ih =>
    intro x hx
    rcases List.mem_cons.1 hx with rfl | hx
    · exact RC.oneCell h
    · exact ih x hx

theorem RV.undef : RV φ w S (.tup []) undef := .tup [] [] rfl (by simp)

theorem toTs_sound : ∀ {cs : List C} {ts : List T} {xs : List Value}, toTs cs = some ts → All2 (RC φ w S) cs xs → All2 (RT w S) ts xs
  | [], ts, xs, h, ha => by simp [toTs] at h; subst h; cases ha; exact .nil
  | c :: cs, ts, xs, h, ha => by
    simp only [toTs, Option.bind_eq_some_iff, Option.map_eq_some_iff] at h
    obtain ⟨t, ht, ts', hts, rfl⟩ := h
    cases ha with
    | cons h1 h2 =>
      refine .cons ?_ (toTs_sound hts h2)
      unfold toT at ht
      split at ht <;> simp at ht
      · subst ht; exact h1
      · subst ht
        obtain ⟨a, rfl⟩ := h1
        exact RT.slice [] a 0 0 0 0 (fun _ _ => undef) (by simp) (by simp) (by simp) (by simp) (by simp) (by simp)

theorem toTs_length : ∀ {cs : List C} {ts : List T}, toTs cs = some ts → ts.length = cs.length
  | [], ts, h => by simp [toTs] at h; subst h; rfl
  | c :: cs, ts, h => by
    simp only [toTs, Option.bind_eq_some_iff, Option.map_eq_some_iff] at h
    obtain ⟨t, ht, ts', hts, rfl⟩ := h
    simp [toTs_length hts]

theorem all_fill {n : Nat → Bool} {cs ds : List C} (h : cs.all (C.bnd n) = true) (k : ds.all (C.bnd n) = true) (o : Nat) : (fillC cs o ds).all (C.bnd n) = true := by
  simp only [List.all_eq_true] at h k ⊢
  intro x hx
  simp only [fillC, List.mem_append] at hx
  rcases hx with (hx | hx) | hx
  · exact h x (List.mem_of_mem_take hx)
  · exact k x hx
  · exact h x (List.mem_of_mem_drop hx)

/-- a block of the machine's own is overwritten -/
theorem Rel.rewrite (R : Rel Γ nt φ S env σ n a w) {b : Nat} {x x' : Blk} (hσ : sget σ b = some x) (h0 : (φ b).2 ≠ 0) (hx' : x'.bnd n = true) {w' : World}
    (hos : w'.os = w.os) (ht : w'.tape = w.tape) (ho : w'.output = w.output) (hs : w'.heap.size = w.heap.size) (hb : ∀ b' : Nat, b' ≠ (φ b).1 → w'.heap[b']? = w.heap[b']?)
    (hR : Mono w S w' S → RB φ w' S b x') : Rel Γ nt φ S env (sput σ b x') n a w' := by
  have hblk := R.sim.blk b x hσ
  have R1 := (R.del b).world (w' := w') (fun k => k = (φ b).1) hos ht ho (Nat.le_of_eq hs.symm) (fun k _ hk => hb k hk) (fun k hk => by
    subst hk
    refine ⟨hblk.notS h0, fun k y hy hk => ?_, R.own b x hσ h0⟩
    rw [sget_sdel] at hy
    split at hy
    · cases hy
    · rename_i hne
      exact fun e => R.sim.inj k b y x hy hσ (Ne.symm hne) hk h0 e)
  have m : Mono w S w' S := ⟨fun _ _ h => h, fun k j h => cell?_of_heap (hb k (fun e => hblk.notS h0 j (e ▸ h))) j⟩
  have R2 := R1.put (b := b) (x := x') (R.sbnd b x hσ).1 hx' (hR m) (fun _ => ⟨fun k y hy hne hk => by
    rw [sget_sdel] at hy
    split at hy
    · cases hy
    · exact R.sim.inj k b y x hy hσ hne hk h0, R.own b x hσ h0⟩)
  refine R2.congr fun k => ?_
  rw [sget_sput, sget_sput, sget_sdel]
  split <;> rfl

theorem sound_store (R : Rel Γ nt φ S env σ n a w) {o : Oper} {ty : TypeId} {x y : Operand} (ho : o.op = .store ty x y) {k : Nat} (hks : sizeT P ty = some k) {ax ay : AO} (hx : opd x = some ax) (hy : opd y = some ay)
    {p v σ'} (hk : n key = false) (h : aval (.store k ax ay) env σ key = some (p, v, σ')) (hp : p) : Good P Γ nt env σ' (ins n key) a v ((execOp a.eval o).run P w) := by
  simp only [aval, Option.bind_eq_some_iff, Option.ite_none_right_eq_some] at h
  obtain ⟨⟨px, vx⟩, hgx, ⟨py, vy⟩, hgy, cs, hcs, hlen, he⟩ := h
  simp only at he hcs
  have hrun : ∀ (blk off : Nat) (xs : List Value) (w' : World), a.eval x = .pointer (some ⟨blk, off, none⟩) → (a.eval y).cells.toList = xs → xs.length = k → (storeCells ⟨blk, off, none⟩ xs 0).run P w = .ok () w' →
      (execOp a.eval o).run P w = .ok .skip w' := by
    intro blk off xs w' h1 h2 h3 h4
    have h5 : (a.eval y).cells.size = k := by rw [← h3, ← h2]; simp
    simp [execOp, ho, Instr.storeAt, Instr.sureAddr, h1, storeVar, sizeT_run hks, h5, h2, h4]
  split at he
  · rename_i b o'
    split at he
    · rename_i ds hσ
      simp only [Option.ite_none_right_eq_some, Option.some.injEq, Prod.mk.injEq] at he
      obtain ⟨hle, rfl, rfl, rfl⟩ := he
      have h1 := (get_sound R hx hgx hp.1).1.ptr_inv
      have hg2 := get_sound R hy hgy hp.2
      obtain ⟨hall, hb⟩ := vcells_sound hg2.1 hcs hg2.2
      obtain ⟨h0, vs, E, hh, hds, hns⟩ := R.sim.blk _ _ hσ
      have hvl := hds.length
      have hxl : (a.eval y).cells.toList.length = k := by rw [← hall.length, hlen]
      obtain ⟨w', hr, k1, k2, k3, k4, k5, k6⟩ := run_storeCells (P := P) _ o' 0 vs w hh (by omega) (all_one hall)
      refine ⟨undef, φ, S, w', .inr ⟨hrun _ _ _ w' h1 rfl hxl hr, rfl⟩, .undef, rfl, Rel.more ?_ fun _ h => ins_of h⟩
      refine R.rewrite hσ h0 (by simpa [Blk.bnd] using all_fill ((R.sbnd _ _ hσ).2) hb o') k1 k2 k3 k4 k6 (fun m => ?_)
      refine ⟨h0, _, E, k5, ?_, hns⟩
      rw [Nat.add_zero]
      exact (hds.imp fun c v hc hr => RC.mono m (fun _ _ => rfl) (List.all_eq_true.1 (R.sbnd _ _ hσ).2 c hc) hr).fill (hall.imp fun c v hc hr => RC.mono m (fun _ _ => rfl) (List.all_eq_true.1 hb c hc) hr) o'
    · cases he
  · rename_i b sz i o'
    split at he
    · rename_i sz' es hσ
      simp only [Option.bind_eq_some_iff, Option.some.injEq, Prod.mk.injEq] at he
      obtain ⟨ts, hts, rfl, rfl, rfl⟩ := he
      obtain ⟨hp1, hp2, rfl, hi, hok⟩ := hp
      have h1 := (get_sound R hx hgx hp1).1.eptr_inv
      have hg2 := get_sound R hy hgy hp2
      obtain ⟨hall, hb⟩ := vcells_sound hg2.1 hcs hg2.2
      have hrt := toTs_sound hts hall
      have htl := toTs_length hts
      have hRB := R.sim.blk _ _ hσ
      obtain ⟨h0, vs, E, xs, hh, hl, hel, hxl, hall2, hget, hle⟩ := arr_elem hRB hi
      obtain ⟨g1, g2, g3, g4, g5⟩ := hRB
      obtain ⟨vs', E', hh', hl', hv', hns⟩ := g5 h0
      rw [hh] at hh'; cases hh'
      rw [Nat.add_mul] at hle
      have hyl : (a.eval y).cells.toList.length = k := by rw [← hall.length, hlen]
      obtain ⟨w', hr, k1, k2, k3, k4, k5, k6⟩ := run_storeCells (P := P) _ (i * sz + o') 0 vs w hh (by omega) (all_one hall)
      have hr' : (storeCells ⟨(φ b).1, i * sz + o', none⟩ (a.eval y).cells.toList 0).run P w = .ok () w' := hr
      refine ⟨undef, φ, S, w', .inr ⟨hrun _ _ _ w' h1 rfl hyl hr', rfl⟩, .undef, rfl, Rel.more ?_ fun _ h => ins_of h⟩
      refine R.rewrite hσ h0 rfl k1 k2 k3 k4 k6 (fun m => ?_)
      refine ⟨by simpa using g1, by simpa using g2, ?_, g4, fun _ => ⟨_, E, k5, by rw [fillV_length (by omega)]; exact hl, ?_, hns⟩⟩
      · intro e he
        rcases List.mem_or_eq_of_mem_set he with he | rfl
        · exact g3 e he
        · simp; omega
      · intro i' j e t he ht
        rw [Nat.add_zero, fillV_get (by omega)]
        rw [List.getElem?_set] at he
        by_cases hii : i = i'
        · subst hii
          rw [if_pos rfl, if_pos hi] at he
          cases he
          have hjl := (List.getElem?_eq_some_iff.1 ht).1
          simp at hjl
          have hjs : j < sz := by omega
          have he' := (fillV_get (vs := el es i) (off := o') (xs := ts) (by omega) j)
          unfold fillV at he'
          rw [show o' + ts.length = o' + k by omega] at he'
          rw [he'] at ht
          by_cases c1 : j < o'
          · rw [if_pos c1] at ht
            rw [if_pos (by omega), hget j hjs]
            obtain ⟨v, hv, hr⟩ := hall2.get ht
            exact ⟨v, hv, RT.mono m hr⟩
          · rw [if_neg c1] at ht
            rw [if_neg (by omega)]
            by_cases c2 : j < o' + k
            · rw [if_pos (by omega)] at ht
              rw [if_pos (by omega), show i * sz + j - (i * sz + o') = j - o' by omega]
              obtain ⟨v, hv, hr⟩ := hrt.get ht
              exact ⟨v, hv, RT.mono m hr⟩
            · rw [if_neg (by omega)] at ht
              rw [if_neg (by omega), hget j hjs]
              obtain ⟨v, hv, hr⟩ := hall2.get ht
              exact ⟨v, hv, RT.mono m hr⟩
        · rw [if_neg hii] at he
          obtain ⟨v, hv, hr⟩ := hv' _ _ _ _ he ht
          have hjs : j < sz := by rw [← g3 _ (List.mem_of_getElem? he)]; exact (List.getElem?_eq_some_iff.1 ht).1
          have : i' * sz + j < i * sz + o' ∨ i * sz + o' + k ≤ i' * sz + j := by
            rcases Nat.lt_or_gt_of_ne hii with h | h
            · right
              have := Nat.mul_le_mul_right sz (show i + 1 ≤ i' from h)
              rw [Nat.add_mul] at this
              omega
            · left
              have := Nat.mul_le_mul_right sz (show i' + 1 ≤ i from h)
              rw [Nat.add_mul] at this
              omega
          rcases this with h | h
          · rw [if_pos h]; exact ⟨v, hv, RT.mono m hr⟩
          · rw [if_neg (by omega), if_neg (by omega)]; exact ⟨v, hv, RT.mono m hr⟩
    · cases he
  · cases he

end
end Go.Proofs.Ytkdepbmeaiefeaa.Shv
