/- Typed states over the abstract machine: freezing, new empty arrays, shapes of states. -/
import Derived.Test.YtkdepbmeaiefeaaShvY4
namespace Go.Proofs.Ytkdepbmeaiefeaa.Shv
set_option linter.all false
open Go

variable {U : Uni}

/-! freezing -/

def XC.frz (b0 : Nat) (c : Cell U.D) : XC U → XC U
  | .arr b => match Nat.beq b b0 with
    | true => .t c
    | false => .arr b
  | .eptr b ty i o => match Nat.beq b b0 with
    | true => .dead
    | false => .eptr b ty i o
  | x => x

def XV.frz (b0 : Nat) (c : Cell U.D) : XV U → XV U
  | .c x => .c (x.frz b0 c)
  | .agg cs => .agg (cs.map (XC.frz b0 c))
  | .tup vs => .tup (go b0 c vs)
where go (b0 : Nat) (c : Cell U.D) : List (XV U) → List (XV U)
  | [] => []
  | v :: vs => v.frz b0 c :: go b0 c vs

def XB.frz (b0 : Nat) (c : Cell U.D) : XB U → XB U
  | .box cs => .box (cs.map (XC.frz b0 c))
  | x => x

def xfrzE (b0 : Nat) (c : Cell U.D) : XEnv U → XEnv U
  | [] => []
  | (k, v) :: r => (k, v.frz b0 c) :: xfrzE b0 c r

def xfrzS (b0 : Nat) (c : Cell U.D) : XSt U → XSt U
  | [] => []
  | (k, x) :: r => match Nat.beq k b0 with
    | true => xfrzS b0 c r
    | false => (k, x.frz b0 c) :: xfrzS b0 c r

def xfz1 (b : Nat) (t : Ty) (env : XEnv U) (σ : XSt U) : Option (XEnv U × XSt U) :=
  match lk σ b with
  | some (.arr t' l) => match Cell.as (.slice t) (⟨.slice t', l⟩ : Cell U.D) with
    | some l => some (xfrzE b ⟨.slice t, l⟩ env, xfrzS b ⟨.slice t, l⟩ σ)
    | none => none
  | some (.rows _ r) => match xmks U t r with
    | some l => some (xfrzE b ⟨.slice t, l⟩ env, xfrzS b ⟨.slice t, l⟩ σ)
    | none => none
  | _ => some (env, σ)

def xfz : List (Nat × Ty) → XEnv U → XSt U → Option (XEnv U × XSt U)
  | [], env, σ => some (env, σ)
  | (b, t) :: r, env, σ => match xfz1 b t env σ with
    | some (env', σ') => xfz r env' σ'
    | none => none

section
variable {kk N : Nat} {σ σ' : XSt U} {σ1 : Store} {env env' : XEnv U} {env1 : Env} {G : Nat → Bool} {gl : GL}

theorem lk_frzE {b0 : Nat} {c : Cell U.D} : ∀ {env : XEnv U} {k : Nat}, lk (xfrzE b0 c env) k = (lk env k).map (XV.frz b0 c)
  | [], k => rfl
  | (i, v) :: r, k => by
    simp only [xfrzE, lk]
    cases Nat.beq i k with
    | true => rfl
    | false => exact lk_frzE

theorem lk_frzS {b0 : Nat} {c : Cell U.D} : ∀ {σ : XSt U} {k : Nat}, lk (xfrzS b0 c σ) k = if k = b0 then none else (lk σ k).map (XB.frz b0 c)
  | [], k => by simp [xfrzS, lk]
  | (i, x) :: r, k => by
    simp only [xfrzS]
    cases h : Nat.beq i b0 with
    | true =>
      have := beq_true h; subst this
      simp only [lk_frzS, lk]
      by_cases h2 : k = i
      · rw [if_pos h2, if_pos h2]
      · rw [if_neg h2, if_neg h2]
        cases h3 : Nat.beq i k with
        | true => exact absurd (beq_true h3).symm h2
        | false => rfl
    | false =>
      simp only [lk, lk_frzS]
      cases h3 : Nat.beq i k with
      | true => have := beq_true h3; subst this; simp [beq_false h]
      | false => rfl

theorem XB.frz_dim {b0 : Nat} {c : Cell U.D} {x : XB U} : (x.frz b0 c).dim = x.dim := by cases x <;> rfl

theorem CR.frz {b0 sz : Nat} {c : Cell U.D} {es : List (List T)} {x0 : XB U} (h0 : lk σ b0 = some x0) (hd : x0.dim = some (sz, es.length)) (hc : c.enc U = .slice es) {x : XC U} {d : C} (h : CR N σ x d) :
    CR N (xfrzS b0 c σ) (x.frz b0 c) (d.frz b0 sz es) := by
  cases h with
  | t c => exact .t c
  | ptr b o => exact .ptr b o
  | eptr b t i o =>
    simp only [XC.frz, C.frz]
    cases h : Nat.beq b b0 with
    | true => rw [if_pos (beq_true h)]; exact .dead _
    | false => rw [if_neg (beq_false h)]; exact .eptr b t i o
  | iptr t x o => exact .iptr t x o
  | arr b sz' n hb h =>
    simp only [XC.frz, C.frz]
    cases hbb : Nat.beq b b0 with
    | true =>
      have := beq_true hbb; subst this
      have := h x0 h0 _ hd
      cases this
      rw [if_pos rfl, if_pos ⟨rfl, by omega⟩]
      have : cut es 0 es.length = es := by simp [cut]
      rw [this, ← hc]
      exact .t c
    | false =>
      rw [if_neg (beq_false hbb)]
      refine .arr b sz' n hb fun y hy p hp => ?_
      rw [lk_frzS, if_neg (beq_false hbb)] at hy
      simp only [Option.map_eq_some_iff] at hy
      obtain ⟨y0, hy0, rfl⟩ := hy
      rw [XB.frz_dim] at hp
      exact h y0 hy0 p hp
  | cap0 => exact .cap0
  | nilp => exact .nilp
  | nilfn => exact .nilfn
  | fn f caps => exact .fn f caps
  | dead d => exact .dead _

theorem xfrz_go_get {b0 : Nat} {c : Cell U.D} : ∀ {vs : List (XV U)} {i : Nat}, (XV.frz.go b0 c vs)[i]? = (vs[i]?).map (XV.frz b0 c)
  | [], i => by simp [XV.frz.go]
  | v :: vs, 0 => by simp [XV.frz.go]
  | v :: vs, i + 1 => by simp [XV.frz.go, xfrz_go_get]
theorem xfrz_go_length {b0 : Nat} {c : Cell U.D} : ∀ {vs : List (XV U)}, (XV.frz.go b0 c vs).length = vs.length
  | [] => rfl
  | v :: vs => by simp [XV.frz.go, xfrz_go_length]

theorem VR.frz {b0 sz : Nat} {c : Cell U.D} {es : List (List T)} {x0 : XB U} (h0 : lk σ b0 = some x0) (hd : x0.dim = some (sz, es.length)) (hc : c.enc U = .slice es) {x : XV U} {d : V} (h : VR N σ x d) :
    VR N (xfrzS b0 c σ) (x.frz b0 c) (d.frz b0 sz es) := by
  induction h with
  | c h => exact .c (h.frz h0 hd hc)
  | agg h => exact .agg (All2.map_map (h.imp fun _ _ _ hh => hh.frz h0 hd hc))
  | tup xs ds hl h ih =>
    refine .tup _ _ (by rw [xfrz_go_length, frz_go_length]; exact hl) ?_
    intro i x d hx hd'
    rw [xfrz_go_get, Option.map_eq_some_iff] at hx
    rw [frz_go_get, Option.map_eq_some_iff] at hd'
    obtain ⟨x', hx', rfl⟩ := hx
    obtain ⟨d', hd'', rfl⟩ := hd'
    exact ih i x' d' hx' hd''

theorem frz_one {b0 sz : Nat} {c : Cell U.D} {es : List (List T)} {x0 : XB U} (h0 : lk σ b0 = some x0) (hd : x0.dim = some (sz, es.length)) (hc : c.enc U = .slice es) (hs : sget σ1 b0 = some (.arr sz es)) (he : ER N σ G env env1) (hS : SR N σ σ1) :
    Conv kk N env1 σ1 N (frzEnv b0 sz es env1) (frzSt b0 sz es σ1) ∧ ER N (xfrzS b0 c σ) G (xfrzE b0 c env) (frzEnv b0 sz es env1) ∧ SR N (xfrzS b0 c σ) (frzSt b0 sz es σ1) := by
  refine ⟨Conv.freeze b0 hs, fun k v hk => ?_, fun b x hx => ?_⟩
  · rw [lk_frzE, Option.map_eq_some_iff] at hk
    obtain ⟨v0, h1, rfl⟩ := hk
    obtain ⟨d, h2, h3⟩ := he k v0 h1
    exact ⟨_, by rw [look_frz, h2]; rfl, h3.frz h0 hd hc⟩
  · rw [lk_frzS] at hx
    split at hx
    · cases hx
    · rename_i hne
      simp only [Option.map_eq_some_iff] at hx
      obtain ⟨x', h1, rfl⟩ := hx
      obtain ⟨h2, y, h3, h4⟩ := hS b x' h1
      refine ⟨h2, y.frz b0 sz es, by rw [sget_frz, if_neg hne, h3]; rfl, ?_⟩
      cases h4 with
      | box h4 => exact .box (All2.map_map (h4.imp fun _ _ _ hh => hh.frz h0 hd hc))
      | arr t l => exact .arr t l
      | rows h4 h5 => exact .rows h4 h5

theorem HG.frz {b0 : Nat} {c : Cell U.D} (h : HG gl env G) : HG gl (xfrzE b0 c env) G := by
  refine ⟨h.free, fun k t b hk => ?_⟩
  obtain ⟨y, h1, h2⟩ := h.held k t b hk
  refine ⟨y, ?_, h2⟩
  unfold bval at h1 ⊢
  rw [lk_frzE]
  split at h1
  · rename_i x hx
    rw [hx]
    show some _ = some y
    exact h1
  · cases h1

theorem len_map {α β : Type} {f : α → β} {l : List α} {sz : Nat} : some (sz, l.length) = some (sz, (l.map f).length) := by rw [List.length_map]

theorem xfz1_sound {b : Nat} {t : Ty} (h : xfz1 b t env σ = some (env', σ')) (he : ER N σ G env env1) (hS : SR N σ σ1) :
    ∃ env1' σ1', Conv kk N env1 σ1 N env1' σ1' ∧ ER N σ' G env' env1' ∧ SR N σ' σ1' ∧ (HG gl env G → HG gl env' G) := by
  unfold xfz1 at h
  split at h
  · rename_i t' l' hl
    split at h
    · rename_i l ha
      have e := Cell.as_some ha
      cases e
      cases h
      obtain ⟨_, y, h1, h2⟩ := hS b _ hl
      cases h2
      obtain ⟨k1, k2, k3⟩ := frz_one (kk := kk) (c := ⟨.slice t, l⟩) (es := List.map (t.enc U) l) hl len_map rfl h1 he hS
      exact ⟨_, _, k1, k2, k3, fun hg => hg.frz⟩
    · cases h
  · rename_i sz r hl
    split at h
    · rename_i l ha
      cases h
      obtain ⟨_, y, h1, h2⟩ := hS b _ hl
      cases h2 with
      | @rows _ _ es h2 h3 =>
        have hm := xmks_ts ha h2
        obtain ⟨k1, k2, k3⟩ := frz_one (kk := kk) (c := ⟨.slice t, l⟩) (es := es) hl (by simp only [XB.dim]; rw [h2.length]) (by rw [← hm]; rfl) h1 he hS
        exact ⟨_, _, k1, k2, k3, fun hg => hg.frz⟩
    · cases h
  · cases h; exact ⟨env1, σ1, Conv.refl, he, hS, fun h => h⟩


theorem xfz_sound : ∀ {l : List (Nat × Ty)} {env env' : XEnv U} {σ σ' : XSt U} {env1 : Env} {σ1 : Store}, xfz l env σ = some (env', σ') → ER N σ G env env1 → SR N σ σ1 →
    ∃ env1' σ1', Conv kk N env1 σ1 N env1' σ1' ∧ ER N σ' G env' env1' ∧ SR N σ' σ1' ∧ (HG gl env G → HG gl env' G)
  | [], env, env', σ, σ', env1, σ1, h, he, hS => by simp [xfz] at h; obtain ⟨rfl, rfl⟩ := h; exact ⟨env1, σ1, Conv.refl, he, hS, fun h => h⟩
  | (b, t) :: r, env, env', σ, σ', env1, σ1, h, he, hS => by
    simp only [xfz] at h
    split at h
    · rename_i e s h1
      obtain ⟨e1, s1, k1, k2, k3, k4⟩ := xfz1_sound (kk := kk) (gl := gl) h1 he hS
      obtain ⟨e2, s2, m1, m2, m3, m4⟩ := xfz_sound h k2 k3
      exact ⟨e2, s2, k1.trans m1, m2, m3, fun hg => m4 (k4 hg)⟩
    · cases h

/-! new empty arrays -/

theorem Conv.own {k : Nat} {g : Bool} {sz : Nat} (hk : look env1 k = some (g, .c .cap0)) (hsz : 0 < sz) (hkk : kk ≤ N) : Conv kk N env1 σ1 (N + 1) ((k, g, .c (.arr N sz 0 0)) :: env1) (sput σ1 N (.arr sz [])) := by
  intro Γ nt φ S a w hk0 R
  have R1 := R.newArr hsz (by omega)
  have hN : upd φ N (0, 0) N = (0, 0) := by simp [upd]
  refine ⟨upd φ N (0, 0), S, ⟨R1.sim, fun i g' v hl hg => ?_, fun i g' v hl hg => ?_, fun i g' v hl hg => ?_, R1.sbnd, R1.size, R1.defers, R1.ext, R1.own, R1.fix, R1.kn⟩⟩
  · simp only [look] at hl
    split at hl
    · rename_i e; cases hl; subst e
      obtain ⟨x, hx, hr⟩ := R1.envs _ _ _ hk hg
      refine ⟨x, hx, ?_⟩
      cases hr with
      | c hr =>
        obtain ⟨a, rfl⟩ := hr
        refine .c ⟨a, by rw [hN]; rfl, fun h => absurd (by rw [hN]) h, by rw [hN]; exact Nat.le_refl _⟩
    · exact R1.envs i g' v hl hg
  · simp only [look] at hl
    split at hl
    · rename_i e; cases hl; subst e; exact R1.envn _ _ _ hk hg
    · exact R1.envn i g' v hl hg
  · simp only [look] at hl
    split at hl
    · cases hl; simp [V.bnd, C.bnd, lt]
    · exact R1.ebnd i g' v hl hg

theorem Conv.ownB {b j : Nat} {sz : Nat} {cs : List C} (hb : sget σ1 b = some (.box cs)) (hj : cs[j]? = some .cap0) (hbN : b < N) (hsz : 0 < sz) (hkk : kk ≤ N) :
    Conv kk N env1 σ1 (N + 1) env1 (sput (sput σ1 N (.arr sz [])) b (.box (cs.set j (.arr N sz 0 0)))) := by
  intro Γ nt φ S a w hk0 R
  have R1 := R.newArr hsz (by omega)
  have hN : upd φ N (0, 0) N = (0, 0) := by simp [upd]
  have hb1 : sget (sput σ1 N (.arr sz [])) b = some (.box cs) := by rw [sget_sput, if_neg (by omega)]; exact hb
  have hget : ∀ c x, sget (sput (sput σ1 N (.arr sz [])) b (.box (cs.set j (.arr N sz 0 0)))) c = some x → (c = b ∧ x = .box (cs.set j (.arr N sz 0 0))) ∨ sget (sput σ1 N (.arr sz [])) c = some x := by
    intro c x hx
    rw [sget_sput] at hx
    split at hx
    · rename_i e; cases hx; exact .inl ⟨e.symm, rfl⟩
    · exact .inr hx
  have hget2 : ∀ c x, sget (sput (sput σ1 N (.arr sz [])) b (.box (cs.set j (.arr N sz 0 0)))) c = some x → ∃ y, sget (sput σ1 N (.arr sz [])) c = some y := by
    intro c x hx
    rcases hget c x hx with ⟨rfl, _⟩ | h
    · exact ⟨_, hb1⟩
    · exact ⟨_, h⟩
  refine ⟨upd φ N (0, 0), S, ⟨⟨fun c x hx => ?_, fun c c' x y hx hy hne => ?_, R1.sim.st⟩, R1.envs, R1.envn, R1.ebnd, fun c x hx => ?_, R1.size, R1.defers, R1.ext, fun c x hx => ?_, R1.fix, R1.kn⟩⟩
  · rcases hget c x hx with ⟨rfl, rfl⟩ | h
    · obtain ⟨h0, vs, E, h1, h2, h3⟩ := R1.sim.blk _ _ hb1
      refine ⟨h0, vs, E, h1, ?_, h3⟩
      obtain ⟨v, hv, hr⟩ := h2.get hj
      obtain ⟨a, rfl⟩ := hr
      have := All2.set (i := j) h2 (a := .arr N sz 0 0) (b := .slice a 0 0) ⟨a, by rw [hN]; rfl, fun h => absurd (by rw [hN]) h, by rw [hN]; exact Nat.le_refl _⟩
      have hse : vs.set j (.slice a 0 0) = vs := by
        apply List.ext_getElem? 
        intro i
        rw [List.getElem?_set]
        split
        · rename_i e; subst e; split
          · exact hv.symm
          · rename_i hlt; exact absurd (List.getElem?_eq_some_iff.1 hv).1 hlt
        · rfl
      rw [hse] at this
      exact this
    · exact R1.sim.blk c x h
  · obtain ⟨x', hx'⟩ := hget2 c x hx
    obtain ⟨y', hy'⟩ := hget2 c' y hy
    exact R1.sim.inj c c' x' y' hx' hy' hne
  · rcases hget c x hx with ⟨rfl, rfl⟩ | h
    · refine ⟨(R1.sbnd _ _ hb1).1, ?_⟩
      have := (R1.sbnd _ _ hb1).2
      simp only [Blk.bnd, List.all_eq_true] at this ⊢
      intro d hd
      rcases List.mem_or_eq_of_mem_set hd with h | h
      · exact this d h
      · rw [h]; simp [C.bnd, lt]
    · exact R1.sbnd c x h
  · obtain ⟨x', hx'⟩ := hget2 c x hx
    exact R1.own c x' hx'

/-- where an empty slice becomes an array: in a slot, in a box -/
inductive Pos where
  | slot (k : Nat)
  | cell (b j : Nat)

def xown1 (p : Pos) (t : Ty) (env : XEnv U) (σ : XSt U) (N : Nat) : Option (XEnv U × XSt U) :=
  match p with
  | .slot k => match lk env k with
    | some (.c .cap0) => some ((k, .c (.arr N)) :: env, pt σ N (.arr t []))
    | _ => some (env, σ)
  | .cell b j => match lk σ b with
    | some (.box cs) => match cs[j]? with
      | some .cap0 => some (env, pt (pt σ N (.arr t [])) b (.box (cs.set j (.arr N))))
      | _ => some (env, σ)
    | _ => none

def xown : List (Pos × Ty) → XEnv U → XSt U → Nat → Option (XEnv U × XSt U × Nat)
  | [], env, σ, N => some (env, σ, N)
  | (p, t) :: r, env, σ, N => match xown1 p t env σ N with
    | some (env', σ') => xown r env' σ' (N + 1)
    | none => none

theorem xown1_sound {p : Pos} {t : Ty} (h : xown1 p t env σ N = some (env', σ')) (he : ER N σ (fun _ => true) env env1) (hS : SR N σ σ1) (hkk : kk ≤ N) :
    ∃ env1' σ1', Conv kk N env1 σ1 (N + 1) env1' σ1' ∧ ER (N + 1) σ' (fun _ => true) env' env1' ∧ SR (N + 1) σ' σ1' := by
  have same : ∃ env1' σ1', Conv kk N env1 σ1 (N + 1) env1' σ1' ∧ ER (N + 1) σ (fun _ => true) env env1' ∧ SR (N + 1) σ σ1' := by
    refine ⟨env1, sput σ1 N (.arr 1 []), fun Γ nt φ S a w hk R => ⟨_, S, R.newArr (by omega) (by omega)⟩, he.mono (Keep.more (by omega)), fun b x hx => ?_⟩
    obtain ⟨h1, y, h2, h3⟩ := hS b x hx
    exact ⟨by omega, y, by rw [sget_sput, if_neg (by omega)]; exact h2, h3.mono (Keep.more (by omega))⟩
  unfold xown1 at h
  split at h
  · rename_i k
    split at h
    · rename_i hk
      cases h
      obtain ⟨v1, h1, h2⟩ := he k _ hk
      have := h2.cap0_inv; subst this
      have kp : Keep N σ (N + 1) (pt σ N (.arr t [])) := keep_new (by omega)
      refine ⟨_, _, Conv.own h1 (Ty.sz_pos (t := t) (U := U)) hkk, fun i v hi => ?_, hS.put (by omega) kp (.arr t [])⟩
      simp only [lk] at hi
      simp only [look]
      split at hi
      · rename_i hb
        cases hi
        rw [if_pos (beq_true hb)]
        refine ⟨_, rfl, .c (.arr N _ _ (by omega) fun x hx p hp => ?_)⟩
        rw [lk_pt, if_pos rfl] at hx; cases hx
        simp [XB.dim] at hp; exact hp.symm
      · rename_i hb
        rw [if_neg (beq_false hb)]
        exact (he.mono kp) i v hi
    · cases h; exact same
  · rename_i b j
    split at h
    · rename_i cs hcs
      split at h
      · rename_i hj
        cases h
        obtain ⟨hbN, y, h1, h2⟩ := hS b _ hcs
        cases h2 with
        | @box _ ds h2 =>
          obtain ⟨d, hd, hr⟩ := h2.get hj
          cases hr
          have kp : Keep N σ (N + 1) (pt σ N (.arr t [])) := keep_new (by omega)
          have hcs' : lk (pt σ N (.arr t [])) b = some (.box cs) := by rw [lk_pt, if_neg (by omega)]; exact hcs
          have kp2 : Keep (N + 1) (pt σ N (.arr t [])) (N + 1) (pt (pt σ N (.arr t [])) b (.box (cs.set j (.arr N)))) := keep_put (Nat.le_refl _) hcs' (fun p h => by simp [XB.dim] at h)
          refine ⟨_, _, Conv.ownB h1 hd hbN (Ty.sz_pos (t := t) (U := U)) hkk, (he.mono kp).mono kp2, (hS.put (by omega) kp (.arr t [])).put (by omega) kp2 (.box ?_)⟩
          refine All2.set (h2.imp fun _ _ _ h => (h.mono kp).mono kp2) (.arr N _ _ (by omega) fun x hx p hp => ?_)
          rw [lk_pt, if_neg (by omega), lk_pt, if_pos rfl] at hx
          cases hx
          simp [XB.dim] at hp; exact hp.symm
      · cases h; exact same
    · cases h

theorem xown_sound : ∀ {l : List (Pos × Ty)} {env env' : XEnv U} {σ σ' : XSt U} {N N' : Nat} {env1 : Env} {σ1 : Store}, xown l env σ N = some (env', σ', N') → ER N σ (fun _ => true) env env1 → SR N σ σ1 → kk ≤ N →
    ∃ env1' σ1', Conv kk N env1 σ1 N' env1' σ1' ∧ ER N' σ' (fun _ => true) env' env1' ∧ SR N' σ' σ1' ∧ N ≤ N'
  | [], env, env', σ, σ', N, N', env1, σ1, h, he, hS, hkk => by simp [xown] at h; obtain ⟨rfl, rfl, rfl⟩ := h; exact ⟨env1, σ1, Conv.refl, he, hS, Nat.le_refl _⟩
  | (p, t) :: r, env, env', σ, σ', N, N', env1, σ1, h, he, hS, hkk => by
    simp only [xown] at h
    split at h
    · rename_i e s h1
      obtain ⟨e1, s1, k1, k2, k3⟩ := xown1_sound h1 he hS hkk
      obtain ⟨e2, s2, m1, m2, m3, m4⟩ := xown_sound h k2 k3 (by omega)
      exact ⟨e2, s2, k1.trans m1, m2, m3, by omega⟩
    · cases h

end
end Go.Proofs.Ytkdepbmeaiefeaa.Shv
