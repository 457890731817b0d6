/- Typed states over the abstract machine: points, specifications of functions and loops, regions. -/
import Derived.Test.YtkdepbmeaiefeaaShvY6
namespace Go.Proofs.Ytkdepbmeaiefeaa.Shv
set_option linter.all false
open Go

variable {U : Uni}

/-! typed tuples -/

def HsC (D : Nat → Type) : Ty → List Ty → Type
  | t, [] => t.den D
  | t, u :: r => t.den D × HsC D u r

def Hs (D : Nat → Type) : List Ty → Type
  | [] => Unit
  | t :: r => HsC D t r

def HsC.cells (D : Nat → Type) : (t : Ty) → (ts : List Ty) → HsC D t ts → List (Cell D)
  | t, [], x => [⟨t, x⟩]
  | t, u :: r, x => ⟨t, x.1⟩ :: HsC.cells D u r x.2

def Hs.cells (D : Nat → Type) : (ts : List Ty) → Hs D ts → List (Cell D)
  | [], _ => []
  | t :: r, x => HsC.cells D t r x

def lone1 {α : Type} : List α → Option α
  | [c] => some c
  | _ => none
def hd1 {α : Type} : List α → Option (α × List α)
  | [] => none
  | c :: r => some (c, r)

def HsC.dec (D : Nat → Type) : (t : Ty) → (ts : List Ty) → List (Cell D) → Option (HsC D t ts)
  | t, [], l => match lone1 l with
    | some c => c.as t
    | none => none
  | t, u :: r, l => match hd1 l with
    | some p => match p.1.as t with
      | some x => match HsC.dec D u r p.2 with
        | some y => some (x, y)
        | none => none
      | none => none
    | none => none

def Hs.dec (D : Nat → Type) : (ts : List Ty) → List (Cell D) → Option (Hs D ts)
  | [], l => match l with
    | [] => some ()
    | _ => none
  | t :: r, l => HsC.dec D t r l

theorem lone1_some {α : Type} {l : List α} {c : α} (h : lone1 l = some c) : l = [c] := by
  unfold lone1 at h; split at h
  · cases h; rfl
  · cases h
theorem hd1_some {α : Type} {l : List α} {c : α × List α} (h : hd1 l = some c) : l = c.1 :: c.2 := by
  unfold hd1 at h; split at h
  · cases h
  · cases h; rfl

theorem HsC.dec_cells {D : Nat → Type} : ∀ {ts : List Ty} {t : Ty} {a : List (Cell D)} {h : HsC D t ts}, HsC.dec D t ts a = some h → HsC.cells D t ts h = a
  | [], t, a, h, e => by
    unfold HsC.dec at e
    split at e
    · rename_i c hc
      rw [lone1_some hc, Cell.as_some (t := t) (x := h) e]; rfl
    · cases e
  | u :: r, t, a, h, e => by
    unfold HsC.dec at e
    split at e
    · rename_i p hp
      split at e
      · rename_i x hx
        split at e
        · rename_i y hy
          cases e
          have := HsC.dec_cells hy
          show ⟨t, x⟩ :: HsC.cells D u r y = a
          rw [this, hd1_some hp, ← Cell.as_some hx]
        · cases e
      · cases e
    · cases e

theorem Hs.dec_cells {D : Nat → Type} : ∀ {ts : List Ty} {a : List (Cell D)} {h : Hs D ts}, Hs.dec D ts a = some h → Hs.cells D ts h = a
  | [], [], h, e => rfl
  | [], _ :: _, h, e => by cases (show (none : Option Unit) = some h from e)
  | t :: r, a, h, e => HsC.dec_cells e

def HsC.dfl (U : Uni) : (t : Ty) → (ts : List Ty) → HsC U.D t ts
  | t, [] => t.dfl U
  | t, u :: r => (t.dfl U, HsC.dfl U u r)

def Hs.dfl (U : Uni) : (ts : List Ty) → Hs U.D ts
  | [] => ()
  | t :: r => HsC.dfl U t r

/-! scanning: which block is which, which arrays are frozen; nothing rests on it -/

abbrev Sc := List (Nat × Nat) × List (Nat × Ty)

def scC : SC → XC U → Sc → Sc
  | .ptr j _, .ptr b _, s => ((j, b) :: s.1, s.2)
  | .eptr j _ _, .eptr b _ _ _, s => ((j, b) :: s.1, s.2)
  | .arr j, .arr b, s => ((j, b) :: s.1, s.2)
  | .fn _ js, .fn _ cs, s => (js.zip cs ++ s.1, s.2)
  | .hole (.slice t), .arr b, s => (s.1, (b, t) :: s.2)
  | _, _, s => s

def scCs : List SC → List (XC U) → Sc → Sc
  | a :: as, x :: xs, s => scCs as xs (scC a x s)
  | _, _, s => s

def scR : List Ty → List (XC U) → Sc → Sc
  | .slice t :: ts, .arr b :: xs, s => scR ts xs (s.1, (b, t) :: s.2)
  | _ :: ts, _ :: xs, s => scR ts xs s
  | _, _, s => s

mutual
def scV : SV → XV U → Sc → Sc
  | .c a, .c x, s => scC a x s
  | .agg l, .agg xs, s => scCs l xs s
  | .row n, .agg xs, s => scR (U.tys n) xs s
  | .tup l, .tup xs, s => scVs l xs s
  | _, _, s => s
def scVs : List SV → List (XV U) → Sc → Sc
  | a :: as, x :: xs, s => scVs as xs (scV a x s)
  | _, _, s => s
end

def scE (env : XEnv U) : List (Nat × SV) → Sc → Sc
  | [], s => s
  | (k, a) :: r, s => match lk env k with
    | some x => scE env r (scV a x s)
    | none => scE env r s

def scB : SB → XB U → Sc → Sc
  | .box l, .box xs, s => scCs l xs s
  | .brow n, .box xs, s => scR (U.tys n) xs s
  | _, _, s => s

/-- the blocks, by their numbers in the shape -/
def scS (σ : XSt U) (kk : Nat) : Nat → List SB → Sc → List Nat → List Nat × List (Nat × Ty)
  | _, [], s, acc => (acc.reverse, s.2)
  | j, a :: r, s, acc =>
    let b := match lk s.1 j with
      | some b => b
      | none => match Nat.ble (j + 1) kk with
        | true => j
        | false => 1000000 + j
    match lk σ b with
    | some x => scS σ kk (j + 1) r (scB a x s) (b :: acc)
    | none => scS σ kk (j + 1) r s (b :: acc)

def nodupB : List Nat → Bool
  | [] => true
  | a :: l => (l.all fun b => !(Nat.beq a b)) && nodupB l

theorem nodupB_some : ∀ {l : List Nat}, nodupB l = true → l.Nodup
  | [], _ => List.nodup_nil
  | a :: l, h => by
    simp only [nodupB, Bool.and_eq_true, List.all_eq_true, Bool.not_eq_true'] at h
    refine List.nodup_cons.2 ⟨fun hm => ?_, nodupB_some h.2⟩
    have h3 := h.1 a hm
    rw [Nat.beq_refl] at h3
    cases h3

/-- a state is read by a shape -/
def xgoto (kk : Nat) (own : List (Pos × Ty)) (sh : Shape) (ts : List Ty) (env : XEnv U) (σ : XSt U) (N : Nat) : Option (Hs U.D ts) :=
  match xown own env σ N with
  | none => none
  | some (env, σ, _) => match scS σ kk 0 sh.st (scE env sh.env ([], [])) [] with
    | (bs, fz) => match xfz fz env σ with
      | none => none
      | some (env, σ) => match nodupB bs && (keeps kk bs && Nat.beq bs.length sh.st.length) with
        | false => none
        | true => match chk bs sh env σ with
          | none => none
          | some a => Hs.dec U.D ts a

section
variable {kk N : Nat} {σ : XSt U} {σ1 : Store} {env : XEnv U} {env1 : Env}

theorem xgoto_sound {own : List (Pos × Ty)} {sh : Shape} {ts : List Ty} {h : Hs U.D ts} (hx : xgoto kk own sh ts env σ N = some h) (he : ER N σ (fun _ => true) env env1) (hS : SR N σ σ1) (hkk : kk ≤ N) :
    ∃ env1' σ1', Conv kk N env1 σ1 sh.st.length env1' σ1' ∧ ER sh.st.length (fil U sh (Hs.cells U.D ts h)).2 (fun _ => true) (fil U sh (Hs.cells U.D ts h)).1 env1' ∧ SR sh.st.length (fil U sh (Hs.cells U.D ts h)).2 σ1' ∧ kk ≤ sh.st.length := by
  unfold xgoto at hx
  split at hx
  · cases hx
  · rename_i env2 σ2 N2 h1
    obtain ⟨e1, s1, c1, he1, hS1, hN⟩ := xown_sound h1 he hS hkk
    split at hx
    rename_i bs fz _
    split at hx
    · cases hx
    · rename_i env3 σ3 h2
      obtain ⟨e2, s2, c2, he2, hS2, _⟩ := xfz_sound (kk := kk) (gl := []) h2 he1 hS1
      split at hx
      · cases hx
      · rename_i hb
        simp only [Bool.and_eq_true] at hb
        obtain ⟨hb1, hb2, hb3⟩ := hb
        have hlen := beq_true hb3
        split at hx
        · cases hx
        · rename_i a ha
          obtain ⟨e3, s3, c3, he3, hS3⟩ := chk_sound (nodupB_some hb1) hb2 he2 hS2 ha
          rw [Hs.dec_cells hx, ← hlen]
          refine ⟨e3, s3, c1.trans (c2.trans c3), he3, hS3, ?_⟩
          -- the kept blocks are among the listed ones
          by_cases hk0 : kk = 0
          · omega
          · have hmem : (bs[kk - 1]? == some (kk - 1)) = true := by
              unfold keeps at hb2
              rw [List.all_eq_true] at hb2
              exact hb2 (kk - 1) (List.mem_range.2 (by omega))
            have h4 : bs[kk - 1]? = some (kk - 1) := by simpa using hmem
            have := (List.getElem?_eq_some_iff.1 h4).1
            omega
end

/-! functions -/

structure FSpec (U : Uni) where
  f : Nat
  sa : List SV
  st : List SB
  ts : List Ty
  sr : SV
  rst : List SB
  us : List Ty
  F : Hs U.D ts → Option (Hs U.D us)

def FSpec.args (s : FSpec U) (h : Hs U.D s.ts) : List (XV U) := (filVs s.sa (Hs.cells U.D s.ts h)).1
def FSpec.ast (s : FSpec U) (h : Hs U.D s.ts) : XSt U := filS 0 s.st (filVs s.sa (Hs.cells U.D s.ts h)).2
def FSpec.res (s : FSpec U) (r : Hs U.D s.us) : XV U := (filV s.sr (Hs.cells U.D s.us r)).1
def FSpec.rest (s : FSpec U) (r : Hs U.D s.us) : XSt U := filS 0 s.rst (filV s.sr (Hs.cells U.D s.us r)).2

def FSnd (P : Program) (s : FSpec U) : Prop :=
  ∀ h r, s.F h = some r → ∀ args1 σ1, All2 (VR s.st.length (s.ast h)) (s.args h) args1 → SR s.st.length (s.ast h) σ1 →
    Con P s.f args1 σ1 s.st.length (fun r1 σ1' N' => N' = s.rst.length ∧ VR N' (s.rest r) (s.res r) r1 ∧ SR N' (s.rest r) σ1')

/-- values without blocks -/
def XC.solid : XC U → Bool
  | .t _ | .iptr .. | .cap0 | .nilp | .nilfn => true
  | .fn _ [] => true
  | _ => false

def solidV : XV U → Bool
  | .c x => x.solid
  | .agg cs => cs.all XC.solid
  | .tup vs => go vs
where go : List (XV U) → Bool
  | [] => true
  | v :: vs => solidV v && go vs

def XC.conc : XC U → C
  | .t c => .t (c.enc U)
  | .iptr ty x o => .iptr (ty.enc U x) o
  | .cap0 => .cap0
  | .nilp => .nilp
  | .nilfn => .nilfn
  | .fn f caps => .fn f caps
  | _ => .dead

def concV : XV U → V
  | .c x => .c x.conc
  | .agg cs => .agg (cs.map XC.conc)
  | .tup vs => .tup (go vs)
where go : List (XV U) → List V
  | [] => []
  | v :: vs => concV v :: go vs

theorem conc_cr {N : Nat} {σ : XSt U} {x : XC U} (h : x.solid = true) : CR N σ x x.conc ∧ (∀ d, CR N σ x d → d = x.conc) ∧ ∀ n, x.conc.bnd n = true := by
  cases x <;> simp [XC.solid] at h
  · exact ⟨.t _, fun d hd => by cases hd; rfl, fun _ => rfl⟩
  · exact ⟨.iptr _ _ _, fun d hd => by cases hd; rfl, fun _ => rfl⟩
  · exact ⟨.cap0, fun d hd => by cases hd; rfl, fun _ => rfl⟩
  · exact ⟨.nilp, fun d hd => by cases hd; rfl, fun _ => rfl⟩
  · exact ⟨.nilfn, fun d hd => by cases hd; rfl, fun _ => rfl⟩
  · rename_i f caps
    cases caps with
    | nil => exact ⟨.fn _ _, fun d hd => by cases hd; rfl, fun _ => rfl⟩
    | cons => simp [XC.solid] at h

theorem conc_go_get : ∀ {vs : List (XV U)} {i : Nat}, (concV.go vs)[i]? = (vs[i]?).map concV
  | [], i => by simp [concV.go]
  | v :: vs, 0 => by simp [concV.go]
  | v :: vs, i + 1 => by simp [concV.go, conc_go_get]
theorem conc_go_length : ∀ {vs : List (XV U)}, (concV.go vs).length = vs.length
  | [] => rfl
  | v :: vs => by simp [concV.go, conc_go_length]
theorem solid_go_get : ∀ {vs : List (XV U)} {i : Nat} {v : XV U}, solidV.go vs = true → vs[i]? = some v → solidV v = true
  | [], i, v, _, h => by simp at h
  | x :: vs, 0, v, hs, h => by simp [solidV.go] at hs; simp at h; subst h; exact hs.1
  | x :: vs, i + 1, v, hs, h => by simp [solidV.go] at hs; exact solid_go_get hs.2 (by simpa using h)

theorem aux {N : Nat} {σ : XSt U} : ∀ (cs : List (XC U)), (∀ x, x ∈ cs → x.solid = true) → All2 (CR N σ) cs (cs.map XC.conc)
  | [], _ => .nil
  | a :: l, h => .cons (conc_cr (h a (by simp))).1 (aux l fun x hx => h x (by simp [hx]))

theorem conc_vr {N : Nat} {σ : XSt U} : ∀ {x : XV U}, solidV x = true → VR N σ x (concV x) ∧ ∀ n, (concV x).bnd n = true
  | .c x, h => by
    simp only [solidV] at h
    obtain ⟨h1, _, h3⟩ := conc_cr (N := N) (σ := σ) h
    exact ⟨.c h1, fun n => h3 n⟩
  | .agg cs, h => by
    simp only [solidV, List.all_eq_true] at h
    refine ⟨.agg ?_, fun n => ?_⟩
    · exact aux cs h
    · simp only [concV, V.bnd, List.all_map, List.all_eq_true]
      intro c hc; exact (conc_cr (N := N) (σ := σ) (h c hc)).2.2 n
  | .tup vs, h => by
    simp only [solidV] at h
    have := go (N := N) (σ := σ) vs h
    refine ⟨.tup _ _ (by rw [conc_go_length]) fun i x d hx hd => ?_, fun n => ?_⟩
    · rw [conc_go_get, hx] at hd
      simp at hd; subst hd
      exact this.1 x (List.mem_of_getElem? hx)
    · simp only [concV, V.bnd]; exact this.2 n
where go {N : Nat} {σ : XSt U} : ∀ (vs : List (XV U)), solidV.go vs = true → (∀ x, x ∈ vs → VR N σ x (concV x)) ∧ ∀ n, V.bnd.V.bnds n (concV.go vs) = true
  | [], _ => ⟨by simp, fun _ => rfl⟩
  | v :: vs, h => by
    simp only [solidV.go, Bool.and_eq_true] at h
    obtain ⟨h1, h2⟩ := conc_vr (N := N) (σ := σ) h.1
    obtain ⟨h3, h4⟩ := go (N := N) (σ := σ) vs h.2
    refine ⟨fun x hx => ?_, fun n => by simp only [concV.go, V.bnd.V.bnds, Bool.and_eq_true]; exact ⟨h2 n, h4 n⟩⟩
    rcases List.mem_cons.1 hx with rfl | hx
    · exact h1
    · exact h3 x hx

theorem conc_eq {N : Nat} {σ : XSt U} {x : XV U} {d : V} (h : VR N σ x d) : solidV x = true → d = concV x := by
  induction h with
  | c h => intro hs; simp only [solidV] at hs; rw [(conc_cr (N := N) (σ := σ) hs).2.1 _ h]; rfl
  | @agg xs ds h =>
    intro hs
    simp only [solidV, List.all_eq_true] at hs
    simp only [concV]
    congr 1
    induction h with
    | nil => rfl
    | cons h1 h2 ih =>
      rw [List.map_cons, ← (conc_cr (N := N) (σ := σ) (hs _ (by simp))).2.1 _ h1, ← ih (fun x hx => hs x (by simp [hx]))]
  | tup xs ds hl h ih =>
    intro hs
    simp only [solidV] at hs
    simp only [concV]
    congr 1
    apply List.ext_getElem?
    intro i
    rw [conc_go_get]
    cases hx : xs[i]? with
    | none =>
      have := List.getElem?_eq_none_iff.1 hx
      simp; omega
    | some x =>
      have hi := (List.getElem?_eq_some_iff.1 hx).1
      have hd := List.getElem?_eq_getElem (l := ds) (i := i) (by omega)
      rw [hd, Option.map_some]
      congr 1
      exact ih i x _ hx hd (solid_go_get hs hx)

end Go.Proofs.Ytkdepbmeaiefeaa.Shv
