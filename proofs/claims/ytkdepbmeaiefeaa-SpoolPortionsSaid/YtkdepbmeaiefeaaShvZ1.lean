/- From a reading of the arguments to typed data, and the contract of a law's function. -/
import Derived.Test.YtkdepbmeaiefeaaShvY12
import Derived.ChangeArms
import Derived.ChangeStays
import Derived.ChangeSame
import Derived.SizedLaws
import Derived.Below
import Derived.WalkKit
import Derived.ProofKit
import Derived.OpenShut
namespace Go.Proofs.Ytkdepbmeaiefeaa.Shv
set_option linter.all false
open Go Go.ChangeShapes Go.WideShapes Go.RowKit

variable {U : Uni}

/-- data as an argument can be: whole numbers within their kind, lengths that a machine can hold -/
inductive WF (U : Uni) : Cell U.D → Prop
  | bool (b : Bool) : WF U ⟨.bool, b⟩
  | int (k : IntKind) (n : Int) (h : (Lit.int k n).wf = true) : WF U ⟨.int k, n⟩
  | str (s : List UInt8) (h : s.length ≤ reachBytes) : WF U ⟨.str, s⟩
  | slice (t : Ty) (l : List (t.den U.D)) (h : l.length ≤ reachBytes) (hl : ∀ x, x ∈ l → ∀ c, c ∈ t.row U x → WF U c) : WF U ⟨.slice t, l⟩

def Uni.Total (U : Uni) : Prop := ∀ n (l : List (Cell U.D)), l.map Cell.ty = U.tys n → ∃ x, U.make n l = some x

def tysEq : List Ty → List Ty → Bool
  | [], [] => true
  | a :: l, b :: m => Ty.beq a b && tysEq l m
  | _, _ => false

theorem tysEq_eq : ∀ {l m : List Ty}, tysEq l m = true → l = m
  | [], [], _ => rfl
  | a :: l, b :: m, h => by
    simp only [tysEq, Bool.and_eq_true] at h
    rw [Ty.beq_eq h.1, tysEq_eq h.2]
  | [], _ :: _, h => by cases h
  | _ :: _, [], h => by cases h

/-- the types of the cells of a row of fields -/
def flatFs (P : Program) (g : TypeId → Option (List Ty)) : List Field → Nat → Nat → Option (List Ty)
  | [], off, tot => match Nat.beq off tot with
    | true => some []
    | false => none
  | f :: r, off, tot => match g f.type with
    | none => none
    | some a => match Nat.beq f.offset off && Nat.beq (P.cellsOf f.type) a.length with
      | false => none
      | true => match flatFs P g r (off + a.length) tot with
        | none => none
        | some b => some (a ++ b)

/-- the types of the cells of a row of a type of the program; 'st': the numbers of the structs -/
def flat (P : Program) (U : Uni) (st : TypeId → Option Nat) : Nat → TypeId → Option (List Ty)
  | 0, _ => none
  | n + 1, t => match P.underlying t with
    | some .bool => some [.bool]
    | some (.int k) => some [.int k]
    | some .string => some [.str]
    | some (.slice e) => match flat P U st n e with
      | none => none
      | some a => match Nat.ble 1 (P.bytesOf e) with
        | false => none
        | true => match st e with
          | some m => match tysEq a (U.tys m) with
            | true => some [.slice (.nm m)]
            | false => none
          | none => match a with
            | [ty] => match ty.isNm with
              | true => none
              | false => some [.slice ty]
            | _ => none
    | some (.struct fs) => flatFs P (flat P U st n) fs.toList 0 (P.cellsOf t)
    | _ => none

theorem exists_list {α : Type} {R : Nat → α → Prop} : ∀ (n : Nat), (∀ i, i < n → ∃ x, R i x) → ∃ l : List α, l.length = n ∧ ∀ (i : Nat) x, l[i]? = some x → R i x
  | 0, _ => ⟨[], rfl, by simp⟩
  | n + 1, h => by
    obtain ⟨l, hl, hr⟩ := exists_list n fun i hi => h i (by omega)
    obtain ⟨x, hx⟩ := h n (by omega)
    refine ⟨l ++ [x], by simp [hl], fun i y hy => ?_⟩
    by_cases hi : i < l.length
    · rw [List.getElem?_append_left hi] at hy; exact hr i y hy
    · rw [List.getElem?_append_right (by omega)] at hy
      have : i = n := by
        have := (List.getElem?_eq_some_iff.1 hy).1
        simp at this; omega
      subst this
      rw [hl] at hy; simp at hy; subst hy; exact hx

section
variable {H : Type} {enc : TypeId × Value → H} {P : Program} {w : World}

abbrev Old (w : World) : Stab := fun b _ => b < w.heap.size

/-- a row of cells reads as typed cells -/
structure Rd (U : Uni) (w : World) (tys : List Ty) (cs : List Value) (l : List (Cell U.D)) : Prop where
  ty : l.map Cell.ty = tys
  wf : ∀ c, c ∈ l → WF U c
  rt : All2 (fun c v => RT w (Old w) (Cell.enc U c) v) l cs

theorem rd_one {t : Ty} {x : t.den U.D} {v : Value} (h1 : WF U ⟨t, x⟩) (h2 : RT w (Old w) (Cell.enc U ⟨t, x⟩) v) : Rd U w [t] [v] [⟨t, x⟩] :=
  ⟨rfl, by simpa using h1, .cons h2 .nil⟩

theorem weightsAll_mem {t : TypeId} : ∀ {ds : List (DataW H)} {d : DataW H}, d ∈ ds → ∀ n ∈ d.weights P t, n ∈ DataW.weightsAll P t ds
  | d0 :: ds, d, hd, n, hn => by
    simp only [DataW.weightsAll, List.mem_append]
    rcases List.mem_cons.1 hd with rfl | hd
    · exact .inl hn
    · exact .inr (weightsAll_mem hd n hn)

theorem rd_fields {g : TypeId → Option (List Ty)} {cs : List Value} : ∀ {fs : List Field} {off tot : Nat} {tys : List Ty},
    (∀ f, f ∈ fs → ∀ a, g f.type = some a → ∃ l, Rd U w a ((cs.drop f.offset).take (P.cellsOf f.type)) l) →
    flatFs P g fs off tot = some tys → cs.length = tot → ∃ l, Rd U w tys (cs.drop off) l
  | [], off, tot, tys, _, h, hl => by
    simp only [flatFs] at h
    split at h
    · rename_i e
      cases h
      have := beq_true e
      refine ⟨[], rfl, by simp, ?_⟩
      rw [List.drop_eq_nil_of_le (by omega)]
      exact .nil
    · cases h
  | f :: r, off, tot, tys, hg, h, hl => by
    simp only [flatFs] at h
    split at h
    · cases h
    · rename_i a ha
      split at h
      · cases h
      · rename_i hb
        simp only [Bool.and_eq_true] at hb
        have h1 := beq_true hb.1
        have h2 := beq_true hb.2
        split at h
        · cases h
        · rename_i b hb2
          cases h
          obtain ⟨l1, hl1⟩ := hg f (by simp) a ha
          obtain ⟨l2, hl2⟩ := rd_fields (fun f hf => hg f (by simp [hf])) hb2 hl
          refine ⟨l1 ++ l2, by simp [hl1.ty, hl2.ty], ?_, ?_⟩
          · intro c hc
            rcases List.mem_append.1 hc with hc | hc
            · exact hl1.wf c hc
            · exact hl2.wf c hc
          · have e : cs.drop off = (cs.drop off).take a.length ++ cs.drop (off + a.length) := by
              rw [← List.drop_drop, List.take_append_drop]
            rw [e]
            refine All2.append ?_ hl2.rt
            have := hl1.rt
            rw [h1, h2] at this
            exact this

theorem cells_get {a : Addr} {n : Nat} {cs : List Value} (h : w.cells? 0 a n = some cs) : cs.length = n ∧ ∀ j, j < n → w.cell? (a.add j) = cs[j]? := by
  unfold World.cells? at h
  rw [if_pos (Nat.zero_le _)] at h
  exact ⟨by simpa using mapM_some_length h, fun j hj => mapM_some_get h j j (by simp [hj])⟩

theorem cell_spot {a : Addr} {v : Value} (h : w.cell? a = some v) : a.spot = none ∧ a.block < w.heap.size := by
  unfold World.cell? at h
  split at h
  · rename_i hb
    split at h
    · cases h
    · rename_i hs
      refine ⟨by simpa using hs, (Array.getElem?_eq_some_iff.1 hb).1⟩
  · cases h

theorem add_add {a : Addr} {i j : Nat} (h : a.spot = none) : (a.add i).add j = ⟨a.block, a.off + i + j, none⟩ := by
  obtain ⟨b, o, sp⟩ := a
  dsimp only at h; subst h
  unfold Addr.add
  by_cases hi : i = 0 <;> by_cases hj : j = 0 <;> simp [hi, hj]

theorem mk_of (tot : U.Total) {t : Ty} {l : List (Cell U.D)} (h : l.map Cell.ty = t.cells U) : ∃ x, t.row U x = l := by
  have one : ∀ t : Ty, l.map Cell.ty = [t] → ∃ x : t.den U.D, l = [⟨t, x⟩] := by
    intro t h
    match l, h with
    | [⟨t', x⟩], h => simp at h; subst h; exact ⟨x, rfl⟩
  cases t with
  | nm n =>
    obtain ⟨x, hx⟩ := tot n l h
    exact ⟨x, U.mk_eq n l x hx⟩
  | bool => obtain ⟨x, hx⟩ := one _ h; exact ⟨x, hx.symm⟩
  | int k => obtain ⟨x, hx⟩ := one _ h; exact ⟨x, hx.symm⟩
  | str => obtain ⟨x, hx⟩ := one _ h; exact ⟨x, hx.symm⟩
  | slice t => obtain ⟨x, hx⟩ := one _ h; exact ⟨x, hx.symm⟩

/-- the element type of a slice type that has been read -/
theorem flat_slice {st : TypeId → Option Nat} {n : Nat} {t e : TypeId} {tys : List Ty} (ht : P.underlying t = some (.slice e)) (h : flat P U st (n + 1) t = some tys) :
    ∃ ty a, tys = [.slice ty] ∧ flat P U st n e = some a ∧ a = ty.cells U ∧ 1 ≤ P.bytesOf e := by
  simp only [flat, ht] at h
  split at h
  · cases h
  · rename_i a ha
    split at h
    · cases h
    · rename_i hb
      have hb' := Nat.le_of_ble_eq_true hb
      split at h
      · rename_i m _
        split at h
        · rename_i he
          cases h
          exact ⟨.nm m, a, rfl, ha, tysEq_eq he, hb'⟩
        · cases h
      · split at h
        · rename_i ty
          split at h
          · cases h
          · rename_i hn
            cases h
            refine ⟨ty, [ty], rfl, ha, ?_, hb'⟩
            cases ty <;> first | rfl | cases hn
        · cases h

theorem data_read (tot : U.Total) {st : TypeId → Option Nat} : ∀ (fuel n : Nat) (t : TypeId) (cs : List Value) (x : DataW H × List MemPlace) (tys : List Ty),
    DataW.trod enc P w 0 (fun _ => true) true fuel t cs = some x → flat P U st n t = some tys → (∀ k, k ∈ x.1.weights P t → k ≤ reachBytes) → ∃ l, Rd U w tys cs l := by
  intro fuel
  induction fuel with
  | zero => intro n t cs x tys h; simp [DataW.trod] at h
  | succ m ih =>
    intro n t cs x tys h hf hw
    cases n with
    | zero => cases hf
    | succ n =>
    have hf0 := hf
    simp only [flat] at hf
    split at hf
    · rename_i hu
      cases hf
      obtain ⟨b, rfl, rfl⟩ := DataW.trod_bool hu h
      exact ⟨_, rd_one (.bool b) (.bool b)⟩
    · rename_i k hu
      cases hf
      obtain ⟨i, rfl, rfl, hwf⟩ := DataW.trod_int hu h
      exact ⟨_, rd_one (.int k i hwf) (.int k i)⟩
    · rename_i hu
      cases hf
      obtain ⟨s, rfl, rfl, hs⟩ := DataW.trod_string hu h
      have h1 : s.data.toList.length ≤ reachBytes := hw _ (by simp [DataW.weights])
      have h2 : s.data.toList.length = s.size := Array.length_toList
      refine ⟨_, rd_one (.str s.data.toList h1) (.str s ?_)⟩
      unfold reachBytes at h1
      unfold strMax; omega
    · rename_i e hu
      obtain ⟨ty, a, rfl, ha, hac, hbe⟩ := flat_slice hu hf0
      rcases DataW.trod_slice hu h with ⟨rfl, rfl⟩ | ⟨ad, len, cap, elems, rest, m', hm, rfl, rfl, _, hlc, _, hel, hget, _, _⟩
      · refine ⟨_, rd_one (.slice ty [] (Nat.zero_le _) (by simp)) ?_⟩
        exact .slice [] none 0 0 0 0 (fun _ _ => default) (by simp) (by simp) (by simp) (by simp) (by simp) (by simp)
      · cases hm
        have hwl : (elems.length + rest.length) * P.bytesOf e ≤ reachBytes := by
          have := hw ((elems.length + rest.length) * P.bytesOf e) (by simp [DataW.weights, hu])
          exact this
        have hlen : len ≤ reachBytes := by
          have h1 : elems.length + rest.length ≤ (elems.length + rest.length) * P.bytesOf e := Nat.le_mul_of_pos_right _ hbe
          omega
        -- each element
        have hE : ∀ i, i < len → ∃ xi : ty.den U.D, ∃ cs', cs'.length = P.cellsOf e ∧ (∀ j, j < P.cellsOf e → w.cell? ((ad.add (i * P.cellsOf e)).add j) = cs'[j]?) ∧ Rd U w a cs' (ty.row U xi) := by
          intro i hi
          have hgi := hget i hi
          have hei : elems[i]? = some elems[i] := List.getElem?_eq_getElem (by omega)
          rw [hei] at hgi
          cases hc : w.cells? 0 (ad.add (i * P.cellsOf e)) (P.cellsOf e) with
          | none => rw [hc] at hgi; cases hgi
          | some cs' =>
            rw [hc] at hgi
            obtain ⟨h1, h2⟩ := cells_get hc
            obtain ⟨l, hl⟩ := ih n e cs' _ a hgi ha (fun k hk => hw k (by
              simp only [DataW.weights, hu, List.mem_cons, List.mem_append]
              right; left
              exact weightsAll_mem (List.mem_map.2 ⟨elems[i], List.getElem_mem _, rfl⟩) k hk))
            obtain ⟨xi, hxi⟩ := mk_of tot (t := ty) (by rw [hl.ty, hac])
            exact ⟨xi, cs', h1, h2, by rw [hxi]; exact hl⟩
        obtain ⟨xs, hxl, hxs⟩ := exists_list len hE
        have hsz : len ≠ 0 → P.cellsOf e = ty.sz U ∧ 0 < P.cellsOf e := by
          intro hne
          obtain ⟨xi, cs', h1, _, h3⟩ := hE 0 (by omega)
          have h4 := h3.rt.length
          rw [Ty.row_length, h1] at h4
          exact ⟨h4.symm, by rw [← h4]; exact Ty.sz_pos⟩
        have hsp : len ≠ 0 → ad.spot = none := by
          intro hne
          obtain ⟨xi, cs', h1, h2, h3⟩ := hE 0 (by omega)
          have h0 := h2 0 (hsz hne).2
          rw [List.getElem?_eq_getElem (by rw [h1]; exact (hsz hne).2)] at h0
          have h5 := (cell_spot h0).1
          simpa [Addr.add] using h5
        have hxm : ∀ x, x ∈ xs → ∃ i : Nat, xs[i]? = some x ∧ i < len := by
          intro x hx
          obtain ⟨i, hi⟩ := List.mem_iff_getElem?.1 hx
          exact ⟨i, hi, by have := (List.getElem?_eq_some_iff.1 hi).1; omega⟩
        refine ⟨_, rd_one (t := .slice ty) (x := xs) (.slice ty xs (by omega) ?_) ?_⟩
        · intro x hx c hc
          obtain ⟨i, hi, _⟩ := hxm x hx
          obtain ⟨cs', _, _, h3⟩ := hxs i x hi
          exact h3.wf c hc
        · have hlen2 : (xs.map (ty.enc U)).length = len := by simp [hxl]
          show RT w (Old w) (.slice (xs.map (ty.enc U))) (.slice (some ad) len cap)
          rw [← hlen2]
          refine .slice (xs.map (ty.enc U)) (some ad) cap (P.cellsOf e) ad.block ad.off (fun i j => (w.cell? ⟨ad.block, ad.off + i * P.cellsOf e + j, none⟩).getD default) (by omega) ?_ ?_ ?_ ?_ ?_
          · rw [hlen2]; unfold reachBytes at hlen; unfold sliceMax; omega
          · intro r hr
            obtain ⟨x, hx, rfl⟩ := List.mem_map.1 hr
            obtain ⟨i, _, hi⟩ := hxm x hx
            rw [Ty.enc_length]; exact (hsz (by omega)).1.symm
          · intro hne
            have hne' : len ≠ 0 := by intro h0; apply hne; rw [← List.length_eq_zero_iff]; omega
            have := hsp hne'
            rw [show ad = ⟨ad.block, ad.off, ad.spot⟩ from rfl, this]
          · intro i j hi hj
            rw [hlen2] at hi
            obtain ⟨xi, cs', h1, h2, h3⟩ := hE i hi
            have h4 := h2 j hj
            rw [List.getElem?_eq_getElem (by omega)] at h4
            have hsn := hsp (by omega)
            have e1 : (ad.add (i * P.cellsOf e)).add j = ⟨ad.block, ad.off + i * P.cellsOf e + j, none⟩ := add_add hsn
            rw [e1] at h4
            exact ⟨(cell_spot h4).2, by rw [h4]; rfl⟩
          · intro i j r t' hr ht'
            rw [List.getElem?_map, Option.map_eq_some_iff] at hr
            obtain ⟨x, hx, rfl⟩ := hr
            obtain ⟨cs', h1, h2, h3⟩ := hxs i x hx
            have hi : i < len := by have := (List.getElem?_eq_some_iff.1 hx).1; omega
            rw [Ty.enc_row, List.getElem?_map, Option.map_eq_some_iff] at ht'
            obtain ⟨c, hc, rfl⟩ := ht'
            obtain ⟨v, hv, hrt⟩ := h3.rt.get hc
            have hj : j < P.cellsOf e := by have := (List.getElem?_eq_some_iff.1 hv).1; omega
            have h4 := h2 j hj
            have hsn := hsp (by omega)
            have e1 : (ad.add (i * P.cellsOf e)).add j = ⟨ad.block, ad.off + i * P.cellsOf e + j, none⟩ := add_add hsn
            rw [e1, hv] at h4
            show RT w (Old w) _ ((w.cell? ⟨ad.block, ad.off + i * P.cellsOf e + j, none⟩).getD default)
            rw [h4]; exact hrt
    · rename_i fs hu
      obtain ⟨xs, m', hm, rfl, hl, hlen, hget⟩ := DataW.trod_struct hu h
      cases hm
      have := rd_fields (U := U) (w := w) (P := P) (cs := cs) (fs := fs.toList) (off := 0) (fun f hfm a ha => by
        obtain ⟨i, hi⟩ := List.mem_iff_getElem?.1 hfm
        have hi' : fs[i]? = some f := by simpa using hi
        have hg := hget i f hi'
        have hil : i < xs.length := by rw [hlen]; exact (Array.getElem?_eq_some_iff.1 hi').1
        rw [List.getElem?_eq_getElem hil] at hg
        exact ih n f.type _ _ a hg ha (fun k hk => hw k (by
          simp only [DataW.weights, hu]
          exact DataW.weights_mem_each (j := i) (t := f.type) (d := xs[i].1) (by simp [hi']) (by simp [hil]) k hk))) hf hl
      simpa using this
    · cases hf

end

end Go.Proofs.Ytkdepbmeaiefeaa.Shv
