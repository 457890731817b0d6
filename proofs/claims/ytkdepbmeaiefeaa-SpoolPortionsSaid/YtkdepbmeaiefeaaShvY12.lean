/- slices.Clone, whose code asks whether a slice is nil. -/
import Derived.Test.YtkdepbmeaiefeaaShvY11
namespace Go.Proofs.Ytkdepbmeaiefeaa.Shv
set_option linter.all false
open Go

variable {U : Uni}

def cloneCode (sz bytes : Nat) (z : List C) : ACode :=
  .seq (.region [⟨some 2, .mov (.const (.c .cap0)), none⟩])
    (.seq (.seq (.region [⟨some 3, .mov (.tmp 0), none⟩, ⟨some 4, .eqNil false (.tmp 3), none⟩])
        (.cond (.tmp 4) (.seq (.region [⟨some 2, .mov (.const (.c .cap0)), none⟩]) .ret) .skip))
      (.seq (.region [⟨some 5, .bslice sz 0 z [], none⟩, ⟨some 6, .mov (.tmp 0), none⟩, ⟨some 7, .append sz bytes (.tmp 5) (.tmp 6), none⟩, ⟨some 2, .mov (.tmp 7), none⟩]) .ret))

def cloneF {α : Type} (bytes : Nat) (l : List α) : Option (List α) := if room bytes l.length = true then some l else none

def cloneS (U : Uni) (f : Nat) (t : Ty) (bytes : Nat) : FSpec U :=
  ⟨f, [.c (.hole (.slice t))], [], [.slice t], .c (.arr 0), [.arr t], [.slice t], fun (l : List (t.den U.D)) => cloneF bytes l⟩

section
variable {P : Program}

theorem clone_con {f : Nat} {fn : Func} {sz bytes : Nat} {z : List C} {zt : List T} {es : List (List T)} (hf : P.funcs[f]? = some fn) (hc : fn.body.bind (Go.Proofs.Ytkdepbmeaiefeaa.Shv.resolve P fn.ntmps) = some (cloneCode sz bytes z)) (hr : resolveRes P fn.results.toList = some [.tmp 2])
    (hn : 1 ≤ fn.ntmps) (hz : toTs z = some zt) (hsz : 0 < sz) (he : ∀ e, e ∈ es → e.length = sz) (hroom : room bytes es.length = true) :
    Con P f [.c (.t (.slice es))] [] 0 (fun r σ' N' => N' = 1 ∧ r = .c (.arr 0 sz 0 es.length) ∧ sget σ' 0 = some (.arr sz es)) := by
  have hroom' := room_iff.1 hroom
  refine Con.tidy (Q := fun r σ' N' => ∃ b, r = .c (.arr b sz 0 es.length) ∧ sget σ' b = some (.arr sz es)) (Con.mk hf hc hr rfl (by simpa using hn) ?_) ?_
  · unfold cloneCode
    refine AW.seq (AW.region ?_)
    simp only [aops, astep, aguard, aval, AO.get, Option.map_some, bindDst, env0, AOp.neutral, if_true, andThen]
    refine .inr ⟨fun _ => trivial, .inl trivial, ?_⟩
    refine AW.seq (AW.seq (AW.region ?_))
    simp only [aops, astep, aguard, aval, AO.get, Option.map_some, bindDst, AOp.neutral, if_true, andThen, look, List.length_cons, List.length_nil]
    refine .inr ⟨fun _ => by simp, .inl trivial, ?_⟩
    refine .inr ?_
    simp only [Nat.reduceEqDiff, if_false, if_true, Option.map_some, true_and]
    intro b hb
    refine AW.cond (b := b) (p := True) (by simp [AO.get, look, boolV]) trivial (fun hbt => ?_) (fun hbf => ?_)
    · -- a nil slice
      have hes : es = [] := by
        apply Classical.byContradiction
        intro h
        have := hb h
        rw [hbt] at this; cases this
      subst hes
      refine AW.seq (AW.region ?_)
      simp only [aops, astep, aguard, aval, AO.get, Option.map_some, bindDst, AOp.neutral, if_true, andThen]
      refine .inr ⟨fun _ => trivial, .inl trivial, ?_⟩
      refine AW.conv (Conv.own (k := 2) (g := true) (sz := sz) rfl hsz (Nat.zero_le _)) (AW.ret ?_)
      refine ⟨_, _, rfl, ⟨rfl, trivial⟩, _, rfl, ?_⟩
      rw [sget_sput, if_pos rfl]
    · refine AW.skip ?_
      refine AW.seq (AW.region ?_)
      simp only [aops, astep, aguard, aval, AO.get, Option.map_some, bindDst, AOp.neutral, if_true, andThen, look, buildS, hz, Option.bind_some, Nat.reduceEqDiff, if_false, Bool.false_eq_true, reduceCtorEq, ysOf, sget_sput, List.replicate]
      refine .inr ⟨fun _ => trivial, .inr trivial, ?_⟩
      refine .inr ⟨fun _ => by simp, .inl trivial, ?_⟩
      refine .inr ⟨fun _ => ⟨trivial, trivial, trivial, trivial, trivial, by simp, he, by simpa using hroom'.1, by simpa using hroom'.2⟩, .inr trivial, ?_⟩
      refine .inr ⟨fun _ => by simp, .inl trivial, ?_⟩
      refine AW.ret ⟨_, [.c (.arr 80 sz 0 (0 + es.length))], rfl, ⟨rfl, trivial⟩, 80, by rw [Nat.zero_add]; rfl, ?_⟩
      rw [sget_sput, if_pos rfl]
      simp
  · rintro r σ' N' ⟨b, rfl, hs⟩
    refine ⟨[b], _, _, by simp, rfl, ?_, fun i x hx => ⟨x, hx, ?_⟩, rfl, rfl, ?_⟩
    · simp only [V.ren, C.ren, pos, if_true]
      exact .c (CSub.refl _)
    · cases x with
      | box cs => exact .box (All2.self CSub.refl _)
      | arr sz es => exact .arr
    · simp [tidySt, hs, sget, Blk.ren]

theorem clone_snd {f : Nat} {fn : Func} {sz bytes : Nat} {z : List C} {zt : List T} {t : Ty} (hf : P.funcs[f]? = some fn) (hc : fn.body.bind (Go.Proofs.Ytkdepbmeaiefeaa.Shv.resolve P fn.ntmps) = some (cloneCode sz bytes z)) (hr : resolveRes P fn.results.toList = some [.tmp 2])
    (hn : Nat.ble 1 fn.ntmps = true) (hz : toTs z = some zt) (hsz : t.sz U = sz) : FSnd P (cloneS U f t bytes) := by
  intro (l : List (t.den U.D)) r hF args1 σ1 ha hS
  subst hsz
  have hF' : cloneF bytes l = some r := hF
  unfold cloneF at hF'
  split at hF'
  · rename_i hroom
    cases hF'
    cases ha with
    | cons h1 h2 =>
      cases h2
      have := VR.slice_inv (t := t) (l := l) h1
      subst this
      refine Con.conv (σ' := []) (.cons (.c (CSub.refl _)) .nil) (fun b x hx => by simp [sget] at hx) ((clone_con (bytes := bytes) hf hc hr (ble_true hn) hz Ty.sz_pos (es := List.map (t.enc U) l) (fun e he => by
        obtain ⟨y, _, rfl⟩ := List.mem_map.1 he
        exact Ty.enc_length) (by rw [List.length_map]; exact hroom)).mono ?_)
      rintro r1 s1 N1 ⟨rfl, rfl, hs⟩
      refine ⟨rfl, .c (.arr 0 _ _ (by omega) fun x hx p hp => ?_), fun b x hx => ?_⟩
      · have : x = XB.arr t l := by
          simp only [FSpec.rest, cloneS, filV, filC, Hs.cells, HsC.cells, filS, filB, lk, Nat.beq, Option.some.injEq] at hx
          exact hx.symm
        subst this
        simp only [XB.dim, Option.some.injEq] at hp
        rw [← hp, List.length_map]
      · have hx' : (if b = 0 then some (XB.arr t l) else none) = some x := by
          rw [← hx]
          simp only [FSpec.rest, cloneS, filV, filC, Hs.cells, HsC.cells, filS, filB, lk]
          cases b <;> rfl
        split at hx'
        · rename_i hb
          cases hx'; subst hb
          exact ⟨by omega, _, hs, .arr t l⟩
        · cases hx'
  · cases hF'

end
end Go.Proofs.Ytkdepbmeaiefeaa.Shv
