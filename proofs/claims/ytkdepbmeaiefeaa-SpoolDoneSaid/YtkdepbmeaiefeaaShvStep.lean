/- The abstract machine, part 11: every resolved operation is sound. -/
import Derived.Test.YtkdepbmeaiefeaaShvSnd7
namespace Go.Proofs.Ytkdepbmeaiefeaa.Shv
set_option linter.all false
open Go

section
variable {P : Program} {Γ : Ctx} {nt : Nat} {φ : Phi} {S : Stab} {env : Env} {σ : Store} {n : Nat → Bool} {key : Nat} {a : Act} {w : World}

theorem toList2 {α : Type} {x : Array α} {a b : α} (h : x.toList = [a, b]) : x = #[a, b] := by
  apply Array.ext'; simpa using h
theorem toList1 {α : Type} {x : Array α} {a : α} (h : x.toList = [a]) : x = #[a] := by
  apply Array.ext'; simpa using h

theorem call_sound (R : Rel Γ nt φ S env σ n a w) {o : Oper} {c : Call} (ho : o.op = .call c) {ao : AOp} (hr : resolveCall P c = some ao)
    {p v σ'} (hk : n key = false) (h : aval ao env σ key = some (p, v, σ')) (hp : p) : Good P Γ nt env σ' (ins n key) a v ((execOp a.eval o).run P w) := by
  obtain ⟨callee, args, argTypes⟩ := c
  unfold resolveCall at hr
  split at hr
  · rename_i hc
    split at hr
    · rename_i x t hx ht
      simp only at hc hx ht
      have hx := toList1 hx; have ht := toList1 ht
      subst hc; subst hx; subst ht
      split at hr
      · rename_i hu
        simp only [Option.map_eq_some_iff] at hr
        obtain ⟨ax, hax, rfl⟩ := hr
        exact sound_len (str := true) R ho (by simpa using hu) hax hk h hp
      · rename_i e hu
        simp only [Option.map_eq_some_iff] at hr
        obtain ⟨ax, hax, rfl⟩ := hr
        exact sound_len (str := false) R ho (by simpa using ⟨e, hu⟩) hax hk h hp
      · cases hr
    · cases hr
  · rename_i hc
    split at hr
    · rename_i x y t u hx ht
      simp only at hc hx ht
      have hx := toList2 hx; have ht := toList2 ht
      subst hc; subst hx; subst ht
      split at hr
      · rename_i e e' hu hu'
        simp only [Option.bind_eq_some_iff, Option.ite_none_right_eq_some, Option.some.injEq] at hr
        obtain ⟨i, hi, ax, hax, ay, hay, ⟨h1, h2⟩, rfl⟩ := hr
        exact sound_append R ho hu hu' hi h1 h2 hax hay hk h hp
      · cases hr
    · cases hr
  · rename_i hc
    split at hr
    · rename_i x y hx
      simp only at hc hx
      have hx := toList2 hx
      subst hc; subst hx
      simp only [Option.bind_eq_some_iff, Option.map_eq_some_iff] at hr
      obtain ⟨ax, hax, ay, hay, rfl⟩ := hr
      exact sound_max2 R ho hax hay hk h hp
    · cases hr
  · rename_i hc
    split at hr
    · rename_i x y hx
      simp only at hc hx
      have hx := toList2 hx
      subst hc; subst hx
      simp only [Option.bind_eq_some_iff, Option.map_eq_some_iff] at hr
      obtain ⟨ax, hax, ay, hay, rfl⟩ := hr
      exact sound_min2 R ho hax hay hk h hp
    · cases hr
  · split at hr
    · simp only [Option.map_eq_some_iff] at hr
      obtain ⟨l, hl, rfl⟩ := hr
      simp [aval] at h
    · cases hr
  · simp only [Option.map_eq_some_iff] at hr
    obtain ⟨l, hl, rfl⟩ := hr
    simp [aval] at h
  · cases hr

theorem aval_sound (R : Rel Γ nt φ S env σ n a w) {o : Oper} {ao : AOp} (hr : resolveOp P o.op = some ao)
    {p v σ'} (hk : n key = false) (h : aval ao env σ key = some (p, v, σ')) (hp : p) : Good P Γ nt env σ' (ins n key) a v ((execOp a.eval o).run P w) := by
  generalize hop : o.op = op at hr
  cases op with
  | move x => simp only [resolveOp, Option.map_eq_some_iff] at hr; obtain ⟨ax, hx, rfl⟩ := hr; exact sound_mov R (.inl hop) hx hk h hp
  | assign x => simp only [resolveOp, Option.map_eq_some_iff] at hr; obtain ⟨ax, hx, rfl⟩ := hr; exact sound_mov R (.inr hop) hx hk h hp
  | pick c x y =>
    simp only [resolveOp, Option.bind_eq_some_iff, Option.map_eq_some_iff] at hr
    obtain ⟨ac, hc, ax, hx, ay, hy, rfl⟩ := hr
    exact sound_pick R hop hc hx hy hk h hp
  | alloc e => simp only [resolveOp, Option.map_eq_some_iff] at hr; obtain ⟨cs, hcs, rfl⟩ := hr; exact sound_alloc R hop hcs hk h hp
  | box e x => simp only [resolveOp, Option.map_eq_some_iff] at hr; obtain ⟨ax, hx, rfl⟩ := hr; exact sound_box R hop hx hk h hp
  | build t parts =>
    simp only [resolveOp] at hr
    split at hr
    · rename_i fs hfs
      simp only [Option.ite_none_right_eq_some, Option.bind_eq_some_iff, Option.map_eq_some_iff] at hr
      obtain ⟨h1, z, hz, ps, hps, rfl⟩ := hr
      exact sound_build R hop hfs h1 hz hps hk h hp
    · simp only [Option.bind_eq_some_iff, Option.map_eq_some_iff] at hr
      rename_i len e hu
      obtain ⟨z, hz, m, hm, ps, hps, rfl⟩ := hr
      exact sound_buildArr R hop hu hm hz hps hk h hp
    · cases hr
  | buildSlice t len parts =>
    simp only [resolveOp] at hr
    split at hr
    · rename_i e hu
      simp only [Option.bind_eq_some_iff, Option.ite_none_right_eq_some, Option.some.injEq] at hr
      obtain ⟨m, hm, z, hz, ps, hps, ⟨h1, h2, h3⟩, rfl⟩ := hr
      exact sound_bslice R hop hu hm hz hps h1 h2 h3 hk h hp
    · cases hr
  | load t x =>
    simp only [resolveOp, Option.bind_eq_some_iff, Option.map_eq_some_iff] at hr
    obtain ⟨g, hg, ax, hx, rfl⟩ := hr
    exact sound_load R hop hg hx hk h hp
  | store t x y =>
    simp only [resolveOp, Option.bind_eq_some_iff, Option.map_eq_some_iff] at hr
    obtain ⟨m, hm, ax, hx, ay, hy, rfl⟩ := hr
    exact sound_store R hop hm hx hy hk h hp
  | nilCheck x => simp only [resolveOp, Option.map_eq_some_iff] at hr; obtain ⟨ax, hx, rfl⟩ := hr; exact sound_nilCheck R hop hx hk h hp
  | binOp op t x y yt =>
    simp only [resolveOp] at hr
    split at hr
    · rename_i hop'
      split at hr
      · simp only [Option.bind_eq_some_iff, Option.map_eq_some_iff] at hr
        obtain ⟨ks, hks, ax, hx, ay, hy, rfl⟩ := hr
        exact sound_eqAgg R hop hop' hks hx hy hk h hp
      · simp only [Option.ite_none_right_eq_some, Option.map_eq_some_iff] at hr
        obtain ⟨_, ax, hx, rfl⟩ := hr
        simp [aval] at h
      · rename_i hu
        simp only [Option.bind_eq_some_iff, Option.map_eq_some_iff] at hr
        obtain ⟨ax, hx, ay, hy, rfl⟩ := hr
        exact sound_eqBool R hop hop' hu hx hy hk h hp
      · simp only [Option.bind_eq_some_iff, Option.map_eq_some_iff] at hr
        obtain ⟨ax, hx, ay, hy, rfl⟩ := hr
        exact sound_bin R hop hx hy hk h hp
      · simp only [Option.bind_eq_some_iff, Option.map_eq_some_iff] at hr
        obtain ⟨ax, hx, ay, hy, rfl⟩ := hr
        exact sound_bin R hop hx hy hk h hp
      · cases hr
    · simp only [Option.bind_eq_some_iff, Option.map_eq_some_iff] at hr
      obtain ⟨ax, hx, ay, hy, rfl⟩ := hr
      exact sound_bin R hop hx hy hk h hp
  | unOp u t x =>
    cases u <;> simp only [resolveOp, Option.map_eq_some_iff, reduceCtorEq] at hr
    obtain ⟨ax, hx, rfl⟩ := hr
    exact sound_not R hop hx hk h hp
  | convert s d x =>
    simp only [resolveOp] at hr
    split at hr
    · rename_i hs hd
      simp only [Option.map_eq_some_iff] at hr
      obtain ⟨ax, hx, rfl⟩ := hr
      exact sound_conv R hop hs hd hx hk h hp
    · rename_i hs hd
      simp only [Option.map_eq_some_iff] at hr
      obtain ⟨ax, hx, rfl⟩ := hr
      exact sound_i2s R hop hs hd hx hk h hp
    · rename_i hs hd
      simp only [Option.map_eq_some_iff] at hr
      obtain ⟨ax, hx, rfl⟩ := hr
      exact sound_s2s R hop hs hd hx hk h hp
    · cases hr
  | fieldAddr t x f =>
    simp only [resolveOp] at hr
    split at hr
    · rename_i fs hfs
      simp only [Option.bind_eq_some_iff, Option.ite_none_left_eq_some, Option.map_eq_some_iff] at hr
      obtain ⟨fd, hf, m, hm, hm0, ax, hx, rfl⟩ := hr
      exact sound_fldA R hop hfs hf hm hm0 hx hk h hp
    · cases hr
  | field t x f =>
    simp only [resolveOp] at hr
    split at hr
    · rename_i fs hfs
      simp only [Option.bind_eq_some_iff, Option.map_eq_some_iff] at hr
      obtain ⟨fd, hf, g, hg, ax, hx, rfl⟩ := hr
      obtain ⟨h1, h2, h3⟩ := loadOf_inv hg
      exact sound_fld R hop hfs hf h2 h1 h3 hx hk h hp
    · cases hr
  | indexAddr t x i =>
    simp only [resolveOp] at hr
    split at hr
    · rename_i e hu
      simp only [Option.bind_eq_some_iff, Option.ite_none_left_eq_some, Option.map_eq_some_iff] at hr
      obtain ⟨m, hm, hm0, ax, hx, ai, hi, rfl⟩ := hr
      exact sound_idxA R hop hu hm hm0 hx hi hk h hp
    · cases hr
  | index t x i =>
    simp only [resolveOp] at hr
    split at hr
    · rename_i hu
      simp only [Option.bind_eq_some_iff, Option.map_eq_some_iff] at hr
      obtain ⟨ax, hx, ai, hi, rfl⟩ := hr
      exact sound_idxS R hop hu hx hi hk h hp
    · cases hr
  | slice t x lo hi mx =>
    simp only [resolveOp] at hr
    split at hr
    · rename_i hu
      simp only [Option.ite_none_right_eq_some, Option.bind_eq_some_iff, Option.map_eq_some_iff, Option.isNone_iff_eq_none] at hr
      obtain ⟨rfl, ax, hx, al, hl, ah, hh, rfl⟩ := hr
      exact sound_slcS R hop hu hx hl hh hk h hp
    · rename_i e hu
      split at hr
      · simp only [Option.bind_eq_some_iff, Option.ite_none_left_eq_some, Option.map_eq_some_iff] at hr
        obtain ⟨m, hm, hm0, ax, hx, al, hl, ah, hh, rfl⟩ := hr
        exact sound_slc R hop hu hm hx hl hh hk h hp
      · split at hr
        · simp only [Option.ite_none_right_eq_some, Option.map_eq_some_iff] at hr
          obtain ⟨h0, ax, hx, rfl⟩ := hr
          obtain ⟨m, hm⟩ := Option.isSome_iff_exists.1 h0
          exact sound_slc0 R hop hu hm hx hk h hp
        · cases hr
      · cases hr
    · cases hr
  | makeFunc fn first caps =>
    cases fn <;> simp only [resolveOp, Option.ite_none_right_eq_some, Option.map_eq_some_iff, reduceCtorEq] at hr
    obtain ⟨h1, al, hl, rfl⟩ := hr
    have : first = #[] := by simpa using h1
    subst this
    exact sound_mkfn R hop hl hk h hp
  | extract x i => simp only [resolveOp, Option.map_eq_some_iff] at hr; obtain ⟨ax, hx, rfl⟩ := hr; exact sound_ext R hop hx hk h hp
  | call c => simp only [resolveOp] at hr; exact call_sound R hop hr hk h hp
  | _ => simp [resolveOp] at hr

end
end Go.Proofs.Ytkdepbmeaiefeaa.Shv
