/- Typed states over the abstract machine: functions out of their bodies. -/
import Derived.Test.YtkdepbmeaiefeaaShvY10
namespace Go.Proofs.Ytkdepbmeaiefeaa.Shv
set_option linter.all false
open Go

variable {U : Uni} {R : Type}

def xenv0 : Nat → List (XV U) → XEnv U
  | _, [] => []
  | i, v :: vs => (i, v) :: xenv0 (i + 1) vs

def xresOne (env : XEnv U) (σ : XSt U) : AR → Option (XV U)
  | .tmp t => lk env t
  | .cell t g k => match lk env t with
    | some (.c (.ptr b o)) => match lk σ b with
      | some (.box cs) => xloadC g k cs o
      | _ => none
    | _ => none

def xresAll (env : XEnv U) (σ : XSt U) : List AR → Option (List (XV U))
  | [] => some []
  | r :: rs => match xresOne env σ r, xresAll env σ rs with
    | some v, some vs => some (v :: vs)
    | _, _ => none

def xresV : List (XV U) → XV U
  | [] => .tup []
  | [v] => v
  | v :: w :: vs => .tup (v :: w :: vs)

/-- the results of a function, read -/
def xread (kk : Nat) (ars : List AR) (sr : SV) (rst : List SB) (us : List Ty) (env : XEnv U) (σ : XSt U) : Option (Hs U.D us) :=
  match xresAll env σ ars with
  | none => none
  | some vs => match scS σ kk 0 rst (scV sr (xresV vs) ([], [])) [] with
    | (bs, fz) => match xfz fz env σ with
      | none => none
      | some (env', σ') => match xresAll env' σ' ars with
        | none => none
        | some vs' => match nodupB bs && (keeps kk bs && Nat.beq bs.length rst.length) with
          | false => none
          | true => match chkV bs sr (xresV vs'), chkS bs σ' 0 rst with
            | some a, some b => Hs.dec U.D us (a ++ b)
            | _, _ => none

def xfin (kk : Nat) (ars : List AR) (sr : SV) (rst : List SB) (us : List Ty) : XK U (Hs U.D us)
  | .normal, env, σ, _ => xread kk ars sr rst us env σ
  | .ret, env, σ, _ => xread kk ars sr rst us env σ
  | _, _, _, _ => none

section
variable {P : Program} {nt kk N : Nat} {env : XEnv U} {σ : XSt U} {env1 : Env} {σ1 : Store}

def QC (kk : Nat) (Q : Exit → Env → Store → Nat → Prop) : Exit → Env → Store → Nat → Prop :=
  fun e env σ N => ∃ N' env' σ', Conv kk N env σ N' env' σ' ∧ Q e env' σ' N'

theorem QC.cc {Q : Exit → Env → Store → Nat → Prop} : CC kk (QC kk Q) :=
  fun e N env σ N' env' σ' h ⟨N2, e2, s2, h2, hq⟩ => ⟨N2, e2, s2, h.trans h2, hq⟩

theorem AW.unqc {c : ACode} {env : Env} {σ : Store} {Q : Exit → Env → Store → Nat → Prop} (h : AW P nt kk c env σ N (QC kk Q)) : AW P nt kk c env σ N Q :=
  fun code hc Γ φ S a w hkk R => wp_mono (h code hc Γ φ S a w hkk R) fun e a w ⟨φ', S', env', σ', N', ⟨N2, e2, s2, h2, hq⟩, R'⟩ =>
    let ⟨φ2, S2, R2⟩ := h2 Γ nt φ' S' a w hkk R'; ⟨φ2, S2, e2, s2, N2, hq, R2⟩

theorem xresOne_sound (he : ER N σ (fun _ => true) env env1) (hS : SR N σ σ1) {ar : AR} {v : XV U} (h : xresOne env σ ar = some v) : ∃ p v1, resOne env1 σ1 ar = some (p, v1) ∧ p ∧ VR N σ v v1 := by
  cases ar with
  | tmp t =>
    obtain ⟨v1, h1, h2⟩ := he t v h
    exact ⟨True, v1, by simp [resOne, h1], trivial, h2⟩
  | cell t g k =>
    simp only [xresOne] at h
    split at h
    · rename_i b o hk
      split at h
      · rename_i cs hcs
        obtain ⟨v1, h1, h2⟩ := he t _ hk
        have := h2.ptr_inv; subst this
        obtain ⟨_, y, h3, h4⟩ := hS b _ hcs
        cases h4 with
        | box h4 =>
          obtain ⟨v2, h5, h6⟩ := xloadC_sound h4 h
          exact ⟨True, v2, by simp [resOne, h1, h3, h5], trivial, h6⟩
      · cases h
    · cases h

theorem xresAll_sound (he : ER N σ (fun _ => true) env env1) (hS : SR N σ σ1) : ∀ {ars : List AR} {vs : List (XV U)}, xresAll env σ ars = some vs → ∃ p vs1, resAll env1 σ1 ars = some (p, vs1) ∧ p ∧ All2 (VR N σ) vs vs1
  | [], vs, h => by simp [xresAll] at h; subst h; exact ⟨_, [], rfl, trivial, .nil⟩
  | r :: rs, vs, h => by
    simp only [xresAll] at h
    split at h
    · rename_i v vs' h1 h2
      cases h
      obtain ⟨p, v1, a1, a2, a3⟩ := xresOne_sound he hS h1
      obtain ⟨q, vs1, b1, b2, b3⟩ := xresAll_sound he hS h2
      exact ⟨p ∧ q, v1 :: vs1, by simp [resAll, a1, b1], ⟨a2, b2⟩, .cons a3 b3⟩
    · cases h

theorem xresV_sound {vs : List (XV U)} {vs1 : List V} (h : All2 (VR N σ) vs vs1) : VR N σ (xresV vs) (resV vs1) := by
  cases h with
  | nil => exact .tup [] [] rfl (by simp)
  | cons h1 h2 =>
    cases h2 with
    | nil => exact h1
    | cons h2 h3 =>
      refine .tup _ _ (by simp [h3.length]) fun i x d hx hd => ?_
      obtain ⟨d', e1, e2⟩ := (All2.cons h1 (.cons h2 h3)).get hx
      rw [hd] at e1; cases e1; exact e2

/-- what a result owes -/
def Qf (s : FSpec U) (r : Hs U.D s.us) : V → Store → Nat → Prop := fun r1 σ1' N' => N' = s.rst.length ∧ VR N' (s.rest r) (s.res r) r1 ∧ SR N' (s.rest r) σ1'

theorem xread_sound {ars : List AR} {s : FSpec U} {r : Hs U.D s.us} (h : xread kk ars s.sr s.rst s.us env σ = some r) (he : ER N σ (fun _ => true) env env1) (hS : SR N σ σ1) :
    ∃ env1' σ1', Conv kk N env1 σ1 N env1' σ1' ∧ ∃ p vs1, resAll env1' σ1' ars = some (p, vs1) ∧ p ∧
      ∃ bs r2 σ2, bs.Nodup ∧ keeps kk bs = true ∧ VSub ((resV vs1).ren bs) r2 ∧ StSub (tidySt bs σ1' 0 bs) σ2 ∧ Qf s r r2 σ2 bs.length := by
  unfold xread at h
  split at h
  · cases h
  · split at h
    rename_i bs fz _
    split at h
    · cases h
    · rename_i env' σ' hfz
      obtain ⟨e1, s1, c1, c2, c3, _⟩ := xfz_sound (kk := kk) (gl := []) hfz he hS
      split at h
      · cases h
      · rename_i vs' hvs'
        split at h
        · cases h
        · rename_i hb
          simp only [Bool.and_eq_true] at hb
          obtain ⟨hb1, hb2, hb3⟩ := hb
          have hnd := nodupB_some hb1
          have hlen := beq_true hb3
          split at h
          · rename_i a b ha hbb
            obtain ⟨p, vs1, d1, d2, d3⟩ := xresAll_sound c2 c3 hvs'
            obtain ⟨y, f, g⟩ := chkV_sound hnd (can_of hnd hbb) ha
            obtain ⟨r2, g1, g2⟩ := g _ (xresV_sound d3)
            obtain ⟨s2, t1, t2⟩ := st_sound hnd c3 hbb
            have hcell := Hs.dec_cells h
            have e1 : s.res r = y := by unfold FSpec.res; rw [hcell, f]
            have e2 : s.rest r = filS 0 s.rst b := by unfold FSpec.rest; rw [hcell, f]
            exact ⟨_, _, c1, p, vs1, d1, d2, bs, r2, s2, hnd, hb2, g1, t1, hlen, by rw [e1, e2]; exact g2, by rw [e2]; exact t2⟩
          · cases h

/-- what one call owes -/
def FAt (P : Program) (s : FSpec U) (h : Hs U.D s.ts) (r : Hs U.D s.us) : Prop :=
  ∀ (args1 : List V) σ1, All2 (VR s.st.length (s.ast h)) (s.args h) args1 → SR s.st.length (s.ast h) σ1 → Con P s.f args1 σ1 s.st.length (Qf s r)

theorem FSnd.of {s : FSpec U} (h : ∀ h r, s.F h = some r → FAt P s h r) : FSnd P s := h

/-- a function, out of its body -/
theorem FAt.of_body {s : FSpec U} {fn : Func} {c : ACode} {ars : List AR} {fo : Fo U} {lo : Lo U} (hf : P.funcs[s.f]? = some fn) (hc : fn.body.bind (resolve P fn.ntmps) = some c) (hr : resolveRes P fn.results.toList = some ars) (hn : Nat.ble s.sa.length fn.ntmps = true)
    (hfo : FoSnd P fo) (hlo : LoSnd P fn.ntmps s.st.length lo 0 c)
    {h : Hs U.D s.ts} {r : Hs U.D s.us} (hx : xexec fo lo s.st.length c 0 (xenv0 0 (s.args h)) (s.ast h) s.st.length (xfin s.st.length ars s.sr s.rst s.us) = some r) : FAt P s h r := by
  intro args1 σ1 ha hS
  have hlenA : args1.length ≤ fn.ntmps := by
    rw [← ha.length]
    refine Nat.le_trans (Nat.le_of_eq ?_) (ble_true hn)
    unfold FSpec.args
    exact filVs_length
  refine Con.tidy (Con.mk (nt := fn.ntmps) hf hc hr rfl hlenA (AW.unqc (xexec_sound hfo hlo hx (fun k v hk => ?_) hS (Nat.le_refl _) QC.cc fun e env' σ' N' env1' σ1' h1 h2 h3 h4 => ?_))) (fun r1 s1 N1 hh => hh)
  · have key : ∀ {xs : List (XV U)} {ds : List V} {i : Nat}, All2 (VR s.st.length (s.ast h)) xs ds → lk (xenv0 i xs) k = some v → ∃ v1, look (env0 i ds) k = some (true, v1) ∧ VR s.st.length (s.ast h) v v1 := by
      intro xs
      induction xs with
      | nil => intro ds i _ h; simp [xenv0, lk] at h
      | cons x xs ih =>
        intro ds i hxs hlk
        cases hxs with
        | cons h1 h2 =>
          simp only [xenv0, lk] at hlk
          simp only [env0, look]
          split at hlk
          · rename_i hb; cases hlk; rw [if_pos (beq_true hb)]; exact ⟨_, rfl, h1⟩
          · rename_i hb; rw [if_neg (beq_false hb)]; exact ih h2 hlk
    exact key ha hk
  · have fin : xread s.st.length ars s.sr s.rst s.us env' σ' = some r → (e = .normal ∨ e = .ret) → QC s.st.length (Done ars fun r1 s1 N1 => ∃ bs r2 σ2, bs.Nodup ∧ keeps s.st.length bs = true ∧ VSub (r1.ren bs) r2 ∧ StSub (tidySt bs s1 0 bs) σ2 ∧ Qf s r r2 σ2 bs.length) e env1' σ1' N' := by
      intro hread hee
      obtain ⟨e1, s1, c1, p, vs1, d1, d2, rest⟩ := xread_sound hread h2 h3
      refine ⟨N', e1, s1, c1, ?_⟩
      rcases hee with rfl | rfl
      · exact ⟨p, vs1, d1, d2, rest⟩
      · exact ⟨p, vs1, d1, d2, rest⟩
    cases e with
    | normal => exact fin h1 (.inl rfl)
    | ret => exact fin h1 (.inr rfl)
    | _ => cases h1
where
  filVs_length : ∀ {ss : List SV} {a : Cs U}, (filVs ss a).1.length = ss.length
    | [], a => rfl
    | s :: ss, a => by
      simp only [filVs]
      have := filVs_length (ss := ss) (a := (filV s a).2)
      simp [this]

/-- the loop at a number -/
def loopAt : ACode → Nat → Option ACode
  | .seq a b, q => match Nat.ble (nloops a) q with
    | true => loopAt b (q - nloops a)
    | false => loopAt a q
  | .cond _ a b, q => match Nat.ble (nloops a) q with
    | true => loopAt b (q - nloops a)
    | false => loopAt a q
  | .block _ b, q => loopAt b q
  | .loop b, q => match q with
    | 0 => some b
    | q + 1 => loopAt b q
  | _, _ => none

theorem LoSnd.of {lo : Lo U} : ∀ {c : ACode} {pos : Nat}, (∀ q b L, loopAt c q = some b → lo (pos + q) = some L → LSnd P nt kk b L) → LoSnd P nt kk lo pos c
  | .seq a b, pos, h => by
    refine ⟨LoSnd.of fun q b' L h1 h2 => h q b' L ?_ h2, LoSnd.of fun q b' L h1 h2 => h (nloops a + q) b' L ?_ (by rw [← Nat.add_assoc]; exact h2)⟩
    · simp only [loopAt]
      cases hb : Nat.ble (nloops a) q with
      | true => exact absurd (loopAt_lt h1) (by have := ble_true hb; omega)
      | false => exact h1
    · simp only [loopAt]
      have : Nat.ble (nloops a) (nloops a + q) = true := by simp
      rw [this, Nat.add_sub_cancel_left]; exact h1
  | .cond c a b, pos, h => by
    refine ⟨LoSnd.of fun q b' L h1 h2 => h q b' L ?_ h2, LoSnd.of fun q b' L h1 h2 => h (nloops a + q) b' L ?_ (by rw [← Nat.add_assoc]; exact h2)⟩
    · simp only [loopAt]
      cases hb : Nat.ble (nloops a) q with
      | true => exact absurd (loopAt_lt h1) (by have := ble_true hb; omega)
      | false => exact h1
    · simp only [loopAt]
      have : Nat.ble (nloops a) (nloops a + q) = true := by simp
      rw [this, Nat.add_sub_cancel_left]; exact h1
  | .block id b, pos, h => LoSnd.of (c := b) h
  | .loop b, pos, h => fun L hL => h 0 b L rfl hL
  | .skip, pos, h => trivial
  | .region _, pos, h => trivial
  | .regionD _ _, pos, h => trivial
  | .exit _, pos, h => trivial
  | .ret, pos, h => trivial
where
  loopAt_lt : ∀ {c : ACode} {q : Nat} {b : ACode}, loopAt c q = some b → q < nloops c
    | .seq a b, q, b', h => by
      simp only [loopAt] at h
      simp only [nloops]
      split at h
      · rename_i hb; have := loopAt_lt h; have := ble_true hb; omega
      · have := loopAt_lt h; omega
    | .cond _ a b, q, b', h => by
      simp only [loopAt] at h
      simp only [nloops]
      split at h
      · rename_i hb; have := loopAt_lt h; have := ble_true hb; omega
      · have := loopAt_lt h; omega
    | .block _ b, q, b', h => loopAt_lt (c := b) h
    | .loop b, 0, b', h => by simp [nloops]
    | .loop b, q + 1, b', h => by have := loopAt_lt (c := b) h; simp only [nloops]; omega
    | .skip, q, b', h => by simp [loopAt] at h
    | .region _, q, b', h => by simp [loopAt] at h
    | .regionD _ _, q, b', h => by simp [loopAt] at h
    | .exit _, q, b', h => by simp [loopAt] at h
    | .ret, q, b', h => by simp [loopAt] at h


theorem LoSnd.of' {lo : Lo U} {c : ACode} (h : ∀ q L, lo q = some L → LSnd P nt kk ((loopAt c q).getD .skip) L) : LoSnd P nt kk lo 0 c :=
  LoSnd.of fun q b L h1 h2 => by
    have := h q L (by rw [Nat.zero_add] at h2; exact h2)
    rw [h1] at this; exact this

theorem LoSnd.none {c : ACode} : LoSnd P nt kk (fun _ => none : Lo U) 0 c := LoSnd.of' fun q L h => by cases h

theorem FoSnd.none : FoSnd P (fun _ => [] : Fo U) := fun f s h => by simp at h

end
end Go.Proofs.Ytkdepbmeaiefeaa.Shv
namespace Go.Proofs.Ytkdepbmeaiefeaa.Shv
open Go
/-- the resolved code of a function -/
def codeOf (P : Program) (fn : Func) : ACode :=
  match fn.body.bind (Go.Proofs.Ytkdepbmeaiefeaa.Shv.resolve P fn.ntmps) with
  | some c => c
  | none => .skip

def loopOf (c : ACode) (q : Nat) : ACode := (loopAt c q).getD .skip

/-- specifications in a list -/
def foS {U : Uni} : List (FSpec U) → Fo U
  | [], _ => []
  | s :: l, f => match Nat.beq s.f f with
    | true => s :: foS l f
    | false => foS l f

def loL {U : Uni} (l : List (Nat × LSpec U)) : Lo U := fun q => lk l q

theorem FoSnd.nil {U : Uni} {P : Program} : FoSnd P (foS ([] : List (FSpec U))) := fun f s h => by simp [foS] at h
theorem FoSnd.cons {U : Uni} {P : Program} {s : FSpec U} {l : List (FSpec U)} (hb : hasBody P s.f = true) (hs : FSnd P s) (h : FoSnd P (foS l)) : FoSnd P (foS (s :: l)) := by
  intro f t ht
  simp only [foS] at ht
  split at ht
  · rename_i hf
    have := beq_true hf
    rcases List.mem_cons.1 ht with rfl | ht
    · exact ⟨this, by rw [← this]; exact hb, hs⟩
    · exact h f t ht
  · exact h f t ht

def LoOk {U : Uni} (P : Program) (nt kk : Nat) (c : ACode) (l : List (Nat × LSpec U)) : Prop := ∀ q L, lk l q = some L → LSnd P nt kk (loopOf c q) L
theorem LoOk.nil {U : Uni} {P : Program} {nt kk : Nat} {c : ACode} : LoOk P nt kk c ([] : List (Nat × LSpec U)) := fun q L h => by simp [lk] at h
theorem LoOk.cons {U : Uni} {P : Program} {nt kk : Nat} {c : ACode} {q : Nat} {L : LSpec U} {l : List (Nat × LSpec U)} (hL : LSnd P nt kk (loopOf c q) L) (h : LoOk P nt kk c l) : LoOk P nt kk c ((q, L) :: l) := by
  intro q' L' hq
  simp only [lk] at hq
  split at hq
  · rename_i hb; cases hq; rw [← beq_true hb]; exact hL
  · exact h q' L' hq
theorem LoOk.snd {U : Uni} {P : Program} {nt kk : Nat} {c : ACode} {l : List (Nat × LSpec U)} (h : LoOk P nt kk c l) : LoSnd P nt kk (loL l) 0 c := LoSnd.of' fun q L hq => h q L hq

/-! the words of the written programs -/
def addI (k : IntKind) (a b : Int) : Int := k.wrap (a + b)
def subI (k : IntKind) (a b : Int) : Int := k.wrap (a - b)
def mulI (k : IntKind) (a b : Int) : Int := k.wrap (a * b)
def quoI (k : IntKind) (a b : Int) : Int := k.wrap (a.tdiv b)
def remI (a b : Int) : Int := a.tmod b
def andI (k : IntKind) (a b : Int) : Int := k.wrap (BitVec.ofInt k.bits a &&& BitVec.ofInt k.bits b).toNat
def orI (k : IntKind) (a b : Int) : Int := k.wrap (BitVec.ofInt k.bits a ||| BitVec.ofInt k.bits b).toNat
def xorI (k : IntKind) (a b : Int) : Int := k.wrap (BitVec.ofInt k.bits a ^^^ BitVec.ofInt k.bits b).toNat
def andNotI (k : IntKind) (a b : Int) : Int := k.wrap (BitVec.ofInt k.bits a &&& ~~~ BitVec.ofInt k.bits b).toNat
def shlI (k : IntKind) (a b : Int) : Int := k.wrap (a * 2 ^ min b.toNat k.bits)
def shrI (k : IntKind) (a b : Int) : Int := a.fdiv (2 ^ min b.toNat k.bits)
end Go.Proofs.Ytkdepbmeaiefeaa.Shv
