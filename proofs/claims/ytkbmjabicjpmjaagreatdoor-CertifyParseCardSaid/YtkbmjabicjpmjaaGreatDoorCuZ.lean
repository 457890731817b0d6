/- The statement CertifyParse holds as its row states it, for every input. -/
import Derived.Test.YtkbmjabicjpmjaaGreatDoorRows
import Derived.Test.YtkbmjabicjpmjaaGreatDoorCuA
import Derived.OpenShut
import Derived.JoinedOf
import Derived.LaidMore
import Derived.LaidHandle
import Derived.Stop.LaidErr
import Derived.Lib.LaidTab
import Derived.Lay
namespace Go.Proofs.YtkbmjabicjpmjaaGreatDoor.certifyParse
open Go Go.ChangeShapes Go.WideShapes Go.ChangeAt Go.RowKit Go.Proofs.YtkbmjabicjpmjaaGreatDoor Go.Proofs.YtkbmjabicjpmjaaGreatDoor.Shv
set_option linter.all false
set_option maxRecDepth 100000

theorem own : ownKnob Tryz.prog.godebug = none := by kernel_rfl

/-- the numbers of the structs, by the types of the program -/
def strL : List (TypeId × Nat) := [(31, 8), (33, 7), (39, 1), (48, 0), (62, 5), (82, 9), (112, 2), (141, 3), (162, 4), (164, 12), (188, 6), (206, 13), (239, 11), (276, 10)]
def strs : TypeId → Option Nat := stOf strL
theorem strsOk : StOk Tryz.prog Un strs := y5 (by kernel_rfl)

theorem parts : parOk Tryz.prog Un strs Tryz.f10.params.toList e10.sa e10.ts = true := by kernel_rfl

theorem plain : ∀ h : Hs Un.D e10.ts, Ok Un e10.ts h → iN h = some true := fun h _ => law_CertifyParse h

theorem contract (H : Type) (enc : TypeId × Value → H) (W : World) (base : Nat) (args : Array Value) (ds gs : List (DataW H)) (before : List MemPlace)
    (hval : ∀ (j : Nat) t v, Tryz.f10.params[j]? = some t → args[j]? = some v → Value.okWide Tryz.prog W .any base t v)
    (hW : DataW.Whole enc Tryz.prog Tryz.f10.params.toList Rows.certifyParseSpec.vars false W args.toList ds gs before)
    (hk : (DataW.weightsEach Tryz.prog (Tryz.f10.params.toList ++ Rows.certifyParseSpec.plain.varTypes Tryz.prog) (ds ++ gs)).all (· ≤ reachBytes) = true) (hG : GS W fun _ => False) :
    Calls Tryz.prog 10 args W fun e W' => ∃ v, e = .returned v ∧ Rows.certifyParseSpec.post enc Tryz.prog Tryz.f10 false true false false W args v W' :=
  law_contract (U := Un) (st := strs) y4 y3.2 plain strsOk parts (hres := rfl) (htb := by kernel_rfl) rfl
    (fun ds hd => match ds, hd with | [d0], _ => ⟨rfl, rfl, rfl⟩) (by kernel_rfl) (by kernel_rfl) (by kernel_rfl) hval hW hk hG

/-- the listed variables -/
noncomputable def laidL : List (String × DataW Unit) := Rows.certifyParseRow.laid
theorem door_met (os : Os) (args : Array Value) : laidMetH Tryz.prog laidL ((World.laidAll Tryz.prog os laidL).forCall (fun _ _ => 0) ⟨#[], args, []⟩).memory := by
  rw [MakeChecks.laidMetH_plain _ _ _ (by kernel_rfl)]
  exact laidMet_laidAll _ (by kernel_rfl) (by kernel_rfl)
theorem heap_of_var {P : Program} {w : World} {n : String} {g : Nat} {cs : Array Value} (hg : P.globalNamed n = some g) (h : w.var? P n = some cs) : ∃ t s, w.heap[g]? = some (.cells cs t s) := by
  unfold World.var? at h
  rw [hg] at h
  simp only [Option.bind_some] at h
  split at h
  · rename_i c t s e
    cases h
    exact ⟨t, s, e⟩
  · cases h
theorem err_of {P : Program} {n nm : String} {d : DataW Unit} {r : List (String × DataW Unit)} {W : World} {g : Nat} {ti : TypeId} {ms : Array (String × TypeId)} (h : laidMet P ((n, .iface nm d) :: r) W)
    (hg : P.globalNamed n = some g) (ht : (P.globals[g]?).map (·.type) = some ti) (hi : P.underlying ti = some (.interface ms)) : ∃ te pe t s, W.heap[g]? = some (.cells #[.iface te pe] t s) := by
  obtain ⟨ps, ⟨g0, t0, cs0, f0, p0, q0, hg0, ht0, hv0, hd0, _⟩, _⟩ := h
  obtain rfl := Option.some.inj (hg.symm.trans hg0)
  obtain rfl := Option.some.inj (ht.symm.trans ht0)
  obtain ⟨f, u, v, e, _⟩ := iface_of_trod hi hd0
  obtain ⟨t, s, hh⟩ := heap_of_var hg hv0
  obtain ⟨l⟩ := cs0
  have e : l = [.iface u v] := e
  subst e
  exact ⟨u, v, t, s, hh⟩
/-- the listed variables hold what the walks read -/
theorem goodW {W : World} (h : laidMetH Tryz.prog laidL W) : GS W fun _ => False := by
  have h0 : laidMet Tryz.prog laidL W := by
    unfold laidMetH at h
    rw [show (laidL.filter fun x => x.2.handleName?.isSome) = [] from by kernel_rfl] at h
    exact h
  have h1 := h0.tail.tail
  obtain ⟨t1, s1, e1⟩ := heap_of_var (g := 0) (by kernel_rfl) (Lib.tabIs_of_head (zs := Lib.pow10Tab) (k := .u64) (g := 0) (t := 323) (e := 185) (n := 20) (by kernel_rfl) (by kernel_rfl) (by kernel_rfl) (by kernel_rfl) (by kernel_rfl) (by kernel_rfl) h1)
  have h2 := h1.tail.tail
  obtain ⟨a1, a2, a3, a4, e2⟩ := err_of (g := 5) (ti := 118) h2 (by kernel_rfl) (by kernel_rfl) Tryz.underlying118
  have h3 := h2.tail
  obtain ⟨b1, b2, b3, b4, e3⟩ := err_of (g := 4) (ti := 118) h3 (by kernel_rfl) (by kernel_rfl) Tryz.underlying118
  intro x hx
  refine ⟨fun h => h, ?_⟩
  rcases hx with _ | ⟨_, _ | ⟨_, _ | ⟨_, hx⟩⟩⟩
  · exact ⟨_, e1, _, _, rfl⟩
  · exact ⟨_, e3, _, _, _, _, rfl⟩
  · exact ⟨_, e2, _, _, _, _, rfl⟩
  · cases hx
theorem lifted (os : Os) (started : os.Started) (H : Type) (enc : TypeId × Value → H) :
    ReturnsInHanded {} Tryz.checked os 10 .any (fun w args => (Rows.certifyParseSpec.pre enc Tryz.prog Tryz.f10 Rows.certifyParseRow.domain false w args ∧ laidMetH Tryz.prog laidL w) ∧ sizedMet enc Tryz.prog Tryz.f10 (OpenSpec.ofChange Rows.certifyParseSpec) false w args) (Rows.certifyParseSpec.post enc Tryz.prog Tryz.f10 false true false false) := by
  refine returnsInHanded_of_change_and (C := Tryz.checked) (X := fun w _ => laidMetH Tryz.prog laidL w) (fun _ _ _ hh h => h.of_heap hh) own started (by kernel_rfl) Tryz.func10
    (ChangeSpec.witness_shaped (enc := enc) (C := Tryz.checked) (os := os) (X := fun w _ => laidMetH Tryz.prog laidL w) false (World.laidAll Tryz.prog os laidL) #[.string ByteArray.empty] 12 (World.laidAll_os _ _ _) (World.shaped_of_ZipB (by kernel_rfl) (by kernel_rfl)) (by kernel_rfl) (by kernel_rfl) (by kernel_rfl) (door_met os _)) ?_
  intro W base args ds gs before hval hW _ hk hX _
  exact contract H enc W base args ds gs before hval hW hk (goodW hX)

theorem kN : Tryz.checked.prog.funcNamed Rows.certifyParseRow.func = some 10 := by kernel_rfl
theorem k1 : Rows.certifyParseRow.wf (OpenSpec.ofChange Rows.certifyParseSpec) = true := by kernel_rfl
theorem k2 : laidOutB Tryz.checked.prog = true := by kernel_rfl
theorem k3 : mapsRowed Tryz.checked.prog = true := by kernel_rfl
theorem k4 : (Rows.certifyParseRow.inPlace == Tryz.checked.prog.inPlace 10) = true := by kernel_rfl
theorem k5 : (Rows.certifyParseRow.unfollowed == Tryz.checked.prog.unfollowed 10) = true := by kernel_rfl
theorem k6 : (Rows.certifyParseRow.recurses == Tryz.checked.prog.recurses 10) = true := by kernel_rfl
theorem k7 : (Rows.certifyParseRow.named == Tryz.checked.prog.varsNamed 10) = true := by kernel_rfl
theorem k8 : (Rows.certifyParseRow.plainKeys == Tryz.checked.prog.plainKeys) = true := by kernel_rfl
theorem k9 : Tryz.checked.prog.stopsHeard = true := by kernel_rfl
theorem kA : joinedFacts Tryz.checked.prog 10 Tryz.f10 Rows.certifyParseSpec Rows.certifyParseRow = true := by
  unfold joinedFacts
  rw [k1, k2, k3, k4, k5, k6, k7, k8, k9]
  kernel_rfl
theorem kI : Tryz.f10.isInstance Tryz.checked.prog Rows.certifyParseRow.origin Rows.certifyParseRow.targs := of_decide_eq_true (by kernel_rfl)
theorem kW : Tryz.f10.isWrapper Tryz.checked.prog Rows.certifyParseRow.wrapper Rows.certifyParseRow.mainSum := by
  unfold Func.isWrapper; first | (rw [if_pos (by decide +kernel)]; kernel_rfl) | (rw [if_neg (by decide +kernel)]; exact ⟨rfl, rfl⟩)

theorem bare : Rows.CertifyParseSaid :=
  OpenClaim.holds_of_wide 10 Tryz.f10 rfl rfl rfl rfl rfl rfl rfl ⟨rfl, rfl, rfl, rfl, rfl⟩ rfl rfl rfl rfl rfl kN Tryz.func10 kA kI kW
    (fun os started H enc _ => lifted os started H enc)
end Go.Proofs.YtkbmjabicjpmjaaGreatDoor.certifyParse
