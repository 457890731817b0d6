/- The statement EncodeField holds as its row states it, for every input. -/
import Derived.Test.YthnmepafpikaiaaGreatRows
import Derived.Test.YthnmepafpikaiaaGreatEfB
import Derived.OpenShut
import Derived.JoinedOf
namespace Go.Proofs.YthnmepafpikaiaaGreat.encodeField
open Go Go.ChangeShapes Go.WideShapes Go.ChangeAt Go.RowKit Go.Proofs.YthnmepafpikaiaaGreat Go.Proofs.YthnmepafpikaiaaGreat.Shv
set_option linter.all false
set_option maxRecDepth 100000

theorem own : ownKnob Tryz.prog.godebug = none := by kernel_rfl

/-- the numbers of the structs, by the types of the program -/
def strs : TypeId → Option Nat
  | 40 => some 5
  | 53 => some 1
  | 72 => some 8
  | 77 => some 3
  | 98 => some 4
  | 103 => some 7
  | 119 => some 0
  | 154 => some 2
  | 183 => some 6
  | _ => none

theorem parts : parOk Tryz.prog Un strs Tryz.f8.params.toList sheavelaw09_EncodeField_s.sa sheavelaw09_EncodeField_s.ts = true := by kernel_rfl

theorem plain : ∀ h : Hs Un.D sheavelaw09_EncodeField_s.ts, Ok Un sheavelaw09_EncodeField_s.ts h → sheavelaw09_EncodeField_s.F h = some true := fun h _ => match h with | (a0, a1, a2) => law_EncodeField a0 a1 a2

theorem contract (H : Type) (enc : TypeId × Value → H) (W : World) (base : Nat) (args : Array Value) (ds gs : List (DataW H)) (before : List MemPlace)
    (hval : ∀ (j : Nat) t v, Tryz.f8.params[j]? = some t → args[j]? = some v → Value.okWide Tryz.prog W .any base t v)
    (hW : DataW.Whole enc Tryz.prog Tryz.f8.params.toList Rows.encodeFieldSpec.vars false W args.toList ds gs before)
    (hk : (DataW.weightsEach Tryz.prog (Tryz.f8.params.toList ++ Rows.encodeFieldSpec.plain.varTypes Tryz.prog) (ds ++ gs)).all (· ≤ reachBytes) = true) :
    Calls Tryz.prog 8 args W fun e W' => ∃ v, e = .returned v ∧ Rows.encodeFieldSpec.post enc Tryz.prog Tryz.f8 false true false false W args v W' :=
  law_contract (U := Un) (st := strs) un_total sheavelaw09_EncodeField_snd plain parts (hres := rfl) (htb := by kernel_rfl) rfl
    (fun ds hd => match ds, hd with | [d0, d1, d2], _ => ⟨rfl, rfl, rfl⟩) (by kernel_rfl) (by kernel_rfl) (by kernel_rfl) hval hW hk

theorem lifted (os : Os) (started : os.Started) (H : Type) (enc : TypeId × Value → H) :
    ReturnsInHanded {} Tryz.checked os 8 .any (Rows.encodeFieldSpec.pre6 enc Tryz.prog Tryz.f8 Rows.encodeFieldRow.domain false) (Rows.encodeFieldSpec.post enc Tryz.prog Tryz.f8 false true false false) := by
  refine returnsInHanded_of_change_sized (C := Tryz.checked) own started (by kernel_rfl) Tryz.func8
    (ChangeSpec.witness6 (enc := enc) (C := Tryz.checked) false ⟨#[], #[.int .i64 0, .bool false, .string ByteArray.empty], []⟩ 12 (by kernel_rfl) (by kernel_rfl) (by kernel_rfl) (by kernel_rfl)) ?_
  intro W base args ds gs before hval hW _ hk _
  exact contract H enc W base args ds gs before hval hW hk

theorem proved : Rows.EncodeFieldSaid :=
  OpenClaim.holds_of_wide 8 Tryz.f8 rfl rfl rfl rfl rfl rfl rfl ⟨rfl, rfl, rfl, rfl, rfl⟩ rfl rfl rfl rfl rfl (by kernel_rfl) Tryz.func8 (by kernel_rfl)
    (of_decide_eq_true (by kernel_rfl)) (by unfold Func.isWrapper; first | (rw [if_pos (by decide +kernel)]; kernel_rfl) | (rw [if_neg (by decide +kernel)]; exact ⟨rfl, rfl⟩))
    (fun os started H enc _ => lifted os started H enc)
end Go.Proofs.YthnmepafpikaiaaGreat.encodeField
