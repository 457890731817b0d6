/-
  NARROWER THAN 'FOR EVERY INPUT', by the rows' own cells (each row's printed sentence says how): MeaningMeans: loops · MeaningErrors: loops · MeaningAgree: loops.
  DERIVED. THE GIVEN ROWS OF THIS SEAT. 8 by the template 'for every input the law returns true; each argument reads behind the call as it read before'; 0 by the template 'total and deterministic' (their statements: YtandcioiaooocaaGreatTotals.lean).
  GIVEN WITH THE SEED: the statements are not yours to turn. If you find one false, say at which input.
  Laid BY PROGRAM, IN A SANDBOX (cutbox-rows.mjs): the forced cells as the released guide's own fill.sh prints them over the translation b0f78fe3b704f02a… (all of the seat's roots in one cut). By AI agents, Wed Nov 11 2026. No macro, syntax, notation, axiom, sorry.
-/
import Derived.Test.YtandcioiaooocaaGreatChecked
import GoSem.Claim
import GoSem.ClaimJoined
import GoSem.ClaimMapViews
import Derived.JoinedTies
import Derived.KernelRfl
namespace Go.Proofs.YtandcioiaooocaaGreat
/- THE CELL 'sum', in the pinned program and in every row, IS THE sha256 OF THE DUMP (.gsa) THAT YtandcioiaooocaaGreatProg.lean LOADS. Nothing in Lean hashes anything: it is a label: what it is worth is what the hold of that sum in a sandbox is worth. -/
noncomputable def Tryz.pinned : Pinned := { name := "ytandcioiaooocaagreat", sum := "b0f78fe3b704f02a61a1f4eba40ad688b2dc4d4594626ce587ac85952111e273", checked := Tryz.checked }
namespace Rows
def none {H : Type} : Left H := { results := [], args := [] }

/-- 'sheavelaw14.MeaningReading': WHATEVER THE INPUT: true; the input reads as it did. -/
def meaningReadingSpec : ChangeSpec := { name := "meaningReading", fn := fun _ => fun
  | [d] => { results := [.lit (.bool true)], args := [d] }
  | _ => none }
def meaningReadingRow : OpenClaim := { program := "ytandcioiaooocaagreat", sum := "b0f78fe3b704f02a61a1f4eba40ad688b2dc4d4594626ce587ac85952111e273", func := "sheave/sheavelaw14.MeaningReading", spec := "meaningReading", inPlace := ["internal/abi.NoEscape"], unfollowed := true, recurses := true, apart := false }
def MeaningReadingSaid : Prop := meaningReadingRow.holds Tryz.pinned (OpenSpec.ofChange meaningReadingSpec)

/-- ITS FALSE NEIGHBOUR: 'it returns false'. Refute it at one input. -/
def meaningReadingWrong : ChangeSpec := { name := "meaningReading", fn := fun _ => fun
  | [d] => { results := [.lit (.bool false)], args := [d] }
  | _ => none }
def MeaningReadingWrongFalsely : Prop := meaningReadingRow.holds Tryz.pinned (OpenSpec.ofChange meaningReadingWrong)

/-- 'sheavelaw14.MeaningMisread': WHATEVER THE INPUT: true; the input reads as it did. -/
def meaningMisreadSpec : ChangeSpec := { name := "meaningMisread", fn := fun _ => fun
  | [d] => { results := [.lit (.bool true)], args := [d] }
  | _ => none }
def meaningMisreadRow : OpenClaim := { program := "ytandcioiaooocaagreat", sum := "b0f78fe3b704f02a61a1f4eba40ad688b2dc4d4594626ce587ac85952111e273", func := "sheave/sheavelaw14.MeaningMisread", spec := "meaningMisread", inPlace := ["internal/abi.NoEscape"], unfollowed := true, recurses := true, apart := false }
def MeaningMisreadSaid : Prop := meaningMisreadRow.holds Tryz.pinned (OpenSpec.ofChange meaningMisreadSpec)

/-- ITS FALSE NEIGHBOUR: 'it returns false'. Refute it at one input. -/
def meaningMisreadWrong : ChangeSpec := { name := "meaningMisread", fn := fun _ => fun
  | [d] => { results := [.lit (.bool false)], args := [d] }
  | _ => none }
def MeaningMisreadWrongFalsely : Prop := meaningMisreadRow.holds Tryz.pinned (OpenSpec.ofChange meaningMisreadWrong)

/-- 'sheavelaw14.MeaningSelf': WHATEVER THE INPUT: true; the input reads as it did. -/
def meaningSelfSpec : ChangeSpec := { name := "meaningSelf", fn := fun _ => fun
  | [d] => { results := [.lit (.bool true)], args := [d] }
  | _ => none }
def meaningSelfRow : OpenClaim := { program := "ytandcioiaooocaagreat", sum := "b0f78fe3b704f02a61a1f4eba40ad688b2dc4d4594626ce587ac85952111e273", func := "sheave/sheavelaw14.MeaningSelf", spec := "meaningSelf", inPlace := ["internal/abi.NoEscape"], unfollowed := true, recurses := true, apart := false }
def MeaningSelfSaid : Prop := meaningSelfRow.holds Tryz.pinned (OpenSpec.ofChange meaningSelfSpec)

/-- ITS FALSE NEIGHBOUR: 'it returns false'. Refute it at one input. -/
def meaningSelfWrong : ChangeSpec := { name := "meaningSelf", fn := fun _ => fun
  | [d] => { results := [.lit (.bool false)], args := [d] }
  | _ => none }
def MeaningSelfWrongFalsely : Prop := meaningSelfRow.holds Tryz.pinned (OpenSpec.ofChange meaningSelfWrong)

/-- 'sheavelaw14.MeaningTypes': WHATEVER THE INPUT: true; the input reads as it did. -/
def meaningTypesSpec : ChangeSpec := { name := "meaningTypes", fn := fun _ => fun
  | [d1, d2] => { results := [.lit (.bool true)], args := [d1, d2] }
  | _ => none }
def meaningTypesRow : OpenClaim := { program := "ytandcioiaooocaagreat", sum := "b0f78fe3b704f02a61a1f4eba40ad688b2dc4d4594626ce587ac85952111e273", func := "sheave/sheavelaw14.MeaningTypes", spec := "meaningTypes", inPlace := ["internal/abi.NoEscape"], unfollowed := true, recurses := true, apart := false }
def MeaningTypesSaid : Prop := meaningTypesRow.holds Tryz.pinned (OpenSpec.ofChange meaningTypesSpec)

/-- ITS FALSE NEIGHBOUR: 'it returns false'. Refute it at one input. -/
def meaningTypesWrong : ChangeSpec := { name := "meaningTypes", fn := fun _ => fun
  | [d1, d2] => { results := [.lit (.bool false)], args := [d1, d2] }
  | _ => none }
def MeaningTypesWrongFalsely : Prop := meaningTypesRow.holds Tryz.pinned (OpenSpec.ofChange meaningTypesWrong)

/-- 'sheavelaw14.MeaningMeans': WHATEVER THE INPUT: true; the input reads as it did. -/
def meaningMeansSpec : ChangeSpec := { name := "meaningMeans", fn := fun _ => fun
  | [d1, d2] => { results := [.lit (.bool true)], args := [d1, d2] }
  | _ => none }
def meaningMeansRow : OpenClaim := { program := "ytandcioiaooocaagreat", sum := "b0f78fe3b704f02a61a1f4eba40ad688b2dc4d4594626ce587ac85952111e273", func := "sheave/sheavelaw14.MeaningMeans", spec := "meaningMeans", inPlace := ["internal/abi.NoEscape"], unfollowed := true, recurses := true, loops := true, apart := false }
def MeaningMeansSaid : Prop := meaningMeansRow.holds Tryz.pinned (OpenSpec.ofChange meaningMeansSpec)

/-- ITS FALSE NEIGHBOUR: 'it returns false'. Refute it at one input. -/
def meaningMeansWrong : ChangeSpec := { name := "meaningMeans", fn := fun _ => fun
  | [d1, d2] => { results := [.lit (.bool false)], args := [d1, d2] }
  | _ => none }
def MeaningMeansWrongFalsely : Prop := meaningMeansRow.holds Tryz.pinned (OpenSpec.ofChange meaningMeansWrong)

/-- 'sheavelaw14.MeaningErrors': WHATEVER THE INPUT: true; the input reads as it did. -/
def meaningErrorsSpec : ChangeSpec := { name := "meaningErrors", fn := fun _ => fun
  | [d] => { results := [.lit (.bool true)], args := [d] }
  | _ => none }
def meaningErrorsRow : OpenClaim := { program := "ytandcioiaooocaagreat", sum := "b0f78fe3b704f02a61a1f4eba40ad688b2dc4d4594626ce587ac85952111e273", func := "sheave/sheavelaw14.MeaningErrors", spec := "meaningErrors", inPlace := ["internal/abi.NoEscape"], unfollowed := true, recurses := true, loops := true, apart := false }
def MeaningErrorsSaid : Prop := meaningErrorsRow.holds Tryz.pinned (OpenSpec.ofChange meaningErrorsSpec)

/-- ITS FALSE NEIGHBOUR: 'it returns false'. Refute it at one input. -/
def meaningErrorsWrong : ChangeSpec := { name := "meaningErrors", fn := fun _ => fun
  | [d] => { results := [.lit (.bool false)], args := [d] }
  | _ => none }
def MeaningErrorsWrongFalsely : Prop := meaningErrorsRow.holds Tryz.pinned (OpenSpec.ofChange meaningErrorsWrong)

/-- 'sheavelaw14.MeaningDecode': WHATEVER THE INPUT: true; the input reads as it did. -/
def meaningDecodeSpec : ChangeSpec := { name := "meaningDecode", fn := fun _ => fun
  | [d] => { results := [.lit (.bool true)], args := [d] }
  | _ => none }
def meaningDecodeRow : OpenClaim := { program := "ytandcioiaooocaagreat", sum := "b0f78fe3b704f02a61a1f4eba40ad688b2dc4d4594626ce587ac85952111e273", func := "sheave/sheavelaw14.MeaningDecode", spec := "meaningDecode", inPlace := ["internal/abi.NoEscape"], unfollowed := true, recurses := true, apart := false }
def MeaningDecodeSaid : Prop := meaningDecodeRow.holds Tryz.pinned (OpenSpec.ofChange meaningDecodeSpec)

/-- ITS FALSE NEIGHBOUR: 'it returns false'. Refute it at one input. -/
def meaningDecodeWrong : ChangeSpec := { name := "meaningDecode", fn := fun _ => fun
  | [d] => { results := [.lit (.bool false)], args := [d] }
  | _ => none }
def MeaningDecodeWrongFalsely : Prop := meaningDecodeRow.holds Tryz.pinned (OpenSpec.ofChange meaningDecodeWrong)

/-- 'sheavelaw14.MeaningAgree': WHATEVER THE INPUT: true; the input reads as it did. -/
def meaningAgreeSpec : ChangeSpec := { name := "meaningAgree", fn := fun _ => fun
  | [d1, d2, d3] => { results := [.lit (.bool true)], args := [d1, d2, d3] }
  | _ => none }
def meaningAgreeRow : OpenClaim := { program := "ytandcioiaooocaagreat", sum := "b0f78fe3b704f02a61a1f4eba40ad688b2dc4d4594626ce587ac85952111e273", func := "sheave/sheavelaw14.MeaningAgree", spec := "meaningAgree", inPlace := ["internal/abi.NoEscape"], unfollowed := true, recurses := true, loops := true, apart := false }
def MeaningAgreeSaid : Prop := meaningAgreeRow.holds Tryz.pinned (OpenSpec.ofChange meaningAgreeSpec)

/-- ITS FALSE NEIGHBOUR: 'it returns false'. Refute it at one input. -/
def meaningAgreeWrong : ChangeSpec := { name := "meaningAgree", fn := fun _ => fun
  | [d1, d2, d3] => { results := [.lit (.bool false)], args := [d1, d2, d3] }
  | _ => none }
def MeaningAgreeWrongFalsely : Prop := meaningAgreeRow.holds Tryz.pinned (OpenSpec.ofChange meaningAgreeWrong)

/- THE SECOND FORM. 'bulk': how many values and letters a reading holds, each counted each time it is reached (what is shared counts as often as it is met; a slice's spare places count too). A statement '..UptoSaid' is the law's where the arguments, and the package variables that the reading takes, are together of bulk at most 1048576: NARROWER than '..Said'. Prove '..Said' where nothing that the law and all that it calls make is longer than what came in: it says more and counts as full. Else prove '..UptoSaid'. A law counts once. -/
mutual
def uptoBulk {H : Type} : DataW H → Nat
  | .lit (.string bytes) => bytes.length + 1
  | .lit _ => 1
  | .nil => 1
  | .ptr d => uptoBulk d + 1
  | .slice elems spare => uptoBulkAll elems + uptoBulkAll spare + 1
  | .agg parts => uptoBulkAll parts + 1
  | .iface _ d => uptoBulk d + 1
  | .map entries => uptoBulkEntries entries + 1
  | .held _ => 1
def uptoBulkAll {H : Type} : List (DataW H) → Nat
  | [] => 0
  | d :: r => uptoBulk d + uptoBulkAll r
def uptoBulkEntries {H : Type} : List (Lit × DataW H) → Nat
  | [] => 0
  | x :: r => uptoBulkEntry x + uptoBulkEntries r
def uptoBulkEntry {H : Type} : Lit × DataW H → Nat
  | (.string bytes, d) => bytes.length + uptoBulk d + 1
  | (_, d) => uptoBulk d + 1
 end
def uptoSmall : (H : Type) → List (DataW H) → Bool := fun _ ds => decide (uptoBulkAll ds ≤ 1048576)
def OpenSpec.upto (s : _root_.Go.ChangeSpec) : _root_.Go.OpenSpec := { _root_.Go.OpenSpec.ofChange s with cond := some uptoSmall }

/-- 'sheavelaw14.MeaningReading', WHERE WHAT IT READS IS OF BULK AT MOST 1048576: true; the input reads as it did. -/
def meaningReadingUptoRow : OpenClaim := { program := "ytandcioiaooocaagreat", sum := "b0f78fe3b704f02a61a1f4eba40ad688b2dc4d4594626ce587ac85952111e273", func := "sheave/sheavelaw14.MeaningReading", spec := "meaningReading", inPlace := ["internal/abi.NoEscape"], unfollowed := true, recurses := true, apart := false, narrowed := true }
def MeaningReadingUptoSaid : Prop := meaningReadingUptoRow.holds Tryz.pinned (OpenSpec.upto meaningReadingSpec)

/-- 'sheavelaw14.MeaningMisread', WHERE WHAT IT READS IS OF BULK AT MOST 1048576: true; the input reads as it did. -/
def meaningMisreadUptoRow : OpenClaim := { program := "ytandcioiaooocaagreat", sum := "b0f78fe3b704f02a61a1f4eba40ad688b2dc4d4594626ce587ac85952111e273", func := "sheave/sheavelaw14.MeaningMisread", spec := "meaningMisread", inPlace := ["internal/abi.NoEscape"], unfollowed := true, recurses := true, apart := false, narrowed := true }
def MeaningMisreadUptoSaid : Prop := meaningMisreadUptoRow.holds Tryz.pinned (OpenSpec.upto meaningMisreadSpec)

/-- 'sheavelaw14.MeaningSelf', WHERE WHAT IT READS IS OF BULK AT MOST 1048576: true; the input reads as it did. -/
def meaningSelfUptoRow : OpenClaim := { program := "ytandcioiaooocaagreat", sum := "b0f78fe3b704f02a61a1f4eba40ad688b2dc4d4594626ce587ac85952111e273", func := "sheave/sheavelaw14.MeaningSelf", spec := "meaningSelf", inPlace := ["internal/abi.NoEscape"], unfollowed := true, recurses := true, apart := false, narrowed := true }
def MeaningSelfUptoSaid : Prop := meaningSelfUptoRow.holds Tryz.pinned (OpenSpec.upto meaningSelfSpec)

/-- 'sheavelaw14.MeaningTypes', WHERE WHAT IT READS IS OF BULK AT MOST 1048576: true; the input reads as it did. -/
def meaningTypesUptoRow : OpenClaim := { program := "ytandcioiaooocaagreat", sum := "b0f78fe3b704f02a61a1f4eba40ad688b2dc4d4594626ce587ac85952111e273", func := "sheave/sheavelaw14.MeaningTypes", spec := "meaningTypes", inPlace := ["internal/abi.NoEscape"], unfollowed := true, recurses := true, apart := false, narrowed := true }
def MeaningTypesUptoSaid : Prop := meaningTypesUptoRow.holds Tryz.pinned (OpenSpec.upto meaningTypesSpec)

/-- 'sheavelaw14.MeaningMeans', WHERE WHAT IT READS IS OF BULK AT MOST 1048576: true; the input reads as it did. -/
def meaningMeansUptoRow : OpenClaim := { program := "ytandcioiaooocaagreat", sum := "b0f78fe3b704f02a61a1f4eba40ad688b2dc4d4594626ce587ac85952111e273", func := "sheave/sheavelaw14.MeaningMeans", spec := "meaningMeans", inPlace := ["internal/abi.NoEscape"], unfollowed := true, recurses := true, loops := true, apart := false, narrowed := true }
def MeaningMeansUptoSaid : Prop := meaningMeansUptoRow.holds Tryz.pinned (OpenSpec.upto meaningMeansSpec)

/-- 'sheavelaw14.MeaningErrors', WHERE WHAT IT READS IS OF BULK AT MOST 1048576: true; the input reads as it did. -/
def meaningErrorsUptoRow : OpenClaim := { program := "ytandcioiaooocaagreat", sum := "b0f78fe3b704f02a61a1f4eba40ad688b2dc4d4594626ce587ac85952111e273", func := "sheave/sheavelaw14.MeaningErrors", spec := "meaningErrors", inPlace := ["internal/abi.NoEscape"], unfollowed := true, recurses := true, loops := true, apart := false, narrowed := true }
def MeaningErrorsUptoSaid : Prop := meaningErrorsUptoRow.holds Tryz.pinned (OpenSpec.upto meaningErrorsSpec)

/-- 'sheavelaw14.MeaningDecode', WHERE WHAT IT READS IS OF BULK AT MOST 1048576: true; the input reads as it did. -/
def meaningDecodeUptoRow : OpenClaim := { program := "ytandcioiaooocaagreat", sum := "b0f78fe3b704f02a61a1f4eba40ad688b2dc4d4594626ce587ac85952111e273", func := "sheave/sheavelaw14.MeaningDecode", spec := "meaningDecode", inPlace := ["internal/abi.NoEscape"], unfollowed := true, recurses := true, apart := false, narrowed := true }
def MeaningDecodeUptoSaid : Prop := meaningDecodeUptoRow.holds Tryz.pinned (OpenSpec.upto meaningDecodeSpec)

/-- 'sheavelaw14.MeaningAgree', WHERE WHAT IT READS IS OF BULK AT MOST 1048576: true; the input reads as it did. -/
def meaningAgreeUptoRow : OpenClaim := { program := "ytandcioiaooocaagreat", sum := "b0f78fe3b704f02a61a1f4eba40ad688b2dc4d4594626ce587ac85952111e273", func := "sheave/sheavelaw14.MeaningAgree", spec := "meaningAgree", inPlace := ["internal/abi.NoEscape"], unfollowed := true, recurses := true, loops := true, apart := false, narrowed := true }
def MeaningAgreeUptoSaid : Prop := meaningAgreeUptoRow.holds Tryz.pinned (OpenSpec.upto meaningAgreeSpec)

end Rows
end Go.Proofs.YtandcioiaooocaaGreat
