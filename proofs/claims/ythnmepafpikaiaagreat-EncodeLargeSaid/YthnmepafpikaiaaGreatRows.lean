/-
  NARROWER THAN 'FOR EVERY INPUT', by the rows' own cells (each row's printed sentence says how): EncodeErrors: loops.
  DERIVED. THE GIVEN ROWS OF THIS SEAT. 8 by the template 'for every input the law returns true; each argument reads behind the call as it read before'; 0 by the template 'total and deterministic' (their statements: YthnmepafpikaiaaGreatTotals.lean).
  GIVEN WITH THE SEED: the statements are not yours to turn. If you find one false, say at which input.
  Laid BY PROGRAM, IN A SANDBOX (cutbox-rows.mjs): the forced cells as the released guide's own fill.sh prints them over the translation 9311ffd296e8079e… (all of the seat's roots in one cut). By AI agents, Wed Nov 11 2026. No macro, syntax, notation, axiom, sorry.
-/
import Derived.Test.YthnmepafpikaiaaGreatChecked
import GoSem.Claim
import GoSem.ClaimJoined
import GoSem.ClaimMapViews
import Derived.JoinedTies
import Derived.KernelRfl
namespace Go.Proofs.YthnmepafpikaiaaGreat
/- THE CELL 'sum', in the pinned program and in every row, IS THE sha256 OF THE DUMP (.gsa) THAT YthnmepafpikaiaaGreatProg.lean LOADS. Nothing in Lean hashes anything: it is a label: what it is worth is what the hold of that sum in a sandbox is worth. -/
noncomputable def Tryz.pinned : Pinned := { name := "ythnmepafpikaiaagreat", sum := "9311ffd296e8079eecf244f6718c67e07e555e84e73df8def9829fc4bda28a63", checked := Tryz.checked }
namespace Rows
def none {H : Type} : Left H := { results := [], args := [] }

/-- 'sheavelaw09.EncodeParts': WHATEVER THE INPUT: true; the input reads as it did. -/
def encodePartsSpec : ChangeSpec := { name := "encodeParts", fn := fun _ => fun
  | [d] => { results := [.lit (.bool true)], args := [d] }
  | _ => none }
def encodePartsRow : OpenClaim := { program := "ythnmepafpikaiaagreat", sum := "9311ffd296e8079eecf244f6718c67e07e555e84e73df8def9829fc4bda28a63", func := "sheave/sheavelaw09.EncodeParts", spec := "encodeParts", inPlace := ["internal/abi.NoEscape"], unfollowed := true, recurses := true, apart := false }
def EncodePartsSaid : Prop := encodePartsRow.holds Tryz.pinned (OpenSpec.ofChange encodePartsSpec)

/-- ITS FALSE NEIGHBOUR: 'it returns false'. Refute it at one input. -/
def encodePartsWrong : ChangeSpec := { name := "encodeParts", fn := fun _ => fun
  | [d] => { results := [.lit (.bool false)], args := [d] }
  | _ => none }
def EncodePartsWrongFalsely : Prop := encodePartsRow.holds Tryz.pinned (OpenSpec.ofChange encodePartsWrong)

/-- 'sheavelaw09.EncodeCanonical': WHATEVER THE INPUT: true; the input reads as it did. -/
def encodeCanonicalSpec : ChangeSpec := { name := "encodeCanonical", fn := fun _ => fun
  | [d1, d2, d3] => { results := [.lit (.bool true)], args := [d1, d2, d3] }
  | _ => none }
def encodeCanonicalRow : OpenClaim := { program := "ythnmepafpikaiaagreat", sum := "9311ffd296e8079eecf244f6718c67e07e555e84e73df8def9829fc4bda28a63", func := "sheave/sheavelaw09.EncodeCanonical", spec := "encodeCanonical", inPlace := ["internal/abi.NoEscape"], unfollowed := true, recurses := true, apart := false }
def EncodeCanonicalSaid : Prop := encodeCanonicalRow.holds Tryz.pinned (OpenSpec.ofChange encodeCanonicalSpec)

/-- ITS FALSE NEIGHBOUR: 'it returns false'. Refute it at one input. -/
def encodeCanonicalWrong : ChangeSpec := { name := "encodeCanonical", fn := fun _ => fun
  | [d1, d2, d3] => { results := [.lit (.bool false)], args := [d1, d2, d3] }
  | _ => none }
def EncodeCanonicalWrongFalsely : Prop := encodeCanonicalRow.holds Tryz.pinned (OpenSpec.ofChange encodeCanonicalWrong)

/-- 'sheavelaw09.EncodeDifferent': WHATEVER THE INPUT: true; the input reads as it did. -/
def encodeDifferentSpec : ChangeSpec := { name := "encodeDifferent", fn := fun _ => fun
  | [d] => { results := [.lit (.bool true)], args := [d] }
  | _ => none }
def encodeDifferentRow : OpenClaim := { program := "ythnmepafpikaiaagreat", sum := "9311ffd296e8079eecf244f6718c67e07e555e84e73df8def9829fc4bda28a63", func := "sheave/sheavelaw09.EncodeDifferent", spec := "encodeDifferent", inPlace := ["internal/abi.NoEscape"], unfollowed := true, recurses := true, apart := false }
def EncodeDifferentSaid : Prop := encodeDifferentRow.holds Tryz.pinned (OpenSpec.ofChange encodeDifferentSpec)

/-- ITS FALSE NEIGHBOUR: 'it returns false'. Refute it at one input. -/
def encodeDifferentWrong : ChangeSpec := { name := "encodeDifferent", fn := fun _ => fun
  | [d] => { results := [.lit (.bool false)], args := [d] }
  | _ => none }
def EncodeDifferentWrongFalsely : Prop := encodeDifferentRow.holds Tryz.pinned (OpenSpec.ofChange encodeDifferentWrong)

/-- 'sheavelaw09.EncodeMessage': WHATEVER THE INPUT: true; the input reads as it did. -/
def encodeMessageSpec : ChangeSpec := { name := "encodeMessage", fn := fun _ => fun
  | [d] => { results := [.lit (.bool true)], args := [d] }
  | _ => none }
def encodeMessageRow : OpenClaim := { program := "ythnmepafpikaiaagreat", sum := "9311ffd296e8079eecf244f6718c67e07e555e84e73df8def9829fc4bda28a63", func := "sheave/sheavelaw09.EncodeMessage", spec := "encodeMessage", inPlace := ["internal/abi.NoEscape"], unfollowed := true, recurses := true, apart := false }
def EncodeMessageSaid : Prop := encodeMessageRow.holds Tryz.pinned (OpenSpec.ofChange encodeMessageSpec)

/-- ITS FALSE NEIGHBOUR: 'it returns false'. Refute it at one input. -/
def encodeMessageWrong : ChangeSpec := { name := "encodeMessage", fn := fun _ => fun
  | [d] => { results := [.lit (.bool false)], args := [d] }
  | _ => none }
def EncodeMessageWrongFalsely : Prop := encodeMessageRow.holds Tryz.pinned (OpenSpec.ofChange encodeMessageWrong)

/-- 'sheavelaw09.EncodeErrors': WHATEVER THE INPUT: true; the input reads as it did. -/
def encodeErrorsSpec : ChangeSpec := { name := "encodeErrors", fn := fun _ => fun
  | [d1, d2, d3] => { results := [.lit (.bool true)], args := [d1, d2, d3] }
  | _ => none }
def encodeErrorsRow : OpenClaim := { program := "ythnmepafpikaiaagreat", sum := "9311ffd296e8079eecf244f6718c67e07e555e84e73df8def9829fc4bda28a63", func := "sheave/sheavelaw09.EncodeErrors", spec := "encodeErrors", inPlace := ["internal/abi.NoEscape"], unfollowed := true, recurses := true, loops := true, apart := false }
def EncodeErrorsSaid : Prop := encodeErrorsRow.holds Tryz.pinned (OpenSpec.ofChange encodeErrorsSpec)

/-- ITS FALSE NEIGHBOUR: 'it returns false'. Refute it at one input. -/
def encodeErrorsWrong : ChangeSpec := { name := "encodeErrors", fn := fun _ => fun
  | [d1, d2, d3] => { results := [.lit (.bool false)], args := [d1, d2, d3] }
  | _ => none }
def EncodeErrorsWrongFalsely : Prop := encodeErrorsRow.holds Tryz.pinned (OpenSpec.ofChange encodeErrorsWrong)

/-- 'sheavelaw09.EncodeField': WHATEVER THE INPUT: true; the input reads as it did. -/
def encodeFieldSpec : ChangeSpec := { name := "encodeField", fn := fun _ => fun
  | [d1, d2, d3] => { results := [.lit (.bool true)], args := [d1, d2, d3] }
  | _ => none }
def encodeFieldRow : OpenClaim := { program := "ythnmepafpikaiaagreat", sum := "9311ffd296e8079eecf244f6718c67e07e555e84e73df8def9829fc4bda28a63", func := "sheave/sheavelaw09.EncodeField", spec := "encodeField", inPlace := ["internal/abi.NoEscape"], unfollowed := true, recurses := true, apart := false }
def EncodeFieldSaid : Prop := encodeFieldRow.holds Tryz.pinned (OpenSpec.ofChange encodeFieldSpec)

/-- ITS FALSE NEIGHBOUR: 'it returns false'. Refute it at one input. -/
def encodeFieldWrong : ChangeSpec := { name := "encodeField", fn := fun _ => fun
  | [d1, d2, d3] => { results := [.lit (.bool false)], args := [d1, d2, d3] }
  | _ => none }
def EncodeFieldWrongFalsely : Prop := encodeFieldRow.holds Tryz.pinned (OpenSpec.ofChange encodeFieldWrong)

/-- 'sheavelaw09.EncodeDivided': WHATEVER THE INPUT: true; the input reads as it did. -/
def encodeDividedSpec : ChangeSpec := { name := "encodeDivided", fn := fun _ => fun
  | [d] => { results := [.lit (.bool true)], args := [d] }
  | _ => none }
def encodeDividedRow : OpenClaim := { program := "ythnmepafpikaiaagreat", sum := "9311ffd296e8079eecf244f6718c67e07e555e84e73df8def9829fc4bda28a63", func := "sheave/sheavelaw09.EncodeDivided", spec := "encodeDivided", inPlace := ["internal/abi.NoEscape"], unfollowed := true, recurses := true, apart := false }
def EncodeDividedSaid : Prop := encodeDividedRow.holds Tryz.pinned (OpenSpec.ofChange encodeDividedSpec)

/-- ITS FALSE NEIGHBOUR: 'it returns false'. Refute it at one input. -/
def encodeDividedWrong : ChangeSpec := { name := "encodeDivided", fn := fun _ => fun
  | [d] => { results := [.lit (.bool false)], args := [d] }
  | _ => none }
def EncodeDividedWrongFalsely : Prop := encodeDividedRow.holds Tryz.pinned (OpenSpec.ofChange encodeDividedWrong)

/-- 'sheavelaw09.EncodeLarge': WHATEVER THE INPUT: true; the input reads as it did. -/
def encodeLargeSpec : ChangeSpec := { name := "encodeLarge", fn := fun _ => fun
  | [d1, d2, d3] => { results := [.lit (.bool true)], args := [d1, d2, d3] }
  | _ => none }
def encodeLargeRow : OpenClaim := { program := "ythnmepafpikaiaagreat", sum := "9311ffd296e8079eecf244f6718c67e07e555e84e73df8def9829fc4bda28a63", func := "sheave/sheavelaw09.EncodeLarge", spec := "encodeLarge", inPlace := ["internal/abi.NoEscape", "internal/bytealg.MakeNoZero"], unfollowed := true, recurses := true, apart := false }
def EncodeLargeSaid : Prop := encodeLargeRow.holds Tryz.pinned (OpenSpec.ofChange encodeLargeSpec)

/-- ITS FALSE NEIGHBOUR: 'it returns false'. Refute it at one input. -/
def encodeLargeWrong : ChangeSpec := { name := "encodeLarge", fn := fun _ => fun
  | [d1, d2, d3] => { results := [.lit (.bool false)], args := [d1, d2, d3] }
  | _ => none }
def EncodeLargeWrongFalsely : Prop := encodeLargeRow.holds Tryz.pinned (OpenSpec.ofChange encodeLargeWrong)

/- THE SECOND FORM. 'bulk': how many values and letters a reading holds, each counted each time it is reached (what is shared counts as often as it is met; a slice's spare places count too). A statement '..UptoSaid' is the law's where the arguments, and the package variables that the reading takes, are together of bulk at most 1048576: NARROWER than '..Said'. Prove '..Said' where nothing that the law and all that it calls make is longer than what came in: it says more and counts as full. Else prove '..UptoSaid'. A law counts once. -/
mutual
def uptoBulk {H : Type} : DataW H → Nat
  | .lit (.string bytes) => bytes.length + 1
  | .lit _ => 1
  | .nil => 1
  | .ptr d => uptoBulk d + 1
  | .slice elems spare => uptoBulkAll elems + uptoBulkAll spare + 1
  | .agg parts => uptoBulkAll parts + 1
  | .iface _ d => uptoBulk d + 1
  | .map entries => uptoBulkEntries entries + 1
  | .held _ => 1
def uptoBulkAll {H : Type} : List (DataW H) → Nat
  | [] => 0
  | d :: r => uptoBulk d + uptoBulkAll r
def uptoBulkEntries {H : Type} : List (Lit × DataW H) → Nat
  | [] => 0
  | x :: r => uptoBulkEntry x + uptoBulkEntries r
def uptoBulkEntry {H : Type} : Lit × DataW H → Nat
  | (.string bytes, d) => bytes.length + uptoBulk d + 1
  | (_, d) => uptoBulk d + 1
 end
def uptoSmall : (H : Type) → List (DataW H) → Bool := fun _ ds => decide (uptoBulkAll ds ≤ 1048576)
def OpenSpec.upto (s : _root_.Go.ChangeSpec) : _root_.Go.OpenSpec := { _root_.Go.OpenSpec.ofChange s with cond := some uptoSmall }

/-- 'sheavelaw09.EncodeParts', WHERE WHAT IT READS IS OF BULK AT MOST 1048576: true; the input reads as it did. -/
def encodePartsUptoRow : OpenClaim := { program := "ythnmepafpikaiaagreat", sum := "9311ffd296e8079eecf244f6718c67e07e555e84e73df8def9829fc4bda28a63", func := "sheave/sheavelaw09.EncodeParts", spec := "encodeParts", inPlace := ["internal/abi.NoEscape"], unfollowed := true, recurses := true, apart := false, narrowed := true }
def EncodePartsUptoSaid : Prop := encodePartsUptoRow.holds Tryz.pinned (OpenSpec.upto encodePartsSpec)

/-- 'sheavelaw09.EncodeCanonical', WHERE WHAT IT READS IS OF BULK AT MOST 1048576: true; the input reads as it did. -/
def encodeCanonicalUptoRow : OpenClaim := { program := "ythnmepafpikaiaagreat", sum := "9311ffd296e8079eecf244f6718c67e07e555e84e73df8def9829fc4bda28a63", func := "sheave/sheavelaw09.EncodeCanonical", spec := "encodeCanonical", inPlace := ["internal/abi.NoEscape"], unfollowed := true, recurses := true, apart := false, narrowed := true }
def EncodeCanonicalUptoSaid : Prop := encodeCanonicalUptoRow.holds Tryz.pinned (OpenSpec.upto encodeCanonicalSpec)

/-- 'sheavelaw09.EncodeDifferent', WHERE WHAT IT READS IS OF BULK AT MOST 1048576: true; the input reads as it did. -/
def encodeDifferentUptoRow : OpenClaim := { program := "ythnmepafpikaiaagreat", sum := "9311ffd296e8079eecf244f6718c67e07e555e84e73df8def9829fc4bda28a63", func := "sheave/sheavelaw09.EncodeDifferent", spec := "encodeDifferent", inPlace := ["internal/abi.NoEscape"], unfollowed := true, recurses := true, apart := false, narrowed := true }
def EncodeDifferentUptoSaid : Prop := encodeDifferentUptoRow.holds Tryz.pinned (OpenSpec.upto encodeDifferentSpec)

/-- 'sheavelaw09.EncodeMessage', WHERE WHAT IT READS IS OF BULK AT MOST 1048576: true; the input reads as it did. -/
def encodeMessageUptoRow : OpenClaim := { program := "ythnmepafpikaiaagreat", sum := "9311ffd296e8079eecf244f6718c67e07e555e84e73df8def9829fc4bda28a63", func := "sheave/sheavelaw09.EncodeMessage", spec := "encodeMessage", inPlace := ["internal/abi.NoEscape"], unfollowed := true, recurses := true, apart := false, narrowed := true }
def EncodeMessageUptoSaid : Prop := encodeMessageUptoRow.holds Tryz.pinned (OpenSpec.upto encodeMessageSpec)

/-- 'sheavelaw09.EncodeErrors', WHERE WHAT IT READS IS OF BULK AT MOST 1048576: true; the input reads as it did. -/
def encodeErrorsUptoRow : OpenClaim := { program := "ythnmepafpikaiaagreat", sum := "9311ffd296e8079eecf244f6718c67e07e555e84e73df8def9829fc4bda28a63", func := "sheave/sheavelaw09.EncodeErrors", spec := "encodeErrors", inPlace := ["internal/abi.NoEscape"], unfollowed := true, recurses := true, loops := true, apart := false, narrowed := true }
def EncodeErrorsUptoSaid : Prop := encodeErrorsUptoRow.holds Tryz.pinned (OpenSpec.upto encodeErrorsSpec)

/-- 'sheavelaw09.EncodeField', WHERE WHAT IT READS IS OF BULK AT MOST 1048576: true; the input reads as it did. -/
def encodeFieldUptoRow : OpenClaim := { program := "ythnmepafpikaiaagreat", sum := "9311ffd296e8079eecf244f6718c67e07e555e84e73df8def9829fc4bda28a63", func := "sheave/sheavelaw09.EncodeField", spec := "encodeField", inPlace := ["internal/abi.NoEscape"], unfollowed := true, recurses := true, apart := false, narrowed := true }
def EncodeFieldUptoSaid : Prop := encodeFieldUptoRow.holds Tryz.pinned (OpenSpec.upto encodeFieldSpec)

/-- 'sheavelaw09.EncodeDivided', WHERE WHAT IT READS IS OF BULK AT MOST 1048576: true; the input reads as it did. -/
def encodeDividedUptoRow : OpenClaim := { program := "ythnmepafpikaiaagreat", sum := "9311ffd296e8079eecf244f6718c67e07e555e84e73df8def9829fc4bda28a63", func := "sheave/sheavelaw09.EncodeDivided", spec := "encodeDivided", inPlace := ["internal/abi.NoEscape"], unfollowed := true, recurses := true, apart := false, narrowed := true }
def EncodeDividedUptoSaid : Prop := encodeDividedUptoRow.holds Tryz.pinned (OpenSpec.upto encodeDividedSpec)

/-- 'sheavelaw09.EncodeLarge', WHERE WHAT IT READS IS OF BULK AT MOST 1048576: true; the input reads as it did. -/
def encodeLargeUptoRow : OpenClaim := { program := "ythnmepafpikaiaagreat", sum := "9311ffd296e8079eecf244f6718c67e07e555e84e73df8def9829fc4bda28a63", func := "sheave/sheavelaw09.EncodeLarge", spec := "encodeLarge", inPlace := ["internal/abi.NoEscape", "internal/bytealg.MakeNoZero"], unfollowed := true, recurses := true, apart := false, narrowed := true }
def EncodeLargeUptoSaid : Prop := encodeLargeUptoRow.holds Tryz.pinned (OpenSpec.upto encodeLargeSpec)

end Rows
end Go.Proofs.YthnmepafpikaiaaGreat
