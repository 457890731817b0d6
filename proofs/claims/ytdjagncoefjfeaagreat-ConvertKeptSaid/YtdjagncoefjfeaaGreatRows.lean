/-
  No cell of these rows narrows 'for every input' (looked for: loops, veiled, ifaces, maps, wideKeys, modest, calm, conditions, laid).
  DERIVED. THE GIVEN ROWS OF THIS SEAT. 7 by the template 'for every input the law returns true; each argument reads behind the call as it read before'; 0 by the template 'total and deterministic' (their statements: YtdjagncoefjfeaaGreatTotals.lean).
  GIVEN WITH THE SEED: the statements are not yours to turn. If you find one false, say at which input.
  Laid BY PROGRAM, IN A SANDBOX (cutbox-rows.mjs): the forced cells as the released guide's own fill.sh prints them over the translation 0d1efc70977e1f97… (all of the seat's roots in one cut). By AI agents, Wed Nov 11 2026. No macro, syntax, notation, axiom, sorry.
-/
import Derived.Test.YtdjagncoefjfeaaGreatChecked
import GoSem.Claim
import GoSem.ClaimJoined
import GoSem.ClaimMapViews
import Derived.JoinedTies
import Derived.KernelRfl
namespace Go.Proofs.YtdjagncoefjfeaaGreat
/- THE CELL 'sum', in the pinned program and in every row, IS THE sha256 OF THE DUMP (.gsa) THAT YtdjagncoefjfeaaGreatProg.lean LOADS. Nothing in Lean hashes anything: it is a label: what it is worth is what the hold of that sum in a sandbox is worth. -/
noncomputable def Tryz.pinned : Pinned := { name := "ytdjagncoefjfeaagreat", sum := "0d1efc70977e1f97919d1d5537b6ecc69d652fe662cb2835386605336c4384c9", checked := Tryz.checked }
namespace Rows
def none {H : Type} : Left H := { results := [], args := [] }

/-- 'sheavelaw26.ConvertMessage': WHATEVER THE INPUT: true; the input reads as it did. -/
def convertMessageSpec : ChangeSpec := { name := "convertMessage", fn := fun _ => fun
  | [d] => { results := [.lit (.bool true)], args := [d] }
  | _ => none }
def convertMessageRow : OpenClaim := { program := "ytdjagncoefjfeaagreat", sum := "0d1efc70977e1f97919d1d5537b6ecc69d652fe662cb2835386605336c4384c9", func := "sheave/sheavelaw26.ConvertMessage", spec := "convertMessage", inPlace := ["internal/abi.NoEscape"], unfollowed := true, recurses := true, apart := false }
def ConvertMessageSaid : Prop := convertMessageRow.holds Tryz.pinned (OpenSpec.ofChange convertMessageSpec)

/-- ITS FALSE NEIGHBOUR: 'it returns false'. Refute it at one input. -/
def convertMessageWrong : ChangeSpec := { name := "convertMessage", fn := fun _ => fun
  | [d] => { results := [.lit (.bool false)], args := [d] }
  | _ => none }
def ConvertMessageWrongFalsely : Prop := convertMessageRow.holds Tryz.pinned (OpenSpec.ofChange convertMessageWrong)

/-- 'sheavelaw26.ConvertReading': WHATEVER THE INPUT: true; the input reads as it did. -/
def convertReadingSpec : ChangeSpec := { name := "convertReading", fn := fun _ => fun
  | [d] => { results := [.lit (.bool true)], args := [d] }
  | _ => none }
def convertReadingRow : OpenClaim := { program := "ytdjagncoefjfeaagreat", sum := "0d1efc70977e1f97919d1d5537b6ecc69d652fe662cb2835386605336c4384c9", func := "sheave/sheavelaw26.ConvertReading", spec := "convertReading", inPlace := ["internal/abi.NoEscape"], unfollowed := true, recurses := true, apart := false }
def ConvertReadingSaid : Prop := convertReadingRow.holds Tryz.pinned (OpenSpec.ofChange convertReadingSpec)

/-- ITS FALSE NEIGHBOUR: 'it returns false'. Refute it at one input. -/
def convertReadingWrong : ChangeSpec := { name := "convertReading", fn := fun _ => fun
  | [d] => { results := [.lit (.bool false)], args := [d] }
  | _ => none }
def ConvertReadingWrongFalsely : Prop := convertReadingRow.holds Tryz.pinned (OpenSpec.ofChange convertReadingWrong)

/-- 'sheavelaw26.ConvertSelf': WHATEVER THE INPUT: true; the input reads as it did. -/
def convertSelfSpec : ChangeSpec := { name := "convertSelf", fn := fun _ => fun
  | [d] => { results := [.lit (.bool true)], args := [d] }
  | _ => none }
def convertSelfRow : OpenClaim := { program := "ytdjagncoefjfeaagreat", sum := "0d1efc70977e1f97919d1d5537b6ecc69d652fe662cb2835386605336c4384c9", func := "sheave/sheavelaw26.ConvertSelf", spec := "convertSelf", inPlace := ["internal/abi.NoEscape"], unfollowed := true, recurses := true, apart := false }
def ConvertSelfSaid : Prop := convertSelfRow.holds Tryz.pinned (OpenSpec.ofChange convertSelfSpec)

/-- ITS FALSE NEIGHBOUR: 'it returns false'. Refute it at one input. -/
def convertSelfWrong : ChangeSpec := { name := "convertSelf", fn := fun _ => fun
  | [d] => { results := [.lit (.bool false)], args := [d] }
  | _ => none }
def ConvertSelfWrongFalsely : Prop := convertSelfRow.holds Tryz.pinned (OpenSpec.ofChange convertSelfWrong)

/-- 'sheavelaw26.ConvertKept': WHATEVER THE INPUT: true; the input reads as it did. -/
def convertKeptSpec : ChangeSpec := { name := "convertKept", fn := fun _ => fun
  | [d] => { results := [.lit (.bool true)], args := [d] }
  | _ => none }
def convertKeptRow : OpenClaim := { program := "ytdjagncoefjfeaagreat", sum := "0d1efc70977e1f97919d1d5537b6ecc69d652fe662cb2835386605336c4384c9", func := "sheave/sheavelaw26.ConvertKept", spec := "convertKept", inPlace := ["internal/abi.NoEscape"], unfollowed := true, recurses := true, apart := false }
def ConvertKeptSaid : Prop := convertKeptRow.holds Tryz.pinned (OpenSpec.ofChange convertKeptSpec)

/-- ITS FALSE NEIGHBOUR: 'it returns false'. Refute it at one input. -/
def convertKeptWrong : ChangeSpec := { name := "convertKept", fn := fun _ => fun
  | [d] => { results := [.lit (.bool false)], args := [d] }
  | _ => none }
def ConvertKeptWrongFalsely : Prop := convertKeptRow.holds Tryz.pinned (OpenSpec.ofChange convertKeptWrong)

/-- 'sheavelaw26.ConvertSurvives': WHATEVER THE INPUT: true; the input reads as it did. -/
def convertSurvivesSpec : ChangeSpec := { name := "convertSurvives", fn := fun _ => fun
  | [d] => { results := [.lit (.bool true)], args := [d] }
  | _ => none }
def convertSurvivesRow : OpenClaim := { program := "ytdjagncoefjfeaagreat", sum := "0d1efc70977e1f97919d1d5537b6ecc69d652fe662cb2835386605336c4384c9", func := "sheave/sheavelaw26.ConvertSurvives", spec := "convertSurvives", inPlace := ["internal/abi.NoEscape"], unfollowed := true, recurses := true, apart := false }
def ConvertSurvivesSaid : Prop := convertSurvivesRow.holds Tryz.pinned (OpenSpec.ofChange convertSurvivesSpec)

/-- ITS FALSE NEIGHBOUR: 'it returns false'. Refute it at one input. -/
def convertSurvivesWrong : ChangeSpec := { name := "convertSurvives", fn := fun _ => fun
  | [d] => { results := [.lit (.bool false)], args := [d] }
  | _ => none }
def ConvertSurvivesWrongFalsely : Prop := convertSurvivesRow.holds Tryz.pinned (OpenSpec.ofChange convertSurvivesWrong)

/-- 'sheavelaw26.ConvertAll': WHATEVER THE INPUT: true; the input reads as it did. -/
def convertAllSpec : ChangeSpec := { name := "convertAll", fn := fun _ => fun
  | [d1, d2] => { results := [.lit (.bool true)], args := [d1, d2] }
  | _ => none }
def convertAllRow : OpenClaim := { program := "ytdjagncoefjfeaagreat", sum := "0d1efc70977e1f97919d1d5537b6ecc69d652fe662cb2835386605336c4384c9", func := "sheave/sheavelaw26.ConvertAll", spec := "convertAll", inPlace := ["internal/abi.NoEscape"], unfollowed := true, recurses := true, apart := false }
def ConvertAllSaid : Prop := convertAllRow.holds Tryz.pinned (OpenSpec.ofChange convertAllSpec)

/-- ITS FALSE NEIGHBOUR: 'it returns false'. Refute it at one input. -/
def convertAllWrong : ChangeSpec := { name := "convertAll", fn := fun _ => fun
  | [d1, d2] => { results := [.lit (.bool false)], args := [d1, d2] }
  | _ => none }
def ConvertAllWrongFalsely : Prop := convertAllRow.holds Tryz.pinned (OpenSpec.ofChange convertAllWrong)

/-- 'sheavelaw26.ConvertThrough': WHATEVER THE INPUT: true; the input reads as it did. -/
def convertThroughSpec : ChangeSpec := { name := "convertThrough", fn := fun _ => fun
  | [d1, d2] => { results := [.lit (.bool true)], args := [d1, d2] }
  | _ => none }
def convertThroughRow : OpenClaim := { program := "ytdjagncoefjfeaagreat", sum := "0d1efc70977e1f97919d1d5537b6ecc69d652fe662cb2835386605336c4384c9", func := "sheave/sheavelaw26.ConvertThrough", spec := "convertThrough", inPlace := ["internal/abi.NoEscape"], unfollowed := true, recurses := true, apart := false }
def ConvertThroughSaid : Prop := convertThroughRow.holds Tryz.pinned (OpenSpec.ofChange convertThroughSpec)

/-- ITS FALSE NEIGHBOUR: 'it returns false'. Refute it at one input. -/
def convertThroughWrong : ChangeSpec := { name := "convertThrough", fn := fun _ => fun
  | [d1, d2] => { results := [.lit (.bool false)], args := [d1, d2] }
  | _ => none }
def ConvertThroughWrongFalsely : Prop := convertThroughRow.holds Tryz.pinned (OpenSpec.ofChange convertThroughWrong)

/- THE SECOND FORM. 'bulk': how many values and letters a reading holds, each counted each time it is reached (what is shared counts as often as it is met; a slice's spare places count too). A statement '..UptoSaid' is the law's where the arguments, and the package variables that the reading takes, are together of bulk at most 1048576: NARROWER than '..Said'. Prove '..Said' where nothing that the law and all that it calls make is longer than what came in: it says more and counts as full. Else prove '..UptoSaid'. A law counts once. -/
mutual
def uptoBulk {H : Type} : DataW H → Nat
  | .lit (.string bytes) => bytes.length + 1
  | .lit _ => 1
  | .nil => 1
  | .ptr d => uptoBulk d + 1
  | .slice elems spare => uptoBulkAll elems + uptoBulkAll spare + 1
  | .agg parts => uptoBulkAll parts + 1
  | .iface _ d => uptoBulk d + 1
  | .map entries => uptoBulkEntries entries + 1
  | .held _ => 1
def uptoBulkAll {H : Type} : List (DataW H) → Nat
  | [] => 0
  | d :: r => uptoBulk d + uptoBulkAll r
def uptoBulkEntries {H : Type} : List (Lit × DataW H) → Nat
  | [] => 0
  | x :: r => uptoBulkEntry x + uptoBulkEntries r
def uptoBulkEntry {H : Type} : Lit × DataW H → Nat
  | (.string bytes, d) => bytes.length + uptoBulk d + 1
  | (_, d) => uptoBulk d + 1
 end
def uptoSmall : (H : Type) → List (DataW H) → Bool := fun _ ds => decide (uptoBulkAll ds ≤ 1048576)
def OpenSpec.upto (s : _root_.Go.ChangeSpec) : _root_.Go.OpenSpec := { _root_.Go.OpenSpec.ofChange s with cond := some uptoSmall }

/-- 'sheavelaw26.ConvertMessage', WHERE WHAT IT READS IS OF BULK AT MOST 1048576: true; the input reads as it did. -/
def convertMessageUptoRow : OpenClaim := { program := "ytdjagncoefjfeaagreat", sum := "0d1efc70977e1f97919d1d5537b6ecc69d652fe662cb2835386605336c4384c9", func := "sheave/sheavelaw26.ConvertMessage", spec := "convertMessage", inPlace := ["internal/abi.NoEscape"], unfollowed := true, recurses := true, apart := false, narrowed := true }
def ConvertMessageUptoSaid : Prop := convertMessageUptoRow.holds Tryz.pinned (OpenSpec.upto convertMessageSpec)

/-- 'sheavelaw26.ConvertReading', WHERE WHAT IT READS IS OF BULK AT MOST 1048576: true; the input reads as it did. -/
def convertReadingUptoRow : OpenClaim := { program := "ytdjagncoefjfeaagreat", sum := "0d1efc70977e1f97919d1d5537b6ecc69d652fe662cb2835386605336c4384c9", func := "sheave/sheavelaw26.ConvertReading", spec := "convertReading", inPlace := ["internal/abi.NoEscape"], unfollowed := true, recurses := true, apart := false, narrowed := true }
def ConvertReadingUptoSaid : Prop := convertReadingUptoRow.holds Tryz.pinned (OpenSpec.upto convertReadingSpec)

/-- 'sheavelaw26.ConvertSelf', WHERE WHAT IT READS IS OF BULK AT MOST 1048576: true; the input reads as it did. -/
def convertSelfUptoRow : OpenClaim := { program := "ytdjagncoefjfeaagreat", sum := "0d1efc70977e1f97919d1d5537b6ecc69d652fe662cb2835386605336c4384c9", func := "sheave/sheavelaw26.ConvertSelf", spec := "convertSelf", inPlace := ["internal/abi.NoEscape"], unfollowed := true, recurses := true, apart := false, narrowed := true }
def ConvertSelfUptoSaid : Prop := convertSelfUptoRow.holds Tryz.pinned (OpenSpec.upto convertSelfSpec)

/-- 'sheavelaw26.ConvertKept', WHERE WHAT IT READS IS OF BULK AT MOST 1048576: true; the input reads as it did. -/
def convertKeptUptoRow : OpenClaim := { program := "ytdjagncoefjfeaagreat", sum := "0d1efc70977e1f97919d1d5537b6ecc69d652fe662cb2835386605336c4384c9", func := "sheave/sheavelaw26.ConvertKept", spec := "convertKept", inPlace := ["internal/abi.NoEscape"], unfollowed := true, recurses := true, apart := false, narrowed := true }
def ConvertKeptUptoSaid : Prop := convertKeptUptoRow.holds Tryz.pinned (OpenSpec.upto convertKeptSpec)

/-- 'sheavelaw26.ConvertSurvives', WHERE WHAT IT READS IS OF BULK AT MOST 1048576: true; the input reads as it did. -/
def convertSurvivesUptoRow : OpenClaim := { program := "ytdjagncoefjfeaagreat", sum := "0d1efc70977e1f97919d1d5537b6ecc69d652fe662cb2835386605336c4384c9", func := "sheave/sheavelaw26.ConvertSurvives", spec := "convertSurvives", inPlace := ["internal/abi.NoEscape"], unfollowed := true, recurses := true, apart := false, narrowed := true }
def ConvertSurvivesUptoSaid : Prop := convertSurvivesUptoRow.holds Tryz.pinned (OpenSpec.upto convertSurvivesSpec)

/-- 'sheavelaw26.ConvertAll', WHERE WHAT IT READS IS OF BULK AT MOST 1048576: true; the input reads as it did. -/
def convertAllUptoRow : OpenClaim := { program := "ytdjagncoefjfeaagreat", sum := "0d1efc70977e1f97919d1d5537b6ecc69d652fe662cb2835386605336c4384c9", func := "sheave/sheavelaw26.ConvertAll", spec := "convertAll", inPlace := ["internal/abi.NoEscape"], unfollowed := true, recurses := true, apart := false, narrowed := true }
def ConvertAllUptoSaid : Prop := convertAllUptoRow.holds Tryz.pinned (OpenSpec.upto convertAllSpec)

/-- 'sheavelaw26.ConvertThrough', WHERE WHAT IT READS IS OF BULK AT MOST 1048576: true; the input reads as it did. -/
def convertThroughUptoRow : OpenClaim := { program := "ytdjagncoefjfeaagreat", sum := "0d1efc70977e1f97919d1d5537b6ecc69d652fe662cb2835386605336c4384c9", func := "sheave/sheavelaw26.ConvertThrough", spec := "convertThrough", inPlace := ["internal/abi.NoEscape"], unfollowed := true, recurses := true, apart := false, narrowed := true }
def ConvertThroughUptoSaid : Prop := convertThroughUptoRow.holds Tryz.pinned (OpenSpec.upto convertThroughSpec)

end Rows
end Go.Proofs.YtdjagncoefjfeaaGreat
