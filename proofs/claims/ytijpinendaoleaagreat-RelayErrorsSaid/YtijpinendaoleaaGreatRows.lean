/-
  NARROWER THAN 'FOR EVERY INPUT', by the rows' own cells (each row's printed sentence says how): RelayErrors: loops.
  DERIVED. THE GIVEN ROWS OF THIS SEAT. 7 by the template 'for every input the law returns true; each argument reads behind the call as it read before'; 0 by the template 'total and deterministic' (their statements: YtijpinendaoleaaGreatTotals.lean).
  GIVEN WITH THE SEED: the statements are not yours to turn. If you find one false, say at which input.
  Laid BY PROGRAM, IN A SANDBOX (cutbox-rows.mjs): the forced cells as the released guide's own fill.sh prints them over the translation 6975a90e8b7b7893… (all of the seat's roots in one cut). By AI agents, Wed Nov 11 2026. No macro, syntax, notation, axiom, sorry.
-/
import Derived.Test.YtijpinendaoleaaGreatChecked
import GoSem.Claim
import GoSem.ClaimJoined
import GoSem.ClaimMapViews
import Derived.JoinedTies
import Derived.KernelRfl
namespace Go.Proofs.YtijpinendaoleaaGreat
/- THE CELL 'sum', in the pinned program and in every row, IS THE sha256 OF THE DUMP (.gsa) THAT YtijpinendaoleaaGreatProg.lean LOADS. Nothing in Lean hashes anything: it is a label: what it is worth is what the hold of that sum in a sandbox is worth. -/
noncomputable def Tryz.pinned : Pinned := { name := "ytijpinendaoleaagreat", sum := "6975a90e8b7b7893b62f02f33bb3700519d407c32ce9dc5d1581e31dd629ec0d", checked := Tryz.checked }
namespace Rows
def none {H : Type} : Left H := { results := [], args := [] }

/-- 'sheavelaw13.RelayForward': WHATEVER THE INPUT: true; the input reads as it did. -/
def relayForwardSpec : ChangeSpec := { name := "relayForward", fn := fun _ => fun
  | [d1, d2, d3] => { results := [.lit (.bool true)], args := [d1, d2, d3] }
  | _ => none }
def relayForwardRow : OpenClaim := { program := "ytijpinendaoleaagreat", sum := "6975a90e8b7b7893b62f02f33bb3700519d407c32ce9dc5d1581e31dd629ec0d", func := "sheave/sheavelaw13.RelayForward", spec := "relayForward", inPlace := ["internal/abi.NoEscape"], unfollowed := true, recurses := true, apart := false }
def RelayForwardSaid : Prop := relayForwardRow.holds Tryz.pinned (OpenSpec.ofChange relayForwardSpec)

/-- ITS FALSE NEIGHBOUR: 'it returns false'. Refute it at one input. -/
def relayForwardWrong : ChangeSpec := { name := "relayForward", fn := fun _ => fun
  | [d1, d2, d3] => { results := [.lit (.bool false)], args := [d1, d2, d3] }
  | _ => none }
def RelayForwardWrongFalsely : Prop := relayForwardRow.holds Tryz.pinned (OpenSpec.ofChange relayForwardWrong)

/-- 'sheavelaw13.RelayParts': WHATEVER THE INPUT: true; the input reads as it did. -/
def relayPartsSpec : ChangeSpec := { name := "relayParts", fn := fun _ => fun
  | [d] => { results := [.lit (.bool true)], args := [d] }
  | _ => none }
def relayPartsRow : OpenClaim := { program := "ytijpinendaoleaagreat", sum := "6975a90e8b7b7893b62f02f33bb3700519d407c32ce9dc5d1581e31dd629ec0d", func := "sheave/sheavelaw13.RelayParts", spec := "relayParts", inPlace := ["internal/abi.NoEscape"], unfollowed := true, recurses := true, apart := false }
def RelayPartsSaid : Prop := relayPartsRow.holds Tryz.pinned (OpenSpec.ofChange relayPartsSpec)

/-- ITS FALSE NEIGHBOUR: 'it returns false'. Refute it at one input. -/
def relayPartsWrong : ChangeSpec := { name := "relayParts", fn := fun _ => fun
  | [d] => { results := [.lit (.bool false)], args := [d] }
  | _ => none }
def RelayPartsWrongFalsely : Prop := relayPartsRow.holds Tryz.pinned (OpenSpec.ofChange relayPartsWrong)

/-- 'sheavelaw13.RelayChain': WHATEVER THE INPUT: true; the input reads as it did. -/
def relayChainSpec : ChangeSpec := { name := "relayChain", fn := fun _ => fun
  | [d] => { results := [.lit (.bool true)], args := [d] }
  | _ => none }
def relayChainRow : OpenClaim := { program := "ytijpinendaoleaagreat", sum := "6975a90e8b7b7893b62f02f33bb3700519d407c32ce9dc5d1581e31dd629ec0d", func := "sheave/sheavelaw13.RelayChain", spec := "relayChain", inPlace := ["internal/abi.NoEscape"], unfollowed := true, recurses := true, apart := false }
def RelayChainSaid : Prop := relayChainRow.holds Tryz.pinned (OpenSpec.ofChange relayChainSpec)

/-- ITS FALSE NEIGHBOUR: 'it returns false'. Refute it at one input. -/
def relayChainWrong : ChangeSpec := { name := "relayChain", fn := fun _ => fun
  | [d] => { results := [.lit (.bool false)], args := [d] }
  | _ => none }
def RelayChainWrongFalsely : Prop := relayChainRow.holds Tryz.pinned (OpenSpec.ofChange relayChainWrong)

/-- 'sheavelaw13.RelayStrip': WHATEVER THE INPUT: true; the input reads as it did. -/
def relayStripSpec : ChangeSpec := { name := "relayStrip", fn := fun _ => fun
  | [d] => { results := [.lit (.bool true)], args := [d] }
  | _ => none }
def relayStripRow : OpenClaim := { program := "ytijpinendaoleaagreat", sum := "6975a90e8b7b7893b62f02f33bb3700519d407c32ce9dc5d1581e31dd629ec0d", func := "sheave/sheavelaw13.RelayStrip", spec := "relayStrip", inPlace := ["internal/abi.NoEscape"], unfollowed := true, recurses := true, apart := false }
def RelayStripSaid : Prop := relayStripRow.holds Tryz.pinned (OpenSpec.ofChange relayStripSpec)

/-- ITS FALSE NEIGHBOUR: 'it returns false'. Refute it at one input. -/
def relayStripWrong : ChangeSpec := { name := "relayStrip", fn := fun _ => fun
  | [d] => { results := [.lit (.bool false)], args := [d] }
  | _ => none }
def RelayStripWrongFalsely : Prop := relayStripRow.holds Tryz.pinned (OpenSpec.ofChange relayStripWrong)

/-- 'sheavelaw13.RelayCarry': WHATEVER THE INPUT: true; the input reads as it did. -/
def relayCarrySpec : ChangeSpec := { name := "relayCarry", fn := fun _ => fun
  | [d] => { results := [.lit (.bool true)], args := [d] }
  | _ => none }
def relayCarryRow : OpenClaim := { program := "ytijpinendaoleaagreat", sum := "6975a90e8b7b7893b62f02f33bb3700519d407c32ce9dc5d1581e31dd629ec0d", func := "sheave/sheavelaw13.RelayCarry", spec := "relayCarry", inPlace := ["internal/abi.NoEscape"], unfollowed := true, recurses := true, apart := false }
def RelayCarrySaid : Prop := relayCarryRow.holds Tryz.pinned (OpenSpec.ofChange relayCarrySpec)

/-- ITS FALSE NEIGHBOUR: 'it returns false'. Refute it at one input. -/
def relayCarryWrong : ChangeSpec := { name := "relayCarry", fn := fun _ => fun
  | [d] => { results := [.lit (.bool false)], args := [d] }
  | _ => none }
def RelayCarryWrongFalsely : Prop := relayCarryRow.holds Tryz.pinned (OpenSpec.ofChange relayCarryWrong)

/-- 'sheavelaw13.RelayErrors': WHATEVER THE INPUT: true; the input reads as it did. -/
def relayErrorsSpec : ChangeSpec := { name := "relayErrors", fn := fun _ => fun
  | [d1, d2, d3] => { results := [.lit (.bool true)], args := [d1, d2, d3] }
  | _ => none }
def relayErrorsRow : OpenClaim := { program := "ytijpinendaoleaagreat", sum := "6975a90e8b7b7893b62f02f33bb3700519d407c32ce9dc5d1581e31dd629ec0d", func := "sheave/sheavelaw13.RelayErrors", spec := "relayErrors", inPlace := ["internal/abi.NoEscape"], unfollowed := true, recurses := true, loops := true, apart := false }
def RelayErrorsSaid : Prop := relayErrorsRow.holds Tryz.pinned (OpenSpec.ofChange relayErrorsSpec)

/-- ITS FALSE NEIGHBOUR: 'it returns false'. Refute it at one input. -/
def relayErrorsWrong : ChangeSpec := { name := "relayErrors", fn := fun _ => fun
  | [d1, d2, d3] => { results := [.lit (.bool false)], args := [d1, d2, d3] }
  | _ => none }
def RelayErrorsWrongFalsely : Prop := relayErrorsRow.holds Tryz.pinned (OpenSpec.ofChange relayErrorsWrong)

/-- 'sheavelaw13.RelayTransparent': WHATEVER THE INPUT: true; the input reads as it did. -/
def relayTransparentSpec : ChangeSpec := { name := "relayTransparent", fn := fun _ => fun
  | [d1, d2, d3] => { results := [.lit (.bool true)], args := [d1, d2, d3] }
  | _ => none }
def relayTransparentRow : OpenClaim := { program := "ytijpinendaoleaagreat", sum := "6975a90e8b7b7893b62f02f33bb3700519d407c32ce9dc5d1581e31dd629ec0d", func := "sheave/sheavelaw13.RelayTransparent", spec := "relayTransparent", inPlace := ["internal/abi.NoEscape"], unfollowed := true, recurses := true, apart := false }
def RelayTransparentSaid : Prop := relayTransparentRow.holds Tryz.pinned (OpenSpec.ofChange relayTransparentSpec)

/-- ITS FALSE NEIGHBOUR: 'it returns false'. Refute it at one input. -/
def relayTransparentWrong : ChangeSpec := { name := "relayTransparent", fn := fun _ => fun
  | [d1, d2, d3] => { results := [.lit (.bool false)], args := [d1, d2, d3] }
  | _ => none }
def RelayTransparentWrongFalsely : Prop := relayTransparentRow.holds Tryz.pinned (OpenSpec.ofChange relayTransparentWrong)

/- THE SECOND FORM. 'bulk': how many values and letters a reading holds, each counted each time it is reached (what is shared counts as often as it is met; a slice's spare places count too). A statement '..UptoSaid' is the law's where the arguments, and the package variables that the reading takes, are together of bulk at most 1048576: NARROWER than '..Said'. Prove '..Said' where nothing that the law and all that it calls make is longer than what came in: it says more and counts as full. Else prove '..UptoSaid'. A law counts once. -/
mutual
def uptoBulk {H : Type} : DataW H → Nat
  | .lit (.string bytes) => bytes.length + 1
  | .lit _ => 1
  | .nil => 1
  | .ptr d => uptoBulk d + 1
  | .slice elems spare => uptoBulkAll elems + uptoBulkAll spare + 1
  | .agg parts => uptoBulkAll parts + 1
  | .iface _ d => uptoBulk d + 1
  | .map entries => uptoBulkEntries entries + 1
  | .held _ => 1
def uptoBulkAll {H : Type} : List (DataW H) → Nat
  | [] => 0
  | d :: r => uptoBulk d + uptoBulkAll r
def uptoBulkEntries {H : Type} : List (Lit × DataW H) → Nat
  | [] => 0
  | x :: r => uptoBulkEntry x + uptoBulkEntries r
def uptoBulkEntry {H : Type} : Lit × DataW H → Nat
  | (.string bytes, d) => bytes.length + uptoBulk d + 1
  | (_, d) => uptoBulk d + 1
 end
def uptoSmall : (H : Type) → List (DataW H) → Bool := fun _ ds => decide (uptoBulkAll ds ≤ 1048576)
def OpenSpec.upto (s : _root_.Go.ChangeSpec) : _root_.Go.OpenSpec := { _root_.Go.OpenSpec.ofChange s with cond := some uptoSmall }

/-- 'sheavelaw13.RelayForward', WHERE WHAT IT READS IS OF BULK AT MOST 1048576: true; the input reads as it did. -/
def relayForwardUptoRow : OpenClaim := { program := "ytijpinendaoleaagreat", sum := "6975a90e8b7b7893b62f02f33bb3700519d407c32ce9dc5d1581e31dd629ec0d", func := "sheave/sheavelaw13.RelayForward", spec := "relayForward", inPlace := ["internal/abi.NoEscape"], unfollowed := true, recurses := true, apart := false, narrowed := true }
def RelayForwardUptoSaid : Prop := relayForwardUptoRow.holds Tryz.pinned (OpenSpec.upto relayForwardSpec)

/-- 'sheavelaw13.RelayParts', WHERE WHAT IT READS IS OF BULK AT MOST 1048576: true; the input reads as it did. -/
def relayPartsUptoRow : OpenClaim := { program := "ytijpinendaoleaagreat", sum := "6975a90e8b7b7893b62f02f33bb3700519d407c32ce9dc5d1581e31dd629ec0d", func := "sheave/sheavelaw13.RelayParts", spec := "relayParts", inPlace := ["internal/abi.NoEscape"], unfollowed := true, recurses := true, apart := false, narrowed := true }
def RelayPartsUptoSaid : Prop := relayPartsUptoRow.holds Tryz.pinned (OpenSpec.upto relayPartsSpec)

/-- 'sheavelaw13.RelayChain', WHERE WHAT IT READS IS OF BULK AT MOST 1048576: true; the input reads as it did. -/
def relayChainUptoRow : OpenClaim := { program := "ytijpinendaoleaagreat", sum := "6975a90e8b7b7893b62f02f33bb3700519d407c32ce9dc5d1581e31dd629ec0d", func := "sheave/sheavelaw13.RelayChain", spec := "relayChain", inPlace := ["internal/abi.NoEscape"], unfollowed := true, recurses := true, apart := false, narrowed := true }
def RelayChainUptoSaid : Prop := relayChainUptoRow.holds Tryz.pinned (OpenSpec.upto relayChainSpec)

/-- 'sheavelaw13.RelayStrip', WHERE WHAT IT READS IS OF BULK AT MOST 1048576: true; the input reads as it did. -/
def relayStripUptoRow : OpenClaim := { program := "ytijpinendaoleaagreat", sum := "6975a90e8b7b7893b62f02f33bb3700519d407c32ce9dc5d1581e31dd629ec0d", func := "sheave/sheavelaw13.RelayStrip", spec := "relayStrip", inPlace := ["internal/abi.NoEscape"], unfollowed := true, recurses := true, apart := false, narrowed := true }
def RelayStripUptoSaid : Prop := relayStripUptoRow.holds Tryz.pinned (OpenSpec.upto relayStripSpec)

/-- 'sheavelaw13.RelayCarry', WHERE WHAT IT READS IS OF BULK AT MOST 1048576: true; the input reads as it did. -/
def relayCarryUptoRow : OpenClaim := { program := "ytijpinendaoleaagreat", sum := "6975a90e8b7b7893b62f02f33bb3700519d407c32ce9dc5d1581e31dd629ec0d", func := "sheave/sheavelaw13.RelayCarry", spec := "relayCarry", inPlace := ["internal/abi.NoEscape"], unfollowed := true, recurses := true, apart := false, narrowed := true }
def RelayCarryUptoSaid : Prop := relayCarryUptoRow.holds Tryz.pinned (OpenSpec.upto relayCarrySpec)

/-- 'sheavelaw13.RelayErrors', WHERE WHAT IT READS IS OF BULK AT MOST 1048576: true; the input reads as it did. -/
def relayErrorsUptoRow : OpenClaim := { program := "ytijpinendaoleaagreat", sum := "6975a90e8b7b7893b62f02f33bb3700519d407c32ce9dc5d1581e31dd629ec0d", func := "sheave/sheavelaw13.RelayErrors", spec := "relayErrors", inPlace := ["internal/abi.NoEscape"], unfollowed := true, recurses := true, loops := true, apart := false, narrowed := true }
def RelayErrorsUptoSaid : Prop := relayErrorsUptoRow.holds Tryz.pinned (OpenSpec.upto relayErrorsSpec)

/-- 'sheavelaw13.RelayTransparent', WHERE WHAT IT READS IS OF BULK AT MOST 1048576: true; the input reads as it did. -/
def relayTransparentUptoRow : OpenClaim := { program := "ytijpinendaoleaagreat", sum := "6975a90e8b7b7893b62f02f33bb3700519d407c32ce9dc5d1581e31dd629ec0d", func := "sheave/sheavelaw13.RelayTransparent", spec := "relayTransparent", inPlace := ["internal/abi.NoEscape"], unfollowed := true, recurses := true, apart := false, narrowed := true }
def RelayTransparentUptoSaid : Prop := relayTransparentUptoRow.holds Tryz.pinned (OpenSpec.upto relayTransparentSpec)

end Rows
end Go.Proofs.YtijpinendaoleaaGreat
