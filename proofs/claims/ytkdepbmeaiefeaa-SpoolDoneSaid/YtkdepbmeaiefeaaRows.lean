/-
  No cell of these rows narrows 'for every input' (looked for: loops, veiled, ifaces, maps, wideKeys, modest, calm, conditions, laid).
  DERIVED. THE GIVEN ROWS OF THIS SEAT. 7 by the template 'for every input the law returns true; each argument reads behind the call as it read before'; 0 by the template 'total and deterministic' (their statements: YtkdepbmeaiefeaaTotals.lean).
  GIVEN WITH THE SEED: the statements are not yours to turn. If you find one false, say at which input.
  Laid BY PROGRAM, IN A SANDBOX (cutbox-rows.mjs): the forced cells as the released guide's own fill.sh prints them over the translation 8e2f57518b6ed62b… (all of the seat's roots in one cut). By AI agents, Wed Nov 11 2026. No macro, syntax, notation, axiom, sorry.
-/
import Derived.Test.YtkdepbmeaiefeaaChecked
import GoSem.Claim
import GoSem.ClaimJoined
import GoSem.ClaimMapViews
import Derived.JoinedTies
import Derived.KernelRfl
namespace Go.Proofs.Ytkdepbmeaiefeaa
/- THE CELL 'sum', in the pinned program and in every row, IS THE sha256 OF THE DUMP (.gsa) THAT YtkdepbmeaiefeaaProg.lean LOADS. Nothing in Lean hashes anything: it is a label: what it is worth is what the hold of that sum in a sandbox is worth. -/
noncomputable def Try.pinned : Pinned := { name := "ytkdepbmeaiefeaa", sum := "8e2f57518b6ed62bf57ca52aeeeff258aa4b8ac0e155d8f4e3d8ec9ded9c4efc", checked := Try.checked }
namespace Rows
def none {H : Type} : Left H := { results := [], args := [] }

/-- 'sheavelaw51.SpoolValid': WHATEVER THE INPUT: true; the input reads as it did. -/
def spoolValidSpec : ChangeSpec := { name := "spoolValid", fn := fun _ => fun
  | [d] => { results := [.lit (.bool true)], args := [d] }
  | _ => none }
def spoolValidRow : OpenClaim := { program := "ytkdepbmeaiefeaa", sum := "8e2f57518b6ed62bf57ca52aeeeff258aa4b8ac0e155d8f4e3d8ec9ded9c4efc", func := "sheave/sheavelaw51.SpoolValid", spec := "spoolValid", unfollowed := true, recurses := true, apart := false }
def SpoolValidSaid : Prop := spoolValidRow.holds Try.pinned (OpenSpec.ofChange spoolValidSpec)

/-- ITS FALSE NEIGHBOUR: 'it returns false'. Refute it at one input. -/
def spoolValidWrong : ChangeSpec := { name := "spoolValid", fn := fun _ => fun
  | [d] => { results := [.lit (.bool false)], args := [d] }
  | _ => none }
def SpoolValidWrongFalsely : Prop := spoolValidRow.holds Try.pinned (OpenSpec.ofChange spoolValidWrong)

/-- 'sheavelaw51.SpoolPut': WHATEVER THE INPUT: true; the input reads as it did. -/
def spoolPutSpec : ChangeSpec := { name := "spoolPut", fn := fun _ => fun
  | [d1, d2, d3] => { results := [.lit (.bool true)], args := [d1, d2, d3] }
  | _ => none }
def spoolPutRow : OpenClaim := { program := "ytkdepbmeaiefeaa", sum := "8e2f57518b6ed62bf57ca52aeeeff258aa4b8ac0e155d8f4e3d8ec9ded9c4efc", func := "sheave/sheavelaw51.SpoolPut", spec := "spoolPut", unfollowed := true, recurses := true, apart := false }
def SpoolPutSaid : Prop := spoolPutRow.holds Try.pinned (OpenSpec.ofChange spoolPutSpec)

/-- ITS FALSE NEIGHBOUR: 'it returns false'. Refute it at one input. -/
def spoolPutWrong : ChangeSpec := { name := "spoolPut", fn := fun _ => fun
  | [d1, d2, d3] => { results := [.lit (.bool false)], args := [d1, d2, d3] }
  | _ => none }
def SpoolPutWrongFalsely : Prop := spoolPutRow.holds Try.pinned (OpenSpec.ofChange spoolPutWrong)

/-- 'sheavelaw51.SpoolRewrite': WHATEVER THE INPUT: true; the input reads as it did. -/
def spoolRewriteSpec : ChangeSpec := { name := "spoolRewrite", fn := fun _ => fun
  | [d1, d2] => { results := [.lit (.bool true)], args := [d1, d2] }
  | _ => none }
def spoolRewriteRow : OpenClaim := { program := "ytkdepbmeaiefeaa", sum := "8e2f57518b6ed62bf57ca52aeeeff258aa4b8ac0e155d8f4e3d8ec9ded9c4efc", func := "sheave/sheavelaw51.SpoolRewrite", spec := "spoolRewrite", unfollowed := true, recurses := true, apart := false }
def SpoolRewriteSaid : Prop := spoolRewriteRow.holds Try.pinned (OpenSpec.ofChange spoolRewriteSpec)

/-- ITS FALSE NEIGHBOUR: 'it returns false'. Refute it at one input. -/
def spoolRewriteWrong : ChangeSpec := { name := "spoolRewrite", fn := fun _ => fun
  | [d1, d2] => { results := [.lit (.bool false)], args := [d1, d2] }
  | _ => none }
def SpoolRewriteWrongFalsely : Prop := spoolRewriteRow.holds Try.pinned (OpenSpec.ofChange spoolRewriteWrong)

/-- 'sheavelaw51.SpoolQueue': WHATEVER THE INPUT: true; the input reads as it did. -/
def spoolQueueSpec : ChangeSpec := { name := "spoolQueue", fn := fun _ => fun
  | [d1, d2] => { results := [.lit (.bool true)], args := [d1, d2] }
  | _ => none }
def spoolQueueRow : OpenClaim := { program := "ytkdepbmeaiefeaa", sum := "8e2f57518b6ed62bf57ca52aeeeff258aa4b8ac0e155d8f4e3d8ec9ded9c4efc", func := "sheave/sheavelaw51.SpoolQueue", spec := "spoolQueue", unfollowed := true, recurses := true, apart := false }
def SpoolQueueSaid : Prop := spoolQueueRow.holds Try.pinned (OpenSpec.ofChange spoolQueueSpec)

/-- ITS FALSE NEIGHBOUR: 'it returns false'. Refute it at one input. -/
def spoolQueueWrong : ChangeSpec := { name := "spoolQueue", fn := fun _ => fun
  | [d1, d2] => { results := [.lit (.bool false)], args := [d1, d2] }
  | _ => none }
def SpoolQueueWrongFalsely : Prop := spoolQueueRow.holds Try.pinned (OpenSpec.ofChange spoolQueueWrong)

/-- 'sheavelaw51.SpoolPortions': WHATEVER THE INPUT: true; the input reads as it did. -/
def spoolPortionsSpec : ChangeSpec := { name := "spoolPortions", fn := fun _ => fun
  | [d1, d2, d3] => { results := [.lit (.bool true)], args := [d1, d2, d3] }
  | _ => none }
def spoolPortionsRow : OpenClaim := { program := "ytkdepbmeaiefeaa", sum := "8e2f57518b6ed62bf57ca52aeeeff258aa4b8ac0e155d8f4e3d8ec9ded9c4efc", func := "sheave/sheavelaw51.SpoolPortions", spec := "spoolPortions", unfollowed := true, recurses := true, apart := false }
def SpoolPortionsSaid : Prop := spoolPortionsRow.holds Try.pinned (OpenSpec.ofChange spoolPortionsSpec)

/-- ITS FALSE NEIGHBOUR: 'it returns false'. Refute it at one input. -/
def spoolPortionsWrong : ChangeSpec := { name := "spoolPortions", fn := fun _ => fun
  | [d1, d2, d3] => { results := [.lit (.bool false)], args := [d1, d2, d3] }
  | _ => none }
def SpoolPortionsWrongFalsely : Prop := spoolPortionsRow.holds Try.pinned (OpenSpec.ofChange spoolPortionsWrong)

/-- 'sheavelaw51.SpoolDone': WHATEVER THE INPUT: true; the input reads as it did. -/
def spoolDoneSpec : ChangeSpec := { name := "spoolDone", fn := fun _ => fun
  | [d1, d2, d3] => { results := [.lit (.bool true)], args := [d1, d2, d3] }
  | _ => none }
def spoolDoneRow : OpenClaim := { program := "ytkdepbmeaiefeaa", sum := "8e2f57518b6ed62bf57ca52aeeeff258aa4b8ac0e155d8f4e3d8ec9ded9c4efc", func := "sheave/sheavelaw51.SpoolDone", spec := "spoolDone", unfollowed := true, recurses := true, apart := false }
def SpoolDoneSaid : Prop := spoolDoneRow.holds Try.pinned (OpenSpec.ofChange spoolDoneSpec)

/-- ITS FALSE NEIGHBOUR: 'it returns false'. Refute it at one input. -/
def spoolDoneWrong : ChangeSpec := { name := "spoolDone", fn := fun _ => fun
  | [d1, d2, d3] => { results := [.lit (.bool false)], args := [d1, d2, d3] }
  | _ => none }
def SpoolDoneWrongFalsely : Prop := spoolDoneRow.holds Try.pinned (OpenSpec.ofChange spoolDoneWrong)

/-- 'sheavelaw51.SpoolTake': WHATEVER THE INPUT: true; the input reads as it did. -/
def spoolTakeSpec : ChangeSpec := { name := "spoolTake", fn := fun _ => fun
  | [d1, d2] => { results := [.lit (.bool true)], args := [d1, d2] }
  | _ => none }
def spoolTakeRow : OpenClaim := { program := "ytkdepbmeaiefeaa", sum := "8e2f57518b6ed62bf57ca52aeeeff258aa4b8ac0e155d8f4e3d8ec9ded9c4efc", func := "sheave/sheavelaw51.SpoolTake", spec := "spoolTake", unfollowed := true, recurses := true, apart := false }
def SpoolTakeSaid : Prop := spoolTakeRow.holds Try.pinned (OpenSpec.ofChange spoolTakeSpec)

/-- ITS FALSE NEIGHBOUR: 'it returns false'. Refute it at one input. -/
def spoolTakeWrong : ChangeSpec := { name := "spoolTake", fn := fun _ => fun
  | [d1, d2] => { results := [.lit (.bool false)], args := [d1, d2] }
  | _ => none }
def SpoolTakeWrongFalsely : Prop := spoolTakeRow.holds Try.pinned (OpenSpec.ofChange spoolTakeWrong)

/- THE SECOND FORM. 'bulk': how many values and letters a reading holds, each counted each time it is reached (what is shared counts as often as it is met; a slice's spare places count too). A statement '..UptoSaid' is the law's where the arguments, and the package variables that the reading takes, are together of bulk at most 1048576: NARROWER than '..Said'. Prove '..Said' where nothing that the law and all that it calls make is longer than what came in: it says more and counts as full. Else prove '..UptoSaid'. A law counts once. -/
mutual
def uptoBulk {H : Type} : DataW H → Nat
  | .lit (.string bytes) => bytes.length + 1
  | .lit _ => 1
  | .nil => 1
  | .ptr d => uptoBulk d + 1
  | .slice elems spare => uptoBulkAll elems + uptoBulkAll spare + 1
  | .agg parts => uptoBulkAll parts + 1
  | .iface _ d => uptoBulk d + 1
  | .map entries => uptoBulkEntries entries + 1
  | .held _ => 1
def uptoBulkAll {H : Type} : List (DataW H) → Nat
  | [] => 0
  | d :: r => uptoBulk d + uptoBulkAll r
def uptoBulkEntries {H : Type} : List (Lit × DataW H) → Nat
  | [] => 0
  | x :: r => uptoBulkEntry x + uptoBulkEntries r
def uptoBulkEntry {H : Type} : Lit × DataW H → Nat
  | (.string bytes, d) => bytes.length + uptoBulk d + 1
  | (_, d) => uptoBulk d + 1
 end
def uptoSmall : (H : Type) → List (DataW H) → Bool := fun _ ds => decide (uptoBulkAll ds ≤ 1048576)
def OpenSpec.upto (s : _root_.Go.ChangeSpec) : _root_.Go.OpenSpec := { _root_.Go.OpenSpec.ofChange s with cond := some uptoSmall }

/-- 'sheavelaw51.SpoolValid', WHERE WHAT IT READS IS OF BULK AT MOST 1048576: true; the input reads as it did. -/
def spoolValidUptoRow : OpenClaim := { program := "ytkdepbmeaiefeaa", sum := "8e2f57518b6ed62bf57ca52aeeeff258aa4b8ac0e155d8f4e3d8ec9ded9c4efc", func := "sheave/sheavelaw51.SpoolValid", spec := "spoolValid", unfollowed := true, recurses := true, apart := false, narrowed := true }
def SpoolValidUptoSaid : Prop := spoolValidUptoRow.holds Try.pinned (OpenSpec.upto spoolValidSpec)

/-- 'sheavelaw51.SpoolPut', WHERE WHAT IT READS IS OF BULK AT MOST 1048576: true; the input reads as it did. -/
def spoolPutUptoRow : OpenClaim := { program := "ytkdepbmeaiefeaa", sum := "8e2f57518b6ed62bf57ca52aeeeff258aa4b8ac0e155d8f4e3d8ec9ded9c4efc", func := "sheave/sheavelaw51.SpoolPut", spec := "spoolPut", unfollowed := true, recurses := true, apart := false, narrowed := true }
def SpoolPutUptoSaid : Prop := spoolPutUptoRow.holds Try.pinned (OpenSpec.upto spoolPutSpec)

/-- 'sheavelaw51.SpoolRewrite', WHERE WHAT IT READS IS OF BULK AT MOST 1048576: true; the input reads as it did. -/
def spoolRewriteUptoRow : OpenClaim := { program := "ytkdepbmeaiefeaa", sum := "8e2f57518b6ed62bf57ca52aeeeff258aa4b8ac0e155d8f4e3d8ec9ded9c4efc", func := "sheave/sheavelaw51.SpoolRewrite", spec := "spoolRewrite", unfollowed := true, recurses := true, apart := false, narrowed := true }
def SpoolRewriteUptoSaid : Prop := spoolRewriteUptoRow.holds Try.pinned (OpenSpec.upto spoolRewriteSpec)

/-- 'sheavelaw51.SpoolQueue', WHERE WHAT IT READS IS OF BULK AT MOST 1048576: true; the input reads as it did. -/
def spoolQueueUptoRow : OpenClaim := { program := "ytkdepbmeaiefeaa", sum := "8e2f57518b6ed62bf57ca52aeeeff258aa4b8ac0e155d8f4e3d8ec9ded9c4efc", func := "sheave/sheavelaw51.SpoolQueue", spec := "spoolQueue", unfollowed := true, recurses := true, apart := false, narrowed := true }
def SpoolQueueUptoSaid : Prop := spoolQueueUptoRow.holds Try.pinned (OpenSpec.upto spoolQueueSpec)

/-- 'sheavelaw51.SpoolPortions', WHERE WHAT IT READS IS OF BULK AT MOST 1048576: true; the input reads as it did. -/
def spoolPortionsUptoRow : OpenClaim := { program := "ytkdepbmeaiefeaa", sum := "8e2f57518b6ed62bf57ca52aeeeff258aa4b8ac0e155d8f4e3d8ec9ded9c4efc", func := "sheave/sheavelaw51.SpoolPortions", spec := "spoolPortions", unfollowed := true, recurses := true, apart := false, narrowed := true }
def SpoolPortionsUptoSaid : Prop := spoolPortionsUptoRow.holds Try.pinned (OpenSpec.upto spoolPortionsSpec)

/-- 'sheavelaw51.SpoolDone', WHERE WHAT IT READS IS OF BULK AT MOST 1048576: true; the input reads as it did. -/
def spoolDoneUptoRow : OpenClaim := { program := "ytkdepbmeaiefeaa", sum := "8e2f57518b6ed62bf57ca52aeeeff258aa4b8ac0e155d8f4e3d8ec9ded9c4efc", func := "sheave/sheavelaw51.SpoolDone", spec := "spoolDone", unfollowed := true, recurses := true, apart := false, narrowed := true }
def SpoolDoneUptoSaid : Prop := spoolDoneUptoRow.holds Try.pinned (OpenSpec.upto spoolDoneSpec)

/-- 'sheavelaw51.SpoolTake', WHERE WHAT IT READS IS OF BULK AT MOST 1048576: true; the input reads as it did. -/
def spoolTakeUptoRow : OpenClaim := { program := "ytkdepbmeaiefeaa", sum := "8e2f57518b6ed62bf57ca52aeeeff258aa4b8ac0e155d8f4e3d8ec9ded9c4efc", func := "sheave/sheavelaw51.SpoolTake", spec := "spoolTake", unfollowed := true, recurses := true, apart := false, narrowed := true }
def SpoolTakeUptoSaid : Prop := spoolTakeUptoRow.holds Try.pinned (OpenSpec.upto spoolTakeSpec)

end Rows
end Go.Proofs.Ytkdepbmeaiefeaa
