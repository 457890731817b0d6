/-
  DERIVED. GIVEN WITH THE SEED: THE CARDS: each row of YtfcnkdegapjgnaaGreatDoorRows.lean that lists a variable, with what it lists TIED to the program's text (the seventh form; the later family's looks); each row that meets fmt, with fmt's text TOLD by the authors' own Lean function (tested against real Go, not proved from fmt's source: count such statements apart). THE CARD IS WHAT COUNTS. Prove the row's statement (the work); the ties are given (YtfcnkdegapjgnaaGreatDoorTie.lean); close each card by the builder's one call (the guide's Derived/Test/ToyasCard.lean, 'card_holds'). Laid BY PROGRAM, IN A SANDBOX (cutbox-door.mjs). By AI agents, Wed Nov 11 2026. No macro, syntax, notation, axiom, sorry.
-/
import Derived.Test.YtfcnkdegapjgnaaGreatDoorRows
import GoSem.ClaimSeven
namespace Go.Proofs.YtfcnkdegapjgnaaGreatDoor
namespace Rows

/-- THE TIED CARD OF 'sheavetop.TopReadings'. -/
def topReadingsCard : Claim7 := { stood := { row := topReadingsRow, standIns := [], harness := (true, "bda40b8949e1d184136f3958d5f985d915529d6fbb506f233cd558ab37c60d94"), looks := true }, kinds := [], alts := [], laidByText := true, laidKinds := [.data, .data, .data, .sentinel, .sentinel, .widerDeep], laidTests := true, laidLooks := .later }
def TopReadingsCardSaid : Prop := Claim7.holds Tryz.pinned (.plain (OpenSpec.ofChange topReadingsSpec)) topReadingsCard

/-- THE SECOND FORM's CARD OF 'sheavetop.TopReadings'. -/
def topReadingsUptoCard : Claim7 := { stood := { row := topReadingsUptoRow, standIns := [], harness := (true, "bda40b8949e1d184136f3958d5f985d915529d6fbb506f233cd558ab37c60d94"), looks := true }, kinds := [], alts := [], laidByText := true, laidKinds := [.data, .data, .data, .sentinel, .sentinel, .widerDeep], laidTests := true, laidLooks := .later }
def TopReadingsUptoCardSaid : Prop := Claim7.holds Tryz.pinned (.plain (OpenSpec.upto topReadingsSpec)) topReadingsUptoCard
end Rows
end Go.Proofs.YtfcnkdegapjgnaaGreatDoor
