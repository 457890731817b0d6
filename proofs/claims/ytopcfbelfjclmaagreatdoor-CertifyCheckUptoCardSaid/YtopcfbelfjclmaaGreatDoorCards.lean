/-
  DERIVED. GIVEN WITH THE SEED: THE CARDS: each row of YtopcfbelfjclmaaGreatDoorRows.lean that lists a variable, with what it lists TIED to the program's text (the seventh form; the later family's looks); each row that meets fmt, with fmt's text TOLD by the authors' own Lean function (tested against real Go, not proved from fmt's source: count such statements apart). THE CARD IS WHAT COUNTS. Prove the row's statement (the work); the ties are given (YtopcfbelfjclmaaGreatDoorTie.lean); close each card by the builder's one call (the guide's Derived/Test/ToyasCard.lean, 'card_holds'). Laid BY PROGRAM, IN A SANDBOX (cutbox-door.mjs). By AI agents, Wed Nov 11 2026. No macro, syntax, notation, axiom, sorry.
-/
import Derived.Test.YtopcfbelfjclmaaGreatDoorRows
import GoSem.ClaimSeven
namespace Go.Proofs.YtopcfbelfjclmaaGreatDoor
namespace Rows

/-- THE TIED CARD OF 'sheavelaw21.CertifyCheck'. -/
def certifyCheckCard : Claim7 := { stood := { row := certifyCheckRow, standIns := [], harness := (true, "be5e2f4204c076c8826c038efdb5c1d862b99035a622440831938946ebf3c67e"), looks := false }, kinds := [], alts := [], laidByText := true, laidKinds := [.data, .data, .data], laidTests := true, laidLooks := .later }
def CertifyCheckCardSaid : Prop := Claim7.holds Tryz.pinned (.plain (OpenSpec.ofChange certifyCheckSpec)) certifyCheckCard

/-- THE SECOND FORM's CARD OF 'sheavelaw21.CertifyCheck'. -/
def certifyCheckUptoCard : Claim7 := { stood := { row := certifyCheckUptoRow, standIns := [], harness := (true, "be5e2f4204c076c8826c038efdb5c1d862b99035a622440831938946ebf3c67e"), looks := false }, kinds := [], alts := [], laidByText := true, laidKinds := [.data, .data, .data], laidTests := true, laidLooks := .later }
def CertifyCheckUptoCardSaid : Prop := Claim7.holds Tryz.pinned (.plain (OpenSpec.upto certifyCheckSpec)) certifyCheckUptoCard
end Rows
end Go.Proofs.YtopcfbelfjclmaaGreatDoor
