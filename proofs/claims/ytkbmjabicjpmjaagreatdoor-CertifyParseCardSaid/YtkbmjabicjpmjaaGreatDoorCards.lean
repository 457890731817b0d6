/-
  DERIVED. GIVEN WITH THE SEED: THE CARDS: each row of YtkbmjabicjpmjaaGreatDoorRows.lean that lists a variable, with what it lists TIED to the program's text (the seventh form; the later family's looks); each row that meets fmt, with fmt's text TOLD by the authors' own Lean function (tested against real Go, not proved from fmt's source: count such statements apart). THE CARD IS WHAT COUNTS. Prove the row's statement (the work); the ties are given (YtkbmjabicjpmjaaGreatDoorTie.lean); close each card by the builder's one call (the guide's Derived/Test/ToyasCard.lean, 'card_holds'). Laid BY PROGRAM, IN A SANDBOX (cutbox-door.mjs). By AI agents, Wed Nov 11 2026. No macro, syntax, notation, axiom, sorry.
-/
import Derived.Test.YtkbmjabicjpmjaaGreatDoorRows
import GoSem.ClaimSeven
namespace Go.Proofs.YtkbmjabicjpmjaaGreatDoor
namespace Rows

/-- THE TIED CARD OF 'sheavelaw21.CertifyRelation'. -/
def certifyRelationCard : Claim7 := { stood := { row := certifyRelationRow, standIns := [], harness := (true, "3b285d9c6a17fb36c0427ec59b8b8315546b8d8b8184c5ec67fd70d7a8c1116c"), looks := true }, kinds := [], alts := [], laidByText := true, laidKinds := [.data, .data, .data], laidTests := true, laidLooks := .later }
def CertifyRelationCardSaid : Prop := Claim7.holds Tryz.pinned (.plain (OpenSpec.ofChange certifyRelationSpec)) certifyRelationCard

/-- THE TIED CARD OF 'sheavelaw21.CertifyComplete'. -/
def certifyCompleteCard : Claim7 := { stood := { row := certifyCompleteRow, standIns := [], harness := (true, "3b285d9c6a17fb36c0427ec59b8b8315546b8d8b8184c5ec67fd70d7a8c1116c"), looks := true }, kinds := [], alts := [], laidByText := true, laidKinds := [.data, .data, .data], laidTests := true, laidLooks := .later }
def CertifyCompleteCardSaid : Prop := Claim7.holds Tryz.pinned (.plain (OpenSpec.ofChange certifyCompleteSpec)) certifyCompleteCard

/-- THE TIED CARD OF 'sheavelaw21.CertifyPath'. -/
def certifyPathCard : Claim7 := { stood := { row := certifyPathRow, standIns := [], harness := (true, "3b285d9c6a17fb36c0427ec59b8b8315546b8d8b8184c5ec67fd70d7a8c1116c"), looks := true }, kinds := [], alts := [], laidByText := true, laidKinds := [.data, .data, .data], laidTests := true, laidLooks := .later }
def CertifyPathCardSaid : Prop := Claim7.holds Tryz.pinned (.plain (OpenSpec.ofChange certifyPathSpec)) certifyPathCard

/-- THE TIED CARD OF 'sheavelaw21.CertifyMessage'. -/
def certifyMessageCard : Claim7 := { stood := { row := certifyMessageRow, standIns := [], harness := (true, "3b285d9c6a17fb36c0427ec59b8b8315546b8d8b8184c5ec67fd70d7a8c1116c"), looks := true }, kinds := [], alts := [], laidByText := true, laidKinds := [.data, .data, .data], laidTests := true, laidLooks := .later }
def CertifyMessageCardSaid : Prop := Claim7.holds Tryz.pinned (.plain (OpenSpec.ofChange certifyMessageSpec)) certifyMessageCard

/-- THE TIED CARD OF 'sheavelaw21.CertifyValue'. -/
def certifyValueCard : Claim7 := { stood := { row := certifyValueRow, standIns := [], harness := (true, "3b285d9c6a17fb36c0427ec59b8b8315546b8d8b8184c5ec67fd70d7a8c1116c"), looks := true }, kinds := [], alts := [], laidByText := true, laidKinds := [.data, .data, .data], laidTests := true, laidLooks := .later }
def CertifyValueCardSaid : Prop := Claim7.holds Tryz.pinned (.plain (OpenSpec.ofChange certifyValueSpec)) certifyValueCard

/-- THE TIED CARD OF 'sheavelaw21.CertifyCheck'. -/
def certifyCheckCard : Claim7 := { stood := { row := certifyCheckRow, standIns := [], harness := (true, "3b285d9c6a17fb36c0427ec59b8b8315546b8d8b8184c5ec67fd70d7a8c1116c"), looks := true }, kinds := [], alts := [], laidByText := true, laidKinds := [.data, .data, .data], laidTests := true, laidLooks := .later }
def CertifyCheckCardSaid : Prop := Claim7.holds Tryz.pinned (.plain (OpenSpec.ofChange certifyCheckSpec)) certifyCheckCard

/-- THE TIED CARD OF 'sheavelaw21.CertifyText'. -/
def certifyTextCard : Claim7 := { stood := { row := certifyTextRow, standIns := [], harness := (true, "3b285d9c6a17fb36c0427ec59b8b8315546b8d8b8184c5ec67fd70d7a8c1116c"), looks := true }, kinds := [], alts := [], laidByText := true, laidKinds := [.data, .data, .data, .data, .sentinel, .sentinel, .pinned], laidTests := true, laidLooks := .later }
def CertifyTextCardSaid : Prop := Claim7.holds Tryz.pinned (.plain (OpenSpec.ofChange certifyTextSpec)) certifyTextCard

/-- THE TIED CARD OF 'sheavelaw21.CertifyParse'. -/
def certifyParseCard : Claim7 := { stood := { row := certifyParseRow, standIns := [], harness := (true, "3b285d9c6a17fb36c0427ec59b8b8315546b8d8b8184c5ec67fd70d7a8c1116c"), looks := true }, kinds := [], alts := [], laidByText := true, laidKinds := [.data, .data, .data, .data, .sentinel, .sentinel, .pinned], laidTests := true, laidLooks := .later }
def CertifyParseCardSaid : Prop := Claim7.holds Tryz.pinned (.plain (OpenSpec.ofChange certifyParseSpec)) certifyParseCard

/-- THE SECOND FORM's CARD OF 'sheavelaw21.CertifyRelation'. -/
def certifyRelationUptoCard : Claim7 := { stood := { row := certifyRelationUptoRow, standIns := [], harness := (true, "3b285d9c6a17fb36c0427ec59b8b8315546b8d8b8184c5ec67fd70d7a8c1116c"), looks := true }, kinds := [], alts := [], laidByText := true, laidKinds := [.data, .data, .data], laidTests := true, laidLooks := .later }
def CertifyRelationUptoCardSaid : Prop := Claim7.holds Tryz.pinned (.plain (OpenSpec.upto certifyRelationSpec)) certifyRelationUptoCard

/-- THE SECOND FORM's CARD OF 'sheavelaw21.CertifyComplete'. -/
def certifyCompleteUptoCard : Claim7 := { stood := { row := certifyCompleteUptoRow, standIns := [], harness := (true, "3b285d9c6a17fb36c0427ec59b8b8315546b8d8b8184c5ec67fd70d7a8c1116c"), looks := true }, kinds := [], alts := [], laidByText := true, laidKinds := [.data, .data, .data], laidTests := true, laidLooks := .later }
def CertifyCompleteUptoCardSaid : Prop := Claim7.holds Tryz.pinned (.plain (OpenSpec.upto certifyCompleteSpec)) certifyCompleteUptoCard

/-- THE SECOND FORM's CARD OF 'sheavelaw21.CertifyPath'. -/
def certifyPathUptoCard : Claim7 := { stood := { row := certifyPathUptoRow, standIns := [], harness := (true, "3b285d9c6a17fb36c0427ec59b8b8315546b8d8b8184c5ec67fd70d7a8c1116c"), looks := true }, kinds := [], alts := [], laidByText := true, laidKinds := [.data, .data, .data], laidTests := true, laidLooks := .later }
def CertifyPathUptoCardSaid : Prop := Claim7.holds Tryz.pinned (.plain (OpenSpec.upto certifyPathSpec)) certifyPathUptoCard

/-- THE SECOND FORM's CARD OF 'sheavelaw21.CertifyMessage'. -/
def certifyMessageUptoCard : Claim7 := { stood := { row := certifyMessageUptoRow, standIns := [], harness := (true, "3b285d9c6a17fb36c0427ec59b8b8315546b8d8b8184c5ec67fd70d7a8c1116c"), looks := true }, kinds := [], alts := [], laidByText := true, laidKinds := [.data, .data, .data], laidTests := true, laidLooks := .later }
def CertifyMessageUptoCardSaid : Prop := Claim7.holds Tryz.pinned (.plain (OpenSpec.upto certifyMessageSpec)) certifyMessageUptoCard

/-- THE SECOND FORM's CARD OF 'sheavelaw21.CertifyValue'. -/
def certifyValueUptoCard : Claim7 := { stood := { row := certifyValueUptoRow, standIns := [], harness := (true, "3b285d9c6a17fb36c0427ec59b8b8315546b8d8b8184c5ec67fd70d7a8c1116c"), looks := true }, kinds := [], alts := [], laidByText := true, laidKinds := [.data, .data, .data], laidTests := true, laidLooks := .later }
def CertifyValueUptoCardSaid : Prop := Claim7.holds Tryz.pinned (.plain (OpenSpec.upto certifyValueSpec)) certifyValueUptoCard

/-- THE SECOND FORM's CARD OF 'sheavelaw21.CertifyCheck'. -/
def certifyCheckUptoCard : Claim7 := { stood := { row := certifyCheckUptoRow, standIns := [], harness := (true, "3b285d9c6a17fb36c0427ec59b8b8315546b8d8b8184c5ec67fd70d7a8c1116c"), looks := true }, kinds := [], alts := [], laidByText := true, laidKinds := [.data, .data, .data], laidTests := true, laidLooks := .later }
def CertifyCheckUptoCardSaid : Prop := Claim7.holds Tryz.pinned (.plain (OpenSpec.upto certifyCheckSpec)) certifyCheckUptoCard

/-- THE SECOND FORM's CARD OF 'sheavelaw21.CertifyText'. -/
def certifyTextUptoCard : Claim7 := { stood := { row := certifyTextUptoRow, standIns := [], harness := (true, "3b285d9c6a17fb36c0427ec59b8b8315546b8d8b8184c5ec67fd70d7a8c1116c"), looks := true }, kinds := [], alts := [], laidByText := true, laidKinds := [.data, .data, .data, .data, .sentinel, .sentinel, .pinned], laidTests := true, laidLooks := .later }
def CertifyTextUptoCardSaid : Prop := Claim7.holds Tryz.pinned (.plain (OpenSpec.upto certifyTextSpec)) certifyTextUptoCard

/-- THE SECOND FORM's CARD OF 'sheavelaw21.CertifyParse'. -/
def certifyParseUptoCard : Claim7 := { stood := { row := certifyParseUptoRow, standIns := [], harness := (true, "3b285d9c6a17fb36c0427ec59b8b8315546b8d8b8184c5ec67fd70d7a8c1116c"), looks := true }, kinds := [], alts := [], laidByText := true, laidKinds := [.data, .data, .data, .data, .sentinel, .sentinel, .pinned], laidTests := true, laidLooks := .later }
def CertifyParseUptoCardSaid : Prop := Claim7.holds Tryz.pinned (.plain (OpenSpec.upto certifyParseSpec)) certifyParseUptoCard
end Rows
end Go.Proofs.YtkbmjabicjpmjaaGreatDoor
