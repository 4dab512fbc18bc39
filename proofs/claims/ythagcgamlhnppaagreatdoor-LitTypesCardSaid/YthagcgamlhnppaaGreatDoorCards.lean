/-
  DERIVED. GIVEN WITH THE SEED: THE CARDS: each row of YthagcgamlhnppaaGreatDoorRows.lean that lists a variable, with what it lists TIED to the program's text (the seventh form; the later family's looks); each row that meets fmt, with fmt's text TOLD by the authors' own Lean function (tested against real Go, not proved from fmt's source: count such statements apart). THE CARD IS WHAT COUNTS. Prove the row's statement (the work); the ties are given (YthagcgamlhnppaaGreatDoorTie.lean); close each card by the builder's one call (the guide's Derived/Test/ToyasCard.lean, 'card_holds'). Laid BY PROGRAM, IN A SANDBOX (cutbox-door.mjs). By AI agents, Wed Nov 11 2026. No macro, syntax, notation, axiom, sorry.
-/
import Derived.Test.YthagcgamlhnppaaGreatDoorRows
import GoSem.ClaimSeven
namespace Go.Proofs.YthagcgamlhnppaaGreatDoor
namespace Rows

/-- THE TIED CARD OF 'cascadelaw09.LitTypes'. -/
def litTypesCard : Claim7 := { stood := { row := litTypesRow, standIns := [], harness := (true, "b0113437bf927ae01dcbdb459388ad5cec6d00a38b6fbd12463b844a573594fd"), looks := true }, kinds := [], alts := [], laidByText := true, laidKinds := [.data, .data, .data, .data, .sentinel, .sentinel, .pinned], laidTests := true, laidLooks := .later }
def LitTypesCardSaid : Prop := Claim7.holds Tryz.pinned (.plain (OpenSpec.ofChange litTypesSpec)) litTypesCard

/-- THE TIED CARD OF 'cascadelaw09.LitReads'. -/
def litReadsCard : Claim7 := { stood := { row := litReadsRow, standIns := [], harness := (true, "b0113437bf927ae01dcbdb459388ad5cec6d00a38b6fbd12463b844a573594fd"), looks := true }, kinds := [], alts := [], laidByText := true, laidKinds := [.data, .data, .data, .data, .sentinel, .sentinel, .pinned], laidTests := true, laidLooks := .later }
def LitReadsCardSaid : Prop := Claim7.holds Tryz.pinned (.plain (OpenSpec.ofChange litReadsSpec)) litReadsCard

/-- THE TIED CARD OF 'cascadelaw09.LitParses'. -/
def litParsesCard : Claim7 := { stood := { row := litParsesRow, standIns := [], harness := (true, "b0113437bf927ae01dcbdb459388ad5cec6d00a38b6fbd12463b844a573594fd"), looks := true }, kinds := [], alts := [], laidByText := true, laidKinds := [.data, .data, .data, .data, .sentinel, .sentinel, .pinned], laidTests := true, laidLooks := .later }
def LitParsesCardSaid : Prop := Claim7.holds Tryz.pinned (.plain (OpenSpec.ofChange litParsesSpec)) litParsesCard

/-- THE TIED CARD OF 'cascadelaw09.LitRight'. -/
def litRightCard : Claim7 := { stood := { row := litRightRow, standIns := [], harness := (true, "b0113437bf927ae01dcbdb459388ad5cec6d00a38b6fbd12463b844a573594fd"), looks := true }, kinds := [], alts := [], laidByText := true, laidKinds := [.data, .data, .data, .data, .sentinel, .sentinel, .pinned], laidTests := true, laidLooks := .later }
def LitRightCardSaid : Prop := Claim7.holds Tryz.pinned (.plain (OpenSpec.ofChange litRightSpec)) litRightCard

/-- THE SECOND FORM's CARD OF 'cascadelaw09.LitTypes'. -/
def litTypesUptoCard : Claim7 := { stood := { row := litTypesUptoRow, standIns := [], harness := (true, "b0113437bf927ae01dcbdb459388ad5cec6d00a38b6fbd12463b844a573594fd"), looks := true }, kinds := [], alts := [], laidByText := true, laidKinds := [.data, .data, .data, .data, .sentinel, .sentinel, .pinned], laidTests := true, laidLooks := .later }
def LitTypesUptoCardSaid : Prop := Claim7.holds Tryz.pinned (.plain (OpenSpec.upto litTypesSpec)) litTypesUptoCard

/-- THE SECOND FORM's CARD OF 'cascadelaw09.LitReads'. -/
def litReadsUptoCard : Claim7 := { stood := { row := litReadsUptoRow, standIns := [], harness := (true, "b0113437bf927ae01dcbdb459388ad5cec6d00a38b6fbd12463b844a573594fd"), looks := true }, kinds := [], alts := [], laidByText := true, laidKinds := [.data, .data, .data, .data, .sentinel, .sentinel, .pinned], laidTests := true, laidLooks := .later }
def LitReadsUptoCardSaid : Prop := Claim7.holds Tryz.pinned (.plain (OpenSpec.upto litReadsSpec)) litReadsUptoCard

/-- THE SECOND FORM's CARD OF 'cascadelaw09.LitParses'. -/
def litParsesUptoCard : Claim7 := { stood := { row := litParsesUptoRow, standIns := [], harness := (true, "b0113437bf927ae01dcbdb459388ad5cec6d00a38b6fbd12463b844a573594fd"), looks := true }, kinds := [], alts := [], laidByText := true, laidKinds := [.data, .data, .data, .data, .sentinel, .sentinel, .pinned], laidTests := true, laidLooks := .later }
def LitParsesUptoCardSaid : Prop := Claim7.holds Tryz.pinned (.plain (OpenSpec.upto litParsesSpec)) litParsesUptoCard

/-- THE SECOND FORM's CARD OF 'cascadelaw09.LitRight'. -/
def litRightUptoCard : Claim7 := { stood := { row := litRightUptoRow, standIns := [], harness := (true, "b0113437bf927ae01dcbdb459388ad5cec6d00a38b6fbd12463b844a573594fd"), looks := true }, kinds := [], alts := [], laidByText := true, laidKinds := [.data, .data, .data, .data, .sentinel, .sentinel, .pinned], laidTests := true, laidLooks := .later }
def LitRightUptoCardSaid : Prop := Claim7.holds Tryz.pinned (.plain (OpenSpec.upto litRightSpec)) litRightUptoCard
end Rows
end Go.Proofs.YthagcgamlhnppaaGreatDoor
