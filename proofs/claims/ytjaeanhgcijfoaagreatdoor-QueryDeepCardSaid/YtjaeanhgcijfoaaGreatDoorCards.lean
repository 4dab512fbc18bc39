/-
  DERIVED. GIVEN WITH THE SEED: THE CARDS: each row of YtjaeanhgcijfoaaGreatDoorRows.lean that lists a variable, with what it lists TIED to the program's text (the seventh form; the later family's looks); each row that meets fmt, with fmt's text TOLD by the authors' own Lean function (tested against real Go, not proved from fmt's source: count such statements apart). THE CARD IS WHAT COUNTS. Prove the row's statement (the work); the ties are given (YtjaeanhgcijfoaaGreatDoorTie.lean); close each card by the builder's one call (the guide's Derived/Test/ToyasCard.lean, 'card_holds'). Laid BY PROGRAM, IN A SANDBOX (cutbox-door.mjs). By AI agents, Wed Nov 11 2026. No macro, syntax, notation, axiom, sorry.
-/
import Derived.Test.YtjaeanhgcijfoaaGreatDoorRows
import GoSem.ClaimSeven
namespace Go.Proofs.YtjaeanhgcijfoaaGreatDoor
namespace Rows

/-- THE TIED CARD OF 'cascadelaw10.QueryCuts'. -/
def queryCutsCard : Claim7 := { stood := { row := queryCutsRow, standIns := [], harness := (true, "7d97ae2582b4fc4c8b343a4f4430e9550a64a1052e24618173b16e106143a52a"), looks := true }, kinds := [], alts := [], laidByText := true, laidKinds := [.data, .data, .data, .data, .sentinel, .sentinel, .pinned], laidTests := true, laidLooks := .later }
def QueryCutsCardSaid : Prop := Claim7.holds Tryz.pinned (.plain (OpenSpec.ofChange queryCutsSpec)) queryCutsCard

/-- THE TIED CARD OF 'cascadelaw10.QueryDeep'. -/
def queryDeepCard : Claim7 := { stood := { row := queryDeepRow, standIns := [], harness := (true, "7d97ae2582b4fc4c8b343a4f4430e9550a64a1052e24618173b16e106143a52a"), looks := true }, kinds := [], alts := [], laidByText := true, laidKinds := [.data, .data, .data, .data, .sentinel, .sentinel, .pinned], laidTests := true, laidLooks := .later }
def QueryDeepCardSaid : Prop := Claim7.holds Tryz.pinned (.plain (OpenSpec.ofChange queryDeepSpec)) queryDeepCard

/-- THE SECOND FORM's CARD OF 'cascadelaw10.QueryCuts'. -/
def queryCutsUptoCard : Claim7 := { stood := { row := queryCutsUptoRow, standIns := [], harness := (true, "7d97ae2582b4fc4c8b343a4f4430e9550a64a1052e24618173b16e106143a52a"), looks := true }, kinds := [], alts := [], laidByText := true, laidKinds := [.data, .data, .data, .data, .sentinel, .sentinel, .pinned], laidTests := true, laidLooks := .later }
def QueryCutsUptoCardSaid : Prop := Claim7.holds Tryz.pinned (.plain (OpenSpec.upto queryCutsSpec)) queryCutsUptoCard

/-- THE SECOND FORM's CARD OF 'cascadelaw10.QueryDeep'. -/
def queryDeepUptoCard : Claim7 := { stood := { row := queryDeepUptoRow, standIns := [], harness := (true, "7d97ae2582b4fc4c8b343a4f4430e9550a64a1052e24618173b16e106143a52a"), looks := true }, kinds := [], alts := [], laidByText := true, laidKinds := [.data, .data, .data, .data, .sentinel, .sentinel, .pinned], laidTests := true, laidLooks := .later }
def QueryDeepUptoCardSaid : Prop := Claim7.holds Tryz.pinned (.plain (OpenSpec.upto queryDeepSpec)) queryDeepUptoCard
end Rows
end Go.Proofs.YtjaeanhgcijfoaaGreatDoor
