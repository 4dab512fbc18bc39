/-
  DERIVED. GIVEN WITH THE SEED: THE CARDS: each row of YtpcmcnifbdpfaaaDoorRows.lean that lists a variable, with what it lists TIED to the program's text (the seventh form; the later family's looks); each row that meets fmt, with fmt's text TOLD by the authors' own Lean function (tested against real Go, not proved from fmt's source: count such statements apart). THE CARD IS WHAT COUNTS. Prove the row's statement (the work); the ties are given (YtpcmcnifbdpfaaaDoorTie.lean); close each card by the builder's one call (the guide's Derived/Test/ToyasCard.lean, 'card_holds'). Laid BY PROGRAM, IN A SANDBOX (cutbox-door.mjs). By AI agents, Wed Nov 11 2026. No macro, syntax, notation, axiom, sorry.
-/
import Derived.Test.YtpcmcnifbdpfaaaDoorRows
import GoSem.ClaimSeven
namespace Go.Proofs.YtpcmcnifbdpfaaaDoor
namespace Rows

/-- THE TIED CARD OF 'cascadelaw08.TokenMany'. -/
def tokenManyCard : Claim7 := { stood := { row := tokenManyRow, standIns := [], harness := (true, "6adbb1206e453af188f5e683f923ac2aca4c6e9d24eaf01204806c8d3fb05809"), looks := true }, kinds := [], alts := [], laidByText := true, laidKinds := [.data, .data, .data, .data, .sentinel, .sentinel, .pinned], laidTests := true, laidLooks := .later }
def TokenManyCardSaid : Prop := Claim7.holds Tryd.pinned (.plain (OpenSpec.ofChange tokenManySpec)) tokenManyCard

/-- THE TIED CARD OF 'cascadelaw08.TokenPlaces'. -/
def tokenPlacesCard : Claim7 := { stood := { row := tokenPlacesRow, standIns := [], harness := (true, "6adbb1206e453af188f5e683f923ac2aca4c6e9d24eaf01204806c8d3fb05809"), looks := true }, kinds := [], alts := [], laidByText := true, laidKinds := [.data, .data, .data, .data, .sentinel, .sentinel, .pinned], laidTests := true, laidLooks := .later }
def TokenPlacesCardSaid : Prop := Claim7.holds Tryd.pinned (.plain (OpenSpec.ofChange tokenPlacesSpec)) tokenPlacesCard

/-- THE SECOND FORM's CARD OF 'cascadelaw08.TokenMany'. -/
def tokenManyUptoCard : Claim7 := { stood := { row := tokenManyUptoRow, standIns := [], harness := (true, "6adbb1206e453af188f5e683f923ac2aca4c6e9d24eaf01204806c8d3fb05809"), looks := true }, kinds := [], alts := [], laidByText := true, laidKinds := [.data, .data, .data, .data, .sentinel, .sentinel, .pinned], laidTests := true, laidLooks := .later }
def TokenManyUptoCardSaid : Prop := Claim7.holds Tryd.pinned (.plain (OpenSpec.upto tokenManySpec)) tokenManyUptoCard

/-- THE SECOND FORM's CARD OF 'cascadelaw08.TokenPlaces'. -/
def tokenPlacesUptoCard : Claim7 := { stood := { row := tokenPlacesUptoRow, standIns := [], harness := (true, "6adbb1206e453af188f5e683f923ac2aca4c6e9d24eaf01204806c8d3fb05809"), looks := true }, kinds := [], alts := [], laidByText := true, laidKinds := [.data, .data, .data, .data, .sentinel, .sentinel, .pinned], laidTests := true, laidLooks := .later }
def TokenPlacesUptoCardSaid : Prop := Claim7.holds Tryd.pinned (.plain (OpenSpec.upto tokenPlacesSpec)) tokenPlacesUptoCard
end Rows
end Go.Proofs.YtpcmcnifbdpfaaaDoor
