/-
  DERIVED. GIVEN WITH THE SEED: THE CARDS: each row of YtbjckccgbmimpabDoorRows.lean that lists a variable, with what it lists TIED to the program's text (the seventh form; the later family's looks); each row that meets fmt, with fmt's text TOLD by the authors' own Lean function (tested against real Go, not proved from fmt's source: count such statements apart). THE CARD IS WHAT COUNTS. Prove the row's statement (the work); the ties are given (YtbjckccgbmimpabDoorTie.lean); close each card by the builder's one call (the guide's Derived/Test/ToyasCard.lean, 'card_holds'). Laid BY PROGRAM, IN A SANDBOX (cutbox-door.mjs). By AI agents, Wed Nov 11 2026. No macro, syntax, notation, axiom, sorry.
-/
import Derived.Test.YtbjckccgbmimpabDoorRows
import GoSem.ClaimSeven
namespace Go.Proofs.YtbjckccgbmimpabDoor
namespace Rows

/-- THE TIED CARD OF 'styluslaw20.KeysParts'. -/
def keysPartsCard : Claim7 := { stood := { row := keysPartsRow, standIns := [], harness := (true, "32e09714ed30e4c814ce3b8818e7b66a7856f14b1e82c8c6ef8d3999232dfa14"), looks := true }, kinds := [], alts := [], laidByText := true, laidKinds := [.data, .data, .data, .data, .sentinel, .sentinel, .pinned], laidTests := true, laidLooks := .later }
def KeysPartsCardSaid : Prop := Claim7.holds Tryd.pinned (.plain (OpenSpec.ofChange keysPartsSpec)) keysPartsCard

/-- THE TIED CARD OF 'styluslaw23.VtShows'. -/
def vtShowsCard : Claim7 := { stood := { row := vtShowsRow, standIns := [], harness := (true, "32e09714ed30e4c814ce3b8818e7b66a7856f14b1e82c8c6ef8d3999232dfa14"), looks := true }, kinds := [], alts := [], laidByText := true, laidKinds := [.data, .data, .data, .data, .sentinel, .sentinel, .pinned], laidTests := true, laidLooks := .later }
def VtShowsCardSaid : Prop := Claim7.holds Tryd.pinned (.plain (OpenSpec.ofChange vtShowsSpec)) vtShowsCard

/-- THE SECOND FORM's CARD OF 'styluslaw20.KeysParts'. -/
def keysPartsUptoCard : Claim7 := { stood := { row := keysPartsUptoRow, standIns := [], harness := (true, "32e09714ed30e4c814ce3b8818e7b66a7856f14b1e82c8c6ef8d3999232dfa14"), looks := true }, kinds := [], alts := [], laidByText := true, laidKinds := [.data, .data, .data, .data, .sentinel, .sentinel, .pinned], laidTests := true, laidLooks := .later }
def KeysPartsUptoCardSaid : Prop := Claim7.holds Tryd.pinned (.plain (OpenSpec.upto keysPartsSpec)) keysPartsUptoCard

/-- THE SECOND FORM's CARD OF 'styluslaw23.VtShows'. -/
def vtShowsUptoCard : Claim7 := { stood := { row := vtShowsUptoRow, standIns := [], harness := (true, "32e09714ed30e4c814ce3b8818e7b66a7856f14b1e82c8c6ef8d3999232dfa14"), looks := true }, kinds := [], alts := [], laidByText := true, laidKinds := [.data, .data, .data, .data, .sentinel, .sentinel, .pinned], laidTests := true, laidLooks := .later }
def VtShowsUptoCardSaid : Prop := Claim7.holds Tryd.pinned (.plain (OpenSpec.upto vtShowsSpec)) vtShowsUptoCard
end Rows
end Go.Proofs.YtbjckccgbmimpabDoor
