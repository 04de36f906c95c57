/-
  DERIVED. GIVEN WITH THE SEED: THE CARDS: each row of YtiookgkdekdefaaGreatDoorRows.lean that lists a variable, with what it lists TIED to the program's text (the seventh form; the later family's looks); each row that meets fmt, with fmt's text TOLD by the authors' own Lean function (tested against real Go, not proved from fmt's source: count such statements apart). THE CARD IS WHAT COUNTS. Prove the row's statement (the work); the ties are given (YtiookgkdekdefaaGreatDoorTie.lean); close each card by the builder's one call (the guide's Derived/Test/ToyasCard.lean, 'card_holds'). Laid BY PROGRAM, IN A SANDBOX (cutbox-door.mjs). By AI agents, Wed Nov 11 2026. No macro, syntax, notation, axiom, sorry.
-/
import Derived.Test.YtiookgkdekdefaaGreatDoorRows
import GoSem.ClaimSeven
namespace Go.Proofs.YtiookgkdekdefaaGreatDoor
namespace Rows

/-- THE TIED CARD OF 'bulkheadlaw11.PlaceNames'. -/
def placeNamesCard : Claim7 := { stood := { row := placeNamesRow, standIns := [], harness := (true, "90f8e354be453936e5adbd2ec62a6ba666260d54f167b25fbb0c4508882b4c3a"), looks := true }, kinds := [], alts := [], laidByText := true, laidKinds := [.data, .data, .data, .data, .handle, .sentinel, .sentinel, .listed, .data, .data, .pinned], laidTests := true, laidLooks := .later }
def PlaceNamesCardSaid : Prop := Claim7.holds Tryz.pinned (.plain (OpenSpec.ofChange placeNamesSpec)) placeNamesCard

/-- THE SECOND FORM's CARD OF 'bulkheadlaw11.PlaceNames'. -/
def placeNamesUptoCard : Claim7 := { stood := { row := placeNamesUptoRow, standIns := [], harness := (true, "90f8e354be453936e5adbd2ec62a6ba666260d54f167b25fbb0c4508882b4c3a"), looks := true }, kinds := [], alts := [], laidByText := true, laidKinds := [.data, .data, .data, .data, .handle, .sentinel, .sentinel, .listed, .data, .data, .pinned], laidTests := true, laidLooks := .later }
def PlaceNamesUptoCardSaid : Prop := Claim7.holds Tryz.pinned (.plain (OpenSpec.upto placeNamesSpec)) placeNamesUptoCard
end Rows
end Go.Proofs.YtiookgkdekdefaaGreatDoor
