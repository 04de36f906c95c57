/-
  DERIVED. GIVEN WITH THE SEED: THE CARDS: each row of YtmofibgdalemeaaGreatDoorRows.lean that lists a variable, with what it lists TIED to the program's text (the seventh form; the later family's looks); each row that meets fmt, with fmt's text TOLD by the authors' own Lean function (tested against real Go, not proved from fmt's source: count such statements apart). THE CARD IS WHAT COUNTS. Prove the row's statement (the work); the ties are given (YtmofibgdalemeaaGreatDoorTie.lean); close each card by the builder's one call (the guide's Derived/Test/ToyasCard.lean, 'card_holds'). Laid BY PROGRAM, IN A SANDBOX (cutbox-door.mjs). By AI agents, Wed Nov 11 2026. No macro, syntax, notation, axiom, sorry.
-/
import Derived.Test.YtmofibgdalemeaaGreatDoorRows
import GoSem.ClaimSeven
namespace Go.Proofs.YtmofibgdalemeaaGreatDoor
namespace Rows

/-- THE TIED CARD OF 'bulkheadlaw10.CheckNames'. -/
def checkNamesCard : Claim7 := { stood := { row := checkNamesRow, standIns := [], harness := (true, "7fb5843ee9e3136dd4bbd4959686fd24e95b37bf423b456a225af9e71996691f"), looks := true }, kinds := [], alts := [], laidByText := true, laidKinds := [.data, .data, .data, .data, .handle, .sentinel, .sentinel, .listed, .data, .data, .pinned], laidTests := true, laidLooks := .later }
def CheckNamesCardSaid : Prop := Claim7.holds Tryz.pinned (.plain (OpenSpec.ofChange checkNamesSpec)) checkNamesCard

/-- THE TIED CARD OF 'bulkheadlaw10.CheckTurns'. -/
def checkTurnsCard : Claim7 := { stood := { row := checkTurnsRow, standIns := [], harness := (true, "7fb5843ee9e3136dd4bbd4959686fd24e95b37bf423b456a225af9e71996691f"), looks := true }, kinds := [], alts := [], laidByText := true, laidKinds := [.data, .data, .data, .data, .handle, .sentinel, .sentinel, .listed, .data, .data, .pinned], laidTests := true, laidLooks := .later }
def CheckTurnsCardSaid : Prop := Claim7.holds Tryz.pinned (.plain (OpenSpec.ofChange checkTurnsSpec)) checkTurnsCard

/-- THE TIED CARD OF 'bulkheadlaw10.CheckRows'. -/
def checkRowsCard : Claim7 := { stood := { row := checkRowsRow, standIns := [], harness := (true, "7fb5843ee9e3136dd4bbd4959686fd24e95b37bf423b456a225af9e71996691f"), looks := true }, kinds := [], alts := [], laidByText := true, laidKinds := [.data, .data, .data, .data, .handle, .sentinel, .sentinel, .listed, .data, .data, .pinned], laidTests := true, laidLooks := .later }
def CheckRowsCardSaid : Prop := Claim7.holds Tryz.pinned (.plain (OpenSpec.ofChange checkRowsSpec)) checkRowsCard

/-- THE TIED CARD OF 'bulkheadlaw10.CheckSound'. -/
def checkSoundCard : Claim7 := { stood := { row := checkSoundRow, standIns := [], harness := (true, "7fb5843ee9e3136dd4bbd4959686fd24e95b37bf423b456a225af9e71996691f"), looks := true }, kinds := [], alts := [], laidByText := true, laidKinds := [.data, .data, .data, .data, .handle, .sentinel, .sentinel, .listed, .data, .data, .pinned], laidTests := true, laidLooks := .later }
def CheckSoundCardSaid : Prop := Claim7.holds Tryz.pinned (.plain (OpenSpec.ofChange checkSoundSpec)) checkSoundCard

/-- THE SECOND FORM's CARD OF 'bulkheadlaw10.CheckNames'. -/
def checkNamesUptoCard : Claim7 := { stood := { row := checkNamesUptoRow, standIns := [], harness := (true, "7fb5843ee9e3136dd4bbd4959686fd24e95b37bf423b456a225af9e71996691f"), looks := true }, kinds := [], alts := [], laidByText := true, laidKinds := [.data, .data, .data, .data, .handle, .sentinel, .sentinel, .listed, .data, .data, .pinned], laidTests := true, laidLooks := .later }
def CheckNamesUptoCardSaid : Prop := Claim7.holds Tryz.pinned (.plain (OpenSpec.upto checkNamesSpec)) checkNamesUptoCard

/-- THE SECOND FORM's CARD OF 'bulkheadlaw10.CheckTurns'. -/
def checkTurnsUptoCard : Claim7 := { stood := { row := checkTurnsUptoRow, standIns := [], harness := (true, "7fb5843ee9e3136dd4bbd4959686fd24e95b37bf423b456a225af9e71996691f"), looks := true }, kinds := [], alts := [], laidByText := true, laidKinds := [.data, .data, .data, .data, .handle, .sentinel, .sentinel, .listed, .data, .data, .pinned], laidTests := true, laidLooks := .later }
def CheckTurnsUptoCardSaid : Prop := Claim7.holds Tryz.pinned (.plain (OpenSpec.upto checkTurnsSpec)) checkTurnsUptoCard

/-- THE SECOND FORM's CARD OF 'bulkheadlaw10.CheckRows'. -/
def checkRowsUptoCard : Claim7 := { stood := { row := checkRowsUptoRow, standIns := [], harness := (true, "7fb5843ee9e3136dd4bbd4959686fd24e95b37bf423b456a225af9e71996691f"), looks := true }, kinds := [], alts := [], laidByText := true, laidKinds := [.data, .data, .data, .data, .handle, .sentinel, .sentinel, .listed, .data, .data, .pinned], laidTests := true, laidLooks := .later }
def CheckRowsUptoCardSaid : Prop := Claim7.holds Tryz.pinned (.plain (OpenSpec.upto checkRowsSpec)) checkRowsUptoCard

/-- THE SECOND FORM's CARD OF 'bulkheadlaw10.CheckSound'. -/
def checkSoundUptoCard : Claim7 := { stood := { row := checkSoundUptoRow, standIns := [], harness := (true, "7fb5843ee9e3136dd4bbd4959686fd24e95b37bf423b456a225af9e71996691f"), looks := true }, kinds := [], alts := [], laidByText := true, laidKinds := [.data, .data, .data, .data, .handle, .sentinel, .sentinel, .listed, .data, .data, .pinned], laidTests := true, laidLooks := .later }
def CheckSoundUptoCardSaid : Prop := Claim7.holds Tryz.pinned (.plain (OpenSpec.upto checkSoundSpec)) checkSoundUptoCard
end Rows
end Go.Proofs.YtmofibgdalemeaaGreatDoor
