/-
  DERIVED. GIVEN WITH THE SEED: THE CARDS: each row of YteidbbogbhbckaaGreatDoorRows.lean that lists a variable, with what it lists TIED to the program's text (the seventh form; the later family's looks); each row that meets fmt, with fmt's text TOLD by the authors' own Lean function (tested against real Go, not proved from fmt's source: count such statements apart). THE CARD IS WHAT COUNTS. Prove the row's statement (the work); the ties are given (YteidbbogbhbckaaGreatDoorTie.lean); close each card by the builder's one call (the guide's Derived/Test/ToyasCard.lean, 'card_holds'). Laid BY PROGRAM, IN A SANDBOX (cutbox-door.mjs). By AI agents, Wed Nov 11 2026. No macro, syntax, notation, axiom, sorry.
-/
import Derived.Test.YteidbbogbhbckaaGreatDoorRows
import GoSem.ClaimSeven
namespace Go.Proofs.YteidbbogbhbckaaGreatDoor
namespace Rows

/-- THE TIED CARD OF 'subeditorlaw20.MoveCapture'. -/
def moveCaptureCard : Claim7 := { stood := { row := moveCaptureRow, standIns := [], harness := (true, "9f9c3c8dfaab8695baad63b53fec889ec5dbfaa383d97cea97576f77d0d976a1"), looks := true }, kinds := [], alts := [], laidByText := true, laidKinds := [.data, .data, .data, .listed, .data], laidTests := true, laidLooks := .later }
def MoveCaptureCardSaid : Prop := Claim7.holds Tryz.pinned (.plain (OpenSpec.ofChange moveCaptureSpec)) moveCaptureCard

/-- THE TIED CARD OF 'subeditorlaw20.MoveTaken'. -/
def moveTakenCard : Claim7 := { stood := { row := moveTakenRow, standIns := [], harness := (true, "9f9c3c8dfaab8695baad63b53fec889ec5dbfaa383d97cea97576f77d0d976a1"), looks := true }, kinds := [], alts := [], laidByText := true, laidKinds := [.data, .data, .data, .listed, .data], laidTests := true, laidLooks := .later }
def MoveTakenCardSaid : Prop := Claim7.holds Tryz.pinned (.plain (OpenSpec.ofChange moveTakenSpec)) moveTakenCard

/-- THE SECOND FORM's CARD OF 'subeditorlaw20.MoveCapture'. -/
def moveCaptureUptoCard : Claim7 := { stood := { row := moveCaptureUptoRow, standIns := [], harness := (true, "9f9c3c8dfaab8695baad63b53fec889ec5dbfaa383d97cea97576f77d0d976a1"), looks := true }, kinds := [], alts := [], laidByText := true, laidKinds := [.data, .data, .data, .listed, .data], laidTests := true, laidLooks := .later }
def MoveCaptureUptoCardSaid : Prop := Claim7.holds Tryz.pinned (.plain (OpenSpec.upto moveCaptureSpec)) moveCaptureUptoCard

/-- THE SECOND FORM's CARD OF 'subeditorlaw20.MoveTaken'. -/
def moveTakenUptoCard : Claim7 := { stood := { row := moveTakenUptoRow, standIns := [], harness := (true, "9f9c3c8dfaab8695baad63b53fec889ec5dbfaa383d97cea97576f77d0d976a1"), looks := true }, kinds := [], alts := [], laidByText := true, laidKinds := [.data, .data, .data, .listed, .data], laidTests := true, laidLooks := .later }
def MoveTakenUptoCardSaid : Prop := Claim7.holds Tryz.pinned (.plain (OpenSpec.upto moveTakenSpec)) moveTakenUptoCard
end Rows
end Go.Proofs.YteidbbogbhbckaaGreatDoor
