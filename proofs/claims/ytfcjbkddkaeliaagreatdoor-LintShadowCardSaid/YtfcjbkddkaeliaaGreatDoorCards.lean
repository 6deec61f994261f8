/-
  DERIVED. GIVEN WITH THE SEED: THE CARDS: each row of YtfcjbkddkaeliaaGreatDoorRows.lean that lists a variable, with what it lists TIED to the program's text (the seventh form; the later family's looks); each row that meets fmt, with fmt's text TOLD by the authors' own Lean function (tested against real Go, not proved from fmt's source: count such statements apart). THE CARD IS WHAT COUNTS. Prove the row's statement (the work); the ties are given (YtfcjbkddkaeliaaGreatDoorTie.lean); close each card by the builder's one call (the guide's Derived/Test/ToyasCard.lean, 'card_holds'). Laid BY PROGRAM, IN A SANDBOX (cutbox-door.mjs). By AI agents, Wed Nov 11 2026. No macro, syntax, notation, axiom, sorry.
-/
import Derived.Test.YtfcjbkddkaeliaaGreatDoorRows
import GoSem.ClaimSeven
namespace Go.Proofs.YtfcjbkddkaeliaaGreatDoor
namespace Rows

/-- THE TIED CARD OF 'subeditorlaw16.ScopeNear'. -/
def scopeNearCard : Claim7 := { stood := { row := scopeNearRow, standIns := [], harness := (true, "0d5e1d1529d0509636446c4775902a4463c315cacc6935f3d8aa4b43861cf8d4"), looks := true }, kinds := [], alts := [], laidByText := true, laidKinds := [.listed, .data], laidTests := true, laidLooks := .later }
def ScopeNearCardSaid : Prop := Claim7.holds Tryz.pinned (.plain (OpenSpec.ofChange scopeNearSpec)) scopeNearCard

/-- THE TIED CARD OF 'subeditorlaw16.ScopeKinds'. -/
def scopeKindsCard : Claim7 := { stood := { row := scopeKindsRow, standIns := [], harness := (true, "0d5e1d1529d0509636446c4775902a4463c315cacc6935f3d8aa4b43861cf8d4"), looks := true }, kinds := [], alts := [], laidByText := true, laidKinds := [.listed, .data], laidTests := true, laidLooks := .later }
def ScopeKindsCardSaid : Prop := Claim7.holds Tryz.pinned (.plain (OpenSpec.ofChange scopeKindsSpec)) scopeKindsCard

/-- THE TIED CARD OF 'subeditorlaw17.LintSame'. -/
def lintSameCard : Claim7 := { stood := { row := lintSameRow, standIns := [], harness := (true, "0d5e1d1529d0509636446c4775902a4463c315cacc6935f3d8aa4b43861cf8d4"), looks := true }, kinds := [], alts := [], laidByText := true, laidKinds := [.data, .data, .data, .listed, .data], laidTests := true, laidLooks := .later }
def LintSameCardSaid : Prop := Claim7.holds Tryz.pinned (.plain (OpenSpec.ofChange lintSameSpec)) lintSameCard

/-- THE TIED CARD OF 'subeditorlaw17.LintLow'. -/
def lintLowCard : Claim7 := { stood := { row := lintLowRow, standIns := [], harness := (true, "0d5e1d1529d0509636446c4775902a4463c315cacc6935f3d8aa4b43861cf8d4"), looks := true }, kinds := [], alts := [], laidByText := true, laidKinds := [.data, .data, .data, .listed, .data], laidTests := true, laidLooks := .later }
def LintLowCardSaid : Prop := Claim7.holds Tryz.pinned (.plain (OpenSpec.ofChange lintLowSpec)) lintLowCard

/-- THE TIED CARD OF 'subeditorlaw17.LintShadow'. -/
def lintShadowCard : Claim7 := { stood := { row := lintShadowRow, standIns := [], harness := (true, "0d5e1d1529d0509636446c4775902a4463c315cacc6935f3d8aa4b43861cf8d4"), looks := true }, kinds := [], alts := [], laidByText := true, laidKinds := [.data, .data, .data, .listed, .data], laidTests := true, laidLooks := .later }
def LintShadowCardSaid : Prop := Claim7.holds Tryz.pinned (.plain (OpenSpec.ofChange lintShadowSpec)) lintShadowCard

/-- THE TIED CARD OF 'subeditorlaw20.MoveCapture'. -/
def moveCaptureCard : Claim7 := { stood := { row := moveCaptureRow, standIns := [], harness := (true, "0d5e1d1529d0509636446c4775902a4463c315cacc6935f3d8aa4b43861cf8d4"), looks := true }, kinds := [], alts := [], laidByText := true, laidKinds := [.data, .data, .data, .listed, .data], laidTests := true, laidLooks := .later }
def MoveCaptureCardSaid : Prop := Claim7.holds Tryz.pinned (.plain (OpenSpec.ofChange moveCaptureSpec)) moveCaptureCard

/-- THE TIED CARD OF 'subeditorlaw20.MoveGrows'. -/
def moveGrowsCard : Claim7 := { stood := { row := moveGrowsRow, standIns := [], harness := (true, "0d5e1d1529d0509636446c4775902a4463c315cacc6935f3d8aa4b43861cf8d4"), looks := true }, kinds := [], alts := [], laidByText := true, laidKinds := [.data, .data, .data, .listed, .data], laidTests := true, laidLooks := .later }
def MoveGrowsCardSaid : Prop := Claim7.holds Tryz.pinned (.plain (OpenSpec.ofChange moveGrowsSpec)) moveGrowsCard

/-- THE TIED CARD OF 'subeditorlaw20.MoveTaken'. -/
def moveTakenCard : Claim7 := { stood := { row := moveTakenRow, standIns := [], harness := (true, "0d5e1d1529d0509636446c4775902a4463c315cacc6935f3d8aa4b43861cf8d4"), looks := true }, kinds := [], alts := [], laidByText := true, laidKinds := [.data, .data, .data, .listed, .data], laidTests := true, laidLooks := .later }
def MoveTakenCardSaid : Prop := Claim7.holds Tryz.pinned (.plain (OpenSpec.ofChange moveTakenSpec)) moveTakenCard

/-- THE SECOND FORM's CARD OF 'subeditorlaw16.ScopeNear'. -/
def scopeNearUptoCard : Claim7 := { stood := { row := scopeNearUptoRow, standIns := [], harness := (true, "0d5e1d1529d0509636446c4775902a4463c315cacc6935f3d8aa4b43861cf8d4"), looks := true }, kinds := [], alts := [], laidByText := true, laidKinds := [.listed, .data], laidTests := true, laidLooks := .later }
def ScopeNearUptoCardSaid : Prop := Claim7.holds Tryz.pinned (.plain (OpenSpec.upto scopeNearSpec)) scopeNearUptoCard

/-- THE SECOND FORM's CARD OF 'subeditorlaw16.ScopeKinds'. -/
def scopeKindsUptoCard : Claim7 := { stood := { row := scopeKindsUptoRow, standIns := [], harness := (true, "0d5e1d1529d0509636446c4775902a4463c315cacc6935f3d8aa4b43861cf8d4"), looks := true }, kinds := [], alts := [], laidByText := true, laidKinds := [.listed, .data], laidTests := true, laidLooks := .later }
def ScopeKindsUptoCardSaid : Prop := Claim7.holds Tryz.pinned (.plain (OpenSpec.upto scopeKindsSpec)) scopeKindsUptoCard

/-- THE SECOND FORM's CARD OF 'subeditorlaw17.LintSame'. -/
def lintSameUptoCard : Claim7 := { stood := { row := lintSameUptoRow, standIns := [], harness := (true, "0d5e1d1529d0509636446c4775902a4463c315cacc6935f3d8aa4b43861cf8d4"), looks := true }, kinds := [], alts := [], laidByText := true, laidKinds := [.data, .data, .data, .listed, .data], laidTests := true, laidLooks := .later }
def LintSameUptoCardSaid : Prop := Claim7.holds Tryz.pinned (.plain (OpenSpec.upto lintSameSpec)) lintSameUptoCard

/-- THE SECOND FORM's CARD OF 'subeditorlaw17.LintLow'. -/
def lintLowUptoCard : Claim7 := { stood := { row := lintLowUptoRow, standIns := [], harness := (true, "0d5e1d1529d0509636446c4775902a4463c315cacc6935f3d8aa4b43861cf8d4"), looks := true }, kinds := [], alts := [], laidByText := true, laidKinds := [.data, .data, .data, .listed, .data], laidTests := true, laidLooks := .later }
def LintLowUptoCardSaid : Prop := Claim7.holds Tryz.pinned (.plain (OpenSpec.upto lintLowSpec)) lintLowUptoCard

/-- THE SECOND FORM's CARD OF 'subeditorlaw17.LintShadow'. -/
def lintShadowUptoCard : Claim7 := { stood := { row := lintShadowUptoRow, standIns := [], harness := (true, "0d5e1d1529d0509636446c4775902a4463c315cacc6935f3d8aa4b43861cf8d4"), looks := true }, kinds := [], alts := [], laidByText := true, laidKinds := [.data, .data, .data, .listed, .data], laidTests := true, laidLooks := .later }
def LintShadowUptoCardSaid : Prop := Claim7.holds Tryz.pinned (.plain (OpenSpec.upto lintShadowSpec)) lintShadowUptoCard

/-- THE SECOND FORM's CARD OF 'subeditorlaw20.MoveCapture'. -/
def moveCaptureUptoCard : Claim7 := { stood := { row := moveCaptureUptoRow, standIns := [], harness := (true, "0d5e1d1529d0509636446c4775902a4463c315cacc6935f3d8aa4b43861cf8d4"), looks := true }, kinds := [], alts := [], laidByText := true, laidKinds := [.data, .data, .data, .listed, .data], laidTests := true, laidLooks := .later }
def MoveCaptureUptoCardSaid : Prop := Claim7.holds Tryz.pinned (.plain (OpenSpec.upto moveCaptureSpec)) moveCaptureUptoCard

/-- THE SECOND FORM's CARD OF 'subeditorlaw20.MoveGrows'. -/
def moveGrowsUptoCard : Claim7 := { stood := { row := moveGrowsUptoRow, standIns := [], harness := (true, "0d5e1d1529d0509636446c4775902a4463c315cacc6935f3d8aa4b43861cf8d4"), looks := true }, kinds := [], alts := [], laidByText := true, laidKinds := [.data, .data, .data, .listed, .data], laidTests := true, laidLooks := .later }
def MoveGrowsUptoCardSaid : Prop := Claim7.holds Tryz.pinned (.plain (OpenSpec.upto moveGrowsSpec)) moveGrowsUptoCard

/-- THE SECOND FORM's CARD OF 'subeditorlaw20.MoveTaken'. -/
def moveTakenUptoCard : Claim7 := { stood := { row := moveTakenUptoRow, standIns := [], harness := (true, "0d5e1d1529d0509636446c4775902a4463c315cacc6935f3d8aa4b43861cf8d4"), looks := true }, kinds := [], alts := [], laidByText := true, laidKinds := [.data, .data, .data, .listed, .data], laidTests := true, laidLooks := .later }
def MoveTakenUptoCardSaid : Prop := Claim7.holds Tryz.pinned (.plain (OpenSpec.upto moveTakenSpec)) moveTakenUptoCard
end Rows
end Go.Proofs.YtfcjbkddkaeliaaGreatDoor
