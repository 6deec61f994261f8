/-
  DERIVED. GIVEN WITH THE SEED: THE CARDS: each row of YtakbenifinnpfaaGreatDoorRows.lean that lists a variable, with what it lists TIED to the program's text (the seventh form; the later family's looks); each row that meets fmt, with fmt's text TOLD by the authors' own Lean function (tested against real Go, not proved from fmt's source: count such statements apart). THE CARD IS WHAT COUNTS. Prove the row's statement (the work); the ties are given (YtakbenifinnpfaaGreatDoorTie.lean); close each card by the builder's one call (the guide's Derived/Test/ToyasCard.lean, 'card_holds'). Laid BY PROGRAM, IN A SANDBOX (cutbox-door.mjs). By AI agents, Wed Nov 11 2026. No macro, syntax, notation, axiom, sorry.
-/
import Derived.Test.YtakbenifinnpfaaGreatDoorRows
import GoSem.ClaimSeven
namespace Go.Proofs.YtakbenifinnpfaaGreatDoor
namespace Rows

/-- THE TIED CARD OF 'subeditorlaw10.WrapAsks'. -/
def wrapAsksCard : Claim7 := { stood := { row := wrapAsksRow, standIns := [], harness := (true, "0544f91910009eacc6b4e14a4d280d1c7781b6cb2ecbb496fe5a6e6b2f92a5bf"), looks := false }, kinds := [], alts := [], laidByText := true, laidKinds := [.listed, .data], laidTests := true, laidLooks := .later }
def WrapAsksCardSaid : Prop := Claim7.holds Tryz.pinned (.plain (OpenSpec.ofChange wrapAsksSpec)) wrapAsksCard

/-- THE TIED CARD OF 'subeditorlaw10.WrapOpers'. -/
def wrapOpersCard : Claim7 := { stood := { row := wrapOpersRow, standIns := [], harness := (true, "0544f91910009eacc6b4e14a4d280d1c7781b6cb2ecbb496fe5a6e6b2f92a5bf"), looks := false }, kinds := [], alts := [], laidByText := true, laidKinds := [.listed, .data], laidTests := true, laidLooks := .later }
def WrapOpersCardSaid : Prop := Claim7.holds Tryz.pinned (.plain (OpenSpec.ofChange wrapOpersSpec)) wrapOpersCard

/-- THE TIED CARD OF 'subeditorlaw10.WrapTerms'. -/
def wrapTermsCard : Claim7 := { stood := { row := wrapTermsRow, standIns := [], harness := (true, "0544f91910009eacc6b4e14a4d280d1c7781b6cb2ecbb496fe5a6e6b2f92a5bf"), looks := false }, kinds := [], alts := [], laidByText := true, laidKinds := [.listed, .data], laidTests := true, laidLooks := .later }
def WrapTermsCardSaid : Prop := Claim7.holds Tryz.pinned (.plain (OpenSpec.ofChange wrapTermsSpec)) wrapTermsCard

/-- THE TIED CARD OF 'subeditorlaw10.WrapEdge'. -/
def wrapEdgeCard : Claim7 := { stood := { row := wrapEdgeRow, standIns := [], harness := (true, "0544f91910009eacc6b4e14a4d280d1c7781b6cb2ecbb496fe5a6e6b2f92a5bf"), looks := false }, kinds := [], alts := [], laidByText := true, laidKinds := [.listed, .data], laidTests := true, laidLooks := .later }
def WrapEdgeCardSaid : Prop := Claim7.holds Tryz.pinned (.plain (OpenSpec.ofChange wrapEdgeSpec)) wrapEdgeCard

/-- THE SECOND FORM's CARD OF 'subeditorlaw10.WrapAsks'. -/
def wrapAsksUptoCard : Claim7 := { stood := { row := wrapAsksUptoRow, standIns := [], harness := (true, "0544f91910009eacc6b4e14a4d280d1c7781b6cb2ecbb496fe5a6e6b2f92a5bf"), looks := false }, kinds := [], alts := [], laidByText := true, laidKinds := [.listed, .data], laidTests := true, laidLooks := .later }
def WrapAsksUptoCardSaid : Prop := Claim7.holds Tryz.pinned (.plain (OpenSpec.upto wrapAsksSpec)) wrapAsksUptoCard

/-- THE SECOND FORM's CARD OF 'subeditorlaw10.WrapOpers'. -/
def wrapOpersUptoCard : Claim7 := { stood := { row := wrapOpersUptoRow, standIns := [], harness := (true, "0544f91910009eacc6b4e14a4d280d1c7781b6cb2ecbb496fe5a6e6b2f92a5bf"), looks := false }, kinds := [], alts := [], laidByText := true, laidKinds := [.listed, .data], laidTests := true, laidLooks := .later }
def WrapOpersUptoCardSaid : Prop := Claim7.holds Tryz.pinned (.plain (OpenSpec.upto wrapOpersSpec)) wrapOpersUptoCard

/-- THE SECOND FORM's CARD OF 'subeditorlaw10.WrapTerms'. -/
def wrapTermsUptoCard : Claim7 := { stood := { row := wrapTermsUptoRow, standIns := [], harness := (true, "0544f91910009eacc6b4e14a4d280d1c7781b6cb2ecbb496fe5a6e6b2f92a5bf"), looks := false }, kinds := [], alts := [], laidByText := true, laidKinds := [.listed, .data], laidTests := true, laidLooks := .later }
def WrapTermsUptoCardSaid : Prop := Claim7.holds Tryz.pinned (.plain (OpenSpec.upto wrapTermsSpec)) wrapTermsUptoCard

/-- THE SECOND FORM's CARD OF 'subeditorlaw10.WrapEdge'. -/
def wrapEdgeUptoCard : Claim7 := { stood := { row := wrapEdgeUptoRow, standIns := [], harness := (true, "0544f91910009eacc6b4e14a4d280d1c7781b6cb2ecbb496fe5a6e6b2f92a5bf"), looks := false }, kinds := [], alts := [], laidByText := true, laidKinds := [.listed, .data], laidTests := true, laidLooks := .later }
def WrapEdgeUptoCardSaid : Prop := Claim7.holds Tryz.pinned (.plain (OpenSpec.upto wrapEdgeSpec)) wrapEdgeUptoCard
end Rows
end Go.Proofs.YtakbenifinnpfaaGreatDoor
