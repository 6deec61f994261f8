/-
  DERIVED. GIVEN WITH THE SEED: THE CARDS: each row of YtiinhkfbgecbjaaGreatDoorRows.lean that lists a variable, with what it lists TIED to the program's text (the seventh form; the later family's looks); each row that meets fmt, with fmt's text TOLD by the authors' own Lean function (tested against real Go, not proved from fmt's source: count such statements apart). THE CARD IS WHAT COUNTS. Prove the row's statement (the work); the ties are given (YtiinhkfbgecbjaaGreatDoorTie.lean); close each card by the builder's one call (the guide's Derived/Test/ToyasCard.lean, 'card_holds'). Laid BY PROGRAM, IN A SANDBOX (cutbox-door.mjs). By AI agents, Wed Nov 11 2026. No macro, syntax, notation, axiom, sorry.
-/
import Derived.Test.YtiinhkfbgecbjaaGreatDoorRows
import GoSem.ClaimSeven
namespace Go.Proofs.YtiinhkfbgecbjaaGreatDoor
namespace Rows

/-- THE TIED CARD OF 'subeditorlaw05.ItemsTight'. -/
def itemsTightCard : Claim7 := { stood := { row := itemsTightRow, standIns := [], harness := (true, "43732a0cb16838ff6aaf27cae3c8989fce5f32be8c2ce2fbcf7a565f19dfcc2c"), looks := false }, kinds := [], alts := [], laidByText := true, laidKinds := [.data, .pinned], laidTests := true, laidLooks := .later }
def ItemsTightCardSaid : Prop := Claim7.holds Tryz.pinned (.plain (OpenSpec.ofChange itemsTightSpec)) itemsTightCard

/-- THE TIED CARD OF 'subeditorlaw05.ItemsPairs'. -/
def itemsPairsCard : Claim7 := { stood := { row := itemsPairsRow, standIns := [], harness := (true, "43732a0cb16838ff6aaf27cae3c8989fce5f32be8c2ce2fbcf7a565f19dfcc2c"), looks := false }, kinds := [], alts := [], laidByText := true, laidKinds := [.data, .pinned], laidTests := true, laidLooks := .later }
def ItemsPairsCardSaid : Prop := Claim7.holds Tryz.pinned (.plain (OpenSpec.ofChange itemsPairsSpec)) itemsPairsCard

/-- THE TIED CARD OF 'subeditorlaw05.ItemsAsks'. -/
def itemsAsksCard : Claim7 := { stood := { row := itemsAsksRow, standIns := [], harness := (true, "43732a0cb16838ff6aaf27cae3c8989fce5f32be8c2ce2fbcf7a565f19dfcc2c"), looks := false }, kinds := [], alts := [], laidByText := true, laidKinds := [.data, .pinned], laidTests := true, laidLooks := .later }
def ItemsAsksCardSaid : Prop := Claim7.holds Tryz.pinned (.plain (OpenSpec.ofChange itemsAsksSpec)) itemsAsksCard

/-- THE TIED CARD OF 'subeditorlaw05.ItemsLine'. -/
def itemsLineCard : Claim7 := { stood := { row := itemsLineRow, standIns := [], harness := (true, "43732a0cb16838ff6aaf27cae3c8989fce5f32be8c2ce2fbcf7a565f19dfcc2c"), looks := false }, kinds := [], alts := [], laidByText := true, laidKinds := [.data, .pinned], laidTests := true, laidLooks := .later }
def ItemsLineCardSaid : Prop := Claim7.holds Tryz.pinned (.plain (OpenSpec.ofChange itemsLineSpec)) itemsLineCard

/-- THE TIED CARD OF 'subeditorlaw05.ItemsNotes'. -/
def itemsNotesCard : Claim7 := { stood := { row := itemsNotesRow, standIns := [], harness := (true, "43732a0cb16838ff6aaf27cae3c8989fce5f32be8c2ce2fbcf7a565f19dfcc2c"), looks := false }, kinds := [], alts := [], laidByText := true, laidKinds := [.data, .pinned], laidTests := true, laidLooks := .later }
def ItemsNotesCardSaid : Prop := Claim7.holds Tryz.pinned (.plain (OpenSpec.ofChange itemsNotesSpec)) itemsNotesCard

/-- THE TIED CARD OF 'subeditorlaw05.ItemsFew'. -/
def itemsFewCard : Claim7 := { stood := { row := itemsFewRow, standIns := [], harness := (true, "43732a0cb16838ff6aaf27cae3c8989fce5f32be8c2ce2fbcf7a565f19dfcc2c"), looks := false }, kinds := [], alts := [], laidByText := true, laidKinds := [.data, .pinned], laidTests := true, laidLooks := .later }
def ItemsFewCardSaid : Prop := Claim7.holds Tryz.pinned (.plain (OpenSpec.ofChange itemsFewSpec)) itemsFewCard

/-- THE SECOND FORM's CARD OF 'subeditorlaw05.ItemsTight'. -/
def itemsTightUptoCard : Claim7 := { stood := { row := itemsTightUptoRow, standIns := [], harness := (true, "43732a0cb16838ff6aaf27cae3c8989fce5f32be8c2ce2fbcf7a565f19dfcc2c"), looks := false }, kinds := [], alts := [], laidByText := true, laidKinds := [.data, .pinned], laidTests := true, laidLooks := .later }
def ItemsTightUptoCardSaid : Prop := Claim7.holds Tryz.pinned (.plain (OpenSpec.upto itemsTightSpec)) itemsTightUptoCard

/-- THE SECOND FORM's CARD OF 'subeditorlaw05.ItemsPairs'. -/
def itemsPairsUptoCard : Claim7 := { stood := { row := itemsPairsUptoRow, standIns := [], harness := (true, "43732a0cb16838ff6aaf27cae3c8989fce5f32be8c2ce2fbcf7a565f19dfcc2c"), looks := false }, kinds := [], alts := [], laidByText := true, laidKinds := [.data, .pinned], laidTests := true, laidLooks := .later }
def ItemsPairsUptoCardSaid : Prop := Claim7.holds Tryz.pinned (.plain (OpenSpec.upto itemsPairsSpec)) itemsPairsUptoCard

/-- THE SECOND FORM's CARD OF 'subeditorlaw05.ItemsAsks'. -/
def itemsAsksUptoCard : Claim7 := { stood := { row := itemsAsksUptoRow, standIns := [], harness := (true, "43732a0cb16838ff6aaf27cae3c8989fce5f32be8c2ce2fbcf7a565f19dfcc2c"), looks := false }, kinds := [], alts := [], laidByText := true, laidKinds := [.data, .pinned], laidTests := true, laidLooks := .later }
def ItemsAsksUptoCardSaid : Prop := Claim7.holds Tryz.pinned (.plain (OpenSpec.upto itemsAsksSpec)) itemsAsksUptoCard

/-- THE SECOND FORM's CARD OF 'subeditorlaw05.ItemsLine'. -/
def itemsLineUptoCard : Claim7 := { stood := { row := itemsLineUptoRow, standIns := [], harness := (true, "43732a0cb16838ff6aaf27cae3c8989fce5f32be8c2ce2fbcf7a565f19dfcc2c"), looks := false }, kinds := [], alts := [], laidByText := true, laidKinds := [.data, .pinned], laidTests := true, laidLooks := .later }
def ItemsLineUptoCardSaid : Prop := Claim7.holds Tryz.pinned (.plain (OpenSpec.upto itemsLineSpec)) itemsLineUptoCard

/-- THE SECOND FORM's CARD OF 'subeditorlaw05.ItemsNotes'. -/
def itemsNotesUptoCard : Claim7 := { stood := { row := itemsNotesUptoRow, standIns := [], harness := (true, "43732a0cb16838ff6aaf27cae3c8989fce5f32be8c2ce2fbcf7a565f19dfcc2c"), looks := false }, kinds := [], alts := [], laidByText := true, laidKinds := [.data, .pinned], laidTests := true, laidLooks := .later }
def ItemsNotesUptoCardSaid : Prop := Claim7.holds Tryz.pinned (.plain (OpenSpec.upto itemsNotesSpec)) itemsNotesUptoCard

/-- THE SECOND FORM's CARD OF 'subeditorlaw05.ItemsFew'. -/
def itemsFewUptoCard : Claim7 := { stood := { row := itemsFewUptoRow, standIns := [], harness := (true, "43732a0cb16838ff6aaf27cae3c8989fce5f32be8c2ce2fbcf7a565f19dfcc2c"), looks := false }, kinds := [], alts := [], laidByText := true, laidKinds := [.data, .pinned], laidTests := true, laidLooks := .later }
def ItemsFewUptoCardSaid : Prop := Claim7.holds Tryz.pinned (.plain (OpenSpec.upto itemsFewSpec)) itemsFewUptoCard
end Rows
end Go.Proofs.YtiinhkfbgecbjaaGreatDoor
