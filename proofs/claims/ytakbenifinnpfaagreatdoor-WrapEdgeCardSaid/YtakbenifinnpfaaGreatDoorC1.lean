/- What the rows list gives the walks. -/
import Derived.Test.YtakbenifinnpfaaGreatDoorEv4
import Derived.Lay
import Derived.Lib.Space
import Derived.ChangeSlices
import Derived.Test.YtakbenifinnpfaaGreatDoorLaw
import Derived.Test.YtakbenifinnpfaaGreatDoorCards
import Derived.Test.YtakbenifinnpfaaGreatDoorTie
namespace Go.Proofs.YtakbenifinnpfaaGreatDoor
open Go.ChangeShapes Go.WideShapes Go.ChangeAt Go.RowKit Go.Sub

def TabX (w : World) : Prop := ∀ c : Nat, c < 256 → w.cell? ⟨0, c, none⟩ = some (.int .u8 (if Lib.isSp (UInt8.ofNat c) then 1 else 0))
theorem own : ownKnob Tryz.prog.godebug = none := by kernel_rfl
theorem laidOut : laidOutB Tryz.prog = true := by kernel_rfl
theorem gSpace : Tryz.prog.globalNamed "strings.asciiSpace" = some 0 := by kernel_rfl
theorem gSpaceType : (Tryz.prog.globals[0]?).map (·.type) = some 122 := by kernel_rfl
theorem cells122 : Tryz.prog.cellsOf 122 = 256 := by kernel_rfl
theorem cells5 : Tryz.prog.cellsOf 5 = 1 := by kernel_rfl
/-- the door's own heap holds what the rows list -/
theorem door_met (os : Os) (args : Array Value) : laidMet Tryz.prog Rows.wrapEdgeRow.laid ((World.laidAll Tryz.prog os Rows.wrapEdgeRow.laid).forCall (fun _ _ => 0) ⟨#[], args, []⟩).memory :=
  laidMet_laidAll _ (by kernel_rfl) (by kernel_rfl)
set_option maxRecDepth 100000 in
theorem tab_of_laid {W : World} (h : laidMetH Tryz.prog Rows.wrapEdgeRow.laid W) : TabX W := by
  rw [MakeChecks.laidMetH_plain _ _ _ (by kernel_rfl)] at h
  have h2 := laidMet_tail h
  have e : [("strings.asciiSpace", Rows.laid_strings_asciiSpace (H := Unit))] = ("strings.asciiSpace", Lib.tabData .u8 Lib.asciiSpaceTab) :: [] := by kernel_rfl
  have ht : Lib.TabIs Tryz.prog W "strings.asciiSpace" .u8 Lib.asciiSpaceTab := Lib.tabIs_of_head (rest := []) gSpace gSpaceType Tryz.underlying122 Tryz.underlying5 cells5 cells122 (e ▸ h2)
  exact fun c hc => by rw [ht.cell gSpace c (by rw [Lib.asciiSpaceTab_length]; exact hc), Lib.asciiSpaceTab_at c hc]
end Go.Proofs.YtakbenifinnpfaaGreatDoor
