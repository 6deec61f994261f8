/- What the rows list gives the walks. -/
import Derived.Test.YtbjhfkaboncpoaaDoorT8
import Derived.Test.YtbjhfkaboncpoaaDoorLaw
import Derived.Test.YtbjhfkaboncpoaaDoorCards
import Derived.Test.YtbjhfkaboncpoaaDoorTie
namespace Go.Proofs.YtbjhfkaboncpoaaDoor
open Go.ChangeShapes Go.WideShapes Go.ChangeAt Go.RowKit Go.Sub

theorem own : ownKnob Tryd.prog.godebug = none := by kernel_rfl
theorem laidOut : laidOutB Tryd.prog = true := by kernel_rfl
theorem gSpace : Tryd.prog.globalNamed "strings.asciiSpace" = some 0 := by kernel_rfl
theorem gSpaceType : (Tryd.prog.globals[0]?).map (·.type) = some 54 := by kernel_rfl
theorem cells54 : Tryd.prog.cellsOf 54 = 256 := by kernel_rfl
theorem cells5 : Tryd.prog.cellsOf 5 = 1 := by kernel_rfl
/-- the door's own heap holds what the rows list -/
theorem door_met (os : Os) (args : Array Value) : laidMet Tryd.prog Rows.precSidesRow.laid ((World.doorLaid Tryd.prog 33 os).forCall (fun _ _ => 0) ⟨#[], args, []⟩).memory :=
  laidMet_of_run' 8 (by kernel_rfl) (by kernel_rfl)
set_option maxRecDepth 100000 in
theorem tab_of_laid {W : World} (h : laidMetH Tryd.prog Rows.precSidesRow.laid W) : TabX W := by
  rw [MakeChecks.laidMetH_plain _ _ _ (by kernel_rfl)] at h
  have h2 := laidMet_tail h
  have e : [("strings.asciiSpace", Rows.laid_strings_asciiSpace (H := Unit))] = ("strings.asciiSpace", Lib.tabData .u8 Lib.asciiSpaceTab) :: [] := by kernel_rfl
  have ht : Lib.TabIs Tryd.prog W "strings.asciiSpace" .u8 Lib.asciiSpaceTab := Lib.tabIs_of_head (rest := []) gSpace gSpaceType Tryd.underlying54 Tryd.underlying5 cells5 cells54 (e ▸ h2)
  exact fun c hc => by rw [ht.cell gSpace c (by rw [Lib.asciiSpaceTab_length]; exact hc), Lib.asciiSpaceTab_at c hc]
end Go.Proofs.YtbjhfkaboncpoaaDoor
