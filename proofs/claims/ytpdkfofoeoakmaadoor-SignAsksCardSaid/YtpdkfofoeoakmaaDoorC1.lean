/- What the rows list gives the walks. -/
import Derived.Test.YtpdkfofoeoakmaaDoorSg10
import Derived.Test.YtpdkfofoeoakmaaDoorLaw
import Derived.Test.YtpdkfofoeoakmaaDoorCards
import Derived.Test.YtpdkfofoeoakmaaDoorTie
import Derived.Lay
namespace Go.Proofs.YtpdkfofoeoakmaaDoor
open Go.ChangeShapes Go.WideShapes Go.ChangeAt Go.RowKit Go.Sub

theorem own : ownKnob Tryd.prog.godebug = none := by kernel_rfl
theorem laidOut : laidOutB Tryd.prog = true := by kernel_rfl
theorem gSpaceType : (Tryd.prog.globals[0]?).map (·.type) = some 97 := by kernel_rfl
theorem cells97 : Tryd.prog.cellsOf 97 = 256 := by kernel_rfl
theorem cells5 : Tryd.prog.cellsOf 5 = 1 := by kernel_rfl
/-- a heap that holds what the rows list -/
theorem door_met (os : Os) (args : Array Value) : laidMet Tryd.prog Rows.signWholeRow.laid ((World.laidAll Tryd.prog os Rows.signWholeRow.laid).forCall (fun _ _ => 0) ⟨#[], args, []⟩).memory :=
  laidMet_laidAll _ (by kernel_rfl) (by kernel_rfl)
set_option maxRecDepth 100000 in
theorem tab_of_laid {W : World} (h : laidMetH Tryd.prog Rows.signWholeRow.laid W) : TabX W := by
  rw [MakeChecks.laidMetH_plain _ _ _ (by kernel_rfl)] at h
  have h2 := laidMet_tail (laidMet_tail h)
  have e : [("strings.asciiSpace", Rows.laid_strings_asciiSpace (H := Unit)), ("unicode/utf8.first", Rows.laid_unicode_utf8_first)] = ("strings.asciiSpace", Lib.tabData .u8 Lib.asciiSpaceTab) :: [("unicode/utf8.first", Rows.laid_unicode_utf8_first)] := by kernel_rfl
  have ht : Lib.TabIs Tryd.prog W "strings.asciiSpace" .u8 Lib.asciiSpaceTab := Lib.tabIs_of_head (rest := [("unicode/utf8.first", Rows.laid_unicode_utf8_first)]) gSpace gSpaceType Tryd.underlying97 Tryd.underlying5 cells5 cells97 (e ▸ h2)
  exact fun c hc => by rw [ht.cell gSpace c (by rw [Lib.asciiSpaceTab_length]; exact hc), Lib.asciiSpaceTab_at c hc]
end Go.Proofs.YtpdkfofoeoakmaaDoor
