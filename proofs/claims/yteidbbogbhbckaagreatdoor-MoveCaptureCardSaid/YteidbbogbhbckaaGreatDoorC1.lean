/- What the rows list gives the walks: the table of blanks. -/
import Derived.Test.YteidbbogbhbckaaGreatDoorSv4
import Derived.Lay
import Derived.Lib.Space
import Derived.ChangeSlices
import Derived.Test.YteidbbogbhbckaaGreatDoorLaw
import Derived.Test.YteidbbogbhbckaaGreatDoorCards
import Derived.Test.YteidbbogbhbckaaGreatDoorTie
namespace Go.Proofs.YteidbbogbhbckaaGreatDoor
open Go.ChangeShapes Go.WideShapes Go.ChangeAt Go.RowKit Go.Sub
def TabX (w : World) : Prop := ∀ c : Nat, c < 256 → w.cell? ⟨0, c, none⟩ = some (.int .u8 (if Lib.isSp (UInt8.ofNat c) then 1 else 0))
theorem own : ownKnob Tryz.prog.godebug = none := by kernel_rfl
theorem laidOut : laidOutB Tryz.prog = true := by kernel_rfl
theorem gSpace : Tryz.prog.globalNamed "strings.asciiSpace" = some 0 := by kernel_rfl
theorem gSpaceType : (Tryz.prog.globals[0]?).map (·.type) = some 246 := by kernel_rfl
theorem cellsT : Tryz.prog.cellsOf 246 = 256 := by kernel_rfl
theorem cells5 : Tryz.prog.cellsOf 5 = 1 := by kernel_rfl
end Go.Proofs.YteidbbogbhbckaaGreatDoor
