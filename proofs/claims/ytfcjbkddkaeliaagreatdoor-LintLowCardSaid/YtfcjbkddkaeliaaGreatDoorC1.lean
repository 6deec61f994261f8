/- What the rows list gives the walks: the table of blanks. -/
import Derived.Test.YtfcjbkddkaeliaaGreatDoorEv5
import Derived.Lay
import Derived.Lib.Space
import Derived.ChangeSlices
import Derived.Test.YtfcjbkddkaeliaaGreatDoorLaw
import Derived.Test.YtfcjbkddkaeliaaGreatDoorCards
import Derived.Test.YtfcjbkddkaeliaaGreatDoorTie
namespace Go.Proofs.YtfcjbkddkaeliaaGreatDoor
open Go.ChangeShapes Go.WideShapes Go.ChangeAt Go.RowKit Go.Sub
def TabX (w : World) : Prop := ∀ c : Nat, c < 256 → w.cell? ⟨1, c, none⟩ = some (.int .u8 (if Lib.isSp (UInt8.ofNat c) then 1 else 0))
theorem own : ownKnob Tryz.prog.godebug = none := by kernel_rfl
theorem laidOut : laidOutB Tryz.prog = true := by kernel_rfl
theorem gSpace : Tryz.prog.globalNamed "strings.asciiSpace" = some 1 := by kernel_rfl
theorem gSpaceType : (Tryz.prog.globals[1]?).map (·.type) = some 302 := by kernel_rfl
theorem cellsT : Tryz.prog.cellsOf 302 = 256 := by kernel_rfl
theorem cells5 : Tryz.prog.cellsOf 5 = 1 := by kernel_rfl
end Go.Proofs.YtfcjbkddkaeliaaGreatDoor
