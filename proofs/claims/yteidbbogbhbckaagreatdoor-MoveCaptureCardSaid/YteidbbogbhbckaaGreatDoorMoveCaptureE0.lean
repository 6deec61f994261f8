/- MoveCapture: its cases, by the kernel (0). -/
import Derived.Test.YteidbbogbhbckaaGreatDoorEK20
set_option linter.unusedVariables false
noncomputable section
namespace Go.Proofs.YteidbbogbhbckaaGreatDoor.moveCapture
open Go.Ev
theorem e_0 : ((List.range' 0 4).all fun b => isTrue (GT20 (.call 3 (.cons (.r 4 4 b) .nil) h0))) = true := by decide +kernel
end Go.Proofs.YteidbbogbhbckaaGreatDoor.moveCapture
end
