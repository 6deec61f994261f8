/- LintShadow: its cases, by the kernel (0). -/
import Derived.Test.YtfcjbkddkaeliaaGreatDoorEK17
set_option linter.unusedVariables false
noncomputable section
namespace Go.Proofs.YtfcjbkddkaeliaaGreatDoor.lintShadow
open Go.Ev
theorem e_0 : ((List.range' 0 1).all fun b => isTrue (GT17 (.call 7 (.cons (.r 4 8 b) .nil) h0))) = true := by decide +kernel
theorem e_1 : ((List.range' 1 1).all fun b => isTrue (GT17 (.call 7 (.cons (.r 4 8 b) .nil) h0))) = true := by decide +kernel
end Go.Proofs.YtfcjbkddkaeliaaGreatDoor.lintShadow
end
