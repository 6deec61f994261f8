/- LintShadow: its cases, by the kernel (3). -/
import Derived.Test.YtfcjbkddkaeliaaGreatDoorEK17
set_option linter.unusedVariables false
noncomputable section
namespace Go.Proofs.YtfcjbkddkaeliaaGreatDoor.lintShadow
open Go.Ev
theorem e_6 : ((List.range' 6 1).all fun b => isTrue (GT17 (.call 7 (.cons (.r 4 8 b) .nil) h0))) = true := by decide +kernel
theorem e_7 : ((List.range' 7 1).all fun b => isTrue (GT17 (.call 7 (.cons (.r 4 8 b) .nil) h0))) = true := by decide +kernel
end Go.Proofs.YtfcjbkddkaeliaaGreatDoor.lintShadow
end
