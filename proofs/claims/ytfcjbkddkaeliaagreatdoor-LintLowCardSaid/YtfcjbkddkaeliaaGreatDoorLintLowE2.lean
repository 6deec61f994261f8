/- LintLow: its cases, by the kernel (2). -/
import Derived.Test.YtfcjbkddkaeliaaGreatDoorEK17
set_option linter.unusedVariables false
noncomputable section
namespace Go.Proofs.YtfcjbkddkaeliaaGreatDoor.lintLow
open Go.Ev
theorem e_4 : ((List.range' 4 1).all fun b => isTrue (GT17 (.call 6 (.cons (.r 4 7 b) .nil) h0))) = true := by decide +kernel
theorem e_5 : ((List.range' 5 1).all fun b => isTrue (GT17 (.call 6 (.cons (.r 4 7 b) .nil) h0))) = true := by decide +kernel
end Go.Proofs.YtfcjbkddkaeliaaGreatDoor.lintLow
end
