/- LintSame: its cases, by the kernel (1). -/
import Derived.Test.YtfcjbkddkaeliaaGreatDoorEK17
set_option linter.unusedVariables false
noncomputable section
namespace Go.Proofs.YtfcjbkddkaeliaaGreatDoor.lintSame
open Go.Ev
theorem e_1_0 : ((List.range' 0 1).all fun b => isTrue (GT17 (.call 5 (.cons (.r 4 6 1) (.cons (.r 4 4 b) .nil)) h0))) = true := by decide +kernel
theorem e_1_1 : ((List.range' 1 1).all fun b => isTrue (GT17 (.call 5 (.cons (.r 4 6 1) (.cons (.r 4 4 b) .nil)) h0))) = true := by decide +kernel
theorem e_1_2 : ((List.range' 2 1).all fun b => isTrue (GT17 (.call 5 (.cons (.r 4 6 1) (.cons (.r 4 4 b) .nil)) h0))) = true := by decide +kernel
theorem e_1_3 : ((List.range' 3 1).all fun b => isTrue (GT17 (.call 5 (.cons (.r 4 6 1) (.cons (.r 4 4 b) .nil)) h0))) = true := by decide +kernel
end Go.Proofs.YtfcjbkddkaeliaaGreatDoor.lintSame
end
