/- ScopeNear: its cases, by the kernel (0). -/
import Derived.Test.YtfcjbkddkaeliaaGreatDoorEK16
set_option linter.unusedVariables false
noncomputable section
namespace Go.Proofs.YtfcjbkddkaeliaaGreatDoor.scopeNear
open Go.Ev
theorem e_0_0 : ((List.range' 0 1).all fun b => isTrue (GT16 (.call 3 (.cons (.r 4 8 0) (.cons (.r 4 3 b) .nil)) h0))) = true := by decide +kernel
theorem e_0_1 : ((List.range' 1 1).all fun b => isTrue (GT16 (.call 3 (.cons (.r 4 8 0) (.cons (.r 4 3 b) .nil)) h0))) = true := by decide +kernel
theorem e_0_2 : ((List.range' 2 1).all fun b => isTrue (GT16 (.call 3 (.cons (.r 4 8 0) (.cons (.r 4 3 b) .nil)) h0))) = true := by decide +kernel
end Go.Proofs.YtfcjbkddkaeliaaGreatDoor.scopeNear
end
