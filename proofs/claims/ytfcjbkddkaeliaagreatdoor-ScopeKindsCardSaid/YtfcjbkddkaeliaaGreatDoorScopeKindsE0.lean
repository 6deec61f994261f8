/- ScopeKinds: its cases, by the kernel (0). -/
import Derived.Test.YtfcjbkddkaeliaaGreatDoorEK16
set_option linter.unusedVariables false
noncomputable section
namespace Go.Proofs.YtfcjbkddkaeliaaGreatDoor.scopeKinds
open Go.Ev
theorem e_0 : ((List.range' 0 2).all fun b => isTrue (GT16 (.call 4 (.cons (.r 4 6 b) .nil) h0))) = true := by decide +kernel
theorem e_2 : ((List.range' 2 2).all fun b => isTrue (GT16 (.call 4 (.cons (.r 4 6 b) .nil) h0))) = true := by decide +kernel
end Go.Proofs.YtfcjbkddkaeliaaGreatDoor.scopeKinds
end
