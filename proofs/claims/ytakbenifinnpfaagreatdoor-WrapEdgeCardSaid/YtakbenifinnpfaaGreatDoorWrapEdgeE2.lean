/- WrapEdge: its cases, by the kernel (2). -/
import Derived.Test.YtakbenifinnpfaaGreatDoorEK10
set_option linter.unusedVariables false
noncomputable section
namespace Go.Proofs.YtakbenifinnpfaaGreatDoor.wrapEdge
open Go.Ev
theorem e_2_0 : ((List.range' 0 3).all fun b => isTrue (GT10 (.call 6 (.cons (.r 4 3 2) (.cons (.r 4 9 b) .nil)) h0))) = true := by decide +kernel
theorem e_2_3 : ((List.range' 3 3).all fun b => isTrue (GT10 (.call 6 (.cons (.r 4 3 2) (.cons (.r 4 9 b) .nil)) h0))) = true := by decide +kernel
theorem e_2_6 : ((List.range' 6 3).all fun b => isTrue (GT10 (.call 6 (.cons (.r 4 3 2) (.cons (.r 4 9 b) .nil)) h0))) = true := by decide +kernel
end Go.Proofs.YtakbenifinnpfaaGreatDoor.wrapEdge
end
