/- WrapOpers: its cases, by the kernel (4). -/
import Derived.Test.YtakbenifinnpfaaGreatDoorEK10
set_option linter.unusedVariables false
noncomputable section
namespace Go.Proofs.YtakbenifinnpfaaGreatDoor.wrapOpers
open Go.Ev
theorem e_6_false_0 : ((List.range' 0 5).all fun b => isTrue (GT10 (.call 4 (.cons (.r 4 9 6) (.cons (.r 4 9 b) (.cons (.b false) .nil))) h0))) = true := by decide +kernel
theorem e_6_false_5 : ((List.range' 5 4).all fun b => isTrue (GT10 (.call 4 (.cons (.r 4 9 6) (.cons (.r 4 9 b) (.cons (.b false) .nil))) h0))) = true := by decide +kernel
theorem e_6_true_0 : ((List.range' 0 5).all fun b => isTrue (GT10 (.call 4 (.cons (.r 4 9 6) (.cons (.r 4 9 b) (.cons (.b true) .nil))) h0))) = true := by decide +kernel
theorem e_6_true_5 : ((List.range' 5 4).all fun b => isTrue (GT10 (.call 4 (.cons (.r 4 9 6) (.cons (.r 4 9 b) (.cons (.b true) .nil))) h0))) = true := by decide +kernel
theorem e_7_false_0 : ((List.range' 0 5).all fun b => isTrue (GT10 (.call 4 (.cons (.r 4 9 7) (.cons (.r 4 9 b) (.cons (.b false) .nil))) h0))) = true := by decide +kernel
theorem e_7_false_5 : ((List.range' 5 4).all fun b => isTrue (GT10 (.call 4 (.cons (.r 4 9 7) (.cons (.r 4 9 b) (.cons (.b false) .nil))) h0))) = true := by decide +kernel
end Go.Proofs.YtakbenifinnpfaaGreatDoor.wrapOpers
end
