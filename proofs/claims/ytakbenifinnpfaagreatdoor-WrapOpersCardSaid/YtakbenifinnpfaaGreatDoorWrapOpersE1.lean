/- WrapOpers: its cases, by the kernel (1). -/
import Derived.Test.YtakbenifinnpfaaGreatDoorEK10
set_option linter.unusedVariables false
noncomputable section
namespace Go.Proofs.YtakbenifinnpfaaGreatDoor.wrapOpers
open Go.Ev
theorem e_1_true_0 : ((List.range' 0 5).all fun b => isTrue (GT10 (.call 4 (.cons (.r 4 9 1) (.cons (.r 4 9 b) (.cons (.b true) .nil))) h0))) = true := by decide +kernel
theorem e_1_true_5 : ((List.range' 5 4).all fun b => isTrue (GT10 (.call 4 (.cons (.r 4 9 1) (.cons (.r 4 9 b) (.cons (.b true) .nil))) h0))) = true := by decide +kernel
theorem e_2_false_0 : ((List.range' 0 5).all fun b => isTrue (GT10 (.call 4 (.cons (.r 4 9 2) (.cons (.r 4 9 b) (.cons (.b false) .nil))) h0))) = true := by decide +kernel
theorem e_2_false_5 : ((List.range' 5 4).all fun b => isTrue (GT10 (.call 4 (.cons (.r 4 9 2) (.cons (.r 4 9 b) (.cons (.b false) .nil))) h0))) = true := by decide +kernel
theorem e_2_true_0 : ((List.range' 0 5).all fun b => isTrue (GT10 (.call 4 (.cons (.r 4 9 2) (.cons (.r 4 9 b) (.cons (.b true) .nil))) h0))) = true := by decide +kernel
theorem e_2_true_5 : ((List.range' 5 4).all fun b => isTrue (GT10 (.call 4 (.cons (.r 4 9 2) (.cons (.r 4 9 b) (.cons (.b true) .nil))) h0))) = true := by decide +kernel
end Go.Proofs.YtakbenifinnpfaaGreatDoor.wrapOpers
end
