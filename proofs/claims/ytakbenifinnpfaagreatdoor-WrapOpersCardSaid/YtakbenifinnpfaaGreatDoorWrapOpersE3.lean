/- WrapOpers: its cases, by the kernel (3). -/
import Derived.Test.YtakbenifinnpfaaGreatDoorEK10
set_option linter.unusedVariables false
noncomputable section
namespace Go.Proofs.YtakbenifinnpfaaGreatDoor.wrapOpers
open Go.Ev
theorem e_4_true_0 : ((List.range' 0 5).all fun b => isTrue (GT10 (.call 4 (.cons (.r 4 9 4) (.cons (.r 4 9 b) (.cons (.b true) .nil))) h0))) = true := by decide +kernel
theorem e_4_true_5 : ((List.range' 5 4).all fun b => isTrue (GT10 (.call 4 (.cons (.r 4 9 4) (.cons (.r 4 9 b) (.cons (.b true) .nil))) h0))) = true := by decide +kernel
theorem e_5_false_0 : ((List.range' 0 5).all fun b => isTrue (GT10 (.call 4 (.cons (.r 4 9 5) (.cons (.r 4 9 b) (.cons (.b false) .nil))) h0))) = true := by decide +kernel
theorem e_5_false_5 : ((List.range' 5 4).all fun b => isTrue (GT10 (.call 4 (.cons (.r 4 9 5) (.cons (.r 4 9 b) (.cons (.b false) .nil))) h0))) = true := by decide +kernel
theorem e_5_true_0 : ((List.range' 0 5).all fun b => isTrue (GT10 (.call 4 (.cons (.r 4 9 5) (.cons (.r 4 9 b) (.cons (.b true) .nil))) h0))) = true := by decide +kernel
theorem e_5_true_5 : ((List.range' 5 4).all fun b => isTrue (GT10 (.call 4 (.cons (.r 4 9 5) (.cons (.r 4 9 b) (.cons (.b true) .nil))) h0))) = true := by decide +kernel
end Go.Proofs.YtakbenifinnpfaaGreatDoor.wrapOpers
end
