/- The chapter's example, by the kernel, once; the level of calls that knows it. -/
import Derived.Test.YtakbenifinnpfaaGreatDoorEX
set_option linter.unusedVariables false
noncomputable section
namespace Go.Proofs.YtakbenifinnpfaaGreatDoor
open Go.RowKit Go.Ev
theorem kn10 : isTrue (P3 8 .nil) = true := by decide +kernel
def GT10 : IH := ev (know 8 h0 P3) Tryz.prog 5000
theorem gOK10 : IHOK Tryz.prog h0 GT10 := by
  unfold GT10
  rw [know_eq kn10]
  exact sound hpo pOK mix 5000
end Go.Proofs.YtakbenifinnpfaaGreatDoor
end
