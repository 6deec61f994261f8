/- The chapter's example, by the kernel, once; the level of calls that knows it. -/
import Derived.Test.YtfcjbkddkaeliaaGreatDoorEY
set_option linter.unusedVariables false
noncomputable section
namespace Go.Proofs.YtfcjbkddkaeliaaGreatDoor
open Go.RowKit Go.Ev
theorem kn16 : isTrue (P5 13 .nil) = true := by decide +kernel
def GT16 : IH := ev (know 13 h0 P5) Tryz.prog 5000
theorem gOK16 : IHOK Tryz.prog h0 GT16 := by
  unfold GT16
  rw [know_eq kn16]
  exact sound hpo pOK mix 5000
end Go.Proofs.YtfcjbkddkaeliaaGreatDoor
end
