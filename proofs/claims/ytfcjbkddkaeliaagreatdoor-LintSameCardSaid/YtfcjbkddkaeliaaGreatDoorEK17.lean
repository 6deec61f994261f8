/- The chapter's example, by the kernel, once; the level of calls that knows it. -/
import Derived.Test.YtfcjbkddkaeliaaGreatDoorEZ
set_option linter.unusedVariables false
noncomputable section
namespace Go.Proofs.YtfcjbkddkaeliaaGreatDoor
open Go.RowKit Go.Ev
theorem kn17 : isTrue (P5 15 .nil) = true := by decide +kernel
def GT17 : IH := evM (joinIH 104) (know 15 h0 P5) Tryz.prog 5000
theorem gOK17 : IHOK Tryz.prog h0 GT17 := by
  unfold GT17
  rw [know_eq kn17]
  exact soundM hpo pOK mix jOK 5000
end Go.Proofs.YtfcjbkddkaeliaaGreatDoor
end
