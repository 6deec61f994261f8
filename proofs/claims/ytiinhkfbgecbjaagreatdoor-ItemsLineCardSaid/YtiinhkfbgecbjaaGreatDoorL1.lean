/- Facts on the operators. No condition. -/
import Derived.Test.YtiinhkfbgecbjaaGreatDoorSg7
namespace Go.Proofs.YtiinhkfbgecbjaaGreatDoor
set_option linter.unusedSimpArgs false
set_option linter.unusedVariables false
open Go.RowKit Go.Sub

def OpFacts (x : List UInt8) : Prop := 0 < x.length ∧ x.length ≤ 3 ∧ operN x = x.length ∧ operN (x ++ [32]) = x.length ∧ operN (x ++ [97]) = x.length ∧ (operN (x.take 1) = 1 ∨ x = [33, 61]) ∧ operN (97 :: x) = 0
instance (x : List UInt8) : Decidable (OpFacts x) := by unfold OpFacts; infer_instance
theorem op_facts : ∀ x ∈ opsL, OpFacts x := by decide +kernel

end Go.Proofs.YtiinhkfbgecbjaaGreatDoor
