/- Facts on signs. No condition. -/
import Derived.Test.YtiinhkfbgecbjaaGreatDoorL3
import Derived.Deep.RegionWith
import Derived.WalkSmall
namespace Go.Proofs.YtiinhkfbgecbjaaGreatDoor
set_option linter.unusedSimpArgs false
set_option linter.unusedVariables false
open Go.RowKit Go.Sub

theorem run_one (p : UInt8 → Bool) (b : UInt8) (r : List UInt8) (h : p b = true) : 1 ≤ runOf p (b :: r) := by
  unfold runOf; rw [List.takeWhile_cons, if_pos h]; simp
theorem run_none (p : UInt8 → Bool) (b : UInt8) (r : List UInt8) (h : p b = false) : runOf p (b :: r) = 0 := by
  unfold runOf; rw [List.takeWhile_cons, if_neg (by rw [h]; simp)]; rfl
theorem word_letter (b : UInt8) (r : List UInt8) (h : isLetter b = true) : 1 ≤ wordN (b :: r) := by
  have h1 : 1 ≤ simpleN (b :: r) := by
    show 1 ≤ (if isLetter b then runOf isPart (b :: r) else 0)
    rw [if_pos h]; exact run_one _ b r (by unfold isPart; rw [h]; rfl)
  unfold wordN; rw [if_neg (by omega)]; omega
theorem word_other (b : UInt8) (r : List UInt8) (h : isLetter b = false) : wordN (b :: r) = 0 := by
  have h1 : simpleN (b :: r) = 0 := by
    show (if isLetter b then runOf isPart (b :: r) else 0) = 0
    rw [if_neg (by rw [h]; simp)]
  unfold wordN; rw [if_pos h1]
theorem num_digit (b : UInt8) (r : List UInt8) (h : isDigit b = true) : 1 ≤ numberN (b :: r) := by
  have h1 := run_one isDigit b r h
  have h2 : 1 ≤ mantN (b :: r) := by unfold mantN; split; · rw [if_neg (by omega)]; omega
                                     · exact h1
  unfold numberN; rw [if_neg (by omega)]; omega
theorem num_other (b : UInt8) (r : List UInt8) (h : isDigit b = false) (h2 : b ≠ 46) : numberN (b :: r) = 0 := by
  have h1 := run_none isDigit b r h
  have hm : mantN (b :: r) = 0 := by
    unfold mantN; rw [h1, if_neg]; intro e; exact h2 (Option.some.inj e)
  unfold numberN; rw [if_pos hm]
theorem esc_other (b : UInt8) (r : List UInt8) (h : b ≠ 92) : escN (b :: r) = 0 := by
  match r with
  | [] => rfl
  | c :: t =>
    show (if b == 92 then _ else 0) = 0
    rw [if_neg (by simpa using h)]
theorem apart (b : UInt8) : (isLetter b = true → isDigit b = false) ∧ (isLetter b = true → isBlank b = false) ∧ (isDigit b = true → isBlank b = false) := by
  have := u8_all (p := fun b => (!isLetter b || !isDigit b) && ((!isLetter b || !isBlank b) && (!isDigit b || !isBlank b))) (by decide +kernel) b
  cases h1 : isLetter b <;> cases h2 : isDigit b <;> cases h3 : isBlank b <;> simp_all
end Go.Proofs.YtiinhkfbgecbjaaGreatDoor
