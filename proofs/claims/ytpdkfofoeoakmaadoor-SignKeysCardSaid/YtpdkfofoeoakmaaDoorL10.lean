/- The law SignKeys: the plain part. No condition. -/
import Derived.Test.YtpdkfofoeoakmaaDoorL8
namespace Go.Proofs.YtpdkfofoeoakmaaDoor
open Go.RowKit Go.Sub

def AllL (l : List UInt8) : Prop := ∀ b ∈ l, isLetter b = true
theorem letter_part {b : UInt8} (h : isLetter b = true) : isPart b = true := by unfold isPart; rw [h]; rfl
theorem digit_part {b : UInt8} (h : isDigit b = true) : isPart b = true := by unfold isPart; rw [h]; simp
theorem digit_letter {b : UInt8} (h : isDigit b = true) : isLetter b = false := by
  cases hl : isLetter b
  · rfl
  · have := (apart b).1 hl; rw [h] at this; simp at this
theorem simple_letters {S : List UInt8} (hS : AllL S) {R : List UInt8} (hR : HeadNot isPart R) : simpleN (S ++ R) = S.length :=
  simple_of (fun b hb => letter_part (hS b hb)) hR (fun b hb => hS b (List.mem_of_getElem? hb))
theorem head_nil (p : UInt8 → Bool) : HeadNot p [] := fun b h => by simp at h
theorem simple_all {S : List UInt8} (hS : AllL S) : simpleN S = S.length := by
  have := simple_letters hS (head_nil isPart); rwa [List.append_nil] at this
theorem keys_digits : ∀ x ∈ keysL, ∀ b ∈ x, isDigit b = false := by decide +kernel
theorem key_digit {l : List UInt8} {b : UInt8} (hb : b ∈ l) (h : isDigit b = true) : isKey l = false := by
  unfold isKey
  cases hc : keysL.contains l
  · rfl
  · have := keys_digits l (List.contains_iff_mem.1 hc) b hb; rw [h] at this; simp at this
theorem plain_letters {S : List UInt8} (hS : AllL S) : plainB S = (!S.isEmpty && !isKey S) := by
  unfold plainB; rw [simple_all hS]; simp
theorem word_letters {S : List UInt8} (hS : AllL S) : wordN S = S.length := by
  unfold wordN
  rw [simple_all hS, List.drop_length, more_behind behind_nil]
  split <;> omega
theorem plain_ahead {D : UInt8} (hD : isDigit D = true) (S : List UInt8) : plainB (D :: S) = false := by
  have h : simpleN (D :: S) = 0 := by
    show (if isLetter D then _ else 0) = 0
    rw [if_neg (by rw [digit_letter hD]; simp)]
  unfold plainB; rw [h]; simp
theorem plain_behind {D : UInt8} (hD : isDigit D = true) {S : List UInt8} (hS : AllL S) : plainB (120 :: (S ++ [D])) = true := by
  have h : simpleN (120 :: (S ++ [D])) = (120 :: (S ++ [D])).length := by
    have := simple_of (A := 120 :: (S ++ [D])) (R := []) (fun b hb => by
      rcases List.mem_cons.1 hb with rfl | hb
      · decide
      · rcases List.mem_append.1 hb with hb | hb
        · exact letter_part (hS b hb)
        · simp at hb; subst hb; exact digit_part hD) (head_nil isPart) (fun b hb => by simp at hb; subst hb; decide)
    rwa [List.append_nil] at this
  unfold plainB; rw [h, key_digit (b := D) (by simp) hD]; simp
theorem plain_colons {S : List UInt8} (hS : AllL S) : plainB (S ++ (58 :: 58 :: S)) = false := by
  have h := simple_letters hS (R := 58 :: 58 :: S) (fun b hb => by simp at hb; subst hb; decide)
  unfold plainB; rw [h]
  have : (S.length == (S ++ (58 :: 58 :: S)).length) = false := by rw [beq_eq_false_iff_ne, List.length_append]; simp only [List.length_cons]; omega
  rw [this]; simp

theorem keys_facts (S : ByteArray) (hS : AllL S.data.toList) (hs : S.size ≤ 10) (D : UInt8) (hD : isDigit D = true) : ∃ k : Bool,
    (∀ w, TabX w → Calls Tryd.prog 23 #[.string S] w fun e w' => e = .returned (.bool (!S.data.toList.isEmpty && !k)) ∧ Below w.heap.size w w') ∧
    (∀ w, TabX w → Calls Tryd.prog 24 #[.string S] w fun e w' => e = .returned (.bool k) ∧ Below w.heap.size w w') ∧
    (∀ w, Calls Tryd.prog 19 #[.string S] w fun e w' => e = .returned (.int .i64 S.size) ∧ w' = w) ∧
    (∀ w, TabX w → Calls Tryd.prog 23 #[.string (⟨#[D]⟩ ++ S)] w fun e w' => e = .returned (.bool false) ∧ Below w.heap.size w w') ∧
    (∀ w, TabX w → Calls Tryd.prog 23 #[.string (⟨#[120]⟩ ++ S ++ ⟨#[D]⟩)] w fun e w' => e = .returned (.bool true) ∧ Below w.heap.size w w') ∧
    (∀ w, TabX w → Calls Tryd.prog 24 #[.string (S ++ ⟨#[D]⟩)] w fun e w' => e = .returned (.bool false) ∧ Below w.heap.size w w') ∧
    (∀ w, TabX w → Calls Tryd.prog 23 #[.string (S ++ ⟨#[58, 58]⟩ ++ S)] w fun e w' => e = .returned (.bool false) ∧ Below w.heap.size w w') := by
  have h1 : (⟨#[D]⟩ : ByteArray).size = 1 := rfl
  have h2 : (⟨#[120]⟩ : ByteArray).size = 1 := rfl
  have h3 : (⟨#[58, 58]⟩ : ByteArray).size = 2 := rfl
  refine ⟨isKey S.data.toList, fun w hT => ?_, fun w hT => key_calls S w hT, fun w => ?_, fun w hT => ?_, fun w hT => ?_, fun w hT => ?_, fun w hT => ?_⟩
  · rw [← plain_letters hS]; exact plain_calls S w (by omega) hT
  · have h := word_calls S w (by omega)
    rw [word_letters hS, ← Lib.size_eq] at h
    exact h
  · have h := plain_calls (⟨#[D]⟩ ++ S) w (by rw [ByteArray.size_append]; omega) hT
    rw [show ((⟨#[D]⟩ : ByteArray) ++ S).data.toList = D :: S.data.toList by simp, plain_ahead hD] at h
    exact h
  · have h := plain_calls (⟨#[120]⟩ ++ S ++ ⟨#[D]⟩) w (by rw [ByteArray.size_append, ByteArray.size_append]; omega) hT
    rw [show ((⟨#[120]⟩ : ByteArray) ++ S ++ ⟨#[D]⟩).data.toList = 120 :: (S.data.toList ++ [D]) by simp, plain_behind hD hS] at h
    exact h
  · have h := key_calls (S ++ ⟨#[D]⟩) w hT
    rw [show (S ++ (⟨#[D]⟩ : ByteArray)).data.toList = S.data.toList ++ [D] by simp, key_digit (b := D) (by simp) hD] at h
    exact h
  · have h := plain_calls (S ++ ⟨#[58, 58]⟩ ++ S) w (by rw [ByteArray.size_append, ByteArray.size_append]; omega) hT
    rw [show (S ++ (⟨#[58, 58]⟩ : ByteArray) ++ S).data.toList = S.data.toList ++ (58 :: 58 :: S.data.toList) by simp, plain_colons hS] at h
    exact h
end Go.Proofs.YtpdkfofoeoakmaaDoor
