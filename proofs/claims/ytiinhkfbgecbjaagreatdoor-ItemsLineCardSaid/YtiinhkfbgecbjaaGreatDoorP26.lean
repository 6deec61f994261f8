/- What is told at a front stays, whatever stands behind, if that goes not on: names. No condition. · The same of numbers. No condition. · What stands at a front outside of strings. No condition. · A token stays, whatever stands behind, if it goes not on. No condition. · Ahead of a blank, a quote, a bracket's end it stays; ahead of the next token, too. No condition. · Steps of a lexer, one behind the other. No condition. · Pieces of strings; a token outside of strings stays in a line. No condition. · A line is told token by token. No condition. · A line of a source's tokens has the same tokens, but for spaces and notes; its own line is itself. Its condition: a source of at most 30000 bytes. · ItemsLine, walked. Its condition: how the choices lie in memory. -/
import Derived.Test.YtiinhkfbgecbjaaGreatDoorC3
import Derived.Test.YtiinhkfbgecbjaaGreatDoorL8
import Derived.Test.YtiinhkfbgecbjaaGreatDoorC1
import Derived.Test.YtiinhkfbgecbjaaGreatDoorC2
import Derived.Deep.QuietTactic
import Derived.BigQuiet
namespace Go.Proofs.YtiinhkfbgecbjaaGreatDoor.Line
set_option linter.unusedVariables false
set_option linter.unusedSimpArgs false
open Go.RowKit Go.Sub
/-! what is told at a front stays, whatever stands behind, if that goes not on -/
theorem head_app {p : UInt8 → Bool} {U T : List UInt8} (k : Nat) (hU : HeadNot p U) (hT : HeadNot p T) : HeadNot p (U.take k ++ T) := by
  intro b hb
  match k, U with
  | 0, _ => rw [List.take_zero, List.nil_append] at hb; exact hT b hb
  | k + 1, [] => rw [List.take_nil, List.nil_append] at hb; exact hT b hb
  | k + 1, u :: r => exact hU b (by simpa using hb)
/-- goes on neither as a name nor as a name's next part -/
theorem more_cutG (T : List UInt8) (h1 : HeadNot isPart T) (h2 : moreN T = 0) : ∀ k (l : List UInt8), l.length ≤ k → moreN (l.take (moreN l) ++ T) = moreN l := by
  intro k
  induction k with
  | zero =>
    intro l h
    obtain rfl := List.length_eq_zero_iff.1 (show l.length = 0 by omega)
    rw [List.take_nil, List.nil_append, h2, more_behind behind_nil]
  | succ k ih =>
    intro l hk
    cases hp : Lib.hasPrefix l [58, 58]
    · rw [moreN_miss l hp]; exact h2
    · obtain ⟨r, rfl⟩ : ∃ r, l = 58 :: 58 :: r := by
        unfold Lib.hasPrefix at hp
        obtain ⟨r, hr⟩ := List.isPrefixOf_iff_prefix.1 hp
        exact ⟨r, hr.symm⟩
      rcases simple_split r with h0 | ⟨A, R, rfl, h0, hA, hR, hl⟩
      · rw [moreN_none _ hp h0]; exact h2
      · rw [more_of hA h0 hR hl]
        have e2 : (58 :: 58 :: (A ++ R)).take (2 + A.length + moreN R) ++ T = 58 :: 58 :: (A ++ (R.take (moreN R) ++ T)) := by
          rw [show 2 + A.length + moreN R = (A.length + moreN R) + 1 + 1 by omega, List.take_succ_cons, List.take_succ_cons, take_app]; simp
        rw [e2, more_of hA h0 (head_app _ hR h1) hl, ih R (by simp only [List.length_cons, List.length_append] at hk; omega)]
theorem simple_app {A : List UInt8} (h0 : A ≠ []) (hA : ∀ b ∈ A, isPart b = true) (hl : ∀ b, A[0]? = some b → isLetter b = true) (X : List UInt8) (hX : HeadNot isPart X) : wordN (A ++ X) = A.length + moreN X := by
  have hs := simple_of hA hX hl
  unfold wordN
  rw [hs, if_neg (fun h => h0 (List.length_eq_zero_iff.1 h)), List.drop_left]
theorem word_cutG (s T : List UInt8) (h0 : 0 < wordN s) (h1 : HeadNot isPart T) (h2 : moreN T = 0) : wordN (s.take (wordN s) ++ T) = wordN s := by
  rcases simple_split s with h | ⟨A, R, rfl, hA0, hA, hR, hl⟩
  · have : wordN s = 0 := by unfold wordN; rw [if_pos h]
    omega
  · rw [simple_app hA0 hA hl R hR, take_app, List.append_assoc, simple_app hA0 hA hl _ (head_app _ hR h1), more_cutG T h1 h2 _ R (Nat.le_refl _)]
theorem simple_cutG (s T : List UInt8) (h0 : 0 < simpleN s) (h1 : HeadNot isPart T) : simpleN (s.take (simpleN s) ++ T) = simpleN s := by
  rcases simple_split s with h | ⟨A, R, rfl, hA0, hA, hR, hl⟩
  · omega
  · rw [simple_of hA hR hl, List.take_left' rfl]
    exact simple_of hA h1 hl
theorem run_cutG (p : UInt8 → Bool) (s T : List UInt8) (h1 : HeadNot p T) : runOf p (s.take (runOf p s) ++ T) = runOf p s := by
  obtain ⟨A, R, rfl, hA, hR⟩ := split_run p s
  rw [run_ends hA hR, List.take_left' rfl]
  exact run_ends hA h1
/-- behind what is told no part goes on -/
theorem more_next : ∀ k (l : List UInt8), l.length ≤ k → HeadNot isPart l → HeadNot isPart (l.drop (moreN l)) := by
  intro k
  induction k with
  | zero =>
    intro l h _
    obtain rfl := List.length_eq_zero_iff.1 (show l.length = 0 by omega)
    intro b hb; simp at hb
  | succ k ih =>
    intro l hk hl0
    cases hp : Lib.hasPrefix l [58, 58]
    · rw [moreN_miss l hp]; exact hl0
    · obtain ⟨r, rfl⟩ : ∃ r, l = 58 :: 58 :: r := by
        unfold Lib.hasPrefix at hp
        obtain ⟨r, hr⟩ := List.isPrefixOf_iff_prefix.1 hp
        exact ⟨r, hr.symm⟩
      rcases simple_split r with h0 | ⟨A, R, rfl, h0, hA, hR, hl⟩
      · rw [moreN_none _ hp h0]; exact hl0
      · rw [more_of hA h0 hR hl]
        have e : (58 :: 58 :: (A ++ R)).drop (2 + A.length + moreN R) = R.drop (moreN R) := by
          rw [show 2 + A.length + moreN R = 2 + (A.length + moreN R) by omega, ← List.drop_drop, ← List.drop_drop]
          show ((A ++ R).drop A.length).drop (moreN R) = _
          rw [List.drop_left]
        rw [e]
        exact ih R (by simp only [List.length_cons, List.length_append] at hk; omega) hR
theorem word_next (s : List UInt8) (h : 0 < wordN s) : HeadNot isPart (s.drop (wordN s)) := by
  rcases simple_split s with h0 | ⟨A, R, rfl, hA0, hA, hR, hl⟩
  · have : wordN s = 0 := by unfold wordN; rw [if_pos h0]
    omega
  · rw [simple_app hA0 hA hl R hR, ← List.drop_drop, List.drop_left]
    exact more_next _ R (Nat.le_refl _) hR
theorem simple_next (s : List UInt8) (h : 0 < simpleN s) : HeadNot isPart (s.drop (simpleN s)) := by
  rcases simple_split s with h0 | ⟨A, R, rfl, hA0, hA, hR, hl⟩
  · omega
  · rw [simple_of hA hR hl, List.drop_left]; exact hR
theorem run_next (p : UInt8 → Bool) (s : List UInt8) : HeadNot p (s.drop (runOf p s)) := by
  obtain ⟨A, R, rfl, hA, hR⟩ := split_run p s
  rw [run_ends hA hR, List.drop_left]; exact hR
end Go.Proofs.YtiinhkfbgecbjaaGreatDoor.Line
namespace Go.Proofs.YtiinhkfbgecbjaaGreatDoor.Line
set_option linter.unusedVariables false
set_option linter.unusedSimpArgs false
open Go.RowKit Go.Sub
/- numbers -/
theorem pow_cutG (C T : List UInt8) (hT : HeadNot isDigit T) (hp : powerN T = 0) : powerN (C.take (powerN C) ++ T) = powerN C := by
  match C with
  | [] => rw [List.take_nil]; exact hp
  | b :: r =>
    cases hb : (b == 101 || b == 69)
    · have h0 : powerN (b :: r) = 0 := by
        show (if b == 101 || b == 69 then _ else 0) = 0
        rw [if_neg (by rw [hb]; simp)]
      rw [h0]; exact hp
    · obtain ⟨g, hg, hgs⟩ := sign_split r
      obtain ⟨P, U, hPU, hP, hU⟩ := split_run isDigit (signOff r)
      by_cases h0 : P = []
      · have h1 : powerN (b :: r) = 0 := by
          show (if b == 101 || b == 69 then (if runOf isDigit (signOff r) = 0 then 0 else _) else 0) = 0
          rw [if_pos hb, if_pos (by rw [hPU, h0]; exact run_head hU)]
        rw [h1]; exact hp
      · rw [hPU] at hg
        have e := pow_of hb hgs hP h0 hU
        rw [hg, e]
        have e2 : (b :: (g ++ (P ++ U))).take (1 + (g.length + P.length)) ++ T = b :: (g ++ (P ++ T)) := by
          rw [Nat.add_comm 1, List.take_succ_cons, take_app, show P.length = P.length + 0 from rfl, take_app]; simp
        rw [e2]
        exact pow_of hb hgs hP h0 hT
theorem pow_next (C : List UInt8) (hC : HeadNot isDigit C) : HeadNot isDigit (C.drop (powerN C)) := by
  match C with
  | [] => exact hC
  | b :: r =>
    cases hb : (b == 101 || b == 69)
    · have h0 : powerN (b :: r) = 0 := by
        show (if b == 101 || b == 69 then _ else 0) = 0
        rw [if_neg (by rw [hb]; simp)]
      rw [h0]; exact hC
    · obtain ⟨g, hg, hgs⟩ := sign_split r
      obtain ⟨P, U, hPU, hP, hU⟩ := split_run isDigit (signOff r)
      by_cases h0 : P = []
      · have h1 : powerN (b :: r) = 0 := by
          show (if b == 101 || b == 69 then (if runOf isDigit (signOff r) = 0 then 0 else _) else 0) = 0
          rw [if_pos hb, if_pos (by rw [hPU, h0]; exact run_head hU)]
        rw [h1]; exact hC
      · rw [hPU] at hg
        have e := pow_of hb hgs hP h0 hU
        rw [hg, e, show 1 + (g.length + P.length) = (g.length + P.length) + 1 by omega, List.drop_succ_cons, ← List.drop_drop, List.drop_left, List.drop_left]
        exact hU
theorem num_zero_dot {C : List UInt8} (hC : HeadNot isDigit C) : numberN (46 :: C) = 0 := by
  have hr : runOf isDigit (46 :: C) = 0 := run_head (fun b h => by simp at h; subst h; rfl)
  have hm : mantN (46 :: C) = 0 := by
    unfold mantN
    rw [hr, if_pos (show (46 :: C)[0]? = some 46 from rfl), if_pos]
    rw [show (46 :: C).drop (0 + 1) = C from rfl, run_head hC]
  unfold numberN; rw [if_pos hm]
theorem num_zero_plain {R : List UInt8} (hR : HeadNot isDigit R) (h46 : R[0]? ≠ some 46) : numberN R = 0 := by
  have hm : mantN R = 0 := by unfold mantN; rw [run_head hR, if_neg h46]
  unfold numberN; rw [if_pos hm]
theorem num_cutG (s T : List UInt8) (h0 : 0 < numberN s) (hT : HeadNot isDigit T) (hp : powerN T = 0) (h46 : T[0]? = some 46 → (s.drop (numberN s))[0]? = some 46) : numberN (s.take (numberN s) ++ T) = numberN s := by
  obtain ⟨A, R, rfl, hA, hR⟩ := split_run isDigit s
  by_cases hd : R[0]? = some 46
  · obtain ⟨R', rfl⟩ : ∃ R', R = 46 :: R' := by
      match R with
      | [] => simp at hd
      | b :: r => simp at hd; exact ⟨r, by rw [hd]⟩
    obtain ⟨B, C, rfl, hB, hC⟩ := split_run isDigit R'
    by_cases hz : A.length + B.length = 0
    · obtain rfl := List.length_eq_zero_iff.1 (show A.length = 0 by omega)
      obtain rfl := List.length_eq_zero_iff.1 (show B.length = 0 by omega)
      have := num_zero_dot hC
      simp only [List.nil_append] at h0
      omega
    · rw [num_dots hA hB hz hC]
      have e2 : (A ++ 46 :: (B ++ C)).take (A.length + (1 + (B.length + powerN C))) ++ T = A ++ 46 :: (B ++ (C.take (powerN C) ++ T)) := by
        rw [take_app, Nat.add_comm 1, List.take_succ_cons, take_app]; simp
      rw [e2, num_dots hA hB hz (head_app _ hC hT), pow_cutG C T hT hp]
  · by_cases hA0 : A = []
    · subst hA0
      have := num_zero_plain hR hd
      simp only [List.nil_append] at h0
      omega
    · have hR2 : ∀ b, R[0]? = some b → isDigit b = false ∧ b ≠ 46 := fun b h => ⟨hR b h, fun e => hd (e ▸ h)⟩
      rw [num_whole A R hA hA0 hR2] at h46 ⊢
      rw [take_app, List.append_assoc, num_whole A _ hA hA0, pow_cutG R T hT hp]
      intro b hb
      refine ⟨head_app _ hR hT b hb, fun e => ?_⟩
      subst e
      by_cases hpw : powerN R = 0
      · rw [hpw, List.take_zero, List.nil_append] at hb
        have := h46 hb
        rw [hpw, Nat.add_zero, List.drop_left] at this
        exact hd this
      · obtain ⟨x, r, rfl⟩ : ∃ x r, R = x :: r := by
          match R with
          | [] => exact absurd rfl hpw
          | x :: r => exact ⟨x, r, rfl⟩
        obtain ⟨k, hk⟩ : ∃ k, powerN (x :: r) = k + 1 := ⟨powerN (x :: r) - 1, by omega⟩
        rw [hk, List.take_succ_cons] at hb
        exact hd (by simpa using hb)
theorem num_next (s : List UInt8) (h : 0 < numberN s) : HeadNot isDigit (s.drop (numberN s)) := by
  obtain ⟨A, R, rfl, hA, hR⟩ := split_run isDigit s
  by_cases hd : R[0]? = some 46
  · obtain ⟨R', rfl⟩ : ∃ R', R = 46 :: R' := by
      match R with
      | [] => simp at hd
      | b :: r => simp at hd; exact ⟨r, by rw [hd]⟩
    obtain ⟨B, C, rfl, hB, hC⟩ := split_run isDigit R'
    by_cases hz : A.length + B.length = 0
    · obtain rfl := List.length_eq_zero_iff.1 (show A.length = 0 by omega)
      obtain rfl := List.length_eq_zero_iff.1 (show B.length = 0 by omega)
      have := num_zero_dot hC
      simp only [List.nil_append] at h
      omega
    · rw [num_dots hA hB hz hC, ← List.drop_drop, List.drop_left, Nat.add_comm 1, List.drop_succ_cons, ← List.drop_drop, List.drop_left]
      exact pow_next C hC
  · by_cases hA0 : A = []
    · subst hA0
      have := num_zero_plain hR hd
      simp only [List.nil_append] at h
      omega
    · have hR2 : ∀ b, R[0]? = some b → isDigit b = false ∧ b ≠ 46 := fun b h => ⟨hR b h, fun e => hd (e ▸ h)⟩
      rw [num_whole A R hA hA0 hR2, ← List.drop_drop, List.drop_left]
      exact pow_next R hR
end Go.Proofs.YtiinhkfbgecbjaaGreatDoor.Line
namespace Go.Proofs.YtiinhkfbgecbjaaGreatDoor.Line
set_option linter.unusedVariables false
set_option linter.unusedSimpArgs false
open Go.RowKit Go.Sub
/-! ### what stands at a front outside of strings -/
def kfs : List (Nat × (List UInt8 → Nat)) := [(1, runOf isBlank), (2, noteN), (3, wordN), (4, behindN 46 simpleN), (5, behindN 36 wordN), (12, behindN 64 (runOf isPart)), (6, numberN), (7, quoteN), (13, operN)]
def kindAt (l : List UInt8) : Option (Nat × Nat) := (kfs.find? fun x => decide (0 < x.2 l)).map fun x => (x.1, x.2 l)
/-- the first bytes that each kind begins with -/
theorem kind_cases {l : List UInt8} {k n : Nat} (h : kindAt l = some (k, n)) : 0 < n ∧ (
    (k = 1 ∧ runOf isBlank l = n) ∨
    (runOf isBlank l = 0 ∧ ((k = 2 ∧ noteN l = n) ∨
    (noteN l = 0 ∧ ((k = 3 ∧ wordN l = n) ∨
    (wordN l = 0 ∧ ((k = 4 ∧ behindN 46 simpleN l = n) ∨
    (behindN 46 simpleN l = 0 ∧ ((k = 5 ∧ behindN 36 wordN l = n) ∨
    (behindN 36 wordN l = 0 ∧ ((k = 12 ∧ behindN 64 (runOf isPart) l = n) ∨
    (behindN 64 (runOf isPart) l = 0 ∧ ((k = 6 ∧ numberN l = n) ∨
    (numberN l = 0 ∧ ((k = 7 ∧ quoteN l = n) ∨
    (quoteN l = 0 ∧ k = 13 ∧ operN l = n)))))))))))))))) := by
  unfold kindAt kfs at h
  simp only [List.find?_cons, List.find?_nil] at h
  by_cases h1 : 0 < runOf isBlank l
  · rw [decide_eq_true h1] at h; cases h; exact ⟨h1, .inl ⟨rfl, rfl⟩⟩
  rw [decide_eq_false h1] at h
  by_cases h2 : 0 < noteN l
  · rw [decide_eq_true h2] at h; cases h; exact ⟨h2, .inr ⟨by omega, .inl ⟨rfl, rfl⟩⟩⟩
  rw [decide_eq_false h2] at h
  by_cases h3 : 0 < wordN l
  · rw [decide_eq_true h3] at h; cases h; exact ⟨h3, .inr ⟨by omega, .inr ⟨by omega, .inl ⟨rfl, rfl⟩⟩⟩⟩
  rw [decide_eq_false h3] at h
  by_cases h4 : 0 < behindN 46 simpleN l
  · rw [decide_eq_true h4] at h; cases h; exact ⟨h4, .inr ⟨by omega, .inr ⟨by omega, .inr ⟨by omega, .inl ⟨rfl, rfl⟩⟩⟩⟩⟩
  rw [decide_eq_false h4] at h
  by_cases h5 : 0 < behindN 36 wordN l
  · rw [decide_eq_true h5] at h; cases h; exact ⟨h5, .inr ⟨by omega, .inr ⟨by omega, .inr ⟨by omega, .inr ⟨by omega, .inl ⟨rfl, rfl⟩⟩⟩⟩⟩⟩
  rw [decide_eq_false h5] at h
  by_cases h6 : 0 < behindN 64 (runOf isPart) l
  · rw [decide_eq_true h6] at h; cases h; exact ⟨h6, .inr ⟨by omega, .inr ⟨by omega, .inr ⟨by omega, .inr ⟨by omega, .inr ⟨by omega, .inl ⟨rfl, rfl⟩⟩⟩⟩⟩⟩⟩
  rw [decide_eq_false h6] at h
  by_cases h7 : 0 < numberN l
  · rw [decide_eq_true h7] at h; cases h; exact ⟨h7, .inr ⟨by omega, .inr ⟨by omega, .inr ⟨by omega, .inr ⟨by omega, .inr ⟨by omega, .inr ⟨by omega, .inl ⟨rfl, rfl⟩⟩⟩⟩⟩⟩⟩⟩
  rw [decide_eq_false h7] at h
  by_cases h8 : 0 < quoteN l
  · rw [decide_eq_true h8] at h; cases h; exact ⟨h8, .inr ⟨by omega, .inr ⟨by omega, .inr ⟨by omega, .inr ⟨by omega, .inr ⟨by omega, .inr ⟨by omega, .inr ⟨by omega, .inl ⟨rfl, rfl⟩⟩⟩⟩⟩⟩⟩⟩⟩
  rw [decide_eq_false h8] at h
  by_cases h9 : 0 < operN l
  · rw [decide_eq_true h9] at h; cases h; exact ⟨h9, .inr ⟨by omega, .inr ⟨by omega, .inr ⟨by omega, .inr ⟨by omega, .inr ⟨by omega, .inr ⟨by omega, .inr ⟨by omega, .inr ⟨by omega, rfl, rfl⟩⟩⟩⟩⟩⟩⟩⟩⟩
  rw [decide_eq_false h9] at h
  cases h
theorem kind_of {l : List UInt8} {k n : Nat} (h0 : 0 < n) (h : 
    (k = 1 ∧ runOf isBlank l = n) ∨
    (runOf isBlank l = 0 ∧ ((k = 2 ∧ noteN l = n) ∨
    (noteN l = 0 ∧ ((k = 3 ∧ wordN l = n) ∨
    (wordN l = 0 ∧ ((k = 4 ∧ behindN 46 simpleN l = n) ∨
    (behindN 46 simpleN l = 0 ∧ ((k = 5 ∧ behindN 36 wordN l = n) ∨
    (behindN 36 wordN l = 0 ∧ ((k = 12 ∧ behindN 64 (runOf isPart) l = n) ∨
    (behindN 64 (runOf isPart) l = 0 ∧ ((k = 6 ∧ numberN l = n) ∨
    (numberN l = 0 ∧ ((k = 7 ∧ quoteN l = n) ∨
    (quoteN l = 0 ∧ k = 13 ∧ operN l = n)))))))))))))))) : kindAt l = some (k, n) := by
  unfold kindAt kfs
  simp only [List.find?_cons, List.find?_nil]
  rcases h with ⟨rfl, e⟩ | ⟨e0, h⟩
  · rw [decide_eq_true (show 0 < runOf isBlank l by omega)]; exact congrArg (fun x => some (1, x)) e
  rw [decide_eq_false (show ¬ 0 < runOf isBlank l by omega)]
  rcases h with ⟨rfl, e⟩ | ⟨e1, h⟩
  · rw [decide_eq_true (show 0 < noteN l by omega)]; exact congrArg (fun x => some (2, x)) e
  rw [decide_eq_false (show ¬ 0 < noteN l by omega)]
  rcases h with ⟨rfl, e⟩ | ⟨e2, h⟩
  · rw [decide_eq_true (show 0 < wordN l by omega)]; exact congrArg (fun x => some (3, x)) e
  rw [decide_eq_false (show ¬ 0 < wordN l by omega)]
  rcases h with ⟨rfl, e⟩ | ⟨e3, h⟩
  · rw [decide_eq_true (show 0 < behindN 46 simpleN l by omega)]; exact congrArg (fun x => some (4, x)) e
  rw [decide_eq_false (show ¬ 0 < behindN 46 simpleN l by omega)]
  rcases h with ⟨rfl, e⟩ | ⟨e4, h⟩
  · rw [decide_eq_true (show 0 < behindN 36 wordN l by omega)]; exact congrArg (fun x => some (5, x)) e
  rw [decide_eq_false (show ¬ 0 < behindN 36 wordN l by omega)]
  rcases h with ⟨rfl, e⟩ | ⟨e5, h⟩
  · rw [decide_eq_true (show 0 < behindN 64 (runOf isPart) l by omega)]; exact congrArg (fun x => some (12, x)) e
  rw [decide_eq_false (show ¬ 0 < behindN 64 (runOf isPart) l by omega)]
  rcases h with ⟨rfl, e⟩ | ⟨e6, h⟩
  · rw [decide_eq_true (show 0 < numberN l by omega)]; exact congrArg (fun x => some (6, x)) e
  rw [decide_eq_false (show ¬ 0 < numberN l by omega)]
  rcases h with ⟨rfl, e⟩ | ⟨e7, rfl, e⟩
  · rw [decide_eq_true (show 0 < quoteN l by omega)]; exact congrArg (fun x => some (7, x)) e
  rw [decide_eq_false (show ¬ 0 < quoteN l by omega)]
  rw [decide_eq_true (show 0 < operN l by omega)]; exact congrArg (fun x => some (13, x)) e
end Go.Proofs.YtiinhkfbgecbjaaGreatDoor.Line
namespace Go.Proofs.YtiinhkfbgecbjaaGreatDoor.Line
set_option linter.unusedVariables false
set_option linter.unusedSimpArgs false
open Go.RowKit Go.Sub
theorem zb {b : UInt8} (r : List UInt8) (h : isBlank b = false) : runOf isBlank (b :: r) = 0 := run_none _ b r h
theorem zn {b : UInt8} (r : List UInt8) (h : b ≠ 35) : noteN (b :: r) = 0 := by
  show (if b == 35 then linesN (b :: r) else 0) = 0
  rw [if_neg (by simpa using h)]
theorem zbeh {c b : UInt8} (f : List UInt8 → Nat) (r : List UInt8) (h : b ≠ c) : behindN c f (b :: r) = 0 := by
  show (if b == c then _ else 0) = 0
  rw [if_neg (by simpa using h)]
theorem zq {b : UInt8} (r : List UInt8) (h : b ≠ 34) : quoteN (b :: r) = 0 := by
  show (if b == 34 then 1 else 0) = 0
  rw [if_neg (by simpa using h)]
theorem beh_some {c : UInt8} {f : List UInt8 → Nat} {l : List UInt8} {n : Nat} (h : behindN c f l = n) (h0 : 0 < n) : ∃ r m, l = c :: r ∧ f r = m ∧ 0 < m ∧ n = m + 1 := by
  match l with
  | [] =>
    have : behindN c f [] = 0 := rfl
    omega
  | b :: r =>
    have h : (if b == c then (if f r = 0 then 0 else f r + 1) else 0) = n := h
    by_cases hb : b = c
    · subst hb
      rw [if_pos (by simp)] at h
      by_cases hf : f r = 0
      · rw [if_pos hf] at h; omega
      · rw [if_neg hf] at h; exact ⟨r, f r, rfl, rfl, by omega, by omega⟩
    · rw [if_neg (by simpa using hb)] at h; omega
theorem beh_is {c : UInt8} {f : List UInt8 → Nat} {r : List UInt8} {m : Nat} (h : f r = m) (h0 : 0 < m) : behindN c f (c :: r) = m + 1 := by
  show (if c == c then (if f r = 0 then 0 else f r + 1) else 0) = _
  rw [if_pos (by simp), h, if_neg (by omega)]
theorem beh_zero {c : UInt8} {f : List UInt8 → Nat} {r : List UInt8} : behindN c f (c :: r) = 0 ↔ f r = 0 := by
  show (if c == c then (if f r = 0 then 0 else f r + 1) else 0) = 0 ↔ _
  rw [if_pos (by simp)]
  by_cases h : f r = 0
  · simp [h]
  · rw [if_neg h]; omega
theorem simple_zero {r : List UInt8} : simpleN r = 0 ↔ HeadNot isLetter r := by
  match r with
  | [] => exact ⟨fun _ b h => by simp at h, fun _ => rfl⟩
  | a :: r =>
    constructor
    · intro h b hb
      simp at hb; subst hb
      cases ha : isLetter a with
      | false => rfl
      | true =>
        have h1 : (if isLetter a then runOf isPart (a :: r) else 0) = 0 := h
        rw [if_pos ha] at h1
        have := run_one isPart a r (by unfold isPart; rw [ha]; rfl)
        omega
    · intro h
      show (if isLetter a then runOf isPart (a :: r) else 0) = 0
      rw [if_neg (by rw [h a rfl]; simp)]
theorem word_head {s : List UInt8} (h : 0 < wordN s) : ∃ b r, s = b :: r ∧ isLetter b = true := by
  match s with
  | [] => have : wordN [] = 0 := by unfold wordN; rw [if_pos (show simpleN [] = 0 from rfl)]
          omega
  | b :: r =>
    refine ⟨b, r, rfl, ?_⟩
    cases hb : isLetter b with
    | true => rfl
    | false => have := word_other b r hb; omega
theorem part_of {p : UInt8 → Bool} (hp : ∀ b, isPart b = false → p b = false) {T : List UInt8} (h : HeadNot isPart T) : HeadNot p T := fun b hb => hp b (h b hb)
theorem not_letter {b : UInt8} (h : isPart b = false) : isLetter b = false := by unfold isPart at h; cases h1 : isLetter b <;> simp [h1] at h ⊢
theorem not_digit {b : UInt8} (h : isPart b = false) : isDigit b = false := by unfold isPart at h; cases h1 : isDigit b <;> simp [h1] at h ⊢
theorem letter_facts (b : UInt8) (h : isLetter b = true) : isBlank b = false ∧ b ≠ 35 := by
  have := beq_iff_eq.1 (u8_all (p := fun b => (!isLetter b || (!isBlank b && b != 35)) == true) (by decide +kernel) b)
  rw [h] at this
  simpa using this
theorem digit_facts (b : UInt8) (h : isDigit b = true) : isBlank b = false ∧ b ≠ 35 ∧ isLetter b = false ∧ b ≠ 46 ∧ b ≠ 36 ∧ b ≠ 64 := by
  have := beq_iff_eq.1 (u8_all (p := fun b => (!isDigit b || (!isBlank b && b != 35 && !isLetter b && b != 46 && b != 36 && b != 64)) == true) (by decide +kernel) b)
  rw [h] at this
  simpa [and_assoc] using this
theorem op_head : ∀ x ∈ opsL, ∃ b r, x = b :: r ∧ isBlank b = false ∧ b ≠ 35 ∧ isLetter b = false ∧ b ≠ 36 ∧ b ≠ 64 ∧ b ≠ 34 ∧ isDigit b = false ∧ (b = 46 → x = [46] ∨ x = [46, 46]) := by
  intro x hx
  have h : (opsL.all fun x => match x with | b :: r => !isBlank b && b != 35 && !isLetter b && b != 36 && b != 64 && b != 34 && !isDigit b && (b != 46 || x == [46] || x == [46, 46]) | [] => false) = true := by decide +kernel
  have := List.all_eq_true.1 h x hx
  match x, this with
  | b :: r, h1 =>
    simp only [Bool.and_eq_true, Bool.not_eq_true', bne_iff_ne, ne_eq, Bool.or_eq_true, beq_iff_eq] at h1
    obtain ⟨⟨⟨⟨⟨⟨⟨a1, a2⟩, a3⟩, a4⟩, a5⟩, a6⟩, a7⟩, a8⟩ := h1
    refine ⟨b, r, rfl, a1, a2, a3, a4, a5, a6, a7, fun e => ?_⟩
    rcases a8 with (h | h) | h
    · exact absurd e h
    · exact .inl h
    · exact .inr h
/-- what must not stand behind -/
def Stop (s : List UInt8) (k n : Nat) (T : List UInt8) : Prop :=
  (k = 3 ∨ k = 5 → HeadNot isPart T ∧ moreN T = 0) ∧ (k = 4 ∨ k = 12 → HeadNot isPart T) ∧ (k = 6 → HeadNot isDigit T ∧ powerN T = 0 ∧ (T[0]? = some 46 → (s.drop n)[0]? = some 46)) ∧ (k = 13 → operN (s.take n ++ T) = n ∧ (s.take n = [46] → HeadNot isPart T))
theorem num_head {s : List UInt8} (h : 0 < numberN s) : ∃ b r, s = b :: r ∧ (isDigit b = true ∨ (b = 46 ∧ 2 ≤ numberN s)) := by
  match s with
  | [] => have : numberN [] = 0 := num_zero_plain (fun b h => by simp at h) (by simp)
          omega
  | b :: r =>
    refine ⟨b, r, rfl, ?_⟩
    by_cases hd : isDigit b = true
    · exact .inl hd
    · by_cases h4 : b = 46
      · subst h4
        refine .inr ⟨rfl, ?_⟩
        obtain ⟨B, C, rfl, hB, hC⟩ := split_run isDigit r
        by_cases h0 : B = []
        · subst h0
          have : numberN (46 :: C) = 0 := num_zero_dot hC
          simp only [List.nil_append] at h
          omega
        · have := num_dots (A := []) (fun b h => by simp at h) hB (fun h => h0 (List.length_eq_zero_iff.1 (by simpa using h))) hC
          simp only [List.nil_append, List.length_nil] at this
          have h1 : B.length ≠ 0 := fun h => h0 (List.length_eq_zero_iff.1 h)
          omega
      · have := num_other b r (by simpa using hd) h4
        omega
theorem stays {s : List UInt8} {k n : Nat} (h : kindAt s = some (k, n)) (hk1 : k ≠ 1) (hk2 : k ≠ 2) {T : List UInt8} (hT : Stop s k n T) : kindAt (s.take n ++ T) = some (k, n) := by
  obtain ⟨h0, hc⟩ := kind_cases h
  obtain ⟨t1, t2, t3, t4⟩ := hT
  rcases hc with ⟨rfl, _⟩ | ⟨_, hc⟩
  · exact absurd rfl hk1
  rcases hc with ⟨rfl, _⟩ | ⟨_, hc⟩
  · exact absurd rfl hk2
  rcases hc with ⟨rfl, e⟩ | ⟨_, hc⟩
  · -- a word
    obtain ⟨u1, u2⟩ := t1 (.inl rfl)
    obtain ⟨b, r, rfl, hb⟩ := word_head (s := s) (by omega)
    obtain ⟨f1, f2⟩ := letter_facts b hb
    have hw := word_cutG (b :: r) T (by omega) u1 u2
    rw [e] at hw
    obtain ⟨m, rfl⟩ : ∃ m, n = m + 1 := ⟨n - 1, by omega⟩
    rw [List.take_succ_cons, List.cons_append] at hw ⊢
    exact kind_of h0 (.inr ⟨zb _ f1, .inr ⟨zn _ f2, .inl ⟨rfl, hw⟩⟩⟩)
  rcases hc with ⟨rfl, e⟩ | ⟨e46, hc⟩
  · -- a field
    obtain ⟨r, m, rfl, hf, hm, rfl⟩ := beh_some e h0
    have hw := simple_cutG r T (by omega) (t2 (.inl rfl))
    rw [hf] at hw
    rw [List.take_succ_cons, List.cons_append]
    exact kind_of h0 (.inr ⟨zb _ rfl, .inr ⟨zn _ (by decide), .inr ⟨word_other _ _ rfl, .inl ⟨rfl, beh_is hw hm⟩⟩⟩⟩)
  rcases hc with ⟨rfl, e⟩ | ⟨_, hc⟩
  · -- a value's name
    obtain ⟨r, m, rfl, hf, hm, rfl⟩ := beh_some e h0
    obtain ⟨u1, u2⟩ := t1 (.inr rfl)
    have hw := word_cutG r T (by omega) u1 u2
    rw [hf] at hw
    rw [List.take_succ_cons, List.cons_append]
    exact kind_of h0 (.inr ⟨zb _ rfl, .inr ⟨zn _ (by decide), .inr ⟨word_other _ _ rfl, .inr ⟨zbeh _ _ (by decide), .inl ⟨rfl, beh_is hw hm⟩⟩⟩⟩⟩)
  rcases hc with ⟨rfl, e⟩ | ⟨_, hc⟩
  · -- a format
    obtain ⟨r, m, rfl, hf, hm, rfl⟩ := beh_some e h0
    have hw := run_cutG isPart r T (t2 (.inr rfl))
    rw [hf] at hw
    rw [List.take_succ_cons, List.cons_append]
    exact kind_of h0 (.inr ⟨zb _ rfl, .inr ⟨zn _ (by decide), .inr ⟨word_other _ _ rfl, .inr ⟨zbeh _ _ (by decide), .inr ⟨zbeh _ _ (by decide), .inl ⟨rfl, beh_is hw hm⟩⟩⟩⟩⟩⟩)
  rcases hc with ⟨rfl, e⟩ | ⟨_, hc⟩
  · -- a number
    obtain ⟨u1, u2, u3⟩ := t3 rfl
    have hw := num_cutG s T (by omega) u1 u2 (by rw [e]; exact u3)
    rw [e] at hw
    obtain ⟨b, r, rfl, hb⟩ := num_head (s := s) (by omega)
    obtain ⟨m, rfl⟩ : ∃ m, n = m + 1 := ⟨n - 1, by omega⟩
    rw [List.take_succ_cons, List.cons_append] at hw ⊢
    rcases hb with hb | ⟨rfl, h2⟩
    · obtain ⟨f1, f2, f3, f4, f5, f6⟩ := digit_facts b hb
      exact kind_of h0 (.inr ⟨zb _ f1, .inr ⟨zn _ f2, .inr ⟨word_other _ _ f3, .inr ⟨zbeh _ _ f4, .inr ⟨zbeh _ _ f5, .inr ⟨zbeh _ _ f6, .inl ⟨rfl, hw⟩⟩⟩⟩⟩⟩⟩)
    · rw [e] at h2
      obtain ⟨m, rfl⟩ : ∃ k, m = k + 1 := ⟨m - 1, by omega⟩
      have hs := simple_zero.1 (beh_zero.1 e46)
      have hs2 : simpleN (r.take (m + 1) ++ T) = 0 := simple_zero.2 (by
        match r with
        | [] =>
          have : numberN [46] = 0 := by decide +kernel
          omega
        | x :: r => intro y hy; rw [List.take_succ_cons] at hy; simp at hy; subst hy; exact hs x rfl)
      exact kind_of h0 (.inr ⟨zb _ rfl, .inr ⟨zn _ (by decide), .inr ⟨word_other _ _ rfl, .inr ⟨beh_zero.2 hs2, .inr ⟨zbeh _ _ (by decide), .inr ⟨zbeh _ _ (by decide), .inl ⟨rfl, hw⟩⟩⟩⟩⟩⟩⟩)
  rcases hc with ⟨rfl, e⟩ | ⟨_, rfl, e⟩
  · -- a quote
    match s, e with
    | [], e =>
      have e1 : (0 : Nat) = n := e
      omega
    | b :: r, e =>
      have e1 : (if b == 34 then 1 else 0) = n := e
      by_cases hb : b = 34
      · subst hb
        obtain rfl : n = 1 := by simpa using e1.symm
        exact kind_of h0 (.inr ⟨zb _ rfl, .inr ⟨zn _ (by decide), .inr ⟨word_other _ _ rfl, .inr ⟨zbeh _ _ (by decide), .inr ⟨zbeh _ _ (by decide), .inr ⟨zbeh _ _ (by decide), .inr ⟨num_other _ _ rfl (by decide), .inl ⟨rfl, rfl⟩⟩⟩⟩⟩⟩⟩⟩)
      · rw [if_neg (by simpa using hb)] at e1; omega
  · -- an operator
    obtain ⟨u1, u2⟩ := t4 rfl
    rcases oper_split s with hz | ⟨x, hx, hn, hxs, _⟩
    · omega
    · rw [e] at hn
      subst hn
      rw [hxs] at u1 u2 ⊢
      obtain ⟨b, r, rfl, f1, f2, f3, f4, f5, f6, f7, f8⟩ := op_head x hx
      rw [List.cons_append] at u1 ⊢
      by_cases hb : b = 46
      · subst hb
        have hs : simpleN (r ++ T) = 0 ∧ numberN (46 :: (r ++ T)) = 0 := by
          rcases f8 rfl with h | h
          · cases h
            have := u2 rfl
            exact ⟨simple_zero.2 fun b hb => not_letter (this b hb), num_zero_dot fun b hb => not_digit (this b hb)⟩
          · cases h
            exact ⟨rfl, num_zero_dot fun b hb => by simp at hb; subst hb; rfl⟩
        exact kind_of h0 (.inr ⟨zb _ f1, .inr ⟨zn _ f2, .inr ⟨word_other _ _ f3, .inr ⟨beh_zero.2 hs.1, .inr ⟨zbeh _ _ f4, .inr ⟨zbeh _ _ f5, .inr ⟨hs.2, .inr ⟨zq _ f6, rfl, u1⟩⟩⟩⟩⟩⟩⟩⟩)
      · exact kind_of h0 (.inr ⟨zb _ f1, .inr ⟨zn _ f2, .inr ⟨word_other _ _ f3, .inr ⟨zbeh _ _ hb, .inr ⟨zbeh _ _ f4, .inr ⟨zbeh _ _ f5, .inr ⟨num_other _ _ f7 hb, .inr ⟨zq _ f6, rfl, u1⟩⟩⟩⟩⟩⟩⟩⟩)
end Go.Proofs.YtiinhkfbgecbjaaGreatDoor.Line
namespace Go.Proofs.YtiinhkfbgecbjaaGreatDoor.Line
set_option linter.unusedVariables false
set_option linter.unusedSimpArgs false
open Go.RowKit Go.Sub
/-- nothing follows, or a blank, a quote, a bracket's end -/
def Calm (T : List UInt8) : Prop := ∀ b, T[0]? = some b → b = 32 ∨ b = 34 ∨ b = 41
theorem calm_nil : Calm [] := fun b h => by simp at h
theorem calm_cons {b : UInt8} (r : List UInt8) (h : b = 32 ∨ b = 34 ∨ b = 41) : Calm (b :: r) := fun x hx => by simp at hx; subst hx; exact h
theorem Calm.not {p : UInt8 → Bool} {T : List UInt8} (h : Calm T) (h1 : p 32 = false) (h2 : p 34 = false) (h3 : p 41 = false) : HeadNot p T := fun b hb => by
  rcases h b hb with rfl | rfl | rfl <;> assumption
theorem more_head {T : List UInt8} (h : T[0]? ≠ some 58) : moreN T = 0 := by
  refine moreN_miss T ?_
  match T with
  | [] => rfl
  | b :: r =>
    cases hp : Lib.hasPrefix (b :: r) [58, 58] with
    | false => rfl
    | true =>
      unfold Lib.hasPrefix at hp
      obtain ⟨t, ht⟩ := List.isPrefixOf_iff_prefix.1 hp
      simp at ht
      exact absurd (by simp [← ht.1]) h
theorem more_two {b : UInt8} {r : List UInt8} (h : r[0]? ≠ some 58) : moreN (b :: r) = 0 := by
  refine moreN_miss _ ?_
  cases hp : Lib.hasPrefix (b :: r) [58, 58] with
  | false => rfl
  | true =>
    unfold Lib.hasPrefix at hp
    obtain ⟨t, ht⟩ := List.isPrefixOf_iff_prefix.1 hp
    simp at ht
    exact absurd (by simp [← ht.2]) h
theorem power_head {T : List UInt8} (h : ∀ b, T[0]? = some b → b ≠ 101 ∧ b ≠ 69) : powerN T = 0 := by
  match T with
  | [] => rfl
  | b :: r =>
    obtain ⟨h1, h2⟩ := h b rfl
    show (if b == 101 || b == 69 then _ else 0) = 0
    rw [if_neg (by simp [h1, h2])]
/-- operators, whatever follows that none goes on with -/
theorem pre_short {x T o : List UInt8} (h : o.length ≤ x.length) : Lib.hasPrefix (x ++ T) o = Lib.hasPrefix x o := by
  unfold Lib.hasPrefix
  rw [Bool.eq_iff_iff, List.isPrefixOf_iff_prefix, List.isPrefixOf_iff_prefix]
  exact ⟨fun h2 => List.prefix_of_prefix_length_le h2 (List.prefix_append x T) h, fun h2 => h2.trans (List.prefix_append x T)⟩
theorem pre_long {x T o : List UInt8} (h : x.length < o.length) (hp : Lib.hasPrefix (x ++ T) o = true) : ∃ b, T[0]? = some b ∧ o[x.length]? = some b ∧ o.take x.length = x := by
  unfold Lib.hasPrefix at hp
  obtain ⟨t, ht⟩ := List.isPrefixOf_iff_prefix.1 hp
  have h1 : (o ++ t)[x.length]? = o[x.length]? := List.getElem?_append_left h
  rw [ht, List.getElem?_append_right (Nat.le_refl _), Nat.sub_self] at h1
  refine ⟨o[x.length], ?_, List.getElem?_eq_getElem h, ?_⟩
  · rw [h1]; exact List.getElem?_eq_getElem h
  · have := congrArg (List.take x.length) ht
    rw [List.take_append_of_le_length (Nat.le_of_lt h), List.take_left] at this
    exact this
theorem find_congr {α : Type} {p q : α → Bool} : ∀ {l : List α}, (∀ x ∈ l, p x = q x) → l.find? p = l.find? q
  | [], _ => rfl
  | a :: l, h => by
    rw [List.find?_cons, List.find?_cons, h a (List.mem_cons_self ..), find_congr fun x hx => h x (List.mem_cons_of_mem _ hx)]
theorem oper_app (x T : List UInt8) (h : ∀ o ∈ opsL, x.length < o.length → Lib.hasPrefix (x ++ T) o = false) : operN (x ++ T) = operN x := by
  unfold operN
  rw [find_congr fun o ho => ?_]
  by_cases hl : o.length ≤ x.length
  · exact pre_short hl
  · rw [h o ho (by omega)]
    cases hp : Lib.hasPrefix x o with
    | false => rfl
    | true =>
      unfold Lib.hasPrefix at hp
      have := (List.isPrefixOf_iff_prefix.1 hp).length_le
      omega
theorem ops_calm : ∀ o ∈ opsL, ∀ i, 0 < i → ∀ b, o[i]? = some b → ¬ (b = 32 ∨ b = 34 ∨ b = 41) := by
  intro o ho i hi b hb
  have h : (opsL.all fun o => (o.drop 1).all fun b => b != 32 && b != 34 && b != 41) = true := by decide +kernel
  have h1 := List.all_eq_true.1 h o ho
  obtain ⟨j, rfl⟩ : ∃ j, i = j + 1 := ⟨i - 1, by omega⟩
  have h2 : (o.drop 1)[j]? = some b := by rw [List.getElem?_drop, Nat.add_comm 1]; exact hb
  have h3 := List.all_eq_true.1 h1 b (List.mem_of_getElem? h2)
  simp only [Bool.and_eq_true, bne_iff_ne, ne_eq] at h3
  rintro (h | h | h)
  · exact h3.1.1 h
  · exact h3.1.2 h
  · exact h3.2 h
theorem stop_calm {s : List UInt8} {k n : Nat} (h : kindAt s = some (k, n)) {T : List UInt8} (hT : Calm T) : Stop s k n T := by
  have hp : HeadNot isPart T := hT.not rfl rfl rfl
  have hm : moreN T = 0 := more_head fun e => by rcases hT 58 e with h | h | h <;> cases h
  refine ⟨fun _ => ⟨hp, hm⟩, fun _ => hp, fun _ => ⟨hT.not rfl rfl rfl, power_head fun b hb => ?_, fun e => ?_⟩, fun hk => ⟨?_, fun _ => hp⟩⟩
  · rcases hT b hb with rfl | rfl | rfl <;> decide
  · rcases hT 46 e with h | h | h <;> cases h
  · subst hk
    obtain ⟨h0, hc⟩ := kind_cases h
    have e : operN s = n := by
      rcases hc with ⟨h, _⟩ | ⟨_, ⟨h, _⟩ | ⟨_, ⟨h, _⟩ | ⟨_, ⟨h, _⟩ | ⟨_, ⟨h, _⟩ | ⟨_, ⟨h, _⟩ | ⟨_, ⟨h, _⟩ | ⟨_, ⟨h, _⟩ | ⟨_, _, h⟩⟩⟩⟩⟩⟩⟩⟩
      all_goals first | exact h | (exact absurd h (by decide))
    rcases oper_split s with hz | ⟨x, hx, hn, hxs, _⟩
    · omega
    · rw [e] at hn
      subst hn
      rw [hxs, oper_app x T fun o ho hl => ?_]
      · exact (op_facts x hx).2.2.1
      · cases hq : Lib.hasPrefix (x ++ T) o with
        | false => rfl
        | true =>
          obtain ⟨b, h1, h2, _⟩ := pre_long hl hq
          exact absurd (hT b h1) (ops_calm o ho _ h0 b h2)
theorem ops_three : ∀ o ∈ opsL, 3 ≤ o.length → o = [63, 47, 47] ∨ o = [47, 47, 61] := by
  intro o ho hl
  have h : (opsL.all fun o => decide (o.length < 3) || o == [63, 47, 47] || o == [47, 47, 61]) = true := by decide +kernel
  have h1 := List.all_eq_true.1 h o ho
  simp only [Bool.or_eq_true, decide_eq_true_eq, beq_iff_eq] at h1
  rcases h1 with (h1 | h1) | h1
  · omega
  · exact .inl h1
  · exact .inr h1
theorem ops_len : ∀ o ∈ opsL, 1 ≤ o.length ∧ o.length ≤ 3 := fun o ho => ⟨(op_facts o ho).1, (op_facts o ho).2.1⟩
/-- a token stays ahead of the next one, and what stands behind that one -/
theorem stop_next {p q R : List UInt8} {k : Nat} (h : kindAt (p ++ q) = some (k, p.length)) (hq : q ≠ []) (c1 : q[0]? = some 58 → q = [58] ∧ R[0]? ≠ some 58) (c2 : q = [47] → R[0]? ≠ some 47)
    (c3 : k = 6 → ∀ b, q[0]? = some b → isLetter b = false) : Stop (p ++ q) k p.length (q ++ R) := by
  obtain ⟨c, q', rfl⟩ : ∃ c q', q = c :: q' := by
    match q with
    | [] => exact absurd rfl hq
    | c :: q' => exact ⟨c, q', rfl⟩
  have hd : (p ++ c :: q').drop p.length = c :: q' := List.drop_left
  have up : ∀ {f : UInt8 → Bool}, HeadNot f (c :: q') → HeadNot f (c :: q' ++ R) := fun h b hb => h b (by simpa using hb)
  have hm : moreN (c :: q' ++ R) = 0 := by
    by_cases hc : c = 58
    · subst hc
      obtain ⟨e, hR⟩ := c1 rfl
      cases e
      exact more_two hR
    · exact more_head (by simpa using hc)
  obtain ⟨h0, hcs⟩ := kind_cases h
  refine ⟨fun hk => ?_, fun hk => ?_, fun hk => ?_, fun hk => ?_⟩
  · refine ⟨up ?_, hm⟩
    rcases hk with rfl | rfl
    · have e : wordN (p ++ c :: q') = p.length := by
        rcases hcs with ⟨h, _⟩ | ⟨_, ⟨h, _⟩ | ⟨_, ⟨_, h⟩ | ⟨_, ⟨h, _⟩ | ⟨_, ⟨h, _⟩ | ⟨_, ⟨h, _⟩ | ⟨_, ⟨h, _⟩ | ⟨_, ⟨h, _⟩ | ⟨_, h, _⟩⟩⟩⟩⟩⟩⟩⟩
        all_goals first | exact h | (exact absurd h (by decide))
      have := word_next (p ++ c :: q') (by omega)
      rwa [e, hd] at this
    · have e : behindN 36 wordN (p ++ c :: q') = p.length := by
        rcases hcs with ⟨h, _⟩ | ⟨_, ⟨h, _⟩ | ⟨_, ⟨h, _⟩ | ⟨_, ⟨h, _⟩ | ⟨_, ⟨_, h⟩ | ⟨_, ⟨h, _⟩ | ⟨_, ⟨h, _⟩ | ⟨_, ⟨h, _⟩ | ⟨_, h, _⟩⟩⟩⟩⟩⟩⟩⟩
        all_goals first | exact h | (exact absurd h (by decide))
      obtain ⟨r, m, hr, hf, hm0, hpm⟩ := beh_some e h0
      have := word_next r (by omega)
      rw [hf] at this
      rw [hr, hpm, List.drop_succ_cons] at hd
      rwa [hd] at this
  · refine up ?_
    rcases hk with rfl | rfl
    · have e : behindN 46 simpleN (p ++ c :: q') = p.length := by
        rcases hcs with ⟨h, _⟩ | ⟨_, ⟨h, _⟩ | ⟨_, ⟨h, _⟩ | ⟨_, ⟨_, h⟩ | ⟨_, ⟨h, _⟩ | ⟨_, ⟨h, _⟩ | ⟨_, ⟨h, _⟩ | ⟨_, ⟨h, _⟩ | ⟨_, h, _⟩⟩⟩⟩⟩⟩⟩⟩
        all_goals first | exact h | (exact absurd h (by decide))
      obtain ⟨r, m, hr, hf, hm0, hpm⟩ := beh_some e h0
      have := simple_next r (by omega)
      rw [hf] at this
      rw [hr, hpm, List.drop_succ_cons] at hd
      rwa [hd] at this
    · have e : behindN 64 (runOf isPart) (p ++ c :: q') = p.length := by
        rcases hcs with ⟨h, _⟩ | ⟨_, ⟨h, _⟩ | ⟨_, ⟨h, _⟩ | ⟨_, ⟨h, _⟩ | ⟨_, ⟨h, _⟩ | ⟨_, ⟨_, h⟩ | ⟨_, ⟨h, _⟩ | ⟨_, ⟨h, _⟩ | ⟨_, h, _⟩⟩⟩⟩⟩⟩⟩⟩
        all_goals first | exact h | (exact absurd h (by decide))
      obtain ⟨r, m, hr, hf, hm0, hpm⟩ := beh_some e h0
      have := run_next isPart r
      rw [hf] at this
      rw [hr, hpm, List.drop_succ_cons] at hd
      rwa [hd] at this
  · subst hk
    have e : numberN (p ++ c :: q') = p.length := by
      rcases hcs with ⟨h, _⟩ | ⟨_, ⟨h, _⟩ | ⟨_, ⟨h, _⟩ | ⟨_, ⟨h, _⟩ | ⟨_, ⟨h, _⟩ | ⟨_, ⟨h, _⟩ | ⟨_, ⟨_, h⟩ | ⟨_, ⟨h, _⟩ | ⟨_, h, _⟩⟩⟩⟩⟩⟩⟩⟩
      all_goals first | exact h | (exact absurd h (by decide))
    have := num_next (p ++ c :: q') (by omega)
    rw [e, hd] at this
    refine ⟨up this, power_head fun b hb => ?_, fun h46 => ?_⟩
    · obtain rfl : c = b := by simpa using hb
      have hl := c3 rfl c rfl
      exact ⟨fun e => (by subst e; cases hl), fun e => (by subst e; cases hl)⟩
    · rw [hd]; simpa using h46
  · subst hk
    rcases hcs with ⟨h, _⟩ | ⟨_, ⟨h, _⟩ | ⟨_, ⟨h, _⟩ | ⟨_, ⟨h, _⟩ | ⟨e46, ⟨h, _⟩ | ⟨_, ⟨h, _⟩ | ⟨_, ⟨h, _⟩ | ⟨enum, ⟨h, _⟩ | ⟨_, _, e⟩⟩⟩⟩⟩⟩⟩⟩
    all_goals first | (exact absurd h (by decide)) | skip
    rw [List.take_left]
    refine ⟨?_, fun hp => up ?_⟩
    · rw [← List.append_assoc, oper_app (p ++ c :: q') R fun o ho hl => ?_]
      · exact e
      · cases hx : Lib.hasPrefix (p ++ c :: q' ++ R) o with
        | false => rfl
        | true =>
          obtain ⟨b, h1, h2, h3⟩ := pre_long hl hx
          have hlen := (ops_len o ho).2
          rw [List.length_append, List.length_cons] at hl h2 h3
          have hq0 : q' = [] := List.length_eq_zero_iff.1 (by omega)
          subst hq0
          obtain ⟨a, rfl⟩ : ∃ a, p = [a] := by
            match p, h0, hl with
            | [a], _, _ => exact ⟨a, rfl⟩
            | _ :: _ :: _, _, hl => simp at hl; omega
          rcases ops_three o ho (by simp at hl; omega) with rfl | rfl
          · simp at h2 h3
            obtain ⟨rfl, rfl⟩ := h3
            subst h2
            exact absurd h1 (c2 rfl)
          · simp at h2 h3
            obtain ⟨rfl, rfl⟩ := h3
            exact absurd e (by decide +kernel)
    · subst hp
      intro b hb
      have h1 := simple_zero.1 (beh_zero.1 e46) b hb
      cases hd2 : isDigit b with
      | false => unfold isPart; rw [h1, hd2]; rfl
      | true =>
        obtain rfl : c = b := by simpa using hb
        have : 0 < numberN ([46] ++ c :: q') := by
          obtain ⟨B, C, hBC, hB, hC⟩ := split_run isDigit (c :: q')
          have hB0 : B ≠ [] := fun e => by
            subst e
            simp only [List.nil_append] at hBC
            rw [← hBC] at hC
            have := hC c rfl
            rw [hd2] at this; cases this
          have hn := num_dots (A := []) (C := C) (fun b h => by simp at h) hB (fun h => hB0 (List.length_eq_zero_iff.1 (by simpa using h))) hC
          rw [hBC]
          show 0 < numberN ([] ++ 46 :: (B ++ C))
          rw [hn]; omega
        omega
end Go.Proofs.YtiinhkfbgecbjaaGreatDoor.Line
namespace Go.Proofs.YtiinhkfbgecbjaaGreatDoor.Line
set_option linter.unusedVariables false
set_option linter.unusedSimpArgs false
open Go.RowKit Go.Sub
/-! ### a line is told token by token -/
abbrev TokT := Nat × List UInt8
/-- a text is told so, from a state to a state -/
inductive Lexed : List UInt8 → List Nat → Bool → List TokT → List Nat → Bool → Prop
  | nil (st : List Nat) (inn : Bool) : Lexed [] st inn [] st inn
  | cons {l : List UInt8} {st st2 st3 : List Nat} {inn inn2 inn3 : Bool} {k n : Nat} {ts : List TokT} : stepN l st inn = (k, n, st2, inn2, 0) → 0 < n → n ≤ l.length → Lexed (l.drop n) st2 inn2 ts st3 inn3 → Lexed l st inn ((k, l.take n) :: ts) st3 inn3
/-- the same of what counts alone -/
inductive Plain : List Nat → Bool → List TokT → List Nat → Bool → Prop
  | nil (st : List Nat) (inn : Bool) : Plain st inn [] st inn
  | cons {l : List UInt8} {st st2 st3 : List Nat} {inn inn2 inn3 : Bool} {k n : Nat} {ts : List TokT} : stepN l st inn = (k, n, st2, inn2, 0) → 0 < n → n ≤ l.length → k ≠ 1 → k ≠ 2 → (k = 8 → ∀ u r, ts = u :: r → u.1 ≠ 8) → Plain st2 inn2 ts st3 inn3 → Plain st inn ((k, l.take n) :: ts) st3 inn3
def plainT (t : TokT) : Bool := t.1 != 1 && t.1 != 2
/-- steps outside of strings, by kindAt -/
theorem out_kind {l : List UInt8} {st : List Nat} : outN l st = match kindAt l with
    | none => (0, 0, st, false, 11)
    | some (k, n) => ((brkN st k (l.take n)).2.1, n, (brkN st k (l.take n)).1, (brkN st k (l.take n)).2.2 || (k == 7), 0) := by
  have e : kfs = triesL.map fun x => (x.1, x.2.2) := rfl
  unfold outN kindAt
  rw [e, List.find?_map]
  simp only [Function.comp_def]
  cases triesL.find? (fun x => decide (0 < x.2.2 l)) with
  | none => rfl
  | some x => rfl
theorem step_out_kind {l : List UInt8} {st st2 : List Nat} {inn2 : Bool} {k n : Nat} (h : stepN l st false = (k, n, st2, inn2, 0)) : ∃ k0, kindAt l = some (k0, n) ∧ k = (brkN st k0 (l.take n)).2.1 ∧ st2 = (brkN st k0 (l.take n)).1 ∧ inn2 = ((brkN st k0 (l.take n)).2.2 || (k0 == 7)) := by
  have h : outN l st = _ := h
  rw [out_kind] at h
  cases hk : kindAt l with
  | none => rw [hk] at h; simp at h
  | some x =>
    obtain ⟨k0, n0⟩ := x
    rw [hk] at h
    simp only [Prod.mk.injEq] at h
    obtain ⟨h1, rfl, h2, h3, _⟩ := h
    exact ⟨k0, rfl, h1.symm, h2.symm, h3.symm⟩
theorem step_of_kind {l : List UInt8} {st : List Nat} {k0 n : Nat} (h : kindAt l = some (k0, n)) : stepN l st false = ((brkN st k0 (l.take n)).2.1, n, (brkN st k0 (l.take n)).1, (brkN st k0 (l.take n)).2.2 || (k0 == 7), 0) := by
  show outN l st = _
  rw [out_kind, h]
/-- what a bracket's count makes of a kind -/
theorem brk_kinds (st : List Nat) (k0 : Nat) (x : List UInt8) : ((brkN st k0 x).2.1 = k0 ∧ (brkN st k0 x).2.2 = false) ∨ ((brkN st k0 x).2.1 = 10 ∧ k0 = 13 ∧ x = [41] ∧ (brkN st k0 x).2.2 = true) := by
  match st with
  | [] => exact .inl ⟨rfl, rfl⟩
  | t :: rest =>
    unfold brkN
    dsimp only
    split
    · rename_i h
      have h := eq_of_beq h
      split
      · exact .inl ⟨rfl, rfl⟩
      · split
        · rename_i h2
          split
          · exact .inr ⟨rfl, h, eq_of_beq h2, rfl⟩
          · exact .inl ⟨rfl, rfl⟩
        · exact .inl ⟨rfl, rfl⟩
    · exact .inl ⟨rfl, rfl⟩
theorem kind_range {l : List UInt8} {k n : Nat} (h : kindAt l = some (k, n)) : k = 1 ∨ k = 2 ∨ k = 3 ∨ k = 4 ∨ k = 5 ∨ k = 12 ∨ k = 6 ∨ k = 7 ∨ k = 13 := by
  obtain ⟨_, hc⟩ := kind_cases h
  rcases hc with ⟨h, _⟩ | ⟨_, ⟨h, _⟩ | ⟨_, ⟨h, _⟩ | ⟨_, ⟨h, _⟩ | ⟨_, ⟨h, _⟩ | ⟨_, ⟨h, _⟩ | ⟨_, ⟨h, _⟩ | ⟨_, ⟨h, _⟩ | ⟨_, h, _⟩⟩⟩⟩⟩⟩⟩⟩ <;> omega
/-- inside a string -/
theorem ins_cases {l : List UInt8} {st st2 : List Nat} {inn2 : Bool} {k n : Nat} (h : stepN l st true = (k, n, st2, inn2, 0)) :
    (k = 8 ∧ n = pieceN l ∧ 0 < n ∧ st2 = st ∧ inn2 = true) ∨ (k = 11 ∧ n = 1 ∧ pieceN l = 0 ∧ l[0]? = some 34 ∧ st2 = st ∧ inn2 = false) ∨ (k = 9 ∧ n = 2 ∧ pieceN l = 0 ∧ Lib.hasPrefix l [92, 40] = true ∧ st.length < 256 ∧ st2 = 0 :: st ∧ inn2 = false) := by
  have h : insN l st = _ := h
  unfold insN at h
  by_cases h1 : 0 < pieceN l
  · rw [if_pos h1] at h
    simp only [Prod.mk.injEq] at h
    obtain ⟨rfl, rfl, rfl, rfl, _⟩ := h
    exact .inl ⟨rfl, rfl, h1, rfl, rfl⟩
  rw [if_neg h1] at h
  by_cases h2 : l[0]? = some 34
  · rw [if_pos h2] at h
    simp only [Prod.mk.injEq] at h
    obtain ⟨rfl, rfl, rfl, rfl, _⟩ := h
    exact .inr (.inl ⟨rfl, rfl, by omega, h2, rfl, rfl⟩)
  rw [if_neg h2] at h
  by_cases h3 : Lib.hasPrefix l [92, 40] = false
  · rw [if_pos h3] at h; simp at h
  rw [if_neg h3] at h
  by_cases h4 : 256 ≤ st.length
  · rw [if_pos h4] at h; simp at h
  rw [if_neg h4] at h
  simp only [Prod.mk.injEq] at h
  obtain ⟨rfl, rfl, rfl, rfl, _⟩ := h
  exact .inr (.inr ⟨rfl, rfl, by omega, by simpa using h3, by omega, rfl, rfl⟩)
/-- the first byte of what counts -/
theorem kind_first {l : List UInt8} {k n : Nat} (h : kindAt l = some (k, n)) : 0 < n ∧ n ≤ l.length ∧ ∃ b r, l = b :: r ∧ (l.take n)[0]? = some b ∧ (isBlank b = true → k = 1) ∧ (b = 35 → k = 2) ∧ (isLetter b = true → k = 3) := by
  obtain ⟨h0, hc⟩ := kind_cases h
  have hle : n ≤ l.length := by
    rcases hc with ⟨_, h⟩ | ⟨_, ⟨_, h⟩ | ⟨_, ⟨_, h⟩ | ⟨_, ⟨_, h⟩ | ⟨_, ⟨_, h⟩ | ⟨_, ⟨_, h⟩ | ⟨_, ⟨_, h⟩ | ⟨_, ⟨_, h⟩ | ⟨_, _, h⟩⟩⟩⟩⟩⟩⟩⟩
    · rw [← h]; exact runOf_le _ _
    · rw [← h]; exact noteN_le _
    · rw [← h]; exact wordN_le _
    · rw [← h]; exact behindN_le 46 simpleN_le l
    · rw [← h]; exact behindN_le 36 wordN_le l
    · rw [← h]; exact behindN_le 64 (runOf_le _) l
    · rw [← h]; exact numberN_le _
    · rw [← h]; exact quoteN_le _
    · rw [← h]; exact oper_le _
  refine ⟨h0, hle, ?_⟩
  match l, hle with
  | [], hle => simp at hle; omega
  | b :: r, hle =>
    obtain ⟨m, rfl⟩ : ∃ m, n = m + 1 := ⟨n - 1, by omega⟩
    refine ⟨b, r, rfl, rfl, fun hb => ?_, fun hb => ?_, fun hb => ?_⟩
    · have := run_one isBlank b r hb
      rcases hc with ⟨h, _⟩ | ⟨h, _⟩
      · exact h
      · omega
    · subst hb
      rcases hc with ⟨_, h⟩ | ⟨_, ⟨h, _⟩ | ⟨_, ⟨_, h⟩ | ⟨_, ⟨_, h⟩ | ⟨_, ⟨_, h⟩ | ⟨_, ⟨_, h⟩ | ⟨_, ⟨_, h⟩ | ⟨_, ⟨_, h⟩ | ⟨_, _, h⟩⟩⟩⟩⟩⟩⟩⟩
      · have : runOf isBlank (35 :: r) = 0 := run_none _ _ _ rfl
        omega
      · exact h
      · have : wordN (35 :: r) = 0 := word_other _ _ rfl
        omega
      · have : behindN 46 simpleN (35 :: r) = 0 := zbeh _ _ (by decide)
        omega
      · have : behindN 36 wordN (35 :: r) = 0 := zbeh _ _ (by decide)
        omega
      · have : behindN 64 (runOf isPart) (35 :: r) = 0 := zbeh _ _ (by decide)
        omega
      · have : numberN (35 :: r) = 0 := num_other _ _ rfl (by decide)
        omega
      · have : quoteN (35 :: r) = 0 := zq _ (by decide)
        omega
      · rcases oper_split (35 :: r) with hz | ⟨x, hx, hn, hxs, _⟩
        · omega
        · obtain ⟨b, t, rfl, _, f2, _⟩ := op_head x hx
          rw [List.length_cons, List.take_succ_cons] at hxs
          simp at hxs
          exact absurd hxs.1.symm f2
    · obtain ⟨f1, f2⟩ := letter_facts b hb
      have hw := word_letter b r hb
      rcases hc with ⟨_, h⟩ | ⟨_, ⟨_, h⟩ | ⟨_, ⟨h, _⟩ | ⟨h, _⟩⟩⟩
      · have := zb r f1; omega
      · have := zn r f2; omega
      · exact h
      · omega
end Go.Proofs.YtiinhkfbgecbjaaGreatDoor.Line
namespace Go.Proofs.YtiinhkfbgecbjaaGreatDoor.Line
set_option linter.unusedVariables false
set_option linter.unusedSimpArgs false
open Go.RowKit Go.Sub
/-! ### pieces of strings -/
theorem esc_appG (l X : List UInt8) (h : escN l ≠ 0) : escN (l.take (escN l) ++ X) = escN l := by
  match l with
  | [] => exact absurd rfl h
  | [a] => exact absurd rfl h
  | a :: c :: r =>
    have e : ∀ r, escN (a :: c :: r) = if a == 92 then (if escPlain c then 2 else if c == 117 && runOf isHex (r.take 4) == 4 then 6 else 0) else 0 := fun _ => rfl
    cases ha : a == 92
    · rw [e, if_neg (by rw [ha]; simp)] at h; exact absurd rfl h
    · cases hc : escPlain c
      · cases hu : (c == 117 && runOf isHex (r.take 4) == 4)
        · rw [e, if_pos ha, if_neg (by rw [hc]; simp), if_neg (by rw [hu]; simp)] at h; exact absurd rfl h
        · rw [e r, if_pos ha, if_neg (by rw [hc]; simp), if_pos hu]
          show escN (a :: c :: (r.take 4 ++ X)) = 6
          have h4 : (r.take 4).length = 4 := by
            simp only [Bool.and_eq_true, beq_iff_eq] at hu
            have := runOf_le isHex (r.take 4)
            have := List.length_take_le 4 r
            omega
          rw [e, if_pos ha, if_neg (by rw [hc]; simp), List.take_append_of_le_length (by omega), List.take_of_length_le (by omega), if_pos hu]
      · rw [e r, if_pos ha, if_pos hc]
        show escN (a :: c :: X) = 2
        rw [e, if_pos ha, if_pos hc]
theorem piece_cutG (T : List UInt8) (hT : pieceN T = 0) : ∀ k (l : List UInt8), l.length ≤ k → pieceN (l.take (pieceN l) ++ T) = pieceN l ∧ pieceN (l.drop (pieceN l)) = 0 := by
  intro k
  induction k with
  | zero =>
    intro l h
    obtain rfl := List.length_eq_zero_iff.1 (show l.length = 0 by omega)
    rw [List.take_nil, List.nil_append, hT, piece_nil]
    exact ⟨rfl, piece_nil⟩
  | succ k ih =>
    intro l hk
    match l, hk with
    | [], _ =>
      rw [List.take_nil, List.nil_append, hT, piece_nil]
      exact ⟨rfl, piece_nil⟩
    | b :: r, hk =>
      cases hb : isQS b with
      | false =>
        obtain ⟨i1, i2⟩ := ih r (by simp only [List.length_cons] at hk; omega)
        rw [piece_plain b r hb, Nat.add_comm 1, List.take_succ_cons, List.cons_append, piece_plain b _ hb, i1, List.drop_succ_cons]
        exact ⟨Nat.add_comm _ _, i2⟩
      | true =>
        by_cases he : escN (b :: r) = 0
        · rw [piece_stop b r hb he, List.take_zero, List.nil_append, List.drop_zero]
          exact ⟨hT, piece_stop b r hb he⟩
        · have hle := escN_le (b :: r)
          obtain ⟨i1, i2⟩ := ih ((b :: r).drop (escN (b :: r))) (by rw [List.length_drop]; omega)
          rw [piece_esc _ he]
          generalize hl : b :: r = l at *
          have e1 : l.take (escN l + pieceN (l.drop (escN l))) ++ T = l.take (escN l) ++ ((l.drop (escN l)).take (pieceN (l.drop (escN l))) ++ T) := by
            rw [List.take_add, List.append_assoc]
          have e2 := esc_appG l ((l.drop (escN l)).take (pieceN (l.drop (escN l))) ++ T) he
          refine ⟨?_, by rw [← List.drop_drop]; exact i2⟩
          rw [e1, piece_esc _ (by rw [e2]; exact he), e2]
          congr 1
          rw [List.drop_left' (by rw [List.length_take]; omega), i1]
theorem piece_quote (r : List UInt8) : pieceN (34 :: r) = 0 := piece_stop _ _ rfl (esc_other _ _ (by decide))
theorem piece_open (r : List UInt8) : pieceN (92 :: 40 :: r) = 0 := piece_stop _ _ rfl rfl
/-! ### a line -/
def glue (tg : TokT → TokT → Bool) : TokT → List TokT → List UInt8
  | _, [] => []
  | last, t :: ts => (if tg last t then [] else [32]) ++ (t.2 ++ glue tg t ts)
def inter (tg : TokT → TokT → Bool) : TokT → List TokT → List TokT
  | _, [] => []
  | last, t :: ts => (if tg last t then [] else [(1, [32])]) ++ t :: inter tg t ts
def textT (t : TokT) : Prop := 7 ≤ t.1 ∧ t.1 ≤ 11
structure Tights (tg : TokT → TokT → Bool) : Prop where
  text : ∀ a b, plainT a = true → plainT b = true → textT b → tg a b = true
  colon : tg (13, [58]) (13, [58]) = false
  num : ∀ a b, a.1 = 6 → b.1 = 3 → tg a b = false
  told : ∀ a b, tg a b = true → ¬ textT a → ¬ textT b → kindAt (a.2 ++ b.2) = some (a.1, a.2.length)
/-- what stands outside of strings -/
theorem out_tok {st st3 : List Nat} {inn3 : Bool} {u : TokT} {us : List TokT} (h : Plain st false (u :: us) st3 inn3) :
    ∃ lu k0 n st2 inn2, kindAt lu = some (k0, n) ∧ u.2 = lu.take n ∧ u.2.length = n ∧ ((u.1 = k0 ∧ inn2 = (k0 == 7)) ∨ (u.1 = 10 ∧ k0 = 13 ∧ u.2 = [41])) ∧ u.1 ≠ 1 ∧ u.1 ≠ 2 ∧ Plain st2 inn2 us st3 inn3 := by
  generalize hi : false = inn at h
  generalize hu : u :: us = l at h
  cases h with
  | nil => cases hu
  | @cons l st st2 st3 inn inn2 inn3 k n ts hs h0 hn k1 k2 h8 hr =>
    subst hi
    cases hu
    obtain ⟨k0, hk, e1, e2, e3⟩ := step_out_kind hs
    refine ⟨l, k0, n, st2, inn2, hk, rfl, by rw [List.length_take]; omega, ?_, k1, k2, hr⟩
    rcases brk_kinds st k0 (l.take n) with ⟨b1, b2⟩ | ⟨b1, b2, b3, _⟩
    · refine .inl ⟨by rw [e1, b1], by rw [e3, b2]; rfl⟩
    · exact .inr ⟨by rw [e1, b1], b2, b3⟩
/-- of the first byte a colon, or a slash, are operators alone -/
theorem op_first {l : List UInt8} {k n : Nat} (h : kindAt l = some (k, n)) {b : UInt8} (hb : (l.take n)[0]? = some b) (hc : b = 58 ∨ b = 47) : k = 13 ∧ l.take n ∈ opsL := by
  obtain ⟨h0, hn, b', r, rfl, hb', _⟩ := kind_first h
  rw [hb'] at hb
  obtain rfl := Option.some.inj hb
  obtain ⟨_, hcs⟩ := kind_cases h
  have f : isBlank b' = false ∧ b' ≠ 35 ∧ isLetter b' = false ∧ b' ≠ 46 ∧ b' ≠ 36 ∧ b' ≠ 64 ∧ isDigit b' = false ∧ b' ≠ 34 := by rcases hc with rfl | rfl <;> decide
  obtain ⟨f1, f2, f3, f4, f5, f6, f7, f8⟩ := f
  rcases hcs with ⟨_, h⟩ | ⟨_, ⟨_, h⟩ | ⟨_, ⟨_, h⟩ | ⟨_, ⟨_, h⟩ | ⟨_, ⟨_, h⟩ | ⟨_, ⟨_, h⟩ | ⟨_, ⟨_, h⟩ | ⟨_, ⟨_, h⟩ | ⟨_, hk, h⟩⟩⟩⟩⟩⟩⟩⟩
  · have := zb r f1; omega
  · have := zn r f2; omega
  · have := word_other b' r f3; omega
  · have : behindN 46 simpleN (b' :: r) = 0 := zbeh _ _ f4
    omega
  · have : behindN 36 wordN (b' :: r) = 0 := zbeh _ _ f5
    omega
  · have : behindN 64 (runOf isPart) (b' :: r) = 0 := zbeh _ _ f6
    omega
  · have := num_other b' r f7 f4; omega
  · have := zq r f8; omega
  · refine ⟨hk, ?_⟩
    rcases oper_split (b' :: r) with hz | ⟨x, hx, hn2, hxs, _⟩
    · omega
    · rw [h] at hn2
      rw [hn2, hxs]; exact hx
theorem op_colon : ∀ x ∈ opsL, x[0]? = some 58 → x = [58] := by
  intro x hx h
  have h1 : (opsL.all fun x => x[0]? != some 58 || x == [58]) = true := by decide +kernel
  have := List.all_eq_true.1 h1 x hx
  rw [h] at this
  simpa using this
theorem op_slash2 (r : List UInt8) : operN (47 :: 47 :: r) ≠ 1 := by
  intro h
  rcases oper_split (47 :: 47 :: r) with hz | ⟨x, hx, hn, hxs, _⟩
  · omega
  · rw [h] at hn
    have hx1 : x = [47] := by rw [← hxs, ← hn]; rfl
    subst hx1
    unfold operN at h
    have : opsL = [[63, 47, 47], [47, 47, 61], [33, 61], [61, 61], [60, 61], [62, 61], [124, 61], [43, 61], [45, 61], [42, 61], [47, 61], [37, 61], [47, 47]] ++ [[46, 46], [46], [91], [93], [40], [41], [123], [125], [44], [58], [59], [61], [124], [43], [45], [42], [47], [37], [60], [62], [63]] := rfl
    rw [this, List.find?_append] at h
    cases hf : List.find? (fun o => Lib.hasPrefix (47 :: 47 :: r) o) [[63, 47, 47], [47, 47, 61], [33, 61], [61, 61], [60, 61], [62, 61], [124, 61], [43, 61], [45, 61], [42, 61], [47, 61], [37, 61], [47, 47]] with
    | none =>
      have := List.find?_eq_none.1 hf [47, 47] (by decide)
      simp [Lib.hasPrefix, List.isPrefixOf] at this
    | some y =>
      rw [hf] at h
      have h2 := List.mem_of_find?_eq_some hf
      have h3 : ∀ y ∈ [[63, 47, 47], [47, 47, 61], [33, 61], [61, 61], [60, 61], [62, 61], [124, 61], [43, 61], [45, 61], [42, 61], [47, 61], [37, 61], [47, 47]], List.length (α := UInt8) y ≠ 1 := by decide
      exact h3 y h2 (by simpa using h)
/-- a token outside of strings stays in the line -/
theorem out_stays {tg : TokT → TokT → Bool} (H : Tights tg) {l : List UInt8} {k0 n : Nat} (hk : kindAt l = some (k0, n)) (h1 : k0 ≠ 1) (h2 : k0 ≠ 2) {t : TokT} (ht : t.2 = l.take n) (hn : n ≤ l.length) {st2 st3 : List Nat} {inn2 inn3 : Bool} {ts : List TokT}
    (hkind : (t.1 = k0 ∧ inn2 = (k0 == 7)) ∨ (t.1 = 10 ∧ k0 = 13 ∧ t.2 = [41])) (hts : Plain st2 inn2 ts st3 inn3) : kindAt (t.2 ++ glue tg t ts) = some (k0, n) := by
  have calm : Calm (glue tg t ts) → kindAt (t.2 ++ glue tg t ts) = some (k0, n) := fun hc => by
    rw [ht]; exact stays hk h1 h2 (stop_calm hk hc)
  have hlen : t.2.length = n := by rw [ht, List.length_take]; omega
  match ts, hts with
  | [], _ => exact calm calm_nil
  | u :: us, hts =>
    cases htg : tg t u with
    | false =>
      refine calm ?_
      show Calm ((if tg t u then [] else [32]) ++ (u.2 ++ glue tg u us))
      rw [htg]
      exact calm_cons _ (.inl rfl)
    | true =>
      have hg : glue tg t (u :: us) = u.2 ++ glue tg u us := by
        show (if tg t u then [] else [32]) ++ (u.2 ++ glue tg u us) = _
        rw [htg]; rfl
      rcases hkind with ⟨e1, e2⟩ | ⟨_, rfl, e3⟩
      · by_cases h7 : k0 = 7
        · subst h7
          rw [ht]
          exact stays hk h1 h2 ⟨fun h => by omega, fun h => by omega, fun h => by omega, fun h => by omega⟩
        · have hi : inn2 = false := by rw [e2]; simpa using h7
          subst hi
          obtain ⟨lu, ku, nu, st4, inn4, hku, hu2, hul, hukind, hu1, hu2', hus⟩ := out_tok hts
          obtain ⟨hu0, hule, bu, ru, rfl, hbu, fb1, fb2, fb3⟩ := kind_first hku
          by_cases hut : textT u
          · refine calm ?_
            rw [hg]
            intro b hb
            have hb2 : u.2[0]? = some b := by
              rw [List.getElem?_append_left (by omega)] at hb; exact hb
            rcases hukind with ⟨g1, g2⟩ | ⟨g1, g2, g3⟩
            · have hr := kind_range hku
              have : ku = 7 := by obtain ⟨q1, q2⟩ := hut; omega
              subst this
              obtain ⟨_, hcs⟩ := kind_cases hku
              have hq : quoteN (bu :: ru) = nu := by
                rcases hcs with ⟨h, _⟩ | ⟨_, ⟨h, _⟩ | ⟨_, ⟨h, _⟩ | ⟨_, ⟨h, _⟩ | ⟨_, ⟨h, _⟩ | ⟨_, ⟨h, _⟩ | ⟨_, ⟨h, _⟩ | ⟨_, ⟨_, h⟩ | ⟨_, h, _⟩⟩⟩⟩⟩⟩⟩⟩
                all_goals first | exact h | (exact absurd h (by decide))
              rw [hu2, hbu] at hb2
              obtain rfl := Option.some.inj hb2
              by_cases h34 : bu = 34
              · exact .inr (.inl h34)
              · have := zq ru h34; omega
            · rw [g3] at hb2
              obtain rfl := Option.some.inj hb2
              exact .inr (.inr rfl)
          · have htt : ¬ textT t := fun ⟨q1, q2⟩ => by
              have := kind_range hk
              omega
            have hkk := H.told t u htg htt hut
            rw [e1] at hkk
            rcases hukind with ⟨g1, g2⟩ | ⟨g1, _⟩
            · have hku7 : ku ≠ 7 := fun h => hut ⟨by omega, by omega⟩
              have hi4 : inn4 = false := by rw [g2]; simpa using hku7
              subst hi4
              have key : ∀ b, b = 58 ∨ b = 47 → u.2 = [b] → (glue tg u us)[0]? = some b → ∃ v vs, us = v :: vs ∧ tg u v = true ∧ v.2[0]? = some b ∧ v.1 = 13 ∧ v.2 ∈ opsL := fun b hb hub hR => by
                match us, hus, hR with
                | [], _, hR => simp [glue] at hR
                | v :: vs, hus, hR =>
                  have hR : ((if tg u v then [] else [32]) ++ (v.2 ++ glue tg v vs))[0]? = some b := hR
                  cases hv : tg u v with
                  | false =>
                    rw [hv] at hR
                    have : b = 32 := by simpa using hR.symm
                    rcases hb with h | h <;> rw [h] at this <;> exact absurd this (by decide)
                  | true =>
                    rw [hv] at hR
                    obtain ⟨lv, kv, nv, _, _, hkv, hv2, hvl, hvkind, _, _, _⟩ := out_tok hus
                    have hv0 := (kind_first hkv).1
                    have hb2 : v.2[0]? = some b := by
                      simp only [if_true, List.nil_append] at hR
                      rw [List.getElem?_append_left (by omega)] at hR; exact hR
                    rw [hv2] at hb2
                    obtain ⟨q1, q2⟩ := op_first hkv hb2 hb
                    rw [← hv2] at hb2 q2
                    rcases hvkind with ⟨w1, _⟩ | ⟨_, _, w3⟩
                    · exact ⟨v, vs, rfl, hv, hb2, by omega, q2⟩
                    · rw [w3] at hb2
                      have : b = 41 := by simpa using hb2.symm
                      rcases hb with h | h <;> rw [h] at this <;> exact absurd this (by decide)
              have hs := stop_next (p := t.2) (q := u.2) (R := glue tg u us) (k := k0) hkk (by intro e; rw [e] at hul; simp at hul; omega)
                (fun h58 => by
                  have h58' := h58
                  rw [hu2] at h58'
                  obtain ⟨q1, q2⟩ := op_first hku h58' (.inl rfl)
                  rw [← hu2] at q2
                  have hu58 := op_colon _ q2 h58
                  refine ⟨hu58, fun hR => ?_⟩
                  obtain ⟨v, vs, _, hv, hb2, hv13, hvo⟩ := key 58 (.inl rfl) hu58 hR
                  have hv58 := op_colon _ hvo hb2
                  have eu : u = (13, [58]) := by rw [← hu58, ← q1, ← g1]
                  have ev : v = (13, [58]) := by rw [← hv58, ← hv13]
                  rw [eu, ev, H.colon] at hv
                  cases hv)
                (fun h47 hR => by
                  obtain ⟨v, vs, _, hv, hb2, hv13, hvo⟩ := key 47 (.inr rfl) h47 hR
                  have hvt : ¬ textT v := fun ⟨q1, q2⟩ => by omega
                  have hkv := H.told u v hv hut hvt
                  obtain ⟨x, hx⟩ : ∃ x, v.2 = 47 :: x := by
                    match hv2 : v.2, hb2 with
                    | b :: x, hb2 => obtain rfl : b = 47 := by simpa using hb2
                                     exact ⟨x, rfl⟩
                  rw [h47, hx] at hkv
                  have hb3 : (([47] ++ 47 :: x : List UInt8).take 1)[0]? = some 47 := rfl
                  obtain ⟨q1, _⟩ := op_first hkv hb3 (.inr rfl)
                  rw [q1] at hkv
                  obtain ⟨_, hcs⟩ := kind_cases hkv
                  have : operN ([47] ++ 47 :: x) = 1 := by
                    rcases hcs with ⟨h, _⟩ | ⟨_, ⟨h, _⟩ | ⟨_, ⟨h, _⟩ | ⟨_, ⟨h, _⟩ | ⟨_, ⟨h, _⟩ | ⟨_, ⟨h, _⟩ | ⟨_, ⟨h, _⟩ | ⟨_, ⟨h, _⟩ | ⟨_, _, h⟩⟩⟩⟩⟩⟩⟩⟩
                    all_goals first | exact h | (exact absurd h (by decide))
                  exact op_slash2 x this)
                (fun h6 b hb => by
                  cases hl : isLetter b with
                  | false => rfl
                  | true =>
                    rw [hu2, hbu] at hb
                    obtain rfl := Option.some.inj hb
                    have := H.num t u (by omega) (by rw [g1]; exact fb3 hl)
                    rw [this] at htg
                    cases htg)
              have := stays hkk h1 h2 hs
              rw [List.take_left, hlen] at this
              rw [hg]
              exact this
            · exact absurd ⟨by omega, by omega⟩ hut
      · -- a bracket's end
        rw [ht] at e3 ⊢
        refine stays hk h1 h2 ⟨fun h => by omega, fun h => by omega, fun h => by omega, fun _ => ⟨?_, fun h => ?_⟩⟩
        · rw [e3, oper_app [41] _ fun o ho hl => ?_]
          · have : n = 1 := by rw [ht, e3] at hlen; exact hlen.symm
            rw [this]; decide +kernel
          · cases hp : Lib.hasPrefix ([41] ++ glue tg t (u :: us)) o with
            | false => rfl
            | true =>
              obtain ⟨b, _, g2, g3⟩ := pre_long hl hp
              have h41 : (opsL.all fun o => o.take 1 != [41] || o.length == 1) = true := by decide +kernel
              have := List.all_eq_true.1 h41 o ho
              have g3 : o.take 1 = [41] := g3
              rw [g3] at this
              simp at this hl
              omega
        · rw [e3] at h; exact absurd h (by decide)
end Go.Proofs.YtiinhkfbgecbjaaGreatDoor.Line
namespace Go.Proofs.YtiinhkfbgecbjaaGreatDoor.Line
set_option linter.unusedVariables false
set_option linter.unusedSimpArgs false
open Go.RowKit Go.Sub
theorem Lexed.step {x R : List UInt8} {st st2 st3 : List Nat} {inn inn2 inn3 : Bool} {k : Nat} {ts : List TokT} (hs : stepN (x ++ R) st inn = (k, x.length, st2, inn2, 0)) (h0 : 0 < x.length) (hr : Lexed R st2 inn2 ts st3 inn3) : Lexed (x ++ R) st inn ((k, x) :: ts) st3 inn3 := by
  have := Lexed.cons (ts := ts) (st3 := st3) (inn3 := inn3) hs h0 (by rw [List.length_append]; omega) (by rw [List.drop_left]; exact hr)
  rwa [List.take_left] at this
theorem plain_ins {st st3 : List Nat} {inn3 : Bool} {u : TokT} {us : List TokT} (h : Plain st true (u :: us) st3 inn3) : textT u ∧ plainT u = true ∧ (u.1 = 8 ∨ (∀ r, pieceN (u.2 ++ r) = 0)) := by
  generalize hi : true = inn at h
  generalize hu : u :: us = l at h
  cases h with
  | nil => cases hu
  | @cons l st st2 st3 inn inn2 inn3 k n ts hs h0 hn k1 k2 h8 hr =>
    subst hi
    cases hu
    rcases ins_cases hs with ⟨rfl, _⟩ | ⟨rfl, rfl, _, h34, _⟩ | ⟨rfl, rfl, _, hp, _⟩
    · exact ⟨⟨(by show 7 ≤ _; omega), (by show _ ≤ 11; omega)⟩, rfl, .inl rfl⟩
    · refine ⟨⟨(by show 7 ≤ _; omega), (by show _ ≤ 11; omega)⟩, rfl, .inr fun r => ?_⟩
      match l, h34 with
      | b :: l, h34 =>
        obtain rfl : b = 34 := by simpa using h34
        exact piece_quote r
    · refine ⟨⟨(by show 7 ≤ _; omega), (by show _ ≤ 11; omega)⟩, rfl, .inr fun r => ?_⟩
      unfold Lib.hasPrefix at hp
      obtain ⟨t, rfl⟩ := List.isPrefixOf_iff_prefix.1 hp
      exact piece_open r
/-- **A LINE IS TOLD TOKEN BY TOKEN** -/
theorem line_lexed {tg : TokT → TokT → Bool} (H : Tights tg) {st : List Nat} {inn : Bool} {ps : List TokT} {st3 : List Nat} {inn3 : Bool} (h : Plain st inn ps st3 inn3) : ∀ last, plainT last = true → Lexed (glue tg last ps) st inn (inter tg last ps) st3 inn3 := by
  induction h with
  | nil st inn => exact fun last _ => .nil st inn
  | @cons l st st2 st3 inn inn2 inn3 k n ts hs h0 hn k1 k2 h8 hr ih =>
    intro last hlast
    have hpt : plainT (k, l.take n) = true := by unfold plainT; simp [k1, k2]
    have tail := ih (k, l.take n) hpt
    have hlen : (l.take n).length = n := by rw [List.length_take]; omega
    generalize hR : glue tg (k, l.take n) ts = R at tail
    cases inn with
    | true =>
      have htx : textT (k, l.take n) := by rcases ins_cases hs with ⟨h, _⟩ | ⟨h, _⟩ | ⟨h, _⟩ <;> exact ⟨(by show 7 ≤ k; omega), (by show k ≤ 11; omega)⟩
      have htg := H.text last (k, l.take n) hlast hpt htx
      have hg : glue tg last ((k, l.take n) :: ts) = l.take n ++ R := by
        show (if tg last (k, l.take n) then [] else [32]) ++ (l.take n ++ glue tg (k, l.take n) ts) = _
        rw [htg, hR]; rfl
      have hi : inter tg last ((k, l.take n) :: ts) = (k, l.take n) :: inter tg (k, l.take n) ts := by
        show (if tg last (k, l.take n) then [] else [(1, [32])]) ++ _ = _
        rw [htg]; rfl
      rw [hg, hi]
      refine Lexed.step (k := k) (st2 := st2) (inn2 := inn2) ?_ (by omega) tail
      rw [hlen]
      rcases ins_cases hs with ⟨rfl, hn2, hp, rfl, rfl⟩ | ⟨rfl, rfl, hp, h34, rfl, rfl⟩ | ⟨rfl, rfl, hp, hpre, hst, rfl, rfl⟩
      · have hR0 : pieceN R = 0 := by
          match ts, hr, h8, hR with
          | [], _, _, hR => rw [← hR]; exact piece_nil
          | u :: us, hr, h8, hR =>
            obtain ⟨q1, q2, q3⟩ := plain_ins hr
            have htu := H.text (8, l.take n) u hpt q2 q1
            rw [← hR]
            show pieceN ((if tg (8, l.take n) u then [] else [32]) ++ (u.2 ++ glue tg u us)) = 0
            rw [htu]
            rcases q3 with q3 | q3
            · exact absurd q3 (h8 rfl u us rfl)
            · exact q3 _
        have hpc := (piece_cutG R hR0 _ l (Nat.le_refl _)).1
        rw [← hn2] at hpc
        show insN (l.take n ++ R) _ = _
        unfold insN
        rw [hpc, if_pos h0]
      · obtain ⟨r, rfl⟩ : ∃ r, l = 34 :: r := by
          match l, h34 with
          | b :: r, h34 =>
            obtain rfl : b = 34 := by simpa using h34
            exact ⟨r, rfl⟩
        show insN (34 :: R) _ = _
        unfold insN
        rw [piece_quote, if_neg (by omega), if_pos (show (34 :: R)[0]? = some 34 from rfl)]
      · unfold Lib.hasPrefix at hpre
        obtain ⟨r, rfl⟩ := List.isPrefixOf_iff_prefix.1 hpre
        show insN (92 :: 40 :: R) _ = _
        unfold insN
        rw [piece_open, if_neg (by omega), if_neg (by simp), if_neg (by simp [Lib.hasPrefix, List.isPrefixOf]), if_neg (by omega)]
    | false =>
      obtain ⟨k0, hk, e1, e2, e3⟩ := step_out_kind hs
      have hkd : k0 ≠ 1 ∧ k0 ≠ 2 ∧ (((k, l.take n).1 = k0 ∧ inn2 = (k0 == 7)) ∨ ((k, l.take n).1 = 10 ∧ k0 = 13 ∧ (k, l.take n).2 = [41])) := by
        rcases brk_kinds st k0 (l.take n) with ⟨b1, b2⟩ | ⟨b1, b2, b3, _⟩
        · have : k = k0 := by rw [e1, b1]
          exact ⟨by omega, by omega, .inl ⟨this, by rw [e3, b2]; rfl⟩⟩
        · exact ⟨by omega, by omega, .inr ⟨by rw [e1, b1], b2, b3⟩⟩
      obtain ⟨d1, d2, d3⟩ := hkd
      have hst := out_stays H hk d1 d2 (t := (k, l.take n)) rfl hn d3 hr
      rw [hR] at hst
      have hst : kindAt (l.take n ++ R) = some (k0, n) := hst
      have main : Lexed (l.take n ++ R) st false ((k, l.take n) :: inter tg (k, l.take n) ts) st3 inn3 := by
        refine Lexed.step (k := k) (st2 := st2) (inn2 := inn2) ?_ (by omega) tail
        rw [step_of_kind hst]
        have ht : (l.take n ++ R).take n = l.take n := by
          have := List.take_left (l₁ := l.take n) (l₂ := R)
          rwa [hlen] at this
        rw [ht, hlen, ← e1, ← e2, ← e3]
      cases htg : tg last (k, l.take n) with
      | true =>
        have hg : glue tg last ((k, l.take n) :: ts) = l.take n ++ R := by
          show (if tg last (k, l.take n) then [] else [32]) ++ (l.take n ++ glue tg (k, l.take n) ts) = _
          rw [htg, hR]; rfl
        have hi : inter tg last ((k, l.take n) :: ts) = (k, l.take n) :: inter tg (k, l.take n) ts := by
          show (if tg last (k, l.take n) then [] else [(1, [32])]) ++ _ = _
          rw [htg]; rfl
        rw [hg, hi]; exact main
      | false =>
        have hg : glue tg last ((k, l.take n) :: ts) = [32] ++ (l.take n ++ R) := by
          show (if tg last (k, l.take n) then [] else [32]) ++ (l.take n ++ glue tg (k, l.take n) ts) = _
          rw [htg, hR]; rfl
        have hi : inter tg last ((k, l.take n) :: ts) = (1, [32]) :: (k, l.take n) :: inter tg (k, l.take n) ts := by
          show (if tg last (k, l.take n) then [] else [(1, [32])]) ++ _ = _
          rw [htg]; rfl
        rw [hg, hi]
        refine Lexed.step (k := 1) (st2 := st) (inn2 := false) ?_ (by decide) main
        have hblank : kindAt ([32] ++ (l.take n ++ R)) = some (1, 1) := by
          refine kind_of (by omega) (.inl ⟨rfl, ?_⟩)
          refine run_ends (A := [32]) (fun b hb => by simp at hb; subst hb; rfl) fun b hb => ?_
          obtain ⟨_, _, b', r, _, hb', f1, _⟩ := kind_first hst
          rw [show (l.take n ++ R).take n = l.take n from by have := List.take_left (l₁ := l.take n) (l₂ := R); rwa [hlen] at this] at hb'
          rw [List.getElem?_append_left (by omega), hb'] at hb
          obtain rfl := Option.some.inj hb
          cases hbl : isBlank b' with
          | false => rfl
          | true => exact absurd (f1 hbl) d1
        rw [step_of_kind hblank]
        have hb1 : brkN st 1 (([32] ++ (l.take n ++ R)).take 1) = (st, 1, false) := by
          match st with
          | [] => rfl
          | t :: rest => exact brk_kind (by decide)
        rw [hb1]
        rfl
/-- without spaces and notes -/
theorem Lexed.plain {l : List UInt8} {st : List Nat} {inn : Bool} {ts : List TokT} {st3 : List Nat} {inn3 : Bool} (h : Lexed l st inn ts st3 inn3) : Plain st inn (ts.filter plainT) st3 inn3 := by
  induction h with
  | nil st inn => exact .nil st inn
  | @cons l st st2 st3 inn inn2 inn3 k n ts hs h0 hn hr ih =>
    by_cases hk : k = 1 ∨ k = 2
    · have hp : plainT (k, l.take n) = false := by unfold plainT; rcases hk with rfl | rfl <;> rfl
      rw [List.filter_cons_of_neg (by rw [hp]; simp)]
      cases inn with
      | true => rcases ins_cases hs with ⟨rfl, _⟩ | ⟨rfl, _⟩ | ⟨rfl, _⟩ <;> omega
      | false =>
        obtain ⟨k0, hk0, e1, e2, e3⟩ := step_out_kind hs
        have hk13 : k0 ≠ 13 ∧ k0 ≠ 7 := by
          rcases brk_kinds st k0 (l.take n) with ⟨b1, b2⟩ | ⟨b1, b2, b3, _⟩ <;> omega
        have hb : brkN st k0 (l.take n) = (st, k0, false) := by
          match st with
          | [] => rfl
          | t :: rest => exact brk_kind hk13.1
        rw [hb] at e2 e3
        have h7 : (k0 == 7) = false := by simpa using hk13.2
        rw [h7] at e3
        have e3 : inn2 = false := e3
        have e2 : st2 = st := e2
        subst e2 e3
        exact ih
    · have hp : plainT (k, l.take n) = true := by unfold plainT; simp; omega
      rw [List.filter_cons_of_pos hp]
      refine .cons hs h0 hn (by omega) (by omega) (fun h8 u r hur => ?_) ih
      subst h8
      cases inn with
      | false =>
        obtain ⟨k0, hk0, e1, _⟩ := step_out_kind hs
        have := kind_range hk0
        rcases brk_kinds st k0 (l.take n) with ⟨b1, b2⟩ | ⟨b1, b2, b3, _⟩ <;> omega
      | true =>
        rcases ins_cases hs with ⟨_, hn2, hp2, rfl, rfl⟩ | ⟨h, _⟩ | ⟨h, _⟩
        · have hz := (piece_cutG [] piece_nil _ l (Nat.le_refl _)).2
          rw [← hn2] at hz
          generalize l.drop n = m at hr hz
          cases hr with
          | nil => cases hur
          | @cons _ _ st4 _ _ inn4 _ k' n' ts' hs' h0' hn' hr' =>
            rcases ins_cases hs' with ⟨_, g1, g2, _⟩ | ⟨rfl, _⟩ | ⟨rfl, _⟩
            · omega
            · rw [List.filter_cons_of_pos rfl] at hur
              cases hur; show 11 ≠ 8; omega
            · rw [List.filter_cons_of_pos rfl] at hur
              cases hur; show 9 ≠ 8; omega
        · omega
        · omega
/-- what is told anew -/
theorem inter_plain (tg : TokT → TokT → Bool) : ∀ (ps : List TokT) (last : TokT), (∀ t ∈ ps, plainT t = true) → (inter tg last ps).filter plainT = ps
  | [], _, _ => rfl
  | t :: ts, last, h => by
    show ((if tg last t then [] else [(1, [32])]) ++ t :: inter tg t ts).filter plainT = _
    rw [List.filter_append, List.filter_cons_of_pos (h t (List.mem_cons_self ..)), inter_plain tg ts t fun x hx => h x (List.mem_cons_of_mem _ hx)]
    cases tg last t <;> rfl
end Go.Proofs.YtiinhkfbgecbjaaGreatDoor.Line
namespace Go.Proofs.YtiinhkfbgecbjaaGreatDoor.Line
set_option linter.unusedVariables false
set_option linter.unusedSimpArgs false
open Go.RowKit Go.Sub
def tt (l : List UInt8) (y : Tok3) : TokT := (y.1, (l.drop y.2.1).take y.2.2)
theorem step_pos {m : List UInt8} {st st2 : List Nat} {inn inn2 : Bool} {k n : Nat} (h : stepN m st inn = (k, n, st2, inn2, 0)) : 0 < n ∧ n ≤ m.length := by
  cases inn with
  | false =>
    obtain ⟨k0, hk, _⟩ := step_out_kind h
    obtain ⟨h0, hn, _⟩ := kind_first hk
    exact ⟨h0, hn⟩
  | true =>
    rcases ins_cases h with ⟨_, rfl, h0, _⟩ | ⟨_, rfl, _, h34, _⟩ | ⟨_, rfl, _, hp, _⟩
    · exact ⟨h0, pieceN_le _ m (Nat.le_refl _)⟩
    · match m, h34 with
      | b :: r, _ => exact ⟨by omega, by simp⟩
    · have := Lib.hasPrefix_le hp
      exact ⟨by omega, by simpa using this⟩
theorem reach_lexed {l : List UInt8} {pre : List Tok3} {a : Nat} {st : List Nat} {inn : Bool} (h : Reach l pre a st inn) : ∀ ts st3 inn3, Lexed (l.drop a) st inn ts st3 inn3 → Lexed l [] false (pre.map (tt l) ++ ts) st3 inn3 := by
  induction h with
  | nil => exact fun ts st3 inn3 h => h
  | @snoc pre a st inn k n st2 inn2 hr hlt hs ih =>
    intro ts st3 inn3 h
    obtain ⟨h0, hn⟩ := step_pos hs
    have := ih _ st3 inn3 (Lexed.cons hs h0 hn (by rw [List.drop_drop]; exact h))
    rw [List.map_append, List.append_assoc]
    exact this
theorem reach_utf {l : List UInt8} {pre : List Tok3} {a : Nat} {st : List Nat} {inn : Bool} (h : Reach l pre a st inn) (hu : Utf l) : ∀ y ∈ pre, Utf (tt l y).2 := by
  induction h with
  | nil => exact fun y hy => by cases hy
  | @snoc pre a st inn k n st2 inn2 hr hlt hs ih =>
    intro y hy
    rcases List.mem_append.1 hy with hy | hy
    · exact ih y hy
    · obtain rfl := List.mem_singleton.1 hy
      obtain ⟨h0, hn⟩ := step_pos hs
      have e2 : Edge l (a + n) := reach_edge (.snoc hr hlt hs)
      have u1 := (utf_cut hu a (reach_edge hr)).2
      refine (utf_cut u1 n ?_).1
      rcases e2 with e | e | ⟨b, e, eb⟩ | ⟨b, _, e, eb⟩
      · omega
      · exact .inr (.inl (by rw [List.length_drop]; omega))
      · exact .inr (.inr (.inl ⟨b, by rw [List.getElem?_drop]; exact e, eb⟩))
      · exact .inr (.inr (.inr ⟨b, h0, by rw [List.getElem?_drop, show a + (n - 1) = a + n - 1 by omega]; exact e, eb⟩))
theorem lexed_run : ∀ (F : Nat) (l : List UInt8) (a : Nat) (st : List Nat) (inn : Bool) (ts : List TokT), Lexed (l.drop a) st inn ts [] false → l.length - a + 1 ≤ F → a ≤ l.length → ∃ ys, lexN F l a st inn = (ys, 0, l.length) ∧ ys.map (tt l) = ts := by
  intro F
  induction F with
  | zero => intro l a st inn ts _ h; omega
  | succ F ih =>
    intro l a st inn ts h hF ha
    generalize hm : l.drop a = m at h
    generalize hst : ([] : List Nat) = st3 at h
    generalize hin : false = inn3 at h
    cases h with
    | nil =>
      subst hst hin
      have : l.length ≤ a := by
        have := congrArg List.length hm
        rw [List.length_drop] at this
        simp at this; omega
      have ea : a = l.length := by omega
      exact ⟨[], by rw [lexN, if_pos this, ea]; rfl, rfl⟩
    | @cons _ _ st2 _ _ inn2 _ k n ts hs h0 hn hr =>
      subst hst hin hm
      rw [List.length_drop] at hn
      rw [List.drop_drop] at hr
      obtain ⟨ys, e1, e2⟩ := ih l (a + n) st2 inn2 ts hr (by omega) (by omega)
      refine ⟨(k, a, n) :: ys, ?_, ?_⟩
      · rw [lexN_step (by omega) hs, e1]
      · rw [List.map_cons, e2]; rfl
theorem lexed_tokens {s : ByteArray} {ts : List TokT} (h : Lexed s.data.toList [] false ts [] false) (hu : Utf s.data.toList) (hs : s.size ≤ 65536) : ∃ ys, tokensN s = (ys, 0, 0) ∧ ys.map (tt s.data.toList) = ts := by
  obtain ⟨ys, e1, e2⟩ := lexed_run (s.size + 1) s.data.toList 0 [] false ts h (by rw [← Lib.size_eq]; omega) (Nat.zero_le _)
  refine ⟨ys, ?_, e2⟩
  unfold tokensN
  rw [if_neg (by omega), (check_iff s).2 hu, if_neg (by omega), e1, if_pos rfl]
/-! ### the code's word for 'tight' -/
def toB (t : TokT) : TokB := ((t.1 : Int), ⟨t.2.toArray⟩)
def tgB (a b : TokT) : Bool := tightB (toB a) (toB b)
theorem toB_inj {a b : TokT} (h : toB a = toB b) : a = b := by
  unfold toB at h
  simp only [Prod.mk.injEq, ByteArray.mk.injEq] at h
  obtain ⟨h1, h2⟩ := h
  exact Prod.ext (by omega) (by have := congrArg Array.toList h2; simpa using this)
theorem tokB_tt (l : List UInt8) (y : Tok3) : tokB l y = toB (tt l y) := rfl
theorem tights : Tights tgB where
  text a b ha hb hx := by
    obtain ⟨x1, x2⟩ := hx
    unfold plainT at ha hb
    simp only [Bool.and_eq_true, bne_iff_ne, ne_eq] at ha hb
    unfold tgB tightB toB
    dsimp only
    rw [if_neg (by omega), if_neg (by omega), if_neg (fun h => by have h1 := congrArg Prod.fst h.1; have h2 := h.2.1; dsimp only at h1 h2; omega), if_pos (by omega)]
  colon := by
    unfold tgB tightB toB
    dsimp only
    rw [if_neg (by omega), if_neg (by omega), if_pos ⟨rfl, rfl, rfl⟩]
  num a b ha hb := by
    unfold tgB tightB toB
    dsimp only
    by_cases h : ((a.1 : Int) = 1 ∨ (a.1 : Int) = 2 ∨ (b.1 : Int) = 1 ∨ (b.1 : Int) = 2)
    · rw [if_pos h]
    · rw [if_neg h, if_pos (by omega)]
  told a b h ha hb := by
    unfold tgB tightB at h
    split at h
    · cases h
    split at h
    · cases h
    split at h
    · cases h
    split at h
    · rename_i hx
      unfold textT at ha hb
      unfold toB at hx
      dsimp only at hx
      omega
    · simp only [Bool.and_eq_true, decide_eq_true_eq] at h
      obtain ⟨h1, h2⟩ := h
      have hd : ((toB a).2 ++ (toB b).2 : ByteArray).data.toList = a.2 ++ b.2 := by
        unfold toB
        simp [ByteArray.data_append]
      generalize hS : ((toB a).2 ++ (toB b).2 : ByteArray) = S at h1 h2 hd
      obtain ⟨ys, er, z, ht⟩ : ∃ ys er z, tokensN S = (ys, er, z) := ⟨_, _, _, rfl⟩
      rw [ht] at h1 h2
      dsimp only at h1 h2
      subst h1
      have hsz : S.size ≤ 65536 := by
        by_cases hl : 65536 < S.size
        · unfold tokensN at ht
          rw [if_pos hl] at ht
          simp only [Prod.mk.injEq] at ht
          exact absurd ht.2.1 (by decide)
        · omega
      obtain ⟨hu, hr⟩ := told_reach hsz ht
      have hL := reach_lexed hr [] [] false (by rw [List.drop_eq_nil_of_le (by rw [← Lib.size_eq]; exact Nat.le_refl _)]; exact .nil [] false)
      rw [List.append_nil, hd] at hL
      have hy : ys.map (tt (a.2 ++ b.2)) = [a, b] := by
        rw [hd] at h2
        obtain ⟨x, y, rfl⟩ : ∃ x y, ys = [x, y] := by
          have hl : ys.length = 2 := by have := congrArg List.length h2; simpa using this
          match ys, hl with
          | [x, y], _ => exact ⟨x, y, rfl⟩
        simp only [List.map_cons, List.map_nil, List.cons.injEq, and_true] at h2
        rw [tokB_tt, tokB_tt] at h2
        rw [List.map_cons, List.map_cons, List.map_nil, toB_inj h2.1, toB_inj h2.2]
      rw [hy] at hL
      generalize hts : [a, b] = ts at hL
      generalize hm : a.2 ++ b.2 = m at hL
      cases hL with
      | nil => cases hts
      | @cons _ _ st2 _ _ inn2 _ k n ts hs h0 hn hr =>
        simp only [List.cons.injEq] at hts
        obtain ⟨ea, _⟩ := hts
        obtain ⟨k0, hk, e1, _⟩ := step_out_kind hs
        have e1 : k = k0 := e1
        have ea1 : a.1 = k := congrArg Prod.fst ea
        have ea2 : a.2 = m.take n := congrArg Prod.snd ea
        have : a.2.length = n := by rw [ea2, List.length_take]; omega
        rw [hk, ea1, e1, this]
theorem line_glue : ∀ (ts : List TokT) (acc : List UInt8) (last : TokT), ((ts.map toB).foldl lineStep (acc, toB last)).1 = acc ++ glue tgB last (ts.filter plainT)
  | [], acc, last => by simp [glue]
  | t :: ts, acc, last => by
    rw [List.map_cons, List.foldl_cons]
    by_cases h : t.1 = 1 ∨ t.1 = 2
    · have e : lineStep (acc, toB last) (toB t) = (acc, toB last) := by
        unfold lineStep
        rw [if_pos (by unfold toB; dsimp only; omega)]
      rw [e, line_glue ts acc last, List.filter_cons_of_neg (by unfold plainT; simp; omega)]
    · have e : lineStep (acc, toB last) (toB t) = (acc ++ (if tgB last t then [] else [32]) ++ t.2, toB t) := by
        unfold lineStep
        rw [if_neg (by unfold toB; dsimp only; omega)]
        rfl
      rw [e, line_glue ts _ t, List.filter_cons_of_pos (by unfold plainT; simp; omega)]
      show _ = acc ++ ((if tgB last t then [] else [32]) ++ (t.2 ++ glue tgB t (ts.filter plainT)))
      simp only [List.append_assoc]
theorem lineL_glue (ts : List TokT) : lineL (ts.map toB) = glue tgB (7, []) (ts.filter plainT) := by
  have := line_glue ts [] (7, [])
  rw [List.nil_append] at this
  exact this
theorem utf_one : Utf [32] := utf_ascii1 (by decide)
theorem glue_utf (tg : TokT → TokT → Bool) : ∀ (ps : List TokT) (last : TokT), (∀ t ∈ ps, Utf t.2) → Utf (glue tg last ps)
  | [], _, _ => .nil
  | t :: ts, last, h => by
    have h1 := utf_append (h t (List.mem_cons_self ..)) (glue_utf tg ts t fun x hx => h x (List.mem_cons_of_mem _ hx))
    show Utf ((if tg last t then [] else [32]) ++ (t.2 ++ glue tg t ts))
    split
    · exact h1
    · exact utf_append utf_one h1
theorem inter_kinds (tg : TokT → TokT → Bool) : ∀ (ps : List TokT) (last : TokT), (∀ t ∈ ps, plainT t = true) → ∀ t ∈ inter tg last ps, t.1 ≠ 2
  | [], _, _ => fun t ht => by cases ht
  | p :: ps, last, h => fun t ht => by
    have ht : t ∈ (if tg last p then [] else [(1, [32])]) ++ p :: inter tg p ps := ht
    rcases List.mem_append.1 ht with ht | ht
    · split at ht
      · cases ht
      · obtain rfl := List.mem_singleton.1 ht; decide
    · rcases List.mem_cons.1 ht with rfl | ht
      · have := h t (List.mem_cons_self ..)
        unfold plainT at this
        simp at this
        exact this.2
      · exact inter_kinds tg ps p (fun x hx => h x (List.mem_cons_of_mem _ hx)) t ht
theorem plainK_toB (t : TokT) : plainK (toB t) = plainT t := by
  unfold plainK plainT toB
  dsimp only
  rw [Bool.eq_iff_iff]
  simp only [decide_eq_true_eq, Bool.and_eq_true, bne_iff_ne, ne_eq]
  omega
/-- **A LINE HAS THE SAME TOKENS**, and is its own line -/
theorem line_told {R : ByteArray} (hR : R.size ≤ 30000) {ys : List Tok3} {z : Int} (h : tokensN R = (ys, 0, z)) : ∃ zs, tokensN ⟨(lineL (ys.map (tokB R.data.toList))).toArray⟩ = (zs, 0, 0) ∧
    (zs.map (tokB (lineL (ys.map (tokB R.data.toList))))).filter plainK = (ys.map (tokB R.data.toList)).filter plainK ∧ (∀ t ∈ zs.map (tokB (lineL (ys.map (tokB R.data.toList)))), t.1 ≠ 2) ∧
    lineL (zs.map (tokB (lineL (ys.map (tokB R.data.toList))))) = lineL (ys.map (tokB R.data.toList)) ∧ (lineL (ys.map (tokB R.data.toList))).length ≤ R.size + R.size := by
  obtain ⟨hu, hr⟩ := told_reach (by omega) h
  have hsrc := src_tok (by omega) h
  have hlen : (lineL (ys.map (tokB R.data.toList))).length ≤ R.size + R.size := by
    have h1 := lineS_size (ys.map (tokB R.data.toList)) ([], (7, ⟨#[]⟩))
    have h2 : sumI (ys.map (tokB R.data.toList)) ≤ R.size + R.size := hsrc.sum
    have h3 : (lineL (ys.map (tokB R.data.toList))).length ≤ 0 + sumI (ys.map (tokB R.data.toList)) := h1
    omega
  have hxs : ys.map (tokB R.data.toList) = (ys.map (tt R.data.toList)).map toB := by rw [List.map_map]; rfl
  have hL := reach_lexed hr [] [] false (by rw [List.drop_eq_nil_of_le (by rw [← Lib.size_eq]; exact Nat.le_refl _)]; exact .nil [] false)
  rw [List.append_nil] at hL
  have hut : ∀ t ∈ (ys.map (tt R.data.toList)).filter plainT, Utf t.2 := fun t ht => by
    obtain ⟨y, hy, rfl⟩ := List.mem_map.1 (List.mem_filter.1 ht).1
    exact reach_utf hr hu y hy
  have hpl : ∀ t ∈ (ys.map (tt R.data.toList)).filter plainT, plainT t = true := fun t ht => (List.mem_filter.1 ht).2
  rw [hxs, lineL_glue] at hlen ⊢
  generalize ys.map (tt R.data.toList) = ts at *
  have hline := line_lexed tights hL.plain (7, []) rfl
  generalize hg : glue tgB (7, []) (ts.filter plainT) = L at *
  obtain ⟨zs, e1, e2⟩ := lexed_tokens (s := ⟨L.toArray⟩) (by simpa using hline) (by rw [← hg]; simpa using glue_utf tgB _ _ hut) (by show L.toArray.size ≤ 65536; simp; omega)
  have e2 : zs.map (tt L) = inter tgB (7, []) (ts.filter plainT) := by simpa using e2
  have hzs : zs.map (tokB L) = (zs.map (tt L)).map toB := by rw [List.map_map]; rfl
  refine ⟨zs, e1, ?_, ?_, ?_, hlen⟩
  · rw [hzs, e2, List.filter_map, List.filter_map]
    have ek : (plainK ∘ toB) = plainT := funext plainK_toB
    rw [ek, inter_plain tgB _ _ hpl]
  · rw [hzs, e2]
    intro t ht
    obtain ⟨y, hy, rfl⟩ := List.mem_map.1 ht
    have := inter_kinds tgB _ _ hpl y hy
    unfold toB
    dsimp only
    omega
  · rw [hzs, lineL_glue, e2, inter_plain tgB _ _ hpl, hg]
end Go.Proofs.YtiinhkfbgecbjaaGreatDoor.Line
namespace Go.Proofs.YtiinhkfbgecbjaaGreatDoor
set_option linter.unusedSimpArgs false
set_option linter.unusedVariables false
open Go.RowKit Go.Sub

theorem addNote_toks (s : ByteArray) : ∀ l : List ItemB, (addNote l s).map (·.1) = l.map (·.1)
  | [] => rfl
  | [y] => rfl
  | y :: z :: l => by
    show y.1 :: (addNote (z :: l) s).map (·.1) = _
    rw [addNote_toks s (z :: l)]; rfl
theorem it_toks : ∀ (xs : List TokB) (st : ItemSt), ((xs.foldl itStep st).2.1).map (·.1) = st.2.1.map (·.1) ++ xs.filter plainK
  | [], st => by simp
  | x :: xs, st => by
    rw [List.foldl_cons, it_toks xs (itStep st x)]
    have e : (itStep st x).2.1.map (·.1) = st.2.1.map (·.1) ++ [x].filter plainK := by
      unfold itStep plainK
      by_cases h1 : x.1 = 1
      · simp [h1]
      · by_cases h2 : x.1 = 2
        · simp [h1, h2, addNote_toks]
        · simp [h1, h2]
    rw [e, List.append_assoc, ← List.filter_append]
    rfl
theorem items_toks (xs : List TokB) : (itemsS xs).2.1.map (·.1) = xs.filter plainK := by
  have := it_toks xs ([], [], 0)
  simpa [itemsS] using this
/-- all that the law asks of a source's tokens -/
structure LineOK (xs : List TokB) (ms : List TokB) : Prop where
  told : tokensN ⟨(lineL xs).toArray⟩ = ((tokensN ⟨(lineL xs).toArray⟩).1, 0, 0)
  toks : (tokensN ⟨(lineL xs).toArray⟩).1.map (tokB (lineL xs)) = ms
  same : ms.filter plainK = xs.filter plainK
  notes : notesL ms = []
  line : lineL ms = lineL xs
  len : (lineL xs).length ≤ 600
theorem line_ok {R : ByteArray} (hR : R.size ≤ 300) {ys : List Tok3} {z : Int} (h : tokensN R = (ys, 0, z)) : ∃ ms, LineOK (ys.map (tokB R.data.toList)) ms := by
  obtain ⟨zs, e1, e2, e3, e4, e5⟩ := Line.line_told (by omega) h
  refine ⟨zs.map (tokB (lineL (ys.map (tokB R.data.toList)))), by rw [e1], by rw [e1], e2, ?_, e4, by omega⟩
  unfold notesL
  rw [List.map_eq_nil_iff, List.filter_eq_nil_iff]
  intro t ht
  have := e3 t ht
  unfold noteK
  simpa using this
/-- the tokens of a source, and of its line -/
theorem ltok_calls (R : ByteArray) (w : World) (hR : R.size ≤ 300) : Calls Tryz.prog 9 #[.string R] w fun e w' => ∃ (p : Option Addr) (c : Nat) (xs ms : List TokB) (er : Nat) (z : Int), e = .returned (.tuple #[.slice p xs.length c, .int .i64 (er : Int), .int .i64 z]) ∧
    TokRow w' (.slice p xs.length c) xs ∧ (er = 0 → SrcTok R xs ∧ LineOK xs ms) ∧ Below w.heap.size w w' := by
  refine (rtokens_told R w (by omega)).mono ?_
  rintro e w' ⟨p, c, rfl, hr, hb⟩
  obtain ⟨ys, er, z, ht⟩ : ∃ ys er z, tokensN R = (ys, er, z) := ⟨_, _, _, rfl⟩
  rw [ht] at hr ⊢
  by_cases he : er = 0
  · subst he
    obtain ⟨ms, hm⟩ := line_ok hR ht
    exact ⟨p, c, _, ms, 0, z, rfl, hr, fun _ => ⟨src_tok (by omega) ht, hm⟩, hb⟩
  · exact ⟨p, c, _, [], er, z, rfl, hr, fun e => absurd e he, hb⟩
theorem mtok_calls {xs ms : List TokB} (h : LineOK xs ms) (w : World) : Calls Tryz.prog 9 #[.string ⟨(lineL xs).toArray⟩] w fun e w' => ∃ (p : Option Addr) (c : Nat), e = .returned (.tuple #[.slice p ms.length c, .int .i64 0, .int .i64 0]) ∧
    TokRow w' (.slice p ms.length c) ms ∧ Below w.heap.size w w' := by
  have hs : (⟨(lineL xs).toArray⟩ : ByteArray).size ≤ 600 := by have := h.len; show (lineL xs).toArray.size ≤ 600; simpa using this
  refine (rtokens_told ⟨(lineL xs).toArray⟩ w (by omega)).mono ?_
  rintro e w' ⟨p, c, rfl, hr, hb⟩
  have ht := h.told
  have hm := h.toks
  generalize tokensN ⟨(lineL xs).toArray⟩ = T at *
  obtain ⟨ys, er, z⟩ := T
  simp only [Prod.mk.injEq, true_and] at ht
  obtain ⟨rfl, rfl⟩ := ht
  dsimp only at hr hm ⊢
  have hm : ys.map (tokB ((⟨(lineL xs).toArray⟩ : ByteArray).data.toList)) = ms := by rw [← hm]
  rw [hm] at hr ⊢
  exact ⟨p, c, rfl, hr, hb⟩
theorem mtok_src {xs ms : List TokB} (h : LineOK xs ms) : SrcTok ⟨(lineL xs).toArray⟩ ms := by
  have hs : (⟨(lineL xs).toArray⟩ : ByteArray).size ≤ 600 := by have := h.len; show (lineL xs).toArray.size ≤ 600; simpa using this
  have := src_tok (by omega) h.told
  have hm : (tokensN ⟨(lineL xs).toArray⟩).1.map (tokB ((⟨(lineL xs).toArray⟩ : ByteArray).data.toList)) = ms := by rw [← h.toks]
  rwa [hm] at this
theorem rowOf {w w0 : World} {xs : List TokB} (h : xs.length ≤ 1000) {vl vo : Value} {us : List Value} (hi : ItemsAt w w0.heap.size 41 vo vl (itemsS xs) us) : ItemRow w vo (itemsS xs).2.1 := by
  have hc := items_count xs
  have h1 : (xs.filter plainK).length ≤ xs.length := List.length_filter_le _ _
  have h2 : (notesL xs).length ≤ xs.length := by unfold notesL; rw [List.length_map]; exact List.length_filter_le _ _
  have hn := items_notes xs
  refine itemRow_own hi (by omega) fun x hx => ?_
  have h3 : ∀ (l : List ItemB), x ∈ l → x.2.2.length ≤ (l.flatMap (·.2.2)).length := by
    intro l hl
    induction l with
    | nil => cases hl
    | cons y l ih =>
      rw [List.flatMap_cons, List.length_append]
      rcases List.mem_cons.1 hl with rfl | hl
      · omega
      · have := ih hl; omega
  have := h3 _ hx
  rw [← hn, List.length_append] at h2
  omega
set_option maxRecDepth 100000 in
set_option maxHeartbeats 4000000 in
theorem line_core (v : Value) (w : World) (hv : BytesV w v) : Calls Tryz.prog 6 #[v] w fun e w' => e = .returned (.bool true) ∧ Below w.heap.size w w' := by
  have HV := Lib.hid hv
  clear hv
  go_enter Tryz.func6, Tryz.ntmps6
  go_upto_region 2 with (first
    | (go_at_call 10; refine (source_calls _ _ HV.out).mono ?_; rintro e w1 ⟨R, rfl, hR, hb1⟩; have HB1 := Lib.hid hb1; clear hb1)
    | (go_at_call 9; refine (ltok_calls _ _ hR).mono ?_; rintro e w2 ⟨p, c, xs, ms, er, z, rfl, hrow, hsrc, hb2⟩; have HB2 := Lib.hid (HB1.out.trans (hb2.mono HB1.out.size)); have HR := Lib.hid hrow; have HS := Lib.hid hsrc; clear hb2 hrow hsrc))
  by_cases he : er = 0
  · subst he
    obtain ⟨hs, hk⟩ := HS.out rfl
    have hm := mtok_src hk
    have hlx : xs.length ≤ 300 := by have := hs.len; omega
    have hll := hk.len
    have hsz : (⟨(lineL xs).toArray⟩ : ByteArray).size ≤ 600 := by show (lineL xs).toArray.size ≤ 600; simpa using hll
    have hlm : ms.length ≤ 600 := by have := hm.len; omega
    have hbx := hs.lenB
    have hbm := hm.lenB
    have hsum : sumI xs ≤ 1000 := by have h : sumI xs ≤ R.size + R.size := hs.sum; omega
    have hsumm : sumI ms ≤ 2000 := by have h : sumI ms ≤ (⟨(lineL xs).toArray⟩ : ByteArray).size + (⟨(lineL xs).toArray⟩ : ByteArray).size := hm.sum; omega
    have hwx := hs.wf (by omega)
    have hwm := hm.wf (by omega)
    have HLX := Lib.hid (fun W (hW : Below w2.heap.size w2 W) => iline_calls _ xs W (HR.out.below hW) (by omega) hwx)
    have HIX := Lib.hid (fun W (hW : Below w2.heap.size w2 W) => items_calls _ xs W (HR.out.below hW) (by omega) (by omega))
    have HTM := Lib.hid (mtok_calls hk)
    have HLM := Lib.hid (fun v W (h : TokRow W v ms) => iline_calls v ms W h (by omega) hwm)
    have HIM := Lib.hid (fun v W (h : TokRow W v ms) => items_calls v ms W h (by omega) (by omega))
    have HNM := Lib.hid (fun v W (h : TokRow W v ms) => inotes_calls v ms W h (by omega) (by omega))
    have htx := items_toks xs
    have htm := items_toks ms
    have HRX := Lib.hid (fun (w0 W : World) (vl vo : Value) (us : List Value) (h : ItemsAt W w0.heap.size 41 vo vl (itemsS xs) us) => rowOf (by omega) h)
    have HRM := Lib.hid (fun (w0 W : World) (vl vo : Value) (us : List Value) (h : ItemsAt W w0.heap.size 41 vo vl (itemsS ms) us) => rowOf (by omega) h)
    rw [hk.same, ← htx] at htm
    have hcl : (itemsS xs).2.1.length ≤ 300 := by rw [items_count]; exact Nat.le_trans (List.length_filter_le _ _) hlx
    have hnn := hk.notes
    rw [hnn] at HNM
    rw [hk.line] at HLM
    unfold RItemsPost at HIX HIM
    have hlen : (itemsS ms).2.1.length = (itemsS xs).2.1.length := by have := congrArg List.length htm; simpa using this
    clear hs hm hk hwx hwm htx hnn hbx hbm hsum hsumm hll HS
    generalize hLx : (⟨(lineL xs).toArray⟩ : ByteArray) = L at *
    generalize itemsS xs = sx at *
    generalize itemsS ms = sm at *
    obtain ⟨lx, ox, ax⟩ := sx
    obtain ⟨lm, om, am⟩ := sm
    dsimp only at htm hcl hlen
    have HB0 := Lib.hid (Below.refl w2.heap.size w2)
    have y1 : ((0 : Int) != 0) = false := rfl
    have HTOK := Lib.hid htm
    clear htm hLx
    have z0 : (0 : Int) ≤ (ox.length : Int) := by omega
    go_upto_region 10 with (first
      | (go_at_call 13; with_reducible refine (HLX.out _ HB0.out).mono ?_; rintro e w3 ⟨rfl, hb⟩; have HB3 := Lib.hid hb; clear hb)
      | (go_at_call 9; with_reducible refine (HTM.out _).mono ?_; rintro e w4 ⟨pm, cm, rfl, hr, hb⟩; have HM := Lib.hid hr; have HB4 := Lib.hid (HB3.out.trans (hb.mono HB3.out.size)); clear hr hb)
      | (go_at_call 17; with_reducible refine (HIX.out _ HB4.out).mono ?_; rintro e w5 ⟨vl, vo, us, rfl, hit, hb⟩; have HX := Lib.hid (HRX.out _ _ _ _ _ hit); obtain ⟨po, co, rfl, hco2⟩ := row_shp hit.row; have HB45 := Lib.hid hb; have HB5 := Lib.hid (HB4.out.trans (hb.mono HB4.out.size)); clear hit hb)
      | (go_at_call 17; with_reducible refine (HIM.out _ _ (HM.out.below HB45.out)).mono ?_; rintro e w6 ⟨vl2, vo2, us2, rfl, hit, hb⟩; have HY := Lib.hid (HRM.out _ _ _ _ _ hit); obtain ⟨po2, co2, rfl, hco3⟩ := row_shp hit.row; have HB46 := Lib.hid (HB45.out.trans (hb.mono HB45.out.size)); have HX6 := Lib.hid (HX.out.below hb); have HB6 := Lib.hid (HB5.out.trans (hb.mono HB5.out.size)); clear hit hb))
    go_wp2
    rw [hlen] at HY
    have HDR := Lib.hid (fun (W : World) (k : Nat) (h : Below w6.heap.size w6 W) => (h.trans ⟨rfl, rfl, rfl, Nat.le_refl _, fun _ _ => rfl⟩ : Below w6.heap.size w6 (W.drewN k)))
    go_loopw [14] (fun i wr => ∃ j : Nat, j ≤ ox.length ∧ i = .int .i64 j ∧ Hid (Below w6.heap.size w6 wr)) (fun i _ => ox.length - (intOf i).toNat)
    case atStart => exact ⟨0, Nat.zero_le _, rfl, Lib.hid (Below.refl _ _)⟩
    case round =>
      obtain ⟨j, hj, rfl, HR7⟩ := hrel
      by_cases hlt : j < ox.length
      · have HLT := Lib.hid hlt
        obtain ⟨x, hx⟩ : ∃ x, ox[j]? = some x := ⟨_, List.getElem?_eq_getElem hlt⟩
        obtain ⟨y, hy⟩ : ∃ y, om[j]? = some y := ⟨_, List.getElem?_eq_getElem (show j < om.length by omega)⟩
        have hxy : y.1 = x.1 := by
          have h := congrArg (fun l : List TokB => l[j]?) HTOK.out
          rw [List.getElem?_map, List.getElem?_map, hx, hy] at h
          exact Option.some.inj h
        obtain ⟨b1, o1, q1, e1, rfl, a0, a1, -⟩ := (HX6.out.below HR7.out).at hx
        obtain ⟨b2, o2, q2, e2, rfl, c0, c1, -⟩ := (HY.out.below HR7.out).at hy
        rw [hxy] at c0 c1
        generalize x.1 = t at *
        obtain ⟨k, s⟩ := t
        dsimp only at *
        clear hx hy hxy
        go_wp2
        go_quiet (fail)
        go_wp2
        go_roundw
        case rel => exact ⟨j + 1, HLT.out, by go_num, Lib.hid (HDR.out _ _ HR7.out)⟩
        case measure => simp [intOf]; have := HLT.out; omega
      · obtain rfl : j = ox.length := by omega
        have HB7 := Lib.hid (HB6.out.trans (HR7.out.mono HB6.out.size))
        have HB47 := Lib.hid (HB46.out.trans (HR7.out.mono HB46.out.size))
        go_wp2_with (first
          | ((go_at_call 11; refine (known_calls _).mono ?_; rintro e w9 ⟨rfl, hb9⟩; have HB9 := Lib.hid (HB7.out.trans (hb9.mono HB7.out.size)); have HBK := Lib.hid hb9; clear hb9); clear HB9; have HB9 := Lib.hid (HB47.out.trans (HBK.out.mono HB47.out.size)); have HBZ := Lib.hid (HB7.out.trans (HBK.out.mono HB7.out.size)))
          | (go_at_call 13; with_reducible refine (HLM.out _ _ (HM.out.below HB9.out)).mono ?_; rintro e w10 ⟨rfl, hb⟩; have HB10 := Lib.hid (HB9.out.trans (hb.mono HB9.out.size)); have HBY := Lib.hid (HBZ.out.trans (hb.mono HBZ.out.size)); clear hb)
          | (go_at_call 18; with_reducible refine (HNM.out _ _ (HM.out.below HB10.out)).mono ?_; rintro e w11 ⟨u, rfl, hu, hb⟩; have HBX := Lib.hid (HBY.out.trans (hb.mono HBY.out.size)); obtain ⟨pu, cu, rfl, -⟩ := row_shp hu; clear hb hu))
        go_ret
        exact ⟨rfl, HB2.out.trans (HBX.out.mono HB2.out.size)⟩
  · have y1 : ((er : Int) != 0) = true := by rw [bne_iff_ne]; omega
    have y2 : ((er : Int) = 0) = False := eq_false (by omega)
    go_wp2_with (go_at_call 11; refine (known_calls _).mono ?_; rintro e w9 ⟨rfl, hb9⟩; have HB9 := Lib.hid (HB2.out.trans (hb9.mono HB2.out.size)); have HBK := Lib.hid hb9; clear hb9)
    go_ret
    exact ⟨rfl, HB9.out⟩
end Go.Proofs.YtiinhkfbgecbjaaGreatDoor
