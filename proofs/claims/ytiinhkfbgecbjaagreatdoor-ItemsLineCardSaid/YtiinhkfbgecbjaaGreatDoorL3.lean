/- Facts on numbers. No condition. -/
import Derived.Test.YtiinhkfbgecbjaaGreatDoorSg7
namespace Go.Proofs.YtiinhkfbgecbjaaGreatDoor
set_option linter.unusedSimpArgs false
set_option linter.unusedVariables false
open Go.RowKit Go.Sub

def AllD (l : List UInt8) : Prop := ∀ b ∈ l, isDigit b = true
theorem run_app (l r : List UInt8) (h : AllD l) : runOf isDigit (l ++ r) = l.length + runOf isDigit r := by
  induction l with
  | nil => simp
  | cons b t ih =>
    have h1 : isDigit b = true := h b List.mem_cons_self
    have h2 := ih (fun x hx => h x (List.mem_cons_of_mem _ hx))
    unfold runOf at h2 ⊢
    rw [List.cons_append, List.takeWhile_cons, if_pos h1]
    simp only [List.length_cons]; omega
theorem run_no (b : UInt8) (r : List UInt8) (h : isDigit b = false) : runOf isDigit (b :: r) = 0 := by
  unfold runOf; rw [List.takeWhile_cons, if_neg (by rw [h]; simp)]; rfl
theorem run_all (l : List UInt8) (h : AllD l) : runOf isDigit l = l.length := by
  have := run_app l [] h; simpa [runOf] using this
theorem run_stop (l : List UInt8) (b : UInt8) (r : List UInt8) (h : AllD l) (hb : isDigit b = false) : runOf isDigit (l ++ b :: r) = l.length := by
  rw [run_app l _ h, run_no b r hb]; rfl
/-- a whole number ahead of what is neither digit nor dot -/
theorem num_whole (A T : List UInt8) (hA : AllD A) (h0 : A ≠ []) (hT : ∀ b, T[0]? = some b → isDigit b = false ∧ b ≠ 46) : numberN (A ++ T) = A.length + powerN T := by
  have hr : runOf isDigit (A ++ T) = A.length := by
    match T with
    | [] => rw [List.append_nil]; exact run_all A hA
    | b :: r => exact run_stop A b r hA (hT b rfl).1
  have hm : mantN (A ++ T) = A.length := by
    unfold mantN
    rw [hr, if_neg, ]
    rw [List.getElem?_append_right (Nat.le_refl _), Nat.sub_self]
    intro h; exact (hT 46 h).2 rfl
  have h1 : A.length ≠ 0 := fun h => h0 (List.length_eq_zero_iff.1 h)
  unfold numberN
  rw [hm, if_neg h1, List.drop_left]
/-- a whole number and its broken part ahead of what is no digit -/
theorem num_dot (A B T : List UInt8) (hA : AllD A) (h0 : A ≠ []) (hB : AllD B) (hT : ∀ b, T[0]? = some b → isDigit b = false) : numberN (A ++ 46 :: (B ++ T)) = A.length + 1 + B.length + powerN T := by
  have hr : runOf isDigit (A ++ 46 :: (B ++ T)) = A.length := run_stop A 46 _ hA (by decide)
  have hb : runOf isDigit (B ++ T) = B.length := by
    match T with
    | [] => rw [List.append_nil]; exact run_all B hB
    | b :: r => exact run_stop B b r hB (hT b rfl)
  have hd : (A ++ 46 :: (B ++ T)).drop (A.length + 1) = B ++ T := by
    rw [← List.drop_drop, List.drop_left]; rfl
  have h1 : A.length ≠ 0 := fun h => h0 (List.length_eq_zero_iff.1 h)
  have hm : mantN (A ++ 46 :: (B ++ T)) = A.length + (1 + B.length) := by
    unfold mantN
    rw [hr, if_pos (by rw [List.getElem?_append_right (Nat.le_refl _), Nat.sub_self]; rfl), hd, hb, if_neg (by omega)]
  have hd2 : (A ++ 46 :: (B ++ T)).drop (A.length + (1 + B.length)) = T := by
    rw [← Nat.add_assoc, ← List.drop_drop, hd, List.drop_left]
  unfold numberN
  rw [hm, if_neg (by omega), hd2]; omega
theorem pow_plain (P T : List UInt8) (hP : AllD P) (h0 : P ≠ []) (hT : ∀ b, T[0]? = some b → isDigit b = false) : powerN (101 :: (P ++ T)) = 1 + P.length := by
  match P with
  | [] => exact absurd rfl h0
  | p :: q =>
    have hp : isDigit p = true := hP p List.mem_cons_self
    have hs : signOff (p :: q ++ T) = p :: q ++ T := by
      show (if p == 43 || p == 45 then q ++ T else p :: (q ++ T)) = _
      rw [if_neg]; · rfl
      intro h
      rcases Bool.or_eq_true _ _ ▸ h with h | h
      · rw [eq_of_beq h] at hp; exact absurd hp (by decide)
      · rw [eq_of_beq h] at hp; exact absurd hp (by decide)
    have hr : runOf isDigit (p :: q ++ T) = (p :: q).length := by
      match T with
      | [] => rw [List.append_nil]; exact run_all _ hP
      | b :: r => exact run_stop _ b r hP (hT b rfl)
    show (if (101 : UInt8) == 101 || (101 : UInt8) == 69 then (if runOf isDigit (signOff (p :: q ++ T)) = 0 then 0 else (101 :: (p :: q ++ T)).length - (signOff (p :: q ++ T)).length + runOf isDigit (signOff (p :: q ++ T))) else 0) = _
    rw [if_pos (by decide), hs, hr, if_neg (by simp)]
    simp only [List.length_cons, List.length_append]; omega
theorem pow_minus (P T : List UInt8) (hP : AllD P) (h0 : P ≠ []) (hT : ∀ b, T[0]? = some b → isDigit b = false) : powerN (101 :: 45 :: (P ++ T)) = 2 + P.length := by
  have hr : runOf isDigit (P ++ T) = P.length := by
    match T with
    | [] => rw [List.append_nil]; exact run_all _ hP
    | b :: r => exact run_stop _ b r hP (hT b rfl)
  have h1 : P.length ≠ 0 := fun h => h0 (List.length_eq_zero_iff.1 h)
  show (if (101 : UInt8) == 101 || (101 : UInt8) == 69 then (if runOf isDigit (signOff (45 :: (P ++ T))) = 0 then 0 else (101 :: 45 :: (P ++ T)).length - (signOff (45 :: (P ++ T))).length + runOf isDigit (signOff (45 :: (P ++ T)))) else 0) = _
  rw [if_pos (by decide), show signOff (45 :: (P ++ T)) = P ++ T from rfl, hr, if_neg h1]
  simp only [List.length_cons, List.length_append]; omega

theorem digit_nat (B : UInt8) : isDigit B = decide (48 ≤ B.toNat ∧ B.toNat ≤ 57) :=
  beq_iff_eq.1 (u8_all (p := fun B => isDigit B == decide (48 ≤ B.toNat ∧ B.toNat ≤ 57)) (by decide +kernel) B)
theorem byte_of (x : Int) (h0 : 48 ≤ x) (h1 : x ≤ 57) : ∃ d : UInt8, x = (d.toNat : Int) ∧ isDigit d = true :=
  ⟨UInt8.ofNat x.toNat, by rw [UInt8.toNat_ofNat_of_lt' (by show x.toNat < 256; omega)]; omega, by
    rw [digit_nat, UInt8.toNat_ofNat_of_lt' (by show x.toNat < 256; omega)]; rw [decide_eq_true_iff]; omega⟩
theorem allD_cons {d : UInt8} {l : List UInt8} (hd : isDigit d = true) (h : AllD l) : AllD (d :: l) := fun b hb => by
  rcases List.mem_cons.1 hb with rfl | hb
  · exact hd
  · exact h b hb
end Go.Proofs.YtiinhkfbgecbjaaGreatDoor
