/- What is told stays when the text is cut there, and when a blank follows. No condition. -/
import Derived.Test.YtiinhkfbgecbjaaGreatDoorL6
import Derived.Test.YtiinhkfbgecbjaaGreatDoorL1
namespace Go.Proofs.YtiinhkfbgecbjaaGreatDoor
set_option linter.unusedSimpArgs false
set_option linter.unusedVariables false
open Go.RowKit Go.Sub

/-- nothing follows, or a blank -/
def Behind (T : List UInt8) : Prop := ∀ b, T[0]? = some b → b = 32
theorem behind_nil : Behind [] := fun b h => by simp at h
theorem behind_blank (r : List UInt8) : Behind (32 :: r) := fun b h => by simp at h; exact h.symm
def HeadNot (p : UInt8 → Bool) (T : List UInt8) : Prop := ∀ b, T[0]? = some b → p b = false
theorem head_cut {p : UInt8 → Bool} {U T : List UInt8} (k : Nat) (hU : HeadNot p U) (hT : Behind T) (hp : p 32 = false) : HeadNot p (U.take k ++ T) := by
  intro b hb
  match k, U with
  | 0, _ => rw [List.take_zero, List.nil_append] at hb; rw [hT b hb]; exact hp
  | k + 1, [] => rw [List.take_nil, List.nil_append] at hb; rw [hT b hb]; exact hp
  | k + 1, u :: r => exact hU b (by simpa using hb)
theorem run_apps {p : UInt8 → Bool} {A : List UInt8} (R : List UInt8) (hA : ∀ b ∈ A, p b = true) : runOf p (A ++ R) = A.length + runOf p R := by
  induction A with
  | nil => simp
  | cons b t ih =>
    have h1 : p b = true := hA b List.mem_cons_self
    have h2 := ih (fun x hx => hA x (List.mem_cons_of_mem _ hx))
    unfold runOf at h2 ⊢
    rw [List.cons_append, List.takeWhile_cons, if_pos h1]
    simp only [List.length_cons]; omega
theorem run_head {p : UInt8 → Bool} {R : List UInt8} (h : HeadNot p R) : runOf p R = 0 := by
  match R with
  | [] => rfl
  | b :: r => unfold runOf; rw [List.takeWhile_cons, if_neg (by rw [h b rfl]; simp)]; rfl
theorem run_ends {p : UInt8 → Bool} {A R : List UInt8} (hA : ∀ b ∈ A, p b = true) (hR : HeadNot p R) : runOf p (A ++ R) = A.length := by
  rw [run_apps R hA, run_head hR]; rfl
theorem split_run (p : UInt8 → Bool) : ∀ l : List UInt8, ∃ A R, l = A ++ R ∧ (∀ b ∈ A, p b = true) ∧ HeadNot p R
  | [] => ⟨[], [], rfl, fun b h => by simp at h, fun b h => by simp at h⟩
  | b :: r => by
    cases h : p b
    · exact ⟨[], b :: r, rfl, fun x h => by simp at h, fun x hx => by simp at hx; rw [← hx]; exact h⟩
    · obtain ⟨A, R, rfl, hA, hR⟩ := split_run p r
      exact ⟨b :: A, R, rfl, fun x hx => by
        rcases List.mem_cons.1 hx with rfl | hx
        · exact h
        · exact hA x hx, hR⟩
theorem take_app {A R : List UInt8} (k : Nat) : (A ++ R).take (A.length + k) = A ++ R.take k := by
  rw [List.take_append, List.take_of_length_le (by omega)]; congr 2; omega

/- numbers -/
theorem power_behind {T : List UInt8} (hT : Behind T) : powerN T = 0 := by
  match T with
  | [] => rfl
  | b :: r =>
    have := hT b rfl
    subst this
    rfl
theorem num_behind {T : List UInt8} (hT : Behind T) : numberN T = 0 := by
  match T with
  | [] => rfl
  | b :: r =>
    have := hT b rfl
    subst this
    exact num_other 32 r (by decide) (by decide)
theorem sign_split (r : List UInt8) : ∃ g, r = g ++ signOff r ∧ (g = [] ∨ g = [43] ∨ g = [45]) := by
  match r with
  | [] => exact ⟨[], rfl, .inl rfl⟩
  | b :: t =>
    by_cases h : b = 43
    · subst h; exact ⟨[43], rfl, .inr (.inl rfl)⟩
    · by_cases h5 : b = 45
      · subst h5; exact ⟨[45], rfl, .inr (.inr rfl)⟩
      · refine ⟨[], ?_, .inl rfl⟩
        show _ = if b == 43 || b == 45 then t else b :: t
        rw [if_neg (by simp [h, h5])]
theorem sign_off {g P U : List UInt8} (hg : g = [] ∨ g = [43] ∨ g = [45]) (hP : ∀ b ∈ P, isDigit b = true) (h0 : P ≠ []) : signOff (g ++ (P ++ U)) = P ++ U := by
  rcases hg with rfl | rfl | rfl
  · match P with
    | [] => exact absurd rfl h0
    | p :: q =>
      have hp : isDigit p = true := hP p List.mem_cons_self
      show (if p == 43 || p == 45 then q ++ U else p :: (q ++ U)) = _
      rw [if_neg]; · rfl
      intro h
      rcases Bool.or_eq_true _ _ ▸ h with h | h
      · rw [eq_of_beq h] at hp; exact absurd hp (by decide)
      · rw [eq_of_beq h] at hp; exact absurd hp (by decide)
  · rfl
  · rfl
theorem pow_of {b : UInt8} {g P U : List UInt8} (hb : (b == 101 || b == 69) = true) (hg : g = [] ∨ g = [43] ∨ g = [45]) (hP : ∀ b ∈ P, isDigit b = true) (h0 : P ≠ []) (hU : HeadNot isDigit U) : powerN (b :: (g ++ (P ++ U))) = 1 + (g.length + P.length) := by
  have h1 : P.length ≠ 0 := fun h => h0 (List.length_eq_zero_iff.1 h)
  show (if b == 101 || b == 69 then (if runOf isDigit (signOff (g ++ (P ++ U))) = 0 then 0 else (b :: (g ++ (P ++ U))).length - (signOff (g ++ (P ++ U))).length + runOf isDigit (signOff (g ++ (P ++ U)))) else 0) = _
  rw [if_pos hb, sign_off hg hP h0, run_ends hP hU, if_neg h1]
  simp only [List.length_cons, List.length_append]; omega
theorem pow_cut (C T : List UInt8) (hT : Behind T) : powerN (C.take (powerN C) ++ T) = powerN C := by
  match C with
  | [] => rw [List.take_nil]; exact power_behind hT
  | b :: r =>
    cases hb : (b == 101 || b == 69)
    · have h0 : powerN (b :: r) = 0 := by
        show (if b == 101 || b == 69 then _ else 0) = 0
        rw [if_neg (by rw [hb]; simp)]
      rw [h0]; exact power_behind hT
    · obtain ⟨g, hg, hgs⟩ := sign_split r
      obtain ⟨P, U, hPU, hP, hU⟩ := split_run isDigit (signOff r)
      by_cases h0 : P = []
      · have h1 : powerN (b :: r) = 0 := by
          show (if b == 101 || b == 69 then (if runOf isDigit (signOff r) = 0 then 0 else _) else 0) = 0
          rw [if_pos hb, if_pos (by rw [hPU, h0]; exact run_head hU)]
        rw [h1]; exact power_behind hT
      · rw [hPU] at hg
        have e := pow_of hb hgs hP h0 hU
        rw [hg, e]
        have e2 : (b :: (g ++ (P ++ U))).take (1 + (g.length + P.length)) ++ T = b :: (g ++ (P ++ T)) := by
          rw [Nat.add_comm 1, List.take_succ_cons, take_app, show P.length = P.length + 0 from rfl, take_app]; simp
        rw [e2]
        exact pow_of hb hgs hP h0 (fun x hx => by rw [hT x hx]; rfl)
theorem num_dots {A B C : List UInt8} (hA : ∀ b ∈ A, isDigit b = true) (hB : ∀ b ∈ B, isDigit b = true) (h0 : A.length + B.length ≠ 0) (hC : HeadNot isDigit C) : numberN (A ++ 46 :: (B ++ C)) = A.length + (1 + (B.length + powerN C)) := by
  have hr : runOf isDigit (A ++ 46 :: (B ++ C)) = A.length := run_ends hA (fun b h => by simp at h; subst h; rfl)
  have hd : (A ++ 46 :: (B ++ C)).drop (A.length + 1) = B ++ C := by
    rw [← List.drop_drop, List.drop_left]; rfl
  have hm : mantN (A ++ 46 :: (B ++ C)) = A.length + (1 + B.length) := by
    unfold mantN
    rw [hr, if_pos (by rw [List.getElem?_append_right (Nat.le_refl _), Nat.sub_self]; rfl), hd, run_ends hB hC, if_neg h0]
  have hd2 : (A ++ 46 :: (B ++ C)).drop (A.length + (1 + B.length)) = C := by
    rw [← Nat.add_assoc, ← List.drop_drop, hd, List.drop_left]
  unfold numberN
  rw [hm, if_neg (by omega), hd2]; omega
theorem num_cut (s T : List UInt8) (hT : Behind T) : numberN (s.take (numberN s) ++ T) = numberN s := by
  obtain ⟨A, R, rfl, hA, hR⟩ := split_run isDigit s
  by_cases h46 : R[0]? = some 46
  · obtain ⟨R', rfl⟩ : ∃ R', R = 46 :: R' := by
      match R with
      | [] => simp at h46
      | b :: r => simp at h46; exact ⟨r, by rw [h46]⟩
    obtain ⟨B, C, rfl, hB, hC⟩ := split_run isDigit R'
    by_cases h0 : A.length + B.length = 0
    · obtain rfl := List.length_eq_zero_iff.1 (show A.length = 0 by omega)
      obtain rfl := List.length_eq_zero_iff.1 (show B.length = 0 by omega)
      have h1 : numberN ([] ++ 46 :: ([] ++ C)) = 0 := by
        have hr : runOf isDigit (46 :: C) = 0 := run_head (fun b h => by simp at h; subst h; rfl)
        have hm : mantN (46 :: C) = 0 := by
          unfold mantN
          rw [hr, if_pos (show (46 :: C)[0]? = some 46 from rfl), if_pos]
          rw [show (46 :: C).drop (0 + 1) = C from rfl, run_head hC]
        show numberN (46 :: C) = 0
        unfold numberN; rw [if_pos hm]
      rw [h1]; exact num_behind hT
    · rw [num_dots hA hB h0 hC]
      have e2 : (A ++ 46 :: (B ++ C)).take (A.length + (1 + (B.length + powerN C))) ++ T = A ++ 46 :: (B ++ (C.take (powerN C) ++ T)) := by
        rw [take_app, Nat.add_comm 1, List.take_succ_cons, take_app]; simp
      rw [e2, num_dots hA hB h0 (head_cut _ hC hT rfl), pow_cut C T hT]
  · by_cases h0 : A = []
    · subst h0
      have h1 : numberN ([] ++ R) = 0 := by
        have hm : mantN R = 0 := by unfold mantN; rw [run_head hR, if_neg h46]
        show numberN R = 0
        unfold numberN; rw [if_pos hm]
      rw [h1]; exact num_behind hT
    · have hR2 : ∀ b, R[0]? = some b → isDigit b = false ∧ b ≠ 46 := fun b h => ⟨hR b h, fun e => h46 (e ▸ h)⟩
      rw [num_whole A R hA h0 hR2, take_app, List.append_assoc, num_whole A _ hA h0, pow_cut R T hT]
      intro b hb
      refine ⟨head_cut _ hR hT rfl b hb, ?_⟩
      have h2 : (fun x : UInt8 => x == 46) b = false := head_cut (p := fun x => x == 46) _ (fun x hx => by simpa using (hR2 x hx).2) hT rfl b hb
      simpa using h2
/- words -/
theorem simple_behind {T : List UInt8} (hT : Behind T) : simpleN T = 0 := by
  match T with
  | [] => rfl
  | b :: r =>
    have := hT b rfl
    subst this
    rfl
theorem simple_of {A R : List UInt8} (hA : ∀ b ∈ A, isPart b = true) (hR : HeadNot isPart R) (hl : ∀ b, A[0]? = some b → isLetter b = true) : simpleN (A ++ R) = A.length := by
  match A with
  | [] =>
    match R with
    | [] => rfl
    | b :: r =>
      show (if isLetter b then _ else 0) = 0
      have h := hR b rfl
      rw [if_neg]
      intro h2
      unfold isPart at h; rw [h2] at h; simp at h
  | a :: A =>
    show (if isLetter a then runOf isPart (a :: A ++ R) else 0) = _
    rw [if_pos (hl a rfl), run_ends hA hR]
/-- how a text begins with a simple name -/
theorem simple_split (l : List UInt8) : simpleN l = 0 ∨ ∃ A R, l = A ++ R ∧ A ≠ [] ∧ (∀ b ∈ A, isPart b = true) ∧ HeadNot isPart R ∧ (∀ b, A[0]? = some b → isLetter b = true) := by
  match l with
  | [] => exact .inl rfl
  | a :: r =>
    cases ha : isLetter a
    · refine .inl ?_
      show (if isLetter a then _ else 0) = 0
      rw [if_neg (by rw [ha]; simp)]
    · obtain ⟨A, R, rfl, hA, hR⟩ := split_run isPart r
      refine .inr ⟨a :: A, R, rfl, by simp, fun x hx => ?_, hR, fun b hb => by simp at hb; rw [← hb]; exact ha⟩
      rcases List.mem_cons.1 hx with rfl | hx
      · unfold isPart; rw [ha]; rfl
      · exact hA x hx
theorem more_behind {T : List UInt8} (hT : Behind T) : moreN T = 0 := by
  refine moreN_miss T ?_
  match T with
  | [] => rfl
  | b :: r =>
    have := hT b rfl
    subst this
    rfl
theorem more_of {A X : List UInt8} (hA : ∀ b ∈ A, isPart b = true) (h0 : A ≠ []) (hX : HeadNot isPart X) (hl : ∀ b, A[0]? = some b → isLetter b = true) : moreN (58 :: 58 :: (A ++ X)) = 2 + A.length + moreN X := by
  have hs := simple_of hA hX hl
  rw [moreN_hit (58 :: 58 :: (A ++ X)) A.length (by simp [Lib.hasPrefix, List.isPrefixOf]) hs (fun h => h0 (List.length_eq_zero_iff.1 h))]
  congr 2
  show (58 :: 58 :: (A ++ X)).drop (2 + A.length) = X
  rw [← List.drop_drop]
  exact List.drop_left
theorem more_cut (T : List UInt8) (hT : Behind T) : ∀ k (l : List UInt8), l.length ≤ k → moreN (l.take (moreN l) ++ T) = moreN l := by
  intro k
  induction k with
  | zero =>
    intro l h
    obtain rfl := List.length_eq_zero_iff.1 (show l.length = 0 by omega)
    rw [List.take_nil, List.nil_append, more_behind hT, more_behind behind_nil]
  | succ k ih =>
    intro l hk
    cases hp : Lib.hasPrefix l [58, 58]
    · rw [moreN_miss l hp]; exact more_behind hT
    · obtain ⟨r, rfl⟩ : ∃ r, l = 58 :: 58 :: r := by
        unfold Lib.hasPrefix at hp
        obtain ⟨r, hr⟩ := List.isPrefixOf_iff_prefix.1 hp
        exact ⟨r, hr.symm⟩
      rcases simple_split r with h0 | ⟨A, R, rfl, h0, hA, hR, hl⟩
      · rw [moreN_none _ hp h0]; exact more_behind hT
      · rw [more_of hA h0 hR hl]
        have e2 : (58 :: 58 :: (A ++ R)).take (2 + A.length + moreN R) ++ T = 58 :: 58 :: (A ++ (R.take (moreN R) ++ T)) := by
          rw [show 2 + A.length + moreN R = (A.length + moreN R) + 1 + 1 by omega, List.take_succ_cons, List.take_succ_cons, take_app]; simp
        rw [e2, more_of hA h0 (head_cut _ hR hT (by decide)) hl, ih R (by simp only [List.length_cons, List.length_append] at hk; omega)]
theorem word_cut (s T : List UInt8) (hT : Behind T) : wordN (s.take (wordN s) ++ T) = wordN s := by
  rcases simple_split s with h0 | ⟨A, R, rfl, h0, hA, hR, hl⟩
  · have h1 : wordN s = 0 := by unfold wordN; rw [if_pos h0]
    rw [h1]
    show wordN T = 0
    unfold wordN; rw [if_pos (simple_behind hT)]
  · have key : ∀ X, HeadNot isPart X → wordN (A ++ X) = A.length + moreN X := fun X hX => by
      have hs := simple_of hA hX hl
      unfold wordN
      rw [hs, if_neg (fun h => h0 (List.length_eq_zero_iff.1 h)), List.drop_left]
    rw [key R hR, take_app, List.append_assoc, key _ (head_cut _ hR hT (by decide)), more_cut T hT _ R (Nat.le_refl _)]
/- escapes, operators -/
theorem esc_cut (s : List UInt8) : escN (s.take (escN s)) = escN s := by
  match s with
  | [] => rfl
  | [a] => rfl
  | a :: c :: r =>
    have e : ∀ r, escN (a :: c :: r) = if a == 92 then (if escPlain c then 2 else if c == 117 && runOf isHex (r.take 4) == 4 then 6 else 0) else 0 := fun _ => rfl
    cases ha : a == 92
    · rw [e, if_neg (by rw [ha]; simp)]; rfl
    · cases hc : escPlain c
      · cases hu : (c == 117 && runOf isHex (r.take 4) == 4)
        · rw [e, if_pos ha, if_neg (by rw [hc]; simp), if_neg (by rw [hu]; simp)]; rfl
        · rw [e r, if_pos ha, if_neg (by rw [hc]; simp), if_pos hu]
          show escN (a :: c :: r.take 4) = 6
          rw [e, if_pos ha, if_neg (by rw [hc]; simp), List.take_take, Nat.min_self, if_pos hu]
      · rw [e r, if_pos ha, if_pos hc]
        show escN (a :: c :: []) = 2
        rw [e, if_pos ha, if_pos hc]
theorem oper_split (s : List UInt8) : operN s = 0 ∨ ∃ x ∈ opsL, operN s = x.length ∧ s.take x.length = x ∧ x.length ≤ s.length := by
  unfold operN
  cases h : opsL.find? fun o => Lib.hasPrefix s o with
  | none => exact .inl rfl
  | some x =>
    have h1 := List.find?_some h
    have h2 := List.mem_of_find?_eq_some h
    unfold Lib.hasPrefix at h1
    obtain ⟨r, hr⟩ := List.isPrefixOf_iff_prefix.1 h1
    refine .inr ⟨x, h2, rfl, ?_, ?_⟩
    · rw [← hr, List.take_left]
    · rw [← hr, List.length_append]; omega
theorem oper_cut (s : List UInt8) : operN (s.take (operN s)) = operN s := by
  rcases oper_split s with h | ⟨x, hx, h, ht, _⟩
  · rw [h]; rfl
  · rw [h, ht]; exact (op_facts x hx).2.2.1
theorem oper_le (s : List UInt8) : operN s ≤ s.length := by
  rcases oper_split s with h | ⟨x, hx, h, ht, hl⟩ <;> omega
end Go.Proofs.YtiinhkfbgecbjaaGreatDoor
