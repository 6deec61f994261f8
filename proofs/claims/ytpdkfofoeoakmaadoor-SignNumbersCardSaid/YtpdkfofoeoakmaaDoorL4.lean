/- The law SignNumbers, walked. The table of blanks being laid. -/
import Derived.Test.YtpdkfofoeoakmaaDoorL3
namespace Go.Proofs.YtpdkfofoeoakmaaDoor
open Go.RowKit Go.Sub

/-- a text of digits, or of digits, a dot and digits: how many more a tail of two dots gives it -/
structure Mant (M : ByteArray) (x : Nat) : Prop where
  small : M.size ≤ 13
  whole : ∀ T : List UInt8, (∀ b, T[0]? = some b → isDigit b = false ∧ b ≠ 46) → numberN (M.data.toList ++ T) = M.size + powerN T
  two : numberN (M.data.toList ++ [46, 46]) = M.size + x
theorem ne_of_size {A : ByteArray} (h : 1 ≤ A.size) : A.data.toList ≠ [] := fun e => by rw [Lib.size_eq, e] at h; simp at h
theorem mantA (A : ByteArray) (hA : AllD A.data.toList) (h1 : 1 ≤ A.size) (h6 : A.size ≤ 6) : Mant A 1 where
  small := by omega
  whole := fun T hT => by rw [num_whole _ T hA (ne_of_size h1) hT, ← Lib.size_eq]
  two := by
    have := num_dot A.data.toList [] [46] hA (ne_of_size h1) (fun b h => by simp at h) (fun b h => by simp at h; subst h; decide)
    rw [show A.data.toList ++ [46, 46] = A.data.toList ++ 46 :: ([] ++ [46]) from rfl, this, ← Lib.size_eq]; rfl
theorem mantB (A B : ByteArray) (hA : AllD A.data.toList) (h1 : 1 ≤ A.size) (h6 : A.size ≤ 6) (hB : AllD B.data.toList) (g6 : B.size ≤ 6) : Mant (A ++ ⟨#[46]⟩ ++ B) 0 := by
  have e : (A ++ ⟨#[46]⟩ ++ B).data.toList = A.data.toList ++ 46 :: B.data.toList := by simp
  have es : (A ++ ⟨#[46]⟩ ++ B).size = A.data.toList.length + 1 + B.data.toList.length := by rw [ByteArray.size_append, ByteArray.size_append, ← Lib.size_eq, ← Lib.size_eq]; rfl
  refine ⟨by rw [es, ← Lib.size_eq, ← Lib.size_eq]; omega, fun T hT => ?_, ?_⟩
  · rw [e, es, List.append_assoc, List.cons_append, num_dot _ _ T hA (ne_of_size h1) hB (fun b h => (hT b h).1)]
  · rw [e, es, List.append_assoc, List.cons_append, num_dot _ _ [46, 46] hA (ne_of_size h1) hB (fun b h => by simp at h; subst h; decide)]; rfl
variable {M P : ByteArray} {x : Nat}
theorem num_calls (S : ByteArray) (n : Nat) (h : numberN S.data.toList = n) (hs : S.size ≤ 100) (w : World) : Calls Tryd.prog 18 #[.string S] w fun e w' => e = .returned (.int .i64 (n : Nat)) ∧ w' = w :=
  h ▸ number_calls S w (by omega)
theorem n1 (h : Mant M x) (w : World) : Calls Tryd.prog 18 #[.string M] w fun e w' => e = .returned (.int .i64 (M.size : Nat)) ∧ w' = w :=
  num_calls M _ (by have := h.whole [] (fun b h => by simp at h); rw [List.append_nil] at this; exact this) (by have := h.small; omega) w
theorem n2 (h : Mant M x) (w : World) : Calls Tryd.prog 18 #[.string (M ++ ⟨#[46, 46]⟩)] w fun e w' => e = .returned (.int .i64 (M.size + x : Nat)) ∧ w' = w :=
  num_calls _ _ (by rw [show (M ++ ⟨#[46, 46]⟩).data.toList = M.data.toList ++ [46, 46] by simp]; exact h.two) (by rw [ByteArray.size_append]; have := h.small; show M.size + 2 ≤ 100; omega) w
theorem n3 (h : Mant M x) (w : World) : Calls Tryd.prog 18 #[.string (M ++ ⟨#[101]⟩ ++ ⟨#[120]⟩)] w fun e w' => e = .returned (.int .i64 (M.size : Nat)) ∧ w' = w :=
  num_calls _ _ (by
    rw [show (M ++ ⟨#[101]⟩ ++ ⟨#[120]⟩).data.toList = M.data.toList ++ [101, 120] by simp, h.whole [101, 120] (fun b h => by simp at h; subst h; decide)]; rfl)
    (by rw [ByteArray.size_append, ByteArray.size_append]; have := h.small; show M.size + 1 + 1 ≤ 100; omega) w
theorem n4 (h : Mant M x) (w : World) : Calls Tryd.prog 18 #[.string (M ++ ⟨#[101]⟩ ++ ⟨#[45]⟩ ++ ⟨#[120]⟩)] w fun e w' => e = .returned (.int .i64 (M.size : Nat)) ∧ w' = w :=
  num_calls _ _ (by
    rw [show (M ++ ⟨#[101]⟩ ++ ⟨#[45]⟩ ++ ⟨#[120]⟩).data.toList = M.data.toList ++ [101, 45, 120] by simp, h.whole [101, 45, 120] (fun b h => by simp at h; subst h; decide)]; rfl)
    (by rw [ByteArray.size_append, ByteArray.size_append, ByteArray.size_append]; have := h.small; show M.size + 1 + 1 + 1 ≤ 100; omega) w
theorem n5 (h : Mant M x) (hP : AllD P.data.toList) (g1 : 1 ≤ P.size) (g6 : P.size ≤ 6) (w : World) : Calls Tryd.prog 18 #[.string (M ++ ⟨#[101]⟩ ++ P)] w fun e w' => e = .returned (.int .i64 ((M ++ ⟨#[101]⟩ ++ P).size : Nat)) ∧ w' = w :=
  num_calls _ _ (by
    have := pow_plain P.data.toList [] hP (ne_of_size g1) (fun b h => by simp at h)
    rw [List.append_nil] at this
    rw [show (M ++ ⟨#[101]⟩ ++ P).data.toList = M.data.toList ++ (101 :: P.data.toList) by simp, h.whole _ (fun b h => by simp at h; subst h; decide), this, ByteArray.size_append, ByteArray.size_append, ← Lib.size_eq]
    show _ = M.size + 1 + P.size; omega)
    (by rw [ByteArray.size_append, ByteArray.size_append]; have := h.small; show M.size + 1 + P.size ≤ 100; omega) w
theorem n6 (h : Mant M x) (hP : AllD P.data.toList) (g1 : 1 ≤ P.size) (g6 : P.size ≤ 6) (w : World) : Calls Tryd.prog 18 #[.string (M ++ ⟨#[101]⟩ ++ P ++ ⟨#[46, 46]⟩)] w fun e w' => e = .returned (.int .i64 ((M ++ ⟨#[101]⟩ ++ P).size : Nat)) ∧ w' = w :=
  num_calls _ _ (by
    have := pow_plain P.data.toList [46, 46] hP (ne_of_size g1) (fun b h => by simp at h; subst h; decide)
    rw [show (M ++ ⟨#[101]⟩ ++ P ++ ⟨#[46, 46]⟩).data.toList = M.data.toList ++ (101 :: (P.data.toList ++ [46, 46])) by simp, h.whole _ (fun b h => by simp at h; subst h; decide), this, ByteArray.size_append, ByteArray.size_append, ← Lib.size_eq]
    show _ = M.size + 1 + P.size; omega)
    (by rw [ByteArray.size_append, ByteArray.size_append, ByteArray.size_append]; have := h.small; show M.size + 1 + P.size + 2 ≤ 100; omega) w
theorem n7 (h : Mant M x) (hP : AllD P.data.toList) (g1 : 1 ≤ P.size) (g6 : P.size ≤ 6) (w : World) : Calls Tryd.prog 18 #[.string (M ++ ⟨#[101]⟩ ++ ⟨#[45]⟩ ++ P)] w fun e w' => e = .returned (.int .i64 ((M ++ ⟨#[101]⟩ ++ ⟨#[45]⟩ ++ P).size : Nat)) ∧ w' = w :=
  num_calls _ _ (by
    have := pow_minus P.data.toList [] hP (ne_of_size g1) (fun b h => by simp at h)
    rw [List.append_nil] at this
    rw [show (M ++ ⟨#[101]⟩ ++ ⟨#[45]⟩ ++ P).data.toList = M.data.toList ++ (101 :: 45 :: P.data.toList) by simp, h.whole _ (fun b h => by simp at h; subst h; decide), this, ByteArray.size_append, ByteArray.size_append, ByteArray.size_append, ← Lib.size_eq]
    show _ = M.size + 1 + 1 + P.size; omega)
    (by rw [ByteArray.size_append, ByteArray.size_append, ByteArray.size_append]; have := h.small; show M.size + 1 + 1 + P.size ≤ 100; omega) w
theorem n8 (h : Mant M x) (hP : AllD P.data.toList) (g1 : 1 ≤ P.size) (g6 : P.size ≤ 6) (w : World) : Calls Tryd.prog 18 #[.string (M ++ ⟨#[101]⟩ ++ ⟨#[45]⟩ ++ P ++ ⟨#[46, 46]⟩)] w fun e w' => e = .returned (.int .i64 ((M ++ ⟨#[101]⟩ ++ ⟨#[45]⟩ ++ P).size : Nat)) ∧ w' = w :=
  num_calls _ _ (by
    have := pow_minus P.data.toList [46, 46] hP (ne_of_size g1) (fun b h => by simp at h; subst h; decide)
    rw [show (M ++ ⟨#[101]⟩ ++ ⟨#[45]⟩ ++ P ++ ⟨#[46, 46]⟩).data.toList = M.data.toList ++ (101 :: 45 :: (P.data.toList ++ [46, 46])) by simp, h.whole _ (fun b h => by simp at h; subst h; decide), this, ByteArray.size_append, ByteArray.size_append, ByteArray.size_append, ← Lib.size_eq]
    show _ = M.size + 1 + 1 + P.size; omega)
    (by rw [ByteArray.size_append, ByteArray.size_append, ByteArray.size_append, ByteArray.size_append]; have := h.small; show M.size + 1 + 1 + P.size + 2 ≤ 100; omega) w
end Go.Proofs.YtpdkfofoeoakmaaDoor
