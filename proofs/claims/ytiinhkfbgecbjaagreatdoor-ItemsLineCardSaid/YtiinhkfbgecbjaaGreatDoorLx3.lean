/- Where a quote or a slash stands first: strings.IndexAny at these two signs, over bytes of every kind; and a string's piece. No condition but on a text's length. -/
import Derived.Test.YtiinhkfbgecbjaaGreatDoorLx2
import Derived.Laws.RangeAny
import Derived.Lib.IndexAny
namespace Go.Proofs.YtiinhkfbgecbjaaGreatDoor
set_option linter.unusedSimpArgs false
set_option linter.unusedVariables false
open Go.RowKit Go.Sub

def isQS (b : UInt8) : Bool := b == 34 || b == 92
def qsChars : List UInt8 := [34, 92]
theorem qs_contains (b : UInt8) : qsChars.contains b = isQS b :=
  beq_iff_eq.1 (u8_all (p := fun b => qsChars.contains b == isQS b) (by decide +kernel) b)
/-- how many bytes of a string's piece stand at the front -/
def pieceN (l : List UInt8) : Nat := match l with
  | [] => 0
  | b :: r => if b == 34 then 0 else if b == 92 then (if _h : escN (b :: r) = 0 then 0 else escN (b :: r) + pieceN ((b :: r).drop (escN (b :: r)))) else 1 + pieceN r
termination_by l.length
decreasing_by
  · simp only [List.length_drop, List.length_cons]; omega
  · simp only [List.length_cons]; omega
theorem piece_nil : pieceN [] = 0 := by rw [pieceN]
theorem piece_plain (b : UInt8) (r : List UInt8) (h : isQS b = false) : pieceN (b :: r) = 1 + pieceN r := by
  unfold isQS at h
  rw [Bool.or_eq_false_iff] at h
  rw [pieceN, if_neg (by rw [h.1]; simp), if_neg (by rw [h.2]; simp)]
theorem piece_esc (l : List UInt8) (h : escN l ≠ 0) : pieceN l = escN l + pieceN (l.drop (escN l)) := by
  match l, h with
  | [], h => exact absurd rfl h
  | b :: r, h =>
    have hb : b = 92 := Classical.byContradiction fun hb => h (by
      match r with
      | [] => rfl
      | c :: t =>
        show (if b == 92 then _ else 0) = 0
        rw [if_neg (by simpa using hb)])
    subst hb
    rw [pieceN, if_neg (by decide), if_pos (by decide), dif_neg h]
theorem piece_stop (b : UInt8) (r : List UInt8) (hb : isQS b = true) (h : escN (b :: r) = 0) : pieceN (b :: r) = 0 := by
  rw [pieceN]
  unfold isQS at hb
  rcases Bool.or_eq_true _ _ ▸ hb with h1 | h1
  · rw [if_pos h1]
  · by_cases h34 : (b == 34) = true
    · rw [if_pos h34]
    · rw [if_neg h34, if_pos h1, dif_pos h]
/-- a piece goes on up to the first of the two signs -/
theorem piece_to : ∀ (l : List UInt8), (Lib.indexAny l qsChars = -1 → pieceN l = l.length) ∧ ∀ k : Nat, Lib.indexAny l qsChars = k → k < l.length ∧ pieceN l = k + pieceN (l.drop k) ∧ ∃ b r, l.drop k = b :: r ∧ isQS b = true
  | [] => ⟨fun _ => piece_nil, fun k h => by simp [Lib.indexAny] at h⟩
  | b :: r => by
    obtain ⟨i1, i2⟩ := piece_to r
    have hge := Lib.indexAny_ge qsChars r
    have e : Lib.indexAny (b :: r) qsChars = if isQS b then 0 else if Lib.indexAny r qsChars == -1 then -1 else Lib.indexAny r qsChars + 1 := by
      rw [← qs_contains]; rfl
    cases hb : isQS b
    · rw [hb, if_neg (by simp)] at e
      constructor
      · intro h
        have : Lib.indexAny r qsChars = -1 := by
          rw [e] at h
          split at h
          · rename_i h1; exact eq_of_beq h1
          · omega
        rw [piece_plain b r hb, i1 this, List.length_cons]; omega
      · intro k h
        rw [e] at h
        split at h
        · omega
        · obtain ⟨j, hj⟩ : ∃ j : Nat, Lib.indexAny r qsChars = j := ⟨(Lib.indexAny r qsChars).toNat, by rename_i h1; have : Lib.indexAny r qsChars ≠ -1 := fun e => h1 (by rw [e]; rfl); omega⟩
          obtain ⟨a1, a2, a3⟩ := i2 j hj
          have hk : k = j + 1 := by omega
          subst hk
          exact ⟨by simp only [List.length_cons]; omega, by rw [piece_plain b r hb, a2, List.drop_succ_cons]; omega, by rw [List.drop_succ_cons]; exact a3⟩
    · rw [hb, if_pos rfl] at e
      constructor
      · intro h; omega
      · intro k h
        have hk : k = 0 := by omega
        subst hk
        exact ⟨by simp, by simp, b, r, rfl, hb⟩
theorem pieceN_le : ∀ k (l : List UInt8), l.length ≤ k → pieceN l ≤ l.length := by
  intro k
  induction k with
  | zero => intro l h; obtain rfl := List.length_eq_zero_iff.1 (show l.length = 0 by omega); rw [piece_nil]; omega
  | succ k ih =>
    intro l h
    match l, h with
    | [], _ => rw [piece_nil]; omega
    | b :: r, h =>
      rw [List.length_cons] at h
      cases hb : isQS b
      · rw [piece_plain b r hb]; have := ih r (by omega); simp only [List.length_cons]; omega
      · by_cases he : escN (b :: r) = 0
        · rw [piece_stop b r hb he]; omega
        · rw [piece_esc _ he]
          have h1 := escN_le (b :: r)
          have := ih ((b :: r).drop (escN (b :: r))) (by rw [List.length_drop, List.length_cons]; omega)
          rw [List.length_drop] at this; omega

/- where a rune's bytes lie -/
def Far (s : ByteArray) (pos w : Nat) : Prop := pos + w ≤ s.size ∧ ∀ j, pos ≤ j → j < pos + w → ∀ hj : j < s.size, 128 ≤ s[j].toNat
theorem far_cont {s : ByteArray} {pos k : Nat} (hf : Far s pos k) (h : (decide (pos + k < s.size) && (s.get! (pos + k)).toNat / 64 == 2) = true) : Far s pos (k + 1) := by
  rw [Bool.and_eq_true, decide_eq_true_eq, beq_iff_eq] at h
  obtain ⟨h1, h2⟩ := h
  have e := Go.get_at s (pos + k) h1
  rw [Nat.add_zero] at e
  rw [e] at h2
  refine ⟨by omega, fun j a b hj => ?_⟩
  by_cases hk : j = pos + k
  · subst hk; omega
  · exact hf.2 j a (by omega) hj
theorem decode_far (s : ByteArray) (pos : Nat) (h : pos < s.size) (hb : 128 ≤ s[pos].toNat) : Far s pos (Utf8.decode s pos).2 := by
  have f1 : Far s pos 1 := ⟨by omega, fun j a b hj => by
    have e : j = pos := by omega
    subst e
    exact hb⟩
  have hn : ¬ (s.get! (pos + 0)).toNat < 128 := by rw [Go.get_at s pos h]; omega
  unfold Utf8.decode
  dsimp only
  rw [if_neg hn]
  split
  · rename_i h2
    rw [Bool.and_eq_true] at h2
    split
    · exact far_cont f1 h2.2
    · exact f1
  · split
    · rename_i h2
      rw [Bool.and_eq_true, Bool.and_eq_true] at h2
      split
      · exact far_cont (far_cont f1 h2.1.2) h2.2
      · exact f1
    · split
      · rename_i h2
        rw [Bool.and_eq_true, Bool.and_eq_true, Bool.and_eq_true] at h2
        split
        · exact far_cont (far_cont (far_cont f1 h2.1.1.2) h2.1.2) h2.2
        · exact f1
      · exact f1
/-- none of the two signs stands among the first bytes -/
def NoQS (s : ByteArray) (pos : Nat) : Prop := ∀ j, j < pos → ∀ hj : j < s.size, isQS s[j] = false
theorem noQS_far {s : ByteArray} {pos w : Nat} (h : NoQS s pos) (hf : Far s pos w) : NoQS s (pos + w) := by
  intro j hj hs
  by_cases hp : j < pos
  · exact h j hp hs
  · have := hf.2 j (by omega) hj hs
    unfold isQS
    cases h1 : s[j] == 34
    · cases h2 : s[j] == 92
      · rfl
      · rw [eq_of_beq h2] at this; exact absurd this (by decide)
    · rw [eq_of_beq h1] at this; exact absurd this (by decide)
theorem noAny_of {s : ByteArray} {pos : Nat} (h : NoQS s pos) (_hp : pos ≤ s.size) : Lib.NoAny s.data.toList qsChars pos := by
  intro j b hj hb
  obtain ⟨hl, rfl⟩ := List.getElem?_eq_some_iff.1 hb
  rw [qs_contains]
  exact h j hj (by rw [Lib.size_eq]; exact hl)
end Go.Proofs.YtiinhkfbgecbjaaGreatDoor
