/- Facts on escapes. No condition. -/
import Derived.Test.YtiinhkfbgecbjaaGreatDoorSg7
import Derived.Lib.VarintBits
import Derived.WalkSmall
import Derived.Lib.EndianBits
namespace Go.Proofs.YtiinhkfbgecbjaaGreatDoor
set_option linter.unusedSimpArgs false
set_option linter.unusedVariables false
open Go.RowKit Go.Sub

theorem ext_one (D : ByteArray) (q : Nat) (h : q < D.size) : (D.extract q (q + 1)).data.toList = [D.data.toList.getD q 0] := by
  have hs := Lib.size_eq D
  rw [Lib.extract_data, Nat.add_sub_cancel_left, List.drop_eq_getElem_cons (by omega)]
  simp [List.getD_eq_getElem?_getD, List.getElem?_eq_getElem (show q < D.data.toList.length by omega)]
theorem esc_four (a b c d : UInt8) (r : List UInt8) : escN (92 :: 117 :: a :: b :: c :: d :: r) = if isHex a && (isHex b && (isHex c && isHex d)) then 6 else 0 := by
  show (if (92 : UInt8) == 92 then (if escPlain 117 then 2 else if (117 : UInt8) == 117 && runOf isHex [a, b, c, d] == 4 then 6 else 0) else 0) = _
  rw [if_pos (by decide), if_neg (by decide)]
  unfold runOf
  cases ha : isHex a <;> cases hb : isHex b <;> cases hc : isHex c <;> cases hd : isHex d <;> simp [ha, hb, hc, hd]
theorem esc_three (a b c : UInt8) : escN [92, 117, a, b, c] = 0 := by
  show (if (92 : UInt8) == 92 then (if escPlain 117 then 2 else if (117 : UInt8) == 117 && runOf isHex [a, b, c] == 4 then 6 else 0) else 0) = _
  have h := runOf_le isHex [a, b, c]
  simp only [List.length_cons, List.length_nil] at h
  rw [if_pos (by decide), if_neg (by decide), if_neg]
  rw [Bool.and_eq_true, beq_iff_eq, beq_iff_eq]
  omega
theorem hex_low (q : Nat) (h : q ≤ 15) : isHex (([48, 49, 50, 51, 52, 53, 54, 55, 56, 57, 97, 98, 99, 100, 101, 102] : List UInt8).getD q 0) = true := by
  have : ∀ q < 16, isHex (([48, 49, 50, 51, 52, 53, 54, 55, 56, 57, 97, 98, 99, 100, 101, 102] : List UInt8).getD q 0) = true := by decide +kernel
  exact this q (by omega)
theorem hex_up (q : Nat) (h : q ≤ 15) : isHex (([48, 49, 50, 51, 52, 53, 54, 55, 56, 57, 65, 66, 67, 68, 69, 70] : List UInt8).getD q 0) = true := by
  have : ∀ q < 16, isHex (([48, 49, 50, 51, 52, 53, 54, 55, 56, 57, 65, 66, 67, 68, 69, 70] : List UInt8).getD q 0) = true := by decide +kernel
  exact this q (by omega)
theorem hex_nat (B : UInt8) : isHex B = (decide (48 ≤ B.toNat ∧ B.toNat ≤ 57) || (decide (97 ≤ B.toNat ∧ B.toNat ≤ 102) || decide (65 ≤ B.toNat ∧ B.toNat ≤ 70))) :=
  beq_iff_eq.1 (u8_all (p := fun B => isHex B == (decide (48 ≤ B.toNat ∧ B.toNat ≤ 57) || (decide (97 ≤ B.toNat ∧ B.toNat ≤ 102) || decide (65 ≤ B.toNat ∧ B.toNat ≤ 70)))) (by decide +kernel) B)
/-- what the law asks of its text -/
structure EscText (S : ByteArray) : Prop where
  size : S.size = 6
  one : escN S.data.toList = 6
  two : escN (S ++ ⟨#[48]⟩).data.toList = 6
  three : escN (S.extract 0 5).data.toList = 0
  four : ∀ (i : Nat) (B : UInt8), 2 ≤ i → i ≤ 5 → escN (S.extract 0 i ++ ⟨#[B]⟩ ++ S.extract (i + 1) 6).data.toList = if isHex B then 6 else 0
theorem escText (S : ByteArray) (a b c d : UInt8) (hS : S.data.toList = [92, 117, a, b, c, d]) (ha : isHex a = true) (hb : isHex b = true) (hc : isHex c = true) (hd : isHex d = true) : EscText S where
  size := by rw [Lib.size_eq, hS]; rfl
  one := by rw [hS, esc_four]; simp [ha, hb, hc, hd]
  two := by
    have : (S ++ ⟨#[48]⟩).data.toList = [92, 117, a, b, c, d, 48] := by simp [hS]
    rw [this, esc_four]; simp [ha, hb, hc, hd]
  three := by rw [Lib.extract_data, hS]; exact esc_three a b c
  four := fun i B h2 h5 => by
    have e : (S.extract 0 i ++ ⟨#[B]⟩ ++ S.extract (i + 1) 6).data.toList = (S.data.toList.take i) ++ B :: ((S.data.toList.drop (i + 1)).take (6 - (i + 1))) := by
      have h1 := Lib.extract_data S 0 i
      have h2 := Lib.extract_data S (i + 1) 6
      simp only [ByteArray.data_append, Array.toList_append, h1, h2]
      simp
    rw [e, hS]
    have hi : i = 2 ∨ i = 3 ∨ i = 4 ∨ i = 5 := by omega
    rcases hi with rfl | rfl | rfl | rfl
    · show escN (92 :: 117 :: B :: b :: c :: d :: []) = _
      rw [esc_four]; simp [hb, hc, hd]
    · show escN (92 :: 117 :: a :: B :: c :: d :: []) = _
      rw [esc_four]; simp [ha, hc, hd]
    · show escN (92 :: 117 :: a :: b :: B :: d :: []) = _
      rw [esc_four]; simp [ha, hb, hd]
    · show escN (92 :: 117 :: a :: b :: c :: B :: []) = _
      rw [esc_four]; simp [ha, hb, hc]
end Go.Proofs.YtiinhkfbgecbjaaGreatDoor
