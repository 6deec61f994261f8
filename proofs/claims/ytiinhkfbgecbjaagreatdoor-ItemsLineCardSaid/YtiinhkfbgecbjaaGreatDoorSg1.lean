/- The classes of bytes, as the program has them. No condition. -/
import Derived.WalkKit
import Derived.WalkSpells
import Derived.WalkLawsBesides
import Derived.Lib.Hide
import Derived.Lib.Strings
import Derived.Test.YtiinhkfbgecbjaaGreatDoorProg
namespace Go.Proofs.YtiinhkfbgecbjaaGreatDoor
set_option linter.unusedSimpArgs false
set_option linter.unusedVariables false
open Go.RowKit

def isLetter (b : UInt8) : Bool := (97 ≤ b && b ≤ 122) || (65 ≤ b && b ≤ 90) || b == 95
def isDigit (b : UInt8) : Bool := 48 ≤ b && b ≤ 57
def isBlank (b : UInt8) : Bool := b == 32 || b == 9 || b == 10 || b == 13
def isPart (b : UInt8) : Bool := isLetter b || isDigit b
def isHex (b : UInt8) : Bool := isDigit b || (97 ≤ b && b ≤ 102) || (65 ≤ b && b ≤ 70)

theorem u8_all {p : UInt8 → Bool} (h : (List.range 256).all (fun n => p (UInt8.ofNat n)) = true) (b : UInt8) : p b = true := by
  have := List.all_eq_true.1 h b.toNat (List.mem_range.2 b.toNat_lt)
  rwa [UInt8.ofNat_toNat] at this
theorem letter_spec (b : UInt8) : isLetter b = ((b.toNat : Int) == 95 || (decide (97 ≤ bits .or .u8 (b.toNat : Int) 32) && decide (bits .or .u8 (b.toNat : Int) 32 ≤ 122))) :=
  beq_iff_eq.1 (u8_all (p := fun b => isLetter b == ((b.toNat : Int) == 95 || (decide (97 ≤ bits .or .u8 (b.toNat : Int) 32) && decide (bits .or .u8 (b.toNat : Int) 32 ≤ 122)))) (by decide +kernel) b)
theorem hex_spec (b : UInt8) : isHex b = (isDigit b || (decide (97 ≤ bits .or .u8 (b.toNat : Int) 32) && decide (bits .or .u8 (b.toNat : Int) 32 ≤ 102))) :=
  beq_iff_eq.1 (u8_all (p := fun b => isHex b == (isDigit b || (decide (97 ≤ bits .or .u8 (b.toNat : Int) 32) && decide (bits .or .u8 (b.toNat : Int) 32 ≤ 102)))) (by decide +kernel) b)
theorem digit_spec (b : UInt8) : isDigit b = decide (((b.toNat : Int) - 48) % 256 < 10) :=
  beq_iff_eq.1 (u8_all (p := fun b => isDigit b == decide (((b.toNat : Int) - 48) % 256 < 10)) (by decide +kernel) b)

set_option maxHeartbeats 400000 in
theorem letter_calls (b : UInt8) (w : World) :
    Calls Tryz.prog 81 #[.int .u8 b.toNat] w fun e w' => e = .returned (.bool (isLetter b)) ∧ w' = w := by
  have Hs := Lib.hid (letter_spec b)
  go_enter Tryz.func81, Tryz.ntmps81
  go_wp2
  all_goals
    go_ret
    refine ⟨?_, rfl⟩
    rw [Hs.out]
    simp [*]
  omega
set_option maxHeartbeats 400000 in
theorem digit_calls (b : UInt8) (w : World) :
    Calls Tryz.prog 99 #[.int .u8 b.toNat] w fun e w' => e = .returned (.bool (isDigit b)) ∧ w' = w := by
  have Hs := Lib.hid (digit_spec b)
  go_enter Tryz.func99, Tryz.ntmps99
  go_wp2
  go_ret
  exact ⟨by rw [Hs.out]; rfl, rfl⟩
set_option maxHeartbeats 400000 in
theorem part_calls (b : UInt8) (w : World) :
    Calls Tryz.prog 113 #[.int .u8 b.toNat] w fun e w' => e = .returned (.bool (isPart b)) ∧ w' = w := by
  cases hl : isLetter b
  all_goals
    have Hl := Lib.hid hl
    clear hl
    go_enter Tryz.func113, Tryz.ntmps113
    go_wp2_with (first | (go_at_call 81; refine (letter_calls b _).mono ?_; rw [Hl.out]; rintro e w' ⟨rfl, rfl⟩) | (go_at_call 99; refine (digit_calls b _).mono ?_; rintro e w' ⟨rfl, rfl⟩))
    go_ret
    exact ⟨by unfold isPart; rw [Hl.out]; rfl, rfl⟩
set_option maxHeartbeats 400000 in
theorem hex_calls (b : UInt8) (w : World) :
    Calls Tryz.prog 119 #[.int .u8 b.toNat] w fun e w' => e = .returned (.bool (isHex b)) ∧ w' = w := by
  have Hs := Lib.hid (hex_spec b)
  cases hd : isDigit b
  all_goals
    have Hd := Lib.hid hd
    clear hd
    go_enter Tryz.func119, Tryz.ntmps119
    go_wp2_with (go_at_call 99; refine (digit_calls b _).mono ?_; rw [Hd.out]; rintro e w' ⟨rfl, rfl⟩)
    all_goals
      go_ret
      refine ⟨?_, rfl⟩
      rw [Hs.out, Hd.out]
      simp [*]
  omega
end Go.Proofs.YtiinhkfbgecbjaaGreatDoor
