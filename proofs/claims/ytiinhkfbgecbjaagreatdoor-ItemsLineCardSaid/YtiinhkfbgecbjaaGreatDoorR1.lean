/- The document's own classes of bytes, names and digits, as the program reads them. No condition. -/
import Derived.Test.YtiinhkfbgecbjaaGreatDoorL6
import Derived.Outline
namespace Go.Proofs.YtiinhkfbgecbjaaGreatDoor
set_option linter.unusedSimpArgs false
set_option linter.unusedVariables false
open Go.RowKit Go.Sub

theorem letter_nat (B : UInt8) : isLetter B = (decide (97 ≤ B.toNat ∧ B.toNat ≤ 122) || (decide (65 ≤ B.toNat ∧ B.toNat ≤ 90) || decide (B.toNat = 95))) :=
  beq_iff_eq.1 (u8_all (p := fun B => isLetter B == (decide (97 ≤ B.toNat ∧ B.toNat ≤ 122) || (decide (65 ≤ B.toNat ∧ B.toNat ≤ 90) || decide (B.toNat = 95)))) (by decide +kernel) B)
theorem blank_nat (B : UInt8) : isBlank B = (decide (B.toNat = 32) || (decide (B.toNat = 9) || (decide (B.toNat = 10) || decide (B.toNat = 13)))) :=
  beq_iff_eq.1 (u8_all (p := fun B => isBlank B == (decide (B.toNat = 32) || (decide (B.toNat = 9) || (decide (B.toNat = 10) || decide (B.toNat = 13))))) (by decide +kernel) B)
theorem hexa_nat (B : UInt8) : isHex B = (decide (48 ≤ B.toNat ∧ B.toNat ≤ 57) || (decide (97 ≤ B.toNat ∧ B.toNat ≤ 102) || decide (65 ≤ B.toNat ∧ B.toNat ≤ 70))) :=
  beq_iff_eq.1 (u8_all (p := fun B => isHex B == (decide (48 ≤ B.toNat ∧ B.toNat ≤ 57) || (decide (97 ≤ B.toNat ∧ B.toNat ≤ 102) || decide (65 ≤ B.toNat ∧ B.toNat ≤ 70)))) (by decide +kernel) B)
theorem ret_bool {a b : Bool} (h : a = b) : Ending.returned (.bool a) = .returned (.bool b) := by rw [h]
theorem ret_nat {a b : Nat} (h : a = b) : Ending.returned (.int .i64 (a : Int)) = .returned (.int .i64 (b : Int)) := by rw [h]
set_option maxHeartbeats 400000 in
theorem rletter_calls (b : UInt8) (w : World) :
    Calls Tryz.prog 54 #[.int .u8 b.toNat] w fun e w' => e = .returned (.bool (isLetter b)) ∧ w' = w := by
  have Hs := Lib.hid (letter_nat b)
  go_enter Tryz.func54, Tryz.ntmps54
  go_wp2
  all_goals
    go_ret 
    refine ⟨ret_bool ?_, rfl⟩ 
    rw [Hs.out, Bool.eq_iff_iff] 
    simp only [Bool.or_eq_true, decide_eq_true_eq, beq_iff_eq, Bool.false_eq_true, true_iff, false_iff] 
    omega
set_option maxHeartbeats 400000 in
theorem rdigit_calls (b : UInt8) (w : World) :
    Calls Tryz.prog 69 #[.int .u8 b.toNat] w fun e w' => e = .returned (.bool (isDigit b)) ∧ w' = w := by
  have Hs := Lib.hid (digit_nat b)
  go_enter Tryz.func69, Tryz.ntmps69
  go_wp2
  all_goals
    go_ret 
    refine ⟨ret_bool ?_, rfl⟩ 
    rw [Hs.out, Bool.eq_iff_iff] 
    simp only [Bool.or_eq_true, decide_eq_true_eq, beq_iff_eq, Bool.false_eq_true, true_iff, false_iff] 
    omega
set_option maxHeartbeats 400000 in
theorem rblank_calls (b : UInt8) (w : World) :
    Calls Tryz.prog 50 #[.int .u8 b.toNat] w fun e w' => e = .returned (.bool (isBlank b)) ∧ w' = w := by
  have Hs := Lib.hid (blank_nat b)
  go_enter Tryz.func50, Tryz.ntmps50
  go_wp2
  all_goals
    go_ret 
    refine ⟨ret_bool ?_, rfl⟩ 
    rw [Hs.out, Bool.eq_iff_iff] 
    simp only [Bool.or_eq_true, decide_eq_true_eq, beq_iff_eq, Bool.false_eq_true, true_iff, false_iff] 
    omega
set_option maxHeartbeats 400000 in
theorem rhex_calls (b : UInt8) (w : World) :
    Calls Tryz.prog 67 #[.int .u8 b.toNat] w fun e w' => e = .returned (.bool (isHex b)) ∧ w' = w := by
  have Hs := Lib.hid (hexa_nat b)
  have hn := digit_nat b
  cases hd : isDigit b
  all_goals
    rw [hd] at hn
    have Hd := Lib.hid hd
    have hn' := hn.symm
    simp only [decide_eq_true_eq, decide_eq_false_iff_not] at hn'
    clear hd hn
    go_enter Tryz.func67, Tryz.ntmps67
    go_wp2_with (go_at_call 69; refine (rdigit_calls b _).mono ?_; rw [Hd.out]; rintro e w' ⟨rfl, rfl⟩)
    all_goals
      go_ret 
      refine ⟨ret_bool ?_, rfl⟩ 
      rw [Hs.out, Bool.eq_iff_iff] 
      simp only [Bool.or_eq_true, decide_eq_true_eq, beq_iff_eq, Bool.false_eq_true, true_iff, false_iff] 
      omega

set_option maxHeartbeats 400000 in
set_option maxRecDepth 20000 in
theorem rdigits_calls (s : ByteArray) (w : World) (hs : s.size < 4611686018427387904) :
    Calls Tryz.prog 70 #[.string s] w fun e w' => e = .returned (.int .i64 (runOf isDigit s.data.toList : Nat)) ∧ w' = w := by
  have hsz := Lib.size_eq s
  go_enter Tryz.func70, Tryz.ntmps70
  go_wp2
  go_loopw [3] (fun i wr => ∃ n : Nat, n ≤ s.size ∧ i = .int .i64 n ∧ n + runOf isDigit (s.data.toList.drop n) = runOf isDigit s.data.toList ∧ wr = w) (fun i _ => s.size - (intOf i).toNat)
  case atStart => exact ⟨0, by omega, rfl, by simp, rfl⟩
  case round =>
    obtain ⟨n, hn, rfl, hrun, rfl⟩ := hrel
    by_cases hlt : n < s.size
    · have hb : s.data.toList[n]? = some s[n] := by rw [List.getElem?_eq_getElem (by omega)]; rfl
      have Hrun := Lib.hid hrun
      have Hsz := Lib.hid hsz
      have Hb := Lib.hid hb
      clear hrun hsz hb
      cases hpb : isDigit s[n]
      all_goals
        have Hpb := Lib.hid hpb
        clear hpb
        go_wp2_with (go_at_call 69; refine (rdigit_calls _ _).mono ?_; rw [Hpb.out]; rintro e w' ⟨rfl, rfl⟩)
      · go_ret
        refine ⟨ret_nat ?_, rfl⟩
        have h1 := Hrun.out
        rw [runOf_drop_miss _ _ n _ Hb.out Hpb.out] at h1
        exact h1
      · go_roundw
        case rel =>
          have h1 := Hrun.out
          rw [runOf_drop_hit _ _ n _ Hb.out Hpb.out] at h1
          exact ⟨n + 1, by omega, by go_num, by omega, trivial⟩
        case measure => simp [intOf]; omega
    · obtain rfl : n = s.size := by omega
      have Hrun := Lib.hid hrun
      have Hsz := Lib.hid hsz
      clear hrun hsz
      go_wp2
      go_ret
      refine ⟨ret_nat ?_, rfl⟩
      have h1 := Hrun.out
      rw [runOf_drop_end _ _ _ (Nat.le_of_eq Hsz.out.symm)] at h1
      exact h1

set_option maxHeartbeats 1000000 in
set_option maxRecDepth 20000 in
theorem rsimple_calls (s : ByteArray) (w : World) (hs : s.size < 4611686018427387904) :
    Calls Tryz.prog 68 #[.string s] w fun e w' => e = .returned (.int .i64 (simpleN s.data.toList : Nat)) ∧ w' = w := by
  by_cases h0 : s.size = 0
  · obtain rfl : s = ByteArray.empty := ByteArray.size_eq_zero_iff.1 h0
    go_enter Tryz.func68, Tryz.ntmps68
    go_wp2
    go_ret
    exact ⟨rfl, rfl⟩
  · have hlt : 0 < s.size := by omega
    have hsz := Lib.size_eq s
    have hl := cons_of s hlt
    have hsp : simpleN s.data.toList = if isLetter s[0] then runOf isPart s.data.toList else 0 := by rw [hl]; rfl
    obtain ⟨he, he2⟩ := not_empty s hlt
    have Hsp := Lib.hid hsp
    clear hsp
    cases hL : isLetter s[0]
    all_goals
      have HL := Lib.hid hL
      rw [hL] at Hsp
    · clear hL hl hsz
      go_enter Tryz.func68, Tryz.ntmps68
      go_wp2_with (go_at_call 54; refine (rletter_calls _ _).mono ?_; rw [HL.out]; rintro e w' ⟨rfl, rfl⟩)
      go_ret
      exact ⟨by rw [Hsp.out]; rfl, rfl⟩
    · have h1 : 1 + runOf isPart (s.data.toList.drop 1) = runOf isPart s.data.toList := by
        have := runOf_drop_hit isPart s.data.toList 0 s[0] (by rw [List.getElem?_eq_getElem (by omega)]; rfl) (by unfold isPart; rw [hL]; rfl)
        rw [List.drop_zero, Nat.zero_add] at this; omega
      have H1 := Lib.hid h1
      have Hsz := Lib.hid hsz
      clear hL hl h1 hsz
      go_enter Tryz.func68, Tryz.ntmps68
      go_wp2_with (go_at_call 54; refine (rletter_calls _ _).mono ?_; rw [HL.out]; rintro e w' ⟨rfl, rfl⟩)
      go_loopw [3] (fun i wr => ∃ n : Nat, 1 ≤ n ∧ n ≤ s.size ∧ i = .int .i64 n ∧ Hid (n + runOf isPart (s.data.toList.drop n) = runOf isPart s.data.toList) ∧ wr = w') (fun i _ => s.size - (intOf i).toNat)
      case atStart => exact ⟨1, by omega, by omega, rfl, H1, rfl⟩
      case round =>
        obtain ⟨n, hn1, hn, rfl, Hrun, rfl⟩ := hrel
        clear H1
        by_cases hlt : n < s.size
        · have Hb := Lib.hid (show s.data.toList[n]? = some s[n] from by rw [List.getElem?_eq_getElem (by have := Hsz.out; omega)]; rfl)
          cases hpl : isLetter s[n]
          · cases hpd : isDigit s[n]
            all_goals
              have Hpp := Lib.hid (show isPart s[n] = _ from by unfold isPart; rw [hpl, hpd])
              have Hpl := Lib.hid hpl
              have Hpd := Lib.hid hpd
              clear hpl hpd
              go_wp2_with (first | (go_at_call 54; refine (rletter_calls _ _).mono ?_; rw [Hpl.out]; rintro e w' ⟨rfl, rfl⟩) | (go_at_call 69; refine (rdigit_calls _ _).mono ?_; rw [Hpd.out]; rintro e w' ⟨rfl, rfl⟩))
            · go_ret
              refine ⟨?_, rfl⟩
              have h1 := Hrun.out
              rw [runOf_drop_miss _ _ n _ Hb.out Hpp.out] at h1
              rw [Hsp.out]
              exact ret_nat h1
            · go_roundw
              case rel =>
                have h1 := Hrun.out
                rw [runOf_drop_hit _ _ n _ Hb.out Hpp.out] at h1
                exact ⟨n + 1, by omega, by omega, by go_num, Lib.hid (by omega), trivial⟩
              case measure => simp [intOf]; omega
          · have Hpp := Lib.hid (show isPart s[n] = true from by unfold isPart; rw [hpl]; rfl)
            have Hpl := Lib.hid hpl
            clear hpl
            go_wp2_with (go_at_call 54; refine (rletter_calls _ _).mono ?_; rw [Hpl.out]; rintro e w' ⟨rfl, rfl⟩)
            go_roundw
            case rel =>
              have h1 := Hrun.out
              rw [runOf_drop_hit _ _ n _ Hb.out Hpp.out] at h1
              exact ⟨n + 1, by omega, by omega, by go_num, Lib.hid (by omega), trivial⟩
            case measure => simp [intOf]; omega
        · obtain rfl : n = s.size := by omega
          go_wp2
          go_ret
          refine ⟨?_, rfl⟩
          have h1 := Hrun.out
          rw [runOf_drop_end _ _ _ (Nat.le_of_eq Hsz.out.symm)] at h1
          rw [Hsp.out]
          exact ret_nat h1
end Go.Proofs.YtiinhkfbgecbjaaGreatDoor
